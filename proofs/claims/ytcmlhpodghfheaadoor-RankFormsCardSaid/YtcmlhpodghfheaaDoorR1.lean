/- Package rank: independent cells, the lectic order. -/
import Derived.Test.YtcmlhpodghfheaaDoorR0
set_option linter.unusedSimpArgs false
set_option linter.unusedVariables false
namespace Go.Proofs.YtcmlhpodghfheaaDoor
open Go.RowKit Go.Shelf

/-- The first column in which two sets part. -/
def sym (s t : Nat) : Nat := minus s t ||| minus t s
/-- The lectic order of sets. -/
def lec (s t : Nat) : Int := if sym s t = 0 then 0 else if t.testBit (ctz (sym s t)) then -1 else 1

theorem minus_le (s t : Nat) : minus s t ≤ s := Nat.and_le_left
theorem sym_lt {s t : Nat} (hs : s < 64) (ht : t < 64) : sym s t < 64 :=
  Nat.or_lt_two_pow (n := 6) (Nat.lt_of_le_of_lt (minus_le s t) hs) (Nat.lt_of_le_of_lt (minus_le t s) ht)

set_option maxHeartbeats 1000000 in
/-- rank.lectic -/
theorem lectic_any (v v2 : Value) (s t : Nat) (w : World) (hs : SetV w v s) (ht : SetV w v2 t) (s64 : s < 64) (t64 : t < 64) (htab : TabOk w) :
    Calls Tryd.prog 58 #[v, v2] w fun e w' => e = .returned (.int .i64 (lec s t)) ∧ Ext w w' := by
  obtain ⟨u1, rfl, h1⟩ := hs
  have hs' : SetV w (.agg #[u1]) s := ⟨u1, rfl, h1⟩
  obtain ⟨u2, rfl, h2⟩ := ht
  have ht' : SetV w (.agg #[u2]) t := ⟨u2, rfl, h2⟩
  have hsy := sym_lt s64 t64
  have hcz := ctz_lt _ hsy
  clear h1 h2
  go_enter Tryd.func58, Tryd.ntmps58
  go_wp2_with fail
  refine name_wp fun W hW => ?_
  have hX : Ext w W := by rw [hW]; exact ((Ext.refl _).alloc _).alloc _
  have f1 : W.cell? ⟨w.heap.size, 0, none⟩ = some u1 := by rw [hW]; go_simp
  have f2 : W.cell? ⟨w.heap.size + 1, 0, none⟩ = some u2 := by rw [hW]; go_simp
  clear hW
  go_region_held3 (fun w' => Ext w w' ∧ w'.cell? ⟨w.heap.size, 0, none⟩ = some (u1) ∧ w'.cell? ⟨w.heap.size + 1, 0, none⟩ = some (u2))
    (first | exact ⟨hX.drew, f1, f2⟩ | (have hh := ‹Ext w _ ∧ _ ∧ _›; exact ⟨hh.1.trans hx1, hx1.cell hh.2.1, hx1.cell hh.2.2⟩) | (have hh := ‹Ext w _ ∧ _ ∧ _›; exact ⟨(hh.1).setCell (by simp only []; omega) _, cell?_setCell_ne (hh.2.1) (by simp <;> omega), cell?_setCell_ne (hh.2.2) (by simp <;> omega)⟩))
    (first | (go_at_call 68; have hh := ‹Ext w _ ∧ _ ∧ _›; (with_reducible refine (minus_any _ _ s t _ (hs'.ext hh.1) (ht'.ext hh.1)).mono ?_); rintro e w1 ⟨p1, n1, c1, rfl, hv1, hx1⟩) | (go_at_call 68; have hh := ‹Ext w _ ∧ _ ∧ _›; (with_reducible refine (minus_any _ _ t s _ (ht'.ext hh.1) (hs'.ext hh.1)).mono ?_); rintro e w1 ⟨p2, n2, c2, rfl, hv2, hx1⟩; have hv1 := hv1.ext hx1) | (go_at_call 89; have hh := ‹Ext w _ ∧ _ ∧ _›; (with_reducible refine (or_any _ _ (minus s t) (minus t s) _ hv1 hv2).mono ?_); rintro e w1 ⟨p3, n3, c3, rfl, hv3, hx1⟩) | (go_at_call 99; have hh := ‹Ext w _ ∧ _ ∧ _›; (with_reducible refine (least_any _ (sym s t) _ hv3 hsy (htab.ext hh.1)).mono ?_); rintro e w1 ⟨rfl, hx1⟩))
  have hh := ‹Ext w _ ∧ _ ∧ _›
  have e2 := hh.2.2
  have hE := hh.1
  by_cases h0 : sym s t = 0
  · have hd : decide (sym s t = 0) = true := by simp [h0]
    have H0 := Lib.hid h0
    clear h0
    rw [hd]
    go_wp2
    go_ret
    exact ⟨by simp [lec, H0.out], hE⟩
  · have hd : decide (sym s t = 0) = false := by simp [h0]
    have H0 := Lib.hid h0
    have HT := Lib.hid (ht'.ext hE)
    clear h0
    rw [hd]
    go_wp2_with fail
    refine (has_any _ t (ctz (sym s t)) _ HT.out hcz).mono ?_
    rintro e w2 ⟨rfl, hx2⟩
    cases hb : t.testBit (ctz (sym s t)) with
    | true =>
      go_wp2
      go_ret
      exact ⟨by simp [lec, H0.out, hb], hE.trans hx2⟩
    | false =>
      go_wp2
      go_ret
      exact ⟨by simp [lec, H0.out, hb], hE.trans hx2⟩

/-- The slice value v is that of the pairs cs. -/
def Cells (w : World) (v : Value) (cs : List (Nat × Nat)) : Prop :=
  (cs = [] ∧ ∃ p c, v = .slice p 0 c) ∨ (cs ≠ [] ∧ ∃ b o c, v = .slice (some ⟨b, o, none⟩) cs.length c ∧ cs.length ≤ c ∧ ∀ i, i < cs.length →
    w.cell? ⟨b, o + i * 2, none⟩ = some (.int .i64 (((cs.getD i (0, 0)).1 : Nat) : Int)) ∧ w.cell? ⟨b, o + i * 2 + 1, none⟩ = some (.int .i64 (((cs.getD i (0, 0)).2 : Nat) : Int)))

/-- No rectangle of ones holds both. -/
def Mat.indep (m : Mat) (a b : Nat × Nat) : Bool := !m.has a.1 b.2 || !m.has b.1 a.2

set_option maxHeartbeats 400000 in
/-- rank.independent -/
theorem indep_any (v : Value) (m : Mat) (a1 a2 b1 b2 : Nat) (w : World) (hv : MatV w v m) (hm : m.ok) (h1 : a1 < 64) (h2 : a2 < 64) (h3 : b1 < 64) (h4 : b2 < 64) :
    Calls Tryd.prog 101 #[v, .agg #[.int .i64 (a1 : Int), .int .i64 (a2 : Int)], .agg #[.int .i64 (b1 : Int), .int .i64 (b2 : Int)]] w fun e w' => e = .returned (.bool (m.indep (a1, a2) (b1, b2))) ∧ Gr w w' := by
  have hv0 := Lib.hid hv
  have hm' := Lib.hid hm
  clear hv hm
  go_enter Tryd.func101, Tryd.ntmps101
  go_wp2_with fail
  refine (mhas_any _ m a1 b2 _ (hv0.out.gr (((Gr.refl _).alloc _).alloc _)) hm'.out h1 h4).mono ?_
  rintro e w1 ⟨rfl, hx1⟩
  have g1 := hx1.cell (p := ⟨w.heap.size + 1, 0, none⟩) (v := .int .i64 (b1 : Int)) (by go_simp)
  have g2 := hx1.cell (p := ⟨w.heap.size, 1, none⟩) (v := .int .i64 (a2 : Int)) (by go_simp)
  have hG := (((Gr.refl w).alloc _).alloc _).trans hx1
  have HG := Lib.hid hG
  clear hG
  cases hb : m.has a1 b2 with
  | true =>
    go_wp2_with fail
    refine (mhas_any _ m b1 a2 _ (hv0.out.gr HG.out) hm'.out h3 h2).mono ?_
    rintro e w2 ⟨rfl, hx2⟩
    go_wp2
    go_ret
    exact ⟨by simp [Mat.indep, hb], HG.out.trans hx2⟩
  | false =>
    go_wp2_with fail
    go_ret
    exact ⟨by simp [Mat.indep, hb], HG.out⟩
end Go.Proofs.YtcmlhpodghfheaaDoor
