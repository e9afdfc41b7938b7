/- ref47: in, has, is, independent. -/
import Derived.Test.YtcmlhpodghfheaaDoorT9
import Derived.Test.YtcmlhpodghfheaaDoorR2
set_option linter.unusedSimpArgs false
set_option linter.unusedVariables false
namespace Go.Proofs.YtcmlhpodghfheaaDoor
open Go.RowKit Go.Shelf

set_option maxHeartbeats 1000000 in
/-- ref47.in -/
theorem in_any (v : Value) (m : Mat) (s i j : Nat) (w : World) (hv : RMatV w v m) (hm : m.small) (hs : s < 64) (hi : i < 64) (hj : j < 64) :
    Calls Tryd.prog 110 #[v, .int .u64 (s : Int), .int .i64 (i : Int), .int .i64 (j : Int)] w fun e w' => e = .returned (.bool (s.testBit j && (m.hav s).testBit i)) ∧ Gr w w' := by
  have HV := Lib.hid hv
  obtain ⟨u, rfl, hu⟩ := hv
  obtain ⟨pu, cu, rfl⟩ := hu.slice
  generalize m.cols = C at *
  generalize m.rows.length = R at *
  clear hu
  have hb := tmod_bit s j
  cases h : s.testBit j with
  | false =>
    rw [h] at hb
    clear h
    go_enter Tryd.func110, Tryd.ntmps110
    go_wp2
    go_ret
    exact ⟨by simp, (Gr.refl _).alloc _⟩
  | true =>
    rw [h] at hb
    clear h
    go_enter Tryd.func110, Tryd.ntmps110
    go_wp2_with fail
    refine (rhav_any _ m s _ (HV.out.gr ((Gr.refl w).alloc _)) hm hs).mono ?_
    rintro e w1 ⟨rfl, hx1⟩
    have hb2 := tmod_bit (m.hav s) i
    have HX := Lib.hid (((Gr.refl w).alloc _).trans hx1)
    clear hx1
    go_wp2
    go_ret
    exact ⟨by simp, HX.out⟩

set_option maxHeartbeats 1000000 in
/-- ref47.has -/
theorem has47_any (v : Value) (l : List Nat) (n : Nat) (w : World) (hv : Ints w v l) (hl : l.length < 1000000) (hb : ∀ x ∈ l, x < 1000000) (hn : n < 1000000) :
    Calls Tryd.prog 70 #[v, .int .i64 (n : Int)] w fun e w' => e = .returned (.bool (hasB l n)) ∧ w = w' := by
  have HV := Lib.hid hv
  obtain ⟨pv, cv, rfl⟩ := hv.slice
  have hi := hasB_iff l n
  have HI := Lib.hid hi
  obtain ⟨L, hL⟩ : ∃ L, L = l.length := ⟨_, rfl⟩
  have HL := Lib.hid hL
  rw [← hL] at hl HV ⊢
  clear hv hL hi hb
  go_enter Tryd.func70, Tryd.ntmps70
  go_wp2_with fail
  go_loop [9] (fun q => ∃ k : Nat, k ≤ L ∧ q = .int .i64 k ∧ ∀ i, i < k → l.getD i 0 ≠ n) (fun q => L - (intOf q).toNat)
  case atStart => exact ⟨0, Nat.zero_le _, rfl, fun i hi => by omega⟩
  case round =>
    obtain ⟨k, hk, rfl, hno⟩ := hrel
    have HN := Lib.hid hno
    clear hno
    by_cases hlt : k < L
    · rcases HV.out with ⟨h0, _⟩ | ⟨hne, b, o, c, hsl, hcell⟩
      · have := HL.out; rw [h0] at this; simp at this; omega
      · rw [← HL.out] at hsl
        simp only [Value.slice.injEq] at hsl
        obtain ⟨rfl, -, rfl⟩ := hsl
        have hx := hcell k (by rw [← HL.out]; exact hlt)
        have hmem : l.getD k 0 ∈ l := by rw [List.getD_eq_getElem?_getD, List.getElem?_eq_getElem (by rw [← HL.out]; exact hlt)]; simp
        have HM := Lib.hid hmem
        obtain ⟨x, hxx⟩ : ∃ x, x = l.getD k 0 := ⟨_, rfl⟩
        rw [← hxx] at hx HM
        have HX := Lib.hid hxx
        clear hcell hmem hxx
        by_cases he : x = n
        · have hr : hasB l n = true := HI.out.2 (by rw [← he]; exact HM.out)
          have HR := Lib.hid hr
          subst he
          clear hr
          go_wp2
          go_ret
          exact ⟨by rw [HR.out]; rfl, rfl⟩
        · have hne : ((x : Int) == (n : Int)) = false := by simp; omega
          have hno2 : ∀ i, i < k + 1 → l.getD i 0 ≠ n := fun i hi => by
            by_cases h : i = k
            · rw [h, ← HX.out]; exact he
            · exact HN.out i (by omega)
          have HN2 := Lib.hid hno2
          clear hno2 he
          go_wp2
          go_round
          case rel => exact ⟨k + 1, by omega, by go_num, HN2.out⟩
          case measure => simp [intOf]; omega
    · obtain rfl : k = L := by omega
      have hr : hasB l n = false := by
        rw [Bool.eq_false_iff]
        intro h
        obtain ⟨i, hi, he⟩ := List.getElem_of_mem (HI.out.1 h)
        exact HN.out i (by rw [HL.out]; exact hi) (by rw [List.getD_eq_getElem?_getD, List.getElem?_eq_getElem hi]; exact he)
      have HR := Lib.hid hr
      clear hr
      go_wp2
      go_ret
      exact ⟨by rw [HR.out]; rfl, rfl⟩

set_option maxHeartbeats 1000000 in
/-- ref47.is -/
theorem is47_any (v : Value) (l : List (Nat × Nat)) (n1 n2 : Nat) (w : World) (hv : Cells w v l) (hl : l.length < 1000000) :
    Calls Tryd.prog 71 #[v, .agg #[.int .i64 (n1 : Int), .int .i64 (n2 : Int)]] w fun e w' => e = .returned (.bool (isB l (n1, n2))) ∧ Gr w w' := by
  have HV := Lib.hid hv
  obtain ⟨pv, cv, rfl⟩ := hv.slice
  have hi := isB_iff l (n1, n2)
  have HI := Lib.hid hi
  obtain ⟨L, hL⟩ : ∃ L, L = l.length := ⟨_, rfl⟩
  have HL := Lib.hid hL
  rw [← hL] at hl HV ⊢
  clear hv hL hi
  go_enter Tryd.func71, Tryd.ntmps71
  go_wp2_with fail
  refine name_wp fun W hW => ?_
  have hX : Gr w W := by rw [hW]; exact (Gr.refl _).alloc _
  have f0 : W.cell? ⟨w.heap.size, 0, none⟩ = some (.int .i64 (n1 : Int)) := by rw [hW]; go_simp
  have f1 : W.cell? ⟨w.heap.size, 1, none⟩ = some (.int .i64 (n2 : Int)) := by rw [hW]; go_simp
  clear hW
  have HX := Lib.hid hX
  clear hX
  go_loopw [9] (fun q wr => ∃ k : Nat, k ≤ L ∧ q = .int .i64 k ∧ Gr W wr ∧ ∀ i, i < k → l.getD i (0, 0) ≠ (n1, n2)) (fun q _ => L - (intOf q).toNat)
  case atStart => exact ⟨0, Nat.zero_le _, rfl, Gr.refl _, fun i hi => by omega⟩
  case round =>
    obtain ⟨k, hk, rfl, hG, hno⟩ := hrel
    have HN := Lib.hid hno
    have HG := Lib.hid hG
    have g0 := hG.cell f0
    have g1 := hG.cell f1
    have lr : w.heap.size < wr.heap.size := World.block_lt_of_cell? _ _ g0
    clear hno hG
    by_cases hlt : k < L
    · rcases HV.out with ⟨h0, _⟩ | ⟨hne, b, o, c, hsl, _, hcell⟩
      · have := HL.out; rw [h0] at this; simp at this; omega
      · rw [← HL.out] at hsl
        simp only [Value.slice.injEq] at hsl
        obtain ⟨rfl, -, rfl⟩ := hsl
        have hx := hcell k (by rw [← HL.out]; exact hlt)
        have hmem : l.getD k (0, 0) ∈ l := by rw [List.getD_eq_getElem?_getD, List.getElem?_eq_getElem (by rw [← HL.out]; exact hlt)]; simp
        have HM := Lib.hid hmem
        obtain ⟨⟨x1, x2⟩, hxx⟩ : ∃ x : Nat × Nat, x = l.getD k (0, 0) := ⟨_, rfl⟩
        rw [← hxx] at hx HM
        have HXX := Lib.hid hxx
        have hx1 := HG.out.cell (HX.out.cell hx.1)
        have hx2 := HG.out.cell (HX.out.cell hx.2)
        simp only [] at hx1 hx2
        have lb := World.block_lt_of_cell? _ _ hx1
        simp only [] at lb
        clear hcell hmem hxx hx
        have heq : ((x1 : Int) == (n1 : Int) && (x2 : Int) == (n2 : Int)) = decide ((x1, x2) = (n1, n2)) := by
          rw [Bool.eq_iff_iff]; simp [Prod.ext_iff]; omega
        by_cases he : (x1, x2) = (n1, n2)
        · have hr : isB l (n1, n2) = true := HI.out.2 (by rw [← he]; exact HM.out)
          have HR := Lib.hid hr
          rw [decide_eq_true he] at heq
          have hep : ∀ w, (binOp .eql 40 (.agg #[.int .i64 (x1 : Int), .int .i64 (x2 : Int)]) (.agg #[.int .i64 (n1 : Int), .int .i64 (n2 : Int)])).run Tryd.prog w = .ok (.bool true) w := fun w => by rw [eql_pair, heq]
          clear hr he heq
          go_wp2
          go_ret
          exact ⟨by rw [HR.out]; rfl, HX.out.trans (HG.out.trans ((Gr.refl _).alloc _))⟩
        · rw [decide_eq_false he] at heq
          have hep : ∀ w, (binOp .eql 40 (.agg #[.int .i64 (x1 : Int), .int .i64 (x2 : Int)]) (.agg #[.int .i64 (n1 : Int), .int .i64 (n2 : Int)])).run Tryd.prog w = .ok (.bool false) w := fun w => by rw [eql_pair, heq]
          have hno2 : ∀ i, i < k + 1 → l.getD i (0, 0) ≠ (n1, n2) := fun i hi => by
            by_cases h : i = k
            · rw [h, ← HXX.out]; exact he
            · exact HN.out i (by omega)
          have HN2 := Lib.hid hno2
          clear hno2 he heq
          go_wp2
          go_roundw
          case rel => exact ⟨k + 1, by omega, by go_num, HG.out.trans ((Gr.refl _).alloc _), HN2.out⟩
          case measure => simp [intOf]; omega
    · obtain rfl : k = L := by omega
      have hr : isB l (n1, n2) = false := by
        rw [Bool.eq_false_iff]
        intro h
        obtain ⟨i, hi, he⟩ := List.getElem_of_mem (HI.out.1 h)
        exact HN.out i (by rw [HL.out]; exact hi) (by rw [List.getD_eq_getElem?_getD, List.getElem?_eq_getElem hi]; exact he)
      have HR := Lib.hid hr
      clear hr
      go_wp2
      go_ret
      exact ⟨by rw [HR.out]; rfl, HX.out.trans HG.out⟩

set_option maxHeartbeats 1000000 in
/-- ref47.independent -/
theorem rindep_any (v : Value) (m : Mat) (a1 a2 b1 b2 : Nat) (w : World) (hv : RMatV w v m) (hm : m.ok) (h1 : a1 < 64) (h2 : a2 < 64) (h3 : b1 < 64) (h4 : b2 < 64) :
    Calls Tryd.prog 106 #[v, .agg #[.int .i64 (a1 : Int), .int .i64 (a2 : Int)], .agg #[.int .i64 (b1 : Int), .int .i64 (b2 : Int)]] w fun e w' => e = .returned (.bool (m.indep (a1, a2) (b1, b2))) ∧ Gr w w' := by
  have HV := Lib.hid hv
  have HM := Lib.hid hm
  obtain ⟨u, rfl, hu⟩ := hv
  obtain ⟨pu, cu, rfl⟩ := hu.slice
  have hid : m.indep (a1, a2) (b1, b2) = (!m.has a1 b2 || !m.has b1 a2) := rfl
  have HID := Lib.hid hid
  generalize m.cols = C at *
  generalize m.rows.length = R at *
  clear hu hm hid
  go_enter Tryd.func106, Tryd.ntmps106
  go_wp2_with fail
  refine name_calls fun W hW => ?_
  have hX : Gr w W := by rw [hW]; repeat (first | exact Gr.refl _ | refine Gr.alloc ?_ _)
  have f0 : W.cell? ⟨w.heap.size, 0, none⟩ = some (.int .i64 (C : Int)) := by rw [hW]; go_simp
  have f1 : W.cell? ⟨w.heap.size, 1, none⟩ = some (.slice pu R cu) := by rw [hW]; go_simp
  have f3 : W.cell? ⟨w.heap.size + 1, 1, none⟩ = some (.int .i64 (a2 : Int)) := by rw [hW]; go_simp
  have f4 : W.cell? ⟨w.heap.size + 1 + 1, 0, none⟩ = some (.int .i64 (b1 : Int)) := by rw [hW]; go_simp
  clear hW
  have HX := Lib.hid hX
  clear hX
  refine (rhas_any _ m a1 b2 W (HV.out.gr HX.out) HM.out (by omega) (by omega)).mono ?_
  rintro e w1 ⟨rfl, hx1⟩
  have g0 := hx1.cell f0
  have g1 := hx1.cell f1
  have g3 := hx1.cell f3
  have g4 := hx1.cell f4
  have HX1 := Lib.hid (HX.out.trans hx1)
  clear hx1 f0 f1 f3 f4
  cases hb : m.has a1 b2 with
  | false =>
    have hr := HID.out
    rw [hb] at hr
    simp only [Bool.not_false, Bool.true_or] at hr
    have HR := Lib.hid hr
    clear hr hb
    go_wp2
    go_ret
    exact ⟨by rw [HR.out]; rfl, HX1.out⟩
  | true =>
    have hr := HID.out
    rw [hb] at hr
    simp only [Bool.not_true, Bool.false_or] at hr
    have HR := Lib.hid hr
    clear hr hb
    go_wp2_with fail
    refine (rhas_any _ m b1 a2 _ (HV.out.gr HX1.out) HM.out (by omega) (by omega)).mono ?_
    rintro e w2 ⟨rfl, hx2⟩
    have HX2 := Lib.hid (HX1.out.trans hx2)
    clear hx2
    go_wp2
    go_ret
    exact ⟨by rw [HR.out]; rfl, HX2.out⟩
end Go.Proofs.YtcmlhpodghfheaaDoor
