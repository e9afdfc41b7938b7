/- The reference's matrices: a row's ones. -/
import Derived.Test.YtcmlhpodghfheaaDoorT1
set_option linter.unusedSimpArgs false
set_option linter.unusedVariables false
namespace Go.Proofs.YtcmlhpodghfheaaDoor
open Go.RowKit Go.Shelf

def Mat.ones (m : Mat) (i k : Nat) : List Nat := (List.range k).filter fun j => m.has i j
theorem ones_succ (m : Mat) (i k : Nat) : m.ones i (k + 1) = m.ones i k ++ (if m.has i k then [k] else []) := by
  simp only [Mat.ones, List.range_succ, List.filter_append, List.filter_cons, List.filter_nil]
theorem ones_len (m : Mat) (i k : Nat) : (m.ones i k).length ≤ k := Nat.le_trans (List.length_filter_le _ _) (by simp)

set_option maxHeartbeats 1000000 in
set_option maxRecDepth 100000 in
/-- ref44.Row; the row is new. -/
theorem rrow_fresh (v : Value) (m : Mat) (i : Nat) (w : World) (hv : RMatV w v m) (hm : m.ok) (hi : i < 1000) :
    Calls Tryd.prog 29 #[v, .int .i64 (i : Int)] w fun e w' => (∃ p n c, e = .returned (.slice p n c) ∧ Ints w' (.slice p n c) (m.ones i m.cols) ∧ ∀ g, Value.ownBlock (.slice p n c) = some g → w.heap.size ≤ g) ∧ Gr w w' := by
  have HV := Lib.hid hv
  have HM := Lib.hid hm
  obtain ⟨u, rfl, hu⟩ := hv
  obtain ⟨pu, cu, rfl⟩ := hu.slice
  obtain ⟨i0, hi0, hz0, hz1, hz2⟩ := info_parts info_int
  obtain ⟨ho1, ho2⟩ := hm
  obtain ⟨C, hC⟩ : ∃ C, C = m.cols := ⟨_, rfl⟩
  have HC := Lib.hid hC
  rw [← hC] at ho1 HV ⊢
  generalize m.rows.length = n at *
  clear hu hC
  go_enter Tryd.func29, Tryd.ntmps29
  go_wp2_with fail
  refine name_wp fun W hW => ?_
  have hX : Gr w W := by rw [hW]; exact (Gr.refl _).alloc _
  have f0 : W.cell? ⟨w.heap.size, 0, none⟩ = some (.int .i64 (C : Int)) := by rw [hW]; go_simp
  have f1 : W.cell? ⟨w.heap.size, 1, none⟩ = some (.slice pu n cu) := by rw [hW]; go_simp
  clear hW
  have HX := Lib.hid hX
  have lW : w.heap.size < W.heap.size := World.block_lt_of_cell? _ _ f0
  clear hX
  go_loopw [5, 6] (fun l q wr => ∃ k : Nat, k ≤ C ∧ q = .int .i64 k ∧ Gr W wr ∧ wr.ownsRow W.heap.size 3 1 l (m.ones i k).length ((m.ones i k).map fun x => .int .i64 ((x : Nat) : Int))) (fun _ q _ => C - (intOf q).toNat)
  case atStart => exact ⟨0, Nat.zero_le _, rfl, Gr.refl _, World.ownsRow_nil _ _ _ _⟩
  case round =>
    obtain ⟨k, hk, rfl, hG, hown⟩ := hrel
    have HG := Lib.hid hG
    have HO := Lib.hid hown
    have g0 := hG.cell f0
    have g1 := hG.cell f1
    have lr : w.heap.size < wr.heap.size := World.block_lt_of_cell? _ _ g0
    clear hG hown
    by_cases hlt : k < C
    · have hos := ones_succ m i k
      have hol := ones_len m i k
      cases hb : m.has i k with
      | true =>
        rw [hb, if_pos rfl] at hos
        have HOS := Lib.hid hos
        clear hos
        go_wp2_with fail
        refine (rhas_any _ m i k _ (HV.out.gr (HX.out.trans HG.out)) HM.out hi (by omega)).mono ?_
        rintro e w1 ⟨rfl, hx1⟩
        rw [hb]
        have HO1 := Lib.hid (own_gr HO.out hx1)
        have HG1 := Lib.hid (HG.out.trans hx1)
        have l1 : W.heap.size ≤ w1.heap.size := HG1.out.size
        clear hx1
        go_wp2_with (at_builtin; refine wpl_append rfl _ _ 36 rfl W.heap.size 3 i0 (.int .i64 0) 1 8 und_ints hi0 hz0 hz1 hz2 rfl (by decide) u5 _ _ rfl (own_gr HO1.out ((Gr.refl w1).alloc _)) ⟨w1.heap.size, 0, none⟩ 1 1 [.int .i64 (k : Int)] rfl rfl (cell_one_new _ _ _) (by simp [Value.oneCell']) (by simp only [maxLen]; omega) (by omega) (by simp; omega) ?_)
        intro v' w2 hown' hg' _
        have HG2 := Lib.hid (app_gr HG1.out HO1.out (Nat.le_refl _) hg')
        have HO2 := Lib.hid hown'
        clear hown' hg'
        go_wp2
        go_roundw
        case rel => exact ⟨k + 1, by omega, by go_num, HG2.out, by rw [HOS.out]; simpa using HO2.out⟩
        case measure => simp [intOf]; omega
      | false =>
        rw [hb, if_neg (by simp), List.append_nil] at hos
        have HOS := Lib.hid hos
        clear hos
        go_wp2_with fail
        refine (rhas_any _ m i k _ (HV.out.gr (HX.out.trans HG.out)) HM.out hi (by omega)).mono ?_
        rintro e w1 ⟨rfl, hx1⟩
        rw [hb]
        have HO1 := Lib.hid (own_gr HO.out hx1)
        have HG1 := Lib.hid (HG.out.trans hx1)
        have q0 := hx1.cell g0
        have l1 : w.heap.size < w1.heap.size := World.block_lt_of_cell? _ _ q0
        clear hx1
        go_wp2
        go_roundw
        case rel => exact ⟨k + 1, by omega, by go_num, HG1.out, by rw [HOS.out]; exact HO1.out⟩
        case measure => simp [intOf]; omega
    · obtain rfl : k = C := by omega
      have ho := HO.out
      obtain ⟨p', n', c', rfl⟩ : ∃ p n c, u5 = .slice p n c := by
        rcases ho.2 with ⟨rfl, _⟩ | ⟨g, cap, cur, rfl, _⟩ <;> exact ⟨_, _, _, rfl⟩
      have HI := Lib.hid (own_ints ho)
      have HF := Lib.hid (show ∀ g, Value.ownBlock (.slice p' n' c') = some g → w.heap.size ≤ g from fun g hg => by have := (World.ownsRow.lt ho g hg).1; omega)
      clear ho
      go_wp2
      go_ret
      exact ⟨⟨_, _, _, rfl, HI.out, HF.out⟩, HX.out.trans HG.out⟩
/-- ref44.Row -/
theorem rrow_any (v : Value) (m : Mat) (i : Nat) (w : World) (hv : RMatV w v m) (hm : m.ok) (hi : i < 1000) :
    Calls Tryd.prog 29 #[v, .int .i64 (i : Int)] w fun e w' => (∃ p n c, e = .returned (.slice p n c) ∧ Ints w' (.slice p n c) (m.ones i m.cols)) ∧ Gr w w' :=
  (rrow_fresh v m i w hv hm hi).mono fun _ _ ⟨⟨p, n, c, a, b, _⟩, d⟩ => ⟨⟨p, n, c, a, b⟩, d⟩
end Go.Proofs.YtcmlhpodghfheaaDoor
