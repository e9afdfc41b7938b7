/- Package closure: the closure, closed sets, concepts. -/
import Derived.Test.YtcmlhpodghfheaaDoorC1
import Derived.Deep.RegionHeld3
set_option linter.unusedSimpArgs false
set_option linter.unusedVariables false
namespace Go.Proofs.YtcmlhpodghfheaaDoor
open Go.RowKit Go.Shelf

def Mat.small (m : Mat) : Prop := m.cols ≤ 6 ∧ m.rows.length ≤ 6
theorem Mat.small.ok {m : Mat} (h : m.small) : m.ok := ⟨by have := h.1; omega, by have := h.2; omega⟩
theorem belowN_small {n : Nat} (h : n ≤ 6) : belowN n < 64 := by
  unfold belowN
  have : 2 ^ n ≤ 2 ^ 6 := Nat.pow_le_pow_right (by omega) h
  omega
theorem foldl_and_le (f : Nat → Nat) (p : Nat → Prop) [DecidablePred p] (l : List Nat) (s : Nat) : l.foldl (fun s i => if p i then s &&& f i else s) s ≤ s := by
  induction l generalizing s with
  | nil => exact Nat.le_refl _
  | cons a l ih =>
    simp only [List.foldl_cons]
    refine Nat.le_trans (ih _) ?_
    split
    · exact Nat.and_le_left
    · exact Nat.le_refl _
theorem common_lt {m : Mat} (h : m.small) (l : List Nat) : m.common l < 64 := Nat.lt_of_le_of_lt (foldl_and_le _ _ _ _) (belowN_small h.1)
theorem having_lt {m : Mat} (h : m.small) (l : List Nat) : m.having l < 64 := Nat.lt_of_le_of_lt (foldl_and_le _ _ _ _) (belowN_small h.2)

def Mat.hav (m : Mat) (s : Nat) : Nat := m.having (mems s)
def Mat.close (m : Mat) (s : Nat) : Nat := m.common (mems (m.hav s))
theorem hav_lt {m : Mat} (h : m.small) (s : Nat) : m.hav s < 64 := having_lt h _
theorem close_lt {m : Mat} (h : m.small) (s : Nat) : m.close s < 64 := common_lt h _

/-- closure.Close -/
theorem close_any (v v2 : Value) (m : Mat) (s : Nat) (w : World) (hv : MatV w v m) (hm : m.small) (hs : SetV w v2 s) (h64 : s < 64) (ht : TabOk w) :
    Calls Tryd.prog 95 #[v, v2] w (RetG (m.close s) w) := by
  have hv0 := Lib.hid hv
  have hm' := Lib.hid hm
  obtain ⟨u, rfl, hu⟩ := hs
  have hs0 : SetV w (.agg #[u]) s := ⟨u, rfl, hu⟩
  have hs' := Lib.hid hs0
  have ht' := Lib.hid ht
  clear hm hs0 hu ht hv
  go_enter Tryd.func95, Tryd.ntmps95
  go_wp2_with fail
  have hX : Gr w ((w.alloc (.cells #[u] 69)).alloc (.cells #[.slice none 0 0] 69)) := ((Gr.refl _).alloc _).alloc _
  refine (having_any _ _ m s _ (hv0.out.gr hX) hm'.out.ok (hs'.out.gr hX) h64 (ht'.out.gr hX)).mono ?_
  rintro e w1 ⟨p1, n1, c1, rfl, hv1, hx1⟩
  have hX1 := hX.trans hx1
  have r1 := hx1.cell (p := ⟨w.heap.size + 1, 0, none⟩) (v := .slice none 0 0) (by go_simp)
  have r2 := hx1.frz (p := ⟨w.heap.size + 1, 0, none⟩) (v := .slice none 0 0) (by go_simp) (by go_simp)
  clear hX hx1
  have HX1 := Lib.hid hX1
  clear hX1
  go_wp2_with fail
  refine (common_any _ _ m (m.hav s) _ (hv0.out.gr HX1.out) hm'.out.ok hv1 (hav_lt hm'.out s) (ht'.out.gr HX1.out)).mono ?_
  rintro e w2 ⟨p2, n2, c2, rfl, hv2, hx2⟩
  have r1' := hx2.cell r1
  have r2' := hx2.frz r1 r2
  clear r1 r2
  go_wp2
  have F := fin_setG (HX1.out.trans hx2) hv2 (by simp) r1' (by omega)
  exact ret_set rfl rfl rfl F.1 F.2

def Mat.own (m : Mat) (s : Nat) : Nat := s &&& belowN m.cols

set_option maxHeartbeats 2000000 in
/-- closure.own -/
theorem own_any (v v2 : Value) (m : Mat) (s : Nat) (w : World) (hv : MatV w v m) (hm : m.ok) (hs : SetV w v2 s) :
    Calls Tryd.prog 96 #[v, v2] w (RetG (m.own s) w) := by
  have hv0 := Lib.hid hv
  have hm' := Lib.hid hm
  obtain ⟨u, rfl, hu⟩ := hs
  have hs0 : SetV w (.agg #[u]) s := ⟨u, rfl, hu⟩
  have hs' := Lib.hid hs0
  have hmc := hm.1
  clear hm hs0 hu hv
  go_enter Tryd.func96, Tryd.ntmps96
  go_wp2_with fail
  refine name_wp fun W hW => ?_
  have hX : Gr w W := by rw [hW]; exact ((Gr.refl _).alloc _).alloc _
  have f1 : W.cell? ⟨w.heap.size, 0, none⟩ = some u := by rw [hW]; go_simp
  have f2 : W.cell? ⟨w.heap.size + 1, 0, none⟩ = some (.slice none 0 0) := by rw [hW]; go_simp
  have f3 : W.frozen? ⟨w.heap.size + 1, 0, none⟩ = false := by rw [hW]; go_simp
  clear hW
  have HX := Lib.hid hX
  clear hX
  go_region_with (first | (go_at_call 15; (with_reducible refine (columns_any _ m _ (hv0.out.gr (HX.out.trans (Gr.refl W).drew)) hm'.out).mono ?_); rintro e w' ⟨rfl, rfl⟩) | (go_at_call 49; (with_reducible refine (below_any m.cols _ hmc).mono ?_); rintro e w1 ⟨p1, n1, c1, rfl, hv1, hx1⟩; have g1 := hx1.gr.cell (p := ⟨w.heap.size, 0, none⟩) f1; have g2 := hx1.gr.cell (p := ⟨w.heap.size + 1, 0, none⟩) f2; have g3 := hx1.gr.frz (p := ⟨w.heap.size + 1, 0, none⟩) f2 f3) | (go_at_call 103; (with_reducible refine (and_any _ _ s (belowN m.cols) _ (hs'.out.gr ((HX.out.trans (Gr.refl W).drew).trans hx1.gr)) hv1).mono ?_); rintro e w2 ⟨p2, n2, c2, rfl, hv2, hx2⟩; have g4 := hx2.gr.cell g2; have g5 := hx2.gr.frz g2 g3))
  all_goals go_wp2
  all_goals
    have F := fin_setG (((HX.out.trans (Gr.refl W).drew).trans hx1.gr).trans hx2.gr) hv2 (by simp) g4 (by omega)
    exact ret_set rfl rfl rfl F.1 F.2

set_option maxHeartbeats 1000000 in
/-- closure.Closed -/
theorem closed_any (v v2 : Value) (m : Mat) (s : Nat) (w : World) (hv : MatV w v m) (hm : m.small) (hs : SetV w v2 s) (h64 : s < 64) (ht : TabOk w) :
    Calls Tryd.prog 56 #[v, v2] w fun e w' => e = .returned (.bool (decide (m.close s = m.own s))) ∧ Gr w w' := by
  have hv0 := Lib.hid hv
  obtain ⟨b, um, rfl, hm1, hm2, hm3⟩ := hv
  obtain ⟨u, rfl, hu⟩ := hs
  have hs' : SetV w (.agg #[u]) s := ⟨u, rfl, hu⟩
  have hok := hm.ok
  clear hu hm1 hm2 hm3
  go_enter Tryd.func56, Tryd.ntmps56
  go_wp2_with fail
  refine name_wp fun W hW => ?_
  have hX : Gr w W := by rw [hW]; exact ((Gr.refl _).alloc _)
  have f1 : W.cell? ⟨w.heap.size, 0, none⟩ = some u := by rw [hW]; go_simp
  clear hW
  go_region_held3 (fun w' => Gr w w' ∧ w'.cell? ⟨w.heap.size, 0, none⟩ = some (u))
    (first | exact ⟨hX.drew, f1⟩ | (have hh := ‹Gr w _ ∧ _›; exact ⟨hh.1.trans hx1, hx1.cell hh.2⟩) | (have hh := ‹Gr w _ ∧ _›; exact ⟨(hh.1).setCell (by simp only []; omega) _, cell?_setCell_ne (hh.2) (by simp <;> omega)⟩))
    (first | (go_at_call 95; have hh := ‹Gr w _ ∧ _›; (with_reducible refine (close_any _ _ m s _ (hv0.out.gr hh.1) hm (hs'.gr hh.1) h64 (ht.gr hh.1)).mono ?_); rintro e w1 ⟨p1, n1, c1, rfl, hv1, hx1⟩) | (go_at_call 96; have hh := ‹Gr w _ ∧ _›; (with_reducible refine (own_any _ _ m s _ (hv0.out.gr hh.1) hok (hs'.gr hh.1)).mono ?_); rintro e w1 ⟨p2, n2, c2, rfl, hv2, hx1⟩) | (go_at_call 22; have hh := ‹Gr w _ ∧ _›; (with_reducible refine (equal_any _ _ (m.close s) (m.own s) _ (hv1.gr hx1) hv2).mono ?_); rintro e w1 ⟨rfl, hx0⟩; have hx1 := hx0.gr))
  go_wp2
  go_ret
  have hh := ‹Gr w _ ∧ _›
  exact ⟨rfl, hh.1⟩
end Go.Proofs.YtcmlhpodghfheaaDoor
