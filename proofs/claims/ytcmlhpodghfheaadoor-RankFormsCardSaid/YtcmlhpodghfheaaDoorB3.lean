/- The sets of numbers: union, intersection, difference, comparisons. -/
import Derived.Test.YtcmlhpodghfheaaDoorB2
import Derived.Deep.RegionHeld3
import Derived.Deep.RegionWith
import Derived.Deep.DeepCutAuto
set_option linter.unusedSimpArgs false
set_option linter.unusedVariables false
namespace Go.Proofs.YtcmlhpodghfheaaDoor
open Go.RowKit

theorem and_lt64 {a b : Nat} (ha : a < 18446744073709551616) : a &&& b < 18446744073709551616 := Nat.lt_of_le_of_lt Nat.and_le_left ha

/-- The end of a function whose result variable gets what a call has handed back. -/
theorem fin_set {w1 w : World} {b p n c s} (hx : Ext w w1) (hv : SetV w1 (.agg #[.slice p n c]) s) {q : Value} (hq : ∀ x, q ≠ .int .u64 x) (hc : w1.cell? ⟨b, 0, none⟩ = some q) (hb : w.heap.size ≤ b) :
    (w1.setCell ⟨b, 0, none⟩ (.slice p n c)).cell? ⟨b, 0, none⟩ = some (.slice p n c) ∧ RetSet s w (.returned (.agg #[.slice p n c])) (w1.setCell ⟨b, 0, none⟩ (.slice p n c)) := by
  refine ⟨World.cell?_setCell_same' _ _ _ (by rw [hc]; rfl), _, _, _, rfl, hv.setCell (fun x h => hq x ?_) _, hx.setCell hb _⟩
  rw [hc] at h; exact Option.some.inj h

/-- (bits.Set).And -/
theorem and_any (v v2 : Value) (s t : Nat) (w : World) (hs : SetV w v s) (ht : SetV w v2 t) :
    Calls Tryd.prog 103 #[v, v2] w (RetSet (s &&& t) w) := by
  have mz := mk_zero
  have mo := mk_one
  rcases hs.elim with ⟨rfl, p, c, rfl⟩ | ⟨b, o, c, h1, h2, rfl, hb, hc⟩
  · rw [Nat.zero_and]
    rcases ht.elim with ⟨rfl, p2, c2, rfl⟩ | ⟨b2, o2, c2, k1, k2, rfl, kb, kc⟩
    all_goals
      go_enter Tryd.func103, Tryd.ntmps103
      go_wp2
      refine wp_loop_rounds 1 ?_
      rw [rounds_succ]
      go_wp2_with (go_at_call 50; refine (trim_zero _ _ _).mono ?_; rintro e w1 ⟨p1, n1, c1, rfl, hv1, hx1⟩; obtain ⟨hc1, hf1⟩ := hx1.cells; have hz1 := hx1.size; simp at hz1)
      have hr : w1.cell? ⟨w.heap.size + 1 + 1, 0, none⟩ = some (.slice none 0 0) := by go_simp
      have F := fin_set ((((((Ext.refl w).alloc _).alloc _).alloc _).alloc _).trans hx1) hv1 (by simp) hr (by omega)
      exact ret_set rfl rfl rfl F.1 F.2
  · rcases ht.elim with ⟨rfl, p2, c2, rfl⟩ | ⟨b2, o2, c2, k1, k2, rfl, kb, kc⟩
    · rw [Nat.and_zero]
      go_enter Tryd.func103, Tryd.ntmps103
      go_wp2
      refine wp_loop_rounds 1 ?_
      rw [rounds_succ]
      go_wp2_with (go_at_call 50; refine (trim_zero _ _ _).mono ?_; rintro e w1 ⟨p1, n1, c1, rfl, hv1, hx1⟩; obtain ⟨hc1, hf1⟩ := hx1.cells; have hz1 := hx1.size; simp at hz1)
      have hr : w1.cell? ⟨w.heap.size + 1 + 1, 0, none⟩ = some (.slice none 0 0) := by go_simp
      have F := fin_set ((((((Ext.refl w).alloc _).alloc _).alloc _).alloc _).trans hx1) hv1 (by simp) hr (by omega)
      exact ret_set rfl rfl rfl F.1 F.2
    · go_enter Tryd.func103, Tryd.ntmps103
      go_wp2
      refine wp_loop_rounds 2 ?_
      rw [rounds_succ]
      have hb1 : b < w.heap.size + 1 := by omega
      have hb2 : b < w.heap.size + 1 + 1 := by omega
      have hb3 : b < w.heap.size + 1 + 1 + 1 := by omega
      have kb1 : b2 < w.heap.size + 1 := by omega
      have kb2 : b2 < w.heap.size + 1 + 1 := by omega
      have kb3 : b2 < w.heap.size + 1 + 1 + 1 := by omega
      go_wp2
      go_region
      go_wp2
      rw [rounds_succ]
      go_wp2_with fail
      refine (trim_one _ _ _ (s &&& t) _ (by simp) (by simp [go_sem, u64_and_nat s t h2 k2]) (and_lt64 h2) (Nat.le_refl _)).mono ?_
      rintro e w1 ⟨p1, n1, c1, rfl, hv1, hx1⟩
      obtain ⟨hc1, hf1⟩ := hx1.cells
      have hz1 := hx1.size
      simp at hz1
      go_wp2
      have hr : w1.cell? ⟨w.heap.size + 1 + 1, 0, none⟩ = some (.slice none 0 0) := by go_simp
      have F := fin_set ((((((Ext.refl w).alloc _).alloc _).alloc _).alloc _).drew.trans hx1) hv1 (by simp) hr (by omega)
      exact ret_set rfl rfl rfl F.1 F.2

/-- The difference of two sets. -/
def minus (s t : Nat) : Nat := s &&& (18446744073709551615 - t)
theorem minus_lt {a b : Nat} (ha : a < 18446744073709551616) : minus a b < 18446744073709551616 := and_lt64 ha
theorem minus_zero {a : Nat} (ha : a < 18446744073709551616) : minus a 0 = a := by
  unfold minus
  rw [Nat.sub_zero, show (18446744073709551615 : Nat) = 2 ^ 64 - 1 from rfl, Nat.and_two_pow_sub_one_eq_mod]
  exact Nat.mod_eq_of_lt (by omega)

/-- (bits.Set).Minus -/
theorem minus_any (v v2 : Value) (s t : Nat) (w : World) (hs : SetV w v s) (ht : SetV w v2 t) :
    Calls Tryd.prog 68 #[v, v2] w (RetSet (minus s t) w) := by
  have mz := mk_zero
  have mo := mk_one
  have tl := ht.lt
  rcases hs.elim with ⟨rfl, p, c, rfl⟩ | ⟨b, o, c, h1, h2, rfl, hb, hc⟩
  · rw [show minus 0 t = 0 from Nat.zero_and _]
    obtain ⟨v2, rfl, hu⟩ := ht
    clear hu
    go_enter Tryd.func68, Tryd.ntmps68
    go_wp2
    refine wp_loop_rounds 1 ?_
    rw [rounds_succ]
    go_wp2_with (go_at_call 50; refine (trim_zero _ _ _).mono ?_; rintro e w1 ⟨p1, n1, c1, rfl, hv1, hx1⟩; obtain ⟨hc1, hf1⟩ := hx1.cells; have hz1 := hx1.size; simp at hz1)
    have hr : w1.cell? ⟨w.heap.size + 1 + 1, 0, none⟩ = some (.slice none 0 0) := by go_simp
    have F := fin_set ((((((Ext.refl w).alloc _).alloc _).alloc _).alloc _).trans hx1) hv1 (by simp) hr (by omega)
    exact ret_set rfl rfl rfl F.1 F.2
  · obtain ⟨u2, rfl, hu⟩ := ht
    have ht : SetV w (.agg #[u2]) t := ⟨u2, rfl, hu⟩
    clear hu
    go_enter Tryd.func68, Tryd.ntmps68
    go_wp2
    refine wp_loop_rounds 2 ?_
    rw [rounds_succ]
    go_wp2
    have hX := (((((Ext.refl w).alloc (.cells #[.slice (some ⟨b, o, none⟩) 1 c] 69)).alloc (.cells #[u2] 69)).alloc (.cells #[.slice none 0 0] 69)).alloc (.cells #[.int .u64 0] 111))
    have f1 : ((((w.alloc (.cells #[.slice (some ⟨b, o, none⟩) 1 c] 69)).alloc (.cells #[u2] 69)).alloc (.cells #[.slice none 0 0] 69)).alloc (.cells #[.int .u64 0] 111)).cell? ⟨w.heap.size, 0, none⟩ = some (.slice (some ⟨b, o, none⟩) 1 c) := by go_simp
    have f2 : ((((w.alloc (.cells #[.slice (some ⟨b, o, none⟩) 1 c] 69)).alloc (.cells #[u2] 69)).alloc (.cells #[.slice none 0 0] 69)).alloc (.cells #[.int .u64 0] 111)).cell? ⟨w.heap.size + 1, 0, none⟩ = some u2 := by go_simp
    have f3 : ((((w.alloc (.cells #[.slice (some ⟨b, o, none⟩) 1 c] 69)).alloc (.cells #[u2] 69)).alloc (.cells #[.slice none 0 0] 69)).alloc (.cells #[.int .u64 0] 111)).cell? ⟨w.heap.size + 1 + 1, 0, none⟩ = some (.slice none 0 0) := by go_simp
    have f4 : ((((w.alloc (.cells #[.slice (some ⟨b, o, none⟩) 1 c] 69)).alloc (.cells #[u2] 69)).alloc (.cells #[.slice none 0 0] 69)).alloc (.cells #[.int .u64 0] 111)).cell? ⟨w.heap.size + 1 + 1 + 1, 0, none⟩ = some (.int .u64 0) := by go_simp
    have f5 : ((((w.alloc (.cells #[.slice (some ⟨b, o, none⟩) 1 c] 69)).alloc (.cells #[u2] 69)).alloc (.cells #[.slice none 0 0] 69)).alloc (.cells #[.int .u64 0] 111)).frozen? ⟨w.heap.size + 1 + 1 + 1, 0, none⟩ = false := by go_simp
    have f6 : ((((w.alloc (.cells #[.slice (some ⟨b, o, none⟩) 1 c] 69)).alloc (.cells #[u2] 69)).alloc (.cells #[.slice none 0 0] 69)).alloc (.cells #[.int .u64 0] 111)).frozen? ⟨w.heap.size + 1 + 1, 0, none⟩ = false := by go_simp
    generalize ((((w.alloc (.cells #[.slice (some ⟨b, o, none⟩) 1 c] 69)).alloc (.cells #[u2] 69)).alloc (.cells #[.slice none 0 0] 69)).alloc (.cells #[.int .u64 0] 111)) = W at *
    have hsW := hs.ext hX
    have htW := ht.ext hX
    have f0 := hX.cell hc
    go_region_held3 (fun w' => Ext w w' ∧ w'.cell? ⟨w.heap.size, 0, none⟩ = some (.slice (some ⟨b, o, none⟩) 1 c) ∧ w'.cell? ⟨w.heap.size + 1, 0, none⟩ = some u2 ∧ w'.cell? ⟨b, o, none⟩ = some (.int .u64 s) ∧ w'.cell? ⟨w.heap.size + 1 + 1 + 1, 0, none⟩ = some (cellAt w' ⟨w.heap.size + 1 + 1 + 1, 0, none⟩) ∧ w'.frozen? ⟨w.heap.size + 1 + 1 + 1, 0, none⟩ = false)
      (first | exact ⟨hX.drew, f1, f2, f0, cellAt_of f4, f5⟩ | (have hh := ‹Ext w _ ∧ _ ∧ _ ∧ _ ∧ _ ∧ _›; exact ⟨hh.1.trans hx1, hx1.cell hh.2.1, hx1.cell hh.2.2.1, hx1.cell hh.2.2.2.1, cellAt_ext hh.2.2.2.2.1 hx1, hx1.frz hh.2.2.2.2.1 hh.2.2.2.2.2⟩) | (have hh := ‹Ext w _ ∧ _ ∧ _ ∧ _ ∧ _ ∧ _›; exact ⟨hh.1.setCell (by simp only []; omega) _, cell?_setCell_ne hh.2.1 (by simp), cell?_setCell_ne hh.2.2.1 (by simp), cell?_setCell_ne hh.2.2.2.1 (by simp <;> omega), cellAt_set hh.2.2.2.2.1, (World.frozen?_setCell _ _ _ _).trans hh.2.2.2.2.2⟩))
      (first | (go_at_call 92; refine (word_zero _ t _ _ (ht.ext (‹Ext w _ ∧ _ ∧ _ ∧ _ ∧ _ ∧ _›).1) (by omega)).mono ?_; rintro e w1 ⟨rfl, hx1⟩))
    have hX1 := hX.drew.trans hx1
    have q1 := hx1.cell (p := ⟨w.heap.size + 1 + 1, 0, none⟩) f3
    have q4 := hx1.cell (p := ⟨w.heap.size + 1 + 1 + 1, 0, none⟩) f4
    have hz1 : w.heap.size + 1 + 1 + 1 < w1.heap.size := World.block_lt_of_cell? w1 _ q4
    go_wp2
    rw [rounds_succ]
    go_wp2_with fail
    refine (trim_one _ _ _ (minus s t) _ (by simp <;> omega) ?_ (minus_lt h2) (Nat.le_refl _)).mono ?_
    · rw [World.cell?_setCell_same' _ _ _ (by rw [q4]; rfl), u64_andNot_nat s t h2 tl]; rfl
    rintro e w2 ⟨p1, n1, c1, rfl, hv1, hx2⟩
    have q2 := hx2.cell (cell?_setCell_ne q1 (a := ⟨w.heap.size + 1 + 1 + 1, 0, none⟩) (by simp))
    have q3 := hx2.frz (cell?_setCell_ne q1 (a := ⟨w.heap.size + 1 + 1 + 1, 0, none⟩) (by simp)) ((World.frozen?_setCell _ _ _ _).trans (hx1.frz (p := ⟨w.heap.size + 1 + 1, 0, none⟩) f3 f6))
    go_wp2
    have F := fin_set ((hX1.setCell (p := ⟨w.heap.size + 1 + 1 + 1, 0, none⟩) (by simp only []; omega) _).trans hx2) hv1 (by simp) q2 (by omega)
    exact ret_set rfl rfl rfl F.1 F.2
end Go.Proofs.YtcmlhpodghfheaaDoor
