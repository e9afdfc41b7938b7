/- The sets of numbers: union, one member more, one less, comparisons. -/
import Derived.Test.YtcmlhpodghfheaaDoorB3
set_option linter.unusedSimpArgs false
set_option linter.unusedVariables false
namespace Go.Proofs.YtcmlhpodghfheaaDoor
open Go.RowKit

theorem or_lt64 {a b : Nat} (ha : a < 18446744073709551616) (hb : b < 18446744073709551616) : a ||| b < 18446744073709551616 := Nat.or_lt_two_pow (n := 64) ha hb

theorem or_pos {a b : Nat} (h : 0 < a) : 0 < a ||| b := by
  have : a ≤ a ||| b := Nat.left_le_or
  omega

/-- (bits.Set).Or -/
theorem or_any (v v2 : Value) (s t : Nat) (w : World) (hs : SetV w v s) (ht : SetV w v2 t) :
    Calls Tryd.prog 89 #[v, v2] w (RetSet (s ||| t) w) := by
  have mz := mk_zero
  have mo := mk_one
  by_cases h00 : s = 0 ∧ t = 0
  · obtain ⟨rfl, rfl⟩ := h00
    rcases hs.elim with ⟨_, p, c, rfl⟩ | ⟨b, o, c, h1, h2, rfl, hb, hc⟩
    · rcases ht.elim with ⟨_, p2, c2, rfl⟩ | ⟨b2, o2, c2, k1, k2, rfl, kb, kc⟩
      · go_enter Tryd.func89, Tryd.ntmps89
        go_wp2
        go_rounds 1
        refine ret_set (u := .slice (some ⟨w.heap.size + 1 + 1 + 1, 0, none⟩) 0 0) rfl rfl rfl (by go_simp) ?_
        exact ⟨_, _, _, rfl, SetV.zero _ _ _, by (repeat (first | exact Ext.refl _ | refine Ext.alloc ?_ _))⟩
      · omega
    · omega
  · have hsl := hs.lt
    have htl := ht.lt
    have hpos : 0 < s ||| t := by
      rcases Nat.eq_zero_or_pos s with h | h
      · rw [Nat.or_comm]; exact or_pos (by omega)
      · exact or_pos h
    have hol := or_lt64 hsl htl
    have hor := u64_or_nat s t hsl htl
    have HO := Lib.hid hor
    clear h00 hor
    rcases hs.elim with ⟨h0, p, c, rfl⟩ | ⟨b, o, c, h1, h2, rfl, hb, hc⟩
    · rcases ht.elim with ⟨h0', p2, c2, rfl⟩ | ⟨b2, o2, c2, k1, k2, rfl, kb, kc⟩
      · subst h0; subst h0'; exact absurd hpos (by simp)
      · clear h0
        go_enter Tryd.func89, Tryd.ntmps89
        go_wp2
        refine wp_loop_rounds 2 ?_
        rw [rounds_succ]
        go_wp2
        refine name_wp fun W hW => ?_
        have hX : Ext w W := by rw [hW]; repeat (first | exact Ext.refl _ | refine Ext.alloc ?_ _)
        have f1 : W.cell? ⟨w.heap.size, 0, none⟩ = some (.slice p 0 c) := by rw [hW]; go_simp
        have f2 : W.cell? ⟨w.heap.size + 1, 0, none⟩ = some (.slice (some ⟨b2, o2, none⟩) 1 c2) := by rw [hW]; go_simp
        have f3 : W.cell? ⟨w.heap.size + 1 + 1, 0, none⟩ = some (.slice none 0 0) := by rw [hW]; go_simp
        have f4 : W.cell? ⟨w.heap.size + 1 + 1 + 1, 0, none⟩ = some (.int .u64 0) := by rw [hW]; go_simp
        have f5 : W.frozen? ⟨w.heap.size + 1 + 1 + 1, 0, none⟩ = false := by rw [hW]; go_simp
        have f6 : W.frozen? ⟨w.heap.size + 1 + 1, 0, none⟩ = false := by rw [hW]; go_simp
        clear hW
        go_region_held3 (fun w' => Ext w w' ∧ w'.cell? ⟨w.heap.size, 0, none⟩ = some (.slice p 0 c) ∧ w'.cell? ⟨w.heap.size + 1, 0, none⟩ = some (.slice (some ⟨b2, o2, none⟩) 1 c2) ∧ w'.cell? ⟨w.heap.size + 1 + 1, 0, none⟩ = some (.slice none 0 0) ∧ w'.cell? ⟨w.heap.size + 1 + 1 + 1, 0, none⟩ = some (cellAt w' ⟨w.heap.size + 1 + 1 + 1, 0, none⟩) ∧ w'.frozen? ⟨w.heap.size + 1 + 1 + 1, 0, none⟩ = false ∧ w'.frozen? ⟨w.heap.size + 1 + 1, 0, none⟩ = false)
          (first | exact ⟨hX.drew, f1, f2, f3, cellAt_of f4, f5, f6⟩ | (have hh := ‹Ext w _ ∧ _ ∧ _ ∧ _ ∧ _ ∧ _ ∧ _›; exact ⟨hh.1.trans hx1, hx1.cell hh.2.1, hx1.cell hh.2.2.1, hx1.cell hh.2.2.2.1, cellAt_ext hh.2.2.2.2.1 hx1, hx1.frz hh.2.2.2.2.1 hh.2.2.2.2.2.1, hx1.frz hh.2.2.2.1 hh.2.2.2.2.2.2⟩) | (have hh := ‹Ext w _ ∧ _ ∧ _ ∧ _ ∧ _ ∧ _ ∧ _›; exact ⟨(hh.1).setCell (by simp only []; omega) _, cell?_setCell_ne (hh.2.1) (by simp <;> omega), cell?_setCell_ne (hh.2.2.1) (by simp <;> omega), cell?_setCell_ne (hh.2.2.2.1) (by simp <;> omega), cellAt_set (hh.2.2.2.2.1), (World.frozen?_setCell _ _ _ _).trans (hh.2.2.2.2.2.1), (World.frozen?_setCell _ _ _ _).trans (hh.2.2.2.2.2.2)⟩))
          (first | (go_at_call 92; have hh := ‹Ext w _ ∧ _ ∧ _ ∧ _ ∧ _ ∧ _ ∧ _›; (with_reducible refine (word_zero _ t _ _ (ht.ext hh.1) (by omega)).mono ?_); rintro e w1 ⟨rfl, hx1⟩) | (go_at_call 92; have hh := ‹Ext w _ ∧ _ ∧ _ ∧ _ ∧ _ ∧ _ ∧ _›; (with_reducible refine (word_zero _ s _ _ (hs.ext hh.1) (by omega)).mono ?_); rintro e w1 ⟨rfl, hx1⟩))
        have q4 := hx1.cell hh.2.2.2.2.1
        have hz1 : w.heap.size + 1 + 1 + 1 < w1.heap.size := World.block_lt_of_cell? w1 _ q4
        have hE := hh.1.trans hx1
        go_wp2
        rw [rounds_succ]
        go_wp2
        have r1 : (w1.setCell ⟨w.heap.size + 1 + 1 + 1, 0, none⟩ (.int .u64 (bits BinOp.or .u64 (s : Int) (t : Int)))).cell? ⟨w.heap.size + 1 + 1 + 1, 0, none⟩ = some (.int .u64 ((s ||| t : Nat) : Int)) := by
          rw [World.cell?_setCell_same' _ _ _ (by rw [q4]; rfl), HO.out]
        have r2 := cell?_setCell_ne (a := ⟨w.heap.size + 1 + 1 + 1, 0, none⟩) (u := .int .u64 (bits BinOp.or .u64 (s : Int) (t : Int))) (hx1.cell hh.2.2.2.1) (by simp)
        have F := fin_set (hE.setCell (p := ⟨w.heap.size + 1 + 1 + 1, 0, none⟩) (by simp only []; omega) (.int .u64 (bits BinOp.or .u64 (s : Int) (t : Int)))) (SetV.one (c := 1) r1 hpos hol) (by simp) r2 (by omega)
        exact ret_set rfl rfl rfl F.1 F.2
    · rcases ht.elim with ⟨h0', p2, c2, rfl⟩ | ⟨b2, o2, c2, k1, k2, rfl, kb, kc⟩
      · clear h0'
        go_enter Tryd.func89, Tryd.ntmps89
        go_wp2
        refine wp_loop_rounds 2 ?_
        rw [rounds_succ]
        go_wp2
        refine name_wp fun W hW => ?_
        have hX : Ext w W := by rw [hW]; repeat (first | exact Ext.refl _ | refine Ext.alloc ?_ _)
        have f1 : W.cell? ⟨w.heap.size, 0, none⟩ = some (.slice (some ⟨b, o, none⟩) 1 c) := by rw [hW]; go_simp
        have f2 : W.cell? ⟨w.heap.size + 1, 0, none⟩ = some (.slice p2 0 c2) := by rw [hW]; go_simp
        have f3 : W.cell? ⟨w.heap.size + 1 + 1, 0, none⟩ = some (.slice none 0 0) := by rw [hW]; go_simp
        have f4 : W.cell? ⟨w.heap.size + 1 + 1 + 1, 0, none⟩ = some (.int .u64 0) := by rw [hW]; go_simp
        have f5 : W.frozen? ⟨w.heap.size + 1 + 1 + 1, 0, none⟩ = false := by rw [hW]; go_simp
        have f6 : W.frozen? ⟨w.heap.size + 1 + 1, 0, none⟩ = false := by rw [hW]; go_simp
        clear hW
        go_region_held3 (fun w' => Ext w w' ∧ w'.cell? ⟨w.heap.size, 0, none⟩ = some (.slice (some ⟨b, o, none⟩) 1 c) ∧ w'.cell? ⟨w.heap.size + 1, 0, none⟩ = some (.slice p2 0 c2) ∧ w'.cell? ⟨w.heap.size + 1 + 1, 0, none⟩ = some (.slice none 0 0) ∧ w'.cell? ⟨w.heap.size + 1 + 1 + 1, 0, none⟩ = some (cellAt w' ⟨w.heap.size + 1 + 1 + 1, 0, none⟩) ∧ w'.frozen? ⟨w.heap.size + 1 + 1 + 1, 0, none⟩ = false ∧ w'.frozen? ⟨w.heap.size + 1 + 1, 0, none⟩ = false)
          (first | exact ⟨hX.drew, f1, f2, f3, cellAt_of f4, f5, f6⟩ | (have hh := ‹Ext w _ ∧ _ ∧ _ ∧ _ ∧ _ ∧ _ ∧ _›; exact ⟨hh.1.trans hx1, hx1.cell hh.2.1, hx1.cell hh.2.2.1, hx1.cell hh.2.2.2.1, cellAt_ext hh.2.2.2.2.1 hx1, hx1.frz hh.2.2.2.2.1 hh.2.2.2.2.2.1, hx1.frz hh.2.2.2.1 hh.2.2.2.2.2.2⟩) | (have hh := ‹Ext w _ ∧ _ ∧ _ ∧ _ ∧ _ ∧ _ ∧ _›; exact ⟨(hh.1).setCell (by simp only []; omega) _, cell?_setCell_ne (hh.2.1) (by simp <;> omega), cell?_setCell_ne (hh.2.2.1) (by simp <;> omega), cell?_setCell_ne (hh.2.2.2.1) (by simp <;> omega), cellAt_set (hh.2.2.2.2.1), (World.frozen?_setCell _ _ _ _).trans (hh.2.2.2.2.2.1), (World.frozen?_setCell _ _ _ _).trans (hh.2.2.2.2.2.2)⟩))
          (first | (go_at_call 92; have hh := ‹Ext w _ ∧ _ ∧ _ ∧ _ ∧ _ ∧ _ ∧ _›; (with_reducible refine (word_zero _ t _ _ (ht.ext hh.1) (by omega)).mono ?_); rintro e w1 ⟨rfl, hx1⟩) | (go_at_call 92; have hh := ‹Ext w _ ∧ _ ∧ _ ∧ _ ∧ _ ∧ _ ∧ _›; (with_reducible refine (word_zero _ s _ _ (hs.ext hh.1) (by omega)).mono ?_); rintro e w1 ⟨rfl, hx1⟩))
        have q4 := hx1.cell hh.2.2.2.2.1
        have hz1 : w.heap.size + 1 + 1 + 1 < w1.heap.size := World.block_lt_of_cell? w1 _ q4
        have hE := hh.1.trans hx1
        go_wp2
        rw [rounds_succ]
        go_wp2
        have r1 : (w1.setCell ⟨w.heap.size + 1 + 1 + 1, 0, none⟩ (.int .u64 (bits BinOp.or .u64 (s : Int) (t : Int)))).cell? ⟨w.heap.size + 1 + 1 + 1, 0, none⟩ = some (.int .u64 ((s ||| t : Nat) : Int)) := by
          rw [World.cell?_setCell_same' _ _ _ (by rw [q4]; rfl), HO.out]
        have r2 := cell?_setCell_ne (a := ⟨w.heap.size + 1 + 1 + 1, 0, none⟩) (u := .int .u64 (bits BinOp.or .u64 (s : Int) (t : Int))) (hx1.cell hh.2.2.2.1) (by simp)
        have F := fin_set (hE.setCell (p := ⟨w.heap.size + 1 + 1 + 1, 0, none⟩) (by simp only []; omega) (.int .u64 (bits BinOp.or .u64 (s : Int) (t : Int)))) (SetV.one (c := 1) r1 hpos hol) (by simp) r2 (by omega)
        exact ret_set rfl rfl rfl F.1 F.2
      · skip
        go_enter Tryd.func89, Tryd.ntmps89
        go_wp2
        refine wp_loop_rounds 2 ?_
        rw [rounds_succ]
        go_wp2
        refine name_wp fun W hW => ?_
        have hX : Ext w W := by rw [hW]; repeat (first | exact Ext.refl _ | refine Ext.alloc ?_ _)
        have f1 : W.cell? ⟨w.heap.size, 0, none⟩ = some (.slice (some ⟨b, o, none⟩) 1 c) := by rw [hW]; go_simp
        have f2 : W.cell? ⟨w.heap.size + 1, 0, none⟩ = some (.slice (some ⟨b2, o2, none⟩) 1 c2) := by rw [hW]; go_simp
        have f3 : W.cell? ⟨w.heap.size + 1 + 1, 0, none⟩ = some (.slice none 0 0) := by rw [hW]; go_simp
        have f4 : W.cell? ⟨w.heap.size + 1 + 1 + 1, 0, none⟩ = some (.int .u64 0) := by rw [hW]; go_simp
        have f5 : W.frozen? ⟨w.heap.size + 1 + 1 + 1, 0, none⟩ = false := by rw [hW]; go_simp
        have f6 : W.frozen? ⟨w.heap.size + 1 + 1, 0, none⟩ = false := by rw [hW]; go_simp
        clear hW
        go_region_held3 (fun w' => Ext w w' ∧ w'.cell? ⟨w.heap.size, 0, none⟩ = some (.slice (some ⟨b, o, none⟩) 1 c) ∧ w'.cell? ⟨w.heap.size + 1, 0, none⟩ = some (.slice (some ⟨b2, o2, none⟩) 1 c2) ∧ w'.cell? ⟨w.heap.size + 1 + 1, 0, none⟩ = some (.slice none 0 0) ∧ w'.cell? ⟨w.heap.size + 1 + 1 + 1, 0, none⟩ = some (cellAt w' ⟨w.heap.size + 1 + 1 + 1, 0, none⟩) ∧ w'.frozen? ⟨w.heap.size + 1 + 1 + 1, 0, none⟩ = false ∧ w'.frozen? ⟨w.heap.size + 1 + 1, 0, none⟩ = false)
          (first | exact ⟨hX.drew, f1, f2, f3, cellAt_of f4, f5, f6⟩ | (have hh := ‹Ext w _ ∧ _ ∧ _ ∧ _ ∧ _ ∧ _ ∧ _›; exact ⟨hh.1.trans hx1, hx1.cell hh.2.1, hx1.cell hh.2.2.1, hx1.cell hh.2.2.2.1, cellAt_ext hh.2.2.2.2.1 hx1, hx1.frz hh.2.2.2.2.1 hh.2.2.2.2.2.1, hx1.frz hh.2.2.2.1 hh.2.2.2.2.2.2⟩) | (have hh := ‹Ext w _ ∧ _ ∧ _ ∧ _ ∧ _ ∧ _ ∧ _›; exact ⟨(hh.1).setCell (by simp only []; omega) _, cell?_setCell_ne (hh.2.1) (by simp <;> omega), cell?_setCell_ne (hh.2.2.1) (by simp <;> omega), cell?_setCell_ne (hh.2.2.2.1) (by simp <;> omega), cellAt_set (hh.2.2.2.2.1), (World.frozen?_setCell _ _ _ _).trans (hh.2.2.2.2.2.1), (World.frozen?_setCell _ _ _ _).trans (hh.2.2.2.2.2.2)⟩))
          (first | (go_at_call 92; have hh := ‹Ext w _ ∧ _ ∧ _ ∧ _ ∧ _ ∧ _ ∧ _›; (with_reducible refine (word_zero _ t _ _ (ht.ext hh.1) (by omega)).mono ?_); rintro e w1 ⟨rfl, hx1⟩) | (go_at_call 92; have hh := ‹Ext w _ ∧ _ ∧ _ ∧ _ ∧ _ ∧ _ ∧ _›; (with_reducible refine (word_zero _ s _ _ (hs.ext hh.1) (by omega)).mono ?_); rintro e w1 ⟨rfl, hx1⟩))
        have q4 := hx1.cell hh.2.2.2.2.1
        have hz1 : w.heap.size + 1 + 1 + 1 < w1.heap.size := World.block_lt_of_cell? w1 _ q4
        have hE := hh.1.trans hx1
        go_wp2
        rw [rounds_succ]
        go_wp2
        have r1 : (w1.setCell ⟨w.heap.size + 1 + 1 + 1, 0, none⟩ (.int .u64 (bits BinOp.or .u64 (s : Int) (t : Int)))).cell? ⟨w.heap.size + 1 + 1 + 1, 0, none⟩ = some (.int .u64 ((s ||| t : Nat) : Int)) := by
          rw [World.cell?_setCell_same' _ _ _ (by rw [q4]; rfl), HO.out]
        have r2 := cell?_setCell_ne (a := ⟨w.heap.size + 1 + 1 + 1, 0, none⟩) (u := .int .u64 (bits BinOp.or .u64 (s : Int) (t : Int))) (hx1.cell hh.2.2.2.1) (by simp)
        have F := fin_set (hE.setCell (p := ⟨w.heap.size + 1 + 1 + 1, 0, none⟩) (by simp only []; omega) (.int .u64 (bits BinOp.or .u64 (s : Int) (t : Int)))) (SetV.one (c := 1) r1 hpos hol) (by simp) r2 (by omega)
        exact ret_set rfl rfl rfl F.1 F.2

end Go.Proofs.YtcmlhpodghfheaaDoor
