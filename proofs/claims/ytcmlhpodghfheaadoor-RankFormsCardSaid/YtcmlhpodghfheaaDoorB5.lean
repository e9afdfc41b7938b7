/- The sets of numbers: one member more, one less. -/
import Derived.Test.YtcmlhpodghfheaaDoorB4
import Derived.Laws.CopyOwn
set_option linter.unusedSimpArgs false
set_option linter.unusedVariables false
namespace Go.Proofs.YtcmlhpodghfheaaDoor
open Go.RowKit

theorem bit_lt64 {i : Nat} (h : i < 64) : 2 ^ i < 18446744073709551616 := Nat.pow_lt_pow_right (by omega) h

/-- (bits.Set).With -/
theorem with_in (v : Value) (s i : Nat) (w : World) (hs : SetV w v s) (hi : i < 64) (hb : s.testBit i = true) :
    Calls Tryd.prog 55 #[v, .int .i64 (i : Int)] w (RetSet s w) := by
  have hE : ∃ p n c, v = .agg #[.slice p n c] := by
    rcases hs.elim with ⟨_, p, c, rfl⟩ | ⟨b, o, c, _, _, rfl, _, _⟩ <;> exact ⟨_, _, _, rfl⟩
  obtain ⟨p, n, c, rfl⟩ := hE
  have hs' := Lib.hid hs; clear hs
  go_enter Tryd.func55, Tryd.ntmps55
  go_wp2_with (go_at_call 60; refine (has_any _ s i _ (hs'.out.ext (by repeat (first | exact Ext.refl _ | refine Ext.alloc ?_ _))) hi).mono ?_; rintro e w1 ⟨rfl, hx1⟩; obtain ⟨hc1, hf1⟩ := hx1.cells; have hz1 := hx1.size; simp at hz1; try rw [hb])
  have hr : w1.cell? ⟨w.heap.size + 1, 0, none⟩ = some (.slice none 0 0) := by go_simp
  have F := fin_set ((((Ext.refl w).alloc _).alloc _).trans hx1) (hs'.out.ext ((((Ext.refl w).alloc _).alloc _).trans hx1)) (by simp) hr (by omega)
  exact ret_set rfl rfl rfl F.1 F.2

theorem or_bit (s i : Nat) (hs : s < 18446744073709551616) (hi : i < 64) : bits BinOp.or IntKind.u64 (s : Int) (IntKind.u64.wrap (2 ^ (i % 64))) = ((s ||| 2 ^ i : Nat) : Int) := by
  have h := bit_lt64 hi
  rw [Nat.mod_eq_of_lt hi, IntKind.wrap_u64]
  have e : ((2 : Int) ^ i) = ((2 ^ i : Nat) : Int) := by simp
  rw [e, ← u64_or_nat s (2 ^ i) hs h]
  generalize 2 ^ i = x at h
  rw [show (x : Int) % 18446744073709551616 = (x : Int) from by omega]

theorem alloc_setRow (w : World) (cur cs : Array Value) (t : TypeId) : (w.alloc (.cells cur t)).setRow w.heap.size cs = w.alloc (.cells cs t) := by
  unfold World.setRow World.alloc
  simp only [World.mk.injEq, and_true]
  apply Array.ext_getElem?
  intro j
  simp only [Array.getElem?_modify, Array.getElem?_push]
  by_cases h : w.heap.size = j
  · subst h; simp
  · have h' : ¬ j = w.heap.size := fun e => h e.symm
    simp [h, h']

theorem with_new (v : Value) (s i : Nat) (w : World) (hs : SetV w v s) (hi : i < 64) (hb : s.testBit i = false) :
    Calls Tryd.prog 55 #[v, .int .i64 (i : Int)] w (RetSet (s ||| 2 ^ i) w) := by
  have hsl := hs.lt
  have hs' := Lib.hid hs
  have mo := mk_one
  have hi4 : (i : Int) ≤ 4095 := by omega
  have hd : (i : Int) / 64 = 0 := by omega
  have HB := Lib.hid (or_bit s i hsl hi)
  have hpos : 0 < s ||| 2 ^ i := by rw [Nat.or_comm]; exact or_pos (Nat.two_pow_pos i)
  have hol := or_lt64 hsl (bit_lt64 hi)
  rcases hs.elim with ⟨h0, p, c, rfl⟩ | ⟨b, o, c, h1, h2, rfl, hbb, hc⟩
  · have h0' := Lib.hid h0; clear h0 hs
    go_enter Tryd.func55, Tryd.ntmps55
    go_wp2_with fail
    refine (has_any _ s i _ (hs'.out.ext (by repeat (first | exact Ext.refl _ | refine Ext.alloc ?_ _))) hi).mono ?_
    rintro e w1 ⟨rfl, hx1⟩; obtain ⟨hc1, hf1⟩ := hx1.cells; have hz1 := hx1.size; simp at hz1; rw [hb]
    have l0 : w.heap.size < w1.heap.size := by omega
    have l1 : w.heap.size + 1 < w1.heap.size := by omega
    have hgA : (w1.alloc (.cells #[.int .u64 0] 111)).heap[w1.heap.size]? = some (.cells #[.int .u64 0] 111 (0, 0)) := heap_alloc_new w1 _
    have hE := ((((Ext.refl w).alloc (.cells #[.slice p 0 c] 69)).alloc (.cells #[.slice none 0 0] 69)).trans hx1)
    have hsrc : True := trivial
    have HS := Lib.hid hsrc
    have HG := Lib.hid hgA
    clear hsrc hgA
    go_upto_region 4 with (fail)
    have hsrc := HS.out
    have hgA := HG.out
    go_wp2_with (with_reducible refine wpList_copy_nothing rfl (.tmp 26) (.tmp 28) 67 67 rfl 111 Tryd.underlying67 (by kernel_rfl) _ _ _ _ _ _ rfl rfl (by simp) ?_)
    clear hsrc hgA
    try rw [alloc_setRow]
    simp only [Act.put, List.setIfInBounds_toArray, List.set_cons_succ, List.set_cons_zero]
    try simp only [List.take_zero, List.nil_append, List.drop_one, List.tail_cons, List.append_nil, Nat.zero_add, List.length_singleton]
    go_region
    go_wp2
    rw [show bits BinOp.or IntKind.u64 0 (IntKind.u64.wrap (2 ^ (i % 64))) = ((s ||| 2 ^ i : Nat) : Int) from by (have q := HB.out; have z := h0'.out; rw [z] at q ⊢; exact q)]
    have hr : (w1.setCell ⟨w.heap.size + 1, 0, none⟩ (.slice (some ⟨w1.heap.size, 0, none⟩) 1 1)).cell? ⟨w.heap.size + 1, 0, none⟩ = some (.slice (some ⟨w1.heap.size, 0, none⟩) 1 1) := World.cell?_setCell_same' _ _ _ (by go_simp)
    refine ret_set (u := .slice (some ⟨w1.heap.size, 0, none⟩) 1 1) rfl rfl rfl (((Ext.refl _).alloc _).drew.cell hr) ⟨_, _, _, rfl, SetV.one ?_ hpos hol, ((hE.setCell (by simp) _).alloc _).drew⟩
    go_simp
  · clear hs
    go_enter Tryd.func55, Tryd.ntmps55
    go_wp2_with fail
    refine (has_any _ s i _ (hs'.out.ext (by repeat (first | exact Ext.refl _ | refine Ext.alloc ?_ _))) hi).mono ?_
    rintro e w1 ⟨rfl, hx1⟩; obtain ⟨hc1, hf1⟩ := hx1.cells; have hz1 := hx1.size; simp at hz1; rw [hb]
    have l0 : w.heap.size < w1.heap.size := by omega
    have l1 : w.heap.size + 1 < w1.heap.size := by omega
    have hgA : (w1.alloc (.cells #[.int .u64 0] 111)).heap[w1.heap.size]? = some (.cells #[.int .u64 0] 111 (0, 0)) := heap_alloc_new w1 _
    have hE := ((((Ext.refl w).alloc (.cells #[.slice (some ⟨b, o, none⟩) 1 c] 69)).alloc (.cells #[.slice none 0 0] 69)).trans hx1)
    have hsrc : ∀ j v, [Value.int .u64 (s : Int)][j]? = some v → (w1.alloc (.cells #[.int .u64 0] 111)).cell? ((⟨b, o, none⟩ : Addr).add j) = some v := by (intro j v hj; match j, hj with | 0, hj => (simp at hj; subst hj; simpa [Addr.add] using ((Ext.refl w1).alloc _).cell (hE.cell hc)))
    have HS := Lib.hid hsrc
    have HG := Lib.hid hgA
    clear hsrc hgA
    go_upto_region 4 with (fail)
    have hsrc := HS.out
    have hgA := HG.out
    go_wp2_with (with_reducible refine wpList_copy_own rfl (.tmp 26) (.tmp 28) 67 67 rfl 111 Tryd.underlying67 (by kernel_rfl) _ 0 1 1 ⟨b, o, none⟩ 1 c rfl rfl #[.int .u64 0] 111 hgA [.int .u64 (s : Int)] (by simp) hsrc (by simp) (by simp [Value.oneCell']) ?_)
    clear hsrc hgA
    try rw [alloc_setRow]
    simp only [Act.put, List.setIfInBounds_toArray, List.set_cons_succ, List.set_cons_zero]
    try simp only [List.take_zero, List.nil_append, List.drop_one, List.tail_cons, List.append_nil, Nat.zero_add, List.length_singleton]
    go_region
    go_wp2
    rw [HB.out]
    have hr : (w1.setCell ⟨w.heap.size + 1, 0, none⟩ (.slice (some ⟨w1.heap.size, 0, none⟩) 1 1)).cell? ⟨w.heap.size + 1, 0, none⟩ = some (.slice (some ⟨w1.heap.size, 0, none⟩) 1 1) := World.cell?_setCell_same' _ _ _ (by go_simp)
    refine ret_set (u := .slice (some ⟨w1.heap.size, 0, none⟩) 1 1) rfl rfl rfl (((Ext.refl _).alloc _).drew.cell hr) ⟨_, _, _, rfl, SetV.one ?_ hpos hol, ((hE.setCell (by simp) _).alloc _).drew⟩
    go_simp
end Go.Proofs.YtcmlhpodghfheaaDoor
