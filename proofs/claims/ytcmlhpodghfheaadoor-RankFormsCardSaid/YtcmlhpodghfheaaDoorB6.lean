/- The sets of numbers: comparisons, one member less, all below a number. -/
import Derived.Test.YtcmlhpodghfheaaDoorB5
set_option linter.unusedSimpArgs false
set_option linter.unusedVariables false
namespace Go.Proofs.YtcmlhpodghfheaaDoor
open Go.RowKit

/-- (bits.Set).Equal -/
theorem equal_any (v v2 : Value) (s t : Nat) (w : World) (hs : SetV w v s) (ht : SetV w v2 t) :
    Calls Tryd.prog 22 #[v, v2] w fun e w' => e = .returned (.bool (decide (s = t))) ∧ Ext w w' := by
  rcases hs.elim with ⟨rfl, p, c, rfl⟩ | ⟨b, o, c, h1, h2, rfl, hb, hc⟩
  · rcases ht.elim with ⟨rfl, p2, c2, rfl⟩ | ⟨b2, o2, c2, k1, k2, rfl, kb, kc⟩
    · go_enter Tryd.func22, Tryd.ntmps22
      go_wp2
      go_rounds 1
      go_ret
      exact ⟨rfl, ((Ext.refl _).alloc _).alloc _⟩
    · have H := Lib.hid k1; clear k1
      go_enter Tryd.func22, Tryd.ntmps22
      go_wp2
      go_ret
      refine ⟨?_, ((Ext.refl _).alloc _).alloc _⟩
      have := H.out
      simp; omega
  · rcases ht.elim with ⟨rfl, p2, c2, rfl⟩ | ⟨b2, o2, c2, k1, k2, rfl, kb, kc⟩
    · have H := Lib.hid h1; clear h1
      go_enter Tryd.func22, Tryd.ntmps22
      go_wp2
      go_ret
      refine ⟨?_, ((Ext.refl _).alloc _).alloc _⟩
      have := H.out
      simp; omega
    · have hb1 : b < w.heap.size + 1 := by omega
      have kb1 : b2 < w.heap.size + 1 := by omega
      by_cases e : s = t
      · subst e
        go_enter Tryd.func22, Tryd.ntmps22
        go_wp2
        go_rounds 2
        go_ret
        exact ⟨by simp, ((Ext.refl _).alloc _).alloc _⟩
      · have hne : ((s : Int) != (t : Int)) = true := by simp; omega
        have H := Lib.hid e; clear e
        go_enter Tryd.func22, Tryd.ntmps22
        go_wp2
        go_rounds 1
        go_ret
        exact ⟨by simp [H.out], ((Ext.refl _).alloc _).alloc _⟩

/-- (bits.Set).Within -/
theorem within_any (v v2 : Value) (s t : Nat) (w : World) (hs : SetV w v s) (ht : SetV w v2 t) :
    Calls Tryd.prog 48 #[v, v2] w fun e w' => e = .returned (.bool (decide (minus s t = 0))) ∧ Ext w w' := by
  have tl := ht.lt
  obtain ⟨u2, rfl, hu⟩ := ht
  have ht : SetV w (.agg #[u2]) t := ⟨u2, rfl, hu⟩
  clear hu
  have ht' := Lib.hid ht; clear ht
  rcases hs.elim with ⟨rfl, p, c, rfl⟩ | ⟨b, o, c, h1, h2, rfl, hb, hc⟩
  · go_enter Tryd.func48, Tryd.ntmps48
    go_wp2
    go_rounds 1
    go_ret
    exact ⟨by simp [minus], ((Ext.refl _).alloc _).alloc _⟩
  · have hb1 : b < w.heap.size + 1 := by omega
    have ha := u64_andNot_nat s t h2 tl
    by_cases e : minus s t = 0
    · have hne : ((bits BinOp.andNot IntKind.u64 (s : Int) (t : Int)) != 0) = false := by rw [ha]; unfold minus at e; rw [e]; rfl
      have H := Lib.hid e; clear e ha
      go_enter Tryd.func48, Tryd.ntmps48
      go_wp2
      refine wp_loop_rounds 2 ?_
      rw [rounds_succ]
      go_wp2_with (go_at_call 92; refine (word_zero _ t _ _ (ht'.out.ext (((Ext.refl _).alloc _).alloc _)) (by omega)).mono ?_; rintro e w1 ⟨rfl, hx1⟩)
      rw [rounds_succ]
      go_wp2
      go_ret
      exact ⟨by simp [H.out], (((Ext.refl _).alloc _).alloc _).trans hx1⟩
    · have hne : ((bits BinOp.andNot IntKind.u64 (s : Int) (t : Int)) != 0) = true := by rw [ha]; unfold minus at e; simp; omega
      have H := Lib.hid e; clear e ha
      go_enter Tryd.func48, Tryd.ntmps48
      go_wp2
      refine wp_loop_rounds 1 ?_
      rw [rounds_succ]
      go_wp2_with (go_at_call 92; refine (word_zero _ t _ _ (ht'.out.ext (((Ext.refl _).alloc _).alloc _)) (by omega)).mono ?_; rintro e w1 ⟨rfl, hx1⟩)
      go_ret
      exact ⟨by simp [H.out], (((Ext.refl _).alloc _).alloc _).trans hx1⟩

/-- All numbers below n. -/
def belowN (n : Nat) : Nat := 2 ^ n - 1

theorem below_eq (n : Nat) (hn : n < 64) : IntKind.u64.wrap (IntKind.u64.wrap (2 ^ n) - 1) = ((belowN n : Nat) : Int) := by
  have h := bit_lt64 hn
  have hp := Nat.two_pow_pos n
  unfold belowN
  rw [IntKind.wrap_u64, IntKind.wrap_u64]
  have e : ((2 : Int) ^ n) = ((2 ^ n : Nat) : Int) := by simp
  rw [e]
  generalize 2 ^ n = x at h hp
  omega
theorem belowN_lt (n : Nat) (hn : n < 64) : belowN n < 18446744073709551616 := by
  have h := bit_lt64 hn; unfold belowN; omega
theorem belowN_pos (n : Nat) (h1 : 1 ≤ n) : 0 < belowN n := by
  unfold belowN
  have : 2 ^ 1 ≤ 2 ^ n := Nat.pow_le_pow_right (by omega) h1
  omega

/-- bits.Below -/
theorem below_any (n : Nat) (w : World) (hn : n < 64) :
    Calls Tryd.prog 49 #[.int .i64 (n : Int)] w (RetSet (belowN n) w) := by
  have mz := mk_zero
  have mo := mk_one
  by_cases h0 : n = 0
  · subst h0
    go_enter Tryd.func49, Tryd.ntmps49
    go_wp2
    go_rounds 1
    refine ret_set (u := .slice (some ⟨w.heap.size + 1, 0, none⟩) 0 0) rfl rfl rfl (by go_simp) ⟨_, _, _, rfl, SetV.zero _ _ _, by (repeat (first | exact Ext.refl _ | refine Ext.alloc ?_ _))⟩
  · have h1 : 1 ≤ n := by omega
    have hd : ((n : Int) + 63) / 64 = 1 := by omega
    have hm : (n : Int) % 64 = n := by omega
    have H := Lib.hid h0; clear h0
    go_enter Tryd.func49, Tryd.ntmps49
    go_wp2
    go_rounds 2
    rw [below_eq n hn]
    refine ret_set (u := .slice (some ⟨w.heap.size + 1, 0, none⟩) 1 1) rfl rfl rfl (by go_simp) ⟨_, _, _, rfl, SetV.one (by go_simp) (belowN_pos n h1) (belowN_lt n hn), by (repeat (first | exact Ext.refl _ | refine Ext.alloc ?_ _))⟩

theorem minus_testBit (s t j : Nat) : (minus s t).testBit j = (s.testBit j && (18446744073709551615 - t).testBit j) := by unfold minus; exact Nat.testBit_and ..

theorem tb_lt {s j : Nat} (hs : s < 18446744073709551616) (h : s.testBit j = true) : j < 64 := by
  rcases Nat.lt_or_ge j 64 with h1 | h1
  · exact h1
  · exact absurd h (by rw [Nat.testBit_lt_two_pow (Nat.lt_of_lt_of_le hs (show 2 ^ 64 ≤ 2 ^ j from Nat.pow_le_pow_right (by omega) h1))]; simp)

theorem minus_tb {s t j : Nat} (hs : s < 18446744073709551616) (ht : t < 18446744073709551616) : (minus s t).testBit j = (s.testBit j && !t.testBit j) := by
  rw [minus_testBit, show 18446744073709551615 - t = 2 ^ 64 - (t + 1) from by omega, Nat.testBit_two_pow_sub_succ (show t < 2 ^ 64 from ht)]
  cases h : s.testBit j with
  | false => simp
  | true => simp [tb_lt hs h]

theorem andNot_bit (s i : Nat) (hs : s < 18446744073709551616) (hi : i < 64) : bits BinOp.andNot IntKind.u64 (s : Int) (IntKind.u64.wrap (2 ^ (i % 64))) = ((minus s (2 ^ i) : Nat) : Int) := by
  have h := bit_lt64 hi
  rw [Nat.mod_eq_of_lt hi, IntKind.wrap_u64]
  have e : ((2 : Int) ^ i) = ((2 ^ i : Nat) : Int) := by simp
  unfold minus
  rw [e, ← u64_andNot_nat s (2 ^ i) hs h]
  generalize 2 ^ i = x at h
  rw [show (x : Int) % 18446744073709551616 = (x : Int) from by omega]

theorem info_u64 : (Tryd.prog.info? 111).map (fun i => (i.zero, i.size, i.bytes)) = some (some (.int .u64 0), 1, 8) := by kernel_rfl

theorem without_has (v : Value) (s i : Nat) (w : World) (hs : SetV w v s) (hi : i < 64) (hb : s.testBit i = true) :
    Calls Tryd.prog 53 #[v, .int .i64 (i : Int)] w (RetSet (minus s (2 ^ i)) w) := by
  have hsl := hs.lt
  have hs' := Lib.hid hs
  have hi4 : (i : Int) ≤ 4095 := by omega
  have hd : (i : Int) / 64 = 0 := by omega
  rcases hs.elim with ⟨rfl, p, c, rfl⟩ | ⟨b, o, c, h1, h2, rfl, hbb, hc⟩
  · simp at hb
  · clear hs
    go_enter Tryd.func53, Tryd.ntmps53
    go_wp2_with fail
    refine (has_any _ s i _ (hs'.out.ext (by repeat (first | exact Ext.refl _ | refine Ext.alloc ?_ _))) hi).mono ?_
    rintro e w1 ⟨rfl, hx1⟩; obtain ⟨hc1, hf1⟩ := hx1.cells; have hz1 := hx1.size; simp at hz1; rw [hb]
    have l0 : w.heap.size < w1.heap.size := by omega
    have l1 : w.heap.size + 1 < w1.heap.size := by omega
    obtain ⟨i0, hi0, hz0, hz1', hz2⟩ := info_parts info_u64
    have hE := ((((Ext.refl w).alloc (.cells #[.slice (some ⟨b, o, none⟩) 1 c] 69)).alloc (.cells #[.slice none 0 0] 69)).trans hx1)
    have HE := Lib.hid hE; clear hE
    have hown := World.ownsRow_made w1 #[] 0 (base := w1.heap.size) (e := 111) (size := 1) (Nat.le_refl _) (by simp [maxLen]) rfl
    have HO := Lib.hid hown; clear hown
    go_upto_region 3 with (fail)
    go_wp2_with (at_builtin; refine wpl_append rfl _ _ 67 rfl w1.heap.size 111 i0 (.int .u64 0) 1 8 Tryd.underlying67 hi0 hz0 hz1' hz2 rfl (by decide) _ 0 [] rfl HO.out ⟨b, o, none⟩ 1 c [.int .u64 (s : Int)] rfl rfl (by (intro j v hj; match j, hj with | 0, hj => (simp at hj; subst hj; simpa [Addr.add] using ((Ext.refl w1).alloc _).cell (HE.out.cell hc)))) (by simp [Value.oneCell']) (by simp [maxLen]) (by simp) (by simp) ?_; intro v' w2 hown' hgrow hdr)
    have hE2 : Ext w w2 := (HE.out.alloc _).grown hgrow (fun k hk => by have hk' : w1.heap.size = k := Option.some.inj hk; omega) hdr
    obtain ⟨g, cap, rfl, hg1, hg2, hg3, hgc, hgf⟩ := own_one hown'
    have hr : w2.cell? ⟨w.heap.size + 1, 0, none⟩ = some (.slice none 0 0) := hgrow.cell (a := ⟨w.heap.size + 1, 0, none⟩) (((Ext.refl w1).alloc _).cell (hx1.cell (by go_simp))) (fun e => by have e' : w.heap.size + 1 = w1.heap.size := Option.some.inj e; omega)
    have hrf : w2.frozen? ⟨w.heap.size + 1, 0, none⟩ = false := (World.frozen?_of_block (hgrow.block (w.heap.size + 1) (by simp; omega) (fun e => by have e' : w.heap.size + 1 = w1.heap.size := Option.some.inj e; omega))).trans (((Ext.refl w1).alloc _).frz (hx1.cell (p := ⟨w.heap.size + 1, 0, none⟩) (v := .slice none 0 0) (by go_simp)) (hx1.frz (p := ⟨w.heap.size + 1, 0, none⟩) (v := .slice none 0 0) (by go_simp) (by go_simp)))
    clear hown' hgrow hc1 hf1 hx1
    go_wp2
    go_region
    go_wp2_with fail
    have hE3 : Ext w (w2.setCell ⟨g, 0, none⟩ (.int .u64 (bits BinOp.andNot .u64 (s : Int) (IntKind.u64.wrap (2 ^ (i % 64)))))).drew := (hE2.setCell (by simp only []; omega) _).drew
    have hcell : (w2.setCell ⟨g, 0, none⟩ (.int .u64 (bits BinOp.andNot .u64 (s : Int) (IntKind.u64.wrap (2 ^ (i % 64)))))).drew.cell? ⟨g, 0, none⟩ = some (.int .u64 ((minus s (2 ^ i) : Nat) : Int)) := by
      rw [← andNot_bit s i hsl hi]
      exact World.cell?_setCell_same' w2 _ _ (by rw [hgc]; rfl)
    have hr2 : (w2.setCell ⟨g, 0, none⟩ (.int .u64 (bits BinOp.andNot .u64 (s : Int) (IntKind.u64.wrap (2 ^ (i % 64)))))).drew.cell? ⟨w.heap.size + 1, 0, none⟩ = some (.slice none 0 0) := cell?_setCell_ne (w := w2) hr (by simp <;> omega)
    have hrf2 : (w2.setCell ⟨g, 0, none⟩ (.int .u64 (bits BinOp.andNot .u64 (s : Int) (IntKind.u64.wrap (2 ^ (i % 64)))))).drew.frozen? ⟨w.heap.size + 1, 0, none⟩ = false := (World.frozen?_setCell _ _ _ _).trans hrf
    have hsz2 := World.block_lt_of_cell? _ _ hcell
    have hmin := minus_lt (b := 2 ^ i) hsl
    clear hr hrf hgc hgf HO
    generalize (w2.setCell ⟨g, 0, none⟩ (.int .u64 (bits BinOp.andNot .u64 (s : Int) (IntKind.u64.wrap (2 ^ (i % 64)))))).drew = W at *
    refine (trim_one g 0 cap (minus s (2 ^ i)) W hsz2 hcell hmin hg3).mono ?_
    rintro e w3 ⟨p1, n1, c1, rfl, hv1, hx3⟩
    have hr3 := hx3.cell hr2
    have hrf3 := hx3.frz hr2 hrf2
    clear hcell hr2 hrf2
    go_wp2
    have F := fin_set (hE3.trans hx3) hv1 (by simp) hr3 (by omega)
    exact ret_set rfl rfl rfl F.1 F.2

theorem minus_bit_not (s i : Nat) (hs : s < 18446744073709551616) (hi : i < 64) (h : s.testBit i = false) : minus s (2 ^ i) = s := by
  apply Nat.eq_of_testBit_eq
  intro j
  rw [minus_tb hs (bit_lt64 hi)]
  by_cases e : i = j
  · subst e; simp [h]
  · simp [Nat.testBit_two_pow_of_ne e]

theorem without_any (v : Value) (s i : Nat) (w : World) (hs : SetV w v s) (hi : i < 64) :
    Calls Tryd.prog 53 #[v, .int .i64 (i : Int)] w (RetSet (minus s (2 ^ i)) w) := by
  by_cases hb : s.testBit i = true
  · exact without_has v s i w hs hi hb
  · have hb : s.testBit i = false := by simpa using hb
    rw [minus_bit_not s i hs.lt hi hb]
    have hE : ∃ p n c, v = .agg #[.slice p n c] := by
      rcases hs.elim with ⟨_, p, c, rfl⟩ | ⟨b, o, c, _, _, rfl, _, _⟩ <;> exact ⟨_, _, _, rfl⟩
    obtain ⟨p, n, c, rfl⟩ := hE
    have hs' := Lib.hid hs; clear hs
    go_enter Tryd.func53, Tryd.ntmps53
    go_wp2_with (go_at_call 60; refine (has_any _ s i _ (hs'.out.ext (by repeat (first | exact Ext.refl _ | refine Ext.alloc ?_ _))) hi).mono ?_; rintro e w1 ⟨rfl, hx1⟩; obtain ⟨hc1, hf1⟩ := hx1.cells; have hz1 := hx1.size; simp at hz1; try rw [hb])
    have hr : w1.cell? ⟨w.heap.size + 1, 0, none⟩ = some (.slice none 0 0) := by go_simp
    have F := fin_set ((((Ext.refl w).alloc _).alloc _).trans hx1) (hs'.out.ext ((((Ext.refl w).alloc _).alloc _).trans hx1)) (by simp) hr (by omega)
    exact ret_set rfl rfl rfl F.1 F.2

/-- (bits.Set).With -/
theorem with_any (v : Value) (s i : Nat) (w : World) (hs : SetV w v s) (hi : i < 64) :
    Calls Tryd.prog 55 #[v, .int .i64 (i : Int)] w (RetSet (s ||| 2 ^ i) w) := by
  by_cases hb : s.testBit i = true
  · have e : s ||| 2 ^ i = s := by
      apply Nat.eq_of_testBit_eq
      intro j
      rw [Nat.testBit_or]
      by_cases e : i = j
      · subst e; simp [hb]
      · simp [Nat.testBit_two_pow_of_ne e]
    rw [e]; exact with_in v s i w hs hi hb
  · exact with_new v s i w hs hi (by simpa using hb)
end Go.Proofs.YtcmlhpodghfheaaDoor
