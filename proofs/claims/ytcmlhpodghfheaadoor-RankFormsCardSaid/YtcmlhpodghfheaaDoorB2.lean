/- The sets of numbers: package bits, function by function. -/
import Derived.Test.YtcmlhpodghfheaaDoorB1
import Derived.RegionTactic
import Derived.BigRegion
import Derived.ChangeAlike
import Derived.Handy
set_option linter.unusedSimpArgs false
set_option linter.unusedVariables false
namespace Go.Proofs.YtcmlhpodghfheaaDoor
open Go.RowKit

/-- A contract of a function whose result is the set s. -/
def RetSet (s : Nat) (w : World) (e : Ending) (w' : World) : Prop := ∃ p n c, e = .returned (.agg #[.slice p n c]) ∧ SetV w' (.agg #[.slice p n c]) s ∧ Ext w w'

theorem cell?_setCell_ne {w : World} {a b : Addr} {u x : Value} (h : w.cell? b = some x) (hne : a ≠ b) : (w.setCell a u).cell? b = some x := by
  rw [World.cell?_setCell_other _ _ _ _ hne]; exact h

/-- A set stands while a cell is written that holds no word. -/
theorem SetV.setCell {w : World} {v : Value} {s : Nat} (h : SetV w v s) {a : Addr} (ha : ∀ x, w.cell? a ≠ some (.int .u64 x)) (u : Value) : SetV (w.setCell a u) v s := by
  obtain ⟨y, rfl, h⟩ := h
  rcases h with h | ⟨h1, h2, b, o, c, h3, h4⟩
  · exact ⟨y, rfl, .inl h⟩
  · refine ⟨y, rfl, .inr ⟨h1, h2, b, o, c, h3, ?_⟩⟩
    by_cases e : a = ⟨b, o, none⟩
    · exact absurd (e ▸ h4) (ha _)
    · exact cell?_setCell_ne h4 e

theorem SetV.zero (w : World) (p : Option Addr) (c : Nat) : SetV w (.agg #[.slice p 0 c]) 0 := ⟨_, rfl, .inl ⟨rfl, p, c, rfl⟩⟩
theorem SetV.one {w : World} {b o c x : Nat} (h : w.cell? ⟨b, o, none⟩ = some (.int .u64 (x : Int))) (h1 : 0 < x) (h2 : x < 18446744073709551616) : SetV w (.agg #[.slice (some ⟨b, o, none⟩) 1 c]) x :=
  ⟨_, rfl, .inr ⟨h1, h2, b, o, c, rfl, h⟩⟩

theorem ret_cell1 {P : Program} {fn : Func} {R : Ending → World → Prop} {a : Act} {w : World} {t : Tmp} {ty : TypeId} {ad : Addr} {v : Value} (h : fn.results = #[.cell t ty])
    (ht : a.tmps[t]?.getD undef = .pointer (some ad)) (hd : a.defers = []) (hl : (loadVar ty ad).run P w = .ok v w) (hR : R (.returned v) w) : bodyPost P fn R .ret a w := by
  refine bodyPost_ret (v := v) ?_ hd hR
  simp [results, h, Sem.run_bind, Result.andThen, ht, asAddr, hl]

theorem load_set (w : World) (ad : Addr) (u : Value) (hc : w.cell? ad = some u) : (loadVar 69 ad).run Tryd.prog w = .ok (.agg #[u]) w := by
  simp [go_sem, hc]

theorem ret_set {fn : Func} {R : Ending → World → Prop} {a : Act} {w : World} {t : Tmp} {ad : Addr} {u : Value} (h : fn.results = #[.cell t 69])
    (ht : a.tmps[t]?.getD undef = .pointer (some ad)) (hd : a.defers = []) (hc : w.cell? ad = some u) (hR : R (.returned (.agg #[u])) w) : bodyPost Tryd.prog fn R .ret a w :=
  ret_cell1 h ht hd (load_set w ad u hc) hR

theorem trim_zero (p : Option Addr) (c : Nat) (w : World) :
    Calls Tryd.prog 50 #[.slice p 0 c] w (RetSet 0 w) := by
  go_enter Tryd.func50, Tryd.ntmps50
  go_wp2
  go_rounds 1
  go_returns
  exact ⟨_, _, _, rfl, SetV.zero _ _ _, (Ext.refl _).alloc _⟩

theorem trim_one (b o c x : Nat) (w : World) (hb : b < w.heap.size) (hc : w.cell? ⟨b, o, none⟩ = some (.int .u64 (x : Int))) (hx : x < 18446744073709551616) (h1 : 1 ≤ c) :
    Calls Tryd.prog 50 #[.slice (some ⟨b, o, none⟩) 1 c] w (RetSet x w) := by
  by_cases h0 : x = 0
  · subst h0
    go_enter Tryd.func50, Tryd.ntmps50
    go_wp2
    go_rounds 2
    go_returns
    exact ⟨_, _, _, rfl, SetV.zero _ _ _, (Ext.refl _).alloc _⟩
  · have h2 : 0 < x := by omega
    have H := Lib.hid h0; clear h0
    go_enter Tryd.func50, Tryd.ntmps50
    go_wp2
    go_rounds 1
    go_returns
    exact ⟨_, _, _, rfl, SetV.one ((((Ext.refl w).alloc _)).cell hc) h2 hx, (Ext.refl _).alloc _⟩

theorem mk_zero (w : World) : (Instr.makeSlice 67 (.int .i64 0) (.int .i64 0)).run Tryd.prog w = .ok (.slice (some ⟨w.heap.size, 0, none⟩) 0 0) (w.alloc (.cells #[] 111)) := by kernel_rfl
theorem mk_one (w : World) : (Instr.makeSlice 67 (.int .i64 1) (.int .i64 1)).run Tryd.prog w = .ok (.slice (some ⟨w.heap.size, 0, none⟩) 1 1) (w.alloc (.cells #[.int .u64 0] 111)) := by kernel_rfl

theorem bit_eq (s i : Nat) (hs : s < 18446744073709551616) : (bits BinOp.and IntKind.u64 ((s : Int) / 2 ^ (i % 64)) 1 == 1) = s.testBit (i % 64) := by
  have e : ((s : Int) / 2 ^ (i % 64)) = ((s / 2 ^ (i % 64) : Nat) : Int) := by simp
  rw [e]
  have h : bits BinOp.and IntKind.u64 ((s / 2 ^ (i % 64) : Nat) : Int) 1 = ((s / 2 ^ (i % 64) &&& 1 : Nat) : Int) :=
    u64_and_nat (s / 2 ^ (i % 64)) 1 (Nat.lt_of_le_of_lt (Nat.div_le_self _ _) hs) (by omega)
  rw [h, Nat.testBit_eq_decide_div_mod_eq, Nat.and_one_is_mod]
  rw [Bool.eq_iff_iff]; simp; omega

/-- (bits.Set).Has -/
theorem has_any (v : Value) (s i : Nat) (w : World) (hs : SetV w v s) (hk : i < 64) :
    Calls Tryd.prog 60 #[v, .int .i64 (i : Int)] w fun e w' => e = .returned (.bool (s.testBit i)) ∧ Ext w w' := by
  obtain ⟨u, rfl, hu⟩ := hs
  have hs : SetV w (.agg #[u]) s := ⟨u, rfl, hu⟩
  have hlt := hs.lt
  clear hu
  go_enter Tryd.func60, Tryd.ntmps60
  go_wp2_with fail
  refine (word_zero _ s _ _ (hs.ext ((Ext.refl _).alloc _)) (by omega)).mono ?_
  rintro e w1 ⟨rfl, hx⟩
  go_wp2_with fail
  go_ret
  have hb := bit_eq s i hlt
  rw [Nat.mod_eq_of_lt hk] at hb
  refine ⟨?_, ((Ext.refl _).alloc _).trans hx⟩
  rw [show Act.tmps _ = _ from rfl]
  simp [Nat.mod_eq_of_lt hk, hb]

/-- (bits.Set).Empty -/
theorem empty_any (v : Value) (s : Nat) (w : World) (hs : SetV w v s) :
    Calls Tryd.prog 82 #[v] w fun e w' => e = .returned (.bool (decide (s = 0))) ∧ Ext w w' := by
  rcases hs.elim with ⟨rfl, p, c, rfl⟩ | ⟨b, o, c, h1, h2, rfl, hb, hc⟩
  · go_enter Tryd.func82, Tryd.ntmps82
    go_wp2
    go_ret
    exact ⟨rfl, (Ext.refl _).alloc _⟩
  · go_enter Tryd.func82, Tryd.ntmps82
    go_wp2
    go_ret
    exact ⟨by simp; omega, (Ext.refl _).alloc _⟩

/-- (bits.Set).Len -/
theorem len_any (v : Value) (s : Nat) (w : World) (hs : SetV w v s) (h64 : s < 64) :
    Calls Tryd.prog 52 #[v] w fun e w' => e = .returned (.int .i64 ((pop s : Nat) : Int)) ∧ Ext w w' := by
  have hp : pop s ≤ 6 := by unfold pop; exact Nat.le_trans (List.countP_le_length) (by simp)
  rcases hs.elim with ⟨rfl, p, c, rfl⟩ | ⟨b, o, c, h1, h2, rfl, hb, hc⟩
  · go_enter Tryd.func52, Tryd.ntmps52
    go_wp2
    go_rounds 1
    go_ret
    exact ⟨rfl, (Ext.refl _).alloc _⟩
  · go_enter Tryd.func52, Tryd.ntmps52
    go_wp2
    refine wp_loop_rounds 2 ?_
    rw [rounds_succ]
    go_wp2_with (go_at_call 94; refine (ones_any s _ h64).mono ?_; rintro e w' ⟨rfl, rfl⟩)
    rw [rounds_succ]
    go_wp2
    go_ret
    exact ⟨rfl, (Ext.refl _).alloc _⟩

/-- (bits.Set).Least -/
theorem least_any (v : Value) (s : Nat) (w : World) (hs : SetV w v s) (h64 : s < 64) (ht : TabOk w) :
    Calls Tryd.prog 99 #[v] w fun e w' => e = .returned (.tuple #[.int .i64 ((ctz s : Nat) : Int), .bool (decide (s ≠ 0))]) ∧ Ext w w' := by
  rcases hs.elim with ⟨rfl, p, c, rfl⟩ | ⟨b, o, c, h1, h2, rfl, hb, hc⟩
  · go_enter Tryd.func99, Tryd.ntmps99
    go_wp2
    go_rounds 1
    go_ret2
    exact ⟨rfl, (Ext.refl _).alloc _⟩
  · have hcc : ctz s < 64 := ctz_lt s h64
    have H := Lib.hid ht; clear ht
    go_enter Tryd.func99, Tryd.ntmps99
    go_wp2
    refine wp_loop_rounds 2 ?_
    rw [rounds_succ]
    go_wp2_with (go_at_call 105; refine (tz_any s _ h64 h1 (H.out.ext ((Ext.refl _).alloc _))).mono ?_; rintro e w' ⟨rfl, rfl⟩)
    go_ret2
    refine ⟨?_, (Ext.refl _).alloc _⟩
    simp
    omega
end Go.Proofs.YtcmlhpodghfheaaDoor
