/- Basic words of this work: worlds that only grow, sets of small numbers in memory. -/
import Derived.Test.YtcmlhpodghfheaaDoorB00
import Derived.WalkKit
import Derived.WalkSpells
import Derived.WalkLawsBesides
import Derived.Deep.QuietTactic
import Derived.BigQuiet
import Derived.Lib.Hide
set_option linter.unusedSimpArgs false
set_option linter.unusedVariables false
namespace Go.Proofs.YtcmlhpodghfheaaDoor
open Go.RowKit

/-- The world w' is w with further blocks and further draws. -/
structure Ext (w w' : World) : Prop where
  below : Below w.heap.size w w'
  drawn : w.drawn ≤ w'.drawn

theorem Ext.refl (w : World) : Ext w w := ⟨Below.refl _ _, Nat.le_refl _⟩
theorem Ext.trans {a b c : World} (h : Ext a b) (k : Ext b c) : Ext a c :=
  ⟨h.below.trans (k.below.mono h.below.size), Nat.le_trans h.drawn k.drawn⟩
theorem Ext.size {a b : World} (h : Ext a b) : a.heap.size ≤ b.heap.size := h.below.size
theorem Ext.alloc {a b : World} (h : Ext a b) (o : Obj) : Ext a (b.alloc o) := ⟨h.below.alloc h.size o, h.drawn⟩
theorem Ext.drew {a b : World} (h : Ext a b) : Ext a b.drew := ⟨h.below.drew, Nat.le_trans h.drawn (Nat.le_succ _)⟩
theorem Ext.setCell {a b : World} (h : Ext a b) {p : Addr} (hp : a.heap.size ≤ p.block) (u : Value) : Ext a (b.setCell p u) := ⟨h.below.setCell hp u, h.drawn⟩
theorem Ext.grown {a b c : World} {row : Option Nat} (h : Ext a b) (hg : b.grownBy c row) (hr : ∀ k, row = some k → a.heap.size ≤ k) (hd : b.drawn ≤ c.drawn) : Ext a c :=
  ⟨h.below.grown hg h.size hr, Nat.le_trans h.drawn hd⟩
theorem Ext.cell {a b : World} (h : Ext a b) {p : Addr} {v : Value} (hc : a.cell? p = some v) : b.cell? p = some v :=
  (h.below.cell (World.block_lt_of_cell? a p hc)).trans hc

theorem Ext.frz {a b : World} (h : Ext a b) {p : Addr} {v : Value} (hc : a.cell? p = some v) (hf : a.frozen? p = false) : b.frozen? p = false :=
  (h.below.frozen (World.block_lt_of_cell? a p hc)).trans hf

/-- What was there reads as it did: the two rules that a walk wants behind a call. -/
theorem Ext.cells {W w1 : World} (hb : Ext W w1) : (∀ b o, b < W.heap.size → w1.cell? ⟨b, o, none⟩ = W.cell? ⟨b, o, none⟩) ∧ (∀ b o, b < W.heap.size → w1.frozen? ⟨b, o, none⟩ = W.frozen? ⟨b, o, none⟩) :=
  ⟨fun b o h => hb.below.cell (p := ⟨b, o, none⟩) h, fun b o h => hb.below.frozen (p := ⟨b, o, none⟩) h⟩

/-- A name for the world at hand. -/
theorem name_wp {P : Program} {c : Code} {Q : Exit → Act → World → Prop} {a : Act} {w : World} (h : ∀ W, W = w → c.wp P Q a W) : c.wp P Q a w := h w rfl
theorem name_calls {P : Program} {f : FuncId} {av : Array Value} {R : Ending → World → Prop} {w : World} (h : ∀ W, W = w → Calls P f av W R) : Calls P f av w R := h w rfl

/-- What a cell holds: for a fact on a cell that a store turns. -/
def cellAt (w : World) (a : Addr) : Value := (w.cell? a).getD undef
theorem cellAt_of {w : World} {a : Addr} {v : Value} (h : w.cell? a = some v) : w.cell? a = some (cellAt w a) := by simp [cellAt, h]
theorem cellAt_ext {w w' : World} {a : Addr} (h : w.cell? a = some (cellAt w a)) (hx : Ext w w') : w'.cell? a = some (cellAt w' a) := cellAt_of (hx.cell h)
theorem cellAt_set {w : World} {a b : Addr} {u : Value} (h : w.cell? a = some (cellAt w a)) : (w.setCell b u).cell? a = some (cellAt (w.setCell b u) a) := by
  by_cases e : b = a
  · subst e; exact cellAt_of (World.cell?_setCell_same' _ _ _ (by rw [h]; rfl))
  · exact cellAt_of ((World.cell?_setCell_other _ _ _ _ e).trans h)

/-- The slice value v is that of the words of the set s (a set of numbers below 64). -/
def Words (w : World) (v : Value) (s : Nat) : Prop :=
  (s = 0 ∧ ∃ p c, v = .slice p 0 c) ∨ (0 < s ∧ s < 18446744073709551616 ∧ ∃ b o c, v = .slice (some ⟨b, o, none⟩) 1 c ∧ w.cell? ⟨b, o, none⟩ = some (.int .u64 s))
/-- The struct value v is the set s. -/
def SetV (w : World) (v : Value) (s : Nat) : Prop := ∃ u, v = .agg #[u] ∧ Words w u s

theorem Words.ext {w w' : World} {v : Value} {s : Nat} (h : Words w v s) (hx : Ext w w') : Words w' v s := by
  rcases h with h | ⟨h1, h2, b, o, c, h3, h4⟩
  · exact .inl h
  · exact .inr ⟨h1, h2, b, o, c, h3, hx.cell h4⟩
theorem SetV.ext {w w' : World} {v : Value} {s : Nat} (h : SetV w v s) (hx : Ext w w') : SetV w' v s := by
  obtain ⟨u, hu, hw⟩ := h; exact ⟨u, hu, hw.ext hx⟩

theorem SetV.elim {w : World} {v : Value} {s : Nat} (h : SetV w v s) : (s = 0 ∧ ∃ p c, v = .agg #[.slice p 0 c]) ∨
    (∃ b o c, 0 < s ∧ s < 18446744073709551616 ∧ v = .agg #[.slice (some ⟨b, o, none⟩) 1 c] ∧ b < w.heap.size ∧ w.cell? ⟨b, o, none⟩ = some (.int .u64 s)) := by
  obtain ⟨u, rfl, h⟩ := h
  rcases h with ⟨h0, p, c, rfl⟩ | ⟨h1, h2, b, o, c, rfl, h4⟩
  · exact .inl ⟨h0, p, c, rfl⟩
  · exact .inr ⟨b, o, c, h1, h2, rfl, World.block_lt_of_cell? w _ h4, h4⟩

/-- (bits.Set).word -/
theorem word_zero (v : Value) (s : Nat) (k : Int) (w : World) (hs : SetV w v s) (hk : k = 0) :
    Calls Tryd.prog 92 #[v, .int .i64 k] w fun e w' => e = .returned (.int .u64 (s : Int)) ∧ Ext w w' := by
  subst hk
  rcases hs.elim with ⟨rfl, p, c, rfl⟩ | ⟨b, o, c, h1, h2, rfl, hb, hc⟩
  · go_enter Tryd.func92, Tryd.ntmps92
    go_wp2
    go_ret
    exact ⟨by simp, (Ext.refl _).alloc _⟩
  · go_enter Tryd.func92, Tryd.ntmps92
    go_wp2
    go_ret
    exact ⟨by simp, (Ext.refl _).alloc _⟩

theorem word_far (v : Value) (s : Nat) (k : Int) (w : World) (hs : SetV w v s) (hk : 1 ≤ k) :
    Calls Tryd.prog 92 #[v, .int .i64 k] w fun e w' => e = .returned (.int .u64 0) ∧ Ext w w' := by
  rcases hs.elim with ⟨rfl, p, c, rfl⟩ | ⟨b, o, c, h1, h2, rfl, hb, hc⟩
  · go_enter Tryd.func92, Tryd.ntmps92
    go_wp2
    go_ret
    exact ⟨by simp, (Ext.refl _).alloc _⟩
  · go_enter Tryd.func92, Tryd.ntmps92
    go_wp2
    go_ret
    exact ⟨by simp, (Ext.refl _).alloc _⟩

theorem SetV.lt {w : World} {v : Value} {s : Nat} (h : SetV w v s) : s < 18446744073709551616 := by
  rcases h.elim with ⟨rfl, _⟩ | ⟨_, _, _, _, h, _⟩ <;> omega

end Go.Proofs.YtcmlhpodghfheaaDoor
