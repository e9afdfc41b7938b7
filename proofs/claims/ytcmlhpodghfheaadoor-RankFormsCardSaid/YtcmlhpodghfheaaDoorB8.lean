/- Ranging over a set: the iterator's contract; the law for a loop over a set. -/
import Derived.Test.YtcmlhpodghfheaaDoorB7
import Derived.RangeFuncNested
import Derived.RangeFuncBound
import Derived.RangeFuncCalls
import Derived.RangeFuncLeaves
import Derived.Shelf.Abstract
import Derived.Shelf.RegionOpen
import Derived.OwnWalkIn
import Derived.TacticsInMore
import Derived.LoopNIn
import Derived.LoopIn
set_option linter.unusedSimpArgs false
set_option linter.unusedVariables false
namespace Go.Proofs.YtcmlhpodghfheaaDoor
open Go.RowKit Go.Shelf
attribute [local go_sem] Oper.semAt_some

/-- The world w' is w with further blocks (and some draws). -/
def Gr (w w' : World) : Prop := Below w.heap.size w w'
theorem Ext.gr {w w' : World} (h : Ext w w') : Gr w w' := h.below
theorem Gr.refl (w : World) : Gr w w := Below.refl _ _
theorem Gr.trans {a b c : World} (h : Gr a b) (k : Gr b c) : Gr a c := Below.trans h (Below.mono k (Below.size h))
theorem Gr.size {a b : World} (h : Gr a b) : a.heap.size ≤ b.heap.size := Below.size h
theorem Gr.alloc {a b : World} (h : Gr a b) (o : Obj) : Gr a (b.alloc o) := Below.alloc h (Below.size h) o
theorem Gr.drew {a b : World} (h : Gr a b) : Gr a b.drew := Below.drew h
theorem Gr.setCell {a b : World} (h : Gr a b) {p : Addr} (hp : a.heap.size ≤ p.block) (u : Value) : Gr a (b.setCell p u) := Below.setCell h hp u
theorem Gr.grown {a b c : World} {row : Option Nat} (h : Gr a b) (hg : b.grownBy c row) (hr : ∀ k, row = some k → a.heap.size ≤ k) : Gr a c := Below.grown h hg (Below.size h) hr
theorem Gr.cell {a b : World} (h : Gr a b) {p : Addr} {v : Value} (hc : a.cell? p = some v) : b.cell? p = some v :=
  (Below.cell h (World.block_lt_of_cell? a p hc)).trans hc
theorem Gr.frz {a b : World} (h : Gr a b) {p : Addr} {v : Value} (hc : a.cell? p = some v) (hf : a.frozen? p = false) : b.frozen? p = false :=
  (Below.frozen h (World.block_lt_of_cell? a p hc)).trans hf
theorem Gr.cells {W w1 : World} (hb : Gr W w1) : (∀ b o, b < W.heap.size → w1.cell? ⟨b, o, none⟩ = W.cell? ⟨b, o, none⟩) ∧ (∀ b o, b < W.heap.size → w1.frozen? ⟨b, o, none⟩ = W.frozen? ⟨b, o, none⟩) :=
  ⟨fun b o h => Below.cell hb (p := ⟨b, o, none⟩) h, fun b o h => Below.frozen hb (p := ⟨b, o, none⟩) h⟩
theorem cellAt_gr {w w' : World} {a : Addr} (h : w.cell? a = some (cellAt w a)) (hx : Gr w w') : w'.cell? a = some (cellAt w' a) := cellAt_of (hx.cell h)
theorem Words.gr {w w' : World} {v : Value} {s : Nat} (h : Words w v s) (hx : Gr w w') : Words w' v s := by
  rcases h with h | ⟨h1, h2, b, o, c, h3, h4⟩
  · exact .inl h
  · exact .inr ⟨h1, h2, b, o, c, h3, hx.cell h4⟩
theorem SetV.gr {w w' : World} {v : Value} {s : Nat} (h : SetV w v s) (hx : Gr w w') : SetV w' v s := by
  obtain ⟨u, hu, hw⟩ := h; exact ⟨u, hu, hw.gr hx⟩
theorem TabOk.gr {w w' : World} (h : TabOk w) (hx : Gr w w') : TabOk w' :=
  ⟨Nat.lt_of_lt_of_le h.1 hx.size, fun i hi => hx.cell (h.2 i hi)⟩

/-- A contract of a function whose result is the set s. -/
def RetG (s : Nat) (w : World) (e : Ending) (w' : World) : Prop := ∃ p n c, e = .returned (.agg #[.slice p n c]) ∧ SetV w' (.agg #[.slice p n c]) s ∧ Gr w w'
theorem RetSet.g {s : Nat} {w : World} {e : Ending} {w' : World} (h : RetSet s w e w') : RetG s w e w' := by
  obtain ⟨p, n, c, h1, h2, h3⟩ := h; exact ⟨p, n, c, h1, h2, h3.gr⟩

/-- The members of a set. -/
def Mem (s : Nat) : Type := { x : Nat // x < 6 ∧ s.testBit x = true }
def mems (s : Nat) : List Nat := (List.range 6).filter fun i => s.testBit i

theorem mems_step : ∀ x, x < 64 → 0 < x → mems x = ctz x :: mems (x &&& (x - 1)) ∧ x.testBit (ctz x) = true ∧ ctz x < 6 ∧ x &&& (x - 1) < 64 := by decide +kernel
theorem mems_zero : mems 0 = [] := by decide +kernel

/-- (bits.Set).All -/
theorem all_any (u : Value) (w : World) :
    Calls Tryd.prog 67 #[.agg #[u]] w fun e w' => e = .returned (.func (.func 104) #[] #[.pointer (some ⟨w.heap.size, 0, none⟩)]) ∧ w.alloc (.cells #[u] 69) = w' := by
  go_enter Tryd.func67, Tryd.ntmps67
  go_wp2
  go_ret
  exact ⟨rfl, rfl⟩

theorem and_pred (x : Nat) (hx : x < 64) (h0 : 0 < x) : bits BinOp.and IntKind.u64 (x : Int) ((x : Int) - 1) = ((x &&& (x - 1) : Nat) : Int) := by
  rw [show ((x : Int) - 1) = ((x - 1 : Nat) : Int) from by omega]
  exact u64_and_nat x (x - 1) (by omega) (by omega)

/-- Each cell outside some blocks holds what it held. -/
def KeepBut (Ws : Nat → Prop) (A C : World) : Prop := ∀ p v, ¬ Ws p.block → A.cell? p = some v → C.cell? p = some v
theorem KeepBut.refl (Ws : Nat → Prop) (A : World) : KeepBut Ws A A := fun _ _ _ h => h
theorem KeepBut.trans {Ws : Nat → Prop} {A B C : World} (h : KeepBut Ws A B) (k : KeepBut Ws B C) : KeepBut Ws A C := fun p v hp hc => k p v hp (h p v hp hc)
theorem KeepBut.gr {Ws : Nat → Prop} {A B C : World} (h : KeepBut Ws A B) (k : Gr B C) : KeepBut Ws A C := fun p v hp hc => k.cell (h p v hp hc)
theorem KeepBut.setCell {Ws : Nat → Prop} {A B : World} (h : KeepBut Ws A B) {a : Addr} (ha : Ws a.block) (u : Value) : KeepBut Ws A (B.setCell a u) :=
  fun p v hp hc => cell?_setCell_ne (h p v hp hc) (fun e => hp (e ▸ ha))
theorem keepBut_b {Ws : Nat → Prop} {w : World} (W : World) (l : Nat) (o o' : Obj) (_ : w.heap.size ≤ l) (h : W.heap[l]? = some o) (hc : o.isCells = false) (_ : o.isWalk = false) : KeepBut Ws W (W.putObj l o') :=
  fun _ _ _ hv => cell_kept hv (grownBy_putObj' W l o') (fun r e => by cases e; exact ⟨o, h, hc⟩)

set_option maxHeartbeats 1000000 in
/-- The iterator over a set: whatever loop body keeps the cells outside the blocks Ws. -/
theorem seq_any (B : Nat) (Ws : Nat → Prop) (u : Value) (s : Nat) (w : World) (hs : SetV w (.agg #[u]) s) (h64 : s < 64) (ht : TabOk w) (hB : ¬ Ws B) (hb : w.cell? ⟨B, 0, none⟩ = some u)
    (hlow : ∀ b o c, u = .slice (some ⟨b, o, none⟩) 1 c → ¬ Ws b) (htl : ¬ Ws 0) :
    SeqStopsK Fence.wide 5 Tryd.prog 104 #[.pointer (some ⟨B, 0, none⟩)] (fun x : Mem s => #[.int .i64 ((x.1 : Nat) : Int)]) (KeepBut Ws)
      (fun xs => xs.map (·.1) = mems s) (fun pre => pre.map (·.1) <+: mems s) 6 w := fun l J Jx W hW hJ hJx hY h0 => by
  refine callsIn_of_wp Tryd.func104 rfl trivial ?_ rfl
  simp only [Tryd.ntmps104, List.size_toArray, List.length_cons, List.length_nil, Nat.reduceAdd, Nat.reduceSub, Array.replicate_succ, Array.replicate_zero, List.push_toArray, List.append_toArray, List.nil_append, List.cons_append]
  have hbW : W.cell? ⟨B, 0, none⟩ = some u := (Gr.cell hW hb)
  rcases (hs.gr hW).elim with ⟨rfl, p, c, hu⟩ | ⟨b, o, c, h1, h2, hu, hbb, hc⟩
  · simp only [Value.agg.injEq] at hu
    obtain rfl : u = .slice p 0 c := by simpa using hu
    gi_wp2
    refine wpIn_loop_rounds 1 ?_
    rw [roundsIn_succ]
    gi_wp2
    go_end0
    exact ⟨⟨_, rfl⟩, .inl ⟨[], rfl, h0⟩⟩
  · simp only [Value.agg.injEq] at hu
    obtain rfl : u = .slice (some ⟨b, o, none⟩) 1 c := by simpa using hu
    have hbn : ¬ Ws b := hlow b o c rfl
    have htW := ht.gr hW
    have HY := Lib.hid hY
    clear hY hu hlow
    gi_wp2
    refine wpIn_loop_rounds 2 ?_
    rw [roundsIn_succ]
    gi_wp2
    gi_loopw [4] (fun v wr => ∃ (pre : List (Mem s)) (x : Nat), v = .int .u64 x ∧ pre.map (·.1) ++ mems x = mems s ∧ x < 64 ∧ J pre wr ∧ KeepBut Ws W wr) (fun v _ => (intOf v).toNat)
    case atStart => exact ⟨[], s, rfl, rfl, h64, h0, KeepBut.refl _ _⟩
    case round =>
      obtain ⟨pre, x, rfl, hm, hx, hJp, hBe⟩ := hrel
      by_cases hx0 : x = 0
      · subst hx0
        rw [mems_zero, List.append_nil] at hm
        have HM := Lib.hid hm; clear hm
        gi_wp2
        rw [roundsIn_succ]
        gi_wp2
        go_end0
        exact ⟨⟨_, rfl⟩, .inl ⟨pre, HM.out, hJp⟩⟩
      · have hx1 : 0 < x := by omega
        obtain ⟨hstep, hbit, hc6, hlt⟩ := mems_step x hx hx1
        have hmem : ctz x ∈ mems s := by rw [← hm, hstep]; simp
        have hmem2 : ctz x < 6 ∧ s.testBit (ctz x) = true := by simpa [mems] using hmem
        have hplen : pre.length < 6 := by
          have h1 : (mems s).length ≤ 6 := Nat.le_trans (List.length_filter_le _ _) (by simp)
          have h2 := congrArg List.length hm
          rw [hstep] at h2
          simp at h2
          omega
        obtain ⟨fn, tmps, assign, body, hy, hR⟩ := HY.out pre ⟨ctz x, hmem2⟩ wr hJp hplen
        dsimp only at hy
        have htr : TabOk wr := ⟨World.block_lt_of_cell? wr _ (hBe _ _ htl (htW.2 0 (by omega))), fun i hi => hBe _ _ htl (htW.2 i hi)⟩
        have hand := and_pred x hx hx1
        have hltx : x &&& (x - 1) < x := Nat.lt_of_le_of_lt Nat.and_le_right (by omega)
        have HS := Lib.hid hstep
        have HM := Lib.hid hm
        have HA := Lib.hid hand
        have HT := Lib.hid htr
        have hne : ((x : Int) != 0) = true := by simp; omega
        have hcc := ctz_lt x hx
        clear hstep hm hand htr hmem hx0
        gi_wp2_with (refine ⟨trivial, ?_⟩; gi_at_call 105; refine (callsIn_wide.2 (tz_any x _ hx hx1 HT.out)).mono ?_; rintro e w' ⟨rfl, rfl⟩)
        refine hR.mono ?_
        rintro e W2 (⟨rfl, hJ2, hk2⟩ | ⟨rfl, hJx2⟩)
        · gi_wp2
          refine ⟨⟨pre ++ [⟨ctz x, hmem2⟩], x &&& (x - 1), by rw [HA.out], ?_, hlt, hJ2, hBe.trans hk2⟩, ?_⟩
          · have := HM.out; rw [HS.out] at this; rw [List.map_append, List.append_assoc]; exact this
          · rw [HA.out]; simp only [intOf]; omega
        · gi_wp2
          refine bodyPost_ret (results_none rfl _ _ _) rfl ?_
          refine ⟨⟨_, rfl⟩, .inr ⟨pre ++ [⟨ctz x, hmem2⟩], ⟨mems (x &&& (x - 1)), ?_⟩, hJx2⟩⟩
          have := HM.out; rw [HS.out] at this; rw [List.map_append, List.append_assoc]; exact this

/-- What a turn of the loop's own book-keeping leaves. -/
theorem turn_cell {A C : World} {row : Option Nat} {p : Addr} {v : Value} {B : Nat} (hg : A.grownBy C row) (hr : ∀ r, row = some r → B ≤ r ∧ ∃ o : Obj, A.heap[r]? = some o ∧ o.isCells = false) (h : A.cell? p = some v) : C.cell? p = some v :=
  cell_kept h hg (fun r e => (hr r e).2)
theorem turn_frz {A C : World} {row : Option Nat} {p : Addr} {v : Value} {B : Nat} (hg : A.grownBy C row) (hr : ∀ r, row = some r → B ≤ r ∧ ∃ o : Obj, A.heap[r]? = some o ∧ o.isCells = false) (h : A.cell? p = some v) (hf : A.frozen? p = false) : C.frozen? p = false :=
  (frozen_kept h hg (fun r e => (hr r e).2)).trans hf
theorem turn_words {A C : World} {row : Option Nat} {v : Value} {s : Nat} {B : Nat} (hg : A.grownBy C row) (hr : ∀ r, row = some r → B ≤ r ∧ ∃ o : Obj, A.heap[r]? = some o ∧ o.isCells = false) (h : Words A v s) : Words C v s := by
  rcases h with h | ⟨h1, h2, b, o, c, h3, h4⟩
  · exact .inl h
  · exact .inr ⟨h1, h2, b, o, c, h3, turn_cell hg hr h4⟩
theorem turn_below {A C w : World} {row : Option Nat} {B : Nat} (hB : w.heap.size ≤ B) (hg : A.grownBy C row) (hr : ∀ r, row = some r → B ≤ r ∧ ∃ o : Obj, A.heap[r]? = some o ∧ o.isCells = false) (h : Gr w A) : Gr w C :=
  Gr.grown h hg (fun k e => Nat.le_trans hB (hr k e).1)
theorem gr_keepsFrom {W W' : World} (B : Nat) (h : Gr W W') : KeepsFrom B W W' :=
  ⟨h.size, fun k o _ hk _ => (Below.block h k (Array.getElem?_eq_some_iff.1 hk).1).trans hk⟩

/-- Marks that loops over functions have left. -/
def Marks (w : World) (ds : List Deferred) : Prop := ∀ d ∈ ds, ∃ D, d.target = .collected D ∧ d.args = #[] ∧ (w.heap[D]? = some (.deferred (some [])))

/-- A loop over the members of a set: 'for i := range s.All()' behind the call of All. -/
theorem wp_rangeSet {g : Operand} {ps : Array Tmp} {assign body : Code} {Q : Exit → Act → World → Prop} {a : Act} {w : World} {B : Nat} {u : Value} {s : Nat}
    (hg : a.eval g = .func (.func 104) #[] #[.pointer (some ⟨B, 0, none⟩)]) (hps : ps.size = 1)
    (hb : w.cell? ⟨B, 0, none⟩ = some u) (hs : SetV w (.agg #[u]) s) (h64 : s < 64) (ht : TabOk w)
    (I : List (Mem s) → World → Prop) (hI : OwnFrom w.heap.size I) (h0 : I [] w) (Ws : Nat → Prop) (hB : ¬ Ws B) (hlow : ∀ b o c, u = .slice (some ⟨b, o, none⟩) 1 c → ¬ Ws b) (htl : ¬ Ws 0) (a₁ : Mem s → Act)
    (hassign : ∀ (l : Nat) (x : Mem s) (W : World) (K : Act → World → Prop), K (a₁ x) W →
      assign.wpIn (Fence.wide.inRound l) 4 Tryd.prog (Exit.then K (fun _ _ _ => False)) { tmps := (ps.zip #[.int .i64 ((x.1 : Nat) : Int)]).foldl (fun t (p, v) => t.setIfInBounds p v) a.tmps, defers := [] } W)
    (hbody : ∀ (l : Nat) (pre : List (Mem s)) (x : Mem s) (W : World), I pre W → pre.length < 6 →
      body.wpIn (Fence.wide.inRound l) 4 Tryd.prog (ownPostG w.heap.size (KeepBut Ws) I (fun _ _ _ => False) (pre ++ [x]) W) (a₁ x) W)
    (hdone : ∀ (D : Nat) (xs : List (Mem s)) (W : World), w.heap.size ≤ D → xs.map (·.1) = mems s → I xs W → W.heap[D]? = some (.deferred (some [])) → Q .normal { a with defers := { target := .collected D, args := #[] } :: a.defers } W) :
    (Code.rangeFunc g ps assign body).wp Tryd.prog Q a w := by
  refine (wpIn_wide (n := 6)).1 ?_
  refine wpIn_rangeFunc_ownG rfl (by omega) hg trivial (enters_of Tryd.func104 (by kernel_rfl) rfl)
    (seq_any B Ws u s w hs h64 ht hB hb hlow htl) KeepBut.trans keepBut_b (Below.refl _ _) (fun _ => by rw [hps]; rfl) I (fun _ _ _ => False) hI (fun _ => fun _ _ _ _ h _ _ => h) h0 a₁ hassign hbody hdone ?_
  intro D c pre W _ _ h _
  exact h.elim
end Go.Proofs.YtcmlhpodghfheaaDoor
