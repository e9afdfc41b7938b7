/- Boolean matrices in memory; package matrix: what reads. -/
import Derived.Test.YtcmlhpodghfheaaDoorB8
import Derived.Maps.AppendAt
set_option linter.unusedSimpArgs false
set_option linter.unusedVariables false
namespace Go.Proofs.YtcmlhpodghfheaaDoor
open Go.RowKit

/-- The slice value v is that of the sets ss. -/
def Sets (w : World) (v : Value) (ss : List Nat) : Prop :=
  (ss = [] ∧ ∃ p c, v = .slice p 0 c) ∨ (ss ≠ [] ∧ ∃ b o c, v = .slice (some ⟨b, o, none⟩) ss.length c ∧ ∀ i, i < ss.length → ∃ y, w.cell? ⟨b, o + i, none⟩ = some y ∧ Words w y (ss.getD i 0))
theorem Sets.gr {w w' : World} {v : Value} {ss : List Nat} (h : Sets w v ss) (hx : Gr w w') : Sets w' v ss := by
  rcases h with h | ⟨h1, b, o, c, h2, h3⟩
  · exact .inl h
  · exact .inr ⟨h1, b, o, c, h2, fun i hi => let ⟨y, a, k⟩ := h3 i hi; ⟨y, hx.cell a, k.gr hx⟩⟩
theorem Words.slice {w : World} {v : Value} {s : Nat} (h : Words w v s) : ∃ p n c, v = .slice p n c := by
  rcases h with ⟨_, p, c, h⟩ | ⟨_, _, b, o, c, h, _⟩
  · exact ⟨p, 0, c, h⟩
  · exact ⟨_, 1, c, h⟩

structure Mat where
  cols : Nat
  rows : List Nat

/-- The pointer value v is the matrix m. -/
def MatV (w : World) (v : Value) (m : Mat) : Prop := ∃ b u, v = .pointer (some ⟨b, 0, none⟩) ∧ w.cell? ⟨b, 0, none⟩ = some (.int .i64 ((m.cols : Nat) : Int)) ∧ w.cell? ⟨b, 1, none⟩ = some u ∧ Sets w u m.rows
theorem MatV.gr {w w' : World} {v : Value} {m : Mat} (h : MatV w v m) (hx : Gr w w') : MatV w' v m := by
  obtain ⟨b, u, h1, h2, h3, h4⟩ := h; exact ⟨b, u, h1, hx.cell h2, hx.cell h3, h4.gr hx⟩
/-- Small enough for every count in sight. -/
def Mat.ok (m : Mat) : Prop := m.cols < 64 ∧ m.rows.length < 64

theorem Sets.slice {w : World} {v : Value} {ss : List Nat} (h : Sets w v ss) : ∃ p c, v = .slice p ss.length c := by
  rcases h with ⟨rfl, p, c, h⟩ | ⟨_, b, o, c, h, _⟩
  · exact ⟨p, c, h⟩
  · exact ⟨_, c, h⟩

theorem results_cell1 {P : Program} {fn : Func} {tmps : Array Value} {w : World} {t : Tmp} {ty : TypeId} {ad : Addr} {v : Value} (h : fn.results = #[.cell t ty])
    (ht : tmps[t]?.getD undef = .pointer (some ad)) (hl : (loadVar ty ad).run P w = .ok v w) : (results fn tmps).run P w = .ok v w := by
  simp [results, h, Sem.run_bind, Result.andThen, ht, asAddr, hl]

/-- The end of a function that holds one loop over a set. -/
theorem ret_mark {P : Program} {fn : Func} {R : Ending → World → Prop} {a : Act} {w : World} {n D : Nat} {v : Value} (hd : a.defers = [{ target := .collected D, args := #[] }])
    (hK : w.heap[D]? = some (.deferred (some []))) (hr : (results fn a.tmps).run P (w.putObj D (.deferred none)) = .ok v (w.putObj D (.deferred none))) (hR : R (.returned v) (w.putObj D (.deferred none))) : bodyPostM Fence.wide n P fn R .ret a w := by
  show LeavesInM _ _ _ _ _ _ a.defers .returning w
  rw [hd]
  refine ⟨by simp, .inl ⟨_, _, rfl, run_takeDeferred hK, ?_⟩⟩
  exact ⟨_, hr, hR⟩
theorem put_gr {w W : World} {D : Nat} {o : Obj} (h : Gr w W) (hD : w.heap.size ≤ D) : Gr w (W.putObj D o) :=
  h.grown (grownBy_putObj' W D o) (fun k e => by cases e; exact hD)
theorem put_cell {W : World} {D : Nat} {o : Obj} {ds : Option (List Deferred)} (hK : W.heap[D]? = some (.deferred ds)) {p : Addr} {v : Value} (h : W.cell? p = some v) : (W.putObj D o).cell? p = some v :=
  cell_kept h (grownBy_putObj' W D o) (fun r e => by cases e; exact ⟨_, hK, rfl⟩)
theorem put_words {W : World} {D : Nat} {o : Obj} {ds : Option (List Deferred)} (hK : W.heap[D]? = some (.deferred ds)) {v : Value} {s : Nat} (h : Words W v s) : Words (W.putObj D o) v s := by
  rcases h with h | ⟨h1, h2, b, o, c, h3, h4⟩
  · exact .inl h
  · exact .inr ⟨h1, h2, b, o, c, h3, put_cell hK h4⟩

/-- (*matrix.Matrix).Rows -/
theorem rows_any (v : Value) (m : Mat) (w : World) (hv : MatV w v m) (hm : m.ok) :
    Calls Tryd.prog 26 #[v] w fun e w' => e = .returned (.int .i64 ((m.rows.length : Nat) : Int)) ∧ w = w' := by
  obtain ⟨b, u, rfl, h1, h2, h3⟩ := hv
  obtain ⟨p, c, rfl⟩ := h3.slice
  clear h3
  go_enter Tryd.func26, Tryd.ntmps26
  go_wp2
  go_ret
  exact ⟨rfl, rfl⟩

/-- (*matrix.Matrix).Columns -/
theorem columns_any (v : Value) (m : Mat) (w : World) (hv : MatV w v m) (hm : m.ok) :
    Calls Tryd.prog 15 #[v] w fun e w' => e = .returned (.int .i64 ((m.cols : Nat) : Int)) ∧ w = w' := by
  obtain ⟨b, u, rfl, h1, h2, h3⟩ := hv
  clear h3
  go_enter Tryd.func15, Tryd.ntmps15
  go_wp2
  go_ret
  exact ⟨rfl, rfl⟩

/-- (*matrix.Matrix).inside -/
theorem inside_any (v : Value) (m : Mat) (i j : Nat) (w : World) (hv : MatV w v m) (hm : m.ok) (hi : i < 1000) (hj : j < 1000) :
    Calls Tryd.prog 93 #[v, .int .i64 (i : Int), .int .i64 (j : Int)] w fun e w' => e = .returned (.bool (decide (i < m.rows.length) && decide (j < m.cols))) ∧ w = w' := by
  have hv' := Lib.hid hv; clear hv
  have hm' := Lib.hid hm
  by_cases h : i < m.rows.length
  · have hd : decide (i < m.rows.length) = true := by simpa using h
    go_enter Tryd.func93, Tryd.ntmps93
    go_wp2_with (first | (go_at_call 26; refine (rows_any _ m _ hv'.out hm'.out).mono ?_; rintro e w' ⟨rfl, rfl⟩) | (go_at_call 15; refine (columns_any _ m _ hv'.out hm'.out).mono ?_; rintro e w' ⟨rfl, rfl⟩))
    go_ret
    exact ⟨by simp [h], rfl⟩
  · have hd : decide (i < m.rows.length) = false := by simpa using h
    go_enter Tryd.func93, Tryd.ntmps93
    go_wp2_with (first | (go_at_call 26; refine (rows_any _ m _ hv'.out hm'.out).mono ?_; rintro e w' ⟨rfl, rfl⟩))
    go_ret
    exact ⟨by simp [h], rfl⟩

def Mat.has (m : Mat) (i j : Nat) : Bool := decide (i < m.rows.length) && decide (j < m.cols) && (m.rows.getD i 0).testBit j

theorem Sets.at {w : World} {v : Value} {ss : List Nat} (h : Sets w v ss) (i : Nat) (hi : i < ss.length) :
    ∃ b o c y, v = .slice (some ⟨b, o, none⟩) ss.length c ∧ b < w.heap.size ∧ w.cell? ⟨b, o + i, none⟩ = some y ∧ SetV w (.agg #[y]) (ss.getD i 0) := by
  rcases h with ⟨rfl, _⟩ | ⟨_, b, o, c, h, h3⟩
  · simp at hi
  · obtain ⟨y, h4, h5⟩ := h3 i hi
    exact ⟨b, o, c, y, h, World.block_lt_of_cell? w _ h4, h4, y, rfl, h5⟩

/-- (*matrix.Matrix).Has -/
theorem mhas_any (v : Value) (m : Mat) (i j : Nat) (w : World) (hv : MatV w v m) (hm : m.ok) (hi : i < 64) (hj : j < 64) :
    Calls Tryd.prog 51 #[v, .int .i64 (i : Int), .int .i64 (j : Int)] w fun e w' => e = .returned (.bool (m.has i j)) ∧ Gr w w' := by
  have hv0 := Lib.hid hv
  have hm' := Lib.hid hm
  obtain ⟨b, u, rfl, h1, h2, h3⟩ := hv
  by_cases h : i < m.rows.length ∧ j < m.cols
  · obtain ⟨bb, o, c, y, rfl, hbb, hc, hy⟩ := h3.at i h.1
    have hd : (decide (i < m.rows.length) && decide (j < m.cols)) = true := by simpa using h
    have hy' := Lib.hid hy
    obtain ⟨p1, n1, c1, hsl⟩ := (show ∃ p n c, y = .slice p n c from by obtain ⟨z, hz, hzz⟩ := hy; simp at hz; subst hz; exact hzz.slice)
    subst hsl
    have hil := h.1
    clear hy h3
    go_enter Tryd.func51, Tryd.ntmps51
    go_wp2_with fail
    refine (inside_any _ m i j _ hv0.out hm'.out (by omega) (by omega)).mono ?_
    rintro e w1 ⟨rfl, rfl⟩
    rw [hd]
    go_wp2_with (go_at_call 60; refine (has_any _ _ j _ hy'.out hj).mono ?_; rintro e w2 ⟨rfl, hx2⟩)
    go_ret
    refine ⟨?_, hx2.gr⟩
    simp [Mat.has, h]
  · have hd : (decide (i < m.rows.length) && decide (j < m.cols)) = false := by simpa using h
    clear h3
    go_enter Tryd.func51, Tryd.ntmps51
    go_wp2_with fail
    refine (inside_any _ m i j _ hv0.out hm'.out (by omega) (by omega)).mono ?_
    rintro e w1 ⟨rfl, rfl⟩
    rw [hd]
    go_wp2_with fail
    go_ret
    refine ⟨?_, Gr.refl _⟩
    simp only [Mat.has, hd]; simp

theorem fin_setG {w1 w : World} {b p n c s} (hx : Gr w w1) (hv : SetV w1 (.agg #[.slice p n c]) s) {q : Value} (hq : ∀ x, q ≠ .int .u64 x) (hc : w1.cell? ⟨b, 0, none⟩ = some q) (hb : w.heap.size ≤ b) :
    (w1.setCell ⟨b, 0, none⟩ (.slice p n c)).cell? ⟨b, 0, none⟩ = some (.slice p n c) ∧ RetG s w (.returned (.agg #[.slice p n c])) (w1.setCell ⟨b, 0, none⟩ (.slice p n c)) := by
  refine ⟨World.cell?_setCell_same' _ _ _ (by rw [hc]; rfl), _, _, _, rfl, hv.setCell (fun x h => hq x ?_) _, hx.setCell hb _⟩
  rw [hc] at h; exact Option.some.inj h

/-- (*matrix.Matrix).Row -/
theorem row_any (v : Value) (m : Mat) (i : Nat) (w : World) (hv : MatV w v m) (hm : m.ok) (hi : i < 64) :
    Calls Tryd.prog 27 #[v, .int .i64 (i : Int)] w (RetG (m.rows.getD i 0) w) := by
  have hv0 := Lib.hid hv
  have hm' := Lib.hid hm
  have hk := hm.2
  obtain ⟨b, u, rfl, h1, h2, h3⟩ := hv
  have hb := World.block_lt_of_cell? w _ h1
  simp only [] at hb
  by_cases h : i < m.rows.length
  · obtain ⟨bb, o, c, y, rfl, hbb, hc, hy⟩ := h3.at i h
    obtain ⟨p1, n1, c1, hsl⟩ := (show ∃ p n c, y = .slice p n c from by obtain ⟨z, hz, hzz⟩ := hy; simp at hz; subst hz; exact hzz.slice)
    subst hsl
    have hy' := Lib.hid hy
    clear hy h3
    go_enter Tryd.func27, Tryd.ntmps27
    go_wp2_with (go_at_call 26; refine (rows_any _ m _ (hv0.out.gr ((Gr.refl _).alloc _)) hm'.out).mono ?_; rintro e w' ⟨rfl, rfl⟩)
    have hX : Gr w (w.alloc (.cells #[.slice p1 n1 c1] 69)) := (Gr.refl _).alloc _
    exact ret_set (u := .slice p1 n1 c1) rfl rfl rfl (by go_simp) ⟨_, _, _, rfl, hy'.out.gr hX, hX⟩
  · have hd : decide (m.rows.length ≤ i) = true := by simp; omega
    have hz : m.rows.getD i 0 = 0 := by simp [List.getD, List.getElem?_eq_none (show m.rows.length ≤ i by omega)]
    have HZ := Lib.hid hz
    clear h3 hz
    go_enter Tryd.func27, Tryd.ntmps27
    go_wp2_with (go_at_call 26; refine (rows_any _ m _ (hv0.out.gr ((Gr.refl _).alloc _)) hm'.out).mono ?_; rintro e w' ⟨rfl, rfl⟩)
    have hX : Gr w (w.alloc (.cells #[.slice none 0 0] 69)) := (Gr.refl _).alloc _
    rw [HZ.out]
    exact ret_set (u := .slice none 0 0) rfl rfl rfl (by go_simp) ⟨_, _, _, rfl, SetV.zero _ _ _, hX⟩

/-- What the call owns it owns in a world that has only grown. -/
theorem own_gr {w w' : World} {base : Nat} {e : TypeId} {size : Nat} {v : Value} {n : Nat} {xs : List Value} (h : w.ownsRow base e size v n xs) (hx : Gr w w') : w'.ownsRow base e size v n xs := by
  refine ⟨h.1, ?_⟩
  rcases h.2 with hn | ⟨g, cap, cur, rfl, hb, hgg, rest⟩
  · exact .inl hn
  · exact .inr ⟨g, cap, cur, rfl, hb, (Below.block hx g (Array.getElem?_eq_some_iff.1 hgg).1).trans hgg, rest⟩

theorem app_gr {w w1 w2 : World} {base : Nat} {e : TypeId} {size : Nat} {v : Value} {n : Nat} {xs : List Value} {o : Obj} (hG : Gr w w1) (ho : w1.ownsRow base e size v n xs) (hb : w.heap.size ≤ base) (hg : (w1.alloc o).grownBy w2 v.ownBlock) : Gr w w2 :=
  (hG.alloc o).grown hg (fun k hk => Nat.le_trans hb (World.ownsRow.lt ho k hk).1)
theorem app_cell {w1 w2 : World} {base : Nat} {e : TypeId} {size : Nat} {v : Value} {n : Nat} {xs : List Value} {o : Obj} (ho : w1.ownsRow base e size v n xs) (hg : (w1.alloc o).grownBy w2 v.ownBlock) {p : Addr} {x : Value} (hp : p.block < base) (hc : w1.cell? p = some x) : w2.cell? p = some x :=
  hg.cell (((Gr.refl w1).alloc o).cell hc) (fun e => by have := (World.ownsRow.lt ho _ e.symm).1; omega)
theorem app_frz {w1 w2 : World} {base : Nat} {e : TypeId} {size : Nat} {v : Value} {n : Nat} {xs : List Value} {o : Obj} (ho : w1.ownsRow base e size v n xs) (hg : (w1.alloc o).grownBy w2 v.ownBlock) {p : Addr} {x : Value} (hp : p.block < base) (hc : w1.cell? p = some x) (hf : w1.frozen? p = false) : w2.frozen? p = false :=
  (World.frozen?_of_block (hg.block p.block (by have := World.block_lt_of_cell? _ _ hc; simp; omega) (fun e => by have := (World.ownsRow.lt ho _ e.symm).1; omega))).trans (((Gr.refl w1).alloc o).frz hc hf)

theorem own_ints {w : World} {base : Nat} {e : TypeId} {v : Value} {xs : List Nat} (h : w.ownsRow base e 1 v xs.length (xs.map fun x => .int .i64 ((x : Nat) : Int))) : Ints w v xs := by
  rcases xs with _ | ⟨x0, xs⟩
  · obtain ⟨_, ⟨rfl, _⟩ | ⟨g, cap, cur, rfl, _⟩⟩ := h
    · exact .inl ⟨rfl, none, 0, rfl⟩
    · exact .inl ⟨rfl, _, _, rfl⟩
  · obtain ⟨_, ⟨_, h0⟩ | ⟨g, cap, cur, rfl, hb, hg, hn, hm, hs, ht⟩⟩ := h
    · simp at h0
    · refine .inr ⟨by simp, g, 0, cap, rfl, fun i hi => ?_⟩
      simp only [World.cell?, hg, Nat.zero_add]
      have h2 := congrArg (fun l => l[i]?) ht
      simp only [List.getElem?_map, Nat.mul_one] at h2
      rw [List.getElem?_take_of_lt hi] at h2
      simp only [List.getElem?_eq_getElem hi, Option.map_some] at h2
      simp only [Option.isSome_none, Bool.false_eq_true, if_false]
      rw [← Array.getElem?_toList, h2]
      simp [List.getD, List.getElem?_eq_getElem hi]

theorem info_int : (Tryd.prog.info? 3).map (fun i => (i.zero, i.size, i.bytes)) = some (some (.int .i64 0), 1, 8) := by kernel_rfl

/-- A column of a matrix. -/
def Mat.col (m : Mat) (j : Nat) : Nat := ofL ((List.range m.rows.length).filter fun i => m.has i j)

set_option maxHeartbeats 400000 in
/-- (*matrix.Matrix).Column -/
theorem column_any (v : Value) (m : Mat) (j : Nat) (w : World) (hv : MatV w v m) (hm : m.ok) (hj : j < 64) :
    Calls Tryd.prog 43 #[v, .int .i64 (j : Int)] w (RetG (m.col j) w) := by
  have hv0 := Lib.hid hv
  have hm' := Lib.hid hm
  have hk := hm.2
  obtain ⟨i0, hi0, hz0, hz1, hz2⟩ := info_parts info_int
  clear hv hm
  generalize hn : m.rows.length = n at *
  have HN := Lib.hid hn; clear hn
  go_enter Tryd.func43, Tryd.ntmps43
  go_wp2_with (go_at_call 26; refine (rows_any _ m _ (hv0.out.gr ((Gr.refl _).alloc _)) hm'.out).mono ?_; rintro e w' ⟨rfl, rfl⟩; rw [HN.out])
  go_loopw [5, 9] (fun l i wr => ∃ k : Nat, k ≤ n ∧ i = .int .i64 k ∧ Gr w wr ∧ wr.cell? ⟨w.heap.size, 0, none⟩ = some (.slice none 0 0) ∧ wr.frozen? ⟨w.heap.size, 0, none⟩ = false ∧
      wr.ownsRow (w.heap.size + 1) 3 1 l ((List.range k).filter fun i => m.has i j).length (((List.range k).filter fun i => m.has i j).map fun x => .int .i64 ((x : Nat) : Int))) (fun _ i _ => n - (intOf i).toNat)
  case atStart => exact ⟨0, Nat.zero_le _, rfl, (Gr.refl _).alloc _, by go_simp, by go_simp, World.ownsRow_nil _ _ _ _⟩
  case round =>
    obtain ⟨k, hkn, rfl, hG, hr, hrf, hown⟩ := hrel
    have HO := Lib.hid hown
    have HG := Lib.hid hG
    clear hown hG
    by_cases hlt : k < n
    · cases hb : m.has k j with
      | true =>
        go_wp2_with fail
        refine (mhas_any _ m k j _ (hv0.out.gr HG.out) hm'.out (by omega) hj).mono ?_
        rintro e w1 ⟨rfl, hx1⟩
        rw [hb]
        have hr1 := hx1.cell hr
        have hrf1 := hx1.frz hr hrf
        have hsz : w.heap.size + 1 ≤ w1.heap.size := World.block_lt_of_cell? _ _ hr1
        have hlen : ((List.range k).filter fun i => m.has i j).length ≤ k := Nat.le_trans (List.length_filter_le _ _) (by simp)
        have HO1 := Lib.hid (own_gr HO.out hx1)
        clear hr hrf
        go_wp2_with (at_builtin; refine wpl_append rfl _ _ 36 rfl (w.heap.size + 1) 3 i0 (.int .i64 0) 1 8 Tryd.underlying36 hi0 hz0 hz1 hz2 rfl (by decide) _ _ _ rfl (HO1.out.alloc _) ⟨w1.heap.size, 0, none⟩ 1 1 [.int .i64 (k : Int)] rfl rfl (cell_one_new _ _ _) (by simp [Value.oneCell']) (by unfold maxLen; omega) (by omega) (by simp; omega) ?_; intro v' w2 hown' hgrow hdr)
        have hG2 := app_gr (HG.out.trans hx1) HO1.out (by omega) hgrow
        have hr2 := app_cell HO1.out hgrow (p := ⟨w.heap.size, 0, none⟩) (by simp) hr1
        have hrf2 := app_frz HO1.out hgrow (p := ⟨w.heap.size, 0, none⟩) (by simp) hr1 hrf1
        clear hgrow hdr
        go_roundw
        case rel =>
          refine ⟨k + 1, by omega, by go_num, hG2, hr2, hrf2, ?_⟩
          rw [List.range_succ, List.filter_append]
          simpa [hb] using hown'
        case measure => simp [intOf]; omega
      | false =>
        go_wp2_with fail
        refine (mhas_any _ m k j _ (hv0.out.gr HG.out) hm'.out (by omega) hj).mono ?_
        rintro e w1 ⟨rfl, hx1⟩
        rw [hb]
        have hr1 := hx1.cell hr
        have hrf1 := hx1.frz hr hrf
        clear hr hrf
        go_wp2
        go_roundw
        case rel =>
          refine ⟨k + 1, by omega, by go_num, HG.out.trans hx1, hr1, hrf1, ?_⟩
          rw [List.range_succ, List.filter_append]
          simpa [hb] using own_gr HO.out hx1
        case measure => simp [intOf]; omega
    · obtain rfl : k = n := by omega
      have hi := own_ints HO.out
      have hall : ∀ x ∈ (List.range k).filter (fun i => m.has i j), x < 64 := by
        intro x hx
        have := List.mem_range.1 (List.mem_filter.1 hx).1
        omega
      have hlen : ((List.range k).filter fun i => m.has i j).length ≤ 1000000 := Nat.le_trans (List.length_filter_le _ _) (by simp; omega)
      have HI := Lib.hid hi
      have HA := Lib.hid hall
      clear hi hall
      go_wp2_with fail
      refine (of_any _ _ _ HI.out HA.out hlen).mono ?_
      rintro e w1 ⟨p1, n1, c1, rfl, hv1, hx1⟩
      have hr1 := hx1.cell hr
      have hrf1 := hx1.frz hr hrf
      clear hr hrf
      go_wp2
      have F := fin_setG (HG.out.trans hx1.gr) hv1 (by simp) hr1 (Nat.le_refl _)
      refine ret_set rfl rfl rfl F.1 ?_
      have := F.2
      unfold Mat.col
      rw [HN.out]
      exact this
end Go.Proofs.YtcmlhpodghfheaaDoor
