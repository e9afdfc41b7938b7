/- Package closure. -/
import Derived.Test.YtcmlhpodghfheaaDoorM1
import Derived.RegionIn
import Derived.Deep.RegionWith
set_option linter.unusedSimpArgs false
set_option linter.unusedVariables false
namespace Go.Proofs.YtcmlhpodghfheaaDoor
open Go.RowKit Go.Shelf
attribute [local go_sem] Oper.semAt_some

/-- The words of a struct's one field. -/
theorem SetV.words {w : World} {u : Value} {s : Nat} (h : SetV w (.agg #[u]) s) : Words w u s := by
  obtain ⟨z, hz, hzz⟩ := h
  simp at hz; subst hz; exact hzz
theorem Words.setCell {w : World} {v : Value} {s : Nat} (h : Words w v s) {a : Addr} {q : Value} (hq : ∀ x, q ≠ .int .u64 x) (hc : w.cell? a = some q) (u : Value) : Words (w.setCell a u) v s :=
  (SetV.setCell ⟨v, rfl, h⟩ (fun x hx => hq x (by rw [hc] at hx; exact Option.some.inj hx)) u).words

/-- The columns that all of some rows have. -/
def Mat.common (m : Mat) (l : List Nat) : Nat := l.foldl (fun s i => if i < m.rows.length then s &&& m.rows.getD i 0 else s) (belowN m.cols)

set_option maxHeartbeats 1000000 in
/-- closure.Common -/
theorem common_any (v v2 : Value) (m : Mat) (s : Nat) (w : World) (hv : MatV w v m) (hm : m.ok) (hs : SetV w v2 s) (h64 : s < 64) (ht : TabOk w) :
    Calls Tryd.prog 120 #[v, v2] w (RetG (m.common (mems s)) w) := by
  have hv0 := Lib.hid hv
  have hm' := Lib.hid hm
  obtain ⟨u, rfl, hu⟩ := hs
  have hs0 : SetV w (.agg #[u]) s := ⟨u, rfl, hu⟩
  have hs' := Lib.hid hs0
  have ht' := Lib.hid ht
  obtain ⟨bm, um, rfl, hm1, hm2, hm3⟩ := hv
  have HM3 := Lib.hid hm3
  clear hm hs0 hu ht hm3 hm1 hm2
  refine (callsIn_wide (n := 6)).1 ?_
  refine callsIn_of_wp_marks Tryd.func120 rfl trivial ?_ rfl
  refine wpIn_wide.2 ?_
  simp only [Tryd.ntmps120, List.size_toArray, List.length_cons, List.length_nil, Nat.reduceAdd, Nat.reduceSub, Array.replicate_succ, Array.replicate_zero, List.push_toArray, List.append_toArray, List.nil_append, List.cons_append]
  go_wp2_with fail
  refine (columns_any _ m _ (hv0.out.gr (by repeat (first | exact Gr.refl _ | refine Gr.alloc ?_ _))) hm'.out).mono ?_
  rintro e w' ⟨rfl, rfl⟩
  go_wp2_with fail
  refine (below_any m.cols _ hm'.out.1).mono ?_
  rintro e w1 ⟨p1, n1, c1, rfl, hv1, hx1⟩
  have g1 := hx1.gr.cell (p := ⟨w.heap.size, 0, none⟩) (v := .pointer (some ⟨bm, 0, none⟩)) (by go_simp)
  have g2 := hx1.gr.cell (p := ⟨w.heap.size + 1, 0, none⟩) (v := u) (by go_simp)
  have g3 := hx1.gr.cell (p := ⟨w.heap.size + 1 + 1, 0, none⟩) (v := .slice none 0 0) (by go_simp)
  have g4 := hx1.gr.frz (p := ⟨w.heap.size + 1 + 1, 0, none⟩) (v := .slice none 0 0) (by go_simp) (by go_simp)
  have hG1 : Gr w w1 := Gr.trans (by repeat (first | exact Gr.refl _ | refine Gr.alloc ?_ _)) hx1.gr
  have l2 : w.heap.size + 1 + 1 < w1.heap.size := World.block_lt_of_cell? _ _ g3
  have l1 : w.heap.size + 1 < w1.heap.size := by omega
  have l0 : w.heap.size < w1.heap.size := by omega
  go_wp2_with (go_at_call 67; refine (all_any u _).mono ?_; rintro e w2 ⟨rfl, hw2⟩)
  have hG2 : Gr w1 w2 := by rw [← hw2]; repeat (first | exact Gr.refl _ | refine Gr.alloc ?_ _)
  have k1 := hG2.cell g1
  have k2 := hG2.cell g2
  have k3 := hG2.cell g3
  have k4 := hG2.frz g3 g4
  have k5 : w2.cell? ⟨w1.heap.size, 0, none⟩ = some (.slice p1 n1 c1) := by rw [← hw2]; clear hw2; go_simp
  have k6 : w2.frozen? ⟨w1.heap.size, 0, none⟩ = false := by rw [← hw2]; clear hw2; go_simp
  have k7 : w2.cell? ⟨w1.heap.size + 1, 0, none⟩ = some u := by rw [← hw2]; clear hw2; go_simp
  have hsz2 : w2.heap.size = w1.heap.size + 1 + 1 := by rw [← hw2]; simp
  have hGw := hG1.trans hG2
  have hv2 := hv1.gr hG2
  clear hw2 g1 g2 g3 g4 hx1 hG1
  refine wp_rangeSet (B := w1.heap.size + 1) (u := u) (s := s) rfl rfl k7 (hs'.out.gr hGw) h64 (ht'.out.gr hGw)
    (fun pre W => Gr w W ∧ W.cell? ⟨w.heap.size, 0, none⟩ = some (.pointer (some ⟨bm, 0, none⟩)) ∧ W.cell? ⟨w.heap.size + 1 + 1, 0, none⟩ = some (.slice none 0 0) ∧ W.frozen? ⟨w.heap.size + 1 + 1, 0, none⟩ = false ∧
      W.frozen? ⟨w1.heap.size, 0, none⟩ = false ∧ ∃ p n c, W.cell? ⟨w1.heap.size, 0, none⟩ = some (.slice p n c) ∧ Words W (.slice p n c) (m.common (pre.map (·.1))))
    ?hI ⟨hGw, k1, k3, k4, k6, p1, n1, c1, k5, ?hw⟩ (fun k => k = w1.heap.size) (by omega) ?hlow ?htl
    (fun x => { tmps := #[.pointer (some ⟨bm, 0, none⟩), .agg #[u], .pointer (some ⟨w.heap.size, 0, none⟩), .pointer (some ⟨w.heap.size + 1, 0, none⟩), .pointer (some ⟨w.heap.size + 1 + 1, 0, none⟩), .pointer (some ⟨w1.heap.size, 0, none⟩), .int .i64 ((x.1 : Nat) : Int), .pointer (some ⟨bm, 0, none⟩), .int .i64 ((m.cols : Nat) : Int), .agg #[.slice p1 n1 c1], .agg #[u], .func (.func 104) #[] #[.pointer (some ⟨w1.heap.size + 1, 0, none⟩)], .int .i64 ((x.1 : Nat) : Int), undef, undef, undef, undef, undef, undef, undef, undef, undef, undef], defers := [] }) ?assign ?body ?done
  case hw =>
    obtain ⟨z, hz, hzz⟩ := hv2
    simp at hz; subst hz; exact hzz
  case hI =>
    rintro pre A C row ⟨i1, i2, i3, i4, i5, p, n, c, i6, i7⟩ hg hr
    exact ⟨turn_below (by rw [hsz2]; omega) hg hr i1, turn_cell hg hr i2, turn_cell hg hr i3, turn_frz hg hr i3 i4, turn_frz hg hr i6 i5, p, n, c, turn_cell hg hr i6, turn_words hg hr i7⟩
  case hlow =>
    intro b o c e
    have hsx := hs'.out
    rcases hsx.elim with ⟨_, p, c', h⟩ | ⟨b', o', c', _, _, h, hb, _⟩
    · simp at h; rw [h] at e; cases e
    · simp at h; rw [h] at e; cases e; omega
  case htl =>
    have := ht'.out.1
    omega
  case assign =>
    intro l x W K hK
    gi_wp2
    exact hK
  case body =>
    rintro l pre x W ⟨i1, i2, i3, i4, i5, p, n, c, i6, i7⟩ hlen
    have HG := Lib.hid i1
    have hsp := hm'.out.2
    have hx64 : x.1 < 64 := by have := x.2.1; omega
    have j2 := World.block_lt_of_cell? _ _ i2
    have j6 := World.block_lt_of_cell? _ _ i6
    have HMW := Lib.hid (hv0.out.gr i1)
    have HW7 := Lib.hid i7
    clear i1 i7 k1 k2 k3 k4 k5 k6 k7 hG2 hGw hv2
    by_cases hlt : x.1 < m.rows.length
    · have hd : decide (x.1 < m.rows.length) = true := by simpa using hlt
      gi_wp2_with (refine ⟨trivial, ?_⟩; gi_at_call 26; refine (CallsIn.inRound l (callsIn_wide.2 (rows_any _ m _ HMW.out hm'.out))).mono ?_; rintro e w' ⟨rfl, rfl⟩)
      have hmx : Tryd.prog.follows .mixedOrders = true := by kernel_rfl
      gi_region_with (first | (refine ⟨trivial, ?_⟩; gi_at_call 27; refine (CallsIn.inRound l (callsIn_wide.2 (row_any _ m x.1 _ (HMW.out.gr (Gr.refl _).drew) hm'.out hx64))).mono ?_; rintro e W1 ⟨q1, q2, q3, rfl, hq, hxq⟩; have i6' := hxq.cell i6; have i5' := hxq.frz i6 i5) | (refine ⟨trivial, ?_⟩; gi_at_call 103; refine (CallsIn.inRound l (callsIn_wide.2 (and_any _ _ (m.common (pre.map (·.1))) (m.rows.getD x.1 0) _ ⟨_, rfl, HW7.out.gr ((Gr.refl W).drew.trans hxq)⟩ hq))).mono ?_; rintro e W2 ⟨r1, r2, r3, rfl, hrr, hxr⟩; have i6'' := hxr.gr.cell i6'; have i5'' := hxr.gr.frz i6' i5'))
      all_goals gi_wp2
      all_goals
        have hGW := ((Gr.refl W).drew.trans hxq).trans hxr.gr
        refine ⟨(gr_keepsFrom _ hGW).trans ((KeepsOthers.setCell _ _ _).from _), ((KeepBut.refl _ W).gr hGW).setCell (by simp) _, (HG.out.trans hGW).setCell (by simp only []; omega) _, cell?_setCell_ne (hGW.cell i2) (by simp <;> omega), cell?_setCell_ne (hGW.cell i3) (by simp <;> omega), (World.frozen?_setCell _ _ _ _).trans (hGW.frz i3 i4), (World.frozen?_setCell _ _ _ _).trans i5'', r1, r2, r3, World.cell?_setCell_same' _ _ _ (by rw [i6'']; rfl), ?_⟩
        rw [List.map_append, show m.common (pre.map (·.1) ++ [x].map (·.1)) = m.common (pre.map (·.1)) &&& m.rows.getD x.1 0 from by simp [Mat.common, hlt]]
        exact hrr.words.setCell (by simp) i6'' _
    · have hd : decide (x.1 < m.rows.length) = false := by simpa using hlt
      gi_wp2_with (refine ⟨trivial, ?_⟩; gi_at_call 26; refine (CallsIn.inRound l (callsIn_wide.2 (rows_any _ m _ HMW.out hm'.out))).mono ?_; rintro e w' ⟨rfl, rfl⟩)
      refine ⟨KeepsFrom.refl _ _, KeepBut.refl _ _, HG.out, i2, i3, i4, i5, p, n, c, i6, ?_⟩
      rw [List.map_append, show m.common (pre.map (·.1) ++ [x].map (·.1)) = m.common (pre.map (·.1)) from by simp [Mat.common, hlt]]
      exact HW7.out
  case done =>
    rintro D xs W hD hxs ⟨i1, i2, i3, i4, i5, p, n, c, i6, i7⟩ hK
    go_wp2
    rw [hxs] at i7
    have HD := Lib.hid hD
    have hne : (⟨w1.heap.size, 0, none⟩ : Addr) ≠ ⟨w.heap.size + 1 + 1, 0, none⟩ := by simp <;> omega
    have hK' : (W.setCell ⟨w.heap.size + 1 + 1, 0, none⟩ (.slice p n c)).heap[D]? = some (.deferred (some [])) := (Below.heap_setCell _ _ _ _ (by simp only []; omega)).trans hK
    have F := fin_setG i1 (⟨_, rfl, i7⟩) (by simp) i3 (by omega)
    obtain ⟨f1, q1, q2, q3, f2, f3, f4⟩ := F
    refine ret_mark rfl hK' (results_cell1 rfl rfl (load_set _ _ (.slice p n c) (put_cell hK' f1))) ⟨p, n, c, rfl, ?_, put_gr f4 (by omega)⟩
    simp only [Ending.returned.injEq, Value.agg.injEq] at f2
    obtain ⟨z, hz, hzz⟩ := f3
    refine ⟨z, ?_, put_words hK' hzz⟩
    rw [← hz]; simpa using f2
/-- The rows that have all of some columns. -/
def Mat.having (m : Mat) (l : List Nat) : Nat := l.foldl (fun s j => if j < m.cols then s &&& m.col j else s) (belowN m.rows.length)

set_option maxHeartbeats 1000000 in
/-- closure.Having -/
theorem having_any (v v2 : Value) (m : Mat) (s : Nat) (w : World) (hv : MatV w v m) (hm : m.ok) (hs : SetV w v2 s) (h64 : s < 64) (ht : TabOk w) :
    Calls Tryd.prog 66 #[v, v2] w (RetG (m.having (mems s)) w) := by
  have hv0 := Lib.hid hv
  have hm' := Lib.hid hm
  obtain ⟨u, rfl, hu⟩ := hs
  have hs0 : SetV w (.agg #[u]) s := ⟨u, rfl, hu⟩
  have hs' := Lib.hid hs0
  have ht' := Lib.hid ht
  obtain ⟨bm, um, rfl, hm1, hm2, hm3⟩ := hv
  have HM3 := Lib.hid hm3
  clear hm hs0 hu ht hm3 hm1 hm2
  refine (callsIn_wide (n := 6)).1 ?_
  refine callsIn_of_wp_marks Tryd.func66 rfl trivial ?_ rfl
  refine wpIn_wide.2 ?_
  simp only [Tryd.ntmps66, List.size_toArray, List.length_cons, List.length_nil, Nat.reduceAdd, Nat.reduceSub, Array.replicate_succ, Array.replicate_zero, List.push_toArray, List.append_toArray, List.nil_append, List.cons_append]
  go_wp2_with fail
  refine (rows_any _ m _ (hv0.out.gr (by repeat (first | exact Gr.refl _ | refine Gr.alloc ?_ _))) hm'.out).mono ?_
  rintro e w' ⟨rfl, rfl⟩
  go_wp2_with fail
  refine (below_any m.rows.length _ hm'.out.2).mono ?_
  rintro e w1 ⟨p1, n1, c1, rfl, hv1, hx1⟩
  have g1 := hx1.gr.cell (p := ⟨w.heap.size, 0, none⟩) (v := .pointer (some ⟨bm, 0, none⟩)) (by go_simp)
  have g2 := hx1.gr.cell (p := ⟨w.heap.size + 1, 0, none⟩) (v := u) (by go_simp)
  have g3 := hx1.gr.cell (p := ⟨w.heap.size + 1 + 1, 0, none⟩) (v := .slice none 0 0) (by go_simp)
  have g4 := hx1.gr.frz (p := ⟨w.heap.size + 1 + 1, 0, none⟩) (v := .slice none 0 0) (by go_simp) (by go_simp)
  have hG1 : Gr w w1 := Gr.trans (by repeat (first | exact Gr.refl _ | refine Gr.alloc ?_ _)) hx1.gr
  have l2 : w.heap.size + 1 + 1 < w1.heap.size := World.block_lt_of_cell? _ _ g3
  have l1 : w.heap.size + 1 < w1.heap.size := by omega
  have l0 : w.heap.size < w1.heap.size := by omega
  go_wp2_with (go_at_call 67; refine (all_any u _).mono ?_; rintro e w2 ⟨rfl, hw2⟩)
  have hG2 : Gr w1 w2 := by rw [← hw2]; repeat (first | exact Gr.refl _ | refine Gr.alloc ?_ _)
  have k1 := hG2.cell g1
  have k2 := hG2.cell g2
  have k3 := hG2.cell g3
  have k4 := hG2.frz g3 g4
  have k5 : w2.cell? ⟨w1.heap.size, 0, none⟩ = some (.slice p1 n1 c1) := by rw [← hw2]; clear hw2; go_simp
  have k6 : w2.frozen? ⟨w1.heap.size, 0, none⟩ = false := by rw [← hw2]; clear hw2; go_simp
  have k7 : w2.cell? ⟨w1.heap.size + 1, 0, none⟩ = some u := by rw [← hw2]; clear hw2; go_simp
  have hsz2 : w2.heap.size = w1.heap.size + 1 + 1 := by rw [← hw2]; simp
  have hGw := hG1.trans hG2
  have hv2 := hv1.gr hG2
  clear hw2 g1 g2 g3 g4 hx1 hG1
  refine wp_rangeSet (B := w1.heap.size + 1) (u := u) (s := s) rfl rfl k7 (hs'.out.gr hGw) h64 (ht'.out.gr hGw)
    (fun pre W => Gr w W ∧ W.cell? ⟨w.heap.size, 0, none⟩ = some (.pointer (some ⟨bm, 0, none⟩)) ∧ W.cell? ⟨w.heap.size + 1 + 1, 0, none⟩ = some (.slice none 0 0) ∧ W.frozen? ⟨w.heap.size + 1 + 1, 0, none⟩ = false ∧
      W.frozen? ⟨w1.heap.size, 0, none⟩ = false ∧ ∃ p n c, W.cell? ⟨w1.heap.size, 0, none⟩ = some (.slice p n c) ∧ Words W (.slice p n c) (m.having (pre.map (·.1))))
    ?hI ⟨hGw, k1, k3, k4, k6, p1, n1, c1, k5, ?hw⟩ (fun k => k = w1.heap.size) (by omega) ?hlow ?htl
    (fun x => { tmps := #[.pointer (some ⟨bm, 0, none⟩), .agg #[u], .pointer (some ⟨w.heap.size, 0, none⟩), .pointer (some ⟨w.heap.size + 1, 0, none⟩), .pointer (some ⟨w.heap.size + 1 + 1, 0, none⟩), .pointer (some ⟨w1.heap.size, 0, none⟩), .int .i64 ((x.1 : Nat) : Int), .pointer (some ⟨bm, 0, none⟩), .int .i64 ((m.rows.length : Nat) : Int), .agg #[.slice p1 n1 c1], .agg #[u], .func (.func 104) #[] #[.pointer (some ⟨w1.heap.size + 1, 0, none⟩)], .int .i64 ((x.1 : Nat) : Int), undef, undef, undef, undef, undef, undef, undef, undef, undef, undef], defers := [] }) ?assign ?body ?done
  case hw =>
    obtain ⟨z, hz, hzz⟩ := hv2
    simp at hz; subst hz; exact hzz
  case hI =>
    rintro pre A C row ⟨i1, i2, i3, i4, i5, p, n, c, i6, i7⟩ hg hr
    exact ⟨turn_below (by rw [hsz2]; omega) hg hr i1, turn_cell hg hr i2, turn_cell hg hr i3, turn_frz hg hr i3 i4, turn_frz hg hr i6 i5, p, n, c, turn_cell hg hr i6, turn_words hg hr i7⟩
  case hlow =>
    intro b o c e
    have hsx := hs'.out
    rcases hsx.elim with ⟨_, p, c', h⟩ | ⟨b', o', c', _, _, h, hb, _⟩
    · simp at h; rw [h] at e; cases e
    · simp at h; rw [h] at e; cases e; omega
  case htl =>
    have := ht'.out.1
    omega
  case assign =>
    intro l x W K hK
    gi_wp2
    exact hK
  case body =>
    rintro l pre x W ⟨i1, i2, i3, i4, i5, p, n, c, i6, i7⟩ hlen
    have HG := Lib.hid i1
    have hsp := hm'.out.2
    have hx64 : x.1 < 64 := by have := x.2.1; omega
    have j2 := World.block_lt_of_cell? _ _ i2
    have j6 := World.block_lt_of_cell? _ _ i6
    have HMW := Lib.hid (hv0.out.gr i1)
    have HW7 := Lib.hid i7
    clear i1 i7 k1 k2 k3 k4 k5 k6 k7 hG2 hGw hv2
    by_cases hlt : x.1 < m.cols
    · have hd : decide (x.1 < m.cols) = true := by simpa using hlt
      gi_wp2_with (refine ⟨trivial, ?_⟩; gi_at_call 15; refine (CallsIn.inRound l (callsIn_wide.2 (columns_any _ m _ HMW.out hm'.out))).mono ?_; rintro e w' ⟨rfl, rfl⟩)
      have hmx : Tryd.prog.follows .mixedOrders = true := by kernel_rfl
      gi_region_with (first | (refine ⟨trivial, ?_⟩; gi_at_call 43; refine (CallsIn.inRound l (callsIn_wide.2 (column_any _ m x.1 _ (HMW.out.gr (Gr.refl _).drew) hm'.out hx64))).mono ?_; rintro e W1 ⟨q1, q2, q3, rfl, hq, hxq⟩; have i6' := hxq.cell i6; have i5' := hxq.frz i6 i5) | (refine ⟨trivial, ?_⟩; gi_at_call 103; refine (CallsIn.inRound l (callsIn_wide.2 (and_any _ _ (m.having (pre.map (·.1))) (m.col x.1) _ ⟨_, rfl, HW7.out.gr ((Gr.refl W).drew.trans hxq)⟩ hq))).mono ?_; rintro e W2 ⟨r1, r2, r3, rfl, hrr, hxr⟩; have i6'' := hxr.gr.cell i6'; have i5'' := hxr.gr.frz i6' i5'))
      all_goals gi_wp2
      all_goals
        have hGW := ((Gr.refl W).drew.trans hxq).trans hxr.gr
        refine ⟨(gr_keepsFrom _ hGW).trans ((KeepsOthers.setCell _ _ _).from _), ((KeepBut.refl _ W).gr hGW).setCell (by simp) _, (HG.out.trans hGW).setCell (by simp only []; omega) _, cell?_setCell_ne (hGW.cell i2) (by simp <;> omega), cell?_setCell_ne (hGW.cell i3) (by simp <;> omega), (World.frozen?_setCell _ _ _ _).trans (hGW.frz i3 i4), (World.frozen?_setCell _ _ _ _).trans i5'', r1, r2, r3, World.cell?_setCell_same' _ _ _ (by rw [i6'']; rfl), ?_⟩
        rw [List.map_append, show m.having (pre.map (·.1) ++ [x].map (·.1)) = m.having (pre.map (·.1)) &&& m.col x.1 from by simp [Mat.having, hlt]]
        exact hrr.words.setCell (by simp) i6'' _
    · have hd : decide (x.1 < m.cols) = false := by simpa using hlt
      gi_wp2_with (refine ⟨trivial, ?_⟩; gi_at_call 15; refine (CallsIn.inRound l (callsIn_wide.2 (columns_any _ m _ HMW.out hm'.out))).mono ?_; rintro e w' ⟨rfl, rfl⟩)
      refine ⟨KeepsFrom.refl _ _, KeepBut.refl _ _, HG.out, i2, i3, i4, i5, p, n, c, i6, ?_⟩
      rw [List.map_append, show m.having (pre.map (·.1) ++ [x].map (·.1)) = m.having (pre.map (·.1)) from by simp [Mat.having, hlt]]
      exact HW7.out
  case done =>
    rintro D xs W hD hxs ⟨i1, i2, i3, i4, i5, p, n, c, i6, i7⟩ hK
    go_wp2
    rw [hxs] at i7
    have HD := Lib.hid hD
    have hne : (⟨w1.heap.size, 0, none⟩ : Addr) ≠ ⟨w.heap.size + 1 + 1, 0, none⟩ := by simp <;> omega
    have hK' : (W.setCell ⟨w.heap.size + 1 + 1, 0, none⟩ (.slice p n c)).heap[D]? = some (.deferred (some [])) := (Below.heap_setCell _ _ _ _ (by simp only []; omega)).trans hK
    have F := fin_setG i1 (⟨_, rfl, i7⟩) (by simp) i3 (by omega)
    obtain ⟨f1, q1, q2, q3, f2, f3, f4⟩ := F
    refine ret_mark rfl hK' (results_cell1 rfl rfl (load_set _ _ (.slice p n c) (put_cell hK' f1))) ⟨p, n, c, rfl, ?_, put_gr f4 (by omega)⟩
    simp only [Ending.returned.injEq, Value.agg.injEq] at f2
    obtain ⟨z, hz, hzz⟩ := f3
    refine ⟨z, ?_, put_words hK' hzz⟩
    rw [← hz]; simpa using f2

end Go.Proofs.YtcmlhpodghfheaaDoor
