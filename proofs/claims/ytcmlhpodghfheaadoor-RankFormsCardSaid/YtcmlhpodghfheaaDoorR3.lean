/- The list of a set. -/
import Derived.Test.YtcmlhpodghfheaaDoorA1
import Derived.OwnWalk
import Derived.Maps.OwnIn
set_option linter.unusedSimpArgs false
set_option linter.unusedVariables false
namespace Go.Proofs.YtcmlhpodghfheaaDoor
open Go.RowKit Go.Shelf
attribute [local go_sem] Oper.semAt_some

theorem pop_le (s : Nat) : pop s ≤ 6 := by unfold pop; exact Nat.le_trans (List.countP_le_length) (by simp)
theorem mems_len (s : Nat) : (mems s).length ≤ 6 := Nat.le_trans (List.length_filter_le _ _) (by simp)

theorem own_made {w : World} {p v : Value} {ad : Addr} {base : Nat} {e : TypeId} {n : Nat} {xs : List Value} (h : w.ownsRow base e 1 v n xs) (hc : w.cell? ad = some p) (hb : ad.block < base) (u : Value) : (w.setCell ad u).ownsRow base e 1 v n xs := by
  refine ⟨h.1, ?_⟩
  rcases h.2 with hn | ⟨g, cap, cur, rfl, hbg, hgg, rest⟩
  · exact .inl hn
  · exact .inr ⟨g, cap, cur, rfl, hbg, (Below.heap_setCell _ _ _ _ (by omega)).trans hgg, rest⟩

theorem load_ints (w : World) (ad : Addr) (p n c) (h : w.cell? ad = some (.slice p n c)) : (loadVar 36 ad).run Tryd.prog w = .ok (.slice p n c) w := by
  simp [go_sem, h]
theorem und_ints : Tryd.prog.underlying 36 = some (.slice 3) := by kernel_rfl

theorem turn_own {A C : World} {row : Option Nat} {B base : Nat} {e : TypeId} {size : Nat} {v : Value} {n : Nat} {xs : List Value} (hg : A.grownBy C row) (hr : ∀ r, row = some r → B ≤ r ∧ ∃ o : Obj, A.heap[r]? = some o ∧ o.isCells = false) (h : A.ownsRow base e size v n xs) : C.ownsRow base e size v n xs := by
  refine ⟨h.1, ?_⟩
  rcases h.2 with hn | ⟨g, cap, cur, rfl, hbg, hgg, rest⟩
  · exact .inl hn
  · refine .inr ⟨g, cap, cur, rfl, hbg, (hg.block g (Array.getElem?_eq_some_iff.1 hgg).1 (fun e => ?_)).trans hgg, rest⟩
    obtain ⟨_, o, ho, hc⟩ := hr g e.symm
    rw [hgg] at ho
    cases ho
    simp [Obj.isCells] at hc

theorem own_put {W : World} {D : Nat} {o : Obj} {ds : Option (List Deferred)} {base : Nat} {e : TypeId} {size : Nat} {v : Value} {n : Nat} {xs : List Value} (h : W.ownsRow base e size v n xs) (hK : W.heap[D]? = some (.deferred ds)) : (W.putObj D o).ownsRow base e size v n xs :=
  turn_own (B := D) (grownBy_putObj' W D o) (fun r e => by cases e; exact ⟨Nat.le_refl _, _, hK, rfl⟩) h

/-- What an append in the row leaves of the other cells. -/
theorem keep_app {Ws : Nat → Prop} {w1 w2 : World} {base : Nat} {e : TypeId} {size : Nat} {v : Value} {n : Nat} {xs : List Value} {o : Obj} (ho : w1.ownsRow base e size v n xs) (hg : (w1.alloc o).grownBy w2 v.ownBlock) (hW : ∀ g, v.ownBlock = some g → Ws g) : KeepBut Ws w1 w2 :=
  fun p x hp hc => hg.cell (((Gr.refl w1).alloc o).cell hc) (fun e => hp (hW _ e.symm))
theorem others_app {w1 w2 : World} {base : Nat} {e : TypeId} {size : Nat} {v : Value} {n : Nat} {xs : List Value} {o : Obj} (ho : w1.ownsRow base e size v n xs) (hg : (w1.alloc o).grownBy w2 v.ownBlock) : KeepsOthers w1 w2 := by
  refine (KeepsOthers.alloc w1 o).trans (KeepsOthers.of_grownBy hg ?_)
  intro j o' hj hjo
  rcases (own_gr ho ((Gr.refl w1).alloc o)).2 with ⟨rfl, _⟩ | ⟨g, cap, cur, rfl, _, hgg, _⟩
  · simp [Value.ownBlock] at hj
  · simp only [Value.ownBlock, Option.some.injEq] at hj
    subst hj
    rw [hgg] at hjo
    cases hjo
    simp [Obj.isCells]

set_option maxHeartbeats 1000000 in
/-- (bits.Set).List -/
theorem list_any (v : Value) (s : Nat) (w : World) (hs : SetV w v s) (h64 : s < 64) (ht : TabOk w) :
    Calls Tryd.prog 54 #[v] w fun e w' => (∃ p n c, e = .returned (.slice p n c) ∧ Ints w' (.slice p n c) (mems s)) ∧ Gr w w' := by
  obtain ⟨u, rfl, hu⟩ := hs
  have hs0 : SetV w (.agg #[u]) s := ⟨u, rfl, hu⟩
  have hs' := Lib.hid hs0
  have ht' := Lib.hid ht
  obtain ⟨i0, hi0, hz0, hz1, hz2⟩ := info_parts info_int
  clear hs0 hu ht
  refine (callsIn_wide (n := 6)).1 ?_
  refine callsIn_of_wp_marks Tryd.func54 rfl trivial ?_ rfl
  refine wpIn_wide.2 ?_
  simp only [Tryd.ntmps54, List.size_toArray, List.length_cons, List.length_nil, Nat.reduceAdd, Nat.reduceSub, Array.replicate_succ, Array.replicate_zero, List.push_toArray, List.append_toArray, List.nil_append, List.cons_append]
  go_wp2_with fail
  refine (len_any _ s _ (hs'.out.ext ((Ext.refl _).alloc _)) h64).mono ?_
  rintro e w1 ⟨rfl, hx1⟩
  have g1 := hx1.gr.cell (p := ⟨w.heap.size, 0, none⟩) (v := u) (by go_simp)
  have hG1 : Gr w w1 := ((Gr.refl w).alloc _).trans hx1.gr
  have l0 : w.heap.size < w1.heap.size := World.block_lt_of_cell? _ _ g1
  have hp := pop_le s
  clear hx1
  generalize pop s = pk at *
  go_wp2_with (at_make; refine wpList_make_own _ rfl _ _ 36 rfl w1.heap.size 3 i0 (.int .i64 0) 1 und_ints hi0 hz0 hz1 .i64 .i64 ((pk : Nat) : Int) pk rfl rfl rfl (by rw [hz2]; omega) (by simp only [maxLen]; omega) (by omega) ?_)
  intro w2 hown hgrow
  have hsz2 : w1.heap.size < w2.heap.size := (World.ownsRow.lt hown _ rfl).2
  have hG2 : Gr w1 w2 := (Gr.refl w1).grown hgrow (fun k e => by cases e)
  have g2 := hG2.cell g1
  have l02 : w.heap.size < w2.heap.size := by omega
  have hGw := hG1.trans hG2
  clear hgrow
  go_wp2_with (go_at_call 67; refine (all_any u _).mono ?_; rintro e w3 ⟨rfl, hw3⟩)
  have hG3 : Gr w2 w3 := by rw [← hw3]; repeat (first | exact Gr.refl _ | refine Gr.alloc ?_ _)
  have k2 := hG3.cell g2
  have k3 : w3.cell? ⟨w2.heap.size, 0, none⟩ = some (.slice (some ⟨w1.heap.size, 0, none⟩) 0 pk) := by rw [← hw3]; clear hw3; go_simp
  have k4 : w3.frozen? ⟨w2.heap.size, 0, none⟩ = false := by rw [← hw3]; clear hw3; go_simp
  have k5 : w3.cell? ⟨w2.heap.size + 1, 0, none⟩ = some u := by rw [← hw3]; clear hw3; go_simp
  have hsz3 : w3.heap.size = w2.heap.size + 1 + 1 := by rw [← hw3]; simp
  have hown3 := own_gr hown hG3
  have hGw3 := hGw.trans hG3
  clear hw3 hown
  refine wp_rangeSet (B := w2.heap.size + 1) (u := u) (s := s) rfl rfl k5 (hs'.out.gr hGw3) h64 (ht'.out.gr hGw3)
    (fun pre W => Gr w W ∧ W.frozen? ⟨w2.heap.size, 0, none⟩ = false ∧ ∃ p n c, W.cell? ⟨w2.heap.size, 0, none⟩ = some (.slice p n c) ∧ W.ownsRow w1.heap.size 3 1 (.slice p n c) pre.length ((pre.map (·.1)).map fun x => .int .i64 ((x : Nat) : Int)) ∧ ∀ g, Value.ownBlock (.slice p n c) = some g → g ≠ w2.heap.size ∧ g ≠ w2.heap.size + 1)
    ?hI ⟨hGw3, k4, _, _, _, k3, hown3, ?hst⟩ (fun k => k ≠ w2.heap.size + 1 ∧ w1.heap.size ≤ k) (by simp) ?hlow ?htl
    (fun x => { tmps := #[.agg #[u], .pointer (some ⟨w.heap.size, 0, none⟩), .slice none 0 0, .pointer (some ⟨w2.heap.size, 0, none⟩), .int .i64 ((x.1 : Nat) : Int), .agg #[u], .int .i64 ((pk : Nat) : Int), .slice (some ⟨w1.heap.size, 0, none⟩) 0 pk, .agg #[u], .func (.func 104) #[] #[.pointer (some ⟨w2.heap.size + 1, 0, none⟩)], .int .i64 ((x.1 : Nat) : Int), undef, undef, undef, undef, undef], defers := [] }) ?assign ?body ?done
  case hst =>
    intro g hg
    simp only [Value.ownBlock, Option.some.injEq] at hg
    omega
  case hI =>
    rintro pre A C row ⟨i1, i2, p, n, c, i3, i4, i5⟩ hg hr
    exact ⟨turn_below (by rw [hsz3]; omega) hg hr i1, turn_frz hg hr i3 i2, p, n, c, turn_cell hg hr i3, turn_own hg hr i4, i5⟩
  case hlow =>
    intro b o c e
    rcases hs'.out.elim with ⟨_, p, c', h⟩ | ⟨b', o', c', _, _, h, hb, _⟩
    · simp at h; rw [h] at e; cases e
    · simp at h; rw [h] at e; cases e; omega
  case htl =>
    have := ht'.out.1
    omega
  case assign =>
    intro l x W K hK
    gi_wp2
    exact hK
  case body =>
    rintro l pre x W ⟨i1, i2, p, n, c, i3, i4, i5⟩ hlen
    have HG := Lib.hid i1
    have HO := Lib.hid i4
    have HB := Lib.hid i5
    have j3 : w2.heap.size < W.heap.size := World.block_lt_of_cell? _ _ i3
    clear i1 i4 i5
    gi_wp2_with (gi_at_builtin; go_loud (refine wpListIn_append_own_at _ rfl _ _ 36 rfl w1.heap.size 3 i0 (.int .i64 0) 1 8 und_ints hi0 hz0 hz1 hz2 rfl (by decide) (.slice p n c) _ _ rfl (own_gr HO.out ((Gr.refl W).alloc _)) ⟨W.heap.size, 0, none⟩ 1 1 [.int .i64 ((x.1 : Nat) : Int)] rfl rfl (cell_one_new _ _ _) (by simp [Value.oneCell']) (by simp only [maxLen]; omega) (by omega) (by simp; omega) ?_))
    intro v' W2 ho2 hg2 _ hat
    have hb0 : Value.ownBlock (.slice p n c) ≠ some w2.heap.size := fun e => (HB.out _ e).1 rfl
    have f3 : W2.cell? ⟨w2.heap.size, 0, none⟩ = some (.slice p n c) := hg2.cell (((Gr.refl W).alloc _).cell i3) (fun e => hb0 e.symm)
    have ff : W2.frozen? ⟨w2.heap.size, 0, none⟩ = false := (World.frozen?_of_block (hg2.block w2.heap.size (by simp; omega) (fun e => hb0 e.symm))).trans (((Gr.refl W).alloc _).frz i3 i2)
    have hb2 : ∀ g, v'.ownBlock = some g → g ≠ w2.heap.size ∧ g ≠ w2.heap.size + 1 := by
      intro g hg
      rcases hat with h | h
      · exact HB.out g (h ▸ hg)
      · have : g = W.heap.size + 1 := by rw [h] at hg; exact (Option.some.inj hg).symm
        have hz := HG.out.size
        omega
    have hG2' : Gr w W2 := app_gr HG.out HO.out (by omega) hg2
    have hK2 : KeepBut (fun k => k ≠ w2.heap.size + 1 ∧ w1.heap.size ≤ k) W W2 := keep_app HO.out hg2 (fun g hg => ⟨(HB.out g hg).2, (World.ownsRow.lt HO.out g hg).1⟩)
    have hO2 := others_app HO.out hg2
    obtain ⟨p', n', c', rfl⟩ : ∃ p n c, v' = .slice p n c := by
      rcases ho2.2 with ⟨rfl, _⟩ | ⟨g, cap, cur, rfl, _⟩ <;> exact ⟨_, _, _, rfl⟩
    have HO2 := Lib.hid ho2
    have HH := Lib.hid hb2
    clear ho2 hb2 hg2 hat
    gi_wp2
    refine ⟨(hO2.from _).trans ((KeepsOthers.setCell _ _ _).from _), hK2.setCell (by simp <;> omega) _, hG2'.setCell (by simp only []; omega) _, (World.frozen?_setCell _ _ _ _).trans ff, p', n', c', World.cell?_setCell_same' _ _ _ (by rw [f3]; rfl), ?_, HH.out⟩
    rw [show (pre ++ [x]).length = pre.length + 1 from by simp]
    have ho3 := HO2.out
    refine ⟨by simp, ?_⟩
    rcases ho3.2 with hn | ⟨g, cap, cur, he, hbg, hgg, h1, h2, h3, h4⟩
    · exact .inl hn
    · refine .inr ⟨g, cap, cur, he, hbg, ?_, h1, h2, h3, by rw [h4]; simp⟩
      rw [Below.heap_setCell _ _ _ _ (HH.out g (by rw [he]; rfl)).1]
      exact hgg
  case done =>
    rintro D xs W hD hxs ⟨i1, i2, p, n, c, i3, i4, i5⟩ hK
    go_wp2
    have hlen : xs.length = (mems s).length := by rw [← hxs]; simp
    rw [hlen, hxs] at i4
    refine ret_mark rfl hK (results_tmp rfl _ _ _) ⟨⟨p, n, c, rfl, own_ints (own_put i4 hK)⟩, put_gr i1 (by omega)⟩
end Go.Proofs.YtcmlhpodghfheaaDoor
