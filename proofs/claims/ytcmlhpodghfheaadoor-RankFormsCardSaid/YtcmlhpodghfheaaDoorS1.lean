/- slices.SortFunc over sets, by the lectic order. -/
import Derived.Test.YtcmlhpodghfheaaDoorS0
import Derived.Test.YtcmlhpodghfheaaDoorL1
import Derived.Shelf.SlSortCmp.NoneTotal
set_option linter.unusedSimpArgs false
set_option linter.unusedVariables false
namespace Go.Proofs.YtcmlhpodghfheaaDoor
open Go.RowKit Go.Shelf Go.Sort

/-- The world has grown: an equation. -/
theorem Ext.grows {w w' : World} (h : Ext w w') : ∃ q os, w' = grow (w.drewN q) os := by
  refine ⟨w'.drawn - w.drawn, w'.heap.extract w.heap.size w'.heap.size, ?_⟩
  have hd := h.drawn
  have h1 := h.below.os
  have h2 := h.below.tape
  have h3 := h.below.output
  have h4 := h.below.size
  have h5 := h.below.block
  cases w with | mk heap tape drawn os output =>
  cases w' with | mk heap' tape' drawn' os' output' =>
  simp only [grow, World.drewN] at *
  subst h1 h2 h3
  congr 1
  · apply Array.ext_getElem?
    intro i
    rw [Array.getElem?_append]
    split
    · rename_i hi
      exact h5 i hi
    · rename_i hi
      rw [Array.getElem?_extract]
      by_cases hi2 : i < heap'.size
      · simp; rw [if_pos (by omega)]; congr 1; omega
      · rw [Array.getElem?_eq_none (by omega)]; simp; omega
  · omega

/-- A set with its value. -/
structure Itm (w : World) where
  v : Value
  s : Nat
  lt : s < 64
  ok : Words w v s
instance (w : World) : Inhabited (Itm w) := ⟨⟨.slice none 0 0, 0, by omega, .inl ⟨rfl, none, 0, rfl⟩⟩⟩
def encI {w : World} (x : Itm w) : List Value := [x.v]
def cmpI {w : World} (x y : Itm w) : Int := lec x.s y.s

theorem swoI (w : World) : SWO (ltOf (cmpI (w := w))) := by
  have e : ∀ x y : Itm w, ltOf cmpI x y = decide (key x.s < key y.s) := fun x y => by
    unfold ltOf cmpI
    rw [decide_eq_decide]
    exact lec_key x.s x.lt y.s y.lt
  constructor
  · intro x; rw [e]; simp
  · intro x y z h1 h2; rw [e] at *; simp at *; omega
  · intro x y z h1 h2; rw [e] at *; simp at *; omega

/-- What lies outside the row lies there still. -/
theorem sortWorld_cell {w : World} {blk off m : Nat} {dk : Array (Itm w)} {os : Array Obj} {p : Addr} {x : Value} (hp : p.block ≠ blk) (h : w.cell? p = some x) : (sortWorldK encI 1 w blk off m dk os).cell? p = some x := by
  unfold sortWorldK
  have h1 : (putRowK encI 1 (Sort.ahead w m) blk off dk).cell? p = some x := by
    rw [cell?_putRowK_other _ _ _ _ _ _ _ hp]; exact h
  have := World.block_lt_of_cell? _ _ h1
  unfold grow World.cell?
  unfold World.cell? at h1
  simp only [Array.getElem?_append, this, if_true]
  exact h1
theorem sortWorld_below {w : World} {blk off m : Nat} {dk : Array (Itm w)} {os : Array Obj} {B : Nat} (hB : B ≤ blk) (hs : B ≤ w.heap.size) : Below B w (sortWorldK encI 1 w blk off m dk os) := by
  refine ⟨rfl, rfl, rfl, ?_, fun k hk => ?_⟩
  · unfold sortWorldK grow putRowK
    simp [Sort.ahead]
  · unfold sortWorldK grow putRowK
    rw [Array.getElem?_append_left (by simp [Sort.ahead]; omega)]
    simp only [putRow, mapBlock, Array.getElem?_modify]
    rw [if_neg (by omega)]
    rfl

theorem isAgg_set (w : World) : (isAgg 69).run Tryd.prog w = .ok true w := by kernel_rfl
theorem sizeOf_set (w : World) : (Go.sizeOf 69).run Tryd.prog w = .ok 1 w := by kernel_rfl

theorem cmpLays (blk off size : Nat) (w : World) (hk : ∀ o u, w.cell? ⟨blk, o, none⟩ = some u → isSl u) (ht : TabOk w) : CmpLays Tryd.prog 58 #[] (encI (w := w)) 1 cmpI blk off size w := by
  intro m os dk _ x y
  have hW : ∀ {u : Value} {s : Nat}, Words w u s → Words (sortWorldK encI 1 w blk off m dk os) u s := by
    intro u s h
    rcases h with h | ⟨h1, h2, b, o, c, h3, h4⟩
    · exact .inl h
    · refine .inr ⟨h1, h2, b, o, c, h3, sortWorld_cell (fun e => ?_) h4⟩
      subst e
      obtain ⟨p, n, c', e⟩ := hk o _ h4
      cases e
  have hT : TabOk (sortWorldK encI 1 w blk off m dk os) := by
    have hne : 0 ≠ blk := by
      intro e
      subst e
      obtain ⟨p, n, c', e⟩ := hk _ _ (ht.2 0 (by omega))
      cases e
    have h2 : ∀ i, i < 64 → _ := fun i hi => sortWorld_cell (dk := dk) (os := os) (off := off) (m := m) hne (ht.2 i hi)
    exact ⟨World.block_lt_of_cell? _ _ (h2 0 (by omega)), h2⟩
  refine (lectic_any (.agg #[x.v]) (.agg #[y.v]) x.s y.s _ ⟨_, rfl, hW x.ok⟩ ⟨_, rfl, hW y.ok⟩ x.lt y.lt hT).mono ?_
  rintro e w' ⟨rfl, hx⟩
  exact ⟨rfl, hx.grows⟩

/-- slices.SortFunc of sets by rank.lectic. -/
theorem sort_sets (w : World) (base : Nat) (v : Value) (ss : List Nat) (ho : OwnSets w base v ss) (hne : ss ≠ []) (h64 : ∀ s ∈ ss, s < 64) (hnd : ss.Nodup) (hl : ss.length < 1000000) (hb : base ≤ w.heap.size) (ht : TabOk w) :
    Calls Tryd.prog 57 #[v, .func (.func 58) #[] #[]] w fun e w' => e = .returned (.tuple #[]) ∧ Below base w w' ∧ Sets w' v (lexAll.filter fun s => decide (s ∈ ss)) := by
  obtain ⟨xs, h1, h2, h3, h4⟩ := ho
  obtain ⟨_, ⟨_, h0⟩ | ⟨g, cap, cur, rfl, hbg, hg, hnc, hcm, hcs, htk⟩⟩ := h2
  · exact absurd (List.eq_nil_of_length_eq_zero h0) hne
  have hgl : g < w.heap.size := (Array.getElem?_eq_some_iff.1 hg).1
  -- the items
  let f : Fin ss.length → Itm w := fun i => ⟨xs.getD i (.slice none 0 0), ss.getD i 0, h64 _ (by simp [List.getD]), by
    obtain ⟨y, hy, hw⟩ := h4 i i.2
    rw [show xs.getD i (.slice none 0 0) = y from by simp [List.getD, hy]]
    exact hw⟩
  let d : Array (Itm w) := Array.ofFn f
  have hds : d.size = ss.length := by simp [d]
  have hd : ∀ i (h : i < ss.length), d[i]! = f ⟨i, h⟩ := fun i h => by
    rw [getElem!_pos d i (by simp [d, h])]; simp [d]
  have hH : HoldsK (encI (w := w)) 1 w g 0 d := by
    intro j hj
    rw [size_flatK, Nat.mul_one, hds] at hj
    rw [get_flatK _ _ _ _ (by rw [hds]; omega), Nat.div_one, Nat.mod_one, hd j hj]
    obtain ⟨y, hy, hw⟩ := h4 j hj
    have h6 := congrArg (fun l => l[j]?) htk
    simp only [Nat.mul_one] at h6
    rw [List.getElem?_take_of_lt hj, hy] at h6
    refine ⟨?_, by simp [World.frozen?, hg]⟩
    simp only [World.cell?, hg, Nat.zero_add, Option.isSome_none, Bool.false_eq_true, if_false]
    rw [← Array.getElem?_toList, h6]
    simp [f, encI, List.getD, hy]
  have hkind : ∀ o u, w.cell? ⟨g, o, none⟩ = some u → isSl u := h3 g rfl
  have hcon := AnyQ.slices_SortFunc Tryd.sortSet 1 isAgg_set sizeOf_set (encI (w := w)) (fun _ => rfl) (fun x u hu => by
      simp only [encI, List.mem_singleton] at hu
      subst hu
      obtain ⟨p, n, c, e⟩ := x.ok.slice
      rw [e]; rfl) cmpI (swoI w) 58 #[] g 0 cap d w (fun args w => enters_of Tryd.func58 (by kernel_rfl) rfl args w) (cmpLays g 0 d.size w hkind ht) hH hgl (by rw [hds]; omega)
  change Calls Tryd.prog 57 _ _ _ at hcon
  rw [hds] at hcon
  refine hcon.mono ?_
  rintro e w' ⟨rfl, d', n, os, hp, hs, rfl⟩
  refine ⟨rfl, sortWorld_below hbg (by omega), ?_⟩
  obtain ⟨hp1, _, hp3⟩ := hp
  rw [hds] at hp1
  have hx : d'.extract 0 ss.length = d' := by rw [← hp1]; exact Array.extract_size
  have hx2 : d.extract 0 ss.length = d := by rw [← hds]; exact Array.extract_size
  rw [hx, hx2] at hp3
  have hmap : d.toList.map (·.s) = ss := by
    apply List.ext_getElem?
    intro i
    simp only [d, Array.toList_ofFn, List.getElem?_map]
    by_cases hi : i < ss.length
    · rw [List.getElem?_eq_getElem (by simpa using hi)]
      simp [f, List.getD, List.getElem?_eq_getElem hi]
    · rw [List.getElem?_eq_none (by simpa using hi), List.getElem?_eq_none (by omega)]; rfl
  have hpm : (d'.toList.map (·.s)).Perm ss := by rw [← hmap]; exact hp3.map _
  have hnd' : (d'.toList.map (·.s)).Nodup := hpm.nodup_iff.2 hnd
  have hlen : (d'.toList.map (·.s)).length = ss.length := hpm.length_eq
  have h64' : ∀ s ∈ d'.toList.map (·.s), s < 64 := fun s h => h64 s (hpm.mem_iff.1 h)
  have hsort : (d'.toList.map (·.s)).Pairwise (fun a b => key a < key b) := by
    rw [List.pairwise_iff_getElem]
    intro i j hi hj hij
    rw [List.length_map, Array.length_toList, hp1] at hi hj
    have h := hs i j (Nat.zero_le _) hij hj
    rw [getElem!_pos d' i (by omega), getElem!_pos d' j (by omega)] at h
    have e : ∀ x y : Itm w, ltOf cmpI x y = decide (key x.s < key y.s) := fun x y => by
      unfold ltOf cmpI
      rw [decide_eq_decide]
      exact lec_key x.s x.lt y.s y.lt
    rw [e] at h
    have hle : key d'[i].s ≤ key d'[j].s := by simp at h; omega
    simp only [List.getElem_map, Array.getElem_toList]
    rcases Nat.lt_or_ge (key d'[i].s) (key d'[j].s) with h' | h'
    · exact h'
    · have he : d'[i].s = d'[j].s := key_inj d'[i].lt d'[j].lt (by omega)
      have := (List.nodup_iff_pairwise_ne.1 hnd')
      rw [List.pairwise_iff_getElem] at this
      have h9 := this i j (by simp; omega) (by simp; omega) hij
      simp only [List.getElem_map, Array.getElem_toList] at h9
      exact absurd he h9
  have hfin := lex_filter hsort (fun s => decide (s ∈ ss)) (fun s => by
    rw [hpm.mem_iff]
    simp only [decide_eq_true_eq]
    exact ⟨fun h => ⟨h64 s h, h⟩, fun h => h.2⟩)
  rw [← hfin]
  have hH' : HoldsK (encI (w := w)) 1 (sortWorldK encI 1 w g 0 n d' os) g 0 d' := by
    unfold sortWorldK
    exact holdsK_grow _ _ _ _ _ _ _ (by simp [putRowK, Sort.ahead]; exact hgl) (holdsK_putRowK _ _ _ _ _ _ _ (holdsK_ahead _ _ _ n _ _ _ hH) (by omega))
  refine .inr ⟨fun h => hne (List.eq_nil_of_length_eq_zero (by rw [← hlen, h]; rfl)), g, 0, cap, by rw [hlen], fun i hi => ?_⟩
  rw [hlen] at hi
  have hc := (hH'.cell (i := i) (c := 0) (by omega) (by omega)).1
  rw [getElem!_pos d' i (by omega)] at hc
  refine ⟨d'[i].v, by simpa [encI] using hc, ?_⟩
  rw [show (d'.toList.map (·.s)).getD i 0 = d'[i].s from by simp [List.getD, List.getElem?_eq_getElem (show i < d'.toList.length by simp; omega)]]
  rcases d'[i].ok with h | ⟨k1, k2, b, o, c, k3, k4⟩
  · exact .inl h
  · refine .inr ⟨k1, k2, b, o, c, k3, sortWorld_cell (fun e => ?_) k4⟩
    subst e
    obtain ⟨p, n, c', e⟩ := hkind o _ k4
    cases e

/-- .. of none. -/
theorem sort_none (w : World) (p : Option Addr) (cap : Nat) : Calls Tryd.prog 57 #[.slice p 0 cap, .func (.func 58) #[] #[]] w fun e w' => e = .returned (.tuple #[]) ∧ w' = w :=
  AnyF.slices_SortFunc_none Tryd.sortSet p cap _ w
end Go.Proofs.YtcmlhpodghfheaaDoor
