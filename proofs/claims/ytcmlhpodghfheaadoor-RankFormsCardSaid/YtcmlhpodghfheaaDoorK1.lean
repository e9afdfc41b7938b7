/- slices.Clone. -/
import Derived.Test.YtcmlhpodghfheaaDoorA1
import Derived.Lib.SliceRun
set_option linter.unusedSimpArgs false
set_option linter.unusedVariables false
namespace Go.Proofs.YtcmlhpodghfheaaDoor
open Go.RowKit Go.Shelf

theorem info_pair : (Tryd.prog.info? 40).map (fun i => (i.zero, i.size, i.bytes)) = some (some (.agg #[.int .i64 0, .int .i64 0]), 2, 16) := by kernel_rfl
theorem und_pairs : Tryd.prog.underlying 37 = some (.slice 40) := by kernel_rfl
theorem und_intsK : Tryd.prog.underlying 36 = some (.slice 3) := by kernel_rfl

/-- The cells of a row, as values. -/
def cellsOf (w : World) (b o n : Nat) : List Value := (List.range n).map fun i => cellAt w ⟨b, o + i, none⟩
theorem cellsOf_get (w : World) (b o n : Nat) (h : ∀ i, i < n → ∃ u, w.cell? ⟨b, o + i, none⟩ = some u) : ∀ j u, (cellsOf w b o n)[j]? = some u → w.cell? ((⟨b, o, none⟩ : Addr).add j) = some u := by
  intro j u hj
  have hl : j < n := by
    have := (List.getElem?_eq_some_iff.1 hj).1
    simpa [cellsOf] using this
  obtain ⟨x, hx⟩ := h j hl
  simp only [cellsOf, List.getElem?_map, List.getElem?_range hl, Option.map_some, Option.some.injEq] at hj
  rw [← hj]
  by_cases h0 : j = 0
  · subst h0; simpa [Addr.add] using cellAt_of hx
  · simpa [Addr.add, h0] using cellAt_of hx

theorem own_cellsOf {w : World} {base : Nat} {e : TypeId} {size n : Nat} {v : Value} {xs : List Value} (h : w.ownsRow base e size v n xs) (hn : 0 < n) :
    ∃ g cap, v = .slice (some ⟨g, 0, none⟩) n cap ∧ base ≤ g ∧ n ≤ cap ∧ ∀ i x, xs[i]? = some x → w.cell? ⟨g, i, none⟩ = some x := by
  obtain ⟨_, ⟨_, h0⟩ | ⟨g, cap, cur, rfl, hb, hg, hnc, hm, hs, ht⟩⟩ := h
  · omega
  · refine ⟨g, cap, rfl, hb, hnc, fun i x hx => ?_⟩
    simp only [World.cell?, hg]
    rw [← ht] at hx
    have hi : i < n * size := by
      have := (List.getElem?_eq_some_iff.1 hx).1
      simp at this; omega
    rw [List.getElem?_take_of_lt hi] at hx
    simpa using hx

set_option maxHeartbeats 400000 in
theorem clone_ints_raw (b o n c : Nat) (w : World) (hn : 0 < n) (hl : n < 100000) (hc : ∀ i, i < n * 1 → ∃ u, w.cell? ⟨b, o + i, none⟩ = some u) (h1 : ∀ u ∈ cellsOf w b o (n * 1), u.oneCell' = true) :
    Calls Tryd.prog 30 #[.slice (some ⟨b, o, none⟩) n c] w fun e w' => ∃ v', e = .returned v' ∧ Gr w w' ∧ w'.ownsRow w.heap.size 3 1 v' n (cellsOf w b o (n * 1)) := by
  obtain ⟨i0, hi0, hz0, hz1, hz2⟩ := info_parts info_int
  have hc0 : ∀ i, i < n * 1 → ∃ u, (w.alloc (.cells #[] 3)).cell? ⟨b, o + i, none⟩ = some u := fun i hi => let ⟨u, h⟩ := hc i hi; ⟨u, ((Gr.refl w).alloc _).cell h⟩
  have he : cellsOf (w.alloc (.cells #[] 3)) b o (n * 1) = cellsOf w b o (n * 1) := by
    unfold cellsOf
    refine List.map_congr_left fun i hi => ?_
    obtain ⟨u, h⟩ := hc i (List.mem_range.1 hi)
    simp [cellAt, h, ((Gr.refl w).alloc _).cell h]
  have HC := Lib.hid (cellsOf_get _ b o (n * 1) hc0)
  rw [he] at HC
  have H1 := Lib.hid h1
  have hlen : (cellsOf w b o (n * 1)).length = n * 1 := by simp [cellsOf]
  have HLN := Lib.hid hlen
  clear hc hc0 he h1 hlen
  generalize cellsOf w b o (n * 1) = xs at *
  have q : ∀ (w : World) (a : Option Addr) (n c n' c' : Nat), (binOp .eql 36 (.slice a n c) (.slice none n' c')).run Tryd.prog w = .ok (.bool a.isNone) w := fun w a n c n' c' => Lib.run_eql_slice_nil w _ _ a n c n' c' und_intsK
  go_enter Tryd.func30, Tryd.ntmps30
  go_wp2_with (at_builtin; refine wpl_append rfl _ _ 36 rfl w.heap.size 3 i0 (.int .i64 0) 1 8 und_intsK hi0 hz0 hz1 hz2 rfl (by decide) (.slice (some ⟨w.heap.size, 0, none⟩) 0 0) 0 [] rfl (World.ownsRow_made w #[] 0 (Nat.le_refl _) (by simp only [maxLen]; omega) (by simp)) ⟨b, o, none⟩ n c xs rfl HLN.out HC.out H1.out (by simp only [maxLen]; omega) (by omega) (by simp) ?_)
  intro v' w2 hown hg _
  have HO := Lib.hid hown
  have hG : Gr w w2 := Gr.grown ((Gr.refl w).alloc (.cells #[] 3)) hg (fun k hk => by simp [Value.ownBlock] at hk; omega)
  have HG := Lib.hid hG
  clear hown hg hG
  go_wp2
  go_ret
  exact ⟨v', rfl, HG.out, HO.out⟩
set_option maxHeartbeats 400000 in
theorem clone_cells_raw (b o n c : Nat) (w : World) (hn : 0 < n) (hl : n < 100000) (hc : ∀ i, i < n * 2 → ∃ u, w.cell? ⟨b, o + i, none⟩ = some u) (h1 : ∀ u ∈ cellsOf w b o (n * 2), u.oneCell' = true) :
    Calls Tryd.prog 31 #[.slice (some ⟨b, o, none⟩) n c] w fun e w' => ∃ v', e = .returned v' ∧ Gr w w' ∧ w'.ownsRow w.heap.size 40 2 v' n (cellsOf w b o (n * 2)) := by
  obtain ⟨i0, hi0, hz0, hz1, hz2⟩ := info_parts info_pair
  have hc0 : ∀ i, i < n * 2 → ∃ u, (w.alloc (.cells #[] 40)).cell? ⟨b, o + i, none⟩ = some u := fun i hi => let ⟨u, h⟩ := hc i hi; ⟨u, ((Gr.refl w).alloc _).cell h⟩
  have he : cellsOf (w.alloc (.cells #[] 40)) b o (n * 2) = cellsOf w b o (n * 2) := by
    unfold cellsOf
    refine List.map_congr_left fun i hi => ?_
    obtain ⟨u, h⟩ := hc i (List.mem_range.1 hi)
    simp [cellAt, h, ((Gr.refl w).alloc _).cell h]
  have HC := Lib.hid (cellsOf_get _ b o (n * 2) hc0)
  rw [he] at HC
  have H1 := Lib.hid h1
  have hlen : (cellsOf w b o (n * 2)).length = n * 2 := by simp [cellsOf]
  have HLN := Lib.hid hlen
  clear hc hc0 he h1 hlen
  generalize cellsOf w b o (n * 2) = xs at *
  have q : ∀ (w : World) (a : Option Addr) (n c n' c' : Nat), (binOp .eql 37 (.slice a n c) (.slice none n' c')).run Tryd.prog w = .ok (.bool a.isNone) w := fun w a n c n' c' => Lib.run_eql_slice_nil w _ _ a n c n' c' und_pairs
  go_enter Tryd.func31, Tryd.ntmps31
  go_wp2_with (at_builtin; refine wpl_append rfl _ _ 37 rfl w.heap.size 40 i0 (.agg #[.int .i64 0, .int .i64 0]) 2 16 und_pairs hi0 hz0 hz1 hz2 rfl (by decide) (.slice (some ⟨w.heap.size, 0, none⟩) 0 0) 0 [] rfl (World.ownsRow_made w #[] 0 (Nat.le_refl _) (by simp only [maxLen]; omega) (by simp)) ⟨b, o, none⟩ n c xs rfl HLN.out HC.out H1.out (by simp only [maxLen]; omega) (by omega) (by simp) ?_)
  intro v' w2 hown hg _
  have HO := Lib.hid hown
  have hG : Gr w w2 := Gr.grown ((Gr.refl w).alloc (.cells #[] 40)) hg (fun k hk => by simp [Value.ownBlock] at hk; omega)
  have HG := Lib.hid hG
  clear hown hg hG
  go_wp2
  go_ret
  exact ⟨v', rfl, HG.out, HO.out⟩

theorem fresh_own {w' : World} {B : Nat} {e : TypeId} {size n : Nat} {v : Value} {xs : List Value} (h : w'.ownsRow B e size v n xs) : ∀ g, v.ownBlock = some g → B ≤ g := fun g hg => (World.ownsRow.lt h g hg).1

set_option maxHeartbeats 400000 in
/-- slices.Clone of numbers. -/
theorem clone_ints (v : Value) (l : List Nat) (w : World) (hv : Ints w v l) (hl : l.length < 100000) :
    Calls Tryd.prog 30 #[v] w fun e w' => ∃ p n c, e = .returned (.slice p n c) ∧ Gr w w' ∧ Ints w' (.slice p n c) l ∧ ∀ g, Value.ownBlock (.slice p n c) = some g → w.heap.size ≤ g := by
  rcases hv with ⟨rfl, p, c, rfl⟩ | ⟨hne, b, o, c, rfl, hcell⟩
  · have q : ∀ (w : World) (a : Option Addr) (n c n' c' : Nat), (binOp .eql 36 (.slice a n c) (.slice none n' c')).run Tryd.prog w = .ok (.bool a.isNone) w := fun w a n c n' c' => Lib.run_eql_slice_nil w _ _ a n c n' c' und_intsK
    cases p with
    | none =>
      go_enter Tryd.func30, Tryd.ntmps30
      go_wp2
      go_ret
      exact ⟨_, _, _, rfl, Gr.refl _, .inl ⟨rfl, _, _, rfl⟩, fun g hg => by simp [Value.ownBlock] at hg⟩
    | some ad =>
      go_enter Tryd.func30, Tryd.ntmps30
      go_wp2
      go_ret
      exact ⟨_, _, _, rfl, (Gr.refl _).alloc _, .inl ⟨rfl, _, _, rfl⟩, fun g hg => by simp [Value.ownBlock] at hg; omega⟩
  · have hpos : 0 < l.length := List.length_pos_iff.2 hne
    have hc : ∀ i, i < l.length * 1 → ∃ u, w.cell? ⟨b, o + i, none⟩ = some u := fun i hi => ⟨_, hcell i (by omega)⟩
    have he : cellsOf w b o (l.length * 1) = l.map fun x => .int .i64 ((x : Nat) : Int) := by
      apply List.ext_getElem?
      intro i
      rw [Nat.mul_one]
      simp only [cellsOf, List.getElem?_map]
      by_cases hi : i < l.length
      · rw [List.getElem?_range hi, List.getElem?_eq_getElem hi]
        simp [cellAt, hcell i hi, List.getD, List.getElem?_eq_getElem hi]
      · rw [List.getElem?_eq_none (by simp; omega), List.getElem?_eq_none (by omega)]; rfl
    refine (clone_ints_raw b o l.length c w hpos hl hc (by rw [he]; intro u hu; obtain ⟨x, _, rfl⟩ := List.mem_map.1 hu; rfl)).mono ?_
    rintro e w' ⟨v', rfl, hG, hown⟩
    rw [he] at hown
    obtain ⟨g, cap, rfl, _⟩ := own_cellsOf hown hpos
    exact ⟨_, _, _, rfl, hG, own_ints hown, fresh_own hown⟩

set_option maxHeartbeats 400000 in
/-- slices.Clone of cells. -/
theorem clone_cells (v : Value) (l : List (Nat × Nat)) (w : World) (hv : Cells w v l) (hl : l.length < 100000) :
    Calls Tryd.prog 31 #[v] w fun e w' => ∃ p n c, e = .returned (.slice p n c) ∧ Gr w w' ∧ Cells w' (.slice p n c) l ∧ ∀ g, Value.ownBlock (.slice p n c) = some g → w.heap.size ≤ g := by
  rcases hv with ⟨rfl, p, c, rfl⟩ | ⟨hne, b, o, c, rfl, hcap, hcell⟩
  · have q : ∀ (w : World) (a : Option Addr) (n c n' c' : Nat), (binOp .eql 37 (.slice a n c) (.slice none n' c')).run Tryd.prog w = .ok (.bool a.isNone) w := fun w a n c n' c' => Lib.run_eql_slice_nil w _ _ a n c n' c' und_pairs
    cases p with
    | none =>
      go_enter Tryd.func31, Tryd.ntmps31
      go_wp2
      go_ret
      exact ⟨_, _, _, rfl, Gr.refl _, .inl ⟨rfl, _, _, rfl⟩, fun g hg => by simp [Value.ownBlock] at hg⟩
    | some ad =>
      go_enter Tryd.func31, Tryd.ntmps31
      go_wp2
      go_ret
      exact ⟨_, _, _, rfl, (Gr.refl _).alloc _, .inl ⟨rfl, _, _, rfl⟩, fun g hg => by simp [Value.ownBlock] at hg; omega⟩
  · have hpos : 0 < l.length := List.length_pos_iff.2 hne
    have hcx : ∀ i, i < l.length * 2 → w.cell? ⟨b, o + i, none⟩ = some (if i % 2 = 0 then .int .i64 (((l.getD (i / 2) (0, 0)).1 : Nat) : Int) else .int .i64 (((l.getD (i / 2) (0, 0)).2 : Nat) : Int)) := fun i hi => by
      have h := hcell (i / 2) (by omega)
      split
      · rw [show o + i = o + i / 2 * 2 from by omega]; exact h.1
      · rw [show o + i = o + i / 2 * 2 + 1 from by omega]; exact h.2
    have hc : ∀ i, i < l.length * 2 → ∃ u, w.cell? ⟨b, o + i, none⟩ = some u := fun i hi => ⟨_, hcx i hi⟩
    have hget : ∀ i, i < l.length * 2 → (cellsOf w b o (l.length * 2))[i]? = some (if i % 2 = 0 then .int .i64 (((l.getD (i / 2) (0, 0)).1 : Nat) : Int) else .int .i64 (((l.getD (i / 2) (0, 0)).2 : Nat) : Int)) := fun i hi => by
      simp only [cellsOf, List.getElem?_map, List.getElem?_range hi, Option.map_some]
      unfold cellAt
      rw [hcx i hi]
      rfl
    refine (clone_cells_raw b o l.length c w hpos hl hc (by
      intro u hu
      obtain ⟨i, hi, rfl⟩ := List.getElem_of_mem hu
      have hi' : i < l.length * 2 := by simpa [cellsOf] using hi
      have := hget i hi'
      rw [List.getElem?_eq_getElem hi] at this
      rw [Option.some.inj this]
      split <;> rfl)).mono ?_
    rintro e w' ⟨v', rfl, hG, hown⟩
    obtain ⟨g, cap, rfl, hb, hcp, hx⟩ := own_cellsOf hown hpos
    refine ⟨_, _, _, rfl, hG, .inr ⟨hne, g, 0, cap, rfl, hcp, fun i hi => ⟨?_, ?_⟩⟩, fresh_own hown⟩
    · have := hx (i * 2) _ (hget (i * 2) (by omega))
      rw [show i * 2 % 2 = 0 from by omega, show i * 2 / 2 = i from by omega] at this
      simpa using this
    · have := hx (i * 2 + 1) _ (hget (i * 2 + 1) (by omega))
      rw [show (i * 2 + 1) % 2 = 1 from by omega, show (i * 2 + 1) / 2 = i from by omega] at this
      simpa using this

set_option maxHeartbeats 400000 in
/-- slices.Clone of sets (some). -/
theorem clone_sets (v : Value) (ss : List Nat) (w : World) (hv : Sets w v ss) (hne : ss ≠ []) (hl : ss.length < 100000) :
    Calls Tryd.prog 65 #[v] w fun e w' => ∃ p n c, e = .returned (.slice p n c) ∧ Gr w w' ∧ OwnSets w' w.heap.size (.slice p n c) ss := by
  rcases hv with ⟨rfl, _⟩ | ⟨_, b, o, c, rfl, hcell⟩
  · exact absurd rfl hne
  have hpos : 0 < ss.length := List.length_pos_iff.2 hne
  obtain ⟨i0, hi0, hz0, hz1, hz2⟩ := info_parts info_set
  have q : ∀ (w : World) (a : Option Addr) (n c n' c' : Nat), (binOp .eql 71 (.slice a n c) (.slice none n' c')).run Tryd.prog w = .ok (.bool a.isNone) w := fun w a n c n' c' => Lib.run_eql_slice_nil w _ _ a n c n' c' und_sets
  have hc : ∀ i, i < ss.length → ∃ u, w.cell? ⟨b, o + i, none⟩ = some u := fun i hi => let ⟨u, h, _⟩ := hcell i hi; ⟨u, h⟩
  have hc0 : ∀ i, i < ss.length → ∃ u, (w.alloc (.cells #[] 69)).cell? ⟨b, o + i, none⟩ = some u := fun i hi => let ⟨u, h⟩ := hc i hi; ⟨u, ((Gr.refl w).alloc _).cell h⟩
  have he : cellsOf (w.alloc (.cells #[] 69)) b o ss.length = cellsOf w b o ss.length := by
    unfold cellsOf
    refine List.map_congr_left fun i hi => ?_
    obtain ⟨u, h⟩ := hc i (List.mem_range.1 hi)
    simp [cellAt, h, ((Gr.refl w).alloc _).cell h]
  have HC := Lib.hid (cellsOf_get _ b o ss.length hc0)
  rw [he] at HC
  have hget : ∀ i, i < ss.length → ∃ y, (cellsOf w b o ss.length)[i]? = some y ∧ Words w y (ss.getD i 0) := fun i hi => by
    obtain ⟨y, h1, h2⟩ := hcell i hi
    refine ⟨y, ?_, h2⟩
    simp only [cellsOf, List.getElem?_map, List.getElem?_range hi, Option.map_some, Option.some.injEq]
    simp [cellAt, h1]
  have hsl : ∀ u ∈ cellsOf w b o ss.length, isSl u := fun u hu => by
    obtain ⟨i, hi, rfl⟩ := List.getElem_of_mem hu
    obtain ⟨y, h1, h2⟩ := hget i (by simpa [cellsOf] using hi)
    rw [List.getElem?_eq_getElem hi] at h1
    rw [Option.some.inj h1]
    exact h2.slice
  have hlen : (cellsOf w b o ss.length).length = ss.length := by simp [cellsOf]
  have HLN := Lib.hid hlen
  have HSL := Lib.hid hsl
  have HGT := Lib.hid hget
  clear hc hc0 he hsl hlen hget hcell
  generalize cellsOf w b o ss.length = xs at *
  generalize hn : ss.length = n at *
  have HN := Lib.hid hn
  clear hn
  go_enter Tryd.func65, Tryd.ntmps65
  go_wp2_with (at_builtin; refine wpl_append_kind isSl rfl _ _ 71 rfl w.heap.size 69 i0 (.agg #[.slice none 0 0]) 1 24 und_sets hi0 hz0 hz1 hz2 rfl (by decide) (by simp [Value.cells]; exact ⟨_, _, _, rfl⟩) (.slice (some ⟨w.heap.size, 0, none⟩) 0 0) 0 [] rfl (World.ownsRow_made w #[] 0 (Nat.le_refl _) (by simp only [maxLen]; omega) (by simp)) (kind_cells (heap_alloc_new _ _) (by simp)) ⟨b, o, none⟩ n c xs rfl (by rw [HLN.out, Nat.mul_one]) HC.out (fun u hu => by obtain ⟨p, n', c', e⟩ := HSL.out u hu; rw [e]; rfl) HSL.out hpos (by simp only [maxLen]; omega) (by omega) (by simp) ?_)
  intro v' w2 hown hk hg _
  have HO := Lib.hid hown
  have HK := Lib.hid hk
  have hG : Gr w w2 := Gr.grown ((Gr.refl w).alloc (.cells #[] 69)) hg (fun k hk => by simp [Value.ownBlock] at hk; omega)
  have HG := Lib.hid hG
  have hv' : ∃ p n c, v' = .slice p n c := by
    rcases hown.2 with ⟨rfl, _⟩ | ⟨g, cap, cur, rfl, _⟩ <;> exact ⟨_, _, _, rfl⟩
  obtain ⟨p', n', c', rfl⟩ := hv'
  clear hown hg hG hk
  go_wp2
  go_ret
  refine ⟨_, _, _, rfl, HG.out, xs, by rw [HLN.out, HN.out], ?_, HK.out, fun i hi => ?_⟩
  · rw [HN.out]; exact HO.out
  · obtain ⟨y, h1, h2⟩ := HGT.out i (by rw [← HN.out]; exact hi)
    exact ⟨y, h1, h2.gr HG.out⟩
end Go.Proofs.YtcmlhpodghfheaaDoor
