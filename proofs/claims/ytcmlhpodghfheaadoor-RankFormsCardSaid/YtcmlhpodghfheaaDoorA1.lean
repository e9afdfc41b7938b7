/- Rows of the call's own whose cells are all of a kind: appends of sets and of concepts. -/
import Derived.Test.YtcmlhpodghfheaaDoorR2
set_option linter.unusedSimpArgs false
set_option linter.unusedVariables false
namespace Go.Proofs.YtcmlhpodghfheaaDoor
open Go.RowKit Go.Shelf

/-- All cells of the own row's block are of the kind Pc. -/
def ofKind (Pc : Value → Prop) (w : World) (v : Value) : Prop := ∀ g, v.ownBlock = some g → ∀ o u, w.cell? ⟨g, o, none⟩ = some u → Pc u

theorem zeroCells_kind {Pc : Value → Prop} {z : Array Value} (hz : ∀ u ∈ z.toList, Pc u) (n : Nat) : ∀ u ∈ (Builtin.zeroCells z n).toList, Pc u := by
  intro u hu
  unfold Builtin.zeroCells at hu
  rw [Array.toList_map] at hu
  obtain ⟨i, hi, rfl⟩ := List.mem_map.1 hu
  have hi' : i < n * z.size := by simpa using hi
  have hp : 0 < z.size := by
    rcases Nat.eq_zero_or_pos z.size with h | h
    · rw [h] at hi'; omega
    · exact h
  have hm := Nat.mod_lt i hp
  rw [getElem!_pos z (i % z.size) hm]
  exact hz _ (by simp)

theorem kind_cells {Pc : Value → Prop} {w : World} {g n c : Nat} {cs : Array Value} {e : TypeId} (hg : w.heap[g]? = some (.cells cs e (0, 0))) (h : ∀ u ∈ cs.toList, Pc u) : ofKind Pc w (.slice (some ⟨g, 0, none⟩) n c) := by
  intro g' hg' o u hu
  simp only [Value.ownBlock, Option.some.injEq] at hg'
  subst hg'
  simp only [World.cell?, hg] at hu
  simp at hu
  exact h u (by rw [Array.mem_toList_iff]; exact Array.mem_of_getElem? hu)

section
variable {P : Program}
theorem run_append_kind (Pc : Value → Prop) (w : World) (base : Nat) (t ty e : TypeId) (i : TypeInfo) (z : Value) (size bytes : Nat) (ht : P.underlying t = some (.slice e)) (hi : P.info? e = some i) (hz : i.zero = some z)
    (hsize : i.size = size) (hby : i.bytes = bytes) (hzs : z.cells.size = size) (hsz : 0 < size) (hzk : ∀ u ∈ z.cells.toList, Pc u)
    (v : Value) (n : Nat) (xs : List Value) (hown : w.ownsRow base e size v n xs) (hk : ofKind Pc w v)
    (a : Addr) (m c : Nat) (news : List Value) (hl : news.length = m * size) (hnews : ∀ j u, news[j]? = some u → w.cell? (a.add j) = some u) (h1 : ∀ u ∈ news, u.oneCell' = true) (hnk : ∀ u ∈ news, Pc u) (hm : 0 < m)
    (h63 : n + m ≤ maxLen) (hbytes : (n + m) * bytes ≤ 140737488355328) (hbase : base ≤ w.heap.size) :
    ∃ v' w', (Builtin.append_ #[t, t] ty #[v, .slice (some a) m c]).run P w = .ok v' w' ∧ w'.ownsRow base e size v' (n + m) (xs ++ news) ∧ w.grownBy w' v.ownBlock ∧ ofKind Pc w' v' := by
  obtain ⟨v', w', hr, h2, h3, _, _⟩ := run_append_own_at (P := P) w base t ty e i z size bytes ht hi hz hsize hby hzs hsz v n xs hown a m c news hl hnews h1 h63 hbytes hbase
  refine ⟨v', w', hr, h2, h3, ?_⟩
  subst hsize
  subst hby
  have hsmall : n + m ≤ 9223372036854775807 := by simp only [maxLen] at h63; omega
  rcases hown.2 with ⟨rfl, rfl⟩ | ⟨g, cap, cur, rfl, hbg, hg, hnc, hcm, hcs, htake⟩
  · have hr' := run_append_nil (P := P) w t ty e i z ht hi hz a m c news hl hnews (by omega) (by omega) (by have hb := hbytes; simp only [Nat.zero_add] at hb; omega)
    rw [hr'] at hr
    simp only [Result.ok.injEq] at hr
    obtain ⟨rfl, rfl⟩ := hr
    refine kind_cells (heap_alloc_new _ _) ?_
    intro u hu
    rw [Array.toList_append] at hu
    rcases List.mem_append.1 hu with hu | hu
    · exact hnk u (by simpa using hu)
    · exact zeroCells_kind hzk _ u hu
  · have hcur : ∀ u ∈ cur.toList, Pc u := by
      intro u hu
      obtain ⟨j, hj, rfl⟩ := List.getElem_of_mem hu
      refine hk g rfl j _ ?_
      simp only [World.cell?, hg]
      simp at hj
      simp [hj]
    by_cases hroom : n + m ≤ cap
    · have hfit : n * i.size + news.length ≤ cur.size := by rw [hl, hcs, ← Nat.add_mul]; exact Nat.mul_le_mul_right _ hroom
      have hr' := run_append_room (P := P) w t ty e i ht hi g n cap cur hg a m c news hl hnews h1 hroom hfit
      rw [hr'] at hr
      simp only [Result.ok.injEq] at hr
      obtain ⟨rfl, rfl⟩ := hr
      refine kind_cells (setRow_heap w g cur _ e _ hg) ?_
      intro u hu
      simp only [List.toList_toArray, List.mem_append] at hu
      rcases hu with (hu | hu) | hu
      · exact hcur u (List.mem_of_mem_take hu)
      · exact hnk u hu
      · exact hcur u (List.mem_of_mem_drop hu)
    · have holds : ∀ j u, xs[j]? = some u → w.cell? ((⟨g, 0, none⟩ : Addr).add j) = some u := hown.cells (g := g) rfl
      have hr' := run_append_grow (P := P) w t ty e i z ht hi hz ⟨g, 0, none⟩ n cap xs hown.1 holds a m c news hl hnews (by omega) (by omega) (growslice_fits (by omega) hbytes)
      rw [hr'] at hr
      simp only [Result.ok.injEq] at hr
      obtain ⟨rfl, rfl⟩ := hr
      refine kind_cells (heap_alloc_new _ _) ?_
      intro u hu
      simp only [Array.toList_append, List.mem_append] at hu
      rcases hu with (hu | hu) | hu
      · have hu' : u ∈ xs := by simpa using hu
        rw [← htake] at hu'
        exact hcur u (List.mem_of_mem_take hu')
      · exact hnk u (by simpa using hu)
      · exact zeroCells_kind hzk _ u hu

theorem wpl_append_kind {w : World} (Pc : Value → Prop) {ops : Array Oper} {rest : List Oper} {o : Oper} {a : Act} {Q : Exit → Act → World → Prop} (hgd : o.guard = none) (s x : Operand) (t : TypeId)
    (ho : o.op = .call { callee := .builtin .append, args := #[s, x], argTypes := #[t, t] })
    (base : Nat) (e : TypeId) (i : TypeInfo) (z : Value) (size bytes : Nat) (ht : P.underlying t = some (.slice e)) (hi : P.info? e = some i) (hz : i.zero = some z)
    (hsize : i.size = size) (hby : i.bytes = bytes) (hzs : z.cells.size = size) (hsz : 0 < size) (hzk : ∀ u ∈ z.cells.toList, Pc u)
    (v : Value) (n : Nat) (xs : List Value) (hs : a.eval s = v) (hown : w.ownsRow base e size v n xs) (hk : ofKind Pc w v)
    (ad : Addr) (m c : Nat) (news : List Value) (hx : a.eval x = .slice (some ad) m c) (hl : news.length = m * size) (hnews : ∀ j u, news[j]? = some u → w.cell? (ad.add j) = some u) (h1 : ∀ u ∈ news, u.oneCell' = true) (hnk : ∀ u ∈ news, Pc u) (hm : 0 < m)
    (h63 : n + m ≤ maxLen) (hbytes : (n + m) * bytes ≤ 140737488355328) (hbase : base ≤ w.heap.size)
    (h : ∀ v' w', w'.ownsRow base e size v' (n + m) (xs ++ news) → ofKind Pc w' v' → w.grownBy w' v.ownBlock → w.drawn ≤ w'.drawn → wpList P ops Q rest (a.put o.dst v') w') : wpList P ops Q (o :: rest) a w := by
  refine wpList_plain hgd fun K hK => ?_
  obtain ⟨v', w', hr, h2, h3, h4⟩ := run_append_kind (P := P) Pc w base t o.type e i z size bytes ht hi hz hsize hby hzs hsz hzk v n xs hown hk ad m c news hl hnews h1 hnk hm h63 hbytes hbase
  unfold Oper.wp execOp
  simp only [ho, resolve, invoke, builtin, Sem.run_bind, Sem.run_pure, Result.andThen_ok, List.map_toArray, List.map_cons, List.map_nil, hs, hx, hr]
  exact hK _ _ (h v' w' h2 h4 h3 (run_drawn _ _ _ _ _ hr))
end

/-- A slice value. -/
def isSl (u : Value) : Prop := ∃ p n c, u = .slice p n c

/-- A row of the call's own with the sets ss. -/
def OwnSets (w : World) (base : Nat) (v : Value) (ss : List Nat) : Prop :=
  ∃ xs : List Value, xs.length = ss.length ∧ w.ownsRow base 69 1 v ss.length xs ∧ ofKind isSl w v ∧ ∀ i, i < ss.length → ∃ y, xs[i]? = some y ∧ Words w y (ss.getD i 0)

theorem OwnSets.nil (w : World) (base : Nat) : OwnSets w base (.slice none 0 0) [] :=
  ⟨[], rfl, World.ownsRow_nil _ _ _ _, fun g hg => by simp [Value.ownBlock] at hg, fun i hi => by simp at hi⟩

theorem kind_gr {Pc : Value → Prop} {w w' : World} {base : Nat} {e : TypeId} {size n : Nat} {v : Value} {xs : List Value} (h : ofKind Pc w v) (ho : w.ownsRow base e size v n xs) (hx : Gr w w') : ofKind Pc w' v := by
  intro g hg o u hu
  have hl := (World.ownsRow.lt ho g hg).2
  exact h g hg o u ((Below.cell hx (p := ⟨g, o, none⟩) hl).symm.trans hu)

theorem OwnSets.gr {w w' : World} {base : Nat} {v : Value} {ss : List Nat} (h : OwnSets w base v ss) (hx : Gr w w') : OwnSets w' base v ss := by
  obtain ⟨xs, h1, h2, h3, h4⟩ := h
  exact ⟨xs, h1, own_gr h2 hx, kind_gr h3 h2 hx, fun i hi => let ⟨y, a, b⟩ := h4 i hi; ⟨y, a, b.gr hx⟩⟩

/-- What a write into a row of slices leaves of a set. -/
theorem words_kind {w w' : World} {v : Value} {y : Value} {s : Nat} (hk : ofKind isSl w v) (hg : w.grownBy w' v.ownBlock) (h : Words w y s) : Words w' y s := by
  rcases h with h | ⟨h1, h2, b, o, c, h3, h4⟩
  · exact .inl h
  · refine .inr ⟨h1, h2, b, o, c, h3, hg.cell h4 (fun e => ?_)⟩
    obtain ⟨p, n, c', h⟩ := hk b e.symm o _ h4
    cases h

theorem OwnSets.slice {w : World} {base : Nat} {v : Value} {ss : List Nat} (h : OwnSets w base v ss) : ∃ p c, v = .slice p ss.length c := by
  obtain ⟨xs, h1, ⟨_, ⟨rfl, h2⟩ | ⟨g, cap, cur, rfl, _⟩⟩, _⟩ := h
  · exact ⟨none, 0, by rw [h2]⟩
  · exact ⟨_, _, rfl⟩

theorem OwnSets.sets {w : World} {base : Nat} {v : Value} {ss : List Nat} (h : OwnSets w base v ss) : Sets w v ss := by
  obtain ⟨xs, h1, h2, h3, h4⟩ := h
  rcases ss with _ | ⟨s0, ss⟩
  · obtain ⟨_, ⟨rfl, h2⟩ | ⟨g, cap, cur, rfl, _⟩⟩ := h2
    · exact .inl ⟨rfl, none, 0, rfl⟩
    · exact .inl ⟨rfl, _, _, rfl⟩
  · obtain ⟨_, ⟨_, h0⟩ | ⟨g, cap, cur, rfl, hb, hg, hn, hm, hs, ht⟩⟩ := h2
    · simp at h0
    · refine .inr ⟨by simp, g, 0, cap, rfl, fun i hi => ?_⟩
      obtain ⟨y, hy, hw⟩ := h4 i hi
      refine ⟨y, ?_, hw⟩
      simp only [World.cell?, hg, Nat.zero_add]
      have h2 := congrArg (fun l => l[i]?) ht
      simp only [Nat.mul_one] at h2
      rw [List.getElem?_take_of_lt hi, hy] at h2
      simp only [Option.isSome_none, Bool.false_eq_true, if_false]
      rw [← Array.getElem?_toList, h2]

theorem info_set : (Tryd.prog.info? 69).map (fun i => (i.zero, i.size, i.bytes)) = some (some (.agg #[.slice none 0 0]), 1, 24) := by kernel_rfl
theorem und_sets : Tryd.prog.underlying 71 = some (.slice 69) := by kernel_rfl

/-- 'append(l, s)' onto a row of sets of the call's own; the set lies in a new cell. -/
theorem wpl_append_set {w : World} {ops : Array Oper} {rest : List Oper} {o : Oper} {a : Act} {Q : Exit → Act → World → Prop} (hgd : o.guard = none) (s x : Operand)
    (ho : o.op = .call { callee := .builtin .append, args := #[s, x], argTypes := #[71, 71] })
    (base : Nat) (v y : Value) (ss : List Nat) (t : Nat) (hs : a.eval s = v) (hown : OwnSets w base v ss) (hw : Words w y t) (hb : base ≤ w.heap.size) (hl : ss.length < 1000000)
    (hx : a.eval x = .slice (some ⟨w.heap.size, 0, none⟩) 1 1)
    (h : ∀ v' w', OwnSets w' base v' (ss ++ [t]) → (w.alloc (.cells #[y] 69)).grownBy w' v.ownBlock → wpList Tryd.prog ops Q rest (a.put o.dst v') w') :
    wpList Tryd.prog ops Q (o :: rest) a (w.alloc (.cells #[y] 69)) := by
  obtain ⟨i0, hi0, hz0, hz1, hz2⟩ := info_parts info_set
  have hX : Gr w (w.alloc (.cells #[y] 69)) := (Gr.refl w).alloc _
  obtain ⟨xs, h1, h2, h3, h4⟩ := hown.gr hX
  obtain ⟨p, n, c, hy⟩ := hw.slice
  refine wpl_append_kind isSl hgd s x 71 ho base 69 i0 (.agg #[.slice none 0 0]) 1 24 und_sets hi0 hz0 hz1 hz2 rfl (by omega) (by simp [Value.cells]; exact ⟨_, _, _, rfl⟩)
    v ss.length xs hs h2 h3 ⟨w.heap.size, 0, none⟩ 1 1 [y] hx rfl (cell_one_new _ _ _) (by subst hy; simp [Value.oneCell']) (by subst hy; simp; exact ⟨_, _, _, rfl⟩) (by omega) (by simp only [maxLen]; omega) (by omega) (by simp; omega) ?_
  intro v' w' k1 k2 k3 _
  refine h v' w' ⟨xs ++ [y], by simp [h1], by simpa using k1, k2, fun i hi => ?_⟩ k3
  rcases Nat.lt_or_ge i ss.length with hlt | hge
  · obtain ⟨y', hy', hw'⟩ := h4 i hlt
    refine ⟨y', by rw [List.getElem?_append_left (by omega)]; exact hy', ?_⟩
    rw [show (ss ++ [t]).getD i 0 = ss.getD i 0 from by simp [List.getD, List.getElem?_append_left hlt]]
    exact words_kind h3 k3 hw'
  · have : i = ss.length := by simp at hi; omega
    subst this
    refine ⟨y, by rw [← h1]; simp, ?_⟩
    rw [show (ss ++ [t]).getD ss.length 0 = t from by simp [List.getD]]
    exact words_kind h3 k3 (hw.gr hX)

/-- What such an append leaves. -/
theorem appS_gr {w w1 w2 : World} {base : Nat} {v : Value} {ss : List Nat} {o : Obj} (hG : Gr w w1) (ho : OwnSets w1 base v ss) (hb : w.heap.size ≤ base) (hg : (w1.alloc o).grownBy w2 v.ownBlock) : Gr w w2 := by
  obtain ⟨xs, _, h2, _⟩ := ho
  exact app_gr hG h2 hb hg
theorem appS_cell {w1 w2 : World} {base : Nat} {v : Value} {ss : List Nat} {o : Obj} (ho : OwnSets w1 base v ss) (hg : (w1.alloc o).grownBy w2 v.ownBlock) {p : Addr} {x : Value} (hp : p.block < base) (hc : w1.cell? p = some x) : w2.cell? p = some x := by
  obtain ⟨xs, _, h2, _⟩ := ho
  exact app_cell h2 hg hp hc
theorem appS_frz {w1 w2 : World} {base : Nat} {v : Value} {ss : List Nat} {o : Obj} (ho : OwnSets w1 base v ss) (hg : (w1.alloc o).grownBy w2 v.ownBlock) {p : Addr} {x : Value} (hp : p.block < base) (hc : w1.cell? p = some x) (hf : w1.frozen? p = false) : w2.frozen? p = false := by
  obtain ⟨xs, _, h2, _⟩ := ho
  exact app_frz h2 hg hp hc hf
end Go.Proofs.YtcmlhpodghfheaaDoor
