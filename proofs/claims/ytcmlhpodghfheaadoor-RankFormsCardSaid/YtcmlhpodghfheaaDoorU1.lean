/- Rows of the call's own: numbers and pairs; appends onto them. -/
import Derived.Test.YtcmlhpodghfheaaDoorK1
import Derived.Test.YtcmlhpodghfheaaDoorT3
import Derived.Laws.AppendOwnNone
set_option linter.unusedSimpArgs false
set_option linter.unusedVariables false
namespace Go.Proofs.YtcmlhpodghfheaaDoor
open Go.RowKit Go.Shelf

theorem und_u64s : Tryd.prog.underlying 67 = some (.slice 111) := by kernel_rfl
/-- Numbers as values. -/
def vU (xs : List Nat) : List Value := xs.map fun x => .int .u64 ((x : Nat) : Int)
def vI (xs : List Nat) : List Value := xs.map fun x => .int .i64 ((x : Nat) : Int)
/-- Pairs as values, cell by cell. -/
def vP : List (Nat × Nat) → List Value
  | [] => []
  | c :: r => .int .i64 ((c.1 : Nat) : Int) :: .int .i64 ((c.2 : Nat) : Int) :: vP r
theorem vP_len : ∀ cs, (vP cs).length = cs.length * 2
  | [] => rfl
  | c :: r => by simp [vP, vP_len r]; omega
theorem vP_app : ∀ cs ds, vP (cs ++ ds) = vP cs ++ vP ds
  | [], _ => rfl
  | c :: r, ds => by simp [vP, vP_app r ds]
theorem vP_get : ∀ (cs : List (Nat × Nat)) (i : Nat), i < cs.length → (vP cs)[i * 2]? = some (.int .i64 (((cs.getD i (0, 0)).1 : Nat) : Int)) ∧ (vP cs)[i * 2 + 1]? = some (.int .i64 (((cs.getD i (0, 0)).2 : Nat) : Int))
  | [], i, h => by simp at h
  | c :: r, 0, _ => by simp [vP]
  | c :: r, i + 1, h => by
    have := vP_get r i (by simpa using h)
    rw [show (i + 1) * 2 = i * 2 + 1 + 1 from by omega]
    simpa [vP] using this
theorem vU_one (xs : List Nat) : ∀ u ∈ vU xs, u.oneCell' = true := fun u hu => by obtain ⟨x, _, rfl⟩ := List.mem_map.1 hu; rfl
theorem vI_one (xs : List Nat) : ∀ u ∈ vI xs, u.oneCell' = true := fun u hu => by obtain ⟨x, _, rfl⟩ := List.mem_map.1 hu; rfl
theorem vP_one : ∀ cs, ∀ u ∈ vP cs, u.oneCell' = true
  | [], u, hu => by simp [vP] at hu
  | c :: r, u, hu => by
    simp only [vP, List.mem_cons] at hu
    rcases hu with rfl | rfl | hu
    · rfl
    · rfl
    · exact vP_one r u hu

/-- The slice value v is that of the uint64s xs. -/
def U64s (w : World) (v : Value) (xs : List Nat) : Prop :=
  (xs = [] ∧ ∃ p c, v = .slice p 0 c) ∨ (xs ≠ [] ∧ ∃ b o c, v = .slice (some ⟨b, o, none⟩) xs.length c ∧ xs.length ≤ c ∧ ∀ i, i < xs.length → w.cell? ⟨b, o + i, none⟩ = some (.int .u64 ((xs.getD i 0 : Nat) : Int)))
theorem U64s.gr {w w' : World} {v : Value} {xs : List Nat} (h : U64s w v xs) (hx : Gr w w') : U64s w' v xs := by
  rcases h with h | ⟨h1, b, o, c, h2, h2', h3⟩
  · exact .inl h
  · exact .inr ⟨h1, b, o, c, h2, h2', fun i hi => hx.cell (h3 i hi)⟩
theorem U64s.slice {w : World} {v : Value} {xs : List Nat} (h : U64s w v xs) : ∃ p c, v = .slice p xs.length c := by
  rcases h with ⟨rfl, p, c, h⟩ | ⟨_, b, o, c, h, _, _⟩
  · exact ⟨p, c, h⟩
  · exact ⟨_, c, h⟩

theorem own_cells_at {w : World} {base : Nat} {e : TypeId} {size n : Nat} {v : Value} {xs : List Value} (h : w.ownsRow base e size v n xs) (hn : 0 < n) :
    ∃ g cap, v = .slice (some ⟨g, 0, none⟩) n cap ∧ base ≤ g ∧ n ≤ cap ∧ (∀ i x, xs[i]? = some x → w.cell? ⟨g, i, none⟩ = some x ∧ w.frozen? ⟨g, i, none⟩ = false) := by
  obtain ⟨g, cap, rfl, h1, h2, h3⟩ := own_cellsOf h hn
  refine ⟨g, cap, rfl, h1, h2, fun i x hx => ⟨h3 i x hx, ?_⟩⟩
  obtain ⟨_, ⟨hn, _⟩ | ⟨g', cap', cur, hv, _, hg, _⟩⟩ := h
  · cases hn
  · simp only [Value.slice.injEq, Option.some.injEq, Addr.mk.injEq] at hv
    obtain ⟨⟨rfl, _⟩, _⟩ := hv
    simp [World.frozen?, hg]
theorem own_slice {w : World} {base : Nat} {e : TypeId} {size n : Nat} {v : Value} {xs : List Value} (h : w.ownsRow base e size v n xs) : ∃ p c, v = .slice p n c := by
  rcases h.2 with ⟨rfl, rfl⟩ | ⟨g, cap, cur, rfl, _⟩
  · exact ⟨_, _, rfl⟩
  · exact ⟨_, _, rfl⟩
theorem own_u64s {w : World} {base : Nat} {e : TypeId} {v : Value} {xs : List Nat} (h : w.ownsRow base e 1 v xs.length (vU xs)) : U64s w v xs := by
  rcases Nat.eq_zero_or_pos xs.length with h0 | h0
  · obtain ⟨p, c, rfl⟩ := own_slice h
    exact .inl ⟨List.eq_nil_of_length_eq_zero h0, p, c, by rw [h0]⟩
  · obtain ⟨g, cap, rfl, _, h2, h3⟩ := own_cells_at h h0
    refine .inr ⟨fun e => by rw [e] at h0; simp at h0, g, 0, cap, rfl, h2, fun i hi => ?_⟩
    rw [Nat.zero_add]
    refine (h3 i _ ?_).1
    simp [vU, List.getD, List.getElem?_eq_getElem hi]
theorem own_pairs {w : World} {base : Nat} {e : TypeId} {v : Value} {cs : List (Nat × Nat)} (h : w.ownsRow base e 2 v cs.length (vP cs)) : Cells w v cs := by
  rcases Nat.eq_zero_or_pos cs.length with h0 | h0
  · obtain ⟨p, c, rfl⟩ := own_slice h
    exact .inl ⟨List.eq_nil_of_length_eq_zero h0, p, c, by rw [h0]⟩
  · obtain ⟨g, cap, rfl, _, h2, h3⟩ := own_cells_at h h0
    refine .inr ⟨fun e => by rw [e] at h0; simp at h0, g, 0, cap, rfl, h2, fun i hi => ?_⟩
    rw [Nat.zero_add]
    exact ⟨(h3 _ _ (vP_get cs i hi).1).1, (h3 _ _ (vP_get cs i hi).2).1⟩

theorem hfin_cell_u {w : World} {b o c : Nat} {ys : List Nat} (h : ys.length ≤ c ∧ ∀ i, i < ys.length → w.cell? ⟨b, o + i, none⟩ = some (.int .u64 ((ys.getD i 0 : Nat) : Int))) : ∀ i, i < ys.length → w.cell? ⟨b, o + i, none⟩ = some (.int .u64 ((ys.getD i 0 : Nat) : Int)) := h.2
theorem hfin_cell_i {w : World} {b o : Nat} {ys : List Nat} (h : ∀ i, i < ys.length → w.cell? ⟨b, o + i, none⟩ = some (.int .i64 ((ys.getD i 0 : Nat) : Int))) : ∀ i, i < ys.length → w.cell? ⟨b, o + i, none⟩ = some (.int .i64 ((ys.getD i 0 : Nat) : Int)) := h

/-- 'append(l, x)' onto a row of numbers of the call's own; x lies in a new cell. -/
theorem wpl_app_u {w : World} {ops : Array Oper} {rest : List Oper} {o : Oper} {a : Act} {Q : Exit → Act → World → Prop} (hgd : o.guard = none) (s x : Operand)
    (ho : o.op = .call { callee := .builtin .append, args := #[s, x], argTypes := #[67, 67] })
    (base : Nat) (v : Value) (xs : List Nat) (y : Nat) (hs : a.eval s = v) (hown : w.ownsRow base 111 1 v xs.length (vU xs)) (hb : base ≤ w.heap.size) (hl : xs.length < 1000000)
    (hx : a.eval x = .slice (some ⟨w.heap.size, 0, none⟩) 1 1)
    (h : ∀ v' w', w'.ownsRow base 111 1 v' (xs ++ [y]).length (vU (xs ++ [y])) → (w.alloc (.cells #[.int .u64 (y : Int)] 111)).grownBy w' v.ownBlock → wpList Tryd.prog ops Q rest (a.put o.dst v') w') :
    wpList Tryd.prog ops Q (o :: rest) a (w.alloc (.cells #[.int .u64 (y : Int)] 111)) := by
  obtain ⟨i0, hi0, hz0, hz1, hz2⟩ := info_parts info_u64
  refine wpl_append hgd s x 67 ho base 111 i0 (.int .u64 0) 1 8 und_u64s hi0 hz0 hz1 hz2 rfl (by omega) v xs.length (vU xs) hs (own_gr hown ((Gr.refl w).alloc _)) ⟨w.heap.size, 0, none⟩ 1 1 [.int .u64 (y : Int)] hx rfl (cell_one_new _ _ _) (by simp [Value.oneCell']) (by simp only [maxLen]; omega) (by omega) (by simp; omega) ?_
  intro v' w' h1 h2 _
  exact h v' w' (by simpa [vU] using h1) h2
/-- 'append(l, x...)' onto a row of numbers of the call's own. -/
theorem wpl_apps_u {w : World} {ops : Array Oper} {rest : List Oper} {o : Oper} {a : Act} {Q : Exit → Act → World → Prop} (hgd : o.guard = none) (s x : Operand)
    (ho : o.op = .call { callee := .builtin .append, args := #[s, x], argTypes := #[67, 67] })
    (base : Nat) (v u : Value) (xs ys : List Nat) (hs : a.eval s = v) (hown : w.ownsRow base 111 1 v xs.length (vU xs)) (hb : base ≤ w.heap.size) (hl : xs.length + ys.length < 1000000)
    (hx : a.eval x = u) (hu : U64s w u ys) (hnil : ∀ c, u = .slice none 0 c → c = 0)
    (h : ∀ v' w', w'.ownsRow base 111 1 v' (xs ++ ys).length (vU (xs ++ ys)) → w.grownBy w' v.ownBlock → wpList Tryd.prog ops Q rest (a.put o.dst v') w') :
    wpList Tryd.prog ops Q (o :: rest) a w := by
  obtain ⟨i0, hi0, hz0, hz1, hz2⟩ := info_parts info_u64
  have hfin : ∀ p m c, u = .slice (some p) m c → (vU ys).length = m → (∀ j y, (vU ys)[j]? = some y → w.cell? (p.add j) = some y) → wpList Tryd.prog ops Q (o :: rest) a w := by
    rintro p m c rfl hm hc
    refine wpl_append hgd s x 67 ho base 111 i0 (.int .u64 0) 1 8 und_u64s hi0 hz0 hz1 hz2 rfl (by omega) v xs.length (vU xs) hs hown p m c (vU ys) hx (by omega) hc (vU_one ys) (by simp only [maxLen]; simp [vU] at hm; omega) (by simp [vU] at hm; omega) hb ?_
    intro v' w' h1 h2 _
    refine h v' w' ?_ h2
    have : (vU ys).length = ys.length := by simp [vU]
    rw [List.length_append, ← this, hm, show vU (xs ++ ys) = vU xs ++ vU ys from by simp [vU]]
    exact h1
  rcases hu with ⟨rfl, p, c, rfl⟩ | ⟨hne, b, o', c, hu, hrest⟩
  · cases p with
    | none =>
      obtain rfl := hnil c rfl
      refine wpList_append_own_none hgd s x 67 ho base 111 i0 1 und_u64s hi0 v xs.length (vU xs) hs hown hx ?_
      refine h v w (by simpa using hown) ⟨rfl, rfl, rfl, Nat.le_refl _, fun _ _ _ => rfl⟩
    | some p => exact hfin p 0 c rfl rfl (fun j y hj => by simp [vU] at hj)
  · refine hfin _ _ c hu (by simp [vU]) fun j y hj => ?_
    have hj' : j < ys.length := by
      have := (List.getElem?_eq_some_iff.1 hj).1
      simpa [vU] using this
    have hy : y = .int .u64 ((ys.getD j 0 : Nat) : Int) := by
      simp only [vU, List.getElem?_map, List.getElem?_eq_getElem hj', Option.map_some, Option.some.injEq] at hj
      rw [← hj]; simp [List.getD, List.getElem?_eq_getElem hj']
    rw [hy]
    by_cases h0 : j = 0
    · subst h0; simpa [Addr.add] using (hfin_cell_u hrest) 0 hj'
    · simpa [Addr.add, h0] using (hfin_cell_u hrest) j hj'
/-- 'append(l, x)' onto a row of numbers of the call's own; x lies in a new cell. -/
theorem wpl_app_i {w : World} {ops : Array Oper} {rest : List Oper} {o : Oper} {a : Act} {Q : Exit → Act → World → Prop} (hgd : o.guard = none) (s x : Operand)
    (ho : o.op = .call { callee := .builtin .append, args := #[s, x], argTypes := #[36, 36] })
    (base : Nat) (v : Value) (xs : List Nat) (y : Nat) (hs : a.eval s = v) (hown : w.ownsRow base 3 1 v xs.length (vI xs)) (hb : base ≤ w.heap.size) (hl : xs.length < 1000000)
    (hx : a.eval x = .slice (some ⟨w.heap.size, 0, none⟩) 1 1)
    (h : ∀ v' w', w'.ownsRow base 3 1 v' (xs ++ [y]).length (vI (xs ++ [y])) → (w.alloc (.cells #[.int .i64 (y : Int)] 3)).grownBy w' v.ownBlock → wpList Tryd.prog ops Q rest (a.put o.dst v') w') :
    wpList Tryd.prog ops Q (o :: rest) a (w.alloc (.cells #[.int .i64 (y : Int)] 3)) := by
  obtain ⟨i0, hi0, hz0, hz1, hz2⟩ := info_parts info_int
  refine wpl_append hgd s x 36 ho base 3 i0 (.int .i64 0) 1 8 und_ints hi0 hz0 hz1 hz2 rfl (by omega) v xs.length (vI xs) hs (own_gr hown ((Gr.refl w).alloc _)) ⟨w.heap.size, 0, none⟩ 1 1 [.int .i64 (y : Int)] hx rfl (cell_one_new _ _ _) (by simp [Value.oneCell']) (by simp only [maxLen]; omega) (by omega) (by simp; omega) ?_
  intro v' w' h1 h2 _
  exact h v' w' (by simpa [vI] using h1) h2
/-- 'append(l, x...)' onto a row of numbers of the call's own. -/
theorem wpl_apps_i {w : World} {ops : Array Oper} {rest : List Oper} {o : Oper} {a : Act} {Q : Exit → Act → World → Prop} (hgd : o.guard = none) (s x : Operand)
    (ho : o.op = .call { callee := .builtin .append, args := #[s, x], argTypes := #[36, 36] })
    (base : Nat) (v u : Value) (xs ys : List Nat) (hs : a.eval s = v) (hown : w.ownsRow base 3 1 v xs.length (vI xs)) (hb : base ≤ w.heap.size) (hl : xs.length + ys.length < 1000000)
    (hx : a.eval x = u) (hu : Ints w u ys) (hnil : ∀ c, u = .slice none 0 c → c = 0)
    (h : ∀ v' w', w'.ownsRow base 3 1 v' (xs ++ ys).length (vI (xs ++ ys)) → w.grownBy w' v.ownBlock → wpList Tryd.prog ops Q rest (a.put o.dst v') w') :
    wpList Tryd.prog ops Q (o :: rest) a w := by
  obtain ⟨i0, hi0, hz0, hz1, hz2⟩ := info_parts info_int
  have hfin : ∀ p m c, u = .slice (some p) m c → (vI ys).length = m → (∀ j y, (vI ys)[j]? = some y → w.cell? (p.add j) = some y) → wpList Tryd.prog ops Q (o :: rest) a w := by
    rintro p m c rfl hm hc
    refine wpl_append hgd s x 36 ho base 3 i0 (.int .i64 0) 1 8 und_ints hi0 hz0 hz1 hz2 rfl (by omega) v xs.length (vI xs) hs hown p m c (vI ys) hx (by omega) hc (vI_one ys) (by simp only [maxLen]; simp [vI] at hm; omega) (by simp [vI] at hm; omega) hb ?_
    intro v' w' h1 h2 _
    refine h v' w' ?_ h2
    have : (vI ys).length = ys.length := by simp [vI]
    rw [List.length_append, ← this, hm, show vI (xs ++ ys) = vI xs ++ vI ys from by simp [vI]]
    exact h1
  rcases hu with ⟨rfl, p, c, rfl⟩ | ⟨hne, b, o', c, hu, hrest⟩
  · cases p with
    | none =>
      obtain rfl := hnil c rfl
      refine wpList_append_own_none hgd s x 36 ho base 3 i0 1 und_ints hi0 v xs.length (vI xs) hs hown hx ?_
      refine h v w (by simpa using hown) ⟨rfl, rfl, rfl, Nat.le_refl _, fun _ _ _ => rfl⟩
    | some p => exact hfin p 0 c rfl rfl (fun j y hj => by simp [vI] at hj)
  · refine hfin _ _ c hu (by simp [vI]) fun j y hj => ?_
    have hj' : j < ys.length := by
      have := (List.getElem?_eq_some_iff.1 hj).1
      simpa [vI] using this
    have hy : y = .int .i64 ((ys.getD j 0 : Nat) : Int) := by
      simp only [vI, List.getElem?_map, List.getElem?_eq_getElem hj', Option.map_some, Option.some.injEq] at hj
      rw [← hj]; simp [List.getD, List.getElem?_eq_getElem hj']
    rw [hy]
    by_cases h0 : j = 0
    · subst h0; simpa [Addr.add] using (hfin_cell_i hrest) 0 hj'
    · simpa [Addr.add, h0] using (hfin_cell_i hrest) j hj'

/-- 'append(l, c)' onto a row of pairs of the call's own; the pair lies in a new block. -/
theorem wpl_app_p {w : World} {ops : Array Oper} {rest : List Oper} {o : Oper} {a : Act} {Q : Exit → Act → World → Prop} (hgd : o.guard = none) (s x : Operand)
    (ho : o.op = .call { callee := .builtin .append, args := #[s, x], argTypes := #[37, 37] })
    (base : Nat) (v : Value) (xs : List (Nat × Nat)) (y1 y2 : Nat) (hs : a.eval s = v) (hown : w.ownsRow base 40 2 v xs.length (vP xs)) (hb : base ≤ w.heap.size) (hl : xs.length < 1000000)
    (hx : a.eval x = .slice (some ⟨w.heap.size, 0, none⟩) 1 1)
    (h : ∀ v' w', w'.ownsRow base 40 2 v' (xs ++ [(y1, y2)]).length (vP (xs ++ [(y1, y2)])) → (w.alloc (.cells #[.int .i64 (y1 : Int), .int .i64 (y2 : Int)] 40)).grownBy w' v.ownBlock → (v'.ownBlock = v.ownBlock ∨ v'.ownBlock = some (w.alloc (.cells #[.int .i64 (y1 : Int), .int .i64 (y2 : Int)] 40)).heap.size) → wpList Tryd.prog ops Q rest (a.put o.dst v') w') :
    wpList Tryd.prog ops Q (o :: rest) a (w.alloc (.cells #[.int .i64 (y1 : Int), .int .i64 (y2 : Int)] 40)) := by
  obtain ⟨i0, hi0, hz0, hz1, hz2⟩ := info_parts info_pair
  refine wpList_append_own_at _ hgd s x 37 ho base 40 i0 (.agg #[.int .i64 0, .int .i64 0]) 2 16 und_pairs hi0 hz0 hz1 hz2 rfl (by omega) v xs.length (vP xs) hs (own_gr hown ((Gr.refl w).alloc _)) ⟨w.heap.size, 0, none⟩ 1 1 [.int .i64 (y1 : Int), .int .i64 (y2 : Int)] hx rfl ?_ (by simp [Value.oneCell']) (by simp only [maxLen]; omega) (by omega) (by simp; omega) ?_
  · intro j u hj
    match j, hj with
    | 0, hj => simp at hj; subst hj; simp [go_sem]
    | 1, hj => simp at hj; subst hj; simp [go_sem]
    | j + 2, hj => simp at hj
  intro v' w' h1 h2 _ h3
  exact h v' w' (by rw [vP_app]; simpa [vP] using h1) h2 h3
end Go.Proofs.YtcmlhpodghfheaaDoor
