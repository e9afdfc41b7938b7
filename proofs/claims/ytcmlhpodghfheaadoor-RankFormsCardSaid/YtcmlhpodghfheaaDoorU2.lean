/- Rows of nodes of the call's own; appends onto them. -/
import Derived.Test.YtcmlhpodghfheaaDoorU1
import Derived.Test.YtcmlhpodghfheaaDoorF1
set_option linter.unusedSimpArgs false
set_option linter.unusedVariables false
namespace Go.Proofs.YtcmlhpodghfheaaDoor
open Go.RowKit Go.Shelf

/-- A list of numbers; among the reference's nodes with its capacity told. -/
def IntsK (K : IntKind) (w : World) (v : Value) (xs : List Nat) : Prop := Ints w v xs ∧ (K = .i64 → ∀ p n c, v = .slice p n c → n ≤ c)
theorem IntsK.gr {K : IntKind} {w w' : World} {v : Value} {xs : List Nat} (h : IntsK K w v xs) (hx : Gr w w') : IntsK K w' v xs := ⟨h.1.gr hx, h.2⟩
theorem IntsK.cap {w : World} {p : Option Addr} {n c : Nat} {xs : List Nat} (h : IntsK .i64 w (.slice p n c) xs) : n ≤ c := h.2 rfl p n c rfl
/-- The five cells at an address are a node; K: the kind of its kind. -/
def NdAtK (K : IntKind) (w : World) (b o : Nat) (x : Nd) : Prop := ∃ p1 c1 p2 c2, w.cell? ⟨b, o, none⟩ = some (.int K (x.kind : Int)) ∧ w.cell? ⟨b, o + 1, none⟩ = some (.int .i64 (x.row : Int)) ∧ w.cell? ⟨b, o + 2, none⟩ = some (.int .i64 (x.col : Int)) ∧
  w.cell? ⟨b, o + 3, none⟩ = some (.slice p1 x.ch.length c1) ∧ w.cell? ⟨b, o + 4, none⟩ = some (.slice p2 x.ce.length c2) ∧ IntsK K w (.slice p1 x.ch.length c1) x.ch ∧ Cells w (.slice p2 x.ce.length c2) x.ce
theorem NdAtK.gr {K : IntKind} {w w' : World} {b o : Nat} {x : Nd} (h : NdAtK K w b o x) (hx : Gr w w') : NdAtK K w' b o x := by
  obtain ⟨p1, c1, p2, c2, h1, h2, h3, h4, h5, h6, h7⟩ := h
  exact ⟨p1, c1, p2, c2, hx.cell h1, hx.cell h2, hx.cell h3, hx.cell h4, hx.cell h5, h6.gr hx, h7.gr hx⟩
def NdsK (K : IntKind) (w : World) (v : Value) (l : List Nd) : Prop :=
  (l = [] ∧ ∃ p c, v = .slice p 0 c) ∨ (l ≠ [] ∧ ∃ b o c, v = .slice (some ⟨b, o, none⟩) l.length c ∧ l.length ≤ c ∧ ∀ i, i < l.length → NdAtK K w b (o + i * 5) (l.getD i default))
theorem NdsK.gr {K : IntKind} {w w' : World} {v : Value} {l : List Nd} (h : NdsK K w v l) (hx : Gr w w') : NdsK K w' v l := by
  rcases h with h | ⟨h1, b, o, c, h2, h2', h3⟩
  · exact .inl h
  · exact .inr ⟨h1, b, o, c, h2, h2', fun i hi => (h3 i hi).gr hx⟩
theorem NdsK.slice {K : IntKind} {w : World} {v : Value} {l : List Nd} (h : NdsK K w v l) : ∃ p c, v = .slice p l.length c := by
  rcases h with ⟨rfl, p, c, h⟩ | ⟨_, b, o, c, h, _, _⟩
  · exact ⟨p, c, h⟩
  · exact ⟨_, c, h⟩
theorem NdsK.nds {w : World} {v : Value} {l : List Nd} (h : NdsK .u8 w v l) : Nds w v l := by
  rcases h with h | ⟨h1, b, o, c, h2, h2', h3⟩
  · exact .inl h
  · exact .inr ⟨h1, b, o, c, h2, fun i hi => let ⟨p1, c1, p2, c2, a1, a2, a3, a4, a5, a6, a7⟩ := h3 i hi; ⟨p1, c1, p2, c2, a1, a2, a3, a4, a5, a6.1, a7⟩⟩

def nodeCells (K : IntKind) (x : Nd) (y : Value × Value) : List Value := [.int K (x.kind : Int), .int .i64 (x.row : Int), .int .i64 (x.col : Int), y.1, y.2]
def vN (K : IntKind) : List Nd → List (Value × Value) → List Value
  | x :: r, y :: s => nodeCells K x y ++ vN K r s
  | _, _ => []
theorem vN_len (K : IntKind) : ∀ (l : List Nd) (vs : List (Value × Value)), vs.length = l.length → (vN K l vs).length = l.length * 5
  | [], [], _ => rfl
  | [], _ :: _, h => by simp at h
  | _ :: _, [], h => by simp at h
  | x :: r, y :: s, h => by simp [vN, nodeCells, vN_len K r s (by simpa using h)]; omega
theorem vN_app (K : IntKind) (x : Nd) (y : Value × Value) : ∀ (l : List Nd) (vs : List (Value × Value)), vs.length = l.length → vN K (l ++ [x]) (vs ++ [y]) = vN K l vs ++ nodeCells K x y
  | [], [], _ => by simp [vN]
  | [], _ :: _, h => by simp at h
  | _ :: _, [], h => by simp at h
  | a :: r, b :: s, h => by simp [vN, vN_app K x y r s (by simpa using h)]
theorem vN_get (K : IntKind) : ∀ (l : List Nd) (vs : List (Value × Value)) (i t : Nat), vs.length = l.length → i < l.length → t < 5 → (vN K l vs)[i * 5 + t]? = (nodeCells K (l.getD i default) (vs.getD i (undef, undef)))[t]?
  | [], _, i, t, _, h, _ => by simp at h
  | _ :: _, [], i, t, h, _, _ => by simp at h
  | x :: r, y :: s, 0, t, _, _, ht => by
    simp only [vN, Nat.zero_mul, Nat.zero_add, List.getD_cons_zero]
    exact List.getElem?_append_left (by simpa [nodeCells] using ht)
  | x :: r, y :: s, i + 1, t, h, hi, ht => by
    simp only [vN, List.getD_cons_succ]
    rw [show (i + 1) * 5 + t = (nodeCells K x y).length + (i * 5 + t) from by simp [nodeCells]; omega, List.getElem?_append_right (by omega)]
    rw [show (nodeCells K x y).length + (i * 5 + t) - (nodeCells K x y).length = i * 5 + t from by omega]
    exact vN_get K r s i t (by simpa using h) (by simpa using hi) ht

/-- The slice y lies in another block than v. -/
def Off {α : Type} (v y : Value) (xs : List α) : Prop := xs ≠ [] → ∀ g, v.ownBlock = some g → y.ownBlock ≠ some g
/-- The slice y lies from block base on. -/
def Low {α : Type} (base : Nat) (y : Value) (xs : List α) : Prop := xs ≠ [] → ∀ g, y.ownBlock = some g → base ≤ g
/-- A row of the call's own with the nodes l. -/
def OwnNds (K : IntKind) (T : TypeId) (w : World) (base : Nat) (v : Value) (l : List Nd) : Prop :=
  ∃ vs : List (Value × Value), vs.length = l.length ∧ w.ownsRow base T 5 v l.length (vN K l vs) ∧ ∀ i, i < l.length → IntsK K w (vs.getD i (undef, undef)).1 (l.getD i default).ch ∧ Cells w (vs.getD i (undef, undef)).2 (l.getD i default).ce ∧ Off v (vs.getD i (undef, undef)).1 (l.getD i default).ch ∧ Off v (vs.getD i (undef, undef)).2 (l.getD i default).ce ∧ Low base (vs.getD i (undef, undef)).1 (l.getD i default).ch ∧ Low base (vs.getD i (undef, undef)).2 (l.getD i default).ce
theorem OwnNds.nil (K : IntKind) (T : TypeId) (w : World) (base : Nat) : OwnNds K T w base (.slice none 0 0) [] :=
  ⟨[], rfl, World.ownsRow_nil _ _ _ _, fun i hi => by simp at hi⟩
theorem OwnNds.gr {K : IntKind} {T : TypeId} {w w' : World} {base : Nat} {v : Value} {l : List Nd} (h : OwnNds K T w base v l) (hx : Gr w w') : OwnNds K T w' base v l := by
  obtain ⟨vs, h1, h2, h3⟩ := h
  exact ⟨vs, h1, own_gr h2 hx, fun i hi => let ⟨a, b, c, d⟩ := h3 i hi; ⟨a.gr hx, b.gr hx, c, d⟩⟩
theorem OwnNds.slice {K : IntKind} {T : TypeId} {w : World} {base : Nat} {v : Value} {l : List Nd} (h : OwnNds K T w base v l) : ∃ p c, v = .slice p l.length c := by
  obtain ⟨vs, h1, h2, h3⟩ := h; exact own_slice h2
theorem OwnNds.lt {K : IntKind} {T : TypeId} {w : World} {base : Nat} {v : Value} {l : List Nd} (h : OwnNds K T w base v l) {g : Nat} (hg : v.ownBlock = some g) : base ≤ g ∧ g < w.heap.size := by
  obtain ⟨vs, h1, h2, h3⟩ := h; exact World.ownsRow.lt h2 g hg
theorem OwnNds.nds {K : IntKind} {T : TypeId} {w : World} {base : Nat} {v : Value} {l : List Nd} (h : OwnNds K T w base v l) : NdsK K w v l := by
  obtain ⟨vs, h1, h2, h3⟩ := h
  rcases Nat.eq_zero_or_pos l.length with h0 | h0
  · obtain ⟨p, c, rfl⟩ := own_slice h2
    exact .inl ⟨List.eq_nil_of_length_eq_zero h0, p, c, by rw [h0]⟩
  · obtain ⟨g, cap, rfl, _, hc, hcell⟩ := own_cells_at h2 h0
    refine .inr ⟨fun e => by rw [e] at h0; simp at h0, g, 0, cap, rfl, hc, fun i hi => ?_⟩
    obtain ⟨a1, a2, _⟩ := h3 i hi
    obtain ⟨p1, c1, e1⟩ := a1.1.slice
    obtain ⟨p2, c2, e2⟩ := a2.slice
    rw [e1] at a1
    rw [e2] at a2
    have hg := fun t ht => vN_get K l vs i t h1 hi ht
    rw [Nat.zero_add]
    refine ⟨p1, c1, p2, c2, (hcell _ _ ((hg 0 (by omega)).trans rfl)).1, (hcell _ _ ((hg 1 (by omega)).trans rfl)).1, (hcell _ _ ((hg 2 (by omega)).trans rfl)).1, (hcell _ _ ((hg 3 (by omega)).trans (congrArg some e1))).1, (hcell _ _ ((hg 4 (by omega)).trans (congrArg some e2))).1, a1, a2⟩

theorem ints_kept {A C : World} {row : Option Nat} {y : Value} {xs : List Nat} (hg : A.grownBy C row) (hr : xs ≠ [] → ∀ g, row = some g → y.ownBlock ≠ some g) (h : Ints A y xs) : Ints C y xs := by
  rcases h with h | ⟨h1, b, o, c, rfl, h3⟩
  · exact .inl h
  · exact .inr ⟨h1, b, o, c, rfl, fun i hi => hg.cell (h3 i hi) (fun e => hr h1 b e.symm rfl)⟩
theorem cells_kept {A C : World} {row : Option Nat} {y : Value} {xs : List (Nat × Nat)} (hg : A.grownBy C row) (hr : xs ≠ [] → ∀ g, row = some g → y.ownBlock ≠ some g) (h : Cells A y xs) : Cells C y xs := by
  rcases h with h | ⟨h1, b, o, c, rfl, h3, h4⟩
  · exact .inl h
  · exact .inr ⟨h1, b, o, c, rfl, h3, fun i hi => ⟨hg.cell (h4 i hi).1 (fun e => hr h1 b e.symm rfl), hg.cell (h4 i hi).2 (fun e => hr h1 b e.symm rfl)⟩⟩
theorem ints_lt {A : World} {y : Value} {xs : List Nat} (h : Ints A y xs) (hne : xs ≠ []) {g : Nat} (hg : y.ownBlock = some g) : g < A.heap.size := by
  rcases h with ⟨h, _⟩ | ⟨h1, b, o, c, rfl, h3⟩
  · exact absurd h hne
  · have := World.block_lt_of_cell? _ _ (h3 0 (List.length_pos_iff.2 h1))
    simp only [Value.ownBlock, Option.some.injEq] at hg this
    omega
theorem cells_lt {A : World} {y : Value} {xs : List (Nat × Nat)} (h : Cells A y xs) (hne : xs ≠ []) {g : Nat} (hg : y.ownBlock = some g) : g < A.heap.size := by
  rcases h with ⟨h, _⟩ | ⟨h1, b, o, c, rfl, _, h3⟩
  · exact absurd h hne
  · have := World.block_lt_of_cell? _ _ (h3 0 (List.length_pos_iff.2 h1)).1
    simp only [Value.ownBlock, Option.some.injEq] at hg this
    omega
/-- Apart from the old row and from all new blocks. -/
theorem off_app {α : Type} {A : World} {v v' y : Value} {xs : List α} (h : Off v y xs) (hl : xs ≠ [] → ∀ g, y.ownBlock = some g → g < A.heap.size) (hat : v'.ownBlock = v.ownBlock ∨ v'.ownBlock = some A.heap.size) : Off v' y xs := by
  intro hne g hg hy
  rcases hat with e | e
  · exact h hne g (e ▸ hg) hy
  · have := hl hne g hy
    rw [e] at hg
    simp only [Option.some.injEq] at hg
    omega

theorem info_node_r : (Tryd.prog.info? 39).map (fun i => (i.zero, i.size, i.bytes)) = some (some (.agg #[.int .i64 0, .int .i64 0, .int .i64 0, .slice none 0 0, .slice none 0 0]), 5, 72) := by kernel_rfl
theorem und_nodes_r : Tryd.prog.underlying 31 = some (.slice 39) := by kernel_rfl
/-- 'append(l, x)' onto a row of nodes of the call's own; x lies in a new block. -/
theorem wpl_app_nr {w : World} {ops : Array Oper} {rest : List Oper} {o : Oper} {a : Act} {Q : Exit → Act → World → Prop} (hgd : o.guard = none) (s x : Operand)
    (ho : o.op = .call { callee := .builtin .append, args := #[s, x], argTypes := #[31, 31] })
    (base : Nat) (v : Value) (l : List Nd) (y : Nd) (y1 y2 : Value) (hs : a.eval s = v) (hown : OwnNds .i64 39 w base v l) (hb : base ≤ w.heap.size) (hl : l.length < 1000000)
    (h1 : IntsK .i64 w y1 y.ch) (h2 : Cells w y2 y.ce) (k1 : Off v y1 y.ch) (k2 : Off v y2 y.ce) (j1 : Low base y1 y.ch) (j2 : Low base y2 y.ce)
    (hx : a.eval x = .slice (some ⟨w.heap.size, 0, none⟩) 1 1)
    (h : ∀ v' w', OwnNds .i64 39 w' base v' (l ++ [y]) → (w.alloc (.cells #[.int .i64 (y.kind : Int), .int .i64 (y.row : Int), .int .i64 (y.col : Int), y1, y2] 39)).grownBy w' v.ownBlock → wpList Tryd.prog ops Q rest (a.put o.dst v') w') :
    wpList Tryd.prog ops Q (o :: rest) a (w.alloc (.cells #[.int .i64 (y.kind : Int), .int .i64 (y.row : Int), .int .i64 (y.col : Int), y1, y2] 39)) := by
  obtain ⟨i0, hi0, hz0, hz1, hz2⟩ := info_parts info_node_r
  have hX : Gr w (w.alloc (.cells #[.int .i64 (y.kind : Int), .int .i64 (y.row : Int), .int .i64 (y.col : Int), y1, y2] 39)) := (Gr.refl w).alloc _
  obtain ⟨vs, e1, e2, e3⟩ := hown.gr hX
  have hsl1 : y1.oneCell' = true := by obtain ⟨p, c, rfl⟩ := h1.1.slice; rfl
  have hsl2 : y2.oneCell' = true := by obtain ⟨p, c, rfl⟩ := h2.slice; rfl
  refine wpList_append_own_at _ hgd s x 31 ho base 39 i0 _ 5 72 und_nodes_r hi0 hz0 hz1 hz2 rfl (by omega) v l.length (vN .i64 l vs) hs e2 ⟨w.heap.size, 0, none⟩ 1 1 (nodeCells .i64 y (y1, y2)) hx rfl ?_ ?_ (by simp only [maxLen]; omega) (by omega) (by simp; omega) ?_
  · intro j u hj
    have hj5 : j < 5 := (List.getElem?_eq_some_iff.1 hj).1
    have hc : (w.alloc (.cells #[.int .i64 (y.kind : Int), .int .i64 (y.row : Int), .int .i64 (y.col : Int), y1, y2] 39)).cell? ⟨w.heap.size, j, none⟩ = some u := by
      simp only [nodeCells] at hj
      match j, hj, hj5 with
      | 0, hj, _ => simp at hj; subst hj; simp [go_sem]
      | 1, hj, _ => simp at hj; subst hj; simp [go_sem]
      | 2, hj, _ => simp at hj; subst hj; simp [go_sem]
      | 3, hj, _ => simp at hj; subst hj; simp [go_sem]
      | 4, hj, _ => simp at hj; subst hj; simp [go_sem]
    by_cases h0 : j = 0
    · subst h0; simpa [Addr.add] using hc
    · simpa [Addr.add, h0] using hc
  · intro u hu
    simp only [nodeCells, List.mem_cons, List.not_mem_nil, or_false] at hu
    rcases hu with rfl | rfl | rfl | rfl | rfl
    · rfl
    · rfl
    · rfl
    · exact hsl1
    · exact hsl2
  intro v' w' g1 g2 _ hat
  refine h v' w' ⟨vs ++ [(y1, y2)], by simp [e1], ?_, fun i hi => ?_⟩ g2
  · rw [vN_app _ _ _ _ _ e1]; simpa using g1
  · rcases Nat.lt_or_ge i l.length with hlt | hge
    · obtain ⟨a1, a2, a3, a4, a5⟩ := e3 i hlt
      have q1 : (l ++ [y]).getD i default = l.getD i default := by simp [List.getD, List.getElem?_append_left hlt]
      have q2 : (vs ++ [(y1, y2)]).getD i (undef, undef) = vs.getD i (undef, undef) := by simp [List.getD, List.getElem?_append_left (show i < vs.length by omega)]
      rw [q1, q2]
      exact ⟨⟨ints_kept g2 a3 a1.1, a1.2⟩, cells_kept g2 a4 a2, off_app a3 (fun hne _ hg => ints_lt a1.1 hne hg) hat, off_app a4 (fun hne _ hg => cells_lt a2 hne hg) hat, a5⟩
    · have hi' : i = l.length := by simp at hi; omega
      subst hi'
      have q1 : (l ++ [y]).getD l.length default = y := by simp [List.getD]
      have q2 : (vs ++ [(y1, y2)]).getD l.length (undef, undef) = (y1, y2) := by rw [← e1]; simp [List.getD]
      rw [q1, q2]
      exact ⟨⟨ints_kept g2 k1 (h1.1.gr hX), h1.2⟩, cells_kept g2 k2 (h2.gr hX), off_app k1 (fun hne _ hg => ints_lt (h1.1.gr hX) hne hg) hat, off_app k2 (fun hne _ hg => cells_lt (h2.gr hX) hne hg) hat, j1, j2⟩
theorem appN_gr_r {w w1 w2 : World} {base : Nat} {v : Value} {l : List Nd} {o : Obj} (hG : Gr w w1) (ho : OwnNds .i64 39 w1 base v l) (hb : w.heap.size ≤ base) (hg : (w1.alloc o).grownBy w2 v.ownBlock) : Gr w w2 := by
  obtain ⟨vs, _, h2, _⟩ := ho
  exact app_gr hG h2 hb hg
theorem info_node_p : (Tryd.prog.info? 74).map (fun i => (i.zero, i.size, i.bytes)) = some (some (.agg #[.int .u8 0, .int .i64 0, .int .i64 0, .slice none 0 0, .slice none 0 0]), 5, 72) := by kernel_rfl
theorem und_nodes_p : Tryd.prog.underlying 46 = some (.slice 74) := by kernel_rfl
/-- 'append(l, x)' onto a row of nodes of the call's own; x lies in a new block. -/
theorem wpl_app_np {w : World} {ops : Array Oper} {rest : List Oper} {o : Oper} {a : Act} {Q : Exit → Act → World → Prop} (hgd : o.guard = none) (s x : Operand)
    (ho : o.op = .call { callee := .builtin .append, args := #[s, x], argTypes := #[46, 46] })
    (base : Nat) (v : Value) (l : List Nd) (y : Nd) (y1 y2 : Value) (hs : a.eval s = v) (hown : OwnNds .u8 74 w base v l) (hb : base ≤ w.heap.size) (hl : l.length < 1000000)
    (h1 : IntsK .u8 w y1 y.ch) (h2 : Cells w y2 y.ce) (k1 : Off v y1 y.ch) (k2 : Off v y2 y.ce) (j1 : Low base y1 y.ch) (j2 : Low base y2 y.ce)
    (hx : a.eval x = .slice (some ⟨w.heap.size, 0, none⟩) 1 1)
    (h : ∀ v' w', OwnNds .u8 74 w' base v' (l ++ [y]) → (w.alloc (.cells #[.int .u8 (y.kind : Int), .int .i64 (y.row : Int), .int .i64 (y.col : Int), y1, y2] 74)).grownBy w' v.ownBlock → wpList Tryd.prog ops Q rest (a.put o.dst v') w') :
    wpList Tryd.prog ops Q (o :: rest) a (w.alloc (.cells #[.int .u8 (y.kind : Int), .int .i64 (y.row : Int), .int .i64 (y.col : Int), y1, y2] 74)) := by
  obtain ⟨i0, hi0, hz0, hz1, hz2⟩ := info_parts info_node_p
  have hX : Gr w (w.alloc (.cells #[.int .u8 (y.kind : Int), .int .i64 (y.row : Int), .int .i64 (y.col : Int), y1, y2] 74)) := (Gr.refl w).alloc _
  obtain ⟨vs, e1, e2, e3⟩ := hown.gr hX
  have hsl1 : y1.oneCell' = true := by obtain ⟨p, c, rfl⟩ := h1.1.slice; rfl
  have hsl2 : y2.oneCell' = true := by obtain ⟨p, c, rfl⟩ := h2.slice; rfl
  refine wpList_append_own_at _ hgd s x 46 ho base 74 i0 _ 5 72 und_nodes_p hi0 hz0 hz1 hz2 rfl (by omega) v l.length (vN .u8 l vs) hs e2 ⟨w.heap.size, 0, none⟩ 1 1 (nodeCells .u8 y (y1, y2)) hx rfl ?_ ?_ (by simp only [maxLen]; omega) (by omega) (by simp; omega) ?_
  · intro j u hj
    have hj5 : j < 5 := (List.getElem?_eq_some_iff.1 hj).1
    have hc : (w.alloc (.cells #[.int .u8 (y.kind : Int), .int .i64 (y.row : Int), .int .i64 (y.col : Int), y1, y2] 74)).cell? ⟨w.heap.size, j, none⟩ = some u := by
      simp only [nodeCells] at hj
      match j, hj, hj5 with
      | 0, hj, _ => simp at hj; subst hj; simp [go_sem]
      | 1, hj, _ => simp at hj; subst hj; simp [go_sem]
      | 2, hj, _ => simp at hj; subst hj; simp [go_sem]
      | 3, hj, _ => simp at hj; subst hj; simp [go_sem]
      | 4, hj, _ => simp at hj; subst hj; simp [go_sem]
    by_cases h0 : j = 0
    · subst h0; simpa [Addr.add] using hc
    · simpa [Addr.add, h0] using hc
  · intro u hu
    simp only [nodeCells, List.mem_cons, List.not_mem_nil, or_false] at hu
    rcases hu with rfl | rfl | rfl | rfl | rfl
    · rfl
    · rfl
    · rfl
    · exact hsl1
    · exact hsl2
  intro v' w' g1 g2 _ hat
  refine h v' w' ⟨vs ++ [(y1, y2)], by simp [e1], ?_, fun i hi => ?_⟩ g2
  · rw [vN_app _ _ _ _ _ e1]; simpa using g1
  · rcases Nat.lt_or_ge i l.length with hlt | hge
    · obtain ⟨a1, a2, a3, a4, a5⟩ := e3 i hlt
      have q1 : (l ++ [y]).getD i default = l.getD i default := by simp [List.getD, List.getElem?_append_left hlt]
      have q2 : (vs ++ [(y1, y2)]).getD i (undef, undef) = vs.getD i (undef, undef) := by simp [List.getD, List.getElem?_append_left (show i < vs.length by omega)]
      rw [q1, q2]
      exact ⟨⟨ints_kept g2 a3 a1.1, a1.2⟩, cells_kept g2 a4 a2, off_app a3 (fun hne _ hg => ints_lt a1.1 hne hg) hat, off_app a4 (fun hne _ hg => cells_lt a2 hne hg) hat, a5⟩
    · have hi' : i = l.length := by simp at hi; omega
      subst hi'
      have q1 : (l ++ [y]).getD l.length default = y := by simp [List.getD]
      have q2 : (vs ++ [(y1, y2)]).getD l.length (undef, undef) = (y1, y2) := by rw [← e1]; simp [List.getD]
      rw [q1, q2]
      exact ⟨⟨ints_kept g2 k1 (h1.1.gr hX), h1.2⟩, cells_kept g2 k2 (h2.gr hX), off_app k1 (fun hne _ hg => ints_lt (h1.1.gr hX) hne hg) hat, off_app k2 (fun hne _ hg => cells_lt (h2.gr hX) hne hg) hat, j1, j2⟩
theorem appN_gr_p {w w1 w2 : World} {base : Nat} {v : Value} {l : List Nd} {o : Obj} (hG : Gr w w1) (ho : OwnNds .u8 74 w1 base v l) (hb : w.heap.size ≤ base) (hg : (w1.alloc o).grownBy w2 v.ownBlock) : Gr w w2 := by
  obtain ⟨vs, _, h2, _⟩ := ho
  exact app_gr hG h2 hb hg
end Go.Proofs.YtcmlhpodghfheaaDoor
