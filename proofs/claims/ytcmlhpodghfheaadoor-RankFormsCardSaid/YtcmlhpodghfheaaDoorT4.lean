/- The reference's matrices: rows that a call has made. -/
import Derived.Test.YtcmlhpodghfheaaDoorU1
import Derived.Test.YtcmlhpodghfheaaDoorL2
import Derived.OwnWalk
set_option linter.unusedSimpArgs false
set_option linter.unusedVariables false
namespace Go.Proofs.YtcmlhpodghfheaaDoor
open Go.RowKit Go.Shelf

theorem info_bools : (Tryd.prog.info? 79).map (fun i => (i.zero, i.size, i.bytes)) = some (some (.slice none 0 0), 1, 24) := by kernel_rfl
theorem und_grid : Tryd.prog.underlying 27 = some (.slice 79) := by kernel_rfl

/-- Rows of zeros, each in a block of its own, in a row of the call's own. -/
def OwnGrid (c : Nat) (w : World) (base : Nat) (v : Value) (k : Nat) : Prop :=
  ∃ G : Nat → Nat, w.ownsRow base 79 1 v k ((List.range k).map fun i => .slice (some ⟨G i, 0, none⟩) c c) ∧ ofKind isSl w v ∧
    ∀ i, i < k → base ≤ G i ∧ G i < w.heap.size ∧ (∀ j, j < c → w.cell? ⟨G i, j, none⟩ = some (.bool false) ∧ w.frozen? ⟨G i, j, none⟩ = false) ∧ ∀ i', i' < i → G i' ≠ G i
theorem OwnGrid.nil (c : Nat) (w : World) (base : Nat) : OwnGrid c w base (.slice none 0 0) 0 :=
  ⟨fun _ => 0, World.ownsRow_nil _ _ _ _, fun g hg => by simp [Value.ownBlock] at hg, fun i hi => by omega⟩
theorem OwnGrid.gr {c : Nat} {w w' : World} {base : Nat} {v : Value} {k : Nat} (h : OwnGrid c w base v k) (hx : Gr w w') : OwnGrid c w' base v k := by
  obtain ⟨G, h1, h2, h3⟩ := h
  refine ⟨G, own_gr h1 hx, kind_gr h2 h1 hx, fun i hi => ?_⟩
  obtain ⟨a, b, d, e⟩ := h3 i hi
  exact ⟨a, Nat.lt_of_lt_of_le b hx.size, fun j hj => ⟨hx.cell (d j hj).1, hx.frz (d j hj).1 (d j hj).2⟩, e⟩
theorem OwnGrid.slice {c : Nat} {w : World} {base : Nat} {v : Value} {k : Nat} (h : OwnGrid c w base v k) : ∃ p cp, v = .slice p k cp := by
  obtain ⟨G, h1, _⟩ := h; exact own_slice h1
theorem OwnGrid.own {c : Nat} {w : World} {base : Nat} {v : Value} {k : Nat} (h : OwnGrid c w base v k) : ∃ xs, w.ownsRow base 79 1 v k xs := by
  obtain ⟨G, h1, _⟩ := h; exact ⟨_, h1⟩

section
variable {P : Program}
/-- An append onto a row of the call's own, inside a region that draws its order. -/
theorem step_append_kind {w : World} (Pc : Value → Prop) {ops : Array Oper} {o : Oper} {a : Act} {K : Act → World → Prop} {Q : Exit → Act → World → Prop} {E : Prop} (hgd : o.guard = none) (s x : Operand) (t : TypeId)
    (ho : o.op = .call { callee := .builtin .append, args := #[s, x], argTypes := #[t, t] })
    (base : Nat) (e : TypeId) (i : TypeInfo) (z : Value) (size bytes : Nat) (ht : P.underlying t = some (.slice e)) (hi : P.info? e = some i) (hz : i.zero = some z)
    (hsize : i.size = size) (hby : i.bytes = bytes) (hzs : z.cells.size = size) (hsz : 0 < size) (hzk : ∀ u ∈ z.cells.toList, Pc u)
    (v : Value) (n : Nat) (xs : List Value) (hs : a.eval s = v) (hown : w.ownsRow base e size v n xs) (hk : ofKind Pc w v)
    (ad : Addr) (m c : Nat) (news : List Value) (hx : a.eval x = .slice (some ad) m c) (hl : news.length = m * size) (hnews : ∀ j u, news[j]? = some u → w.cell? (ad.add j) = some u) (h1 : ∀ u ∈ news, u.oneCell' = true) (hnk : ∀ u ∈ news, Pc u) (hm : 0 < m)
    (h63 : n + m ≤ maxLen) (hbytes : (n + m) * bytes ≤ 140737488355328) (hbase : base ≤ w.heap.size)
    (h : ∀ v' w', w'.ownsRow base e size v' (n + m) (xs ++ news) → ofKind Pc w' v' → w.grownBy w' v.ownBlock → K (a.put o.dst v') w') : if Region.wanted o (yielded ops a.tmps) = true then Oper.wp P o a w K Q else E := by
  have hw : Region.wanted o (yielded ops a.tmps) = true := by simp [Region.wanted, hgd]
  rw [if_pos hw]
  obtain ⟨v', w', hr, h2, h3, h4⟩ := run_append_kind (P := P) Pc w base t o.type e i z size bytes ht hi hz hsize hby hzs hsz hzk v n xs hown hk ad m c news hl hnews h1 hnk hm h63 hbytes hbase
  unfold Oper.wp execOp
  simp only [ho, resolve, invoke, builtin, Sem.run_bind, Sem.run_pure, Result.andThen_ok, List.map_toArray, List.map_cons, List.map_nil, hs, hx, hr]
  exact h _ _ h2 h4 h3
end

/-- 'append(l, row)': a new row of zeros. -/
theorem step_app_g {w w0 : World} {ops : Array Oper} {o : Oper} {a : Act} {K : Act → World → Prop} {Q : Exit → Act → World → Prop} {E : Prop} (hgd : o.guard = none) (s x : Operand)
    (ho : o.op = .call { callee := .builtin .append, args := #[s, x], argTypes := #[27, 27] })
    (base : Nat) (v : Value) (c k g q : Nat) (hs : a.eval s = v) (hown : OwnGrid c w0 base v k) (h0 : Gr w0 w) (hb : base ≤ w0.heap.size) (hk : k < 1000000)
    (hg : w0.heap.size ≤ g) (hgl : g < w.heap.size) (hc : ∀ j, j < c → w.cell? ⟨g, j, none⟩ = some (.bool false) ∧ w.frozen? ⟨g, j, none⟩ = false)
    (hx : a.eval x = .slice (some ⟨q, 0, none⟩) 1 1) (hq : w.cell? ⟨q, 0, none⟩ = some (.slice (some ⟨g, 0, none⟩) c c))
    (h : ∀ v' w', OwnGrid c w' base v' (k + 1) → w.grownBy w' v.ownBlock → K (a.put o.dst v') w') : if Region.wanted o (yielded ops a.tmps) = true then Oper.wp Tryd.prog o a w K Q else E := by
  obtain ⟨i0, hi0, hz0, hz1, hz2⟩ := info_parts info_bools
  obtain ⟨G, e1, e2, e3⟩ := hown
  have e1' := own_gr e1 h0
  have e2' := kind_gr e2 e1 h0
  refine step_append_kind isSl hgd s x 27 ho base 79 i0 (.slice none 0 0) 1 24 und_grid hi0 hz0 hz1 hz2 rfl (by omega) (by simp [Value.cells]; exact ⟨_, _, _, rfl⟩) v k _ hs e1' e2' ⟨q, 0, none⟩ 1 1 [.slice (some ⟨g, 0, none⟩) c c] hx rfl ?_ (by simp [Value.oneCell']) (by simp; exact ⟨_, _, _, rfl⟩) (by omega) (by simp only [maxLen]; omega) (by omega) (by have := h0.size; omega) ?_
  · intro j u hj
    match j, hj with
    | 0, hj => simp at hj; subst hj; exact hq
    | j + 1, hj => simp at hj
  intro v' w' k1 k2 k3
  have hcell : ∀ (G' : Nat), (∀ j, j < c → w.cell? ⟨G', j, none⟩ = some (.bool false) ∧ w.frozen? ⟨G', j, none⟩ = false) → ∀ j, j < c → w'.cell? ⟨G', j, none⟩ = some (.bool false) ∧ w'.frozen? ⟨G', j, none⟩ = false := by
    intro G' hG j hj
    have hh := hG j hj
    have hne : some G' ≠ v.ownBlock := fun e => by
      obtain ⟨p, n, c', hh'⟩ := e2' G' e.symm j _ hh.1
      cases hh'
    refine ⟨k3.cell hh.1 hne, ?_⟩
    exact (World.frozen?_of_block (k3.block G' (World.block_lt_of_cell? _ _ hh.1) hne)).trans hh.2
  have hsize : w.heap.size ≤ w'.heap.size := k3.size
  refine h v' w' ⟨fun i => if i < k then G i else g, ?_, k2, fun i hi => ?_⟩ k3
  · rw [List.range_succ, List.map_append]
    have : (List.range k).map (fun i => Value.slice (some ⟨if i < k then G i else g, 0, none⟩) c c) = (List.range k).map fun i => .slice (some ⟨G i, 0, none⟩) c c :=
      List.map_congr_left fun i hi => by rw [if_pos (List.mem_range.1 hi)]
    rw [this]
    simpa using k1
  · rcases Nat.lt_or_ge i k with hlt | hge
    · obtain ⟨a1, a2, a3, a4⟩ := e3 i hlt
      simp only [hlt, if_true]
      refine ⟨a1, by have := h0.size; omega, hcell _ (fun j hj => ⟨h0.cell (a3 j hj).1, h0.frz (a3 j hj).1 (a3 j hj).2⟩), fun i' hi' => ?_⟩
      rw [if_pos (by omega)]; exact a4 i' hi'
    · have hi' : i = k := by omega
      subst hi'
      simp only [Nat.lt_irrefl, if_false]
      refine ⟨by omega, by omega, hcell _ hc, fun i' hi'' => ?_⟩
      rw [if_pos hi'']
      have := (e3 i' hi'').2.1
      omega
theorem OwnGrid.setCell {c : Nat} {w : World} {base : Nat} {v : Value} {k : Nat} (h : OwnGrid c w base v k) {p : Addr} {x : Value} (hc : w.cell? p = some x) (hb : p.block < base) (u : Value) : OwnGrid c (w.setCell p u) base v k := by
  obtain ⟨G, h1, h2, h3⟩ := h
  refine ⟨G, own_made h1 hc hb u, fun g hg o y hy => ?_, fun i hi => ?_⟩
  · have hge := (World.ownsRow.lt h1 g hg).1
    exact h2 g hg o y ((World.cell?_setCell_other _ _ _ _ (fun e => by rw [e] at hb; simp at hb; omega)).symm.trans hy)
  · obtain ⟨a, b, d, e⟩ := h3 i hi
    refine ⟨a, by simpa using b, fun j hj => ⟨cell?_setCell_ne (d j hj).1 (fun e => by rw [e] at hb; simp at hb; omega), (World.frozen?_setCell _ _ _ _).trans (d j hj).2⟩, e⟩

theorem OwnGrid.far {c : Nat} {w : World} {base : Nat} {v : Value} {k : Nat} (h : OwnGrid c w base v k) {b : Nat} (hb : b < base) : some b ≠ v.ownBlock := fun e => by
  obtain ⟨G, h1, _⟩ := h
  have := (World.ownsRow.lt h1 b e.symm).1
  omega
/-- What a write into a row leaves of an earlier world. -/
theorem app_thr {wr A C : World} {row : Option Nat} (hg : A.grownBy C row) (hX : Gr wr A) : (∀ p x, wr.cell? p = some x → some p.block ≠ row → C.cell? p = some x) ∧ (∀ p x, wr.cell? p = some x → wr.frozen? p = false → some p.block ≠ row → C.frozen? p = false) ∧ wr.heap.size ≤ C.heap.size := by
  refine ⟨fun p x h hne => hg.cell (hX.cell h) hne, fun p x h hf hne => ?_, Nat.le_trans hX.size hg.size⟩
  exact (World.frozen?_of_block (hg.block p.block (World.block_lt_of_cell? _ _ (hX.cell h)) hne)).trans (hX.frz h hf)

/-- Rows of elements, each in a block of its own from base on. -/
def Grid (w : World) (base : Nat) (u : Value) (r c : Nat) (F : Nat → Nat → Bool) : Prop :=
  (r = 0 ∧ ∃ p cp, u = .slice p 0 cp) ∨ (0 < r ∧ ∃ (G : Nat → Nat) (B cap : Nat), u = .slice (some ⟨B, 0, none⟩) r cap ∧ base ≤ B ∧ ∀ i, i < r → w.cell? ⟨B, i, none⟩ = some (.slice (some ⟨G i, 0, none⟩) c c) ∧ base ≤ G i ∧
    (∀ j, j < c → w.cell? ⟨G i, j, none⟩ = some (.bool (F i j)) ∧ w.frozen? ⟨G i, j, none⟩ = false) ∧ ∀ i', i' < r → i' ≠ i → G i' ≠ G i)
theorem OwnGrid.grid {c : Nat} {w : World} {base : Nat} {v : Value} {k : Nat} (h : OwnGrid c w base v k) : Grid w base v k c (fun _ _ => false) := by
  obtain ⟨G, h1, h2, h3⟩ := h
  rcases Nat.eq_zero_or_pos k with h0 | h0
  · obtain ⟨p, cp, rfl⟩ := own_slice h1
    exact .inl ⟨h0, p, cp, by rw [h0]⟩
  · obtain ⟨g, cap, rfl, hbg, _, hcell⟩ := own_cells_at h1 h0
    refine .inr ⟨h0, G, g, cap, rfl, hbg, fun i hi => ?_⟩
    obtain ⟨a, b, d, e⟩ := h3 i hi
    refine ⟨(hcell i _ (by simp [List.getElem?_range hi])).1, a, d, fun i' hi' hne => ?_⟩
    rcases Nat.lt_or_gt_of_ne hne with hlt | hgt
    · exact e i' hlt
    · exact fun e' => (h3 i' hi').2.2.2 i hgt e'.symm
theorem Grid.gr {w w' : World} {base : Nat} {u : Value} {r c : Nat} {F : Nat → Nat → Bool} (h : Grid w base u r c F) (hx : Gr w w') : Grid w' base u r c F := by
  rcases h with h | ⟨h0, G, B, cap, hu, hB, h3⟩
  · exact .inl h
  · refine .inr ⟨h0, G, B, cap, hu, hB, fun i hi => ?_⟩
    obtain ⟨a, b, d, e⟩ := h3 i hi
    exact ⟨hx.cell a, b, fun j hj => ⟨hx.cell (d j hj).1, hx.frz (d j hj).1 (d j hj).2⟩, e⟩
theorem Grid.slice {w : World} {base : Nat} {u : Value} {r c : Nat} {F : Nat → Nat → Bool} (h : Grid w base u r c F) : ∃ p cp, u = .slice p r cp := by
  rcases h with ⟨rfl, p, cp, h⟩ | ⟨_, _, B, cap, h, _⟩
  · exact ⟨p, cp, h⟩
  · exact ⟨_, cap, h⟩
theorem Grid.mono {w : World} {base base' : Nat} {u : Value} {r c : Nat} {F : Nat → Nat → Bool} (h : Grid w base u r c F) (hb : base' ≤ base) : Grid w base' u r c F := by
  rcases h with h | ⟨h0, G, B, cap, hu, hB, h3⟩
  · exact .inl h
  · exact .inr ⟨h0, G, B, cap, hu, by omega, fun i hi => let ⟨a, b, d, e⟩ := h3 i hi; ⟨a, by omega, d, e⟩⟩
theorem Grid.setCell {w : World} {base : Nat} {u : Value} {r c : Nat} {F : Nat → Nat → Bool} (h : Grid w base u r c F) {p : Addr} (hb : p.block < base) (x : Value) : Grid (w.setCell p x) base u r c F := by
  rcases h with h | ⟨h0, G, B, cap, hu, hB, h3⟩
  · exact .inl h
  · refine .inr ⟨h0, G, B, cap, hu, hB, fun i hi => ?_⟩
    obtain ⟨a, b, d, e⟩ := h3 i hi
    exact ⟨cell?_setCell_ne a (fun e => by rw [e] at hb; simp at hb; omega), b, fun j hj => ⟨cell?_setCell_ne (d j hj).1 (fun e => by rw [e] at hb; simp at hb; omega), (World.frozen?_setCell _ _ _ _).trans (d j hj).2⟩, e⟩

/-- A row as a number. -/
def maskRow (c : Nat) (f : Nat → Bool) : Nat := ofL ((List.range c).filter f)
theorem maskRow_iff (c : Nat) (f : Nat → Bool) (j : Nat) : (maskRow c f).testBit j = true ↔ j < c ∧ f j = true := by
  unfold maskRow; rw [ofL_iff, List.mem_filter, List.mem_range]
theorem maskRow_tb (c : Nat) (f : Nat → Bool) (j : Nat) (h : j < c) : (maskRow c f).testBit j = f j := by
  rw [Bool.eq_iff_iff, maskRow_iff]; exact ⟨fun h => h.2, fun h' => ⟨h, h'⟩⟩
def gridMat (r c : Nat) (F : Nat → Nat → Bool) : Mat := ⟨c, (List.range r).map fun i => maskRow c (F i)⟩
theorem gridMat_get (r c : Nat) (F : Nat → Nat → Bool) (i : Nat) (h : i < r) : (gridMat r c F).rows.getD i 0 = maskRow c (F i) := by
  simp [gridMat, List.getD, List.getElem?_range h]
theorem gridMat_good (r c : Nat) (F : Nat → Nat → Bool) (hr : r ≤ 6) (hc : c ≤ 6) : (gridMat r c F).good := by
  refine ⟨⟨hc, by simpa [gridMat] using hr⟩, fun x hx => ?_⟩
  obtain ⟨i, _, rfl⟩ := List.mem_map.1 hx
  exact lt_cols fun j hj => ((maskRow_iff _ _ _).1 hj).1
theorem Grid.mat {w : World} {base : Nat} {u : Value} {r c : Nat} {F : Nat → Nat → Bool} (h : Grid w base u r c F) : RMatV w (.agg #[.int .i64 (c : Int), u]) (gridMat r c F) := by
  refine ⟨u, rfl, ?_⟩
  rcases h with ⟨rfl, p, cp, hu⟩ | ⟨h0, G, B, cap, rfl, _, h3⟩
  · exact .inl ⟨rfl, p, cp, hu⟩
  · refine .inr ⟨fun e => ?_, B, 0, cap, by simp [gridMat], fun i hi => ?_⟩
    · have := congrArg List.length e; simp [gridMat] at this; omega
    · have hi' : i < r := by simpa [gridMat] using hi
      obtain ⟨a, b, d, e⟩ := h3 i hi'
      refine ⟨G i, 0, c, by rw [Nat.zero_add]; exact a, fun j hj => ?_⟩
      rw [gridMat_get _ _ _ _ hi', maskRow_tb c _ j hj, Nat.zero_add]
      exact (d j hj).1

/-- A store of one element. -/
theorem Grid.set {w : World} {base : Nat} {u : Value} {r c : Nat} {F F' : Nat → Nat → Bool} {i0 j0 : Nat} (h : Grid w base u r c F) (hi : i0 < r) (hj : j0 < c) (hF : ∀ i j, (i ≠ i0 ∨ j ≠ j0) → F' i j = F i j) :
    ∃ B cap g, u = .slice (some ⟨B, 0, none⟩) r cap ∧ w.cell? ⟨B, i0, none⟩ = some (.slice (some ⟨g, 0, none⟩) c c) ∧ base ≤ g ∧ w.cell? ⟨g, j0, none⟩ = some (.bool (F i0 j0)) ∧ w.frozen? ⟨g, j0, none⟩ = false ∧ Grid (w.setCell ⟨g, j0, none⟩ (.bool (F' i0 j0))) base u r c F' := by
  rcases h with ⟨rfl, _⟩ | ⟨h0, G, B, cap, rfl, hB, h3⟩
  · omega
  · obtain ⟨a, b, d, e⟩ := h3 i0 hi
    refine ⟨B, cap, G i0, rfl, a, b, (d j0 hj).1, (d j0 hj).2, .inr ⟨h0, G, B, cap, rfl, hB, fun i hi' => ?_⟩⟩
    obtain ⟨a', b', d', e'⟩ := h3 i hi'
    refine ⟨?_, b', fun j hj' => ⟨?_, (World.frozen?_setCell _ _ _ _).trans (d' j hj').2⟩, e'⟩
    · refine cell?_setCell_ne a' fun he => ?_
      have h1 := (d j0 hj).1
      rw [he, a'] at h1
      cases h1
    · by_cases hij : i = i0 ∧ j = j0
      · obtain ⟨rfl, rfl⟩ := hij
        exact World.cell?_setCell_same' _ _ _ (by rw [(d j hj).1]; rfl)
      · rw [hF i j (by by_cases h : i = i0 <;> simp_all)]
        refine cell?_setCell_ne (d' j hj').1 fun he => ?_
        injection he with he1 he2
        by_cases hi0 : i = i0
        · exact hij ⟨hi0, he2.symm⟩
        · exact e i hi' hi0 he1.symm
end Go.Proofs.YtcmlhpodghfheaaDoor
