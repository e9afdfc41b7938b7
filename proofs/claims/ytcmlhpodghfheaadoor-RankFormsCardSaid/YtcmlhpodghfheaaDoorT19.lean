/- arbaclaw47.Proof. -/
import Derived.Test.YtcmlhpodghfheaaDoorT17
import Derived.Test.YtcmlhpodghfheaaDoorT8
import Derived.Deep.RegionHeld3
set_option linter.unusedSimpArgs false
set_option linter.unusedVariables false
/- arbaclaw47.awake. -/
namespace Go.Proofs.YtcmlhpodghfheaaDoor
open Go.RowKit Go.Shelf

section
variable {P : Program}
theorem step_append_at {w : World} {ops : Array Oper} {o : Oper} {a : Act} {K : Act → World → Prop} {Q : Exit → Act → World → Prop} {E : Prop} (hgd : o.guard = none) (s x : Operand) (t : TypeId)
    (ho : o.op = .call { callee := .builtin .append, args := #[s, x], argTypes := #[t, t] })
    (base : Nat) (e : TypeId) (i : TypeInfo) (z : Value) (size bytes : Nat) (ht : P.underlying t = some (.slice e)) (hi : P.info? e = some i) (hz : i.zero = some z)
    (hsize : i.size = size) (hby : i.bytes = bytes) (hzs : z.cells.size = size) (hsz : 0 < size)
    (v : Value) (n : Nat) (xs : List Value) (hs : a.eval s = v) (hown : w.ownsRow base e size v n xs)
    (ad : Addr) (m c : Nat) (news : List Value) (hx : a.eval x = .slice (some ad) m c) (hl : news.length = m * size) (hnews : ∀ j u, news[j]? = some u → w.cell? (ad.add j) = some u) (h1 : ∀ u ∈ news, u.oneCell' = true)
    (h63 : n + m ≤ maxLen) (hbytes : (n + m) * bytes ≤ 140737488355328) (hbase : base ≤ w.heap.size)
    (h : ∀ v' w', w'.ownsRow base e size v' (n + m) (xs ++ news) → w.grownBy w' v.ownBlock → (v'.ownBlock = v.ownBlock ∨ v'.ownBlock = some w.heap.size) → K (a.put o.dst v') w') : if Region.wanted o (yielded ops a.tmps) = true then Oper.wp P o a w K Q else E := by
  have hw : Region.wanted o (yielded ops a.tmps) = true := by simp [Region.wanted, hgd]
  rw [if_pos hw]
  obtain ⟨v', w', hr, h2, h3, _, h4⟩ := run_append_own_at (P := P) w base t o.type e i z size bytes ht hi hz hsize hby hzs hsz v n xs hown ad m c news hl hnews h1 h63 hbytes hbase
  unfold Oper.wp execOp
  simp only [ho, resolve, invoke, builtin, Sem.run_bind, Sem.run_pure, Result.andThen_ok, List.map_toArray, List.map_cons, List.map_nil, hs, hx, hr]
  exact h _ _ h2 h3 h4
end

/-- 'append(l, x)' onto a row of nodes of the call's own; x lies in a new block. -/
theorem step_app_np {w : World} {ops : Array Oper} {o : Oper} {a : Act} {K : Act → World → Prop} {Q : Exit → Act → World → Prop} {E : Prop} (hgd : o.guard = none) (s x : Operand)
    (ho : o.op = .call { callee := .builtin .append, args := #[s, x], argTypes := #[46, 46] })
    (base : Nat) (v : Value) (l : List Nd) (y : Nd) (y1 y2 : Value) (hs : a.eval s = v) (hown : OwnNds .u8 74 w base v l) (hb : base ≤ w.heap.size) (hl : l.length < 1000000)
    (h1 : IntsK .u8 w y1 y.ch) (h2 : Cells w y2 y.ce) (k1 : Off v y1 y.ch) (k2 : Off v y2 y.ce) (j1 : Low base y1 y.ch) (j2 : Low base y2 y.ce)
    (hx : a.eval x = .slice (some ⟨w.heap.size, 0, none⟩) 1 1)
    (h : ∀ v' w', OwnNds .u8 74 w' base v' (l ++ [y]) → (w.alloc (.cells #[.int .u8 (y.kind : Int), .int .i64 (y.row : Int), .int .i64 (y.col : Int), y1, y2] 74)).grownBy w' v.ownBlock → K (a.put o.dst v') w') :
    if Region.wanted o (yielded ops a.tmps) = true then Oper.wp Tryd.prog o a (w.alloc (.cells #[.int .u8 (y.kind : Int), .int .i64 (y.row : Int), .int .i64 (y.col : Int), y1, y2] 74)) K Q else E := by
  obtain ⟨i0, hi0, hz0, hz1, hz2⟩ := info_parts info_node_p
  have hX : Gr w (w.alloc (.cells #[.int .u8 (y.kind : Int), .int .i64 (y.row : Int), .int .i64 (y.col : Int), y1, y2] 74)) := (Gr.refl w).alloc _
  obtain ⟨vs, e1, e2, e3⟩ := hown.gr hX
  have hsl1 : y1.oneCell' = true := by obtain ⟨p, c, rfl⟩ := h1.1.slice; rfl
  have hsl2 : y2.oneCell' = true := by obtain ⟨p, c, rfl⟩ := h2.slice; rfl
  refine step_append_at hgd s x 46 ho base 74 i0 _ 5 72 und_nodes_p hi0 hz0 hz1 hz2 rfl (by omega) v l.length (vN .u8 l vs) hs e2 ⟨w.heap.size, 0, none⟩ 1 1 (nodeCells .u8 y (y1, y2)) hx rfl ?_ ?_ (by simp only [maxLen]; omega) (by omega) (by simp; omega) ?_
  · intro j u hj
    have hj5 : j < 5 := (List.getElem?_eq_some_iff.1 hj).1
    have hc : (w.alloc (.cells #[.int .u8 (y.kind : Int), .int .i64 (y.row : Int), .int .i64 (y.col : Int), y1, y2] 74)).cell? ⟨w.heap.size, j, none⟩ = some u := by
      simp only [nodeCells] at hj
      match j, hj, hj5 with
      | 0, hj, _ => simp at hj; subst hj; simp [go_sem]
      | 1, hj, _ => simp at hj; subst hj; simp [go_sem]
      | 2, hj, _ => simp at hj; subst hj; simp [go_sem]
      | 3, hj, _ => simp at hj; subst hj; simp [go_sem]
      | 4, hj, _ => simp at hj; subst hj; simp [go_sem]
    by_cases h0 : j = 0
    · subst h0; simpa [Addr.add] using hc
    · simpa [Addr.add, h0] using hc
  · intro u hu
    simp only [nodeCells, List.mem_cons, List.not_mem_nil, or_false] at hu
    rcases hu with rfl | rfl | rfl | rfl | rfl
    · rfl
    · rfl
    · rfl
    · exact hsl1
    · exact hsl2
  intro v' w' g1 g2 hat
  refine h v' w' ⟨vs ++ [(y1, y2)], by simp [e1], ?_, fun i hi => ?_⟩ g2
  · rw [vN_app _ _ _ _ _ e1]; simpa using g1
  · rcases Nat.lt_or_ge i l.length with hlt | hge
    · obtain ⟨a1, a2, a3, a4, a5⟩ := e3 i hlt
      have q1 : (l ++ [y]).getD i default = l.getD i default := by simp [List.getD, List.getElem?_append_left hlt]
      have q2 : (vs ++ [(y1, y2)]).getD i (undef, undef) = vs.getD i (undef, undef) := by simp [List.getD, List.getElem?_append_left (show i < vs.length by omega)]
      rw [q1, q2]
      exact ⟨⟨ints_kept g2 a3 a1.1, a1.2⟩, cells_kept g2 a4 a2, off_app a3 (fun hne _ hg => ints_lt a1.1 hne hg) hat, off_app a4 (fun hne _ hg => cells_lt a2 hne hg) hat, a5⟩
    · have hi' : i = l.length := by simp at hi; omega
      subst hi'
      have q1 : (l ++ [y]).getD l.length default = y := by simp [List.getD]
      have q2 : (vs ++ [(y1, y2)]).getD l.length (undef, undef) = (y1, y2) := by rw [← e1]; simp [List.getD]
      rw [q1, q2]
      exact ⟨⟨ints_kept g2 k1 (h1.1.gr hX), h1.2⟩, cells_kept g2 k2 (h2.gr hX), off_app k1 (fun hne _ hg => ints_lt (h1.1.gr hX) hne hg) hat, off_app k2 (fun hne _ hg => cells_lt (h2.gr hX) hne hg) hat, j1, j2⟩
theorem OwnNds.setCell {K : IntKind} {T : TypeId} {w : World} {base : Nat} {v : Value} {l : List Nd} (h : OwnNds K T w base v l) {p : Addr} (hb : p.block < base) (u : Value) : OwnNds K T (w.setCell p u) base v l := by
  obtain ⟨vs, h1, h2, h3⟩ := h
  refine ⟨vs, h1, ?_, fun i hi => ?_⟩
  · refine ⟨h2.1, ?_⟩
    rcases h2.2 with hn | ⟨g, cap, cur, rfl, hbg, hgg, rest⟩
    · exact .inl hn
    · exact .inr ⟨g, cap, cur, rfl, hbg, (Below.heap_setCell _ _ _ _ (by omega)).trans hgg, rest⟩
  · obtain ⟨a, b, c, d, e, f⟩ := h3 i hi
    refine ⟨⟨?_, a.2⟩, ?_, c, d, e, f⟩
    · rcases a.1 with h | ⟨e1, b', o', c', e2, e3⟩
      · exact .inl h
      · exact .inr ⟨e1, b', o', c', e2, fun t ht => cell?_setCell_ne (e3 t ht) (fun he => by have := e e1 b' (by rw [e2]; rfl); rw [he] at hb; simp only [] at hb; omega)⟩
    · rcases b with h | ⟨e1, b', o', c', e2, e3, e4⟩
      · exact .inl h
      · exact .inr ⟨e1, b', o', c', e2, e3, fun t ht => ⟨cell?_setCell_ne (e4 t ht).1 (fun he => by have := f e1 b' (by rw [e2]; rfl); rw [he] at hb; simp only [] at hb; omega), cell?_setCell_ne (e4 t ht).2 (fun he => by have := f e1 b' (by rw [e2]; rfl); rw [he] at hb; simp only [] at hb; omega)⟩⟩
theorem OwnNds.far {K : IntKind} {T : TypeId} {w : World} {base : Nat} {v : Value} {l : List Nd} (h : OwnNds K T w base v l) {b : Nat} (hb : b < base) : some b ≠ v.ownBlock := fun e => by
  have := (h.lt e.symm).1
  omega
theorem load_pf (w : World) (b : Nat) (x y : Value) (h1 : w.cell? ⟨b, 0, none⟩ = some x) (h2 : w.cell? ⟨b, 1, none⟩ = some y) : (loadVar 48 ⟨b, 0, none⟩).run Tryd.prog w = .ok (.agg #[x, y]) w := by
  simp [go_sem, h1, h2]

set_option maxHeartbeats 4000000 in
set_option maxRecDepth 100000 in
/-- arbaclaw47.Proof -/
theorem lproof_any (v : Value) (size : Int) (l : List Nd) (w : World) (hp : RPfV w v size l) (hl : l.length < 1000) (hs : ∀ x ∈ l, x.kind < 256 ∧ x.ch.length < 1000 ∧ x.ce.length < 1000) :
    Calls Tryd.prog 10 #[v] w fun e w' => (∃ v', e = .returned v' ∧ PfV w' v' size l) ∧ Gr w w' := by
  have HS := Lib.hid hs
  obtain ⟨up, rfl, hun⟩ := hp
  have HU := Lib.hid hun
  obtain ⟨pn, cn, rfl⟩ := hun.slice
  obtain ⟨L, hL⟩ : ∃ L, L = l.length := ⟨_, rfl⟩
  have HL := Lib.hid hL
  rw [← hL] at hl HU ⊢
  clear hun hs hL
  go_enter Tryd.func10, Tryd.ntmps10
  go_wp2_with fail
  refine name_wp fun W hW => ?_
  have hX : Gr w W := by rw [hW]; repeat (first | exact Gr.refl _ | refine Gr.alloc ?_ _)
  have f0 : W.cell? ⟨w.heap.size + 1 + 1, 0, none⟩ = some (.int .i64 size) := by rw [hW]; go_simp
  have f1 : W.cell? ⟨w.heap.size + 1 + 1, 1, none⟩ = some (.slice none 0 0) := by rw [hW]; go_simp
  have f2 : W.frozen? ⟨w.heap.size + 1 + 1, 1, none⟩ = false := by rw [hW]; go_simp
  have r0 : W.cell? ⟨w.heap.size + 1, 0, none⟩ = some (.int .i64 0) := by rw [hW]; go_simp
  have r1 : W.cell? ⟨w.heap.size + 1, 1, none⟩ = some (.slice none 0 0) := by rw [hW]; go_simp
  have r2 : W.frozen? ⟨w.heap.size + 1, 0, none⟩ = false := by rw [hW]; go_simp
  have r3 : W.frozen? ⟨w.heap.size + 1, 1, none⟩ = false := by rw [hW]; go_simp
  have hs : w.heap.size + 3 ≤ W.heap.size := World.block_lt_of_cell? _ _ f0
  clear hW
  go_loopw [12] (fun q wr => ∃ k : Nat, k ≤ L ∧ q = .int .i64 k ∧ Gr w wr ∧ wr.cell? ⟨w.heap.size + 1 + 1, 0, none⟩ = some (.int .i64 size) ∧ wr.frozen? ⟨w.heap.size + 1 + 1, 1, none⟩ = false ∧ wr.cell? ⟨w.heap.size + 1, 0, none⟩ = some (.int .i64 0) ∧ wr.cell? ⟨w.heap.size + 1, 1, none⟩ = some (.slice none 0 0) ∧ wr.frozen? ⟨w.heap.size + 1, 0, none⟩ = false ∧ wr.frozen? ⟨w.heap.size + 1, 1, none⟩ = false ∧ W.heap.size ≤ wr.heap.size ∧
      ∃ p cp, wr.cell? ⟨w.heap.size + 1 + 1, 1, none⟩ = some (.slice p k cp) ∧ OwnNds .u8 74 wr W.heap.size (.slice p k cp) (l.take k)) (fun q _ => L - (intOf q).toNat)
  case atStart => exact ⟨0, Nat.zero_le _, rfl, hX, f0, f2, r0, r1, r2, r3, Nat.le_refl _, none, 0, f1, OwnNds.nil _ _ _ _⟩
  case round =>
    clear f0 f1 f2 r0 r1 r2 r3
    obtain ⟨k, hk, rfl, hG, g0, g2, q0, q1, q2, q3, hsz, p, cp, g1, hown⟩ := hrel
    have HG := Lib.hid hG
    have HO := Lib.hid hown
    clear hG hown
    by_cases hlt : k < L
    · obtain ⟨bl, ol, cl, hsl, hlc, hat⟩ := (HU.out.gr HG.out).at k (by rw [← HL.out]; exact hlt)
      rw [← HL.out] at hsl
      simp only [Value.slice.injEq] at hsl
      obtain ⟨rfl, -, rfl⟩ := hsl
      obtain ⟨p1, c1, p2, c2, h1, h2, h3, h4, h5, h6, h7⟩ := hat
      have hbl := World.block_lt_of_cell? _ _ h1
      simp only [] at hbl
      have hss := HS.out (l.getD k default) (by rw [List.getD_eq_getElem?_getD, List.getElem?_eq_getElem (by rw [← HL.out]; exact hlt)]; simp)
      have htk : l.take (k + 1) = l.take k ++ [l.getD k default] := by
        rw [List.take_succ_eq_append_getElem (by rw [← HL.out]; exact hlt), List.getD_eq_getElem?_getD, List.getElem?_eq_getElem (by rw [← HL.out]; exact hlt)]; rfl
      obtain ⟨x, hx⟩ : ∃ x, x = l.getD k default := ⟨_, rfl⟩
      rw [← hx] at h1 h2 h3 h4 h5 h6 h7 hss htk
      have HTK := Lib.hid htk
      have hlk : (l.take k ++ [x]).length = k + 1 := by rw [List.length_append, List.length_take, ← HL.out, Nat.min_eq_left (by omega)]; rfl
      have HLK := Lib.hid hlk
      have H6 := Lib.hid h6.1
      have H7 := Lib.hid h7
      obtain ⟨hs1, hs2, hs3⟩ := hss
      have hlen : (l.take k).length < 1000000 := by simp; omega
      have hkw : IntKind.u8.wrap (x.kind : Int) = (x.kind : Int) := by rw [IntKind.wrap_u8]; omega
      generalize hcn : x.ch.length = cnn at *
      generalize hen : x.ce.length = enn at *
      have HCN := Lib.hid hcn
      have HEN := Lib.hid hen
      clear hx htk h6 h7 hcn hen hlc hlk
      go_wp2_with fail
      refine name_wp fun W5 hW5 => ?_
      have hX5 : Gr wr W5 := by rw [hW5]; repeat (first | exact Gr.refl _ | refine Gr.alloc ?_ _)
      have x0 : W5.cell? ⟨wr.heap.size, 0, none⟩ = some (.int .i64 (x.kind : Int)) := by rw [hW5]; go_simp
      have x1 : W5.cell? ⟨wr.heap.size, 1, none⟩ = some (.int .i64 (x.row : Int)) := by rw [hW5]; go_simp
      have x2 : W5.cell? ⟨wr.heap.size, 2, none⟩ = some (.int .i64 (x.col : Int)) := by rw [hW5]; go_simp
      have x3 : W5.cell? ⟨wr.heap.size, 3, none⟩ = some (.slice p1 cnn c1) := by rw [hW5]; go_simp
      have x4 : W5.cell? ⟨wr.heap.size, 4, none⟩ = some (.slice p2 enn c2) := by rw [hW5]; go_simp
      clear hW5 h1 h2 h3 h4 h5
      have HX5 := Lib.hid hX5
      have lW5 : wr.heap.size < W5.heap.size := World.block_lt_of_cell? _ _ x0
      clear hX5
      have hGc : Gr wr W5.drew := HX5.out.drew
      have t1 : W5.drew.cell? ⟨w.heap.size + 1 + 1, 1, none⟩ = some (.slice p k cp) := HX5.out.cell g1
      have t2 : W5.drew.frozen? ⟨w.heap.size + 1 + 1, 1, none⟩ = false := HX5.out.frz g1 g2
      refine wp_region_held_drew (S := fun w' => w'.cell? ⟨wr.heap.size, 0, none⟩ = some (.int .i64 (x.kind : Int)) ∧ w'.cell? ⟨wr.heap.size, 1, none⟩ = some (.int .i64 (x.row : Int)) ∧ w'.cell? ⟨wr.heap.size, 2, none⟩ = some (.int .i64 (x.col : Int)) ∧ w'.cell? ⟨wr.heap.size, 3, none⟩ = some (.slice p1 cnn c1) ∧ w'.cell? ⟨wr.heap.size, 4, none⟩ = some (.slice p2 enn c2)) (by kernel_rfl) ⟨x0, x1, x2, x3, x4⟩ (fun hh => ?_)
      refine wpAnyH_take (i := 0) (v := .pointer (some ⟨w.heap.size + 1 + 1, 1, none⟩)) rfl (by kernel_rfl) (by kernel_rfl) (by kernel_rfl) (fun _ _ _ h => h) (Or.inl ⟨by rfl, by intro w' hSw; (try dsimp only at hSw); go_simp⟩) (by assumption) ?_
      simp only [Act.put, List.setIfInBounds_toArray, List.set_cons_zero, List.set_cons_succ]
      refine wpAnyH_take (i := 2) (v := .pointer (some ⟨wr.heap.size, 0, none⟩)) rfl (by kernel_rfl) (by kernel_rfl) (by kernel_rfl) (fun _ _ _ h => h) (Or.inl ⟨by rfl, by intro w' hSw; (try dsimp only at hSw); go_simp⟩) (by assumption) ?_
      simp only [Act.put, List.setIfInBounds_toArray, List.set_cons_zero, List.set_cons_succ]
      refine wpAnyH_take (i := 3) (v := .int .i64 (x.kind : Int)) rfl (by kernel_rfl) (by kernel_rfl) (by kernel_rfl) (fun _ _ _ h => h) (Or.inl ⟨by rfl, by intro w' hSw; (try dsimp only at hSw); go_simp⟩) (by assumption) ?_
      simp only [Act.put, List.setIfInBounds_toArray, List.set_cons_zero, List.set_cons_succ]
      refine wpAnyH_take (i := 4) (v := .int .u8 (x.kind : Int)) rfl (by kernel_rfl) (by kernel_rfl) (by kernel_rfl) (fun _ _ _ h => h) (Or.inl ⟨by rfl, by intro w' hSw; (try dsimp only at hSw); go_simp⟩) (by assumption) ?_
      simp only [Act.put, List.setIfInBounds_toArray, List.set_cons_zero, List.set_cons_succ]
      refine wpAnyH_take (i := 5) (v := .pointer (some ⟨wr.heap.size, 1, none⟩)) rfl (by kernel_rfl) (by kernel_rfl) (by kernel_rfl) (fun _ _ _ h => h) (Or.inl ⟨by rfl, by intro w' hSw; (try dsimp only at hSw); go_simp⟩) (by assumption) ?_
      simp only [Act.put, List.setIfInBounds_toArray, List.set_cons_zero, List.set_cons_succ]
      refine wpAnyH_take (i := 6) (v := .int .i64 (x.row : Int)) rfl (by kernel_rfl) (by kernel_rfl) (by kernel_rfl) (fun _ _ _ h => h) (Or.inl ⟨by rfl, by intro w' hSw; (try dsimp only at hSw); go_simp⟩) (by assumption) ?_
      simp only [Act.put, List.setIfInBounds_toArray, List.set_cons_zero, List.set_cons_succ]
      refine wpAnyH_take (i := 7) (v := .pointer (some ⟨wr.heap.size, 2, none⟩)) rfl (by kernel_rfl) (by kernel_rfl) (by kernel_rfl) (fun _ _ _ h => h) (Or.inl ⟨by rfl, by intro w' hSw; (try dsimp only at hSw); go_simp⟩) (by assumption) ?_
      simp only [Act.put, List.setIfInBounds_toArray, List.set_cons_zero, List.set_cons_succ]
      refine wpAnyH_take (i := 8) (v := .int .i64 (x.col : Int)) rfl (by kernel_rfl) (by kernel_rfl) (by kernel_rfl) (fun _ _ _ h => h) (Or.inl ⟨by rfl, by intro w' hSw; (try dsimp only at hSw); go_simp⟩) (by assumption) ?_
      simp only [Act.put, List.setIfInBounds_toArray, List.set_cons_zero, List.set_cons_succ]
      refine wpAnyH_take (i := 9) (v := .pointer (some ⟨wr.heap.size, 3, none⟩)) rfl (by kernel_rfl) (by kernel_rfl) (by kernel_rfl) (fun _ _ _ h => h) (Or.inl ⟨by rfl, by intro w' hSw; (try dsimp only at hSw); go_simp⟩) (by assumption) ?_
      simp only [Act.put, List.setIfInBounds_toArray, List.set_cons_zero, List.set_cons_succ]
      refine wpAnyH_take (i := 10) (v := .slice p1 cnn c1) rfl (by kernel_rfl) (by kernel_rfl) (by kernel_rfl) (fun _ _ _ h => h) (Or.inl ⟨by rfl, by intro w' hSw; (try dsimp only at hSw); go_simp⟩) (by assumption) ?_
      simp only [Act.put, List.setIfInBounds_toArray, List.set_cons_zero, List.set_cons_succ]
      refine wpAnyH_take (i := 12) (v := .pointer (some ⟨wr.heap.size, 4, none⟩)) rfl (by kernel_rfl) (by kernel_rfl) (by kernel_rfl) (fun _ _ _ h => h) (Or.inl ⟨by rfl, by intro w' hSw; (try dsimp only at hSw); go_simp⟩) (by assumption) ?_
      simp only [Act.put, List.setIfInBounds_toArray, List.set_cons_zero, List.set_cons_succ]
      refine wpAnyH_take (i := 13) (v := .slice p2 enn c2) rfl (by kernel_rfl) (by kernel_rfl) (by kernel_rfl) (fun _ _ _ h => h) (Or.inl ⟨by rfl, by intro w' hSw; (try dsimp only at hSw); go_simp⟩) (by assumption) ?_
      simp only [Act.put, List.setIfInBounds_toArray, List.set_cons_zero, List.set_cons_succ]
      refine wpAnyH_ready (rs := [1, 11]) (by kernel_rfl) (by simp) ?_
      refine AllReadyH.cons rfl (fun K hK => ?_) (AllReadyH.cons rfl (fun K hK => ?_) (AllReadyH.nil))
      · go_simp
        refine hK.out _ _ hh (fun hh => ?_)
        clear hK K
        try simp only [Act.put, List.setIfInBounds_toArray, List.set_cons_zero, List.set_cons_succ]
        refine wpAnyH_ready (rs := [11]) (by kernel_rfl) (by simp) ?_
        refine AllReadyH.cons rfl (fun K hK => ?_) AllReadyH.nil
        go_simp
        refine (clone_ints _ x.ch _ (H6.out.gr hGc) (by rw [HCN.out]; omega)).mono ?_
        rintro e w' ⟨pa, na, ca, rfl, hxa, hia, hfa⟩
        have hoa : Off (.slice p k cp) (.slice pa na ca) x.ch := fun _ g hg hy => by (have a1 := (HO.out.lt hg).2; have a2 := hfa g hy; have a3 := hGc.size; omega)
        have hla : ∀ g, Value.ownBlock (.slice pa na ca) = some g → wr.heap.size ≤ g := fun g hg => Nat.le_trans hGc.size (hfa g hg)
        try (have hib := hib.gr hxa)
        have t2 := hxa.frz t1 t2
        have t1 := hxa.cell t1
        have hGc := hGc.trans hxa
        refine hK.out _ _ ⟨hxa.cell hh.1, hxa.cell hh.2.1, hxa.cell hh.2.2.1, hxa.cell hh.2.2.2.1, hxa.cell hh.2.2.2.2⟩ (fun hh => ?_)
        clear hK K
        try simp only [Act.put, List.setIfInBounds_toArray, List.set_cons_zero, List.set_cons_succ]
        refine wpAnyH_ready (rs := [14]) (by kernel_rfl) (by simp) ?_
        refine AllReadyH.cons rfl (fun K hK => ?_) AllReadyH.nil
        go_simp
        refine (clone_cells _ x.ce _ (H7.out.gr hGc) (by rw [HEN.out]; omega)).mono ?_
        rintro e w' ⟨pb, nb, cb, rfl, hxb, hib, hfb⟩
        have hob : Off (.slice p k cp) (.slice pb nb cb) x.ce := fun _ g hg hy => by (have a1 := (HO.out.lt hg).2; have a2 := hfb g hy; have a3 := hGc.size; omega)
        have hlb : ∀ g, Value.ownBlock (.slice pb nb cb) = some g → wr.heap.size ≤ g := fun g hg => Nat.le_trans hGc.size (hfb g hg)
        try (have hia := hia.gr hxb)
        have t2 := hxb.frz t1 t2
        have t1 := hxb.cell t1
        have hGc := hGc.trans hxb
        have lzB : w.heap.size + 1 + 1 < w'.heap.size := by have := hGc.size; omega
        refine hK.out _ _ ⟨hxb.cell hh.1, hxb.cell hh.2.1, hxb.cell hh.2.2.1, hxb.cell hh.2.2.2.1, hxb.cell hh.2.2.2.2⟩ (fun hh => ?_)
        clear hK K
        try simp only [Act.put, List.setIfInBounds_toArray, List.set_cons_zero, List.set_cons_succ]
        refine wpAnyH_take (i := 15) (v := .agg #[.int .u8 (x.kind : Int), .int .i64 (x.row : Int), .int .i64 (x.col : Int), .slice pa na ca, .slice pb nb cb]) rfl (by kernel_rfl) (by kernel_rfl) (by kernel_rfl) (fun _ _ _ h => h) (Or.inl ⟨by rfl, by intro w' hSw; (try dsimp only at hSw); go_simp⟩) (by assumption) ?_
        simp only [Act.put, List.setIfInBounds_toArray, List.set_cons_zero, List.set_cons_succ]
        refine wpAnyH_ready (rs := [16]) (by kernel_rfl) (by simp) ?_
        refine AllReadyH.cons rfl (fun K hK => ?_) AllReadyH.nil
        go_simp
        refine hK.out _ _ ⟨((Gr.refl _).alloc _).cell hh.1, ((Gr.refl _).alloc _).cell hh.2.1, ((Gr.refl _).alloc _).cell hh.2.2.1, ((Gr.refl _).alloc _).cell hh.2.2.2.1, ((Gr.refl _).alloc _).cell hh.2.2.2.2⟩ (fun hh => ?_)
        clear hK K
        try simp only [Act.put, List.setIfInBounds_toArray, List.set_cons_zero, List.set_cons_succ]
        refine wpAnyH_ready (rs := [17]) (by kernel_rfl) (by simp) ?_
        refine AllReadyH.cons rfl (fun K hK => ?_) AllReadyH.nil
        refine step_app_np rfl (.tmp 17) (.tmp 32) rfl W.heap.size (.slice p k cp) (l.take k) x (.slice pa na ca) (.slice pb nb cb) rfl (HO.out.gr hGc) (by have := hGc.size; omega) hlen ⟨hia, fun h => by cases h⟩ hib hoa hob (fun _ g hg => by have a1 := hla g hg; omega) (fun _ g hg => by have a1 := hlb g hg; omega) rfl ?_
        intro v9 w9 hown9 hg9
        obtain ⟨p9, cp9, hv9⟩ := hown9.slice
        rw [HLK.out] at hv9
        subst hv9
        have hne : some wr.heap.size ≠ (Value.slice p k cp).ownBlock := fun e => by have := (HO.out.lt e.symm).2; omega
        have HT := app_thr (wr := wr) hg9 (hGc.alloc _)
        have u0 := HT.1 _ _ g0 (HO.out.far (by simp only []; omega))
        have u1 := HT.1 _ _ g1 (HO.out.far (by simp only []; omega))
        have u2 := HT.2.1 _ _ g1 g2 (HO.out.far (by simp only []; omega))
        have s0 := HT.1 _ _ q0 (HO.out.far (by simp only []; omega))
        have s1 := HT.1 _ _ q1 (HO.out.far (by simp only []; omega))
        have s2 := HT.2.1 _ _ q0 q2 (HO.out.far (by simp only []; omega))
        have s3 := HT.2.1 _ _ q1 q3 (HO.out.far (by simp only []; omega))
        have sz9 := HT.2.2
        have HG9 := Lib.hid (appN_gr_p (HG.out.trans hGc) (HO.out.gr hGc) (by omega) hg9)
        have HN9 := Lib.hid hown9
        refine hK.out _ _ ⟨hg9.cell hh.1 hne, hg9.cell hh.2.1 hne, hg9.cell hh.2.2.1 hne, hg9.cell hh.2.2.2.1 hne, hg9.cell hh.2.2.2.2 hne⟩ (fun hh => ?_)
        clear hK K
        try simp only [Act.put, List.setIfInBounds_toArray, List.set_cons_zero, List.set_cons_succ]
        refine wpAnyH_take (i := 18) (v := .pointer (some ⟨w.heap.size + 1 + 1, 1, none⟩)) rfl (by kernel_rfl) (by kernel_rfl) (by kernel_rfl) (fun _ _ _ h => h) (Or.inl ⟨by rfl, by intro w' hSw; (try dsimp only at hSw); go_simp⟩) (by assumption) ?_
        simp only [Act.put, List.setIfInBounds_toArray, List.set_cons_zero, List.set_cons_succ]
        refine wpAnyH_ready (rs := [19]) (by kernel_rfl) (by simp) ?_
        refine AllReadyH.cons rfl (fun K hK => ?_) AllReadyH.nil
        go_simp
        refine hK.out _ _ ⟨cell?_setCell_ne hh.1 (by simp <;> omega), cell?_setCell_ne hh.2.1 (by simp <;> omega), cell?_setCell_ne hh.2.2.1 (by simp <;> omega), cell?_setCell_ne hh.2.2.2.1 (by simp <;> omega), cell?_setCell_ne hh.2.2.2.2 (by simp <;> omega)⟩ (fun hh => ?_)
        clear hK K
        try simp only [Act.put, List.setIfInBounds_toArray, List.set_cons_zero, List.set_cons_succ]
        refine wpAnyH_done (by kernel_rfl) ?_ _
        go_wp2
        go_roundw
        case rel => exact ⟨k + 1, by omega, by go_num, HG9.out.setCell (by simp only []; omega) _, cell?_setCell_ne u0 (by simp), (World.frozen?_setCell _ _ _ _).trans u2, cell?_setCell_ne s0 (by simp), cell?_setCell_ne s1 (by simp), (World.frozen?_setCell _ _ _ _).trans s2, (World.frozen?_setCell _ _ _ _).trans s3, by simp <;> omega, p9, cp9, World.cell?_setCell_same' _ _ _ (by rw [u1]; rfl), by rw [HTK.out]; exact HN9.out.setCell (by simp only []; omega) _⟩
        case measure => (simp [intOf]; omega)
      · go_simp
        refine (clone_ints _ x.ch _ (H6.out.gr hGc) (by rw [HCN.out]; omega)).mono ?_
        rintro e w' ⟨pa, na, ca, rfl, hxa, hia, hfa⟩
        have hoa : Off (.slice p k cp) (.slice pa na ca) x.ch := fun _ g hg hy => by (have a1 := (HO.out.lt hg).2; have a2 := hfa g hy; have a3 := hGc.size; omega)
        have hla : ∀ g, Value.ownBlock (.slice pa na ca) = some g → wr.heap.size ≤ g := fun g hg => Nat.le_trans hGc.size (hfa g hg)
        try (have hib := hib.gr hxa)
        have t2 := hxa.frz t1 t2
        have t1 := hxa.cell t1
        have hGc := hGc.trans hxa
        refine hK.out _ _ ⟨hxa.cell hh.1, hxa.cell hh.2.1, hxa.cell hh.2.2.1, hxa.cell hh.2.2.2.1, hxa.cell hh.2.2.2.2⟩ (fun hh => ?_)
        clear hK K
        try simp only [Act.put, List.setIfInBounds_toArray, List.set_cons_zero, List.set_cons_succ]
        refine wpAnyH_ready (rs := [1, 14]) (by kernel_rfl) (by simp) ?_
        refine AllReadyH.cons rfl (fun K hK => ?_) (AllReadyH.cons rfl (fun K hK => ?_) (AllReadyH.nil))
        · go_simp
          refine hK.out _ _ hh (fun hh => ?_)
          clear hK K
          try simp only [Act.put, List.setIfInBounds_toArray, List.set_cons_zero, List.set_cons_succ]
          refine wpAnyH_ready (rs := [14]) (by kernel_rfl) (by simp) ?_
          refine AllReadyH.cons rfl (fun K hK => ?_) AllReadyH.nil
          go_simp
          refine (clone_cells _ x.ce _ (H7.out.gr hGc) (by rw [HEN.out]; omega)).mono ?_
          rintro e w' ⟨pb, nb, cb, rfl, hxb, hib, hfb⟩
          have hob : Off (.slice p k cp) (.slice pb nb cb) x.ce := fun _ g hg hy => by (have a1 := (HO.out.lt hg).2; have a2 := hfb g hy; have a3 := hGc.size; omega)
          have hlb : ∀ g, Value.ownBlock (.slice pb nb cb) = some g → wr.heap.size ≤ g := fun g hg => Nat.le_trans hGc.size (hfb g hg)
          try (have hia := hia.gr hxb)
          have t2 := hxb.frz t1 t2
          have t1 := hxb.cell t1
          have hGc := hGc.trans hxb
          have lzB : w.heap.size + 1 + 1 < w'.heap.size := by have := hGc.size; omega
          refine hK.out _ _ ⟨hxb.cell hh.1, hxb.cell hh.2.1, hxb.cell hh.2.2.1, hxb.cell hh.2.2.2.1, hxb.cell hh.2.2.2.2⟩ (fun hh => ?_)
          clear hK K
          try simp only [Act.put, List.setIfInBounds_toArray, List.set_cons_zero, List.set_cons_succ]
          refine wpAnyH_take (i := 15) (v := .agg #[.int .u8 (x.kind : Int), .int .i64 (x.row : Int), .int .i64 (x.col : Int), .slice pa na ca, .slice pb nb cb]) rfl (by kernel_rfl) (by kernel_rfl) (by kernel_rfl) (fun _ _ _ h => h) (Or.inl ⟨by rfl, by intro w' hSw; (try dsimp only at hSw); go_simp⟩) (by assumption) ?_
          simp only [Act.put, List.setIfInBounds_toArray, List.set_cons_zero, List.set_cons_succ]
          refine wpAnyH_ready (rs := [16]) (by kernel_rfl) (by simp) ?_
          refine AllReadyH.cons rfl (fun K hK => ?_) AllReadyH.nil
          go_simp
          refine hK.out _ _ ⟨((Gr.refl _).alloc _).cell hh.1, ((Gr.refl _).alloc _).cell hh.2.1, ((Gr.refl _).alloc _).cell hh.2.2.1, ((Gr.refl _).alloc _).cell hh.2.2.2.1, ((Gr.refl _).alloc _).cell hh.2.2.2.2⟩ (fun hh => ?_)
          clear hK K
          try simp only [Act.put, List.setIfInBounds_toArray, List.set_cons_zero, List.set_cons_succ]
          refine wpAnyH_ready (rs := [17]) (by kernel_rfl) (by simp) ?_
          refine AllReadyH.cons rfl (fun K hK => ?_) AllReadyH.nil
          refine step_app_np rfl (.tmp 17) (.tmp 32) rfl W.heap.size (.slice p k cp) (l.take k) x (.slice pa na ca) (.slice pb nb cb) rfl (HO.out.gr hGc) (by have := hGc.size; omega) hlen ⟨hia, fun h => by cases h⟩ hib hoa hob (fun _ g hg => by have a1 := hla g hg; omega) (fun _ g hg => by have a1 := hlb g hg; omega) rfl ?_
          intro v9 w9 hown9 hg9
          obtain ⟨p9, cp9, hv9⟩ := hown9.slice
          rw [HLK.out] at hv9
          subst hv9
          have hne : some wr.heap.size ≠ (Value.slice p k cp).ownBlock := fun e => by have := (HO.out.lt e.symm).2; omega
          have HT := app_thr (wr := wr) hg9 (hGc.alloc _)
          have u0 := HT.1 _ _ g0 (HO.out.far (by simp only []; omega))
          have u1 := HT.1 _ _ g1 (HO.out.far (by simp only []; omega))
          have u2 := HT.2.1 _ _ g1 g2 (HO.out.far (by simp only []; omega))
          have s0 := HT.1 _ _ q0 (HO.out.far (by simp only []; omega))
          have s1 := HT.1 _ _ q1 (HO.out.far (by simp only []; omega))
          have s2 := HT.2.1 _ _ q0 q2 (HO.out.far (by simp only []; omega))
          have s3 := HT.2.1 _ _ q1 q3 (HO.out.far (by simp only []; omega))
          have sz9 := HT.2.2
          have HG9 := Lib.hid (appN_gr_p (HG.out.trans hGc) (HO.out.gr hGc) (by omega) hg9)
          have HN9 := Lib.hid hown9
          refine hK.out _ _ ⟨hg9.cell hh.1 hne, hg9.cell hh.2.1 hne, hg9.cell hh.2.2.1 hne, hg9.cell hh.2.2.2.1 hne, hg9.cell hh.2.2.2.2 hne⟩ (fun hh => ?_)
          clear hK K
          try simp only [Act.put, List.setIfInBounds_toArray, List.set_cons_zero, List.set_cons_succ]
          refine wpAnyH_take (i := 18) (v := .pointer (some ⟨w.heap.size + 1 + 1, 1, none⟩)) rfl (by kernel_rfl) (by kernel_rfl) (by kernel_rfl) (fun _ _ _ h => h) (Or.inl ⟨by rfl, by intro w' hSw; (try dsimp only at hSw); go_simp⟩) (by assumption) ?_
          simp only [Act.put, List.setIfInBounds_toArray, List.set_cons_zero, List.set_cons_succ]
          refine wpAnyH_ready (rs := [19]) (by kernel_rfl) (by simp) ?_
          refine AllReadyH.cons rfl (fun K hK => ?_) AllReadyH.nil
          go_simp
          refine hK.out _ _ ⟨cell?_setCell_ne hh.1 (by simp <;> omega), cell?_setCell_ne hh.2.1 (by simp <;> omega), cell?_setCell_ne hh.2.2.1 (by simp <;> omega), cell?_setCell_ne hh.2.2.2.1 (by simp <;> omega), cell?_setCell_ne hh.2.2.2.2 (by simp <;> omega)⟩ (fun hh => ?_)
          clear hK K
          try simp only [Act.put, List.setIfInBounds_toArray, List.set_cons_zero, List.set_cons_succ]
          refine wpAnyH_done (by kernel_rfl) ?_ _
          go_wp2
          go_roundw
          case rel => exact ⟨k + 1, by omega, by go_num, HG9.out.setCell (by simp only []; omega) _, cell?_setCell_ne u0 (by simp), (World.frozen?_setCell _ _ _ _).trans u2, cell?_setCell_ne s0 (by simp), cell?_setCell_ne s1 (by simp), (World.frozen?_setCell _ _ _ _).trans s2, (World.frozen?_setCell _ _ _ _).trans s3, by simp <;> omega, p9, cp9, World.cell?_setCell_same' _ _ _ (by rw [u1]; rfl), by rw [HTK.out]; exact HN9.out.setCell (by simp only []; omega) _⟩
          case measure => (simp [intOf]; omega)
        · go_simp
          refine (clone_cells _ x.ce _ (H7.out.gr hGc) (by rw [HEN.out]; omega)).mono ?_
          rintro e w' ⟨pb, nb, cb, rfl, hxb, hib, hfb⟩
          have hob : Off (.slice p k cp) (.slice pb nb cb) x.ce := fun _ g hg hy => by (have a1 := (HO.out.lt hg).2; have a2 := hfb g hy; have a3 := hGc.size; omega)
          have hlb : ∀ g, Value.ownBlock (.slice pb nb cb) = some g → wr.heap.size ≤ g := fun g hg => Nat.le_trans hGc.size (hfb g hg)
          try (have hia := hia.gr hxb)
          have t2 := hxb.frz t1 t2
          have t1 := hxb.cell t1
          have hGc := hGc.trans hxb
          have lzB : w.heap.size + 1 + 1 < w'.heap.size := by have := hGc.size; omega
          refine hK.out _ _ ⟨hxb.cell hh.1, hxb.cell hh.2.1, hxb.cell hh.2.2.1, hxb.cell hh.2.2.2.1, hxb.cell hh.2.2.2.2⟩ (fun hh => ?_)
          clear hK K
          try simp only [Act.put, List.setIfInBounds_toArray, List.set_cons_zero, List.set_cons_succ]
          refine wpAnyH_take (i := 15) (v := .agg #[.int .u8 (x.kind : Int), .int .i64 (x.row : Int), .int .i64 (x.col : Int), .slice pa na ca, .slice pb nb cb]) rfl (by kernel_rfl) (by kernel_rfl) (by kernel_rfl) (fun _ _ _ h => h) (Or.inl ⟨by rfl, by intro w' hSw; (try dsimp only at hSw); go_simp⟩) (by assumption) ?_
          simp only [Act.put, List.setIfInBounds_toArray, List.set_cons_zero, List.set_cons_succ]
          refine wpAnyH_ready (rs := [1, 16]) (by kernel_rfl) (by simp) ?_
          refine AllReadyH.cons rfl (fun K hK => ?_) (AllReadyH.cons rfl (fun K hK => ?_) (AllReadyH.nil))
          · go_simp
            refine hK.out _ _ hh (fun hh => ?_)
            clear hK K
            try simp only [Act.put, List.setIfInBounds_toArray, List.set_cons_zero, List.set_cons_succ]
            refine wpAnyH_ready (rs := [16]) (by kernel_rfl) (by simp) ?_
            refine AllReadyH.cons rfl (fun K hK => ?_) AllReadyH.nil
            go_simp
            refine hK.out _ _ ⟨((Gr.refl _).alloc _).cell hh.1, ((Gr.refl _).alloc _).cell hh.2.1, ((Gr.refl _).alloc _).cell hh.2.2.1, ((Gr.refl _).alloc _).cell hh.2.2.2.1, ((Gr.refl _).alloc _).cell hh.2.2.2.2⟩ (fun hh => ?_)
            clear hK K
            try simp only [Act.put, List.setIfInBounds_toArray, List.set_cons_zero, List.set_cons_succ]
            refine wpAnyH_ready (rs := [17]) (by kernel_rfl) (by simp) ?_
            refine AllReadyH.cons rfl (fun K hK => ?_) AllReadyH.nil
            refine step_app_np rfl (.tmp 17) (.tmp 32) rfl W.heap.size (.slice p k cp) (l.take k) x (.slice pa na ca) (.slice pb nb cb) rfl (HO.out.gr hGc) (by have := hGc.size; omega) hlen ⟨hia, fun h => by cases h⟩ hib hoa hob (fun _ g hg => by have a1 := hla g hg; omega) (fun _ g hg => by have a1 := hlb g hg; omega) rfl ?_
            intro v9 w9 hown9 hg9
            obtain ⟨p9, cp9, hv9⟩ := hown9.slice
            rw [HLK.out] at hv9
            subst hv9
            have hne : some wr.heap.size ≠ (Value.slice p k cp).ownBlock := fun e => by have := (HO.out.lt e.symm).2; omega
            have HT := app_thr (wr := wr) hg9 (hGc.alloc _)
            have u0 := HT.1 _ _ g0 (HO.out.far (by simp only []; omega))
            have u1 := HT.1 _ _ g1 (HO.out.far (by simp only []; omega))
            have u2 := HT.2.1 _ _ g1 g2 (HO.out.far (by simp only []; omega))
            have s0 := HT.1 _ _ q0 (HO.out.far (by simp only []; omega))
            have s1 := HT.1 _ _ q1 (HO.out.far (by simp only []; omega))
            have s2 := HT.2.1 _ _ q0 q2 (HO.out.far (by simp only []; omega))
            have s3 := HT.2.1 _ _ q1 q3 (HO.out.far (by simp only []; omega))
            have sz9 := HT.2.2
            have HG9 := Lib.hid (appN_gr_p (HG.out.trans hGc) (HO.out.gr hGc) (by omega) hg9)
            have HN9 := Lib.hid hown9
            refine hK.out _ _ ⟨hg9.cell hh.1 hne, hg9.cell hh.2.1 hne, hg9.cell hh.2.2.1 hne, hg9.cell hh.2.2.2.1 hne, hg9.cell hh.2.2.2.2 hne⟩ (fun hh => ?_)
            clear hK K
            try simp only [Act.put, List.setIfInBounds_toArray, List.set_cons_zero, List.set_cons_succ]
            refine wpAnyH_take (i := 18) (v := .pointer (some ⟨w.heap.size + 1 + 1, 1, none⟩)) rfl (by kernel_rfl) (by kernel_rfl) (by kernel_rfl) (fun _ _ _ h => h) (Or.inl ⟨by rfl, by intro w' hSw; (try dsimp only at hSw); go_simp⟩) (by assumption) ?_
            simp only [Act.put, List.setIfInBounds_toArray, List.set_cons_zero, List.set_cons_succ]
            refine wpAnyH_ready (rs := [19]) (by kernel_rfl) (by simp) ?_
            refine AllReadyH.cons rfl (fun K hK => ?_) AllReadyH.nil
            go_simp
            refine hK.out _ _ ⟨cell?_setCell_ne hh.1 (by simp <;> omega), cell?_setCell_ne hh.2.1 (by simp <;> omega), cell?_setCell_ne hh.2.2.1 (by simp <;> omega), cell?_setCell_ne hh.2.2.2.1 (by simp <;> omega), cell?_setCell_ne hh.2.2.2.2 (by simp <;> omega)⟩ (fun hh => ?_)
            clear hK K
            try simp only [Act.put, List.setIfInBounds_toArray, List.set_cons_zero, List.set_cons_succ]
            refine wpAnyH_done (by kernel_rfl) ?_ _
            go_wp2
            go_roundw
            case rel => exact ⟨k + 1, by omega, by go_num, HG9.out.setCell (by simp only []; omega) _, cell?_setCell_ne u0 (by simp), (World.frozen?_setCell _ _ _ _).trans u2, cell?_setCell_ne s0 (by simp), cell?_setCell_ne s1 (by simp), (World.frozen?_setCell _ _ _ _).trans s2, (World.frozen?_setCell _ _ _ _).trans s3, by simp <;> omega, p9, cp9, World.cell?_setCell_same' _ _ _ (by rw [u1]; rfl), by rw [HTK.out]; exact HN9.out.setCell (by simp only []; omega) _⟩
            case measure => (simp [intOf]; omega)
          · go_simp
            refine hK.out _ _ ⟨((Gr.refl _).alloc _).cell hh.1, ((Gr.refl _).alloc _).cell hh.2.1, ((Gr.refl _).alloc _).cell hh.2.2.1, ((Gr.refl _).alloc _).cell hh.2.2.2.1, ((Gr.refl _).alloc _).cell hh.2.2.2.2⟩ (fun hh => ?_)
            clear hK K
            try simp only [Act.put, List.setIfInBounds_toArray, List.set_cons_zero, List.set_cons_succ]
            refine wpAnyH_ready (rs := [1]) (by kernel_rfl) (by simp) ?_
            refine AllReadyH.cons rfl (fun K hK => ?_) AllReadyH.nil
            go_simp
            refine hK.out _ _ hh (fun hh => ?_)
            clear hK K
            try simp only [Act.put, List.setIfInBounds_toArray, List.set_cons_zero, List.set_cons_succ]
            refine wpAnyH_ready (rs := [17]) (by kernel_rfl) (by simp) ?_
            refine AllReadyH.cons rfl (fun K hK => ?_) AllReadyH.nil
            refine step_app_np rfl (.tmp 17) (.tmp 32) rfl W.heap.size (.slice p k cp) (l.take k) x (.slice pa na ca) (.slice pb nb cb) rfl (HO.out.gr hGc) (by have := hGc.size; omega) hlen ⟨hia, fun h => by cases h⟩ hib hoa hob (fun _ g hg => by have a1 := hla g hg; omega) (fun _ g hg => by have a1 := hlb g hg; omega) rfl ?_
            intro v9 w9 hown9 hg9
            obtain ⟨p9, cp9, hv9⟩ := hown9.slice
            rw [HLK.out] at hv9
            subst hv9
            have hne : some wr.heap.size ≠ (Value.slice p k cp).ownBlock := fun e => by have := (HO.out.lt e.symm).2; omega
            have HT := app_thr (wr := wr) hg9 (hGc.alloc _)
            have u0 := HT.1 _ _ g0 (HO.out.far (by simp only []; omega))
            have u1 := HT.1 _ _ g1 (HO.out.far (by simp only []; omega))
            have u2 := HT.2.1 _ _ g1 g2 (HO.out.far (by simp only []; omega))
            have s0 := HT.1 _ _ q0 (HO.out.far (by simp only []; omega))
            have s1 := HT.1 _ _ q1 (HO.out.far (by simp only []; omega))
            have s2 := HT.2.1 _ _ q0 q2 (HO.out.far (by simp only []; omega))
            have s3 := HT.2.1 _ _ q1 q3 (HO.out.far (by simp only []; omega))
            have sz9 := HT.2.2
            have HG9 := Lib.hid (appN_gr_p (HG.out.trans hGc) (HO.out.gr hGc) (by omega) hg9)
            have HN9 := Lib.hid hown9
            refine hK.out _ _ ⟨hg9.cell hh.1 hne, hg9.cell hh.2.1 hne, hg9.cell hh.2.2.1 hne, hg9.cell hh.2.2.2.1 hne, hg9.cell hh.2.2.2.2 hne⟩ (fun hh => ?_)
            clear hK K
            try simp only [Act.put, List.setIfInBounds_toArray, List.set_cons_zero, List.set_cons_succ]
            refine wpAnyH_take (i := 18) (v := .pointer (some ⟨w.heap.size + 1 + 1, 1, none⟩)) rfl (by kernel_rfl) (by kernel_rfl) (by kernel_rfl) (fun _ _ _ h => h) (Or.inl ⟨by rfl, by intro w' hSw; (try dsimp only at hSw); go_simp⟩) (by assumption) ?_
            simp only [Act.put, List.setIfInBounds_toArray, List.set_cons_zero, List.set_cons_succ]
            refine wpAnyH_ready (rs := [19]) (by kernel_rfl) (by simp) ?_
            refine AllReadyH.cons rfl (fun K hK => ?_) AllReadyH.nil
            go_simp
            refine hK.out _ _ ⟨cell?_setCell_ne hh.1 (by simp <;> omega), cell?_setCell_ne hh.2.1 (by simp <;> omega), cell?_setCell_ne hh.2.2.1 (by simp <;> omega), cell?_setCell_ne hh.2.2.2.1 (by simp <;> omega), cell?_setCell_ne hh.2.2.2.2 (by simp <;> omega)⟩ (fun hh => ?_)
            clear hK K
            try simp only [Act.put, List.setIfInBounds_toArray, List.set_cons_zero, List.set_cons_succ]
            refine wpAnyH_done (by kernel_rfl) ?_ _
            go_wp2
            go_roundw
            case rel => exact ⟨k + 1, by omega, by go_num, HG9.out.setCell (by simp only []; omega) _, cell?_setCell_ne u0 (by simp), (World.frozen?_setCell _ _ _ _).trans u2, cell?_setCell_ne s0 (by simp), cell?_setCell_ne s1 (by simp), (World.frozen?_setCell _ _ _ _).trans s2, (World.frozen?_setCell _ _ _ _).trans s3, by simp <;> omega, p9, cp9, World.cell?_setCell_same' _ _ _ (by rw [u1]; rfl), by rw [HTK.out]; exact HN9.out.setCell (by simp only []; omega) _⟩
            case measure => (simp [intOf]; omega)
    · obtain rfl : k = L := by omega
      have htk : l.take k = l := List.take_of_length_le (by rw [HL.out]; exact Nat.le_refl _)
      have hnd := HO.out
      rw [htk] at hnd
      have HND := Lib.hid hnd
      clear hnd htk
      go_wp2
      refine ret_cell1 rfl rfl rfl (load_pf _ _ (.int .i64 size) (.slice p k cp) (cell?_setCell_ne (World.cell?_setCell_same' wr _ _ (by rw [q0]; rfl)) (by simp)) (World.cell?_setCell_same' _ _ _ (by rw [cell?_setCell_ne q1 (by simp)]; rfl))) ?_
      exact ⟨⟨_, rfl, _, rfl, ((HND.out.setCell (p := ⟨w.heap.size + 1, 0, none⟩) (by simp only []; omega) _).setCell (p := ⟨w.heap.size + 1, 1, none⟩) (by simp only []; omega) _).nds.nds⟩, (HG.out.setCell (by simp) _).setCell (by simp) _⟩
end Go.Proofs.YtcmlhpodghfheaaDoor

namespace Go.Proofs.YtcmlhpodghfheaaDoor
open Go.RowKit Go.Shelf

theorem ints_two (w : World) (a b : Nat) : Ints (w.alloc (.cells #[.int .i64 (a : Int), .int .i64 (b : Int)] 3)) (.slice (some ⟨w.heap.size, 0, none⟩) 2 2) [a, b] :=
  .inr ⟨by simp, w.heap.size, 0, 2, rfl, fun i hi => by
    match i, hi with
    | 0, _ => simp [go_sem]
    | 1, _ => simp [go_sem]⟩
theorem ints_one (w : World) (a : Nat) : Ints (w.alloc (.cells #[.int .i64 (a : Int)] 3)) (.slice (some ⟨w.heap.size, 0, none⟩) 1 1) [a] :=
  .inr ⟨by simp, w.heap.size, 0, 1, rfl, fun i hi => by
    match i, hi with
    | 0, _ => simp [go_sem]⟩
theorem of01 (w : World) : Calls Tryd.prog 20 #[.slice (some ⟨w.heap.size, 0, none⟩) 2 2] (w.alloc (.cells #[.int .i64 0, .int .i64 1] 3)) (RetG 3 w) :=
  (of_any _ [0, 1] _ (ints_two w 0 1) (by simp) (by simp)).mono fun e w' ⟨p, n, c, h1, h2, h3⟩ => ⟨p, n, c, h1, h2, ((Gr.refl w).alloc _).trans h3.gr⟩
theorem of01d (w : World) : Calls Tryd.prog 20 #[.slice (some ⟨w.heap.size, 0, none⟩) 2 2] (w.alloc (.cells #[.int .i64 0, .int .i64 1] 3)).drew (RetG 3 (w.alloc (.cells #[.int .i64 0, .int .i64 1] 3)).drew) :=
  (of_any _ [0, 1] _ ((ints_two w 0 1).gr (Gr.refl _).drew) (by simp) (by simp)).mono fun e w' ⟨p, n, c, h1, h2, h3⟩ => ⟨p, n, c, h1, h2, h3.gr⟩
theorem of12 (w : World) : Calls Tryd.prog 20 #[.slice (some ⟨w.heap.size, 0, none⟩) 2 2] (w.alloc (.cells #[.int .i64 1, .int .i64 2] 3)) (RetG 6 w) :=
  (of_any _ [1, 2] _ (ints_two w 1 2) (by simp) (by simp)).mono fun e w' ⟨p, n, c, h1, h2, h3⟩ => ⟨p, n, c, h1, h2, ((Gr.refl w).alloc _).trans h3.gr⟩
theorem of02 (w : World) : Calls Tryd.prog 20 #[.slice (some ⟨w.heap.size, 0, none⟩) 2 2] (w.alloc (.cells #[.int .i64 0, .int .i64 2] 3)) (RetG 5 w) :=
  (of_any _ [0, 2] _ (ints_two w 0 2) (by simp) (by simp)).mono fun e w' ⟨p, n, c, h1, h2, h3⟩ => ⟨p, n, c, h1, h2, ((Gr.refl w).alloc _).trans h3.gr⟩

theorem sets_three {w : World} {x y z : Value} {a b c : Nat} (h1 : Words w x a) (h2 : Words w y b) (h3 : Words w z c) : Sets (w.alloc (.cells #[x, y, z] 69)) (.slice (some ⟨w.heap.size, 0, none⟩) 3 3) [a, b, c] :=
  .inr ⟨by simp, w.heap.size, 0, 3, rfl, fun i hi => by
    match i, hi with
    | 0, _ => exact ⟨x, by simp [go_sem], h1.gr ((Gr.refl w).alloc _)⟩
    | 1, _ => exact ⟨y, by simp [go_sem], h2.gr ((Gr.refl w).alloc _)⟩
    | 2, _ => exact ⟨z, by simp [go_sem], h3.gr ((Gr.refl w).alloc _)⟩⟩
theorem sets_one {w : World} {x : Value} {a : Nat} (h1 : Words w x a) : Sets (w.alloc (.cells #[x] 69)) (.slice (some ⟨w.heap.size, 0, none⟩) 1 1) [a] :=
  .inr ⟨by simp, w.heap.size, 0, 1, rfl, fun i hi => by
    match i, hi with
    | 0, _ => exact ⟨x, by simp [go_sem], h1.gr ((Gr.refl w).alloc _)⟩⟩

def mA : Mat := ⟨3, [3, 6, 5]⟩
def mB : Mat := ⟨2, [3]⟩
theorem mA_good : mA.good := ⟨⟨by decide, by decide⟩, by decide⟩
theorem mB_good : mB.good := ⟨⟨by decide, by decide⟩, by decide⟩
def ndA : List Nd := [⟨2, 0, 0, [], [(0, 0), (1, 1), (2, 2)]⟩]
def ndB : List Nd := [⟨1, 0, 0, [1], []⟩, ⟨2, 0, 0, [], []⟩]
theorem small_A : smallNds ndA := by
  intro x hx
  obtain rfl : x = ⟨2, 0, 0, [], [(0, 0), (1, 1), (2, 2)]⟩ := by simpa [ndA] using hx
  exact ⟨by decide, by decide, by decide, by decide, by decide, by simp, by simp⟩
theorem small_B : smallNds ndB := by
  intro x hx
  have : x = ⟨1, 0, 0, [1], []⟩ ∨ x = ⟨2, 0, 0, [], []⟩ := by simpa [ndB] using hx
  rcases this with rfl | rfl
  · exact ⟨by decide, by decide, by decide, by decide, by decide, by simp, by simp⟩
  · exact ⟨by decide, by decide, by decide, by decide, by decide, by simp, by simp⟩
theorem check_A3 : checkF mA 3 ndA = (1, 0) := by decide +kernel
theorem check_A4 : checkF mA 4 ndA = (5, 0) := by decide +kernel
theorem check_B : checkF mB 2 ndB = (5, 1) := by decide +kernel
theorem cons_B : mB.cons 0 0 = [3] := by decide +kernel

theorem cells_three (w : World) (a b c d e f : Nat) : Cells (w.alloc (.cells #[.int .i64 (a : Int), .int .i64 (b : Int), .int .i64 (c : Int), .int .i64 (d : Int), .int .i64 (e : Int), .int .i64 (f : Int)] 40)) (.slice (some ⟨w.heap.size, 0, none⟩) 3 3) [(a, b), (c, d), (e, f)] :=
  .inr ⟨by simp, w.heap.size, 0, 3, rfl, by simp, fun i hi => by
    match i, hi with
    | 0, _ => simp [go_sem]
    | 1, _ => simp [go_sem]
    | 2, _ => simp [go_sem]⟩
theorem nds_A {w : World} {p : Value} (h : Cells w p [(0, 0), (1, 1), (2, 2)]) : Nds (w.alloc (.cells #[.int .u8 2, .int .i64 0, .int .i64 0, .slice none 0 0, p] 74)) (.slice (some ⟨w.heap.size, 0, none⟩) 1 1) ndA := by
  obtain ⟨q, c, rfl⟩ := h.slice
  refine .inr ⟨by simp [ndA], w.heap.size, 0, 1, rfl, fun i hi => ?_⟩
  match i, hi with
  | 0, _ => exact ⟨none, 0, q, c, by simp [go_sem, ndA], by simp [go_sem, ndA], by simp [go_sem, ndA], by simp [go_sem, ndA], by simp [go_sem, ndA], .inl ⟨rfl, none, 0, rfl⟩, h.gr ((Gr.refl w).alloc _)⟩
theorem nds_B {w : World} {p : Value} (h : Ints w p [1]) : Nds (w.alloc (.cells #[.int .u8 1, .int .i64 0, .int .i64 0, p, .slice none 0 0, .int .u8 2, .int .i64 0, .int .i64 0, .slice none 0 0, .slice none 0 0] 74)) (.slice (some ⟨w.heap.size, 0, none⟩) 2 2) ndB := by
  obtain ⟨q, c, rfl⟩ := h.slice
  refine .inr ⟨by simp [ndB], w.heap.size, 0, 2, rfl, fun i hi => ?_⟩
  match i, hi with
  | 0, _ => exact ⟨q, c, none, 0, by simp [go_sem, ndB], by simp [go_sem, ndB], by simp [go_sem, ndB], by simp [go_sem, ndB], by simp [go_sem, ndB], h.gr ((Gr.refl w).alloc _), .inl ⟨rfl, none, 0, rfl⟩⟩
  | 1, _ => exact ⟨none, 0, none, 0, by simp [go_sem, ndB], by simp [go_sem, ndB], by simp [go_sem, ndB], by simp [go_sem, ndB], by simp [go_sem, ndB], .inl ⟨rfl, none, 0, rfl⟩, .inl ⟨rfl, none, 0, rfl⟩⟩

set_option maxHeartbeats 4000000 in
set_option maxRecDepth 100000 in
/-- arbaclaw47.awake -/
theorem awake_any (w : World) (ht : TabOk w) :
    Calls Tryd.prog 6 #[] w fun e w' => e = .returned (.bool true) ∧ Gr w w' := by
  have HT := Lib.hid ht
  clear ht
  go_enter Tryd.func6, Tryd.ntmps6
  go_wp2_with fail
  refine (of01 w).mono ?_
  rintro e w1 ⟨p1, n1, c1, rfl, hv1, hx1⟩
  have HW1 := Lib.hid hv1.words
  have HX1 := Lib.hid hx1
  clear hv1 hx1
  go_wp2_with fail
  refine (of12 w1).mono ?_
  rintro e w2 ⟨p2, n2, c2, rfl, hv2, hx2⟩
  have HW2 := Lib.hid hv2.words
  have HW1 := Lib.hid (HW1.out.gr hx2)
  have HX2 := Lib.hid (HX1.out.trans hx2)
  clear hv2 hx2
  go_wp2_with fail
  refine (of02 w2).mono ?_
  rintro e w3 ⟨p3, n3, c3, rfl, hv3, hx3⟩
  have HSE := Lib.hid (sets_three (HW1.out.gr hx3) (HW2.out.gr hx3) hv3.words)
  have HX3 := Lib.hid (HX2.out.trans hx3)
  clear hv3 hx3
  go_wp2_with fail
  refine (matOf_any _ 3 [3, 6, 5] _ HSE.out (by omega) (by simp) (by simp)).mono ?_
  rintro e w4 ⟨b4, rfl, hx4, hm4⟩
  have HX4 := Lib.hid (HX3.out.trans (((Gr.refl _).alloc _).trans hx4))
  have HMA := Lib.hid (show MatV w4 (.pointer (some ⟨b4, 0, none⟩)) mA from hm4)
  clear hx4 hm4
  go_wp2_with fail
  refine (of01 w4).mono ?_
  rintro e w5 ⟨p5, n5, c5, rfl, hv5, hx5⟩
  have HSE5 := Lib.hid (sets_one hv5.words)
  have HMA := Lib.hid (HMA.out.gr hx5)
  have HX5 := Lib.hid (HX4.out.trans hx5)
  clear hv5 hx5
  go_wp2_with fail
  refine (matOf_any _ 2 [3] _ HSE5.out (by omega) (by simp) (by simp)).mono ?_
  rintro e w6 ⟨b6, rfl, hx6, hm6⟩
  have HX6 := Lib.hid (HX5.out.trans (((Gr.refl _).alloc _).trans hx6))
  have HMA := Lib.hid (HMA.out.gr (((Gr.refl _).alloc _).trans hx6))
  have HMB := Lib.hid (show MatV w6 (.pointer (some ⟨b6, 0, none⟩)) mB from hm6)
  clear hx6 hm6
  go_wp2_with fail
  refine name_calls fun W hW => ?_
  obtain ⟨wN, hN⟩ : ∃ wN, wN = (w6.alloc (.cells #[.int .i64 0, .int .i64 0, .int .i64 1, .int .i64 1, .int .i64 2, .int .i64 2] 40)).alloc (.cells #[.int .u8 2, .int .i64 0, .int .i64 0, .slice none 0 0, .slice (some ⟨w6.heap.size, 0, none⟩) 3 3] 74) := ⟨_, rfl⟩
  have hgN : Gr w6 wN := by rw [hN]; repeat (first | exact Gr.refl _ | refine Gr.alloc ?_ _)
  have hsN : wN.heap.size = w6.heap.size + 1 + 1 := by rw [hN]; simp
  have hgW : Gr wN W := by rw [hW, hN]; exact (Gr.refl _).alloc _
  have e1 : ∀ o : Obj, (w6.alloc o).heap.size = w6.heap.size + 1 := fun o => by simp
  have hnd := nds_A (cells_three w6 0 0 1 1 2 2)
  rw [e1] at hnd
  have hnd2 : Nds wN (.slice (some ⟨w6.heap.size + 1, 0, none⟩) 1 1) ndA := by rw [hN]; exact hnd
  have b0 : W.cell? ⟨w6.heap.size + 1 + 1, 0, none⟩ = some (.int .i64 3) := by rw [hW]; go_simp
  have b1 : W.cell? ⟨w6.heap.size + 1 + 1, 1, none⟩ = some (.slice (some ⟨w6.heap.size + 1, 0, none⟩) 1 1) := by rw [hW]; go_simp
  have b2 : W.frozen? ⟨w6.heap.size + 1 + 1, 0, none⟩ = false := by rw [hW]; go_simp
  have HND := Lib.hid hnd2
  have HGN := Lib.hid (HX6.out.trans hgN)
  have HGW := Lib.hid hgW
  have HMA := Lib.hid (HMA.out.gr hgN)
  have HMB := Lib.hid (HMB.out.gr hgN)
  clear hW hnd hnd2 e1 hgN hN hgW
  refine (check_any _ _ mA 3 ndA W (HMA.out.gr HGW.out) mA_good ⟨_, rfl, HND.out.gr HGW.out⟩ small_A (by decide) (by omega) (HT.out.gr (HGN.out.trans HGW.out))).mono ?_
  rw [check_A3]
  rintro e w7 ⟨rfl, hx7⟩
  have c0 := hx7.cell b0
  have c1' := hx7.cell b1
  have c2' := hx7.frz b0 b2
  have lb7 : w6.heap.size + 1 + 1 < w7.heap.size := World.block_lt_of_cell? _ _ c0
  have HG7 := Lib.hid (HGW.out.trans hx7)
  clear hx7 b0 b1 b2
  go_wp2_with fail
  refine name_calls fun W8 hW8 => ?_
  have hg8 : Gr wN W8 := by rw [hW8]; exact HG7.out.setCell (by simp only []; omega) _
  have HG8 := Lib.hid hg8
  clear hg8 hW8
  refine (check_any _ _ mA 4 ndA W8 (HMA.out.gr HG8.out) mA_good ⟨_, rfl, HND.out.gr HG8.out⟩ small_A (by decide) (by omega) (HT.out.gr (HGN.out.trans HG8.out))).mono ?_
  rw [check_A4]
  rintro e w9 ⟨rfl, hx9⟩
  have HG9 := Lib.hid (HG8.out.trans hx9)
  clear hx9
  go_wp2_with fail
  refine name_calls fun W10 hW10 => ?_
  have hg10 : Gr w9 W10 := by rw [hW10]; repeat (first | exact Gr.refl _ | refine Gr.alloc ?_ _)
  have hnb := nds_B (ints_one w9 1)
  have e2 : ∀ o : Obj, (w9.alloc o).heap.size = w9.heap.size + 1 := fun o => by simp
  rw [e2] at hnb
  have hnb2 : Nds W10 (.slice (some ⟨w9.heap.size + 1, 0, none⟩) 2 2) ndB := by rw [hW10]; exact hnb
  have HNB := Lib.hid hnb2
  have HG10 := Lib.hid (HG9.out.trans hg10)
  clear hW10 hg10 hnb e2 hnb2
  refine (check_any _ _ mB 2 ndB W10 (HMB.out.gr HG10.out) mB_good ⟨_, rfl, HNB.out⟩ small_B (by decide) (by omega) (HT.out.gr (HGN.out.trans HG10.out))).mono ?_
  rw [check_B]
  rintro e w11 ⟨rfl, hx11⟩
  have HG11 := Lib.hid (HG10.out.trans hx11)
  clear hx11
  go_wp2_with fail
  refine (concepts_any _ mB 0 0 _ (HMB.out.gr HG11.out) mB_good (by omega) (by omega) (HT.out.gr (HGN.out.trans HG11.out))).mono ?_
  rw [cons_B]
  rintro e w12 ⟨⟨pl, nl, cl, rfl, hsl⟩, hx12⟩
  have HG12 := Lib.hid (HG11.out.trans hx12)
  obtain ⟨bb, oo, cc, y, hsv, hbb, hcy, hy⟩ := hsl.at 0 (by simp)
  obtain ⟨py, ny, cy, hyy⟩ := hy.words.slice
  subst hyy
  simp only [Value.slice.injEq, List.length_cons, List.length_nil, Nat.zero_add] at hsv
  obtain ⟨rfl, rfl, rfl⟩ := hsv
  have HY := Lib.hid hy
  rw [Nat.add_zero] at hcy
  clear hsl hy hx12
  go_wp2_with fail
  go_region_held3 (fun w' => Gr w12 w' ∧ w'.cell? ⟨bb, oo, none⟩ = some (.slice py ny cy))
    (first | exact ⟨(Gr.refl w12).drew, hcy⟩ | (have hh := ‹Gr w12 _ ∧ _›; exact ⟨hh.1.trans hx1, hx1.cell hh.2⟩) | (have hh := ‹Gr w12 _ ∧ _›; exact ⟨hh.1.alloc _, ((Gr.refl _).alloc _).cell hh.2⟩))
    (first | (go_at_call 20; have hh := ‹Gr w12 _ ∧ _›; (with_reducible refine (of01d _).mono ?_); rintro e w1 ⟨p9, n9, c9, rfl, hv9, hx1⟩) | (go_at_call 22; have hh := ‹Gr w12 _ ∧ _›; (with_reducible refine (equal_any _ _ 3 3 _ (HY.out.gr hh.1) hv9).mono ?_); rintro e w1 ⟨rfl, hx1⟩; have hx1 := hx1.gr))
  have hfin := ‹Gr w12 _ ∧ _›
  have HGf := Lib.hid (HGN.out.trans (HG12.out.trans hfin.1))
  clear hfin hh
  go_wp2
  go_ret
  exact ⟨by simp, HGf.out⟩
end Go.Proofs.YtcmlhpodghfheaaDoor
