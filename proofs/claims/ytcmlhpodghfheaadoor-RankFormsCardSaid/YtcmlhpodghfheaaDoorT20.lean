/- arbaclaw47.RankForms. -/
import Derived.Test.YtcmlhpodghfheaaDoorT19
set_option linter.unusedSimpArgs false
set_option linter.unusedVariables false
namespace Go.Proofs.YtcmlhpodghfheaaDoor
open Go.RowKit Go.Shelf

/-- What a node is made of. -/
structure Od where
  k : Nat
  n : Nat
  a : Nat
  b : Nat
instance : Inhabited Od := ⟨⟨0, 0, 0, 0⟩⟩
/-- The slice value v is that of the bytes os, four by four. -/
def Odds (w : World) (v : Value) (os : List Od) : Prop :=
  (os = [] ∧ ∃ p c, v = .slice p 0 c) ∨ (os ≠ [] ∧ ∃ b o c, v = .slice (some ⟨b, o, none⟩) os.length c ∧ os.length ≤ c ∧ ∀ i, i < os.length →
    w.cell? ⟨b, o + i * 4, none⟩ = some (.int .u8 (((os.getD i default).k : Nat) : Int)) ∧ w.cell? ⟨b, o + i * 4 + 1, none⟩ = some (.int .u8 (((os.getD i default).n : Nat) : Int)) ∧
    w.cell? ⟨b, o + i * 4 + 2, none⟩ = some (.int .u8 (((os.getD i default).a : Nat) : Int)) ∧ w.cell? ⟨b, o + i * 4 + 3, none⟩ = some (.int .u8 (((os.getD i default).b : Nat) : Int)))
theorem Odds.gr {w w' : World} {v : Value} {os : List Od} (h : Odds w v os) (hx : Gr w w') : Odds w' v os := by
  rcases h with h | ⟨h1, b, o, c, h2, h3, h4⟩
  · exact .inl h
  · exact .inr ⟨h1, b, o, c, h2, h3, fun i hi => ⟨hx.cell (h4 i hi).1, hx.cell (h4 i hi).2.1, hx.cell (h4 i hi).2.2.1, hx.cell (h4 i hi).2.2.2⟩⟩
theorem Odds.slice {w : World} {v : Value} {os : List Od} (h : Odds w v os) : ∃ p c, v = .slice p os.length c ∧ (os ≠ [] → os.length ≤ c) := by
  rcases h with ⟨rfl, p, c, h⟩ | ⟨h1, b, o, c, h, h2, _⟩
  · exact ⟨p, c, h, fun h => absurd rfl h⟩
  · exact ⟨_, c, h, fun _ => h2⟩

def chOf (i : Nat) (o : Od) : List Nat := (if o.k % 5 = 1 ∨ o.n % 16 = 0 then [i + 1 + o.n % 4 / 2] else []) ++ (if o.n % 8 = 7 then [i + 2] else [])
def ceOf (o : Od) : List (Nat × Nat) := if o.k % 5 = 2 then [(o.a % 3, o.b % 3)] else []
def ndOf (i : Nat) (o : Od) : Nd := ⟨o.k % 5, o.a % 3, o.b % 3, chOf i o, ceOf o⟩
def ndsOf (os : List Od) (k : Nat) : List Nd := (List.range k).map fun i => ndOf i (os.getD i default)
theorem ndsOf_succ (os : List Od) (k : Nat) : ndsOf os (k + 1) = ndsOf os k ++ [ndOf k (os.getD k default)] := by simp [ndsOf, List.range_succ]
theorem ndsOf_len (os : List Od) (k : Nat) : (ndsOf os k).length = k := by simp [ndsOf]
theorem ndsOf_get (os : List Od) (k i : Nat) (h : i < k) : (ndsOf os k).getD i default = ndOf i (os.getD i default) := by simp [ndsOf, List.getD, List.getElem?_range h]
theorem chOf_mem {i : Nat} {o : Od} {c : Nat} (h : c ∈ chOf i o) : i < c ∧ c ≤ i + 2 := by
  unfold chOf at h
  rw [List.mem_append] at h
  rcases h with h | h
  · split at h
    · rw [List.mem_singleton] at h; omega
    · simp at h
  · split at h
    · rw [List.mem_singleton] at h; omega
    · simp at h
theorem chOf_len (i : Nat) (o : Od) : (chOf i o).length ≤ 2 := by
  unfold chOf; rw [List.length_append]; split <;> split <;> simp
theorem ceOf_len (o : Od) : (ceOf o).length ≤ 1 := by unfold ceOf; split <;> simp
theorem ndsOf_small (os : List Od) (k : Nat) (hk : k ≤ 6) : smallNds (ndsOf os k) := by
  intro x hx
  obtain ⟨i, hi, rfl⟩ := List.mem_map.1 hx
  have hi := List.mem_range.1 hi
  have h1 := chOf_len i (os.getD i default)
  have h2 := ceOf_len (os.getD i default)
  refine ⟨?_, ?_, ?_, ?_, ?_, fun c hc => ?_, fun c hc => ?_⟩
  · show (os.getD i default).k % 5 < 256; omega
  · show (os.getD i default).a % 3 < 64; omega
  · show (os.getD i default).b % 3 < 64; omega
  · show (chOf i (os.getD i default)).length < 1000000; omega
  · show (ceOf (os.getD i default)).length < 1000; omega
  · have hc : c ∈ ceOf (os.getD i default) := hc
    unfold ceOf at hc
    split at hc
    · rw [List.mem_singleton] at hc; subst hc; exact ⟨by show _ % 3 < 64; omega, by show _ % 3 < 64; omega⟩
    · simp at hc
  · have := chOf_mem (show c ∈ chOf i (os.getD i default) from hc); omega
theorem ndsOf_c9 (os : List Od) (k : Nat) (hk : k ≤ 6) : ∀ x ∈ ndsOf os k, x.ch.length < 1000 ∧ ∀ c ∈ x.ch, c < 1000 := by
  intro x hx
  obtain ⟨i, hi, rfl⟩ := List.mem_map.1 hx
  have hi := List.mem_range.1 hi
  refine ⟨?_, fun c hc => ?_⟩
  · show (chOf i (os.getD i default)).length < 1000; have := chOf_len i (os.getD i default); omega
  · have := chOf_mem (show c ∈ chOf i (os.getD i default) from hc); omega
theorem ndsOf_forward (os : List Od) (k : Nat) : ∀ i, i < (ndsOf os k).length → ∀ c ∈ ((ndsOf os k).getD i default).ch, i < c := by
  intro i hi c hc
  rw [ndsOf_len] at hi
  rw [ndsOf_get os k i hi] at hc
  exact (chOf_mem hc).1

theorem own_one_new (w : World) (e : TypeId) (u : Value) : (w.alloc (.cells #[u] e)).ownsRow w.heap.size e 1 (.slice (some ⟨w.heap.size, 0, none⟩) 1 1) 1 [u] :=
  ⟨by simp, .inr ⟨w.heap.size, 1, #[u], rfl, Nat.le_refl _, heap_alloc_new _ _, Nat.le_refl _, by simp [maxLen], by simp, by simp⟩⟩
theorem own_pair_new (w : World) (e : TypeId) (u v : Value) : (w.alloc (.cells #[u, v] e)).ownsRow w.heap.size e 2 (.slice (some ⟨w.heap.size, 0, none⟩) 1 1) 1 [u, v] :=
  ⟨by simp, .inr ⟨w.heap.size, 1, #[u, v], rfl, Nat.le_refl _, heap_alloc_new _ _, Nat.le_refl _, by simp [maxLen], by simp, by simp⟩⟩
theorem own_base {w : World} {base base' : Nat} {e : TypeId} {size n : Nat} {v : Value} {xs : List Value} (h : w.ownsRow base e size v n xs) (hb : base' ≤ base) : w.ownsRow base' e size v n xs := by
  refine ⟨h.1, ?_⟩
  rcases h.2 with hn | ⟨g, cap, cur, rfl, hbg, rest⟩
  · exact .inl hn
  · exact .inr ⟨g, cap, cur, rfl, by omega, rest⟩

theorem own_at {w : World} {base h : Nat} {e : TypeId} {u : Value} (hb : base ≤ h) (hh : w.heap[h]? = some (.cells #[u] e (0, 0))) : w.ownsRow base e 1 (.slice (some ⟨h, 0, none⟩) 1 1) 1 [u] :=
  ⟨by simp, .inr ⟨h, 1, #[u], rfl, hb, hh, Nat.le_refl _, by simp [maxLen], by simp, by simp⟩⟩
theorem own_at2 {w : World} {base h : Nat} {e : TypeId} {u v : Value} (hb : base ≤ h) (hh : w.heap[h]? = some (.cells #[u, v] e (0, 0))) : w.ownsRow base e 2 (.slice (some ⟨h, 0, none⟩) 1 1) 1 [u, v] :=
  ⟨by simp, .inr ⟨h, 1, #[u, v], rfl, hb, hh, Nat.le_refl _, by simp [maxLen], by simp, by simp⟩⟩
theorem hp3 (w : World) (a b c : Obj) : (((w.alloc a).alloc b).alloc c).heap[w.heap.size + 1 + 1]? = some c := by
  have h : w.heap.size + 1 + 1 = ((w.alloc a).alloc b).heap.size := by simp
  rw [h]; exact heap_alloc_new _ _
theorem hp4a (w : World) (a b c d : Obj) : ((((w.alloc a).alloc b).alloc c).alloc d).heap[w.heap.size + 1 + 1]? = some c := by
  show ((((w.alloc a).alloc b).alloc c).heap.push d)[w.heap.size + 1 + 1]? = some c
  rw [Array.getElem?_push_lt (by simp)]
  have := hp3 w a b c
  rw [Array.getElem?_eq_getElem (by simp)] at this
  exact this
theorem hp4b (w : World) (a b c d : Obj) : ((((w.alloc a).alloc b).alloc c).alloc d).heap[w.heap.size + 1 + 1 + 1]? = some d := by
  have h : w.heap.size + 1 + 1 + 1 = (((w.alloc a).alloc b).alloc c).heap.size := by simp
  rw [h]; exact heap_alloc_new _ _
theorem heap_set_new (w : World) (p : Addr) (u : Value) (c : Obj) : ((w.setCell p u).alloc c).heap[w.heap.size]? = some c := by
  have h : (w.setCell p u).heap.size = w.heap.size := by simp
  rw [← h]; exact heap_alloc_new _ _
theorem heap_set2_new (w : World) (p q : Addr) (u v : Value) (c : Obj) : (((w.setCell p u).setCell q v).alloc c).heap[w.heap.size]? = some c := by
  have h : w.heap.size = ((w.setCell p u).setCell q v).heap.size := by simp
  rw [h]; exact heap_alloc_new _ _
theorem runKids_le {g : Nat → List Nat → Nat × Nat} (hg : ∀ c o, (g c o).1 ≤ 5) (m : Mat) (o : List Nat) : ∀ l, (runKids g m o l).1 ≤ 5
  | [] => by simp [runKids]
  | (c, s) :: r => by
    unfold runKids
    split
    · exact runKids_le hg m o r
    · exact hg _ _
theorem nodeF_le (m : Mat) (l : List Nd) : ∀ f n o b, (nodeF m l f n o b).1 ≤ 5
  | 0, _, _, _ => by simp [nodeF]
  | f + 1, n, o, b => by
    unfold nodeF
    split
    · unfold foolFlaw; split
      · simp
      · split <;> simp
    · split
      · unfold countFlaw; split <;> simp
      · split
        · simp
        · split
          · simp
          · split
            · simp
            · exact runKids_le (fun c o => nodeF_le m l f c o (b - 1)) m o _
theorem checkF_le (m : Mat) (size : Int) (l : List Nd) : (checkF m size l).1 ≤ 5 := by
  unfold checkF
  split
  · simp
  · split
    · simp
    · split
      · simp
      · exact nodeF_le ..
theorem own_alloc {w : World} {base : Nat} {e : TypeId} {size n : Nat} {v : Value} {xs : List Value} (h : w.ownsRow base e size v n xs) (o : Obj) : (w.alloc o).ownsRow base e size v n xs := own_gr h ((Gr.refl w).alloc o)
theorem own_set_other {w : World} {base : Nat} {e : TypeId} {size n : Nat} {v : Value} {xs : List Value} (h : w.ownsRow base e size v n xs) {p : Addr} (hne : v.ownBlock ≠ some p.block) (u : Value) : (w.setCell p u).ownsRow base e size v n xs := by
  refine ⟨h.1, ?_⟩
  rcases h.2 with hn | ⟨g, cap, cur, rfl, hbg, hgg, rest⟩
  · exact .inl hn
  · exact .inr ⟨g, cap, cur, rfl, hbg, (Below.heap_setCell _ _ _ _ (fun e => hne (by rw [← e]; rfl))).trans hgg, rest⟩

/-- 'append(l, x)' onto a row of numbers, with the place told. -/
theorem wpl_app_i_at {w : World} {ops : Array Oper} {rest : List Oper} {o : Oper} {a : Act} {Q : Exit → Act → World → Prop} (hgd : o.guard = none) (s x : Operand)
    (ho : o.op = .call { callee := .builtin .append, args := #[s, x], argTypes := #[36, 36] })
    (base : Nat) (v : Value) (xs : List Nat) (y : Nat) (hs : a.eval s = v) (hown : w.ownsRow base 3 1 v xs.length (vI xs)) (hb : base ≤ w.heap.size) (hl : xs.length < 1000000)
    (q : Nat) (hx : a.eval x = .slice (some ⟨q, 0, none⟩) 1 1) (hq : q = w.heap.size)
    (h : ∀ v' w', w'.ownsRow base 3 1 v' (xs ++ [y]).length (vI (xs ++ [y])) → (w.alloc (.cells #[.int .i64 (y : Int)] 3)).grownBy w' v.ownBlock → (v'.ownBlock = v.ownBlock ∨ v'.ownBlock = some (w.heap.size + 1)) → wpList Tryd.prog ops Q rest (a.put o.dst v') w') :
    wpList Tryd.prog ops Q (o :: rest) a (w.alloc (.cells #[.int .i64 (y : Int)] 3)) := by
  subst hq
  obtain ⟨i0, hi0, hz0, hz1, hz2⟩ := info_parts info_int
  refine wpList_append_own_at _ hgd s x 36 ho base 3 i0 (.int .i64 0) 1 8 und_ints hi0 hz0 hz1 hz2 rfl (by omega) v xs.length (vI xs) hs (own_gr hown ((Gr.refl w).alloc _)) ⟨w.heap.size, 0, none⟩ 1 1 [.int .i64 (y : Int)] hx rfl (cell_one_new _ _ _) (by simp [Value.oneCell']) (by simp only [maxLen]; omega) (by omega) (by simp; omega) ?_
  intro v' w' h1 h2 _ h3
  exact h v' w' (by simpa [vI] using h1) h2 (by simpa using h3)

/-- 'append(l, x)' of the reference's nodes, whose parts are rows of the call's own from a later block on. -/
theorem wpl_app_row {w wr : World} {ops : Array Oper} {rest : List Oper} {o : Oper} {a : Act} {Q : Exit → Act → World → Prop} (hgd : o.guard = none) (s x : Operand)
    (ho : o.op = .call { callee := .builtin .append, args := #[s, x], argTypes := #[31, 31] })
    (base : Nat) (v : Value) (l : List Nd) (y : Nd) (y1 y2 : Value) (hs : a.eval s = v) (hown : OwnNds .i64 39 wr base v l) (hX : Gr wr w) (hb : base ≤ wr.heap.size) (hl : l.length < 1000000)
    (h1 : w.ownsRow wr.heap.size 3 1 y1 y.ch.length (vI y.ch)) (h2 : w.ownsRow wr.heap.size 40 2 y2 y.ce.length (vP y.ce))
    (q : Nat) (hx : a.eval x = .slice (some ⟨q, 0, none⟩) 1 1) (hq : q = w.heap.size)
    (h : ∀ v' w', OwnNds .i64 39 w' base v' (l ++ [y]) → (w.alloc (.cells #[.int .i64 (y.kind : Int), .int .i64 (y.row : Int), .int .i64 (y.col : Int), y1, y2] 39)).grownBy w' v.ownBlock → wpList Tryd.prog ops Q rest (a.put o.dst v') w') :
    wpList Tryd.prog ops Q (o :: rest) a (w.alloc (.cells #[.int .i64 (y.kind : Int), .int .i64 (y.row : Int), .int .i64 (y.col : Int), y1, y2] 39)) := by
  subst hq
  have hlt : ∀ g, v.ownBlock = some g → g < wr.heap.size := fun g hg => (hown.lt hg).2
  refine wpl_app_nr hgd s x ho base v l y y1 y2 hs (hown.gr hX) (by have := hX.size; omega) hl ⟨own_ints (by simpa [vI] using h1), fun _ p n c e => ?_⟩ (own_pairs h2) (fun _ g hg hy => ?_) (fun _ g hg hy => ?_) (fun _ g hg => ?_) (fun _ g hg => ?_) hx h
  · subst e
    rcases h1.2 with ⟨hn, h0⟩ | ⟨g, cap, cur, hv, _, _, hc, _⟩
    · cases hn; omega
    · cases hv; exact hc
  · have := hlt g hg; have := (World.ownsRow.lt h1 g hy).1; omega
  · have := hlt g hg; have := (World.ownsRow.lt h2 g hy).1; omega
  · have := (World.ownsRow.lt h1 g hg).1; omega
  · have := (World.ownsRow.lt h2 g hg).1; omega

set_option maxHeartbeats 8000000 in
set_option maxRecDepth 100000 in
/-- arbaclaw47.RankForms -/
theorem rankForms_any (R C : Nat) (vb vl : Value) (bs : List Nat) (os : List Od) (size : Int) (w : World) (hR : R < 256) (hC : C < 256) (hbv : BytesV w vb bs) (hbl : bs.length < 4611686018427387904) (hb : ∀ x ∈ bs, x < 256)
    (ho : Odds w vl os) (hol : os.length < 4611686018427387904) (ho8 : ∀ o ∈ os, o.k < 256 ∧ o.n < 256 ∧ o.a < 256 ∧ o.b < 256) (hz : -9223372036854775808 ≤ size ∧ size ≤ 9223372036854775807) (ht : TabOk w) :
    Calls Tryd.prog 3 #[.agg #[.int .u8 (R : Int), .int .u8 (C : Int), vb], vl, .int .i64 size] w fun e w' => e = .returned (.bool true) ∧ Gr w w' := by
  have HBV := Lib.hid hbv
  have HB := Lib.hid hb
  have HO := Lib.hid ho
  have HO8 := Lib.hid ho8
  have HT := Lib.hid ht
  obtain ⟨pb, nb, cb, rfl⟩ : ∃ p n c, vb = .slice p n c := by
    rcases hbv with ⟨_, p, c, h⟩ | ⟨_, b, o, c, h, _⟩ <;> exact ⟨_, _, _, h⟩
  obtain ⟨pl, cl, rfl, hlc⟩ := ho.slice
  have hmg : (makeM R C bs).good := gridMat_good _ _ _ (by omega) (by omega)
  obtain ⟨m, hm⟩ : ∃ m, m = makeM R C bs := ⟨_, rfl⟩
  have HME := Lib.hid hm
  rw [← hm] at hmg
  have HMG := Lib.hid hmg
  obtain ⟨n, hn⟩ : ∃ n, n = os.length := ⟨_, rfl⟩
  have HN := Lib.hid hn
  rw [← hn] at hol hlc HO ⊢
  obtain ⟨K, hK⟩ : ∃ K, K = min n 6 := ⟨_, rfl⟩
  have hK6 : K ≤ 6 := by omega
  have hKn : K ≤ n := by omega
  have hKc : K ≤ cl := by
    by_cases h : os = []
    · have : n = 0 := by rw [hn, h]; rfl
      omega
    · have := hlc h; omega
  have hmin : min (n : Int) 6 = (K : Int) := by omega
  have hif : (if (6 : Int) < (n : Int) then (6 : Int) else (n : Int)) = (K : Int) := by split <;> omega
  clear hbv hb ho ho8 ht hmg hn hlc hK hm
  go_enter Tryd.func3, Tryd.ntmps3
  go_wp2_with fail
  refine (awake_any _ (HT.out.gr ((Gr.refl w).alloc _))).mono ?_
  rintro e w1 ⟨rfl, hx1⟩
  have x0 := hx1.cell (p := ⟨w.heap.size, 0, none⟩) (v := .int .u8 (R : Int)) (by go_simp)
  have x1 := hx1.cell (p := ⟨w.heap.size, 1, none⟩) (v := .int .u8 (C : Int)) (by go_simp)
  have x2 := hx1.cell (p := ⟨w.heap.size, 2, none⟩) (v := .slice pb nb cb) (by go_simp)
  have HX1 := Lib.hid (((Gr.refl w).alloc _).trans hx1)
  have l1 : w.heap.size < w1.heap.size := World.block_lt_of_cell? _ _ x0
  clear hx1
  go_wp2_with fail
  refine (make_any R C _ bs _ hR hC (HBV.out.gr HX1.out) hbl HB.out).mono ?_
  rintro e w2 ⟨⟨vm, rfl, hmv⟩, hx2⟩
  rw [← HME.out] at hmv
  have HMV := Lib.hid hmv
  obtain ⟨um, rfl, hum⟩ := hmv
  obtain ⟨pm, cm, rfl⟩ := hum.slice
  obtain ⟨MC, hMC⟩ : ∃ MC, MC = m.cols := ⟨_, rfl⟩
  obtain ⟨MR, hMR⟩ : ∃ MR, MR = m.rows.length := ⟨_, rfl⟩
  rw [← hMC, ← hMR] at HMV ⊢
  have HX2 := Lib.hid (HX1.out.trans hx2)
  clear hx2 hum hMC hMR x0 x1 x2
  go_wp2_with fail
  refine name_wp fun W hW => ?_
  have hX : Gr w2 W := by rw [hW]; repeat (first | exact Gr.refl _ | refine Gr.alloc ?_ _)
  have m0 : W.cell? ⟨w2.heap.size, 0, none⟩ = some (.int .i64 (MC : Int)) := by rw [hW]; go_simp
  have m1 : W.cell? ⟨w2.heap.size, 1, none⟩ = some (.slice pm MR cm) := by rw [hW]; go_simp
  have q0 : W.cell? ⟨w2.heap.size + 1, 0, none⟩ = some (.int .i64 size) := by rw [hW]; go_simp
  have q1 : W.cell? ⟨w2.heap.size + 1, 1, none⟩ = some (.slice none 0 0) := by rw [hW]; go_simp
  have q2 : W.frozen? ⟨w2.heap.size + 1, 1, none⟩ = false := by rw [hW]; go_simp
  have hs : w2.heap.size + 2 ≤ W.heap.size := World.block_lt_of_cell? _ _ q0
  clear hW
  have HXW := Lib.hid hX
  clear hX
  go_loopw [28] (fun q wr => ∃ k : Nat, k ≤ K ∧ q = .int .i64 k ∧ Gr w2 wr ∧ wr.cell? ⟨w2.heap.size, 0, none⟩ = some (.int .i64 (MC : Int)) ∧ wr.cell? ⟨w2.heap.size, 1, none⟩ = some (.slice pm MR cm) ∧ wr.cell? ⟨w2.heap.size + 1, 0, none⟩ = some (.int .i64 size) ∧ wr.frozen? ⟨w2.heap.size + 1, 1, none⟩ = false ∧ W.heap.size ≤ wr.heap.size ∧
      ∃ p cp, wr.cell? ⟨w2.heap.size + 1, 1, none⟩ = some (.slice p k cp) ∧ OwnNds .i64 39 wr W.heap.size (.slice p k cp) (ndsOf os k)) (fun q _ => K - (intOf q).toNat)
  case atStart => exact ⟨0, Nat.zero_le _, rfl, HXW.out, m0, m1, q0, q2, Nat.le_refl _, none, 0, q1, OwnNds.nil _ _ _ _⟩
  case round =>
    clear m0 m1 q0 q1 q2
    obtain ⟨k, hk, rfl, hG, m0, m1, q0, q2, hsz, p, cp, q1, hown⟩ := hrel
    have HG := Lib.hid hG
    have HOW := Lib.hid hown
    have lw2 : w2.heap.size < wr.heap.size := by omega
    have lw3 : w2.heap.size + 1 < wr.heap.size := by omega
    clear hG hown
    by_cases hlt : k < K
    · rcases HO.out with ⟨h0, _⟩ | ⟨hne, b, o, c, hsl, _, hcell⟩
      · have := HN.out; rw [h0] at this; simp at this; omega
      · rw [← HN.out] at hsl
        simp only [Value.slice.injEq] at hsl
        obtain ⟨rfl, -, rfl⟩ := hsl
        have hc4 := hcell k (by rw [← HN.out]; omega)
        have h8 := HO8.out (os.getD k default) (by rw [List.getD_eq_getElem?_getD, List.getElem?_eq_getElem (by rw [← HN.out]; omega)]; simp)
        have hsc := ndsOf_succ os k
        obtain ⟨x, hx⟩ : ∃ x, x = os.getD k default := ⟨_, rfl⟩
        rw [← hx] at hc4 h8 hsc
        have HSC := Lib.hid hsc
        have hGw := HX2.out.trans HG.out
        have o0 := hGw.cell hc4.1
        have o1 := hGw.cell hc4.2.1
        have o2 := hGw.cell hc4.2.2.1
        have o3 := hGw.cell hc4.2.2.2
        have lb := World.block_lt_of_cell? _ _ o0
        simp only [] at lb
        obtain ⟨hb1, hb2, hb3, hb4⟩ := h8
        have hlk : (ndsOf os k ++ [ndOf k x]).length = k + 1 := by rw [List.length_append, ndsOf_len]; rfl
        have HLK := Lib.hid hlk
        have hll : (ndsOf os k).length < 1000000 := by rw [ndsOf_len]; omega
        have hnd : ndOf k x = ⟨x.k % 5, x.a % 3, x.b % 3, chOf k x, ceOf x⟩ := rfl
        have hch : chOf k x = (if x.k % 5 = 1 ∨ x.n % 16 = 0 then [k + 1 + x.n % 4 / 2] else []) ++ (if x.n % 8 = 7 then [k + 2] else []) := rfl
        have hce : ceOf x = if x.k % 5 = 2 then [(x.a % 3, x.b % 3)] else [] := rfl
        have hk5 : (x.k : Int) % 5 = ((x.k % 5 : Nat) : Int) := by omega
        have ha3 : (x.a : Int) % 3 = ((x.a % 3 : Nat) : Int) := by omega
        have hb3' : (x.b : Int) % 3 = ((x.b % 3 : Nat) : Int) := by omega
        have hn4 : (x.n : Int) % 4 / 2 = ((x.n % 4 / 2 : Nat) : Int) := by omega
        obtain ⟨kd, hkd⟩ : ∃ kd, kd = x.k % 5 := ⟨_, rfl⟩
        obtain ⟨rd, hrd⟩ : ∃ rd, rd = x.a % 3 := ⟨_, rfl⟩
        obtain ⟨cd, hcd⟩ : ∃ cd, cd = x.b % 3 := ⟨_, rfl⟩
        obtain ⟨dd, hdd⟩ : ∃ dd, dd = x.n % 4 / 2 := ⟨_, rfl⟩
        rw [← hkd] at hk5 hnd hch hce
        rw [← hrd] at ha3 hnd hce
        rw [← hcd] at hb3' hnd hce
        rw [← hdd] at hn4 hch
        have hkd5 : kd < 5 := by omega
        have hrd3 : rd < 3 := by omega
        have hcd3 : cd < 3 := by omega
        have hdd2 : dd < 2 := by omega
        obtain ⟨av, hav⟩ : ∃ av, av = k + 1 + dd := ⟨_, rfl⟩
        obtain ⟨ev, hev⟩ : ∃ ev, ev = k + 2 := ⟨_, rfl⟩
        rw [← hav, ← hev] at hch
        have hai : (k : Int) + 1 + (dd : Int) = (av : Int) := by omega
        have hei : (k : Int) + 2 = (ev : Int) := by omega
        have hav9 : av < 1000 := by omega
        have hev9 : ev < 1000 := by omega
        obtain ⟨nd, hndd⟩ : ∃ nd, nd = ndOf k x := ⟨_, rfl⟩
        rw [← hndd] at hnd HSC HLK
        have HND := Lib.hid hnd
        obtain ⟨L0, hL0⟩ : ∃ L0, L0 = ndsOf os k := ⟨_, rfl⟩
        rw [← hL0] at hll HSC HLK HOW
        clear hcell hx hsc hc4 hGw hlk hkd hrd hcd hdd hav hev hnd hndd hL0
        have e16 : ((x.n : Int) % 16 == 0) = decide (x.n % 16 = 0) := by rw [Bool.eq_iff_iff]; simp; omega
        have e8 : ((x.n : Int) % 8 == 7) = decide (x.n % 8 = 7) := by rw [Bool.eq_iff_iff]; simp; omega
        have e1 : ((kd : Int) == 1) = decide (kd = 1) := by rw [Bool.eq_iff_iff]; simp; omega
        have e2 : ((kd : Int) == 2) = decide (kd = 2) := by rw [Bool.eq_iff_iff]; simp; omega
        by_cases k1 : kd = 1
        · have k2 : ¬ kd = 2 := by omega
          by_cases k8 : x.n % 8 = 7
          · skip
            have HCH := Lib.hid (show chOf k x = [av, ev] from by rw [hch, if_pos (.inl k1), if_pos k8]; rfl)
            have HCE := Lib.hid (show ceOf x = [] from by rw [hce, if_neg k2])
            rw [decide_eq_true k1] at e1
            rw [decide_eq_false k2] at e2
            rw [decide_eq_true k8] at e8
            clear hch hce k1 k2 k8 e16
            go_wp2_with (at_builtin; refine wpl_app_i_at rfl (.tmp 70) (.tmp 73) rfl wr.heap.size (.slice (some ⟨wr.heap.size + 1 + 1, 0, none⟩) 1 1) [av] ev rfl (own_at (by omega) (hp3 _ _ _ _)) (by simp <;> omega) (by simp) _ rfl (by simp) ?_)
            intro v5 w5 ho5 hg5 hat5
            have z0 := hg5.cell (a := ⟨wr.heap.size + 1, 0, none⟩) (v := .int .i64 (kd : Int)) (by go_simp) (by simp [Value.ownBlock])
            have z1 := hg5.cell (a := ⟨wr.heap.size + 1, 1, none⟩) (v := .int .i64 (rd : Int)) (by go_simp) (by simp [Value.ownBlock])
            have z2 := hg5.cell (a := ⟨wr.heap.size + 1, 2, none⟩) (v := .int .i64 (cd : Int)) (by go_simp) (by simp [Value.ownBlock])
            have z3 := hg5.cell (a := ⟨wr.heap.size + 1, 3, none⟩) (v := .slice (some ⟨wr.heap.size + 1 + 1, 0, none⟩) 1 1) (by go_simp) (by simp [Value.ownBlock])
            have z4 := hg5.cell (a := ⟨wr.heap.size + 1, 4, none⟩) (v := .slice none 0 0) (by go_simp) (by simp [Value.ownBlock])
            have y3 : w5.frozen? ⟨wr.heap.size + 1, 3, none⟩ = false := (World.frozen?_of_block (hg5.block (wr.heap.size + 1) (by simp <;> omega) (by simp [Value.ownBlock]))).trans (by go_simp)
            have y4 : w5.frozen? ⟨wr.heap.size + 1, 4, none⟩ = false := (World.frozen?_of_block (hg5.block (wr.heap.size + 1) (by simp <;> omega) (by simp [Value.ownBlock]))).trans (by go_simp)
            have HG5 := Lib.hid (Gr.grown (show Gr wr _ from (by repeat (first | exact Gr.refl _ | refine Gr.alloc ?_ _))) hg5 (fun g hg => by simp [Value.ownBlock] at hg; omega))
            have HO5 := Lib.hid ho5
            have hne5 : v5.ownBlock ≠ some (wr.heap.size + 1) := by
              intro e
              rcases hat5 with h | h
              · rw [h] at e; simp [Value.ownBlock] at e <;> omega
              · rw [h] at e; simp [Value.ownBlock] at e <;> omega
            obtain ⟨p5, c5, hv5⟩ := own_slice ho5
            subst hv5
            have HNE5 := Lib.hid hne5
            have lw5 : wr.heap.size + 1 < w5.heap.size := World.block_lt_of_cell? _ _ z0
            have HT5 := Lib.hid (app_thr (wr := wr) hg5 (by repeat (first | exact Gr.refl _ | refine Gr.alloc ?_ _)))
            have v0 := HT5.out.1 _ _ q0 (by simp [Value.ownBlock] <;> omega)
            have v1 := HT5.out.1 _ _ q1 (by simp [Value.ownBlock] <;> omega)
            have v2 := HT5.out.2.1 _ _ q1 q2 (by simp [Value.ownBlock] <;> omega)
            have v3 := HT5.out.1 _ _ m0 (by simp [Value.ownBlock] <;> omega)
            have v4 := HT5.out.1 _ _ m1 (by simp [Value.ownBlock] <;> omega)
            have lw52 : w2.heap.size + 1 < w5.heap.size := by omega
            clear ho5 hg5 hat5 hne5
            go_wp2_with (at_builtin; refine wpl_app_row (wr := wr) rfl (.tmp 87) (.tmp 89) rfl W.heap.size (.slice p k cp) L0 ⟨kd, rd, cd, [av, ev], []⟩ (.slice p5 2 c5) (.slice none 0 0) rfl HOW.out (by repeat (first | exact Gr.refl _ | exact HG5.out | refine Gr.setCell ?_ (by simp only []; omega) _ | refine Gr.alloc ?_ _)) hsz hll (own_set_other HO5.out HNE5.out _) (World.ownsRow_nil _ _ _ _) _ rfl (by simp) ?_)
            intro v9 w9 hown9 hg9
            have hnx := hown9
            rw [show L0 ++ [⟨kd, rd, cd, [av, ev], []⟩] = ndsOf os (k + 1) from by rw [HSC.out, HND.out, HCH.out, HCE.out]] at hnx
            obtain ⟨p9, cp9, hv9⟩ := hnx.slice
            rw [ndsOf_len] at hv9
            subst hv9
            have HT := app_thr (wr := wr) hg9 (Gr.alloc (by repeat (first | exact Gr.refl _ | exact HG5.out | refine Gr.setCell ?_ (by simp only []; omega) _ | refine Gr.alloc ?_ _)) _)
            have u0 := HT.1 _ _ q0 (HOW.out.far (by simp only []; omega))
            have u1 := HT.1 _ _ q1 (HOW.out.far (by simp only []; omega))
            have u2 := HT.2.1 _ _ q1 q2 (HOW.out.far (by simp only []; omega))
            have u3 := HT.1 _ _ m0 (HOW.out.far (by simp only []; omega))
            have u4 := HT.1 _ _ m1 (HOW.out.far (by simp only []; omega))
            have sz9 := HT.2.2
            have HG9 := Lib.hid (Gr.grown (HG.out.trans (Gr.alloc (by repeat (first | exact Gr.refl _ | exact HG5.out | refine Gr.setCell ?_ (by simp only []; omega) _ | refine Gr.alloc ?_ _)) _)) hg9 (fun g hg => by have := (HOW.out.lt hg).1; omega))
            have HN9 := Lib.hid hnx
            clear HT hnx hown9 hg9
            go_wp2
            go_roundw
            case rel => exact ⟨k + 1, by omega, by go_num, HG9.out.setCell (by simp only []; omega) _, cell?_setCell_ne u3 (by simp), cell?_setCell_ne u4 (by simp), cell?_setCell_ne u0 (by simp), (World.frozen?_setCell _ _ _ _).trans u2, by simp <;> omega, p9, cp9, World.cell?_setCell_same' _ _ _ (by rw [u1]; rfl), HN9.out.setCell (by simp only []; omega) _⟩
            case measure => simp [intOf]; omega
          · skip
            have HCH := Lib.hid (show chOf k x = [av] from by rw [hch, if_pos (.inl k1), if_neg k8]; rfl)
            have HCE := Lib.hid (show ceOf x = [] from by rw [hce, if_neg k2])
            rw [decide_eq_true k1] at e1
            rw [decide_eq_false k2] at e2
            rw [decide_eq_false k8] at e8
            clear hch hce k1 k2 k8 e16
            go_wp2_with (at_builtin; refine wpl_app_row (wr := wr) rfl (.tmp 87) (.tmp 89) rfl W.heap.size (.slice p k cp) L0 ⟨kd, rd, cd, [av], []⟩ (.slice (some ⟨wr.heap.size + 1 + 1, 0, none⟩) 1 1) (.slice none 0 0) rfl HOW.out (by repeat (first | exact Gr.refl _ | refine Gr.alloc ?_ _)) hsz hll (own_at (by omega) (hp3 _ _ _ _)) (World.ownsRow_nil _ _ _ _) _ rfl (by simp) ?_)
            intro v9 w9 hown9 hg9
            have hnx := hown9
            rw [show L0 ++ [⟨kd, rd, cd, [av], []⟩] = ndsOf os (k + 1) from by rw [HSC.out, HND.out, HCH.out, HCE.out]] at hnx
            obtain ⟨p9, cp9, hv9⟩ := hnx.slice
            rw [ndsOf_len] at hv9
            subst hv9
            have HT := app_thr (wr := wr) hg9 (Gr.alloc (by repeat (first | exact Gr.refl _ | refine Gr.alloc ?_ _)) _)
            have u0 := HT.1 _ _ q0 (HOW.out.far (by simp only []; omega))
            have u1 := HT.1 _ _ q1 (HOW.out.far (by simp only []; omega))
            have u2 := HT.2.1 _ _ q1 q2 (HOW.out.far (by simp only []; omega))
            have u3 := HT.1 _ _ m0 (HOW.out.far (by simp only []; omega))
            have u4 := HT.1 _ _ m1 (HOW.out.far (by simp only []; omega))
            have sz9 := HT.2.2
            have HG9 := Lib.hid (Gr.grown (HG.out.trans (Gr.alloc (by repeat (first | exact Gr.refl _ | refine Gr.alloc ?_ _)) _)) hg9 (fun g hg => by have := (HOW.out.lt hg).1; omega))
            have HN9 := Lib.hid hnx
            clear HT hnx hown9 hg9
            go_wp2
            go_roundw
            case rel => exact ⟨k + 1, by omega, by go_num, HG9.out.setCell (by simp only []; omega) _, cell?_setCell_ne u3 (by simp), cell?_setCell_ne u4 (by simp), cell?_setCell_ne u0 (by simp), (World.frozen?_setCell _ _ _ _).trans u2, by simp <;> omega, p9, cp9, World.cell?_setCell_same' _ _ _ (by rw [u1]; rfl), HN9.out.setCell (by simp only []; omega) _⟩
            case measure => simp [intOf]; omega
        · by_cases k16 : x.n % 16 = 0
          · have k8 : ¬ x.n % 8 = 7 := by omega
            by_cases k2 : kd = 2
            · skip
              have HCH := Lib.hid (show chOf k x = [av] from by rw [hch, if_pos (.inr k16), if_neg k8]; rfl)
              have HCE := Lib.hid (show ceOf x = [(rd, cd)] from by rw [hce, if_pos k2])
              rw [decide_eq_false k1] at e1
              rw [decide_eq_true k2] at e2
              rw [decide_eq_false k8] at e8
              rw [decide_eq_true k16] at e16
              clear hch hce k1 k2 k8 k16
              have r1 : ∀ o1 o2 o3 o4, ((((wr.alloc o1).alloc o2).alloc o3).alloc o4).cell? ⟨w2.heap.size + 1, 1, none⟩ = some (.slice p k cp) := fun _ _ _ _ => (((((Gr.refl wr).alloc _).alloc _).alloc _).alloc _).cell q1
              go_wp2_with (at_builtin; refine wpl_app_row (wr := wr) rfl (.tmp 87) (.tmp 89) rfl W.heap.size (.slice p k cp) L0 ⟨kd, rd, cd, [av], [(rd, cd)]⟩ (.slice (some ⟨wr.heap.size + 1 + 1, 0, none⟩) 1 1) (.slice (some ⟨wr.heap.size + 1 + 1 + 1, 0, none⟩) 1 1) rfl HOW.out (by repeat (first | exact Gr.refl _ | refine Gr.alloc ?_ _)) hsz hll (own_at (by omega) (hp4a _ _ _ _ _)) (own_at2 (by omega) (hp4b _ _ _ _ _)) _ rfl (by simp) ?_)
              intro v9 w9 hown9 hg9
              have hnx := hown9
              rw [show L0 ++ [⟨kd, rd, cd, [av], [(rd, cd)]⟩] = ndsOf os (k + 1) from by rw [HSC.out, HND.out, HCH.out, HCE.out]] at hnx
              obtain ⟨p9, cp9, hv9⟩ := hnx.slice
              rw [ndsOf_len] at hv9
              subst hv9
              have HT := app_thr (wr := wr) hg9 (Gr.alloc (by repeat (first | exact Gr.refl _ | refine Gr.alloc ?_ _)) _)
              have u0 := HT.1 _ _ q0 (HOW.out.far (by simp only []; omega))
              have u1 := HT.1 _ _ q1 (HOW.out.far (by simp only []; omega))
              have u2 := HT.2.1 _ _ q1 q2 (HOW.out.far (by simp only []; omega))
              have u3 := HT.1 _ _ m0 (HOW.out.far (by simp only []; omega))
              have u4 := HT.1 _ _ m1 (HOW.out.far (by simp only []; omega))
              have sz9 := HT.2.2
              have HG9 := Lib.hid (Gr.grown (HG.out.trans (Gr.alloc (by repeat (first | exact Gr.refl _ | refine Gr.alloc ?_ _)) _)) hg9 (fun g hg => by have := (HOW.out.lt hg).1; omega))
              have HN9 := Lib.hid hnx
              clear HT hnx hown9 hg9
              go_wp2
              go_roundw
              case rel => exact ⟨k + 1, by omega, by go_num, HG9.out.setCell (by simp only []; omega) _, cell?_setCell_ne u3 (by simp), cell?_setCell_ne u4 (by simp), cell?_setCell_ne u0 (by simp), (World.frozen?_setCell _ _ _ _).trans u2, by simp <;> omega, p9, cp9, World.cell?_setCell_same' _ _ _ (by rw [u1]; rfl), HN9.out.setCell (by simp only []; omega) _⟩
              case measure => simp [intOf]; omega
            · skip
              have HCH := Lib.hid (show chOf k x = [av] from by rw [hch, if_pos (.inr k16), if_neg k8]; rfl)
              have HCE := Lib.hid (show ceOf x = [] from by rw [hce, if_neg k2])
              rw [decide_eq_false k1] at e1
              rw [decide_eq_false k2] at e2
              rw [decide_eq_false k8] at e8
              rw [decide_eq_true k16] at e16
              clear hch hce k1 k2 k8 k16
              go_wp2_with (at_builtin; refine wpl_app_row (wr := wr) rfl (.tmp 87) (.tmp 89) rfl W.heap.size (.slice p k cp) L0 ⟨kd, rd, cd, [av], []⟩ (.slice (some ⟨wr.heap.size + 1 + 1, 0, none⟩) 1 1) (.slice none 0 0) rfl HOW.out (by repeat (first | exact Gr.refl _ | refine Gr.alloc ?_ _)) hsz hll (own_at (by omega) (hp3 _ _ _ _)) (World.ownsRow_nil _ _ _ _) _ rfl (by simp) ?_)
              intro v9 w9 hown9 hg9
              have hnx := hown9
              rw [show L0 ++ [⟨kd, rd, cd, [av], []⟩] = ndsOf os (k + 1) from by rw [HSC.out, HND.out, HCH.out, HCE.out]] at hnx
              obtain ⟨p9, cp9, hv9⟩ := hnx.slice
              rw [ndsOf_len] at hv9
              subst hv9
              have HT := app_thr (wr := wr) hg9 (Gr.alloc (by repeat (first | exact Gr.refl _ | refine Gr.alloc ?_ _)) _)
              have u0 := HT.1 _ _ q0 (HOW.out.far (by simp only []; omega))
              have u1 := HT.1 _ _ q1 (HOW.out.far (by simp only []; omega))
              have u2 := HT.2.1 _ _ q1 q2 (HOW.out.far (by simp only []; omega))
              have u3 := HT.1 _ _ m0 (HOW.out.far (by simp only []; omega))
              have u4 := HT.1 _ _ m1 (HOW.out.far (by simp only []; omega))
              have sz9 := HT.2.2
              have HG9 := Lib.hid (Gr.grown (HG.out.trans (Gr.alloc (by repeat (first | exact Gr.refl _ | refine Gr.alloc ?_ _)) _)) hg9 (fun g hg => by have := (HOW.out.lt hg).1; omega))
              have HN9 := Lib.hid hnx
              clear HT hnx hown9 hg9
              go_wp2
              go_roundw
              case rel => exact ⟨k + 1, by omega, by go_num, HG9.out.setCell (by simp only []; omega) _, cell?_setCell_ne u3 (by simp), cell?_setCell_ne u4 (by simp), cell?_setCell_ne u0 (by simp), (World.frozen?_setCell _ _ _ _).trans u2, by simp <;> omega, p9, cp9, World.cell?_setCell_same' _ _ _ (by rw [u1]; rfl), HN9.out.setCell (by simp only []; omega) _⟩
              case measure => simp [intOf]; omega
          · by_cases k8 : x.n % 8 = 7
            · by_cases k2 : kd = 2
              · skip
                have HCH := Lib.hid (show chOf k x = [ev] from by rw [hch, if_neg (fun h => h.elim k1 k16), if_pos k8]; rfl)
                have HCE := Lib.hid (show ceOf x = [(rd, cd)] from by rw [hce, if_pos k2])
                rw [decide_eq_false k1] at e1
                rw [decide_eq_true k2] at e2
                rw [decide_eq_true k8] at e8
                rw [decide_eq_false k16] at e16
                clear hch hce k1 k2 k8 k16
                go_wp2_with (at_builtin; refine wpl_app_i_at rfl (.tmp 70) (.tmp 73) rfl wr.heap.size (.slice none 0 0) [] ev rfl (World.ownsRow_nil _ _ _ _) (by simp <;> omega) (by simp) _ rfl (by simp) ?_)
                intro v5 w5 ho5 hg5 hat5
                have z0 := hg5.cell (a := ⟨wr.heap.size + 1, 0, none⟩) (v := .int .i64 (kd : Int)) (by go_simp) (by simp [Value.ownBlock])
                have z1 := hg5.cell (a := ⟨wr.heap.size + 1, 1, none⟩) (v := .int .i64 (rd : Int)) (by go_simp) (by simp [Value.ownBlock])
                have z2 := hg5.cell (a := ⟨wr.heap.size + 1, 2, none⟩) (v := .int .i64 (cd : Int)) (by go_simp) (by simp [Value.ownBlock])
                have z3 := hg5.cell (a := ⟨wr.heap.size + 1, 3, none⟩) (v := .slice none 0 0) (by go_simp) (by simp [Value.ownBlock])
                have z4 := hg5.cell (a := ⟨wr.heap.size + 1, 4, none⟩) (v := .slice none 0 0) (by go_simp) (by simp [Value.ownBlock])
                have y3 : w5.frozen? ⟨wr.heap.size + 1, 3, none⟩ = false := (World.frozen?_of_block (hg5.block (wr.heap.size + 1) (by simp <;> omega) (by simp [Value.ownBlock]))).trans (by go_simp)
                have y4 : w5.frozen? ⟨wr.heap.size + 1, 4, none⟩ = false := (World.frozen?_of_block (hg5.block (wr.heap.size + 1) (by simp <;> omega) (by simp [Value.ownBlock]))).trans (by go_simp)
                have HG5 := Lib.hid (Gr.grown (show Gr wr _ from (by repeat (first | exact Gr.refl _ | refine Gr.alloc ?_ _))) hg5 (fun g hg => by simp [Value.ownBlock] at hg))
                have HO5 := Lib.hid ho5
                have hne5 : v5.ownBlock ≠ some (wr.heap.size + 1) := by
                  intro e
                  rcases hat5 with h | h
                  · rw [h] at e; simp [Value.ownBlock] at e <;> omega
                  · rw [h] at e; simp [Value.ownBlock] at e <;> omega
                obtain ⟨p5, c5, hv5⟩ := own_slice ho5
                subst hv5
                have HNE5 := Lib.hid hne5
                have lw5 : wr.heap.size + 1 < w5.heap.size := World.block_lt_of_cell? _ _ z0
                have HT5 := Lib.hid (app_thr (wr := wr) hg5 (by repeat (first | exact Gr.refl _ | refine Gr.alloc ?_ _)))
                have v0 := HT5.out.1 _ _ q0 (by simp [Value.ownBlock] <;> omega)
                have v1 := HT5.out.1 _ _ q1 (by simp [Value.ownBlock] <;> omega)
                have v2 := HT5.out.2.1 _ _ q1 q2 (by simp [Value.ownBlock] <;> omega)
                have v3 := HT5.out.1 _ _ m0 (by simp [Value.ownBlock] <;> omega)
                have v4 := HT5.out.1 _ _ m1 (by simp [Value.ownBlock] <;> omega)
                have lw52 : w2.heap.size + 1 < w5.heap.size := by omega
                clear ho5 hg5 hat5 hne5
                go_wp2_with (at_builtin; refine wpl_app_row (wr := wr) rfl (.tmp 87) (.tmp 89) rfl W.heap.size (.slice p k cp) L0 ⟨kd, rd, cd, [ev], [(rd, cd)]⟩ (.slice p5 1 c5) (.slice (some ⟨w5.heap.size, 0, none⟩) 1 1) rfl HOW.out (by repeat (first | exact Gr.refl _ | exact HG5.out | refine Gr.setCell ?_ (by simp only []; omega) _ | refine Gr.alloc ?_ _)) hsz hll (own_alloc (own_set_other (own_set_other HO5.out HNE5.out _) HNE5.out _) _) (own_at2 (by omega) (heap_set2_new _ _ _ _ _ _)) _ rfl (by simp) ?_)
                intro v9 w9 hown9 hg9
                have hnx := hown9
                rw [show L0 ++ [⟨kd, rd, cd, [ev], [(rd, cd)]⟩] = ndsOf os (k + 1) from by rw [HSC.out, HND.out, HCH.out, HCE.out]] at hnx
                obtain ⟨p9, cp9, hv9⟩ := hnx.slice
                rw [ndsOf_len] at hv9
                subst hv9
                have HT := app_thr (wr := wr) hg9 (Gr.alloc (by repeat (first | exact Gr.refl _ | exact HG5.out | refine Gr.setCell ?_ (by simp only []; omega) _ | refine Gr.alloc ?_ _)) _)
                have u0 := HT.1 _ _ q0 (HOW.out.far (by simp only []; omega))
                have u1 := HT.1 _ _ q1 (HOW.out.far (by simp only []; omega))
                have u2 := HT.2.1 _ _ q1 q2 (HOW.out.far (by simp only []; omega))
                have u3 := HT.1 _ _ m0 (HOW.out.far (by simp only []; omega))
                have u4 := HT.1 _ _ m1 (HOW.out.far (by simp only []; omega))
                have sz9 := HT.2.2
                have HG9 := Lib.hid (Gr.grown (HG.out.trans (Gr.alloc (by repeat (first | exact Gr.refl _ | exact HG5.out | refine Gr.setCell ?_ (by simp only []; omega) _ | refine Gr.alloc ?_ _)) _)) hg9 (fun g hg => by have := (HOW.out.lt hg).1; omega))
                have HN9 := Lib.hid hnx
                clear HT hnx hown9 hg9
                go_wp2
                go_roundw
                case rel => exact ⟨k + 1, by omega, by go_num, HG9.out.setCell (by simp only []; omega) _, cell?_setCell_ne u3 (by simp), cell?_setCell_ne u4 (by simp), cell?_setCell_ne u0 (by simp), (World.frozen?_setCell _ _ _ _).trans u2, by simp <;> omega, p9, cp9, World.cell?_setCell_same' _ _ _ (by rw [u1]; rfl), HN9.out.setCell (by simp only []; omega) _⟩
                case measure => simp [intOf]; omega
              · skip
                have HCH := Lib.hid (show chOf k x = [ev] from by rw [hch, if_neg (fun h => h.elim k1 k16), if_pos k8]; rfl)
                have HCE := Lib.hid (show ceOf x = [] from by rw [hce, if_neg k2])
                rw [decide_eq_false k1] at e1
                rw [decide_eq_false k2] at e2
                rw [decide_eq_true k8] at e8
                rw [decide_eq_false k16] at e16
                clear hch hce k1 k2 k8 k16
                go_wp2_with (at_builtin; refine wpl_app_i_at rfl (.tmp 70) (.tmp 73) rfl wr.heap.size (.slice none 0 0) [] ev rfl (World.ownsRow_nil _ _ _ _) (by simp <;> omega) (by simp) _ rfl (by simp) ?_)
                intro v5 w5 ho5 hg5 hat5
                have z0 := hg5.cell (a := ⟨wr.heap.size + 1, 0, none⟩) (v := .int .i64 (kd : Int)) (by go_simp) (by simp [Value.ownBlock])
                have z1 := hg5.cell (a := ⟨wr.heap.size + 1, 1, none⟩) (v := .int .i64 (rd : Int)) (by go_simp) (by simp [Value.ownBlock])
                have z2 := hg5.cell (a := ⟨wr.heap.size + 1, 2, none⟩) (v := .int .i64 (cd : Int)) (by go_simp) (by simp [Value.ownBlock])
                have z3 := hg5.cell (a := ⟨wr.heap.size + 1, 3, none⟩) (v := .slice none 0 0) (by go_simp) (by simp [Value.ownBlock])
                have z4 := hg5.cell (a := ⟨wr.heap.size + 1, 4, none⟩) (v := .slice none 0 0) (by go_simp) (by simp [Value.ownBlock])
                have y3 : w5.frozen? ⟨wr.heap.size + 1, 3, none⟩ = false := (World.frozen?_of_block (hg5.block (wr.heap.size + 1) (by simp <;> omega) (by simp [Value.ownBlock]))).trans (by go_simp)
                have y4 : w5.frozen? ⟨wr.heap.size + 1, 4, none⟩ = false := (World.frozen?_of_block (hg5.block (wr.heap.size + 1) (by simp <;> omega) (by simp [Value.ownBlock]))).trans (by go_simp)
                have HG5 := Lib.hid (Gr.grown (show Gr wr _ from (by repeat (first | exact Gr.refl _ | refine Gr.alloc ?_ _))) hg5 (fun g hg => by simp [Value.ownBlock] at hg))
                have HO5 := Lib.hid ho5
                have hne5 : v5.ownBlock ≠ some (wr.heap.size + 1) := by
                  intro e
                  rcases hat5 with h | h
                  · rw [h] at e; simp [Value.ownBlock] at e <;> omega
                  · rw [h] at e; simp [Value.ownBlock] at e <;> omega
                obtain ⟨p5, c5, hv5⟩ := own_slice ho5
                subst hv5
                have HNE5 := Lib.hid hne5
                have lw5 : wr.heap.size + 1 < w5.heap.size := World.block_lt_of_cell? _ _ z0
                have HT5 := Lib.hid (app_thr (wr := wr) hg5 (by repeat (first | exact Gr.refl _ | refine Gr.alloc ?_ _)))
                have v0 := HT5.out.1 _ _ q0 (by simp [Value.ownBlock] <;> omega)
                have v1 := HT5.out.1 _ _ q1 (by simp [Value.ownBlock] <;> omega)
                have v2 := HT5.out.2.1 _ _ q1 q2 (by simp [Value.ownBlock] <;> omega)
                have v3 := HT5.out.1 _ _ m0 (by simp [Value.ownBlock] <;> omega)
                have v4 := HT5.out.1 _ _ m1 (by simp [Value.ownBlock] <;> omega)
                have lw52 : w2.heap.size + 1 < w5.heap.size := by omega
                clear ho5 hg5 hat5 hne5
                go_wp2_with (at_builtin; refine wpl_app_row (wr := wr) rfl (.tmp 87) (.tmp 89) rfl W.heap.size (.slice p k cp) L0 ⟨kd, rd, cd, [ev], []⟩ (.slice p5 1 c5) (.slice none 0 0) rfl HOW.out (by repeat (first | exact Gr.refl _ | exact HG5.out | refine Gr.setCell ?_ (by simp only []; omega) _ | refine Gr.alloc ?_ _)) hsz hll (own_set_other HO5.out HNE5.out _) (World.ownsRow_nil _ _ _ _) _ rfl (by simp) ?_)
                intro v9 w9 hown9 hg9
                have hnx := hown9
                rw [show L0 ++ [⟨kd, rd, cd, [ev], []⟩] = ndsOf os (k + 1) from by rw [HSC.out, HND.out, HCH.out, HCE.out]] at hnx
                obtain ⟨p9, cp9, hv9⟩ := hnx.slice
                rw [ndsOf_len] at hv9
                subst hv9
                have HT := app_thr (wr := wr) hg9 (Gr.alloc (by repeat (first | exact Gr.refl _ | exact HG5.out | refine Gr.setCell ?_ (by simp only []; omega) _ | refine Gr.alloc ?_ _)) _)
                have u0 := HT.1 _ _ q0 (HOW.out.far (by simp only []; omega))
                have u1 := HT.1 _ _ q1 (HOW.out.far (by simp only []; omega))
                have u2 := HT.2.1 _ _ q1 q2 (HOW.out.far (by simp only []; omega))
                have u3 := HT.1 _ _ m0 (HOW.out.far (by simp only []; omega))
                have u4 := HT.1 _ _ m1 (HOW.out.far (by simp only []; omega))
                have sz9 := HT.2.2
                have HG9 := Lib.hid (Gr.grown (HG.out.trans (Gr.alloc (by repeat (first | exact Gr.refl _ | exact HG5.out | refine Gr.setCell ?_ (by simp only []; omega) _ | refine Gr.alloc ?_ _)) _)) hg9 (fun g hg => by have := (HOW.out.lt hg).1; omega))
                have HN9 := Lib.hid hnx
                clear HT hnx hown9 hg9
                go_wp2
                go_roundw
                case rel => exact ⟨k + 1, by omega, by go_num, HG9.out.setCell (by simp only []; omega) _, cell?_setCell_ne u3 (by simp), cell?_setCell_ne u4 (by simp), cell?_setCell_ne u0 (by simp), (World.frozen?_setCell _ _ _ _).trans u2, by simp <;> omega, p9, cp9, World.cell?_setCell_same' _ _ _ (by rw [u1]; rfl), HN9.out.setCell (by simp only []; omega) _⟩
                case measure => simp [intOf]; omega
            · by_cases k2 : kd = 2
              · skip
                have HCH := Lib.hid (show chOf k x = [] from by rw [hch, if_neg (fun h => h.elim k1 k16), if_neg k8]; rfl)
                have HCE := Lib.hid (show ceOf x = [(rd, cd)] from by rw [hce, if_pos k2])
                rw [decide_eq_false k1] at e1
                rw [decide_eq_true k2] at e2
                rw [decide_eq_false k8] at e8
                rw [decide_eq_false k16] at e16
                clear hch hce k1 k2 k8 k16
                go_wp2_with (at_builtin; refine wpl_app_row (wr := wr) rfl (.tmp 87) (.tmp 89) rfl W.heap.size (.slice p k cp) L0 ⟨kd, rd, cd, [], [(rd, cd)]⟩ (.slice none 0 0) (.slice (some ⟨wr.heap.size + 1 + 1, 0, none⟩) 1 1) rfl HOW.out (by repeat (first | exact Gr.refl _ | refine Gr.alloc ?_ _)) hsz hll (World.ownsRow_nil _ _ _ _) (own_at2 (by omega) (hp3 _ _ _ _)) _ rfl (by simp) ?_)
                intro v9 w9 hown9 hg9
                have hnx := hown9
                rw [show L0 ++ [⟨kd, rd, cd, [], [(rd, cd)]⟩] = ndsOf os (k + 1) from by rw [HSC.out, HND.out, HCH.out, HCE.out]] at hnx
                obtain ⟨p9, cp9, hv9⟩ := hnx.slice
                rw [ndsOf_len] at hv9
                subst hv9
                have HT := app_thr (wr := wr) hg9 (Gr.alloc (by repeat (first | exact Gr.refl _ | refine Gr.alloc ?_ _)) _)
                have u0 := HT.1 _ _ q0 (HOW.out.far (by simp only []; omega))
                have u1 := HT.1 _ _ q1 (HOW.out.far (by simp only []; omega))
                have u2 := HT.2.1 _ _ q1 q2 (HOW.out.far (by simp only []; omega))
                have u3 := HT.1 _ _ m0 (HOW.out.far (by simp only []; omega))
                have u4 := HT.1 _ _ m1 (HOW.out.far (by simp only []; omega))
                have sz9 := HT.2.2
                have HG9 := Lib.hid (Gr.grown (HG.out.trans (Gr.alloc (by repeat (first | exact Gr.refl _ | refine Gr.alloc ?_ _)) _)) hg9 (fun g hg => by have := (HOW.out.lt hg).1; omega))
                have HN9 := Lib.hid hnx
                clear HT hnx hown9 hg9
                go_wp2
                go_roundw
                case rel => exact ⟨k + 1, by omega, by go_num, HG9.out.setCell (by simp only []; omega) _, cell?_setCell_ne u3 (by simp), cell?_setCell_ne u4 (by simp), cell?_setCell_ne u0 (by simp), (World.frozen?_setCell _ _ _ _).trans u2, by simp <;> omega, p9, cp9, World.cell?_setCell_same' _ _ _ (by rw [u1]; rfl), HN9.out.setCell (by simp only []; omega) _⟩
                case measure => simp [intOf]; omega
              · skip
                have HCH := Lib.hid (show chOf k x = [] from by rw [hch, if_neg (fun h => h.elim k1 k16), if_neg k8]; rfl)
                have HCE := Lib.hid (show ceOf x = [] from by rw [hce, if_neg k2])
                rw [decide_eq_false k1] at e1
                rw [decide_eq_false k2] at e2
                rw [decide_eq_false k8] at e8
                rw [decide_eq_false k16] at e16
                clear hch hce k1 k2 k8 k16
                go_wp2_with (at_builtin; refine wpl_app_row (wr := wr) rfl (.tmp 87) (.tmp 89) rfl W.heap.size (.slice p k cp) L0 ⟨kd, rd, cd, [], []⟩ (.slice none 0 0) (.slice none 0 0) rfl HOW.out (by repeat (first | exact Gr.refl _ | refine Gr.alloc ?_ _)) hsz hll (World.ownsRow_nil _ _ _ _) (World.ownsRow_nil _ _ _ _) _ rfl (by simp) ?_)
                intro v9 w9 hown9 hg9
                have hnx := hown9
                rw [show L0 ++ [⟨kd, rd, cd, [], []⟩] = ndsOf os (k + 1) from by rw [HSC.out, HND.out, HCH.out, HCE.out]] at hnx
                obtain ⟨p9, cp9, hv9⟩ := hnx.slice
                rw [ndsOf_len] at hv9
                subst hv9
                have HT := app_thr (wr := wr) hg9 (Gr.alloc (by repeat (first | exact Gr.refl _ | refine Gr.alloc ?_ _)) _)
                have u0 := HT.1 _ _ q0 (HOW.out.far (by simp only []; omega))
                have u1 := HT.1 _ _ q1 (HOW.out.far (by simp only []; omega))
                have u2 := HT.2.1 _ _ q1 q2 (HOW.out.far (by simp only []; omega))
                have u3 := HT.1 _ _ m0 (HOW.out.far (by simp only []; omega))
                have u4 := HT.1 _ _ m1 (HOW.out.far (by simp only []; omega))
                have sz9 := HT.2.2
                have HG9 := Lib.hid (Gr.grown (HG.out.trans (Gr.alloc (by repeat (first | exact Gr.refl _ | refine Gr.alloc ?_ _)) _)) hg9 (fun g hg => by have := (HOW.out.lt hg).1; omega))
                have HN9 := Lib.hid hnx
                clear HT hnx hown9 hg9
                go_wp2
                go_roundw
                case rel => exact ⟨k + 1, by omega, by go_num, HG9.out.setCell (by simp only []; omega) _, cell?_setCell_ne u3 (by simp), cell?_setCell_ne u4 (by simp), cell?_setCell_ne u0 (by simp), (World.frozen?_setCell _ _ _ _).trans u2, by simp <;> omega, p9, cp9, World.cell?_setCell_same' _ _ _ (by rw [u1]; rfl), HN9.out.setCell (by simp only []; omega) _⟩
                case measure => simp [intOf]; omega
    · obtain rfl : k = K := by omega
      obtain ⟨l, hl⟩ : ∃ l, l = ndsOf os k := ⟨_, rfl⟩
      have hlen := ndsOf_len os k
      have hsm := ndsOf_small os k hK6
      have hc9 := ndsOf_c9 os k hK6
      have hfw := ndsOf_forward os k
      rw [← hl] at hlen hsm hc9 hfw HOW
      have hce := check_eq HMG.out size hfw
      have hcl := checkF_le m size l
      have HRP := Lib.hid (show RPfV wr (.agg #[.int .i64 size, .slice p k cp]) size l from ⟨_, rfl, HOW.out.nds⟩)
      have hpa : ∀ x ∈ l, x.kind < 256 ∧ x.ch.length < 1000 ∧ x.ce.length < 1000 := fun x hx => ⟨(hsm x hx).1, (hc9 x hx).1, (hsm x hx).2.2.2.2.1⟩
      have HPA := Lib.hid hpa
      have HSM := Lib.hid hsm
      have HC9 := Lib.hid hc9
      have HCE := Lib.hid hce
      have hll : l.length < 1000 := by omega
      have hll2 : l.length < 1000000 := by omega
      have hmg : m.good := HMG.out
      have hzz := hz
      clear hsm hc9 hfw hce hpa hl hlen
      go_wp2_with fail
      go_region_held3 (fun w' => Gr wr w' ∧ w'.cell? ⟨w2.heap.size, 0, none⟩ = some (.int .i64 (MC : Int)) ∧ w'.cell? ⟨w2.heap.size, 1, none⟩ = some (.slice pm MR cm) ∧ w'.cell? ⟨w2.heap.size + 1, 0, none⟩ = some (.int .i64 size) ∧ w'.cell? ⟨w2.heap.size + 1, 1, none⟩ = some (.slice p k cp))
        (first | exact ⟨(Gr.refl wr).drew, m0, m1, q0, q1⟩ | (have hh := ‹Gr wr _ ∧ _ ∧ _ ∧ _ ∧ _›; exact ⟨hh.1.trans hx1, hx1.cell hh.2.1, hx1.cell hh.2.2.1, hx1.cell hh.2.2.2.1, hx1.cell hh.2.2.2.2⟩) | (have hh := ‹Gr wr _ ∧ _ ∧ _ ∧ _ ∧ _›; exact ⟨(hh.1).setCell (by simp only []; omega) _, cell?_setCell_ne (hh.2.1) (by simp <;> omega), cell?_setCell_ne (hh.2.2.1) (by simp <;> omega), cell?_setCell_ne (hh.2.2.2.1) (by simp <;> omega), cell?_setCell_ne (hh.2.2.2.2) (by simp <;> omega)⟩))
        (first | (go_at_call 9; have hh := ‹Gr wr _ ∧ _ ∧ _ ∧ _ ∧ _›; (with_reducible refine (lmat_any _ m _ (HMV.out.gr (HG.out.trans hh.1)) hmg).mono ?_); rintro e w1 ⟨⟨bq, rfl, hmq⟩, hx1⟩) | (go_at_call 10; have hh := ‹Gr wr _ ∧ _ ∧ _ ∧ _ ∧ _›; (with_reducible refine (lproof_any _ size l _ (HRP.out.gr hh.1) hll HPA.out).mono ?_); rintro e w1 ⟨⟨vp, rfl, hpv⟩, hx1⟩) | (go_at_call 8; have hh := ‹Gr wr _ ∧ _ ∧ _ ∧ _ ∧ _›; (with_reducible refine (check_any _ _ m size l _ (hmq.gr hx1) hmg hpv HSM.out hll2 hzz (HT.out.gr (HX2.out.trans (HG.out.trans hh.1)))).mono ?_); rintro e w1 ⟨rfl, hx1⟩))
      have hfin := ‹Gr wr _ ∧ _ ∧ _ ∧ _ ∧ _›
      obtain ⟨hf0, hf1, hf2, hf3, hf4⟩ := hfin
      have HGf := Lib.hid hf0
      have lf : w2.heap.size + 1 < _ := World.block_lt_of_cell? _ _ hf3
      go_wp2_with fail
      refine (rcheck_any _ _ m size l _ (HMV.out.gr (HG.out.trans HGf.out)) hmg (HRP.out.gr HGf.out) HSM.out HC9.out hll hz).mono ?_
      rintro e w' ⟨rfl, hxe⟩
      rw [← HCE.out] at *
      have HGz := Lib.hid (HX2.out.trans (HG.out.trans (HGf.out.trans hxe)))
      generalize checkF m size l = rr at *
      obtain ⟨ra, rb⟩ := rr
      have hra : ra % 256 = ra := by simp only [] at hcl; omega
      go_wp2_with fail
      go_ret
      first | exact ⟨rfl, HGz.out⟩ | (refine ⟨?_, HGz.out⟩; simp)
end Go.Proofs.YtcmlhpodghfheaaDoor
