/- ref47.All. -/
import Derived.Test.YtcmlhpodghfheaaDoorT11
import Derived.Deep.RegionLaw
set_option linter.unusedSimpArgs false
set_option linter.unusedVariables false
namespace Go.Proofs.YtcmlhpodghfheaaDoor
open Go.RowKit Go.Shelf

section
variable {P : Program}
theorem step_append {w : World} {ops : Array Oper} {o : Oper} {a : Act} {K : Act → World → Prop} {Q : Exit → Act → World → Prop} {E : Prop} (hgd : o.guard = none) (s x : Operand) (t : TypeId)
    (ho : o.op = .call { callee := .builtin .append, args := #[s, x], argTypes := #[t, t] })
    (base : Nat) (e : TypeId) (i : TypeInfo) (z : Value) (size bytes : Nat) (ht : P.underlying t = some (.slice e)) (hi : P.info? e = some i) (hz : i.zero = some z)
    (hsize : i.size = size) (hby : i.bytes = bytes) (hzs : z.cells.size = size) (hsz : 0 < size)
    (v : Value) (n : Nat) (xs : List Value) (hs : a.eval s = v) (hown : w.ownsRow base e size v n xs)
    (ad : Addr) (m c : Nat) (news : List Value) (hx : a.eval x = .slice (some ad) m c) (hl : news.length = m * size) (hnews : ∀ j u, news[j]? = some u → w.cell? (ad.add j) = some u) (h1 : ∀ u ∈ news, u.oneCell' = true)
    (h63 : n + m ≤ maxLen) (hbytes : (n + m) * bytes ≤ 140737488355328) (hbase : base ≤ w.heap.size)
    (h : ∀ v' w', w'.ownsRow base e size v' (n + m) (xs ++ news) → w.grownBy w' v.ownBlock → K (a.put o.dst v') w') : if Region.wanted o (yielded ops a.tmps) = true then Oper.wp P o a w K Q else E := by
  have hw : Region.wanted o (yielded ops a.tmps) = true := by simp [Region.wanted, hgd]
  rw [if_pos hw]
  obtain ⟨v', w', hr, h2, h3, h4⟩ := run_append_own (P := P) w base t o.type e i z size bytes ht hi hz hsize hby hzs hsz v n xs hown ad m c news hl hnews h1 h63 hbytes hbase
  unfold Oper.wp execOp
  simp only [ho, resolve, invoke, builtin, Sem.run_bind, Sem.run_pure, Result.andThen_ok, List.map_toArray, List.map_cons, List.map_nil, hs, hx, hr]
  exact h _ _ h2 h3
theorem step_append_none {w : World} {ops : Array Oper} {o : Oper} {a : Act} {K : Act → World → Prop} {Q : Exit → Act → World → Prop} {E : Prop} (hgd : o.guard = none) (s x : Operand) (t : TypeId)
    (ho : o.op = .call { callee := .builtin .append, args := #[s, x], argTypes := #[t, t] })
    (base : Nat) (e : TypeId) (i : TypeInfo) (size : Nat) (ht : P.underlying t = some (.slice e)) (hi : P.info? e = some i)
    (v : Value) (n : Nat) (xs : List Value) (hs : a.eval s = v) (hown : w.ownsRow base e size v n xs) (hx : a.eval x = .slice none 0 0)
    (h : K (a.put o.dst v) w) : if Region.wanted o (yielded ops a.tmps) = true then Oper.wp P o a w K Q else E := by
  have hw : Region.wanted o (yielded ops a.tmps) = true := by simp [Region.wanted, hgd]
  rw [if_pos hw]
  have hrun := run_append_owned_none (P := P) (w := w) base t o.type e i size ht hi v n xs hown
  unfold Oper.wp
  simp [execOp, ho, resolve, invoke, builtin, hs, hx, hrun, Result.andThen]
  exact h
end

/-- A list of uint64s; nil has no capacity. -/
def U64n (w : World) (v : Value) (l : List Nat) : Prop := U64s w v l ∧ ∀ c, v = .slice none 0 c → c = 0
theorem U64n.gr {w w' : World} {v : Value} {l : List Nat} (h : U64n w v l) (hx : Gr w w') : U64n w' v l := ⟨h.1.gr hx, h.2⟩
/-- 'append(l, x...)' of uint64s, inside a region that draws its order. -/
theorem step_apps_u {w : World} {ops : Array Oper} {o : Oper} {a : Act} {K : Act → World → Prop} {Q : Exit → Act → World → Prop} {E : Prop} (hgd : o.guard = none) (s x : Operand)
    (ho : o.op = .call { callee := .builtin .append, args := #[s, x], argTypes := #[67, 67] })
    (base : Nat) (v u : Value) (xs ys : List Nat) (hs : a.eval s = v) (hown : w.ownsRow base 111 1 v xs.length (vU xs)) (hb : base ≤ w.heap.size) (hl : xs.length + ys.length < 1000000)
    (hx : a.eval x = u) (hu : U64n w u ys)
    (h : ∀ v' w', w'.ownsRow base 111 1 v' (xs ++ ys).length (vU (xs ++ ys)) → w.grownBy w' v.ownBlock → (∀ g, v.ownBlock = some g → base ≤ g) → K (a.put o.dst v') w') : if Region.wanted o (yielded ops a.tmps) = true then Oper.wp Tryd.prog o a w K Q else E := by
  obtain ⟨i0, hi0, hz0, hz1, hz2⟩ := info_parts info_u64
  obtain ⟨hu, hnil⟩ := hu
  have hlow : ∀ g, v.ownBlock = some g → base ≤ g := fun g hg => (World.ownsRow.lt hown g hg).1
  have hfin : ∀ p m c, u = .slice (some p) m c → (vU ys).length = m → (∀ j y, (vU ys)[j]? = some y → w.cell? (p.add j) = some y) → if Region.wanted o (yielded ops a.tmps) = true then Oper.wp Tryd.prog o a w K Q else E := by
    rintro p m c rfl hm hc
    refine step_append hgd s x 67 ho base 111 i0 (.int .u64 0) 1 8 und_u64s hi0 hz0 hz1 hz2 rfl (by omega) v xs.length (vU xs) hs hown p m c (vU ys) hx (by omega) hc (vU_one ys) (by simp only [maxLen]; simp [vU] at hm; omega) (by simp [vU] at hm; omega) hb ?_
    intro v' w' h1 h2
    refine h v' w' ?_ h2 hlow
    have : (vU ys).length = ys.length := by simp [vU]
    rw [List.length_append, ← this, hm, show vU (xs ++ ys) = vU xs ++ vU ys from by simp [vU]]
    exact h1
  rcases hu with ⟨rfl, p, c, rfl⟩ | ⟨hne, b, o', c, hu, hrest⟩
  · cases p with
    | none =>
      obtain rfl := hnil c rfl
      refine step_append_none hgd s x 67 ho base 111 i0 1 und_u64s hi0 v xs.length (vU xs) hs hown hx ?_
      refine h v w (by simpa using hown) ⟨rfl, rfl, rfl, Nat.le_refl _, fun _ _ _ => rfl⟩ hlow
    | some p => exact hfin p 0 c rfl rfl (fun j y hj => by simp [vU] at hj)
  · refine hfin _ _ c hu (by simp [vU]) fun j y hj => ?_
    have hj' : j < ys.length := by
      have := (List.getElem?_eq_some_iff.1 hj).1
      simpa [vU] using this
    have hy : y = .int .u64 ((ys.getD j 0 : Nat) : Int) := by
      simp only [vU, List.getElem?_map, List.getElem?_eq_getElem hj', Option.map_some, Option.some.injEq] at hj
      rw [← hj]; simp [List.getD, List.getElem?_eq_getElem hj']
    rw [hy]
    by_cases h0 : j = 0
    · subst h0; simpa [Addr.add] using (hfin_cell_u hrest) 0 hj'
    · simpa [Addr.add, h0] using (hfin_cell_u hrest) j hj'

theorem U64s.one {w : World} {q s c : Nat} (h : w.cell? ⟨q, 0, none⟩ = some (.int .u64 (s : Int))) (hc : 1 ≤ c) : U64n w (.slice (some ⟨q, 0, none⟩) 1 c) [s] :=
  ⟨.inr ⟨by simp, q, 0, c, rfl, hc, fun i hi => by
    obtain rfl : i = 0 := by simpa using hi
    simpa using h⟩, fun c e => by cases e⟩

theorem heap_two (w : World) (a b : Obj) : ((w.alloc a).alloc b).drew.heap[w.heap.size]? = some a := by
  show ((w.heap.push a).push b)[w.heap.size]? = some a
  rw [Array.getElem?_push_lt (by simp)]
  simp
theorem heap_three (w : World) (a b : Obj) : ((w.alloc a).alloc b).drew.heap[w.heap.size + 1]? = some b := by
  have h : w.heap.size + 1 = (w.alloc a).heap.size := by simp
  rw [h]
  exact heap_alloc_new (w.alloc a) b
theorem two_cell (w : World) (a : Obj) (v : Value) (t : TypeId) : ((w.alloc a).alloc (.cells #[v] t)).drew.cell? ⟨w.heap.size + 1, 0, none⟩ = some v := by
  simp only [World.cell?]
  rw [heap_three]
  rfl
theorem three_cell (w : World) (b : Obj) (v : Value) (t : TypeId) : ((w.alloc (.cells #[v] t)).alloc b).drew.cell? ⟨w.heap.size, 0, none⟩ = some v := by
  simp only [World.cell?]
  rw [heap_two]
  rfl
theorem own_empty {w : World} {base h : Nat} {e : TypeId} {size : Nat} (hb : base ≤ h) (hh : w.heap[h]? = some (.cells #[] e (0, 0))) : w.ownsRow base e size (.slice (some ⟨h, 0, none⟩) 0 0) 0 [] :=
  ⟨by simp, .inr ⟨h, 0, #[], rfl, hb, hh, Nat.le_refl _, by simp [maxLen], by simp, by simp⟩⟩
theorem U64s.take {w : World} {b cap : Nat} {l : List Nat} (i : Nat) (hi : i ≤ l.length) (hc : l.length ≤ cap) (h : ∀ t, t < l.length → w.cell? ⟨b, t, none⟩ = some (.int .u64 ((l.getD t 0 : Nat) : Int))) : U64n w (.slice (some ⟨b, 0, none⟩) i cap) (l.take i) := by
  refine ⟨?_, fun c e => by cases e⟩
  rcases Nat.eq_zero_or_pos i with h0 | h0
  · subst h0; exact .inl ⟨rfl, _, _, rfl⟩
  · refine .inr ⟨fun e => ?_, b, 0, cap, by rw [List.length_take, Nat.min_eq_left hi], by rw [List.length_take]; omega, fun t ht => ?_⟩
    · have := congrArg List.length e; rw [List.length_take, Nat.min_eq_left hi] at this; simp at this; omega
    · rw [List.length_take] at ht
      have hti : t < i := by omega
      rw [Nat.zero_add, h t (by omega)]
      simp [List.getD, List.getElem?_take_of_lt hti]
theorem U64s.drop {w : World} {b cap : Nat} {l : List Nat} (i : Nat) (hi : i < l.length) (hc : l.length ≤ cap) (h : ∀ t, t < l.length → w.cell? ⟨b, t, none⟩ = some (.int .u64 ((l.getD t 0 : Nat) : Int))) : U64n w (.slice (some ⟨b, i, none⟩) (l.length - i) (cap - i)) (l.drop i) := by
  refine ⟨?_, fun c e => by cases e⟩
  refine .inr ⟨fun e => ?_, b, i, cap - i, by rw [List.length_drop], by rw [List.length_drop]; omega, fun t ht => ?_⟩
  · have := congrArg List.length e; rw [List.length_drop] at this; simp at this; omega
  · rw [List.length_drop] at ht
    rw [h (i + t) (by omega)]
    simp [List.getD, List.getElem?_drop]

/-- A list of uint64s that is nil where it is empty. -/
def U64x (w : World) (v : Value) (l : List Nat) : Prop := (l = [] ∧ v = .slice none 0 0) ∨ (l ≠ [] ∧ ∃ b cap, v = .slice (some ⟨b, 0, none⟩) l.length cap ∧ l.length ≤ cap ∧ ∀ i, i < l.length → w.cell? ⟨b, i, none⟩ = some (.int .u64 ((l.getD i 0 : Nat) : Int)))
theorem U64x.gr {w w' : World} {v : Value} {l : List Nat} (h : U64x w v l) (hx : Gr w w') : U64x w' v l := by
  rcases h with h | ⟨h0, b, cap, h1, h2, h3⟩
  · exact .inl h
  · exact .inr ⟨h0, b, cap, h1, h2, fun i hi => hx.cell (h3 i hi)⟩
theorem U64x.u64s {w : World} {v : Value} {l : List Nat} (h : U64x w v l) : U64s w v l := by
  rcases h with ⟨rfl, rfl⟩ | ⟨h0, b, cap, h1, h2, h3⟩
  · exact .inl ⟨rfl, _, _, rfl⟩
  · exact .inr ⟨h0, b, 0, cap, h1, h2, fun i hi => by rw [Nat.zero_add]; exact h3 i hi⟩
theorem own_u64x {w : World} {base : Nat} {e : TypeId} {v : Value} {xs : List Nat} (h : w.ownsRow base e 1 v xs.length (vU xs)) (hne : xs ≠ []) : U64x w v xs := by
  obtain ⟨g, cap, rfl, _, h2, h3⟩ := own_cells_at h (List.length_pos_iff.2 hne)
  refine .inr ⟨hne, g, cap, rfl, h2, fun i hi => (h3 i _ ?_).1⟩
  simp [vU, List.getD, List.getElem?_eq_getElem hi]

set_option maxHeartbeats 4000000 in
set_option maxRecDepth 100000 in
/-- ref47.All -/
theorem all47_any (v : Value) (m : Mat) (w : World) (hv : RMatV w v m) (hm : m.small) :
    Calls Tryd.prog 73 #[v] w fun e w' => (∃ p c, e = .returned (.slice p m.all.length c) ∧ U64s w' (.slice p m.all.length c) m.all) ∧ Gr w w' := by
  have HV := Lib.hid hv
  obtain ⟨u, rfl, hu⟩ := hv
  obtain ⟨pu, cu, rfl⟩ := hu.slice
  have hp6 := pow6 hm
  have hal : m.all = allK m (2 ^ m.cols - 1) := rfl
  have hC6 := hm.1
  obtain ⟨C, hC⟩ : ∃ C, C = m.cols := ⟨_, rfl⟩
  obtain ⟨R, hR⟩ : ∃ R, R = m.rows.length := ⟨_, rfl⟩
  rw [← hC] at HV hp6 hal hC6 ⊢
  rw [← hR] at HV ⊢
  have hpw : IntKind.u64.wrap ((2 : Int) ^ C) = ((2 ^ C : Nat) : Int) := by
    rcases (by omega : C = 0 ∨ C = 1 ∨ C = 2 ∨ C = 3 ∨ C = 4 ∨ C = 5 ∨ C = 6) with h | h | h | h | h | h | h <;> subst h <;> rfl
  obtain ⟨M, hM⟩ : ∃ M, M = 2 ^ C := ⟨_, rfl⟩
  rw [← hM] at hp6 hal hpw
  have HAL := Lib.hid hal
  generalize m.all = ML at *
  clear hu hC hR hM hal
  go_enter Tryd.func73, Tryd.ntmps73
  go_wp2_with fail
  refine name_wp fun W hW => ?_
  have hX : Gr w W := by rw [hW]; repeat (first | exact Gr.refl _ | refine Gr.alloc ?_ _)
  have f0 : W.cell? ⟨w.heap.size, 0, none⟩ = some (.int .i64 (C : Int)) := by rw [hW]; go_simp
  have f1 : W.cell? ⟨w.heap.size, 1, none⟩ = some (.slice pu R cu) := by rw [hW]; go_simp
  clear hW
  have HX := Lib.hid hX
  clear hX
  go_loopw [3, 4] (fun o q wr => ∃ s : Nat, 1 ≤ s ∧ s ≤ M ∧ q = .int .u64 s ∧ Gr W wr ∧ U64x wr o (allK m (s - 1))) (fun _ q _ => M - (intOf q).toNat)
  case atStart => exact ⟨1, Nat.le_refl _, hp6.2, rfl, Gr.refl _, .inl ⟨rfl, rfl⟩⟩
  case round =>
    obtain ⟨wo, rfl⟩ : ∃ wo : World, wo = wr := ⟨_, rfl⟩
    obtain ⟨s, hs1, hsM, rfl, hG, hux⟩ := hrel
    have HG := Lib.hid hG
    have HU := Lib.hid hux
    have g0 := hG.cell f0
    have g1 := hG.cell f1
    have lr : w.heap.size < wo.heap.size := World.block_lt_of_cell? _ _ g0
    clear hG hux
    by_cases hlt : s < M
    · have hstep : allK m s = if allOk m s then insB s (allK m (s - 1)) else allK m (s - 1) := by
        obtain ⟨k, rfl⟩ : ∃ k, s = k + 1 := ⟨s - 1, by omega⟩
        rfl
      have HST := Lib.hid hstep
      have hok : allOk m s = (decide (m.close s = s) && !decide (m.hav s = 0)) := rfl
      have HOK := Lib.hid hok
      clear hstep hok
      go_wp2_with fail
      refine (rclose_any _ m s _ (HV.out.gr (HX.out.trans HG.out)) hm (by omega)).mono ?_
      rintro e w1 ⟨rfl, hx1⟩
      have HG1 := Lib.hid (HG.out.trans hx1)
      have HU1 := Lib.hid (HU.out.gr hx1)
      have g0' := hx1.cell g0
      have g1' := hx1.cell g1
      have l1 : w.heap.size < w1.heap.size := World.block_lt_of_cell? _ _ g0'
      clear hx1 g0 g1 lr HU HG
      by_cases hcl : m.close s = s
      · have hne : (((m.close s : Nat) : Int) != (s : Int)) = false := by rw [hcl]; simp
        rw [decide_eq_true hcl, Bool.true_and] at HOK
        generalize m.close s = Cl at *
        clear hcl
        go_wp2_with fail
        refine (rhav_any _ m s _ (HV.out.gr (HX.out.trans HG1.out)) hm (by omega)).mono ?_
        rintro e w2 ⟨rfl, hx2⟩
        have HG2 := Lib.hid (HG1.out.trans hx2)
        have HU2 := Lib.hid (HU1.out.gr hx2)
        have q0 := hx2.cell g0'
        have q1 := hx2.cell g1'
        have l2 : w.heap.size < w2.heap.size := World.block_lt_of_cell? _ _ q0
        clear hx2 g0' g1' l1 HU1 HG1
        by_cases hz : m.hav s = 0
        · have hz0 : (((m.hav s : Nat) : Int) == 0) = true := by rw [hz]; rfl
          have hs2 := HST.out
          rw [HOK.out, hz] at hs2
          simp only [decide_true, Bool.not_true, Bool.false_eq_true, if_false] at hs2
          have HS2 := Lib.hid hs2
          generalize m.hav s = Hv at *
          clear hz hs2
          go_wp2
          go_roundw
          case rel => exact ⟨s + 1, by omega, by omega, by go_num, HG2.out, by rw [Nat.add_sub_cancel, HS2.out]; exact HU2.out⟩
          case measure => simp [intOf]; omega
        · have hz0 : (((m.hav s : Nat) : Int) == 0) = false := by simp; omega
          have hs2 := HST.out
          rw [HOK.out, decide_eq_false hz] at hs2
          simp only [Bool.not_false, if_true] at hs2
          have HS2 := Lib.hid hs2
          have hlen := allK_len m (s - 1)
          have hmem := fun x => (allK_mem m x (s - 1)).1
          have HMEM := Lib.hid hmem
          obtain ⟨l, hl⟩ : ∃ l, l = allK m (s - 1) := ⟨_, rfl⟩
          rw [← hl] at HS2 HU2 hlen HMEM
          obtain ⟨n, hn⟩ : ∃ n, n = l.length := ⟨_, rfl⟩
          have HN := Lib.hid hn
          rw [← hn] at hlen
          obtain ⟨po, co, hou⟩ := HU2.out.u64s.slice
          subst hou
          rw [← hn] at HU2 ⊢
          generalize m.hav s = Hv at *
          clear hz hs2 hmem hl hn
          go_wp2_with fail
          go_loopw [5] (fun q wr => ∃ i : Nat, i ≤ n ∧ q = .int .i64 i ∧ Gr w2 wr ∧ ∀ t, t < i → decide (key (l.getD t 0) < key s) = true) (fun q _ => n - (intOf q).toNat)
          case atStart => exact ⟨0, Nat.zero_le _, rfl, Gr.refl _, fun t ht => by omega⟩
          case round =>
            obtain ⟨i, hi, rfl, hG, hbef⟩ := hrel
            have HGi := Lib.hid hG
            have hG' := hG
            have HBE := Lib.hid hbef
            clear hG hbef
            have q0' := hG'.cell q0
            have q1' := hG'.cell q1
            have l3 : w.heap.size < wr.heap.size := World.block_lt_of_cell? _ _ q0'
            clear hG'
            have hkey : (¬ i < n → True) := fun _ => trivial
            by_cases hcont : i < n ∧ decide (key (l.getD i 0) < key s) = true
            · obtain ⟨hlt, hbv⟩ := hcont
              rcases HU2.out.gr HGi.out with ⟨hl0, hv0⟩ | ⟨hne1, b, cap, hsl, hcap, hcell⟩
              · have := HN.out; rw [hl0] at this; simp at this; omega
              · simp only [Value.slice.injEq] at hsl
                obtain ⟨rfl, -, rfl⟩ := hsl
                have hx := hcell i (by rw [← HN.out]; exact hlt)
                have hxm := HMEM.out (l.getD i 0) (by rw [List.getD_eq_getElem?_getD, List.getElem?_eq_getElem (by rw [← HN.out]; exact hlt)]; simp)
                have hb2 : ∀ t, t < i + 1 → decide (key (l.getD t 0) < key s) = true := fun t ht => by
                  by_cases h : t = i
                  · rw [h]; exact hbv
                  · exact HBE.out t (by omega)
                have HB2 := Lib.hid hb2
                have hx64 : l.getD i 0 < 64 := by omega
                generalize l.getD i 0 = x at *
                have hbx := World.block_lt_of_cell? _ _ hx
                simp only [] at hbx
                have hco : i < co := by have := HN.out; omega
                clear hb2 hcell hcap hxm hkey
                go_wp2_with fail
                refine (before_any x s _ hx64 (by omega)).mono ?_
                rintro e w3 ⟨rfl, hx3⟩
                rw [hbv]
                have HG3 := Lib.hid (HGi.out.trans hx3)
                clear hx3
                go_wp2
                go_roundw
                case rel => exact ⟨i + 1, by omega, by go_num, HG3.out, HB2.out⟩
                case measure => simp [intOf]; omega
            · have hex : i < n → decide (key (l.getD i 0) < key s) = false := fun h => by
                rw [Bool.eq_false_iff]; exact fun h' => hcont ⟨h, h'⟩
              have hins := insB_at s l i (by rw [← HN.out]; exact hi) HBE.out (by rw [← HN.out]; exact hex)
              rw [← HS2.out] at hins
              have HINS := Lib.hid hins
              have HEX := Lib.hid hex
              have hlt1 : (l.take i).length ≤ 64 := by simp; omega
              have hld1 : (l.drop i).length ≤ 64 := by simp; have := HN.out; omega
              obtain ⟨LT, hLT⟩ : ∃ LT, LT = l.take i := ⟨_, rfl⟩
              obtain ⟨LD, hLD⟩ : ∃ LD, LD = l.drop i := ⟨_, rfl⟩
              rw [← hLT] at hlt1 HINS
              rw [← hLD] at hld1 HINS
              have HLT := Lib.hid hLT
              have HLD := Lib.hid hLD
              clear hcont hex hins hLT hLD hkey
              rcases HU2.out.gr HGi.out with ⟨hl0, hv0⟩ | ⟨hne1, b, cap, hsl, hcap, hcell⟩
              · have hn0 : n = 0 := by rw [HN.out, hl0]; rfl
                subst hn0
                obtain rfl : i = 0 := by omega
                simp only [Value.slice.injEq] at hv0
                obtain ⟨rfl, -, rfl⟩ := hv0
                obtain ⟨wz, rfl⟩ : ∃ wz : World, wz = wr := ⟨_, rfl⟩
                have HT := Lib.hid (show U64n wz (.slice none 0 0) LT from ⟨.inl ⟨by rw [HLT.out]; rfl, _, _, rfl⟩, fun c e => by cases e; rfl⟩)
                have HD := Lib.hid (show U64n wz (.slice none 0 0) LD from ⟨.inl ⟨by rw [HLD.out, hl0]; rfl, _, _, rfl⟩, fun c e => by cases e; rfl⟩)
                have HGz := Lib.hid HGi.out
                clear hl0
                go_wp2_with fail
                go_region_law (first | (refine step_apps_u rfl (.tmp 38) (.tmp 41) rfl wz.heap.size _ _ [] LT rfl (own_empty (by simp) (by first | exact heap_alloc_new _ _ | exact heap_two _ _ _ | exact heap_three _ _ _)) (by simp <;> omega) (by simp; omega) rfl (HT.out.gr (by repeat (first | exact Gr.refl _ | refine Gr.drew ?_ | refine Gr.alloc ?_ _))) ?_; intro v1 w5 ho5 hg5 hl5; have HO5 := Lib.hid ho5; have HG5 := Lib.hid (Gr.grown (show Gr wz _ from (by repeat (first | exact Gr.refl _ | refine Gr.drew ?_ | refine Gr.alloc ?_ _))) hg5 hl5); (first | (have hq5 := hg5.cell (two_cell _ _ _ _) (fun e => by have e' : some (wz.heap.size + 1) = some wz.heap.size := e; simp at e')) | (have hq5 := hg5.cell (three_cell _ _ _ _) (fun e => by have e' : some wz.heap.size = some (wz.heap.size + 1) := e; simp at e')) | (have hq5 : True := trivial)); clear ho5 hg5 hl5) | (refine step_apps_u rfl (.tmp 42) (.tmp 44) rfl wz.heap.size _ _ LT [s] rfl (by first | exact HO5.out | exact own_gr HO5.out (by repeat (first | exact Gr.refl _ | refine Gr.drew ?_ | refine Gr.alloc ?_ _))) (by first | exact HG5.out.size | (have := HG5.out.size; simp <;> omega)) (by simp; omega) rfl (U64s.one (by first | assumption | go_simp) (Nat.le_refl _)) ?_; intro v2 w7 ho7 hg7 hl7; have HO7 := Lib.hid ho7; have HG7 := Lib.hid (Gr.grown (HG5.out.trans (by repeat (first | exact Gr.refl _ | refine Gr.drew ?_ | refine Gr.alloc ?_ _))) hg7 hl7); clear ho7 hg7 hl7) | (refine step_apps_u rfl (.tmp 45) (.tmp 48) rfl wz.heap.size _ _ (LT ++ [s]) LD rfl HO7.out HG7.out.size (by simp; omega) rfl (by first | exact HD.out.gr HG7.out | exact (HD.out _ _).gr HG7.out) ?_; intro v3 w9 ho9 hg9 hl9; have HO9 := Lib.hid ho9; have HG9 := Lib.hid (Gr.grown HG7.out hg9 hl9); clear ho9 hg9 hl9))
                all_goals
                  have hfin := HO9.out
                  rw [show (LT ++ [s]) ++ LD = allK m s from by rw [List.append_assoc]; exact HINS.out] at hfin
                  have HFIN := Lib.hid (own_u64x hfin (by rw [← HINS.out]; simp))
                  clear hfin
                  go_wp2
                  go_roundw
                  case rel => exact ⟨s + 1, by omega, by omega, by go_num, HG2.out.trans (HGz.out.trans HG9.out), by rw [Nat.add_sub_cancel]; exact HFIN.out⟩
                  case measure => simp [intOf]; omega
              · simp only [Value.slice.injEq] at hsl
                obtain ⟨rfl, -, rfl⟩ := hsl
                have hcell' : ∀ t, t < l.length → wr.cell? ⟨b, t, none⟩ = some (.int .u64 ((l.getD t 0 : Nat) : Int)) := hcell
                have hT := U64s.take i (by rw [← HN.out]; exact hi) hcap hcell'
                rw [← HLT.out] at hT
                by_cases hlt : i < n
                · have hx := hcell i (by rw [← HN.out]; exact hlt)
                  have hxm := HMEM.out (l.getD i 0) (by rw [List.getD_eq_getElem?_getD, List.getElem?_eq_getElem (by rw [← HN.out]; exact hlt)]; simp)
                  have hbv := HEX.out hlt
                  have hx64 : l.getD i 0 < 64 := by omega
                  have hD := U64s.drop i (by rw [← HN.out]; exact hlt) hcap hcell'
                  rw [← HLD.out, ← HN.out] at hD
                  rw [← HN.out] at hcap
                  generalize l.getD i 0 = x at *
                  have hbx := World.block_lt_of_cell? _ _ hx
                  simp only [] at hbx
                  have hco : i < co := by omega
                  have hco1 : i ≤ co := by omega
                  have hci : ¬ co = i := by omega
                  have hT' := hT
                  have hD' := hD
                  have HTr := Lib.hid hT'
                  have HDr := Lib.hid hD'
                  clear hcell hcell' hxm hT hD hT' hD'
                  go_wp2_with fail
                  refine (before_any x s _ hx64 (by omega)).mono ?_
                  rintro e wz ⟨rfl, hx3⟩
                  rw [hbv]
                  have HGz := Lib.hid (HGi.out.trans hx3)
                  have HT := Lib.hid (HTr.out.gr hx3)
                  have HD := Lib.hid (HDr.out.gr hx3)
                  clear hx3
                  go_wp2_with fail
                  go_region_law (first | (refine step_apps_u rfl (.tmp 38) (.tmp 41) rfl wz.heap.size _ _ [] LT rfl (own_empty (by simp) (by first | exact heap_alloc_new _ _ | exact heap_two _ _ _ | exact heap_three _ _ _)) (by simp <;> omega) (by simp; omega) rfl (HT.out.gr (by repeat (first | exact Gr.refl _ | refine Gr.drew ?_ | refine Gr.alloc ?_ _))) ?_; intro v1 w5 ho5 hg5 hl5; have HO5 := Lib.hid ho5; have HG5 := Lib.hid (Gr.grown (show Gr wz _ from (by repeat (first | exact Gr.refl _ | refine Gr.drew ?_ | refine Gr.alloc ?_ _))) hg5 hl5); (first | (have hq5 := hg5.cell (two_cell _ _ _ _) (fun e => by have e' : some (wz.heap.size + 1) = some wz.heap.size := e; simp at e')) | (have hq5 := hg5.cell (three_cell _ _ _ _) (fun e => by have e' : some wz.heap.size = some (wz.heap.size + 1) := e; simp at e')) | (have hq5 : True := trivial)); clear ho5 hg5 hl5) | (refine step_apps_u rfl (.tmp 42) (.tmp 44) rfl wz.heap.size _ _ LT [s] rfl (by first | exact HO5.out | exact own_gr HO5.out (by repeat (first | exact Gr.refl _ | refine Gr.drew ?_ | refine Gr.alloc ?_ _))) (by first | exact HG5.out.size | (have := HG5.out.size; simp <;> omega)) (by simp; omega) rfl (U64s.one (by first | assumption | go_simp) (Nat.le_refl _)) ?_; intro v2 w7 ho7 hg7 hl7; have HO7 := Lib.hid ho7; have HG7 := Lib.hid (Gr.grown (HG5.out.trans (by repeat (first | exact Gr.refl _ | refine Gr.drew ?_ | refine Gr.alloc ?_ _))) hg7 hl7); clear ho7 hg7 hl7) | (refine step_apps_u rfl (.tmp 45) (.tmp 48) rfl wz.heap.size _ _ (LT ++ [s]) LD rfl HO7.out HG7.out.size (by simp; omega) rfl (by first | exact HD.out.gr HG7.out | exact (HD.out _ _).gr HG7.out) ?_; intro v3 w9 ho9 hg9 hl9; have HO9 := Lib.hid ho9; have HG9 := Lib.hid (Gr.grown HG7.out hg9 hl9); clear ho9 hg9 hl9))
                  all_goals
                    have hfin := HO9.out
                    rw [show (LT ++ [s]) ++ LD = allK m s from by rw [List.append_assoc]; exact HINS.out] at hfin
                    have HFIN := Lib.hid (own_u64x hfin (by rw [← HINS.out]; simp))
                    clear hfin
                    go_wp2
                    go_roundw
                    case rel => exact ⟨s + 1, by omega, by omega, by go_num, HG2.out.trans (HGz.out.trans HG9.out), by rw [Nat.add_sub_cancel]; exact HFIN.out⟩
                    case measure => simp [intOf]; omega
                · obtain rfl : i = n := by omega
                  have hlen0 : LD = [] := by rw [HLD.out]; exact List.drop_of_length_le (by rw [← HN.out]; exact Nat.le_refl _)
                  obtain ⟨wz, rfl⟩ : ∃ wz : World, wz = wr := ⟨_, rfl⟩
                  have HT := Lib.hid hT
                  have HD := Lib.hid (show ∀ p c, U64n wz (.slice (some p) 0 c) LD from fun p c => ⟨.inl ⟨hlen0, _, c, rfl⟩, fun c e => by cases e⟩)
                  have HGz := Lib.hid HGi.out
                  have hbb := World.block_lt_of_cell? _ _ (hcell' 0 (List.length_pos_iff.2 hne1))
                  simp only [] at hbb
                  rw [← HN.out] at hcap
                  clear hcell hcell' hT hlen0
                  by_cases hci : co = i
                  · subst hci
                    go_wp2_with fail
                    go_region_law (first | (refine step_apps_u rfl (.tmp 38) (.tmp 41) rfl wz.heap.size _ _ [] LT rfl (own_empty (by simp) (by first | exact heap_alloc_new _ _ | exact heap_two _ _ _ | exact heap_three _ _ _)) (by simp <;> omega) (by simp; omega) rfl (HT.out.gr (by repeat (first | exact Gr.refl _ | refine Gr.drew ?_ | refine Gr.alloc ?_ _))) ?_; intro v1 w5 ho5 hg5 hl5; have HO5 := Lib.hid ho5; have HG5 := Lib.hid (Gr.grown (show Gr wz _ from (by repeat (first | exact Gr.refl _ | refine Gr.drew ?_ | refine Gr.alloc ?_ _))) hg5 hl5); (first | (have hq5 := hg5.cell (two_cell _ _ _ _) (fun e => by have e' : some (wz.heap.size + 1) = some wz.heap.size := e; simp at e')) | (have hq5 := hg5.cell (three_cell _ _ _ _) (fun e => by have e' : some wz.heap.size = some (wz.heap.size + 1) := e; simp at e')) | (have hq5 : True := trivial)); clear ho5 hg5 hl5) | (refine step_apps_u rfl (.tmp 42) (.tmp 44) rfl wz.heap.size _ _ LT [s] rfl (by first | exact HO5.out | exact own_gr HO5.out (by repeat (first | exact Gr.refl _ | refine Gr.drew ?_ | refine Gr.alloc ?_ _))) (by first | exact HG5.out.size | (have := HG5.out.size; simp <;> omega)) (by simp; omega) rfl (U64s.one (by first | assumption | go_simp) (Nat.le_refl _)) ?_; intro v2 w7 ho7 hg7 hl7; have HO7 := Lib.hid ho7; have HG7 := Lib.hid (Gr.grown (HG5.out.trans (by repeat (first | exact Gr.refl _ | refine Gr.drew ?_ | refine Gr.alloc ?_ _))) hg7 hl7); clear ho7 hg7 hl7) | (refine step_apps_u rfl (.tmp 45) (.tmp 48) rfl wz.heap.size _ _ (LT ++ [s]) LD rfl HO7.out HG7.out.size (by simp; omega) rfl (by first | exact HD.out.gr HG7.out | exact (HD.out _ _).gr HG7.out) ?_; intro v3 w9 ho9 hg9 hl9; have HO9 := Lib.hid ho9; have HG9 := Lib.hid (Gr.grown HG7.out hg9 hl9); clear ho9 hg9 hl9))
                    all_goals
                      have hfin := HO9.out
                      rw [show (LT ++ [s]) ++ LD = allK m s from by rw [List.append_assoc]; exact HINS.out] at hfin
                      have HFIN := Lib.hid (own_u64x hfin (by rw [← HINS.out]; simp))
                      clear hfin
                      go_wp2
                      go_roundw
                      case rel => exact ⟨s + 1, by omega, by omega, by go_num, HG2.out.trans (HGz.out.trans HG9.out), by rw [Nat.add_sub_cancel]; exact HFIN.out⟩
                      case measure => simp [intOf]; omega
                  · go_wp2_with fail
                    go_region_law (first | (refine step_apps_u rfl (.tmp 38) (.tmp 41) rfl wz.heap.size _ _ [] LT rfl (own_empty (by simp) (by first | exact heap_alloc_new _ _ | exact heap_two _ _ _ | exact heap_three _ _ _)) (by simp <;> omega) (by simp; omega) rfl (HT.out.gr (by repeat (first | exact Gr.refl _ | refine Gr.drew ?_ | refine Gr.alloc ?_ _))) ?_; intro v1 w5 ho5 hg5 hl5; have HO5 := Lib.hid ho5; have HG5 := Lib.hid (Gr.grown (show Gr wz _ from (by repeat (first | exact Gr.refl _ | refine Gr.drew ?_ | refine Gr.alloc ?_ _))) hg5 hl5); (first | (have hq5 := hg5.cell (two_cell _ _ _ _) (fun e => by have e' : some (wz.heap.size + 1) = some wz.heap.size := e; simp at e')) | (have hq5 := hg5.cell (three_cell _ _ _ _) (fun e => by have e' : some wz.heap.size = some (wz.heap.size + 1) := e; simp at e')) | (have hq5 : True := trivial)); clear ho5 hg5 hl5) | (refine step_apps_u rfl (.tmp 42) (.tmp 44) rfl wz.heap.size _ _ LT [s] rfl (by first | exact HO5.out | exact own_gr HO5.out (by repeat (first | exact Gr.refl _ | refine Gr.drew ?_ | refine Gr.alloc ?_ _))) (by first | exact HG5.out.size | (have := HG5.out.size; simp <;> omega)) (by simp; omega) rfl (U64s.one (by first | assumption | go_simp) (Nat.le_refl _)) ?_; intro v2 w7 ho7 hg7 hl7; have HO7 := Lib.hid ho7; have HG7 := Lib.hid (Gr.grown (HG5.out.trans (by repeat (first | exact Gr.refl _ | refine Gr.drew ?_ | refine Gr.alloc ?_ _))) hg7 hl7); clear ho7 hg7 hl7) | (refine step_apps_u rfl (.tmp 45) (.tmp 48) rfl wz.heap.size _ _ (LT ++ [s]) LD rfl HO7.out HG7.out.size (by simp; omega) rfl (by first | exact HD.out.gr HG7.out | exact (HD.out _ _).gr HG7.out) ?_; intro v3 w9 ho9 hg9 hl9; have HO9 := Lib.hid ho9; have HG9 := Lib.hid (Gr.grown HG7.out hg9 hl9); clear ho9 hg9 hl9))
                    all_goals
                      have hfin := HO9.out
                      rw [show (LT ++ [s]) ++ LD = allK m s from by rw [List.append_assoc]; exact HINS.out] at hfin
                      have HFIN := Lib.hid (own_u64x hfin (by rw [← HINS.out]; simp))
                      clear hfin
                      go_wp2
                      go_roundw
                      case rel => exact ⟨s + 1, by omega, by omega, by go_num, HG2.out.trans (HGz.out.trans HG9.out), by rw [Nat.add_sub_cancel]; exact HFIN.out⟩
                      case measure => simp [intOf]; omega
      · have hne : (((m.close s : Nat) : Int) != (s : Int)) = true := by simp; omega
        have hs2 := HST.out
        rw [HOK.out, decide_eq_false hcl] at hs2
        simp only [Bool.false_and, Bool.false_eq_true, if_false] at hs2
        have HS2 := Lib.hid hs2
        generalize m.close s = Cl at *
        clear hcl hs2
        go_wp2
        go_roundw
        case rel => exact ⟨s + 1, by omega, by omega, by go_num, HG1.out, by rw [Nat.add_sub_cancel, HS2.out]; exact HU1.out⟩
        case measure => simp [intOf]; omega
    · obtain rfl : s = M := by omega
      have hu := HU.out.u64s
      rw [← HAL.out] at hu
      have HUU := Lib.hid hu
      obtain ⟨p, c, hsl⟩ := hu.slice
      subst hsl
      clear hu
      go_wp2
      go_ret
      exact ⟨⟨_, _, rfl, HUU.out⟩, HX.out.trans HG.out⟩
end Go.Proofs.YtcmlhpodghfheaaDoor
