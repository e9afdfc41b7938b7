/- ref47.Fool. -/
import Derived.Test.YtcmlhpodghfheaaDoorT10
import Derived.Test.YtcmlhpodghfheaaDoorU2
set_option linter.unusedSimpArgs false
set_option linter.unusedVariables false
/- ref47.wrong. -/
namespace Go.Proofs.YtcmlhpodghfheaaDoor
open Go.RowKit Go.Shelf

theorem fool_no_has {m : Mat} {cs : List (Nat × Nat)} {k : Nat} (hk : k < cs.length) (h : m.has (cs.getD k (0, 0)).1 (cs.getD k (0, 0)).2 = false) : foolB m cs = false := by
  unfold foolB
  rw [Bool.and_eq_false_iff]
  left
  rw [Bool.eq_false_iff]
  intro ha
  have := List.all_eq_true.1 ha (cs.getD k (0, 0)) (by rw [List.getD_eq_getElem?_getD, List.getElem?_eq_getElem hk]; simp)
  rw [h] at this
  exact absurd this (by simp)
theorem fool_no_pair {m : Mat} {cs : List (Nat × Nat)} {k j : Nat} (hk : k < cs.length) (hj : j < k) (h : okPair m cs k j = false) : foolB m cs = false := by
  unfold foolB
  rw [Bool.and_eq_false_iff]
  right
  unfold Mat.apart
  rw [Bool.eq_false_iff]
  intro ha
  have h1 := List.all_eq_true.1 ha k (List.mem_range.2 hk)
  have h2 := List.all_eq_true.1 h1 j (List.mem_range.2 hj)
  rw [h] at h2
  exact absurd h2 (by simp)
theorem fool_yes {m : Mat} {cs : List (Nat × Nat)} (h1 : ∀ k, k < cs.length → m.has (cs.getD k (0, 0)).1 (cs.getD k (0, 0)).2 = true) (h2 : ∀ k, k < cs.length → ∀ j, j < k → okPair m cs k j = true) : foolB m cs = true := by
  unfold foolB
  rw [Bool.and_eq_true]
  constructor
  · rw [List.all_eq_true]
    intro c hc
    obtain ⟨i, hi, rfl⟩ := List.getElem_of_mem hc
    have := h1 i hi
    rw [List.getD_eq_getElem?_getD, List.getElem?_eq_getElem hi] at this
    exact this
  · unfold Mat.apart
    rw [List.all_eq_true]
    intro i hi
    rw [List.all_eq_true]
    intro j hj
    exact h2 i (List.mem_range.1 hi) j (List.mem_range.1 hj)

set_option maxHeartbeats 2000000 in
set_option maxRecDepth 100000 in
/-- ref47.Fool -/
theorem fool47_any (v v2 : Value) (m : Mat) (cs : List (Nat × Nat)) (w : World) (hv : RMatV w v m) (hm : m.ok) (hc : Cells w v2 cs) (hb : ∀ c ∈ cs, c.1 < 64 ∧ c.2 < 64) (hl : cs.length < 1000) :
    Calls Tryd.prog 72 #[v, v2] w fun e w' => e = .returned (.bool (foolB m cs)) ∧ Gr w w' := by
  have HV := Lib.hid hv
  have HM := Lib.hid hm
  have HB := Lib.hid hb
  have HC := Lib.hid hc
  obtain ⟨u, rfl, hu⟩ := hv
  obtain ⟨pu, cu, rfl⟩ := hu.slice
  obtain ⟨pc, cc, rfl⟩ := hc.slice
  generalize m.cols = C at *
  generalize m.rows.length = R at *
  obtain ⟨n, hn⟩ : ∃ n, n = cs.length := ⟨_, rfl⟩
  have HN := Lib.hid hn
  rw [← hn] at hl HC ⊢
  clear hu hm hb hc hn
  go_enter Tryd.func72, Tryd.ntmps72
  go_wp2_with fail
  refine name_wp fun W hW => ?_
  have hX : Gr w W := by rw [hW]; repeat (first | exact Gr.refl _ | refine Gr.alloc ?_ _)
  have f0 : W.cell? ⟨w.heap.size, 0, none⟩ = some (.int .i64 (C : Int)) := by rw [hW]; go_simp
  have f1 : W.cell? ⟨w.heap.size, 1, none⟩ = some (.slice pu R cu) := by rw [hW]; go_simp
  clear hW
  have HX := Lib.hid hX
  clear hX
  go_loopw [11] (fun i wr => ∃ k : Nat, k ≤ n ∧ i = .int .i64 k ∧ Gr W wr ∧ (∀ i, i < k → m.has (cs.getD i (0, 0)).1 (cs.getD i (0, 0)).2 = true) ∧ (∀ i, i < k → ∀ j, j < i → okPair m cs i j = true)) (fun i _ => n - (intOf i).toNat)
  case atStart => exact ⟨0, Nat.zero_le _, rfl, Gr.refl _, fun i hi => by omega, fun i hi => by omega⟩
  case round =>
    obtain ⟨wo, rfl⟩ : ∃ wo : World, wo = wr := ⟨_, rfl⟩
    obtain ⟨k, hk, rfl, hG, hhas, hok⟩ := hrel
    have HG := Lib.hid hG
    have HHAS := Lib.hid hhas
    have HOK := Lib.hid hok
    have g0 := hG.cell f0
    have g1 := hG.cell f1
    have lr : w.heap.size < wo.heap.size := World.block_lt_of_cell? _ _ g0
    clear hG hok hhas
    by_cases hlt : k < n
    · rcases HC.out with ⟨h0, _⟩ | ⟨hne, b, o, c, hsl, hcap, hcell⟩
      · have := HN.out; rw [h0] at this; simp at this; omega
      · rw [← HN.out] at hsl hcap
        simp only [Value.slice.injEq] at hsl
        obtain ⟨rfl, -, rfl⟩ := hsl
        have hcell' : ∀ i, i < n → w.cell? ⟨b, o + i * 2, none⟩ = some (.int .i64 (((cs.getD i (0, 0)).1 : Nat) : Int)) ∧ w.cell? ⟨b, o + i * 2 + 1, none⟩ = some (.int .i64 (((cs.getD i (0, 0)).2 : Nat) : Int)) := fun i hi => hcell i (by rw [← HN.out]; exact hi)
        have HCE := Lib.hid hcell'
        have hck := hcell' k hlt
        have hk1 := HG.out.cell (HX.out.cell hck.1)
        have hk2 := HG.out.cell (HX.out.cell hck.2)
        have hbx := HB.out (cs.getD k (0, 0)) (by rw [List.getD_eq_getElem?_getD, List.getElem?_eq_getElem (by rw [← HN.out]; exact hlt)]; simp)
        obtain ⟨⟨x1, x2⟩, hx⟩ : ∃ x : Nat × Nat, x = cs.getD k (0, 0) := ⟨_, rfl⟩
        rw [← hx] at hk1 hk2 hbx
        have HXX := Lib.hid hx
        simp only [] at hk1 hk2 hbx
        have hbk := World.block_lt_of_cell? _ _ hk1
        simp only [] at hbk
        have hkc : k ≤ cc := by omega
        clear hcell hcell' hck hx
        go_wp2_with fail
        refine (rhas_any _ m x1 x2 _ (HV.out.gr (HX.out.trans (HG.out.trans ((Gr.refl wo).alloc _)))) HM.out (by omega) (by omega)).mono ?_
        rintro e w1 ⟨rfl, hx1⟩
        have q1 := hx1.cell (p := ⟨wo.heap.size, 0, none⟩) (v := .int .i64 (x1 : Int)) (by go_simp)
        have q2 := hx1.cell (p := ⟨wo.heap.size, 1, none⟩) (v := .int .i64 (x2 : Int)) (by go_simp)
        have HX1 := Lib.hid (((Gr.refl wo).alloc (.cells #[.int .i64 (x1 : Int), .int .i64 (x2 : Int)] 40)).trans hx1)
        have lo1 : wo.heap.size < w1.heap.size := World.block_lt_of_cell? _ _ q1
        clear hx1 hk1 hk2
        cases hh : m.has x1 x2 with
        | false =>
          have hr : foolB m cs = false := fool_no_has (k := k) (by rw [← HN.out]; exact hlt) (by rw [← HXX.out]; exact hh)
          have HR := Lib.hid hr
          clear hr hh
          go_wp2
          go_ret
          exact ⟨by rw [HR.out]; rfl, HX.out.trans (HG.out.trans HX1.out)⟩
        | true =>
          have HH := Lib.hid hh
          clear hh
          go_wp2_with fail
          go_loopw [27] (fun i wi => ∃ j : Nat, j ≤ k ∧ i = .int .i64 j ∧ Gr w1 wi ∧ (∀ i, i < j → okPair m cs k i = true)) (fun i _ => k - (intOf i).toNat)
          case atStart => exact ⟨0, Nat.zero_le _, rfl, Gr.refl _, fun i hi => by omega⟩
          case round =>
            obtain ⟨j, hj, rfl, hGi, hokj⟩ := hrel
            have HGi := Lib.hid hGi
            have HOKJ := Lib.hid hokj
            have z1 := hGi.cell q1
            have z2 := hGi.cell q2
            have z3 := hGi.cell (HX1.out.cell g0)
            have z4 := hGi.cell (HX1.out.cell g1)
            have lz : wo.heap.size < wr.heap.size := World.block_lt_of_cell? _ _ z1
            have lz2 : w.heap.size < wr.heap.size := World.block_lt_of_cell? _ _ z3
            clear hGi hokj
            by_cases hjk : j < k
            · have hcj := HCE.out j (by omega)
              have hGall := HX.out.trans (HG.out.trans (HX1.out.trans HGi.out))
              have hj1 := hGall.cell hcj.1
              have hj2 := hGall.cell hcj.2
              have hby := HB.out (cs.getD j (0, 0)) (by rw [List.getD_eq_getElem?_getD, List.getElem?_eq_getElem (by rw [← HN.out]; omega)]; simp)
              obtain ⟨⟨y1, y2⟩, hy⟩ : ∃ y : Nat × Nat, y = cs.getD j (0, 0) := ⟨_, rfl⟩
              rw [← hy] at hj1 hj2 hby
              have HY := Lib.hid hy
              have HGALL := Lib.hid hGall
              simp only [] at hj1 hj2 hby
              have hbj := World.block_lt_of_cell? _ _ hj1
              simp only [] at hbj
              clear hy hcj hGall
              have heq : ((x1 : Int) == (y1 : Int) && (x2 : Int) == (y2 : Int)) = ((cs.getD k (0, 0)) == (cs.getD j (0, 0))) := by
                rw [← HXX.out, ← HY.out, Bool.eq_iff_iff]; simp [Prod.ext_iff]; omega
              cases hq : ((x1 : Int) == (y1 : Int) && (x2 : Int) == (y2 : Int)) with
              | true =>
                have hep : ∀ w, (binOp .eql 40 (.agg #[.int .i64 (x1 : Int), .int .i64 (x2 : Int)]) (.agg #[.int .i64 (y1 : Int), .int .i64 (y2 : Int)])).run Tryd.prog w = .ok (.bool true) w := fun w => by rw [eql_pair, hq]
                rw [hq] at heq
                have hr : foolB m cs = false := fool_no_pair (k := k) (j := j) (by rw [← HN.out]; exact hlt) hjk (by unfold okPair; rw [← heq]; rfl)
                have HR := Lib.hid hr
                clear heq hq hr
                go_wp2_with fail
                go_ret
                exact ⟨by rw [HR.out]; rfl, HX.out.trans (HG.out.trans (HX1.out.trans (HGi.out.trans ((Gr.refl _).alloc _))))⟩
              | false =>
                have hep : ∀ w, (binOp .eql 40 (.agg #[.int .i64 (x1 : Int), .int .i64 (x2 : Int)]) (.agg #[.int .i64 (y1 : Int), .int .i64 (y2 : Int)])).run Tryd.prog w = .ok (.bool false) w := fun w => by rw [eql_pair, hq]
                rw [hq] at heq
                have hokp : okPair m cs k j = m.indep (x1, x2) (y1, y2) := by
                  unfold okPair; rw [← heq, ← HXX.out, ← HY.out]; simp
                have HOP := Lib.hid hokp
                clear heq hq hokp
                go_wp2_with fail
                refine (rindep_any _ m x1 x2 y1 y2 _ (HV.out.gr (HGALL.out.trans ((Gr.refl _).alloc _))) HM.out hbx.1 hbx.2 hby.1 hby.2).mono ?_
                rintro e w3 ⟨rfl, hx3⟩
                have HG3 := Lib.hid ((HGi.out.trans ((Gr.refl wr).alloc (.cells #[.int .i64 (y1 : Int), .int .i64 (y2 : Int)] 40))).trans hx3)
                clear hx3 hj1 hj2
                cases hi : m.indep (x1, x2) (y1, y2) with
                | true =>
                  have hnext : ∀ i, i < j + 1 → okPair m cs k i = true := fun i hi' => by
                    rcases Nat.lt_or_ge i j with h | h
                    · exact HOKJ.out i h
                    · obtain rfl : i = j := by omega
                      rw [HOP.out]; exact hi
                  have HNX := Lib.hid hnext
                  clear hnext hi
                  go_wp2
                  go_roundw
                  case rel => exact ⟨j + 1, by omega, by go_num, HG3.out, HNX.out⟩
                  case measure => simp [intOf]; omega
                | false =>
                  have hr : foolB m cs = false := fool_no_pair (k := k) (j := j) (by rw [← HN.out]; exact hlt) hjk (by rw [HOP.out]; exact hi)
                  have HR := Lib.hid hr
                  clear hr hi
                  go_wp2
                  go_ret
                  exact ⟨by rw [HR.out]; rfl, HX.out.trans (HG.out.trans (HX1.out.trans HG3.out))⟩
            · obtain rfl : j = k := by omega
              have hh2 : ∀ i, i < j + 1 → m.has (cs.getD i (0, 0)).1 (cs.getD i (0, 0)).2 = true := fun i hi' => by
                rcases Nat.lt_or_ge i j with h | h
                · exact HHAS.out i h
                · obtain rfl : i = j := by omega
                  rw [← HXX.out]; exact HH.out
              have hk2 : ∀ i, i < j + 1 → ∀ j', j' < i → okPair m cs i j' = true := fun i hi' j' hj' => by
                rcases Nat.lt_or_ge i j with h | h
                · exact HOK.out i h j' hj'
                · obtain rfl : i = j := by omega
                  exact HOKJ.out j' hj'
              have HH2 := Lib.hid hh2
              have HK2 := Lib.hid hk2
              clear hh2 hk2
              go_wp2
              go_roundw
              case rel => exact ⟨j + 1, by omega, by go_num, HG.out.trans (HX1.out.trans HGi.out), HH2.out, HK2.out⟩
              case measure => simp [intOf]; omega
    · obtain rfl : k = n := by omega
      have hr : foolB m cs = true := fool_yes (fun i hi => HHAS.out i (by rw [HN.out]; exact hi)) (fun i hi => HOK.out i (by rw [HN.out]; exact hi))
      have HR := Lib.hid hr
      clear hr
      go_wp2
      go_ret
      exact ⟨by rw [HR.out]; rfl, HX.out.trans HG.out⟩
end Go.Proofs.YtcmlhpodghfheaaDoor

namespace Go.Proofs.YtcmlhpodghfheaaDoor
open Go.RowKit Go.Shelf

/-- The struct value v is a proof of the reference. -/
def RPfV (w : World) (v : Value) (size : Int) (l : List Nd) : Prop := ∃ u, v = .agg #[.int .i64 size, u] ∧ NdsK .i64 w u l
theorem RPfV.gr {w w' : World} {v : Value} {size : Int} {l : List Nd} (h : RPfV w v size l) (hx : Gr w w') : RPfV w' v size l := by
  obtain ⟨u, h1, h2⟩ := h; exact ⟨u, h1, h2.gr hx⟩

theorem Ints.take {w : World} {p : Option Addr} {n c : Nat} {xs : List Nat} (h : Ints w (.slice p n c) xs) (i : Nat) (hi : i ≤ xs.length) : Ints w (.slice p i c) (xs.take i) := by
  rcases Nat.eq_zero_or_pos i with h0 | h0
  · subst h0; exact .inl ⟨rfl, p, c, rfl⟩
  · rcases h with ⟨rfl, _⟩ | ⟨hne, b, o, c', he, hcell⟩
    · simp at hi; omega
    · simp only [Value.slice.injEq] at he
      obtain ⟨rfl, -, rfl⟩ := he
      refine .inr ⟨fun e => ?_, b, o, c, by rw [List.length_take, Nat.min_eq_left hi], fun t ht => ?_⟩
      · have := congrArg List.length e; rw [List.length_take, Nat.min_eq_left hi] at this; simp at this; omega
      · rw [List.length_take] at ht
        have hti : t < i := by omega
        rw [hcell t (by omega)]
        simp [List.getD, List.getElem?_take_of_lt hti]

theorem wrong_kid {l : List Nd} {n i : Nat} (hi : i < (l.getD n default).ch.length) (h : badKid l n (l.getD n default).ch i = true) : wrongB l n = true := by
  unfold wrongB
  have : (List.range (l.getD n default).ch.length).any (badKid l n (l.getD n default).ch) = true := List.any_eq_true.2 ⟨i, List.mem_range.2 hi, h⟩
  rw [this]; simp
theorem wrong_rest {l : List Nd} {n : Nat} (h1 : ¬ (l.getD n default).kind < 1) (h2 : ¬ 3 < (l.getD n default).kind) (h3 : ¬ ((l.getD n default).kind ≠ 1 ∧ 0 < (l.getD n default).ch.length)) (h4 : ∀ i, i < (l.getD n default).ch.length → badKid l n (l.getD n default).ch i = false) :
    wrongB l n = (decide (0 < n) && !(l.any fun y => hasB y.ch n)) := by
  unfold wrongB
  have : (List.range (l.getD n default).ch.length).any (badKid l n (l.getD n default).ch) = false := by
    rw [List.any_eq_false]
    intro i hi
    rw [h4 i (List.mem_range.1 hi)]; simp
  rw [this, decide_eq_false h1, decide_eq_false h2]
  have h5 : (decide ((l.getD n default).kind ≠ 1) && decide (0 < (l.getD n default).ch.length)) = false := by
    rw [Bool.eq_false_iff]
    intro h
    rw [Bool.and_eq_true] at h
    exact h3 ⟨of_decide_eq_true h.1, of_decide_eq_true h.2⟩
  rw [h5]; simp

/-- A node of the reference's at hand. -/
theorem NdsK.at {w : World} {v : Value} {l : List Nd} (h : NdsK .i64 w v l) (i : Nat) (hi : i < l.length) : ∃ b o c, v = .slice (some ⟨b, o, none⟩) l.length c ∧ l.length ≤ c ∧ NdAtK .i64 w b (o + i * 5) (l.getD i default) := by
  rcases h with ⟨rfl, _⟩ | ⟨_, b, o, c, h1, h2, h3⟩
  · simp at hi
  · exact ⟨b, o, c, h1, h2, h3 i hi⟩

set_option maxHeartbeats 4000000 in
set_option maxRecDepth 100000 in
/-- ref47.wrong -/
theorem wrong_any (v : Value) (size : Int) (l : List Nd) (n : Nat) (w : World) (hp : RPfV w v size l) (hn : n < l.length) (hll : l.length < 1000) (hs : ∀ x ∈ l, x.ch.length < 1000 ∧ x.kind < 256 ∧ ∀ c ∈ x.ch, c < 1000) :
    Calls Tryd.prog 32 #[v, .int .i64 (n : Int)] w fun e w' => e = .returned (.bool (wrongB l n)) ∧ Gr w w' := by
  obtain ⟨u, rfl, hu⟩ := hp
  have HU := Lib.hid hu
  have HS := Lib.hid hs
  obtain ⟨bl, ol, cl, rfl, hlc, hat⟩ := hu.at n hn
  obtain ⟨p1, c1, p2, c2, h1, h2, h3, h4, h5, h6, h7⟩ := hat
  have hbl := World.block_lt_of_cell? _ _ h1
  simp only [] at hbl
  have hmem : l.getD n default ∈ l := by rw [List.getD_eq_getElem?_getD, List.getElem?_eq_getElem hn]; simp
  obtain ⟨hs1, hs2, hs3⟩ := hs _ hmem
  have hwk := fun i => wrong_kid (l := l) (n := n) (i := i)
  have hwr := wrong_rest (l := l) (n := n)
  have hw1 : (l.getD n default).kind < 1 → wrongB l n = true := fun h => by unfold wrongB; rw [decide_eq_true h]; simp
  have hw2 : 3 < (l.getD n default).kind → wrongB l n = true := fun h => by unfold wrongB; rw [decide_eq_true h]; simp
  have hw3 : ((l.getD n default).kind ≠ 1 ∧ 0 < (l.getD n default).ch.length) → wrongB l n = true := fun h => by unfold wrongB; rw [decide_eq_true h.1, decide_eq_true h.2]; simp
  have HWK := Lib.hid hwk
  have HWR := Lib.hid hwr
  have HW1 := Lib.hid hw1
  have HW2 := Lib.hid hw2
  have HW3 := Lib.hid hw3
  have H6 := Lib.hid h6
  have hc1 := h6.cap
  obtain ⟨x, hx⟩ : ∃ x, x = l.getD n default := ⟨_, rfl⟩
  rw [← hx] at h1 h2 h3 h4 h5 hs1 hs2 hs3 HWK HWR HW1 HW2 HW3 H6 hc1
  have HX := Lib.hid hx
  have HS3 := Lib.hid hs3
  obtain ⟨cn, hcn⟩ : ∃ cn, cn = x.ch.length := ⟨_, rfl⟩
  have HCN := Lib.hid hcn
  rw [← hcn] at h4 hs1 H6 hc1
  obtain ⟨L, hL⟩ : ∃ L, L = l.length := ⟨_, rfl⟩
  have HL := Lib.hid hL
  rw [← hL] at hn hll hlc HU ⊢
  generalize hen : x.ce.length = en at *
  clear hu hs hwk hwr hw1 hw2 hw3 h6 h7 hmem hx hcn hL hen hs3
  go_enter Tryd.func32, Tryd.ntmps32
  by_cases e1 : (x.kind : Int) < 1
  · have hr := HW1.out (by omega)
    have HR := Lib.hid hr
    clear hr
    go_wp2
    go_ret
    exact ⟨by rw [HR.out]; rfl, ((Gr.refl _).alloc _).alloc _⟩
  by_cases e2 : (3 : Int) < x.kind
  · have hr := HW2.out (by omega)
    have HR := Lib.hid hr
    clear hr
    go_wp2
    go_ret
    exact ⟨by rw [HR.out]; rfl, ((Gr.refl _).alloc _).alloc _⟩
  by_cases e3 : (x.kind : Int) ≠ 1 ∧ (0 : Int) < cn
  · obtain ⟨e3', e4⟩ := e3
    have e3 : ((x.kind : Int) != 1) = true := by simpa using e3'
    have hr := HW3.out ⟨by omega, by rw [← HCN.out]; omega⟩
    have HR := Lib.hid hr
    clear hr
    go_wp2
    go_ret
    exact ⟨by rw [HR.out]; rfl, ((Gr.refl _).alloc _).alloc _⟩
  have hrest : (∀ i, i < cn → badKid l n x.ch i = false) → wrongB l n = (decide (0 < n) && !(l.any fun y => hasB y.ch n)) := fun h => HWR.out (by omega) (by omega) (by rw [← HCN.out]; omega) (by rw [← HCN.out]; exact h)
  have HREST := Lib.hid hrest
  have e4 : ((x.kind : Int) != 1) = false ∨ (((x.kind : Int) != 1) = true ∧ ¬ (0 : Int) < cn) := by
    by_cases h : (x.kind : Int) = 1
    · left; simp [h]
    · right; exact ⟨by simpa using h, fun h' => e3 ⟨h, h'⟩⟩
  clear e3 hrest HW1 HW2 HW3 HWR
  rcases e4 with e4 | ⟨e4, e7⟩
  all_goals
    go_wp2_with fail
    refine name_wp fun W hW => ?_
    have hX : Gr w W := by rw [hW]; repeat (first | exact Gr.refl _ | refine Gr.alloc ?_ _)
    have f0 : W.cell? ⟨w.heap.size, 0, none⟩ = some (.int .i64 size) := by rw [hW]; go_simp
    have f1 : W.cell? ⟨w.heap.size, 1, none⟩ = some (.slice (some ⟨bl, ol, none⟩) L cl) := by rw [hW]; go_simp
    have f2 : W.cell? ⟨w.heap.size + 1, 3, none⟩ = some (.slice p1 cn c1) := by rw [hW]; go_simp
    clear hW h1 h2 h3 h4 h5
    try clear e7
    have HXW := Lib.hid hX
    clear hX
    go_loopw [39] (fun q wr => ∃ i : Nat, i ≤ cn ∧ q = .int .i64 i ∧ Gr W wr ∧ ∀ t, t < i → badKid l n x.ch t = false) (fun q _ => cn - (intOf q).toNat)
    case atStart => exact ⟨0, Nat.zero_le _, rfl, Gr.refl _, fun t ht => by omega⟩
    case round =>
      obtain ⟨wo, rfl⟩ : ∃ wo : World, wo = wr := ⟨_, rfl⟩
      obtain ⟨i, hi, rfl, hG, hbk⟩ := hrel
      have HG := Lib.hid hG
      have HBK := Lib.hid hbk
      have g0 := hG.cell f0
      have g1 := hG.cell f1
      have g2 := hG.cell f2
      have l2 : w.heap.size + 1 < wo.heap.size := World.block_lt_of_cell? _ _ g2
      have l0 : w.heap.size < wo.heap.size := by omega
      clear hG hbk
      by_cases hlt : i < cn
      · try (exfalso; omega)
        all_goals
          rcases H6.out.1 with ⟨he, _⟩ | ⟨hne1, b1, o1, c1', hsl1, hcell1⟩
          · have := HCN.out; rw [he] at this; simp at this; omega
          · rw [← HCN.out] at hsl1
            simp only [Value.slice.injEq] at hsl1
            obtain ⟨rfl, -, rfl⟩ := hsl1
            have hx := HG.out.cell (HXW.out.cell (hcell1 i (by rw [← HCN.out]; exact hlt)))
            have hx6 := HS3.out (x.ch.getD i 0) (by rw [List.getD_eq_getElem?_getD, List.getElem?_eq_getElem (by rw [← HCN.out]; exact hlt)]; simp)
            have hbb : badKid l n x.ch i = (decide (x.ch.getD i 0 ≤ n) || decide (L ≤ x.ch.getD i 0) || hasB (x.ch.take i) (x.ch.getD i 0) || (l.take n).any fun y => hasB y.ch (x.ch.getD i 0)) := by rw [HL.out]; rfl
            have hwk := HWK.out i (by rw [← HCN.out]; exact hlt)
            have hbx := World.block_lt_of_cell? _ _ hx
            simp only [] at hbx
            have hit := Ints.take (H6.out.1.gr (HXW.out.trans HG.out)) i (by rw [← HCN.out]; omega)
            have HIT := Lib.hid hit
            obtain ⟨y, hy⟩ : ∃ y, y = x.ch.getD i 0 := ⟨_, rfl⟩
            rw [← hy] at hx hx6 hbb
            have HBB := Lib.hid hbb
            have HWK2 := Lib.hid hwk
            have hic : i ≤ c1 := by omega
            clear hcell1 hit hy hbb hwk
            by_cases d1 : (y : Int) ≤ n
            · have hr := HWK2.out (by rw [HBB.out, decide_eq_true (show y ≤ n by omega)]; simp)
              have HR := Lib.hid hr
              clear hr
              go_wp2
              go_ret
              exact ⟨by rw [HR.out]; rfl, HXW.out.trans HG.out⟩
            by_cases d2 : (L : Int) ≤ y
            · have hr := HWK2.out (by rw [HBB.out, decide_eq_true (show L ≤ y by omega)]; simp)
              have HR := Lib.hid hr
              clear hr
              go_wp2
              go_ret
              exact ⟨by rw [HR.out]; rfl, HXW.out.trans HG.out⟩
            have hb2 := HBB.out
            rw [decide_eq_false (show ¬ y ≤ n by omega), decide_eq_false (show ¬ L ≤ y by omega)] at hb2
            simp only [Bool.false_or] at hb2
            have HB2 := Lib.hid hb2
            clear hb2
            go_wp2_with fail
            refine (has47_any _ (x.ch.take i) y _ HIT.out (by simp; omega) (fun z hz => by have := HS3.out z (List.mem_of_mem_take hz); omega) (by omega)).mono ?_
            rintro e w1 ⟨rfl, rfl⟩
            cases hha : hasB (x.ch.take i) y with
            | true =>
              have hr := HWK2.out (by rw [HB2.out, hha]; simp)
              have HR := Lib.hid hr
              clear hr hha
              go_wp2
              go_ret
              exact ⟨by rw [HR.out]; rfl, HXW.out.trans HG.out⟩
            | false =>
              have hb3 := HB2.out
              rw [hha, Bool.false_or] at hb3
              have HB3 := Lib.hid hb3
              have hnl : n ≤ cl := by omega
              clear hb3 hha
              go_wp2_with fail
              go_loopw [67] (fun q wr => ∃ t : Nat, t ≤ n ∧ q = .int .i64 t ∧ Gr wo wr ∧ ∀ t', t' < t → hasB (l.getD t' default).ch y = false) (fun q _ => n - (intOf q).toNat)
              case atStart => exact ⟨0, Nat.zero_le _, rfl, Gr.refl _, fun t ht => by omega⟩
              case round =>
                obtain ⟨t, ht, rfl, hGt, hno⟩ := hrel
                have HGt := Lib.hid hGt
                have HNO := Lib.hid hno
                clear hGt hno
                by_cases htl : t < n
                · obtain ⟨b', o', c', hsl', hlc', hat⟩ := (HU.out.gr (HXW.out.trans (HG.out.trans HGt.out))).at t (by rw [← HL.out]; omega)
                  rw [← HL.out] at hsl'
                  simp only [Value.slice.injEq] at hsl'
                  obtain ⟨hsa, -, rfl⟩ := hsl'
                  simp only [Option.some.injEq, Addr.mk.injEq, and_true] at hsa
                  obtain ⟨rfl, rfl⟩ := hsa
                  obtain ⟨q1, d1', q2, d2', k1, k2, k3, k4, k5, k6, k7⟩ := hat
                  have hm2 := HS.out (l.getD t default) (by rw [List.getD_eq_getElem?_getD, List.getElem?_eq_getElem (by rw [← HL.out]; omega)]; simp)
                  have K6 := Lib.hid k6
                  obtain ⟨z, hz⟩ : ∃ z, z = l.getD t default := ⟨_, rfl⟩
                  rw [← hz] at k1 k2 k3 k4 k5 K6 hm2
                  have HZ := Lib.hid hz
                  have hbt := World.block_lt_of_cell? _ _ k1
                  simp only [] at hbt
                  have HM2 := Lib.hid hm2
                  generalize hzl : z.ch.length = zl at *
                  generalize hzc : z.ce.length = zc at *
                  have HZL := Lib.hid hzl
                  clear hlc' k6 k7 hz hm2 hzl hzc
                  go_wp2_with fail
                  refine (has47_any _ z.ch y _ (K6.out.1.gr ((Gr.refl _).alloc _)) (by rw [HZL.out]; have := HM2.out.1; omega) (fun c hc => by have := HM2.out.2.2 c hc; omega) (by omega)).mono ?_
                  rintro e w1 ⟨rfl, rfl⟩
                  cases hha : hasB z.ch y with
                  | true =>
                    have hr := HWK2.out (by
                      rw [HB3.out, List.any_eq_true]
                      refine ⟨l.getD t default, ?_, by rw [← HZ.out]; exact hha⟩
                      have h1 : l.getD t default = (l.take n)[t]'(by rw [List.length_take, ← HL.out]; omega) := by
                        rw [List.getElem_take, List.getD_eq_getElem?_getD, List.getElem?_eq_getElem (by rw [← HL.out]; omega)]; rfl
                      rw [h1]; exact List.getElem_mem _)
                    have HR := Lib.hid hr
                    clear hr hha
                    go_wp2
                    go_ret
                    exact ⟨by rw [HR.out]; rfl, HXW.out.trans (HG.out.trans (HGt.out.trans ((Gr.refl _).alloc _)))⟩
                  | false =>
                    have hno2 : ∀ t', t' < t + 1 → hasB (l.getD t' default).ch y = false := fun t' ht' => by
                      by_cases h : t' = t
                      · rw [h, ← HZ.out]; exact hha
                      · exact HNO.out t' (by omega)
                    have HNO2 := Lib.hid hno2
                    clear hno2 hha
                    go_wp2
                    go_roundw
                    case rel => exact ⟨t + 1, by omega, by go_num, HGt.out.trans ((Gr.refl _).alloc _), HNO2.out⟩
                    case measure => simp [intOf]; omega
                · obtain rfl : t = n := by omega
                  have hbf : badKid l t x.ch i = false := by
                    rw [HB3.out, List.any_eq_false]
                    intro z hz
                    obtain ⟨k, hk, rfl⟩ := List.getElem_of_mem hz
                    rw [List.getElem_take]
                    rw [List.length_take, ← HL.out] at hk
                    have := HNO.out k (by omega)
                    rw [List.getD_eq_getElem?_getD, List.getElem?_eq_getElem (by rw [← HL.out]; omega)] at this
                    simp only [Option.getD_some] at this
                    rw [this]; simp
                  have hbk2 : ∀ t', t' < i + 1 → badKid l t x.ch t' = false := fun t' ht' => by
                    by_cases h : t' = i
                    · rw [h]; exact hbf
                    · exact HBK.out t' (by omega)
                  have HBK2 := Lib.hid hbk2
                  clear hbf hbk2
                  go_wp2
                  go_roundw
                  case rel => exact ⟨i + 1, by omega, by go_num, HG.out.trans HGt.out, HBK2.out⟩
                  case measure => simp [intOf]; omega
      · obtain rfl : i = cn := by omega
        have hr := HREST.out HBK.out
        have HR := Lib.hid hr
        clear hr
        by_cases hn0 : n = 0
        · have hr := HR.out
          rw [decide_eq_false (show ¬ 0 < n by omega), Bool.false_and] at hr
          have HR2 := Lib.hid hr
          have hnz : ((n : Int) == 0) = true := by simp [hn0]
          clear hr hn0
          go_wp2
          go_ret
          exact ⟨by rw [HR2.out]; rfl, HXW.out.trans HG.out⟩
        · have hr := HR.out
          rw [decide_eq_true (show 0 < n by omega), Bool.true_and] at hr
          have HR2 := Lib.hid hr
          have hnz : ((n : Int) == 0) = false := by simp; omega
          clear hr hn0
          go_wp2_with fail
          go_loopw [82] (fun q wr => ∃ t : Nat, t ≤ L ∧ q = .int .i64 t ∧ Gr wo wr ∧ ∀ t', t' < t → hasB (l.getD t' default).ch n = false) (fun q _ => L - (intOf q).toNat)
          case atStart => exact ⟨0, Nat.zero_le _, rfl, Gr.refl _, fun t ht => by omega⟩
          case round =>
            obtain ⟨t, ht, rfl, hGt, hno⟩ := hrel
            have HGt := Lib.hid hGt
            have HNO := Lib.hid hno
            clear hGt hno
            by_cases htl : t < L
            · obtain ⟨b', o', c', hsl', hlc', hat⟩ := (HU.out.gr (HXW.out.trans (HG.out.trans HGt.out))).at t (by rw [← HL.out]; omega)
              rw [← HL.out] at hsl'
              simp only [Value.slice.injEq] at hsl'
              obtain ⟨hsa, -, rfl⟩ := hsl'
              simp only [Option.some.injEq, Addr.mk.injEq, and_true] at hsa
              obtain ⟨rfl, rfl⟩ := hsa
              obtain ⟨q1, d1', q2, d2', k1, k2, k3, k4, k5, k6, k7⟩ := hat
              have hm2 := HS.out (l.getD t default) (by rw [List.getD_eq_getElem?_getD, List.getElem?_eq_getElem (by rw [← HL.out]; omega)]; simp)
              have K6 := Lib.hid k6
              obtain ⟨z, hz⟩ : ∃ z, z = l.getD t default := ⟨_, rfl⟩
              rw [← hz] at k1 k2 k3 k4 k5 K6 hm2
              have HZ := Lib.hid hz
              have hbt := World.block_lt_of_cell? _ _ k1
              simp only [] at hbt
              have HM2 := Lib.hid hm2
              generalize hzl : z.ch.length = zl at *
              generalize hzc : z.ce.length = zc at *
              have HZL := Lib.hid hzl
              clear hlc' k6 k7 hz hm2 hzl hzc
              go_wp2_with fail
              refine (has47_any _ z.ch n _ (K6.out.1.gr ((Gr.refl _).alloc _)) (by rw [HZL.out]; have := HM2.out.1; omega) (fun c hc => by have := HM2.out.2.2 c hc; omega) (by omega)).mono ?_
              rintro e w1 ⟨rfl, rfl⟩
              cases hha : hasB z.ch n with
              | true =>
                have hr2 : (l.any fun y => hasB y.ch n) = true := by
                  rw [List.any_eq_true]
                  exact ⟨l.getD t default, by rw [List.getD_eq_getElem?_getD, List.getElem?_eq_getElem (by rw [← HL.out]; omega)]; simp, by rw [← HZ.out]; exact hha⟩
                have hr := HR2.out
                rw [hr2] at hr
                have HR3 := Lib.hid hr
                clear hr hr2 hha
                go_wp2
                go_ret
                exact ⟨by rw [HR3.out]; rfl, HXW.out.trans (HG.out.trans (HGt.out.trans ((Gr.refl _).alloc _)))⟩
              | false =>
                have hno2 : ∀ t', t' < t + 1 → hasB (l.getD t' default).ch n = false := fun t' ht' => by
                  by_cases h : t' = t
                  · rw [h, ← HZ.out]; exact hha
                  · exact HNO.out t' (by omega)
                have HNO2 := Lib.hid hno2
                clear hno2 hha
                go_wp2
                go_roundw
                case rel => exact ⟨t + 1, by omega, by go_num, HGt.out.trans ((Gr.refl _).alloc _), HNO2.out⟩
                case measure => simp [intOf]; omega
            · obtain rfl : t = L := by omega
              have hr2 : (l.any fun y => hasB y.ch n) = false := by
                rw [List.any_eq_false]
                intro z hz
                obtain ⟨k, hk, rfl⟩ := List.getElem_of_mem hz
                have := HNO.out k (by rw [HL.out]; exact hk)
                rw [List.getD_eq_getElem?_getD, List.getElem?_eq_getElem hk] at this
                simp only [Option.getD_some] at this
                rw [this]; simp
              have hr := HR2.out
              rw [hr2] at hr
              have HR3 := Lib.hid hr
              clear hr hr2
              go_wp2
              go_ret
              exact ⟨by rw [HR3.out]; rfl, HXW.out.trans (HG.out.trans HGt.out)⟩
end Go.Proofs.YtcmlhpodghfheaaDoor
