/- rank.Concepts. -/
import Derived.Test.YtcmlhpodghfheaaDoorS1
set_option linter.unusedSimpArgs false
set_option linter.unusedVariables false
namespace Go.Proofs.YtcmlhpodghfheaaDoor
open Go.RowKit Go.Shelf

set_option maxHeartbeats 1000000 in
/-- rank.Concepts -/
theorem concepts_any (v : Value) (m : Mat) (i j : Nat) (w : World) (hv : MatV w v m) (hm : m.good) (hi : i < 64) (hj : j < 64) (ht : TabOk w) :
    Calls Tryd.prog 21 #[v, .int .i64 (i : Int), .int .i64 (j : Int)] w fun e w' => (∃ p n c, e = .returned (.slice p n c) ∧ Sets w' (.slice p n c) (m.cons i j)) ∧ Gr w w' := by
  have hv0 := Lib.hid hv
  have hm' := Lib.hid hm
  have ht' := Lib.hid ht
  have hok := Lib.hid hm.1.ok
  have hr6 := hm.row i
  have hoth : m.others i j = mems (minus (m.rows.getD i 0) (2 ^ j)) := rfl
  generalize hR : m.rows.getD i 0 = R at hr6 hoth
  have HR := Lib.hid hR
  clear hR
  obtain ⟨bm, um, rfl, _, _, _⟩ := hv
  clear hm ht
  cases hb : m.has i j with
  | false =>
    have hce : m.cons i j = [] := by simp [Mat.cons, hb]
    have HCE := Lib.hid hce
    clear hce
    go_enter Tryd.func21, Tryd.ntmps21
    go_wp2_with fail
    refine (mhas_any _ m i j _ hv0.out hok.out hi hj).mono ?_
    rintro e w1 ⟨rfl, hx1⟩
    rw [hb]
    go_wp2
    go_ret
    exact ⟨⟨_, _, _, rfl, by rw [HCE.out]; exact .inl ⟨rfl, _, _, rfl⟩⟩, hx1⟩
  | true =>
    have HB := Lib.hid hb
    have hj6 : j < 6 := by
      have h1 : j < m.cols := by
        simp only [Mat.has, Bool.and_eq_true, decide_eq_true_eq] at hb
        exact hb.1.2
      have := hm'.out.1.1
      omega
    go_enter Tryd.func21, Tryd.ntmps21
    go_wp2_with fail
    refine (mhas_any _ m i j _ hv0.out hok.out hi hj).mono ?_
    rintro e w1 ⟨rfl, hx1⟩
    rw [hb]
    go_wp2_with fail
    refine (row_any _ m i _ (hv0.out.gr hx1) hok.out hi).mono ?_
    rintro e w2 ⟨p2, n2, c2, rfl, hv2, hx2⟩
    have hp := pop_le R
    rw [HR.out] at hv2
    have HV2 := Lib.hid hv2
    have HX2 := Lib.hid (hx1.trans hx2)
    clear hv2 hx1 hx2
    go_wp2_with fail
    refine (len_any _ _ _ HV2.out hr6).mono ?_
    rintro e w3 ⟨rfl, hx3⟩
    have hgt : decide ((12 : Int) < ((pop R : Nat) : Int)) = false := by simp; omega
    have HX3 := Lib.hid (HX2.out.trans hx3.gr)
    clear hx3
    go_wp2_with fail
    refine (row_any _ m i _ (hv0.out.gr HX3.out) hok.out hi).mono ?_
    rintro e w4 ⟨p4, n4, c4, rfl, hv4, hx4⟩
    rw [HR.out] at hv4
    have HV4 := Lib.hid hv4
    have HX4 := Lib.hid (HX3.out.trans hx4)
    clear hv4 hx4
    go_wp2_with fail
    refine (without_any _ _ j _ HV4.out hj).mono ?_
    rintro e w5 ⟨p5, n5, c5, rfl, hv5, hx5⟩
    have HV5 := Lib.hid hv5
    have HX5 := Lib.hid (HX4.out.trans hx5.gr)
    clear hv5 hx5
    go_wp2_with fail
    refine (list_any _ (minus R (2 ^ j)) _ HV5.out (Nat.lt_of_le_of_lt (minus_le _ _) hr6) (ht'.out.gr HX5.out)).mono ?_
    rintro e w6 ⟨⟨p6, n6, c6, rfl, hL⟩, hx6⟩
    have HG := Lib.hid (HX5.out.trans hx6)
    rw [← hoth] at hL
    obtain ⟨_, _, hsl⟩ := hL.slice
    simp only [Value.slice.injEq] at hsl
    obtain ⟨-, hn6, -⟩ := hsl
    have hn5 : (m.others i j).length ≤ 6 := mems_len _
    generalize hO : m.others i j = O at *
    have HOO := Lib.hid hO
    have HL := Lib.hid hL
    clear hL hO hx6 hoth
    subst hn6
    generalize hn : O.length = n at *
    have HN := Lib.hid hn
    clear hn
    go_wp2_with fail
    have hpw : wrap64 ((2 : Int) ^ n) = ((2 ^ n : Nat) : Int) := by
      rcases (by omega : n = 0 ∨ n = 1 ∨ n = 2 ∨ n = 3 ∨ n = 4 ∨ n = 5 ∨ n = 6) with h | h | h | h | h | h | h <;> subst h <;> (first | kernel_rfl | simp [wrap64])
    rw [hpw]
    have hM6 : 2 ^ n ≤ 2 ^ 6 := Nat.pow_le_pow_right (by omega) hn5
    generalize hM : 2 ^ n = M at *
    have HM := Lib.hid hM
    clear hM hpw
    go_loopw [8, 34] (fun l k wr => ∃ K : Nat, K ≤ M ∧ k = .int .i64 K ∧ Gr w6 wr ∧ OwnSets wr w6.heap.size l (m.raw i j K)) (fun _ k _ => M - (intOf k).toNat)
    case atStart => exact ⟨0, Nat.zero_le _, rfl, Gr.refl _, OwnSets.nil _ _⟩
    case round =>
      obtain ⟨wo, rfl⟩ : ∃ wo : World, wo = wr := ⟨_, rfl⟩
      obtain ⟨K, hK, rfl, hGo, hown⟩ := hrel
      have HGo := Lib.hid hGo
      have HO := Lib.hid hown
      clear hGo hown
      by_cases hlt : K < M
      · go_wp2_with fail
        refine (of_any _ [j] _ (.inr ⟨by simp, wo.heap.size, 0, 1, rfl, fun q hq => by
          obtain rfl : q = 0 := by simpa using hq
          simp [go_sem]⟩) (by simpa using hj) (by simp)).mono ?_
        rintro e w7 ⟨p7, n7, c7, rfl, hv7, hx7⟩
        have hbit : ofL [j] = 2 ^ j := by simp [ofL]
        rw [hbit] at hv7
        have HG7 := Lib.hid (((Gr.refl wo).alloc (.cells #[.int .i64 (j : Int)] 3)).trans hx7.gr)
        have hw7 := Lib.hid hv7.words
        clear hx7 hv7 hbit
        go_wp2_with fail
        refine name_wp fun W hW => ?_
        have f1 : W.cell? ⟨w7.heap.size, 0, none⟩ = some (.slice p7 n7 c7) := by rw [hW]; go_simp
        have f2 : W.frozen? ⟨w7.heap.size, 0, none⟩ = false := by rw [hW]; go_simp
        have hGW : Gr w7 W := by rw [hW]; exact (Gr.refl _).alloc _
        have HW := Lib.hid hW
        have hwW := hw7.out.gr hGW
        have HGW := Lib.hid (HG7.out.trans hGW)
        clear hW hGW
        go_loopw [42] (fun q wr => ∃ k : Nat, k ≤ n ∧ q = .int .i64 k ∧ Gr wo wr ∧ wr.frozen? ⟨w7.heap.size, 0, none⟩ = false ∧ ∃ p n c, wr.cell? ⟨w7.heap.size, 0, none⟩ = some (.slice p n c) ∧ Words wr (.slice p n c) (maskSet j O K k)) (fun q _ => n - (intOf q).toNat)
        case atStart => exact ⟨0, Nat.zero_le _, rfl, HGW.out, f2, _, _, _, f1, hwW⟩
        case round =>
          obtain ⟨k, hk, rfl, hGr, g2, p8, n8, c8, g1, hw8⟩ := hrel
          have HGr := Lib.hid hGr
          have HW8 := Lib.hid hw8
          have l7 : w7.heap.size < wr.heap.size := World.block_lt_of_cell? _ _ g1
          clear hGr hw8
          by_cases hlk : k < n
          · rcases HL.out with ⟨rfl, _⟩ | ⟨hne, b, o, c, hsl, hcell⟩
            · have := HN.out; simp at this; omega
            · simp only [Value.slice.injEq] at hsl
              obtain ⟨rfl, -, rfl⟩ := hsl
              have hx := hcell k (by rw [HN.out]; exact hlk)
              obtain ⟨x, hxx⟩ : ∃ x, x = O.getD k 0 := ⟨_, rfl⟩
              rw [← hxx] at hx
              have HX := Lib.hid hxx
              have hx1 := (HGo.out.trans HGr.out).cell hx
              clear hcell hx hxx
              have hx64 : x < 64 := by
                have h1 : O.getD k 0 ∈ O := by rw [List.getD_eq_getElem?_getD, List.getElem?_eq_getElem (by rw [HN.out]; exact hlk)]; simp
                rw [← HX.out, ← HOO.out] at h1
                have := (List.mem_filter.1 h1).1
                simp at this; omega
              have hsb := bit_i64 K k (by omega)
              have hst := maskSet_succ j O K k
              rw [← HX.out] at hst
              cases hbt : K.testBit k with
              | true =>
                rw [hbt] at hsb hst
                simp only [if_true] at hst
                have HST := Lib.hid hst
                clear hst hbt
                go_wp2_with fail
                refine (with_any _ (maskSet j O K k) x _ ⟨_, rfl, HW8.out⟩ hx64).mono ?_
                rintro e w9 ⟨p9, n9, c9, rfl, hv9, hx9⟩
                have g1' := hx9.gr.cell g1
                have g2' := hx9.gr.frz g1 g2
                have HG9 := Lib.hid (HGr.out.trans hx9.gr)
                rw [← HST.out] at hv9
                have HV9 := Lib.hid hv9
                have l9 : w7.heap.size < w9.heap.size := World.block_lt_of_cell? _ _ g1'
                have lo : wo.heap.size ≤ w7.heap.size := HG7.out.size
                clear hv9 hx9 g1 g2 HW8
                go_wp2
                go_roundw
                case rel =>
                  refine ⟨k + 1, by omega, by go_num, HG9.out.setCell (by simp only []; omega) _, (World.frozen?_setCell _ _ _ _).trans g2', p9, n9, c9, World.cell?_setCell_same' _ _ _ (by rw [g1']; rfl), ?_⟩
                  exact HV9.out.words.setCell (by simp) g1' _
                case measure => simp [intOf]; omega
              | false =>
                rw [hbt] at hsb hst
                simp only [Bool.false_eq_true, if_false] at hst
                have HST := Lib.hid hst
                clear hst hbt
                go_wp2
                go_roundw
                case rel =>
                  refine ⟨k + 1, by omega, by go_num, HGr.out, g2, p8, n8, c8, g1, ?_⟩
                  rw [HST.out]; exact HW8.out
                case measure => simp [intOf]; omega
          · obtain rfl : k = n := by omega
            have hS64 : maskSet j O K k < 64 := by
              rw [← HOO.out, ← HN.out, ← HOO.out]
              exact maskSet_lt j _ K _ hj6 (others_lt m i j) (Nat.le_refl _)
            have hrs := raw_succ m i j K
            rw [HOO.out, HN.out] at hrs
            generalize maskSet j O K k = S at *
            have HRS := Lib.hid hrs
            clear hrs
            go_wp2_with fail
            refine (closed_any _ _ m S _ (hv0.out.gr (HG.out.trans (HGo.out.trans HGr.out))) hm'.out.1 ⟨_, rfl, HW8.out⟩ hS64 (ht'.out.gr (HG.out.trans (HGo.out.trans HGr.out)))).mono ?_
            rintro e w9 ⟨rfl, hx9⟩
            have g1' := hx9.cell g1
            have hw9 := HW8.out.gr hx9
            have HW9 := Lib.hid hw9
            have HG9 := Lib.hid (HGr.out.trans hx9)
            clear hx9 hw9 g1 g2
            by_cases hcl : m.close S = m.own S
            · have hd : decide (m.close S = m.own S) = true := by simp [hcl]
              rw [hd]
              have hrs := HRS.out
              rw [if_pos hcl] at hrs
              have HR2 := Lib.hid hrs
              clear hrs hcl hd
              go_wp2_with (at_builtin; refine wpl_append_set rfl _ _ rfl w6.heap.size u8 (.slice p8 n8 c8) (m.raw i j K) S rfl (HO.out.gr HG9.out) HW9.out (by have := HGo.out.size; have := HG9.out.size; omega) (by have := raw_len m i j K; omega) rfl ?_)
              intro v' w10 hown' hg'
              have hG10 := appS_gr (HGo.out.trans HG9.out) (HO.out.gr HG9.out) (Nat.le_refl _) hg'
              have HO10 := Lib.hid hown'
              have HG10 := Lib.hid hG10
              clear hown' hg' hG10
              go_wp2
              go_roundw
              case rel =>
                refine ⟨K + 1, by omega, by go_num, HG10.out, ?_⟩
                rw [HR2.out]; exact HO10.out
              case measure => simp [intOf]; omega
            · have hd : decide (m.close S = m.own S) = false := by simp [hcl]
              rw [hd]
              have hrs := HRS.out
              rw [if_neg hcl, List.append_nil] at hrs
              have HR2 := Lib.hid hrs
              clear hrs hcl hd
              go_wp2
              go_roundw
              case rel =>
                refine ⟨K + 1, by omega, by go_num, HGo.out.trans HG9.out, ?_⟩
                rw [HR2.out]; exact HO.out.gr HG9.out
              case measure => simp [intOf]; omega
      · obtain rfl : K = M := by omega
        have hraw : m.raw i j K = m.raw i j (2 ^ (m.others i j).length) := by rw [HOO.out, HN.out, HM.out]
        have hcons : (lexAll.filter fun s => decide (s ∈ m.raw i j K)) = m.cons i j := by
          unfold Mat.cons
          rw [if_pos HB.out, hraw]
          congr 1
          funext s
          rw [Bool.eq_iff_iff, decide_eq_true_eq, raw_mem m hm'.out i j HB.out]
          constructor
          · exact fun h => h.2
          · intro h
            refine ⟨?_, h⟩
            have h1 : s &&& m.rows.getD i 0 = s := by simp only [Bool.and_eq_true, beq_iff_eq] at h; exact h.1.2
            rw [← h1]
            exact Nat.lt_of_le_of_lt Nat.and_le_right (hm'.out.row i)
        have hnd : (m.raw i j K).Nodup := by rw [hraw]; exact raw_nodup m hm'.out i j HB.out
        have h64 : ∀ s ∈ m.raw i j K, s < 64 := fun s hs => by rw [hraw, raw_mem m hm'.out i j HB.out] at hs; exact hs.1
        have hrl := raw_len m i j K
        obtain ⟨pf, cf, rfl⟩ := HO.out.slice
        have HCO := Lib.hid hcons
        have HND := Lib.hid hnd
        have H64 := Lib.hid h64
        clear hraw hcons hnd h64
        by_cases hne : m.raw i j K = []
        · have ho := HO.out
          have hco := HCO.out
          rw [hne] at ho hco
          have hco' : m.cons i j = [] := by rw [← hco]; simp
          have HE := Lib.hid hne
          have HCE := Lib.hid hco'
          rw [hne] at HO
          have hl0 : (m.raw i j K).length = 0 := by rw [hne]; rfl
          clear hco hco' hne ho
          rw [hl0]
          go_wp2_with fail
          refine (sort_none _ pf cf).mono ?_
          rintro e w9 ⟨rfl, rfl⟩
          go_wp2
          go_ret
          exact ⟨⟨_, _, _, rfl, by rw [HCE.out]; exact .inl ⟨rfl, _, _, rfl⟩⟩, HG.out.trans HGo.out⟩
        · have HNE := Lib.hid hne
          clear hne
          go_wp2_with fail
          refine (sort_sets _ w6.heap.size _ (m.raw i j K) HO.out HNE.out H64.out HND.out (by omega) HGo.out.size (ht'.out.gr (HG.out.trans HGo.out))).mono ?_
          rintro e w9 ⟨rfl, hb9, hs9⟩
          rw [HCO.out] at hs9
          have HS9 := Lib.hid hs9
          have HG9 := Lib.hid (HG.out.trans (Below.trans HGo.out hb9))
          clear hb9 hs9
          go_wp2
          go_ret
          exact ⟨⟨_, _, _, rfl, HS9.out⟩, HG9.out⟩
end Go.Proofs.YtcmlhpodghfheaaDoor
