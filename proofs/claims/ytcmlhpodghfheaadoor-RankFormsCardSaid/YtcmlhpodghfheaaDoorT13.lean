/- ref47: Concepts, Fool. -/
import Derived.Test.YtcmlhpodghfheaaDoorT12
set_option linter.unusedSimpArgs false
set_option linter.unusedVariables false
namespace Go.Proofs.YtcmlhpodghfheaaDoor
open Go.RowKit Go.Shelf

theorem filterN_take (p : Nat → Bool) (l : List Nat) (k : Nat) (h : k < l.length) : (l.take (k + 1)).filter p = (l.take k).filter p ++ (if p (l.getD k 0) then [l.getD k 0] else []) := by
  rw [List.take_succ_eq_append_getElem h, List.filter_append]
  simp only [List.getD, List.getElem?_eq_getElem h, Option.getD_some, List.filter_cons, List.filter_nil]

set_option maxHeartbeats 2000000 in
set_option maxRecDepth 100000 in
/-- ref47.Concepts -/
theorem concepts47_any (v : Value) (m : Mat) (i j : Nat) (w : World) (hv : RMatV w v m) (hm : m.good) (hi : i < 64) (hj : j < 64) :
    Calls Tryd.prog 75 #[v, .int .i64 (i : Int), .int .i64 (j : Int)] w fun e w' => (∃ p c, e = .returned (.slice p (m.cons i j).length c) ∧ U64s w' (.slice p (m.cons i j).length c) (m.cons i j)) ∧ Gr w w' := by
  have HV := Lib.hid hv
  have HM := Lib.hid hm
  obtain ⟨u, rfl, hu⟩ := hv
  obtain ⟨pu, cu, rfl⟩ := hu.slice
  have hce := rcons_eq hm i j
  have HCE := Lib.hid hce
  have hp6 := pow6 hm.1
  have ham : ∀ x ∈ m.all, x < 64 := fun x hx => by have := (all_mem hm.1 x).1 hx; omega
  have HAM := Lib.hid ham
  have hal : m.all.length ≤ 64 := by have := allK_len m (2 ^ m.cols - 1); unfold Mat.all; omega
  generalize m.cons i j = CS at *
  generalize m.cols = C at *
  generalize m.rows.length = R at *
  clear hu hm hce ham hp6
  go_enter Tryd.func75, Tryd.ntmps75
  go_wp2_with fail
  refine name_calls fun W hW => ?_
  have hX : Gr w W := by rw [hW]; repeat (first | exact Gr.refl _ | refine Gr.alloc ?_ _)
  have f0 : W.cell? ⟨w.heap.size, 0, none⟩ = some (.int .i64 (C : Int)) := by rw [hW]; go_simp
  have f1 : W.cell? ⟨w.heap.size, 1, none⟩ = some (.slice pu R cu) := by rw [hW]; go_simp
  clear hW
  have HX := Lib.hid hX
  clear hX
  refine (all47_any _ m W (HV.out.gr HX.out) HM.out.1).mono ?_
  rintro e w1 ⟨⟨p1, c1, rfl, hall⟩, hx1⟩
  have HA := Lib.hid hall
  have HX1 := Lib.hid (HX.out.trans hx1)
  have g0 := hx1.cell f0
  have g1 := hx1.cell f1
  have l1 : w.heap.size < w1.heap.size := World.block_lt_of_cell? _ _ g0
  obtain ⟨AL, hAL⟩ : ∃ AL, AL = m.all := ⟨_, rfl⟩
  rw [← hAL] at HA HAM HCE hal ⊢
  obtain ⟨L, hL⟩ : ∃ L, L = AL.length := ⟨_, rfl⟩
  have HL := Lib.hid hL
  rw [← hL] at HA hal ⊢
  clear hall hx1 f0 f1 hAL hL
  obtain ⟨P, hP⟩ : ∃ P : Nat → Bool, P = fun s => m.has i j && (s.testBit j && (m.hav s).testBit i) := ⟨_, rfl⟩
  have HP := Lib.hid (fun s => congrFun hP s)
  rw [← hP] at HCE
  clear hP
  go_wp2_with fail
  go_loopw [7, 13] (fun o q wr => ∃ k : Nat, k ≤ L ∧ q = .int .i64 k ∧ Gr w1 wr ∧ wr.ownsRow w1.heap.size 111 1 o ((AL.take k).filter P).length (vU ((AL.take k).filter P))) (fun _ q _ => L - (intOf q).toNat)
  case atStart => exact ⟨0, Nat.zero_le _, rfl, Gr.refl _, World.ownsRow_nil _ _ _ _⟩
  case round =>
    obtain ⟨k, hk, rfl, hG, hown⟩ := hrel
    have HG := Lib.hid hG
    have HO := Lib.hid hown
    have q0 := hG.cell g0
    have q1 := hG.cell g1
    have lr : w.heap.size < wr.heap.size := World.block_lt_of_cell? _ _ q0
    clear hG hown
    by_cases hlt : k < L
    · rcases HA.out with ⟨h0, _⟩ | ⟨hne, b, o, c, hsl, _, hcell⟩
      · have := HL.out; rw [h0] at this; simp at this; omega
      · rw [← HL.out] at hsl
        simp only [Value.slice.injEq] at hsl
        obtain ⟨rfl, -, rfl⟩ := hsl
        have hx := HG.out.cell (hcell k (by rw [← HL.out]; exact hlt))
        have hmem := HAM.out (AL.getD k 0) (by rw [List.getD_eq_getElem?_getD, List.getElem?_eq_getElem (by rw [← HL.out]; exact hlt)]; simp)
        have hft := filterN_take P AL k (by rw [← HL.out]; exact hlt)
        obtain ⟨s, hss⟩ : ∃ s, s = AL.getD k 0 := ⟨_, rfl⟩
        rw [← hss] at hx hmem hft
        rw [HP.out s] at hft
        have HFT := Lib.hid hft
        have lb := World.block_lt_of_cell? _ _ hx
        simp only [] at lb
        have hlen : ((AL.take k).filter P).length ≤ k := Nat.le_trans (List.length_filter_le _ _) (by simp; omega)
        obtain ⟨F, hF⟩ : ∃ F, F = (AL.take k).filter P := ⟨_, rfl⟩
        rw [← hF] at HO hlen HFT
        clear hcell hss hft hF
        go_wp2_with fail
        refine (rhas_any _ m i j _ (HV.out.gr (HX1.out.trans HG.out)) HM.out.1.ok (by omega) (by omega)).mono ?_
        rintro e w2 ⟨rfl, hx2⟩
        have HG2 := Lib.hid (HG.out.trans hx2)
        have HO2 := Lib.hid (own_gr HO.out hx2)
        have z0 := hx2.cell q0
        have z1 := hx2.cell q1
        have l2 : w.heap.size < w2.heap.size := World.block_lt_of_cell? _ _ z0
        clear hx2
        cases hh : m.has i j with
        | false =>
          have h := HFT.out
          rw [hh] at h
          simp only [Bool.false_and, Bool.false_eq_true, if_false, List.append_nil] at h
          have H := Lib.hid h
          clear h hh
          go_wp2
          go_roundw
          case rel => exact ⟨k + 1, by omega, by go_num, HG2.out, by rw [H.out]; exact HO2.out⟩
          case measure => simp [intOf]; omega
        | true =>
          have h := HFT.out
          rw [hh, Bool.true_and] at h
          have H := Lib.hid h
          clear h hh
          go_wp2_with fail
          refine (in_any _ m s i j _ (HV.out.gr (HX1.out.trans HG2.out)) HM.out.1 hmem hi hj).mono ?_
          rintro e w3 ⟨rfl, hx3⟩
          have HG3 := Lib.hid (HG2.out.trans hx3)
          have HO3 := Lib.hid (own_gr HO2.out hx3)
          clear hx3
          cases hin : (s.testBit j && (m.hav s).testBit i) with
          | false =>
            have h := H.out
            rw [hin] at h
            simp only [Bool.false_eq_true, if_false, List.append_nil] at h
            have H2 := Lib.hid h
            clear h hin
            go_wp2
            go_roundw
            case rel => exact ⟨k + 1, by omega, by go_num, HG3.out, by rw [H2.out]; exact HO3.out⟩
            case measure => simp [intOf]; omega
          | true =>
            have h := H.out
            rw [hin] at h
            simp only [if_true] at h
            have H2 := Lib.hid h
            clear h hin
            go_wp2_with (at_builtin; refine wpl_app_u rfl _ _ rfl w1.heap.size u7 F s rfl HO3.out HG3.out.size (by omega) rfl ?_)
            intro v' w4 hown' hg'
            have HG4 := Lib.hid (app_gr HG3.out HO3.out (Nat.le_refl _) hg')
            have HO4 := Lib.hid hown'
            clear hown' hg'
            go_wp2
            go_roundw
            case rel => exact ⟨k + 1, by omega, by go_num, HG4.out, by rw [H2.out, List.length_append]; exact HO4.out⟩
            case measure => simp [intOf]; omega
    · obtain rfl : k = L := by omega
      have ho := HO.out
      rw [List.take_of_length_le (by rw [HL.out]; exact Nat.le_refl _), HCE.out] at ho
      obtain ⟨p', c', rfl⟩ := own_slice ho
      have HI := Lib.hid (own_u64s ho)
      clear ho
      go_wp2
      go_ret
      exact ⟨⟨_, _, rfl, HI.out⟩, HX1.out.trans HG.out⟩
end Go.Proofs.YtcmlhpodghfheaaDoor
