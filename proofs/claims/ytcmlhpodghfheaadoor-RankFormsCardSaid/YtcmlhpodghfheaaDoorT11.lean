/- ref47: without, Ones. -/
import Derived.Test.YtcmlhpodghfheaaDoorT10
import Derived.Test.YtcmlhpodghfheaaDoorU2
set_option linter.unusedSimpArgs false
set_option linter.unusedVariables false
namespace Go.Proofs.YtcmlhpodghfheaaDoor
open Go.RowKit Go.Shelf

theorem filter_take (p : Nat × Nat → Bool) (l : List (Nat × Nat)) (k : Nat) (h : k < l.length) : (l.take (k + 1)).filter p = (l.take k).filter p ++ (if p (l.getD k (0, 0)) then [l.getD k (0, 0)] else []) := by
  rw [List.take_succ_eq_append_getElem h, List.filter_append]
  simp only [List.getD, List.getElem?_eq_getElem h, Option.getD_some, List.filter_cons, List.filter_nil]

set_option maxHeartbeats 2000000 in
set_option maxRecDepth 100000 in
/-- ref47.without -/
theorem without47_any (v v2 : Value) (m : Mat) (l : List (Nat × Nat)) (s : Nat) (w : World) (hv : RMatV w v m) (hm : m.small) (hc : Cells w v2 l) (hb : ∀ c ∈ l, c.1 < 64 ∧ c.2 < 64) (hl : l.length < 1000) (hs : s < 64) :
    Calls Tryd.prog 74 #[v, v2, .int .u64 (s : Int)] w fun e w' => (∃ p c, e = .returned (.slice p (withoutF m l s).length c) ∧ Cells w' (.slice p (withoutF m l s).length c) (withoutF m l s)) ∧ Gr w w' := by
  have HV := Lib.hid hv
  have HC := Lib.hid hc
  have HB := Lib.hid hb
  obtain ⟨u, rfl, hu⟩ := hv
  obtain ⟨pu, cu, rfl⟩ := hu.slice
  obtain ⟨pc, cc, rfl⟩ := hc.slice
  have hwf : withoutF m l s = l.filter fun c => !(s.testBit c.2 && (m.hav s).testBit c.1) := rfl
  have HWF := Lib.hid hwf
  obtain ⟨L, hL⟩ : ∃ L, L = l.length := ⟨_, rfl⟩
  have HL := Lib.hid hL
  rw [← hL] at hl HC ⊢
  generalize m.cols = C at *
  generalize m.rows.length = R at *
  generalize hWL : withoutF m l s = WL at *
  clear hu hc hb hL hwf hWL
  go_enter Tryd.func74, Tryd.ntmps74
  go_wp2_with fail
  refine name_wp fun W hW => ?_
  have hX : Gr w W := by rw [hW]; repeat (first | exact Gr.refl _ | refine Gr.alloc ?_ _)
  have f0 : W.cell? ⟨w.heap.size, 0, none⟩ = some (.int .i64 (C : Int)) := by rw [hW]; go_simp
  have f1 : W.cell? ⟨w.heap.size, 1, none⟩ = some (.slice pu R cu) := by rw [hW]; go_simp
  have lW : w.heap.size < W.heap.size := World.block_lt_of_cell? _ _ f0
  clear hW
  have HX := Lib.hid hX
  clear hX
  go_loopw [7, 12] (fun o q wr => ∃ k : Nat, k ≤ L ∧ q = .int .i64 k ∧ Gr W wr ∧ wr.ownsRow W.heap.size 40 2 o ((l.take k).filter fun c => !(s.testBit c.2 && (m.hav s).testBit c.1)).length (vP ((l.take k).filter fun c => !(s.testBit c.2 && (m.hav s).testBit c.1)))) (fun _ q _ => L - (intOf q).toNat)
  case atStart => exact ⟨0, Nat.zero_le _, rfl, Gr.refl _, World.ownsRow_nil _ _ _ _⟩
  case round =>
    obtain ⟨k, hk, rfl, hG, hown⟩ := hrel
    have HG := Lib.hid hG
    have HO := Lib.hid hown
    have g0 := hG.cell f0
    have g1 := hG.cell f1
    have lr : w.heap.size < wr.heap.size := World.block_lt_of_cell? _ _ g0
    clear hG hown
    by_cases hlt : k < L
    · rcases HC.out with ⟨h0, _⟩ | ⟨hne, b, o, c, hsl, _, hcell⟩
      · have := HL.out; rw [h0] at this; simp at this; omega
      · rw [← HL.out] at hsl
        simp only [Value.slice.injEq] at hsl
        obtain ⟨rfl, -, rfl⟩ := hsl
        have hx := hcell k (by rw [← HL.out]; exact hlt)
        have hmem := HB.out (l.getD k (0, 0)) (by rw [List.getD_eq_getElem?_getD, List.getElem?_eq_getElem (by rw [← HL.out]; exact hlt)]; simp)
        have hft := filter_take (fun c => !(s.testBit c.2 && (m.hav s).testBit c.1)) l k (by rw [← HL.out]; exact hlt)
        obtain ⟨⟨x1, x2⟩, hxx⟩ : ∃ x : Nat × Nat, x = l.getD k (0, 0) := ⟨_, rfl⟩
        rw [← hxx] at hx hmem hft
        simp only [] at hmem hft
        have HFT := Lib.hid hft
        have hx1 := HG.out.cell (HX.out.cell hx.1)
        have hx2 := HG.out.cell (HX.out.cell hx.2)
        simp only [] at hx1 hx2
        have lb := World.block_lt_of_cell? _ _ hx1
        simp only [] at lb
        have hlen : ((l.take k).filter fun c => !(s.testBit c.2 && (m.hav s).testBit c.1)).length ≤ k := Nat.le_trans (List.length_filter_le _ _) (by simp; omega)
        obtain ⟨F, hF⟩ : ∃ F, F = (l.take k).filter fun c => !(s.testBit c.2 && (m.hav s).testBit c.1) := ⟨_, rfl⟩
        rw [← hF] at HO hlen HFT
        clear hcell hxx hx hft hF
        go_wp2_with fail
        refine (in_any _ m s x1 x2 _ (HV.out.gr (HX.out.trans (HG.out.trans ((Gr.refl wr).alloc _)))) hm hs hmem.1 hmem.2).mono ?_
        rintro e w1 ⟨rfl, hxw⟩
        have HG1 := Lib.hid ((HG.out.trans ((Gr.refl wr).alloc (.cells #[.int .i64 (x1 : Int), .int .i64 (x2 : Int)] 40))).trans hxw)
        have HO1 := Lib.hid (own_gr HO.out (((Gr.refl wr).alloc (.cells #[.int .i64 (x1 : Int), .int .i64 (x2 : Int)] 40)).trans hxw))
        have q0 := hxw.cell (p := ⟨wr.heap.size, 0, none⟩) (v := .int .i64 (x1 : Int)) (by go_simp)
        have q1 := hxw.cell (p := ⟨wr.heap.size, 1, none⟩) (v := .int .i64 (x2 : Int)) (by go_simp)
        have l1 : wr.heap.size < w1.heap.size := World.block_lt_of_cell? _ _ q0
        clear hxw
        cases hin : (s.testBit x2 && (m.hav s).testBit x1) with
        | true =>
          have h := HFT.out
          rw [hin] at h
          simp only [Bool.not_true, Bool.false_eq_true, if_false, List.append_nil] at h
          have H := Lib.hid h
          clear h hin
          go_wp2
          go_roundw
          case rel => exact ⟨k + 1, by omega, by go_num, HG1.out, by rw [H.out]; exact HO1.out⟩
          case measure => simp [intOf]; omega
        | false =>
          have h := HFT.out
          rw [hin] at h
          simp only [Bool.not_false, if_true] at h
          have H := Lib.hid h
          clear h hin
          go_wp2_with (at_builtin; refine wpl_app_p rfl _ _ rfl W.heap.size u7 F x1 x2 rfl HO1.out HG1.out.size (by omega) rfl ?_)
          intro v' w2 hown' hg' _
          have HG2 := Lib.hid (app_gr HG1.out HO1.out (Nat.le_refl _) hg')
          have HO2 := Lib.hid hown'
          clear hown' hg'
          go_wp2
          go_roundw
          case rel => exact ⟨k + 1, by omega, by go_num, HG2.out, by rw [H.out, List.length_append]; exact HO2.out⟩
          case measure => simp [intOf]; omega
    · obtain rfl : k = L := by omega
      have ho := HO.out
      rw [List.take_of_length_le (by rw [HL.out]; exact Nat.le_refl _), ← HWF.out] at ho
      obtain ⟨p', c', rfl⟩ := own_slice ho
      have HI := Lib.hid (own_pairs ho)
      clear ho
      go_wp2
      go_ret
      exact ⟨⟨_, _, rfl, HI.out⟩, HX.out.trans HG.out⟩

theorem ones_mems {m : Mat} (hm : m.good) (i : Nat) (hi : i < m.rows.length) : m.ones i m.cols = mems (m.rows.getD i 0) := by
  have hlt : m.rows.getD i 0 < 2 ^ m.cols := hm.2 _ (by rw [List.getD_eq_getElem?_getD, List.getElem?_eq_getElem hi]; simp)
  have h6 := hm.1.1
  unfold Mat.ones mems
  rw [show (6 : Nat) = m.cols + (6 - m.cols) from by omega, List.range_add, List.filter_append]
  have h2 : ((List.range (6 - m.cols)).map (m.cols + ·)).filter (fun j => (m.rows.getD i 0).testBit j) = [] := by
    rw [List.filter_eq_nil_iff]
    intro j hj hb
    obtain ⟨d, _, rfl⟩ := List.mem_map.1 hj
    have := tb_cols hlt hb
    omega
  rw [h2, List.append_nil]
  refine List.filter_congr fun j hj => ?_
  rw [Bool.eq_iff_iff, has_el]
  exact ⟨fun h => h.2.2, fun h => ⟨hi, List.mem_range.1 hj, h⟩⟩
/-- The ones of the first rows. -/
def onesK (m : Mat) (k : Nat) : List (Nat × Nat) := ((List.range k).map fun i => (mems (m.rows.getD i 0)).map fun j => (i, j)).flatten
theorem onesK_succ (m : Mat) (k : Nat) : onesK m (k + 1) = onesK m k ++ (mems (m.rows.getD k 0)).map fun j => (k, j) := by
  simp [onesK, List.range_succ]
theorem onesK_all (m : Mat) : onesK m m.rows.length = cellsF m.rows := rfl
theorem onesK_len (m : Mat) (k : Nat) : (onesK m k).length ≤ 6 * k := by
  induction k with
  | zero => simp [onesK]
  | succ k ih => rw [onesK_succ, List.length_append, List.length_map]; have := mems_len (m.rows.getD k 0); omega

set_option maxHeartbeats 2000000 in
set_option maxRecDepth 100000 in
/-- ref47.Ones -/
theorem ones47_any (v : Value) (m : Mat) (w : World) (hv : RMatV w v m) (hm : m.good) :
    Calls Tryd.prog 34 #[v] w fun e w' => (∃ p c, e = .returned (.slice p (cellsF m.rows).length c) ∧ Cells w' (.slice p (cellsF m.rows).length c) (cellsF m.rows)) ∧ Gr w w' := by
  have HV := Lib.hid hv
  have HM := Lib.hid hm
  obtain ⟨u, rfl, hu⟩ := hv
  obtain ⟨pu, cu, rfl⟩ := hu.slice
  have hr6 := hm.1.2
  have hall := onesK_all m
  generalize cellsF m.rows = CF at *
  obtain ⟨R, hR⟩ : ∃ R, R = m.rows.length := ⟨_, rfl⟩
  have HR := Lib.hid hR
  rw [← hR] at hr6 hall HV ⊢
  have HALL := Lib.hid hall
  obtain ⟨C, hC⟩ : ∃ C, C = m.cols := ⟨_, rfl⟩
  have HC := Lib.hid hC
  rw [← hC] at HV ⊢
  clear hu hm hR hall hC
  go_enter Tryd.func34, Tryd.ntmps34
  go_wp2_with fail
  refine name_wp fun W hW => ?_
  have hX : Gr w W := by rw [hW]; repeat (first | exact Gr.refl _ | refine Gr.alloc ?_ _)
  have f0 : W.cell? ⟨w.heap.size, 0, none⟩ = some (.int .i64 (C : Int)) := by rw [hW]; go_simp
  have f1 : W.cell? ⟨w.heap.size, 1, none⟩ = some (.slice pu R cu) := by rw [hW]; go_simp
  have lW : w.heap.size < W.heap.size := World.block_lt_of_cell? _ _ f0
  clear hW
  have HX := Lib.hid hX
  clear hX
  go_loopw [3, 4] (fun o q wr => ∃ k : Nat, k ≤ R ∧ q = .int .i64 k ∧ Gr W wr ∧ wr.ownsRow W.heap.size 40 2 o (onesK m k).length (vP (onesK m k))) (fun _ q _ => R - (intOf q).toNat)
  case atStart => exact ⟨0, Nat.zero_le _, rfl, Gr.refl _, World.ownsRow_nil _ _ _ _⟩
  case round =>
    obtain ⟨wo, rfl⟩ : ∃ wo : World, wo = wr := ⟨_, rfl⟩
    obtain ⟨k, hk, rfl, hG, hown⟩ := hrel
    have HG := Lib.hid hG
    have HO := Lib.hid hown
    have g0 := hG.cell f0
    have g1 := hG.cell f1
    have lr : w.heap.size < wo.heap.size := World.block_lt_of_cell? _ _ g0
    clear hG hown
    by_cases hlt : k < R
    · go_wp2_with fail
      refine (rrow_fresh _ m k _ (HV.out.gr (HX.out.trans HG.out)) HM.out.1.ok (by omega)).mono ?_
      rintro e w1 ⟨⟨p1, n1, c1, rfl, hi1, hf1⟩, hx1⟩
      rw [ones_mems HM.out k (by rw [← HR.out]; exact hlt)] at hi1
      have hol := onesK_len m k
      have hos := onesK_succ m k
      have HOS := Lib.hid hos
      have hml := mems_len (m.rows.getD k 0)
      have hm6 : ∀ x ∈ mems (m.rows.getD k 0), x < 6 := fun x hx => (mems_iff.1 hx).1
      have HM6 := Lib.hid hm6
      obtain ⟨M, hM⟩ : ∃ M, M = mems (m.rows.getD k 0) := ⟨_, rfl⟩
      rw [← hM] at hi1 HOS HM6 hml
      have HI1 := Lib.hid hi1
      obtain ⟨_, _, hsl⟩ := hi1.slice
      simp only [Value.slice.injEq] at hsl
      obtain ⟨-, hn1, -⟩ := hsl
      obtain ⟨n, hn⟩ : ∃ n, n = M.length := ⟨_, rfl⟩
      have HN := Lib.hid hn
      rw [← hn] at hn1 hml
      subst hn1
      have hoff : Off u3 (.slice p1 n1 c1) M := fun _ g hg hy => by
        have h1 := (World.ownsRow.lt HO.out g hg).2
        have h2 := hf1 g hy
        omega
      have HOFF := Lib.hid hoff
      have HO1 := Lib.hid (own_gr HO.out hx1)
      have HG1 := Lib.hid (HG.out.trans hx1)
      have q0 := hx1.cell g0
      have q1 := hx1.cell g1
      clear hi1 hx1 g0 g1 hos hm6 hM hn hf1 hoff
      go_wp2_with fail
      go_loopw [3, 18] (fun o q wr => ∃ t : Nat, t ≤ n1 ∧ q = .int .i64 t ∧ Ints wr (.slice p1 n1 c1) M ∧ Off o (.slice p1 n1 c1) M ∧ Gr W wr ∧ wr.ownsRow W.heap.size 40 2 o (onesK m k ++ (M.take t).map fun j => (k, j)).length (vP (onesK m k ++ (M.take t).map fun j => (k, j)))) (fun _ q _ => n1 - (intOf q).toNat)
      case atStart => exact ⟨0, Nat.zero_le _, rfl, HI1.out, HOFF.out, HG1.out, by simpa using HO1.out⟩
      case round =>
        obtain ⟨t, ht, rfl, hint, hoff, hGb, hown⟩ := hrel
        have HIN := Lib.hid hint
        have HOF := Lib.hid hoff
        have HGB := Lib.hid hGb
        have HOT := Lib.hid hown
        have z0 := hGb.cell f0
        have z1 := hGb.cell f1
        have lz : w.heap.size < wr.heap.size := World.block_lt_of_cell? _ _ z0
        clear hint hoff hGb hown
        by_cases htl : t < n1
        · rcases HIN.out with ⟨h0, _⟩ | ⟨hne, b, o, c, hsl, hcell⟩
          · have := HN.out; rw [h0] at this; simp at this; omega
          · rw [← HN.out] at hsl
            simp only [Value.slice.injEq] at hsl
            obtain ⟨rfl, -, rfl⟩ := hsl
            have hx := hcell t (by rw [← HN.out]; exact htl)
            have hmem := HM6.out (M.getD t 0) (by rw [List.getD_eq_getElem?_getD, List.getElem?_eq_getElem (by rw [← HN.out]; exact htl)]; simp)
            have hts := take_snoc_getD M t (by rw [← HN.out]; exact htl)
            obtain ⟨x, hxx⟩ : ∃ x, x = M.getD t 0 := ⟨_, rfl⟩
            rw [← hxx] at hx hmem hts
            have HTS := Lib.hid hts
            have lb := World.block_lt_of_cell? _ _ hx
            simp only [] at lb
            have hlen : (onesK m k ++ (M.take t).map fun j => (k, j)).length < 1000 := by simp; omega
            have hap : onesK m k ++ ((M.take t ++ [x]).map fun j => (k, j)) = (onesK m k ++ (M.take t).map fun j => (k, j)) ++ [(k, x)] := by simp
            have HAP := Lib.hid hap
            obtain ⟨F, hF⟩ : ∃ F, F = onesK m k ++ (M.take t).map fun j => (k, j) := ⟨_, rfl⟩
            rw [← hF] at HOT hlen HAP
            clear hcell hxx hts hF hap
            go_wp2_with (at_builtin; refine wpl_app_p rfl _ _ rfl W.heap.size u3 F k x rfl HOT.out HGB.out.size (by omega) rfl ?_)
            intro v' w2 hown' hg' hat
            have HGB2 := Lib.hid (app_gr HGB.out HOT.out (Nat.le_refl _) hg')
            have HO2 := Lib.hid hown'
            have hin2 := HIN.out.gr ((Gr.refl wr).alloc (.cells #[.int .i64 (k : Int), .int .i64 (x : Int)] 40))
            have HIN2 := Lib.hid (ints_kept hg' HOF.out hin2)
            have HOF2 := Lib.hid (off_app HOF.out (fun hne _ hg => ints_lt hin2 hne hg) (by simpa using hat))
            clear hown' hg' hat hin2
            go_wp2
            go_roundw
            case rel => exact ⟨t + 1, by omega, by go_num, HIN2.out, HOF2.out, HGB2.out, by rw [HTS.out, HAP.out, List.length_append]; exact HO2.out⟩
            case measure => simp [intOf]; omega
        · obtain rfl : t = n1 := by omega
          go_wp2
          go_roundw
          case rel => exact ⟨k + 1, by omega, by go_num, HGB.out, by
            have := HOT.out
            rw [List.take_of_length_le (by rw [HN.out]; exact Nat.le_refl _)] at this
            rw [HOS.out]; exact this⟩
          case measure => simp [intOf]; omega
    · obtain rfl : k = R := by omega
      have ho := HO.out
      rw [HALL.out] at ho
      obtain ⟨p', c', rfl⟩ := own_slice ho
      have HI := Lib.hid (own_pairs ho)
      clear ho
      go_wp2
      go_ret
      exact ⟨⟨_, _, rfl, HI.out⟩, HX.out.trans HG.out⟩
end Go.Proofs.YtcmlhpodghfheaaDoor
