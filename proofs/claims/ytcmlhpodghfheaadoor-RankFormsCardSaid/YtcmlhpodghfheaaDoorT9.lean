/- ref45.Close; ref47: small functions. -/
import Derived.Test.YtcmlhpodghfheaaDoorT6
import Derived.Test.YtcmlhpodghfheaaDoorU1
import Derived.Test.YtcmlhpodghfheaaDoorL4
set_option linter.unusedSimpArgs false
set_option linter.unusedVariables false
namespace Go.Proofs.YtcmlhpodghfheaaDoor
open Go.RowKit Go.Shelf

theorem rhav_any (v : Value) (m : Mat) (s : Nat) (w : World) (hv : RMatV w v m) (hm : m.small) (hs : s < 64) :
    Calls Tryd.prog 108 #[v, .int .u64 (s : Int)] w fun e w' => e = .returned (.int .u64 ((m.hav s : Nat) : Int)) ∧ Gr w w' := by
  rw [← rhav_eq hm s]; exact rhaving_raw v m s w hv hm hs
theorem rcom_any (v : Value) (m : Mat) (s : Nat) (w : World) (hv : RMatV w v m) (hm : m.small) (hs : s < 64) :
    Calls Tryd.prog 131 #[v, .int .u64 (m.hav s : Int)] w fun e w' => e = .returned (.int .u64 ((m.close s : Nat) : Int)) ∧ Gr w w' := by
  rw [← rclose_eq hm s]; exact rcommon_raw v m (m.hav s) w hv hm (hav_lt hm s)

set_option maxHeartbeats 1000000 in
set_option maxRecDepth 100000 in
/-- ref45.Close -/
theorem rclose_any (v : Value) (m : Mat) (s : Nat) (w : World) (hv : RMatV w v m) (hm : m.small) (hs : s < 64) :
    Calls Tryd.prog 107 #[v, .int .u64 (s : Int)] w fun e w' => e = .returned (.int .u64 ((m.close s : Nat) : Int)) ∧ Gr w w' := by
  have HV := Lib.hid hv
  obtain ⟨u, rfl, hu⟩ := hv
  obtain ⟨pu, cu, rfl⟩ := hu.slice
  obtain ⟨C, hC⟩ : ∃ C, C = m.cols := ⟨_, rfl⟩
  obtain ⟨R, hR⟩ : ∃ R, R = m.rows.length := ⟨_, rfl⟩
  rw [← hC, ← hR] at HV ⊢
  clear hu hC hR
  go_enter Tryd.func107, Tryd.ntmps107
  go_wp2_with fail
  refine name_wp fun W hW => ?_
  have hX : Gr w W := by rw [hW]; exact (Gr.refl _).alloc _
  have f0 : W.cell? ⟨w.heap.size, 0, none⟩ = some (.int .i64 (C : Int)) := by rw [hW]; go_simp
  have f1 : W.cell? ⟨w.heap.size, 1, none⟩ = some (.slice pu R cu) := by rw [hW]; go_simp
  clear hW
  go_region_held3 (fun w' => Gr w w' ∧ w'.cell? ⟨w.heap.size, 0, none⟩ = some (.int .i64 (C : Int)) ∧ w'.cell? ⟨w.heap.size, 1, none⟩ = some (.slice pu R cu))
    (first | exact ⟨hX.drew, f0, f1⟩ | (have hh := ‹Gr w _ ∧ _ ∧ _›; exact ⟨hh.1.trans hx1, hx1.cell hh.2.1, hx1.cell hh.2.2⟩) | (have hh := ‹Gr w _ ∧ _ ∧ _›; exact ⟨(hh.1).setCell (by simp only []; omega) _, cell?_setCell_ne (hh.2.1) (by simp <;> omega), cell?_setCell_ne (hh.2.2) (by simp <;> omega)⟩))
    (first | (go_at_call 108; have hh := ‹Gr w _ ∧ _ ∧ _›; (with_reducible refine (rhav_any _ m s _ (HV.out.gr hh.1) hm hs).mono ?_); rintro e w1 ⟨rfl, hx1⟩) | (go_at_call 131; have hh := ‹Gr w _ ∧ _ ∧ _›; (with_reducible refine (rcom_any _ m s _ (HV.out.gr hh.1) hm hs).mono ?_); rintro e w1 ⟨rfl, hx1⟩))
  go_wp2
  go_ret
  have hh := ‹Gr w _ ∧ _›
  exact ⟨rfl, hh.1⟩

theorem tmod_val (B r : Nat) : ((B : Int) / 2 ^ r).tmod 2 = if B.testBit r then 1 else 0 := by
  have e : ((B : Int) / 2 ^ r) = ((B / 2 ^ r : Nat) : Int) := by simp
  rw [e, Int.tmod_eq_emod_of_nonneg (Int.natCast_nonneg _), Nat.testBit_eq_decide_div_mod_eq]
  by_cases h : B / 2 ^ r % 2 = 1
  · rw [decide_eq_true h, if_pos rfl]; omega
  · rw [decide_eq_false h, if_neg (by simp)]; omega

set_option maxHeartbeats 1000000 in
/-- ref47.before -/
theorem before_any (a b : Nat) (w : World) (ha : a < 64) (hb : b < 64) :
    Calls Tryd.prog 109 #[.int .u64 (a : Int), .int .u64 (b : Int)] w fun e w' => e = .returned (.bool (decide (key a < key b))) ∧ Gr w w' := by
  obtain ⟨B, hB⟩ : ∃ B, B = decide (key a < key b) := ⟨_, rfl⟩
  have HB := Lib.hid hB
  rw [← hB]
  clear hB
  go_enter Tryd.func109, Tryd.ntmps109
  go_wp2_with fail
  go_loopw [5] (fun q wr => ∃ j : Nat, j ≤ 64 ∧ q = .int .i64 j ∧ Gr w wr ∧ ∀ t, t < j → a.testBit t = b.testBit t) (fun q _ => 64 - (intOf q).toNat)
  case atStart => exact ⟨0, by omega, rfl, Gr.refl _, fun t ht => by omega⟩
  case round =>
    obtain ⟨j, hj, rfl, hG, hsame⟩ := hrel
    have HG := Lib.hid hG
    have HS := Lib.hid hsame
    clear hG hsame
    by_cases hlt : j < 64
    · have ta := tmod_val a j
      have tb := tmod_val b j
      by_cases he : a.testBit j = b.testBit j
      · have hs2 : ∀ t, t < j + 1 → a.testBit t = b.testBit t := fun t ht => by
          by_cases h : t = j
          · rw [h]; exact he
          · exact HS.out t (by omega)
        have HS2 := Lib.hid hs2
        rw [he] at ta
        clear hs2
        cases hb : b.testBit j with
        | true =>
          rw [hb] at ta tb
          simp only [if_true] at ta tb
          clear hb he
          go_wp2_with fail
          go_quiet (fail)
          go_wp2
          go_roundw
          case rel => exact ⟨j + 1, by omega, by go_num, by first | exact HG.out.drew | exact below_drewN HG.out _, HS2.out⟩
          case measure => simp [intOf]; omega
        | false =>
          rw [hb] at ta tb
          simp only [Bool.false_eq_true, if_false] at ta tb
          clear hb he
          go_wp2_with fail
          go_quiet (fail)
          go_wp2
          go_roundw
          case rel => exact ⟨j + 1, by omega, by go_num, by first | exact HG.out.drew | exact below_drewN HG.out _, HS2.out⟩
          case measure => simp [intOf]; omega
      · have hj6 : j < 6 := Nat.lt_of_not_le fun h => he (by rw [tb64 ha h, tb64 hb h])
        have hbb := before_at a ha b hb j hj6 HS.out he
        rw [← HB.out] at hbb
        have HBB := Lib.hid hbb
        clear hbb
        cases hb : b.testBit j with
        | true =>
          have hab : a.testBit j = false := by cases h : a.testBit j <;> simp_all
          rw [hb] at tb
          rw [hab] at ta
          simp only [if_true, Bool.false_eq_true, if_false] at ta tb
          rw [hb] at HBB
          clear hb he hab
          go_wp2_with fail
          go_quiet (fail)
          go_wp2
          go_ret
          exact ⟨by rw [HBB.out]; rfl, by first | exact HG.out.drew | exact below_drewN HG.out _⟩
        | false =>
          have hab : a.testBit j = true := by cases h : a.testBit j <;> simp_all
          rw [hb] at tb
          rw [hab] at ta
          simp only [if_true, Bool.false_eq_true, if_false] at ta tb
          rw [hb] at HBB
          clear hb he hab
          go_wp2_with fail
          go_quiet (fail)
          go_wp2
          go_ret
          exact ⟨by rw [HBB.out]; rfl, by first | exact HG.out.drew | exact below_drewN HG.out _⟩
    · have hbs := before_same a ha b hb (fun t ht => HS.out t (by omega))
      rw [← HB.out] at hbs
      have HBS := Lib.hid hbs
      clear hbs
      go_wp2
      go_ret
      exact ⟨by rw [HBS.out]; rfl, HG.out⟩
end Go.Proofs.YtcmlhpodghfheaaDoor
