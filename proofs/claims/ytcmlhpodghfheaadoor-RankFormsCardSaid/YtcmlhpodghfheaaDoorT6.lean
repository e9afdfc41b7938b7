/- ref45: closures. -/
import Derived.Test.YtcmlhpodghfheaaDoorT3
import Derived.Test.YtcmlhpodghfheaaDoorL2
import Derived.Deep.QuietTactic
import Derived.BigQuiet
import Derived.Deep.RegionHeld3
set_option linter.unusedSimpArgs false
set_option linter.unusedVariables false
namespace Go.Proofs.YtcmlhpodghfheaaDoor
open Go.RowKit Go.Shelf

/-- ref45.all -/
theorem rall_any (n : Nat) (w : World) (hn : n < 64) : Calls Tryd.prog 132 #[.int .i64 (n : Int)] w fun e w' => e = .returned (.int .u64 ((belowN n : Nat) : Int)) ∧ w = w' := by
  have hb := below_eq n hn
  have HB := Lib.hid hb
  clear hb
  go_enter Tryd.func132, Tryd.ntmps132
  go_wp2
  go_ret
  exact ⟨ret_int HB.out, rfl⟩

theorem andNot_low (s i : Nat) (hs : s < 18446744073709551616) (hi : i < 64) : bits BinOp.andNot IntKind.u64 (s : Int) (IntKind.u64.wrap (2 ^ i)) = ((minus s (2 ^ i) : Nat) : Int) := by
  have := andNot_bit s i hs hi
  rwa [Nat.mod_eq_of_lt hi] at this
theorem RRows.at {w : World} {u : Value} {c : Nat} {rows : List Nat} (h : RRows w u c rows) (i : Nat) (hi : i < rows.length) :
    ∃ b o cp, u = .slice (some ⟨b, o, none⟩) rows.length cp ∧ ∃ bb oo cc, w.cell? ⟨b, o + i, none⟩ = some (.slice (some ⟨bb, oo, none⟩) c cc) ∧ ∀ j, j < c → w.cell? ⟨bb, oo + j, none⟩ = some (.bool ((rows.getD i 0).testBit j)) := by
  rcases h with ⟨rfl, _⟩ | ⟨_, b, o, cp, h, h3⟩
  · simp at hi
  · exact ⟨b, o, cp, h, h3 i hi⟩

set_option maxHeartbeats 2000000 in
set_option maxRecDepth 100000 in
/-- ref45.Having -/
theorem rhaving_raw (v : Value) (m : Mat) (s : Nat) (w : World) (hv : RMatV w v m) (hm : m.small) (hs : s < 64) :
    Calls Tryd.prog 108 #[v, .int .u64 (s : Int)] w fun e w' => e = .returned (.int .u64 ((rhavI m s m.rows.length : Nat) : Int)) ∧ Gr w w' := by
  obtain ⟨u, rfl, hu⟩ := hv
  obtain ⟨pu, cu, rfl⟩ := hu.slice
  have HU := Lib.hid hu
  obtain ⟨hm1, hm2⟩ := hm
  obtain ⟨C, hC⟩ : ∃ C, C = m.cols := ⟨_, rfl⟩
  obtain ⟨R, hR⟩ : ∃ R, R = m.rows.length := ⟨_, rfl⟩
  have HC := Lib.hid hC
  have HR := Lib.hid hR
  rw [← hC] at hm1 HU ⊢
  rw [← hR] at hm2 HU ⊢
  clear hu hC hR
  go_enter Tryd.func108, Tryd.ntmps108
  go_wp2_with fail
  refine (rall_any R _ (by omega)).mono ?_
  rintro e w' ⟨rfl, rfl⟩
  go_wp2_with fail
  refine name_wp fun W hW => ?_
  have hX : Gr w W := by rw [hW]; exact (Gr.refl _).alloc _
  have f0 : W.cell? ⟨w.heap.size, 0, none⟩ = some (.int .i64 (C : Int)) := by rw [hW]; go_simp
  have f1 : W.cell? ⟨w.heap.size, 1, none⟩ = some (.slice pu R cu) := by rw [hW]; go_simp
  have lW : w.heap.size < W.heap.size := World.block_lt_of_cell? _ _ f0
  clear hW
  have HX := Lib.hid hX
  clear hX
  have h0 : belowN R = rhavI m s 0 := by first | (rw [HC.out]; rfl) | (rw [HR.out]; rfl)
  rw [h0]
  clear h0
  go_loop [5, 15] (fun o q => ∃ k : Nat, k ≤ R ∧ q = .int .i64 k ∧ o = .int .u64 ((rhavI m s k : Nat) : Int)) (fun _ q => R - (intOf q).toNat)
  case atStart => exact ⟨0, Nat.zero_le _, rfl, rfl⟩
  case round =>
    obtain ⟨k, hk, rfl, rfl⟩ := hrel
    by_cases hlt : k < R
    · go_wp2_with fail
      have h0 : rhavI m s k = rhavJ m s k 0 (rhavI m s k) := rfl
      have hle := rhavI_le m s k
      have hsm := belowN_small (n := R) (by omega)
      have HIS := Lib.hid (rhavI_succ m s k)
      rw [← HC.out] at HIS
      have hle2 : rhavI m s k < 64 := by
        first | (rw [← HR.out] at hle; omega) | (rw [← HC.out] at hle; omega)
      rw [h0]
      clear h0 hle hsm
      obtain ⟨I, hI⟩ : ∃ I, I = rhavI m s k := ⟨_, rfl⟩
      rw [← hI] at hle2 HIS ⊢
      clear hI
      go_loop [5, 7] (fun o q => ∃ t : Nat, t ≤ C ∧ q = .int .i64 t ∧ o = .int .u64 ((rhavJ m s k t I : Nat) : Int)) (fun _ q => C - (intOf q).toNat)
      case atStart => exact ⟨0, Nat.zero_le _, rfl, rfl⟩
      case round =>
        obtain ⟨t, ht, rfl, rfl⟩ := hrel
        by_cases htl : t < C
        · have hjs := rhavJ_succ m s k t I
          have hjl := rhavJ_le m s k t I
          obtain ⟨J, hJ⟩ : ∃ J, J = rhavJ m s k t I := ⟨_, rfl⟩
          rw [← hJ] at hjs hjl ⊢
          have hb := tmod_bit s t
          have ha := andNot_low J k (by omega) (by omega)
          clear hJ
          cases hs1 : s.testBit t with
          | false =>
            rw [hs1] at hb hjs
            simp only [Bool.false_and, Bool.false_eq_true, if_false] at hjs
            have HJS := Lib.hid hjs
            clear hjs ha hs1
            go_wp2
            go_round
            case rel => exact ⟨t + 1, by omega, by go_num, by rw [HJS.out]⟩
            case measure => simp [intOf]; omega
          | true =>
            obtain ⟨b, o, cp, hsl, bb, oo, cc, h1, h2⟩ := HU.out.at k (by rw [← HR.out]; exact hlt)
            rw [← HR.out] at hsl
            simp only [Value.slice.injEq] at hsl
            obtain ⟨rfl, -, rfl⟩ := hsl
            have h3 := h2 t htl
            have h1' := HX.out.cell h1
            have h3' := HX.out.cell h3
            have hel : (m.rows.getD k 0).testBit t = m.el k t := rfl
            have l1 := World.block_lt_of_cell? _ _ h1'
            have l2 := World.block_lt_of_cell? _ _ h3'
            simp only [] at l1 l2
            rw [hel] at h3'
            rw [hs1] at hb hjs
            clear h2 h1 h3 hel hs1
            cases he : m.el k t with
            | true =>
              rw [he] at hjs h3'
              simp only [Bool.not_true, Bool.and_false, Bool.false_eq_true, if_false] at hjs
              have HJS := Lib.hid hjs
              clear hjs ha he
              go_wp2
              go_round
              case rel => exact ⟨t + 1, by omega, by go_num, by rw [HJS.out]⟩
              case measure => simp [intOf]; omega
            | false =>
              rw [he] at hjs h3'
              simp only [Bool.not_false, Bool.and_self, if_true] at hjs
              have HJS := Lib.hid hjs
              clear hjs he
              go_wp2
              go_round
              case rel => exact ⟨t + 1, by omega, by go_num, by rw [HJS.out]⟩
              case measure => simp [intOf]; omega
        · obtain rfl : t = C := by omega
          go_wp2
          go_round
          case rel => exact ⟨k + 1, by omega, by go_num, by rw [HIS.out]⟩
          case measure => simp [intOf]; omega
    · obtain rfl : k = R := by omega
      go_wp2
      go_ret
      exact ⟨rfl, HX.out⟩
set_option maxHeartbeats 2000000 in
set_option maxRecDepth 100000 in
/-- ref45.Common -/
theorem rcommon_raw (v : Value) (m : Mat) (s : Nat) (w : World) (hv : RMatV w v m) (hm : m.small) (hs : s < 64) :
    Calls Tryd.prog 131 #[v, .int .u64 (s : Int)] w fun e w' => e = .returned (.int .u64 ((rcomI m s m.rows.length : Nat) : Int)) ∧ Gr w w' := by
  obtain ⟨u, rfl, hu⟩ := hv
  obtain ⟨pu, cu, rfl⟩ := hu.slice
  have HU := Lib.hid hu
  obtain ⟨hm1, hm2⟩ := hm
  obtain ⟨C, hC⟩ : ∃ C, C = m.cols := ⟨_, rfl⟩
  obtain ⟨R, hR⟩ : ∃ R, R = m.rows.length := ⟨_, rfl⟩
  have HC := Lib.hid hC
  have HR := Lib.hid hR
  rw [← hC] at hm1 HU ⊢
  rw [← hR] at hm2 HU ⊢
  clear hu hC hR
  go_enter Tryd.func131, Tryd.ntmps131
  go_wp2_with fail
  refine (rall_any C _ (by omega)).mono ?_
  rintro e w' ⟨rfl, rfl⟩
  go_wp2_with fail
  refine name_wp fun W hW => ?_
  have hX : Gr w W := by rw [hW]; exact (Gr.refl _).alloc _
  have f0 : W.cell? ⟨w.heap.size, 0, none⟩ = some (.int .i64 (C : Int)) := by rw [hW]; go_simp
  have f1 : W.cell? ⟨w.heap.size, 1, none⟩ = some (.slice pu R cu) := by rw [hW]; go_simp
  have lW : w.heap.size < W.heap.size := World.block_lt_of_cell? _ _ f0
  clear hW
  have HX := Lib.hid hX
  clear hX
  have h0 : belowN C = rcomI m s 0 := by first | (rw [HC.out]; rfl) | (rw [HR.out]; rfl)
  rw [h0]
  clear h0
  go_loop [5, 14] (fun o q => ∃ k : Nat, k ≤ R ∧ q = .int .i64 k ∧ o = .int .u64 ((rcomI m s k : Nat) : Int)) (fun _ q => R - (intOf q).toNat)
  case atStart => exact ⟨0, Nat.zero_le _, rfl, rfl⟩
  case round =>
    obtain ⟨k, hk, rfl, rfl⟩ := hrel
    by_cases hlt : k < R
    · go_wp2_with fail
      have h0 : rcomI m s k = rcomJ m s k 0 (rcomI m s k) := rfl
      have hle := rcomI_le m s k
      have hsm := belowN_small (n := C) (by omega)
      have HIS := Lib.hid (rcomI_succ m s k)
      rw [← HC.out] at HIS
      have hle2 : rcomI m s k < 64 := by
        first | (rw [← HR.out] at hle; omega) | (rw [← HC.out] at hle; omega)
      rw [h0]
      clear h0 hle hsm
      obtain ⟨I, hI⟩ : ∃ I, I = rcomI m s k := ⟨_, rfl⟩
      rw [← hI] at hle2 HIS ⊢
      clear hI
      go_loop [5, 7] (fun o q => ∃ t : Nat, t ≤ C ∧ q = .int .i64 t ∧ o = .int .u64 ((rcomJ m s k t I : Nat) : Int)) (fun _ q => C - (intOf q).toNat)
      case atStart => exact ⟨0, Nat.zero_le _, rfl, rfl⟩
      case round =>
        obtain ⟨t, ht, rfl, rfl⟩ := hrel
        by_cases htl : t < C
        · have hjs := rcomJ_succ m s k t I
          have hjl := rcomJ_le m s k t I
          obtain ⟨J, hJ⟩ : ∃ J, J = rcomJ m s k t I := ⟨_, rfl⟩
          rw [← hJ] at hjs hjl ⊢
          have hb := tmod_bit s k
          have ha := andNot_low J t (by omega) (by omega)
          clear hJ
          cases hs1 : s.testBit k with
          | false =>
            rw [hs1] at hb hjs
            simp only [Bool.false_and, Bool.false_eq_true, if_false] at hjs
            have HJS := Lib.hid hjs
            clear hjs ha hs1
            go_wp2
            go_round
            case rel => exact ⟨t + 1, by omega, by go_num, by rw [HJS.out]⟩
            case measure => simp [intOf]; omega
          | true =>
            obtain ⟨b, o, cp, hsl, bb, oo, cc, h1, h2⟩ := HU.out.at k (by rw [← HR.out]; exact hlt)
            rw [← HR.out] at hsl
            simp only [Value.slice.injEq] at hsl
            obtain ⟨rfl, -, rfl⟩ := hsl
            have h3 := h2 t htl
            have h1' := HX.out.cell h1
            have h3' := HX.out.cell h3
            have hel : (m.rows.getD k 0).testBit t = m.el k t := rfl
            have l1 := World.block_lt_of_cell? _ _ h1'
            have l2 := World.block_lt_of_cell? _ _ h3'
            simp only [] at l1 l2
            rw [hel] at h3'
            rw [hs1] at hb hjs
            clear h2 h1 h3 hel hs1
            cases he : m.el k t with
            | true =>
              rw [he] at hjs h3'
              simp only [Bool.not_true, Bool.and_false, Bool.false_eq_true, if_false] at hjs
              have HJS := Lib.hid hjs
              clear hjs ha he
              go_wp2
              go_round
              case rel => exact ⟨t + 1, by omega, by go_num, by rw [HJS.out]⟩
              case measure => simp [intOf]; omega
            | false =>
              rw [he] at hjs h3'
              simp only [Bool.not_false, Bool.and_self, if_true] at hjs
              have HJS := Lib.hid hjs
              clear hjs he
              go_wp2
              go_round
              case rel => exact ⟨t + 1, by omega, by go_num, by rw [HJS.out]⟩
              case measure => simp [intOf]; omega
        · obtain rfl : t = C := by omega
          go_wp2
          go_round
          case rel => exact ⟨k + 1, by omega, by go_num, by rw [HIS.out]⟩
          case measure => simp [intOf]; omega
    · obtain rfl : k = R := by omega
      go_wp2
      go_ret
      exact ⟨rfl, HX.out⟩
end Go.Proofs.YtcmlhpodghfheaaDoor
