/- The sets of numbers: the set of a list. -/
import Derived.Test.YtcmlhpodghfheaaDoorB6
set_option linter.unusedSimpArgs false
set_option linter.unusedVariables false
namespace Go.Proofs.YtcmlhpodghfheaaDoor
open Go.RowKit

/-- The slice value v is that of the numbers xs. -/
def Ints (w : World) (v : Value) (xs : List Nat) : Prop :=
  (xs = [] ∧ ∃ p c, v = .slice p 0 c) ∨ (xs ≠ [] ∧ ∃ b o c, v = .slice (some ⟨b, o, none⟩) xs.length c ∧ ∀ i, i < xs.length → w.cell? ⟨b, o + i, none⟩ = some (.int .i64 ((xs.getD i 0 : Nat) : Int)))

theorem Ints.ext {w w' : World} {v : Value} {xs : List Nat} (h : Ints w v xs) (hx : Ext w w') : Ints w' v xs := by
  rcases h with h | ⟨h1, b, o, c, h2, h3⟩
  · exact .inl h
  · exact .inr ⟨h1, b, o, c, h2, fun i hi => hx.cell (h3 i hi)⟩

/-- The set of some numbers. -/
def ofL (xs : List Nat) : Nat := xs.foldl (fun s x => s ||| 2 ^ x) 0
theorem ofL_snoc (xs : List Nat) (x : Nat) : ofL (xs ++ [x]) = ofL xs ||| 2 ^ x := by simp [ofL]
theorem ofL_lt (xs : List Nat) (h : ∀ x ∈ xs, x < 64) : ofL xs < 18446744073709551616 := by
  have key : ∀ (l : List Nat) (s : Nat), s < 18446744073709551616 → (∀ x ∈ l, x < 64) → l.foldl (fun s x => s ||| 2 ^ x) s < 18446744073709551616 := by
    intro l
    induction l with
    | nil => intro s hs _; exact hs
    | cons a l ih => intro s hs hl; exact ih _ (or_lt64 hs (bit_lt64 (hl a (by simp)))) (fun x hx => hl x (by simp [hx]))
  exact key xs 0 (by omega) h
theorem take_snoc_getD (xs : List Nat) (k : Nat) (h : k < xs.length) : xs.take (k + 1) = xs.take k ++ [xs.getD k 0] := by
  rw [List.take_succ_eq_append_getElem h]; simp [List.getD, h]

set_option maxHeartbeats 400000 in
/-- bits.Of -/
theorem of_any (v : Value) (xs : List Nat) (w : World) (hv : Ints w v xs) (h64 : ∀ x ∈ xs, x < 64) (hlen : xs.length ≤ 1000000) :
    Calls Tryd.prog 20 #[v] w (RetSet (ofL xs) w) := by
  rcases hv with ⟨rfl, p, c, rfl⟩ | ⟨hne, b, o, c, rfl, hcell⟩
  · go_enter Tryd.func20, Tryd.ntmps20
    go_wp2
    go_rounds 1
    refine ret_set (u := .slice none 0 0) rfl rfl rfl (by go_simp) ⟨_, _, _, rfl, SetV.zero _ _ _, by (repeat (first | exact Ext.refl _ | refine Ext.alloc ?_ _))⟩
  · have hpos : 0 < xs.length := List.length_pos_iff.2 hne
    have hb : b < w.heap.size := World.block_lt_of_cell? w _ (hcell 0 hpos)
    have hmem : ∀ i, i < xs.length → xs.getD i 0 ∈ xs := fun i hi => by simp [List.getD, hi]
    have HC := Lib.hid hcell
    have HM := Lib.hid hmem
    have H6 := Lib.hid h64
    have HN := Lib.hid hne
    clear hcell hmem h64 hne
    generalize hn : xs.length = n at *
    have Hn := Lib.hid hn; clear hn
    go_enter Tryd.func20, Tryd.ntmps20
    go_wp2
    go_loop [3, 11] (fun t i => ∃ k : Nat, ∃ m : Int, k ≤ n ∧ i = .int .i64 k ∧ t = .int .i64 m ∧ -1 ≤ m ∧ m < 64 ∧ (0 < k → 0 ≤ m) ∧ ∀ x ∈ xs.take k, (x : Int) ≤ m) (fun _ i => n - (intOf i).toNat)
    case atStart => exact ⟨0, -1, Nat.zero_le _, rfl, rfl, by omega, by omega, by omega, by simp⟩
    case round =>
      obtain ⟨k, m, hk, rfl, rfl, hm1, hm2, hm3, hm4⟩ := hrel
      have HM4 := Lib.hid hm4
      have HM3 := Lib.hid hm3
      clear hm4 hm3
      by_cases hlt : k < n
      · have hc := HC.out k hlt
        have hx6 := H6.out _ (HM.out k hlt)
        obtain ⟨x, hx⟩ : ∃ x, x = xs.getD k 0 := ⟨_, rfl⟩
        rw [← hx] at hc hx6
        have HX := Lib.hid hx; clear hx
        have hc2 := ((Ext.refl w).alloc (.cells #[.slice none 0 0] 69)).cell hc
        go_wp2
        go_round
        case rel =>
          refine ⟨k + 1, if m < (x : Int) then (x : Int) else m, by omega, by go_num, rfl, by split <;> omega, by split <;> omega, fun _ => by split <;> omega, ?_⟩
          rw [take_snoc_getD xs k (by rw [Hn.out]; exact hlt), ← HX.out]
          intro y hy
          rcases List.mem_append.1 hy with hy | hy
          · have := HM4.out y hy; split <;> omega
          · have := List.mem_singleton.1 hy; subst this; split <;> omega
        case measure => simp [intOf]; omega
      · have hkn : n ≤ k := by omega
        obtain rfl : k = n := by omega
        have hm3 : 0 ≤ m := HM3.out hpos
        have hd : m / 64 = 0 := by omega
        have hm3' : decide (m < 0) = false := by simp; omega
        have mo := mk_one
        go_wp2
        go_loopw [30] (fun i wr => ∃ k' : Nat, k' ≤ k ∧ i = .int .i64 k' ∧ Ext w wr ∧ wr.cell? ⟨w.heap.size, 0, none⟩ = some (.slice none 0 0) ∧ wr.frozen? ⟨w.heap.size, 0, none⟩ = false ∧ wr.cell? ⟨w.heap.size + 1, 0, none⟩ = some (.int .u64 ((ofL (xs.take k') : Nat) : Int)) ∧ wr.frozen? ⟨w.heap.size + 1, 0, none⟩ = false) (fun i _ => k - (intOf i).toNat)
        case atStart => exact ⟨0, Nat.zero_le _, rfl, by (repeat (first | exact Ext.refl _ | refine Ext.alloc ?_ _)), by go_simp, by go_simp, by go_simp; rfl, by go_simp⟩
        case round =>
          obtain ⟨k', hk', rfl, hE, hr, hrf, hc1, hf1⟩ := hrel
          by_cases hlt' : k' < k
          · have hc := HC.out k' hlt'
            have hx6 := H6.out _ (HM.out k' hlt')
            have hxm := HM4.out (xs.getD k' 0) (by have hl := Hn.out; rw [List.take_of_length_le (by omega)]; exact HM.out k' hlt')
            obtain ⟨x, hx⟩ : ∃ x, x = xs.getD k' 0 := ⟨_, rfl⟩
            rw [← hx] at hc hx6 hxm
            have HX := Lib.hid hx; clear hx
            have hc2 := hE.cell hc
            have hd2 : (x : Int) / 64 = 0 := by omega
            have hsl := ofL_lt (xs.take k') (fun y hy => H6.out y (List.mem_of_mem_take hy))
            have HB := Lib.hid (or_bit _ x hsl hx6)
            go_wp2
            go_region
            go_wp2
            go_roundw
            case rel =>
              refine ⟨k' + 1, by omega, by go_num, (hE.setCell (by simp) _).drew, cell?_setCell_ne (w := wr) hr (by simp), (World.frozen?_setCell _ _ _ _).trans hrf, ?_, (World.frozen?_setCell _ _ _ _).trans hf1⟩
              rw [HB.out, take_snoc_getD xs k' (by rw [Hn.out]; exact hlt'), ofL_snoc, ← HX.out]
              exact World.cell?_setCell_same' wr _ _ (by rw [hc1]; rfl)
            case measure => simp [intOf]; omega
          · obtain rfl : k' = k := by omega
            have hall : ofL (xs.take k') = ofL xs := by rw [List.take_of_length_le (by rw [Hn.out]; exact Nat.le_refl _)]
            rw [hall] at hc1
            have hol := ofL_lt xs H6.out
            have hsz := World.block_lt_of_cell? _ _ hc1
            clear hall
            go_wp2_with fail
            refine (trim_one (w.heap.size + 1) 0 1 (ofL xs) wr hsz hc1 hol (Nat.le_refl _)).mono ?_
            rintro e w3 ⟨p1, n1, c1, rfl, hv1, hx3⟩
            have hr3 := hx3.cell hr
            have hrf3 := hx3.frz hr hrf
            clear hc1 hr hrf hf1
            go_wp2
            have F := fin_set (hE.trans hx3) hv1 (by simp) hr3 (by omega)
            exact ret_set rfl rfl rfl F.1 F.2
end Go.Proofs.YtcmlhpodghfheaaDoor
