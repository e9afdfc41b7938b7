/- The reference's matrices: bits of bytes. -/
import Derived.Test.YtcmlhpodghfheaaDoorT2
set_option linter.unusedSimpArgs false
set_option linter.unusedVariables false
namespace Go.Proofs.YtcmlhpodghfheaaDoor
open Go.RowKit Go.Shelf

/-- The slice value v is that of the bytes bs. -/
def BytesV (w : World) (v : Value) (bs : List Nat) : Prop :=
  (bs = [] ∧ ∃ p c, v = .slice p 0 c) ∨ (bs ≠ [] ∧ ∃ b o c, v = .slice (some ⟨b, o, none⟩) bs.length c ∧ ∀ i, i < bs.length → w.cell? ⟨b, o + i, none⟩ = some (.int .u8 ((bs.getD i 0 : Nat) : Int)))
theorem BytesV.gr {w w' : World} {v : Value} {bs : List Nat} (h : BytesV w v bs) (hx : Gr w w') : BytesV w' v bs := by
  rcases h with h | ⟨h1, b, o, c, h2, h3⟩
  · exact .inl h
  · exact .inr ⟨h1, b, o, c, h2, fun i hi => hx.cell (h3 i hi)⟩
/-- Bit k of bytes. -/
def bitOf (bs : List Nat) (k : Nat) : Bool := decide (k / 8 < bs.length) && (bs.getD (k / 8) 0).testBit (k % 8)

theorem tmod_bit (B r : Nat) : (((B : Int) / 2 ^ r).tmod 2 == 1) = B.testBit r := by
  have e : ((B : Int) / 2 ^ r) = ((B / 2 ^ r : Nat) : Int) := by simp
  rw [e, Int.tmod_eq_emod_of_nonneg (Int.natCast_nonneg _), Nat.testBit_eq_decide_div_mod_eq]
  rw [Bool.eq_iff_iff]; simp; omega

set_option maxHeartbeats 400000 in
set_option maxRecDepth 100000 in
/-- ref44.bit -/
theorem bit_any (v : Value) (bs : List Nat) (k : Nat) (w : World) (hv : BytesV w v bs) (hl : bs.length < 4611686018427387904) (hb : ∀ x ∈ bs, x < 256) (hk : k < 1000) :
    Calls Tryd.prog 24 #[v, .int .i64 (k : Int)] w fun e w' => e = .returned (.bool (bitOf bs k)) ∧ w = w' := by
  have hd : (k : Int) / 8 = ((k / 8 : Nat) : Int) := by omega
  have hm : (k : Int) % 8 = ((k % 8 : Nat) : Int) := by omega
  obtain ⟨q, hq⟩ : ∃ q, q = k / 8 := ⟨_, rfl⟩
  obtain ⟨r, hr⟩ : ∃ r, r = k % 8 := ⟨_, rfl⟩
  rw [← hq] at hd
  rw [← hr] at hm
  have hbo : bitOf bs k = (decide (q < bs.length) && (bs.getD q 0).testBit r) := by rw [hq, hr]; rfl
  have HBO := Lib.hid hbo
  have hq9 : q < 125 := by omega
  have hr9 : r < 8 := by omega
  clear hbo hq hr
  rcases hv with ⟨h0, p, c, rfl⟩ | ⟨hne, b, o, c, rfl, hcell⟩
  · have hz : bitOf bs k = false := by rw [HBO.out, h0]; simp
    have HZ := Lib.hid hz
    clear hz h0
    go_enter Tryd.func24, Tryd.ntmps24
    go_wp2
    go_ret
    exact ⟨by rw [HZ.out]; rfl, rfl⟩
  · by_cases hlt : q < bs.length
    · have hx := hcell q hlt
      have h256 := hb _ (show bs.getD q 0 ∈ bs by rw [List.getD_eq_getElem?_getD, List.getElem?_eq_getElem hlt]; simp)
      have hbv : bitOf bs k = (bs.getD q 0).testBit r := by rw [HBO.out]; simp [hlt]
      generalize bs.getD q 0 = B at *
      generalize bs.length = n at *
      have HBV := Lib.hid hbv
      have hbb := World.block_lt_of_cell? _ _ hx
      simp only [] at hbb
      clear hcell hb hbv HBO
      go_enter Tryd.func24, Tryd.ntmps24
      go_wp2
      go_ret
      refine ⟨?_, rfl⟩
      rw [HBV.out, ← tmod_bit B r]
      rfl
    · have hz : bitOf bs k = false := by rw [HBO.out]; simp [hlt]
      have HZ := Lib.hid hz
      generalize bs.length = n at *
      clear hcell hz HBO
      go_enter Tryd.func24, Tryd.ntmps24
      go_wp2
      go_ret
      exact ⟨by rw [HZ.out]; rfl, rfl⟩
end Go.Proofs.YtcmlhpodghfheaaDoor
