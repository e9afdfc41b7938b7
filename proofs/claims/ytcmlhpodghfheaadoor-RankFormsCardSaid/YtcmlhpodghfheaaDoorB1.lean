/- math/bits in this program: the number of ones, the least one. -/
import Derived.Test.YtcmlhpodghfheaaDoorB0
set_option linter.unusedSimpArgs false
set_option linter.unusedVariables false
namespace Go.Proofs.YtcmlhpodghfheaaDoor
open Go.RowKit

def tab64 : List Nat := [0, 1, 56, 2, 57, 49, 28, 3, 61, 58, 42, 50, 38, 29, 17, 4, 62, 47, 59, 36, 45, 43, 51, 22, 53, 39, 33, 30, 24, 18, 12, 5, 63, 55, 48, 27, 60, 41, 37, 16, 46, 35, 44, 21, 52, 32, 23, 11, 54, 26, 40, 15, 34, 20, 31, 10, 25, 14, 19, 9, 13, 8, 7, 6]

/-- math/bits' table lies in its variable. -/
def TabOk (w : World) : Prop := 0 < w.heap.size ∧ ∀ i, i < 64 → w.cell? ⟨0, i, none⟩ = some (.int .u8 ((tab64.getD i 0 : Nat) : Int))

theorem TabOk.ext {w w' : World} (h : TabOk w) (hx : Ext w w') : TabOk w' :=
  ⟨Nat.lt_of_lt_of_le h.1 hx.size, fun i hi => hx.cell (h.2 i hi)⟩

theorem ret_int {k : IntKind} {a b : Int} (h : a = b) : Ending.returned (.int k a) = .returned (.int k b) := by rw [h]

/-- How many members a set has. -/
def pop (x : Nat) : Nat := (List.range 6).countP fun i => x.testBit i
/-- The least member. -/
def ctz (x : Nat) : Nat := ((List.range 6).find? fun i => x.testBit i).getD 0

theorem ones_any (x : Nat) (w : World) (hx : x < 64) :
    Calls Tryd.prog 94 #[.int .u64 (x : Int)] w fun e w' => e = .returned (.int .i64 ((pop x : Nat) : Int)) ∧ w = w' := by
  have H := Lib.hid hx; clear hx
  go_enter Tryd.func94, Tryd.ntmps94
  go_wp2
  go_ret
  refine ⟨ret_int ?_, rfl⟩
  have hx := H.out
  clear H
  clear w
  revert hx
  revert x
  decide +kernel

def tzIdx (x : Nat) : Int := IntKind.u64.wrap (bits BinOp.and IntKind.u64 (x : Int) (IntKind.u64.wrap (-(x : Int))) * 285870213051353865) / 288230376151711744
theorem tz_fact : ∀ x, x < 64 → 0 < x → 0 ≤ tzIdx x ∧ tzIdx x < 64 ∧ tab64.getD (tzIdx x).toNat 0 = ctz x := by decide +kernel

theorem ctz_lt : ∀ x, x < 64 → ctz x < 64 := by decide +kernel

theorem tz_any (x : Nat) (w : World) (hx : x < 64) (h0 : 0 < x) (ht : TabOk w) :
    Calls Tryd.prog 105 #[.int .u64 (x : Int)] w fun e w' => e = .returned (.int .i64 ((ctz x : Nat) : Int)) ∧ w = w' := by
  have hcc : ctz x < 64 := ctz_lt x hx
  obtain ⟨h1, h2, h3⟩ := tz_fact x hx h0
  have hc := ht.2 (tzIdx x).toNat (by omega)
  rw [h3] at hc
  clear h3 ht
  unfold tzIdx at hc h1 h2
  go_enter Tryd.func105, Tryd.ntmps105
  go_wp2
  go_ret
  exact ⟨rfl, rfl⟩
end Go.Proofs.YtcmlhpodghfheaaDoor
