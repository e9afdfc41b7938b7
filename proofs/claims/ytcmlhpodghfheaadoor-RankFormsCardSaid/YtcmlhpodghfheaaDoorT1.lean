/- The reference's matrices: elements. -/
import Derived.Test.YtcmlhpodghfheaaDoorR4
set_option linter.unusedSimpArgs false
set_option linter.unusedVariables false
namespace Go.Proofs.YtcmlhpodghfheaaDoor
open Go.RowKit Go.Shelf

/-- Rows of elements in memory. -/
def RRows (w : World) (u : Value) (cols : Nat) (rows : List Nat) : Prop :=
  (rows = [] ∧ ∃ p c, u = .slice p 0 c) ∨ (rows ≠ [] ∧ ∃ b o c, u = .slice (some ⟨b, o, none⟩) rows.length c ∧ ∀ i, i < rows.length → ∃ bb oo cc, w.cell? ⟨b, o + i, none⟩ = some (.slice (some ⟨bb, oo, none⟩) cols cc) ∧ ∀ j, j < cols → w.cell? ⟨bb, oo + j, none⟩ = some (.bool ((rows.getD i 0).testBit j)))
/-- The struct value v is the matrix m of the reference. -/
def RMatV (w : World) (v : Value) (m : Mat) : Prop := ∃ u, v = .agg #[.int .i64 (m.cols : Int), u] ∧ RRows w u m.cols m.rows
theorem RRows.gr {w w' : World} {u : Value} {c : Nat} {rows : List Nat} (h : RRows w u c rows) (hx : Gr w w') : RRows w' u c rows := by
  rcases h with h | ⟨h1, b, o, c', h2, h3⟩
  · exact .inl h
  · exact .inr ⟨h1, b, o, c', h2, fun i hi => let ⟨bb, oo, cc, a, k⟩ := h3 i hi; ⟨bb, oo, cc, hx.cell a, fun j hj => hx.cell (k j hj)⟩⟩
theorem RMatV.gr {w w' : World} {v : Value} {m : Mat} (h : RMatV w v m) (hx : Gr w w') : RMatV w' v m := by
  obtain ⟨u, h1, h2⟩ := h; exact ⟨u, h1, h2.gr hx⟩
theorem RRows.slice {w : World} {u : Value} {c : Nat} {rows : List Nat} (h : RRows w u c rows) : ∃ p c, u = .slice p rows.length c := by
  rcases h with ⟨rfl, p, c, h⟩ | ⟨_, b, o, c, h, _⟩
  · exact ⟨p, c, h⟩
  · exact ⟨_, c, h⟩

set_option maxHeartbeats 400000 in
set_option maxRecDepth 100000 in
/-- ref44.Has -/
theorem rhas_any (v : Value) (m : Mat) (i j : Nat) (w : World) (hv : RMatV w v m) (hm : m.ok) (hi : i < 1000) (hj : j < 1000) :
    Calls Tryd.prog 69 #[v, .int .i64 (i : Int), .int .i64 (j : Int)] w fun e w' => e = .returned (.bool (m.has i j)) ∧ Gr w w' := by
  obtain ⟨u, rfl, hu⟩ := hv
  have hmh : m.has i j = (decide (i < m.rows.length) && decide (j < m.cols) && (m.rows.getD i 0).testBit j) := rfl
  have HMH := Lib.hid hmh
  obtain ⟨ho1, ho2⟩ := hm
  generalize hC : m.cols = C at *
  by_cases h1 : i < m.rows.length
  · rcases hu with ⟨h0, _⟩ | ⟨hne, b, o, c, rfl, hrow⟩
    · rw [h0] at h1; simp at h1
    · obtain ⟨bb, oo, cc, r1, r2⟩ := hrow i h1
      have hb := World.block_lt_of_cell? _ _ r1
      simp only [] at hb
      generalize hn : m.rows.length = n at *
      by_cases h2 : j < C
      · have r3 := r2 j h2
        have hbb := World.block_lt_of_cell? _ _ r3
        simp only [] at hbb
        have hr : m.has i j = (m.rows.getD i 0).testBit j := by rw [HMH.out]; simp [h1, h2]
        have HR := Lib.hid hr
        generalize (m.rows.getD i 0).testBit j = B at *
        clear hrow r2 hmh hr hC hn HMH
        go_enter Tryd.func69, Tryd.ntmps69
        go_wp2
        go_ret
        exact ⟨by rw [HR.out]; rfl, (Gr.refl _).alloc _⟩
      · have hr : m.has i j = false := by rw [HMH.out]; simp [h2]
        have HR := Lib.hid hr
        clear hrow r2 hmh hr hC hn HMH
        go_enter Tryd.func69, Tryd.ntmps69
        go_wp2
        go_ret
        exact ⟨by rw [HR.out]; rfl, (Gr.refl _).alloc _⟩
  · have hr : m.has i j = false := by rw [HMH.out]; simp [h1]
    have HR := Lib.hid hr
    obtain ⟨p, c, rfl⟩ := hu.slice
    generalize hn : m.rows.length = n at *
    clear hu hmh hr hC hn HMH
    go_enter Tryd.func69, Tryd.ntmps69
    go_wp2
    go_ret
    exact ⟨by rw [HR.out]; rfl, (Gr.refl _).alloc _⟩
end Go.Proofs.YtcmlhpodghfheaaDoor
