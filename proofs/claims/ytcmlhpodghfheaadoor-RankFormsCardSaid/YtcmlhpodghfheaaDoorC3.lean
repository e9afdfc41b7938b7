/- Package closure: concepts. -/
import Derived.Test.YtcmlhpodghfheaaDoorC2
set_option linter.unusedSimpArgs false
set_option linter.unusedVariables false
namespace Go.Proofs.YtcmlhpodghfheaaDoor
open Go.RowKit Go.Shelf

/-- A concept: its rows and its columns. -/
structure Con where
  r : Nat
  c : Nat
deriving DecidableEq
/-- The struct value v is a concept. -/
def ConV (w : World) (v : Value) (k : Con) : Prop := ∃ a b, v = .agg #[a, b] ∧ Words w a k.r ∧ Words w b k.c
theorem ConV.gr {w w' : World} {v : Value} {k : Con} (h : ConV w v k) (hx : Gr w w') : ConV w' v k := by
  obtain ⟨a, b, h1, h2, h3⟩ := h; exact ⟨a, b, h1, h2.gr hx, h3.gr hx⟩
def RetCon (k : Con) (w : World) (e : Ending) (w' : World) : Prop := ∃ p n c p2 n2 c2, e = .returned (.agg #[.slice p n c, .slice p2 n2 c2]) ∧ ConV w' (.agg #[.slice p n c, .slice p2 n2 c2]) k ∧ Gr w w'

theorem load_con (w : World) (b o : Nat) (x y : Value) (h1 : w.cell? ⟨b, o, none⟩ = some x) (h2 : w.cell? ⟨b, o + 1, none⟩ = some y) : (loadVar 149 ⟨b, o, none⟩).run Tryd.prog w = .ok (.agg #[x, y]) w := by
  simp [go_sem, h1, h2]

def Mat.con (m : Mat) (s : Nat) : Con := ⟨m.hav s, m.close s⟩

set_option maxHeartbeats 1000000 in
/-- closure.Of -/
theorem conof_any (v v2 : Value) (m : Mat) (s : Nat) (w : World) (hv : MatV w v m) (hm : m.small) (hs : SetV w v2 s) (h64 : s < 64) (ht : TabOk w) :
    Calls Tryd.prog 102 #[v, v2] w (RetCon (m.con s) w) := by
  have hv0 := Lib.hid hv
  obtain ⟨u, rfl, hu⟩ := hs
  have hs' : SetV w (.agg #[u]) s := ⟨u, rfl, hu⟩
  have hok := hm.ok
  clear hu hv
  go_enter Tryd.func102, Tryd.ntmps102
  go_wp2_with fail
  refine name_wp fun W hW => ?_
  have hX : Gr w W := by rw [hW]; exact ((Gr.refl _).alloc _).alloc _
  have f1 : W.cell? ⟨w.heap.size, 0, none⟩ = some u := by rw [hW]; go_simp
  have f2 : W.cell? ⟨w.heap.size + 1, 0, none⟩ = some (.slice none 0 0) := by rw [hW]; go_simp
  have f3 : W.cell? ⟨w.heap.size + 1, 1, none⟩ = some (.slice none 0 0) := by rw [hW]; go_simp
  have f4 : W.frozen? ⟨w.heap.size + 1, 0, none⟩ = false := by rw [hW]; go_simp
  have f5 : W.frozen? ⟨w.heap.size + 1, 1, none⟩ = false := by rw [hW]; go_simp
  clear hW
  go_region_held3 (fun w' => Gr w w' ∧ w'.cell? ⟨w.heap.size, 0, none⟩ = some (u) ∧ w'.cell? ⟨w.heap.size + 1, 0, none⟩ = some (cellAt w' ⟨w.heap.size + 1, 0, none⟩) ∧ w'.frozen? ⟨w.heap.size + 1, 0, none⟩ = false ∧ w'.cell? ⟨w.heap.size + 1, 1, none⟩ = some (cellAt w' ⟨w.heap.size + 1, 1, none⟩) ∧ w'.frozen? ⟨w.heap.size + 1, 1, none⟩ = false)
    (first | exact ⟨hX.drew, f1, cellAt_of f2, f4, cellAt_of f3, f5⟩ | (have hh := ‹Gr w _ ∧ _ ∧ _ ∧ _ ∧ _ ∧ _›; exact ⟨hh.1.trans hx1, hx1.cell hh.2.1, cellAt_gr hh.2.2.1 hx1, hx1.frz hh.2.2.1 hh.2.2.2.1, cellAt_gr hh.2.2.2.2.1 hx1, hx1.frz hh.2.2.2.2.1 hh.2.2.2.2.2⟩) | (have hh := ‹Gr w _ ∧ _ ∧ _ ∧ _ ∧ _ ∧ _›; exact ⟨((hh.1).setCell (by simp only []; omega) _).setCell (by simp only []; omega) _, cell?_setCell_ne (cell?_setCell_ne (hh.2.1) (by simp <;> omega)) (by simp <;> omega), cellAt_set (cellAt_set (hh.2.2.1)), (World.frozen?_setCell _ _ _ _).trans ((World.frozen?_setCell _ _ _ _).trans (hh.2.2.2.1)), cellAt_set (cellAt_set (hh.2.2.2.2.1)), (World.frozen?_setCell _ _ _ _).trans ((World.frozen?_setCell _ _ _ _).trans (hh.2.2.2.2.2))⟩))
    (first | (go_at_call 66; have hh := ‹Gr w _ ∧ _ ∧ _ ∧ _ ∧ _ ∧ _›; (with_reducible refine (having_any _ _ m s _ (hv0.out.gr hh.1) hok (hs'.gr hh.1) h64 (ht.gr hh.1)).mono ?_); rintro e w1 ⟨p1, n1, c1, rfl, hv1, hx1⟩; have hy1 := hx1) | (go_at_call 95; have hh := ‹Gr w _ ∧ _ ∧ _ ∧ _ ∧ _ ∧ _›; (with_reducible refine (close_any _ _ m s _ (hv0.out.gr hh.1) hm (hs'.gr hh.1) h64 (ht.gr hh.1)).mono ?_); rintro e w1 ⟨p2, n2, c2, rfl, hv2, hx1⟩; have hy2 := hx1))
  have e1 := hy2.cell (hy1.cell (p := ⟨w.heap.size + 1, 0, none⟩) f2)
  have e2 := hy2.cell (hy1.cell (p := ⟨w.heap.size + 1, 1, none⟩) f3)
  have hG := hh.1.trans hx1
  have hw1 := hv1.words.gr hy2
  have hw2 := hv2.words
  clear hh
  go_wp2
  refine ret_cell1 rfl rfl rfl (load_con _ _ _ (.slice p1 n1 c1) (.slice p2 n2 c2) (cell?_setCell_ne (World.cell?_setCell_same' w1 _ _ (by rw [e1]; rfl)) (by simp)) (World.cell?_setCell_same' _ _ _ (by rw [cell?_setCell_ne e2 (by simp)]; rfl))) ?_
  have e2' := cell?_setCell_ne (a := ⟨w.heap.size + 1, 0, none⟩) (u := .slice p1 n1 c1) e2 (by simp)
  exact ⟨_, _, _, _, _, _, rfl, ⟨_, _, rfl, (hw1.setCell (by simp) e1 _).setCell (by simp) e2' _, (hw2.setCell (by simp) e1 _).setCell (by simp) e2' _⟩, (hG.setCell (by simp) _).setCell (by simp) _⟩
end Go.Proofs.YtcmlhpodghfheaaDoor
