/- Loops over sets inside loops: many marks. -/
import Derived.Test.YtcmlhpodghfheaaDoorC3
set_option linter.unusedSimpArgs false
set_option linter.unusedVariables false
namespace Go.Proofs.YtcmlhpodghfheaaDoor
open Go.RowKit Go.Shelf

/-- The marks that loops over sets have left, from block B on. -/
def MarksAt (B : Nat) (w : World) (ds : List Deferred) : Prop := ∃ Ds : List Nat, ds = Ds.map (fun D => { target := .collected D, args := #[] }) ∧ Ds.Nodup ∧ ∀ D ∈ Ds, B ≤ D ∧ w.heap[D]? = some (.deferred (some []))
theorem MarksAt.nil (B : Nat) (w : World) : MarksAt B w [] := ⟨[], rfl, List.nodup_nil, by simp⟩
theorem MarksAt.gr {B : Nat} {w w' : World} {ds : List Deferred} (h : MarksAt B w ds) (hx : Gr w w') : MarksAt B w' ds := by
  obtain ⟨Ds, h1, h2, h3⟩ := h
  exact ⟨Ds, h1, h2, fun D hD => ⟨(h3 D hD).1, (Below.block hx D (Array.getElem?_eq_some_iff.1 (h3 D hD).2).1).trans (h3 D hD).2⟩⟩
theorem MarksAt.setCell {B : Nat} {w : World} {ds : List Deferred} (h : MarksAt B w ds) {p : Addr} {v : Value} (hc : w.cell? p = some v) (u : Value) : MarksAt B (w.setCell p u) ds := by
  obtain ⟨Ds, h1, h2, h3⟩ := h
  refine ⟨Ds, h1, h2, fun D hD => ⟨(h3 D hD).1, (Below.heap_setCell _ _ _ _ (fun e => ?_)).trans (h3 D hD).2⟩⟩
  have h4 := (h3 D hD).2
  rw [e] at h4
  simp [World.cell?, h4] at hc
/-- What a turn of a loop's book-keeping leaves of the marks that stood before the loop. -/
theorem MarksAt.turn {B S : Nat} {A C w0 : World} {row : Option Nat} {ds : List Deferred} (hg : A.grownBy C row) (hr : ∀ r, row = some r → S ≤ r ∧ ∃ o : Obj, A.heap[r]? = some o ∧ o.isCells = false) (h0 : MarksAt B w0 ds) (hS : w0.heap.size ≤ S) (h : MarksAt B A ds) : MarksAt B C ds := by
  obtain ⟨Ds, h1, h2, h3⟩ := h
  obtain ⟨Ds', h1', h2', h3'⟩ := h0
  have hDD : Ds = Ds' := by
    rw [h1] at h1'
    have inj : ∀ (a b : List Nat), a.map (fun D => ({ target := .collected D, args := #[] } : Deferred)) = b.map (fun D => { target := .collected D, args := #[] }) → a = b := by
      intro a
      induction a with
      | nil => intro b h; cases b with | nil => rfl | cons => simp at h
      | cons x a ih => intro b h; cases b with
        | nil => simp at h
        | cons y b => simp at h; rw [h.1, ih b h.2]
    exact inj _ _ h1'
  refine ⟨Ds, h1, h2, fun D hD => ⟨(h3 D hD).1, ?_⟩⟩
  have hlt : D < w0.heap.size := (Array.getElem?_eq_some_iff.1 (h3' D (hDD ▸ hD)).2).1
  have h4 := (h3 D hD).2
  exact (hg.block D (Array.getElem?_eq_some_iff.1 h4).1 (fun e => by have := (hr D e.symm).1; omega)).trans h4
theorem MarksAt.cons {B : Nat} {w w0 : World} {ds : List Deferred} (h : MarksAt B w ds) (h0 : MarksAt B w0 ds) {D : Nat} (hS : w0.heap.size ≤ D) (hB : B ≤ w0.heap.size) (hK : w.heap[D]? = some (.deferred (some []))) : MarksAt B w ({ target := .collected D, args := #[] } :: ds) := by
  obtain ⟨Ds, h1, h2, h3⟩ := h
  obtain ⟨Ds', h1', h2', h3'⟩ := h0
  refine ⟨D :: Ds, by rw [h1]; rfl, ?_, ?_⟩
  · rw [List.nodup_cons]
    refine ⟨fun hD => ?_, h2⟩
    have : ({ target := .collected D, args := #[] } : Deferred) ∈ ds := by rw [h1]; exact List.mem_map.2 ⟨D, hD, rfl⟩
    rw [h1'] at this
    obtain ⟨D', hD', e⟩ := List.mem_map.1 this
    simp only [Deferred.mk.injEq, Target.collected.injEq, and_true] at e
    subst e
    have := (Array.getElem?_eq_some_iff.1 (h3' _ hD').2).1
    omega
  · intro E hE
    rcases List.mem_cons.1 hE with rfl | hE
    · exact ⟨by omega, hK⟩
    · exact h3 E hE

/-- The end of a function whose loops have left marks. -/
theorem ret_marks {P : Program} {fn : Func} {R : Ending → World → Prop} {a : Act} {w w0 : World} {n B : Nat} {v : Value} (h : MarksAt B w a.defers) (hB : w0.heap.size ≤ B) (hG : Gr w0 w)
    (hr : ∀ w', (∀ p x, w.cell? p = some x → w'.cell? p = some x) → (results fn a.tmps).run P w' = .ok v w')
    (hR : ∀ w', Gr w0 w' → (∀ p x, w.cell? p = some x → w'.cell? p = some x) → R (.returned v) w') : bodyPostM Fence.wide n P fn R .ret a w := by
  show LeavesInM _ _ _ _ _ _ a.defers .returning w
  obtain ⟨Ds, h1, h2, h3⟩ := h
  rw [h1]
  clear h1
  have key : ∀ (Ds : List Nat) (W : World), Ds.Nodup → (∀ D ∈ Ds, B ≤ D ∧ W.heap[D]? = some (.deferred (some []))) → Gr w0 W → (∀ p x, w.cell? p = some x → W.cell? p = some x) →
      LeavesInM Fence.wide n P fn a.tmps R (Ds.map fun D => { target := .collected D, args := #[] }) .returning W := by
    intro Ds
    induction Ds with
    | nil =>
      intro W _ _ hG hc
      exact ⟨_, hr W hc, hR W hG hc⟩
    | cons D Ds ih =>
      intro W hn hm hG hc
      rw [List.nodup_cons] at hn
      have hK := (hm D (by simp)).2
      refine ⟨by simp, .inl ⟨_, _, rfl, run_takeDeferred hK, ?_⟩⟩
      refine ih _ hn.2 (fun E hE => ⟨(hm E (by simp [hE])).1, ?_⟩) (put_gr hG (by have := (hm D (by simp)).1; omega)) (fun p x hp => put_cell hK (hc p x hp))
      have hne : E ≠ D := fun e => hn.1 (e ▸ hE)
      have hE2 := (hm E (by simp [hE])).2
      exact ((grownBy_putObj' W D _).block E (Array.getElem?_eq_some_iff.1 hE2).1 (fun e => hne (Option.some.inj e))).trans hE2
  exact key Ds w h2 h3 hG (fun _ _ h => h)

/-- A loop whose rounds leave marks. -/
theorem wp_loop_k {P : Program} {c : Code} {Q : Exit → Act → World → Prop} {a : Act} {w : World} (I : Act → World → Prop) (μ : Act → World → Nat) (h0 : I a w)
    (round : ∀ a w, I a w → ∀ K : Act → World → Prop, (∀ a' w', I a' w' → μ a' w' < μ a w → K a' w') → c.wp P (Exit.then K Q) a w) : (Code.loop c).wp P Q a w :=
  wp_loop I μ h0 (fun a w h => round a w h _ (fun _ _ h1 h2 => ⟨h1, h2⟩))
end Go.Proofs.YtcmlhpodghfheaaDoor
