/- Plain law: the lectic order of small sets; lists sorted by it. -/
import Derived.Test.YtcmlhpodghfheaaDoorR4
set_option linter.unusedSimpArgs false
set_option linter.unusedVariables false
namespace Go.Proofs.YtcmlhpodghfheaaDoor

/-- The place of a set in the lectic order. -/
def key (s : Nat) : Nat := (if s.testBit 0 then 32 else 0) + (if s.testBit 1 then 16 else 0) + (if s.testBit 2 then 8 else 0) + (if s.testBit 3 then 4 else 0) + (if s.testBit 4 then 2 else 0) + (if s.testBit 5 then 1 else 0)
/-- All sets, in lectic order. -/
def lexAll : List Nat := (List.range 64).map key

theorem key_lt (s : Nat) : key s < 64 := by unfold key; repeat (first | omega | split)
theorem key_key : ∀ s, s < 64 → key (key s) = s := by decide +kernel
theorem lec_key : ∀ s, s < 64 → ∀ t, t < 64 → (lec s t < 0 ↔ key s < key t) := by decide +kernel
theorem key_inj {s t : Nat} (hs : s < 64) (ht : t < 64) (h : key s = key t) : s = t := by rw [← key_key s hs, h, key_key t ht]

theorem lexAll_mem (s : Nat) : s ∈ lexAll ↔ s < 64 := by
  unfold lexAll
  rw [List.mem_map]
  constructor
  · rintro ⟨a, ha, rfl⟩; exact key_lt a
  · intro h; exact ⟨key s, List.mem_range.2 (key_lt s), key_key s h⟩
theorem lexAll_sorted : lexAll.Pairwise (fun a b => key a < key b) := by decide +kernel

/-- Two lists that ascend and have the same members are one. -/
theorem asc_unique : ∀ (l k : List Nat), l.Pairwise (fun a b => key a < key b) → k.Pairwise (fun a b => key a < key b) → (∀ x, x ∈ l ↔ x ∈ k) → l = k
  | [], [], _, _, _ => rfl
  | [], b :: k, _, _, h => by have := (h b).2 (by simp); simp at this
  | a :: l, [], _, _, h => by have := (h a).1 (by simp); simp at this
  | a :: l, b :: k, hl, hk, h => by
    rw [List.pairwise_cons] at hl hk
    have hab : a = b := by
      have h1 := (h a).1 (by simp)
      have h2 := (h b).2 (by simp)
      rcases List.mem_cons.1 h1 with e | e
      · exact e
      · rcases List.mem_cons.1 h2 with e2 | e2
        · exact e2.symm
        · have := hk.1 a e; have := hl.1 b e2; omega
    subst hab
    congr 1
    refine asc_unique l k hl.2 hk.2 fun x => ?_
    constructor
    · intro hx
      rcases List.mem_cons.1 ((h x).1 (by simp [hx])) with e | e
      · subst e; have := hl.1 x hx; omega
      · exact e
    · intro hx
      rcases List.mem_cons.1 ((h x).2 (by simp [hx])) with e | e
      · subst e; have := hk.1 x hx; omega
      · exact e

theorem filter_sorted (p : Nat → Bool) : (lexAll.filter p).Pairwise (fun a b => key a < key b) := lexAll_sorted.filter p

/-- A list in lectic order is what the filter makes of all sets. -/
theorem lex_filter {l : List Nat} (hs : l.Pairwise (fun a b => key a < key b)) (p : Nat → Bool) (h : ∀ s, s ∈ l ↔ s < 64 ∧ p s = true) : l = lexAll.filter p :=
  asc_unique _ _ hs (filter_sorted p) fun s => by rw [h s, List.mem_filter, lexAll_mem]

/-- The masks, one by one. -/
theorem masks_all : ∀ R, R < 64 → ∀ j, j < 6 → R.testBit j = true →
    (List.range (2 ^ (mems (minus R (2 ^ j))).length)).map (fun mask => maskSet j (mems (minus R (2 ^ j))) mask (mems (minus R (2 ^ j))).length) = (List.range 64).filter fun s => s.testBit j && s &&& R == s := by
  decide +kernel

/-- The columns of the concepts that contain a cell, in lectic order. -/
def Mat.cons (m : Mat) (i j : Nat) : List Nat := if m.has i j then lexAll.filter (fun s => (s.testBit j && s &&& m.rows.getD i 0 == s) && decide (m.close s = m.own s)) else []

theorem raw_mem (m : Mat) (hm : m.good) (i j : Nat) (h : m.has i j = true) (s : Nat) :
    s ∈ m.raw i j (2 ^ (m.others i j).length) ↔ s < 64 ∧ ((s.testBit j && s &&& m.rows.getD i 0 == s) && decide (m.close s = m.own s)) = true := by
  simp only [Mat.has, Bool.and_eq_true, decide_eq_true_eq] at h
  have h6 : m.cols ≤ 6 := hm.1.1
  unfold Mat.raw Mat.others
  rw [masks_all _ (hm.row i) j (by omega) h.2, List.mem_filter, List.mem_filter, List.mem_range]
  simp only [Bool.and_eq_true, decide_eq_true_eq]
  exact ⟨fun ⟨⟨a, b⟩, c⟩ => ⟨a, b, c⟩, fun ⟨a, b, c⟩ => ⟨⟨a, b⟩, c⟩⟩

theorem raw_nodup (m : Mat) (hm : m.good) (i j : Nat) (h : m.has i j = true) : (m.raw i j (2 ^ (m.others i j).length)).Nodup := by
  simp only [Mat.has, Bool.and_eq_true, decide_eq_true_eq] at h
  have h6 : m.cols ≤ 6 := hm.1.1
  unfold Mat.raw Mat.others
  rw [masks_all _ (hm.row i) j (by omega) h.2]
  exact (List.nodup_range.filter _).filter _
end Go.Proofs.YtcmlhpodghfheaaDoor
