/- rank.Concepts: words. -/
import Derived.Test.YtcmlhpodghfheaaDoorR3
set_option linter.unusedSimpArgs false
set_option linter.unusedVariables false
namespace Go.Proofs.YtcmlhpodghfheaaDoor
open Go.RowKit Go.Shelf

/-- A matrix of this work: small, and its rows lie within its columns. -/
def Mat.good (m : Mat) : Prop := m.small ∧ ∀ r ∈ m.rows, r < 2 ^ m.cols
theorem Mat.good.row {m : Mat} (h : m.good) (i : Nat) : m.rows.getD i 0 < 64 := by
  have h2 : (2 : Nat) ^ m.cols ≤ 2 ^ 6 := Nat.pow_le_pow_right (by omega) h.1.1
  rcases Nat.lt_or_ge i m.rows.length with hi | hi
  · have := h.2 (m.rows.getD i 0) (by simp [List.getD, hi])
    omega
  · simp [List.getD, List.getElem?_eq_none hi]

theorem Ints.gr {w w' : World} {v : Value} {xs : List Nat} (h : Ints w v xs) (hx : Gr w w') : Ints w' v xs := by
  rcases h with h | ⟨h1, b, o, c, h2, h3⟩
  · exact .inl h
  · exact .inr ⟨h1, b, o, c, h2, fun i hi => hx.cell (h3 i hi)⟩
theorem Ints.slice {w : World} {v : Value} {xs : List Nat} (h : Ints w v xs) : ∃ p c, v = .slice p xs.length c := by
  rcases h with ⟨rfl, p, c, h⟩ | ⟨_, b, o, c, h, _⟩
  · exact ⟨p, c, h⟩
  · exact ⟨_, c, h⟩

/-- A bit of a mask, as the walk spells it. -/
theorem bit_i64 (K k : Nat) (hK : K < 4611686018427387904) : (bits BinOp.and IntKind.i64 ((K : Int) / 2 ^ k) 1 == 1) = K.testBit k := by
  have e : ((K : Int) / 2 ^ k) = ((K / 2 ^ k : Nat) : Int) := by simp
  rw [e]
  have hl : K / 2 ^ k < 4611686018427387904 := Nat.lt_of_le_of_lt (Nat.div_le_self _ _) hK
  have h : bits BinOp.and IntKind.i64 ((K / 2 ^ k : Nat) : Int) 1 = ((K / 2 ^ k % 2 : Nat) : Int) := by
    show IntKind.i64.wrap ((BitVec.ofInt 64 ((K / 2 ^ k : Nat) : Int) &&& BitVec.ofInt 64 ((1 : Nat) : Int)).toNat : Int) = _
    rw [BitVec.toNat_and, ofInt_u64 _ (by omega), ofInt_u64 1 (by omega), Nat.and_one_is_mod]
    rw [IntKind.wrap_i64]; omega
  rw [h, Nat.testBit_eq_decide_div_mod_eq]
  rw [Bool.eq_iff_iff]; simp; omega

/-- The set that a mask stands for. -/
def maskSet (j : Nat) (others : List Nat) (mask k : Nat) : Nat := (List.range k).foldl (fun s i => if mask.testBit i then s ||| 2 ^ (others.getD i 0) else s) (2 ^ j)
theorem maskSet_succ (j : Nat) (others : List Nat) (mask k : Nat) : maskSet j others mask (k + 1) = if mask.testBit k then maskSet j others mask k ||| 2 ^ (others.getD k 0) else maskSet j others mask k := by
  simp [maskSet, List.range_succ]
theorem maskSet_lt (j : Nat) (others : List Nat) (mask k : Nat) (hj : j < 6) (ho : ∀ x ∈ others, x < 6) (hk : k ≤ others.length) : maskSet j others mask k < 64 := by
  induction k with
  | zero =>
    show 2 ^ j < 2 ^ 6
    exact Nat.pow_lt_pow_right (by omega) hj
  | succ k ih =>
    rw [maskSet_succ]
    have h := ih (by omega)
    split
    · have h1 : others.getD k 0 ∈ others := by rw [List.getD_eq_getElem?_getD, List.getElem?_eq_getElem (by omega)]; simp
      exact Nat.or_lt_two_pow (n := 6) h (Nat.pow_lt_pow_right (by omega) (ho _ h1))
    · exact h
def Mat.others (m : Mat) (i j : Nat) : List Nat := mems (minus (m.rows.getD i 0) (2 ^ j))
theorem others_lt (m : Mat) (i j : Nat) : ∀ x ∈ m.others i j, x < 6 := fun x hx => by
  have := (List.mem_filter.1 hx).1
  simpa using this
def Mat.raw (m : Mat) (i j : Nat) (k : Nat) : List Nat := ((List.range k).map fun mask => maskSet j (m.others i j) mask (m.others i j).length).filter fun s => decide (m.close s = m.own s)

theorem raw_len (m : Mat) (i j k : Nat) : (m.raw i j k).length ≤ k := Nat.le_trans (List.length_filter_le _ _) (by simp)
theorem raw_succ (m : Mat) (i j k : Nat) : m.raw i j (k + 1) = m.raw i j k ++ (if m.close (maskSet j (m.others i j) k (m.others i j).length) = m.own (maskSet j (m.others i j) k (m.others i j).length) then [maskSet j (m.others i j) k (m.others i j).length] else []) := by
  simp only [Mat.raw, List.range_succ, List.map_append, List.map_cons, List.map_nil, List.filter_append]
  congr 1
  simp only [List.filter_cons, List.filter_nil, decide_eq_true_eq]

end Go.Proofs.YtcmlhpodghfheaaDoor
