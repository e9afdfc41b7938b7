/- Plain law: the reference's closures, its concepts. -/
import Derived.Test.YtcmlhpodghfheaaDoorL1
import Derived.Test.YtcmlhpodghfheaaDoorT3
set_option linter.unusedSimpArgs false
set_option linter.unusedVariables false
namespace Go.Proofs.YtcmlhpodghfheaaDoor

/-- An element, read off the row. -/
def Mat.el (m : Mat) (i j : Nat) : Bool := (m.rows.getD i 0).testBit j

theorem belowN_tb (n t : Nat) : (belowN n).testBit t = decide (t < n) := by
  unfold belowN; exact Nat.testBit_two_pow_sub_one ..

theorem foldl_minus_iff {α : Type} (c : α → Bool) (f : α → Nat) (t : Nat) : ∀ (l : List α) (o : Nat), o < 18446744073709551616 → (∀ x ∈ l, f x < 64) →
    ((l.foldl (fun o x => if c x then minus o (2 ^ f x) else o) o).testBit t = true ↔ o.testBit t = true ∧ ∀ x ∈ l, ¬ (c x = true ∧ f x = t))
  | [], o, _, _ => by simp
  | x :: l, o, ho, hf => by
    rw [List.foldl_cons]
    have hx := hf x (by simp)
    by_cases hc : c x = true
    · rw [if_pos hc, foldl_minus_iff c f t l _ (minus_lt ho) (fun y hy => hf y (by simp [hy])), minus_tb ho (bit_lt64 hx), Nat.testBit_two_pow]
      simp only [Bool.and_eq_true, Bool.not_eq_true', decide_eq_false_iff_not, List.mem_cons, forall_eq_or_imp, hc, true_and, and_assoc]
    · rw [if_neg hc, foldl_minus_iff c f t l _ ho (fun y hy => hf y (by simp [hy]))]
      simp only [List.mem_cons, forall_eq_or_imp, hc, false_and, not_false_eq_true, true_and]
      simp
theorem foldl_minus_lt {α : Type} (c : α → Bool) (f : α → Nat) : ∀ (l : List α) (o : Nat), (l.foldl (fun o x => if c x then minus o (2 ^ f x) else o) o) ≤ o
  | [], o => Nat.le_refl _
  | x :: l, o => by
    rw [List.foldl_cons]
    refine Nat.le_trans (foldl_minus_lt c f l _) ?_
    split
    · exact minus_le _ _
    · exact Nat.le_refl _
theorem foldl_and_iff (p : Nat → Prop) [DecidablePred p] (f : Nat → Nat) (t : Nat) : ∀ (l : List Nat) (o : Nat),
    ((l.foldl (fun s i => if p i then s &&& f i else s) o).testBit t = true ↔ o.testBit t = true ∧ ∀ i ∈ l, p i → (f i).testBit t = true)
  | [], o => by simp
  | x :: l, o => by
    rw [List.foldl_cons, foldl_and_iff p f t l]
    by_cases hp : p x
    · simp only [hp, if_true, Nat.testBit_and, Bool.and_eq_true, List.mem_cons, forall_eq_or_imp, true_implies, and_assoc]
    · simp only [hp, if_false, List.mem_cons, forall_eq_or_imp, false_implies, true_and]
theorem foldl_or_iff (t : Nat) : ∀ (l : List Nat) (o : Nat), ((l.foldl (fun s x => s ||| 2 ^ x) o).testBit t = true ↔ o.testBit t = true ∨ t ∈ l)
  | [], o => by simp
  | x :: l, o => by
    rw [List.foldl_cons, foldl_or_iff t l]
    have e : (x = t) = (t = x) := propext eq_comm
    simp only [Nat.testBit_or, Nat.testBit_two_pow, Bool.or_eq_true, decide_eq_true_eq, List.mem_cons, or_assoc, e]
theorem ofL_iff (l : List Nat) (t : Nat) : (ofL l).testBit t = true ↔ t ∈ l := by
  unfold ofL; rw [foldl_or_iff]; simp

theorem mems_iff {s t : Nat} : t ∈ mems s ↔ t < 6 ∧ s.testBit t = true := by simp [mems]

theorem has_el {m : Mat} {i j : Nat} : m.has i j = true ↔ i < m.rows.length ∧ j < m.cols ∧ m.el i j = true := by
  simp [Mat.has, Mat.el, and_assoc]
theorem hav_iff {m : Mat} (hm : m.small) (s t : Nat) : (m.hav s).testBit t = true ↔ t < m.rows.length ∧ ∀ j, j < m.cols → s.testBit j = true → m.el t j = true := by
  unfold Mat.hav Mat.having
  rw [foldl_and_iff (fun j => j < m.cols) m.col, belowN_tb, decide_eq_true_eq]
  constructor
  · rintro ⟨h1, h2⟩
    refine ⟨h1, fun j hj hs => ?_⟩
    have h3 := h2 j (mems_iff.2 ⟨by have := hm.1; omega, hs⟩) hj
    unfold Mat.col at h3
    rw [ofL_iff, List.mem_filter] at h3
    exact (has_el.1 h3.2).2.2
  · rintro ⟨h1, h2⟩
    refine ⟨h1, fun j hj hc => ?_⟩
    unfold Mat.col
    rw [ofL_iff, List.mem_filter, List.mem_range]
    exact ⟨h1, has_el.2 ⟨h1, hc, h2 j hc (mems_iff.1 hj).2⟩⟩
theorem close_iff {m : Mat} (hm : m.small) (s t : Nat) : (m.close s).testBit t = true ↔ t < m.cols ∧ ∀ i, i < m.rows.length → (m.hav s).testBit i = true → m.el i t = true := by
  unfold Mat.close Mat.common
  rw [foldl_and_iff (fun i => i < m.rows.length) (fun i => m.rows.getD i 0), belowN_tb, decide_eq_true_eq]
  constructor
  · rintro ⟨h1, h2⟩
    exact ⟨h1, fun i hi hs => h2 i (mems_iff.2 ⟨by have := hm.2; omega, hs⟩) hi⟩
  · rintro ⟨h1, h2⟩
    exact ⟨h1, fun i hi hl => h2 i hl (mems_iff.1 hi).2⟩

/-- The reference's Having: the loops. -/
def rhavJ (m : Mat) (s i k o : Nat) : Nat := (List.range k).foldl (fun o j => if s.testBit j && !m.el i j then minus o (2 ^ i) else o) o
def rhavI (m : Mat) (s k : Nat) : Nat := (List.range k).foldl (fun o i => rhavJ m s i m.cols o) (belowN m.rows.length)
theorem rhavJ_succ (m : Mat) (s i k o : Nat) : rhavJ m s i (k + 1) o = if s.testBit k && !m.el i k then minus (rhavJ m s i k o) (2 ^ i) else rhavJ m s i k o := by simp [rhavJ, List.range_succ]
theorem rhavI_succ (m : Mat) (s k : Nat) : rhavI m s (k + 1) = rhavJ m s k m.cols (rhavI m s k) := by simp [rhavI, List.range_succ]
theorem rhavJ_le (m : Mat) (s i k o : Nat) : rhavJ m s i k o ≤ o := foldl_minus_lt (fun j => s.testBit j && !m.el i j) (fun _ => i) _ _
theorem rhavI_le (m : Mat) (s k : Nat) : rhavI m s k ≤ belowN m.rows.length := by
  induction k with
  | zero => exact Nat.le_refl _
  | succ k ih => rw [rhavI_succ]; exact Nat.le_trans (rhavJ_le ..) ih
theorem rhavI_iff {m : Mat} (hm : m.small) (s t : Nat) : ∀ k, k ≤ m.rows.length → ((rhavI m s k).testBit t = true ↔ t < m.rows.length ∧ (t < k → ∀ j, j < m.cols → s.testBit j = true → m.el t j = true))
  | 0, _ => by
    show (belowN m.rows.length).testBit t = true ↔ _
    rw [belowN_tb, decide_eq_true_eq]
    exact ⟨fun h => ⟨h, fun h => absurd h (by omega)⟩, fun h => h.1⟩
  | k + 1, hk => by
    have hb := belowN_small hm.2
    have hle := rhavI_le m s k
    have h6 := hm.2
    rw [rhavI_succ]
    unfold rhavJ
    rw [foldl_minus_iff (fun j => s.testBit j && !m.el k j) (fun _ => k) t _ _ (by omega) (fun _ _ => by omega), rhavI_iff hm s t k (by omega)]
    constructor
    · rintro ⟨⟨h1, h2⟩, h3⟩
      refine ⟨h1, fun ht j hj hs => ?_⟩
      rcases Nat.lt_or_ge t k with h | h
      · exact h2 h j hj hs
      · obtain rfl : t = k := by omega
        have := h3 j (List.mem_range.2 hj)
        simpa [hs] using this
    · rintro ⟨h1, h2⟩
      refine ⟨⟨h1, fun h => h2 (by omega)⟩, ?_⟩
      rintro j hj ⟨h3, h4⟩
      subst h4
      simp only [Bool.and_eq_true, Bool.not_eq_true'] at h3
      have := h2 (by omega) j (List.mem_range.1 hj) h3.1
      rw [this] at h3
      exact absurd h3.2 (by simp)
theorem rhav_eq {m : Mat} (hm : m.small) (s : Nat) : rhavI m s m.rows.length = m.hav s := by
  apply Nat.eq_of_testBit_eq
  intro t
  rw [Bool.eq_iff_iff, rhavI_iff hm s t _ (Nat.le_refl _), hav_iff hm]
  exact ⟨fun ⟨h1, h2⟩ => ⟨h1, h2 h1⟩, fun ⟨h1, h2⟩ => ⟨h1, fun _ => h2⟩⟩

/-- The reference's Common: the loops. -/
def rcomJ (m : Mat) (r i k o : Nat) : Nat := (List.range k).foldl (fun o j => if r.testBit i && !m.el i j then minus o (2 ^ j) else o) o
def rcomI (m : Mat) (r k : Nat) : Nat := (List.range k).foldl (fun o i => rcomJ m r i m.cols o) (belowN m.cols)
theorem rcomJ_succ (m : Mat) (r i k o : Nat) : rcomJ m r i (k + 1) o = if r.testBit i && !m.el i k then minus (rcomJ m r i k o) (2 ^ k) else rcomJ m r i k o := by simp [rcomJ, List.range_succ]
theorem rcomI_succ (m : Mat) (r k : Nat) : rcomI m r (k + 1) = rcomJ m r k m.cols (rcomI m r k) := by simp [rcomI, List.range_succ]
theorem rcomJ_le (m : Mat) (r i k o : Nat) : rcomJ m r i k o ≤ o := foldl_minus_lt (fun j => r.testBit i && !m.el i j) (fun j => j) _ _
theorem rcomI_le (m : Mat) (r k : Nat) : rcomI m r k ≤ belowN m.cols := by
  induction k with
  | zero => exact Nat.le_refl _
  | succ k ih => rw [rcomI_succ]; exact Nat.le_trans (rcomJ_le ..) ih
theorem rcomI_iff {m : Mat} (hm : m.small) (r t : Nat) : ∀ k, k ≤ m.rows.length → ((rcomI m r k).testBit t = true ↔ t < m.cols ∧ ∀ i, i < k → r.testBit i = true → m.el i t = true)
  | 0, _ => by
    show (belowN m.cols).testBit t = true ↔ _
    rw [belowN_tb, decide_eq_true_eq]
    exact ⟨fun h => ⟨h, fun _ h => absurd h (by omega)⟩, fun h => h.1⟩
  | k + 1, hk => by
    have hb := belowN_small hm.1
    have hle := rcomI_le m r k
    have h6 := hm.1
    rw [rcomI_succ]
    unfold rcomJ
    rw [foldl_minus_iff (fun j => r.testBit k && !m.el k j) (fun j => j) t _ _ (by omega) (fun x hx => by have := List.mem_range.1 hx; omega), rcomI_iff hm r t k (by omega)]
    constructor
    · rintro ⟨⟨h1, h2⟩, h3⟩
      refine ⟨h1, fun i hi hr => ?_⟩
      rcases Nat.lt_or_ge i k with h | h
      · exact h2 i h hr
      · obtain rfl : i = k := by omega
        have := h3 t (List.mem_range.2 h1)
        simpa [hr] using this
    · rintro ⟨h1, h2⟩
      refine ⟨⟨h1, fun i hi => h2 i (by omega)⟩, ?_⟩
      rintro j hj ⟨h3, h4⟩
      subst h4
      simp only [Bool.and_eq_true, Bool.not_eq_true'] at h3
      have := h2 k (by omega) h3.1
      rw [this] at h3
      exact absurd h3.2 (by simp)
theorem rclose_eq {m : Mat} (hm : m.small) (s : Nat) : rcomI m (m.hav s) m.rows.length = m.close s := by
  apply Nat.eq_of_testBit_eq
  intro t
  rw [Bool.eq_iff_iff, rcomI_iff hm _ t _ (Nat.le_refl _), close_iff hm]

/-- The lectic order of the reference. -/
theorem before_at : ∀ a, a < 64 → ∀ b, b < 64 → ∀ j, j < 6 → (∀ t, t < j → a.testBit t = b.testBit t) → a.testBit j ≠ b.testBit j → decide (key a < key b) = b.testBit j := by decide +kernel
theorem before_same : ∀ a, a < 64 → ∀ b, b < 64 → (∀ t, t < 6 → a.testBit t = b.testBit t) → decide (key a < key b) = false := by decide +kernel
theorem tb64 {a t : Nat} (h : a < 64) (ht : 6 ≤ t) : a.testBit t = false := Nat.testBit_lt_two_pow (Nat.lt_of_lt_of_le h (Nat.pow_le_pow_right (n := 2) (by omega) ht))

/-- The reference's list of concepts: one is put in its place. -/
def insB (s : Nat) : List Nat → List Nat
  | [] => [s]
  | t :: l => if decide (key t < key s) then t :: insB s l else s :: t :: l
theorem insB_at (s : Nat) : ∀ (l : List Nat) (i : Nat), i ≤ l.length → (∀ k, k < i → decide (key (l.getD k 0) < key s) = true) → (i < l.length → decide (key (l.getD i 0) < key s) = false) → l.take i ++ s :: l.drop i = insB s l
  | [], i, h, _, _ => by
    obtain rfl : i = 0 := by simpa using h
    rfl
  | t :: l, 0, _, _, h => by
    have := h (by simp)
    simp only [List.getD_cons_zero] at this
    simp [insB, this]
  | t :: l, i + 1, hi, h1, h2 => by
    have h0 := h1 0 (by omega)
    simp only [List.getD_cons_zero] at h0
    simp only [insB, h0, if_true, List.take_succ_cons, List.drop_succ_cons, List.cons_append]
    rw [insB_at s l i (by simpa using hi) (fun k hk => by have := h1 (k + 1) (by omega); simpa using this) (fun hk => by have := h2 (by simpa using hk); simpa using this)]
theorem insB_mem (s x : Nat) : ∀ l, x ∈ insB s l ↔ x = s ∨ x ∈ l
  | [] => by simp [insB]
  | t :: l => by
    unfold insB
    split
    · simp only [List.mem_cons, insB_mem s x l]
      constructor
      · rintro (h | h | h) <;> simp [h]
      · rintro (h | h | h) <;> simp [h]
    · simp only [List.mem_cons]
theorem insB_sorted (s : Nat) : ∀ l, l.Pairwise (fun a b => key a < key b) → (∀ t ∈ l, key t ≠ key s) → (insB s l).Pairwise (fun a b => key a < key b)
  | [], _, _ => by simp [insB]
  | t :: l, h, hn => by
    rw [List.pairwise_cons] at h
    unfold insB
    split
    · rename_i hlt
      have hlt : key t < key s := by simpa using hlt
      rw [List.pairwise_cons]
      refine ⟨fun x hx => ?_, insB_sorted s l h.2 (fun t ht => hn t (by simp [ht]))⟩
      rcases (insB_mem s x l).1 hx with rfl | hx
      · exact hlt
      · exact h.1 x hx
    · rename_i hlt
      have hlt : ¬ key t < key s := by simpa using hlt
      have hne := hn t (by simp)
      rw [List.pairwise_cons, List.pairwise_cons]
      refine ⟨fun x hx => ?_, h.1, h.2⟩
      rcases List.mem_cons.1 hx with rfl | hx
      · omega
      · have := h.1 x hx; omega
theorem insB_len (s : Nat) : ∀ l, (insB s l).length = l.length + 1
  | [] => rfl
  | t :: l => by unfold insB; split <;> simp [insB_len s l]

def allOk (m : Mat) (s : Nat) : Bool := decide (m.close s = s) && !decide (m.hav s = 0)
/-- The concepts among the sets 1 to k. -/
def allK (m : Mat) : Nat → List Nat
  | 0 => []
  | k + 1 => if allOk m (k + 1) then insB (k + 1) (allK m k) else allK m k
theorem allK_mem (m : Mat) (x : Nat) : ∀ k, x ∈ allK m k ↔ 1 ≤ x ∧ x ≤ k ∧ allOk m x = true
  | 0 => by simp [allK]; omega
  | k + 1 => by
    unfold allK
    split
    · rename_i h
      rw [insB_mem, allK_mem m x k]
      constructor
      · rintro (rfl | ⟨h1, h2, h3⟩)
        · exact ⟨by omega, by omega, h⟩
        · exact ⟨h1, by omega, h3⟩
      · rintro ⟨h1, h2, h3⟩
        by_cases e : x = k + 1
        · exact .inl e
        · exact .inr ⟨h1, by omega, h3⟩
    · rename_i h
      rw [allK_mem m x k]
      constructor
      · rintro ⟨h1, h2, h3⟩; exact ⟨h1, by omega, h3⟩
      · rintro ⟨h1, h2, h3⟩
        refine ⟨h1, ?_, h3⟩
        by_cases e : x = k + 1
        · rw [e] at h3; exact absurd h3 h
        · omega
theorem allK_sorted (m : Mat) : ∀ k, k < 64 → (allK m k).Pairwise (fun a b => key a < key b)
  | 0, _ => by simp [allK]
  | k + 1, hk => by
    unfold allK
    split
    · refine insB_sorted _ _ (allK_sorted m k (by omega)) fun t ht e => ?_
      have := (allK_mem m t k).1 ht
      have := key_inj (by omega) hk e
      omega
    · exact allK_sorted m k (by omega)
theorem allK_len (m : Mat) : ∀ k, (allK m k).length ≤ k
  | 0 => by simp [allK]
  | k + 1 => by
    have := allK_len m k
    unfold allK
    split
    · rw [insB_len]; omega
    · omega
def Mat.all (m : Mat) : List Nat := allK m (2 ^ m.cols - 1)
theorem pow6 {m : Mat} (hm : m.small) : 2 ^ m.cols ≤ 64 ∧ 1 ≤ 2 ^ m.cols := ⟨(Nat.pow_le_pow_right (by omega) hm.1 : 2 ^ m.cols ≤ 2 ^ 6), Nat.one_le_two_pow⟩
theorem all_mem {m : Mat} (hm : m.small) (x : Nat) : x ∈ m.all ↔ 1 ≤ x ∧ x < 2 ^ m.cols ∧ allOk m x = true := by
  unfold Mat.all
  rw [allK_mem]
  have := (pow6 hm).2
  constructor <;> (rintro ⟨h1, h2, h3⟩; exact ⟨h1, by omega, h3⟩)

theorem tb_cols {n s j : Nat} (h : s < 2 ^ n) (hj : s.testBit j = true) : j < n := by
  refine Nat.lt_of_not_le fun h2 => ?_
  rw [Nat.testBit_lt_two_pow (Nat.lt_of_lt_of_le h (Nat.pow_le_pow_right (by omega) h2))] at hj
  exact absurd hj (by simp)
theorem lt_cols {n s : Nat} (h : ∀ j, s.testBit j = true → j < n) : s < 2 ^ n := by
  refine Nat.lt_of_not_le fun h2 => ?_
  obtain ⟨i, hi, hb⟩ := Nat.exists_ge_and_testBit_of_ge_two_pow h2
  have := h i hb
  omega
theorem sub_iff (s r : Nat) : s &&& r = s ↔ ∀ j, s.testBit j = true → r.testBit j = true := by
  constructor
  · intro h j hj
    rw [← h, Nat.testBit_and, Bool.and_eq_true] at hj
    exact hj.2
  · intro h
    apply Nat.eq_of_testBit_eq
    intro j
    rw [Nat.testBit_and]
    cases hs : s.testBit j with
    | false => rfl
    | true => rw [h j hs]; rfl

/-- The concepts that contain a cell: both ways. -/
theorem rcons_eq {m : Mat} (hm : m.good) (i j : Nat) : (m.all.filter fun s => m.has i j && (s.testBit j && (m.hav s).testBit i)) = m.cons i j := by
  have hs := hm.1
  have hp := pow6 hs
  by_cases hh : m.has i j = true
  · have hh' := has_el.1 hh
    unfold Mat.cons
    rw [if_pos hh]
    refine lex_filter ((allK_sorted m _ (by omega)).filter _) _ fun s => ?_
    rw [List.mem_filter]
    rw [show s ∈ allK m (2 ^ m.cols - 1) ↔ _ from all_mem hs s]
    simp only [hh, Bool.true_and, Bool.and_eq_true, allOk, decide_eq_true_eq, Bool.not_eq_true', decide_eq_false_iff_not, beq_iff_eq]
    have hown : ∀ s, s < 2 ^ m.cols → m.own s = s := fun s h => by
      unfold Mat.own
      rw [sub_iff]
      intro j hj
      rw [belowN_tb]
      simpa using tb_cols h hj
    have hrow : m.rows.getD i 0 < 2 ^ m.cols := hm.2 _ (by rw [List.getD_eq_getElem?_getD, List.getElem?_eq_getElem hh'.1]; simp)
    constructor
    · rintro ⟨⟨h1, h2, h3, h4⟩, h5, h6⟩
      refine ⟨by omega, ⟨h5, ?_⟩, by rw [hown s h2, h3]⟩
      rw [sub_iff]
      intro k hk
      exact ((hav_iff hs s i).1 h6).2 k (tb_cols h2 hk) hk
    · rintro ⟨h1, ⟨h5, h6⟩, h7⟩
      rw [sub_iff] at h6
      have h2 : s < 2 ^ m.cols := lt_cols fun k hk => tb_cols hrow (h6 k hk)
      have hi : (m.hav s).testBit i = true := (hav_iff hs s i).2 ⟨hh'.1, fun k _ hk => h6 k hk⟩
      refine ⟨⟨?_, h2, by rw [h7, hown s h2], ?_⟩, h5, hi⟩
      · refine Nat.pos_of_ne_zero fun e => ?_
        rw [e] at h5; simp at h5
      · intro e; rw [e] at hi; simp at hi
  · unfold Mat.cons
    rw [if_neg hh, List.filter_eq_nil_iff]
    intro s _
    simp [hh]
end Go.Proofs.YtcmlhpodghfheaaDoor
