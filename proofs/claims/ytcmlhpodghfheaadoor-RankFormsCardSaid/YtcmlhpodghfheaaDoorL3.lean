/- Plain law: what is open, as a list of cells. -/
import Derived.Test.YtcmlhpodghfheaaDoorL2
import Derived.Test.YtcmlhpodghfheaaDoorN1
set_option linter.unusedSimpArgs false
set_option linter.unusedVariables false
namespace Go.Proofs.YtcmlhpodghfheaaDoor

/-- The cells of rows, one after the other. -/
def cellsF (o : List Nat) : List (Nat × Nat) := ((List.range o.length).map fun i => (mems (o.getD i 0)).map fun j => (i, j)).flatten
theorem getD_lt64 {o : List Nat} (h : ∀ x ∈ o, x < 64) (i : Nat) : o.getD i 0 < 64 := by
  rw [List.getD_eq_getElem?_getD]
  rcases Nat.lt_or_ge i o.length with hi | hi
  · rw [List.getElem?_eq_getElem hi]; exact h _ (by simp)
  · rw [List.getElem?_eq_none hi]; simp
theorem tb6 {a t : Nat} (h : a < 64) (ht : a.testBit t = true) : t < 6 := by
  refine Nat.lt_of_not_le fun h2 => ?_
  rw [tb64 h h2] at ht
  exact absurd ht (by simp)
theorem cellsF_mem {o : List Nat} (h : ∀ x ∈ o, x < 64) (i j : Nat) : (i, j) ∈ cellsF o ↔ isOpen o i j = true := by
  unfold cellsF isOpen
  rw [List.mem_flatten]
  simp only [List.mem_map, List.mem_range, Bool.and_eq_true, decide_eq_true_eq]
  constructor
  · rintro ⟨_, ⟨a, ha, rfl⟩, hl⟩
    obtain ⟨b, hb, e⟩ := List.mem_map.1 hl
    obtain ⟨rfl, rfl⟩ := Prod.mk.inj e
    exact ⟨ha, (mems_iff.1 hb).2⟩
  · rintro ⟨h1, h2⟩
    exact ⟨_, ⟨i, h1, rfl⟩, List.mem_map.2 ⟨j, mems_iff.2 ⟨tb6 (getD_lt64 h i) h2, h2⟩, rfl⟩⟩

/-- Cells without those of a concept. -/
def withoutF (m : Mat) (l : List (Nat × Nat)) (s : Nat) : List (Nat × Nat) := l.filter fun c => !(s.testBit c.2 && (m.hav s).testBit c.1)
theorem lessOf_len (m : Mat) (o : List Nat) (s : Nat) : (lessOf m o s).length = o.length := by simp [lessOf]
theorem lessOf_get (m : Mat) (o : List Nat) (s i : Nat) (h : i < o.length) : (lessOf m o s).getD i 0 = if (m.hav s).testBit i then minus (o.getD i 0) s else o.getD i 0 := by
  simp [lessOf, List.getD, List.getElem?_range h]
theorem mems_minus {x s : Nat} (hx : x < 64) (hs : s < 64) (b : Bool) : (mems x).filter (fun j => !(s.testBit j && b)) = mems (if b then minus x s else x) := by
  unfold mems
  rw [List.filter_filter]
  refine List.filter_congr fun j _ => ?_
  cases b with
  | false => simp
  | true => rw [if_pos rfl, minus_tb (by omega) (by omega)]; simp [Bool.and_comm]
theorem without_cells (m : Mat) {o : List Nat} {s : Nat} (h : ∀ x ∈ o, x < 64) (hs : s < 64) : withoutF m (cellsF o) s = cellsF (lessOf m o s) := by
  unfold withoutF cellsF
  rw [List.filter_flatten, List.map_map, lessOf_len]
  congr 1
  refine List.map_congr_left fun i hi => ?_
  have hi := List.mem_range.1 hi
  rw [Function.comp_apply, List.filter_map, lessOf_get _ _ _ _ hi, ← mems_minus (getD_lt64 h i) hs]
  rfl

theorem foldl_sum {α : Type} (f : α → Nat) : ∀ (l : List α) (n : Nat), l.foldl (fun n x => n + f x) n = n + (l.map f).sum
  | [], n => by simp
  | x :: l, n => by rw [List.foldl_cons, foldl_sum f l, List.map_cons, List.sum_cons]; omega
theorem sum_filter {α : Type} (p : α → Bool) (f : α → Nat) : ∀ l : List α, ((l.filter p).map f).sum = (l.map fun x => if p x then f x else 0).sum
  | [] => rfl
  | x :: l => by
    have ih := sum_filter p f l
    cases h : p x <;> simp [h, ih]
theorem sum_ext (g : Nat → Nat) (n : Nat) : ∀ d, (∀ i, n ≤ i → g i = 0) → ((List.range (n + d)).map g).sum = ((List.range n).map g).sum
  | 0, _ => rfl
  | d + 1, h => by
    rw [← Nat.add_assoc, List.range_succ, List.map_append, List.sum_append, sum_ext g n d h]
    simp [h (n + d) (by omega)]
theorem sum_add (f g : Nat → Nat) : ∀ l : List Nat, (l.map fun x => f x + g x).sum = (l.map f).sum + (l.map g).sum
  | [] => rfl
  | x :: l => by simp [sum_add f g l]; omega
theorem mems_pop (x : Nat) : (mems x).length = pop x := by
  unfold mems pop; rw [List.countP_eq_length_filter]
theorem cells_len (o : List Nat) : (cellsF o).length = ((List.range o.length).map fun i => pop (o.getD i 0)).sum := by
  unfold cellsF
  rw [List.length_flatten, List.map_map]
  congr 1
  refine List.map_congr_left fun i _ => ?_
  simp [mems_pop]
theorem range_getD (o : List Nat) : (List.range o.length).map (fun i => o.getD i 0) = o := by
  apply List.ext_getElem?
  intro i
  rw [List.getElem?_map]
  rcases Nat.lt_or_ge i o.length with h | h
  · rw [List.getElem?_range h, Option.map_some, List.getD_eq_getElem?_getD, List.getElem?_eq_getElem h]; rfl
  · rw [List.getElem?_eq_none (by simpa using h), List.getElem?_eq_none h]; rfl
theorem cells_pop (o : List Nat) : (cellsF o).length = sumPop o := by
  rw [cells_len]
  unfold sumPop
  rw [foldl_sum, Nat.zero_add]
  congr 1
  conv => rhs; rw [← range_getD o]
  rw [List.map_map]
  rfl

theorem pop_split : ∀ x, x < 64 → ∀ s, s < 64 → pop x = pop (x &&& s) + pop (minus x s) := by decide +kernel
theorem pop_zero : pop 0 = 0 := by decide
theorem less_len {m : Mat} (hm : m.small) {o : List Nat} {s : Nat} (h : ∀ x ∈ o, x < 64) (hl : o.length = m.rows.length) (hs : s < 64) : (cellsF o).length = (cellsF (lessOf m o s)).length + inCon o ⟨m.hav s, s⟩ := by
  have e : inCon o ⟨m.hav s, s⟩ = ((List.range o.length).map fun i => if (m.hav s).testBit i then pop (o.getD i 0 &&& s) else 0).sum := by
    unfold inCon
    rw [foldl_sum, Nat.zero_add]
    unfold mems
    rw [sum_filter]
    have h6 := hm.2
    rw [show (6 : Nat) = o.length + (6 - o.length) from by omega]
    refine sum_ext _ _ _ fun i hi => ?_
    have : (m.hav s).testBit i = false := by
      rw [Bool.eq_false_iff]
      intro h
      have := ((hav_iff hm s i).1 h).1
      omega
    simp [this]
  rw [e, cells_len, cells_len, lessOf_len, ← sum_add]
  congr 1
  refine List.map_congr_left fun i hi => ?_
  rw [lessOf_get _ _ _ _ (List.mem_range.1 hi)]
  by_cases hb : (m.hav s).testBit i = true
  · simp only [hb, if_true]
    rw [pop_split _ (getD_lt64 h i) s hs]; omega
  · simp [hb]

theorem foldl_max {α : Type} (f : α → Nat) (k : Nat) : ∀ (l : List α) (a : Nat), l.foldl (fun a x => max a (f x)) a ≤ k ↔ a ≤ k ∧ ∀ x ∈ l, f x ≤ k
  | [], a => by simp
  | x :: l, a => by
    rw [List.foldl_cons, foldl_max f k l]
    simp only [List.mem_cons, forall_eq_or_imp, ← and_assoc]
    constructor
    · rintro ⟨h1, h2⟩; exact ⟨⟨by omega, by omega⟩, h2⟩
    · rintro ⟨⟨h1, h2⟩, h3⟩; exact ⟨by omega, h3⟩

theorem hav_close {m : Mat} (hm : m.small) (s : Nat) : m.hav (m.close s) = m.hav s := by
  apply Nat.eq_of_testBit_eq
  intro t
  rw [Bool.eq_iff_iff]
  constructor
  · intro h
    have h1 := (hav_iff hm _ t).1 h
    refine (hav_iff hm s t).2 ⟨h1.1, fun j hj hs => h1.2 j hj ((close_iff hm s j).2 ⟨hj, fun i _ hi => ((hav_iff hm s i).1 hi).2 j hj hs⟩)⟩
  · intro h
    have h1 := (hav_iff hm s t).1 h
    exact (hav_iff hm _ t).2 ⟨h1.1, fun j hj hs => ((close_iff hm s j).1 hs).2 t h1.1 h⟩
theorem close_close {m : Mat} (hm : m.small) (s : Nat) : m.close (m.close s) = m.close s := by
  show m.common (mems (m.hav (m.close s))) = m.common (mems (m.hav s))
  rw [hav_close hm]
theorem close_cols {m : Mat} (hm : m.small) (s : Nat) : m.close s < 2 ^ m.cols := lt_cols fun j hj => ((close_iff hm s j).1 hj).1

/-- The greatest number of cells that one concept takes away. -/
def mostF (m : Mat) (l : List (Nat × Nat)) : Nat := m.all.foldl (fun a s => max a (l.length - (withoutF m l s).length)) 0
theorem most_great {m : Mat} (hm : m.small) {o : List Nat} (h : ∀ x ∈ o, x < 64) (hl : o.length = m.rows.length) : mostF m (cellsF o) = m.great o (2 ^ m.cols) := by
  have key : ∀ s, s < 64 → (cellsF o).length - (withoutF m (cellsF o) s).length = inCon o ⟨m.hav s, s⟩ := fun s hs => by
    rw [without_cells m h hs, less_len hm h hl hs]; omega
  have h64 := (pow6 hm).1
  apply Nat.le_antisymm
  · unfold mostF
    rw [foldl_max]
    refine ⟨Nat.zero_le _, fun s hs => ?_⟩
    have hs := (all_mem hm s).1 hs
    rw [key s (by omega)]
    have hc : m.con s = ⟨m.hav s, s⟩ := by
      have := hs.2.2
      simp only [allOk, Bool.and_eq_true, decide_eq_true_eq] at this
      simp [Mat.con, this.1]
    rw [← hc]
    exact ((foldl_max (fun mask => inCon o (m.con mask)) (m.great o (2 ^ m.cols)) (List.range (2 ^ m.cols)) 0).1 (Nat.le_refl _)).2 s (List.mem_range.2 hs.2.1)
  · unfold Mat.great
    rw [foldl_max]
    refine ⟨Nat.zero_le _, fun mask _ => ?_⟩
    have e : m.con mask = ⟨m.hav (m.close mask), m.close mask⟩ := by rw [hav_close hm]; rfl
    have hc := close_cols hm mask
    rw [e]
    by_cases h1 : m.close mask = 0
    · rw [h1]
      have : inCon o ⟨m.hav 0, 0⟩ = 0 := by
        unfold inCon
        rw [foldl_sum, Nat.zero_add]
        have : ∀ l : List Nat, (l.map fun i => pop (o.getD i 0 &&& 0)).sum = 0 := by
          intro l
          induction l with
          | nil => rfl
          | cons x l ih => simp [pop_zero] at ih ⊢; exact ih
        exact this _
      omega
    by_cases h2 : m.hav (m.close mask) = 0
    · rw [h2]
      have : inCon o ⟨0, m.close mask⟩ = 0 := by unfold inCon; rw [mems_zero]; rfl
      omega
    · have hmem : m.close mask ∈ m.all := (all_mem hm _).2 ⟨by omega, hc, by simp [allOk, close_close hm, h2]⟩
      rw [← key _ (by omega)]
      exact ((foldl_max (fun s => (cellsF o).length - (withoutF m (cellsF o) s).length) (mostF m (cellsF o)) m.all 0).1 (Nat.le_refl _)).2 _ hmem
end Go.Proofs.YtcmlhpodghfheaaDoor
