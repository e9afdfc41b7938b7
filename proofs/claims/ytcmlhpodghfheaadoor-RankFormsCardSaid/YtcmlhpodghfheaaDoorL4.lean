/- Plain law: nodes, their form, the check: the program's answer is the reference's. -/
import Derived.Test.YtcmlhpodghfheaaDoorL3
set_option linter.unusedSimpArgs false
set_option linter.unusedVariables false
namespace Go.Proofs.YtcmlhpodghfheaaDoor

def isB (l : List (Nat × Nat)) (c : Nat × Nat) : Bool := l.any fun x => x == c
def hasB (l : List Nat) (n : Nat) : Bool := l.any fun x => x == n
theorem isB_iff (l : List (Nat × Nat)) (c : Nat × Nat) : isB l c = true ↔ c ∈ l := by simp [isB]
theorem hasB_iff (l : List Nat) (n : Nat) : hasB l n = true ↔ n ∈ l := by simp [hasB]
/-- The reference's Fool. -/
def foolB (m : Mat) (cs : List (Nat × Nat)) : Bool := cs.all (fun c => m.has c.1 c.2) && m.apart cs
def runR (g : Nat → List (Nat × Nat) → Nat × Nat) (m : Mat) (op : List (Nat × Nat)) : List (Nat × Nat) → Nat × Nat
  | [] => (1, 0)
  | (c, s) :: r => if (g c (withoutF m op s)).1 = 1 then runR g m op r else g c (withoutF m op s)
def rfool (m : Mat) (x : Nd) (n : Nat) (op : List (Nat × Nat)) (b : Nat) : Nat × Nat := if x.ce.all (fun c => isB op c) = false then (3, n) else if x.ce.length ≤ b ∨ foolB m x.ce = false then (5, n) else (1, 0)
def rcount (m : Mat) (n : Nat) (op : List (Nat × Nat)) (b : Nat) : Nat × Nat := if op.length ≤ b * mostF m op then (5, n) else (1, 0)
def rbranch (m : Mat) (g : Nat → List (Nat × Nat) → Nat × Nat) (x : Nd) (n : Nat) (op : List (Nat × Nat)) (b : Nat) : Nat × Nat :=
  if isB op (x.row, x.col) = false then (3, n) else if b < 1 then (5, n) else if (m.cons x.row x.col).length ≠ x.ch.length then (4, n) else runR g m op (x.ch.zip (m.cons x.row x.col))
/-- The reference's node. -/
def rnodeF (m : Mat) (l : List Nd) : Nat → Nat → Nat → List (Nat × Nat) → Nat × Nat
  | 0, _, _, _ => (1, 0)
  | f + 1, n, b, op =>
    if (l.getD n default).kind = 2 then rfool m (l.getD n default) n op b
    else if (l.getD n default).kind = 3 then rcount m n op b
    else if (l.getD n default).kind = 1 then rbranch m (fun c o => rnodeF m l f c (b - 1) o) (l.getD n default) n op b
    else (1, 0)

theorem isB_open {o : List Nat} (h : ∀ x ∈ o, x < 64) (c : Nat × Nat) : isB (cellsF o) c = isOpen o c.1 c.2 := by
  rw [Bool.eq_iff_iff, isB_iff, ← cellsF_mem h]
/-- What is open is a one. -/
def Sub (m : Mat) (o : List Nat) : Prop := ∀ i j, (o.getD i 0).testBit j = true → m.el i j = true
theorem open_has {m : Mat} (hm : m.good) {o : List Nat} (hl : o.length = m.rows.length) (hs : Sub m o) {i j : Nat} (h : isOpen o i j = true) : m.has i j = true := by
  simp only [isOpen, Bool.and_eq_true, decide_eq_true_eq] at h
  have he := hs i j h.2
  refine has_el.2 ⟨by omega, ?_, he⟩
  exact tb_cols (hm.2 (m.rows.getD i 0) (by rw [List.getD_eq_getElem?_getD, List.getElem?_eq_getElem (by omega)]; simp)) he
theorem less_sub {m : Mat} {o : List Nat} (hs : Sub m o) (h64 : ∀ x ∈ o, x < 64) {s : Nat} (hs64 : s < 64) : Sub m (lessOf m o s) := by
  intro i j h
  rcases Nat.lt_or_ge i o.length with hi | hi
  · rw [lessOf_get _ _ _ _ hi] at h
    refine hs i j ?_
    split at h
    · rw [minus_tb (by have := getD_lt64 h64 i; omega) (by omega), Bool.and_eq_true] at h
      exact h.1
    · exact h
  · rw [List.getD_eq_getElem?_getD, List.getElem?_eq_none (by rw [lessOf_len]; exact hi)] at h
    simp at h
theorem cons_ne {m : Mat} (hm : m.good) {i j : Nat} (h : m.has i j = true) : m.cons i j ≠ [] := by
  have hs := hm.1
  have hh := has_el.1 h
  intro e
  have hmem : m.close (2 ^ j) ∈ m.cons i j := by
    rw [← rcons_eq hm, List.mem_filter]
    have hb : ∀ k, (2 ^ j : Nat).testBit k = true → k = j := fun k hk => by rw [Nat.testBit_two_pow] at hk; exact (of_decide_eq_true hk).symm
    have h1 : (m.close (2 ^ j)).testBit j = true := (close_iff hs _ j).2 ⟨hh.2.1, fun i' _ hi' => ((hav_iff hs _ i').1 hi').2 j hh.2.1 (by rw [Nat.testBit_two_pow]; simp)⟩
    have h2 : (m.hav (2 ^ j)).testBit i = true := (hav_iff hs _ i).2 ⟨hh.1, fun k _ hk => by rw [hb k hk]; exact hh.2.2⟩
    have h3 : (m.hav (m.close (2 ^ j))).testBit i = true := by rw [hav_close hs]; exact h2
    refine ⟨(all_mem hs _).2 ⟨?_, close_cols hs _, ?_⟩, by simp [h, h1, h3]⟩
    · refine Nat.pos_of_ne_zero fun e => ?_
      rw [e] at h1; simp at h1
    · have : m.hav (m.close (2 ^ j)) ≠ 0 := fun e => by rw [e] at h3; simp at h3
      simp [allOk, close_close hs, this]
  rw [e] at hmem
  simp at hmem

theorem run_eq {m : Mat} {g : Nat → List (Nat × Nat) → Nat × Nat} {g' : Nat → List Nat → Nat × Nat} {o : List Nat} (h64 : ∀ x ∈ o, x < 64) : ∀ l : List (Nat × Nat), (∀ c ∈ l, c.2 < 64 ∧ ∀ s, c.2 = s → g c.1 (cellsF (lessOf m o s)) = g' c.1 (lessOf m o s)) → runR g m (cellsF o) l = runKids g' m o l
  | [], _ => rfl
  | (c, s) :: r, h => by
    have h0 := h (c, s) (by simp)
    unfold runR runKids
    rw [without_cells m h64 h0.1, h0.2 s rfl, run_eq h64 r (fun c hc => h c (by simp [hc]))]

theorem node_eq {m : Mat} (hm : m.good) {l : List Nd} (hk : ∀ i, i < l.length → 1 ≤ (l.getD i default).kind ∧ (l.getD i default).kind ≤ 3 ∧ ∀ c ∈ (l.getD i default).ch, c < l.length) :
    ∀ f n b (o : List Nat), (∀ x ∈ o, x < 64) → o.length = m.rows.length → Sub m o → n < l.length → rnodeF m l f n b (cellsF o) = nodeF m l f n o b
  | 0, _, _, _, _, _, _, _ => rfl
  | f + 1, n, b, o, h64, hl, hs, hn => by
    obtain ⟨k1, k3, kc⟩ := hk n hn
    unfold rnodeF nodeF
    generalize l.getD n default = x at *
    by_cases e2 : x.kind = 2
    · rw [if_pos e2, if_pos e2]
      unfold rfool foolFlaw
      have ha : x.ce.all (fun c => isB (cellsF o) c) = !(x.ce.any fun c => !isOpen o c.1 c.2) := by
        rw [List.not_any_eq_all_not]
        refine congrArg (fun p => x.ce.all p) (funext fun c => ?_)
        rw [isB_open h64]; simp
      rw [ha]
      cases hb : x.ce.any fun c => !isOpen o c.1 c.2 with
      | true => simp
      | false =>
        have hall : x.ce.all (fun c => m.has c.1 c.2) = true := by
          rw [List.all_eq_true]
          intro c hc
          refine open_has hm hl hs ?_
          rw [List.any_eq_false] at hb
          have := hb c hc
          simpa using this
        simp [foolB, hall]
    rw [if_neg e2, if_neg e2]
    by_cases e3 : x.kind = 3
    · rw [if_pos e3, if_pos e3]
      unfold rcount countFlaw
      rw [cells_pop, most_great hm.1 h64 hl]
    rw [if_neg e3, if_neg e3, if_pos (by omega)]
    unfold rbranch
    rw [isB_open h64]
    cases ho : isOpen o x.row x.col with
    | false => simp
    | true =>
      simp only [Bool.true_eq_false, if_false]
      have hne := cons_ne hm (open_has hm hl hs ho)
      by_cases hb : b < 1
      · simp [hb]
      · rw [if_neg hb, if_neg hb]
        by_cases hlen : (m.cons x.row x.col).length = x.ch.length
        · rw [if_neg (by simp [hlen]), if_neg (by simp [hlen, hne])]
          refine run_eq h64 _ fun c hc => ⟨cons_lt m _ _ _ (List.of_mem_zip hc).2, ?_⟩
          rintro s rfl
          have hc64 := cons_lt m _ _ _ (List.of_mem_zip hc).2
          exact node_eq hm hk f c.1 (b - 1) _ (lessOf_lt m o _ h64) (by rw [lessOf_len, hl]) (less_sub hs h64 hc64) (kc _ (List.of_mem_zip hc).1)
        · rw [if_pos hlen, if_pos (.inr hlen)]

/-- The form of a node, as the reference asks for it. -/
def badKid (l : List Nd) (n : Nat) (ch : List Nat) (i : Nat) : Bool := decide (ch.getD i 0 ≤ n) || decide (l.length ≤ ch.getD i 0) || hasB (ch.take i) (ch.getD i 0) || (l.take n).any fun y => hasB y.ch (ch.getD i 0)
def wrongB (l : List Nd) (n : Nat) : Bool := decide ((l.getD n default).kind < 1) || decide (3 < (l.getD n default).kind) || (decide ((l.getD n default).kind ≠ 1) && decide (0 < (l.getD n default).ch.length)) || (List.range (l.getD n default).ch.length).any (badKid l n (l.getD n default).ch) || (decide (0 < n) && !(l.any fun y => hasB y.ch n))
def wrongFrom (l : List Nd) : Nat → Nat → Int
  | 0, _ => -1
  | r + 1, n => if wrongB l n then (n : Int) else wrongFrom l r (n + 1)
/-- What the reference's Check answers. -/
def rcheckF (m : Mat) (size : Int) (l : List Nd) : Nat × Nat :=
  if size < 0 ∨ 256 < size ∨ l.length < 1 ∨ 5000 < l.length then (2, 0)
  else if 0 ≤ wrongFrom l l.length 0 then (2, (wrongFrom l l.length 0).toNat)
  else if size = 0 then (1, 0)
  else rnodeF m l l.length 0 (size - 1).toNat (cellsF m.rows)

theorem kids_none (n L : Nat) : ∀ (ch cl : List Nat), kids n L cl ch = none ↔ ∃ i, i < ch.length ∧ (ch.getD i 0 ≤ n ∨ L ≤ ch.getD i 0 ∨ ch.getD i 0 ∈ cl ∨ ch.getD i 0 ∈ ch.take i)
  | [], cl => by simp [kids]
  | c :: r, cl => by
    unfold kids
    by_cases h : c ≤ n ∨ L ≤ c ∨ c ∈ cl
    · rw [if_pos h]
      refine ⟨fun _ => ⟨0, by simp, ?_⟩, fun _ => rfl⟩
      rcases h with h | h | h
      · exact .inl (by simpa using h)
      · exact .inr (.inl (by simpa using h))
      · exact .inr (.inr (.inl (by simpa using h)))
    · rw [if_neg h, kids_none n L r (c :: cl)]
      constructor
      · rintro ⟨i, hi, h1⟩
        refine ⟨i + 1, by simpa using hi, ?_⟩
        simp only [List.getD_cons_succ, List.take_succ_cons, List.mem_cons] at h1 ⊢
        rcases h1 with h1 | h1 | (h1 | h1) | h1
        · exact .inl h1
        · exact .inr (.inl h1)
        · exact .inr (.inr (.inr (.inl h1)))
        · exact .inr (.inr (.inl h1))
        · exact .inr (.inr (.inr (.inr h1)))
      · rintro ⟨i, hi, h1⟩
        cases i with
        | zero =>
          simp only [List.getD_cons_zero, List.take_zero, List.not_mem_nil, or_false] at h1
          exact absurd h1 h
        | succ i =>
          refine ⟨i, by simpa using hi, ?_⟩
          simp only [List.getD_cons_succ, List.take_succ_cons, List.mem_cons] at h1 ⊢
          rcases h1 with h1 | h1 | h1 | (h1 | h1)
          · exact .inl h1
          · exact .inr (.inl h1)
          · exact .inr (.inr (.inl (.inr h1)))
          · exact .inr (.inr (.inl (.inl h1)))
          · exact .inr (.inr (.inr h1))
theorem kids_some (n L : Nat) : ∀ (ch cl cl' : List Nat), kids n L cl ch = some cl' → ∀ c, c ∈ cl' ↔ c ∈ cl ∨ c ∈ ch
  | [], cl, cl', h, c => by simp only [kids, Option.some.injEq] at h; simp [h]
  | a :: r, cl, cl', h, c => by
    unfold kids at h
    split at h
    · cases h
    · rw [kids_some n L r _ _ h c]
      simp only [List.mem_cons]
      constructor
      · rintro ((h | h) | h) <;> simp [h]
      · rintro (h | h | h) <;> simp [h]

theorem form_eq {l : List Nd} (hf : ∀ i, i < l.length → ∀ c ∈ (l.getD i default).ch, i < c) : ∀ r n cl, n + r = l.length → (∀ c, c ∈ cl ↔ ∃ k, k < n ∧ c ∈ (l.getD k default).ch) → formFrom l.length n cl (l.drop n) = wrongFrom l r n
  | 0, n, cl, h, _ => by rw [List.drop_of_length_le (by omega)]; rfl
  | r + 1, n, cl, h, hcl => by
    have hlt : n < l.length := by omega
    have hd : l.drop n = l.getD n default :: l.drop (n + 1) := by
      rw [List.drop_eq_getElem_cons hlt]; simp [List.getD, List.getElem?_eq_getElem hlt]
    have hx : ∀ k, k < l.length → l.getD k default ∈ l := fun k hk => by rw [List.getD_eq_getElem?_getD, List.getElem?_eq_getElem hk]; simp
    have hget : ∀ y ∈ l, ∃ k, k < l.length ∧ l.getD k default = y := fun y hy => by
      obtain ⟨k, hk, rfl⟩ := List.getElem_of_mem hy
      exact ⟨k, hk, by simp [List.getD, List.getElem?_eq_getElem hk]⟩
    have hn : (l.any fun y => hasB y.ch n) = decide (n ∈ cl) := by
      rw [Bool.eq_iff_iff, List.any_eq_true, decide_eq_true_eq, hcl]
      constructor
      · rintro ⟨y, hy, hb⟩
        obtain ⟨k, hk, rfl⟩ := hget y hy
        rw [hasB_iff] at hb
        exact ⟨k, hf k hk n hb, hb⟩
      · rintro ⟨k, hk, hb⟩
        exact ⟨_, hx k (by omega), (hasB_iff _ _).2 hb⟩
    have htk : ∀ c, ((l.take n).any fun y => hasB y.ch c) = decide (c ∈ cl) := fun c => by
      rw [Bool.eq_iff_iff, List.any_eq_true, decide_eq_true_eq, hcl]
      constructor
      · rintro ⟨y, hy, hb⟩
        obtain ⟨k, hk, rfl⟩ := List.getElem_of_mem hy
        rw [List.getElem_take] at hb
        have hk' : k < n ∧ k < l.length := by simp at hk; omega
        exact ⟨k, hk'.1, by rw [List.getD_eq_getElem?_getD, List.getElem?_eq_getElem hk'.2]; exact (hasB_iff _ _).1 hb⟩
      · rintro ⟨k, hk, hb⟩
        refine ⟨_, ?_, (hasB_iff _ _).2 hb⟩
        have : l.getD k default = (l.take n)[k]'(by simp; omega) := by
          rw [List.getElem_take, List.getD_eq_getElem?_getD, List.getElem?_eq_getElem (by omega)]; rfl
        rw [this]
        exact List.getElem_mem _
    have hw : wrongB l n = (badNode n (l.getD n default) cl || (List.range (l.getD n default).ch.length).any (badKid l n (l.getD n default).ch)) := by
      unfold wrongB badNode
      rw [hn]
      generalize (List.range (l.getD n default).ch.length).any (badKid l n (l.getD n default).ch) = B
      generalize decide ((l.getD n default).kind < 1) = b1
      generalize decide (3 < (l.getD n default).kind) = b2
      generalize (decide ((l.getD n default).kind ≠ 1) && decide (0 < (l.getD n default).ch.length)) = b3
      generalize (decide (0 < n) && !decide (n ∈ cl)) = b4
      cases B <;> cases b4 <;> simp
    have hk : kids n l.length cl (l.getD n default).ch = none ↔ (List.range (l.getD n default).ch.length).any (badKid l n (l.getD n default).ch) = true := by
      rw [kids_none, List.any_eq_true]
      simp only [List.mem_range, badKid, htk, Bool.or_eq_true, decide_eq_true_eq, hasB_iff]
      constructor
      · rintro ⟨i, hi, h1 | h1 | h1 | h1⟩
        · exact ⟨i, hi, .inl (.inl (.inl h1))⟩
        · exact ⟨i, hi, .inl (.inl (.inr h1))⟩
        · exact ⟨i, hi, .inr h1⟩
        · exact ⟨i, hi, .inl (.inr h1)⟩
      · rintro ⟨i, hi, ((h1 | h1) | h1) | h1⟩
        · exact ⟨i, hi, .inl h1⟩
        · exact ⟨i, hi, .inr (.inl h1)⟩
        · exact ⟨i, hi, .inr (.inr (.inr h1))⟩
        · exact ⟨i, hi, .inr (.inr (.inl h1))⟩
    rw [hd]
    unfold formFrom wrongFrom
    rw [hw]
    cases hb : badNode n (l.getD n default) cl with
    | true => simp
    | false =>
      cases hkk : kids n l.length cl (l.getD n default).ch with
      | none =>
        have := hk.1 hkk
        simp only [this, Bool.or_true, if_true, Bool.false_eq_true, if_false]
      | some cl' =>
        have hany : (List.range (l.getD n default).ch.length).any (badKid l n (l.getD n default).ch) = false := by
          rw [Bool.eq_false_iff]
          intro h
          rw [hk.2 h] at hkk
          cases hkk
        simp only [hany, Bool.or_false, Bool.false_eq_true, if_false]
        refine form_eq hf r (n + 1) cl' (by omega) fun c => ?_
        rw [kids_some _ _ _ _ _ hkk c, hcl]
        constructor
        · rintro (⟨k, hk, h⟩ | h)
          · exact ⟨k, by omega, h⟩
          · exact ⟨n, by omega, h⟩
        · rintro ⟨k, hk, h'⟩
          by_cases e : k = n
          · subst e; exact .inr h'
          · exact .inl ⟨k, by omega, h'⟩

theorem form_kinds (L : Nat) : ∀ (r : List Nd) (n : Nat) (cl : List Nat), formFrom L n cl r = -1 → ∀ x ∈ r, 1 ≤ x.kind ∧ x.kind ≤ 3
  | [], _, _, _, x, hx => by simp at hx
  | y :: r, n, cl, h, x, hx => by
    unfold formFrom at h
    split at h
    · omega
    · rename_i hb
      split at h
      · omega
      · rcases List.mem_cons.1 hx with rfl | hx
        · simp only [badNode, Bool.or_eq_true, decide_eq_true_eq, Bool.and_eq_true] at hb
          omega
        · exact form_kinds L r _ _ h x hx

end Go.Proofs.YtcmlhpodghfheaaDoor
