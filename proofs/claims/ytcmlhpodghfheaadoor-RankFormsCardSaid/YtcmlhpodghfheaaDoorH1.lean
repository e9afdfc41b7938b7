/- rank.node's closures; slices.ContainsFunc over cells. -/
import Derived.Test.YtcmlhpodghfheaaDoorR2
set_option linter.unusedSimpArgs false
set_option linter.unusedVariables false
namespace Go.Proofs.YtcmlhpodghfheaaDoor
open Go.RowKit Go.Shelf

/-- An uncovered one. -/
def isOpen (o : List Nat) (i j : Nat) : Bool := decide (i < o.length) && (o.getD i 0).testBit j

set_option maxHeartbeats 400000 in
/-- rank.node$1 -/
theorem isOpen_any (B : Nat) (v : Value) (o : List Nat) (i j : Nat) (w : World) (hB : w.cell? ⟨B, 0, none⟩ = some v) (ho : Sets w v o) (hl : o.length < 1000) (hi : i < 1000) (hj : j < 64) :
    Calls Tryd.prog 59 #[.int .i64 (i : Int), .int .i64 (j : Int), .pointer (some ⟨B, 0, none⟩)] w fun e w' => e = .returned (.bool (isOpen o i j)) ∧ Gr w w' := by
  by_cases hlt : i < o.length
  · obtain ⟨bb, oo, cc, y, rfl, hbb, hcy, hy⟩ := ho.at i hlt
    obtain ⟨py, ny, cy, hyy⟩ := hy.words.slice
    subst hyy
    have HY := Lib.hid hy
    have hd : isOpen o i j = (o.getD i 0).testBit j := by simp [isOpen, hlt]
    have HD := Lib.hid hd
    generalize hn : o.length = n at *
    clear hy ho hd hn
    go_enter Tryd.func59, Tryd.ntmps59
    go_wp2_with fail
    refine (has_any _ (o.getD i 0) j _ HY.out hj).mono ?_
    rintro e w1 ⟨rfl, hx1⟩
    rw [← HD.out]
    go_wp2
    go_ret
    exact ⟨rfl, hx1.gr⟩
  · have hd : isOpen o i j = false := by simp [isOpen, hlt]
    rw [hd]
    obtain ⟨p, c, rfl⟩ := ho.slice
    generalize hn : o.length = n at *
    clear ho hd hn
    go_enter Tryd.func59, Tryd.ntmps59
    go_wp2
    go_ret
    exact ⟨rfl, Gr.refl _⟩

/-- rank.node$2 -/
theorem notOpen_any (B C : Nat) (v : Value) (o : List Nat) (i j : Nat) (w : World) (hC : w.cell? ⟨C, 0, none⟩ = some (.func (.func 59) #[] #[.pointer (some ⟨B, 0, none⟩)])) (hB : w.cell? ⟨B, 0, none⟩ = some v) (ho : Sets w v o) (hl : o.length < 1000) (hi : i < 1000) (hj : j < 64) :
    Calls Tryd.prog 62 #[.agg #[.int .i64 (i : Int), .int .i64 (j : Int)], .pointer (some ⟨C, 0, none⟩)] w fun e w' => e = .returned (.bool (!isOpen o i j)) ∧ Gr w w' := by
  have HO := Lib.hid ho
  have hCl := World.block_lt_of_cell? _ _ hC
  simp only [] at hCl
  clear ho
  go_enter Tryd.func62, Tryd.ntmps62
  go_wp2_with fail
  refine (isOpen_any B v o i j _ (((Gr.refl w).alloc _).cell hB) (HO.out.gr ((Gr.refl w).alloc _)) hl hi hj).mono ?_
  rintro e w1 ⟨rfl, hx1⟩
  go_wp2
  go_ret
  exact ⟨rfl, ((Gr.refl w).alloc _).trans hx1⟩

/-- The first place where p holds, or -1. -/
def firstAt (p : Nat × Nat → Bool) : Nat → List (Nat × Nat) → Int
  | _, [] => -1
  | n, x :: r => if p x then (n : Int) else firstAt p (n + 1) r
theorem firstAt_any (p : Nat × Nat → Bool) : ∀ (l : List (Nat × Nat)) (n : Nat), decide (0 ≤ firstAt p n l) = l.any p
  | [], n => by simp [firstAt]
  | x :: r, n => by
    unfold firstAt
    by_cases h : p x
    · simp [h]
    · simp only [h]; simp [firstAt_any p r (n + 1), h]

set_option maxHeartbeats 1000000 in
/-- slices.IndexFunc of cells. -/
theorem index_any (f : Nat) (cb : Array Value) (p : Nat × Nat → Bool) (v : Value) (l : List (Nat × Nat)) (w : World) (hv : Cells w v l) (hl : l.length < 1000) (hb : ∀ c ∈ l, c.1 < 64 ∧ c.2 < 64)
    (eg : ∀ args w, (callFunc f args).run Tryd.prog w = .ok (.enter f args) w)
    (hf : ∀ W, Gr w W → ∀ a b : Nat, a < 64 → b < 64 → Calls Tryd.prog f (#[.agg #[.int .i64 (a : Int), .int .i64 (b : Int)]] ++ cb) W fun e w' => e = .returned (.bool (p (a, b))) ∧ Gr W w') :
    Calls Tryd.prog 100 #[v, .func (.func f) #[] cb] w fun e w' => e = .returned (.int .i64 (firstAt p 0 l)) ∧ Gr w w' := by
  have hv0 := Lib.hid hv
  have hb0 := Lib.hid hb
  have hf0 := Lib.hid hf
  obtain ⟨pp, c, rfl⟩ := hv.slice
  clear hv hb hf
  generalize hn : l.length = n at *
  have HN := Lib.hid hn
  clear hn
  go_enter Tryd.func100, Tryd.ntmps100
  go_wp2
  go_loopw [8] (fun q wr => ∃ k : Nat, k ≤ n ∧ q = .int .i64 k ∧ Gr w wr ∧ firstAt p k (l.drop k) = firstAt p 0 l) (fun q _ => n - (intOf q).toNat)
  case atStart => exact ⟨0, Nat.zero_le _, rfl, Gr.refl _, by simp⟩
  case round =>
    obtain ⟨k, hk, rfl, hG, hfi⟩ := hrel
    have HG := Lib.hid hG
    have HFI := Lib.hid hfi
    clear hG hfi
    by_cases hlt : k < n
    · rcases hv0.out with ⟨rfl, _⟩ | ⟨hne, b, o, c', hsl, hcap, hcell⟩
      · have := HN.out; simp at this; omega
      · simp only [Value.slice.injEq] at hsl
        obtain ⟨rfl, -, rfl⟩ := hsl
        have hx := hcell k (by rw [HN.out]; exact hlt)
        have hx1 := HG.out.cell hx.1
        have hx2 := HG.out.cell hx.2
        have hdrop : l.drop k = l.getD k (0, 0) :: l.drop (k + 1) := by
          rw [List.drop_eq_getElem_cons (by rw [HN.out]; exact hlt)]
          simp [List.getD, List.getElem?_eq_getElem (show k < l.length by rw [HN.out]; exact hlt)]
        have hm := hb0.out (l.getD k (0, 0)) (by rw [List.getD_eq_getElem?_getD, List.getElem?_eq_getElem (by rw [HN.out]; exact hlt)]; simp)
        obtain ⟨⟨y1, y2⟩, hy⟩ : ∃ y : Nat × Nat, y = l.getD k (0, 0) := ⟨_, rfl⟩
        rw [← hy] at hx1 hx2 hm hdrop
        simp only [] at hx1 hx2 hm
        have hfn : firstAt p 0 l = if p (y1, y2) then (k : Int) else firstAt p (k + 1) (l.drop (k + 1)) := by rw [← HFI.out, hdrop]; rfl
        have HFN := Lib.hid hfn
        clear hx hcell hy hdrop hfn
        go_wp2_with fail
        refine (hf0.out _ HG.out y1 y2 hm.1 hm.2).mono ?_
        rintro e w1 ⟨rfl, hx3⟩
        cases hp : p (y1, y2) with
        | true =>
          have h := HFN.out
          rw [hp, if_pos rfl] at h
          have H := Lib.hid h
          clear h
          go_wp2
          go_ret
          exact ⟨by rw [H.out]; rfl, HG.out.trans hx3⟩
        | false =>
          have h := HFN.out
          rw [hp, if_neg (by simp)] at h
          have H := Lib.hid h
          clear h
          go_wp2
          go_roundw
          case rel => exact ⟨k + 1, by omega, by go_num, HG.out.trans hx3, H.out.symm⟩
          case measure => simp [intOf]; omega
    · obtain rfl : k = n := by omega
      go_wp2
      go_ret
      refine ⟨?_, HG.out⟩
      have h := HFI.out
      rw [List.drop_of_length_le (by rw [HN.out]; exact Nat.le_refl _)] at h
      rw [← h]; rfl

/-- slices.ContainsFunc of cells. -/
theorem contains_any (f : Nat) (cb : Array Value) (p : Nat × Nat → Bool) (v : Value) (l : List (Nat × Nat)) (w : World) (hv : Cells w v l) (hl : l.length < 1000) (hb : ∀ c ∈ l, c.1 < 64 ∧ c.2 < 64)
    (eg : ∀ args w, (callFunc f args).run Tryd.prog w = .ok (.enter f args) w)
    (hf : ∀ W, Gr w W → ∀ a b : Nat, a < 64 → b < 64 → Calls Tryd.prog f (#[.agg #[.int .i64 (a : Int), .int .i64 (b : Int)]] ++ cb) W fun e w' => e = .returned (.bool (p (a, b))) ∧ Gr W w') :
    Calls Tryd.prog 61 #[v, .func (.func f) #[] cb] w fun e w' => e = .returned (.bool (l.any p)) ∧ Gr w w' := by
  have hi := Lib.hid (index_any f cb p v l w hv hl hb eg hf)
  have hfa := Lib.hid (firstAt_any p l 0)
  clear hv hb hf
  go_enter Tryd.func61, Tryd.ntmps61
  go_wp2_with fail
  refine hi.out.mono ?_
  rintro e w1 ⟨rfl, hx1⟩
  go_wp2
  go_ret
  exact ⟨by rw [← hfa.out]; rfl, hx1⟩
end Go.Proofs.YtcmlhpodghfheaaDoor
