/- Package rank: cells apart from each other. -/
import Derived.Test.YtcmlhpodghfheaaDoorR1
set_option linter.unusedSimpArgs false
set_option linter.unusedVariables false
namespace Go.Proofs.YtcmlhpodghfheaaDoor
open Go.RowKit Go.Shelf

theorem Cells.gr {w w' : World} {v : Value} {cs : List (Nat × Nat)} (h : Cells w v cs) (hx : Gr w w') : Cells w' v cs := by
  rcases h with h | ⟨h1, b, o, c, h2, h2', h3⟩
  · exact .inl h
  · exact .inr ⟨h1, b, o, c, h2, h2', fun i hi => ⟨hx.cell (h3 i hi).1, hx.cell (h3 i hi).2⟩⟩
theorem Cells.slice {w : World} {v : Value} {cs : List (Nat × Nat)} (h : Cells w v cs) : ∃ p c, v = .slice p cs.length c := by
  rcases h with ⟨rfl, p, c, h⟩ | ⟨_, b, o, c, h, _, _⟩
  · exact ⟨p, c, h⟩
  · exact ⟨_, c, h⟩

def okPair (m : Mat) (cs : List (Nat × Nat)) (i j : Nat) : Bool := !((cs.getD i (0, 0)) == (cs.getD j (0, 0))) && m.indep (cs.getD i (0, 0)) (cs.getD j (0, 0))
/-- All different, and any two independent. -/
def Mat.apart (m : Mat) (cs : List (Nat × Nat)) : Bool := (List.range cs.length).all fun i => (List.range i).all fun j => okPair m cs i j

set_option maxHeartbeats 1000000 in
/-- rank.apart -/
theorem apart_any (v v2 : Value) (m : Mat) (cs : List (Nat × Nat)) (w : World) (hv : MatV w v m) (hm : m.ok) (hc : Cells w v2 cs) (hb : ∀ c ∈ cs, c.1 < 64 ∧ c.2 < 64) (hl : cs.length < 1000) :
    Calls Tryd.prog 63 #[v, v2] w fun e w' => e = .returned (.bool (m.apart cs)) ∧ Gr w w' := by
  have hv0 := Lib.hid hv
  have hm' := Lib.hid hm
  have hb' := Lib.hid hb
  clear hv hm hb
  rcases hc with ⟨rfl, p, c, rfl⟩ | ⟨hne, b, o, c, rfl, hcap, hcell⟩
  · go_enter Tryd.func63, Tryd.ntmps63
    go_wp2
    go_rounds 1
    go_ret
    exact ⟨by simp [Mat.apart], Gr.refl _⟩
  · have HC := Lib.hid hcell
    clear hcell hne
    generalize hn : cs.length = n at *
    have HN := Lib.hid hn; clear hn
    go_enter Tryd.func63, Tryd.ntmps63
    go_wp2
    go_loopw [11] (fun i wr => ∃ k : Nat, k ≤ n ∧ i = .int .i64 k ∧ Gr w wr ∧ (∀ i, i < k → ∀ j, j < i → okPair m cs i j = true)) (fun i _ => n - (intOf i).toNat)
    case atStart => exact ⟨0, Nat.zero_le _, rfl, Gr.refl _, by omega⟩
    case round =>
      obtain ⟨wo, rfl⟩ : ∃ wo : World, wo = wr := ⟨_, rfl⟩
      obtain ⟨k, hk, rfl, hG, hok⟩ := hrel
      have HG := Lib.hid hG
      have HOK := Lib.hid hok
      clear hG hok
      by_cases hlt : k < n
      · have hck := HC.out k hlt
        have hk1 := HG.out.cell hck.1
        have hk2 := HG.out.cell hck.2
        obtain ⟨⟨x1, x2⟩, hx⟩ : ∃ x : Nat × Nat, x = cs.getD k (0, 0) := ⟨_, rfl⟩
        rw [← hx] at hk1 hk2
        have HX := Lib.hid hx; clear hx hck
        simp only [] at hk1 hk2
        have hbk := World.block_lt_of_cell? _ _ hk1
        simp only [] at hbk
        have hkc : k ≤ c := by omega
        go_upto_region 5 with (fail)
        refine name_wp fun W hW => ?_
        have hX : Gr wo W := by rw [hW]; exact (Gr.refl _).alloc _
        have f1 : W.cell? ⟨wo.heap.size, 0, none⟩ = some (.int .i64 (x1 : Int)) := by rw [hW]; go_simp
        have f2 : W.cell? ⟨wo.heap.size, 1, none⟩ = some (.int .i64 (x2 : Int)) := by rw [hW]; go_simp
        clear hW
        have HGW := Lib.hid (HG.out.trans hX)
        clear hX hk1 hk2
        go_loopw [20] (fun i wi => ∃ j : Nat, j ≤ k ∧ i = .int .i64 j ∧ Gr w wi ∧ wi.cell? ⟨wo.heap.size, 0, none⟩ = some (.int .i64 (x1 : Int)) ∧ wi.cell? ⟨wo.heap.size, 1, none⟩ = some (.int .i64 (x2 : Int)) ∧ (∀ i, i < j → okPair m cs k i = true)) (fun i _ => k - (intOf i).toNat)
        case atStart => exact ⟨0, Nat.zero_le _, rfl, HGW.out, f1, f2, by omega⟩
        case round =>
          obtain ⟨j, hj, rfl, hGi, g1, g2, hokj⟩ := hrel
          have HGi := Lib.hid hGi
          have HOKJ := Lib.hid hokj
          clear hGi hokj
          have hso := World.block_lt_of_cell? _ _ g1
          simp only [] at hso
          by_cases hjk : j < k
          · have hcj := HC.out j (by omega)
            have hj1 := HGi.out.cell hcj.1
            have hj2 := HGi.out.cell hcj.2
            obtain ⟨⟨y1, y2⟩, hy⟩ : ∃ y : Nat × Nat, y = cs.getD j (0, 0) := ⟨_, rfl⟩
            rw [← hy] at hj1 hj2
            have HY := Lib.hid hy; clear hy hcj
            simp only [] at hj1 hj2
            have hbj := World.block_lt_of_cell? _ _ hj1
            simp only [] at hbj
            have hbx : x1 < 64 ∧ x2 < 64 := by
              have h1 : cs.getD k (0, 0) ∈ cs := by rw [List.getD_eq_getElem?_getD, List.getElem?_eq_getElem (by rw [HN.out]; exact hlt)]; simp
              have := hb'.out _ h1; rw [← HX.out] at this; exact this
            have hby : y1 < 64 ∧ y2 < 64 := by
              have h1 : cs.getD j (0, 0) ∈ cs := by rw [List.getD_eq_getElem?_getD, List.getElem?_eq_getElem (by rw [HN.out]; omega)]; simp
              have := hb'.out _ h1; rw [← HY.out] at this; exact this
            have heq : ((x1 : Int) == (y1 : Int) && (x2 : Int) == (y2 : Int)) = ((cs.getD k (0, 0)) == (cs.getD j (0, 0))) := by
              rw [← HX.out, ← HY.out, Bool.eq_iff_iff]; simp [Prod.ext_iff]; omega
            cases hq : ((x1 : Int) == (y1 : Int) && (x2 : Int) == (y2 : Int)) with
            | true =>
              have hep : ∀ w, (binOp .eql 40 (.agg #[.int .i64 (x1 : Int), .int .i64 (x2 : Int)]) (.agg #[.int .i64 (y1 : Int), .int .i64 (y2 : Int)])).run Tryd.prog w = .ok (.bool true) w := fun w => by rw [eql_pair, hq]
              rw [hq] at heq
              have HQ := Lib.hid heq
              clear heq hq
              go_wp2_with fail
              go_ret
              refine ⟨?_, HGi.out.trans ((Gr.refl _).alloc _)⟩
              have : m.apart cs = false := by
                unfold Mat.apart
                rw [Bool.eq_false_iff]
                intro h
                have h1 := List.all_eq_true.1 h k (List.mem_range.2 (by rw [HN.out]; exact hlt))
                have h2 := List.all_eq_true.1 h1 j (List.mem_range.2 hjk)
                unfold okPair at h2
                rw [← HQ.out] at h2
                simp at h2
              rw [this]; rfl
            | false =>
              have hep : ∀ w, (binOp .eql 40 (.agg #[.int .i64 (x1 : Int), .int .i64 (x2 : Int)]) (.agg #[.int .i64 (y1 : Int), .int .i64 (y2 : Int)])).run Tryd.prog w = .ok (.bool false) w := fun w => by rw [eql_pair, hq]
              rw [hq] at heq
              have HQ := Lib.hid heq
              clear heq hq
              have hokp : okPair m cs k j = m.indep (x1, x2) (y1, y2) := by
                unfold okPair; rw [← HQ.out, ← HX.out, ← HY.out]; simp
              have HOP := Lib.hid hokp
              clear hokp
              go_wp2_with fail
              refine (indep_any v m x1 x2 y1 y2 _ (hv0.out.gr (HGi.out.trans ((Gr.refl _).alloc _))) hm'.out hbx.1 hbx.2 hby.1 hby.2).mono ?_
              rintro e w3 ⟨rfl, hx3⟩
              have q1 := hx3.cell (((Gr.refl wr).alloc (.cells #[.int .i64 (y1 : Int), .int .i64 (y2 : Int)] 40)).cell g1)
              have q2 := hx3.cell (((Gr.refl wr).alloc (.cells #[.int .i64 (y1 : Int), .int .i64 (y2 : Int)] 40)).cell g2)
              have HG3 := Lib.hid ((HGi.out.trans ((Gr.refl wr).alloc (.cells #[.int .i64 (y1 : Int), .int .i64 (y2 : Int)] 40))).trans hx3)
              clear hx3 g1 g2 hj1 hj2
              cases hi : m.indep (x1, x2) (y1, y2) with
              | true =>
                go_wp2
                go_roundw
                case rel =>
                  refine ⟨j + 1, by omega, by go_num, HG3.out, q1, q2, ?_⟩
                  intro i hi'
                  rcases Nat.lt_or_ge i j with h | h
                  · exact HOKJ.out i h
                  · obtain rfl : i = j := by omega
                    rw [HOP.out]; exact hi
                case measure => simp [intOf]; omega
              | false =>
                go_wp2
                go_ret
                refine ⟨?_, HG3.out⟩
                have : m.apart cs = false := by
                  unfold Mat.apart
                  rw [Bool.eq_false_iff]
                  intro h
                  have h1 := List.all_eq_true.1 h k (List.mem_range.2 (by rw [HN.out]; exact hlt))
                  have h2 := List.all_eq_true.1 h1 j (List.mem_range.2 hjk)
                  rw [HOP.out, hi] at h2
                  exact absurd h2 (by simp)
                rw [this]; rfl
          · obtain rfl : j = k := by omega
            go_wp2
            go_roundw
            case rel =>
              refine ⟨j + 1, by omega, by go_num, HGi.out, ?_⟩
              intro i hi' j' hj'
              rcases Nat.lt_or_ge i j with h | h
              · exact HOK.out i h j' hj'
              · obtain rfl : i = j := by omega
                exact HOKJ.out j' hj'
            case measure => simp [intOf]; omega
      · obtain rfl : k = n := by omega
        go_wp2
        go_ret
        refine ⟨?_, HG.out⟩
        have : m.apart cs = true := by
          unfold Mat.apart
          rw [List.all_eq_true]
          intro i hi
          rw [List.all_eq_true]
          intro j hj
          exact HOK.out i (by rw [HN.out] at hi; exact List.mem_range.1 hi) j (List.mem_range.1 hj)
        rw [this]; rfl
end Go.Proofs.YtcmlhpodghfheaaDoor
