/- Package rank: the form of nodes. -/
import Derived.Test.YtcmlhpodghfheaaDoorR4
set_option linter.unusedSimpArgs false
set_option linter.unusedVariables false
namespace Go.Proofs.YtcmlhpodghfheaaDoor
open Go.RowKit Go.Shelf

/-- A node of a proof. -/
structure Nd where
  kind : Nat
  row : Nat
  col : Nat
  ch : List Nat
  ce : List (Nat × Nat)
instance : Inhabited Nd := ⟨⟨0, 0, 0, [], []⟩⟩

/-- The five cells at an address are a node of the program. -/
def NdAt (w : World) (b o : Nat) (x : Nd) : Prop := ∃ p1 c1 p2 c2, w.cell? ⟨b, o, none⟩ = some (.int .u8 (x.kind : Int)) ∧ w.cell? ⟨b, o + 1, none⟩ = some (.int .i64 (x.row : Int)) ∧ w.cell? ⟨b, o + 2, none⟩ = some (.int .i64 (x.col : Int)) ∧
  w.cell? ⟨b, o + 3, none⟩ = some (.slice p1 x.ch.length c1) ∧ w.cell? ⟨b, o + 4, none⟩ = some (.slice p2 x.ce.length c2) ∧ Ints w (.slice p1 x.ch.length c1) x.ch ∧ Cells w (.slice p2 x.ce.length c2) x.ce
theorem NdAt.gr {w w' : World} {b o : Nat} {x : Nd} (h : NdAt w b o x) (hx : Gr w w') : NdAt w' b o x := by
  obtain ⟨p1, c1, p2, c2, h1, h2, h3, h4, h5, h6, h7⟩ := h
  exact ⟨p1, c1, p2, c2, hx.cell h1, hx.cell h2, hx.cell h3, hx.cell h4, hx.cell h5, h6.gr hx, h7.gr hx⟩
/-- The slice value v is that of the nodes l. -/
def Nds (w : World) (v : Value) (l : List Nd) : Prop :=
  (l = [] ∧ ∃ p c, v = .slice p 0 c) ∨ (l ≠ [] ∧ ∃ b o c, v = .slice (some ⟨b, o, none⟩) l.length c ∧ ∀ i, i < l.length → NdAt w b (o + i * 5) (l.getD i default))
theorem Nds.gr {w w' : World} {v : Value} {l : List Nd} (h : Nds w v l) (hx : Gr w w') : Nds w' v l := by
  rcases h with h | ⟨h1, b, o, c, h2, h3⟩
  · exact .inl h
  · exact .inr ⟨h1, b, o, c, h2, fun i hi => (h3 i hi).gr hx⟩
theorem Nds.slice {w : World} {v : Value} {l : List Nd} (h : Nds w v l) : ∃ p c, v = .slice p l.length c := by
  rcases h with ⟨rfl, p, c, h⟩ | ⟨_, b, o, c, h, _⟩
  · exact ⟨p, c, h⟩
  · exact ⟨_, c, h⟩

/-- The children of node n, one after the other: those that are claimed now; nothing: one is wrong. -/
def kids (n L : Nat) : List Nat → List Nat → Option (List Nat)
  | cl, [] => some cl
  | cl, c :: r => if c ≤ n ∨ L ≤ c ∨ c ∈ cl then none else kids n L (c :: cl) r
def badNode (n : Nat) (x : Nd) (cl : List Nat) : Bool := decide (x.kind < 1) || decide (3 < x.kind) || (decide (x.kind ≠ 1) && decide (0 < x.ch.length)) || (decide (0 < n) && !decide (n ∈ cl))
/-- The first node whose form is wrong, or -1. -/
def formFrom (L : Nat) : Nat → List Nat → List Nd → Int
  | _, _, [] => -1
  | n, cl, x :: r => if badNode n x cl then (n : Int) else match kids n L cl x.ch with
    | none => (n : Int)
    | some cl' => formFrom L (n + 1) cl' r

/-- The flags of what is claimed. -/
def Flags (w : World) (B n : Nat) (cl : List Nat) : Prop := ∀ i, i < n → w.cell? ⟨B, i, none⟩ = some (.bool (decide (i ∈ cl))) ∧ w.frozen? ⟨B, i, none⟩ = false
theorem Flags.gr {w w' : World} {B n : Nat} {cl : List Nat} (h : Flags w B n cl) (hx : Gr w w') : Flags w' B n cl := fun i hi => ⟨hx.cell (h i hi).1, hx.frz (h i hi).1 (h i hi).2⟩
theorem Flags.set {w : World} {B n : Nat} {cl : List Nat} (h : Flags w B n cl) (c : Nat) (hc : c < n) : Flags (w.setCell ⟨B, c, none⟩ (.bool true)) B n (c :: cl) := by
  intro i hi
  refine ⟨?_, (World.frozen?_setCell _ _ _ _).trans (h i hi).2⟩
  by_cases e : i = c
  · subst e
    rw [World.cell?_setCell_same' _ _ _ (by rw [(h i hi).1]; rfl)]
    simp
  · rw [cell?_setCell_ne (h i hi).1 (fun he => e (by injection he with h1 h2; exact h2.symm))]
    simp [e]

theorem info_bool : (Tryd.prog.info? 4).map (fun i => (i.zero, i.size, i.bytes)) = some (some (.bool false), 1, 1) := by kernel_rfl
theorem und_bools : Tryd.prog.underlying 79 = some (.slice 4) := by kernel_rfl
theorem flags_made {w : World} {base B n c : Nat} {e : TypeId} (h : w.ownsRow base e 1 (.slice (some ⟨B, 0, none⟩) n c) n (madeCells #[.bool false] n).toList) : Flags w B n [] := by
  intro i hi
  have hl : (madeCells #[.bool false] n).toList[i]? = some (.bool false) := by
    simp [madeCells, Value.cells, hi, Nat.mod_one]
  refine ⟨?_, ?_⟩
  · have := h.cells (g := B) rfl i _ hl
    by_cases h0 : i = 0
    · subst h0; simpa [Addr.add] using this
    · simpa [Addr.add, h0] using this
  · obtain ⟨_, ⟨hn, _⟩ | ⟨g, cap, cur, hv, _, hg, _⟩⟩ := h
    · cases hn
    · simp only [Value.slice.injEq, Option.some.injEq, Addr.mk.injEq] at hv
      obtain ⟨⟨rfl, _⟩, _⟩ := hv
      simp [World.frozen?, hg]

set_option maxHeartbeats 1000000 in
/-- rank.form -/
theorem form_any (v : Value) (l : List Nd) (w : World) (hv : Nds w v l) (hl : l.length ≤ 5000) (hk : ∀ x ∈ l, x.kind < 256) (hch : ∀ x ∈ l, x.ch.length < 1000000 ∧ ∀ c ∈ x.ch, c < 1000000) :
    Calls Tryd.prog 25 #[v] w fun e w' => e = .returned (.int .i64 (formFrom l.length 0 [] l)) ∧ Gr w w' := by
  obtain ⟨i0, hi0, hz0, hz1, hz2⟩ := info_parts info_bool
  have hv0 := Lib.hid hv
  have hk' := Lib.hid hk
  have hch' := Lib.hid hch
  obtain ⟨p, c, rfl⟩ := hv.slice
  clear hv hk hch
  generalize hn : l.length = n at *
  have HN := Lib.hid hn
  clear hn
  go_enter Tryd.func25, Tryd.ntmps25
  go_wp2_with (at_make; refine wpList_make_full _ rfl _ _ 79 rfl w.heap.size 4 i0 (.bool false) 1 und_bools hi0 hz0 hz1 .i64 .i64 ((n : Nat) : Int) ((n : Nat) : Int) n rfl rfl rfl rfl (by rw [hz2]; omega) (by simp only [maxLen]; omega) (by omega) ?_)
  intro w1 hown hgrow
  have hF := flags_made hown
  have hG1 : Gr w w1 := (Gr.refl w).grown hgrow (fun k e => by cases e)
  have hB : w.heap.size < w1.heap.size := (World.ownsRow.lt hown _ rfl).2
  clear hown hgrow hi0 hz0 hz1 hz2
  go_wp2_with fail
  go_loopw [13] (fun q wr => ∃ k : Nat, k ≤ n ∧ q = .int .i64 k ∧ Gr w wr ∧ w.heap.size < wr.heap.size ∧ ∃ cl, Flags wr w.heap.size n cl ∧ formFrom n k cl (l.drop k) = formFrom n 0 [] l) (fun q _ => n - (intOf q).toNat)
  case atStart => exact ⟨0, Nat.zero_le _, rfl, hG1, hB, [], hF, by simp⟩
  case round =>
    obtain ⟨wo, rfl⟩ : ∃ wo : World, wo = wr := ⟨_, rfl⟩
    obtain ⟨k, hk, rfl, hG, hBo, cl, hF, hform⟩ := hrel
    have HG := Lib.hid hG
    have HF := Lib.hid hF
    have HFO := Lib.hid hform
    clear hG hF hform
    by_cases hlt : k < n
    · rcases hv0.out with ⟨rfl, _⟩ | ⟨hne, b, o, c', hsl, hcell⟩
      · have := HN.out; simp at this; omega
      · simp only [Value.slice.injEq] at hsl
        obtain ⟨rfl, -, rfl⟩ := hsl
        have hc := hcell k (by rw [HN.out]; exact hlt)
        have hdrop : l.drop k = l.getD k default :: l.drop (k + 1) := by
          rw [List.drop_eq_getElem_cons (by rw [HN.out]; exact hlt)]
          simp [List.getD, List.getElem?_eq_getElem (show k < l.length by rw [HN.out]; exact hlt)]
        have hmem : l.getD k default ∈ l := by rw [List.getD_eq_getElem?_getD, List.getElem?_eq_getElem (by rw [HN.out]; exact hlt)]; simp
        have hk256 := hk'.out _ hmem
        have hcc := hch'.out _ hmem
        clear hmem
        generalize l.getD k default = x at *
        obtain ⟨p1, c1, p2, c2, g1, g2, g3, g4, g5, h6, h7⟩ := hc
        have h1 := HG.out.cell g1
        have h2 := HG.out.cell g2
        have h3 := HG.out.cell g3
        have h4 := HG.out.cell g4
        have h5 := HG.out.cell g5
        have HC := Lib.hid hcc.2
        have hc6 := hcc.1
        have H6 := Lib.hid h6
        have HD := Lib.hid hdrop
        have hbb := World.block_lt_of_cell? _ _ h1
        simp only [] at hbb
        have hfk := (HF.out k hlt).1
        clear hcell hcc h6 h7 hdrop g1 g2 g3 g4 g5
        have hbadv : badNode k x cl = true → (k : Int) = formFrom n 0 [] l := fun h => by rw [← HFO.out, HD.out]; simp [formFrom, h]
        have hgoodv : badNode k x cl = false → formFrom n 0 [] l = match kids k n cl x.ch with
            | none => (k : Int)
            | some cl' => formFrom n (k + 1) cl' (l.drop (k + 1)) := fun h => by rw [← HFO.out, HD.out]; simp [formFrom, h]
        have HBV := Lib.hid hbadv
        have HGV := Lib.hid hgoodv
        have HR := Lib.hid hfk
        clear hbadv hgoodv hfk
        generalize hcn : x.ch.length = cn at *
        have HCN := Lib.hid hcn
        clear hcn
        by_cases e1 : (x.kind : Int) < 1
        · go_wp2
          go_ret
          exact ⟨by rw [HBV.out (by simp [badNode]; omega)]; rfl, HG.out.trans ((Gr.refl _).alloc _)⟩
        by_cases e2 : (3 : Int) < x.kind
        · go_wp2
          go_ret
          exact ⟨by rw [HBV.out (by simp [badNode]; omega)]; rfl, HG.out.trans ((Gr.refl _).alloc _)⟩
        by_cases e3 : (x.kind : Int) ≠ 1 ∧ (0 : Int) < cn
        · obtain ⟨e3', e4⟩ := e3
          have e3 : ((x.kind : Int) != 1) = true := by simpa using e3'
          go_wp2
          go_ret
          exact ⟨by rw [HBV.out (by simp [badNode, HCN.out]; omega)]; rfl, HG.out.trans ((Gr.refl _).alloc _)⟩
        have e4 : ((x.kind : Int) != 1) = false ∨ (((x.kind : Int) != 1) = true ∧ ¬ (0 : Int) < cn) := by
          by_cases h : (x.kind : Int) = 1
          · left; simp [h]
          · right; refine ⟨by simpa using h, ?_⟩
            exact fun h' => e3 ⟨h, h'⟩
        have e5 : ¬ (0 : Int) < k ∨ ((0 : Int) < k ∧ k ∈ cl) ∨ ((0 : Int) < k ∧ k ∉ cl) := by
          by_cases h : (0 : Int) < k
          · by_cases h' : k ∈ cl
            · exact .inr (.inl ⟨h, h'⟩)
            · exact .inr (.inr ⟨h, h'⟩)
          · exact .inl h
        have hgood : (¬ (0 : Int) < k ∨ ((0 : Int) < k ∧ k ∈ cl)) → badNode k x cl = false := by
          intro h
          have h3 : ¬ (x.kind ≠ 1 ∧ 0 < cn) := fun h' => e3 ⟨by omega, by omega⟩
          have h1 : ¬ x.kind < 1 := by omega
          have h2 : ¬ 3 < x.kind := by omega
          unfold badNode
          rw [HCN.out]
          simp only [h1, h2, decide_false, Bool.false_or, Bool.or_eq_false_iff, Bool.and_eq_false_iff, decide_eq_false_iff_not, Bool.not_eq_false', decide_eq_true_eq]
          refine ⟨?_, ?_⟩
          · by_cases hh : x.kind = 1
            · exact .inl (fun h => h hh)
            · exact .inr (fun h => h3 ⟨hh, h⟩)
          · rcases h with h | h
            · exact .inl (by omega)
            · exact .inr h.2
        have HGD := Lib.hid hgood
        clear hgood e3
        have hlk := World.block_lt_of_cell? _ _ HR.out
        rcases e5 with e5 | ⟨e5, e6⟩ | ⟨e5, e6⟩
        rotate_right
        · have hr := HR.out
          rw [show decide (k ∈ cl) = false from by simp [e6]] at hr
          have hbn : badNode k x cl = true := by simp [badNode, e6]; omega
          clear e6
          rcases e4 with e4 | ⟨e4, e7⟩
          all_goals
            go_wp2
            go_ret
            exact ⟨by rw [HBV.out hbn]; rfl, HG.out.trans ((Gr.refl _).alloc _)⟩
        · have hgv := HGV.out (HGD.out (.inl e5))
          have HVV := Lib.hid hgv
          clear hgv
          rcases e4 with e4 | ⟨e4, e7⟩
          rotate_right
          · have hnil : x.ch = [] := List.eq_nil_of_length_eq_zero (by rw [HCN.out]; omega)
            have hv := HVV.out
            rw [hnil] at hv
            simp only [kids] at hv
            have HV := Lib.hid hv
            obtain rfl : cn = 0 := by omega
            clear e7 hv hnil
            go_wp2_with fail
            go_rounds 1
            go_roundw
            case rel => exact ⟨k + 1, by omega, by go_num, HG.out.trans ((Gr.refl _).alloc _), by simp; omega, cl, HF.out.gr ((Gr.refl _).alloc _), HV.out.symm⟩
            case measure => simp [intOf]; omega
          · go_wp2_with fail
            go_loopw [7, 52] (fun _ q wr => ∃ j : Nat, j ≤ cn ∧ q = .int .i64 j ∧ Gr w wr ∧ w.heap.size < wr.heap.size ∧ ∃ cl', Flags wr w.heap.size n cl' ∧ kids k n cl' (x.ch.drop j) = kids k n cl x.ch) (fun _ q _ => cn - (intOf q).toNat)
            case atStart => exact ⟨0, Nat.zero_le _, rfl, HG.out.trans ((Gr.refl _).alloc _), by simp; omega, cl, HF.out.gr ((Gr.refl _).alloc _), by simp⟩
            case round =>
              obtain ⟨j, hj, rfl, hGj, hBj, cl', hFj, hkj⟩ := hrel
              have HGj := Lib.hid hGj
              have HFj := Lib.hid hFj
              have HKj := Lib.hid hkj
              clear hGj hFj hkj
              by_cases hjl : j < cn
              · rcases H6.out with ⟨he, _⟩ | ⟨hne1, b1, o1, c1', hsl1, hcell1⟩
                · have := HCN.out; rw [he] at this; simp at this; omega
                · simp only [Value.slice.injEq] at hsl1
                  obtain ⟨rfl, -, rfl⟩ := hsl1
                  have hx := HGj.out.cell (hcell1 j (by rw [HCN.out]; exact hjl))
                  have hx6 := HC.out (x.ch.getD j 0) (by rw [List.getD_eq_getElem?_getD, List.getElem?_eq_getElem (by rw [HCN.out]; exact hjl)]; simp)
                  have hdj : x.ch.drop j = x.ch.getD j 0 :: x.ch.drop (j + 1) := by
                    rw [List.drop_eq_getElem_cons (by rw [HCN.out]; exact hjl)]
                    simp [List.getD, List.getElem?_eq_getElem (show j < x.ch.length by rw [HCN.out]; exact hjl)]
                  have hkk := HKj.out
                  rw [hdj] at hkk
                  generalize x.ch.getD j 0 = y at *
                  have hbad2 : (y ≤ k ∨ n ≤ y ∨ y ∈ cl') → (k : Int) = formFrom n 0 [] l := fun h => by
                    rw [HVV.out, ← hkk]; simp [kids, h]
                  have hok2 : ¬ (y ≤ k ∨ n ≤ y ∨ y ∈ cl') → kids k n (y :: cl') (x.ch.drop (j + 1)) = kids k n cl x.ch := fun h => by
                    rw [← hkk]; simp only [kids, if_neg h]
                  have HB2 := Lib.hid hbad2
                  have HO2 := Lib.hid hok2
                  clear hbad2 hok2 hkk hdj hcell1
                  by_cases d1 : (y : Int) ≤ k
                  · go_wp2
                    go_ret
                    exact ⟨by rw [HB2.out (by omega)]; rfl, HGj.out⟩
                  by_cases d2 : (n : Int) ≤ y
                  · go_wp2
                    go_ret
                    exact ⟨by rw [HB2.out (by omega)]; rfl, HGj.out⟩
                  have hfy := HFj.out y (by omega)
                  by_cases d3 : y ∈ cl'
                  · have hfy1 := hfy.1
                    rw [show decide (y ∈ cl') = true from by simp [d3]] at hfy1
                    have hbn := HB2.out (.inr (.inr d3))
                    have HBN := Lib.hid hbn
                    clear d3 hbn hfy
                    go_wp2
                    go_ret
                    exact ⟨by rw [HBN.out]; rfl, HGj.out⟩
                  · have hfy1 := hfy.1
                    have hfy2 := hfy.2
                    rw [show decide (y ∈ cl') = false from by simp [d3]] at hfy1
                    have hok := HO2.out (fun h => h.elim (fun h => d1 (by omega)) (fun h => h.elim (fun h => d2 (by omega)) d3))
                    have HOK := Lib.hid hok
                    have hyn : y < n := by omega
                    clear d3 hok hfy
                    go_wp2
                    go_roundw
                    case rel => exact ⟨j + 1, by omega, by go_num, HGj.out.setCell (by simp) _, by simpa using hBj, y :: cl', HFj.out.set y hyn, HOK.out⟩
                    case measure => simp [intOf]; omega
              · obtain rfl : j = cn := by omega
                have hv := HVV.out
                rw [← HKj.out, List.drop_of_length_le (by rw [HCN.out]; exact Nat.le_refl _)] at hv
                simp only [kids] at hv
                have HV := Lib.hid hv
                clear hv
                go_wp2
                go_roundw
                case rel => exact ⟨k + 1, by omega, by go_num, HGj.out, hBj, cl', HFj.out, HV.out.symm⟩
                case measure => simp [intOf]; omega
        · have hgv := HGV.out (HGD.out (.inr ⟨e5, e6⟩))
          have hr := HR.out
          rw [show decide (k ∈ cl) = true from by simp [e6]] at hr
          clear e6
          have HVV := Lib.hid hgv
          clear hgv
          rcases e4 with e4 | ⟨e4, e7⟩
          rotate_right
          · have hnil : x.ch = [] := List.eq_nil_of_length_eq_zero (by rw [HCN.out]; omega)
            have hv := HVV.out
            rw [hnil] at hv
            simp only [kids] at hv
            have HV := Lib.hid hv
            obtain rfl : cn = 0 := by omega
            clear e7 hv hnil
            go_wp2_with fail
            go_rounds 1
            go_roundw
            case rel => exact ⟨k + 1, by omega, by go_num, HG.out.trans ((Gr.refl _).alloc _), by simp; omega, cl, HF.out.gr ((Gr.refl _).alloc _), HV.out.symm⟩
            case measure => simp [intOf]; omega
          · go_wp2_with fail
            go_loopw [7, 52] (fun _ q wr => ∃ j : Nat, j ≤ cn ∧ q = .int .i64 j ∧ Gr w wr ∧ w.heap.size < wr.heap.size ∧ ∃ cl', Flags wr w.heap.size n cl' ∧ kids k n cl' (x.ch.drop j) = kids k n cl x.ch) (fun _ q _ => cn - (intOf q).toNat)
            case atStart => exact ⟨0, Nat.zero_le _, rfl, HG.out.trans ((Gr.refl _).alloc _), by simp; omega, cl, HF.out.gr ((Gr.refl _).alloc _), by simp⟩
            case round =>
              obtain ⟨j, hj, rfl, hGj, hBj, cl', hFj, hkj⟩ := hrel
              have HGj := Lib.hid hGj
              have HFj := Lib.hid hFj
              have HKj := Lib.hid hkj
              clear hGj hFj hkj
              by_cases hjl : j < cn
              · rcases H6.out with ⟨he, _⟩ | ⟨hne1, b1, o1, c1', hsl1, hcell1⟩
                · have := HCN.out; rw [he] at this; simp at this; omega
                · simp only [Value.slice.injEq] at hsl1
                  obtain ⟨rfl, -, rfl⟩ := hsl1
                  have hx := HGj.out.cell (hcell1 j (by rw [HCN.out]; exact hjl))
                  have hx6 := HC.out (x.ch.getD j 0) (by rw [List.getD_eq_getElem?_getD, List.getElem?_eq_getElem (by rw [HCN.out]; exact hjl)]; simp)
                  have hdj : x.ch.drop j = x.ch.getD j 0 :: x.ch.drop (j + 1) := by
                    rw [List.drop_eq_getElem_cons (by rw [HCN.out]; exact hjl)]
                    simp [List.getD, List.getElem?_eq_getElem (show j < x.ch.length by rw [HCN.out]; exact hjl)]
                  have hkk := HKj.out
                  rw [hdj] at hkk
                  generalize x.ch.getD j 0 = y at *
                  have hbad2 : (y ≤ k ∨ n ≤ y ∨ y ∈ cl') → (k : Int) = formFrom n 0 [] l := fun h => by
                    rw [HVV.out, ← hkk]; simp [kids, h]
                  have hok2 : ¬ (y ≤ k ∨ n ≤ y ∨ y ∈ cl') → kids k n (y :: cl') (x.ch.drop (j + 1)) = kids k n cl x.ch := fun h => by
                    rw [← hkk]; simp only [kids, if_neg h]
                  have HB2 := Lib.hid hbad2
                  have HO2 := Lib.hid hok2
                  clear hbad2 hok2 hkk hdj hcell1
                  by_cases d1 : (y : Int) ≤ k
                  · go_wp2
                    go_ret
                    exact ⟨by rw [HB2.out (by omega)]; rfl, HGj.out⟩
                  by_cases d2 : (n : Int) ≤ y
                  · go_wp2
                    go_ret
                    exact ⟨by rw [HB2.out (by omega)]; rfl, HGj.out⟩
                  have hfy := HFj.out y (by omega)
                  by_cases d3 : y ∈ cl'
                  · have hfy1 := hfy.1
                    rw [show decide (y ∈ cl') = true from by simp [d3]] at hfy1
                    have hbn := HB2.out (.inr (.inr d3))
                    have HBN := Lib.hid hbn
                    clear d3 hbn hfy
                    go_wp2
                    go_ret
                    exact ⟨by rw [HBN.out]; rfl, HGj.out⟩
                  · have hfy1 := hfy.1
                    have hfy2 := hfy.2
                    rw [show decide (y ∈ cl') = false from by simp [d3]] at hfy1
                    have hok := HO2.out (fun h => h.elim (fun h => d1 (by omega)) (fun h => h.elim (fun h => d2 (by omega)) d3))
                    have HOK := Lib.hid hok
                    have hyn : y < n := by omega
                    clear d3 hok hfy
                    go_wp2
                    go_roundw
                    case rel => exact ⟨j + 1, by omega, by go_num, HGj.out.setCell (by simp) _, by simpa using hBj, y :: cl', HFj.out.set y hyn, HOK.out⟩
                    case measure => simp [intOf]; omega
              · obtain rfl : j = cn := by omega
                have hv := HVV.out
                rw [← HKj.out, List.drop_of_length_le (by rw [HCN.out]; exact Nat.le_refl _)] at hv
                simp only [kids] at hv
                have HV := Lib.hid hv
                clear hv
                go_wp2
                go_roundw
                case rel => exact ⟨k + 1, by omega, by go_num, HGj.out, hBj, cl', HFj.out, HV.out.symm⟩
                case measure => simp [intOf]; omega
    · obtain rfl : k = n := by omega
      go_wp2
      go_ret
      refine ⟨?_, HG.out⟩
      have := HFO.out
      rw [List.drop_of_length_le (by rw [HN.out]; exact Nat.le_refl _)] at this
      rw [← this]
      rfl
end Go.Proofs.YtcmlhpodghfheaaDoor
