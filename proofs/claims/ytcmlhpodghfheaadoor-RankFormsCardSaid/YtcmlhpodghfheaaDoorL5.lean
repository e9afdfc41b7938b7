/- rank.node: branches. -/
import Derived.Test.YtcmlhpodghfheaaDoorN1
import Derived.Test.YtcmlhpodghfheaaDoorR5
import Derived.Test.YtcmlhpodghfheaaDoorL4
set_option linter.unusedSimpArgs false
set_option linter.unusedVariables false
/- rank.Check. -/
/- Plain law: both checks answer alike. -/
namespace Go.Proofs.YtcmlhpodghfheaaDoor
open Go.RowKit Go.Shelf
attribute [local go_sem] Oper.semAt_some

/-- The contract of rank.node down to a depth. -/
def NodeOk (m : Mat) (l : List Nd) (f : Nat) : Prop := ∀ (n : Nat) (o : List Nat) (b : Nat) (v v2 v3 : Value) (w : World), MatV w v m → Nds w v2 l → Sets w v3 o → o.length = m.rows.length → (∀ x ∈ o, x < 64) → n < l.length → l.length - n ≤ f → b < 1000 → TabOk w →
  Calls Tryd.prog 28 #[v, v2, .int .i64 (n : Int), v3, .int .i64 (b : Int)] w (RetFlaw (nodeF m l f n o b) w)

theorem minus_idem : ∀ s, s < 64 → ∀ t, t < 64 → minus (minus s t) t = minus s t := by decide +kernel
/-- What is left where some rows have been cleared. -/
def lessL (o : List Nat) (s : Nat) (pre : List Nat) : List Nat := (List.range o.length).map fun i => if i ∈ pre then minus (o.getD i 0) s else o.getD i 0
theorem lessL_len (o : List Nat) (s : Nat) (pre : List Nat) : (lessL o s pre).length = o.length := by simp [lessL]
theorem lessL_get (o : List Nat) (s : Nat) (pre : List Nat) (i : Nat) (h : i < o.length) : (lessL o s pre).getD i 0 = if i ∈ pre then minus (o.getD i 0) s else o.getD i 0 := by
  simp [lessL, List.getD, List.getElem?_range h]
theorem lessL_all (m : Mat) (o : List Nat) (s : Nat) (h : o.length ≤ 6) : lessL o s (mems (m.hav s)) = lessOf m o s := by
  unfold lessL lessOf
  refine List.map_congr_left fun i hi => ?_
  have hi' : i < o.length := List.mem_range.1 hi
  have : i ∈ mems (m.hav s) ↔ (m.hav s).testBit i = true := by
    simp only [mems, List.mem_filter, List.mem_range]
    exact ⟨fun h => h.2, fun h => ⟨by omega, h⟩⟩
  by_cases hb : (m.hav s).testBit i = true
  · rw [if_pos (this.2 hb), if_pos hb]
  · rw [if_neg (fun h => hb (this.1 h)), if_neg hb]
theorem own_rows {w : World} {base : Nat} {v : Value} {ss : List Nat} (h : OwnSets w base v ss) (hne : ss ≠ []) : ∃ g cap, v = .slice (some ⟨g, 0, none⟩) ss.length cap ∧ base ≤ g ∧ g < w.heap.size ∧ ∀ i, i < ss.length → ∃ y, w.cell? ⟨g, i, none⟩ = some y ∧ w.frozen? ⟨g, i, none⟩ = false ∧ Words w y (ss.getD i 0) := by
  obtain ⟨xs, h1, h2, h3, h4⟩ := h
  obtain ⟨_, ⟨_, h0⟩ | ⟨g, cap, cur, rfl, hb, hg, hn, hm, hs, ht⟩⟩ := h2
  · exact absurd (List.eq_nil_of_length_eq_zero h0) hne
  · refine ⟨g, cap, rfl, hb, (Array.getElem?_eq_some_iff.1 hg).1, fun i hi => ?_⟩
    obtain ⟨y, hy, hw⟩ := h4 i hi
    refine ⟨y, ?_, by simp [World.frozen?, hg], hw⟩
    simp only [World.cell?, hg]
    have h2 := congrArg (fun l => l[i]?) ht
    simp only [Nat.mul_one] at h2
    rw [List.getElem?_take_of_lt hi, hy] at h2
    simp only [Option.isSome_none, Bool.false_eq_true, if_false]
    rw [← Array.getElem?_toList, h2]

def branchF (m : Mat) (g : Nat → List Nat → Nat × Nat) (x : Nd) (n : Nat) (o : List Nat) (b : Nat) : Nat × Nat :=
  if isOpen o x.row x.col = false then (3, n)
  else if b < 1 then (5, n)
  else if m.cons x.row x.col = [] ∨ (m.cons x.row x.col).length ≠ x.ch.length then (4, n)
  else runKids g m o (x.ch.zip (m.cons x.row x.col))

set_option pp.deepTerms true in
set_option pp.maxSteps 100000 in
set_option maxHeartbeats 4000000 in
set_option maxRecDepth 100000 in
theorem node_branch (v v2 v3 : Value) (m : Mat) (l : List Nd) (f n b : Nat) (o : List Nat) (x : Nd) (w : World) (hv : MatV w v m) (hm : m.good) (hl : Nds w v2 l) (hll : l.length ≤ 5000) (ho : Sets w v3 o) (hol : o.length = m.rows.length) (ho6 : ∀ x ∈ o, x < 64) (hn : n < l.length) (hf : l.length - n ≤ f + 1) (hx : l.getD n default = x) (hw : wellNode l n x) (hk2 : x.kind ≠ 2) (hk3 : x.kind ≠ 3) (hb : b < 1000) (ht : TabOk w)
    (ih : NodeOk m l f) :
    Calls Tryd.prog 28 #[v, v2, .int .i64 (n : Int), v3, .int .i64 (b : Int)] w (RetFlaw (branchF m (fun c o' => nodeF m l f c o' (b - 1)) x n o b) w) := by
  have HL := Lib.hid hl
  rcases hl with ⟨rfl, _⟩ | ⟨_, bl, ol, cl, rfl, hcell⟩
  · simp at hn
  have hc := hcell n hn
  rw [hx] at hc
  obtain ⟨p1, c1, p2, c2, h1, h2, h3, h4, h5, h6, h7⟩ := hc
  have hbl := World.block_lt_of_cell? _ _ h1
  simp only [] at hbl
  have HV := Lib.hid hv
  have HM := Lib.hid hm
  have HO := Lib.hid ho
  have HT := Lib.hid ht
  have HOL := Lib.hid hol
  have HO6 := Lib.hid ho6
  have HIH := Lib.hid ih
  have HF := Lib.hid hf
  have H6 := Lib.hid h6
  obtain ⟨po, co, rfl⟩ := ho.slice
  have hk2' : ((x.kind : Int) == 2) = false := by simp; omega
  have hk3' : ((x.kind : Int) == 3) = false := by simp; omega
  obtain ⟨hw1, hw2, hw3, hw4, hw5, _, hw7⟩ := hw
  have HW7 := Lib.hid hw7
  have HN := Lib.hid hn
  have hos : o.length ≤ 6 := by rw [hol]; exact hm.1.2
  generalize hLL : l.length = L at *
  have HLL := Lib.hid hLL
  generalize hop : o.length = op at *
  have HOP := Lib.hid hop
  generalize hcn : x.ch.length = cn at *
  have HCN := Lib.hid hcn
  obtain ⟨bm, um, rfl, _, _, _⟩ := hv
  have hone : isOpen o x.row x.col = true → o ≠ [] := by
    intro h e
    rw [e] at h
    simp [isOpen] at h
  have HONE := Lib.hid hone
  clear hm ho hone h6 h7 hcell hx hLL ht ho6 hol hop hcn ih hk2 hk3 hw7 hf
  refine (callsIn_wide (n := 6)).1 ?_
  refine callsIn_of_wp_marks Tryd.func28 rfl trivial ?_ rfl
  refine wpIn_wide.2 ?_
  simp only [Tryd.ntmps28, List.size_toArray, List.length_cons, List.length_nil, Nat.reduceAdd, Nat.reduceSub, Array.replicate_succ, Array.replicate_zero, List.push_toArray, List.append_toArray, List.nil_append, List.cons_append]
  go_wp2_with fail
  refine name_calls fun W hW => ?_
  have hX : Gr w W := by rw [hW]; repeat (first | exact Gr.refl _ | refine Gr.alloc ?_ _)
  have fB : W.cell? ⟨w.heap.size, 0, none⟩ = some (.slice po op co) := by rw [hW]; go_simp
  have f1 : W.cell? ⟨w.heap.size + 1, 1, none⟩ = some (.int .i64 (x.row : Int)) := by rw [hW]; go_simp
  have f2 : W.cell? ⟨w.heap.size + 1, 2, none⟩ = some (.int .i64 (x.col : Int)) := by rw [hW]; go_simp
  have f3 : W.cell? ⟨w.heap.size + 1, 3, none⟩ = some (.slice p1 cn c1) := by rw [hW]; go_simp
  clear hW h1 h2 h3 h4 h5
  have HX := Lib.hid hX
  refine (isOpen_any w.heap.size _ o x.row x.col W fB (HO.out.gr hX) (by rw [HOP.out]; omega) (by omega) hw3).mono ?_
  rintro e w1 ⟨rfl, hx1⟩
  have g0 := hx1.cell fB
  have g1 := hx1.cell f1
  have g2 := hx1.cell f2
  have g3 := hx1.cell f3
  have HX1 := Lib.hid (HX.out.trans hx1)
  have lw1 : w.heap.size + 1 < w1.heap.size := World.block_lt_of_cell? _ _ g1
  clear hX hx1 fB f1 f2 f3
  cases hop1 : isOpen o x.row x.col with
  | false =>
    have hr : branchF m (fun c o' => nodeF m l f c o' (b - 1)) x n o b = (3, n) := by simp [branchF, hop1]
    have HR := Lib.hid hr
    clear hr hop1
    go_wp2
    exact ret_marks (MarksAt.nil _ _) (Nat.le_refl _) HX1.out (fun w' _ => results_tmp2 rfl _ _ _) (fun w' h _ => ⟨by rw [HR.out]; rfl, h⟩)
  | true =>
    by_cases hb1 : (b : Int) < 1
    · have hr : branchF m (fun c o' => nodeF m l f c o' (b - 1)) x n o b = (5, n) := by simp [branchF, hop1]; omega
      have HR := Lib.hid hr
      clear hr hop1
      go_wp2
      exact ret_marks (MarksAt.nil _ _) (Nat.le_refl _) HX1.out (fun w' _ => results_tmp2 rfl _ _ _) (fun w' h _ => ⟨by rw [HR.out]; rfl, h⟩)
    · go_wp2_with fail
      refine (concepts_any _ m x.row x.col _ (HV.out.gr HX1.out) HM.out (by omega) hw3 (HT.out.gr HX1.out)).mono ?_
      rintro e w2 ⟨⟨pc, nc, cc, rfl, hcs⟩, hx2⟩
      have k0 := hx2.cell g0
      have k3 := hx2.cell g3
      have HX2 := Lib.hid (HX1.out.trans hx2)
      have lw2 : w.heap.size + 1 < w2.heap.size := World.block_lt_of_cell? _ _ k3
      have hbr : branchF m (fun c o' => nodeF m l f c o' (b - 1)) x n o b = if m.cons x.row x.col = [] ∨ (m.cons x.row x.col).length ≠ cn then (4, n) else runKids (fun c o' => nodeF m l f c o' (b - 1)) m o (x.ch.zip (m.cons x.row x.col)) := by
        rw [← HCN.out]; simp only [branchF, hop1]; rw [if_neg (by simp), if_neg (by omega)]
      have HBR := Lib.hid hbr
      obtain ⟨pc', cc', hsl⟩ := hcs.slice
      simp only [Value.slice.injEq] at hsl
      obtain ⟨rfl, rfl, rfl⟩ := hsl
      have HCS := Lib.hid hcs
      have HNE := Lib.hid (HONE.out hop1)
      have hlt6 := cons_lt m x.row x.col
      clear g0 g1 g2 g3 hx2 hbr hcs hop1
      generalize hCC : m.cons x.row x.col = CS at *
      have HCC := Lib.hid hCC
      generalize hcl : CS.length = n2 at *
      have HCL := Lib.hid hcl
      have HLT := Lib.hid hlt6
      clear hCC hcl hlt6
      by_cases hz : (n2 : Int) = 0
      · have hr := HBR.out
        rw [if_pos (.inl (List.eq_nil_of_length_eq_zero (by rw [HCL.out]; omega)))] at hr
        have HR := Lib.hid hr
        have hz0 : ((n2 : Int) == 0) = true := by simpa using hz
        clear hr hz
        go_wp2
        exact ret_marks (MarksAt.nil _ _) (Nat.le_refl _) HX2.out (fun w' _ => results_tmp2 rfl _ _ _) (fun w' h _ => ⟨by rw [HR.out]; rfl, h⟩)
      · have hz0 : ((n2 : Int) == 0) = false := by simpa using hz
        by_cases hne : n2 = cn
        · subst hne
          have hr := HBR.out
          rw [if_neg (by
            intro h
            rcases h with h | h
            · have := HCL.out; rw [h] at this; simp at this; omega
            · exact h rfl)] at hr
          have HR := Lib.hid hr
          clear hr hz
          go_wp2_with fail
          refine wp_loop_k (fun a wr => ∃ (ds : List Deferred) (u18 u19 u20 u21 u22 u23 u109 u110 u111 u112 u113 u114 u115 u116 u117 u118 u119 u120 u121 u122 u123 u124 u125 u126 u127 u128 u129 u130 u131 u132 u133 u134 u135 u136 u137 u138 u139 u140 u141 u142 u143 u144 u145 u146 u147 : Value) (k : Nat), a = { tmps := #[.pointer (some ⟨bm, 0, none⟩), .slice (some ⟨bl, ol, none⟩) L cl, .int .i64 (n : Int), .slice po op co, .int .i64 (b : Int), undef, undef, undef, .pointer (some ⟨w.heap.size, 0, none⟩), undef, .int .u8 0, .int .i64 0, .pointer (some ⟨w.heap.size + 1, 0, none⟩), .pointer (some ⟨w.heap.size + 1 + 1, 0, none⟩), undef, undef, undef, .slice pc n2 cc, u18, u19, u20, u21, u22, u23, .slice (some ⟨bl, ol, none⟩) L cl, .int .i64 (n : Int), .pointer (some ⟨bl, ol + n * 5, none⟩), .agg #[.int .u8 (x.kind : Int), .int .i64 (x.row : Int), .int .i64 (x.col : Int), .slice p1 n2 c1, .slice p2 x.ce.length c2], .func (.func 59) #[] #[.pointer (some ⟨w.heap.size, 0, none⟩)], .pointer (some ⟨w.heap.size + 1, 0, none⟩), .int .u8 (x.kind : Int), .bool false, .bool false, undef, undef, undef, undef, undef, undef, undef, undef, undef, undef, undef, undef, undef, undef, undef, undef, undef, undef, .bool false, .bool false, undef, undef, undef, undef, undef, undef, undef, undef, undef, undef, undef, undef, undef, undef, undef, undef, undef, undef, undef, undef, undef, undef, undef, undef, .func (.func 59) #[] #[.pointer (some ⟨w.heap.size, 0, none⟩)], .pointer (some ⟨w.heap.size + 1, 1, none⟩), .int .i64 (x.row : Int), .pointer (some ⟨w.heap.size + 1, 2, none⟩), .int .i64 (x.col : Int), .bool true, .bool false, undef, .int .i64 (b : Int), .bool (decide ((b : Int) < 1)), undef, .pointer (some ⟨bm, 0, none⟩), .pointer (some ⟨w.heap.size + 1, 1, none⟩), .int .i64 (x.row : Int), .pointer (some ⟨w.heap.size + 1, 2, none⟩), .int .i64 (x.col : Int), .slice pc n2 cc, .slice pc n2 cc, .int .i64 (n2 : Int), .bool false, .bool false, .slice pc n2 cc, .int .i64 (n2 : Int), .pointer (some ⟨w.heap.size + 1, 3, none⟩), .slice p1 n2 c1, .int .i64 (n2 : Int), .bool false, .bool false, undef, .slice pc n2 cc, .int .i64 (n2 : Int), .int .i64 (k : Int), u109, u110, u111, u112, u113, u114, u115, u116, u117, u118, u119, u120, u121, u122, u123, u124, u125, u126, u127, u128, u129, u130, u131, u132, u133, u134, u135, u136, u137, u138, u139, u140, u141, u142, u143, u144, u145, u146, u147], defers := ds } ∧
            k ≤ n2 ∧ Gr w2 wr ∧ MarksAt w2.heap.size wr ds ∧ runKids (fun c o' => nodeF m l f c o' (b - 1)) m o ((x.ch.zip CS).drop k) = runKids (fun c o' => nodeF m l f c o' (b - 1)) m o (x.ch.zip CS)) (fun a _ => n2 - (intOf (a.tmps.getD 108 undef)).toNat) ?start ?round
          case start => exact ⟨[], _, _, _, _, _, _, _, _, _, _, _, _, _, _, _, _, _, _, _, _, _, _, _, _, _, _, _, _, _, _, _, _, _, _, _, _, _, _, _, _, _, _, _, _, _, 0, rfl, Nat.zero_le _, Gr.refl _, MarksAt.nil _ _, by simp⟩
          case round =>
            rintro a wo ⟨ds, u18, u19, u20, u21, u22, u23, u109, u110, u111, u112, u113, u114, u115, u116, u117, u118, u119, u120, u121, u122, u123, u124, u125, u126, u127, u128, u129, u130, u131, u132, u133, u134, u135, u136, u137, u138, u139, u140, u141, u142, u143, u144, u145, u146, u147, k, rfl, hk, hG, hmk, hrun⟩ K hK
            have HK := Lib.hid hK
            have HG := Lib.hid hG
            have HMK := Lib.hid hmk
            have HRUN := Lib.hid hrun
            clear hK hG hmk hrun
            by_cases hlt : k < n2
            · obtain ⟨bb, oo, ccc, y, hsl, hbb, hcy, hy⟩ := HCS.out.at k (by rw [HCL.out]; exact hlt)
              obtain ⟨py, ny, cy, hyy⟩ := hy.words.slice
              subst hyy
              simp only [Value.slice.injEq] at hsl
              obtain ⟨rfl, -, rfl⟩ := hsl
              have hcyo := HG.out.cell hcy
              have hbbo : bb < wo.heap.size := World.block_lt_of_cell? _ _ hcyo
              have hs64 : CS.getD k 0 < 64 := HLT.out _ (by rw [List.getD_eq_getElem?_getD, List.getElem?_eq_getElem (by rw [HCL.out]; exact hlt)]; simp)
              have HYO := Lib.hid (hy.gr HG.out)
              have k0o := HG.out.cell k0
              have k3o := HG.out.cell k3
              have l0o : w.heap.size + 1 < wo.heap.size := World.block_lt_of_cell? _ _ k3o
              have l0o' : w.heap.size < wo.heap.size := by omega
              have HGo := Lib.hid (HX2.out.trans HG.out)
              generalize hS : CS.getD k 0 = S at *
              have HS := Lib.hid hS
              clear hS hcy hy
              go_wp2_with fail
              refine (clone_sets _ o _ (HO.out.gr (HGo.out.trans ((Gr.refl wo).alloc _))) HNE.out (by rw [HOP.out]; omega)).mono ?_
              rintro e w4 ⟨p4, n4, c4, rfl, hx4, how4⟩
              have q19 := hx4.cell (p := ⟨wo.heap.size, 0, none⟩) (v := .slice py ny cy) (by go_simp)
              have HG4 := Lib.hid (((Gr.refl wo).alloc (.cells #[.slice py ny cy] 69)).trans hx4)
              have l19 : wo.heap.size < w4.heap.size := World.block_lt_of_cell? _ _ q19
              have HOW4 := Lib.hid how4
              clear hx4 how4
              go_wp2_with fail
              refine (having_any _ _ m S _ (HV.out.gr (HGo.out.trans (HG4.out.trans ((Gr.refl w4).alloc _)))) HM.out.1.ok ⟨_, rfl, (HYO.out.words.gr HG4.out).gr ((Gr.refl w4).alloc _)⟩ hs64 (HT.out.gr (HGo.out.trans (HG4.out.trans ((Gr.refl w4).alloc _))))).mono ?_
              rintro e w5 ⟨p5, n5, c5, rfl, hv5, hx5⟩
              have l4 : w4.heap.size < w5.heap.size := Nat.lt_of_lt_of_le (by simp) hx5.size
              have r20 := hx5.cell (p := ⟨w4.heap.size, 0, none⟩) (v := .slice p4 n4 c4) (by go_simp)
              have HG5 := Lib.hid (((Gr.refl w4).alloc (.cells #[.slice p4 n4 c4] 71)).trans hx5)
              have HV5 := Lib.hid hv5
              clear hx5 hv5
              go_wp2_with (go_at_call 67; refine (all_any (.slice p5 n5 c5) _).mono ?_; rintro e w6 ⟨rfl, hw6⟩)
              have HG6 := Lib.hid (show Gr w5 w6 by rw [← hw6]; exact (Gr.refl _).alloc _)
              have b6 : w6.cell? ⟨w5.heap.size, 0, none⟩ = some (.slice p5 n5 c5) := by rw [← hw6]; clear hw6; go_simp
              have hsz6 : w6.heap.size = w5.heap.size + 1 := by rw [← hw6]; simp
              clear hw6
              obtain ⟨g, cap, hgs, hg1, hg2, hg3⟩ := own_rows HOW4.out HNE.out
              have HKD := Lib.hid (show ∀ o' u', w4.cell? ⟨g, o', none⟩ = some u' → isSl u' from by
                obtain ⟨xs, _, _, h3, _⟩ := HOW4.out
                rw [hgs] at h3
                exact h3 g rfl)
              rw [HOP.out] at hgs
              simp only [Value.slice.injEq] at hgs
              obtain ⟨e1, e2, e3⟩ := hgs
              have e2' := e2.symm
              have e3' := e3.symm
              subst e1 e2' e3'
              clear e2 e3
              have hg1' : wo.heap.size < g := by simp at hg1; omega
              have HROW := Lib.hid (fun i (hi : i < op) => hg3 i (by rw [HOP.out]; exact hi))
              clear hg3 hg1
              have HG46 := Lib.hid (HG5.out.trans HG6.out)
              have HGo6 := Lib.hid (HG4.out.trans HG46.out)
              have HGw6 := Lib.hid (HGo.out.trans HGo6.out)
              have r20' := HG6.out.cell r20
              have q19' := HG46.out.cell q19
              have hMK6 := HMK.out.gr HGo6.out
              have hs5 : SetV w6 (.agg #[.slice p5 n5 c5]) (m.hav S) := HV5.out.gr HG6.out
              refine wp_rangeSet (B := w5.heap.size) (u := .slice p5 n5 c5) (s := m.hav S) rfl rfl b6 hs5 (hav_lt HM.out.1 S) (HT.out.gr HGw6.out)
                (fun pre W => Gr wo W ∧ MarksAt w2.heap.size W ds ∧ W.cell? ⟨wo.heap.size, 0, none⟩ = some (.slice py ny cy) ∧ Words W (.slice py ny cy) S ∧ W.cell? ⟨w4.heap.size, 0, none⟩ = some (.slice (some ⟨g, 0, none⟩) op cap) ∧
                  ∀ i, i < op → ∃ p n c, W.cell? ⟨g, i, none⟩ = some (.slice p n c) ∧ W.frozen? ⟨g, i, none⟩ = false ∧ Words W (.slice p n c) ((lessL o S (pre.map (·.1))).getD i 0))
                ?hI ⟨HGo6.out, hMK6, q19', (HYO.out.words.gr HGo6.out), r20', ?h0⟩ (fun b => b = g) (by omega) ?hlow ?htl
                (fun z => { tmps := #[.pointer (some ⟨bm, 0, none⟩), .slice (some ⟨bl, ol, none⟩) L cl, .int .i64 (n : Int), .slice po op co, .int .i64 (b : Int), undef, undef, undef, .pointer (some ⟨w.heap.size, 0, none⟩), undef, .int .u8 0, .int .i64 0, .pointer (some ⟨w.heap.size + 1, 0, none⟩), .pointer (some ⟨w.heap.size + 1 + 1, 0, none⟩), undef, undef, undef, .slice (some ⟨bb, oo, none⟩) n2 cc, .int .i64 (k : Int), .pointer (some ⟨wo.heap.size, 0, none⟩), .pointer (some ⟨w4.heap.size, 0, none⟩), .int .i64 ((z.1 : Nat) : Int), u22, u23, .slice (some ⟨bl, ol, none⟩) L cl, .int .i64 (n : Int), .pointer (some ⟨bl, ol + n * 5, none⟩), .agg #[.int .u8 (x.kind : Int), .int .i64 (x.row : Int), .int .i64 (x.col : Int), .slice p1 n2 c1, .slice p2 x.ce.length c2], .func (.func 59) #[] #[.pointer (some ⟨w.heap.size, 0, none⟩)], .pointer (some ⟨w.heap.size + 1, 0, none⟩), .int .u8 (x.kind : Int), .bool false, .bool false, undef, undef, undef, undef, undef, undef, undef, undef, undef, undef, undef, undef, undef, undef, undef, undef, undef, undef, .bool false, .bool false, undef, undef, undef, undef, undef, undef, undef, undef, undef, undef, undef, undef, undef, undef, undef, undef, undef, undef, undef, undef, undef, undef, undef, undef, .func (.func 59) #[] #[.pointer (some ⟨w.heap.size, 0, none⟩)], .pointer (some ⟨w.heap.size + 1, 1, none⟩), .int .i64 (x.row : Int), .pointer (some ⟨w.heap.size + 1, 2, none⟩), .int .i64 (x.col : Int), .bool true, .bool false, undef, .int .i64 (b : Int), .bool (decide ((b : Int) < 1)), undef, .pointer (some ⟨bm, 0, none⟩), .pointer (some ⟨w.heap.size + 1, 1, none⟩), .int .i64 (x.row : Int), .pointer (some ⟨w.heap.size + 1, 2, none⟩), .int .i64 (x.col : Int), .slice (some ⟨bb, oo, none⟩) n2 cc, .slice (some ⟨bb, oo, none⟩) n2 cc, .int .i64 (n2 : Int), .bool false, .bool false, .slice (some ⟨bb, oo, none⟩) n2 cc, .int .i64 (n2 : Int), .pointer (some ⟨w.heap.size + 1, 3, none⟩), .slice p1 n2 c1, .int .i64 (n2 : Int), .bool false, .bool false, undef, .slice (some ⟨bb, oo, none⟩) n2 cc, .int .i64 (n2 : Int), .int .i64 (k : Int), .bool true, .int .i64 (k : Int), .pointer (some ⟨bb, oo + k, none⟩), .agg #[.slice py ny cy], .slice po op co, .slice (some ⟨g, 0, none⟩) op cap, .pointer (some ⟨bm, 0, none⟩), .agg #[.slice py ny cy], .agg #[.slice p5 n5 c5], .func (.func 104) #[] #[.pointer (some ⟨w5.heap.size, 0, none⟩)], .int .i64 ((z.1 : Nat) : Int), u120, u121, u122, u123, u124, u125, u126, u127, u128, u129, u130, u131, u132, u133, u134, u135, u136, u137, u138, u139, u140, u141, u142, u143, u144, u145, u146, u147], defers := [] }) ?assign ?body ?done
              case h0 =>
                intro i hi
                obtain ⟨y, y1, y2, y3⟩ := HROW.out i hi
                obtain ⟨p', n', c', rfl⟩ := y3.slice
                refine ⟨p', n', c', HG46.out.cell y1, HG46.out.frz y1 y2, ?_⟩
                rw [lessL_get _ _ _ _ (by rw [HOP.out]; exact hi), if_neg (by simp)]
                exact y3.gr HG46.out
              case hI =>
                rintro pre A C row ⟨i1, i2, i3, i4, i5, i6⟩ hg hr
                refine ⟨turn_below (by have := HGo6.out.size; omega) hg hr i1, MarksAt.turn hg hr hMK6 (Nat.le_refl _) i2, turn_cell hg hr i3, turn_words hg hr i4, turn_cell hg hr i5, fun i hi => ?_⟩
                obtain ⟨p', n', c', y1, y2, y3⟩ := i6 i hi
                exact ⟨p', n', c', turn_cell hg hr y1, turn_frz hg hr y1 y2, turn_words hg hr y3⟩
              case hlow =>
                intro b' o' c' e eg
                have hw5 := HV5.out.words
                rw [e] at hw5
                rcases hw5 with ⟨_, p', c3, he⟩ | ⟨_, _, b3, o3, c3, he, hcc⟩
                · simp at he
                · simp only [Value.slice.injEq, Option.some.injEq, Addr.mk.injEq] at he
                  obtain ⟨⟨rfl, _⟩, _⟩ := he
                  subst eg
                  have h4 := (Below.cell HG5.out (p := ⟨b', o3, none⟩) hg2).symm.trans hcc
                  obtain ⟨p', n', c4, h⟩ := HKD.out _ _ h4
                  cases h
              case htl =>
                intro e
                have h1 := HT.out.1
                have h2 := HGo.out.size
                omega
              case assign =>
                intro l' z W K hK
                gi_wp2
                exact hK
              case body =>
                rintro l' pre z W ⟨i1, i2, i3, i4, i5, i6⟩ hlen
                have hzl : z.1 < op := by rw [HOL.out]; exact hav_bit m HM.out.1 S z.1 z.2.2
                obtain ⟨pz, nz, cz, z1, z2, z3⟩ := i6 z.1 hzl
                obtain ⟨X, hX⟩ : ∃ X, X = (lessL o S (pre.map (·.1))).getD z.1 0 := ⟨_, rfl⟩
                rw [← hX] at z3
                have HXX := Lib.hid hX
                have HZW := Lib.hid z3
                have HCW := Lib.hid i4
                have HI6 := Lib.hid i6
                have HI1 := Lib.hid i1
                have HI2 := Lib.hid i2
                have j3 : wo.heap.size < W.heap.size := World.block_lt_of_cell? _ _ i3
                have j5 : w4.heap.size < W.heap.size := World.block_lt_of_cell? _ _ i5
                have jg : g < W.heap.size := World.block_lt_of_cell? _ _ z1
                have hmx : Tryd.prog.follows .mixedOrders = true := by kernel_rfl
                clear hX z3 i4 i6 i1 i2 r20 r20' q19 q19' hMK6 b6 k0 k3 k0o k3o hcyo
                gi_wp2_with fail
                refine wpIn_mono (Q := fun e _ w3 => e = .normal ∧ ∃ W3 q1 q2 q3, Gr W W3 ∧ SetV W3 (.agg #[.slice q1 q2 q3]) (minus X S) ∧ w3 = W3.setCell ⟨g, z.1, none⟩ (.slice q1 q2 q3)) ?reg ?post
                case post =>
                  rintro e a' w3 ⟨rfl, W3, q1, q2, q3, hG3, hq, rfl⟩
                  have e1 := hG3.cell z1
                  refine ⟨(gr_keepsFrom _ hG3).trans ((KeepsOthers.setCell _ _ _).from _), ((KeepBut.refl _ W).gr hG3).setCell (by simp) _, (HI1.out.trans hG3).setCell (by simp only []; omega) _, (HI2.out.gr hG3).setCell e1 _, cell?_setCell_ne (hG3.cell i3) (by simp <;> omega), (HCW.out.gr hG3).setCell (by simp) e1 _, cell?_setCell_ne (hG3.cell i5) (by simp <;> omega), fun i hi => ?_⟩
                  have hgl := lessL_get o S (pre.map (·.1)) i (by rw [HOP.out]; exact hi)
                  have hgl2 := lessL_get o S ((pre ++ [z]).map (·.1)) i (by rw [HOP.out]; exact hi)
                  have ho6i : o.getD i 0 < 64 := HO6.out _ (by rw [List.getD_eq_getElem?_getD, List.getElem?_eq_getElem (by rw [HOP.out]; exact hi)]; simp)
                  by_cases hiz : i = z.1
                  · subst hiz
                    refine ⟨q1, q2, q3, World.cell?_setCell_same' _ _ _ (by rw [e1]; rfl), (World.frozen?_setCell _ _ _ _).trans (hG3.frz z1 z2), ?_⟩
                    rw [hgl2, if_pos (by simp)]
                    have hXe : minus X S = minus (o.getD z.1 0) S := by
                      rw [HXX.out, hgl]
                      split
                      · exact minus_idem _ ho6i _ hs64
                      · rfl
                    rw [← hXe]
                    exact hq.words.setCell (by simp) e1 _
                  · obtain ⟨p', n', c', y1, y2, y3⟩ := HI6.out i hi
                    refine ⟨p', n', c', cell?_setCell_ne (hG3.cell y1) (by simp <;> omega), (World.frozen?_setCell _ _ _ _).trans (hG3.frz y1 y2), ?_⟩
                    rw [hgl2]
                    rw [hgl] at y3
                    have hm : (i ∈ (pre ++ [z]).map (·.1)) ↔ i ∈ pre.map (·.1) := by simp [hiz]
                    by_cases hip : i ∈ pre.map (·.1)
                    · rw [if_pos (hm.2 hip)]
                      rw [if_pos hip] at y3
                      exact (y3.gr hG3).setCell (by simp) e1 _
                    · rw [if_neg (fun h => hip (hm.1 h))]
                      rw [if_neg hip] at y3
                      exact (y3.gr hG3).setCell (by simp) e1 _
                case reg =>
                  refine region_in (fun W' => W'.cell? ⟨w4.heap.size, 0, none⟩ = some (.slice (some ⟨g, 0, none⟩) op cap) ∧ W'.cell? ⟨wo.heap.size, 0, none⟩ = some (.slice py ny cy)) hmx (by kernel_rfl) (fun ⟨_, _, h, _⟩ => by cases h) ⟨i5, i3⟩ (fun hh => ?_)
                  refine wpAnyH_take (i := 1) (v := .int .i64 ((z.1 : Nat) : Int)) rfl (by kernel_rfl) (by kernel_rfl) (by kernel_rfl) (fun _ _ _ h => h) (Or.inl ⟨by rfl, by intro w' hSw; (try dsimp only at hSw); go_simp⟩) (by assumption) ?_
                  simp only [Act.put, List.setIfInBounds_toArray, List.set_cons_zero, List.set_cons_succ]
                  refine wpAnyH_take (i := 3) (v := .int .i64 ((z.1 : Nat) : Int)) rfl (by kernel_rfl) (by kernel_rfl) (by kernel_rfl) (fun _ _ _ h => h) (Or.inl ⟨by rfl, by intro w' hSw; (try dsimp only at hSw); go_simp⟩) (by assumption) ?_
                  simp only [Act.put, List.setIfInBounds_toArray, List.set_cons_zero, List.set_cons_succ]
                  refine wpAnyH_take (i := 0) (v := .slice (some ⟨g, 0, none⟩) op cap) rfl (by kernel_rfl) (by kernel_rfl) (by kernel_rfl) (fun _ _ _ h => h) (Or.inl ⟨by rfl, by intro w' hSw; (try dsimp only at hSw); go_simp⟩) (by assumption) ?_
                  simp only [Act.put, List.setIfInBounds_toArray, List.set_cons_zero, List.set_cons_succ]
                  refine wpAnyH_take (i := 2) (v := .slice (some ⟨g, 0, none⟩) op cap) rfl (by kernel_rfl) (by kernel_rfl) (by kernel_rfl) (fun _ _ _ h => h) (Or.inl ⟨by rfl, by intro w' hSw; (try dsimp only at hSw); go_simp⟩) (by assumption) ?_
                  simp only [Act.put, List.setIfInBounds_toArray, List.set_cons_zero, List.set_cons_succ]
                  refine wpAnyH_take (i := 4) (v := .pointer (some ⟨g, z.1, none⟩)) rfl (by kernel_rfl) (by kernel_rfl) (by kernel_rfl) (fun _ _ _ h => h) (Or.inl ⟨by rfl, by intro w' hSw; (try dsimp only at hSw); go_simp⟩) (by assumption) ?_
                  simp only [Act.put, List.setIfInBounds_toArray, List.set_cons_zero, List.set_cons_succ]
                  refine wpAnyH_take (i := 6) (v := .agg #[.slice py ny cy]) rfl (by kernel_rfl) (by kernel_rfl) (by kernel_rfl) (fun _ _ _ h => h) (Or.inl ⟨by rfl, by intro w' hSw; (try dsimp only at hSw); go_simp⟩) (by assumption) ?_
                  simp only [Act.put, List.setIfInBounds_toArray, List.set_cons_zero, List.set_cons_succ]
                  refine wpAnyH_ready (rs := [5]) (by kernel_rfl) (by simp) ?_
                  refine AllReadyH.cons rfl (fun K hK => ?_) AllReadyH.nil
                  go_simp
                  refine hK.out _ _ hh (fun hh => ?_)
                  clear hK K
                  try simp only [Act.put, List.setIfInBounds_toArray, List.set_cons_zero, List.set_cons_succ]
                  refine wpAnyH_ready (rs := [7]) (by kernel_rfl) (by simp) ?_
                  refine AllReadyH.cons rfl (fun K hK => ?_) AllReadyH.nil
                  go_simp
                  refine (minus_any _ _ X S _ ⟨_, rfl, HZW.out.gr (Gr.refl W).drew⟩ ⟨_, rfl, HCW.out.gr (Gr.refl W).drew⟩).mono ?_
                  rintro e w' ⟨q1, q2, q3, rfl, hq, hxq⟩
                  have hxq' := hxq.gr; have z1' := hxq'.cell z1; have z2' := hxq'.frz z1 z2
                  refine hK.out _ _ ⟨hxq'.cell hh.1, hxq'.cell hh.2⟩ (fun hh => ?_)
                  clear hK K
                  try simp only [Act.put, List.setIfInBounds_toArray, List.set_cons_zero, List.set_cons_succ]
                  refine wpAnyH_take (i := 8) (v := .pointer (some ⟨g, z.1, none⟩)) rfl (by kernel_rfl) (by kernel_rfl) (by kernel_rfl) (fun _ _ _ h => h) (Or.inl ⟨by rfl, by intro w' hSw; (try dsimp only at hSw); go_simp⟩) (by assumption) ?_
                  simp only [Act.put, List.setIfInBounds_toArray, List.set_cons_zero, List.set_cons_succ]
                  refine wpAnyH_ready (rs := [9]) (by kernel_rfl) (by simp) ?_
                  refine AllReadyH.cons rfl (fun K hK => ?_) AllReadyH.nil
                  go_simp
                  refine hK.out _ _ ⟨cell?_setCell_ne hh.1 (by simp <;> omega), cell?_setCell_ne hh.2 (by simp <;> omega)⟩ (fun hh => ?_)
                  clear hK K
                  try simp only [Act.put, List.setIfInBounds_toArray, List.set_cons_zero, List.set_cons_succ]
                  refine wpAnyH_done (by kernel_rfl) ?_ _
                  exact ⟨rfl, _, q1, q2, q3, (Gr.refl W).drew.trans hxq', hq, rfl⟩
              case done =>
                rintro D xs W hD hxs ⟨i1, i2, i3, i4, i5, i6⟩ hK
                rw [hxs] at i6
                rw [lessL_all m o S (by rw [HOP.out]; exact hos)] at i6
                have hlen2 : (lessOf m o S).length = op := by simp [lessOf, HOP.out]
                have HLS := Lib.hid (show Sets W (.slice (some ⟨g, 0, none⟩) op cap) (lessOf m o S) from by
                  refine .inr ⟨fun h => ?_, g, 0, cap, by rw [hlen2], fun i hi => ?_⟩
                  · rw [h] at hlen2; have := HOP.out; rw [← hlen2] at this; exact HNE.out (List.eq_nil_of_length_eq_zero this)
                  · obtain ⟨p', n', c', y1, y2, y3⟩ := i6 i (by rw [← hlen2]; exact hi)
                    exact ⟨_, by rw [Nat.zero_add]; exact y1, y3⟩)
                have HLN2 := Lib.hid (show (lessOf m o S).length = m.rows.length from by rw [hlen2, HOL.out])
                have HLL2 := Lib.hid (lessOf_lt m o S HO6.out)
                have HM4 := Lib.hid (MarksAt.cons i2 hMK6 hD (by have := HG.out.size; have := HGo6.out.size; omega) hK)
                have HGW := Lib.hid (HGo.out.trans i1)
                have HG1 := Lib.hid i1
                have e3 := i1.cell k3o
                rcases H6.out with ⟨he, _⟩ | ⟨hne1, b1, o1, c1', hsl1, hcell1⟩
                · have := HCN.out; rw [he] at this; simp at this; omega
                · simp only [Value.slice.injEq] at hsl1
                  obtain ⟨rfl, -, rfl⟩ := hsl1
                  have hcY := HGW.out.cell (hcell1 k (by rw [HCN.out]; exact hlt))
                  have hYm : x.ch.getD k 0 ∈ x.ch := by rw [List.getD_eq_getElem?_getD, List.getElem?_eq_getElem (by rw [HCN.out]; exact hlt)]; simp
                  have hY7 := HW7.out _ hYm
                  have hdz : (x.ch.zip CS).drop k = (x.ch.getD k 0, S) :: (x.ch.zip CS).drop (k + 1) := by
                    have hl1 : k < x.ch.length := by rw [HCN.out]; exact hlt
                    have hl2 : k < CS.length := by rw [HCL.out]; exact hlt
                    rw [List.drop_eq_getElem_cons (by rw [List.length_zip]; omega), List.getElem_zip]
                    rw [show x.ch.getD k 0 = x.ch[k] from by simp [List.getD, List.getElem?_eq_getElem hl1], show S = CS[k] from by rw [← HS.out]; simp [List.getD, List.getElem?_eq_getElem hl2]]
                  have hrk := HRUN.out
                  rw [hdz] at hrk
                  generalize x.ch.getD k 0 = Y at *
                  have hYl : Y < l.length := by rw [HLL.out]; exact hY7.2
                  have hYf : l.length - Y ≤ f := by have := HF.out; have := hY7.1; have := HLL.out; omega
                  obtain ⟨b', hb'⟩ : ∃ b', b' = b - 1 := ⟨_, rfl⟩
                  have hbm : (b : Int) - 1 = (b' : Int) := by omega
                  have hwr : IntKind.i64.wrap (b' : Int) = (b' : Int) := by rw [IntKind.wrap_i64]; omega
                  simp only [runKids] at hrk
                  rw [← hb'] at hrk
                  have hb9 : b' < 1000 := by omega
                  have HB' := Lib.hid hb'
                  obtain ⟨r, hr0⟩ : ∃ r, r = nodeF m l f Y (lessOf m o S) b' := ⟨_, rfl⟩
                  rw [← hr0] at hrk
                  have HRK := Lib.hid hrk
                  have HIF := Lib.hid (show ∀ W' : World, Gr W W' → Calls Tryd.prog 28 #[.pointer (some ⟨bm, 0, none⟩), .slice (some ⟨bl, ol, none⟩) L cl, .int .i64 (Y : Int), .slice (some ⟨g, 0, none⟩) op cap, .int .i64 (b' : Int)] W' (RetFlaw r W') from
                    fun W' h => by rw [hr0]; exact HIH.out Y (lessOf m o S) b' _ _ _ _ (HV.out.gr (HGW.out.trans h)) (HL.out.gr (HGW.out.trans h)) (HLS.out.gr h) HLN2.out HLL2.out hYl hYf hb9 (HT.out.gr (HGW.out.trans h)))
                  have lW3 : w.heap.size + 1 < W.heap.size := World.block_lt_of_cell? _ _ e3
                  clear hrk hdz hYm hr0 hb' hcell1 i1 i2 i3 i4 i6 hK r20 r20' q19 q19' hMK6 b6 k0 k3 k0o k3o hcyo
                  go_wp2_with fail
                  go_region_held3 (fun w' => Gr W w' ∧ w'.cell? ⟨w.heap.size + 1, 3, none⟩ = some (.slice (some ⟨b1, o1, none⟩) n2 c1) ∧ w'.cell? ⟨b1, o1 + k, none⟩ = some (.int .i64 (Y : Int)) ∧ w'.cell? ⟨w4.heap.size, 0, none⟩ = some (.slice (some ⟨g, 0, none⟩) op cap))
                    (first | exact ⟨(Gr.refl W).drew, e3, hcY, i5⟩ | (have hh := ‹Gr W _ ∧ _ ∧ _ ∧ _›; exact ⟨hh.1.trans hx1, hx1.cell hh.2.1, hx1.cell hh.2.2.1, hx1.cell hh.2.2.2⟩) | (have hh := ‹Gr W _ ∧ _ ∧ _ ∧ _›; exact ⟨(hh.1).setCell (by simp only []; omega) _, cell?_setCell_ne (hh.2.1) (by simp <;> omega), cell?_setCell_ne (hh.2.2.1) (by simp <;> omega), cell?_setCell_ne (hh.2.2.2) (by simp <;> omega)⟩))
                    (first | (go_at_call 28; have hh := ‹Gr W _ ∧ _ ∧ _ ∧ _›; (with_reducible refine (HIF.out _ hh.1).mono ?_); rintro e w1 ⟨rfl, hx1⟩))
                  have HGf := Lib.hid ((Gr.refl W).drew.trans hx1)
                  clear hx1 hh e3 hcY i5
                  by_cases hr1 : r.1 = 1
                  · have hne : ((r.1 : Int) != 1) = false := by rw [hr1]; rfl
                    have hrk := HRK.out
                    rw [if_pos hr1] at hrk
                    have HRK2 := Lib.hid hrk
                    clear hrk hr1
                    go_wp2
                    refine HK.out _ _ ⟨_, _, _, _, _, _, _, _, _, _, _, _, _, _, _, _, _, _, _, _, _, _, _, _, _, _, _, _, _, _, _, _, _, _, _, _, _, _, _, _, _, _, _, _, _, _, k + 1, by rw [show ((k + 1 : Nat) : Int) = (k : Int) + 1 from by omega], by omega, HG.out.trans (HG1.out.trans HGf.out), HM4.out.gr HGf.out, by rw [← HB'.out]; exact HRK2.out⟩ ?_
                    simp [intOf]; omega
                  · have hne : ((r.1 : Int) != 1) = true := by simp; omega
                    have hrk := HRK.out
                    rw [if_neg hr1] at hrk
                    have HRK2 := Lib.hid hrk
                    clear hrk hr1
                    go_wp2
                    refine ret_marks (HM4.out.gr HGf.out) HX2.out.size (HGW.out.trans HGf.out) (fun w' _ => results_tmp2 rfl _ _ _) (fun w' h _ => ⟨?_, h⟩)
                    rw [HR.out, ← HB'.out, ← HRK2.out]
                    rfl
            · obtain rfl : k = n2 := by omega
              have hfin : (x.ch.zip CS).drop k = [] := List.drop_of_length_le (by rw [List.length_zip, HCN.out, HCL.out]; omega)
              have hr2 := HRUN.out
              rw [hfin] at hr2
              have HR2 := Lib.hid hr2
              clear hfin hr2
              go_wp2
              refine ret_marks HMK.out (HX2.out.size) (HX2.out.trans HG.out) (fun w' _ => results_tmp2 rfl _ _ _) (fun w' h _ => ⟨?_, h⟩)
              rw [HR.out, ← HR2.out]
              rfl
        · have hr := HBR.out
          rw [if_pos (.inr hne)] at hr
          have HR := Lib.hid hr
          have hz1 : ((n2 : Int) != (cn : Int)) = true := by simp; omega
          clear hr hz hne
          go_wp2
          exact ret_marks (MarksAt.nil _ _) (Nat.le_refl _) HX2.out (fun w' _ => results_tmp2 rfl _ _ _) (fun w' h _ => ⟨by rw [HR.out]; rfl, h⟩)

/-- rank.node -/
theorem node_any (m : Mat) (l : List Nd) (hm : m.good) (hll : l.length ≤ 5000) (hw : ∀ i, i < l.length → wellNode l i (l.getD i default)) : ∀ f, NodeOk m l f := by
  intro f
  induction f with
  | zero => intro n o b v v2 v3 w _ _ _ _ _ hn hf; omega
  | succ f ih =>
    intro n o b v v2 v3 w hv hl ho hol ho6 hn hf hb ht
    have hos : o.length < 1000 := by have := hm.1.2; omega
    by_cases h2 : (l.getD n default).kind = 2
    · have e : nodeF m l (f + 1) n o b = foolFlaw m (l.getD n default) n o b := by simp only [nodeF]; rw [if_pos h2]
      rw [e]
      exact node_fool v v2 v3 m l n b o _ w hv hm hl hll ho hos hn rfl (hw n hn) h2 hb
    · by_cases h3 : (l.getD n default).kind = 3
      · have e : nodeF m l (f + 1) n o b = countFlaw m n o b := by simp only [nodeF]; rw [if_neg h2, if_pos h3]
        rw [e]
        exact node_count v v2 v3 m l n b o _ w hv hm hl hll ho hol ho6 hn rfl (hw n hn) h3 hb ht
      · have e : nodeF m l (f + 1) n o b = branchF m (fun c o' => nodeF m l f c o' (b - 1)) (l.getD n default) n o b := by simp only [nodeF, branchF]; rw [if_neg h2, if_neg h3]
        rw [e]
        exact node_branch v v2 v3 m l f n b o _ w hv hm hl hll ho hol ho6 hn hf rfl (hw n hn) h2 h3 hb ht ih
end Go.Proofs.YtcmlhpodghfheaaDoor

namespace Go.Proofs.YtcmlhpodghfheaaDoor
open Go.RowKit Go.Shelf

theorem kids_well (n L : Nat) : ∀ (ch cl cl' : List Nat), kids n L cl ch = some cl' → ∀ c ∈ ch, n < c ∧ c < L
  | [], _, _, _, c, hc => by simp at hc
  | a :: r, cl, cl', h, c, hc => by
    unfold kids at h
    split at h
    · cases h
    · rename_i hn
      rcases List.mem_cons.1 hc with rfl | hc
      · constructor <;> (refine Nat.lt_of_not_le fun h' => hn ?_)
        · exact .inl h'
        · exact .inr (.inl h')
      · exact kids_well n L r _ _ h c hc
theorem form_well (L : Nat) : ∀ (r : List Nd) (n : Nat) (cl : List Nat), formFrom L n cl r = -1 → ∀ j, j < r.length → ∀ c ∈ (r.getD j default).ch, n + j < c ∧ c < L
  | [], _, _, _, j, hj => by simp at hj
  | x :: r, n, cl, h, j, hj => by
    unfold formFrom at h
    split at h
    · omega
    · split at h
      · omega
      · rename_i cl' hk
        cases j with
        | zero => simpa using kids_well n L x.ch cl cl' hk
        | succ j =>
          have := form_well L r (n + 1) cl' h j (by simpa using hj)
          intro c hc
          have h2 := this c (by simpa using hc)
          omega
theorem form_range (L : Nat) : ∀ (r : List Nd) (n : Nat) (cl : List Nat), formFrom L n cl r = -1 ∨ ∃ k : Nat, formFrom L n cl r = (k : Int)
  | [], _, _ => .inl rfl
  | x :: r, n, cl => by
    unfold formFrom
    split
    · exact .inr ⟨n, rfl⟩
    · split
      · exact .inr ⟨n, rfl⟩
      · exact form_range L r _ _

/-- Nodes with small numbers. -/
def smallNds (l : List Nd) : Prop := ∀ x ∈ l, x.kind < 256 ∧ x.row < 64 ∧ x.col < 64 ∧ x.ch.length < 1000000 ∧ x.ce.length < 1000 ∧ (∀ c ∈ x.ce, c.1 < 64 ∧ c.2 < 64) ∧ ∀ c ∈ x.ch, c < 1000000

/-- What rank.Check answers. -/
def checkF (m : Mat) (size : Int) (l : List Nd) : Nat × Nat :=
  if size < 0 ∨ 256 < size ∨ l.length < 1 ∨ 5000 < l.length then (2, 0)
  else if 0 ≤ formFrom l.length 0 [] l then (2, (formFrom l.length 0 [] l).toNat)
  else if size = 0 then (1, 0)
  else nodeF m l l.length 0 m.rows (size - 1).toNat

/-- The struct value v is a proof. -/
def PfV (w : World) (v : Value) (size : Int) (l : List Nd) : Prop := ∃ u, v = .agg #[.int .i64 size, u] ∧ Nds w u l

set_option maxHeartbeats 2000000 in
/-- rank.Check -/
theorem check_any (v v2 : Value) (m : Mat) (size : Int) (l : List Nd) (w : World) (hv : MatV w v m) (hm : m.good) (hp : PfV w v2 size l) (hs : smallNds l) (hl : l.length < 1000000) (hz : -9223372036854775808 ≤ size ∧ size ≤ 9223372036854775807) (ht : TabOk w) :
    Calls Tryd.prog 8 #[v, v2] w (RetFlaw (checkF m size l) w) := by
  obtain ⟨u, rfl, hu⟩ := hp
  have HV := Lib.hid hv
  have HM := Lib.hid hm
  have HT := Lib.hid ht
  have HU := Lib.hid hu
  have HS := Lib.hid hs
  obtain ⟨pl, cl, rfl⟩ := hu.slice
  obtain ⟨bm, um, rfl, _, _, _⟩ := hv
  have hcf : checkF m size l = (if size < 0 ∨ 256 < size ∨ l.length < 1 ∨ 5000 < l.length then (2, 0)
    else if 0 ≤ formFrom l.length 0 [] l then (2, (formFrom l.length 0 [] l).toNat)
    else if size = 0 then (1, 0)
    else nodeF m l l.length 0 m.rows (size - 1).toNat) := rfl
  generalize hL : l.length = L at *
  have HL := Lib.hid hL
  have HCF := Lib.hid hcf
  clear hm ht hu hs hL hcf
  by_cases c1 : size < 0
  · have hr := HCF.out
    rw [if_pos (.inl c1)] at hr
    have HR := Lib.hid hr
    clear hr
    go_enter Tryd.func8, Tryd.ntmps8
    go_wp2
    go_ret2
    exact ⟨by rw [show checkF m size l = (2, 0) from HR.out]; rfl, (Gr.refl _).alloc _⟩
  by_cases c2 : 256 < size
  · have hr := HCF.out
    rw [if_pos (.inr (.inl c2))] at hr
    have HR := Lib.hid hr
    clear hr
    go_enter Tryd.func8, Tryd.ntmps8
    go_wp2
    go_ret2
    exact ⟨by rw [show checkF m size l = (2, 0) from HR.out]; rfl, (Gr.refl _).alloc _⟩
  by_cases c3 : (L : Int) < 1
  · have hr := HCF.out
    rw [if_pos (.inr (.inr (.inl (by omega))))] at hr
    have HR := Lib.hid hr
    clear hr
    go_enter Tryd.func8, Tryd.ntmps8
    go_wp2
    go_ret2
    exact ⟨by rw [show checkF m size l = (2, 0) from HR.out]; rfl, (Gr.refl _).alloc _⟩
  by_cases c4 : (5000 : Int) < L
  · have hr := HCF.out
    rw [if_pos (.inr (.inr (.inr (by omega))))] at hr
    have HR := Lib.hid hr
    clear hr
    go_enter Tryd.func8, Tryd.ntmps8
    go_wp2
    go_ret2
    exact ⟨by rw [show checkF m size l = (2, 0) from HR.out]; rfl, (Gr.refl _).alloc _⟩
  have hr := HCF.out
  rw [if_neg (by omega)] at hr
  have HCF2 := Lib.hid hr
  clear hr
  go_enter Tryd.func8, Tryd.ntmps8
  go_wp2_with fail
  have hX : Gr w (w.alloc (.cells #[.int .i64 size, .slice pl L cl] 48)) := (Gr.refl _).alloc _
  refine (form_any _ l _ (HU.out.gr hX) (by rw [HL.out]; omega) (fun x hx => (HS.out x hx).1) (fun x hx => ⟨(HS.out x hx).2.2.2.1, (HS.out x hx).2.2.2.2.2.2⟩)).mono ?_
  rintro e w1 ⟨rfl, hx1⟩
  have g0 := hx1.cell (p := ⟨w.heap.size, 0, none⟩) (v := .int .i64 size) (by go_simp)
  have g1 := hx1.cell (p := ⟨w.heap.size, 1, none⟩) (v := .slice pl L cl) (by go_simp)
  have HX1 := Lib.hid (hX.trans hx1)
  have lw1 : w.heap.size < w1.heap.size := World.block_lt_of_cell? _ _ g0
  have hfr := form_range l.length l 0 []
  rw [HL.out] at hfr ⊢
  have hwell : formFrom L 0 [] l = -1 → ∀ i, i < l.length → wellNode l i (l.getD i default) := by
    intro h i hi
    have hm : l.getD i default ∈ l := by rw [List.getD_eq_getElem?_getD, List.getElem?_eq_getElem hi]; simp
    obtain ⟨a1, a2, a3, a4, a5, a6, a7⟩ := HS.out _ hm
    refine ⟨a1, a2, a3, a4, a5, a6, fun c hc => ?_⟩
    have := form_well L l 0 [] h i hi c hc
    rw [HL.out]
    omega
  have HW := Lib.hid hwell
  clear hX hx1 hwell
  generalize hF : formFrom L 0 [] l = F at *
  rcases hfr with rfl | ⟨k, rfl⟩
  · by_cases c5 : size = 0
    · have hr := HCF2.out
      rw [if_neg (by omega), if_pos c5] at hr
      have HR := Lib.hid hr
      clear hr
      have c6 : (size == 0) = true := by simpa using c5
      go_wp2
      go_ret2
      exact ⟨by rw [show checkF m size l = (1, 0) from HR.out]; rfl, HX1.out⟩
    · have hr := HCF2.out
      rw [if_neg (by omega), if_neg c5] at hr
      have HR := Lib.hid hr
      clear hr
      have c6 : (size == 0) = false := by simpa using c5
      obtain ⟨s, hsz⟩ : ∃ s : Nat, s = (size - 1).toNat := ⟨_, rfl⟩
      have hsz2 : size - 1 = (s : Int) := by omega
      have hs9 : s < 1000 := by omega
      rw [← hsz] at HR
      clear hsz
      obtain ⟨R, hR⟩ : ∃ R, R = m.rows.length := ⟨_, rfl⟩
      have HRL := Lib.hid hR
      have hR6 : R ≤ 6 := by rw [hR]; exact HM.out.1.2
      clear hR
      go_wp2_with (go_at_call 26; refine (rows_any _ m _ (HV.out.gr HX1.out) HM.out.1.ok).mono ?_; rintro e w' ⟨rfl, rfl⟩; rw [← HRL.out])
      go_loopw [7, 8, 44] (fun o _ i wr => ∃ k : Nat, k ≤ R ∧ i = .int .i64 k ∧ Gr w1 wr ∧ OwnSets wr w1.heap.size o (m.rows.take k)) (fun _ _ i _ => R - (intOf i).toNat)
      case atStart => exact ⟨0, Nat.zero_le _, rfl, Gr.refl _, by simpa using OwnSets.nil _ _⟩
      case round =>
        obtain ⟨k, hk, rfl, hG, hown⟩ := hrel
        have HG := Lib.hid hG
        have HO := Lib.hid hown
        clear hG hown
        by_cases hlt : k < R
        · go_wp2_with fail
          refine (row_any _ m k _ (HV.out.gr (HX1.out.trans HG.out)) HM.out.1.ok (by omega)).mono ?_
          rintro e w2 ⟨p2, n2, c2, rfl, hv2, hx2⟩
          have HG2 := Lib.hid (HG.out.trans hx2)
          have HO2 := Lib.hid (HO.out.gr hx2)
          have HW2 := Lib.hid hv2.words
          have htk : m.rows.take (k + 1) = m.rows.take k ++ [m.rows.getD k 0] := by
            have hl : k < m.rows.length := by rw [← HRL.out]; exact hlt
            rw [List.take_succ_eq_append_getElem hl]; simp [List.getD, List.getElem?_eq_getElem hl]
          have HTK := Lib.hid htk
          clear hx2 hv2 htk
          go_wp2_with (at_builtin; refine wpl_append_set rfl _ _ rfl w1.heap.size u7 (.slice p2 n2 c2) (m.rows.take k) (m.rows.getD k 0) rfl HO2.out HW2.out HG2.out.size (by simp; omega) rfl ?_)
          intro v' w3 hown' hg'
          have HG3 := Lib.hid (appS_gr HG2.out HO2.out (Nat.le_refl _) hg')
          have HO3 := Lib.hid hown'
          clear hown' hg'
          go_wp2
          go_roundw
          case rel => exact ⟨k + 1, by omega, by go_num, HG3.out, by rw [HTK.out]; exact HO3.out⟩
          case measure => simp [intOf]; omega
        · obtain rfl : k = R := by omega
          have hall : m.rows.take k = m.rows := List.take_of_length_le (by rw [HRL.out]; exact Nat.le_refl _)
          have hsets := HO.out.sets
          rw [hall] at hsets
          have HSE := Lib.hid hsets
          have hrl : ∀ x ∈ m.rows, x < 64 := fun x hx => by
            obtain ⟨i, hi, rfl⟩ := List.getElem_of_mem hx
            have := HM.out.row i
            simpa [List.getD, List.getElem?_eq_getElem hi] using this
          have HRR := Lib.hid hrl
          have g0' := HG.out.cell g0
          have g1' := HG.out.cell g1
          have HGG := Lib.hid (HX1.out.trans HG.out)
          have hwl := HW.out (by first | trivial | rfl)
          have HWL := Lib.hid hwl
          have hll : l.length ≤ 5000 := by rw [HL.out]; omega
          have lwr : w.heap.size < wr.heap.size := World.block_lt_of_cell? _ _ g0'
          have hwr2 : IntKind.i64.wrap (s : Int) = (s : Int) := by rw [IntKind.wrap_i64]; omega
          clear hall hsets hrl hwl g0 g1
          go_wp2_with fail
          refine (node_any m l HM.out hll HWL.out L 0 m.rows s _ _ _ _ (HV.out.gr HGG.out) (HU.out.gr HGG.out) HSE.out rfl HRR.out (by rw [HL.out]; omega) (by rw [HL.out]; omega) hs9 (HT.out.gr HGG.out)).mono ?_
          rintro e w2 ⟨rfl, hx2⟩
          have HG2 := Lib.hid (HGG.out.trans hx2)
          have hrr := HR.out

          have HRR2 := Lib.hid hrr
          clear hx2 hrr
          generalize nodeF m l L 0 m.rows s = r at *
          go_wp2
          go_ret2
          exact ⟨by rw [show checkF m size l = r from HRR2.out]; rfl, HG2.out⟩
  · have hr := HCF2.out
    rw [if_pos (by omega)] at hr
    have HR := Lib.hid hr
    clear hr
    go_wp2
    go_ret2
    exact ⟨by rw [show checkF m size l = (2, (k : Int).toNat) from HR.out]; rfl, HX1.out⟩
end Go.Proofs.YtcmlhpodghfheaaDoor

namespace Go.Proofs.YtcmlhpodghfheaaDoor

/-- Nodes whose children point forward: both checks answer alike. -/
theorem check_eq {m : Mat} (hm : m.good) (size : Int) {l : List Nd} (hf : ∀ i, i < l.length → ∀ c ∈ (l.getD i default).ch, i < c) : checkF m size l = rcheckF m size l := by
  have hfe := form_eq hf l.length 0 [] (by omega) (fun c => by simp)
  rw [List.drop_zero] at hfe
  unfold checkF rcheckF
  rw [hfe]
  by_cases c1 : size < 0 ∨ 256 < size ∨ l.length < 1 ∨ 5000 < l.length
  · rw [if_pos c1, if_pos c1]
  rw [if_neg c1, if_neg c1]
  by_cases c2 : 0 ≤ wrongFrom l l.length 0
  · rw [if_pos c2, if_pos c2]
  rw [if_neg c2, if_neg c2]
  have hform : formFrom l.length 0 [] l = -1 := by
    rcases form_range l.length l 0 [] with h | ⟨k, h⟩
    · exact h
    · rw [← hfe, h] at c2; omega
  have hwell := form_well l.length l 0 [] hform
  have hkinds := form_kinds l.length l 0 [] hform
  by_cases c3 : size = 0
  · rw [if_pos c3, if_pos c3]
  rw [if_neg c3, if_neg c3]
  have hrl : ∀ x ∈ m.rows, x < 64 := fun x hx => by
    have h1 := hm.2 x hx
    have h2 := (pow6 hm.1).1
    omega
  refine (node_eq hm (fun i hi => ?_) _ _ _ _ hrl rfl (fun i j h => h) (by omega)).symm
  have hmem : l.getD i default ∈ l := by rw [List.getD_eq_getElem?_getD, List.getElem?_eq_getElem hi]; simp
  have := hkinds _ hmem
  exact ⟨this.1, this.2, fun c hc => (hwell i hi c hc).2⟩
end Go.Proofs.YtcmlhpodghfheaaDoor
