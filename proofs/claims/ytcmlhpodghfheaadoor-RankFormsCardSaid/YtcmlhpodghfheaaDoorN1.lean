/- rank.node: leaves. -/
import Derived.Test.YtcmlhpodghfheaaDoorG1
import Derived.Test.YtcmlhpodghfheaaDoorH1
import Derived.Test.YtcmlhpodghfheaaDoorK1
import Derived.Test.YtcmlhpodghfheaaDoorF1
import Derived.Test.YtcmlhpodghfheaaDoorL1
import Derived.Laws.EntriesVeiled
set_option linter.unusedSimpArgs false
set_option linter.unusedVariables false
namespace Go.Proofs.YtcmlhpodghfheaaDoor
open Go.RowKit Go.Shelf

/-- What is left open behind a concept. -/
def lessOf (m : Mat) (o : List Nat) (s : Nat) : List Nat := (List.range o.length).map fun i => if (m.hav s).testBit i then minus (o.getD i 0) s else o.getD i 0
def runKids (g : Nat → List Nat → Nat × Nat) (m : Mat) (o : List Nat) : List (Nat × Nat) → Nat × Nat
  | [] => (1, 0)
  | (c, s) :: r => if (g c (lessOf m o s)).1 = 1 then runKids g m o r else g c (lessOf m o s)
def sumPop (o : List Nat) : Nat := o.foldl (fun n s => n + pop s) 0
def foolFlaw (m : Mat) (x : Nd) (n : Nat) (o : List Nat) (b : Nat) : Nat × Nat := if x.ce.any (fun c => !isOpen o c.1 c.2) then (3, n) else if x.ce.length ≤ b ∨ m.apart x.ce = false then (5, n) else (1, 0)
def countFlaw (m : Mat) (n : Nat) (o : List Nat) (b : Nat) : Nat × Nat := if sumPop o ≤ b * m.great o (2 ^ m.cols) then (5, n) else (1, 0)
/-- The first flaw of a node and those below it. -/
def nodeF (m : Mat) (l : List Nd) : Nat → Nat → List Nat → Nat → Nat × Nat
  | 0, _, _, _ => (1, 0)
  | f + 1, n, o, b =>
    if (l.getD n default).kind = 2 then foolFlaw m (l.getD n default) n o b
    else if (l.getD n default).kind = 3 then countFlaw m n o b
    else if isOpen o (l.getD n default).row (l.getD n default).col = false then (3, n)
    else if b < 1 then (5, n)
    else if m.cons (l.getD n default).row (l.getD n default).col = [] ∨ (m.cons (l.getD n default).row (l.getD n default).col).length ≠ (l.getD n default).ch.length then (4, n)
    else runKids (fun c o' => nodeF m l f c o' (b - 1)) m o ((l.getD n default).ch.zip (m.cons (l.getD n default).row (l.getD n default).col))

/-- Nodes of a small proof, whose children come behind them. -/
def wellNode (l : List Nd) (i : Nat) (x : Nd) : Prop := x.kind < 256 ∧ x.row < 64 ∧ x.col < 64 ∧ x.ch.length < 1000000 ∧ x.ce.length < 1000 ∧ (∀ c ∈ x.ce, c.1 < 64 ∧ c.2 < 64) ∧ ∀ c ∈ x.ch, i < c ∧ c < l.length

def RetFlaw (r : Nat × Nat) (w : World) (e : Ending) (w' : World) : Prop := e = .returned (.tuple #[.int .u8 ((r.1 : Nat) : Int), .int .i64 ((r.2 : Nat) : Int)]) ∧ Gr w w'

set_option maxHeartbeats 1000000 in
theorem node_fool (v v2 v3 : Value) (m : Mat) (l : List Nd) (n b : Nat) (o : List Nat) (x : Nd) (w : World) (hv : MatV w v m) (hm : m.good) (hl : Nds w v2 l) (hll : l.length ≤ 5000) (ho : Sets w v3 o) (hol : o.length < 1000) (hn : n < l.length) (hx : l.getD n default = x) (hw : wellNode l n x) (hk : x.kind = 2) (hb : b < 1000) :
    Calls Tryd.prog 28 #[v, v2, .int .i64 (n : Int), v3, .int .i64 (b : Int)] w (RetFlaw (foolFlaw m x n o b) w) := by
  rcases hl with ⟨rfl, _⟩ | ⟨_, bl, ol, cl, rfl, hcell⟩
  · simp at hn
  have hc := hcell n hn
  rw [hx] at hc
  obtain ⟨p1, c1, p2, c2, h1, h2, h3, h4, h5, h6, h7⟩ := hc
  have hbl := World.block_lt_of_cell? _ _ h1
  simp only [] at hbl
  have HV := Lib.hid hv
  have HM := Lib.hid hm
  have HO := Lib.hid ho
  have H7 := Lib.hid h7
  obtain ⟨po, co, rfl⟩ := ho.slice
  obtain ⟨_, _, _, _, hw5, hw6, _⟩ := hw
  have HW6 := Lib.hid hw6
  have hkk : (x.kind : Int) = 2 := by omega
  rw [hkk] at h1
  generalize hLL : l.length = L at *
  generalize hcn : x.ce.length = cn at *
  have HCN := Lib.hid hcn
  clear hv hm ho h6 h7 hcell hx hw6 hcn hLL hk hkk
  go_enter Tryd.func28, Tryd.ntmps28
  go_wp2_with fail
  refine name_calls fun W hW => ?_
  have hX : Gr w W := by rw [hW]; repeat (first | exact Gr.refl _ | refine Gr.alloc ?_ _)
  have fB : W.cell? ⟨w.heap.size, 0, none⟩ = some (.slice po o.length co) := by rw [hW]; go_simp
  have fC : W.cell? ⟨w.heap.size + 1 + 1, 0, none⟩ = some (.func (.func 59) #[] #[.pointer (some ⟨w.heap.size, 0, none⟩)]) := by rw [hW]; go_simp
  have f4 : W.cell? ⟨w.heap.size + 1, 4, none⟩ = some (.slice p2 cn c2) := by rw [hW]; go_simp
  clear hW
  have HX := Lib.hid hX
  refine (contains_any 62 #[.pointer (some ⟨w.heap.size + 1 + 1, 0, none⟩)] (fun c => !isOpen o c.1 c.2) _ x.ce W (H7.out.gr hX) (by rw [HCN.out]; exact hw5) HW6.out (fun args w => enters_of Tryd.func62 (by kernel_rfl) rfl args w)
    (fun W' hW' a b' ha hb' => notOpen_any w.heap.size (w.heap.size + 1 + 1) _ o a b' W' (hW'.cell fC) (hW'.cell fB) (HO.out.gr (HX.out.trans hW')) hol (by omega) hb')).mono ?_
  rintro e w1 ⟨rfl, hx1⟩
  have g4 := hx1.cell f4
  have HX1 := Lib.hid (HX.out.trans hx1)
  clear hX hx1 f4 fB fC
  cases hany : x.ce.any (fun c => !isOpen o c.1 c.2) with
  | true =>
    have hr : foolFlaw m x n o b = (3, n) := by simp only [foolFlaw, hany, if_true]
    have HR := Lib.hid hr
    clear hr hany
    go_wp2
    go_ret2
    exact ⟨by rw [HR.out]; rfl, HX1.out⟩
  | false =>
    have hr : foolFlaw m x n o b = if x.ce.length ≤ b ∨ m.apart x.ce = false then (5, n) else (1, 0) := by simp only [foolFlaw, hany, Bool.false_eq_true, if_false]
    rw [HCN.out] at hr
    have HR := Lib.hid hr
    clear hr hany
    by_cases hle : (cn : Int) ≤ b
    · have hr := HR.out
      rw [if_pos (.inl (by omega))] at hr
      have HR2 := Lib.hid hr
      clear hr
      go_wp2
      go_ret2
      exact ⟨by rw [HR2.out]; rfl, HX1.out⟩
    · go_wp2_with fail
      refine (apart_any _ _ m x.ce _ (HV.out.gr HX1.out) HM.out.1.ok (H7.out.gr HX1.out) HW6.out (by rw [HCN.out]; exact hw5)).mono ?_
      rintro e w2 ⟨rfl, hx2⟩
      have HX2 := Lib.hid (HX1.out.trans hx2)
      clear hx2
      cases hap : m.apart x.ce with
      | false =>
        have hr := HR.out
        rw [if_pos (.inr hap)] at hr
        have HR2 := Lib.hid hr
        clear hr hap
        go_wp2
        go_ret2
        exact ⟨by rw [HR2.out]; rfl, HX2.out⟩
      | true =>
        have hr := HR.out
        rw [if_neg (by rw [hap]; simp; omega)] at hr
        have HR2 := Lib.hid hr
        clear hr hap
        go_wp2
        go_ret2
        exact ⟨by rw [HR2.out]; rfl, HX2.out⟩

theorem sumPop_snoc (o : List Nat) (k : Nat) (h : k < o.length) : sumPop (o.take (k + 1)) = sumPop (o.take k) + pop (o.getD k 0) := by
  rw [List.take_succ_eq_append_getElem h]
  simp only [sumPop, List.foldl_append, List.foldl_cons, List.foldl_nil]
  simp [List.getD, List.getElem?_eq_getElem h]
theorem sumPop_le (o : List Nat) : sumPop o ≤ 6 * o.length := by
  have key : ∀ (l : List Nat) (n : Nat), l.foldl (fun n s => n + pop s) n ≤ n + 6 * l.length := by
    intro l
    induction l with
    | nil => intro n; simp
    | cons a l ih => intro n; have h1 := ih (n + pop a); have h2 := pop_le a; simp only [List.foldl_cons, List.length_cons] at *; omega
  have := key o 0
  unfold sumPop
  omega

set_option maxHeartbeats 1000000 in
theorem node_count (v v2 v3 : Value) (m : Mat) (l : List Nd) (n b : Nat) (o : List Nat) (x : Nd) (w : World) (hv : MatV w v m) (hm : m.good) (hl : Nds w v2 l) (hll : l.length ≤ 5000) (ho : Sets w v3 o) (hol : o.length = m.rows.length) (ho6 : ∀ x ∈ o, x < 64) (hn : n < l.length) (hx : l.getD n default = x) (hw : wellNode l n x) (hk : x.kind = 3) (hb : b < 1000) (ht : TabOk w) :
    Calls Tryd.prog 28 #[v, v2, .int .i64 (n : Int), v3, .int .i64 (b : Int)] w (RetFlaw (countFlaw m n o b) w) := by
  rcases hl with ⟨rfl, _⟩ | ⟨_, bl, ol, cl, rfl, hcell⟩
  · simp at hn
  have hc := hcell n hn
  rw [hx] at hc
  obtain ⟨p1, c1, p2, c2, h1, h2, h3, h4, h5, h6, h7⟩ := hc
  have hbl := World.block_lt_of_cell? _ _ h1
  simp only [] at hbl
  have HV := Lib.hid hv
  have HM := Lib.hid hm
  have HO := Lib.hid ho
  have HT := Lib.hid ht
  have HOL := Lib.hid hol
  have HO6 := Lib.hid ho6
  obtain ⟨po, co, rfl⟩ := ho.slice
  have hkk : (x.kind : Int) = 3 := by omega
  rw [hkk] at h1
  generalize hLL : l.length = L at *
  have hos : o.length ≤ 6 := by rw [hol]; exact hm.1.2
  generalize hop : o.length = op at *
  have HOP := Lib.hid hop
  clear hv hm ho h6 h7 hcell hx hLL hk hkk ht ho6 hol hop
  go_enter Tryd.func28, Tryd.ntmps28
  go_wp2_with fail
  refine name_wp fun W hW => ?_
  have hX : Gr w W := by rw [hW]; repeat (first | exact Gr.refl _ | refine Gr.alloc ?_ _)
  have fB : W.cell? ⟨w.heap.size, 0, none⟩ = some (.slice po op co) := by rw [hW]; go_simp
  clear hW
  have HX := Lib.hid hX
  clear hX
  go_loopw [14, 16, 55] (fun t _ i wr => ∃ k : Nat, k ≤ op ∧ i = .int .i64 k ∧ t = .int .i64 ((sumPop (o.take k) : Nat) : Int) ∧ Gr W wr) (fun _ _ i _ => op - (intOf i).toNat)
  case atStart => exact ⟨0, Nat.zero_le _, rfl, rfl, Gr.refl _⟩
  case round =>
    obtain ⟨k, hk, rfl, rfl, hG⟩ := hrel
    have HG := Lib.hid hG
    have fB' := hG.cell fB
    have lB : w.heap.size < wr.heap.size := World.block_lt_of_cell? _ _ fB'
    clear hG
    by_cases hlt : k < op
    · obtain ⟨bb, oo, cc, y, hsl, hbb, hcy, hy⟩ := HO.out.at k (by rw [HOP.out]; exact hlt)
      obtain ⟨py, ny, cy, hyy⟩ := hy.words.slice
      subst hyy
      simp only [Value.slice.injEq] at hsl
      obtain ⟨rfl, -, rfl⟩ := hsl
      have hcW := (HX.out.trans HG.out).cell hcy
      have hbW : bb < wr.heap.size := World.block_lt_of_cell? _ _ hcW
      have HY := Lib.hid (hy.gr (HX.out.trans HG.out))
      have hx6 : o.getD k 0 < 64 := HO6.out _ (by rw [List.getD_eq_getElem?_getD, List.getElem?_eq_getElem (by rw [HOP.out]; exact hlt)]; simp)
      have hsn := sumPop_snoc o k (by rw [HOP.out]; exact hlt)
      have hs1 := sumPop_le (o.take k)
      have hpl := pop_le (o.getD k 0)
      have htl : (o.take k).length ≤ 6 := by simp; omega
      have HSN := Lib.hid hsn
      clear hsn hy hcy
      generalize sumPop (o.take k) = N at *
      go_wp2_with fail
      refine (len_any _ (o.getD k 0) _ (HY.out.gr ((Gr.refl _).alloc _)) hx6).mono ?_
      rintro e w2 ⟨rfl, hx2⟩
      have HG2 := Lib.hid (HG.out.trans (((Gr.refl _).alloc _).trans hx2.gr))
      clear hx2
      generalize pop (o.getD k 0) = PP at *
      go_wp2
      go_roundw
      case rel => exact ⟨k + 1, by omega, by go_num, by rw [HSN.out]; go_num, HG2.out⟩
      case measure => simp [intOf]; omega
    · obtain rfl : k = op := by omega
      have hs1 := sumPop_le o
      rw [HOP.out] at hs1
      rw [List.take_of_length_le (by rw [HOP.out]; exact Nat.le_refl _)]
      have hmc := HM.out.1.1
      have hgl := great_le m o (2 ^ m.cols)
      have hcf : countFlaw m n o b = if sumPop o ≤ b * m.great o (2 ^ m.cols) then (5, n) else (1, 0) := rfl
      have HCF := Lib.hid hcf
      clear hcf
      generalize sumPop o = N at *
      go_wp2_with (go_at_call 15; refine (columns_any _ m _ (HV.out.gr (HX.out.trans HG.out)) HM.out.1.ok).mono ?_; rintro e w' ⟨rfl, rfl⟩)
      refine (greatest_any _ _ m o _ (HV.out.gr (HX.out.trans HG.out)) HM.out.1 (HO.out.gr (HX.out.trans HG.out)) (by rw [HOP.out]; exact HOL.out) HO6.out (HT.out.gr (HX.out.trans HG.out))).mono ?_
      rintro e w2 ⟨rfl, hx2⟩
      have HG2 := Lib.hid ((HX.out.trans HG.out).trans hx2)
      clear hx2
      generalize m.great o (2 ^ m.cols) = G at *
      have hbg : b * G ≤ 1000 * 36 := Nat.mul_le_mul (by omega) hgl
      have hmul : (b : Int) * (G : Int) = ((b * G : Nat) : Int) := by simp
      generalize b * G = PG at *
      by_cases hle : (N : Int) ≤ PG
      · have hr := HCF.out
        rw [if_pos (by omega)] at hr
        have HR2 := Lib.hid hr
        clear hr
        go_wp2
        go_ret2
        exact ⟨by rw [HR2.out]; rfl, HG2.out⟩
      · have hr := HCF.out
        rw [if_neg (by omega)] at hr
        have HR2 := Lib.hid hr
        clear hr
        go_wp2
        go_ret2
        exact ⟨by rw [HR2.out]; rfl, HG2.out⟩
theorem lessOf_lt (m : Mat) (o : List Nat) (s : Nat) (h : ∀ x ∈ o, x < 64) : ∀ x ∈ lessOf m o s, x < 64 := by
  intro x hx
  obtain ⟨i, hi, rfl⟩ := List.mem_map.1 hx
  have h6 : o.getD i 0 < 64 := h _ (by rw [List.getD_eq_getElem?_getD, List.getElem?_eq_getElem (List.mem_range.1 hi)]; simp)
  split
  · exact Nat.lt_of_le_of_lt (minus_le _ _) h6
  · exact h6
theorem cons_lt (m : Mat) (i j : Nat) : ∀ s ∈ m.cons i j, s < 64 := by
  intro s hs
  unfold Mat.cons at hs
  split at hs
  · exact (lexAll_mem s).1 (List.mem_filter.1 hs).1
  · simp at hs
end Go.Proofs.YtcmlhpodghfheaaDoor
