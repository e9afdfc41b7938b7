/- ref47.Check. -/
import Derived.Test.YtcmlhpodghfheaaDoorT16
import Derived.Test.YtcmlhpodghfheaaDoorL5
set_option linter.unusedSimpArgs false
set_option linter.unusedVariables false
namespace Go.Proofs.YtcmlhpodghfheaaDoor
open Go.RowKit Go.Shelf

theorem wrongFrom_step (l : List Nd) (L k : Nat) (h : k < L) : wrongFrom l (L - k) k = if wrongB l k then (k : Int) else wrongFrom l (L - (k + 1)) (k + 1) := by
  rw [show L - k = (L - (k + 1)) + 1 from by omega]
  rfl
theorem wrongFrom_none (l : List Nd) : ∀ r n, wrongFrom l r n = -1 → ∀ i, n ≤ i → i < n + r → wrongB l i = false
  | 0, n, _, i, h1, h2 => by omega
  | r + 1, n, h, i, h1, h2 => by
    unfold wrongFrom at h
    split at h
    · omega
    · rename_i hb
      by_cases e : i = n
      · subst e; simpa using hb
      · exact wrongFrom_none l r (n + 1) h i (by omega) (by omega)
theorem wrongFrom_range (l : List Nd) : ∀ r n, wrongFrom l r n = -1 ∨ ∃ k : Nat, wrongFrom l r n = (k : Int)
  | 0, _ => .inl rfl
  | r + 1, n => by
    unfold wrongFrom
    split
    · exact .inr ⟨n, rfl⟩
    · exact wrongFrom_range l r (n + 1)
theorem wrong_well {l : List Nd} {n : Nat} (h : wrongB l n = false) : ∀ c ∈ (l.getD n default).ch, n < c ∧ c < l.length := by
  intro c hc
  obtain ⟨i, hi, rfl⟩ := List.getElem_of_mem hc
  have hk : badKid l n (l.getD n default).ch i = false := by
    rw [Bool.eq_false_iff]
    intro hb
    rw [wrong_kid hi hb] at h
    cases h
  unfold badKid at hk
  simp only [Bool.or_eq_false_iff, decide_eq_false_iff_not] at hk
  have he : (l.getD n default).ch.getD i 0 = (l.getD n default).ch[i] := by rw [List.getD_eq_getElem?_getD, List.getElem?_eq_getElem hi]; rfl
  rw [he] at hk
  omega

set_option maxHeartbeats 2000000 in
set_option maxRecDepth 100000 in
/-- ref47.Check -/
theorem rcheck_any (v v2 : Value) (m : Mat) (size : Int) (l : List Nd) (w : World) (hv : RMatV w v m) (hm : m.good) (hp : RPfV w v2 size l) (hs : smallNds l) (hc9 : ∀ x ∈ l, x.ch.length < 1000 ∧ ∀ c ∈ x.ch, c < 1000) (hl : l.length < 1000) (hz : -9223372036854775808 ≤ size ∧ size ≤ 9223372036854775807) :
    Calls Tryd.prog 11 #[v, v2] w (RetR (rcheckF m size l) w) := by
  have HV := Lib.hid hv
  have HM := Lib.hid hm
  have HP := Lib.hid hp
  have HS := Lib.hid hs
  have HC9 := Lib.hid hc9
  obtain ⟨u, rfl, hu⟩ := hv
  obtain ⟨pu, cu, rfl⟩ := hu.slice
  obtain ⟨up, rfl, hun⟩ := hp
  obtain ⟨pn, cn, rfl⟩ := hun.slice
  have hcf : rcheckF m size l = (if size < 0 ∨ 256 < size ∨ l.length < 1 ∨ 5000 < l.length then (2, 0)
    else if 0 ≤ wrongFrom l l.length 0 then (2, (wrongFrom l l.length 0).toNat)
    else if size = 0 then (1, 0)
    else rnodeF m l l.length 0 (size - 1).toNat (cellsF m.rows)) := rfl
  have HCF := Lib.hid hcf
  obtain ⟨C, hC⟩ : ∃ C, C = m.cols := ⟨_, rfl⟩
  rw [← hC] at HV ⊢
  obtain ⟨R, hR⟩ : ∃ R, R = m.rows.length := ⟨_, rfl⟩
  rw [← hR] at HV ⊢
  obtain ⟨L, hL⟩ : ∃ L, L = l.length := ⟨_, rfl⟩
  have HL := Lib.hid hL
  rw [← hL] at hl HP HCF ⊢
  clear hu hun hm hs hc9 hcf hC hR hL
  by_cases c1 : size < 0
  · have hr := HCF.out
    rw [if_pos (.inl c1)] at hr
    have HR := Lib.hid hr
    clear hr
    go_enter Tryd.func11, Tryd.ntmps11
    go_wp2
    go_ret2
    exact ⟨by rw [HR.out]; rfl, ((Gr.refl _).alloc _).alloc _⟩
  by_cases c2 : 256 < size
  · have hr := HCF.out
    rw [if_pos (.inr (.inl c2))] at hr
    have HR := Lib.hid hr
    clear hr
    go_enter Tryd.func11, Tryd.ntmps11
    go_wp2
    go_ret2
    exact ⟨by rw [HR.out]; rfl, ((Gr.refl _).alloc _).alloc _⟩
  by_cases c3 : (L : Int) < 1
  · have hr := HCF.out
    rw [if_pos (.inr (.inr (.inl (by omega))))] at hr
    have HR := Lib.hid hr
    clear hr
    go_enter Tryd.func11, Tryd.ntmps11
    go_wp2
    go_ret2
    exact ⟨by rw [HR.out]; rfl, ((Gr.refl _).alloc _).alloc _⟩
  have c4 : ¬ (5000 : Int) < L := by omega
  have hr := HCF.out
  rw [if_neg (by omega)] at hr
  have HCF2 := Lib.hid hr
  clear hr
  go_enter Tryd.func11, Tryd.ntmps11
  go_wp2_with fail
  refine name_wp fun W hW => ?_
  have hX : Gr w W := by rw [hW]; repeat (first | exact Gr.refl _ | refine Gr.alloc ?_ _)
  have f0 : W.cell? ⟨w.heap.size, 0, none⟩ = some (.int .i64 (C : Int)) := by rw [hW]; go_simp
  have f1 : W.cell? ⟨w.heap.size, 1, none⟩ = some (.slice pu R cu) := by rw [hW]; go_simp
  have fp0 : W.cell? ⟨w.heap.size + 1, 0, none⟩ = some (.int .i64 size) := by rw [hW]; go_simp
  have fp1 : W.cell? ⟨w.heap.size + 1, 1, none⟩ = some (.slice pn L cn) := by rw [hW]; go_simp
  clear hW
  have HX := Lib.hid hX
  clear hX
  go_loopw [6] (fun q wr => ∃ k : Nat, k ≤ L ∧ q = .int .i64 k ∧ Gr W wr ∧ wrongFrom l (L - k) k = wrongFrom l L 0) (fun q _ => L - (intOf q).toNat)
  case atStart => exact ⟨0, Nat.zero_le _, rfl, Gr.refl _, rfl⟩
  case round =>
    obtain ⟨k, hk, rfl, hG, hwf⟩ := hrel
    have HG := Lib.hid hG
    have HWF := Lib.hid hwf
    have g0 := hG.cell f0
    have g1 := hG.cell f1
    have gp0 := hG.cell fp0
    have gp1 := hG.cell fp1
    have l1 : w.heap.size + 1 < wr.heap.size := World.block_lt_of_cell? _ _ gp0
    have l0 : w.heap.size < wr.heap.size := by omega
    clear hG hwf
    by_cases hlt : k < L
    · have hst := wrongFrom_step l L k hlt
      rw [HWF.out] at hst
      have HST := Lib.hid hst
      clear hst
      go_wp2_with fail
      refine (wrong_any _ size l k _ (HP.out.gr (HX.out.trans HG.out)) (by rw [← HL.out]; exact hlt) (by rw [← HL.out]; exact hl) (fun x hx => ⟨(HC9.out x hx).1, (HS.out x hx).1, (HC9.out x hx).2⟩)).mono ?_
      rintro e w1 ⟨rfl, hx1⟩
      have HG1 := Lib.hid (HG.out.trans hx1)
      clear hx1
      cases hwb : wrongB l k with
      | true =>
        have h := HST.out
        rw [hwb, if_pos rfl] at h
        have hr := HCF2.out
        rw [h, if_pos (by omega)] at hr
        have HR := Lib.hid hr
        clear hr h hwb
        go_wp2
        go_ret2
        exact ⟨by rw [HR.out]; rfl, HX.out.trans HG1.out⟩
      | false =>
        have h := HST.out
        rw [hwb, if_neg (by simp)] at h
        have H := Lib.hid h
        clear h hwb
        go_wp2
        go_roundw
        case rel => exact ⟨k + 1, by omega, by go_num, HG1.out, H.out.symm⟩
        case measure => simp [intOf]; omega
    · obtain rfl : k = L := by omega
      have hwn : wrongFrom l k 0 = -1 := by
        have := HWF.out
        rw [Nat.sub_self] at this
        exact this.symm
      have hr := HCF2.out
      rw [hwn, if_neg (by omega)] at hr
      have hwell : ∀ i, i < l.length → wellNode l i (l.getD i default) := by
        intro i hi
        have hm : l.getD i default ∈ l := by rw [List.getD_eq_getElem?_getD, List.getElem?_eq_getElem hi]; simp
        obtain ⟨a1, a2, a3, a4, a5, a6, a7⟩ := HS.out _ hm
        exact ⟨a1, a2, a3, a4, a5, a6, wrong_well (wrongFrom_none l k 0 hwn i (by omega) (by rw [HL.out]; omega))⟩
      have HW := Lib.hid hwell
      by_cases c5 : size = 0
      · rw [if_pos c5] at hr
        have HR := Lib.hid hr
        have c6 : (size == 0) = true := by simpa using c5
        clear hr hwn hwell
        go_wp2
        go_ret2
        exact ⟨by rw [HR.out]; rfl, HX.out.trans HG.out⟩
      · rw [if_neg c5] at hr
        have HR := Lib.hid hr
        have c6 : (size == 0) = false := by simpa using c5
        obtain ⟨s, hsz⟩ : ∃ s : Nat, s = (size - 1).toNat := ⟨_, rfl⟩
        have hsz2 : size - 1 = (s : Int) := by omega
        have hs9 : s < 1000 := by omega
        have hwr : IntKind.i64.wrap (s : Int) = (s : Int) := by rw [IntKind.wrap_i64]; omega
        rw [← hsz] at HR
        have hrl : ∀ x ∈ m.rows, x < 64 := fun x hx => by
          have h1 := HM.out.2 x hx
          have h2 := (pow6 HM.out.1).1
          omega
        have hcb : ∀ c ∈ cellsF m.rows, c.1 < 64 ∧ c.2 < 64 := fun c hc => by
          have h1 := (cellsF_mem hrl c.1 c.2).1 hc
          have h6 := HM.out.1.2
          simp only [isOpen, Bool.and_eq_true, decide_eq_true_eq] at h1
          have := tb6 (getD_lt64 hrl c.1) h1.2
          omega
        have HCB := Lib.hid hcb
        have hcl : (cellsF m.rows).length < 1000 := by
          rw [← onesK_all]
          have := onesK_len m m.rows.length
          have := HM.out.1.2
          omega
        have hnode : ∀ (op : List (Nat × Nat)) (b : Nat) (v v2 v3 : Value) (w : World), RMatV w v m → RPfV w v2 size l → Cells w v3 op → (∀ c ∈ op, c.1 < 64 ∧ c.2 < 64) → op.length < 1000 → 0 < l.length → l.length - 0 ≤ l.length → b < 1000 →
            Calls Tryd.prog 33 #[v, v2, .int .i64 0, .int .i64 (b : Int), v3] w (RetR (rnodeF m l l.length 0 b op) w) := fun op b v v2 v3 w => rnode_any m size l HM.out (by rw [← HL.out]; exact hl) HW.out l.length 0 op b v v2 v3 w
        have HNODE := Lib.hid hnode
        have hmg : m.good := HM.out
        clear hr hwn hwell hsz hrl hcb hnode
        go_wp2_with fail
        go_region_held3 (fun w' => Gr wr w' ∧ w'.cell? ⟨w.heap.size, 0, none⟩ = some (.int .i64 (C : Int)) ∧ w'.cell? ⟨w.heap.size, 1, none⟩ = some (.slice pu R cu) ∧ w'.cell? ⟨w.heap.size + 1, 0, none⟩ = some (.int .i64 size) ∧ w'.cell? ⟨w.heap.size + 1, 1, none⟩ = some (.slice pn k cn))
          (first | exact ⟨(Gr.refl wr).drew, g0, g1, gp0, gp1⟩ | (have hh := ‹Gr wr _ ∧ _ ∧ _ ∧ _ ∧ _›; exact ⟨hh.1.trans hx1, hx1.cell hh.2.1, hx1.cell hh.2.2.1, hx1.cell hh.2.2.2.1, hx1.cell hh.2.2.2.2⟩) | (have hh := ‹Gr wr _ ∧ _ ∧ _ ∧ _ ∧ _›; exact ⟨(hh.1).setCell (by simp only []; omega) _, cell?_setCell_ne (hh.2.1) (by simp <;> omega), cell?_setCell_ne (hh.2.2.1) (by simp <;> omega), cell?_setCell_ne (hh.2.2.2.1) (by simp <;> omega), cell?_setCell_ne (hh.2.2.2.2) (by simp <;> omega)⟩))
          (first | (go_at_call 34; have hh := ‹Gr wr _ ∧ _ ∧ _ ∧ _ ∧ _›; (with_reducible refine (ones47_any _ m _ (HV.out.gr (HX.out.trans (HG.out.trans hh.1))) hmg).mono ?_); rintro e w1 ⟨⟨po, co, rfl, hcw⟩, hx1⟩) | (go_at_call 33; have hh := ‹Gr wr _ ∧ _ ∧ _ ∧ _ ∧ _›; (with_reducible refine (HNODE.out (cellsF m.rows) s _ _ _ _ (HV.out.gr (HX.out.trans (HG.out.trans hh.1))) (HP.out.gr (HX.out.trans (HG.out.trans hh.1))) hcw HCB.out hcl (by rw [← HL.out]; omega) (by omega) hs9).mono ?_); rintro e w1 ⟨rfl, hx1⟩))
        have hfin := ‹Gr wr _ ∧ _ ∧ _ ∧ _ ∧ _›
        have HGf := Lib.hid (HG.out.trans hfin.1)
        rw [HL.out] at HR
        generalize rnodeF m l l.length 0 s (cellsF m.rows) = r at *
        clear hfin hh
        go_wp2
        go_ret2
        exact ⟨by rw [show rcheckF m size l = r from HR.out]; rfl, HX.out.trans HGf.out⟩
end Go.Proofs.YtcmlhpodghfheaaDoor
