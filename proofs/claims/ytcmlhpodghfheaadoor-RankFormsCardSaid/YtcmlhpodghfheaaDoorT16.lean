/- ref47.node. -/
import Derived.Test.YtcmlhpodghfheaaDoorT13
import Derived.Test.YtcmlhpodghfheaaDoorT15
import Derived.Deep.RegionHeld3
set_option linter.unusedSimpArgs false
set_option linter.unusedVariables false
namespace Go.Proofs.YtcmlhpodghfheaaDoor
open Go.RowKit Go.Shelf

def RetR (r : Nat × Nat) (w : World) (e : Ending) (w' : World) : Prop := e = .returned (.tuple #[.int .i64 ((r.1 : Nat) : Int), .int .i64 ((r.2 : Nat) : Int)]) ∧ Gr w w'

set_option maxHeartbeats 2000000 in
set_option maxRecDepth 100000 in
theorem rnode_fool (v v2 v3 : Value) (m : Mat) (size : Int) (l : List Nd) (n b : Nat) (op : List (Nat × Nat)) (x : Nd) (w : World) (hv : RMatV w v m) (hm : m.good) (hp : RPfV w v2 size l) (hll : l.length < 1000) (hc : Cells w v3 op) (hbb : ∀ c ∈ op, c.1 < 64 ∧ c.2 < 64) (hol : op.length < 1000) (hn : n < l.length) (hx : l.getD n default = x) (hw : wellNode l n x) (hb : b < 1000) (hk : x.kind = 2) :
    Calls Tryd.prog 33 #[v, v2, .int .i64 (n : Int), .int .i64 (b : Int), v3] w (RetR (rfool m x n op b) w) := by
  have HV := Lib.hid hv
  have HP := Lib.hid hp
  have HC := Lib.hid hc
  have HBB := Lib.hid hbb
  have HM := Lib.hid hm
  obtain ⟨u, rfl, hu⟩ := hv
  obtain ⟨pu, cu, rfl⟩ := hu.slice
  obtain ⟨up, rfl, hun⟩ := hp
  obtain ⟨bl, ol, cl, rfl, hlc, hat⟩ := hun.at n hn
  obtain ⟨po, co, rfl⟩ := hc.slice
  obtain ⟨p1, c1, p2, c2, h1, h2, h3, h4, h5, h6, h7⟩ := hat
  have hbl := World.block_lt_of_cell? _ _ h1
  simp only [] at hbl
  rw [hx] at h1 h2 h3 h4 h5 h6 h7
  have H6 := Lib.hid h6
  have H7 := Lib.hid h7
  obtain ⟨hw1, hw2, hw3, hw4, hw5, hw6, hw7⟩ := hw
  have HW6 := Lib.hid hw6
  have HW7 := Lib.hid hw7
  obtain ⟨C, hC⟩ : ∃ C, C = m.cols := ⟨_, rfl⟩
  have HCC := Lib.hid hC
  have hC6 := hm.1.1
  rw [← hC] at hC6 HV ⊢
  generalize m.rows.length = R at *
  obtain ⟨L, hL⟩ : ∃ L, L = l.length := ⟨_, rfl⟩
  have HL := Lib.hid hL
  rw [← hL] at hn hll hlc HP ⊢
  obtain ⟨on, hon⟩ : ∃ on, on = op.length := ⟨_, rfl⟩
  have HON := Lib.hid hon
  rw [← hon] at hol HC ⊢
  obtain ⟨cn, hcn⟩ : ∃ cn, cn = x.ch.length := ⟨_, rfl⟩
  have HCN := Lib.hid hcn
  rw [← hcn] at h4 hw4 H6
  obtain ⟨en, hen⟩ : ∃ en, en = x.ce.length := ⟨_, rfl⟩
  have HEN := Lib.hid hen
  rw [← hen] at h5 hw5 H7
  have hkk : (x.kind : Int) = 2 := by omega
  rw [hkk] at h1
  clear hu hun hm hc hbb h6 h7 hw6 hw7 hC hL hon hcn hen hx
  clear hk hkk
  go_enter Tryd.func33, Tryd.ntmps33
  go_wp2_with fail
  refine name_wp fun W hW => ?_
  have hX : Gr w W := by rw [hW]; repeat (first | exact Gr.refl _ | refine Gr.alloc ?_ _)
  have f0 : W.cell? ⟨w.heap.size, 0, none⟩ = some (.int .i64 (C : Int)) := by rw [hW]; go_simp
  have f1 : W.cell? ⟨w.heap.size, 1, none⟩ = some (.slice pu R cu) := by rw [hW]; go_simp
  have fp0 : W.cell? ⟨w.heap.size + 1, 0, none⟩ = some (.int .i64 size) := by rw [hW]; go_simp
  have fp1 : W.cell? ⟨w.heap.size + 1, 1, none⟩ = some (.slice (some ⟨bl, ol, none⟩) L cl) := by rw [hW]; go_simp
  have fx1 : W.cell? ⟨w.heap.size + 1 + 1, 1, none⟩ = some (.int .i64 (x.row : Int)) := by rw [hW]; go_simp
  have fx2 : W.cell? ⟨w.heap.size + 1 + 1, 2, none⟩ = some (.int .i64 (x.col : Int)) := by rw [hW]; go_simp
  have fx3 : W.cell? ⟨w.heap.size + 1 + 1, 3, none⟩ = some (.slice p1 cn c1) := by rw [hW]; go_simp
  have fx4 : W.cell? ⟨w.heap.size + 1 + 1, 4, none⟩ = some (.slice p2 en c2) := by rw [hW]; go_simp
  clear hW h1 h2 h3 h4 h5
  have HX := Lib.hid hX
  clear hX
  go_loopw [35] (fun q wr => ∃ k : Nat, k ≤ en ∧ q = .int .i64 k ∧ Gr W wr ∧ ∀ i, i < k → isB op (x.ce.getD i (0, 0)) = true) (fun q _ => en - (intOf q).toNat)
  case atStart => exact ⟨0, Nat.zero_le _, rfl, Gr.refl _, fun i hi => by omega⟩
  case round =>
    obtain ⟨k, hk, rfl, hG, his⟩ := hrel
    have HG := Lib.hid hG
    have HIS := Lib.hid his
    have g0 := hG.cell f0
    have g1 := hG.cell f1
    have g4 := hG.cell fx4
    have lg : w.heap.size + 1 + 1 < wr.heap.size := World.block_lt_of_cell? _ _ g4
    have lg0 : w.heap.size < wr.heap.size := by omega
    clear hG his
    by_cases hlt : k < en
    · rcases H7.out with ⟨h0, _⟩ | ⟨hne, b1, o1, c1', hsl, _, hcell⟩
      · have := HEN.out; rw [h0] at this; simp at this; omega
      · rw [← HEN.out] at hsl
        simp only [Value.slice.injEq] at hsl
        obtain ⟨rfl, -, rfl⟩ := hsl
        have hx := hcell k (by rw [← HEN.out]; exact hlt)
        have hmem : x.ce.getD k (0, 0) ∈ x.ce := by rw [List.getD_eq_getElem?_getD, List.getElem?_eq_getElem (by rw [← HEN.out]; exact hlt)]; simp
        have HMEM := Lib.hid hmem
        obtain ⟨⟨y1, y2⟩, hy⟩ : ∃ y : Nat × Nat, y = x.ce.getD k (0, 0) := ⟨_, rfl⟩
        rw [← hy] at hx HMEM
        have HY := Lib.hid hy
        have hx1 := HG.out.cell (HX.out.cell hx.1)
        have hx2 := HG.out.cell (HX.out.cell hx.2)
        simp only [] at hx1 hx2
        have lb := World.block_lt_of_cell? _ _ hx1
        simp only [] at lb
        clear hcell hx hy hmem
        go_wp2_with fail
        refine (is47_any _ op y1 y2 _ (HC.out.gr (HX.out.trans (HG.out.trans ((Gr.refl wr).alloc _)))) (by rw [← HON.out]; omega)).mono ?_
        rintro e w1 ⟨rfl, hx1'⟩
        have HG1 := Lib.hid ((HG.out.trans ((Gr.refl wr).alloc (.cells #[.int .i64 (y1 : Int), .int .i64 (y2 : Int)] 40))).trans hx1')
        clear hx1'
        cases hib : isB op (y1, y2) with
        | false =>
          have hr : rfool m x n op b = (3, n) := by
            unfold rfool
            rw [if_pos]
            rw [Bool.eq_false_iff]
            intro h
            have := List.all_eq_true.1 h _ HMEM.out
            rw [hib] at this
            exact absurd this (by simp)
          have HR := Lib.hid hr
          clear hr hib
          go_wp2
          go_ret2
          exact ⟨by rw [HR.out]; rfl, HX.out.trans HG1.out⟩
        | true =>
          have hnx : ∀ i, i < k + 1 → isB op (x.ce.getD i (0, 0)) = true := fun i hi => by
            by_cases h : i = k
            · rw [h, ← HY.out]; exact hib
            · exact HIS.out i (by omega)
          have HNX := Lib.hid hnx
          clear hnx hib
          go_wp2
          go_roundw
          case rel => exact ⟨k + 1, by omega, by go_num, HG1.out, HNX.out⟩
          case measure => simp [intOf]; omega
    · obtain rfl : k = en := by omega
      have hall : x.ce.all (fun c => isB op c) = true := by
        rw [List.all_eq_true]
        intro c hc
        obtain ⟨i, hi, rfl⟩ := List.getElem_of_mem hc
        have := HIS.out i (by rw [HEN.out]; exact hi)
        rw [List.getD_eq_getElem?_getD, List.getElem?_eq_getElem hi] at this
        exact this
      have hr : rfool m x n op b = if k ≤ b ∨ foolB m x.ce = false then (5, n) else (1, 0) := by
        unfold rfool; rw [hall, if_neg (by simp), HEN.out]
      have HR := Lib.hid hr
      clear hr hall
      by_cases hle : (k : Int) ≤ b
      · have hr := HR.out
        rw [if_pos (.inl (by omega))] at hr
        have HR2 := Lib.hid hr
        clear hr
        go_wp2
        go_ret2
        exact ⟨by rw [HR2.out]; rfl, HX.out.trans HG.out⟩
      · go_wp2_with fail
        refine (fool47_any _ _ m x.ce _ (HV.out.gr (HX.out.trans HG.out)) HM.out.1.ok (H7.out.gr (HX.out.trans HG.out)) HW6.out (by rw [← HEN.out]; exact hw5)).mono ?_
        rintro e w1 ⟨rfl, hx1⟩
        have HG1 := Lib.hid (HG.out.trans hx1)
        clear hx1
        cases hf : foolB m x.ce with
        | false =>
          have hr := HR.out
          rw [if_pos (.inr hf)] at hr
          have HR2 := Lib.hid hr
          clear hr hf
          go_wp2
          go_ret2
          exact ⟨by rw [HR2.out]; rfl, HX.out.trans HG1.out⟩
        | true =>
          have hr := HR.out
          rw [if_neg (by rw [hf]; simp; omega)] at hr
          have HR2 := Lib.hid hr
          clear hr hf
          go_wp2
          go_ret2
          exact ⟨by rw [HR2.out]; rfl, HX.out.trans HG1.out⟩

theorem most_take (m : Mat) (op : List (Nat × Nat)) (AL : List Nat) (k : Nat) (h : k < AL.length) : (AL.take (k + 1)).foldl (fun a s => max a (op.length - (withoutF m op s).length)) 0 = max ((AL.take k).foldl (fun a s => max a (op.length - (withoutF m op s).length)) 0) (op.length - (withoutF m op (AL.getD k 0)).length) := by
  rw [List.take_succ_eq_append_getElem h, List.foldl_append]
  simp [List.getD, List.getElem?_eq_getElem h]

set_option maxHeartbeats 2000000 in
set_option maxRecDepth 100000 in
theorem rnode_count (v v2 v3 : Value) (m : Mat) (size : Int) (l : List Nd) (n b : Nat) (op : List (Nat × Nat)) (x : Nd) (w : World) (hv : RMatV w v m) (hm : m.good) (hp : RPfV w v2 size l) (hll : l.length < 1000) (hc : Cells w v3 op) (hbb : ∀ c ∈ op, c.1 < 64 ∧ c.2 < 64) (hol : op.length < 1000) (hn : n < l.length) (hx : l.getD n default = x) (hw : wellNode l n x) (hb : b < 1000) (hk : x.kind = 3) :
    Calls Tryd.prog 33 #[v, v2, .int .i64 (n : Int), .int .i64 (b : Int), v3] w (RetR (rcount m n op b) w) := by
  have HV := Lib.hid hv
  have HP := Lib.hid hp
  have HC := Lib.hid hc
  have HBB := Lib.hid hbb
  have HM := Lib.hid hm
  obtain ⟨u, rfl, hu⟩ := hv
  obtain ⟨pu, cu, rfl⟩ := hu.slice
  obtain ⟨up, rfl, hun⟩ := hp
  obtain ⟨bl, ol, cl, rfl, hlc, hat⟩ := hun.at n hn
  obtain ⟨po, co, rfl⟩ := hc.slice
  obtain ⟨p1, c1, p2, c2, h1, h2, h3, h4, h5, h6, h7⟩ := hat
  have hbl := World.block_lt_of_cell? _ _ h1
  simp only [] at hbl
  rw [hx] at h1 h2 h3 h4 h5 h6 h7
  have H6 := Lib.hid h6
  have H7 := Lib.hid h7
  obtain ⟨hw1, hw2, hw3, hw4, hw5, hw6, hw7⟩ := hw
  have HW6 := Lib.hid hw6
  have HW7 := Lib.hid hw7
  obtain ⟨C, hC⟩ : ∃ C, C = m.cols := ⟨_, rfl⟩
  have HCC := Lib.hid hC
  have hC6 := hm.1.1
  rw [← hC] at hC6 HV ⊢
  generalize m.rows.length = R at *
  obtain ⟨L, hL⟩ : ∃ L, L = l.length := ⟨_, rfl⟩
  have HL := Lib.hid hL
  rw [← hL] at hn hll hlc HP ⊢
  obtain ⟨on, hon⟩ : ∃ on, on = op.length := ⟨_, rfl⟩
  have HON := Lib.hid hon
  rw [← hon] at hol HC ⊢
  obtain ⟨cn, hcn⟩ : ∃ cn, cn = x.ch.length := ⟨_, rfl⟩
  have HCN := Lib.hid hcn
  rw [← hcn] at h4 hw4 H6
  obtain ⟨en, hen⟩ : ∃ en, en = x.ce.length := ⟨_, rfl⟩
  have HEN := Lib.hid hen
  rw [← hen] at h5 hw5 H7
  have hkk : (x.kind : Int) = 3 := by omega
  rw [hkk] at h1
  have hp6 := pow6 hm.1
  have ham : ∀ x ∈ m.all, x < 64 := fun x hx => by have := (all_mem hm.1 x).1 hx; omega
  have HAM := Lib.hid ham
  have hal : m.all.length ≤ 64 := by have := allK_len m (2 ^ m.cols - 1); unfold Mat.all; omega
  have hrc : rcount m n op b = if op.length ≤ b * m.all.foldl (fun a s => max a (op.length - (withoutF m op s).length)) 0 then (5, n) else (1, 0) := rfl
  have HRC := Lib.hid hrc
  clear hu hun hm hc hbb h6 h7 hw6 hw7 hC hL hon hcn hen hx
  clear hk hkk ham hp6 hrc
  go_enter Tryd.func33, Tryd.ntmps33
  go_wp2_with fail
  refine name_calls fun W hW => ?_
  have hX : Gr w W := by rw [hW]; repeat (first | exact Gr.refl _ | refine Gr.alloc ?_ _)
  have f0 : W.cell? ⟨w.heap.size, 0, none⟩ = some (.int .i64 (C : Int)) := by rw [hW]; go_simp
  have f1 : W.cell? ⟨w.heap.size, 1, none⟩ = some (.slice pu R cu) := by rw [hW]; go_simp
  have fp0 : W.cell? ⟨w.heap.size + 1, 0, none⟩ = some (.int .i64 size) := by rw [hW]; go_simp
  have fp1 : W.cell? ⟨w.heap.size + 1, 1, none⟩ = some (.slice (some ⟨bl, ol, none⟩) L cl) := by rw [hW]; go_simp
  have fx1 : W.cell? ⟨w.heap.size + 1 + 1, 1, none⟩ = some (.int .i64 (x.row : Int)) := by rw [hW]; go_simp
  have fx2 : W.cell? ⟨w.heap.size + 1 + 1, 2, none⟩ = some (.int .i64 (x.col : Int)) := by rw [hW]; go_simp
  have fx3 : W.cell? ⟨w.heap.size + 1 + 1, 3, none⟩ = some (.slice p1 cn c1) := by rw [hW]; go_simp
  have fx4 : W.cell? ⟨w.heap.size + 1 + 1, 4, none⟩ = some (.slice p2 en c2) := by rw [hW]; go_simp
  clear hW h1 h2 h3 h4 h5
  have HX := Lib.hid hX
  clear hX
  refine (all47_any _ m W (HV.out.gr HX.out) HM.out.1).mono ?_
  rintro e w1 ⟨⟨pa, ca, rfl, hall⟩, hx1⟩
  have HA := Lib.hid hall
  have HX1 := Lib.hid (HX.out.trans hx1)
  have g0 := hx1.cell f0
  have g1 := hx1.cell f1
  obtain ⟨AL, hAL⟩ : ∃ AL, AL = m.all := ⟨_, rfl⟩
  rw [← hAL] at HA HAM hal HRC ⊢
  obtain ⟨A, hA⟩ : ∃ A, A = AL.length := ⟨_, rfl⟩
  have HAA := Lib.hid hA
  rw [← hA] at HA hal ⊢
  clear hall hx1 f0 f1 fp0 fp1 fx1 fx2 fx3 fx4 hAL hA
  go_wp2_with fail
  go_loopw [15, 63] (fun o q wr => ∃ k : Nat, k ≤ A ∧ q = .int .i64 k ∧ Gr w1 wr ∧ (AL.take k).foldl (fun a s => max a (op.length - (withoutF m op s).length)) 0 ≤ 1000 ∧ o = .int .i64 (((AL.take k).foldl (fun a s => max a (op.length - (withoutF m op s).length)) 0 : Nat) : Int)) (fun _ q _ => A - (intOf q).toNat)
  case atStart => exact ⟨0, Nat.zero_le _, rfl, Gr.refl _, by simp, rfl⟩
  case round =>
    obtain ⟨k, hk, rfl, hG, hM, rfl⟩ := hrel
    have HG := Lib.hid hG
    have q0 := hG.cell g0
    have q1 := hG.cell g1
    have lr : w.heap.size < wr.heap.size := World.block_lt_of_cell? _ _ q0
    clear hG
    by_cases hlt : k < A
    · rcases HA.out with ⟨h0, _⟩ | ⟨hne, b1, o1, c1', hsl, _, hcell⟩
      · have := HAA.out; rw [h0] at this; simp at this; omega
      · rw [← HAA.out] at hsl
        simp only [Value.slice.injEq] at hsl
        obtain ⟨rfl, -, rfl⟩ := hsl
        have hx := HG.out.cell (hcell k (by rw [← HAA.out]; exact hlt))
        have hmem := HAM.out (AL.getD k 0) (by rw [List.getD_eq_getElem?_getD, List.getElem?_eq_getElem (by rw [← HAA.out]; exact hlt)]; simp)
        have hmt := most_take m op AL k (by rw [← HAA.out]; exact hlt)
        obtain ⟨s, hss⟩ : ∃ s, s = AL.getD k 0 := ⟨_, rfl⟩
        rw [← hss] at hx hmem hmt
        obtain ⟨M, hMM⟩ : ∃ M, M = (AL.take k).foldl (fun a s => max a (op.length - (withoutF m op s).length)) 0 := ⟨_, rfl⟩
        rw [← hMM] at hmt hM ⊢
        have hwl : (withoutF m op s).length ≤ on := by rw [HON.out]; exact List.length_filter_le _ _
        have HMT := Lib.hid hmt
        have lb := World.block_lt_of_cell? _ _ hx
        simp only [] at lb
        clear hcell hss hmt hMM
        go_wp2_with fail
        refine (without47_any _ _ m op s _ (HV.out.gr (HX1.out.trans HG.out)) HM.out.1 (HC.out.gr (HX1.out.trans HG.out)) HBB.out (by rw [← HON.out]; exact hol) hmem).mono ?_
        rintro e w2 ⟨⟨p9, c9, rfl, _⟩, hx2⟩
        have HG2 := Lib.hid (HG.out.trans hx2)
        clear hx2
        generalize (withoutF m op s).length = WL at *
        have hmx : max (M : Int) ((on : Int) - (WL : Int)) = ((max M (on - WL) : Nat) : Int) := by omega
        go_wp2
        all_goals
          go_roundw
          case rel => exact ⟨k + 1, by omega, by go_num, HG2.out, by rw [HMT.out, ← HON.out]; omega, by rw [HMT.out, ← HON.out]; congr 1; split <;> omega⟩
          case measure => simp [intOf]; omega
    · obtain rfl : k = A := by omega
      have htk : AL.take k = AL := List.take_of_length_le (by rw [HAA.out]; exact Nat.le_refl _)
      rw [htk] at hM ⊢
      have hrr := HRC.out
      obtain ⟨MF, hMF⟩ : ∃ MF, MF = AL.foldl (fun a s => max a (op.length - (withoutF m op s).length)) 0 := ⟨_, rfl⟩
      rw [← hMF] at hM hrr ⊢
      rw [← HON.out] at hrr
      have HRR := Lib.hid hrr
      have hbg : b * MF ≤ 1000 * 1000 := Nat.mul_le_mul (by omega) hM
      have hmul : (b : Int) * (MF : Int) = ((b * MF : Nat) : Int) := by simp
      clear htk hrr hMF
      generalize b * MF = PG at *
      by_cases hle : (on : Int) ≤ PG
      · have hr := HRR.out
        rw [if_pos (by omega)] at hr
        have HR2 := Lib.hid hr
        clear hr
        go_wp2
        go_ret2
        exact ⟨by rw [HR2.out]; rfl, HX1.out.trans HG.out⟩
      · have hr := HRR.out
        rw [if_neg (by omega)] at hr
        have HR2 := Lib.hid hr
        clear hr
        go_wp2
        go_ret2
        exact ⟨by rw [HR2.out]; rfl, HX1.out.trans HG.out⟩

theorem runR_step (g : Nat → List (Nat × Nat) → Nat × Nat) (m : Mat) (op : List (Nat × Nat)) (ch CS : List Nat) (k : Nat) (h1 : k < ch.length) (h2 : k < CS.length) :
    runR g m op ((ch.zip CS).drop k) = if (g (ch.getD k 0) (withoutF m op (CS.getD k 0))).1 = 1 then runR g m op ((ch.zip CS).drop (k + 1)) else g (ch.getD k 0) (withoutF m op (CS.getD k 0)) := by
  have hl : k < (ch.zip CS).length := by rw [List.length_zip]; omega
  rw [List.drop_eq_getElem_cons hl]
  have he : (ch.zip CS)[k] = (ch.getD k 0, CS.getD k 0) := by
    rw [List.getElem_zip]; simp [List.getD, List.getElem?_eq_getElem h1, List.getElem?_eq_getElem h2]
  rw [he]
  rfl

/-- The contract of ref47.node down to a depth. -/
def RNodeOk (m : Mat) (size : Int) (l : List Nd) (f : Nat) : Prop := ∀ (n : Nat) (op : List (Nat × Nat)) (b : Nat) (v v2 v3 : Value) (w : World), RMatV w v m → RPfV w v2 size l → Cells w v3 op → (∀ c ∈ op, c.1 < 64 ∧ c.2 < 64) → op.length < 1000 → n < l.length → l.length - n ≤ f → b < 1000 →
  Calls Tryd.prog 33 #[v, v2, .int .i64 (n : Int), .int .i64 (b : Int), v3] w (RetR (rnodeF m l f n b op) w)

theorem cons_len (m : Mat) (hm : m.good) (i j : Nat) : (m.cons i j).length ≤ 64 := by
  rw [← rcons_eq hm]
  refine Nat.le_trans (List.length_filter_le _ _) ?_
  have := allK_len m (2 ^ m.cols - 1)
  have := pow6 hm.1
  unfold Mat.all
  omega

set_option pp.deepTerms true in
set_option maxHeartbeats 4000000 in
set_option maxRecDepth 100000 in
theorem rnode_branch (v v2 v3 : Value) (m : Mat) (size : Int) (l : List Nd) (n b : Nat) (op : List (Nat × Nat)) (x : Nd) (w : World) (hv : RMatV w v m) (hm : m.good) (hp : RPfV w v2 size l) (hll : l.length < 1000) (hc : Cells w v3 op) (hbb : ∀ c ∈ op, c.1 < 64 ∧ c.2 < 64) (hol : op.length < 1000) (hn : n < l.length) (hx : l.getD n default = x) (hw : wellNode l n x) (hb : b < 1000) (hk : x.kind = 1) (f : Nat) (hf : l.length - n ≤ f + 1) (ih : RNodeOk m size l f) :
    Calls Tryd.prog 33 #[v, v2, .int .i64 (n : Int), .int .i64 (b : Int), v3] w (RetR (rbranch m (fun c o => rnodeF m l f c (b - 1) o) x n op b) w) := by
  have HV := Lib.hid hv
  have HP := Lib.hid hp
  have HC := Lib.hid hc
  have HBB := Lib.hid hbb
  have HM := Lib.hid hm
  obtain ⟨u, rfl, hu⟩ := hv
  obtain ⟨pu, cu, rfl⟩ := hu.slice
  obtain ⟨up, rfl, hun⟩ := hp
  obtain ⟨bl, ol, cl, rfl, hlc, hat⟩ := hun.at n hn
  obtain ⟨po, co, rfl⟩ := hc.slice
  obtain ⟨p1, c1, p2, c2, h1, h2, h3, h4, h5, h6, h7⟩ := hat
  have hbl := World.block_lt_of_cell? _ _ h1
  simp only [] at hbl
  rw [hx] at h1 h2 h3 h4 h5 h6 h7
  have H6 := Lib.hid h6
  have H7 := Lib.hid h7
  obtain ⟨hw1, hw2, hw3, hw4, hw5, hw6, hw7⟩ := hw
  have HW6 := Lib.hid hw6
  have HW7 := Lib.hid hw7
  obtain ⟨C, hC⟩ : ∃ C, C = m.cols := ⟨_, rfl⟩
  have HCC := Lib.hid hC
  have hC6 := hm.1.1
  rw [← hC] at hC6 HV ⊢
  generalize m.rows.length = R at *
  obtain ⟨L, hL⟩ : ∃ L, L = l.length := ⟨_, rfl⟩
  have HL := Lib.hid hL
  rw [← hL] at hn hll hlc HP ⊢
  obtain ⟨on, hon⟩ : ∃ on, on = op.length := ⟨_, rfl⟩
  have HON := Lib.hid hon
  rw [← hon] at hol HC ⊢
  obtain ⟨cn, hcn⟩ : ∃ cn, cn = x.ch.length := ⟨_, rfl⟩
  have HCN := Lib.hid hcn
  rw [← hcn] at h4 hw4 H6
  obtain ⟨en, hen⟩ : ∃ en, en = x.ce.length := ⟨_, rfl⟩
  have HEN := Lib.hid hen
  rw [← hen] at h5 hw5 H7
  have hkk : (x.kind : Int) = 1 := by omega
  rw [hkk] at h1
  unfold RNodeOk at ih
  have HIH := Lib.hid ih
  have HF := Lib.hid hf
  clear hu hun hm hc hbb h6 h7 hw6 hw7 hC hL hon hcn hen hx
  clear hk hkk ih hf
  go_enter Tryd.func33, Tryd.ntmps33
  go_wp2_with fail
  refine name_calls fun W hW => ?_
  have hX : Gr w W := by rw [hW]; repeat (first | exact Gr.refl _ | refine Gr.alloc ?_ _)
  have f0 : W.cell? ⟨w.heap.size, 0, none⟩ = some (.int .i64 (C : Int)) := by rw [hW]; go_simp
  have f1 : W.cell? ⟨w.heap.size, 1, none⟩ = some (.slice pu R cu) := by rw [hW]; go_simp
  have fp0 : W.cell? ⟨w.heap.size + 1, 0, none⟩ = some (.int .i64 size) := by rw [hW]; go_simp
  have fp1 : W.cell? ⟨w.heap.size + 1, 1, none⟩ = some (.slice (some ⟨bl, ol, none⟩) L cl) := by rw [hW]; go_simp
  have fx1 : W.cell? ⟨w.heap.size + 1 + 1, 1, none⟩ = some (.int .i64 (x.row : Int)) := by rw [hW]; go_simp
  have fx2 : W.cell? ⟨w.heap.size + 1 + 1, 2, none⟩ = some (.int .i64 (x.col : Int)) := by rw [hW]; go_simp
  have fx3 : W.cell? ⟨w.heap.size + 1 + 1, 3, none⟩ = some (.slice p1 cn c1) := by rw [hW]; go_simp
  have fx4 : W.cell? ⟨w.heap.size + 1 + 1, 4, none⟩ = some (.slice p2 en c2) := by rw [hW]; go_simp
  clear hW h1 h2 h3 h4 h5
  have HX := Lib.hid hX
  clear hX
  refine (is47_any _ op x.row x.col W (HC.out.gr HX.out) (by rw [← HON.out]; omega)).mono ?_
  rintro e w1 ⟨rfl, hx1⟩
  have f0 := hx1.cell f0
  have f1 := hx1.cell f1
  have fp0 := hx1.cell fp0
  have fp1 := hx1.cell fp1
  have fx1 := hx1.cell fx1
  have fx2 := hx1.cell fx2
  have fx3 := hx1.cell fx3
  have fx4 := hx1.cell fx4
  have HX1 := Lib.hid (HX.out.trans hx1)
  have l3 : w.heap.size + 1 + 1 < w1.heap.size := World.block_lt_of_cell? _ _ fx3
  have l2 : w.heap.size + 1 < w1.heap.size := by omega
  have l1 : w.heap.size < w1.heap.size := by omega
  clear hx1
  cases hop1 : isB op (x.row, x.col) with
  | false =>
    have hr : rbranch m (fun c o => rnodeF m l f c (b - 1) o) x n op b = (3, n) := by simp only [rbranch, hop1, if_true]
    have HR := Lib.hid hr
    clear hr hop1
    go_wp2
    go_ret2
    exact ⟨by rw [HR.out]; rfl, HX1.out⟩
  | true =>
    by_cases hb1 : (b : Int) < 1
    · have hr : rbranch m (fun c o => rnodeF m l f c (b - 1) o) x n op b = (5, n) := by simp only [rbranch, hop1]; rw [if_neg (by simp), if_pos (by omega)]
      have HR := Lib.hid hr
      clear hr hop1
      go_wp2
      go_ret2
      exact ⟨by rw [HR.out]; rfl, HX1.out⟩
    · go_wp2_with fail
      refine (concepts47_any _ m x.row x.col _ (HV.out.gr HX1.out) HM.out hw2 hw3).mono ?_
      rintro e w2 ⟨⟨pc, cc, rfl, hcs⟩, hx2⟩
      have f0 := hx2.cell f0
      have f1 := hx2.cell f1
      have fp0 := hx2.cell fp0
      have fp1 := hx2.cell fp1
      have fx1 := hx2.cell fx1
      have fx2 := hx2.cell fx2
      have fx3 := hx2.cell fx3
      have fx4 := hx2.cell fx4
      have HX2 := Lib.hid (HX1.out.trans hx2)
      have l3' : w.heap.size + 1 + 1 < w2.heap.size := World.block_lt_of_cell? _ _ fx3
      have l2' : w.heap.size + 1 < w2.heap.size := by omega
      have l1' : w.heap.size < w2.heap.size := by omega
      have hbr : rbranch m (fun c o => rnodeF m l f c (b - 1) o) x n op b = if (m.cons x.row x.col).length ≠ x.ch.length then (4, n) else runR (fun c o => rnodeF m l f c (b - 1) o) m op (x.ch.zip (m.cons x.row x.col)) := by
        simp only [rbranch, hop1]; rw [if_neg (by simp), if_neg (by omega)]
      have HBR := Lib.hid hbr
      have HCS := Lib.hid hcs
      have hlt6 := cons_lt m x.row x.col
      have hcl64 := cons_len m HM.out x.row x.col
      obtain ⟨CS, hCS⟩ : ∃ CS, CS = m.cons x.row x.col := ⟨_, rfl⟩
      rw [← hCS] at HBR HCS hlt6 hcl64 ⊢
      have HLT := Lib.hid hlt6
      obtain ⟨n2, hn2⟩ : ∃ n2, n2 = CS.length := ⟨_, rfl⟩
      have HN2 := Lib.hid hn2
      rw [← hn2] at HBR HCS hcl64 ⊢
      rw [← HCN.out] at HBR
      clear hx2 hbr hcs hlt6 hCS hn2 hop1 l1 l2 l3
      by_cases hne : n2 = cn
      · subst hne
        have hr := HBR.out
        rw [if_neg (by simp)] at hr
        have HR := Lib.hid hr
        clear hr
        go_wp2_with fail
        go_loopw [119] (fun q wr => ∃ k : Nat, k ≤ n2 ∧ q = .int .i64 k ∧ Gr w2 wr ∧ runR (fun c o => rnodeF m l f c (b - 1) o) m op ((x.ch.zip CS).drop k) = runR (fun c o => rnodeF m l f c (b - 1) o) m op (x.ch.zip CS)) (fun q _ => n2 - (intOf q).toNat)
        case atStart => exact ⟨0, Nat.zero_le _, rfl, Gr.refl _, by rw [List.drop_zero]⟩
        case round =>
          obtain ⟨k, hk, rfl, hG, hrun⟩ := hrel
          have HG := Lib.hid hG
          have HRUN := Lib.hid hrun
          have f0 := hG.cell f0
          have f1 := hG.cell f1
          have fp0 := hG.cell fp0
          have fp1 := hG.cell fp1
          have fx1 := hG.cell fx1
          have fx2 := hG.cell fx2
          have fx3 := hG.cell fx3
          have fx4 := hG.cell fx4
          have l3 : w.heap.size + 1 + 1 < wr.heap.size := World.block_lt_of_cell? _ _ fx3
          have l2 : w.heap.size + 1 < wr.heap.size := by omega
          have l1 : w.heap.size < wr.heap.size := by omega
          clear hG hrun
          by_cases hlt : k < n2
          · rcases HCS.out with ⟨h0, _⟩ | ⟨hne1, b1, o1, c1', hsl, _, hcell⟩
            · have := HN2.out; rw [h0] at this; simp at this; omega
            · rw [← HN2.out] at hsl
              simp only [Value.slice.injEq] at hsl
              obtain ⟨rfl, -, rfl⟩ := hsl
              rcases H6.out.1 with ⟨h0, _⟩ | ⟨hne2, b2, o2, c2', hsl2, hcell2⟩
              · have := HCN.out; rw [h0] at this; simp at this; omega
              · rw [← HCN.out] at hsl2
                simp only [Value.slice.injEq] at hsl2
                obtain ⟨rfl, -, rfl⟩ := hsl2
                have hx := HG.out.cell (hcell k (by rw [← HN2.out]; exact hlt))
                have hy := (HX2.out.trans HG.out).cell (hcell2 k (by rw [← HCN.out]; exact hlt))
                have hs64 := HLT.out (CS.getD k 0) (by rw [List.getD_eq_getElem?_getD, List.getElem?_eq_getElem (by rw [← HN2.out]; exact hlt)]; simp)
                have hch := HW7.out (x.ch.getD k 0) (by rw [List.getD_eq_getElem?_getD, List.getElem?_eq_getElem (by rw [← HCN.out]; exact hlt)]; simp)
                have hst := runR_step (fun c o => rnodeF m l f c (b - 1) o) m op x.ch CS k (by rw [← HCN.out]; exact hlt) (by rw [← HN2.out]; exact hlt)
                rw [HRUN.out, ← HR.out] at hst
                obtain ⟨s, hss⟩ : ∃ s, s = CS.getD k 0 := ⟨_, rfl⟩
                obtain ⟨y, hyy⟩ : ∃ y, y = x.ch.getD k 0 := ⟨_, rfl⟩
                rw [← hss] at hx hs64 hst
                rw [← hyy] at hy hch hst
                have HST := Lib.hid hst
                have lbx := World.block_lt_of_cell? _ _ hx
                have lby := World.block_lt_of_cell? _ _ hy
                simp only [] at lbx lby
                rw [← HL.out] at hch
                have hbd : ∀ c ∈ withoutF m op s, c.1 < 64 ∧ c.2 < 64 := fun c hc => HBB.out c (List.mem_filter.1 hc).1
                have HBD := Lib.hid hbd
                have hwl : (withoutF m op s).length < 1000 := Nat.lt_of_le_of_lt (List.length_filter_le _ _) (by rw [← HON.out]; exact hol)
                obtain ⟨bb, hbb⟩ : ∃ bb, bb = b - 1 := ⟨_, rfl⟩
                have hbi : (b : Int) - 1 = (bb : Int) := by omega
                have hwr : IntKind.i64.wrap (b : Int) = (b : Int) := by rw [IntKind.wrap_i64]; omega
                have hwr2 : IntKind.i64.wrap (bb : Int) = (bb : Int) := by rw [IntKind.wrap_i64]; omega
                rw [← hbb] at HST
                have HBE := Lib.hid hbb
                have hsm : m.small := HM.out.1
                clear hcell hcell2 hss hyy hst hbd hbb
                go_wp2_with fail
                go_region_held3 (fun w' => Gr wr w' ∧ w'.cell? ⟨w.heap.size, 0, none⟩ = some (.int .i64 (C : Int)) ∧ w'.cell? ⟨w.heap.size, 1, none⟩ = some (.slice pu R cu) ∧ w'.cell? ⟨w.heap.size + 1, 0, none⟩ = some (.int .i64 size) ∧ w'.cell? ⟨w.heap.size + 1, 1, none⟩ = some (.slice (some ⟨bl, ol, none⟩) L cl) ∧ w'.cell? ⟨w.heap.size + 1 + 1, 3, none⟩ = some (.slice (some ⟨b2, o2, none⟩) n2 c1) ∧ w'.cell? ⟨b2, o2 + k, none⟩ = some (.int .i64 (y : Int)))
                  (first | exact ⟨(Gr.refl wr).drew, f0, f1, fp0, fp1, fx3, hy⟩ | (have hh := ‹Gr wr _ ∧ _ ∧ _ ∧ _ ∧ _ ∧ _ ∧ _›; exact ⟨hh.1.trans hx1, hx1.cell hh.2.1, hx1.cell hh.2.2.1, hx1.cell hh.2.2.2.1, hx1.cell hh.2.2.2.2.1, hx1.cell hh.2.2.2.2.2.1, hx1.cell hh.2.2.2.2.2.2⟩) | (have hh := ‹Gr wr _ ∧ _ ∧ _ ∧ _ ∧ _ ∧ _ ∧ _›; exact ⟨(hh.1).setCell (by simp only []; omega) _, cell?_setCell_ne (hh.2.1) (by simp <;> omega), cell?_setCell_ne (hh.2.2.1) (by simp <;> omega), cell?_setCell_ne (hh.2.2.2.1) (by simp <;> omega), cell?_setCell_ne (hh.2.2.2.2.1) (by simp <;> omega), cell?_setCell_ne (hh.2.2.2.2.2.1) (by simp <;> omega), cell?_setCell_ne (hh.2.2.2.2.2.2) (by simp <;> omega)⟩))
                  (first | (go_at_call 74; have hh := ‹Gr wr _ ∧ _ ∧ _ ∧ _ ∧ _ ∧ _ ∧ _›; (with_reducible refine (without47_any _ _ m op s _ (HV.out.gr (HX2.out.trans (HG.out.trans hh.1))) hsm (HC.out.gr (HX2.out.trans (HG.out.trans hh.1))) HBB.out (by rw [← HON.out]; exact hol) hs64).mono ?_); rintro e w1 ⟨⟨pw, cw, rfl, hcw⟩, hx1⟩) | (go_at_call 33; have hh := ‹Gr wr _ ∧ _ ∧ _ ∧ _ ∧ _ ∧ _ ∧ _›; (with_reducible refine (HIH.out y (withoutF m op s) bb _ _ _ _ (HV.out.gr (HX2.out.trans (HG.out.trans hh.1))) (HP.out.gr (HX2.out.trans (HG.out.trans hh.1))) hcw HBD.out hwl (by rw [← HL.out]; omega) (by have := HF.out; rw [← HL.out] at this ⊢; omega) (by omega)).mono ?_); rintro e w1 ⟨rfl, hx1⟩))
                have hfin := ‹Gr wr _ ∧ _ ∧ _ ∧ _ ∧ _ ∧ _ ∧ _›
                have HGf := Lib.hid (HG.out.trans hfin.1)
                have hst := HST.out
                generalize rnodeF m l f y bb (withoutF m op s) = r at *
                clear hfin hh
                by_cases hr1 : r.1 = 1
                · rw [if_pos hr1] at hst
                  have HST2 := Lib.hid hst
                  have hz1 : (((r.1 : Nat) : Int) != 1) = false := by rw [hr1]; rfl
                  clear hst hr1
                  go_wp2
                  go_roundw
                  case rel => exact ⟨k + 1, by omega, by go_num, HGf.out, by rw [← HBE.out, ← HST2.out, HBE.out]; exact HR.out⟩
                  case measure => simp [intOf]; omega
                · rw [if_neg hr1] at hst
                  have HST2 := Lib.hid hst
                  have hz1 : (((r.1 : Nat) : Int) != 1) = true := by simp; omega
                  clear hst hr1
                  go_wp2
                  go_ret2
                  exact ⟨by rw [← HBE.out, HST2.out]; rfl, HX2.out.trans HGf.out⟩
          · obtain rfl : k = n2 := by omega
            have hfin : (x.ch.zip CS).drop k = [] := List.drop_of_length_le (by rw [List.length_zip, ← HCN.out, ← HN2.out]; omega)
            have hr2 := HRUN.out
            rw [hfin] at hr2
            have HR2 := Lib.hid hr2
            clear hfin hr2
            go_wp2
            go_ret2
            exact ⟨by rw [HR.out, ← HR2.out]; rfl, HX2.out.trans HG.out⟩
      · have hr := HBR.out
        rw [if_pos hne] at hr
        have HR := Lib.hid hr
        have hz1 : ((n2 : Int) != (cn : Int)) = true := by simp; omega
        clear hr hne
        go_wp2
        go_ret2
        exact ⟨by rw [HR.out]; rfl, HX2.out⟩

set_option maxHeartbeats 1000000 in
set_option maxRecDepth 100000 in
theorem rnode_other (v v2 v3 : Value) (m : Mat) (size : Int) (l : List Nd) (n b : Nat) (op : List (Nat × Nat)) (x : Nd) (w : World) (hv : RMatV w v m) (hm : m.good) (hp : RPfV w v2 size l) (hll : l.length < 1000) (hc : Cells w v3 op) (hbb : ∀ c ∈ op, c.1 < 64 ∧ c.2 < 64) (hol : op.length < 1000) (hn : n < l.length) (hx : l.getD n default = x) (hw : wellNode l n x) (hb : b < 1000) (hk1 : x.kind ≠ 1) (hk2 : x.kind ≠ 2) (hk3 : x.kind ≠ 3) :
    Calls Tryd.prog 33 #[v, v2, .int .i64 (n : Int), .int .i64 (b : Int), v3] w (RetR (1, 0) w) := by
  have HV := Lib.hid hv
  have HP := Lib.hid hp
  have HC := Lib.hid hc
  have HBB := Lib.hid hbb
  have HM := Lib.hid hm
  obtain ⟨u, rfl, hu⟩ := hv
  obtain ⟨pu, cu, rfl⟩ := hu.slice
  obtain ⟨up, rfl, hun⟩ := hp
  obtain ⟨bl, ol, cl, rfl, hlc, hat⟩ := hun.at n hn
  obtain ⟨po, co, rfl⟩ := hc.slice
  obtain ⟨p1, c1, p2, c2, h1, h2, h3, h4, h5, h6, h7⟩ := hat
  have hbl := World.block_lt_of_cell? _ _ h1
  simp only [] at hbl
  rw [hx] at h1 h2 h3 h4 h5 h6 h7
  have H6 := Lib.hid h6
  have H7 := Lib.hid h7
  obtain ⟨hw1, hw2, hw3, hw4, hw5, hw6, hw7⟩ := hw
  have HW6 := Lib.hid hw6
  have HW7 := Lib.hid hw7
  obtain ⟨C, hC⟩ : ∃ C, C = m.cols := ⟨_, rfl⟩
  have HCC := Lib.hid hC
  have hC6 := hm.1.1
  rw [← hC] at hC6 HV ⊢
  generalize m.rows.length = R at *
  obtain ⟨L, hL⟩ : ∃ L, L = l.length := ⟨_, rfl⟩
  have HL := Lib.hid hL
  rw [← hL] at hn hll hlc HP ⊢
  obtain ⟨on, hon⟩ : ∃ on, on = op.length := ⟨_, rfl⟩
  have HON := Lib.hid hon
  rw [← hon] at hol HC ⊢
  obtain ⟨cn, hcn⟩ : ∃ cn, cn = x.ch.length := ⟨_, rfl⟩
  have HCN := Lib.hid hcn
  rw [← hcn] at h4 hw4 H6
  obtain ⟨en, hen⟩ : ∃ en, en = x.ce.length := ⟨_, rfl⟩
  have HEN := Lib.hid hen
  rw [← hen] at h5 hw5 H7
  have hz1 : ((x.kind : Int) == 1) = false := by simp; omega
  have hz2 : ((x.kind : Int) == 2) = false := by simp; omega
  have hz3 : ((x.kind : Int) == 3) = false := by simp; omega
  clear hu hun hm hc hbb h6 h7 hw6 hw7 hC hL hon hcn hen hx
  clear hk1 hk2 hk3
  go_enter Tryd.func33, Tryd.ntmps33
  go_wp2
  go_ret2
  exact ⟨rfl, by repeat (first | exact Gr.refl _ | refine Gr.alloc ?_ _)⟩

/-- ref47.node -/
theorem rnode_any (m : Mat) (size : Int) (l : List Nd) (hm : m.good) (hll : l.length < 1000) (hw : ∀ i, i < l.length → wellNode l i (l.getD i default)) : ∀ f, RNodeOk m size l f := by
  intro f
  induction f with
  | zero => intro n op b v v2 v3 w _ _ _ _ _ hn hf; omega
  | succ f ih =>
    intro n op b v v2 v3 w hv hp hc hbb hol hn hf hb
    by_cases h2 : (l.getD n default).kind = 2
    · have e : rnodeF m l (f + 1) n b op = rfool m (l.getD n default) n op b := by simp only [rnodeF]; rw [if_pos h2]
      rw [e]
      exact rnode_fool v v2 v3 m size l n b op _ w hv hm hp hll hc hbb hol hn rfl (hw n hn) hb h2
    · by_cases h3 : (l.getD n default).kind = 3
      · have e : rnodeF m l (f + 1) n b op = rcount m n op b := by simp only [rnodeF]; rw [if_neg h2, if_pos h3]
        rw [e]
        exact rnode_count v v2 v3 m size l n b op _ w hv hm hp hll hc hbb hol hn rfl (hw n hn) hb h3
      · by_cases h1 : (l.getD n default).kind = 1
        · have e : rnodeF m l (f + 1) n b op = rbranch m (fun c o => rnodeF m l f c (b - 1) o) (l.getD n default) n op b := by simp only [rnodeF]; rw [if_neg h2, if_neg h3, if_pos h1]
          rw [e]
          exact rnode_branch v v2 v3 m size l n b op _ w hv hm hp hll hc hbb hol hn rfl (hw n hn) hb h1 f hf ih
        · have e : rnodeF m l (f + 1) n b op = (1, 0) := by simp only [rnodeF]; rw [if_neg h2, if_neg h3, if_neg h1]
          rw [e]
          exact rnode_other v v2 v3 m size l n b op _ w hv hm hp hll hc hbb hol hn rfl (hw n hn) hb h1 h2 h3
end Go.Proofs.YtcmlhpodghfheaaDoor
