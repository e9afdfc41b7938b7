/- rank.greatest. -/
import Derived.Test.YtcmlhpodghfheaaDoorG9
import Derived.Test.YtcmlhpodghfheaaDoorR4
set_option linter.unusedSimpArgs false
set_option linter.unusedVariables false
namespace Go.Proofs.YtcmlhpodghfheaaDoor
open Go.RowKit Go.Shelf
attribute [local go_sem] Oper.semAt_some

/-- How many of the open ones a concept contains. -/
def inCon (open_ : List Nat) (c : Con) : Nat := (mems c.r).foldl (fun n i => n + pop (open_.getD i 0 &&& c.c)) 0
def Mat.great (m : Mat) (open_ : List Nat) (k : Nat) : Nat := (List.range k).foldl (fun out mask => max out (inCon open_ (m.con mask))) 0

theorem great_succ (m : Mat) (o : List Nat) (k : Nat) : m.great o (k + 1) = max (m.great o k) (inCon o (m.con k)) := by simp [Mat.great, List.range_succ]
theorem foldl_pop_le (o : List Nat) (c : Nat) (l : List Nat) (n : Nat) : l.foldl (fun n i => n + pop (o.getD i 0 &&& c)) n ≤ n + 6 * l.length := by
  induction l generalizing n with
  | nil => simp
  | cons a l ih =>
    have h1 := ih (n + pop (o.getD a 0 &&& c))
    have h2 := pop_le (o.getD a 0 &&& c)
    simp only [List.foldl_cons, List.length_cons] at *
    omega
theorem inCon_le (o : List Nat) (c : Con) : inCon o c ≤ 36 := by
  have h1 := foldl_pop_le o c.c (mems c.r) 0
  have h2 := mems_len c.r
  unfold inCon
  omega
theorem great_le (m : Mat) (o : List Nat) (k : Nat) : m.great o k ≤ 36 := by
  induction k with
  | zero => simp [Mat.great]
  | succ k ih => rw [great_succ]; have := inCon_le o (m.con k); omega

theorem hav_bit (m : Mat) (hm : m.small) (s i : Nat) (h : (m.hav s).testBit i = true) : i < m.rows.length := by
  have key : ∀ (l : List Nat) (t : Nat), (l.foldl (fun s j => if j < m.cols then s &&& m.col j else s) t).testBit i = true → t.testBit i = true := by
    intro l
    induction l with
    | nil => intro t h; exact h
    | cons a l ih =>
      intro t h
      have := ih _ h
      dsimp only at this
      split at this
      · rw [Nat.testBit_and, Bool.and_eq_true] at this; exact this.1
      · exact this
  have := key _ _ h
  rcases Nat.lt_or_ge i m.rows.length with hi | hi
  · exact hi
  · have hb : belowN m.rows.length < 2 ^ i := by
      unfold belowN
      have := Nat.pow_le_pow_right (show 0 < 2 by omega) hi
      have := Nat.two_pow_pos m.rows.length
      omega
    rw [Nat.testBit_lt_two_pow hb] at this
    cases this

theorem pow_wrap {n : Nat} (h : n ≤ 6) : wrap64 ((2 : Int) ^ n) = ((2 ^ n : Nat) : Int) := by
  rcases (by omega : n = 0 ∨ n = 1 ∨ n = 2 ∨ n = 3 ∨ n = 4 ∨ n = 5 ∨ n = 6) with h | h | h | h | h | h | h <;> subst h <;> (first | kernel_rfl | simp [wrap64])

/-- The first bits of a mask. -/
def firstBits (mask k : Nat) : Nat := (List.range k).foldl (fun s j => if mask.testBit j then s ||| 2 ^ j else s) 0
theorem firstBits_succ (mask k : Nat) : firstBits mask (k + 1) = if mask.testBit k then firstBits mask k ||| 2 ^ k else firstBits mask k := by simp [firstBits, List.range_succ]
theorem firstBits_all : ∀ n, n ≤ 6 → ∀ mask, mask < 2 ^ n → firstBits mask n = mask := by
  have h : ∀ n, n < 7 → ∀ mask, mask < 2 ^ n → firstBits mask n = mask := by decide +kernel
  exact fun n hn => h n (by omega)
theorem firstBits_lt (mask k : Nat) (hk : k ≤ 6) : firstBits mask k < 64 := by
  induction k with
  | zero => simp [firstBits]
  | succ k ih =>
    rw [firstBits_succ]
    have h := ih (by omega)
    split
    · exact Nat.or_lt_two_pow (n := 6) h (Nat.pow_lt_pow_right (by omega) (by omega))
    · exact h

set_option maxHeartbeats 1000000 in
/-- rank.greatest -/
theorem greatest_any (v v2 : Value) (m : Mat) (o : List Nat) (w : World) (hv : MatV w v m) (hm : m.small) (ho : Sets w v2 o) (hl : o.length = m.rows.length) (ho6 : ∀ x ∈ o, x < 64) (ht : TabOk w) :
    Calls Tryd.prog 64 #[v, v2] w fun e w' => e = .returned (.int .i64 ((m.great o (2 ^ m.cols) : Nat) : Int)) ∧ Gr w w' := by
  have hv0 := Lib.hid hv
  have hm' := Lib.hid hm
  have ht' := Lib.hid ht
  have ho' := Lib.hid ho
  have hok := Lib.hid hm.ok
  have h66 := Lib.hid ho6
  have HLn := Lib.hid hl
  obtain ⟨p, c, rfl⟩ := ho.slice
  have hc6 := hm.1
  obtain ⟨bm, um, rfl, _, _, _⟩ := hv
  clear hm ht ho ho6 hl
  refine (callsIn_wide (n := 6)).1 ?_
  refine callsIn_of_wp_marks Tryd.func64 rfl trivial ?_ rfl
  refine wpIn_wide.2 ?_
  simp only [Tryd.ntmps64, List.size_toArray, List.length_cons, List.length_nil, Nat.reduceAdd, Nat.reduceSub, Array.replicate_succ, Array.replicate_zero, List.push_toArray, List.append_toArray, List.nil_append, List.cons_append]
  go_wp2_with (go_at_call 15; refine (columns_any _ m _ (hv0.out.gr (by repeat (first | exact Gr.refl _ | refine Gr.alloc ?_ _))) hok.out).mono ?_; rintro e w' ⟨rfl, rfl⟩)
  rw [pow_wrap hc6]
  obtain ⟨C, hC⟩ : ∃ C, C = m.cols := ⟨_, rfl⟩
  rw [← hC] at hc6 ⊢
  have HC := Lib.hid hC
  clear hC
  have hM6 : 2 ^ C ≤ 2 ^ 6 := Nat.pow_le_pow_right (by omega) hc6
  generalize hM : 2 ^ C = M at *
  have HM := Lib.hid hM
  clear hM
  refine name_wp fun W0 hW0 => ?_
  have hX0 : Gr w W0 := by rw [hW0]; repeat (first | exact Gr.refl _ | refine Gr.alloc ?_ _)
  have f0 : W0.cell? ⟨w.heap.size, 0, none⟩ = some (.slice p o.length c) := by rw [hW0]; go_simp
  clear hW0
  have HX0 := Lib.hid hX0
  clear hX0
  refine wp_loop_k (fun a wr => ∃ (ds : List Deferred) (u6 u7 u8 u9 u10 u11 u16 u17 u18 u19 u20 u21 u22 u23 u24 u25 u26 u27 u28 u29 u30 u31 u32 u33 u34 u35 u36 u37 u38 u39 u40 u41 u42 u43 u44 u45 u46 u47 u48 u49 u50 u51 u52 u53 : Value) (k : Nat), a = { tmps := #[.pointer (some ⟨bm, 0, none⟩), .slice p o.length c, undef, .pointer (some ⟨w.heap.size, 0, none⟩), .int .i64 0, .int .i64 ((m.great o k : Nat) : Int), u6, u7, u8, u9, u10, u11, .pointer (some ⟨bm, 0, none⟩), .int .i64 ((C : Nat) : Int), .int .i64 ((M : Nat) : Int), .int .i64 ((k : Nat) : Int), u16, u17, u18, u19, u20, u21, u22, u23, u24, u25, u26, u27, u28, u29, u30, u31, u32, u33, u34, u35, u36, u37, u38, u39, u40, u41, u42, u43, u44, u45, u46, u47, u48, u49, u50, u51, u52, u53], defers := ds } ∧
      k ≤ M ∧ Gr W0 wr ∧ MarksAt W0.heap.size wr ds) (fun a _ => M - (intOf (a.tmps.getD 15 undef)).toNat) ?start ?round
  case start => exact ⟨[], _, _, _, _, _, _, _, _, _, _, _, _, _, _, _, _, _, _, _, _, _, _, _, _, _, _, _, _, _, _, _, _, _, _, _, _, _, _, _, _, _, _, _, _, 0, (by rw [show m.great o 0 = 0 from rfl]; rfl), Nat.zero_le _, Gr.refl _, MarksAt.nil _ _⟩
  case round =>
    rintro a wo ⟨ds, u6, u7, u8, u9, u10, u11, u16, u17, u18, u19, u20, u21, u22, u23, u24, u25, u26, u27, u28, u29, u30, u31, u32, u33, u34, u35, u36, u37, u38, u39, u40, u41, u42, u43, u44, u45, u46, u47, u48, u49, u50, u51, u52, u53, k, rfl, hk, hG, hmk⟩ K hK
    have HK := Lib.hid hK
    have HG := Lib.hid hG
    have HMK := Lib.hid hmk
    clear hK hG hmk
    by_cases hlt : k < M
    · go_wp2_with (go_at_call 15; refine (columns_any _ m _ (hv0.out.gr ((HX0.out.trans HG.out).trans ((Gr.refl _).alloc _))) hok.out).mono ?_; rintro e w' ⟨rfl, rfl⟩; rw [← HC.out])
      refine name_wp fun W hW => ?_
      have f1 : W.cell? ⟨wo.heap.size, 0, none⟩ = some (.slice none 0 0) := by rw [hW]; go_simp
      have f2 : W.frozen? ⟨wo.heap.size, 0, none⟩ = false := by rw [hW]; go_simp
      have hGW : Gr wo W := by rw [hW]; exact (Gr.refl _).alloc _
      have HGW := Lib.hid hGW
      clear hW hGW
      go_loopw [20] (fun q wr => ∃ j : Nat, j ≤ C ∧ q = .int .i64 j ∧ Gr wo wr ∧ wr.frozen? ⟨wo.heap.size, 0, none⟩ = false ∧ ∃ p n c, wr.cell? ⟨wo.heap.size, 0, none⟩ = some (.slice p n c) ∧ Words wr (.slice p n c) (firstBits k j)) (fun q _ => C - (intOf q).toNat)
      case atStart => exact ⟨0, Nat.zero_le _, rfl, HGW.out, f2, _, _, _, f1, .inl ⟨rfl, _, _, rfl⟩⟩
      case round =>
        obtain ⟨j, hj, rfl, hGr, g2, p8, n8, c8, g1, hw8⟩ := hrel
        have HGr := Lib.hid hGr
        have HW8 := Lib.hid hw8
        have l7 : wo.heap.size < wr.heap.size := World.block_lt_of_cell? _ _ g1
        clear hGr hw8
        by_cases hlj : j < C
        · have hsb := bit_i64 k j (by omega)
          have hst := firstBits_succ k j
          cases hbt : k.testBit j with
          | true =>
            rw [hbt] at hsb hst
            simp only [if_true] at hst
            have HST := Lib.hid hst
            clear hst hbt
            go_wp2_with fail
            refine (with_any _ (firstBits k j) j _ ⟨_, rfl, HW8.out⟩ (by omega)).mono ?_
            rintro e w9 ⟨p9, n9, c9, rfl, hv9, hx9⟩
            have g1' := hx9.gr.cell g1
            have g2' := hx9.gr.frz g1 g2
            have HG9 := Lib.hid (HGr.out.trans hx9.gr)
            rw [← HST.out] at hv9
            have HV9 := Lib.hid hv9
            have l9 : wo.heap.size < w9.heap.size := World.block_lt_of_cell? _ _ g1'
            clear hv9 hx9 g1 g2 HW8
            go_wp2
            go_roundw
            case rel =>
              refine ⟨j + 1, by omega, by go_num, HG9.out.setCell (by simp) _, (World.frozen?_setCell _ _ _ _).trans g2', p9, n9, c9, World.cell?_setCell_same' _ _ _ (by rw [g1']; rfl), ?_⟩
              exact HV9.out.words.setCell (by simp) g1' _
            case measure => simp [intOf]; omega
          | false =>
            rw [hbt] at hsb hst
            simp only [Bool.false_eq_true, if_false] at hst
            have HST := Lib.hid hst
            clear hst hbt
            go_wp2
            go_roundw
            case rel =>
              refine ⟨j + 1, by omega, by go_num, HGr.out, g2, p8, n8, c8, g1, ?_⟩
              rw [HST.out]; exact HW8.out
            case measure => simp [intOf]; omega
        · obtain rfl : j = C := by omega
          have hS : firstBits k j = k := firstBits_all j hc6 k (by rw [HM.out]; exact hlt)
          rw [hS] at HW8
          clear hS
          go_wp2_with fail
          refine (conof_any _ _ m k _ (hv0.out.gr ((HX0.out.trans HG.out).trans HGr.out)) hm'.out ⟨_, rfl, HW8.out⟩ (by omega) (ht'.out.gr ((HX0.out.trans HG.out).trans HGr.out))).mono ?_
          rintro e w9 ⟨p1, n1, c1, p2, n2, c2, rfl, hcon, hx9⟩
          have HCON := Lib.hid hcon
          have HG9 := Lib.hid (HGr.out.trans hx9)
          clear hcon hx9 g1 g2 HW8
          go_wp2_with (go_at_call 67; refine (all_any (.slice p1 n1 c1) _).mono ?_; rintro e w10 ⟨rfl, hw10⟩)
          have k1 : w10.cell? ⟨w9.heap.size, 1, none⟩ = some (.slice p2 n2 c2) := by rw [← hw10]; clear hw10; go_simp
          have k2 : w10.cell? ⟨w9.heap.size + 1, 0, none⟩ = some (.int .i64 0) := by rw [← hw10]; clear hw10; go_simp
          have k3 : w10.frozen? ⟨w9.heap.size + 1, 0, none⟩ = false := by rw [← hw10]; clear hw10; go_simp
          have k4 : w10.cell? ⟨w9.heap.size + 1 + 1, 0, none⟩ = some (.slice p1 n1 c1) := by rw [← hw10]; clear hw10; go_simp
          have hG10 : Gr w9 w10 := by rw [← hw10]; repeat (first | exact Gr.refl _ | refine Gr.alloc ?_ _)
          have hsz : w10.heap.size = w9.heap.size + 1 + 1 + 1 := by rw [← hw10]; simp
          clear hw10
          have HG10 := Lib.hid (HG9.out.trans hG10)
          have HGw10 := Lib.hid ((HX0.out.trans HG.out).trans HG10.out)
          have k0 := ((HG.out.trans HG10.out)).cell f0
          have hMK10 := HMK.out.gr HG10.out
          obtain ⟨ca, cb, hcab, hwa, hwb⟩ := HCON.out
          simp at hcab
          obtain ⟨rfl, rfl⟩ := hcab
          have hw1 := hwa.gr hG10
          have hw2 := Lib.hid (hwb.gr hG10)
          have hs0 : SetV w10 (.agg #[.slice p1 n1 c1]) (m.con k).r := ⟨_, rfl, hw1⟩
          have hw1' := Lib.hid hw1
          have h0l : w.heap.size < w9.heap.size := by have := HX0.out.size; have := HG.out.size; have := HG9.out.size; have := World.block_lt_of_cell? _ _ f0; simp only [] at this; omega
          clear hwa hwb hw1 hG10
          refine wp_rangeSet (B := w9.heap.size + 1 + 1) (u := .slice p1 n1 c1) (s := (m.con k).r) rfl rfl k4 hs0 (hav_lt hm'.out k) (ht'.out.gr HGw10.out)
            (fun pre W => Gr wo W ∧ MarksAt W0.heap.size W ds ∧ W.cell? ⟨w.heap.size, 0, none⟩ = some (.slice p o.length c) ∧ W.cell? ⟨w9.heap.size, 1, none⟩ = some (.slice p2 n2 c2) ∧ Words W (.slice p2 n2 c2) (m.con k).c ∧ W.frozen? ⟨w9.heap.size + 1, 0, none⟩ = false ∧
              W.cell? ⟨w9.heap.size + 1, 0, none⟩ = some (.int .i64 (((pre.map (·.1)).foldl (fun n i => n + pop (o.getD i 0 &&& (m.con k).c)) 0 : Nat) : Int)))
            ?hI ⟨HG10.out, hMK10, k0, k1, hw2.out, k3, k2⟩ (fun b => b = w9.heap.size + 1) (by omega) ?hlow ?htl
            (fun x => { tmps := #[.pointer (some ⟨bm, 0, none⟩), .slice p o.length c, undef, .pointer (some ⟨w.heap.size, 0, none⟩), .int .i64 0, .int .i64 ((m.great o k : Nat) : Int), .int .i64 ((k : Nat) : Int), .pointer (some ⟨wo.heap.size, 0, none⟩), u8, .pointer (some ⟨w9.heap.size, 0, none⟩), .pointer (some ⟨w9.heap.size + 1, 0, none⟩), .int .i64 ((x.1 : Nat) : Int),
              .pointer (some ⟨bm, 0, none⟩), .int .i64 ((j : Nat) : Int), .int .i64 ((M : Nat) : Int), .int .i64 ((k : Nat) : Int), .bool true, .int .i64 ((k : Nat) : Int), .pointer (some ⟨bm, 0, none⟩), .int .i64 ((j : Nat) : Int), .int .i64 ((j : Nat) : Int), .bool false, u22, u23, u24, u25, u26, u27, u28, u29, u30, u31, .pointer (some ⟨bm, 0, none⟩), .agg #[.slice p8 n8 c8], .agg #[.slice p1 n1 c1, .slice p2 n2 c2], .pointer (some ⟨w9.heap.size, 0, none⟩), .agg #[.slice p1 n1 c1],
              .func (.func 104) #[] #[.pointer (some ⟨w9.heap.size + 1 + 1, 0, none⟩)], .int .i64 ((x.1 : Nat) : Int), u39, u40, u41, u42, u43, u44, u45, u46, u47, u48, u49, u50, u51, u52, u53], defers := [] }) ?assign ?body ?done
          case hI =>
            rintro pre A C' row ⟨i1, i2, i3, i4, i5, i6, i7⟩ hg hr
            exact ⟨turn_below (by have := HG10.out.size; omega) hg hr i1, MarksAt.turn hg hr hMK10 (Nat.le_refl _) i2, turn_cell hg hr i3, turn_cell hg hr i4, turn_words hg hr i5, turn_frz hg hr i7 i6, turn_cell hg hr i7⟩
          case hlow =>
            intro b o' c' e
            rcases HCON.out with ⟨ca, cb, hcab, hwa, hwb⟩
            simp at hcab
            obtain ⟨rfl, rfl⟩ := hcab
            rw [e] at hwa
            rcases hwa with ⟨_, p', c'', he⟩ | ⟨_, _, b', o'', c'', he, hcc⟩
            · simp at he
            · simp only [Value.slice.injEq, Option.some.injEq, Addr.mk.injEq] at he
              obtain ⟨⟨rfl, _⟩, _⟩ := he
              have := World.block_lt_of_cell? _ _ hcc
              simp only [] at this
              omega
          case htl =>
            have := ht'.out.1
            omega
          case assign =>
            intro l x W K hK
            gi_wp2
            exact hK
          case body =>
            rintro l pre x W ⟨i1, i2, i3, i4, i5, i6, i7⟩ hlen
            have hxl : x.1 < o.length := by rw [HLn.out]; exact hav_bit m hm'.out k x.1 x.2.2
            obtain ⟨bb, oo, cc, y, hsl, hbb, hcy, hy⟩ := (ho'.out).at x.1 hxl
            obtain ⟨py, ny, cy, hyy⟩ := hy.words.slice
            subst hyy
            simp only [Value.slice.injEq] at hsl
            obtain ⟨rfl, -, rfl⟩ := hsl
            have HGW' := Lib.hid ((HX0.out.trans HG.out).trans i1)
            have hcyW := HGW'.out.cell hcy
            have HYW := Lib.hid (hy.gr HGW'.out)
            have HCW := Lib.hid i5
            have HM2 := Lib.hid i2
            have HI1 := Lib.hid i1
            have j3 : w.heap.size < W.heap.size := World.block_lt_of_cell? _ _ i3
            have j4 : w9.heap.size < W.heap.size := World.block_lt_of_cell? _ _ i4
            have j7 : w9.heap.size + 1 < W.heap.size := World.block_lt_of_cell? _ _ i7
            have hbbW : bb < W.heap.size := by omega
            have hpp := foldl_pop_le o (m.con k).c (pre.map (·.1)) 0
            rw [List.length_map] at hpp
            have hx6 : o.getD x.1 0 < 64 := h66.out _ (by rw [List.getD_eq_getElem?_getD, List.getElem?_eq_getElem hxl]; simp)
            have hpl := pop_le (o.getD x.1 0 &&& (m.con k).c)
            have ha64 : (o.getD x.1 0 &&& (m.con k).c) < 64 := Nat.lt_of_le_of_lt Nat.and_le_left hx6
            obtain ⟨N, hN⟩ : ∃ N, N = (pre.map (·.1)).foldl (fun n i => n + pop (o.getD i 0 &&& (m.con k).c)) 0 := ⟨_, rfl⟩
            rw [← hN] at i7 hpp
            have HNN := Lib.hid hN
            clear hN i1 i2 i5 hcy hy k0 k1 k2 k3 k4 hMK10
            have hmx : Tryd.prog.follows .mixedOrders = true := by kernel_rfl
            gi_wp2_with fail
            obtain ⟨PP, hPP⟩ : ∃ PP, PP = pop (o.getD x.1 0 &&& (m.con k).c) := ⟨_, rfl⟩
            rw [← hPP] at hpl
            have HPP := Lib.hid hPP
            clear hPP
            refine wpIn_mono (Q := fun e _ w3 => e = .normal ∧ ∃ W3, Gr W W3 ∧ w3 = W3.setCell ⟨w9.heap.size + 1, 0, none⟩ (.int .i64 ((N : Int) + (PP : Int)))) ?reg ?post
            case post =>
              rintro e a' w3 ⟨rfl, W3, hG3, rfl⟩
              have e7 := hG3.cell i7
              refine ⟨(gr_keepsFrom _ hG3).trans ((KeepsOthers.setCell _ _ _).from _), ((KeepBut.refl _ W).gr hG3).setCell (by simp) _, (HI1.out.trans hG3).setCell (by simp only []; have := HG9.out.size; omega) _, (HM2.out.gr hG3).setCell e7 _, cell?_setCell_ne (hG3.cell i3) (by simp <;> omega), cell?_setCell_ne (hG3.cell i4) (by simp <;> omega), (HCW.out.gr hG3).setCell (by simp) e7 _, (World.frozen?_setCell _ _ _ _).trans (hG3.frz i7 i6), ?_⟩
              rw [World.cell?_setCell_same' _ _ _ (by rw [e7]; rfl), HPP.out, HNN.out]
              simp
            case reg =>
              refine region_in (fun W' => W'.cell? ⟨w.heap.size, 0, none⟩ = some (.slice (some ⟨bb, oo, none⟩) o.length c) ∧ W'.cell? ⟨bb, oo + x.1, none⟩ = some (.slice py ny cy) ∧ W'.cell? ⟨w9.heap.size, 1, none⟩ = some (.slice p2 n2 c2)) hmx (by kernel_rfl) (fun ⟨_, _, h, _⟩ => by cases h) ⟨i3, hcyW, i4⟩ (fun hh => ?_)
              refine wpAnyH_take (i := 2) (v := .int .i64 ((x.1 : Nat) : Int)) rfl (by kernel_rfl) (by kernel_rfl) (by kernel_rfl) (fun _ _ _ h => h) (Or.inl ⟨by rfl, by intro w' hSw; (try dsimp only at hSw); go_simp⟩) (by assumption) ?_
              simp only [Act.put, List.setIfInBounds_toArray, List.set_cons_zero, List.set_cons_succ]
              refine wpAnyH_take (i := 5) (v := .pointer (some ⟨w9.heap.size, 1, none⟩)) rfl (by kernel_rfl) (by kernel_rfl) (by kernel_rfl) (fun _ _ _ h => h) (Or.inl ⟨by rfl, by intro w' hSw; (try dsimp only at hSw); go_simp⟩) (by assumption) ?_
              simp only [Act.put, List.setIfInBounds_toArray, List.set_cons_zero, List.set_cons_succ]
              refine wpAnyH_take (i := 1) (v := .slice (some ⟨bb, oo, none⟩) o.length c) rfl (by kernel_rfl) (by kernel_rfl) (by kernel_rfl) (fun _ _ _ h => h) (Or.inl ⟨by rfl, by intro w' hSw; (try dsimp only at hSw); go_simp⟩) (by assumption) ?_
              simp only [Act.put, List.setIfInBounds_toArray, List.set_cons_zero, List.set_cons_succ]
              refine wpAnyH_take (i := 3) (v := .pointer (some ⟨bb, oo + x.1, none⟩)) rfl (by kernel_rfl) (by kernel_rfl) (by kernel_rfl) (fun _ _ _ h => h) (Or.inl ⟨by rfl, by intro w' hSw; (try dsimp only at hSw); go_simp⟩) (by assumption) ?_
              simp only [Act.put, List.setIfInBounds_toArray, List.set_cons_zero, List.set_cons_succ]
              refine wpAnyH_take (i := 4) (v := .agg #[.slice py ny cy]) rfl (by kernel_rfl) (by kernel_rfl) (by kernel_rfl) (fun _ _ _ h => h) (Or.inl ⟨by rfl, by intro w' hSw; (try dsimp only at hSw); go_simp⟩) (by assumption) ?_
              simp only [Act.put, List.setIfInBounds_toArray, List.set_cons_zero, List.set_cons_succ]
              refine wpAnyH_take (i := 6) (v := .agg #[.slice p2 n2 c2]) rfl (by kernel_rfl) (by kernel_rfl) (by kernel_rfl) (fun _ _ _ h => h) (Or.inl ⟨by rfl, by intro w' hSw; (try dsimp only at hSw); go_simp⟩) (by assumption) ?_
              simp only [Act.put, List.setIfInBounds_toArray, List.set_cons_zero, List.set_cons_succ]
              refine wpAnyH_ready (rs := [0, 7]) (by kernel_rfl) (by simp) ?_
              refine AllReadyH.cons rfl (fun K hK => ?_) (AllReadyH.cons rfl (fun K hK => ?_) (AllReadyH.nil))
              · go_simp
                refine hK.out _ _ hh (fun hh => ?_)
                clear hK K
                try simp only [Act.put, List.setIfInBounds_toArray, List.set_cons_zero, List.set_cons_succ]
                refine wpAnyH_ready (rs := [7]) (by kernel_rfl) (by simp) ?_
                refine AllReadyH.cons rfl (fun K hK => ?_) AllReadyH.nil
                go_simp
                refine (and_any _ _ (o.getD x.1 0) (m.con k).c _ (HYW.out.gr (Gr.refl W).drew) ⟨_, rfl, HCW.out.gr (Gr.refl W).drew⟩).mono ?_
                rintro e w' ⟨q1, q2, q3, rfl, hq, hxq⟩
                have hxq' := hxq.gr; have i7' := hxq'.cell i7; have i6' := hxq'.frz i7 i6
                refine hK.out _ _ ⟨hxq'.cell hh.1, hxq'.cell hh.2.1, hxq'.cell hh.2.2⟩ (fun hh => ?_)
                clear hK K
                try simp only [Act.put, List.setIfInBounds_toArray, List.set_cons_zero, List.set_cons_succ]
                refine wpAnyH_ready (rs := [8]) (by kernel_rfl) (by simp) ?_
                refine AllReadyH.cons rfl (fun K hK => ?_) AllReadyH.nil
                go_simp
                refine (len_any _ (o.getD x.1 0 &&& (m.con k).c) _ hq ha64).mono ?_
                rintro e w' ⟨rfl, hxr⟩
                rw [← HPP.out]; have hxr' := hxr.gr; have i7'' := hxr'.cell i7'; have i6'' := hxr'.frz i7' i6'
                refine hK.out _ _ ⟨hxr'.cell hh.1, hxr'.cell hh.2.1, hxr'.cell hh.2.2⟩ (fun hh => ?_)
                clear hK K
                try simp only [Act.put, List.setIfInBounds_toArray, List.set_cons_zero, List.set_cons_succ]
                refine wpAnyH_take (i := 9) (v := .int .i64 ((N : Int) + (PP : Int))) rfl (by kernel_rfl) (by kernel_rfl) (by kernel_rfl) (fun _ _ _ h => h) (Or.inl ⟨by rfl, by intro w' hSw; (try dsimp only at hSw); go_simp; rw [IntKind.wrap_i64]; omega⟩) (by assumption) ?_
                simp only [Act.put, List.setIfInBounds_toArray, List.set_cons_zero, List.set_cons_succ]
                refine wpAnyH_ready (rs := [10]) (by kernel_rfl) (by simp) ?_
                refine AllReadyH.cons rfl (fun K hK => ?_) AllReadyH.nil
                go_simp
                refine hK.out _ _ ⟨cell?_setCell_ne hh.1 (by simp <;> omega), cell?_setCell_ne hh.2.1 (by simp <;> omega), cell?_setCell_ne hh.2.2 (by simp)⟩ (fun hh => ?_)
                clear hK K
                try simp only [Act.put, List.setIfInBounds_toArray, List.set_cons_zero, List.set_cons_succ]
                refine wpAnyH_done (by kernel_rfl) ?_ _
                exact ⟨rfl, _, ((Gr.refl W).drew.trans hxq').trans hxr', rfl⟩
              · go_simp
                refine (and_any _ _ (o.getD x.1 0) (m.con k).c _ (HYW.out.gr (Gr.refl W).drew) ⟨_, rfl, HCW.out.gr (Gr.refl W).drew⟩).mono ?_
                rintro e w' ⟨q1, q2, q3, rfl, hq, hxq⟩
                have hxq' := hxq.gr; have i7' := hxq'.cell i7; have i6' := hxq'.frz i7 i6
                refine hK.out _ _ ⟨hxq'.cell hh.1, hxq'.cell hh.2.1, hxq'.cell hh.2.2⟩ (fun hh => ?_)
                clear hK K
                try simp only [Act.put, List.setIfInBounds_toArray, List.set_cons_zero, List.set_cons_succ]
                refine wpAnyH_ready (rs := [0, 8]) (by kernel_rfl) (by simp) ?_
                refine AllReadyH.cons rfl (fun K hK => ?_) (AllReadyH.cons rfl (fun K hK => ?_) (AllReadyH.nil))
                · go_simp
                  refine hK.out _ _ hh (fun hh => ?_)
                  clear hK K
                  try simp only [Act.put, List.setIfInBounds_toArray, List.set_cons_zero, List.set_cons_succ]
                  refine wpAnyH_ready (rs := [8]) (by kernel_rfl) (by simp) ?_
                  refine AllReadyH.cons rfl (fun K hK => ?_) AllReadyH.nil
                  go_simp
                  refine (len_any _ (o.getD x.1 0 &&& (m.con k).c) _ hq ha64).mono ?_
                  rintro e w' ⟨rfl, hxr⟩
                  rw [← HPP.out]; have hxr' := hxr.gr; have i7'' := hxr'.cell i7'; have i6'' := hxr'.frz i7' i6'
                  refine hK.out _ _ ⟨hxr'.cell hh.1, hxr'.cell hh.2.1, hxr'.cell hh.2.2⟩ (fun hh => ?_)
                  clear hK K
                  try simp only [Act.put, List.setIfInBounds_toArray, List.set_cons_zero, List.set_cons_succ]
                  refine wpAnyH_take (i := 9) (v := .int .i64 ((N : Int) + (PP : Int))) rfl (by kernel_rfl) (by kernel_rfl) (by kernel_rfl) (fun _ _ _ h => h) (Or.inl ⟨by rfl, by intro w' hSw; (try dsimp only at hSw); go_simp; rw [IntKind.wrap_i64]; omega⟩) (by assumption) ?_
                  simp only [Act.put, List.setIfInBounds_toArray, List.set_cons_zero, List.set_cons_succ]
                  refine wpAnyH_ready (rs := [10]) (by kernel_rfl) (by simp) ?_
                  refine AllReadyH.cons rfl (fun K hK => ?_) AllReadyH.nil
                  go_simp
                  refine hK.out _ _ ⟨cell?_setCell_ne hh.1 (by simp <;> omega), cell?_setCell_ne hh.2.1 (by simp <;> omega), cell?_setCell_ne hh.2.2 (by simp)⟩ (fun hh => ?_)
                  clear hK K
                  try simp only [Act.put, List.setIfInBounds_toArray, List.set_cons_zero, List.set_cons_succ]
                  refine wpAnyH_done (by kernel_rfl) ?_ _
                  exact ⟨rfl, _, ((Gr.refl W).drew.trans hxq').trans hxr', rfl⟩
                · go_simp
                  refine (len_any _ (o.getD x.1 0 &&& (m.con k).c) _ hq ha64).mono ?_
                  rintro e w' ⟨rfl, hxr⟩
                  rw [← HPP.out]; have hxr' := hxr.gr; have i7'' := hxr'.cell i7'; have i6'' := hxr'.frz i7' i6'
                  refine hK.out _ _ ⟨hxr'.cell hh.1, hxr'.cell hh.2.1, hxr'.cell hh.2.2⟩ (fun hh => ?_)
                  clear hK K
                  try simp only [Act.put, List.setIfInBounds_toArray, List.set_cons_zero, List.set_cons_succ]
                  refine wpAnyH_ready (rs := [0]) (by kernel_rfl) (by simp) ?_
                  refine AllReadyH.cons rfl (fun K hK => ?_) AllReadyH.nil
                  go_simp
                  refine hK.out _ _ hh (fun hh => ?_)
                  clear hK K
                  try simp only [Act.put, List.setIfInBounds_toArray, List.set_cons_zero, List.set_cons_succ]
                  refine wpAnyH_take (i := 9) (v := .int .i64 ((N : Int) + (PP : Int))) rfl (by kernel_rfl) (by kernel_rfl) (by kernel_rfl) (fun _ _ _ h => h) (Or.inl ⟨by rfl, by intro w' hSw; (try dsimp only at hSw); go_simp; rw [IntKind.wrap_i64]; omega⟩) (by assumption) ?_
                  simp only [Act.put, List.setIfInBounds_toArray, List.set_cons_zero, List.set_cons_succ]
                  refine wpAnyH_ready (rs := [10]) (by kernel_rfl) (by simp) ?_
                  refine AllReadyH.cons rfl (fun K hK => ?_) AllReadyH.nil
                  go_simp
                  refine hK.out _ _ ⟨cell?_setCell_ne hh.1 (by simp <;> omega), cell?_setCell_ne hh.2.1 (by simp <;> omega), cell?_setCell_ne hh.2.2 (by simp)⟩ (fun hh => ?_)
                  clear hK K
                  try simp only [Act.put, List.setIfInBounds_toArray, List.set_cons_zero, List.set_cons_succ]
                  refine wpAnyH_done (by kernel_rfl) ?_ _
                  exact ⟨rfl, _, ((Gr.refl W).drew.trans hxq').trans hxr', rfl⟩
          case done =>
            rintro D xs W hD hxs ⟨i1, i2, i3, i4, i5, i6, i7⟩ hK
            rw [hxs] at i7
            change W.cell? _ = some (.int .i64 ((inCon o (m.con k) : Nat) : Int)) at i7
            have hgs := great_succ m o k
            have HI1 := Lib.hid i1
            have HM3 := Lib.hid (MarksAt.cons i2 hMK10 hD (by have := HG.out.size; have := HG10.out.size; omega) hK)
            generalize inCon o (m.con k) = N at *
            have HGS := Lib.hid hgs
            clear hgs i1 i2 hK i5
            by_cases hle : (m.great o k : Int) < N
            · have hg1 : m.great o (k + 1) = N := by rw [HGS.out]; omega
              have HG1 := Lib.hid hg1
              clear hg1
              go_wp2
              refine HK.out _ _ ⟨_, _, _, _, _, _, _, _, _, _, _, _, _, _, _, _, _, _, _, _, _, _, _, _, _, _, _, _, _, _, _, _, _, _, _, _, _, _, _, _, _, _, _, _, _, k + 1, by rw [HG1.out, show ((k + 1 : Nat) : Int) = (k : Int) + 1 from by omega], by omega, HG.out.trans HI1.out, HM3.out⟩ ?_
              simp [intOf]; omega
            · have hg1 : m.great o (k + 1) = m.great o k := by rw [HGS.out]; omega
              have HG1 := Lib.hid hg1
              clear hg1
              go_wp2
              refine HK.out _ _ ⟨_, _, _, _, _, _, _, _, _, _, _, _, _, _, _, _, _, _, _, _, _, _, _, _, _, _, _, _, _, _, _, _, _, _, _, _, _, _, _, _, _, _, _, _, _, k + 1, by rw [HG1.out, show ((k + 1 : Nat) : Int) = (k : Int) + 1 from by omega], by omega, HG.out.trans HI1.out, HM3.out⟩ ?_
              simp [intOf]; omega
    · obtain rfl : k = M := by omega
      go_wp2
      refine ret_marks HMK.out HX0.out.size (HX0.out.trans HG.out) (fun w' _ => results_tmp rfl _ _ _) (fun w' h _ => ⟨?_, h⟩)
      rw [← HC.out, HM.out]
      rfl
end Go.Proofs.YtcmlhpodghfheaaDoor
