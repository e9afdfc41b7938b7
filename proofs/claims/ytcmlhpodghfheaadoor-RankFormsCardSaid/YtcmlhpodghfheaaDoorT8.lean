/- ref44.New. -/
import Derived.Test.YtcmlhpodghfheaaDoorT4
import Derived.Test.YtcmlhpodghfheaaDoorF1
import Derived.Deep.RegionLaw
import Derived.StillTailTactics
import Derived.Test.YtcmlhpodghfheaaDoorR4
import Derived.OwnWalk
import Derived.Deep.RegionHeld3
set_option linter.unusedSimpArgs false
set_option linter.unusedVariables false
/- ref44.Make. -/
/- matrix.New, matrix.Of. -/
/- matrix.Of. -/
/- arbaclaw44.Matrix. -/
namespace Go.Proofs.YtcmlhpodghfheaaDoor
open Go.RowKit Go.Shelf

def RNewPost (r c : Nat) (w : World) (e : Ending) (w' : World) : Prop := ∃ u, e = .returned (.agg #[.int .i64 (c : Int), u]) ∧ Gr w w' ∧ Grid w' w.heap.size u r c (fun _ _ => false)

theorem made_row (c : Nat) (hc : c ≤ 1000) (w : World) : (Instr.makeSlice 79 (.int .i64 (c : Int)) (.int .i64 (c : Int))).run Tryd.prog w = .ok (.slice (some ⟨w.heap.size, 0, none⟩) c c) (w.alloc (.cells (madeCells #[.bool false] c) 4)) := by
  obtain ⟨i0, hi0, hz0, hz1, hz2⟩ := info_parts info_bool
  have h := run_make (P := Tryd.prog) w 79 4 i0 (.bool false) und_bools hi0 hz0 .i64 .i64 (c : Int) (c : Int) (by omega) (by omega) (by rw [hz2]; omega) (by omega)
  rw [hz1] at h
  simpa [Value.cells] using h
theorem load_rmat (w : World) (b : Nat) (x y : Value) (h1 : w.cell? ⟨b, 0, none⟩ = some x) (h2 : w.cell? ⟨b, 1, none⟩ = some y) : (loadVar 29 ⟨b, 0, none⟩).run Tryd.prog w = .ok (.agg #[x, y]) w := by
  simp [go_sem, h1, h2]

set_option maxHeartbeats 2000000 in
set_option maxRecDepth 100000 in
/-- ref44.New -/
theorem rnew_any (r c : Nat) (w : World) (hr : r ≤ 1000) (hc : c ≤ 1000) :
    Calls Tryd.prog 23 #[.int .i64 (r : Int), .int .i64 (c : Int)] w (RNewPost r c w) := by
  have hmk := made_row c hc
  go_enter Tryd.func23, Tryd.ntmps23
  go_wp2_with fail
  refine name_wp fun W hW => ?_
  have hX : Gr w W := by rw [hW]; repeat (first | exact Gr.refl _ | refine Gr.alloc ?_ _)
  have f0 : W.cell? ⟨w.heap.size + 1, 0, none⟩ = some (.int .i64 (c : Int)) := by rw [hW]; go_simp
  have f1 : W.cell? ⟨w.heap.size + 1, 1, none⟩ = some (.slice none 0 0) := by rw [hW]; go_simp
  have f2 : W.frozen? ⟨w.heap.size + 1, 1, none⟩ = false := by rw [hW]; go_simp
  have r0 : W.cell? ⟨w.heap.size, 0, none⟩ = some (.int .i64 0) := by rw [hW]; go_simp
  have r1 : W.cell? ⟨w.heap.size, 1, none⟩ = some (.slice none 0 0) := by rw [hW]; go_simp
  have r2 : W.frozen? ⟨w.heap.size, 0, none⟩ = false := by rw [hW]; go_simp
  have r3 : W.frozen? ⟨w.heap.size, 1, none⟩ = false := by rw [hW]; go_simp
  have hs : w.heap.size + 2 ≤ W.heap.size := World.block_lt_of_cell? _ _ f0
  clear hW
  go_loopw [6] (fun i wr => ∃ k : Nat, k ≤ r ∧ i = .int .i64 k ∧ Gr w wr ∧ wr.cell? ⟨w.heap.size + 1, 0, none⟩ = some (.int .i64 (c : Int)) ∧ wr.frozen? ⟨w.heap.size + 1, 1, none⟩ = false ∧ wr.cell? ⟨w.heap.size, 0, none⟩ = some (.int .i64 0) ∧ wr.cell? ⟨w.heap.size, 1, none⟩ = some (.slice none 0 0) ∧ wr.frozen? ⟨w.heap.size, 0, none⟩ = false ∧ wr.frozen? ⟨w.heap.size, 1, none⟩ = false ∧ W.heap.size ≤ wr.heap.size ∧
      ∃ p cp, wr.cell? ⟨w.heap.size + 1, 1, none⟩ = some (.slice p k cp) ∧ OwnGrid c wr W.heap.size (.slice p k cp) k) (fun i _ => r - (intOf i).toNat)
  case atStart => exact ⟨0, Nat.zero_le _, rfl, hX, f0, f2, r0, r1, r2, r3, Nat.le_refl _, none, 0, f1, OwnGrid.nil _ _ _⟩
  case round =>
    obtain ⟨k, hk, rfl, hG, g0, g2, q0, q1, q2, q3, hsz, p, cp, g1, hown⟩ := hrel
    have HG := Lib.hid hG
    have HO := Lib.hid hown
    have lw : w.heap.size + 1 < wr.heap.size := by omega
    have lw0 : w.heap.size < wr.heap.size := by omega
    clear hG hown
    by_cases hlt : k < r
    · go_wp2_with fail
      go_region_law (refine step_app_g (w0 := wr) rfl (.tmp 15) (.tmp 18) rfl W.heap.size (.slice p k cp) c k wr.heap.size (wr.heap.size + 1) rfl HO.out (by repeat (first | exact Gr.refl _ | refine Gr.drew ?_ | refine Gr.alloc ?_ _)) hsz (by omega) (Nat.le_refl _) (by simp <;> omega) (by intro j hj; constructor <;> simp [go_sem, madeCells, hj, Nat.mod_one]) rfl (by go_simp) ?_; intro v' w' hown' hg'; obtain ⟨p', cp', rfl⟩ := hown'.slice; have HT := Lib.hid (app_thr (wr := wr) hg' (by repeat (first | exact Gr.refl _ | refine Gr.drew ?_ | refine Gr.alloc ?_ _))); have HG' := Lib.hid (Gr.grown (HG.out.trans (show Gr wr _ by repeat (first | exact Gr.refl _ | refine Gr.drew ?_ | refine Gr.alloc ?_ _))) hg' (fun g hg => by have := (World.ownsRow.lt HO.out.own.choose_spec g hg).1; omega)); have HN' := Lib.hid hown'; have t0 := HT.out.1 _ _ g0 (HO.out.far (by simp only []; omega)); have t1 := HT.out.1 _ _ g1 (HO.out.far (by simp only []; omega)); have t2 := HT.out.2.1 _ _ g1 g2 (HO.out.far (by simp only []; omega)); have s0 := HT.out.1 _ _ q0 (HO.out.far (by simp only []; omega)); have s1 := HT.out.1 _ _ q1 (HO.out.far (by simp only []; omega)); have s2 := HT.out.2.1 _ _ q0 q2 (HO.out.far (by simp only []; omega)); have s3 := HT.out.2.1 _ _ q1 q3 (HO.out.far (by simp only []; omega)); have sz' := HT.out.2.2; clear hown' hg' HT)
      all_goals
        go_wp2
        go_roundw
        case rel => exact ⟨k + 1, by omega, by go_num, HG'.out.setCell (by simp <;> omega) _, cell?_setCell_ne t0 (by simp), (World.frozen?_setCell _ _ _ _).trans t2, cell?_setCell_ne s0 (by simp), cell?_setCell_ne s1 (by simp), (World.frozen?_setCell _ _ _ _).trans s2, (World.frozen?_setCell _ _ _ _).trans s3, by simp <;> omega, p', cp', World.cell?_setCell_same' _ _ _ (by rw [t1]; rfl), HN'.out.setCell t1 (by simp only []; omega) _⟩
        case measure => simp [intOf]; omega
    · obtain rfl : k = r := by omega
      go_wp2
      have hgrid := (HO.out.grid)
      have HGR := Lib.hid hgrid
      clear hgrid
      refine ret_cell1 rfl rfl rfl (load_rmat _ _ (.int .i64 (c : Int)) (.slice p k cp) (cell?_setCell_ne (World.cell?_setCell_same' wr _ _ (by rw [q0]; rfl)) (by simp)) (World.cell?_setCell_same' _ _ _ (by rw [cell?_setCell_ne q1 (by simp)]; rfl))) ?_
      exact ⟨_, rfl, (HG.out.setCell (by simp) _).setCell (by simp) _, ((HGR.out.setCell (by simp only []; omega) _).setCell (by simp only []; omega) _).mono (by omega)⟩
end Go.Proofs.YtcmlhpodghfheaaDoor

namespace Go.Proofs.YtcmlhpodghfheaaDoor
open Go.RowKit Go.Shelf

/-- The elements of a raw matrix. -/
def makeF (C : Nat) (bs : List Nat) (i j : Nat) : Bool := bitOf bs (C * i + j)
def makeM (R C : Nat) (bs : List Nat) : Mat := gridMat (R % 6) (C % 6) (makeF (C % 6) bs)
/-- What is done behind i rows and j elements. -/
def doneF (F : Nat → Nat → Bool) (k t i j : Nat) : Bool := if i < k ∨ (i = k ∧ j < t) then F i j else false

theorem doneF_zero (F : Nat → Nat → Bool) : doneF F 0 0 = fun _ _ => false := by
  funext i j; simp [doneF]
theorem doneF_row (F : Nat → Nat → Bool) (k c : Nat) (i j : Nat) (hj : j < c) : doneF F (k + 1) 0 i j = doneF F k c i j := by
  unfold doneF
  have : (i < k + 1 ∨ i = k + 1 ∧ j < 0) ↔ (i < k ∨ i = k ∧ j < c) := by omega
  simp only [this]
theorem doneF_other (F : Nat → Nat → Bool) (k t i j : Nat) (h : i ≠ k ∨ j ≠ t) : doneF F k (t + 1) i j = doneF F k t i j := by
  unfold doneF
  have : (i < k ∨ i = k ∧ j < t + 1) ↔ (i < k ∨ i = k ∧ j < t) := by omega
  simp only [this]
theorem doneF_this (F : Nat → Nat → Bool) (k t : Nat) : doneF F k (t + 1) k t = F k t := by
  unfold doneF; rw [if_pos (by omega)]
theorem Grid.cong {w : World} {base : Nat} {u : Value} {r c : Nat} {F F' : Nat → Nat → Bool} (h : Grid w base u r c F) (hF : ∀ i j, i < r → j < c → F i j = F' i j) : Grid w base u r c F' := by
  rcases h with h | ⟨h0, G, B, cap, hu, hB, h3⟩
  · exact .inl h
  · refine .inr ⟨h0, G, B, cap, hu, hB, fun i hi => ?_⟩
    obtain ⟨a, b, d, e⟩ := h3 i hi
    exact ⟨a, b, fun j hj => by rw [← hF i j hi hj]; exact d j hj, e⟩
theorem set_keep {w : World} {a p : Addr} {b : Bool} {x u : Value} (ha : w.cell? a = some (.bool b)) (hp : w.cell? p = some x) (hx : ∀ b, x ≠ .bool b) : (w.setCell a u).cell? p = some x :=
  cell?_setCell_ne hp fun e => by rw [e, hp] at ha; exact hx b (Option.some.inj ha)

set_option maxHeartbeats 2000000 in
set_option maxRecDepth 100000 in
/-- ref44.Make -/
theorem make_any (R C : Nat) (v : Value) (bs : List Nat) (w : World) (hR : R < 256) (hC : C < 256) (hv : BytesV w v bs) (hl : bs.length < 4611686018427387904) (hb : ∀ x ∈ bs, x < 256) :
    Calls Tryd.prog 7 #[.agg #[.int .u8 (R : Int), .int .u8 (C : Int), v]] w fun e w' => (∃ v', e = .returned v' ∧ RMatV w' v' (makeM R C bs)) ∧ Gr w w' := by
  have HV := Lib.hid hv
  have HB := Lib.hid hb
  obtain ⟨pb, nb, cb, rfl⟩ : ∃ p n c, v = .slice p n c := by
    rcases hv with ⟨_, p, c, h⟩ | ⟨_, b, o, c, h, _⟩ <;> exact ⟨_, _, _, h⟩
  have hR6 : (R : Int) % 6 = ((R % 6 : Nat) : Int) := by omega
  have hC6 : (C : Int) % 6 = ((C % 6 : Nat) : Int) := by omega
  have hmm : makeM R C bs = gridMat (R % 6) (C % 6) (makeF (C % 6) bs) := rfl
  have HMM := Lib.hid hmm
  obtain ⟨r, hr⟩ : ∃ r, r = R % 6 := ⟨_, rfl⟩
  obtain ⟨c, hc⟩ : ∃ c, c = C % 6 := ⟨_, rfl⟩
  have hr5 : r < 6 := by omega
  have hc5 : c < 6 := by omega
  rw [← hr] at hR6 HMM
  rw [← hc] at hC6 HMM
  clear hv hb hmm hr hc
  go_enter Tryd.func7, Tryd.ntmps7
  go_wp2_with fail
  refine (rnew_any r c _ (by omega) (by omega)).mono ?_
  rintro e w1 ⟨u, rfl, hx1, hgrid⟩
  have HGR := Lib.hid hgrid
  obtain ⟨pu, cu, rfl⟩ := hgrid.slice
  have g0 := hx1.cell (p := ⟨w.heap.size, 0, none⟩) (v := .int .u8 (R : Int)) (by go_simp)
  have g1 := hx1.cell (p := ⟨w.heap.size, 1, none⟩) (v := .int .u8 (C : Int)) (by go_simp)
  have g2 := hx1.cell (p := ⟨w.heap.size, 2, none⟩) (v := .slice pb nb cb) (by go_simp)
  have r0 := hx1.cell (p := ⟨w.heap.size + 1, 0, none⟩) (v := .int .i64 0) (by go_simp)
  have r1 := hx1.cell (p := ⟨w.heap.size + 1, 1, none⟩) (v := .slice none 0 0) (by go_simp)
  have r2 := hx1.frz (p := ⟨w.heap.size + 1, 0, none⟩) (v := .int .i64 0) (by go_simp) (by go_simp)
  have r3 := hx1.frz (p := ⟨w.heap.size + 1, 1, none⟩) (v := .slice none 0 0) (by go_simp) (by go_simp)
  have HX1 := Lib.hid (Gr.trans (show Gr w _ by repeat (first | exact Gr.refl _ | refine Gr.alloc ?_ _)) hx1)
  have l1 : w.heap.size + 1 < w1.heap.size := World.block_lt_of_cell? _ _ r0
  clear hx1 hgrid
  go_wp2_with fail
  refine name_wp fun W hW => ?_
  have hX : Gr w1 W := by rw [hW]; repeat (first | exact Gr.refl _ | refine Gr.alloc ?_ _)
  have m0 : W.cell? ⟨w1.heap.size, 0, none⟩ = some (.int .i64 (c : Int)) := by rw [hW]; go_simp
  have m1 : W.cell? ⟨w1.heap.size, 1, none⟩ = some (.slice pu r cu) := by rw [hW]; go_simp
  clear hW
  have HGX := Lib.hid (HX1.out.trans hX)
  have k2 := hX.cell g2
  have q0 := hX.cell r0
  have q1 := hX.cell r1
  have q2 := hX.frz r0 r2
  have q3 := hX.frz r1 r3
  have HG0 := Lib.hid (HGR.out.gr hX)
  have lb : w.heap.size + 2 ≤ ((w.alloc (.cells #[.int .u8 (R : Int), .int .u8 (C : Int), .slice pb nb cb] 24)).alloc (.cells #[.int .i64 0, .slice none 0 0] 29)).heap.size := by simp <;> omega
  generalize ((w.alloc (.cells #[.int .u8 (R : Int), .int .u8 (C : Int), .slice pb nb cb] 24)).alloc (.cells #[.int .i64 0, .slice none 0 0] 29)).heap.size = base at *
  clear hX g0 g1 g2 r0 r1 r2 r3
  obtain ⟨F, hF⟩ : ∃ F, F = makeF c bs := ⟨_, rfl⟩
  have HF := Lib.hid hF
  rw [← hF] at HMM
  clear hF
  go_loopw [18] (fun q wr => ∃ k : Nat, k ≤ r ∧ q = .int .i64 k ∧ Gr w wr ∧ wr.cell? ⟨w1.heap.size, 0, none⟩ = some (.int .i64 (c : Int)) ∧ wr.cell? ⟨w1.heap.size, 1, none⟩ = some (.slice pu r cu) ∧ wr.cell? ⟨w.heap.size, 2, none⟩ = some (.slice pb nb cb) ∧
      wr.cell? ⟨w.heap.size + 1, 0, none⟩ = some (.int .i64 0) ∧ wr.cell? ⟨w.heap.size + 1, 1, none⟩ = some (.slice none 0 0) ∧ wr.frozen? ⟨w.heap.size + 1, 0, none⟩ = false ∧ wr.frozen? ⟨w.heap.size + 1, 1, none⟩ = false ∧ Grid wr base (.slice pu r cu) r c (doneF F k 0)) (fun q _ => r - (intOf q).toNat)
  case atStart => exact ⟨0, Nat.zero_le _, rfl, HGX.out, m0, m1, k2, q0, q1, q2, q3, by rw [doneF_zero]; exact HG0.out⟩
  case round =>
    obtain ⟨wo, rfl⟩ : ∃ wo : World, wo = wr := ⟨_, rfl⟩
    obtain ⟨k, hk, rfl, hG, m0, m1, k2, q0, q1, q2, q3, hgr⟩ := hrel
    have HG := Lib.hid hG
    have HGD := Lib.hid hgr
    have lo : w1.heap.size < wo.heap.size := World.block_lt_of_cell? _ _ m0
    clear hG hgr
    by_cases hlt : k < r
    · go_wp2_with fail
      go_loopw [5] (fun q wr => ∃ t : Nat, t ≤ c ∧ q = .int .i64 t ∧ Gr w wr ∧ wr.cell? ⟨w1.heap.size, 0, none⟩ = some (.int .i64 (c : Int)) ∧ wr.cell? ⟨w1.heap.size, 1, none⟩ = some (.slice pu r cu) ∧ wr.cell? ⟨w.heap.size, 2, none⟩ = some (.slice pb nb cb) ∧
          wr.cell? ⟨w.heap.size + 1, 0, none⟩ = some (.int .i64 0) ∧ wr.cell? ⟨w.heap.size + 1, 1, none⟩ = some (.slice none 0 0) ∧ wr.frozen? ⟨w.heap.size + 1, 0, none⟩ = false ∧ wr.frozen? ⟨w.heap.size + 1, 1, none⟩ = false ∧ Grid wr base (.slice pu r cu) r c (doneF F k t)) (fun q _ => c - (intOf q).toNat)
      case atStart => exact ⟨0, Nat.zero_le _, rfl, HG.out, m0, m1, k2, q0, q1, q2, q3, HGD.out⟩
      case round =>
        clear m0 m1 k2 q0 q1 q2 q3 HG HGD lo
        obtain ⟨t, ht, rfl, hG, m0, m1, k2, q0, q1, q2, q3, hgr⟩ := hrel
        have HG := Lib.hid hG
        have HGD := Lib.hid hgr
        have lo : w1.heap.size < wr.heap.size := World.block_lt_of_cell? _ _ m0
        clear hG hgr
        by_cases htl : t < c
        · obtain ⟨B, cap, g, hsl, c1, hgb, c2, c3, hset⟩ := HGD.out.set (F' := doneF F k (t + 1)) hlt htl (fun i j h => doneF_other F k t i j h)
          simp only [Value.slice.injEq] at hsl
          obtain ⟨rfl, -, rfl⟩ := hsl
          have hlm := Nat.mul_le_mul (show c ≤ 5 by omega) (show k ≤ 5 by omega)
          have hidx : IntKind.i64.wrap (IntKind.i64.wrap ((c : Int) * (k : Int)) + (t : Int)) = ((c * k + t : Nat) : Int) := by
            have e1 : (c : Int) * (k : Int) = ((c * k : Nat) : Int) := by push_cast; rfl
            rw [e1, show IntKind.i64.wrap ((c * k : Nat) : Int) = ((c * k : Nat) : Int) from by rw [IntKind.wrap_i64]; omega, IntKind.wrap_i64]
            omega
          have HI := Lib.hid hidx
          clear hidx
          have hlc1 := World.block_lt_of_cell? _ _ c1
          have hlc2 := World.block_lt_of_cell? _ _ c2
          simp only [] at hlc1 hlc2
          have c1' : wr.cell? ⟨B, k, none⟩ = some (.slice (some ⟨g, 0, none⟩) c c) := c1
          have c2' : wr.cell? ⟨g, t, none⟩ = some (.bool (doneF F k t k t)) := c2
          have c3' : wr.frozen? ⟨g, t, none⟩ = false := c3
          have hthis : doneF F k (t + 1) k t = bitOf bs (c * k + t) := by rw [doneF_this, HF.out]; rfl
          rw [hthis] at hset
          have HSET := Lib.hid hset
          clear c1 c2 c3 hset hthis
          go_wp2_with fail
          go_still_tail 16, (by kernel_rfl)
          refine wpStill_step (fun K hK => ?_)
          go_simp
          rw [HI.out]
          refine ⟨_, (bit_any _ bs (c * k + t) _ (HV.out.gr (HG.out.trans (Gr.refl wr).drew)) hl HB.out (by omega)).mono (fun _ _ h => ⟨h.1, h.2.symm⟩), hK _ ?_⟩
          clear hK K
          repeat still_step
          refine wpStill_nil ?_
          go_wp2
          go_roundw
          case rel =>
            exact ⟨t + 1, by omega, by go_num, (HG.out.setCell (p := ⟨g, t, none⟩) (by simp only []; omega) _).drew, set_keep (w := wr) c2' m0 (by simp), set_keep (w := wr) c2' m1 (by simp), set_keep (w := wr) c2' k2 (by simp), set_keep (w := wr) c2' q0 (by simp), set_keep (w := wr) c2' q1 (by simp), (World.frozen?_setCell _ _ _ _).trans q2, (World.frozen?_setCell _ _ _ _).trans q3, HSET.out.gr (Gr.refl _).drew⟩
          case measure => simp [intOf]; omega
        · obtain rfl : t = c := by omega
          go_wp2
          go_roundw
          case rel => exact ⟨k + 1, by omega, by go_num, HG.out, m0, m1, k2, q0, q1, q2, q3, HGD.out.cong (fun i j _ hj => (doneF_row F k t i j hj).symm)⟩
          case measure => simp [intOf]; omega
    · obtain rfl : k = r := by omega
      go_wp2
      refine ret_cell1 rfl rfl rfl (load_rmat _ _ (.int .i64 (c : Int)) (.slice pu k cu) (cell?_setCell_ne (World.cell?_setCell_same' wo _ _ (by rw [q0]; rfl)) (by simp)) (World.cell?_setCell_same' _ _ _ (by rw [cell?_setCell_ne q1 (by simp)]; rfl))) ?_
      refine ⟨⟨_, rfl, ?_⟩, (HG.out.setCell (by simp) _).setCell (by simp) _⟩
      rw [HMM.out]
      exact (((HGD.out.cong (F' := F) (fun i j hi _ => by unfold doneF; rw [if_pos (.inl hi)])).setCell (p := ⟨w.heap.size + 1, 0, none⟩) (by simp only []; omega) _).setCell (p := ⟨w.heap.size + 1, 1, none⟩) (by simp only []; omega) _).mat
end Go.Proofs.YtcmlhpodghfheaaDoor

namespace Go.Proofs.YtcmlhpodghfheaaDoor
open Go.RowKit Go.Shelf

def NewPost (r c : Nat) (w : World) (e : Ending) (w' : World) : Prop := ∃ b g, e = .returned (.tuple #[.pointer (some ⟨b, 0, none⟩), .int .i64 0]) ∧ Gr w w' ∧ w.heap.size ≤ b ∧ w.heap.size ≤ g ∧ b ≠ g ∧
      w'.cell? ⟨b, 0, none⟩ = some (.int .i64 (c : Int)) ∧ w'.cell? ⟨b, 1, none⟩ = some (.slice (some ⟨g, 0, none⟩) r r) ∧ ∀ i, i < r → w'.cell? ⟨g, i, none⟩ = some (.slice none 0 0) ∧ w'.frozen? ⟨g, i, none⟩ = false

set_option maxHeartbeats 400000 in
set_option maxRecDepth 100000 in
/-- matrix.New -/
theorem new_any (r c : Nat) (w : World) (hr : r ≤ 256) (hc : c ≤ 256) :
    Calls Tryd.prog 47 #[.int .i64 (r : Int), .int .i64 (c : Int)] w (NewPost r c w) := by
  obtain ⟨i0, hi0, hz0, hz1, hz2⟩ := info_parts info_set
  have d1 : decide ((256 : Int) < (r : Int)) = false := by simp; omega
  have d2 : decide ((256 : Int) < (c : Int)) = false := by simp; omega
  have HR := Lib.hid hr
  clear hr hc
  go_enter Tryd.func47, Tryd.ntmps47
  go_wp2_with (at_make; go_loud (refine wpList_make_full _ rfl _ _ 71 rfl w.heap.size 69 i0 (.agg #[.slice none 0 0]) 1 und_sets hi0 hz0 hz1 .i64 .i64 ((r : Nat) : Int) ((r : Nat) : Int) r rfl rfl rfl rfl (by rw [hz2]; have := HR.out; omega) (by simp only [maxLen]; have := HR.out; omega) (by omega) ?_))
  intro w1 hown hgrow
  have hG : Gr w w1 := (Gr.refl w).grown hgrow (fun k e => by cases e)
  have hl := (World.ownsRow.lt hown _ rfl).2
  have hcell : ∀ i, i < r → w1.cell? ⟨w.heap.size, i, none⟩ = some (.slice none 0 0) ∧ w1.frozen? ⟨w.heap.size, i, none⟩ = false := by
    intro i hi
    have hx : (madeCells #[Value.slice none 0 0] r).toList[i]? = some (.slice none 0 0) := by
      simp [madeCells, hi, Nat.mod_one]
    refine ⟨?_, ?_⟩
    · have := World.ownsRow.cells (g := w.heap.size) hown rfl i _ hx
      by_cases h0 : i = 0
      · subst h0; simpa [Addr.add] using this
      · simpa [Addr.add, h0] using this
    · obtain ⟨_, ⟨hn, _⟩ | ⟨g, cap, cur, hv, _, hg, _⟩⟩ := hown
      · cases hn
      · simp only [Value.slice.injEq, Option.some.injEq, Addr.mk.injEq] at hv
        obtain ⟨⟨rfl, _⟩, _⟩ := hv
        simp [World.frozen?, hg]
  have HC := Lib.hid hcell
  clear hown hgrow hcell hi0 hz0 hz1 hz2
  go_wp2
  go_ret2
  have hX := (Gr.refl w1).alloc (.cells #[.int .i64 (c : Int), .slice (some ⟨w.heap.size, 0, none⟩) r r] 107)
  refine ⟨w1.heap.size, w.heap.size, rfl, hG.trans hX, by omega, by omega, by omega, by go_simp, by go_simp, fun i hi => ?_⟩
  exact ⟨hX.cell (HC.out i hi).1, hX.frz (HC.out i hi).1 (HC.out i hi).2⟩
end Go.Proofs.YtcmlhpodghfheaaDoor

namespace Go.Proofs.YtcmlhpodghfheaaDoor
open Go.RowKit Go.Shelf

theorem within_below : ∀ c, c < 7 → ∀ s, s < 2 ^ c → minus s (belowN c) = 0 := by decide +kernel

def OfPost (c : Nat) (ss : List Nat) (w : World) (e : Ending) (w' : World) : Prop := ∃ b, e = .returned (.tuple #[.pointer (some ⟨b, 0, none⟩), .int .i64 0]) ∧ Gr w w' ∧ MatV w' (.pointer (some ⟨b, 0, none⟩)) ⟨c, ss⟩

set_option maxHeartbeats 2000000 in
set_option maxRecDepth 100000 in
/-- matrix.Of -/
theorem matOf_any (v : Value) (c : Nat) (ss : List Nat) (w : World) (hv : Sets w v ss) (hc : c ≤ 6) (hl : ss.length ≤ 6) (hs : ∀ s ∈ ss, s < 2 ^ c) :
    Calls Tryd.prog 19 #[.int .i64 (c : Int), v] w (OfPost c ss w) := by
  have HV := Lib.hid hv
  have HS := Lib.hid hs
  obtain ⟨p, cp, rfl⟩ := hv.slice
  clear hv hs
  generalize hn : ss.length = n at *
  have HN := Lib.hid hn
  clear hn
  go_enter Tryd.func19, Tryd.ntmps19
  go_wp2_with fail
  refine (new_any n c _ (by omega) (by omega)).mono ?_
  rintro e w1 ⟨b, g, rfl, hx1, hb, hg, hbg, k0, k1, hrow⟩
  have HX1 := Lib.hid hx1
  have HROW := Lib.hid hrow
  have lb : b < w1.heap.size := World.block_lt_of_cell? _ _ k0
  clear hx1 hrow
  go_wp2_with fail
  go_loopw [8, 9, 22] (fun _ _ i wr => ∃ k : Nat, k ≤ n ∧ i = .int .i64 k ∧ Gr w wr ∧ wr.cell? ⟨b, 0, none⟩ = some (.int .i64 (c : Int)) ∧ wr.cell? ⟨b, 1, none⟩ = some (.slice (some ⟨g, 0, none⟩) n n) ∧
      ∀ i, i < n → ∃ p n c, wr.cell? ⟨g, i, none⟩ = some (.slice p n c) ∧ wr.frozen? ⟨g, i, none⟩ = false ∧ (i < k → Words wr (.slice p n c) (ss.getD i 0))) (fun _ _ i _ => n - (intOf i).toNat)
  case atStart => exact ⟨0, Nat.zero_le _, rfl, HX1.out, k0, k1, fun i hi => ⟨_, _, _, (HROW.out i hi).1, (HROW.out i hi).2, by omega⟩⟩
  case round =>
    obtain ⟨wo, rfl⟩ : ∃ wo : World, wo = wr := ⟨_, rfl⟩
    obtain ⟨k, hk, rfl, hG, q0, q1, hrow⟩ := hrel
    have HG := Lib.hid hG
    have HR := Lib.hid hrow
    have lbo : b < wo.heap.size := World.block_lt_of_cell? _ _ q0
    clear hG hrow
    by_cases hlt : k < n
    · obtain ⟨bb, oo, ccc, y, hsl, hbb, hcy, hy⟩ := HV.out.at k (by rw [HN.out]; exact hlt)
      obtain ⟨py, ny, cy, hyy⟩ := hy.words.slice
      subst hyy
      simp only [Value.slice.injEq] at hsl
      obtain ⟨rfl, -, rfl⟩ := hsl
      have hcW := HG.out.cell hcy
      have hbW : bb < wo.heap.size := World.block_lt_of_cell? _ _ hcW
      have HY := Lib.hid (hy.gr HG.out)
      have hs6 := HS.out (ss.getD k 0) (by rw [List.getD_eq_getElem?_getD, List.getElem?_eq_getElem (by rw [HN.out]; exact hlt)]; simp)
      have hwz : decide (minus (ss.getD k 0) (belowN c) = 0) = true := by rw [within_below c (by omega) _ hs6]; rfl
      obtain ⟨pg, ng, cg, r1, r2, _⟩ := HR.out k hlt
      have lg : g < wo.heap.size := World.block_lt_of_cell? _ _ r1
      generalize hSS : ss.getD k 0 = S at *
      have HSS := Lib.hid hSS
      clear hcy hy hSS
      go_wp2_with fail
      refine name_wp fun W hW => ?_
      have hX : Gr wo W := by rw [hW]; exact (Gr.refl _).alloc _
      have f0 : W.cell? ⟨wo.heap.size, 0, none⟩ = some (.slice py ny cy) := by rw [hW]; go_simp
      clear hW
      have HYW := Lib.hid (HY.out.gr hX)
      go_region_held3 (fun w' => Gr W w' ∧ w'.cell? ⟨wo.heap.size, 0, none⟩ = some (.slice py ny cy))
        (first | exact ⟨(Gr.refl W).drew, f0⟩ | (have hh := ‹Gr W _ ∧ _›; exact ⟨hh.1.trans hx1, hx1.cell hh.2⟩) | (have hh := ‹Gr W _ ∧ _›; exact ⟨(hh.1).setCell (by simp only []; omega) _, cell?_setCell_ne (hh.2) (by simp <;> omega)⟩))
        (first | (go_at_call 49; have hh := ‹Gr W _ ∧ _›; (with_reducible refine (below_any c _ (by omega)).mono ?_); rintro e w1 ⟨pb, nb, cb, rfl, hvb, hx1⟩; have hx1 := hx1.gr) | (go_at_call 48; have hh := ‹Gr W _ ∧ _›; (with_reducible refine (within_any _ _ S (belowN c) _ (HYW.out.gr hh.1) hvb).mono ?_); rintro e w1 ⟨rfl, hx1⟩; have hx1 := hx1.gr))
      have hh2 := hh.1.trans hx1
      have f9 := hx1.cell hh.2
      have HGf := Lib.hid (hX.trans hh2)
      have q0' := HGf.out.cell q0
      have q1' := HGf.out.cell q1
      have r1' := HGf.out.cell r1
      have r2' := HGf.out.frz r1 r2
      have HYf := Lib.hid (HYW.out.gr hh2)
      clear hh hx1 hh2 hX f0 hcW q0 q1 r1 r2
      have lb1 : b < w1.heap.size := World.block_lt_of_cell? _ _ q0'
      have lg1 : g < w1.heap.size := World.block_lt_of_cell? _ _ r1'
      go_wp2_with fail
      go_region
      go_wp2
      go_roundw
      case rel =>
        refine ⟨k + 1, by omega, by go_num, (HG.out.trans HGf.out).drew.setCell (by simp only []; omega) _, cell?_setCell_ne (w := w1) q0' (by simp <;> omega), cell?_setCell_ne (w := w1) q1' (by simp <;> omega), fun i hi => ?_⟩
        by_cases hik : i = k
        · subst hik
          refine ⟨py, ny, cy, World.cell?_setCell_same' w1 _ _ (by rw [r1']; rfl), (World.frozen?_setCell _ _ _ _).trans r2', fun _ => ?_⟩
          rw [HSS.out]
          exact (HYf.out.words.gr (Gr.refl _).drew).setCell (by simp) (w := w1.drew) r1' _
        · obtain ⟨p', n', c', y1, y2, y3⟩ := HR.out i hi
          refine ⟨p', n', c', cell?_setCell_ne (w := w1) (HGf.out.cell y1) (by simp <;> omega), (World.frozen?_setCell _ _ _ _).trans (HGf.out.frz y1 y2), fun hik' => ?_⟩
          exact (((y3 (by omega)).gr HGf.out).gr (Gr.refl _).drew).setCell (by simp) (w := w1.drew) r1' _
      case measure => simp [intOf]; omega
    · obtain rfl : k = n := by omega
      go_wp2
      go_ret2
      refine ⟨b, rfl, HG.out, b, _, rfl, q0, q1, ?_⟩
      rcases Nat.eq_zero_or_pos k with h0 | h0
      · subst h0
        exact .inl ⟨List.eq_nil_of_length_eq_zero HN.out, _, _, rfl⟩
      · refine .inr ⟨fun h => by have h2 : ss = [] := h; have := HN.out; rw [h2] at this; rw [← this] at h0; simp at h0, g, 0, k, by rw [show ss.length = k from HN.out], fun i hi => ?_⟩
        obtain ⟨p', n', c', y1, _, y3⟩ := HR.out i (by rw [← HN.out]; exact hi)
        exact ⟨_, by rw [Nat.zero_add]; exact y1, y3 (by rw [← HN.out]; exact hi)⟩
end Go.Proofs.YtcmlhpodghfheaaDoor

namespace Go.Proofs.YtcmlhpodghfheaaDoor
open Go.RowKit Go.Shelf

theorem ones_set {m : Mat} (hm : m.good) (i : Nat) (hi : i < m.rows.length) : ofL (m.ones i m.cols) = m.rows.getD i 0 := by
  apply Nat.eq_of_testBit_eq
  intro j
  rw [Bool.eq_iff_iff, ofL_iff]
  unfold Mat.ones
  rw [List.mem_filter, List.mem_range, has_el]
  constructor
  · rintro ⟨_, _, _, h⟩; exact h
  · intro h
    have hj := tb_cols (hm.2 _ (by rw [List.getD_eq_getElem?_getD, List.getElem?_eq_getElem hi]; simp)) h
    exact ⟨hj, hi, hj, h⟩

set_option maxHeartbeats 2000000 in
set_option maxRecDepth 100000 in
/-- arbaclaw44.Matrix -/
theorem lmat_any (v : Value) (m : Mat) (w : World) (hv : RMatV w v m) (hm : m.good) :
    Calls Tryd.prog 9 #[v] w fun e w' => (∃ b, e = .returned (.pointer (some ⟨b, 0, none⟩)) ∧ MatV w' (.pointer (some ⟨b, 0, none⟩)) m) ∧ Gr w w' := by
  have HV := Lib.hid hv
  have HM := Lib.hid hm
  obtain ⟨u, rfl, hu⟩ := hv
  obtain ⟨pu, cu, rfl⟩ := hu.slice
  have hc6 := hm.1.1
  have hr6 := hm.1.2
  obtain ⟨C, hC⟩ : ∃ C, C = m.cols := ⟨_, rfl⟩
  obtain ⟨R, hR⟩ : ∃ R, R = m.rows.length := ⟨_, rfl⟩
  have HC := Lib.hid hC
  have HR := Lib.hid hR
  rw [← hC] at hc6 HV ⊢
  rw [← hR] at hr6 HV ⊢
  clear hu hC hR hm
  go_enter Tryd.func9, Tryd.ntmps9
  go_wp2_with fail
  refine name_wp fun W hW => ?_
  have hX : Gr w W := by rw [hW]; exact (Gr.refl _).alloc _
  have f0 : W.cell? ⟨w.heap.size, 0, none⟩ = some (.int .i64 (C : Int)) := by rw [hW]; go_simp
  have f1 : W.cell? ⟨w.heap.size, 1, none⟩ = some (.slice pu R cu) := by rw [hW]; go_simp
  have lW : w.heap.size < W.heap.size := World.block_lt_of_cell? _ _ f0
  clear hW
  have HX := Lib.hid hX
  clear hX
  go_loopw [3, 10] (fun l q wr => ∃ k : Nat, k ≤ R ∧ q = .int .i64 k ∧ Gr W wr ∧ OwnSets wr W.heap.size l (m.rows.take k)) (fun _ q _ => R - (intOf q).toNat)
  case atStart => exact ⟨0, Nat.zero_le _, rfl, Gr.refl _, by simpa using OwnSets.nil _ _⟩
  case round =>
    obtain ⟨k, hk, rfl, hG, hown⟩ := hrel
    have HG := Lib.hid hG
    have HO := Lib.hid hown
    have g0 := hG.cell f0
    have g1 := hG.cell f1
    have lr : w.heap.size < wr.heap.size := World.block_lt_of_cell? _ _ g0
    clear hG hown
    by_cases hlt : k < R
    · go_wp2_with fail
      refine (rrow_any _ m k _ (HV.out.gr (HX.out.trans HG.out)) HM.out.1.ok (by omega)).mono ?_
      rintro e w1 ⟨⟨p1, n1, c1, rfl, hi1⟩, hx1⟩
      have HI1 := Lib.hid hi1
      have HO1 := Lib.hid (HO.out.gr hx1)
      have HG1 := Lib.hid (HG.out.trans hx1)
      have q0 := hx1.cell g0
      have q1 := hx1.cell g1
      have l1 : w.heap.size < w1.heap.size := World.block_lt_of_cell? _ _ q0
      have hall : ∀ x ∈ m.ones k m.cols, x < 64 := fun x hx => by
        have := List.mem_range.1 (List.mem_filter.1 hx).1
        have := HM.out.1.1
        omega
      have hlen := ones_len m k m.cols
      rw [← HC.out] at hall hlen
      have HA := Lib.hid hall
      have hset := ones_set HM.out k (by rw [← HR.out]; exact hlt)
      have HS := Lib.hid hset
      have htk : m.rows.take (k + 1) = m.rows.take k ++ [m.rows.getD k 0] := by
        have hl : k < m.rows.length := by rw [← HR.out]; exact hlt
        rw [List.take_succ_eq_append_getElem hl]; simp [List.getD, List.getElem?_eq_getElem hl]
      have HTK := Lib.hid htk
      clear hi1 hx1 hall hset htk g0 g1
      rw [← HC.out] at HI1 HS
      go_wp2_with fail
      refine (of_any _ _ _ HI1.out HA.out (by omega)).mono ?_
      rintro e w2 ⟨p2, n2, c2, rfl, hv2, hx2⟩
      rw [HS.out] at hv2
      have HW2 := Lib.hid hv2.words
      have HO2 := Lib.hid (HO1.out.gr hx2.gr)
      have HG2 := Lib.hid (HG1.out.trans hx2.gr)
      have hlt2 : (m.rows.take k).length < 1000000 := by simp; omega
      clear hx2 hv2
      go_wp2_with (at_builtin; refine wpl_append_set rfl _ _ rfl W.heap.size u3 (.slice p2 n2 c2) (m.rows.take k) (m.rows.getD k 0) rfl HO2.out HW2.out HG2.out.size hlt2 rfl ?_)
      intro v' w3 hown' hg'
      have HG3 := Lib.hid (appS_gr HG2.out HO2.out (Nat.le_refl _) hg')
      have HO3 := Lib.hid hown'
      clear hown' hg'
      go_wp2
      go_roundw
      case rel => exact ⟨k + 1, by omega, by go_num, HG3.out, by rw [HTK.out]; exact HO3.out⟩
      case measure => simp [intOf]; omega
    · obtain rfl : k = R := by omega
      have hall : m.rows.take k = m.rows := List.take_of_length_le (by rw [HR.out]; exact Nat.le_refl _)
      have hsets := HO.out.sets
      rw [hall] at hsets
      have HSE := Lib.hid hsets
      have hlt : ∀ s ∈ m.rows, s < 2 ^ C := fun s hs => by rw [HC.out]; exact HM.out.2 s hs
      have HLT := Lib.hid hlt
      obtain ⟨pl, cl, hsl⟩ := hsets.slice
      subst hsl
      clear hall hsets hlt
      go_wp2_with fail
      refine (matOf_any _ C m.rows _ HSE.out (by omega) (by rw [← HR.out]; exact hr6) HLT.out).mono ?_
      rintro e w1 ⟨b, rfl, hx1, hmv⟩
      have HMV := Lib.hid hmv
      have HX1 := Lib.hid hx1
      clear hmv hx1
      go_wp2
      go_ret
      refine ⟨⟨b, rfl, ?_⟩, HX.out.trans (HG.out.trans HX1.out)⟩
      have := HMV.out
      rw [HC.out] at this
      exact this
end Go.Proofs.YtcmlhpodghfheaaDoor
