/- The statement of arbaclaw47.RankForms, for every argument and every world that holds the table, and its card. Lemma 'open_slice_fields' is copied out of the guide's page on structs, as that page tells. -/
import Derived.Test.YtcmlhpodghfheaaDoorT20
import Derived.Test.YtcmlhpodghfheaaDoorCards
import Derived.Test.YtcmlhpodghfheaaDoorTie
import Derived.WalkKit
import Derived.ProofKit
import Derived.OpenShut
import Derived.ChangeSame
import Derived.Carry
import Derived.Deep.Slices
import Derived.Deep.Fields
import Derived.Deep.DeepHandedRow
import Derived.Lib.LaidTab
import Derived.Lib.SmallJoins
import Derived.SizedLaws
set_option linter.unusedSimpArgs false
set_option linter.unusedVariables false
namespace Go.Proofs.YtcmlhpodghfheaaDoor.rankForms
open Go.ChangeShapes Go.WideShapes Go.ChangeAt Go.RowKit Go.Deep Go.Joins

section
variable {H : Type} {enc : TypeId × Value → H} {P : Program} {w : World} {base : Nat} {spare : Nat → Bool} {held : Bool}
theorem open_slice_fields {t e : TypeId} {fs : Array Field} {fuel : Nat} {cs : List Value} {x : DataW H × List MemPlace} (ht : P.underlying t = some (.slice e)) (he : P.underlying e = some (.struct fs))
    (hone : oneCellFields P fs = true) (hC : P.cellsOf e = fs.size) (h : DataW.trod enc P w base spare held fuel t cs = some x) :
    (cs = [.slice none 0 0] ∧ x = (.nil, [])) ∨
    ∃ (a : Addr) (len cap m : Nat) (D : Nat → DataW H) (Pl : Nat → List MemPlace), cs = [.slice (some a) len cap] ∧ base ≤ a.block ∧ len ≤ cap ∧ cap ≤ maxLen ∧ m = (if spare a.block then cap else len) ∧
      x = (.slice ((List.range len).map D) ((List.range (m - len)).map fun j => D (len + j)), MemPlace.row a (m * fs.size) ++ (List.range m).flatMap Pl) ∧
      ∀ i, i < m → ∃ (ys : List (DataW H × List MemPlace)) (n : Nat), D i = .agg (ys.map (·.1)) ∧ Pl i = ys.flatMap (·.2) ∧ ys.length = fs.size ∧
        ∀ (j : Nat) (f : Field), fs[j]? = some f → ∃ (v : Value) (y : DataW H × List MemPlace), w.cell? (a.add (i * fs.size + j)) = some v ∧ ys[j]? = some y ∧ DataW.trod enc P w base spare held n f.type [v] = some y := by
  rcases open_slice ht h with h0 | ⟨a, len, cap, m, n, D, Pl, hcs, hb, hl, hm, hmm, hx, hi⟩
  · exact .inl h0
  · refine .inr ⟨a, len, cap, m, D, Pl, hcs, hb, hl, hm, hmm, by rw [hC] at hx; exact hx, fun i him => ?_⟩
    obtain ⟨cs', hc, ht'⟩ := hi i him
    rw [hC] at hc
    obtain ⟨ys, n', hn', hy, hlen, hyl, hf⟩ := DataW.trod_struct he ht'
    obtain ⟨_, hcl, hat⟩ := World.cells?_some hc
    simp only [Prod.mk.injEq] at hy
    refine ⟨ys, n', hy.1, hy.2, hyl, fun j f hj => ?_⟩
    obtain ⟨ho, hk⟩ := hone_of hone j f hj
    have hjl : j < fs.size := (Array.getElem?_eq_some_iff.1 hj).1
    have hcell := hat j hjl
    have hv : cs'[j]? = some (cs'[j]'(by omega)) := List.getElem?_eq_getElem (by omega)
    have h1 := hf j f hj
    rw [ho, hk] at h1
    have hone' : (cs'.drop j).take 1 = [cs'[j]'(by omega)] := by
      rw [List.drop_eq_getElem_cons (by omega)]
      rfl
    rw [hone'] at h1
    have hys : ys[j]? = some (ys[j]'(by omega)) := List.getElem?_eq_getElem (by omega)
    refine ⟨_, _, ?_, hys, h1.trans hys⟩
    rw [← Go.Deep.add_add, hcell, hv]
end

theorem u8_of_wf {n : Int} (h : (Lit.int .u8 n).wf = true) : 0 ≤ n ∧ n < 256 := by
  simp [Lit.wf, IntKind.min, IntKind.max, IntKind.signed, IntKind.bits] at h
  omega
theorem i64_of_wf {n : Int} (h : (Lit.int .i64 n).wf = true) : -9223372036854775808 ≤ n ∧ n ≤ 9223372036854775807 := by
  simp [Lit.wf, IntKind.min, IntKind.max, IntKind.signed, IntKind.bits] at h
  omega

theorem own : ownKnob Tryd.prog.godebug = none := by kernel_rfl
theorem laidOut : laidOutB Tryd.prog = true := by kernel_rfl
theorem gTab : Tryd.prog.globalNamed "math/bits.deBruijn64tab" = some 0 := by kernel_rfl
theorem gTabType : (Tryd.prog.globals[(0 : Nat)]?).map (·.type) = some 189 := by kernel_rfl
theorem cellsTab : Tryd.prog.cellsOf 189 = 64 := by kernel_rfl
theorem cellsU8 : Tryd.prog.cellsOf 5 = 1 := by kernel_rfl
theorem cellsRaw : Tryd.prog.cellsOf 24 = 3 := by kernel_rfl
theorem cellsOdd : Tryd.prog.cellsOf 35 = 4 := by kernel_rfl

/-- What the row's list gives: the table's cells hold its numbers. -/
theorem table {W : World} (h : laidMetH Tryd.prog Rows.rankFormsRow.laid W) : Lib.TabIs Tryd.prog W "math/bits.deBruijn64tab" .u8 (tab64.map fun n : Nat => (n : Int)) :=
  Lib.tabIs_of_head (rest := []) gTab gTabType Tryd.underlying189 Tryd.underlying5 cellsU8 cellsTab h
theorem tabOk {W : World} (h : laidMetH Tryd.prog Rows.rankFormsRow.laid W) : TabOk W := by
  have hc : ∀ i, i < 64 → W.cell? ⟨0, i, none⟩ = some (.int .u8 ((tab64.getD i 0 : Nat) : Int)) := by
    intro i hi
    have h1 := (table h).cell gTab i (by simpa [tab64] using hi)
    have h2 : (tab64.map fun n : Nat => (n : Int)).getD i 0 = ((tab64.getD i 0 : Nat) : Int) := by
      simp only [List.getD_eq_getElem?_getD, List.getElem?_map]
      cases tab64[i]? <;> rfl
    rw [h2] at h1
    exact h1
  exact ⟨World.block_lt_of_cell? _ _ (hc 0 (by omega)), hc⟩

/-- The number in a cell. -/
def natAt (w : World) (a : Addr) : Nat := match w.cell? a with | some (.int _ n) => n.toNat | _ => 0
theorem natAt_u8 {w : World} {a : Addr} {n : Int} (h : w.cell? a = some (.int .u8 n)) (hw : (Lit.int .u8 n).wf = true) : w.cell? a = some (.int .u8 ((natAt w a : Nat) : Int)) ∧ natAt w a < 256 := by
  have hb := u8_of_wf hw
  have e : natAt w a = n.toNat := by simp only [natAt, h]
  rw [e, Int.toNat_of_nonneg hb.1]
  exact ⟨h, by omega⟩

section
variable {H : Type} {enc : TypeId × Value → H} {w : World} {n : Nat}
/-- An argument of bytes, as the walks take it. -/
theorem open_bytes {v : Value} {y : DataW H × List MemPlace} (h : DataW.trod enc Tryd.prog w 0 (fun _ => true) true n 22 [v] = some y) :
    ∃ bs, BytesV w v bs ∧ (bs.length = 0 ∨ ∃ e s, y.1 = .slice e s ∧ e.length = bs.length) ∧ ∀ x ∈ bs, x < 256 := by
  rcases open_ints Tryd.underlying22 Tryd.underlying5 cellsU8 h with ⟨hcs, _⟩ | ⟨a, len, cap, zs, hcs, _, hl, hm, hz, hy, hcell, hw⟩
  · obtain rfl : v = .slice none 0 0 := by simpa using hcs
    exact ⟨[], .inl ⟨rfl, none, 0, rfl⟩, by simp, by simp⟩
  · obtain rfl : v = .slice (some a) len cap := by simpa using hcs
    have hz : zs.length = cap := hz
    by_cases h0 : len = 0
    · subst h0
      exact ⟨[], .inl ⟨rfl, some a, cap, rfl⟩, by simp, by simp⟩
    · obtain ⟨b, off, rfl, hc⟩ := ints_at hcell (by omega)
      have hlen : ((zs.take len).map Int.toNat).length = len := by rw [List.length_map, List.length_take]; omega
      have hget : ∀ i, i < len → ((((zs.take len).map Int.toNat).getD i 0 : Nat) : Int) = zs.getD i 0 := by
        intro i hi
        have hi' : i < zs.length := by omega
        have hwi := u8_of_wf (hw zs[i] (List.getElem_mem hi'))
        simp only [List.getD_eq_getElem?_getD, List.getElem?_map, List.getElem?_take, if_pos hi, List.getElem?_eq_getElem hi', Option.map_some, Option.getD_some]
        omega
      refine ⟨(zs.take len).map Int.toNat, .inr ⟨?_, b, off, cap, ?_, ?_⟩, ?_, ?_⟩
      · intro e; rw [e] at hlen; simp at hlen; omega
      · rw [hlen]
      · intro i hi
        rw [hlen] at hi
        rw [hget i hi]
        exact hc i (by omega)
      · refine .inr ⟨_, _, by rw [hy], ?_⟩
        rw [hlen]; simp only [lits, List.length_map, List.length_take]; omega
      · intro x hx
        obtain ⟨z, hz1, rfl⟩ := List.mem_map.1 hx
        have := u8_of_wf (hw z (List.mem_of_mem_take hz1))
        omega

/-- The nodes' makings, as the walks take them. -/
theorem open_odds {v : Value} {y : DataW H × List MemPlace} (h : DataW.trod enc Tryd.prog w 0 (fun _ => true) true n 25 [v] = some y) :
    ∃ os, Odds w v os ∧ (os.length = 0 ∨ ∃ e s, y.1 = .slice e s ∧ e.length = os.length) ∧ ∀ o ∈ os, o.k < 256 ∧ o.n < 256 ∧ o.a < 256 ∧ o.b < 256 := by
  rcases open_slice_fields Tryd.underlying25 Tryd.underlying35 (by kernel_rfl) cellsOdd h with ⟨hcs, _⟩ | ⟨a, len, cap, m, D, Pl, hcs, _, hl, hm, hmm, hy, hf⟩
  · obtain rfl : v = .slice none 0 0 := by simpa using hcs
    exact ⟨[], .inl ⟨rfl, none, 0, rfl⟩, by simp, by simp⟩
  · obtain rfl : v = .slice (some a) len cap := by simpa using hcs
    have hmm : m = cap := hmm
    by_cases h0 : len = 0
    · subst h0
      exact ⟨[], .inl ⟨rfl, some a, cap, rfl⟩, by simp, by simp⟩
    · have hcell : ∀ i, i < len → ∀ j, j < 4 → ∃ z, w.cell? (a.add (i * 4 + j)) = some (.int .u8 z) ∧ (Lit.int .u8 z).wf = true := by
        intro i hi j hj
        obtain ⟨ys, n', _, _, _, hfj⟩ := hf i (by omega)
        match j, hj with
        | 0, _ =>
          obtain ⟨u, y', hc, _, ht⟩ := hfj 0 _ rfl
          obtain ⟨z, hz, _, hw⟩ := DataW.trod_int Tryd.underlying5 ht
          obtain rfl : u = .int .u8 z := by simpa using hz
          exact ⟨z, hc, hw⟩
        | 1, _ =>
          obtain ⟨u, y', hc, _, ht⟩ := hfj 1 _ rfl
          obtain ⟨z, hz, _, hw⟩ := DataW.trod_int Tryd.underlying5 ht
          obtain rfl : u = .int .u8 z := by simpa using hz
          exact ⟨z, hc, hw⟩
        | 2, _ =>
          obtain ⟨u, y', hc, _, ht⟩ := hfj 2 _ rfl
          obtain ⟨z, hz, _, hw⟩ := DataW.trod_int Tryd.underlying5 ht
          obtain rfl : u = .int .u8 z := by simpa using hz
          exact ⟨z, hc, hw⟩
        | 3, _ =>
          obtain ⟨u, y', hc, _, ht⟩ := hfj 3 _ rfl
          obtain ⟨z, hz, _, hw⟩ := DataW.trod_int Tryd.underlying5 ht
          obtain rfl : u = .int .u8 z := by simpa using hz
          exact ⟨z, hc, hw⟩
      obtain ⟨b, off, spot⟩ := a
      obtain ⟨z0, hz0, _⟩ := hcell 0 (by omega) 0 (by omega)
      have hspot : spot = none := by simpa [Addr.add] using World.cell?_spot hz0
      subst hspot
      have hat : ∀ i, i < len → ∀ j, j < 4 → w.cell? ⟨b, off + (i * 4 + j), none⟩ = some (.int .u8 ((natAt w ⟨b, off + (i * 4 + j), none⟩ : Nat) : Int)) ∧ natAt w ⟨b, off + (i * 4 + j), none⟩ < 256 := by
        intro i hi j hj
        obtain ⟨z, hz, hw⟩ := hcell i hi j hj
        rw [add_plain] at hz
        exact natAt_u8 hz hw
      have hlen : ((List.range len).map fun i => (⟨natAt w ⟨b, off + (i * 4 + 0), none⟩, natAt w ⟨b, off + (i * 4 + 1), none⟩, natAt w ⟨b, off + (i * 4 + 2), none⟩, natAt w ⟨b, off + (i * 4 + 3), none⟩⟩ : Od)).length = len := by simp
      have hget : ∀ i, i < len → ((List.range len).map fun i => (⟨natAt w ⟨b, off + (i * 4 + 0), none⟩, natAt w ⟨b, off + (i * 4 + 1), none⟩, natAt w ⟨b, off + (i * 4 + 2), none⟩, natAt w ⟨b, off + (i * 4 + 3), none⟩⟩ : Od)).getD i default = ⟨natAt w ⟨b, off + (i * 4 + 0), none⟩, natAt w ⟨b, off + (i * 4 + 1), none⟩, natAt w ⟨b, off + (i * 4 + 2), none⟩, natAt w ⟨b, off + (i * 4 + 3), none⟩⟩ := by
        intro i hi
        simp [List.getD_eq_getElem?_getD, List.getElem?_range hi]
      refine ⟨(List.range len).map fun i => (⟨natAt w ⟨b, off + (i * 4 + 0), none⟩, natAt w ⟨b, off + (i * 4 + 1), none⟩, natAt w ⟨b, off + (i * 4 + 2), none⟩, natAt w ⟨b, off + (i * 4 + 3), none⟩⟩ : Od), .inr ⟨?_, b, off, cap, ?_, ?_, fun i hi => ?_⟩, ?_, fun o ho => ?_⟩
      · intro e; rw [e] at hlen; simp at hlen; omega
      · rw [hlen]
      · rw [hlen]; exact hl
      · rw [hlen] at hi
        rw [hget i hi]
        exact ⟨by simpa using (hat i hi 0 (by omega)).1, by simpa [Nat.add_assoc] using (hat i hi 1 (by omega)).1, by simpa [Nat.add_assoc] using (hat i hi 2 (by omega)).1, by simpa [Nat.add_assoc] using (hat i hi 3 (by omega)).1⟩
      · refine .inr ⟨_, _, by rw [hy], ?_⟩
        rw [hlen]; simp
      · obtain ⟨i, hi, rfl⟩ := List.mem_map.1 ho
        have hi := List.mem_range.1 hi
        exact ⟨(hat i hi 0 (by omega)).2, (hat i hi 1 (by omega)).2, (hat i hi 2 (by omega)).2, (hat i hi 3 (by omega)).2⟩
end

theorem sum_lt {k n : Nat} (h : n * k ≤ reachBytes) (hk : 0 < k) : n < 4611686018427387904 := by
  have h1 : n * 1 ≤ n * k := Nat.mul_le_mul_left _ hk
  simp only [reachBytes] at h
  omega

set_option maxRecDepth 100000 in
/-- WHAT THE WALKS GIVE, FOR EVERY ARGUMENT AND EVERY WORLD THAT HOLDS THE TABLE. -/
theorem contract (H : Type) (enc : TypeId × Value → H) (W : World) (base : Nat) (args : Array Value) (ds gs : List (DataW H)) (before : List MemPlace)
    (hval : ∀ (j : Nat) t v, Tryd.f3.params[j]? = some t → args[j]? = some v → Value.okWide Tryd.prog W .any base t v)
    (hW : DataW.Whole enc Tryd.prog Tryd.f3.params.toList Rows.rankFormsSpec.vars false W args.toList ds gs before) (hS : (DataW.weightsEach Tryd.prog (Tryd.f3.params.toList ++ (OpenSpec.ofChange Rows.rankFormsSpec).bare.plain.varTypes Tryd.prog) (ds ++ gs)).all (· ≤ reachBytes) = true) (hL : laidMetH Tryd.prog Rows.rankFormsRow.laid W) :
    Calls Tryd.prog 3 args W fun e W' => ∃ v, e = .returned v ∧ Rows.rankFormsSpec.post enc Tryd.prog Tryd.f3 false true false false W args v W' := by
  have hW' := hW
  obtain ⟨p, q, hA0, hV, rfl, hfz, hnd⟩ := hW
  have hA : DataW.TrodAll enc Tryd.prog W 0 (fun _ => true) true Tryd.f3.params.toList args.toList ds p := hA0
  rw [Tryd.params3] at hA hval hS
  obtain ⟨v0, vs0, d0, ds0, p0, q0, hargs, rfl, rfl, h0, r0⟩ := trodAll_cons hA
  obtain ⟨v1, vs1, d1, ds1, p1, q1, rfl, rfl, rfl, h1, r1⟩ := trodAll_cons r0
  obtain ⟨v2, vs2, d2, ds2, p2, q2, rfl, rfl, rfl, h2, r2⟩ := trodAll_cons r1
  obtain ⟨rfl, rfl, rfl⟩ := trodAll_nil r2
  obtain rfl : args = #[v0, v1, v2] := by cases args; simp_all
  obtain ⟨rfl, rfl⟩ := trodVars_none hV
  have h0k := h0
  have h1k := h1
  have h2k := h2
  have hlt : ∀ x ∈ p0 ++ (p1 ++ (p2 ++ [])) ++ [], x.block < W.heap.size := fun x hx => by simpa using hW'.lt x hx
  have hv0 : Value.okWide Tryd.prog W .any base 24 v0 := hval 0 24 v0 rfl rfl
  have hv1 : Value.okWide Tryd.prog W .any base 25 v1 := hval 1 25 v1 rfl rfl
  have hv2 : Value.okWide Tryd.prog W .any base 3 v2 := hval 2 3 v2 rfl rfl
  obtain ⟨n, rfl, rfl, rfl, hn⟩ := open_int Tryd.underlying3 hv2 h2
  obtain ⟨ua, ub, uc, ya, yb, yc, fu, rfl, rfl, hp0, ta, tb, tc⟩ := open_agg3 Tryd.underlying24 (by kernel_rfl) cellsRaw hv0 h0
  obtain ⟨za, ea, ra, wa⟩ := DataW.trod_int Tryd.underlying5 ta
  obtain rfl : ua = .int .u8 za := by simpa using ea
  obtain ⟨zb, eb, rb, wb⟩ := DataW.trod_int Tryd.underlying5 tb
  obtain rfl : ub = .int .u8 zb := by simpa using eb
  obtain ⟨bs, hbs, hbl, hb8⟩ := open_bytes tc
  obtain ⟨a1, l1, c1, rfl⟩ := okWide_slice Tryd.underlying25 hv1
  obtain ⟨f1, hf1⟩ := h1
  obtain ⟨os, hos, hol, ho8⟩ := open_odds hf1
  have hbl : bs.length < 4611686018427387904 := by
    rcases hbl with h | ⟨e, s, he, hl⟩
    · omega
    · have hn0 : (DataW.weights Tryd.prog 24 (.agg [ya.1, yb.1, yc.1] : DataW H)).all (· ≤ reachBytes) = true := List.all_eq_true.2 fun n hn => List.all_eq_true.1 hS n (DataW.weights_mem_each (j := 0) rfl rfl n hn)
      rw [he] at hn0
      simp only [DataW.weights, Tryd.underlying24, DataW.weightsEach, List.map_cons, List.map_nil, Tryd.underlying22, List.all_append, List.all_cons, Bool.and_eq_true, decide_eq_true_eq] at hn0
      have h1 : (e.length + s.length) * Tryd.prog.bytesOf 5 ≤ reachBytes := by
        first | exact hn0.2.2.1.1 | exact hn0.2.2.1.1.1 | (simp_all)
      have h2 := sum_lt h1 (by rw [show Tryd.prog.bytesOf 5 = 1 by kernel_rfl]; omega)
      omega
  have hol : os.length < 4611686018427387904 := by
    rcases hol with h | ⟨e, s, he, hl⟩
    · omega
    · obtain rfl : d1 = .slice e s := he
      have h1 := sized_slice hS (j := 1) (t := 25) (e := 35) rfl rfl Tryd.underlying25
      have h2 := sum_lt h1 (by rw [show Tryd.prog.bytesOf 35 = 4 by kernel_rfl]; omega)
      omega
  have ba := u8_of_wf wa
  have bb := u8_of_wf wb
  obtain ⟨R, rfl⟩ : ∃ R : Nat, za = (R : Int) := ⟨za.toNat, (Int.toNat_of_nonneg ba.1).symm⟩
  obtain ⟨C, rfl⟩ : ∃ C : Nat, zb = (C : Int) := ⟨zb.toNat, (Int.toNat_of_nonneg bb.1).symm⟩
  refine (rankForms_any R C uc _ bs os n W (by omega) (by omega) hbs hbl hb8 hos hol ho8 (i64_of_wf hn) (tabOk hL)).mono ?_
  rintro e W' ⟨rfl, hg⟩
  have hb : Below W.heap.size W W' := hg
  clear hp0
  refine ⟨_, rfl, _, _, _, [], p0 ++ (p1 ++ []), [], hW', ?_, ?_, rfl, hb.frame _, fun h => by cases h⟩
  · exact trodAll_mk1 (shut_bool Tryd.underlying4 _)
  · exact trodAll_mk3 (Below.trod laidOut (by kernel_rfl) (of_decide_eq_true (by kernel_rfl)) h0k hb (fun x hx => hlt x (by simp only [List.mem_append] at *; exact .inl (.inl hx)))) (Below.trod laidOut (by kernel_rfl) (of_decide_eq_true (by kernel_rfl)) h1k hb (fun x hx => hlt x (by simp only [List.mem_append] at *; exact .inl (.inr (.inl hx))))) (shut_int Tryd.underlying3 hn)

/-- The witness's arguments. -/
def wargs : Array Value := #[.agg #[.int .u8 0, .int .u8 0, .slice none 0 0], .slice none 0 0, .int .i64 0]
/-- A world for the witness: the settled one, the table holding what its initialiser lays. -/
noncomputable def laidWorld (os : Os) : World :=
  { World.holding Tryd.prog os ⟨#[], #[], []⟩ with heap := (World.holding Tryd.prog os ⟨#[], #[], []⟩).heap.modify 0 fun
      | .cells _ t frozen => .cells (tab64.map fun n : Nat => Value.int .u8 (n : Int)).toArray t frozen
      | o => o }
theorem laid_met (os : Os) : laidMet Tryd.prog Rows.rankFormsRow.laid ((laidWorld os).forCall (fun _ _ => 0) ⟨#[], #[.agg #[.int .u8 0, .int .u8 0, .slice none 0 0], .slice none 0 0, .int .i64 0], []⟩).memory :=
  laidMet_of_run' 8 (by kernel_rfl) (by kernel_rfl)
theorem reads (os : Os) {H : Type} (enc : TypeId × Value → H) : ∃ places, DataW.whole enc Tryd.prog ((laidWorld os).forCall (fun _ _ => 0) ⟨#[], #[.agg #[.int .u8 0, .int .u8 0, .slice none 0 0], .slice none 0 0, .int .i64 0], []⟩).memory Tryd.f3.params.toList Rows.rankFormsSpec.vars false
    (#[Value.agg #[.int .u8 0, .int .u8 0, .slice none 0 0], .slice none 0 0, .int .i64 0] : Array Value).toList 8 = some ([.agg [.lit (.int .u8 0), .lit (.int .u8 0), .nil], .nil, .lit (.int .i64 0)], [], places) :=
  ⟨[], by kernel_rfl⟩

set_option maxRecDepth 100000 in
theorem lifted (os : Os) (started : os.Started) (H : Type) (enc : TypeId × Value → H) (F : Stop.Interp) :
    ReturnsInHanded {} Tryd.checked os 3 .any ((OpenSpec.ofChange Rows.rankFormsSpec).preRow enc Tryd.prog Tryd.f3 Rows.rankFormsRow.domain false Rows.rankFormsRow.laid) (((OpenSpec.ofChange Rows.rankFormsSpec).at F).post enc Tryd.prog Tryd.f3 false true false false) := by
  obtain ⟨places, hx⟩ := reads os enc
  refine returnsInHanded_of_row (C := Tryd.checked) (s := OpenSpec.ofChange Rows.rankFormsSpec) own started (by kernel_rfl) Tryd.func3
    (witness_row_at (enc := enc) (C := Tryd.checked) false (laidWorld os) #[.agg #[.int .u8 0, .int .u8 0, .slice none 0 0], .slice none 0 0, .int .i64 0] rfl (by kernel_rfl) (by kernel_rfl) (by kernel_rfl)
      (OpenSpec.preRow_of_cond 8 hx (by kernel_rfl) (fun k hk => by cases hk) (by kernel_rfl) (laid_met os))) ?_
  intro W base args ds gs before hval hW _ _ hS hL _ _
  exact contract H enc W base args ds gs before hval hW hS hL

theorem said : Rows.RankFormsSaid :=
  OpenClaim.holds_of_cond 3 Tryd.f3 rfl rfl rfl rfl rfl rfl rfl ⟨rfl, rfl, rfl, rfl, rfl⟩ rfl rfl rfl rfl rfl (by kernel_rfl) Tryd.func3 (by kernel_rfl)
    (of_decide_eq_true (by kernel_rfl)) (by unfold Func.isWrapper; first | (rw [if_pos (by decide +kernel)]; kernel_rfl) | (rw [if_neg (by decide +kernel)]; exact ⟨rfl, rfl⟩))
    (fun os started H enc _ F => by rw [OpenClaim.pre_eq_preRow]; exact lifted os started H enc F)

/-- No parameter wants a stand-in; the program's own looks are off: what the card asks. -/
theorem plain (f : FuncId) (fn : Func) (hf : Tryd.pinned.checked.prog.funcNamed "arbac/arbaclaw47.RankForms" = some f) (hfn : Tryd.pinned.checked.prog.funcs[f]? = some fn) :
    false = Tryd.pinned.checked.prog.looks [] ∧ ∀ (j : Nat) t, fn.params[j]? = some t → Tryd.pinned.checked.prog.wantsStandIn t = false := by
  obtain rfl : f = 3 := Option.some.inj ((show Tryd.prog.funcNamed "arbac/arbaclaw47.RankForms" = some 3 by kernel_rfl).symm.trans hf) |>.symm
  obtain rfl : fn = Tryd.f3 := (Option.some.inj (Tryd.func3.symm.trans hfn)).symm
  refine ⟨by kernel_rfl, fun j t ht => ?_⟩
  rw [Tryd.params3] at ht
  have h3 : t = 24 ∨ t = 25 ∨ t = 3 := by simpa using Array.mem_of_getElem? ht
  rcases h3 with rfl | rfl | rfl
  · exact (show Tryd.prog.wantsStandIn 24 = false by kernel_rfl)
  · exact (show Tryd.prog.wantsStandIn 25 = false by kernel_rfl)
  · exact (show Tryd.prog.wantsStandIn 3 = false by kernel_rfl)

/-- The card. -/
theorem card : Rows.RankFormsCardSaid :=
  Claim7.holds_tied_plain_at .later [] _ _ _ _ said (fun _ h => by cases h) (by kernel_rfl) (fun _ h => by cases h) rankForms_row_tie rfl ⟨rfl, rfl⟩ (by kernel_rfl) rfl plain (by kernel_rfl)
end Go.Proofs.YtcmlhpodghfheaaDoor.rankForms
