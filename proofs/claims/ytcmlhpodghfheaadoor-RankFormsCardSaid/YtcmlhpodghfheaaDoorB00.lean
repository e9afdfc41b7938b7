/- A run never takes a draw back. -/
import Derived.Test.YtcmlhpodghfheaaDoorProg
import Derived.WalkKit
set_option linter.unusedSimpArgs false
set_option linter.unusedVariables false
namespace Go.Proofs.YtcmlhpodghfheaaDoor
open Go.RowKit

theorem viewStore_drawn {p : Program} {w : World} {at_ : Addr} {u : TypeId} {k : Addr} {v : Value} {b : Bool} {r : World × List Addr} (h : w.viewStore p at_ u k v b = .ok r) : r.1.drawn = w.drawn := by
  unfold World.viewStore at h
  simp only [bind, Except.bind, pure, Except.pure, throw, throwThe, MonadExceptOf.throw] at h
  repeat' (split at h <;> try (cases h; done))
  all_goals (first | (cases h; rfl) | skip)

theorem farStore_drawn {p : Program} {w : World} {a : Addr} {v : Value} {b : Bool} {r : World × List Addr} (h : w.farStore p a v b = .ok r) : r.1.drawn = w.drawn := by
  unfold World.farStore at h
  repeat' (split at h)
  all_goals (first | (cases h; done) | (cases h; exact viewStore_drawn (by assumption)))

theorem ask_drawn {α : Type} (w : World) (a : Ask α) : w.drawn ≤ (w.ask a).2.drawn := by
  induction a generalizing w with
  | done a => exact Nat.le_refl _
  | ask what range k ih =>
    unfold World.ask
    dsimp only
    split
    · exact ih _ _
    · exact Nat.le_trans (Nat.le_succ _) (ih _ { w with drawn := w.drawn + 1 })

theorem sys_drawn (w : World) (c : Sys) : w.drawn ≤ (w.sys c).2.drawn := by
  unfold World.sys
  have := ask_drawn w (Kernel.perform c w.os)
  split
  · exact Nat.le_refl _
  · rename_i h; rw [h] at this; exact this

theorem run_drawn {α : Type} (p : Program) (m : Sem α) : ∀ (w : World) (a : α) (w' : World), m.run p w = .ok a w' → w.drawn ≤ w'.drawn := by
  induction m with
  | pure a => intro w b w' h; simp [Sem.run] at h; rw [h.2]; exact Nat.le_refl _
  | load m a k ih =>
    intro w b w' h
    simp only [Sem.run] at h
    split at h
    · exact ih _ _ _ _ h
    · split at h
      · exact ih _ _ _ _ h
      · cases h
  | store m a v k ih =>
    intro w b w' h
    have key : (match w.cell? a with
        | some _ => if w.frozen? a then Result.halt (.unsupported (.unsafePointer "a write to bytes that a string shares")) w else k.run p (w.setCell a v)
        | none => match w.farStore p a v (m == Mode.atomic) with
          | .ok (w, _) => k.run p w
          | .error h => .halt h w) = .ok b w' → w.drawn ≤ w'.drawn := by
      intro h
      split at h
      · split at h
        · cases h
        · have := ih _ _ _ h; exact this
      · split at h
        · rename_i w1 _ hf
          have := ih _ _ _ h
          rw [← farStore_drawn hf]; exact this
        · cases h
    cases v with
    | agg _ => simp [Sem.run] at h
    | tuple _ => simp [Sem.run] at h
    | _ => simp only [Sem.run] at h; exact key h
  | new o k ih => intro w b w' h; simp only [Sem.run] at h; exact ih _ { w with heap := w.heap.push o } _ _ h
  | shape r k ih => intro w b w' h; simp only [Sem.run] at h; exact ih _ _ _ _ h
  | freeze a n k ih =>
    intro w b w' h; simp only [Sem.run] at h
    have := ih _ _ _ h
    unfold World.freeze at this
    split at this <;> exact this
  | frozen a k ih => intro w b w' h; simp only [Sem.run] at h; exact ih _ _ _ _ h
  | getObj r k ih =>
    intro w b w' h; simp only [Sem.run] at h
    split at h
    · cases h
    · exact ih _ _ _ _ h
    · cases h
  | setObj r o k ih =>
    intro w b w' h; simp only [Sem.run] at h
    split at h
    · cases h
    · exact ih { w with heap := w.heap.setIfInBounds r o } _ _ h
    · cases h
  | choose q k ih =>
    intro w b w' h; simp only [Sem.run] at h
    split at h
    · exact ih _ _ _ _ h
    · exact Nat.le_trans (Nat.le_succ _) (ih _ { w with drawn := w.drawn + 1 } _ _ h)
  | sys c k ih => intro w b w' h; simp only [Sem.run] at h; exact Nat.le_trans (sys_drawn w c) (ih _ _ _ _ h)
  | program k ih => intro w b w' h; simp only [Sem.run] at h; exact ih _ _ _ _ h
  | mark k m ih => intro w b w' h; simp only [Sem.run] at h; exact ih _ _ _ h
  | halt h => intro w b w' h; simp [Sem.run] at h

section
variable {P : Program} {w : World}
/-- An append onto a row of the call's own, with the draws told. -/
theorem wpl_append {ops : Array Oper} {rest : List Oper} {o : Oper} {a : Act} {Q : Exit → Act → World → Prop} (hgd : o.guard = none) (s x : Operand) (t : TypeId)
    (ho : o.op = .call { callee := .builtin .append, args := #[s, x], argTypes := #[t, t] })
    (base : Nat) (e : TypeId) (i : TypeInfo) (z : Value) (size bytes : Nat) (ht : P.underlying t = some (.slice e)) (hi : P.info? e = some i) (hz : i.zero = some z)
    (hsize : i.size = size) (hby : i.bytes = bytes) (hzs : z.cells.size = size) (hsz : 0 < size)
    (v : Value) (n : Nat) (xs : List Value) (hs : a.eval s = v) (hown : w.ownsRow base e size v n xs)
    (ad : Addr) (m c : Nat) (news : List Value) (hx : a.eval x = .slice (some ad) m c) (hl : news.length = m * size) (hnews : ∀ j u, news[j]? = some u → w.cell? (ad.add j) = some u) (h1 : ∀ u ∈ news, u.oneCell' = true)
    (h63 : n + m ≤ maxLen) (hbytes : (n + m) * bytes ≤ 140737488355328) (hbase : base ≤ w.heap.size)
    (h : ∀ v' w', w'.ownsRow base e size v' (n + m) (xs ++ news) → w.grownBy w' v.ownBlock → w.drawn ≤ w'.drawn → wpList P ops Q rest (a.put o.dst v') w') : wpList P ops Q (o :: rest) a w := by
  refine wpList_plain hgd fun K hK => ?_
  obtain ⟨v', w', hr, h2, h3, h4⟩ := run_append_own (P := P) w base t o.type e i z size bytes ht hi hz hsize hby hzs hsz v n xs hown ad m c news hl hnews h1 h63 hbytes hbase
  unfold Oper.wp execOp
  simp only [ho, resolve, invoke, builtin, Sem.run_bind, Sem.run_pure, Result.andThen_ok, List.map_toArray, List.map_cons, List.map_nil, hs, hx, hr]
  exact hK _ _ (h v' w' h2 h3 (run_drawn _ _ _ _ _ hr))
end

/-- A row of the call's own with one cell. -/
theorem own_one {w : World} {base : Nat} {e : TypeId} {v x : Value} (h : w.ownsRow base e 1 v 1 [x]) :
    ∃ g cap, v = .slice (some ⟨g, 0, none⟩) 1 cap ∧ base ≤ g ∧ g < w.heap.size ∧ 1 ≤ cap ∧ w.cell? ⟨g, 0, none⟩ = some x ∧ w.frozen? ⟨g, 0, none⟩ = false := by
  obtain ⟨_, ⟨_, h0⟩ | ⟨g, cap, cur, hv, hb, hg, hn, hm, hs, ht⟩⟩ := h
  · omega
  · refine ⟨g, cap, hv, hb, (Array.getElem?_eq_some_iff.1 hg).1, hn, ?_, ?_⟩
    · simp only [World.cell?, hg]
      have h0 : cur.toList[0]? = some x := by
        have := congrArg (fun l => l[0]?) ht
        simpa using this
      simpa using h0
    · simp [World.frozen?, hg]
end Go.Proofs.YtcmlhpodghfheaaDoor
