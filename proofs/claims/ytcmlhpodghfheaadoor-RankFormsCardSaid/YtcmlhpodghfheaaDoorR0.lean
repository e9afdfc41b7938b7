/- Sets: the reduction of rows, two lemmas on structs that are alike. -/
import Derived.Test.YtcmlhpodghfheaaDoorC3
import Derived.Laws.StructEq
set_option linter.unusedSimpArgs false
set_option linter.unusedVariables false
namespace Go.Proofs.YtcmlhpodghfheaaDoor
open Go.RowKit

theorem part_int (xs : Array Value) (i : Nat) (w : World) (v : Value) (h : xs[i]? = some v) : (part 3 xs i).run Tryd.prog w = .ok v w := by
  simp [go_sem, h]

theorem eqIn_int (d : Nat) (a b : Int) (w : World) : (Op.equalIn (d + 1) 3 (.int .i64 a) (.int .i64 b)).run Tryd.prog w = .ok (a == b) w := by
  simp [Op.equalIn, go_sem]

theorem eqIn_pair (d : Nat) (a b c e : Int) (w : World) :
    (Op.equalIn (d + 2) 40 (.agg #[.int .i64 a, .int .i64 b]) (.agg #[.int .i64 c, .int .i64 e])).run Tryd.prog w = .ok (a == c && b == e) w := by
  have hu : Tryd.prog.underlying 40 = some (.array 2 3) := by kernel_rfl
  unfold Op.equalIn
  simp only [Sem.run_bind, run_underlying hu, Result.andThen_ok]
  rw [show ((sizeOf 3).run Tryd.prog w) = .ok 1 w from by kernel_rfl]
  simp only [Result.andThen_ok]
  simp only [Std.Legacy.Range.forIn_eq_forIn_range', Std.Legacy.Range.size, Nat.sub_zero, Nat.add_one_sub_one, Nat.div_one]
  have e1 : ∀ d, (Op.equalIn (d + 1) 3 (.int .i64 a) (.int .i64 c)).run Tryd.prog w = .ok (a == c) w := fun d => eqIn_int d a c w
  have e2 : ∀ d, (Op.equalIn (d + 1) 3 (.int .i64 b) (.int .i64 e)).run Tryd.prog w = .ok (b == e) w := fun d => eqIn_int d b e w
  have p1 : (part 3 #[.int .i64 a, .int .i64 b] 0).run Tryd.prog w = .ok (.int .i64 a) w := part_int _ _ w _ rfl
  have p2 : (part 3 #[.int .i64 c, .int .i64 e] 0).run Tryd.prog w = .ok (.int .i64 c) w := part_int _ _ w _ rfl
  have p3 : (part 3 #[.int .i64 a, .int .i64 b] 1).run Tryd.prog w = .ok (.int .i64 b) w := part_int _ _ w _ rfl
  have p4 : (part 3 #[.int .i64 c, .int .i64 e] 1).run Tryd.prog w = .ok (.int .i64 e) w := part_int _ _ w _ rfl
  show ((Sem.run Tryd.prog (forIn (List.range' 0 2 1) _ _) w).andThen _) = _
  simp only [List.range', List.forIn_cons, List.forIn_nil, Sem.run_bind, Nat.zero_mul, Nat.zero_add, Nat.mul_one, p1, p2, Result.andThen_ok, e1]
  cases h1 : (a == c) with
  | false => simp [Sem.run_bind, Result.andThen]
  | true =>
    simp only [Bool.not_true, Bool.false_eq_true, if_false, Sem.run_pure, Result.andThen_ok, Sem.run_bind, p3, p4, e2]
    cases h2 : (b == e) with
    | false => simp [Sem.run_bind, Result.andThen]
    | true => simp [Sem.run_bind, Result.andThen]

/-- '==' on cells. -/
theorem eql_pair (a b c e : Int) (w : World) :
    (binOp .eql 40 (.agg #[.int .i64 a, .int .i64 b]) (.agg #[.int .i64 c, .int .i64 e])).run Tryd.prog w = .ok (.bool (a == c && b == e)) w := by
  rw [run_eql_struct, eqIn_pair 9998]
  rfl
end Go.Proofs.YtcmlhpodghfheaaDoor
