/- Two names compared by value: the implementation's and the reference's. -/
import Derived.Test.YtedlfmjgbehgkaaGreatDoorObjW3
import Derived.Laws.StructEq
namespace Go.Proofs.YtedlfmjgbehgkaaGreatDoor
open Go.RowKit

theorem oneInt : (Tryz.prog.info? 3).map (·.size) = some 1 := by kernel_rfl
theorem oneStr : (Tryz.prog.info? 9).map (·.size) = some 1 := by kernel_rfl
theorem oneLin : (Tryz.prog.info? 23).map (·.size) = some 1 := by kernel_rfl
theorem held25 : Tryz.prog.stoodInHeld 25 = false := by kernel_rfl
theorem held30 : Tryz.prog.stoodInHeld 30 = false := by kernel_rfl

theorem guard25 : Tryz.prog.eqGuardType Tryz.prog.depth 25 = false := by kernel_rfl
theorem guard30 : Tryz.prog.eqGuardType Tryz.prog.depth 30 = false := by kernel_rfl
theorem eql_name (k k' n n' i i' : Int) (o o' t t' : ByteArray) (w : World) :
    (binOp .eql 25 (.agg #[.int .i64 k, .string o, .int .i64 n, .int .i64 i, .string t]) (.agg #[.int .i64 k', .string o', .int .i64 n', .int .i64 i', .string t'])).run Tryz.prog w =
      .ok (.bool (k == k' && (o.toList == o'.toList) && n == n' && i == i' && (t.toList == t'.toList))) w := by
  rw [run_eql_struct, run_equalIn_struct w 9999 25 _ _ (by simp [Program.fieldsOf, Tryz.underlying25]) held25]
  have a3 : (isAgg 3).run Tryz.prog w = .ok false w := by unfold isAgg; rw [Sem.run_bind, run_underlying Tryz.underlying3 w]; rfl
  have a9 : (isAgg 9).run Tryz.prog w = .ok false w := by unfold isAgg; rw [Sem.run_bind, run_underlying Tryz.underlying9 w]; rfl
  have a23 : (isAgg 23).run Tryz.prog w = .ok false w := by unfold isAgg; rw [Sem.run_bind, run_underlying Tryz.underlying23 w]; rfl
  have i3 : ∀ a b : Int, (Op.equalIn 9999 3 (.int .i64 a) (.int .i64 b)).run Tryz.prog w = .ok (a == b) w := fun a b => run_equalIn_int w 9998 3 _ _ a b Tryz.underlying3
  have s9 : ∀ a b : ByteArray, (Op.equalIn 9999 9 (.string a) (.string b)).run Tryz.prog w = .ok (a.toList == b.toList) w := fun a b => run_equalIn_string w 9998 9 a b Tryz.underlying9
  have s23 : ∀ a b : ByteArray, (Op.equalIn 9999 23 (.string a) (.string b)).run Tryz.prog w = .ok (a.toList == b.toList) w := fun a b => run_equalIn_string w 9998 23 a b Tryz.underlying23
  simp only [Program.fieldsOf, Tryz.underlying25]
  simp [Op.eqFields, part, Sem.run_bind, a3, a9, a23, i3, s9, s23, go_sem]
  by_cases h1 : k = k' <;> by_cases h2 : o.toList = o'.toList <;> by_cases h3 : n = n' <;> by_cases h4 : i = i' <;> by_cases h5 : t.toList = t'.toList <;> simp [h1, h2, h3, h4, h5]

theorem neq_ref (k k' n n' i i' : Int) (o o' t t' : ByteArray) (w : World) :
    (binOp .neq 30 (.agg #[.int .i64 k, .string o, .int .i64 n, .int .i64 i, .string t]) (.agg #[.int .i64 k', .string o', .int .i64 n', .int .i64 i', .string t'])).run Tryz.prog w =
      .ok (.bool (!(k == k' && (o.toList == o'.toList) && n == n' && i == i' && (t.toList == t'.toList)))) w := by
  rw [run_neq_struct, run_equalIn_struct w 9999 30 _ _ (by simp [Program.fieldsOf, Tryz.underlying30]) held30]
  have a3 : (isAgg 3).run Tryz.prog w = .ok false w := by unfold isAgg; rw [Sem.run_bind, run_underlying Tryz.underlying3 w]; rfl
  have a9 : (isAgg 9).run Tryz.prog w = .ok false w := by unfold isAgg; rw [Sem.run_bind, run_underlying Tryz.underlying9 w]; rfl
  have a23 : (isAgg 23).run Tryz.prog w = .ok false w := by unfold isAgg; rw [Sem.run_bind, run_underlying Tryz.underlying23 w]; rfl
  have i3 : ∀ a b : Int, (Op.equalIn 9999 3 (.int .i64 a) (.int .i64 b)).run Tryz.prog w = .ok (a == b) w := fun a b => run_equalIn_int w 9998 3 _ _ a b Tryz.underlying3
  have s9 : ∀ a b : ByteArray, (Op.equalIn 9999 9 (.string a) (.string b)).run Tryz.prog w = .ok (a.toList == b.toList) w := fun a b => run_equalIn_string w 9998 9 a b Tryz.underlying9
  have s23 : ∀ a b : ByteArray, (Op.equalIn 9999 23 (.string a) (.string b)).run Tryz.prog w = .ok (a.toList == b.toList) w := fun a b => run_equalIn_string w 9998 23 a b Tryz.underlying23
  simp only [Program.fieldsOf, Tryz.underlying30]
  simp [Op.eqFields, part, Sem.run_bind, a3, a9, a23, i3, s9, s23, go_sem]
  by_cases h1 : k = k' <;> by_cases h2 : o.toList = o'.toList <;> by_cases h3 : n = n' <;> by_cases h4 : i = i' <;> by_cases h5 : t.toList = t'.toList <;> simp [h1, h2, h3, h4, h5]
end Go.Proofs.YtedlfmjgbehgkaaGreatDoor
