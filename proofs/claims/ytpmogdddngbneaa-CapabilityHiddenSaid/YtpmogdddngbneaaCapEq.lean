/-
  Equality of sights.
-/
import Derived.Test.YtpmogdddngbneaaCapRef3
import Derived.Laws.StructEq
namespace Go.Proofs.Ytpmogdddngbneaa
open Go.RowKit Go.Sort

theorem sgS : Try.prog.underlying 39 = some (.struct (Try.prog.fieldsOf 39)) := by kernel_rfl
theorem sgP : Try.prog.stoodInHeld 39 = false := by kernel_rfl
theorem sgG : Try.prog.eqGuardType Try.prog.depth 39 = false := by kernel_rfl
theorem eq_sight (x y : Sight) (w : World) : (Op.equalIn 10000 39 (gV x) (gV y)).run Try.prog w = .ok (decide (x = y)) w := by
  rw [run_equalIn_struct w 9999 _ _ _ sgS sgP]
  simp only [Program.fieldsOf, Try.underlying39]
  obtain ⟨xo, xl, xh⟩ := x
  obtain ⟨yo, yl, yh⟩ := y
  by_cases h1 : xo = yo
  · by_cases h2 : xl = yl
    · by_cases h3 : xh = yh
      · subst h1; subst h2; subst h3
        simp [Op.eqFields, go_sem]
      · simp [Op.eqFields, go_sem, h1, h2, h3]
    · simp [Op.eqFields, go_sem, h1, h2]
  · simp [Op.eqFields, go_sem, h1]
theorem eql_sight (x y : Sight) (w : World) : (binOp .eql 39 (gV x) (gV y)).run Try.prog w = .ok (.bool (decide (x = y))) w := by
  rw [run_eql_struct, eq_sight]; rfl
theorem neq_sight (x y : Sight) (w : World) : (binOp .neq 39 (gV x) (gV y)).run Try.prog w = .ok (.bool (!decide (x = y))) w := by
  rw [run_neq_struct, eq_sight]; rfl
end Go.Proofs.Ytpmogdddngbneaa
