import Derived.Test.YtikaonfnaobciaaC5
namespace Go.Proofs.Ytikaonfnaobciaa
open Go.RowKit
set_option linter.unusedVariables false

theorem eqMark (a c : Int) (b d : Bool) (w : World) : (Op.equalIn 10000 74 (.agg #[.int .i64 a, .bool b]) (.agg #[.int .i64 c, .bool d])).run Try.prog w = .ok (decide (a = c ∧ b = d)) w := by
  have u3 := Try.underlying3
  have a3 := Try.isAgg3
  have z3 := Try.sizeOf3
  have u4 := Try.underlying4
  have a4 := Try.isAgg4
  have z4 := Try.sizeOf4
  have hS : Try.prog.underlying 74 = some (.struct (Try.prog.fieldsOf 74)) := by kernel_rfl
  have hp : Try.prog.stoodInHeld 74 = false := by kernel_rfl
  rw [show (10000 : Nat) = 9999 + 1 from rfl, run_equalIn_agg w 9999 74 _ _ hS hp]
  simp only [Program.fieldsOf, Try.underlying74]
  go_simp
  by_cases h1 : a = c <;> by_cases h2 : b = d <;> simp [h1, h2]
instance (a c : Int) (b d : Bool) : EQ Try.prog 74 [.int .i64 a, .bool b] [.int .i64 c, .bool d] (a = c ∧ b = d) inferInstance := ⟨fun w => eqMark a c b d w, by kernel_rfl⟩
end Go.Proofs.Ytikaonfnaobciaa
