/- edges: slices.Equal at edges, Same. -/
import Derived.Test.YtjokfllldcjheaaEd
import Derived.Laws.StructEq
namespace Go.Proofs.Ytjokfllldcjheaa.Ed
open Go.RowKit
set_option linter.unusedVariables false
set_option linter.unusedSimpArgs false

theorem eql_run (a b : E2) (w : World) : (binOp .eql 52 (.agg #[.int .i64 a.1, .int .i64 a.2]) (.agg #[.int .i64 b.1, .int .i64 b.2])).run Try.prog w = .ok (.bool (decide (a = b))) w := by
  have u3 := Try.underlying3
  have a3 := Try.isAgg3
  have z3 := Try.sizeOf3
  have hS : Try.prog.underlying 52 = some (.struct (Try.prog.fieldsOf 52)) := by kernel_rfl
  have hp : Try.prog.stoodInHeld 52 = false := by kernel_rfl
  rw [run_eql_struct, show (10000 : Nat) = 9999 + 1 from rfl, run_equalIn_agg w 9999 52 _ _ hS hp]
  simp only [Program.fieldsOf, Try.underlying52]
  go_simp
  obtain ⟨x, x'⟩ := a
  obtain ⟨y, y'⟩ := b
  by_cases h1 : x = y <;> by_cases h2 : x' = y' <;> simp [h1, h2]
theorem neq_run (a b : E2) (w : World) : (binOp .neq 52 (.agg #[.int .i64 a.1, .int .i64 a.2]) (.agg #[.int .i64 b.1, .int .i64 b.2])).run Try.prog w = .ok (.bool (!decide (a = b))) w := by
  have u3 := Try.underlying3
  have a3 := Try.isAgg3
  have z3 := Try.sizeOf3
  have hS : Try.prog.underlying 52 = some (.struct (Try.prog.fieldsOf 52)) := by kernel_rfl
  have hp : Try.prog.stoodInHeld 52 = false := by kernel_rfl
  rw [run_neq_struct, show (10000 : Nat) = 9999 + 1 from rfl, run_equalIn_agg w 9999 52 _ _ hS hp]
  simp only [Program.fieldsOf, Try.underlying52]
  go_simp
  obtain ⟨x, x'⟩ := a
  obtain ⟨y, y'⟩ := b
  by_cases h1 : x = y <;> by_cases h2 : x' = y' <;> simp [h1, h2]
theorem guard_run (op : BinOp) (p q : Operand) (a b : E2) (w : World) : (eqGuard op 52 p q (.agg #[.int .i64 a.1, .int .i64 a.2]) (.agg #[.int .i64 b.1, .int .i64 b.2])).run Try.prog w = .ok () w :=
  run_eqGuard_agg w op 52 p q _ _ (by kernel_rfl)
end Go.Proofs.Ytjokfllldcjheaa.Ed
