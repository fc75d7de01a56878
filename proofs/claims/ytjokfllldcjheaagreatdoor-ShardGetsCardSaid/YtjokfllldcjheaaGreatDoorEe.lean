/- edges: slices.Equal at edges, Same. -/
import Derived.Test.YtjokfllldcjheaaGreatDoorEd
import Derived.Laws.StructEq
namespace Go.Proofs.YtjokfllldcjheaaGreatDoor.Ed
open Go.RowKit
set_option linter.unusedVariables false
set_option linter.unusedSimpArgs false

theorem eql_run (a b : E2) (w : World) : (binOp .eql 68 (.agg #[.int .i64 a.1, .int .i64 a.2]) (.agg #[.int .i64 b.1, .int .i64 b.2])).run Tryz.prog w = .ok (.bool (decide (a = b))) w := by
  have u3 := Tryz.underlying3
  have a3 := Tryz.isAgg3
  have z3 := Tryz.sizeOf3
  have hS : Tryz.prog.underlying 68 = some (.struct (Tryz.prog.fieldsOf 68)) := by kernel_rfl
  have hp : Tryz.prog.stoodInHeld 68 = false := by kernel_rfl
  rw [run_eql_struct, show (10000 : Nat) = 9999 + 1 from rfl, run_equalIn_agg w 9999 68 _ _ hS hp]
  simp only [Program.fieldsOf, Tryz.underlying68]
  go_simp
  obtain ⟨x, x'⟩ := a
  obtain ⟨y, y'⟩ := b
  by_cases h1 : x = y <;> by_cases h2 : x' = y' <;> simp [h1, h2]
theorem neq_run (a b : E2) (w : World) : (binOp .neq 68 (.agg #[.int .i64 a.1, .int .i64 a.2]) (.agg #[.int .i64 b.1, .int .i64 b.2])).run Tryz.prog w = .ok (.bool (!decide (a = b))) w := by
  have u3 := Tryz.underlying3
  have a3 := Tryz.isAgg3
  have z3 := Tryz.sizeOf3
  have hS : Tryz.prog.underlying 68 = some (.struct (Tryz.prog.fieldsOf 68)) := by kernel_rfl
  have hp : Tryz.prog.stoodInHeld 68 = false := by kernel_rfl
  rw [run_neq_struct, show (10000 : Nat) = 9999 + 1 from rfl, run_equalIn_agg w 9999 68 _ _ hS hp]
  simp only [Program.fieldsOf, Tryz.underlying68]
  go_simp
  obtain ⟨x, x'⟩ := a
  obtain ⟨y, y'⟩ := b
  by_cases h1 : x = y <;> by_cases h2 : x' = y' <;> simp [h1, h2]
theorem guard_run (op : BinOp) (p q : Operand) (a b : E2) (w : World) : (eqGuard op 68 p q (.agg #[.int .i64 a.1, .int .i64 a.2]) (.agg #[.int .i64 b.1, .int .i64 b.2])).run Tryz.prog w = .ok () w :=
  run_eqGuard_agg w op 68 p q _ _ (by kernel_rfl)
end Go.Proofs.YtjokfllldcjheaaGreatDoor.Ed
