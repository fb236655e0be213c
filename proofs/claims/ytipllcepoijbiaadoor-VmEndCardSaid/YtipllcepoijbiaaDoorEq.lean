/-
  Arrays of numbers that are compared.
-/
import Derived.Test.YtipllcepoijbiaaDoorRun
import Derived.ChangeKeysEq
namespace Go.Proofs.YtipllcepoijbiaaDoor
open Go.RowKit Go.Deep
set_option linter.unusedVariables false
theorem und24 : Tryd.prog.underlying 24 = some (.array 4 3) := by kernel_rfl
theorem und41 : Tryd.prog.underlying 41 = some (.array 8 3) := by kernel_rfl
theorem und3 : Tryd.prog.underlying 3 = some (.int .i64) := by kernel_rfl
theorem inf3 : ∃ i, Tryd.prog.info? 3 = some i := by
  cases h : Tryd.prog.info? 3 with
  | none => exact absurd (show (Tryd.prog.info? 3).isSome = true by kernel_rfl) (by rw [h]; simp)
  | some i => exact ⟨i, rfl⟩
theorem cells3 : Tryd.prog.cellsOf 3 = 1 := by kernel_rfl
theorem eq24 (w : World) (a0 a1 a2 a3 b0 b1 b2 b3 : Int) : (Op.equalIn 10000 24 (.agg #[.int .i64 a0, .int .i64 a1, .int .i64 a2, .int .i64 a3]) (.agg #[.int .i64 b0, .int .i64 b1, .int .i64 b2, .int .i64 b3])).run Tryd.prog w = .ok (a0 == b0 && a1 == b1 && a2 == b2 && a3 == b3) w := by
  obtain ⟨i, hi⟩ := inf3
  rw [show (10000 : Nat) = 9999 + 1 from rfl, run_equalIn_array (P := Tryd.prog) (w := w) 9999 _ _ und24 hi, cells3]
  simp [Op.eqItems, List.range, List.range.loop, go_sem]
  by_cases h0 : a0 = b0 <;> by_cases h1 : a1 = b1 <;> by_cases h2 : a2 = b2 <;> by_cases h3 : a3 = b3 <;> simp [h0, h1, h2, h3]
theorem eq41 (w : World) : (Op.equalIn 10000 41 (.agg #[.int .i64 0, .int .i64 0, .int .i64 0, .int .i64 0, .int .i64 0, .int .i64 0, .int .i64 0, .int .i64 0]) (.agg #[.int .i64 0, .int .i64 0, .int .i64 0, .int .i64 0, .int .i64 0, .int .i64 0, .int .i64 0, .int .i64 0])).run Tryd.prog w = .ok true w := by
  obtain ⟨i, hi⟩ := inf3
  rw [show (10000 : Nat) = 9999 + 1 from rfl, run_equalIn_array (P := Tryd.prog) (w := w) 9999 _ _ und41 hi, cells3]
  simp [Op.eqItems, List.range, List.range.loop, go_sem]
end Go.Proofs.YtipllcepoijbiaaDoor
