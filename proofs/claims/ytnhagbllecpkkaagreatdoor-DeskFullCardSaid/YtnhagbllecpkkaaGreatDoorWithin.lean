/-
  Whether a number lies between two.
-/
import Derived.Test.YtnhagbllecpkkaaGreatDoorBase
set_option linter.unusedSimpArgs false
set_option linter.unusedVariables false

namespace Go.Proofs.YtnhagbllecpkkaaGreatDoor
open Go Go.VA

theorem base_Within_eq (n lo hi : Int) (mem : Mem) : callD C n_base_Within [.int .i64 n, .int .i64 lo, .int .i64 hi] mem = some (.bool (decide (lo ≤ n) && decide (n ≤ hi)), mem) := by
  rw [callD_env (af := a_base_Within) rfl rfl _ _ (by simp [a_base_Within])]
  by_cases h1 : lo ≤ n <;> simp [a_base_Within, h1]

end Go.Proofs.YtnhagbllecpkkaaGreatDoor
