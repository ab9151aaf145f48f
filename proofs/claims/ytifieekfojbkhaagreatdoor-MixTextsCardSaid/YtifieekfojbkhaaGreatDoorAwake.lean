/-
  The examples of the chapter: run by the kernel.
-/
import Derived.Test.YtifieekfojbkhaaGreatDoorCtx
set_option linter.unusedSimpArgs false
set_option linter.unusedVariables false
namespace Go.Proofs.YtifieekfojbkhaaGreatDoor
open Go Go.VA
theorem awake_ev : callWith C (ev C 400) n_law06_awake [] [[]] = some (.bool true, [[]]) := by kernel_rfl
end Go.Proofs.YtifieekfojbkhaaGreatDoor
