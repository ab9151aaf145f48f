/-
  Which functions the methods of the facts are.
-/
import Derived.Test.YtnhagbllecpkkaaGreatDoorCtx
set_option linter.unusedSimpArgs false
set_option linter.unusedVariables false

namespace Go.Proofs.YtnhagbllecpkkaaGreatDoor
open Go Go.VA

theorem methOK : MethOK Tryz.prog C := by
  intro t m f h v w
  change meth t m = some f at h
  unfold meth at h
  split at h
  · rename_i hh; obtain ⟨rfl, rfl⟩ := hh; cases h; kernel_rfl
  split at h
  · rename_i hh; obtain ⟨rfl, rfl⟩ := hh; cases h; kernel_rfl
  split at h
  · rename_i hh; obtain ⟨rfl, rfl⟩ := hh; cases h; kernel_rfl
  split at h
  · rename_i hh; obtain ⟨rfl, rfl⟩ := hh; cases h; kernel_rfl
  split at h
  · rename_i hh; obtain ⟨rfl, rfl⟩ := hh; cases h; kernel_rfl
  split at h
  · rename_i hh; obtain ⟨rfl, rfl⟩ := hh; cases h; kernel_rfl
  · cases h

end Go.Proofs.YtnhagbllecpkkaaGreatDoor
