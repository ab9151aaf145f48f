/-
  A heap that meets the condition on the listed variables: the door's own, the pinned table laid beside.
-/
import Derived.Test.YtnhagbllecpkkaaGreatDoorRows
import Derived.LaidMore
import Derived.LaidHandle
import Derived.Stop.Joined
import Derived.Lay
set_option linter.unusedSimpArgs false
set_option linter.unusedVariables false

namespace Go.Proofs.YtnhagbllecpkkaaGreatDoor
open Go

noncomputable def doorW (os : Os) : World := World.doorLaid Tryz.prog 4000 os
noncomputable def witW (os : Os) : World := (doorW os).layVars Tryz.prog (Rows.deskRecoversRow.laid.filter fun x => ["unicode/utf8.first"].contains x.1)
theorem witW_os (os : Os) : (witW os).os = os := World.layVars_os _ _ _
theorem wit_met (os : Os) (args : Array Value) : laidMetH Tryz.prog Rows.deskRecoversRow.laid ((witW os).forCall (fun _ _ => 0) ⟨#[], args, []⟩).memory := by
  rw [MakeChecks.laidMetH_plain _ _ _ (by kernel_rfl)]
  have h : laidMet Tryz.prog Rows.deskRecoversRow.laid (witW os) :=
    laidMet_layVars (w0 := doorW os) ["unicode/utf8.first"] ((List.range (doorW os).heap.size).filter (· != 3)) rfl (by kernel_rfl) (by kernel_rfl)
      (LaidIn.of_run _ 8 (by kernel_rfl) (by kernel_rfl) (by kernel_rfl) (by kernel_rfl))
  exact h.of_heap (by simp [World.memory, World.forCall, Input.heap])
theorem wit_shaped (os : Os) : ((witW os).forCall (fun _ _ => 0) ⟨#[], #[.string ⟨#[]⟩], []⟩).Shaped Tryz.prog := World.shaped_of_ZipB (by kernel_rfl) (by kernel_rfl)

end Go.Proofs.YtnhagbllecpkkaaGreatDoor
