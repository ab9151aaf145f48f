/-
  DeskRecovers answers true.
-/
import Derived.Test.YtnhagbllecpkkaaGreatDoorRec
import Derived.Test.YtnhagbllecpkkaaGreatDoorEg
set_option linter.unusedSimpArgs false
set_option linter.unusedVariables false

namespace Go.Proofs.YtnhagbllecpkkaaGreatDoor
open Go Go.VA

theorem recF_len60 (s : List UInt8) (hs : s.length ≤ 3000) : (recF 0 0 (cutAt 10 s)).1.length ≤ 1000000 := by
  have h1 := recF_len 0 0 (cutAt 10 s)
  have h2 := cutAt_length 10 s
  have h3 := List.count_le_length (a := (10 : UInt8)) (l := s)
  omega

theorem DeskRecovers_eq (s : List UInt8) : callD C n_law10_DeskRecovers [.str s] [] = some (.bool true, []) := by
  rw [callD_env (af := a_law10_DeskRecovers) rfl rfl _ _ (by simp [a_law10_DeskRecovers])]
  have ha := awake_eq
  by_cases hs : s.length ≤ 3000
  · have hs' : ¬ (3000 : Int) < s.length := by omega
    have h1 := fun m => desk_Recover_eq s (by omega) m
    have h2 := fun m => ref10_Recover_eq s (by omega) m
    have h3 := rec_law s.length s 0 0 (Nat.le_refl _) (by omega)
    rw [h3] at h1
    have h4 := recF_len60 s hs
    have h5 := fun m => law10_entries_eq (recF 0 0 (cutAt 10 s)).1 (recF 0 0 (cutAt 10 s)).1 h4 h4 .unk .unk (by simp) (by simp) m
    simp [a_law10_DeskRecovers, ha, hs', h1, h2, h5]
  · have hs' : (3000 : Int) < s.length := by omega
    simp [a_law10_DeskRecovers, ha, hs']

end Go.Proofs.YtnhagbllecpkkaaGreatDoor
