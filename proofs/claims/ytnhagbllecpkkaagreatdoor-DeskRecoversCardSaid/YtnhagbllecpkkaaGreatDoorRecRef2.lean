/-
  What Recover of the reference answers: the whole.
-/
import Derived.Test.YtnhagbllecpkkaaGreatDoorRecRef
set_option linter.unusedSimpArgs false
set_option linter.unusedVariables false

namespace Go.Proofs.YtnhagbllecpkkaaGreatDoor
open Go Go.VA

theorem recF_len (i last : Nat) (ws : List (List UInt8)) : (recF i last ws).1.length ≤ ws.length := by
  induction ws generalizing i last with
  | nil => simp [recF]
  | cons w r ih =>
    cases r with
    | nil => simp [recF]
    | cons w' r =>
      simp only [recF]
      split
      · split
        · rename_i e n _
          have := ih (i + 1) n
          simp at this ⊢
          omega
        · simp
      · simp

theorem ref10_Recover_eq (s : List UInt8) (hs : s.length ≤ 30000) (m : Mem) : callD C n_ref10_Recover [.str s] m = some (.tup [entsAV (recF 0 0 (cutAt 10 s)).1 .unk, .int .i64 (recF 0 0 (cutAt 10 s)).2], m) := by
  rw [callD_env (af := a_ref10_Recover) rfl rfl _ _ (by simp [a_ref10_Recover])]
  have hc : ∀ m, callD C n_base_Cut [.str s, .int .u8 10] m = some (.slc 1 ((cutAt 10 s).map .str) .own, m) := fun m => base_Cut_at s 10 m (by omega)
  have hl : (cutAt 10 s).length ≤ s.length + 1 := by rw [cutAt_length]; have := List.count_le_length (a := (10 : UInt8)) (l := s); omega
  obtain ⟨e, fr, h1, h2, h3⟩ := ref10_Recover_loop (cutAt 10 s) (by omega) (fun x hx => by have := (cutAt_mem 10 s x hx).1; omega) m _ 0 0 0 [] rfl (Nat.zero_le _) (by omega) (by omega) rfl
  rw [List.drop_zero] at h2 h3
  have e0 : entsAV [] .own = .nils := rfl
  simp [e0] at h1 h2 h3
  simp [a_ref10_Recover, hc, lh_ref10_Recover_1, h1, h2, h3]

end Go.Proofs.YtnhagbllecpkkaaGreatDoor
