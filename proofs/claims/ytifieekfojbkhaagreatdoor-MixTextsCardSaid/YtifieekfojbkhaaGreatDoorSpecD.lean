/-
  What the reference's FormatFill answers.
-/
import Derived.Test.YtifieekfojbkhaaGreatDoorSpecC
set_option linter.unusedSimpArgs false
set_option linter.unusedVariables false
namespace Go.Proofs.YtifieekfojbkhaaGreatDoor
open Go Go.VA
section
variable {k d ox he am : Int} {fr to : List UInt8} {pu : Bool}
set_option maxHeartbeats 2000000 in
theorem ref06_FormatFill_eq (hd : I64 d) (ho : I64 ox) (hh : I64 he) (ha : I64 am) (hf : fr.length ≤ 20) (ht : to.length ≤ 20) (mem : Mem) :
    callD C n_ref06_FormatFill [fillAV k d fr to ox he am pu] mem = some (.str (textOf k d fr to ox he am pu), mem) := by
  rw [callD_env (af := a_ref06_FormatFill) rfl rfl _ _ (by simp [a_ref06_FormatFill])]
  have l1 := itoa_len hd
  have l2 := itoa_len ho
  have l3 := itoa_len hh
  have l4 := itoa_len ha
  have c1 := fun m => base_Decimal_eq d hd.1 hd.2 m
  have c2 := fun m => base_Decimal_eq ox ho.1 ho.2 m
  have c3 := fun m => base_Decimal_eq he hh.1 hh.2 m
  have c4 := fun m => base_Decimal_eq am ha.1 ha.2 m
  by_cases k0 : k = 0
  · subst k0
    simp [a_ref06_FormatFill, fillAV, c1, c2, c3, c4, textOf, wordsOf, Lib.join_cons, Lib.joinTail]
    omega
  · by_cases k1 : k = 1
    · subst k1
      cases pu with
      | true =>
        simp [a_ref06_FormatFill, fillAV, c1, c2, c3, c4, textOf, wordsOf, Lib.join_cons, Lib.joinTail, Lib.join_nil]
        omega
      | false =>
        simp [a_ref06_FormatFill, fillAV, c1, c2, c3, c4, textOf, wordsOf, Lib.join_cons, Lib.joinTail, Lib.join_nil]
        omega
    · by_cases k2 : k = 2
      · subst k2
        simp [a_ref06_FormatFill, fillAV, c1, c2, c3, c4, textOf, wordsOf, Lib.join_cons, Lib.joinTail, Lib.join_nil]
        omega
      · simp [a_ref06_FormatFill, fillAV, c1, c2, c3, c4, textOf, wordsOf, Lib.join_cons, Lib.joinTail, Lib.join_nil, k0, k1, k2]
        omega
end
end Go.Proofs.YtifieekfojbkhaaGreatDoor
