/-
  What Recover of the program answers.
-/
import Derived.Test.YtnhagbllecpkkaaGreatDoorRecRef2
set_option linter.unusedSimpArgs false
set_option linter.unusedVariables false

namespace Go.Proofs.YtnhagbllecpkkaaGreatDoor
open Go Go.VA

/-- A line of a journal, as the program reads it. -/
def stepG (cnt last : Nat) (line : List UInt8) : Option (Ent × Nat) :=
  match Lib.splitN (Lib.trimSuffix line [10]) [32] 4 with
  | [a, b, c, d] => if Lib.hasSuffix line [10] = true ∧ cnt ≠ 60 ∧ a = Lib.itoa ((cnt : Int) + 1) ∧ b = Lib.itoa (sealOf last c d) ∧ isNameF c = true ∧ d.length ≤ 400 then some ((c, d), sealOf last c d) else none
  | _ => none

def recG (cnt last : Nat) : List (List UInt8) → List Ent × Nat
  | [] => ([], 0)
  | w :: r => match stepG cnt last w with
    | some (e, n) => (e :: (recG (cnt + 1) n r).1, w.length + (recG (cnt + 1) n r).2)
    | none => ([], 0)

/-- The boxes of Recover. -/
def boxR (out : List Ent) (n size : Nat) : Fr := [([6], [.int .i64 size]), ([5], [.int .i64 n]), ([4], [entsAV out .own])]

theorem splitK_le (sep : List UInt8) (sv : Nat) : ∀ (k : Nat) (s : List UInt8), (Lib.splitK sep sv k s).length ≤ k + 1
  | 0, s => by simp [Lib.splitK]
  | k + 1, s => by
    unfold Lib.splitK
    split
    · simp
    · simp only [List.length_cons]
      have := splitK_le sep sv k (s.drop ((Lib.index s sep).toNat + sep.length))
      omega

theorem splitN_le (s : List UInt8) : (Lib.splitN s [32] 4).length ≤ 4 := by
  have := splitK_le [32] 0 (min 4 (s.length + 1) - 1) s
  unfold Lib.splitN
  omega

end Go.Proofs.YtnhagbllecpkkaaGreatDoor
