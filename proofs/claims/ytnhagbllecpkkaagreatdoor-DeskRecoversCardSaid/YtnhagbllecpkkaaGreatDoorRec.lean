/-
  What Recover of the program answers: the whole.
-/
import Derived.Test.YtnhagbllecpkkaaGreatDoorRecRounds
import Derived.Test.YtnhagbllecpkkaaGreatDoorRecLaw
set_option linter.unusedSimpArgs false
set_option linter.unusedVariables false

namespace Go.Proofs.YtnhagbllecpkkaaGreatDoor
open Go Go.VA

theorem iter_lines (s : List UInt8) (h : s.length ≤ 30000) : iterOf C 31 [.str s] 1 = some ((linesOf [] s).map fun l => [.str l]) := by
  have hq : qLines [.str s] = some ((linesOf [] s).map fun l => [.str l]) := by
    show (if s.length ≤ 281474976710656 then some ((linesOf [] s).map fun l => ([.str l] : List AV)) else none) = _
    rw [if_pos (by omega)]
  have ha : (((linesOf [] s).map fun l => ([.str l] : List AV)).all fun x => x.length == 1 && AV.pure.pures x) = true := by
    rw [List.all_eq_true]
    intro x hx
    obtain ⟨l, _, rfl⟩ := List.mem_map.1 hx
    rfl
  have hi : C.iter 31 = some qLines := rfl
  have hp : AV.pure.pures [.str s] = true := rfl
  unfold iterOf
  rw [hi]
  simp only [hp, if_true, hq, Option.bind_some]
  rw [if_pos ha]

theorem desk_Recover_eq (s : List UInt8) (hs : s.length ≤ 30000) (m : Mem) : callD C n_desk_Recover [.str s] m = some (.tup [entsAV (recG 0 0 (linesOf [] s)).1 .unk, .int .i64 (recG 0 0 (linesOf [] s)).2], m) := by
  rw [callD_env (af := a_desk_Recover) rfl rfl _ _ (by simp [a_desk_Recover])]
  have hi := iter_lines s hs
  have e0 : entsAV [] .own = .nils := rfl
  have hsum := linesOf_sum s []
  obtain ⟨e, n', g1, g2⟩ := desk_Recover_rounds [(12, .undef), (11, .str s), (6, .ptr ⟨m.length, [6]⟩ 0), (5, .ptr ⟨m.length, [5]⟩ 0), (4, .ptr ⟨m.length, [4]⟩ 0), (3, .int .i64 0), (2, .nils), (0, .str s)] m rfl rfl rfl (linesOf [] s) [] 0 0
    (fun l hl => by have := mem_le_sum _ l hl; simp at hsum; omega) (by simp) (by omega) (by simp at hsum; omega)
  simp [boxR, e0] at g1
  rcases g2 with rfl | rfl
  · simp [a_desk_Recover, den_rangeI, hi, map_strip_tmOf, set_tmOf, tmOf_length, g1, overI]
  · simp [a_desk_Recover, den_rangeI, hi, map_strip_tmOf, set_tmOf, tmOf_length, g1, overI]

end Go.Proofs.YtnhagbllecpkkaaGreatDoor
