/-
  What fillOf and ParseFill of the program answer.
-/
import Derived.Test.YtifieekfojbkhaaGreatDoorSpecG2
set_option linter.unusedSimpArgs false
set_option linter.unusedVariables false
namespace Go.Proofs.YtifieekfojbkhaaGreatDoor
open Go Go.VA

/-- A fill. -/
structure Fill where
  k : Int
  d : Int
  fr : List UInt8
  to : List UInt8
  ox : Int
  he : Int
  am : Int
  pu : Bool

def Fill.av (f : Fill) : AV := fillAV f.k f.d f.fr f.to f.ox f.he f.am f.pu

/-- The words of a fill. -/
def parseW : List (List UInt8) → Option Fill
  | [a, d, to, o, h, m] => if a = [105, 110] then (match numOf o, numOf h, numOf m, numOf d with
    | some o, some h, some m, some d => some ⟨0, d, [], to, o, h, m, false⟩
    | _, _, _, _ => none) else none
  | [a, d, fr, to, m] => if a = [109, 111, 118, 101] ∨ a = [112, 117, 109, 112] then (match numOf m, numOf d with
    | some m, some d => some ⟨1, d, fr, to, 0, 0, m, a == [112, 117, 109, 112]⟩
    | _, _ => none) else none
  | [a, d, fr, m] => if a = [118, 101, 110, 116] then (match numOf m, numOf d with
    | some m, some d => some ⟨2, d, fr, [], 0, 0, m, false⟩
    | _, _ => none) else none
  | _ => none

theorem num_val {s : List UInt8} {v : Int} (h : numOf s = some v) : valOf s = v := by
  unfold numOf at h
  unfold valOf
  split at h
  · split at h
    · cases h; simp_all
    · cases h
  · cases h

set_option maxHeartbeats 2000000 in
theorem mix_fillOf_eq (w : List (List UInt8)) (hw : w ≠ []) (hl : ∀ x, x ∈ w → x.length ≤ 1000) (c : Cap) (hc : c ≠ .own) (mem : Mem) :
    ∃ x : Fill, callD C n_mix_fillOf [.slc 1 (w.map .str) c] mem = some (.tup [x.av, .bool (parseW w).isSome], mem) ∧ ∀ f, parseW w = some f → x = f := by
  rw [callD_env (af := a_mix_fillOf) rfl rfl _ _ (by simp [a_mix_fillOf])]
  have hn : ∀ (s : List UInt8) (off : Nat) (x0 x1 x2 x3 x4 x5 x6 x7 : AV), s.length ≤ 1000 → off + 1 ≤ 8 →
      callD C n_mix_number [.str s, .ptr ⟨mem.length, [2]⟩ off] ([([2], [x0, x1, x2, x3, x4, x5, x6, x7])] :: mem) =
        some (.bool (numOf s).isSome, [([2], over [x0, x1, x2, x3, x4, x5, x6, x7] off [.int .i64 (valOf s)])] :: mem) := by
    intro s off x0 x1 x2 x3 x4 x5 x6 x7 h1 h2
    rw [mix_number_eq s h1 ⟨mem.length, [2]⟩ off _ [x0, x1, x2, x3, x4, x5, x6, x7] (by simp) (by simpa using h2) (by simp)]
    simp
  rcases w with _ | ⟨a, _ | ⟨b, _ | ⟨e, _ | ⟨f, _ | ⟨g, _ | ⟨h, _ | ⟨i, r⟩⟩⟩⟩⟩⟩⟩
  · exact absurd rfl hw
  · refine ⟨⟨0, 0, [], [], 0, 0, 0, false⟩, ?_, by simp [parseW]⟩
    simp [a_mix_fillOf, Fill.av, fillAV, parseW, merge_and, merge_or, merge_and', merge_or', hc]
  · refine ⟨⟨0, 0, [], [], 0, 0, 0, false⟩, ?_, by simp [parseW]⟩
    simp [a_mix_fillOf, Fill.av, fillAV, parseW, merge_and, merge_or, merge_and', merge_or', hc]
  · refine ⟨⟨0, 0, [], [], 0, 0, 0, false⟩, ?_, by simp [parseW]⟩
    simp [a_mix_fillOf, Fill.av, fillAV, parseW, merge_and, merge_or, merge_and', merge_or', hc]
  · simp at hl
    refine ⟨if a = [118, 101, 110, 116] then ⟨2, if (numOf f).isSome then valOf b else 0, e, [], 0, 0, valOf f, false⟩ else ⟨0, 0, [], [], 0, 0, 0, false⟩, ?_, ?_⟩
    · simp [a_mix_fillOf, Fill.av, fillAV, parseW, merge_and, merge_or, merge_and', merge_or', hc, hn, hl]
      by_cases ha : a = [118, 101, 110, 116]
      · cases hf : numOf f <;> cases hb : numOf b <;> simp [ha]
      · simp [ha]
    · intro x
      by_cases ha : a = [118, 101, 110, 116]
      · cases hf : numOf f <;> cases hb : numOf b <;> simp [ha, parseW, hf, hb]
        rw [num_val hf, num_val hb]
        exact id
      · simp [ha, parseW]
  · simp at hl
    refine ⟨if a = [109, 111, 118, 101] ∨ a = [112, 117, 109, 112] then ⟨1, if (numOf g).isSome then valOf b else 0, e, f, 0, 0, valOf g, a == [112, 117, 109, 112]⟩ else ⟨0, 0, [], [], 0, 0, 0, false⟩, ?_, ?_⟩
    · simp [a_mix_fillOf, Fill.av, fillAV, parseW, merge_and, merge_or, merge_and', merge_or', hc, hn, hl]
      by_cases ha : a = [109, 111, 118, 101] ∨ a = [112, 117, 109, 112]
      · cases hf : numOf g <;> cases hb : numOf b <;> simp [ha]
      · simp [ha]
    · intro x
      by_cases ha : a = [109, 111, 118, 101] ∨ a = [112, 117, 109, 112]
      · cases hf : numOf g <;> cases hb : numOf b <;> simp [ha, parseW, hf, hb]
        rw [num_val hf, num_val hb]
        exact id
      · simp [ha, parseW]
  · simp at hl
    refine ⟨if a = [105, 110] then ⟨0, if (numOf f).isSome ∧ (numOf g).isSome ∧ (numOf h).isSome then valOf b else 0, [], e, valOf f, if (numOf f).isSome then valOf g else 0, if (numOf f).isSome ∧ (numOf g).isSome then valOf h else 0, false⟩ else ⟨0, 0, [], [], 0, 0, 0, false⟩, ?_, ?_⟩
    · simp [a_mix_fillOf, Fill.av, fillAV, parseW, merge_and, merge_or, merge_and', merge_or', hc, hn, hl]
      by_cases ha : a = [105, 110]
      · cases h1 : numOf f <;> cases h2 : numOf g <;> cases h3 : numOf h <;> cases h4 : numOf b <;> simp [ha]
      · simp [ha]
    · intro x
      by_cases ha : a = [105, 110]
      · cases h1 : numOf f <;> cases h2 : numOf g <;> cases h3 : numOf h <;> cases h4 : numOf b <;> simp [ha, parseW, h1, h2, h3, h4]
        rw [num_val h1, num_val h2, num_val h3, num_val h4]
        exact id
      · simp [ha, parseW]
  · refine ⟨⟨0, 0, [], [], 0, 0, 0, false⟩, ?_, by simp [parseW]⟩
    have z1 : ((r.length : Int) + 1 + 1 + 1 + 1 + 1 + 1 + 1 == 6) = false := by simp; omega
    have z2 : ((r.length : Int) + 1 + 1 + 1 + 1 + 1 + 1 + 1 == 5) = false := by simp; omega
    have z3 : ((r.length : Int) + 1 + 1 + 1 + 1 + 1 + 1 + 1 == 4) = false := by simp; omega
    simp [a_mix_fillOf, Fill.av, fillAV, parseW, merge_and, merge_or, merge_and', merge_or', hc, z1, z2, z3]

theorem split_nonempty (p : List UInt8) (k n : Nat) (s : List UInt8) : Lib.splitK p k n s ≠ [] := by
  cases n with
  | zero => simp [Lib.splitK]
  | succ n => unfold Lib.splitK; split <;> simp

end Go.Proofs.YtifieekfojbkhaaGreatDoor
