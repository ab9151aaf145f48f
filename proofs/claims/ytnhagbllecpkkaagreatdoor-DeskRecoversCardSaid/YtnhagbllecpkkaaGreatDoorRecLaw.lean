/-
  Recover of the program and of the reference answer alike: the plain law.
-/
import Derived.Test.YtnhagbllecpkkaaGreatDoorRecRef2
import Derived.Test.YtnhagbllecpkkaaGreatDoorRecPlain
set_option linter.unusedSimpArgs false
set_option linter.unusedVariables false

namespace Go.Proofs.YtnhagbllecpkkaaGreatDoor
open Go Go.VA

theorem linesOf_nolf : ∀ (s acc : List UInt8), 10 ∉ s → linesOf acc s = if acc ++ s = [] then [] else [acc ++ s]
  | [], acc, _ => by simp [linesOf]
  | b :: s, acc, h => by
    simp only [List.mem_cons, not_or] at h
    rw [linesOf, if_neg (fun e => h.1 e.symm), linesOf_nolf s (acc ++ [b]) h.2]
    simp

theorem linesOf_lf (b : List UInt8) : ∀ (a acc : List UInt8), 10 ∉ a → linesOf acc (a ++ 10 :: b) = (acc ++ a ++ [10]) :: linesOf [] b
  | [], acc, _ => by simp [linesOf]
  | x :: a, acc, h => by
    simp only [List.mem_cons, not_or] at h
    rw [List.cons_append, linesOf, if_neg (fun e => h.1 e.symm), linesOf_lf b a (acc ++ [x]) h.2]
    simp

theorem linesOf_sum : ∀ (s acc : List UInt8), ((linesOf acc s).map List.length).sum = acc.length + s.length
  | [], acc => by
    by_cases h : acc = []
    · simp [linesOf, h]
    · simp [linesOf, h]
  | b :: s, acc => by
    rw [linesOf]
    split
    · simp [linesOf_sum s []]; omega
    · rw [linesOf_sum s]; simp; omega

theorem mem_le_sum : ∀ (L : List (List UInt8)) (l : List UInt8), l ∈ L → l.length ≤ (L.map List.length).sum
  | x :: L, l, h => by
    rw [List.mem_cons] at h
    rcases h with rfl | h
    · simp
    · have := mem_le_sum L l h
      simp; omega

theorem splitK_head (k : Nat) (s : List UInt8) : Lib.splitK [32] 0 (k + 1) s = if (headOf s).2.2 = true then (headOf s).1 :: Lib.splitK [32] 0 k (headOf s).2.1 else [s] := by
  rcases index_one 32 s with ⟨h, hi⟩ | ⟨a, b, rfl, h, hi⟩
  · rw [headOf_none h]
    simp [Lib.splitK, hi]
  · rw [headOf_cut b h]
    have hn : ¬ ((a.length : Int) == -1) = true := by simp
    simp only [Lib.splitK, hi, hn]
    simp

theorem headOf_lt {s : List UInt8} (h : (headOf s).2.2 = true) : (headOf s).1.length + (headOf s).2.1.length + 1 = s.length := by
  rcases headOf_cases s with ⟨_, e⟩ | ⟨a, b, rfl, _, e⟩
  · rw [e] at h; cases h
  · rw [e]; simp; omega

theorem stepG_line (i last : Nat) (w : List UInt8) (hi : i ≤ 60) : stepG i last (w ++ [10]) = if i < 60 then lineF i last w else none := by
  have h1 : Lib.hasSuffix (w ++ [10]) [10] = true := by simp [Lib.hasSuffix]
  have h2 : Lib.trimSuffix (w ++ [10]) [10] = w := by simp [Lib.trimSuffix, h1]
  unfold stepG lineF
  rw [h1, h2]
  have h60 : (i ≠ 60) = (i < 60) := by apply propext; omega
  unfold Lib.splitN
  have hk : min 4 (w.length + 1) - 1 = min 3 w.length := by omega
  rw [hk]
  by_cases hw : 3 ≤ w.length
  · rw [Nat.min_eq_left hw, splitK_head]
    cases f1 : (headOf w).2.2 with
    | false => simp
    | true =>
      simp only [if_true, splitK_head]
      cases f2 : (headOf (headOf w).2.1).2.2 with
      | false => simp
      | true =>
        simp only [if_true]
        cases f3 : (headOf (headOf (headOf w).2.1).2.1).2.2 with
        | false => simp
        | true =>
          simp only [if_true, Lib.splitK, h60, true_and]
          by_cases hlt : i < 60
          · simp only [hlt, if_true, true_and]
            exact ite_congr (propext ⟨fun ⟨a, b, c, d⟩ => ⟨a, c, d, b⟩, fun ⟨a, c, d, b⟩ => ⟨a, b, c, d⟩⟩) (fun _ => rfl) (fun _ => rfl)
          · simp [hlt]
  · rw [Nat.min_eq_right (by omega)]
    have hl : ¬ ((headOf w).2.2 = true ∧ (headOf (headOf w).2.1).2.2 = true ∧ (headOf (headOf (headOf w).2.1).2.1).2.2 = true) := by
      rintro ⟨g1, g2, g3⟩
      have := headOf_lt g1
      have := headOf_lt g2
      have := headOf_lt g3
      omega
    have hr : (if i < 60 then (if (headOf w).2.2 = true ∧ (headOf (headOf w).2.1).2.2 = true ∧ (headOf (headOf (headOf w).2.1).2.1).2.2 = true ∧ (headOf w).1 = Lib.itoa ((i : Int) + 1) ∧
    isNameF (headOf (headOf (headOf w).2.1).2.1).1 = true ∧ (headOf (headOf (headOf w).2.1).2.1).2.1.length ≤ 400 ∧
    (headOf (headOf w).2.1).1 = Lib.itoa (sealOf last (headOf (headOf (headOf w).2.1).2.1).1 (headOf (headOf (headOf w).2.1).2.1).2.1)
  then some (((headOf (headOf (headOf w).2.1).2.1).1, (headOf (headOf (headOf w).2.1).2.1).2.1), sealOf last (headOf (headOf (headOf w).2.1).2.1).1 (headOf (headOf (headOf w).2.1).2.1).2.1) else none) else none) = none := by
      split
      · rw [if_neg]
        rintro ⟨a, b, c, _⟩
        exact hl ⟨a, b, c⟩
      · rfl
    rw [hr]
    have hle := splitK_le [32] 0 w.length w
    split
    · rename_i e
      rw [e] at hle
      simp at hle
      omega
    · rfl

theorem rec_law : ∀ (k : Nat) (s : List UInt8) (i last : Nat), s.length ≤ k → i ≤ 60 → recG i last (linesOf [] s) = recF i last (cutAt 10 s) := by
  intro k
  induction k with
  | zero =>
    intro s i last hs _
    have : s = [] := List.length_eq_zero_iff.1 (by omega)
    subst this
    simp [linesOf, cutAt, recG, recF]
  | succ k ih =>
    intro s i last hs hi
    rcases index_one 10 s with ⟨h, _⟩ | ⟨a, b, rfl, h, _⟩
    · rw [linesOf_nolf s [] h, cutAt_none h]
      by_cases he : s = []
      · subst he; simp [recG, recF]
      · have hsf : Lib.hasSuffix s [10] = false := by
          rw [Bool.eq_false_iff]
          intro e
          rw [Lib.hasSuffix, List.isSuffixOf_iff_suffix] at e
          exact h (e.subset (by simp))
        have hst : stepG i last s = none := by
          unfold stepG
          rw [hsf]
          split <;> simp
        simp [he, recG, recF, hst]
    · rw [linesOf_lf b a [] h, cutAt_append b h]
      obtain ⟨w', r, hc⟩ : ∃ w' r, cutAt 10 b = w' :: r := by
        cases e : cutAt 10 b with
        | nil => exact absurd e (cutAt_ne 10 b)
        | cons w' r => exact ⟨w', r, rfl⟩
      rw [hc]
      simp only [List.nil_append, recG, recF, stepG_line i last a hi]
      by_cases hlt : i < 60
      · simp only [hlt, if_true]
        cases hl : lineF i last a with
        | none => rfl
        | some p =>
          obtain ⟨e, n⟩ := p
          simp only
          have := ih b (i + 1) n (by simp at hs; omega) (by omega)
          rw [this, hc]
          simp
      · simp [hlt]

end Go.Proofs.YtnhagbllecpkkaaGreatDoor
