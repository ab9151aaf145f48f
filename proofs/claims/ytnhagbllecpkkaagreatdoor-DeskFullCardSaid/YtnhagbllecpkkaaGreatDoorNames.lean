/-
  What isName and IsName answer.
-/
import Derived.Test.YtnhagbllecpkkaaGreatDoorBase
set_option linter.unusedSimpArgs false
set_option linter.unusedVariables false

namespace Go.Proofs.YtnhagbllecpkkaaGreatDoor
open Go Go.VA

def letterN (n : Nat) : Bool := (decide (97 ≤ n) && decide (n ≤ 122)) || (decide (65 ≤ n) && decide (n ≤ 90))
def nameCh (i n : Nat) : Bool := letterN n || (decide (i ≠ 0) && (decide (n = 45) || (decide (48 ≤ n) && decide (n ≤ 57))))
/-- All bytes may stand in a name, the first of them at place i. -/
def nameFrom (i : Nat) : List UInt8 → Bool
  | [] => true
  | c :: r => nameCh i c.toNat && nameFrom (i + 1) r
def isNameF (s : List UInt8) : Bool := decide (s ≠ []) && decide (s.length ≤ 12) && nameFrom 0 s

theorem name_classes (n : Nat) : n < 45 ∨ n = 45 ∨ (45 < n ∧ n < 48) ∨ (48 ≤ n ∧ n ≤ 57) ∨ (57 < n ∧ n < 65) ∨ (65 ≤ n ∧ n ≤ 90) ∨ (90 < n ∧ n < 97) ∨ (97 ≤ n ∧ n ≤ 122) ∨ 122 < n := by omega

theorem desk_isName_loop (s : List UInt8) (hs : s.length ≤ 1000000) (m : Mem) : ∀ (k i : Nat), s.length - i = k → i ≤ s.length →
    if nameFrom i (s.drop i) then headL C l_desk_isName_1 64 [(0, .str s), (6, .int .i64 s.length), (7, .int .i64 i)] [] m = some (.exit 0, ⟨tmOf 64 [(8, .bool false), (0, .str s), (6, .int .i64 s.length), (7, .int .i64 s.length)], [] :: m⟩)
    else ∃ tm, headL C l_desk_isName_1 64 [(0, .str s), (6, .int .i64 s.length), (7, .int .i64 i)] [] m = some (.ret, ⟨tm, [] :: m⟩) ∧ getT tm 2 = .bool false
  | k, i, hk, hi => by
    by_cases hlt : i < s.length
    · have hd : s.drop i = s[i] :: s.drop (i + 1) := List.drop_eq_getElem_cons hlt
      have hw : IntKind.i64.wrap ((i : Int) + 1) = ((i + 1 : Nat) : Int) := by rw [IntWalk.i64_in _ (by omega)]; omega
      have ih := desk_isName_loop s hs m (k - 1) (i + 1) (by omega) (by omega)
      rw [hd]
      simp only [nameFrom]
      rw [ls_desk_isName_1]
      have hcl := name_classes s[i].toNat
      by_cases hi0 : i = 0
      · subst hi0
        rcases hcl with h | h | h | h | h | h | h | h | h <;>
        (first | have c1 : (97 : Int) ≤ s[0].toNat := by omega | have c1 : ¬ (97 : Int) ≤ s[0].toNat := by omega) <;>
        (first | have c2 : (s[0].toNat : Int) ≤ 122 := by omega | have c2 : ¬ (s[0].toNat : Int) ≤ 122 := by omega) <;>
        (first | have c3 : (65 : Int) ≤ s[0].toNat := by omega | have c3 : ¬ (65 : Int) ≤ s[0].toNat := by omega) <;>
        (first | have c4 : (s[0].toNat : Int) ≤ 90 := by omega | have c4 : ¬ (s[0].toNat : Int) ≤ 90 := by omega) <;>
        (first
          | (have c : nameCh 0 s[0].toNat = true := by simp [nameCh, letterN]; omega
             simp [b_desk_isName_1, hlt, c1, c2, c3, c4, hw, c, lh_desk_isName_1]
             simpa using ih)
          | (have c : nameCh 0 s[0].toNat = false := by simp [nameCh, letterN]; omega
             simp [b_desk_isName_1, hlt, c1, c2, c3, c4, hw, c, lh_desk_isName_1]))
      · have hi1 : ((i : Int) == 0) = false := by simp; omega
        have hi2 : (i == 0) = false := by simp; omega
        rcases hcl with h | h | h | h | h | h | h | h | h <;>
        (first | have c1 : (97 : Int) ≤ s[i].toNat := by omega | have c1 : ¬ (97 : Int) ≤ s[i].toNat := by omega) <;>
        (first | have c2 : (s[i].toNat : Int) ≤ 122 := by omega | have c2 : ¬ (s[i].toNat : Int) ≤ 122 := by omega) <;>
        (first | have c3 : (65 : Int) ≤ s[i].toNat := by omega | have c3 : ¬ (65 : Int) ≤ s[i].toNat := by omega) <;>
        (first | have c4 : (s[i].toNat : Int) ≤ 90 := by omega | have c4 : ¬ (s[i].toNat : Int) ≤ 90 := by omega) <;>
        (first | have c5 : ((s[i].toNat : Int) != 45) = true := by simp; omega | have c5 : ((s[i].toNat : Int) != 45) = false := by simp; omega) <;>
        (first | have c6 : (s[i].toNat : Int) < 48 := by omega | have c6 : ¬ (s[i].toNat : Int) < 48 := by omega) <;>
        (first | have c7 : (57 : Int) < s[i].toNat := by omega | have c7 : ¬ (57 : Int) < s[i].toNat := by omega) <;>
        (first
          | (have c : nameCh i s[i].toNat = true := by simp [nameCh, letterN, hi0]; omega
             simp [b_desk_isName_1, hlt, hi1, hi2, c1, c2, c3, c4, c5, c6, c7, hw, c, lh_desk_isName_1]
             simpa using ih)
          | (have c : nameCh i s[i].toNat = false := by simp [nameCh, letterN, hi0]; omega
             simp [b_desk_isName_1, hlt, hi1, hi2, c1, c2, c3, c4, c5, c6, c7, hw, c, lh_desk_isName_1]))
    · have : i = s.length := by omega
      subst this
      rw [List.drop_length]
      rw [ls_desk_isName_1]
      simp [b_desk_isName_1, nameFrom]

theorem base_IsName_loop (s : List UInt8) (hs : s.length ≤ 1000000) (m : Mem) : ∀ (k i : Nat), s.length - i = k → i ≤ s.length →
    if nameFrom i (s.drop i) then headL C l_base_IsName_1 55 [(0, .str s), (3, .int .i64 i)] [] m = some (.exit 0, ⟨tmOf 55 [(17, .bool false), (16, .int .i64 s.length), (15, .str s), (14, .int .i64 s.length), (0, .str s), (3, .int .i64 s.length)], [] :: m⟩)
    else ∃ tm, headL C l_base_IsName_1 55 [(0, .str s), (3, .int .i64 i)] [] m = some (.ret, ⟨tm, [] :: m⟩) ∧ getT tm 2 = .bool false
  | k, i, hk, hi => by
    by_cases hlt : i < s.length
    · have hd : s.drop i = s[i] :: s.drop (i + 1) := List.drop_eq_getElem_cons hlt
      have hw : IntKind.i64.wrap ((i : Int) + 1) = ((i + 1 : Nat) : Int) := by rw [IntWalk.i64_in _ (by omega)]; omega
      have ih := base_IsName_loop s hs m (k - 1) (i + 1) (by omega) (by omega)
      rw [hd]
      simp only [nameFrom]
      rw [ls_base_IsName_1]
      have hcl := name_classes s[i].toNat
      by_cases hi0 : i = 0
      · subst hi0
        rcases hcl with h | h | h | h | h | h | h | h | h <;>
        (first | have c1 : (97 : Int) ≤ s[0].toNat := by omega | have c1 : ¬ (97 : Int) ≤ s[0].toNat := by omega) <;>
        (first | have c2 : (s[0].toNat : Int) ≤ 122 := by omega | have c2 : ¬ (s[0].toNat : Int) ≤ 122 := by omega) <;>
        (first | have c3 : (65 : Int) ≤ s[0].toNat := by omega | have c3 : ¬ (65 : Int) ≤ s[0].toNat := by omega) <;>
        (first | have c4 : (s[0].toNat : Int) ≤ 90 := by omega | have c4 : ¬ (s[0].toNat : Int) ≤ 90 := by omega) <;>
        (first
          | (have c : nameCh 0 s[0].toNat = true := by simp [nameCh, letterN]; omega
             simp [b_base_IsName_1, hlt, c1, c2, c3, c4, hw, c, lh_base_IsName_1]
             simpa using ih)
          | (have c : nameCh 0 s[0].toNat = false := by simp [nameCh, letterN]; omega
             simp [b_base_IsName_1, hlt, c1, c2, c3, c4, hw, c, lh_base_IsName_1]))
      · have hi1 : ((i : Int) == 0) = false := by simp; omega
        have hi2 : (i == 0) = false := by simp; omega
        rcases hcl with h | h | h | h | h | h | h | h | h <;>
        (first | have c1 : (97 : Int) ≤ s[i].toNat := by omega | have c1 : ¬ (97 : Int) ≤ s[i].toNat := by omega) <;>
        (first | have c2 : (s[i].toNat : Int) ≤ 122 := by omega | have c2 : ¬ (s[i].toNat : Int) ≤ 122 := by omega) <;>
        (first | have c3 : (65 : Int) ≤ s[i].toNat := by omega | have c3 : ¬ (65 : Int) ≤ s[i].toNat := by omega) <;>
        (first | have c4 : (s[i].toNat : Int) ≤ 90 := by omega | have c4 : ¬ (s[i].toNat : Int) ≤ 90 := by omega) <;>
        (first | have c5 : ((s[i].toNat : Int) != 45) = true := by simp; omega | have c5 : ((s[i].toNat : Int) != 45) = false := by simp; omega) <;>
        (first | have c6 : (s[i].toNat : Int) < 48 := by omega | have c6 : ¬ (s[i].toNat : Int) < 48 := by omega) <;>
        (first | have c7 : (57 : Int) < s[i].toNat := by omega | have c7 : ¬ (57 : Int) < s[i].toNat := by omega) <;>
        (first
          | (have c : nameCh i s[i].toNat = true := by simp [nameCh, letterN, hi0]; omega
             simp [b_base_IsName_1, hlt, hi1, hi2, c1, c2, c3, c4, c5, c6, c7, hw, c, lh_base_IsName_1]
             simpa using ih)
          | (have c : nameCh i s[i].toNat = false := by simp [nameCh, letterN, hi0]; omega
             simp [b_base_IsName_1, hlt, hi1, hi2, c1, c2, c3, c4, c5, c6, c7, hw, c, lh_base_IsName_1]))
    · have : i = s.length := by omega
      subst this
      rw [List.drop_length]
      rw [ls_base_IsName_1]
      simp [b_base_IsName_1, nameFrom]

theorem desk_isName_eq (s : List UInt8) (hs : s.length ≤ 1000000) (m : Mem) : callD C n_desk_isName [.str s] m = some (.bool (isNameF s), m) := by
  rw [callD_env (af := a_desk_isName) rfl rfl _ _ (by simp [a_desk_isName])]
  have h := desk_isName_loop s hs m s.length 0 rfl (Nat.zero_le _)
  rw [List.drop_zero] at h
  cases hh : nameFrom 0 s with
  | true =>
    rw [hh, if_pos rfl] at h
    simp at h
    simp [a_desk_isName, lh_desk_isName_1, h]
    by_cases h0 : s = []
    · subst h0; simp [isNameF]
    · by_cases h1 : s.length ≤ 12
      · have : (s.length : Int) ≤ 12 := by omega
        simp [isNameF, h0, h1, this, hh]
      · have : ¬ (s.length : Int) ≤ 12 := by omega
        simp [isNameF, h0, h1, this]
  | false =>
    rw [hh, if_neg (by simp)] at h
    obtain ⟨tm, h1, h2⟩ := h
    simp at h1
    simp [a_desk_isName, lh_desk_isName_1, h1, h2, isNameF, hh]

theorem base_IsName_eq (s : List UInt8) (hs : s.length ≤ 1000000) (m : Mem) : callD C n_base_IsName [.str s] m = some (.bool (isNameF s), m) := by
  rw [callD_env (af := a_base_IsName) rfl rfl _ _ (by simp [a_base_IsName])]
  have h := base_IsName_loop s hs m s.length 0 rfl (Nat.zero_le _)
  rw [List.drop_zero] at h
  by_cases h0 : s = []
  · subst h0; simp [a_base_IsName, isNameF]
  · have hp : 0 < s.length := List.length_pos_iff.2 h0
    have c1 : ¬ (s.length : Int) < 1 := by omega
    by_cases h1 : s.length ≤ 12
    · have c2 : ¬ (12 : Int) < s.length := by omega
      cases hh : nameFrom 0 s with
      | true =>
        rw [hh, if_pos rfl] at h
        simp at h
        simp [a_base_IsName, lh_base_IsName_1, c1, c2, h, isNameF, hh, h0, h1]
      | false =>
        rw [hh, if_neg (by simp)] at h
        obtain ⟨tm, h3, h2⟩ := h
        simp at h3
        simp [a_base_IsName, lh_base_IsName_1, c1, c2, h3, h2, isNameF, hh]
    · have c2 : (12 : Int) < s.length := by omega
      simp [a_base_IsName, c1, c2, isNameF, h1]

end Go.Proofs.YtnhagbllecpkkaaGreatDoor
