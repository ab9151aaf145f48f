/-
  What Number answers.
-/
import Derived.Test.YtifieekfojbkhaaGreatDoorSpecF
set_option linter.unusedSimpArgs false
set_option linter.unusedVariables false
namespace Go.Proofs.YtifieekfojbkhaaGreatDoor
open Go Go.VA

/-- Digits read from a place on. -/
def numLoop (s : List UInt8) (i n : Nat) : Option Nat :=
  if _h : i < s.length then
    (if 48 ≤ s[i].toNat ∧ s[i].toNat ≤ 57 then numLoop s (i + 1) (10 * n + (s[i].toNat - 48)) else none)
  else some n
termination_by s.length - i

def T_base_Number (s : List UInt8) (at' : Int) (n i : Nat) : List AV := tmOf 70 [(0, .str s), (6, .int .i64 at'), (7, .int .i64 n), (8, .int .i64 i)]
def E_base_Number (s : List UInt8) (at' : Int) (n : Nat) : List AV := tmOf 70 [(44, .bool false), (43, .int .i64 s.length), (42, .str s), (41, .int .i64 s.length), (0, .str s), (6, .int .i64 at'), (7, .int .i64 n), (8, .int .i64 s.length)]

theorem loop_base_Number (s : List UInt8) (at' : Int) (f : Fr) (mem : Mem) (hs : s.length ≤ 1000) : ∀ (k i n : Nat), s.length - i = k → i ≤ s.length → s.length - i ≤ 18 → n * 10 ^ (s.length - i) + 10 ^ (s.length - i) ≤ 10 ^ 18 →
    match numLoop s i n with
    | some v => den C l_base_Number_1 ⟨T_base_Number s at' n i, f :: mem⟩ = some (.exit 0, ⟨E_base_Number s at' v, f :: mem⟩)
    | none => (den C l_base_Number_1 ⟨T_base_Number s at' n i, f :: mem⟩).map (fun r => (r.1, getT r.2.tm 4, getT r.2.tm 5, r.2.mem)) = some (.ret, .int .i64 0, .bool false, f :: mem)
  | k, i, n, hk, hi, h18, hn => by
    by_cases hlt : i < s.length
    · have hw : IntKind.i64.wrap ((i : Int) + 1) = ((i + 1 : Nat) : Int) := by rw [IntWalk.i64_in _ (by omega)]; omega
      rw [numLoop, dif_pos hlt]
      generalize hx : s[i] = x at *
      have hsx : s[i]? = some x := by rw [List.getElem?_eq_getElem hlt, hx]
      by_cases h1 : 48 ≤ x.toNat
      · by_cases h2 : x.toNat ≤ 57
        · rw [if_pos ⟨h1, h2⟩]
          have hp : s.length - i = (s.length - (i + 1)) + 1 := by omega
          rw [hp, Nat.pow_succ] at hn
          have hpos : 0 < 10 ^ (s.length - (i + 1)) := Nat.pow_pos (by omega)
          have hn10 : n * 10 + 10 ≤ 10 ^ 18 := by
            have : (n * 10 + 10) * 1 ≤ (n * 10 + 10) * 10 ^ (s.length - (i + 1)) := Nat.mul_le_mul_left _ hpos
            have e : (n * 10 + 10) * 10 ^ (s.length - (i + 1)) = n * (10 ^ (s.length - (i + 1)) * 10) + 10 ^ (s.length - (i + 1)) * 10 := by
              rw [Nat.add_mul, Nat.mul_assoc, Nat.mul_comm 10]
            omega
          have hn' : (10 * n + (x.toNat - 48)) * 10 ^ (s.length - (i + 1)) + 10 ^ (s.length - (i + 1)) ≤ 10 ^ 18 := by
            have : (10 * n + (x.toNat - 48) + 1) * 10 ^ (s.length - (i + 1)) ≤ (n * 10 + 10) * 10 ^ (s.length - (i + 1)) := Nat.mul_le_mul_right _ (by omega)
            have e : (n * 10 + 10) * 10 ^ (s.length - (i + 1)) = n * (10 ^ (s.length - (i + 1)) * 10) + 10 ^ (s.length - (i + 1)) * 10 := by
              rw [Nat.add_mul, Nat.mul_assoc, Nat.mul_comm 10]
            rw [Nat.add_mul, Nat.one_mul] at this
            omega
          have ih := loop_base_Number s at' f mem hs (k - 1) (i + 1) (10 * n + (x.toNat - 48)) (by omega) (by omega) (by omega) hn'
          have w1 : IntKind.u8.wrap ((x.toNat : Int) - 48) = ((x.toNat - 48 : Nat) : Int) := by rw [IntWalk.u8_in _ (by omega)]; omega
          have w2 : IntKind.i64.wrap (((x.toNat - 48 : Nat) : Int)) = ((x.toNat - 48 : Nat) : Int) := IntWalk.i64_in _ (by omega)
          have w3 : IntKind.i64.wrap (10 * (n : Int)) = 10 * (n : Int) := IntWalk.i64_in _ (by omega)
          have w4 : IntKind.i64.wrap (10 * (n : Int) + ((x.toNat - 48 : Nat) : Int)) = ((10 * n + (x.toNat - 48) : Nat) : Int) := by rw [IntWalk.i64_in _ (by omega)]; omega
          have d1 : ¬ ((x.toNat : Int) < 48) := by omega
          have d2 : ¬ (57 < (x.toNat : Int)) := by omega
          generalize x.toNat - 48 = y at *
          have step : den C l_base_Number_1 ⟨T_base_Number s at' n i, f :: mem⟩ = den C l_base_Number_1 ⟨T_base_Number s at' (10 * n + y) (i + 1), f :: mem⟩ := by
            unfold l_base_Number_1 b_base_Number_1
            rw [den_loop]
            simp [T_base_Number, hlt, hx, w1, w2, w3, w4, hw, d1, d2]
            exact loop_env rfl
          rw [step]
          exact ih
        · rw [if_neg (by omega)]
          have d1 : ¬ ((x.toNat : Int) < 48) := by omega
          have d2 : (57 < (x.toNat : Int)) := by omega
          unfold l_base_Number_1 b_base_Number_1
          rw [den_loop]
          simp [T_base_Number, hlt, hx, d1, d2]
      · rw [if_neg (by omega)]
        have d1 : ((x.toNat : Int) < 48) := by omega
        unfold l_base_Number_1 b_base_Number_1
        rw [den_loop]
        simp [T_base_Number, hlt, hx, d1]
    · have : i = s.length := by omega
      subst this
      rw [numLoop, dif_neg hlt]
      unfold l_base_Number_1 b_base_Number_1
      rw [den_loop]
      simp [T_base_Number, E_base_Number]
end Go.Proofs.YtifieekfojbkhaaGreatDoor
