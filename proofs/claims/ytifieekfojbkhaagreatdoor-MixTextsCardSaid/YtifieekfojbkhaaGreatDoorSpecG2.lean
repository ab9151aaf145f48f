/-
  What Number answers.
-/
import Derived.Test.YtifieekfojbkhaaGreatDoorSpecG
set_option linter.unusedSimpArgs false
set_option linter.unusedVariables false
namespace Go.Proofs.YtifieekfojbkhaaGreatDoor
open Go Go.VA

/-- What Number tells of a text: the sign, then digits. -/
def numRef (d : Nat) (s : List UInt8) : Option Int :=
  match s with
  | [] => none
  | x :: r =>
    if x = 45 then
      (match r with
      | [] => none
      | y :: _ => if d < r.length ∨ y = 48 then none else (numLoop s 1 0).map fun v : Nat => -(v : Int))
    else (if d < s.length ∨ (x = 48 ∧ 0 < r.length) then none else (numLoop s 0 0).map fun v : Nat => (v : Int))

def numTup (o : Option Int) : AV := match o with
  | some v => .tup [.int .i64 v, .bool true]
  | none => .tup [.int .i64 0, .bool false]

theorem byte_eq (x : UInt8) (k : UInt8) : ((x.toNat : Int) == (k.toNat : Int)) = decide (x = k) := toNat_eq

theorem numLoop_lt (s : List UInt8) : ∀ (k i n v : Nat), s.length - i = k → numLoop s i n = some v → v < (n + 1) * 10 ^ k
  | k, i, n, v, hk, h => by
    rw [numLoop] at h
    split at h
    · rename_i hi
      split at h
      · rename_i hd
        obtain ⟨k', rfl⟩ : ∃ k', k = k' + 1 := ⟨k - 1, by omega⟩
        have ih := numLoop_lt s k' (i + 1) _ v (by omega) h
        generalize s[i].toNat = y at *
        have : (10 * n + (y - 48) + 1) * 10 ^ k' ≤ ((n + 1) * 10) * 10 ^ k' := Nat.mul_le_mul_right _ (by omega)
        rw [Nat.pow_succ, Nat.mul_comm (10 ^ k') 10, ← Nat.mul_assoc]
        omega
      · cases h
    · cases h
      have : k = 0 := by omega
      subst this
      omega

theorem base_Number_eq (s : List UInt8) (d : Nat) (hd : d ≤ 18) (hs : s.length ≤ 1000) (mem : Mem) :
    callD C n_base_Number [.str s, .int .i64 d] mem = some (numTup (numRef d s), mem) := by
  rw [callD_env (af := a_base_Number) rfl rfl _ _ (by simp [a_base_Number])]
  cases s with
  | nil => simp [a_base_Number, numRef, numTup]
  | cons x r =>
    simp only [List.length_cons] at hs
    have hb : ((x.toNat : Int) == 45) = decide (x = 45) := byte_eq x 45
    have hb48 : ((x.toNat : Int) == 48) = decide (x = 48) := byte_eq x 48
    have hz : ((r.length : Int) + 1 == 0) = false := by simp; omega
    have hz1 : (0 : Int) < (r.length : Int) + 1 := by omega
    have hw : IntKind.i64.wrap ((r.length : Int) + 1) = (r.length : Int) + 1 := IntWalk.i64_in _ (by omega)
    have hw2 : IntKind.i64.wrap (r.length : Int) = (r.length : Int) := IntWalk.i64_in _ (by omega)
    have e0 : ∀ (at' : Nat) e, keepE e [0,6,7,8] = [(0, .str (x :: r)), (6, .int .i64 at'), (7, .int .i64 (0 : Nat)), (8, .int .i64 at')] →
        den C l_base_Number_1 ⟨tmOf 70 e, [] :: mem⟩ = den C l_base_Number_1 ⟨T_base_Number (x :: r) at' 0 at', [] :: mem⟩ := by
      intro at' e he
      unfold l_base_Number_1 b_base_Number_1
      exact loop_env (he.trans rfl)
    by_cases h45 : x = 45
    · cases r with
      | nil => simp [a_base_Number, numRef, numTup, hb, h45]
      | cons y r' =>
        have hy48 : ((y.toNat : Int) == 48) = decide (y = 48) := byte_eq y 48
        have hz' : ((r'.length : Int) + 1 + 1 == 1) = false := by simp; omega
        have hz1' : (1 : Int) < (r'.length : Int) + 1 + 1 := by omega
        have hz2' : (0 : Int) < (r'.length : Int) + 1 + 1 := by omega
        simp only [List.length_cons, Int.natCast_add, Int.cast_ofNat_Int] at hw hw2
        by_cases hl : d < r'.length + 1
        · have hl' : (d : Int) < (r'.length : Int) + 1 := by omega
          simp [a_base_Number, numRef, numTup, hb, h45, hw2, hl', hl, hz', hz1', hz2']
        · have hl' : ¬ (d : Int) < (r'.length : Int) + 1 := by omega
          by_cases hy : y = 48
          · simp [a_base_Number, numRef, numTup, hb, h45, hw2, hl', hl, hz', hz1', hz2', hy]
          · have hloop := loop_base_Number (x :: y :: r') 1 [] mem (by simpa using hs) _ 1 0 rfl (by simp) (by simp; omega) (by
              have : 10 ^ ((x :: y :: r').length - 1) ≤ 10 ^ 18 := Nat.pow_le_pow_right (by omega) (by simp; omega)
              omega)
            have e1 := e0 1
            cases hn : numLoop (x :: y :: r') 1 0 with
            | some v =>
              have hv := numLoop_lt _ _ _ _ _ rfl hn
              have hvb : v < 10 ^ 18 := by
                have : 10 ^ ((x :: y :: r').length - 1) ≤ 10 ^ 18 := Nat.pow_le_pow_right (by omega) (by simp; omega)
                omega
              have hwn : IntKind.i64.wrap (-(v : Int)) = -(v : Int) := IntWalk.i64_in _ (by omega)
              subst h45
              rw [hn] at hloop
              dsimp only at hloop
              simp [a_base_Number, numRef, numTup, hw2, hl', hl, hz', hz1', hz2', hy48, hy, e1, hloop, E_base_Number, hn, hwn]
            | none =>
              subst h45
              rw [hn] at hloop
              dsimp only at hloop
              rw [Option.map_eq_some_iff] at hloop
              obtain ⟨⟨ex, tm', mm⟩, hr, hq⟩ := hloop
              simp only [Prod.mk.injEq] at hq
              obtain ⟨rfl, h4, h5, rfl⟩ := hq
              simp [a_base_Number, numRef, numTup, hw2, hl', hl, hz', hz1', hz2', hy48, hy, e1, hr, h4, h5, hn]
    · by_cases hl : d < r.length + 1
      · have hl' : (d : Int) < (r.length : Int) + 1 := by omega
        simp [a_base_Number, numRef, numTup, hb, h45, hw, hl', hl, hz, hz1]
      · have hl' : ¬ (d : Int) < (r.length : Int) + 1 := by omega
        by_cases h48 : x = 48 ∧ 0 < r.length
        · obtain ⟨rfl, h1⟩ := h48
          have h1' : (1 : Int) < (r.length : Int) + 1 := by omega
          simp [a_base_Number, numRef, numTup, hw, hl', hl, hz, hz1, h1, h1']
        · have hloop := loop_base_Number (x :: r) 0 [] mem (by simpa using hs) _ 0 0 rfl (by omega) (by simp; omega) (by
            have : 10 ^ ((x :: r).length - 0) ≤ 10 ^ 18 := Nat.pow_le_pow_right (by omega) (by simp; omega)
            omega)
          have e1 := e0 0
          have hn' : numRef d (x :: r) = (numLoop (x :: r) 0 0).map (fun v : Nat => (v : Int)) := by
            unfold numRef
            dsimp only
            rw [if_neg h45, if_neg]
            simp only [List.length_cons]
            intro h
            rcases h with h | h
            · exact hl h
            · exact h48 h
          rw [hn']
          by_cases hx : x = 48
          · have h0 : r.length = 0 := by
              by_cases h : r.length = 0
              · exact h
              · exact absurd ⟨hx, by omega⟩ h48
            have hr0 := List.length_eq_zero_iff.1 h0
            subst hx hr0
            have hv : numLoop [48] 0 0 = some 0 := by simp [numLoop]
            rw [hv] at hloop
            dsimp only at hloop
            have hl2 : ¬ (d : Int) < 1 := by simpa using hl'
            have hw1 : IntKind.i64.wrap 1 = 1 := rfl
            simp [a_base_Number, numTup, hw1, hl2, e1, hloop, E_base_Number, hv]
          · cases hn : numLoop (x :: r) 0 0 with
            | some v =>
              rw [hn] at hloop
              dsimp only at hloop
              simp [a_base_Number, numTup, hw, hl', hz, hz1, hb, hb48, h45, hx, e1, hloop, E_base_Number]
            | none =>
              rw [hn] at hloop
              dsimp only at hloop
              rw [Option.map_eq_some_iff] at hloop
              obtain ⟨⟨ex, tm', mm⟩, hr, hq⟩ := hloop
              simp only [Prod.mk.injEq] at hq
              obtain ⟨rfl, h4, h5, rfl⟩ := hq
              simp [a_base_Number, numTup, hw, hl', hz, hz1, hb, hb48, h45, hx, e1, hr, h4, h5]
end Go.Proofs.YtifieekfojbkhaaGreatDoor
