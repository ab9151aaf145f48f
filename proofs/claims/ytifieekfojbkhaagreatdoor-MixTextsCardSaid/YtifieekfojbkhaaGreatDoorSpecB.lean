/-
  What Decimal answers: the decimal numeral.
-/
import Derived.Test.YtifieekfojbkhaaGreatDoorSpecA
import Derived.Lib.ItoaNum
set_option linter.unusedSimpArgs false
set_option linter.unusedVariables false
namespace Go.Proofs.YtifieekfojbkhaaGreatDoor
open Go Go.VA

def digs (n : Int) : List UInt8 := if n = 0 then [] else Lib.decDigits n.natAbs

theorem digs_step {n : Int} (h : n ≠ 0) : digs n = digs (n.tdiv 10) ++ [UInt8.ofNat (48 + n.natAbs % 10)] := by
  have hd : (n.tdiv 10).natAbs = n.natAbs / 10 := by rw [Int.natAbs_tdiv]; rfl
  unfold digs
  rw [if_neg h, Lib.decDigits]
  by_cases h1 : n.natAbs < 10
  · rw [dif_pos h1, if_pos (by omega), Nat.mod_eq_of_lt h1]
    rfl
  · rw [dif_neg h1, if_neg (by omega), hd]

def T_base_Decimal (n : Int) (s sg : List UInt8) : List AV := tmOf 27 [(0, .int .i64 n), (3, .str s), (4, .str sg)]
def E_base_Decimal (s sg : List UInt8) : List AV := tmOf 27 [(11, .bool false), (10, .int .i64 0), (0, .int .i64 0), (3, .str s), (4, .str sg)]

theorem loop_base_Decimal (sg : List UInt8) (f : Fr) (mem : Mem) : ∀ (k : Nat) (n : Int) (s : List UInt8), n.natAbs < 10 ^ k → -9223372036854775808 ≤ n → n ≤ 9223372036854775807 → s.length + k ≤ 1000 →
    den C l_base_Decimal_1 ⟨T_base_Decimal n s sg, f :: mem⟩ = some (.exit 0, ⟨E_base_Decimal (digs n ++ s) sg, f :: mem⟩)
  | k, n, s, hk, h1, h2, hl => by
    by_cases h0 : n = 0
    · subst h0
      unfold l_base_Decimal_1 b_base_Decimal_1
      rw [den_loop]
      simp [T_base_Decimal, E_base_Decimal, digs]
    · cases k with
      | zero => simp at hk; omega
      | succ k =>
        have hd : (n.tdiv 10).natAbs = n.natAbs / 10 := by rw [Int.natAbs_tdiv]; rfl
        have hm : (n.tmod 10).natAbs = n.natAbs % 10 := by rw [Int.natAbs_tmod]; rfl
        have ih := loop_base_Decimal sg f mem k (n.tdiv 10) (UInt8.ofNat (48 + n.natAbs % 10) :: s) (by rw [hd]; rw [Nat.pow_succ] at hk; omega) (by omega) (by omega) (by simp; omega)
        have e : digs n ++ s = digs (n.tdiv 10) ++ (UInt8.ofNat (48 + n.natAbs % 10) :: s) := by rw [digs_step h0]; simp
        rw [e, ← ih]
        unfold l_base_Decimal_1 b_base_Decimal_1
        rw [den_loop]
        have hb1 : (n != 0) = true := by simp [h0]
        have hb2 : (n == 0) = false := by simp [h0]
        have hs43 : ∀ m, callD C n_base_Size [.int .i64 (n.tmod 10)] m = some (.int .i64 ((n.natAbs % 10 : Nat) : Int), m) := fun m => by rw [base_Size_eq (n.tmod 10) (by omega) (by omega), hm]
        have hq : n.natAbs % 10 < 10 := Nat.mod_lt _ (by omega)
        generalize n.natAbs % 10 = q at *
        have hw1 : IntKind.i64.wrap (48 + (q : Int)) = 48 + (q : Int) := IntWalk.i64_in _ (by omega)
        have hw2 : IntKind.u8.wrap (48 + (q : Int)) = 48 + (q : Int) := IntWalk.u8_in _ (by omega)
        have hw3 : IntKind.i64.wrap (n.tdiv 10) = n.tdiv 10 := IntWalk.i64_in _ (by omega)
        have hr : 0 ≤ 48 + (q : Int) ∧ 48 + (q : Int) ≤ 255 := by omega
        have hn : (48 + (q : Int)).toNat = 48 + q := by omega
        have hl' : 1 + s.length ≤ 9223372036854775807 := by omega
        simp [T_base_Decimal, h0, hb1, hb2, hs43, hw1, hw2, hw3, hr, hn, u8s, hl', -UInt8.ofNat_add]
        exact loop_env rfl

theorem base_Decimal_eq (n : Int) (h1 : -9223372036854775808 ≤ n) (h2 : n ≤ 9223372036854775807) (mem : Mem) : callD C n_base_Decimal [.int .i64 n] mem = some (.str (Lib.itoa n), mem) := by
  rw [callD_env (af := a_base_Decimal) rfl rfl _ _ (by simp [a_base_Decimal])]
  by_cases h0 : n = 0
  · subst h0
    have : Lib.itoa 0 = [48] := by unfold Lib.itoa Lib.decDigits; rfl
    simp [a_base_Decimal, this]
  · have hlen : (digs n).length ≤ 100 := by
      have key : ∀ (k : Nat) (m : Int), m.natAbs < 10 ^ k → (digs m).length ≤ k := by
        intro k
        induction k with
        | zero => intro m hm; simp at hm; subst hm; simp [digs]
        | succ k ih =>
          intro m hm
          by_cases hm0 : m = 0
          · subst hm0; simp [digs]
          · have hd : (m.tdiv 10).natAbs = m.natAbs / 10 := by rw [Int.natAbs_tdiv]; rfl
            have := ih (m.tdiv 10) (by rw [hd]; rw [Nat.pow_succ] at hm; omega)
            rw [digs_step hm0]
            simp
            omega
      have := key 19 n (by omega)
      omega
    have hb1 : (n != 0) = true := by simp [h0]
    have hb2 : (n == 0) = false := by simp [h0]
    by_cases hn : n < 0
    · have e1 := loop_base_Decimal [45] [] mem 19 n [] (by omega) h1 h2 (by simp)
      have hi : Lib.itoa n = 45 :: digs n := by unfold Lib.itoa digs; rw [if_pos hn, if_neg h0]
      simp [T_base_Decimal] at e1
      have hl : 1 + (digs n).length ≤ 9223372036854775807 := by omega
      simp [a_base_Decimal, h0, hb1, hb2, hn, e1, E_base_Decimal, hi, hl]
    · have e1 := loop_base_Decimal [] [] mem 19 n [] (by omega) h1 h2 (by simp)
      have hi : Lib.itoa n = digs n := by unfold Lib.itoa digs; rw [if_neg hn, if_neg h0]; congr 1; omega
      simp [T_base_Decimal] at e1
      have hl : (digs n).length ≤ 9223372036854775807 := by omega
      simp [a_base_Decimal, h0, hb1, hb2, hn, e1, E_base_Decimal, hi, hl]
end Go.Proofs.YtifieekfojbkhaaGreatDoor
