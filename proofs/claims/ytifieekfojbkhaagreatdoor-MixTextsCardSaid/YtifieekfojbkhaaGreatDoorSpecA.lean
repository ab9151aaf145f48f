/-
  What the small functions answer: Within, Size, Cut.
-/
import Derived.Test.YtifieekfojbkhaaGreatDoorVaEnv
import Derived.Test.YtifieekfojbkhaaGreatDoorCtx
import Derived.IntWalk
set_option linter.unusedSimpArgs false
set_option linter.unusedVariables false
namespace Go.Proofs.YtifieekfojbkhaaGreatDoor
open Go Go.VA

theorem base_Within_eq (n lo hi : Int) (mem : Mem) : callD C n_base_Within [.int .i64 n, .int .i64 lo, .int .i64 hi] mem = some (.bool (decide (lo ≤ n) && decide (n ≤ hi)), mem) := by
  rw [callD_env (af := a_base_Within) rfl rfl _ _ (by simp [a_base_Within])]
  by_cases h1 : lo ≤ n <;> simp [a_base_Within, h1]

theorem base_Size_eq (n : Int) (h : -9223372036854775808 < n) (h2 : n ≤ 9223372036854775807) (mem : Mem) : callD C n_base_Size [.int .i64 n] mem = some (.int .i64 n.natAbs, mem) := by
  have hw : IntKind.i64.wrap (-n) = -n := IntWalk.i64_in _ (by omega)
  rw [callD_env (af := a_base_Size) rfl rfl _ _ (by simp [a_base_Size])]
  simp [a_base_Size, hw]
  split <;> omega

/-- A text cut at a byte: what is found is handed back behind what was. -/
def cutFrom (c : UInt8) (s : List UInt8) (fr i : Nat) (out : List (List UInt8)) : List (List UInt8) :=
  if _h : i < s.length then
    (if s[i] = c then cutFrom c s (i + 1) (i + 1) (out ++ [(s.take i).drop fr]) else cutFrom c s fr (i + 1) out)
  else out ++ [s.drop fr]
termination_by s.length - i

def outAV (l : List (List UInt8)) : AV := if l = [] then .nils else .slc 1 (l.map .str) .own

theorem toNat_eq {a b : UInt8} : ((a.toNat : Int) == (b.toNat : Int)) = decide (a = b) := by
  by_cases h : a = b
  · subst h; simp
  · have : a.toNat ≠ b.toNat := fun e => h (UInt8.toNat_inj.1 e)
    simp [h]; omega

theorem append_out (l : List (List UInt8)) (x : List UInt8) (h : (l.length + 1) * 16 ≤ room) : append 1 16 (outAV l) (.slc 1 [.str x] .exact) = some (outAV (l ++ [x])) := by
  unfold outAV append
  by_cases hl : l = []
  · subst hl
    simp [room]
  · simp [hl]
    simpa [room] using h

def T_base_Cut (s : List UInt8) (c : UInt8) (out : List (List UInt8)) (fr i : Nat) : List AV :=
  tmOf 34 [(0, .str s), (1, .int .u8 c.toNat), (5, outAV out), (6, .int .i64 fr), (7, .int .i64 i)]

def E_base_Cut (s : List UInt8) (c : UInt8) (out : List (List UInt8)) (fr : Nat) : List AV :=
  tmOf 34 [(11, .bool false), (10, .int .i64 s.length), (9, .str s), (8, .int .i64 s.length), (0, .str s), (1, .int .u8 c.toNat), (5, outAV out), (6, .int .i64 fr), (7, .int .i64 s.length)]

theorem loop_base_Cut (s : List UInt8) (c : UInt8) (f : Fr) (mem : Mem) (hs : s.length ≤ 100000) : ∀ (k i fr : Nat) (out : List (List UInt8)), s.length - i = k → fr ≤ i → i ≤ s.length → out.length ≤ i →
    ∃ (fr' : Nat) (out' : List (List UInt8)), den C l_base_Cut_1 ⟨T_base_Cut s c out fr i, f :: mem⟩ = some (.exit 0, ⟨E_base_Cut s c out' fr', f :: mem⟩) ∧ fr' ≤ s.length ∧ out'.length ≤ s.length ∧ cutFrom c s fr i out = out' ++ [s.drop fr']
  | k, i, fr, out, hk, hf, hi, ho => by
    by_cases hlt : i < s.length
    · have hw : IntKind.i64.wrap ((i : Int) + 1) = ((i + 1 : Nat) : Int) := by rw [IntWalk.i64_in _ (by omega)]; omega
      by_cases hc : s[i] = c
      · obtain ⟨fr', out', e1, e3, e4, e5⟩ := loop_base_Cut s c f mem hs (k - 1) (i + 1) (i + 1) (out ++ [(s.take i).drop fr]) (by omega) (by omega) (by omega) (by simp; omega)
        refine ⟨fr', out', ?_, e3, e4, ?_⟩
        · rw [← e1]
          unfold l_base_Cut_1 b_base_Cut_1
          rw [den_loop]
          have ha : append 1 16 (outAV out) (.slc 1 [.str ((s.take i).drop fr)] .exact) = some (outAV (out ++ [(s.take i).drop fr])) := append_out _ _ (by simp [room]; omega)
          simp [T_base_Cut, hlt, hc, ha, hw, hf, Nat.le_of_lt hlt]
          exact loop_env rfl
        · rw [cutFrom, dif_pos hlt, if_pos hc]; exact e5
      · obtain ⟨fr', out', e1, e3, e4, e5⟩ := loop_base_Cut s c f mem hs (k - 1) (i + 1) fr out (by omega) (by omega) (by omega) (by omega)
        refine ⟨fr', out', ?_, e3, e4, ?_⟩
        · rw [← e1]
          unfold l_base_Cut_1 b_base_Cut_1
          rw [den_loop]
          have hc' : ((s[i].toNat : Int) == (c.toNat : Int)) = false := by rw [toNat_eq]; simp [hc]
          simp [T_base_Cut, hlt, hc', hw]
          exact loop_env rfl
        · rw [cutFrom, dif_pos hlt, if_neg hc]; exact e5
    · refine ⟨fr, out, ?_, by omega, by omega, by rw [cutFrom, dif_neg hlt]⟩
      have : i = s.length := by omega
      subst this
      unfold l_base_Cut_1 b_base_Cut_1
      rw [den_loop]
      simp [T_base_Cut, E_base_Cut]

theorem base_Cut_eq (s : List UInt8) (c : UInt8) (mem : Mem) (hs : s.length ≤ 100000) : callD C n_base_Cut [.str s, .int .u8 c.toNat] mem = some (outAV (cutFrom c s 0 0 []), mem) := by
  rw [callD_env (af := a_base_Cut) rfl rfl _ _ (by simp [a_base_Cut])]
  obtain ⟨fr', out', e1, e3, e4, e5⟩ := loop_base_Cut s c [] mem hs s.length 0 0 [] rfl (Nat.le_refl _) (Nat.zero_le _) (Nat.le_refl _)
  have ha : append 1 16 (outAV out') (.slc 1 [.str (s.drop fr')] .exact) = some (outAV (out' ++ [s.drop fr'])) := append_out _ _ (by simp [room]; omega)
  have hu : AV.under mem.length (outAV (out' ++ [s.drop fr'])) = true := by simp [outAV]
  have e0 : ∀ e, keepE e [0,1,5,6,7] = [(0, .str s), (1, .int .u8 c.toNat), (5, outAV []), (6, .int .i64 (0 : Nat)), (7, .int .i64 (0 : Nat))] → den C l_base_Cut_1 ⟨tmOf 34 e, [] :: mem⟩ = some (.exit 0, ⟨E_base_Cut s c out' fr', [] :: mem⟩) := by
    intro e he
    rw [← e1]
    unfold l_base_Cut_1 b_base_Cut_1
    exact loop_env (he.trans rfl)
  simp [outAV] at e0
  simp [a_base_Cut, e0, E_base_Cut, ha, e5, e3, hu]
end Go.Proofs.YtifieekfojbkhaaGreatDoor
