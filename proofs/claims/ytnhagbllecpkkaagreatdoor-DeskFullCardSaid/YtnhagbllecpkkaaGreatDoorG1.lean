/-
  What the small checks answer: numbers in ranges, names, gases, vessels, fills alone.
-/
import Derived.Test.YtnhagbllecpkkaaGreatDoorNames
import Derived.Test.YtnhagbllecpkkaaGreatDoorV7
set_option linter.unusedSimpArgs false
set_option linter.unusedVariables false

namespace Go.Proofs.YtnhagbllecpkkaaGreatDoor
open Go Go.VA Go.DM

def inR (n lo hi : Int) : Bool := decide (lo ≤ n) && decide (n ≤ hi)

section
variable {F : FuncId} (h1 : C.prim F = none) (h0 : C.memp F = none)
include h1 h0
theorem within_any (h2 : C.fn F = some a_desk_within) (n lo hi : Int) (m : Mem) : callD C F [I n, I lo, I hi] m = some (.bool (inR n lo hi), m) := by
  rw [callD_env h1 h2 _ _ (by simp [a_desk_within]) h0]
  by_cases a : lo ≤ n <;> by_cases b : n ≤ hi <;> simp [a_desk_within, inR, a, b]
end
theorem desk_within_eq (n lo hi : Int) (m : Mem) : callD C n_desk_within [I n, I lo, I hi] m = some (.bool (inR n lo hi), m) := within_any rfl rfl rfl n lo hi m
theorem mix_within_eq (n lo hi : Int) (m : Mem) : callD C n_mix_within [I n, I lo, I hi] m = some (.bool (inR n lo hi), m) := within_any rfl rfl rfl n lo hi m
theorem profile_within_eq (n lo hi : Int) (m : Mem) : callD C n_profile_within [I n, I lo, I hi] m = some (.bool (inR n lo hi), m) := within_any rfl rfl rfl n lo hi m
theorem exposure_within_eq (n lo hi : Int) (m : Mem) : callD C n_exposure_within [I n, I lo, I hi] m = some (.bool (inR n lo hi), m) := within_any rfl rfl rfl n lo hi m
theorem tissue_within_eq (n lo hi : Int) (m : Mem) : callD C n_tissue_within [I n, I lo, I hi] m = some (.bool (inR n lo hi), m) := within_any rfl rfl rfl n lo hi m
theorem gas_within_eq (n lo hi : Int) (m : Mem) : callD C n_gas_within [I n, I lo, I hi] m = some (.bool (inR n lo hi), m) := within_any rfl rfl rfl n lo hi m
theorem kit_within_eq (n lo hi : Int) (m : Mem) : callD C n_kit_within [I n, I lo, I hi] m = some (.bool (inR n lo hi), m) := by
  rw [callD_env (af := a_kit_within) rfl rfl _ _ (by simp [a_kit_within])]
  by_cases a : lo ≤ n <;> by_cases b : n ≤ hi <;> simp [a_kit_within, inR, a, b]

theorem mix_isName_eq (s : Str) (hs : s.length ≤ 1000000) (m : Mem) : callD C n_mix_isName [.str s] m = some (.bool (isNameF s), m) := by
  rw [← desk_isName_eq s hs m, callD_env (af := a_desk_isName) rfl rfl _ _ (by simp [a_desk_isName]), callD_env (af := a_desk_isName) rfl rfl _ _ (by simp [a_desk_isName])]
theorem profile_isName_eq (s : Str) (hs : s.length ≤ 1000000) (m : Mem) : callD C n_profile_isName [.str s] m = some (.bool (isNameF s), m) := by
  rw [← desk_isName_eq s hs m, callD_env (af := a_desk_isName) rfl rfl _ _ (by simp [a_desk_isName]), callD_env (af := a_desk_isName) rfl rfl _ _ (by simp [a_desk_isName])]

def boundF (n lo hi : Int) : Int := if inR n lo hi = true then 0 else 2
theorem gas_bound_eq (n lo hi : Int) (m : Mem) : callD C n_gas_bound [I n, I lo, I hi] m = some (I (boundF n lo hi), m) := by
  rw [callD_env (af := a_gas_bound) rfl rfl _ _ (by simp [a_gas_bound])]
  cases h : inR n lo hi <;> simp [a_gas_bound, gas_within_eq, h, boundF]

/-- The first of two errors. -/
def first2 (a b : Int) : Int := if a = 0 then b else a
theorem gas_first_eq (a b : Int) (m : Mem) : callD C n_gas_first [.slc 1 [I a, I b] .exact] m = some (I (first2 a b), m) := by
  rw [callD_env (af := a_gas_first) rfl rfl _ _ (by simp [a_gas_first])]
  simp [a_gas_first, lh_gas_first_1]
  rw [ls_gas_first_1]
  by_cases ha : a = 0
  · subst ha
    simp [b_gas_first_1, lh_gas_first_1]
    rw [ls_gas_first_1]
    by_cases hb : b = 0
    · subst hb
      simp [b_gas_first_1, lh_gas_first_1]
      rw [ls_gas_first_1]
      simp [b_gas_first_1, first2]
    · have : (b != 0) = true := by simp [hb]
      simp [b_gas_first_1, this, first2]
  · have : (a != 0) = true := by simp [ha]
    simp [b_gas_first_1, this, first2, ha]

/-- The error of a gas. -/
def checkGas (g : Gas) : Int := if first2 (boundF g.o 0 1000) (boundF g.h 0 1000) ≠ 0 then first2 (boundF g.o 0 1000) (boundF g.h 0 1000) else if 1000 < g.o + g.h then 23 else 0
theorem boundF_eq0 {n lo hi : Int} : boundF n lo hi = 0 ↔ lo ≤ n ∧ n ≤ hi := by
  unfold boundF inR; by_cases a : lo ≤ n <;> by_cases b : n ≤ hi <;> simp [a, b]
theorem gas_CheckGas_eq (g : Gas) (m : Mem) : callD C n_gas_CheckGas [g.av] m = some (I (checkGas g), m) := by
  rw [callD_env (af := a_gas_CheckGas) rfl rfl _ _ (by simp [a_gas_CheckGas])]
  by_cases hf : first2 (boundF g.o 0 1000) (boundF g.h 0 1000) = 0
  · have h0 : boundF g.o 0 1000 = 0 ∧ boundF g.h 0 1000 = 0 := by
      unfold first2 at hf; split at hf
      · rename_i h; exact ⟨h, hf⟩
      · rename_i h; exact absurd hf h
    have ho := boundF_eq0.1 h0.1
    have hh := boundF_eq0.1 h0.2
    have hw : IntKind.i64.wrap (g.o + g.h) = g.o + g.h := IntWalk.i64_in _ (by omega)
    by_cases hs : 1000 < g.o + g.h <;> simp [a_gas_CheckGas, Gas.av, gas_bound_eq, gas_first_eq, hf, hw, hs, checkGas]
  · have hb : (first2 (boundF g.o 0 1000) (boundF g.h 0 1000) != 0) = true := by simp [hf]
    simp [a_gas_CheckGas, Gas.av, gas_bound_eq, gas_first_eq, hf, hb, checkGas]

/-- The error of limits of oxygen. -/
def checkLimits (a b : Int) : Int := if first2 (boundF a 1 4000) (boundF b 1 4000) ≠ 0 then first2 (boundF a 1 4000) (boundF b 1 4000) else if b < a then 9 else 0
theorem gas_CheckLimits_eq (a b : Int) (m : Mem) : callD C n_gas_CheckLimits [.agg [I a, I b]] m = some (I (checkLimits a b), m) := by
  rw [callD_env (af := a_gas_CheckLimits) rfl rfl _ _ (by simp [a_gas_CheckLimits])]
  by_cases hf : first2 (boundF a 1 4000) (boundF b 1 4000) = 0
  · by_cases hs : b < a <;> simp [a_gas_CheckLimits, gas_bound_eq, gas_first_eq, hf, hs, checkLimits]
  · have hb : (first2 (boundF a 1 4000) (boundF b 1 4000) != 0) = true := by simp [hf]
    simp [a_gas_CheckLimits, gas_bound_eq, gas_first_eq, hf, hb, checkLimits]

/-- The place of a vessel; -1. -/
def vesselF (l : List Vessel) (s : Str) : Int := idxOf (fun v => v.name == s) l
theorem vessel_av (x : Vessel) : ∃ u, x.av = .agg u ∧ u.length = 3 := ⟨_, rfl, rfl⟩
theorem mix_vessel_c1_eq (x : Vessel) (s : Str) (m : Mem) : callD C n_mix_vessel_c1 [x.av, .rptr [.str s]] m = some (.bool (x.name == s), m) := by
  rw [callD_env (af := a_mix_vessel_c1) rfl rfl _ _ (by simp [a_mix_vessel_c1])]
  simp [a_mix_vessel_c1, Vessel.av]
theorem mix_vessel_eq (φ : SF) (l : List Vessel) (hl : l.length ≤ 1000000000) (s : Str) (m : Mem) : callD C n_mix_vessel [sv 3 φ.z (l.map Vessel.av) φ.c, .str s] m = some (I (vesselF l s), m) := by
  rw [callD_env (af := a_mix_vessel) rfl rfl _ _ (by simp [a_mix_vessel])]
  have h := fun m => callD_IndexFunc (C := C) (F := n_slices_IndexFunc_api_MixVessel) rfl rfl rfl Vessel.av vessel_av l hl (fun v => v.name == s) n_mix_vessel_c1 [.rptr [.str s]] rfl φ.z φ.c φ.hc (fun x _ m => mix_vessel_c1_eq x s m) m
  simp [a_mix_vessel, h, vesselF]

theorem mix_takes_eq (k : Int) (m : Mem) : callD C n_mix_takes [I k] m = some (.bool (k != 0), m) := by
  rw [callD_env (af := a_mix_takes) rfl rfl _ _ (by simp [a_mix_takes])]
  simp [a_mix_takes]
theorem mix_puts_eq (k : Int) (m : Mem) : callD C n_mix_puts [I k] m = some (.bool (k != 2), m) := by
  rw [callD_env (af := a_mix_puts) rfl rfl _ _ (by simp [a_mix_puts])]
  simp [a_mix_puts]

/-- The error of a fill alone. -/
def alone (x : Fill) : Int :=
  if inR x.kind 0 2 = false then 15
  else if (inR x.day 0 100000 && inR x.amt 1 1000000000 && (if x.kind = 0 then decide (checkGas x.gas = 0) else decide (x.gas.o = 0 ∧ x.gas.h = 0))) = false then 2
  else if (x.kind = 0 ∧ x.frm ≠ []) ∨ (x.kind = 2 ∧ x.to ≠ []) ∨ (x.kind = 1 ∧ x.frm = x.to) ∨ (x.pump = true ∧ x.kind ≠ 1) then 3 else 0
set_option maxHeartbeats 1000000 in
theorem mix_alone_eq (x : Fill) (m : Mem) : callD C n_mix_alone [x.av] m = some (I (alone x), m) := by
  rw [callD_env (af := a_mix_alone) rfl rfl _ _ (by simp [a_mix_alone])]
  cases hk : inR x.kind 0 2 with
  | false => simp [a_mix_alone, Fill.av, mix_within_eq, hk, alone]
  | true =>
    have hk3 : x.kind = 0 ∨ x.kind = 1 ∨ x.kind = 2 := by simp [inR] at hk; omega
    have hg := fun m => gas_CheckGas_eq x.gas m
    simp only [Gas.av] at hg
    cases hd : inR x.day 0 100000 <;> cases ha : inR x.amt 1 1000000000
    all_goals (rcases hk3 with h | h | h <;> simp [a_mix_alone, Fill.av, mix_within_eq, hk, hd, ha, h, hg, mix_takes_eq, mix_puts_eq, alone])
    all_goals (simp [inR]; try grind)

end Go.Proofs.YtnhagbllecpkkaaGreatDoor
