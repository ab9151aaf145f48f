/-
  What CheckFill answers: 0 of right fills alone.
-/
import Derived.Test.YtifieekfojbkhaaGreatDoorSpecE
set_option linter.unusedSimpArgs false
set_option linter.unusedVariables false
namespace Go.Proofs.YtifieekfojbkhaaGreatDoor
open Go Go.VA

theorem ref01_CheckGas_eq (o h : Int) : ∃ c, (∀ mem, callD C n_ref01_CheckGas [.agg [.int .i64 o, .int .i64 h]] mem = some (.int .i64 c, mem)) ∧ (c = 0 → 0 ≤ o ∧ o ≤ 1000 ∧ 0 ≤ h ∧ h ≤ 1000) := by
  have w1 := fun m => base_Within_eq o 0 1000 m
  have w2 := fun m => base_Within_eq h 0 1000 m
  by_cases h1 : 0 ≤ o ∧ o ≤ 1000
  · have e1 : (decide (0 ≤ o) && decide (o ≤ 1000)) = true := by simp [h1.1, h1.2]
    rw [e1] at w1
    by_cases h2 : 0 ≤ h ∧ h ≤ 1000
    · have e2 : (decide (0 ≤ h) && decide (h ≤ 1000)) = true := by simp [h2.1, h2.2]
      rw [e2] at w2
      have hw : IntKind.i64.wrap (o + h) = o + h := IntWalk.i64_in _ (by omega)
      by_cases h3 : 1000 < o + h
      · exact ⟨23, fun mem => by rw [callD_env (af := a_ref01_CheckGas) rfl rfl _ _ (by simp [a_ref01_CheckGas])]; simp [a_ref01_CheckGas, w1, w2, hw, h3], by simp⟩
      · exact ⟨0, fun mem => by rw [callD_env (af := a_ref01_CheckGas) rfl rfl _ _ (by simp [a_ref01_CheckGas])]; simp [a_ref01_CheckGas, w1, w2, hw, h3], fun _ => ⟨h1.1, h1.2, h2.1, h2.2⟩⟩
    · have e2 : (decide (0 ≤ h) && decide (h ≤ 1000)) = false := by simp; omega
      rw [e2] at w2
      exact ⟨2, fun mem => by rw [callD_env (af := a_ref01_CheckGas) rfl rfl _ _ (by simp [a_ref01_CheckGas])]; simp [a_ref01_CheckGas, w1, w2], by simp⟩
  · have e1 : (decide (0 ≤ o) && decide (o ≤ 1000)) = false := by simp; omega
    rw [e1] at w1
    exact ⟨2, fun mem => by rw [callD_env (af := a_ref01_CheckGas) rfl rfl _ _ (by simp [a_ref01_CheckGas])]; simp [a_ref01_CheckGas, w1], by simp⟩

/-- A fill that is right alone: what is asked of it here. -/
def Right (k d : Int) (fr to : List UInt8) (ox he am : Int) (pu : Bool) : Prop :=
  (0 ≤ k ∧ k ≤ 2) ∧ (0 ≤ d ∧ d ≤ 100000) ∧ (1 ≤ am ∧ am ≤ 1000000000) ∧ (k = 0 → 0 ≤ ox ∧ ox ≤ 1000 ∧ 0 ≤ he ∧ he ≤ 1000) ∧ (k ≠ 0 → ox = 0 ∧ he = 0) ∧ (k = 0 → fr = []) ∧ (k = 2 → to = []) ∧ (k ≠ 1 → pu = false)

theorem ref06_CheckFill_eq (k d : Int) (fr to : List UInt8) (ox he am : Int) (pu : Bool) : ∃ c, (∀ mem, callD C n_ref06_CheckFill [fillAV k d fr to ox he am pu] mem = some (.int .i64 c, mem)) ∧ (c = 0 → Right k d fr to ox he am pu) := by
  have w1 := fun m => base_Within_eq k 0 2 m
  have w2 := fun m => base_Within_eq d 0 100000 m
  have w3 := fun m => base_Within_eq am 1 1000000000 m
  by_cases h1 : 0 ≤ k ∧ k ≤ 2
  rotate_left
  · have e1 : (decide (0 ≤ k) && decide (k ≤ 2)) = false := by simp; omega
    rw [e1] at w1
    exact ⟨15, fun mem => by rw [callD_env (af := a_ref06_CheckFill) rfl rfl _ _ (by simp [a_ref06_CheckFill])]; simp [a_ref06_CheckFill, fillAV, w1], by simp⟩
  have e1 : (decide (0 ≤ k) && decide (k ≤ 2)) = true := by simp [h1.1, h1.2]
  rw [e1] at w1
  by_cases h2 : 0 ≤ d ∧ d ≤ 100000
  rotate_left
  · have e2 : (decide (0 ≤ d) && decide (d ≤ 100000)) = false := by simp; omega
    rw [e2] at w2
    exact ⟨2, fun mem => by rw [callD_env (af := a_ref06_CheckFill) rfl rfl _ _ (by simp [a_ref06_CheckFill])]; simp [a_ref06_CheckFill, fillAV, w1, w2], by simp⟩
  have e2 : (decide (0 ≤ d) && decide (d ≤ 100000)) = true := by simp [h2.1, h2.2]
  rw [e2] at w2
  by_cases h3 : 1 ≤ am ∧ am ≤ 1000000000
  rotate_left
  · have e3 : (decide (1 ≤ am) && decide (am ≤ 1000000000)) = false := by simp; omega
    rw [e3] at w3
    exact ⟨2, fun mem => by rw [callD_env (af := a_ref06_CheckFill) rfl rfl _ _ (by simp [a_ref06_CheckFill])]; simp [a_ref06_CheckFill, fillAV, w1, w2, w3], by simp⟩
  have e3 : (decide (1 ≤ am) && decide (am ≤ 1000000000)) = true := by simp [h3.1, h3.2]
  rw [e3] at w3
  have hk : k = 0 ∨ k = 1 ∨ k = 2 := by omega
  rcases hk with rfl | rfl | rfl
  · obtain ⟨g, hg, hg0⟩ := ref01_CheckGas_eq ox he
    by_cases h4 : g = 0
    · subst h4
      have hgas := hg0 rfl
      cases fr with
      | nil =>
        cases pu with
        | true => exact ⟨3, fun mem => by rw [callD_env (af := a_ref06_CheckFill) rfl rfl _ _ (by simp [a_ref06_CheckFill])]; simp [a_ref06_CheckFill, fillAV, w1, w2, w3, hg], by simp⟩
        | false => exact ⟨0, fun mem => by rw [callD_env (af := a_ref06_CheckFill) rfl rfl _ _ (by simp [a_ref06_CheckFill])]; simp [a_ref06_CheckFill, fillAV, w1, w2, w3, hg], fun _ => ⟨h1, h2, h3, fun _ => hgas, by simp, by simp, by simp, by simp⟩⟩
      | cons a r => exact ⟨3, fun mem => by rw [callD_env (af := a_ref06_CheckFill) rfl rfl _ _ (by simp [a_ref06_CheckFill])]; simp [a_ref06_CheckFill, fillAV, w1, w2, w3, hg], by simp⟩
    · have hb : (g != 0) = true := by simp [h4]
      exact ⟨2, fun mem => by rw [callD_env (af := a_ref06_CheckFill) rfl rfl _ _ (by simp [a_ref06_CheckFill])]; simp [a_ref06_CheckFill, fillAV, w1, w2, w3, hg, hb], by simp⟩
  · by_cases h4 : ox = 0 ∧ he = 0
    · obtain ⟨rfl, rfl⟩ := h4
      by_cases h5 : fr = to
      · subst h5
        exact ⟨3, fun mem => by rw [callD_env (af := a_ref06_CheckFill) rfl rfl _ _ (by simp [a_ref06_CheckFill])]; simp [a_ref06_CheckFill, fillAV, w1, w2, w3], by simp⟩
      · have hb : (fr == to) = false := by simp [h5]
        exact ⟨0, fun mem => by rw [callD_env (af := a_ref06_CheckFill) rfl rfl _ _ (by simp [a_ref06_CheckFill])]; simp [a_ref06_CheckFill, fillAV, w1, w2, w3, hb], fun _ => ⟨h1, h2, h3, by simp, by simp, by simp, by simp, by simp⟩⟩
    · have hb : (ox == 0 && he == 0) = false := by simp; omega
      exact ⟨2, fun mem => by rw [callD_env (af := a_ref06_CheckFill) rfl rfl _ _ (by simp [a_ref06_CheckFill])]; simp [a_ref06_CheckFill, fillAV, w1, w2, w3, hb], by simp⟩
  · by_cases h4 : ox = 0 ∧ he = 0
    · obtain ⟨rfl, rfl⟩ := h4
      cases to with
      | nil =>
        cases pu with
        | true => exact ⟨3, fun mem => by rw [callD_env (af := a_ref06_CheckFill) rfl rfl _ _ (by simp [a_ref06_CheckFill])]; simp [a_ref06_CheckFill, fillAV, w1, w2, w3], by simp⟩
        | false => exact ⟨0, fun mem => by rw [callD_env (af := a_ref06_CheckFill) rfl rfl _ _ (by simp [a_ref06_CheckFill])]; simp [a_ref06_CheckFill, fillAV, w1, w2, w3], fun _ => ⟨h1, h2, h3, by simp, by simp, by simp, by simp, by simp⟩⟩
      | cons a r => exact ⟨3, fun mem => by rw [callD_env (af := a_ref06_CheckFill) rfl rfl _ _ (by simp [a_ref06_CheckFill])]; simp [a_ref06_CheckFill, fillAV, w1, w2, w3], by simp⟩
    · have hb : (ox == 0 && he == 0) = false := by simp; omega
      exact ⟨2, fun mem => by rw [callD_env (af := a_ref06_CheckFill) rfl rfl _ _ (by simp [a_ref06_CheckFill])]; simp [a_ref06_CheckFill, fillAV, w1, w2, w3, hb], by simp⟩
end Go.Proofs.YtifieekfojbkhaaGreatDoor
