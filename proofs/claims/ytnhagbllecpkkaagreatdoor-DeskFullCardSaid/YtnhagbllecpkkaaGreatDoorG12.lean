/-
  What copied, open, StateOf and Accept answer of logs of plans.
-/
import Derived.Test.YtnhagbllecpkkaaGreatDoorG11
set_option linter.unusedSimpArgs false
set_option linter.unusedVariables false

namespace Go.Proofs.YtnhagbllecpkkaaGreatDoor
open Go Go.VA Go.DM
set_option maxRecDepth 20000

/-- Lists that can be copied. -/
def SmallWd (w : Wd) : Prop := w.fills.length ≤ 1000000 ∧ w.events.length ≤ 1000000 ∧ w.signs.length ≤ 1000000 ∧ w.recs.length ≤ 1000000 ∧ (∀ x, x ∈ w.recs → x.points.length ≤ 1000000) ∧ w.dives.length ≤ 1000000 ∧ (∀ x, x ∈ w.dives → x.vessels.length ≤ 1000000) ∧
  w.plans.length ≤ 1000000 ∧ ∀ x, x ∈ w.plans → x.gases.length ≤ 1000000 ∧ x.legs.length ≤ 1000000
def clCap {α : Type} (l : List α) : Cap := match l with | [] => .exact | _ => .own
theorem clCap_eq {α : Type} (l : List α) (f : α → AV) : (if l.map f = [] then Cap.exact else .own) = clCap l := by cases l <;> simp [clCap]
def clLay (κ : Lay) (w : Wd) : Lay := fun k => if k = 0 then ((κ 0).1, (clCap w.fills).plain) else if k = 1 then ((κ 1).1, (clCap w.events).plain) else if k = 5 then ((κ 5).1, (clCap w.signs).plain) else (true, .unk)

theorem desk_copied_eq (κ : Lay) (hκ : κ.plain = κ) (w : Wd) (hs : SmallWd w) (m : Mem) : callD C n_desk_copied [.agg (sCells κ w)] m = some (.agg (sCells (clLay κ w) w), m) := by
  rw [callD_env (af := a_desk_copied) rfl rfl _ _ (by simp [a_desk_copied])]
  have hk : ∀ j, (κ j).2.plain = (κ j).2 := fun j => congrArg (fun q : Lay => (q j).2) hκ
  obtain ⟨s1, s2, s3, s4, s5, s6, s7, s8, s9⟩ := hs
  have c1 := fun m => callD_Clone (C := C) (F := n_slices_Clone_api_MixFill) (sz := 8) (bytes := 80) (zero := [I 0, I 0, .str [], .str [], I 0, I 0, I 0, .bool false]) rfl rfl rfl (κ 0).1 (w.fills.map Fill.av) (κ 0).2 (hk 0) (by simp [room]; omega) m
  have c2 := fun m => callD_Clone (C := C) (F := n_slices_Clone_api_KitEvent) (sz := 6) (bytes := 72) (zero := [I 0, I 0, .str [], .str [], .str [], .bool false]) rfl rfl rfl (κ 1).1 (w.events.map Ev.av) (κ 1).2 (hk 1) (by simp [room]; omega) m
  have c3 := fun m => callD_Clone (C := C) (F := n_slices_Clone_api_DeskSign) (sz := 2) (bytes := 32) (zero := [.str [], .str []]) rfl rfl rfl (κ 5).1 (w.signs.map Sign.av) (κ 5).2 (hk 5) (by simp [room]; omega) m
  simp only [clCap_eq] at c1 c2 c3
  have h := desk_copied_3 m ⟨w.fills.map Fill.av, (κ 0).1, (clCap w.fills).plain, w.events.map Ev.av, (κ 1).1, (clCap w.events).plain, w.signs.map Sign.av, (κ 5).1, (clCap w.signs).plain⟩ κ hκ w s4 s5 s6 s7 s8 s9 _ 0 rfl (Nat.zero_le _)
  rw [List.take_zero] at h
  simp [cf, Outs.cells, nils6, sCells, sv_nil, -t_desk_copied_3] at h
  have hpu : ∀ j sz z l, (sv sz z l (κ j).2).pure = true := fun j sz z l => by rw [← hk j]; simp
  simp [a_desk_copied, sCells, hpu, c1, c2, c3, hk, lh_desk_copied_3, sv_nil, -t_desk_copied_3]
  simpa [clLay, -t_desk_copied_3] using h

section
variable (f : DF) (h : Desk) (hs : ShortDesk h) (hk : ∀ m, callD C n_kit_CheckSetup [.agg [sv 3 f.i.z (h.kit.items.map Item.av) f.i.c, sv 4 f.r.z (h.kit.rules.map Rule.av) f.r.c]] m = some (I 0, m)) (hck : checkDeskK 0 h = 0)
include hs hk hck

/-- The world behind plans. -/
def wPlans (h : Desk) (R : List PE) : Wd := { w0 h with plans := R.map PE.pl, moved := R.map fun _ => ⟨0, 0, 0⟩ }

set_option maxHeartbeats 1000000 in
theorem desk_open_plans (R : List PE) (z : Bool) (c : Cap) (hc : c.plain = c) (hR : R.length ≤ 60) (hg : ∀ x, x ∈ R → x.Good h) (hf : Fresh [] R) (fr : Fr) (rest : Mem) :
    ∃ κ facts, callD C n_desk_open [.agg (dCells f h), sv 2 z ((R.map PE.e).map Entry.av) c] (fr :: rest) =
      some (.tup [.ptr ⟨rest.length, [freshKey fr, 0, 12]⟩ 0, I R.length, I 0], (([freshKey fr, 0, 12], kCells (.rptr (dCells f h)) κ (wPlans h R) (R.map PE.e) facts) :: fr) :: rest) ∧ κ.plain = κ := by
  rw [callD_env (af := a_desk_open) rfl rfl _ _ (by simp [a_desk_open])]
  have hn := desk_newKeeper_eq f h hs 0 hk [] (fr :: rest)
  simp only [hck, ne_eq, not_true_eq_false, if_false, newId, freshKey] at hn
  obtain ⟨κ, w, facts, k1, k2, k3⟩ := desk_open_loop f h (by have := hs.2.2.1; omega) (R.map PE.e) _ z c rfl (by simp; omega) fr rest R 0 κ0 (w0 h) [] [] (by simp) (by simp) hg hf (Nat.le_refl _) (Nat.le_refl _) (Nat.le_refl _) (Nat.le_refl _)
  have hw : w = wPlans h R := by rw [k2]; rfl
  subst hw
  refine ⟨κ, facts, ?_, k3 (by funext k; unfold Lay.plain κ0; split <;> rfl)⟩
  have h60 : ¬ (60 : Int) < R.length := by omega
  simp only [dCells] at hn
  simp [-t_desk_open_1] at k1 hn
  simp [a_desk_open, dCells, hn, h60, hc, lh_desk_open_1, -t_desk_open_1, kCells_has]
  simp only [dCells] at k1
  exact k1

theorem desk_open_large (T : List Entry) (z : Bool) (c : Cap) (hc : c.plain = c) (hT : 60 < T.length) (fr : Fr) (rest : Mem) :
    callD C n_desk_open [.agg (dCells f h), sv 2 z (T.map Entry.av) c] (fr :: rest) = some (.tup [.nilp, I 0, I 8], fr :: rest) := by
  rw [callD_env (af := a_desk_open) rfl rfl _ _ (by simp [a_desk_open])]
  have hn := desk_newKeeper_eq f h hs 0 hk [] (fr :: rest)
  simp only [hck, ne_eq, not_true_eq_false, if_false, newId, freshKey] at hn
  have h60 : (60 : Int) < T.length := by omega
  simp only [dCells] at hn
  simp at hn
  simp [a_desk_open, dCells, hn, h60, leave_true]
end

end Go.Proofs.YtnhagbllecpkkaaGreatDoor
