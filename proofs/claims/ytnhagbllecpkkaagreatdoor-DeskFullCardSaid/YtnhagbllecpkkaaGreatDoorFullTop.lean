/-
  DeskFull answers true.
-/
import Derived.Test.YtnhagbllecpkkaaGreatDoorG14
import Derived.Test.YtnhagbllecpkkaaGreatDoorEg
set_option linter.unusedSimpArgs false
set_option linter.unusedVariables false

namespace Go.Proofs.YtnhagbllecpkkaaGreatDoor
open Go Go.VA Go.DM
set_option maxRecDepth 20000

theorem wFull_plans (n : Int) : (wPlans desk0 (pesFrom n 0 60)).plans.length = 60 := by simp [wPlans, pesFrom_len]

set_option maxHeartbeats 1000000 in
theorem DeskFull_eq (n : Int) : callD C n_law10_DeskFull [I n] [] = some (.bool true, []) := by
  rw [callD_env (af := a_law10_DeskFull) rfl rfl _ _ (by simp [a_law10_DeskFull])]
  have ha := awake_eq
  have hw := fun m => base_Within_eq n 1 1000 m
  by_cases hn : 1 ≤ n ∧ n ≤ 1000
  · obtain ⟨hn, hn2⟩ := hn
    have hL := law10_DeskFull_loop n hn hn2 [] 60 0 rfl (by omega)
    have e0 : sv 2 true (((pesFrom n 0 0).map PE.e).map Entry.av) .own = .nils := rfl
    rw [e0] at hL
    have hH := law10_House_eq
    have hlen : ((pesFrom n 0 60).map PE.e).length = 60 := by simp [pesFrom_len]
    have hC := fun m => law10_copied_eq true ((pesFrom n 0 60).map PE.e) .unk rfl (by omega) m
    have hg : ∀ x, x ∈ pesFrom n 0 60 → x.Good desk0 := fun x hx => by
      obtain ⟨j, _, hj, rfl⟩ := pesFrom_mem _ _ _ _ hx
      exact peAt_good j (by omega) n hn hn2
    have hf : Fresh [] (pesFrom n 0 60) := pesFrom_fresh n 60 0 [] (by simp)
    have hcap : clCap ((pesFrom n 0 60).map PE.e) = .own := rfl
    have hS := fun m => desk_StateOf_plans desk0F desk0 desk0_short desk0_kit desk0_ok (pesFrom n 0 60) false .unk rfl (by simp [pesFrom_len]) hg hf (wFull_small n) m
    have hA := fun x m => desk_Accept_full desk0F desk0 desk0_short desk0_kit desk0_ok (pesFrom n 0 60) false .unk rfl (by simp [pesFrom_len]) hg hf x m
    have hB := fun x m => desk_Accept_large desk0F desk0 desk0_short desk0_kit desk0_ok ((pesFrom n 0 60).map PE.e ++ [x]) false .unk rfl (by simp [pesFrom_len]) x m
    rw [hcap] at hC
    generalize hT : (pesFrom n 0 60).map PE.e = T at *
    have hX := hA ⟨[97,110,110], [112,108,97,110,32,109,111,114,101,32,49,48,48,48,32,49,32,50,49,48,32,48]⟩
    have hY := hB ⟨[97,110,110], [112,108,97,110,32,109,111,114,101,32,49,48,48,48,32,49,32,50,49,48,32,48]⟩
    obtain ⟨κ, hZ⟩ := hS [[([5], [AV.str [97,110,110], AV.str [112,108,97,110,32,109,111,114,101,32,49,48,48,48,32,49,32,50,49,48,32,48]])]]
    have hap := append_own1 (sz := 2) (bytes := 32) (z := false) (l := T.map Entry.av) (v := .agg [.str [97,110,110], .str [112,108,97,110,32,109,111,114,101,32,49,48,48,48,32,49,32,50,49,48,32,48]]) (c := .exact) (by simp [room, hlen])
    simp only [Entry.av, List.map_append, List.map_cons, List.map_nil] at hX hY
    have hpl := wFull_plans n
    have hsl : (sCells κ (wPlans desk0 (pesFrom n 0 60))).length = 6 := rfl
    simp [pesFrom_len] at hZ
    simp [-t_law10_DeskFull_1] at hL
    simp [a_law10_DeskFull, ha, hw, hn, hn2, lh_law10_DeskFull_1, hL, hH, hC, hX, hY, hZ, hap, sCells, hpl]
  · have hb : (decide (1 ≤ n) && decide (n ≤ 1000)) = false := by
      rw [Bool.and_eq_false_iff, decide_eq_false_iff_not, decide_eq_false_iff_not]; omega
    simp [a_law10_DeskFull, ha, hw, hb]

end Go.Proofs.YtnhagbllecpkkaaGreatDoor
