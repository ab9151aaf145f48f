/-
  DeskFull answers true for every number: where a desk breathes at all as the law's own examples ask, a log of sixty plans of so many seconds is opened, a sixty-first entry and a longer log are turned away.
  Conditions: the statement's own alone: the listed tables as the row lays them.
-/
import Derived.Test.YtnhagbllecpkkaaGreatDoorFullTop
import Derived.Test.YtnhagbllecpkkaaGreatDoorMeth
import Derived.Test.YtnhagbllecpkkaaGreatDoorWit
import Derived.Test.YtnhagbllecpkkaaGreatDoorCards
import Derived.Test.YtnhagbllecpkkaaGreatDoorTie
import Derived.Test.YtnhagbllecpkkaaGreatDoorMainEnv
set_option linter.unusedSimpArgs false
set_option linter.unusedVariables false

namespace Go.Proofs.YtnhagbllecpkkaaGreatDoor
open Go Go.VA Go.RowKit Go.ChangeShapes

theorem lts3 : ltsOf Tryz.prog 10 3 = some [.f (.i .i64)] := by kernel_rfl

theorem wit_shaped0 (os : Os) : ((witW os).forCall (fun _ _ => 0) ⟨#[], #[.int .i64 0], []⟩).Shaped Tryz.prog := World.shaped_of_ZipB (by kernel_rfl) (by kernel_rfl)

set_option maxRecDepth 100000 in
theorem lifted (os : Os) (started : os.Started) (H : Type) (enc : TypeId × Value → H) :
    ReturnsInHanded {} Tryz.checked os 3 .any (fun w args => (Rows.deskFullSpec.pre enc Tryz.prog Tryz.f3 [] false w args ∧ laidMetH Tryz.prog Rows.deskFullRow.laid w) ∧ sizedMet enc Tryz.prog Tryz.f3 (OpenSpec.ofChange Rows.deskFullSpec) false w args)
      (Rows.deskFullSpec.post enc Tryz.prog Tryz.f3 false true false false) := by
  refine returns_shaped (C := Tryz.checked) (X := fun w _ => laidMetH Tryz.prog Rows.deskFullRow.laid w) (fun _ _ _ hh h => h.of_heap hh) own started (by kernel_rfl) Tryz.func3
    (ChangeSpec.witness_shaped (enc := enc) (C := Tryz.checked) (os := os) (X := fun w _ => laidMetH Tryz.prog Rows.deskFullRow.laid w) false (witW os)
      #[.int .i64 0] 8 (witW_os os) (wit_shaped0 os) (by kernel_rfl) (by kernel_rfl) (by kernel_rfl) (wit_met os _)) ?_
  intro W base args ds gs before hval0 hW _ hL hsh
  have hval : ∀ (j : Nat) t v, Tryz.f3.params[j]? = some t → args[j]? = some v → Value.okWide Tryz.prog W .any base t v := hval0
  rw [MakeChecks.laidMetH_plain _ _ _ (by kernel_rfl)] at hL
  have hW' := hW
  obtain ⟨p, q, hA0, hV, rfl, _, _⟩ := hW
  have hA : DataW.TrodAll enc Tryz.prog W 0 (fun _ => true) true Tryz.f3.params.toList args.toList ds p := hA0
  rw [Tryz.params3] at hA hval
  obtain ⟨v0, d0, rfl, rfl, h0⟩ := trodAll_one hA
  have hq : q = [] ∧ gs = [] := by
    cases gs with
    | nil => exact ⟨hV, rfl⟩
    | cons g gs => exact hV.elim
  obtain ⟨rfl, rfl⟩ := hq
  have hL : laidMet Tryz.prog Rows.deskRecoversRow.laid W := hL
  obtain ⟨b, es, cl, r1, r2, r3⟩ := roles_at hL
  obtain ⟨us0, f0, r0⟩ := open_arg (fun r => if r = b then some (.map es cl) else none) (fun _ => none) lts3 (hval 0 3 v0 rfl rfl) h0
  obtain ⟨_, _, rfl, ⟨s, rfl, _⟩, rfl⟩ := f0
  obtain ⟨n, hn⟩ := call_cont (DeskFull_eq s)
  have hb0 : isAggB Tryz.prog 3 = false := by kernel_rfl
  unfold argAV at r0
  rw [if_neg (by rw [hb0]; simp)] at r0
  refine (calls_ok (map := fun r => if r = b then some (.map es cl) else none) (w := W) (prims_ok hsh hL) (fun _ _ h => by cases h) iters_ok fresh_ok fnOK methOK follows hn (xs := #[v0]) (fun r e h => ?_) (fun g c h => ?_) ⟨rfl, fun i u x hu hx => ?_⟩).mono fun e W' h => ?_
  · split at h
    · rename_i hr
      cases h
      exact ⟨by rw [hr]; exact r2, rfl⟩
    · cases h
  · unfold gl at h
    split at h
    · rename_i hg
      subst hg
      cases h
      rw [rolAV]
      refine .rptr _ 0 0 (fun _ => .map (some b)) ?_ ?_ ?_
      · intro u hu
        simp at hu
        subst hu
        rfl
      · intro j hj
        have : j = 0 := by simpa using hj
        subst this
        exact r1
      · intro j u hu
        cases j with
        | zero => cases hu; exact r3 _ (by simp)
        | succ j => simp at hu
    · cases h
  · match i with
    | 0 => cases hu; cases hx; exact r0
    | i + 1 => simp at hu
  · obtain ⟨x, rfl, hb, hx⟩ := h
    cases hx
    refine ⟨_, rfl, post_true hW' rfl rfl (by rfl) Tryz.underlying4 laidOut ?_ hb⟩
    intro t ht
    rw [Tryz.params3] at ht
    have : t = 3 := by simpa using ht
    subst this
    exact ⟨by kernel_rfl, of_decide_eq_true (by kernel_rfl)⟩

theorem deskFull_said : Rows.DeskFullSaid :=
  OpenClaim.holds_of_wide 3 Tryz.f3 rfl rfl rfl rfl rfl rfl rfl ⟨rfl, rfl, rfl, rfl, rfl⟩ rfl rfl rfl rfl rfl (by kernel_rfl) Tryz.func3 (by kernel_rfl)
    (of_decide_eq_true (by kernel_rfl)) (by unfold Func.isWrapper; first | (rw [if_pos (by decide +kernel)]; kernel_rfl) | (rw [if_neg (by decide +kernel)]; exact ⟨rfl, rfl⟩))
    (fun os started H enc _ => lifted os started H enc)

theorem deskFull_holds : Rows.DeskFullCardSaid :=
  Claim7.holds_tied_plain_at .later [] [.data, .data, .data, .data, .sentinel, .sentinel, .mapped, .mappedDeep, .pinned] true (true, "69a7783838c3aa3ae57dc3b09513df65ff20e72c21de8302ac49da9e32506d1b") true
    deskFull_said (fun _ h => by cases h) (by kernel_rfl) (fun _ h => by cases h) deskFull_row_tie rfl ⟨rfl, rfl⟩ (by kernel_rfl) rfl
    (fun f fn hf hfn => by
      obtain rfl : f = 3 := Option.some.inj ((show Tryz.prog.funcNamed "shotline/shotlinelaw10.DeskFull" = some 3 by kernel_rfl).symm.trans hf) |>.symm
      obtain rfl : fn = Tryz.f3 := (Option.some.inj (Tryz.func3.symm.trans hfn)).symm
      exact ⟨by kernel_rfl, fun j t ht => by
        rw [Tryz.params3] at ht
        have h3 : t = 3 := by
          rcases j with _ | j
          · simpa using ht.symm
          · simp at ht
        subst h3
        exact (show Tryz.prog.wantsStandIn 3 = false by kernel_rfl)⟩)
    (by kernel_rfl)
#print axioms deskFull_holds
end Go.Proofs.YtnhagbllecpkkaaGreatDoor
