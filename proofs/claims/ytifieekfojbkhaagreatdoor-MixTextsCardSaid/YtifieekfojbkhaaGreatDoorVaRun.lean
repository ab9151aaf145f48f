/-
  The abstract run is the machine's: the induction on the fuel.
-/
import Derived.Test.YtifieekfojbkhaaGreatDoorVaFuel
set_option linter.unusedSimpArgs false
set_option linter.unusedVariables false
namespace Go.VA
open Go Go.RowKit

section
variable {P : Program} {C : Ctx} {gl : Globs} {base : Nat} {w0 : World}

theorem chk_cut {code : Code} {keep : List Nat} {drop : List (List Nat)} {c : ACode} (h : chkCode P gl code (.cut keep drop c) = true) : chkCode P gl code c = true := by
  cases code <;> exact h

theorem Inv.cond {g : G} {σ : St} {a : Act} {w : World} (hI : Inv gl base w0 g σ a w) {c : Operand} {c' : Opd} (hc : chkOpd gl c c' = true) {b : Bool} (he : rho σ.tm [] c' = .bool b) : a.eval c = .bool b := by
  have := rv_at hI.wt hI.gl hc he rfl
  generalize a.eval c = z at this
  cases this
  rfl

theorem ev_ok (hprim : PrimOK P C base w0) (hfn : FnOK P gl C) (hmeth : MethOK P C) (hdraw : ∀ call, CallOK P gl base w0 call → DrawOK P C gl base w0 call) : ∀ n, CodeOK P gl base w0 n (ev C n)
  | 0 => by
    intro code ac σ ex σ' _ he
    cases he
  | n + 1 => by
    have ih := ev_ok hprim hfn hmeth hdraw n
    have hcall := call_ok ih hprim hfn
    intro code ac σ ex σ' hc he g a w hI Q hQ
    change stepC C (ev C n) ac σ = some (ex, σ') at he
    -- all but the loop
    have lone : (∀ c, ac ≠ .loop c) → code.wp P Q a w → code.wp P Q a w ∧ ∀ c' c, code = .loop c' → ac = .loop c → Code.rounds P c' Q (n + 1) a w := fun h k => ⟨k, fun c' c _ e => absurd e (h c)⟩
    cases ac with
    | cut keep drop c =>
      refine lone (by simp) ?_
      simp only [stepC, Option.bind_eq_some_iff] at he
      obtain ⟨σ1, h1, h2⟩ := he
      obtain ⟨g1, hI1, hE, hL⟩ := cut_sound hI h1
      exact (ih code c σ1 ex σ' (chk_cut hc) h2 g1 a w hI1 Q (fun a' w' hA => hQ a' w' (After.trans hE hL hA))).1
    | skip =>
      refine lone (by simp) ?_
      cases code <;> simp [chkCode] at hc
      cases he
      exact wp_skip (hQ a w ⟨g, hI, .refl _ _, rfl⟩)
    | ret =>
      refine lone (by simp) ?_
      cases code <;> simp [chkCode] at hc
      cases he
      exact wp_ret (hQ a w ⟨g, hI, .refl _ _, rfl⟩)
    | exit id =>
      refine lone (by simp) ?_
      cases code <;> simp [chkCode] at hc
      cases he
      subst hc
      exact wp_exit (hQ a w ⟨g, hI, .refl _ _, rfl⟩)
    | reg draw aops =>
      refine lone (by simp) ?_
      cases code <;> simp [chkCode] at hc
      rename_i id ops draw'
      obtain ⟨⟨rfl, h1⟩, h2⟩ := hc
      cases draw' with
      | false =>
        simp only [stepC, Option.map_eq_some_iff] at he
        obtain ⟨σ1, h3, h4⟩ := he
        cases h4
        refine wp_region ?_
        have := ops_sound (P := P) (Q := Q) hcall hmeth ops.toList aops 0 g σ a w rfl h1 h3 hI hQ
        simpa using this
      | true =>
        simp only [stepC, Option.map_eq_some_iff] at he
        obtain ⟨σ1, h3, h4⟩ := he
        cases h4
        exact hdraw _ hcall id ops aops σ σ' g a w Q h1 (by simpa using h2) h3 hI hQ
    | seq x y =>
      refine lone (by simp) ?_
      cases code <;> simp [chkCode] at hc
      rename_i cx cy
      simp only [stepC] at he
      refine wp_seq ?_
      split at he
      · rename_i σ1 h1
        refine (ih cx x σ .normal σ1 hc.1 h1 g a w hI _ (fun a' w' hA => ?_)).1
        obtain ⟨g1, hI1, hE, hL⟩ := hA
        exact (ih cy y σ1 ex σ' hc.2 he g1 a' w' hI1 Q (fun a2 w2 hA2 => hQ a2 w2 (After.trans hE hL hA2))).1
      · rename_i hne
        have hex : ex ≠ .normal := fun e => hne σ' (by rw [he, e])
        refine (ih cx x σ ex σ' hc.1 he g a w hI _ (fun a' w' hA => ?_)).1
        cases ex with
        | normal => exact absurd rfl hex
        | exit i => exact hQ a' w' hA
        | ret => exact hQ a' w' hA
    | cond c x y =>
      refine lone (by simp) ?_
      cases code <;> simp [chkCode] at hc
      rename_i cc cx cy
      obtain ⟨⟨h1, h2⟩, h3⟩ := hc
      simp only [stepC] at he
      split at he
      · rename_i t ht
        refine wp_cond (hI.cond h1 ht) ?_
        cases t with
        | true => exact (ih cx x σ ex σ' h2 he g a w hI Q hQ).1
        | false => exact (ih cy y σ ex σ' h3 he g a w hI Q hQ).1
      · cases he
    | block id x =>
      refine lone (by simp) ?_
      cases code <;> simp [chkCode] at hc
      rename_i id' cx
      obtain ⟨rfl, hc⟩ := hc
      simp only [stepC] at he
      refine wp_block ?_
      split at he
      · rename_i j σ1 h1
        split at he
        · rename_i hj
          cases he
          refine (ih cx x σ (.exit j) σ' hc h1 g a w hI _ (fun a' w' hA => ?_)).1
          show (if j = id' then _ else _)
          rw [if_pos hj]
          exact hQ a' w' hA
        · rename_i hj
          cases he
          refine (ih cx x σ (.exit j) σ' hc h1 g a w hI _ (fun a' w' hA => ?_)).1
          show (if j = id' then _ else _)
          rw [if_neg hj]
          exact hQ a' w' hA
      · rename_i hne
        refine (ih cx x σ ex σ' hc he g a w hI _ (fun a' w' hA => ?_)).1
        cases ex with
        | normal => exact hQ a' w' hA
        | exit i => exact absurd he (hne i σ')
        | ret => exact hQ a' w' hA
    | loop x =>
      cases code <;> simp [chkCode] at hc
      rename_i cx
      have hrounds : Code.rounds P cx Q (n + 1) a w := by
        rw [rounds_succ]
        simp only [stepC] at he
        split at he
        · rename_i σ1 h1
          refine (ih cx x σ .normal σ1 hc h1 g a w hI _ (fun a' w' hA => ?_)).1
          obtain ⟨g1, hI1, hE, hL⟩ := hA
          exact (ih (.loop cx) (.loop x) σ1 ex σ' (by simpa [chkCode] using hc) he g1 a' w' hI1 Q (fun a2 w2 hA2 => hQ a2 w2 (After.trans hE hL hA2))).2 cx x rfl rfl
        · rename_i hne
          have hex : ex ≠ .normal := fun e => hne σ' (by rw [he, e])
          refine (ih cx x σ ex σ' hc he g a w hI _ (fun a' w' hA => ?_)).1
          cases ex with
          | normal => exact absurd rfl hex
          | exit i => exact hQ a' w' hA
          | ret => exact hQ a' w' hA
      refine ⟨wp_loop_rounds (n + 1) hrounds, fun c' c e1 e2 => ?_⟩
      cases e1
      exact hrounds

end
end Go.VA
