/-
  The end of the road: a call that the abstract machine answers is answered so by the machine.
-/
import Derived.Test.YtifieekfojbkhaaGreatDoorVaDraw2
set_option linter.unusedSimpArgs false
set_option linter.unusedVariables false
namespace Go.VA
open Go Go.RowKit

section
variable {P : Program} {C : Ctx} {gl : Globs} {base : Nat} {w0 w : World}

theorem evcall_ok (hprim : PrimOK P C base w0) (hfn : FnOK P gl C) (hmeth : MethOK P C) (hm : P.follows .mixedOrders = true) (n : Nat) : CallOK P gl base w0 (callWith C (ev C n)) :=
  call_ok (ev_ok hprim hfn hmeth (fun _ hcall => draw_ok hcall hmeth hm) n) hprim hfn

/-- The contracts of the primes at every world. -/
def PrimsOK (P : Program) (C : Ctx) : Prop := ∀ base w0, PrimOK P C base w0

/-- What the machine finds, when the abstract one finds a value without references to blocks. -/
theorem calls_ok (hprim : PrimOK P C w.heap.size w) (hfn : FnOK P gl C) (hmeth : MethOK P C) (hm : P.follows .mixedOrders = true) {n : Nat} {f : FuncId} {args : List AV} {r : AV}
    (he : callWith C (ev C n) f args [] = some (r, [])) {xs : Array Value} {map : Nat → Option (Array MapEntry)} (hmap : ∀ r e, map r = some e → ∃ clock, w.heap[r]? = some (.map e clock))
    (hgl : GlobOK gl ⟨fun a => w.cell? a, map, fun _ => none, fun _ => none⟩) (hargs : RVs (fun a => w.cell? a) map (fun _ => none) args xs.toList) :
    Calls P f xs w fun e w' => ∃ x, e = .returned x ∧ Below w.heap.size w w' ∧ RV (fun a => w'.cell? a) (fun r => match w'.heap[r]? with | some (.map e _) => some e | _ => none) (fun _ => none) r.strip x := by
  have hC := (evcall_ok (base := w.heap.size) (w0 := w) hprim hfn hmeth hm n f args [] r [] he).2 ⟨fun a => w.cell? a, map, fun _ => none, fun _ => none⟩ w xs
    ⟨fun a v h => h, hmap, fun i c h => by simp [Mem.get] at h, fun i b h => by simp at h, fun i j b h => by simp at h, fun i b o s h => by simp at h, fun b l f s h => by simp at h, .refl _ _, Nat.le_refl _⟩
    (fun i c h => by simp [Mem.get] at h) hgl hargs
  refine hC.mono fun e w' h => ?_
  obtain ⟨x, g', rfl, hM, _, hE, hR, _, _⟩ := h
  refine ⟨x, rfl, hM.old, ?_⟩
  refine hR.strip.mono (fun a v h => hM.imm a v h) (fun r e h => ?_) (fun i b h => ?_)
  · obtain ⟨c, h1⟩ := hM.map r e h
    rw [h1]
  · rw [hE.blk] at h
    cases h

end
end Go.VA
