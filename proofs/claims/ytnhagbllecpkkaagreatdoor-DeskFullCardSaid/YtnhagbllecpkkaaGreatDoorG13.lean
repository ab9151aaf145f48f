/-
  What StateOf and Accept answer of logs of plans, at the desk of the examples.
-/
import Derived.Test.YtnhagbllecpkkaaGreatDoorG12
set_option linter.unusedSimpArgs false
set_option linter.unusedVariables false

namespace Go.Proofs.YtnhagbllecpkkaaGreatDoor
open Go Go.VA Go.DM
set_option maxRecDepth 20000

theorem dCells_pure (f : DF) (h : Desk) : AV.pure.pures (dCells f h) = true := by simp [dCells]
theorem dCells_take (f : DF) (h : Desk) : (dCells f h).take 14 = dCells f h := rfl
theorem dCells_length (f : DF) (h : Desk) : (dCells f h).length = 14 := rfl
theorem clLay_plain (κ : Lay) (w : Wd) (j : Nat) : (clLay κ w j).2.plain = (clLay κ w j).2 := by
  by_cases a : j = 0 <;> by_cases b : j = 1 <;> by_cases d : j = 5 <;> simp [clLay, a, b, d]

section
variable (f : DF) (h : Desk) (hs : ShortDesk h) (hk : ∀ m, callD C n_kit_CheckSetup [.agg [sv 3 f.i.z (h.kit.items.map Item.av) f.i.c, sv 4 f.r.z (h.kit.rules.map Rule.av) f.r.c]] m = some (I 0, m)) (hck : checkDeskK 0 h = 0)
include hs hk hck


theorem desk_StateOf_plans (R : List PE) (z : Bool) (c : Cap) (hc : c.plain = c) (hR : R.length ≤ 60) (hg : ∀ x, x ∈ R → x.Good h) (hf : Fresh [] R) (hw : SmallWd (wPlans h R)) (m : Mem) :
    ∃ κ, callD C n_desk_StateOf [.agg (dCells f h), sv 2 z ((R.map PE.e).map Entry.av) c] m = some (.tup [.agg (sCells κ (wPlans h R)), I R.length, I 0], m) := by
  obtain ⟨κ, facts, h1, h2⟩ := desk_open_plans f h hs hk hck R z c hc hR hg hf [([4], nils6)] m
  refine ⟨clLay κ (wPlans h R), ?_⟩
  rw [callD_env (af := a_desk_StateOf) rfl rfl _ _ (by simp [a_desk_StateOf])]
  have hcp := fun m => desk_copied_eq κ h2 (wPlans h R) hw m
  have hkk : ∀ j, (κ j).2.plain = (κ j).2 := fun j => congrArg (fun q : Lay => (q j).2) h2
  have hkc : ∀ j, (clLay κ (wPlans h R) j).2.plain = (clLay κ (wPlans h R) j).2 := clLay_plain _ _
  simp only [nils6, freshKey] at h1
  simp [sCells] at hcp
  simp at h1
  simp [a_desk_StateOf, dCells_pure, dCells_take, dCells_length, h1, hc, kCells, wCells, hcp, hkk, hkc, sCells, mgetE, msetE, -Mem.get, -Mem.set]

omit hs hk hck in
theorem desk_keeper_accept_full {id : VA.Id} {m : Mem} {κ : Lay} {w : Wd} {log : List Entry} {facts : List Counted} (hc : m.get id = some (kCells (.rptr (dCells f h)) κ w log facts)) (hl : log.length = 60) (x : Entry) : callD C n_desk_keeper_accept [.ptr id 0, x.av] m = some (I 16, m) := by
  rw [callD_env (af := a_desk_keeper_accept) rfl rfl _ _ (by simp [a_desk_keeper_accept])]
  have hid := mgetF hc
  have hg := fun f => (mgetB (f := f) hid).trans hc
  simp [-Mem.get, a_desk_keeper_accept, Entry.av, hg, kCells, wCells, hl]

theorem desk_Accept_full (R : List PE) (z : Bool) (c : Cap) (hc : c.plain = c) (hR : R.length = 60) (hg : ∀ x, x ∈ R → x.Good h) (hf : Fresh [] R) (x : Entry) (m : Mem) :
    callD C n_desk_Accept [.agg (dCells f h), sv 2 z ((R.map PE.e).map Entry.av) c, x.av] m = some (.tup [.nils, I 16], m) := by
  obtain ⟨κ, facts, h1, h2⟩ := desk_open_plans f h hs hk hck R z c hc (by omega) hg hf [] m
  rw [callD_env (af := a_desk_Accept) rfl rfl _ _ (by simp [a_desk_Accept])]
  have ha := desk_keeper_accept_full f h (κ := κ) (w := wPlans h R) (log := R.map PE.e) (facts := facts) (id := ⟨m.length, [0, 0, 12]⟩) (m := [([0, 0, 12], kCells (.rptr (dCells f h)) κ (wPlans h R) (R.map PE.e) facts)] :: m) (by simp [Mem.get, Fr.get]) (by simpa using hR) x
  simp only [freshKey, Entry.av] at h1 ha
  simp at h1
  simp [a_desk_Accept, dCells_pure, dCells_take, dCells_length, h1, hc, Entry.av, ha, -Mem.get, -Mem.set]

theorem desk_Accept_large (T : List Entry) (z : Bool) (c : Cap) (hc : c.plain = c) (hT : 60 < T.length) (x : Entry) (m : Mem) :
    callD C n_desk_Accept [.agg (dCells f h), sv 2 z (T.map Entry.av) c, x.av] m = some (.tup [.nils, I 8], m) := by
  have h1 := desk_open_large f h hs hk hck T z c hc hT [] m
  rw [callD_env (af := a_desk_Accept) rfl rfl _ _ (by simp [a_desk_Accept])]
  simp [a_desk_Accept, dCells_pure, dCells_take, dCells_length, h1, hc, Entry.av, -Mem.get, -Mem.set]

end

/-- The desk of the examples. -/
def desk0 : Desk := ⟨[⟨[99,49], 12000, 300000⟩], ⟨[], []⟩, [⟨[97,110,110], 1⟩, ⟨[98,111,98], 3⟩], ⟨[], 160, 1600, 6000, 20000, 20000, 40000, 60, 900⟩, [⟨600, 240, 500, 1500⟩]⟩
def SF.e : SF := ⟨false, .exact, rfl⟩
def desk0F : DF := ⟨SF.e, SF.n, SF.n, SF.e, SF.n, SF.e⟩
theorem law10_House_eq (m : Mem) : callD C n_law10_House [] m = some (.agg (dCells desk0F desk0), m) := by
  rw [callD_env (af := a_law10_House) rfl rfl _ _ (by simp [a_law10_House])]
  simp [a_law10_House, dCells, desk0F, desk0, SF.e, SF.n, sv_nil, sv_some, Vessel.av, Person.av, Comp.av]
theorem desk0_short : ShortDesk desk0 := by simp [ShortDesk, desk0]
theorem desk0_kit (m : Mem) : callD C n_kit_CheckSetup [.agg [sv 3 desk0F.i.z (desk0.kit.items.map Item.av) desk0F.i.c, sv 4 desk0F.r.z (desk0.kit.rules.map Rule.av) desk0F.r.c]] m = some (I 0, m) := by
  simpa [desk0F, desk0, SF.n, sv_nil] using kit_CheckSetup_nil m
theorem desk0_ok : checkDeskK 0 desk0 = 0 := by decide
theorem law10_copied_eq (z : Bool) (T : List Entry) (c : Cap) (hc : c.plain = c) (hl : T.length ≤ 1000000) (m : Mem) : callD C n_law10_copied [sv 2 z (T.map Entry.av) c] m = some (sv 2 false (T.map Entry.av) (clCap T), m) := by
  rw [callD_env (af := a_law10_copied) rfl rfl _ _ (by simp [a_law10_copied])]
  have ha : append 2 32 (.slc 2 [] .exact) (sv 2 z (T.map Entry.av) c) = some (sv 2 false (T.map Entry.av) (clCap T)) := by
    unfold append
    rw [sv_elems]
    cases T with
    | nil => simp [room, clCap, sv]
    | cons x r => simp at hl; simp [room, clCap, sv]; omega
  simp [a_law10_copied, hc, ha, toElems]

end Go.Proofs.YtnhagbllecpkkaaGreatDoor
