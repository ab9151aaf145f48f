/-
  The desk's world: its cells; persons, plans, dives and vessels by name.
-/
import Derived.Test.YtnhagbllecpkkaaGreatDoorG6
set_option linter.unusedSimpArgs false
set_option linter.unusedVariables false

namespace Go.Proofs.YtnhagbllecpkkaaGreatDoor
open Go Go.VA Go.DM
set_option maxRecDepth 20000

inductive Fact where
  | fill (x : Fill) | kit (x : Ev) | plan (x : Plan) | dive (x : Dive) | recd (x : DM.Rec) | sign (x : Str)
  deriving DecidableEq
def Fact.av : Fact → AV
  | .fill x => .iface 255 x.av
  | .kit x => .iface 258 x.av
  | .plan x => .iface 261 x.av
  | .dive x => .iface 269 x.av
  | .recd x => .iface 266 x.av
  | .sign x => .iface 267 (.str x)
structure Counted where
  number : Int
  by' : Person
  word : Str
  text : Str
  fact : Fact
  deriving DecidableEq
def Counted.av (x : Counted) : AV := .agg [I x.number, .str x.by'.name, I x.by'.role, .str x.word, .str x.text, x.fact.av]

/-- What facts come to. -/
structure Wd where
  fills : List Fill
  events : List Ev
  plans : List Plan
  dives : List Dive
  recs : List DM.Rec
  signs : List Sign
  held : List Cont
  ahead : List (SF × List Cont)
  moved : List Cont
  vented : Cont
  breathed : Cont

/-- How the nine slices of a world are laid. -/
abbrev Lay := Nat → Bool × Cap
def Lay.plain (κ : Lay) : Lay := fun i => ((κ i).1, (κ i).2.plain)
def Lay.put (κ : Lay) (k : Nat) (x : Bool × Cap) : Lay := fun i => if i = k then x else κ i
def contsAV (x : SF × List Cont) : AV := sv 3 x.1.z (x.2.map Cont.av) x.1.c
/-- The cells of a world. -/
def wCells (dp : AV) (κ : Lay) (w : Wd) : List AV :=
  [dp, sv 8 (κ 0).1 (w.fills.map Fill.av) (κ 0).2, sv 6 (κ 1).1 (w.events.map Ev.av) (κ 1).2, sv 4 (κ 2).1 (w.plans.map Plan.av) (κ 2).2, sv 6 (κ 3).1 (w.dives.map Dive.av) (κ 3).2,
    sv 2 (κ 4).1 (w.recs.map DM.Rec.av) (κ 4).2, sv 2 (κ 5).1 (w.signs.map Sign.av) (κ 5).2, sv 3 (κ 6).1 (w.held.map Cont.av) (κ 6).2, sv 1 (κ 7).1 (w.ahead.map contsAV) (κ 7).2, sv 3 (κ 8).1 (w.moved.map Cont.av) (κ 8).2,
    I w.vented.o, I w.vented.h, I w.vented.n, I w.breathed.o, I w.breathed.h, I w.breathed.n]

theorem plan_av (x : Plan) : ∃ u, x.av = .agg u ∧ u.length = 4 := ⟨_, rfl, rfl⟩
def planIdx (l : List Plan) (s : Str) : Int := idxOf (fun p => p.name == s) l
theorem desk_world_plan_c1_eq (x : Plan) (s : Str) (m : Mem) : callD C n_desk_world_plan_c1 [x.av, .rptr [.str s]] m = some (.bool (x.name == s), m) := by
  rw [callD_env (af := a_desk_world_plan_c1) rfl rfl _ _ (by simp [a_desk_world_plan_c1])]
  simp [a_desk_world_plan_c1, Plan.av, gasesAV, legsAV]

/-- How the six slices of a desk are laid. -/
structure DF where
  v : SF
  i : SF
  r : SF
  p : SF
  o : SF
  t : SF
def dCells (f : DF) (h : Desk) : List AV :=
  [sv 3 f.v.z (h.vessels.map Vessel.av) f.v.c, sv 3 f.i.z (h.kit.items.map Item.av) f.i.c, sv 4 f.r.z (h.kit.rules.map Rule.av) f.r.c, sv 2 f.p.z (h.people.map Person.av) f.p.c,
    sv 2 f.o.z (h.rules.table.map ORow.av) f.o.c, I h.rules.least, I h.rules.most, I h.rules.narc, I h.rules.dense, I h.rules.breath, I h.rules.emerg, I h.rules.pause, I h.rules.ascent, sv 4 f.t.z (h.table.map Comp.av) f.t.c]
def personIdx (l : List Person) (s : Str) : Int := idxOf (fun p => p.name == s) l
theorem person_av (x : Person) : ∃ u, x.av = .agg u ∧ u.length = 2 := ⟨_, rfl, rfl⟩
theorem desk_world_person_c1_eq (x : Person) (s : Str) (m : Mem) : callD C n_desk_world_person_c1 [x.av, .rptr [.str s]] m = some (.bool (x.name == s), m) := by
  rw [callD_env (af := a_desk_world_person_c1) rfl rfl _ _ (by simp [a_desk_world_person_c1])]
  simp [a_desk_world_person_c1, Person.av]
theorem desk_with_plan_eq (z : Bool) (l : List Plan) (c : Cap) (hc : c.plain = c) (hl : l.length ≤ 10000000) (p : Plan) (m : Mem) :
    callD C n_desk_with_api_DivePlan [sv 4 z (l.map Plan.av) c, p.av] m = some (sv 4 z ((l ++ [p]).map Plan.av) .own, m) := by
  rw [List.map_append]
  exact callD_With (F := n_desk_with_api_DivePlan) (g := n_slices_Clip_api_DivePlan) (sz := 4) (bytes := 72) (zero := [.str [], I 0, .nils, .nils]) rfl rfl rfl z (l.map Plan.av) c hc _ rfl (by simp [gasesAV, legsAV]) rfl (by decide) (by simp [gasesAV, legsAV]) (by simp [room]; omega)
    (fun m => callD_Clip (F := n_slices_Clip_api_DivePlan) rfl rfl rfl z _ c hc m) m
theorem desk_with_cont_eq (z : Bool) (l : List Cont) (c : Cap) (hc : c.plain = c) (hl : l.length ≤ 10000000) (p : Cont) (m : Mem) :
    callD C n_desk_with_api_MixContent [sv 3 z (l.map Cont.av) c, p.av] m = some (sv 3 z ((l ++ [p]).map Cont.av) .own, m) := by
  rw [List.map_append]
  exact callD_With (F := n_desk_with_api_MixContent) (g := n_slices_Clip_api_MixContent) (sz := 3) (bytes := 24) (zero := [I 0, I 0, I 0]) rfl rfl rfl z (l.map Cont.av) c hc _ rfl (by simp) rfl (by decide) (by simp) (by simp [room]; omega)
    (fun m => callD_Clip (F := n_slices_Clip_api_MixContent) rfl rfl rfl z _ c hc m) m

section
variable {id : VA.Id} {m : Mem} {dp : AV} {κ : Lay} {w : Wd} {rest : List AV}

theorem desk_world_plan_eq (hc : m.get id = some (wCells dp κ w ++ rest)) (hl : w.plans.length ≤ 1000000) (s : Str) : callD C n_desk_world_plan [.ptr id 0, .str s] m = some (I (planIdx w.plans s), m) := by
  rw [callD_env (af := a_desk_world_plan) rfl rfl _ _ (by simp [a_desk_world_plan])]
  have hid := mgetF hc
  have h := fun m => callD_IndexFunc (C := C) (F := n_slices_IndexFunc_api_DivePlan) rfl rfl rfl Plan.av plan_av w.plans (by omega) (fun p => p.name == s) n_desk_world_plan_c1 [.rptr [.str s]] rfl (κ 2).1 (κ 2).2.plain (by simp) (fun x _ m => desk_world_plan_c1_eq x s m) m
  have hg := fun f => (mgetB (f := f) hid).trans hc
  simp [-Mem.get, a_desk_world_plan, hg, wCells, h, planIdx]

theorem desk_world_person_eq {f : DF} {h : Desk} (hc : m.get id = some (wCells (.rptr (dCells f h)) κ w ++ rest)) (hl : h.people.length ≤ 1000000) (s : Str) : callD C n_desk_world_person [.ptr id 0, .str s] m = some (I (personIdx h.people s), m) := by
  rw [callD_env (af := a_desk_world_person) rfl rfl _ _ (by simp [a_desk_world_person])]
  have hid := mgetF hc
  have hx := fun m => callD_IndexFunc (C := C) (F := n_slices_IndexFunc_api_DeskPerson) rfl rfl rfl Person.av person_av h.people (by omega) (fun p => p.name == s) n_desk_world_person_c1 [.rptr [.str s]] rfl f.p.z f.p.c f.p.hc (fun x _ m => desk_world_person_c1_eq x s m) m
  have hg := fun f => (mgetB (f := f) hid).trans hc
  simp [-Mem.get, a_desk_world_person, hg, wCells, dCells, hx, personIdx]

/-- A plan is added. -/
theorem desk_planFact_add_eq (hc : m.get id = some (wCells dp κ w ++ rest)) (hl : w.plans.length ≤ 1000000) (p : Plan) (by' : Person) :
    callD C n_desk_planFact_add [p.av, .ptr id 0, by'.av] m =
      some (if 0 ≤ planIdx w.plans p.name then (I 5, m) else (I 0, m.set id (wCells dp (κ.put 2 ((κ 2).1, .own)) { w with plans := w.plans ++ [p] } ++ rest))) := by
  rw [callD_env (af := a_desk_planFact_add) rfl rfl _ _ (by simp [a_desk_planFact_add])]
  have hid := mgetF hc
  have hid1 := Nat.lt_succ_of_lt hid
  have hg := fun f => (mgetB (f := f) hid).trans hc
  have hp := fun f => desk_world_plan_eq (m := f :: m) (hg f) hl p.name
  have hw := fun m => desk_with_plan_eq (κ 2).1 w.plans (κ 2).2.plain (by simp) (by omega) p m
  have hs := fun f c => msetB (f := f) (c := c) hid
  simp only [Plan.av] at hw
  by_cases h0 : 0 ≤ planIdx w.plans p.name
  · simp [-Mem.get, -Mem.set, a_desk_planFact_add, Plan.av, Person.av, gasesAV, legsAV, hp, h0]
  · simp [gasesAV, legsAV] at hw
    simp [-Mem.get, -Mem.set, a_desk_planFact_add, Plan.av, Person.av, gasesAV, legsAV, hp, h0, hg, hs, wCells, hw, Lay.put, hid, hid1]

end
end Go.Proofs.YtnhagbllecpkkaaGreatDoor
