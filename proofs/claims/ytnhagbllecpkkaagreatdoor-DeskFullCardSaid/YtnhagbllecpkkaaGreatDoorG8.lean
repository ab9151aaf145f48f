/-
  Facts that count are added: plans.
-/
import Derived.Test.YtnhagbllecpkkaaGreatDoorG7
set_option linter.unusedSimpArgs false
set_option linter.unusedVariables false

namespace Go.Proofs.YtnhagbllecpkkaaGreatDoor
open Go Go.VA Go.DM
set_option maxRecDepth 20000

theorem mgetE {f : Fr} {m : Mem} {i : VA.Id} (h : i.fr = m.length) : Mem.get (f :: m) i = f.get i.st := by simp [Mem.get, h]
theorem msetE {f : Fr} {m : Mem} {i : VA.Id} {c : List AV} (h : i.fr = m.length) : Mem.set (f :: m) i c = f.set i.st c :: m := by simp [Mem.set, h]

@[simp] theorem fact_pure (x : Fact) : x.av.pure = true := by cases x <;> simp [Fact.av, Fill.av, Ev.av, Plan.av, Dive.av, DM.Rec.av, gasesAV, legsAV, strsAV, pointsAV]
@[simp] theorem fact_one (x : Fact) : x.av.one = true := by cases x <;> rfl
@[simp] theorem fact_strip (x : Fact) : x.av.strip = x.av := by cases x <;> rfl
@[simp] theorem fact_cells (x : Fact) : x.av.cells = [x.av] := by cases x <;> rfl
@[simp] theorem fact_defd (x : Fact) : x.av.defd = true := by cases x <;> rfl
@[simp] theorem fact_under (x : Fact) (n : Nat) : x.av.under n = true := by cases x <;> simp [Fact.av, Fill.av, Ev.av, Plan.av, Dive.av, DM.Rec.av, gasesAV, legsAV, strsAV, pointsAV]
@[simp] theorem fact_has (x : Fact) (i : VA.Id) : x.av.has i = false := by cases x <;> simp [Fact.av, Fill.av, Ev.av, Plan.av, Dive.av, DM.Rec.av, gasesAV, legsAV, strsAV, pointsAV]

theorem desk_factOf_plan (rest : Str) (hs : rest.length ≤ 1000) (m : Mem) : callD C n_desk_factOf [.str [112,108,97,110], .str rest] m = some (.tup [(Fact.plan (parsePlanLine rest).1).av, I (parsePlanLine rest).2], m) := by
  rw [callD_env (af := a_desk_factOf) rfl rfl _ _ (by simp [a_desk_factOf])]
  have h := fun m => profile_ParsePlanLine_eq rest hs m
  simp only [planTup] at h
  simp [a_desk_factOf, h, Fact.av, Plan.av, gasesAV, legsAV]

section
variable {id : VA.Id} {m : Mem} {dp : AV} {κ : Lay} {w : Wd} {rest : List AV}

def Wd.addPlan (w : Wd) (p : Plan) : Wd := { w with plans := w.plans ++ [p], moved := w.moved ++ [⟨0, 0, 0⟩] }
def Lay.addPlan (κ : Lay) : Lay := (κ.put 2 ((κ 2).1, .own)).put 8 ((κ 8).1, .own)

theorem desk_world_add_plan (hc : m.get id = some (wCells dp κ w ++ rest)) (hl : w.plans.length ≤ 1000000) (hm : w.moved.length ≤ 1000000) (x : Counted) (p : Plan) (hx : x.fact = .plan p) :
    callD C n_desk_world_add [.ptr id 0, x.av] m =
      some (if 0 ≤ planIdx w.plans p.name then (I 5, m) else (I 0, m.set id (wCells dp κ.addPlan (w.addPlan p) ++ rest))) := by
  rw [callD_env (af := a_desk_world_add) rfl rfl _ _ (by simp [a_desk_world_add])]
  have hid := mgetF hc
  have hid1 := Nat.lt_succ_of_lt hid
  have hg := fun f => (mgetB (f := f) hid).trans hc
  have hp := fun f => desk_planFact_add_eq (m := f :: m) (hg f) hl p x.by'
  have hs := fun f c => msetB (f := f) (c := c) hid
  have hmt : ∀ t, C.meth t "shotline/desk.add" = meth t "shotline/desk.add" := fun _ => rfl
  have hme : C.meth 261 "shotline/desk.add" = some n_desk_planFact_add := by kernel_rfl
  simp only [Plan.av, Person.av] at hp
  simp [-Mem.get, -Mem.set, gasesAV, legsAV, hs] at hp
  have hg2 : ∀ c, (m.set id c).get id = some c := fun c => mgetS hc
  have hid' : ∀ c, id.fr < (m.set id c).length := fun c => by rw [msetL]; exact hid
  have hg3 := fun f c => (mgetB (f := f) (hid' c)).trans (hg2 c)
  have hs3 := fun f c c' => (msetB (f := f) (c := c') (hid' c))
  have hw := fun m => desk_with_cont_eq (κ 8).1 w.moved (κ 8).2.plain (by simp) (by omega) ⟨0, 0, 0⟩ m
  simp [Cont.av] at hw
  by_cases h0 : 0 ≤ planIdx w.plans p.name
  · simp [-Mem.get, -Mem.set, a_desk_world_add, Counted.av, hx, Fact.av, Plan.av, gasesAV, legsAV, hg, wCells, hme, hp, h0]
  · simp [-Mem.get, -Mem.set, a_desk_world_add, Counted.av, hx, Fact.av, Plan.av, gasesAV, legsAV, hg, wCells, hme, hp, h0, hs, hg2, hg3, hs3, hid', hid, hid1, hw, msetS, mgetE, msetE, msetL, Lay.put, Lay.addPlan, Wd.addPlan]
    rfl

/-- The cells of a keeper. -/
def kCells (dp : AV) (κ : Lay) (w : Wd) (log : List Entry) (facts : List Counted) : List AV := wCells dp κ w ++ [sv 2 true (log.map Entry.av) .own, sv 6 true (facts.map Counted.av) .own]

set_option maxHeartbeats 1000000 in
theorem desk_keeper_fact_plan {f : DF} {h : Desk} {log : List Entry} {facts : List Counted} (hc : m.get id = some (kCells (.rptr (dCells f h)) κ w log facts)) (hl : w.plans.length ≤ 1000000) (hm : w.moved.length ≤ 1000000) (hlog : log.length ≤ 1000000) (hfs : facts.length ≤ 1000000)
    (p : Person) (tail text : Str) (ht : tail.length ≤ 1000) (hst : ∀ a, id.st ≠ [a]) :
    callD C n_desk_keeper_fact [.ptr id 0, p.av, .str [112,108,97,110], .str tail, .str text] m =
      some (if (parsePlanLine tail).2 ≠ 0 then (I (parsePlanLine tail).2, m) else if 0 ≤ planIdx w.plans (parsePlanLine tail).1.name then (I 5, m)
        else (I 0, m.set id (kCells (.rptr (dCells f h)) κ.plain.addPlan.plain (w.addPlan (parsePlanLine tail).1) log (facts ++ [⟨log.length + 1, p, [112,108,97,110], text, .plan (parsePlanLine tail).1⟩])))) := by
  rw [callD_env (af := a_desk_keeper_fact) rfl rfl _ _ (by simp [a_desk_keeper_fact])]
  have hid := mgetF hc
  have hid1 := Nat.lt_succ_of_lt hid
  have hst' : ∀ a, [a] ≠ id.st := fun a e => hst a e.symm
  have hg2 : ∀ c, (m.set id c).get id = some c := fun c => mgetS hc
  have hid' : ∀ c, id.fr < (m.set id c).length := fun c => by rw [msetL]; exact hid
  have hg3 := fun f c => (mgetB (f := f) (hid' c)).trans (hg2 c)
  have hs3 := fun f c c' => (msetB (f := f) (c := c') (hid' c))
  have hg := fun f => (mgetB (f := f) hid).trans hc
  have hs := fun f c => msetB (f := f) (c := c) hid
  have hF := fun m => desk_factOf_plan tail ht m
  obtain ⟨r, hr⟩ : ∃ r, parsePlanLine tail = r := ⟨_, rfl⟩
  rw [hr] at hF ⊢
  by_cases h0 : r.2 = 0
  · have hwl : IntKind.i64.wrap ((log.length : Int) + 1) = (log.length : Int) + 1 := IntWalk.i64_in _ (by omega)
    have hadd := desk_world_add_plan (id := ⟨m.length, [14]⟩) (m := [([14], wCells (.rptr (dCells f h)) κ.plain w), ([13], [I ((log.length : Int) + 1), .str p.name, I p.role, .str [112,108,97,110], .str text, (Fact.plan r.1).av])] :: m) (rest := []) (dp := .rptr (dCells f h)) (κ := κ.plain) (w := w)
      (by simp [Fr.get, Mem.get]) hl hm ⟨log.length + 1, p, [112,108,97,110], text, .plan r.1⟩ r.1 rfl
    simp [-Mem.get, -Mem.set, Counted.av, wCells, Lay.plain, msetE, mgetE] at hadd
    have ha := append_own1 (sz := 6) (bytes := 80) (z := true) (l := facts.map Counted.av) (v := .agg [I ((log.length : Int) + 1), .str p.name, I p.role, .str [112,108,97,110], .str text, (Fact.plan r.1).av]) (c := .exact) (by simp [room]; omega)
    by_cases h5 : 0 ≤ planIdx w.plans r.1.name
    · simp [-Mem.get, -Mem.set, a_desk_keeper_fact, Person.av, hF, h0, hg, kCells, wCells, hwl, mgetE, msetE, hadd, h5, hst, hst']
    · simp [-Mem.get, -Mem.set, a_desk_keeper_fact, Person.av, hF, h0, hg, kCells, wCells, hwl, mgetE, msetE, hadd, h5, hst, hst', hs, hg3, hs3, hid, hid1, hid', msetS, msetL, ha]
      rfl
  · have hb : (r.2 != 0) = true := by simp [h0]
    simp [-Mem.get, -Mem.set, a_desk_keeper_fact, Person.av, hF, h0, hb]

theorem idxOf_get {α : Type} {p : α → Bool} {l : List α} (h : 0 ≤ idxOf p l) : ∃ j x, idxOf p l = (j : Nat) ∧ l[j]? = some x ∧ p x = true := by
  rcases idxOf_cases p l with ⟨h1, _⟩ | ⟨j, x, h1, h2, h3, _⟩
  · omega
  · exact ⟨j, x, h1, h2, h3⟩

set_option maxHeartbeats 1000000 in
theorem desk_keeper_enter_plan {f : DF} {h : Desk} {log : List Entry} {facts : List Counted} (hc : m.get id = some (kCells (.rptr (dCells f h)) κ w log facts)) (hl : w.plans.length ≤ 1000000) (hm : w.moved.length ≤ 1000000) (hlog : log.length ≤ 1000000) (hfs : facts.length ≤ 1000000) (hpl : h.people.length ≤ 1000000)
    (x : Entry) (i : Nat) (p : Person) (hi : personIdx h.people x.by' = i) (hp : h.people[i]? = some p) (tail : Str) (hx : x.text.length ≤ 1000) (ht : tail.length ≤ 1000) (hh : deskHead p.role x.text = ([112,108,97,110], tail, 0)) (hst : ∀ a, id.st ≠ [a]) :
    callD C n_desk_keeper_enter [.ptr id 0, x.av] m =
      some (if (parsePlanLine tail).2 ≠ 0 then (I (parsePlanLine tail).2, m) else if 0 ≤ planIdx w.plans (parsePlanLine tail).1.name then (I 5, m)
        else (I 0, m.set id (kCells (.rptr (dCells f h)) κ.plain.addPlan.plain (w.addPlan (parsePlanLine tail).1) (log ++ [x]) (facts ++ [⟨log.length + 1, p, [112,108,97,110], x.text, .plan (parsePlanLine tail).1⟩])))) := by
  rw [callD_env (af := a_desk_keeper_enter) rfl rfl _ _ (by simp [a_desk_keeper_enter])]
  have hid := mgetF hc
  have hid1 := Nat.lt_succ_of_lt hid
  have hg := fun f => (mgetB (f := f) hid).trans hc
  have hs := fun f c => msetB (f := f) (c := c) hid
  have hst' : ∀ a, [a] ≠ id.st := fun a e => hst a e.symm
  have hg2 : ∀ c, (m.set id c).get id = some c := fun c => mgetS hc
  have hid' : ∀ c, id.fr < (m.set id c).length := fun c => by rw [msetL]; exact hid
  have hg3 := fun f c => (mgetB (f := f) (hid' c)).trans (hg2 c)
  have hs3 := fun f c c' => (msetB (f := f) (c := c') (hid' c))
  have hP := fun fr => desk_world_person_eq (m := fr :: m) (hg fr) hpl x.by'
  rw [hi] at hP
  have hH := fun m => desk_head_eq p x.text (by omega) m
  rw [hh] at hH
  simp only [headTup3, Person.av] at hH
  have hK := fun fr => desk_keeper_fact_plan (m := fr :: m) (hg fr) hl hm hlog hfs p tail x.text ht hst
  simp only [hs, Person.av] at hK
  have ha := append_own1 (sz := 2) (bytes := 32) (z := true) (l := log.map Entry.av) (v := .agg [.str x.by', .str x.text]) (c := .exact) (by simp [room]; omega)
  obtain ⟨r, hr⟩ : ∃ r, parsePlanLine tail = r := ⟨_, rfl⟩
  rw [hr] at hK ⊢
  by_cases h0 : r.2 = 0
  · by_cases h5 : 0 ≤ planIdx w.plans r.1.name
    · simp only [h0, h5, if_true, ne_eq, not_true_eq_false, if_false] at hK ⊢
      simp [-Mem.get, -Mem.set, a_desk_keeper_enter, Entry.av, hP, hg, hK, hH, kCells, wCells, dCells, hp, Person.av, mgetE, msetE, hst, hst']
    · simp only [h0, h5, if_true, ne_eq, not_true_eq_false, if_false] at hK ⊢
      simp [-Mem.get, -Mem.set, a_desk_keeper_enter, Entry.av, hP, hg, hK, hH, kCells, wCells, dCells, hp, Person.av, mgetE, msetE, hst, hst', hs, hg3, hs3, hid, hid1, hid', msetS, msetL, ha]
  · have hb : (r.2 != 0) = true := by simp [h0]
    have hb2 : (r.2 == 0) = false := by simp [h0]
    simp only [h0, if_true, ne_eq, not_false_eq_true] at hK ⊢
    simp [-Mem.get, -Mem.set, a_desk_keeper_enter, Entry.av, hP, hg, hK, hH, kCells, wCells, dCells, hp, Person.av, mgetE, msetE, hst, hst', h0, hb, hb2]
    intro hh; omega

end
end Go.Proofs.YtnhagbllecpkkaaGreatDoor
