/-
  New keepers; logs of plans opened.
-/
import Derived.Test.YtnhagbllecpkkaaGreatDoorG9
set_option linter.unusedSimpArgs false
set_option linter.unusedVariables false

namespace Go.Proofs.YtnhagbllecpkkaaGreatDoor
open Go Go.VA Go.DM
set_option maxRecDepth 20000

@[simp] theorem sv_ren (sz z l c) (n j : Nat) : (sv sz z l c).ren n j = sv sz z l c := by unfold sv; split <;> rfl
theorem kCells_nil (f : DF) (h : Desk) : kCells (.rptr (dCells f h)) κ0 (w0 h) [] [] = wCells (.rptr (dCells f h)) κ0 (w0 h) ++ [.nils, .nils] := by simp [kCells, sv_nil]

/-- Where a new keeper lies. -/
def newId (fr : Fr) (rest : Mem) (k : Nat) : VA.Id := ⟨rest.length, [freshKey fr, k]⟩

set_option maxHeartbeats 1000000 in
theorem desk_newKeeper_eq (f : DF) (h : Desk) (hs : ShortDesk h) (ke : Int) (hk : ∀ m, callD C n_kit_CheckSetup [.agg [sv 3 f.i.z (h.kit.items.map Item.av) f.i.c, sv 4 f.r.z (h.kit.rules.map Rule.av) f.r.c]] m = some (I ke, m)) (fr : Fr) (rest : Mem) :
    callD C n_desk_newKeeper [.agg (dCells f h)] (fr :: rest) = some (if checkDeskK ke h ≠ 0 then (.tup [.nilp, I (checkDeskK ke h)], fr :: rest)
      else (.tup [.ptr (newId fr rest 12) 0, I 0], (((newId fr rest 12).st, kCells (.rptr (dCells f h)) κ0 (w0 h) [] []) :: fr) :: rest)) := by
  rw [callD_env (af := a_desk_newKeeper) rfl rfl _ _ (by simp [a_desk_newKeeper])]
  have hc := fun m => desk_CheckDesk_eq f h hs ke hk m
  have hw := fun m => desk_newWorld_eq f h hs.1 m
  simp only [dCells] at hc hw
  by_cases h0 : checkDeskK ke h = 0
  · simp [a_desk_newKeeper, dCells, hc, hw, h0, wCells, κ0, sv_nil, sv_some, newId, leave_true, promote, AV.ren, AV.ren.rens, AV.renId, kCells, w0]
  · have hb : (checkDeskK ke h != 0) = true := by simp [h0]
    simp [a_desk_newKeeper, dCells, hc, h0, hb, leave_true]

/-- A plan entry: who made it, what stands behind its word, what is read of it. -/
structure PE where
  e : Entry
  i : Nat
  p : Person
  tail : Str
  pl : Plan
def PE.Good (h : Desk) (x : PE) : Prop := personIdx h.people x.e.by' = x.i ∧ h.people[x.i]? = some x.p ∧ x.e.text.length ≤ 1000 ∧ x.tail.length ≤ 1000 ∧ deskHead x.p.role x.e.text = ([112,108,97,110], x.tail, 0) ∧ parsePlanLine x.tail = (x.pl, 0)
/-- No plan has the name of one before it. -/
def Fresh (ps : List Plan) : List PE → Prop
  | [] => True
  | x :: r => ¬ 0 ≤ planIdx ps x.pl.name ∧ Fresh (ps ++ [x.pl]) r

theorem lay_plain (κ : Lay) : κ.plain.plain = κ.plain := by funext k; simp [Lay.plain]
theorem kCells_ren (f : DF) (h : Desk) (κ : Lay) (w : Wd) (log : List Entry) (facts : List Counted) (n j : Nat) : (kCells (.rptr (dCells f h)) κ w log facts).map (AV.ren n j) = kCells (.rptr (dCells f h)) κ w log facts := by
  simp [kCells, wCells, AV.ren]
theorem kCells_has (l : List AV) (κ : Lay) (w : Wd) (log : List Entry) (facts : List Counted) (i : VA.Id) : ((kCells (.rptr l) κ w log facts).all fun v => !v.has i) = true := by
  simp [kCells, wCells]

set_option maxHeartbeats 1000000 in
theorem desk_open_loop (f : DF) (h : Desk) (hpl : h.people.length ≤ 1000000) (T : List Entry) (V : AV) (z : Bool) (c : Cap) (hV : V = sv 2 z (T.map Entry.av) c) (hT : T.length ≤ 1000) (fr : Fr) (rest : Mem) : ∀ (R : List PE) (i : Nat) (κ : Lay) (w : Wd) (log : List Entry) (facts : List Counted), i + R.length = T.length → T.drop i = R.map PE.e → (∀ x, x ∈ R → x.Good h) → Fresh w.plans R →
    w.plans.length ≤ i → w.moved.length ≤ i → log.length ≤ i → facts.length ≤ i →
    ∃ κ' w' facts', retOf true [.tmp 4, .tmp 5, .tmp 6] (fr :: rest) (andThen (atBlock 1 (headL C l_desk_open_1 43 [(1, V), (7, .ptr ⟨rest.length + 1, [0, 12]⟩ 0), (25, V), (26, I T.length), (27, I i)] [([0, 12], kCells (.rptr (dCells f h)) κ w log facts)] (fr :: rest))) (den C t_desk_open_1)) =
      some (.tup [.ptr ⟨rest.length, [freshKey fr, 0, 12]⟩ 0, I T.length, I 0], (([freshKey fr, 0, 12], kCells (.rptr (dCells f h)) κ' w' (log ++ R.map PE.e) facts') :: fr) :: rest) ∧ w' = { w with plans := w.plans ++ R.map PE.pl, moved := w.moved ++ R.map fun _ => ⟨0, 0, 0⟩ } ∧ (κ.plain = κ → κ'.plain = κ')
  | [], i, κ, w, log, facts, hi, hd, hg, hf, a1, a2, a3, a4 => by
    have : i = T.length := by simpa using hi
    subst this
    refine ⟨κ, w, facts, ?_, by simp, id⟩
    rw [ls_desk_open_1 _ _ _ _ (by simp [hV, kCells_has])]
    simp [b_desk_open_1, hV, leave_true, promote, AV.ren, AV.ren.rens, AV.renId, kCells_ren]
  | x :: R, i, κ, w, log, facts, hi, hd, hg, hf, a1, a2, a3, a4 => by
    have hlt : i < T.length := by simp at hi; omega
    have hd2 := (List.drop_eq_getElem_cons hlt).symm.trans hd
    rw [List.map_cons] at hd2
    injection hd2 with hx hd'
    obtain ⟨g1, g2, g3, g4, g5, g6⟩ := hg x (by simp)
    have hw : IntKind.i64.wrap ((i : Int) + 1) = ((i + 1 : Nat) : Int) := by rw [IntWalk.i64_in _ (by omega)]; omega
    have hE := desk_keeper_enter_plan (id := ⟨rest.length + 1, [0, 12]⟩) (m := [([10], [.str x.e.by', .str x.e.text]), ([0, 12], kCells (.rptr (dCells f h)) κ w log facts)] :: fr :: rest) (f := f) (h := h) (κ := κ) (w := w) (log := log) (facts := facts)
      (by simp [Mem.get, Fr.get]) (by omega) (by omega) (by omega) (by omega) hpl x.e x.i x.p g1 g2 x.tail g3 g4 g5 (by simp)
    rw [g6] at hE
    simp only [ne_eq, not_true_eq_false, if_false, hf.1] at hE
    obtain ⟨κ', w', facts', k1, k2, k3⟩ := desk_open_loop f h hpl T V z c hV hT fr rest R (i + 1) κ.plain.addPlan.plain (w.addPlan x.pl) (log ++ [x.e]) (facts ++ [⟨log.length + 1, x.p, [112,108,97,110], x.e.text, .plan x.pl⟩]) (by simp at hi; omega) hd' (fun y hy => hg y (by simp [hy])) (show Fresh (w.addPlan x.pl).plans R from hf.2) (by simp [Wd.addPlan]; omega) (by simp [Wd.addPlan]; omega) (by simp; omega) (by simp; omega)
    refine ⟨κ', w', facts', ?_, by rw [k2]; simp [Wd.addPlan], fun _ => k3 (lay_plain _)⟩
    rw [ls_desk_open_1 _ _ _ _ (by simp [hV, kCells_has])]
    simp [msetE, mgetE, -Mem.get, -Mem.set, Entry.av, -t_desk_open_1] at hE k1
    simp [b_desk_open_1, hV, hlt, hx, hw, hE, Entry.av, mgetE, msetE, -Mem.get, -Mem.set, lh_desk_open_1, kCells_has, -t_desk_open_1]
    rw [hV] at k1
    simpa [-t_desk_open_1] using k1

end Go.Proofs.YtnhagbllecpkkaaGreatDoor
