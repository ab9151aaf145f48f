/-
  What the check of a desk answers.
-/
import Derived.Test.YtnhagbllecpkkaaGreatDoorG8
import Derived.Test.YtnhagbllecpkkaaGreatDoorG2
set_option linter.unusedSimpArgs false
set_option linter.unusedVariables false

namespace Go.Proofs.YtnhagbllecpkkaaGreatDoor
open Go Go.VA Go.DM
set_option maxRecDepth 20000

theorem sliceV_hi' (sz z l) (k : IntKind) {c : Cap} (hc : c.plain = c) {h : Nat} (hh : h < l.length) : sliceV (.slc sz) (sv sz z l c) none (some (.int k h)) none = some (sv sz false (l.take h) .unk) := by
  show slice _ _ _ _ _ = _
  rcases sv_cases sz z l c with ⟨_, e2, _⟩ | ⟨_, e⟩
  · subst e2; simp at hh
  · rw [e]
    have h1 : (h : Int) ≤ l.length := by omega
    have h2 : ¬ h = l.length := by omega
    cases c <;> simp [h1, h2, Nat.le_of_lt hh, sv]

/-- The error of people behind others. -/
def checkPeople (seen : List Person) : List Person → Int
  | [] => 0
  | x :: r => if isNameF x.name = false then 4 else if (seen.any fun y => y.name == x.name) = true then 5 else if inR x.role 1 3 = false then 15 else checkPeople (seen ++ [x]) r
def checkRest2 (h : Desk) : Int := if checkRules h.rules ≠ 0 then checkRules h.rules else checkTable h.table
/-- The error of a desk with an error of its equipment. -/
def checkDeskK (ke : Int) (h : Desk) : Int :=
  if checkVessels h.vessels ≠ 0 then checkVessels h.vessels else if ke ≠ 0 then ke else if 20 < h.people.length then 8
  else if checkPeople [] h.people ≠ 0 then checkPeople [] h.people else checkRest2 h

theorem desk_CheckDesk_c1_eq (x : Person) (s : Str) (r : AV) (id : VA.Id) (m : Mem) (hc : m.get id = some [.str s, r]) : callD C n_desk_CheckDesk_c1 [x.av, .ptr id 0] m = some (.bool (x.name == s), m) := by
  rw [callD_env (af := a_desk_CheckDesk_c1) rfl rfl _ _ (by simp [a_desk_CheckDesk_c1])]
  have hid := mgetF hc
  have hg := fun f => (mgetB (f := f) hid).trans hc
  simp [-Mem.get, a_desk_CheckDesk_c1, Person.av, hg]

/-- Names that can be looked at. -/
def ShortDesk (h : Desk) : Prop := h.vessels.length ≤ 1000 ∧ (∀ x, x ∈ h.vessels → x.name.length ≤ 1000000) ∧ h.people.length ≤ 1000 ∧ (∀ x, x ∈ h.people → x.name.length ≤ 1000000) ∧ h.rules.table.length ≤ 1000 ∧ h.table.length ≤ 1000

theorem desk_CheckDesk_rest (f : DF) (h : Desk) (hs : ShortDesk h) (e : Env) (he : VA.look e 1 = AV.rptr (dCells f h)) (fr : Fr) (m : Mem) :
    retOf false [.tmp 2] m (den C t_desk_CheckDesk_1 ⟨tmOf 59 e, fr :: m⟩) = some (I (checkRest2 h), m) := by
  obtain ⟨_, _, _, _, h5, h6⟩ := hs
  have hr := fun m => exposure_CheckRules_eq f.o h.rules h5 m
  have ht := fun m => tissue_CheckTable_eq f.t h.table h6 m
  simp only [XRules.av] at hr
  simp only [dCells] at he
  by_cases h0 : checkRules h.rules = 0
  · simp [he, hr, ht, h0, checkRest2]
  · have hb : (checkRules h.rules != 0) = true := by simp [h0]
    simp [he, hr, ht, h0, hb, checkRest2]

set_option maxHeartbeats 1000000 in
theorem desk_CheckDesk_loop (f : DF) (h : Desk) (hs : ShortDesk h) (m : Mem) : ∀ (k i : Nat), h.people.length - i = k → i ≤ h.people.length →
    retOf false [.tmp 2] m (andThen (atBlock 0 (headL C l_desk_CheckDesk_1 59 [(1, .rptr (dCells f h)), (25, sv 2 f.p.z (h.people.map Person.av) f.p.c), (26, I h.people.length), (27, I i)] [] m)) (den C t_desk_CheckDesk_1)) =
      some (I (if checkPeople (h.people.take i) (h.people.drop i) ≠ 0 then checkPeople (h.people.take i) (h.people.drop i) else checkRest2 h), m) := by
  intro k
  induction k with
  | zero =>
    intro i hk hi
    have : i = h.people.length := by omega
    subst this
    have hr := fun e he => desk_CheckDesk_rest f h hs e he [] m
    rw [List.drop_length, ls_desk_CheckDesk_1 _ _ _ _ (by simp)]
    simp [b_desk_CheckDesk_1, checkPeople, -t_desk_CheckDesk_1]
    exact hr _ (by simp)
  | succ k ihk =>
    intro i hk hi
    have hlt : i < h.people.length := by omega
    have hd : h.people.drop i = h.people[i] :: h.people.drop (i + 1) := List.drop_eq_getElem_cons hlt
    have ht : h.people.take (i + 1) = h.people.take i ++ [h.people[i]] := List.take_succ_eq_append_getElem hlt
    have hp := hs.2.2.1
    have hw : IntKind.i64.wrap ((i : Int) + 1) = ((i + 1 : Nat) : Int) := by rw [IntWalk.i64_in _ (by omega)]; omega
    have ih := ihk (i + 1) (by omega) (by omega)
    have hN := fun m => desk_isName_eq h.people[i].name (hs.2.2.2.1 _ (List.getElem_mem hlt)) m
    obtain ⟨x, hx⟩ : ∃ x, h.people[i] = x := ⟨_, rfl⟩
    rw [ht, hx] at ih
    rw [hx] at hN
    rw [hd, ls_desk_CheckDesk_1 _ _ _ _ (by simp), hx]
    simp only [checkPeople]
    have hsl := sliceV_hi' 2 f.p.z (h.people.map Person.av) .i64 f.p.hc (h := i) (by simpa using hlt)
    rw [← List.map_take] at hsl
    have hC := fun fr => callD_ContainsFuncAt (C := C) (F := n_slices_ContainsFunc_api_DeskPerson) (g := n_slices_IndexFunc_api_DeskPerson) rfl rfl rfl (p := fun y : Person => y.name == x.name) (l := h.people.take i) (x := sv 2 false ((h.people.take i).map Person.av) .unk) (y := .fn n_desk_CheckDesk_c1 [.ptr ⟨m.length, [6]⟩ 0]) (by simp) rfl ((([6], [.str x.name, I x.role]) :: fr) :: m)
      (callD_IndexFuncAt (C := C) (F := n_slices_IndexFunc_api_DeskPerson) rfl rfl rfl Person.av person_av (h.people.take i) (by simp; omega) (fun y => y.name == x.name) n_desk_CheckDesk_c1 [.ptr ⟨m.length, [6]⟩ 0] rfl _ .unk rfl _ (fun y _ => desk_CheckDesk_c1_eq y x.name (I x.role) ⟨m.length, [6]⟩ _ (by simp [Mem.get, Fr.get]; omega)))
    rcases Bool.eq_false_or_eq_true (isNameF x.name) with h1 | h1 <;> rcases Bool.eq_false_or_eq_true (inR x.role 1 3) with h3 | h3 <;> rcases Bool.eq_false_or_eq_true ((h.people.take i).any fun y => y.name == x.name) with h2 | h2
    all_goals simp only [h1, h2, h3, List.map_take] at hC ⊢
    all_goals simp [b_desk_CheckDesk_1, hlt, hx, hw, Person.av, dCells, hN, hsl, hC, h1, h2, h3, desk_within_eq, lh_desk_CheckDesk_1, -t_desk_CheckDesk_1, -List.any_eq_true, -List.any_eq_false] at ih ⊢
    all_goals exact ih

/-- A desk's value. -/
def Desk.av (f : DF) (h : Desk) : AV := .agg (dCells f h)

theorem desk_CheckDesk_eq (f : DF) (h : Desk) (hs : ShortDesk h) (ke : Int) (hk : ∀ m, callD C n_kit_CheckSetup [.agg [sv 3 f.i.z (h.kit.items.map Item.av) f.i.c, sv 4 f.r.z (h.kit.rules.map Rule.av) f.r.c]] m = some (I ke, m)) (m : Mem) :
    callD C n_desk_CheckDesk [.agg (dCells f h)] m = some (I (checkDeskK ke h), m) := by
  rw [callD_env (af := a_desk_CheckDesk) rfl rfl _ _ (by simp [a_desk_CheckDesk])]
  have hv := fun m => mix_CheckVessels_eq f.v h.vessels hs.1 hs.2.1 m
  have hl := desk_CheckDesk_loop f h hs m _ 0 rfl (Nat.zero_le _)
  rw [List.drop_zero, List.take_zero] at hl
  unfold checkDeskK
  by_cases h1 : checkVessels h.vessels = 0
  · by_cases h2 : ke = 0
    · by_cases h20 : 20 < h.people.length
      · have h20i : (20 : Int) < h.people.length := by omega
        simp [a_desk_CheckDesk, dCells, hv, hk, h1, h2, h20, h20i]
      · have h20i : ¬ (20 : Int) < h.people.length := by omega
        simp [dCells, -t_desk_CheckDesk_1] at hl
        simp [a_desk_CheckDesk, dCells, hv, hk, h1, h2, h20, h20i, lh_desk_CheckDesk_1, -t_desk_CheckDesk_1]
        exact hl
    · have hb : (ke != 0) = true := by simp [h2]
      simp [a_desk_CheckDesk, dCells, hv, hk, h1, h2, hb]
  · have hb : (checkVessels h.vessels != 0) = true := by simp [h1]
    simp [a_desk_CheckDesk, dCells, hv, h1, hb]

theorem kit_CheckSetup_nil (m : Mem) : callD C n_kit_CheckSetup [.agg [.nils, .nils]] m = some (I 0, m) := by
  rw [callD_env (af := a_kit_CheckSetup) rfl rfl _ _ (by simp [a_kit_CheckSetup])]
  simp [a_kit_CheckSetup, lh_kit_CheckSetup_2, lh_kit_CheckSetup_1]
  rw [ls_kit_CheckSetup_2 _ _ _ _ (by simp)]
  simp [b_kit_CheckSetup_2, lh_kit_CheckSetup_1]
  rw [ls_kit_CheckSetup_1 _ _ _ _ (by simp)]
  simp [b_kit_CheckSetup_1]

/-- The world without facts. -/
def w0 (h : Desk) : Wd := ⟨[], [], [], [], [], [], List.replicate h.vessels.length ⟨0, 0, 0⟩, [], [], ⟨0, 0, 0⟩, ⟨0, 0, 0⟩⟩
def κ0 : Lay := fun k => if k = 6 then (false, .exact) else (true, .unk)
theorem desk_newWorld_eq (f : DF) (h : Desk) (hl : h.vessels.length ≤ 1000) (m : Mem) : callD C n_desk_newWorld [.rptr (dCells f h)] m = some (.agg (wCells (.rptr (dCells f h)) κ0 (w0 h)), m) := by
  rw [callD_env (af := a_desk_newWorld) rfl rfl _ _ (by simp [a_desk_newWorld])]
  have hr : (h.vessels.length : Int) * 24 ≤ room := by simp [room]; omega
  simp [a_desk_newWorld, dCells, hr, wCells, κ0, w0, sv_nil, sv_some, Cont.av]

end Go.Proofs.YtnhagbllecpkkaaGreatDoor
