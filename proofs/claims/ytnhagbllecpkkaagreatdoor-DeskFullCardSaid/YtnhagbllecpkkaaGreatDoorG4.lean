/-
  What the checks of plans answer, and their ends.
-/
import Derived.Test.YtnhagbllecpkkaaGreatDoorG1
set_option linter.unusedSimpArgs false
set_option linter.unusedVariables false

namespace Go.Proofs.YtnhagbllecpkkaaGreatDoor
open Go Go.VA Go.DM
set_option maxRecDepth 20000

def checkGases : List Gas → Int
  | [] => 0
  | x :: r => if checkGas x = 0 then checkGases r else checkGas x
/-- The number of the first wrong leg and its error, from leg i on, which begins at e. -/
def checkLegs (ng : Int) : Nat → Int → List Leg → Int × Int
  | _, _, [] => (0, 0)
  | i, e, x :: r => if inR x.sec 1 1000000 = false ∨ inR x.depth 0 30000 = false then (i, 2) else if inR x.gas 0 (ng - 1) = false then (i, 6)
    else if 1000000 < e + x.sec then (i, 8) else checkLegs ng (i + 1) (e + x.sec) r
def checkPlan (p : Plan) : Int × Int :=
  if isNameF p.name = false then (0, 4) else if inR p.surf 400 1100 = false then (0, 2) else if p.gases.length = 0 then (0, 10) else if 8 < p.gases.length then (0, 8)
  else if checkGases p.gases ≠ 0 then (0, checkGases p.gases) else if 60 < p.legs.length then (0, 8) else checkLegs p.gases.length 0 0 p.legs
def pairT (x : Int × Int) : AV := .tup [I x.1, I x.2]

theorem inR_true {n lo hi : Int} : inR n lo hi = true ↔ lo ≤ n ∧ n ≤ hi := by simp [inR]

theorem profile_CheckPlan_legs (p : Plan) (hl : p.legs.length ≤ 1000) (hg : p.gases.length ≤ 1000) (m : Mem) : ∀ (k i : Nat) (e : Int), p.legs.length - i = k → i ≤ p.legs.length → 0 ≤ e → e ≤ 1000000 →
    retOf false [.tmp 2, .tmp 3] m (andThen (atBlock 3 (headL C l_profile_CheckPlan_1 85 [(1, .rptr [.str p.name, I p.surf, gasesAV p.gases, legsAV p.legs]), (7, I e), (48, legsAV p.legs), (49, I p.legs.length), (50, I i)] [] m)) (den C t_profile_CheckPlan_1)) =
      some (pairT (checkLegs p.gases.length i e (p.legs.drop i)), m)
  | k, i, e, hk, hi, he0, he1 => by
    by_cases hlt : i < p.legs.length
    · have hd : p.legs.drop i = p.legs[i] :: p.legs.drop (i + 1) := List.drop_eq_getElem_cons hlt
      have hw : IntKind.i64.wrap ((i : Int) + 1) = ((i + 1 : Nat) : Int) := by rw [IntWalk.i64_in _ (by omega)]; omega
      have hw2 : IntKind.i64.wrap ((p.gases.length : Int) - 1) = (p.gases.length : Int) - 1 := IntWalk.i64_in _ (by omega)
      obtain ⟨x, hx⟩ : ∃ x, p.legs[i] = x := ⟨_, rfl⟩
      rw [hd, ls_profile_CheckPlan_1 _ _ _ _ (by simp [legsAV, gasesAV]), hx]
      cases h1 : inR x.sec 1 1000000 <;> cases h2 : inR x.depth 0 30000 <;> cases h3 : inR x.gas 0 ((p.gases.length : Int) - 1)
      case true.true.true =>
        have hs := inR_true.1 h1
        have hw3 : IntKind.i64.wrap (e + x.sec) = e + x.sec := IntWalk.i64_in _ (by omega)
        by_cases h4 : 1000000 < e + x.sec
        · simp [b_profile_CheckPlan_1, hlt, hx, Leg.av, legsAV, gasesAV, hw, hw2, hw3, profile_within_eq, checkLegs, h1, h2, h3, h4, pairT]
        · have ih := profile_CheckPlan_legs p hl hg m (k - 1) (i + 1) (e + x.sec) (by omega) (by omega) (by omega) (by omega)
          simp [b_profile_CheckPlan_1, hlt, hx, Leg.av, legsAV, gasesAV, hw, hw2, hw3, profile_within_eq, checkLegs, h1, h2, h3, h4, pairT, lh_profile_CheckPlan_1] at ih ⊢
          exact ih
      all_goals simp [b_profile_CheckPlan_1, hlt, hx, Leg.av, legsAV, gasesAV, hw, hw2, profile_within_eq, checkLegs, h1, h2, h3, pairT]
    · have : i = p.legs.length := by omega
      subst this
      rw [List.drop_length, ls_profile_CheckPlan_1 _ _ _ _ (by simp [legsAV, gasesAV])]
      simp [b_profile_CheckPlan_1, checkLegs, pairT]

theorem profile_CheckPlan_gases (p : Plan) (hl : p.legs.length ≤ 1000) (hg : p.gases.length ≤ 1000) (m : Mem) : ∀ (k i : Nat), p.gases.length - i = k → i ≤ p.gases.length →
    retOf false [.tmp 2, .tmp 3] m (andThen (atBlock 1 (headL C l_profile_CheckPlan_2 85 [(1, .rptr [.str p.name, I p.surf, gasesAV p.gases, legsAV p.legs]), (31, gasesAV p.gases), (32, I p.gases.length), (33, I i)] [] m)) (den C t_profile_CheckPlan_2)) =
      some (pairT (if checkGases (p.gases.drop i) ≠ 0 then (0, checkGases (p.gases.drop i)) else if 60 < p.legs.length then (0, 8) else checkLegs p.gases.length 0 0 p.legs), m)
  | k, i, hk, hi => by
    by_cases hlt : i < p.gases.length
    · have hd : p.gases.drop i = p.gases[i] :: p.gases.drop (i + 1) := List.drop_eq_getElem_cons hlt
      have hw : IntKind.i64.wrap ((i : Int) + 1) = ((i + 1 : Nat) : Int) := by rw [IntWalk.i64_in _ (by omega)]; omega
      have ih := profile_CheckPlan_gases p hl hg m (k - 1) (i + 1) (by omega) (by omega)
      obtain ⟨x, hx⟩ : ∃ x, p.gases[i] = x := ⟨_, rfl⟩
      have hc := fun m => gas_CheckGas_eq x m
      simp only [Gas.av] at hc
      rw [hd, ls_profile_CheckPlan_2 _ _ _ _ (by simp [legsAV, gasesAV]), hx]
      by_cases h1 : checkGas x = 0
      · simp [b_profile_CheckPlan_2, hlt, hx, Gas.av, legsAV, gasesAV, hw, hc, checkGases, h1, lh_profile_CheckPlan_2, -t_profile_CheckPlan_2] at ih ⊢
        exact ih
      · have hb : (checkGas x != 0) = true := by simp [h1]
        simp [b_profile_CheckPlan_2, hlt, hx, Gas.av, legsAV, gasesAV, hw, hc, checkGases, h1, hb, pairT, -t_profile_CheckPlan_2]
    · have : i = p.gases.length := by omega
      subst this
      have h := profile_CheckPlan_legs p hl hg m _ 0 0 rfl (Nat.zero_le _) (by omega) (by omega)
      rw [List.drop_zero] at h
      rw [List.drop_length, ls_profile_CheckPlan_2 _ _ _ _ (by simp [legsAV, gasesAV])]
      by_cases h60 : 60 < p.legs.length
      · have h60i : (60 : Int) < p.legs.length := by omega
        simp [b_profile_CheckPlan_2, checkGases, pairT, legsAV, gasesAV, h60, h60i]
      · have h60i : ¬ (60 : Int) < p.legs.length := by omega
        simp [b_profile_CheckPlan_2, checkGases, pairT, legsAV, gasesAV, h60, h60i, lh_profile_CheckPlan_1] at h ⊢
        exact h

theorem profile_CheckPlan_eq (p : Plan) (hn : p.name.length ≤ 1000000) (hl : p.legs.length ≤ 1000) (hg : p.gases.length ≤ 1000) (m : Mem) : callD C n_profile_CheckPlan [p.av] m = some (pairT (checkPlan p), m) := by
  rw [callD_env (af := a_profile_CheckPlan) rfl rfl _ _ (by simp [a_profile_CheckPlan])]
  have h := profile_CheckPlan_gases p hl hg m _ 0 rfl (Nat.zero_le _)
  rw [List.drop_zero] at h
  have hN := fun m => profile_isName_eq p.name hn m
  have hi := fun m => profile_within_eq p.surf 400 1100 m
  unfold checkPlan
  cases h1 : isNameF p.name <;> cases h2 : inR p.surf 400 1100
  case true.true =>
    by_cases h3 : p.gases.length = 0
    · simp [a_profile_CheckPlan, Plan.av, legsAV, gasesAV, hN, hi, h1, h2, h3, pairT]
    have h3b : ((p.gases.length : Int) == 0) = false := by rw [beq_eq_false_iff_ne]; omega
    by_cases h8 : 8 < p.gases.length
    · have h8i : (8 : Int) < p.gases.length := by omega
      simp [a_profile_CheckPlan, Plan.av, legsAV, gasesAV, hN, hi, h1, h2, h3, h3b, h8, h8i, pairT]
    · have h8i : ¬ (8 : Int) < p.gases.length := by omega
      simp [a_profile_CheckPlan, Plan.av, legsAV, gasesAV, hN, hi, h1, h2, h3, h3b, h8, h8i, lh_profile_CheckPlan_2, -t_profile_CheckPlan_2] at h ⊢
      exact h
  all_goals simp [a_profile_CheckPlan, Plan.av, legsAV, gasesAV, hN, hi, h1, h2, pairT]

/-- The error of a plan alone. -/
def planErr (p : Plan) : Int := (checkPlan p).2
theorem profile_check_eq (p : Plan) (hn : p.name.length ≤ 1000000) (hl : p.legs.length ≤ 1000) (hg : p.gases.length ≤ 1000) (m : Mem) : callD C n_profile_check [.slc 4 [p.av] .exact] m = some (I (planErr p), m) := by
  rw [callD_env (af := a_profile_check) rfl rfl _ _ (by simp [a_profile_check])]
  have h := fun m => profile_CheckPlan_eq p hn hl hg m
  simp only [Plan.av, pairT] at h
  by_cases h0 : (checkPlan p).2 = 0
  · rw [h0] at h
    simp [a_profile_check, lh_profile_check_1, Plan.av]
    rw [ls_profile_check_1 _ _ _ _ (by simp [legsAV, gasesAV])]
    simp [legsAV, gasesAV] at h
    simp [b_profile_check_1, h, h0, legsAV, gasesAV, lh_profile_check_1]
    rw [ls_profile_check_1 _ _ _ _ (by simp [legsAV, gasesAV])]
    simp [b_profile_check_1, planErr, h0]
  · have hb : ((checkPlan p).2 != 0) = true := by simp [h0]
    simp [a_profile_check, lh_profile_check_1, Plan.av]
    rw [ls_profile_check_1 _ _ _ _ (by simp [legsAV, gasesAV])]
    simp [legsAV, gasesAV] at h
    simp [b_profile_check_1, h, hb, legsAV, gasesAV, planErr]

/-- The points of a plan. -/
def trackFrom (s : Int) : List Leg → List Point
  | [] => []
  | x :: r => ⟨s + x.sec, x.depth⟩ :: trackFrom (s + x.sec) r
def trackOf (p : Plan) : List Point := ⟨0, 0⟩ :: trackFrom 0 p.legs
def legsEnd (s : Int) : List Leg → Int
  | [] => s
  | x :: r => legsEnd (s + x.sec) r
def planEnd (p : Plan) : Int := legsEnd 0 p.legs

theorem append_any1 {sz bytes : Nat} {z : Bool} {l : List AV} {v : AV} {c c' : Cap} (hc : c ≠ .unk) (hr : (l.length + 1) * bytes ≤ room) :
    append sz bytes (sv sz z l c) (.slc sz [v] c') = some (sv sz z (l ++ [v]) .own) := by
  cases c with
  | unk => exact absurd rfl hc
  | exact => exact append_exact1 hr
  | own => exact append_own1 hr


theorem profile_trackOf_loop (legs : List Leg) (P : AV) (hP : P = legsAV legs) (hl : legs.length ≤ 1000) (hs : ∀ x, x ∈ legs → 0 ≤ x.sec ∧ x.sec ≤ 1000000) (m : Mem) : ∀ (k i : Nat) (e : Int) (out : List Point) (q : Point) (c : Cap), c ≠ .unk → legs.length - i = k → i ≤ legs.length → 0 ≤ e → e ≤ i * 1000000 → out.length = i → q.sec = e →
    retOf false [.tmp 2] m (andThen (atBlock 0 (headL C l_profile_trackOf_1 33 [(3, sv 2 false ((out ++ [q]).map Point.av) c), (9, P), (10, I legs.length), (11, I i)] [] m)) (den C t_profile_trackOf_1)) =
      some (sv 2 false ((out ++ [q] ++ trackFrom e (legs.drop i)).map Point.av) (if i < legs.length then .own else c), m) :=
  by
  intro k
  induction k with
  | zero =>
    intro i e out q c hc hk hi he0 he1 ho hq
    have : i = legs.length := by omega
    subst this
    rw [List.drop_length, ls_profile_trackOf_1 _ _ _ _ (by simp [hP, legsAV])]
    simp [b_profile_trackOf_1, trackFrom]
  | succ k ihk =>
    intro i e out q c hc hk hi he0 he1 ho hq
    have hlt : i < legs.length := by omega
    have hd : legs.drop i = legs[i] :: legs.drop (i + 1) := List.drop_eq_getElem_cons hlt
    have hw : IntKind.i64.wrap ((i : Int) + 1) = ((i + 1 : Nat) : Int) := by rw [IntWalk.i64_in _ (by omega)]; omega
    have hsx := hs _ (List.getElem_mem hlt)
    obtain ⟨x, hx⟩ : ∃ x, legs[i] = x := ⟨_, rfl⟩
    rw [hx] at hsx
    have ih := ihk (i + 1) (e + x.sec) (out ++ [q]) ⟨e + x.sec, x.depth⟩ .own (by simp) (by omega) (by omega) (by omega) (by omega) (by simp; omega) rfl
    have hw2 : IntKind.i64.wrap (e + x.sec) = e + x.sec := IntWalk.i64_in _ (by omega)
    have hlen : (out.length : Int) + 1 - 1 = out.length := by omega
    have hw4 : IntKind.i64.wrap (out.length : Int) = out.length := IntWalk.i64_in _ (by omega)
    have hlast : (List.map Point.av out ++ [AV.agg [I e, I q.depth]])[out.length]? = some (.agg [I e, I q.depth]) := by simp
    have ha := fun c' => append_any1 (sz := 2) (bytes := 16) (z := false) (l := List.map Point.av out ++ [AV.agg [I e, I q.depth]]) (v := .agg [I (e + x.sec), I x.depth]) (c' := c') hc (by simp [room]; omega)
    have hif : (if i + 1 < legs.length then Cap.own else Cap.own) = .own := by split <;> rfl
    rw [hif] at ih
    rw [hd, ls_profile_trackOf_1 _ _ _ _ (by simp [hP, legsAV]), hx]
    simp [b_profile_trackOf_1, hP, hlt, hx, Leg.av, legsAV, hw, hw2, hw4, hlen, hlast, ha, hq, hlt, lh_profile_trackOf_1, trackFrom, Point.av] at ih ⊢
    exact ih

/-- Legs within their bounds. -/
def LegsOk (l : List Leg) : Prop := l.length ≤ 1000 ∧ ∀ x, x ∈ l → 0 ≤ x.sec ∧ x.sec ≤ 1000000

theorem profile_trackOf_eq (p : Plan) (h : LegsOk p.legs) (m : Mem) : callD C n_profile_trackOf [p.av] m = some (sv 2 false ((trackOf p).map Point.av) (if 0 < p.legs.length then .own else .exact), m) := by
  rw [callD_env (af := a_profile_trackOf) rfl rfl _ _ (by simp [a_profile_trackOf])]
  have hh := profile_trackOf_loop p.legs _ rfl h.1 h.2 m _ 0 0 [] ⟨0, 0⟩ .exact (by simp) rfl (Nat.zero_le _) (by omega) (by omega) rfl rfl
  rw [List.drop_zero] at hh
  simp [Point.av, legsAV] at hh
  simp [a_profile_trackOf, Plan.av, legsAV, gasesAV, lh_profile_trackOf_1, trackOf, slc_sv, Point.av]
  exact hh

theorem legsEnd_track : ∀ (l : List Leg) (s : Int) (q : Point), q.sec = s → ∃ d, (q :: trackFrom s l)[l.length]? = some ⟨legsEnd s l, d⟩
  | [], s, q, h => ⟨q.depth, by simp [trackFrom, legsEnd, ← h]⟩
  | x :: r, s, q, h => by
    obtain ⟨d, hd⟩ := legsEnd_track r (s + x.sec) ⟨s + x.sec, x.depth⟩ rfl
    exact ⟨d, by simpa [trackFrom, legsEnd] using hd⟩
theorem trackFrom_length : ∀ (l : List Leg) (s : Int), (trackFrom s l).length = l.length
  | [], _ => rfl
  | x :: r, s => by simp [trackFrom, trackFrom_length r]

theorem profile_track_end_eq (p : Plan) (h : LegsOk p.legs) (c : Cap) (hc : c.plain = c) (m : Mem) : callD C n_profile_track_end [sv 2 false ((trackOf p).map Point.av) c] m = some (I (planEnd p), m) := by
  rw [callD_env (af := a_profile_track_end) rfl rfl _ _ (by simp [a_profile_track_end])]
  obtain ⟨d, hd⟩ := legsEnd_track p.legs 0 ⟨0, 0⟩ rfl
  have hl : (trackOf p).length = p.legs.length + 1 := by simp [trackOf, trackFrom_length]
  have h1 := h.1
  have hw : IntKind.i64.wrap ((p.legs.length : Int) + 1 - 1) = p.legs.length := by rw [IntWalk.i64_in _ (by omega)]; omega
  have hd' : (trackOf p)[p.legs.length]? = some ⟨planEnd p, d⟩ := hd
  have hw2 : (p.legs.length : Int) + 1 - 1 = p.legs.length := by omega
  have hw3 : IntKind.i64.wrap (p.legs.length : Int) = p.legs.length := IntWalk.i64_in _ (by omega)
  simp [a_profile_track_end, hc, hl, hw, hw2, hw3, hd', Point.av]
  obtain ⟨_, e⟩ := List.getElem?_eq_some_iff.1 hd'
  rw [e]

/-- The end of a plan, or its error. -/
def planSeconds (p : Plan) : Int × Int := if planErr p ≠ 0 then (0, planErr p) else (planEnd p, 0)
theorem legs_ok : ∀ (l : List Leg) (ng : Int) (i : Nat) (e : Int), (checkLegs ng i e l).2 = 0 → ∀ x, x ∈ l → (1 ≤ x.sec ∧ x.sec ≤ 1000000) ∧ (0 ≤ x.depth ∧ x.depth ≤ 30000) ∧ 0 ≤ x.gas ∧ x.gas ≤ ng - 1
  | [], _, _, _, _ => by simp
  | y :: r, ng, i, e, h => by
    unfold checkLegs at h
    split at h
    · simp at h
    rename_i h1
    split at h
    · simp at h
    rename_i h2
    split at h
    · simp at h
    have hr := legs_ok r ng (i + 1) (e + y.sec) h
    simp only [not_or, Bool.not_eq_false] at h1
    have a := inR_true.1 h1.1
    have b := inR_true.1 h1.2
    have c := inR_true.1 (by simpa using h2 : inR y.gas 0 (ng - 1) = true)
    intro x hx
    rcases List.mem_cons.1 hx with rfl | hx
    · exact ⟨a, b, c⟩
    · exact hr x hx
theorem plan_ok {p : Plan} (h : planErr p = 0) : isNameF p.name = true ∧ (400 ≤ p.surf ∧ p.surf ≤ 1100) ∧ 0 < p.gases.length ∧ p.gases.length ≤ 8 ∧ checkGases p.gases = 0 ∧ p.legs.length ≤ 60 ∧ (checkLegs p.gases.length 0 0 p.legs).2 = 0 := by
  unfold planErr checkPlan at h
  split at h
  · simp at h
  rename_i h1
  split at h
  · simp at h
  rename_i h2
  split at h
  · simp at h
  rename_i h3
  split at h
  · simp at h
  rename_i h4
  split at h
  · rename_i h5; exact absurd h h5
  rename_i h5
  split at h
  · simp at h
  rename_i h6
  exact ⟨by simpa using h1, inR_true.1 (by simpa using h2), by omega, by omega, by simpa using h5, by omega, h⟩
theorem plan_legs {p : Plan} (h : planErr p = 0) : LegsOk p.legs := by
  obtain ⟨_, _, _, _, _, h6, h7⟩ := plan_ok h
  exact ⟨by omega, fun x hx => by have := (legs_ok _ _ _ _ h7 x hx).1; omega⟩

theorem profile_PlanSeconds_eq (p : Plan) (hn : p.name.length ≤ 1000000) (hl : p.legs.length ≤ 1000) (hg : p.gases.length ≤ 1000) (m : Mem) : callD C n_profile_PlanSeconds [p.av] m = some (pairT (planSeconds p), m) := by
  rw [callD_env (af := a_profile_PlanSeconds) rfl rfl _ _ (by simp [a_profile_PlanSeconds])]
  have hc := fun m => profile_check_eq p hn hl hg m
  unfold planSeconds
  by_cases h0 : planErr p = 0
  · have ht := fun m => profile_trackOf_eq p (plan_legs h0) m
    have he := fun c hc m => profile_track_end_eq p (plan_legs h0) c hc m
    have hcap : (if 0 < p.legs.length then Cap.own else Cap.exact).plain.plain = (if 0 < p.legs.length then Cap.own else Cap.exact).plain := by simp
    have he' := fun m => he _ hcap m
    simp only [Plan.av] at hc ht
    simp [legsAV, gasesAV] at hc ht
    simp [a_profile_PlanSeconds, Plan.av, legsAV, gasesAV, hc, ht, he', h0, pairT]
  · have hb : (planErr p != 0) = true := by simp [h0]
    simp only [Plan.av] at hc
    simp [legsAV, gasesAV] at hc
    simp [a_profile_PlanSeconds, Plan.av, legsAV, gasesAV, hc, h0, hb, pairT]

end Go.Proofs.YtnhagbllecpkkaaGreatDoor
