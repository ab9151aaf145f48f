/-
  What the checks of vessels, rules, tables and plans answer.
-/
import Derived.Test.YtnhagbllecpkkaaGreatDoorG1
set_option linter.unusedSimpArgs false
set_option linter.unusedVariables false

namespace Go.Proofs.YtnhagbllecpkkaaGreatDoor
open Go Go.VA Go.DM

/-- The error of vessels, from place i on. -/
def checkVesselsFrom (all : List Vessel) : Nat → List Vessel → Int
  | _, [] => 0
  | i, x :: r => if isNameF x.name = false then 4 else if vesselF all x.name < i then 5 else if inR x.vol 1 1000000 = false ∨ inR x.most 1 400000 = false then 2 else checkVesselsFrom all (i + 1) r
def checkVessels (l : List Vessel) : Int := if 20 < l.length then 8 else checkVesselsFrom l 0 l

theorem mix_CheckVessels_loop (φ : SF) (l : List Vessel) (hl : l.length ≤ 1000) (hn : ∀ x, x ∈ l → x.name.length ≤ 1000000) (m : Mem) : ∀ (k i : Nat), l.length - i = k → i ≤ l.length →
    retOf false [.tmp 2] m (andThen (atBlock 0 (headL C l_mix_CheckVessels_1 39 [(0, sv 3 φ.z (l.map Vessel.av) φ.c), (8, sv 3 φ.z (l.map Vessel.av) φ.c), (9, I l.length), (10, I i)] [] m)) (den C t_mix_CheckVessels_1)) = some (I (checkVesselsFrom l i (l.drop i)), m)
  | k, i, hk, hi => by
    by_cases hlt : i < l.length
    · have hd : l.drop i = l[i] :: l.drop (i + 1) := List.drop_eq_getElem_cons hlt
      have hw : IntKind.i64.wrap ((i : Int) + 1) = ((i + 1 : Nat) : Int) := by rw [IntWalk.i64_in _ (by omega)]; omega
      have ih := mix_CheckVessels_loop φ l hl hn m (k - 1) (i + 1) (by omega) (by omega)
      have hN := fun m => mix_isName_eq l[i].name (hn _ (List.getElem_mem hlt)) m
      have hv := fun m => mix_vessel_eq φ l (by omega) l[i].name m
      rw [hd, ls_mix_CheckVessels_1 _ _ _ _ (by simp)]
      simp only [checkVesselsFrom]
      obtain ⟨x, hx⟩ : ∃ x, l[i] = x := ⟨_, rfl⟩
      rw [hx] at hN hv ⊢
      cases h1 : isNameF x.name <;> cases h3 : inR x.vol 1 1000000 <;> cases h4 : inR x.most 1 400000 <;> by_cases h2 : vesselF l x.name < i <;>
        simp [b_mix_CheckVessels_1, hlt, hx, hw, lh_mix_CheckVessels_1, Vessel.av, hN, hv, mix_within_eq, h1, h2, h3, h4] at ih ⊢
      all_goals exact ih
    · have : i = l.length := by omega
      subst this
      rw [List.drop_length, ls_mix_CheckVessels_1 _ _ _ _ (by simp)]
      simp [b_mix_CheckVessels_1, checkVesselsFrom]


/-- The error of the rows of a table; 'p': where the row before begins. -/
def checkRows (p : Option Int) : List ORow → Int
  | [] => 0
  | x :: r => if inR x.frm 0 4000 = false ∨ inR x.rate 0 100000 = false then 2 else if (match p with | some q => decide (x.frm ≤ q) | none => false) = true then 9 else checkRows (some x.frm) r
def XRules.av (φ : SF) (x : XRules) : AV := .agg [sv 2 φ.z (x.table.map ORow.av) φ.c, I x.least, I x.most, I x.narc, I x.dense, I x.breath, I x.emerg, I x.pause, I x.ascent]
def isBreath (n : Int) : Bool := inR n 1 100000
theorem exposure_isBreath_eq (n : Int) (m : Mem) : callD C n_exposure_isBreath [I n] m = some (.bool (isBreath n), m) := by
  rw [callD_env (af := a_exposure_isBreath) rfl rfl _ _ (by simp [a_exposure_isBreath])]
  simp [a_exposure_isBreath, exposure_within_eq, isBreath]
def checkRest (x : XRules) : Int :=
  if checkLimits x.least x.most ≠ 0 then checkLimits x.least x.most
  else if (inR x.narc 0 30000 && inR x.dense 1 100000 && isBreath x.breath && isBreath x.emerg && inR x.pause 0 3600 && inR x.ascent 1 3000) = true then 0 else 2
def checkRules (x : XRules) : Int := if 20 < x.table.length then 8 else if checkRows none x.table ≠ 0 then checkRows none x.table else checkRest x

theorem exposure_CheckRules_rest (φ : SF) (x : XRules) (e : Env) (he : VA.look e 1 = AV.rptr (XRules.av φ x).cells) (fr : Fr) (m : Mem) :
    retOf false [.tmp 2] m (den C t_exposure_CheckRules_1 ⟨tmOf 85 e, fr :: m⟩) = some (I (checkRest x), m) := by
  have hl := fun m => gas_CheckLimits_eq x.least x.most m
  simp only [XRules.av, cv_agg] at he
  by_cases h : checkLimits x.least x.most = 0
  · cases h1 : inR x.narc 0 30000 <;> simp [t_exposure_CheckRules_1, he, hl, h, exposure_within_eq, exposure_isBreath_eq, checkRest, h1]
    cases h2 : inR x.dense 1 100000 <;> simp
    cases h3 : isBreath x.breath <;> simp
    cases h4 : isBreath x.emerg <;> simp
    cases h5 : inR x.pause 0 3600 <;> simp
    cases h6 : inR x.ascent 1 3000 <;> simp
  · have hb : (checkLimits x.least x.most != 0) = true := by simp [h]
    simp [t_exposure_CheckRules_1, he, hl, h, hb, checkRest]

theorem exposure_CheckRules_loop (φ : SF) (x : XRules) (hl : x.table.length ≤ 1000) (m : Mem) : ∀ (k i : Nat), x.table.length - i = k → i ≤ x.table.length →
    retOf false [.tmp 2] m (andThen (atBlock 0 (headL C l_exposure_CheckRules_1 85 [(1, .rptr (XRules.av φ x).cells), (11, sv 2 φ.z (x.table.map ORow.av) φ.c), (12, I x.table.length), (13, I i)] [] m)) (den C t_exposure_CheckRules_1)) =
      some (I (let p := if i = 0 then none else (x.table[i - 1]?).map ORow.frm; if checkRows p (x.table.drop i) ≠ 0 then checkRows p (x.table.drop i) else checkRest x), m)
  | k, i, hk, hi => by
    by_cases hlt : i < x.table.length
    · have hd : x.table.drop i = x.table[i] :: x.table.drop (i + 1) := List.drop_eq_getElem_cons hlt
      have hw : IntKind.i64.wrap ((i : Int) + 1) = ((i + 1 : Nat) : Int) := by rw [IntWalk.i64_in _ (by omega)]; omega
      have ih := exposure_CheckRules_loop φ x hl m (k - 1) (i + 1) (by omega) (by omega)
      have hx : x.table[i + 1 - 1]? = some x.table[i] := by simp [hlt]
      rw [hx] at ih
      rw [hd, ls_exposure_CheckRules_1 _ _ _ _ (by simp)]
      obtain ⟨y, hy⟩ : ∃ y, x.table[i] = y := ⟨_, rfl⟩
      rw [hy] at ih ⊢
      cases h1 : inR y.frm 0 4000 <;> cases h2 : inR y.rate 0 100000
      all_goals (rcases Nat.eq_zero_or_pos i with h0 | h0)
      all_goals first
        | (subst h0
           simp [b_exposure_CheckRules_1, XRules.av, ORow.av, hlt, hy, hw, lh_exposure_CheckRules_1, exposure_within_eq, checkRows, h1, h2, -t_exposure_CheckRules_1] at ih ⊢)
        | (have hne : i ≠ 0 := by omega
           have h0i : (0 : Int) < i := by omega
           obtain ⟨z, hz⟩ : ∃ z, x.table[i - 1]? = some z := ⟨_, List.getElem?_eq_getElem (by omega)⟩
           have hw1 : IntKind.i64.wrap ((i : Int) - 1) = ((i - 1 : Nat) : Int) := by rw [IntWalk.i64_in _ (by omega)]; omega
           by_cases hle : y.frm ≤ z.frm <;> simp [b_exposure_CheckRules_1, XRules.av, ORow.av, hlt, hy, hw, hw1, hz, hne, h0i, h0, hle, lh_exposure_CheckRules_1, exposure_within_eq, checkRows, h1, h2, -t_exposure_CheckRules_1] at ih ⊢)
      all_goals exact ih
    · have : i = x.table.length := by omega
      subst this
      rw [List.drop_length, ls_exposure_CheckRules_1 _ _ _ _ (by simp)]
      have hr := fun e he => exposure_CheckRules_rest φ x e he [] m
      simp [b_exposure_CheckRules_1, checkRows, -t_exposure_CheckRules_1]
      exact hr _ (by simp)

theorem mix_CheckVessels_eq (φ : SF) (l : List Vessel) (hl : l.length ≤ 1000) (hn : ∀ x, x ∈ l → x.name.length ≤ 1000000) (m : Mem) : callD C n_mix_CheckVessels [sv 3 φ.z (l.map Vessel.av) φ.c] m = some (I (checkVessels l), m) := by
  rw [callD_env (af := a_mix_CheckVessels) rfl rfl _ _ (by simp [a_mix_CheckVessels])]
  have h := mix_CheckVessels_loop φ l hl hn m _ 0 rfl (Nat.zero_le _)
  rw [List.drop_zero] at h
  by_cases h20 : 20 < l.length
  · have h20i : (20 : Int) < l.length := by omega
    simp [a_mix_CheckVessels, checkVessels, h20, h20i]
  · have h20i : ¬ (20 : Int) < l.length := by omega
    simp [a_mix_CheckVessels, lh_mix_CheckVessels_1, checkVessels, h20, h20i] at h ⊢
    exact h

theorem exposure_CheckRules_eq (φ : SF) (x : XRules) (hl : x.table.length ≤ 1000) (m : Mem) : callD C n_exposure_CheckRules [XRules.av φ x] m = some (I (checkRules x), m) := by
  rw [callD_env (af := a_exposure_CheckRules) rfl rfl _ _ (by simp [a_exposure_CheckRules])]
  have h := exposure_CheckRules_loop φ x hl m _ 0 rfl (Nat.zero_le _)
  rw [List.drop_zero] at h
  by_cases h20 : 20 < x.table.length
  · have h20i : (20 : Int) < x.table.length := by omega
    simp [a_exposure_CheckRules, checkRules, XRules.av, h20, h20i]
  · have h20i : ¬ (20 : Int) < x.table.length := by omega
    simp [a_exposure_CheckRules, lh_exposure_CheckRules_1, checkRules, XRules.av, h20, h20i, -t_exposure_CheckRules_1] at h ⊢
    simpa using h

def isComp (c : Comp) : Bool := inR c.n 1 100000 && inR c.h 1 100000 && inR c.base 0 10000 && inR c.slope 1000 10000
theorem tissue_isCompartment_eq (c : Comp) (m : Mem) : callD C n_tissue_isCompartment [c.av] m = some (.bool (isComp c), m) := by
  rw [callD_env (af := a_tissue_isCompartment) rfl rfl _ _ (by simp [a_tissue_isCompartment])]
  cases h1 : inR c.n 1 100000 <;> simp [a_tissue_isCompartment, Comp.av, tissue_within_eq, isComp, h1]
  cases h2 : inR c.h 1 100000 <;> simp
  cases h3 : inR c.base 0 10000 <;> simp

def checkTableFrom : List Comp → Int
  | [] => 0
  | x :: r => if isComp x = false then 2 else checkTableFrom r
def checkTable (l : List Comp) : Int := if inR l.length 1 16 = false then 10 else checkTableFrom l
theorem tissue_CheckTable_loop (φ : SF) (l : List Comp) (hl : l.length ≤ 1000) (m : Mem) : ∀ (k i : Nat), l.length - i = k → i ≤ l.length →
    retOf false [.tmp 2] m (andThen (atBlock 0 (headL C l_tissue_CheckTable_1 19 [(9, sv 4 φ.z (l.map Comp.av) φ.c), (10, I l.length), (11, I i)] [] m)) (den C t_tissue_CheckTable_1)) = some (I (checkTableFrom (l.drop i)), m)
  | k, i, hk, hi => by
    by_cases hlt : i < l.length
    · have hd : l.drop i = l[i] :: l.drop (i + 1) := List.drop_eq_getElem_cons hlt
      have hw : IntKind.i64.wrap ((i : Int) + 1) = ((i + 1 : Nat) : Int) := by rw [IntWalk.i64_in _ (by omega)]; omega
      have ih := tissue_CheckTable_loop φ l hl m (k - 1) (i + 1) (by omega) (by omega)
      obtain ⟨x, hx⟩ : ∃ x, l[i] = x := ⟨_, rfl⟩
      have hc := fun m => tissue_isCompartment_eq x m
      simp only [Comp.av] at hc
      rw [hd, ls_tissue_CheckTable_1 _ _ _ _ (by simp), hx]
      cases h1 : isComp x <;> simp [b_tissue_CheckTable_1, Comp.av, hlt, hx, hw, hc, lh_tissue_CheckTable_1, checkTableFrom, h1] at ih ⊢
      exact ih
    · have : i = l.length := by omega
      subst this
      rw [List.drop_length, ls_tissue_CheckTable_1 _ _ _ _ (by simp)]
      simp [b_tissue_CheckTable_1, checkTableFrom]
theorem tissue_CheckTable_eq (φ : SF) (l : List Comp) (hl : l.length ≤ 1000) (m : Mem) : callD C n_tissue_CheckTable [sv 4 φ.z (l.map Comp.av) φ.c] m = some (I (checkTable l), m) := by
  rw [callD_env (af := a_tissue_CheckTable) rfl rfl _ _ (by simp [a_tissue_CheckTable])]
  have h := tissue_CheckTable_loop φ l hl m _ 0 rfl (Nat.zero_le _)
  rw [List.drop_zero] at h
  have hw := fun m => tissue_within_eq l.length 1 16 m
  cases h1 : inR l.length 1 16 <;> simp [a_tissue_CheckTable, lh_tissue_CheckTable_1, checkTable, hw, h1] at h ⊢
  exact h

end Go.Proofs.YtnhagbllecpkkaaGreatDoor
