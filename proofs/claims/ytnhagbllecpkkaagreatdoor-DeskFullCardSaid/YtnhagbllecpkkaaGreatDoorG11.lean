/-
  What StateOf answers of logs of plans; states copied.
-/
import Derived.Test.YtnhagbllecpkkaaGreatDoorG10
set_option linter.unusedSimpArgs false
set_option linter.unusedVariables false

namespace Go.Proofs.YtnhagbllecpkkaaGreatDoor
open Go Go.VA Go.DM
set_option maxRecDepth 20000

theorem sv_nilcap (sz : Nat) (l : List AV) (c c' : Cap) : sv sz true l (if l = [] then c' else c) = sv sz true l c := by
  by_cases h : l = []
  · subst h; simp [sv_nil]
  · rw [if_neg h]
/-- The cells of a state. -/
def sCells (κ : Lay) (w : Wd) : List AV :=
  [sv 8 (κ 0).1 (w.fills.map Fill.av) (κ 0).2, sv 6 (κ 1).1 (w.events.map Ev.av) (κ 1).2, sv 4 (κ 2).1 (w.plans.map Plan.av) (κ 2).2, sv 6 (κ 3).1 (w.dives.map Dive.av) (κ 3).2,
    sv 2 (κ 4).1 (w.recs.map DM.Rec.av) (κ 4).2, sv 2 (κ 5).1 (w.signs.map Sign.av) (κ 5).2]
def nils6 : List AV := [.nils, .nils, .nils, .nils, .nils, .nils]

section
variable {A B D S : AV} (m : Mem)

theorem clone_points (l : List Point) (hl : l.length ≤ 1000000) (m : Mem) : callD C n_slices_Clone_api_DivePoint [pointsAV l] m = some (sv 2 true (l.map Point.av) .own, m) := by
  have := callD_Clone (C := C) (F := n_slices_Clone_api_DivePoint) (sz := 2) (bytes := 16) (zero := [I 0, I 0]) rfl rfl rfl true (l.map Point.av) .unk rfl (by simp [room]; omega) m
  rw [sv_nilcap] at this
  exact this
theorem clone_strs (l : List Str) (hl : l.length ≤ 1000000) (m : Mem) : callD C n_slices_Clone_string [strsAV l] m = some (sv 1 true (l.map fun s => AV.str s) .own, m) := by
  have := callD_Clone (C := C) (F := n_slices_Clone_string) (sz := 1) (bytes := 16) (zero := [.str []]) rfl rfl rfl true (l.map fun s => AV.str s) .unk rfl (by simp [room]; omega) m
  rw [sv_nilcap] at this
  exact this
theorem clone_gases (l : List Gas) (hl : l.length ≤ 1000000) (m : Mem) : callD C n_slices_Clone_api_Gas [gasesAV l] m = some (sv 2 true (l.map Gas.av) .own, m) := by
  have := callD_Clone (C := C) (F := n_slices_Clone_api_Gas) (sz := 2) (bytes := 16) (zero := [I 0, I 0]) rfl rfl rfl true (l.map Gas.av) .unk rfl (by simp [room]; omega) m
  rw [sv_nilcap] at this
  exact this
theorem clone_legs (l : List Leg) (hl : l.length ≤ 1000000) (m : Mem) : callD C n_slices_Clone_api_DiveLeg [legsAV l] m = some (sv 3 true (l.map Leg.av) .own, m) := by
  have := callD_Clone (C := C) (F := n_slices_Clone_api_DiveLeg) (sz := 3) (bytes := 24) (zero := [I 0, I 0, I 0]) rfl rfl rfl true (l.map Leg.av) .unk rfl (by simp [room]; omega) m
  rw [sv_nilcap] at this
  exact this

/-- How a copied state is laid. -/
structure Outs where
  a : List AV
  za : Bool
  ca : Cap
  b : List AV
  zb : Bool
  cb : Cap
  s : List AV
  zs : Bool
  cs : Cap
def Outs.cells (o : Outs) (pl : List Plan) (dv : List Dive) (rc : List DM.Rec) (c : Cap) : List AV :=
  [sv 8 o.za o.a (if c = .own then o.ca else o.ca.plain), sv 6 o.zb o.b (if c = .own then o.cb else o.cb.plain), sv 4 true (pl.map Plan.av) c, sv 6 true (dv.map Dive.av) c, sv 2 true (rc.map DM.Rec.av) c, sv 2 o.zs o.s (if c = .own then o.cs else o.cs.plain)]
def cf (m : Mem) (cs : List AV) : Fr := [([3], cs), ([2], nils6)]

theorem desk_copied_1 (o : Outs) (rc : List DM.Rec) (zr : Bool) (cr : Cap) (hcr : cr.plain = cr) (hl : rc.length ≤ 1000000) (hp : ∀ x, x ∈ rc → x.points.length ≤ 1000000) (pl : List Plan) (dv : List Dive) : ∀ (k i : Nat), rc.length - i = k → i ≤ rc.length →
    retOf false [.cell true 6 2] m (andThen (atBlock 4 (headL C l_desk_copied_1 79 [(2, .ptr ⟨m.length, [2]⟩ 0), (3, .ptr ⟨m.length, [3]⟩ 0), (61, sv 2 zr (rc.map DM.Rec.av) cr), (62, I rc.length), (63, I i)] (cf m (o.cells pl dv (rc.take i) .own)) m)) (den C t_desk_copied_1)) =
      some (.agg (o.cells pl dv rc .unk), m) := by
  intro k
  induction k with
  | zero =>
    intro i hk hi
    have : i = rc.length := by omega
    subst this
    rw [List.take_length, ls_desk_copied_1 _ _ _ _ (by simp [cf, Outs.cells, nils6])]
    simp [b_desk_copied_1, cf, Outs.cells, nils6]
  | succ k ihk =>
    intro i hk hi
    have hlt : i < rc.length := by omega
    have ht : rc.take (i + 1) = rc.take i ++ [rc[i]] := List.take_succ_eq_append_getElem hlt
    have hw : IntKind.i64.wrap ((i : Int) + 1) = ((i + 1 : Nat) : Int) := by rw [IntWalk.i64_in _ (by omega)]; omega
    have ih := ihk (i + 1) (by omega) (by omega)
    have hps := hp _ (List.getElem_mem hlt)
    obtain ⟨x, hx⟩ : ∃ x, rc[i] = x := ⟨_, rfl⟩
    rw [ht, hx] at ih
    rw [hx] at hps
    have hcl := fun m => clone_points x.points hps m
    have ha := append_own1 (sz := 2) (bytes := 40) (z := true) (l := (rc.take i).map DM.Rec.av) (v := .agg [.str x.dive, sv 2 true (x.points.map Point.av) .unk]) (c := .exact) (by simp [room]; omega)
    rw [ls_desk_copied_1 _ _ _ _ (by simp [cf, Outs.cells, nils6])]
    simp only [pointsAV] at hcl
    rw [List.map_take] at ha
    simp [b_desk_copied_1, cf, Outs.cells, nils6, hlt, hx, hw, DM.Rec.av, pointsAV, hcl, ha, hcr, lh_desk_copied_1, -t_desk_copied_1] at ih ⊢
    exact ih

theorem desk_copied_2 (o : Outs) (κ : Lay) (hκ : κ.plain = κ) (w : Wd) (hl : w.recs.length ≤ 1000000) (hp : ∀ x, x ∈ w.recs → x.points.length ≤ 1000000) (hl2 : w.dives.length ≤ 1000000) (hp2 : ∀ x, x ∈ w.dives → x.vessels.length ≤ 1000000) (pl : List Plan) : ∀ (k i : Nat), w.dives.length - i = k → i ≤ w.dives.length →
    retOf false [.cell true 6 2] m (andThen (atBlock 2 (headL C l_desk_copied_2 79 [(1, .rptr (sCells κ w)), (2, .ptr ⟨m.length, [2]⟩ 0), (3, .ptr ⟨m.length, [3]⟩ 0), (43, sv 6 (κ 3).1 (w.dives.map Dive.av) (κ 3).2), (44, I w.dives.length), (45, I i)] (cf m (o.cells pl (w.dives.take i) [] .own)) m)) (den C t_desk_copied_2)) =
      some (.agg (o.cells pl w.dives w.recs .unk), m) := by
  have hk : ∀ j, (κ j).2.plain = (κ j).2 := fun j => congrArg (fun q : Lay => (q j).2) hκ
  intro k
  induction k with
  | zero =>
    intro i hk' hi
    have : i = w.dives.length := by omega
    subst this
    have h := desk_copied_1 m o w.recs (κ 4).1 (κ 4).2 (hk 4) hl hp pl w.dives _ 0 rfl (Nat.zero_le _)
    rw [List.take_zero] at h
    rw [List.take_length, ls_desk_copied_2 _ _ _ _ (by simp [cf, Outs.cells, nils6])]
    simp [cf, Outs.cells, nils6, -t_desk_copied_1] at h
    simp [b_desk_copied_2, cf, Outs.cells, nils6, sCells, lh_desk_copied_1, hk, -t_desk_copied_1]
    exact h
  | succ k ihk =>
    intro i hk' hi
    have hlt : i < w.dives.length := by omega
    have ht : w.dives.take (i + 1) = w.dives.take i ++ [w.dives[i]] := List.take_succ_eq_append_getElem hlt
    have hw : IntKind.i64.wrap ((i : Int) + 1) = ((i + 1 : Nat) : Int) := by rw [IntWalk.i64_in _ (by omega)]; omega
    have ih := ihk (i + 1) (by omega) (by omega)
    have hps := hp2 _ (List.getElem_mem hlt)
    obtain ⟨x, hx⟩ : ∃ x, w.dives[i] = x := ⟨_, rfl⟩
    rw [ht, hx] at ih
    rw [hx] at hps
    have hcl := fun m => clone_strs x.vessels hps m
    have ha := append_own1 (sz := 6) (bytes := 88) (z := true) (l := (w.dives.take i).map Dive.av) (v := .agg [.str x.name, .str x.plan, .str x.diver, I x.day, I x.sec, sv 1 true (x.vessels.map fun s => AV.str s) .unk]) (c := .exact) (by simp [room]; omega)
    rw [ls_desk_copied_2 _ _ _ _ (by simp [cf, Outs.cells, nils6])]
    simp only [strsAV] at hcl
    rw [List.map_take] at ha
    simp [b_desk_copied_2, cf, Outs.cells, nils6, hlt, hx, hw, Dive.av, strsAV, hcl, ha, hk, lh_desk_copied_2, -t_desk_copied_2] at ih ⊢
    exact ih

theorem desk_copied_3 (o : Outs) (κ : Lay) (hκ : κ.plain = κ) (w : Wd) (hl : w.recs.length ≤ 1000000) (hp : ∀ x, x ∈ w.recs → x.points.length ≤ 1000000) (hl2 : w.dives.length ≤ 1000000) (hp2 : ∀ x, x ∈ w.dives → x.vessels.length ≤ 1000000)
    (hl3 : w.plans.length ≤ 1000000) (hp3 : ∀ x, x ∈ w.plans → x.gases.length ≤ 1000000 ∧ x.legs.length ≤ 1000000) : ∀ (k i : Nat), w.plans.length - i = k → i ≤ w.plans.length →
    retOf false [.cell true 6 2] m (andThen (atBlock 0 (headL C l_desk_copied_3 79 [(1, .rptr (sCells κ w)), (2, .ptr ⟨m.length, [2]⟩ 0), (3, .ptr ⟨m.length, [3]⟩ 0), (21, sv 4 (κ 2).1 (w.plans.map Plan.av) (κ 2).2), (22, I w.plans.length), (23, I i)] (cf m (o.cells (w.plans.take i) [] [] .own)) m)) (den C t_desk_copied_3)) =
      some (.agg (o.cells w.plans w.dives w.recs .unk), m) := by
  have hk : ∀ j, (κ j).2.plain = (κ j).2 := fun j => congrArg (fun q : Lay => (q j).2) hκ
  intro k
  induction k with
  | zero =>
    intro i hk' hi
    have : i = w.plans.length := by omega
    subst this
    have h := desk_copied_2 m o κ hκ w hl hp hl2 hp2 w.plans _ 0 rfl (Nat.zero_le _)
    rw [List.take_zero] at h
    rw [List.take_length, ls_desk_copied_3 _ _ _ _ (by simp [cf, Outs.cells, nils6])]
    simp [cf, Outs.cells, nils6, sCells, -t_desk_copied_2] at h
    simp [b_desk_copied_3, cf, Outs.cells, nils6, sCells, lh_desk_copied_2, hk, -t_desk_copied_2]
    exact h
  | succ k ihk =>
    intro i hk' hi
    have hlt : i < w.plans.length := by omega
    have ht : w.plans.take (i + 1) = w.plans.take i ++ [w.plans[i]] := List.take_succ_eq_append_getElem hlt
    have hw : IntKind.i64.wrap ((i : Int) + 1) = ((i + 1 : Nat) : Int) := by rw [IntWalk.i64_in _ (by omega)]; omega
    have ih := ihk (i + 1) (by omega) (by omega)
    have hps := hp3 _ (List.getElem_mem hlt)
    obtain ⟨x, hx⟩ : ∃ x, w.plans[i] = x := ⟨_, rfl⟩
    rw [ht, hx] at ih
    rw [hx] at hps
    have hcl := fun m => clone_gases x.gases hps.1 m
    have hcl2 := fun m => clone_legs x.legs hps.2 m
    have ha := append_own1 (sz := 4) (bytes := 72) (z := true) (l := (w.plans.take i).map Plan.av) (v := .agg [.str x.name, I x.surf, sv 2 true (x.gases.map Gas.av) .unk, sv 3 true (x.legs.map Leg.av) .unk]) (c := .exact) (by simp [room]; omega)
    rw [ls_desk_copied_3 _ _ _ _ (by simp [cf, Outs.cells, nils6])]
    simp only [gasesAV] at hcl
    simp only [legsAV] at hcl2
    rw [List.map_take] at ha
    simp [b_desk_copied_3, cf, Outs.cells, nils6, hlt, hx, hw, Plan.av, gasesAV, legsAV, hcl, hcl2, ha, hk, lh_desk_copied_3, -t_desk_copied_3] at ih ⊢
    exact ih

end
end Go.Proofs.YtnhagbllecpkkaaGreatDoor
