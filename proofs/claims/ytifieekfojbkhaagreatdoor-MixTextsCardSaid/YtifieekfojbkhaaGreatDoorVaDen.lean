/-
  The abstract machine without fuel: the limit, and its equations.
-/
import Derived.Test.YtifieekfojbkhaaGreatDoorVaDef
set_option linter.unusedSimpArgs false
set_option linter.unusedVariables false
namespace Go.VA
open Go

abbrev Rec := ACode → St → Option (Ex × St)
def Le (f g : Rec) : Prop := ∀ c σ r, f c σ = some r → g c σ = some r
def LeC (f g : CallF) : Prop := ∀ fn args mem r, f fn args mem = some r → g fn args mem = some r

section
variable {C : Ctx} {f g : Rec} {c c' : CallF}

theorem callWith_mono (h : Le f g) : LeC (callWith C f) (callWith C g) := by
  intro fn args mem r he
  unfold callWith at he ⊢
  split at he
  · exact he
  · split at he
    · cases he
    · split at he
      · rename_i σ hr; rw [h _ _ _ hr]; exact he
      · rename_i σ hr; rw [h _ _ _ hr]; exact he
      · cases he

theorem evAny_mono (h : LeC c c') {mem d ρ op r} (he : evAny C c mem d ρ op = some r) : evAny C c' mem d ρ op = some r := by
  unfold evAny at he ⊢
  split at he
  · split at he
    · exact h _ _ _ _ he
    · cases he
  · split at he
    · split at he
      · exact h _ _ _ _ he
      · cases he
    · cases he
  · exact he

theorem evOper_mono (h : LeC c c') {o σ r} (he : evOper C c o σ = some r) : evOper C c' o σ = some r := by
  have go : ∀ {r}, (evAny C c σ.mem (o.dst.getD 0) (rho σ.tm o.take) o.op).map (fun (v, m) => (⟨putT (stripAll σ.tm o.take) o.dst v, m⟩ : St)) = some r →
      (evAny C c' σ.mem (o.dst.getD 0) (rho σ.tm o.take) o.op).map (fun (v, m) => (⟨putT (stripAll σ.tm o.take) o.dst v, m⟩ : St)) = some r := by
    intro r he
    rw [Option.map_eq_some_iff] at he ⊢
    obtain ⟨x, h1, h2⟩ := he
    exact ⟨x, evAny_mono h h1, h2⟩
  unfold evOper at he ⊢
  split at he
  · exact go he
  · split at he
    · rename_i b hb
      cases hbw : (b == _) with
      | true => rw [hbw] at he; exact go he
      | false => rw [hbw] at he; exact he
    · exact he
    · cases he

theorem evOps_mono (h : LeC c c') : ∀ {ops σ r}, evOps C c ops σ = some r → evOps C c' ops σ = some r
  | [], _, _, he => he
  | o :: ops, σ, r, he => by
    simp only [evOps, Option.bind_eq_some_iff] at he ⊢
    obtain ⟨x, h1, h2⟩ := he
    exact ⟨x, evOper_mono h h1, evOps_mono h h2⟩

theorem evDraw_mono (h : LeC c c') : ∀ {ops k rs ws σ r}, evDraw C c ops k rs ws σ = some r → evDraw C c' ops k rs ws σ = some r
  | [], _, _, _, _, _, he => he
  | o :: ops, k, rs, ws, σ, r, he => by
    unfold evDraw at he ⊢
    split at he
    · split at he
      · split at he
        · rename_i hc
          rw [if_pos hc]
          rw [Option.bind_eq_some_iff] at he ⊢
          obtain ⟨x, h1, h2⟩ := he
          exact ⟨x, evOper_mono h h1, evDraw_mono h h2⟩
        · cases he
      · cases he
    · split at he
      · split at he
        · rename_i hc
          rw [if_pos hc]
          rw [Option.bind_eq_some_iff] at he ⊢
          obtain ⟨x, h1, h2⟩ := he
          refine ⟨x, evOper_mono h h1, ?_⟩
          split at h2
          · rename_i hm; rw [if_pos hm]; exact evDraw_mono h h2
          · cases h2
        · cases he
      · rw [Option.bind_eq_some_iff] at he ⊢
        obtain ⟨x, h1, h2⟩ := he
        refine ⟨x, evOper_mono h h1, ?_⟩
        split at h2
        · rename_i hm; rw [if_pos hm]; exact evDraw_mono h h2
        · cases h2

theorem stepC_mono (h : Le f g) : Le (stepC C f) (stepC C g) := by
  have hc := callWith_mono (C := C) h
  intro a σ r he
  cases a with
  | skip => exact he
  | reg d ops =>
    cases d with
    | false =>
      simp only [stepC, Option.map_eq_some_iff] at he ⊢
      obtain ⟨x, h1, h2⟩ := he
      exact ⟨x, evOps_mono hc h1, h2⟩
    | true =>
      simp only [stepC, Option.map_eq_some_iff] at he ⊢
      obtain ⟨x, h1, h2⟩ := he
      exact ⟨x, evDraw_mono hc h1, h2⟩
  | seq x y =>
    simp only [stepC] at he ⊢
    split at he
    · rename_i σ1 h1; rw [h _ _ _ h1]; exact h _ _ _ he
    · rename_i hne
      rw [h _ _ _ he]
      split
      · rename_i σ1 h1; cases h1; exact absurd he (hne σ1)
      · rfl
  | cond q x y =>
    simp only [stepC] at he ⊢
    split at he
    · rename_i t ht
      cases t with
      | true => exact h _ _ _ he
      | false => exact h _ _ _ he
    · cases he
  | block id x =>
    simp only [stepC] at he ⊢
    split at he
    · rename_i j σ1 h1; rw [h _ _ _ h1]; exact he
    · rename_i hne
      rw [h _ _ _ he]
      split
      · rename_i j σ1 h1; cases h1; exact absurd he (hne j σ1)
      · rfl
  | loop x =>
    simp only [stepC] at he ⊢
    split at he
    · rename_i σ1 h1; rw [h _ _ _ h1]; exact h _ _ _ he
    · rename_i hne
      rw [h _ _ _ he]
      split
      · rename_i σ1 h1; cases h1; exact absurd he (hne σ1)
      · rfl
  | exit id => exact he
  | ret => exact he
  | cut k d x =>
    simp only [stepC, Option.bind_eq_some_iff] at he ⊢
    obtain ⟨y, h1, h2⟩ := he
    exact ⟨y, h1, h _ _ _ h2⟩

theorem ev_succ : ∀ n, Le (ev C n) (ev C (n + 1))
  | 0 => fun _ _ _ h => by cases h
  | n + 1 => stepC_mono (ev_succ n)

theorem ev_le {n m : Nat} (h : n ≤ m) : Le (ev C n) (ev C m) := by
  induction h with
  | refl => exact fun _ _ _ h => h
  | step _ ih => exact fun c σ r h => ev_succ _ c σ r (ih c σ r h)

end

open Classical in
/-- What the abstract machine finds with fuel enough. -/
noncomputable def den (C : Ctx) : Rec := fun c σ => if h : ∃ r n, ev C n c σ = some r then some h.choose else none

noncomputable def callD (C : Ctx) : CallF := callWith C (den C)

section
variable {C : Ctx}

theorem den_of_ev {n c σ r} (h : ev C n c σ = some r) : den C c σ = some r := by
  have hex : ∃ r n, ev C n c σ = some r := ⟨r, n, h⟩
  unfold den
  rw [dif_pos hex]
  obtain ⟨m, hm⟩ := hex.choose_spec
  rcases Nat.le_total n m with hl | hl
  · rw [← hm, ev_le hl _ _ _ h]
  · rw [← h, ev_le hl _ _ _ hm]

theorem ev_of_den {c σ r} (h : den C c σ = some r) : ∃ n, ev C n c σ = some r := by
  unfold den at h
  split at h
  · rename_i hex; cases h; exact hex.choose_spec
  · cases h

theorem le_den (n : Nat) : Le (ev C n) (den C) := fun _ _ _ h => den_of_ev h

theorem call_cont {f args mem r} (h : callD C f args mem = some r) : ∃ n, callWith C (ev C n) f args mem = some r := by
  unfold callD callWith at h
  split at h
  · rename_i q hq; exact ⟨0, by unfold callWith; rw [hq]; exact h⟩
  · rename_i hq
    split at h
    · cases h
    · rename_i af haf
      split at h
      · rename_i σ hr
        obtain ⟨n, hn⟩ := ev_of_den hr
        exact ⟨n, by unfold callWith; rw [hq, haf]; dsimp only; rw [hn]; exact h⟩
      · rename_i σ hr
        obtain ⟨n, hn⟩ := ev_of_den hr
        exact ⟨n, by unfold callWith; rw [hq, haf]; dsimp only; rw [hn]; exact h⟩
      · cases h

theorem any_cont {mem d ρ op r} (h : evAny C (callD C) mem d ρ op = some r) : ∃ n, evAny C (callWith C (ev C n)) mem d ρ op = some r := by
  unfold evAny at h
  split at h
  · split at h
    · rename_i hf
      obtain ⟨n, hn⟩ := call_cont h
      exact ⟨n, by unfold evAny; dsimp only; rw [hf]; exact hn⟩
    · cases h
  · split at h
    · rename_i hx
      split at h
      · rename_i hg
        obtain ⟨n, hn⟩ := call_cont h
        exact ⟨n, by unfold evAny; dsimp only; rw [hx]; dsimp only; rw [hg]; exact hn⟩
      · cases h
    · cases h
  · rename_i h1 h2
    refine ⟨0, ?_⟩
    unfold evAny
    split
    · exact absurd rfl (h1 _ _)
    · exact absurd rfl (h2 _ _ _)
    · exact h

theorem oper_cont {o σ r} (h : evOper C (callD C) o σ = some r) : ∃ n, evOper C (callWith C (ev C n)) o σ = some r := by
  have go : ∀ {r}, (evAny C (callD C) σ.mem (o.dst.getD 0) (rho σ.tm o.take) o.op).map (fun (v, m) => (⟨putT (stripAll σ.tm o.take) o.dst v, m⟩ : St)) = some r →
      ∃ n, (evAny C (callWith C (ev C n)) σ.mem (o.dst.getD 0) (rho σ.tm o.take) o.op).map (fun (v, m) => (⟨putT (stripAll σ.tm o.take) o.dst v, m⟩ : St)) = some r := by
    intro r he
    rw [Option.map_eq_some_iff] at he
    obtain ⟨x, h1, h2⟩ := he
    obtain ⟨n, hn⟩ := any_cont h1
    exact ⟨n, by rw [hn]; exact congrArg some h2⟩
  unfold evOper at h
  split at h
  · rename_i hg
    obtain ⟨n, hn⟩ := go h
    exact ⟨n, by unfold evOper; simp only [hg]; exact hn⟩
  · rename_i t want hg
    split at h
    · rename_i b hb
      cases hbw : (b == want) with
      | true =>
        rw [hbw] at h
        obtain ⟨n, hn⟩ := go h
        exact ⟨n, by unfold evOper; simp only [hg, hb, hbw]; exact hn⟩
      | false =>
        rw [hbw] at h
        exact ⟨0, by unfold evOper; simp only [hg, hb, hbw]; exact h⟩
    · rename_i hb
      exact ⟨0, by unfold evOper; simp only [hg, hb]; exact h⟩
    · cases h

theorem oper_le {n m : Nat} (h : n ≤ m) {o σ r} (he : evOper C (callWith C (ev C n)) o σ = some r) : evOper C (callWith C (ev C m)) o σ = some r :=
  evOper_mono (callWith_mono (ev_le h)) he

theorem ops_cont : ∀ {ops σ r}, evOps C (callD C) ops σ = some r → ∃ n, evOps C (callWith C (ev C n)) ops σ = some r
  | [], _, _, h => ⟨0, h⟩
  | o :: ops, σ, r, h => by
    simp only [evOps, Option.bind_eq_some_iff] at h
    obtain ⟨x, h1, h2⟩ := h
    obtain ⟨n, hn⟩ := oper_cont h1
    obtain ⟨m, hm⟩ := ops_cont h2
    exact ⟨max n m, by
      simp only [evOps, Option.bind_eq_some_iff]
      exact ⟨x, oper_le (Nat.le_max_left _ _) hn, evOps_mono (callWith_mono (ev_le (Nat.le_max_right _ _))) hm⟩⟩

theorem draw_cont : ∀ {ops k rs ws σ r}, evDraw C (callD C) ops k rs ws σ = some r → ∃ n, evDraw C (callWith C (ev C n)) ops k rs ws σ = some r
  | [], _, _, _, _, _, h => ⟨0, h⟩
  | o :: ops, k, rs, ws, σ, r, h => by
    have two : ∀ {k rs ws x}, evOper C (callD C) o σ = some x → evDraw C (callD C) ops k rs ws x = some r → ∃ n, evOper C (callWith C (ev C n)) o σ = some x ∧ evDraw C (callWith C (ev C n)) ops k rs ws x = some r := by
      intro k rs ws x h1 h2
      obtain ⟨n, hn⟩ := oper_cont h1
      obtain ⟨m, hm⟩ := draw_cont h2
      exact ⟨max n m, oper_le (Nat.le_max_left _ _) hn, evDraw_mono (callWith_mono (ev_le (Nat.le_max_right _ _))) hm⟩
    unfold evDraw at h
    split at h
    · rename_i hop
      split at h
      · rename_i hp
        split at h
        · rename_i hc
          rw [Option.bind_eq_some_iff] at h
          obtain ⟨x, h1, h2⟩ := h
          obtain ⟨n, k1, k2⟩ := two h1 h2
          exact ⟨n, by unfold evDraw; simp only [hop, hp]; rw [if_pos hc, k1]; exact k2⟩
        · cases h
      · cases h
    · rename_i hop
      split at h
      · rename_i f hf
        split at h
        · rename_i hc
          rw [Option.bind_eq_some_iff] at h
          obtain ⟨x, h1, h2⟩ := h
          split at h2
          · rename_i hm
            obtain ⟨n, k1, k2⟩ := two h1 h2
            refine ⟨n, ?_⟩
            unfold evDraw
            split
            · rename_i ho; exact absurd ho (hop _ _ _)
            · rw [hf]; dsimp only; rw [if_pos hc, k1, Option.bind_some, if_pos hm]; exact k2
          · cases h2
        · cases h
      · rename_i hf
        rw [Option.bind_eq_some_iff] at h
        obtain ⟨x, h1, h2⟩ := h
        split at h2
        · rename_i hm
          obtain ⟨n, k1, k2⟩ := two h1 h2
          refine ⟨n, ?_⟩
          unfold evDraw
          split
          · rename_i ho; exact absurd ho (hop _ _ _)
          · rw [hf]; dsimp only; rw [k1, Option.bind_some, if_pos hm]; exact k2
        · cases h2

theorem step_cont {c σ r} (h : stepC C (den C) c σ = some r) : ∃ n, stepC C (ev C n) c σ = some r := by
  cases c with
  | skip => exact ⟨0, h⟩
  | exit id => exact ⟨0, h⟩
  | ret => exact ⟨0, h⟩
  | reg d ops =>
    cases d with
    | false =>
      simp only [stepC, Option.map_eq_some_iff] at h
      obtain ⟨x, h1, h2⟩ := h
      obtain ⟨n, hn⟩ := ops_cont h1
      exact ⟨n, by simp only [stepC, hn, Option.map_some, h2]⟩
    | true =>
      simp only [stepC, Option.map_eq_some_iff] at h
      obtain ⟨x, h1, h2⟩ := h
      obtain ⟨n, hn⟩ := draw_cont h1
      exact ⟨n, by simp only [stepC, hn, Option.map_some, h2]⟩
  | seq x y =>
    simp only [stepC] at h
    split at h
    · rename_i σ1 h1
      obtain ⟨n, hn⟩ := ev_of_den h1
      obtain ⟨m, hm⟩ := ev_of_den h
      exact ⟨max n m, by simp only [stepC]; rw [ev_le (Nat.le_max_left n m) _ _ _ hn]; exact ev_le (Nat.le_max_right n m) _ _ _ hm⟩
    · rename_i hne
      obtain ⟨n, hn⟩ := ev_of_den h
      refine ⟨n, ?_⟩
      simp only [stepC]
      rw [hn]
      split
      · rename_i σ1 h1; cases h1; exact absurd h (hne σ1)
      · rfl
  | cond q x y =>
    simp only [stepC] at h
    split at h
    · rename_i t ht
      cases t with
      | true => obtain ⟨n, hn⟩ := ev_of_den (by simpa using h); exact ⟨n, by simp only [stepC, ht]; exact hn⟩
      | false => obtain ⟨n, hn⟩ := ev_of_den (by simpa using h); exact ⟨n, by simp only [stepC, ht]; exact hn⟩
    · cases h
  | block id x =>
    simp only [stepC] at h
    split at h
    · rename_i j σ1 h1
      obtain ⟨n, hn⟩ := ev_of_den h1
      exact ⟨n, by simp only [stepC]; rw [hn]; exact h⟩
    · rename_i hne
      obtain ⟨n, hn⟩ := ev_of_den h
      refine ⟨n, ?_⟩
      simp only [stepC]
      rw [hn]
      split
      · rename_i j σ1 h1; cases h1; exact absurd h (hne j σ1)
      · rfl
  | loop x =>
    simp only [stepC] at h
    split at h
    · rename_i σ1 h1
      obtain ⟨n, hn⟩ := ev_of_den h1
      obtain ⟨m, hm⟩ := ev_of_den h
      exact ⟨max n m, by simp only [stepC]; rw [ev_le (Nat.le_max_left n m) _ _ _ hn]; exact ev_le (Nat.le_max_right n m) _ _ _ hm⟩
    · rename_i hne
      obtain ⟨n, hn⟩ := ev_of_den h
      refine ⟨n, ?_⟩
      simp only [stepC]
      rw [hn]
      split
      · rename_i σ1 h1; cases h1; exact absurd h (hne σ1)
      · rfl
  | cut k d x =>
    simp only [stepC, Option.bind_eq_some_iff] at h
    obtain ⟨y, h1, h2⟩ := h
    obtain ⟨n, hn⟩ := ev_of_den h2
    exact ⟨n, by simp only [stepC, h1, Option.bind_some]; exact hn⟩

/-- The limit's equation. -/
theorem den_eq (c : ACode) (σ : St) : den C c σ = stepC C (den C) c σ := by
  apply Option.ext
  intro r
  constructor
  · intro h
    obtain ⟨n, hn⟩ := ev_of_den h
    cases n with
    | zero => cases hn
    | succ n => exact stepC_mono (le_den n) _ _ _ hn
  · intro h
    obtain ⟨n, hn⟩ := step_cont h
    exact den_of_ev (n := n + 1) hn

theorem den_skip {σ} : den C .skip σ = some (.normal, σ) := den_eq _ _
theorem den_ret {σ} : den C .ret σ = some (.ret, σ) := den_eq _ _
theorem den_exit {id σ} : den C (.exit id) σ = some (.exit id, σ) := den_eq _ _
theorem den_reg {ops σ} : den C (.reg false ops) σ = (evOps C (callD C) ops σ).map (.normal, ·) := den_eq _ _
theorem den_draw {ops σ} : den C (.reg true ops) σ = (evDraw C (callD C) ops 0 [] [] σ).map (.normal, ·) := den_eq _ _
/-- What comes behind a normal end. -/
def andThen (r : Option (Ex × St)) (k : St → Option (Ex × St)) : Option (Ex × St) := match r with | some (.normal, σ) => k σ | r => r
def atBlock (id : Nat) (r : Option (Ex × St)) : Option (Ex × St) := match r with
  | some (.exit j, σ') => if j = id then some (.normal, σ') else some (.exit j, σ')
  | r => r
theorem den_seq {a b σ} : den C (.seq a b) σ = andThen (den C a σ) (den C b) := by
  rw [den_eq]; simp only [stepC, andThen]
  cases den C a σ with
  | none => rfl
  | some x => obtain ⟨e, s⟩ := x; cases e <;> rfl
theorem den_cond {c a b σ} : den C (.cond c a b) σ = match rho σ.tm [] c with | .bool t => cond t (den C a σ) (den C b σ) | _ => none := den_eq _ _
theorem den_block {id c σ} : den C (.block id c) σ = atBlock id (den C c σ) := by
  rw [den_eq]; simp only [stepC, atBlock]
  cases den C c σ with
  | none => rfl
  | some x => obtain ⟨e, s⟩ := x; cases e <;> rfl
theorem den_loop {c σ} : den C (.loop c) σ = andThen (den C c σ) (den C (.loop c)) := by
  rw [den_eq]; simp only [stepC, andThen]
  cases den C c σ with
  | none => rfl
  | some x => obtain ⟨e, s⟩ := x; cases e <;> rfl
theorem den_cut {k d c σ} : den C (.cut k d c) σ = (evCut k d σ).bind (den C c) := den_eq _ _
@[simp] theorem andThen_normal {σ k} : andThen (some (.normal, σ)) k = k σ := rfl
@[simp] theorem andThen_ret {σ k} : andThen (some (.ret, σ)) k = some (.ret, σ) := rfl
@[simp] theorem andThen_exit {i σ k} : andThen (some (.exit i, σ)) k = some (.exit i, σ) := rfl
@[simp] theorem atBlock_normal {i σ} : atBlock i (some (.normal, σ)) = some (.normal, σ) := rfl
@[simp] theorem atBlock_ret {i σ} : atBlock i (some (.ret, σ)) = some (.ret, σ) := rfl
@[simp] theorem atBlock_exit {i j σ} : atBlock i (some (.exit j, σ)) = if j = i then some (.normal, σ) else some (.exit j, σ) := rfl

end
end Go.VA
