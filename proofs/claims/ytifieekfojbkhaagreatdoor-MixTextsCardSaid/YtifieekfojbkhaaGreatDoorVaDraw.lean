/-
  A region whose order is open: whatever order is drawn, the result is that of the text's order.
-/
import Derived.Test.YtifieekfojbkhaaGreatDoorVaRun
set_option linter.unusedSimpArgs false
set_option linter.unusedVariables false
namespace Go.VA
open Go Go.RowKit

abbrev Eff := Option (Id × Nat × List AV)

def applyE (m : Mem) : Eff → Mem
  | none => m
  | some (i, off, cs) => match m.get i with
    | some c => m.set i (over c off cs)
    | none => m

def Fits (m : Mem) (e : Eff) : Prop := ∀ i off cs, e = some (i, off, cs) → ∃ c, m.get i = some c ∧ off + cs.length ≤ c.length

def Same (m m' : Mem) : Prop := m.length = m'.length ∧ ∀ i, m.get i = m'.get i

def Apart (e e' : Eff) : Prop := ∀ i off cs i' off' cs', e = some (i, off, cs) → e' = some (i', off', cs') → i ≠ i' ∨ off + cs.length ≤ off' ∨ off' + cs'.length ≤ off

section
variable {m m' : Mem} {e e' : Eff}

theorem Same.refl (m : Mem) : Same m m := ⟨rfl, fun _ => rfl⟩
theorem Same.trans {m'' : Mem} (h : Same m m') (k : Same m' m'') : Same m m'' := ⟨h.1.trans k.1, fun i => (h.2 i).trans (k.2 i)⟩
theorem Same.symm (h : Same m m') : Same m' m := ⟨h.1.symm, fun i => (h.2 i).symm⟩

theorem apply_get (m : Mem) (e : Eff) (j : Id) : (applyE m e).get j = match e with
    | none => m.get j
    | some (i, off, cs) => if j = i then (m.get i).map fun c => over c off cs else m.get j := by
  unfold applyE
  cases e with
  | none => rfl
  | some q =>
    obtain ⟨i, off, cs⟩ := q
    dsimp only
    cases h : m.get i with
    | none =>
      dsimp only
      by_cases hj : j = i
      · subst hj; simp [h]
      · simp [hj]
    | some c =>
      dsimp only
      rw [mset_get, h]
      rfl

theorem apply_length (m : Mem) (e : Eff) : (applyE m e).length = m.length := by
  unfold applyE
  cases e with
  | none => rfl
  | some q =>
    obtain ⟨i, off, cs⟩ := q
    dsimp only
    cases m.get i with
    | none => rfl
    | some c => exact mset_length _ _ _

theorem Same.apply (h : Same m m') (e : Eff) : Same (applyE m e) (applyE m' e) := by
  refine ⟨by rw [apply_length, apply_length]; exact h.1, fun j => ?_⟩
  rw [apply_get, apply_get]
  cases e with
  | none => exact h.2 j
  | some q =>
    obtain ⟨i, off, cs⟩ := q
    dsimp only
    rw [h.2, h.2]

theorem Fits.same (h : Fits m e) (k : Same m m') : Fits m' e := by
  intro i off cs he
  obtain ⟨c, h1, h2⟩ := h i off cs he
  exact ⟨c, by rw [← k.2]; exact h1, h2⟩

theorem Fits.apply (h : Fits m e) (k : Fits m e') : Fits (applyE m e') e := by
  intro i off cs he
  obtain ⟨c, h1, h2⟩ := h i off cs he
  rw [apply_get]
  cases e' with
  | none => exact ⟨c, h1, h2⟩
  | some q =>
    obtain ⟨i', off', cs'⟩ := q
    dsimp only
    split
    · rename_i hi
      subst hi
      obtain ⟨c', k1, k2⟩ := k i off' cs' rfl
      rw [h1] at k1
      cases k1
      exact ⟨over c off' cs', by rw [h1]; rfl, by rw [over_length k2]; exact h2⟩
    · exact ⟨c, h1, h2⟩

theorem over_get {c x : List AV} {off : Nat} (h : off + x.length ≤ c.length) (k : Nat) : (over c off x)[k]? = if off ≤ k ∧ k < off + x.length then x[k - off]? else c[k]? := by
  unfold over
  have l1 : (c.take off).length = off := by simp; omega
  rw [List.append_assoc]
  by_cases h1 : k < off
  · rw [List.getElem?_append_left (by omega), List.getElem?_take_of_lt h1, if_neg (by omega)]
  · rw [List.getElem?_append_right (by omega), l1]
    by_cases h2 : k < off + x.length
    · rw [List.getElem?_append_left (by omega), if_pos ⟨by omega, h2⟩]
    · rw [List.getElem?_append_right (by omega), List.getElem?_drop, if_neg (by omega)]
      congr 1
      omega

theorem apply_comm (ha : Apart e e') (h : Fits m e) (k : Fits m e') : Same (applyE (applyE m e) e') (applyE (applyE m e') e) := by
  refine ⟨by simp [apply_length], fun j => ?_⟩
  simp only [apply_get]
  cases e with
  | none => cases e' <;> rfl
  | some q =>
    obtain ⟨i, off, cs⟩ := q
    cases e' with
    | none => rfl
    | some q' =>
      obtain ⟨i', off', cs'⟩ := q'
      dsimp only
      obtain ⟨c, h1, h2⟩ := h i off cs rfl
      obtain ⟨c', k1, k2⟩ := k i' off' cs' rfl
      by_cases hii : i = i'
      · subst hii
        rw [h1] at k1
        cases k1
        by_cases hj : j = i
        · subst hj
          simp only [if_true, h1, Option.map_some]
          congr 1
          have hd := ha j off cs j off' cs' rfl rfl
          apply List.ext_getElem?
          intro k
          rw [over_get (by rw [over_length h2]; exact k2), over_get h2, over_get (by rw [over_length k2]; exact h2), over_get k2]
          rcases hd with hd | hd | hd
          · exact absurd rfl hd
          · by_cases p1 : off ≤ k ∧ k < off + cs.length
            · rw [if_neg (by omega : ¬ (off' ≤ k ∧ k < off' + cs'.length)), if_pos p1, if_pos p1]
            · rw [if_neg p1]
              split <;> simp [p1]
          · by_cases p1 : off ≤ k ∧ k < off + cs.length
            · rw [if_neg (by omega : ¬ (off' ≤ k ∧ k < off' + cs'.length)), if_pos p1, if_pos p1]
            · rw [if_neg p1]
              split <;> simp [p1]
        · simp [hj]
      · by_cases hj : j = i
        · subst hj
          simp [hii]
        · by_cases hj' : j = i'
          · subst hj'
            simp [hj]
          · simp [hj, hj']

end

/-- Two memories that hold the same at a place. -/
def Agree (m m' : Mem) : Option Foot → Prop
  | none => True
  | some (i, off, n) => (m.get i = none ∧ m'.get i = none) ∨ ∃ c c', m.get i = some c ∧ m'.get i = some c' ∧ c.length = c'.length ∧ ∀ k, off ≤ k → k < off + n → c[k]? = c'[k]?

def ApartF (e : Eff) (f : Option Foot) : Prop := ∀ i off cs i' off' n, e = some (i, off, cs) → f = some (i', off', n) → i ≠ i' ∨ off + cs.length ≤ off' ∨ off' + n ≤ off

section
variable {P : Program} {C : Ctx} {call : CallF}

theorem evAny_congr {mem : Mem} {d : Nat} {ρ ρ' : Opd → AV} {op : AOp} (h : ∀ x, x ∈ op.opds → ρ x = ρ' x) : evAny C call mem d ρ op = evAny C call mem d ρ' op := by
  have hl : ∀ {l : List Opd} {f : AV → AV}, (∀ x, x ∈ l → ρ x = ρ' x) → (l.map fun x => f (ρ x)) = l.map fun x => f (ρ' x) := by
    intro l f h
    exact List.map_congr_left fun x hx => by rw [h x hx]
  cases op with
  | build z ps =>
    have h1 : (ps.map fun (o, s, x) => (o, s, (ρ x).strip)) = ps.map fun (o, s, x) => (o, s, (ρ' x).strip) := List.map_congr_left fun p hp => by
      obtain ⟨o, s, x⟩ := p
      dsimp only
      rw [h x (List.mem_map.2 ⟨(o, s, x), hp, rfl⟩)]
    have h2 : ps.all (fun p => (ρ p.2.2).defd) = ps.all fun p => (ρ' p.2.2).defd := by
      rw [Bool.eq_iff_iff, List.all_eq_true, List.all_eq_true]
      constructor
      · intro k p hp; rw [← h p.2.2 (List.mem_map.2 ⟨p, hp, rfl⟩)]; exact k p hp
      · intro k p hp; rw [h p.2.2 (List.mem_map.2 ⟨p, hp, rfl⟩)]; exact k p hp
    simp only [evAny, evOp, h1, h2]
  | bslice im sz n z ps =>
    have h1 : (ps.map fun (i, x) => (i, (ρ x).strip)) = ps.map fun (i, x) => (i, (ρ' x).strip) := List.map_congr_left fun p hp => by
      obtain ⟨i, x⟩ := p
      dsimp only
      rw [h x (List.mem_map.2 ⟨(i, x), hp, rfl⟩)]
    have h3 : (ps.map fun (i, x) => (i * sz, sz, (ρ x).strip)) = ps.map fun (i, x) => (i * sz, sz, (ρ' x).strip) := List.map_congr_left fun p hp => by
      obtain ⟨i, x⟩ := p
      dsimp only
      rw [h x (List.mem_map.2 ⟨(i, x), hp, rfl⟩)]
    have h2 : ps.all (fun p => (ρ p.2).defd) = ps.all fun p => (ρ' p.2).defd := by
      rw [Bool.eq_iff_iff, List.all_eq_true, List.all_eq_true]
      constructor
      · intro k p hp; rw [← h p.2 (List.mem_map.2 ⟨p, hp, rfl⟩)]; exact k p hp
      · intro k p hp; rw [h p.2 (List.mem_map.2 ⟨p, hp, rfl⟩)]; exact k p hp
    cases im <;> simp only [evAny, evOp, h1, h2, h3]
  | mkfn f l => simp only [evAny, evOp]; rw [hl (l := l) (f := AV.strip) h]
  | call f l =>
    have h1 := h f (by simp [AOp.opds])
    have h2 := hl (l := l) (f := AV.strip) fun x hx => h x (by simp [AOp.opds, hx])
    simp only [evAny, h1, h2]
  | invoke m x l =>
    have h1 := h x (by simp [AOp.opds])
    have h2 := hl (l := l) (f := AV.strip) fun x hx => h x (by simp [AOp.opds, hx])
    simp only [evAny, h1, h2]
  | slice k x lo hi mx =>
    have h1 := h x (by simp [AOp.opds])
    have ho : ∀ {o : Option Opd}, (∀ y, y ∈ o.toList → ρ y = ρ' y) → o.map ρ = o.map ρ' := by
      intro o ho
      cases o with
      | none => rfl
      | some y => simp [ho y (by simp)]
    have h2 := ho (o := lo) fun y hy => h y (by simp [AOp.opds, hy])
    have h3 := ho (o := hi) fun y hy => h y (by simp [AOp.opds, hy])
    have h4 := ho (o := mx) fun y hy => h y (by simp [AOp.opds, hy])
    simp only [evAny, evOp, h1, h2, h3, h4]
  | alloc z => rfl
  | box im x => cases im <;> simp only [evAny, evOp, h x (by simp [AOp.opds])]
  | mv x => simp only [evAny, evOp, h x (by simp [AOp.opds])]
  | load ag tk n x => simp only [evAny, evOp, h x (by simp [AOp.opds])]
  | nilchk x => simp only [evAny, evOp, h x (by simp [AOp.opds])]
  | un u x => simp only [evAny, evOp, h x (by simp [AOp.opds])]
  | conv c x => simp only [evAny, evOp, h x (by simp [AOp.opds])]
  | mkif t x => simp only [evAny, evOp, h x (by simp [AOp.opds])]
  | faddr o x => simp only [evAny, evOp, h x (by simp [AOp.opds])]
  | field ag o n x => simp only [evAny, evOp, h x (by simp [AOp.opds])]
  | tassert t ok z x => simp only [evAny, evOp, h x (by simp [AOp.opds])]
  | extract x i => simp only [evAny, evOp, h x (by simp [AOp.opds])]
  | len s x => simp only [evAny, evOp, h x (by simp [AOp.opds])]
  | pick c x y => simp only [evAny, evOp, h c (by simp [AOp.opds]), h x (by simp [AOp.opds]), h y (by simp [AOp.opds])]
  | store n x y => simp only [evAny, evOp, h x (by simp [AOp.opds]), h y (by simp [AOp.opds])]
  | bin b x y => simp only [evAny, evOp, h x (by simp [AOp.opds]), h y (by simp [AOp.opds])]
  | eq k n x y => simp only [evAny, evOp, h x (by simp [AOp.opds]), h y (by simp [AOp.opds])]
  | mkslc im s b z x y => simp only [evAny, evOp, h x (by simp [AOp.opds]), h y (by simp [AOp.opds])]
  | iaddr ar s x y => simp only [evAny, evOp, h x (by simp [AOp.opds]), h y (by simp [AOp.opds])]
  | ixarr ag l s x y => simp only [evAny, evOp, h x (by simp [AOp.opds]), h y (by simp [AOp.opds])]
  | ixstr x y => simp only [evAny, evOp, h x (by simp [AOp.opds]), h y (by simp [AOp.opds])]
  | lookup z ok x y => simp only [evAny, evOp, h x (by simp [AOp.opds]), h y (by simp [AOp.opds])]
  | append s b x y => simp only [evAny, evOp, h x (by simp [AOp.opds]), h y (by simp [AOp.opds])]
  | min2 x y => simp only [evAny, evOp, h x (by simp [AOp.opds]), h y (by simp [AOp.opds])]
  | max2 x y => simp only [evAny, evOp, h x (by simp [AOp.opds]), h y (by simp [AOp.opds])]

theorem still_any {mem mem' : Mem} {d : Nat} {ρ : Opd → AV} {op : AOp} {v : AV} {m : Mem} (hs : op.still = true) (h : evAny C call mem d ρ op = some (v, m)) : m = mem ∧ evAny C call mem' d ρ op = some (v, mem') := by
  have same : ∀ {β : Type} {o : Option β} {f : β → AV}, o.map (fun x => (f x, mem)) = some (v, m) → m = mem ∧ o.map (fun x => (f x, mem')) = some (v, mem') := by
    intro β o f h
    rw [Option.map_eq_some_iff] at h
    obtain ⟨x, hx, hv⟩ := h
    cases hv
    exact ⟨rfl, by rw [hx]; rfl⟩
  have same' : ∀ {o : Option AV}, o.map (fun x => (x, mem)) = some (v, m) → m = mem ∧ o.map (fun x => (x, mem')) = some (v, mem') := fun h => same h
  cases op with
  | alloc z => simp [AOp.still] at hs
  | load a t n x => simp [AOp.still] at hs
  | store n a x => simp [AOp.still] at hs
  | call f l => simp [AOp.still] at hs
  | invoke m x l => simp [AOp.still] at hs
  | mv x => simp only [evAny, evOp] at h ⊢; cases h; exact ⟨rfl, rfl⟩
  | pick c x y =>
    simp only [evAny, evOp] at h ⊢
    split at h
    · cases h; exact ⟨rfl, rfl⟩
    · cases h
  | box im x =>
    cases im with
    | false => simp [AOp.still] at hs
    | true =>
      simp only [evAny, evOp] at h ⊢
      split at h
      · rename_i hc; cases h; exact ⟨rfl, by rw [if_pos hc]⟩
      · cases h
  | build z ps =>
    simp only [evAny, evOp] at h ⊢
    split at h
    · rename_i hc; rw [if_pos hc]; exact same h
    · cases h
  | bslice im sz n z ps =>
    cases im with
    | false => simp [AOp.still] at hs
    | true => simp only [evAny, evOp] at h ⊢; exact same h
  | nilchk x =>
    simp only [evAny, evOp] at h ⊢
    split at h <;> first | (cases h; exact ⟨rfl, rfl⟩) | cases h
  | bin b x y => simp only [evAny, evOp] at h ⊢; exact same' h
  | eq k n x y => simp only [evAny, evOp] at h ⊢; exact same h
  | un u x => simp only [evAny, evOp] at h ⊢; exact same' h
  | conv c x => simp only [evAny, evOp] at h ⊢; exact same' h
  | mkif t x => simp only [evAny, evOp] at h ⊢; cases h; exact ⟨rfl, rfl⟩
  | mkfn f l => simp only [evAny, evOp] at h ⊢; cases h; exact ⟨rfl, rfl⟩
  | mkslc im s b z x y =>
    cases im with
    | false => simp [AOp.still] at hs
    | true =>
      simp only [evAny, evOp, if_true] at h ⊢
      split at h
      · split at h
        · rename_i hc; cases h; exact ⟨rfl, by rw [if_pos hc]⟩
        · cases h
      · cases h
  | slice k x lo hi mx => simp only [evAny, evOp] at h ⊢; exact same' h
  | faddr o x =>
    simp only [evAny, evOp] at h ⊢
    split at h <;> first | (cases h; exact ⟨rfl, rfl⟩) | cases h
  | field ag o n x =>
    simp only [evAny, evOp] at h ⊢
    split at h
    · exact same' h
    · cases h
  | iaddr ar s x y => simp only [evAny, evOp] at h ⊢; exact same' h
  | ixarr ag l s x y =>
    simp only [evAny, evOp] at h ⊢
    split at h
    · split at h
      · rename_i hc; rw [if_pos hc]; exact same' h
      · cases h
    · cases h
  | ixstr x y =>
    simp only [evAny, evOp] at h ⊢
    split at h
    · split at h
      · rename_i hc; rw [if_pos hc]; exact same h
      · cases h
    · cases h
  | lookup z ok x y =>
    simp only [evAny, evOp] at h ⊢
    split at h
    · cases h; exact ⟨rfl, rfl⟩
    · cases h
  | tassert t ok z x =>
    simp only [evAny, evOp] at h ⊢
    split at h
    · split at h
      · rename_i hc; cases h; exact ⟨rfl, by rw [if_pos hc]⟩
      · rename_i hc
        split at h
        · rename_i hc2; cases h; exact ⟨rfl, by rw [if_neg hc, if_pos hc2]⟩
        · cases h
    · split at h
      · rename_i hc; cases h; exact ⟨rfl, by rw [if_pos hc]⟩
      · cases h
    · cases h
  | extract x i =>
    simp only [evAny, evOp] at h ⊢
    split at h
    · exact same' h
    · cases h
  | len s x =>
    simp only [evAny, evOp] at h ⊢
    split at h <;> first | (cases h; exact ⟨rfl, rfl⟩) | cases h
  | append s b x y => simp only [evAny, evOp] at h ⊢; exact same' h
  | min2 x y =>
    simp only [evAny, evOp] at h ⊢
    split at h <;> first | (cases h; exact ⟨rfl, rfl⟩) | cases h
  | max2 x y =>
    simp only [evAny, evOp] at h ⊢
    split at h <;> first | (cases h; exact ⟨rfl, rfl⟩) | cases h

/-- One operation, in the text's order: what it puts and what it stores. -/
structure DStep (C : Ctx) (call : CallF) (o : AOper) (σ σ' : St) (v : AV) (e : Eff) : Prop where
  ev : evOper C call o σ = some σ'
  tm : σ'.tm = putT σ.tm o.dst v
  mem : σ'.mem = applyE σ.mem e
  fits : Fits σ.mem e
  store : (∃ n a x, o.op = .store n a x) ∨ e = none
  /-- the same at another state -/
  again : ∀ σ2 : St, (∀ t, t ∈ o.reads → getT σ2.tm t = getT σ.tm t) → (o.op.still = true ∨ σ2.mem = σ.mem ∨ ((∃ n a x, o.op = .store n a x) ∧ Fits σ2.mem e) ∨ ((∃ g n a, o.op = .load g false n a) ∧ Agree σ.mem σ2.mem (loadFoot σ.tm o))) →
    evOper C call o σ2 = some ⟨putT σ2.tm o.dst v, applyE σ2.mem e⟩

theorem rho_same {tm tm2 : List AV} {o : AOper} (h : ∀ t, t ∈ o.reads → getT tm2 t = getT tm t) (ht : o.take = []) : ∀ x, x ∈ o.op.opds → rho tm2 o.take x = rho tm o.take x := by
  intro x hx
  rw [ht]
  cases x with
  | av v => rfl
  | tmp t =>
    have := h t (by simp only [AOper.reads, List.mem_append, List.mem_flatMap]; exact .inl ⟨.tmp t, hx, by simp [opdT]⟩)
    simp [rho, this]

/-- An operation that leaves the memory. -/
theorem dstep_quiet {o : AOper} {σ σ' : St} (ht : o.take = []) (hns : ∀ n a x, o.op ≠ .store n a x) (he : evOper C call o σ = some σ') (hm : σ'.mem = σ.mem) : ∃ v, DStep C call o σ σ' v none := by
  have key : ∀ (σ2 : St), (∀ t, t ∈ o.reads → getT σ2.tm t = getT σ.tm t) → (o.op.still = true ∨ σ2.mem = σ.mem ∨ ((∃ g n a, o.op = .load g false n a) ∧ Agree σ.mem σ2.mem (loadFoot σ.tm o))) → ∀ v m, evAny C call σ.mem (o.dst.getD 0) (rho σ.tm o.take) o.op = some (v, m) → m = σ.mem →
      evAny C call σ2.mem (o.dst.getD 0) (rho σ2.tm o.take) o.op = some (v, σ2.mem) := by
    intro σ2 h2 hs v m hev hmm
    subst hmm
    rw [evAny_congr (rho_same h2 ht)]
    rcases hs with hs | hs | ⟨⟨g, n, a, hs⟩, hag⟩
    · exact (still_any hs hev).2
    · rw [hs]; exact hev
    · rw [hs] at hev ⊢
      simp only [loadFoot, hs] at hag
      simp only [evAny, evOp] at hev ⊢
      split at hev
      · rename_i l hl
        cases g with
        | true =>
          simp only [if_true] at hev ⊢
          split at hev
          · rename_i hle; cases hev; rw [if_pos hle]
          · cases hev
        | false =>
          simp only [Bool.false_eq_true, if_false] at hev ⊢
          rw [Option.map_eq_some_iff] at hev
          obtain ⟨x, hx, hv⟩ := hev
          cases hv
          rw [hx]; rfl
      · rename_i i off hl
        rw [hl] at hag
        dsimp only at hag
        rcases hag with ⟨k1, k2⟩ | ⟨c, c2, k1, k2, k3, k4⟩
        · rw [k1] at hev; cases hev
        rw [k1, Option.bind_some] at hev
        rw [k2, Option.bind_some]
        cases g with
        | true =>
          simp only [if_true] at hev k4 ⊢
          split at hev
          · rename_i hle
            cases hev
            rw [if_pos (by omega)]
            have : (c2.drop off).take n = (c.drop off).take n := by
              apply List.ext_getElem?
              intro k
              rw [List.getElem?_take, List.getElem?_take, List.getElem?_drop, List.getElem?_drop]
              split
              · exact (k4 (off + k) (by omega) (by omega)).symm
              · rfl
            rw [this]
          · cases hev
        | false =>
          simp only [Bool.false_eq_true, if_false] at hev k4 ⊢
          rw [← k4 off (by omega) (by omega)]
          rw [Option.map_eq_some_iff] at hev
          obtain ⟨x, hx, hv⟩ := hev
          cases hv
          rw [hx]; rfl
      · cases hev
  have hs0 : stripAll σ.tm o.take = σ.tm := by rw [ht]; rfl
  have hs2 : ∀ σ2 : St, stripAll σ2.tm o.take = σ2.tm := fun σ2 => by rw [ht]; rfl
  unfold evOper at he
  simp only [hs0] at he
  have main : ∀ v m, evAny C call σ.mem (o.dst.getD 0) (rho σ.tm o.take) o.op = some (v, m) → σ' = ⟨putT σ.tm o.dst v, m⟩ →
      (∀ σ2 : St, (∀ t, t ∈ o.reads → getT σ2.tm t = getT σ.tm t) → evAny C call σ2.mem (o.dst.getD 0) (rho σ2.tm o.take) o.op = some (v, σ2.mem) → evOper C call o σ2 = some ⟨putT σ2.tm o.dst v, σ2.mem⟩) →
      evOper C call o σ = some σ' → ∃ v, DStep C call o σ σ' v none := by
    intro v m hev hσ hev2 hsame
    subst hσ
    have hm' : m = σ.mem := hm
    subst hm'
    refine ⟨v, hsame, rfl, rfl, (fun i off cs h => by cases h), .inr rfl, fun σ2 h2 hs => ?_⟩
    refine hev2 σ2 h2 (key σ2 h2 ?_ v _ hev rfl)
    rcases hs with hs | hs | ⟨⟨n, a, x, hs⟩, _⟩ | hs
    · exact .inl hs
    · exact .inr (.inl hs)
    · exact absurd hs (hns n a x)
    · exact .inr (.inr hs)
  have he0 := he
  split at he
  · rename_i hg
    rw [Option.map_eq_some_iff] at he
    obtain ⟨⟨v, m⟩, hev, hσ⟩ := he
    refine main v m hev hσ.symm (fun σ2 h2 hev2 => ?_) (by unfold evOper; simp only [hs0, hg]; rw [hev]; exact congrArg some hσ)
    unfold evOper
    simp only [hs2, hg]
    rw [hev2]
    rfl
  · rename_i t want hg
    have htr : t ∈ o.reads := by simp [AOper.reads, hg]
    split at he
    · rename_i b hb
      cases hbw : (b == want) with
      | true =>
        rw [hbw] at he
        simp only [cond_true, Option.map_eq_some_iff] at he
        obtain ⟨⟨v, m⟩, hev, hσ⟩ := he
        refine main v m hev hσ.symm (fun σ2 h2 hev2 => ?_) (by unfold evOper; simp only [hs0, hg, hb, hbw, cond_true]; rw [hev]; exact congrArg some hσ)
        unfold evOper
        simp only [hs2, hg, h2 t htr, hb, hbw, cond_true]
        rw [hev2]
        rfl
      | false =>
        rw [hbw] at he
        simp only [cond_false, Option.some.injEq] at he
        subst he
        refine ⟨.tup [], by unfold evOper; simp only [hg, hb, hbw, cond_false], rfl, rfl, (fun i off cs h => by cases h), .inr rfl, fun σ2 h2 hs => ?_⟩
        unfold evOper
        simp only [hg, h2 t htr, hb, hbw, cond_false]
        rfl
    · rename_i hb
      simp only [Option.some.injEq] at he
      subst he
      refine ⟨.tup [], by unfold evOper; simp only [hg, hb], rfl, rfl, (fun i off cs h => by cases h), .inr rfl, fun σ2 h2 hs => ?_⟩
      unfold evOper
      simp only [hg, h2 t htr, hb]
      rfl
    · cases he

theorem dstep_store {o : AOper} {σ σ' : St} (ht : o.take = []) (hgd : o.guard = none) {n : Nat} {y x : Opd} (hs : o.op = .store n y x) (he : evOper C call o σ = some σ') {i : Id} {off : Nat} (hp : rho σ.tm o.take y = .ptr i off) :
    ∃ cs, cs.length = n ∧ DStep C call o σ σ' .undef (some (i, off, cs)) := by
  have hs2 : ∀ σ2 : St, stripAll σ2.tm o.take = σ2.tm := fun σ2 => by rw [ht]; rfl
  have he0 := he
  unfold evOper at he
  simp only [hs2, hgd, Option.map_eq_some_iff] at he
  obtain ⟨⟨v, m⟩, hev, hσ⟩ := he
  rw [hs] at hev
  simp only [evAny, evOp, hp, Option.bind_eq_some_iff] at hev
  obtain ⟨c, hget, hev⟩ := hev
  split at hev
  · rename_i hcond
    cases hev
    subst hσ
    have hap : ∀ m : Mem, ∀ c, m.get i = some c → applyE m (some (i, off, (rho σ.tm o.take x).cells)) = m.set i (over c off (rho σ.tm o.take x).cells) := by
      intro m c h
      simp [applyE, h]
    refine ⟨(rho σ.tm o.take x).cells, hcond.1, he0, rfl, by rw [hap _ _ hget], fun i' off' cs' h => ?_, .inl ⟨n, y, x, hs⟩, fun σ2 h2 hq => ?_⟩
    · cases h
      exact ⟨c, hget, by rw [hcond.1]; exact hcond.2.1⟩
    · have hr := rho_same h2 ht
      rw [hs] at hr
      have hfit : Fits σ2.mem (some (i, off, (rho σ.tm o.take x).cells)) := by
        rcases hq with hq | hq | ⟨_, hq⟩ | ⟨⟨_, _, _, hq⟩, _⟩
        · rw [hs] at hq; simp [AOp.still] at hq
        · rw [hq]; intro i' off' cs' h; cases h; exact ⟨c, hget, by rw [hcond.1]; exact hcond.2.1⟩
        · exact hq
        · rw [hs] at hq; cases hq
      obtain ⟨c2, k1, k2⟩ := hfit i off _ rfl
      unfold evOper
      simp only [hs2, hgd, hs, evAny, evOp, hr y (by simp [AOp.opds]), hr x (by simp [AOp.opds]), hp, k1, Option.bind_some]
      rw [if_pos ⟨hcond.1, by rw [hcond.1] at k2; exact k2, hcond.2.2⟩, hap _ _ k1]
      rfl
  · cases hev

theorem footApart_spec {i i' : Id} {off n off' n' : Nat} (h : footApart (i, off, n) (i', off', n') = true) : i ≠ i' ∨ off + n ≤ off' ∨ off' + n' ≤ off := by
  simp only [footApart, Bool.or_eq_true, bne_iff_ne, decide_eq_true_eq] at h
  rcases h with (h | h) | h
  · exact .inl h
  · exact .inr (.inl h)
  · exact .inr (.inr h)

/-- What the text's order comes to. 'rs', 'ws': the loads and stores ahead, by their places. -/
structure Trace (C : Ctx) (call : CallF) (aops : List AOper) (k : Nat) (rs ws : List (Nat × Foot)) (σ σ' : St) (pre : Nat → St) (v : Nat → AV) (e : Nat → Eff) : Prop where
  first : pre 0 = σ
  last : pre aops.length = σ'
  step : ∀ (i : Nat) o, aops[i]? = some o → DStep C call o (pre i) (pre (i + 1)) (v i) (e i)
  ss : ∀ i j, i < j → j < aops.length → Apart (e i) (e j)
  ls : ∀ (i j : Nat) x y, i < j → aops[i]? = some x → aops[j]? = some y → (k + i) ∈ y.apart → ApartF (e j) (loadFoot (pre i).tm x)
  sl : ∀ (i j : Nat) y, i < j → aops[j]? = some y → (k + i) ∈ y.apart → ApartF (e i) (loadFoot (pre j).tm y)
  ws' : ∀ j, j < aops.length → ∀ i off cs, e j = some (i, off, cs) → ∀ q, q ∈ ws → footApart (i, off, cs.length) q.2 = true
  rs' : ∀ (j : Nat) y, aops[j]? = some y → ∀ i off cs, e j = some (i, off, cs) → ∀ q, q ∈ rs → q.1 ∈ y.apart → footApart (i, off, cs.length) q.2 = true
  wl' : ∀ (j : Nat) y f, aops[j]? = some y → loadFoot (pre j).tm y = some f → ∀ q, q ∈ ws → q.1 ∈ y.apart → footApart q.2 f = true

theorem draw_trace : ∀ (aops : List AOper) (k : Nat) (rs ws : List (Nat × Foot)) (σ σ' : St), (∀ o, o ∈ aops → o.take = [] ∧ ((∃ n a x, o.op = .store n a x) → o.guard = none)) → evDraw C call aops k rs ws σ = some σ' →
    ∃ pre v e, Trace C call aops k rs ws σ σ' pre v e
  | [], k, rs, ws, σ, σ', _, h => by
    simp only [evDraw, Option.some.injEq] at h
    subst h
    exact ⟨fun _ => σ, fun _ => .undef, fun _ => none, rfl, rfl, by simp, by simp, by simp, by simp, by simp, by simp, by simp⟩
  | o :: r, k, rs, ws, σ, σ', hok, h => by
    obtain ⟨ht, hg⟩ := hok o (by simp)
    -- a step and what comes behind it
    have join : ∀ σ1 v0 e0 rs2 ws2, DStep C call o σ σ1 v0 e0 → evDraw C call r (k + 1) rs2 ws2 σ1 = some σ' →
        (∀ i off cs, e0 = some (i, off, cs) → ws2 = (k, (i, off, cs.length)) :: ws ∧ (∀ q, q ∈ ws → footApart (i, off, cs.length) q.2 = true) ∧ (∀ q, q ∈ rs → q.1 ∈ o.apart → footApart (i, off, cs.length) q.2 = true)) →
        (e0 = none → ws2 = ws) → (∀ f, loadFoot σ.tm o = some f → rs2 = (k, f) :: rs ∧ ∀ q, q ∈ ws → q.1 ∈ o.apart → footApart q.2 f = true) → (loadFoot σ.tm o = none → rs2 = rs) →
        ∃ pre v e, Trace C call (o :: r) k rs ws σ σ' pre v e := by
      intro σ1 v0 e0 rs2 ws2 hstep hrest hst hno hld hnl
      obtain ⟨pre, v, e, T⟩ := draw_trace r (k + 1) rs2 ws2 σ1 σ' (fun o' ho' => hok o' (by simp [ho'])) hrest
      have wsub : ∀ q, q ∈ ws → q ∈ ws2 := by
        intro q hq
        cases he0 : e0 with
        | none => rw [hno he0]; exact hq
        | some p => obtain ⟨a1, a2, a3⟩ := p; rw [(hst a1 a2 a3 he0).1]; simp [hq]
      have rsub : ∀ q, q ∈ rs → q ∈ rs2 := by
        intro q hq
        cases hl : loadFoot σ.tm o with
        | none => rw [hnl hl]; exact hq
        | some f => rw [(hld f hl).1]; simp [hq]
      refine ⟨fun i => match i with | 0 => σ | i + 1 => pre i, fun i => match i with | 0 => v0 | i + 1 => v i, fun i => match i with | 0 => e0 | i + 1 => e i, rfl, T.last, fun i o' ho' => ?_, fun i j hij hj => ?_, fun i j x y hij hx hy hap => ?_, fun i j y hij hy hap => ?_,
        fun j hj => ?_, fun j y hy => ?_, fun j y f hy => ?_⟩
      · cases i with
        | zero =>
          simp at ho'
          subst ho'
          show DStep C call o σ (pre 0) v0 e0
          rw [T.first]
          exact hstep
        | succ i => exact T.step i o' (by simpa using ho')
      · cases j with
        | zero => omega
        | succ j =>
          cases i with
          | zero =>
            show Apart e0 (e j)
            intro i1 off1 cs1 i2 off2 cs2 h1 h2
            obtain ⟨hw, _, _⟩ := hst i1 off1 cs1 h1
            have := footApart_spec (T.ws' j (by simpa using hj) i2 off2 cs2 h2 (k, (i1, off1, cs1.length)) (by rw [hw]; simp))
            rcases this with h | h | h
            · exact .inl fun e => h e.symm
            · exact .inr (.inr h)
            · exact .inr (.inl h)
          | succ i => exact T.ss i j (by omega) (by simpa using hj)
      · cases j with
        | zero => omega
        | succ j =>
          have hy' : r[j]? = some y := by simpa using hy
          cases i with
          | zero =>
            simp at hx
            subst hx
            show ApartF (e j) (loadFoot σ.tm o)
            intro i1 off1 cs1 i2 off2 n2 h1 h2
            obtain ⟨hr, _⟩ := hld _ h2
            exact footApart_spec (T.rs' j y hy' i1 off1 cs1 h1 (k, (i2, off2, n2)) (by rw [hr]; simp) (by simpa using hap))
          | succ i => exact T.ls i j x y (by omega) (by simpa using hx) hy' (by rw [show k + 1 + i = k + (i + 1) by omega]; exact hap)
      · cases j with
        | zero => omega
        | succ j =>
          have hy' : r[j]? = some y := by simpa using hy
          cases i with
          | zero =>
            show ApartF e0 (loadFoot (pre j).tm y)
            intro i1 off1 cs1 i2 off2 n2 h1 h2
            obtain ⟨hw, _, _⟩ := hst i1 off1 cs1 h1
            exact footApart_spec (T.wl' j y _ hy' h2 (k, (i1, off1, cs1.length)) (by rw [hw]; simp) (by simpa using hap))
          | succ i => exact T.sl i j y (by omega) hy' (by rw [show k + 1 + i = k + (i + 1) by omega]; exact hap)
      · cases j with
        | zero => intro i off cs h q hq; exact (hst i off cs h).2.1 q hq
        | succ j => intro i off cs h q hq; exact T.ws' j (by simpa using hj) i off cs h q (wsub q hq)
      · cases j with
        | zero =>
          simp at hy
          subst hy
          intro i off cs h q hq hap
          exact (hst i off cs h).2.2 q hq hap
        | succ j => intro i off cs h q hq hap; exact T.rs' j y (by simpa using hy) i off cs h q (rsub q hq) hap
      · cases j with
        | zero =>
          simp at hy
          subst hy
          intro h q hq hap
          exact (hld f h).2 q hq hap
        | succ j => intro h q hq hap; exact T.wl' j y f (by simpa using hy) h q (wsub q hq) hap
    by_cases hs : ∃ n a x, o.op = .store n a x
    · obtain ⟨n, y, x, hs⟩ := hs
      have hnl : loadFoot σ.tm o = none := by simp [loadFoot, hs]
      simp only [evDraw, hs] at h
      split at h
      · rename_i i off hp
        split at h
        · rename_i hall
          simp only [Bool.and_eq_true, List.all_eq_true, Bool.or_eq_true, Bool.not_eq_true', List.contains_eq_mem, decide_eq_false_iff_not] at hall
          rw [Option.bind_eq_some_iff] at h
          obtain ⟨σ1, h1, h2⟩ := h
          obtain ⟨cs, hcs, hstep⟩ := dstep_store ht (hg ⟨n, y, x, hs⟩) hs h1 hp
          refine join σ1 .undef (some (i, off, cs)) _ _ hstep h2 (fun i' off' cs' hh => ?_) (fun hh => by cases hh) (fun f hf => by rw [hnl] at hf; cases hf) (fun _ => rfl)
          cases hh
          refine ⟨by rw [hcs], fun q hq => by rw [hcs]; exact hall.1 q hq, fun q hq hap => ?_⟩
          rw [hcs]
          exact (hall.2 q hq).resolve_left (fun h => h hap)
        · cases h
      · cases h
    · have hns : ∀ n a x, o.op ≠ .store n a x := fun n a x e => hs ⟨n, a, x, e⟩
      unfold evDraw at h
      split at h
      · rename_i n a x e; exact absurd e (hns n a x)
      · split at h
        · rename_i f hf
          split at h
          · rename_i hall
            simp only [List.all_eq_true, Bool.or_eq_true, Bool.not_eq_true', List.contains_eq_mem, decide_eq_false_iff_not] at hall
            rw [Option.bind_eq_some_iff] at h
            obtain ⟨σ1, h1, h2⟩ := h
            split at h2
            · rename_i hm
              obtain ⟨v, hstep⟩ := dstep_quiet ht hns h1 hm
              refine join σ1 v none _ ws hstep h2 (fun i off cs hh => by cases hh) (fun _ => rfl) (fun f' hf' => ?_) (fun hn => by rw [hf] at hn; cases hn)
              rw [hf] at hf'
              cases hf'
              exact ⟨rfl, fun q hq hap => (hall q hq).resolve_left (fun h => h hap)⟩
            · cases h2
          · cases h
        · rename_i hf
          rw [Option.bind_eq_some_iff] at h
          obtain ⟨σ1, h1, h2⟩ := h
          split at h2
          · rename_i hm
            obtain ⟨v, hstep⟩ := dstep_quiet ht hns h1 hm
            exact join σ1 v none rs ws hstep h2 (fun i off cs hh => by cases hh) (fun _ => rfl) (fun f' hf' => by rw [hf] at hf'; cases hf') (fun _ => rfl)
          · cases h2

end
end Go.VA
