/-
  The abstract machine: VaSl, VaGen, DmTy.
-/
import Derived.Test.YtnhagbllecpkkaaGreatDoorV5
set_option linter.unusedSimpArgs false
set_option linter.unusedVariables false
/-
  Slices as lists, nil or not, for walks by equations; loops over lists.
-/
namespace Go.VA
open Go

/-- A slice of elements; nil where it is empty and 'z' says so. -/
def sv (sz : Nat) (z : Bool) (l : List AV) (c : Cap) : AV := if z = true ∧ l = [] then .nils else .slc sz l c

def Cap.plain : Cap → Cap
  | .own => .unk
  | c => c
@[simp] theorem plain_own : Cap.plain .own = .unk := rfl
@[simp] theorem plain_unk : Cap.plain .unk = .unk := rfl
@[simp] theorem plain_exact : Cap.plain .exact = .exact := rfl
theorem plain_ne (c : Cap) : c.plain ≠ .own := by cases c <;> simp

theorem sv_nil (sz : Nat) (c : Cap) : sv sz true [] c = .nils := by simp [sv]
theorem sv_some (sz : Nat) (l : List AV) (c : Cap) : sv sz false l c = .slc sz l c := by simp [sv]

@[simp] theorem sv_strip (sz z l c) : (sv sz z l c).strip = sv sz z l c.plain := by
  unfold sv; split
  · rfl
  · cases c <;> rfl
@[simp] theorem sv_len (sz z l c) : lenAV false (sv sz z l c) = some (.int .i64 l.length) := by
  unfold sv; split
  · rename_i h; rw [h.2]; rfl
  · rfl
@[simp] theorem sv_cells (sz z l c) : (sv sz z l c).cells = [sv sz z l c] := by unfold sv; split <;> rfl
@[simp] theorem sv_one (sz z l c) : (sv sz z l c).one = true := by unfold sv; split <;> rfl
@[simp] theorem sv_defd (sz z l c) : (sv sz z l c).defd = true := by unfold sv; split <;> rfl
@[simp] theorem sv_under (sz z l c) (n : Nat) : (sv sz z l c).under n = true := by unfold sv; split <;> rfl
@[simp] theorem sv_has (sz z l c) (i : VA.Id) : (sv sz z l c).has i = false := by unfold sv; split <;> rfl
@[simp] theorem sv_pure_plain (sz z l) (c : Cap) : (sv sz z l c.plain).pure = true := by
  unfold sv; split
  · rfl
  · cases c <;> rfl
@[simp] theorem sv_pure_unk (sz z l) : (sv sz z l .unk).pure = true := sv_pure_plain sz z l .unk
@[simp] theorem sv_pure_exact (sz z l) : (sv sz z l .exact).pure = true := sv_pure_plain sz z l .exact
theorem sv_cases (sz z l c) : (z = true ∧ l = [] ∧ sv sz z l c = .nils) ∨ (¬ (z = true ∧ l = []) ∧ sv sz z l c = .slc sz l c) := by
  by_cases h : z = true ∧ l = []
  · exact .inl ⟨h.1, h.2, if_pos h⟩
  · exact .inr ⟨h, if_neg h⟩
theorem sv_elems (sz z l c) : elemsOf sz (sv sz z l c) = some l := by
  rcases sv_cases sz z l c with ⟨_, h, e⟩ | ⟨_, e⟩ <;> rw [e]
  · rw [h]; rfl
  · simp
@[simp] theorem plain_plain (c : Cap) : c.plain.plain = c.plain := by cases c <;> rfl

/-- 'iaddr' and 'slice' under names that simp does not unfold. -/
def iaddrV := iaddr
def sliceV := slice
section
variable {C : Ctx} {call : CallF}
theorem any_iaddr (mem : Mem) (d : Nat) (ρ : Opd → AV) (arr : Option Nat) (sz : Nat) (x i : Opd) : evAny C call mem d ρ (.iaddr arr sz x i) = (iaddrV arr sz (ρ x) (ρ i)).map (·, mem) := rfl
theorem any_slice (mem : Mem) (d : Nat) (ρ : Opd → AV) (k : SKind) (x : Opd) (lo hi mx : Option Opd) : evAny C call mem d ρ (.slice k x lo hi mx) = (sliceV k (ρ x).strip (lo.map ρ) (hi.map ρ) (mx.map ρ)).map (·, mem) := rfl
end
theorem iaddrV_slc (a s z l c k n) : iaddrV a s (.slc z l c) (.int k n) = iaddr a s (.slc z l c) (.int k n) := rfl
theorem iaddrV_mslc (a s i z o l k n) : iaddrV a s (.mslc i z o l) (.int k n) = iaddr a s (.mslc i z o l) (.int k n) := rfl
theorem iaddrV_ptr (a s i o k n) : iaddrV a s (.ptr i o) (.int k n) = iaddr a s (.ptr i o) (.int k n) := rfl
theorem iaddrV_rptr (a s l k n) : iaddrV a s (.rptr l) (.int k n) = iaddr a s (.rptr l) (.int k n) := rfl
theorem iaddrV_nils (a s k n) : iaddrV a s .nils (.int k n) = iaddr a s .nils (.int k n) := rfl
theorem iaddrV_sv (sz z l c) (k : IntKind) (i : Int) : iaddrV none sz (sv sz z l c) (.int k i) = if 0 ≤ i then (l[i.toNat]?).map fun v => .rptr v.cells else none := by
  show iaddr _ _ _ _ = _
  unfold sv; split
  · rename_i h; rw [h.2]; simp [iaddr]
  · unfold iaddr; simp
theorem sliceV_str (k s lo hi mx) : sliceV k (.str s) lo hi mx = slice k (.str s) lo hi mx := rfl
theorem sliceV_slc (k z l c lo hi mx) : sliceV k (.slc z l c) lo hi mx = slice k (.slc z l c) lo hi mx := rfl
theorem sliceV_nils (k lo hi mx) : sliceV k .nils lo hi mx = slice k .nils lo hi mx := rfl
theorem sliceV_mslc (k i z o l lo hi mx) : sliceV k (.mslc i z o l) lo hi mx = slice k (.mslc i z o l) lo hi mx := rfl
theorem sliceV_ptr (k i o lo hi mx) : sliceV k (.ptr i o) lo hi mx = slice k (.ptr i o) lo hi mx := rfl
/-- x[:h] -/
theorem sliceV_hi (sz z l) (k : IntKind) {h : Nat} (hh : h ≤ l.length) : sliceV (.slc sz) (sv sz z l .unk) none (some (.int k h)) none = some (sv sz (z && l.isEmpty) (l.take h) .unk) := by
  show slice _ _ _ _ _ = _
  rcases sv_cases sz z l .unk with ⟨e1, e2, e⟩ | ⟨hn, e⟩ <;> rw [e]
  · subst e1 e2
    have : h = 0 := by simpa using hh
    subst this
    simp [sv]
  · have h2 : ¬ ((z && l.isEmpty) = true ∧ l.take h = []) := by
      rintro ⟨a, -⟩
      simp at a
      exact hn a
    rw [sv, if_neg h2]
    have : (h : Int) ≤ l.length := by omega
    simp [hh]
/-- x[h:] -/
theorem sliceV_lo (sz z l) (k : IntKind) {h : Nat} (hh : h ≤ l.length) : sliceV (.slc sz) (sv sz z l .unk) (some (.int k h)) none none = some (sv sz (z && l.isEmpty) (l.drop h) .unk) := by
  show slice _ _ _ _ _ = _
  rcases sv_cases sz z l .unk with ⟨e1, e2, e⟩ | ⟨hn, e⟩ <;> rw [e]
  · subst e1 e2
    have : h = 0 := by simpa using hh
    subst this
    simp [sv]
  · have h2 : ¬ ((z && l.isEmpty) = true ∧ l.drop h = []) := by
      rintro ⟨a, -⟩
      simp at a
      exact hn a
    rw [sv, if_neg h2]
    have : (h : Int) ≤ l.length := by omega
    simp [hh]


/-- An append to a list of one's own. -/
theorem append_own {sz bytes : Nat} {z : Bool} {l new : List AV} {y : AV} (hy : elemsOf sz y = some new) (hn : new ≠ []) (hr : (l.length + new.length) * bytes ≤ room) :
    append sz bytes (sv sz z l .own) y = some (sv sz z (l ++ new) .own) := by
  have h1 : sv sz z (l ++ new) .own = .slc sz (l ++ new) .own := if_neg (by simp [hn])
  rw [h1]
  rcases sv_cases sz z l .own with ⟨e1, e2, e⟩ | ⟨_, e⟩ <;> rw [e] <;> unfold append <;> rw [hy]
  · subst e2
    simp at hr
    simp [hn, hr]
  · simp [hn, hr]
theorem append_exact {sz bytes : Nat} {z : Bool} {l new : List AV} {y : AV} (hy : elemsOf sz y = some new) (hn : new ≠ []) (hr : (l.length + new.length) * bytes ≤ room) :
    append sz bytes (sv sz z l .exact) y = some (sv sz z (l ++ new) .own) := by
  have h1 : sv sz z (l ++ new) .own = .slc sz (l ++ new) .own := if_neg (by simp [hn])
  rw [h1]
  rcases sv_cases sz z l .exact with ⟨e1, e2, e⟩ | ⟨_, e⟩ <;> rw [e] <;> unfold append <;> rw [hy]
  · subst e2
    simp at hr
    simp [hn, hr]
  · simp [hn, hr]
theorem append_own1 {sz bytes : Nat} {z : Bool} {l : List AV} {v : AV} {c : Cap} (hr : (l.length + 1) * bytes ≤ room) :
    append sz bytes (sv sz z l .own) (.slc sz [v] c) = some (sv sz z (l ++ [v]) .own) := append_own (by simp [elemsOf]) (by simp) hr
theorem append_exact1 {sz bytes : Nat} {z : Bool} {l : List AV} {v : AV} {c : Cap} (hr : (l.length + 1) * bytes ≤ room) :
    append sz bytes (sv sz z l .exact) (.slc sz [v] c) = some (sv sz z (l ++ [v]) .own) := append_exact (by simp [elemsOf]) (by simp) hr
theorem nils_sv (sz : Nat) (c : Cap) : AV.nils = sv sz true [] c := by simp [sv]
theorem slc_sv (sz : Nat) (l : List AV) (c : Cap) : AV.slc sz l c = sv sz false l c := by simp [sv]

/-- A loop over a list: each round goes on with another state or ends with a result. -/
def runF {α β σ : Type} (step : Nat → α → σ → Sum β σ) (fin : σ → β) : Nat → List α → σ → β
  | _, [], s => fin s
  | i, x :: r, s => match step i x s with
    | .inl b => b
    | .inr s' => runF step fin (i + 1) r s'

theorem loop_fold {α β σ : Type} (l : List α) (H : Nat → σ → β) (step : Nat → α → σ → Sum β σ) (fin : σ → β) (inv : Nat → σ → Prop)
    (hstep : ∀ i x s, l[i]? = some x → inv i s → (∀ b, step i x s = .inl b → H i s = b) ∧ ∀ s', step i x s = .inr s' → H i s = H (i + 1) s' ∧ inv (i + 1) s')
    (hfin : ∀ s, inv l.length s → H l.length s = fin s) (s : σ) (h0 : inv 0 s) : H 0 s = runF step fin 0 l s := by
  have key : ∀ (r : List α) (i : Nat) (s : σ), l.drop i = r → i ≤ l.length → inv i s → H i s = runF step fin i r s := by
    intro r
    induction r with
    | nil =>
      intro i s hd hi h
      have : l.length ≤ i := List.drop_eq_nil_iff.1 hd
      obtain rfl : i = l.length := by omega
      exact hfin s h
    | cons x r ih =>
      intro i s hd hi h
      have hlt : i < l.length := by
        rcases Nat.lt_or_ge i l.length with h | h
        · exact h
        · rw [List.drop_eq_nil_of_le h] at hd; cases hd
      rw [List.drop_eq_getElem_cons hlt] at hd
      injection hd with hx hr
      obtain ⟨k1, k2⟩ := hstep i x s (by rw [List.getElem?_eq_getElem hlt, hx]) h
      simp only [runF]
      cases hs : step i x s with
      | inl b => exact k1 b hs
      | inr s' =>
        obtain ⟨e, hi'⟩ := k2 s' hs
        rw [e]
        exact ih (i + 1) s' hr hlt hi'
  exact key l 0 s (by simp) (Nat.zero_le _) h0

/-- Blocks of frames below, and of the uppermost one. -/
theorem mgetB {f : Fr} {m : Mem} {i : VA.Id} (h : i.fr < m.length) : Mem.get (f :: m) i = m.get i := by
  simp only [Mem.get]; rw [if_neg (by omega)]
theorem msetB {f : Fr} {m : Mem} {i : VA.Id} {c : List AV} (h : i.fr < m.length) : Mem.set (f :: m) i c = f :: m.set i c := by
  simp only [Mem.set]; rw [if_neg (by omega)]
theorem mgetT {f : Fr} {m : Mem} {s : List Nat} : Mem.get (f :: m) ⟨m.length, s⟩ = f.get s := by simp [Mem.get]
theorem msetT {f : Fr} {m : Mem} {s : List Nat} {c : List AV} : Mem.set (f :: m) ⟨m.length, s⟩ c = f.set s c :: m := by simp [Mem.set]
theorem msetL : ∀ (m : Mem) (i : VA.Id) (c : List AV), (m.set i c).length = m.length
  | [], _, _ => rfl
  | f :: r, i, c => by
    simp only [Mem.set]
    split
    · rfl
    · simp [msetL r i c]
theorem fgetS {s : List Nat} {c c' : List AV} : ∀ {f : Fr}, f.get s = some c → (f.set s c').get s = some c'
  | [], h => by simp [Fr.get] at h
  | (k, d) :: r, h => by
    simp only [Fr.get] at h
    simp only [Fr.set]
    split at h
    · rename_i e; rw [if_pos e]; simp [Fr.get, e]
    · rename_i e; rw [if_neg e]; simp only [Fr.get, if_neg e]; exact fgetS h
theorem fsetS {s : List Nat} {c c' : List AV} : ∀ {f : Fr}, (f.set s c).set s c' = f.set s c'
  | [] => rfl
  | (k, d) :: r => by
    by_cases e : s = k
    · simp [Fr.set, e]
    · simp [Fr.set, e, fsetS]
theorem mgetS : ∀ {m : Mem} {i : VA.Id} {c c' : List AV}, m.get i = some c → (m.set i c').get i = some c'
  | [], _, _, _, h => by simp [Mem.get] at h
  | f :: r, i, c, c', h => by
    simp only [Mem.get] at h
    simp only [Mem.set]
    split at h
    · rename_i e; rw [if_pos e]; simp only [Mem.get, if_pos e]; exact fgetS h
    · rename_i e; rw [if_neg e]; simp only [Mem.get, msetL, if_neg e]; exact mgetS h
theorem msetS : ∀ {m : Mem} {i : VA.Id} {c c' : List AV}, (m.set i c).set i c' = m.set i c'
  | [], _, _, _ => rfl
  | f :: r, i, c, c' => by
    by_cases e : i.fr = r.length
    · simp [Mem.set, e, fsetS]
    · simp [Mem.set, e, msetL, msetS]
theorem msetI : ∀ {m : Mem} {i : VA.Id} {c : List AV}, m.get i = some c → m.set i c = m
  | [], _, _, h => by simp [Mem.get] at h
  | f :: r, i, c, h => by
    simp only [Mem.get] at h
    simp only [Mem.set]
    split at h
    · rename_i e
      rw [if_pos e]
      have : ∀ {f : Fr}, f.get i.st = some c → f.set i.st c = f := by
        intro f
        induction f with
        | nil => intro h; rfl
        | cons p r ih =>
          obtain ⟨k, d⟩ := p
          intro h
          simp only [Fr.get] at h
          simp only [Fr.set]
          split at h
          · rename_i e; rw [if_pos e]; cases h; rfl
          · rename_i e; rw [if_neg e, ih h]
      rw [this h]
    · rename_i e; rw [if_neg e, msetI h]
theorem mgetF : ∀ {m : Mem} {i : VA.Id} {c : List AV}, m.get i = some c → i.fr < m.length
  | [], _, _, h => by simp [Mem.get] at h
  | f :: r, i, c, h => by
    simp only [Mem.get] at h
    split at h
    · rename_i e; simp; omega
    · have := mgetF h; simp; omega

attribute [simp ↓] any_iaddr any_slice
attribute [simp] iaddrV_slc iaddrV_mslc iaddrV_ptr iaddrV_rptr iaddrV_nils iaddrV_sv sliceV_str sliceV_slc sliceV_nils sliceV_mslc sliceV_ptr sliceV_hi sliceV_lo

end Go.VA

/-
  Functions of package slices, over elements of any size: what their codes answer, once.
-/
namespace Go.VA
open Go

/-- The place of the first element of which something holds, from place i on; -1: there is none. -/
def idxFrom {α : Type} (p : α → Bool) (i : Nat) : List α → Int
  | [] => -1
  | x :: r => if p x then i else idxFrom p (i + 1) r
def idxOf {α : Type} (p : α → Bool) (l : List α) : Int := idxFrom p 0 l

theorem idxFrom_cases {α : Type} (p : α → Bool) : ∀ (l : List α) (i : Nat), (idxFrom p i l = -1 ∧ ∀ x, x ∈ l → p x = false) ∨ ∃ j x, idxFrom p i l = (i + j : Nat) ∧ l[j]? = some x ∧ p x = true ∧ ∀ y, y ∈ l.take j → p y = false
  | [], i => .inl ⟨rfl, by simp⟩
  | x :: r, i => by
    cases hx : p x with
    | true => exact .inr ⟨0, x, by simp [idxFrom, hx], rfl, hx, by simp⟩
    | false =>
      rcases idxFrom_cases p r (i + 1) with ⟨h1, h2⟩ | ⟨j, y, h1, h2, h3, h4⟩
      · exact .inl ⟨by simp [idxFrom, hx, h1], by simpa [hx] using h2⟩
      · exact .inr ⟨j + 1, y, by simp [idxFrom, hx, h1]; omega, by simpa using h2, h3, by simpa [hx] using h4⟩
theorem idxOf_cases {α : Type} (p : α → Bool) (l : List α) : (idxOf p l = -1 ∧ ∀ x, x ∈ l → p x = false) ∨ ∃ j x, idxOf p l = (j : Nat) ∧ l[j]? = some x ∧ p x = true ∧ ∀ y, y ∈ l.take j → p y = false := by
  have := idxFrom_cases p l 0
  simpa [idxOf] using this

section
variable {C : Ctx}

/-- One round of a loop over places that looks for an element. -/
def bIndexFunc (sz : Nat) : ACode :=
 (.seq (.reg false [⟨.some 9,.bin .lss (.tmp 8) (.tmp 7),.none,[],[]⟩])
 (.seq (.cond (.tmp 9)
 .skip
 (.exit 0))
 (.cut [0,1,7,8] []
 (.seq (.block 1
 (.seq (.reg false [⟨.some 10,.mv (.tmp 8),.none,[],[]⟩,
 ⟨.some 5,.mv (.tmp 10),.none,[],[]⟩])
 (.seq (.reg false [⟨.some 11,.mv (.tmp 1),.none,[],[]⟩,
 ⟨.some 12,.mv (.tmp 0),.none,[],[]⟩,
 ⟨.some 13,.mv (.tmp 5),.none,[],[]⟩,
 ⟨.some 14,.iaddr .none sz (.tmp 12) (.tmp 13),.none,[],[]⟩,
 ⟨.some 15,.load true false sz (.tmp 14),.none,[],[]⟩,
 ⟨.some 16,.call (.tmp 11) [(.tmp 15)],.none,[],[]⟩])
 (.cond (.tmp 16)
 (.seq (.reg false [⟨.some 17,.mv (.tmp 5),.none,[],[]⟩,
 ⟨.some 4,.mv (.tmp 17),.none,[],[]⟩])
 .ret)
 .skip))))
 (.cut [0,1,7,8] []
 (.reg false [⟨.some 18,.bin .add (.tmp 8) (.av (.int .i64 1)),.none,[],[]⟩,
 ⟨.some 8,.mv (.tmp 18),.none,[],[]⟩]))))))
def lIndexFunc (sz : Nat) : ACode := .loop (.cut [0,1,7,8] [] (bIndexFunc sz))
def tIndex : ACode := .cut [] [] (.seq (.reg false [⟨.some 4,.mv (.av (.int .i64 (-1))),.none,[],[]⟩]) .ret)
def aIndexFunc (sz : Nat) : AFunc := ⟨19,
 (.seq (.reg false [⟨.some 4,.mv (.av (.int .i64 0)),.none,[],[]⟩])
 (.seq (.seq (.reg false [⟨.some 6,.mv (.tmp 0),.none,[],[]⟩,
 ⟨.some 7,.len false (.tmp 6),.none,[],[]⟩,
 ⟨.some 8,.mv (.av (.int .i64 0)),.none,[],[]⟩])
 (.block 0
 (lIndexFunc sz)))
 tIndex)),
 [.tmp 4], false⟩

theorem lh_IndexFunc (sz : Nat) (n : Nat) (e : Env) (f : Fr) (m : Mem) : den C (lIndexFunc sz) ⟨tmOf n e, f :: m⟩ = headL C (lIndexFunc sz) n (keepE e [0,1,7,8]) f m := head_of rfl n e f m
theorem ls_IndexFunc (sz : Nat) (n : Nat) (e : Env) (f : Fr) (m : Mem) : headL C (lIndexFunc sz) n e f m = andThen (den C (bIndexFunc sz) ⟨tmOf n (keepE e [0,1,7,8]), f :: m⟩) (den C (lIndexFunc sz)) := head_step rfl n e f m

theorem IndexFunc_loop {α : Type} (av : α → AV) (sz : Nat) (hav : ∀ x, ∃ u, av x = .agg u ∧ u.length = sz) (l : List α) (hl : l.length ≤ 1000000000) (p : α → Bool) (f : FuncId) (caps : List AV) (m : Mem) (z : Bool) (c : Cap) (hc : c.plain = c)
    (hp : ∀ x, x ∈ l → callD C f (av x :: caps) ([] :: m) = some (.bool (p x), [] :: m)) :
    ∀ (k i : Nat), l.length - i = k → i ≤ l.length → retOf false [.tmp 4] m (andThen (atBlock 0 (headL C (lIndexFunc sz) 19 [(0, sv sz z (l.map av) c), (1, .fn f caps), (7, .int .i64 l.length), (8, .int .i64 i)] [] m)) (den C tIndex)) = some (.int .i64 (idxFrom p i (l.drop i)), m)
  | k, i, hk, hi => by
    by_cases hlt : i < l.length
    · have hd : l.drop i = l[i] :: l.drop (i + 1) := List.drop_eq_getElem_cons hlt
      have hw : IntKind.i64.wrap ((i : Int) + 1) = ((i + 1 : Nat) : Int) := by rw [IntWalk.i64_in _ (by omega)]; omega
      have ih := IndexFunc_loop av sz hav l hl p f caps m z c hc hp (k - 1) (i + 1) (by omega) (by omega)
      rw [hd, ls_IndexFunc]
      obtain ⟨u, hu, hu3⟩ := hav l[i]
      have hpx := hp l[i] (List.getElem_mem hlt)
      rw [hu] at hpx
      have ht : u.take sz = u := List.take_of_length_le (by omega)
      have hs : sz ≤ u.length := by omega
      cases hb : p l[i] <;> simp [bIndexFunc, hlt, hu, hs, ht, hpx, hw, lh_IndexFunc, idxFrom, hb, hc] at ih ⊢
      exact ih
    · have : i = l.length := by omega
      subst this
      rw [List.drop_length, ls_IndexFunc]
      simp [bIndexFunc, tIndex, idxFrom]

theorem callD_IndexFuncAt {α : Type} {F : FuncId} {sz : Nat} (h1 : C.prim F = none) (h0 : C.memp F = none) (h2 : C.fn F = some (aIndexFunc sz)) (av : α → AV) (hav : ∀ x, ∃ u, av x = .agg u ∧ u.length = sz) (l : List α) (hl : l.length ≤ 1000000000) (p : α → Bool) (f : FuncId) (caps : List AV)
    (hcp : (caps.map AV.strip) = caps) (z : Bool) (c : Cap) (hc : c.plain = c) (m : Mem) (hp : ∀ x, x ∈ l → callD C f (av x :: caps) ([] :: m) = some (.bool (p x), [] :: m)) :
    callD C F [sv sz z (l.map av) c, .fn f caps] m = some (.int .i64 (idxOf p l), m) := by
  rw [callD_env h1 h2 _ _ (by simp [aIndexFunc]) h0]
  have h := IndexFunc_loop av sz hav l hl p f caps m z c hc hp l.length 0 rfl (Nat.zero_le _)
  rw [List.drop_zero] at h
  simp at h
  simp [aIndexFunc, lh_IndexFunc, hc]
  exact h

theorem callD_IndexFunc {α : Type} {F : FuncId} {sz : Nat} (h1 : C.prim F = none) (h0 : C.memp F = none) (h2 : C.fn F = some (aIndexFunc sz)) (av : α → AV) (hav : ∀ x, ∃ u, av x = .agg u ∧ u.length = sz) (l : List α) (hl : l.length ≤ 1000000000) (p : α → Bool) (f : FuncId) (caps : List AV)
    (hcp : (caps.map AV.strip) = caps) (z : Bool) (c : Cap) (hc : c.plain = c) (hp : ∀ x, x ∈ l → ∀ m, callD C f (av x :: caps) m = some (.bool (p x), m)) (m : Mem) :
    callD C F [sv sz z (l.map av) c, .fn f caps] m = some (.int .i64 (idxOf p l), m) :=
  callD_IndexFuncAt h1 h0 h2 av hav l hl p f caps hcp z c hc m fun x hx => hp x hx _

/-- .. reports whether there is one. -/
def aContainsFunc (g : FuncId) : AFunc := ⟨9,
 (.seq (.reg false [⟨.some 4,.mv (.av (.bool false)),.none,[],[]⟩])
 (.seq (.reg false [⟨.some 5,.mv (.tmp 0),.none,[],[]⟩,
 ⟨.some 6,.mv (.tmp 1),.none,[],[]⟩,
 ⟨.some 7,.call (.av (.fn g [])) [(.tmp 5),(.tmp 6)],.none,[],[]⟩,
 ⟨.some 8,.bin .geq (.tmp 7) (.av (.int .i64 0)),.none,[],[]⟩,
 ⟨.some 4,.mv (.tmp 8),.none,[],[]⟩])
 .ret)),
 [.tmp 4], false⟩

theorem idxFrom_any {α : Type} (p : α → Bool) : ∀ (l : List α) (i : Nat), (decide (0 ≤ idxFrom p i l)) = l.any p
  | [], i => rfl
  | x :: r, i => by
    cases hx : p x <;> simp [idxFrom, hx]
    exact by simpa using idxFrom_any p r (i + 1)

theorem callD_ContainsFuncAt {F g : FuncId} (h1 : C.prim F = none) (h0 : C.memp F = none) (h2 : C.fn F = some (aContainsFunc g)) {α : Type} {p : α → Bool} {l : List α} {x y : AV} (hx : x.strip = x) (hy : y.strip = y)
    (m : Mem) (hg : callD C g [x, y] ([] :: m) = some (.int .i64 (idxOf p l), [] :: m)) : callD C F [x, y] m = some (.bool (l.any p), m) := by
  rw [callD_env h1 h2 _ _ (by simp [aContainsFunc]) h0]
  simp [aContainsFunc, hx, hy, hg, idxOf, idxFrom_any]

theorem callD_ContainsFunc {F g : FuncId} (h1 : C.prim F = none) (h0 : C.memp F = none) (h2 : C.fn F = some (aContainsFunc g)) {α : Type} {p : α → Bool} {l : List α} {x y : AV} (hx : x.strip = x) (hy : y.strip = y)
    (hg : ∀ m, callD C g [x, y] m = some (.int .i64 (idxOf p l), m)) (m : Mem) : callD C F [x, y] m = some (.bool (l.any p), m) :=
  callD_ContainsFuncAt h1 h0 h2 hx hy m (hg _)

/-- The place of a plain value in a list of such. -/
def bIndex1 : ACode :=
 (.seq (.reg false [⟨.some 9,.bin .lss (.tmp 8) (.tmp 7),.none,[],[]⟩])
 (.seq (.cond (.tmp 9)
 .skip
 (.exit 0))
 (.cut [0,1,7,8] []
 (.seq (.block 1
 (.seq (.reg false [⟨.some 10,.mv (.tmp 8),.none,[],[]⟩,
 ⟨.some 5,.mv (.tmp 10),.none,[],[]⟩])
 (.seq (.reg false [⟨.some 11,.mv (.tmp 1),.none,[],[]⟩,
 ⟨.some 12,.mv (.tmp 0),.none,[],[]⟩,
 ⟨.some 13,.mv (.tmp 5),.none,[],[]⟩,
 ⟨.some 14,.iaddr .none 1 (.tmp 12) (.tmp 13),.none,[],[]⟩,
 ⟨.some 15,.load false false 1 (.tmp 14),.none,[],[]⟩,
 ⟨.some 16,.bin .eql (.tmp 11) (.tmp 15),.none,[],[]⟩])
 (.cond (.tmp 16)
 (.seq (.reg false [⟨.some 17,.mv (.tmp 5),.none,[],[]⟩,
 ⟨.some 4,.mv (.tmp 17),.none,[],[]⟩])
 .ret)
 .skip))))
 (.cut [0,1,7,8] []
 (.reg false [⟨.some 18,.bin .add (.tmp 8) (.av (.int .i64 1)),.none,[],[]⟩,
 ⟨.some 8,.mv (.tmp 18),.none,[],[]⟩]))))))
def lIndex1 : ACode := .loop (.cut [0,1,7,8] [] bIndex1)
def aIndex1 : AFunc := ⟨19,
 (.seq (.reg false [⟨.some 4,.mv (.av (.int .i64 0)),.none,[],[]⟩])
 (.seq (.seq (.reg false [⟨.some 6,.mv (.tmp 0),.none,[],[]⟩,
 ⟨.some 7,.len false (.tmp 6),.none,[],[]⟩,
 ⟨.some 8,.mv (.av (.int .i64 0)),.none,[],[]⟩])
 (.block 0
 lIndex1))
 tIndex)),
 [.tmp 4], false⟩
theorem lh_Index1 (n : Nat) (e : Env) (f : Fr) (m : Mem) : den C lIndex1 ⟨tmOf n e, f :: m⟩ = headL C lIndex1 n (keepE e [0,1,7,8]) f m := head_of rfl n e f m
theorem ls_Index1 (n : Nat) (e : Env) (f : Fr) (m : Mem) : headL C lIndex1 n e f m = andThen (den C bIndex1 ⟨tmOf n (keepE e [0,1,7,8]), f :: m⟩) (den C lIndex1) := head_step rfl n e f m

theorem Index_str_loop (l : List (List UInt8)) (hl : l.length ≤ 1000000000) (v : (List UInt8)) (m : Mem) (z : Bool) (c : Cap) (hc : c.plain = c) :
    ∀ (k i : Nat), l.length - i = k → i ≤ l.length → retOf false [.tmp 4] m (andThen (atBlock 0 (headL C lIndex1 19 [(0, sv 1 z (l.map fun x => AV.str x) c), (1, AV.str v), (7, .int .i64 l.length), (8, .int .i64 i)] [] m)) (den C tIndex)) = some (.int .i64 (idxFrom (fun x => v == x) i (l.drop i)), m)
  | k, i, hk, hi => by
    by_cases hlt : i < l.length
    · have hd : l.drop i = l[i] :: l.drop (i + 1) := List.drop_eq_getElem_cons hlt
      have hw : IntKind.i64.wrap ((i : Int) + 1) = ((i + 1 : Nat) : Int) := by rw [IntWalk.i64_in _ (by omega)]; omega
      have ih := Index_str_loop l hl v m z c hc (k - 1) (i + 1) (by omega) (by omega)
      rw [hd, ls_Index1]
      cases hb : (v == l[i]) <;> simp [bIndex1, hlt, hw, lh_Index1, idxFrom, hb, hc, -beq_iff_eq] at ih ⊢
      exact ih
    · have : i = l.length := by omega
      subst this
      rw [List.drop_length, ls_Index1]
      simp [bIndex1, tIndex, idxFrom]

theorem callD_Index_str {F : FuncId} (h1 : C.prim F = none) (h0 : C.memp F = none) (h2 : C.fn F = some aIndex1) (l : List (List UInt8)) (hl : l.length ≤ 1000000000) (v : (List UInt8)) (z : Bool) (c : Cap) (hc : c.plain = c) (m : Mem) :
    callD C F [sv 1 z (l.map fun x => AV.str x) c, AV.str v] m = some (.int .i64 (idxOf (fun x => v == x) l), m) := by
  rw [callD_env h1 h2 _ _ (by simp [aIndex1]) h0]
  have h := Index_str_loop (C := C) l hl v m z c hc l.length 0 rfl (Nat.zero_le _)
  rw [List.drop_zero] at h
  simp at h
  simp [aIndex1, lh_Index1, hc]
  exact h

theorem Index_int_loop (l : List Int) (hl : l.length ≤ 1000000000) (v : Int) (m : Mem) (z : Bool) (c : Cap) (hc : c.plain = c) :
    ∀ (k i : Nat), l.length - i = k → i ≤ l.length → retOf false [.tmp 4] m (andThen (atBlock 0 (headL C lIndex1 19 [(0, sv 1 z (l.map fun x => AV.int .i64 x) c), (1, AV.int .i64 v), (7, .int .i64 l.length), (8, .int .i64 i)] [] m)) (den C tIndex)) = some (.int .i64 (idxFrom (fun x => v == x) i (l.drop i)), m)
  | k, i, hk, hi => by
    by_cases hlt : i < l.length
    · have hd : l.drop i = l[i] :: l.drop (i + 1) := List.drop_eq_getElem_cons hlt
      have hw : IntKind.i64.wrap ((i : Int) + 1) = ((i + 1 : Nat) : Int) := by rw [IntWalk.i64_in _ (by omega)]; omega
      have ih := Index_int_loop l hl v m z c hc (k - 1) (i + 1) (by omega) (by omega)
      rw [hd, ls_Index1]
      cases hb : (v == l[i]) <;> simp [bIndex1, hlt, hw, lh_Index1, idxFrom, hb, hc, -beq_iff_eq] at ih ⊢
      exact ih
    · have : i = l.length := by omega
      subst this
      rw [List.drop_length, ls_Index1]
      simp [bIndex1, tIndex, idxFrom]

theorem callD_Index_int {F : FuncId} (h1 : C.prim F = none) (h0 : C.memp F = none) (h2 : C.fn F = some aIndex1) (l : List Int) (hl : l.length ≤ 1000000000) (v : Int) (z : Bool) (c : Cap) (hc : c.plain = c) (m : Mem) :
    callD C F [sv 1 z (l.map fun x => AV.int .i64 x) c, AV.int .i64 v] m = some (.int .i64 (idxOf (fun x => v == x) l), m) := by
  rw [callD_env h1 h2 _ _ (by simp [aIndex1]) h0]
  have h := Index_int_loop (C := C) l hl v m z c hc l.length 0 rfl (Nat.zero_le _)
  rw [List.drop_zero] at h
  simp at h
  simp [aIndex1, lh_Index1, hc]
  exact h

/-- x[:len(x):len(x)] -/
def aClip (sz : Nat) : AFunc := ⟨9,
 (.seq (.reg false [⟨.some 2,.mv (.av .nils),.none,[],[]⟩])
 (.seq (.reg false [⟨.some 3,.mv (.tmp 0),.none,[],[]⟩,
 ⟨.some 4,.mv (.tmp 0),.none,[],[]⟩,
 ⟨.some 5,.len false (.tmp 4),.none,[],[]⟩,
 ⟨.some 6,.mv (.tmp 0),.none,[],[]⟩,
 ⟨.some 7,.len false (.tmp 6),.none,[],[]⟩,
 ⟨.some 8,.slice (.slc sz) (.tmp 3) .none (.some (.tmp 5)) (.some (.tmp 7)),.none,[],[]⟩,
 ⟨.some 2,.mv (.tmp 8),.none,[8],[]⟩])
 .ret)),
 [.tmp 2], false⟩
theorem sliceV_clip (sz z l) (c : Cap) (hc : c.plain = c) (k k' : IntKind) : sliceV (.slc sz) (sv sz z l c) none (some (.int k l.length)) (some (.int k' l.length)) = some (sv sz z l .exact) := by
  show slice _ _ _ _ _ = _
  unfold sv
  by_cases h : z = true ∧ l = []
  · rw [if_pos h, if_pos h]; simp [h.2]
  · rw [if_neg h, if_neg h]; simp
theorem callD_Clip {F : FuncId} {sz : Nat} (h1 : C.prim F = none) (h0 : C.memp F = none) (h2 : C.fn F = some (aClip sz)) (z : Bool) (l : List AV) (c : Cap) (hc : c.plain = c) (m : Mem) :
    callD C F [sv sz z l c] m = some (sv sz z l .exact, m) := by
  rw [callD_env h1 h2 _ _ (by simp [aClip]) h0]
  simp [aClip, hc, sliceV_clip]

/-- with: append(slices.Clip(l), x). -/
def aWith (g : FuncId) (sz bytes : Nat) (zero : List AV) : AFunc := ⟨10,
 (.seq (.reg false [⟨.some 3,.box true (.tmp 1),.none,[],[]⟩,
 ⟨.some 4,.mv (.av .nils),.none,[],[]⟩])
 (.seq (.reg true [⟨.some 5,.mv (.tmp 0),.none,[],[]⟩,
 ⟨.some 6,.call (.av (.fn g [])) [(.tmp 5)],.none,[],[1]⟩,
 ⟨.some 7,.load true false sz (.tmp 3),.none,[],[]⟩,
 ⟨.some 8,.bslice true sz 1 zero [(0,(.tmp 7))],.none,[],[]⟩,
 ⟨.some 9,.append sz bytes (.tmp 6) (.tmp 8),.none,[6],[]⟩,
 ⟨.some 4,.mv (.tmp 9),.none,[9],[]⟩])
 .ret)),
 [.tmp 4], false⟩
theorem callD_With {F g : FuncId} {sz bytes : Nat} {zero : List AV} (h1 : C.prim F = none) (h0 : C.memp F = none) (h2 : C.fn F = some (aWith g sz bytes zero)) (z : Bool) (l : List AV) (c : Cap) (hc : c.plain = c) (u : List AV)
    (hu : u.length = sz) (hok : (AV.agg u).okElem sz = true) (hz : zero.length = sz) (hz1 : sz ≠ 1) (hp : AV.pure.pures u = true) (hr : (l.length + 1) * bytes ≤ room) (hg : ∀ m, callD C g [sv sz z l c] m = some (sv sz z l .exact, m)) (m : Mem) :
    callD C F [sv sz z l c, .agg u] m = some (sv sz z (l ++ [.agg u]) .own, m) := by
  rw [callD_env h1 h2 _ _ (by simp [aWith]) h0]
  have ht : u.take sz = u := List.take_of_length_le (by omega)
  have hs : sz ≤ u.length := by omega
  have hb : setElems sz (toElems sz zero 1) [(0, .agg u)] = some [.agg u] := by
    simp only [setElems, hok]
    simp [toElems]
  have ha := append_exact1 (sz := sz) (z := z) (l := l) (v := .agg u) (c := .exact) hr
  simp [aWith, hc, hp, hg, hs, ht, hb, ha, -setElems, -toElems]

/-- A copy in memory of its own. -/
def aClone (sz bytes : Nat) (zero : List AV) : AFunc := ⟨8,
 (.seq (.reg false [⟨.some 2,.mv (.av .nils),.none,[],[]⟩])
 (.seq (.seq (.reg false [⟨.some 3,.mv (.tmp 0),.none,[],[]⟩,
 ⟨.some 4,.eq .slc false (.tmp 3) (.av .nils),.none,[],[]⟩])
 (.cond (.tmp 4)
 (.seq (.reg false [⟨.some 2,.mv (.av .nils),.none,[],[]⟩])
 .ret)
 .skip))
 (.cut [0] []
 (.seq (.reg false [⟨.some 5,.bslice true sz 0 zero [],.none,[],[]⟩,
 ⟨.some 6,.mv (.tmp 0),.none,[],[]⟩,
 ⟨.some 7,.append sz bytes (.tmp 5) (.tmp 6),.none,[5],[]⟩,
 ⟨.some 2,.mv (.tmp 7),.none,[7],[]⟩])
 .ret)))),
 [.tmp 2], false⟩
theorem callD_Clone {F : FuncId} {sz bytes : Nat} {zero : List AV} (h1 : C.prim F = none) (h0 : C.memp F = none) (h2 : C.fn F = some (aClone sz bytes zero)) (z : Bool) (l : List AV) (c : Cap) (hc : c.plain = c) (hr : l.length * bytes ≤ room) (m : Mem) :
    callD C F [sv sz z l c] m = some (sv sz z l (if l = [] then .exact else .own), m) := by
  rw [callD_env h1 h2 _ _ (by simp [aClone]) h0]
  by_cases hn : z = true ∧ l = []
  · obtain ⟨rfl, rfl⟩ := hn
    simp [aClone, sv]
  · have e : ∀ c, sv sz z l c = .slc sz l c := fun c => if_neg hn
    have hs : (AV.slc sz l c).strip = .slc sz l c := by cases c <;> first | rfl | cases hc
    have ha : append sz bytes (.slc sz [] .exact) (.slc sz l c) = some (.slc sz l (if l = [] then .exact else .own)) := by
      unfold append
      by_cases hl : l = []
      · subst hl; simp [room]
      · simp [hl, hr]
    rw [e, e]
    simp [aClone, hs, ha, toElems]

end
end Go.VA

/-
  The types of the desk, plain, and their forms as values of the abstract machine.
-/
namespace Go.DM
open Go Go.VA

abbrev Str := List UInt8
abbrev I (n : Int) : AV := .int .i64 n

structure Vessel where
  name : Str
  vol : Int
  most : Int
  deriving DecidableEq
structure Gas where
  o : Int
  h : Int
  deriving DecidableEq
structure Cont where
  o : Int
  h : Int
  n : Int
  deriving DecidableEq
structure Fill where
  kind : Int
  day : Int
  frm : Str
  to : Str
  gas : Gas
  amt : Int
  pump : Bool
  deriving DecidableEq
structure Item where
  name : Str
  kind : Int
  bought : Int
  deriving DecidableEq
structure Rule where
  name : Str
  kind : Int
  days : Int
  uses : Int
  deriving DecidableEq
structure Ev where
  kind : Int
  day : Int
  item : Str
  rule : Str
  frm : Str
  passed : Bool
  deriving DecidableEq
structure Leg where
  sec : Int
  depth : Int
  gas : Int
  deriving DecidableEq
structure Plan where
  name : Str
  surf : Int
  gases : List Gas
  legs : List Leg
  deriving DecidableEq
structure Dive where
  name : Str
  plan : Str
  diver : Str
  day : Int
  sec : Int
  vessels : List Str
  deriving DecidableEq
structure Point where
  sec : Int
  depth : Int
  deriving DecidableEq
structure Rec where
  dive : Str
  points : List Point
  deriving DecidableEq
structure Sign where
  dive : Str
  by' : Str
  deriving DecidableEq
structure Person where
  name : Str
  role : Int
  deriving DecidableEq
structure ORow where
  frm : Int
  rate : Int
  deriving DecidableEq
structure XRules where
  table : List ORow
  least : Int
  most : Int
  narc : Int
  dense : Int
  breath : Int
  emerg : Int
  pause : Int
  ascent : Int
  deriving DecidableEq
structure Comp where
  n : Int
  h : Int
  base : Int
  slope : Int
  deriving DecidableEq
structure Setup where
  items : List Item
  rules : List Rule
  deriving DecidableEq
structure Desk where
  vessels : List Vessel
  kit : Setup
  people : List Person
  rules : XRules
  table : List Comp
  deriving DecidableEq
structure Entry where
  by' : Str
  text : Str
  deriving DecidableEq

/-- How a slice is laid: whether it is nil where it is empty; what is known of its room. -/
structure SF where
  z : Bool
  c : Cap
  hc : c.plain = c
@[simp] theorem SF.plain (φ : SF) : φ.c.plain = φ.c := φ.hc
@[simp] theorem sv_pure_sf (φ : SF) (sz z l) : (sv sz z l φ.c).pure = true := by
  have := sv_pure_plain sz z l φ.c
  rwa [φ.hc] at this
def SF.n : SF := ⟨true, .unk, rfl⟩

def Vessel.av (x : Vessel) : AV := .agg [.str x.name, I x.vol, I x.most]
def Gas.av (x : Gas) : AV := .agg [I x.o, I x.h]
def Cont.av (x : Cont) : AV := .agg [I x.o, I x.h, I x.n]
def Fill.av (x : Fill) : AV := .agg [I x.kind, I x.day, .str x.frm, .str x.to, I x.gas.o, I x.gas.h, I x.amt, .bool x.pump]
def Item.av (x : Item) : AV := .agg [.str x.name, I x.kind, I x.bought]
def Rule.av (x : Rule) : AV := .agg [.str x.name, I x.kind, I x.days, I x.uses]
def Ev.av (x : Ev) : AV := .agg [I x.kind, I x.day, .str x.item, .str x.rule, .str x.frm, .bool x.passed]
def Leg.av (x : Leg) : AV := .agg [I x.sec, I x.depth, I x.gas]
def gasesAV (l : List Gas) : AV := sv 2 true (l.map Gas.av) .unk
def legsAV (l : List Leg) : AV := sv 3 true (l.map Leg.av) .unk
def Plan.av (x : Plan) : AV := .agg [.str x.name, I x.surf, gasesAV x.gases, legsAV x.legs]
def strsAV (l : List Str) : AV := sv 1 true (l.map fun s => AV.str s) .unk
def Dive.av (x : Dive) : AV := .agg [.str x.name, .str x.plan, .str x.diver, I x.day, I x.sec, strsAV x.vessels]
def Point.av (x : Point) : AV := .agg [I x.sec, I x.depth]
def pointsAV (l : List Point) : AV := sv 2 true (l.map Point.av) .unk
def Rec.av (x : Rec) : AV := .agg [.str x.dive, pointsAV x.points]
def Sign.av (x : Sign) : AV := .agg [.str x.dive, .str x.by']
def Person.av (x : Person) : AV := .agg [.str x.name, I x.role]
def ORow.av (x : ORow) : AV := .agg [I x.frm, I x.rate]
def Comp.av (x : Comp) : AV := .agg [I x.n, I x.h, I x.base, I x.slope]
def Entry.av (x : Entry) : AV := .agg [.str x.by', .str x.text]

end Go.DM
