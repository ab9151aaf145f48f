/-
  Temporaries as a short list of what is known: for walks by equations.
-/
import Derived.Test.YtifieekfojbkhaaGreatDoorVaDen
import Derived.IntWalk
set_option linter.unusedSimpArgs false
set_option linter.unusedVariables false
namespace Go.VA
open Go

abbrev Env := List (Nat × AV)

/-- What an environment holds at a place. -/
def look : Env → Nat → AV
  | [], _ => .undef
  | (d, v) :: r, t => if d = t then v else look r t

/-- The temporaries that an environment tells. -/
def tmOf (n : Nat) (e : Env) : List AV := (List.range n).map (look e)

def keepE (e : Env) : List Nat → Env
  | [] => []
  | t :: r => (t, look e t) :: keepE e r

theorem look_nil (t : Nat) : look [] t = .undef := rfl
theorem look_cons (d : Nat) (v : AV) (e : Env) (t : Nat) : look ((d, v) :: e) t = if d = t then v else look e t := rfl
theorem look_same (d : Nat) (v : AV) (e : Env) : look ((d, v) :: e) d = v := by simp [look]
theorem keepE_nil (e : Env) : keepE e [] = [] := rfl
theorem keepE_cons (e : Env) (t : Nat) (r : List Nat) : keepE e (t :: r) = (t, look e t) :: keepE e r := rfl

theorem tmOf_length (n : Nat) (e : Env) : (tmOf n e).length = n := by simp [tmOf]

theorem getT_tmOf (n : Nat) (e : Env) (t : Nat) : getT (tmOf n e) t = if t < n then look e t else .undef := by
  unfold getT tmOf
  rw [List.getD_eq_getElem?_getD, List.getElem?_map]
  by_cases h : t < n
  · rw [List.getElem?_range h, if_pos h]; rfl
  · rw [List.getElem?_eq_none (by simpa using h), if_neg h]; rfl

theorem set_tmOf (n : Nat) (e : Env) (d : Nat) (v : AV) : (tmOf n e).set d v = tmOf n ((d, v) :: e) := by
  apply List.ext_getElem?
  intro i
  unfold tmOf
  rw [List.getElem?_set, List.getElem?_map, List.getElem?_map]
  by_cases hi : i < n
  · rw [List.getElem?_range hi]
    by_cases hd : d = i
    · subst hd
      simp [hi, look]
    · simp [hd, look]
  · rw [List.getElem?_eq_none (by simpa using hi)]
    by_cases hd : d = i
    · subst hd; simp [hi]
    · simp [hd]

theorem putT_tmOf (n : Nat) (e : Env) (d : Nat) (v : AV) : putT (tmOf n e) (some d) v = tmOf n ((d, v) :: e) := set_tmOf n e d v
theorem putT_none (tm : List AV) (v : AV) : putT tm none v = tm := rfl
theorem stripAll_nil (tm : List AV) : stripAll tm [] = tm := rfl
theorem stripAll_tmOf (n : Nat) (e : Env) (t : Nat) (r : List Nat) : stripAll (tmOf n e) (t :: r) = stripAll (tmOf n ((t, (getT (tmOf n e) t).strip) :: e)) r := by
  show stripAll ((tmOf n e).set t _) r = _
  rw [set_tmOf]

theorem look_keepE (e : Env) : ∀ (keep : List Nat) (t : Nat), look (keepE e keep) t = if t ∈ keep then look e t else .undef
  | [], t => by simp [keepE, look]
  | k :: r, t => by
    rw [keepE_cons, look_cons, look_keepE e r t]
    by_cases h : k = t
    · subst h; simp
    · have h' : ¬ t = k := fun e => h e.symm
      simp [h, h']

theorem keepT_get' (keep : List Nat) : ∀ (tm : List AV) (k i : Nat), (keepT keep k tm)[i]? = (tm[i]?).map fun v => if k + i ∈ keep then v else .undef
  | [], k, i => by simp [keepT]
  | v :: r, k, i => by
    cases i with
    | zero => simp [keepT]
    | succ i =>
      simp only [keepT, List.getElem?_cons_succ]
      rw [keepT_get' keep r (k + 1) i]
      congr 1
      funext u
      rw [show k + 1 + i = k + (i + 1) by omega]

theorem keepT_tmOf (n : Nat) (e : Env) (keep : List Nat) : keepT keep 0 (tmOf n e) = tmOf n (keepE e keep) := by
  apply List.ext_getElem?
  intro i
  rw [keepT_get']
  unfold tmOf
  rw [List.getElem?_map, List.getElem?_map]
  by_cases hi : i < n
  · rw [List.getElem?_range hi]
    simp [look_keepE]
  · rw [List.getElem?_eq_none (by simpa using hi)]
    rfl

theorem cut_tmOf (n : Nat) (e : Env) (keep : List Nat) (f : Fr) (m : Mem) : evCut keep [] ⟨tmOf n e, f :: m⟩ = some ⟨tmOf n (keepE e keep), f :: m⟩ := by
  unfold evCut
  simp [keepT_tmOf, free, Fr.drop]

theorem init_tmOf (args : List AV) (n : Nat) (h : args.length ≤ n) : args ++ List.replicate (n - args.length) .undef = tmOf n (args.zipIdx.map fun p => (p.2, p.1)) := by
  have key : ∀ (l : List AV) (k t : Nat), look ((l.zipIdx k).map fun p => (p.2, p.1)) t = if k ≤ t then l.getD (t - k) .undef else .undef := by
    intro l
    induction l with
    | nil => intro k t; simp [look]
    | cons a l ih =>
      intro k t
      simp only [List.zipIdx_cons, List.map_cons, look_cons, ih]
      by_cases h1 : k = t
      · subst h1; simp
      · rw [if_neg h1]
        by_cases h2 : k + 1 ≤ t
        · rw [if_pos h2, if_pos (by omega), show t - k = (t - (k + 1)) + 1 by omega]; rfl
        · rw [if_neg h2, if_neg (by omega)]
  apply List.ext_getElem?
  intro i
  unfold tmOf
  rw [List.getElem?_map]
  by_cases hi : i < n
  · rw [List.getElem?_range hi]
    simp only [Option.map_some, key, Nat.zero_le, if_true, Nat.sub_zero]
    rw [List.getElem?_append, List.getD_eq_getElem?_getD]
    split
    · rename_i h1; rw [List.getElem?_eq_getElem h1]; rfl
    · rename_i h1
      rw [List.getElem?_replicate, if_pos (by omega), List.getElem?_eq_none (l := args) (by omega)]
      rfl
  · rw [List.getElem?_eq_none (by simp; omega), List.getElem?_eq_none (by simpa using hi)]
    rfl

section
variable {C : Ctx}

/-- What a body's end comes to. -/
def retOf (rs : List ARes) (mem : Mem) : Option (Ex × St) → Option (AV × Mem)
  | some (.normal, σ) | some (.ret, σ) =>
    (evResults σ.tm σ.mem rs).bind fun v => if v.under mem.length then some (v, σ.mem.tail) else
      (freeze σ.mem mem.length 16 v).bind fun u => if u.under mem.length then some (u, σ.mem.tail) else none
  | _ => none

theorem callD_fn {f : FuncId} {af : AFunc} (h1 : C.prim f = none) (h2 : C.fn f = some af) (args : List AV) (mem : Mem) :
    callD C f args mem = retOf af.results mem (den C af.body ⟨args ++ List.replicate (af.ntmps - args.length) .undef, [] :: mem⟩) := by
  unfold callD callWith
  rw [h1, h2]
  dsimp only
  cases den C af.body ⟨args ++ List.replicate (af.ntmps - args.length) .undef, [] :: mem⟩ with
  | none => rfl
  | some r => obtain ⟨e, σ⟩ := r; cases e <;> rfl

theorem callD_env {f : FuncId} {af : AFunc} (h1 : C.prim f = none) (h2 : C.fn f = some af) (args : List AV) (mem : Mem) (h : args.length ≤ af.ntmps) :
    callD C f args mem = retOf af.results mem (den C af.body ⟨tmOf af.ntmps (args.zipIdx.map fun p => (p.2, p.1)), [] :: mem⟩) := by
  rw [callD_fn h1 h2, init_tmOf args _ h]

theorem callD_prim {f : FuncId} {q : List AV → Option AV} (h1 : C.prim f = some q) (args : List AV) (mem : Mem) :
    callD C f args mem = if AV.pure.pures args then (q args).map (·, mem) else none := by
  unfold callD callWith
  rw [h1]

/-- The rest of a region, behind an operation. -/
def thenOps (C : Ctx) (call : CallF) (r : List AOper) : Option St → Option St
  | none => none
  | some σ => evOps C call r σ
def thenDraw (C : Ctx) (call : CallF) (r : List AOper) (k : Nat) (rs ws : List (Nat × Foot)) (m : Mem) : Option St → Option St
  | none => none
  | some σ => if σ.mem = m then evDraw C call r k rs ws σ else none
def thenDrawS (C : Ctx) (call : CallF) (r : List AOper) (k : Nat) (rs ws : List (Nat × Foot)) : Option St → Option St
  | none => none
  | some σ => evDraw C call r k rs ws σ

/-- An operation without a guard, whose places take nothing over. -/
def plainOp (tm : List AV) (take : List Nat) (dst : Option Nat) : Option (AV × Mem) → Option St
  | none => none
  | some (v, m) => some ⟨putT (stripAll tm take) dst v, m⟩
def guardOp (b : Bool) (σ : St) (dst : Option Nat) (r : Option St) : Option St := cond b r (some ⟨putT σ.tm dst (.tup []), σ.mem⟩)

variable {call : CallF}

theorem evOps_nil (σ : St) : evOps C call [] σ = some σ := rfl
theorem evOps_cons (o : AOper) (r : List AOper) (σ : St) : evOps C call (o :: r) σ = thenOps C call r (evOper C call o σ) := by
  show (evOper C call o σ).bind (evOps C call r) = _
  cases evOper C call o σ <;> rfl
theorem thenOps_some (r : List AOper) (σ : St) : thenOps C call r (some σ) = evOps C call r σ := rfl
theorem thenDraw_some (r : List AOper) (k rs ws m) (tm : List AV) : thenDraw C call r k rs ws m (some ⟨tm, m⟩) = evDraw C call r k rs ws ⟨tm, m⟩ := if_pos rfl
theorem thenDrawS_some (r : List AOper) (k rs ws) (σ : St) : thenDrawS C call r k rs ws (some σ) = evDraw C call r k rs ws σ := rfl

theorem evOper_plain (dst op take ap) (σ : St) : evOper C call ⟨dst, op, none, take, ap⟩ σ = plainOp σ.tm take dst (evAny C call σ.mem (dst.getD 0) (rho σ.tm take) op) := by
  show (evAny C call σ.mem (dst.getD 0) (rho σ.tm take) op).map _ = _
  cases evAny C call σ.mem (dst.getD 0) (rho σ.tm take) op with
  | none => rfl
  | some p => rfl
theorem plainOp_some (tm take dst v m) : plainOp tm take dst (some (v, m)) = some ⟨putT (stripAll tm take) dst v, m⟩ := rfl

theorem sv_undef : AV.strip (.undef) = .undef := rfl
theorem sv_bool (b : Bool) : AV.strip (.bool b) = .bool b := rfl
theorem sv_int (k : IntKind) (n : Int) : AV.strip (.int k n) = .int k n := rfl
theorem sv_str (l : List UInt8) : AV.strip (.str l) = .str l := rfl
theorem sv_nilp : AV.strip (.nilp) = .nilp := rfl
theorem sv_nils : AV.strip (.nils) = .nils := rfl
theorem sv_nili : AV.strip (.nili) = .nili := rfl
theorem sv_nilf : AV.strip (.nilf) = .nilf := rfl
theorem sv_agg (l : List AV) : AV.strip (.agg l) = .agg l := rfl
theorem sv_tup (l : List AV) : AV.strip (.tup l) = .tup l := rfl
theorem sv_rptr (l : List AV) : AV.strip (.rptr l) = .rptr l := rfl
theorem sv_ptr (i : VA.Id) (o : Nat) : AV.strip (.ptr i o) = .ptr i o := rfl
theorem sv_mslc (i : VA.Id) (s o n : Nat) : AV.strip (.mslc i s o n) = .mslc i s o n := rfl
theorem sv_iface (t : TypeId) (v : AV) : AV.strip (.iface t v) = .iface t v := rfl
theorem sv_fn (f : FuncId) (l : List AV) : AV.strip (.fn f l) = .fn f l := rfl
theorem sv_map (l : List AV) : AV.strip (.map l) = .map l := rfl
theorem sv_unk (s : Nat) (l : List AV) : AV.strip (.slc s l .unk) = .slc s l .unk := rfl
theorem sv_exact (s : Nat) (l : List AV) : AV.strip (.slc s l .exact) = .slc s l .exact := rfl
theorem sv_own (s : Nat) (l : List AV) : AV.strip (.slc s l .own) = .slc s l .unk := rfl
theorem sv_cap (s : Nat) (l : List AV) {c : Cap} (h : c ≠ .own) : AV.strip (.slc s l c) = .slc s l c := by cases c <;> first | rfl | exact absurd rfl h
/-- .. with a guard: what the guard's place holds is known in either way. -/
def askG (C : Ctx) (call : CallF) (dst : Option Nat) (op : AOp) (take ap : List Nat) (t : Nat) (w : Bool) (σ : St) : AV → Option St
  | .bool b => cond (b == w) (evOper C call ⟨dst, op, none, take, ap⟩ ⟨putT σ.tm (some t) (.bool w), σ.mem⟩) (some ⟨putT (putT σ.tm (some t) (.bool !w)) dst (.tup []), σ.mem⟩)
  | .tup [] => some ⟨putT σ.tm dst (.tup []), σ.mem⟩
  | _ => none
theorem set_getT {tm : List AV} {t : Nat} {v : AV} (h : getT tm t = v) (hv : v ≠ .undef) : tm.set t v = tm := by
  apply List.ext_getElem?
  intro i
  rw [List.getElem?_set]
  split
  · rename_i e
    subst e
    unfold getT at h
    rw [List.getD_eq_getElem?_getD] at h
    by_cases hi : t < tm.length
    · rw [List.getElem?_eq_getElem hi] at h ⊢
      simp only [Option.getD_some] at h
      rw [if_pos hi, h]
    · rw [List.getElem?_eq_none (by omega)] at h
      exact absurd h.symm hv
  · rfl
theorem evOper_guard (dst op take ap t w) (σ : St) : evOper C call ⟨dst, op, some (t, w), take, ap⟩ σ = askG C call dst op take ap t w σ (getT σ.tm t) := by
  have key : evOper C call ⟨dst, op, some (t, w), take, ap⟩ σ = (match getT σ.tm t with
    | .bool b => cond (b == w) (evOper C call ⟨dst, op, none, take, ap⟩ σ) (some ⟨putT σ.tm dst (.tup []), σ.mem⟩)
    | .tup [] => some ⟨putT σ.tm dst (.tup []), σ.mem⟩
    | _ => none) := rfl
  rw [key]
  cases h : getT σ.tm t with
  | bool b =>
    have hs : σ.tm.set t (.bool b) = σ.tm := set_getT h (by simp)
    show cond _ _ _ = cond _ _ _
    by_cases hb : b = w
    · subst hb
      simp only [BEq.rfl, cond_true]
      show _ = evOper C call _ ⟨σ.tm.set t (.bool b), σ.mem⟩
      rw [hs]
    · have hb' : (b == w) = false := by simp [hb]
      have hn : (!w) = b := by cases b <;> cases w <;> simp at hb ⊢
      rw [hb', hn]
      show some _ = some (St.mk (putT (σ.tm.set t (.bool b)) dst (.tup [])) σ.mem)
      rw [hs]
  | tup l => cases l <;> rfl
  | _ => rfl
theorem askG_bool (dst op take ap t w) (σ : St) (b : Bool) : askG C call dst op take ap t w σ (.bool b) =
    cond (b == w) (evOper C call ⟨dst, op, none, take, ap⟩ ⟨putT σ.tm (some t) (.bool w), σ.mem⟩) (some ⟨putT (putT σ.tm (some t) (.bool !w)) dst (.tup []), σ.mem⟩) := rfl
theorem askG_skip (dst op take ap t w) (σ : St) : askG C call dst op take ap t w σ (.tup []) = some ⟨putT σ.tm dst (.tup []), σ.mem⟩ := rfl

/-- Both ways of an open test. -/
theorem andThen_ite (p : Prop) [Decidable p] (a b : Option (Ex × St)) (k) : andThen (if p then a else b) k = if p then andThen a k else andThen b k := by split <;> rfl
theorem atBlock_ite (p : Prop) [Decidable p] (a b : Option (Ex × St)) (i) : atBlock i (if p then a else b) = if p then atBlock i a else atBlock i b := by split <;> rfl
theorem retOf_ite (p : Prop) [Decidable p] (a b : Option (Ex × St)) (rs m) : retOf rs m (if p then a else b) = if p then retOf rs m a else retOf rs m b := by split <;> rfl
theorem thenOps_ite (p : Prop) [Decidable p] (a b : Option St) (r) : thenOps C call r (if p then a else b) = if p then thenOps C call r a else thenOps C call r b := by split <;> rfl
theorem thenDraw_ite (p : Prop) [Decidable p] (a b : Option St) (r k rs ws m) : thenDraw C call r k rs ws m (if p then a else b) = if p then thenDraw C call r k rs ws m a else thenDraw C call r k rs ws m b := by split <;> rfl
theorem plainOp_ite (p : Prop) [Decidable p] (a b : Option (AV × Mem)) (tm t d) : plainOp tm t d (if p then a else b) = if p then plainOp tm t d a else plainOp tm t d b := by split <;> rfl
theorem map_ite {α β : Type} (p : Prop) [Decidable p] (a b : Option α) (f : α → β) : Option.map f (if p then a else b) = if p then Option.map f a else Option.map f b := by split <;> rfl
theorem merge_and {α : Type} (p q : Prop) [Decidable p] [Decidable q] (a b : α) : (if p then (if q then a else b) else b) = if p ∧ q then a else b := by
  by_cases p <;> by_cases q <;> simp_all
theorem merge_or {α : Type} (p q : Prop) [Decidable p] [Decidable q] (a b : α) : (if p then a else (if q then a else b)) = if p ∨ q then a else b := by
  by_cases p <;> by_cases q <;> simp_all
theorem merge_and' {α : Type} (p q : Prop) [Decidable p] [Decidable q] (a b : α) : (if p then (if q then b else a) else b) = if p ∧ ¬q then a else b := by
  by_cases p <;> by_cases q <;> simp_all
theorem merge_or' {α : Type} (p q : Prop) [Decidable p] [Decidable q] (a b : α) : (if p then a else (if q then b else a)) = if p ∨ ¬q then a else b := by
  by_cases p <;> by_cases q <;> simp_all
theorem cond_to_ite {α : Type} (p : Bool) (a b : α) : cond p a b = if p = true then a else b := by cases p <;> rfl
theorem ite_av_bool (p : Prop) [Decidable p] (a b : Bool) : (if p then AV.bool a else AV.bool b) = AV.bool (if p then a else b) := by split <;> rfl
theorem andThen_none (k) : andThen none k = none := rfl
theorem atBlock_none (i) : atBlock i none = none := rfl
theorem retOf_none (rs m) : retOf rs m none = none := rfl
theorem thenOps_none (r) : thenOps C call r none = none := rfl
theorem thenDraw_none (r k rs ws m) : thenDraw C call r k rs ws m none = none := rfl
theorem thenDrawS_none (r k rs ws) : thenDrawS C call r k rs ws none = none := rfl
theorem plainOp_none (tm t d) : plainOp tm t d none = none := rfl
theorem thenDrawS_ite (p : Prop) [Decidable p] (a b : Option St) (r k rs ws) : thenDrawS C call r k rs ws (if p then a else b) = if p then thenDrawS C call r k rs ws a else thenDrawS C call r k rs ws b := by split <;> rfl
theorem retOf_normal (rs mem) (σ : St) : retOf rs mem (some (.normal, σ)) = (evResults σ.tm σ.mem rs).bind fun v => if v.under mem.length then some (v, σ.mem.tail) else
      (freeze σ.mem mem.length 16 v).bind fun u => if u.under mem.length then some (u, σ.mem.tail) else none := rfl
theorem retOf_ret (rs mem) (σ : St) : retOf rs mem (some (.ret, σ)) = (evResults σ.tm σ.mem rs).bind fun v => if v.under mem.length then some (v, σ.mem.tail) else
      (freeze σ.mem mem.length 16 v).bind fun u => if u.under mem.length then some (u, σ.mem.tail) else none := rfl

/-- One operation of a statement whose order is open, which stores nothing and reads no block. -/
theorem evDraw_nil (k rs ws) (σ : St) : evDraw C call [] k rs ws σ = some σ := rfl
def drawLoad (C : Ctx) (call : CallF) (o : AOper) (r : List AOper) (k : Nat) (rs ws : List (Nat × Foot)) (σ : St) : Option Foot → Option St
  | none => thenDraw C call r (k + 1) rs ws σ.mem (evOper C call o σ)
  | some f => if ws.all (fun q => !o.apart.contains q.1 || footApart q.2 f) = true then thenDraw C call r (k + 1) ((k, f) :: rs) ws σ.mem (evOper C call o σ) else none
def drawStore (C : Ctx) (call : CallF) (o : AOper) (n : Nat) (r : List AOper) (k : Nat) (rs ws : List (Nat × Foot)) (σ : St) : AV → Option St
  | .ptr i off => if ((ws.all fun q => footApart (i, off, n) q.2) && (rs.all fun q => !o.apart.contains q.1 || footApart (i, off, n) q.2)) = true then
      thenDrawS C call r (k + 1) rs ((k, (i, off, n)) :: ws) (evOper C call o σ) else none
  | _ => none
theorem evDraw_other (dst op g take ap) (r k rs ws) (σ : St) (h : (match op with | .store _ _ _ => true | _ => false) = false) : evDraw C call (⟨dst, op, g, take, ap⟩ :: r) k rs ws σ = drawLoad C call ⟨dst, op, g, take, ap⟩ r k rs ws σ (loadFoot σ.tm ⟨dst, op, g, take, ap⟩) := by
  have hb : ∀ (x : Option St) (k' rs' ws'), (x.bind fun σ' => if σ'.mem = σ.mem then evDraw C call r k' rs' ws' σ' else none) = thenDraw C call r k' rs' ws' σ.mem x := by
    intro x k' rs' ws'
    cases x <;> rfl
  unfold evDraw drawLoad
  cases op with
  | store n a x => simp at h
  | _ => dsimp only; cases loadFoot σ.tm _ <;> simp only [hb]
theorem evDraw_store (dst n a x g take ap) (r k rs ws) (σ : St) : evDraw C call (⟨dst, .store n a x, g, take, ap⟩ :: r) k rs ws σ = drawStore C call ⟨dst, .store n a x, g, take, ap⟩ n r k rs ws σ (rho σ.tm take a) := by
  have hb : ∀ (x : Option St) (k' rs' ws'), (x.bind (evDraw C call r k' rs' ws')) = thenDrawS C call r k' rs' ws' x := by
    intro x k' rs' ws'
    cases x <;> rfl
  show (match rho σ.tm take a with | .ptr i off => _ | _ => none) = _
  unfold drawStore
  cases rho σ.tm take a <;> first | rfl | (simp only [hb])

/-- A loop's round begins with what it keeps. -/
theorem loop_env {K : List Nat} {B : ACode} {n : Nat} {e e' : Env} {f : Fr} {m : Mem} (h : keepE e K = keepE e' K) : den C (.loop (.cut K [] B)) ⟨tmOf n e, f :: m⟩ = den C (.loop (.cut K [] B)) ⟨tmOf n e', f :: m⟩ := by
  rw [den_loop, den_loop, den_cut, den_cut, cut_tmOf, cut_tmOf, h]

theorem wrap_lit (n : Nat) (h : n ≤ 9223372036854775807) : IntKind.i64.wrap (no_index (@OfNat.ofNat Int n instOfNat)) = @OfNat.ofNat Int n instOfNat :=
  IntWalk.i64_in _ (by show (-9223372036854775808 : Int) ≤ (n : Int) ∧ (n : Int) ≤ 9223372036854775807; omega)
theorem wrap_neg (n : Nat) (h : n ≤ 9223372036854775808) : IntKind.i64.wrap (-(no_index (@OfNat.ofNat Int n instOfNat))) = -@OfNat.ofNat Int n instOfNat :=
  IntWalk.i64_in _ (by show (-9223372036854775808 : Int) ≤ -(n : Int) ∧ -(n : Int) ≤ 9223372036854775807; omega)
/-- A loop's head, with what it keeps. -/
noncomputable def headL (C : Ctx) (l : ACode) (n : Nat) (e : Env) (f : Fr) (m : Mem) : Option (Ex × St) := den C l ⟨tmOf n e, f :: m⟩
theorem keepE_keepE (e : Env) (K : List Nat) (n : Nat) : tmOf n (keepE (keepE e K) K) = tmOf n (keepE e K) := by
  unfold tmOf
  apply List.map_congr_left
  intro t _
  rw [look_keepE, look_keepE]
  by_cases h : t ∈ K <;> simp [h]
theorem head_of {l : ACode} {K : List Nat} {B : ACode} (hl : l = .loop (.cut K [] B)) (n : Nat) (e : Env) (f : Fr) (m : Mem) : den C l ⟨tmOf n e, f :: m⟩ = headL C l n (keepE e K) f m := by
  subst hl
  unfold headL
  rw [den_loop, den_loop, den_cut, den_cut, cut_tmOf, cut_tmOf, keepE_keepE]
theorem head_step {l : ACode} {K : List Nat} {B : ACode} (hl : l = .loop (.cut K [] B)) (n : Nat) (e : Env) (f : Fr) (m : Mem) : headL C l n e f m = andThen (den C B ⟨tmOf n (keepE e K), f :: m⟩) (den C l) := by
  subst hl
  unfold headL
  rw [den_loop, den_cut, cut_tmOf]
  rfl

end

attribute [simp] den_seq den_reg den_draw den_ret den_skip den_exit den_cond den_block den_cut cut_tmOf putT_tmOf putT_none stripAll_nil stripAll_tmOf getT_tmOf look_nil look_cons keepE_nil keepE_cons evOps_nil evOps_cons thenOps_some thenDraw_some thenDrawS_some evOper_plain plainOp_some evOper_guard askG_bool askG_skip cond_to_ite wrap_lit wrap_neg andThen_ite atBlock_ite retOf_ite thenOps_ite thenDraw_ite plainOp_ite map_ite ite_av_bool andThen_none atBlock_none retOf_none thenOps_none thenDraw_none thenDrawS_none thenDrawS_ite plainOp_none retOf_normal retOf_ret evDraw_nil evDraw_other evDraw_store drawLoad drawStore evAny evOp rho un bin binInt binStr conv evResults evRes
  sv_undef sv_bool sv_int sv_str sv_nilp sv_nils sv_nili sv_nilf sv_agg sv_tup sv_rptr sv_ptr sv_mslc sv_iface sv_fn sv_map sv_unk sv_exact sv_own sv_cap AV.under AV.under.unders AV.pure AV.pure.pures AV.defd AV.cells AV.one AV.okElem AV.has eqv iaddr slice bounds loadFoot footApart over elemsOf fill part setElems toElems flatEq Mem.get Mem.new Mem.set Mem.top Fr.get Fr.set

end Go.VA
