/-
  Regions in the text's order, codes, calls: the abstract run is the machine's.
-/
import Derived.Test.YtifieekfojbkhaaGreatDoorVaOper
import Derived.LoopN
set_option linter.unusedSimpArgs false
set_option linter.unusedVariables false
namespace Go.VA
open Go Go.RowKit

section
variable {P : Program} {C : Ctx} {gl : Globs} {g g' : G} {base : Nat} {w0 w : World} {σ σ' : St} {a : Act} {call : CallF} {ops : Array Oper} {o : Oper} {ao : AOper}

theorem After.trans {σ'' : St} {a'' : Act} {w'' : World} (h : Ext' σ.mem.top g g') (hl : σ'.mem.length = σ.mem.length) (k : After gl base w0 g' σ' σ'' a'' w'') : After gl base w0 g σ σ'' a'' w'' := by
  obtain ⟨g2, h1, h2, h3⟩ := k
  have ht : σ'.mem.top = σ.mem.top := by simp [Mem.top, hl]
  exact ⟨g2, h1, h.trans (ht ▸ h2), h3.trans hl⟩

theorem ops_sound (hcall : CallOK P gl base w0 call) (hmeth : MethOK P C) {Q : Exit → Act → World → Prop} : ∀ (l : List Oper) (al : List AOper) (k : Nat) (g : G) (σ : St) (a : Act) (w : World), ops.toList.drop k = l →
    chkOps P gl ops l al = true → evOps C call al σ = some σ' → Inv gl base w0 g σ a w → (∀ a' w', After gl base w0 g σ σ' a' w' → Q .normal a' w') →
    wpOps P ops Q ((List.range ops.size).drop k) a w
  | [], [], k, g, σ, a, w, hl, _, he, hI, hQ => by
    have hk : ops.size ≤ k := by simpa using hl
    rw [List.drop_eq_nil_of_le (by simpa using hk)]
    simp only [evOps, Option.some.injEq] at he
    subst he
    exact hQ a w ⟨g, hI, .refl _ _, rfl⟩
  | [], _ :: _, _, _, _, _, _, _, hc, _, _, _ => by simp [chkOps] at hc
  | _ :: _, [], _, _, _, _, _, _, hc, _, _, _ => by simp [chkOps] at hc
  | o :: l, ao :: al, k, g, σ, a, w, hl, hc, he, hI, hQ => by
    simp only [chkOps, Bool.and_eq_true] at hc
    simp only [evOps, Option.bind_eq_some_iff] at he
    obtain ⟨σ1, h1, h2⟩ := he
    have hk : k < ops.size := by
      have : (ops.toList.drop k).length = (o :: l).length := by rw [hl]
      simp at this
      omega
    have ho : ops[k]? = some o := by
      have := List.getElem?_drop (xs := ops.toList) (i := k) (j := 0)
      rw [hl] at this
      simpa using this.symm
    have hl' : ops.toList.drop (k + 1) = l := by
      rw [← List.tail_drop, hl]
      rfl
    have hr : (List.range ops.size).drop k = k :: (List.range ops.size).drop (k + 1) := by
      rw [List.drop_eq_getElem_cons (by simpa using hk)]
      simp
    rw [hr]
    simp only [wpOps, ho]
    have := oper_sound (K := wpOps P ops Q ((List.range ops.size).drop (k + 1))) (Q := Q) hcall hmeth hc.1 h1 hI (fun a' w' hA => by
      obtain ⟨g1, hI1, he1, hlen⟩ := hA
      exact ops_sound hcall hmeth l al (k + 1) g1 σ1 a' w' hl' hc.2 h2 hI1 (fun a2 w2 hA2 => hQ a2 w2 (After.trans he1 hlen hA2)))
    split
    · rename_i hw
      rw [if_pos hw] at this
      exact .inl this
    · rename_i hw
      rw [if_neg hw] at this
      exact this

theorem RV.hasAll {n : Nat} {v : AV} {x : Value} {imm : Addr → Option Value} {map : Nat → Option (Array MapEntry)} : ∀ (drop : List (List Nat)) {blk : Id → Option Nat}, RV imm map blk v x → (∀ s, s ∈ drop → v.has ⟨n, s⟩ = false) →
    RV imm map (fun j => if j.fr = n ∧ j.st ∈ drop then none else blk j) v x
  | [], blk, h, _ => by simpa using h
  | s :: r, blk, h, hd => by
    have h1 : RV imm map (fun j => if j = ⟨n, s⟩ then none else blk j) v x := h.has (i := ⟨n, s⟩) (fun j b hj hb => by simp [hj, hb]) (hd s (by simp))
    refine (RV.hasAll r h1 (fun s' hs' => hd s' (by simp [hs']))).mono (fun _ _ h => h) (fun _ _ h => h) (fun j b hb => ?_)
    split at hb
    · cases hb
    · rename_i h2
      split at hb
      · cases hb
      · rename_i h3
        rw [if_neg]
        · exact hb
        · rintro ⟨e1, e2⟩
          rcases List.mem_cons.1 e2 with e | e
          · exact h3 (by cases j; simp_all)
          · exact h2 ⟨e1, e⟩

theorem frdrop_get : ∀ (drop : List (List Nat)) (f : Fr) (s : List Nat), (f.drop drop).get s = if s ∈ drop then none else f.get s
  | [], f, s => by simp [Fr.drop]
  | t :: r, f, s => by
    simp only [Fr.drop, frdrop_get r]
    have hf : ∀ f : Fr, Fr.get (f.filter fun e => e.1 ≠ t) s = if s = t then none else f.get s := by
      intro f
      induction f with
      | nil => simp [Fr.get]
      | cons e f ih =>
        obtain ⟨k, c⟩ := e
        by_cases hk : k = t
        · subst hk
          simp only [ne_eq, not_true_eq_false, decide_false, Bool.false_eq_true, not_false_eq_true, List.filter_cons_of_neg, ih, Fr.get]
          by_cases hs : s = k <;> simp [hs]
        · simp only [ne_eq, hk, not_false_eq_true, decide_true, List.filter_cons_of_pos, Fr.get, ih]
          by_cases hs : s = k
          · subst hs; simp [hk]
          · simp [hs]
    rw [hf]
    by_cases h1 : s ∈ r
    · simp [h1]
    · by_cases h2 : s = t <;> simp [h1, h2]

theorem frdrop_mem : ∀ (drop : List (List Nat)) (f : Fr) (s : List Nat) (c : List AV), (f.drop drop).get s = some c → ∃ e, e ∈ f.drop drop ∧ e.2 = c := by
  intro drop f s c h
  generalize f.drop drop = f' at h
  induction f' with
  | nil => simp [Fr.get] at h
  | cons e f' ih =>
    obtain ⟨k, c'⟩ := e
    simp only [Fr.get] at h
    split at h
    · cases h; exact ⟨(k, c), by simp, rfl⟩
    · obtain ⟨e, he, h2⟩ := ih h
      exact ⟨e, by simp [he], h2⟩

theorem keepT_get (keep : List Nat) : ∀ (tm : List AV) (k i : Nat) (v : AV), (keepT keep k tm)[i]? = some v → v = .undef ∨ tm[i]? = some v
  | [], k, i, v, h => by simp [keepT] at h
  | u :: r, k, i, v, h => by
    simp only [keepT] at h
    cases i with
    | zero =>
      simp only [List.length_cons, Nat.zero_lt_succ, List.getElem?_eq_getElem, List.getElem_cons_zero, Option.some.injEq] at h ⊢
      split at h
      · exact .inr h
      · exact .inl h.symm
    | succ i => simpa using keepT_get keep r (k + 1) i v (by simpa using h)

theorem keepT_length (keep : List Nat) : ∀ (tm : List AV) (k : Nat), (keepT keep k tm).length = tm.length
  | [], _ => rfl
  | _ :: r, k => by simp [keepT, keepT_length keep r]

theorem under_has {n : Nat} {i : Id} (hi : n ≤ i.fr) : ∀ {v : AV}, v.under n = true → v.has i = false := by
  intro v
  refine AV.rec (motive_1 := fun v => v.under n = true → v.has i = false) (motive_2 := fun l => AV.under.unders n l = true → AV.has.hass i l = false)
    ?_ ?_ ?_ ?_ ?_ ?_ ?_ ?_ ?_ ?_ ?_ ?_ ?_ ?_ ?_ ?_ ?_ ?_ ?_ v
  all_goals first
    | (intros; rfl)
    | (intro j o h; simp only [AV.under, decide_eq_true_eq] at h; simp only [AV.has, beq_eq_false_iff_ne, ne_eq]; intro e; subst e; omega)
    | (intro j s o l h; simp only [AV.under, decide_eq_true_eq] at h; simp only [AV.has, beq_eq_false_iff_ne, ne_eq]; intro e; subst e; omega)
    | (intro l ih h; exact ih h)
    | (intro t v ih h; exact ih h)
    | (intro f l ih h; exact ih h)
    | (intro v l h1 h2 h; simp only [AV.under.unders, AV.has.hass, Bool.and_eq_true, Bool.or_eq_false_iff] at *; exact ⟨h1 h.1, h2 h.2⟩)

theorem cut_sound {keep : List Nat} {drop : List (List Nat)} (hI : Inv gl base w0 g σ a w) (he : evCut keep drop σ = some σ') : After gl base w0 g σ σ' a w := by
  obtain ⟨tm, mem⟩ := σ
  simp only [evCut] at he
  split at he
  · cases he
  · rename_i f r
    split at he
    · rename_i hfree
      cases he
      simp only [free, List.all_eq_true, Bool.and_eq_true, Bool.not_eq_true'] at hfree
      have hM := hI.wm
      let g' : G := { g with blk := fun j => if j.fr = r.length ∧ j.st ∈ drop then none else g.blk j }
      have get' : ∀ i : Id, Mem.get (f.drop drop :: r) i = if i.fr = r.length ∧ i.st ∈ drop then none else Mem.get (f :: r) i := by
        intro i
        simp only [Mem.get]
        by_cases hi : i.fr = r.length
        · simp only [hi, if_true, true_and, frdrop_get]
        · simp only [hi, if_false, false_and]
      have blk' : ∀ i b, g'.blk i = some b → ¬ (i.fr = r.length ∧ i.st ∈ drop) ∧ g.blk i = some b := by
        intro i b h
        change (if _ then _ else _) = _ at h
        split at h
        · cases h
        · rename_i hn; exact ⟨hn, h⟩
      -- the cells that stay name no block that goes
      have cellfree : ∀ i c, Mem.get (f.drop drop :: r) i = some c → ∀ v, v ∈ c → ∀ s, s ∈ drop → v.has ⟨r.length, s⟩ = false := by
        intro i c hc v hv s hs
        by_cases hi : i.fr = r.length
        · simp only [Mem.get, hi, if_true] at hc
          obtain ⟨e, he, rfl⟩ := frdrop_mem _ _ _ _ hc
          exact (hfree s hs).2 e he v hv
        · have hc2 : Mem.get (f :: r) i = some c := by
            rw [get'] at hc
            rwa [if_neg (fun h => hi h.1)] at hc
          have hlt := get_under hc2
          simp only [List.length_cons] at hlt
          exact under_has (i := ⟨r.length, s⟩) (show i.fr + 1 ≤ r.length by omega) (hI.mw i c hc2 v hv)
      have rlfree : ∀ {loc v x}, RL g loc v x → (∀ s, s ∈ drop → v.has ⟨r.length, s⟩ = false) → RL g' loc v x := by
        intro loc v x h hf
        cases h with
        | val h => exact .val (RV.hasAll drop h hf)
        | own sz l b off cap size h h1 h2 => exact .own sz l b off cap size (RV.hasAll drop h (fun s _ => rfl)) h1 h2
      refine ⟨g', ⟨⟨hM.imm, hM.map, fun i c h => ?_, fun i b h => ?_, fun i j b h k => hM.inj i j b (blk' i b h).2 (blk' j b k).2, fun i b o s h => hM.apart i b o s (blk' i b h).2, fun b l q s h => ?_, hM.old, hM.size⟩,
        ⟨by rw [keepT_length]; exact hI.wt.size, fun i v x hv hx => ?_⟩, fun i c h v hv => ?_, hI.gl, hI.defers, by simp⟩, ⟨fun _ _ h => h, fun _ _ h => h, fun i hi => ?_, fun _ _ h => h⟩, by simp⟩
      · rw [get'] at h
        split at h
        · cases h
        · rename_i hn
          obtain ⟨b, hb⟩ := hM.get i c h
          exact ⟨b, by show (if _ then _ else _) = _; rw [if_neg hn]; exact hb⟩
      · obtain ⟨hn, hb⟩ := blk' i b h
        obtain ⟨h1, h2, c, arr, e, h3, h4, h5, h6⟩ := hM.blk i b hb
        have hg : Mem.get (f.drop drop :: r) i = some c := by rw [get', if_neg hn]; exact h3
        exact ⟨h1, by simpa using h2, c, arr, e, hg, h4, h5, fun j v x hv hx => rlfree (h6 j v x hv hx) (cellfree i c hg v (List.mem_of_getElem? hv))⟩
      · obtain ⟨h1, h2, h3, h4⟩ := hM.own b l q s h
        exact ⟨h1, h2, h3, fun i h => h4 i (blk' i b h).2⟩
      · rcases keepT_get keep tm 0 i v hv with rfl | hv2
        · exact .val (.undef _)
        · exact rlfree (hI.wt.at' i v x hv2 hx) (fun s hs => (hfree s hs).1 v (List.mem_of_getElem? hv))
      · rw [get'] at h
        split at h
        · cases h
        · exact hI.mw i c h v hv
      · have : i.fr ≠ r.length := by simpa [Mem.top] using hi
        show (if _ then _ else _) = _
        rw [if_neg (fun h => this h.1)]
    · cases he

def exC : Ex → Exit
  | .normal => .normal
  | .exit i => .exit i
  | .ret => .ret

/-- A draw region is right. -/
def DrawOK (P : Program) (C : Ctx) (gl : Globs) (base : Nat) (w0 : World) (call : CallF) : Prop := ∀ id (ops : Array Oper) (aops : List AOper) σ σ' g a w (Q : Exit → Act → World → Prop), chkOps P gl ops ops.toList aops = true → drawOk ops aops = true →
  evDraw C call aops 0 [] [] σ = some σ' → Inv gl base w0 g σ a w → (∀ a' w', After gl base w0 g σ σ' a' w' → Q .normal a' w') → (Code.region id ops true).wp P Q a w

/-- The codes that 'rec' runs. -/
def CodeOK (P : Program) (gl : Globs) (base : Nat) (w0 : World) (n : Nat) (rec : ACode → St → Option (Ex × St)) : Prop :=
  ∀ code ac σ ex σ', chkCode P gl code ac = true → rec ac σ = some (ex, σ') → ∀ g a w, Inv gl base w0 g σ a w → ∀ (Q : Exit → Act → World → Prop), (∀ a' w', After gl base w0 g σ σ' a' w' → Q (exC ex) a' w') →
    code.wp P Q a w ∧ ∀ c' c, code = .loop c' → ac = .loop c → Code.rounds P c' Q n a w

def resSem (tmps : Array Value) : ResultVar → Sem Value
  | .tmp t => pure (tmps.getD t undef)
  | .cell a t => do loadVar t (← asAddr (tmps.getD a undef))

theorem evRes_ok (hI : Inv gl base w0 g σ a w) {rv : ResultVar} {r : ARes} (hc : chkRes P rv r = true) {v : AV} (he : evRes σ.tm σ.mem r = some v) :
    ∃ x, (resSem a.tmps rv).run P w = .ok x w ∧ (RV g.imm g.map g.blk v x ∨ ∃ t, RL g (.tmp t) v x) := by
  cases rv with
  | tmp t =>
    cases r with
    | tmp t' =>
      obtain rfl : t = t' := by simpa [chkRes] using hc
      simp only [evRes, Option.some.injEq] at he
      subst he
      exact ⟨_, rfl, .inr ⟨t, hI.wt.get t⟩⟩
    | cell _ _ _ => simp [chkRes] at hc
  | cell c t =>
    cases r with
    | tmp _ => simp [chkRes] at hc
    | cell agg n c' =>
      simp only [chkRes, Bool.and_eq_true, beq_iff_eq] at hc
      obtain ⟨⟨⟨rfl, h1⟩, h2⟩, h3⟩ := hc
      have hr := hI.wt.get c
      simp only [evRes] at he
      generalize hz : a.tmps.getD c undef = z at hr
      have load : ∀ b off x, z = .pointer (some ⟨b, off, none⟩) → (Instr.loadAt t (.pointer (some ⟨b, off, none⟩))).run P w = .ok x w → (resSem a.tmps (.cell c t)).run P w = .ok x w := by
        intro b off x hz' hx
        subst hz'
        simpa [resSem, hz, asAddr, Instr.loadAt, Instr.sureAddr] using hx
      split at he
      · rename_i i off hp
        rw [hp] at hr
        cases hr with
        | val hr =>
        cases hr with
        | ptr _ _ b hb =>
        simp only [Option.bind_eq_some_iff] at he
        obtain ⟨cc, hget, he⟩ := he
        obtain ⟨k1, k2, c', arr, e, k3, k4, k5, k6⟩ := hI.wm.blk i b hb
        obtain rfl : cc = c' := Option.some.inj (hget.symm.trans k3)
        have key : (if agg then (if n ≤ ((cc.drop off).map AV.strip).length then some (AV.agg (((cc.drop off).map AV.strip).take n)) else none) else ((cc.drop off).map AV.strip)[0]?) = some v := by
          cases agg with
          | true =>
            simp only [if_true] at he ⊢
            split at he
            · rename_i hle; cases he; rw [if_pos (by simp; omega), List.map_take]
            · cases he
          | false =>
            simp only [Bool.false_eq_true, if_false, Option.map_eq_some_iff] at he ⊢
            obtain ⟨v, hv, rfl⟩ := he
            rw [List.getElem?_map, List.getElem?_drop]; simp [hv]
        have hlt : ∀ j, j < ((cc.drop off).map AV.strip).length → off + j < arr.size := by intro j hj; simp at hj; omega
        obtain ⟨xv, hx, hr⟩ := agg_load (P := P) (w := w) (b := b) (off := off) (vs := fun j => arr.getD (off + j) undef) h1 h2 h3
          (fun j hj => by simp [World.cell?, k4, Array.getD, hlt j hj])
          (fun j u hu => by
            rw [List.getElem?_map, Option.map_eq_some_iff] at hu
            obtain ⟨u', hu', rfl⟩ := hu
            rw [List.getElem?_drop] at hu'
            have hj : off + j < arr.size := by have := (List.getElem?_eq_some_iff.1 hu').1; omega
            exact (k6 (off + j) u' _ hu' (by simp [Array.getD, hj])).strip) key
        exact ⟨xv, load _ _ _ rfl hx, .inl hr⟩
      · rename_i l hp
        rw [hp] at hr
        cases hr with
        | val hr =>
        cases hr with
        | rptr _ b off vs hp' hi h =>
        obtain ⟨xv, hx, hr⟩ := agg_load (P := P) (w := w) h1 h2 h3 (fun j hj => hI.wm.imm _ _ (hi j hj)) h he
        exact ⟨xv, load _ _ _ rfl hx, .inl hr⟩
      · cases he

theorem rl_strip {v : AV} {x : Value} (h : RV g.imm g.map g.blk v x ∨ ∃ t, RL g (.tmp t) v x) : RV g.imm g.map g.blk v.strip x := by
  rcases h with h | ⟨t, h⟩
  · exact h.strip
  · exact h.strip

theorem evRess_ok (hI : Inv gl base w0 g σ a w) : ∀ {rvs : List ResultVar} {rs : List ARes}, chkRess P rvs rs = true → ∀ {l : List AV}, rs.foldr (fun r acc => (evRes σ.tm σ.mem r).bind fun v => acc.map (v.strip :: ·)) (some []) = some l →
    ∃ xs : List Value, (rvs.mapM (resSem a.tmps)).run P w = .ok xs w ∧ xs.length = rvs.length ∧ RVs g.imm g.map g.blk l xs
  | [], [], _, l, h => by
    simp only [List.foldr_nil, Option.some.injEq] at h
    subst h
    exact ⟨[], by simp, rfl, RVs.nil⟩
  | [], _ :: _, h, _, _ => by simp [chkRess] at h
  | _ :: _, [], h, _, _ => by simp [chkRess] at h
  | rv :: rvs, r :: rs, hc, l, h => by
    simp only [chkRess, Bool.and_eq_true] at hc
    simp only [List.foldr_cons, Option.bind_eq_some_iff, Option.map_eq_some_iff] at h
    obtain ⟨v, hv, l', hl', rfl⟩ := h
    obtain ⟨x, hx, hr⟩ := evRes_ok hI hc.1 hv
    obtain ⟨xs, hxs, hlen, hrs⟩ := evRess_ok hI hc.2 hl'
    refine ⟨x :: xs, by simp [List.mapM_cons, hx, hxs], by simp [hlen], ⟨by simp [hrs.1], fun i u y hu hy => ?_⟩⟩
    cases i with
    | zero => simp at hu hy; subst hu; subst hy; exact rl_strip hr
    | succ i => exact hrs.2 i u y (by simpa using hu) (by simpa using hy)

theorem chkRess_length : ∀ {rvs : List ResultVar} {rs : List ARes}, chkRess P rvs rs = true → rvs.length = rs.length
  | [], [], _ => rfl
  | [], _ :: _, h => by simp [chkRess] at h
  | _ :: _, [], h => by simp [chkRess] at h
  | _ :: rvs, _ :: rs, h => by
    simp only [chkRess, Bool.and_eq_true] at h
    simp [chkRess_length h.2]

theorem results_run (fn : Func) (tmps : Array Value) (w : World) {xs : List Value} (h : (fn.results.toList.mapM (resSem tmps)).run P w = .ok xs w) :
    (results fn tmps).run P w = .ok (if h : xs.toArray.size = 1 then xs.toArray[0] else .tuple xs.toArray) w := by
  have e2 : results fn tmps = (fn.results.mapM (resSem tmps) >>= fun vs => pure (if h : vs.size = 1 then vs[0] else .tuple vs)) := by
    unfold results
    congr 1
  rw [e2, Array.mapM_eq_mapM_toList]
  simp [h]

theorem results_ok (hI : Inv gl base w0 g σ a w) {fn : Func} {rs : List ARes} (hc : chkRess P fn.results.toList rs = true) {v : AV} (he : evResults σ.tm σ.mem rs = some v) :
    ∃ x, (results fn a.tmps).run P w = .ok x w ∧ (RV g.imm g.map g.blk v x ∨ ∃ t, RL g (.tmp t) v x) := by
  have hlen := chkRess_length hc
  unfold evResults at he
  split at he
  · rename_i r
    cases hl : fn.results.toList with
    | nil => rw [hl] at hc; simp [chkRess] at hc
    | cons rv rvs =>
      rw [hl] at hc hlen
      cases rvs with
      | cons _ _ => simp at hlen
      | nil =>
        simp only [chkRess, Bool.and_true] at hc
        obtain ⟨x, hx, hr⟩ := evRes_ok hI hc he
        refine ⟨x, ?_, hr⟩
        have := results_run (P := P) fn a.tmps w (xs := [x]) (by rw [hl]; simp [List.mapM_cons, hx])
        simpa using this
  · rename_i hne
    rw [Option.map_eq_some_iff] at he
    obtain ⟨l, hl, rfl⟩ := he
    obtain ⟨xs, hxs, hlen2, hrs⟩ := evRess_ok hI hc hl
    refine ⟨.tuple xs.toArray, ?_, .inl (.tup l _ (by simpa using hrs.1) fun i u x hu hx => hrs.2 i u x hu (by simpa using hx))⟩
    have := results_run (P := P) fn a.tmps w hxs
    rw [this, dif_neg]
    intro h1
    have : rs.length = 1 := by rw [← hlen, ← hlen2]; simpa using h1
    match rs, this with
    | [r], _ => exact hne r rfl

end
end Go.VA
