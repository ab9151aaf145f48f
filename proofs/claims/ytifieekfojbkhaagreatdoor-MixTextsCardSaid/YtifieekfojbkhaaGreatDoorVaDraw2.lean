/-
  A region whose order is open: the theorem.
-/
import Derived.Test.YtifieekfojbkhaaGreatDoorVaDraw
set_option linter.unusedSimpArgs false
set_option linter.unusedVariables false
namespace Go.VA
open Go Go.RowKit

section
variable (dst : Nat → Option Nat) (v : Nat → AV) (e : Nat → Eff)

def tmL (b : Nat → Bool) (is : List Nat) (acc : List AV) : List AV := is.foldl (fun acc i => if b i then putT acc (dst i) (v i) else acc) acc
def memL (b : Nat → Bool) (is : List Nat) (m : Mem) : Mem := is.foldl (fun m i => if b i then applyE m (e i) else m) m

variable {dst v e}

theorem putT_length (acc : List AV) (d : Option Nat) (x : AV) : (putT acc d x).length = acc.length := by cases d <;> simp [putT]

theorem tmL_length (b : Nat → Bool) : ∀ (is : List Nat) (acc : List AV), (tmL dst v b is acc).length = acc.length
  | [], acc => rfl
  | i :: is, acc => by
    show (tmL dst v b is (if b i then putT acc (dst i) (v i) else acc)).length = _
    rw [tmL_length b is]
    split
    · exact putT_length _ _ _
    · rfl

theorem getT_put (acc : List AV) (d : Nat) (x : AV) (t : Nat) : getT (acc.set d x) t = if t = d ∧ t < acc.length then x else getT acc t := by
  unfold getT
  by_cases h : t = d
  · subst h
    by_cases hl : t < acc.length
    · simp [List.getD, hl]
    · simp [List.getD, hl, List.getElem?_eq_none (by omega : acc.length ≤ t)]
  · rw [if_neg (fun k => h k.1)]
    simp [List.getD, List.getElem?_set_ne (fun e => h e.symm)]

theorem tmL_agree {t : Nat} {b b' : Nat → Bool} : ∀ (is : List Nat) (acc acc' : List AV), (∀ i, i ∈ is → dst i = some t → b i = b' i) → acc.length = acc'.length → getT acc t = getT acc' t → getT (tmL dst v b is acc) t = getT (tmL dst v b' is acc') t
  | [], _, _, _, _, h => h
  | i :: is, acc, acc', hb, hl, h => by
    show getT (tmL dst v b is (if b i then putT acc (dst i) (v i) else acc)) t = getT (tmL dst v b' is (if b' i then putT acc' (dst i) (v i) else acc')) t
    refine tmL_agree is _ _ (fun j hj => hb j (by simp [hj])) ?_ ?_
    · split <;> split <;> simp [putT_length, hl]
    · cases hd : dst i with
      | none => simp only [putT, ite_self]; exact h
      | some d =>
        by_cases htd : t = d
        · subst htd
          rw [hb i (by simp) hd]
          split
          · simp only [putT, getT_put, hl, h]
          · exact h
        · have : ∀ (c : Bool) (a : List AV), getT (if c then putT a (some d) (v i) else a) t = getT a t := by
            intro c a
            cases c
            · rfl
            · simp only [if_true, putT, getT_put]
              rw [if_neg (fun k => htd k.1)]
          rw [this, this]
          exact h

theorem tmL_append (b : Nat → Bool) (is js : List Nat) (acc : List AV) : tmL dst v b (is ++ js) acc = tmL dst v b js (tmL dst v b is acc) := List.foldl_append
theorem memL_append (b : Nat → Bool) (is js : List Nat) (m : Mem) : memL e b (is ++ js) m = memL e b js (memL e b is m) := List.foldl_append

theorem tmL_same {b b' : Nat → Bool} : ∀ (is : List Nat) (acc : List AV), (∀ i, i ∈ is → b i = b' i) → tmL dst v b is acc = tmL dst v b' is acc
  | [], _, _ => rfl
  | i :: is, acc, h => by
    show tmL dst v b is (if b i then _ else acc) = tmL dst v b' is (if b' i then _ else acc)
    rw [h i (by simp)]
    exact tmL_same is _ fun j hj => h j (by simp [hj])
theorem memL_same {b b' : Nat → Bool} : ∀ (is : List Nat) (m : Mem), (∀ i, i ∈ is → b i = b' i ∨ e i = none) → memL e b is m = memL e b' is m
  | [], _, _ => rfl
  | i :: is, m, h => by
    show memL e b is (if b i then applyE m (e i) else m) = memL e b' is (if b' i then applyE m (e i) else m)
    have : (if b i then applyE m (e i) else m) = (if b' i then applyE m (e i) else m) := by
      rcases h i (by simp) with h | h
      · rw [h]
      · rw [h]; simp [applyE]
    rw [this]
    exact memL_same is _ fun j hj => h j (by simp [hj])
theorem tmL_none {b : Nat → Bool} : ∀ (is : List Nat) (acc : List AV), (∀ i, i ∈ is → b i = false) → tmL dst v b is acc = acc
  | [], _, _ => rfl
  | i :: is, acc, h => by
    show tmL dst v b is (if b i then _ else acc) = acc
    rw [h i (by simp)]
    exact tmL_none is _ fun j hj => h j (by simp [hj])
theorem memL_none {b : Nat → Bool} : ∀ (is : List Nat) (m : Mem), (∀ i, i ∈ is → b i = false) → memL e b is m = m
  | [], _, _ => rfl
  | i :: is, m, h => by
    show memL e b is (if b i then _ else m) = m
    rw [h i (by simp)]
    exact memL_none is _ fun j hj => h j (by simp [hj])

theorem putT_comm (acc : List AV) (d d' : Option Nat) (x y : AV) (h : ∀ t, d = some t → d' ≠ some t) : putT (putT acc d x) d' y = putT (putT acc d' y) d x := by
  cases d with
  | none => rfl
  | some d =>
    cases d' with
    | none => rfl
    | some d' => exact List.set_comm _ _ (fun e => h d rfl (by rw [e]))

theorem tmL_put {b : Nat → Bool} (d : Option Nat) (x : AV) : ∀ (is : List Nat) (acc : List AV), (∀ i, i ∈ is → b i = true → ∀ t, d = some t → dst i ≠ some t) → tmL dst v b is (putT acc d x) = putT (tmL dst v b is acc) d x
  | [], _, _ => rfl
  | i :: is, acc, h => by
    show tmL dst v b is (if b i then putT (putT acc d x) (dst i) (v i) else putT acc d x) = putT (tmL dst v b is (if b i then putT acc (dst i) (v i) else acc)) d x
    cases hb : b i with
    | false => exact tmL_put d x is acc fun j hj => h j (by simp [hj])
    | true =>
      simp only [if_true]
      rw [putT_comm acc d (dst i) x (v i) (h i (by simp) hb)]
      exact tmL_put d x is _ fun j hj => h j (by simp [hj])

theorem memL_fits {b : Nat → Bool} {q : Eff} : ∀ (is : List Nat) (m : Mem), Fits m q → (∀ i, i ∈ is → Fits m (e i)) → Fits (memL e b is m) q
  | [], _, h, _ => h
  | i :: is, m, h, hf => by
    show Fits (memL e b is (if b i then applyE m (e i) else m)) q
    split
    · exact memL_fits is _ (h.apply (hf i (by simp))) fun j hj => (hf j (by simp [hj])).apply (hf i (by simp))
    · exact memL_fits is _ h fun j hj => hf j (by simp [hj])

theorem memL_sameM {b : Nat → Bool} : ∀ (is : List Nat) {m m' : Mem}, Same m m' → Same (memL e b is m) (memL e b is m')
  | [], _, _, h => h
  | i :: is, m, m', h => by
    show Same (memL e b is (if b i then applyE m (e i) else m)) (memL e b is (if b i then applyE m' (e i) else m'))
    split
    · exact memL_sameM is (h.apply _)
    · exact memL_sameM is h

theorem memL_apply {b : Nat → Bool} {q : Eff} : ∀ (is : List Nat) (m : Mem), Fits m q → (∀ i, i ∈ is → Fits m (e i)) → (∀ i, i ∈ is → Apart q (e i)) → Same (memL e b is (applyE m q)) (applyE (memL e b is m) q)
  | [], m, _, _, _ => .refl _
  | i :: is, m, h, hf, ha => by
    show Same (memL e b is (if b i then applyE (applyE m q) (e i) else applyE m q)) (applyE (memL e b is (if b i then applyE m (e i) else m)) q)
    cases hb : b i with
    | false => exact memL_apply is m h (fun j hj => hf j (by simp [hj])) (fun j hj => ha j (by simp [hj]))
    | true =>
      simp only [if_true]
      exact (memL_sameM is (apply_comm (ha i (by simp)) h (hf i (by simp)))).trans
        (memL_apply is (applyE m (e i)) (h.apply (hf i (by simp))) (fun j hj => (hf j (by simp [hj])).apply (hf i (by simp))) (fun j hj => ha j (by simp [hj])))

end

section
variable {e : Nat → Eff}

theorem agree_apply {m m' : Mem} {f : Foot} {q : Eff} (h : Agree m m' (some f)) (hf : Fits m q) (hf' : Fits m' q) : Agree (applyE m q) (applyE m' q) (some f) := by
  obtain ⟨i, off, n⟩ := f
  rcases h with ⟨h1, h2⟩ | ⟨c, c', h1, h2, h3, h4⟩
  · refine .inl ⟨?_, ?_⟩
    · rw [apply_get]; split
      · exact h1
      · split
        · rename_i hi; subst hi; rw [h1]; rfl
        · exact h1
    · rw [apply_get]; split
      · exact h2
      · split
        · rename_i hi; subst hi; rw [h2]; rfl
        · exact h2
  refine .inr ?_
  show ∃ d d', (applyE m q).get i = some d ∧ (applyE m' q).get i = some d' ∧ _
  rw [apply_get, apply_get]
  cases q with
  | none => exact ⟨c, c', h1, h2, h3, h4⟩
  | some p =>
    obtain ⟨i', off', cs⟩ := p
    dsimp only
    by_cases hi : i = i'
    · subst hi
      obtain ⟨c1, k1, k2⟩ := hf i off' cs rfl
      rw [h1] at k1
      cases k1
      rw [if_pos rfl, if_pos rfl, h1, h2]
      refine ⟨_, _, rfl, rfl, by rw [over_length k2, over_length (by omega)]; exact h3, fun k p1 p2 => ?_⟩
      rw [over_get k2, over_get (by omega)]
      split
      · rfl
      · exact h4 k p1 p2
    · rw [if_neg hi, if_neg hi]
      exact ⟨c, c', h1, h2, h3, h4⟩

theorem agree_left {m m' : Mem} {f : Foot} {q : Eff} (h : Agree m m' (some f)) (hf : Fits m q) (ha : ApartF q (some f)) : Agree (applyE m q) m' (some f) := by
  obtain ⟨i, off, n⟩ := f
  rcases h with ⟨h1, h2⟩ | ⟨c, c', h1, h2, h3, h4⟩
  · refine .inl ⟨?_, h2⟩
    rw [apply_get]; split
    · exact h1
    · split
      · rename_i hi; subst hi; rw [h1]; rfl
      · exact h1
  refine .inr ?_
  show ∃ d d', (applyE m q).get i = some d ∧ m'.get i = some d' ∧ _
  rw [apply_get]
  cases q with
  | none => exact ⟨c, c', h1, h2, h3, h4⟩
  | some p =>
    obtain ⟨i', off', cs⟩ := p
    dsimp only
    by_cases hi : i = i'
    · subst hi
      obtain ⟨c1, k1, k2⟩ := hf i off' cs rfl
      rw [h1] at k1
      cases k1
      rw [if_pos rfl, h1]
      refine ⟨_, c', rfl, h2, by rw [over_length k2]; exact h3, fun k p1 p2 => ?_⟩
      rw [over_get k2, if_neg]
      · exact h4 k p1 p2
      · rcases ha i off' cs i off n rfl rfl with h | h | h
        · exact absurd rfl h
        · omega
        · omega
    · rw [if_neg hi]
      exact ⟨c, c', h1, h2, h3, h4⟩

theorem Agree.symm {m m' : Mem} {f : Option Foot} (h : Agree m m' f) : Agree m' m f := by
  cases f with
  | none => trivial
  | some f =>
    obtain ⟨i, off, n⟩ := f
    rcases h with ⟨h1, h2⟩ | ⟨c, c', h1, h2, h3, h4⟩
    · exact .inl ⟨h2, h1⟩
    exact .inr ⟨c', c, h2, h1, h3.symm, fun k p1 p2 => (h4 k p1 p2).symm⟩

theorem memL_agree {b b' : Nat → Bool} {f : Foot} : ∀ (is : List Nat) {m m' : Mem}, Agree m m' (some f) → (∀ i, i ∈ is → Fits m (e i) ∧ Fits m' (e i)) → (∀ i, i ∈ is → b i = b' i ∨ ApartF (e i) (some f)) → Agree (memL e b is m) (memL e b' is m') (some f)
  | [], _, _, h, _, _ => h
  | i :: is, m, m', h, hf, hb => by
    show Agree (memL e b is (if b i then applyE m (e i) else m)) (memL e b' is (if b' i then applyE m' (e i) else m')) (some f)
    obtain ⟨f1, f2⟩ := hf i (by simp)
    have hb' := hb i (by simp)
    cases h1 : b i <;> cases h2 : b' i
    · exact memL_agree is h (fun j hj => hf j (by simp [hj])) (fun j hj => hb j (by simp [hj]))
    · rw [h1, h2] at hb'
      have ha := hb'.resolve_left (by simp)
      exact memL_agree is (agree_left h.symm f2 ha).symm (fun j hj => ⟨(hf j (by simp [hj])).1, ((hf j (by simp [hj])).2).apply f2⟩) (fun j hj => hb j (by simp [hj]))
    · rw [h1, h2] at hb'
      have ha := hb'.resolve_left (by simp)
      exact memL_agree is (agree_left h f1 ha) (fun j hj => ⟨((hf j (by simp [hj])).1).apply f1, (hf j (by simp [hj])).2⟩) (fun j hj => hb j (by simp [hj]))
    · exact memL_agree is (agree_apply h f1 f2) (fun j hj => ⟨((hf j (by simp [hj])).1).apply f1, ((hf j (by simp [hj])).2).apply f2⟩) (fun j hj => hb j (by simp [hj]))

end

theorem Apart.symm {e e' : Eff} (h : Apart e e') : Apart e' e := by
  intro i off cs i' off' cs' h1 h2
  rcases h i' off' cs' i off cs h2 h1 with h | h | h
  · exact .inl fun e => h e.symm
  · exact .inr (.inr h)
  · exact .inr (.inl h)

theorem range_split {n j : Nat} (h : j < n) : List.range n = (List.range n).take j ++ j :: (List.range n).drop (j + 1) := by
  have hr : (List.range n).drop j = j :: (List.range n).drop (j + 1) := by
    rw [List.drop_eq_getElem_cons (by simpa using h)]
    simp
  rw [← hr, List.take_append_drop]

theorem mem_take_range {n j i : Nat} (h : i ∈ (List.range n).take j) : i < j := by
  obtain ⟨k, hk, rfl⟩ := List.getElem_of_mem h
  simp at hk ⊢
  omega

theorem mem_drop_range {n j i : Nat} (h : i ∈ (List.range n).drop j) : j ≤ i ∧ i < n := by
  obtain ⟨k, hk, rfl⟩ := List.getElem_of_mem h
  simp at hk ⊢
  omega

section
variable {P : Program} {C : Ctx} {gl : Globs} {base : Nat} {w0 : World} {call : CallF}

theorem Inv.congr {g : G} {σ : St} {a : Act} {w : World} (hI : Inv gl base w0 g σ a w) {mem' : Mem} (h : Same mem' σ.mem) : Inv gl base w0 g ⟨σ.tm, mem'⟩ a w :=
  ⟨hI.wm.congr h.2 h.1, hI.wt, fun i c hc => hI.mw i c (by rw [← h.2]; exact hc), hI.gl, hI.defers, by show 0 < mem'.length; rw [h.1]; exact hI.pos⟩

theorem chkOps_get {ops : Array Oper} : ∀ {l : List Oper} {al : List AOper}, chkOps P gl ops l al = true → l.length = al.length ∧ ∀ (i : Nat) o, l[i]? = some o → ∃ ao, al[i]? = some ao ∧ chkOper P gl ops o ao = true
  | [], [], _ => ⟨rfl, by simp⟩
  | [], _ :: _, h => by simp [chkOps] at h
  | _ :: _, [], h => by simp [chkOps] at h
  | o :: l, ao :: al, h => by
    simp only [chkOps, Bool.and_eq_true] at h
    obtain ⟨h1, h2⟩ := chkOps_get h.2
    refine ⟨by simp [h1], fun i o' ho => ?_⟩
    cases i with
    | zero => simp at ho; subst ho; exact ⟨ao, rfl, h.1⟩
    | succ i => exact h2 i o' (by simpa using ho)

theorem exists_min {p : Nat → Prop} (h : ∃ n, p n) : ∃ k, p k ∧ ∀ m, m < k → ¬ p m := by
  obtain ⟨n, hn⟩ := h
  induction n using Nat.strongRecOn with
  | _ n ih =>
    by_cases hm : ∃ m, m < n ∧ p m
    · obtain ⟨m, hlt, hp⟩ := hm
      exact ih m hlt hp
    · exact ⟨n, hn, fun m hlt hp => hm ⟨m, hlt, hp⟩⟩

theorem mayMix_store {x y : AOper} {n i : Nat} {p q : Opd} (hx : x.op = .store n p q) (h : mayMix i x y = true) : (∃ n a x, y.op = .store n a x) ∨ y.op.still = true ∨ ((∃ g t n a, y.op = .load g t n a) ∧ i ∈ y.apart) := by
  obtain ⟨d, op, gd, tk, ap⟩ := y
  obtain ⟨d', op', gd', tk', ap'⟩ := x
  simp only at hx
  subst hx
  cases op <;> first
    | exact .inl ⟨_, _, _, rfl⟩
    | exact .inr (.inl rfl)
    | (simp only [mayMix, Bool.and_eq_true, List.contains_eq_mem, decide_eq_true_eq] at h; exact .inr (.inr ⟨⟨_, _, _, _, rfl⟩, h.2⟩))
    | (simp only [mayMix, Bool.and_eq_true] at h; exact .inr (.inl h.2))

theorem mayMix_store2 {x y : AOper} {n i : Nat} {p q : Opd} (hx : x.op = .store n p q) (h : mayMix i y x = true) : (∃ n a x, y.op = .store n a x) ∨ y.op.still = true ∨ ((∃ g t n a, y.op = .load g t n a) ∧ i ∈ x.apart) := by
  obtain ⟨d, op, gd, tk, ap⟩ := y
  obtain ⟨d', op', gd', tk', ap'⟩ := x
  simp only at hx
  subst hx
  cases op <;> first
    | exact .inl ⟨_, _, _, rfl⟩
    | exact .inr (.inl rfl)
    | (simp only [mayMix, Bool.and_eq_true, List.contains_eq_mem, decide_eq_true_eq] at h; exact .inr (.inr ⟨⟨_, _, _, _, rfl⟩, h.2⟩))
    | (simp only [mayMix, Bool.and_eq_true] at h; exact .inr (.inl h.2))

/-- What is listed is closed: what comes before it always is listed too. -/
theorem path_closed {ops : Array Oper} {L : Nat → Prop} (hcl : ∀ j o, L j → ops[j]? = some o → ∀ d, d ∈ direct o → L d) : ∀ (n i j : Nat), path ops i n j = true → L j → L i
  | 0, _, _, h, _ => by simp [path] at h
  | n + 1, i, j, h, hj => by
    simp only [path] at h
    split at h
    · rename_i o ho
      rw [List.any_eq_true] at h
      obtain ⟨d, hd, h⟩ := h
      have hLd := hcl j o hj ho d hd
      simp only [Bool.or_eq_true, beq_iff_eq] at h
      rcases h with rfl | h
      · exact hLd
      · exact path_closed hcl n i d h hLd
    · cases h

theorem draw_ok (hcall : CallOK P gl base w0 call) (hmeth : MethOK P C) (hm : P.follows .mixedOrders = true) : DrawOK P C gl base w0 call := by
  intro id ops aops σ σ' g a w Q hc hd he hI hQ
  obtain ⟨hlen, hget⟩ := chkOps_get hc
  have hn : ops.size = aops.length := by simpa using hlen
  simp only [drawOk, Bool.and_eq_true] at hd
  obtain ⟨⟨hback, hone⟩, hpair⟩ := hd
  have hback' : ∀ j o, ops[j]? = some o → ∀ d, d ∈ direct o → d < j := by
    intro j o ho d hdm
    rw [List.all_eq_true] at hback
    have hj : j < ops.size := (Array.getElem?_eq_some_iff.1 ho).1
    have := hback (o, j) (by
      rw [List.mem_zipIdx_iff_getElem?]
      simpa using ho)
    simpa using List.all_eq_true.1 this d hdm
  have hone' : ∀ o, o ∈ aops → o.take = [] ∧ ((∃ n a x, o.op = .store n a x) → o.guard = none) := by
    intro o ho
    rw [List.all_eq_true] at hone
    have := hone o ho
    simp only [Bool.and_eq_true, beq_iff_eq] at this
    refine ⟨this.1, fun ⟨n, y, x, hs⟩ => ?_⟩
    rw [hs] at this
    simpa using this.2
  have hpair' : ∀ i j x y, i < j → aops[i]? = some x → aops[j]? = some y → mayMix i x y = true ∨ path ops i ops.size j = true := by
    intro i j x y hij hx hy
    rw [List.all_eq_true] at hpair
    have h1 := hpair (x, i) (by rw [List.mem_zipIdx_iff_getElem?]; simpa using hx)
    have h2 := List.all_eq_true.1 h1 (y, j) (by rw [List.mem_zipIdx_iff_getElem?]; simpa using hy)
    simp only [Bool.or_eq_true, Bool.not_eq_true', decide_eq_false_iff_not] at h2
    rcases h2 with (h2 | h2) | h2
    · exact absurd hij h2
    · exact .inl h2
    · exact .inr h2
  have hnotake : ∀ o, o ∈ aops → ∀ g t n a, o.op = .load g t n a → t = false := by
    intro o ho g t n a hs
    rw [List.all_eq_true] at hone
    have := hone o ho
    simp only [Bool.and_eq_true, beq_iff_eq] at this
    rw [hs] at this
    simpa using this.2
  obtain ⟨pre, v, e, TR⟩ := draw_trace aops 0 [] [] σ σ' hone' he
  have p0 := TR.first
  have pn := TR.last
  have ps := TR.step
  have pa := TR.ss
  generalize hN : aops.length = N at *
  let dst : Nat → Option Nat := fun i => (aops[i]?).bind (·.dst)
  -- the text's order, as folds
  have pre_eq : ∀ j, j ≤ N → (pre j).tm = tmL dst v (fun i => decide (i < j)) (List.range N) (pre 0).tm ∧ (pre j).mem = memL e (fun i => decide (i < j)) (List.range N) (pre 0).mem := by
    intro j
    induction j with
    | zero => intro _; exact ⟨(tmL_none _ _ (by simp)).symm, (memL_none _ _ (by simp)).symm⟩
    | succ j ih =>
      intro hj
      obtain ⟨h1, h2⟩ := ih (by omega)
      have hj' : j < N := by omega
      obtain ⟨o, ho⟩ : ∃ o, aops[j]? = some o := ⟨aops[j], List.getElem?_eq_getElem (by omega)⟩
      have st := ps j o ho
      have hs := range_split hj'
      have e1 : tmL dst v (fun i => decide (i < j)) (List.range N) (pre 0).tm = tmL dst v (fun _ => true) ((List.range N).take j) (pre 0).tm := by
        rw [hs, tmL_append]
        rw [tmL_none (j :: (List.range N).drop (j + 1)) _ (fun i hi => by
          rcases List.mem_cons.1 hi with rfl | hi
          · simp
          · have := (mem_drop_range hi).1; simp; omega)]
        rw [← hs]
        exact tmL_same _ _ fun i hi => by simpa using mem_take_range hi
      have e2 : memL e (fun i => decide (i < j)) (List.range N) (pre 0).mem = memL e (fun _ => true) ((List.range N).take j) (pre 0).mem := by
        rw [hs, memL_append]
        rw [memL_none (j :: (List.range N).drop (j + 1)) _ (fun i hi => by
          rcases List.mem_cons.1 hi with rfl | hi
          · simp
          · have := (mem_drop_range hi).1; simp; omega)]
        rw [← hs]
        exact memL_same _ _ fun i hi => .inl (by simpa using mem_take_range hi)
      have f1 : tmL dst v (fun i => decide (i < j + 1)) (List.range N) (pre 0).tm = putT (tmL dst v (fun _ => true) ((List.range N).take j) (pre 0).tm) (dst j) (v j) := by
        rw [hs, tmL_append]
        have : tmL dst v (fun i => decide (i < j + 1)) (j :: (List.range N).drop (j + 1)) = fun acc => tmL dst v (fun i => decide (i < j + 1)) ((List.range N).drop (j + 1)) (putT acc (dst j) (v j)) := by
          funext acc
          show tmL dst v _ _ (if decide (j < j + 1) = true then _ else _) = _
          rw [if_pos (by simp)]
        rw [this]
        dsimp only
        rw [tmL_none _ _ (fun i hi => by have := (mem_drop_range hi).1; simp; omega), ← hs]
        congr 1
        exact tmL_same _ _ fun i hi => by have := mem_take_range hi; simp; omega
      have f2 : memL e (fun i => decide (i < j + 1)) (List.range N) (pre 0).mem = applyE (memL e (fun _ => true) ((List.range N).take j) (pre 0).mem) (e j) := by
        rw [hs, memL_append]
        have : memL e (fun i => decide (i < j + 1)) (j :: (List.range N).drop (j + 1)) = fun acc => memL e (fun i => decide (i < j + 1)) ((List.range N).drop (j + 1)) (applyE acc (e j)) := by
          funext acc
          show memL e _ _ (if decide (j < j + 1) = true then _ else _) = _
          rw [if_pos (by simp)]
        rw [this]
        dsimp only
        rw [memL_none _ _ (fun i hi => by have := (mem_drop_range hi).1; simp; omega), ← hs]
        congr 1
        exact memL_same _ _ fun i hi => .inl (by have := mem_take_range hi; simp; omega)
      refine ⟨?_, ?_⟩
      · rw [st.tm, h1, e1, f1]
        show putT _ o.dst (v j) = putT _ (dst j) (v j)
        simp [dst, ho]
      · rw [st.mem, h2, e2, f2]
  -- every effect fits the memory at the begin
  have fits0 : ∀ j, j < N → Fits (pre 0).mem (e j) := by
    have len : ∀ j, j ≤ N → ∀ i c, (pre j).mem.get i = some c → ∃ c0, (pre 0).mem.get i = some c0 ∧ c0.length = c.length := by
      intro j
      induction j with
      | zero => intro _ i c h; exact ⟨c, h, rfl⟩
      | succ j ih =>
        intro hj i c h
        obtain ⟨o, ho⟩ : ∃ o, aops[j]? = some o := ⟨aops[j], List.getElem?_eq_getElem (by omega)⟩
        have st := ps j o ho
        rw [st.mem, apply_get] at h
        have hf := st.fits
        cases hej : e j with
        | none => rw [hej] at h; exact ih (by omega) i c h
        | some q =>
          obtain ⟨i', off, cs⟩ := q
          rw [hej] at h hf
          dsimp only at h
          split at h
          · rename_i hi
            subst hi
            obtain ⟨c1, k1, k2⟩ := hf i off cs rfl
            rw [k1] at h
            cases h
            obtain ⟨c0, l1, l2⟩ := ih (by omega) i c1 k1
            exact ⟨c0, l1, by rw [over_length k2, l2]⟩
          · exact ih (by omega) i c h
    intro j hj i off cs hej
    obtain ⟨o, ho⟩ : ∃ o, aops[j]? = some o := ⟨aops[j], List.getElem?_eq_getElem (by omega)⟩
    obtain ⟨c, k1, k2⟩ := (ps j o ho).fits i off cs hej
    obtain ⟨c0, l1, l2⟩ := len j (by omega) i c k1
    exact ⟨c0, l1, by omega⟩
  have apart0 : ∀ i j, i ≠ j → i < N → j < N → Apart (e i) (e j) := by
    intro i j hne hi hj
    rcases Nat.lt_or_gt_of_ne hne with h | h
    · exact pa i j h hj
    · exact (pa j i h hi).symm
  -- the invariant
  have key : ∀ (fuel : Nat) (listed : Array Bool) (g1 : G) (a1 : Act) (w1 : World), listed.size = N → ((List.range N).filter fun i => !listed.getD i false).length = fuel →
      (∀ j o, listed.getD j false = true → ops[j]? = some o → ∀ d, d ∈ direct o → listed.getD d false = true) →
      Inv gl base w0 g1 ⟨tmL dst v (fun i => listed.getD i false) (List.range N) (pre 0).tm, memL e (fun i => listed.getD i false) (List.range N) (pre 0).mem⟩ a1 w1 → Ext' σ.mem.top g g1 →
      wpAny P .any ops Q fuel listed a1 w1 := by
    intro fuel
    induction fuel with
    | zero =>
      intro listed g1 a1 w1 hsz hcnt hcl hI1 hE
      have hall : ∀ i, i < N → listed.getD i false = true := by
        intro i hi
        cases hb : listed.getD i false with
        | true => rfl
        | false =>
          have : i ∈ (List.range N).filter fun i => !listed.getD i false := List.mem_filter.2 ⟨List.mem_range.2 hi, by rw [hb]; rfl⟩
          rw [List.eq_nil_of_length_eq_zero hcnt] at this
          cases this
      have hready : Region.ready .any ops listed = [] := by
        rw [List.eq_nil_iff_forall_not_mem]
        intro j hj
        obtain ⟨h1, o, ho, _⟩ := mem_ready.1 hj
        have hlt : j < ops.size := (Array.getElem?_eq_some_iff.1 ho).1
        have := hall j (by omega)
        have hjl : j < listed.size := by omega
        simp [Array.getD, hjl] at h1 this
        rw [h1] at this
        cases this
      refine ⟨hready, hQ a1 w1 ⟨g1, ?_, hE, ?_⟩⟩
      · obtain ⟨q1, q2⟩ := pre_eq N (Nat.le_refl _)
        rw [← pn]
        have r1 : (pre N).tm = tmL dst v (fun i => listed.getD i false) (List.range N) (pre 0).tm := by
          rw [q1]
          exact tmL_same _ _ fun i hi => by rw [hall i (by simpa using hi)]; simpa using hi
        have r2 : (pre N).mem = memL e (fun i => listed.getD i false) (List.range N) (pre 0).mem := by
          rw [q2]
          exact memL_same _ _ fun i hi => .inl (by rw [hall i (by simpa using hi)]; simpa using hi)
        have : pre N = ⟨tmL dst v (fun i => listed.getD i false) (List.range N) (pre 0).tm, memL e (fun i => listed.getD i false) (List.range N) (pre 0).mem⟩ := by
          rw [← r1, ← r2]
        rw [this]
        exact hI1
      · rw [← pn, (pre_eq N (Nat.le_refl _)).2]
        have : ∀ (b : Nat → Bool) (is : List Nat) (m : Mem), (memL e b is m).length = m.length := by
          intro b is
          induction is with
          | nil => intro m; rfl
          | cons i is ih =>
            intro m
            show (memL e b is (if b i then applyE m (e i) else m)).length = _
            rw [ih]
            split
            · exact apply_length _ _
            · rfl
        rw [this, p0]
    | succ fuel ih =>
      intro listed g1 a1 w1 hsz hcnt hcl hI1 hE
      refine ⟨fun hnil => ?_, fun j hj => ?_⟩
      · -- the least one that is not listed is ready
        exfalso
        obtain ⟨j, hj⟩ : ∃ j, j ∈ (List.range N).filter fun i => !listed.getD i false := by
          cases hl : (List.range N).filter fun i => !listed.getD i false with
          | nil => rw [hl] at hcnt; simp at hcnt
          | cons j l => exact ⟨j, by simp⟩
        have hex : ∃ j, j < N ∧ listed.getD j false = false := ⟨j, by simpa using hj⟩
        obtain ⟨k, hmin, hless⟩ := exists_min hex
        have hk : k < ops.size := by omega
        have : k ∈ Region.ready .any ops listed := by
          refine mem_ready.2 ⟨?_, ops[k], by simp [hk], fun ed hed hb => ?_⟩
          · have := hmin.2
            have hkl : k < listed.size := by omega
            simp [Array.getD, hkl] at this ⊢
            exact this
          · have hlt := hback' k ops[k] (by simp [hk]) ed.on (by simp only [direct, List.mem_map, List.mem_filter]; exact ⟨ed, ⟨by simpa using hed, hb⟩, rfl⟩)
            cases hv : listed.getD ed.on false with
            | true => rfl
            | false => exact absurd ⟨by omega, hv⟩ (hless ed.on hlt)
        rw [hnil] at this
        cases this
      · obtain ⟨h1, o, ho, hpre⟩ := mem_ready.1 hj
        have hjs : j < ops.size := (Array.getElem?_eq_some_iff.1 ho).1
        have hjN : j < N := by omega
        have hjl : j < listed.size := by omega
        have hjf : listed.getD j false = false := by
          simp [Array.getD, hjl] at h1 ⊢
          exact h1
        obtain ⟨ao, hao, hck⟩ := hget j o (by simpa using ho)
        have st := ps j ao hao
        -- what is listed is closed under what comes before
        have closed : ∀ i k, path ops i ops.size k = true → listed.getD k false = true → listed.getD i false = true :=
          fun i k hp hk => path_closed (L := fun i => listed.getD i false = true) hcl ops.size i k hp hk
        have closedj : ∀ i, path ops i ops.size j = true → listed.getD i false = true := by
          intro i hp
          have : ∀ n, path ops i n j = true → listed.getD i false = true := by
            intro n hp
            cases n with
            | zero => simp [path] at hp
            | succ n =>
              simp only [path, ho, List.any_eq_true] at hp
              obtain ⟨d, hd, hp⟩ := hp
              have hd' : listed.getD d false = true := by
                simp only [direct, List.mem_map, List.mem_filter] at hd
                obtain ⟨ed, ⟨hed, hb⟩, rfl⟩ := hd
                exact hpre ed (by simpa using hed) hb
              simp only [Bool.or_eq_true, beq_iff_eq] at hp
              rcases hp with rfl | hp
              · exact hd'
              · exact path_closed (L := fun i => listed.getD i false = true) hcl n i d hp hd'
          exact this _ hp
        have hdstj : dst j = ao.dst := by simp [dst, hao]
        -- the operands are as in the text's order
        have reads : ∀ t, t ∈ ao.reads → getT (tmL dst v (fun i => listed.getD i false) (List.range N) (pre 0).tm) t = getT (pre j).tm t := by
          intro t ht
          rw [(pre_eq j (by omega)).1]
          refine tmL_agree _ _ _ (fun i hi hdi => ?_) rfl rfl
          have hiN : i < N := by simpa using hi
          obtain ⟨x, hx⟩ : ∃ x, aops[i]? = some x := ⟨aops[i], List.getElem?_eq_getElem (by omega)⟩
          have hxd : x.dst = some t := by simpa [dst, hx] using hdi
          have htn : t ∈ ao.names := by simp [AOper.names, ht]
          rcases Nat.lt_trichotomy i j with hlt | heq | hgt
          · rcases hpair' i j x ao hlt hx hao with hmx | hp
            · simp only [mayMix, hxd, Bool.and_eq_true, Bool.not_eq_true', List.contains_eq_mem, decide_eq_false_iff_not] at hmx
              exact absurd htn hmx.1.1
            · rw [closedj i hp]; simp [hlt]
          · subst heq
            rw [hjf]; simp
          · have : listed.getD i false = false := by
              cases hb : listed.getD i false with
              | false => rfl
              | true =>
                rcases hpair' j i ao x hgt hao hx with hmx | hp
                · simp only [mayMix, hxd, Bool.and_eq_true, Bool.not_eq_true', List.contains_eq_mem, decide_eq_false_iff_not] at hmx
                  exact absurd htn hmx.1.2
                · rw [closed j i hp hb] at hjf; cases hjf
            rw [this]
            simp; omega
        have hfits : ∀ i, i ∈ List.range N → Fits (pre 0).mem (e i) := fun i hi => fits0 i (by simpa using hi)
        have memc : ao.op.still = true ∨ memL e (fun i => listed.getD i false) (List.range N) (pre 0).mem = (pre j).mem ∨ ((∃ n a x, ao.op = .store n a x) ∧ Fits (memL e (fun i => listed.getD i false) (List.range N) (pre 0).mem) (e j)) ∨
            ((∃ g n a, ao.op = .load g false n a) ∧ Agree (pre j).mem (memL e (fun i => listed.getD i false) (List.range N) (pre 0).mem) (loadFoot (pre j).tm ao)) := by
          by_cases hst : ao.op.still = true
          · exact .inl hst
          · by_cases hs : ∃ n a x, ao.op = .store n a x
            · exact .inr (.inr (.inl ⟨hs, memL_fits _ _ (fits0 j hjN) hfits⟩))
            · -- a store that is not ordered beside this one: only a load may stand so, held apart
              have other : ∀ i, i < N → listed.getD i false = decide (i < j) ∨ e i = none ∨ ((∃ g n a, ao.op = .load g false n a) ∧ ApartF (e i) (loadFoot (pre j).tm ao)) := by
                intro i hiN
                obtain ⟨x, hx⟩ : ∃ x, aops[i]? = some x := ⟨aops[i], List.getElem?_eq_getElem (by omega)⟩
                rcases (ps i x hx).store with ⟨n, y, z, hxs⟩ | hnone
                · have isload : (∃ g t n a, ao.op = .load g t n a) → ∃ g n a, ao.op = .load g false n a := by
                    rintro ⟨g, t, n, a, hl⟩
                    have := hnotake ao (List.mem_of_getElem? hao) g t n a hl
                    subst this
                    exact ⟨g, n, a, hl⟩
                  rcases Nat.lt_trichotomy i j with hlt | heq | hgt
                  · rcases hpair' i j x ao hlt hx hao with hmx | hp
                    · rcases mayMix_store hxs hmx with h | h | ⟨h, hap⟩
                      · exact absurd h hs
                      · exact absurd h hst
                      · exact .inr (.inr ⟨isload h, TR.sl i j ao hlt hao (by simpa using hap)⟩)
                    · left; rw [closedj i hp]; simp [hlt]
                  · subst heq
                    rw [hx] at hao
                    cases hao
                    exact absurd ⟨n, y, z, hxs⟩ hs
                  · rcases hpair' j i ao x hgt hao hx with hmx | hp
                    · rcases mayMix_store2 hxs hmx with h | h | ⟨h, hap⟩
                      · exact absurd h hs
                      · exact absurd h hst
                      · exact .inr (.inr ⟨isload h, TR.ls j i ao x hgt hao hx (by simpa using hap)⟩)
                    · left
                      cases hb : listed.getD i false with
                      | false => simp; omega
                      | true => rw [closed j i hp hb] at hjf; cases hjf
                · exact .inr (.inl hnone)
              by_cases hl : ∃ g n a, ao.op = .load g false n a
              · refine .inr (.inr (.inr ⟨hl, ?_⟩))
                rw [(pre_eq j (by omega)).2]
                cases hfo : loadFoot (pre j).tm ao with
                | none => trivial
                | some f =>
                  have agree0 : Agree (pre 0).mem (pre 0).mem (some f) := by
                    cases hg : (pre 0).mem.get f.1 with
                    | none => exact .inl ⟨hg, hg⟩
                    | some c => exact .inr ⟨c, c, hg, hg, rfl, fun _ _ _ => rfl⟩
                  exact memL_agree _ agree0 (fun i hi => ⟨hfits i hi, hfits i hi⟩) (fun i hi => by
                    rcases other i (by simpa using hi) with h | h | ⟨_, h⟩
                    · exact .inl h.symm
                    · right; intro a1 a2 a3 b1 b2 b3 h1; rw [h] at h1; cases h1
                    · right; rw [hfo] at h; exact h)
              · refine .inr (.inl ?_)
                rw [(pre_eq j (by omega)).2]
                refine memL_same _ _ fun i hi => ?_
                rcases other i (by simpa using hi) with h | h | ⟨h, _⟩
                · exact .inl h
                · exact .inr h
                · exact absurd h hl
        have hev := st.again ⟨_, _⟩ reads memc
        -- the new set
        have hset : ∀ i, (listed.setIfInBounds j true).getD i false = if i = j then true else listed.getD i false := by
          intro i
          by_cases hij : i = j
          · subst hij
            simp [Array.getD_eq_getD_getElem?, hjl]
          · rw [if_neg hij]
            exact getD_set_ne false (fun e => hij e.symm)
        have hs := range_split hjN
        have tmnew : tmL dst v (fun i => (listed.setIfInBounds j true).getD i false) (List.range N) (pre 0).tm = putT (tmL dst v (fun i => listed.getD i false) (List.range N) (pre 0).tm) ao.dst (v j) := by
          rw [← hdstj]
          rw [hs, tmL_append, tmL_append]
          show tmL dst v _ ((List.range N).drop (j + 1)) (if _ then _ else _) = putT (tmL dst v _ ((List.range N).drop (j + 1)) (if _ then _ else _)) (dst j) (v j)
          rw [if_pos (by show (listed.setIfInBounds j true).getD j false = true; rw [hset, if_pos rfl]), if_neg (by show ¬ listed.getD j false = true; rw [hjf]; simp)]
          have t1 : tmL dst v (fun i => (listed.setIfInBounds j true).getD i false) ((List.range N).take j) (pre 0).tm = tmL dst v (fun i => listed.getD i false) ((List.range N).take j) (pre 0).tm :=
            tmL_same _ _ fun i hi => by rw [hset, if_neg (by have := mem_take_range hi; omega)]
          rw [t1, tmL_same (b' := fun i => listed.getD i false) _ _ (fun i hi => by rw [hset, if_neg (by have := (mem_drop_range hi).1; omega)])]
          refine tmL_put _ _ _ _ fun i hi hbi t hdt hdi => ?_
          have hij := mem_drop_range hi
          obtain ⟨x, hx⟩ : ∃ x, aops[i]? = some x := ⟨aops[i], List.getElem?_eq_getElem (by omega)⟩
          have hxd : x.dst = some t := by simpa [dst, hx] using hdi
          have had : ao.dst = some t := by rw [← hdstj]; exact hdt
          rcases hpair' j i ao x (by omega) hao hx with hmx | hp
          · simp only [mayMix, hxd, Bool.and_eq_true, Bool.not_eq_true', List.contains_eq_mem, decide_eq_false_iff_not] at hmx
            exact hmx.1.2 (by simp [AOper.names, had])
          · rw [closed j i hp hbi] at hjf; cases hjf
        have memnew : Same (memL e (fun i => (listed.setIfInBounds j true).getD i false) (List.range N) (pre 0).mem) (applyE (memL e (fun i => listed.getD i false) (List.range N) (pre 0).mem) (e j)) := by
          rw [hs, memL_append, memL_append]
          show Same (memL e _ ((List.range N).drop (j + 1)) (if _ then _ else _)) (applyE (memL e _ ((List.range N).drop (j + 1)) (if _ then _ else _)) (e j))
          rw [if_pos (by show (listed.setIfInBounds j true).getD j false = true; rw [hset, if_pos rfl]), if_neg (by show ¬ listed.getD j false = true; rw [hjf]; simp)]
          have t1 : memL e (fun i => (listed.setIfInBounds j true).getD i false) ((List.range N).take j) (pre 0).mem = memL e (fun i => listed.getD i false) ((List.range N).take j) (pre 0).mem :=
            memL_same _ _ fun i hi => .inl (by rw [hset, if_neg (by have := mem_take_range hi; omega)])
          rw [t1, memL_same (b' := fun i => listed.getD i false) _ _ (fun i hi => .inl (by rw [hset, if_neg (by have := (mem_drop_range hi).1; omega)]))]
          refine memL_apply _ _ (memL_fits _ _ (fits0 j hjN) fun i hi => fits0 i ?_) (fun i hi => memL_fits _ _ (fits0 i (mem_drop_range hi).2) fun k hk => fits0 k ?_) (fun i hi => apart0 j i (by have := (mem_drop_range hi).1; omega) hjN (mem_drop_range hi).2)
          · have := mem_take_range hi; omega
          · have := mem_take_range hk; omega
        have hstep := oper_sound (K := wpAny P .any ops Q fuel (listed.setIfInBounds j true)) (Q := Q) hcall hmeth hck hev hI1 (fun a' w' hA => by
          obtain ⟨g2, hI2, hE2, hL2⟩ := hA
          refine ih (listed.setIfInBounds j true) g2 a' w' (by simpa using hsz) ?_ ?_ ?_ (hE.trans ?_)
          · -- one less is left
            have hf : ((List.range N).filter fun i => !(listed.setIfInBounds j true).getD i false).length + 1 = ((List.range N).filter fun i => !listed.getD i false).length := by
              rw [hs, List.filter_append, List.filter_append]
              simp only [List.filter_cons, List.length_append]
              rw [if_neg (by rw [hset, if_pos rfl]; simp), if_pos (by rw [hjf]; rfl)]
              have u1 : ((List.range N).take j).filter (fun i => !(listed.setIfInBounds j true).getD i false) = ((List.range N).take j).filter fun i => !listed.getD i false :=
                List.filter_congr fun i hi => by rw [hset, if_neg (by have := mem_take_range hi; omega)]
              have u2 : ((List.range N).drop (j + 1)).filter (fun i => !(listed.setIfInBounds j true).getD i false) = ((List.range N).drop (j + 1)).filter fun i => !listed.getD i false :=
                List.filter_congr fun i hi => by rw [hset, if_neg (by have := (mem_drop_range hi).1; omega)]
              rw [u1, u2]
              simp
              omega
            omega
          · intro k o' hk ho' d hd
            rw [hset] at hk ⊢
            by_cases hdj : d = j
            · simp [hdj]
            · rw [if_neg hdj]
              by_cases hkj : k = j
              · subst hkj
                rw [ho] at ho'
                cases ho'
                simp only [direct, List.mem_map, List.mem_filter] at hd
                obtain ⟨ed, ⟨hed, hb⟩, rfl⟩ := hd
                exact hpre ed (by simpa using hed) hb
              · rw [if_neg hkj] at hk
                exact hcl k o' hk ho' d hd
          · rw [tmnew]
            exact hI2.congr memnew
          · have : (memL e (fun i => listed.getD i false) (List.range N) (pre 0).mem).length = σ.mem.length := by
              rw [← p0]
              have : ∀ (b : Nat → Bool) (is : List Nat) (m : Mem), (memL e b is m).length = m.length := by
                intro b is
                induction is with
                | nil => intro m; rfl
                | cons i is ih =>
                  intro m
                  show (memL e b is (if b i then applyE m (e i) else m)).length = _
                  rw [ih]
                  split
                  · exact apply_length _ _
                  · rfl
              exact this _ _ _
            have ht : (memL e (fun i => listed.getD i false) (List.range N) (pre 0).mem).top = σ.mem.top := by simp only [Mem.top, this]
            rw [← ht]
            exact hE2)
        show wpOp P ops Q j _ a1 w1
        unfold wpOp
        rw [ho]
        dsimp only
        split
        · rename_i hw
          rw [if_pos hw] at hstep
          exact .inl hstep
        · rename_i hw
          rw [if_neg hw] at hstep
          exact hstep
  refine wp_region_any hm ?_
  have h0 : ∀ i, (Array.replicate ops.size false).getD i false = false := by
    intro i
    simp [Array.getD_eq_getD_getElem?, Array.getElem?_replicate]
    split <;> rfl
  have hw' : WM base w0 g { w with drawn := w.drawn + 1 } σ.mem := hI.wm.heap rfl ⟨hI.wm.old.os, hI.wm.old.tape, hI.wm.old.output, hI.wm.old.size, hI.wm.old.block⟩
  refine key ops.size _ g a _ (by simp [hn]) ?_ (fun j o h => by rw [h0] at h; cases h) ?_ (.refl _ _)
  · rw [List.filter_eq_self.2 (fun i _ => by rw [h0]; rfl)]
    simp [hn]
  · rw [tmL_none _ _ (fun i _ => h0 i), memL_none _ _ (fun i _ => h0 i), p0]
    exact ⟨hw', hI.wt, hI.mw, hI.gl, hI.defers, hI.pos⟩

end
end Go.VA
