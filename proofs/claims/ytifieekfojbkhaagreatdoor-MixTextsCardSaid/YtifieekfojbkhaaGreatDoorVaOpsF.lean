/-
  Operations that move a right to append or change the memory.
-/
import Derived.Test.YtifieekfojbkhaaGreatDoorVaEq
set_option linter.unusedSimpArgs false
set_option linter.unusedVariables false
namespace Go.VA
open Go Go.RowKit

/-- How a later state of affairs stands to an elder one, in the frame whose number is n. -/
structure Ext' (n : Nat) (g g' : G) : Prop where
  imm : ∀ a v, g.imm a = some v → g'.imm a = some v
  map : ∀ r e, g.map r = some e → g'.map r = some e
  blk : ∀ i, i.fr ≠ n → g'.blk i = g.blk i
  own : ∀ b s, g.own b = some (.out, s) → g'.own b = some (.out, s)

theorem Ext'.refl (n : Nat) (g : G) : Ext' n g g := ⟨fun _ _ h => h, fun _ _ h => h, fun _ _ => rfl, fun _ _ h => h⟩
theorem Ext'.trans {n : Nat} {g g' g'' : G} (h : Ext' n g g') (k : Ext' n g' g'') : Ext' n g g'' :=
  ⟨fun a v e => k.imm a v (h.imm a v e), fun r e f => k.map r e (h.map r e f), fun i hi => (k.blk i hi).trans (h.blk i hi), fun b s e => k.own b s (h.own b s e)⟩

/-- What an operation comes to. -/
structure OpOut (P : Program) (base : Nat) (w0 : World) (g : G) (a : Act) (w : World) (mem : Mem) (tm : List AV) (take : List Nat) (op : Op) (st : Bool) (d : Nat) (r : AV × Mem) : Prop where
  out : ∃ x w' g', (∀ dst ty pos after guard, (execOp a.eval ⟨dst, op, ty, pos, after, guard⟩).run P w = .ok (if st then .skip else .value x) w') ∧
    WM base w0 g' w' r.2 ∧ Ext' mem.top g g' ∧ (∀ t, RL g' (.tmp t) (getT (stripAll tm take) t) (a.tmps.getD t undef)) ∧ RL g' (.tmp d) r.1 x ∧ r.2.length = mem.length

section
variable {P : Program} {gl : Globs} {g : G} {tm : List AV} {a : Act} {take : List Nat} {base : Nat} {w0 w : World} {mem : Mem} {d : Nat} {r : AV × Mem} {op : Op}

theorem stripAll_get : ∀ (take : List Nat) (tm : List AV) (t : Nat), getT (stripAll tm take) t = if t ∈ take then (getT tm t).strip else getT tm t
  | [], tm, t => by simp [stripAll]
  | s :: r, tm, t => by
    simp only [stripAll, stripAll_get r]
    have hs : getT (tm.set s (getT tm s).strip) t = if t = s then (getT tm t).strip else getT tm t := by
      unfold getT
      by_cases h : t = s
      · subst h
        rw [if_pos rfl]
        by_cases hl : t < tm.length
        · simp [List.getD, hl]
        · have h1 : ∀ v, (tm.set t v)[t]? = none := fun v => List.getElem?_eq_none (by simp; omega)
          have h2 : tm[t]? = none := List.getElem?_eq_none (by omega)
          simp only [List.getD, h1, h2, Option.getD_none, AV.strip]
      · rw [if_neg h]
        simp [List.getD, List.getElem?_set_ne (fun e => h e.symm)]
    have hss : ∀ v : AV, v.strip.strip = v.strip := by
      intro v
      cases v <;> first | rfl | (rename_i c; cases c <;> rfl)
    rw [hs]
    by_cases h1 : t = s
    · subst h1
      simp [hss]
    · simp [h1]

theorem WT.strip (hT : WT g tm a.tmps) (take : List Nat) (t : Nat) : RL g (.tmp t) (getT (stripAll tm take) t) (a.tmps.getD t undef) := by
  rw [stripAll_get]
  split
  · exact .val (hT.get t).strip
  · exact hT.get t

theorem Plain.out (h : Plain P g a w mem op r) (hT : WT g tm a.tmps) (hM : WM base w0 g w mem) : OpOut P base w0 g a w mem tm take op false d r := by
  obtain ⟨h1, x, h2, h3⟩ := h
  exact ⟨x, w, g, h2, h1 ▸ hM, .refl _ _, hT.strip take, .val h3, by rw [h1]⟩

/-- The value of an operand whose right moves on. -/
theorem rl_opd (hT : WT g tm a.tmps) (hgl : GlobOK gl g) {x : Operand} {y : Opd} (h : chkOpd gl x y = true) :
    RV g.imm g.map g.blk (rho tm take y) (a.eval x) ∨ ∃ t, y = .tmp t ∧ t ∈ take ∧ x = .tmp t ∧ rho tm take y = getT tm t ∧ RL g (.tmp t) (rho tm take y) (a.eval x) := by
  cases y with
  | av v =>
    have := rv_opd (take := take) hT hgl h
    cases x with
    | tmp t => simp [chkOpd] at h
    | const c => exact .inl (constAV_rv c (show constAV c = some v by simpa [chkOpd] using h))
    | global n =>
      cases v with
      | rptr c => exact .inl this
      | _ => simp [chkOpd] at h
    | func f =>
      cases v with
      | fn f' l => exact .inl this
      | _ => simp [chkOpd] at h
  | tmp t =>
    cases x with
    | tmp t' =>
      obtain rfl : t' = t := by simpa [chkOpd] using h
      show RV g.imm g.map g.blk (if t' ∈ take then getT tm t' else (getT tm t').strip) _ ∨ _
      by_cases hm : t' ∈ take
      · have he : rho tm take (.tmp t') = getT tm t' := by simp [rho, hm]
        exact .inr ⟨t', rfl, hm, rfl, he, he ▸ hT.get t'⟩
      · rw [if_neg hm]
        exact .inl (hT.get t').strip
    | _ => simp [chkOpd] at h

theorem strip_strip (v : AV) : v.strip.strip = v.strip := by
  cases v <;> first | rfl | (rename_i c; cases c <;> rfl)

/-- The temporaries behind a right that moved on from a temporary. -/
theorem WT.moved (hT : WT g tm a.tmps) {t : Nat} (ht : t ∈ take) (to : Loc) (s : Nat) : RL (g.move (.tmp t) to) (.tmp s) (getT (stripAll tm take) s) (a.tmps.getD s undef) := by
  by_cases h : s = t
  · subst h
    rw [stripAll_get, if_pos ht]
    exact .val (hT.get s).strip
  · exact (hT.strip take s).stay (by simpa using h)

theorem Ext'.moveTmp (n : Nat) (t : Nat) (to : Loc) : Ext' n g (g.move (.tmp t) to) :=
  ⟨fun _ _ h => h, fun _ _ h => h, fun _ _ => rfl, fun b s h => move_other h (by simp)⟩

theorem op_mv (hT : WT g tm a.tmps) (hgl : GlobOK gl g) (hM : WM base w0 g w mem) {y : Opd} (hc : chkOp P gl op (.mv y) = true) (he : evOp mem d (rho tm take) (.mv y) = some r) : OpOut P base w0 g a w mem tm take op false d r := by
  simp only [evOp, Option.some.injEq] at he
  subst he
  obtain ⟨x, hx, hop⟩ : ∃ x, chkOpd gl x y = true ∧ (op = .move x ∨ op = .assign x) := by
    cases op <;> simp only [chkOp, Bool.false_eq_true] at hc
    · exact ⟨_, hc, .inl rfl⟩
    · exact ⟨_, hc, .inr rfl⟩
  have exec : ∀ dst ty pos after guard, (execOp a.eval ⟨dst, op, ty, pos, after, guard⟩).run P w = .ok (if false then .skip else .value (a.eval x)) w := by
    intro _ _ _ _ _
    rcases hop with rfl | rfl <;> simp [execOp]
  rcases rl_opd (take := take) hT hgl hx with h | ⟨t, rfl, hm, rfl, he, h⟩
  · exact ⟨_, w, g, exec, hM, .refl _ _, hT.strip take, .val h, rfl⟩
  · exact ⟨_, w, g.move (.tmp t) (.tmp d), exec, hM.move (by simp), Ext'.moveTmp _ _ _, hT.moved hm _, h.moved, rfl⟩

theorem newBlk_ext {s : List Nat} (n : Nat) : Ext' mem.top g (g.addBlk ⟨mem.top, s⟩ n) :=
  ⟨fun _ _ h => h, fun _ _ h => h, fun i hi => by show (if i = _ then _ else _) = _; rw [if_neg (by intro e; subst e; exact hi rfl)], fun _ _ h => h⟩

theorem addBlk_mono {i : Id} (hb : g.blk i = none) (n : Nat) : ∀ j b, g.blk j = some b → (g.addBlk i n).blk j = some b := by
  intro j b h
  show (if j = _ then _ else _) = _
  rw [if_neg (by intro e; subst e; rw [hb] at h; cases h)]
  exact h

theorem op_alloc (hT : WT g tm a.tmps) (hM : WM base w0 g w mem) {z : List AV} (hc : chkOp P gl op (.alloc z) = true) (he : evOp mem d (rho tm take) (.alloc z) = some r) : OpOut P base w0 g a w mem tm take op false d r := by
  cases op <;> simp only [chkOp, Bool.false_eq_true] at hc
  rename_i t
  obtain ⟨i, zv, hi, hzv, hzr⟩ := zeroB_spec (imm := g.imm) (map := g.map) (blk := g.blk) hc
  simp only [evOp, Option.map_eq_some_iff] at he
  obtain ⟨m, hm, rfl⟩ := he
  obtain ⟨h1, h2, h3⟩ := hM.newBlk (e := t) hm hzr
  refine ⟨.pointer (some ⟨w.heap.size, 0, none⟩), _, _, fun _ _ _ _ _ => ?_, h1, newBlk_ext _, fun s => (hT.strip take s).mono (fun _ _ h => h) (fun _ _ h => h) (addBlk_mono h2 _) (fun _ _ h => h), .val (.ptr _ _ _ ?_), h3⟩
  · simp [execOp, Instr.alloc, zeroValue, typeInfo, hi, hzv, newVar, newRow]
  · show (if _ = _ then _ else _) = _
    rw [if_pos rfl]

theorem op_box_imm (hT : WT g tm a.tmps) (hgl : GlobOK gl g) (hM : WM base w0 g w mem) {y : Opd} (hc : chkOp P gl op (.box true y) = true) (he : evOp mem d (rho tm take) (.box true y) = some r) : OpOut P base w0 g a w mem tm take op false d r := by
  cases op <;> simp only [chkOp, Bool.false_eq_true] at hc
  rename_i t x
  simp only [evOp] at he
  split at he
  · rename_i hp
    cases he
    have hr := rv_opd (take := take) hT hgl hc
    have hs : (rho tm take y).strip = rho tm take y := by
      have := hp.1
      generalize rho tm take y = v at this
      cases v <;> first | rfl | (rename_i c; cases c <;> simp [AV.pure] at this <;> rfl)
    rw [hs] at hr
    have hcells := hr.cells (defd_ne hp.2)
    obtain ⟨h1, h2⟩ := hM.newImm (arr := (a.eval x).cells) (e := t)
    refine ⟨.pointer (some ⟨w.heap.size, 0, none⟩), _, _, fun _ _ _ _ _ => ?_, h1, ⟨h2, fun _ _ h => h, fun _ _ => rfl, fun _ _ h => h⟩, fun s => (hT.strip take s).mono h2 (fun _ _ h => h) (fun _ _ h => h) (fun _ _ h => h), .val ?_, rfl⟩
    · simp [execOp, Instr.box, newVar, newRow]
    · refine .rptr _ _ _ (fun j => (a.eval x).cells.getD j undef) (pure_cells hp.1) (fun j hj => ?_) (fun j u hu => ?_)
      · have : j < (a.eval x).cells.size := by have := hcells.1; simp at this; omega
        show (if _ = _ then _ else _) = _
        simp [this, Array.getD]
      · have hj : j < (a.eval x).cells.size := by have k1 := hcells.1; have k2 := (List.getElem?_eq_some_iff.1 hu).1; simp at k1; omega
        exact (hcells.2 j u _ hu (by simp [Array.getD, hj])).mono h2 (fun _ _ h => h) (fun _ _ h => h)
  · cases he

theorem op_box_mut (hT : WT g tm a.tmps) (hgl : GlobOK gl g) (hM : WM base w0 g w mem) {y : Opd} (hc : chkOp P gl op (.box false y) = true) (he : evOp mem d (rho tm take) (.box false y) = some r) : OpOut P base w0 g a w mem tm take op false d r := by
  cases op <;> simp only [chkOp, Bool.false_eq_true] at hc
  rename_i t x
  simp only [evOp] at he
  split at he
  · rename_i hp
    simp only [Option.map_eq_some_iff] at he
    obtain ⟨m, hm, rfl⟩ := he
    have hr := rv_opd (take := take) hT hgl hc
    have hd : (rho tm take y).strip ≠ .undef := by
      have := defd_ne hp.2
      generalize rho tm take y = v at this ⊢
      cases v <;> first | exact absurd rfl this | (simp [AV.strip]; done) | (rename_i c; cases c <;> simp [AV.strip])
    have hcells := hr.cells hd
    obtain ⟨h1, h2, h3⟩ := hM.newBlk (arr := (a.eval x).cells) (e := t) hm hcells
    refine ⟨.pointer (some ⟨w.heap.size, 0, none⟩), _, _, fun _ _ _ _ _ => ?_, h1, newBlk_ext _, fun s => (hT.strip take s).mono (fun _ _ h => h) (fun _ _ h => h) (addBlk_mono h2 _) (fun _ _ h => h), .val (.ptr _ _ _ ?_), h3⟩
    · simp [execOp, Instr.box, newVar, newRow]
    · show (if _ = _ then _ else _) = _
      rw [if_pos rfl]
  · cases he

theorem op_load_take (hT : WT g tm a.tmps) (hgl : GlobOK gl g) (hM : WM base w0 g w mem) {agg : Bool} {n : Nat} {y : Opd} (hc : chkOp P gl op (.load agg true n y) = true) (he : evOp mem d (rho tm take) (.load agg true n y) = some r) :
    OpOut P base w0 g a w mem tm take op false d r := by
  by_cases hpl : ∃ l, rho tm take y = .rptr l ∨ (agg = true)
  · have : evOp mem d (rho tm take) (.load agg false n y) = some r := by
      obtain ⟨l, h | h⟩ := hpl
      · simp only [evOp, h] at he ⊢
        exact he
      · subst h
        simp only [evOp, if_true] at he ⊢
        exact he
    exact (op_load hT hgl hM (by cases op <;> simp only [chkOp, Bool.false_eq_true] at hc ⊢; exact hc) this).out hT hM
  · have hagg : agg = false := by
      cases agg with
      | false => rfl
      | true => exact absurd ⟨[], .inr rfl⟩ hpl
    subst hagg
    cases op <;> simp only [chkOp, Bool.false_eq_true] at hc
    rename_i t x
    simp only [Bool.and_eq_true, beq_iff_eq] at hc
    obtain ⟨⟨⟨h1, h2⟩, h3⟩, h4⟩ := hc
    have h5 := rv_opd (take := take) hT hgl h4
    generalize hz : a.eval x = z at h5
    simp only [evOp] at he
    split at he
    · rename_i l hl
      exact absurd ⟨l, .inl hl⟩ hpl
    · rename_i i off hl
      rw [hl] at h5
      cases h5 with
      | ptr _ _ b hb =>
      simp only [Bool.false_eq_true, if_false, if_true, Option.bind_eq_some_iff, Option.map_eq_some_iff] at he
      obtain ⟨c, hget, v, hv, rfl⟩ := he
      obtain ⟨k1, k2, c', arr, e, k3, k4, k5, k6⟩ := hM.blk i b hb
      obtain rfl : c = c' := Option.some.inj (hget.symm.trans k3)
      have hlt : off < arr.size := by have := (List.getElem?_eq_some_iff.1 hv).1; omega
      have hM2 := hM.stripCell hget hv
      have hl' : ∀ i' j' c2 v2, Loc.cell i off = Loc.cell i' j' → (mem.set i (c.set off v.strip)).get i' = some c2 → c2[j']? = some v2 → v2.strip = v2 := by
        intro i' j' c2 v2 e1 e2 e3
        cases e1
        rw [mset_get, if_pos rfl, hget] at e2
        cases e2
        rw [List.getElem?_set] at e3
        simp at e3
        obtain ⟨_, rfl⟩ := e3
        exact strip_strip _
      refine ⟨arr[off], w, g.move (.cell i off) (.tmp d), fun _ _ _ _ _ => ?_, hM2.move hl', ⟨fun _ _ h => h, fun _ _ h => h, fun _ _ => rfl, fun b s h => move_other h (by simp)⟩,
        fun s => (hT.strip take s).stay (by simp), (k6 off v _ hv (by simp [hlt])).moved, mset_length _ _ _⟩
      simp [execOp, hz, Instr.loadAt, Instr.sureAddr, loadVar, isAgg_run h2, h1, load, Sem.run, World.cell?, k4, hlt]
    · cases he

end
end Go.VA
