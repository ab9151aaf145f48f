/-
  One operation of a region.
-/
import Derived.Test.YtifieekfojbkhaaGreatDoorVaMW
set_option linter.unusedSimpArgs false
set_option linter.unusedVariables false
namespace Go.VA
open Go Go.RowKit

/-- How an abstract state stands to the machine's. -/
structure Inv (gl : Globs) (base : Nat) (w0 : World) (g : G) (σ : St) (a : Act) (w : World) : Prop where
  wm : WM base w0 g w σ.mem
  wt : WT g σ.tm a.tmps
  mw : MW σ.mem
  gl : GlobOK gl g
  defers : a.defers = []
  pos : 0 < σ.mem.length

def MethOK (P : Program) (C : Ctx) : Prop := ∀ t m f, C.meth t m = some f → ∀ v w, (method (P.types.size + Made.depth) t v m).run P w = .ok (f, v) w

section
variable {P : Program} {C : Ctx} {gl : Globs} {g g' : G} {base : Nat} {w0 w : World} {σ σ' : St} {a : Act} {call : CallF} {ops : Array Oper} {o : Oper} {ao : AOper}

theorem stripAll_length : ∀ (take : List Nat) (tm : List AV), (stripAll tm take).length = tm.length
  | [], _ => rfl
  | t :: r, tm => by simp [stripAll, stripAll_length r]

theorem WT.put {tm : List AV} {dst : Option Nat} {v : AV} {x : Value} (hs : tm.length = a.tmps.size) (h : ∀ t, RL g (.tmp t) (getT tm t) (a.tmps.getD t undef)) (hv : RL g (.tmp (dst.getD 0)) v x) : WT g (putT tm dst v) (a.put dst x).tmps := by
  have old : ∀ (i : Nat) u y, tm[i]? = some u → a.tmps[i]? = some y → RL g (.tmp i) u y := by
    intro i u y hu hy
    have := h i
    unfold getT at this
    simpa [List.getD, hu, Array.getD_eq_getD_getElem?, hy] using this
  cases dst with
  | none => exact ⟨hs, old⟩
  | some d =>
    refine ⟨by simp [putT, Act.put, hs], fun i u y hu hy => ?_⟩
    simp only [putT, Act.put] at hu hy
    rw [List.getElem?_set] at hu
    rw [Array.getElem?_setIfInBounds] at hy
    by_cases hd : d = i
    · subst hd
      simp only [if_true] at hu hy
      split at hu
      · rename_i h1
        rw [if_pos (by omega)] at hy
        cases hu; cases hy
        exact hv
      · cases hu
    · rw [if_neg hd] at hu hy
      exact old i u y hu hy

theorem put_defers (a : Act) (dst : Option Tmp) (x : Value) : (a.put dst x).defers = a.defers := by cases dst <;> rfl

/-- What holds behind one operation. -/
def After (gl : Globs) (base : Nat) (w0 : World) (g : G) (σ σ' : St) (a' : Act) (w' : World) : Prop :=
  ∃ g', Inv gl base w0 g' σ' a' w' ∧ Ext' σ.mem.top g g' ∧ σ'.mem.length = σ.mem.length

theorem rv_skip {imm : Addr → Option Value} {map : Nat → Option (Array MapEntry)} {blk : Id → Option Nat} : RV imm map blk (.tup []) undef := .tup [] #[] rfl (fun i u x h => by simp at h)

theorem wanted_skip (hI : Inv gl base w0 g σ a w) (hg : chkGuard ops o.guard ao.guard = true) {t : Nat} {want : Bool} (h2 : ao.guard = some (t, want)) (hb : getT σ.tm t = .tup []) : Region.wanted o (yielded ops a.tmps) = false := by
  unfold chkGuard at hg
  split at hg
  · rename_i h1 h3
    rw [h3] at h2; cases h2
  · rename_i j want1 t1 want' h1 h3
    simp only [Bool.and_eq_true, beq_iff_eq] at hg
    obtain ⟨rfl, hd⟩ := hg
    rw [h3] at h2
    cases h2
    have hr := hI.wt.get t
    rw [hb] at hr
    have hv : a.tmps.getD t undef = .tuple #[] := by
      generalize a.tmps.getD t undef = z at hr
      cases hr with
      | val hr => cases hr with
        | tup l xs hl h =>
          have : xs = #[] := Array.eq_empty_of_size_eq_zero (by simpa using hl.symm)
          rw [this]
    simp only [Region.wanted, h1, yielded, hd, Option.bind_some]
    rw [Array.getD_eq_getD_getElem?] at hv
    cases hq : a.tmps[t]? with
    | none => cases want <;> rfl
    | some q =>
      rw [hq] at hv
      simp only [Option.getD_some] at hv
      subst hv
      cases want <;> rfl
  · cases hg

theorem wanted_of (hI : Inv gl base w0 g σ a w) (hg : chkGuard ops o.guard ao.guard = true) :
    (ao.guard = none → Region.wanted o (yielded ops a.tmps) = true) ∧ ∀ t want b, ao.guard = some (t, want) → getT σ.tm t = .bool b → Region.wanted o (yielded ops a.tmps) = (b == want) := by
  unfold chkGuard at hg
  split at hg
  · rename_i h1 h2
    exact ⟨fun _ => by simp [Region.wanted, h1], fun t want b h => by rw [h2] at h; cases h⟩
  · rename_i j want t want' h1 h2
    simp only [Bool.and_eq_true, beq_iff_eq] at hg
    obtain ⟨rfl, hd⟩ := hg
    refine ⟨(fun h => by rw [h2] at h; cases h), fun t' want' b h hb => ?_⟩
    rw [h2] at h
    cases h
    have hr := hI.wt.get t
    rw [hb] at hr
    have hv : a.tmps.getD t undef = .bool b := by
      generalize a.tmps.getD t undef = z at hr
      cases hr with
      | val hr => cases hr; rfl
    have hv2 : a.tmps[t]? = some (.bool b) := by
      rw [Array.getD_eq_getD_getElem?] at hv
      cases hq : a.tmps[t]? with
      | none => rw [hq] at hv; simp [undef] at hv
      | some q => rw [hq] at hv; simpa using hv
    simp only [Region.wanted, h1, yielded, hd, Option.bind_some, hv2]
    cases b <;> cases want <;> rfl
  · cases hg

theorem callFunc_run {f : FuncId} (h : Enters P f) (args : Array Value) (w : World) : (callFunc f args).run P w = .ok (.enter f args) w := by
  obtain ⟨fn, h1, h2, h3⟩ := h
  have h3' : ¬ fn.name = "runtime.NumGoroutine" := by simpa using h3
  have h2' : ¬ fn.body = none := by intro e; rw [e] at h2; cases h2
  simp [callFunc, h1, h2', h3']

theorem oper_sound (hcall : CallOK P gl base w0 call) (hmeth : MethOK P C) (hc : chkOper P gl ops o ao = true) (he : evOper C call ao σ = some σ') (hI : Inv gl base w0 g σ a w)
    {K : Act → World → Prop} {Q : Exit → Act → World → Prop} (hK : ∀ a' w', After gl base w0 g σ σ' a' w' → K a' w') :
    if Region.wanted o (yielded ops a.tmps) then o.wp P a w K Q else K (a.put o.dst undef) w := by
  simp only [chkOper, Bool.and_eq_true, beq_iff_eq] at hc
  obtain ⟨⟨hd, hop⟩, hg⟩ := hc
  obtain ⟨wn, wg⟩ := wanted_of hI hg
  have hsz : (stripAll σ.tm ao.take).length = a.tmps.size := by rw [stripAll_length]; exact hI.wt.size
  -- the operation is done
  have main : (evAny C call σ.mem (ao.dst.getD 0) (rho σ.tm ao.take) ao.op).map (fun (v, m) => (⟨putT (stripAll σ.tm ao.take) ao.dst v, m⟩ : St)) = some σ' → o.wp P a w K Q := by
    intro hev
    rw [Option.map_eq_some_iff] at hev
    obtain ⟨⟨v, m⟩, hev, rfl⟩ := hev
    -- a call of a function
    have docall : ∀ (f : FuncId) (args : List AV) (xs : Array Value), call f args σ.mem = some (v, m) → RVs g.imm g.map g.blk args xs.toList → (execOp a.eval o).run P w = .ok (.enter f xs) w → o.wp P a w K Q := by
      intro f args xs hcf hargs hrun
      obtain ⟨_, hC⟩ := hcall f args σ.mem v m hcf
      have := hC g w xs hI.wm hI.mw hI.gl hargs
      show o.upon P a K Q ((execOp a.eval o).run P w)
      rw [hrun, Oper.upon_enter]
      refine this.mono fun e w' h => ?_
      obtain ⟨x, g1, rfl, h1, h2, h3, h4, h5, h6⟩ := h
      refine hK _ _ ⟨g1.move .res (.tmp (ao.dst.getD 0)), ⟨h1.move (by simp), ?_, h2, ?_, by rw [put_defers]; exact hI.defers, by rw [h6]; exact hI.pos⟩, ⟨h3.imm, h3.map, fun i _ => h3.blk i, fun b s h => ?_⟩, h6⟩
      · rw [hd]
        refine WT.put hsz (fun t => ?_) h4.moved
        have := (hI.wt.strip ao.take t).mono h3.imm h3.map (fun i b h => by rw [h3.blk]; exact h) (fun b s h => h3.own b _ s h (by simp))
        exact this.stay (by simp)
      · exact (hI.gl.ext h3.imm h3.map).ext (fun _ _ h => h) (fun _ _ h => h)
      · exact move_other (h3.own b _ s h (by simp)) (by simp)
    -- an operation that calls nothing
    have plain : evOp σ.mem (ao.dst.getD 0) (rho σ.tm ao.take) ao.op = some (v, m) → o.wp P a w K Q := by
      intro hev
      obtain ⟨x, w', g', run, h1, h2, h3, h4, h5⟩ := (op_all hI.wt hI.gl hI.wm hop hev).out
      have hW' := mw_op hI.mw hop hev
      have inv : ∀ y, (isStore ao.op = true → v = .undef) → (isStore ao.op = false → y = x) → After gl base w0 g σ ⟨putT (stripAll σ.tm ao.take) ao.dst v, m⟩ (a.put o.dst y) w' := by
        intro y k1 k2
        refine ⟨g', ⟨h1, ?_, hW', hI.gl.ext h2.imm h2.map, by rw [put_defers]; exact hI.defers, by rw [h5]; exact hI.pos⟩, h2, h5⟩
        rw [hd]
        refine WT.put hsz h3 ?_
        cases hs : isStore ao.op with
        | true => rw [k1 hs]; exact .val (.undef _)
        | false => rw [k2 hs]; exact h4
      show o.upon P a K Q ((execOp a.eval o).run P w)
      obtain ⟨dst, op, type, pos, after, guard⟩ := o
      rw [run]
      cases hs : isStore ao.op with
      | true =>
        simp only [if_true, Oper.upon_skip]
        refine hK _ _ (inv _ (fun _ => ?_) (fun e => by rw [hs] at e; cases e))
        generalize ao.op = q at hs hev
        cases q <;> simp [isStore] at hs
        simp only [evOp] at hev
        split at hev
        · rw [Option.bind_eq_some_iff] at hev
          obtain ⟨c, _, hev⟩ := hev
          split at hev
          · cases hev; rfl
          · cases hev
        · cases hev
      | false =>
        simp only [Bool.false_eq_true, if_false, Oper.upon_value]
        exact hK _ _ (inv _ (fun e => by rw [hs] at e; cases e) (fun _ => rfl))
    cases hao : ao.op with
    | call f ys =>
      rw [hao] at hev hop
      simp only [evAny] at hev
      split at hev
      · rename_i gf caps hf
        cases hoo : o.op <;> rw [hoo] at hop <;> simp only [chkOp, Bool.false_eq_true] at hop
        rename_i c
        obtain ⟨callee, args, argTypes⟩ := c
        cases callee with
        | builtin _ => simp at hop
        | invoke _ _ => simp at hop
        | value f' =>
        simp only [Bool.and_eq_true] at hop
        have h1 := rv_at hI.wt hI.gl hop.1 hf rfl
        obtain ⟨h2, h3⟩ := rv_opds ao.take hI.wt hI.gl hop.2
        generalize hz : a.eval f' = z at h1
        cases h1 with
        | fn _ _ xs hl h =>
        have hent := (hcall gf _ σ.mem v m hev).1
        refine docall gf _ (args.map a.eval ++ xs) hev ?_ ?_
        · rw [Array.toList_append]
          refine RVs.append ⟨by simp [h2], fun i u x hu hx => h3 i u x hu (by simpa using hx)⟩ ⟨by simpa using hl, fun i u x hu hx => h i u x hu (by simpa using hx)⟩
        · obtain ⟨dst, op, type, pos, after, guard⟩ := o
          simp only at hoo
          subst hoo
          simp [execOp, resolve, hz, Deferred.ofValue, invoke, callFunc_run hent]
      · cases hev
    | invoke mname y ys =>
      rw [hao] at hev hop
      simp only [evAny] at hev
      split at hev
      · rename_i t u hf
        split at hev
        · rename_i gf hmt
          cases hoo : o.op <;> rw [hoo] at hop <;> simp only [chkOp, Bool.false_eq_true] at hop
          rename_i c
          obtain ⟨callee, args, argTypes⟩ := c
          cases callee with
          | builtin _ => simp at hop
          | value _ => simp at hop
          | invoke recv m' =>
          simp only [Bool.and_eq_true, beq_iff_eq] at hop
          obtain ⟨⟨rfl, hop1⟩, hop2⟩ := hop
          have h1 := rv_at hI.wt hI.gl hop1 hf rfl
          obtain ⟨h2, h3⟩ := rv_opds ao.take hI.wt hI.gl hop2
          generalize hz : a.eval recv = z at h1
          cases h1 with
          | iface _ _ x h =>
          have hent := (hcall gf _ σ.mem v m hev).1
          refine docall gf _ (#[x] ++ args.map a.eval) hev ?_ ?_
          · rw [Array.toList_append]
            exact RVs.append (l := [u]) ⟨rfl, fun i u' x' hu hx => by
              rcases i with _ | i
              · simp at hu hx; subst hu; subst hx; exact h
              · simp at hu⟩ ⟨by simp [h2], fun i u x hu hx => h3 i u x hu (by simpa using hx)⟩
          · obtain ⟨dst, op, type, pos, after, guard⟩ := o
            simp only at hoo
            subst hoo
            have h0 : (#[Value.iface t x] ++ args.map a.eval)[0]? = some (Value.iface t x) := by simp [Array.getElem?_append]
            have h1' : (args.map a.eval).extract 0 args.size = args.map a.eval := by simp
            simp [execOp, resolve, hz, invoke, callMethod, h0, h1', hmeth t mname gf hmt, callFunc_run hent]
        · cases hev
      · cases hev
    | _ => rw [hao] at hev; exact plain (by rw [hao]; exact hev)
  unfold evOper at he
  simp only at he
  split at he
  · rename_i hgn
    rw [if_pos (wn hgn)]
    exact main he
  · rename_i t want hgs
    split at he
    · rename_i b hb
      rw [wg t want b hgs hb]
      cases hbw : (b == want) with
      | true =>
        rw [if_pos rfl]
        rw [hbw] at he
        exact main he
      | false =>
        rw [hbw] at he
        simp only [cond_false, Option.some.injEq] at he
        subst he
        rw [if_neg (by simp)]
        refine hK _ _ ⟨g, ⟨hI.wm, ?_, hI.mw, hI.gl, by rw [put_defers]; exact hI.defers, hI.pos⟩, .refl _ _, rfl⟩
        rw [hd]
        exact WT.put hI.wt.size hI.wt.get (.val rv_skip)
    · rename_i hb
      rw [wanted_skip hI hg hgs hb]
      simp only [Option.some.injEq] at he
      subst he
      rw [if_neg (by simp)]
      refine hK _ _ ⟨g, ⟨hI.wm, ?_, hI.mw, hI.gl, by rw [put_defers]; exact hI.defers, hI.pos⟩, .refl _ _, rfl⟩
      rw [hd]
      exact WT.put hI.wt.size hI.wt.get (.val rv_skip)
    · cases he

end
end Go.VA
