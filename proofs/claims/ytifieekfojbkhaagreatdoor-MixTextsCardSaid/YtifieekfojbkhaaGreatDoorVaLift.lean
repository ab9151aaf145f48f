/-
  From a statement's row to a call of the abstract machine.
-/
import Derived.Test.YtifieekfojbkhaaGreatDoorVaOpen
import Derived.Carry
import Derived.ChangeOld
import Derived.ProofKit
import Derived.LaidMore
import Derived.OpenShut
import Derived.Stop.Joined
import Derived.SizedLaws
import Derived.Lay
import Derived.Shelf.Vars
import Derived.Lib.LaidTab
set_option linter.unusedSimpArgs false
set_option linter.unusedVariables false
namespace Go.VA
open Go Go.RowKit Go.ChangeShapes Go.WideShapes

section
variable {H : Type} {enc : TypeId × Value → H} {P : Program} {w : World} {base : Nat} {spare : Nat → Bool} {held : Bool}

theorem cell_spot {r : Reach} {b0 : Nat} {t : TypeId} {a : Addr} {len cap : Nat} (h : Cell.okWide P w r b0 t (.slice (some a) len cap)) : a.spot = none := by
  unfold Cell.okWide at h
  split at h
  · rename_i h1 h2; cases h2
  · rename_i h1 h2; cases h2
  · rename_i h1 h2; cases h2
  · rename_i h1 h2; cases h2
  · rename_i h1 h2; cases h2
  · rename_i h1 h2; cases h2
  · rename_i h1 h2; cases h2
  · unfold Cell.ok at h
    split at h <;> first | (rename_i h2; cases h2) | skip
    all_goals first | exact h.elim | exact h.2.2.2.1 | skip

theorem okWide_spotless {r : Reach} {b0 : Nat} {t : TypeId} {v : Value} (h : Value.okWide P w r b0 t v) : Spotless v.cells.toList := by
  unfold Value.okWide at h
  have one : ∀ {t : TypeId} {v : Value}, (∀ cs, v ≠ .agg cs) → Cell.okWide P w r b0 t v → Spotless v.cells.toList := by
    intro t v hv h x hx a len cap e
    have : v.cells = #[v] := by cases v <;> first | rfl | exact absurd rfl (hv _)
    rw [this] at hx
    have hx' : x = v := by simpa using hx
    subst hx'
    subst e
    exact cell_spot h
  have agg : (∃ cs, v = .agg cs ∧ cs.size = P.cellsOf t ∧ Row.okWide P w r b0 t cs) → Spotless v.cells.toList := by
    rintro ⟨cs, rfl, _, ts, _, _, hr⟩ x hx a len cap e
    obtain ⟨i, hi, hxi⟩ := List.getElem_of_mem hx
    have hi' : i < cs.size := by simpa [Value.cells] using hi
    have hci : cs[i]? = some x := by
      rw [Array.getElem?_eq_getElem hi', ← hxi]
      congr 1
    obtain ⟨u, _, hu⟩ := hr i x hci
    subst e
    exact cell_spot hu
  split at h
  · exact agg h
  · exact agg h
  · by_cases hv : ∃ cs, v = .agg cs
    · obtain ⟨cs, rfl⟩ := hv
      exfalso
      unfold Cell.okWide at h
      split at h <;> first | (rename_i h2; cases h2; done) | (unfold Cell.ok at h; split at h <;> first | (rename_i h2; cases h2; done) | exact h)
    · exact one (fun cs e => hv ⟨cs, e⟩) h

/-- An argument's value, by its cells. -/
def argAV (P : Program) (t : TypeId) (us : List AV) : AV := if isAggB P t then .agg us else us.headD .undef

theorem lts_one {d : Nat} {t : TypeId} {ks : List LT} (h : ltsOf P d t = some ks) (ha : isAggB P t = false) : ∃ k, ks = [k] := by
  cases d with
  | zero => cases h
  | succ d =>
    unfold ltsOf at h
    split at h
    · cases h; exact ⟨_, rfl⟩
    · cases h; exact ⟨_, rfl⟩
    · cases h; exact ⟨_, rfl⟩
    · rw [Option.bind_eq_some_iff] at h
      obtain ⟨fs, _, h2⟩ := h
      split at h2
      · cases h2; exact ⟨_, rfl⟩
      · cases h2
    · rename_i fs hu
      unfold isAggB at ha
      rw [hu] at ha
      cases ha
    · cases h

theorem open_arg (map : Nat → Option (Array MapEntry)) (blk : Id → Option Nat) {d : Nat} {t : TypeId} {ks : List LT} {r : Reach} {b0 : Nat} {v : Value} {x : DataW H} {ps : List MemPlace} (hk : ltsOf P d t = some ks) (hval : Value.okWide P w r b0 t v) (hd : DataW.Trod enc P w base spare held t v x ps) :
    ∃ us, FitLs ks us ∧ RV (fun a => w.cell? a) map blk (argAV P t us) v := by
  obtain ⟨fuel, hd⟩ := hd
  obtain ⟨us, h1, h2, h3⟩ := open_lists map blk d fuel t _ _ ks hk hd (okWide_spotless hval)
  refine ⟨us, h1, ?_⟩
  unfold argAV
  by_cases ha : isAggB P t
  · rw [if_pos ha]
    have : ∃ cs, v = .agg cs := by
      unfold Value.okWide at hval
      unfold isAggB at ha
      split at hval
      · obtain ⟨cs, rfl, _⟩ := hval; exact ⟨cs, rfl⟩
      · obtain ⟨cs, rfl, _⟩ := hval; exact ⟨cs, rfl⟩
      · rename_i h4 h5
        split at ha
        · rename_i fs h6; exact absurd h6 (h4 fs)
        · rename_i n e h6; exact absurd h6 (h5 n e)
        · cases ha
    obtain ⟨cs, rfl⟩ := this
    exact .agg us cs (by simpa [Value.cells] using h2) (fun i u y hu hy => h3 i u y hu (by simpa [Value.cells] using hy))
  · rw [if_neg ha]
    obtain ⟨k, rfl⟩ := lts_one hk (by simpa using ha)
    obtain ⟨u, us', rfl, _, hr⟩ := h1
    cases hr
    have hl : v.cells.size = 1 := by simpa using h2.symm
    have hne : ∀ cs, v ≠ .agg cs := by
      rintro cs rfl
      unfold Value.okWide at hval
      unfold isAggB at ha
      split at hval
      · rename_i fs hu; rw [hu] at ha; exact ha rfl
      · rename_i n e hu; rw [hu] at ha; exact ha rfl
      · unfold Cell.okWide at hval
        split at hval <;> first | (rename_i h2; cases h2; done) | (unfold Cell.ok at hval; split at hval <;> first | (rename_i h2; cases h2; done) | exact hval)
    have hc : v.cells = #[v] := by cases v <;> first | rfl | exact absurd rfl (hne _)
    exact h3 0 u v rfl (by rw [hc]; rfl)

theorem trodAll_stays {W W' : World} (hl : laidOutB P = true) (hb : Below W.heap.size W W') {sp : Nat → Bool} : ∀ {ts : List TypeId} {vs : List Value} {ds : List (DataW H)} {ps : List MemPlace}, (∀ t, t ∈ ts → P.readableRec t = true ∧ t < P.types.size) → (∀ p, p ∈ ps → p.block < W.heap.size) → (∀ p, p ∈ ps → sp p.block = true) →
    DataW.TrodAll enc P W 0 (fun _ => true) true ts vs ds ps → DataW.TrodAll enc P W' 0 sp true ts vs ds ps
  | [], [], [], _, _, _, _, h => h
  | t :: ts, v :: vs, d :: ds, ps, hr, hlt, hs, h => by
    obtain ⟨p, q, h1, h2, rfl⟩ := h
    refine ⟨p, q, WideElems.Trod_stays hl (hr t (by simp)).1 (hr t (by simp)).2 h1 (fun x hx => hb.same (hlt x (by simp [hx]))) (fun x hx => hs x (by simp [hx])), ?_, rfl⟩
    exact trodAll_stays hl hb (fun t ht => hr t (by simp [ht])) (fun x hx => hlt x (by simp [hx])) (fun x hx => hs x (by simp [hx])) h2
  | [], [], _ :: _, _, _, _, _, h => h.elim
  | [], _ :: _, _, _, _, _, _, h => h.elim
  | _ :: _, [], _, _, _, _, _, h => h.elim
  | _ :: _, _ :: _, [], _, _, _, _, h => h.elim

/-- The row's last step: true is told, and what came in reads as before. -/
theorem post_true {f : Func} {s : ChangeSpec} {apart fresh handsOn again : Bool} {W W' : World} {args : Array Value} {ds : List (DataW H)} {before : List MemPlace} {tb : TypeId}
    (hW : DataW.Whole enc P f.params.toList s.vars apart W args.toList ds [] before) (hv : s.vars = []) (hfn : s.fn H (ds ++ []) = { results := [.lit (.bool true)], args := ds }) (hres : f.resultTypes = #[tb]) (htb : P.underlying tb = some .bool)
    (hl : laidOutB P = true) (hr : ∀ t, t ∈ f.params.toList → P.readableRec t = true ∧ t < P.types.size) (hb : Below W.heap.size W W') :
    s.post enc P f apart fresh handsOn again W args (.bool true) W' := by
  have hlt : ∀ p ∈ before, p.block < W.heap.size := fun p hp => hW.lt p hp
  have hold : ∀ p ∈ before, (fun b => decide (b < W.heap.size)) p.block = true := fun p hp => by simpa using hlt p hp
  obtain ⟨p, q, h1, h2, rfl, hz, hn⟩ := id hW
  rw [hv] at h2
  have hq : q = [] := h2
  subst hq
  rw [List.append_nil] at hlt hold
  have hargs : ∀ sp : Nat → Bool, (∀ x ∈ p, sp x.block = true) → DataW.TrodAll enc P W' 0 sp true f.params.toList args.toList ds p := fun sp hs => trodAll_stays hl hb hr hlt hs h1
  have hr1 : ∀ (b : Nat) (sp : Nat → Bool) (hd : Bool), DataW.TrodAll enc P W' b sp hd f.resultTypes.toList ((Value.bool true).resultList f.resultTypes.size) (s.fn H (ds ++ [])).results [] := by
    intro b sp hd
    rw [hres, hfn]
    exact trodAll_mk1 (shut_bool htb _)
  have hvars : ∀ sp : Nat → Bool, DataW.TrodVars enc P W' sp s.vars (s.fn H (ds ++ [])).vars [] := by
    intro sp
    rw [hv, hfn]
    exact rfl
  have ha : (s.fn H (ds ++ [])).args = ds := by rw [hfn]
  refine ⟨ds, [], p ++ [], [], p, [], hW, hr1 _ _ _, by rw [ha]; exact hargs _ hold, hvars _, World.keptBut_mono (fun x hx => ⟨hx, ?_⟩) (hb.frame (· ∈ p ++ [])), fun _ => ?_⟩
  · rw [List.append_nil] at hx
    exact Or.inr (by simpa using hx)
  · refine ⟨?_, _, _, ([] ++ p) ++ [], ⟨[] ++ p, [], trodAll_append (hargs _ (fun _ _ => rfl)) (hr1 _ _ _), hvars _, rfl, ?_, ?_⟩, ?_⟩
    · intro j t r ht hrr
      rw [hres] at ht hrr
      have : ((Value.bool true).resultList 1) = [.bool true] := rfl
      rw [show (#[tb] : Array TypeId).size = 1 from rfl, this] at hrr
      match j with
      | 0 => cases ht; cases hrr; exact okWide_bool_mk htb _
      | j + 1 => simp at hrr
    · intro b off hp
      have hin : MemPlace.cell b off ∈ p := by simpa using hp
      rw [hb.frozen (hlt _ hin)]
      exact hz b off (by simpa using hin)
    · intro hap
      have := hn hap
      simpa using this
    · intro x hx _
      simpa using hx

/-- What the row's condition tells of one listed variable. -/
theorem laid_mem {P : Program} {W : World} : ∀ {laid : List (String × DataW Unit)} {ps : List MemPlace}, DataW.LaidVars P W laid ps → ∀ {n : String} {d : DataW Unit}, (n, d) ∈ laid →
    ∃ g t cs fuel p, P.globalNamed n = some g ∧ (P.globals[g]?).map (·.type) = some t ∧ W.var? P n = some cs ∧ DataW.trod (fun _ => ()) P W 0 (fun _ => true) false fuel t cs.toList = some (d, p)
  | [], _, _, _, _, h => by cases h
  | (m, e) :: r, ps, hL, n, d, h => by
    obtain ⟨g, t, cs, fuel, p, q, h1, h2, h3, h4, h5, _⟩ := hL
    rcases List.mem_cons.1 h with h | h
    · cases h
      exact ⟨g, t, cs, fuel, p, h1, h2, h3, h4⟩
    · exact laid_mem h5 h

theorem laid_at {P : Program} {W : World} {laid : List (String × DataW Unit)} (hL : laidMet P laid W) {n : String} {d : DataW Unit} (h : (n, d) ∈ laid) :
    ∃ g t cs fuel p, P.globalNamed n = some g ∧ (P.globals[g]?).map (·.type) = some t ∧ W.var? P n = some cs ∧ DataW.trod (fun _ => ()) P W 0 (fun _ => true) false fuel t cs.toList = some (d, p) := by
  obtain ⟨ps, h1, _⟩ := hL
  exact laid_mem h1 h

theorem laid_tab {P : Program} {W : World} {laid : List (String × DataW Unit)} (hL : laidMet P laid W) {n : String} {k : IntKind} {zs : List Int} (h : (n, Lib.tabData k zs) ∈ laid) {g : Nat} {t e : TypeId} {m : Nat}
    (hg : P.globalNamed n = some g) (hty : (P.globals[g]?).map (·.type) = some t) (ht : P.underlying t = some (.array m e)) (he : P.underlying e = some (.int k)) (hce : P.cellsOf e = 1) (hct : P.cellsOf t = m) : Lib.TabIs P W n k zs := by
  obtain ⟨g', t', cs, fuel, p, h1, h2, h3, h4⟩ := laid_at hL h
  obtain rfl := Option.some.inj (hg.symm.trans h1)
  obtain rfl := Option.some.inj (hty.symm.trans h2)
  unfold Lib.TabIs
  rw [h3, ← Lib.cells_of_tab ht he hce hct h4]

/-- A listed sentinel: its cell holds an interface value. -/
theorem laid_err {P : Program} {W : World} {laid : List (String × DataW Unit)} (hL : laidMet P laid W) {n : String} {name : String} {x : DataW Unit} (h : (n, .iface name x) ∈ laid) {g : Nat} {t : TypeId} {ms : Array (String × TypeId)}
    (hg : P.globalNamed n = some g) (hty : (P.globals[g]?).map (·.type) = some t) (ht : P.underlying t = some (.interface ms)) : ∃ u v, W.cell? ⟨g, 0, none⟩ = some (.iface u v) := by
  obtain ⟨g', t', cs, fuel, p, h1, h2, h3, h4⟩ := laid_at hL h
  obtain rfl := Option.some.inj (hg.symm.trans h1)
  obtain rfl := Option.some.inj (hty.symm.trans h2)
  have hcs : ∃ u v, cs.toList = [.iface u v] := by
    cases fuel with
    | zero => cases h4
    | succ fuel =>
      unfold DataW.trod at h4
      rw [ht] at h4
      split at h4 <;> first | (cases h4; done) | (rename_i e _; exact ⟨_, _, e⟩) | (rename_i e; exact ⟨_, _, e⟩) | simp_all
  obtain ⟨u, v, hc⟩ := hcs
  refine ⟨u, v, ?_⟩
  have := World.var?_cell hg h3 0
  rw [Array.eq_one_of_toList hc] at this
  simpa using this

/-- The row, out of its contract: the world's shape and the listed variables at hand. -/
theorem returns_shaped {a : Assume} {C : Checked} {os : Os} {f : FuncId} {fn : Func} {s : ChangeSpec} {conds : List PathCond} {apart fresh handsOn again : Bool} {X : World → Array Value → Prop}
    (hX : ∀ (w w' : World) (args : Array Value), w.heap = w'.heap → X w args → X w' args)
    (own : ownKnob C.prog.godebug = none) (started : os.Started) (noInit : C.prog.inits.idxOf? f = none) (hfn : C.prog.funcs[f]? = some fn)
    (witness : ∃ (w : World) (tape : Tape) (i : Input), w.os = os ∧ (w.forCall tape i).Shaped C.prog ∧ i.vars = [] ∧ Input.okWide C.prog (w.forCall tape i) .any w.heap.size f i ∧
      ((s.pre enc C.prog fn conds apart (w.forCall tape i).memory i.args ∧ X (w.forCall tape i).memory i.args) ∧ sizedMet enc C.prog fn (OpenSpec.ofChange s) apart (w.forCall tape i).memory i.args) ∧ a.holds C.prog (lone (Frame.enter C.prog f i.args .normal) [] (w.forCall tape i)))
    (contract : ∀ (W : World) (base : Nat) (args : Array Value) (ds gs : List (DataW H)) (before : List MemPlace),
      (∀ (j : Nat) t v, fn.params[j]? = some t → args[j]? = some v → Value.okWide C.prog W .any base t v) →
      DataW.Whole enc C.prog fn.params.toList s.vars apart W args.toList ds gs before →
      (DataW.weightsEach C.prog (fn.params.toList ++ s.plain.varTypes C.prog) (ds ++ gs)).all (· ≤ reachBytes) = true → X W args → W.ShapedOpen C.prog →
      Calls C.prog f args W fun e W' => ∃ v, e = .returned v ∧ s.post enc C.prog fn apart fresh handsOn again W args v W') :
    ReturnsInHanded a C os f .any (fun w args => (s.pre enc C.prog fn conds apart w args ∧ X w args) ∧ sizedMet enc C.prog fn (OpenSpec.ofChange s) apart w args) (s.post enc C.prog fn apart fresh handsOn again) := by
  refine returnsInHanded_of_calls own started noInit witness ?_
  intro w tape i _ hsh _ hok hpre hholds
  obtain ⟨_, _, _, fn', hfn', _, _, _, _, hval⟩ := hok
  have e : fn' = fn := Option.some.inj (hfn'.symm.trans hfn)
  subst e
  obtain ⟨⟨⟨ds, gs, before, hw, hc⟩, hx⟩, hz⟩ := hpre
  have hw' := DataW.Whole.of_heap (w' := w.forCall tape i) (by rfl) hw
  refine (contract (w.forCall tape i) w.heap.size i.args ds gs before hval hw' (hz.weights hw) (hX _ _ _ (by rfl) hx) hsh).mono fun e W' ⟨v, he, hp⟩ => ?_
  subst he
  exact ChangeSpec.post_blind hp

end
end Go.VA
