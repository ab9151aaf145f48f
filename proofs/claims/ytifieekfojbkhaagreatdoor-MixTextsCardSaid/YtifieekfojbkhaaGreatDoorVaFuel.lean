/-
  The abstract run is the machine's: calls, codes, by induction on the fuel.
-/
import Derived.Test.YtifieekfojbkhaaGreatDoorVaFreeze
set_option linter.unusedSimpArgs false
set_option linter.unusedVariables false
namespace Go.VA
open Go Go.RowKit

/-- The contracts of the functions that are not run. 'good' speaks of the memory below 'base' alone. -/
def PrimOK (P : Program) (C : Ctx) (base : Nat) (w0 : World) : Prop :=
  ∀ f q, C.prim f = some q → ∀ args r, q args = some r → Enters P f ∧ r.pure = true ∧ ∀ (imm : Addr → Option Value) (map : Nat → Option (Array MapEntry)) (w : World) (xs : Array Value), Below base w0 w → base ≤ w.heap.size →
    (∀ a v, imm a = some v → w.cell? a = some v) → RVs imm map (fun _ => none) args xs.toList →
    Calls P f xs w fun e w' => ∃ x, e = .returned x ∧ Below w.heap.size w w' ∧ RV (fun a => if a.block < w.heap.size then imm a else w'.cell? a) map (fun _ => none) r x

def FnOK (P : Program) (gl : Globs) (C : Ctx) : Prop := ∀ f af, C.prim f = none → C.fn f = some af → chkFunc P gl f af = true

/-- The rights to append as a callee sees them. -/
def outOwn : Option (Loc × Nat × Nat) → Option (Loc × Nat × Nat)
  | some (.cell i j, s) => some (.cell i j, s)
  | some (_, s) => some (.out, s)
  | none => none

/-- .. and behind the call: those of the caller as they were, that of the result's temporary as the result's. -/
def backOwn (t? : Option Nat) (o o1 : Option (Loc × Nat × Nat)) : Option (Loc × Nat × Nat) :=
  match o with
  | some (.tmp i, s) => some (.tmp i, s)
  | some (.res, s) => some (.res, s)
  | some (.out, s) => some (.out, s)
  | _ => match o1 with
    | some (.tmp t, s) => if t? = some t then some (.res, s) else none
    | q => q

theorem outOwn_cell {i : Id} {j : Nat} {s : Nat × Nat} : outOwn (some (.cell i j, s)) = some (.cell i j, s) := rfl
theorem outOwn_other {l : Loc} {s : Nat × Nat} (h : ∀ i j, l ≠ .cell i j) : outOwn (some (l, s)) = some (.out, s) := by
  cases l with
  | cell i j => exact absurd rfl (h i j)
  | _ => rfl
theorem outOwn_back {o : Option (Loc × Nat × Nat)} {l : Loc} {s : Nat × Nat} (h : outOwn o = some (l, s)) : ∃ l', o = some (l', s) := by
  cases o with
  | none => cases h
  | some q =>
    obtain ⟨l', s'⟩ := q
    cases l' <;> (cases h; exact ⟨_, rfl⟩)
theorem backOwn_keep {t? : Option Nat} {l : Loc} {s : Nat × Nat} {o1 : Option (Loc × Nat × Nat)} (h : ∀ i j, l ≠ .cell i j) : backOwn t? (some (l, s)) o1 = some (l, s) := by
  cases l with
  | cell i j => exact absurd rfl (h i j)
  | _ => rfl
theorem backOwn_else {t? : Option Nat} {o o1 : Option (Loc × Nat × Nat)} (h : ∀ l s, o = some (l, s) → ∃ i j, l = .cell i j) : backOwn t? o o1 = backOwn t? none o1 := by
  cases o with
  | none => rfl
  | some q =>
    obtain ⟨l, s⟩ := q
    obtain ⟨i, j, rfl⟩ := h l s rfl
    rfl
theorem backOwn_back {t? : Option Nat} {o1 : Option (Loc × Nat × Nat)} {l : Loc} {s : Nat × Nat} (h : backOwn t? none o1 = some (l, s)) : ∃ l', o1 = some (l', s) := by
  cases o1 with
  | none => cases h
  | some q =>
    obtain ⟨l1, s1⟩ := q
    cases l1 with
    | tmp t =>
      simp only [backOwn] at h
      split at h
      · cases h; exact ⟨_, rfl⟩
      · cases h
    | _ => cases h; exact ⟨_, rfl⟩
theorem backOwn_cell {t? : Option Nat} {i : Id} {j : Nat} {s : Nat × Nat} : backOwn t? none (some (.cell i j, s)) = some (.cell i j, s) := rfl
theorem backOwn_tmp {t : Nat} {s : Nat × Nat} : backOwn (some t) none (some (.tmp t, s)) = some (.res, s) := by simp [backOwn]

section
variable {P : Program} {C : Ctx} {gl : Globs} {g g' : G} {base : Nat} {w0 w : World} {σ σ' : St} {a : Act} {mem : Mem}

theorem WM.later (hM : WM base w0 g w mem) {w' : World} (hB : Below w.heap.size w w') :
    WM base w0 { g with imm := fun a => if a.block < w.heap.size then g.imm a else w'.cell? a } w' mem := by
  have hh : ∀ k, k < w.heap.size → w'.heap[k]? = w.heap[k]? := hB.block
  have lt : ∀ {k : Nat} {o : Obj}, w.heap[k]? = some o → k < w.heap.size := fun h => (Array.getElem?_eq_some_iff.1 h).1
  have hmono : ∀ a v, g.imm a = some v → (if a.block < w.heap.size then g.imm a else w'.cell? a) = some v := by
    intro a v h
    rw [if_pos (hM.cell_lt h)]
    exact h
  refine ⟨fun a v h => ?_, fun r e h => ?_, hM.get, fun i b h => ?_, hM.inj, fun i b o s h => ?_, fun b l f s h => ?_, hM.old.trans (hB.mono hM.size), Nat.le_trans hM.size hB.size⟩
  · dsimp only at h
    split at h
    · rename_i hlt
      rw [World.cell?_of_block (w := w) (hh _ hlt)]
      exact hM.imm a v h
    · exact h
  · obtain ⟨cl, h1⟩ := hM.map r e h
    exact ⟨cl, by rw [hh _ (lt h1)]; exact h1⟩
  · obtain ⟨h1, h2, c, arr, e, h3, h4, h5, h6⟩ := hM.blk i b h
    exact ⟨h1, h2, c, arr, e, h3, by rw [hh _ (lt h4)]; exact h4, h5, fun j v x hv hx => (h6 j v x hv hx).mono hmono (fun _ _ h => h) (fun _ _ h => h) (fun _ _ h => h)⟩
  · obtain ⟨_, _, _, _, _, _, h4, _⟩ := hM.blk i b h
    show (if _ then _ else _) = _
    rw [if_pos (show (Addr.mk b o s).block < _ from lt h4)]
    exact hM.apart i b o s h
  · obtain ⟨h1, ⟨arr, e, h2, h3⟩, h4, h5⟩ := hM.own b l f s h
    refine ⟨h1, ⟨arr, e, by rw [hh _ (lt h2)]; exact h2, h3⟩, fun o s' ho => ?_, h5⟩
    show (if _ then _ else _) = _
    rw [if_pos (show (Addr.mk b o s').block < _ from lt h2)]
    exact h4 o s' ho

theorem call_ok {n : Nat} {rec : ACode → St → Option (Ex × St)} (hrec : CodeOK P gl base w0 n rec) (hprim : PrimOK P C base w0) (hfn : FnOK P gl C) : CallOK P gl base w0 (callWith C rec) := by
  intro f args mem r mem' he
  unfold callWith at he
  split at he
  · rename_i q hq
    split at he
    · rename_i hpure
      rw [Option.map_eq_some_iff] at he
      obtain ⟨v, hv, he⟩ := he
      cases he
      obtain ⟨hent, hp, hC⟩ := hprim f q hq args r hv
      refine ⟨hent, fun g w xs hM hW hgl hargs => ?_⟩
      have hargs' : RVs g.imm g.map (fun _ => none) args xs.toList := ⟨hargs.1, fun i u x hu hx => (hargs.2 i u x hu hx).pure (pures_iff.1 hpure u (List.mem_of_getElem? hu))⟩
      refine (hC g.imm g.map w xs hM.old hM.size hM.imm hargs').mono fun e w' h => ?_
      obtain ⟨x, rfl, hB, hr⟩ := h
      exact ⟨x, _, rfl, hM.later hB, hW, ⟨fun a v h => by show (if _ then _ else _) = _; rw [if_pos (hM.cell_lt h)]; exact h, fun _ _ h => h, fun _ => rfl, fun _ _ _ h _ => h⟩,
        .val (hr.mono (fun _ _ h => h) (fun _ _ h => h) (by simp)), pure_under hp, rfl⟩
    · cases he
  · rename_i hnp
    split at he
    · cases he
    · rename_i af haf
      have hck := hfn f af hnp haf
      unfold chkFunc at hck
      split at hck
      · rename_i fn hf
        simp only [Bool.and_eq_true, beq_iff_eq] at hck
        obtain ⟨⟨⟨hnt, hname⟩, hres⟩, hbody⟩ := hck
        split at hbody
        · rename_i c hb
          -- what the body's run comes to
          have key : ∀ ex σ1, rec af.body ⟨args ++ List.replicate (af.ntmps - args.length) .undef, [] :: mem⟩ = some (ex, σ1) → (ex = .normal ∨ ex = .ret) →
              ((evResults σ1.tm σ1.mem af.results).bind fun v => if v.under mem.length then some (v, σ1.mem.tail) else
                (freeze σ1.mem mem.length 16 v).bind fun u => if u.under mem.length then some (u, σ1.mem.tail) else none) = some (r, mem') →
              Enters P f ∧ ∀ g w (xs : Array Value), WM base w0 g w mem → MW mem → GlobOK gl g → RVs g.imm g.map g.blk args xs.toList →
                Calls P f xs w fun e w' => ∃ x g', e = .returned x ∧ WM base w0 g' w' mem' ∧ MW mem' ∧ ExtC g g' ∧ RL g' .res r x ∧ r.under mem.length = true ∧ mem'.length = mem.length := by
            intro ex σ1 hrun hex hfin
            refine ⟨⟨fn, hf, by rw [hb]; rfl, by simpa using hname⟩, fun g w xs hM hW hgl hargs => ?_⟩
            rw [Option.bind_eq_some_iff] at hfin
            obtain ⟨v, hv, hfin⟩ := hfin
            have hcase : (v = r ∨ (freeze σ1.mem mem.length 16 v = some r ∧ ¬ v.under mem.length = true)) ∧ r.under mem.length = true ∧ mem' = σ1.mem.tail := by
              split at hfin
              · rename_i hund; cases hfin; exact ⟨.inl rfl, hund, rfl⟩
              · rename_i hnu
                rw [Option.bind_eq_some_iff] at hfin
                obtain ⟨u, hu, hfin⟩ := hfin
                split at hfin
                · rename_i hund; cases hfin; exact ⟨.inr ⟨hu, hnu⟩, hund, rfl⟩
                · cases hfin
            obtain ⟨hcase, hund, hmem'⟩ := hcase
            subst hmem'
            · have hnoth := True.intro
              let gc : G := { g with own := fun b => outOwn (g.own b) }
              have gco : ∀ b i j s, g.own b = some (.cell i j, s) → gc.own b = some (.cell i j, s) := by
                intro b i j s h
                show outOwn (g.own b) = _
                rw [h]
                rfl
              have gcn : ∀ b l s, g.own b = some (l, s) → (∀ i j, l ≠ .cell i j) → gc.own b = some (.out, s) := by
                intro b l s h hl
                show outOwn (g.own b) = _
                rw [h]
                exact outOwn_other hl
              have gcb : ∀ b l s, gc.own b = some (l, s) → ∃ l', g.own b = some (l', s) := fun b l s h => outOwn_back h
              have hMc : WM base w0 gc w ([] :: mem) := (hM.reown gcb gco).push
              have hlen : args.length = xs.size := by have := hargs.1; simpa using this
              have hI : Inv gl base w0 gc ⟨args ++ List.replicate (af.ntmps - args.length) .undef, [] :: mem⟩ { tmps := xs ++ Array.replicate (fn.ntmps - xs.size) undef, defers := [] } w := by
                refine ⟨hMc, ⟨by simp [hlen, hnt], fun i u x hu hx => ?_⟩, hW.push, hgl, rfl, by simp⟩
                rw [List.getElem?_append] at hu
                split at hu
                · rename_i hlt
                  rw [Array.getElem?_append_left (by omega)] at hx
                  exact .val (hargs.2 i u x hu (by simpa using hx))
                · have : u = .undef := by
                    have := List.mem_of_getElem? hu
                    exact List.eq_of_mem_replicate this
                  subst this
                  exact .val (.undef _)
              refine calls_of_wp hf hb ?_
              refine (hrec c af.body _ ex σ1 hbody hrun gc _ w hI (bodyPost P fn _) (fun a' w' hA => ?_)).1
              obtain ⟨g1, hI1, hE, hL⟩ := hA
              obtain ⟨x, hx, hrx⟩ := results_ok hI1 hres hv
              -- the frame that is taken away
              have hm1 : ∃ fr mt, σ1.mem = fr :: mt ∧ mt.length = mem.length := by
                cases hm : σ1.mem with
                | nil => rw [hm] at hL; simp at hL
                | cons fr mt => rw [hm] at hL; exact ⟨fr, mt, rfl, by simpa using hL⟩
              obtain ⟨fr, mt, hm1, hmt⟩ := hm1
              have hWt : MW mt := fun i cc h v hv => hI1.mw i cc (by rw [hm1, tail_get i (get_under h)]; exact h) v hv
              have hMp := WM.pop (hm1 ▸ hI1.wm) hWt
              -- the temporary whose right to append is the result's
              have hfinal : ∃ g2 : G, WM base w0 g2 w' mt ∧ ExtC g g2 ∧ RL g2 .res r x := by
                have base_own : ∀ b l s, g.own b = some (l, s) → (∀ i j, l ≠ .cell i j) → g1.own b = some (.out, s) := fun b l s h hl => hE.own b s (gcn b l s h hl)
                have hblk : ∀ i, (g1.pop mt.length).blk i = g.blk i := by
                  intro i
                  show (if _ then _ else _) = _
                  split
                  · rename_i hlt
                    exact hE.blk i (by simp [Mem.top]; omega)
                  · rename_i hge
                    cases hg : g.blk i with
                    | none => rfl
                    | some b => have := (hM.blk i b hg).2.1; omega
                rcases hcase with hvr | ⟨hfr, hnu⟩
                rotate_left
                · -- blocks of the frame are handed back: frozen
                  have hRV : RV g1.imm g1.map g1.blk v x := by
                    rcases hrx with h | ⟨t, h⟩
                    · exact h
                    · cases h with
                      | val h => exact h
                      | own sz l b off cap size h h1 h2 => exact absurd rfl hnu
                  have hMf := WM.popFrozen (hm1 ▸ hI1.wm) hWt
                  have hM1 : WM base w0 g1 w' (fr :: mt) := hm1 ▸ hI1.wm
                  let own2 : Nat → Option (Loc × Nat × Nat) := fun b => backOwn none (g.own b) (g1.own b)
                  have o1 : ∀ b l s, g.own b = some (l, s) → (∀ i j, l ≠ .cell i j) → own2 b = some (l, s) := by
                    intro b l s h hl
                    show backOwn none (g.own b) (g1.own b) = _
                    rw [h]
                    exact backOwn_keep hl
                  have o2 : ∀ b, (∀ l s, g.own b = some (l, s) → ∃ i j, l = .cell i j) → own2 b = backOwn none none (g1.own b) := fun b h => backOwn_else h
                  have cases2 : ∀ b, (∃ l s, g.own b = some (l, s) ∧ ∀ i j, l ≠ .cell i j) ∨ (∀ l s, g.own b = some (l, s) → ∃ i j, l = .cell i j) := by
                    intro b
                    cases hg : g.own b with
                    | none => exact .inr (by simp)
                    | some q =>
                      obtain ⟨l, s⟩ := q
                      cases l with
                      | cell i j => exact .inr (by intro l s h; cases h; exact ⟨i, j, rfl⟩)
                      | _ => exact .inl ⟨_, _, rfl, by simp⟩
                  have base_own : ∀ b l s, g.own b = some (l, s) → (∀ i j, l ≠ .cell i j) → g1.own b = some (.out, s) := fun b l s h hl => hE.own b s (gcn b l s h hl)
                  have hback : ∀ b l s, own2 b = some (l, s) → ∃ l', g1.own b = some (l', s) := by
                    intro b l s h
                    rcases cases2 b with ⟨l', s', hg, hl⟩ | hn
                    · rw [o1 b l' s' hg hl] at h
                      cases h
                      exact ⟨_, base_own b l s hg hl⟩
                    · rw [o2 b hn] at h
                      exact backOwn_back h
                  have hcell : ∀ b i j s, g1.own b = some (.cell i j, s) → own2 b = some (.cell i j, s) := by
                    intro b i j s h
                    rcases cases2 b with ⟨l', s', hg, hl⟩ | hn
                    · rw [base_own b l' s' hg hl] at h
                      cases h
                    · rw [o2 b hn, h]
                      rfl
                  have hblk : ∀ i, (g1.pop mt.length).blk i = g.blk i := by
                    intro i
                    show (if _ then _ else _) = _
                    split
                    · rename_i hlt
                      exact hE.blk i (by simp [Mem.top]; omega)
                    · rename_i hge
                      cases hg : g.blk i with
                      | none => rfl
                      | some b => have := (hM.blk i b hg).2.1; omega
                  have hWM := hMf.reown (own' := own2) hback hcell
                  refine ⟨_, hWM, ⟨fun a v h => frozen_mono hM1 _ a v (hE.imm a v h), fun r e h => hE.map r e h, hblk, fun b l s h hl => o1 b l s h hl⟩, .val ?_⟩
                  rw [hm1, ← hmt] at hfr
                  exact freeze_ok hM1 mt.length 16 hfr hRV
                have hvr2 := hvr.symm
                clear hvr
                subst hvr2
                -- who owns what behind the call
                have main : ∀ (t? : Option Nat), (RV g1.imm g1.map g1.blk r x ∨ ∃ t, t? = some t ∧ RL g1 (.tmp t) r x) → ∃ g2 : G, WM base w0 g2 w' mt ∧ ExtC g g2 ∧ RL g2 .res r x := by
                  intro t? hrl
                  let own2 : Nat → Option (Loc × Nat × Nat) := fun b => backOwn t? (g.own b) (g1.own b)
                  have o1 : ∀ b l s, g.own b = some (l, s) → (∀ i j, l ≠ .cell i j) → own2 b = some (l, s) := by
                    intro b l s h hl
                    show backOwn t? (g.own b) (g1.own b) = _
                    rw [h]
                    exact backOwn_keep hl
                  have o2 : ∀ b, (∀ l s, g.own b = some (l, s) → ∃ i j, l = .cell i j) → own2 b = backOwn t? none (g1.own b) := fun b h => backOwn_else h
                  have cases2 : ∀ b, (∃ l s, g.own b = some (l, s) ∧ ∀ i j, l ≠ .cell i j) ∨ (∀ l s, g.own b = some (l, s) → ∃ i j, l = .cell i j) := by
                    intro b
                    cases hg : g.own b with
                    | none => exact .inr (by simp)
                    | some q =>
                      obtain ⟨l, s⟩ := q
                      cases l with
                      | cell i j => exact .inr (by intro l s h; cases h; exact ⟨i, j, rfl⟩)
                      | _ => exact .inl ⟨_, _, rfl, by simp⟩
                  have hback : ∀ b l s, own2 b = some (l, s) → ∃ l', (g1.pop mt.length).own b = some (l', s) := by
                    intro b l s h
                    rcases cases2 b with ⟨l', s', hg, hl⟩ | hn
                    · rw [o1 b l' s' hg hl] at h
                      cases h
                      exact ⟨_, base_own b l s hg hl⟩
                    · rw [o2 b hn] at h
                      exact backOwn_back h
                  have hcell : ∀ b i j s, (g1.pop mt.length).own b = some (.cell i j, s) → own2 b = some (.cell i j, s) := by
                    intro b i j s h
                    change g1.own b = _ at h
                    rcases cases2 b with ⟨l', s', hg, hl⟩ | hn
                    · rw [base_own b l' s' hg hl] at h
                      cases h
                    · rw [o2 b hn, h]
                      rfl
                  have hWM := hMp.reown hback hcell
                  refine ⟨_, hWM, ⟨fun a v h => hE.imm a v h, fun r e h => hE.map r e h, hblk, fun b l s h hl => o1 b l s h hl⟩, ?_⟩
                  have mono : ∀ {u y}, RV g1.imm g1.map g1.blk u y → u.under mem.length = true → RV g1.imm g1.map (g1.pop mt.length).blk u y := by
                    intro u y h hu
                    refine h.under (n := mem.length) (fun j b hj hb => ?_) hu
                    show (if _ then _ else _) = _
                    rw [if_pos (by omega)]
                    exact hb
                  rcases hrl with h | ⟨t, ht, h⟩
                  · exact .val (mono h hund)
                  · cases h with
                    | val h => exact .val (mono h hund)
                    | own sz l b off cap size h h1 h2 =>
                      refine .own sz l b off cap size (mono h rfl) ?_ h2
                      show own2 b = _
                      rcases cases2 b with ⟨l', s', hg, hl⟩ | hn
                      · rw [base_own b l' s' hg hl] at h1
                        cases h1
                      · rw [o2 b hn, h1, ht]
                        exact backOwn_tmp
                rcases hrx with h | ⟨t, h⟩
                · exact main none (.inl h)
                · exact main (some t) (.inr ⟨t, rfl, h⟩)
              obtain ⟨g2, k1, k2, k3⟩ := hfinal
              have hdone : a'.defers = [] ∧ ∃ v', (results fn a'.tmps).run P w' = .ok v' w' ∧ ∃ x g', Ending.returned v' = .returned x ∧ WM base w0 g' w' σ1.mem.tail ∧ MW σ1.mem.tail ∧ ExtC g g' ∧ RL g' .res r x ∧ r.under mem.length = true ∧ σ1.mem.tail.length = mem.length :=
                ⟨hI1.defers, x, hx, x, g2, rfl, by rw [hm1]; exact k1, by rw [hm1]; exact hWt, k2, k3, hund, by rw [hm1]; exact hmt⟩
              rcases hex with rfl | rfl
              · exact hdone
              · exact hdone
          split at he
          · rename_i σ1 hrun
            exact key _ _ hrun (.inl rfl) he
          · rename_i σ1 hrun
            exact key _ _ hrun (.inr rfl) he
          · cases he
        · cases hbody
      · cases hck

end
end Go.VA
