/-
  Calls: what a call's contract is; the frame that a call lays and takes away.
-/
import Derived.Test.YtifieekfojbkhaaGreatDoorVaOpsK
set_option linter.unusedSimpArgs false
set_option linter.unusedVariables false
namespace Go.VA
open Go Go.RowKit

/-- References from a frame's cells go to that frame or to elder ones. -/
def MW (mem : Mem) : Prop := ∀ i c, mem.get i = some c → ∀ v, v ∈ c → v.under (i.fr + 1) = true

/-- What a call leaves. -/
structure ExtC (g g' : G) : Prop where
  imm : ∀ a v, g.imm a = some v → g'.imm a = some v
  map : ∀ r e, g.map r = some e → g'.map r = some e
  blk : ∀ i, g'.blk i = g.blk i
  own : ∀ b l s, g.own b = some (l, s) → (∀ i j, l ≠ .cell i j) → g'.own b = some (l, s)

/-- A function whose body the machine enters. -/
def Enters (P : Program) (f : FuncId) : Prop := ∃ fn, P.funcs[f]? = some fn ∧ fn.body.isNone = false ∧ (fn.name == "runtime.NumGoroutine") = false

def CallOK (P : Program) (gl : Globs) (base : Nat) (w0 : World) (call : CallF) : Prop :=
  ∀ f args mem r mem', call f args mem = some (r, mem') → Enters P f ∧ ∀ g w (xs : Array Value), WM base w0 g w mem → MW mem → GlobOK gl g → RVs g.imm g.map g.blk args xs.toList →
    Calls P f xs w fun e w' => ∃ x g', e = .returned x ∧ WM base w0 g' w' mem' ∧ MW mem' ∧ ExtC g g' ∧ RL g' .res r x ∧ r.under mem.length = true ∧ mem'.length = mem.length

section
variable {P : Program} {gl : Globs} {g g' : G} {base : Nat} {w0 w : World} {mem mem' : Mem}

theorem GlobOK.ext (h : GlobOK gl g) (hi : ∀ a v, g.imm a = some v → g'.imm a = some v) (hm : ∀ r e, g.map r = some e → g'.map r = some e) : GlobOK gl g' :=
  fun n c hc => (h n c hc).mono hi hm (fun _ _ h => h)

theorem WM.congr (hM : WM base w0 g w mem) (hg : ∀ i, mem'.get i = mem.get i) (hl : mem'.length = mem.length) : WM base w0 g w mem' :=
  ⟨hM.imm, hM.map, fun i c h => hM.get i c (by rw [← hg]; exact h), fun i b h => by
    obtain ⟨h1, h2, c, arr, e, h3, h4⟩ := hM.blk i b h
    exact ⟨h1, by rw [hl]; exact h2, c, arr, e, by rw [hg]; exact h3, h4⟩, hM.inj, hM.apart, hM.own, hM.old, hM.size⟩

/-- The rights to append are told anew. -/
theorem WM.reown (hM : WM base w0 g w mem) {own' : Nat → Option (Loc × Nat × Nat)} (h1 : ∀ b l s, own' b = some (l, s) → ∃ l', g.own b = some (l', s)) (h2 : ∀ b i j s, g.own b = some (.cell i j, s) → own' b = some (.cell i j, s)) :
    WM base w0 { g with own := own' } w mem := by
  refine ⟨hM.imm, hM.map, hM.get, fun i b h => ?_, hM.inj, hM.apart, fun b l f s h => ?_, hM.old, hM.size⟩
  · obtain ⟨k1, k2, c, arr, e, k3, k4, k5, k6⟩ := hM.blk i b h
    exact ⟨k1, k2, c, arr, e, k3, k4, k5, fun j v x hv hx => (k6 j v x hv hx).mono (fun _ _ h => h) (fun _ _ h => h) (fun _ _ h => h) (fun b s h => h2 b i j s h)⟩
  · obtain ⟨l', h'⟩ := h1 b l (f, s) h
    exact hM.own b l' f s h'

theorem push_get (i : Id) : Mem.get ([] :: mem) i = mem.get i := by
  simp only [Mem.get]
  split
  · rename_i e
    cases h : Mem.get mem i with
    | none => rfl
    | some c => have := get_under h; omega
  · rfl

/-- A new frame. -/
theorem WM.push (hM : WM base w0 g w mem) : WM base w0 g w ([] :: mem) :=
  ⟨hM.imm, hM.map, fun i c h => hM.get i c (by rw [← push_get]; exact h), fun i b h => by
    obtain ⟨h1, h2, c, arr, e, h3, h4⟩ := hM.blk i b h
    exact ⟨h1, by simp; omega, c, arr, e, by rw [push_get]; exact h3, h4⟩, hM.inj, hM.apart, hM.own, hM.old, hM.size⟩

theorem MW.push (h : MW mem) : MW ([] :: mem) := fun i c hc => h i c (by rw [← push_get]; exact hc)

theorem tail_get {f : Fr} (i : Id) (h : i.fr < mem.length) : Mem.get (f :: mem) i = mem.get i := by
  simp only [Mem.get]
  rw [if_neg (by omega)]

/-- A frame is taken away. -/
def G.pop (g : G) (n : Nat) : G := { g with blk := fun i => if i.fr < n then g.blk i else none }

theorem WM.pop {f : Fr} (hM : WM base w0 g w (f :: mem)) (hW : MW mem) : WM base w0 (g.pop mem.length) w mem := by
  have hb : ∀ i b, (g.pop mem.length).blk i = some b → i.fr < mem.length ∧ g.blk i = some b := by
    intro i b h
    change (if _ then _ else _) = _ at h
    split at h
    · rename_i hlt; exact ⟨hlt, h⟩
    · cases h
  refine ⟨hM.imm, hM.map, fun i c h => ?_, fun i b h => ?_, fun i j b h k => hM.inj i j b (hb i b h).2 (hb j b k).2, fun i b o s h => hM.apart i b o s (hb i b h).2, fun b l f s h => ?_, hM.old, hM.size⟩
  · have hlt := get_under h
    obtain ⟨b, hb⟩ := hM.get i c (by rw [tail_get i hlt]; exact h)
    exact ⟨b, by show (if _ then _ else _) = _; rw [if_pos hlt]; exact hb⟩
  · obtain ⟨hlt, h⟩ := hb i b h
    obtain ⟨h1, h2, c, arr, e, h3, h4, h5, h6⟩ := hM.blk i b h
    rw [tail_get i hlt] at h3
    refine ⟨h1, hlt, c, arr, e, h3, h4, h5, fun j v x hv hx => ?_⟩
    have hu := hW i c h3 v (List.mem_of_getElem? hv)
    have hr := h6 j v x hv hx
    have mono : ∀ j b, j.fr < i.fr + 1 → g.blk j = some b → (g.pop mem.length).blk j = some b := by
      intro j b hj h
      show (if _ then _ else _) = _
      rw [if_pos (by omega)]
      exact h
    cases hr with
    | val hr => exact .val (hr.under mono hu)
    | own sz l b off cap size hr k1 k2 => exact .own sz l b off cap size (hr.under mono (by simp [AV.under])) k1 k2
  · obtain ⟨h1, h2, h3, h4⟩ := hM.own b l f s h
    exact ⟨h1, h2, h3, fun i h => h4 i (hb i b h).2⟩

theorem under_mono {n m : Nat} (hnm : n ≤ m) : ∀ {v : AV}, v.under n = true → v.under m = true := by
  intro v
  refine AV.rec (motive_1 := fun v => v.under n = true → v.under m = true) (motive_2 := fun l => AV.under.unders n l = true → AV.under.unders m l = true)
    ?_ ?_ ?_ ?_ ?_ ?_ ?_ ?_ ?_ ?_ ?_ ?_ ?_ ?_ ?_ ?_ ?_ ?_ ?_ v
  all_goals first
    | (intros; rfl)
    | (intro i o h; simp only [AV.under, decide_eq_true_eq] at *; omega)
    | (intro i s o l h; simp only [AV.under, decide_eq_true_eq] at *; omega)
    | (intro l ih h; exact ih h)
    | (intro t v ih h; exact ih h)
    | (intro f l ih h; exact ih h)
    | (intro v l h1 h2 h; simp only [AV.under.unders, Bool.and_eq_true] at *; exact ⟨h1 h.1, h2 h.2⟩)

theorem pure_under {n : Nat} : ∀ {v : AV}, v.pure = true → v.under n = true := by
  intro v
  refine AV.rec (motive_1 := fun v => v.pure = true → v.under n = true) (motive_2 := fun l => AV.pure.pures l = true → AV.under.unders n l = true)
    ?_ ?_ ?_ ?_ ?_ ?_ ?_ ?_ ?_ ?_ ?_ ?_ ?_ ?_ ?_ ?_ ?_ ?_ ?_ v
  all_goals first
    | (intros; rfl)
    | (intro i o h; simp [AV.pure] at h; done)
    | (intro i s o l h; simp [AV.pure] at h; done)
    | (intro l ih h; exact ih h)
    | (intro t v ih h; exact ih h)
    | (intro f l ih h; exact ih h)
    | (intro v l h1 h2 h; simp only [AV.under.unders, AV.pure.pures, Bool.and_eq_true] at *; exact ⟨h1 h.1, h2 h.2⟩)

theorem strip_under {n : Nat} {v : AV} (h : v.under n = true) : v.strip.under n = true := by
  cases v <;> first | exact h | (rename_i c; cases c <;> exact h)

theorem cells_under {n : Nat} {v : AV} (h : v.under n = true) : ∀ u, u ∈ v.cells → u.under n = true := by
  cases v with
  | agg l => intro u hu; exact unders_iff.1 h u hu
  | _ => intro u hu; simp only [AV.cells, List.mem_singleton] at hu; subst hu; exact h

end
end Go.VA
