/-
  Operations that leave the memory alone: the machine's result is the abstract one.
-/
import Derived.Test.YtifieekfojbkhaaGreatDoorVaChk
import Derived.WalkKit
set_option linter.unusedSimpArgs false
set_option linter.unusedVariables false
namespace Go.VA
open Go Go.RowKit

/-- What the variables hold is there. -/
def GlobOK (gl : Globs) (g : G) : Prop := ∀ n c, gl n = some c → RV g.imm g.map (fun _ => none) (.rptr c) (.pointer (some ⟨n, 0, none⟩))

section
variable {P : Program} {gl : Globs} {g : G} {tm : List AV} {a : Act} {take : List Nat} {base : Nat} {w0 w : World} {mem mem' : Mem}

theorem constS_rv {imm : Addr → Option Value} {map : Nat → Option (Array MapEntry)} {blk : Id → Option Nat} (x : Value) {v : AV} (h : constS x = some v) : RV imm map blk v x := by
  unfold constS at h
  split at h <;> first
    | (cases h; done)
    | (simp only [Option.some.injEq] at h; subst h; constructor)
theorem constAVs_rv {imm : Addr → Option Value} {map : Nat → Option (Array MapEntry)} {blk : Id → Option Nat} : ∀ (xs : List Value) {l : List AV}, constAVs xs = some l →
    l.length = xs.length ∧ ∀ (i : Nat) u x, l[i]? = some u → xs[i]? = some x → RV imm map blk u x
  | [], l, h => by simp only [constAVs, Option.some.injEq] at h; subst h; simp
  | v :: r, l, h => by
    simp only [constAVs] at h
    split at h
    · rename_i a m h1 h2
      simp only [Option.some.injEq] at h
      subst h
      obtain ⟨h3, h4⟩ := constAVs_rv r h2
      refine ⟨by simp [h3], fun i u x hu hx => ?_⟩
      cases i with
      | zero =>
        simp only [List.length_cons, Nat.zero_lt_succ, List.getElem?_eq_getElem, List.getElem_cons_zero, Option.some.injEq] at hu hx
        subst hu; subst hx
        exact constS_rv v h1
      | succ i => exact h4 i u x (by simpa using hu) (by simpa using hx)
    · cases h
theorem constAV_rv {imm : Addr → Option Value} {map : Nat → Option (Array MapEntry)} {blk : Id → Option Nat} (x : Value) {v : AV} (h : constAV x = some v) : RV imm map blk v x := by
  unfold constAV at h
  split at h
  · rename_i cs
    simp only [Option.map_eq_some_iff] at h
    obtain ⟨l, hl, rfl⟩ := h
    obtain ⟨h1, h2⟩ := constAVs_rv cs.toList hl
    exact .agg l cs (by simpa using h1) fun i u x hu hx => h2 i u x hu (by simpa using hx)
  · exact constS_rv x h

theorem WT.get (hT : WT g tm a.tmps) (t : Nat) : RL g (.tmp t) (getT tm t) (a.tmps.getD t undef) := by
  unfold getT
  by_cases h : t < tm.length
  · have h' : t < a.tmps.size := hT.size ▸ h
    exact hT.at' t _ _ (by simp [List.getD, h]) (by simp [Array.getD, h'])
  · have h' : ¬ t < a.tmps.size := hT.size ▸ h
    rw [show tm.getD t .undef = .undef by simp [List.getD, List.getElem?_eq_none (by omega : tm.length ≤ t)]]
    exact .val (.undef _)

theorem rv_opd (hT : WT g tm a.tmps) (hgl : GlobOK gl g) {x : Operand} {y : Opd} (h : chkOpd gl x y = true) : RV g.imm g.map g.blk (rho tm take y).strip (a.eval x) := by
  cases x with
  | tmp t =>
    cases y with
    | tmp t' =>
      obtain rfl : t = t' := by simpa [chkOpd] using h
      have h1 := (hT.get t).strip
      show RV g.imm g.map g.blk (if t ∈ take then getT tm t else (getT tm t).strip).strip (a.tmps.getD t undef)
      split
      · exact h1
      · exact h1.strip
    | av v => simp [chkOpd] at h
  | const v =>
    cases y with
    | tmp t => simp [chkOpd] at h
    | av u => exact (constAV_rv v (show constAV v = some u by simpa [chkOpd] using h)).strip
  | global n =>
    cases y with
    | tmp t => simp [chkOpd] at h
    | av u =>
      cases u with
      | rptr c => exact ((hgl n c (by simpa [chkOpd] using h)).mono (fun _ _ h => h) (fun _ _ h => h) (by simp)).strip
      | _ => simp [chkOpd] at h
  | func f =>
    cases y with
    | tmp t => simp [chkOpd] at h
    | av u =>
      cases u with
      | fn f' l =>
        cases l with
        | nil =>
          obtain rfl : f = f' := by simpa [chkOpd] using h
          exact .fn f [] #[] rfl (by simp)
        | cons _ _ => simp [chkOpd] at h
      | _ => simp [chkOpd] at h

/-- An operand of a form that bears no right to append. -/
theorem rv_at (hT : WT g tm a.tmps) (hgl : GlobOK gl g) {x : Operand} {y : Opd} {v : AV} (h : chkOpd gl x y = true) (hv : rho tm take y = v) (hs : v.strip = v) : RV g.imm g.map g.blk v (a.eval x) := by
  have := rv_opd (take := take) hT hgl h
  rwa [hv, hs] at this

theorem rv_opds (take : List Nat) (hT : WT g tm a.tmps) (hgl : GlobOK gl g) : ∀ {xs : List Operand} {ys : List Opd}, chkOpds gl xs ys = true →
    xs.length = ys.length ∧ ∀ (i : Nat) u x, (ys.map fun y => (rho tm take y).strip)[i]? = some u → (xs.map a.eval)[i]? = some x → RV g.imm g.map g.blk u x
  | [], [], _ => ⟨rfl, fun i u x h => by simp at h⟩
  | [], _ :: _, h => by simp [chkOpds] at h
  | _ :: _, [], h => by simp [chkOpds] at h
  | x :: l, y :: m, h => by
    simp only [chkOpds, Bool.and_eq_true] at h
    obtain ⟨h1, h2⟩ := rv_opds take hT hgl h.2
    refine ⟨by simp [h1], fun i u v hu hv => ?_⟩
    cases i with
    | zero =>
      simp only [List.map_cons, List.length_cons, Nat.zero_lt_succ, List.getElem?_eq_getElem, List.getElem_cons_zero, Option.some.injEq] at hu hv
      subst hu; subst hv
      exact rv_opd hT hgl h.1
    | succ i => exact h2 i u v (by simpa using hu) (by simpa using hv)

theorem szB_spec {t : TypeId} {n : Nat} (h : szB P t n = true) : ∃ i, P.info? t = some i ∧ i.size = n := by
  unfold szB at h
  split at h
  · rename_i i hi; exact ⟨i, hi, by simpa using h⟩
  · cases h

theorem isAgg_run {t : TypeId} (h : hasU P t = true) (w : World) : (isAgg t).run P w = .ok (isAggB P t) w := by
  obtain ⟨d, hd⟩ := Option.isSome_iff_exists.1 h
  unfold isAgg isAggB
  simp only [hd]
  cases d <;> simp [run_underlying hd]

theorem sizeOf_run {t : TypeId} {n : Nat} (h : szB P t n = true) (w : World) : (sizeOf t).run P w = .ok n w := by
  obtain ⟨i, hi, rfl⟩ := szB_spec h
  simp [sizeOf, typeInfo, hi]

/-- 'part'. -/
theorem part_run {t : TypeId} {agg : Bool} {off n : Nat} (hu : hasU P t = true) (ha : isAggB P t = agg) (hn : szB P t n = true) {imm : Addr → Option Value} {map : Nat → Option (Array MapEntry)} {blk : Id → Option Nat}
    {c : List AV} {cs : Array Value} (h : RV imm map blk (.agg c) (.agg cs)) {v : AV} (he : VA.part agg c off n = some v) (w : World) :
    ∃ x, (Go.part t cs off).run P w = .ok x w ∧ RV imm map blk v x := by
  cases h with
  | agg _ _ hl h =>
  unfold VA.part at he
  unfold Go.part
  subst ha
  cases hb : isAggB P t with
  | false =>
    simp only [hb, Bool.false_eq_true, if_false] at he
    have ho : off < cs.size := by have := (List.getElem?_eq_some_iff.1 he).1; omega
    refine ⟨cs[off], ?_, h off v _ he (by simp [ho])⟩
    simp [isAgg_run hu, hb, ho]
  | true =>
    simp only [hb, if_true] at he
    split at he
    · rename_i hle
      simp only [Option.some.injEq] at he
      subst he
      refine ⟨.agg (cs.extract off (off + n)), by simp [isAgg_run hu, hb, sizeOf_run hn], .agg _ _ (by simp; omega) fun i u x hi hx => ?_⟩
      have hin : i < n := by have := (List.getElem?_eq_some_iff.1 hi).1; simp at this; omega
      refine h (off + i) u x ?_ ?_
      · rw [List.getElem?_take_of_lt hin, List.getElem?_drop] at hi; exact hi
      · rw [Array.getElem?_extract] at hx
        split at hx
        · exact hx
        · cases hx
    · cases he

end
end Go.VA
