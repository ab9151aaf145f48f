/-
  Operations that leave the memory alone: conversions, slices, addresses of elements, comparisons with nil, aggregates built.
-/
import Derived.Test.YtifieekfojbkhaaGreatDoorVaOpsC
import Derived.Laws.StructEq
set_option linter.unusedSimpArgs false
set_option linter.unusedVariables false
namespace Go.VA
open Go Go.RowKit

section
variable {P : Program} {gl : Globs} {g : G} {tm : List AV} {a : Act} {take : List Nat} {base : Nat} {w0 w : World} {mem : Mem} {d : Nat} {r : AV × Mem} {op : Op}
variable {imm : Addr → Option Value} {map : Nat → Option (Array MapEntry)} {blk : Id → Option Nat}

theorem op_iaddr (hT : WT g tm a.tmps) (hgl : GlobOK gl g) {arr : Option Nat} {sz : Nat} {y j : Opd} (hc : chkOp P gl op (.iaddr arr sz y j) = true) (he : evOp mem d (rho tm take) (.iaddr arr sz y j) = some r) : Plain P g a w mem op r := by
  cases op <;> simp only [chkOp, Bool.false_eq_true] at hc
  rename_i t x i
  simp only [Bool.and_eq_true] at hc
  obtain ⟨⟨h1, h2⟩, h3⟩ := hc
  simp only [evOp, Option.map_eq_some_iff] at he
  obtain ⟨v, hv, rfl⟩ := he
  unfold VA.iaddr at hv
  split at hv
  · rename_i k n hi
    have h5 := rv_at hT hgl h2 hi rfl
    generalize hz2 : a.eval i = z2 at h5
    cases h5
    have h6 := rv_opd (take := take) hT hgl h1
    generalize hz : a.eval x = z at h6
    split at hv
    · rename_i sz' l c hx
      split at hv
      · rename_i hn
        obtain ⟨rfl, hn⟩ := hn
        simp only [Option.map_eq_some_iff] at hv
        obtain ⟨u, hu, rfl⟩ := hv
        rw [hx] at h6
        have key : ∀ c', RV g.imm g.map g.blk (.slc sz' l c') z → Plain P g a w mem (.indexAddr t x i) (.rptr u.cells, mem) := by
          intro c' h6
          cases h6 with
          | slc _ _ _ b off cap vs hc' hle hx' hp hi' h' =>
          have hlt : n.toNat < l.length := (List.getElem?_eq_some_iff.1 hu).1
          have hlt' : n < (l.length : Int) := by omega
          cases hut : P.underlying t with
          | none => simp [hut] at h3
          | some dd =>
          cases dd <;> first | (simp [hut] at h3; done) | skip
          rename_i e
          simp only [hut] at h3
          have hok := okElem_spec (hp u (List.mem_of_getElem? hu))
          refine ⟨rfl, .pointer (some ⟨b, off + n.toNat * sz', none⟩), fun _ _ _ _ _ => ?_, .rptr _ b _ (vs n.toNat) (fun w hw => (hok.2 w hw).1) (fun j hj => ?_) (fun j w hw => h' _ _ _ _ hu hw)⟩
          · simp [execOp, Instr.indexAt, hz, hz2, asIntOf, run_underlying hut, hn, hlt', sizeOf_run h3, Addr.add_lit]
          · rw [Nat.add_assoc]; exact hi' _ _ hlt (by rw [hok.1] at hj; exact hj)
        cases c with
        | own => exact key .unk h6
        | unk => exact key .unk h6
        | exact => exact key .exact h6
      · cases hv
    · rename_i id sz' off len hx
      split at hv
      · rename_i hn
        obtain ⟨rfl, hn, hlt⟩ := hn
        cases hv
        rw [hx] at h6
        cases h6 with
        | mslc _ _ _ _ b cap o hb hcap ho =>
        obtain rfl := ho (by omega)
        cases hut : P.underlying t with
        | none => simp [hut] at h3
        | some dd =>
        cases dd <;> first | (simp [hut] at h3; done) | skip
        simp only [hut] at h3
        exact ⟨rfl, .pointer (some ⟨b, o + n.toNat * sz', none⟩), fun _ _ _ _ _ => by
          simp [execOp, Instr.indexAt, hz, hz2, asIntOf, run_underlying hut, hn, hlt, sizeOf_run h3, Addr.add_lit], .ptr _ _ _ hb⟩
      · cases hv
    · rename_i len id off hx
      split at hv
      · rename_i hn
        cases hv
        rw [hx] at h6
        cases h6 with
        | ptr _ _ b hb =>
        cases hut : P.underlying t with
        | none => simp [hut] at h3
        | some dd =>
        cases dd <;> first | (simp [hut] at h3; done) | skip
        simp only [hut, Bool.and_eq_true, beq_iff_eq] at h3
        obtain ⟨rfl, h3⟩ := h3
        exact ⟨rfl, .pointer (some ⟨b, off + n.toNat * sz, none⟩), fun _ _ _ _ _ => by
          simp [execOp, Instr.indexAt, Instr.sureAddr, hz, hz2, asIntOf, run_underlying hut, hn, sizeOf_run h3, Addr.add_lit], .ptr _ _ _ hb⟩
      · cases hv
    · rename_i len l hx
      split at hv
      · rename_i hn
        cases hv
        rw [hx] at h6
        cases h6 with
        | rptr _ b off vs hp hi' h' =>
        cases hut : P.underlying t with
        | none => simp [hut] at h3
        | some dd =>
        cases dd <;> first | (simp [hut] at h3; done) | skip
        simp only [hut, Bool.and_eq_true, beq_iff_eq] at h3
        obtain ⟨rfl, h3⟩ := h3
        exact ⟨rfl, .pointer (some ⟨b, off + n.toNat * sz, none⟩), fun _ _ _ _ _ => by
          simp [execOp, Instr.indexAt, Instr.sureAddr, hz, hz2, asIntOf, run_underlying hut, hn, sizeOf_run h3, Addr.add_lit],
          .rptr _ b _ (fun q => vs (n.toNat * sz + q)) (fun u hu => hp u (List.mem_of_mem_drop hu))
          (fun q hq => by rw [Nat.add_assoc]; exact hi' _ (by simp at hq; omega)) (fun q u hu => h' _ u (by rw [List.getElem?_drop] at hu; exact hu))⟩
      · cases hv
    · cases hv
  · cases hv

theorem equal_of {t : TypeId} {x y : Value} {v : Bool} (h : ∀ d, (Op.equalIn (d + 1) t x y).run P w = .ok v w) : (Op.equal t x y).run P w = .ok v w := h 9999

theorem op_eq_nil (hT : WT g tm a.tmps) (hgl : GlobOK gl g) {k : EKind} (hk : ∀ ks, k ≠ .agg ks) {neg : Bool} {y1 y2 : Opd} (hc : chkOp P gl op (.eq k neg y1 y2) = true)
    (he : evOp mem d (rho tm take) (.eq k neg y1 y2) = some r) : Plain P g a w mem op r := by
  cases op <;> simp only [chkOp, Bool.false_eq_true] at hc
  rename_i b t x1 x2 t2
  simp only [Bool.and_eq_true] at hc
  obtain ⟨⟨⟨h1, h2⟩, h3⟩, h4⟩ := hc
  simp only [evOp, Option.map_eq_some_iff] at he
  obtain ⟨v, hv, rfl⟩ := he
  have h5 := rv_opd (take := take) hT hgl h1
  have h6 := rv_opd (take := take) hT hgl h2
  generalize hz : a.eval x1 = z at h5
  generalize hz2 : a.eval x2 = z2 at h6
  have key : (∀ op', (eqGuard op' t x1 x2 z z2).run P w = .ok () w) → (Op.equal t z z2).run P w = .ok v w → (binOp .eql t z z2 = (do pure (.bool (← Op.equal t z z2)))) → (binOp .neq t z z2 = (do pure (.bool (!(← Op.equal t z z2))))) →
      Plain P g a w mem (.binOp b t x1 x2 t2) (.bool (neg ^^ v), mem) := by
    intro hg hq hb1 hb2
    cases b <;> first | (simp at h4; done) | skip
    · have : neg = false := by simpa using h4
      subst this
      exact ⟨rfl, .bool v, fun _ _ _ _ _ => by simp [execOp, hz, hz2, hg, hb1, hq], by rw [Bool.false_xor]; exact .bool v⟩
    · have : neg = true := by simpa using h4
      subst this
      exact ⟨rfl, .bool (!v), fun _ _ _ _ _ => by simp [execOp, hz, hz2, hg, hb2, hq], by rw [Bool.true_xor]; exact .bool (!v)⟩
  cases k with
  | agg ks => exact absurd rfl (hk ks)
  | bool =>
    have hu : P.underlying t = some .bool := by
      cases hu : P.underlying t with
      | none => simp [chkEq, hu] at h3
      | some dd => cases dd <;> first | rfl | simp [chkEq, hu] at h3
    generalize e1 : (rho tm take y1).strip = u1 at hv h5
    generalize e2 : (rho tm take y2).strip = u2 at hv h6
    cases u1 <;> first | (simp [eqv] at hv; done) | skip
    cases u2 <;> first | (simp [eqv] at hv; done) | skip
    cases h5; cases h6
    simp only [eqv, Option.some.injEq] at hv
    subst hv
    exact key (fun op' => by cases op' <;> simp [eqGuard]) (equal_of fun d => by simp [Op.equalIn, run_underlying hu]) rfl rfl
  | ptr =>
    obtain ⟨e, hu⟩ : ∃ e, P.underlying t = some (.pointer e) := by
      cases hu : P.underlying t with
      | none => simp [chkEq, hu] at h3
      | some dd => cases dd <;> first | exact ⟨_, rfl⟩ | simp [chkEq, hu] at h3
    generalize e1 : (rho tm take y1).strip = u1 at hv h5
    generalize e2 : (rho tm take y2).strip = u2 at hv h6
    cases u1 <;> first | (simp [eqv] at hv; done) | skip
    all_goals
      cases u2 <;> first | (simp [eqv] at hv; done) | skip
      all_goals
        cases h5; cases h6
        simp only [eqv, Option.some.injEq] at hv
        subst hv
        exact key (fun op' => by cases op' <;> simp [eqGuard]) (equal_of fun d => by simp [Op.equalIn, run_underlying hu]) rfl rfl
  | slc =>
    obtain ⟨e, hu⟩ : ∃ e, P.underlying t = some (.slice e) := by
      cases hu : P.underlying t with
      | none => simp [chkEq, hu] at h3
      | some dd => cases dd <;> first | exact ⟨_, rfl⟩ | simp [chkEq, hu] at h3
    generalize e1 : (rho tm take y1).strip = u1 at hv h5
    generalize e2 : (rho tm take y2).strip = u2 at hv h6
    cases u1 <;> first | (simp [eqv] at hv; done) | skip
    all_goals
      cases u2 <;> first | (simp [eqv] at hv; done) | skip
      all_goals
        cases h5; cases h6
        simp only [eqv, Option.some.injEq] at hv
        subst hv
        exact key (fun op' => by cases op' <;> simp [eqGuard]) (equal_of fun d => by simp [Op.equalIn, run_underlying hu]) rfl rfl
  | func =>
    obtain ⟨e, e', e'', hu⟩ : ∃ e e' e'', P.underlying t = some (.func e e' e'') := by
      cases hu : P.underlying t with
      | none => simp [chkEq, hu] at h3
      | some dd => cases dd <;> first | exact ⟨_, _, _, rfl⟩ | simp [chkEq, hu] at h3
    generalize e1 : (rho tm take y1).strip = u1 at hv h5
    generalize e2 : (rho tm take y2).strip = u2 at hv h6
    cases u1 <;> first | (simp [eqv] at hv; done) | skip
    all_goals
      cases u2 <;> first | (simp [eqv] at hv; done) | skip
      all_goals
        cases h5; cases h6
        simp only [eqv, Option.some.injEq] at hv
        subst hv
        exact key (fun op' => by cases op' <;> simp [eqGuard]) (equal_of fun d => by simp [Op.equalIn, run_underlying hu]) rfl rfl
  | iface =>
    obtain ⟨e, hu⟩ : ∃ e, P.underlying t = some (.interface e) := by
      cases hu : P.underlying t with
      | none => simp [chkEq, hu] at h3
      | some dd => cases dd <;> first | exact ⟨_, rfl⟩ | simp [chkEq, hu] at h3
    have hconst : (isConstB x1 || isConstB x2) = true := by simpa [chkEq, hu] using h3
    have hg : ∀ op', (eqGuard op' t x1 x2 .nilIface .nilIface).run P w = .ok () w := by
      intro op'
      cases x1 <;> cases x2 <;> first | (simp [isConstB] at hconst; done) | (cases op' <;> simp [eqGuard])
    generalize e1 : (rho tm take y1).strip = u1 at hv h5
    generalize e2 : (rho tm take y2).strip = u2 at hv h6
    cases u1 <;> first | (simp [eqv] at hv; done) | skip
    all_goals
      cases u2 <;> first | (simp [eqv] at hv; done) | skip
      all_goals
        cases h5; cases h6
        simp only [eqv, Option.some.injEq] at hv
        subst hv
        exact key (fun op' => by first | exact hg op' | (cases op' <;> simp [eqGuard])) (equal_of fun d => by simp [Op.equalIn, run_underlying hu]) rfl rfl

end
end Go.VA
