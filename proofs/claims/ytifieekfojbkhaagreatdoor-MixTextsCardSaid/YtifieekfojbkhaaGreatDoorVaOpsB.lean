/-
  Operations that leave the memory alone, one by one.
-/
import Derived.Test.YtifieekfojbkhaaGreatDoorVaOpsA
set_option linter.unusedSimpArgs false
set_option linter.unusedVariables false
namespace Go.VA
open Go Go.RowKit

def Plain (P : Program) (g : G) (a : Act) (w : World) (mem : Mem) (op : Op) (r : AV × Mem) : Prop :=
  r.2 = mem ∧ ∃ x, (∀ dst ty pos after guard, (execOp a.eval ⟨dst, op, ty, pos, after, guard⟩).run P w = .ok (.value x) w) ∧ RV g.imm g.map g.blk r.1 x

section
variable {P : Program} {gl : Globs} {g : G} {tm : List AV} {a : Act} {take : List Nat} {base : Nat} {w0 w : World} {mem : Mem} {d : Nat} {r : AV × Mem} {op : Op}

theorem op_pick (hT : WT g tm a.tmps) (hgl : GlobOK gl g) {c x y : Opd} (hc : chkOp P gl op (.pick c x y) = true) (he : evOp mem d (rho tm take) (.pick c x y) = some r) : Plain P g a w mem op r := by
  cases op <;> simp only [chkOp, Bool.false_eq_true] at hc
  rename_i c' x' y'
  simp only [Bool.and_eq_true] at hc
  simp only [evOp] at he
  split at he
  · rename_i t ht
    cases he
    have h1 := rv_at hT hgl hc.1.1 ht rfl
    have h2 := rv_opd (take := take) hT hgl hc.1.2
    have h3 := rv_opd (take := take) hT hgl hc.2
    generalize hz : a.eval c' = z at h1
    cases h1
    refine ⟨rfl, if t then a.eval x' else a.eval y', fun _ _ _ _ _ => by simp [execOp, hz, asBool], ?_⟩
    cases t
    · exact h3
    · exact h2
  · cases he

theorem op_nilchk (hT : WT g tm a.tmps) (hgl : GlobOK gl g) {y : Opd} (hc : chkOp P gl op (.nilchk y) = true) (he : evOp mem d (rho tm take) (.nilchk y) = some r) : Plain P g a w mem op r := by
  cases op <;> simp only [chkOp, Bool.false_eq_true] at hc
  rename_i x'
  simp only [evOp] at he
  split at he
  · rename_i l hl
    cases he
    have h1 := rv_at hT hgl hc hl rfl
    refine ⟨rfl, a.eval x', fun _ _ _ _ _ => ?_, h1⟩
    generalize hz : a.eval x' = z at h1
    cases h1
    simp [execOp, hz]
  · rename_i i o hl
    cases he
    have h1 := rv_at hT hgl hc hl rfl
    refine ⟨rfl, a.eval x', fun _ _ _ _ _ => ?_, h1⟩
    generalize hz : a.eval x' = z at h1
    cases h1
    simp [execOp, hz]
  · rename_i f c hl
    cases he
    have h1 := rv_at hT hgl hc hl rfl
    refine ⟨rfl, a.eval x', fun _ _ _ _ _ => ?_, h1⟩
    generalize hz : a.eval x' = z at h1
    cases h1
    simp [execOp, hz]
  · cases he

theorem op_mkif (hT : WT g tm a.tmps) (hgl : GlobOK gl g) {t : TypeId} {y : Opd} (hc : chkOp P gl op (.mkif t y) = true) (he : evOp mem d (rho tm take) (.mkif t y) = some r) : Plain P g a w mem op r := by
  cases op <;> simp only [chkOp, Bool.false_eq_true] at hc
  rename_i t' x'
  simp only [Bool.and_eq_true, beq_iff_eq] at hc
  obtain ⟨⟨rfl, h1⟩, h2⟩ := hc
  simp only [evOp, Option.some.injEq] at he
  subst he
  refine ⟨rfl, .iface t (a.eval x'), fun _ _ _ _ _ => ?_, .iface _ _ _ (rv_opd hT hgl h1)⟩
  simp only [execOp, Instr.makeInterface]
  cases hu : P.underlying t with
  | none => simp [hu] at h2
  | some d => cases d <;> first | (simp [hu] at h2; done) | simp [run_underlying hu]

theorem op_mkfn (hT : WT g tm a.tmps) (hgl : GlobOK gl g) {f : FuncId} {ys : List Opd} (hc : chkOp P gl op (.mkfn f ys) = true) (he : evOp mem d (rho tm take) (.mkfn f ys) = some r) : Plain P g a w mem op r := by
  cases op <;> simp only [chkOp, Bool.false_eq_true] at hc
  rename_i fn first caps
  cases fn <;> simp only [Bool.false_eq_true] at hc
  rename_i f'
  simp only [Bool.and_eq_true, beq_iff_eq] at hc
  obtain ⟨⟨rfl, h1⟩, h2⟩ := hc
  simp only [evOp, Option.some.injEq] at he
  subst he
  obtain ⟨h3, h4⟩ := rv_opds take hT hgl h2
  have hf : first = #[] := by cases first; simpa using h1
  subst hf
  refine ⟨rfl, .func (.func f) #[] (caps.map a.eval), fun _ _ _ _ _ => by simp [execOp, Instr.makeFunc], .fn _ _ _ (by simpa using h3.symm) fun i u x hu hx => h4 i u x hu ?_⟩
  rw [← hx, ← Array.getElem?_toList]; simp

theorem op_faddr (hT : WT g tm a.tmps) (hgl : GlobOK gl g) {off : Nat} {y : Opd} (hc : chkOp P gl op (.faddr off y) = true) (he : evOp mem d (rho tm take) (.faddr off y) = some r) : Plain P g a w mem op r := by
  cases op <;> simp only [chkOp, Bool.false_eq_true] at hc
  rename_i t x' i
  simp only [Bool.and_eq_true] at hc
  obtain ⟨h1, h2⟩ := hc
  have key : ∃ fs f j, P.underlying t = some (.struct fs) ∧ fs[i]? = some f ∧ f.offset = off ∧ P.info? f.type = some j ∧ j.size ≠ 0 := by
    split at h2
    · rename_i fs hfs
      split at h2
      · rename_i f hf
        simp only [Bool.and_eq_true, beq_iff_eq] at h2
        obtain ⟨h3, h4⟩ := h2
        split at h4
        · rename_i j hj
          exact ⟨fs, f, j, hfs, hf, h3, hj, by simpa using h4⟩
        · cases h4
      · cases h2
    · cases h2
  obtain ⟨fs, f, j, hfs, hf, rfl, hj, hj0⟩ := key
  have run : ∀ b o, a.eval x' = .pointer (some ⟨b, o, none⟩) → ∀ dst ty pos after guard,
      (execOp a.eval ⟨dst, .fieldAddr t x' i, ty, pos, after, guard⟩).run P w = .ok (.value (.pointer (some ⟨b, o + f.offset, none⟩))) w := by
    intro b o hz _ _ _ _ _
    simp [execOp, Instr.fieldAt, run_underlying hfs, hf, hz, Instr.sureAddr, fieldPlace, sizeOf, typeInfo, hj, hj0, Addr.add_lit]
  simp only [evOp] at he
  split at he
  · rename_i l hl
    cases he
    have h1 := rv_at hT hgl h1 hl rfl
    generalize hz : a.eval x' = z at h1
    cases h1 with
    | rptr _ b o vs hp hi h =>
    exact ⟨rfl, _, run b o hz, .rptr _ b _ (fun k => vs (f.offset + k)) (fun u hu => hp u (List.mem_of_mem_drop hu))
      (fun k hk => by rw [Nat.add_assoc]; exact hi _ (by simp at hk; omega)) (fun k u hu => h _ u (by rw [List.getElem?_drop] at hu; exact hu))⟩
  · rename_i i' o' hl
    cases he
    have h1 := rv_at hT hgl h1 hl rfl
    generalize hz : a.eval x' = z at h1
    cases h1 with
    | ptr _ _ b hb => exact ⟨rfl, _, run b _ hz, .ptr _ _ b hb⟩
  · cases he

theorem op_field (hT : WT g tm a.tmps) (hgl : GlobOK gl g) {agg : Bool} {off n : Nat} {y : Opd} (hc : chkOp P gl op (.field agg off n y) = true) (he : evOp mem d (rho tm take) (.field agg off n y) = some r) : Plain P g a w mem op r := by
  cases op <;> simp only [chkOp, Bool.false_eq_true] at hc
  rename_i t x' i
  simp only [Bool.and_eq_true] at hc
  obtain ⟨h1, h2⟩ := hc
  simp only [evOp] at he
  split at he
  · rename_i c hl
    simp only [Option.map_eq_some_iff] at he
    obtain ⟨v, hv, rfl⟩ := he
    have h3 := rv_at hT hgl h1 hl rfl
    generalize hz : a.eval x' = z at h3
    cases h3 with
    | agg _ cs hl' h' =>
    split at h2
    · rename_i fs hfs
      split at h2
      · rename_i f hf
        simp only [Bool.and_eq_true, beq_iff_eq] at h2
        obtain ⟨⟨⟨rfl, h5⟩, h6⟩, h7⟩ := h2
        obtain ⟨x, hx, hr⟩ := part_run h6 h5 h7 (.agg _ cs hl' h') hv w
        exact ⟨rfl, x, fun _ _ _ _ _ => by simp [execOp, Instr.field, run_underlying hfs, hf, hz, asAgg, hx], hr⟩
      · cases h2
    · cases h2
  · cases he

theorem op_extract (hT : WT g tm a.tmps) (hgl : GlobOK gl g) {y : Opd} {i : Nat} (hc : chkOp P gl op (.extract y i) = true) (he : evOp mem d (rho tm take) (.extract y i) = some r) : Plain P g a w mem op r := by
  cases op <;> simp only [chkOp, Bool.false_eq_true] at hc
  rename_i x' i'
  simp only [Bool.and_eq_true, beq_iff_eq] at hc
  obtain ⟨rfl, h1⟩ := hc
  simp only [evOp] at he
  split at he
  · rename_i c hl
    simp only [Option.map_eq_some_iff] at he
    obtain ⟨v, hv, rfl⟩ := he
    have h3 := rv_at hT hgl h1 hl rfl
    generalize hz : a.eval x' = z at h3
    cases h3 with
    | tup _ xs hl' h' =>
    have ho : i < xs.size := by have := (List.getElem?_eq_some_iff.1 hv).1; omega
    exact ⟨rfl, xs[i], fun _ _ _ _ _ => by simp [execOp, Instr.extract, hz, ho], h' i v _ hv (by simp [ho])⟩
  · cases he

theorem op_ixarr (hT : WT g tm a.tmps) (hgl : GlobOK gl g) {agg : Bool} {len sz : Nat} {y j : Opd} (hc : chkOp P gl op (.ixarr agg len sz y j) = true) (he : evOp mem d (rho tm take) (.ixarr agg len sz y j) = some r) : Plain P g a w mem op r := by
  cases op <;> simp only [chkOp, Bool.false_eq_true] at hc
  rename_i t x' i'
  simp only [Bool.and_eq_true] at hc
  obtain ⟨⟨h1, h2⟩, h3⟩ := hc
  simp only [evOp] at he
  split at he
  · rename_i c k n hx hi
    split at he
    · rename_i hn
      simp only [Option.map_eq_some_iff] at he
      obtain ⟨v, hv, rfl⟩ := he
      have h4 := rv_at hT hgl h1 hx rfl
      have h5 := rv_at hT hgl h2 hi rfl
      generalize hz : a.eval x' = z at h4
      generalize hz2 : a.eval i' = z2 at h5
      cases h4 with
      | agg _ cs hl' h' =>
      cases h5
      split at h3
      · rename_i m e he'
        simp only [Bool.and_eq_true, beq_iff_eq] at h3
        obtain ⟨⟨⟨rfl, h6⟩, h7⟩, h8⟩ := h3
        obtain ⟨x, hx, hr⟩ := part_run h8 h7 h6 (.agg _ cs hl' h') hv w
        exact ⟨rfl, x, fun _ _ _ _ _ => by simp [execOp, Instr.index, hz, hz2, asIntOf, run_underlying he', hn, sizeOf_run h6, hx], hr⟩
      · cases h3
    · cases he
  · cases he

theorem op_ixstr (hT : WT g tm a.tmps) (hgl : GlobOK gl g) {y j : Opd} (hc : chkOp P gl op (.ixstr y j) = true) (he : evOp mem d (rho tm take) (.ixstr y j) = some r) : Plain P g a w mem op r := by
  cases op <;> simp only [chkOp, Bool.false_eq_true] at hc
  rename_i t x' i'
  simp only [Bool.and_eq_true] at hc
  obtain ⟨⟨h1, h2⟩, h3⟩ := hc
  simp only [evOp] at he
  split at he
  · rename_i s k n hx hi
    split at he
    · rename_i hn
      simp only [Option.map_eq_some_iff] at he
      obtain ⟨v, hv, rfl⟩ := he
      have h4 := rv_at hT hgl h1 hx rfl
      have h5 := rv_at hT hgl h2 hi rfl
      generalize hz : a.eval x' = z at h4
      generalize hz2 : a.eval i' = z2 at h5
      cases h4
      cases h5
      split at h3
      · rename_i he'
        obtain ⟨ho, rfl⟩ := List.getElem?_eq_some_iff.1 hv
        have ho' : n.toNat < (ByteArray.mk s.toArray).size := by simpa [ByteArray.size] using ho
        refine ⟨rfl, _, fun _ _ _ _ _ => ?_, .int .u8 _⟩
        have hg : (ByteArray.mk s.toArray)[n.toNat]? = some s[n.toNat] := by
          rw [getElem?_pos (ByteArray.mk s.toArray) n.toNat ho']; rfl
        simp [execOp, Instr.index, hz, hz2, asIntOf, run_underlying he', hn, hg]
      · cases h3
    · cases he
  · cases he

end
end Go.VA
