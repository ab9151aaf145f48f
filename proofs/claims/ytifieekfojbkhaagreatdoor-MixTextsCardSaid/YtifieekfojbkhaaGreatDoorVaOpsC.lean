/-
  Operations that leave the memory alone: arithmetic, comparisons, slices, addresses.
-/
import Derived.Test.YtifieekfojbkhaaGreatDoorVaOpsB
set_option linter.unusedSimpArgs false
set_option linter.unusedVariables false
namespace Go.VA
open Go Go.RowKit

theorem bytes_toList (l : List UInt8) : (ByteArray.mk l.toArray).toList = l := by
  rw [ByteArray.toList_eq]

theorem bytesLess_eq : ∀ (a b : List UInt8), Op.bytesLess a b = VA.bytesLess a b
  | _, [] => by simp [Op.bytesLess, VA.bytesLess]
  | [], _ :: _ => by simp [Op.bytesLess, VA.bytesLess]
  | a :: x, b :: y => by simp [Op.bytesLess, VA.bytesLess, bytesLess_eq x y]

section
variable {P : Program} {gl : Globs} {g : G} {tm : List AV} {a : Act} {take : List Nat} {base : Nat} {w0 w : World} {mem : Mem} {d : Nat} {r : AV × Mem} {op : Op}
variable {imm : Addr → Option Value} {map : Nat → Option (Array MapEntry)} {blk : Id → Option Nat}

theorem binInt_run {op : BinOp} {t : TypeId} {k k' : IntKind} {x y : Int} {v : AV} (h : binInt op k x k' y = some v) (w : World) :
    ∃ z, (binOp op t (.int k x) (.int k' y)).run P w = .ok z w ∧ RV imm map blk v z := by
  cases op <;> simp only [binInt] at h
  case shl =>
    split at h
    · cases h
    · rename_i hy
      cases h
      exact ⟨_, by simp [binOp, Op.shift, hy], .int _ _⟩
  case shr =>
    split at h
    · cases h
    · rename_i hy
      cases h
      exact ⟨_, by simp [binOp, Op.shift, hy], .int _ _⟩
  case quo =>
    split at h
    · split at h
      · cases h
      · rename_i hk hy
        cases h; subst hk
        exact ⟨_, by simp [binOp, Op.intDiv, hy], .int _ _⟩
    · cases h
  case rem =>
    split at h
    · split at h
      · cases h
      · rename_i hk hy
        cases h; subst hk
        exact ⟨_, by simp [binOp, Op.intDiv, hy], .int _ _⟩
    · cases h
  case and | or | xor | andNot =>
    split at h
    · rename_i hk
      subst hk
      simp only [VA.bits] at h
      cases h
      exact ⟨_, by simp only [binOp, ne_eq, not_true_eq_false, if_false, Op.intBits]; rfl, .int _ _⟩
    · cases h
  all_goals
    split at h
    · rename_i hk
      subst hk
      cases h
      first
        | exact ⟨_, by simp [binOp, Op.intArith], .int _ _⟩
        | exact ⟨_, by simp [binOp, Op.intCmp], .bool _⟩
    · cases h

theorem binStr_run {op : BinOp} {t : TypeId} {x y : List UInt8} {v : AV} (h : binStr op x y = some v) (w : World) :
    ∃ z, (binOp op t (.string ⟨x.toArray⟩) (.string ⟨y.toArray⟩)).run P w = .ok z w ∧ RV imm map blk v z := by
  cases op <;> simp only [binStr, reduceCtorEq] at h
  case add =>
    split at h
    · rename_i hl
      cases h
      refine ⟨.string (⟨x.toArray⟩ ++ ⟨y.toArray⟩), ?_, ?_⟩
      · have h2 : ¬ ((((ByteArray.mk x.toArray).size + (ByteArray.mk y.toArray).size : Nat) : Int) > IntKind.i64.max) := by
          simp [ByteArray.size]; omega
        simp only [binOp, Op.stringOp, if_neg h2]
        rfl
      · have : (ByteArray.mk x.toArray ++ ByteArray.mk y.toArray) = ⟨(x ++ y).toArray⟩ := by
          apply ByteArray.ext
          simp
        rw [this]
        exact .str _
    · cases h
  all_goals
    cases h
    exact ⟨_, by simp only [binOp, Op.stringOp, bytes_toList, bytesLess_eq]; rfl, .bool _⟩

theorem op_bin (hT : WT g tm a.tmps) (hgl : GlobOK gl g) {b : BinOp} {y1 y2 : Opd} (hc : chkOp P gl op (.bin b y1 y2) = true) (he : evOp mem d (rho tm take) (.bin b y1 y2) = some r) : Plain P g a w mem op r := by
  cases op <;> simp only [chkOp, Bool.false_eq_true] at hc
  rename_i b' t x1 x2 t2
  simp only [Bool.and_eq_true, beq_iff_eq] at hc
  obtain ⟨⟨rfl, h1⟩, h2⟩ := hc
  simp only [evOp, Option.map_eq_some_iff] at he
  obtain ⟨v, hv, rfl⟩ := he
  unfold VA.bin at hv
  split at hv
  · rename_i k n k' n' e1 e2
    have h3 := rv_at hT hgl h1 e1 rfl
    have h4 := rv_at hT hgl h2 e2 rfl
    generalize hz : a.eval x1 = z at h3
    generalize hz2 : a.eval x2 = z2 at h4
    cases h3; cases h4
    obtain ⟨x, hx, hr⟩ := binInt_run (P := P) (t := t) (imm := g.imm) (map := g.map) (blk := g.blk) hv w
    exact ⟨rfl, x, fun _ _ _ _ _ => by simp [execOp, hz, hz2, eqGuard_at_int, hx], hr⟩
  · rename_i l l' e1 e2
    have h3 := rv_at hT hgl h1 e1 rfl
    have h4 := rv_at hT hgl h2 e2 rfl
    generalize hz : a.eval x1 = z at h3
    generalize hz2 : a.eval x2 = z2 at h4
    cases h3; cases h4
    obtain ⟨x, hx, hr⟩ := binStr_run (P := P) (t := t) (imm := g.imm) (map := g.map) (blk := g.blk) hv w
    exact ⟨rfl, x, fun _ _ _ _ _ => by simp [execOp, hz, hz2, eqGuard_at_string, hx], hr⟩
  · cases hv

theorem op_un (hT : WT g tm a.tmps) (hgl : GlobOK gl g) {u : UnOp} {y : Opd} (hc : chkOp P gl op (.un u y) = true) (he : evOp mem d (rho tm take) (.un u y) = some r) : Plain P g a w mem op r := by
  cases op <;> simp only [chkOp, Bool.false_eq_true] at hc
  rename_i u' t x
  simp only [Bool.and_eq_true, beq_iff_eq] at hc
  obtain ⟨rfl, h1⟩ := hc
  simp only [evOp, Option.map_eq_some_iff] at he
  obtain ⟨v, hv, rfl⟩ := he
  unfold VA.un at hv
  split at hv
  · rename_i k n e1
    cases hv
    have h3 := rv_at hT hgl h1 e1 rfl
    generalize hz : a.eval x = z at h3
    cases h3
    exact ⟨rfl, _, fun _ _ _ _ _ => by simp [execOp, hz, Op.unary, Op.intArith], .int _ _⟩
  · rename_i b e1
    cases hv
    have h3 := rv_at hT hgl h1 e1 rfl
    generalize hz : a.eval x = z at h3
    cases h3
    exact ⟨rfl, _, fun _ _ _ _ _ => by simp [execOp, hz, Op.unary], .bool _⟩
  · cases hv

theorem op_len (hT : WT g tm a.tmps) (hgl : GlobOK gl g) {str : Bool} {y : Opd} (hc : chkOp P gl op (.len str y) = true) (he : evOp mem d (rho tm take) (.len str y) = some r) : Plain P g a w mem op r := by
  cases op <;> simp only [chkOp, Bool.false_eq_true] at hc
  rename_i c
  obtain ⟨callee, args, argTypes⟩ := c
  cases callee with
  | value _ => simp at hc
  | invoke _ _ => simp at hc
  | builtin b =>
  cases b <;> first | (simp at hc; done) | skip
  simp only at hc
  split at hc
  · rename_i x t ha ht
    simp only [Bool.and_eq_true] at hc
    obtain ⟨h1, h2⟩ := hc
    obtain rfl : args = #[x] := Array.toList_inj.1 ha
    obtain rfl : argTypes = #[t] := Array.toList_inj.1 ht
    have h3 := rv_opd (take := take) hT hgl h1
    simp only [evOp] at he
    have key : ∀ e n (ad : Option Addr) cap, P.underlying t = some (.slice e) → a.eval x = .slice ad n cap → r = (.int .i64 n, mem) → Plain P g a w mem (.call ⟨.builtin .len, #[x], #[t]⟩) r := by
      intro e n ad cap hu hz hr
      subst hr
      exact ⟨rfl, _, fun _ _ _ _ _ => by simp [execOp, resolve, invoke, builtin, Builtin.len_, hz, run_underlying hu, goInt], .int _ _⟩
    split at he
    · rename_i sz l c hl
      rw [hl] at h3
      generalize hz : a.eval x = z at h3
      cases h3
      cases hu : P.underlying t with
      | none => simp [hu] at h2
      | some dd => cases dd <;> first | (simp [hu] at h2; done) | exact key _ _ _ _ hu hz (by simpa using he.symm)
    · rename_i i sz o n hl
      rw [hl] at h3
      generalize hz : a.eval x = z at h3
      cases h3
      cases hu : P.underlying t with
      | none => simp [hu] at h2
      | some dd => cases dd <;> first | (simp [hu] at h2; done) | exact key _ _ _ _ hu hz (by simpa using he.symm)
    · rename_i hl
      rw [hl] at h3
      generalize hz : a.eval x = z at h3
      cases h3
      cases hu : P.underlying t with
      | none => simp [hu] at h2
      | some dd => cases dd <;> first | (simp [hu] at h2; done) | exact key _ _ _ _ hu hz (by simpa using he.symm)
    · rename_i s hl
      rw [hl] at h3
      generalize hz : a.eval x = z at h3
      cases h3
      cases he
      cases hu : P.underlying t with
      | none => simp [hu] at h2
      | some dd =>
        cases dd <;> first | (simp [hu] at h2; done) | exact ⟨rfl, .int .i64 s.length, fun _ _ _ _ _ => by show _ = Result.ok (Next.value (goInt (ByteArray.mk s.toArray).size)) w; simp [execOp, resolve, invoke, builtin, Builtin.len_, hz, run_underlying hu], .int _ _⟩
    · cases he
  · cases hc

theorem op_min2 (hT : WT g tm a.tmps) (hgl : GlobOK gl g) {y1 y2 : Opd} (hc : chkOp P gl op (.min2 y1 y2) = true) (he : evOp mem d (rho tm take) (.min2 y1 y2) = some r) : Plain P g a w mem op r := by
  cases op <;> simp only [chkOp, Bool.false_eq_true] at hc
  rename_i c
  obtain ⟨callee, args, argTypes⟩ := c
  cases callee with
  | value _ => simp at hc
  | invoke _ _ => simp at hc
  | builtin b =>
  cases b <;> first | (simp at hc; done) | skip
  simp only at hc
  cases hl : args.toList with
  | nil => rw [hl] at hc; simp [chkOpds] at hc
  | cons x1 l =>
  cases l with
  | nil => rw [hl] at hc; simp [chkOpds] at hc
  | cons x2 l =>
  cases l with
  | cons _ _ => rw [hl] at hc; simp [chkOpds] at hc
  | nil =>
  rw [hl] at hc
  obtain rfl : args = #[x1, x2] := Array.toList_inj.1 hl
  simp only [chkOpds, Bool.and_eq_true, and_true] at hc
  simp only [evOp] at he
  split at he
  · rename_i k n k' n' e1 e2
    cases he
    have h3 := rv_at hT hgl hc.1 e1 rfl
    have h4 := rv_at hT hgl hc.2 e2 rfl
    generalize hz : a.eval x1 = z at h3
    generalize hz2 : a.eval x2 = z2 at h4
    cases h3; cases h4
    exact ⟨rfl, _, fun _ _ _ _ _ => by simp [execOp, resolve, invoke, builtin, Builtin.min_, Builtin.min2, hz, hz2], .int _ _⟩
  · cases he

theorem op_max2 (hT : WT g tm a.tmps) (hgl : GlobOK gl g) {y1 y2 : Opd} (hc : chkOp P gl op (.max2 y1 y2) = true) (he : evOp mem d (rho tm take) (.max2 y1 y2) = some r) : Plain P g a w mem op r := by
  cases op <;> simp only [chkOp, Bool.false_eq_true] at hc
  rename_i c
  obtain ⟨callee, args, argTypes⟩ := c
  cases callee with
  | value _ => simp at hc
  | invoke _ _ => simp at hc
  | builtin b =>
  cases b <;> first | (simp at hc; done) | skip
  simp only at hc
  cases hl : args.toList with
  | nil => rw [hl] at hc; simp [chkOpds] at hc
  | cons x1 l =>
  cases l with
  | nil => rw [hl] at hc; simp [chkOpds] at hc
  | cons x2 l =>
  cases l with
  | cons _ _ => rw [hl] at hc; simp [chkOpds] at hc
  | nil =>
  rw [hl] at hc
  obtain rfl : args = #[x1, x2] := Array.toList_inj.1 hl
  simp only [chkOpds, Bool.and_eq_true, and_true] at hc
  simp only [evOp] at he
  split at he
  · rename_i k n k' n' e1 e2
    cases he
    have h3 := rv_at hT hgl hc.1 e1 rfl
    have h4 := rv_at hT hgl hc.2 e2 rfl
    generalize hz : a.eval x1 = z at h3
    generalize hz2 : a.eval x2 = z2 at h4
    cases h3; cases h4
    exact ⟨rfl, _, fun _ _ _ _ _ => by simp [execOp, resolve, invoke, builtin, Builtin.max_, Builtin.max2, hz, hz2], .int _ _⟩
  · cases he

theorem u8s_spec : ∀ {l : List AV} {s : List UInt8}, u8s l = some s → l = byteCells s
  | [], s, h => by simp only [u8s, Option.some.injEq] at h; subst h; rfl
  | v :: r, s, h => by
    unfold u8s at h
    split at h
    · rename_i e; cases e
    · rename_i n r' e
      cases e
      split at h
      · rename_i hn
        simp only [Option.map_eq_some_iff] at h
        obtain ⟨s', hs', rfl⟩ := h
        rw [u8s_spec hs']
        simp only [byteCells, List.map_cons, List.cons.injEq, AV.int.injEq, true_and, and_true]
        have : (UInt8.ofNat n.toNat).toNat = n.toNat := by rw [UInt8.toNat_ofNat']; omega
        omega
      · cases h
    · cases h

theorem op_tassert (hT : WT g tm a.tmps) (hgl : GlobOK gl g) {t : TypeId} {ok : Bool} {z : AV} {y : Opd} (hc : chkOp P gl op (.tassert t ok z y) = true) (he : evOp mem d (rho tm take) (.tassert t ok z y) = some r) : Plain P g a w mem op r := by
  cases op <;> simp only [chkOp, Bool.false_eq_true] at hc
  rename_i x xt t' ok'
  simp only [Bool.and_eq_true, beq_iff_eq] at hc
  obtain ⟨⟨⟨⟨rfl, rfl⟩, h1⟩, h2⟩, h3⟩ := hc
  have hu : ∃ dd, P.underlying t = some dd ∧ ∀ ms, dd ≠ .interface ms := by
    cases hu : P.underlying t with
    | none => simp [hu] at h2
    | some dd => exact ⟨dd, rfl, fun ms e => by subst e; simp [hu] at h2⟩
  obtain ⟨dd, hu, hni⟩ := hu
  have hz : ok = true → ∃ i zv, P.info? t = some i ∧ i.zero = some zv ∧ constAV zv = some z := by
    intro e
    subst e
    simp only [Bool.not_true, Bool.false_or] at h3
    split at h3
    · rename_i i hi
      split at h3
      · rename_i zv hzv
        exact ⟨i, zv, hi, hzv, by simpa using h3⟩
      · cases h3
    · cases h3
  simp only [evOp] at he
  split at he
  · rename_i u v hv
    have h4 := rv_at hT hgl h1 hv rfl
    generalize hx : a.eval x = xv at h4
    cases h4 with
    | iface _ _ x' hr =>
    split at he
    · rename_i e
      subst e
      cases he
      cases ok with
      | true =>
        refine ⟨rfl, .tuple #[x', .bool true], fun _ _ _ _ _ => ?_, .tup _ _ rfl fun i u x hu' hx' => ?_⟩
        · cases dd <;> first | exact absurd rfl (hni _) | simp [execOp, Instr.typeAssert, hx, run_underlying hu]
        · rcases i with _ | _ | i <;> simp at hu' hx'
          · subst hu'; subst hx'; exact hr
          · subst hu'; subst hx'; exact .bool _
      | false =>
        refine ⟨rfl, x', fun _ _ _ _ _ => ?_, hr⟩
        cases dd <;> first | exact absurd rfl (hni _) | simp [execOp, Instr.typeAssert, hx, run_underlying hu]
    · rename_i hne
      split at he
      · rename_i e
        cases he
        subst e
        obtain ⟨i, zv, hi, hzv, hcz⟩ := hz rfl
        refine ⟨rfl, .tuple #[zv, .bool false], fun _ _ _ _ _ => ?_, .tup _ _ rfl fun i u x hu' hx' => ?_⟩
        · cases dd <;> first | exact absurd rfl (hni _) | simp [execOp, Instr.typeAssert, hx, run_underlying hu, hne, zeroValue, typeInfo, hi, hzv]
        · rcases i with _ | _ | i <;> simp at hu' hx'
          · subst hu'; subst hx'; exact constAV_rv _ hcz
          · subst hu'; subst hx'; exact .bool _
      · cases he
  · rename_i hv
    have h4 := rv_at hT hgl h1 hv rfl
    generalize hx : a.eval x = xv at h4
    cases h4
    split at he
    · rename_i e
      cases he
      subst e
      obtain ⟨i, zv, hi, hzv, hcz⟩ := hz rfl
      refine ⟨rfl, .tuple #[zv, .bool false], fun _ _ _ _ _ => ?_, .tup _ _ rfl fun i u x hu' hx' => ?_⟩
      · cases dd <;> first | exact absurd rfl (hni _) | simp [execOp, Instr.typeAssert, hx, run_underlying hu, zeroValue, typeInfo, hi, hzv]
      · rcases i with _ | _ | i <;> simp at hu' hx'
        · subst hu'; subst hx'; exact constAV_rv _ hcz
        · subst hu'; subst hx'; exact .bool _
    · cases he
  · cases he

end
end Go.VA
