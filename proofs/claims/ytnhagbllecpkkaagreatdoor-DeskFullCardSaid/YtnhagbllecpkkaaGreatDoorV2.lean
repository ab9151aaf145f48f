/-
  The abstract machine: VaOpsE, VaEq, VaOpsF, VaOpsG, VaOpsH, VaOpsI, VaOpsJ, VaOpsL, VaOpsK.
-/
import Derived.Test.YtnhagbllecpkkaaGreatDoorV1
import Derived.Laws.BytesString
set_option linter.unusedSimpArgs false
set_option linter.unusedVariables false
/-
  More operations that leave the memory alone: loads, conversions, slices of slices, aggregates built.
-/
namespace Go.VA
open Go Go.RowKit

section
variable {P : Program} {gl : Globs} {g : G} {tm : List AV} {a : Act} {take : List Nat} {base : Nat} {w0 w : World} {mem : Mem} {d : Nat} {r : AV × Mem} {op : Op}
variable {imm : Addr → Option Value} {map : Nat → Option Obj} {blk : Id → Option Nat}

theorem parts_rel (hT : WT g tm a.tmps) (hgl : GlobOK gl g) {place : Nat → Option (Nat × Nat)} : ∀ {parts : List (Nat × Operand)} {ps : List (Nat × Nat × Opd)}, chkParts P gl place parts ps = true →
    parts.length = ps.length ∧ ∀ (i : Nat) p q, (ps.map fun (o, s, x) => (o, s, (rho tm take x).strip))[i]? = some p → (parts.map fun (i, x) => (i, a.eval x))[i]? = some q →
      place q.1 = some (p.1, p.2.1) ∧ RV g.imm g.map g.blk p.2.2 q.2
  | [], [], _ => ⟨rfl, fun i p q h => by simp at h⟩
  | [], _ :: _, h => by simp [chkParts] at h
  | _ :: _, [], h => by simp [chkParts] at h
  | (i, x) :: l, (o, s, y) :: m, h => by
    simp only [chkParts, Bool.and_eq_true] at h
    obtain ⟨⟨h1, h2⟩, h3⟩ := h
    obtain ⟨h4, h5⟩ := parts_rel hT hgl h3
    refine ⟨by simp [h4], fun j p q hp hq => ?_⟩
    cases j with
    | zero =>
      simp only [List.map_cons, List.length_cons, Nat.zero_lt_succ, List.getElem?_eq_getElem, List.getElem_cons_zero, Option.some.injEq] at hp hq
      subst hp; subst hq
      refine ⟨?_, rv_opd hT hgl h2⟩
      cases hpl : place i with
      | none => simp [hpl] at h1
      | some v => obtain ⟨o', s'⟩ := v; simp [hpl] at h1; simp [h1]
    | succ j => exact h5 j p q (by simpa using hp) (by simpa using hq)

theorem zeroB_spec {t : TypeId} {z : List AV} (h : zeroB P t z = true) : ∃ i zv, P.info? t = some i ∧ i.zero = some zv ∧ RVs imm map blk z zv.cells.toList := by
  unfold zeroB at h
  split at h
  · rename_i i hi
    split at h
    · rename_i zv hz
      exact ⟨i, zv, hi, hz, constAVs_rv _ (by simpa using h)⟩
    · cases h
  · cases h

theorem places_ok : ∀ (fs : List Field), fs.all (fun f => (P.info? f.type).isSome) = true → fs.mapM (fun f => (P.info? f.type).map fun i => (f.offset, i.size)) = some (fs.map fun f => (f.offset, P.cellsOf f.type))
  | [], _ => rfl
  | f :: fs, h => by
    simp only [List.all_cons, Bool.and_eq_true] at h
    obtain ⟨i, hi⟩ := Option.isSome_iff_exists.1 h.1
    simp [List.mapM_cons, hi, places_ok fs h.2, Program.cellsOf]

theorem defd_ne {v : AV} (h : v.defd = true) : v ≠ .undef := by intro e; subst e; cases h

theorem op_build (hT : WT g tm a.tmps) (hgl : GlobOK gl g) {z : List AV} {ps : List (Nat × Nat × Opd)} (hc : chkOp P gl op (.build z ps) = true) (he : evOp mem d (rho tm take) (.build z ps) = some r) : Plain P g a w mem op r := by
  cases op <;> simp only [chkOp, Bool.false_eq_true] at hc
  rename_i t parts
  simp only [Bool.and_eq_true] at hc
  obtain ⟨hz, hp⟩ := hc
  obtain ⟨i, zv, hi, hzv, hzr⟩ := zeroB_spec (imm := g.imm) (map := g.map) (blk := g.blk) hz
  simp only [evOp] at he
  split at he
  case isFalse => cases he
  rename_i hnu
  simp only [Option.map_eq_some_iff] at he
  obtain ⟨c, hcc, rfl⟩ := he
  have strip_ne : ∀ {v : AV}, v ≠ .undef → v.strip ≠ .undef := by
    intro v hv
    cases v <;> first | exact absurd rfl hv | (simp [AV.strip]; done) | (rename_i c; cases c <;> simp [AV.strip])
  have fin : ∀ place, chkParts P gl place parts.toList ps = true → P.built t (parts.map fun (i, x) => (i, a.eval x)).toList = Instr.fill place zv.cells (parts.map fun (i, x) => (i, a.eval x)).toList → Plain P g a w mem (.build t parts) (.agg c, mem) := by
    intro place hpl hb
    obtain ⟨h1, h2⟩ := parts_rel (take := take) hT hgl hpl
    obtain ⟨xs', e1, e2, e3⟩ := fill_rv (imm := g.imm) (map := g.map) (blk := g.blk) place (ps.map fun (o, s, x) => (o, s, (rho tm take x).strip)) (parts.map fun (i, x) => (i, a.eval x)).toList z zv.cells c (by simp [h1])
      (fun j p q hp hq => by
        obtain ⟨k1, k2⟩ := h2 j p q hp (by simpa using hq)
        refine ⟨k1, ?_, k2⟩
        rw [List.getElem?_map, Option.map_eq_some_iff] at hp
        obtain ⟨⟨o, s, x⟩, hx, rfl⟩ := hp
        exact strip_ne (defd_ne (List.all_eq_true.1 hnu _ (List.mem_of_getElem? hx)))) hzr hcc
    refine ⟨rfl, .agg xs', fun _ _ _ _ _ => by simp [execOp, run_build w t (parts.map fun (i, x) => (i, a.eval x)) xs' (hb.trans e1)], .agg _ _ (by have := e2.1; simpa using this) fun i u x hu hx => e2.2 i u x hu (by simpa using hx)⟩
  split at hp
  · rename_i fs hu
    simp only [Bool.and_eq_true] at hp
    refine fin _ hp.2 ?_
    unfold Program.built
    simp only [hi, hu, hzv, places_ok fs.toList hp.1]
    congr 1
    funext k
    simp
  · rename_i n e hu
    simp only [Bool.and_eq_true] at hp
    obtain ⟨j, hj⟩ := Option.isSome_iff_exists.1 hp.1
    refine fin _ hp.2 ?_
    unfold Program.built
    simp only [hi, hu, hzv, hj, Program.cellsOf, Option.map_some, Option.getD_some]
  · cases hp

theorem agg_load {t : TypeId} {n : Nat} {agg : Bool} (h1 : isAggB P t = agg) (h2 : hasU P t = true) (h3 : szB P t n = true) {l : List AV} {b off : Nat} {vs : Nat → Value} (hcell : ∀ j, j < l.length → w.cell? ⟨b, off + j, none⟩ = some (vs j))
    (h : ∀ (j : Nat) u, l[j]? = some u → RV imm map blk u (vs j)) {v : AV} (hv : (if agg then (if n ≤ l.length then some (.agg (l.take n)) else none) else l[0]?) = some v) :
    ∃ x, (Instr.loadAt t (.pointer (some ⟨b, off, none⟩))).run P w = .ok x w ∧ RV imm map blk v x := by
  subst h1
  cases hb : isAggB P t with
  | false =>
    simp only [hb, Bool.false_eq_true, if_false] at hv
    have hlt := (List.getElem?_eq_some_iff.1 hv).1
    refine ⟨vs 0, ?_, h 0 v hv⟩
    simp [Instr.loadAt, Instr.sureAddr, loadVar, isAgg_run h2, hb, load, Sem.run, show w.cell? ⟨b, off, none⟩ = some (vs 0) from hcell 0 hlt]
  | true =>
    simp only [hb, if_true] at hv
    split at hv
    · rename_i hle
      cases hv
      refine ⟨.agg ((List.range n).map vs).toArray, ?_, .agg _ _ (by simp; omega) fun i u x hu hx => ?_⟩
      · have := run_loadCells (P := P) w ⟨b, off, none⟩ n vs (fun j hj => by rw [Addr.add_lit]; exact hcell j (by omega))
        simp [Instr.loadAt, Instr.sureAddr, loadVar, isAgg_run h2, hb, sizeOf_run h3, this]
      · have hin : i < n := by have := (List.getElem?_eq_some_iff.1 hu).1; simp at this; omega
        rw [List.getElem?_take_of_lt hin] at hu
        have : x = vs i := by simpa [hin] using hx.symm
        subst this
        exact h i u hu
    · cases hv

theorem op_load (hT : WT g tm a.tmps) (hgl : GlobOK gl g) (hM : WM base w0 g w mem) {agg : Bool} {n : Nat} {y : Opd} (hc : chkOp P gl op (.load agg false n y) = true) (he : evOp mem d (rho tm take) (.load agg false n y) = some r) : Plain P g a w mem op r := by
  cases op <;> simp only [chkOp, Bool.false_eq_true] at hc
  rename_i t x
  simp only [Bool.and_eq_true, beq_iff_eq] at hc
  obtain ⟨⟨⟨h1, h2⟩, h3⟩, h4⟩ := hc
  simp only [evOp] at he
  have h5 := rv_opd (take := take) hT hgl h4
  generalize hz : a.eval x = z at h5
  split at he
  · rename_i l hl
    rw [hl] at h5
    cases h5 with
    | rptr _ b off vs hp hi h =>
    have key : ∃ v, (if agg then (if n ≤ l.length then some (AV.agg (l.take n)) else none) else l[0]?) = some v ∧ r = (v, mem) := by
      cases agg with
      | true =>
        simp only [if_true] at he ⊢
        split at he
        · rename_i hle; cases he; exact ⟨_, by rw [if_pos hle], rfl⟩
        · cases he
      | false =>
        simp only [Bool.false_eq_true, if_false, Option.map_eq_some_iff] at he ⊢
        obtain ⟨v, hv, rfl⟩ := he
        exact ⟨v, hv, rfl⟩
    obtain ⟨v, hv, rfl⟩ := key
    obtain ⟨xv, hx, hr⟩ := agg_load (P := P) (w := w) h1 h2 h3 (fun j hj => hM.imm _ _ (hi j hj)) h hv
    exact ⟨rfl, xv, fun _ _ _ _ _ => by simp [execOp, hz, hx], hr⟩
  · rename_i i off hl
    rw [hl] at h5
    cases h5 with
    | ptr _ _ b hb =>
    simp only [Option.bind_eq_some_iff] at he
    obtain ⟨c, hget, he⟩ := he
    obtain ⟨k1, k2, c', arr, e, k3, k4, k5, k6⟩ := hM.blk i b hb
    obtain rfl : c = c' := Option.some.inj (hget.symm.trans k3)
    have key : ∃ v, (if agg then (if n ≤ ((c.drop off).map AV.strip).length then some (AV.agg (((c.drop off).map AV.strip).take n)) else none) else ((c.drop off).map AV.strip)[0]?) = some v ∧ r = (v, mem) := by
      cases agg with
      | true =>
        simp only [if_true] at he ⊢
        split at he
        · rename_i hle; cases he; exact ⟨_, by rw [if_pos (by simp; omega)], by rw [List.map_take]⟩
        · cases he
      | false =>
        simp only [Bool.false_eq_true, if_false, Option.map_eq_some_iff] at he ⊢
        obtain ⟨v, hv, rfl⟩ := he
        exact ⟨_, by rw [List.getElem?_map, List.getElem?_drop]; simp [hv], rfl⟩
    obtain ⟨v, hv, rfl⟩ := key
    have hlt : ∀ j, j < ((c.drop off).map AV.strip).length → off + j < arr.size := by intro j hj; simp at hj; omega
    obtain ⟨xv, hx, hr⟩ := agg_load (P := P) (w := w) (b := b) (off := off) (vs := fun j => arr.getD (off + j) undef) h1 h2 h3
      (fun j hj => by simp [World.cell?, k4, Array.getD, hlt j hj])
      (fun j u hu => by
        rw [List.getElem?_map, Option.map_eq_some_iff] at hu
        obtain ⟨u', hu', rfl⟩ := hu
        rw [List.getElem?_drop] at hu'
        have hj : off + j < arr.size := by have := (List.getElem?_eq_some_iff.1 hu').1; omega
        exact (k6 (off + j) u' _ hu' (by simp [Array.getD, hj])).strip) hv
    exact ⟨rfl, xv, fun _ _ _ _ _ => by simp [execOp, hz, hx], hr⟩
  · cases he

theorem convert_int {s t : TypeId} {ds : TypeDesc} {k k0 : IntKind} {n : Int} (hs : P.underlying s = some ds) (ht : P.underlying t = some (.int k)) : (Go.convert s t (.int k0 n)).run P w = .ok (.int k (k.wrap n)) w := by
  simp [Go.convert, run_underlying hs, run_underlying ht, Conv.intToInt]

theorem op_conv (hT : WT g tm a.tmps) (hgl : GlobOK gl g) (hM : WM base w0 g w mem) {c : CKind} {y : Opd} (hc : chkOp P gl op (.conv c y) = true) (he : evOp mem d (rho tm take) (.conv c y) = some r) : Plain P g a w mem op r := by
  cases op <;> simp only [chkOp, Bool.false_eq_true] at hc
  rename_i s t x
  simp only [Bool.and_eq_true] at hc
  obtain ⟨h1, h2⟩ := hc
  simp only [evOp, Option.map_eq_some_iff] at he
  obtain ⟨v, hv, rfl⟩ := he
  have h5 := rv_opd (take := take) hT hgl h1
  generalize hz : a.eval x = z at h5
  unfold VA.conv at hv
  split at hv
  · rename_i k k0 n hx
    cases hv
    rw [hx] at h5
    cases h5
    cases hs : P.underlying s with
    | none => simp [hs] at h2
    | some ds =>
    cases ht : P.underlying t with
    | none => simp [hs, ht] at h2
    | some dt =>
    cases dt <;> first | (simp [hs, ht] at h2; done) | skip
    rename_i k'
    have hk : k = k' := by simpa [hs, ht] using h2
    subst hk
    exact ⟨rfl, .int k (k.wrap n), fun _ _ _ _ _ => by simp [execOp, hz, VA.convert_int hs ht], .int _ _⟩
  · rename_i l hx
    cases hv
    rw [hx] at h5
    cases h5
    cases hs : P.underlying s with
    | none => simp [hs] at h2
    | some ds =>
    cases ht : P.underlying t with
    | none => simp [hs, ht] at h2
    | some dt =>
    cases ds <;> cases dt <;> first | (simp [hs, ht] at h2; done) | skip
    exact ⟨rfl, _, fun _ _ _ _ _ => by simp [execOp, hz, Go.convert, run_underlying hs, run_underlying ht], .str _⟩
  · rename_i l c hx
    split at hv
    · cases hv
    · rename_i hc
      simp only [Option.map_eq_some_iff] at hv
      obtain ⟨s', hs', rfl⟩ := hv
      obtain rfl := u8s_spec hs'
      rw [hx] at h5
      have hstrip : (AV.slc 1 (byteCells s') c).strip = .slc 1 (byteCells s') c := by cases c <;> first | exact absurd rfl hc | rfl
      rw [hstrip] at h5
      cases hs : P.underlying s with
      | none => simp [hs] at h2
      | some ds =>
      cases ht : P.underlying t with
      | none => simp [hs, ht] at h2
      | some dt =>
      cases ds <;> cases dt <;> first | (simp [hs, ht] at h2; done) | skip
      rename_i e
      have hu8 : P.underlying e = some (.int .u8) := by
        simp only [hs, ht] at h2
        split at h2
        · assumption
        · cases h2
      cases h5 with
      | slc _ _ _ b off cap vs hc' hle hx' hp hi h =>
      have hcells : ∀ j, j < (byteCells s').length → w.cell? ((⟨b, off, none⟩ : Addr).add j) = some (Value.int .u8 ((s'.getD j 0).toNat : Int)) := by
        intro j hj
        rw [Addr.add_lit]
        have h1 := hM.imm _ _ (hi j 0 hj (by omega))
        have hj' : j < s'.length := by simpa [byteCells] using hj
        have h2 := h j (.int .u8 ((s'.getD j 0).toNat : Int)) 0 (.int .u8 ((s'.getD j 0).toNat : Int)) (by simp [byteCells, hj', List.getD]) rfl
        generalize vs j 0 = q at h1 h2
        cases h2
        simpa using h1
      have hl := run_loadCells (P := P) w ⟨b, off, none⟩ (byteCells s').length _ hcells
      have hmap : (List.map (fun j => Value.int .u8 ((s'.getD j 0).toNat : Int)) (List.range (byteCells s').length)) = (s'.map fun q => (q.toNat : Int)).map (Value.int .u8) := by
        apply List.ext_getElem?
        intro j
        by_cases hj : j < s'.length
        · simp [byteCells, hj, List.getD]
        · simp [byteCells, hj]
      rw [hmap] at hl
      have hfold : ∀ (l : List UInt8) (acc : ByteArray), (l.map fun q => (q.toNat : Int)).foldl (fun r n => r.push (UInt8.ofNat n.toNat)) acc = ⟨acc.data ++ l.toArray⟩ := by
        intro l
        induction l with
        | nil => intro acc; simp
        | cons q l ih =>
          intro acc
          simp only [List.map_cons, List.foldl_cons, ih]
          congr 1
          simp [ByteArray.push]
      refine ⟨rfl, .string ⟨s'.toArray⟩, fun _ _ _ _ _ => ?_, .str _⟩
      simp only [execOp, hz, Sem.run_bind, run_convert_bytes_string w s t e _ _ _ hs hu8 ht, run_bytesToString w _ _ _ _ hl, hfold]
      have h0 : ByteArray.empty.data ++ s'.toArray = s'.toArray := by show #[] ++ _ = _; simp
      simp
  · rename_i hx
    cases hv
    rw [hx] at h5
    cases h5
    cases hs : P.underlying s with
    | none => simp [hs] at h2
    | some ds =>
    cases ht : P.underlying t with
    | none => simp [hs, ht] at h2
    | some dt =>
    cases ds <;> cases dt <;> first | (simp [hs, ht] at h2; done) | skip
    rename_i e
    have hu8 : P.underlying e = some (.int .u8) := by
      simp only [hs, ht] at h2
      split at h2
      · assumption
      · cases h2
    refine ⟨rfl, .string ⟨#[]⟩, fun _ _ _ _ _ => ?_, .str []⟩
    have h0 : (ByteArray.mk #[]) = ByteArray.empty := rfl
    rw [h0]
    simp [execOp, hz, run_convert_bytes_string w s t e _ _ _ hs hu8 ht, Go.Conv.bytesToString]
  · cases hv

def rvO (g : G) : Option AV → Option Value → Prop
  | none, none => True
  | some v, some x => RV g.imm g.map g.blk v x
  | _, _ => False

theorem rv_opdO (hT : WT g tm a.tmps) (hgl : GlobOK gl g) {x : Option Operand} {y : Option Opd} (h : chkOpdO gl x y = true) : rvO g ((y.map (rho tm take)).map AV.strip) (x.map a.eval) := by
  cases x <;> cases y <;> simp only [chkOpdO, Bool.false_eq_true] at h
  · trivial
  · exact rv_opd hT hgl h

theorem strip_int {v : AV} {k : IntKind} {n : Int} (h : v.strip = .int k n) : v = .int k n := by
  cases v <;> first | exact h | (rename_i c; cases c <;> simp [AV.strip] at h)

/-- What 'bounds' says of the machine's bounds: the greatest one may be more than is known. -/
theorem bounds_run {g : G} {len cap' cap : Nat} {hasCap : Bool} {lo hi mx : Option AV} {xl xh xm : Option Value} {l h m : Nat} (hb : bounds len cap' hasCap lo hi mx = some (l, h, m)) (hlen : len ≤ cap') (hcap : cap' ≤ cap)
    (h1 : rvO g (lo.map AV.strip) xl) (h2 : rvO g (hi.map AV.strip) xh) (h3 : rvO g (mx.map AV.strip) xm) (isS : Bool) (w : World) :
    l ≤ h ∧ h ≤ m ∧ m ≤ cap' ∧ (mx = none → m = cap') ∧ (hasCap = false → mx = none) ∧
    (Instr.sliceBounds isS len cap xl xh xm).run P w = .ok (l, h, if mx = none then cap else m) w := by
  have int : ∀ {v x k n}, v = AV.int k n → RV g.imm g.map g.blk v.strip x → x = .int k n := by
    intro v x k n e hr
    subst e
    cases hr
    rfl
  unfold bounds at hb
  split at hb
  · cases hb
    cases xl <;> first | exact h1.elim | skip
    cases xh <;> first | exact h2.elim | skip
    cases xm <;> first | exact h3.elim | skip
    exact ⟨by omega, by omega, by omega, fun _ => rfl, fun _ => rfl, by simp [Instr.sliceBounds]⟩
  · rename_i k n
    split at hb
    · rename_i hn
      cases hb
      cases xl <;> first | exact h1.elim | skip
      cases xh <;> first | exact h2.elim | skip
      cases xm <;> first | exact h3.elim | skip
      rename_i xl
      obtain rfl := int rfl h1
      exact ⟨by omega, by omega, by omega, fun _ => rfl, fun _ => rfl, by simp [Instr.sliceBounds, run_sliceBound w _ _ _ _ hn.1 hn.2]⟩
    · cases hb
  · rename_i k n
    split at hb
    · rename_i hn
      cases hb
      cases xl <;> first | exact h1.elim | skip
      cases xh <;> first | exact h2.elim | skip
      cases xm <;> first | exact h3.elim | skip
      rename_i xh
      obtain rfl := int rfl h2
      have hn2 : n ≤ (cap : Int) := by omega
      exact ⟨by omega, by omega, by omega, fun _ => rfl, fun _ => rfl, by simp [Instr.sliceBounds, run_sliceBound w _ _ _ _ hn.1 hn2]⟩
    · cases hb
  · rename_i k n k' n'
    split at hb
    · rename_i hn
      cases hb
      cases xl <;> first | exact h1.elim | skip
      cases xh <;> first | exact h2.elim | skip
      cases xm <;> first | exact h3.elim | skip
      rename_i xl xh
      obtain rfl := int rfl h2
      obtain rfl := int rfl h1
      have hn2 : n ≤ (cap : Int) := by omega
      have hn0 : 0 ≤ n := by omega
      have hn3 : n' ≤ (n.toNat : Int) := by omega
      exact ⟨by omega, by omega, by omega, fun _ => rfl, fun _ => rfl, by simp [Instr.sliceBounds, run_sliceBound w _ _ _ _ hn0 hn2, run_sliceBound w _ _ _ _ hn.1 hn3]⟩
    · cases hb
  · rename_i k n k' n'
    split at hb
    · rename_i hn
      cases hb
      cases xl <;> first | exact h1.elim | skip
      cases xh <;> first | exact h2.elim | skip
      cases xm <;> first | exact h3.elim | skip
      rename_i xh xm
      obtain rfl := int rfl h2
      obtain rfl := int rfl h3
      have hn2 : n ≤ (cap : Int) := by omega
      have hn0 : 0 ≤ n := by omega
      have hn3 : n' ≤ (n.toNat : Int) := by omega
      exact ⟨by omega, by omega, by omega, (fun e => by cases e), (fun e => by simp [e] at hn), by simp [Instr.sliceBounds, run_sliceBound w _ _ _ _ hn0 hn2, run_sliceBound w _ _ _ _ hn.2.1 hn3]⟩
    · cases hb
  · rename_i k n k' n' k2 n2
    split at hb
    · rename_i hn
      cases hb
      cases xl <;> first | exact h1.elim | skip
      cases xh <;> first | exact h2.elim | skip
      cases xm <;> first | exact h3.elim | skip
      rename_i xl xh xm
      obtain rfl := int rfl h1
      obtain rfl := int rfl h2
      obtain rfl := int rfl h3
      have hn2 : n ≤ (cap : Int) := by omega
      have hn0 : 0 ≤ n := by omega
      have hn1 : 0 ≤ n' := by omega
      have hn3 : n' ≤ (n.toNat : Int) := by omega
      have hn4 : n2 ≤ (n'.toNat : Int) := by omega
      exact ⟨by omega, by omega, by omega, (fun e => by cases e), (fun e => by simp [e] at hn),
        by simp [Instr.sliceBounds, run_sliceBound w _ _ _ _ hn0 hn2, run_sliceBound w _ _ _ _ hn1 hn3, run_sliceBound w _ _ _ _ hn.2.1 hn4]⟩
    · cases hb
  · cases hb

theorem slc_sub {sz : Nat} {l : List AV} {c c' : Cap} {b off cap : Nat} (h : RV imm map blk (.slc sz l c) (.slice (some ⟨b, off, none⟩) l.length cap)) {lo hi cap2 : Nat} (h1 : lo ≤ hi) (h2 : hi ≤ l.length) (hc : c' ≠ .own)
    (hle : hi - lo ≤ cap2) (hx : c' = .exact → cap2 = hi - lo) (ad : Nat) (had : lo < hi → ad = off + lo * sz) :
    RV imm map blk (.slc sz ((l.take hi).drop lo) c') (.slice (some ⟨b, ad, none⟩) (hi - lo) cap2) := by
  cases h with
  | slc _ _ _ _ _ _ vs hc' hle' hx' hp hi' h' =>
  have hlen : ((l.take hi).drop lo).length = hi - lo := by simp; omega
  have key : ∀ (i : Nat) v, ((l.take hi).drop lo)[i]? = some v → l[lo + i]? = some v ∧ i < hi - lo := by
    intro i v hv
    have hlt : i < hi - lo := by have := (List.getElem?_eq_some_iff.1 hv).1; omega
    rw [List.getElem?_drop, List.getElem?_take_of_lt (by omega)] at hv
    exact ⟨hv, hlt⟩
  rw [← hlen]
  refine .slc sz _ c' b ad cap2 (fun i j => vs (lo + i) j) hc (by omega) (fun e => by rw [hlen]; exact hx e) (fun v hv => hp v ?_) (fun i j hi2 hj => ?_) (fun i v j u hv hu => ?_)
  · exact List.mem_of_mem_take (List.mem_of_mem_drop hv)
  · rw [had (by omega), Nat.add_assoc, show lo * sz + (i * sz + j) = (lo + i) * sz + j by rw [Nat.add_mul]; omega]
    exact hi' (lo + i) j (by omega) hj
  · exact h' (lo + i) v j u (key i v hv).1 hu

theorem op_slice (hT : WT g tm a.tmps) (hgl : GlobOK gl g) {k : SKind} {y : Opd} {lo hi mx : Option Opd} (hc : chkOp P gl op (.slice k y lo hi mx) = true) (he : evOp mem d (rho tm take) (.slice k y lo hi mx) = some r) : Plain P g a w mem op r := by
  cases op <;> simp only [chkOp, Bool.false_eq_true] at hc
  rename_i t x lo' hi' mx'
  simp only [Bool.and_eq_true] at hc
  obtain ⟨⟨⟨⟨h1, h2⟩, h3⟩, h4⟩, h5⟩ := hc
  simp only [evOp, Option.map_eq_some_iff] at he
  obtain ⟨v, hv, rfl⟩ := he
  have k1 := rv_opd (take := take) hT hgl h1
  have k2 := rv_opdO (take := take) hT hgl h2
  have k3 := rv_opdO (take := take) hT hgl h3
  have k4 := rv_opdO (take := take) hT hgl h4
  generalize hz : a.eval x = z at k1
  have exec : ∀ dst ty pos after guard res, (Instr.sliceAt t z (lo'.map a.eval) (hi'.map a.eval) (mx'.map a.eval)).run P w = .ok res w →
      (execOp a.eval ⟨dst, .slice t x lo' hi' mx', ty, pos, after, guard⟩).run P w = .ok (.value res) w := by
    intro _ _ _ _ _ res hr
    simp [execOp, hz, hr]
  cases k with
  | str =>
    have hu : P.underlying t = some .string := by
      cases hu : P.underlying t with
      | none => simp [hu] at h5
      | some dd => cases dd <;> first | rfl | simp [hu] at h5
    generalize hq : (rho tm take y).strip = q at hv k1
    cases q <;> first | (simp [VA.slice] at hv; done) | skip
    rename_i s
    cases k1
    simp only [VA.slice, Option.map_eq_some_iff] at hv
    obtain ⟨⟨l, h, m⟩, hb, rfl⟩ := hv
    obtain ⟨b1, b2, b3, b4, b5, hrun⟩ := bounds_run (P := P) hb (Nat.le_refl _) (Nat.le_refl _) k2 k3 k4 false w
    have hmx : mx' = none := by
      have := b5 rfl
      cases mx <;> simp at this
      cases mx' <;> simp [chkOpdO] at h4
      rfl
    subst hmx
    have hmx2 : mx = none := by cases mx <;> simp [chkOpdO] at h4; rfl
    subst hmx2
    refine ⟨rfl, .string ⟨((s.take h).drop l).toArray⟩, fun _ _ _ _ _ => exec _ _ _ _ _ _ ?_, .str _⟩
    have hext : (ByteArray.mk s.toArray).extract l h = ⟨((s.take h).drop l).toArray⟩ := by
      apply ByteArray.ext
      rw [ByteArray.data_extract]
      simp [List.drop_take]
    simp only [Option.map_none] at hrun ⊢
    simp only [Instr.sliceAt, Instr.slice, Sem.run_bind, run_underlying hu, Result.andThen_ok]
    have hsz : (ByteArray.mk s.toArray).size = s.length := by simp [ByteArray.size]
    simp [hsz, hrun, hext]
  | slc sz =>
    obtain ⟨e, hu, hsz⟩ : ∃ e, P.underlying t = some (.slice e) ∧ szB P e sz = true := by
      cases hu : P.underlying t with
      | none => simp [hu] at h5
      | some dd => cases dd <;> first | exact ⟨_, rfl, by simpa [hu] using h5⟩ | simp [hu] at h5
    generalize hq : (rho tm take y).strip = q at hv k1
    cases q <;> first | (simp [VA.slice] at hv; done) | skip
    · -- nils
      cases k1
      simp only [VA.slice, Option.map_eq_some_iff] at hv
      obtain ⟨⟨l, h, m⟩, hb, rfl⟩ := hv
      obtain ⟨b1, b2, b3, b4, b5, hrun⟩ := bounds_run (P := P) hb (Nat.le_refl _) (Nat.le_refl _) k2 k3 k4 true w
      have hm : m = 0 := by omega
      have hl : l = 0 := by omega
      have hh : h = 0 := by omega
      subst hm; subst hl; subst hh
      refine ⟨rfl, .slice none 0 0, fun _ _ _ _ _ => exec _ _ _ _ _ _ ?_, .nils⟩
      simp [Instr.sliceAt, Instr.slice, run_underlying hu, hrun, sizeOf_run hsz]
    · -- slc
      rename_i sz' l c
      simp only [VA.slice] at hv
      split at hv
      · rename_i e'
        subst e'
        simp only [Option.map_eq_some_iff] at hv
        obtain ⟨⟨lo2, h, m⟩, hb, rfl⟩ := hv
        have k1' := k1
        cases k1 with
        | slc _ _ _ b off cap vs hc' hle hx hp hi2 h' =>
        obtain ⟨b1, b2, b3, b4, b5, hrun⟩ := bounds_run (P := P) hb (Nat.le_refl _) hle k2 k3 k4 true w
        generalize hM' : (if Option.map (rho tm take) mx = none then cap else m) = M at hrun
        have hMh : h ≤ M := by rw [← hM']; split <;> omega
        refine ⟨rfl, .slice (some (if M = lo2 then ⟨b, off, none⟩ else ⟨b, off + lo2 * sz, none⟩)) (h - lo2) (M - lo2), fun _ _ _ _ _ => exec _ _ _ _ _ _ ?_, ?_⟩
        · simp [Instr.sliceAt, Instr.slice, run_underlying hu, hrun, sizeOf_run hsz, Addr.add_lit]
          split <;> rfl
        · have fin : ∀ c', c' ≠ .own → (c' = .exact → M - lo2 = h - lo2) → RV g.imm g.map g.blk (.slc sz ((l.take h).drop lo2) c')
              (.slice (some (if M = lo2 then ⟨b, off, none⟩ else ⟨b, off + lo2 * sz, none⟩)) (h - lo2) (M - lo2)) := by
            intro c' h1 h2
            split
            · exact slc_sub k1' b1 (by omega) h1 (by omega) h2 _ (by omega)
            · exact slc_sub k1' b1 (by omega) h1 (by omega) h2 _ (fun _ => rfl)
          split
          · rename_i hcond
            refine fin .exact (by simp) (fun _ => ?_)
            simp only [Bool.and_eq_true, beq_iff_eq] at hcond
            rw [← hM', if_neg (by intro e; simp [e] at hcond)]
            omega
          · split
            · rename_i hcond
              refine fin .exact (by simp) (fun _ => ?_)
              obtain ⟨e1, e2⟩ := hcond
              have := hx e1
              rw [← hM']
              split
              · omega
              · omega
            · exact fin .unk (by simp) (fun e => by cases e)
      · cases hv
    · -- mslc
      rename_i i sz' off len
      simp only [VA.slice] at hv
      split at hv
      · rename_i e'
        subst e'
        simp only [Option.map_eq_some_iff] at hv
        obtain ⟨⟨lo2, h, m⟩, hb, rfl⟩ := hv
        cases k1 with
        | mslc _ _ _ _ b cap o hbk hcap ho =>
        obtain ⟨b1, b2, b3, b4, b5, hrun⟩ := bounds_run (P := P) hb (Nat.le_refl _) hcap k2 k3 k4 true w
        generalize hM' : (if Option.map (rho tm take) mx = none then cap else m) = M at hrun
        have hMh : h ≤ M := by rw [← hM']; split <;> omega
        refine ⟨rfl, .slice (some (if M = lo2 then ⟨b, o, none⟩ else ⟨b, o + lo2 * sz, none⟩)) (h - lo2) (M - lo2), fun _ _ _ _ _ => exec _ _ _ _ _ _ ?_, ?_⟩
        · simp [Instr.sliceAt, Instr.slice, run_underlying hu, hrun, sizeOf_run hsz, Addr.add_lit]
          split <;> rfl
        · split
          · exact .mslc i sz _ _ b _ _ hbk (by omega) (by omega)
          · exact .mslc i sz _ _ b _ _ hbk (by omega) (fun hlt => by rw [ho (by omega)])
      · cases hv
  | arr len sz =>
    obtain ⟨e, hu, hsz⟩ : ∃ e, P.underlying t = some (.array len e) ∧ szB P e sz = true := by
      cases hu : P.underlying t with
      | none => simp [hu] at h5
      | some dd =>
        cases dd <;> first | (simp [hu] at h5; done) | skip
        rename_i n e
        simp only [hu, Bool.and_eq_true, beq_iff_eq] at h5
        exact ⟨e, by rw [h5.1], h5.2⟩
    generalize hq : (rho tm take y).strip = q at hv k1
    cases q <;> first | (simp [VA.slice] at hv; done) | skip
    rename_i i off
    cases k1 with
    | ptr _ _ b hbk =>
    simp only [VA.slice, Option.map_eq_some_iff] at hv
    obtain ⟨⟨lo2, h, m⟩, hb, rfl⟩ := hv
    obtain ⟨b1, b2, b3, b4, b5, hrun⟩ := bounds_run (P := P) hb (Nat.le_refl _) (Nat.le_refl _) k2 k3 k4 false w
    generalize hM' : (if Option.map (rho tm take) mx = none then len else m) = M at hrun
    have hMh : h ≤ M := by rw [← hM']; split <;> omega
    refine ⟨rfl, .slice (some (if M = lo2 then ⟨b, off, none⟩ else ⟨b, off + lo2 * sz, none⟩)) (h - lo2) (M - lo2), fun _ _ _ _ _ => exec _ _ _ _ _ _ ?_, ?_⟩
    · simp [Instr.sliceAt, Instr.sureAddr, run_underlying hu, hrun, sizeOf_run hsz, Addr.add_lit]
    · split
      · exact .mslc i sz _ _ b _ _ hbk (by omega) (by omega)
      · exact .mslc i sz _ _ b _ _ hbk (by omega) (fun _ => rfl)

end
end Go.VA

/-
  '==' on structs of plain comparable cells.
-/
namespace Go.VA
open Go Go.RowKit

def vflat : List LK → List Value → List Value → Option Bool
  | [], _, _ => some true
  | .i :: ks, .int k a :: l, .int k' b :: m => if k = k' then (vflat ks l m).map ((a == b) && ·) else none
  | .s :: ks, .string a :: l, .string b :: m => (vflat ks l m).map ((a.toList == b.toList) && ·)
  | .b :: ks, .bool a :: l, .bool b :: m => (vflat ks l m).map ((a == b) && ·)
  | _, _, _ => none

theorem vflat_take : ∀ (ks : List LK) (n : Nat) (l m : List Value), ks.length ≤ n → vflat ks (l.take n) (m.take n) = vflat ks l m
  | [], _, _, _, _ => by simp [vflat]
  | k :: ks, 0, _, _, h => by simp at h
  | k :: ks, n + 1, l, m, h => by
    have ih := vflat_take ks n
    cases l with
    | nil => cases k <;> simp [vflat]
    | cons x l =>
      cases m with
      | nil => cases k <;> simp [vflat]
      | cons y m =>
        simp only [List.take_succ_cons]
        have ih := ih l m (by simpa using h)
        cases k <;> cases x <;> first | (simp [vflat]; done) | skip
        all_goals cases y <;> first | (simp [vflat]; done) | (simp only [vflat, ih])

theorem vflat_append : ∀ (k1 k2 : List LK) (l m : List Value) (b : Bool), vflat (k1 ++ k2) l m = some b → ∃ b1 b2, vflat k1 l m = some b1 ∧ vflat k2 (l.drop k1.length) (m.drop k1.length) = some b2 ∧ b = (b1 && b2)
  | [], k2, l, m, b, h => ⟨true, b, by simp [vflat], by simpa using h, by simp⟩
  | k :: ks, k2, l, m, b, h => by
    cases l with
    | nil => cases k <;> simp [vflat] at h
    | cons x l =>
      cases m with
      | nil => cases k <;> simp [vflat] at h
      | cons y m =>
        have ih := vflat_append ks k2 l m
        cases k <;> cases x <;> first | (simp [vflat] at h; done) | skip
        all_goals cases y <;> first | (simp [vflat] at h; done) | skip
        all_goals
          simp only [List.cons_append, vflat] at h ⊢
          first
            | (split at h
               · rename_i hk
                 simp only [Option.map_eq_some_iff] at h
                 obtain ⟨b', hb', rfl⟩ := h
                 obtain ⟨b1, b2, e1, e2, rfl⟩ := ih b' hb'
                 exact ⟨_, b2, by rw [if_pos hk, e1]; rfl, by simpa using e2, by simp [Bool.and_assoc]⟩
               · cases h)
            | (simp only [Option.map_eq_some_iff] at h
               obtain ⟨b', hb', rfl⟩ := h
               obtain ⟨b1, b2, e1, e2, rfl⟩ := ih b' hb'
               exact ⟨_, b2, by rw [e1]; rfl, by simpa using e2, by simp [Bool.and_assoc]⟩)

section
variable {P : Program} {imm : Addr → Option Value} {map : Nat → Option Obj} {blk : Id → Option Nat}

theorem flat_v : ∀ (ks : List LK) (l m : List AV) (xs ys : List Value) (b : Bool), flatEq ks l m = some b → RVs imm map blk l xs → RVs imm map blk m ys → vflat ks xs ys = some b
  | [], _, _, _, _, b, h, _, _ => by simpa [flatEq, vflat] using h
  | k :: ks, l, m, xs, ys, b, h, h1, h2 => by
    cases l with
    | nil => cases k <;> simp [flatEq] at h
    | cons u l =>
      cases m with
      | nil => cases k <;> simp [flatEq] at h
      | cons v m =>
        cases xs with
        | nil => have := h1.1; simp at this
        | cons x xs =>
          cases ys with
          | nil => have := h2.1; simp at this
          | cons y ys =>
            have r1 := h1.2 0 u x rfl rfl
            have r2 := h2.2 0 v y rfl rfl
            have h1' : RVs imm map blk l xs := ⟨by simpa using h1.1, fun i u x hu hx => h1.2 (i + 1) u x (by simpa using hu) (by simpa using hx)⟩
            have h2' : RVs imm map blk m ys := ⟨by simpa using h2.1, fun i u x hu hx => h2.2 (i + 1) u x (by simpa using hu) (by simpa using hx)⟩
            have ih := fun b h => flat_v ks l m xs ys b h h1' h2'
            cases k <;> cases u <;> first | (simp [flatEq] at h; done) | skip
            all_goals cases v <;> first | (simp [flatEq] at h; done) | skip
            all_goals
              cases r1; cases r2
              simp only [flatEq] at h
              simp only [vflat, bytes_toList]
              first
                | (split at h
                   · rename_i hk
                     simp only [Option.map_eq_some_iff] at h
                     obtain ⟨b', hb', rfl⟩ := h
                     rw [if_pos hk, ih b' hb']
                     rfl
                   · cases h)
                | (simp only [Option.map_eq_some_iff] at h
                   obtain ⟨b', hb', rfl⟩ := h
                   rw [ih b' hb']
                   rfl)

/-- The statement for a type at a place of a row. -/
def EqAt (P : Program) (d : Nat) (t : TypeId) (ks : List LK) : Prop := ∀ (w : World) (xs ys : Array Value) (off : Nat) (b : Bool), vflat ks (xs.toList.drop off) (ys.toList.drop off) = some b →
  ∃ x y, (Go.part t xs off).run P w = .ok x w ∧ (Go.part t ys off).run P w = .ok y w ∧ (Op.equalIn d t x y).run P w = .ok b w

theorem eqFields_flat {d : Nat} {rec : TypeId → Option (List LK)} (hrec : ∀ t ks, rec t = some ks → szB P t ks.length = true → EqAt P d t ks) : ∀ (fs : List Field) (o : Nat) (ks : List LK), leafsF P rec fs o = some ks →
    ∀ (w : World) (xs ys : Array Value) (b : Bool), vflat ks (xs.toList.drop o) (ys.toList.drop o) = some b → (Op.eqFields d xs ys fs).run P w = .ok b w
  | [], o, ks, h, w, xs, ys, b, hb => by
    simp only [leafsF, Option.some.injEq] at h
    subst h
    simp only [vflat, Option.some.injEq] at hb
    subst hb
    simp [Op.eqFields]
  | f :: fs, o, ks, h, w, xs, ys, b, hb => by
    simp only [leafsF, Option.bind_eq_some_iff] at h
    obtain ⟨k1, hk1, h⟩ := h
    split at h
    · rename_i hc
      simp only [Bool.and_eq_true, bne_iff_ne, beq_iff_eq] at hc
      obtain ⟨⟨hn, ho⟩, hsz⟩ := hc
      simp only [Option.map_eq_some_iff] at h
      obtain ⟨k2, hk2, rfl⟩ := h
      obtain ⟨b1, b2, e1, e2, rfl⟩ := vflat_append k1 k2 _ _ _ hb
      subst ho
      obtain ⟨x, y, p1, p2, p3⟩ := hrec f.type k1 hk1 hsz w xs ys f.offset b1 e1
      have ih := eqFields_flat hrec fs (f.offset + k1.length) k2 hk2 w xs ys b2 (by simpa [List.drop_drop] using e2)
      simp only [Op.eqFields, if_pos hn, Sem.run_bind, p1, p2, p3, Result.andThen_ok]
      cases b1
      · simp
      · simpa using ih
    · cases h

theorem eqAt_leaf {d : Nat} {t : TypeId} (hna : isAggB P t = false) (hu : hasU P t = true) {ks : List LK} {k : LK} (hk : ks = [k])
    (h : ∀ (w : World) x y (b : Bool), vflat [k] [x] [y] = some b → (Op.equalIn d t x y).run P w = .ok b w) : EqAt P d t ks := by
  subst hk
  intro w xs ys off b hb
  have hx : ∃ x l, xs.toList.drop off = x :: l := by
    cases hl : xs.toList.drop off with
    | nil => rw [hl] at hb; cases k <;> simp [vflat] at hb
    | cons x l => exact ⟨x, l, rfl⟩
  have hy : ∃ x l, ys.toList.drop off = x :: l := by
    cases hl : ys.toList.drop off with
    | nil => rw [hl] at hb; obtain ⟨x, l, e⟩ := hx; rw [e] at hb; cases k <;> simp [vflat] at hb
    | cons x l => exact ⟨x, l, rfl⟩
  obtain ⟨x, l, ex⟩ := hx
  obtain ⟨y, m, ey⟩ := hy
  have gx : xs[off]? = some x := by
    have := List.getElem?_drop (xs := xs.toList) (i := off) (j := 0)
    rw [ex] at this
    simpa using this.symm
  have gy : ys[off]? = some y := by
    have := List.getElem?_drop (xs := ys.toList) (i := off) (j := 0)
    rw [ey] at this
    simpa using this.symm
  refine ⟨x, y, by simp [Go.part, isAgg_run hu, hna, gx], by simp [Go.part, isAgg_run hu, hna, gy], h w x y b ?_⟩
  rw [ex, ey] at hb
  have := vflat_take [k] 1 (x :: l) (y :: m) (by simp)
  rw [hb] at this
  simpa using this

theorem leafs_eq : ∀ (d : Nat) (t : TypeId) (ks : List LK), leafs P d t = some ks → szB P t ks.length = true → EqAt P d t ks
  | 0, _, _, h, _ => by simp [leafs] at h
  | d + 1, t, ks, h, hsz => by
    simp only [leafs] at h
    split at h
    · rename_i hu
      refine eqAt_leaf (by simp [isAggB, hu]) (by simp [hasU, hu]) (Option.some.inj h).symm fun w x y b hb => ?_
      cases x <;> first | (simp [vflat] at hb; done) | skip
      cases y <;> first | (simp [vflat] at hb; done) | skip
      simp only [vflat, Option.map_some, Bool.and_true, Option.some.injEq] at hb
      subst hb
      simp [Op.equalIn, run_underlying hu]
    · rename_i k hu
      refine eqAt_leaf (by simp [isAggB, hu]) (by simp [hasU, hu]) (Option.some.inj h).symm fun w x y b hb => ?_
      cases x <;> first | (simp [vflat] at hb; done) | skip
      cases y <;> first | (simp [vflat] at hb; done) | skip
      simp only [vflat] at hb
      split at hb
      · rename_i hk
        subst hk
        simp only [Option.map_some, Bool.and_true, Option.some.injEq] at hb
        subst hb
        simp [Op.equalIn, run_underlying hu]
      · cases hb
    · rename_i hu
      refine eqAt_leaf (by simp [isAggB, hu]) (by simp [hasU, hu]) (Option.some.inj h).symm fun w x y b hb => ?_
      cases x <;> first | (simp [vflat] at hb; done) | skip
      cases y <;> first | (simp [vflat] at hb; done) | skip
      simp only [vflat, Option.map_some, Bool.and_true, Option.some.injEq] at hb
      subst hb
      simp [Op.equalIn, run_underlying hu, beq_toListBytes]
    · rename_i fs hu
      split at h
      · cases h
      · rename_i hst
        intro w xs ys off b hb
        have hua : isAggB P t = true := by simp [isAggB, hu]
        have huu : hasU P t = true := by simp [hasU, hu]
        have hf : P.fieldsOf t = fs := by simp [Program.fieldsOf, hu]
        refine ⟨.agg (xs.extract off (off + ks.length)), .agg (ys.extract off (off + ks.length)), by simp [Go.part, isAgg_run huu, hua, sizeOf_run hsz], by simp [Go.part, isAgg_run huu, hua, sizeOf_run hsz], ?_⟩
        rw [run_equalIn_struct w d t _ _ (by rw [hf]; exact hu) (by simpa using hst), hf]
        refine eqFields_flat (fun t ks h hs => leafs_eq d t ks h hs) fs.toList 0 ks h w _ _ b ?_
        have e1 : ∀ zs : Array Value, (zs.extract off (off + ks.length)).toList = (zs.toList.drop off).take ks.length := by
          intro zs
          simp
        simp only [List.drop_zero, e1]
        rw [vflat_take ks ks.length _ _ (Nat.le_refl _)]
        exact hb
    · cases h

theorem op_eq_agg {gl : Globs} {g : G} {tm : List AV} {a : Act} {take : List Nat} {w : World} {mem : Mem} {d : Nat} {r : AV × Mem} {op : Op} (hT : WT g tm a.tmps) (hgl : GlobOK gl g) {ks : List LK} {neg : Bool} {y1 y2 : Opd}
    (hc : chkOp P gl op (.eq (.agg ks) neg y1 y2) = true) (he : evOp mem d (rho tm take) (.eq (.agg ks) neg y1 y2) = some r) : Plain P g a w mem op r := by
  cases op <;> simp only [chkOp, Bool.false_eq_true] at hc
  rename_i b t x1 x2 t2
  simp only [Bool.and_eq_true] at hc
  obtain ⟨⟨⟨h1, h2⟩, h3⟩, h4⟩ := hc
  simp only [evOp, Option.map_eq_some_iff] at he
  obtain ⟨v, hv, rfl⟩ := he
  have h5 := rv_opd (take := take) hT hgl h1
  have h6 := rv_opd (take := take) hT hgl h2
  generalize hz : a.eval x1 = z at h5
  generalize hz2 : a.eval x2 = z2 at h6
  generalize e1 : (rho tm take y1).strip = u1 at hv h5
  generalize e2 : (rho tm take y2).strip = u2 at hv h6
  cases u1 <;> first | (simp [eqv] at hv; done) | skip
  cases u2 <;> first | (simp [eqv] at hv; done) | skip
  have c1 := h5.cells (by simp)
  have c2 := h6.cells (by simp)
  cases h5 with
  | agg l xs hl h5 =>
  cases h6 with
  | agg m ys hm h6 =>
  simp only [eqv] at hv
  have hvf := flat_v ks _ _ _ _ _ hv c1 c2
  simp only [Value.cells] at hvf
  obtain ⟨fs, hu⟩ : ∃ fs, P.underlying t = some (.struct fs) := by
    cases hu : P.underlying t with
    | none => simp [chkEq, hu] at h3
    | some dd => cases dd <;> first | exact ⟨_, rfl⟩ | simp [chkEq, hu] at h3
  simp only [chkEq, hu, Bool.and_eq_true, beq_iff_eq, Bool.not_eq_true'] at h3
  obtain ⟨⟨hlf, hgd⟩, hsz⟩ := h3
  have hrun : ∀ d, (leafs P d t = some ks) → 0 < d → (Op.equalIn d t (.agg xs) (.agg ys)).run P w = .ok v w := by
    intro d hd hpos
    cases d with
    | zero => cases hpos
    | succ d =>
    simp only [leafs, hu] at hd
    split at hd
    · cases hd
    · rename_i hst
      have hf : P.fieldsOf t = fs := by simp [Program.fieldsOf, hu]
      rw [run_equalIn_struct w d t _ _ (by rw [hf]; exact hu) (by simpa using hst), hf]
      exact eqFields_flat (fun t ks h hs => leafs_eq d t ks h hs) fs.toList 0 ks hd w xs ys v (by simpa using hvf)
  have hdeep : ∀ d d' t' ks', leafs P d t' = some ks' → d ≤ d' → leafs P d' t' = some ks' := by
    intro d
    induction d with
    | zero => intro d' t' ks' h; simp [leafs] at h
    | succ d ih =>
      intro d' t' ks' h hle
      cases d' with
      | zero => omega
      | succ d' =>
        simp only [leafs] at h ⊢
        split at h
        · first | exact h | (rename_i hu'; simp only [hu']; exact h)
        · first | exact h | (rename_i hu'; simp only [hu']; exact h)
        · first | exact h | (rename_i hu'; simp only [hu']; exact h)
        · rename_i fs' hu'
          try simp only [hu']
          split at h
          · cases h
          · rename_i hst
            rw [if_neg hst]
            have key : ∀ (fs : List Field) (o : Nat) (ks : List LK), leafsF P (leafs P d) fs o = some ks → leafsF P (leafs P d') fs o = some ks := by
              intro fs
              induction fs with
              | nil => intro o ks h; exact h
              | cons f fs ih2 =>
                intro o ks h
                simp only [leafsF, Option.bind_eq_some_iff] at h ⊢
                obtain ⟨k1, hk1, h⟩ := h
                refine ⟨k1, ih d' _ _ hk1 (by omega), ?_⟩
                split at h
                · rename_i hc
                  rw [if_pos hc]
                  simp only [Option.map_eq_some_iff] at h ⊢
                  obtain ⟨k2, hk2, rfl⟩ := h
                  exact ⟨k2, ih2 _ _ hk2, rfl⟩
                · cases h
            exact key _ _ _ h
        · cases h
  have hq : (Op.equal t (.agg xs) (.agg ys)).run P w = .ok v w := hrun 10000 (hdeep 64 10000 t ks hlf (by omega)) (by omega)
  have hg : ∀ op', (eqGuard op' t x1 x2 (.agg xs) (.agg ys)).run P w = .ok () w := fun op' => run_eqGuard_agg w op' t x1 x2 xs ys hgd
  cases b <;> first | (simp at h4; done) | skip
  · have : neg = false := by simpa using h4
    subst this
    exact ⟨rfl, .bool v, fun _ _ _ _ _ => by simp [execOp, hz, hz2, hg, binOp, hq], by rw [Bool.false_xor]; exact .bool v⟩
  · have : neg = true := by simpa using h4
    subst this
    exact ⟨rfl, .bool (!v), fun _ _ _ _ _ => by simp [execOp, hz, hz2, hg, binOp, hq], by rw [Bool.true_xor]; exact .bool (!v)⟩

end
end Go.VA

/-
  Operations that move a right to append or change the memory.
-/
namespace Go.VA
open Go Go.RowKit

/-- How a later state of affairs stands to an elder one, in the frame whose number is n. -/
structure Ext' (n : Nat) (g g' : G) : Prop where
  imm : ∀ a v, g.imm a = some v → g'.imm a = some v
  map : ∀ r e, g.map r = some e → g'.map r = some e
  blk : ∀ i, i.fr ≠ n → g'.blk i = g.blk i
  own : ∀ b s, g.own b = some (.out, s) → g'.own b = some (.out, s)

theorem Ext'.refl (n : Nat) (g : G) : Ext' n g g := ⟨fun _ _ h => h, fun _ _ h => h, fun _ _ => rfl, fun _ _ h => h⟩
theorem Ext'.trans {n : Nat} {g g' g'' : G} (h : Ext' n g g') (k : Ext' n g' g'') : Ext' n g g'' :=
  ⟨fun a v e => k.imm a v (h.imm a v e), fun r e f => k.map r e (h.map r e f), fun i hi => (k.blk i hi).trans (h.blk i hi), fun b s e => k.own b s (h.own b s e)⟩

/-- What an operation comes to. -/
structure OpOut (P : Program) (base : Nat) (w0 : World) (g : G) (a : Act) (w : World) (mem : Mem) (tm : List AV) (take : List Nat) (op : Op) (st : Bool) (d : Nat) (r : AV × Mem) : Prop where
  out : ∃ x w' g', (∀ dst ty pos after guard, (execOp a.eval ⟨dst, op, ty, pos, after, guard⟩).run P w = .ok (if st then .skip else .value x) w') ∧
    WM base w0 g' w' r.2 ∧ Ext' mem.top g g' ∧ (∀ t, RL g' (.tmp t) (getT (stripAll tm take) t) (a.tmps.getD t undef)) ∧ RL g' (.tmp d) r.1 x ∧ r.2.length = mem.length

section
variable {P : Program} {gl : Globs} {g : G} {tm : List AV} {a : Act} {take : List Nat} {base : Nat} {w0 w : World} {mem : Mem} {d : Nat} {r : AV × Mem} {op : Op}

theorem stripAll_get : ∀ (take : List Nat) (tm : List AV) (t : Nat), getT (stripAll tm take) t = if t ∈ take then (getT tm t).strip else getT tm t
  | [], tm, t => by simp [stripAll]
  | s :: r, tm, t => by
    simp only [stripAll, stripAll_get r]
    have hs : getT (tm.set s (getT tm s).strip) t = if t = s then (getT tm t).strip else getT tm t := by
      unfold getT
      by_cases h : t = s
      · subst h
        rw [if_pos rfl]
        by_cases hl : t < tm.length
        · simp [List.getD, hl]
        · have h1 : ∀ v, (tm.set t v)[t]? = none := fun v => List.getElem?_eq_none (by simp; omega)
          have h2 : tm[t]? = none := List.getElem?_eq_none (by omega)
          simp only [List.getD, h1, h2, Option.getD_none, AV.strip]
      · rw [if_neg h]
        simp [List.getD, List.getElem?_set_ne (fun e => h e.symm)]
    have hss : ∀ v : AV, v.strip.strip = v.strip := by
      intro v
      cases v <;> first | rfl | (rename_i c; cases c <;> rfl)
    rw [hs]
    by_cases h1 : t = s
    · subst h1
      simp [hss]
    · simp [h1]

theorem WT.strip (hT : WT g tm a.tmps) (take : List Nat) (t : Nat) : RL g (.tmp t) (getT (stripAll tm take) t) (a.tmps.getD t undef) := by
  rw [stripAll_get]
  split
  · exact .val (hT.get t).strip
  · exact hT.get t

theorem Plain.out (h : Plain P g a w mem op r) (hT : WT g tm a.tmps) (hM : WM base w0 g w mem) : OpOut P base w0 g a w mem tm take op false d r := by
  obtain ⟨h1, x, h2, h3⟩ := h
  exact ⟨x, w, g, h2, h1 ▸ hM, .refl _ _, hT.strip take, .val h3, by rw [h1]⟩

/-- The value of an operand whose right moves on. -/
theorem rl_opd (hT : WT g tm a.tmps) (hgl : GlobOK gl g) {x : Operand} {y : Opd} (h : chkOpd gl x y = true) :
    RV g.imm g.map g.blk (rho tm take y) (a.eval x) ∨ ∃ t, y = .tmp t ∧ t ∈ take ∧ x = .tmp t ∧ rho tm take y = getT tm t ∧ RL g (.tmp t) (rho tm take y) (a.eval x) := by
  cases y with
  | av v =>
    have := rv_opd (take := take) hT hgl h
    cases x with
    | tmp t => simp [chkOpd] at h
    | const c => exact .inl (constAV_rv c (show constAV c = some v by simpa [chkOpd] using h))
    | global n =>
      cases v with
      | rptr c => exact .inl this
      | _ => simp [chkOpd] at h
    | func f =>
      cases v with
      | fn f' l => exact .inl this
      | _ => simp [chkOpd] at h
  | tmp t =>
    cases x with
    | tmp t' =>
      obtain rfl : t' = t := by simpa [chkOpd] using h
      show RV g.imm g.map g.blk (if t' ∈ take then getT tm t' else (getT tm t').strip) _ ∨ _
      by_cases hm : t' ∈ take
      · have he : rho tm take (.tmp t') = getT tm t' := by simp [rho, hm]
        exact .inr ⟨t', rfl, hm, rfl, he, he ▸ hT.get t'⟩
      · rw [if_neg hm]
        exact .inl (hT.get t').strip
    | _ => simp [chkOpd] at h

theorem strip_strip (v : AV) : v.strip.strip = v.strip := by
  cases v <;> first | rfl | (rename_i c; cases c <;> rfl)

/-- The temporaries behind a right that moved on from a temporary. -/
theorem WT.moved (hT : WT g tm a.tmps) {t : Nat} (ht : t ∈ take) (to : Loc) (s : Nat) : RL (g.move (.tmp t) to) (.tmp s) (getT (stripAll tm take) s) (a.tmps.getD s undef) := by
  by_cases h : s = t
  · subst h
    rw [stripAll_get, if_pos ht]
    exact .val (hT.get s).strip
  · exact (hT.strip take s).stay (by simpa using h)

theorem Ext'.moveTmp (n : Nat) (t : Nat) (to : Loc) : Ext' n g (g.move (.tmp t) to) :=
  ⟨fun _ _ h => h, fun _ _ h => h, fun _ _ => rfl, fun b s h => move_other h (by simp)⟩

theorem op_mv (hT : WT g tm a.tmps) (hgl : GlobOK gl g) (hM : WM base w0 g w mem) {y : Opd} (hc : chkOp P gl op (.mv y) = true) (he : evOp mem d (rho tm take) (.mv y) = some r) : OpOut P base w0 g a w mem tm take op false d r := by
  simp only [evOp, Option.some.injEq] at he
  subst he
  obtain ⟨x, hx, hop⟩ : ∃ x, chkOpd gl x y = true ∧ (op = .move x ∨ op = .assign x) := by
    cases op <;> simp only [chkOp, Bool.false_eq_true] at hc
    · exact ⟨_, hc, .inl rfl⟩
    · exact ⟨_, hc, .inr rfl⟩
  have exec : ∀ dst ty pos after guard, (execOp a.eval ⟨dst, op, ty, pos, after, guard⟩).run P w = .ok (if false then .skip else .value (a.eval x)) w := by
    intro _ _ _ _ _
    rcases hop with rfl | rfl <;> simp [execOp]
  rcases rl_opd (take := take) hT hgl hx with h | ⟨t, rfl, hm, rfl, he, h⟩
  · exact ⟨_, w, g, exec, hM, .refl _ _, hT.strip take, .val h, rfl⟩
  · exact ⟨_, w, g.move (.tmp t) (.tmp d), exec, hM.move (by simp), Ext'.moveTmp _ _ _, hT.moved hm _, h.moved, rfl⟩

theorem newBlk_ext {s : List Nat} (n : Nat) : Ext' mem.top g (g.addBlk ⟨mem.top, s⟩ n) :=
  ⟨fun _ _ h => h, fun _ _ h => h, fun i hi => by show (if i = _ then _ else _) = _; rw [if_neg (by intro e; subst e; exact hi rfl)], fun _ _ h => h⟩

theorem addBlk_mono {i : Id} (hb : g.blk i = none) (n : Nat) : ∀ j b, g.blk j = some b → (g.addBlk i n).blk j = some b := by
  intro j b h
  show (if j = _ then _ else _) = _
  rw [if_neg (by intro e; subst e; rw [hb] at h; cases h)]
  exact h

theorem op_alloc (hT : WT g tm a.tmps) (hM : WM base w0 g w mem) (hd : d < typMark) {z : List AV} (hc : chkOp P gl op (.alloc z) = true) (he : evOp mem d (rho tm take) (.alloc z) = some r) : OpOut P base w0 g a w mem tm take op false d r := by
  cases op <;> simp only [chkOp, Bool.false_eq_true] at hc
  rename_i t
  obtain ⟨i, zv, hi, hzv, hzr⟩ := zeroB_spec (imm := g.imm) (map := g.map) (blk := g.blk) hc
  simp only [evOp, Option.map_eq_some_iff] at he
  obtain ⟨m, hm, rfl⟩ := he
  obtain ⟨h1, h2, h3⟩ := hM.newBlk (e := t) hm hzr ⟨d, rfl, fun ty e => by omega⟩
  refine ⟨.pointer (some ⟨w.heap.size, 0, none⟩), _, _, fun _ _ _ _ _ => ?_, h1, newBlk_ext _, fun s => (hT.strip take s).mono (fun _ _ h => h) (fun _ _ h => h) (addBlk_mono h2 _) (fun _ _ h => h), .val (.ptr _ _ _ ?_), h3⟩
  · simp [execOp, Instr.alloc, zeroValue, typeInfo, hi, hzv, newVar, newRow]
  · show (if _ = _ then _ else _) = _
    rw [if_pos rfl]

theorem op_allocT (hT : WT g tm a.tmps) (hM : WM base w0 g w mem) {ty : TypeId} {z : List AV} (hc : chkOp P gl op (.allocT ty z) = true) (he : evOp mem d (rho tm take) (.allocT ty z) = some r) : OpOut P base w0 g a w mem tm take op false d r := by
  cases op <;> simp only [chkOp, Bool.false_eq_true] at hc
  rename_i t
  simp only [Bool.and_eq_true, beq_iff_eq] at hc
  obtain ⟨rfl, hc⟩ := hc
  obtain ⟨i, zv, hi, hzv, hzr⟩ := zeroB_spec (imm := g.imm) (map := g.map) (blk := g.blk) hc
  simp only [evOp, Option.map_eq_some_iff] at he
  obtain ⟨m, hm, rfl⟩ := he
  obtain ⟨h1, h2, h3⟩ := hM.newBlk (e := t) hm hzr ⟨typMark + t, rfl, fun ty e => Nat.add_left_cancel e⟩
  refine ⟨.pointer (some ⟨w.heap.size, 0, none⟩), _, _, fun _ _ _ _ _ => ?_, h1, newBlk_ext _, fun s => (hT.strip take s).mono (fun _ _ h => h) (fun _ _ h => h) (addBlk_mono h2 _) (fun _ _ h => h), .val (.ptr _ _ _ ?_), h3⟩
  · simp [execOp, Instr.alloc, zeroValue, typeInfo, hi, hzv, newVar, newRow]
  · show (if _ = _ then _ else _) = _
    rw [if_pos rfl]

theorem op_box_imm (hT : WT g tm a.tmps) (hgl : GlobOK gl g) (hM : WM base w0 g w mem) {y : Opd} (hc : chkOp P gl op (.box true y) = true) (he : evOp mem d (rho tm take) (.box true y) = some r) : OpOut P base w0 g a w mem tm take op false d r := by
  cases op <;> simp only [chkOp, Bool.false_eq_true] at hc
  rename_i t x
  simp only [evOp] at he
  split at he
  · rename_i hp
    cases he
    have hr := rv_opd (take := take) hT hgl hc
    have hs : (rho tm take y).strip = rho tm take y := by
      have := hp.1
      generalize rho tm take y = v at this
      cases v <;> first | rfl | (rename_i c; cases c <;> simp [AV.pure] at this <;> rfl)
    rw [hs] at hr
    have hcells := hr.cells (defd_ne hp.2)
    obtain ⟨h1, h2⟩ := hM.newImm (arr := (a.eval x).cells) (e := t)
    refine ⟨.pointer (some ⟨w.heap.size, 0, none⟩), _, _, fun _ _ _ _ _ => ?_, h1, ⟨h2, fun _ _ h => h, fun _ _ => rfl, fun _ _ h => h⟩, fun s => (hT.strip take s).mono h2 (fun _ _ h => h) (fun _ _ h => h) (fun _ _ h => h), .val ?_, rfl⟩
    · simp [execOp, Instr.box, newVar, newRow]
    · refine .rptr _ _ _ (fun j => (a.eval x).cells.getD j undef) (pure_cells hp.1) (fun j hj => ?_) (fun j u hu => ?_)
      · have : j < (a.eval x).cells.size := by have := hcells.1; simp at this; omega
        show (if _ = _ then _ else _) = _
        simp [this, Array.getD]
      · have hj : j < (a.eval x).cells.size := by have k1 := hcells.1; have k2 := (List.getElem?_eq_some_iff.1 hu).1; simp at k1; omega
        exact (hcells.2 j u _ hu (by simp [Array.getD, hj])).mono h2 (fun _ _ h => h) (fun _ _ h => h)
  · cases he

theorem op_box_mut (hT : WT g tm a.tmps) (hgl : GlobOK gl g) (hM : WM base w0 g w mem) (hdt : d < typMark) {y : Opd} (hc : chkOp P gl op (.box false y) = true) (he : evOp mem d (rho tm take) (.box false y) = some r) : OpOut P base w0 g a w mem tm take op false d r := by
  cases op <;> simp only [chkOp, Bool.false_eq_true] at hc
  rename_i t x
  simp only [evOp] at he
  split at he
  · rename_i hp
    simp only [Option.map_eq_some_iff] at he
    obtain ⟨m, hm, rfl⟩ := he
    have hr := rv_opd (take := take) hT hgl hc
    have hd : (rho tm take y).strip ≠ .undef := by
      have := defd_ne hp.2
      generalize rho tm take y = v at this ⊢
      cases v <;> first | exact absurd rfl this | (simp [AV.strip]; done) | (rename_i c; cases c <;> simp [AV.strip])
    have hcells := hr.cells hd
    obtain ⟨h1, h2, h3⟩ := hM.newBlk (arr := (a.eval x).cells) (e := t) hm hcells ⟨d, rfl, fun ty e => by omega⟩
    refine ⟨.pointer (some ⟨w.heap.size, 0, none⟩), _, _, fun _ _ _ _ _ => ?_, h1, newBlk_ext _, fun s => (hT.strip take s).mono (fun _ _ h => h) (fun _ _ h => h) (addBlk_mono h2 _) (fun _ _ h => h), .val (.ptr _ _ _ ?_), h3⟩
    · simp [execOp, Instr.box, newVar, newRow]
    · show (if _ = _ then _ else _) = _
      rw [if_pos rfl]
  · cases he

theorem op_load_take (hT : WT g tm a.tmps) (hgl : GlobOK gl g) (hM : WM base w0 g w mem) {agg : Bool} {n : Nat} {y : Opd} (hc : chkOp P gl op (.load agg true n y) = true) (he : evOp mem d (rho tm take) (.load agg true n y) = some r) :
    OpOut P base w0 g a w mem tm take op false d r := by
  by_cases hpl : ∃ l, rho tm take y = .rptr l ∨ (agg = true)
  · have : evOp mem d (rho tm take) (.load agg false n y) = some r := by
      obtain ⟨l, h | h⟩ := hpl
      · simp only [evOp, h] at he ⊢
        exact he
      · subst h
        simp only [evOp, if_true] at he ⊢
        exact he
    exact (op_load hT hgl hM (by cases op <;> simp only [chkOp, Bool.false_eq_true] at hc ⊢; exact hc) this).out hT hM
  · have hagg : agg = false := by
      cases agg with
      | false => rfl
      | true => exact absurd ⟨[], .inr rfl⟩ hpl
    subst hagg
    cases op <;> simp only [chkOp, Bool.false_eq_true] at hc
    rename_i t x
    simp only [Bool.and_eq_true, beq_iff_eq] at hc
    obtain ⟨⟨⟨h1, h2⟩, h3⟩, h4⟩ := hc
    have h5 := rv_opd (take := take) hT hgl h4
    generalize hz : a.eval x = z at h5
    simp only [evOp] at he
    split at he
    · rename_i l hl
      exact absurd ⟨l, .inl hl⟩ hpl
    · rename_i i off hl
      rw [hl] at h5
      cases h5 with
      | ptr _ _ b hb =>
      simp only [Bool.false_eq_true, if_false, if_true, Option.bind_eq_some_iff, Option.map_eq_some_iff] at he
      obtain ⟨c, hget, v, hv, rfl⟩ := he
      obtain ⟨k1, k2, c', arr, e, k3, k4, k5, k6⟩ := hM.blk i b hb
      obtain rfl : c = c' := Option.some.inj (hget.symm.trans k3)
      have hlt : off < arr.size := by have := (List.getElem?_eq_some_iff.1 hv).1; omega
      have hM2 := hM.stripCell hget hv
      have hl' : ∀ i' j' c2 v2, Loc.cell i off = Loc.cell i' j' → (mem.set i (c.set off v.strip)).get i' = some c2 → c2[j']? = some v2 → v2.strip = v2 := by
        intro i' j' c2 v2 e1 e2 e3
        cases e1
        rw [mset_get, if_pos rfl, hget] at e2
        cases e2
        rw [List.getElem?_set] at e3
        simp at e3
        obtain ⟨_, rfl⟩ := e3
        exact strip_strip _
      refine ⟨arr[off], w, g.move (.cell i off) (.tmp d), fun _ _ _ _ _ => ?_, hM2.move hl', ⟨fun _ _ h => h, fun _ _ h => h, fun _ _ => rfl, fun b s h => move_other h (by simp)⟩,
        fun s => (hT.strip take s).stay (by simp), (k6 off v _ hv (by simp [hlt])).moved, mset_length _ _ _⟩
      simp [execOp, hz, Instr.loadAt, Instr.sureAddr, loadVar, isAgg_run h2, h1, load, Sem.run, World.cell?, k4, hlt]
    · cases he

end
end Go.VA

/-
  Stores, slices made, appends.
-/
namespace Go.VA
open Go Go.RowKit

section
variable {P : Program} {gl : Globs} {g : G} {tm : List AV} {a : Act} {take : List Nat} {base : Nat} {w0 w : World} {mem : Mem} {d : Nat} {r : AV × Mem} {op : Op}
variable {imm imm' : Addr → Option Value} {map : Nat → Option Obj} {blk : Id → Option Nat}

theorem one_cell {u : AV} {x : Value} (h : RV imm map blk u x) (ho : u.one = true) : x.oneCell' = true := by
  cases h <;> first | rfl | (simp [AV.one] at ho; done)

theorem rl_one {l : Loc} {u : AV} {x : Value} (h : RL g l u x) (ho : u.one = true) : x.oneCell' = true := by
  cases h with
  | val h => exact one_cell h ho
  | own => rfl

theorem splice_length {xs ys : List Value} {off : Nat} (h : off + ys.length ≤ xs.length) : (splice xs off ys).length = xs.length := by
  simp [splice]; omega

theorem own_store {v : AV} {x : Value} {l : Loc} (h : RL g l v x) : v.cells = [v] ∧ x.cells = #[x] ∨ RV g.imm g.map g.blk v x := by
  cases h with
  | val h => exact .inr h
  | own sz l b off cap size h h1 h2 => exact .inl ⟨rfl, rfl⟩

theorem op_store (hT : WT g tm a.tmps) (hgl : GlobOK gl g) (hM : WM base w0 g w mem) {n : Nat} {y1 y2 : Opd} (hc : chkOp P gl op (.store n y1 y2) = true) (he : evOp mem d (rho tm take) (.store n y1 y2) = some r) :
    OpOut P base w0 g a w mem tm take op true d r := by
  cases op <;> simp only [chkOp, Bool.false_eq_true] at hc
  rename_i t x1 x2
  simp only [Bool.and_eq_true] at hc
  obtain ⟨⟨h1, h2⟩, h3⟩ := hc
  have k1 := rv_opd (take := take) hT hgl h2
  generalize hz : a.eval x1 = z at k1
  simp only [evOp] at he
  split at he
  · rename_i i off hl
    rw [hl] at k1
    cases k1 with
    | ptr _ _ b hb =>
    simp only [Option.bind_eq_some_iff] at he
    obtain ⟨c, hget, he⟩ := he
    split at he
    · rename_i hcond
      obtain ⟨c1, c2, c3, c4⟩ := hcond
      cases he
      obtain ⟨j1, j2, c', arr, e, j3, j4, j5, j6⟩ := hM.blk i b hb
      obtain rfl : c = c' := Option.some.inj (hget.symm.trans j3)
      -- the world behind the store
      have world : ∀ (vs : List Value), (a.eval x2).cells.toList = vs → vs.length = n → (∀ v ∈ vs, v.oneCell' = true) → ∀ dst ty pos after guard,
          (execOp a.eval ⟨dst, .store t x1 x2, ty, pos, after, guard⟩).run P w = .ok .skip (w.setRow b (splice arr.toList off vs).toArray) := by
        intro vs hvs hn hone _ _ _ _ _
        have hst := run_storeCells_at (P := P) b off e vs 0 arr w j4 (by omega) hone
        simp only [Nat.add_zero] at hst
        have hsz : (a.eval x2).cells.size = n := by rw [← hn, ← hvs]; simp
        simp [execOp, hz, Instr.storeAt, Instr.sureAddr, storeVar, sizeOf_run h1, hsz, hvs, hst, splice]
      have hh := fun vs => setRow_at w b arr (splice arr.toList off vs).toArray e j4
      have hbelow := fun vs => below_setRow (arr := (splice arr.toList off vs).toArray) hM.old j1
      have hsize : ∀ vs, base ≤ (w.setRow b (splice arr.toList off vs).toArray).heap.size := fun vs => by rw [setRow_size]; exact hM.size
      have ovl : (over c off (rho tm take y2).cells).length = c.length := over_length (by omega)
      -- where a cell of the new row comes from
      have cells : ∀ (vs : List Value), vs.length = n → ∀ (j : Nat) v q, (over c off (rho tm take y2).cells)[j]? = some v → (splice arr.toList off vs).toArray[j]? = some q →
          (c[j]? = some v ∧ arr[j]? = some q) ∨ (off ≤ j ∧ (rho tm take y2).cells[j - off]? = some v ∧ vs[j - off]? = some q) := by
        intro vs hvs j v q hv hq
        have hj : j < c.length := by have := (List.getElem?_eq_some_iff.1 hv).1; omega
        simp only [List.getElem?_toArray] at hq
        unfold VA.over at hv
        unfold splice at hq
        rw [c1] at hv
        rw [hvs] at hq
        rw [List.append_assoc] at hv hq
        by_cases p1 : j < off
        · rw [List.getElem?_append_left (by simp; omega), List.getElem?_take_of_lt p1] at hv hq
          exact .inl ⟨hv, by simpa using hq⟩
        · have l1 : (c.take off).length = off := by simp; omega
          have l2 : (arr.toList.take off).length = off := by simp; omega
          rw [List.getElem?_append_right (by omega), l1] at hv
          rw [List.getElem?_append_right (by omega), l2] at hq
          by_cases p2 : j < off + n
          · rw [List.getElem?_append_left (by omega)] at hv hq
            exact .inr ⟨by omega, hv, hq⟩
          · rw [List.getElem?_append_right (by omega), List.getElem?_drop] at hv hq
            rw [c1] at hv
            rw [hvs] at hq
            rw [show off + n + (j - off - n) = j by omega] at hv hq
            exact .inl ⟨hv, by simpa using hq⟩
      rcases rl_opd (take := take) hT hgl h3 with hr | ⟨s, rfl, hm, rfl, heq, hr⟩
      · have hun : rho tm take y2 ≠ .undef := by
          intro e
          rw [e] at c4
          simp [AV.cells, AV.one] at c4
        have hcs := hr.cells hun
        have hlen : (a.eval x2).cells.toList.length = n := by rw [← hcs.1, c1]
        refine ⟨undef, _, g, world _ rfl hlen (fun v hv => ?_), hM.row hb hget j4 (by rw [List.size_toArray, splice_length (by rw [hlen, Array.length_toList]; omega), ovl, Array.length_toList]; exact j5) (hh _) (hbelow _) (hsize _) (fun j v q hv hq => ?_), .refl _ _, hT.strip take, .val (.undef _), mset_length _ _ _⟩
        · obtain ⟨k, hk, rfl⟩ := List.getElem_of_mem hv
          have hk' : k < (rho tm take y2).cells.length := by rw [hcs.1]; exact hk
          exact one_cell (hcs.2 k _ _ (List.getElem?_eq_getElem hk') (List.getElem?_eq_getElem hk)) (List.all_eq_true.1 c4 _ (List.getElem_mem hk'))
        · rcases cells _ hlen j v q hv hq with ⟨e1, e2⟩ | ⟨_, e1, e2⟩
          · exact j6 j v q e1 e2
          · exact .val (hcs.2 _ v q e1 e2)
      · rcases own_store hr with ⟨o1, o2⟩ | hr'
        · have hn1 : n = 1 := by rw [← c1, o1]; rfl
          have hlen : (a.eval (.tmp s)).cells.toList.length = n := by rw [o2, hn1]; rfl
          have hM2 := hM.move (l := .tmp s) (to := .cell i off) (by simp)
          refine ⟨undef, _, g.move (.tmp s) (.cell i off), world _ rfl hlen (fun v hv => ?_), hM2.row hb hget j4 (by rw [List.size_toArray, splice_length (by rw [hlen, Array.length_toList]; omega), ovl, Array.length_toList]; exact j5) (hh _) (hbelow _) (hsize _) (fun j v q hv hq => ?_),
            Ext'.moveTmp _ _ _, hT.moved hm _, .val (.undef _), mset_length _ _ _⟩
          · rw [o2] at hv
            simp at hv
            subst hv
            exact rl_one hr (List.all_eq_true.1 c4 _ (by rw [o1]; simp))
          · rcases cells _ hlen j v q hv hq with ⟨e1, e2⟩ | ⟨e0, e1, e2⟩
            · exact (j6 j v q e1 e2).stay (by simp)
            · rw [o1] at e1
              rw [o2] at e2
              have hj : j - off = 0 := by have := (List.getElem?_eq_some_iff.1 e1).1; simp at this; omega
              rw [hj] at e1 e2
              simp at e1 e2
              subst e1; subst e2
              have : j = off := by omega
              subst this
              exact hr.moved
        · have hun : rho tm take (.tmp s) ≠ .undef := by
            intro e
            rw [e] at c4
            simp [AV.cells, AV.one] at c4
          have hcs := hr'.cells hun
          have hlen : (a.eval (.tmp s)).cells.toList.length = n := by rw [← hcs.1, c1]
          refine ⟨undef, _, g, world _ rfl hlen (fun v hv => ?_), hM.row hb hget j4 (by rw [List.size_toArray, splice_length (by rw [hlen, Array.length_toList]; omega), ovl, Array.length_toList]; exact j5) (hh _) (hbelow _) (hsize _) (fun j v q hv hq => ?_), .refl _ _, hT.strip take, .val (.undef _), mset_length _ _ _⟩
          · obtain ⟨k, hk, rfl⟩ := List.getElem_of_mem hv
            have hk' : k < (rho tm take (.tmp s)).cells.length := by rw [hcs.1]; exact hk
            exact one_cell (hcs.2 k _ _ (List.getElem?_eq_getElem hk') (List.getElem?_eq_getElem hk)) (List.all_eq_true.1 c4 _ (List.getElem_mem hk'))
          · rcases cells _ hlen j v q hv hq with ⟨e1, e2⟩ | ⟨_, e1, e2⟩
            · exact j6 j v q e1 e2
            · exact .val (hcs.2 _ v q e1 e2)
    · cases he
  · cases he

/-- A new block: its first n cells are never written again, the others are room for appends. -/
def G.addPart (g : G) (b : Nat) (arr : Array Value) (n : Nat) (to : Loc) : G :=
  { g with
    imm := fun a => if a.block = b then (if a.spot.isSome then none else if a.off < n then arr[a.off]? else none) else g.imm a
    own := fun k => if k = b then some (to, n, arr.size) else g.own k }

theorem WM.newPart (hM : WM base w0 g w mem) {arr : Array Value} {e : TypeId} (n : Nat) (to : Loc) : WM base w0 (g.addPart w.heap.size arr n to) (w.alloc (.cells arr e)) mem ∧
    (∀ a v, g.imm a = some v → (g.addPart w.heap.size arr n to).imm a = some v) ∧ (∀ b s, g.own b = some s → (g.addPart w.heap.size arr n to).own b = some s) := by
  have hmono : ∀ a v, g.imm a = some v → (g.addPart w.heap.size arr n to).imm a = some v := by
    intro a v h
    have := hM.cell_lt h
    show (if a.block = _ then _ else _) = _
    rw [if_neg (by omega)]
    exact h
  have hlt : ∀ b s, g.own b = some s → b < w.heap.size := by
    intro b s h
    obtain ⟨l, f, s⟩ := s
    obtain ⟨_, ⟨_, _, h2, _⟩, _⟩ := hM.own b l f s h
    exact (Array.getElem?_eq_some_iff.1 h2).1
  have hown : ∀ b s, g.own b = some s → (g.addPart w.heap.size arr n to).own b = some s := by
    intro b s h
    have := hlt b s h
    show (if _ then _ else _) = _
    rw [if_neg (by omega)]
    exact h
  refine ⟨⟨?_, ?_, hM.get, ?_, hM.inj, ?_, ?_, hM.old.alloc hM.size _, by rw [alloc_size]; have := hM.size; omega, fun i b h => by
    obtain ⟨d, h1, h2⟩ := hM.typ i b h
    exact ⟨d, h1, fun ty e' => by
      obtain ⟨arr', k⟩ := h2 ty e'
      have := (Array.getElem?_eq_some_iff.1 k).1
      exact ⟨arr', by rw [alloc_heap, if_neg (by omega)]; exact k⟩⟩⟩, hmono, hown⟩
  · intro a v h
    change (if a.block = _ then _ else _) = _ at h
    split at h
    · rename_i hb
      split at h
      · cases h
      · rename_i hs
        split at h
        · unfold World.cell?
          rw [alloc_heap, if_pos hb]
          simp only [hs]
          exact h
        · cases h
    · rw [alloc_cell w _ a (hM.cell_lt h)]
      exact hM.imm a v h
  · intro r es h
    obtain ⟨h1, cl⟩ := hM.map r es h
    have := (Array.getElem?_eq_some_iff.1 h1).1
    exact ⟨by rw [alloc_heap, if_neg (by omega)]; exact h1, fun hc => ⟨(cl hc).blk, by show (if r = _ then _ else _) = none; rw [if_neg (by omega)]; exact (cl hc).own, fun o sp => by
      show (if r = _ then _ else _) = none
      rw [if_neg (by omega)]
      exact (cl hc).imm o sp⟩⟩
  · intro i b h
    obtain ⟨h1, h2, c', arr', e', h3, h4, h5, h6⟩ := hM.blk i b h
    have := (Array.getElem?_eq_some_iff.1 h4).1
    exact ⟨h1, h2, c', arr', e', h3, by rw [alloc_heap, if_neg (by omega)]; exact h4, h5, fun j v x hv hx => (h6 j v x hv hx).mono hmono (fun _ _ h => h) (fun _ _ h => h) (fun b s h => hown b _ h)⟩
  · intro i b o sp h
    obtain ⟨_, _, _, _, _, _, h4, _⟩ := hM.blk i b h
    have := (Array.getElem?_eq_some_iff.1 h4).1
    show (if b = _ then _ else _) = none
    rw [if_neg (by omega)]
    exact hM.apart i b o sp h
  · intro b l f sz h
    change (if b = _ then _ else _) = _ at h
    split at h
    · rename_i hb
      cases h
      subst hb
      refine ⟨hM.size, ⟨arr, e, by rw [alloc_heap, if_pos rfl], rfl⟩, fun o s ho => ?_, fun i h => ?_⟩
      · show (if _ then _ else _) = none
        rw [if_pos rfl]
        split
        · rfl
        · rw [if_neg (by simp; omega)]
      · obtain ⟨_, _, _, _, _, _, h4, _⟩ := hM.blk i _ h
        have := (Array.getElem?_eq_some_iff.1 h4).1
        omega
    · obtain ⟨h1, ⟨arr', e', h2, h3⟩, h4, h5⟩ := hM.own b l f sz h
      have hb' : b < w.heap.size := (Array.getElem?_eq_some_iff.1 h2).1
      refine ⟨h1, ⟨arr', e', by rw [alloc_heap, if_neg (by omega)]; exact h2, h3⟩, fun o s ho => ?_, h5⟩
      show (if b = _ then _ else _) = none
      rw [if_neg (by omega)]
      exact h4 o s ho

/-- A slice's cells as one row. -/
theorem slc_flat {sz : Nat} {l : List AV} {c : Cap} {x : Value} (h : RV imm map blk (.slc sz l c) x) : ∃ b off cap, ∃ F : Nat → Value, x = .slice (some ⟨b, off, none⟩) l.length cap ∧ c ≠ .own ∧ l.length ≤ cap ∧ (c = .exact → cap = l.length) ∧
    (∀ v, v ∈ l → v.okElem sz = true) ∧ (∀ k, k < l.length * sz → imm ⟨b, off + k, none⟩ = some (F k)) ∧ ∀ (i : Nat) v (j : Nat) u, l[i]? = some v → v.cells[j]? = some u → RV imm map blk u (F (i * sz + j)) := by
  cases h with
  | slc _ _ _ b off cap vs hc hle hx hp hi h =>
  refine ⟨b, off, cap, fun k => vs (k / sz) (k % sz), rfl, hc, hle, hx, hp, fun k hk => ?_, fun i v j u hv hu => ?_⟩
  · have hsz : 0 < sz := by
      cases sz with
      | zero => simp at hk
      | succ => omega
    have h1 : k / sz < l.length := Nat.div_lt_of_lt_mul (by rwa [Nat.mul_comm] at hk)
    have h2 := hi (k / sz) (k % sz) h1 (Nat.mod_lt _ hsz)
    have h3 : k / sz * sz + k % sz = k := by rw [Nat.mul_comm]; exact Nat.div_add_mod k sz
    rw [h3] at h2
    exact h2
  · have hj : j < sz := by have h1 := (okElem_spec (hp v (List.mem_of_getElem? hv))).1; have h2 := (List.getElem?_eq_some_iff.1 hu).1; omega
    have hsz : 0 < sz := by omega
    have e1 : (i * sz + j) / sz = i := by rw [Nat.mul_comm, Nat.mul_add_div hsz, Nat.div_eq_of_lt hj]; rfl
    have e2 : (i * sz + j) % sz = j := by rw [Nat.mul_comm, Nat.mul_add_mod, Nat.mod_eq_of_lt hj]
    simp only [e1, e2]
    exact h i v j u hv hu

theorem slc_of_flat {sz : Nat} {l : List AV} {c : Cap} {b off cap : Nat} (F : Nat → Value) (hc : c ≠ .own) (hle : l.length ≤ cap) (hx : c = .exact → cap = l.length) (hp : ∀ v, v ∈ l → v.okElem sz = true)
    (hi : ∀ k, k < l.length * sz → imm ⟨b, off + k, none⟩ = some (F k)) (h : ∀ (i : Nat) v (j : Nat) u, l[i]? = some v → v.cells[j]? = some u → RV imm map blk u (F (i * sz + j))) :
    RV imm map blk (.slc sz l c) (.slice (some ⟨b, off, none⟩) l.length cap) :=
  .slc sz l c b off cap (fun i j => F (i * sz + j)) hc hle hx hp (fun i j hi' hj => hi _ (by
    have : (i + 1) * sz ≤ l.length * sz := Nat.mul_le_mul_right sz (by omega)
    rw [Nat.add_mul] at this
    omega)) h

end
end Go.VA

/-
  Slices made, composite literals of slices.
-/
namespace Go.VA
open Go Go.RowKit

section
variable {P : Program} {gl : Globs} {g : G} {tm : List AV} {a : Act} {take : List Nat} {base : Nat} {w0 w : World} {mem : Mem} {d : Nat} {r : AV × Mem} {op : Op}
variable {imm imm' : Addr → Option Value} {map : Nat → Option Obj} {blk : Id → Option Nat}

def elemZ (sz : Nat) (zero : List AV) : AV := match zero with | [v] => if sz = 1 then v else .agg [v] | l => .agg l

theorem toElems_eq (sz : Nat) (zero : List AV) (n : Nat) : toElems sz zero n = List.replicate n (elemZ sz zero) := rfl

theorem elemZ_cells {sz : Nat} {z : List AV} (hz : z.length = sz) (ho : z.all (fun u => u.pure && u.one) = true) : (elemZ sz z).cells = z := by
  unfold elemZ
  split
  · rename_i v
    have : sz = 1 := by simpa using hz.symm
    rw [if_pos this]
    simp only [List.all_cons, List.all_nil, Bool.and_true, Bool.and_eq_true] at ho
    cases v <;> first | rfl | (simp [AV.one] at ho; done)
  · rfl

theorem elemZ_ok {sz : Nat} {z : List AV} (hz : z.length = sz) (ho : z.all (fun u => u.pure && u.one) = true) : (elemZ sz z).okElem sz = true := by
  simp only [AV.okElem, elemZ_cells hz ho, hz, beq_self_eq_true, Bool.true_and]
  exact ho

/-- A row of zeros. -/
def zrow (zero : Array Value) (n : Nat) : Array Value := (Array.range n).map (zero[· % zero.size]!)

theorem zrow_get (zero : Array Value) (n k : Nat) (h : k < n) : (zrow zero n)[k]? = some (zero[k % zero.size]!) := by
  simp [zrow, h]

theorem zrow_size (zero : Array Value) (n : Nat) : (zrow zero n).size = n := by simp [zrow]

theorem zero_cell {sz : Nat} {z : List AV} {zv : Value} (hz : z.length = sz) (hzr : RVs imm map blk z zv.cells.toList) (i j : Nat) {u : AV} (hu : z[j]? = some u) : RV imm map blk u (zv.cells[(i * sz + j) % zv.cells.size]!) := by
  have hsz : zv.cells.size = sz := by have := hzr.1; simp at this; omega
  have hj : j < sz := by have := (List.getElem?_eq_some_iff.1 hu).1; omega
  have e2 : (i * sz + j) % sz = j := by rw [Nat.mul_comm, Nat.mul_add_mod, Nat.mod_eq_of_lt hj]
  rw [hsz, e2]
  have hj' : j < zv.cells.size := by omega
  refine hzr.2 j u _ hu ?_
  simp [getElem!_pos, hj']

theorem op_mkslc (hT : WT g tm a.tmps) (hgl : GlobOK gl g) (hM : WM base w0 g w mem) (hdt : d < typMark) {im : Bool} {sz bytes : Nat} {z : List AV} {y1 y2 : Opd} (hc : chkOp P gl op (.mkslc im sz bytes z y1 y2) = true)
    (he : evOp mem d (rho tm take) (.mkslc im sz bytes z y1 y2) = some r) : OpOut P base w0 g a w mem tm take op false d r := by
  cases op <;> simp only [chkOp, Bool.false_eq_true] at hc
  rename_i t x1 x2
  simp only [Bool.and_eq_true] at hc
  obtain ⟨⟨h1, h2⟩, h3⟩ := hc
  cases hu : P.underlying t with
  | none => simp [hu] at h3
  | some dd =>
  cases dd <;> first | (simp [hu] at h3; done) | skip
  rename_i e
  simp only [hu, Bool.and_eq_true, decide_eq_true_eq, beq_iff_eq] at h3
  obtain ⟨⟨⟨⟨h4, h5⟩, h6⟩, h7⟩, h8⟩ := h3
  obtain ⟨i, zv, hi, hzv, hzr⟩ := zeroB_spec (imm := g.imm) (map := g.map) (blk := g.blk) h5
  simp only [hi, Bool.and_eq_true, beq_iff_eq] at h4
  obtain ⟨h9, h10⟩ := h4
  have hzs : zv.cells.size = sz := by have := hzr.1; simp at this; omega
  simp only [evOp] at he
  split at he
  · rename_i k l k' m e1 e2
    have q1 := rv_at hT hgl h1 e1 rfl
    have q2 := rv_at hT hgl h2 e2 rfl
    generalize hz1 : a.eval x1 = z1 at q1
    generalize hz2 : a.eval x2 = z2 at q2
    cases q1; cases q2
    split at he
    · rename_i hcond
      obtain ⟨c1, c2, c3⟩ := hcond
      have hmb : m * 1 ≤ m * (max bytes 1 : Nat) := Int.mul_le_mul_of_nonneg_left (by omega) (by omega)
      have hmb2 : m * bytes ≤ m * (max bytes 1 : Nat) := Int.mul_le_mul_of_nonneg_left (by omega) (by omega)
      have hroom : (room : Int) = 4294967296 := rfl
      have wl : IntKind.i64.wrap l = l := IntWalk.i64_in _ (by omega)
      have wm : IntKind.i64.wrap m = m := IntWalk.i64_in _ (by omega)
      have hbm : ((bytes : Int) * m > 2 ^ 48) = False := by rw [Int.mul_comm]; simp; omega
      have hbl : ((bytes : Int) * m) ≤ 4294967296 := by rw [Int.mul_comm]; omega
      -- the machine's step
      have run : ∀ dst ty pos after guard, (execOp a.eval ⟨dst, .makeSlice t x1 x2, ty, pos, after, guard⟩).run P w =
          .ok (.value (.slice (some ⟨w.heap.size, 0, none⟩) l.toNat m.toNat)) (w.alloc (.cells (zrow zv.cells (m.toNat * sz)) e)) := by
        intro _ _ _ _ _
        have n1 : ¬ m < 0 := by omega
        have n2 : ¬ l < 0 := by omega
        have n3 : ¬ m < l := by omega
        have n4 : ¬ (281474976710656 < (bytes : Int) * m) := by omega
        by_cases hm0 : m.toNat * sz = 0
        · simp [execOp, Instr.makeSlice, run_underlying hu, hz1, hz2, asInt, asIntOf, typeInfo, hi, h9, h10, wl, wm, n1, n2, n3, n4, sizeOf, newRow, zrow, hm0, Array.range_zero']
        · simp [execOp, Instr.makeSlice, run_underlying hu, hz1, hz2, asInt, asIntOf, typeInfo, hi, h9, h10, wl, wm, n1, n2, n3, n4, sizeOf, zeroValue, hzv, newRow, zrow, hm0]
      have hlm : l.toNat ≤ m.toNat := by omega
      have hsz2 : (zrow zv.cells (m.toNat * sz)).size = m.toNat * sz := zrow_size _ _
      have hlen : (toElems sz z l.toNat).length = l.toNat := by simp [toElems_eq]
      have ok : ∀ v, v ∈ toElems sz z l.toNat → v.okElem sz = true := by
        intro v hv
        rw [toElems_eq] at hv
        rw [List.eq_of_mem_replicate hv]
        exact elemZ_ok h6 h8
      have el : ∀ (i : Nat) v (j : Nat) u, (toElems sz z l.toNat)[i]? = some v → v.cells[j]? = some u → RV g.imm g.map g.blk u (zv.cells[(i * sz + j) % zv.cells.size]!) := by
        intro i v j u hv hu
        rw [toElems_eq] at hv
        have := List.eq_of_mem_replicate (List.mem_of_getElem? hv)
        subst this
        rw [elemZ_cells h6 h8] at hu
        exact zero_cell h6 hzr i j hu
      have hll : l.toNat * sz ≤ m.toNat * sz := Nat.mul_le_mul_right _ hlm
      split at he
      · cases he
        by_cases hlm' : l = m
        · rw [if_pos hlm']
          subst hlm'
          obtain ⟨w1, w2⟩ := hM.newImm (arr := zrow zv.cells (l.toNat * sz)) (e := e)
          refine ⟨_, _, _, run, w1, ⟨w2, fun _ _ h => h, fun _ _ => rfl, fun _ _ h => h⟩, fun s => (hT.strip take s).mono w2 (fun _ _ h => h) (fun _ _ h => h) (fun _ _ h => h), .val ?_, rfl⟩
          have := slc_of_flat (imm := (g.addImm w.heap.size (zrow zv.cells (l.toNat * sz))).imm) (map := g.map) (blk := g.blk) (sz := sz) (l := toElems sz z l.toNat) (c := .exact) (b := w.heap.size) (off := 0) (cap := l.toNat)
            (fun k => zv.cells[k % zv.cells.size]!) (by simp) (by omega) (fun _ => hlen.symm) ok (fun k hk => by
              show (if _ = _ then _ else _) = _
              rw [if_pos rfl]
              rw [hlen] at hk
              simp only [Option.isSome_none, Bool.false_eq_true, if_false, Nat.zero_add]
              exact zrow_get _ _ _ hk) (fun i v j u hv hu => (el i v j u hv hu).mono w2 (fun _ _ h => h) (fun _ _ h => h))
          rw [hlen] at this
          exact this
        · rw [if_neg hlm']
          obtain ⟨w1, w2, w3⟩ := hM.newPart (arr := zrow zv.cells (m.toNat * sz)) (e := e) (l.toNat * sz) (.tmp d)
          refine ⟨_, _, _, run, w1, ⟨w2, fun _ _ h => h, fun _ _ => rfl, fun b s h => w3 b _ h⟩, fun s => (hT.strip take s).mono w2 (fun _ _ h => h) (fun _ _ h => h) (fun b s h => w3 b _ h), ?_, rfl⟩
          have := slc_of_flat (imm := (g.addPart w.heap.size (zrow zv.cells (m.toNat * sz)) (l.toNat * sz) (.tmp d)).imm) (map := g.map) (blk := g.blk) (sz := sz) (l := toElems sz z l.toNat) (c := .unk) (b := w.heap.size) (off := 0) (cap := m.toNat)
            (fun k => zv.cells[k % zv.cells.size]!) (by simp) (by omega) (fun h => by cases h) ok (fun k hk => by
              show (if _ = _ then _ else _) = _
              rw [if_pos rfl]
              rw [hlen] at hk
              simp only [Option.isSome_none, Bool.false_eq_true, if_false, Nat.zero_add, if_pos hk]
              exact zrow_get _ _ _ (by omega)) (fun i v j u hv hu => (el i v j u hv hu).mono w2 (fun _ _ h => h) (fun _ _ h => h))
          have k2 := RL.own (g := g.addPart w.heap.size (zrow zv.cells (m.toNat * sz)) (l.toNat * sz) (.tmp d)) (loc := .tmp d) sz (toElems sz z l.toNat) w.heap.size 0 m.toNat (m.toNat * sz) this (by
            show (if _ = _ then _ else _) = _
            rw [if_pos rfl, hsz2, hlen, Nat.zero_add]) (by omega)
          rw [hlen] at k2
          exact k2
      · split at he
        · rename_i hlm'
          subst hlm'
          simp only [Option.map_eq_some_iff] at he
          obtain ⟨m', hm', rfl⟩ := he
          have hfl : RVs g.imm g.map g.blk (List.replicate l.toNat z).flatten (zrow zv.cells (l.toNat * sz)).toList := by
            have hlenf : (List.replicate l.toNat z).flatten.length = l.toNat * sz := by simp [h6]
            refine ⟨by rw [hlenf]; simp [hsz2], fun k u x hu hx => ?_⟩
            have hk : k < l.toNat * sz := by have := (List.getElem?_eq_some_iff.1 hu).1; omega
            have hx' : x = zv.cells[k % zv.cells.size]! := by
              have := zrow_get zv.cells (l.toNat * sz) k hk
              rw [← Array.getElem?_toList, hx] at this
              simpa using this
            subst hx'
            have hget : z[k % sz]? = some u := by
              have : ∀ (n k : Nat), k < n * sz → (List.replicate n z).flatten[k]? = z[k % sz]? := by
                intro n
                induction n with
                | zero => intro k hk; simp at hk
                | succ n ih =>
                  intro k hk
                  rw [List.replicate_succ, List.flatten_cons]
                  by_cases hks : k < sz
                  · rw [List.getElem?_append_left (by omega), Nat.mod_eq_of_lt hks]
                  · rw [List.getElem?_append_right (by omega), h6, ih _ (by rw [Nat.add_mul] at hk; omega)]
                    rw [Nat.mod_eq_sub_mod (by omega : sz ≤ k)]
              rw [← this _ _ hk]
              exact hu
            have := zero_cell h6 hzr (k / sz) (k % sz) hget
            have h3 : k / sz * sz + k % sz = k := by rw [Nat.mul_comm]; exact Nat.div_add_mod k sz
            rw [h3] at this
            exact this
          obtain ⟨w1, w2, w3⟩ := hM.newBlk (e := e) hm' hfl ⟨d, rfl, fun ty e => by omega⟩
          refine ⟨_, _, _, run, w1, newBlk_ext _, fun s => (hT.strip take s).mono (fun _ _ h => h) (fun _ _ h => h) (addBlk_mono w2 _) (fun _ _ h => h), .val (.mslc _ _ _ _ _ _ _ ?_ (by omega) (fun _ => rfl)), w3⟩
          show (if _ = _ then _ else _) = _
          rw [if_pos rfl]
        · cases he
    · cases he
  · cases he

end
end Go.VA

/-
  Composite literals of slices; appends.
-/
namespace Go.VA
open Go Go.RowKit

section
variable {P : Program} {gl : Globs} {g : G} {tm : List AV} {a : Act} {take : List Nat} {base : Nat} {w0 w : World} {mem : Mem} {d : Nat} {r : AV × Mem} {op : Op}
variable {imm imm' : Addr → Option Value} {map : Nat → Option Obj} {blk : Id → Option Nat}

theorem splice_get {xs ys : List Value} {off : Nat} (h : off + ys.length ≤ xs.length) (k : Nat) : (splice xs off ys)[k]? = if off ≤ k ∧ k < off + ys.length then ys[k - off]? else xs[k]? := by
  unfold splice
  have l1 : (xs.take off).length = off := by simp; omega
  rw [List.append_assoc]
  by_cases h1 : k < off
  · rw [List.getElem?_append_left (by omega), List.getElem?_take_of_lt h1, if_neg (by omega)]
  · rw [List.getElem?_append_right (by omega), l1]
    by_cases h2 : k < off + ys.length
    · rw [List.getElem?_append_left (by omega), if_pos ⟨by omega, h2⟩]
    · rw [List.getElem?_append_right (by omega), List.getElem?_drop, if_neg (by omega)]
      congr 1
      omega

/-- A list of elements and a row of cells. -/
structure ER (imm : Addr → Option Value) (map : Nat → Option Obj) (blk : Id → Option Nat) (sz : Nat) (l : List AV) (xs : Array Value) : Prop where
  size : xs.size = l.length * sz
  ok : ∀ v, v ∈ l → v.okElem sz = true
  at' : ∀ (i : Nat) v (j : Nat) u x, l[i]? = some v → v.cells[j]? = some u → xs[i * sz + j]? = some x → RV imm map blk u x

theorem setElems_rv {sz : Nat} : ∀ (ps : List (Nat × AV)) (qs : List (Nat × Value)) (l l' : List AV) (xs : Array Value), ps.length = qs.length →
    (∀ (i : Nat) p q, ps[i]? = some p → qs[i]? = some q → p.1 = q.1 ∧ RV imm map blk p.2 q.2) → ER imm map blk sz l xs → setElems sz l ps = some l' →
    ∃ xs', Instr.fill (fun i => some (i * sz, sz)) xs qs = some xs' ∧ ER imm map blk sz l' xs' ∧ l'.length = l.length
  | [], [], l, l', xs, _, _, h, he => by
    simp only [setElems, Option.some.injEq] at he
    subst he
    exact ⟨xs, rfl, h, rfl⟩
  | [], _ :: _, _, _, _, hl, _, _, _ => by simp at hl
  | _ :: _, [], _, _, _, hl, _, _, _ => by simp at hl
  | (i, v) :: ps, (i', x) :: qs, l, l', xs, hl, hp, h, he => by
    simp only [setElems] at he
    split at he
    · rename_i hcond
      obtain ⟨c1, c2⟩ := hcond
      have h0 := hp 0 _ _ rfl rfl
      dsimp only at h0
      obtain ⟨rfl, hr⟩ := h0
      obtain ⟨o1, o2⟩ := okElem_spec c1
      have hun : v ≠ .undef := by
        intro e
        subst e
        have := (o2 .undef (by simp [AV.cells])).2
        simp [AV.one] at this
      have hcs := hr.cells hun
      have hxs : x.cells.size = sz := by have := hcs.1; simp at this; omega
      have hii : (i + 1) * sz ≤ l.length * sz := Nat.mul_le_mul_right sz (by omega)
      rw [Nat.add_mul] at hii
      have hle : i * sz + sz ≤ xs.size := by rw [h.size]; omega
      have hstep := fold_set (i * sz) x.cells.toList 0 xs (by simp; omega)
      have hfold : (x.cells.zipIdx.foldl (fun cs (p : Value × Nat) => cs.setIfInBounds (i * sz + p.2) p.1) xs).toList = splice xs.toList (i * sz) x.cells.toList := by
        rw [← Array.foldl_toList, Array.toList_zipIdx, hstep]
        simp [splice]
      have hspl : i * sz + x.cells.toList.length ≤ xs.toList.length := by simp; omega
      obtain ⟨xs', e1, e2, e3⟩ := setElems_rv ps qs (l.set i v) l' (x.cells.zipIdx.foldl (fun cs (p : Value × Nat) => cs.setIfInBounds (i * sz + p.2) p.1) xs) (by simpa using hl)
        (fun j p q hj hq => hp (j + 1) p q (by simpa using hj) (by simpa using hq))
        ⟨by rw [← Array.length_toList, hfold, splice_length hspl, List.length_set]; simpa using h.size,
         fun u hu => by
          rcases List.mem_or_eq_of_mem_set hu with h1 | h1
          · exact h.ok u h1
          · subst h1; exact c1,
         fun k u j q y hu hq hy => by
          rw [← Array.getElem?_toList, hfold, splice_get hspl] at hy
          rw [Array.length_toList, hxs] at hy
          by_cases hk : k = i
          · subst hk
            have : u = v := by rw [List.getElem?_set_self c2] at hu; exact (Option.some.inj hu).symm
            subst this
            have hj : j < sz := by have := (List.getElem?_eq_some_iff.1 hq).1; omega
            rw [if_pos ⟨by omega, by omega⟩, show k * sz + j - k * sz = j by omega] at hy
            exact hcs.2 j q y hq hy
          · rw [List.getElem?_set_ne (fun e => hk e.symm)] at hu
            have hj : j < sz := by have h1 := (okElem_spec (h.ok u (List.mem_of_getElem? hu))).1; have h2 := (List.getElem?_eq_some_iff.1 hq).1; omega
            have hne : ¬ (i * sz ≤ k * sz + j ∧ k * sz + j < i * sz + sz) := by
              rintro ⟨a1, a2⟩
              rcases Nat.lt_or_gt_of_ne hk with hlt | hgt
              · have : (k + 1) * sz ≤ i * sz := Nat.mul_le_mul_right sz (by omega)
                rw [Nat.add_mul] at this
                omega
              · have : (i + 1) * sz ≤ k * sz := Nat.mul_le_mul_right sz (by omega)
                rw [Nat.add_mul] at this
                omega
            rw [if_neg hne] at hy
            exact h.at' k u j q y hu hq (by simpa using hy)⟩ he
      refine ⟨xs', ?_, e2, by rw [e3, List.length_set]⟩
      simp only [Instr.fill]
      rw [if_neg (by simp [hxs]; omega)]
      exact e1
    · cases he

theorem elems_rel (hT : WT g tm a.tmps) (hgl : GlobOK gl g) : ∀ {parts : List (Nat × Operand)} {ps : List (Nat × Opd)}, chkElems gl parts ps = true →
    parts.length = ps.length ∧ ∀ (i : Nat) p q, (ps.map fun (i, x) => (i, (rho tm take x).strip))[i]? = some p → (parts.map fun (i, x) => (i, a.eval x))[i]? = some q → p.1 = q.1 ∧ RV g.imm g.map g.blk p.2 q.2
  | [], [], _ => ⟨rfl, fun i p q h => by simp at h⟩
  | [], _ :: _, h => by simp [chkElems] at h
  | _ :: _, [], h => by simp [chkElems] at h
  | (i, x) :: l, (j, y) :: m, h => by
    simp only [chkElems, Bool.and_eq_true, beq_iff_eq] at h
    obtain ⟨⟨rfl, h2⟩, h3⟩ := h
    obtain ⟨h4, h5⟩ := elems_rel hT hgl h3
    refine ⟨by simp [h4], fun k p q hp hq => ?_⟩
    cases k with
    | zero =>
      simp only [List.map_cons, List.length_cons, Nat.zero_lt_succ, List.getElem?_eq_getElem, List.getElem_cons_zero, Option.some.injEq] at hp hq
      subst hp; subst hq
      exact ⟨rfl, rv_opd hT hgl h2⟩
    | succ k => exact h5 k p q (by simpa using hp) (by simpa using hq)

theorem ER_zero {sz n : Nat} {z : List AV} {zv : Value} (hz : z.length = sz) (ho : z.all (fun u => u.pure && u.one) = true) (hzr : RVs imm map blk z zv.cells.toList) : ER imm map blk sz (toElems sz z n) (zrow zv.cells (n * sz)) := by
  refine ⟨by simp [zrow_size, toElems_eq], fun v hv => ?_, fun i v j u x hv hu hx => ?_⟩
  · rw [toElems_eq] at hv
    rw [List.eq_of_mem_replicate hv]
    exact elemZ_ok hz ho
  · have hk : i * sz + j < n * sz := by have := (Array.getElem?_eq_some_iff.1 hx).1; rwa [zrow_size] at this
    rw [zrow_get _ _ _ hk] at hx
    cases hx
    rw [toElems_eq] at hv
    have := List.eq_of_mem_replicate (List.mem_of_getElem? hv)
    subst this
    rw [elemZ_cells hz ho] at hu
    exact zero_cell hz hzr i j hu

theorem RVs_zero {sz n : Nat} {z : List AV} {zv : Value} (hz : z.length = sz) (hzr : RVs imm map blk z zv.cells.toList) : RVs imm map blk (List.replicate n z).flatten (zrow zv.cells (n * sz)).toList := by
  have hlenf : (List.replicate n z).flatten.length = n * sz := by simp [hz]
  have hsz : zv.cells.size = sz := by have := hzr.1; simp at this; omega
  refine ⟨by rw [hlenf]; simp [zrow_size], fun k u x hu hx => ?_⟩
  have hk : k < n * sz := by have := (List.getElem?_eq_some_iff.1 hu).1; omega
  have hx' : x = zv.cells[k % zv.cells.size]! := by
    have := zrow_get zv.cells (n * sz) k hk
    rw [← Array.getElem?_toList, hx] at this
    simpa using this
  subst hx'
  have hget : z[k % sz]? = some u := by
    have : ∀ (n k : Nat), k < n * sz → (List.replicate n z).flatten[k]? = z[k % sz]? := by
      intro n
      induction n with
      | zero => intro k hk; simp at hk
      | succ n ih =>
        intro k hk
        rw [List.replicate_succ, List.flatten_cons]
        by_cases hks : k < sz
        · rw [List.getElem?_append_left (by omega), Nat.mod_eq_of_lt hks]
        · rw [List.getElem?_append_right (by omega), hz, ih _ (by rw [Nat.add_mul] at hk; omega)]
          rw [Nat.mod_eq_sub_mod (by omega : sz ≤ k)]
    rw [← this _ _ hk]
    exact hu
  have := zero_cell hz hzr (k / sz) (k % sz) hget
  have h3 : k / sz * sz + k % sz = k := by rw [Nat.mul_comm]; exact Nat.div_add_mod k sz
  rw [h3] at this
  exact this

theorem op_bslice (hT : WT g tm a.tmps) (hgl : GlobOK gl g) (hM : WM base w0 g w mem) (hdt : d < typMark) {im : Bool} {sz n : Nat} {z : List AV} {ps : List (Nat × Opd)} (hc : chkOp P gl op (.bslice im sz n z ps) = true)
    (he : evOp mem d (rho tm take) (.bslice im sz n z ps) = some r) : OpOut P base w0 g a w mem tm take op false d r := by
  cases op <;> simp only [chkOp, Bool.false_eq_true] at hc
  rename_i t len parts
  simp only [Bool.and_eq_true, beq_iff_eq, decide_eq_true_eq] at hc
  obtain ⟨⟨rfl, hbig⟩, h3⟩ := hc
  cases hu : P.underlying t with
  | none => simp [hu] at h3
  | some dd =>
  cases dd <;> first | (simp [hu] at h3; done) | skip
  rename_i e
  simp only [hu, Bool.and_eq_true, decide_eq_true_eq, beq_iff_eq] at h3
  obtain ⟨⟨⟨⟨⟨h4, h5⟩, h6⟩, h7⟩, h8⟩, h9⟩ := h3
  obtain ⟨i, zv, hi, hzv, hzr⟩ := zeroB_spec (imm := g.imm) (map := g.map) (blk := g.blk) h5
  obtain ⟨i', hi', hsz⟩ := szB_spec h4
  obtain rfl : i = i' := Option.some.inj (hi.symm.trans hi')
  obtain ⟨p1, p2⟩ := elems_rel (take := take) hT hgl h9
  -- the machine's step, from what 'fill' gives
  have run : ∀ xs', Instr.fill (fun i => some (i * sz, sz)) (zrow zv.cells (n * sz)) (parts.map fun (i, x) => (i, a.eval x)).toList = some xs' → ∀ dst ty pos after guard,
      (execOp a.eval ⟨dst, .buildSlice t n parts, ty, pos, after, guard⟩).run P w = .ok (.value (.slice (some ⟨w.heap.size, 0, none⟩) n n)) (w.alloc (.cells xs' e)) := by
    intro xs' hf _ _ _ _ _
    by_cases hn : n * sz = 0
    · have hn1 : ¬ n * sz > 16777216 := by omega
      have hf' : Instr.fill (fun i => some (i * sz, sz)) #[] (List.map (fun x => (x.1, a.eval x.2)) parts.toList) = some xs' := by
        rw [← hf, Array.toList_map]
        congr 1
        simp [zrow, hn, Array.range_zero']
      simp [execOp, Instr.buildSlice, run_underlying hu, sizeOf, typeInfo, hi, hsz, hn, newRow, Array.range_zero', hf']
    · have := run_buildSlice (P := P) w t e n (parts.map fun (i, x) => (i, a.eval x)) xs' i zv hu hi hzv (by rw [hsz]; omega) (by rw [hsz]; exact hn) (by rw [hsz]; exact hf)
      simp [execOp, this]
  cases im with
  | true =>
    simp only [evOp, Option.map_eq_some_iff] at he
    obtain ⟨l, hl, rfl⟩ := he
    obtain ⟨xs', e1, e2, e3⟩ := setElems_rv (imm := g.imm) (map := g.map) (blk := g.blk) _ (parts.map fun (i, x) => (i, a.eval x)).toList _ _ (zrow zv.cells (n * sz)) (by simp [p1]) (fun j p q hp hq => p2 j p q hp (by simpa using hq)) (ER_zero h6 h8 hzr) hl
    have hlen : l.length = n := by rw [e3]; simp [toElems_eq]
    obtain ⟨w1, w2⟩ := hM.newImm (arr := xs') (e := e)
    refine ⟨_, _, _, run xs' e1, w1, ⟨w2, fun _ _ h => h, fun _ _ => rfl, fun _ _ h => h⟩, fun s => (hT.strip take s).mono w2 (fun _ _ h => h) (fun _ _ h => h) (fun _ _ h => h), .val ?_, rfl⟩
    have := slc_of_flat (imm := (g.addImm w.heap.size xs').imm) (map := g.map) (blk := g.blk) (sz := sz) (l := l) (c := .exact) (b := w.heap.size) (off := 0) (cap := n)
      (fun k => xs'.getD k undef) (by simp) (by omega) (fun _ => hlen.symm) e2.ok (fun k hk => by
        show (if _ = _ then _ else _) = _
        rw [if_pos rfl]
        have : k < xs'.size := by rw [e2.size]; exact hk
        simp [this, Array.getD]) (fun i v j u hv hu => by
        have hk : i * sz + j < xs'.size := by
          rw [e2.size]
          have h1 := (okElem_spec (e2.ok v (List.mem_of_getElem? hv))).1
          have h2 := (List.getElem?_eq_some_iff.1 hu).1
          have h3 := (List.getElem?_eq_some_iff.1 hv).1
          have : (i + 1) * sz ≤ l.length * sz := Nat.mul_le_mul_right sz (by omega)
          rw [Nat.add_mul] at this
          omega
        exact (e2.at' i v j u _ hv hu (by simp [Array.getD, hk])).mono w2 (fun _ _ h => h) (fun _ _ h => h))
    rw [hlen] at this
    exact this
  | false =>
    simp only [evOp] at he
    split at he
    · rename_i hdef
      simp only [Option.bind_eq_some_iff] at he
      obtain ⟨c, hcc, he⟩ := he
      split at he
      · simp only [Option.map_eq_some_iff] at he
        obtain ⟨m, hm, rfl⟩ := he
        have strip_ne : ∀ {v : AV}, v.defd = true → v.strip ≠ .undef := by
          intro v hv
          cases v <;> first | (cases hv; done) | (simp [AV.strip]; done) | (rename_i c; cases c <;> simp [AV.strip])
        obtain ⟨xs', e1, e2, e3⟩ := fill_rv (imm := g.imm) (map := g.map) (blk := g.blk) (fun i => some (i * sz, sz)) _ (parts.map fun (i, x) => (i, a.eval x)).toList _ (zrow zv.cells (n * sz)) c (by simp [p1])
          (fun j p q hp hq => by
            rw [List.getElem?_map, Option.map_eq_some_iff] at hp
            obtain ⟨⟨i2, x⟩, hx, rfl⟩ := hp
            obtain ⟨k1, k2⟩ := p2 j (i2, (rho tm take x).strip) q (by rw [List.getElem?_map, hx]; rfl) (by simpa using hq)
            dsimp only at k1 k2
            exact ⟨by rw [← k1], strip_ne (List.all_eq_true.1 hdef _ (List.mem_of_getElem? hx)), k2⟩) (RVs_zero h6 hzr) hcc
        obtain ⟨w1, w2, w3⟩ := hM.newBlk (e := e) hm e2 ⟨d, rfl, fun ty e => by omega⟩
        refine ⟨_, _, _, run xs' e1, w1, newBlk_ext _, fun s => (hT.strip take s).mono (fun _ _ h => h) (fun _ _ h => h) (addBlk_mono w2 _) (fun _ _ h => h), .val (.mslc _ _ _ _ _ _ _ ?_ (by omega) (fun _ => rfl)), w3⟩
        show (if _ = _ then _ else _) = _
        rw [if_pos rfl]
      · cases he
    · cases he

end
end Go.VA

/-
  Appends.
-/
namespace Go.VA
open Go Go.RowKit

section
variable {P : Program} {gl : Globs} {g : G} {tm : List AV} {a : Act} {take : List Nat} {base : Nat} {w0 w : World} {mem : Mem} {d : Nat} {r : AV × Mem} {op : Op}
variable {imm imm' : Addr → Option Value} {map : Nat → Option Obj} {blk : Id → Option Nat}

/-- A list of elements and a list of cells. -/
structure EL (imm : Addr → Option Value) (map : Nat → Option Obj) (blk : Id → Option Nat) (sz : Nat) (l : List AV) (xs : List Value) : Prop where
  size : xs.length = l.length * sz
  ok : ∀ v, v ∈ l → v.okElem sz = true
  at' : ∀ (i : Nat) v (j : Nat) u x, l[i]? = some v → v.cells[j]? = some u → xs[i * sz + j]? = some x → RV imm map blk u x

theorem EL.nil {sz : Nat} : EL imm map blk sz [] [] := ⟨by simp, by simp, by simp⟩

theorem EL.append {sz : Nat} {l m : List AV} {xs ys : List Value} (h : EL imm map blk sz l xs) (k : EL imm map blk sz m ys) : EL imm map blk sz (l ++ m) (xs ++ ys) := by
  refine ⟨by simp [h.size, k.size, Nat.add_mul], fun v hv => ?_, fun i v j u x hv hu hx => ?_⟩
  · rcases List.mem_append.1 hv with h1 | h1
    · exact h.ok v h1
    · exact k.ok v h1
  · have hj : ∀ (l : List AV), (∀ v, v ∈ l → v.okElem sz = true) → v ∈ l → j < sz := by
      intro l hl hm
      have h1 := (okElem_spec (hl v hm)).1
      have h2 := (List.getElem?_eq_some_iff.1 hu).1
      omega
    rw [List.getElem?_append] at hv
    split at hv
    · rename_i hlt
      have hj := hj l h.ok (List.mem_of_getElem? hv)
      have : (i + 1) * sz ≤ l.length * sz := Nat.mul_le_mul_right sz (by omega)
      rw [Nat.add_mul] at this
      rw [List.getElem?_append_left (by rw [h.size]; omega)] at hx
      exact h.at' i v j u x hv hu hx
    · rename_i hge
      have : l.length * sz ≤ i * sz := Nat.mul_le_mul_right sz (by omega)
      rw [List.getElem?_append_right (by rw [h.size]; omega), h.size] at hx
      refine k.at' (i - l.length) v j u x hv hu ?_
      rw [Nat.sub_mul]
      rw [show i * sz - l.length * sz + j = i * sz + j - l.length * sz by omega]
      exact hx

theorem EL.idx {sz : Nat} {l : List AV} {xs : List Value} (h : EL imm map blk sz l xs) {i j : Nat} {v u : AV} (hv : l[i]? = some v) (hu : v.cells[j]? = some u) : i * sz + j < xs.length := by
  rw [h.size]
  have h1 := (okElem_spec (h.ok v (List.mem_of_getElem? hv))).1
  have h2 := (List.getElem?_eq_some_iff.1 hu).1
  have h3 := (List.getElem?_eq_some_iff.1 hv).1
  have : (i + 1) * sz ≤ l.length * sz := Nat.mul_le_mul_right sz (by omega)
  rw [Nat.add_mul] at this
  omega

theorem EL.one {sz : Nat} (hsz : 0 < sz) {l : List AV} {xs : List Value} (h : EL imm map blk sz l xs) : ∀ u, u ∈ xs → u.oneCell' = true := by
  intro x hx
  obtain ⟨k, hk, rfl⟩ := List.getElem_of_mem hx
  have hk' : k < l.length * sz := h.size ▸ hk
  have h1 : k / sz < l.length := Nat.div_lt_of_lt_mul (by rwa [Nat.mul_comm] at hk')
  have ho := okElem_spec (h.ok l[k / sz] (List.getElem_mem h1))
  have h2 : k % sz < l[k / sz].cells.length := by rw [ho.1]; exact Nat.mod_lt _ hsz
  have h3 : k / sz * sz + k % sz = k := by rw [Nat.mul_comm]; exact Nat.div_add_mod k sz
  refine one_cell (h.at' (k / sz) _ (k % sz) _ _ (List.getElem?_eq_getElem h1) (List.getElem?_eq_getElem h2) (by rw [h3]; exact List.getElem?_eq_getElem hk)) (ho.2 _ (List.getElem_mem h2)).2

theorem EL.of_slc {sz : Nat} {l : List AV} {c : Cap} {b off cap : Nat} (h : RV imm map blk (.slc sz l c) (.slice (some ⟨b, off, none⟩) l.length cap)) :
    ∃ xs, EL imm map blk sz l xs ∧ ∀ (j : Nat) v, xs[j]? = some v → imm ⟨b, off + j, none⟩ = some v := by
  obtain ⟨b', off', cap', F, he, _, _, _, hp, hi, hr⟩ := slc_flat h
  simp only [Value.slice.injEq, Option.some.injEq, Addr.mk.injEq] at he
  obtain ⟨⟨rfl, rfl, _⟩, _, rfl⟩ := he
  refine ⟨(List.range (l.length * sz)).map F, ⟨by simp, hp, fun i v j u x hv hu hx => ?_⟩, fun j v hv => ?_⟩
  · have hlt : i * sz + j < l.length * sz := by have := (List.getElem?_eq_some_iff.1 hx).1; simpa using this
    have : x = F (i * sz + j) := by simpa [hlt] using hx.symm
    subst this
    exact hr i v j u hv hu
  · have hlt : j < l.length * sz := by have := (List.getElem?_eq_some_iff.1 hv).1; simpa using this
    have : v = F j := by simpa [hlt] using hv.symm
    subst this
    exact hi j hlt

theorem EL.mono {sz : Nat} {l : List AV} {xs : List Value} (h : EL imm map blk sz l xs) (hi : ∀ a v, imm a = some v → imm' a = some v) : EL imm' map blk sz l xs :=
  ⟨h.size, h.ok, fun i v j u x hv hu hx => (h.at' i v j u x hv hu hx).mono hi (fun _ _ h => h) (fun _ _ h => h)⟩

theorem EL.slc {sz : Nat} {l : List AV} {xs : List Value} {c : Cap} {b off cap : Nat} (h : EL imm map blk sz l xs) (hc : c ≠ .own) (hle : l.length ≤ cap) (hx : c = .exact → cap = l.length) (hi : ∀ (j : Nat) v, xs[j]? = some v → imm ⟨b, off + j, none⟩ = some v) :
    RV imm map blk (.slc sz l c) (.slice (some ⟨b, off, none⟩) l.length cap) :=
  slc_of_flat (fun k => xs.getD k undef) hc hle hx h.ok (fun k hk => hi k _ (by
    have : k < xs.length := by rw [h.size]; exact hk
    simp [List.getD, this])) (fun i v j u hv hu => h.at' i v j u _ hv hu (by
    have := h.idx hv hu
    simp [List.getD, this]))

/-- What is appended, as the machine sees it. -/
theorem src_of {sz : Nat} {i : TypeInfo} {u : TypeId} {v : AV} {x : Value} {new : List AV} (hM : WM base w0 g w mem) (hsz : i.size = sz) (hpos : 0 < sz) (hk : (∃ e', P.underlying u = some (.slice e')) ∨ P.underlying u = some .string)
    (he : elemsOf sz v = some new) (hr : RV g.imm g.map g.blk v x) : ∃ news, EL g.imm g.map g.blk sz new news ∧ Src P i.size u x new.length news w := by
  subst hsz
  unfold elemsOf at he
  split at he
  · rename_i sz' l c
    split at he
    · rename_i e
      subst e
      cases he
      obtain ⟨b, off, cap, F, rfl, _⟩ := slc_flat hr
      obtain ⟨xs, h1, h2⟩ := EL.of_slc hr
      refine ⟨xs, h1, hk, fun _ => rfl, run_firstCells_some w _ _ _ _ _ _ h1.size (fun j v hv => ?_), run_firstCells_some w.drew _ _ _ _ _ _ h1.size (fun j v hv => ?_), h1.size, h1.one hpos⟩
      · rw [Addr.add_lit]; exact hM.imm _ _ (h2 j v hv)
      · rw [Addr.add_lit]; exact hM.imm _ _ (h2 j v hv)
    · cases he
  · cases he
    cases hr
    exact ⟨[], EL.nil, hk, fun _ => rfl, run_firstCells_none w _ 0 0 0, run_firstCells_none w.drew _ 0 0 0, by simp, by simp⟩
  · rename_i s
    split at he
    · rename_i e
      cases he
      cases hr
      have hl : (ByteArray.mk s.toArray).size = (VA.byteCells s).length := by simp [VA.byteCells, ByteArray.size]
      have hb : (Go.byteCells ⟨s.toArray⟩) = s.map fun b => Value.int .u8 b.toNat := by simp [Go.byteCells]
      have f1 := fun w' => firstCells_string (P := P) ⟨s.toArray⟩ w'
      rw [hl, hb] at f1
      refine ⟨s.map fun b => Value.int .u8 b.toNat, ⟨by simp [VA.byteCells, e], fun v hv => ?_, fun i v j u x hv hu hx => ?_⟩, hk, fun _ => ?_, by rw [e]; exact f1 w, by rw [e]; exact f1 w.drew, by simp [VA.byteCells, e], fun u hu => ?_⟩
      · simp only [VA.byteCells, List.mem_map] at hv
        obtain ⟨b, _, rfl⟩ := hv
        rw [e]
        rfl
      · simp only [VA.byteCells, List.getElem?_map, Option.map_eq_some_iff] at hv
        obtain ⟨b, hb', rfl⟩ := hv
        have hj : j = 0 := by have := (List.getElem?_eq_some_iff.1 hu).1; simp [AV.cells] at this; omega
        subst hj
        simp only [AV.cells, List.length_cons, List.length_nil, Nat.zero_add, Nat.zero_lt_one, List.getElem?_eq_getElem, List.getElem_cons_zero, Option.some.injEq] at hu
        subst hu
        rw [e] at hx
        simp only [Nat.mul_one, Nat.add_zero, List.getElem?_map, hb', Option.map_some, Option.some.injEq] at hx
        subst hx
        exact .int _ _
      · simp only [Builtin.lenOf, Sem.run_pure]
        rw [hl]
      · simp only [List.mem_map] at hu
        obtain ⟨b, _, rfl⟩ := hu
        rfl
    · cases he
  · cases he

theorem op_append (hT : WT g tm a.tmps) (hgl : GlobOK gl g) (hM : WM base w0 g w mem) {sz bytes : Nat} {y1 y2 : Opd} (hc : chkOp P gl op (.append sz bytes y1 y2) = true)
    (he : evOp mem d (rho tm take) (.append sz bytes y1 y2) = some r) : OpOut P base w0 g a w mem tm take op false d r := by
  cases op <;> simp only [chkOp, Bool.false_eq_true] at hc
  rename_i c
  obtain ⟨callee, args, argTypes⟩ := c
  cases callee with
  | value _ => simp at hc
  | invoke _ _ => simp at hc
  | builtin b =>
  cases b <;> first | (simp at hc; done) | skip
  simp only at hc
  split at hc
  case h_2 => cases hc
  rename_i x1 x2 t u ha ht
  obtain rfl : args = #[x1, x2] := Array.toList_inj.1 ha
  obtain rfl : argTypes = #[t, u] := Array.toList_inj.1 ht
  simp only [Bool.and_eq_true] at hc
  obtain ⟨⟨⟨h1, h2⟩, h3⟩, h4⟩ := hc
  cases hu : P.underlying t with
  | none => simp [hu] at h3
  | some dd =>
  cases dd <;> first | (simp [hu] at h3; done) | skip
  rename_i e
  simp only [hu] at h3
  cases hi : P.info? e with
  | none => simp [hi] at h3
  | some i =>
  simp only [hi, Bool.and_eq_true, beq_iff_eq, decide_eq_true_eq] at h3
  obtain ⟨⟨⟨⟨rfl, rfl⟩, h6⟩, h7⟩, h8⟩ := h3
  obtain ⟨zv, hz, hzs⟩ : ∃ zv, i.zero = some zv ∧ zv.cells.size = i.size := by
    split at h6
    · rename_i z hz; exact ⟨z, hz, by simpa using h6⟩
    · cases h6
  have hk : (∃ e', P.underlying u = some (.slice e')) ∨ P.underlying u = some .string := by
    cases hu2 : P.underlying u with
    | none => simp [hu2] at h4
    | some dd => cases dd <;> first | exact .inl ⟨_, rfl⟩ | exact .inr rfl | simp [hu2] at h4
  simp only [evOp, Option.map_eq_some_iff] at he
  obtain ⟨v, hv, rfl⟩ := he
  have hr2 := rv_opd (take := take) hT hgl h2
  unfold VA.append at hv
  split at hv
  · cases hv
  · rename_i new hnew
    obtain ⟨news, hEL, hsrc⟩ := src_of (P := P) hM rfl h8 hk hnew hr2
    have exec : ∀ z1, a.eval x1 = z1 → ∀ res w', (Builtin.append_ #[t, u] 0 #[z1, a.eval x2]).run P w = .ok res w' → ∀ dst ty pos after guard,
        (execOp a.eval ⟨dst, .call ⟨.builtin .append, #[x1, x2], #[t, u]⟩, ty, pos, after, guard⟩).run P w = .ok (.value res) w' := by
      intro z1 hz1 res w' hrun dst ty pos after guard
      have hty : ∀ ty, Builtin.append_ #[t, u] ty #[z1, a.eval x2] = Builtin.append_ #[t, u] 0 #[z1, a.eval x2] := fun _ => rfl
      simp [execOp, resolve, invoke, builtin, hz1, hty ty, hrun]
    -- the way that makes a new row
    have grow : ∀ (l : List AV) (bs : Option Addr) (sLen sCap : Nat) (olds : List Value), a.eval x1 = .slice bs sLen sCap → l.length = sLen → EL g.imm g.map g.blk i.size l olds →
        (Builtin.firstCells i.size sLen (.slice bs sLen sCap)).run P w.drew = .ok olds.toArray w.drew → sCap < sLen + new.length → (sLen + new.length) * i.bytes ≤ room →
        OpOut P base w0 g a w mem tm take (.call ⟨.builtin .append, #[x1, x2], #[t, u]⟩) false d (.slc i.size (l ++ new) .own, mem) := by
      intro l bs sLen sCap olds hz1 hlen hO hfc hg hroom
      have hroom' : room = 4294967296 := rfl
      have hb1 : sLen + new.length ≤ (sLen + new.length) * i.bytes := Nat.le_mul_of_pos_right _ h7
      have hfit := growslice_fits (bytes := i.bytes) hg (by omega)
      have hrun := run_append_grow_src (P := P) w t u 0 e i zv hu hi hz bs sLen sCap olds hfc (a.eval x2) new.length news hsrc hg (by omega) hfit
      generalize hcap : grownCap w (sLen + new.length) sCap e = cap' at hrun
      have hge : sLen + new.length ≤ cap' := by rw [← hcap]; exact grownCap_ge w (sLen + new.length) sCap e
      have hMd : WM base w0 g w.drew mem := hM.heap rfl hM.old.drew
      generalize harr : (olds ++ news).toArray ++ Builtin.zeroCells zv.cells (cap' - (sLen + new.length)) = arr at hrun
      have hON := hO.append hEL
      have hlen2 : (l ++ new).length = sLen + new.length := by simp [hlen]
      obtain ⟨w1, w2, w3⟩ := hMd.newPart (arr := arr) (e := e) ((sLen + new.length) * i.size) (.tmp d)
      refine ⟨_, _, _, exec _ hz1 _ _ hrun, w1, ⟨w2, fun _ _ h => h, fun _ _ => rfl, fun b s h => w3 b _ h⟩, fun s => (hT.strip take s).mono w2 (fun _ _ h => h) (fun _ _ h => h) (fun b s h => w3 b _ h), ?_, rfl⟩
      have hget : ∀ (j : Nat) v, (olds ++ news)[j]? = some v → arr[j]? = some v := by
        intro j v hv
        have hj : j < (olds ++ news).length := (List.getElem?_eq_some_iff.1 hv).1
        rw [← harr, Array.getElem?_append_left (by simpa using hj)]
        simpa using hv
      have hsl := (hON.mono w2).slc (c := .unk) (b := w.heap.size) (off := 0) (cap := cap') (by simp) (by rw [hlen2]; exact hge) (fun h => by cases h) (fun j v hv => by
        have hj : j < (sLen + new.length) * i.size := by have := (List.getElem?_eq_some_iff.1 hv).1; rw [hON.size, hlen2] at this; exact this
        show (if _ = _ then _ else _) = _
        rw [if_pos (by rfl)]
        simp only [Option.isSome_none, Bool.false_eq_true, if_false, Nat.zero_add, if_pos hj]
        exact hget j v hv)
      have hasz : cap' * i.size ≤ arr.size := by
        rw [← harr]
        simp only [Array.size_append, List.size_toArray, size_zeroCells, hzs, hON.size, hlen2, ← Nat.add_mul]
        rw [show sLen + new.length + (cap' - (sLen + new.length)) = cap' by omega]
        exact Nat.le_refl _
      have k2 := RL.own (g := g.addPart w.heap.size arr ((sLen + new.length) * i.size) (.tmp d)) (loc := .tmp d) i.size (l ++ new) w.heap.size 0 cap' arr.size hsl (by
        show (if _ = _ then _ else _) = _
        rw [if_pos (by rfl), hlen2, Nat.zero_add]) (by omega)
      rw [hlen2] at k2
      exact k2
    have hr1 := rl_opd (take := take) hT hgl h1
    split at hv
    · -- nil
      rename_i hx
      split at hv
      · rename_i hroom
        have hz1 : a.eval x1 = .slice none 0 0 := by
          have := rv_at hT hgl h1 hx rfl
          generalize a.eval x1 = z at this
          cases this
          rfl
        split at hv
        · rename_i hnil
          subst hnil
          cases hv
          have hn0 : news = [] := List.eq_nil_of_length_eq_zero (by have := hEL.size; simpa using this)
          subst hn0
          refine ⟨.slice none 0 0, w, g, exec _ hz1 _ _ ?_, hM, .refl _ _, hT.strip take, .val .nils, rfl⟩
          have hl := hsrc.len
          have hcl := hsrc.cells
          simp only [List.length_nil] at hl hcl
          rcases hsrc.kind with ⟨e', hk'⟩ | hk' <;> simp [Builtin.append_, run_underlying hu, run_underlying hk', sizeOf, typeInfo, hi, hl, hcl]
        · rename_i hnil
          cases hv
          have := grow [] none 0 0 [] hz1 rfl EL.nil (run_firstCells_none w.drew _ 0 0 0) (by
            cases new with
            | nil => exact absurd rfl hnil
            | cons _ _ => simp) (by simpa using hroom)
          simpa using this
      · cases hv
    · rename_i sz' l c hx
      split at hv
      · rename_i hcond
        obtain ⟨e', hroom⟩ := hcond
        subst e'
        -- the slice as the machine has it
        obtain ⟨b, off, cap, hz1, hsl, hle⟩ : ∃ b off cap, a.eval x1 = .slice (some ⟨b, off, none⟩) l.length cap ∧ RV g.imm g.map g.blk (.slc i.size l .unk) (.slice (some ⟨b, off, none⟩) l.length cap) ∧ l.length ≤ cap := by
          have := rv_opd (take := take) hT hgl h1
          rw [hx] at this
          generalize a.eval x1 = z at this
          have key : ∀ c', RV g.imm g.map g.blk (.slc i.size l c') z → ∃ b off cap, z = .slice (some ⟨b, off, none⟩) l.length cap ∧ RV g.imm g.map g.blk (.slc i.size l .unk) (.slice (some ⟨b, off, none⟩) l.length cap) ∧ l.length ≤ cap := by
            intro c' h
            cases h with
            | slc _ _ _ b off cap vs hc hle hx' hp hi' h => exact ⟨b, off, cap, rfl, .slc _ _ _ b off cap vs (by simp) hle (fun h => by cases h) hp hi' h, hle⟩
          cases c with
          | own => exact key .unk this
          | unk => exact key .unk this
          | exact => exact key .exact this
        obtain ⟨olds, hO, hO2⟩ := EL.of_slc hsl
        have hfc : (Builtin.firstCells i.size l.length (.slice (some ⟨b, off, none⟩) l.length cap)).run P w.drew = .ok olds.toArray w.drew :=
          run_firstCells_some w.drew _ _ _ _ _ _ hO.size (fun j v hv => by rw [Addr.add_lit]; exact hM.imm _ _ (hO2 j v hv))
        split at hv
        · rename_i hnil
          subst hnil
          cases hv
          have hn0 : news = [] := List.eq_nil_of_length_eq_zero (by have := hEL.size; simpa using this)
          subst hn0
          have hl := hsrc.len
          have hcl := hsrc.cells
          simp only [List.length_nil] at hl hcl
          have hrun : (Builtin.append_ #[t, u] 0 #[.slice (some ⟨b, off, none⟩) l.length cap, a.eval x2]).run P w = .ok (.slice (some ⟨b, off, none⟩) l.length cap) w := by
            rcases hsrc.kind with ⟨e', hk'⟩ | hk' <;> simp [Builtin.append_, run_underlying hu, run_underlying hk', sizeOf, typeInfo, hi, hl, hcl, hle, storeCells]
          rcases hr1 with h | ⟨s, rfl, hm, rfl, heq, h⟩
          · rw [hx, hz1] at h
            exact ⟨_, w, g, exec _ hz1 _ _ hrun, hM, .refl _ _, hT.strip take, .val h, rfl⟩
          · rw [hx, hz1] at h
            exact ⟨_, w, g.move (.tmp s) (.tmp d), exec _ hz1 _ _ hrun, hM.move (by simp), Ext'.moveTmp _ _ _, hT.moved hm _, h.moved, rfl⟩
        · rename_i hnil
          have hpos : 0 < new.length := by
            cases new with
            | nil => exact absurd rfl hnil
            | cons _ _ => simp
          split at hv
          · cases hv
          · rename_i hcu
            cases hv
            by_cases hg : cap < l.length + new.length
            · exact grow l _ _ _ olds hz1 rfl hO hfc hg hroom
            · -- there is room: the right to append must be there
              have hown : ∃ s, y1 = .tmp s ∧ s ∈ take ∧ x1 = .tmp s ∧ RL g (.tmp s) (.slc i.size l .own) (.slice (some ⟨b, off, none⟩) l.length cap) := by
                rcases hr1 with h | ⟨s, rfl, hm, rfl, heq, h⟩
                · rw [hx, hz1] at h
                  cases h with
                  | slc _ _ _ _ _ _ vs hc hle hx' hp hi' h =>
                  cases c with
                  | own => exact absurd rfl hc
                  | unk => exact absurd rfl hcu
                  | exact => have := hx' rfl; omega
                · rw [hx, hz1] at h
                  cases c with
                  | unk => exact absurd rfl hcu
                  | own => exact ⟨s, rfl, hm, rfl, h⟩
                  | exact =>
                    cases h with
                    | val h =>
                      cases h with
                      | slc _ _ _ _ _ _ vs hc hle hx' hp hi' h => have := hx' rfl; omega
              obtain ⟨s, rfl, hm, rfl, hrl⟩ := hown
              cases hrl with
              | val h => cases h with | slc _ _ _ _ _ _ vs hc hle hx' hp hi' h => exact absurd rfl hc
              | own _ _ _ _ _ size hrv ho hs =>
              obtain ⟨o1, ⟨arr, e2, o2, o3⟩, o4, o5⟩ := hM.own _ _ _ _ ho
              have hfit : off + l.length * i.size + news.length ≤ arr.size := by
                rw [hEL.size, o3, Nat.add_assoc, ← Nat.add_mul]
                exact Nat.le_trans (Nat.add_le_add_left (Nat.mul_le_mul_right _ (by omega)) _) hs
              have hcells : ∀ j, j < news.length → (w.cell? ⟨b, off + l.length * i.size + j, none⟩).isSome = true := by
                intro j hj
                simp [World.cell?, o2, show off + l.length * i.size + j < arr.size by omega]
              have hfroz : ∀ j, j < news.length → w.frozen? ⟨b, off + l.length * i.size + j, none⟩ = false := by
                intro j hj
                simp [World.frozen?, o2]
              have hone := hEL.one h8
              have hrun := run_append_room_src (P := P) w t u 0 e i hu hi b off l.length cap (a.eval x2) new.length news hsrc (by omega) hcells hfroz
              have hs1 := run_storeCells_cells (P := P) b (off + l.length * i.size) news 0 w (by simpa using hcells) (by simpa using hfroz) hone
              have hs2 := run_storeCells_at (P := P) b (off + l.length * i.size) e2 news 0 arr w o2 (by omega) hone
              have hsame : w.setCells b (off + l.length * i.size) news = w.setRow b (splice arr.toList (off + l.length * i.size) news).toArray := by
                have := hs1.symm.trans hs2
                simp only [Nat.add_zero, Result.ok.injEq, true_and] at this
                exact this
              rw [hsame] at hrun
              obtain ⟨w1, w2⟩ := hM.grow (l := .tmp s) (to := .tmp d) (by simp) ho (by rw [o3] at hfit; exact hfit) o2
              have hne : ∀ b' l' s', l' ≠ Loc.tmp s → g.own b' = some (l', s') → (g.grow (.tmp d) b (off + l.length * i.size) news size).own b' = some (l', s') := by
                intro b' l' s' hl' h
                show (if _ then _ else _) = _
                rw [if_neg]
                · exact h
                · intro eb
                  subst eb
                  rw [ho] at h
                  simp only [Option.some.injEq, Prod.mk.injEq] at h
                  exact hl' h.1.symm
              refine ⟨_, _, _, exec _ hz1 _ _ hrun, w1, ⟨w2, fun _ _ h => h, fun _ _ => rfl, fun b' s' h => hne b' _ s' (by simp) h⟩, fun q => ?_, ?_, rfl⟩
              · by_cases hq : q = s
                · subst hq
                  rw [stripAll_get, if_pos hm]
                  exact .val ((hT.get q).strip.mono w2 (fun _ _ h => h) (fun _ _ h => h))
                · exact (hT.strip take q).mono w2 (fun _ _ h => h) (fun _ _ h => h) (fun b' s' h => hne b' _ s' (by simpa using hq) h)
              · have hON := hO.append hEL
                have hlen2 : (l ++ new).length = l.length + new.length := by simp
                have hsl2 := (hON.mono w2).slc (c := .unk) (b := b) (off := off) (cap := cap) (by simp) (by omega) (fun h => by cases h) (fun j v hv => by
                  have hj : j < (olds ++ news).length := (List.getElem?_eq_some_iff.1 hv).1
                  by_cases hjo : j < olds.length
                  · rw [List.getElem?_append_left hjo] at hv
                    exact w2 _ _ (hO2 j v hv)
                  · rw [List.getElem?_append_right (by omega)] at hv
                    have hol := hO.size
                    simp at hj
                    show (if _ then _ else _) = _
                    rw [if_pos ⟨rfl, rfl, by simp; omega, by simp; omega⟩]
                    rw [← hv]
                    congr 1
                    simp
                    omega)
                have k2 := RL.own (g := g.grow (.tmp d) b (off + l.length * i.size) news size) (loc := .tmp d) i.size (l ++ new) b off cap size hsl2 (by
                  show (if _ then _ else _) = _
                  rw [if_pos rfl, hEL.size, hlen2, Nat.add_mul, Nat.add_assoc]) hs
                rw [hlen2] at k2
                exact k2
      · cases hv
    · cases hv

end
end Go.VA

/-
  A map that stays as it is: looked into by a text.
-/
namespace Go.VA
open Go Go.RowKit

section
variable {P : Program} {gl : Globs} {g : G} {tm : List AV} {a : Act} {take : List Nat} {base : Nat} {w0 w : World} {mem : Mem} {d : Nat} {r : AV × Mem} {op : Op}

theorem findNow_map {imm : Addr → Option Value} {map : Nat → Option Obj} {blk : Id → Option Nat} (s : List UInt8) : ∀ (kv : List AV) (es : List MapEntry) (ks : Nat → List UInt8) (vs : Nat → AV) (n : Nat), kv.length = es.length →
    (∀ i, i < kv.length → kv[i]? = some (.tup [.str (ks i), vs i])) → (∀ (i : Nat) e, es[i]? = some e → e.key = .string ⟨(ks i).toArray⟩) → (∀ (i : Nat) e, es[i]? = some e → RV imm map blk (vs i) e.val) →
    match kv.findSome? (mapFind s) with
    | some v => ∃ j x, Instr.findNow .string (.string ⟨s.toArray⟩) es n = some (some (j, x)) ∧ RV imm map blk v x
    | none => Instr.findNow .string (.string ⟨s.toArray⟩) es n = some none
  | [], [], _, _, _, _, _, _, _ => rfl
  | [], _ :: _, _, _, _, h, _, _, _ => by simp at h
  | _ :: _, [], _, _, _, h, _, _, _ => by simp at h
  | a :: kv, e :: es, ks, vs, n, hl, hk, he, hv => by
    have h0 := hk 0 (by simp)
    simp only [List.getElem?_cons_zero, Option.some.injEq] at h0
    subst h0
    have hkey := he 0 e rfl
    have hval := hv 0 e rfl
    have hsame : Instr.sameNow .string (.string ⟨s.toArray⟩) e.key = some (ks 0 == s) := by
      rw [hkey]
      show some (ByteArray.mk s.toArray == ByteArray.mk (ks 0).toArray) = some (ks 0 == s)
      congr 1
      have e1 : (ByteArray.mk s.toArray == ByteArray.mk (ks 0).toArray) = (s.toArray == (ks 0).toArray) := rfl
      rw [e1, Bool.eq_iff_iff]
      simp only [beq_iff_eq]
      constructor
      · intro h; have := congrArg Array.toList h; simpa using this.symm
      · intro h; rw [h]
    by_cases hs : ks 0 == s
    · have hf : List.findSome? (mapFind s) (.tup [.str (ks 0), vs 0] :: kv) = some (vs 0) := by
        simp [List.findSome?, mapFind, hs]
      rw [hf]
      exact ⟨n, e.val, by simp [Instr.findNow, hsame, hs], hval⟩
    · have hs' : (ks 0 == s) = false := by simpa using hs
      have hf : List.findSome? (mapFind s) (.tup [.str (ks 0), vs 0] :: kv) = List.findSome? (mapFind s) kv := by
        simp [List.findSome?, mapFind, hs']
      rw [hf]
      have ih := findNow_map (imm := imm) (map := map) (blk := blk) s kv es (fun i => ks (i + 1)) (fun i => vs (i + 1)) (n + 1) (by simpa using hl)
        (fun i hi => by have := hk (i + 1) (by simpa using hi); simpa using this) (fun i e hi => he (i + 1) e (by simpa using hi)) (fun i e hi => hv (i + 1) e (by simpa using hi))
      simp only [Instr.findNow, hsame, hs']
      exact ih

theorem op_lookup (hT : WT g tm a.tmps) (hgl : GlobOK gl g) (hM : WM base w0 g w mem) {z : AV} {ok : Bool} {y j : Opd} (hc : chkOp P gl op (.lookup z ok y j) = true) (he : evOp mem d (rho tm take) (.lookup z ok y j) = some r) : Plain P g a w mem op r := by
  cases op <;> simp only [chkOp, Bool.false_eq_true] at hc
  rename_i t x i ok'
  simp only [Bool.and_eq_true, beq_iff_eq] at hc
  obtain ⟨⟨⟨rfl, h1⟩, h2⟩, h3⟩ := hc
  split at h3
  · rename_i k e hu
    simp only [Bool.and_eq_true] at h3
    obtain ⟨h4, h5⟩ := h3
    have hk : P.underlying k = some .string := by
      cases hq : P.underlying k with
      | none => simp [hq] at h4
      | some dd => cases dd <;> simp [hq] at h4; rfl
    obtain ⟨inf, zv, hi, hzv, hcz⟩ : ∃ inf zv, P.info? e = some inf ∧ inf.zero = some zv ∧ constAV zv = some z := by
      split at h5
      · rename_i inf hi
        split at h5
        · rename_i zv hzv
          exact ⟨inf, zv, hi, hzv, by simpa using h5⟩
        · cases h5
      · cases h5
    simp only [evOp] at he
    split at he
    · rename_i kv s hy hj
      have r1 := rv_at hT hgl h1 hy rfl
      have r2 := rv_at hT hgl h2 hj rfl
      generalize hx : a.eval x = xv at r1
      generalize hix : a.eval i = iv at r2
      cases r2
      cases r1 with
      | map _ rr es clock hm ks vs hl hkk hek hp hv =>
        obtain ⟨hheap, _⟩ := hM.map rr _ hm
        have key := findNow_map (imm := g.imm) (map := g.map) (blk := g.blk) s ((List.range es.size).map fun i => AV.tup [.str (ks i), vs i]) es.toList ks vs 0 (by simp) (fun i hi => by
          rw [List.getElem?_map, List.getElem?_range (by simpa using hi)]; rfl) (fun i e hi => hek i e (by simpa using hi)) (fun i e hi => hv i e (by simpa using hi))
        rw [← hkk s] at key
        have hck : ∀ em, (Instr.checkKey em 10000 k (.string ⟨s.toArray⟩)).run P w = .ok () w := by
          intro em
          show (Instr.checkKey em (9999 + 1) k (.string ⟨s.toArray⟩)).run P w = .ok () w
          rw [Instr.checkKey]
          simp [run_underlying hk]
        cases hf : kv.findSome? (mapFind s) with
        | some v =>
          rw [hf] at key he
          obtain ⟨jj, xx, k1, k2⟩ := key
          cases he
          cases ok with
          | true =>
            refine ⟨rfl, .tuple #[xx, .bool true], fun _ _ _ _ _ => ?_, .tup _ _ rfl fun i u x hu' hx' => ?_⟩
            · simp [execOp, Instr.lookup, hx, hix, run_underlying hu, getObj, Sem.run, hheap, hck, Instr.findKey, run_underlying hk, k1]
            · rcases i with _ | _ | i <;> simp at hu' hx'
              · subst hu'; subst hx'; exact k2
              · subst hu'; subst hx'; exact .bool _
          | false =>
            refine ⟨rfl, xx, fun _ _ _ _ _ => ?_, k2⟩
            simp [execOp, Instr.lookup, hx, hix, run_underlying hu, getObj, Sem.run, hheap, hck, Instr.findKey, run_underlying hk, k1]
        | none =>
          rw [hf] at key he
          cases he
          cases ok with
          | true =>
            refine ⟨rfl, .tuple #[zv, .bool false], fun _ _ _ _ _ => ?_, .tup _ _ rfl fun i u x hu' hx' => ?_⟩
            · simp [execOp, Instr.lookup, hx, hix, run_underlying hu, getObj, Sem.run, hheap, hck, Instr.findKey, run_underlying hk, key, zeroValue, typeInfo, hi, hzv]
            · rcases i with _ | _ | i <;> simp at hu' hx'
              · subst hu'; subst hx'; exact constAV_rv _ hcz
              · subst hu'; subst hx'; exact .bool _
          | false =>
            refine ⟨rfl, zv, fun _ _ _ _ _ => ?_, constAV_rv _ hcz⟩
            simp [execOp, Instr.lookup, hx, hix, run_underlying hu, getObj, Sem.run, hheap, hck, Instr.findKey, run_underlying hk, key, zeroValue, typeInfo, hi, hzv]
    · cases he
  · cases h3

end
end Go.VA

/-
  Every operation that calls no function of the program; what the abstract memory keeps.
-/
namespace Go.VA
open Go Go.RowKit

def isStore : AOp → Bool
  | .store _ _ _ => true
  | _ => false

section
variable {P : Program} {gl : Globs} {g : G} {tm : List AV} {a : Act} {take : List Nat} {base : Nat} {w0 w : World} {mem : Mem} {d : Nat} {r : AV × Mem} {op : Op}

theorem op_all (hT : WT g tm a.tmps) (hgl : GlobOK gl g) (hM : WM base w0 g w mem) (hd : d < typMark) {ao : AOp} (hc : chkOp P gl op ao = true) (he : evOp mem d (rho tm take) ao = some r) :
    OpOut P base w0 g a w mem tm take op (isStore ao) d r := by
  cases ao with
  | mv y => exact op_mv hT hgl hM hc he
  | pick c x y => exact (op_pick hT hgl hc he).out hT hM
  | alloc z => exact op_alloc hT hM hd hc he
  | allocT t z => exact op_allocT hT hM hc he
  | box im y => cases im with
    | true => exact op_box_imm hT hgl hM hc he
    | false => exact op_box_mut hT hgl hM hd hc he
  | build z ps => exact (op_build hT hgl hc he).out hT hM
  | bslice im sz n z ps => exact op_bslice hT hgl hM hd hc he
  | load agg tk n y => cases tk with
    | true => exact op_load_take hT hgl hM hc he
    | false => exact (op_load hT hgl hM hc he).out hT hM
  | store n y z => exact op_store hT hgl hM hc he
  | nilchk y => exact (op_nilchk hT hgl hc he).out hT hM
  | bin b y z => exact (op_bin hT hgl hc he).out hT hM
  | eq k neg y z => cases k with
    | agg ks => exact (op_eq_agg hT hgl hc he).out hT hM
    | _ => exact (op_eq_nil hT hgl (by simp) hc he).out hT hM
  | un u y => exact (op_un hT hgl hc he).out hT hM
  | conv c y => exact (op_conv hT hgl hM hc he).out hT hM
  | mkif t y => exact (op_mkif hT hgl hc he).out hT hM
  | mkfn f ys => exact (op_mkfn hT hgl hc he).out hT hM
  | mkslc im sz bytes z n c => exact op_mkslc hT hgl hM hd hc he
  | slice k y lo hi mx => exact (op_slice hT hgl hc he).out hT hM
  | faddr off y => exact (op_faddr hT hgl hc he).out hT hM
  | field agg off n y => exact (op_field hT hgl hc he).out hT hM
  | iaddr arr sz y j => exact (op_iaddr hT hgl hc he).out hT hM
  | ixarr agg len sz y j => exact (op_ixarr hT hgl hc he).out hT hM
  | ixstr y j => exact (op_ixstr hT hgl hc he).out hT hM
  | lookup z ok y j => exact (op_lookup hT hgl hM hc he).out hT hM
  | tassert t ok z y => exact (op_tassert hT hgl hc he).out hT hM
  | extract y i => exact (op_extract hT hgl hc he).out hT hM
  | call f ys => simp [evOp] at he
  | invoke m y ys => simp [evOp] at he
  | len s y => exact (op_len hT hgl hc he).out hT hM
  | append sz bytes y z => exact op_append hT hgl hM hc he
  | min2 y z => exact (op_min2 hT hgl hc he).out hT hM
  | max2 y z => exact (op_max2 hT hgl hc he).out hT hM

end
end Go.VA
