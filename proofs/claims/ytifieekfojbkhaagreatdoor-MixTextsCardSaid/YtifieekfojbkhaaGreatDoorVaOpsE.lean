/-
  More operations that leave the memory alone: loads, conversions, slices of slices, aggregates built.
-/
import Derived.Test.YtifieekfojbkhaaGreatDoorVaMem2
import Derived.Laws.BytesString
set_option linter.unusedSimpArgs false
set_option linter.unusedVariables false
namespace Go.VA
open Go Go.RowKit

section
variable {P : Program} {gl : Globs} {g : G} {tm : List AV} {a : Act} {take : List Nat} {base : Nat} {w0 w : World} {mem : Mem} {d : Nat} {r : AV × Mem} {op : Op}
variable {imm : Addr → Option Value} {map : Nat → Option (Array MapEntry)} {blk : Id → Option Nat}

theorem parts_rel (hT : WT g tm a.tmps) (hgl : GlobOK gl g) {place : Nat → Option (Nat × Nat)} : ∀ {parts : List (Nat × Operand)} {ps : List (Nat × Nat × Opd)}, chkParts P gl place parts ps = true →
    parts.length = ps.length ∧ ∀ (i : Nat) p q, (ps.map fun (o, s, x) => (o, s, (rho tm take x).strip))[i]? = some p → (parts.map fun (i, x) => (i, a.eval x))[i]? = some q →
      place q.1 = some (p.1, p.2.1) ∧ RV g.imm g.map g.blk p.2.2 q.2
  | [], [], _ => ⟨rfl, fun i p q h => by simp at h⟩
  | [], _ :: _, h => by simp [chkParts] at h
  | _ :: _, [], h => by simp [chkParts] at h
  | (i, x) :: l, (o, s, y) :: m, h => by
    simp only [chkParts, Bool.and_eq_true] at h
    obtain ⟨⟨h1, h2⟩, h3⟩ := h
    obtain ⟨h4, h5⟩ := parts_rel hT hgl h3
    refine ⟨by simp [h4], fun j p q hp hq => ?_⟩
    cases j with
    | zero =>
      simp only [List.map_cons, List.length_cons, Nat.zero_lt_succ, List.getElem?_eq_getElem, List.getElem_cons_zero, Option.some.injEq] at hp hq
      subst hp; subst hq
      refine ⟨?_, rv_opd hT hgl h2⟩
      cases hpl : place i with
      | none => simp [hpl] at h1
      | some v => obtain ⟨o', s'⟩ := v; simp [hpl] at h1; simp [h1]
    | succ j => exact h5 j p q (by simpa using hp) (by simpa using hq)

theorem zeroB_spec {t : TypeId} {z : List AV} (h : zeroB P t z = true) : ∃ i zv, P.info? t = some i ∧ i.zero = some zv ∧ RVs imm map blk z zv.cells.toList := by
  unfold zeroB at h
  split at h
  · rename_i i hi
    split at h
    · rename_i zv hz
      exact ⟨i, zv, hi, hz, constAVs_rv _ (by simpa using h)⟩
    · cases h
  · cases h

theorem places_ok : ∀ (fs : List Field), fs.all (fun f => (P.info? f.type).isSome) = true → fs.mapM (fun f => (P.info? f.type).map fun i => (f.offset, i.size)) = some (fs.map fun f => (f.offset, P.cellsOf f.type))
  | [], _ => rfl
  | f :: fs, h => by
    simp only [List.all_cons, Bool.and_eq_true] at h
    obtain ⟨i, hi⟩ := Option.isSome_iff_exists.1 h.1
    simp [List.mapM_cons, hi, places_ok fs h.2, Program.cellsOf]

theorem defd_ne {v : AV} (h : v.defd = true) : v ≠ .undef := by intro e; subst e; cases h

theorem op_build (hT : WT g tm a.tmps) (hgl : GlobOK gl g) {z : List AV} {ps : List (Nat × Nat × Opd)} (hc : chkOp P gl op (.build z ps) = true) (he : evOp mem d (rho tm take) (.build z ps) = some r) : Plain P g a w mem op r := by
  cases op <;> simp only [chkOp, Bool.false_eq_true] at hc
  rename_i t parts
  simp only [Bool.and_eq_true] at hc
  obtain ⟨hz, hp⟩ := hc
  obtain ⟨i, zv, hi, hzv, hzr⟩ := zeroB_spec (imm := g.imm) (map := g.map) (blk := g.blk) hz
  simp only [evOp] at he
  split at he
  case isFalse => cases he
  rename_i hnu
  simp only [Option.map_eq_some_iff] at he
  obtain ⟨c, hcc, rfl⟩ := he
  have strip_ne : ∀ {v : AV}, v ≠ .undef → v.strip ≠ .undef := by
    intro v hv
    cases v <;> first | exact absurd rfl hv | (simp [AV.strip]; done) | (rename_i c; cases c <;> simp [AV.strip])
  have fin : ∀ place, chkParts P gl place parts.toList ps = true → P.built t (parts.map fun (i, x) => (i, a.eval x)).toList = Instr.fill place zv.cells (parts.map fun (i, x) => (i, a.eval x)).toList → Plain P g a w mem (.build t parts) (.agg c, mem) := by
    intro place hpl hb
    obtain ⟨h1, h2⟩ := parts_rel (take := take) hT hgl hpl
    obtain ⟨xs', e1, e2, e3⟩ := fill_rv (imm := g.imm) (map := g.map) (blk := g.blk) place (ps.map fun (o, s, x) => (o, s, (rho tm take x).strip)) (parts.map fun (i, x) => (i, a.eval x)).toList z zv.cells c (by simp [h1])
      (fun j p q hp hq => by
        obtain ⟨k1, k2⟩ := h2 j p q hp (by simpa using hq)
        refine ⟨k1, ?_, k2⟩
        rw [List.getElem?_map, Option.map_eq_some_iff] at hp
        obtain ⟨⟨o, s, x⟩, hx, rfl⟩ := hp
        exact strip_ne (defd_ne (List.all_eq_true.1 hnu _ (List.mem_of_getElem? hx)))) hzr hcc
    refine ⟨rfl, .agg xs', fun _ _ _ _ _ => by simp [execOp, run_build w t (parts.map fun (i, x) => (i, a.eval x)) xs' (hb.trans e1)], .agg _ _ (by have := e2.1; simpa using this) fun i u x hu hx => e2.2 i u x hu (by simpa using hx)⟩
  split at hp
  · rename_i fs hu
    simp only [Bool.and_eq_true] at hp
    refine fin _ hp.2 ?_
    unfold Program.built
    simp only [hi, hu, hzv, places_ok fs.toList hp.1]
    congr 1
    funext k
    simp
  · rename_i n e hu
    simp only [Bool.and_eq_true] at hp
    obtain ⟨j, hj⟩ := Option.isSome_iff_exists.1 hp.1
    refine fin _ hp.2 ?_
    unfold Program.built
    simp only [hi, hu, hzv, hj, Program.cellsOf, Option.map_some, Option.getD_some]
  · cases hp

theorem agg_load {t : TypeId} {n : Nat} {agg : Bool} (h1 : isAggB P t = agg) (h2 : hasU P t = true) (h3 : szB P t n = true) {l : List AV} {b off : Nat} {vs : Nat → Value} (hcell : ∀ j, j < l.length → w.cell? ⟨b, off + j, none⟩ = some (vs j))
    (h : ∀ (j : Nat) u, l[j]? = some u → RV imm map blk u (vs j)) {v : AV} (hv : (if agg then (if n ≤ l.length then some (.agg (l.take n)) else none) else l[0]?) = some v) :
    ∃ x, (Instr.loadAt t (.pointer (some ⟨b, off, none⟩))).run P w = .ok x w ∧ RV imm map blk v x := by
  subst h1
  cases hb : isAggB P t with
  | false =>
    simp only [hb, Bool.false_eq_true, if_false] at hv
    have hlt := (List.getElem?_eq_some_iff.1 hv).1
    refine ⟨vs 0, ?_, h 0 v hv⟩
    simp [Instr.loadAt, Instr.sureAddr, loadVar, isAgg_run h2, hb, load, Sem.run, show w.cell? ⟨b, off, none⟩ = some (vs 0) from hcell 0 hlt]
  | true =>
    simp only [hb, if_true] at hv
    split at hv
    · rename_i hle
      cases hv
      refine ⟨.agg ((List.range n).map vs).toArray, ?_, .agg _ _ (by simp; omega) fun i u x hu hx => ?_⟩
      · have := run_loadCells (P := P) w ⟨b, off, none⟩ n vs (fun j hj => by rw [Addr.add_lit]; exact hcell j (by omega))
        simp [Instr.loadAt, Instr.sureAddr, loadVar, isAgg_run h2, hb, sizeOf_run h3, this]
      · have hin : i < n := by have := (List.getElem?_eq_some_iff.1 hu).1; simp at this; omega
        rw [List.getElem?_take_of_lt hin] at hu
        have : x = vs i := by simpa [hin] using hx.symm
        subst this
        exact h i u hu
    · cases hv

theorem op_load (hT : WT g tm a.tmps) (hgl : GlobOK gl g) (hM : WM base w0 g w mem) {agg : Bool} {n : Nat} {y : Opd} (hc : chkOp P gl op (.load agg false n y) = true) (he : evOp mem d (rho tm take) (.load agg false n y) = some r) : Plain P g a w mem op r := by
  cases op <;> simp only [chkOp, Bool.false_eq_true] at hc
  rename_i t x
  simp only [Bool.and_eq_true, beq_iff_eq] at hc
  obtain ⟨⟨⟨h1, h2⟩, h3⟩, h4⟩ := hc
  simp only [evOp] at he
  have h5 := rv_opd (take := take) hT hgl h4
  generalize hz : a.eval x = z at h5
  split at he
  · rename_i l hl
    rw [hl] at h5
    cases h5 with
    | rptr _ b off vs hp hi h =>
    have key : ∃ v, (if agg then (if n ≤ l.length then some (AV.agg (l.take n)) else none) else l[0]?) = some v ∧ r = (v, mem) := by
      cases agg with
      | true =>
        simp only [if_true] at he ⊢
        split at he
        · rename_i hle; cases he; exact ⟨_, by rw [if_pos hle], rfl⟩
        · cases he
      | false =>
        simp only [Bool.false_eq_true, if_false, Option.map_eq_some_iff] at he ⊢
        obtain ⟨v, hv, rfl⟩ := he
        exact ⟨v, hv, rfl⟩
    obtain ⟨v, hv, rfl⟩ := key
    obtain ⟨xv, hx, hr⟩ := agg_load (P := P) (w := w) h1 h2 h3 (fun j hj => hM.imm _ _ (hi j hj)) h hv
    exact ⟨rfl, xv, fun _ _ _ _ _ => by simp [execOp, hz, hx], hr⟩
  · rename_i i off hl
    rw [hl] at h5
    cases h5 with
    | ptr _ _ b hb =>
    simp only [Option.bind_eq_some_iff] at he
    obtain ⟨c, hget, he⟩ := he
    obtain ⟨k1, k2, c', arr, e, k3, k4, k5, k6⟩ := hM.blk i b hb
    obtain rfl : c = c' := Option.some.inj (hget.symm.trans k3)
    have key : ∃ v, (if agg then (if n ≤ ((c.drop off).map AV.strip).length then some (AV.agg (((c.drop off).map AV.strip).take n)) else none) else ((c.drop off).map AV.strip)[0]?) = some v ∧ r = (v, mem) := by
      cases agg with
      | true =>
        simp only [if_true] at he ⊢
        split at he
        · rename_i hle; cases he; exact ⟨_, by rw [if_pos (by simp; omega)], by rw [List.map_take]⟩
        · cases he
      | false =>
        simp only [Bool.false_eq_true, if_false, Option.map_eq_some_iff] at he ⊢
        obtain ⟨v, hv, rfl⟩ := he
        exact ⟨_, by rw [List.getElem?_map, List.getElem?_drop]; simp [hv], rfl⟩
    obtain ⟨v, hv, rfl⟩ := key
    have hlt : ∀ j, j < ((c.drop off).map AV.strip).length → off + j < arr.size := by intro j hj; simp at hj; omega
    obtain ⟨xv, hx, hr⟩ := agg_load (P := P) (w := w) (b := b) (off := off) (vs := fun j => arr.getD (off + j) undef) h1 h2 h3
      (fun j hj => by simp [World.cell?, k4, Array.getD, hlt j hj])
      (fun j u hu => by
        rw [List.getElem?_map, Option.map_eq_some_iff] at hu
        obtain ⟨u', hu', rfl⟩ := hu
        rw [List.getElem?_drop] at hu'
        have hj : off + j < arr.size := by have := (List.getElem?_eq_some_iff.1 hu').1; omega
        exact (k6 (off + j) u' _ hu' (by simp [Array.getD, hj])).strip) hv
    exact ⟨rfl, xv, fun _ _ _ _ _ => by simp [execOp, hz, hx], hr⟩
  · cases he

theorem convert_int {s t : TypeId} {ds : TypeDesc} {k k0 : IntKind} {n : Int} (hs : P.underlying s = some ds) (ht : P.underlying t = some (.int k)) : (Go.convert s t (.int k0 n)).run P w = .ok (.int k (k.wrap n)) w := by
  simp [Go.convert, run_underlying hs, run_underlying ht, Conv.intToInt]

theorem op_conv (hT : WT g tm a.tmps) (hgl : GlobOK gl g) (hM : WM base w0 g w mem) {c : CKind} {y : Opd} (hc : chkOp P gl op (.conv c y) = true) (he : evOp mem d (rho tm take) (.conv c y) = some r) : Plain P g a w mem op r := by
  cases op <;> simp only [chkOp, Bool.false_eq_true] at hc
  rename_i s t x
  simp only [Bool.and_eq_true] at hc
  obtain ⟨h1, h2⟩ := hc
  simp only [evOp, Option.map_eq_some_iff] at he
  obtain ⟨v, hv, rfl⟩ := he
  have h5 := rv_opd (take := take) hT hgl h1
  generalize hz : a.eval x = z at h5
  unfold VA.conv at hv
  split at hv
  · rename_i k k0 n hx
    cases hv
    rw [hx] at h5
    cases h5
    cases hs : P.underlying s with
    | none => simp [hs] at h2
    | some ds =>
    cases ht : P.underlying t with
    | none => simp [hs, ht] at h2
    | some dt =>
    cases dt <;> first | (simp [hs, ht] at h2; done) | skip
    rename_i k'
    have hk : k = k' := by simpa [hs, ht] using h2
    subst hk
    exact ⟨rfl, .int k (k.wrap n), fun _ _ _ _ _ => by simp [execOp, hz, VA.convert_int hs ht], .int _ _⟩
  · rename_i l hx
    cases hv
    rw [hx] at h5
    cases h5
    cases hs : P.underlying s with
    | none => simp [hs] at h2
    | some ds =>
    cases ht : P.underlying t with
    | none => simp [hs, ht] at h2
    | some dt =>
    cases ds <;> cases dt <;> first | (simp [hs, ht] at h2; done) | skip
    exact ⟨rfl, _, fun _ _ _ _ _ => by simp [execOp, hz, Go.convert, run_underlying hs, run_underlying ht], .str _⟩
  · rename_i l c hx
    split at hv
    · cases hv
    · rename_i hc
      simp only [Option.map_eq_some_iff] at hv
      obtain ⟨s', hs', rfl⟩ := hv
      obtain rfl := u8s_spec hs'
      rw [hx] at h5
      have hstrip : (AV.slc 1 (byteCells s') c).strip = .slc 1 (byteCells s') c := by cases c <;> first | exact absurd rfl hc | rfl
      rw [hstrip] at h5
      cases hs : P.underlying s with
      | none => simp [hs] at h2
      | some ds =>
      cases ht : P.underlying t with
      | none => simp [hs, ht] at h2
      | some dt =>
      cases ds <;> cases dt <;> first | (simp [hs, ht] at h2; done) | skip
      rename_i e
      have hu8 : P.underlying e = some (.int .u8) := by
        simp only [hs, ht] at h2
        split at h2
        · assumption
        · cases h2
      cases h5 with
      | slc _ _ _ b off cap vs hc' hle hx' hp hi h =>
      have hcells : ∀ j, j < (byteCells s').length → w.cell? ((⟨b, off, none⟩ : Addr).add j) = some (Value.int .u8 ((s'.getD j 0).toNat : Int)) := by
        intro j hj
        rw [Addr.add_lit]
        have h1 := hM.imm _ _ (hi j 0 hj (by omega))
        have hj' : j < s'.length := by simpa [byteCells] using hj
        have h2 := h j (.int .u8 ((s'.getD j 0).toNat : Int)) 0 (.int .u8 ((s'.getD j 0).toNat : Int)) (by simp [byteCells, hj', List.getD]) rfl
        generalize vs j 0 = q at h1 h2
        cases h2
        simpa using h1
      have hl := run_loadCells (P := P) w ⟨b, off, none⟩ (byteCells s').length _ hcells
      have hmap : (List.map (fun j => Value.int .u8 ((s'.getD j 0).toNat : Int)) (List.range (byteCells s').length)) = (s'.map fun q => (q.toNat : Int)).map (Value.int .u8) := by
        apply List.ext_getElem?
        intro j
        by_cases hj : j < s'.length
        · simp [byteCells, hj, List.getD]
        · simp [byteCells, hj]
      rw [hmap] at hl
      have hfold : ∀ (l : List UInt8) (acc : ByteArray), (l.map fun q => (q.toNat : Int)).foldl (fun r n => r.push (UInt8.ofNat n.toNat)) acc = ⟨acc.data ++ l.toArray⟩ := by
        intro l
        induction l with
        | nil => intro acc; simp
        | cons q l ih =>
          intro acc
          simp only [List.map_cons, List.foldl_cons, ih]
          congr 1
          simp [ByteArray.push]
      refine ⟨rfl, .string ⟨s'.toArray⟩, fun _ _ _ _ _ => ?_, .str _⟩
      simp only [execOp, hz, Sem.run_bind, run_convert_bytes_string w s t e _ _ _ hs hu8 ht, run_bytesToString w _ _ _ _ hl, hfold]
      have h0 : ByteArray.empty.data ++ s'.toArray = s'.toArray := by show #[] ++ _ = _; simp
      simp
  · rename_i hx
    cases hv
    rw [hx] at h5
    cases h5
    cases hs : P.underlying s with
    | none => simp [hs] at h2
    | some ds =>
    cases ht : P.underlying t with
    | none => simp [hs, ht] at h2
    | some dt =>
    cases ds <;> cases dt <;> first | (simp [hs, ht] at h2; done) | skip
    rename_i e
    have hu8 : P.underlying e = some (.int .u8) := by
      simp only [hs, ht] at h2
      split at h2
      · assumption
      · cases h2
    refine ⟨rfl, .string ⟨#[]⟩, fun _ _ _ _ _ => ?_, .str []⟩
    have h0 : (ByteArray.mk #[]) = ByteArray.empty := rfl
    rw [h0]
    simp [execOp, hz, run_convert_bytes_string w s t e _ _ _ hs hu8 ht, Go.Conv.bytesToString]
  · cases hv

def rvO (g : G) : Option AV → Option Value → Prop
  | none, none => True
  | some v, some x => RV g.imm g.map g.blk v x
  | _, _ => False

theorem rv_opdO (hT : WT g tm a.tmps) (hgl : GlobOK gl g) {x : Option Operand} {y : Option Opd} (h : chkOpdO gl x y = true) : rvO g ((y.map (rho tm take)).map AV.strip) (x.map a.eval) := by
  cases x <;> cases y <;> simp only [chkOpdO, Bool.false_eq_true] at h
  · trivial
  · exact rv_opd hT hgl h

theorem strip_int {v : AV} {k : IntKind} {n : Int} (h : v.strip = .int k n) : v = .int k n := by
  cases v <;> first | exact h | (rename_i c; cases c <;> simp [AV.strip] at h)

/-- What 'bounds' says of the machine's bounds: the greatest one may be more than is known. -/
theorem bounds_run {g : G} {len cap' cap : Nat} {hasCap : Bool} {lo hi mx : Option AV} {xl xh xm : Option Value} {l h m : Nat} (hb : bounds len cap' hasCap lo hi mx = some (l, h, m)) (hlen : len ≤ cap') (hcap : cap' ≤ cap)
    (h1 : rvO g (lo.map AV.strip) xl) (h2 : rvO g (hi.map AV.strip) xh) (h3 : rvO g (mx.map AV.strip) xm) (isS : Bool) (w : World) :
    l ≤ h ∧ h ≤ m ∧ m ≤ cap' ∧ (mx = none → m = cap') ∧ (hasCap = false → mx = none) ∧
    (Instr.sliceBounds isS len cap xl xh xm).run P w = .ok (l, h, if mx = none then cap else m) w := by
  have int : ∀ {v x k n}, v = AV.int k n → RV g.imm g.map g.blk v.strip x → x = .int k n := by
    intro v x k n e hr
    subst e
    cases hr
    rfl
  unfold bounds at hb
  split at hb
  · cases hb
    cases xl <;> first | exact h1.elim | skip
    cases xh <;> first | exact h2.elim | skip
    cases xm <;> first | exact h3.elim | skip
    exact ⟨by omega, by omega, by omega, fun _ => rfl, fun _ => rfl, by simp [Instr.sliceBounds]⟩
  · rename_i k n
    split at hb
    · rename_i hn
      cases hb
      cases xl <;> first | exact h1.elim | skip
      cases xh <;> first | exact h2.elim | skip
      cases xm <;> first | exact h3.elim | skip
      rename_i xl
      obtain rfl := int rfl h1
      exact ⟨by omega, by omega, by omega, fun _ => rfl, fun _ => rfl, by simp [Instr.sliceBounds, run_sliceBound w _ _ _ _ hn.1 hn.2]⟩
    · cases hb
  · rename_i k n
    split at hb
    · rename_i hn
      cases hb
      cases xl <;> first | exact h1.elim | skip
      cases xh <;> first | exact h2.elim | skip
      cases xm <;> first | exact h3.elim | skip
      rename_i xh
      obtain rfl := int rfl h2
      have hn2 : n ≤ (cap : Int) := by omega
      exact ⟨by omega, by omega, by omega, fun _ => rfl, fun _ => rfl, by simp [Instr.sliceBounds, run_sliceBound w _ _ _ _ hn.1 hn2]⟩
    · cases hb
  · rename_i k n k' n'
    split at hb
    · rename_i hn
      cases hb
      cases xl <;> first | exact h1.elim | skip
      cases xh <;> first | exact h2.elim | skip
      cases xm <;> first | exact h3.elim | skip
      rename_i xl xh
      obtain rfl := int rfl h2
      obtain rfl := int rfl h1
      have hn2 : n ≤ (cap : Int) := by omega
      have hn0 : 0 ≤ n := by omega
      have hn3 : n' ≤ (n.toNat : Int) := by omega
      exact ⟨by omega, by omega, by omega, fun _ => rfl, fun _ => rfl, by simp [Instr.sliceBounds, run_sliceBound w _ _ _ _ hn0 hn2, run_sliceBound w _ _ _ _ hn.1 hn3]⟩
    · cases hb
  · rename_i k n k' n'
    split at hb
    · rename_i hn
      cases hb
      cases xl <;> first | exact h1.elim | skip
      cases xh <;> first | exact h2.elim | skip
      cases xm <;> first | exact h3.elim | skip
      rename_i xh xm
      obtain rfl := int rfl h2
      obtain rfl := int rfl h3
      have hn2 : n ≤ (cap : Int) := by omega
      have hn0 : 0 ≤ n := by omega
      have hn3 : n' ≤ (n.toNat : Int) := by omega
      exact ⟨by omega, by omega, by omega, (fun e => by cases e), (fun e => by simp [e] at hn), by simp [Instr.sliceBounds, run_sliceBound w _ _ _ _ hn0 hn2, run_sliceBound w _ _ _ _ hn.2.1 hn3]⟩
    · cases hb
  · rename_i k n k' n' k2 n2
    split at hb
    · rename_i hn
      cases hb
      cases xl <;> first | exact h1.elim | skip
      cases xh <;> first | exact h2.elim | skip
      cases xm <;> first | exact h3.elim | skip
      rename_i xl xh xm
      obtain rfl := int rfl h1
      obtain rfl := int rfl h2
      obtain rfl := int rfl h3
      have hn2 : n ≤ (cap : Int) := by omega
      have hn0 : 0 ≤ n := by omega
      have hn1 : 0 ≤ n' := by omega
      have hn3 : n' ≤ (n.toNat : Int) := by omega
      have hn4 : n2 ≤ (n'.toNat : Int) := by omega
      exact ⟨by omega, by omega, by omega, (fun e => by cases e), (fun e => by simp [e] at hn),
        by simp [Instr.sliceBounds, run_sliceBound w _ _ _ _ hn0 hn2, run_sliceBound w _ _ _ _ hn1 hn3, run_sliceBound w _ _ _ _ hn.2.1 hn4]⟩
    · cases hb
  · cases hb

theorem slc_sub {sz : Nat} {l : List AV} {c c' : Cap} {b off cap : Nat} (h : RV imm map blk (.slc sz l c) (.slice (some ⟨b, off, none⟩) l.length cap)) {lo hi cap2 : Nat} (h1 : lo ≤ hi) (h2 : hi ≤ l.length) (hc : c' ≠ .own)
    (hle : hi - lo ≤ cap2) (hx : c' = .exact → cap2 = hi - lo) (ad : Nat) (had : lo < hi → ad = off + lo * sz) :
    RV imm map blk (.slc sz ((l.take hi).drop lo) c') (.slice (some ⟨b, ad, none⟩) (hi - lo) cap2) := by
  cases h with
  | slc _ _ _ _ _ _ vs hc' hle' hx' hp hi' h' =>
  have hlen : ((l.take hi).drop lo).length = hi - lo := by simp; omega
  have key : ∀ (i : Nat) v, ((l.take hi).drop lo)[i]? = some v → l[lo + i]? = some v ∧ i < hi - lo := by
    intro i v hv
    have hlt : i < hi - lo := by have := (List.getElem?_eq_some_iff.1 hv).1; omega
    rw [List.getElem?_drop, List.getElem?_take_of_lt (by omega)] at hv
    exact ⟨hv, hlt⟩
  rw [← hlen]
  refine .slc sz _ c' b ad cap2 (fun i j => vs (lo + i) j) hc (by omega) (fun e => by rw [hlen]; exact hx e) (fun v hv => hp v ?_) (fun i j hi2 hj => ?_) (fun i v j u hv hu => ?_)
  · exact List.mem_of_mem_take (List.mem_of_mem_drop hv)
  · rw [had (by omega), Nat.add_assoc, show lo * sz + (i * sz + j) = (lo + i) * sz + j by rw [Nat.add_mul]; omega]
    exact hi' (lo + i) j (by omega) hj
  · exact h' (lo + i) v j u (key i v hv).1 hu

theorem op_slice (hT : WT g tm a.tmps) (hgl : GlobOK gl g) {k : SKind} {y : Opd} {lo hi mx : Option Opd} (hc : chkOp P gl op (.slice k y lo hi mx) = true) (he : evOp mem d (rho tm take) (.slice k y lo hi mx) = some r) : Plain P g a w mem op r := by
  cases op <;> simp only [chkOp, Bool.false_eq_true] at hc
  rename_i t x lo' hi' mx'
  simp only [Bool.and_eq_true] at hc
  obtain ⟨⟨⟨⟨h1, h2⟩, h3⟩, h4⟩, h5⟩ := hc
  simp only [evOp, Option.map_eq_some_iff] at he
  obtain ⟨v, hv, rfl⟩ := he
  have k1 := rv_opd (take := take) hT hgl h1
  have k2 := rv_opdO (take := take) hT hgl h2
  have k3 := rv_opdO (take := take) hT hgl h3
  have k4 := rv_opdO (take := take) hT hgl h4
  generalize hz : a.eval x = z at k1
  have exec : ∀ dst ty pos after guard res, (Instr.sliceAt t z (lo'.map a.eval) (hi'.map a.eval) (mx'.map a.eval)).run P w = .ok res w →
      (execOp a.eval ⟨dst, .slice t x lo' hi' mx', ty, pos, after, guard⟩).run P w = .ok (.value res) w := by
    intro _ _ _ _ _ res hr
    simp [execOp, hz, hr]
  cases k with
  | str =>
    have hu : P.underlying t = some .string := by
      cases hu : P.underlying t with
      | none => simp [hu] at h5
      | some dd => cases dd <;> first | rfl | simp [hu] at h5
    generalize hq : (rho tm take y).strip = q at hv k1
    cases q <;> first | (simp [VA.slice] at hv; done) | skip
    rename_i s
    cases k1
    simp only [VA.slice, Option.map_eq_some_iff] at hv
    obtain ⟨⟨l, h, m⟩, hb, rfl⟩ := hv
    obtain ⟨b1, b2, b3, b4, b5, hrun⟩ := bounds_run (P := P) hb (Nat.le_refl _) (Nat.le_refl _) k2 k3 k4 false w
    have hmx : mx' = none := by
      have := b5 rfl
      cases mx <;> simp at this
      cases mx' <;> simp [chkOpdO] at h4
      rfl
    subst hmx
    have hmx2 : mx = none := by cases mx <;> simp [chkOpdO] at h4; rfl
    subst hmx2
    refine ⟨rfl, .string ⟨((s.take h).drop l).toArray⟩, fun _ _ _ _ _ => exec _ _ _ _ _ _ ?_, .str _⟩
    have hext : (ByteArray.mk s.toArray).extract l h = ⟨((s.take h).drop l).toArray⟩ := by
      apply ByteArray.ext
      rw [ByteArray.data_extract]
      simp [List.drop_take]
    simp only [Option.map_none] at hrun ⊢
    simp only [Instr.sliceAt, Instr.slice, Sem.run_bind, run_underlying hu, Result.andThen_ok]
    have hsz : (ByteArray.mk s.toArray).size = s.length := by simp [ByteArray.size]
    simp [hsz, hrun, hext]
  | slc sz =>
    obtain ⟨e, hu, hsz⟩ : ∃ e, P.underlying t = some (.slice e) ∧ szB P e sz = true := by
      cases hu : P.underlying t with
      | none => simp [hu] at h5
      | some dd => cases dd <;> first | exact ⟨_, rfl, by simpa [hu] using h5⟩ | simp [hu] at h5
    generalize hq : (rho tm take y).strip = q at hv k1
    cases q <;> first | (simp [VA.slice] at hv; done) | skip
    · -- nils
      cases k1
      simp only [VA.slice, Option.map_eq_some_iff] at hv
      obtain ⟨⟨l, h, m⟩, hb, rfl⟩ := hv
      obtain ⟨b1, b2, b3, b4, b5, hrun⟩ := bounds_run (P := P) hb (Nat.le_refl _) (Nat.le_refl _) k2 k3 k4 true w
      have hm : m = 0 := by omega
      have hl : l = 0 := by omega
      have hh : h = 0 := by omega
      subst hm; subst hl; subst hh
      refine ⟨rfl, .slice none 0 0, fun _ _ _ _ _ => exec _ _ _ _ _ _ ?_, .nils⟩
      simp [Instr.sliceAt, Instr.slice, run_underlying hu, hrun, sizeOf_run hsz]
    · -- slc
      rename_i sz' l c
      simp only [VA.slice] at hv
      split at hv
      · rename_i e'
        subst e'
        simp only [Option.map_eq_some_iff] at hv
        obtain ⟨⟨lo2, h, m⟩, hb, rfl⟩ := hv
        have k1' := k1
        cases k1 with
        | slc _ _ _ b off cap vs hc' hle hx hp hi2 h' =>
        obtain ⟨b1, b2, b3, b4, b5, hrun⟩ := bounds_run (P := P) hb (Nat.le_refl _) hle k2 k3 k4 true w
        generalize hM' : (if Option.map (rho tm take) mx = none then cap else m) = M at hrun
        have hMh : h ≤ M := by rw [← hM']; split <;> omega
        refine ⟨rfl, .slice (some (if M = lo2 then ⟨b, off, none⟩ else ⟨b, off + lo2 * sz, none⟩)) (h - lo2) (M - lo2), fun _ _ _ _ _ => exec _ _ _ _ _ _ ?_, ?_⟩
        · simp [Instr.sliceAt, Instr.slice, run_underlying hu, hrun, sizeOf_run hsz, Addr.add_lit]
          split <;> rfl
        · have fin : ∀ c', c' ≠ .own → (c' = .exact → M - lo2 = h - lo2) → RV g.imm g.map g.blk (.slc sz ((l.take h).drop lo2) c')
              (.slice (some (if M = lo2 then ⟨b, off, none⟩ else ⟨b, off + lo2 * sz, none⟩)) (h - lo2) (M - lo2)) := by
            intro c' h1 h2
            split
            · exact slc_sub k1' b1 (by omega) h1 (by omega) h2 _ (by omega)
            · exact slc_sub k1' b1 (by omega) h1 (by omega) h2 _ (fun _ => rfl)
          split
          · rename_i hcond
            refine fin .exact (by simp) (fun _ => ?_)
            simp only [Bool.and_eq_true, beq_iff_eq] at hcond
            rw [← hM', if_neg (by intro e; simp [e] at hcond)]
            omega
          · split
            · rename_i hcond
              refine fin .exact (by simp) (fun _ => ?_)
              obtain ⟨e1, e2⟩ := hcond
              have := hx e1
              rw [← hM']
              split
              · omega
              · omega
            · exact fin .unk (by simp) (fun e => by cases e)
      · cases hv
    · -- mslc
      rename_i i sz' off len
      simp only [VA.slice] at hv
      split at hv
      · rename_i e'
        subst e'
        simp only [Option.map_eq_some_iff] at hv
        obtain ⟨⟨lo2, h, m⟩, hb, rfl⟩ := hv
        cases k1 with
        | mslc _ _ _ _ b cap o hbk hcap ho =>
        obtain ⟨b1, b2, b3, b4, b5, hrun⟩ := bounds_run (P := P) hb (Nat.le_refl _) hcap k2 k3 k4 true w
        generalize hM' : (if Option.map (rho tm take) mx = none then cap else m) = M at hrun
        have hMh : h ≤ M := by rw [← hM']; split <;> omega
        refine ⟨rfl, .slice (some (if M = lo2 then ⟨b, o, none⟩ else ⟨b, o + lo2 * sz, none⟩)) (h - lo2) (M - lo2), fun _ _ _ _ _ => exec _ _ _ _ _ _ ?_, ?_⟩
        · simp [Instr.sliceAt, Instr.slice, run_underlying hu, hrun, sizeOf_run hsz, Addr.add_lit]
          split <;> rfl
        · split
          · exact .mslc i sz _ _ b _ _ hbk (by omega) (by omega)
          · exact .mslc i sz _ _ b _ _ hbk (by omega) (fun hlt => by rw [ho (by omega)])
      · cases hv
  | arr len sz =>
    obtain ⟨e, hu, hsz⟩ : ∃ e, P.underlying t = some (.array len e) ∧ szB P e sz = true := by
      cases hu : P.underlying t with
      | none => simp [hu] at h5
      | some dd =>
        cases dd <;> first | (simp [hu] at h5; done) | skip
        rename_i n e
        simp only [hu, Bool.and_eq_true, beq_iff_eq] at h5
        exact ⟨e, by rw [h5.1], h5.2⟩
    generalize hq : (rho tm take y).strip = q at hv k1
    cases q <;> first | (simp [VA.slice] at hv; done) | skip
    rename_i i off
    cases k1 with
    | ptr _ _ b hbk =>
    simp only [VA.slice, Option.map_eq_some_iff] at hv
    obtain ⟨⟨lo2, h, m⟩, hb, rfl⟩ := hv
    obtain ⟨b1, b2, b3, b4, b5, hrun⟩ := bounds_run (P := P) hb (Nat.le_refl _) (Nat.le_refl _) k2 k3 k4 false w
    generalize hM' : (if Option.map (rho tm take) mx = none then len else m) = M at hrun
    have hMh : h ≤ M := by rw [← hM']; split <;> omega
    refine ⟨rfl, .slice (some (if M = lo2 then ⟨b, off, none⟩ else ⟨b, off + lo2 * sz, none⟩)) (h - lo2) (M - lo2), fun _ _ _ _ _ => exec _ _ _ _ _ _ ?_, ?_⟩
    · simp [Instr.sliceAt, Instr.sureAddr, run_underlying hu, hrun, sizeOf_run hsz, Addr.add_lit]
    · split
      · exact .mslc i sz _ _ b _ _ hbk (by omega) (by omega)
      · exact .mslc i sz _ _ b _ _ hbk (by omega) (fun _ => rfl)

end
end Go.VA
