/-
  Composite literals of slices; appends.
-/
import Derived.Test.YtifieekfojbkhaaGreatDoorVaOpsH
set_option linter.unusedSimpArgs false
set_option linter.unusedVariables false
namespace Go.VA
open Go Go.RowKit

section
variable {P : Program} {gl : Globs} {g : G} {tm : List AV} {a : Act} {take : List Nat} {base : Nat} {w0 w : World} {mem : Mem} {d : Nat} {r : AV × Mem} {op : Op}
variable {imm imm' : Addr → Option Value} {map : Nat → Option (Array MapEntry)} {blk : Id → Option Nat}

theorem splice_get {xs ys : List Value} {off : Nat} (h : off + ys.length ≤ xs.length) (k : Nat) : (splice xs off ys)[k]? = if off ≤ k ∧ k < off + ys.length then ys[k - off]? else xs[k]? := by
  unfold splice
  have l1 : (xs.take off).length = off := by simp; omega
  rw [List.append_assoc]
  by_cases h1 : k < off
  · rw [List.getElem?_append_left (by omega), List.getElem?_take_of_lt h1, if_neg (by omega)]
  · rw [List.getElem?_append_right (by omega), l1]
    by_cases h2 : k < off + ys.length
    · rw [List.getElem?_append_left (by omega), if_pos ⟨by omega, h2⟩]
    · rw [List.getElem?_append_right (by omega), List.getElem?_drop, if_neg (by omega)]
      congr 1
      omega

/-- A list of elements and a row of cells. -/
structure ER (imm : Addr → Option Value) (map : Nat → Option (Array MapEntry)) (blk : Id → Option Nat) (sz : Nat) (l : List AV) (xs : Array Value) : Prop where
  size : xs.size = l.length * sz
  ok : ∀ v, v ∈ l → v.okElem sz = true
  at' : ∀ (i : Nat) v (j : Nat) u x, l[i]? = some v → v.cells[j]? = some u → xs[i * sz + j]? = some x → RV imm map blk u x

theorem setElems_rv {sz : Nat} : ∀ (ps : List (Nat × AV)) (qs : List (Nat × Value)) (l l' : List AV) (xs : Array Value), ps.length = qs.length →
    (∀ (i : Nat) p q, ps[i]? = some p → qs[i]? = some q → p.1 = q.1 ∧ RV imm map blk p.2 q.2) → ER imm map blk sz l xs → setElems sz l ps = some l' →
    ∃ xs', Instr.fill (fun i => some (i * sz, sz)) xs qs = some xs' ∧ ER imm map blk sz l' xs' ∧ l'.length = l.length
  | [], [], l, l', xs, _, _, h, he => by
    simp only [setElems, Option.some.injEq] at he
    subst he
    exact ⟨xs, rfl, h, rfl⟩
  | [], _ :: _, _, _, _, hl, _, _, _ => by simp at hl
  | _ :: _, [], _, _, _, hl, _, _, _ => by simp at hl
  | (i, v) :: ps, (i', x) :: qs, l, l', xs, hl, hp, h, he => by
    simp only [setElems] at he
    split at he
    · rename_i hcond
      obtain ⟨c1, c2⟩ := hcond
      have h0 := hp 0 _ _ rfl rfl
      dsimp only at h0
      obtain ⟨rfl, hr⟩ := h0
      obtain ⟨o1, o2⟩ := okElem_spec c1
      have hun : v ≠ .undef := by
        intro e
        subst e
        have := (o2 .undef (by simp [AV.cells])).2
        simp [AV.one] at this
      have hcs := hr.cells hun
      have hxs : x.cells.size = sz := by have := hcs.1; simp at this; omega
      have hii : (i + 1) * sz ≤ l.length * sz := Nat.mul_le_mul_right sz (by omega)
      rw [Nat.add_mul] at hii
      have hle : i * sz + sz ≤ xs.size := by rw [h.size]; omega
      have hstep := fold_set (i * sz) x.cells.toList 0 xs (by simp; omega)
      have hfold : (x.cells.zipIdx.foldl (fun cs (p : Value × Nat) => cs.setIfInBounds (i * sz + p.2) p.1) xs).toList = splice xs.toList (i * sz) x.cells.toList := by
        rw [← Array.foldl_toList, Array.toList_zipIdx, hstep]
        simp [splice]
      have hspl : i * sz + x.cells.toList.length ≤ xs.toList.length := by simp; omega
      obtain ⟨xs', e1, e2, e3⟩ := setElems_rv ps qs (l.set i v) l' (x.cells.zipIdx.foldl (fun cs (p : Value × Nat) => cs.setIfInBounds (i * sz + p.2) p.1) xs) (by simpa using hl)
        (fun j p q hj hq => hp (j + 1) p q (by simpa using hj) (by simpa using hq))
        ⟨by rw [← Array.length_toList, hfold, splice_length hspl, List.length_set]; simpa using h.size,
         fun u hu => by
          rcases List.mem_or_eq_of_mem_set hu with h1 | h1
          · exact h.ok u h1
          · subst h1; exact c1,
         fun k u j q y hu hq hy => by
          rw [← Array.getElem?_toList, hfold, splice_get hspl] at hy
          rw [Array.length_toList, hxs] at hy
          by_cases hk : k = i
          · subst hk
            have : u = v := by rw [List.getElem?_set_self c2] at hu; exact (Option.some.inj hu).symm
            subst this
            have hj : j < sz := by have := (List.getElem?_eq_some_iff.1 hq).1; omega
            rw [if_pos ⟨by omega, by omega⟩, show k * sz + j - k * sz = j by omega] at hy
            exact hcs.2 j q y hq hy
          · rw [List.getElem?_set_ne (fun e => hk e.symm)] at hu
            have hj : j < sz := by have h1 := (okElem_spec (h.ok u (List.mem_of_getElem? hu))).1; have h2 := (List.getElem?_eq_some_iff.1 hq).1; omega
            have hne : ¬ (i * sz ≤ k * sz + j ∧ k * sz + j < i * sz + sz) := by
              rintro ⟨a1, a2⟩
              rcases Nat.lt_or_gt_of_ne hk with hlt | hgt
              · have : (k + 1) * sz ≤ i * sz := Nat.mul_le_mul_right sz (by omega)
                rw [Nat.add_mul] at this
                omega
              · have : (i + 1) * sz ≤ k * sz := Nat.mul_le_mul_right sz (by omega)
                rw [Nat.add_mul] at this
                omega
            rw [if_neg hne] at hy
            exact h.at' k u j q y hu hq (by simpa using hy)⟩ he
      refine ⟨xs', ?_, e2, by rw [e3, List.length_set]⟩
      simp only [Instr.fill]
      rw [if_neg (by simp [hxs]; omega)]
      exact e1
    · cases he

theorem elems_rel (hT : WT g tm a.tmps) (hgl : GlobOK gl g) : ∀ {parts : List (Nat × Operand)} {ps : List (Nat × Opd)}, chkElems gl parts ps = true →
    parts.length = ps.length ∧ ∀ (i : Nat) p q, (ps.map fun (i, x) => (i, (rho tm take x).strip))[i]? = some p → (parts.map fun (i, x) => (i, a.eval x))[i]? = some q → p.1 = q.1 ∧ RV g.imm g.map g.blk p.2 q.2
  | [], [], _ => ⟨rfl, fun i p q h => by simp at h⟩
  | [], _ :: _, h => by simp [chkElems] at h
  | _ :: _, [], h => by simp [chkElems] at h
  | (i, x) :: l, (j, y) :: m, h => by
    simp only [chkElems, Bool.and_eq_true, beq_iff_eq] at h
    obtain ⟨⟨rfl, h2⟩, h3⟩ := h
    obtain ⟨h4, h5⟩ := elems_rel hT hgl h3
    refine ⟨by simp [h4], fun k p q hp hq => ?_⟩
    cases k with
    | zero =>
      simp only [List.map_cons, List.length_cons, Nat.zero_lt_succ, List.getElem?_eq_getElem, List.getElem_cons_zero, Option.some.injEq] at hp hq
      subst hp; subst hq
      exact ⟨rfl, rv_opd hT hgl h2⟩
    | succ k => exact h5 k p q (by simpa using hp) (by simpa using hq)

theorem ER_zero {sz n : Nat} {z : List AV} {zv : Value} (hz : z.length = sz) (ho : z.all (fun u => u.pure && u.one) = true) (hzr : RVs imm map blk z zv.cells.toList) : ER imm map blk sz (toElems sz z n) (zrow zv.cells (n * sz)) := by
  refine ⟨by simp [zrow_size, toElems_eq], fun v hv => ?_, fun i v j u x hv hu hx => ?_⟩
  · rw [toElems_eq] at hv
    rw [List.eq_of_mem_replicate hv]
    exact elemZ_ok hz ho
  · have hk : i * sz + j < n * sz := by have := (Array.getElem?_eq_some_iff.1 hx).1; rwa [zrow_size] at this
    rw [zrow_get _ _ _ hk] at hx
    cases hx
    rw [toElems_eq] at hv
    have := List.eq_of_mem_replicate (List.mem_of_getElem? hv)
    subst this
    rw [elemZ_cells hz ho] at hu
    exact zero_cell hz hzr i j hu

theorem RVs_zero {sz n : Nat} {z : List AV} {zv : Value} (hz : z.length = sz) (hzr : RVs imm map blk z zv.cells.toList) : RVs imm map blk (List.replicate n z).flatten (zrow zv.cells (n * sz)).toList := by
  have hlenf : (List.replicate n z).flatten.length = n * sz := by simp [hz]
  have hsz : zv.cells.size = sz := by have := hzr.1; simp at this; omega
  refine ⟨by rw [hlenf]; simp [zrow_size], fun k u x hu hx => ?_⟩
  have hk : k < n * sz := by have := (List.getElem?_eq_some_iff.1 hu).1; omega
  have hx' : x = zv.cells[k % zv.cells.size]! := by
    have := zrow_get zv.cells (n * sz) k hk
    rw [← Array.getElem?_toList, hx] at this
    simpa using this
  subst hx'
  have hget : z[k % sz]? = some u := by
    have : ∀ (n k : Nat), k < n * sz → (List.replicate n z).flatten[k]? = z[k % sz]? := by
      intro n
      induction n with
      | zero => intro k hk; simp at hk
      | succ n ih =>
        intro k hk
        rw [List.replicate_succ, List.flatten_cons]
        by_cases hks : k < sz
        · rw [List.getElem?_append_left (by omega), Nat.mod_eq_of_lt hks]
        · rw [List.getElem?_append_right (by omega), hz, ih _ (by rw [Nat.add_mul] at hk; omega)]
          rw [Nat.mod_eq_sub_mod (by omega : sz ≤ k)]
    rw [← this _ _ hk]
    exact hu
  have := zero_cell hz hzr (k / sz) (k % sz) hget
  have h3 : k / sz * sz + k % sz = k := by rw [Nat.mul_comm]; exact Nat.div_add_mod k sz
  rw [h3] at this
  exact this

theorem op_bslice (hT : WT g tm a.tmps) (hgl : GlobOK gl g) (hM : WM base w0 g w mem) {im : Bool} {sz n : Nat} {z : List AV} {ps : List (Nat × Opd)} (hc : chkOp P gl op (.bslice im sz n z ps) = true)
    (he : evOp mem d (rho tm take) (.bslice im sz n z ps) = some r) : OpOut P base w0 g a w mem tm take op false d r := by
  cases op <;> simp only [chkOp, Bool.false_eq_true] at hc
  rename_i t len parts
  simp only [Bool.and_eq_true, beq_iff_eq, decide_eq_true_eq] at hc
  obtain ⟨⟨rfl, hbig⟩, h3⟩ := hc
  cases hu : P.underlying t with
  | none => simp [hu] at h3
  | some dd =>
  cases dd <;> first | (simp [hu] at h3; done) | skip
  rename_i e
  simp only [hu, Bool.and_eq_true, decide_eq_true_eq, beq_iff_eq] at h3
  obtain ⟨⟨⟨⟨⟨h4, h5⟩, h6⟩, h7⟩, h8⟩, h9⟩ := h3
  obtain ⟨i, zv, hi, hzv, hzr⟩ := zeroB_spec (imm := g.imm) (map := g.map) (blk := g.blk) h5
  obtain ⟨i', hi', hsz⟩ := szB_spec h4
  obtain rfl : i = i' := Option.some.inj (hi.symm.trans hi')
  obtain ⟨p1, p2⟩ := elems_rel (take := take) hT hgl h9
  -- the machine's step, from what 'fill' gives
  have run : ∀ xs', Instr.fill (fun i => some (i * sz, sz)) (zrow zv.cells (n * sz)) (parts.map fun (i, x) => (i, a.eval x)).toList = some xs' → ∀ dst ty pos after guard,
      (execOp a.eval ⟨dst, .buildSlice t n parts, ty, pos, after, guard⟩).run P w = .ok (.value (.slice (some ⟨w.heap.size, 0, none⟩) n n)) (w.alloc (.cells xs' e)) := by
    intro xs' hf _ _ _ _ _
    by_cases hn : n * sz = 0
    · have hn1 : ¬ n * sz > 16777216 := by omega
      have hf' : Instr.fill (fun i => some (i * sz, sz)) #[] (List.map (fun x => (x.1, a.eval x.2)) parts.toList) = some xs' := by
        rw [← hf, Array.toList_map]
        congr 1
        simp [zrow, hn, Array.range_zero']
      simp [execOp, Instr.buildSlice, run_underlying hu, sizeOf, typeInfo, hi, hsz, hn, newRow, Array.range_zero', hf']
    · have := run_buildSlice (P := P) w t e n (parts.map fun (i, x) => (i, a.eval x)) xs' i zv hu hi hzv (by rw [hsz]; omega) (by rw [hsz]; exact hn) (by rw [hsz]; exact hf)
      simp [execOp, this]
  cases im with
  | true =>
    simp only [evOp, Option.map_eq_some_iff] at he
    obtain ⟨l, hl, rfl⟩ := he
    obtain ⟨xs', e1, e2, e3⟩ := setElems_rv (imm := g.imm) (map := g.map) (blk := g.blk) _ (parts.map fun (i, x) => (i, a.eval x)).toList _ _ (zrow zv.cells (n * sz)) (by simp [p1]) (fun j p q hp hq => p2 j p q hp (by simpa using hq)) (ER_zero h6 h8 hzr) hl
    have hlen : l.length = n := by rw [e3]; simp [toElems_eq]
    obtain ⟨w1, w2⟩ := hM.newImm (arr := xs') (e := e)
    refine ⟨_, _, _, run xs' e1, w1, ⟨w2, fun _ _ h => h, fun _ _ => rfl, fun _ _ h => h⟩, fun s => (hT.strip take s).mono w2 (fun _ _ h => h) (fun _ _ h => h) (fun _ _ h => h), .val ?_, rfl⟩
    have := slc_of_flat (imm := (g.addImm w.heap.size xs').imm) (map := g.map) (blk := g.blk) (sz := sz) (l := l) (c := .exact) (b := w.heap.size) (off := 0) (cap := n)
      (fun k => xs'.getD k undef) (by simp) (by omega) (fun _ => hlen.symm) e2.ok (fun k hk => by
        show (if _ = _ then _ else _) = _
        rw [if_pos rfl]
        have : k < xs'.size := by rw [e2.size]; exact hk
        simp [this, Array.getD]) (fun i v j u hv hu => by
        have hk : i * sz + j < xs'.size := by
          rw [e2.size]
          have h1 := (okElem_spec (e2.ok v (List.mem_of_getElem? hv))).1
          have h2 := (List.getElem?_eq_some_iff.1 hu).1
          have h3 := (List.getElem?_eq_some_iff.1 hv).1
          have : (i + 1) * sz ≤ l.length * sz := Nat.mul_le_mul_right sz (by omega)
          rw [Nat.add_mul] at this
          omega
        exact (e2.at' i v j u _ hv hu (by simp [Array.getD, hk])).mono w2 (fun _ _ h => h) (fun _ _ h => h))
    rw [hlen] at this
    exact this
  | false =>
    simp only [evOp] at he
    split at he
    · rename_i hdef
      simp only [Option.bind_eq_some_iff] at he
      obtain ⟨c, hcc, he⟩ := he
      split at he
      · simp only [Option.map_eq_some_iff] at he
        obtain ⟨m, hm, rfl⟩ := he
        have strip_ne : ∀ {v : AV}, v.defd = true → v.strip ≠ .undef := by
          intro v hv
          cases v <;> first | (cases hv; done) | (simp [AV.strip]; done) | (rename_i c; cases c <;> simp [AV.strip])
        obtain ⟨xs', e1, e2, e3⟩ := fill_rv (imm := g.imm) (map := g.map) (blk := g.blk) (fun i => some (i * sz, sz)) _ (parts.map fun (i, x) => (i, a.eval x)).toList _ (zrow zv.cells (n * sz)) c (by simp [p1])
          (fun j p q hp hq => by
            rw [List.getElem?_map, Option.map_eq_some_iff] at hp
            obtain ⟨⟨i2, x⟩, hx, rfl⟩ := hp
            obtain ⟨k1, k2⟩ := p2 j (i2, (rho tm take x).strip) q (by rw [List.getElem?_map, hx]; rfl) (by simpa using hq)
            dsimp only at k1 k2
            exact ⟨by rw [← k1], strip_ne (List.all_eq_true.1 hdef _ (List.mem_of_getElem? hx)), k2⟩) (RVs_zero h6 hzr) hcc
        obtain ⟨w1, w2, w3⟩ := hM.newBlk (e := e) hm e2
        refine ⟨_, _, _, run xs' e1, w1, newBlk_ext _, fun s => (hT.strip take s).mono (fun _ _ h => h) (fun _ _ h => h) (addBlk_mono w2 _) (fun _ _ h => h), .val (.mslc _ _ _ _ _ _ _ ?_ (by omega) (fun _ => rfl)), w3⟩
        show (if _ = _ then _ else _) = _
        rw [if_pos rfl]
      · cases he
    · cases he

end
end Go.VA
