/-
  Slices made, composite literals of slices.
-/
import Derived.Test.YtifieekfojbkhaaGreatDoorVaOpsG
set_option linter.unusedSimpArgs false
set_option linter.unusedVariables false
namespace Go.VA
open Go Go.RowKit

section
variable {P : Program} {gl : Globs} {g : G} {tm : List AV} {a : Act} {take : List Nat} {base : Nat} {w0 w : World} {mem : Mem} {d : Nat} {r : AV × Mem} {op : Op}
variable {imm imm' : Addr → Option Value} {map : Nat → Option (Array MapEntry)} {blk : Id → Option Nat}

def elemZ (sz : Nat) (zero : List AV) : AV := match zero with | [v] => if sz = 1 then v else .agg [v] | l => .agg l

theorem toElems_eq (sz : Nat) (zero : List AV) (n : Nat) : toElems sz zero n = List.replicate n (elemZ sz zero) := rfl

theorem elemZ_cells {sz : Nat} {z : List AV} (hz : z.length = sz) (ho : z.all (fun u => u.pure && u.one) = true) : (elemZ sz z).cells = z := by
  unfold elemZ
  split
  · rename_i v
    have : sz = 1 := by simpa using hz.symm
    rw [if_pos this]
    simp only [List.all_cons, List.all_nil, Bool.and_true, Bool.and_eq_true] at ho
    cases v <;> first | rfl | (simp [AV.one] at ho; done)
  · rfl

theorem elemZ_ok {sz : Nat} {z : List AV} (hz : z.length = sz) (ho : z.all (fun u => u.pure && u.one) = true) : (elemZ sz z).okElem sz = true := by
  simp only [AV.okElem, elemZ_cells hz ho, hz, beq_self_eq_true, Bool.true_and]
  exact ho

/-- A row of zeros. -/
def zrow (zero : Array Value) (n : Nat) : Array Value := (Array.range n).map (zero[· % zero.size]!)

theorem zrow_get (zero : Array Value) (n k : Nat) (h : k < n) : (zrow zero n)[k]? = some (zero[k % zero.size]!) := by
  simp [zrow, h]

theorem zrow_size (zero : Array Value) (n : Nat) : (zrow zero n).size = n := by simp [zrow]

theorem zero_cell {sz : Nat} {z : List AV} {zv : Value} (hz : z.length = sz) (hzr : RVs imm map blk z zv.cells.toList) (i j : Nat) {u : AV} (hu : z[j]? = some u) : RV imm map blk u (zv.cells[(i * sz + j) % zv.cells.size]!) := by
  have hsz : zv.cells.size = sz := by have := hzr.1; simp at this; omega
  have hj : j < sz := by have := (List.getElem?_eq_some_iff.1 hu).1; omega
  have e2 : (i * sz + j) % sz = j := by rw [Nat.mul_comm, Nat.mul_add_mod, Nat.mod_eq_of_lt hj]
  rw [hsz, e2]
  have hj' : j < zv.cells.size := by omega
  refine hzr.2 j u _ hu ?_
  simp [getElem!_pos, hj']

theorem op_mkslc (hT : WT g tm a.tmps) (hgl : GlobOK gl g) (hM : WM base w0 g w mem) {im : Bool} {sz bytes : Nat} {z : List AV} {y1 y2 : Opd} (hc : chkOp P gl op (.mkslc im sz bytes z y1 y2) = true)
    (he : evOp mem d (rho tm take) (.mkslc im sz bytes z y1 y2) = some r) : OpOut P base w0 g a w mem tm take op false d r := by
  cases op <;> simp only [chkOp, Bool.false_eq_true] at hc
  rename_i t x1 x2
  simp only [Bool.and_eq_true] at hc
  obtain ⟨⟨h1, h2⟩, h3⟩ := hc
  cases hu : P.underlying t with
  | none => simp [hu] at h3
  | some dd =>
  cases dd <;> first | (simp [hu] at h3; done) | skip
  rename_i e
  simp only [hu, Bool.and_eq_true, decide_eq_true_eq, beq_iff_eq] at h3
  obtain ⟨⟨⟨⟨h4, h5⟩, h6⟩, h7⟩, h8⟩ := h3
  obtain ⟨i, zv, hi, hzv, hzr⟩ := zeroB_spec (imm := g.imm) (map := g.map) (blk := g.blk) h5
  simp only [hi, Bool.and_eq_true, beq_iff_eq] at h4
  obtain ⟨h9, h10⟩ := h4
  have hzs : zv.cells.size = sz := by have := hzr.1; simp at this; omega
  simp only [evOp] at he
  split at he
  · rename_i k l k' m e1 e2
    have q1 := rv_at hT hgl h1 e1 rfl
    have q2 := rv_at hT hgl h2 e2 rfl
    generalize hz1 : a.eval x1 = z1 at q1
    generalize hz2 : a.eval x2 = z2 at q2
    cases q1; cases q2
    split at he
    · rename_i hcond
      obtain ⟨c1, c2, c3⟩ := hcond
      have hmb : m * 1 ≤ m * (max bytes 1 : Nat) := Int.mul_le_mul_of_nonneg_left (by omega) (by omega)
      have hmb2 : m * bytes ≤ m * (max bytes 1 : Nat) := Int.mul_le_mul_of_nonneg_left (by omega) (by omega)
      have hroom : (room : Int) = 4294967296 := rfl
      have wl : IntKind.i64.wrap l = l := IntWalk.i64_in _ (by omega)
      have wm : IntKind.i64.wrap m = m := IntWalk.i64_in _ (by omega)
      have hbm : ((bytes : Int) * m > 2 ^ 48) = False := by rw [Int.mul_comm]; simp; omega
      have hbl : ((bytes : Int) * m) ≤ 4294967296 := by rw [Int.mul_comm]; omega
      -- the machine's step
      have run : ∀ dst ty pos after guard, (execOp a.eval ⟨dst, .makeSlice t x1 x2, ty, pos, after, guard⟩).run P w =
          .ok (.value (.slice (some ⟨w.heap.size, 0, none⟩) l.toNat m.toNat)) (w.alloc (.cells (zrow zv.cells (m.toNat * sz)) e)) := by
        intro _ _ _ _ _
        have n1 : ¬ m < 0 := by omega
        have n2 : ¬ l < 0 := by omega
        have n3 : ¬ m < l := by omega
        have n4 : ¬ (281474976710656 < (bytes : Int) * m) := by omega
        by_cases hm0 : m.toNat * sz = 0
        · simp [execOp, Instr.makeSlice, run_underlying hu, hz1, hz2, asInt, asIntOf, typeInfo, hi, h9, h10, wl, wm, n1, n2, n3, n4, sizeOf, newRow, zrow, hm0, Array.range_zero']
        · simp [execOp, Instr.makeSlice, run_underlying hu, hz1, hz2, asInt, asIntOf, typeInfo, hi, h9, h10, wl, wm, n1, n2, n3, n4, sizeOf, zeroValue, hzv, newRow, zrow, hm0]
      have hlm : l.toNat ≤ m.toNat := by omega
      have hsz2 : (zrow zv.cells (m.toNat * sz)).size = m.toNat * sz := zrow_size _ _
      have hlen : (toElems sz z l.toNat).length = l.toNat := by simp [toElems_eq]
      have ok : ∀ v, v ∈ toElems sz z l.toNat → v.okElem sz = true := by
        intro v hv
        rw [toElems_eq] at hv
        rw [List.eq_of_mem_replicate hv]
        exact elemZ_ok h6 h8
      have el : ∀ (i : Nat) v (j : Nat) u, (toElems sz z l.toNat)[i]? = some v → v.cells[j]? = some u → RV g.imm g.map g.blk u (zv.cells[(i * sz + j) % zv.cells.size]!) := by
        intro i v j u hv hu
        rw [toElems_eq] at hv
        have := List.eq_of_mem_replicate (List.mem_of_getElem? hv)
        subst this
        rw [elemZ_cells h6 h8] at hu
        exact zero_cell h6 hzr i j hu
      have hll : l.toNat * sz ≤ m.toNat * sz := Nat.mul_le_mul_right _ hlm
      split at he
      · cases he
        by_cases hlm' : l = m
        · rw [if_pos hlm']
          subst hlm'
          obtain ⟨w1, w2⟩ := hM.newImm (arr := zrow zv.cells (l.toNat * sz)) (e := e)
          refine ⟨_, _, _, run, w1, ⟨w2, fun _ _ h => h, fun _ _ => rfl, fun _ _ h => h⟩, fun s => (hT.strip take s).mono w2 (fun _ _ h => h) (fun _ _ h => h) (fun _ _ h => h), .val ?_, rfl⟩
          have := slc_of_flat (imm := (g.addImm w.heap.size (zrow zv.cells (l.toNat * sz))).imm) (map := g.map) (blk := g.blk) (sz := sz) (l := toElems sz z l.toNat) (c := .exact) (b := w.heap.size) (off := 0) (cap := l.toNat)
            (fun k => zv.cells[k % zv.cells.size]!) (by simp) (by omega) (fun _ => hlen.symm) ok (fun k hk => by
              show (if _ = _ then _ else _) = _
              rw [if_pos rfl]
              rw [hlen] at hk
              simp only [Option.isSome_none, Bool.false_eq_true, if_false, Nat.zero_add]
              exact zrow_get _ _ _ hk) (fun i v j u hv hu => (el i v j u hv hu).mono w2 (fun _ _ h => h) (fun _ _ h => h))
          rw [hlen] at this
          exact this
        · rw [if_neg hlm']
          obtain ⟨w1, w2, w3⟩ := hM.newPart (arr := zrow zv.cells (m.toNat * sz)) (e := e) (l.toNat * sz) (.tmp d)
          refine ⟨_, _, _, run, w1, ⟨w2, fun _ _ h => h, fun _ _ => rfl, fun b s h => w3 b _ h⟩, fun s => (hT.strip take s).mono w2 (fun _ _ h => h) (fun _ _ h => h) (fun b s h => w3 b _ h), ?_, rfl⟩
          have := slc_of_flat (imm := (g.addPart w.heap.size (zrow zv.cells (m.toNat * sz)) (l.toNat * sz) (.tmp d)).imm) (map := g.map) (blk := g.blk) (sz := sz) (l := toElems sz z l.toNat) (c := .unk) (b := w.heap.size) (off := 0) (cap := m.toNat)
            (fun k => zv.cells[k % zv.cells.size]!) (by simp) (by omega) (fun h => by cases h) ok (fun k hk => by
              show (if _ = _ then _ else _) = _
              rw [if_pos rfl]
              rw [hlen] at hk
              simp only [Option.isSome_none, Bool.false_eq_true, if_false, Nat.zero_add, if_pos hk]
              exact zrow_get _ _ _ (by omega)) (fun i v j u hv hu => (el i v j u hv hu).mono w2 (fun _ _ h => h) (fun _ _ h => h))
          have k2 := RL.own (g := g.addPart w.heap.size (zrow zv.cells (m.toNat * sz)) (l.toNat * sz) (.tmp d)) (loc := .tmp d) sz (toElems sz z l.toNat) w.heap.size 0 m.toNat (m.toNat * sz) this (by
            show (if _ = _ then _ else _) = _
            rw [if_pos rfl, hsz2, hlen, Nat.zero_add]) (by omega)
          rw [hlen] at k2
          exact k2
      · split at he
        · rename_i hlm'
          subst hlm'
          simp only [Option.map_eq_some_iff] at he
          obtain ⟨m', hm', rfl⟩ := he
          have hfl : RVs g.imm g.map g.blk (List.replicate l.toNat z).flatten (zrow zv.cells (l.toNat * sz)).toList := by
            have hlenf : (List.replicate l.toNat z).flatten.length = l.toNat * sz := by simp [h6]
            refine ⟨by rw [hlenf]; simp [hsz2], fun k u x hu hx => ?_⟩
            have hk : k < l.toNat * sz := by have := (List.getElem?_eq_some_iff.1 hu).1; omega
            have hx' : x = zv.cells[k % zv.cells.size]! := by
              have := zrow_get zv.cells (l.toNat * sz) k hk
              rw [← Array.getElem?_toList, hx] at this
              simpa using this
            subst hx'
            have hget : z[k % sz]? = some u := by
              have : ∀ (n k : Nat), k < n * sz → (List.replicate n z).flatten[k]? = z[k % sz]? := by
                intro n
                induction n with
                | zero => intro k hk; simp at hk
                | succ n ih =>
                  intro k hk
                  rw [List.replicate_succ, List.flatten_cons]
                  by_cases hks : k < sz
                  · rw [List.getElem?_append_left (by omega), Nat.mod_eq_of_lt hks]
                  · rw [List.getElem?_append_right (by omega), h6, ih _ (by rw [Nat.add_mul] at hk; omega)]
                    rw [Nat.mod_eq_sub_mod (by omega : sz ≤ k)]
              rw [← this _ _ hk]
              exact hu
            have := zero_cell h6 hzr (k / sz) (k % sz) hget
            have h3 : k / sz * sz + k % sz = k := by rw [Nat.mul_comm]; exact Nat.div_add_mod k sz
            rw [h3] at this
            exact this
          obtain ⟨w1, w2, w3⟩ := hM.newBlk (e := e) hm' hfl
          refine ⟨_, _, _, run, w1, newBlk_ext _, fun s => (hT.strip take s).mono (fun _ _ h => h) (fun _ _ h => h) (addBlk_mono w2 _) (fun _ _ h => h), .val (.mslc _ _ _ _ _ _ _ ?_ (by omega) (fun _ => rfl)), w3⟩
          show (if _ = _ then _ else _) = _
          rw [if_pos rfl]
        · cases he
    · cases he
  · cases he

end
end Go.VA
