/-
  Stores, slices made, appends.
-/
import Derived.Test.YtifieekfojbkhaaGreatDoorVaOpsF
set_option linter.unusedSimpArgs false
set_option linter.unusedVariables false
namespace Go.VA
open Go Go.RowKit

section
variable {P : Program} {gl : Globs} {g : G} {tm : List AV} {a : Act} {take : List Nat} {base : Nat} {w0 w : World} {mem : Mem} {d : Nat} {r : AV × Mem} {op : Op}
variable {imm imm' : Addr → Option Value} {map : Nat → Option (Array MapEntry)} {blk : Id → Option Nat}

theorem one_cell {u : AV} {x : Value} (h : RV imm map blk u x) (ho : u.one = true) : x.oneCell' = true := by
  cases h <;> first | rfl | (simp [AV.one] at ho; done)

theorem rl_one {l : Loc} {u : AV} {x : Value} (h : RL g l u x) (ho : u.one = true) : x.oneCell' = true := by
  cases h with
  | val h => exact one_cell h ho
  | own => rfl

theorem splice_length {xs ys : List Value} {off : Nat} (h : off + ys.length ≤ xs.length) : (splice xs off ys).length = xs.length := by
  simp [splice]; omega

theorem own_store {v : AV} {x : Value} {l : Loc} (h : RL g l v x) : v.cells = [v] ∧ x.cells = #[x] ∨ RV g.imm g.map g.blk v x := by
  cases h with
  | val h => exact .inr h
  | own sz l b off cap size h h1 h2 => exact .inl ⟨rfl, rfl⟩

theorem op_store (hT : WT g tm a.tmps) (hgl : GlobOK gl g) (hM : WM base w0 g w mem) {n : Nat} {y1 y2 : Opd} (hc : chkOp P gl op (.store n y1 y2) = true) (he : evOp mem d (rho tm take) (.store n y1 y2) = some r) :
    OpOut P base w0 g a w mem tm take op true d r := by
  cases op <;> simp only [chkOp, Bool.false_eq_true] at hc
  rename_i t x1 x2
  simp only [Bool.and_eq_true] at hc
  obtain ⟨⟨h1, h2⟩, h3⟩ := hc
  have k1 := rv_opd (take := take) hT hgl h2
  generalize hz : a.eval x1 = z at k1
  simp only [evOp] at he
  split at he
  · rename_i i off hl
    rw [hl] at k1
    cases k1 with
    | ptr _ _ b hb =>
    simp only [Option.bind_eq_some_iff] at he
    obtain ⟨c, hget, he⟩ := he
    split at he
    · rename_i hcond
      obtain ⟨c1, c2, c3, c4⟩ := hcond
      cases he
      obtain ⟨j1, j2, c', arr, e, j3, j4, j5, j6⟩ := hM.blk i b hb
      obtain rfl : c = c' := Option.some.inj (hget.symm.trans j3)
      -- the world behind the store
      have world : ∀ (vs : List Value), (a.eval x2).cells.toList = vs → vs.length = n → (∀ v ∈ vs, v.oneCell' = true) → ∀ dst ty pos after guard,
          (execOp a.eval ⟨dst, .store t x1 x2, ty, pos, after, guard⟩).run P w = .ok .skip (w.setRow b (splice arr.toList off vs).toArray) := by
        intro vs hvs hn hone _ _ _ _ _
        have hst := run_storeCells_at (P := P) b off e vs 0 arr w j4 (by omega) hone
        simp only [Nat.add_zero] at hst
        have hsz : (a.eval x2).cells.size = n := by rw [← hn, ← hvs]; simp
        simp [execOp, hz, Instr.storeAt, Instr.sureAddr, storeVar, sizeOf_run h1, hsz, hvs, hst, splice]
      have hh := fun vs => setRow_at w b arr (splice arr.toList off vs).toArray e j4
      have hbelow := fun vs => below_setRow (arr := (splice arr.toList off vs).toArray) hM.old j1
      have hsize : ∀ vs, base ≤ (w.setRow b (splice arr.toList off vs).toArray).heap.size := fun vs => by rw [setRow_size]; exact hM.size
      have ovl : (over c off (rho tm take y2).cells).length = c.length := over_length (by omega)
      -- where a cell of the new row comes from
      have cells : ∀ (vs : List Value), vs.length = n → ∀ (j : Nat) v q, (over c off (rho tm take y2).cells)[j]? = some v → (splice arr.toList off vs).toArray[j]? = some q →
          (c[j]? = some v ∧ arr[j]? = some q) ∨ (off ≤ j ∧ (rho tm take y2).cells[j - off]? = some v ∧ vs[j - off]? = some q) := by
        intro vs hvs j v q hv hq
        have hj : j < c.length := by have := (List.getElem?_eq_some_iff.1 hv).1; omega
        simp only [List.getElem?_toArray] at hq
        unfold VA.over at hv
        unfold splice at hq
        rw [c1] at hv
        rw [hvs] at hq
        rw [List.append_assoc] at hv hq
        by_cases p1 : j < off
        · rw [List.getElem?_append_left (by simp; omega), List.getElem?_take_of_lt p1] at hv hq
          exact .inl ⟨hv, by simpa using hq⟩
        · have l1 : (c.take off).length = off := by simp; omega
          have l2 : (arr.toList.take off).length = off := by simp; omega
          rw [List.getElem?_append_right (by omega), l1] at hv
          rw [List.getElem?_append_right (by omega), l2] at hq
          by_cases p2 : j < off + n
          · rw [List.getElem?_append_left (by omega)] at hv hq
            exact .inr ⟨by omega, hv, hq⟩
          · rw [List.getElem?_append_right (by omega), List.getElem?_drop] at hv hq
            rw [c1] at hv
            rw [hvs] at hq
            rw [show off + n + (j - off - n) = j by omega] at hv hq
            exact .inl ⟨hv, by simpa using hq⟩
      rcases rl_opd (take := take) hT hgl h3 with hr | ⟨s, rfl, hm, rfl, heq, hr⟩
      · have hun : rho tm take y2 ≠ .undef := by
          intro e
          rw [e] at c4
          simp [AV.cells, AV.one] at c4
        have hcs := hr.cells hun
        have hlen : (a.eval x2).cells.toList.length = n := by rw [← hcs.1, c1]
        refine ⟨undef, _, g, world _ rfl hlen (fun v hv => ?_), hM.row hb hget j4 (by rw [List.size_toArray, splice_length (by rw [hlen, Array.length_toList]; omega), ovl, Array.length_toList]; exact j5) (hh _) (hbelow _) (hsize _) (fun j v q hv hq => ?_), .refl _ _, hT.strip take, .val (.undef _), mset_length _ _ _⟩
        · obtain ⟨k, hk, rfl⟩ := List.getElem_of_mem hv
          have hk' : k < (rho tm take y2).cells.length := by rw [hcs.1]; exact hk
          exact one_cell (hcs.2 k _ _ (List.getElem?_eq_getElem hk') (List.getElem?_eq_getElem hk)) (List.all_eq_true.1 c4 _ (List.getElem_mem hk'))
        · rcases cells _ hlen j v q hv hq with ⟨e1, e2⟩ | ⟨_, e1, e2⟩
          · exact j6 j v q e1 e2
          · exact .val (hcs.2 _ v q e1 e2)
      · rcases own_store hr with ⟨o1, o2⟩ | hr'
        · have hn1 : n = 1 := by rw [← c1, o1]; rfl
          have hlen : (a.eval (.tmp s)).cells.toList.length = n := by rw [o2, hn1]; rfl
          have hM2 := hM.move (l := .tmp s) (to := .cell i off) (by simp)
          refine ⟨undef, _, g.move (.tmp s) (.cell i off), world _ rfl hlen (fun v hv => ?_), hM2.row hb hget j4 (by rw [List.size_toArray, splice_length (by rw [hlen, Array.length_toList]; omega), ovl, Array.length_toList]; exact j5) (hh _) (hbelow _) (hsize _) (fun j v q hv hq => ?_),
            Ext'.moveTmp _ _ _, hT.moved hm _, .val (.undef _), mset_length _ _ _⟩
          · rw [o2] at hv
            simp at hv
            subst hv
            exact rl_one hr (List.all_eq_true.1 c4 _ (by rw [o1]; simp))
          · rcases cells _ hlen j v q hv hq with ⟨e1, e2⟩ | ⟨e0, e1, e2⟩
            · exact (j6 j v q e1 e2).stay (by simp)
            · rw [o1] at e1
              rw [o2] at e2
              have hj : j - off = 0 := by have := (List.getElem?_eq_some_iff.1 e1).1; simp at this; omega
              rw [hj] at e1 e2
              simp at e1 e2
              subst e1; subst e2
              have : j = off := by omega
              subst this
              exact hr.moved
        · have hun : rho tm take (.tmp s) ≠ .undef := by
            intro e
            rw [e] at c4
            simp [AV.cells, AV.one] at c4
          have hcs := hr'.cells hun
          have hlen : (a.eval (.tmp s)).cells.toList.length = n := by rw [← hcs.1, c1]
          refine ⟨undef, _, g, world _ rfl hlen (fun v hv => ?_), hM.row hb hget j4 (by rw [List.size_toArray, splice_length (by rw [hlen, Array.length_toList]; omega), ovl, Array.length_toList]; exact j5) (hh _) (hbelow _) (hsize _) (fun j v q hv hq => ?_), .refl _ _, hT.strip take, .val (.undef _), mset_length _ _ _⟩
          · obtain ⟨k, hk, rfl⟩ := List.getElem_of_mem hv
            have hk' : k < (rho tm take (.tmp s)).cells.length := by rw [hcs.1]; exact hk
            exact one_cell (hcs.2 k _ _ (List.getElem?_eq_getElem hk') (List.getElem?_eq_getElem hk)) (List.all_eq_true.1 c4 _ (List.getElem_mem hk'))
          · rcases cells _ hlen j v q hv hq with ⟨e1, e2⟩ | ⟨_, e1, e2⟩
            · exact j6 j v q e1 e2
            · exact .val (hcs.2 _ v q e1 e2)
    · cases he
  · cases he

/-- A new block: its first n cells are never written again, the others are room for appends. -/
def G.addPart (g : G) (b : Nat) (arr : Array Value) (n : Nat) (to : Loc) : G :=
  { g with
    imm := fun a => if a.block = b then (if a.spot.isSome then none else if a.off < n then arr[a.off]? else none) else g.imm a
    own := fun k => if k = b then some (to, n, arr.size) else g.own k }

theorem WM.newPart (hM : WM base w0 g w mem) {arr : Array Value} {e : TypeId} (n : Nat) (to : Loc) : WM base w0 (g.addPart w.heap.size arr n to) (w.alloc (.cells arr e)) mem ∧
    (∀ a v, g.imm a = some v → (g.addPart w.heap.size arr n to).imm a = some v) ∧ (∀ b s, g.own b = some s → (g.addPart w.heap.size arr n to).own b = some s) := by
  have hmono : ∀ a v, g.imm a = some v → (g.addPart w.heap.size arr n to).imm a = some v := by
    intro a v h
    have := hM.cell_lt h
    show (if a.block = _ then _ else _) = _
    rw [if_neg (by omega)]
    exact h
  have hlt : ∀ b s, g.own b = some s → b < w.heap.size := by
    intro b s h
    obtain ⟨l, f, s⟩ := s
    obtain ⟨_, ⟨_, _, h2, _⟩, _⟩ := hM.own b l f s h
    exact (Array.getElem?_eq_some_iff.1 h2).1
  have hown : ∀ b s, g.own b = some s → (g.addPart w.heap.size arr n to).own b = some s := by
    intro b s h
    have := hlt b s h
    show (if _ then _ else _) = _
    rw [if_neg (by omega)]
    exact h
  refine ⟨⟨?_, ?_, hM.get, ?_, hM.inj, ?_, ?_, hM.old.alloc hM.size _, by rw [alloc_size]; have := hM.size; omega⟩, hmono, hown⟩
  · intro a v h
    change (if a.block = _ then _ else _) = _ at h
    split at h
    · rename_i hb
      split at h
      · cases h
      · rename_i hs
        split at h
        · unfold World.cell?
          rw [alloc_heap, if_pos hb]
          simp only [hs]
          exact h
        · cases h
    · rw [alloc_cell w _ a (hM.cell_lt h)]
      exact hM.imm a v h
  · intro r es h
    obtain ⟨cl, h1⟩ := hM.map r es h
    have := (Array.getElem?_eq_some_iff.1 h1).1
    exact ⟨cl, by rw [alloc_heap, if_neg (by omega)]; exact h1⟩
  · intro i b h
    obtain ⟨h1, h2, c', arr', e', h3, h4, h5, h6⟩ := hM.blk i b h
    have := (Array.getElem?_eq_some_iff.1 h4).1
    exact ⟨h1, h2, c', arr', e', h3, by rw [alloc_heap, if_neg (by omega)]; exact h4, h5, fun j v x hv hx => (h6 j v x hv hx).mono hmono (fun _ _ h => h) (fun _ _ h => h) (fun b s h => hown b _ h)⟩
  · intro i b o sp h
    obtain ⟨_, _, _, _, _, _, h4, _⟩ := hM.blk i b h
    have := (Array.getElem?_eq_some_iff.1 h4).1
    show (if b = _ then _ else _) = none
    rw [if_neg (by omega)]
    exact hM.apart i b o sp h
  · intro b l f sz h
    change (if b = _ then _ else _) = _ at h
    split at h
    · rename_i hb
      cases h
      subst hb
      refine ⟨hM.size, ⟨arr, e, by rw [alloc_heap, if_pos rfl], rfl⟩, fun o s ho => ?_, fun i h => ?_⟩
      · show (if _ then _ else _) = none
        rw [if_pos rfl]
        split
        · rfl
        · rw [if_neg (by simp; omega)]
      · obtain ⟨_, _, _, _, _, _, h4, _⟩ := hM.blk i _ h
        have := (Array.getElem?_eq_some_iff.1 h4).1
        omega
    · obtain ⟨h1, ⟨arr', e', h2, h3⟩, h4, h5⟩ := hM.own b l f sz h
      have hb' : b < w.heap.size := (Array.getElem?_eq_some_iff.1 h2).1
      refine ⟨h1, ⟨arr', e', by rw [alloc_heap, if_neg (by omega)]; exact h2, h3⟩, fun o s ho => ?_, h5⟩
      show (if b = _ then _ else _) = none
      rw [if_neg (by omega)]
      exact h4 o s ho

/-- A slice's cells as one row. -/
theorem slc_flat {sz : Nat} {l : List AV} {c : Cap} {x : Value} (h : RV imm map blk (.slc sz l c) x) : ∃ b off cap, ∃ F : Nat → Value, x = .slice (some ⟨b, off, none⟩) l.length cap ∧ c ≠ .own ∧ l.length ≤ cap ∧ (c = .exact → cap = l.length) ∧
    (∀ v, v ∈ l → v.okElem sz = true) ∧ (∀ k, k < l.length * sz → imm ⟨b, off + k, none⟩ = some (F k)) ∧ ∀ (i : Nat) v (j : Nat) u, l[i]? = some v → v.cells[j]? = some u → RV imm map blk u (F (i * sz + j)) := by
  cases h with
  | slc _ _ _ b off cap vs hc hle hx hp hi h =>
  refine ⟨b, off, cap, fun k => vs (k / sz) (k % sz), rfl, hc, hle, hx, hp, fun k hk => ?_, fun i v j u hv hu => ?_⟩
  · have hsz : 0 < sz := by
      cases sz with
      | zero => simp at hk
      | succ => omega
    have h1 : k / sz < l.length := Nat.div_lt_of_lt_mul (by rwa [Nat.mul_comm] at hk)
    have h2 := hi (k / sz) (k % sz) h1 (Nat.mod_lt _ hsz)
    have h3 : k / sz * sz + k % sz = k := by rw [Nat.mul_comm]; exact Nat.div_add_mod k sz
    rw [h3] at h2
    exact h2
  · have hj : j < sz := by have h1 := (okElem_spec (hp v (List.mem_of_getElem? hv))).1; have h2 := (List.getElem?_eq_some_iff.1 hu).1; omega
    have hsz : 0 < sz := by omega
    have e1 : (i * sz + j) / sz = i := by rw [Nat.mul_comm, Nat.mul_add_div hsz, Nat.div_eq_of_lt hj]; rfl
    have e2 : (i * sz + j) % sz = j := by rw [Nat.mul_comm, Nat.mul_add_mod, Nat.mod_eq_of_lt hj]
    simp only [e1, e2]
    exact h i v j u hv hu

theorem slc_of_flat {sz : Nat} {l : List AV} {c : Cap} {b off cap : Nat} (F : Nat → Value) (hc : c ≠ .own) (hle : l.length ≤ cap) (hx : c = .exact → cap = l.length) (hp : ∀ v, v ∈ l → v.okElem sz = true)
    (hi : ∀ k, k < l.length * sz → imm ⟨b, off + k, none⟩ = some (F k)) (h : ∀ (i : Nat) v (j : Nat) u, l[i]? = some v → v.cells[j]? = some u → RV imm map blk u (F (i * sz + j))) :
    RV imm map blk (.slc sz l c) (.slice (some ⟨b, off, none⟩) l.length cap) :=
  .slc sz l c b off cap (fun i j => F (i * sz + j)) hc hle hx hp (fun i j hi' hj => hi _ (by
    have : (i + 1) * sz ≤ l.length * sz := Nat.mul_le_mul_right sz (by omega)
    rw [Nat.add_mul] at this
    omega)) h

end
end Go.VA
