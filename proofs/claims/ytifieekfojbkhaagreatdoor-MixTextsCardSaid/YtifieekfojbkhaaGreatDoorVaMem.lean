/-
  What a new block, a store and a draw do to the memory's relation.
-/
import Derived.Test.YtifieekfojbkhaaGreatDoorVaOpsD
import Derived.Laws.Tables
import Derived.Laws.CopyRow
import Derived.Laws.NewBlocks
import Derived.Great.BuildSlice
set_option linter.unusedSimpArgs false
set_option linter.unusedVariables false
namespace Go.VA
open Go Go.RowKit

section
variable {imm imm' : Addr → Option Value} {map map' : Nat → Option (Array MapEntry)} {blk blk' : Id → Option Nat}

def RVs (imm : Addr → Option Value) (map : Nat → Option (Array MapEntry)) (blk : Id → Option Nat) (l : List AV) (xs : List Value) : Prop :=
  l.length = xs.length ∧ ∀ (i : Nat) u x, l[i]? = some u → xs[i]? = some x → RV imm map blk u x

theorem RVs.mono (hi : ∀ a v, imm a = some v → imm' a = some v) (hm : ∀ r e, map r = some e → map' r = some e) (hb : ∀ i b, blk i = some b → blk' i = some b) {l : List AV} {xs : List Value}
    (h : RVs imm map blk l xs) : RVs imm' map' blk' l xs := ⟨h.1, fun i u x hu hx => (h.2 i u x hu hx).mono hi hm hb⟩

theorem RVs.nil : RVs imm map blk [] [] := ⟨rfl, by simp⟩

theorem RVs.append {l m : List AV} {xs ys : List Value} (h : RVs imm map blk l xs) (k : RVs imm map blk m ys) : RVs imm map blk (l ++ m) (xs ++ ys) := by
  refine ⟨by simp [h.1, k.1], fun i u x hu hx => ?_⟩
  rw [List.getElem?_append] at hu hx
  rw [h.1] at hu
  split at hu
  · rename_i hlt
    rw [if_pos hlt] at hx
    exact h.2 i u x hu hx
  · rename_i hlt
    rw [if_neg hlt] at hx
    exact k.2 _ u x hu hx

theorem RVs.take {l : List AV} {xs : List Value} (n : Nat) (h : RVs imm map blk l xs) : RVs imm map blk (l.take n) (xs.take n) := by
  refine ⟨by simp [h.1], fun i u x hu hx => ?_⟩
  rw [List.getElem?_take] at hu hx
  split at hu
  · rename_i hlt
    rw [if_pos hlt] at hx
    exact h.2 i u x hu hx
  · cases hu

theorem RVs.drop {l : List AV} {xs : List Value} (n : Nat) (h : RVs imm map blk l xs) : RVs imm map blk (l.drop n) (xs.drop n) := by
  refine ⟨by simp [h.1], fun i u x hu hx => ?_⟩
  rw [List.getElem?_drop] at hu hx
  exact h.2 _ u x hu hx

theorem RVs.strip {l : List AV} {xs : List Value} (h : RVs imm map blk l xs) : RVs imm map blk (l.map AV.strip) xs := by
  refine ⟨by simp [h.1], fun i u x hu hx => ?_⟩
  rw [List.getElem?_map, Option.map_eq_some_iff] at hu
  obtain ⟨v, hv, rfl⟩ := hu
  exact (h.2 i v x hv hx).strip

def splice (xs : List Value) (off : Nat) (ys : List Value) : List Value := xs.take off ++ ys ++ xs.drop (off + ys.length)

theorem RVs.over {c d : List AV} {xs ys : List Value} (off : Nat) (h : RVs imm map blk c xs) (k : RVs imm map blk d ys) : RVs imm map blk (over c off d) (splice xs off ys) := by
  unfold VA.over splice
  rw [k.1]
  exact ((h.take off).append k).append (h.drop _)

theorem over_length {c d : List AV} {off : Nat} (h : off + d.length ≤ c.length) : (over c off d).length = c.length := by
  simp [over]; omega

/-- The cells of related values. -/
theorem RV.cells {v : AV} {x : Value} (h : RV imm map blk v x) (hu : v ≠ .undef) : RVs imm map blk v.cells x.cells.toList := by
  have one : ∀ {v x}, RV imm map blk v x → v.cells = [v] → x.cells = #[x] → RVs imm map blk v.cells x.cells.toList := by
    intro v x h e1 e2
    rw [e1, e2]
    refine ⟨rfl, fun i u y hu hy => ?_⟩
    rcases i with _ | i
    · simp at hu hy; subst hu; subst hy; exact h
    · simp at hu
  cases h with
  | undef => exact absurd rfl hu
  | agg l xs hl h' =>
    refine ⟨?_, fun i u x h1 h2 => h' i u x h1 ?_⟩
    · simpa [AV.cells, Value.cells] using hl
    · simpa [Value.cells] using h2
  | bool b => exact one (.bool b) rfl rfl
  | int k n => exact one (.int k n) rfl rfl
  | str l => exact one (.str l) rfl rfl
  | nilp => exact one .nilp rfl rfl
  | nils => exact one .nils rfl rfl
  | nili => exact one .nili rfl rfl
  | nilf => exact one .nilf rfl rfl
  | tup l xs hl h' => exact one (.tup l xs hl h') rfl rfl
  | iface t v x h' => exact one (.iface t v x h') rfl rfl
  | fn f l xs hl h' => exact one (.fn f l xs hl h') rfl rfl
  | ptr i off b hb => exact one (.ptr i off b hb) rfl rfl
  | mslc i sz off len b cap o hb hc ho => exact one (.mslc i sz off len b cap o hb hc ho) rfl rfl
  | rptr l b off vs hp hi h' => exact one (.rptr l b off vs hp hi h') rfl rfl
  | slc sz l c b off cap vs hc hle hx hp hi h' => exact one (.slc sz l c b off cap vs hc hle hx hp hi h') rfl rfl
  | map kv r es hm ks vs hl hk he hp h' => exact one (.map kv r es hm ks vs hl hk he hp h') rfl rfl

/-- A row of cells that a composite literal fills. -/
theorem fold_set (off : Nat) : ∀ (vs : List Value) (k : Nat) (cs : Array Value), off + k + vs.length ≤ cs.size →
    ((vs.zipIdx k).foldl (fun cs (p : Value × Nat) => cs.setIfInBounds (off + p.2) p.1) cs).toList = cs.toList.take (off + k) ++ vs ++ cs.toList.drop (off + k + vs.length)
  | [], k, cs, _ => by simp
  | v :: r, k, cs, h => by
    simp only [List.zipIdx_cons, List.foldl_cons]
    rw [fold_set off r (k + 1) _ (by simp at h ⊢; omega)]
    have e := list_seg_step cs.toList (off + k) v r (by simp at h ⊢; omega)
    simpa [Array.toList_setIfInBounds, Nat.add_assoc] using e

theorem fill_rv (place : Nat → Option (Nat × Nat)) : ∀ (ps : List (Nat × Nat × AV)) (qs : List (Nat × Value)) (c : List AV) (xs : Array Value) (c' : List AV),
    ps.length = qs.length → (∀ (i : Nat) p q, ps[i]? = some p → qs[i]? = some q → place q.1 = some (p.1, p.2.1) ∧ p.2.2 ≠ .undef ∧ RV imm map blk p.2.2 q.2) →
    RVs imm map blk c xs.toList → fill c ps = some c' → ∃ xs', Instr.fill place xs qs = some xs' ∧ RVs imm map blk c' xs'.toList ∧ c'.length = c.length
  | [], [], c, xs, c', _, _, hc, h => by
    simp only [fill, Option.some.injEq] at h
    subst h
    exact ⟨xs, rfl, hc, rfl⟩
  | [], _ :: _, _, _, _, hl, _, _, _ => by simp at hl
  | _ :: _, [], _, _, _, hl, _, _, _ => by simp at hl
  | (off, sz, v) :: ps, (i, x) :: qs, c, xs, c', hl, hp, hc, h => by
    simp only [fill] at h
    split at h
    · rename_i hcond
      obtain ⟨h1, h2⟩ := hcond
      have h0 := hp 0 _ _ rfl rfl
      dsimp only at h0
      have hcells := h0.2.2.cells h0.2.1
      have hxs : x.cells.size = sz := by have := hcells.1; simp at this; omega
      have hsz : xs.size = c.length := by have := hc.1; simp at this; omega
      have hstep := fold_set off x.cells.toList 0 xs (by simp; omega)
      obtain ⟨xs', e1, e2, e3⟩ := fill_rv place ps qs (over c off v.cells) (x.cells.zipIdx.foldl (fun cs (p : Value × Nat) => cs.setIfInBounds (off + p.2) p.1) xs) c' (by simpa using hl)
        (fun j p q hj hq => hp (j + 1) p q (by simpa using hj) (by simpa using hq))
        (by
          have he : (x.cells.zipIdx.foldl (fun cs (p : Value × Nat) => cs.setIfInBounds (off + p.2) p.1) xs).toList = splice xs.toList off x.cells.toList := by
            rw [← Array.foldl_toList, Array.toList_zipIdx, hstep]
            simp [splice]
          rw [he]
          exact hc.over off hcells) h
      refine ⟨xs', ?_, e2, by rw [e3, over_length (by omega)]⟩
      simp only [Instr.fill, h0.1]
      rw [if_neg (by simp [hxs]; omega)]
      exact e1
    · cases h

theorem RL.mono {g g' : G} {loc : Loc} {v : AV} {x : Value} (h : RL g loc v x) (hi : ∀ a v, g.imm a = some v → g'.imm a = some v) (hm : ∀ r e, g.map r = some e → g'.map r = some e)
    (hb : ∀ i b, g.blk i = some b → g'.blk i = some b) (ho : ∀ b s, g.own b = some (loc, s) → g'.own b = some (loc, s)) : RL g' loc v x := by
  cases h with
  | val h => exact .val (h.mono hi hm hb)
  | own sz l b off cap size h h1 h2 => exact .own sz l b off cap size (h.mono hi hm hb) (ho _ _ h1) h2

def G.addBlk (g : G) (i : Id) (b : Nat) : G := { g with blk := fun j => if j = i then some b else g.blk j }
def G.addImm (g : G) (b : Nat) (arr : Array Value) : G := { g with imm := fun a => if a.block = b then (if a.spot.isSome then none else arr[a.off]?) else g.imm a }
def G.move (g : G) (from' to : Loc) : G := { g with own := fun b => match g.own b with | some (l, s) => if l = from' then some (to, s) else some (l, s) | none => none }

variable {base : Nat} {w0 w : World} {g : G} {mem mem' : Mem}

theorem new_spec {s : List Nat} {c : List AV} (h : mem.new s c = some mem') : ∃ f r, mem = f :: r ∧ f.get s = none ∧ mem' = ((s, c) :: f) :: r := by
  cases mem with
  | nil => simp [Mem.new] at h
  | cons f r =>
    simp only [Mem.new] at h
    split at h
    · cases h
    · rename_i hf
      exact ⟨f, r, rfl, hf, by simpa using h.symm⟩

theorem new_get {s : List Nat} {c : List AV} (h : mem.new s c = some mem') (i : Id) : mem'.get i = if i = ⟨mem.top, s⟩ then some c else mem.get i := by
  obtain ⟨f, r, rfl, hf, rfl⟩ := new_spec h
  obtain ⟨n, st⟩ := i
  simp only [Mem.get, Mem.top, List.length_cons, Nat.add_sub_cancel, Id.mk.injEq]
  by_cases hn : n = r.length
  · simp only [hn, if_true, true_and, Fr.get]
  · simp only [hn, if_false, false_and]

theorem get_under {i : Id} {c : List AV} : ∀ {m : Mem}, m.get i = some c → i.fr < m.length
  | [], h => by simp [Mem.get] at h
  | f :: r, h => by
    simp only [Mem.get] at h
    split at h
    · rename_i e; simp [e]
    · have := get_under h; simp; omega

theorem WM.cell_lt (hM : WM base w0 g w mem) {a : Addr} {v : Value} (h : g.imm a = some v) : a.block < w.heap.size := by
  exact World.block_lt_of_cell? w a (hM.imm a v h)

theorem WM.heap (hM : WM base w0 g w mem) {w' : World} (hh : w'.heap = w.heap) (hB : Below base w0 w') : WM base w0 g w' mem := by
  have hc : ∀ a, w'.cell? a = w.cell? a := fun a => by simp [World.cell?, hh]
  exact ⟨fun a v h => (hc a).trans (hM.imm a v h), fun r e h => hh ▸ hM.map r e h, hM.get, fun i b h => by rw [hh]; exact hM.blk i b h, hM.inj, hM.apart,
    fun b l f s h => by rw [hh]; exact hM.own b l f s h, hB, hh ▸ hM.size⟩

theorem alloc_heap (w : World) (o : Obj) (k : Nat) : (w.alloc o).heap[k]? = if k = w.heap.size then some o else w.heap[k]? := by
  show (w.heap.push o)[k]? = _
  rw [Array.getElem?_push]

theorem alloc_size (w : World) (o : Obj) : (w.alloc o).heap.size = w.heap.size + 1 := by
  show (w.heap.push o).size = _
  simp

theorem alloc_cell (w : World) (o : Obj) (a : Addr) (h : a.block < w.heap.size) : (w.alloc o).cell? a = w.cell? a := World.cell?_alloc_lt w o a h

/-- A new block that is written later on. -/
theorem WM.newBlk (hM : WM base w0 g w mem) {s : List Nat} {c : List AV} {arr : Array Value} {e : TypeId} (hn : mem.new s c = some mem') (hc : RVs g.imm g.map g.blk c arr.toList) :
    WM base w0 (g.addBlk ⟨mem.top, s⟩ w.heap.size) (w.alloc (.cells arr e)) mem' ∧ g.blk ⟨mem.top, s⟩ = none ∧ mem'.length = mem.length := by
  have hnone : mem.get ⟨mem.top, s⟩ = none := by
    obtain ⟨f, r, rfl, hf, rfl⟩ := new_spec hn
    simp [Mem.get, Mem.top, hf]
  have hb : g.blk ⟨mem.top, s⟩ = none := by
    cases h : g.blk ⟨mem.top, s⟩ with
    | none => rfl
    | some b =>
      obtain ⟨_, _, c', _, _, h1, _⟩ := hM.blk _ _ h
      rw [hnone] at h1; cases h1
  have hlen : mem'.length = mem.length := by obtain ⟨f, r, rfl, hf, rfl⟩ := new_spec hn; simp
  have hpos : 0 < mem.length := by obtain ⟨f, r, rfl, hf, rfl⟩ := new_spec hn; simp
  have hmono : ∀ j b, g.blk j = some b → (g.addBlk ⟨mem.top, s⟩ w.heap.size).blk j = some b := by
    intro j b h
    show (if j = _ then _ else _) = _
    rw [if_neg (by intro e; subst e; rw [hb] at h; cases h)]
    exact h
  have blt : ∀ i b, g.blk i = some b → b < w.heap.size := fun i b h => by
    obtain ⟨_, _, _, _, _, _, h2, _⟩ := hM.blk i b h
    exact (Array.getElem?_eq_some_iff.1 h2).1
  refine ⟨⟨?_, ?_, ?_, ?_, ?_, ?_, ?_, ?_, ?_⟩, hb, hlen⟩
  · intro a v h
    rw [alloc_cell w _ a (hM.cell_lt h)]
    exact hM.imm a v h
  · intro r es h
    obtain ⟨cl, h1⟩ := hM.map r es h
    have := (Array.getElem?_eq_some_iff.1 h1).1
    exact ⟨cl, by rw [alloc_heap, if_neg (by omega)]; exact h1⟩
  · intro i c' h
    rw [new_get hn] at h
    show ∃ b, (if i = _ then _ else _) = some b
    split
    · exact ⟨_, rfl⟩
    · rename_i hne
      rw [if_neg hne] at h
      exact hM.get i c' h
  · intro i b h
    change (if i = _ then _ else _) = some b at h
    by_cases hi : i = ⟨mem.top, s⟩
    · subst hi
      rw [if_pos rfl] at h
      cases h
      refine ⟨hM.size, by simp only [Mem.top, hlen]; omega, c, arr, e, by rw [new_get hn, if_pos rfl], by rw [alloc_heap, if_pos rfl], by have := hc.1; simp at this; omega, fun j v x hv hx => .val ?_⟩
      exact (hc.2 j v x hv (by simpa using hx)).mono (fun _ _ h => h) (fun _ _ h => h) hmono
    · rw [if_neg hi] at h
      obtain ⟨h1, h2, c', arr', e', h3, h4, h5, h6⟩ := hM.blk i b h
      have := blt i b h
      refine ⟨h1, by omega, c', arr', e', by rw [new_get hn, if_neg hi]; exact h3, by rw [alloc_heap, if_neg (by omega)]; exact h4, h5, fun j v x hv hx => (h6 j v x hv hx).mono (fun _ _ h => h) (fun _ _ h => h) hmono (fun _ _ h => h)⟩
  · intro i j b h k
    change (if i = _ then _ else _) = some b at h
    change (if j = _ then _ else _) = some b at k
    split at h <;> split at k
    · rename_i e1 e2; rw [e1, e2]
    · cases h
      have := blt j _ k
      omega
    · cases k
      have := blt i _ h
      omega
    · exact hM.inj i j b h k
  · intro i b o sp h
    change (if i = _ then _ else _) = some b at h
    show g.imm _ = none
    split at h
    · cases h
      cases hq : g.imm ⟨w.heap.size, o, sp⟩ with
      | none => rfl
      | some v => have := hM.cell_lt hq; simp at this
    · exact hM.apart i b o sp h
  · intro b l f sz h
    obtain ⟨h1, ⟨arr', e', h2, h3⟩, h4, h5⟩ := hM.own b l f sz h
    have hb' : b < w.heap.size := (Array.getElem?_eq_some_iff.1 h2).1
    refine ⟨h1, ⟨arr', e', by rw [alloc_heap, if_neg (by omega)]; exact h2, h3⟩, h4, fun i h => ?_⟩
    change (if i = _ then _ else _) = some b at h
    split at h
    · cases h; omega
    · exact h5 i h
  · exact hM.old.alloc hM.size _
  · rw [alloc_size]; have := hM.size; omega

/-- A new block that is never written again. -/
theorem WM.newImm (hM : WM base w0 g w mem) {arr : Array Value} {e : TypeId} : WM base w0 (g.addImm w.heap.size arr) (w.alloc (.cells arr e)) mem ∧ ∀ a v, g.imm a = some v → (g.addImm w.heap.size arr).imm a = some v := by
  have hmono : ∀ a v, g.imm a = some v → (g.addImm w.heap.size arr).imm a = some v := by
    intro a v h
    have := hM.cell_lt h
    show (if a.block = _ then _ else _) = _
    rw [if_neg (by omega)]
    exact h
  refine ⟨⟨?_, ?_, hM.get, ?_, hM.inj, ?_, ?_, hM.old.alloc hM.size _, by rw [alloc_size]; have := hM.size; omega⟩, hmono⟩
  · intro a v h
    change (if a.block = _ then _ else _) = _ at h
    split at h
    · rename_i hb
      split at h
      · cases h
      · rename_i hs
        unfold World.cell?
        rw [alloc_heap, if_pos hb]
        simp only [hs]
        exact h
    · rw [alloc_cell w _ a (hM.cell_lt h)]
      exact hM.imm a v h
  · intro r es h
    obtain ⟨cl, h1⟩ := hM.map r es h
    have := (Array.getElem?_eq_some_iff.1 h1).1
    exact ⟨cl, by rw [alloc_heap, if_neg (by omega)]; exact h1⟩
  · intro i b h
    obtain ⟨h1, h2, c', arr', e', h3, h4, h5, h6⟩ := hM.blk i b h
    have := (Array.getElem?_eq_some_iff.1 h4).1
    exact ⟨h1, h2, c', arr', e', h3, by rw [alloc_heap, if_neg (by omega)]; exact h4, h5, fun j v x hv hx => (h6 j v x hv hx).mono hmono (fun _ _ h => h) (fun _ _ h => h) (fun _ _ h => h)⟩
  · intro i b o sp h
    obtain ⟨_, _, _, _, _, _, h4, _⟩ := hM.blk i b h
    have := (Array.getElem?_eq_some_iff.1 h4).1
    show (if b = _ then _ else _) = none
    rw [if_neg (by omega)]
    exact hM.apart i b o sp h
  · intro b l f sz h
    obtain ⟨h1, ⟨arr', e', h2, h3⟩, h4, h5⟩ := hM.own b l f sz h
    have hb' : b < w.heap.size := (Array.getElem?_eq_some_iff.1 h2).1
    refine ⟨h1, ⟨arr', e', by rw [alloc_heap, if_neg (by omega)]; exact h2, h3⟩, fun o s ho => ?_, h5⟩
    show (if b = _ then _ else _) = none
    rw [if_neg (by omega)]
    exact h4 o s ho

end
end Go.VA
