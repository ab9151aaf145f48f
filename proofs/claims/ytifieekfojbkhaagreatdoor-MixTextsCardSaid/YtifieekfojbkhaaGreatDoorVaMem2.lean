/-
  Stores, rights that move on, and what an append leaves.
-/
import Derived.Test.YtifieekfojbkhaaGreatDoorVaMem
import Derived.Deep.AppendSrc
set_option linter.unusedSimpArgs false
set_option linter.unusedVariables false
namespace Go.VA
open Go Go.RowKit

section
variable {base : Nat} {w0 w : World} {g g' : G} {mem mem' : Mem}

theorem fset_get (s : List Nat) (c' : List AV) : ∀ (f : Fr) (t : List Nat), (f.set s c').get t = if t = s then (f.get s).map fun _ => c' else f.get t
  | [], t => by simp [Fr.set, Fr.get]
  | (k, c) :: r, t => by
    simp only [Fr.set, Fr.get]
    by_cases h : s = k
    · subst h
      by_cases ht : t = s <;> simp [Fr.get, ht]
    · simp only [h, if_false, Fr.get, fset_get s c' r t]
      by_cases ht : t = k
      · subst ht
        simp only [if_true]
        rw [if_neg (fun e => h e.symm)]
      · simp only [ht, if_false]

theorem mset_get (i : Id) (c' : List AV) : ∀ (m : Mem) (j : Id), (m.set i c').get j = if j = i then (m.get i).map fun _ => c' else m.get j
  | [], j => by simp [Mem.set, Mem.get]
  | f :: r, ⟨n, st⟩ => by
    obtain ⟨n', st'⟩ := i
    have hlen : ∀ m : Mem, (Mem.set m ⟨n', st'⟩ c').length = m.length := by
      intro m
      induction m with
      | nil => rfl
      | cons f r ih => simp only [Mem.set]; split <;> simp [ih]
    simp only [Mem.set]
    by_cases h : n' = r.length
    · subst h
      simp only [if_true, Mem.get]
      by_cases hn : n = r.length
      · subst hn
        simp only [if_true, fset_get, Id.mk.injEq, true_and]
      · simp only [hn, if_false, Id.mk.injEq, false_and]
    · simp only [h, if_false, Mem.get, hlen]
      by_cases hn : n = r.length
      · subst hn
        simp only [if_true, Id.mk.injEq]
        rw [if_neg (by rintro ⟨e, _⟩; exact h e.symm)]
      · simp only [hn, if_false]
        exact mset_get ⟨n', st'⟩ c' r ⟨n, st⟩

theorem mset_length (i : Id) (c' : List AV) : ∀ (m : Mem), (m.set i c').length = m.length
  | [] => rfl
  | f :: r => by simp only [Mem.set]; split <;> simp [mset_length i c' r]

theorem mset_tail (i : Id) (c' : List AV) (m : Mem) (h : i.fr < m.length - 1) : (Mem.set m i c').tail = Mem.set m.tail i c' := by
  cases m with
  | nil => rfl
  | cons f r =>
    simp only [Mem.set]
    rw [if_neg (by simp at h; omega)]
    rfl

/-- The cells of one block are replaced, in the machine and in the abstract. -/
theorem WM.row (hM : WM base w0 g w mem) {i : Id} {b : Nat} {c c' : List AV} {arr arr' : Array Value} {e : TypeId} {w' : World} (hb : g.blk i = some b) (hget : mem.get i = some c)
    (hrow : w.heap[b]? = some (.cells arr e (0, 0))) (hsize : arr'.size = c'.length) (hh : ∀ k, w'.heap[k]? = if k = b then some (.cells arr' e (0, 0)) else w.heap[k]?) (hB : Below base w0 w') (hs : base ≤ w'.heap.size)
    (hc : ∀ (j : Nat) v x, c'[j]? = some v → arr'[j]? = some x → RL g (.cell i j) v x) : WM base w0 g w' (mem.set i c') := by
  have hcell : ∀ a : Addr, a.block ≠ b → w'.cell? a = w.cell? a := by
    intro a ha
    simp only [World.cell?, hh, if_neg ha]
  refine ⟨?_, ?_, ?_, ?_, hM.inj, hM.apart, ?_, hB, hs⟩
  · intro a v h
    rw [hcell a (fun e => by have := hM.apart i b a.off a.spot hb; rw [← e, h] at this; cases this)]
    exact hM.imm a v h
  · intro r es h
    obtain ⟨cl, h1⟩ := hM.map r es h
    exact ⟨cl, by rw [hh, if_neg (by intro e'; subst e'; rw [hrow] at h1; cases h1)]; exact h1⟩
  · intro j cj h
    rw [mset_get] at h
    split at h
    · rename_i e'; subst e'; exact ⟨b, hb⟩
    · exact hM.get j cj h
  · intro j b' h
    obtain ⟨h1, h2, c2, arr2, e2, h3, h4, h5, h6⟩ := hM.blk j b' h
    by_cases hj : j = i
    · subst hj
      obtain rfl : b = b' := Option.some.inj (hb.symm.trans h)
      exact ⟨h1, by rw [mset_length]; exact h2, c', arr', e, by rw [mset_get, if_pos rfl, hget]; rfl, by rw [hh, if_pos rfl], hsize, hc⟩
    · have hne : b' ≠ b := fun e' => hj (hM.inj _ _ _ h (e' ▸ hb))
      exact ⟨h1, by rw [mset_length]; exact h2, c2, arr2, e2, by rw [mset_get, if_neg hj]; exact h3, by rw [hh, if_neg hne]; exact h4, h5, h6⟩
  · intro b' l f sz h
    obtain ⟨h1, ⟨arr2, e2, h2, h3⟩, h4, h5⟩ := hM.own b' l f sz h
    exact ⟨h1, ⟨arr2, e2, by rw [hh, if_neg (by intro e'; subst e'; exact h5 i hb)]; exact h2, h3⟩, h4, h5⟩

theorem setRow_at (w : World) (b : Nat) (arr arr' : Array Value) (e : TypeId) (hrow : w.heap[b]? = some (.cells arr e (0, 0))) (k : Nat) :
    (w.setRow b arr').heap[k]? = if k = b then some (.cells arr' e (0, 0)) else w.heap[k]? := by
  by_cases hk : k = b
  · subst hk
    rw [if_pos rfl]
    exact setRow_heap w k arr arr' e (0, 0) hrow
  · rw [if_neg hk]
    simp only [World.setRow, Array.getElem?_modify]
    rw [if_neg (fun e => hk e.symm)]

theorem setRow_size (w : World) (b : Nat) (arr : Array Value) : (w.setRow b arr).heap.size = w.heap.size := by simp [World.setRow]

theorem below_setRow {w : World} {b : Nat} {arr : Array Value} (h : Below base w0 w) (hb : base ≤ b) : Below base w0 (w.setRow b arr) := by
  refine ⟨h.os, h.tape, h.output, by rw [setRow_size]; exact h.size, fun k hk => ?_⟩
  rw [← h.block k hk]
  simp only [World.setRow, Array.getElem?_modify]
  rw [if_neg (by omega)]

theorem move_own {l to : Loc} {b : Nat} {s : Nat × Nat} (h : g.own b = some (l, s)) : (g.move l to).own b = some (to, s) := by
  show (match g.own b with | some (l', s') => if l' = l then some (to, s') else some (l', s') | none => none) = _
  rw [h]
  simp

theorem move_other {l l' to : Loc} {b : Nat} {s : Nat × Nat} (h : g.own b = some (l', s)) (hne : l' ≠ l) : (g.move l to).own b = some (l', s) := by
  show (match g.own b with | some (l', s') => if l' = l then some (to, s') else some (l', s') | none => none) = _
  rw [h]
  simp [hne]

theorem RL.moved {l to : Loc} {v : AV} {x : Value} (h : RL g l v x) : RL (g.move l to) to v x := by
  cases h with
  | val h => exact .val h
  | own sz ls b off cap size h h1 h2 => exact .own sz ls b off cap size h (move_own h1) h2

theorem RL.stay {l l' to : Loc} {v : AV} {x : Value} (h : RL g l' v x) (hne : l' ≠ l) : RL (g.move l to) l' v x := by
  cases h with
  | val h => exact .val h
  | own sz ls b off cap size h h1 h2 => exact .own sz ls b off cap size h (move_other h1 hne) h2

theorem RL.plain {l : Loc} {v : AV} {x : Value} (h : RL g l v x) (hs : v.strip = v) : RV g.imm g.map g.blk v x := hs ▸ h.strip

/-- A right to append moves on. -/
theorem WM.move (hM : WM base w0 g w mem) {l to : Loc} (hl : ∀ i j c v, l = .cell i j → mem.get i = some c → c[j]? = some v → v.strip = v) : WM base w0 (g.move l to) w mem := by
  refine ⟨hM.imm, hM.map, hM.get, ?_, hM.inj, hM.apart, ?_, hM.old, hM.size⟩
  · intro i b h
    obtain ⟨h1, h2, c2, arr2, e2, h3, h4, h5, h6⟩ := hM.blk i b h
    refine ⟨h1, h2, c2, arr2, e2, h3, h4, h5, fun j v x hv hx => ?_⟩
    by_cases he : (Loc.cell i j) = l
    · exact .val ((h6 j v x hv hx).plain (hl i j c2 v he.symm h3 hv))
    · exact (h6 j v x hv hx).stay he
  · intro b l' f s h
    change (match g.own b with | some (l', s') => if l' = l then some (to, s') else some (l', s') | none => none) = _ at h
    split at h
    · rename_i l2 s2 h2
      split at h <;> (simp only [Option.some.injEq, Prod.mk.injEq] at h; obtain ⟨_, rfl⟩ := h; exact hM.own _ _ _ _ h2)
    · cases h

/-- A cell's right to append is given up. -/
theorem WM.stripCell (hM : WM base w0 g w mem) {i : Id} {c : List AV} {off : Nat} {v : AV} (hget : mem.get i = some c) (hv : c[off]? = some v) : WM base w0 g w (mem.set i (c.set off v.strip)) := by
  obtain ⟨b, hb⟩ := hM.get i c hget
  obtain ⟨h1, h2, c2, arr2, e2, h3, h4, h5, h6⟩ := hM.blk i b hb
  obtain rfl : c = c2 := Option.some.inj (hget.symm.trans h3)
  refine hM.row hb hget h4 (by rw [h5, List.length_set]) (fun k => ?_) hM.old hM.size (fun j u x hu hx => ?_)
  · by_cases hk : k = b
    · subst hk; rw [if_pos rfl]; exact h4
    · rw [if_neg hk]
  · rw [List.getElem?_set] at hu
    split at hu
    · rename_i e
      subst e
      split at hu
      · cases hu
        exact .val (h6 _ _ _ hv hx).strip
      · cases hu
    · exact h6 j u x hu hx

/-- Behind an append that had room. -/
def G.grow (g : G) (to : Loc) (b f : Nat) (ys : List Value) (size : Nat) : G :=
  { g with
    imm := fun a => if a.block = b ∧ a.spot = none ∧ f ≤ a.off ∧ a.off < f + ys.length then ys[a.off - f]? else g.imm a
    own := fun k => if k = b then some (to, f + ys.length, size) else g.own k }

theorem WM.grow (hM : WM base w0 g w mem) {l to : Loc} (hl : ∀ i j, l ≠ .cell i j) {b f size : Nat} {ys : List Value} (ho : g.own b = some (l, f, size)) (hf : f + ys.length ≤ size) {arr : Array Value} {e : TypeId}
    (hrow : w.heap[b]? = some (.cells arr e (0, 0))) :
    WM base w0 (g.grow to b f ys size) (w.setRow b (splice arr.toList f ys).toArray) mem ∧ (∀ a v, g.imm a = some v → (g.grow to b f ys size).imm a = some v) := by
  obtain ⟨o1, ⟨arr', e', o2, o3⟩, o4, o5⟩ := hM.own b l f size ho
  obtain ⟨rfl, rfl⟩ : arr = arr' ∧ e = e' := by rw [hrow] at o2; simpa using o2
  have hmono : ∀ a v, g.imm a = some v → (g.grow to b f ys size).imm a = some v := by
    intro a v h
    show (if _ then _ else _) = _
    rw [if_neg]
    · exact h
    · rintro ⟨rfl, hs, h1, h2⟩
      have := o4 a.off a.spot h1
      rw [h] at this; cases this
  have hh := setRow_at w b arr (splice arr.toList f ys).toArray e hrow
  have hcell : ∀ a : Addr, a.block ≠ b → (w.setRow b (splice arr.toList f ys).toArray).cell? a = w.cell? a := by
    intro a ha
    simp only [World.cell?, hh, if_neg ha]
  refine ⟨⟨?_, ?_, hM.get, ?_, hM.inj, ?_, ?_, below_setRow hM.old o1, by rw [setRow_size]; exact hM.size⟩, hmono⟩
  · intro a v h
    change (if _ then _ else _) = _ at h
    by_cases hb : a.block = b
    · have hcv : (w.setRow b (splice arr.toList f ys).toArray).cell? a = if a.spot.isSome then none else (splice arr.toList f ys)[a.off]? := by
        unfold World.cell?
        rw [hh, if_pos hb]
        simp
      rw [hcv]
      split at h
      · rename_i hc
        obtain ⟨_, hs, h1, h2⟩ := hc
        rw [hs]
        simp only [Option.isSome_none, Bool.false_eq_true, if_false, splice]
        rw [List.append_assoc, List.getElem?_append_right (by simp; omega), List.getElem?_append_left (by simp; omega)]
        simp only [List.length_take, Array.length_toList]
        rw [Nat.min_eq_left (by omega)]
        exact h
      · have hlt : a.off < f := by
          cases Nat.lt_or_ge a.off f with
          | inl hlt => exact hlt
          | inr hge => have := o4 a.off a.spot hge; rw [← hb, h] at this; cases this
        have hold := hM.imm a v h
        unfold World.cell? at hold
        rw [hb, hrow] at hold
        simp only at hold
        split at hold
        · cases hold
        · rename_i hsp
          simp only [hsp, Bool.false_eq_true, if_false, splice]
          rw [List.append_assoc, List.getElem?_append_left (by simp; omega), List.getElem?_take_of_lt hlt]
          simpa using hold
    · rw [if_neg (fun hc => hb hc.1)] at h
      rw [hcell a hb]
      exact hM.imm a v h
  · intro r es h
    obtain ⟨cl, h1⟩ := hM.map r es h
    exact ⟨cl, by rw [hh, if_neg (by intro e'; subst e'; rw [hrow] at h1; cases h1)]; exact h1⟩
  · intro i b' h
    obtain ⟨h1, h2, c2, arr2, e2, h3, h4, h5, h6⟩ := hM.blk i b' h
    have hne : b' ≠ b := fun e' => o5 i (e' ▸ h)
    refine ⟨h1, h2, c2, arr2, e2, h3, by rw [hh, if_neg hne]; exact h4, h5, fun j v x hv hx => ?_⟩
    have hr := h6 j v x hv hx
    cases hr with
    | val hr => exact .val (hr.mono hmono (fun _ _ h => h) (fun _ _ h => h))
    | own sz ls b2 off cap size2 hr k1 k2 =>
      by_cases hb2 : b2 = b
      · subst hb2
        rw [k1] at ho
        simp only [Option.some.injEq, Prod.mk.injEq] at ho
        exact absurd ho.1.symm (hl i j)
      · exact .own sz ls b2 off cap size2 (hr.mono hmono (fun _ _ h => h) (fun _ _ h => h)) (by show (if _ then _ else _) = _; rw [if_neg hb2]; exact k1) k2
  · intro i b' o s h
    have hne : b' ≠ b := fun e' => o5 i (e' ▸ h)
    show (if _ then _ else _) = _
    rw [if_neg (fun hc => hne hc.1)]
    exact hM.apart i b' o s h
  · intro b' l' f' s' h
    change (if b' = b then _ else _) = _ at h
    split at h
    · rename_i hb
      subst hb
      cases h
      refine ⟨o1, ⟨(splice arr.toList f ys).toArray, e, by rw [hh, if_pos rfl], by simp [splice]; omega⟩, fun o s h1 => ?_, o5⟩
      show (if _ then _ else _) = _
      rw [if_neg (by rintro ⟨_, _, _, h2⟩; simp at h2; omega)]
      exact o4 o s (by omega)
    · rename_i hb
      obtain ⟨h1, ⟨arr2, e2, h2, h3⟩, h4, h5⟩ := hM.own b' l' f' s' h
      refine ⟨h1, ⟨arr2, e2, by rw [hh, if_neg hb]; exact h2, h3⟩, fun o s h6 => ?_, h5⟩
      show (if _ then _ else _) = _
      rw [if_neg (fun hc => hb hc.1)]
      exact h4 o s h6

end
end Go.VA
