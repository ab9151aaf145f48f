/-
  How the abstract interpreter's values and memory stand to the machine's.
-/
import Derived.Test.YtifieekfojbkhaaGreatDoorVaDef
set_option linter.unusedSimpArgs false
set_option linter.unusedVariables false
namespace Go.VA
open Go Go.RowKit

inductive Loc where
  | tmp (i : Nat) | cell (i : Id) (j : Nat) | res | out
  deriving DecidableEq

structure G where
  imm : Addr → Option Value
  map : Nat → Option (Array MapEntry)
  blk : Id → Option Nat
  own : Nat → Option (Loc × Nat × Nat)

inductive RV (imm : Addr → Option Value) (map : Nat → Option (Array MapEntry)) (blk : Id → Option Nat) : AV → Value → Prop
  | undef (x : Value) : RV imm map blk .undef x
  | bool (b : Bool) : RV imm map blk (.bool b) (.bool b)
  | int (k : IntKind) (n : Int) : RV imm map blk (.int k n) (.int k n)
  | str (l : List UInt8) : RV imm map blk (.str l) (.string ⟨l.toArray⟩)
  | nilp : RV imm map blk .nilp (.pointer none)
  | nils : RV imm map blk .nils (.slice none 0 0)
  | nili : RV imm map blk .nili .nilIface
  | nilf : RV imm map blk .nilf .nilFunc
  | agg (l : List AV) (xs : Array Value) (hl : l.length = xs.size) (h : ∀ (i : Nat) u x, l[i]? = some u → xs[i]? = some x → RV imm map blk u x) : RV imm map blk (.agg l) (.agg xs)
  | tup (l : List AV) (xs : Array Value) (hl : l.length = xs.size) (h : ∀ (i : Nat) u x, l[i]? = some u → xs[i]? = some x → RV imm map blk u x) : RV imm map blk (.tup l) (.tuple xs)
  | iface (t : TypeId) (v : AV) (x : Value) (h : RV imm map blk v x) : RV imm map blk (.iface t v) (.iface t x)
  | fn (f : FuncId) (l : List AV) (xs : Array Value) (hl : l.length = xs.size) (h : ∀ (i : Nat) u x, l[i]? = some u → xs[i]? = some x → RV imm map blk u x) : RV imm map blk (.fn f l) (.func (.func f) #[] xs)
  | ptr (i : Id) (off b : Nat) (hb : blk i = some b) : RV imm map blk (.ptr i off) (.pointer (some ⟨b, off, none⟩))
  | mslc (i : Id) (sz off len b cap o : Nat) (hb : blk i = some b) (hc : len ≤ cap) (ho : 0 < len → o = off) : RV imm map blk (.mslc i sz off len) (.slice (some ⟨b, o, none⟩) len cap)
  | rptr (l : List AV) (b off : Nat) (vs : Nat → Value) (hp : ∀ u, u ∈ l → u.pure = true) (hi : ∀ j, j < l.length → imm ⟨b, off + j, none⟩ = some (vs j))
      (h : ∀ (j : Nat) u, l[j]? = some u → RV imm map blk u (vs j)) : RV imm map blk (.rptr l) (.pointer (some ⟨b, off, none⟩))
  | slc (sz : Nat) (l : List AV) (c : Cap) (b off cap : Nat) (vs : Nat → Nat → Value) (hc : c ≠ .own) (hle : l.length ≤ cap) (hx : c = .exact → cap = l.length)
      (hp : ∀ v, v ∈ l → v.okElem sz = true) (hi : ∀ i j, i < l.length → j < sz → imm ⟨b, off + (i * sz + j), none⟩ = some (vs i j))
      (h : ∀ (i : Nat) v (j : Nat) u, l[i]? = some v → v.cells[j]? = some u → RV imm map blk u (vs i j)) : RV imm map blk (.slc sz l c) (.slice (some ⟨b, off, none⟩) l.length cap)
  | map (kv : List AV) (r : Nat) (es : Array MapEntry) (hm : map r = some es) (ks : Nat → List UInt8) (vs : Nat → AV) (hl : kv.length = es.size)
      (hk : ∀ i, i < kv.length → kv[i]? = some (.tup [.str (ks i), vs i])) (he : ∀ (i : Nat) e, es[i]? = some e → e.key = .string ⟨(ks i).toArray⟩)
      (hp : ∀ i, i < kv.length → (vs i).pure = true) (h : ∀ (i : Nat) e, es[i]? = some e → RV imm map blk (vs i) e.val) : RV imm map blk (.map kv) (.map (some r))

variable {imm imm' : Addr → Option Value} {map map' : Nat → Option (Array MapEntry)} {blk blk' : Id → Option Nat}

theorem RV.mono (hi : ∀ a v, imm a = some v → imm' a = some v) (hm : ∀ r e, map r = some e → map' r = some e) (hb : ∀ i b, blk i = some b → blk' i = some b) {v : AV} {x : Value}
    (h : RV imm map blk v x) : RV imm' map' blk' v x := by
  induction h with
  | undef x => exact .undef x
  | bool b => exact .bool b
  | int k n => exact .int k n
  | str l => exact .str l
  | nilp => exact .nilp
  | nils => exact .nils
  | nili => exact .nili
  | nilf => exact .nilf
  | agg l xs hl h ih => exact .agg l xs hl ih
  | tup l xs hl h ih => exact .tup l xs hl ih
  | iface t v x h ih => exact .iface t v x ih
  | fn f l xs hl h ih => exact .fn f l xs hl ih
  | ptr i off b h => exact .ptr i off b (hb _ _ h)
  | mslc i sz off len b cap o h hc ho => exact .mslc i sz off len b cap o (hb _ _ h) hc ho
  | rptr l b off vs hp h1 h ih => exact .rptr l b off vs hp (fun j hj => hi _ _ (h1 j hj)) ih
  | slc sz l c b off cap vs hc hle hx hp h1 h ih => exact .slc sz l c b off cap vs hc hle hx hp (fun i j hi' hj => hi _ _ (h1 i j hi' hj)) ih
  | map kv r es h1 ks vs hl hk he hp h ih => exact .map kv r es (hm _ _ h1) ks vs hl hk he hp ih

theorem pures_iff {l : List AV} : AV.pure.pures l = true ↔ ∀ u, u ∈ l → u.pure = true := by
  induction l with
  | nil => simp [AV.pure.pures]
  | cons a l ih => simp [AV.pure.pures, ih]

theorem unders_iff {n : Nat} {l : List AV} : AV.under.unders n l = true ↔ ∀ u, u ∈ l → u.under n = true := by
  induction l with
  | nil => simp [AV.under.unders]
  | cons a l ih => simp [AV.under.unders, ih]

theorem hass_iff {i : Id} {l : List AV} : AV.has.hass i l = false ↔ ∀ u, u ∈ l → u.has i = false := by
  induction l with
  | nil => simp [AV.has.hass]
  | cons a l ih => simp [AV.has.hass, ih]

theorem okElem_spec {sz : Nat} {v : AV} (h : v.okElem sz = true) : v.cells.length = sz ∧ ∀ u, u ∈ v.cells → u.pure = true ∧ u.one = true := by
  simpa [AV.okElem] using h

theorem pure_cells {v : AV} (h : v.pure = true) : ∀ u, u ∈ v.cells → u.pure = true := by
  cases v with
  | agg l => intro u hu; exact pures_iff.1 (by simpa [AV.pure] using h) u (by simpa [AV.cells] using hu)
  | _ => intro u hu; simp only [AV.cells, List.mem_singleton] at hu; subst hu; exact h

/-- A pure value does not look at the blocks. -/
theorem RV.pure {v : AV} {x : Value} (h : RV imm map blk v x) (hp : v.pure = true) : RV imm map blk' v x := by
  induction h with
  | undef x => exact .undef x
  | bool b => exact .bool b
  | int k n => exact .int k n
  | str l => exact .str l
  | nilp => exact .nilp
  | nils => exact .nils
  | nili => exact .nili
  | nilf => exact .nilf
  | agg l xs hl h ih => exact .agg l xs hl fun i u x h1 h2 => ih i u x h1 h2 (pures_iff.1 (by simpa [AV.pure] using hp) u (List.mem_of_getElem? h1))
  | tup l xs hl h ih => exact .tup l xs hl fun i u x h1 h2 => ih i u x h1 h2 (pures_iff.1 (by simpa [AV.pure] using hp) u (List.mem_of_getElem? h1))
  | iface t v x h ih => exact .iface t v x (ih (by simpa [AV.pure] using hp))
  | fn f l xs hl h ih => exact .fn f l xs hl fun i u x h1 h2 => ih i u x h1 h2 (pures_iff.1 (by simpa [AV.pure] using hp) u (List.mem_of_getElem? h1))
  | ptr i off b h => simp [AV.pure] at hp
  | mslc i sz off len b cap o h hc ho => simp [AV.pure] at hp
  | rptr l b off vs hp' h1 h ih => exact .rptr l b off vs hp' h1 fun j u hu => ih j u hu (hp' u (List.mem_of_getElem? hu))
  | slc sz l c b off cap vs hc hle hx hp' h1 h ih =>
    exact .slc sz l c b off cap vs hc hle hx hp' h1 fun i v j u hv hu => ih i v j u hv hu ((okElem_spec (hp' v (List.mem_of_getElem? hv))).2 u (List.mem_of_getElem? hu)).1
  | map kv r es h1 ks vs hl hk he hp' h ih =>
    exact .map kv r es h1 ks vs hl hk he hp' fun i e hi => ih i e hi (hp' i (by have := (Array.getElem?_eq_some_iff.1 hi).1; omega))

/-- Only the blocks that a value names matter. -/
theorem RV.has {i : Id} {v : AV} {x : Value} (h : RV imm map blk v x) (hb : ∀ j b, j ≠ i → blk j = some b → blk' j = some b) (hp : v.has i = false) : RV imm map blk' v x := by
  induction h with
  | undef x => exact .undef x
  | bool b => exact .bool b
  | int k n => exact .int k n
  | str l => exact .str l
  | nilp => exact .nilp
  | nils => exact .nils
  | nili => exact .nili
  | nilf => exact .nilf
  | agg l xs hl h ih => exact .agg l xs hl fun i u x h1 h2 => ih i u x h1 h2 (hass_iff.1 (by simpa [AV.has] using hp) u (List.mem_of_getElem? h1))
  | tup l xs hl h ih => exact .tup l xs hl fun i u x h1 h2 => ih i u x h1 h2 (hass_iff.1 (by simpa [AV.has] using hp) u (List.mem_of_getElem? h1))
  | iface t v x h ih => exact .iface t v x (ih (by simpa [AV.has] using hp))
  | fn f l xs hl h ih => exact .fn f l xs hl fun i u x h1 h2 => ih i u x h1 h2 (hass_iff.1 (by simpa [AV.has] using hp) u (List.mem_of_getElem? h1))
  | ptr j off b h => exact .ptr j off b (hb _ _ (by intro e; subst e; simp [AV.has] at hp) h)
  | mslc j sz off len b cap o h hc ho => exact .mslc j sz off len b cap o (hb _ _ (by intro e; subst e; simp [AV.has] at hp) h) hc ho
  | rptr l b off vs hp' h1 h ih => exact .rptr l b off vs hp' h1 fun j u hu => (h j u hu).pure (hp' u (List.mem_of_getElem? hu))
  | slc sz l c b off cap vs hc hle hx hp' h1 h ih =>
    exact .slc sz l c b off cap vs hc hle hx hp' h1 fun i v j u hv hu => (h i v j u hv hu).pure ((okElem_spec (hp' v (List.mem_of_getElem? hv))).2 u (List.mem_of_getElem? hu)).1
  | map kv r es h1 ks vs hl hk he hp' h ih =>
    exact .map kv r es h1 ks vs hl hk he hp' fun i e hi => (h i e hi).pure (hp' i (by have := (Array.getElem?_eq_some_iff.1 hi).1; omega))

/-- Only the blocks of frames below n matter. -/
theorem RV.under {n : Nat} {v : AV} {x : Value} (h : RV imm map blk v x) (hb : ∀ j b, j.fr < n → blk j = some b → blk' j = some b) (hp : v.under n = true) : RV imm map blk' v x := by
  induction h with
  | undef x => exact .undef x
  | bool b => exact .bool b
  | int k n => exact .int k n
  | str l => exact .str l
  | nilp => exact .nilp
  | nils => exact .nils
  | nili => exact .nili
  | nilf => exact .nilf
  | agg l xs hl h ih => exact .agg l xs hl fun i u x h1 h2 => ih i u x h1 h2 (unders_iff.1 (by simpa [AV.under] using hp) u (List.mem_of_getElem? h1))
  | tup l xs hl h ih => exact .tup l xs hl fun i u x h1 h2 => ih i u x h1 h2 (unders_iff.1 (by simpa [AV.under] using hp) u (List.mem_of_getElem? h1))
  | iface t v x h ih => exact .iface t v x (ih (by simpa [AV.under] using hp))
  | fn f l xs hl h ih => exact .fn f l xs hl fun i u x h1 h2 => ih i u x h1 h2 (unders_iff.1 (by simpa [AV.under] using hp) u (List.mem_of_getElem? h1))
  | ptr j off b h => exact .ptr j off b (hb _ _ (by simpa [AV.under] using hp) h)
  | mslc j sz off len b cap o h hc ho => exact .mslc j sz off len b cap o (hb _ _ (by simpa [AV.under] using hp) h) hc ho
  | rptr l b off vs hp' h1 h ih => exact .rptr l b off vs hp' h1 fun j u hu => (h j u hu).pure (hp' u (List.mem_of_getElem? hu))
  | slc sz l c b off cap vs hc hle hx hp' h1 h ih =>
    exact .slc sz l c b off cap vs hc hle hx hp' h1 fun i v j u hv hu => (h i v j u hv hu).pure ((okElem_spec (hp' v (List.mem_of_getElem? hv))).2 u (List.mem_of_getElem? hu)).1
  | map kv r es h1 ks vs hl hk he hp' h ih =>
    exact .map kv r es h1 ks vs hl hk he hp' fun i e hi => (h i e hi).pure (hp' i (by have := (Array.getElem?_eq_some_iff.1 hi).1; omega))

/-- A value at a place that may have the right to append. -/
inductive RL (g : G) (loc : Loc) : AV → Value → Prop
  | val {v : AV} {x : Value} (h : RV g.imm g.map g.blk v x) : RL g loc v x
  | own (sz : Nat) (l : List AV) (b off cap size : Nat) (h : RV g.imm g.map g.blk (.slc sz l .unk) (.slice (some ⟨b, off, none⟩) l.length cap))
      (ho : g.own b = some (loc, off + l.length * sz, size)) (hs : off + cap * sz ≤ size) : RL g loc (.slc sz l .own) (.slice (some ⟨b, off, none⟩) l.length cap)

theorem RL.strip {g : G} {loc : Loc} {v : AV} {x : Value} (h : RL g loc v x) : RV g.imm g.map g.blk v.strip x := by
  cases h with
  | own sz l b off cap size h ho hs => exact h
  | val h =>
    cases h with
    | slc sz l c b off cap vs hc hle hx hp h1 h =>
      cases c with
      | own => exact absurd rfl hc
      | unk => exact .slc sz l .unk b off cap vs hc hle hx hp h1 h
      | exact => exact .slc sz l .exact b off cap vs hc hle hx hp h1 h
    | _ => first | constructor <;> assumption | (simp only [AV.strip]; constructor <;> assumption)

theorem RV.strip {v : AV} {x : Value} (h : RV imm map blk v x) : RV imm map blk v.strip x :=
  (RL.val (g := ⟨imm, map, blk, fun _ => none⟩) (loc := .res) h).strip

/-- What was there stays: how a later state of affairs stands to an elder one. -/
structure Ext (n : Nat) (g g' : G) : Prop where
  imm : ∀ a v, g.imm a = some v → g'.imm a = some v
  map : ∀ r e, g.map r = some e → g'.map r = some e
  blk : ∀ i, i.fr < n → g'.blk i = g.blk i
  own : ∀ b s, g.own b = some (.out, s) → g'.own b = some (.out, s)

theorem Ext.refl (n : Nat) (g : G) : Ext n g g := ⟨fun _ _ h => h, fun _ _ h => h, fun _ _ => rfl, fun _ _ h => h⟩
theorem Ext.trans {n : Nat} {g g' g'' : G} (h : Ext n g g') (k : Ext n g' g'') : Ext n g g'' :=
  ⟨fun a v e => k.imm a v (h.imm a v e), fun r e f => k.map r e (h.map r e f), fun i hi => (k.blk i hi).trans (h.blk i hi), fun b s e => k.own b s (h.own b s e)⟩
theorem Ext.mono {n m : Nat} {g g' : G} (h : Ext n g g') (hm : m ≤ n) : Ext m g g' := ⟨h.imm, h.map, fun i hi => h.blk i (Nat.lt_of_lt_of_le hi hm), h.own⟩

/-- The memory. -/
structure WM (base : Nat) (w0 : World) (g : G) (w : World) (mem : Mem) : Prop where
  imm : ∀ a v, g.imm a = some v → w.cell? a = some v
  map : ∀ r e, g.map r = some e → ∃ clock, w.heap[r]? = some (.map e clock)
  get : ∀ i c, mem.get i = some c → ∃ b, g.blk i = some b
  blk : ∀ i b, g.blk i = some b → base ≤ b ∧ i.fr < mem.length ∧ ∃ c arr elem, mem.get i = some c ∧ w.heap[b]? = some (.cells arr elem (0, 0)) ∧ arr.size = c.length ∧
    ∀ (j : Nat) v x, c[j]? = some v → arr[j]? = some x → RL g (.cell i j) v x
  inj : ∀ i j b, g.blk i = some b → g.blk j = some b → i = j
  apart : ∀ i b o s, g.blk i = some b → g.imm ⟨b, o, s⟩ = none
  own : ∀ b l f s, g.own b = some (l, f, s) → base ≤ b ∧ (∃ arr elem, w.heap[b]? = some (.cells arr elem (0, 0)) ∧ arr.size = s) ∧ (∀ o s, f ≤ o → g.imm ⟨b, o, s⟩ = none) ∧ ∀ i, g.blk i ≠ some b
  old : Below base w0 w
  size : base ≤ w.heap.size

/-- The temporaries. -/
structure WT (g : G) (tm : List AV) (xs : Array Value) : Prop where
  size : tm.length = xs.size
  at' : ∀ (i : Nat) v x, tm[i]? = some v → xs[i]? = some x → RL g (.tmp i) v x

end Go.VA
