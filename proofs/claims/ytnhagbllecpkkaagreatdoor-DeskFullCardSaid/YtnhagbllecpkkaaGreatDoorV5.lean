/-
  The abstract machine: VaPrim, VaDen, VaEnv, VaEnv2, VaPrim2, VaPrim3.
-/
import Derived.Test.YtnhagbllecpkkaaGreatDoorV4
import Derived.Lib.AtoiAll
import Derived.Lib.ItoaNum
import Derived.Lib.Split
import Derived.Lib.SplitLaws
import Derived.Lib.Join
import Derived.Lib.Strings
import Derived.Lib.IndexMore
import Derived.Lib.LaidTab
import Derived.Lib.ConvBytes
import Derived.Test.YtnhagbllecpkkaaGreatDoorV1
import Derived.IntWalk
import Derived.Lib.Index
import Derived.Laws.AppendOwn
set_option linter.unusedSimpArgs false
set_option linter.unusedVariables false
/-
  Functions of the library that are not run but taken by their contracts.
-/
namespace Go.VA
open Go Go.RowKit

abbrev Prim := List AV → Option AV

def PrimAt (P : Program) (base : Nat) (w0 : World) (f : FuncId) (q : Prim) : Prop :=
  Enters P f ∧ ∀ args r, q args = some r → r.pure = true ∧ ∀ (imm : Addr → Option Value) (map : Nat → Option Obj) (w : World) (xs : Array Value), Below base w0 w → base ≤ w.heap.size →
    (∀ a v, imm a = some v → w.cell? a = some v) → RVs imm map (fun _ => none) args xs.toList →
    Calls P f xs w fun e w' => ∃ x, e = .returned x ∧ Below w.heap.size w w' ∧ RV (fun a => if a.block < w.heap.size then imm a else w'.cell? a) map (fun _ => none) r x

theorem primOK_of {P : Program} {C : Ctx} {base : Nat} {w0 : World} (h : ∀ f q, C.prim f = some q → PrimAt P base w0 f q) : PrimOK P C base w0 := by
  intro f q hq args r hr
  obtain ⟨h1, h2⟩ := h f q hq
  obtain ⟨h3, h4⟩ := h2 args r hr
  exact ⟨h1, h3, h4⟩

def qItoa : Prim
  | [.int .i64 n] => if -9223372036854775808 ≤ n ∧ n ≤ 9223372036854775807 then some (.str (Lib.itoa n)) else none
  | _ => none

def qAtoi (t : TypeId) : Prim
  | [.str s] => if s.length ≤ 281474976710656 then (match Lib.atoiAll s with
    | .ok v => some (.tup [.int .i64 v, .nili])
    | .range => some (.tup [.int .i64 (Lib.atoiSat s), .iface t .undef])
    | _ => some (.tup [.int .i64 0, .iface t .undef])) else none
  | _ => none

def qTrimPrefix : Prim
  | [.str s, .str p] => some (.str (Lib.trimPrefix s p))
  | _ => none

def qContains : Prim
  | [.str s, .str p] => if s.length < 4294967281 then some (.bool (Lib.contains s p)) else none
  | _ => none

def qSplit : Prim
  | [.str s, .str p] => if s.length < 4294967281 ∧ 1 ≤ p.length then
      some (.slc 1 ((Lib.splitK p 0 (Lib.countB ⟨s.toArray⟩ ⟨p.toArray⟩) s).map .str) .exact) else none
  | _ => none

def strsOf : List AV → Option (List (List UInt8))
  | [] => some []
  | .str s :: r => (strsOf r).map (s :: ·)
  | _ => none

def qJoin : Prim
  | [.nils, .str _] => some (.str [])
  | [.slc 1 l _, .str sep] => (strsOf l).bind fun xs => if xs.length ≤ 140737488355328 ∧ (Lib.join xs sep).length ≤ 140737488355328 then some (.str (Lib.join xs sep)) else none
  | _ => none

section
variable {P : Program} {base : Nat} {w0 : World} {f : FuncId} {imm : Addr → Option Value} {map : Nat → Option Obj} {blk : Id → Option Nat}

theorem rvs_one {a : AV} {xs : Array Value} (h : RVs imm map blk [a] xs.toList) : ∃ x, xs = #[x] ∧ RV imm map blk a x := by
  obtain ⟨h1, h2⟩ := h
  have : xs.size = 1 := by simpa using h1.symm
  obtain ⟨l⟩ := xs
  match l, this with
  | [x], _ => exact ⟨x, rfl, h2 0 a x rfl rfl⟩

theorem rvs_two {a b : AV} {xs : Array Value} (h : RVs imm map blk [a, b] xs.toList) : ∃ x y, xs = #[x, y] ∧ RV imm map blk a x ∧ RV imm map blk b y := by
  obtain ⟨h1, h2⟩ := h
  have : xs.size = 2 := by simpa using h1.symm
  obtain ⟨l⟩ := xs
  match l, this with
  | [x, y], _ => exact ⟨x, y, rfl, h2 0 a x rfl rfl, h2 1 b y rfl rfl⟩

theorem rv_str {l : List UInt8} {x : Value} (h : RV imm map blk (.str l) x) : x = .string ⟨l.toArray⟩ := by cases h; rfl
theorem rv_int {k : IntKind} {n : Int} {x : Value} (h : RV imm map blk (.int k n) x) : x = .int k n := by cases h; rfl

theorem size_arr (l : List UInt8) : (ByteArray.mk l.toArray).size = l.length := by simp [ByteArray.size]

theorem var_below {w : World} {name : String} {cs : Array Value} (h : w0.var? P name = some cs) (hb : Below base w0 w) (hg : ∃ g, P.globalNamed name = some g ∧ g < base) : w.var? P name = some cs := by
  obtain ⟨g, h1, h2⟩ := hg
  simp only [World.var?, h1, Option.bind_some] at h ⊢
  rw [hb.block g h2]
  exact h

theorem prim_Itoa (hent : Enters P f) (hlt : ∃ g, P.globalNamed "internal/strconv.uint64pow10" = some g ∧ g < base) (htab : Lib.TabIs P w0 "internal/strconv.uint64pow10" .u64 Lib.pow10Tab)
    (hC : ∀ (n : Int) (_ : -9223372036854775808 ≤ n) (_ : n ≤ 9223372036854775807) (w : World) (_ : Lib.TabIs P w "internal/strconv.uint64pow10" .u64 Lib.pow10Tab),
      Calls P f #[.int .i64 n] w fun e w' => e = .returned (.string ⟨(Lib.itoa n).toArray⟩) ∧ Below w.heap.size w w') : PrimAt P base w0 f qItoa := by
  refine ⟨hent, fun args r hr => ?_⟩
  unfold qItoa at hr
  split at hr
  · rename_i n
    split at hr
    · rename_i hn
      cases hr
      refine ⟨rfl, fun imm map w xs hB hs hi ha => ?_⟩
      obtain ⟨x, rfl, hx⟩ := rvs_one ha
      rw [rv_int hx]
      refine (hC n hn.1 hn.2 w (var_below htab hB hlt)).mono fun e w' h => ?_
      obtain ⟨rfl, h⟩ := h
      exact ⟨_, rfl, h, .str _⟩
    · cases hr
  · cases hr

theorem bytesWorld_below (w : World) (e : TypeId) (s : ByteArray) : Below w.heap.size w (Lib.bytesWorld w e s) :=
  ⟨rfl, rfl, rfl, by rw [Lib.bytesWorld_size]; omega, fun j hj => Lib.bytesWorld_at_old w e s j hj⟩

theorem prim_Atoi {t e5 : TypeId} (hent : Enters P f) {g1 g2 : Nat} {v1 v2 : Value} (hg1 : g1 < base) (hg2 : g2 < base) (h1 : w0.cell? ⟨g1, 0, none⟩ = some v1) (h2 : w0.cell? ⟨g2, 0, none⟩ = some v2)
    (k1 : v1 = .nilIface ∨ ∃ te pe, v1 = .iface te pe) (k2 : v2 = .nilIface ∨ ∃ te pe, v2 = .iface te pe)
    (hok : ∀ (s : ByteArray) (_ : s.size ≤ 9223372036854775806) (v : Int) (_ : Lib.atoiAll s.data.toList = .ok v) (w : World),
      Calls P f #[.string s] w fun e w' => e = .returned (.tuple #[.int .i64 v, .nilIface]) ∧ (w' = w ∨ ∃ t, w' = Lib.bytesWorld w e5 t))
    (hsy : ∀ (s : ByteArray) (_ : s.size ≤ 281474976710656) (_ : Lib.atoiAll s.data.toList = Lib.atoiAll []) (ev : Value) (w : World) (_ : w.cell? ⟨g1, 0, none⟩ = some ev) (_ : ev = .nilIface ∨ ∃ te pe, ev = .iface te pe),
      Calls P f #[.string s] w fun e w' => ∃ N, e = .returned (.tuple #[.int .i64 (0), .iface t (.pointer (some ⟨N, 0, none⟩))]) ∧ Below w.heap.size w w')
    (hra : ∀ (s : ByteArray) (_ : s.size ≤ 281474976710656) (_ : Lib.atoiAll s.data.toList = .range) (ev : Value) (w : World) (_ : w.cell? ⟨g2, 0, none⟩ = some ev) (_ : ev = .nilIface ∨ ∃ te pe, ev = .iface te pe),
      Calls P f #[.string s] w fun e w' => ∃ N, e = .returned (.tuple #[.int .i64 (Lib.atoiSat s.data.toList), .iface t (.pointer (some ⟨N, 0, none⟩))]) ∧ Below w.heap.size w w') : PrimAt P base w0 f (qAtoi t) := by
  refine ⟨hent, fun args r hr => ?_⟩
  have two : ∀ {imm : Addr → Option Value} {map : Nat → Option Obj} {a b : AV} {x y : Value}, RV imm map (fun _ => none) a x → RV imm map (fun _ => none) b y → RV imm map (fun _ => none) (.tup [a, b]) (.tuple #[x, y]) := by
    intro imm map a b x y ha hb
    refine .tup _ _ rfl fun i u z hu hz => ?_
    match i with
    | 0 => cases hu; cases hz; exact ha
    | 1 => cases hu; cases hz; exact hb
    | i + 2 => simp at hu
  unfold qAtoi at hr
  split at hr
  · rename_i s
    split at hr
    · rename_i hl
      have hsz := size_arr s
      split at hr
      · rename_i v hv
        cases hr
        refine ⟨rfl, fun imm map w xs hB hs hi ha => ?_⟩
        obtain ⟨x, rfl, hx⟩ := rvs_one ha
        rw [rv_str hx]
        refine (hok ⟨s.toArray⟩ (by omega) v (by simpa using hv) w).mono fun e w' h => ?_
        obtain ⟨rfl, h⟩ := h
        refine ⟨_, rfl, ?_, two (.int _ _) .nili⟩
        rcases h with rfl | ⟨t, rfl⟩
        · exact .refl _ _
        · exact bytesWorld_below _ _ _
      · rename_i hv
        cases hr
        refine ⟨rfl, fun imm map w xs hB hs hi ha => ?_⟩
        obtain ⟨x, rfl, hx⟩ := rvs_one ha
        rw [rv_str hx]
        refine (hra ⟨s.toArray⟩ (by omega) (by simpa using hv) v2 w (by rw [hB.cell hg2]; exact h2) k2).mono fun e w' h => ?_
        obtain ⟨N, rfl, h⟩ := h
        refine ⟨_, rfl, h, two ?_ (.iface _ _ _ (.undef _))⟩
        rw [List.toList_toArray]
        exact .int _ _
      · rename_i h1' h2'
        cases hr
        have hv : Lib.atoiAll s = Lib.atoiAll [] := by
          cases hq : Lib.atoiAll s with
          | ok v => exact absurd hq (h1' v)
          | range => exact absurd hq h2'
          | _ => rfl
        refine ⟨rfl, fun imm map w xs hB hs hi ha => ?_⟩
        obtain ⟨x, rfl, hx⟩ := rvs_one ha
        rw [rv_str hx]
        refine (hsy ⟨s.toArray⟩ (by omega) (by simpa using hv) v1 w (by rw [hB.cell hg1]; exact h1) k1).mono fun e w' h => ?_
        obtain ⟨N, rfl, h⟩ := h
        exact ⟨_, rfl, h, two (.int _ _) (.iface _ _ _ (.undef _))⟩
    · cases hr
  · cases hr

theorem prim_TrimPrefix (hent : Enters P f)
    (hC : ∀ (s p : ByteArray) (w : World), Calls P f #[.string s, .string p] w fun e w' => e = .returned (.string ⟨(Lib.trimPrefix s.data.toList p.data.toList).toArray⟩) ∧ w' = w) : PrimAt P base w0 f qTrimPrefix := by
  refine ⟨hent, fun args r hr => ?_⟩
  unfold qTrimPrefix at hr
  split at hr
  · rename_i s p
    cases hr
    refine ⟨rfl, fun imm map w xs hB hs hi ha => ?_⟩
    obtain ⟨x, y, rfl, hx, hy⟩ := rvs_two ha
    rw [rv_str hx, rv_str hy]
    refine (hC _ _ w).mono fun e w' h => ?_
    obtain ⟨rfl, rfl⟩ := h
    exact ⟨_, rfl, .refl _ _, .str _⟩
  · cases hr

theorem prim_Contains (hent : Enters P f) {g : Nat} {m : Int} (hg : g < base) (hm : w0.cell? ⟨g, 0, none⟩ = some (.int .i64 m))
    (hC : ∀ (s sub : ByteArray) (m : Int) (w : World) (_ : s.size < 4294967281) (_ : w.cell? ⟨g, 0, none⟩ = some (.int .i64 m)),
      Calls P f #[.string s, .string sub] w fun e w' => e = .returned (.bool (Lib.contains s.data.toList sub.data.toList)) ∧ w' = w) : PrimAt P base w0 f qContains := by
  refine ⟨hent, fun args r hr => ?_⟩
  unfold qContains at hr
  split at hr
  · rename_i s p
    split at hr
    · rename_i hl
      cases hr
      refine ⟨rfl, fun imm map w xs hB hs hi ha => ?_⟩
      obtain ⟨x, y, rfl, hx, hy⟩ := rvs_two ha
      rw [rv_str hx, rv_str hy]
      refine (hC _ _ m w (by rw [size_arr]; exact hl) (by rw [hB.cell hg]; exact hm)).mono fun e w' h => ?_
      obtain ⟨rfl, rfl⟩ := h
      exact ⟨_, rfl, .refl _ _, .bool _⟩
    · cases hr
  · cases hr

theorem prim_Split {e9 : TypeId} (hent : Enters P f) {g : Nat} {m : Int} (hg : g < base) (hm : w0.cell? ⟨g, 0, none⟩ = some (.int .i64 m))
    (hC : ∀ (s sep : ByteArray) (m : Int) (w : World) (_ : s.size < 4294967281) (_ : w.cell? ⟨g, 0, none⟩ = some (.int .i64 m)) (_ : 1 ≤ sep.size),
      Calls P f #[.string s, .string sep] w fun e w' =>
        e = .returned (.slice (some ⟨w.heap.size, 0, none⟩) (Lib.countB s sep + 1) (Lib.countB s sep + 1)) ∧ w' = w.alloc (.cells ((Lib.splitB sep 0 (Lib.countB s sep) s).map Value.string).toArray e9)) : PrimAt P base w0 f qSplit := by
  refine ⟨hent, fun args r hr => ?_⟩
  unfold qSplit at hr
  split at hr
  · rename_i s p
    split at hr
    · rename_i hl
      cases hr
      have hp : AV.pure (.slc 1 ((Lib.splitK p 0 (Lib.countB ⟨s.toArray⟩ ⟨p.toArray⟩) s).map AV.str) .exact) = true := rfl
      refine ⟨hp, fun imm map w xs hB hs hi ha => ?_⟩
      obtain ⟨x, y, rfl, hx, hy⟩ := rvs_two ha
      rw [rv_str hx, rv_str hy]
      refine (hC _ _ m w (by rw [size_arr]; exact hl.1) (by rw [hB.cell hg]; exact hm) (by rw [size_arr]; exact hl.2)).mono fun e w' h => ?_
      obtain ⟨rfl, rfl⟩ := h
      refine ⟨_, rfl, (Below.refl _ _).alloc (Nat.le_refl _) _, ?_⟩
      have hsp := Lib.splitB_data ⟨p.toArray⟩ 0 (Lib.countB ⟨s.toArray⟩ ⟨p.toArray⟩) ⟨s.toArray⟩
      have hlen := Lib.splitB_all ⟨p.toArray⟩ (by rw [size_arr]; exact hl.2) 0 _ ⟨s.toArray⟩ rfl
      simp only at hsp
      have hk : (Lib.splitK p 0 (Lib.countB ⟨s.toArray⟩ ⟨p.toArray⟩) s).length = Lib.countB ⟨s.toArray⟩ ⟨p.toArray⟩ + 1 := by
        rw [← hsp, List.length_map, hlen]
      have hat : ∀ (i : Nat) (u : List UInt8), (Lib.splitK p 0 (Lib.countB ⟨s.toArray⟩ ⟨p.toArray⟩) s)[i]? = some u → ((Lib.splitB ⟨p.toArray⟩ 0 (Lib.countB ⟨s.toArray⟩ ⟨p.toArray⟩) ⟨s.toArray⟩).map Value.string)[i]? = some (.string ⟨u.toArray⟩) := by
        intro i u hu
        rw [← hsp, List.getElem?_map, Option.map_eq_some_iff] at hu
        obtain ⟨b, hb, rfl⟩ := hu
        rw [List.getElem?_map, hb]
        simp
      have key := RV.slc (imm := fun a => if a.block < w.heap.size then imm a else (w.alloc (.cells ((Lib.splitB ⟨p.toArray⟩ 0 (Lib.countB ⟨s.toArray⟩ ⟨p.toArray⟩) ⟨s.toArray⟩).map Value.string).toArray e9)).cell? a) (map := map) (blk := fun _ => none)
        1 ((Lib.splitK p 0 (Lib.countB ⟨s.toArray⟩ ⟨p.toArray⟩) s).map AV.str) .exact w.heap.size 0 (Lib.countB ⟨s.toArray⟩ ⟨p.toArray⟩ + 1)
        (fun i _ => .string ⟨((Lib.splitK p 0 (Lib.countB ⟨s.toArray⟩ ⟨p.toArray⟩) s).getD i []).toArray⟩) (by simp) (by rw [List.length_map, hk]; exact Nat.le_refl _) (fun _ => by rw [List.length_map, hk])
        (fun v hv => by
          obtain ⟨u, _, rfl⟩ := List.mem_map.1 hv
          rfl)
        (fun i j hi hj => by
          have hj0 : j = 0 := by omega
          subst hj0
          rw [List.length_map] at hi
          obtain ⟨u, hu⟩ : ∃ u, (Lib.splitK p 0 (Lib.countB ⟨s.toArray⟩ ⟨p.toArray⟩) s)[i]? = some u := ⟨_, List.getElem?_eq_getElem hi⟩
          dsimp only
          rw [if_neg (by show ¬ w.heap.size < w.heap.size; omega)]
          have := hat i u hu
          rw [show 0 + (i * 1 + 0) = i by omega, World.cell?_alloc_new, List.getElem?_toArray, this, List.getD_eq_getElem?_getD, hu]
          rfl)
        (fun i v j u hv hu => by
          rw [List.getElem?_map, Option.map_eq_some_iff] at hv
          obtain ⟨t, ht, rfl⟩ := hv
          have hu' : [AV.str t][j]? = some u := hu
          match j with
          | 0 =>
            cases hu'
            rw [List.getD_eq_getElem?_getD, ht]
            exact .str _
          | j + 1 => simp at hu')
      rw [List.length_map, hk] at key
      exact key
    · cases hr
  · cases hr

theorem strsOf_map : ∀ {l : List AV} {xs : List (List UInt8)}, strsOf l = some xs → l = xs.map AV.str
  | [], xs, h => by cases h; rfl
  | v :: l, xs, h => by
    unfold strsOf at h
    split at h
    · rename_i h1; cases h1
    · rename_i s r h1
      cases h1
      rw [Option.map_eq_some_iff] at h
      obtain ⟨y, h2, rfl⟩ := h
      rw [strsOf_map h2]
      rfl
    · cases h

theorem prim_Join (hent : Enters P f)
    (h0 : ∀ (a : Option Addr) (c : Nat) (sep : ByteArray) (w : World), Calls P f #[.slice a 0 c, .string sep] w fun e w' => e = .returned (.string ⟨#[]⟩) ∧ w' = w)
    (hC : ∀ (bk o c : Nat) (xs : List ByteArray) (sep : ByteArray) (w : World) (_ : ∀ (j : Nat) x, xs[j]? = some x → w.cell? ⟨bk, o + j, none⟩ = some (.string x)) (_ : bk < w.heap.size) (_ : xs.length ≤ 140737488355328) (_ : xs.length ≤ c)
      (_ : (Lib.join (xs.map (·.data.toList)) sep.data.toList).length ≤ 140737488355328),
      Calls P f #[.slice (some ⟨bk, o, none⟩) xs.length c, .string sep] w fun e w' => e = .returned (.string ⟨(Lib.join (xs.map (·.data.toList)) sep.data.toList).toArray⟩) ∧ Below w.heap.size w w') : PrimAt P base w0 f qJoin := by
  refine ⟨hent, fun args r hr => ?_⟩
  unfold qJoin at hr
  split at hr
  · cases hr
    refine ⟨rfl, fun imm map w xs hB hs hi ha => ?_⟩
    obtain ⟨x, y, rfl, hx, hy⟩ := rvs_two ha
    rw [rv_str hy]
    cases hx
    refine (h0 _ _ _ w).mono fun e w' h => ?_
    obtain ⟨rfl, rfl⟩ := h
    exact ⟨_, rfl, .refl _ _, .str []⟩
  · rename_i l c sep
    rw [Option.bind_eq_some_iff] at hr
    obtain ⟨ts, hts, hr⟩ := hr
    split at hr
    · rename_i hl
      cases hr
      refine ⟨rfl, fun imm map w xs hB hs hi ha => ?_⟩
      obtain ⟨x, y, rfl, hx, hy⟩ := rvs_two ha
      rw [rv_str hy]
      have hm := strsOf_map hts
      subst hm
      have hid : (ts.map fun t => ByteArray.mk t.toArray).map (·.data.toList) = ts := by
        rw [List.map_map]
        conv => rhs; rw [← List.map_id ts]
        exact List.map_congr_left fun t _ => by simp
      cases hx with
      | slc _ _ _ b off cap vs hc hle hx hp h1 h =>
        rw [List.length_map] at hle
        have hcell : ∀ (j : Nat) (u : ByteArray), (ts.map fun t => ByteArray.mk t.toArray)[j]? = some u → w.cell? ⟨b, off + j, none⟩ = some (.string u) := by
          intro j u hu
          rw [List.getElem?_map, Option.map_eq_some_iff] at hu
          obtain ⟨t, ht, rfl⟩ := hu
          have hj : j < ts.length := (List.getElem?_eq_some_iff.1 ht).1
          have e1 := hi _ _ (h1 j 0 (by simpa using hj) (by omega))
          have e2 := h j (.str t) 0 (.str t) (by rw [List.getElem?_map, ht]; rfl) rfl
          rw [rv_str e2] at e1
          rw [← e1]
          congr 2
          omega
        rw [List.length_map]
        by_cases hnil : ts = []
        · subst hnil
          refine (h0 _ _ _ w).mono fun e w' h => ?_
          obtain ⟨rfl, rfl⟩ := h
          exact ⟨_, rfl, .refl _ _, .str []⟩
        · have hbk : b < w.heap.size := by
            obtain ⟨t, ht⟩ := List.exists_mem_of_ne_nil _ hnil
            obtain ⟨j, hj, hjt⟩ := List.getElem_of_mem ht
            have := hcell j ⟨t.toArray⟩ (by rw [List.getElem?_map, List.getElem?_eq_getElem hj, hjt]; rfl)
            unfold World.cell? at this
            cases hh : w.heap[b]? with
            | none => rw [hh] at this; cases this
            | some o => exact (Array.getElem?_eq_some_iff.1 hh).1
          have hcall := hC b off cap (ts.map fun t => ByteArray.mk t.toArray) ⟨sep.toArray⟩ w hcell hbk (by rw [List.length_map]; exact hl.1) (by rw [List.length_map]; exact hle)
            (by rw [hid, List.toList_toArray]; exact hl.2)
          rw [hid, List.toList_toArray, List.length_map] at hcall
          refine hcall.mono fun e w' h => ?_
          obtain ⟨rfl, h⟩ := h
          exact ⟨_, rfl, h, .str _⟩
    · cases hr
  · cases hr

end
end Go.VA

/-
  The abstract machine without fuel: the limit, and its equations.
-/
namespace Go.VA
open Go

abbrev Rec := ACode → St → Option (Ex × St)
def Le (f g : Rec) : Prop := ∀ c σ r, f c σ = some r → g c σ = some r
def LeC (f g : CallF) : Prop := ∀ fn args mem r, f fn args mem = some r → g fn args mem = some r

section
variable {C : Ctx} {f g : Rec} {c c' : CallF}

theorem callWith_mono (h : Le f g) : LeC (callWith C f) (callWith C g) := by
  intro fn args mem r he
  unfold callWith at he ⊢
  split at he
  · exact he
  · split at he
    · exact he
    · split at he
      · cases he
      · split at he
        · rename_i σ hr; rw [h _ _ _ hr]; exact he
        · rename_i σ hr; rw [h _ _ _ hr]; exact he
        · cases he

theorem evAny_mono (h : LeC c c') {mem d ρ op r} (he : evAny C c mem d ρ op = some r) : evAny C c' mem d ρ op = some r := by
  unfold evAny at he ⊢
  split at he
  · split at he
    · exact h _ _ _ _ he
    · cases he
  · split at he
    · split at he
      · exact h _ _ _ _ he
      · cases he
    · cases he
  · exact he

theorem evOper_mono (h : LeC c c') {o σ r} (he : evOper C c o σ = some r) : evOper C c' o σ = some r := by
  have go : ∀ {r}, (evAny C c σ.mem (o.dst.getD 0) (rho σ.tm o.take) o.op).map (fun (v, m) => (⟨putT (stripAll σ.tm o.take) o.dst v, m⟩ : St)) = some r →
      (evAny C c' σ.mem (o.dst.getD 0) (rho σ.tm o.take) o.op).map (fun (v, m) => (⟨putT (stripAll σ.tm o.take) o.dst v, m⟩ : St)) = some r := by
    intro r he
    rw [Option.map_eq_some_iff] at he ⊢
    obtain ⟨x, h1, h2⟩ := he
    exact ⟨x, evAny_mono h h1, h2⟩
  unfold evOper at he ⊢
  split at he
  · exact go he
  · split at he
    · rename_i b hb
      cases hbw : (b == _) with
      | true => rw [hbw] at he; exact go he
      | false => rw [hbw] at he; exact he
    · exact he
    · cases he

theorem evOps_mono (h : LeC c c') : ∀ {ops σ r}, evOps C c ops σ = some r → evOps C c' ops σ = some r
  | [], _, _, he => he
  | o :: ops, σ, r, he => by
    simp only [evOps, Option.bind_eq_some_iff] at he ⊢
    obtain ⟨x, h1, h2⟩ := he
    exact ⟨x, evOper_mono h h1, evOps_mono h h2⟩

theorem evDraw_mono (h : LeC c c') : ∀ {ops k fs σ r}, evDraw C c ops k fs σ = some r → evDraw C c' ops k fs σ = some r
  | [], _, _, _, _, he => he
  | o :: ops, k, fs, σ, r, he => by
    unfold evDraw at he ⊢
    split at he
    · rename_i hc
      rw [if_pos hc]
      rw [Option.bind_eq_some_iff] at he ⊢
      obtain ⟨x, h1, h2⟩ := he
      refine ⟨x, evOper_mono h h1, ?_⟩
      split at h2
      · rename_i hq
        rw [if_pos hq]
        split at h2
        · rename_i hm; rw [if_pos hm]; exact evDraw_mono h h2
        · cases h2
      · rename_i hq
        rw [if_neg hq]
        exact evDraw_mono h h2
    · cases he

theorem rounds_mono (h : Le f g) {ps : List Nat} {asg body : ACode} {tm : List AV} : ∀ {xs m r}, rounds f ps asg body tm xs m = some r → rounds g ps asg body tm xs m = some r
  | [], _, _, he => he
  | x :: xs, m, r, he => by
    simp only [rounds] at he ⊢
    split at he
    · rename_i σa h1
      rw [h _ _ _ h1]
      dsimp only
      split at he
      · rename_i σb h2
        rw [h _ _ _ h2]
        exact rounds_mono h he
      · rename_i e σb hne h2
        rw [h _ _ _ h2]
        cases e with
        | normal => exact absurd rfl hne
        | _ => exact he
      · cases he
    · cases he

theorem csetIn_mono (h : LeC c c') {fn x t0 t sz i o1 v1 o2 v2 ds σ r} (he : csetIn C c fn x t0 t sz i o1 v1 o2 v2 ds σ = some r) : csetIn C c' fn x t0 t sz i o1 v1 o2 v2 ds σ = some r := by
  unfold csetIn at he ⊢
  split at he
  · rename_i hc
    rw [if_pos hc]
    rw [Option.bind_eq_some_iff] at he ⊢
    obtain ⟨p, h1, h2⟩ := he
    exact ⟨p, h _ _ _ _ h1, h2⟩
  · cases he

theorem stepC_mono (h : Le f g) : Le (stepC C f) (stepC C g) := by
  have hc := callWith_mono (C := C) h
  intro a σ r he
  cases a with
  | skip => exact he
  | reg d ops =>
    cases d with
    | false =>
      simp only [stepC, Option.map_eq_some_iff] at he ⊢
      obtain ⟨x, h1, h2⟩ := he
      exact ⟨x, evOps_mono hc h1, h2⟩
    | true =>
      simp only [stepC, Option.map_eq_some_iff] at he ⊢
      obtain ⟨x, h1, h2⟩ := he
      exact ⟨x, evDraw_mono hc h1, h2⟩
  | seq x y =>
    simp only [stepC] at he ⊢
    split at he
    · rename_i σ1 h1; rw [h _ _ _ h1]; exact h _ _ _ he
    · rename_i hne
      rw [h _ _ _ he]
      split
      · rename_i σ1 h1; cases h1; exact absurd he (hne σ1)
      · rfl
  | cond q x y =>
    simp only [stepC] at he ⊢
    split at he
    · rename_i t ht
      cases t with
      | true => exact h _ _ _ he
      | false => exact h _ _ _ he
    · cases he
  | block id x =>
    simp only [stepC] at he ⊢
    split at he
    · rename_i j σ1 h1; rw [h _ _ _ h1]; exact he
    · rename_i hne
      rw [h _ _ _ he]
      split
      · rename_i j σ1 h1; cases h1; exact absurd he (hne j σ1)
      · rfl
  | loop x =>
    simp only [stepC] at he ⊢
    split at he
    · rename_i σ1 h1; rw [h _ _ _ h1]; exact h _ _ _ he
    · rename_i hne
      rw [h _ _ _ he]
      split
      · rename_i σ1 h1; cases h1; exact absurd he (hne σ1)
      · rfl
  | exit id => exact he
  | ret => exact he
  | cut k d x =>
    simp only [stepC, Option.bind_eq_some_iff] at he ⊢
    obtain ⟨y, h1, h2⟩ := he
    exact ⟨y, h1, h _ _ _ h2⟩
  | cset pre fn x t0 t sz i o1 v1 o2 v2 ds y =>
    simp only [stepC, Option.bind_eq_some_iff] at he ⊢
    obtain ⟨σ1, h1, σ2, h2, h3⟩ := he
    exact ⟨σ1, evOps_mono hc h1, σ2, csetIn_mono hc h2, h _ _ _ h3⟩
  | rangeI b pre fn args t ps asg body =>
    simp only [stepC, Option.bind_eq_some_iff] at he ⊢
    obtain ⟨σ1, h1, xs, h2, h3⟩ := he
    refine ⟨σ1, evOps_mono hc h1, xs, h2, ?_⟩
    split at h3
    · rename_i ht
      rw [if_pos ht]
      unfold overI at h3 ⊢
      rw [Option.map_eq_some_iff] at h3 ⊢
      obtain ⟨y, h4, h5⟩ := h3
      exact ⟨y, rounds_mono h h4, h5⟩
    · cases h3

theorem ev_succ : ∀ n, Le (ev C n) (ev C (n + 1))
  | 0 => fun _ _ _ h => by cases h
  | n + 1 => stepC_mono (ev_succ n)

theorem ev_le {n m : Nat} (h : n ≤ m) : Le (ev C n) (ev C m) := by
  induction h with
  | refl => exact fun _ _ _ h => h
  | step _ ih => exact fun c σ r h => ev_succ _ c σ r (ih c σ r h)

end

open Classical in
/-- What the abstract machine finds with fuel enough. -/
noncomputable def den (C : Ctx) : Rec := fun c σ => if h : ∃ r n, ev C n c σ = some r then some h.choose else none

noncomputable def callD (C : Ctx) : CallF := callWith C (den C)

section
variable {C : Ctx}

theorem den_of_ev {n c σ r} (h : ev C n c σ = some r) : den C c σ = some r := by
  have hex : ∃ r n, ev C n c σ = some r := ⟨r, n, h⟩
  unfold den
  rw [dif_pos hex]
  obtain ⟨m, hm⟩ := hex.choose_spec
  rcases Nat.le_total n m with hl | hl
  · rw [← hm, ev_le hl _ _ _ h]
  · rw [← h, ev_le hl _ _ _ hm]

theorem ev_of_den {c σ r} (h : den C c σ = some r) : ∃ n, ev C n c σ = some r := by
  unfold den at h
  split at h
  · rename_i hex; cases h; exact hex.choose_spec
  · cases h

theorem le_den (n : Nat) : Le (ev C n) (den C) := fun _ _ _ h => den_of_ev h

theorem ev_fact (n : Nat) {f args mem r} (h : callWith C (ev C n) f args mem = some r) : callD C f args mem = some r := callWith_mono (le_den n) _ _ _ _ h

theorem call_cont {f args mem r} (h : callD C f args mem = some r) : ∃ n, callWith C (ev C n) f args mem = some r := by
  unfold callD callWith at h
  split at h
  · rename_i q hq; exact ⟨0, by unfold callWith; rw [hq]; exact h⟩
  · rename_i hq
    split at h
    · rename_i q hm; exact ⟨0, by unfold callWith; rw [hq]; dsimp only; rw [hm]; exact h⟩
    rename_i hm
    split at h
    · cases h
    · rename_i af haf
      split at h
      · rename_i σ hr
        obtain ⟨n, hn⟩ := ev_of_den hr
        exact ⟨n, by unfold callWith; rw [hq]; dsimp only; rw [hm]; dsimp only; rw [haf]; dsimp only; rw [hn]; exact h⟩
      · rename_i σ hr
        obtain ⟨n, hn⟩ := ev_of_den hr
        exact ⟨n, by unfold callWith; rw [hq]; dsimp only; rw [hm]; dsimp only; rw [haf]; dsimp only; rw [hn]; exact h⟩
      · cases h

theorem any_cont {mem d ρ op r} (h : evAny C (callD C) mem d ρ op = some r) : ∃ n, evAny C (callWith C (ev C n)) mem d ρ op = some r := by
  unfold evAny at h
  split at h
  · split at h
    · rename_i hf
      obtain ⟨n, hn⟩ := call_cont h
      exact ⟨n, by unfold evAny; dsimp only; rw [hf]; exact hn⟩
    · cases h
  · split at h
    · rename_i hx
      split at h
      · rename_i hg
        obtain ⟨n, hn⟩ := call_cont h
        exact ⟨n, by unfold evAny; dsimp only; rw [hx]; dsimp only; rw [hg]; exact hn⟩
      · cases h
    · cases h
  · rename_i h1 h2
    refine ⟨0, ?_⟩
    unfold evAny
    split
    · exact absurd rfl (h1 _ _)
    · exact absurd rfl (h2 _ _ _)
    · exact h

theorem oper_cont {o σ r} (h : evOper C (callD C) o σ = some r) : ∃ n, evOper C (callWith C (ev C n)) o σ = some r := by
  have go : ∀ {r}, (evAny C (callD C) σ.mem (o.dst.getD 0) (rho σ.tm o.take) o.op).map (fun (v, m) => (⟨putT (stripAll σ.tm o.take) o.dst v, m⟩ : St)) = some r →
      ∃ n, (evAny C (callWith C (ev C n)) σ.mem (o.dst.getD 0) (rho σ.tm o.take) o.op).map (fun (v, m) => (⟨putT (stripAll σ.tm o.take) o.dst v, m⟩ : St)) = some r := by
    intro r he
    rw [Option.map_eq_some_iff] at he
    obtain ⟨x, h1, h2⟩ := he
    obtain ⟨n, hn⟩ := any_cont h1
    exact ⟨n, by rw [hn]; exact congrArg some h2⟩
  unfold evOper at h
  split at h
  · rename_i hg
    obtain ⟨n, hn⟩ := go h
    exact ⟨n, by unfold evOper; simp only [hg]; exact hn⟩
  · rename_i t want hg
    split at h
    · rename_i b hb
      cases hbw : (b == want) with
      | true =>
        rw [hbw] at h
        obtain ⟨n, hn⟩ := go h
        exact ⟨n, by unfold evOper; simp only [hg, hb, hbw]; exact hn⟩
      | false =>
        rw [hbw] at h
        exact ⟨0, by unfold evOper; simp only [hg, hb, hbw]; exact h⟩
    · rename_i hb
      exact ⟨0, by unfold evOper; simp only [hg, hb]; exact h⟩
    · cases h

theorem oper_le {n m : Nat} (h : n ≤ m) {o σ r} (he : evOper C (callWith C (ev C n)) o σ = some r) : evOper C (callWith C (ev C m)) o σ = some r :=
  evOper_mono (callWith_mono (ev_le h)) he

theorem ops_cont : ∀ {ops σ r}, evOps C (callD C) ops σ = some r → ∃ n, evOps C (callWith C (ev C n)) ops σ = some r
  | [], _, _, h => ⟨0, h⟩
  | o :: ops, σ, r, h => by
    simp only [evOps, Option.bind_eq_some_iff] at h
    obtain ⟨x, h1, h2⟩ := h
    obtain ⟨n, hn⟩ := oper_cont h1
    obtain ⟨m, hm⟩ := ops_cont h2
    exact ⟨max n m, by
      simp only [evOps, Option.bind_eq_some_iff]
      exact ⟨x, oper_le (Nat.le_max_left _ _) hn, evOps_mono (callWith_mono (ev_le (Nat.le_max_right _ _))) hm⟩⟩

theorem draw_cont : ∀ {ops k fs σ r}, evDraw C (callD C) ops k fs σ = some r → ∃ n, evDraw C (callWith C (ev C n)) ops k fs σ = some r
  | [], _, _, _, _, h => ⟨0, h⟩
  | o :: ops, k, fs, σ, r, h => by
    unfold evDraw at h
    split at h
    · rename_i hc
      rw [Option.bind_eq_some_iff] at h
      obtain ⟨x, h1, h2⟩ := h
      obtain ⟨n, hn⟩ := oper_cont h1
      have join : ∀ m, evDraw C (callWith C (ev C m)) ops (k + 1) (fs ++ [footOf σ.tm o]) x = some r → evOper C (callWith C (ev C (max n m))) o σ = some x ∧ evDraw C (callWith C (ev C (max n m))) ops (k + 1) (fs ++ [footOf σ.tm o]) x = some r :=
        fun m hm => ⟨oper_le (Nat.le_max_left _ _) hn, evDraw_mono (callWith_mono (ev_le (Nat.le_max_right _ _))) hm⟩
      split at h2
      · rename_i hq
        split at h2
        · rename_i hm
          obtain ⟨m, h3⟩ := draw_cont h2
          obtain ⟨k1, k2⟩ := join m h3
          refine ⟨max n m, ?_⟩
          unfold evDraw
          rw [if_pos hc, k1, Option.bind_some, if_pos hq, if_pos hm]
          exact k2
        · cases h2
      · rename_i hq
        obtain ⟨m, h3⟩ := draw_cont h2
        obtain ⟨k1, k2⟩ := join m h3
        refine ⟨max n m, ?_⟩
        unfold evDraw
        rw [if_pos hc, k1, Option.bind_some, if_neg hq]
        exact k2
    · cases h

theorem rounds_cont {ps : List Nat} {asg body : ACode} {tm : List AV} : ∀ {xs m r}, rounds (den C) ps asg body tm xs m = some r → ∃ n, rounds (ev C n) ps asg body tm xs m = some r
  | [], _, _, h => ⟨0, h⟩
  | x :: xs, m, r, h => by
    simp only [rounds] at h
    split at h
    · rename_i σa h1
      obtain ⟨n1, k1⟩ := ev_of_den h1
      split at h
      · rename_i σb h2
        obtain ⟨n2, k2⟩ := ev_of_den h2
        obtain ⟨n3, k3⟩ := rounds_cont h
        refine ⟨max n1 (max n2 n3), ?_⟩
        simp only [rounds]
        rw [ev_le (Nat.le_max_left _ _) _ _ _ k1]
        dsimp only
        rw [ev_le (Nat.le_trans (Nat.le_max_left n2 n3) (Nat.le_max_right _ _)) _ _ _ k2]
        exact rounds_mono (ev_le (Nat.le_trans (Nat.le_max_right n2 n3) (Nat.le_max_right _ _))) k3
      · rename_i e σb hne h2
        obtain ⟨n2, k2⟩ := ev_of_den h2
        refine ⟨max n1 n2, ?_⟩
        simp only [rounds]
        rw [ev_le (Nat.le_max_left _ _) _ _ _ k1]
        dsimp only
        rw [ev_le (Nat.le_max_right _ _) _ _ _ k2]
        cases e with
        | normal => exact absurd rfl hne
        | _ => exact h
      · cases h
    · cases h

theorem step_cont {c σ r} (h : stepC C (den C) c σ = some r) : ∃ n, stepC C (ev C n) c σ = some r := by
  cases c with
  | skip => exact ⟨0, h⟩
  | exit id => exact ⟨0, h⟩
  | ret => exact ⟨0, h⟩
  | reg d ops =>
    cases d with
    | false =>
      simp only [stepC, Option.map_eq_some_iff] at h
      obtain ⟨x, h1, h2⟩ := h
      obtain ⟨n, hn⟩ := ops_cont h1
      exact ⟨n, by simp only [stepC, hn, Option.map_some, h2]⟩
    | true =>
      simp only [stepC, Option.map_eq_some_iff] at h
      obtain ⟨x, h1, h2⟩ := h
      obtain ⟨n, hn⟩ := draw_cont h1
      exact ⟨n, by simp only [stepC, hn, Option.map_some, h2]⟩
  | seq x y =>
    simp only [stepC] at h
    split at h
    · rename_i σ1 h1
      obtain ⟨n, hn⟩ := ev_of_den h1
      obtain ⟨m, hm⟩ := ev_of_den h
      exact ⟨max n m, by simp only [stepC]; rw [ev_le (Nat.le_max_left n m) _ _ _ hn]; exact ev_le (Nat.le_max_right n m) _ _ _ hm⟩
    · rename_i hne
      obtain ⟨n, hn⟩ := ev_of_den h
      refine ⟨n, ?_⟩
      simp only [stepC]
      rw [hn]
      split
      · rename_i σ1 h1; cases h1; exact absurd h (hne σ1)
      · rfl
  | cond q x y =>
    simp only [stepC] at h
    split at h
    · rename_i t ht
      cases t with
      | true => obtain ⟨n, hn⟩ := ev_of_den (by simpa using h); exact ⟨n, by simp only [stepC, ht]; exact hn⟩
      | false => obtain ⟨n, hn⟩ := ev_of_den (by simpa using h); exact ⟨n, by simp only [stepC, ht]; exact hn⟩
    · cases h
  | block id x =>
    simp only [stepC] at h
    split at h
    · rename_i j σ1 h1
      obtain ⟨n, hn⟩ := ev_of_den h1
      exact ⟨n, by simp only [stepC]; rw [hn]; exact h⟩
    · rename_i hne
      obtain ⟨n, hn⟩ := ev_of_den h
      refine ⟨n, ?_⟩
      simp only [stepC]
      rw [hn]
      split
      · rename_i j σ1 h1; cases h1; exact absurd h (hne j σ1)
      · rfl
  | loop x =>
    simp only [stepC] at h
    split at h
    · rename_i σ1 h1
      obtain ⟨n, hn⟩ := ev_of_den h1
      obtain ⟨m, hm⟩ := ev_of_den h
      exact ⟨max n m, by simp only [stepC]; rw [ev_le (Nat.le_max_left n m) _ _ _ hn]; exact ev_le (Nat.le_max_right n m) _ _ _ hm⟩
    · rename_i hne
      obtain ⟨n, hn⟩ := ev_of_den h
      refine ⟨n, ?_⟩
      simp only [stepC]
      rw [hn]
      split
      · rename_i σ1 h1; cases h1; exact absurd h (hne σ1)
      · rfl
  | cut k d x =>
    simp only [stepC, Option.bind_eq_some_iff] at h
    obtain ⟨y, h1, h2⟩ := h
    obtain ⟨n, hn⟩ := ev_of_den h2
    exact ⟨n, by simp only [stepC, h1, Option.bind_some]; exact hn⟩
  | cset pre f x t0 t sz i o1 v1 o2 v2 ds y =>
    simp only [stepC, Option.bind_eq_some_iff] at h
    obtain ⟨σ1, h1, σ2, h2, h3⟩ := h
    obtain ⟨n1, k1⟩ := ops_cont h1
    obtain ⟨n2, k2⟩ : ∃ n, csetIn C (callWith C (ev C n)) f x t0 t sz i o1 v1 o2 v2 ds σ1 = some σ2 := by
      unfold csetIn at h2
      split at h2
      · rename_i hc
        rw [Option.bind_eq_some_iff] at h2
        obtain ⟨p, h4, h5⟩ := h2
        obtain ⟨n, hn⟩ := call_cont h4
        refine ⟨n, ?_⟩
        unfold csetIn
        rw [if_pos hc, hn]
        exact h5
      · cases h2
    obtain ⟨n3, k3⟩ := ev_of_den h3
    refine ⟨max n1 (max n2 n3), ?_⟩
    simp only [stepC, Option.bind_eq_some_iff]
    exact ⟨σ1, evOps_mono (callWith_mono (ev_le (Nat.le_max_left _ _))) k1, σ2, csetIn_mono (callWith_mono (ev_le (Nat.le_trans (Nat.le_max_left n2 n3) (Nat.le_max_right _ _)))) k2,
      ev_le (Nat.le_trans (Nat.le_max_right n2 n3) (Nat.le_max_right _ _)) _ _ _ k3⟩
  | rangeI b pre f args t ps asg body =>
    simp only [stepC, Option.bind_eq_some_iff] at h
    obtain ⟨σ1, h1, xs, h2, h3⟩ := h
    split at h3
    · rename_i ht
      unfold overI at h3
      rw [Option.map_eq_some_iff] at h3
      obtain ⟨y, h4, h5⟩ := h3
      obtain ⟨n, hn⟩ := ops_cont h1
      obtain ⟨m, hm⟩ := rounds_cont h4
      refine ⟨max n m, ?_⟩
      simp only [stepC, Option.bind_eq_some_iff]
      refine ⟨σ1, evOps_mono (callWith_mono (ev_le (Nat.le_max_left _ _))) hn, xs, h2, ?_⟩
      rw [if_pos ht]
      unfold overI
      rw [rounds_mono (ev_le (Nat.le_max_right n m)) hm]
      exact congrArg some h5
    · cases h3

/-- The limit's equation. -/
theorem den_eq (c : ACode) (σ : St) : den C c σ = stepC C (den C) c σ := by
  apply Option.ext
  intro r
  constructor
  · intro h
    obtain ⟨n, hn⟩ := ev_of_den h
    cases n with
    | zero => cases hn
    | succ n => exact stepC_mono (le_den n) _ _ _ hn
  · intro h
    obtain ⟨n, hn⟩ := step_cont h
    exact den_of_ev (n := n + 1) hn

theorem den_skip {σ} : den C .skip σ = some (.normal, σ) := den_eq _ _
theorem den_ret {σ} : den C .ret σ = some (.ret, σ) := den_eq _ _
theorem den_exit {id σ} : den C (.exit id) σ = some (.exit id, σ) := den_eq _ _
theorem den_reg {ops σ} : den C (.reg false ops) σ = (evOps C (callD C) ops σ).map (.normal, ·) := den_eq _ _
theorem den_draw {ops σ} : den C (.reg true ops) σ = (evDraw C (callD C) ops 0 [] σ).map (.normal, ·) := den_eq _ _
/-- What comes behind a normal end. -/
def andThen (r : Option (Ex × St)) (k : St → Option (Ex × St)) : Option (Ex × St) := match r with | some (.normal, σ) => k σ | r => r
def atBlock (id : Nat) (r : Option (Ex × St)) : Option (Ex × St) := match r with
  | some (.exit j, σ') => if j = id then some (.normal, σ') else some (.exit j, σ')
  | r => r
theorem den_seq {a b σ} : den C (.seq a b) σ = andThen (den C a σ) (den C b) := by
  rw [den_eq]; simp only [stepC, andThen]
  cases den C a σ with
  | none => rfl
  | some x => obtain ⟨e, s⟩ := x; cases e <;> rfl
theorem den_cond {c a b σ} : den C (.cond c a b) σ = match rho σ.tm [] c with | .bool t => cond t (den C a σ) (den C b σ) | _ => none := den_eq _ _
theorem den_block {id c σ} : den C (.block id c) σ = atBlock id (den C c σ) := by
  rw [den_eq]; simp only [stepC, atBlock]
  cases den C c σ with
  | none => rfl
  | some x => obtain ⟨e, s⟩ := x; cases e <;> rfl
theorem den_loop {c σ} : den C (.loop c) σ = andThen (den C c σ) (den C (.loop c)) := by
  rw [den_eq]; simp only [stepC, andThen]
  cases den C c σ with
  | none => rfl
  | some x => obtain ⟨e, s⟩ := x; cases e <;> rfl
theorem den_cset {pre f x t0 t sz i o1 v1 o2 v2 ds y σ} : den C (.cset pre f x t0 t sz i o1 v1 o2 v2 ds y) σ = (evOps C (callD C) pre σ).bind fun σ1 => (csetIn C (callD C) f x t0 t sz i o1 v1 o2 v2 ds σ1).bind (den C y) := den_eq _ _
theorem den_rangeI {b pre f args t ps asg body σ} : den C (.rangeI b pre f args t ps asg body) σ = (evOps C (callD C) pre σ).bind fun σ1 =>
      (iterOf C f (args.map fun x => (rho σ1.tm [] x).strip) ps.length).bind fun xs =>
        if t < σ1.tm.length then overI b ((σ1.tm.set t .undef).map AV.strip) (rounds (den C) ps asg body ((σ1.tm.set t .undef).map AV.strip) xs σ1.mem) else none := den_eq _ _
theorem den_cut {k d c σ} : den C (.cut k d c) σ = (evCut k d σ).bind (den C c) := den_eq _ _
@[simp] theorem andThen_normal {σ k} : andThen (some (.normal, σ)) k = k σ := rfl
@[simp] theorem andThen_ret {σ k} : andThen (some (.ret, σ)) k = some (.ret, σ) := rfl
@[simp] theorem andThen_exit {i σ k} : andThen (some (.exit i, σ)) k = some (.exit i, σ) := rfl
@[simp] theorem atBlock_normal {i σ} : atBlock i (some (.normal, σ)) = some (.normal, σ) := rfl
@[simp] theorem atBlock_ret {i σ} : atBlock i (some (.ret, σ)) = some (.ret, σ) := rfl
@[simp] theorem atBlock_exit {i j σ} : atBlock i (some (.exit j, σ)) = if j = i then some (.normal, σ) else some (.exit j, σ) := rfl

end
end Go.VA

/-
  Temporaries as a short list of what is known: for walks by equations.
-/
namespace Go.VA
open Go

abbrev Env := List (Nat × AV)

/-- What an environment holds at a place. -/
def look : Env → Nat → AV
  | [], _ => .undef
  | (d, v) :: r, t => if d = t then v else look r t

/-- The temporaries that an environment tells. -/
def tmOf (n : Nat) (e : Env) : List AV := (List.range n).map (look e)

def keepE (e : Env) : List Nat → Env
  | [] => []
  | t :: r => (t, look e t) :: keepE e r

theorem look_nil (t : Nat) : look [] t = .undef := rfl
theorem look_cons (d : Nat) (v : AV) (e : Env) (t : Nat) : look ((d, v) :: e) t = if d = t then v else look e t := rfl
theorem look_same (d : Nat) (v : AV) (e : Env) : look ((d, v) :: e) d = v := by simp [look]
theorem keepE_nil (e : Env) : keepE e [] = [] := rfl
theorem keepE_cons (e : Env) (t : Nat) (r : List Nat) : keepE e (t :: r) = (t, look e t) :: keepE e r := rfl

theorem tmOf_length (n : Nat) (e : Env) : (tmOf n e).length = n := by simp [tmOf]

theorem getT_tmOf (n : Nat) (e : Env) (t : Nat) : getT (tmOf n e) t = if t < n then look e t else .undef := by
  unfold getT tmOf
  rw [List.getD_eq_getElem?_getD, List.getElem?_map]
  by_cases h : t < n
  · rw [List.getElem?_range h, if_pos h]; rfl
  · rw [List.getElem?_eq_none (by simpa using h), if_neg h]; rfl

theorem set_tmOf (n : Nat) (e : Env) (d : Nat) (v : AV) : (tmOf n e).set d v = tmOf n ((d, v) :: e) := by
  apply List.ext_getElem?
  intro i
  unfold tmOf
  rw [List.getElem?_set, List.getElem?_map, List.getElem?_map]
  by_cases hi : i < n
  · rw [List.getElem?_range hi]
    by_cases hd : d = i
    · subst hd
      simp [hi, look]
    · simp [hd, look]
  · rw [List.getElem?_eq_none (by simpa using hi)]
    by_cases hd : d = i
    · subst hd; simp [hi]
    · simp [hd]

theorem putT_tmOf (n : Nat) (e : Env) (d : Nat) (v : AV) : putT (tmOf n e) (some d) v = tmOf n ((d, v) :: e) := set_tmOf n e d v
theorem putT_none (tm : List AV) (v : AV) : putT tm none v = tm := rfl
theorem stripAll_nil (tm : List AV) : stripAll tm [] = tm := rfl
theorem stripAll_tmOf (n : Nat) (e : Env) (t : Nat) (r : List Nat) : stripAll (tmOf n e) (t :: r) = stripAll (tmOf n ((t, (getT (tmOf n e) t).strip) :: e)) r := by
  show stripAll ((tmOf n e).set t _) r = _
  rw [set_tmOf]

theorem look_keepE (e : Env) : ∀ (keep : List Nat) (t : Nat), look (keepE e keep) t = if t ∈ keep then look e t else .undef
  | [], t => by simp [keepE, look]
  | k :: r, t => by
    rw [keepE_cons, look_cons, look_keepE e r t]
    by_cases h : k = t
    · subst h; simp
    · have h' : ¬ t = k := fun e => h e.symm
      simp [h, h']

theorem keepT_get' (keep : List Nat) : ∀ (tm : List AV) (k i : Nat), (keepT keep k tm)[i]? = (tm[i]?).map fun v => if k + i ∈ keep then v else .undef
  | [], k, i => by simp [keepT]
  | v :: r, k, i => by
    cases i with
    | zero => simp [keepT]
    | succ i =>
      simp only [keepT, List.getElem?_cons_succ]
      rw [keepT_get' keep r (k + 1) i]
      congr 1
      funext u
      rw [show k + 1 + i = k + (i + 1) by omega]

theorem keepT_tmOf (n : Nat) (e : Env) (keep : List Nat) : keepT keep 0 (tmOf n e) = tmOf n (keepE e keep) := by
  apply List.ext_getElem?
  intro i
  rw [keepT_get']
  unfold tmOf
  rw [List.getElem?_map, List.getElem?_map]
  by_cases hi : i < n
  · rw [List.getElem?_range hi]
    simp [look_keepE]
  · rw [List.getElem?_eq_none (by simpa using hi)]
    rfl

theorem cut_tmOf (n : Nat) (e : Env) (keep : List Nat) (f : Fr) (m : Mem) : evCut keep [] ⟨tmOf n e, f :: m⟩ = some ⟨tmOf n (keepE e keep), f :: m⟩ := by
  unfold evCut
  simp [keepT_tmOf, free, Fr.drop]

theorem init_tmOf (args : List AV) (n : Nat) (h : args.length ≤ n) : args ++ List.replicate (n - args.length) .undef = tmOf n (args.zipIdx.map fun p => (p.2, p.1)) := by
  have key : ∀ (l : List AV) (k t : Nat), look ((l.zipIdx k).map fun p => (p.2, p.1)) t = if k ≤ t then l.getD (t - k) .undef else .undef := by
    intro l
    induction l with
    | nil => intro k t; simp [look]
    | cons a l ih =>
      intro k t
      simp only [List.zipIdx_cons, List.map_cons, look_cons, ih]
      by_cases h1 : k = t
      · subst h1; simp
      · rw [if_neg h1]
        by_cases h2 : k + 1 ≤ t
        · rw [if_pos h2, if_pos (by omega), show t - k = (t - (k + 1)) + 1 by omega]; rfl
        · rw [if_neg h2, if_neg (by omega)]
  apply List.ext_getElem?
  intro i
  unfold tmOf
  rw [List.getElem?_map]
  by_cases hi : i < n
  · rw [List.getElem?_range hi]
    simp only [Option.map_some, key, Nat.zero_le, if_true, Nat.sub_zero]
    rw [List.getElem?_append, List.getD_eq_getElem?_getD]
    split
    · rename_i h1; rw [List.getElem?_eq_getElem h1]; rfl
    · rename_i h1
      rw [List.getElem?_replicate, if_pos (by omega), List.getElem?_eq_none (l := args) (by omega)]
      rfl
  · rw [List.getElem?_eq_none (by simp; omega), List.getElem?_eq_none (by simpa using hi)]
    rfl

section
variable {C : Ctx}

/-- What a body's end comes to. -/
def retOf (esc : Bool) (rs : List ARes) (mem : Mem) : Option (Ex × St) → Option (AV × Mem)
  | some (.normal, σ) | some (.ret, σ) => (evResults σ.tm σ.mem rs).bind (leave esc mem.length σ.mem)
  | _ => none

theorem callD_fn {f : FuncId} {af : AFunc} (h1 : C.prim f = none) (h2 : C.fn f = some af) (args : List AV) (mem : Mem) (h0 : C.memp f = none := by rfl) :
    callD C f args mem = retOf af.esc af.results mem (den C af.body ⟨args ++ List.replicate (af.ntmps - args.length) .undef, [] :: mem⟩) := by
  unfold callD callWith
  rw [h1]
  dsimp only
  rw [h0]
  dsimp only
  rw [h2]
  dsimp only
  cases den C af.body ⟨args ++ List.replicate (af.ntmps - args.length) .undef, [] :: mem⟩ with
  | none => rfl
  | some r => obtain ⟨e, σ⟩ := r; cases e <;> rfl

theorem callD_env {f : FuncId} {af : AFunc} (h1 : C.prim f = none) (h2 : C.fn f = some af) (args : List AV) (mem : Mem) (h : args.length ≤ af.ntmps) (h0 : C.memp f = none := by rfl) :
    callD C f args mem = retOf af.esc af.results mem (den C af.body ⟨tmOf af.ntmps (args.zipIdx.map fun p => (p.2, p.1)), [] :: mem⟩) := by
  rw [callD_fn h1 h2 args mem h0, init_tmOf args _ h]

theorem leave_false (n : Nat) (m : Mem) (v : AV) : leave false n m v = if v.under n then some (v, m.tail) else (freeze m n 16 v).bind fun u => if u.under n then some (u, m.tail) else none := by
  unfold leave
  simp
theorem leave_true (n : Nat) (m : Mem) (v : AV) : leave true n m v = if v.under n then some (v, m.tail) else (promote n m v).bind fun p => if p.1.under n then some p else none := by
  unfold leave
  simp

theorem callD_prim {f : FuncId} {q : List AV → Option AV} (h1 : C.prim f = some q) (args : List AV) (mem : Mem) :
    callD C f args mem = if AV.pure.pures args then (q args).map (·, mem) else none := by
  unfold callD callWith
  rw [h1]

/-- The rest of a region, behind an operation. -/
def thenOps (C : Ctx) (call : CallF) (r : List AOper) : Option St → Option St
  | none => none
  | some σ => evOps C call r σ
def thenDraw (C : Ctx) (call : CallF) (r : List AOper) (k : Nat) (fs : List (Option Foot)) (q : Bool) (m : Mem) : Option St → Option St
  | none => none
  | some σ => if q then (if σ.mem = m then evDraw C call r k fs σ else none) else evDraw C call r k fs σ

/-- An operation without a guard, whose places take nothing over. -/
def plainOp (tm : List AV) (take : List Nat) (dst : Option Nat) : Option (AV × Mem) → Option St
  | none => none
  | some (v, m) => some ⟨putT (stripAll tm take) dst v, m⟩
def guardOp (b : Bool) (σ : St) (dst : Option Nat) (r : Option St) : Option St := cond b r (some ⟨putT σ.tm dst (.tup []), σ.mem⟩)

variable {call : CallF}

theorem evOps_nil (σ : St) : evOps C call [] σ = some σ := rfl
theorem evOps_cons (o : AOper) (r : List AOper) (σ : St) : evOps C call (o :: r) σ = thenOps C call r (evOper C call o σ) := by
  show (evOper C call o σ).bind (evOps C call r) = _
  cases evOper C call o σ <;> rfl
theorem thenOps_some (r : List AOper) (σ : St) : thenOps C call r (some σ) = evOps C call r σ := rfl
theorem thenDraw_some (r : List AOper) (k fs m) (σ : St) : thenDraw C call r k fs false m (some σ) = evDraw C call r k fs σ := rfl
theorem thenDraw_same (r : List AOper) (k fs m) (tm : List AV) : thenDraw C call r k fs true m (some ⟨tm, m⟩) = evDraw C call r k fs ⟨tm, m⟩ := if_pos rfl

theorem evOper_plain (dst op take ap) (σ : St) : evOper C call ⟨dst, op, none, take, ap⟩ σ = plainOp σ.tm take dst (evAny C call σ.mem (dst.getD 0) (rho σ.tm take) op) := by
  show (evAny C call σ.mem (dst.getD 0) (rho σ.tm take) op).map _ = _
  cases evAny C call σ.mem (dst.getD 0) (rho σ.tm take) op with
  | none => rfl
  | some p => rfl
theorem plainOp_some (tm take dst v m) : plainOp tm take dst (some (v, m)) = some ⟨putT (stripAll tm take) dst v, m⟩ := rfl

theorem sv_undef : AV.strip (.undef) = .undef := rfl
theorem sv_bool (b : Bool) : AV.strip (.bool b) = .bool b := rfl
theorem sv_int (k : IntKind) (n : Int) : AV.strip (.int k n) = .int k n := rfl
theorem sv_str (l : List UInt8) : AV.strip (.str l) = .str l := rfl
theorem sv_nilp : AV.strip (.nilp) = .nilp := rfl
theorem sv_nils : AV.strip (.nils) = .nils := rfl
theorem sv_nili : AV.strip (.nili) = .nili := rfl
theorem sv_nilf : AV.strip (.nilf) = .nilf := rfl
theorem sv_agg (l : List AV) : AV.strip (.agg l) = .agg l := rfl
theorem sv_tup (l : List AV) : AV.strip (.tup l) = .tup l := rfl
theorem sv_rptr (l : List AV) : AV.strip (.rptr l) = .rptr l := rfl
theorem sv_ptr (i : VA.Id) (o : Nat) : AV.strip (.ptr i o) = .ptr i o := rfl
theorem sv_mslc (i : VA.Id) (s o n : Nat) : AV.strip (.mslc i s o n) = .mslc i s o n := rfl
theorem sv_iface (t : TypeId) (v : AV) : AV.strip (.iface t v) = .iface t v := rfl
theorem sv_fn (f : FuncId) (l : List AV) : AV.strip (.fn f l) = .fn f l := rfl
theorem sv_map (l : List AV) : AV.strip (.map l) = .map l := rfl
theorem sv_unk (s : Nat) (l : List AV) : AV.strip (.slc s l .unk) = .slc s l .unk := rfl
theorem sv_exact (s : Nat) (l : List AV) : AV.strip (.slc s l .exact) = .slc s l .exact := rfl
theorem sv_own (s : Nat) (l : List AV) : AV.strip (.slc s l .own) = .slc s l .unk := rfl
theorem cv_undef  : AV.cells (.undef) = [(.undef)] := rfl
theorem ov_undef  : AV.one (.undef) = false := rfl
theorem dv_undef  : AV.defd (.undef) = false := rfl
theorem pv_undef  : AV.pure (.undef) = true := rfl
theorem uv_undef  (q : Nat) : AV.under q (.undef) = true := rfl
theorem hv_undef  (q : VA.Id) : AV.has q (.undef) = false := rfl
theorem cv_bool (b : Bool) : AV.cells (.bool b) = [(.bool b)] := rfl
theorem ov_bool (b : Bool) : AV.one (.bool b) = true := rfl
theorem dv_bool (b : Bool) : AV.defd (.bool b) = true := rfl
theorem pv_bool (b : Bool) : AV.pure (.bool b) = true := rfl
theorem uv_bool (b : Bool) (q : Nat) : AV.under q (.bool b) = true := rfl
theorem hv_bool (b : Bool) (q : VA.Id) : AV.has q (.bool b) = false := rfl
theorem cv_int (k : IntKind) (n : Int) : AV.cells (.int k n) = [(.int k n)] := rfl
theorem ov_int (k : IntKind) (n : Int) : AV.one (.int k n) = true := rfl
theorem dv_int (k : IntKind) (n : Int) : AV.defd (.int k n) = true := rfl
theorem pv_int (k : IntKind) (n : Int) : AV.pure (.int k n) = true := rfl
theorem uv_int (k : IntKind) (n : Int) (q : Nat) : AV.under q (.int k n) = true := rfl
theorem hv_int (k : IntKind) (n : Int) (q : VA.Id) : AV.has q (.int k n) = false := rfl
theorem cv_str (l : List UInt8) : AV.cells (.str l) = [(.str l)] := rfl
theorem ov_str (l : List UInt8) : AV.one (.str l) = true := rfl
theorem dv_str (l : List UInt8) : AV.defd (.str l) = true := rfl
theorem pv_str (l : List UInt8) : AV.pure (.str l) = true := rfl
theorem uv_str (l : List UInt8) (q : Nat) : AV.under q (.str l) = true := rfl
theorem hv_str (l : List UInt8) (q : VA.Id) : AV.has q (.str l) = false := rfl
theorem cv_nilp  : AV.cells (.nilp) = [(.nilp)] := rfl
theorem ov_nilp  : AV.one (.nilp) = true := rfl
theorem dv_nilp  : AV.defd (.nilp) = true := rfl
theorem pv_nilp  : AV.pure (.nilp) = true := rfl
theorem uv_nilp  (q : Nat) : AV.under q (.nilp) = true := rfl
theorem hv_nilp  (q : VA.Id) : AV.has q (.nilp) = false := rfl
theorem cv_nils  : AV.cells (.nils) = [(.nils)] := rfl
theorem ov_nils  : AV.one (.nils) = true := rfl
theorem dv_nils  : AV.defd (.nils) = true := rfl
theorem pv_nils  : AV.pure (.nils) = true := rfl
theorem uv_nils  (q : Nat) : AV.under q (.nils) = true := rfl
theorem hv_nils  (q : VA.Id) : AV.has q (.nils) = false := rfl
theorem cv_nili  : AV.cells (.nili) = [(.nili)] := rfl
theorem ov_nili  : AV.one (.nili) = true := rfl
theorem dv_nili  : AV.defd (.nili) = true := rfl
theorem pv_nili  : AV.pure (.nili) = true := rfl
theorem uv_nili  (q : Nat) : AV.under q (.nili) = true := rfl
theorem hv_nili  (q : VA.Id) : AV.has q (.nili) = false := rfl
theorem cv_nilf  : AV.cells (.nilf) = [(.nilf)] := rfl
theorem ov_nilf  : AV.one (.nilf) = true := rfl
theorem dv_nilf  : AV.defd (.nilf) = true := rfl
theorem pv_nilf  : AV.pure (.nilf) = true := rfl
theorem uv_nilf  (q : Nat) : AV.under q (.nilf) = true := rfl
theorem hv_nilf  (q : VA.Id) : AV.has q (.nilf) = false := rfl
theorem cv_agg (l : List AV) : AV.cells (.agg l) = l := rfl
theorem ov_agg (l : List AV) : AV.one (.agg l) = false := rfl
theorem dv_agg (l : List AV) : AV.defd (.agg l) = true := rfl
theorem pv_agg (l : List AV) : AV.pure (.agg l) = AV.pure.pures l := rfl
theorem uv_agg (l : List AV) (q : Nat) : AV.under q (.agg l) = AV.under.unders q l := rfl
theorem hv_agg (l : List AV) (q : VA.Id) : AV.has q (.agg l) = AV.has.hass q l := rfl
theorem cv_tup (l : List AV) : AV.cells (.tup l) = [(.tup l)] := rfl
theorem ov_tup (l : List AV) : AV.one (.tup l) = false := rfl
theorem dv_tup (l : List AV) : AV.defd (.tup l) = true := rfl
theorem pv_tup (l : List AV) : AV.pure (.tup l) = AV.pure.pures l := rfl
theorem uv_tup (l : List AV) (q : Nat) : AV.under q (.tup l) = AV.under.unders q l := rfl
theorem hv_tup (l : List AV) (q : VA.Id) : AV.has q (.tup l) = AV.has.hass q l := rfl
theorem cv_slc (z : Nat) (l : List AV) (c : Cap) : AV.cells (.slc z l c) = [(.slc z l c)] := rfl
theorem ov_slc (z : Nat) (l : List AV) (c : Cap) : AV.one (.slc z l c) = true := rfl
theorem dv_slc (z : Nat) (l : List AV) (c : Cap) : AV.defd (.slc z l c) = true := rfl
theorem pv_slc (z : Nat) (l : List AV) (c : Cap) : AV.pure (.slc z l c) = (c != .own) := rfl
theorem uv_slc (z : Nat) (l : List AV) (c : Cap) (q : Nat) : AV.under q (.slc z l c) = true := rfl
theorem hv_slc (z : Nat) (l : List AV) (c : Cap) (q : VA.Id) : AV.has q (.slc z l c) = false := rfl
theorem cv_rptr (l : List AV) : AV.cells (.rptr l) = [(.rptr l)] := rfl
theorem ov_rptr (l : List AV) : AV.one (.rptr l) = true := rfl
theorem dv_rptr (l : List AV) : AV.defd (.rptr l) = true := rfl
theorem pv_rptr (l : List AV) : AV.pure (.rptr l) = true := rfl
theorem uv_rptr (l : List AV) (q : Nat) : AV.under q (.rptr l) = true := rfl
theorem hv_rptr (l : List AV) (q : VA.Id) : AV.has q (.rptr l) = false := rfl
theorem cv_ptr (i : VA.Id) (o : Nat) : AV.cells (.ptr i o) = [(.ptr i o)] := rfl
theorem ov_ptr (i : VA.Id) (o : Nat) : AV.one (.ptr i o) = true := rfl
theorem dv_ptr (i : VA.Id) (o : Nat) : AV.defd (.ptr i o) = true := rfl
theorem pv_ptr (i : VA.Id) (o : Nat) : AV.pure (.ptr i o) = false := rfl
theorem uv_ptr (i : VA.Id) (o : Nat) (q : Nat) : AV.under q (.ptr i o) = decide (i.fr < q) := rfl
theorem hv_ptr (i : VA.Id) (o : Nat) (q : VA.Id) : AV.has q (.ptr i o) = (q == i) := rfl
theorem cv_mslc (i : VA.Id) (z o n : Nat) : AV.cells (.mslc i z o n) = [(.mslc i z o n)] := rfl
theorem ov_mslc (i : VA.Id) (z o n : Nat) : AV.one (.mslc i z o n) = true := rfl
theorem dv_mslc (i : VA.Id) (z o n : Nat) : AV.defd (.mslc i z o n) = true := rfl
theorem pv_mslc (i : VA.Id) (z o n : Nat) : AV.pure (.mslc i z o n) = false := rfl
theorem uv_mslc (i : VA.Id) (z o n : Nat) (q : Nat) : AV.under q (.mslc i z o n) = decide (i.fr < q) := rfl
theorem hv_mslc (i : VA.Id) (z o n : Nat) (q : VA.Id) : AV.has q (.mslc i z o n) = (q == i) := rfl
theorem cv_iface (t : TypeId) (v : AV) : AV.cells (.iface t v) = [(.iface t v)] := rfl
theorem ov_iface (t : TypeId) (v : AV) : AV.one (.iface t v) = true := rfl
theorem dv_iface (t : TypeId) (v : AV) : AV.defd (.iface t v) = true := rfl
theorem pv_iface (t : TypeId) (v : AV) : AV.pure (.iface t v) = AV.pure v := rfl
theorem uv_iface (t : TypeId) (v : AV) (q : Nat) : AV.under q (.iface t v) = AV.under q v := rfl
theorem hv_iface (t : TypeId) (v : AV) (q : VA.Id) : AV.has q (.iface t v) = AV.has q v := rfl
theorem cv_fn (f : FuncId) (l : List AV) : AV.cells (.fn f l) = [(.fn f l)] := rfl
theorem ov_fn (f : FuncId) (l : List AV) : AV.one (.fn f l) = true := rfl
theorem dv_fn (f : FuncId) (l : List AV) : AV.defd (.fn f l) = true := rfl
theorem pv_fn (f : FuncId) (l : List AV) : AV.pure (.fn f l) = AV.pure.pures l := rfl
theorem uv_fn (f : FuncId) (l : List AV) (q : Nat) : AV.under q (.fn f l) = AV.under.unders q l := rfl
theorem hv_fn (f : FuncId) (l : List AV) (q : VA.Id) : AV.has q (.fn f l) = AV.has.hass q l := rfl
theorem cv_map (l : List AV) : AV.cells (.map l) = [(.map l)] := rfl
theorem ov_map (l : List AV) : AV.one (.map l) = true := rfl
theorem dv_map (l : List AV) : AV.defd (.map l) = true := rfl
theorem pv_map (l : List AV) : AV.pure (.map l) = true := rfl
theorem uv_map (l : List AV) (q : Nat) : AV.under q (.map l) = true := rfl
theorem hv_map (l : List AV) (q : VA.Id) : AV.has q (.map l) = false := rfl
theorem pvs_nil : AV.pure.pures [] = true := rfl
theorem pvs_cons (v : AV) (l : List AV) : AV.pure.pures (v :: l) = (v.pure && AV.pure.pures l) := rfl
theorem uvs_nil (q : Nat) : AV.under.unders q [] = true := rfl
theorem uvs_cons (q : Nat) (v : AV) (l : List AV) : AV.under.unders q (v :: l) = (v.under q && AV.under.unders q l) := rfl
theorem hvs_nil (q : VA.Id) : AV.has.hass q [] = false := rfl
theorem hvs_cons (q : VA.Id) (v : AV) (l : List AV) : AV.has.hass q (v :: l) = (v.has q || AV.has.hass q l) := rfl
theorem sv_cap (s : Nat) (l : List AV) {c : Cap} (h : c ≠ .own) : AV.strip (.slc s l c) = .slc s l c := by cases c <;> first | rfl | exact absurd rfl h
/-- .. with a guard: what the guard's place holds is known in either way. -/
def askG (C : Ctx) (call : CallF) (dst : Option Nat) (op : AOp) (take ap : List Nat) (t : Nat) (w : Bool) (σ : St) : AV → Option St
  | .bool b => cond (b == w) (evOper C call ⟨dst, op, none, take, ap⟩ ⟨putT σ.tm (some t) (.bool w), σ.mem⟩) (some ⟨putT (putT σ.tm (some t) (.bool !w)) dst (.tup []), σ.mem⟩)
  | .tup [] => some ⟨putT σ.tm dst (.tup []), σ.mem⟩
  | _ => none
theorem set_getT {tm : List AV} {t : Nat} {v : AV} (h : getT tm t = v) (hv : v ≠ .undef) : tm.set t v = tm := by
  apply List.ext_getElem?
  intro i
  rw [List.getElem?_set]
  split
  · rename_i e
    subst e
    unfold getT at h
    rw [List.getD_eq_getElem?_getD] at h
    by_cases hi : t < tm.length
    · rw [List.getElem?_eq_getElem hi] at h ⊢
      simp only [Option.getD_some] at h
      rw [if_pos hi, h]
    · rw [List.getElem?_eq_none (by omega)] at h
      exact absurd h.symm hv
  · rfl
theorem evOper_guard (dst op take ap t w) (σ : St) : evOper C call ⟨dst, op, some (t, w), take, ap⟩ σ = askG C call dst op take ap t w σ (getT σ.tm t) := by
  have key : evOper C call ⟨dst, op, some (t, w), take, ap⟩ σ = (match getT σ.tm t with
    | .bool b => cond (b == w) (evOper C call ⟨dst, op, none, take, ap⟩ σ) (some ⟨putT σ.tm dst (.tup []), σ.mem⟩)
    | .tup [] => some ⟨putT σ.tm dst (.tup []), σ.mem⟩
    | _ => none) := rfl
  rw [key]
  cases h : getT σ.tm t with
  | bool b =>
    have hs : σ.tm.set t (.bool b) = σ.tm := set_getT h (by simp)
    show cond _ _ _ = cond _ _ _
    by_cases hb : b = w
    · subst hb
      simp only [BEq.rfl, cond_true]
      show _ = evOper C call _ ⟨σ.tm.set t (.bool b), σ.mem⟩
      rw [hs]
    · have hb' : (b == w) = false := by simp [hb]
      have hn : (!w) = b := by cases b <;> cases w <;> simp at hb ⊢
      rw [hb', hn]
      show some _ = some (St.mk (putT (σ.tm.set t (.bool b)) dst (.tup [])) σ.mem)
      rw [hs]
  | tup l => cases l <;> rfl
  | _ => rfl
theorem askG_bool (dst op take ap t w) (σ : St) (b : Bool) : askG C call dst op take ap t w σ (.bool b) =
    cond (b == w) (evOper C call ⟨dst, op, none, take, ap⟩ ⟨putT σ.tm (some t) (.bool w), σ.mem⟩) (some ⟨putT (putT σ.tm (some t) (.bool !w)) dst (.tup []), σ.mem⟩) := rfl
theorem askG_skip (dst op take ap t w) (σ : St) : askG C call dst op take ap t w σ (.tup []) = some ⟨putT σ.tm dst (.tup []), σ.mem⟩ := rfl

/-- Both ways of an open test. -/
theorem andThen_ite (p : Prop) [Decidable p] (a b : Option (Ex × St)) (k) : andThen (if p then a else b) k = if p then andThen a k else andThen b k := by split <;> rfl
theorem atBlock_ite (p : Prop) [Decidable p] (a b : Option (Ex × St)) (i) : atBlock i (if p then a else b) = if p then atBlock i a else atBlock i b := by split <;> rfl
theorem retOf_ite (p : Prop) [Decidable p] (a b : Option (Ex × St)) (q rs m) : retOf q rs m (if p then a else b) = if p then retOf q rs m a else retOf q rs m b := by split <;> rfl
theorem thenOps_ite (p : Prop) [Decidable p] (a b : Option St) (r) : thenOps C call r (if p then a else b) = if p then thenOps C call r a else thenOps C call r b := by split <;> rfl
theorem thenDraw_ite (p : Prop) [Decidable p] (a b : Option St) (r k fs q m) : thenDraw C call r k fs q m (if p then a else b) = if p then thenDraw C call r k fs q m a else thenDraw C call r k fs q m b := by split <;> rfl
theorem plainOp_ite (p : Prop) [Decidable p] (a b : Option (AV × Mem)) (tm t d) : plainOp tm t d (if p then a else b) = if p then plainOp tm t d a else plainOp tm t d b := by split <;> rfl
theorem map_ite {α β : Type} (p : Prop) [Decidable p] (a b : Option α) (f : α → β) : Option.map f (if p then a else b) = if p then Option.map f a else Option.map f b := by split <;> rfl
theorem merge_and {α : Type} (p q : Prop) [Decidable p] [Decidable q] (a b : α) : (if p then (if q then a else b) else b) = if p ∧ q then a else b := by
  by_cases p <;> by_cases q <;> simp_all
theorem merge_or {α : Type} (p q : Prop) [Decidable p] [Decidable q] (a b : α) : (if p then a else (if q then a else b)) = if p ∨ q then a else b := by
  by_cases p <;> by_cases q <;> simp_all
theorem merge_and' {α : Type} (p q : Prop) [Decidable p] [Decidable q] (a b : α) : (if p then (if q then b else a) else b) = if p ∧ ¬q then a else b := by
  by_cases p <;> by_cases q <;> simp_all
theorem merge_or' {α : Type} (p q : Prop) [Decidable p] [Decidable q] (a b : α) : (if p then a else (if q then b else a)) = if p ∨ ¬q then a else b := by
  by_cases p <;> by_cases q <;> simp_all
theorem cond_to_ite {α : Type} (p : Bool) (a b : α) : cond p a b = if p = true then a else b := by cases p <;> rfl
theorem ite_av_bool (p : Prop) [Decidable p] (a b : Bool) : (if p then AV.bool a else AV.bool b) = AV.bool (if p then a else b) := by split <;> rfl
theorem andThen_none (k) : andThen none k = none := rfl
theorem atBlock_none (i) : atBlock i none = none := rfl
theorem retOf_none (q rs m) : retOf q rs m none = none := rfl
theorem thenOps_none (r) : thenOps C call r none = none := rfl
theorem thenDraw_none (r k fs q m) : thenDraw C call r k fs q m none = none := rfl
theorem plainOp_none (tm t d) : plainOp tm t d none = none := rfl
theorem retOf_normal (q rs mem) (σ : St) : retOf q rs mem (some (.normal, σ)) = (evResults σ.tm σ.mem rs).bind (leave q mem.length σ.mem) := rfl
theorem retOf_ret (q rs mem) (σ : St) : retOf q rs mem (some (.ret, σ)) = (evResults σ.tm σ.mem rs).bind (leave q mem.length σ.mem) := rfl

/-- One operation of a statement whose order is open. -/
theorem evDraw_nil (k fs) (σ : St) : evDraw C call [] k fs σ = some σ := rfl
theorem evDraw_cons (o : AOper) (r k fs) (σ : St) : evDraw C call (o :: r) k fs σ = if o.apart.all (fun i => i == k || footApartO (fs.getD i none) (footOf σ.tm o)) = true then
    thenDraw C call r (k + 1) (fs ++ [footOf σ.tm o]) (o.apart.contains k && !o.op.isMem) σ.mem (evOper C call o σ) else none := by
  have hb : ∀ (x : Option St) (q : Bool), (x.bind fun σ' => if q = true then (if σ'.mem = σ.mem then evDraw C call r (k + 1) (fs ++ [footOf σ.tm o]) σ' else none) else evDraw C call r (k + 1) (fs ++ [footOf σ.tm o]) σ') = thenDraw C call r (k + 1) (fs ++ [footOf σ.tm o]) q σ.mem x := by
    intro x q
    cases x <;> rfl
  show (if _ then _ else _) = _
  rw [hb]

/-- A loop's round begins with what it keeps. -/
theorem loop_env {K : List Nat} {B : ACode} {n : Nat} {e e' : Env} {f : Fr} {m : Mem} (h : keepE e K = keepE e' K) : den C (.loop (.cut K [] B)) ⟨tmOf n e, f :: m⟩ = den C (.loop (.cut K [] B)) ⟨tmOf n e', f :: m⟩ := by
  rw [den_loop, den_loop, den_cut, den_cut, cut_tmOf, cut_tmOf, h]

theorem wrap_lit (n : Nat) (h : n ≤ 9223372036854775807) : IntKind.i64.wrap (no_index (@OfNat.ofNat Int n instOfNat)) = @OfNat.ofNat Int n instOfNat :=
  IntWalk.i64_in _ (by show (-9223372036854775808 : Int) ≤ (n : Int) ∧ (n : Int) ≤ 9223372036854775807; omega)
theorem wrap_neg (n : Nat) (h : n ≤ 9223372036854775808) : IntKind.i64.wrap (-(no_index (@OfNat.ofNat Int n instOfNat))) = -@OfNat.ofNat Int n instOfNat :=
  IntWalk.i64_in _ (by show (-9223372036854775808 : Int) ≤ -(n : Int) ∧ -(n : Int) ≤ 9223372036854775807; omega)
/-- A loop's head, with what it keeps. -/
noncomputable def headL (C : Ctx) (l : ACode) (n : Nat) (e : Env) (f : Fr) (m : Mem) : Option (Ex × St) := den C l ⟨tmOf n e, f :: m⟩
theorem keepE_keepE (e : Env) (K : List Nat) (n : Nat) : tmOf n (keepE (keepE e K) K) = tmOf n (keepE e K) := by
  unfold tmOf
  apply List.map_congr_left
  intro t _
  rw [look_keepE, look_keepE]
  by_cases h : t ∈ K <;> simp [h]
theorem head_of {l : ACode} {K : List Nat} {B : ACode} (hl : l = .loop (.cut K [] B)) (n : Nat) (e : Env) (f : Fr) (m : Mem) : den C l ⟨tmOf n e, f :: m⟩ = headL C l n (keepE e K) f m := by
  subst hl
  unfold headL
  rw [den_loop, den_loop, den_cut, den_cut, cut_tmOf, cut_tmOf, keepE_keepE]
theorem head_step {l : ACode} {K : List Nat} {B : ACode} (hl : l = .loop (.cut K [] B)) (n : Nat) (e : Env) (f : Fr) (m : Mem) : headL C l n e f m = andThen (den C B ⟨tmOf n (keepE e K), f :: m⟩) (den C l) := by
  subst hl
  unfold headL
  rw [den_loop, den_cut, cut_tmOf]
  rfl

/-- Nothing that is kept refers to these blocks. -/
def freeEnv (fr : Nat) (D : List (List Nat)) (e : Env) (f : Fr) : Bool := D.all fun s => (e.all fun p => !p.2.has ⟨fr, s⟩) && f.all fun q => q.2.all fun v => !v.has ⟨fr, s⟩

theorem look_has {i : VA.Id} : ∀ {e : Env}, (e.all fun p => !p.2.has i) = true → ∀ t, (look e t).has i = false
  | [], _, t => rfl
  | (d, v) :: e, h, t => by
    simp only [List.all_cons, Bool.and_eq_true, Bool.not_eq_true'] at h
    rw [look_cons]
    split
    · exact h.1
    · exact look_has h.2 t

theorem cut_drop (n : Nat) (e : Env) (K : List Nat) (D : List (List Nat)) (f : Fr) (m : Mem) (h : freeEnv m.length D (keepE e K) (f.drop D) = true) : evCut K D ⟨tmOf n e, f :: m⟩ = some ⟨tmOf n (keepE e K), f.drop D :: m⟩ := by
  unfold evCut
  simp only [keepT_tmOf]
  rw [if_pos]
  unfold free freeEnv at *
  rw [List.all_eq_true] at h ⊢
  intro s hs
  have := h s hs
  simp only [Bool.and_eq_true] at this ⊢
  refine ⟨?_, this.2⟩
  rw [List.all_eq_true]
  intro v hv
  unfold tmOf at hv
  obtain ⟨t, _, rfl⟩ := List.mem_map.1 hv
  rw [look_has this.1 t]
  rfl

theorem drop_filter (f : Fr) : ∀ (D : List (List Nat)), f.drop D = f.filter fun e => D.all fun s => decide (e.1 ≠ s)
  | [] => (List.filter_eq_self.2 (fun _ _ => rfl)).symm
  | s :: D => by
    simp only [Fr.drop]
    rw [drop_filter _ D, List.filter_filter]
    congr 1
    funext e
    simp [Bool.and_comm]

theorem drop_drop (f : Fr) (D : List (List Nat)) : Fr.drop (f.drop D) D = f.drop D := by
  rw [drop_filter, drop_filter, List.filter_filter]
  congr 1
  funext e
  simp

theorem freeEnv_keep {fr : Nat} {D : List (List Nat)} {e : Env} {K : List Nat} {f : Fr} (h : freeEnv fr D (keepE e K) f = true) : freeEnv fr D (keepE (keepE e K) K) f = true := by
  unfold freeEnv at *
  rw [List.all_eq_true] at h ⊢
  intro s hs
  have := h s hs
  simp only [Bool.and_eq_true] at this ⊢
  refine ⟨?_, this.2⟩
  have key : ∀ (K' : List Nat), (List.all (keepE (keepE e K) K') fun p => !p.2.has ⟨fr, s⟩) = true := by
    intro K'
    induction K' with
    | nil => rfl
    | cons t r ih =>
      simp only [keepE, List.all_cons, Bool.and_eq_true]
      exact ⟨by rw [look_has this.1 t]; rfl, ih⟩
  exact key K

theorem headd_of {l : ACode} {K : List Nat} {D : List (List Nat)} {B : ACode} (hl : l = .loop (.cut K D B)) (n : Nat) (e : Env) (f : Fr) (m : Mem) (h : freeEnv m.length D (keepE e K) (f.drop D) = true) :
    den C l ⟨tmOf n e, f :: m⟩ = headL C l n (keepE e K) (f.drop D) m := by
  subst hl
  unfold headL
  rw [den_loop, den_loop, den_cut, den_cut, cut_drop _ _ _ _ _ _ h, cut_drop _ _ _ _ _ _ (by rw [drop_drop]; exact freeEnv_keep h), drop_drop, keepE_keepE]
theorem headd_step {l : ACode} {K : List Nat} {D : List (List Nat)} {B : ACode} (hl : l = .loop (.cut K D B)) (n : Nat) (e : Env) (f : Fr) (m : Mem) (h : freeEnv m.length D (keepE e K) (f.drop D) = true) :
    headL C l n e f m = andThen (den C B ⟨tmOf n (keepE e K), f.drop D :: m⟩) (den C l) := by
  subst hl
  unfold headL
  rw [den_loop, den_cut, cut_drop _ _ _ _ _ _ h]
  rfl

end

attribute [simp] den_seq den_reg den_draw den_ret den_skip den_exit den_cond den_block den_cut cut_tmOf putT_tmOf putT_none stripAll_nil stripAll_tmOf getT_tmOf look_nil look_cons keepE_nil keepE_cons evOps_nil evOps_cons thenOps_some thenDraw_some thenDraw_same evOper_plain plainOp_some evOper_guard askG_bool askG_skip cond_to_ite wrap_lit wrap_neg andThen_ite atBlock_ite retOf_ite thenOps_ite thenDraw_ite plainOp_ite map_ite ite_av_bool andThen_none atBlock_none retOf_none thenOps_none thenDraw_none plainOp_none retOf_normal retOf_ret evDraw_nil evDraw_cons leave_false AOp.isMem evAny evOp rho un bin binInt binStr conv evResults evRes
  sv_undef sv_bool sv_int sv_str sv_nilp sv_nils sv_nili sv_nilf sv_agg sv_tup sv_rptr sv_ptr sv_mslc sv_iface sv_fn sv_map sv_unk sv_exact sv_own sv_cap AV.okElem cv_undef ov_undef dv_undef pv_undef uv_undef hv_undef cv_bool ov_bool dv_bool pv_bool uv_bool hv_bool cv_int ov_int dv_int pv_int uv_int hv_int cv_str ov_str dv_str pv_str uv_str hv_str cv_nilp ov_nilp dv_nilp pv_nilp uv_nilp hv_nilp cv_nils ov_nils dv_nils pv_nils uv_nils hv_nils cv_nili ov_nili dv_nili pv_nili uv_nili hv_nili cv_nilf ov_nilf dv_nilf pv_nilf uv_nilf hv_nilf cv_agg ov_agg dv_agg pv_agg uv_agg hv_agg cv_tup ov_tup dv_tup pv_tup uv_tup hv_tup cv_slc ov_slc dv_slc pv_slc uv_slc hv_slc cv_rptr ov_rptr dv_rptr pv_rptr uv_rptr hv_rptr cv_ptr ov_ptr dv_ptr pv_ptr uv_ptr hv_ptr cv_mslc ov_mslc dv_mslc pv_mslc uv_mslc hv_mslc cv_iface ov_iface dv_iface pv_iface uv_iface hv_iface cv_fn ov_fn dv_fn pv_fn uv_fn hv_fn cv_map ov_map dv_map pv_map uv_map hv_map pvs_nil pvs_cons uvs_nil uvs_cons hvs_nil hvs_cons freeEnv Fr.drop List.filter_cons eqv iaddr slice bounds footOf footApartO footApart over elemsOf fill part setElems toElems flatEq Mem.get Mem.new Mem.set Mem.top Fr.get Fr.set

end Go.VA

/-
  More of walks by equations: lengths by a name of their own; ranges over iterators.
-/
namespace Go.VA
open Go

/-- A length. -/
def lenAV (str : Bool) (v : AV) : Option AV := match str, v with
  | false, .slc _ l _ => some (.int .i64 l.length)
  | false, .mslc _ _ _ n => some (.int .i64 n)
  | false, .nils => some (.int .i64 0)
  | true, .str s => some (.int .i64 s.length)
  | _, _ => none

section
variable {C : Ctx} {call : CallF}

theorem any_len (mem : Mem) (d : Nat) (ρ : Opd → AV) (str : Bool) (x : Opd) : evAny C call mem d ρ (.len str x) = (lenAV str (ρ x).strip).map (·, mem) := by
  show evOp mem d ρ (.len str x) = _
  simp only [evOp, lenAV]
  split <;> simp_all

theorem len_slc (sz : Nat) (l : List AV) (c : Cap) : lenAV false (.slc sz l c) = some (.int .i64 l.length) := rfl
theorem len_mslc (i : VA.Id) (sz o n : Nat) : lenAV false (.mslc i sz o n) = some (.int .i64 n) := rfl
theorem len_nils : lenAV false .nils = some (.int .i64 0) := rfl
theorem len_str (s : List UInt8) : lenAV true (.str s) = some (.int .i64 s.length) := rfl

theorem map_strip_tmOf (n : Nat) (e : Env) : (tmOf n e).map AV.strip = tmOf n (e.map fun p => (p.1, p.2.strip)) := by
  unfold tmOf
  rw [List.map_map]
  apply List.map_congr_left
  intro t _
  simp only [Function.comp]
  induction e with
  | nil => rfl
  | cons p e ih =>
    obtain ⟨d, v⟩ := p
    simp only [List.map_cons, look_cons]
    split
    · rfl
    · exact ih

theorem setPs_nil (tm : List AV) (vs : List AV) : setPs tm [] vs = tm := by cases vs <;> rfl
theorem setPs_tmOf (n : Nat) (e : Env) (p : Nat) (ps : List Nat) (v : AV) (vs : List AV) : setPs (tmOf n e) (p :: ps) (v :: vs) = setPs (tmOf n ((p, v) :: e)) ps vs := by
  show setPs ((tmOf n e).set p v) ps vs = _
  rw [set_tmOf]

end

attribute [simp ↓] any_len
attribute [simp] len_slc len_mslc len_nils len_str setPs_nil setPs_tmOf

end Go.VA

/-
  More contracts of library functions, as pure Lean functions: Index, Lines, Chunk, Clone.
-/
namespace Go.VA
open Go Go.RowKit

/-- The functions' codes, in a row. -/
def lookF : List (FuncId × AFunc) → FuncId → Option AFunc
  | [], _ => none
  | (k, a) :: r, f => if k = f then some a else lookF r f

def AllOK (P : Program) (gl : Globs) : List (FuncId × AFunc) → Prop
  | [] => True
  | p :: r => chkFunc P gl p.1 p.2 = true ∧ AllOK P gl r

theorem lookF_ok {P : Program} {gl : Globs} : ∀ {l : List (FuncId × AFunc)}, AllOK P gl l → ∀ {f af}, lookF l f = some af → chkFunc P gl f af = true
  | [], _, _, _, h => by cases h
  | (k, a) :: r, hl, f, af, h => by
    simp only [lookF] at h
    split at h
    · rename_i e; subst e; cases h; exact hl.1
    · exact lookF_ok hl.2 h

def qIndex : Prim
  | [.str s, .str p] => if s.length < 4294967281 then some (.int .i64 (Lib.index s p)) else none
  | _ => none

def qSplitN : Prim
  | [.str s, .str p, .int .i64 n] => if s.length < 4294967281 ∧ 1 ≤ p.length ∧ 1 ≤ n ∧ n ≤ 9223372036854775807 then some (.slc 1 ((Lib.splitN s p n.toNat).map AV.str) .unk) else none
  | _ => none
def qHasPrefix : Prim
  | [.str s, .str p] => some (.bool (Lib.hasPrefix s p))
  | _ => none
def qHasSuffix : Prim
  | [.str s, .str p] => if s.length ≤ 9223372036854775807 then some (.bool (Lib.hasSuffix s p)) else none
  | _ => none
def qTrimSuffix : Prim
  | [.str s, .str p] => if s.length ≤ 9223372036854775807 then some (.str (Lib.trimSuffix s p)) else none
  | _ => none

/-- The lines of a text, each with its line feed; a rest without one is the last. -/
def linesOf : List UInt8 → List UInt8 → List (List UInt8)
  | acc, [] => if acc = [] then [] else [acc]
  | acc, b :: s => if b = 10 then (acc ++ [b]) :: linesOf [] s else linesOf (acc ++ [b]) s

def qLines : List AV → Option (List (List AV))
  | [.str s] => if s.length ≤ 281474976710656 then some ((linesOf [] s).map fun l => [.str l]) else none
  | _ => none

/-- Chunks of so many (the last one may be shorter); 'k': how many at most. -/
def chunksOf (n : Nat) : Nat → List AV → List (List AV)
  | 0, _ => []
  | k + 1, l => if l = [] then [] else l.take n :: chunksOf n k (l.drop n)

def qChunk : List AV → Option (List (List AV))
  | [.slc 1 l c, .int .i64 n] => if c ≠ .own ∧ 1 ≤ n ∧ n ≤ 4294967296 ∧ l.length ≤ 4294967296 ∧ l.all (AV.okElem 1) = true then some ((chunksOf n.toNat l.length l).map fun x => [.slc 1 x .exact]) else none
  | _ => none

theorem chunksOf_spec {n : Nat} (hn : 1 ≤ n) : ∀ (k : Nat) (l : List AV), l.length ≤ k → (∀ j, j < (chunksOf n k l).length ↔ j * n < l.length) ∧ ∀ j x, (chunksOf n k l)[j]? = some x → x = (l.drop (j * n)).take n
  | 0, l, h => by
    have : l = [] := List.length_eq_zero_iff.1 (by omega)
    subst this
    simp [chunksOf]
  | k + 1, l, h => by
    unfold chunksOf
    by_cases hl : l = []
    · subst hl; simp
    · rw [if_neg hl]
      have hpos : 0 < l.length := by
        cases l with
        | nil => exact absurd rfl hl
        | cons a l => simp
      obtain ⟨h1, h2⟩ := chunksOf_spec hn k (l.drop n) (by simp; omega)
      refine ⟨fun j => ?_, fun j x hx => ?_⟩
      · cases j with
        | zero => simp; omega
        | succ j =>
          simp only [List.length_cons, Nat.add_lt_add_iff_right]
          rw [h1 j, List.length_drop, Nat.add_mul, Nat.one_mul]
          omega
      · cases j with
        | zero => simp at hx; subst hx; simp
        | succ j =>
          simp only [List.getElem?_cons_succ] at hx
          rw [h2 j x hx, List.drop_drop]
          congr 2
          rw [Nat.add_mul, Nat.one_mul]
          omega

/-- A copy, of elements of so many cells and bytes. -/
def qClone (sz bytes : Nat) : Prim
  | [.slc sz' l c] => if sz' = sz ∧ c ≠ .own ∧ l ≠ [] ∧ l.length * bytes ≤ room ∧ l.all (AV.okElem sz) = true then some (.slc sz l .unk) else none
  | _ => none

end Go.VA

/-
  More contracts of library functions: Index, SplitN, prefixes and suffixes, Clone.
-/
namespace Go.VA
open Go Go.RowKit

section
variable {P : Program} {base : Nat} {w0 w : World} {f : FuncId} {imm : Addr → Option Value} {map : Nat → Option Obj} {blk : Id → Option Nat}

theorem rvs_three {a b c : AV} {xs : Array Value} (h : RVs imm map blk [a, b, c] xs.toList) : ∃ x y z, xs = #[x, y, z] ∧ RV imm map blk a x ∧ RV imm map blk b y ∧ RV imm map blk c z := by
  obtain ⟨h1, h2⟩ := h
  have : xs.size = 3 := by simpa using h1.symm
  obtain ⟨l⟩ := xs
  match l, this with
  | [x, y, z], _ => exact ⟨x, y, z, rfl, h2 0 a x rfl rfl, h2 1 b y rfl rfl, h2 2 c z rfl rfl⟩

theorem prim_Index (hent : Enters P f) {g : Nat} {m : Int} (hg : g < base) (hm : w0.cell? ⟨g, 0, none⟩ = some (.int .i64 m))
    (hC : ∀ (s sub : ByteArray) (m : Int) (w : World) (_ : s.size < 4294967281) (_ : w.cell? ⟨g, 0, none⟩ = some (.int .i64 m)),
      Calls P f #[.string s, .string sub] w fun e w' => e = .returned (.int .i64 (Lib.index s.data.toList sub.data.toList)) ∧ w' = w) : PrimAt P base w0 f qIndex := by
  refine ⟨hent, fun args r hr => ?_⟩
  unfold qIndex at hr
  split at hr
  · rename_i s p
    split at hr
    · rename_i hl
      cases hr
      refine ⟨rfl, fun imm map w xs hB hs hi ha => ?_⟩
      obtain ⟨x, y, rfl, hx, hy⟩ := rvs_two ha
      rw [rv_str hx, rv_str hy]
      refine (hC _ _ m w (by rw [size_arr]; exact hl) (by rw [hB.cell hg]; exact hm)).mono fun e w' h => ?_
      obtain ⟨rfl, rfl⟩ := h
      exact ⟨_, rfl, .refl _ _, .int _ _⟩
    · cases hr
  · cases hr

theorem prim_HasPrefix (hent : Enters P f)
    (hC : ∀ (s p : ByteArray) (w : World), Calls P f #[.string s, .string p] w fun e w' => e = .returned (.bool (Lib.hasPrefix s.data.toList p.data.toList)) ∧ w' = w) : PrimAt P base w0 f qHasPrefix := by
  refine ⟨hent, fun args r hr => ?_⟩
  unfold qHasPrefix at hr
  split at hr
  · rename_i s p
    cases hr
    refine ⟨rfl, fun imm map w xs hB hs hi ha => ?_⟩
    obtain ⟨x, y, rfl, hx, hy⟩ := rvs_two ha
    rw [rv_str hx, rv_str hy]
    refine (hC _ _ w).mono fun e w' h => ?_
    obtain ⟨rfl, rfl⟩ := h
    exact ⟨_, rfl, .refl _ _, .bool _⟩
  · cases hr

theorem prim_HasSuffix (hent : Enters P f)
    (hC : ∀ (s p : ByteArray) (w : World) (_ : s.size ≤ 9223372036854775807), Calls P f #[.string s, .string p] w fun e w' => e = .returned (.bool (Lib.hasSuffix s.data.toList p.data.toList)) ∧ w' = w) : PrimAt P base w0 f qHasSuffix := by
  refine ⟨hent, fun args r hr => ?_⟩
  unfold qHasSuffix at hr
  split at hr
  · rename_i s p
    split at hr
    · rename_i hl
      cases hr
      refine ⟨rfl, fun imm map w xs hB hs hi ha => ?_⟩
      obtain ⟨x, y, rfl, hx, hy⟩ := rvs_two ha
      rw [rv_str hx, rv_str hy]
      refine (hC _ _ w (by rw [size_arr]; exact hl)).mono fun e w' h => ?_
      obtain ⟨rfl, rfl⟩ := h
      exact ⟨_, rfl, .refl _ _, .bool _⟩
    · cases hr
  · cases hr

theorem prim_TrimSuffix (hent : Enters P f)
    (hC : ∀ (s p : ByteArray) (w : World) (_ : s.size ≤ 9223372036854775807), Calls P f #[.string s, .string p] w fun e w' => e = .returned (.string ⟨(Lib.trimSuffix s.data.toList p.data.toList).toArray⟩) ∧ w' = w) : PrimAt P base w0 f qTrimSuffix := by
  refine ⟨hent, fun args r hr => ?_⟩
  unfold qTrimSuffix at hr
  split at hr
  · rename_i s p
    split at hr
    · rename_i hl
      cases hr
      refine ⟨rfl, fun imm map w xs hB hs hi ha => ?_⟩
      obtain ⟨x, y, rfl, hx, hy⟩ := rvs_two ha
      rw [rv_str hx, rv_str hy]
      refine (hC _ _ w (by rw [size_arr]; exact hl)).mono fun e w' h => ?_
      obtain ⟨rfl, rfl⟩ := h
      exact ⟨_, rfl, .refl _ _, .str _⟩
    · cases hr
  · cases hr

/-- A row of texts in a block of its own. -/
theorem rv_texts {ts : List (List UInt8)} {arr : Array Value} {e : TypeId} {cap : Nat} (hc : ts.length ≤ cap) (hat : ∀ (i : Nat) t, ts[i]? = some t → arr[i]? = some (.string ⟨t.toArray⟩)) (c : Cap) (hx : c = .exact → cap = ts.length) (ho : c ≠ .own) :
    RV (fun a => if a.block < w.heap.size then imm a else (w.alloc (.cells arr e)).cell? a) map (fun _ => none) (.slc 1 (ts.map AV.str) c) (.slice (some ⟨w.heap.size, 0, none⟩) ts.length cap) := by
  have key := RV.slc (imm := fun a => if a.block < w.heap.size then imm a else (w.alloc (.cells arr e)).cell? a) (map := map) (blk := fun _ => none)
    1 (ts.map AV.str) c w.heap.size 0 cap (fun i _ => .string ⟨(ts.getD i []).toArray⟩) ho (by rw [List.length_map]; exact hc) (fun h => by rw [List.length_map]; exact hx h)
    (fun v hv => by
      obtain ⟨u, _, rfl⟩ := List.mem_map.1 hv
      rfl)
    (fun i j hi hj => by
      have hj0 : j = 0 := by omega
      subst hj0
      rw [List.length_map] at hi
      obtain ⟨u, hu⟩ : ∃ u, ts[i]? = some u := ⟨_, List.getElem?_eq_getElem hi⟩
      dsimp only
      rw [if_neg (by show ¬ w.heap.size < w.heap.size; omega)]
      have := hat i u hu
      rw [show 0 + (i * 1 + 0) = i by omega, World.cell?_alloc_new, this, List.getD_eq_getElem?_getD, hu]
      rfl)
    (fun i v j u hv hu => by
      rw [List.getElem?_map, Option.map_eq_some_iff] at hv
      obtain ⟨t, ht, rfl⟩ := hv
      have hu' : [AV.str t][j]? = some u := hu
      match j with
      | 0 =>
        cases hu'
        rw [List.getD_eq_getElem?_getD, ht]
        exact .str _
      | j + 1 => simp at hu')
  rw [List.length_map] at key
  exact key

theorem texts_pure (ts : List (List UInt8)) {c : Cap} (h : c ≠ .own) : AV.pure (.slc 1 (ts.map AV.str) c) = true := by
  simp [AV.pure, h]

theorem prim_SplitN {e9 : TypeId} (hent : Enters P f) {g : Nat} {m : Int} (hg : g < base) (hm : w0.cell? ⟨g, 0, none⟩ = some (.int .i64 m))
    (hC : ∀ (s sep : ByteArray) (n : Nat) (m : Int) (w : World) (_ : s.size < 4294967281) (_ : w.cell? ⟨g, 0, none⟩ = some (.int .i64 m)) (_ : 1 ≤ sep.size) (_ : 1 ≤ n) (_ : n ≤ 9223372036854775807),
      Calls P f #[.string s, .string sep, .int .i64 n] w fun e w' =>
        e = .returned (.slice (some ⟨w.heap.size, 0, none⟩) (Lib.splitB sep 0 (min n (s.size + 1) - 1) s).length (min n (s.size + 1))) ∧
        w' = w.alloc (.cells (Lib.cellsOf (Lib.splitB sep 0 (min n (s.size + 1) - 1) s) (min n (s.size + 1))) e9)) : PrimAt P base w0 f qSplitN := by
  refine ⟨hent, fun args r hr => ?_⟩
  unfold qSplitN at hr
  split at hr
  · rename_i s p n
    split at hr
    · rename_i hl
      cases hr
      refine ⟨texts_pure _ (by simp), fun imm map w xs hB hs hi ha => ?_⟩
      obtain ⟨x, y, z, rfl, hx, hy, hz⟩ := rvs_three ha
      rw [rv_str hx, rv_str hy, rv_int hz]
      obtain ⟨k, rfl⟩ : ∃ k : Nat, n = (k : Int) := ⟨n.toNat, by omega⟩
      refine (hC _ _ k m w (by rw [size_arr]; exact hl.1) (by rw [hB.cell hg]; exact hm) (by rw [size_arr]; exact hl.2.1) (by omega) (by omega)).mono fun e w' h => ?_
      obtain ⟨rfl, rfl⟩ := h
      refine ⟨_, rfl, (Below.refl _ _).alloc (Nat.le_refl _) _, ?_⟩
      have hsp := Lib.splitB_data ⟨p.toArray⟩ 0 (min k ((ByteArray.mk s.toArray).size + 1) - 1) ⟨s.toArray⟩
      simp only at hsp
      have hts : Lib.splitN s p (Int.toNat k) = (Lib.splitB ⟨p.toArray⟩ 0 (min k ((ByteArray.mk s.toArray).size + 1) - 1) ⟨s.toArray⟩).map (·.data.toList) := by
        rw [hsp, size_arr]
        rfl
      have hlen : (Lib.splitB ⟨p.toArray⟩ 0 (min k ((ByteArray.mk s.toArray).size + 1) - 1) ⟨s.toArray⟩).length = (Lib.splitN s p (Int.toNat k)).length := by rw [hts, List.length_map]
      have hkl : ∀ (j : Nat) (x : List UInt8), (Lib.splitK p 0 j x).length ≤ j + 1 := by
        intro j
        induction j with
        | zero => intro x; simp [Lib.splitK]
        | succ j ih =>
          intro x
          unfold Lib.splitK
          split
          · simp
          · rw [List.length_cons]; have := ih (x.drop ((Lib.index x p).toNat + p.length)); omega
      rw [hlen]
      refine rv_texts ?_ ?_ .unk (by simp) (by simp)
      · have := hkl (min k (s.length + 1) - 1) s
        unfold Lib.splitN
        rw [size_arr]
        have h0 : Int.toNat (k : Int) = k := rfl
        rw [h0]
        omega
      · intro i t ht
        unfold Lib.cellsOf
        rw [List.getElem?_toArray]
        rw [hts, List.getElem?_map, Option.map_eq_some_iff] at ht
        obtain ⟨b, hb, rfl⟩ := ht
        rw [List.getElem?_append_left (by rw [List.length_map]; exact (List.getElem?_eq_some_iff.1 hb).1), List.getElem?_map, hb]
        simp
    · cases hr
  · cases hr

theorem rv_one {u : AV} {x : Value} (h : RV imm map blk u x) (ho : u.one = true) : x.oneCell' = true := by
  cases h <;> first | rfl | (simp [AV.one] at ho; done)

/-- The cells of a slice that comes in, one after the other. -/
theorem clone_cells {sz : Nat} {l : List AV} {c : Cap} {x : Value} (h : RV imm map blk (.slc sz l c) x) : ∃ b off cap, x = .slice (some ⟨b, off, none⟩) l.length cap ∧ ∃ news : List Value, news.length = l.length * sz ∧
    (∀ (j : Nat) u, news[j]? = some u → imm ⟨b, off + j, none⟩ = some u ∧ u.oneCell' = true) ∧ (∀ v, v ∈ l → v.okElem sz = true) ∧
    ∀ (i : Nat) v (j : Nat) u y, l[i]? = some v → v.cells[j]? = some u → news[i * sz + j]? = some y → RV imm map blk u y := by
  cases h with
  | slc _ _ _ b off cap vs hc hle hx hp h1 h =>
    refine ⟨b, off, cap, rfl, (List.range (l.length * sz)).map (fun k => vs (k / sz) (k % sz)), by simp, ?_, hp, ?_⟩
    · intro j u hu
      rw [List.getElem?_map, Option.map_eq_some_iff] at hu
      obtain ⟨k, hk, rfl⟩ := hu
      have hj : j < l.length * sz := by
        have := (List.getElem?_eq_some_iff.1 hk).1
        simpa using this
      rw [List.getElem?_range hj] at hk
      cases hk
      have hsz : 0 < sz := by
        rcases Nat.eq_zero_or_pos sz with h0 | h0
        · subst h0; omega
        · exact h0
      have hq : j / sz < l.length := Nat.div_lt_of_lt_mul (by rw [Nat.mul_comm]; exact hj)
      have hr : j % sz < sz := Nat.mod_lt _ hsz
      have e : j / sz * sz + j % sz = j := by rw [Nat.mul_comm]; exact Nat.div_add_mod j sz
      have := h1 (j / sz) (j % sz) hq hr
      rw [e] at this
      obtain ⟨v, hv⟩ : ∃ v, l[j / sz]? = some v := ⟨_, List.getElem?_eq_getElem hq⟩
      have hok := okElem_spec (hp v (List.mem_of_getElem? hv))
      obtain ⟨u, hu⟩ : ∃ u, v.cells[j % sz]? = some u := ⟨_, List.getElem?_eq_getElem (by rw [hok.1]; exact hr)⟩
      exact ⟨this, rv_one (h _ _ _ _ hv hu) (hok.2 u (List.mem_of_getElem? hu)).2⟩
    · intro i v j u y hv hu hy
      have hi : i < l.length := (List.getElem?_eq_some_iff.1 hv).1
      have hok := okElem_spec (hp v (List.mem_of_getElem? hv))
      have hj : j < sz := by rw [← hok.1]; exact (List.getElem?_eq_some_iff.1 hu).1
      rw [List.getElem?_map, Option.map_eq_some_iff] at hy
      obtain ⟨k, hk, rfl⟩ := hy
      have hlt : i * sz + j < l.length * sz := by
        have := (List.getElem?_eq_some_iff.1 hk).1
        simpa using this
      rw [List.getElem?_range hlt] at hk
      cases hk
      have e1 : (i * sz + j) / sz = i := by rw [Nat.mul_comm, Nat.mul_add_div (by omega), Nat.div_eq_of_lt hj, Nat.add_zero]
      have e2 : (i * sz + j) % sz = j := by rw [Nat.mul_comm, Nat.mul_add_mod, Nat.mod_eq_of_lt hj]
      rw [e1, e2]
      exact h i v j u hv hu

/-- The contract of a copy, as the shelf tells it. -/
def CloneC (P : Program) (f : FuncId) (e : TypeId) (size bytes : Nat) : Prop :=
  ∀ (b off n c : Nat) (news : List Value) (w : World), news.length = n * size → n ≤ maxLen → n * bytes ≤ 140737488355328 → (∀ j u, news[j]? = some u → w.cell? ⟨b, off + j, none⟩ = some u) → (∀ u ∈ news, u.oneCell' = true) →
    Calls P f #[.slice (some ⟨b, off, none⟩) n c] w fun e' w' => ∃ v', e' = .returned v' ∧ w'.ownsRow w.heap.size e size v' n news ∧ v' ≠ .slice none 0 0 ∧ Below w.heap.size w w'

theorem clone_run {e : TypeId} {size bytes : Nat} (hb : 0 < bytes) (hC : CloneC P f e size bytes) {l : List AV} {c : Cap} {xs : Array Value} (hl : l.length * bytes ≤ room) (hi : ∀ a v, imm a = some v → w.cell? a = some v)
    (ha : RVs imm map (fun _ => none) [.slc size l c] xs.toList) : Calls P f xs w fun e' w' => ∃ b cap arr el, e' = .returned (.slice (some ⟨b, 0, none⟩) l.length cap) ∧ Below w.heap.size w w' ∧ w.heap.size ≤ b ∧ l.length ≤ cap ∧ cap * size ≤ arr.size ∧
      w'.heap[b]? = some (.cells arr el (0, 0)) ∧ ∀ (i : Nat) v (j : Nat) u x, l[i]? = some v → v.cells[j]? = some u → arr[i * size + j]? = some x → RV imm map (fun _ => none) u x := by
  obtain ⟨x, rfl, hx⟩ := rvs_one ha
  obtain ⟨b, off, cap, rfl, news, h1, h2, h3, h4⟩ := clone_cells hx
  have hroom : l.length * bytes ≤ 4294967296 := hl
  have hlen : l.length ≤ 4294967296 := Nat.le_trans (Nat.le_mul_of_pos_right _ hb) hroom
  refine (hC b off l.length cap news w h1 (by have : (4294967296 : Nat) ≤ maxLen := by decide
                                              omega) (by omega) (fun j u hu => hi _ _ (h2 j u hu).1) (fun u hu => ?_)).mono fun e' w' h => ?_
  · obtain ⟨j, hj, rfl⟩ := List.getElem_of_mem hu
    exact (h2 j _ (List.getElem?_eq_getElem hj)).2
  · obtain ⟨v', rfl, ho, hne, hB⟩ := h
    rcases ho.2 with ⟨hv, _⟩ | ⟨g, cap', cur, hv, hg, hcur, hle, _, hsz, htake⟩
    · exact absurd hv hne
    · subst hv
      refine ⟨g, cap', cur, e, rfl, hB, hg, hle, by omega, hcur, fun i v j u y hv hu hy => h4 i v j u y hv hu ?_⟩
      have hi' : i < l.length := (List.getElem?_eq_some_iff.1 hv).1
      have hok := okElem_spec (h3 v (List.mem_of_getElem? hv))
      have hj : j < size := by rw [← hok.1]; exact (List.getElem?_eq_some_iff.1 hu).1
      have hlt : i * size + j < l.length * size := by
        have : (i + 1) * size ≤ l.length * size := Nat.mul_le_mul_right _ hi'
        rw [Nat.add_mul] at this
        omega
      rw [← htake, List.getElem?_take_of_lt hlt, Array.getElem?_toList]
      exact hy

theorem fresh_Clone {C : Ctx} {e : TypeId} {size bytes : Nat} (hb : 0 < bytes) (hent : Enters P f) (hC : CloneC P f e size bytes) (hp : C.prim f = some (qClone size bytes)) :
    ∃ q, C.prim f = some q ∧ ∀ a l c, q [a] = some (.slc size l c) → l ≠ [] → Enters P f ∧ (∀ v, v ∈ l → v.okElem size = true) ∧
      ∀ (imm : Addr → Option Value) (map : Nat → Option Obj) (w : World) (xs : Array Value), Below base w0 w → base ≤ w.heap.size → (∀ a v, imm a = some v → w.cell? a = some v) → RVs imm map (fun _ => none) [a] xs.toList →
      Calls P f xs w fun e w' => ∃ b cap arr el, e = .returned (.slice (some ⟨b, 0, none⟩) l.length cap) ∧ Below w.heap.size w w' ∧ w.heap.size ≤ b ∧ l.length ≤ cap ∧ cap * size ≤ arr.size ∧ w'.heap[b]? = some (.cells arr el (0, 0)) ∧
        ∀ (i : Nat) v (j : Nat) u x, l[i]? = some v → v.cells[j]? = some u → arr[i * size + j]? = some x → RV imm map (fun _ => none) u x := by
  refine ⟨_, hp, fun a l c hq hl => ?_⟩
  unfold qClone at hq
  split at hq
  · rename_i sz' l' c' heq
    split at hq
    · rename_i hc
      cases hq
      cases heq
      obtain ⟨rfl, h1, h2, h3, h4⟩ := hc
      exact ⟨hent, fun v hv => List.all_eq_true.1 h4 v hv, fun imm map w xs hB hs hi ha => clone_run hb hC h3 hi ha⟩
    · cases hq
  · cases hq

theorem prim_Clone {e : TypeId} {size bytes : Nat} (hb : 0 < bytes) (hent : Enters P f) (hC : CloneC P f e size bytes) : PrimAt P base w0 f (qClone size bytes) := by
  refine ⟨hent, fun args r hr => ?_⟩
  unfold qClone at hr
  split at hr
  · rename_i sz' l c
    split at hr
    · rename_i hc
      cases hr
      obtain ⟨rfl, h1, h2, h3, h4⟩ := hc
      have hok : ∀ v, v ∈ l → v.okElem sz' = true := fun v hv => List.all_eq_true.1 h4 v hv
      refine ⟨rfl, fun imm map w xs hB hs hi ha => (clone_run hb hC h3 hi ha).mono fun e w' h => ?_⟩
      obtain ⟨b, cap, arr, el, rfl, hB', hb', hle, hcs, hcell, hrv⟩ := h
      refine ⟨_, rfl, hB', ?_⟩
      have hidx : ∀ i j, i < l.length → j < sz' → i * sz' + j < arr.size := by
        intro i j h1 h2
        have : (i + 1) * sz' ≤ cap * sz' := Nat.mul_le_mul_right _ (by omega)
        rw [Nat.add_mul] at this
        omega
      refine .slc sz' l .unk b 0 cap (fun i j => arr.getD (i * sz' + j) undef) (by simp) hle (by simp) hok (fun i j h1 h2 => ?_) (fun i v j u hv hu => ?_)
      · dsimp only
        rw [if_neg (by show ¬ b < w.heap.size; omega)]
        have := hidx i j h1 h2
        simp only [World.cell?, hcell, Nat.zero_add]
        simp [this]
      · have hi' : i < l.length := (List.getElem?_eq_some_iff.1 hv).1
        have hk := okElem_spec (hok v (List.mem_of_getElem? hv))
        have hj : j < sz' := by rw [← hk.1]; exact (List.getElem?_eq_some_iff.1 hu).1
        have hlt := hidx i j hi' hj
        have := hrv i v j u _ hv hu (Array.getElem?_eq_getElem hlt)
        have e1 : arr.getD (i * sz' + j) undef = arr[i * sz' + j] := by simp [Array.getD, hlt]
        rw [e1]
        exact this.mono (fun a v h => by
          rw [if_pos (World.block_lt_of_cell? w _ (hi a v h))]
          exact h) (fun _ _ h => h) (fun _ _ h => h)
    · cases hr
  · cases hr

end
end Go.VA
