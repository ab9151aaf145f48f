/-
  Functions of the library that are not run but taken by their contracts.
-/
import Derived.Test.YtifieekfojbkhaaGreatDoorVaEnd
import Derived.Lib.AtoiAll
import Derived.Lib.ItoaNum
import Derived.Lib.Split
import Derived.Lib.SplitLaws
import Derived.Lib.Join
import Derived.Lib.Strings
import Derived.Lib.IndexMore
import Derived.Lib.LaidTab
import Derived.Lib.ConvBytes
set_option linter.unusedSimpArgs false
set_option linter.unusedVariables false
namespace Go.VA
open Go Go.RowKit

abbrev Prim := List AV → Option AV

def PrimAt (P : Program) (base : Nat) (w0 : World) (f : FuncId) (q : Prim) : Prop :=
  Enters P f ∧ ∀ args r, q args = some r → r.pure = true ∧ ∀ (imm : Addr → Option Value) (map : Nat → Option (Array MapEntry)) (w : World) (xs : Array Value), Below base w0 w → base ≤ w.heap.size →
    (∀ a v, imm a = some v → w.cell? a = some v) → RVs imm map (fun _ => none) args xs.toList →
    Calls P f xs w fun e w' => ∃ x, e = .returned x ∧ Below w.heap.size w w' ∧ RV (fun a => if a.block < w.heap.size then imm a else w'.cell? a) map (fun _ => none) r x

theorem primOK_of {P : Program} {C : Ctx} {base : Nat} {w0 : World} (h : ∀ f q, C.prim f = some q → PrimAt P base w0 f q) : PrimOK P C base w0 := by
  intro f q hq args r hr
  obtain ⟨h1, h2⟩ := h f q hq
  obtain ⟨h3, h4⟩ := h2 args r hr
  exact ⟨h1, h3, h4⟩

def qItoa : Prim
  | [.int .i64 n] => if -9223372036854775808 ≤ n ∧ n ≤ 9223372036854775807 then some (.str (Lib.itoa n)) else none
  | _ => none

def qAtoi (t : TypeId) : Prim
  | [.str s] => if s.length ≤ 281474976710656 then (match Lib.atoiAll s with
    | .ok v => some (.tup [.int .i64 v, .nili])
    | .range => some (.tup [.int .i64 (Lib.atoiSat s), .iface t .undef])
    | _ => some (.tup [.int .i64 0, .iface t .undef])) else none
  | _ => none

def qTrimPrefix : Prim
  | [.str s, .str p] => some (.str (Lib.trimPrefix s p))
  | _ => none

def qContains : Prim
  | [.str s, .str p] => if s.length < 4294967281 then some (.bool (Lib.contains s p)) else none
  | _ => none

def qSplit : Prim
  | [.str s, .str p] => if s.length < 4294967281 ∧ 1 ≤ p.length then
      some (.slc 1 ((Lib.splitK p 0 (Lib.countB ⟨s.toArray⟩ ⟨p.toArray⟩) s).map .str) .exact) else none
  | _ => none

def strsOf : List AV → Option (List (List UInt8))
  | [] => some []
  | .str s :: r => (strsOf r).map (s :: ·)
  | _ => none

def qJoin : Prim
  | [.nils, .str _] => some (.str [])
  | [.slc 1 l _, .str sep] => (strsOf l).bind fun xs => if xs.length ≤ 140737488355328 ∧ (Lib.join xs sep).length ≤ 140737488355328 then some (.str (Lib.join xs sep)) else none
  | _ => none

section
variable {P : Program} {base : Nat} {w0 : World} {f : FuncId} {imm : Addr → Option Value} {map : Nat → Option (Array MapEntry)} {blk : Id → Option Nat}

theorem rvs_one {a : AV} {xs : Array Value} (h : RVs imm map blk [a] xs.toList) : ∃ x, xs = #[x] ∧ RV imm map blk a x := by
  obtain ⟨h1, h2⟩ := h
  have : xs.size = 1 := by simpa using h1.symm
  obtain ⟨l⟩ := xs
  match l, this with
  | [x], _ => exact ⟨x, rfl, h2 0 a x rfl rfl⟩

theorem rvs_two {a b : AV} {xs : Array Value} (h : RVs imm map blk [a, b] xs.toList) : ∃ x y, xs = #[x, y] ∧ RV imm map blk a x ∧ RV imm map blk b y := by
  obtain ⟨h1, h2⟩ := h
  have : xs.size = 2 := by simpa using h1.symm
  obtain ⟨l⟩ := xs
  match l, this with
  | [x, y], _ => exact ⟨x, y, rfl, h2 0 a x rfl rfl, h2 1 b y rfl rfl⟩

theorem rv_str {l : List UInt8} {x : Value} (h : RV imm map blk (.str l) x) : x = .string ⟨l.toArray⟩ := by cases h; rfl
theorem rv_int {k : IntKind} {n : Int} {x : Value} (h : RV imm map blk (.int k n) x) : x = .int k n := by cases h; rfl

theorem size_arr (l : List UInt8) : (ByteArray.mk l.toArray).size = l.length := by simp [ByteArray.size]

theorem var_below {w : World} {name : String} {cs : Array Value} (h : w0.var? P name = some cs) (hb : Below base w0 w) (hg : ∃ g, P.globalNamed name = some g ∧ g < base) : w.var? P name = some cs := by
  obtain ⟨g, h1, h2⟩ := hg
  simp only [World.var?, h1, Option.bind_some] at h ⊢
  rw [hb.block g h2]
  exact h

theorem prim_Itoa (hent : Enters P f) (hlt : ∃ g, P.globalNamed "internal/strconv.uint64pow10" = some g ∧ g < base) (htab : Lib.TabIs P w0 "internal/strconv.uint64pow10" .u64 Lib.pow10Tab)
    (hC : ∀ (n : Int) (_ : -9223372036854775808 ≤ n) (_ : n ≤ 9223372036854775807) (w : World) (_ : Lib.TabIs P w "internal/strconv.uint64pow10" .u64 Lib.pow10Tab),
      Calls P f #[.int .i64 n] w fun e w' => e = .returned (.string ⟨(Lib.itoa n).toArray⟩) ∧ Below w.heap.size w w') : PrimAt P base w0 f qItoa := by
  refine ⟨hent, fun args r hr => ?_⟩
  unfold qItoa at hr
  split at hr
  · rename_i n
    split at hr
    · rename_i hn
      cases hr
      refine ⟨rfl, fun imm map w xs hB hs hi ha => ?_⟩
      obtain ⟨x, rfl, hx⟩ := rvs_one ha
      rw [rv_int hx]
      refine (hC n hn.1 hn.2 w (var_below htab hB hlt)).mono fun e w' h => ?_
      obtain ⟨rfl, h⟩ := h
      exact ⟨_, rfl, h, .str _⟩
    · cases hr
  · cases hr

theorem bytesWorld_below (w : World) (e : TypeId) (s : ByteArray) : Below w.heap.size w (Lib.bytesWorld w e s) :=
  ⟨rfl, rfl, rfl, by rw [Lib.bytesWorld_size]; omega, fun j hj => Lib.bytesWorld_at_old w e s j hj⟩

theorem prim_Atoi {t e5 : TypeId} (hent : Enters P f) {g1 g2 : Nat} {v1 v2 : Value} (hg1 : g1 < base) (hg2 : g2 < base) (h1 : w0.cell? ⟨g1, 0, none⟩ = some v1) (h2 : w0.cell? ⟨g2, 0, none⟩ = some v2)
    (k1 : v1 = .nilIface ∨ ∃ te pe, v1 = .iface te pe) (k2 : v2 = .nilIface ∨ ∃ te pe, v2 = .iface te pe)
    (hok : ∀ (s : ByteArray) (_ : s.size ≤ 9223372036854775806) (v : Int) (_ : Lib.atoiAll s.data.toList = .ok v) (w : World),
      Calls P f #[.string s] w fun e w' => e = .returned (.tuple #[.int .i64 v, .nilIface]) ∧ (w' = w ∨ ∃ t, w' = Lib.bytesWorld w e5 t))
    (hsy : ∀ (s : ByteArray) (_ : s.size ≤ 281474976710656) (_ : Lib.atoiAll s.data.toList = Lib.atoiAll []) (ev : Value) (w : World) (_ : w.cell? ⟨g1, 0, none⟩ = some ev) (_ : ev = .nilIface ∨ ∃ te pe, ev = .iface te pe),
      Calls P f #[.string s] w fun e w' => ∃ N, e = .returned (.tuple #[.int .i64 (0), .iface t (.pointer (some ⟨N, 0, none⟩))]) ∧ Below w.heap.size w w')
    (hra : ∀ (s : ByteArray) (_ : s.size ≤ 281474976710656) (_ : Lib.atoiAll s.data.toList = .range) (ev : Value) (w : World) (_ : w.cell? ⟨g2, 0, none⟩ = some ev) (_ : ev = .nilIface ∨ ∃ te pe, ev = .iface te pe),
      Calls P f #[.string s] w fun e w' => ∃ N, e = .returned (.tuple #[.int .i64 (Lib.atoiSat s.data.toList), .iface t (.pointer (some ⟨N, 0, none⟩))]) ∧ Below w.heap.size w w') : PrimAt P base w0 f (qAtoi t) := by
  refine ⟨hent, fun args r hr => ?_⟩
  have two : ∀ {imm : Addr → Option Value} {map : Nat → Option (Array MapEntry)} {a b : AV} {x y : Value}, RV imm map (fun _ => none) a x → RV imm map (fun _ => none) b y → RV imm map (fun _ => none) (.tup [a, b]) (.tuple #[x, y]) := by
    intro imm map a b x y ha hb
    refine .tup _ _ rfl fun i u z hu hz => ?_
    match i with
    | 0 => cases hu; cases hz; exact ha
    | 1 => cases hu; cases hz; exact hb
    | i + 2 => simp at hu
  unfold qAtoi at hr
  split at hr
  · rename_i s
    split at hr
    · rename_i hl
      have hsz := size_arr s
      split at hr
      · rename_i v hv
        cases hr
        refine ⟨rfl, fun imm map w xs hB hs hi ha => ?_⟩
        obtain ⟨x, rfl, hx⟩ := rvs_one ha
        rw [rv_str hx]
        refine (hok ⟨s.toArray⟩ (by omega) v (by simpa using hv) w).mono fun e w' h => ?_
        obtain ⟨rfl, h⟩ := h
        refine ⟨_, rfl, ?_, two (.int _ _) .nili⟩
        rcases h with rfl | ⟨t, rfl⟩
        · exact .refl _ _
        · exact bytesWorld_below _ _ _
      · rename_i hv
        cases hr
        refine ⟨rfl, fun imm map w xs hB hs hi ha => ?_⟩
        obtain ⟨x, rfl, hx⟩ := rvs_one ha
        rw [rv_str hx]
        refine (hra ⟨s.toArray⟩ (by omega) (by simpa using hv) v2 w (by rw [hB.cell hg2]; exact h2) k2).mono fun e w' h => ?_
        obtain ⟨N, rfl, h⟩ := h
        refine ⟨_, rfl, h, two ?_ (.iface _ _ _ (.undef _))⟩
        rw [List.toList_toArray]
        exact .int _ _
      · rename_i h1' h2'
        cases hr
        have hv : Lib.atoiAll s = Lib.atoiAll [] := by
          cases hq : Lib.atoiAll s with
          | ok v => exact absurd hq (h1' v)
          | range => exact absurd hq h2'
          | _ => rfl
        refine ⟨rfl, fun imm map w xs hB hs hi ha => ?_⟩
        obtain ⟨x, rfl, hx⟩ := rvs_one ha
        rw [rv_str hx]
        refine (hsy ⟨s.toArray⟩ (by omega) (by simpa using hv) v1 w (by rw [hB.cell hg1]; exact h1) k1).mono fun e w' h => ?_
        obtain ⟨N, rfl, h⟩ := h
        exact ⟨_, rfl, h, two (.int _ _) (.iface _ _ _ (.undef _))⟩
    · cases hr
  · cases hr

theorem prim_TrimPrefix (hent : Enters P f)
    (hC : ∀ (s p : ByteArray) (w : World), Calls P f #[.string s, .string p] w fun e w' => e = .returned (.string ⟨(Lib.trimPrefix s.data.toList p.data.toList).toArray⟩) ∧ w' = w) : PrimAt P base w0 f qTrimPrefix := by
  refine ⟨hent, fun args r hr => ?_⟩
  unfold qTrimPrefix at hr
  split at hr
  · rename_i s p
    cases hr
    refine ⟨rfl, fun imm map w xs hB hs hi ha => ?_⟩
    obtain ⟨x, y, rfl, hx, hy⟩ := rvs_two ha
    rw [rv_str hx, rv_str hy]
    refine (hC _ _ w).mono fun e w' h => ?_
    obtain ⟨rfl, rfl⟩ := h
    exact ⟨_, rfl, .refl _ _, .str _⟩
  · cases hr

theorem prim_Contains (hent : Enters P f) {g : Nat} {m : Int} (hg : g < base) (hm : w0.cell? ⟨g, 0, none⟩ = some (.int .i64 m))
    (hC : ∀ (s sub : ByteArray) (m : Int) (w : World) (_ : s.size < 4294967281) (_ : w.cell? ⟨g, 0, none⟩ = some (.int .i64 m)),
      Calls P f #[.string s, .string sub] w fun e w' => e = .returned (.bool (Lib.contains s.data.toList sub.data.toList)) ∧ w' = w) : PrimAt P base w0 f qContains := by
  refine ⟨hent, fun args r hr => ?_⟩
  unfold qContains at hr
  split at hr
  · rename_i s p
    split at hr
    · rename_i hl
      cases hr
      refine ⟨rfl, fun imm map w xs hB hs hi ha => ?_⟩
      obtain ⟨x, y, rfl, hx, hy⟩ := rvs_two ha
      rw [rv_str hx, rv_str hy]
      refine (hC _ _ m w (by rw [size_arr]; exact hl) (by rw [hB.cell hg]; exact hm)).mono fun e w' h => ?_
      obtain ⟨rfl, rfl⟩ := h
      exact ⟨_, rfl, .refl _ _, .bool _⟩
    · cases hr
  · cases hr

theorem prim_Split {e9 : TypeId} (hent : Enters P f) {g : Nat} {m : Int} (hg : g < base) (hm : w0.cell? ⟨g, 0, none⟩ = some (.int .i64 m))
    (hC : ∀ (s sep : ByteArray) (m : Int) (w : World) (_ : s.size < 4294967281) (_ : w.cell? ⟨g, 0, none⟩ = some (.int .i64 m)) (_ : 1 ≤ sep.size),
      Calls P f #[.string s, .string sep] w fun e w' =>
        e = .returned (.slice (some ⟨w.heap.size, 0, none⟩) (Lib.countB s sep + 1) (Lib.countB s sep + 1)) ∧ w' = w.alloc (.cells ((Lib.splitB sep 0 (Lib.countB s sep) s).map Value.string).toArray e9)) : PrimAt P base w0 f qSplit := by
  refine ⟨hent, fun args r hr => ?_⟩
  unfold qSplit at hr
  split at hr
  · rename_i s p
    split at hr
    · rename_i hl
      cases hr
      have hp : AV.pure (.slc 1 ((Lib.splitK p 0 (Lib.countB ⟨s.toArray⟩ ⟨p.toArray⟩) s).map AV.str) .exact) = true := rfl
      refine ⟨hp, fun imm map w xs hB hs hi ha => ?_⟩
      obtain ⟨x, y, rfl, hx, hy⟩ := rvs_two ha
      rw [rv_str hx, rv_str hy]
      refine (hC _ _ m w (by rw [size_arr]; exact hl.1) (by rw [hB.cell hg]; exact hm) (by rw [size_arr]; exact hl.2)).mono fun e w' h => ?_
      obtain ⟨rfl, rfl⟩ := h
      refine ⟨_, rfl, (Below.refl _ _).alloc (Nat.le_refl _) _, ?_⟩
      have hsp := Lib.splitB_data ⟨p.toArray⟩ 0 (Lib.countB ⟨s.toArray⟩ ⟨p.toArray⟩) ⟨s.toArray⟩
      have hlen := Lib.splitB_all ⟨p.toArray⟩ (by rw [size_arr]; exact hl.2) 0 _ ⟨s.toArray⟩ rfl
      simp only at hsp
      have hk : (Lib.splitK p 0 (Lib.countB ⟨s.toArray⟩ ⟨p.toArray⟩) s).length = Lib.countB ⟨s.toArray⟩ ⟨p.toArray⟩ + 1 := by
        rw [← hsp, List.length_map, hlen]
      have hat : ∀ (i : Nat) (u : List UInt8), (Lib.splitK p 0 (Lib.countB ⟨s.toArray⟩ ⟨p.toArray⟩) s)[i]? = some u → ((Lib.splitB ⟨p.toArray⟩ 0 (Lib.countB ⟨s.toArray⟩ ⟨p.toArray⟩) ⟨s.toArray⟩).map Value.string)[i]? = some (.string ⟨u.toArray⟩) := by
        intro i u hu
        rw [← hsp, List.getElem?_map, Option.map_eq_some_iff] at hu
        obtain ⟨b, hb, rfl⟩ := hu
        rw [List.getElem?_map, hb]
        simp
      have key := RV.slc (imm := fun a => if a.block < w.heap.size then imm a else (w.alloc (.cells ((Lib.splitB ⟨p.toArray⟩ 0 (Lib.countB ⟨s.toArray⟩ ⟨p.toArray⟩) ⟨s.toArray⟩).map Value.string).toArray e9)).cell? a) (map := map) (blk := fun _ => none)
        1 ((Lib.splitK p 0 (Lib.countB ⟨s.toArray⟩ ⟨p.toArray⟩) s).map AV.str) .exact w.heap.size 0 (Lib.countB ⟨s.toArray⟩ ⟨p.toArray⟩ + 1)
        (fun i _ => .string ⟨((Lib.splitK p 0 (Lib.countB ⟨s.toArray⟩ ⟨p.toArray⟩) s).getD i []).toArray⟩) (by simp) (by rw [List.length_map, hk]; exact Nat.le_refl _) (fun _ => by rw [List.length_map, hk])
        (fun v hv => by
          obtain ⟨u, _, rfl⟩ := List.mem_map.1 hv
          rfl)
        (fun i j hi hj => by
          have hj0 : j = 0 := by omega
          subst hj0
          rw [List.length_map] at hi
          obtain ⟨u, hu⟩ : ∃ u, (Lib.splitK p 0 (Lib.countB ⟨s.toArray⟩ ⟨p.toArray⟩) s)[i]? = some u := ⟨_, List.getElem?_eq_getElem hi⟩
          dsimp only
          rw [if_neg (by show ¬ w.heap.size < w.heap.size; omega)]
          have := hat i u hu
          rw [show 0 + (i * 1 + 0) = i by omega, World.cell?_alloc_new, List.getElem?_toArray, this, List.getD_eq_getElem?_getD, hu]
          rfl)
        (fun i v j u hv hu => by
          rw [List.getElem?_map, Option.map_eq_some_iff] at hv
          obtain ⟨t, ht, rfl⟩ := hv
          have hu' : [AV.str t][j]? = some u := hu
          match j with
          | 0 =>
            cases hu'
            rw [List.getD_eq_getElem?_getD, ht]
            exact .str _
          | j + 1 => simp at hu')
      rw [List.length_map, hk] at key
      exact key
    · cases hr
  · cases hr

theorem strsOf_map : ∀ {l : List AV} {xs : List (List UInt8)}, strsOf l = some xs → l = xs.map AV.str
  | [], xs, h => by cases h; rfl
  | v :: l, xs, h => by
    unfold strsOf at h
    split at h
    · rename_i h1; cases h1
    · rename_i s r h1
      cases h1
      rw [Option.map_eq_some_iff] at h
      obtain ⟨y, h2, rfl⟩ := h
      rw [strsOf_map h2]
      rfl
    · cases h

theorem prim_Join (hent : Enters P f)
    (h0 : ∀ (a : Option Addr) (c : Nat) (sep : ByteArray) (w : World), Calls P f #[.slice a 0 c, .string sep] w fun e w' => e = .returned (.string ⟨#[]⟩) ∧ w' = w)
    (hC : ∀ (bk o c : Nat) (xs : List ByteArray) (sep : ByteArray) (w : World) (_ : ∀ (j : Nat) x, xs[j]? = some x → w.cell? ⟨bk, o + j, none⟩ = some (.string x)) (_ : bk < w.heap.size) (_ : xs.length ≤ 140737488355328) (_ : xs.length ≤ c)
      (_ : (Lib.join (xs.map (·.data.toList)) sep.data.toList).length ≤ 140737488355328),
      Calls P f #[.slice (some ⟨bk, o, none⟩) xs.length c, .string sep] w fun e w' => e = .returned (.string ⟨(Lib.join (xs.map (·.data.toList)) sep.data.toList).toArray⟩) ∧ Below w.heap.size w w') : PrimAt P base w0 f qJoin := by
  refine ⟨hent, fun args r hr => ?_⟩
  unfold qJoin at hr
  split at hr
  · cases hr
    refine ⟨rfl, fun imm map w xs hB hs hi ha => ?_⟩
    obtain ⟨x, y, rfl, hx, hy⟩ := rvs_two ha
    rw [rv_str hy]
    cases hx
    refine (h0 _ _ _ w).mono fun e w' h => ?_
    obtain ⟨rfl, rfl⟩ := h
    exact ⟨_, rfl, .refl _ _, .str []⟩
  · rename_i l c sep
    rw [Option.bind_eq_some_iff] at hr
    obtain ⟨ts, hts, hr⟩ := hr
    split at hr
    · rename_i hl
      cases hr
      refine ⟨rfl, fun imm map w xs hB hs hi ha => ?_⟩
      obtain ⟨x, y, rfl, hx, hy⟩ := rvs_two ha
      rw [rv_str hy]
      have hm := strsOf_map hts
      subst hm
      have hid : (ts.map fun t => ByteArray.mk t.toArray).map (·.data.toList) = ts := by
        rw [List.map_map]
        conv => rhs; rw [← List.map_id ts]
        exact List.map_congr_left fun t _ => by simp
      cases hx with
      | slc _ _ _ b off cap vs hc hle hx hp h1 h =>
        rw [List.length_map] at hle
        have hcell : ∀ (j : Nat) (u : ByteArray), (ts.map fun t => ByteArray.mk t.toArray)[j]? = some u → w.cell? ⟨b, off + j, none⟩ = some (.string u) := by
          intro j u hu
          rw [List.getElem?_map, Option.map_eq_some_iff] at hu
          obtain ⟨t, ht, rfl⟩ := hu
          have hj : j < ts.length := (List.getElem?_eq_some_iff.1 ht).1
          have e1 := hi _ _ (h1 j 0 (by simpa using hj) (by omega))
          have e2 := h j (.str t) 0 (.str t) (by rw [List.getElem?_map, ht]; rfl) rfl
          rw [rv_str e2] at e1
          rw [← e1]
          congr 2
          omega
        rw [List.length_map]
        by_cases hnil : ts = []
        · subst hnil
          refine (h0 _ _ _ w).mono fun e w' h => ?_
          obtain ⟨rfl, rfl⟩ := h
          exact ⟨_, rfl, .refl _ _, .str []⟩
        · have hbk : b < w.heap.size := by
            obtain ⟨t, ht⟩ := List.exists_mem_of_ne_nil _ hnil
            obtain ⟨j, hj, hjt⟩ := List.getElem_of_mem ht
            have := hcell j ⟨t.toArray⟩ (by rw [List.getElem?_map, List.getElem?_eq_getElem hj, hjt]; rfl)
            unfold World.cell? at this
            cases hh : w.heap[b]? with
            | none => rw [hh] at this; cases this
            | some o => exact (Array.getElem?_eq_some_iff.1 hh).1
          have hcall := hC b off cap (ts.map fun t => ByteArray.mk t.toArray) ⟨sep.toArray⟩ w hcell hbk (by rw [List.length_map]; exact hl.1) (by rw [List.length_map]; exact hle)
            (by rw [hid, List.toList_toArray]; exact hl.2)
          rw [hid, List.toList_toArray, List.length_map] at hcall
          refine hcall.mono fun e w' h => ?_
          obtain ⟨rfl, h⟩ := h
          exact ⟨_, rfl, h, .str _⟩
    · cases hr
  · cases hr

end
end Go.VA
