/-
  The contracts of strings.Lines and slices.Chunk: what they yield, round by round.
-/
import Derived.Test.YtnhagbllecpkkaaGreatDoorV5
import Derived.Test.YtnhagbllecpkkaaGreatDoorShelf
import Derived.RangeFuncBox
import Derived.RangeFuncLeaves
import Derived.Shelf.Abstract
import Derived.WalkKit
import Derived.OwnWalkIn
import Derived.TacticsInMore
import Derived.LoopNIn
import Derived.LoopIn
import Derived.BigRegionIn
import Derived.RegionIn
set_option linter.unusedSimpArgs false
set_option linter.unusedVariables false

namespace Go.Proofs.YtnhagbllecpkkaaGreatDoor
open Go Go.VA Go.RowKit

theorem linesOf_acc : ∀ (s acc : List UInt8), 10 ∉ s → linesOf acc s = if acc ++ s = [] then [] else [acc ++ s]
  | [], acc, _ => by simp [linesOf]
  | b :: s, acc, h => by
    simp only [List.mem_cons, not_or] at h
    rw [linesOf, if_neg (fun e => h.1 e.symm), linesOf_acc s _ h.2]
    simp

theorem linesOf_cut : ∀ (a acc b : List UInt8), 10 ∉ a → linesOf acc (a ++ 10 :: b) = (acc ++ a ++ [10]) :: linesOf [] b
  | [], acc, b, _ => by simp [linesOf]
  | x :: a, acc, b, h => by
    simp only [List.mem_cons, not_or] at h
    rw [List.cons_append, linesOf, if_neg (fun e => h.1 e.symm), linesOf_cut a _ b h.2]
    simp

theorem indexByte_spec : ∀ (s : List UInt8), (10 ∉ s ∧ Lib.indexByte s 10 = -1) ∨ ∃ a b, s = a ++ 10 :: b ∧ 10 ∉ a ∧ Lib.indexByte s 10 = a.length
  | [] => .inl ⟨by simp, rfl⟩
  | x :: s => by
    by_cases h : x = 10
    · subst h
      exact .inr ⟨[], s, rfl, by simp, by simp [Lib.indexByte]⟩
    · rcases indexByte_spec s with ⟨h1, h2⟩ | ⟨a, b, rfl, h1, h2⟩
      · refine .inl ⟨by simp [h1]; exact fun e => h e.symm, ?_⟩
        simp [Lib.indexByte, h, h2]
      · refine .inr ⟨x :: a, b, rfl, by simp [h1]; exact fun e => h e.symm, ?_⟩
        simp [Lib.indexByte, h, h2]

theorem chg_set {r : Nat} {X : World} {v : Value} : Chg (fun b => b = r) X (X.setCell ⟨r, 0, none⟩ v) :=
  ⟨rfl, rfl, rfl, (KeepsWalks.setCell X _ v).size, fun k _ hk => Below.heap_setCell _ _ _ k (fun e => hk (by rw [e])), fun k hk hx => by
    obtain ⟨arr, el, z, hx⟩ := hx
    subst hk
    obtain ⟨hlt, hv⟩ := Array.getElem?_eq_some_iff.1 hx
    show ∃ arr el z, (X.heap.modify k _)[k]? = _
    rw [Array.getElem?_eq_getElem (by rw [Array.size_modify]; exact hlt), Array.getElem_modify_self, hv]
    exact ⟨_, _, _, rfl⟩⟩

theorem chg_drew {pr : Nat → Prop} {X : World} : Chg pr X X.drew := ⟨rfl, rfl, rfl, Nat.le_refl _, fun _ _ _ => rfl, fun _ _ h => h⟩

set_option maxRecDepth 100000 in
set_option maxHeartbeats 2000000 in
/-- The iterator of Lines: the rest of the text lies in a box. -/
theorem lines1 (n : Nat) (hix : ∀ (m : Nat) (s : ByteArray) (w : World), CallsIn Fence.wide m Tryz.prog 62 #[.string s, .int .u8 10] w fun e w' => e = .returned (.int .i64 (Lib.indexByte s.data.toList 10)) ∧ w' = w) (h62 : Fence.wide.fn 62) (hn : 1 ≤ n) (s : List UInt8) (hs : s.length ≤ 281474976710656) (l Bs : Nat) (imm : Addr → Option Value) (J : Nat → World → Prop) (Jx : World → Prop)
    (hJc : ∀ k X Y, J k X → Chg (fun b => b = Bs) X Y → J k Y) (hJx : ∀ X Y, Jx X → Chg (fun b => b = Bs) X Y → Jx Y)
    (hY : ∀ k v X, ((linesOf [] s).map fun t => #[Value.string ⟨t.toArray⟩])[k]? = some v → J k X → YieldAt Fence.wide (n - 1) Tryz.prog l v X fun e Y => (e = .returned (.bool true) ∧ J (k + 1) Y ∧ KpI imm (fun b => b = Bs) X Y) ∨ (e = .returned (.bool false) ∧ Jx Y))
    (W : World) (hB : Boxed W Bs 9 (.string ⟨s.toArray⟩)) (h0 : J 0 W) :
    CallsIn Fence.wide n Tryz.prog 61 #[.func (.yield l) #[] #[], .pointer (some ⟨Bs, 0, none⟩)] W fun e Y => (∃ v, e = .returned v) ∧ (J (linesOf [] s).length Y ∨ Jx Y) := by
  refine callsIn_of_wp Tryz.func61 rfl trivial ?_ rfl
  simp only [Tryz.ntmps61, List.size_toArray, List.length_cons, List.length_nil, Nat.reduceAdd, Nat.reduceSub, Array.replicate_succ, Array.replicate_zero, List.push_toArray, List.append_toArray, List.nil_append, List.cons_append]
  gi_wp2
  gi_loopw [3, 4] (fun _ _ wr => ∃ (k : Nat) (r : List UInt8), linesOf [] r = (linesOf [] s).drop k ∧ k ≤ (linesOf [] s).length ∧ r.length ≤ s.length ∧ Boxed wr Bs 9 (.string ⟨r.toArray⟩) ∧ J k wr)
    (fun _ _ wr => match wr.cell? ⟨Bs, 0, none⟩ with | some (.string b) => b.size | _ => 0)
  case atStart => exact ⟨0, s, rfl, Nat.zero_le _, Nat.le_refl _, hB, h0⟩
  case round =>
    obtain ⟨k, r, hr, hk, hrl, hBx, hJs⟩ := hrel
    have hcell := hBx.cell
    by_cases hne : r = []
    · subst hne
      have hk2 : k = (linesOf [] s).length := by
        have : ((linesOf [] s).drop k).length = 0 := by rw [← hr]; rfl
        simp at this
        omega
      gi_wp2
      go_end0
      exact ⟨⟨_, rfl⟩, .inl (by rw [← hk2]; exact hJs)⟩
    · have hpos : 0 < r.length := by
        cases r with
        | nil => exact absurd rfl hne
        | cons x r => simp
      have hcase : (10 ∉ r ∧ Lib.indexByte r 10 = -1) ∨ ∃ i : Nat, Lib.indexByte r 10 = i ∧ i + 1 ≤ r.length ∧ linesOf [] r = r.take (i + 1) :: linesOf [] (r.drop (i + 1)) := by
        rcases indexByte_spec r with h | ⟨a, b, e, h10, hix1⟩
        · exact .inl h
        · refine .inr ⟨a.length, hix1, by rw [e]; simp, ?_⟩
          rw [e]
          have := linesOf_cut a [] b h10
          simpa [List.take_append, List.drop_append, List.take_of_length_le (Nat.le_succ a.length), List.drop_eq_nil_of_le (Nat.le_succ a.length)] using this
      rcases hcase with ⟨h10, hix1⟩ | ⟨i, hix1, hi1, hl1⟩
      · -- the last line, without a line feed
        have hl1 : linesOf [] r = [r] := by
          have := linesOf_acc r [] h10
          simpa [hne] using this
        have hat : ((linesOf [] s).map fun t => #[Value.string ⟨t.toArray⟩])[k]? = some #[.string ⟨r.toArray⟩] := by
          rw [hl1] at hr
          have : ((linesOf [] s).drop k)[0]? = some r := by rw [← hr]; rfl
          rw [List.getElem?_drop] at this
          rw [List.getElem?_map, show k = k + 0 by omega, this]
          rfl
        obtain ⟨fn, tmps, assign, body, hy, hR⟩ := hY k _ (wr.setCell ⟨Bs, 0, none⟩ (.string ⟨#[]⟩)) hat (hJc k wr _ hJs chg_set)
        have hbx2 : Boxed (wr.setCell ⟨Bs, 0, none⟩ (.string ⟨#[]⟩)) Bs 9 (.string ⟨#[]⟩) := hBx.set _
        have hfz := hBx.frozen
        have hk2 : k + 1 = (linesOf [] s).length := by
          rw [hl1] at hr
          have : ((linesOf [] s).drop k).length = 1 := by rw [← hr]; rfl
          simp at this
          omega
        gi_wp2_with (gi_at_call 62; refine (hix _ _ _).mono ?_; rintro e w' ⟨rfl, rfl⟩)
        refine hR.mono ?_
        rintro e W3 (⟨rfl, hJ3, hk3⟩ | ⟨rfl, hJx3⟩)
        · have hbx3 : Boxed W3 Bs 9 (.string ⟨#[]⟩) := (hk3.own Bs rfl).trans hbx2
          gi_wp2
          go_roundw
          case rel => exact ⟨k + 1, [], by rw [hk2, List.drop_length]; rfl, by omega, by simp, hbx3, hJ3⟩
          case measure =>
            rw [hbx3.cell, hcell]
            exact hpos
        · gi_wp2
          refine bodyPost_ret (results_none rfl _ _ _) rfl ?_
          exact ⟨⟨_, rfl⟩, .inr hJx3⟩
      · -- a line with its line feed
        have hat : ((linesOf [] s).map fun t => #[Value.string ⟨t.toArray⟩])[k]? = some #[.string ⟨(r.take (i + 1)).toArray⟩] := by
          rw [hl1] at hr
          have : ((linesOf [] s).drop k)[0]? = some (r.take (i + 1)) := by rw [← hr]; rfl
          rw [List.getElem?_drop] at this
          rw [List.getElem?_map, show k = k + 0 by omega, this]
          rfl
        have hsl : (ByteArray.mk r.toArray).extract 0 (i + 1) = ⟨(r.take (i + 1)).toArray⟩ := by
          apply ByteArray.ext
          simp [List.extract_eq_take_drop]
        have hsr : (ByteArray.mk r.toArray).extract (i + 1) r.length = ⟨(r.drop (i + 1)).toArray⟩ := by
          apply ByteArray.ext
          simp [List.extract_eq_take_drop]
          rw [List.take_of_length_le (by simp)]
        have hw : IntKind.i64.wrap ((i : Int) + 1) = ((i + 1 : Nat) : Int) := by rw [IntWalk.i64_in _ (by omega)]; omega
        have hw2 : ((i : Int) + 1 + 9223372036854775808) % 18446744073709551616 - 9223372036854775808 = ((i + 1 : Nat) : Int) := by omega
        have hi2 : ((i + 1 : Nat) : Int) ≤ (r.length : Int) := by omega
        have hi3 : (i : Int) + 1 ≤ (r.length : Int) := by omega
        obtain ⟨fn, tmps, assign, body, hy, hR⟩ := hY k _ (wr.setCell ⟨Bs, 0, none⟩ (.string ⟨(r.drop (i + 1)).toArray⟩)).drew hat (hJc k wr _ hJs (chg_set.trans chg_drew))
        have hbx2 : Boxed (wr.setCell ⟨Bs, 0, none⟩ (.string ⟨(r.drop (i + 1)).toArray⟩)).drew Bs 9 (.string ⟨(r.drop (i + 1)).toArray⟩) := hBx.set _
        have hfz := hBx.frozen
        have hk3 : linesOf [] (r.drop (i + 1)) = (linesOf [] s).drop (k + 1) ∧ k + 1 ≤ (linesOf [] s).length := by
          rw [hl1] at hr
          refine ⟨?_, ?_⟩
          · have := congrArg List.tail hr
            simpa [List.tail_drop] using this
          · have : ((linesOf [] s).drop k).length ≠ 0 := by rw [← hr]; simp
            simp at this
            omega
        have hdl : (r.drop (i + 1)).length < r.length := by simp; omega
        gi_wp2_with (gi_at_call 62; refine (hix _ _ _).mono ?_; rintro e w' ⟨rfl, rfl⟩)
        gi_region
        gi_wp2
        refine hR.mono ?_
        rintro e W3 (⟨rfl, hJ3, hk3'⟩ | ⟨rfl, hJx3⟩)
        · have hbx3 : Boxed W3 Bs 9 (.string ⟨(r.drop (i + 1)).toArray⟩) := (hk3'.own Bs rfl).trans hbx2
          gi_wp2
          go_roundw
          case rel => exact ⟨k + 1, r.drop (i + 1), hk3.1, hk3.2, by omega, hbx3, hJ3⟩
          case measure =>
            rw [hbx3.cell, hcell]
            simpa [ByteArray.size] using hdl
        · gi_wp2
          refine bodyPost_ret (results_none rfl _ _ _) rfl ?_
          exact ⟨⟨_, rfl⟩, .inr hJx3⟩

/-- Lines: the text goes into a box; the function value captures it. -/
theorem lines0 (s : ByteArray) (w : World) : Calls Tryz.prog 31 #[.string s] w fun e w' => e = .returned (.func (.func 61) #[] #[.pointer (some ⟨w.heap.size, 0, none⟩)]) ∧ w' = w.alloc (.cells #[.string s] 9) := by
  go_enter Tryz.func31, Tryz.ntmps31
  go_wp2
  go_ret
  exact ⟨rfl, rfl⟩

theorem enters61 : VA.Enters Tryz.prog 61 := ⟨_, Tryz.func61, by kernel_rfl, by kernel_rfl⟩

/-- The contract of Lines. -/
theorem iter_Lines {base : Nat} {w0 : World} (args : List AV) (xs : List (List AV)) (hq : qLines args = some xs) : VA.Enters Tryz.prog 31 ∧ ∀ (imm : Addr → Option Value) (map : Nat → Option Obj) (w : World) (vs : Array Value), Below base w0 w → base ≤ w.heap.size →
    (∀ a v, imm a = some v → w.cell? a = some v) → RVs imm map (fun _ => none) args vs.toList →
    Calls Tryz.prog 31 vs w fun e w' => ∃ gf lb imm' pr vals, e = .returned (.func (.func gf) #[] lb) ∧ VA.Enters Tryz.prog gf ∧ Below w.heap.size w w' ∧
      (∀ a v, imm a = some v → imm' a = some v) ∧ (∀ a v, imm' a = some v → w'.cell? a = some v) ∧ (∀ a v, imm' a = some v → imm a = some v ∨ w.heap.size ≤ a.block) ∧
      (∀ r, pr r → w.heap.size ≤ r ∧ (∃ arr el z, w'.heap[r]? = some (.cells arr el z)) ∧ ∀ o s, imm' ⟨r, o, s⟩ = none) ∧
      vals.length = xs.length ∧ (∀ (i : Nat) x v, xs[i]? = some x → vals[i]? = some v → RVs imm' map (fun _ => none) x v.toList) ∧ Iter Tryz.prog gf lb vals imm' pr w' := by
  unfold qLines at hq
  split at hq
  · rename_i s
    split at hq
    · rename_i hs
      cases hq
      refine ⟨⟨_, Tryz.func31, by kernel_rfl, by kernel_rfl⟩, fun imm map w vs hB hsz hi ha => ?_⟩
      obtain ⟨x, rfl, hx⟩ := rvs_one ha
      rw [rv_str hx]
      refine (lines0 _ w).mono fun e w' h => ?_
      obtain ⟨rfl, rfl⟩ := h
      have hbx : Boxed (w.alloc (.cells #[.string ⟨s.toArray⟩] 9)) w.heap.size 9 (.string ⟨s.toArray⟩) := Boxed.new w 9 _
      have hblk : ∀ a v, imm a = some v → a.block < w.heap.size := fun a v h => World.block_lt_of_cell? w _ (hi a v h)
      refine ⟨_, _, imm, fun b => b = w.heap.size, (linesOf [] s).map fun t => #[Value.string ⟨t.toArray⟩], rfl, enters61, (Below.refl _ _).alloc (Nat.le_refl _) _, fun a v h => h, fun a v h => ?_, fun a v h => .inl h, ?_, by simp, ?_, ?_⟩
      · rw [← hi a v h]
        exact World.cell?_of_block (Below.heap_alloc w _ _ (hblk a v h))
      · rintro r rfl
        refine ⟨Nat.le_refl _, ⟨_, _, _, hbx⟩, fun o sp => ?_⟩
        cases h : imm ⟨w.heap.size, o, sp⟩ with
        | none => rfl
        | some v => have := hblk _ v h; simp at this
      · intro i x v hx hv
        rw [List.getElem?_map, Option.map_eq_some_iff] at hx hv
        obtain ⟨t, ht, rfl⟩ := hx
        obtain ⟨t', ht', rfl⟩ := hv
        rw [ht] at ht'
        cases ht'
        refine ⟨rfl, fun i u y hu hy => ?_⟩
        match i with
        | 0 => cases hu; cases hy; exact .str _
        | i + 1 => simp at hu
      · intro l J Jx W hBW hJc hJx hY h0
        have hbW : Boxed W w.heap.size 9 (.string ⟨s.toArray⟩) := (hBW.block _ hbx.lt).trans hbx
        have := lines1 1 (fun m s w => callsIn_wide.2 (Tryz.strings_IndexByte s 10 w)) trivial (Nat.le_refl _) s hs l w.heap.size imm J Jx hJc hJx (fun k v X hv hJ => hY k v X hv hJ 0) W hbW h0
        have := callsIn_wide.1 this
        simpa using this
    · cases hq
  · cases hq

set_option maxRecDepth 100000 in
set_option maxHeartbeats 2000000 in
/-- The iterator of Chunk. -/
theorem chunk1 (N : Nat) (hN : 1 ≤ N) (hN2 : N ≤ 4294967296) (len : Nat) (hlen : len ≤ 4294967296) (cap b off l B1 B2 M : Nat) (hcap : len ≤ cap) (hM : ∀ k, k < M ↔ k * N < len) (imm : Addr → Option Value) (J : Nat → World → Prop) (Jx : World → Prop)
    (hJc : ∀ k X, J k X → J k X.drew) (hi1 : imm ⟨B1, 0, none⟩ = some (.slice (some ⟨b, off, none⟩) len cap)) (hi2 : imm ⟨B2, 0, none⟩ = some (.int .i64 N))
    (hY : ∀ k X, k < M → J k X → YieldAt Fence.wide 0 Tryz.prog l #[.slice (some ⟨b, off + k * N, none⟩) (min N (len - k * N)) (min N (len - k * N))] X fun e Y => (e = .returned (.bool true) ∧ J (k + 1) Y ∧ KpI imm (fun _ => False) X Y) ∨ (e = .returned (.bool false) ∧ Jx Y))
    (W : World) (h1 : W.cell? ⟨B1, 0, none⟩ = some (.slice (some ⟨b, off, none⟩) len cap)) (h2 : W.cell? ⟨B2, 0, none⟩ = some (.int .i64 N)) (h0 : J 0 W) :
    CallsIn Fence.wide 1 Tryz.prog 213 #[.func (.yield l) #[] #[], .pointer (some ⟨B1, 0, none⟩), .pointer (some ⟨B2, 0, none⟩)] W fun e Y => (∃ v, e = .returned v) ∧ (J M Y ∨ Jx Y) := by
  refine callsIn_of_wp Tryz.func213 rfl trivial ?_ rfl
  simp only [Tryz.ntmps213, List.size_toArray, List.length_cons, List.length_nil, Nat.reduceAdd, Nat.reduceSub, Array.replicate_succ, Array.replicate_zero, List.push_toArray, List.append_toArray, List.nil_append, List.cons_append]
  gi_wp2
  gi_loopw [4, 5] (fun i _ wr => ∃ k : Nat, k ≤ M ∧ i = .int .i64 ((k * N : Nat) : Int) ∧ J k wr ∧ wr.cell? ⟨B1, 0, none⟩ = some (.slice (some ⟨b, off, none⟩) len cap) ∧ wr.cell? ⟨B2, 0, none⟩ = some (.int .i64 N))
    (fun i _ _ => len - (intOf i).toNat)
  case atStart => exact ⟨0, Nat.zero_le _, by simp, h0, h1, h2⟩
  case round =>
    obtain ⟨k, hk, rfl, hJs, c1, c2⟩ := hrel
    by_cases hlt : k * N < len
    · have hkM : k < M := (hM k).2 hlt
      obtain ⟨fn, tmps, assign, body, hy, hR⟩ := hY k wr.drew hkM (hJc k wr hJs)
      generalize hq : k * N = q at *
      have hq2 : (k + 1) * N = q + N := by rw [Nat.add_mul, hq, Nat.one_mul]
      have hmi : min (N : Int) ((len - q : Nat) : Int) = ((min N (len - q) : Nat) : Int) := by omega
      have hmin : q + min N (len - q) ≤ len := by omega
      have hepos : 0 < min N (len - q) := by omega
      have hene : ¬ min N (len - q) = 0 := by omega
      gi_wp2
      gi_region
      generalize min N (len - q) = e at *
      clear hmi
      gi_wp2
      refine hR.mono ?_
      rintro ee W3 (⟨rfl, hJ3, hk3⟩ | ⟨rfl, hJx3⟩)
      · have c31 := hk3.cell _ _ hi1 c1
        have c32 := hk3.cell _ _ hi2 c2
        gi_wp2
        go_roundw
        case rel => exact ⟨k + 1, by omega, by rw [hq2]; simp; done, hJ3, c31, c32⟩
        case measure => simp [intOf]; omega
      · gi_wp2
        refine bodyPost_ret (results_none rfl _ _ _) rfl ?_
        exact ⟨⟨_, rfl⟩, .inr hJx3⟩
    · have : k = M := by
        have h3 : ¬ k < M := fun h => hlt ((hM k).1 h)
        omega
      subst this
      gi_wp2
      go_end0
      exact ⟨⟨_, rfl⟩, .inl hJs⟩

theorem chunk0 (a : Option Addr) (n c : Nat) (N : Nat) (hN : 1 ≤ N) (w : World) : Calls Tryz.prog 194 #[.slice a n c, .int .i64 N] w fun e w' => e = .returned (.func (.func 213) #[] #[.pointer (some ⟨w.heap.size, 0, none⟩), .pointer (some ⟨w.heap.size + 1, 0, none⟩)]) ∧
    w' = (w.alloc (.cells #[.slice a n c] 80)).alloc (.cells #[.int .i64 N] 3) := by
  have h1 : ¬ (N : Int) < 1 := by omega
  go_enter Tryz.func194, Tryz.ntmps194
  go_wp2
  go_ret
  exact ⟨rfl, rfl⟩

theorem entersChunk : VA.Enters Tryz.prog 213 := ⟨_, Tryz.func213, by kernel_rfl, by kernel_rfl⟩

/-- The contract of Chunk. -/
theorem iter_Chunk {base : Nat} {w0 : World} (args : List AV) (xs : List (List AV)) (hq : qChunk args = some xs) : VA.Enters Tryz.prog 194 ∧ ∀ (imm : Addr → Option Value) (map : Nat → Option Obj) (w : World) (vs : Array Value), Below base w0 w → base ≤ w.heap.size →
    (∀ a v, imm a = some v → w.cell? a = some v) → RVs imm map (fun _ => none) args vs.toList →
    Calls Tryz.prog 194 vs w fun e w' => ∃ gf lb imm' pr vals, e = .returned (.func (.func gf) #[] lb) ∧ VA.Enters Tryz.prog gf ∧ Below w.heap.size w w' ∧
      (∀ a v, imm a = some v → imm' a = some v) ∧ (∀ a v, imm' a = some v → w'.cell? a = some v) ∧ (∀ a v, imm' a = some v → imm a = some v ∨ w.heap.size ≤ a.block) ∧
      (∀ r, pr r → w.heap.size ≤ r ∧ (∃ arr el z, w'.heap[r]? = some (.cells arr el z)) ∧ ∀ o s, imm' ⟨r, o, s⟩ = none) ∧
      vals.length = xs.length ∧ (∀ (i : Nat) x v, xs[i]? = some x → vals[i]? = some v → RVs imm' map (fun _ => none) x v.toList) ∧ Iter Tryz.prog gf lb vals imm' pr w' := by
  unfold qChunk at hq
  split at hq
  · rename_i l c N
    split at hq
    · rename_i hc
      cases hq
      obtain ⟨hc1, hN1, hN2, hl, hok⟩ := hc
      obtain ⟨n, rfl⟩ : ∃ n : Nat, N = n := ⟨N.toNat, by omega⟩
      have hn1 : 1 ≤ n := by omega
      have hsp := chunksOf_spec hn1 l.length l (Nat.le_refl _)
      refine ⟨⟨_, Tryz.func194, by kernel_rfl, by kernel_rfl⟩, fun imm map w vs hB hsz hi ha => ?_⟩
      obtain ⟨x, y, rfl, hx, hy⟩ := rvs_two ha
      rw [rv_int hy]
      cases hx with
      | slc _ _ _ b off cap vs hc hle hx hp h1 h =>
      refine (chunk0 (some ⟨b, off, none⟩) l.length cap n hn1 w).mono fun e w' hh => ?_
      obtain ⟨rfl, rfl⟩ := hh
      generalize hw1 : (w.alloc (.cells #[.slice (some ⟨b, off, none⟩) l.length cap] 80)).alloc (.cells #[.int .i64 n] 3) = w1
      have hblk : ∀ a v, imm a = some v → a.block < w.heap.size := fun a v h => World.block_lt_of_cell? w _ (hi a v h)
      have hB1 : Below w.heap.size w w1 := by rw [← hw1]; exact ((Below.refl _ w).alloc (Nat.le_refl _) _).alloc (by simp) _
      have k1 : w1.cell? ⟨w.heap.size, 0, none⟩ = some (.slice (some ⟨b, off, none⟩) l.length cap) := by
        rw [← hw1, World.cell?_of_block (Below.heap_alloc _ _ _ (by simp))]
        exact (Boxed.new w 80 _).cell
      have k2 : w1.cell? ⟨w.heap.size + 1, 0, none⟩ = some (.int .i64 n) := by
        rw [← hw1]
        have := (Boxed.new (w.alloc (.cells #[.slice (some ⟨b, off, none⟩) l.length cap] 80)) 3 (.int .i64 n)).cell
        rwa [World.size_alloc] at this
      generalize hI : (fun a : Addr => if a.block < w.heap.size then imm a else w1.cell? a) = imm'
      have him : ∀ a v, imm a = some v → imm' a = some v := fun a v h => by
        rw [← hI]
        show (if _ then _ else _) = _
        rw [if_pos (hblk a v h)]
        exact h
      have hin : ∀ a, ¬ a.block < w.heap.size → imm' a = w1.cell? a := fun a h => by
        rw [← hI]
        exact if_neg h
      have hlt : ∀ a v, imm' a = some v → imm a = some v ∨ ¬ a.block < w.heap.size := fun a v h => by
        rw [← hI] at h
        dsimp only at h
        split at h
        · exact .inl h
        · rename_i hh; exact .inr hh
      have hcell : ∀ a v, imm' a = some v → w1.cell? a = some v := fun a v h => by
        rcases hlt a v h with h2 | h2
        · rw [hB1.cell (hblk a v h2)]
          exact hi a v h2
        · rw [← hin a h2]
          exact h
      refine ⟨_, _, imm', fun _ => False, (List.range (chunksOf n l.length l).length).map fun k => #[.slice (some ⟨b, off + k * n, none⟩) (min n (l.length - k * n)) (min n (l.length - k * n))], rfl, entersChunk, hB1,
        him, hcell, fun a v h => (hlt a v h).imp id (fun h => by omega), fun r h => h.elim, by simp, ?_, ?_⟩
      · intro i x v hx hv
        rw [List.getElem?_map, Option.map_eq_some_iff] at hx hv
        obtain ⟨t, ht, rfl⟩ := hx
        obtain ⟨t', ht', rfl⟩ := hv
        have hil : i < (chunksOf n l.length l).length := (List.getElem?_eq_some_iff.1 ht).1
        rw [List.getElem?_range hil] at ht'
        cases ht'
        have hpos := (hsp.1 i).1 hil
        have ht2 := hsp.2 i t ht
        have htl : t.length = min n (l.length - i * n) := by rw [ht2]; simp
        have hget : ∀ (j : Nat) u, t[j]? = some u → l[i * n + j]? = some u := by
          intro j u hu
          rw [ht2, List.getElem?_take] at hu
          split at hu
          · rw [List.getElem?_drop] at hu
            exact hu
          · cases hu
        refine ⟨rfl, fun q u y hu hy => ?_⟩
        match q with
        | 0 =>
          cases hu
          cases hy
          have key := RV.slc (imm := imm') (map := map) (blk := fun _ => none) 1 t .exact b (off + i * n) (min n (l.length - i * n)) (fun p j => vs (i * n + p) j) (by simp) (by omega) (fun _ => htl.symm)
            (fun v hv => by
              obtain ⟨p, hp', rfl⟩ := List.getElem_of_mem hv
              exact hp _ (List.mem_of_getElem? (hget p _ (List.getElem?_eq_getElem hp'))))
            (fun p j hp' hj => by
              have := h1 (i * n + p) j (by omega) hj
              have := him _ _ this
              rw [← this]
              congr 2
              omega)
            (fun p v j u hv hu => h (i * n + p) v j u (hget p v hv) hu |>.mono (fun a v h => him a v h) (fun _ _ h => h) (fun _ _ h => h))
          rw [htl] at key
          exact key
        | q + 1 => simp at hu
      · intro l' J Jx W hBW hJc hJx hY h0
        have hcl : ∀ {a : Addr} {v : Value}, w1.cell? a = some v → W.cell? a = some v := fun {a v} h => by
          rw [← h]
          exact hBW.cell (World.block_lt_of_cell? w1 _ h)
        have := chunk1 n hn1 (by omega) l.length hl cap b off l' w.heap.size (w.heap.size + 1) (chunksOf n l.length l).length hle hsp.1 imm' J Jx
          (fun k X hX => hJc k X _ hX chg_drew) ((hin _ (by simp)).trans k1) ((hin _ (by simp)).trans k2)
          (fun k X hk hX => hY k _ X (by rw [List.getElem?_map, List.getElem?_range hk]; rfl) hX 0) W (hcl k1) (hcl k2) h0
        have := callsIn_wide.1 this
        simpa using this
    · cases hq
  · cases hq

end Go.Proofs.YtnhagbllecpkkaaGreatDoor
