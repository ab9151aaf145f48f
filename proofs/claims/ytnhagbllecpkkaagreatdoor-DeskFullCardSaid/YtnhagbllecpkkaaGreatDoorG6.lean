/-
  What the line of a plan reads as.
-/
import Derived.Test.YtnhagbllecpkkaaGreatDoorG4
import Derived.Test.YtnhagbllecpkkaaGreatDoorG5
set_option linter.unusedSimpArgs false
set_option linter.unusedVariables false

namespace Go.Proofs.YtnhagbllecpkkaaGreatDoor
open Go Go.VA Go.DM
set_option maxRecDepth 20000

def pairsOf : List Int → List Gas
  | a :: b :: r => ⟨a, b⟩ :: pairsOf r
  | _ => []
def triplesOf : List Int → List Leg
  | a :: b :: c :: r => ⟨a, b, c⟩ :: triplesOf r
  | _ => []
theorem chunks_pairs : ∀ (l : List Int) (n : Nat), l.length ≤ n → l.length % 2 = 0 → chunksOf 2 n (l.map fun x => I x) = (pairsOf l).map fun g => [I g.o, I g.h]
  | [], n, _, _ => by cases n <;> simp [chunksOf, pairsOf]
  | [_], _, _, h => by simp at h
  | a :: b :: r, n, hn, h => by
    obtain ⟨k, rfl⟩ : ∃ k, n = k + 1 := ⟨n - 1, by simp at hn; omega⟩
    have := chunks_pairs r k (by simp at hn; omega) (by simp at h; omega)
    simp [chunksOf, pairsOf, this]
theorem chunks_triples : ∀ (l : List Int) (n : Nat), l.length ≤ n → l.length % 3 = 0 → chunksOf 3 n (l.map fun x => I x) = (triplesOf l).map fun g => [I g.sec, I g.depth, I g.gas]
  | [], n, _, _ => by cases n <;> simp [chunksOf, triplesOf]
  | [_], _, _, h => by simp at h
  | [_, _], _, _, h => by simp at h
  | a :: b :: c :: r, n, hn, h => by
    obtain ⟨k, rfl⟩ : ∃ k, n = k + 1 := ⟨n - 1, by simp at hn; omega⟩
    have := chunks_triples r k (by simp at hn; omega) (by simp at h; omega)
    simp [chunksOf, triplesOf, this]
theorem pairs_len : ∀ l : List Int, 2 * (pairsOf l).length ≤ l.length
  | [] => by simp [pairsOf]
  | [_] => by simp [pairsOf]
  | _ :: _ :: r => by have := pairs_len r; simp [pairsOf]; omega
theorem triples_len : ∀ l : List Int, 3 * (triplesOf l).length ≤ l.length
  | [] => by simp [triplesOf]
  | [_] => by simp [triplesOf]
  | [_, _] => by simp [triplesOf]
  | _ :: _ :: _ :: r => by have := triples_len r; simp [triplesOf]; omega

def zeroPlan : Plan := ⟨[], 0, [], []⟩
/-- The plan of a line, or its error. -/
def parsePlanLine (s : Str) : Plan × Int :=
  match numsF (cutAt 32 (headOf s).2.1) with
  | none => (zeroPlan, 7)
  | some n => if n.length < 2 then (zeroPlan, 7) else
    let g := n.getD 1 0
    if inR g 0 (((n.length : Int) - 2) / 2) = false ∨ ((n.length : Int) - 2 - 2 * g) % 3 ≠ 0 then (zeroPlan, 7) else
    let p : Plan := ⟨(headOf s).1, n.getD 0 0, pairsOf ((n.drop 2).take (2 * g.toNat)), triplesOf (n.drop (2 + 2 * g.toNat))⟩
    if planErr p ≠ 0 then (zeroPlan, planErr p) else (p, 0)
def planTup (x : Plan × Int) : AV := .tup [x.1.av, I x.2]

def zc4 : List AV := [.str [], I 0, .nils, .nils]
def PF (name : Str) (surf : Int) (gs : List Gas) (ls : List Leg) : Fr := [([9], [.str name, I surf, sv 2 true (gs.map Gas.av) .own, sv 3 true (ls.map Leg.av) .own]), ([2], zc4)]

theorem plan_gases_rounds (E : Env) (m : Mem) (h9 : VA.look E 9 = .ptr ⟨m.length, [9]⟩ 0) (name : Str) (surf : Int) (ls : List Leg) : ∀ (ps gs : List Gas), gs.length + ps.length ≤ 1000000 →
    rounds (den C) [79] g_profile_ParsePlanLine_2 y_profile_ParsePlanLine_2 (tmOf 118 E) (ps.map fun g => [.slc 1 [I g.o, I g.h] .exact]) (PF name surf gs ls :: m) = some (.normal, PF name surf (gs ++ ps) ls :: m)
  | [], gs, _ => by simp [rounds]
  | g :: ps, gs, hl => by
    have ih := plan_gases_rounds E m h9 name surf ls ps (gs ++ [g]) (by simp at hl ⊢; omega)
    have ha : append 2 16 (sv 2 true (gs.map Gas.av) .own) (.slc 2 [.agg [I g.o, I g.h]] .exact) = some (sv 2 true ((gs ++ [g]).map Gas.av) .own) := by
      rw [append_own1 (by simp [room]; simp at hl; omega)]; simp [Gas.av]
    rw [List.map_cons, rounds]
    simp [g_profile_ParsePlanLine_2, y_profile_ParsePlanLine_2, r_profile_ParsePlanLine_2_1, h9, PF, ha] at ih ⊢
    exact ih

theorem plan_legs_rounds (E : Env) (m : Mem) (h9 : VA.look E 9 = .ptr ⟨m.length, [9]⟩ 0) (name : Str) (surf : Int) (gs : List Gas) : ∀ (ps ls : List Leg), ls.length + ps.length ≤ 1000000 →
    rounds (den C) [94] g_profile_ParsePlanLine_1 y_profile_ParsePlanLine_1 (tmOf 118 E) (ps.map fun g => [.slc 1 [I g.sec, I g.depth, I g.gas] .exact]) (PF name surf gs ls :: m) = some (.normal, PF name surf gs (ls ++ ps) :: m)
  | [], ls, _ => by simp [rounds]
  | g :: ps, ls, hl => by
    have ih := plan_legs_rounds E m h9 name surf gs ps (ls ++ [g]) (by simp at hl ⊢; omega)
    have ha : append 3 24 (sv 3 true (ls.map Leg.av) .own) (.slc 3 [.agg [I g.sec, I g.depth, I g.gas]] .exact) = some (sv 3 true ((ls ++ [g]).map Leg.av) .own) := by
      rw [append_own1 (by simp [room]; simp at hl; omega)]; simp [Leg.av]
    rw [List.map_cons, rounds]
    simp [g_profile_ParsePlanLine_1, y_profile_ParsePlanLine_1, r_profile_ParsePlanLine_1_1, h9, PF, ha] at ih ⊢
    exact ih

theorem iter_chunk (n : Nat) (hn : 1 ≤ n) (hn2 : n ≤ 100) (l : List Int) (hl : l.length ≤ 1000000) (c : Cap) (hc : c ≠ .own) : iterOf C 194 [.slc 1 (l.map fun x => I x) c, I n] 1 = some ((chunksOf n l.length (l.map fun x => I x)).map fun x => [.slc 1 x .exact]) := by
  have hq : qChunk [.slc 1 (l.map fun x => I x) c, I n] = some ((chunksOf n l.length (l.map fun x => I x)).map fun x => [.slc 1 x .exact]) := by
    have ha : (l.map fun x => I x).all (AV.okElem 1) = true := by rw [List.all_eq_true]; intro v hv; obtain ⟨x, _, rfl⟩ := List.mem_map.1 hv; rfl
    simp only [qChunk]
    rw [if_pos ⟨hc, by omega, by omega, by simp; omega, ha⟩]
    simp
  have hall : ((chunksOf n l.length (l.map fun x => I x)).map fun x => ([AV.slc 1 x .exact] : List AV)).all (fun x => x.length == 1 && AV.pure.pures x) = true := by
    rw [List.all_eq_true]; intro v hv; obtain ⟨x, _, rfl⟩ := List.mem_map.1 hv; rfl
  have hi : C.iter 194 = some qChunk := rfl
  have hp : AV.pure.pures [.slc 1 (l.map fun x => I x) c, I n] = true := by cases c <;> first | rfl | exact absurd rfl hc
  unfold iterOf
  rw [hi]
  simp only [hp, if_true, hq, Option.bind_some]
  rw [if_pos hall]

/-- x[lo:hi] -/
theorem sliceV_lohi (sz l) (k k' : IntKind) {lo hi : Nat} (h1 : lo ≤ hi) (h2 : hi ≤ l.length) : sliceV (.slc sz) (.slc sz l .unk) (some (.int k lo)) (some (.int k' hi)) none = some (.slc sz ((l.take hi).drop lo) .unk) := by
  show slice _ _ _ _ _ = _
  have : (lo : Int) ≤ hi := by omega
  have : (hi : Int) ≤ l.length := by omega
  simp [*]

theorem headOf_len' (s : Str) : (headOf s).1.length ≤ s.length ∧ (headOf s).2.1.length ≤ s.length := by
  rcases headOf_cases s with ⟨_, h⟩ | ⟨a, b, rfl, _, h⟩
  · rw [h]; simp
  · rw [h]; simp; omega

theorem numsF_length : ∀ (ws : List Str) (n : List Int), numsF ws = some n → n.length = ws.length
  | [], n, h => by simp [numsF] at h; subst h; rfl
  | w :: r, n, h => by
    unfold numsF at h
    split at h
    · cases h
    · rw [Option.map_eq_some_iff] at h
      obtain ⟨n', h', rfl⟩ := h
      simp [numsF_length r n' h']

set_option maxHeartbeats 2000000 in
theorem profile_ParsePlanLine_eq (s : Str) (hs : s.length ≤ 1000) (m : Mem) : callD C n_profile_ParsePlanLine [.str s] m = some (planTup (parsePlanLine s), m) := by
  rw [callD_env (af := a_profile_ParsePlanLine) rfl rfl _ _ (by simp [a_profile_ParsePlanLine])]
  have hc := fun m => strings_Cut_eq s (by omega) m
  unfold parsePlanLine
  obtain ⟨name, rest, b, hh⟩ : ∃ w r b, headOf s = (w, r, b) := ⟨_, _, _, rfl⟩
  have hlen := headOf_len' s
  rw [hh] at hc hlen ⊢
  simp only [headTup] at hc hlen
  have hsp : ∀ m, callD C n_strings_Split [.str rest, .str [32]] m = some (sv 1 false ((cutAt 32 rest).map fun s => AV.str s) .exact, m) := fun m => by
    rw [callD_prim (q := qSplit) rfl]; simp [qSplit, split_cutAt, slc_sv]; omega
  have hwl : (cutAt 32 rest).length ≤ 1001 := by rw [cutAt_length]; have := List.count_le_length (a := 32) (l := rest); omega
  have hn := fun m => profile_numbers_eq (cutAt 32 rest) ⟨false, .exact, rfl⟩ (by omega) (fun w hw => by have := (cutAt_mem 32 rest w hw).1; omega) m
  dsimp only at hn
  have hz : (AV.agg [.str [], I 0, .nils, .nils]) = zeroPlan.av := by simp [zeroPlan, Plan.av, gasesAV, legsAV, sv]
  cases hN : numsF (cutAt 32 rest) with
  | none =>
    rw [hN] at hn
    simp [numsTup] at hn
    simp [a_profile_ParsePlanLine, hc, hsp, hn, planTup, ← hz]
  | some n =>
    rw [hN] at hn
    have hL := numsF_length _ _ hN
    simp [numsTup] at hn
    dsimp only
    by_cases h2 : n.length < 2
    · have h2i : (n.length : Int) < 2 := by omega
      simp [a_profile_ParsePlanLine, hc, hsp, hn, planTup, h2, h2i, ← hz]
    have h2i : ¬ (n.length : Int) < 2 := by omega
    obtain ⟨n0, g, nr, rfl⟩ : ∃ a b r, n = a :: b :: r := by
      match n, h2 with
      | a :: b :: r, _ => exact ⟨a, b, r, rfl⟩
      | [], h => simp at h
      | [_], h => simp at h
    have hq : IntKind.i64.wrap (((nr.length : Int)).tdiv 2) = (nr.length : Int) / 2 := by
      rw [Int.tdiv_eq_ediv_of_nonneg (by omega)]; exact IntWalk.i64_in _ (by simp at hL; omega)
    have hq2 : IntKind.i64.wrap ((nr.length : Int) / 2) = (nr.length : Int) / 2 := IntWalk.i64_in _ (by simp at hL; omega)
    have hw0 : IntKind.i64.wrap ((nr.length : Int) + 1 + 1 - 2) = nr.length := by rw [IntWalk.i64_in _ (by simp at hL; omega)]; omega
    have hwi := fun m => profile_within_eq g 0 ((nr.length : Int) / 2) m
    have h2j : ¬ (nr.length : Int) + 1 + 1 < 2 := by omega
    have h2k : (2 : Int) ≤ (nr.length : Int) + 1 + 1 := by omega
    have hsv : ∀ c, sv 1 true (I n0 :: I g :: nr.map fun x => I x) c = .slc 1 (I n0 :: I g :: nr.map fun x => I x) c := fun c => by simp [sv]
    have hll : ((((n0 :: g :: nr).length : Nat) : Int) - 2) = nr.length := by simp; omega
    rw [hll]
    simp only [List.getD_cons_succ, List.getD_cons_zero, if_neg h2]
    cases hg : inR g 0 ((nr.length : Int) / 2) with
    | false =>
      simp [a_profile_ParsePlanLine, hc, hsp, hn, hsv, planTup, h2, h2j, h2k, hw0, hq, hq2, hwi, hg, ← hz]
    | true =>
      have hgr := inR_true.1 hg
      obtain ⟨gn, rfl⟩ : ∃ k : Nat, g = k := ⟨g.toNat, by omega⟩
      have hl1 : nr.length ≤ 1001 := by simp at hL; omega
      have hwm : IntKind.i64.wrap (2 * (gn : Int)) = 2 * gn := IntWalk.i64_in _ (by omega)
      have hwp : IntKind.i64.wrap (2 + 2 * (gn : Int)) = 2 + 2 * gn := IntWalk.i64_in _ (by omega)
      have hws : IntKind.i64.wrap ((nr.length : Int) - 2 * gn) = nr.length - 2 * gn := IntWalk.i64_in _ (by omega)
      have hrm : ((nr.length : Int) - 2 * gn).tmod 3 = ((nr.length : Int) - 2 * gn) % 3 := Int.tmod_eq_emod_of_nonneg (by omega)
      by_cases h3 : ((nr.length : Int) - 2 * gn) % 3 = 0
      · have hs1 := sliceV_lohi 1 ((n0 :: (gn : Int) :: nr).map fun x => I x) .i64 .i64 (lo := 2) (hi := 2 + 2 * gn) (by omega) (by simp; omega)
        have hs2 : sliceV (.slc 1) (.slc 1 (I n0 :: I gn :: nr.map fun x => I x) .unk) (some (.int .i64 (2 + 2 * (gn : Int)))) none none = some (.slc 1 ((nr.map fun x => I x).drop (2 * gn)) .unk) := by
          have := sliceV_lo 1 false ((n0 :: (gn : Int) :: nr).map fun x => I x) .i64 (h := 2 + 2 * gn) (by simp; omega)
          rw [show ((2 + 2 * gn : Nat) : Int) = 2 + 2 * (gn : Int) by omega, show 2 + 2 * gn = (2 * gn) + 1 + 1 by omega] at this
          simpa [sv] using this
        have hs1' : sliceV (.slc 1) (.slc 1 (I n0 :: I gn :: nr.map fun x => I x) .unk) (some (.int .i64 2)) (some (.int .i64 (2 + 2 * (gn : Int)))) none = some (.slc 1 ((nr.map fun x => I x).take (2 * gn)) .unk) := by
          rw [show ((2 + 2 * gn : Nat) : Int) = 2 + 2 * (gn : Int) by omega, show 2 + 2 * gn = (2 * gn) + 1 + 1 by omega] at hs1
          simpa using hs1
        rw [← List.map_take] at hs1'
        rw [← List.map_drop] at hs2
        have hi1 := iter_chunk 2 (by omega) (by omega) (nr.take (2 * gn)) (by simp; omega) .unk (by simp)
        have hi2 := iter_chunk 3 (by omega) (by omega) (nr.drop (2 * gn)) (by simp; omega) .unk (by simp)
        rw [chunks_pairs _ _ (Nat.le_refl _) (by simp; omega)] at hi1
        rw [chunks_triples _ _ (Nat.le_refl _) (by simp; omega)] at hi2
        have hlp : (pairsOf (nr.take (2 * gn))).length ≤ 600 := by have := pairs_len (nr.take (2 * gn)); simp at this; omega
        have hlq : (triplesOf (nr.drop (2 * gn))).length ≤ 600 := by have := triples_len (nr.drop (2 * gn)); simp at this; omega
        have hd2 : List.drop (2 + 2 * gn) (n0 :: (gn : Int) :: nr) = nr.drop (2 * gn) := by rw [show 2 + 2 * gn = (2 * gn) + 1 + 1 by omega]; rfl
        generalize hps : pairsOf (nr.take (2 * gn)) = ps at *
        generalize hls : triplesOf (nr.drop (2 * gn)) = ls at *
        have hR1 := fun E h9 => plan_gases_rounds E m h9 name n0 [] ps [] (by simp; omega)
        have hR2 := fun E h9 => plan_legs_rounds E m h9 name n0 ps ls [] (by simp; omega)
        have e2 : sv 2 true (([] : List Gas).map Gas.av) .own = .nils := by simp [sv]
        have e3 : sv 3 true (([] : List Leg).map Leg.av) .own = .nils := by simp [sv]
        simp only [PF, e2, e3, List.nil_append, zc4] at hR1 hR2
        have hck := fun m => profile_check_eq ⟨name, n0, ps, ls⟩ (by simp; omega) (by simp; omega) (by simp; omega) m
        simp [Plan.av, gasesAV, legsAV] at hck
        simp [Function.comp_def] at hi1 hi2
        simp [-sliceV_lo, -sliceV_hi, a_profile_ParsePlanLine, hc, hsp, hn, hsv, planTup, h2, h2j, h2k, hw0, hq, hq2, hwi, hg, ← hz, hwm, hwp, hws, hrm, h3, hs1', hs2, den_rangeI, hi1, hi2, map_strip_tmOf, set_tmOf, tmOf_length, hR1, hR2, overI, hck]
        rw [hd2, hps, hls]
        split <;> simp [zeroPlan, Plan.av, gasesAV, legsAV, sv]
      · have h3b : (((nr.length : Int) - 2 * gn) % 3 != 0) = true := by simp [h3]
        simp [a_profile_ParsePlanLine, hc, hsp, hn, hsv, planTup, h2, h2j, h2k, hw0, hq, hq2, hwi, hg, ← hz, hwm, hwp, hws, hrm, h3, h3b]

end Go.Proofs.YtnhagbllecpkkaaGreatDoor
