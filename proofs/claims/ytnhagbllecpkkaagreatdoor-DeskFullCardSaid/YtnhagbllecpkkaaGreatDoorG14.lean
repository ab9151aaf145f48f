/-
  The plans of the example of full logs, and what DeskFull's loop builds of them.
-/
import Derived.Test.YtnhagbllecpkkaaGreatDoorG13
import Derived.Test.YtnhagbllecpkkaaGreatDoorWithin
set_option linter.unusedSimpArgs false
set_option linter.unusedVariables false

namespace Go.Proofs.YtnhagbllecpkkaaGreatDoor
open Go Go.VA Go.DM
set_option maxRecDepth 20000

theorem itoa_mem {v : Int} {x : UInt8} (h : x ∈ Lib.itoa v) : x = 45 ∨ (48 ≤ x.toNat ∧ x.toNat ≤ 57) := by
  by_cases hv : v < 0
  · rw [itoa_neg hv, List.mem_cons] at h
    rcases h with h | h
    · exact .inl h
    · exact .inr ((decDigits_spec _).2.2.1 x h)
  · rw [itoa_nonneg hv] at h
    exact .inr ((decDigits_spec _).2.2.1 x h)
theorem itoa_no32 (v : Int) : (32 : UInt8) ∉ Lib.itoa v := by
  intro h
  rcases itoa_mem h with h | h
  · simp at h
  · simp at h
theorem itoa_no10 (v : Int) : (10 : UInt8) ∉ Lib.itoa v := by
  intro h
  rcases itoa_mem h with h | h
  · simp at h
  · simp at h
theorem dec_len {u k : Nat} (hk : 1 ≤ k) (h : u < 10 ^ k) : (Lib.decDigits u).length ≤ k := by
  induction k generalizing u with
  | zero => omega
  | succ k ih =>
    rw [Lib.decDigits]
    split
    · simp
    · rename_i h10
      by_cases hk0 : k = 0
      · subst hk0; simp at h; omega
      · have := ih (u := u / 10) (by omega) (by rw [Nat.pow_succ] at h; omega)
        simp; omega
theorem lit_itoa {v : Int} (h : v.natAbs < 10 ^ 10) : lit 10 (Lib.itoa v) = some v := by
  rw [lit_iff (by omega)]
  exact ⟨rfl, dec_len (by omega) h⟩

theorem cutAt_sep {a : Str} (b : Str) (h : (32 : UInt8) ∉ a) : cutAt 32 (a ++ 32 :: b) = a :: cutAt 32 b := by
  induction a with
  | nil => simp [cutAt]
  | cons x r ih =>
    simp only [List.mem_cons, not_or] at h
    have h1 : ¬ x = 32 := fun e => h.1 e.symm
    simp [cutAt, h1, ih h.2]
theorem cutAt_last {a : Str} (h : (32 : UInt8) ∉ a) : cutAt 32 a = [a] := by
  induction a with
  | nil => rfl
  | cons x r ih =>
    simp only [List.mem_cons, not_or] at h
    have h1 : ¬ x = 32 := fun e => h.1 e.symm
    simp [cutAt, h1, ih h.2]

theorem lit_10 : lit 10 [49,48,48,48] = some 1000 ∧ lit 10 [49] = some 1 ∧ lit 10 [50,49,48] = some 210 ∧ lit 10 [48] = some 0 := by
  have h1 := lit_itoa (v := 1000) (by decide)
  have h2 := lit_itoa (v := 1) (by decide)
  have h3 := lit_itoa (v := 210) (by decide)
  have h4 := lit_itoa (v := 0) (by decide)
  have e : Lib.itoa 1000 = [49,48,48,48] ∧ Lib.itoa 1 = [49] ∧ Lib.itoa 210 = [50,49,48] ∧ Lib.itoa 0 = [48] := by decide +kernel
  rw [e.1] at h1; rw [e.2.1] at h2; rw [e.2.2.1] at h3; rw [e.2.2.2] at h4
  exact ⟨h1, h2, h3, h4⟩

def tailAt (i : Nat) (n : Int) : Str := 112 :: (Lib.itoa i ++ ([32,49,48,48,48,32,49,32,50,49,48,32,48,32] ++ (Lib.itoa n ++ [32,48,32,48])))
def planAt (i : Nat) (n : Int) : Plan := ⟨112 :: Lib.itoa i, 1000, [⟨210, 0⟩], [⟨n, 0, 0⟩]⟩
def peAt (i : Nat) (n : Int) : PE := ⟨⟨[97,110,110], [112,108,97,110,32] ++ tailAt i n⟩, 0, ⟨[97,110,110], 1⟩, tailAt i n, planAt i n⟩

theorem nameFrom_digits : ∀ (s : Str) (i : Nat), i ≠ 0 → (∀ x, x ∈ s → 48 ≤ x.toNat ∧ x.toNat ≤ 57) → nameFrom i s = true
  | [], _, _, _ => rfl
  | c :: r, i, hi, h => by
    have hc := h c (by simp)
    have := nameFrom_digits r (i + 1) (by omega) fun x hx => h x (by simp [hx])
    simp [nameFrom, this, nameCh, hi, hc.1, hc.2]

theorem planAt_ok (i : Nat) (hi : i < 100) (n : Int) (hn : 1 ≤ n) (hn2 : n ≤ 1000) : planErr (planAt i n) = 0 := by
  have hnm : isNameF (112 :: Lib.itoa i) = true := by
    have hl : (Lib.itoa i).length ≤ 2 := by
      rw [itoa_nonneg (by omega)]; exact dec_len (by omega) (by simp; omega)
    have := nameFrom_digits (Lib.itoa i) 1 (by omega) fun x hx => by
      rw [itoa_nonneg (by omega)] at hx; exact (decDigits_spec _).2.2.1 x hx
    simp [isNameF, nameFrom, this, nameCh, letterN]; omega
  have h1 : inR n 1 1000000 = true := inR_true.2 ⟨by omega, by omega⟩
  have h2 : ¬ (1000000 : Int) < n := by omega
  have h3 : ¬ (1 ≤ n → 1000000 < n) := fun h => h2 (h hn)
  simp [planErr, checkPlan, planAt, hnm, checkGases, checkLegs, checkGas, first2, boundF, inR, h2, h3]
  rw [if_neg (by omega)]

theorem headOf_tail (i : Nat) (n : Int) : headOf (tailAt i n) = (112 :: Lib.itoa i, [49,48,48,48,32,49,32,50,49,48,32,48,32] ++ (Lib.itoa n ++ [32,48,32,48]), true) := by
  have := headOf_cut (a := 112 :: Lib.itoa i) ([49,48,48,48,32,49,32,50,49,48,32,48,32] ++ (Lib.itoa n ++ [32,48,32,48])) (by simp [itoa_no32])
  rw [← this]; simp [tailAt]
theorem cut_tail (n : Int) : cutAt 32 ([49,48,48,48,32,49,32,50,49,48,32,48,32] ++ (Lib.itoa n ++ [32,48,32,48])) = [[49,48,48,48], [49], [50,49,48], [48], Lib.itoa n, [48], [48]] := by
  have h1 := cutAt_sep (a := [49,48,48,48]) ([49,32,50,49,48,32,48,32] ++ (Lib.itoa n ++ [32,48,32,48])) (by decide)
  have h2 := cutAt_sep (a := [49]) ([50,49,48,32,48,32] ++ (Lib.itoa n ++ [32,48,32,48])) (by decide)
  have h3 := cutAt_sep (a := [50,49,48]) ([48,32] ++ (Lib.itoa n ++ [32,48,32,48])) (by decide)
  have h4 := cutAt_sep (a := [48]) (Lib.itoa n ++ [32,48,32,48]) (by decide)
  have h5 := cutAt_sep (a := Lib.itoa n) [48,32,48] (itoa_no32 n)
  have h6 : cutAt 32 [48,32,48] = [[48],[48]] := by decide
  rw [h6] at h5
  exact h1.trans (congrArg _ (h2.trans (congrArg _ (h3.trans (congrArg _ (h4.trans (congrArg _ h5)))))))
theorem parse_tail (i : Nat) (hi : i < 100) (n : Int) (hn : 1 ≤ n) (hn2 : n ≤ 1000) : parsePlanLine (tailAt i n) = (planAt i n, 0) := by
  have h0 := planAt_ok i hi n hn hn2
  obtain ⟨l1, l2, l3, l4⟩ := lit_10
  have l5 := lit_itoa (v := n) (by omega)
  have hnf : numsF (cutAt 32 ([49,48,48,48,32,49,32,50,49,48,32,48,32] ++ (Lib.itoa n ++ [32,48,32,48]))) = some [1000, 1, 210, 0, n, 0, 0] := by
    rw [cut_tail]; simp [numsF, l1, l2, l3, l4, l5]
  unfold parsePlanLine
  rw [headOf_tail]
  dsimp only
  rw [hnf]
  simp [planAt] at h0
  simp [pairsOf, triplesOf, inR, h0, planAt]

theorem deskHead_plan {t tl : Str} (h : headOf t = ([112,108,97,110], tl, true)) (hl : t.length ≤ 400) (h10 : (10 : UInt8) ∉ t) : deskHead 1 t = ([112,108,97,110], tl, 0) := by
  unfold deskHead
  rw [if_neg (by omega), h, if_neg (by simp [h10])]
  simp [refused]
theorem peAt_good (i : Nat) (hi : i < 100) (n : Int) (hn : 1 ≤ n) (hn2 : n ≤ 1000) : (peAt i n).Good desk0 := by
  have hli : (Lib.itoa i).length ≤ 20 := itoa_len (by constructor <;> omega)
  have hln : (Lib.itoa n).length ≤ 20 := itoa_len (by constructor <;> omega)
  have hd : personIdx desk0.people [97,110,110] = 0 := by decide
  refine ⟨hd, rfl, ?_, ?_, ?_, parse_tail i hi n hn hn2⟩
  · simp [peAt, tailAt]; omega
  · simp [peAt, tailAt]; omega
  · exact deskHead_plan (headOf_cut (a := [112,108,97,110]) (tailAt i n) (by decide)) (by show ([112,108,97,110,32] ++ tailAt i n).length ≤ 400; simp [tailAt]; omega) (by show (10 : UInt8) ∉ [112,108,97,110,32] ++ tailAt i n; simp [tailAt, itoa_no10])

def pesFrom (n : Int) : Nat → Nat → List PE
  | _, 0 => []
  | i, k + 1 => peAt i n :: pesFrom n (i + 1) k
theorem pesFrom_len (n : Int) : ∀ k i, (pesFrom n i k).length = k
  | 0, _ => rfl
  | k + 1, i => by simp [pesFrom, pesFrom_len n k]
theorem pesFrom_mem (n : Int) : ∀ k i x, x ∈ pesFrom n i k → ∃ j, i ≤ j ∧ j < i + k ∧ x = peAt j n
  | 0, _, _, h => by simp [pesFrom] at h
  | k + 1, i, x, h => by
    simp [pesFrom] at h
    rcases h with rfl | h
    · exact ⟨i, by omega, by omega, rfl⟩
    · obtain ⟨j, a, b, e⟩ := pesFrom_mem n k (i + 1) x h
      exact ⟨j, by omega, by omega, e⟩
theorem pesFrom_snoc (n : Int) : ∀ k i, pesFrom n i (k + 1) = pesFrom n i k ++ [peAt (i + k) n]
  | 0, i => by simp [pesFrom]
  | k + 1, i => by
    have := pesFrom_snoc n k (i + 1)
    rw [pesFrom, this, pesFrom]
    simp; congr 1; omega
theorem planIdx_none {l : List Plan} {s : Str} (h : ∀ x, x ∈ l → x.name ≠ s) : ¬ 0 ≤ planIdx l s := by
  have := idxFrom_cases (fun p : Plan => p.name == s) l 0
  rcases this with ⟨h1, _⟩ | ⟨j, x, h1, h2, h3, _⟩
  · unfold planIdx idxOf; rw [h1]; omega
  · exact absurd (by simpa using h3) (h x (List.mem_of_getElem? h2))
theorem pesFrom_fresh (n : Int) : ∀ k i ps, (∀ p : Plan, p ∈ ps → ∃ j : Nat, j < i ∧ p.name = 112 :: Lib.itoa j) → Fresh ps (pesFrom n i k)
  | 0, _, _, _ => trivial
  | k + 1, i, ps, h => by
    refine ⟨planIdx_none fun x hx e => ?_, pesFrom_fresh n k (i + 1) _ fun p hp => ?_⟩
    · obtain ⟨j, hj, e2⟩ := h x hx
      rw [e2] at e
      have := itoa_inj (List.cons.inj (by simpa [peAt, planAt] using e : (112 : UInt8) :: Lib.itoa j = 112 :: Lib.itoa i)).2
      omega
    · rw [List.mem_append] at hp
      rcases hp with hp | hp
      · obtain ⟨j, hj, e⟩ := h p hp
        exact ⟨j, by omega, e⟩
      · have : p = planAt i n := by simpa [peAt] using hp
        exact ⟨i, by omega, by rw [this]; rfl⟩

theorem wFull_small (n : Int) : SmallWd (wPlans desk0 (pesFrom n 0 60)) := by
  refine ⟨by simp [wPlans, w0], by simp [wPlans, w0], by simp [wPlans, w0], by simp [wPlans, w0], by simp [wPlans, w0], by simp [wPlans, w0], by simp [wPlans, w0], by simp [wPlans, w0, pesFrom_len], ?_⟩
  intro x hx
  simp only [wPlans, List.mem_map] at hx
  obtain ⟨q, hq, rfl⟩ := hx
  obtain ⟨j, _, _, rfl⟩ := pesFrom_mem _ _ _ _ hq
  simp [peAt, planAt]

theorem law10_DeskFull_loop (n : Int) (hn : 1 ≤ n) (hn2 : n ≤ 1000) (m : Mem) : ∀ (k i : Nat), 60 - i = k → i ≤ 60 →
    atBlock 0 (headL C l_law10_DeskFull_1 82 [(0, I n), (3, sv 2 true (((pesFrom n 0 i).map PE.e).map Entry.av) .own), (4, I i)] [] m) =
      some (.normal, ⟨tmOf 82 [(19, .bool false), (18, I 60), (0, I n), (3, sv 2 true (((pesFrom n 0 60).map PE.e).map Entry.av) .own), (4, I 60)], [] :: m⟩) := by
  intro k
  induction k with
  | zero =>
    intro i hk hi
    have : i = 60 := by omega
    subst this
    rw [ls_law10_DeskFull_1]
    simp [b_law10_DeskFull_1]
  | succ k ihk =>
    intro i hk hi
    have ih := ihk (i + 1) (by omega) (by omega)
    have hlt : (i : Int) < 60 := by omega
    have hw : IntKind.i64.wrap ((i : Int) + 1) = (i : Int) + 1 := IntWalk.i64_in _ (by omega)
    have q1 := fun m => base_Decimal_eq (i : Int) (by omega) (by omega) m
    have q2 := fun m => base_Decimal_eq n (by omega) (by omega) m
    have hli : (Lib.itoa i).length ≤ 20 := itoa_len (by constructor <;> omega)
    have hln : (Lib.itoa n).length ≤ 20 := itoa_len (by constructor <;> omega)
    rw [pesFrom_snoc, Nat.zero_add] at ih
    have ha : append 2 32 (sv 2 true (((pesFrom n 0 i).map PE.e).map Entry.av) .own) (.slc 2 [(peAt i n).e.av] .exact) = some (sv 2 true ((((pesFrom n 0 i) ++ [peAt i n]).map PE.e).map Entry.av) .own) := by
      rw [append_own1 (by simp [room, pesFrom_len]; omega)]; simp
    simp [peAt, Entry.av, tailAt] at ha
    rw [ls_law10_DeskFull_1]
    simp [b_law10_DeskFull_1, hlt, hw, q1, q2, ha, lh_law10_DeskFull_1, peAt, Entry.av, tailAt] at ih ⊢
    exact ⟨by omega, by omega, by omega, by omega, ih⟩

end Go.Proofs.YtnhagbllecpkkaaGreatDoor
