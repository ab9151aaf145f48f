/-
  The abstract machine: VaText, VaOpen, VaLift, VaMap, VaRoles.
-/
import Derived.Lib.AtoiAllCases
import Derived.Lib.ItoaNum
import Derived.Lib.Split
import Derived.Lib.SplitLaws
import Derived.Lib.Join
import Derived.Lib.Strings
import Derived.Lib.IndexMore
import Derived.Test.YtnhagbllecpkkaaGreatDoorV4
import Derived.ChangeArms
import Derived.ChangeSame
import Derived.Carry
import Derived.ChangeOld
import Derived.ProofKit
import Derived.LaidMore
import Derived.OpenShut
import Derived.Stop.Joined
import Derived.SizedLaws
import Derived.Lay
import Derived.Shelf.Vars
import Derived.Lib.LaidTab
import Derived.Test.YtnhagbllecpkkaaGreatDoorV1
import Derived.WideKeyElems2
import Derived.Sort.KeysCollected
set_option linter.unusedSimpArgs false
set_option linter.unusedVariables false
/-
  Texts: cut at a byte, joined; numerals. Plain lists, no program.
-/
namespace Go.VA
open Go

/-- Digits read one by one. -/
def digV : List UInt8 → Nat → Option Nat
  | [], n => some n
  | x :: r, n => if 48 ≤ x.toNat ∧ x.toNat ≤ 57 then digV r (10 * n + (x.toNat - 48)) else none

theorem digV_append (l : List UInt8) : ∀ (m : List UInt8) (n : Nat), digV (l ++ m) n = (digV l n).bind (digV m) := by
  induction l with
  | nil => intro m n; rfl
  | cons x r ih =>
    intro m n
    simp only [List.cons_append, digV]
    split
    · exact ih m _
    · rfl

theorem digV_lt : ∀ (l : List UInt8) (n v : Nat), digV l n = some v → v < (n + 1) * 10 ^ l.length
  | [], n, v, h => by simp only [digV, Option.some.injEq] at h; subst h; simp
  | x :: r, n, v, h => by
    simp only [digV] at h
    split at h
    · have ih := digV_lt r _ v h
      have : (10 * n + (x.toNat - 48) + 1) * 10 ^ r.length ≤ ((n + 1) * 10) * 10 ^ r.length := Nat.mul_le_mul_right _ (by omega)
      rw [List.length_cons, Nat.pow_succ, Nat.mul_comm (10 ^ r.length) 10, ← Nat.mul_assoc]
      omega
    · cases h

theorem parseUint10_digV : ∀ (l : List UInt8) (a : Nat), (a + 1) * 10 ^ l.length ≤ 10 ^ 19 → Lib.parseUint10 a l = match digV l a with | some v => .ok v | none => Lib.parseMag []
  | [], a, _ => rfl
  | x :: r, a, h => by
    simp only [Lib.parseUint10, digV]
    split
    · rename_i hx
      rw [List.length_cons, Nat.pow_succ, Nat.mul_comm (10 ^ r.length) 10, ← Nat.mul_assoc] at h
      have h1 : (a + 1) * 10 * 1 ≤ (a + 1) * 10 * 10 ^ r.length := Nat.mul_le_mul_left _ (Nat.pow_pos (by omega))
      have h2 : (10 * a + (x.toNat - 48) + 1) * 10 ^ r.length ≤ (a + 1) * 10 * 10 ^ r.length := Nat.mul_le_mul_right _ (by omega)
      rw [if_neg (by omega), if_neg (by omega), Nat.mul_comm a 10]
      exact parseUint10_digV r _ (by omega)
    · rfl

theorem digit_toNat {k : Nat} (h : k < 10) : (UInt8.ofNat (48 + k)).toNat = 48 + k := by
  simp [UInt8.toNat_ofNat', Nat.mod_eq_of_lt (show 48 + k < 256 by omega)]

theorem decDigits_spec (u : Nat) : digV (Lib.decDigits u) 0 = some u ∧ Lib.decDigits u ≠ [] ∧ (∀ x, x ∈ Lib.decDigits u → 48 ≤ x.toNat ∧ x.toNat ≤ 57) ∧ (u ≠ 0 → ∀ x r, Lib.decDigits u = x :: r → x ≠ 48) := by
  induction u using Nat.strongRecOn with
  | _ u ih =>
    rw [Lib.decDigits]
    split
    · rename_i h
      have hd := digit_toNat h
      refine ⟨?_, by simp, ?_, ?_⟩
      · simp only [digV, hd]
        rw [if_pos (by omega)]
        simp
      · intro x hx
        simp only [List.mem_singleton] at hx
        subst hx
        rw [hd]
        omega
      · intro hu x r hx e
        simp only [List.cons.injEq] at hx
        rw [← hx.1] at e
        have := congrArg UInt8.toNat e
        rw [hd] at this
        have h48 : (48 : UInt8).toNat = 48 := rfl
        omega
    · rename_i h
      have hd := digit_toNat (Nat.mod_lt u (show 0 < 10 by omega))
      obtain ⟨h1, h2, h3, h4⟩ := ih (u / 10) (by omega)
      refine ⟨?_, by simp, ?_, ?_⟩
      · rw [digV_append, h1]
        simp only [Option.bind_some, digV, hd]
        rw [if_pos (by omega)]
        congr 1
        omega
      · intro x hx
        rw [List.mem_append] at hx
        rcases hx with hx | hx
        · exact h3 x hx
        · simp only [List.mem_singleton] at hx
          subst hx
          rw [hd]
          omega
      · intro _ x r hx
        cases hq : Lib.decDigits (u / 10) with
        | nil => exact absurd hq h2
        | cons y t =>
          rw [hq] at hx
          simp only [List.cons_append, List.cons.injEq] at hx
          rw [← hx.1]
          exact h4 (by omega) y t hq

theorem digV_snoc {l : List UInt8} {x : UInt8} {n v : Nat} (h : digV (l ++ [x]) n = some v) : ∃ u, digV l n = some u ∧ 48 ≤ x.toNat ∧ x.toNat ≤ 57 ∧ v = 10 * u + (x.toNat - 48) := by
  rw [digV_append, Option.bind_eq_some_iff] at h
  obtain ⟨u, h1, h2⟩ := h
  simp only [digV] at h2
  split at h2
  · rename_i hx
    cases h2
    exact ⟨u, h1, hx.1, hx.2, rfl⟩
  · cases h2

theorem digV_pos : ∀ (l : List UInt8) (n v : Nat), digV l n = some v → n ≤ v
  | [], n, v, h => by simp only [digV, Option.some.injEq] at h; omega
  | x :: r, n, v, h => by
    simp only [digV] at h
    split at h
    · have := digV_pos r _ v h; omega
    · cases h

/-- A numeral without a zero ahead is that of its number. -/
theorem decDigits_digV : ∀ (k : Nat) (l : List UInt8) (v : Nat), l.length = k → l ≠ [] → (∀ x r, l = x :: r → x = 48 → r = []) → digV l 0 = some v → Lib.decDigits v = l
  | 0, l, v, hk, hn, _, _ => absurd (List.length_eq_zero_iff.1 hk) hn
  | k + 1, l, v, hk, hn, hz, h => by
    obtain ⟨m, x, rfl⟩ : ∃ m x, l = m ++ [x] := ⟨l.dropLast, l.getLast hn, (List.dropLast_concat_getLast hn).symm⟩
    obtain ⟨u, h1, h2, h3, rfl⟩ := digV_snoc h
    have hx : UInt8.ofNat (48 + (x.toNat - 48)) = x := by
      apply UInt8.toNat_inj.1
      rw [digit_toNat (by omega)]
      omega
    cases m with
    | nil =>
      simp only [digV, Option.some.injEq] at h1
      subst h1
      rw [Lib.decDigits, dif_pos (by omega)]
      simp only [List.nil_append]
      rw [show 10 * 0 + (x.toNat - 48) = x.toNat - 48 by omega, hx]
    | cons y t =>
      have hy : y ≠ 48 := fun e => by
        have := hz y (t ++ [x]) (by simp) e
        simp at this
      have hu : u ≠ 0 := by
        intro e
        subst e
        simp only [digV] at h1
        split at h1
        · rename_i hd
          have := digV_pos _ _ _ h1
          apply hy
          apply UInt8.toNat_inj.1
          show y.toNat = 48
          omega
        · cases h1
      have ih := decDigits_digV k (y :: t) u (by simp at hk ⊢; omega) (by simp) (fun x' r e e' => by
        simp only [List.cons.injEq] at e
        exact absurd (e.1.trans e') hy) h1
      rw [Lib.decDigits, dif_neg (by omega), show (10 * u + (x.toNat - 48)) / 10 = u by omega, show (10 * u + (x.toNat - 48)) % 10 = x.toNat - 48 by omega, ih, hx]

/-- s is the numeral of v, of at most d digits. -/
def IsLit (d : Nat) (s : List UInt8) (v : Int) : Prop := s = Lib.itoa v ∧ (Lib.decDigits v.natAbs).length ≤ d

theorem itoa_neg {v : Int} (h : v < 0) : Lib.itoa v = 45 :: Lib.decDigits v.natAbs := by unfold Lib.itoa; rw [if_pos h]
theorem itoa_nonneg {v : Int} (h : ¬ v < 0) : Lib.itoa v = Lib.decDigits v.natAbs := by
  unfold Lib.itoa; rw [if_neg h]; congr 1; omega

theorem decDigits_inj {a b : Nat} (h : Lib.decDigits a = Lib.decDigits b) : a = b := by
  have h1 := (decDigits_spec a).1
  rw [h, (decDigits_spec b).1] at h1
  exact (Option.some.inj h1).symm

theorem decDigits_head {u : Nat} {x : UInt8} {r : List UInt8} (h : Lib.decDigits u = x :: r) : 48 ≤ x.toNat ∧ x.toNat ≤ 57 :=
  (decDigits_spec u).2.2.1 x (by rw [h]; simp)

theorem itoa_inj {a b : Int} (h : Lib.itoa a = Lib.itoa b) : a = b := by
  by_cases ha : a < 0 <;> by_cases hb : b < 0
  · rw [itoa_neg ha, itoa_neg hb, List.cons.injEq] at h
    have := decDigits_inj h.2
    omega
  · rw [itoa_neg ha, itoa_nonneg hb] at h
    have := decDigits_head h.symm
    simp at this
  · rw [itoa_nonneg ha, itoa_neg hb] at h
    have := decDigits_head h
    simp at this
  · rw [itoa_nonneg ha, itoa_nonneg hb] at h
    have := decDigits_inj h
    omega

theorem trim_itoa (v : Int) : Lib.trimPrefix (Lib.itoa v) [45] = Lib.decDigits v.natAbs := by
  by_cases h : v < 0
  · rw [itoa_neg h]
    simp [Lib.trimPrefix, Lib.hasPrefix, List.isPrefixOf]
  · rw [itoa_nonneg h]
    cases hd : Lib.decDigits v.natAbs with
    | nil => exact absurd hd (decDigits_spec _).2.1
    | cons x r =>
      have hx := decDigits_head hd
      have : ((45 : UInt8) == x) = false := by
        rw [beq_eq_false_iff_ne]
        intro e
        subst e
        simp at hx
      simp [Lib.trimPrefix, Lib.hasPrefix, List.isPrefixOf, this]

theorem atoi_itoa {v : Int} {d : Nat} (hd : d ≤ 18) (h : (Lib.decDigits v.natAbs).length ≤ d) : Lib.atoiAll (Lib.itoa v) = .ok v := by
  obtain ⟨h1, h2, h3, h4⟩ := decDigits_spec v.natAbs
  have hp : 10 ^ (Lib.decDigits v.natAbs).length ≤ 10 ^ 18 := Nat.pow_le_pow_right (by omega) (by omega)
  have hv := digV_lt _ _ _ h1
  have hm : Lib.parseMag (Lib.decDigits v.natAbs) = .ok v.natAbs := by
    unfold Lib.parseMag
    rw [if_neg h2, parseUint10_digV _ _ (by omega), h1]
  by_cases hn : v < 0
  · rw [itoa_neg hn, Lib.atoiAll_minus, hm]
    simp only [Lib.signed]
    rw [if_neg (by omega)]
    congr 1
    omega
  · rw [itoa_nonneg hn]
    cases hq : Lib.decDigits v.natAbs with
    | nil => exact absurd hq h2
    | cons x r =>
      have hx := decDigits_head hq
      rw [Lib.atoiAll_plain x r (by omega) (by omega), ← hq, hm]
      simp only [Lib.signless]
      rw [if_neg (by omega)]
      congr 1
      omega

/-- What the program asks of a number's text. -/
def lit (d : Nat) (s : List UInt8) : Option Int := match Lib.atoiAll s with
  | .ok v => if Lib.itoa v = s ∧ (Lib.trimPrefix s [45]).length ≤ d then some v else none
  | _ => none

theorem lit_iff {d : Nat} (hd : d ≤ 18) (s : List UInt8) (v : Int) : lit d s = some v ↔ IsLit d s v := by
  unfold lit IsLit
  constructor
  · intro h
    split at h
    · split at h
      · rename_i h1
        cases h
        refine ⟨h1.1.symm, ?_⟩
        have := h1.2
        rw [← h1.1, trim_itoa] at this
        exact this
      · cases h
    · cases h
  · rintro ⟨rfl, h⟩
    rw [atoi_itoa hd h]
    dsimp only
    rw [if_pos ⟨rfl, by rw [trim_itoa]; exact h⟩]

/-- What the references ask of it: the sign, then digits. -/
def numRef (d : Nat) (s : List UInt8) : Option Int :=
  match s with
  | [] => none
  | x :: r =>
    if x = 45 then
      (match r with
      | [] => none
      | y :: _ => if d < r.length ∨ y = 48 then none else (digV r 0).map fun v : Nat => -(v : Int))
    else (if d < s.length ∨ (x = 48 ∧ 0 < r.length) then none else (digV s 0).map fun v : Nat => (v : Int))

theorem numRef_iff {d : Nat} (s : List UInt8) (v : Int) : numRef d s = some v ↔ IsLit d s v := by
  unfold IsLit
  cases s with
  | nil =>
    simp only [numRef]
    constructor
    · intro h; cases h
    · rintro ⟨h, _⟩
      by_cases hv : v < 0
      · rw [itoa_neg hv] at h; cases h
      · rw [itoa_nonneg hv] at h
        exact absurd h.symm (decDigits_spec _).2.1
  | cons x r =>
    by_cases h45 : x = 45
    · subst h45
      have hneg : ∀ {v : Int}, (45 :: r = Lib.itoa v) → v < 0 ∧ r = Lib.decDigits v.natAbs := by
        intro v h
        by_cases hv : v < 0
        · rw [itoa_neg hv, List.cons.injEq] at h
          exact ⟨hv, h.2⟩
        · rw [itoa_nonneg hv] at h
          have := decDigits_head h.symm
          simp at this
      cases r with
      | nil =>
        simp only [numRef]
        constructor
        · intro h; simp at h
        · rintro ⟨h, _⟩
          exact absurd (hneg h).2.symm (decDigits_spec _).2.1
      | cons y t =>
        simp only [numRef, if_true]
        constructor
        · intro h
          split at h
          · cases h
          · rename_i hc
            rw [Option.map_eq_some_iff] at h
            obtain ⟨u, hu, rfl⟩ := h
            have hdd := decDigits_digV _ (y :: t) u rfl (by simp) (fun x r e e' => by
              simp only [List.cons.injEq] at e
              exact absurd (Or.inr (e.1.trans e')) hc) hu
            have hu0 : 0 < u := by
              rcases Nat.eq_zero_or_pos u with e | e
              · subst e
                rw [Lib.decDigits, dif_pos (by omega)] at hdd
                simp only [List.cons.injEq] at hdd
                exact absurd (Or.inr hdd.1.symm) hc
              · exact e
            have hlt : -(u : Int) < 0 := by omega
            have hab : (-(u : Int)).natAbs = u := by omega
            rw [itoa_neg hlt, hab, hdd]
            refine ⟨rfl, ?_⟩
            rcases Nat.lt_or_ge d (y :: t).length with h | h
            · exact absurd (Or.inl h) hc
            · exact h
        · rintro ⟨h, hl⟩
          obtain ⟨hv, hr⟩ := hneg h
          rw [← hr] at hl
          obtain ⟨k1, k2, k3, k4⟩ := decDigits_spec v.natAbs
          rw [if_neg, hr, k1]
          · simp only [Option.map_some, Option.some.injEq]; omega
          · rintro (h | h)
            · omega
            · exact k4 (by omega) y t hr.symm h
    · have hpos : ∀ {v : Int}, (x :: r = Lib.itoa v) → ¬ v < 0 := by
        intro v h hv
        rw [itoa_neg hv, List.cons.injEq] at h
        exact h45 h.1
      simp only [numRef]
      rw [if_neg h45]
      constructor
      · intro h
        split at h
        · cases h
        · rename_i hc
          rw [Option.map_eq_some_iff] at h
          obtain ⟨u, hu, rfl⟩ := h
          have hdd := decDigits_digV _ (x :: r) u rfl (by simp) (fun x' r' e e' => by
            simp only [List.cons.injEq] at e
            rcases Nat.eq_zero_or_pos r.length with e0 | e0
            · rw [← e.2]; exact List.length_eq_zero_iff.1 e0
            · exact absurd (Or.inr ⟨e.1.trans e', e0⟩) hc) hu
          have hab : ((u : Int)).natAbs = u := by omega
          rw [itoa_nonneg (by omega), hab, hdd]
          refine ⟨rfl, ?_⟩
          rcases Nat.lt_or_ge d (x :: r).length with h | h
          · exact absurd (Or.inl h) hc
          · exact h
      · rintro ⟨h, hl⟩
        have hv := hpos h
        rw [itoa_nonneg hv] at h
        rw [← h] at hl
        obtain ⟨k1, k2, k3, k4⟩ := decDigits_spec v.natAbs
        rw [if_neg, h, k1]
        · simp only [Option.map_some, Option.some.injEq]; omega
        · rintro (h' | ⟨h1, h2⟩)
          · omega
          · by_cases h0 : v.natAbs = 0
            · rw [h0, Lib.decDigits, dif_pos (by omega)] at h
              simp only [List.cons.injEq] at h
              rw [h.2] at h2
              simp at h2
            · exact k4 h0 x r h.symm h1

theorem numRef_lit {d : Nat} (hd : d ≤ 18) (s : List UInt8) : numRef d s = lit d s := by
  apply Option.ext
  intro v
  rw [numRef_iff, lit_iff hd]

/-- A text cut at a byte. -/
def cutAt (c : UInt8) : List UInt8 → List (List UInt8)
  | [] => [[]]
  | x :: r => if x = c then [] :: cutAt c r else match cutAt c r with
    | h :: t => (x :: h) :: t
    | [] => [[x]]

theorem cutAt_ne (c : UInt8) : ∀ s, cutAt c s ≠ []
  | [] => by simp [cutAt]
  | x :: r => by
    simp only [cutAt]
    split
    · simp
    · split <;> simp

theorem cutAt_cons {c x : UInt8} (h : x ≠ c) (r : List UInt8) : ∃ a t, cutAt c r = a :: t ∧ cutAt c (x :: r) = (x :: a) :: t := by
  cases hq : cutAt c r with
  | nil => exact absurd hq (cutAt_ne c r)
  | cons a t => exact ⟨a, t, rfl, by simp [cutAt, h, hq]⟩

theorem cutAt_length (c : UInt8) : ∀ s, (cutAt c s).length = s.count c + 1
  | [] => rfl
  | x :: r => by
    have ih := cutAt_length c r
    by_cases h : x = c
    · subst h; simp [cutAt, ih]
    · obtain ⟨a, t, h1, h2⟩ := cutAt_cons h r
      rw [h1] at ih
      rw [h2, List.count_cons_of_ne (by simpa using h)]
      simpa using ih

theorem cutAt_mem (c : UInt8) : ∀ s w, w ∈ cutAt c s → w.length ≤ s.length ∧ c ∉ w
  | [], w, h => by simp only [cutAt, List.mem_singleton] at h; subst h; simp
  | x :: r, w, h => by
    by_cases hx : x = c
    · subst hx
      simp only [cutAt, if_true, List.mem_cons] at h
      rcases h with rfl | h
      · simp
      · have := cutAt_mem x r w h
        exact ⟨by simp; omega, this.2⟩
    · obtain ⟨a, t, h1, h2⟩ := cutAt_cons hx r
      rw [h2, List.mem_cons] at h
      rcases h with rfl | h
      · have := cutAt_mem c r a (by rw [h1]; simp)
        refine ⟨by simp; omega, ?_⟩
        simp only [List.mem_cons, not_or]
        exact ⟨fun e => hx e.symm, this.2⟩
      · have := cutAt_mem c r w (by rw [h1]; simp [h])
        exact ⟨by simp; omega, this.2⟩

theorem join_cutAt (c : UInt8) : ∀ s, Lib.join (cutAt c s) [c] = s
  | [] => by simp [cutAt, Lib.join]
  | x :: r => by
    have ih := join_cutAt c r
    by_cases hx : x = c
    · subst hx
      cases hq : cutAt x r with
      | nil => exact absurd hq (cutAt_ne x r)
      | cons a t =>
        rw [hq] at ih
        rw [Lib.join_cons] at ih
        simp only [cutAt, if_true, hq]
        rw [Lib.join_cons]
        simp only [List.nil_append, Lib.joinTail, List.map_cons, List.flatten_cons, List.cons_append] at ih ⊢
        rw [ih]
    · obtain ⟨a, t, h1, h2⟩ := cutAt_cons hx r
      rw [h1, Lib.join_cons] at ih
      rw [h2, Lib.join_cons, List.cons_append, ih]

theorem cutAt_none {c : UInt8} : ∀ {s : List UInt8}, c ∉ s → cutAt c s = [s]
  | [], _ => rfl
  | x :: r, h => by
    simp only [List.mem_cons, not_or] at h
    have hx : x ≠ c := fun e => h.1 e.symm
    simp only [cutAt, if_neg hx, cutAt_none h.2]

theorem cutAt_append {c : UInt8} : ∀ {a : List UInt8} (b : List UInt8), c ∉ a → cutAt c (a ++ c :: b) = a :: cutAt c b
  | [], b, _ => by simp [cutAt]
  | x :: a, b, h => by
    simp only [List.mem_cons, not_or] at h
    have hx : x ≠ c := fun e => h.1 e.symm
    simp only [List.cons_append, cutAt, if_neg hx, cutAt_append b h.2]

theorem cutAt_join (c : UInt8) : ∀ (ws : List (List UInt8)), ws ≠ [] → (∀ w, w ∈ ws → c ∉ w) → cutAt c (Lib.join ws [c]) = ws
  | [], h, _ => absurd rfl h
  | [w], _, h => by
    rw [Lib.join_cons]
    simp only [Lib.joinTail, List.map_nil, List.flatten_nil, List.append_nil]
    exact cutAt_none (h w (by simp))
  | w :: v :: r, _, h => by
    have ih := cutAt_join c (v :: r) (by simp) fun x hx => h x (by simp [hx])
    rw [Lib.join_cons] at ih ⊢
    simp only [Lib.joinTail, List.map_cons, List.flatten_cons, List.cons_append, List.nil_append] at ih ⊢
    rw [cutAt_append _ (h w (by simp)), ih]

theorem index_one (c : UInt8) : ∀ s : List UInt8, (c ∉ s ∧ Lib.index s [c] = -1) ∨ ∃ a b, s = a ++ c :: b ∧ c ∉ a ∧ Lib.index s [c] = a.length
  | [] => .inl ⟨by simp, by simp [Lib.index]⟩
  | x :: r => by
    by_cases hx : c = x
    · subst hx
      exact .inr ⟨[], r, rfl, by simp, by rw [Lib.index]; simp [List.isPrefixOf]⟩
    · have hp : ([c] : List UInt8).isPrefixOf (x :: r) = false := by simp [List.isPrefixOf, hx]
      rcases index_one c r with ⟨h1, h2⟩ | ⟨a, b, rfl, h2, h3⟩
      · refine .inl ⟨by simp [hx, h1], ?_⟩
        rw [Lib.index, hp, h2]; simp
      · refine .inr ⟨x :: a, b, rfl, by simp [hx, h2], ?_⟩
        rw [Lib.index, hp, h3]
        have : ((a.length : Int) == -1) = false := by simp
        simp [this]

theorem splitK_cutAt (c : UInt8) : ∀ (k : Nat) (s : List UInt8), s.count c = k → Lib.splitK [c] 0 k s = cutAt c s
  | 0, s, h => by
    rw [cutAt_none (List.count_eq_zero.1 h)]
    rfl
  | k + 1, s, h => by
    rcases index_one c s with ⟨h1, _⟩ | ⟨a, b, rfl, h2, h3⟩
    · rw [List.count_eq_zero.2 h1] at h
      cases h
    · have hn : ((a.length : Int) == -1) = false := by simp
      have hk : b.count c = k := by
        rw [List.count_append, List.count_eq_zero.2 h2, List.count_cons_self] at h
        omega
      rw [Lib.splitK, h3, hn, cutAt_append b h2, ← splitK_cutAt c k b hk]
      simp

theorem split_cutAt (c : UInt8) (s : List UInt8) : Lib.splitK [c] 0 (Lib.countB ⟨s.toArray⟩ ⟨[c].toArray⟩) s = cutAt c s := by
  apply splitK_cutAt
  unfold Lib.countB
  simp only [Lib.count_one]

theorem contains_one (c : UInt8) (s : List UInt8) : Lib.contains s [c] = decide (c ∈ s) := by
  unfold Lib.contains
  rcases index_one c s with ⟨h1, h2⟩ | ⟨a, b, rfl, h2, h3⟩
  · simp [h1, h2]
  · simp [h3]

end Go.VA

/-
  What comes in: arguments of plain types, as the statement's rows read them, are values of the abstract machine.
-/
namespace Go.VA
open Go Go.RowKit

/-- A plain cell's kind. -/
inductive FT where
  | b | i (k : IntKind) | s
  deriving DecidableEq

/-- A cell's kind: plain, or a slice of plain rows. -/
inductive LT where
  | f (x : FT)
  | sl (agg : Bool) (cs : List FT)
  deriving DecidableEq

def fieldsT {α : Type} (P : Program) (rec : TypeId → Option (List α)) : List Field → Nat → Option (List α)
  | [], _ => some []
  | f :: r, o => (rec f.type).bind fun ks => if f.offset == o && P.cellsOf f.type == ks.length then (fieldsT P rec r (o + ks.length)).map (ks ++ ·) else none

def ftsOf (P : Program) : Nat → TypeId → Option (List FT)
  | 0, _ => none
  | d + 1, t => match P.underlying t with
    | some .bool => some [.b]
    | some (.int k) => some [.i k]
    | some .string => some [.s]
    | some (.struct fs) => (fieldsT P (ftsOf P d) fs.toList 0).bind fun ks => if P.cellsOf t == ks.length then some ks else none
    | _ => none

def ltsOf (P : Program) : Nat → TypeId → Option (List LT)
  | 0, _ => none
  | d + 1, t => match P.underlying t with
    | some .bool => some [.f .b]
    | some (.int k) => some [.f (.i k)]
    | some .string => some [.f .s]
    | some (.slice e) => (ftsOf P d e).bind fun cs => if P.cellsOf e == cs.length && decide (0 < cs.length) then some [.sl (isAggB P e) cs] else none
    | some (.struct fs) => (fieldsT P (ltsOf P d) fs.toList 0).bind fun ks => if P.cellsOf t == ks.length then some ks else none
    | _ => none

def FitF : FT → AV → Prop
  | .b, v => ∃ b, v = .bool b
  | .i k, v => ∃ n, v = .int k n ∧ k.min ≤ n ∧ n ≤ k.max
  | .s, v => ∃ l, v = .str l ∧ l.length ≤ maxLen

def FitFs : List FT → List AV → Prop
  | [], us => us = []
  | k :: ks, us => ∃ u r, us = u :: r ∧ FitF k u ∧ FitFs ks r

def FitL : LT → AV → Prop
  | .f x, v => FitF x v
  | .sl agg cs, v => v = .nils ∨ ∃ l, v = .slc cs.length l .unk ∧ l.length ≤ maxLen ∧ ∀ u, u ∈ l → ∃ us, FitFs cs us ∧ u = (if agg then .agg us else us.headD .undef)

def FitLs : List LT → List AV → Prop
  | [], us => us = []
  | k :: ks, us => ∃ u r, us = u :: r ∧ FitL k u ∧ FitLs ks r

theorem fitF_plain {k : FT} {u : AV} (h : FitF k u) : u.pure = true ∧ u.one = true ∧ (∀ l, u ≠ .agg l) := by
  cases k with
  | b => obtain ⟨b, rfl⟩ := h; exact ⟨rfl, rfl, fun _ h => by cases h⟩
  | i k => obtain ⟨n, rfl, _⟩ := h; exact ⟨rfl, rfl, fun _ h => by cases h⟩
  | s => obtain ⟨l, rfl, _⟩ := h; exact ⟨rfl, rfl, fun _ h => by cases h⟩

theorem fitFs_length : ∀ {ks : List FT} {us : List AV}, FitFs ks us → us.length = ks.length
  | [], us, h => by cases h; rfl
  | k :: ks, us, h => by obtain ⟨u, r, rfl, _, h⟩ := h; simp [fitFs_length h]

theorem fitFs_mem : ∀ {ks : List FT} {us : List AV}, FitFs ks us → ∀ u, u ∈ us → u.pure = true ∧ u.one = true ∧ (∀ l, u ≠ .agg l)
  | [], us, h, u, hu => by cases h; cases hu
  | k :: ks, us, h, u, hu => by
    obtain ⟨v, r, rfl, hv, h⟩ := h
    rcases List.mem_cons.1 hu with rfl | hu
    · exact fitF_plain hv
    · exact fitFs_mem h u hu

theorem fitFs_append : ∀ {ks ls : List FT} {us vs : List AV}, FitFs ks us → FitFs ls vs → FitFs (ks ++ ls) (us ++ vs)
  | [], ls, us, vs, h, g => by cases h; exact g
  | k :: ks, ls, us, vs, h, g => by obtain ⟨u, r, rfl, hu, h⟩ := h; exact ⟨u, r ++ vs, rfl, hu, fitFs_append h g⟩

theorem fitLs_append : ∀ {ks ls : List LT} {us vs : List AV}, FitLs ks us → FitLs ls vs → FitLs (ks ++ ls) (us ++ vs)
  | [], ls, us, vs, h, g => by cases h; exact g
  | k :: ks, ls, us, vs, h, g => by obtain ⟨u, r, rfl, hu, h⟩ := h; exact ⟨u, r ++ vs, rfl, hu, fitLs_append h g⟩

section
variable {imm : Addr → Option Value} {map : Nat → Option Obj} {blk : Id → Option Nat}

def Rel (imm : Addr → Option Value) (map : Nat → Option Obj) (blk : Id → Option Nat) (us : List AV) (cs : List Value) : Prop :=
  us.length = cs.length ∧ ∀ (i : Nat) u x, us[i]? = some u → cs[i]? = some x → RV imm map blk u x

theorem rel_one {u : AV} {x : Value} (h : RV imm map blk u x) : Rel imm map blk [u] [x] := by
  refine ⟨rfl, fun i v y hv hy => ?_⟩
  match i with
  | 0 => cases hv; cases hy; exact h
  | i + 1 => simp at hv

theorem rel_append {us vs : List AV} {cs ds : List Value} (h : Rel imm map blk us cs) (g : Rel imm map blk vs ds) : Rel imm map blk (us ++ vs) (cs ++ ds) := by
  refine ⟨by simp [h.1, g.1], fun i u x hu hx => ?_⟩
  rw [List.getElem?_append] at hu hx
  rw [h.1] at hu
  split at hu
  · rename_i hi; rw [if_pos hi] at hx; exact h.2 i u x hu hx
  · rename_i hi; rw [if_neg hi] at hx; exact g.2 _ u x hu hx

end

section
variable {H : Type} {enc : TypeId × Value → H} {P : Program} {w : World} {base : Nat} {spare : Nat → Bool} {held : Bool}

theorem wf_int {k : IntKind} {n : Int} (h : (Lit.int k n).wf = true) : k.min ≤ n ∧ n ≤ k.max := by
  simpa [Lit.wf] using h

/-- Fields one behind the other. -/
theorem fields_rel {α : Type} {Fit : List α → List AV → Prop} {imm : Addr → Option Value} {map : Nat → Option Obj} {blk : Id → Option Nat} (hnil : Fit [] []) (happ : ∀ {ks ls us vs}, Fit ks us → Fit ls vs → Fit (ks ++ ls) (us ++ vs))
    {rec : TypeId → Option (List α)} {cs : List Value} {run : Field → Option (DataW H × List MemPlace)}
    (hrec : ∀ (f : Field) ks y, rec f.type = some ks → (∃ o, f.offset = o) → run f = some y → P.cellsOf f.type = ks.length → ∃ us, Fit ks us ∧ Rel imm map blk us ((cs.drop f.offset).take (P.cellsOf f.type))) :
    ∀ (fs : List Field) (o : Nat) (ks : List α), fieldsT P rec fs o = some ks → (∀ f, f ∈ fs → ∃ y, run f = some y) → o + ks.length ≤ cs.length → ∃ us, Fit ks us ∧ Rel imm map blk us ((cs.drop o).take ks.length)
  | [], o, ks, h, _, _ => by
    cases h
    exact ⟨[], hnil, by simp, fun i u x hu => by simp at hu⟩
  | f :: fs, o, ks, h, hr, hl => by
    simp only [fieldsT, Option.bind_eq_some_iff] at h
    obtain ⟨k1, h1, h2⟩ := h
    split at h2
    · rename_i hc
      simp only [Bool.and_eq_true, beq_iff_eq] at hc
      rw [Option.map_eq_some_iff] at h2
      obtain ⟨k2, h3, rfl⟩ := h2
      rw [List.length_append] at hl
      obtain ⟨y, hy⟩ := hr f (by simp)
      obtain ⟨us, hu1, hu2⟩ := hrec f k1 y h1 ⟨_, rfl⟩ hy hc.2
      obtain ⟨vs, hv1, hv2⟩ := fields_rel hnil happ hrec fs (o + k1.length) k2 h3 (fun g hg => hr g (by simp [hg])) (by omega)
      refine ⟨us ++ vs, happ hu1 hv1, ?_⟩
      rw [hc.1, hc.2] at hu2
      have : (cs.drop o).take (k1 ++ k2).length = (cs.drop o).take k1.length ++ (cs.drop (o + k1.length)).take k2.length := by
        rw [List.length_append, List.take_add, List.drop_drop]
      rw [this]
      exact rel_append hu2 hv2
    · cases h2

theorem open_flat (imm : Addr → Option Value) (map : Nat → Option Obj) (blk : Id → Option Nat) : ∀ (d : Nat) (fuel : Nat) (t : TypeId) (cs : List Value) (x : DataW H × List MemPlace) (ks : List FT), ftsOf P d t = some ks → DataW.trod enc P w base spare held fuel t cs = some x →
    ∃ us, FitFs ks us ∧ Rel imm map blk us cs
  | 0, _, _, _, _, _, h, _ => by cases h
  | d + 1, fuel, t, cs, x, ks, h, ht => by
    unfold ftsOf at h
    split at h
    · rename_i hu
      cases h
      obtain ⟨b, rfl, _⟩ := DataW.trod_bool hu ht
      exact ⟨[.bool b], ⟨_, _, rfl, ⟨b, rfl⟩, rfl⟩, rel_one (.bool b)⟩
    · rename_i k hu
      cases h
      obtain ⟨n, rfl, _, hw⟩ := DataW.trod_int hu ht
      exact ⟨[.int k n], ⟨_, _, rfl, ⟨n, rfl, wf_int hw⟩, rfl⟩, rel_one (.int k n)⟩
    · rename_i hu
      cases h
      obtain ⟨s, rfl, _, hs⟩ := DataW.trod_string hu ht
      exact ⟨[.str s.data.toList], ⟨_, _, rfl, ⟨_, rfl, by rw [Array.length_toList]; exact hs⟩, rfl⟩, rel_one (by have := RV.str (imm := imm) (map := map) (blk := blk) s.data.toList; simpa using this)⟩
    · rename_i fs hu
      rw [Option.bind_eq_some_iff] at h
      obtain ⟨k1, h1, h2⟩ := h
      split at h2
      · rename_i hc
        cases h2
        simp only [beq_iff_eq] at hc
        obtain ⟨xs, n, rfl, _, hlen, hxs, hf⟩ := DataW.trod_struct hu ht
        obtain ⟨us, u1, u2⟩ := fields_rel (Fit := FitFs) (imm := imm) (map := map) (blk := blk) (P := P) rfl fitFs_append (cs := cs) (run := fun f => DataW.trod enc P w base spare held n f.type ((cs.drop f.offset).take (P.cellsOf f.type)))
          (fun f ks y hk _ hy _ => open_flat imm map blk d n f.type _ y ks hk hy) fs.toList 0 _ h1 (fun f hf' => by
            obtain ⟨i, hi, hfi⟩ := List.getElem_of_mem hf'
            have hi' : i < fs.size := by simpa using hi
            have e : fs[i]? = some f := by rw [Array.getElem?_eq_getElem hi']; congr 1
            have := hf i f e
            rw [List.getElem?_eq_getElem (by omega)] at this
            exact ⟨_, this⟩) (by omega)
        refine ⟨us, u1, ?_⟩
        rw [List.drop_zero, List.take_of_length_le (by omega)] at u2
        exact u2
      · cases h2
    · cases h

theorem cells_at {a : Addr} {n : Nat} {cs : List Value} (h : w.cells? base a n = some cs) : cs.length = n ∧ ∀ j, j < n → w.cell? (a.add j) = cs[j]? := World.cells?_some h |>.2

theorem addr_add (a : Addr) (ha : a.spot = none) (n : Nat) : a.add n = ⟨a.block, a.off + n, none⟩ := by
  unfold Addr.add
  split
  · rename_i h; subst h; obtain ⟨b, o, s⟩ := a; simp only at ha; subst ha; rfl
  · rfl

theorem fts_one {d : Nat} {t : TypeId} {ks : List FT} (h : ftsOf P d t = some ks) (ha : isAggB P t = false) : ∃ k, ks = [k] := by
  cases d with
  | zero => cases h
  | succ d =>
    unfold ftsOf at h
    split at h
    · cases h; exact ⟨_, rfl⟩
    · cases h; exact ⟨_, rfl⟩
    · cases h; exact ⟨_, rfl⟩
    · rename_i fs hu
      unfold isAggB at ha
      rw [hu] at ha
      cases ha
    · cases h

/-- Cells without slices at a place of their own. -/
def Spotless (cs : List Value) : Prop := ∀ x, x ∈ cs → ∀ a len cap, x = .slice (some a) len cap → a.spot = none

theorem open_lists (map : Nat → Option Obj) (blk : Id → Option Nat) : ∀ (d : Nat) (fuel : Nat) (t : TypeId) (cs : List Value) (x : DataW H × List MemPlace) (ks : List LT), ltsOf P d t = some ks → DataW.trod enc P w base spare held fuel t cs = some x → Spotless cs →
    ∃ us, FitLs ks us ∧ Rel (fun a => w.cell? a) map blk us cs
  | 0, _, _, _, _, _, h, _, _ => by cases h
  | d + 1, fuel, t, cs, x, ks, h, ht, hs => by
    unfold ltsOf at h
    split at h
    · rename_i hu
      cases h
      obtain ⟨b, rfl, _⟩ := DataW.trod_bool hu ht
      exact ⟨[.bool b], ⟨_, _, rfl, ⟨b, rfl⟩, rfl⟩, rel_one (.bool b)⟩
    · rename_i k hu
      cases h
      obtain ⟨n, rfl, _, hw⟩ := DataW.trod_int hu ht
      exact ⟨[.int k n], ⟨_, _, rfl, ⟨n, rfl, wf_int hw⟩, rfl⟩, rel_one (.int k n)⟩
    · rename_i hu
      cases h
      obtain ⟨s, rfl, _, hl⟩ := DataW.trod_string hu ht
      exact ⟨[.str s.data.toList], ⟨_, _, rfl, ⟨_, rfl, by rw [Array.length_toList]; exact hl⟩, rfl⟩, rel_one (by have := RV.str (imm := fun a => w.cell? a) (map := map) (blk := blk) s.data.toList; simpa using this)⟩
    · rename_i e hu
      rw [Option.bind_eq_some_iff] at h
      obtain ⟨fs, h1, h2⟩ := h
      split at h2
      · rename_i hc
        cases h2
        simp only [Bool.and_eq_true, beq_iff_eq, decide_eq_true_eq] at hc
        obtain ⟨hce, hpos⟩ := hc
        rcases DataW.trod_slice hu ht with ⟨rfl, _⟩ | ⟨a, len, cap, elems, rest, n, rfl, rfl, _, hb, hl, hm, hlen, hel, _, _⟩
        · exact ⟨[.nils], ⟨_, _, rfl, .inl rfl, rfl⟩, rel_one .nils⟩
        · have hsp : a.spot = none := hs _ (by simp) a len cap rfl
          have each : ∀ i, i < len → ∃ us, FitFs fs us ∧ ∃ cs', w.cells? base (a.add (i * P.cellsOf e)) (P.cellsOf e) = some cs' ∧ Rel (fun a => w.cell? a) map blk us cs' := by
            intro i hi
            have := hel i hi
            rw [List.getElem?_eq_getElem (by omega), Option.bind_eq_some_iff] at this
            obtain ⟨cs', k1, k2⟩ := this
            obtain ⟨us, u1, u2⟩ := open_flat (fun a => w.cell? a) map blk d n e cs' _ fs h1 k2
            exact ⟨us, u1, cs', k1, u2⟩
          let f : Nat → List AV := fun i => if hi : i < len then (each i hi).choose else []
          have hf : ∀ i, (hi : i < len) → FitFs fs (f i) ∧ ∃ cs', w.cells? base (a.add (i * P.cellsOf e)) (P.cellsOf e) = some cs' ∧ Rel (fun a => w.cell? a) map blk (f i) cs' := by
            intro i hi
            have : f i = (each i hi).choose := dif_pos hi
            rw [this]
            exact (each i hi).choose_spec
          let mk : List AV → AV := fun us => if isAggB P e then .agg us else us.headD .undef
          have hmk : ∀ us, FitFs fs us → (mk us).cells = us := by
            intro us hus
            show (if _ then _ else _ : AV).cells = us
            by_cases hagg : isAggB P e
            · rw [if_pos hagg]; rfl
            · rw [if_neg hagg]
              obtain ⟨k, rfl⟩ := fts_one h1 (by simpa using hagg)
              obtain ⟨u, r, rfl, hu', hr⟩ := hus
              cases hr
              have := (fitF_plain hu').2.2
              show AV.cells u = [u]
              cases u <;> first | rfl | exact absurd rfl (this _)
          have hlen' : ((List.range len).map fun i => mk (f i)).length = len := by simp
          have hat : ∀ i v, ((List.range len).map fun i => mk (f i))[i]? = some v → i < len ∧ v = mk (f i) := by
            intro i v hv
            rw [List.getElem?_map, Option.map_eq_some_iff] at hv
            obtain ⟨j, hj, rfl⟩ := hv
            have hj' := List.getElem?_eq_some_iff.1 hj
            obtain ⟨q1, q2⟩ := hj'
            rw [List.getElem_range] at q2
            subst q2
            exact ⟨by simpa using q1, rfl⟩
          have hcell : ∀ i, i < len → ∀ j u, (f i)[j]? = some u → ∃ y, w.cell? ⟨a.block, a.off + (i * fs.length + j), none⟩ = some y ∧ RV (fun a => w.cell? a) map blk u y := by
            intro i hi j u hu'
            obtain ⟨g1, cs', g2, g3, g4⟩ := hf i hi
            obtain ⟨c1, c2⟩ := cells_at g2
            have hj : j < P.cellsOf e := by rw [← c1, ← g3]; exact (List.getElem?_eq_some_iff.1 hu').1
            have := c2 j hj
            rw [addr_add a hsp, addr_add _ rfl, hce, Nat.add_assoc] at this
            rw [List.getElem?_eq_getElem (by omega)] at this
            exact ⟨_, this, g4 j u _ hu' (List.getElem?_eq_getElem (by omega))⟩
          have key := RV.slc (imm := fun a => w.cell? a) (map := map) (blk := blk) fs.length ((List.range len).map fun i => mk (f i)) .unk a.block a.off cap
            (fun i j => (w.cell? ⟨a.block, a.off + (i * fs.length + j), none⟩).getD default) (by simp) (by rw [hlen']; exact hl) (by simp)
            (fun v hv => by
              obtain ⟨i, hi, rfl⟩ := List.mem_map.1 hv
              have hi' : i < len := by simpa using hi
              have hfi := (hf i hi').1
              unfold AV.okElem
              rw [hmk _ hfi, fitFs_length hfi]
              simp only [beq_self_eq_true, Bool.true_and, List.all_eq_true, Bool.and_eq_true]
              exact fun u hu' => ⟨(fitFs_mem hfi u hu').1, (fitFs_mem hfi u hu').2.1⟩)
            (fun i j hi hj => by
              rw [hlen'] at hi
              have hfi := (hf i hi).1
              obtain ⟨y, k1, _⟩ := hcell i hi j _ (List.getElem?_eq_getElem (by rw [fitFs_length hfi]; exact hj))
              rw [k1]; rfl)
            (fun i v j u hv hu' => by
              obtain ⟨hi, rfl⟩ := hat i v hv
              rw [hmk _ (hf i hi).1] at hu'
              obtain ⟨y, k1, k2⟩ := hcell i hi j u hu'
              rw [k1]
              exact k2)
          rw [hlen'] at key
          refine ⟨[.slc fs.length ((List.range len).map fun i => mk (f i)) .unk], ⟨_, _, rfl, .inr ⟨_, rfl, by rw [hlen']; omega, fun u hu' => ?_⟩, rfl⟩, rel_one ?_⟩
          · obtain ⟨i, hi, rfl⟩ := List.mem_map.1 hu'
            exact ⟨f i, (hf i (by simpa using hi)).1, rfl⟩
          · obtain ⟨ab, ao, as⟩ := a
            simp only at hsp
            subst hsp
            exact key
      · cases h2
    · rename_i fs hu
      rw [Option.bind_eq_some_iff] at h
      obtain ⟨k1, h1, h2⟩ := h
      split at h2
      · rename_i hc
        cases h2
        simp only [beq_iff_eq] at hc
        obtain ⟨xs, n, rfl, _, hlen, hxs, hf⟩ := DataW.trod_struct hu ht
        obtain ⟨us, u1, u2⟩ := fields_rel (Fit := FitLs) (imm := fun a => w.cell? a) (map := map) (blk := blk) (P := P) rfl fitLs_append (cs := cs) (run := fun f => DataW.trod enc P w base spare held n f.type ((cs.drop f.offset).take (P.cellsOf f.type)))
          (fun f ks y hk _ hy _ => open_lists map blk d n f.type _ y ks hk hy (fun x hx => hs x (List.mem_of_mem_drop (List.mem_of_mem_take hx)))) fs.toList 0 _ h1 (fun f hf' => by
            obtain ⟨i, hi, hfi⟩ := List.getElem_of_mem hf'
            have hi' : i < fs.size := by simpa using hi
            have e : fs[i]? = some f := by rw [Array.getElem?_eq_getElem hi']; congr 1
            have := hf i f e
            rw [List.getElem?_eq_getElem (by omega)] at this
            exact ⟨_, this⟩) (by omega)
        refine ⟨us, u1, ?_⟩
        rw [List.drop_zero, List.take_of_length_le (by omega)] at u2
        exact u2
      · cases h2
    · cases h

end
end Go.VA

/-
  From a statement's row to a call of the abstract machine.
-/
namespace Go.VA
open Go Go.RowKit Go.ChangeShapes Go.WideShapes

section
variable {H : Type} {enc : TypeId × Value → H} {P : Program} {w : World} {base : Nat} {spare : Nat → Bool} {held : Bool}

theorem cell_spot {r : Reach} {b0 : Nat} {t : TypeId} {a : Addr} {len cap : Nat} (h : Cell.okWide P w r b0 t (.slice (some a) len cap)) : a.spot = none := by
  unfold Cell.okWide at h
  split at h
  · rename_i h1 h2; cases h2
  · rename_i h1 h2; cases h2
  · rename_i h1 h2; cases h2
  · rename_i h1 h2; cases h2
  · rename_i h1 h2; cases h2
  · rename_i h1 h2; cases h2
  · rename_i h1 h2; cases h2
  · unfold Cell.ok at h
    split at h <;> first | (rename_i h2; cases h2) | skip
    all_goals first | exact h.elim | exact h.2.2.2.1 | skip

theorem okWide_spotless {r : Reach} {b0 : Nat} {t : TypeId} {v : Value} (h : Value.okWide P w r b0 t v) : Spotless v.cells.toList := by
  unfold Value.okWide at h
  have one : ∀ {t : TypeId} {v : Value}, (∀ cs, v ≠ .agg cs) → Cell.okWide P w r b0 t v → Spotless v.cells.toList := by
    intro t v hv h x hx a len cap e
    have : v.cells = #[v] := by cases v <;> first | rfl | exact absurd rfl (hv _)
    rw [this] at hx
    have hx' : x = v := by simpa using hx
    subst hx'
    subst e
    exact cell_spot h
  have agg : (∃ cs, v = .agg cs ∧ cs.size = P.cellsOf t ∧ Row.okWide P w r b0 t cs) → Spotless v.cells.toList := by
    rintro ⟨cs, rfl, _, ts, _, _, hr⟩ x hx a len cap e
    obtain ⟨i, hi, hxi⟩ := List.getElem_of_mem hx
    have hi' : i < cs.size := by simpa [Value.cells] using hi
    have hci : cs[i]? = some x := by
      rw [Array.getElem?_eq_getElem hi', ← hxi]
      congr 1
    obtain ⟨u, _, hu⟩ := hr i x hci
    subst e
    exact cell_spot hu
  split at h
  · exact agg h
  · exact agg h
  · by_cases hv : ∃ cs, v = .agg cs
    · obtain ⟨cs, rfl⟩ := hv
      exfalso
      unfold Cell.okWide at h
      split at h <;> first | (rename_i h2; cases h2; done) | (unfold Cell.ok at h; split at h <;> first | (rename_i h2; cases h2; done) | exact h)
    · exact one (fun cs e => hv ⟨cs, e⟩) h

/-- An argument's value, by its cells. -/
def argAV (P : Program) (t : TypeId) (us : List AV) : AV := if isAggB P t then .agg us else us.headD .undef

theorem lts_one {d : Nat} {t : TypeId} {ks : List LT} (h : ltsOf P d t = some ks) (ha : isAggB P t = false) : ∃ k, ks = [k] := by
  cases d with
  | zero => cases h
  | succ d =>
    unfold ltsOf at h
    split at h
    · cases h; exact ⟨_, rfl⟩
    · cases h; exact ⟨_, rfl⟩
    · cases h; exact ⟨_, rfl⟩
    · rw [Option.bind_eq_some_iff] at h
      obtain ⟨fs, _, h2⟩ := h
      split at h2
      · cases h2; exact ⟨_, rfl⟩
      · cases h2
    · rename_i fs hu
      unfold isAggB at ha
      rw [hu] at ha
      cases ha
    · cases h

theorem open_arg (map : Nat → Option Obj) (blk : Id → Option Nat) {d : Nat} {t : TypeId} {ks : List LT} {r : Reach} {b0 : Nat} {v : Value} {x : DataW H} {ps : List MemPlace} (hk : ltsOf P d t = some ks) (hval : Value.okWide P w r b0 t v) (hd : DataW.Trod enc P w base spare held t v x ps) :
    ∃ us, FitLs ks us ∧ RV (fun a => w.cell? a) map blk (argAV P t us) v := by
  obtain ⟨fuel, hd⟩ := hd
  obtain ⟨us, h1, h2, h3⟩ := open_lists map blk d fuel t _ _ ks hk hd (okWide_spotless hval)
  refine ⟨us, h1, ?_⟩
  unfold argAV
  by_cases ha : isAggB P t
  · rw [if_pos ha]
    have : ∃ cs, v = .agg cs := by
      unfold Value.okWide at hval
      unfold isAggB at ha
      split at hval
      · obtain ⟨cs, rfl, _⟩ := hval; exact ⟨cs, rfl⟩
      · obtain ⟨cs, rfl, _⟩ := hval; exact ⟨cs, rfl⟩
      · rename_i h4 h5
        split at ha
        · rename_i fs h6; exact absurd h6 (h4 fs)
        · rename_i n e h6; exact absurd h6 (h5 n e)
        · cases ha
    obtain ⟨cs, rfl⟩ := this
    exact .agg us cs (by simpa [Value.cells] using h2) (fun i u y hu hy => h3 i u y hu (by simpa [Value.cells] using hy))
  · rw [if_neg ha]
    obtain ⟨k, rfl⟩ := lts_one hk (by simpa using ha)
    obtain ⟨u, us', rfl, _, hr⟩ := h1
    cases hr
    have hl : v.cells.size = 1 := by simpa using h2.symm
    have hne : ∀ cs, v ≠ .agg cs := by
      rintro cs rfl
      unfold Value.okWide at hval
      unfold isAggB at ha
      split at hval
      · rename_i fs hu; rw [hu] at ha; exact ha rfl
      · rename_i n e hu; rw [hu] at ha; exact ha rfl
      · unfold Cell.okWide at hval
        split at hval <;> first | (rename_i h2; cases h2; done) | (unfold Cell.ok at hval; split at hval <;> first | (rename_i h2; cases h2; done) | exact hval)
    have hc : v.cells = #[v] := by cases v <;> first | rfl | exact absurd rfl (hne _)
    exact h3 0 u v rfl (by rw [hc]; rfl)

theorem trodAll_stays {W W' : World} (hl : laidOutB P = true) (hb : Below W.heap.size W W') {sp : Nat → Bool} : ∀ {ts : List TypeId} {vs : List Value} {ds : List (DataW H)} {ps : List MemPlace}, (∀ t, t ∈ ts → P.readableRec t = true ∧ t < P.types.size) → (∀ p, p ∈ ps → p.block < W.heap.size) → (∀ p, p ∈ ps → sp p.block = true) →
    DataW.TrodAll enc P W 0 (fun _ => true) true ts vs ds ps → DataW.TrodAll enc P W' 0 sp true ts vs ds ps
  | [], [], [], _, _, _, _, h => h
  | t :: ts, v :: vs, d :: ds, ps, hr, hlt, hs, h => by
    obtain ⟨p, q, h1, h2, rfl⟩ := h
    refine ⟨p, q, WideElems.Trod_stays hl (hr t (by simp)).1 (hr t (by simp)).2 h1 (fun x hx => hb.same (hlt x (by simp [hx]))) (fun x hx => hs x (by simp [hx])), ?_, rfl⟩
    exact trodAll_stays hl hb (fun t ht => hr t (by simp [ht])) (fun x hx => hlt x (by simp [hx])) (fun x hx => hs x (by simp [hx])) h2
  | [], [], _ :: _, _, _, _, _, h => h.elim
  | [], _ :: _, _, _, _, _, _, h => h.elim
  | _ :: _, [], _, _, _, _, _, h => h.elim
  | _ :: _, _ :: _, [], _, _, _, _, h => h.elim

/-- The row's last step: true is told, and what came in reads as before. -/
theorem post_true {f : Func} {s : ChangeSpec} {apart fresh handsOn again : Bool} {W W' : World} {args : Array Value} {ds : List (DataW H)} {before : List MemPlace} {tb : TypeId}
    (hW : DataW.Whole enc P f.params.toList s.vars apart W args.toList ds [] before) (hv : s.vars = []) (hfn : s.fn H (ds ++ []) = { results := [.lit (.bool true)], args := ds }) (hres : f.resultTypes = #[tb]) (htb : P.underlying tb = some .bool)
    (hl : laidOutB P = true) (hr : ∀ t, t ∈ f.params.toList → P.readableRec t = true ∧ t < P.types.size) (hb : Below W.heap.size W W') :
    s.post enc P f apart fresh handsOn again W args (.bool true) W' := by
  have hlt : ∀ p ∈ before, p.block < W.heap.size := fun p hp => hW.lt p hp
  have hold : ∀ p ∈ before, (fun b => decide (b < W.heap.size)) p.block = true := fun p hp => by simpa using hlt p hp
  obtain ⟨p, q, h1, h2, rfl, hz, hn⟩ := id hW
  rw [hv] at h2
  have hq : q = [] := h2
  subst hq
  rw [List.append_nil] at hlt hold
  have hargs : ∀ sp : Nat → Bool, (∀ x ∈ p, sp x.block = true) → DataW.TrodAll enc P W' 0 sp true f.params.toList args.toList ds p := fun sp hs => trodAll_stays hl hb hr hlt hs h1
  have hr1 : ∀ (b : Nat) (sp : Nat → Bool) (hd : Bool), DataW.TrodAll enc P W' b sp hd f.resultTypes.toList ((Value.bool true).resultList f.resultTypes.size) (s.fn H (ds ++ [])).results [] := by
    intro b sp hd
    rw [hres, hfn]
    exact trodAll_mk1 (shut_bool htb _)
  have hvars : ∀ sp : Nat → Bool, DataW.TrodVars enc P W' sp s.vars (s.fn H (ds ++ [])).vars [] := by
    intro sp
    rw [hv, hfn]
    exact rfl
  have ha : (s.fn H (ds ++ [])).args = ds := by rw [hfn]
  refine ⟨ds, [], p ++ [], [], p, [], hW, hr1 _ _ _, by rw [ha]; exact hargs _ hold, hvars _, World.keptBut_mono (fun x hx => ⟨hx, ?_⟩) (hb.frame (· ∈ p ++ [])), fun _ => ?_⟩
  · rw [List.append_nil] at hx
    exact Or.inr (by simpa using hx)
  · refine ⟨?_, _, _, ([] ++ p) ++ [], ⟨[] ++ p, [], trodAll_append (hargs _ (fun _ _ => rfl)) (hr1 _ _ _), hvars _, rfl, ?_, ?_⟩, ?_⟩
    · intro j t r ht hrr
      rw [hres] at ht hrr
      have : ((Value.bool true).resultList 1) = [.bool true] := rfl
      rw [show (#[tb] : Array TypeId).size = 1 from rfl, this] at hrr
      match j with
      | 0 => cases ht; cases hrr; exact okWide_bool_mk htb _
      | j + 1 => simp at hrr
    · intro b off hp
      have hin : MemPlace.cell b off ∈ p := by simpa using hp
      rw [hb.frozen (hlt _ hin)]
      exact hz b off (by simpa using hin)
    · intro hap
      have := hn hap
      simpa using this
    · intro x hx _
      simpa using hx

/-- What the row's condition tells of one listed variable. -/
theorem laid_mem {P : Program} {W : World} : ∀ {laid : List (String × DataW Unit)} {ps : List MemPlace}, DataW.LaidVars P W laid ps → ∀ {n : String} {d : DataW Unit}, (n, d) ∈ laid →
    ∃ g t cs fuel p, P.globalNamed n = some g ∧ (P.globals[g]?).map (·.type) = some t ∧ W.var? P n = some cs ∧ DataW.trod (fun _ => ()) P W 0 (fun _ => true) false fuel t cs.toList = some (d, p)
  | [], _, _, _, _, h => by cases h
  | (m, e) :: r, ps, hL, n, d, h => by
    obtain ⟨g, t, cs, fuel, p, q, h1, h2, h3, h4, h5, _⟩ := hL
    rcases List.mem_cons.1 h with h | h
    · cases h
      exact ⟨g, t, cs, fuel, p, h1, h2, h3, h4⟩
    · exact laid_mem h5 h

theorem laid_at {P : Program} {W : World} {laid : List (String × DataW Unit)} (hL : laidMet P laid W) {n : String} {d : DataW Unit} (h : (n, d) ∈ laid) :
    ∃ g t cs fuel p, P.globalNamed n = some g ∧ (P.globals[g]?).map (·.type) = some t ∧ W.var? P n = some cs ∧ DataW.trod (fun _ => ()) P W 0 (fun _ => true) false fuel t cs.toList = some (d, p) := by
  obtain ⟨ps, h1, _⟩ := hL
  exact laid_mem h1 h

theorem laid_tab {P : Program} {W : World} {laid : List (String × DataW Unit)} (hL : laidMet P laid W) {n : String} {k : IntKind} {zs : List Int} (h : (n, Lib.tabData k zs) ∈ laid) {g : Nat} {t e : TypeId} {m : Nat}
    (hg : P.globalNamed n = some g) (hty : (P.globals[g]?).map (·.type) = some t) (ht : P.underlying t = some (.array m e)) (he : P.underlying e = some (.int k)) (hce : P.cellsOf e = 1) (hct : P.cellsOf t = m) : Lib.TabIs P W n k zs := by
  obtain ⟨g', t', cs, fuel, p, h1, h2, h3, h4⟩ := laid_at hL h
  obtain rfl := Option.some.inj (hg.symm.trans h1)
  obtain rfl := Option.some.inj (hty.symm.trans h2)
  unfold Lib.TabIs
  rw [h3, ← Lib.cells_of_tab ht he hce hct h4]

/-- A listed sentinel: its cell holds an interface value. -/
theorem laid_err {P : Program} {W : World} {laid : List (String × DataW Unit)} (hL : laidMet P laid W) {n : String} {name : String} {x : DataW Unit} (h : (n, .iface name x) ∈ laid) {g : Nat} {t : TypeId} {ms : Array (String × TypeId)}
    (hg : P.globalNamed n = some g) (hty : (P.globals[g]?).map (·.type) = some t) (ht : P.underlying t = some (.interface ms)) : ∃ u v, W.cell? ⟨g, 0, none⟩ = some (.iface u v) := by
  obtain ⟨g', t', cs, fuel, p, h1, h2, h3, h4⟩ := laid_at hL h
  obtain rfl := Option.some.inj (hg.symm.trans h1)
  obtain rfl := Option.some.inj (hty.symm.trans h2)
  have hcs : ∃ u v, cs.toList = [.iface u v] := by
    cases fuel with
    | zero => cases h4
    | succ fuel =>
      unfold DataW.trod at h4
      rw [ht] at h4
      split at h4 <;> first | (cases h4; done) | (rename_i e _; exact ⟨_, _, e⟩) | (rename_i e; exact ⟨_, _, e⟩) | simp_all
  obtain ⟨u, v, hc⟩ := hcs
  refine ⟨u, v, ?_⟩
  have := World.var?_cell hg h3 0
  rw [Array.eq_one_of_toList hc] at this
  simpa using this

/-- The row, out of its contract: the world's shape and the listed variables at hand. -/
theorem returns_shaped {a : Assume} {C : Checked} {os : Os} {f : FuncId} {fn : Func} {s : ChangeSpec} {conds : List PathCond} {apart fresh handsOn again : Bool} {X : World → Array Value → Prop}
    (hX : ∀ (w w' : World) (args : Array Value), w.heap = w'.heap → X w args → X w' args)
    (own : ownKnob C.prog.godebug = none) (started : os.Started) (noInit : C.prog.inits.idxOf? f = none) (hfn : C.prog.funcs[f]? = some fn)
    (witness : ∃ (w : World) (tape : Tape) (i : Input), w.os = os ∧ (w.forCall tape i).Shaped C.prog ∧ i.vars = [] ∧ Input.okWide C.prog (w.forCall tape i) .any w.heap.size f i ∧
      ((s.pre enc C.prog fn conds apart (w.forCall tape i).memory i.args ∧ X (w.forCall tape i).memory i.args) ∧ sizedMet enc C.prog fn (OpenSpec.ofChange s) apart (w.forCall tape i).memory i.args) ∧ a.holds C.prog (lone (Frame.enter C.prog f i.args .normal) [] (w.forCall tape i)))
    (contract : ∀ (W : World) (base : Nat) (args : Array Value) (ds gs : List (DataW H)) (before : List MemPlace),
      (∀ (j : Nat) t v, fn.params[j]? = some t → args[j]? = some v → Value.okWide C.prog W .any base t v) →
      DataW.Whole enc C.prog fn.params.toList s.vars apart W args.toList ds gs before →
      (DataW.weightsEach C.prog (fn.params.toList ++ s.plain.varTypes C.prog) (ds ++ gs)).all (· ≤ reachBytes) = true → X W args → W.ShapedOpen C.prog →
      Calls C.prog f args W fun e W' => ∃ v, e = .returned v ∧ s.post enc C.prog fn apart fresh handsOn again W args v W') :
    ReturnsInHanded a C os f .any (fun w args => (s.pre enc C.prog fn conds apart w args ∧ X w args) ∧ sizedMet enc C.prog fn (OpenSpec.ofChange s) apart w args) (s.post enc C.prog fn apart fresh handsOn again) := by
  refine returnsInHanded_of_calls own started noInit witness ?_
  intro w tape i _ hsh _ hok hpre hholds
  obtain ⟨_, _, _, fn', hfn', _, _, _, _, hval⟩ := hok
  have e : fn' = fn := Option.some.inj (hfn'.symm.trans hfn)
  subst e
  obtain ⟨⟨⟨ds, gs, before, hw, hc⟩, hx⟩, hz⟩ := hpre
  have hw' := DataW.Whole.of_heap (w' := w.forCall tape i) (by rfl) hw
  refine (contract (w.forCall tape i) w.heap.size i.args ds gs before hval hw' (hz.weights hw) (hX _ _ _ (by rfl) hx) hsh).mono fun e W' ⟨v, he, hp⟩ => ?_
  subst he
  exact ChangeSpec.post_blind hp

end
end Go.VA

/-
  Maps whose entries lie in whatever order.
-/
namespace Go.VA
open Go

/-- Each text stands once at most. -/
def OnceKeys (kv : List AV) : Prop := ∀ s, (kv.filter fun e => (mapFind s e).isSome).length ≤ 1

theorem find_perm {kv kv' : List AV} (hp : kv.Perm kv') : OnceKeys kv → ∀ s, kv.findSome? (mapFind s) = kv'.findSome? (mapFind s) := by
  induction hp with
  | nil => intro _ s; rfl
  | @cons a l1 l2 h ih =>
    intro hk s
    have hk' : OnceKeys l1 := fun s => by
      have := hk s
      rw [List.filter_cons] at this
      split at this
      · simp only [List.length_cons] at this; omega
      · exact this
    simp only [List.findSome?_cons]
    cases mapFind s a with
    | some v => rfl
    | none => exact ih hk' s
  | swap a b l =>
    intro hk s
    simp only [List.findSome?_cons]
    have := hk s
    simp only [List.filter_cons] at this
    cases ha : mapFind s a with
    | none => cases mapFind s b <;> rfl
    | some v =>
      cases hb : mapFind s b with
      | none => rfl
      | some u => simp [ha, hb] at this
  | @trans l1 l2 l3 h1 h2 ih1 ih2 =>
    intro hk s
    have hk2 : OnceKeys l2 := fun s => by
      have := hk s
      rw [(h1.filter _).length_eq] at this
      exact this
    exact (ih1 hk s).trans (ih2 hk2 s)

end Go.VA

/-
  A listed variable that holds a map from texts to slices of integers.
-/
namespace Go.VA
open Go Go.RowKit

section
variable {P : Program} {W : World} {t e : TypeId} {kd : IntKind} {sp : Nat → Bool}

theorem formed_one {v : Value} (ht : P.underlying t = some (.slice e)) (hf : v.formed P t = true) : v.cells.toList = [v] := by
  cases v <;> first | rfl | (simp [Value.formed, ht] at hf)

theorem trod_int {v : Value} {z : Int} {n : Nat} {q : List MemPlace} (he : P.underlying e = some (.int kd)) (h : DataW.trod (fun _ => ()) P W 0 sp false n e [v] = some (.lit (.int kd z), q)) : v = .int kd z := by
  cases n with
  | zero => cases h
  | succ n =>
    unfold DataW.trod at h
    rw [he] at h
    cases v <;> simp at h
    obtain ⟨⟨rfl, _⟩, h, _⟩ := h
    rw [h]

theorem rv_nils {v : Value} {n : Nat} {q : List MemPlace} {map : Nat → Option Obj} {blk : Id → Option Nat} (ht : P.underlying t = some (.slice e)) (hf : v.formed P t = true)
    (h : DataW.trod (fun _ => ()) P W 0 sp false n t v.cells.toList = some (.nil, q)) : RV (fun a => W.cell? a) map blk .nils v := by
  rw [formed_one ht hf] at h
  rcases DataW.trod_slice ht h with ⟨hx, _⟩ | ⟨a, len, cap, elems, rest, n, _, hcs, hx, _⟩
  · cases hx
    exact .nils
  · cases hx

theorem rv_ints {v : Value} {n : Nat} {q : List MemPlace} {zs : List Int} {map : Nat → Option Obj} {blk : Id → Option Nat} (ht : P.underlying t = some (.slice e)) (he : P.underlying e = some (.int kd)) (hc : P.cellsOf e = 1) (hne : zs ≠ []) (hf : v.formed P t = true)
    (h : DataW.trod (fun _ => ()) P W 0 sp false n t v.cells.toList = some (.slice (zs.map fun z => .lit (.int kd z)) [], q)) : RV (fun a => W.cell? a) map blk (.slc 1 (zs.map (.int kd)) .unk) v := by
  rw [formed_one ht hf] at h
  obtain ⟨a, cap, hcs, hle, hel⟩ := open_row ht hc h
  cases hcs
  rw [List.length_map] at hle
  have hat : ∀ i z, zs[i]? = some z → W.cell? (a.add i) = some (.int kd z) := fun i z hz => by
    obtain ⟨v, n, q, h1, h2⟩ := hel i _ (by rw [List.getElem?_map, hz]; rfl)
    rw [h1, trod_int he h2]
  have hsp : a.spot = none := by
    obtain ⟨z, r, rfl⟩ := List.exists_cons_of_ne_nil hne
    have := hat 0 z rfl
    cases hs : a.spot with
    | none => rfl
    | some s =>
      unfold World.cell? at this
      split at this
      · simp [Addr.add, hs] at this
      · cases this
  obtain ⟨b, off, spot⟩ := a
  obtain rfl : spot = none := hsp
  have hlen : (List.map (fun z => (DataW.lit (Lit.int kd z) : DataW Unit)) zs).length = (zs.map (AV.int kd)).length := by simp
  rw [hlen]
  refine .slc 1 (zs.map (AV.int kd)) .unk b off cap (fun i _ => .int kd (zs.getD i 0)) (by simp) (by simpa using hle) (by simp) ?_ ?_ ?_
  · intro v hv
    obtain ⟨z, _, rfl⟩ := List.mem_map.1 hv
    rfl
  · intro i j hi hj
    rw [List.length_map] at hi
    obtain rfl : j = 0 := by omega
    have := hat i zs[i] (List.getElem?_eq_getElem hi)
    simp only [Addr.add] at this
    have e1 : off + (i * 1 + 0) = off + i := by omega
    rw [e1]
    show W.cell? ⟨b, off + i, none⟩ = some (Value.int kd (zs.getD i 0))
    have e2 : (if i = 0 then ({ block := b, off := off } : Addr) else { block := b, off := off + i }) = ⟨b, off + i, none⟩ := by
      split
      · rename_i h0; subst h0; rfl
      · rfl
    rw [e2] at this
    refine Eq.trans this ?_
    rw [List.getD_eq_getElem?_getD, List.getElem?_eq_getElem hi]
    rfl
  · intro i v j u hv hu
    rw [List.getElem?_map] at hv
    cases hz : zs[i]? with
    | none => rw [hz] at hv; cases hv
    | some z =>
      rw [hz] at hv
      cases hv
      have hj : j = 0 ∧ u = .int kd z := by
        cases j with
        | zero => simp [AV.cells] at hu; exact ⟨rfl, hu.symm⟩
        | succ j => simp [AV.cells] at hu
      obtain ⟨rfl, rfl⟩ := hj
      have : zs.getD i 0 = z := by rw [List.getD_eq_getElem?_getD, hz]; rfl
      simp only [this]
      exact .int kd z

end

def rowOf (x : List UInt8 × DataW Unit × AV) : AV := .tup [.str x.1, x.2.2]

theorem once_of : ∀ {kvd : List (List UInt8 × DataW Unit × AV)}, (kvd.map (·.1)).Nodup → OnceKeys (kvd.map rowOf)
  | [], _, s => by simp
  | x :: r, h, s => by
    rw [List.map_cons, List.nodup_cons] at h
    have ih := once_of h.2 s
    rw [List.map_cons, List.filter_cons]
    split
    · rename_i hx
      have : (r.map rowOf).filter (fun e => (mapFind s e).isSome) = [] := by
        rw [List.filter_eq_nil_iff]
        intro e he hs
        obtain ⟨y, hy, rfl⟩ := List.mem_map.1 he
        simp [rowOf, mapFind] at hs hx
        have e1 : x.1 = s := by by_cases q : x.1 = s; exact q; simp [q] at hx
        have e2 : y.1 = s := by by_cases q : y.1 = s; exact q; simp [q] at hs
        exact h.1 (by rw [e1, ← e2]; exact List.mem_map_of_mem hy)
      rw [this]; simp
    · exact ih

theorem nodup_inj {α β : Type} {f : α → β} : ∀ {L : List α}, (L.map f).Nodup → ∀ {a b : α}, a ∈ L → b ∈ L → f a = f b → a = b
  | x :: r, h, a, b, ha, hb, e => by
    rw [List.map_cons, List.nodup_cons] at h
    rcases List.mem_cons.1 ha with h1 | h1 <;> rcases List.mem_cons.1 hb with h2 | h2
    · rw [h1, h2]
    · subst h1
      exact absurd (by rw [e]; exact List.mem_map_of_mem h2) h.1
    · subst h2
      exact absurd (by rw [← e]; exact List.mem_map_of_mem h1) h.1
    · exact nodup_inj h.2 h1 h2 e

theorem nodup_of_map {α β : Type} {f : α → β} : ∀ {L : List α}, (L.map f).Nodup → L.Nodup
  | [], _ => .nil
  | x :: r, h => by
    rw [List.map_cons, List.nodup_cons] at h
    exact List.nodup_cons.2 ⟨fun hx => h.1 (List.mem_map_of_mem hx), nodup_of_map h.2⟩

theorem perm_of_keys {L L' : List (List UInt8 × DataW Unit × AV)} (hd : (L.map (·.1)).Nodup) (hp : (L.map (·.1)).Perm (L'.map (·.1))) (hs : ∀ y, y ∈ L' → y ∈ L) : L.Perm L' := by
  refine (List.perm_ext_iff_of_nodup (nodup_of_map hd) (nodup_of_map (hp.nodup_iff.1 hd))).2 fun a => ⟨fun ha => ?_, hs a⟩
  obtain ⟨b, hb, e⟩ := List.mem_map.1 (hp.mem_iff.1 (List.mem_map_of_mem ha))
  exact nodup_inj hd (hs b hb) ha e ▸ hb

theorem laid_map {P : Program} {W : World} {laid : List (String × DataW Unit)} (hL : laidMet P laid W) {n : String} {kvd : List (List UInt8 × DataW Unit × AV)} (h : (n, .map (kvd.map fun x => (.string x.1, x.2.1))) ∈ laid) {g : Nat} {t k e : TypeId}
    (hg : P.globalNamed n = some g) (hty : (P.globals[g]?).map (·.type) = some t) (ht : P.underlying t = some (.map k e)) (hk : P.underlying k = some .string) (hd : (kvd.map (·.1)).Nodup) (hp : ∀ x, x ∈ kvd → x.2.2.pure = true)
    (hv : ∀ x, x ∈ kvd → ∀ v m p map, v.formed P e = true → DataW.trod (fun _ => ()) P W 0 (fun _ => true) false m e v.cells.toList = some (x.2.1, p) → RV (fun a => W.cell? a) map (fun _ => none) x.2.2 v) :
    ∃ b es cl, W.cell? ⟨g, 0, none⟩ = some (.map (some b)) ∧ W.heap[b]? = some (.map es cl) ∧ ∀ map : Nat → Option Obj, map b = some (.map es cl) → RV (fun a => W.cell? a) map (fun _ => none) (.map (kvd.map rowOf)) (.map (some b)) := by
  obtain ⟨g', t', cs, fuel, p, h1, h2, h3, h4⟩ := laid_at hL h
  obtain rfl := Option.some.inj (hg.symm.trans h1)
  obtain rfl := Option.some.inj (hty.symm.trans h2)
  rcases WideElems.open_map ht h4 with ⟨_, hx⟩ | ⟨b, es, cl, m, rfl, hcs, hb, _, F, hx⟩
  · cases hx
  have hc : W.cell? ⟨g, 0, none⟩ = some (.map (some b)) := by
    have := World.var?_cell hg h3 0
    rw [Array.eq_one_of_toList hcs] at this
    simpa using this
  refine ⟨b, es, cl, hc, hb, fun map hm => ?_⟩
  simp only [Prod.mk.injEq, DataW.map.injEq] at hx
  have hperm : (kvd.map fun x => ((Lit.string x.1, x.2.1) : Lit × DataW Unit)).Perm (es.toList.map (WideElems.rg P k (WideElems.elemAt (fun _ => ()) P W 0 (fun _ => true) false m e))) := by
    rw [hx.1]
    exact WideShapes.sorted_perm _
  -- every entry reads as one of the listed ones
  have hent : ∀ (i : Nat) (x : MapEntry), es[i]? = some x → ∃ y, y ∈ kvd ∧ x.key = .string ⟨y.1.toArray⟩ ∧ RV (fun a => W.cell? a) map (fun _ => none) y.2.2 x.val ∧ WideElems.rg P k (WideElems.elemAt (fun _ => ()) P W 0 (fun _ => true) false m e) x = (Lit.string y.1, y.2.1) := by
    intro i x hx
    have hxm : x ∈ es.toList := by rw [Array.mem_toList_iff]; exact Array.mem_of_getElem? hx
    obtain ⟨y, hy⟩ := F.reads x hxm
    have hrg : WideElems.rg P k (WideElems.elemAt (fun _ => ()) P W 0 (fun _ => true) false m e) x = y := by unfold WideElems.rg; rw [hy]; rfl
    have hmem : y ∈ kvd.map fun x => ((Lit.string x.1, x.2.1) : Lit × DataW Unit) := hperm.mem_iff.2 (List.mem_map.2 ⟨x, hxm, hrg⟩)
    obtain ⟨z, hz, rfl⟩ := List.mem_map.1 hmem
    have hkey := WideElems.rd_key hy
    obtain ⟨u, hu1, hu2, _⟩ := Maps.keyOf_str hk hkey
    obtain ⟨r, hr1, hr2⟩ := WideElems.rd_val hy
    cases hu2
    refine ⟨z, hz, hu1, ?_, hrg⟩
    unfold WideElems.elemAt at hr1
    split at hr1
    · rename_i hf
      obtain ⟨r1, r2⟩ := r
      simp only at hr2
      subst hr2
      exact hv z hz x.val m r2 map hf hr1
    · cases hr1
  have hent2 : ∀ i : Nat, ∃ y : List UInt8 × DataW Unit × AV, ∀ x : MapEntry, es[i]? = some x → y ∈ kvd ∧ x.key = .string ⟨y.1.toArray⟩ ∧ RV (fun a => W.cell? a) map (fun _ => none) y.2.2 x.val ∧ WideElems.rg P k (WideElems.elemAt (fun _ => ()) P W 0 (fun _ => true) false m e) x = (Lit.string y.1, y.2.1) := fun i => by
    cases hx : es[i]? with
    | none => exact ⟨([], .nil, .undef), fun x h => by cases h⟩
    | some x =>
      obtain ⟨y, hy⟩ := hent i x hx
      exact ⟨y, fun x' h => by cases h; exact hy⟩
  obtain ⟨Y, hY⟩ := Classical.skolem.1 hent2
  have hmap : es.toList.map (WideElems.rg P k (WideElems.elemAt (fun _ => ()) P W 0 (fun _ => true) false m e)) = ((List.range es.size).map Y).map fun x => ((Lit.string x.1, x.2.1) : Lit × DataW Unit) := by
    apply List.ext_getElem
    · simp
    · intro i h1 h2
      simp only [List.length_map, Array.length_toList] at h1
      simp only [List.getElem_map, List.getElem_range, Array.getElem_toList]
      exact (hY i es[i] (Array.getElem?_eq_getElem h1)).2.2.2
  rw [hmap] at hperm
  have hkeys : (kvd.map (·.1)).Perm (((List.range es.size).map Y).map (·.1)) := by
    have := hperm.map (fun x : Lit × DataW Unit => match x.1 with | .string s => s | _ => [])
    simpa [List.map_map, Function.comp_def] using this
  have hsub : ∀ y, y ∈ (List.range es.size).map Y → y ∈ kvd := fun y hy => by
    obtain ⟨i, hi, rfl⟩ := List.mem_map.1 hy
    have hi : i < es.size := by simpa using hi
    exact (hY i es[i] (Array.getElem?_eq_getElem hi)).1
  have hP : kvd.Perm ((List.range es.size).map Y) := perm_of_keys hd hkeys hsub
  refine .map (kvd.map rowOf) b es cl hm (fun i => (Y i).1) (fun i => (Y i).2.2) ?_ ?_ ?_ ?_ ?_
  · have := hP.length_eq
    simpa using this
  · intro s
    rw [find_perm (hP.map rowOf) (once_of hd) s, List.map_map]
    rfl
  · intro i x hx
    exact (hY i x hx).2.1
  · intro i hi
    exact hp _ (hY i es[i] (Array.getElem?_eq_getElem hi)).1
  · intro i x hx
    exact (hY i x hx).2.2.1

end Go.VA
