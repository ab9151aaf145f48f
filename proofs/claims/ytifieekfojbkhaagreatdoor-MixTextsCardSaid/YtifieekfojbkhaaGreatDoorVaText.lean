/-
  Texts: cut at a byte, joined; numerals. Plain lists, no program.
-/
import Derived.Lib.AtoiAllCases
import Derived.Lib.ItoaNum
import Derived.Lib.Split
import Derived.Lib.SplitLaws
import Derived.Lib.Join
import Derived.Lib.Strings
import Derived.Lib.IndexMore
set_option linter.unusedSimpArgs false
set_option linter.unusedVariables false
namespace Go.VA
open Go

/-- Digits read one by one. -/
def digV : List UInt8 → Nat → Option Nat
  | [], n => some n
  | x :: r, n => if 48 ≤ x.toNat ∧ x.toNat ≤ 57 then digV r (10 * n + (x.toNat - 48)) else none

theorem digV_append (l : List UInt8) : ∀ (m : List UInt8) (n : Nat), digV (l ++ m) n = (digV l n).bind (digV m) := by
  induction l with
  | nil => intro m n; rfl
  | cons x r ih =>
    intro m n
    simp only [List.cons_append, digV]
    split
    · exact ih m _
    · rfl

theorem digV_lt : ∀ (l : List UInt8) (n v : Nat), digV l n = some v → v < (n + 1) * 10 ^ l.length
  | [], n, v, h => by simp only [digV, Option.some.injEq] at h; subst h; simp
  | x :: r, n, v, h => by
    simp only [digV] at h
    split at h
    · have ih := digV_lt r _ v h
      have : (10 * n + (x.toNat - 48) + 1) * 10 ^ r.length ≤ ((n + 1) * 10) * 10 ^ r.length := Nat.mul_le_mul_right _ (by omega)
      rw [List.length_cons, Nat.pow_succ, Nat.mul_comm (10 ^ r.length) 10, ← Nat.mul_assoc]
      omega
    · cases h

theorem parseUint10_digV : ∀ (l : List UInt8) (a : Nat), (a + 1) * 10 ^ l.length ≤ 10 ^ 19 → Lib.parseUint10 a l = match digV l a with | some v => .ok v | none => Lib.parseMag []
  | [], a, _ => rfl
  | x :: r, a, h => by
    simp only [Lib.parseUint10, digV]
    split
    · rename_i hx
      rw [List.length_cons, Nat.pow_succ, Nat.mul_comm (10 ^ r.length) 10, ← Nat.mul_assoc] at h
      have h1 : (a + 1) * 10 * 1 ≤ (a + 1) * 10 * 10 ^ r.length := Nat.mul_le_mul_left _ (Nat.pow_pos (by omega))
      have h2 : (10 * a + (x.toNat - 48) + 1) * 10 ^ r.length ≤ (a + 1) * 10 * 10 ^ r.length := Nat.mul_le_mul_right _ (by omega)
      rw [if_neg (by omega), if_neg (by omega), Nat.mul_comm a 10]
      exact parseUint10_digV r _ (by omega)
    · rfl

theorem digit_toNat {k : Nat} (h : k < 10) : (UInt8.ofNat (48 + k)).toNat = 48 + k := by
  simp [UInt8.toNat_ofNat', Nat.mod_eq_of_lt (show 48 + k < 256 by omega)]

theorem decDigits_spec (u : Nat) : digV (Lib.decDigits u) 0 = some u ∧ Lib.decDigits u ≠ [] ∧ (∀ x, x ∈ Lib.decDigits u → 48 ≤ x.toNat ∧ x.toNat ≤ 57) ∧ (u ≠ 0 → ∀ x r, Lib.decDigits u = x :: r → x ≠ 48) := by
  induction u using Nat.strongRecOn with
  | _ u ih =>
    rw [Lib.decDigits]
    split
    · rename_i h
      have hd := digit_toNat h
      refine ⟨?_, by simp, ?_, ?_⟩
      · simp only [digV, hd]
        rw [if_pos (by omega)]
        simp
      · intro x hx
        simp only [List.mem_singleton] at hx
        subst hx
        rw [hd]
        omega
      · intro hu x r hx e
        simp only [List.cons.injEq] at hx
        rw [← hx.1] at e
        have := congrArg UInt8.toNat e
        rw [hd] at this
        have h48 : (48 : UInt8).toNat = 48 := rfl
        omega
    · rename_i h
      have hd := digit_toNat (Nat.mod_lt u (show 0 < 10 by omega))
      obtain ⟨h1, h2, h3, h4⟩ := ih (u / 10) (by omega)
      refine ⟨?_, by simp, ?_, ?_⟩
      · rw [digV_append, h1]
        simp only [Option.bind_some, digV, hd]
        rw [if_pos (by omega)]
        congr 1
        omega
      · intro x hx
        rw [List.mem_append] at hx
        rcases hx with hx | hx
        · exact h3 x hx
        · simp only [List.mem_singleton] at hx
          subst hx
          rw [hd]
          omega
      · intro _ x r hx
        cases hq : Lib.decDigits (u / 10) with
        | nil => exact absurd hq h2
        | cons y t =>
          rw [hq] at hx
          simp only [List.cons_append, List.cons.injEq] at hx
          rw [← hx.1]
          exact h4 (by omega) y t hq

theorem digV_snoc {l : List UInt8} {x : UInt8} {n v : Nat} (h : digV (l ++ [x]) n = some v) : ∃ u, digV l n = some u ∧ 48 ≤ x.toNat ∧ x.toNat ≤ 57 ∧ v = 10 * u + (x.toNat - 48) := by
  rw [digV_append, Option.bind_eq_some_iff] at h
  obtain ⟨u, h1, h2⟩ := h
  simp only [digV] at h2
  split at h2
  · rename_i hx
    cases h2
    exact ⟨u, h1, hx.1, hx.2, rfl⟩
  · cases h2

theorem digV_pos : ∀ (l : List UInt8) (n v : Nat), digV l n = some v → n ≤ v
  | [], n, v, h => by simp only [digV, Option.some.injEq] at h; omega
  | x :: r, n, v, h => by
    simp only [digV] at h
    split at h
    · have := digV_pos r _ v h; omega
    · cases h

/-- A numeral without a zero ahead is that of its number. -/
theorem decDigits_digV : ∀ (k : Nat) (l : List UInt8) (v : Nat), l.length = k → l ≠ [] → (∀ x r, l = x :: r → x = 48 → r = []) → digV l 0 = some v → Lib.decDigits v = l
  | 0, l, v, hk, hn, _, _ => absurd (List.length_eq_zero_iff.1 hk) hn
  | k + 1, l, v, hk, hn, hz, h => by
    obtain ⟨m, x, rfl⟩ : ∃ m x, l = m ++ [x] := ⟨l.dropLast, l.getLast hn, (List.dropLast_concat_getLast hn).symm⟩
    obtain ⟨u, h1, h2, h3, rfl⟩ := digV_snoc h
    have hx : UInt8.ofNat (48 + (x.toNat - 48)) = x := by
      apply UInt8.toNat_inj.1
      rw [digit_toNat (by omega)]
      omega
    cases m with
    | nil =>
      simp only [digV, Option.some.injEq] at h1
      subst h1
      rw [Lib.decDigits, dif_pos (by omega)]
      simp only [List.nil_append]
      rw [show 10 * 0 + (x.toNat - 48) = x.toNat - 48 by omega, hx]
    | cons y t =>
      have hy : y ≠ 48 := fun e => by
        have := hz y (t ++ [x]) (by simp) e
        simp at this
      have hu : u ≠ 0 := by
        intro e
        subst e
        simp only [digV] at h1
        split at h1
        · rename_i hd
          have := digV_pos _ _ _ h1
          apply hy
          apply UInt8.toNat_inj.1
          show y.toNat = 48
          omega
        · cases h1
      have ih := decDigits_digV k (y :: t) u (by simp at hk ⊢; omega) (by simp) (fun x' r e e' => by
        simp only [List.cons.injEq] at e
        exact absurd (e.1.trans e') hy) h1
      rw [Lib.decDigits, dif_neg (by omega), show (10 * u + (x.toNat - 48)) / 10 = u by omega, show (10 * u + (x.toNat - 48)) % 10 = x.toNat - 48 by omega, ih, hx]

/-- s is the numeral of v, of at most d digits. -/
def IsLit (d : Nat) (s : List UInt8) (v : Int) : Prop := s = Lib.itoa v ∧ (Lib.decDigits v.natAbs).length ≤ d

theorem itoa_neg {v : Int} (h : v < 0) : Lib.itoa v = 45 :: Lib.decDigits v.natAbs := by unfold Lib.itoa; rw [if_pos h]
theorem itoa_nonneg {v : Int} (h : ¬ v < 0) : Lib.itoa v = Lib.decDigits v.natAbs := by
  unfold Lib.itoa; rw [if_neg h]; congr 1; omega

theorem decDigits_inj {a b : Nat} (h : Lib.decDigits a = Lib.decDigits b) : a = b := by
  have h1 := (decDigits_spec a).1
  rw [h, (decDigits_spec b).1] at h1
  exact (Option.some.inj h1).symm

theorem decDigits_head {u : Nat} {x : UInt8} {r : List UInt8} (h : Lib.decDigits u = x :: r) : 48 ≤ x.toNat ∧ x.toNat ≤ 57 :=
  (decDigits_spec u).2.2.1 x (by rw [h]; simp)

theorem itoa_inj {a b : Int} (h : Lib.itoa a = Lib.itoa b) : a = b := by
  by_cases ha : a < 0 <;> by_cases hb : b < 0
  · rw [itoa_neg ha, itoa_neg hb, List.cons.injEq] at h
    have := decDigits_inj h.2
    omega
  · rw [itoa_neg ha, itoa_nonneg hb] at h
    have := decDigits_head h.symm
    simp at this
  · rw [itoa_nonneg ha, itoa_neg hb] at h
    have := decDigits_head h
    simp at this
  · rw [itoa_nonneg ha, itoa_nonneg hb] at h
    have := decDigits_inj h
    omega

theorem trim_itoa (v : Int) : Lib.trimPrefix (Lib.itoa v) [45] = Lib.decDigits v.natAbs := by
  by_cases h : v < 0
  · rw [itoa_neg h]
    simp [Lib.trimPrefix, Lib.hasPrefix, List.isPrefixOf]
  · rw [itoa_nonneg h]
    cases hd : Lib.decDigits v.natAbs with
    | nil => exact absurd hd (decDigits_spec _).2.1
    | cons x r =>
      have hx := decDigits_head hd
      have : ((45 : UInt8) == x) = false := by
        rw [beq_eq_false_iff_ne]
        intro e
        subst e
        simp at hx
      simp [Lib.trimPrefix, Lib.hasPrefix, List.isPrefixOf, this]

theorem atoi_itoa {v : Int} {d : Nat} (hd : d ≤ 18) (h : (Lib.decDigits v.natAbs).length ≤ d) : Lib.atoiAll (Lib.itoa v) = .ok v := by
  obtain ⟨h1, h2, h3, h4⟩ := decDigits_spec v.natAbs
  have hp : 10 ^ (Lib.decDigits v.natAbs).length ≤ 10 ^ 18 := Nat.pow_le_pow_right (by omega) (by omega)
  have hv := digV_lt _ _ _ h1
  have hm : Lib.parseMag (Lib.decDigits v.natAbs) = .ok v.natAbs := by
    unfold Lib.parseMag
    rw [if_neg h2, parseUint10_digV _ _ (by omega), h1]
  by_cases hn : v < 0
  · rw [itoa_neg hn, Lib.atoiAll_minus, hm]
    simp only [Lib.signed]
    rw [if_neg (by omega)]
    congr 1
    omega
  · rw [itoa_nonneg hn]
    cases hq : Lib.decDigits v.natAbs with
    | nil => exact absurd hq h2
    | cons x r =>
      have hx := decDigits_head hq
      rw [Lib.atoiAll_plain x r (by omega) (by omega), ← hq, hm]
      simp only [Lib.signless]
      rw [if_neg (by omega)]
      congr 1
      omega

/-- What the program asks of a number's text. -/
def lit (d : Nat) (s : List UInt8) : Option Int := match Lib.atoiAll s with
  | .ok v => if Lib.itoa v = s ∧ (Lib.trimPrefix s [45]).length ≤ d then some v else none
  | _ => none

theorem lit_iff {d : Nat} (hd : d ≤ 18) (s : List UInt8) (v : Int) : lit d s = some v ↔ IsLit d s v := by
  unfold lit IsLit
  constructor
  · intro h
    split at h
    · split at h
      · rename_i h1
        cases h
        refine ⟨h1.1.symm, ?_⟩
        have := h1.2
        rw [← h1.1, trim_itoa] at this
        exact this
      · cases h
    · cases h
  · rintro ⟨rfl, h⟩
    rw [atoi_itoa hd h]
    dsimp only
    rw [if_pos ⟨rfl, by rw [trim_itoa]; exact h⟩]

/-- What the references ask of it: the sign, then digits. -/
def numRef (d : Nat) (s : List UInt8) : Option Int :=
  match s with
  | [] => none
  | x :: r =>
    if x = 45 then
      (match r with
      | [] => none
      | y :: _ => if d < r.length ∨ y = 48 then none else (digV r 0).map fun v : Nat => -(v : Int))
    else (if d < s.length ∨ (x = 48 ∧ 0 < r.length) then none else (digV s 0).map fun v : Nat => (v : Int))

theorem numRef_iff {d : Nat} (s : List UInt8) (v : Int) : numRef d s = some v ↔ IsLit d s v := by
  unfold IsLit
  cases s with
  | nil =>
    simp only [numRef]
    constructor
    · intro h; cases h
    · rintro ⟨h, _⟩
      by_cases hv : v < 0
      · rw [itoa_neg hv] at h; cases h
      · rw [itoa_nonneg hv] at h
        exact absurd h.symm (decDigits_spec _).2.1
  | cons x r =>
    by_cases h45 : x = 45
    · subst h45
      have hneg : ∀ {v : Int}, (45 :: r = Lib.itoa v) → v < 0 ∧ r = Lib.decDigits v.natAbs := by
        intro v h
        by_cases hv : v < 0
        · rw [itoa_neg hv, List.cons.injEq] at h
          exact ⟨hv, h.2⟩
        · rw [itoa_nonneg hv] at h
          have := decDigits_head h.symm
          simp at this
      cases r with
      | nil =>
        simp only [numRef]
        constructor
        · intro h; simp at h
        · rintro ⟨h, _⟩
          exact absurd (hneg h).2.symm (decDigits_spec _).2.1
      | cons y t =>
        simp only [numRef, if_true]
        constructor
        · intro h
          split at h
          · cases h
          · rename_i hc
            rw [Option.map_eq_some_iff] at h
            obtain ⟨u, hu, rfl⟩ := h
            have hdd := decDigits_digV _ (y :: t) u rfl (by simp) (fun x r e e' => by
              simp only [List.cons.injEq] at e
              exact absurd (Or.inr (e.1.trans e')) hc) hu
            have hu0 : 0 < u := by
              rcases Nat.eq_zero_or_pos u with e | e
              · subst e
                rw [Lib.decDigits, dif_pos (by omega)] at hdd
                simp only [List.cons.injEq] at hdd
                exact absurd (Or.inr hdd.1.symm) hc
              · exact e
            have hlt : -(u : Int) < 0 := by omega
            have hab : (-(u : Int)).natAbs = u := by omega
            rw [itoa_neg hlt, hab, hdd]
            refine ⟨rfl, ?_⟩
            rcases Nat.lt_or_ge d (y :: t).length with h | h
            · exact absurd (Or.inl h) hc
            · exact h
        · rintro ⟨h, hl⟩
          obtain ⟨hv, hr⟩ := hneg h
          rw [← hr] at hl
          obtain ⟨k1, k2, k3, k4⟩ := decDigits_spec v.natAbs
          rw [if_neg, hr, k1]
          · simp only [Option.map_some, Option.some.injEq]; omega
          · rintro (h | h)
            · omega
            · exact k4 (by omega) y t hr.symm h
    · have hpos : ∀ {v : Int}, (x :: r = Lib.itoa v) → ¬ v < 0 := by
        intro v h hv
        rw [itoa_neg hv, List.cons.injEq] at h
        exact h45 h.1
      simp only [numRef]
      rw [if_neg h45]
      constructor
      · intro h
        split at h
        · cases h
        · rename_i hc
          rw [Option.map_eq_some_iff] at h
          obtain ⟨u, hu, rfl⟩ := h
          have hdd := decDigits_digV _ (x :: r) u rfl (by simp) (fun x' r' e e' => by
            simp only [List.cons.injEq] at e
            rcases Nat.eq_zero_or_pos r.length with e0 | e0
            · rw [← e.2]; exact List.length_eq_zero_iff.1 e0
            · exact absurd (Or.inr ⟨e.1.trans e', e0⟩) hc) hu
          have hab : ((u : Int)).natAbs = u := by omega
          rw [itoa_nonneg (by omega), hab, hdd]
          refine ⟨rfl, ?_⟩
          rcases Nat.lt_or_ge d (x :: r).length with h | h
          · exact absurd (Or.inl h) hc
          · exact h
      · rintro ⟨h, hl⟩
        have hv := hpos h
        rw [itoa_nonneg hv] at h
        rw [← h] at hl
        obtain ⟨k1, k2, k3, k4⟩ := decDigits_spec v.natAbs
        rw [if_neg, h, k1]
        · simp only [Option.map_some, Option.some.injEq]; omega
        · rintro (h' | ⟨h1, h2⟩)
          · omega
          · by_cases h0 : v.natAbs = 0
            · rw [h0, Lib.decDigits, dif_pos (by omega)] at h
              simp only [List.cons.injEq] at h
              rw [h.2] at h2
              simp at h2
            · exact k4 h0 x r h.symm h1

theorem numRef_lit {d : Nat} (hd : d ≤ 18) (s : List UInt8) : numRef d s = lit d s := by
  apply Option.ext
  intro v
  rw [numRef_iff, lit_iff hd]

/-- A text cut at a byte. -/
def cutAt (c : UInt8) : List UInt8 → List (List UInt8)
  | [] => [[]]
  | x :: r => if x = c then [] :: cutAt c r else match cutAt c r with
    | h :: t => (x :: h) :: t
    | [] => [[x]]

theorem cutAt_ne (c : UInt8) : ∀ s, cutAt c s ≠ []
  | [] => by simp [cutAt]
  | x :: r => by
    simp only [cutAt]
    split
    · simp
    · split <;> simp

theorem cutAt_cons {c x : UInt8} (h : x ≠ c) (r : List UInt8) : ∃ a t, cutAt c r = a :: t ∧ cutAt c (x :: r) = (x :: a) :: t := by
  cases hq : cutAt c r with
  | nil => exact absurd hq (cutAt_ne c r)
  | cons a t => exact ⟨a, t, rfl, by simp [cutAt, h, hq]⟩

theorem cutAt_length (c : UInt8) : ∀ s, (cutAt c s).length = s.count c + 1
  | [] => rfl
  | x :: r => by
    have ih := cutAt_length c r
    by_cases h : x = c
    · subst h; simp [cutAt, ih]
    · obtain ⟨a, t, h1, h2⟩ := cutAt_cons h r
      rw [h1] at ih
      rw [h2, List.count_cons_of_ne (by simpa using h)]
      simpa using ih

theorem cutAt_mem (c : UInt8) : ∀ s w, w ∈ cutAt c s → w.length ≤ s.length ∧ c ∉ w
  | [], w, h => by simp only [cutAt, List.mem_singleton] at h; subst h; simp
  | x :: r, w, h => by
    by_cases hx : x = c
    · subst hx
      simp only [cutAt, if_true, List.mem_cons] at h
      rcases h with rfl | h
      · simp
      · have := cutAt_mem x r w h
        exact ⟨by simp; omega, this.2⟩
    · obtain ⟨a, t, h1, h2⟩ := cutAt_cons hx r
      rw [h2, List.mem_cons] at h
      rcases h with rfl | h
      · have := cutAt_mem c r a (by rw [h1]; simp)
        refine ⟨by simp; omega, ?_⟩
        simp only [List.mem_cons, not_or]
        exact ⟨fun e => hx e.symm, this.2⟩
      · have := cutAt_mem c r w (by rw [h1]; simp [h])
        exact ⟨by simp; omega, this.2⟩

theorem join_cutAt (c : UInt8) : ∀ s, Lib.join (cutAt c s) [c] = s
  | [] => by simp [cutAt, Lib.join]
  | x :: r => by
    have ih := join_cutAt c r
    by_cases hx : x = c
    · subst hx
      cases hq : cutAt x r with
      | nil => exact absurd hq (cutAt_ne x r)
      | cons a t =>
        rw [hq] at ih
        rw [Lib.join_cons] at ih
        simp only [cutAt, if_true, hq]
        rw [Lib.join_cons]
        simp only [List.nil_append, Lib.joinTail, List.map_cons, List.flatten_cons, List.cons_append] at ih ⊢
        rw [ih]
    · obtain ⟨a, t, h1, h2⟩ := cutAt_cons hx r
      rw [h1, Lib.join_cons] at ih
      rw [h2, Lib.join_cons, List.cons_append, ih]

theorem cutAt_none {c : UInt8} : ∀ {s : List UInt8}, c ∉ s → cutAt c s = [s]
  | [], _ => rfl
  | x :: r, h => by
    simp only [List.mem_cons, not_or] at h
    have hx : x ≠ c := fun e => h.1 e.symm
    simp only [cutAt, if_neg hx, cutAt_none h.2]

theorem cutAt_append {c : UInt8} : ∀ {a : List UInt8} (b : List UInt8), c ∉ a → cutAt c (a ++ c :: b) = a :: cutAt c b
  | [], b, _ => by simp [cutAt]
  | x :: a, b, h => by
    simp only [List.mem_cons, not_or] at h
    have hx : x ≠ c := fun e => h.1 e.symm
    simp only [List.cons_append, cutAt, if_neg hx, cutAt_append b h.2]

theorem cutAt_join (c : UInt8) : ∀ (ws : List (List UInt8)), ws ≠ [] → (∀ w, w ∈ ws → c ∉ w) → cutAt c (Lib.join ws [c]) = ws
  | [], h, _ => absurd rfl h
  | [w], _, h => by
    rw [Lib.join_cons]
    simp only [Lib.joinTail, List.map_nil, List.flatten_nil, List.append_nil]
    exact cutAt_none (h w (by simp))
  | w :: v :: r, _, h => by
    have ih := cutAt_join c (v :: r) (by simp) fun x hx => h x (by simp [hx])
    rw [Lib.join_cons] at ih ⊢
    simp only [Lib.joinTail, List.map_cons, List.flatten_cons, List.cons_append, List.nil_append] at ih ⊢
    rw [cutAt_append _ (h w (by simp)), ih]

theorem index_one (c : UInt8) : ∀ s : List UInt8, (c ∉ s ∧ Lib.index s [c] = -1) ∨ ∃ a b, s = a ++ c :: b ∧ c ∉ a ∧ Lib.index s [c] = a.length
  | [] => .inl ⟨by simp, by simp [Lib.index]⟩
  | x :: r => by
    by_cases hx : c = x
    · subst hx
      exact .inr ⟨[], r, rfl, by simp, by rw [Lib.index]; simp [List.isPrefixOf]⟩
    · have hp : ([c] : List UInt8).isPrefixOf (x :: r) = false := by simp [List.isPrefixOf, hx]
      rcases index_one c r with ⟨h1, h2⟩ | ⟨a, b, rfl, h2, h3⟩
      · refine .inl ⟨by simp [hx, h1], ?_⟩
        rw [Lib.index, hp, h2]; simp
      · refine .inr ⟨x :: a, b, rfl, by simp [hx, h2], ?_⟩
        rw [Lib.index, hp, h3]
        have : ((a.length : Int) == -1) = false := by simp
        simp [this]

theorem splitK_cutAt (c : UInt8) : ∀ (k : Nat) (s : List UInt8), s.count c = k → Lib.splitK [c] 0 k s = cutAt c s
  | 0, s, h => by
    rw [cutAt_none (List.count_eq_zero.1 h)]
    rfl
  | k + 1, s, h => by
    rcases index_one c s with ⟨h1, _⟩ | ⟨a, b, rfl, h2, h3⟩
    · rw [List.count_eq_zero.2 h1] at h
      cases h
    · have hn : ((a.length : Int) == -1) = false := by simp
      have hk : b.count c = k := by
        rw [List.count_append, List.count_eq_zero.2 h2, List.count_cons_self] at h
        omega
      rw [Lib.splitK, h3, hn, cutAt_append b h2, ← splitK_cutAt c k b hk]
      simp

theorem split_cutAt (c : UInt8) (s : List UInt8) : Lib.splitK [c] 0 (Lib.countB ⟨s.toArray⟩ ⟨[c].toArray⟩) s = cutAt c s := by
  apply splitK_cutAt
  unfold Lib.countB
  simp only [Lib.count_one]

theorem contains_one (c : UInt8) (s : List UInt8) : Lib.contains s [c] = decide (c ∈ s) := by
  unfold Lib.contains
  rcases index_one c s with ⟨h1, h2⟩ | ⟨a, b, rfl, h2, h3⟩
  · simp [h1, h2]
  · simp [h3]

end Go.VA
