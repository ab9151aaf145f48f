/-
  What the two FormatFill answer: the same text.
-/
import Derived.Test.YtifieekfojbkhaaGreatDoorSpecB
set_option linter.unusedSimpArgs false
set_option linter.unusedVariables false
namespace Go.Proofs.YtifieekfojbkhaaGreatDoor
open Go Go.VA

def I64 (n : Int) : Prop := -9223372036854775808 ≤ n ∧ n ≤ 9223372036854775807

theorem digs_len : ∀ (k : Nat) (m : Int), m.natAbs < 10 ^ k → (digs m).length ≤ k := by
  intro k
  induction k with
  | zero => intro m hm; simp at hm; subst hm; simp [digs]
  | succ k ih =>
    intro m hm
    by_cases hm0 : m = 0
    · subst hm0; simp [digs]
    · have hd : (m.tdiv 10).natAbs = m.natAbs / 10 := by rw [Int.natAbs_tdiv]; rfl
      have := ih (m.tdiv 10) (by rw [hd]; rw [Nat.pow_succ] at hm; omega)
      rw [digs_step hm0]
      simp
      omega

theorem itoa_len {n : Int} (h : I64 n) : (Lib.itoa n).length ≤ 20 := by
  have h1 := digs_len 19 n (by have := h.1; have := h.2; omega)
  by_cases h0 : n = 0
  · subst h0
    have : Lib.itoa 0 = [48] := by unfold Lib.itoa Lib.decDigits; rfl
    simp [this]
  · unfold digs at h1
    rw [if_neg h0] at h1
    unfold Lib.itoa
    split
    · simp; omega
    · have : n.toNat = n.natAbs := by omega
      rw [this]; omega

theorem strconv_Itoa_eq {n : Int} (h : I64 n) (mem : Mem) : callD C n_strconv_Itoa [.int .i64 n] mem = some (.str (Lib.itoa n), mem) := by
  rw [callD_prim (q := qItoa) rfl]
  simp [qItoa, h.1, h.2]

def fillAV (k d : Int) (fr to : List UInt8) (ox he am : Int) (pu : Bool) : AV := .agg [.int .i64 k, .int .i64 d, .str fr, .str to, .int .i64 ox, .int .i64 he, .int .i64 am, .bool pu]

def wordsOf (k d : Int) (fr to : List UInt8) (ox he am : Int) (pu : Bool) : List (List UInt8) :=
  if k = 0 then [[105, 110], Lib.itoa d, to, Lib.itoa ox, Lib.itoa he, Lib.itoa am]
  else if k = 1 then [if pu then [112, 117, 109, 112] else [109, 111, 118, 101], Lib.itoa d, fr, to, Lib.itoa am]
  else if k = 2 then [[118, 101, 110, 116], Lib.itoa d, fr, Lib.itoa am]
  else []

def textOf (k d : Int) (fr to : List UInt8) (ox he am : Int) (pu : Bool) : List UInt8 := Lib.join (wordsOf k d fr to ox he am pu) [32]

theorem join_len : ∀ (xs : List (List UInt8)) (sep : List UInt8) (b : Nat), (∀ x, x ∈ xs → x.length ≤ b) → (Lib.join xs sep).length ≤ xs.length * (b + sep.length)
  | [], sep, b, _ => by simp [Lib.join]
  | x :: r, sep, b, h => by
    rw [Lib.join_cons]
    have hx := h x (by simp)
    have : ∀ (r : List (List UInt8)), (∀ x, x ∈ r → x.length ≤ b) → (Lib.joinTail sep r).length ≤ r.length * (b + sep.length) := by
      intro r
      induction r with
      | nil => intro _; simp [Lib.joinTail]
      | cons y r ih =>
        intro h
        have h1 := h y (by simp)
        have h2 := ih fun x hx => h x (by simp [hx])
        simp only [Lib.joinTail, List.map_cons, List.flatten_cons, List.length_append] at h2 ⊢
        simp only [List.length_cons, Nat.add_mul, Nat.one_mul]
        omega
    have := this r fun x hx => h x (by simp [hx])
    simp only [List.length_append, List.length_cons, Nat.add_mul, Nat.one_mul]
    omega

theorem strings_Join_eq (xs : List (List UInt8)) (c : Cap) (hc : c ≠ .own) (sep : List UInt8) (b : Nat) (hx : ∀ x, x ∈ xs → x.length ≤ b) (hb : b + sep.length ≤ 1000) (hl : xs.length ≤ 1000) (mem : Mem) :
    callD C n_strings_Join [.slc 1 (xs.map .str) c, .str sep] mem = some (.str (Lib.join xs sep), mem) := by
  have hs : ∀ xs : List (List UInt8), strsOf (xs.map AV.str) = some xs := by
    intro xs
    induction xs with
    | nil => rfl
    | cons x r ih => simp [strsOf, ih]
  have hj := join_len xs sep b hx
  have : xs.length * (b + sep.length) ≤ 1000 * 1000 := Nat.mul_le_mul hl hb
  rw [callD_prim (q := qJoin) rfl]
  have h1 : (Lib.join xs sep).length ≤ 140737488355328 := by omega
  have h2 : xs.length ≤ 140737488355328 := by omega
  simp [qJoin, hs, hc, h1, h2]

theorem f18_nil (sep : List UInt8) (mem : Mem) : callD C n_strings_Join [.nils, .str sep] mem = some (.str [], mem) := by
  rw [callD_prim (q := qJoin) rfl]
  simp [qJoin]

theorem add_ok {a b : List UInt8} (h : a.length + b.length ≤ 9223372036854775807) : binStr .add a b = some (.str (a ++ b)) := if_pos h

section
variable {k d ox he am : Int} {fr to : List UInt8} {pu : Bool}

set_option maxHeartbeats 2000000 in
theorem mix_FormatFill_eq (hd : I64 d) (ho : I64 ox) (hh : I64 he) (ha : I64 am) (hf : fr.length ≤ 20) (ht : to.length ≤ 20) (mem : Mem) :
    callD C n_mix_FormatFill [fillAV k d fr to ox he am pu] mem = some (.str (textOf k d fr to ox he am pu), mem) := by
  rw [callD_env (af := a_mix_FormatFill) rfl rfl _ _ (by simp [a_mix_FormatFill])]
  have l1 := itoa_len hd
  have l2 := itoa_len ho
  have l3 := itoa_len hh
  have l4 := itoa_len ha
  have c1 := fun m => strconv_Itoa_eq hd m
  have c2 := fun m => strconv_Itoa_eq ho m
  have c3 := fun m => strconv_Itoa_eq hh m
  have c4 := fun m => strconv_Itoa_eq ha m
  by_cases k0 : k = 0
  · subst k0
    have j := fun m => strings_Join_eq [[105, 110], Lib.itoa d, to, Lib.itoa ox, Lib.itoa he, Lib.itoa am] .exact (by simp) [32] 20 (by simp; omega) (by simp) (by simp) m
    simp at j
    simp [a_mix_FormatFill, fillAV, c1, c2, c3, c4, j, textOf, wordsOf]
  · have b0 : (k == 0) = false := by simp [k0]
    by_cases k1 : k = 1
    · subst k1
      cases pu with
      | true =>
        have j := fun m => strings_Join_eq [[112, 117, 109, 112], Lib.itoa d, fr, to, Lib.itoa am] .exact (by simp) [32] 20 (by simp; omega) (by simp) (by simp) m
        simp at j
        simp [a_mix_FormatFill, fillAV, c1, c4, j, textOf, wordsOf]
      | false =>
        have j := fun m => strings_Join_eq [[109, 111, 118, 101], Lib.itoa d, fr, to, Lib.itoa am] .exact (by simp) [32] 20 (by simp; omega) (by simp) (by simp) m
        simp at j
        simp [a_mix_FormatFill, fillAV, c1, c4, j, textOf, wordsOf]
    · have b1 : (k == 1) = false := by simp [k1]
      by_cases k2 : k = 2
      · subst k2
        have j := fun m => strings_Join_eq [[118, 101, 110, 116], Lib.itoa d, fr, Lib.itoa am] .exact (by simp) [32] 20 (by simp; omega) (by simp) (by simp) m
        simp at j
        simp [a_mix_FormatFill, fillAV, c1, c4, j, textOf, wordsOf]
      · have b2 : (k == 2) = false := by simp [k2]
        simp [a_mix_FormatFill, fillAV, c1, c4, f18_nil, textOf, wordsOf, b0, b1, b2, k0, k1, k2, Lib.join_nil]

end
end Go.Proofs.YtifieekfojbkhaaGreatDoor
