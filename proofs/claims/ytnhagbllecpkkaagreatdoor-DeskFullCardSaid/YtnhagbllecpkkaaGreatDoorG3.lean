/-
  What numbers, cuts and heads of entries answer.
-/
import Derived.Test.YtnhagbllecpkkaaGreatDoorG1
import Derived.Lib.AtoiAllCases
set_option linter.unusedSimpArgs false
set_option linter.unusedVariables false

namespace Go.Proofs.YtnhagbllecpkkaaGreatDoor
open Go Go.VA Go.DM

theorem stringslite_Cut_eq (s : Str) (hs : s.length ≤ 1000000) (m : Mem) : callD C n_internal_stringslite_Cut [.str s, .str [32]] m = some (headTup (headOf s), m) := by
  rw [callD_env (af := a_internal_stringslite_Cut) rfl rfl _ _ (by simp [a_internal_stringslite_Cut])]
  have hi : ∀ m, callD C n_internal_stringslite_Index [.str s, .str [32]] m = some (I (Lib.index s [32]), m) := fun m => by
    rw [callD_prim (q := qIndex) rfl]; simp [qIndex]; omega
  rcases index_one 32 s with ⟨h, e⟩ | ⟨a, b, rfl, h, e⟩
  · rw [headOf_none h]
    simp [a_internal_stringslite_Cut, hi, e, headTup]
  · rw [headOf_cut b h]
    have hw : IntKind.i64.wrap ((a.length : Int) + 1) = (a.length : Int) + 1 := IntWalk.i64_in _ (by simp at hs; omega)
    have h1 : (a.length : Int) ≤ a.length + (b.length + 1) := by omega
    have h2 : (0 : Int) ≤ a.length + 1 := by omega
    have h3 : (a.length : Int) + 1 ≤ a.length + (b.length + 1) := by omega
    have h4 : ((a.length : Int) + 1).toNat = a.length + 1 := by omega
    simp [a_internal_stringslite_Cut, hi, e, headTup, hw, h1, h2, h3, h4]
    rw [List.take_of_length_le (by simp)]
    have : a ++ 32 :: b = (a ++ [32]) ++ b := by simp
    rw [this, List.drop_left' (by simp)]
theorem strings_Cut_eq (s : Str) (hs : s.length ≤ 1000000) (m : Mem) : callD C n_strings_Cut [.str s, .str [32]] m = some (headTup (headOf s), m) := by
  rw [callD_env (af := a_strings_Cut) rfl rfl _ _ (by simp [a_strings_Cut])]
  have h := fun m => stringslite_Cut_eq s hs m
  simp [a_strings_Cut, h, headTup]

theorem strings_Contains_eq (s : Str) (c : UInt8) (hs : s.length ≤ 1000000) (m : Mem) : callD C n_strings_Contains [.str s, .str [c]] m = some (.bool (decide (c ∈ s)), m) := by
  rw [callD_prim (q := qContains) rfl]
  simp [qContains, contains_one]; omega

/-- The number that a text reads as; 0 or a bound where it reads as none. -/
def valOf (s : Str) : Int := match Lib.atoiAll s with
  | .ok v => v
  | .range => Lib.atoiSat s
  | _ => 0
theorem atoi_I64 {s : Str} {v : Int} (h : Lib.atoiAll s = .ok v) : I64 v := Lib.atoiAll_bounds h
theorem lit_val {d : Nat} {s : Str} {v : Int} (h : lit d s = some v) : valOf s = v := by
  unfold lit at h; unfold valOf
  split at h <;> rename_i e
  · rw [e]; dsimp only; split at h <;> simp_all
  · cases h

theorem desk_number_eq (s : Str) (d : Nat) (hs : s.length ≤ 1000000) (m : Mem) : callD C n_desk_number [.str s, I d] m = some (.tup [I (valOf s), .bool (lit d s).isSome], m) := by
  rw [callD_env (af := a_desk_number) rfl rfl _ _ (by simp [a_desk_number])]
  have hs' : s.length ≤ 281474976710656 := by omega
  have c57 : ∀ m, callD C n_strings_TrimPrefix [.str s, .str [45]] m = some (.str (Lib.trimPrefix s [45]), m) := fun m => by
    rw [callD_prim (q := qTrimPrefix) rfl]; simp [qTrimPrefix]
  cases hv : Lib.atoiAll s with
  | ok v =>
    have c56 : ∀ m, callD C n_strconv_Atoi [.str s] m = some (.tup [I v, .nili], m) := fun m => by
      rw [callD_prim (q := qAtoi _) rfl]; simp [qAtoi, hs', hv]
    have c17 := fun m => strconv_Itoa_eq (atoi_I64 hv) m
    by_cases h1 : Lib.itoa v = s
    · simp [a_desk_number, c56, c57, c17, lit, valOf, hv, h1]
      split <;> simp <;> omega
    · have hb : (Lib.itoa v == s) = false := by simp [h1]
      simp [a_desk_number, c56, c57, c17, lit, valOf, hv, h1, hb]
  | range =>
    obtain ⟨t, c56⟩ : ∃ t, ∀ m, callD C n_strconv_Atoi [.str s] m = some (.tup [I (Lib.atoiSat s), .iface t .undef], m) := ⟨_, fun m => by
      rw [callD_prim (q := qAtoi _) rfl]; simp [qAtoi, hs', hv]; rfl⟩
    simp [a_desk_number, c56, c57, lit, valOf, hv]
  | _ =>
    obtain ⟨t, c56⟩ : ∃ t, ∀ m, callD C n_strconv_Atoi [.str s] m = some (.tup [I 0, .iface t .undef], m) := ⟨_, fun m => by
      rw [callD_prim (q := qAtoi _) rfl]; simp [qAtoi, hs', hv]; rfl⟩
    simp [a_desk_number, c56, c57, lit, valOf, hv]

/-- The roles for which a word is not; none: it is no word of entries. -/
def refused (w : Str) : Option (List Int) :=
  if w = [102,105,108,108] ∨ w = [107,105,116] then some [1]
  else if w = [102,105,120] then some [1, 2]
  else if w = [112,108,97,110] ∨ w = [100,105,118,101] ∨ w = [114,101,99,111,114,100] ∨ w = [115,105,103,110] then some [] else none
theorem contains_int (φ : SF) (l : List Int) (hl : l.length ≤ 1000000) (v : Int) (m : Mem) : callD C n_slices_Contains_int [sv 1 φ.z (l.map fun x => I x) φ.c, I v] m = some (.bool (l.any (v == ·)), m) :=
  callD_ContainsFunc (F := n_slices_Contains_int) (g := n_slices_Index_int) rfl rfl rfl (by simp) rfl (fun m => callD_Index_int (F := n_slices_Index_int) rfl rfl rfl l (by omega) v φ.z φ.c φ.hc m) m

/-- The word and the rest of the text of an entry by a person with a role, or its error. -/
def deskHead (role : Int) (text : Str) : Str × Str × Int :=
  if 400 < text.length then ([], [], 8)
  else if (headOf text).2.2 = false ∨ 10 ∈ text then ([], [], 7)
  else match refused (headOf text).1 with
    | none => ([], [], 15)
    | some l => if l.any (role == ·) then ([], [], 24) else ((headOf text).1, (headOf text).2.1, 0)
def headTup3 (r : Str × Str × Int) : AV := .tup [.str r.1, .str r.2.1, I r.2.2]

set_option maxHeartbeats 1000000 in
theorem desk_head_eq (p : Person) (text : Str) (hs : text.length ≤ 1000000) (m : Mem) : callD C n_desk_head [p.av, .str text] m = some (headTup3 (deskHead p.role text), m) := by
  rw [callD_env (af := a_desk_head) rfl rfl _ _ (by simp [a_desk_head])]
  have hc := fun m => strings_Cut_eq text hs m
  have hn := fun m => strings_Contains_eq text 10 hs m
  unfold deskHead
  by_cases h4 : 400 < text.length
  · have h4i : (400 : Int) < text.length := by omega
    simp [a_desk_head, Person.av, h4, h4i, headTup3]
  have h4i : ¬ (400 : Int) < text.length := by omega
  obtain ⟨w, r, b, hh⟩ : ∃ w r b, headOf text = (w, r, b) := ⟨_, _, _, rfl⟩
  rw [hh] at hc ⊢
  simp only [headTup] at hc
  cases b with
  | false =>
    simp [a_desk_head, Person.av, h4, h4i, headTup3, hc]
    split <;> simp
  | true =>
  by_cases h10 : (10 : UInt8) ∈ text
  · simp [a_desk_head, Person.av, h4, h4i, headTup3, hc, hn, h10]
    split <;> simp [hn, h10]
  · have q0 := fun m => contains_int SF.n [] (by simp) p.role m
    have q1 := fun m => contains_int ⟨false, .unk, rfl⟩ [1] (by simp) p.role m
    have q2 := fun m => contains_int ⟨false, .unk, rfl⟩ [1, 2] (by simp) p.role m
    simp [SF.n, sv] at q0 q1 q2
    by_cases w1 : w = [100,105,118,101]
    · subst w1; simp [a_desk_head, Person.av, h4, h4i, headTup3, hc, hn, h10, q0, refused, mapFind]
    by_cases w2 : w = [102,105,108,108]
    · subst w2
      by_cases hr : p.role = 1
      · rw [hr] at q1
        simp [a_desk_head, Person.av, h4, h4i, headTup3, hc, hn, h10, q1, refused, mapFind, hr]
      · simp [a_desk_head, Person.av, h4, h4i, headTup3, hc, hn, h10, q1, refused, mapFind, hr]
    by_cases w3 : w = [102,105,120]
    · subst w3
      by_cases hr : p.role = 1
      · rw [hr] at q2
        simp [a_desk_head, Person.av, h4, h4i, headTup3, hc, hn, h10, q2, refused, mapFind, hr]
      · by_cases hr2 : p.role = 2
        · rw [hr2] at q2
          simp [a_desk_head, Person.av, h4, h4i, headTup3, hc, hn, h10, q2, refused, mapFind, hr2]
        · simp [a_desk_head, Person.av, h4, h4i, headTup3, hc, hn, h10, q2, refused, mapFind, hr, hr2]
    by_cases w4 : w = [107,105,116]
    · subst w4
      by_cases hr : p.role = 1
      · rw [hr] at q1
        simp [a_desk_head, Person.av, h4, h4i, headTup3, hc, hn, h10, q1, refused, mapFind, hr]
      · simp [a_desk_head, Person.av, h4, h4i, headTup3, hc, hn, h10, q1, refused, mapFind, hr]
    by_cases w5 : w = [112,108,97,110]
    · subst w5; simp [a_desk_head, Person.av, h4, h4i, headTup3, hc, hn, h10, q0, refused, mapFind]
    by_cases w6 : w = [114,101,99,111,114,100]
    · subst w6; simp [a_desk_head, Person.av, h4, h4i, headTup3, hc, hn, h10, q0, refused, mapFind]
    by_cases w7 : w = [115,105,103,110]
    · subst w7; simp [a_desk_head, Person.av, h4, h4i, headTup3, hc, hn, h10, q0, refused, mapFind]
    have e1 : ([100,105,118,101] == w) = false := by simp; exact fun e => w1 e.symm
    have e2 : ([102,105,108,108] == w) = false := by simp; exact fun e => w2 e.symm
    have e3 : ([102,105,120] == w) = false := by simp; exact fun e => w3 e.symm
    have e4 : ([107,105,116] == w) = false := by simp; exact fun e => w4 e.symm
    have e5 : ([112,108,97,110] == w) = false := by simp; exact fun e => w5 e.symm
    have e6 : ([114,101,99,111,114,100] == w) = false := by simp; exact fun e => w6 e.symm
    have e7 : ([115,105,103,110] == w) = false := by simp; exact fun e => w7 e.symm
    simp [a_desk_head, Person.av, h4, h4i, headTup3, hc, hn, h10, q0, refused, mapFind, w1, w2, w3, w4, w5, w6, w7, e1, e2, e3, e4, e5, e6, e7]
end Go.Proofs.YtnhagbllecpkkaaGreatDoor
