/-
  What the small functions of the references answer: Within, Size, Cut, Decimal.
-/
import Derived.Test.YtnhagbllecpkkaaGreatDoorV5
import Derived.Test.YtnhagbllecpkkaaGreatDoorV6
import Derived.Test.YtnhagbllecpkkaaGreatDoorCtx
import Derived.IntWalk
import Derived.Lib.ItoaNum
set_option linter.unusedSimpArgs false
set_option linter.unusedVariables false

namespace Go.Proofs.YtnhagbllecpkkaaGreatDoor
open Go Go.VA

theorem base_Size_eq (n : Int) (h : -9223372036854775808 < n) (h2 : n ≤ 9223372036854775807) (mem : Mem) : callD C n_base_Size [.int .i64 n] mem = some (.int .i64 n.natAbs, mem) := by
  have hw : IntKind.i64.wrap (-n) = -n := IntWalk.i64_in _ (by omega)
  rw [callD_env (af := a_base_Size) rfl rfl _ _ (by simp [a_base_Size])]
  simp [a_base_Size, hw]
  split <;> omega

/-- A text cut at a byte: what is found is handed back behind what was. -/
def cutFrom (c : UInt8) (s : List UInt8) (fr i : Nat) (out : List (List UInt8)) : List (List UInt8) :=
  if _h : i < s.length then
    (if s[i] = c then cutFrom c s (i + 1) (i + 1) (out ++ [(s.take i).drop fr]) else cutFrom c s fr (i + 1) out)
  else out ++ [s.drop fr]
termination_by s.length - i

def outAV (l : List (List UInt8)) : AV := if l = [] then .nils else .slc 1 (l.map .str) .own

theorem toNat_eq {a b : UInt8} : ((a.toNat : Int) == (b.toNat : Int)) = decide (a = b) := by
  by_cases h : a = b
  · subst h; simp
  · have : a.toNat ≠ b.toNat := fun e => h (UInt8.toNat_inj.1 e)
    simp [h]; omega

theorem append_out (l : List (List UInt8)) (x : List UInt8) (h : (l.length + 1) * 16 ≤ room) : append 1 16 (outAV l) (.slc 1 [.str x] .exact) = some (outAV (l ++ [x])) := by
  unfold outAV append
  by_cases hl : l = []
  · subst hl
    simp [room]
  · simp [hl]
    simpa [room] using h

def T_base_Cut (s : List UInt8) (c : UInt8) (out : List (List UInt8)) (fr i : Nat) : List AV :=
  tmOf 34 [(0, .str s), (1, .int .u8 c.toNat), (5, outAV out), (6, .int .i64 fr), (7, .int .i64 i)]

def E_base_Cut (s : List UInt8) (c : UInt8) (out : List (List UInt8)) (fr : Nat) : List AV :=
  tmOf 34 [(11, .bool false), (10, .int .i64 s.length), (9, .str s), (8, .int .i64 s.length), (0, .str s), (1, .int .u8 c.toNat), (5, outAV out), (6, .int .i64 fr), (7, .int .i64 s.length)]

theorem loop_base_Cut (s : List UInt8) (c : UInt8) (f : Fr) (mem : Mem) (hs : s.length ≤ 100000) : ∀ (k i fr : Nat) (out : List (List UInt8)), s.length - i = k → fr ≤ i → i ≤ s.length → out.length ≤ i →
    ∃ (fr' : Nat) (out' : List (List UInt8)), den C l_base_Cut_1 ⟨T_base_Cut s c out fr i, f :: mem⟩ = some (.exit 0, ⟨E_base_Cut s c out' fr', f :: mem⟩) ∧ fr' ≤ s.length ∧ out'.length ≤ s.length ∧ cutFrom c s fr i out = out' ++ [s.drop fr']
  | k, i, fr, out, hk, hf, hi, ho => by
    by_cases hlt : i < s.length
    · have hw : IntKind.i64.wrap ((i : Int) + 1) = ((i + 1 : Nat) : Int) := by rw [IntWalk.i64_in _ (by omega)]; omega
      by_cases hc : s[i] = c
      · obtain ⟨fr', out', e1, e3, e4, e5⟩ := loop_base_Cut s c f mem hs (k - 1) (i + 1) (i + 1) (out ++ [(s.take i).drop fr]) (by omega) (by omega) (by omega) (by simp; omega)
        refine ⟨fr', out', ?_, e3, e4, ?_⟩
        · rw [← e1]
          unfold l_base_Cut_1 b_base_Cut_1
          rw [den_loop]
          have ha : append 1 16 (outAV out) (.slc 1 [.str ((s.take i).drop fr)] .exact) = some (outAV (out ++ [(s.take i).drop fr])) := append_out _ _ (by simp [room]; omega)
          simp [T_base_Cut, hlt, hc, ha, hw, hf, Nat.le_of_lt hlt]
          exact loop_env rfl
        · rw [cutFrom, dif_pos hlt, if_pos hc]; exact e5
      · obtain ⟨fr', out', e1, e3, e4, e5⟩ := loop_base_Cut s c f mem hs (k - 1) (i + 1) fr out (by omega) (by omega) (by omega) (by omega)
        refine ⟨fr', out', ?_, e3, e4, ?_⟩
        · rw [← e1]
          unfold l_base_Cut_1 b_base_Cut_1
          rw [den_loop]
          have hc' : ((s[i].toNat : Int) == (c.toNat : Int)) = false := by rw [toNat_eq]; simp [hc]
          simp [T_base_Cut, hlt, hc', hw]
          exact loop_env rfl
        · rw [cutFrom, dif_pos hlt, if_neg hc]; exact e5
    · refine ⟨fr, out, ?_, by omega, by omega, by rw [cutFrom, dif_neg hlt]⟩
      have : i = s.length := by omega
      subst this
      unfold l_base_Cut_1 b_base_Cut_1
      rw [den_loop]
      simp [T_base_Cut, E_base_Cut]

theorem base_Cut_eq (s : List UInt8) (c : UInt8) (mem : Mem) (hs : s.length ≤ 100000) : callD C n_base_Cut [.str s, .int .u8 c.toNat] mem = some (outAV (cutFrom c s 0 0 []), mem) := by
  rw [callD_env (af := a_base_Cut) rfl rfl _ _ (by simp [a_base_Cut])]
  obtain ⟨fr', out', e1, e3, e4, e5⟩ := loop_base_Cut s c [] mem hs s.length 0 0 [] rfl (Nat.le_refl _) (Nat.zero_le _) (Nat.le_refl _)
  have ha : append 1 16 (outAV out') (.slc 1 [.str (s.drop fr')] .exact) = some (outAV (out' ++ [s.drop fr'])) := append_out _ _ (by simp [room]; omega)
  have hu : AV.under mem.length (outAV (out' ++ [s.drop fr'])) = true := by simp [outAV]
  have e0 : ∀ e, keepE e [0,1,5,6,7] = [(0, .str s), (1, .int .u8 c.toNat), (5, outAV []), (6, .int .i64 (0 : Nat)), (7, .int .i64 (0 : Nat))] → den C l_base_Cut_1 ⟨tmOf 34 e, [] :: mem⟩ = some (.exit 0, ⟨E_base_Cut s c out' fr', [] :: mem⟩) := by
    intro e he
    rw [← e1]
    unfold l_base_Cut_1 b_base_Cut_1
    exact loop_env (he.trans rfl)
  simp [outAV] at e0
  simp [a_base_Cut, e0, E_base_Cut, ha, e5, e3, hu]

def digs (n : Int) : List UInt8 := if n = 0 then [] else Lib.decDigits n.natAbs

theorem digs_step {n : Int} (h : n ≠ 0) : digs n = digs (n.tdiv 10) ++ [UInt8.ofNat (48 + n.natAbs % 10)] := by
  have hd : (n.tdiv 10).natAbs = n.natAbs / 10 := by rw [Int.natAbs_tdiv]; rfl
  unfold digs
  rw [if_neg h, Lib.decDigits]
  by_cases h1 : n.natAbs < 10
  · rw [dif_pos h1, if_pos (by omega), Nat.mod_eq_of_lt h1]
    rfl
  · rw [dif_neg h1, if_neg (by omega), hd]

def T_base_Decimal (n : Int) (s sg : List UInt8) : List AV := tmOf 27 [(0, .int .i64 n), (3, .str s), (4, .str sg)]
def E_base_Decimal (s sg : List UInt8) : List AV := tmOf 27 [(11, .bool false), (10, .int .i64 0), (0, .int .i64 0), (3, .str s), (4, .str sg)]

theorem loop_base_Decimal (sg : List UInt8) (f : Fr) (mem : Mem) : ∀ (k : Nat) (n : Int) (s : List UInt8), n.natAbs < 10 ^ k → -9223372036854775808 ≤ n → n ≤ 9223372036854775807 → s.length + k ≤ 1000 →
    den C l_base_Decimal_1 ⟨T_base_Decimal n s sg, f :: mem⟩ = some (.exit 0, ⟨E_base_Decimal (digs n ++ s) sg, f :: mem⟩)
  | k, n, s, hk, h1, h2, hl => by
    by_cases h0 : n = 0
    · subst h0
      unfold l_base_Decimal_1 b_base_Decimal_1
      rw [den_loop]
      simp [T_base_Decimal, E_base_Decimal, digs]
    · cases k with
      | zero => simp at hk; omega
      | succ k =>
        have hd : (n.tdiv 10).natAbs = n.natAbs / 10 := by rw [Int.natAbs_tdiv]; rfl
        have hm : (n.tmod 10).natAbs = n.natAbs % 10 := by rw [Int.natAbs_tmod]; rfl
        have ih := loop_base_Decimal sg f mem k (n.tdiv 10) (UInt8.ofNat (48 + n.natAbs % 10) :: s) (by rw [hd]; rw [Nat.pow_succ] at hk; omega) (by omega) (by omega) (by simp; omega)
        have e : digs n ++ s = digs (n.tdiv 10) ++ (UInt8.ofNat (48 + n.natAbs % 10) :: s) := by rw [digs_step h0]; simp
        rw [e, ← ih]
        unfold l_base_Decimal_1 b_base_Decimal_1
        rw [den_loop]
        have hb1 : (n != 0) = true := by simp [h0]
        have hb2 : (n == 0) = false := by simp [h0]
        have hs43 : ∀ m, callD C n_base_Size [.int .i64 (n.tmod 10)] m = some (.int .i64 ((n.natAbs % 10 : Nat) : Int), m) := fun m => by rw [base_Size_eq (n.tmod 10) (by omega) (by omega), hm]
        have hq : n.natAbs % 10 < 10 := Nat.mod_lt _ (by omega)
        generalize n.natAbs % 10 = q at *
        have hw1 : IntKind.i64.wrap (48 + (q : Int)) = 48 + (q : Int) := IntWalk.i64_in _ (by omega)
        have hw2 : IntKind.u8.wrap (48 + (q : Int)) = 48 + (q : Int) := IntWalk.u8_in _ (by omega)
        have hw3 : IntKind.i64.wrap (n.tdiv 10) = n.tdiv 10 := IntWalk.i64_in _ (by omega)
        have hr : 0 ≤ 48 + (q : Int) ∧ 48 + (q : Int) ≤ 255 := by omega
        have hn : (48 + (q : Int)).toNat = 48 + q := by omega
        have hl' : 1 + s.length ≤ 9223372036854775807 := by omega
        simp [T_base_Decimal, h0, hb1, hb2, hs43, hw1, hw2, hw3, hr, hn, u8s, hl', -UInt8.ofNat_add]
        exact loop_env rfl

theorem base_Decimal_eq (n : Int) (h1 : -9223372036854775808 ≤ n) (h2 : n ≤ 9223372036854775807) (mem : Mem) : callD C n_base_Decimal [.int .i64 n] mem = some (.str (Lib.itoa n), mem) := by
  rw [callD_env (af := a_base_Decimal) rfl rfl _ _ (by simp [a_base_Decimal])]
  by_cases h0 : n = 0
  · subst h0
    have : Lib.itoa 0 = [48] := by unfold Lib.itoa Lib.decDigits; rfl
    simp [a_base_Decimal, this]
  · have hlen : (digs n).length ≤ 100 := by
      have key : ∀ (k : Nat) (m : Int), m.natAbs < 10 ^ k → (digs m).length ≤ k := by
        intro k
        induction k with
        | zero => intro m hm; simp at hm; subst hm; simp [digs]
        | succ k ih =>
          intro m hm
          by_cases hm0 : m = 0
          · subst hm0; simp [digs]
          · have hd : (m.tdiv 10).natAbs = m.natAbs / 10 := by rw [Int.natAbs_tdiv]; rfl
            have := ih (m.tdiv 10) (by rw [hd]; rw [Nat.pow_succ] at hm; omega)
            rw [digs_step hm0]
            simp
            omega
      have := key 19 n (by omega)
      omega
    have hb1 : (n != 0) = true := by simp [h0]
    have hb2 : (n == 0) = false := by simp [h0]
    by_cases hn : n < 0
    · have e1 := loop_base_Decimal [45] [] mem 19 n [] (by omega) h1 h2 (by simp)
      have hi : Lib.itoa n = 45 :: digs n := by unfold Lib.itoa digs; rw [if_pos hn, if_neg h0]
      simp [T_base_Decimal] at e1
      have hl : 1 + (digs n).length ≤ 9223372036854775807 := by omega
      simp [a_base_Decimal, h0, hb1, hb2, hn, e1, E_base_Decimal, hi, hl]
    · have e1 := loop_base_Decimal [] [] mem 19 n [] (by omega) h1 h2 (by simp)
      have hi : Lib.itoa n = digs n := by unfold Lib.itoa digs; rw [if_neg hn, if_neg h0]; congr 1; omega
      simp [T_base_Decimal] at e1
      have hl : (digs n).length ≤ 9223372036854775807 := by omega
      simp [a_base_Decimal, h0, hb1, hb2, hn, e1, E_base_Decimal, hi, hl]
theorem cutFrom_cutAt (c : UInt8) (s : List UInt8) : ∀ (k i fr : Nat) (out : List (List UInt8)), s.length - i = k → fr ≤ i → i ≤ s.length → c ∉ (s.take i).drop fr →
    cutFrom c s fr i out = out ++ cutAt c (s.drop fr)
  | k, i, fr, out, hk, hf, hi, hc => by
    rw [cutFrom]
    split
    · rename_i hlt
      have hsp : s.drop fr = (s.take i).drop fr ++ s.drop i := by
        conv => lhs; rw [← List.take_append_drop i s]
        rw [List.drop_append_of_le_length (by simp; omega)]
      split
      · rename_i h
        rw [cutFrom_cutAt c s (k - 1) (i + 1) (i + 1) _ (by omega) (Nat.le_refl _) (by omega) (by simp)]
        rw [hsp, List.drop_eq_getElem_cons hlt, h, cutAt_append _ hc]
        simp
      · rename_i h
        refine cutFrom_cutAt c s (k - 1) (i + 1) fr out (by omega) (by omega) (by omega) ?_
        rw [List.take_succ_eq_append_getElem hlt, List.drop_append_of_le_length (by simp; omega), List.mem_append]
        simp only [List.mem_singleton, not_or]
        exact ⟨hc, fun e => h e.symm⟩
    · have : i = s.length := by omega
      subst this
      rw [List.take_length] at hc
      rw [cutAt_none hc]

theorem base_Cut_at (s : List UInt8) (c : UInt8) (mem : Mem) (hs : s.length ≤ 100000) : callD C n_base_Cut [.str s, .int .u8 c.toNat] mem = some (.slc 1 ((cutAt c s).map .str) .own, mem) := by
  rw [base_Cut_eq s c mem hs, cutFrom_cutAt c s _ 0 0 [] rfl (Nat.le_refl _) (Nat.zero_le _) (by simp)]
  simp [outAV, cutAt_ne]

def I64 (n : Int) : Prop := -9223372036854775808 ≤ n ∧ n ≤ 9223372036854775807

theorem digs_len : ∀ (k : Nat) (m : Int), m.natAbs < 10 ^ k → (digs m).length ≤ k := by
  intro k
  induction k with
  | zero => intro m hm; simp at hm; subst hm; simp [digs]
  | succ k ih =>
    intro m hm
    by_cases hm0 : m = 0
    · subst hm0; simp [digs]
    · have hd : (m.tdiv 10).natAbs = m.natAbs / 10 := by rw [Int.natAbs_tdiv]; rfl
      have := ih (m.tdiv 10) (by rw [hd]; rw [Nat.pow_succ] at hm; omega)
      rw [digs_step hm0]
      simp
      omega

theorem itoa_len {n : Int} (h : I64 n) : (Lib.itoa n).length ≤ 20 := by
  have h1 := digs_len 19 n (by have := h.1; have := h.2; omega)
  by_cases h0 : n = 0
  · subst h0
    have : Lib.itoa 0 = [48] := by unfold Lib.itoa Lib.decDigits; rfl
    simp [this]
  · unfold digs at h1
    rw [if_neg h0] at h1
    unfold Lib.itoa
    split
    · simp; omega
    · have : n.toNat = n.natAbs := by omega
      rw [this]; omega

theorem strconv_Itoa_eq {n : Int} (h : I64 n) (mem : Mem) : callD C n_strconv_Itoa [.int .i64 n] mem = some (.str (Lib.itoa n), mem) := by
  rw [callD_prim (q := qItoa) rfl]
  simp [qItoa, h.1, h.2]


/-- The first word of a text and the rest behind its blank. -/
def headOf : List UInt8 → List UInt8 × List UInt8 × Bool
  | [] => ([], [], false)
  | x :: s => if x = 32 then ([], s, true) else (x :: (headOf s).1, (headOf s).2.1, (headOf s).2.2)

theorem headOf_none : ∀ {s : List UInt8}, 32 ∉ s → headOf s = (s, [], false)
  | [], _ => rfl
  | x :: s, h => by
    simp only [List.mem_cons, not_or] at h
    rw [headOf, if_neg (fun e => h.1 e.symm), headOf_none h.2]

theorem headOf_cut : ∀ {a : List UInt8} (b : List UInt8), 32 ∉ a → headOf (a ++ 32 :: b) = (a, b, true)
  | [], b, _ => by simp [headOf]
  | x :: a, b, h => by
    simp only [List.mem_cons, not_or] at h
    rw [List.cons_append, headOf, if_neg (fun e => h.1 e.symm), headOf_cut b h.2]

theorem headOf_cases (s : List UInt8) : (32 ∉ s ∧ headOf s = (s, [], false)) ∨ ∃ a b, s = a ++ 32 :: b ∧ 32 ∉ a ∧ headOf s = (a, b, true) := by
  rcases index_one 32 s with ⟨h, _⟩ | ⟨a, b, rfl, h, _⟩
  · exact .inl ⟨h, headOf_none h⟩
  · exact .inr ⟨a, b, rfl, h, headOf_cut b h⟩

def headTup (r : List UInt8 × List UInt8 × Bool) : AV := .tup [.str r.1, .str r.2.1, .bool r.2.2]

theorem ref10_head_loop (s : List UInt8) (hs : s.length ≤ 1000000) (m : Mem) : ∀ (k i : Nat), s.length - i = k → i ≤ s.length → 32 ∉ s.take i →
    if (headOf s).2.2 then ∃ tm, headL C l_ref10_head_1 24 [(0, .str s), (5, .int .i64 i)] [] m = some (.ret, ⟨tm, [] :: m⟩) ∧ getT tm 2 = .str (headOf s).1 ∧ getT tm 3 = .str (headOf s).2.1 ∧ getT tm 4 = .bool true
    else ∃ e, headL C l_ref10_head_1 24 [(0, .str s), (5, .int .i64 i)] [] m = some (.exit 0, ⟨tmOf 24 e, [] :: m⟩) ∧ VA.look e 0 = .str s
  | k, i, hk, hi, hn => by
    have hsp : s = s.take i ++ s.drop i := (List.take_append_drop i s).symm
    by_cases hlt : i < s.length
    · have hd : s.drop i = s[i] :: s.drop (i + 1) := List.drop_eq_getElem_cons hlt
      have hw : IntKind.i64.wrap ((i : Int) + 1) = ((i + 1 : Nat) : Int) := by rw [IntWalk.i64_in _ (by omega)]; omega
      have hb : ((s[i].toNat : Int) == 32) = decide (s[i] = 32) := toNat_eq (b := 32)
      by_cases hc : s[i] = 32
      · have hh : headOf s = (s.take i, s.drop (i + 1), true) := by
          conv => lhs; rw [hsp, hd, hc]
          exact headOf_cut _ hn
        rw [hh]
        have hle : (i : Int) + 1 ≤ s.length := by omega
        have hle2 : i + 1 ≤ s.length := hlt
        have hle3 : (0 : Int) ≤ (i : Int) + 1 := by omega
        rw [ls_ref10_head_1]
        simp [b_ref10_head_1, hlt, hb, hc, hw, Nat.le_of_lt hlt, hle, hle2, hle3]
      · have ih := ref10_head_loop s hs m (k - 1) (i + 1) (by omega) (by omega) (by
          rw [List.take_succ_eq_append_getElem hlt, List.mem_append]
          simp only [List.mem_singleton, not_or]
          exact ⟨hn, fun e => hc e.symm⟩)
        have e : headL C l_ref10_head_1 24 [(0, .str s), (5, .int .i64 i)] [] m = headL C l_ref10_head_1 24 [(0, .str s), (5, .int .i64 (i + 1 : Nat))] [] m := by
          rw [ls_ref10_head_1]
          simp [b_ref10_head_1, hlt, hb, hc, hw, lh_ref10_head_1]
        rw [e]
        exact ih
    · have : i = s.length := by omega
      subst this
      rw [List.take_length] at hn
      rw [headOf_none hn]
      rw [ls_ref10_head_1]
      simp [b_ref10_head_1]
      exact ⟨_, rfl, by simp⟩

theorem ref10_head_eq (s : List UInt8) (hs : s.length ≤ 1000000) (m : Mem) : callD C n_ref10_head [.str s] m = some (headTup (headOf s), m) := by
  rw [callD_env (af := a_ref10_head) rfl rfl _ _ (by simp [a_ref10_head])]
  have h := ref10_head_loop s hs m s.length 0 rfl (Nat.zero_le _) (by simp)
  cases hh : (headOf s).2.2 with
  | true =>
    rw [hh, if_pos rfl] at h
    obtain ⟨tm, h1, h2, h3, h4⟩ := h
    simp [a_ref10_head, lh_ref10_head_1] at h1 ⊢
    simp [h1, h2, h3, h4, headTup, hh]
  | false =>
    rw [hh, if_neg (by simp)] at h
    obtain ⟨e, h1, h2⟩ := h
    have h0 : headOf s = (s, [], false) := by
      rcases headOf_cases s with ⟨_, h⟩ | ⟨a, b, _, _, h⟩
      · exact h
      · rw [h] at hh; cases hh
    simp [a_ref10_head, lh_ref10_head_1] at h1 ⊢
    simp [h1, h2, headTup, h0]

end Go.Proofs.YtnhagbllecpkkaaGreatDoor
