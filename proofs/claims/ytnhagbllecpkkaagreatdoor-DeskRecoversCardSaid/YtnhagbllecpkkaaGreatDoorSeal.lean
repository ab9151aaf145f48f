/-
  What the seals answer.
-/
import Derived.Test.YtnhagbllecpkkaaGreatDoorNames
set_option linter.unusedSimpArgs false
set_option linter.unusedVariables false

namespace Go.Proofs.YtnhagbllecpkkaaGreatDoor
open Go Go.VA

def sealF (n : Nat) : List UInt8 → Nat
  | [] => n
  | c :: r => sealF ((257 * n + c.toNat + 1) % 999999937) r

theorem sealF_lt {n : Nat} (h : n < 999999937) : ∀ (s : List UInt8), sealF n s < 999999937
  | [] => h
  | c :: r => sealF_lt (Nat.mod_lt _ (by omega)) r

theorem seal_step (n : Nat) (hn : n < 999999937) (c : UInt8) :
    IntKind.i64.wrap (257 * (n : Int)) = 257 * (n : Int) ∧ IntKind.i64.wrap (c.toNat : Int) = c.toNat ∧ IntKind.i64.wrap (257 * (n : Int) + c.toNat) = 257 * (n : Int) + c.toNat ∧
    IntKind.i64.wrap (257 * (n : Int) + c.toNat + 1) = 257 * (n : Int) + c.toNat + 1 ∧ (257 * (n : Int) + c.toNat + 1).tmod 999999937 = ((257 * n + c.toNat + 1) % 999999937 : Nat) := by
  have hc : c.toNat < 256 := c.toNat_lt
  refine ⟨IntWalk.i64_in _ (by omega), IntWalk.i64_in _ (by omega), IntWalk.i64_in _ (by omega), IntWalk.i64_in _ (by omega), ?_⟩
  rw [Int.tmod_eq_emod_of_nonneg (by omega)]
  omega

theorem desk_seal_loop (s : List UInt8) (hs : s.length ≤ 1000000) (f : Fr) (m : Mem) : ∀ (k i n : Nat), s.length - i = k → i ≤ s.length → n < 999999937 →
    headL C l_desk_seal_1 29 [(0, .int .i64 n), (5, .str s), (14, .int .i64 s.length), (15, .int .i64 i)] f m =
      some (.exit 0, ⟨tmOf 29 [(16, .bool false), (0, .int .i64 (sealF n (s.drop i))), (5, .str s), (14, .int .i64 s.length), (15, .int .i64 s.length)], f :: m⟩)
  | k, i, n, hk, hi, hn => by
    by_cases hlt : i < s.length
    · have hd : s.drop i = s[i] :: s.drop (i + 1) := List.drop_eq_getElem_cons hlt
      have hw : IntKind.i64.wrap ((i : Int) + 1) = ((i + 1 : Nat) : Int) := by rw [IntWalk.i64_in _ (by omega)]; omega
      have ih := desk_seal_loop s hs f m (k - 1) (i + 1) _ (by omega) (by omega) (Nat.mod_lt (257 * n + s[i].toNat + 1) (by omega : 0 < 999999937))
      obtain ⟨h1, h2, h3, h4, h5⟩ := seal_step n hn s[i]
      rw [hd]
      simp only [sealF]
      rw [ls_desk_seal_1]
      generalize hq : (257 * n + s[i].toNat + 1) % 999999937 = q at *
      simp [b_desk_seal_1, hlt, h1, h2, h3, h4, h5, hw, lh_desk_seal_1, -Int.natCast_emod]
      simpa using ih
    · have : i = s.length := by omega
      subst this
      rw [List.drop_length]
      rw [ls_desk_seal_1]
      simp [b_desk_seal_1, sealF]

theorem ref10_seal_loop (s : List UInt8) (hs : s.length ≤ 1000000) (f : Fr) (m : Mem) : ∀ (k i n : Nat), s.length - i = k → i ≤ s.length → n < 999999937 →
    headL C l_ref10_seal_1 29 [(0, .int .i64 n), (5, .str s), (6, .int .i64 i)] f m =
      some (.exit 0, ⟨tmOf 29 [(16, .bool false), (15, .int .i64 s.length), (14, .str s), (13, .int .i64 s.length), (0, .int .i64 (sealF n (s.drop i))), (5, .str s), (6, .int .i64 s.length)], f :: m⟩)
  | k, i, n, hk, hi, hn => by
    by_cases hlt : i < s.length
    · have hd : s.drop i = s[i] :: s.drop (i + 1) := List.drop_eq_getElem_cons hlt
      have hw : IntKind.i64.wrap ((i : Int) + 1) = ((i + 1 : Nat) : Int) := by rw [IntWalk.i64_in _ (by omega)]; omega
      have ih := ref10_seal_loop s hs f m (k - 1) (i + 1) _ (by omega) (by omega) (Nat.mod_lt (257 * n + s[i].toNat + 1) (by omega : 0 < 999999937))
      obtain ⟨h1, h2, h3, h4, h5⟩ := seal_step n hn s[i]
      rw [hd]
      simp only [sealF]
      rw [ls_ref10_seal_1]
      generalize hq : (257 * n + s[i].toNat + 1) % 999999937 = q at *
      simp [b_ref10_seal_1, hlt, h1, h2, h3, h4, h5, hw, lh_ref10_seal_1, -Int.natCast_emod]
      simpa using ih
    · have : i = s.length := by omega
      subst this
      rw [List.drop_length]
      rw [ls_ref10_seal_1]
      simp [b_ref10_seal_1, sealF]

/-- The seal of an entry behind another one. -/
def sealOf (n : Nat) (y t : List UInt8) : Nat := sealF n (y ++ 32 :: t)

theorem desk_seal_eq (n : Nat) (hn : n < 999999937) (y t : List UInt8) (hl : y.length + t.length ≤ 100000) (m : Mem) : callD C n_desk_seal [.int .i64 n, .agg [.str y, .str t]] m = some (.int .i64 (sealOf n y t), m) := by
  rw [callD_env (af := a_desk_seal) rfl rfl _ _ (by simp [a_desk_seal])]
  have h := desk_seal_loop (y ++ 32 :: t) (by simp; omega) [] m _ 0 n rfl (Nat.zero_le _) hn
  have h1 : y.length ≤ 9223372036854775806 := by omega
  have h2 : y.length + 1 + t.length ≤ 9223372036854775807 := by omega
  rw [List.drop_zero] at h
  simp at h
  simp [a_desk_seal, lh_desk_seal_1, h1, h2, h, sealOf]

theorem ref10_seal_eq (n : Nat) (hn : n < 999999937) (y t : List UInt8) (hl : y.length + t.length ≤ 100000) (m : Mem) : callD C n_ref10_seal [.int .i64 n, .agg [.str y, .str t]] m = some (.int .i64 (sealOf n y t), m) := by
  rw [callD_env (af := a_ref10_seal) rfl rfl _ _ (by simp [a_ref10_seal])]
  have h := ref10_seal_loop (y ++ 32 :: t) (by simp; omega) [] m _ 0 n rfl (Nat.zero_le _) hn
  have h1 : y.length ≤ 9223372036854775806 := by omega
  have h2 : y.length + 1 + t.length ≤ 9223372036854775807 := by omega
  rw [List.drop_zero] at h
  simp at h
  simp [a_ref10_seal, lh_ref10_seal_1, h1, h2, h, sealOf]

/-- Entries: who made them, their texts. -/
abbrev Ent := List UInt8 × List UInt8
def entAV (e : Ent) : AV := .agg [.str e.1, .str e.2]
def entsAV (l : List Ent) (c : Cap) : AV := if l = [] then .nils else .slc 2 (l.map entAV) c

@[simp] theorem ents_strip (l : List Ent) : (entsAV l .own).strip = entsAV l .unk := by
  unfold entsAV
  split <;> rfl
@[simp] theorem ents_strip' (l : List Ent) : (entsAV l .unk).strip = entsAV l .unk := by
  unfold entsAV
  split <;> rfl
@[simp] theorem ents_len (l : List Ent) (c : Cap) : lenAV false (entsAV l c) = some (.int .i64 l.length) := by
  unfold entsAV
  split
  · rename_i h; subst h; rfl
  · simp
@[simp] theorem ents_has (l : List Ent) (c : Cap) (i : VA.Id) : (entsAV l c).has i = false := by
  unfold entsAV
  split <;> rfl
@[simp] theorem ents_under (l : List Ent) (c : Cap) (k : Nat) : (entsAV l c).under k = true := by
  unfold entsAV
  split <;> rfl
@[simp] theorem ents_one (l : List Ent) (c : Cap) : (entsAV l c).one = true := by
  unfold entsAV
  split <;> rfl
@[simp] theorem ents_cells (l : List Ent) (c : Cap) : (entsAV l c).cells = [entsAV l c] := by
  unfold entsAV
  split <;> rfl

theorem law10_entries_loop (a b : List Ent) (hl : a.length = b.length) (hs : a.length ≤ 1000000) (ca cb : Cap) (hca : ca ≠ .own) (hcb : cb ≠ .own) (m : Mem) : ∀ (k i : Nat), a.length - i = k → i ≤ a.length →
    if a.drop i = b.drop i then ∃ tm, headL C l_law10_entries_1 26 [(0, .slc 2 (a.map entAV) ca), (1, .slc 2 (b.map entAV) cb), (5, .int .i64 i)] [] m = some (.exit 0, ⟨tmOf 26 tm, [] :: m⟩)
    else ∃ tm, headL C l_law10_entries_1 26 [(0, .slc 2 (a.map entAV) ca), (1, .slc 2 (b.map entAV) cb), (5, .int .i64 i)] [] m = some (.ret, ⟨tm, [] :: m⟩) ∧ getT tm 4 = .bool false
  | k, i, hk, hi => by
    by_cases hlt : i < a.length
    · have hltb : i < b.length := by omega
      have hda : a.drop i = a[i] :: a.drop (i + 1) := List.drop_eq_getElem_cons hlt
      have hdb : b.drop i = b[i] :: b.drop (i + 1) := List.drop_eq_getElem_cons hltb
      have hw : IntKind.i64.wrap ((i : Int) + 1) = ((i + 1 : Nat) : Int) := by rw [IntWalk.i64_in _ (by omega)]; omega
      have ih := law10_entries_loop a b hl hs ca cb hca hcb m (k - 1) (i + 1) (by omega) (by omega)
      rw [hda, hdb]
      obtain ⟨a1, a2, ha⟩ : ∃ x y, a[i] = (x, y) := ⟨_, _, rfl⟩
      obtain ⟨b1, b2, hb⟩ : ∃ x y, b[i] = (x, y) := ⟨_, _, rfl⟩
      rw [ha, hb]
      rw [ls_law10_entries_1]
      by_cases h1 : a1 = b1
      · by_cases h2 : a2 = b2
        · subst h1 h2
          simp [b_law10_entries_1, hca, hcb, hlt, hltb, ha, hb, entAV, hw, lh_law10_entries_1] at ih ⊢
          exact ih
        · subst h1
          have h2' : (a2 == b2) = false := by simp [h2]
          simp [b_law10_entries_1, hca, hcb, hlt, hltb, ha, hb, entAV, hw, lh_law10_entries_1, h2, h2']
      · have h1' : (a1 == b1) = false := by simp [h1]
        simp [b_law10_entries_1, hca, hcb, hlt, hltb, ha, hb, entAV, hw, lh_law10_entries_1, h1, h1']
    · have : i = a.length := by omega
      subst this
      rw [List.drop_length, hl, List.drop_length]
      rw [ls_law10_entries_1]
      simp [b_law10_entries_1, hca, hcb, hl]
      exact ⟨_, rfl⟩

theorem law10_entries_eq (a b : List Ent) (hs : a.length ≤ 1000000) (hb : b.length ≤ 1000000) (ca cb : Cap) (hca : ca ≠ .own) (hcb : cb ≠ .own) (m : Mem) :
    callD C n_law10_entries [entsAV a ca, entsAV b cb] m = some (.bool (decide (a = b)), m) := by
  rw [callD_env (af := a_law10_entries) rfl rfl _ _ (by simp [a_law10_entries])]
  unfold entsAV
  by_cases ha : a = []
  · subst ha
    by_cases hb0 : b = []
    · subst hb0
      have : den C l_law10_entries_1 = den C l_law10_entries_1 := rfl
      simp [a_law10_entries, lh_law10_entries_1]
      rw [ls_law10_entries_1]
      simp [b_law10_entries_1]
    · have : ((0 : Int) != b.length) = true := by simp; exact fun e => hb0 (List.length_eq_zero_iff.1 (by omega))
      have h2 : ¬ ([] : List Ent) = b := fun e => hb0 e.symm
      simp [a_law10_entries, hb0, hcb, this, h2]
  · by_cases hb0 : b = []
    · subst hb0
      have : ((a.length : Int) != 0) = true := by simp; exact ha
      simp [a_law10_entries, ha, hca, this]
    · by_cases hl : a.length = b.length
      · have h := law10_entries_loop a b hl hs ca cb hca hcb m a.length 0 rfl (Nat.zero_le _)
        rw [List.drop_zero, List.drop_zero] at h
        have hne : ((a.length : Int) != b.length) = false := by simp [hl]
        by_cases hab : a = b
        · subst hab
          rw [if_pos rfl] at h
          obtain ⟨tm, h⟩ := h
          simp at h
          simp [a_law10_entries, lh_law10_entries_1, ha, hca, hcb, h]
        · rw [if_neg hab] at h
          obtain ⟨tm, h, h2⟩ := h
          simp at h
          simp [a_law10_entries, lh_law10_entries_1, ha, hb0, hca, hcb, hne, h, h2, hab]
      · have hne : ((a.length : Int) != b.length) = true := by simp; omega
        have hab : ¬ a = b := fun e => hl (by rw [e])
        simp [a_law10_entries, ha, hb0, hca, hcb, hne, hab]

end Go.Proofs.YtnhagbllecpkkaaGreatDoor
