/-
  What ParseFill of the program answers.
-/
import Derived.Test.YtifieekfojbkhaaGreatDoorSpecH
import Derived.Test.YtifieekfojbkhaaGreatDoorVaText
set_option linter.unusedSimpArgs false
set_option linter.unusedVariables false
namespace Go.Proofs.YtifieekfojbkhaaGreatDoor
open Go Go.VA

theorem numOf_lit (s : List UInt8) : numOf s = lit 10 s := rfl

theorem numLoop_digV (s : List UInt8) : ∀ (k i n : Nat), s.length - i = k → numLoop s i n = digV (s.drop i) n
  | k, i, n, hk => by
    rw [numLoop]
    split
    · rename_i hi
      rw [List.drop_eq_getElem_cons hi]
      simp only [digV]
      split
      · exact numLoop_digV s (k - 1) (i + 1) _ (by omega)
      · rfl
    · rw [List.drop_eq_nil_of_le (by omega)]
      rfl

theorem numRef_eq (d : Nat) (s : List UInt8) : numRef d s = VA.numRef d s := by
  unfold numRef VA.numRef
  cases s with
  | nil => rfl
  | cons x r =>
    cases r with
    | nil => simp [numLoop_digV _ _ _ _ rfl]
    | cons y t => simp [numLoop_digV _ _ _ _ rfl]

theorem cutFrom_cutAt (c : UInt8) (s : List UInt8) : ∀ (k i fr : Nat) (out : List (List UInt8)), s.length - i = k → fr ≤ i → i ≤ s.length → c ∉ (s.take i).drop fr →
    cutFrom c s fr i out = out ++ cutAt c (s.drop fr)
  | k, i, fr, out, hk, hf, hi, hc => by
    rw [cutFrom]
    split
    · rename_i hlt
      have hsp : s.drop fr = (s.take i).drop fr ++ s.drop i := by
        conv => lhs; rw [← List.take_append_drop i s]
        rw [List.drop_append_of_le_length (by simp; omega)]
      split
      · rename_i h
        rw [cutFrom_cutAt c s (k - 1) (i + 1) (i + 1) _ (by omega) (Nat.le_refl _) (by omega) (by simp)]
        rw [hsp, List.drop_eq_getElem_cons hlt, h, cutAt_append _ hc]
        simp
      · rename_i h
        refine cutFrom_cutAt c s (k - 1) (i + 1) fr out (by omega) (by omega) (by omega) ?_
        rw [List.take_succ_eq_append_getElem hlt, List.drop_append_of_le_length (by simp; omega), List.mem_append]
        simp only [List.mem_singleton, not_or]
        exact ⟨hc, fun e => h e.symm⟩
    · have : i = s.length := by omega
      subst this
      rw [List.take_length] at hc
      rw [cutAt_none hc]

theorem base_Cut_at (s : List UInt8) (c : UInt8) (mem : Mem) (hs : s.length ≤ 100000) : callD C n_base_Cut [.str s, .int .u8 c.toNat] mem = some (.slc 1 ((cutAt c s).map .str) .own, mem) := by
  rw [base_Cut_eq s c mem hs, cutFrom_cutAt c s _ 0 0 [] rfl (Nat.le_refl _) (Nat.zero_le _) (by simp)]
  simp [outAV, cutAt_ne]

/-- What a text says. -/
def parseFill (s : List UInt8) : Option Fill := if (10 : UInt8) ∈ s then none else parseW (cutAt 32 s)

def fillTup : Option Fill → AV
  | some f => .tup [f.av, .int .i64 0]
  | none => .tup [fillAV 0 0 [] [] 0 0 0 false, .int .i64 7]

set_option maxHeartbeats 1000000 in
theorem mix_ParseFill_eq (s : List UInt8) (hs : s.length ≤ 1000) (mem : Mem) : callD C n_mix_ParseFill [.str s] mem = some (fillTup (parseFill s), mem) := by
  rw [callD_env (af := a_mix_ParseFill) rfl rfl _ _ (by simp [a_mix_ParseFill])]
  have hsp : ∀ m, callD C n_strings_Split [.str s, .str [32]] m = some (.slc 1 ((cutAt 32 s).map .str) .exact, m) := by
    intro m
    rw [callD_prim (q := qSplit) rfl]
    have : s.length < 4294967281 := by omega
    simp only [qSplit, split_cutAt]
    simp [this]
  have hct : ∀ m, callD C n_strings_Contains [.str s, .str [10]] m = some (.bool (decide ((10 : UInt8) ∈ s)), m) := by
    intro m
    rw [callD_prim (q := qContains) rfl]
    have : s.length < 4294967281 := by omega
    simp only [qContains, contains_one]
    simp [this]
  have hf := fun m => mix_fillOf_eq (cutAt 32 s) (cutAt_ne _ _) (fun x hx => by have := (cutAt_mem 32 s x hx).1; omega) .exact (by simp) m
  obtain ⟨x, hx, hp⟩ := hf ([([2], [.int .i64 0, .int .i64 0, .str [], .str [], .int .i64 0, .int .i64 0, .int .i64 0, .bool false])] :: mem)
  unfold parseFill
  cases hw : parseW (cutAt 32 s) with
  | none =>
    rw [hw] at hx
    simp [a_mix_ParseFill, hsp, hct, hx, Fill.av, fillAV, fillTup]
  | some f =>
    rw [hw] at hx
    have := hp f hw
    subst this
    by_cases h10 : (10 : UInt8) ∈ s <;> simp [a_mix_ParseFill, hsp, hct, hx, Fill.av, fillAV, fillTup, h10]
end Go.Proofs.YtifieekfojbkhaaGreatDoor
