/-
  What numbers reads.
-/
import Derived.Test.YtnhagbllecpkkaaGreatDoorG3
set_option linter.unusedSimpArgs false
set_option linter.unusedVariables false

namespace Go.Proofs.YtnhagbllecpkkaaGreatDoor
open Go Go.VA Go.DM

/-- Words as numbers. -/
def numsF : List Str → Option (List Int)
  | [] => some []
  | w :: r => match lit 10 w with
    | none => none
    | some v => (numsF r).map (v :: ·)
def numsTup (o : Option (List Int)) (out : List Int) : AV := match o with
  | none => .tup [.nils, .bool false]
  | some l => .tup [sv 1 true ((out ++ l).map fun x => I x) .unk, .bool true]

set_option maxHeartbeats 1000000 in
theorem profile_numbers_loop (ws : List Str) (P : AV) (z : Bool) (c : Cap) (hP : P = sv 1 z (ws.map fun s => AV.str s) c) (hl : ws.length ≤ 1000000) (hx : ∀ w, w ∈ ws → w.length ≤ 1000000) (m : Mem) : ∀ (k i : Nat) (out : List Int), ws.length - i = k → i ≤ ws.length → out.length = i →
    retOf false [.tmp 2, .tmp 3] m (andThen (atBlock 0 (headL C l_profile_numbers_1 40 [(4, sv 1 true (out.map fun x => I x) .own), (9, P), (10, I ws.length), (11, I i)] [] m)) (den C t_profile_numbers_1)) =
      some (numsTup (numsF (ws.drop i)) out, m) := by
  intro k
  induction k with
  | zero =>
    intro i out hk hi ho
    have : i = ws.length := by omega
    subst this
    rw [List.drop_length, ls_profile_numbers_1]
    simp [b_profile_numbers_1, numsF, numsTup]
  | succ k ihk =>
    intro i out hk hi ho
    have hlt : i < ws.length := by omega
    have hd : ws.drop i = ws[i] :: ws.drop (i + 1) := List.drop_eq_getElem_cons hlt
    have hw : IntKind.i64.wrap ((i : Int) + 1) = ((i + 1 : Nat) : Int) := by rw [IntWalk.i64_in _ (by omega)]; omega
    have hsx := hx _ (List.getElem_mem hlt)
    obtain ⟨s, hs⟩ : ∃ s, ws[i] = s := ⟨_, rfl⟩
    rw [hs] at hsx
    have hs' : s.length ≤ 281474976710656 := by omega
    have c57 : ∀ m, callD C n_strings_TrimPrefix [.str s, .str [45]] m = some (.str (Lib.trimPrefix s [45]), m) := fun m => by
      rw [callD_prim (q := qTrimPrefix) rfl]; simp [qTrimPrefix]
    rw [hd, ls_profile_numbers_1, hs]

    cases hv : Lib.atoiAll s with
    | ok v =>
      have c56 : ∀ m, callD C n_strconv_Atoi [.str s] m = some (.tup [I v, .nili], m) := fun m => by
        rw [callD_prim (q := qAtoi _) rfl]; simp [qAtoi, hs', hv]
      have c17 := fun m => strconv_Itoa_eq (atoi_I64 hv) m
      by_cases h1 : Lib.itoa v = s
      · by_cases h2 : (Lib.trimPrefix s [45]).length ≤ 10
        · have h2i : ¬ (10 : Int) < (Lib.trimPrefix s [45]).length := by omega
          have ih := ihk (i + 1) (out ++ [v]) (by omega) (by omega) (by simp; omega)
          have hL : lit 10 s = some v := by simp [lit, hv, h1, h2]
          have ha : append 1 8 (sv 1 true (out.map fun x => I x) .own) (.slc 1 [I v] .exact) = some (sv 1 true ((out ++ [v]).map fun x => I x) .own) := by
            rw [append_own1 (by simp [room]; omega)]; simp
          have hn : numsTup (numsF (s :: ws.drop (i + 1))) out = numsTup (numsF (ws.drop (i + 1))) (out ++ [v]) := by
            simp only [numsF, hL]; cases numsF (ws.drop (i + 1)) <;> simp [numsTup]
          rw [hn, ← ih]
          simp [b_profile_numbers_1, hP, hlt, hs, hw, c56, c57, c17, h1, h2i, ha, lh_profile_numbers_1]
        · have h2i : (10 : Int) < (Lib.trimPrefix s [45]).length := by omega
          have hL : lit 10 s = none := by simp [lit, hv, h1, h2]
          simp [b_profile_numbers_1, hP, hlt, hs, hw, c56, c57, c17, h1, h2i, numsF, hL, numsTup]
      · have hb : (Lib.itoa v != s) = true := by simp [h1]
        have hL : lit 10 s = none := by simp [lit, hv, h1]
        simp [b_profile_numbers_1, hP, hlt, hs, hw, c56, c57, c17, h1, hb, numsF, hL, numsTup]
    | range =>
      obtain ⟨t, c56⟩ : ∃ t, ∀ m, callD C n_strconv_Atoi [.str s] m = some (.tup [I (Lib.atoiSat s), .iface t .undef], m) := ⟨_, fun m => by
        rw [callD_prim (q := qAtoi _) rfl]; simp [qAtoi, hs', hv]; rfl⟩
      have hL : lit 10 s = none := by simp [lit, hv]
      simp [b_profile_numbers_1, hP, hlt, hs, hw, c56, numsF, hL, numsTup]
    | _ =>
      obtain ⟨t, c56⟩ : ∃ t, ∀ m, callD C n_strconv_Atoi [.str s] m = some (.tup [I 0, .iface t .undef], m) := ⟨_, fun m => by
        rw [callD_prim (q := qAtoi _) rfl]; simp [qAtoi, hs', hv]; rfl⟩
      have hL : lit 10 s = none := by simp [lit, hv]
      simp [b_profile_numbers_1, hP, hlt, hs, hw, c56, numsF, hL, numsTup]

theorem profile_numbers_eq (ws : List Str) (φ : SF) (hl : ws.length ≤ 1000000) (hx : ∀ w, w ∈ ws → w.length ≤ 1000000) (m : Mem) : callD C n_profile_numbers [sv 1 φ.z (ws.map fun s => AV.str s) φ.c] m = some (numsTup (numsF ws) [], m) := by
  rw [callD_env (af := a_profile_numbers) rfl rfl _ _ (by simp [a_profile_numbers])]
  have h := profile_numbers_loop ws _ φ.z φ.c rfl hl hx m _ 0 [] rfl (Nat.zero_le _) rfl
  rw [List.drop_zero] at h
  have e0 : sv 1 true (([] : List Int).map fun x => I x) .own = .nils := by simp [sv]
  rw [e0] at h
  simp at h
  simp [a_profile_numbers, lh_profile_numbers_1]
  exact h

end Go.Proofs.YtnhagbllecpkkaaGreatDoor
