/-
  The rounds of Recover of the program.
-/
import Derived.Test.YtnhagbllecpkkaaGreatDoorRecPlain
set_option linter.unusedSimpArgs false
set_option linter.unusedVariables false

namespace Go.Proofs.YtnhagbllecpkkaaGreatDoor
open Go Go.VA

theorem trimSuffix_len (l : List UInt8) : (Lib.trimSuffix l [10]).length ≤ l.length := by
  unfold Lib.trimSuffix
  split
  · simp
  · exact Nat.le_refl _

theorem splitK_mem (sep : List UInt8) (sv : Nat) : ∀ (k : Nat) (s w : List UInt8), w ∈ Lib.splitK sep sv k s → w.length ≤ s.length
  | 0, s, w, h => by
    simp [Lib.splitK] at h
    subst h
    exact Nat.le_refl _
  | k + 1, s, w, h => by
    unfold Lib.splitK at h
    split at h
    · simp at h; subst h; exact Nat.le_refl _
    · rw [List.mem_cons] at h
      rcases h with rfl | h
      · simp; omega
      · have := splitK_mem sep sv k _ w h
        simp at this
        omega

set_option maxHeartbeats 4000000 in
set_option maxRecDepth 100000 in
theorem desk_Recover_rounds (E : Env) (m : Mem) (h4 : VA.look E 4 = .ptr ⟨m.length, [4]⟩ 0) (h5 : VA.look E 5 = .ptr ⟨m.length, [5]⟩ 0) (h6 : VA.look E 6 = .ptr ⟨m.length, [6]⟩ 0) : ∀ (ls : List (List UInt8)) (out : List Ent) (n size : Nat),
    (∀ l, l ∈ ls → l.length ≤ 30000) → out.length ≤ 60 → n < 999999937 → size + (ls.map List.length).sum ≤ 1000000 →
    ∃ e n', rounds (den C) [13] g_desk_Recover_1 y_desk_Recover_1 (tmOf 79 E) (ls.map fun l => [.str l]) (boxR out n size :: m) = some (e, boxR (out ++ (recG out.length n ls).1) n' (size + (recG out.length n ls).2) :: m) ∧ (e = .normal ∨ e = .exit 0) := by
  intro ls
  induction ls with
  | nil => exact fun out n size _ _ _ _ => ⟨.normal, n, by simp [rounds, recG], .inl rfl⟩
  | cons l ls ih =>
    intro out n size hl ho hn hs
    have hll : l.length ≤ 30000 := hl l (by simp)
    have t1 : ∀ m, callD C n_strings_TrimSuffix [.str l, .str [10]] m = some (.str (Lib.trimSuffix l [10]), m) := fun m => by
      rw [callD_prim (q := qTrimSuffix) rfl]
      have : l.length ≤ 9223372036854775807 := by omega
      simp [qTrimSuffix, this]
    have htl := trimSuffix_len l
    have t2 : ∀ m, callD C n_strings_SplitN [.str (Lib.trimSuffix l [10]), .str [32], .int .i64 4] m = some (.slc 1 ((Lib.splitN (Lib.trimSuffix l [10]) [32] 4).map .str) .unk, m) := fun m => by
      rw [callD_prim (q := qSplitN) rfl]
      have : (Lib.trimSuffix l [10]).length < 4294967281 := by omega
      simp [qSplitN, this]
    have t3 : ∀ m, callD C n_strings_HasSuffix [.str l, .str [10]] m = some (.bool (Lib.hasSuffix l [10]), m) := fun m => by
      rw [callD_prim (q := qHasSuffix) rfl]
      have : l.length ≤ 9223372036854775807 := by omega
      simp [qHasSuffix, this]
    have hmem : ∀ w, w ∈ Lib.splitN (Lib.trimSuffix l [10]) [32] 4 → w.length ≤ 30000 := fun w hw => by
      have := splitK_mem [32] 0 _ _ w hw
      omega
    have hle := splitN_le (Lib.trimSuffix l [10])
    simp only [List.map_cons, rounds, recG]
    unfold stepG
    generalize hws : Lib.splitN (Lib.trimSuffix l [10]) [32] 4 = ws at *
    rcases ws with _ | ⟨a, _ | ⟨b, _ | ⟨c, _ | ⟨d, _ | ⟨x, r⟩⟩⟩⟩⟩
    · as_aux_lemma =>
        simp [h4, h5, h6, g_desk_Recover_1, y_desk_Recover_1, k_desk_Recover_1_13, k_desk_Recover_1_1, t1, t2, boxR]
        exact ⟨_, ⟨rfl, n, rfl⟩, .inr rfl⟩
    · as_aux_lemma =>
        simp [h4, h5, h6, g_desk_Recover_1, y_desk_Recover_1, k_desk_Recover_1_13, k_desk_Recover_1_1, t1, t2, boxR]
        exact ⟨_, ⟨rfl, n, rfl⟩, .inr rfl⟩
    · as_aux_lemma =>
        simp [h4, h5, h6, g_desk_Recover_1, y_desk_Recover_1, k_desk_Recover_1_13, k_desk_Recover_1_1, t1, t2, boxR]
        exact ⟨_, ⟨rfl, n, rfl⟩, .inr rfl⟩
    · as_aux_lemma =>
        simp [h4, h5, h6, g_desk_Recover_1, y_desk_Recover_1, k_desk_Recover_1_13, k_desk_Recover_1_1, t1, t2, boxR]
        exact ⟨_, ⟨rfl, n, rfl⟩, .inr rfl⟩
    · have hc := hmem c (by simp)
      have hdl := hmem d (by simp)
      have t6 := fun m => desk_seal_eq n hn c d (by omega) m
      have hsl := sealOf_lt hn c d
      have t7 := fun m => desk_isName_eq c (by omega) m
      dsimp only
      generalize hR : rounds (den C) [13] g_desk_Recover_1 y_desk_Recover_1 (tmOf 79 E) (ls.map fun l => [AV.str l]) = R
      generalize hsq : sealOf n c d = sl at *
      obtain ⟨cnt, hcnt⟩ : ∃ cnt : Int, (out.length : Int) = cnt := ⟨_, rfl⟩
      have hlen : lenAV false (entsAV out .unk) = some (.int .i64 cnt) := by rw [← hcnt]; simp
      generalize hc1 : (out.length : Int) + 1 = c1
      have hw : IntKind.i64.wrap (cnt + 1) = c1 := by rw [← hcnt, IntWalk.i64_in _ (by omega)]; exact hc1
      have t4 : ∀ m, callD C n_strconv_Itoa [.int .i64 c1] m = some (.str (Lib.itoa c1), m) := fun m => strconv_Itoa_eq ⟨by omega, by omega⟩ m
      have t5 : ∀ m, callD C n_strconv_Itoa [.int .i64 (sl : Int)] m = some (.str (Lib.itoa sl), m) := fun m => strconv_Itoa_eq ⟨by omega, by omega⟩ m
      cases e1 : Lib.hasSuffix l [10] with
      | false =>
        as_aux_lemma =>
          simp [-ents_len, hlen, h4, h5, h6, g_desk_Recover_1, y_desk_Recover_1, k_desk_Recover_1_13, k_desk_Recover_1_1, t1, t2, t3, e1, boxR]
          exact ⟨_, ⟨rfl, n, rfl⟩, .inr rfl⟩
      | true =>
      by_cases e2 : out.length = 60
      · have e2' : (cnt == 60) = true := by simp; omega
        as_aux_lemma =>
          simp [-ents_len, hlen, h4, h5, h6, g_desk_Recover_1, y_desk_Recover_1, k_desk_Recover_1_13, k_desk_Recover_1_1, t1, t2, t3, e1, e2, e2', boxR]
          exact ⟨_, ⟨rfl, n, rfl⟩, .inr rfl⟩
      · have e2' : (cnt == 60) = false := by simp; omega
        simp only [List.map_cons, List.sum_cons] at hs
        as_aux_lemma =>
          simp [-ents_len, hlen, h4, h5, h6, g_desk_Recover_1, y_desk_Recover_1, k_desk_Recover_1_13, k_desk_Recover_1_1, t1, t2, t3, e1, e2', boxR]
          as_aux_lemma =>
            simp [-ents_len, hlen, k_desk_Recover_1_12, k_desk_Recover_1_11, h4, h5, h6]
            as_aux_lemma =>
              simp [-ents_len, hlen, k_desk_Recover_1_10, h4, h5, h6, t6]
              by_cases e3 : a = Lib.itoa c1
              · by_cases e4 : b = Lib.itoa sl
                · cases e5 : isNameF c with
                  | false =>
                    as_aux_lemma =>
                      simp [-ents_len, hlen, k_desk_Recover_1_9, h4, h5, h6, hw, t4, t5, t7, e3, e4, e5]
                      as_aux_lemma =>
                        simp [-ents_len, hlen, r_desk_Recover_1_4, h4, h5, h6, hw, t4, t5, t7, e3, e4, e5]
                        as_aux_lemma =>
                          simp [-ents_len, hlen, r_desk_Recover_1_3, h4, h5, h6, hw, t4, t5, t7, e3, e4, e5]
                          as_aux_lemma =>
                            simp [-ents_len, hlen, r_desk_Recover_1_2, k_desk_Recover_1_5, h4, h5, h6, hw, t4, t5, t7, e3, e4, e5]
                            exact ⟨_, ⟨rfl, n, rfl⟩, .inr rfl⟩
                  | true =>
                    by_cases e6 : d.length ≤ 400
                    · have e6' : ¬ (400 : Int) < d.length := by omega
                      have ha := append_ent out (c, d) (by simp [room]; omega)
                      simp only [entAV] at ha
                      have hll2 : (l.length : Int) ≤ 30000 := by omega
                      have hws2 : IntKind.i64.wrap ((size : Int) + l.length) = ((size + l.length : Nat) : Int) := by rw [IntWalk.i64_in _ (by omega)]; omega
                      obtain ⟨e, n', g1, g2⟩ := ih (out ++ [(c, d)]) sl (size + l.length) (fun x hx => hl x (by simp [hx])) (by simp; omega) hsl (by omega)
                      rw [hR] at g1
                      as_aux_lemma =>
                        simp [-ents_len, hlen, k_desk_Recover_1_9, h4, h5, h6, hw, t4, t5, t7, e2, e3, e4, e5, e6, e6', ha, hws2]
                        as_aux_lemma =>
                          simp [-ents_len, hlen, r_desk_Recover_1_4, h4, h5, h6, hw, t4, t5, t7, e2, e3, e4, e5, e6, e6', ha, hws2]
                          as_aux_lemma =>
                            simp [-ents_len, hlen, r_desk_Recover_1_3, h4, h5, h6, hw, t4, t5, t7, e2, e3, e4, e5, e6, e6', ha, hws2]
                            as_aux_lemma =>
                              simp [-ents_len, hlen, r_desk_Recover_1_2, k_desk_Recover_1_5, h4, h5, h6, hw, t4, t5, t7, e2, e3, e4, e5, e6, e6', ha, hws2]
                              as_aux_lemma =>
                                simp [-ents_len, hlen, k_desk_Recover_1_8, k_desk_Recover_1_7, h4, h5, h6, hw, t4, t5, t7, e2, e3, e4, e5, e6, e6', ha, hws2]
                                as_aux_lemma =>
                                  simp [-ents_len, hlen, r_desk_Recover_1_6, h4, h5, h6, hw, t4, t5, t7, e2, e3, e4, e5, e6, e6', ha, hws2]
                                  simp [boxR, Int.add_assoc] at g1
                                  exact ⟨e, ⟨n', g1⟩, g2⟩
                    · have e6' : (400 : Int) < d.length := by omega
                      as_aux_lemma =>
                        simp [-ents_len, hlen, k_desk_Recover_1_9, h4, h5, h6, hw, t4, t5, t7, e3, e4, e5, e6, e6']
                        as_aux_lemma =>
                          simp [-ents_len, hlen, r_desk_Recover_1_4, h4, h5, h6, hw, t4, t5, t7, e3, e4, e5, e6, e6']
                          as_aux_lemma =>
                            simp [-ents_len, hlen, r_desk_Recover_1_3, h4, h5, h6, hw, t4, t5, t7, e3, e4, e5, e6, e6']
                            as_aux_lemma =>
                              simp [-ents_len, hlen, r_desk_Recover_1_2, k_desk_Recover_1_5, h4, h5, h6, hw, t4, t5, t7, e3, e4, e5, e6, e6']
                              exact ⟨_, ⟨rfl, n, rfl⟩, .inr rfl⟩
                · have e4' : (b != Lib.itoa sl) = true := by simp [e4]
                  as_aux_lemma =>
                    simp [-ents_len, hlen, k_desk_Recover_1_9, h4, h5, h6, hw, t4, t5, t7, e3, e4, e4']
                    as_aux_lemma =>
                      simp [-ents_len, hlen, r_desk_Recover_1_4, h4, h5, h6, hw, t4, t5, t7, e3, e4, e4']
                      as_aux_lemma =>
                        simp [-ents_len, hlen, r_desk_Recover_1_3, h4, h5, h6, hw, t4, t5, t7, e3, e4, e4']
                        as_aux_lemma =>
                          simp [-ents_len, hlen, r_desk_Recover_1_2, k_desk_Recover_1_5, h4, h5, h6, hw, t4, t5, t7, e3, e4, e4']
                          exact ⟨_, ⟨rfl, n, rfl⟩, .inr rfl⟩
              · have e3' : (a != Lib.itoa c1) = true := by simp [e3]
                as_aux_lemma =>
                  simp [-ents_len, hlen, k_desk_Recover_1_9, h4, h5, h6, hw, t4, t5, t7, e3, e3']
                  as_aux_lemma =>
                    simp [-ents_len, hlen, r_desk_Recover_1_4, h4, h5, h6, hw, t4, t5, t7, e3, e3']
                    as_aux_lemma =>
                      simp [-ents_len, hlen, r_desk_Recover_1_3, h4, h5, h6, hw, t4, t5, t7, e3, e3']
                      as_aux_lemma =>
                        simp [-ents_len, hlen, r_desk_Recover_1_2, k_desk_Recover_1_5, h4, h5, h6, hw, t4, t5, t7, e3, e3']
                        exact ⟨_, ⟨rfl, n, rfl⟩, .inr rfl⟩
    · simp at hle

end Go.Proofs.YtnhagbllecpkkaaGreatDoor
