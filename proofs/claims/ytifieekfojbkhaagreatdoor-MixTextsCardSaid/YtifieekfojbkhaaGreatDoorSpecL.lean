/-
  The law: a right fill is read back, and MixTexts answers true.
-/
import Derived.Test.YtifieekfojbkhaaGreatDoorSpecK
import Derived.Test.YtifieekfojbkhaaGreatDoorSpecD
import Derived.Test.YtifieekfojbkhaaGreatDoorAwake
set_option linter.unusedSimpArgs false
set_option linter.unusedVariables false
namespace Go.Proofs.YtifieekfojbkhaaGreatDoor
open Go Go.VA

theorem awake_eq : callD C n_law06_awake [] [[]] = some (.bool true, [[]]) := callWith_mono (le_den 400) _ _ _ _ awake_ev

theorem dec_len {u k : Nat} (hk : 1 ≤ k) (h : u < 10 ^ k) : (Lib.decDigits u).length ≤ k := by
  have := digs_len k (u : Int) (by simpa using h)
  by_cases h0 : u = 0
  · subst h0
    rw [Lib.decDigits, dif_pos (by omega)]
    simpa using hk
  · unfold digs at this
    rw [if_neg (by omega)] at this
    simpa using this

theorem numOf_itoa {v : Int} (h : v.natAbs < 10 ^ 10) : numOf (Lib.itoa v) = some v := by
  rw [numOf_lit, lit_iff (by omega)]
  exact ⟨rfl, dec_len (by omega) h⟩

theorem itoa_mem {v : Int} {x : UInt8} (h : x ∈ Lib.itoa v) : x = 45 ∨ (48 ≤ x.toNat ∧ x.toNat ≤ 57) := by
  by_cases hv : v < 0
  · rw [itoa_neg hv, List.mem_cons] at h
    rcases h with h | h
    · exact .inl h
    · exact .inr ((decDigits_spec _).2.2.1 x h)
  · rw [itoa_nonneg hv] at h
    exact .inr ((decDigits_spec _).2.2.1 x h)

theorem itoa_no32 (v : Int) : (32 : UInt8) ∉ Lib.itoa v := by
  intro h
  rcases itoa_mem h with h | h
  · simp at h
  · simp at h
theorem itoa_no10 (v : Int) : (10 : UInt8) ∉ Lib.itoa v := by
  intro h
  rcases itoa_mem h with h | h
  · simp at h
  · simp at h

theorem mem_join {x c : UInt8} {ws : List (List UInt8)} (h : x ∈ Lib.join ws [c]) : x = c ∨ ∃ w, w ∈ ws ∧ x ∈ w := by
  cases ws with
  | nil => simp [Lib.join_nil] at h
  | cons w r =>
    rw [Lib.join_cons, List.mem_append] at h
    rcases h with h | h
    · exact .inr ⟨w, by simp, h⟩
    · simp only [Lib.joinTail, List.mem_flatten, List.mem_map] at h
      obtain ⟨l, ⟨v, hv, rfl⟩, hx⟩ := h
      simp only [List.cons_append, List.nil_append, List.mem_cons] at hx
      rcases hx with hx | hx
      · exact .inl hx
      · exact .inr ⟨v, by simp [hv], hx⟩

theorem parse_text {k d : Int} {fr to : List UInt8} {ox he am : Int} {pu : Bool} (h : Right k d fr to ox he am pu) (h32 : (32 : UInt8) ∉ fr ++ to) (h10 : (10 : UInt8) ∉ fr ++ to) :
    parseFill (textOf k d fr to ox he am pu) = some ⟨k, d, fr, to, ox, he, am, pu⟩ := by
  obtain ⟨r1, r2, r3, r4, r5, r6, r7, r8⟩ := h
  simp only [List.mem_append, not_or] at h32 h10
  have nd := numOf_itoa (v := d) (by omega)
  have na := numOf_itoa (v := am) (by omega)
  have key : ∀ (ws : List (List UInt8)) f, ws ≠ [] → (∀ w, w ∈ ws → (32 : UInt8) ∉ w) → (∀ w, w ∈ ws → (10 : UInt8) ∉ w) → parseW ws = some f → parseFill (Lib.join ws [32]) = some f := by
    intro ws f h1 h2 h3 h4
    unfold parseFill
    rw [cutAt_join 32 ws h1 h2, if_neg, h4]
    intro h
    rcases mem_join h with h | ⟨w, hw, hx⟩
    · simp at h
    · exact h3 w hw hx
  unfold textOf wordsOf
  rcases (show k = 0 ∨ k = 1 ∨ k = 2 by omega) with rfl | rfl | rfl
  · obtain ⟨g1, g2, g3, g4⟩ := r4 rfl
    have no := numOf_itoa (v := ox) (by omega)
    have nh := numOf_itoa (v := he) (by omega)
    have := r6 rfl
    subst this
    have := r8 (by omega)
    subst this
    refine key _ _ (by simp) ?_ ?_ (by simp [parseW, nd, na, no, nh])
    · simp [itoa_no32, h32]
    · simp [itoa_no10, h10]
  · obtain ⟨rfl, rfl⟩ := r5 (by omega)
    refine key _ _ (by simp) ?_ ?_ (by cases pu <;> simp [parseW, nd, na])
    · cases pu <;> simp [itoa_no32, h32]
    · cases pu <;> simp [itoa_no10, h10]
  · obtain ⟨rfl, rfl⟩ := r5 (by omega)
    have := r7 rfl
    subst this
    have := r8 (by omega)
    subst this
    refine key _ _ (by simp) ?_ ?_ (by simp [parseW, nd, na])
    · simp [itoa_no32, h32]
    · simp [itoa_no10, h10]

theorem text_len {k d : Int} {fr to : List UInt8} {ox he am : Int} {pu : Bool} (hd : I64 d) (ho : I64 ox) (hh : I64 he) (ha : I64 am) (hf : fr.length ≤ 20) (ht : to.length ≤ 20) : (textOf k d fr to ox he am pu).length ≤ 1000 := by
  have l1 := itoa_len hd
  have l2 := itoa_len ho
  have l3 := itoa_len hh
  have l4 := itoa_len ha
  unfold textOf
  have hw : (wordsOf k d fr to ox he am pu).length ≤ 6 ∧ ∀ x, x ∈ wordsOf k d fr to ox he am pu → x.length ≤ 20 := by
    unfold wordsOf
    split
    · simp; omega
    · split
      · cases pu <;> simp <;> omega
      · split
        · simp; omega
        · simp
  have := join_len _ [32] 20 hw.2
  have h2 : (wordsOf k d fr to ox he am pu).length * (20 + [(32 : UInt8)].length) ≤ 6 * 21 := Nat.mul_le_mul hw.1 (by simp)
  omega

theorem fill_ext {f g : Fill} (h : f.av = g.av) : f = g := by
  cases f; cases g
  simp [Fill.av, fillAV] at h
  simp [h]

theorem fillTup_cells (o : Option Fill) : ∃ k d fr to ox he am pu e, fillTup o = .tup [.agg [.int .i64 k, .int .i64 d, .str fr, .str to, .int .i64 ox, .int .i64 he, .int .i64 am, .bool pu], .int .i64 e] := by
  cases o with
  | none => exact ⟨_, _, _, _, _, _, _, _, _, rfl⟩
  | some f => exact ⟨_, _, _, _, _, _, _, _, _, rfl⟩

set_option maxHeartbeats 4000000 in
theorem MixTexts_eq (k d : Int) (fr to : List UInt8) (ox he am : Int) (pu : Bool) (s : List UInt8) (hd : I64 d) (ho : I64 ox) (hh : I64 he) (ha : I64 am) :
    callD C n_law06_MixTexts [fillAV k d fr to ox he am pu, .str s] [] = some (.bool true, []) := by
  rw [callD_env (af := a_law06_MixTexts) rfl rfl _ _ (by simp [a_law06_MixTexts])]
  by_cases hb : (20 : Int) < fr.length ∨ (20 : Int) < to.length ∨ (120 : Int) < s.length
  · simp [a_law06_MixTexts, awake_eq, fillAV]
    intro h1 h2 h3
    omega
  · have g1 : ¬ (20 : Int) < fr.length := by omega
    have g2 : ¬ (20 : Int) < to.length := by omega
    have g3 : ¬ (120 : Int) < s.length := by omega
    have c1 := fun m => mix_FormatFill_eq (k := k) (d := d) (fr := fr) (to := to) (ox := ox) (he := he) (am := am) (pu := pu) hd ho hh ha (by omega) (by omega) m
    have c2 := fun m => ref06_FormatFill_eq (k := k) (d := d) (fr := fr) (to := to) (ox := ox) (he := he) (am := am) (pu := pu) hd ho hh ha (by omega) (by omega) m
    have p1 := fun m => mix_ParseFill_eq s (by omega) m
    have p2 := fun m => ref06_ParseFill_eq s (by omega) m
    have hl := text_len (k := k) (d := d) (fr := fr) (to := to) (ox := ox) (he := he) (am := am) (pu := pu) hd ho hh ha (by omega) (by omega)
    have p3 := fun m => mix_ParseFill_eq (textOf k d fr to ox he am pu) hl m
    obtain ⟨e, q1, q2⟩ := ref06_CheckFill_eq k d fr to ox he am pu
    have b1 : ∀ m, callD C n_base_Cut [.str (fr ++ to), .int .u8 32] m = some (.slc 1 ((cutAt 32 (fr ++ to)).map .str) .own, m) := fun m => base_Cut_at (fr ++ to) 32 m (by simp; omega)
    have b2 : ∀ m, callD C n_base_Cut [.str (fr ++ to), .int .u8 10] m = some (.slc 1 ((cutAt 10 (fr ++ to)).map .str) .own, m) := fun m => base_Cut_at (fr ++ to) 10 m (by simp; omega)
    obtain ⟨xk, xd, xf, xt, xo, xh, xa, xp, xe, hx⟩ := fillTup_cells (parseFill s)
    have hsum : fr.length + to.length ≤ 9223372036854775807 := by omega
    rw [hx] at p1 p2
    simp only [fillAV] at c1 c2 q1
    by_cases he0 : e = 0
    · subst he0
      by_cases h32 : (32 : UInt8) ∈ fr ++ to
      · have n1 : (1 : Int) < (cutAt 32 (fr ++ to)).length := by
          rw [cutAt_length]; have := List.count_pos_iff.2 h32; omega
        simp [a_law06_MixTexts, awake_eq, fillAV, g1, g2, g3, c1, c2, p1, p2, q1, b1, hsum, n1]
      · have n1 : ¬ (1 : Int) < (cutAt 32 (fr ++ to)).length := by
          rw [cutAt_length, List.count_eq_zero.2 h32]; omega
        by_cases h10 : (10 : UInt8) ∈ fr ++ to
        · have n2 : (1 : Int) < (cutAt 10 (fr ++ to)).length := by
            rw [cutAt_length]; have := List.count_pos_iff.2 h10; omega
          simp [a_law06_MixTexts, awake_eq, fillAV, g1, g2, g3, c1, c2, p1, p2, q1, b1, b2, hsum, n1, n2]
        · have n2 : ¬ (1 : Int) < (cutAt 10 (fr ++ to)).length := by
            rw [cutAt_length, List.count_eq_zero.2 h10]; omega
          rw [parse_text (q2 rfl) h32 h10] at p3
          simp [a_law06_MixTexts, awake_eq, fillAV, g1, g2, g3, c1, c2, p1, p2, p3, fillTup, Fill.av, q1, b1, b2, hsum, n1, n2]
    · have hz : (e != 0) = true := by simpa using he0
      simp [a_law06_MixTexts, awake_eq, fillAV, g1, g2, g3, c1, c2, p1, p2, q1, he0, hz]
end Go.Proofs.YtifieekfojbkhaaGreatDoor
