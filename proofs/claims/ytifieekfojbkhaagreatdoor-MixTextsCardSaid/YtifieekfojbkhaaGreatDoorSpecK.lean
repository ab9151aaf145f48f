/-
  What ParseFill of the reference answers.
-/
import Derived.Test.YtifieekfojbkhaaGreatDoorSpecJ
set_option linter.unusedSimpArgs false
set_option linter.unusedVariables false
namespace Go.Proofs.YtifieekfojbkhaaGreatDoor
open Go Go.VA

set_option maxHeartbeats 4000000 in
theorem ref06_ParseFill_eq (s : List UInt8) (hs : s.length ≤ 1000) (mem : Mem) : callD C n_ref06_ParseFill [.str s] mem = some (fillTup (parseFill s), mem) := by
  rw [callD_env (af := a_ref06_ParseFill) rfl rfl _ _ (by simp [a_ref06_ParseFill])]
  have c1 : ∀ m, callD C n_base_Cut [.str s, .int .u8 32] m = some (.slc 1 ((cutAt 32 s).map .str) .own, m) := fun m => base_Cut_at s 32 m (by omega)
  have c2 : ∀ m, callD C n_base_Cut [.str s, .int .u8 10] m = some (.slc 1 ((cutAt 10 s).map .str) .own, m) := fun m => base_Cut_at s 10 m (by omega)
  have hlen := cutAt_length 10 s
  have hmem : ∀ x, x ∈ cutAt 32 s → x.length ≤ 1000 := fun x hx => by have := (cutAt_mem 32 s x hx).1; omega
  have hcl : (cutAt 32 s).length ≤ 1001 := by
    rw [cutAt_length]
    have := List.count_le_length (a := (32 : UInt8)) (l := s)
    omega
  have hcount : (((List.count 10 s : Nat) : Int) + 1 == 1) = decide (¬ (10 : UInt8) ∈ s) := by
    rw [Bool.eq_iff_iff]
    simp only [beq_iff_eq, decide_eq_true_eq]
    rw [← List.count_eq_zero]
    omega
  have hcount' : (((List.count 10 s : Nat) : Int) + 1 != 1) = decide ((10 : UInt8) ∈ s) := by
    rw [bne, hcount]; simp
  rcases hw : cutAt 32 s with _ | ⟨a, _ | ⟨b, _ | ⟨e, _ | ⟨f, r⟩⟩⟩⟩
  · exact absurd hw (cutAt_ne _ _)
  · simp [a_ref06_ParseFill, c1, hw, zf, fillTup, fillAV, parseFill, parseW]
  · simp [a_ref06_ParseFill, c1, hw, zf, fillTup, fillAV, parseFill, parseW]
  · simp [a_ref06_ParseFill, c1, hw, zf, fillTup, fillAV, parseFill, parseW]
  have l4 : ¬ (r.length : Int) + 1 + 1 + 1 + 1 < 4 := by omega
  by_cases h10 : (10 : UInt8) ∈ s
  · simp [a_ref06_ParseFill, c1, c2, hw, hlen, hcount, hcount', h10, l4, zf, fillTup, fillAV, parseFill]
  rcases r with _ | ⟨g, _ | ⟨h, _ | ⟨i, t⟩⟩⟩
  · rw [hw] at hmem hcl
    simp only [List.mem_cons, List.not_mem_nil, or_false, forall_eq_or_imp, forall_eq] at hmem
    by_cases h_in : a = [105, 110]
    · simp [a_ref06_ParseFill, c1, c2, hw, hlen, hcount, hcount', h10, zf, fillTup, fillAV, Fill.av, parseFill, parseW, h_in]
    · skip
      by_cases h_move : a = [109, 111, 118, 101]
      · simp [a_ref06_ParseFill, c1, c2, hw, hlen, hcount, hcount', h10, zf, fillTup, fillAV, Fill.av, parseFill, parseW, h_move]
      · skip
        by_cases h_pump : a = [112, 117, 109, 112]
        · simp [a_ref06_ParseFill, c1, c2, hw, hlen, hcount, hcount', h10, zf, fillTup, fillAV, Fill.av, parseFill, parseW, h_pump]
        · skip
          by_cases h_vent : a = [118, 101, 110, 116]
          · subst h_vent
            have hl := ref06_ParseFill_loop [[118, 101, 110, 116], b, e, f] (by first | simp | simpa using hcl) (by first | (simp; done) | simpa using hmem) [.int .i64 2, .int .i64 0, .str e, .str [], .int .i64 0, .int .i64 0, .int .i64 0, .bool false] mem _ 3 [] rfl (by simp) (by simp)
            have hb := hmem.2.1
            cases e_f : numOf f with
            | none =>
              simp [nums, e_f, outI, zf] at hl
              obtain ⟨tm, q1, q2, q3⟩ := hl
              simp [a_ref06_ParseFill, c1, c2, hw, hlen, hcount, hcount', h10, zf, fillTup, fillAV, Fill.av, parseFill, parseW, lh_ref06_ParseFill_1, outI, q1, q2, q3, e_f]
            | some v_f =>
              simp [nums, e_f, outI, zf] at hl
              cases e_b : numOf b with
              | none => simp [a_ref06_ParseFill, c1, c2, hw, hlen, hcount, hcount', h10, zf, fillTup, fillAV, Fill.av, parseFill, parseW, lh_ref06_ParseFill_1, outI, hl, number10, numTup, hb, e_b, e_f]
              | some v_b => simp [a_ref06_ParseFill, c1, c2, hw, hlen, hcount, hcount', h10, zf, fillTup, fillAV, Fill.av, parseFill, parseW, lh_ref06_ParseFill_1, outI, hl, number10, numTup, hb, e_b, e_f]
          · skip
            simp [a_ref06_ParseFill, c1, c2, hw, hlen, hcount, hcount', h10, zf, fillTup, fillAV, Fill.av, parseFill, parseW, h_in, h_move, h_pump, h_vent]
  · rw [hw] at hmem hcl
    simp only [List.mem_cons, List.not_mem_nil, or_false, forall_eq_or_imp, forall_eq] at hmem
    by_cases h_in : a = [105, 110]
    · simp [a_ref06_ParseFill, c1, c2, hw, hlen, hcount, hcount', h10, zf, fillTup, fillAV, Fill.av, parseFill, parseW, h_in]
    · skip
      by_cases h_move : a = [109, 111, 118, 101]
      · subst h_move
        have hl := ref06_ParseFill_loop [[109, 111, 118, 101], b, e, f, g] (by first | simp | simpa using hcl) (by first | (simp; done) | simpa using hmem) [.int .i64 1, .int .i64 0, .str e, .str f, .int .i64 0, .int .i64 0, .int .i64 0, .bool false] mem _ 4 [] rfl (by simp) (by simp)
        have hb := hmem.2.1
        cases e_g : numOf g with
        | none =>
          simp [nums, e_g, outI, zf] at hl
          obtain ⟨tm, q1, q2, q3⟩ := hl
          simp [a_ref06_ParseFill, c1, c2, hw, hlen, hcount, hcount', h10, zf, fillTup, fillAV, Fill.av, parseFill, parseW, lh_ref06_ParseFill_1, outI, q1, q2, q3, e_g]
        | some v_g =>
          simp [nums, e_g, outI, zf] at hl
          cases e_b : numOf b with
          | none => simp [a_ref06_ParseFill, c1, c2, hw, hlen, hcount, hcount', h10, zf, fillTup, fillAV, Fill.av, parseFill, parseW, lh_ref06_ParseFill_1, outI, hl, number10, numTup, hb, e_b, e_g]
          | some v_b => simp [a_ref06_ParseFill, c1, c2, hw, hlen, hcount, hcount', h10, zf, fillTup, fillAV, Fill.av, parseFill, parseW, lh_ref06_ParseFill_1, outI, hl, number10, numTup, hb, e_b, e_g]
      · skip
        by_cases h_pump : a = [112, 117, 109, 112]
        · subst h_pump
          have hl := ref06_ParseFill_loop [[112, 117, 109, 112], b, e, f, g] (by first | simp | simpa using hcl) (by first | (simp; done) | simpa using hmem) [.int .i64 1, .int .i64 0, .str e, .str f, .int .i64 0, .int .i64 0, .int .i64 0, .bool true] mem _ 4 [] rfl (by simp) (by simp)
          have hb := hmem.2.1
          cases e_g : numOf g with
          | none =>
            simp [nums, e_g, outI, zf] at hl
            obtain ⟨tm, q1, q2, q3⟩ := hl
            simp [a_ref06_ParseFill, c1, c2, hw, hlen, hcount, hcount', h10, zf, fillTup, fillAV, Fill.av, parseFill, parseW, lh_ref06_ParseFill_1, outI, q1, q2, q3, e_g]
          | some v_g =>
            simp [nums, e_g, outI, zf] at hl
            cases e_b : numOf b with
            | none => simp [a_ref06_ParseFill, c1, c2, hw, hlen, hcount, hcount', h10, zf, fillTup, fillAV, Fill.av, parseFill, parseW, lh_ref06_ParseFill_1, outI, hl, number10, numTup, hb, e_b, e_g]
            | some v_b => simp [a_ref06_ParseFill, c1, c2, hw, hlen, hcount, hcount', h10, zf, fillTup, fillAV, Fill.av, parseFill, parseW, lh_ref06_ParseFill_1, outI, hl, number10, numTup, hb, e_b, e_g]
        · skip
          by_cases h_vent : a = [118, 101, 110, 116]
          · simp [a_ref06_ParseFill, c1, c2, hw, hlen, hcount, hcount', h10, zf, fillTup, fillAV, Fill.av, parseFill, parseW, h_vent]
          · skip
            simp [a_ref06_ParseFill, c1, c2, hw, hlen, hcount, hcount', h10, zf, fillTup, fillAV, Fill.av, parseFill, parseW, h_in, h_move, h_pump, h_vent]
  · rw [hw] at hmem hcl
    simp only [List.mem_cons, List.not_mem_nil, or_false, forall_eq_or_imp, forall_eq] at hmem
    by_cases h_in : a = [105, 110]
    · subst h_in
      have hl := ref06_ParseFill_loop [[105, 110], b, e, f, g, h] (by first | simp | simpa using hcl) (by first | (simp; done) | simpa using hmem) [.int .i64 0, .int .i64 0, .str [], .str e, .int .i64 0, .int .i64 0, .int .i64 0, .bool false] mem _ 3 [] rfl (by simp) (by simp)
      have hb := hmem.2.1
      cases e_f : numOf f with
      | none =>
        simp [nums, e_f, outI, zf] at hl
        obtain ⟨tm, q1, q2, q3⟩ := hl
        simp [a_ref06_ParseFill, c1, c2, hw, hlen, hcount, hcount', h10, zf, fillTup, fillAV, Fill.av, parseFill, parseW, lh_ref06_ParseFill_1, outI, q1, q2, q3, e_f]
      | some v_f =>
        cases e_g : numOf g with
        | none =>
          simp [nums, e_f, e_g, outI, zf] at hl
          obtain ⟨tm, q1, q2, q3⟩ := hl
          simp [a_ref06_ParseFill, c1, c2, hw, hlen, hcount, hcount', h10, zf, fillTup, fillAV, Fill.av, parseFill, parseW, lh_ref06_ParseFill_1, outI, q1, q2, q3, e_f, e_g]
        | some v_g =>
          cases e_h : numOf h with
          | none =>
            simp [nums, e_f, e_g, e_h, outI, zf] at hl
            obtain ⟨tm, q1, q2, q3⟩ := hl
            simp [a_ref06_ParseFill, c1, c2, hw, hlen, hcount, hcount', h10, zf, fillTup, fillAV, Fill.av, parseFill, parseW, lh_ref06_ParseFill_1, outI, q1, q2, q3, e_f, e_g, e_h]
          | some v_h =>
            simp [nums, e_f, e_g, e_h, outI, zf] at hl
            cases e_b : numOf b with
            | none => simp [a_ref06_ParseFill, c1, c2, hw, hlen, hcount, hcount', h10, zf, fillTup, fillAV, Fill.av, parseFill, parseW, lh_ref06_ParseFill_1, outI, hl, number10, numTup, hb, e_b, e_f, e_g, e_h]
            | some v_b => simp [a_ref06_ParseFill, c1, c2, hw, hlen, hcount, hcount', h10, zf, fillTup, fillAV, Fill.av, parseFill, parseW, lh_ref06_ParseFill_1, outI, hl, number10, numTup, hb, e_b, e_f, e_g, e_h]
    · skip
      by_cases h_move : a = [109, 111, 118, 101]
      · simp [a_ref06_ParseFill, c1, c2, hw, hlen, hcount, hcount', h10, zf, fillTup, fillAV, Fill.av, parseFill, parseW, h_move]
      · skip
        by_cases h_pump : a = [112, 117, 109, 112]
        · simp [a_ref06_ParseFill, c1, c2, hw, hlen, hcount, hcount', h10, zf, fillTup, fillAV, Fill.av, parseFill, parseW, h_pump]
        · skip
          by_cases h_vent : a = [118, 101, 110, 116]
          · simp [a_ref06_ParseFill, c1, c2, hw, hlen, hcount, hcount', h10, zf, fillTup, fillAV, Fill.av, parseFill, parseW, h_vent]
          · skip
            simp [a_ref06_ParseFill, c1, c2, hw, hlen, hcount, hcount', h10, zf, fillTup, fillAV, Fill.av, parseFill, parseW, h_in, h_move, h_pump, h_vent]
  · have n4 : ((t.length : Int) + 1 + 1 + 1 + 1 + 1 + 1 + 1 != 4) = true := by simp; omega
    have n5 : ((t.length : Int) + 1 + 1 + 1 + 1 + 1 + 1 + 1 != 5) = true := by simp; omega
    have n6 : ((t.length : Int) + 1 + 1 + 1 + 1 + 1 + 1 + 1 != 6) = true := by simp; omega
    have l7 : ¬ (t.length : Int) + 1 + 1 + 1 + 1 + 1 + 1 + 1 < 4 := by omega
    by_cases h_in : a = [105, 110]
    · simp [a_ref06_ParseFill, c1, c2, hw, hlen, hcount, hcount', h10, zf, fillTup, fillAV, Fill.av, parseFill, parseW, h_in, n4, n5, n6, l7]
    · skip
      by_cases h_move : a = [109, 111, 118, 101]
      · simp [a_ref06_ParseFill, c1, c2, hw, hlen, hcount, hcount', h10, zf, fillTup, fillAV, Fill.av, parseFill, parseW, h_move, n4, n5, n6, l7]
      · skip
        by_cases h_pump : a = [112, 117, 109, 112]
        · simp [a_ref06_ParseFill, c1, c2, hw, hlen, hcount, hcount', h10, zf, fillTup, fillAV, Fill.av, parseFill, parseW, h_pump, n4, n5, n6, l7]
        · skip
          by_cases h_vent : a = [118, 101, 110, 116]
          · simp [a_ref06_ParseFill, c1, c2, hw, hlen, hcount, hcount', h10, zf, fillTup, fillAV, Fill.av, parseFill, parseW, h_vent, n4, n5, n6, l7]
          · skip
            simp [a_ref06_ParseFill, c1, c2, hw, hlen, hcount, hcount', h10, zf, fillTup, fillAV, Fill.av, parseFill, parseW, h_in, h_move, h_pump, h_vent, n4, n5, n6, l7]
end Go.Proofs.YtifieekfojbkhaaGreatDoor
