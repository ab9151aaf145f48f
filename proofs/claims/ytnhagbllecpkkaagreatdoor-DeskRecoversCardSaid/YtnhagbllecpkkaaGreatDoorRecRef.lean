/-
  What Recover of the reference answers.
-/
import Derived.Test.YtnhagbllecpkkaaGreatDoorSeal
set_option linter.unusedSimpArgs false
set_option linter.unusedVariables false

namespace Go.Proofs.YtnhagbllecpkkaaGreatDoor
open Go Go.VA

theorem headOf_len (s : List UInt8) : (headOf s).1.length ≤ s.length ∧ (headOf s).2.1.length ≤ s.length := by
  rcases headOf_cases s with ⟨_, h⟩ | ⟨a, b, rfl, _, h⟩
  · rw [h]; simp
  · rw [h]; simp; omega

/-- A line of a journal: its entry, and the seal. -/
def lineF (i last : Nat) (w : List UInt8) : Option (Ent × Nat) :=
  if (headOf w).2.2 = true ∧ (headOf (headOf w).2.1).2.2 = true ∧ (headOf (headOf (headOf w).2.1).2.1).2.2 = true ∧ (headOf w).1 = Lib.itoa ((i : Int) + 1) ∧
    isNameF (headOf (headOf (headOf w).2.1).2.1).1 = true ∧ (headOf (headOf (headOf w).2.1).2.1).2.1.length ≤ 400 ∧
    (headOf (headOf w).2.1).1 = Lib.itoa (sealOf last (headOf (headOf (headOf w).2.1).2.1).1 (headOf (headOf (headOf w).2.1).2.1).2.1)
  then some (((headOf (headOf (headOf w).2.1).2.1).1, (headOf (headOf (headOf w).2.1).2.1).2.1), sealOf last (headOf (headOf (headOf w).2.1).2.1).1 (headOf (headOf (headOf w).2.1).2.1).2.1) else none

/-- The entries of the lines, but for the last one, and the bytes read. -/
def recF (i last : Nat) : List (List UInt8) → List Ent × Nat
  | [] => ([], 0)
  | [_] => ([], 0)
  | w :: w' :: r => if i < 60 then (match lineF i last w with
    | some (e, n) => (e :: (recF (i + 1) n (w' :: r)).1, w.length + 1 + (recF (i + 1) n (w' :: r)).2)
    | none => ([], 0)) else ([], 0)

theorem append_ent (out : List Ent) (e : Ent) (h : (out.length + 1) * 32 ≤ room) : append 2 32 (entsAV out .own) (.slc 2 [entAV e] .exact) = some (entsAV (out ++ [e]) .own) := by
  unfold entsAV append
  by_cases hl : out = []
  · subst hl; simp [room]
  · simp [hl]
    simpa [room] using h

theorem sealOf_lt {n : Nat} (h : n < 999999937) (y t : List UInt8) : sealOf n y t < 999999937 := sealF_lt h _

set_option maxHeartbeats 4000000 in
theorem ref10_Recover_loop (ws : List (List UInt8)) (hws : ws.length ≤ 100000) (hx : ∀ x, x ∈ ws → x.length ≤ 40000) (m : Mem) : ∀ (k i last read : Nat) (out : List Ent), ws.length - i = k → i ≤ ws.length → last < 999999937 → read ≤ i * 50000 → out.length = i →
    ∃ e fr, headL C l_ref10_Recover_1 107 [(4, entsAV out .own), (5, .int .i64 read), (6, .int .i64 last), (7, .slc 1 (ws.map .str) .own), (8, .int .i64 i)] [] m = some (.exit 0, ⟨tmOf 107 e, fr :: m⟩) ∧
      VA.look e 4 = entsAV (out ++ (recF i last (ws.drop i)).1) .own ∧ VA.look e 5 = .int .i64 (read + (recF i last (ws.drop i)).2 : Nat)
  | k, i, last, read, out, hk, hi, hla, hre, hou => by
    have hw : IntKind.i64.wrap ((i : Int) + 1) = (i : Int) + 1 := by rw [IntWalk.i64_in _ (by omega)]
    by_cases hlt : i + 1 < ws.length
    · have hlt0 : i < ws.length := by omega
      have hd : ws.drop i = ws[i] :: ws[i + 1] :: ws.drop (i + 2) := by rw [List.drop_eq_getElem_cons hlt0, List.drop_eq_getElem_cons hlt]
      have hd1 : ws.drop (i + 1) = ws[i + 1] :: ws.drop (i + 2) := List.drop_eq_getElem_cons hlt
      have hwl : ws[i].length ≤ 40000 := hx _ (List.getElem_mem hlt0)
      have hlti : (i : Int) + 1 < ws.length := by omega
      by_cases h60 : i < 60
      · have h60i : (i : Int) < 60 := by omega
        rw [hd]
        simp only [recF, h60, if_true]
        rw [← hd1]
        obtain ⟨w, hwi⟩ : ∃ w, ws[i] = w := ⟨_, rfl⟩
        rw [hwi] at hwl ⊢
        have l0 := headOf_len w
        have l1 := headOf_len (headOf w).2.1
        have l2 := headOf_len (headOf (headOf w).2.1).2.1
        have q0 := fun m => ref10_head_eq w (by omega) m
        have q1 := fun m => ref10_head_eq (headOf w).2.1 (by omega) m
        have q2 := fun m => ref10_head_eq (headOf (headOf w).2.1).2.1 (by omega) m
        have q3 := fun m => base_IsName_eq (headOf (headOf (headOf w).2.1).2.1).1 (by omega) m
        have q4 := fun m => ref10_seal_eq last hla (headOf (headOf (headOf w).2.1).2.1).1 (headOf (headOf (headOf w).2.1).2.1).2.1 (by omega) m
        have q5 := fun m => base_Decimal_eq ((i : Int) + 1) (by omega) (by omega) m
        have hsl := sealOf_lt hla (headOf (headOf (headOf w).2.1).2.1).1 (headOf (headOf (headOf w).2.1).2.1).2.1
        have q6 := fun m => base_Decimal_eq (sealOf last (headOf (headOf (headOf w).2.1).2.1).1 (headOf (headOf (headOf w).2.1).2.1).2.1 : Nat) (by omega) (by omega) m
        rw [ls_ref10_Recover_1 _ _ _ _ (by simp)]
        unfold lineF
        generalize hs : sealOf last (headOf (headOf (headOf w).2.1).2.1).1 (headOf (headOf (headOf w).2.1).2.1).2.1 = sl at *
        rcases h0 : headOf w with ⟨a0, r0, o0⟩
        rw [h0] at q0 q1 q2 q3 q4 hs l0 l1 l2
        dsimp only at q1 q2 q3 q4 hs l0 l1 l2
        rcases h1 : headOf r0 with ⟨a1, r1, o1⟩
        rw [h1] at q1 q2 q3 q4 hs l1 l2
        dsimp only at q2 q3 q4 hs l1 l2
        rcases h2 : headOf r1 with ⟨a2, r2, o2⟩
        rw [h2] at q2 q3 q4 hs l2
        dsimp only at q3 q4 hs l2
        simp only [headTup] at q0 q1 q2
        cases o0 with
        | false =>
          simp [b_ref10_Recover_1, hlti, h60i, hlt0, hwi, q0, q1, q2, hw]
          exact ⟨_, rfl, by simp, by simp⟩
        | true =>
        cases o1 with
        | false =>
          simp [b_ref10_Recover_1, hlti, h60i, hlt0, hwi, q0, q1, q2, hw]
          exact ⟨_, rfl, by simp, by simp⟩
        | true =>
        cases o2 with
        | false =>
          simp [b_ref10_Recover_1, hlti, h60i, hlt0, hwi, q0, q1, q2, hw]
          exact ⟨_, rfl, by simp, by simp⟩
        | true =>
        by_cases e1 : a0 = Lib.itoa ((i : Int) + 1)
        · cases e2 : isNameF a2 with
          | false =>
            simp [b_ref10_Recover_1, hlti, h60i, hlt0, hwi, q0, q1, q2, q3, q5, e1, e2, hw]
            exact ⟨_, rfl, by simp, by simp⟩
          | true =>
          by_cases e3 : r2.length ≤ 400
          · have e3i : ¬ (400 : Int) < r2.length := by omega
            by_cases e4 : a1 = Lib.itoa sl
            · have ha := append_ent out (a2, r2) (by simp [room]; omega)
              have hwr : IntKind.i64.wrap ((read : Int) + w.length) = ((read + w.length : Nat) : Int) := by rw [IntWalk.i64_in _ (by omega)]; omega
              have hwr2 : IntKind.i64.wrap ((read : Int) + w.length + 1) = ((read + w.length + 1 : Nat) : Int) := by rw [IntWalk.i64_in _ (by omega)]; omega
              obtain ⟨e, fr, g1, g2, g3⟩ := ref10_Recover_loop ws hws hx m (k - 1) (i + 1) sl (read + w.length + 1) (out ++ [(a2, r2)]) (by omega) (by omega) hsl (by omega) (by simp; omega)
              simp only [entAV] at ha
              simp [b_ref10_Recover_1, hlti, h60i, hlt0, hwi, q0, q1, q2, q3, q4, q5, q6, e1, e2, e3, e3i, e4, hw, ha, hwr, hwr2, lh_ref10_Recover_1]
              simp at g1 g2 g3
              exact ⟨e, ⟨fr, g1⟩, by simpa using g2, by rw [g3]; simp; omega⟩
            · have e4' : (a1 != Lib.itoa sl) = true := by simp [e4]
              simp [b_ref10_Recover_1, hlti, h60i, hlt0, hwi, q0, q1, q2, q3, q4, q5, q6, e1, e2, e3i, e4, e4', hw]
              exact ⟨_, rfl, by simp, by simp⟩
          · have e3i : (400 : Int) < r2.length := by omega
            simp [b_ref10_Recover_1, hlti, h60i, hlt0, hwi, q0, q1, q2, q3, q5, e1, e2, e3, e3i, hw]
            exact ⟨_, rfl, by simp, by simp⟩
        · have e1' : (a0 != Lib.itoa ((i : Int) + 1)) = true := by simp [e1]
          simp [b_ref10_Recover_1, hlti, h60i, hlt0, hwi, q0, q1, q2, q5, e1, e1', hw]
          exact ⟨_, rfl, by simp, by simp⟩
      · have h60i : ¬ (i : Int) < 60 := by omega
        rw [hd]
        simp only [recF, h60, if_false]
        rw [ls_ref10_Recover_1 _ _ _ _ (by simp)]
        simp [b_ref10_Recover_1, hlti, h60i, hw]
        exact ⟨_, rfl, by simp, by simp⟩
    · have hlti : ¬ (i : Int) + 1 < ws.length := by omega
      have hr : recF i last (ws.drop i) = ([], 0) := by
        have : (ws.drop i).length ≤ 1 := by simp; omega
        match h : ws.drop i with
        | [] => rfl
        | [_] => rfl
        | _ :: _ :: _ => rw [h] at this; simp at this
      rw [hr]
      rw [ls_ref10_Recover_1 _ _ _ _ (by simp)]
      simp [b_ref10_Recover_1, hlti, hw]
      exact ⟨_, rfl, by simp, by simp⟩

end Go.Proofs.YtnhagbllecpkkaaGreatDoor
