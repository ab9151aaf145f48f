/-
  What ParseFill of the reference answers.
-/
import Derived.Test.YtifieekfojbkhaaGreatDoorSpecI
set_option linter.unusedSimpArgs false
set_option linter.unusedVariables false
namespace Go.Proofs.YtifieekfojbkhaaGreatDoor
open Go Go.VA

theorem number10 (x : List UInt8) (hx : x.length ≤ 1000) (m : Mem) : callD C n_base_Number [.str x, .int .i64 10] m = some (numTup (numOf x), m) := by
  have := base_Number_eq x 10 (by omega) hx m
  rw [numRef_eq, numRef_lit (by omega), ← numOf_lit] at this
  exact this

def outI (l : List Int) : AV := if l = [] then .nils else .slc 1 (l.map (.int .i64)) .own

def zf : List AV := [.int .i64 0, .int .i64 0, .str [], .str [], .int .i64 0, .int .i64 0, .int .i64 0, .bool false]

/-- All numbers of these texts. -/
def nums : List (List UInt8) → Option (List Int)
  | [] => some []
  | x :: r => (numOf x).bind fun v => (nums r).map (v :: ·)

theorem ref06_ParseFill_loop (ws : List (List UInt8)) (hws : ws.length ≤ 1000) (hx : ∀ x, x ∈ ws → x.length ≤ 1000) (xs : List AV) (m : Mem) : ∀ (k i : Nat) (out : List Int), ws.length - i = k → i ≤ ws.length → out.length ≤ i →
    match nums (ws.drop i) with
    | some l => headL C l_ref06_ParseFill_1 134 [(2, .ptr ⟨m.length, [2]⟩ 0), (4, .ptr ⟨m.length, [4]⟩ 0), (5, .int .i64 7), (6, .slc 1 (ws.map .str) .own), (7, .ptr ⟨m.length, [7]⟩ 0), (10, outI out), (11, .int .i64 i)] [([7], xs), ([4], zf), ([2], zf)] m =
        some (.exit 1, ⟨tmOf 134 [(83, .bool false), (82, .int .i64 ws.length), (81, .slc 1 (ws.map .str) .unk), (80, .int .i64 ws.length), (2, .ptr ⟨m.length, [2]⟩ 0), (4, .ptr ⟨m.length, [4]⟩ 0), (5, .int .i64 7), (6, .slc 1 (ws.map .str) .own), (7, .ptr ⟨m.length, [7]⟩ 0), (10, outI (out ++ l)), (11, .int .i64 ws.length)],
          [([7], xs), ([4], zf), ([2], zf)] :: m⟩)
    | none => ∃ tm, headL C l_ref06_ParseFill_1 134 [(2, .ptr ⟨m.length, [2]⟩ 0), (4, .ptr ⟨m.length, [4]⟩ 0), (5, .int .i64 7), (6, .slc 1 (ws.map .str) .own), (7, .ptr ⟨m.length, [7]⟩ 0), (10, outI out), (11, .int .i64 i)] [([7], xs), ([4], zf), ([2], zf)] m =
        some (.ret, ⟨tm, [([7], xs), ([4], zf), ([2], zf)] :: m⟩) ∧ getT tm 2 = .ptr ⟨m.length, [2]⟩ 0 ∧ getT tm 3 = .int .i64 7
  | k, i, out, hk, hi, ho => by
    by_cases hlt : i < ws.length
    · obtain ⟨x, hg⟩ : ∃ x, ws[i] = x := ⟨_, rfl⟩
      have hxl := hx x (by rw [← hg]; exact List.getElem_mem hlt)
      rw [List.drop_eq_getElem_cons hlt, hg]
      simp only [nums]
      rw [ls_ref06_ParseFill_1]
      have hw : IntKind.i64.wrap ((i : Int) + 1) = ((i + 1 : Nat) : Int) := by rw [IntWalk.i64_in _ (by omega)]; omega
      have ha : ∀ v, append 1 8 (outI out) (.slc 1 [.int .i64 v] .exact) = some (outI (out ++ [v])) := by
        intro v
        unfold outI append
        by_cases hl : out = []
        · subst hl; simp [room]
        · simp [hl, room]; omega
      cases hn : numOf x with
      | none => simp [b_ref06_ParseFill_1, number10, hxl, hn, hg, hlt, hw, numTup, zf]
      | some v =>
        have ih := ref06_ParseFill_loop ws hws hx xs m (k - 1) (i + 1) (out ++ [v]) (by omega) (by omega) (by simp; omega)
        have e : den C l_ref06_ParseFill_1 = den C l_ref06_ParseFill_1 := rfl
        cases hr : nums (ws.drop (i + 1)) with
        | none =>
          rw [hr] at ih
          simp [b_ref06_ParseFill_1, number10, hxl, hn, hg, hlt, hw, numTup, ha, lh_ref06_ParseFill_1] at ih ⊢
          exact ih
        | some l =>
          rw [hr] at ih
          simp [b_ref06_ParseFill_1, number10, hxl, hn, hg, hlt, hw, numTup, ha, lh_ref06_ParseFill_1] at ih ⊢
          exact ih
    · have : i = ws.length := by omega
      subst this
      rw [List.drop_eq_nil_of_le (Nat.le_refl _)]
      simp only [nums]
      rw [ls_ref06_ParseFill_1]
      simp [b_ref06_ParseFill_1]

end Go.Proofs.YtifieekfojbkhaaGreatDoor
