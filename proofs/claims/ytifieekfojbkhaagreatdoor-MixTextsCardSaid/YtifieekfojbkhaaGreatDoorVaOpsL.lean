/-
  A map that stays as it is: looked into by a text.
-/
import Derived.Test.YtifieekfojbkhaaGreatDoorVaOpsJ
set_option linter.unusedSimpArgs false
set_option linter.unusedVariables false
namespace Go.VA
open Go Go.RowKit

section
variable {P : Program} {gl : Globs} {g : G} {tm : List AV} {a : Act} {take : List Nat} {base : Nat} {w0 w : World} {mem : Mem} {d : Nat} {r : AV × Mem} {op : Op}

theorem findNow_map {imm : Addr → Option Value} {map : Nat → Option (Array MapEntry)} {blk : Id → Option Nat} (s : List UInt8) : ∀ (kv : List AV) (es : List MapEntry) (ks : Nat → List UInt8) (vs : Nat → AV) (n : Nat), kv.length = es.length →
    (∀ i, i < kv.length → kv[i]? = some (.tup [.str (ks i), vs i])) → (∀ (i : Nat) e, es[i]? = some e → e.key = .string ⟨(ks i).toArray⟩) → (∀ (i : Nat) e, es[i]? = some e → RV imm map blk (vs i) e.val) →
    match kv.findSome? (mapFind s) with
    | some v => ∃ j x, Instr.findNow .string (.string ⟨s.toArray⟩) es n = some (some (j, x)) ∧ RV imm map blk v x
    | none => Instr.findNow .string (.string ⟨s.toArray⟩) es n = some none
  | [], [], _, _, _, _, _, _, _ => rfl
  | [], _ :: _, _, _, _, h, _, _, _ => by simp at h
  | _ :: _, [], _, _, _, h, _, _, _ => by simp at h
  | a :: kv, e :: es, ks, vs, n, hl, hk, he, hv => by
    have h0 := hk 0 (by simp)
    simp only [List.getElem?_cons_zero, Option.some.injEq] at h0
    subst h0
    have hkey := he 0 e rfl
    have hval := hv 0 e rfl
    have hsame : Instr.sameNow .string (.string ⟨s.toArray⟩) e.key = some (ks 0 == s) := by
      rw [hkey]
      show some (ByteArray.mk s.toArray == ByteArray.mk (ks 0).toArray) = some (ks 0 == s)
      congr 1
      have e1 : (ByteArray.mk s.toArray == ByteArray.mk (ks 0).toArray) = (s.toArray == (ks 0).toArray) := rfl
      rw [e1, Bool.eq_iff_iff]
      simp only [beq_iff_eq]
      constructor
      · intro h; have := congrArg Array.toList h; simpa using this.symm
      · intro h; rw [h]
    by_cases hs : ks 0 == s
    · have hf : List.findSome? (mapFind s) (.tup [.str (ks 0), vs 0] :: kv) = some (vs 0) := by
        simp [List.findSome?, mapFind, hs]
      rw [hf]
      exact ⟨n, e.val, by simp [Instr.findNow, hsame, hs], hval⟩
    · have hs' : (ks 0 == s) = false := by simpa using hs
      have hf : List.findSome? (mapFind s) (.tup [.str (ks 0), vs 0] :: kv) = List.findSome? (mapFind s) kv := by
        simp [List.findSome?, mapFind, hs']
      rw [hf]
      have ih := findNow_map (imm := imm) (map := map) (blk := blk) s kv es (fun i => ks (i + 1)) (fun i => vs (i + 1)) (n + 1) (by simpa using hl)
        (fun i hi => by have := hk (i + 1) (by simpa using hi); simpa using this) (fun i e hi => he (i + 1) e (by simpa using hi)) (fun i e hi => hv (i + 1) e (by simpa using hi))
      simp only [Instr.findNow, hsame, hs']
      exact ih

theorem op_lookup (hT : WT g tm a.tmps) (hgl : GlobOK gl g) (hM : WM base w0 g w mem) {z : AV} {ok : Bool} {y j : Opd} (hc : chkOp P gl op (.lookup z ok y j) = true) (he : evOp mem d (rho tm take) (.lookup z ok y j) = some r) : Plain P g a w mem op r := by
  cases op <;> simp only [chkOp, Bool.false_eq_true] at hc
  rename_i t x i ok'
  simp only [Bool.and_eq_true, beq_iff_eq] at hc
  obtain ⟨⟨⟨rfl, h1⟩, h2⟩, h3⟩ := hc
  split at h3
  · rename_i k e hu
    simp only [Bool.and_eq_true] at h3
    obtain ⟨h4, h5⟩ := h3
    have hk : P.underlying k = some .string := by
      cases hq : P.underlying k with
      | none => simp [hq] at h4
      | some dd => cases dd <;> simp [hq] at h4; rfl
    obtain ⟨inf, zv, hi, hzv, hcz⟩ : ∃ inf zv, P.info? e = some inf ∧ inf.zero = some zv ∧ constAV zv = some z := by
      split at h5
      · rename_i inf hi
        split at h5
        · rename_i zv hzv
          exact ⟨inf, zv, hi, hzv, by simpa using h5⟩
        · cases h5
      · cases h5
    simp only [evOp] at he
    split at he
    · rename_i kv s hy hj
      have r1 := rv_at hT hgl h1 hy rfl
      have r2 := rv_at hT hgl h2 hj rfl
      generalize hx : a.eval x = xv at r1
      generalize hix : a.eval i = iv at r2
      cases r2
      cases r1 with
      | map _ rr es hm ks vs hl hkk hek hp hv =>
        obtain ⟨clock, hheap⟩ := hM.map rr es hm
        have key := findNow_map (imm := g.imm) (map := g.map) (blk := g.blk) s kv es.toList ks vs 0 (by simpa using hl) hkk (fun i e hi => hek i e (by simpa using hi)) (fun i e hi => hv i e (by simpa using hi))
        have hck : ∀ em, (Instr.checkKey em 10000 k (.string ⟨s.toArray⟩)).run P w = .ok () w := by
          intro em
          show (Instr.checkKey em (9999 + 1) k (.string ⟨s.toArray⟩)).run P w = .ok () w
          rw [Instr.checkKey]
          simp [run_underlying hk]
        cases hf : kv.findSome? (mapFind s) with
        | some v =>
          rw [hf] at key he
          obtain ⟨jj, xx, k1, k2⟩ := key
          cases he
          cases ok with
          | true =>
            refine ⟨rfl, .tuple #[xx, .bool true], fun _ _ _ _ _ => ?_, .tup _ _ rfl fun i u x hu' hx' => ?_⟩
            · simp [execOp, Instr.lookup, hx, hix, run_underlying hu, getObj, Sem.run, hheap, hck, Instr.findKey, run_underlying hk, k1]
            · rcases i with _ | _ | i <;> simp at hu' hx'
              · subst hu'; subst hx'; exact k2
              · subst hu'; subst hx'; exact .bool _
          | false =>
            refine ⟨rfl, xx, fun _ _ _ _ _ => ?_, k2⟩
            simp [execOp, Instr.lookup, hx, hix, run_underlying hu, getObj, Sem.run, hheap, hck, Instr.findKey, run_underlying hk, k1]
        | none =>
          rw [hf] at key he
          cases he
          cases ok with
          | true =>
            refine ⟨rfl, .tuple #[zv, .bool false], fun _ _ _ _ _ => ?_, .tup _ _ rfl fun i u x hu' hx' => ?_⟩
            · simp [execOp, Instr.lookup, hx, hix, run_underlying hu, getObj, Sem.run, hheap, hck, Instr.findKey, run_underlying hk, key, zeroValue, typeInfo, hi, hzv]
            · rcases i with _ | _ | i <;> simp at hu' hx'
              · subst hu'; subst hx'; exact constAV_rv _ hcz
              · subst hu'; subst hx'; exact .bool _
          | false =>
            refine ⟨rfl, zv, fun _ _ _ _ _ => ?_, constAV_rv _ hcz⟩
            simp [execOp, Instr.lookup, hx, hix, run_underlying hu, getObj, Sem.run, hheap, hck, Instr.findKey, run_underlying hk, key, zeroValue, typeInfo, hi, hzv]
    · cases he
  · cases h3

end
end Go.VA
