/-
  What number answers.
-/
import Derived.Test.YtifieekfojbkhaaGreatDoorSpecC
import Derived.Lib.AtoiAllCases
set_option linter.unusedSimpArgs false
set_option linter.unusedVariables false
namespace Go.Proofs.YtifieekfojbkhaaGreatDoor
open Go Go.VA

def numOf (s : List UInt8) : Option Int := match Lib.atoiAll s with
  | .ok v => if Lib.itoa v = s ∧ (Lib.trimPrefix s [45]).length ≤ 10 then some v else none
  | _ => none
def valOf (s : List UInt8) : Int := match Lib.atoiAll s with
  | .ok v => v
  | .range => Lib.atoiSat s
  | _ => 0

theorem atoi_I64 {s : List UInt8} {v : Int} (h : Lib.atoiAll s = .ok v) : I64 v := Lib.atoiAll_bounds h

theorem get_below {f : Fr} {mem : Mem} {id : VA.Id} (h : id.fr < mem.length) : Mem.get (f :: mem) id = mem.get id := by
  simp only [Mem.get]
  rw [if_neg (by omega)]
theorem set_below {f : Fr} {mem : Mem} {id : VA.Id} {c : List AV} (h : id.fr < mem.length) : Mem.set (f :: mem) id c = f :: mem.set id c := by
  simp only [Mem.set]
  rw [if_neg (by omega)]

theorem mix_number_eq (s : List UInt8) (hs : s.length ≤ 1000) (id : VA.Id) (off : Nat) (mem : Mem) (c : List AV) (hc : mem.get id = some c) (ho : off + 1 ≤ c.length) (hf : id.fr < mem.length) :
    callD C n_mix_number [.str s, .ptr id off] mem = some (.bool (numOf s).isSome, mem.set id (over c off [.int .i64 (valOf s)])) := by
  rw [callD_env (af := a_mix_number) rfl rfl _ _ (by simp [a_mix_number])]
  have hs' : s.length ≤ 281474976710656 := by omega
  have c57 : ∀ m, callD C n_strings_TrimPrefix [.str s, .str [45]] m = some (.str (Lib.trimPrefix s [45]), m) := fun m => by
    rw [callD_prim (q := qTrimPrefix) rfl]; simp [qTrimPrefix]
  have hg := fun f : Fr => get_below (f := f) (mem := mem) (id := id) hf
  have hset := fun (f : Fr) (c : List AV) => set_below (f := f) (mem := mem) (id := id) (c := c) hf
  have hlt : id.fr < mem.length + 1 + 1 := by omega
  cases hv : Lib.atoiAll s with
  | ok v =>
    have c56 : ∀ m, callD C n_strconv_Atoi [.str s] m = some (.tup [.int .i64 v, .nili], m) := fun m => by
      rw [callD_prim (q := qAtoi 162) rfl]; simp [qAtoi, hs', hv]
    have c17 := fun m => strconv_Itoa_eq (atoi_I64 hv) m
    by_cases h1 : Lib.itoa v = s
    · simp [-Mem.get, -Mem.set, a_mix_number, c56, c57, c17, hg, hset, hc, ho, numOf, valOf, hv, h1, hlt]
      split <;> simp <;> omega
    · have hb : (Lib.itoa v == s) = false := by simp [h1]
      simp [-Mem.get, -Mem.set, a_mix_number, c56, c57, c17, hg, hset, hc, ho, numOf, valOf, hv, h1, hb, hlt]
  | range =>
    have c56 : ∀ m, callD C n_strconv_Atoi [.str s] m = some (.tup [.int .i64 (Lib.atoiSat s), .iface 162 .undef], m) := fun m => by
      rw [callD_prim (q := qAtoi 162) rfl]; simp [qAtoi, hs', hv]
    simp [-Mem.get, -Mem.set, a_mix_number, c56, c57, hg, hset, hc, ho, numOf, valOf, hv, hlt]
  | _ =>
    have c56 : ∀ m, callD C n_strconv_Atoi [.str s] m = some (.tup [.int .i64 0, .iface 162 .undef], m) := fun m => by
      rw [callD_prim (q := qAtoi 162) rfl]; simp [qAtoi, hs', hv]
    simp [-Mem.get, -Mem.set, a_mix_number, c56, c57, hg, hset, hc, ho, numOf, valOf, hv, hlt]
end Go.Proofs.YtifieekfojbkhaaGreatDoor
