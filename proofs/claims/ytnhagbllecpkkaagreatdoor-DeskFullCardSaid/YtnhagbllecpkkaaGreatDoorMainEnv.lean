/-
  What the listed variables hold, and the contracts of the library's functions.
-/
import Derived.Test.YtnhagbllecpkkaaGreatDoorCtx
import Derived.Test.YtnhagbllecpkkaaGreatDoorIter
import Derived.Test.YtnhagbllecpkkaaGreatDoorRows
import Derived.Test.YtnhagbllecpkkaaGreatDoorShelf
import Derived.Test.YtnhagbllecpkkaaGreatDoorV6
import Derived.Test.YtnhagbllecpkkaaGreatDoorV5
import Derived.Lib.AppendIntMem
set_option linter.unusedSimpArgs false
set_option linter.unusedVariables false

namespace Go.Proofs.YtnhagbllecpkkaaGreatDoor
open Go Go.VA Go.RowKit Go.ChangeShapes

theorem own : ownKnob Tryz.prog.godebug = none := by kernel_rfl
theorem laidOut : laidOutB Tryz.prog = true := by kernel_rfl
theorem follows : Tryz.prog.follows .mixedOrders = true := by kernel_rfl

theorem gRol : Tryz.prog.globalNamed "shotline/desk.roles" = some 0 := by kernel_rfl
theorem gMax : Tryz.prog.globalNamed "internal/bytealg.MaxLen" = some 1 := by kernel_rfl
theorem gPow : Tryz.prog.globalNamed "internal/strconv.uint64pow10" = some 2 := by kernel_rfl
theorem gSyn : Tryz.prog.globalNamed "strconv.ErrSyntax" = some 8 := by kernel_rfl
theorem gRan : Tryz.prog.globalNamed "strconv.ErrRange" = some 9 := by kernel_rfl
theorem tRol : (Tryz.prog.globals[0]?).map (·.type) = some 215 := by kernel_rfl
theorem tPow : (Tryz.prog.globals[2]?).map (·.type) = some 273 := by kernel_rfl
theorem tSyn : (Tryz.prog.globals[8]?).map (·.type) = some 123 := by kernel_rfl
theorem tRan : (Tryz.prog.globals[9]?).map (·.type) = some 123 := by kernel_rfl

theorem powEq : (Rows.laid_internal_strconv_uint64pow10 : DataW Unit) = Lib.tabData .u64 Lib.pow10Tab := by kernel_rfl
theorem powMem0 : ("internal/strconv.uint64pow10", (Rows.laid_internal_strconv_uint64pow10 : DataW Unit)) ∈ Rows.deskRecoversRow.laid := by
  unfold Rows.deskRecoversRow
  exact .tail _ (.tail _ (.head _))
theorem powMem : ("internal/strconv.uint64pow10", Lib.tabData .u64 Lib.pow10Tab) ∈ Rows.deskRecoversRow.laid := Eq.subst (motive := fun d => ("internal/strconv.uint64pow10", d) ∈ Rows.deskRecoversRow.laid) powEq powMem0

/-- The roles: their words, what is laid, what it stands for. -/
def rolesL : List (List UInt8 × DataW Unit × AV) := [([100,105,118,101], .nil, .nils), ([102,105,108,108], .slice [.lit (.int .i64 1)] [], .slc 1 [.int .i64 1] .unk), ([102,105,120], .slice [.lit (.int .i64 1), .lit (.int .i64 2)] [], .slc 1 [.int .i64 1, .int .i64 2] .unk),
  ([107,105,116], .slice [.lit (.int .i64 1)] [], .slc 1 [.int .i64 1] .unk), ([112,108,97,110], .nil, .nils), ([114,101,99,111,114,100], .nil, .nils), ([115,105,103,110], .nil, .nils)]
theorem rolEq : (Rows.laid_shotline_desk_roles : DataW Unit) = .map (rolesL.map fun x => (.string x.1, x.2.1)) := by kernel_rfl
theorem rolMem0 : ("shotline/desk.roles", (Rows.laid_shotline_desk_roles : DataW Unit)) ∈ Rows.deskRecoversRow.laid := by
  unfold Rows.deskRecoversRow
  exact .tail _ (.tail _ (.tail _ (.tail _ (.tail _ (.tail _ (.tail _ (.head _)))))))
theorem rolMem : ("shotline/desk.roles", (.map (rolesL.map fun x => (.string x.1, x.2.1)) : DataW Unit)) ∈ Rows.deskRecoversRow.laid := Eq.subst (motive := fun d => ("shotline/desk.roles", d) ∈ Rows.deskRecoversRow.laid) rolEq rolMem0
theorem rolAV : rolesAV = [.map (rolesL.map rowOf)] := rfl

theorem roles_at {W : World} (hL : laidMet Tryz.prog Rows.deskRecoversRow.laid W) : ∃ b es cl, W.cell? ⟨0, 0, none⟩ = some (.map (some b)) ∧ W.heap[b]? = some (.map es cl) ∧
    ∀ map : Nat → Option Obj, map b = some (.map es cl) → RV (fun a => W.cell? a) map (fun _ => none) (.map (rolesL.map rowOf)) (.map (some b)) := by
  refine laid_map hL rolMem gRol tRol (k := 9) (e := 80) (by kernel_rfl) (by kernel_rfl) (by decide) ?_ ?_
  · intro x hx
    simp [rolesL] at hx
    rcases hx with rfl | rfl | rfl | rfl | rfl | rfl | rfl <;> rfl
  · intro x hx v m p map hf h
    have n0 : (DataW.nil : DataW Unit) = .nil := rfl
    have he : Tryz.prog.underlying 80 = some (.slice 3) := by kernel_rfl
    have one : ∀ zs : List Int, zs ≠ [] → DataW.trod (fun _ => ()) Tryz.prog W 0 (fun _ => true) false m 80 v.cells.toList = some (.slice (zs.map fun z => .lit (.int .i64 z)) [], p) → RV (fun a => W.cell? a) map (fun _ => none) (.slc 1 (zs.map (.int .i64)) .unk) v :=
      fun zs hz h => rv_ints he Tryz.underlying3 (by kernel_rfl) hz hf h
    simp [rolesL] at hx
    rcases hx with rfl | rfl | rfl | rfl | rfl | rfl | rfl
    · exact rv_nils he hf h
    · exact one [1] (by simp) h
    · exact one [1, 2] (by simp) h
    · exact one [1] (by simp) h
    · exact rv_nils he hf h
    · exact rv_nils he hf h
    · exact rv_nils he hf h

theorem lt_heap {W : World} {g : Nat} {v : Value} (h : W.cell? ⟨g, 0, none⟩ = some v) : g < W.heap.size := World.block_lt_of_cell? W _ h

noncomputable def i223 : TypeInfo := (Tryz.prog.info? 223).get (by kernel_rfl)
noncomputable def z223 : Value := i223.zero.get (by kernel_rfl)
theorem cloneC : CloneC Tryz.prog 113 223 6 80 := fun b off n c news w h1 h2 h3 h4 h5 =>
  Tryz.slices_Clone_counted i223 z223 6 80 (by kernel_rfl) (by kernel_rfl) (by kernel_rfl) (by kernel_rfl) (by kernel_rfl) (by decide) (fun w => sizeOf_run (by kernel_rfl) w) b off n c news w h1 h2 h3 h4 h5
theorem entClone : VA.Enters Tryz.prog 113 := ⟨_, Tryz.func113, by kernel_rfl, by kernel_rfl⟩

theorem prims_ok {W : World} (hsh : W.ShapedOpen Tryz.prog) (hL : laidMet Tryz.prog Rows.deskRecoversRow.laid W) : PrimOK Tryz.prog C W.heap.size W := by
  have hpow : Lib.TabIs Tryz.prog W "internal/strconv.uint64pow10" .u64 Lib.pow10Tab :=
    laid_tab (k := .u64) (zs := Lib.pow10Tab) hL powMem gPow tPow Tryz.underlying273 (by kernel_rfl) (by kernel_rfl) (by kernel_rfl)
  obtain ⟨u2, v2, hsyn⟩ := laid_err hL (n := "strconv.ErrSyntax") (by simp [Rows.deskRecoversRow, Rows.laid_strconv_ErrSyntax]; exact ⟨rfl, rfl⟩) gSyn tSyn Tryz.underlying123
  obtain ⟨u3, v3, hran⟩ := laid_err hL (n := "strconv.ErrRange") (by simp [Rows.deskRecoversRow, Rows.laid_strconv_ErrRange]; exact ⟨rfl, rfl⟩) gRan tRan Tryz.underlying123
  obtain ⟨m, hmax⟩ := cell_of_shapedOpen_int (k := .i64) (zero := #[.int .i64 0]) (t := 3) hsh (g := 1) (of_decide_eq_true (by kernel_rfl)) (by kernel_rfl) rfl (by kernel_rfl) (by kernel_rfl) Tryz.underlying3
  have hlt : (2 : Nat) < W.heap.size := by have := lt_heap hsyn; omega
  refine primOK_of fun f q h => ?_
  change prim f = some q at h
  unfold prim at h
  split at h
  · cases h
    exact prim_SplitN ⟨_, Tryz.func32, by kernel_rfl, by kernel_rfl⟩ (lt_heap hmax) hmax Tryz.strings_SplitN
  · cases h
    exact prim_TrimSuffix ⟨_, Tryz.func33, by kernel_rfl, by kernel_rfl⟩ Tryz.strings_TrimSuffix
  · cases h
    exact prim_HasSuffix ⟨_, Tryz.func34, by kernel_rfl, by kernel_rfl⟩ Tryz.strings_HasSuffix
  · cases h
    exact prim_Itoa ⟨_, Tryz.func36, by kernel_rfl, by kernel_rfl⟩ ⟨2, gPow, hlt⟩ hpow fun n h0 h1 w ht => (Tryz.strconv_Itoa n h0 h1 w ht).mono fun e w' h => ⟨h.1, by obtain ⟨_, k, os, rfl⟩ := h; exact Lib.below_grow _ _ (Nat.le_refl _) _ _⟩
  · cases h
    exact prim_Join ⟨_, Tryz.func46, by kernel_rfl, by kernel_rfl⟩ Tryz.strings_Join_none Tryz.strings_Join
  · cases h
    exact prim_Contains ⟨_, Tryz.func67, by kernel_rfl, by kernel_rfl⟩ (lt_heap hmax) hmax Tryz.strings_Contains
  · cases h
    exact prim_HasPrefix ⟨_, Tryz.func109, by kernel_rfl, by kernel_rfl⟩ Tryz.strings_HasPrefix
  · cases h
    exact prim_Clone (by decide) entClone cloneC
  · cases h
    exact prim_Index ⟨_, Tryz.func119, by kernel_rfl, by kernel_rfl⟩ (lt_heap hmax) hmax Tryz.stringslite_Index
  · cases h
    exact prim_Atoi ⟨_, Tryz.func153, by kernel_rfl, by kernel_rfl⟩ (lt_heap hsyn) (lt_heap hran) hsyn hran (.inr ⟨_, _, rfl⟩) (.inr ⟨_, _, rfl⟩) Tryz.strconv_Atoi_ok
      (fun s hs h ev w hv he => (Tryz.strconv_Atoi_syntax s hs h ev w hv he).mono fun e w' h => by obtain ⟨N, h1, _, _, h2⟩ := h; exact ⟨N, h1, h2⟩)
      (fun s hs h ev w hv he => (Tryz.strconv_Atoi_range s hs h ev w hv he).mono fun e w' h => by obtain ⟨N, h1, _, _, h2⟩ := h; exact ⟨N, h1, h2⟩)
  · cases h
    exact prim_TrimPrefix ⟨_, Tryz.func154, by kernel_rfl, by kernel_rfl⟩ Tryz.strings_TrimPrefix
  · cases h
    exact prim_Split ⟨_, Tryz.func160, by kernel_rfl, by kernel_rfl⟩ (lt_heap hmax) hmax Tryz.strings_Split
  · cases h

theorem iters_ok {W : World} : IterOK Tryz.prog C W.heap.size W := by
  intro f q h args xs hq
  change iter f = some q at h
  unfold iter at h
  split at h
  · cases h; exact iter_Lines args xs hq
  · cases h; exact iter_Chunk args xs hq
  · cases h

theorem fresh_ok {W : World} : FreshOK Tryz.prog C W.heap.size W := by
  intro f sz h
  change fresh f = some sz at h
  unfold fresh at h
  split at h
  · cases h; exact fresh_Clone (by decide) entClone cloneC rfl
  · cases h

end Go.Proofs.YtnhagbllecpkkaaGreatDoor
