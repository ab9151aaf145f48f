/-
  MixTexts answers true for every fill and every text: the program's FormatFill and ParseFill tell what the reference's tell, and a right fill whose names have no blanks and line feeds is read back (under the law's own guards: names of at most 20 bytes, texts of at most 120).
  Conditions: the statement's own alone: the listed tables as the row lays them.
-/
import Derived.Test.YtifieekfojbkhaaGreatDoorSpecL
import Derived.Test.YtifieekfojbkhaaGreatDoorCards
import Derived.Test.YtifieekfojbkhaaGreatDoorTie
import Derived.Test.YtifieekfojbkhaaGreatDoorShelf
import Derived.Test.YtifieekfojbkhaaGreatDoorVaLift
import Derived.Lib.AppendIntMem
set_option linter.unusedSimpArgs false
set_option linter.unusedVariables false
namespace Go.Proofs.YtifieekfojbkhaaGreatDoor
open Go Go.VA Go.RowKit Go.ChangeShapes

theorem own : ownKnob Tryz.prog.godebug = none := by kernel_rfl
theorem laidOut : laidOutB Tryz.prog = true := by kernel_rfl
theorem follows : Tryz.prog.follows .mixedOrders = true := by kernel_rfl

theorem gMax : Tryz.prog.globalNamed "internal/bytealg.MaxLen" = some 0 := by kernel_rfl
theorem gPow : Tryz.prog.globalNamed "internal/strconv.uint64pow10" = some 1 := by kernel_rfl
theorem gSyn : Tryz.prog.globalNamed "strconv.ErrSyntax" = some 2 := by kernel_rfl
theorem gRan : Tryz.prog.globalNamed "strconv.ErrRange" = some 3 := by kernel_rfl
theorem tPow : (Tryz.prog.globals[1]?).map (·.type) = some 155 := by kernel_rfl
theorem tSyn : (Tryz.prog.globals[2]?).map (·.type) = some 92 := by kernel_rfl
theorem tRan : (Tryz.prog.globals[3]?).map (·.type) = some 92 := by kernel_rfl

theorem powEq : (Rows.laid_internal_strconv_uint64pow10 : DataW Unit) = Lib.tabData .u64 Lib.pow10Tab := by kernel_rfl
theorem powMem0 : ("internal/strconv.uint64pow10", (Rows.laid_internal_strconv_uint64pow10 : DataW Unit)) ∈ Rows.mixTextsRow.laid := by
  unfold Rows.mixTextsRow
  exact .tail _ (.tail _ (.head _))
theorem powMem : ("internal/strconv.uint64pow10", Lib.tabData .u64 Lib.pow10Tab) ∈ Rows.mixTextsRow.laid := Eq.subst (motive := fun d => ("internal/strconv.uint64pow10", d) ∈ Rows.mixTextsRow.laid) powEq powMem0

theorem lt_heap {W : World} {g : Nat} {v : Value} (h : W.cell? ⟨g, 0, none⟩ = some v) : g < W.heap.size := World.block_lt_of_cell? W _ h

theorem prims_ok {W : World} (hsh : W.ShapedOpen Tryz.prog) (hL : laidMet Tryz.prog Rows.mixTextsRow.laid W) : PrimOK Tryz.prog C W.heap.size W := by
  have hpow : Lib.TabIs Tryz.prog W "internal/strconv.uint64pow10" .u64 Lib.pow10Tab :=
    laid_tab (k := .u64) (zs := Lib.pow10Tab) hL powMem gPow tPow Tryz.underlying155 Tryz.underlying132 (by kernel_rfl) (by kernel_rfl)
  obtain ⟨u2, v2, hsyn⟩ := laid_err hL (n := "strconv.ErrSyntax") (by simp [Rows.mixTextsRow, Rows.laid_strconv_ErrSyntax]; exact ⟨rfl, rfl⟩) gSyn tSyn Tryz.underlying92
  obtain ⟨u3, v3, hran⟩ := laid_err hL (n := "strconv.ErrRange") (by simp [Rows.mixTextsRow, Rows.laid_strconv_ErrRange]; exact ⟨rfl, rfl⟩) gRan tRan Tryz.underlying92
  obtain ⟨m, hmax⟩ := cell_of_shapedOpen_int (k := .i64) (zero := #[.int .i64 0]) (t := 3) hsh (g := 0) (of_decide_eq_true (by kernel_rfl)) (by kernel_rfl) rfl (by kernel_rfl) (by kernel_rfl) Tryz.underlying3
  have hlt : (1 : Nat) < W.heap.size := by have := lt_heap hsyn; omega
  refine primOK_of fun f q h => ?_
  change prim f = some q at h
  unfold prim at h
  split at h
  · cases h
    exact prim_Itoa ⟨_, Tryz.func17, by kernel_rfl, by kernel_rfl⟩ ⟨1, gPow, hlt⟩ hpow fun n h0 h1 w ht => (Tryz.strconv_Itoa n h0 h1 w ht).mono fun e w' h => ⟨h.1, by obtain ⟨_, k, os, rfl⟩ := h; exact Lib.below_grow _ _ (Nat.le_refl _) _ _⟩
  · cases h
    exact prim_Join ⟨_, Tryz.func18, by kernel_rfl, by kernel_rfl⟩ Tryz.strings_Join_none Tryz.strings_Join
  · cases h
    exact prim_Split ⟨_, Tryz.func20, by kernel_rfl, by kernel_rfl⟩ (lt_heap hmax) hmax Tryz.strings_Split
  · cases h
    exact prim_Contains ⟨_, Tryz.func21, by kernel_rfl, by kernel_rfl⟩ (lt_heap hmax) hmax Tryz.strings_Contains
  · cases h
    exact prim_Atoi ⟨_, Tryz.func56, by kernel_rfl, by kernel_rfl⟩ (lt_heap hsyn) (lt_heap hran) hsyn hran (.inr ⟨_, _, rfl⟩) (.inr ⟨_, _, rfl⟩) Tryz.strconv_Atoi_ok
      (fun s hs h ev w hv he => (Tryz.strconv_Atoi_syntax s hs h ev w hv he).mono fun e w' h => by obtain ⟨N, h1, _, _, h2⟩ := h; exact ⟨N, h1, h2⟩)
      (fun s hs h ev w hv he => (Tryz.strconv_Atoi_range s hs h ev w hv he).mono fun e w' h => by obtain ⟨N, h1, _, _, h2⟩ := h; exact ⟨N, h1, h2⟩)
  · cases h
    exact prim_TrimPrefix ⟨_, Tryz.func57, by kernel_rfl, by kernel_rfl⟩ Tryz.strings_TrimPrefix
  · cases h

theorem lts25 : ltsOf Tryz.prog 10 25 = some [.f (.i .i64), .f (.i .i64), .f .s, .f .s, .f (.i .i64), .f (.i .i64), .f (.i .i64), .f .b] := by kernel_rfl
theorem lts9 : ltsOf Tryz.prog 10 9 = some [.f .s] := by kernel_rfl

set_option maxRecDepth 100000 in
theorem lifted (os : Os) (started : os.Started) (H : Type) (enc : TypeId × Value → H) :
    ReturnsInHanded {} Tryz.checked os 3 .any (fun w args => (Rows.mixTextsSpec.pre enc Tryz.prog Tryz.f3 [] false w args ∧ laidMetH Tryz.prog Rows.mixTextsRow.laid w) ∧ sizedMet enc Tryz.prog Tryz.f3 (OpenSpec.ofChange Rows.mixTextsSpec) false w args)
      (Rows.mixTextsSpec.post enc Tryz.prog Tryz.f3 false true false false) := by
  refine returns_shaped (C := Tryz.checked) (X := fun w _ => laidMetH Tryz.prog Rows.mixTextsRow.laid w) (fun _ _ _ hh h => h.of_heap hh) own started (by kernel_rfl) Tryz.func3
    (ChangeSpec.witness_shaped (enc := enc) (C := Tryz.checked) (os := os) (X := fun w _ => laidMetH Tryz.prog Rows.mixTextsRow.laid w) false (World.laidAll Tryz.prog os Rows.mixTextsRow.laid)
      #[.agg #[.int .i64 0, .int .i64 0, .string ⟨#[]⟩, .string ⟨#[]⟩, .int .i64 0, .int .i64 0, .int .i64 0, .bool false], .string ⟨#[]⟩] 8 (World.laidAll_os _ _ _)
      (World.shaped_of_ZipB (by kernel_rfl) (by kernel_rfl)) (by kernel_rfl) (by kernel_rfl) (by kernel_rfl)
      (by rw [MakeChecks.laidMetH_plain _ _ _ (by kernel_rfl)]; exact laidMet_laidAll _ (by kernel_rfl) (by kernel_rfl))) ?_
  intro W base args ds gs before hval0 hW _ hL hsh
  have hval : ∀ (j : Nat) t v, Tryz.f3.params[j]? = some t → args[j]? = some v → Value.okWide Tryz.prog W .any base t v := hval0
  rw [MakeChecks.laidMetH_plain _ _ _ (by kernel_rfl)] at hL
  have hW' := hW
  obtain ⟨p, q, hA0, hV, rfl, _, _⟩ := hW
  have hA : DataW.TrodAll enc Tryz.prog W 0 (fun _ => true) true Tryz.f3.params.toList args.toList ds p := hA0
  rw [Tryz.params3] at hA hval
  obtain ⟨v0, v1, d0, d1, p0, p1, rfl, rfl, rfl, h0, h1⟩ := trodAll_two hA
  have hq : q = [] ∧ gs = [] := by
    cases gs with
    | nil => exact ⟨hV, rfl⟩
    | cons g gs => exact hV.elim
  obtain ⟨rfl, rfl⟩ := hq
  obtain ⟨us0, f0, r0⟩ := open_arg (fun _ => none) (fun _ => none) lts25 (hval 0 25 v0 rfl rfl) h0
  obtain ⟨us1, f1, r1⟩ := open_arg (fun _ => none) (fun _ => none) lts9 (hval 1 9 v1 rfl rfl) h1
  obtain ⟨_, _, rfl, ⟨k, rfl, k1, k2⟩, _, _, rfl, ⟨d, rfl, d1', d2⟩, _, _, rfl, ⟨fr, rfl, _⟩, _, _, rfl, ⟨tx, rfl, _⟩, _, _, rfl, ⟨ox, rfl, o1, o2⟩, _, _, rfl, ⟨he, rfl, he1, he2⟩, _, _, rfl, ⟨am, rfl, a1, a2⟩, _, _, rfl, ⟨pu, rfl⟩, rfl⟩ := f0
  obtain ⟨_, _, rfl, ⟨s, rfl, _⟩, rfl⟩ := f1
  have hi : ∀ n : Int, IntKind.min .i64 ≤ n → n ≤ IntKind.max .i64 → I64 n := fun n h1 h2 => ⟨by simpa [IntKind.min, IntKind.signed, IntKind.bits] using h1, by simpa [IntKind.max, IntKind.signed, IntKind.bits] using h2⟩
  obtain ⟨n, hn⟩ := call_cont (MixTexts_eq k d fr tx ox he am pu s (hi _ d1' d2) (hi _ o1 o2) (hi _ he1 he2) (hi _ a1 a2))
  have hb0 : isAggB Tryz.prog 25 = true := by kernel_rfl
  have hb1 : isAggB Tryz.prog 9 = false := by kernel_rfl
  unfold argAV at r0 r1
  rw [if_pos hb0] at r0
  rw [if_neg (by rw [hb1]; simp)] at r1
  refine (calls_ok (map := fun _ => none) (w := W) (prims_ok hsh hL) fnOK methOK follows hn (xs := #[v0, v1]) (fun _ _ h => by cases h) (fun g c h => by cases h) ⟨rfl, fun i u x hu hx => ?_⟩).mono fun e W' h => ?_
  · match i with
    | 0 => cases hu; cases hx; exact r0
    | 1 => cases hu; cases hx; exact r1
    | i + 2 => simp at hu
  · obtain ⟨x, rfl, hb, hx⟩ := h
    cases hx
    refine ⟨_, rfl, post_true hW' rfl rfl (by rfl) Tryz.underlying4 laidOut ?_ hb⟩
    intro t ht
    rw [Tryz.params3] at ht
    have : t = 25 ∨ t = 9 := by simpa using ht
    rcases this with rfl | rfl
    · exact ⟨by kernel_rfl, of_decide_eq_true (by kernel_rfl)⟩
    · exact ⟨by kernel_rfl, of_decide_eq_true (by kernel_rfl)⟩

theorem mixTexts_said : Rows.MixTextsSaid :=
  OpenClaim.holds_of_wide 3 Tryz.f3 rfl rfl rfl rfl rfl rfl rfl ⟨rfl, rfl, rfl, rfl, rfl⟩ rfl rfl rfl rfl rfl (by kernel_rfl) Tryz.func3 (by kernel_rfl)
    (of_decide_eq_true (by kernel_rfl)) (by unfold Func.isWrapper; first | (rw [if_pos (by decide +kernel)]; kernel_rfl) | (rw [if_neg (by decide +kernel)]; exact ⟨rfl, rfl⟩))
    (fun os started H enc _ => lifted os started H enc)

theorem mixTexts_holds : Rows.MixTextsCardSaid :=
  Claim7.holds_tied_plain_at .later [] [.data, .data, .data, .data, .sentinel, .sentinel, .pinned] true (true, "c5a47729a7a57246b6f355538944b3cb2f0b8776a4410be75106aac0b5ed7257") true
    mixTexts_said (fun _ h => by cases h) (by kernel_rfl) (fun _ h => by cases h) mixTexts_row_tie rfl ⟨rfl, rfl⟩ (by kernel_rfl) rfl
    (fun f fn hf hfn => by
      obtain rfl : f = 3 := Option.some.inj ((show Tryz.prog.funcNamed "shotline/shotlinelaw06.MixTexts" = some 3 by kernel_rfl).symm.trans hf) |>.symm
      obtain rfl : fn = Tryz.f3 := (Option.some.inj (Tryz.func3.symm.trans hfn)).symm
      exact ⟨by kernel_rfl, fun j t ht => by
        rw [Tryz.params3] at ht
        have h3 : t = 25 ∨ t = 9 := by
          rcases j with _ | _ | j
          · left; simpa using ht.symm
          · right; simpa using ht.symm
          · simp at ht
        rcases h3 with rfl | rfl
        · exact (show Tryz.prog.wantsStandIn 25 = false by kernel_rfl)
        · exact (show Tryz.prog.wantsStandIn 9 = false by kernel_rfl)⟩)
    (by kernel_rfl)
#print axioms mixTexts_holds
end Go.Proofs.YtifieekfojbkhaaGreatDoor
