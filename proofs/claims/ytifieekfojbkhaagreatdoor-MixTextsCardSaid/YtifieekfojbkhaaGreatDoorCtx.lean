/-
  The context: which functions are run, which are taken by contract.
-/
import Derived.Test.YtifieekfojbkhaaGreatDoorVaPrim
import Derived.Test.YtifieekfojbkhaaGreatDoorVaEnv
import Derived.Test.YtifieekfojbkhaaGreatDoorCode2
set_option linter.unusedSimpArgs false
set_option linter.unusedVariables false
namespace Go.Proofs.YtifieekfojbkhaaGreatDoor
open Go Go.VA Go.Proofs
def prim (f : FuncId) : Option Prim :=
  match f with
  | 17 => some qItoa
  | 18 => some qJoin
  | 20 => some qSplit
  | 21 => some qContains
  | 56 => some (qAtoi 162)
  | 57 => some qTrimPrefix
  | _ => none
def fn (f : FuncId) : Option AFunc :=
  match f with
  | 3 => some a_law06_MixTexts
  | 4 => some a_law06_awake
  | 5 => some a_mix_FormatFill
  | 6 => some a_mix_ParseFill
  | 7 => some a_ref06_ParseFill
  | 8 => some a_ref06_FormatFill
  | 9 => some a_ref06_CheckFill
  | 10 => some a_base_Cut
  | 11 => some a_mix_PressureOf
  | 12 => some a_law06_Room
  | 13 => some a_law06_Diary
  | 14 => some a_mix_CheckPlan
  | 15 => some a_law06_Nitrox
  | 16 => some a_mix_Share
  | 19 => some a_mix_fillOf
  | 22 => some a_base_Number
  | 23 => some a_base_Decimal
  | 24 => some a_base_Within
  | 25 => some a_ref01_CheckGas
  | 26 => some a_mix_held
  | 27 => some a_mix_rounded
  | 28 => some a_mix_gases_sum
  | 29 => some a_mix_ask
  | 30 => some a_mix_asked_cost
  | 31 => some a_mix_checkContent
  | 32 => some a_mix_gasesOf
  | 33 => some a_mix_within
  | 34 => some a_mix_gases_share
  | 35 => some a_mix_gases_content
  | 40 => some a_mix_number
  | 43 => some a_base_Size
  | 44 => some a_mix_read
  | 45 => some a_mix_vessel
  | 46 => some a_mix_CheckTask
  | 47 => some a_mix_ask_c1
  | 48 => some a_slices_ContainsFunc_int
  | 49 => some a_mix_checkContent_c1
  | 50 => some a_slices_SortStableFunc_int
  | 51 => some a_mix_gases_share_c1
  | 52 => some a_cmp_Compare_int
  | 61 => some a_mix_CheckVessels
  | 62 => some a_mix_store_enter
  | 63 => some a_slices_IndexFunc_api_MixVessel
  | 64 => some a_mix_vessel_c1
  | 65 => some a_mix_isName
  | 66 => some a_slices_ContainsFunc_api_MixSource
  | 67 => some a_mix_CheckTask_c1
  | 68 => some a_gas_CheckGas
  | 69 => some a_mix_shares
  | 70 => some a_slices_IndexFunc_int
  | 71 => some a_slices_stableCmpFunc_int
  | 72 => some a_cmp_isNaN_int
  | 89 => some a_mix_alone
  | 90 => some a_mix_takes
  | 91 => some a_mix_puts
  | 92 => some a_mix_store_above
  | 93 => some a_mix_fresh
  | 94 => some a_mix_gases_less
  | 95 => some a_mix_gases_plus
  | 96 => some a_slices_IndexFunc_api_MixSource
  | 97 => some a_gas_first
  | 98 => some a_gas_bound
  | 99 => some a_slices_insertionSortCmpFunc_int
  | 100 => some a_slices_symMergeCmpFunc_int
  | 115 => some a_gas_within
  | 116 => some a_slices_rotateCmpFunc_int
  | 122 => some a_slices_swapRangeCmpFunc_int
  | _ => none
def meth : TypeId → String → Option FuncId := fun _ _ => none
def C : Ctx := { fn, prim, meth }
theorem fnOK : FnOK Tryz.prog gl C := by
  intro f af _ h
  change fn f = some af at h
  unfold fn at h
  split at h
  · cases h; exact c_law06_MixTexts
  · cases h; exact c_law06_awake
  · cases h; exact c_mix_FormatFill
  · cases h; exact c_mix_ParseFill
  · cases h; exact c_ref06_ParseFill
  · cases h; exact c_ref06_FormatFill
  · cases h; exact c_ref06_CheckFill
  · cases h; exact c_base_Cut
  · cases h; exact c_mix_PressureOf
  · cases h; exact c_law06_Room
  · cases h; exact c_law06_Diary
  · cases h; exact c_mix_CheckPlan
  · cases h; exact c_law06_Nitrox
  · cases h; exact c_mix_Share
  · cases h; exact c_mix_fillOf
  · cases h; exact c_base_Number
  · cases h; exact c_base_Decimal
  · cases h; exact c_base_Within
  · cases h; exact c_ref01_CheckGas
  · cases h; exact c_mix_held
  · cases h; exact c_mix_rounded
  · cases h; exact c_mix_gases_sum
  · cases h; exact c_mix_ask
  · cases h; exact c_mix_asked_cost
  · cases h; exact c_mix_checkContent
  · cases h; exact c_mix_gasesOf
  · cases h; exact c_mix_within
  · cases h; exact c_mix_gases_share
  · cases h; exact c_mix_gases_content
  · cases h; exact c_mix_number
  · cases h; exact c_base_Size
  · cases h; exact c_mix_read
  · cases h; exact c_mix_vessel
  · cases h; exact c_mix_CheckTask
  · cases h; exact c_mix_ask_c1
  · cases h; exact c_slices_ContainsFunc_int
  · cases h; exact c_mix_checkContent_c1
  · cases h; exact c_slices_SortStableFunc_int
  · cases h; exact c_mix_gases_share_c1
  · cases h; exact c_cmp_Compare_int
  · cases h; exact c_mix_CheckVessels
  · cases h; exact c_mix_store_enter
  · cases h; exact c_slices_IndexFunc_api_MixVessel
  · cases h; exact c_mix_vessel_c1
  · cases h; exact c_mix_isName
  · cases h; exact c_slices_ContainsFunc_api_MixSource
  · cases h; exact c_mix_CheckTask_c1
  · cases h; exact c_gas_CheckGas
  · cases h; exact c_mix_shares
  · cases h; exact c_slices_IndexFunc_int
  · cases h; exact c_slices_stableCmpFunc_int
  · cases h; exact c_cmp_isNaN_int
  · cases h; exact c_mix_alone
  · cases h; exact c_mix_takes
  · cases h; exact c_mix_puts
  · cases h; exact c_mix_store_above
  · cases h; exact c_mix_fresh
  · cases h; exact c_mix_gases_less
  · cases h; exact c_mix_gases_plus
  · cases h; exact c_slices_IndexFunc_api_MixSource
  · cases h; exact c_gas_first
  · cases h; exact c_gas_bound
  · cases h; exact c_slices_insertionSortCmpFunc_int
  · cases h; exact c_slices_symMergeCmpFunc_int
  · cases h; exact c_gas_within
  · cases h; exact c_slices_rotateCmpFunc_int
  · cases h; exact c_slices_swapRangeCmpFunc_int
  · cases h
theorem methOK : MethOK Tryz.prog C := by
  intro t m g h
  cases h
theorem lh_ref06_ParseFill_1 (n : Nat) (e : Env) (f : Fr) (m : Mem) : den C l_ref06_ParseFill_1 ⟨tmOf n e, f :: m⟩ = headL C l_ref06_ParseFill_1 n (keepE e [2,4,5,6,7,10,11]) f m := head_of rfl n e f m
theorem ls_ref06_ParseFill_1 (n : Nat) (e : Env) (f : Fr) (m : Mem) : headL C l_ref06_ParseFill_1 n e f m = andThen (den C b_ref06_ParseFill_1 ⟨tmOf n (keepE e [2,4,5,6,7,10,11]), f :: m⟩) (den C l_ref06_ParseFill_1) := head_step rfl n e f m
theorem lh_base_Cut_1 (n : Nat) (e : Env) (f : Fr) (m : Mem) : den C l_base_Cut_1 ⟨tmOf n e, f :: m⟩ = headL C l_base_Cut_1 n (keepE e [0,1,5,6,7]) f m := head_of rfl n e f m
theorem ls_base_Cut_1 (n : Nat) (e : Env) (f : Fr) (m : Mem) : headL C l_base_Cut_1 n e f m = andThen (den C b_base_Cut_1 ⟨tmOf n (keepE e [0,1,5,6,7]), f :: m⟩) (den C l_base_Cut_1) := head_step rfl n e f m
theorem lh_base_Number_1 (n : Nat) (e : Env) (f : Fr) (m : Mem) : den C l_base_Number_1 ⟨tmOf n e, f :: m⟩ = headL C l_base_Number_1 n (keepE e [0,6,7,8]) f m := head_of rfl n e f m
theorem ls_base_Number_1 (n : Nat) (e : Env) (f : Fr) (m : Mem) : headL C l_base_Number_1 n e f m = andThen (den C b_base_Number_1 ⟨tmOf n (keepE e [0,6,7,8]), f :: m⟩) (den C l_base_Number_1) := head_step rfl n e f m
theorem lh_base_Decimal_1 (n : Nat) (e : Env) (f : Fr) (m : Mem) : den C l_base_Decimal_1 ⟨tmOf n e, f :: m⟩ = headL C l_base_Decimal_1 n (keepE e [0,3,4]) f m := head_of rfl n e f m
theorem ls_base_Decimal_1 (n : Nat) (e : Env) (f : Fr) (m : Mem) : headL C l_base_Decimal_1 n e f m = andThen (den C b_base_Decimal_1 ⟨tmOf n (keepE e [0,3,4]), f :: m⟩) (den C l_base_Decimal_1) := head_step rfl n e f m
theorem lh_mix_gases_share_1 (n : Nat) (e : Env) (f : Fr) (m : Mem) : den C l_mix_gases_share_1 ⟨tmOf n e, f :: m⟩ = headL C l_mix_gases_share_1 n (keepE e [4,6,49,50,51]) f m := head_of rfl n e f m
theorem ls_mix_gases_share_1 (n : Nat) (e : Env) (f : Fr) (m : Mem) : headL C l_mix_gases_share_1 n e f m = andThen (den C b_mix_gases_share_1 ⟨tmOf n (keepE e [4,6,49,50,51]), f :: m⟩) (den C l_mix_gases_share_1) := head_step rfl n e f m
theorem lh_mix_gases_share_2 (n : Nat) (e : Env) (f : Fr) (m : Mem) : den C l_mix_gases_share_2 ⟨tmOf n e, f :: m⟩ = headL C l_mix_gases_share_2 n (keepE e [1,4,5,6,7,19,20]) f m := head_of rfl n e f m
theorem ls_mix_gases_share_2 (n : Nat) (e : Env) (f : Fr) (m : Mem) : headL C l_mix_gases_share_2 n e f m = andThen (den C b_mix_gases_share_2 ⟨tmOf n (keepE e [1,4,5,6,7,19,20]), f :: m⟩) (den C l_mix_gases_share_2) := head_step rfl n e f m
theorem lh_slices_IndexFunc_api_MixVessel_1 (n : Nat) (e : Env) (f : Fr) (m : Mem) : den C l_slices_IndexFunc_api_MixVessel_1 ⟨tmOf n e, f :: m⟩ = headL C l_slices_IndexFunc_api_MixVessel_1 n (keepE e [0,1,7,8]) f m := head_of rfl n e f m
theorem ls_slices_IndexFunc_api_MixVessel_1 (n : Nat) (e : Env) (f : Fr) (m : Mem) : headL C l_slices_IndexFunc_api_MixVessel_1 n e f m = andThen (den C b_slices_IndexFunc_api_MixVessel_1 ⟨tmOf n (keepE e [0,1,7,8]), f :: m⟩) (den C l_slices_IndexFunc_api_MixVessel_1) := head_step rfl n e f m
theorem lh_mix_isName_1 (n : Nat) (e : Env) (f : Fr) (m : Mem) : den C l_mix_isName_1 ⟨tmOf n e, f :: m⟩ = headL C l_mix_isName_1 n (keepE e [0,6,7]) f m := head_of rfl n e f m
theorem ls_mix_isName_1 (n : Nat) (e : Env) (f : Fr) (m : Mem) : headL C l_mix_isName_1 n e f m = andThen (den C b_mix_isName_1 ⟨tmOf n (keepE e [0,6,7]), f :: m⟩) (den C l_mix_isName_1) := head_step rfl n e f m
theorem lh_slices_IndexFunc_int_1 (n : Nat) (e : Env) (f : Fr) (m : Mem) : den C l_slices_IndexFunc_int_1 ⟨tmOf n e, f :: m⟩ = headL C l_slices_IndexFunc_int_1 n (keepE e [0,1,7,8]) f m := head_of rfl n e f m
theorem ls_slices_IndexFunc_int_1 (n : Nat) (e : Env) (f : Fr) (m : Mem) : headL C l_slices_IndexFunc_int_1 n e f m = andThen (den C b_slices_IndexFunc_int_1 ⟨tmOf n (keepE e [0,1,7,8]), f :: m⟩) (den C l_slices_IndexFunc_int_1) := head_step rfl n e f m
theorem lh_slices_stableCmpFunc_int_1 (n : Nat) (e : Env) (f : Fr) (m : Mem) : den C l_slices_stableCmpFunc_int_1 ⟨tmOf n e, f :: m⟩ = headL C l_slices_stableCmpFunc_int_1 n (keepE e [0,1,2,6,7,8]) f m := head_of rfl n e f m
theorem ls_slices_stableCmpFunc_int_1 (n : Nat) (e : Env) (f : Fr) (m : Mem) : headL C l_slices_stableCmpFunc_int_1 n e f m = andThen (den C b_slices_stableCmpFunc_int_1 ⟨tmOf n (keepE e [0,1,2,6,7,8]), f :: m⟩) (den C l_slices_stableCmpFunc_int_1) := head_step rfl n e f m
theorem lh_slices_stableCmpFunc_int_2 (n : Nat) (e : Env) (f : Fr) (m : Mem) : den C l_slices_stableCmpFunc_int_2 ⟨tmOf n e, f :: m⟩ = headL C l_slices_stableCmpFunc_int_2 n (keepE e [0,1,2,6]) f m := head_of rfl n e f m
theorem ls_slices_stableCmpFunc_int_2 (n : Nat) (e : Env) (f : Fr) (m : Mem) : headL C l_slices_stableCmpFunc_int_2 n e f m = andThen (den C b_slices_stableCmpFunc_int_2 ⟨tmOf n (keepE e [0,1,2,6]), f :: m⟩) (den C l_slices_stableCmpFunc_int_2) := head_step rfl n e f m
theorem lh_slices_stableCmpFunc_int_3 (n : Nat) (e : Env) (f : Fr) (m : Mem) : den C l_slices_stableCmpFunc_int_3 ⟨tmOf n e, f :: m⟩ = headL C l_slices_stableCmpFunc_int_3 n (keepE e [0,1,2,6,7,8]) f m := head_of rfl n e f m
theorem ls_slices_stableCmpFunc_int_3 (n : Nat) (e : Env) (f : Fr) (m : Mem) : headL C l_slices_stableCmpFunc_int_3 n e f m = andThen (den C b_slices_stableCmpFunc_int_3 ⟨tmOf n (keepE e [0,1,2,6,7,8]), f :: m⟩) (den C l_slices_stableCmpFunc_int_3) := head_step rfl n e f m
theorem lh_slices_IndexFunc_api_MixSource_1 (n : Nat) (e : Env) (f : Fr) (m : Mem) : den C l_slices_IndexFunc_api_MixSource_1 ⟨tmOf n e, f :: m⟩ = headL C l_slices_IndexFunc_api_MixSource_1 n (keepE e [0,1,7,8]) f m := head_of rfl n e f m
theorem ls_slices_IndexFunc_api_MixSource_1 (n : Nat) (e : Env) (f : Fr) (m : Mem) : headL C l_slices_IndexFunc_api_MixSource_1 n e f m = andThen (den C b_slices_IndexFunc_api_MixSource_1 ⟨tmOf n (keepE e [0,1,7,8]), f :: m⟩) (den C l_slices_IndexFunc_api_MixSource_1) := head_step rfl n e f m
theorem lh_gas_first_1 (n : Nat) (e : Env) (f : Fr) (m : Mem) : den C l_gas_first_1 ⟨tmOf n e, f :: m⟩ = headL C l_gas_first_1 n (keepE e [5,6,7]) f m := head_of rfl n e f m
theorem ls_gas_first_1 (n : Nat) (e : Env) (f : Fr) (m : Mem) : headL C l_gas_first_1 n e f m = andThen (den C b_gas_first_1 ⟨tmOf n (keepE e [5,6,7]), f :: m⟩) (den C l_gas_first_1) := head_step rfl n e f m
theorem lh_slices_insertionSortCmpFunc_int_1 (n : Nat) (e : Env) (f : Fr) (m : Mem) : den C l_slices_insertionSortCmpFunc_int_1 ⟨tmOf n e, f :: m⟩ = headL C l_slices_insertionSortCmpFunc_int_1 n (keepE e [0,1,2,3,8,9]) f m := head_of rfl n e f m
theorem ls_slices_insertionSortCmpFunc_int_1 (n : Nat) (e : Env) (f : Fr) (m : Mem) : headL C l_slices_insertionSortCmpFunc_int_1 n e f m = andThen (den C b_slices_insertionSortCmpFunc_int_1 ⟨tmOf n (keepE e [0,1,2,3,8,9]), f :: m⟩) (den C l_slices_insertionSortCmpFunc_int_1) := head_step rfl n e f m
theorem lh_slices_insertionSortCmpFunc_int_2 (n : Nat) (e : Env) (f : Fr) (m : Mem) : den C l_slices_insertionSortCmpFunc_int_2 ⟨tmOf n e, f :: m⟩ = headL C l_slices_insertionSortCmpFunc_int_2 n (keepE e [0,1,2,3,8]) f m := head_of rfl n e f m
theorem ls_slices_insertionSortCmpFunc_int_2 (n : Nat) (e : Env) (f : Fr) (m : Mem) : headL C l_slices_insertionSortCmpFunc_int_2 n e f m = andThen (den C b_slices_insertionSortCmpFunc_int_2 ⟨tmOf n (keepE e [0,1,2,3,8]), f :: m⟩) (den C l_slices_insertionSortCmpFunc_int_2) := head_step rfl n e f m
theorem lh_slices_symMergeCmpFunc_int_1 (n : Nat) (e : Env) (f : Fr) (m : Mem) : den C l_slices_symMergeCmpFunc_int_1 ⟨tmOf n e, f :: m⟩ = headL C l_slices_symMergeCmpFunc_int_1 n (keepE e [0,1,2,3,4,18,19,20,21,22]) f m := head_of rfl n e f m
theorem ls_slices_symMergeCmpFunc_int_1 (n : Nat) (e : Env) (f : Fr) (m : Mem) : headL C l_slices_symMergeCmpFunc_int_1 n e f m = andThen (den C b_slices_symMergeCmpFunc_int_1 ⟨tmOf n (keepE e [0,1,2,3,4,18,19,20,21,22]), f :: m⟩) (den C l_slices_symMergeCmpFunc_int_1) := head_step rfl n e f m
theorem lh_slices_symMergeCmpFunc_int_2 (n : Nat) (e : Env) (f : Fr) (m : Mem) : den C l_slices_symMergeCmpFunc_int_2 ⟨tmOf n e, f :: m⟩ = headL C l_slices_symMergeCmpFunc_int_2 n (keepE e [0,14,17]) f m := head_of rfl n e f m
theorem ls_slices_symMergeCmpFunc_int_2 (n : Nat) (e : Env) (f : Fr) (m : Mem) : headL C l_slices_symMergeCmpFunc_int_2 n e f m = andThen (den C b_slices_symMergeCmpFunc_int_2 ⟨tmOf n (keepE e [0,14,17]), f :: m⟩) (den C l_slices_symMergeCmpFunc_int_2) := head_step rfl n e f m
theorem lh_slices_symMergeCmpFunc_int_3 (n : Nat) (e : Env) (f : Fr) (m : Mem) : den C l_slices_symMergeCmpFunc_int_3 ⟨tmOf n e, f :: m⟩ = headL C l_slices_symMergeCmpFunc_int_3 n (keepE e [0,2,4,14,15]) f m := head_of rfl n e f m
theorem ls_slices_symMergeCmpFunc_int_3 (n : Nat) (e : Env) (f : Fr) (m : Mem) : headL C l_slices_symMergeCmpFunc_int_3 n e f m = andThen (den C b_slices_symMergeCmpFunc_int_3 ⟨tmOf n (keepE e [0,2,4,14,15]), f :: m⟩) (den C l_slices_symMergeCmpFunc_int_3) := head_step rfl n e f m
theorem lh_slices_symMergeCmpFunc_int_4 (n : Nat) (e : Env) (f : Fr) (m : Mem) : den C l_slices_symMergeCmpFunc_int_4 ⟨tmOf n e, f :: m⟩ = headL C l_slices_symMergeCmpFunc_int_4 n (keepE e [0,10,13]) f m := head_of rfl n e f m
theorem ls_slices_symMergeCmpFunc_int_4 (n : Nat) (e : Env) (f : Fr) (m : Mem) : headL C l_slices_symMergeCmpFunc_int_4 n e f m = andThen (den C b_slices_symMergeCmpFunc_int_4 ⟨tmOf n (keepE e [0,10,13]), f :: m⟩) (den C l_slices_symMergeCmpFunc_int_4) := head_step rfl n e f m
theorem lh_slices_symMergeCmpFunc_int_5 (n : Nat) (e : Env) (f : Fr) (m : Mem) : den C l_slices_symMergeCmpFunc_int_5 ⟨tmOf n e, f :: m⟩ = headL C l_slices_symMergeCmpFunc_int_5 n (keepE e [0,1,4,10,11]) f m := head_of rfl n e f m
theorem ls_slices_symMergeCmpFunc_int_5 (n : Nat) (e : Env) (f : Fr) (m : Mem) : headL C l_slices_symMergeCmpFunc_int_5 n e f m = andThen (den C b_slices_symMergeCmpFunc_int_5 ⟨tmOf n (keepE e [0,1,4,10,11]), f :: m⟩) (den C l_slices_symMergeCmpFunc_int_5) := head_step rfl n e f m
theorem lh_slices_rotateCmpFunc_int_1 (n : Nat) (e : Env) (f : Fr) (m : Mem) : den C l_slices_rotateCmpFunc_int_1 ⟨tmOf n e, f :: m⟩ = headL C l_slices_rotateCmpFunc_int_1 n (keepE e [0,2,4,10,11]) f m := head_of rfl n e f m
theorem ls_slices_rotateCmpFunc_int_1 (n : Nat) (e : Env) (f : Fr) (m : Mem) : headL C l_slices_rotateCmpFunc_int_1 n e f m = andThen (den C b_slices_rotateCmpFunc_int_1 ⟨tmOf n (keepE e [0,2,4,10,11]), f :: m⟩) (den C l_slices_rotateCmpFunc_int_1) := head_step rfl n e f m
theorem lh_slices_swapRangeCmpFunc_int_1 (n : Nat) (e : Env) (f : Fr) (m : Mem) : den C l_slices_swapRangeCmpFunc_int_1 ⟨tmOf n e, f :: m⟩ = headL C l_slices_swapRangeCmpFunc_int_1 n (keepE e [0,1,2,3,10]) f m := head_of rfl n e f m
theorem ls_slices_swapRangeCmpFunc_int_1 (n : Nat) (e : Env) (f : Fr) (m : Mem) : headL C l_slices_swapRangeCmpFunc_int_1 n e f m = andThen (den C b_slices_swapRangeCmpFunc_int_1 ⟨tmOf n (keepE e [0,1,2,3,10]), f :: m⟩) (den C l_slices_swapRangeCmpFunc_int_1) := head_step rfl n e f m
end Go.Proofs.YtifieekfojbkhaaGreatDoor
