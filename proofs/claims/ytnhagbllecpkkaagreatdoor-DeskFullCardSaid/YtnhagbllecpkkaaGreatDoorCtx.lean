/-
  The context: which functions are run, which are taken by contract.
-/
import Derived.Test.YtnhagbllecpkkaaGreatDoorV5
import Derived.Test.YtnhagbllecpkkaaGreatDoorCode4
set_option linter.unusedSimpArgs false
set_option linter.unusedVariables false

namespace Go.Proofs.YtnhagbllecpkkaaGreatDoor
open Go Go.VA Go.Proofs
def prim (f : FuncId) : Option Prim :=
  match f with
  | 32 => some qSplitN
  | 33 => some qTrimSuffix
  | 34 => some qHasSuffix
  | 36 => some qItoa
  | 46 => some qJoin
  | 67 => some qContains
  | 109 => some qHasPrefix
  | 113 => some (qClone 6 80)
  | 119 => some qIndex
  | 153 => some (qAtoi 313)
  | 154 => some qTrimPrefix
  | 160 => some qSplit
  | _ => none
def fns : List (FuncId × AFunc) := [
  (3, a_law10_DeskFull),
  (6, a_law10_awake),
  (7, a_base_Within),
  (8, a_base_Decimal),
  (9, a_desk_StateOf),
  (10, a_law10_House),
  (11, a_law10_copied),
  (12, a_desk_Accept),
  (17, a_desk_SealOf),
  (23, a_desk_Booked),
  (24, a_law10_Diary),
  (25, a_desk_Breathed),
  (26, a_base_Ints),
  (27, a_base_Size),
  (28, a_desk_open),
  (29, a_desk_copied),
  (30, a_desk_keeper_accept),
  (35, a_desk_seal),
  (37, a_desk_isName),
  (38, a_base_Cut),
  (39, a_ref10_head),
  (40, a_base_IsName),
  (44, a_desk_seals),
  (48, a_mix_Sums),
  (49, a_desk_total),
  (50, a_desk_diveAt),
  (51, a_desk_world_breathedIn),
  (52, a_desk_newKeeper),
  (53, a_desk_keeper_enter),
  (54, a_slices_Clone_api_MixFill),
  (55, a_slices_Clone_api_KitEvent),
  (56, a_slices_Clone_api_DeskSign),
  (57, a_slices_Clone_api_Gas),
  (58, a_slices_Clone_api_DiveLeg),
  (59, a_slices_Clone_string),
  (60, a_slices_Clone_api_DivePoint),
  (70, a_mix_read),
  (71, a_mix_gases_content),
  (72, a_desk_plus),
  (73, a_desk_world_dive),
  (74, a_exposure_Consumed),
  (75, a_desk_world_planOf),
  (76, a_desk_CheckDesk),
  (77, a_desk_newWorld),
  (78, a_desk_world_person),
  (79, a_desk_head),
  (80, a_desk_keeper_fix),
  (81, a_desk_keeper_fact),
  (89, a_mix_CheckVessels),
  (90, a_mix_store_enter),
  (91, a_slices_IndexFunc_api_DeskDive),
  (92, a_desk_world_dive_c1),
  (93, a_exposure_checkPlan),
  (94, a_exposure_isBreath),
  (95, a_exposure_legs),
  (96, a_exposure_leg_breathes),
  (97, a_desk_world_plan),
  (98, a_kit_CheckSetup),
  (99, a_slices_ContainsFunc_api_DeskPerson),
  (100, a_desk_CheckDesk_c1),
  (101, a_desk_within),
  (102, a_exposure_CheckRules),
  (103, a_tissue_CheckTable),
  (104, a_slices_IndexFunc_api_DeskPerson),
  (105, a_desk_world_person_c1),
  (106, a_strings_Cut),
  (107, a_slices_Contains_int),
  (108, a_desk_number),
  (110, a_slices_IndexFunc_desk_counted),
  (111, a_desk_keeper_fix_c1),
  (112, a_desk_factOf),
  (114, a_desk_world_add),
  (125, a_mix_isName),
  (126, a_mix_vessel),
  (127, a_mix_within),
  (128, a_mix_alone),
  (129, a_mix_takes),
  (130, a_mix_puts),
  (131, a_mix_gases_sum),
  (133, a_mix_fresh),
  (134, a_mix_gases_share),
  (135, a_mix_gases_less),
  (136, a_mix_gases_plus),
  (137, a_profile_CheckPlan),
  (138, a_exposure_within),
  (139, a_exposure_up),
  (140, a_slices_IndexFunc_api_DivePlan),
  (141, a_desk_world_plan_c1),
  (147, a_kit_within),
  (148, a_gas_CheckLimits),
  (149, a_tissue_within),
  (150, a_tissue_isCompartment),
  (151, a_internal_stringslite_Cut),
  (152, a_slices_Index_int),
  (156, a_mix_ParseFill),
  (158, a_profile_ParsePlanLine),
  (159, a_desk_diveOf),
  (162, a_desk_less),
  (163, a_desk_world_vessel),
  (164, a_desk_with_api_MixContent),
  (174, a_slices_IndexFunc_api_MixVessel),
  (175, a_mix_vessel_c1),
  (176, a_gas_CheckGas),
  (177, a_slices_SortStableFunc_int),
  (178, a_mix_gases_share_c1),
  (179, a_cmp_Compare_int),
  (180, a_profile_isName),
  (181, a_profile_within),
  (186, a_gas_first),
  (187, a_gas_bound),
  (191, a_mix_fillOf),
  (193, a_profile_numbers),
  (195, a_profile_check),
  (197, a_desk_world_vessel_c1),
  (198, a_slices_Clip_api_MixContent),
  (202, a_slices_stableCmpFunc_int),
  (203, a_cmp_isNaN_int),
  (204, a_slices_IndexFunc_api_KitItem),
  (206, a_gas_within),
  (212, a_mix_number),
  (214, a_slices_insertionSortCmpFunc_int),
  (241, a_desk_fillFact_add),
  (242, a_desk_world_fill),
  (243, a_mix_AddFill),
  (244, a_mix_Contents),
  (283, a_desk_planFact_add),
  (284, a_desk_with_api_DivePlan),
  (285, a_slices_Clip_api_DivePlan),
  (297, a_desk_diveFact_add),
  (298, a_desk_world_checkDive),
  (299, a_desk_with_api_MixContent_299),
  (300, a_slices_ContainsFunc_api_KitItem),
  (302, a_desk_with_api_DeskDive),
  (303, a_slices_Contains_string),
  (304, a_desk_world_span),
  (305, a_slices_Clip_api_MixContent_305),
  (306, a_slices_Clip_api_DeskDive),
  (307, a_slices_Index_string),
  (308, a_profile_PlanSeconds),
  (309, a_profile_trackOf),
  (310, a_profile_track_end)]
def fn : FuncId → Option AFunc := lookF fns
def meth (t : TypeId) (m : String) : Option FuncId :=
  if t = 255 ∧ m = "shotline/desk.add" then some n_desk_fillFact_add else
  if t = 258 ∧ m = "shotline/desk.add" then some n_desk_kitFact_add else
  if t = 261 ∧ m = "shotline/desk.add" then some n_desk_planFact_add else
  if t = 266 ∧ m = "shotline/desk.add" then some n_desk_recordFact_add else
  if t = 267 ∧ m = "shotline/desk.add" then some n_desk_signFact_add else
  if t = 269 ∧ m = "shotline/desk.add" then some n_desk_diveFact_add else
  none
def iter (f : FuncId) : Option (List AV → Option (List (List AV))) :=
  match f with
  | 31 => some qLines
  | 194 => some qChunk
  | _ => none
def fresh (f : FuncId) : Option Nat :=
  match f with
  | 113 => some 6
  | _ => none
def C : Ctx := { fn, prim, meth, iter, fresh }
set_option maxRecDepth 100000 in
theorem fnsOK : AllOK Tryz.prog gl fns :=
  ⟨c_law10_DeskFull,
  c_law10_awake,
  c_base_Within,
  c_base_Decimal,
  c_desk_StateOf,
  c_law10_House,
  c_law10_copied,
  c_desk_Accept,
  c_desk_SealOf,
  c_desk_Booked,
  c_law10_Diary,
  c_desk_Breathed,
  c_base_Ints,
  c_base_Size,
  c_desk_open,
  c_desk_copied,
  c_desk_keeper_accept,
  c_desk_seal,
  c_desk_isName,
  c_base_Cut,
  c_ref10_head,
  c_base_IsName,
  c_desk_seals,
  c_mix_Sums,
  c_desk_total,
  c_desk_diveAt,
  c_desk_world_breathedIn,
  c_desk_newKeeper,
  c_desk_keeper_enter,
  c_slices_Clone_api_MixFill,
  c_slices_Clone_api_KitEvent,
  c_slices_Clone_api_DeskSign,
  c_slices_Clone_api_Gas,
  c_slices_Clone_api_DiveLeg,
  c_slices_Clone_string,
  c_slices_Clone_api_DivePoint,
  c_mix_read,
  c_mix_gases_content,
  c_desk_plus,
  c_desk_world_dive,
  c_exposure_Consumed,
  c_desk_world_planOf,
  c_desk_CheckDesk,
  c_desk_newWorld,
  c_desk_world_person,
  c_desk_head,
  c_desk_keeper_fix,
  c_desk_keeper_fact,
  c_mix_CheckVessels,
  c_mix_store_enter,
  c_slices_IndexFunc_api_DeskDive,
  c_desk_world_dive_c1,
  c_exposure_checkPlan,
  c_exposure_isBreath,
  c_exposure_legs,
  c_exposure_leg_breathes,
  c_desk_world_plan,
  c_kit_CheckSetup,
  c_slices_ContainsFunc_api_DeskPerson,
  c_desk_CheckDesk_c1,
  c_desk_within,
  c_exposure_CheckRules,
  c_tissue_CheckTable,
  c_slices_IndexFunc_api_DeskPerson,
  c_desk_world_person_c1,
  c_strings_Cut,
  c_slices_Contains_int,
  c_desk_number,
  c_slices_IndexFunc_desk_counted,
  c_desk_keeper_fix_c1,
  c_desk_factOf,
  c_desk_world_add,
  c_mix_isName,
  c_mix_vessel,
  c_mix_within,
  c_mix_alone,
  c_mix_takes,
  c_mix_puts,
  c_mix_gases_sum,
  c_mix_fresh,
  c_mix_gases_share,
  c_mix_gases_less,
  c_mix_gases_plus,
  c_profile_CheckPlan,
  c_exposure_within,
  c_exposure_up,
  c_slices_IndexFunc_api_DivePlan,
  c_desk_world_plan_c1,
  c_kit_within,
  c_gas_CheckLimits,
  c_tissue_within,
  c_tissue_isCompartment,
  c_internal_stringslite_Cut,
  c_slices_Index_int,
  c_mix_ParseFill,
  c_profile_ParsePlanLine,
  c_desk_diveOf,
  c_desk_less,
  c_desk_world_vessel,
  c_desk_with_api_MixContent,
  c_slices_IndexFunc_api_MixVessel,
  c_mix_vessel_c1,
  c_gas_CheckGas,
  c_slices_SortStableFunc_int,
  c_mix_gases_share_c1,
  c_cmp_Compare_int,
  c_profile_isName,
  c_profile_within,
  c_gas_first,
  c_gas_bound,
  c_mix_fillOf,
  c_profile_numbers,
  c_profile_check,
  c_desk_world_vessel_c1,
  c_slices_Clip_api_MixContent,
  c_slices_stableCmpFunc_int,
  c_cmp_isNaN_int,
  c_slices_IndexFunc_api_KitItem,
  c_gas_within,
  c_mix_number,
  c_slices_insertionSortCmpFunc_int,
  c_desk_fillFact_add,
  c_desk_world_fill,
  c_mix_AddFill,
  c_mix_Contents,
  c_desk_planFact_add,
  c_desk_with_api_DivePlan,
  c_slices_Clip_api_DivePlan,
  c_desk_diveFact_add,
  c_desk_world_checkDive,
  c_desk_with_api_MixContent_299,
  c_slices_ContainsFunc_api_KitItem,
  c_desk_with_api_DeskDive,
  c_slices_Contains_string,
  c_desk_world_span,
  c_slices_Clip_api_MixContent_305,
  c_slices_Clip_api_DeskDive,
  c_slices_Index_string,
  c_profile_PlanSeconds,
  c_profile_trackOf,
  c_profile_track_end, trivial⟩
theorem fnOK : FnOK Tryz.prog gl C := fun _ _ _ h => lookF_ok fnsOK h
theorem lh_law10_DeskFull_1 (n : Nat) (e : Env) (f : Fr) (m : Mem) : den C l_law10_DeskFull_1 ⟨tmOf n e, f :: m⟩ = headL C l_law10_DeskFull_1 n (keepE e [0,3,4]) f m := head_of rfl n e f m
theorem ls_law10_DeskFull_1 (n : Nat) (e : Env) (f : Fr) (m : Mem) : headL C l_law10_DeskFull_1 n e f m = andThen (den C b_law10_DeskFull_1 ⟨tmOf n (keepE e [0,3,4]), f :: m⟩) (den C l_law10_DeskFull_1) := head_step rfl n e f m
theorem lh_desk_open_1 (n : Nat) (e : Env) (f : Fr) (m : Mem) (h : freeEnv m.length [[10]] (keepE e [1,7,25,26,27]) (f.drop [[10]]) = true) : den C l_desk_open_1 ⟨tmOf n e, f :: m⟩ = headL C l_desk_open_1 n (keepE e [1,7,25,26,27]) (f.drop [[10]]) m := headd_of rfl n e f m h
theorem ls_desk_open_1 (n : Nat) (e : Env) (f : Fr) (m : Mem) (h : freeEnv m.length [[10]] (keepE e [1,7,25,26,27]) (f.drop [[10]]) = true) : headL C l_desk_open_1 n e f m = andThen (den C b_desk_open_1 ⟨tmOf n (keepE e [1,7,25,26,27]), f.drop [[10]] :: m⟩) (den C l_desk_open_1) := headd_step rfl n e f m h
theorem lh_desk_copied_1 (n : Nat) (e : Env) (f : Fr) (m : Mem) (h : freeEnv m.length [[9]] (keepE e [2,3,61,62,63]) (f.drop [[9]]) = true) : den C l_desk_copied_1 ⟨tmOf n e, f :: m⟩ = headL C l_desk_copied_1 n (keepE e [2,3,61,62,63]) (f.drop [[9]]) m := headd_of rfl n e f m h
theorem ls_desk_copied_1 (n : Nat) (e : Env) (f : Fr) (m : Mem) (h : freeEnv m.length [[9]] (keepE e [2,3,61,62,63]) (f.drop [[9]]) = true) : headL C l_desk_copied_1 n e f m = andThen (den C b_desk_copied_1 ⟨tmOf n (keepE e [2,3,61,62,63]), f.drop [[9]] :: m⟩) (den C l_desk_copied_1) := headd_step rfl n e f m h
theorem lh_desk_copied_2 (n : Nat) (e : Env) (f : Fr) (m : Mem) (h : freeEnv m.length [[7]] (keepE e [1,2,3,43,44,45]) (f.drop [[7]]) = true) : den C l_desk_copied_2 ⟨tmOf n e, f :: m⟩ = headL C l_desk_copied_2 n (keepE e [1,2,3,43,44,45]) (f.drop [[7]]) m := headd_of rfl n e f m h
theorem ls_desk_copied_2 (n : Nat) (e : Env) (f : Fr) (m : Mem) (h : freeEnv m.length [[7]] (keepE e [1,2,3,43,44,45]) (f.drop [[7]]) = true) : headL C l_desk_copied_2 n e f m = andThen (den C b_desk_copied_2 ⟨tmOf n (keepE e [1,2,3,43,44,45]), f.drop [[7]] :: m⟩) (den C l_desk_copied_2) := headd_step rfl n e f m h
theorem lh_desk_copied_3 (n : Nat) (e : Env) (f : Fr) (m : Mem) (h : freeEnv m.length [[5]] (keepE e [1,2,3,21,22,23]) (f.drop [[5]]) = true) : den C l_desk_copied_3 ⟨tmOf n e, f :: m⟩ = headL C l_desk_copied_3 n (keepE e [1,2,3,21,22,23]) (f.drop [[5]]) m := headd_of rfl n e f m h
theorem ls_desk_copied_3 (n : Nat) (e : Env) (f : Fr) (m : Mem) (h : freeEnv m.length [[5]] (keepE e [1,2,3,21,22,23]) (f.drop [[5]]) = true) : headL C l_desk_copied_3 n e f m = andThen (den C b_desk_copied_3 ⟨tmOf n (keepE e [1,2,3,21,22,23]), f.drop [[5]] :: m⟩) (den C l_desk_copied_3) := headd_step rfl n e f m h
theorem lh_desk_isName_1 (n : Nat) (e : Env) (f : Fr) (m : Mem) : den C l_desk_isName_1 ⟨tmOf n e, f :: m⟩ = headL C l_desk_isName_1 n (keepE e [0,6,7]) f m := head_of rfl n e f m
theorem ls_desk_isName_1 (n : Nat) (e : Env) (f : Fr) (m : Mem) : headL C l_desk_isName_1 n e f m = andThen (den C b_desk_isName_1 ⟨tmOf n (keepE e [0,6,7]), f :: m⟩) (den C l_desk_isName_1) := head_step rfl n e f m
theorem lh_ref10_head_1 (n : Nat) (e : Env) (f : Fr) (m : Mem) : den C l_ref10_head_1 ⟨tmOf n e, f :: m⟩ = headL C l_ref10_head_1 n (keepE e [0,5]) f m := head_of rfl n e f m
theorem ls_ref10_head_1 (n : Nat) (e : Env) (f : Fr) (m : Mem) : headL C l_ref10_head_1 n e f m = andThen (den C b_ref10_head_1 ⟨tmOf n (keepE e [0,5]), f :: m⟩) (den C l_ref10_head_1) := head_step rfl n e f m
theorem lh_base_IsName_1 (n : Nat) (e : Env) (f : Fr) (m : Mem) : den C l_base_IsName_1 ⟨tmOf n e, f :: m⟩ = headL C l_base_IsName_1 n (keepE e [0,3]) f m := head_of rfl n e f m
theorem ls_base_IsName_1 (n : Nat) (e : Env) (f : Fr) (m : Mem) : headL C l_base_IsName_1 n e f m = andThen (den C b_base_IsName_1 ⟨tmOf n (keepE e [0,3]), f :: m⟩) (den C l_base_IsName_1) := head_step rfl n e f m
theorem lh_desk_CheckDesk_1 (n : Nat) (e : Env) (f : Fr) (m : Mem) (h : freeEnv m.length [[6]] (keepE e [1,25,26,27]) (f.drop [[6]]) = true) : den C l_desk_CheckDesk_1 ⟨tmOf n e, f :: m⟩ = headL C l_desk_CheckDesk_1 n (keepE e [1,25,26,27]) (f.drop [[6]]) m := headd_of rfl n e f m h
theorem ls_desk_CheckDesk_1 (n : Nat) (e : Env) (f : Fr) (m : Mem) (h : freeEnv m.length [[6]] (keepE e [1,25,26,27]) (f.drop [[6]]) = true) : headL C l_desk_CheckDesk_1 n e f m = andThen (den C b_desk_CheckDesk_1 ⟨tmOf n (keepE e [1,25,26,27]), f.drop [[6]] :: m⟩) (den C l_desk_CheckDesk_1) := headd_step rfl n e f m h
theorem lh_mix_CheckVessels_1 (n : Nat) (e : Env) (f : Fr) (m : Mem) (h : freeEnv m.length [[4]] (keepE e [0,8,9,10]) (f.drop [[4]]) = true) : den C l_mix_CheckVessels_1 ⟨tmOf n e, f :: m⟩ = headL C l_mix_CheckVessels_1 n (keepE e [0,8,9,10]) (f.drop [[4]]) m := headd_of rfl n e f m h
theorem ls_mix_CheckVessels_1 (n : Nat) (e : Env) (f : Fr) (m : Mem) (h : freeEnv m.length [[4]] (keepE e [0,8,9,10]) (f.drop [[4]]) = true) : headL C l_mix_CheckVessels_1 n e f m = andThen (den C b_mix_CheckVessels_1 ⟨tmOf n (keepE e [0,8,9,10]), f.drop [[4]] :: m⟩) (den C l_mix_CheckVessels_1) := headd_step rfl n e f m h
theorem lh_kit_CheckSetup_1 (n : Nat) (e : Env) (f : Fr) (m : Mem) (h : freeEnv m.length [[6]] (keepE e [1,47,48,49]) (f.drop [[6]]) = true) : den C l_kit_CheckSetup_1 ⟨tmOf n e, f :: m⟩ = headL C l_kit_CheckSetup_1 n (keepE e [1,47,48,49]) (f.drop [[6]]) m := headd_of rfl n e f m h
theorem ls_kit_CheckSetup_1 (n : Nat) (e : Env) (f : Fr) (m : Mem) (h : freeEnv m.length [[6]] (keepE e [1,47,48,49]) (f.drop [[6]]) = true) : headL C l_kit_CheckSetup_1 n e f m = andThen (den C b_kit_CheckSetup_1 ⟨tmOf n (keepE e [1,47,48,49]), f.drop [[6]] :: m⟩) (den C l_kit_CheckSetup_1) := headd_step rfl n e f m h
theorem lh_kit_CheckSetup_2 (n : Nat) (e : Env) (f : Fr) (m : Mem) (h : freeEnv m.length [[4]] (keepE e [1,12,13,14]) (f.drop [[4]]) = true) : den C l_kit_CheckSetup_2 ⟨tmOf n e, f :: m⟩ = headL C l_kit_CheckSetup_2 n (keepE e [1,12,13,14]) (f.drop [[4]]) m := headd_of rfl n e f m h
theorem ls_kit_CheckSetup_2 (n : Nat) (e : Env) (f : Fr) (m : Mem) (h : freeEnv m.length [[4]] (keepE e [1,12,13,14]) (f.drop [[4]]) = true) : headL C l_kit_CheckSetup_2 n e f m = andThen (den C b_kit_CheckSetup_2 ⟨tmOf n (keepE e [1,12,13,14]), f.drop [[4]] :: m⟩) (den C l_kit_CheckSetup_2) := headd_step rfl n e f m h
theorem lh_exposure_CheckRules_1 (n : Nat) (e : Env) (f : Fr) (m : Mem) (h : freeEnv m.length [[4]] (keepE e [1,11,12,13]) (f.drop [[4]]) = true) : den C l_exposure_CheckRules_1 ⟨tmOf n e, f :: m⟩ = headL C l_exposure_CheckRules_1 n (keepE e [1,11,12,13]) (f.drop [[4]]) m := headd_of rfl n e f m h
theorem ls_exposure_CheckRules_1 (n : Nat) (e : Env) (f : Fr) (m : Mem) (h : freeEnv m.length [[4]] (keepE e [1,11,12,13]) (f.drop [[4]]) = true) : headL C l_exposure_CheckRules_1 n e f m = andThen (den C b_exposure_CheckRules_1 ⟨tmOf n (keepE e [1,11,12,13]), f.drop [[4]] :: m⟩) (den C l_exposure_CheckRules_1) := headd_step rfl n e f m h
theorem lh_tissue_CheckTable_1 (n : Nat) (e : Env) (f : Fr) (m : Mem) (h : freeEnv m.length [[4]] (keepE e [9,10,11]) (f.drop [[4]]) = true) : den C l_tissue_CheckTable_1 ⟨tmOf n e, f :: m⟩ = headL C l_tissue_CheckTable_1 n (keepE e [9,10,11]) (f.drop [[4]]) m := headd_of rfl n e f m h
theorem ls_tissue_CheckTable_1 (n : Nat) (e : Env) (f : Fr) (m : Mem) (h : freeEnv m.length [[4]] (keepE e [9,10,11]) (f.drop [[4]]) = true) : headL C l_tissue_CheckTable_1 n e f m = andThen (den C b_tissue_CheckTable_1 ⟨tmOf n (keepE e [9,10,11]), f.drop [[4]] :: m⟩) (den C l_tissue_CheckTable_1) := headd_step rfl n e f m h
theorem lh_profile_CheckPlan_1 (n : Nat) (e : Env) (f : Fr) (m : Mem) (h : freeEnv m.length [[9]] (keepE e [1,7,48,49,50]) (f.drop [[9]]) = true) : den C l_profile_CheckPlan_1 ⟨tmOf n e, f :: m⟩ = headL C l_profile_CheckPlan_1 n (keepE e [1,7,48,49,50]) (f.drop [[9]]) m := headd_of rfl n e f m h
theorem ls_profile_CheckPlan_1 (n : Nat) (e : Env) (f : Fr) (m : Mem) (h : freeEnv m.length [[9]] (keepE e [1,7,48,49,50]) (f.drop [[9]]) = true) : headL C l_profile_CheckPlan_1 n e f m = andThen (den C b_profile_CheckPlan_1 ⟨tmOf n (keepE e [1,7,48,49,50]), f.drop [[9]] :: m⟩) (den C l_profile_CheckPlan_1) := headd_step rfl n e f m h
theorem lh_profile_CheckPlan_2 (n : Nat) (e : Env) (f : Fr) (m : Mem) (h : freeEnv m.length [[5]] (keepE e [1,31,32,33]) (f.drop [[5]]) = true) : den C l_profile_CheckPlan_2 ⟨tmOf n e, f :: m⟩ = headL C l_profile_CheckPlan_2 n (keepE e [1,31,32,33]) (f.drop [[5]]) m := headd_of rfl n e f m h
theorem ls_profile_CheckPlan_2 (n : Nat) (e : Env) (f : Fr) (m : Mem) (h : freeEnv m.length [[5]] (keepE e [1,31,32,33]) (f.drop [[5]]) = true) : headL C l_profile_CheckPlan_2 n e f m = andThen (den C b_profile_CheckPlan_2 ⟨tmOf n (keepE e [1,31,32,33]), f.drop [[5]] :: m⟩) (den C l_profile_CheckPlan_2) := headd_step rfl n e f m h
theorem lh_gas_first_1 (n : Nat) (e : Env) (f : Fr) (m : Mem) : den C l_gas_first_1 ⟨tmOf n e, f :: m⟩ = headL C l_gas_first_1 n (keepE e [5,6,7]) f m := head_of rfl n e f m
theorem ls_gas_first_1 (n : Nat) (e : Env) (f : Fr) (m : Mem) : headL C l_gas_first_1 n e f m = andThen (den C b_gas_first_1 ⟨tmOf n (keepE e [5,6,7]), f :: m⟩) (den C l_gas_first_1) := head_step rfl n e f m
theorem lh_profile_numbers_1 (n : Nat) (e : Env) (f : Fr) (m : Mem) : den C l_profile_numbers_1 ⟨tmOf n e, f :: m⟩ = headL C l_profile_numbers_1 n (keepE e [4,9,10,11]) f m := head_of rfl n e f m
theorem ls_profile_numbers_1 (n : Nat) (e : Env) (f : Fr) (m : Mem) : headL C l_profile_numbers_1 n e f m = andThen (den C b_profile_numbers_1 ⟨tmOf n (keepE e [4,9,10,11]), f :: m⟩) (den C l_profile_numbers_1) := head_step rfl n e f m
theorem lh_profile_check_1 (n : Nat) (e : Env) (f : Fr) (m : Mem) (h : freeEnv m.length [[4]] (keepE e [7,8,9]) (f.drop [[4]]) = true) : den C l_profile_check_1 ⟨tmOf n e, f :: m⟩ = headL C l_profile_check_1 n (keepE e [7,8,9]) (f.drop [[4]]) m := headd_of rfl n e f m h
theorem ls_profile_check_1 (n : Nat) (e : Env) (f : Fr) (m : Mem) (h : freeEnv m.length [[4]] (keepE e [7,8,9]) (f.drop [[4]]) = true) : headL C l_profile_check_1 n e f m = andThen (den C b_profile_check_1 ⟨tmOf n (keepE e [7,8,9]), f.drop [[4]] :: m⟩) (den C l_profile_check_1) := headd_step rfl n e f m h
theorem lh_profile_trackOf_1 (n : Nat) (e : Env) (f : Fr) (m : Mem) (h : freeEnv m.length [[5]] (keepE e [3,9,10,11]) (f.drop [[5]]) = true) : den C l_profile_trackOf_1 ⟨tmOf n e, f :: m⟩ = headL C l_profile_trackOf_1 n (keepE e [3,9,10,11]) (f.drop [[5]]) m := headd_of rfl n e f m h
theorem ls_profile_trackOf_1 (n : Nat) (e : Env) (f : Fr) (m : Mem) (h : freeEnv m.length [[5]] (keepE e [3,9,10,11]) (f.drop [[5]]) = true) : headL C l_profile_trackOf_1 n e f m = andThen (den C b_profile_trackOf_1 ⟨tmOf n (keepE e [3,9,10,11]), f.drop [[5]] :: m⟩) (den C l_profile_trackOf_1) := headd_step rfl n e f m h
end Go.Proofs.YtnhagbllecpkkaaGreatDoor
