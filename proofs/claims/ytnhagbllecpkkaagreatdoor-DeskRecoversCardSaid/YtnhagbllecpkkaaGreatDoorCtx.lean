/-
  The context: which functions are run, which are taken by contract.
-/
import Derived.Test.YtnhagbllecpkkaaGreatDoorV5
import Derived.Test.YtnhagbllecpkkaaGreatDoorCode4
set_option linter.unusedSimpArgs false
set_option linter.unusedVariables false

namespace Go.Proofs.YtnhagbllecpkkaaGreatDoor
open Go Go.VA Go.Proofs
def prim (f : FuncId) : Option Prim :=
  match f with
  | 32 => some qSplitN
  | 33 => some qTrimSuffix
  | 34 => some qHasSuffix
  | 36 => some qItoa
  | 46 => some qJoin
  | 67 => some qContains
  | 109 => some qHasPrefix
  | 113 => some (qClone 6 80)
  | 119 => some qIndex
  | 153 => some (qAtoi 313)
  | 154 => some qTrimPrefix
  | 160 => some qSplit
  | _ => none
def fns : List (FuncId × AFunc) := [
  (4, a_law10_DeskRecovers),
  (6, a_law10_awake),
  (8, a_base_Decimal),
  (10, a_law10_House),
  (13, a_desk_Recover),
  (14, a_ref10_Recover),
  (15, a_law10_entries),
  (17, a_desk_SealOf),
  (23, a_desk_Booked),
  (24, a_law10_Diary),
  (25, a_desk_Breathed),
  (26, a_base_Ints),
  (27, a_base_Size),
  (28, a_desk_open),
  (35, a_desk_seal),
  (37, a_desk_isName),
  (38, a_base_Cut),
  (39, a_ref10_head),
  (40, a_base_IsName),
  (41, a_ref10_seal),
  (44, a_desk_seals),
  (48, a_mix_Sums),
  (49, a_desk_total),
  (50, a_desk_diveAt),
  (51, a_desk_world_breathedIn),
  (52, a_desk_newKeeper),
  (53, a_desk_keeper_enter),
  (54, a_slices_Clone_api_MixFill),
  (55, a_slices_Clone_api_KitEvent),
  (70, a_mix_read),
  (71, a_mix_gases_content),
  (72, a_desk_plus),
  (73, a_desk_world_dive),
  (74, a_exposure_Consumed),
  (75, a_desk_world_planOf),
  (76, a_desk_CheckDesk),
  (77, a_desk_newWorld),
  (78, a_desk_world_person),
  (79, a_desk_head),
  (80, a_desk_keeper_fix),
  (81, a_desk_keeper_fact),
  (89, a_mix_CheckVessels),
  (90, a_mix_store_enter),
  (91, a_slices_IndexFunc_api_DeskDive),
  (92, a_desk_world_dive_c1),
  (93, a_exposure_checkPlan),
  (94, a_exposure_isBreath),
  (95, a_exposure_legs),
  (96, a_exposure_leg_breathes),
  (97, a_desk_world_plan),
  (98, a_kit_CheckSetup),
  (99, a_slices_ContainsFunc_api_DeskPerson),
  (100, a_desk_CheckDesk_c1),
  (101, a_desk_within),
  (102, a_exposure_CheckRules),
  (103, a_tissue_CheckTable),
  (104, a_slices_IndexFunc_api_DeskPerson),
  (105, a_desk_world_person_c1),
  (106, a_strings_Cut),
  (107, a_slices_Contains_int),
  (108, a_desk_number),
  (110, a_slices_IndexFunc_desk_counted),
  (111, a_desk_keeper_fix_c1),
  (112, a_desk_factOf),
  (114, a_desk_world_add),
  (125, a_mix_isName),
  (126, a_mix_vessel),
  (127, a_mix_within),
  (128, a_mix_alone),
  (129, a_mix_takes),
  (130, a_mix_puts),
  (131, a_mix_gases_sum),
  (132, a_mix_store_above),
  (133, a_mix_fresh),
  (134, a_mix_gases_share),
  (135, a_mix_gases_less),
  (136, a_mix_gases_plus),
  (137, a_profile_CheckPlan),
  (138, a_exposure_within),
  (139, a_exposure_up),
  (140, a_slices_IndexFunc_api_DivePlan),
  (141, a_desk_world_plan_c1),
  (143, a_kit_item),
  (144, a_kit_isKind),
  (145, a_kit_isDay),
  (146, a_kit_rule),
  (147, a_kit_within),
  (148, a_gas_CheckLimits),
  (149, a_tissue_within),
  (150, a_tissue_isCompartment),
  (151, a_internal_stringslite_Cut),
  (152, a_slices_Index_int),
  (156, a_mix_ParseFill),
  (157, a_kit_ParseEvent),
  (158, a_profile_ParsePlanLine),
  (159, a_desk_diveOf),
  (161, a_profile_ParsePoints),
  (162, a_desk_less),
  (163, a_desk_world_vessel),
  (164, a_desk_with_api_MixContent),
  (174, a_slices_IndexFunc_api_MixVessel),
  (175, a_mix_vessel_c1),
  (176, a_gas_CheckGas),
  (177, a_slices_SortStableFunc_int),
  (178, a_mix_gases_share_c1),
  (179, a_cmp_Compare_int),
  (180, a_profile_isName),
  (181, a_profile_within),
  (182, a_kit_find_api_KitItem),
  (183, a_kit_item_c1),
  (184, a_kit_find_api_KitRule),
  (185, a_kit_rule_c1),
  (186, a_gas_first),
  (187, a_gas_bound),
  (191, a_mix_fillOf),
  (193, a_profile_numbers),
  (195, a_profile_check),
  (196, a_profile_CheckPoints),
  (197, a_desk_world_vessel_c1),
  (198, a_slices_Clip_api_MixContent),
  (202, a_slices_stableCmpFunc_int),
  (203, a_cmp_isNaN_int),
  (204, a_slices_IndexFunc_api_KitItem),
  (205, a_slices_IndexFunc_api_KitRule),
  (206, a_gas_within),
  (212, a_mix_number),
  (214, a_slices_insertionSortCmpFunc_int),
  (215, a_slices_symMergeCmpFunc_int),
  (219, a_slices_rotateCmpFunc_int),
  (222, a_slices_swapRangeCmpFunc_int),
  (241, a_desk_fillFact_add),
  (242, a_desk_world_fill),
  (243, a_mix_AddFill),
  (244, a_mix_Contents),
  (245, a_desk_kitFact_add),
  (246, a_desk_world_event),
  (247, a_kit_AddEvent),
  (248, a_kit_more),
  (249, a_kit_follow),
  (283, a_desk_planFact_add),
  (284, a_desk_with_api_DivePlan),
  (285, a_slices_Clip_api_DivePlan),
  (286, a_desk_recordFact_add),
  (287, a_desk_world_record),
  (288, a_desk_with_api_DeskRecord),
  (289, a_slices_IndexFunc_api_DeskRecord),
  (290, a_desk_world_record_c1),
  (291, a_slices_Clip_api_DeskRecord),
  (292, a_desk_signFact_add),
  (293, a_slices_Contains_api_DeskSign),
  (294, a_desk_with_api_DeskSign),
  (295, a_slices_Index_api_DeskSign),
  (296, a_slices_Clip_api_DeskSign),
  (297, a_desk_diveFact_add),
  (298, a_desk_world_checkDive),
  (299, a_desk_with_api_MixContent_299),
  (300, a_slices_ContainsFunc_api_KitItem),
  (301, a_desk_diveFact_add_c1),
  (302, a_desk_with_api_DeskDive),
  (303, a_slices_Contains_string),
  (304, a_desk_world_span),
  (305, a_slices_Clip_api_MixContent_305),
  (306, a_slices_Clip_api_DeskDive),
  (307, a_slices_Index_string),
  (308, a_profile_PlanSeconds),
  (309, a_profile_trackOf),
  (310, a_profile_track_end)]
def fn : FuncId → Option AFunc := lookF fns
def meth (t : TypeId) (m : String) : Option FuncId :=
  if t = 255 ∧ m = "shotline/desk.add" then some n_desk_fillFact_add else
  if t = 258 ∧ m = "shotline/desk.add" then some n_desk_kitFact_add else
  if t = 261 ∧ m = "shotline/desk.add" then some n_desk_planFact_add else
  if t = 266 ∧ m = "shotline/desk.add" then some n_desk_recordFact_add else
  if t = 267 ∧ m = "shotline/desk.add" then some n_desk_signFact_add else
  if t = 269 ∧ m = "shotline/desk.add" then some n_desk_diveFact_add else
  none
def iter (f : FuncId) : Option (List AV → Option (List (List AV))) :=
  match f with
  | 31 => some qLines
  | 194 => some qChunk
  | _ => none
def fresh (f : FuncId) : Option Nat :=
  match f with
  | 113 => some 6
  | _ => none
def C : Ctx := { fn, prim, meth, iter, fresh }
set_option maxRecDepth 100000 in
theorem fnsOK : AllOK Tryz.prog gl fns :=
  ⟨c_law10_DeskRecovers,
  c_law10_awake,
  c_base_Decimal,
  c_law10_House,
  c_desk_Recover,
  c_ref10_Recover,
  c_law10_entries,
  c_desk_SealOf,
  c_desk_Booked,
  c_law10_Diary,
  c_desk_Breathed,
  c_base_Ints,
  c_base_Size,
  c_desk_open,
  c_desk_seal,
  c_desk_isName,
  c_base_Cut,
  c_ref10_head,
  c_base_IsName,
  c_ref10_seal,
  c_desk_seals,
  c_mix_Sums,
  c_desk_total,
  c_desk_diveAt,
  c_desk_world_breathedIn,
  c_desk_newKeeper,
  c_desk_keeper_enter,
  c_slices_Clone_api_MixFill,
  c_slices_Clone_api_KitEvent,
  c_mix_read,
  c_mix_gases_content,
  c_desk_plus,
  c_desk_world_dive,
  c_exposure_Consumed,
  c_desk_world_planOf,
  c_desk_CheckDesk,
  c_desk_newWorld,
  c_desk_world_person,
  c_desk_head,
  c_desk_keeper_fix,
  c_desk_keeper_fact,
  c_mix_CheckVessels,
  c_mix_store_enter,
  c_slices_IndexFunc_api_DeskDive,
  c_desk_world_dive_c1,
  c_exposure_checkPlan,
  c_exposure_isBreath,
  c_exposure_legs,
  c_exposure_leg_breathes,
  c_desk_world_plan,
  c_kit_CheckSetup,
  c_slices_ContainsFunc_api_DeskPerson,
  c_desk_CheckDesk_c1,
  c_desk_within,
  c_exposure_CheckRules,
  c_tissue_CheckTable,
  c_slices_IndexFunc_api_DeskPerson,
  c_desk_world_person_c1,
  c_strings_Cut,
  c_slices_Contains_int,
  c_desk_number,
  c_slices_IndexFunc_desk_counted,
  c_desk_keeper_fix_c1,
  c_desk_factOf,
  c_desk_world_add,
  c_mix_isName,
  c_mix_vessel,
  c_mix_within,
  c_mix_alone,
  c_mix_takes,
  c_mix_puts,
  c_mix_gases_sum,
  c_mix_store_above,
  c_mix_fresh,
  c_mix_gases_share,
  c_mix_gases_less,
  c_mix_gases_plus,
  c_profile_CheckPlan,
  c_exposure_within,
  c_exposure_up,
  c_slices_IndexFunc_api_DivePlan,
  c_desk_world_plan_c1,
  c_kit_item,
  c_kit_isKind,
  c_kit_isDay,
  c_kit_rule,
  c_kit_within,
  c_gas_CheckLimits,
  c_tissue_within,
  c_tissue_isCompartment,
  c_internal_stringslite_Cut,
  c_slices_Index_int,
  c_mix_ParseFill,
  c_kit_ParseEvent,
  c_profile_ParsePlanLine,
  c_desk_diveOf,
  c_profile_ParsePoints,
  c_desk_less,
  c_desk_world_vessel,
  c_desk_with_api_MixContent,
  c_slices_IndexFunc_api_MixVessel,
  c_mix_vessel_c1,
  c_gas_CheckGas,
  c_slices_SortStableFunc_int,
  c_mix_gases_share_c1,
  c_cmp_Compare_int,
  c_profile_isName,
  c_profile_within,
  c_kit_find_api_KitItem,
  c_kit_item_c1,
  c_kit_find_api_KitRule,
  c_kit_rule_c1,
  c_gas_first,
  c_gas_bound,
  c_mix_fillOf,
  c_profile_numbers,
  c_profile_check,
  c_profile_CheckPoints,
  c_desk_world_vessel_c1,
  c_slices_Clip_api_MixContent,
  c_slices_stableCmpFunc_int,
  c_cmp_isNaN_int,
  c_slices_IndexFunc_api_KitItem,
  c_slices_IndexFunc_api_KitRule,
  c_gas_within,
  c_mix_number,
  c_slices_insertionSortCmpFunc_int,
  c_slices_symMergeCmpFunc_int,
  c_slices_rotateCmpFunc_int,
  c_slices_swapRangeCmpFunc_int,
  c_desk_fillFact_add,
  c_desk_world_fill,
  c_mix_AddFill,
  c_mix_Contents,
  c_desk_kitFact_add,
  c_desk_world_event,
  c_kit_AddEvent,
  c_kit_more,
  c_kit_follow,
  c_desk_planFact_add,
  c_desk_with_api_DivePlan,
  c_slices_Clip_api_DivePlan,
  c_desk_recordFact_add,
  c_desk_world_record,
  c_desk_with_api_DeskRecord,
  c_slices_IndexFunc_api_DeskRecord,
  c_desk_world_record_c1,
  c_slices_Clip_api_DeskRecord,
  c_desk_signFact_add,
  c_slices_Contains_api_DeskSign,
  c_desk_with_api_DeskSign,
  c_slices_Index_api_DeskSign,
  c_slices_Clip_api_DeskSign,
  c_desk_diveFact_add,
  c_desk_world_checkDive,
  c_desk_with_api_MixContent_299,
  c_slices_ContainsFunc_api_KitItem,
  c_desk_diveFact_add_c1,
  c_desk_with_api_DeskDive,
  c_slices_Contains_string,
  c_desk_world_span,
  c_slices_Clip_api_MixContent_305,
  c_slices_Clip_api_DeskDive,
  c_slices_Index_string,
  c_profile_PlanSeconds,
  c_profile_trackOf,
  c_profile_track_end, trivial⟩
theorem fnOK : FnOK Tryz.prog gl C := fun _ _ _ h => lookF_ok fnsOK h
theorem lh_base_Decimal_1 (n : Nat) (e : Env) (f : Fr) (m : Mem) : den C l_base_Decimal_1 ⟨tmOf n e, f :: m⟩ = headL C l_base_Decimal_1 n (keepE e [0,3,4]) f m := head_of rfl n e f m
theorem ls_base_Decimal_1 (n : Nat) (e : Env) (f : Fr) (m : Mem) : headL C l_base_Decimal_1 n e f m = andThen (den C b_base_Decimal_1 ⟨tmOf n (keepE e [0,3,4]), f :: m⟩) (den C l_base_Decimal_1) := head_step rfl n e f m
theorem lh_ref10_Recover_1 (n : Nat) (e : Env) (f : Fr) (m : Mem) (h : freeEnv m.length [[17]] (keepE e [4,5,6,7,8]) (f.drop [[17]]) = true) : den C l_ref10_Recover_1 ⟨tmOf n e, f :: m⟩ = headL C l_ref10_Recover_1 n (keepE e [4,5,6,7,8]) (f.drop [[17]]) m := headd_of rfl n e f m h
theorem ls_ref10_Recover_1 (n : Nat) (e : Env) (f : Fr) (m : Mem) (h : freeEnv m.length [[17]] (keepE e [4,5,6,7,8]) (f.drop [[17]]) = true) : headL C l_ref10_Recover_1 n e f m = andThen (den C b_ref10_Recover_1 ⟨tmOf n (keepE e [4,5,6,7,8]), f.drop [[17]] :: m⟩) (den C l_ref10_Recover_1) := headd_step rfl n e f m h
theorem lh_law10_entries_1 (n : Nat) (e : Env) (f : Fr) (m : Mem) : den C l_law10_entries_1 ⟨tmOf n e, f :: m⟩ = headL C l_law10_entries_1 n (keepE e [0,1,5]) f m := head_of rfl n e f m
theorem ls_law10_entries_1 (n : Nat) (e : Env) (f : Fr) (m : Mem) : headL C l_law10_entries_1 n e f m = andThen (den C b_law10_entries_1 ⟨tmOf n (keepE e [0,1,5]), f :: m⟩) (den C l_law10_entries_1) := head_step rfl n e f m
theorem lh_base_Ints_1 (n : Nat) (e : Env) (f : Fr) (m : Mem) : den C l_base_Ints_1 ⟨tmOf n e, f :: m⟩ = headL C l_base_Ints_1 n (keepE e [0,1,5]) f m := head_of rfl n e f m
theorem ls_base_Ints_1 (n : Nat) (e : Env) (f : Fr) (m : Mem) : headL C l_base_Ints_1 n e f m = andThen (den C b_base_Ints_1 ⟨tmOf n (keepE e [0,1,5]), f :: m⟩) (den C l_base_Ints_1) := head_step rfl n e f m
theorem lh_desk_open_1 (n : Nat) (e : Env) (f : Fr) (m : Mem) (h : freeEnv m.length [[10]] (keepE e [1,7,25,26,27]) (f.drop [[10]]) = true) : den C l_desk_open_1 ⟨tmOf n e, f :: m⟩ = headL C l_desk_open_1 n (keepE e [1,7,25,26,27]) (f.drop [[10]]) m := headd_of rfl n e f m h
theorem ls_desk_open_1 (n : Nat) (e : Env) (f : Fr) (m : Mem) (h : freeEnv m.length [[10]] (keepE e [1,7,25,26,27]) (f.drop [[10]]) = true) : headL C l_desk_open_1 n e f m = andThen (den C b_desk_open_1 ⟨tmOf n (keepE e [1,7,25,26,27]), f.drop [[10]] :: m⟩) (den C l_desk_open_1) := headd_step rfl n e f m h
theorem lh_desk_seal_1 (n : Nat) (e : Env) (f : Fr) (m : Mem) : den C l_desk_seal_1 ⟨tmOf n e, f :: m⟩ = headL C l_desk_seal_1 n (keepE e [0,5,14,15]) f m := head_of rfl n e f m
theorem ls_desk_seal_1 (n : Nat) (e : Env) (f : Fr) (m : Mem) : headL C l_desk_seal_1 n e f m = andThen (den C b_desk_seal_1 ⟨tmOf n (keepE e [0,5,14,15]), f :: m⟩) (den C l_desk_seal_1) := head_step rfl n e f m
theorem lh_desk_isName_1 (n : Nat) (e : Env) (f : Fr) (m : Mem) : den C l_desk_isName_1 ⟨tmOf n e, f :: m⟩ = headL C l_desk_isName_1 n (keepE e [0,6,7]) f m := head_of rfl n e f m
theorem ls_desk_isName_1 (n : Nat) (e : Env) (f : Fr) (m : Mem) : headL C l_desk_isName_1 n e f m = andThen (den C b_desk_isName_1 ⟨tmOf n (keepE e [0,6,7]), f :: m⟩) (den C l_desk_isName_1) := head_step rfl n e f m
theorem lh_base_Cut_1 (n : Nat) (e : Env) (f : Fr) (m : Mem) : den C l_base_Cut_1 ⟨tmOf n e, f :: m⟩ = headL C l_base_Cut_1 n (keepE e [0,1,5,6,7]) f m := head_of rfl n e f m
theorem ls_base_Cut_1 (n : Nat) (e : Env) (f : Fr) (m : Mem) : headL C l_base_Cut_1 n e f m = andThen (den C b_base_Cut_1 ⟨tmOf n (keepE e [0,1,5,6,7]), f :: m⟩) (den C l_base_Cut_1) := head_step rfl n e f m
theorem lh_ref10_head_1 (n : Nat) (e : Env) (f : Fr) (m : Mem) : den C l_ref10_head_1 ⟨tmOf n e, f :: m⟩ = headL C l_ref10_head_1 n (keepE e [0,5]) f m := head_of rfl n e f m
theorem ls_ref10_head_1 (n : Nat) (e : Env) (f : Fr) (m : Mem) : headL C l_ref10_head_1 n e f m = andThen (den C b_ref10_head_1 ⟨tmOf n (keepE e [0,5]), f :: m⟩) (den C l_ref10_head_1) := head_step rfl n e f m
theorem lh_base_IsName_1 (n : Nat) (e : Env) (f : Fr) (m : Mem) : den C l_base_IsName_1 ⟨tmOf n e, f :: m⟩ = headL C l_base_IsName_1 n (keepE e [0,3]) f m := head_of rfl n e f m
theorem ls_base_IsName_1 (n : Nat) (e : Env) (f : Fr) (m : Mem) : headL C l_base_IsName_1 n e f m = andThen (den C b_base_IsName_1 ⟨tmOf n (keepE e [0,3]), f :: m⟩) (den C l_base_IsName_1) := head_step rfl n e f m
theorem lh_ref10_seal_1 (n : Nat) (e : Env) (f : Fr) (m : Mem) : den C l_ref10_seal_1 ⟨tmOf n e, f :: m⟩ = headL C l_ref10_seal_1 n (keepE e [0,5,6]) f m := head_of rfl n e f m
theorem ls_ref10_seal_1 (n : Nat) (e : Env) (f : Fr) (m : Mem) : headL C l_ref10_seal_1 n e f m = andThen (den C b_ref10_seal_1 ⟨tmOf n (keepE e [0,5,6]), f :: m⟩) (den C l_ref10_seal_1) := head_step rfl n e f m
theorem lh_desk_seals_1 (n : Nat) (e : Env) (f : Fr) (m : Mem) (h : freeEnv m.length [[7]] (keepE e [4,5,11,12,13]) (f.drop [[7]]) = true) : den C l_desk_seals_1 ⟨tmOf n e, f :: m⟩ = headL C l_desk_seals_1 n (keepE e [4,5,11,12,13]) (f.drop [[7]]) m := headd_of rfl n e f m h
theorem ls_desk_seals_1 (n : Nat) (e : Env) (f : Fr) (m : Mem) (h : freeEnv m.length [[7]] (keepE e [4,5,11,12,13]) (f.drop [[7]]) = true) : headL C l_desk_seals_1 n e f m = andThen (den C b_desk_seals_1 ⟨tmOf n (keepE e [4,5,11,12,13]), f.drop [[7]] :: m⟩) (den C l_desk_seals_1) := headd_step rfl n e f m h
theorem lh_desk_total_1 (n : Nat) (e : Env) (f : Fr) (m : Mem) (h : freeEnv m.length [[5]] (keepE e [2,3,6,7,8]) (f.drop [[5]]) = true) : den C l_desk_total_1 ⟨tmOf n e, f :: m⟩ = headL C l_desk_total_1 n (keepE e [2,3,6,7,8]) (f.drop [[5]]) m := headd_of rfl n e f m h
theorem ls_desk_total_1 (n : Nat) (e : Env) (f : Fr) (m : Mem) (h : freeEnv m.length [[5]] (keepE e [2,3,6,7,8]) (f.drop [[5]]) = true) : headL C l_desk_total_1 n e f m = andThen (den C b_desk_total_1 ⟨tmOf n (keepE e [2,3,6,7,8]), f.drop [[5]] :: m⟩) (den C l_desk_total_1) := headd_step rfl n e f m h
theorem lh_mix_read_1 (n : Nat) (e : Env) (f : Fr) (m : Mem) (h : freeEnv m.length [[10]] (keepE e [8,26,27,28]) (f.drop [[10]]) = true) : den C l_mix_read_1 ⟨tmOf n e, f :: m⟩ = headL C l_mix_read_1 n (keepE e [8,26,27,28]) (f.drop [[10]]) m := headd_of rfl n e f m h
theorem ls_mix_read_1 (n : Nat) (e : Env) (f : Fr) (m : Mem) (h : freeEnv m.length [[10]] (keepE e [8,26,27,28]) (f.drop [[10]]) = true) : headL C l_mix_read_1 n e f m = andThen (den C b_mix_read_1 ⟨tmOf n (keepE e [8,26,27,28]), f.drop [[10]] :: m⟩) (den C l_mix_read_1) := headd_step rfl n e f m h
theorem lh_exposure_Consumed_1 (n : Nat) (e : Env) (f : Fr) (m : Mem) (h : freeEnv m.length [[9]] (keepE e [1,7,23,24,25]) (f.drop [[9]]) = true) : den C l_exposure_Consumed_1 ⟨tmOf n e, f :: m⟩ = headL C l_exposure_Consumed_1 n (keepE e [1,7,23,24,25]) (f.drop [[9]]) m := headd_of rfl n e f m h
theorem ls_exposure_Consumed_1 (n : Nat) (e : Env) (f : Fr) (m : Mem) (h : freeEnv m.length [[9]] (keepE e [1,7,23,24,25]) (f.drop [[9]]) = true) : headL C l_exposure_Consumed_1 n e f m = andThen (den C b_exposure_Consumed_1 ⟨tmOf n (keepE e [1,7,23,24,25]), f.drop [[9]] :: m⟩) (den C l_exposure_Consumed_1) := headd_step rfl n e f m h
theorem lh_desk_CheckDesk_1 (n : Nat) (e : Env) (f : Fr) (m : Mem) (h : freeEnv m.length [[6]] (keepE e [1,25,26,27]) (f.drop [[6]]) = true) : den C l_desk_CheckDesk_1 ⟨tmOf n e, f :: m⟩ = headL C l_desk_CheckDesk_1 n (keepE e [1,25,26,27]) (f.drop [[6]]) m := headd_of rfl n e f m h
theorem ls_desk_CheckDesk_1 (n : Nat) (e : Env) (f : Fr) (m : Mem) (h : freeEnv m.length [[6]] (keepE e [1,25,26,27]) (f.drop [[6]]) = true) : headL C l_desk_CheckDesk_1 n e f m = andThen (den C b_desk_CheckDesk_1 ⟨tmOf n (keepE e [1,25,26,27]), f.drop [[6]] :: m⟩) (den C l_desk_CheckDesk_1) := headd_step rfl n e f m h
theorem lh_desk_keeper_fix_1 (n : Nat) (e : Env) (f : Fr) (m : Mem) (h : freeEnv m.length [[19]] (keepE e [0,16,17,123,124,125]) (f.drop [[19]]) = true) : den C l_desk_keeper_fix_1 ⟨tmOf n e, f :: m⟩ = headL C l_desk_keeper_fix_1 n (keepE e [0,16,17,123,124,125]) (f.drop [[19]]) m := headd_of rfl n e f m h
theorem ls_desk_keeper_fix_1 (n : Nat) (e : Env) (f : Fr) (m : Mem) (h : freeEnv m.length [[19]] (keepE e [0,16,17,123,124,125]) (f.drop [[19]]) = true) : headL C l_desk_keeper_fix_1 n e f m = andThen (den C b_desk_keeper_fix_1 ⟨tmOf n (keepE e [0,16,17,123,124,125]), f.drop [[19]] :: m⟩) (den C l_desk_keeper_fix_1) := headd_step rfl n e f m h
theorem lh_mix_CheckVessels_1 (n : Nat) (e : Env) (f : Fr) (m : Mem) (h : freeEnv m.length [[4]] (keepE e [0,8,9,10]) (f.drop [[4]]) = true) : den C l_mix_CheckVessels_1 ⟨tmOf n e, f :: m⟩ = headL C l_mix_CheckVessels_1 n (keepE e [0,8,9,10]) (f.drop [[4]]) m := headd_of rfl n e f m h
theorem ls_mix_CheckVessels_1 (n : Nat) (e : Env) (f : Fr) (m : Mem) (h : freeEnv m.length [[4]] (keepE e [0,8,9,10]) (f.drop [[4]]) = true) : headL C l_mix_CheckVessels_1 n e f m = andThen (den C b_mix_CheckVessels_1 ⟨tmOf n (keepE e [0,8,9,10]), f.drop [[4]] :: m⟩) (den C l_mix_CheckVessels_1) := headd_step rfl n e f m h
theorem lh_slices_IndexFunc_api_DeskDive_1 (n : Nat) (e : Env) (f : Fr) (m : Mem) : den C l_slices_IndexFunc_api_DeskDive_1 ⟨tmOf n e, f :: m⟩ = headL C l_slices_IndexFunc_api_DeskDive_1 n (keepE e [0,1,7,8]) f m := head_of rfl n e f m
theorem ls_slices_IndexFunc_api_DeskDive_1 (n : Nat) (e : Env) (f : Fr) (m : Mem) : headL C l_slices_IndexFunc_api_DeskDive_1 n e f m = andThen (den C b_slices_IndexFunc_api_DeskDive_1 ⟨tmOf n (keepE e [0,1,7,8]), f :: m⟩) (den C l_slices_IndexFunc_api_DeskDive_1) := head_step rfl n e f m
theorem lh_exposure_legs_1 (n : Nat) (e : Env) (f : Fr) (m : Mem) (h : freeEnv m.length [[7]] (keepE e [1,3,4,5,11,12,13]) (f.drop [[7]]) = true) : den C l_exposure_legs_1 ⟨tmOf n e, f :: m⟩ = headL C l_exposure_legs_1 n (keepE e [1,3,4,5,11,12,13]) (f.drop [[7]]) m := headd_of rfl n e f m h
theorem ls_exposure_legs_1 (n : Nat) (e : Env) (f : Fr) (m : Mem) (h : freeEnv m.length [[7]] (keepE e [1,3,4,5,11,12,13]) (f.drop [[7]]) = true) : headL C l_exposure_legs_1 n e f m = andThen (den C b_exposure_legs_1 ⟨tmOf n (keepE e [1,3,4,5,11,12,13]), f.drop [[7]] :: m⟩) (den C l_exposure_legs_1) := headd_step rfl n e f m h
theorem lh_kit_CheckSetup_1 (n : Nat) (e : Env) (f : Fr) (m : Mem) (h : freeEnv m.length [[6]] (keepE e [1,47,48,49]) (f.drop [[6]]) = true) : den C l_kit_CheckSetup_1 ⟨tmOf n e, f :: m⟩ = headL C l_kit_CheckSetup_1 n (keepE e [1,47,48,49]) (f.drop [[6]]) m := headd_of rfl n e f m h
theorem ls_kit_CheckSetup_1 (n : Nat) (e : Env) (f : Fr) (m : Mem) (h : freeEnv m.length [[6]] (keepE e [1,47,48,49]) (f.drop [[6]]) = true) : headL C l_kit_CheckSetup_1 n e f m = andThen (den C b_kit_CheckSetup_1 ⟨tmOf n (keepE e [1,47,48,49]), f.drop [[6]] :: m⟩) (den C l_kit_CheckSetup_1) := headd_step rfl n e f m h
theorem lh_kit_CheckSetup_2 (n : Nat) (e : Env) (f : Fr) (m : Mem) (h : freeEnv m.length [[4]] (keepE e [1,12,13,14]) (f.drop [[4]]) = true) : den C l_kit_CheckSetup_2 ⟨tmOf n e, f :: m⟩ = headL C l_kit_CheckSetup_2 n (keepE e [1,12,13,14]) (f.drop [[4]]) m := headd_of rfl n e f m h
theorem ls_kit_CheckSetup_2 (n : Nat) (e : Env) (f : Fr) (m : Mem) (h : freeEnv m.length [[4]] (keepE e [1,12,13,14]) (f.drop [[4]]) = true) : headL C l_kit_CheckSetup_2 n e f m = andThen (den C b_kit_CheckSetup_2 ⟨tmOf n (keepE e [1,12,13,14]), f.drop [[4]] :: m⟩) (den C l_kit_CheckSetup_2) := headd_step rfl n e f m h
theorem lh_exposure_CheckRules_1 (n : Nat) (e : Env) (f : Fr) (m : Mem) (h : freeEnv m.length [[4]] (keepE e [1,11,12,13]) (f.drop [[4]]) = true) : den C l_exposure_CheckRules_1 ⟨tmOf n e, f :: m⟩ = headL C l_exposure_CheckRules_1 n (keepE e [1,11,12,13]) (f.drop [[4]]) m := headd_of rfl n e f m h
theorem ls_exposure_CheckRules_1 (n : Nat) (e : Env) (f : Fr) (m : Mem) (h : freeEnv m.length [[4]] (keepE e [1,11,12,13]) (f.drop [[4]]) = true) : headL C l_exposure_CheckRules_1 n e f m = andThen (den C b_exposure_CheckRules_1 ⟨tmOf n (keepE e [1,11,12,13]), f.drop [[4]] :: m⟩) (den C l_exposure_CheckRules_1) := headd_step rfl n e f m h
theorem lh_tissue_CheckTable_1 (n : Nat) (e : Env) (f : Fr) (m : Mem) (h : freeEnv m.length [[4]] (keepE e [9,10,11]) (f.drop [[4]]) = true) : den C l_tissue_CheckTable_1 ⟨tmOf n e, f :: m⟩ = headL C l_tissue_CheckTable_1 n (keepE e [9,10,11]) (f.drop [[4]]) m := headd_of rfl n e f m h
theorem ls_tissue_CheckTable_1 (n : Nat) (e : Env) (f : Fr) (m : Mem) (h : freeEnv m.length [[4]] (keepE e [9,10,11]) (f.drop [[4]]) = true) : headL C l_tissue_CheckTable_1 n e f m = andThen (den C b_tissue_CheckTable_1 ⟨tmOf n (keepE e [9,10,11]), f.drop [[4]] :: m⟩) (den C l_tissue_CheckTable_1) := headd_step rfl n e f m h
theorem lh_slices_IndexFunc_api_DeskPerson_1 (n : Nat) (e : Env) (f : Fr) (m : Mem) : den C l_slices_IndexFunc_api_DeskPerson_1 ⟨tmOf n e, f :: m⟩ = headL C l_slices_IndexFunc_api_DeskPerson_1 n (keepE e [0,1,7,8]) f m := head_of rfl n e f m
theorem ls_slices_IndexFunc_api_DeskPerson_1 (n : Nat) (e : Env) (f : Fr) (m : Mem) : headL C l_slices_IndexFunc_api_DeskPerson_1 n e f m = andThen (den C b_slices_IndexFunc_api_DeskPerson_1 ⟨tmOf n (keepE e [0,1,7,8]), f :: m⟩) (den C l_slices_IndexFunc_api_DeskPerson_1) := head_step rfl n e f m
theorem lh_slices_IndexFunc_desk_counted_1 (n : Nat) (e : Env) (f : Fr) (m : Mem) : den C l_slices_IndexFunc_desk_counted_1 ⟨tmOf n e, f :: m⟩ = headL C l_slices_IndexFunc_desk_counted_1 n (keepE e [0,1,7,8]) f m := head_of rfl n e f m
theorem ls_slices_IndexFunc_desk_counted_1 (n : Nat) (e : Env) (f : Fr) (m : Mem) : headL C l_slices_IndexFunc_desk_counted_1 n e f m = andThen (den C b_slices_IndexFunc_desk_counted_1 ⟨tmOf n (keepE e [0,1,7,8]), f :: m⟩) (den C l_slices_IndexFunc_desk_counted_1) := head_step rfl n e f m
theorem lh_mix_isName_1 (n : Nat) (e : Env) (f : Fr) (m : Mem) : den C l_mix_isName_1 ⟨tmOf n e, f :: m⟩ = headL C l_mix_isName_1 n (keepE e [0,6,7]) f m := head_of rfl n e f m
theorem ls_mix_isName_1 (n : Nat) (e : Env) (f : Fr) (m : Mem) : headL C l_mix_isName_1 n e f m = andThen (den C b_mix_isName_1 ⟨tmOf n (keepE e [0,6,7]), f :: m⟩) (den C l_mix_isName_1) := head_step rfl n e f m
theorem lh_mix_gases_share_1 (n : Nat) (e : Env) (f : Fr) (m : Mem) : den C l_mix_gases_share_1 ⟨tmOf n e, f :: m⟩ = headL C l_mix_gases_share_1 n (keepE e [4,6,49,50,51]) f m := head_of rfl n e f m
theorem ls_mix_gases_share_1 (n : Nat) (e : Env) (f : Fr) (m : Mem) : headL C l_mix_gases_share_1 n e f m = andThen (den C b_mix_gases_share_1 ⟨tmOf n (keepE e [4,6,49,50,51]), f :: m⟩) (den C l_mix_gases_share_1) := head_step rfl n e f m
theorem lh_mix_gases_share_2 (n : Nat) (e : Env) (f : Fr) (m : Mem) : den C l_mix_gases_share_2 ⟨tmOf n e, f :: m⟩ = headL C l_mix_gases_share_2 n (keepE e [1,4,5,6,7,19,20]) f m := head_of rfl n e f m
theorem ls_mix_gases_share_2 (n : Nat) (e : Env) (f : Fr) (m : Mem) : headL C l_mix_gases_share_2 n e f m = andThen (den C b_mix_gases_share_2 ⟨tmOf n (keepE e [1,4,5,6,7,19,20]), f :: m⟩) (den C l_mix_gases_share_2) := head_step rfl n e f m
theorem lh_profile_CheckPlan_1 (n : Nat) (e : Env) (f : Fr) (m : Mem) (h : freeEnv m.length [[9]] (keepE e [1,7,48,49,50]) (f.drop [[9]]) = true) : den C l_profile_CheckPlan_1 ⟨tmOf n e, f :: m⟩ = headL C l_profile_CheckPlan_1 n (keepE e [1,7,48,49,50]) (f.drop [[9]]) m := headd_of rfl n e f m h
theorem ls_profile_CheckPlan_1 (n : Nat) (e : Env) (f : Fr) (m : Mem) (h : freeEnv m.length [[9]] (keepE e [1,7,48,49,50]) (f.drop [[9]]) = true) : headL C l_profile_CheckPlan_1 n e f m = andThen (den C b_profile_CheckPlan_1 ⟨tmOf n (keepE e [1,7,48,49,50]), f.drop [[9]] :: m⟩) (den C l_profile_CheckPlan_1) := headd_step rfl n e f m h
theorem lh_profile_CheckPlan_2 (n : Nat) (e : Env) (f : Fr) (m : Mem) (h : freeEnv m.length [[5]] (keepE e [1,31,32,33]) (f.drop [[5]]) = true) : den C l_profile_CheckPlan_2 ⟨tmOf n e, f :: m⟩ = headL C l_profile_CheckPlan_2 n (keepE e [1,31,32,33]) (f.drop [[5]]) m := headd_of rfl n e f m h
theorem ls_profile_CheckPlan_2 (n : Nat) (e : Env) (f : Fr) (m : Mem) (h : freeEnv m.length [[5]] (keepE e [1,31,32,33]) (f.drop [[5]]) = true) : headL C l_profile_CheckPlan_2 n e f m = andThen (den C b_profile_CheckPlan_2 ⟨tmOf n (keepE e [1,31,32,33]), f.drop [[5]] :: m⟩) (den C l_profile_CheckPlan_2) := headd_step rfl n e f m h
theorem lh_slices_IndexFunc_api_DivePlan_1 (n : Nat) (e : Env) (f : Fr) (m : Mem) : den C l_slices_IndexFunc_api_DivePlan_1 ⟨tmOf n e, f :: m⟩ = headL C l_slices_IndexFunc_api_DivePlan_1 n (keepE e [0,1,7,8]) f m := head_of rfl n e f m
theorem ls_slices_IndexFunc_api_DivePlan_1 (n : Nat) (e : Env) (f : Fr) (m : Mem) : headL C l_slices_IndexFunc_api_DivePlan_1 n e f m = andThen (den C b_slices_IndexFunc_api_DivePlan_1 ⟨tmOf n (keepE e [0,1,7,8]), f :: m⟩) (den C l_slices_IndexFunc_api_DivePlan_1) := head_step rfl n e f m
theorem lh_slices_Index_int_1 (n : Nat) (e : Env) (f : Fr) (m : Mem) : den C l_slices_Index_int_1 ⟨tmOf n e, f :: m⟩ = headL C l_slices_Index_int_1 n (keepE e [0,1,7,8]) f m := head_of rfl n e f m
theorem ls_slices_Index_int_1 (n : Nat) (e : Env) (f : Fr) (m : Mem) : headL C l_slices_Index_int_1 n e f m = andThen (den C b_slices_Index_int_1 ⟨tmOf n (keepE e [0,1,7,8]), f :: m⟩) (den C l_slices_Index_int_1) := head_step rfl n e f m
theorem lh_slices_IndexFunc_api_MixVessel_1 (n : Nat) (e : Env) (f : Fr) (m : Mem) : den C l_slices_IndexFunc_api_MixVessel_1 ⟨tmOf n e, f :: m⟩ = headL C l_slices_IndexFunc_api_MixVessel_1 n (keepE e [0,1,7,8]) f m := head_of rfl n e f m
theorem ls_slices_IndexFunc_api_MixVessel_1 (n : Nat) (e : Env) (f : Fr) (m : Mem) : headL C l_slices_IndexFunc_api_MixVessel_1 n e f m = andThen (den C b_slices_IndexFunc_api_MixVessel_1 ⟨tmOf n (keepE e [0,1,7,8]), f :: m⟩) (den C l_slices_IndexFunc_api_MixVessel_1) := head_step rfl n e f m
theorem lh_profile_isName_1 (n : Nat) (e : Env) (f : Fr) (m : Mem) : den C l_profile_isName_1 ⟨tmOf n e, f :: m⟩ = headL C l_profile_isName_1 n (keepE e [0,6,7]) f m := head_of rfl n e f m
theorem ls_profile_isName_1 (n : Nat) (e : Env) (f : Fr) (m : Mem) : headL C l_profile_isName_1 n e f m = andThen (den C b_profile_isName_1 ⟨tmOf n (keepE e [0,6,7]), f :: m⟩) (den C l_profile_isName_1) := head_step rfl n e f m
theorem lh_gas_first_1 (n : Nat) (e : Env) (f : Fr) (m : Mem) : den C l_gas_first_1 ⟨tmOf n e, f :: m⟩ = headL C l_gas_first_1 n (keepE e [5,6,7]) f m := head_of rfl n e f m
theorem ls_gas_first_1 (n : Nat) (e : Env) (f : Fr) (m : Mem) : headL C l_gas_first_1 n e f m = andThen (den C b_gas_first_1 ⟨tmOf n (keepE e [5,6,7]), f :: m⟩) (den C l_gas_first_1) := head_step rfl n e f m
theorem lh_profile_numbers_1 (n : Nat) (e : Env) (f : Fr) (m : Mem) : den C l_profile_numbers_1 ⟨tmOf n e, f :: m⟩ = headL C l_profile_numbers_1 n (keepE e [4,9,10,11]) f m := head_of rfl n e f m
theorem ls_profile_numbers_1 (n : Nat) (e : Env) (f : Fr) (m : Mem) : headL C l_profile_numbers_1 n e f m = andThen (den C b_profile_numbers_1 ⟨tmOf n (keepE e [4,9,10,11]), f :: m⟩) (den C l_profile_numbers_1) := head_step rfl n e f m
theorem lh_profile_check_1 (n : Nat) (e : Env) (f : Fr) (m : Mem) (h : freeEnv m.length [[4]] (keepE e [7,8,9]) (f.drop [[4]]) = true) : den C l_profile_check_1 ⟨tmOf n e, f :: m⟩ = headL C l_profile_check_1 n (keepE e [7,8,9]) (f.drop [[4]]) m := headd_of rfl n e f m h
theorem ls_profile_check_1 (n : Nat) (e : Env) (f : Fr) (m : Mem) (h : freeEnv m.length [[4]] (keepE e [7,8,9]) (f.drop [[4]]) = true) : headL C l_profile_check_1 n e f m = andThen (den C b_profile_check_1 ⟨tmOf n (keepE e [7,8,9]), f.drop [[4]] :: m⟩) (den C l_profile_check_1) := headd_step rfl n e f m h
theorem lh_profile_CheckPoints_1 (n : Nat) (e : Env) (f : Fr) (m : Mem) (h : freeEnv m.length [[4]] (keepE e [0,13,14,15]) (f.drop [[4]]) = true) : den C l_profile_CheckPoints_1 ⟨tmOf n e, f :: m⟩ = headL C l_profile_CheckPoints_1 n (keepE e [0,13,14,15]) (f.drop [[4]]) m := headd_of rfl n e f m h
theorem ls_profile_CheckPoints_1 (n : Nat) (e : Env) (f : Fr) (m : Mem) (h : freeEnv m.length [[4]] (keepE e [0,13,14,15]) (f.drop [[4]]) = true) : headL C l_profile_CheckPoints_1 n e f m = andThen (den C b_profile_CheckPoints_1 ⟨tmOf n (keepE e [0,13,14,15]), f.drop [[4]] :: m⟩) (den C l_profile_CheckPoints_1) := headd_step rfl n e f m h
theorem lh_slices_stableCmpFunc_int_1 (n : Nat) (e : Env) (f : Fr) (m : Mem) : den C l_slices_stableCmpFunc_int_1 ⟨tmOf n e, f :: m⟩ = headL C l_slices_stableCmpFunc_int_1 n (keepE e [0,1,2,6,7,8]) f m := head_of rfl n e f m
theorem ls_slices_stableCmpFunc_int_1 (n : Nat) (e : Env) (f : Fr) (m : Mem) : headL C l_slices_stableCmpFunc_int_1 n e f m = andThen (den C b_slices_stableCmpFunc_int_1 ⟨tmOf n (keepE e [0,1,2,6,7,8]), f :: m⟩) (den C l_slices_stableCmpFunc_int_1) := head_step rfl n e f m
theorem lh_slices_stableCmpFunc_int_2 (n : Nat) (e : Env) (f : Fr) (m : Mem) : den C l_slices_stableCmpFunc_int_2 ⟨tmOf n e, f :: m⟩ = headL C l_slices_stableCmpFunc_int_2 n (keepE e [0,1,2,6]) f m := head_of rfl n e f m
theorem ls_slices_stableCmpFunc_int_2 (n : Nat) (e : Env) (f : Fr) (m : Mem) : headL C l_slices_stableCmpFunc_int_2 n e f m = andThen (den C b_slices_stableCmpFunc_int_2 ⟨tmOf n (keepE e [0,1,2,6]), f :: m⟩) (den C l_slices_stableCmpFunc_int_2) := head_step rfl n e f m
theorem lh_slices_stableCmpFunc_int_3 (n : Nat) (e : Env) (f : Fr) (m : Mem) : den C l_slices_stableCmpFunc_int_3 ⟨tmOf n e, f :: m⟩ = headL C l_slices_stableCmpFunc_int_3 n (keepE e [0,1,2,6,7,8]) f m := head_of rfl n e f m
theorem ls_slices_stableCmpFunc_int_3 (n : Nat) (e : Env) (f : Fr) (m : Mem) : headL C l_slices_stableCmpFunc_int_3 n e f m = andThen (den C b_slices_stableCmpFunc_int_3 ⟨tmOf n (keepE e [0,1,2,6,7,8]), f :: m⟩) (den C l_slices_stableCmpFunc_int_3) := head_step rfl n e f m
theorem lh_slices_IndexFunc_api_KitItem_1 (n : Nat) (e : Env) (f : Fr) (m : Mem) : den C l_slices_IndexFunc_api_KitItem_1 ⟨tmOf n e, f :: m⟩ = headL C l_slices_IndexFunc_api_KitItem_1 n (keepE e [0,1,7,8]) f m := head_of rfl n e f m
theorem ls_slices_IndexFunc_api_KitItem_1 (n : Nat) (e : Env) (f : Fr) (m : Mem) : headL C l_slices_IndexFunc_api_KitItem_1 n e f m = andThen (den C b_slices_IndexFunc_api_KitItem_1 ⟨tmOf n (keepE e [0,1,7,8]), f :: m⟩) (den C l_slices_IndexFunc_api_KitItem_1) := head_step rfl n e f m
theorem lh_slices_IndexFunc_api_KitRule_1 (n : Nat) (e : Env) (f : Fr) (m : Mem) : den C l_slices_IndexFunc_api_KitRule_1 ⟨tmOf n e, f :: m⟩ = headL C l_slices_IndexFunc_api_KitRule_1 n (keepE e [0,1,7,8]) f m := head_of rfl n e f m
theorem ls_slices_IndexFunc_api_KitRule_1 (n : Nat) (e : Env) (f : Fr) (m : Mem) : headL C l_slices_IndexFunc_api_KitRule_1 n e f m = andThen (den C b_slices_IndexFunc_api_KitRule_1 ⟨tmOf n (keepE e [0,1,7,8]), f :: m⟩) (den C l_slices_IndexFunc_api_KitRule_1) := head_step rfl n e f m
theorem lh_slices_insertionSortCmpFunc_int_1 (n : Nat) (e : Env) (f : Fr) (m : Mem) : den C l_slices_insertionSortCmpFunc_int_1 ⟨tmOf n e, f :: m⟩ = headL C l_slices_insertionSortCmpFunc_int_1 n (keepE e [0,1,2,3,8,9]) f m := head_of rfl n e f m
theorem ls_slices_insertionSortCmpFunc_int_1 (n : Nat) (e : Env) (f : Fr) (m : Mem) : headL C l_slices_insertionSortCmpFunc_int_1 n e f m = andThen (den C b_slices_insertionSortCmpFunc_int_1 ⟨tmOf n (keepE e [0,1,2,3,8,9]), f :: m⟩) (den C l_slices_insertionSortCmpFunc_int_1) := head_step rfl n e f m
theorem lh_slices_insertionSortCmpFunc_int_2 (n : Nat) (e : Env) (f : Fr) (m : Mem) : den C l_slices_insertionSortCmpFunc_int_2 ⟨tmOf n e, f :: m⟩ = headL C l_slices_insertionSortCmpFunc_int_2 n (keepE e [0,1,2,3,8]) f m := head_of rfl n e f m
theorem ls_slices_insertionSortCmpFunc_int_2 (n : Nat) (e : Env) (f : Fr) (m : Mem) : headL C l_slices_insertionSortCmpFunc_int_2 n e f m = andThen (den C b_slices_insertionSortCmpFunc_int_2 ⟨tmOf n (keepE e [0,1,2,3,8]), f :: m⟩) (den C l_slices_insertionSortCmpFunc_int_2) := head_step rfl n e f m
theorem lh_slices_symMergeCmpFunc_int_1 (n : Nat) (e : Env) (f : Fr) (m : Mem) : den C l_slices_symMergeCmpFunc_int_1 ⟨tmOf n e, f :: m⟩ = headL C l_slices_symMergeCmpFunc_int_1 n (keepE e [0,1,2,3,4,18,19,20,21,22]) f m := head_of rfl n e f m
theorem ls_slices_symMergeCmpFunc_int_1 (n : Nat) (e : Env) (f : Fr) (m : Mem) : headL C l_slices_symMergeCmpFunc_int_1 n e f m = andThen (den C b_slices_symMergeCmpFunc_int_1 ⟨tmOf n (keepE e [0,1,2,3,4,18,19,20,21,22]), f :: m⟩) (den C l_slices_symMergeCmpFunc_int_1) := head_step rfl n e f m
theorem lh_slices_symMergeCmpFunc_int_2 (n : Nat) (e : Env) (f : Fr) (m : Mem) : den C l_slices_symMergeCmpFunc_int_2 ⟨tmOf n e, f :: m⟩ = headL C l_slices_symMergeCmpFunc_int_2 n (keepE e [0,14,17]) f m := head_of rfl n e f m
theorem ls_slices_symMergeCmpFunc_int_2 (n : Nat) (e : Env) (f : Fr) (m : Mem) : headL C l_slices_symMergeCmpFunc_int_2 n e f m = andThen (den C b_slices_symMergeCmpFunc_int_2 ⟨tmOf n (keepE e [0,14,17]), f :: m⟩) (den C l_slices_symMergeCmpFunc_int_2) := head_step rfl n e f m
theorem lh_slices_symMergeCmpFunc_int_3 (n : Nat) (e : Env) (f : Fr) (m : Mem) : den C l_slices_symMergeCmpFunc_int_3 ⟨tmOf n e, f :: m⟩ = headL C l_slices_symMergeCmpFunc_int_3 n (keepE e [0,2,4,14,15]) f m := head_of rfl n e f m
theorem ls_slices_symMergeCmpFunc_int_3 (n : Nat) (e : Env) (f : Fr) (m : Mem) : headL C l_slices_symMergeCmpFunc_int_3 n e f m = andThen (den C b_slices_symMergeCmpFunc_int_3 ⟨tmOf n (keepE e [0,2,4,14,15]), f :: m⟩) (den C l_slices_symMergeCmpFunc_int_3) := head_step rfl n e f m
theorem lh_slices_symMergeCmpFunc_int_4 (n : Nat) (e : Env) (f : Fr) (m : Mem) : den C l_slices_symMergeCmpFunc_int_4 ⟨tmOf n e, f :: m⟩ = headL C l_slices_symMergeCmpFunc_int_4 n (keepE e [0,10,13]) f m := head_of rfl n e f m
theorem ls_slices_symMergeCmpFunc_int_4 (n : Nat) (e : Env) (f : Fr) (m : Mem) : headL C l_slices_symMergeCmpFunc_int_4 n e f m = andThen (den C b_slices_symMergeCmpFunc_int_4 ⟨tmOf n (keepE e [0,10,13]), f :: m⟩) (den C l_slices_symMergeCmpFunc_int_4) := head_step rfl n e f m
theorem lh_slices_symMergeCmpFunc_int_5 (n : Nat) (e : Env) (f : Fr) (m : Mem) : den C l_slices_symMergeCmpFunc_int_5 ⟨tmOf n e, f :: m⟩ = headL C l_slices_symMergeCmpFunc_int_5 n (keepE e [0,1,4,10,11]) f m := head_of rfl n e f m
theorem ls_slices_symMergeCmpFunc_int_5 (n : Nat) (e : Env) (f : Fr) (m : Mem) : headL C l_slices_symMergeCmpFunc_int_5 n e f m = andThen (den C b_slices_symMergeCmpFunc_int_5 ⟨tmOf n (keepE e [0,1,4,10,11]), f :: m⟩) (den C l_slices_symMergeCmpFunc_int_5) := head_step rfl n e f m
theorem lh_slices_rotateCmpFunc_int_1 (n : Nat) (e : Env) (f : Fr) (m : Mem) : den C l_slices_rotateCmpFunc_int_1 ⟨tmOf n e, f :: m⟩ = headL C l_slices_rotateCmpFunc_int_1 n (keepE e [0,2,4,10,11]) f m := head_of rfl n e f m
theorem ls_slices_rotateCmpFunc_int_1 (n : Nat) (e : Env) (f : Fr) (m : Mem) : headL C l_slices_rotateCmpFunc_int_1 n e f m = andThen (den C b_slices_rotateCmpFunc_int_1 ⟨tmOf n (keepE e [0,2,4,10,11]), f :: m⟩) (den C l_slices_rotateCmpFunc_int_1) := head_step rfl n e f m
theorem lh_slices_swapRangeCmpFunc_int_1 (n : Nat) (e : Env) (f : Fr) (m : Mem) : den C l_slices_swapRangeCmpFunc_int_1 ⟨tmOf n e, f :: m⟩ = headL C l_slices_swapRangeCmpFunc_int_1 n (keepE e [0,1,2,3,10]) f m := head_of rfl n e f m
theorem ls_slices_swapRangeCmpFunc_int_1 (n : Nat) (e : Env) (f : Fr) (m : Mem) : headL C l_slices_swapRangeCmpFunc_int_1 n e f m = andThen (den C b_slices_swapRangeCmpFunc_int_1 ⟨tmOf n (keepE e [0,1,2,3,10]), f :: m⟩) (den C l_slices_swapRangeCmpFunc_int_1) := head_step rfl n e f m
theorem lh_mix_Contents_1 (n : Nat) (e : Env) (f : Fr) (m : Mem) (h : freeEnv m.length [[11]] (keepE e [9,25,26,27]) (f.drop [[11]]) = true) : den C l_mix_Contents_1 ⟨tmOf n e, f :: m⟩ = headL C l_mix_Contents_1 n (keepE e [9,25,26,27]) (f.drop [[11]]) m := headd_of rfl n e f m h
theorem ls_mix_Contents_1 (n : Nat) (e : Env) (f : Fr) (m : Mem) (h : freeEnv m.length [[11]] (keepE e [9,25,26,27]) (f.drop [[11]]) = true) : headL C l_mix_Contents_1 n e f m = andThen (den C b_mix_Contents_1 ⟨tmOf n (keepE e [9,25,26,27]), f.drop [[11]] :: m⟩) (den C l_mix_Contents_1) := headd_step rfl n e f m h
theorem lh_kit_follow_1 (n : Nat) (e : Env) (f : Fr) (m : Mem) (h : freeEnv m.length [[10]] (keepE e [8,22,23,24]) (f.drop [[10]]) = true) : den C l_kit_follow_1 ⟨tmOf n e, f :: m⟩ = headL C l_kit_follow_1 n (keepE e [8,22,23,24]) (f.drop [[10]]) m := headd_of rfl n e f m h
theorem ls_kit_follow_1 (n : Nat) (e : Env) (f : Fr) (m : Mem) (h : freeEnv m.length [[10]] (keepE e [8,22,23,24]) (f.drop [[10]]) = true) : headL C l_kit_follow_1 n e f m = andThen (den C b_kit_follow_1 ⟨tmOf n (keepE e [8,22,23,24]), f.drop [[10]] :: m⟩) (den C l_kit_follow_1) := headd_step rfl n e f m h
theorem lh_slices_IndexFunc_api_DeskRecord_1 (n : Nat) (e : Env) (f : Fr) (m : Mem) : den C l_slices_IndexFunc_api_DeskRecord_1 ⟨tmOf n e, f :: m⟩ = headL C l_slices_IndexFunc_api_DeskRecord_1 n (keepE e [0,1,7,8]) f m := head_of rfl n e f m
theorem ls_slices_IndexFunc_api_DeskRecord_1 (n : Nat) (e : Env) (f : Fr) (m : Mem) : headL C l_slices_IndexFunc_api_DeskRecord_1 n e f m = andThen (den C b_slices_IndexFunc_api_DeskRecord_1 ⟨tmOf n (keepE e [0,1,7,8]), f :: m⟩) (den C l_slices_IndexFunc_api_DeskRecord_1) := head_step rfl n e f m
theorem lh_slices_Index_api_DeskSign_1 (n : Nat) (e : Env) (f : Fr) (m : Mem) : den C l_slices_Index_api_DeskSign_1 ⟨tmOf n e, f :: m⟩ = headL C l_slices_Index_api_DeskSign_1 n (keepE e [0,3,7,8]) f m := head_of rfl n e f m
theorem ls_slices_Index_api_DeskSign_1 (n : Nat) (e : Env) (f : Fr) (m : Mem) : headL C l_slices_Index_api_DeskSign_1 n e f m = andThen (den C b_slices_Index_api_DeskSign_1 ⟨tmOf n (keepE e [0,3,7,8]), f :: m⟩) (den C l_slices_Index_api_DeskSign_1) := head_step rfl n e f m
theorem lh_desk_diveFact_add_1 (n : Nat) (e : Env) (f : Fr) (m : Mem) (h : freeEnv m.length [[12]] (keepE e [1,7,9,54,55,56]) (f.drop [[12]]) = true) : den C l_desk_diveFact_add_1 ⟨tmOf n e, f :: m⟩ = headL C l_desk_diveFact_add_1 n (keepE e [1,7,9,54,55,56]) (f.drop [[12]]) m := headd_of rfl n e f m h
theorem ls_desk_diveFact_add_1 (n : Nat) (e : Env) (f : Fr) (m : Mem) (h : freeEnv m.length [[12]] (keepE e [1,7,9,54,55,56]) (f.drop [[12]]) = true) : headL C l_desk_diveFact_add_1 n e f m = andThen (den C b_desk_diveFact_add_1 ⟨tmOf n (keepE e [1,7,9,54,55,56]), f.drop [[12]] :: m⟩) (den C l_desk_diveFact_add_1) := headd_step rfl n e f m h
theorem lh_desk_world_checkDive_1 (n : Nat) (e : Env) (f : Fr) (m : Mem) (h : freeEnv m.length [[12]] (keepE e [0,4,9,86,87,88]) (f.drop [[12]]) = true) : den C l_desk_world_checkDive_1 ⟨tmOf n e, f :: m⟩ = headL C l_desk_world_checkDive_1 n (keepE e [0,4,9,86,87,88]) (f.drop [[12]]) m := headd_of rfl n e f m h
theorem ls_desk_world_checkDive_1 (n : Nat) (e : Env) (f : Fr) (m : Mem) (h : freeEnv m.length [[12]] (keepE e [0,4,9,86,87,88]) (f.drop [[12]]) = true) : headL C l_desk_world_checkDive_1 n e f m = andThen (den C b_desk_world_checkDive_1 ⟨tmOf n (keepE e [0,4,9,86,87,88]), f.drop [[12]] :: m⟩) (den C l_desk_world_checkDive_1) := headd_step rfl n e f m h
theorem lh_desk_world_checkDive_2 (n : Nat) (e : Env) (f : Fr) (m : Mem) : den C l_desk_world_checkDive_2 ⟨tmOf n e, f :: m⟩ = headL C l_desk_world_checkDive_2 n (keepE e [0,4,56,57,58]) f m := head_of rfl n e f m
theorem ls_desk_world_checkDive_2 (n : Nat) (e : Env) (f : Fr) (m : Mem) : headL C l_desk_world_checkDive_2 n e f m = andThen (den C b_desk_world_checkDive_2 ⟨tmOf n (keepE e [0,4,56,57,58]), f :: m⟩) (den C l_desk_world_checkDive_2) := head_step rfl n e f m
theorem lh_slices_Index_string_1 (n : Nat) (e : Env) (f : Fr) (m : Mem) : den C l_slices_Index_string_1 ⟨tmOf n e, f :: m⟩ = headL C l_slices_Index_string_1 n (keepE e [0,1,7,8]) f m := head_of rfl n e f m
theorem ls_slices_Index_string_1 (n : Nat) (e : Env) (f : Fr) (m : Mem) : headL C l_slices_Index_string_1 n e f m = andThen (den C b_slices_Index_string_1 ⟨tmOf n (keepE e [0,1,7,8]), f :: m⟩) (den C l_slices_Index_string_1) := head_step rfl n e f m
theorem lh_profile_trackOf_1 (n : Nat) (e : Env) (f : Fr) (m : Mem) (h : freeEnv m.length [[5]] (keepE e [3,9,10,11]) (f.drop [[5]]) = true) : den C l_profile_trackOf_1 ⟨tmOf n e, f :: m⟩ = headL C l_profile_trackOf_1 n (keepE e [3,9,10,11]) (f.drop [[5]]) m := headd_of rfl n e f m h
theorem ls_profile_trackOf_1 (n : Nat) (e : Env) (f : Fr) (m : Mem) (h : freeEnv m.length [[5]] (keepE e [3,9,10,11]) (f.drop [[5]]) = true) : headL C l_profile_trackOf_1 n e f m = andThen (den C b_profile_trackOf_1 ⟨tmOf n (keepE e [3,9,10,11]), f.drop [[5]] :: m⟩) (den C l_profile_trackOf_1) := headd_step rfl n e f m h
end Go.Proofs.YtnhagbllecpkkaaGreatDoor
