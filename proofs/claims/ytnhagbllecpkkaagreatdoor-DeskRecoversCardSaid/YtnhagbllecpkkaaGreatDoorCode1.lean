/-
  The codes of the functions, as the abstract machine runs them, each checked against the program by the kernel.
-/
import Derived.Test.YtnhagbllecpkkaaGreatDoorV1
import Derived.Test.YtnhagbllecpkkaaGreatDoorProg
set_option linter.unusedSimpArgs false
set_option linter.unusedVariables false

namespace Go.Proofs.YtnhagbllecpkkaaGreatDoor
open Go Go.VA Go.Proofs
/-- What the package variables hold. -/
def gl : Globs := fun g =>
  if g = 0 then some rolesAV else
  none
abbrev n_law10_DeskRecovers : Nat := 4
abbrev n_law10_awake : Nat := 6
abbrev n_base_Decimal : Nat := 8
abbrev n_law10_House : Nat := 10
abbrev n_desk_Recover : Nat := 13
abbrev n_ref10_Recover : Nat := 14
abbrev n_law10_entries : Nat := 15
abbrev n_desk_SealOf : Nat := 17
abbrev n_desk_Booked : Nat := 23
abbrev n_law10_Diary : Nat := 24
abbrev n_desk_Breathed : Nat := 25
abbrev n_base_Ints : Nat := 26
abbrev n_base_Size : Nat := 27
abbrev n_desk_open : Nat := 28
abbrev n_strings_Lines : Nat := 31
abbrev n_strings_SplitN : Nat := 32
abbrev n_strings_TrimSuffix : Nat := 33
abbrev n_strings_HasSuffix : Nat := 34
abbrev n_desk_seal : Nat := 35
abbrev n_strconv_Itoa : Nat := 36
abbrev n_desk_isName : Nat := 37
abbrev n_base_Cut : Nat := 38
abbrev n_ref10_head : Nat := 39
abbrev n_base_IsName : Nat := 40
abbrev n_ref10_seal : Nat := 41
abbrev n_desk_seals : Nat := 44
abbrev n_strings_Join : Nat := 46
abbrev n_mix_Sums : Nat := 48
abbrev n_desk_total : Nat := 49
abbrev n_desk_diveAt : Nat := 50
abbrev n_desk_world_breathedIn : Nat := 51
abbrev n_desk_newKeeper : Nat := 52
abbrev n_desk_keeper_enter : Nat := 53
abbrev n_slices_Clone_api_MixFill : Nat := 54
abbrev n_slices_Clone_api_KitEvent : Nat := 55
abbrev n_strings_Contains : Nat := 67
abbrev n_mix_read : Nat := 70
abbrev n_mix_gases_content : Nat := 71
abbrev n_desk_plus : Nat := 72
abbrev n_desk_world_dive : Nat := 73
abbrev n_exposure_Consumed : Nat := 74
abbrev n_desk_world_planOf : Nat := 75
abbrev n_desk_CheckDesk : Nat := 76
abbrev n_desk_newWorld : Nat := 77
abbrev n_desk_world_person : Nat := 78
abbrev n_desk_head : Nat := 79
abbrev n_desk_keeper_fix : Nat := 80
abbrev n_desk_keeper_fact : Nat := 81
abbrev n_mix_CheckVessels : Nat := 89
abbrev n_mix_store_enter : Nat := 90
abbrev n_slices_IndexFunc_api_DeskDive : Nat := 91
abbrev n_desk_world_dive_c1 : Nat := 92
abbrev n_exposure_checkPlan : Nat := 93
abbrev n_exposure_isBreath : Nat := 94
abbrev n_exposure_legs : Nat := 95
abbrev n_exposure_leg_breathes : Nat := 96
abbrev n_desk_world_plan : Nat := 97
abbrev n_kit_CheckSetup : Nat := 98
abbrev n_slices_ContainsFunc_api_DeskPerson : Nat := 99
abbrev n_desk_CheckDesk_c1 : Nat := 100
abbrev n_desk_within : Nat := 101
abbrev n_exposure_CheckRules : Nat := 102
abbrev n_tissue_CheckTable : Nat := 103
abbrev n_slices_IndexFunc_api_DeskPerson : Nat := 104
abbrev n_desk_world_person_c1 : Nat := 105
abbrev n_strings_Cut : Nat := 106
abbrev n_slices_Contains_int : Nat := 107
abbrev n_desk_number : Nat := 108
abbrev n_strings_HasPrefix : Nat := 109
abbrev n_slices_IndexFunc_desk_counted : Nat := 110
abbrev n_desk_keeper_fix_c1 : Nat := 111
abbrev n_desk_factOf : Nat := 112
abbrev n_slices_Clone_desk_counted : Nat := 113
abbrev n_desk_world_add : Nat := 114
abbrev n_internal_stringslite_Index : Nat := 119
abbrev n_mix_isName : Nat := 125
abbrev n_mix_vessel : Nat := 126
abbrev n_mix_within : Nat := 127
abbrev n_mix_alone : Nat := 128
abbrev n_mix_takes : Nat := 129
abbrev n_mix_puts : Nat := 130
abbrev n_mix_gases_sum : Nat := 131
abbrev n_mix_store_above : Nat := 132
abbrev n_mix_fresh : Nat := 133
abbrev n_mix_gases_share : Nat := 134
abbrev n_mix_gases_less : Nat := 135
abbrev n_mix_gases_plus : Nat := 136
abbrev n_profile_CheckPlan : Nat := 137
abbrev n_exposure_within : Nat := 138
abbrev n_exposure_up : Nat := 139
abbrev n_slices_IndexFunc_api_DivePlan : Nat := 140
abbrev n_desk_world_plan_c1 : Nat := 141
abbrev n_kit_item : Nat := 143
abbrev n_kit_isKind : Nat := 144
abbrev n_kit_isDay : Nat := 145
abbrev n_kit_rule : Nat := 146
abbrev n_kit_within : Nat := 147
abbrev n_gas_CheckLimits : Nat := 148
abbrev n_tissue_within : Nat := 149
abbrev n_tissue_isCompartment : Nat := 150
abbrev n_internal_stringslite_Cut : Nat := 151
abbrev n_slices_Index_int : Nat := 152
abbrev n_strconv_Atoi : Nat := 153
abbrev n_strings_TrimPrefix : Nat := 154
abbrev n_mix_ParseFill : Nat := 156
abbrev n_kit_ParseEvent : Nat := 157
abbrev n_profile_ParsePlanLine : Nat := 158
abbrev n_desk_diveOf : Nat := 159
abbrev n_strings_Split : Nat := 160
abbrev n_profile_ParsePoints : Nat := 161
abbrev n_desk_less : Nat := 162
abbrev n_desk_world_vessel : Nat := 163
abbrev n_desk_with_api_MixContent : Nat := 164
abbrev n_slices_IndexFunc_api_MixVessel : Nat := 174
abbrev n_mix_vessel_c1 : Nat := 175
abbrev n_gas_CheckGas : Nat := 176
abbrev n_slices_SortStableFunc_int : Nat := 177
abbrev n_mix_gases_share_c1 : Nat := 178
abbrev n_cmp_Compare_int : Nat := 179
abbrev n_profile_isName : Nat := 180
abbrev n_profile_within : Nat := 181
abbrev n_kit_find_api_KitItem : Nat := 182
abbrev n_kit_item_c1 : Nat := 183
abbrev n_kit_find_api_KitRule : Nat := 184
abbrev n_kit_rule_c1 : Nat := 185
abbrev n_gas_first : Nat := 186
abbrev n_gas_bound : Nat := 187
abbrev n_mix_fillOf : Nat := 191
abbrev n_profile_numbers : Nat := 193
abbrev n_slices_Chunk_int : Nat := 194
abbrev n_profile_check : Nat := 195
abbrev n_profile_CheckPoints : Nat := 196
abbrev n_desk_world_vessel_c1 : Nat := 197
abbrev n_slices_Clip_api_MixContent : Nat := 198
abbrev n_slices_stableCmpFunc_int : Nat := 202
abbrev n_cmp_isNaN_int : Nat := 203
abbrev n_slices_IndexFunc_api_KitItem : Nat := 204
abbrev n_slices_IndexFunc_api_KitRule : Nat := 205
abbrev n_gas_within : Nat := 206
abbrev n_mix_number : Nat := 212
abbrev n_slices_insertionSortCmpFunc_int : Nat := 214
abbrev n_slices_symMergeCmpFunc_int : Nat := 215
abbrev n_slices_rotateCmpFunc_int : Nat := 219
abbrev n_slices_swapRangeCmpFunc_int : Nat := 222
abbrev n_desk_fillFact_add : Nat := 241
abbrev n_desk_world_fill : Nat := 242
abbrev n_mix_AddFill : Nat := 243
abbrev n_mix_Contents : Nat := 244
abbrev n_desk_kitFact_add : Nat := 245
abbrev n_desk_world_event : Nat := 246
abbrev n_kit_AddEvent : Nat := 247
abbrev n_kit_more : Nat := 248
abbrev n_kit_follow : Nat := 249
abbrev n_desk_planFact_add : Nat := 283
abbrev n_desk_with_api_DivePlan : Nat := 284
abbrev n_slices_Clip_api_DivePlan : Nat := 285
abbrev n_desk_recordFact_add : Nat := 286
abbrev n_desk_world_record : Nat := 287
abbrev n_desk_with_api_DeskRecord : Nat := 288
abbrev n_slices_IndexFunc_api_DeskRecord : Nat := 289
abbrev n_desk_world_record_c1 : Nat := 290
abbrev n_slices_Clip_api_DeskRecord : Nat := 291
abbrev n_desk_signFact_add : Nat := 292
abbrev n_slices_Contains_api_DeskSign : Nat := 293
abbrev n_desk_with_api_DeskSign : Nat := 294
abbrev n_slices_Index_api_DeskSign : Nat := 295
abbrev n_slices_Clip_api_DeskSign : Nat := 296
abbrev n_desk_diveFact_add : Nat := 297
abbrev n_desk_world_checkDive : Nat := 298
abbrev n_desk_with_api_MixContent_299 : Nat := 299
abbrev n_slices_ContainsFunc_api_KitItem : Nat := 300
abbrev n_desk_diveFact_add_c1 : Nat := 301
abbrev n_desk_with_api_DeskDive : Nat := 302
abbrev n_slices_Contains_string : Nat := 303
abbrev n_desk_world_span : Nat := 304
abbrev n_slices_Clip_api_MixContent_305 : Nat := 305
abbrev n_slices_Clip_api_DeskDive : Nat := 306
abbrev n_slices_Index_string : Nat := 307
abbrev n_profile_PlanSeconds : Nat := 308
abbrev n_profile_trackOf : Nat := 309
abbrev n_profile_track_end : Nat := 310
/- shotline/shotlinelaw10.DeskRecovers -/
def a_law10_DeskRecovers : AFunc := ⟨30,
 (.seq (.reg false [⟨.some 2,.mv (.av (.bool false)),.none,[],[]⟩])
 (.seq (.seq (.reg false [⟨.some 7,.call (.av (.fn n_law10_awake [])) [],.none,[],[]⟩,
 ⟨.some 8,.un .not (.tmp 7),.none,[],[]⟩])
 (.cond (.tmp 8)
 (.seq (.reg false [⟨.some 2,.mv (.av (.bool false)),.none,[],[]⟩])
 .ret)
 .skip))
 (.cut [0] []
 (.seq (.seq (.reg false [⟨.some 9,.mv (.tmp 0),.none,[],[]⟩,
 ⟨.some 10,.len true (.tmp 9),.none,[],[]⟩,
 ⟨.some 11,.bin .gtr (.tmp 10) (.av (.int .i64 3000)),.none,[],[]⟩])
 (.cond (.tmp 11)
 (.seq (.reg false [⟨.some 2,.mv (.av (.bool true)),.none,[],[]⟩])
 .ret)
 .skip))
 (.cut [0] []
 (.seq (.reg false [⟨.some 13,.mv (.tmp 0),.none,[],[]⟩,
 ⟨.some 14,.call (.av (.fn n_desk_Recover [])) [(.tmp 13)],.none,[],[]⟩,
 ⟨.some 12,.mv (.tmp 14),.none,[],[]⟩,
 ⟨.some 15,.extract (.tmp 12) 0,.none,[],[]⟩,
 ⟨.some 16,.extract (.tmp 12) 1,.none,[],[]⟩,
 ⟨.some 3,.mv (.tmp 15),.none,[15],[]⟩,
 ⟨.some 4,.mv (.tmp 16),.none,[],[]⟩])
 (.seq (.reg false [⟨.some 18,.mv (.tmp 0),.none,[],[]⟩,
 ⟨.some 19,.call (.av (.fn n_ref10_Recover [])) [(.tmp 18)],.none,[],[]⟩,
 ⟨.some 17,.mv (.tmp 19),.none,[],[]⟩,
 ⟨.some 20,.extract (.tmp 17) 0,.none,[],[]⟩,
 ⟨.some 21,.extract (.tmp 17) 1,.none,[],[]⟩,
 ⟨.some 5,.mv (.tmp 20),.none,[20],[]⟩,
 ⟨.some 6,.mv (.tmp 21),.none,[],[]⟩])
 (.seq (.reg false [⟨.some 22,.mv (.tmp 4),.none,[],[]⟩,
 ⟨.some 23,.mv (.tmp 6),.none,[],[]⟩,
 ⟨.some 24,.bin .eql (.tmp 22) (.tmp 23),.none,[],[]⟩,
 ⟨.some 25,.mv (.tmp 24),.none,[],[]⟩,
 ⟨.some 26,.mv (.tmp 3),.some (25,true),[],[]⟩,
 ⟨.some 27,.mv (.tmp 5),.some (25,true),[],[]⟩,
 ⟨.some 28,.call (.av (.fn n_law10_entries [])) [(.tmp 26),(.tmp 27)],.some (25,true),[],[]⟩,
 ⟨.some 29,.pick (.tmp 25) (.tmp 28) (.av (.bool false)),.none,[],[]⟩,
 ⟨.some 2,.mv (.tmp 29),.none,[],[]⟩])
 .ret)))))))),
 [.tmp 2], false⟩
theorem c_law10_DeskRecovers : chkFunc Tryz.prog gl n_law10_DeskRecovers a_law10_DeskRecovers = true := by kernel_rfl
/- shotline/shotlinelaw10.awake -/
def a_law10_awake : AFunc := ⟨59,
 (.seq (.reg false [⟨.some 0,.mv (.av (.bool false)),.none,[],[]⟩])
 (.seq (.reg false [⟨.some 8,.call (.av (.fn n_law10_House [])) [],.none,[],[]⟩,
 ⟨.some 9,.call (.av (.fn n_law10_Diary [])) [],.none,[],[]⟩,
 ⟨.some 10,.call (.av (.fn n_desk_Booked [])) [(.tmp 8),(.tmp 9)],.none,[],[]⟩,
 ⟨.some 7,.mv (.tmp 10),.none,[],[]⟩,
 ⟨.some 11,.extract (.tmp 7) 0,.none,[],[]⟩,
 ⟨.some 12,.extract (.tmp 7) 1,.none,[],[]⟩,
 ⟨.some 1,.alloc [(.int .i64 0),(.int .i64 0),(.int .i64 0),(.int .i64 0),(.int .i64 0),(.int .i64 0),(.int .i64 0),(.int .i64 0),(.int .i64 0),(.int .i64 0),(.int .i64 0),(.int .i64 0)],.none,[],[]⟩,
 ⟨.none,.store 12 (.tmp 1) (.tmp 11),.none,[11],[]⟩,
 ⟨.some 2,.mv (.tmp 12),.none,[],[]⟩])
 (.seq (.reg false [⟨.some 14,.call (.av (.fn n_law10_House [])) [],.none,[],[]⟩,
 ⟨.some 15,.call (.av (.fn n_law10_Diary [])) [],.none,[],[]⟩,
 ⟨.some 16,.build [(.str []),(.str [])] [(0,1,(.av (.str [98,111,98]))),(1,1,(.av (.str [102,105,120,32,50,32,112,108,97,110,32,112,32,49,48,48,48,32,49,32,50,49,48,32,48,32,51,48,48,32,48,32,48])))],.none,[],[]⟩,
 ⟨.some 17,.bslice true 2 1 [(.str []),(.str [])] [(0,(.tmp 16))],.none,[],[]⟩,
 ⟨.some 18,.append 2 32 (.tmp 15) (.tmp 17),.none,[15],[]⟩,
 ⟨.some 19,.call (.av (.fn n_desk_Breathed [])) [(.tmp 14),(.tmp 18),(.av (.str [100,49]))],.none,[],[]⟩,
 ⟨.some 13,.mv (.tmp 19),.none,[],[]⟩,
 ⟨.some 20,.extract (.tmp 13) 0,.none,[],[]⟩,
 ⟨.some 21,.extract (.tmp 13) 1,.none,[],[]⟩,
 ⟨.some 3,.mv (.tmp 20),.none,[20],[]⟩,
 ⟨.some 4,.mv (.tmp 21),.none,[],[]⟩])
 (.seq (.reg false [⟨.some 23,.build [(.str []),(.str [])] [(0,1,(.av (.str [97]))),(1,1,(.av (.str [98])))],.none,[],[]⟩,
 ⟨.some 24,.bslice true 2 1 [(.str []),(.str [])] [(0,(.tmp 23))],.none,[],[]⟩,
 ⟨.some 25,.call (.av (.fn n_desk_SealOf [])) [(.tmp 24)],.none,[],[]⟩,
 ⟨.some 22,.mv (.tmp 25),.none,[],[]⟩,
 ⟨.some 26,.extract (.tmp 22) 0,.none,[],[]⟩,
 ⟨.some 27,.extract (.tmp 22) 1,.none,[],[]⟩,
 ⟨.some 5,.mv (.tmp 26),.none,[],[]⟩,
 ⟨.some 6,.mv (.tmp 27),.none,[],[]⟩])
 (.seq (.reg false [⟨.some 28,.mv (.tmp 2),.none,[],[]⟩,
 ⟨.some 29,.bin .eql (.tmp 28) (.av (.int .i64 0)),.none,[],[]⟩,
 ⟨.some 30,.mv (.tmp 29),.none,[],[]⟩,
 ⟨.some 31,.faddr 0 (.tmp 1),.some (30,true),[],[]⟩,
 ⟨.some 32,.load true false 3 (.tmp 31),.some (30,true),[],[]⟩,
 ⟨.some 33,.build [(.int .i64 0),(.int .i64 0),(.int .i64 0)] [(0,1,(.av (.int .i64 504000))),(2,1,(.av (.int .i64 1896000)))],.some (30,true),[],[]⟩,
 ⟨.some 34,.eq (.agg [.i,.i,.i]) false (.tmp 32) (.tmp 33),.some (30,true),[],[]⟩,
 ⟨.some 35,.pick (.tmp 30) (.tmp 34) (.av (.bool false)),.none,[],[]⟩,
 ⟨.some 36,.mv (.tmp 35),.none,[],[]⟩,
 ⟨.some 37,.faddr 6 (.tmp 1),.some (36,true),[],[]⟩,
 ⟨.some 38,.load true false 3 (.tmp 37),.some (36,true),[],[]⟩,
 ⟨.some 39,.build [(.int .i64 0),(.int .i64 0),(.int .i64 0)] [(0,1,(.av (.int .i64 42000))),(2,1,(.av (.int .i64 158000)))],.some (36,true),[],[]⟩,
 ⟨.some 40,.eq (.agg [.i,.i,.i]) false (.tmp 38) (.tmp 39),.some (36,true),[],[]⟩,
 ⟨.some 41,.pick (.tmp 36) (.tmp 40) (.av (.bool false)),.none,[],[]⟩,
 ⟨.some 42,.mv (.tmp 41),.none,[],[]⟩,
 ⟨.some 43,.mv (.tmp 4),.some (42,true),[],[]⟩,
 ⟨.some 44,.bin .eql (.tmp 43) (.av (.int .i64 0)),.some (42,true),[],[]⟩,
 ⟨.some 45,.pick (.tmp 42) (.tmp 44) (.av (.bool false)),.none,[],[]⟩,
 ⟨.some 46,.mv (.tmp 45),.none,[],[]⟩,
 ⟨.some 47,.mv (.tmp 3),.some (46,true),[],[]⟩,
 ⟨.some 48,.bslice true 1 1 [(.int .i64 0)] [(0,(.av (.int .i64 100000)))],.some (46,true),[],[]⟩,
 ⟨.some 49,.call (.av (.fn n_base_Ints [])) [(.tmp 47),(.tmp 48)],.some (46,true),[],[]⟩,
 ⟨.some 50,.pick (.tmp 46) (.tmp 49) (.av (.bool false)),.none,[],[]⟩,
 ⟨.some 51,.mv (.tmp 50),.none,[],[]⟩,
 ⟨.some 52,.mv (.tmp 6),.some (51,true),[],[]⟩,
 ⟨.some 53,.bin .eql (.tmp 52) (.av (.int .i64 0)),.some (51,true),[],[]⟩,
 ⟨.some 54,.pick (.tmp 51) (.tmp 53) (.av (.bool false)),.none,[],[]⟩,
 ⟨.some 55,.mv (.tmp 54),.none,[],[]⟩,
 ⟨.some 56,.mv (.tmp 5),.some (55,true),[],[]⟩,
 ⟨.some 57,.bin .eql (.tmp 56) (.av (.int .i64 6481382)),.some (55,true),[],[]⟩,
 ⟨.some 58,.pick (.tmp 55) (.tmp 57) (.av (.bool false)),.none,[],[]⟩,
 ⟨.some 0,.mv (.tmp 58),.none,[],[]⟩])
 .ret))))),
 [.tmp 0], false⟩
theorem c_law10_awake : chkFunc Tryz.prog gl n_law10_awake a_law10_awake = true := by kernel_rfl
/- shotline/shotlinebase.Decimal -/
def b_base_Decimal_1 : ACode :=
 (.seq (.seq (.reg false [⟨.some 10,.mv (.tmp 0),.none,[],[]⟩,
 ⟨.some 11,.bin .neq (.tmp 10) (.av (.int .i64 0)),.none,[],[]⟩])
 (.cond (.tmp 11)
 .skip
 (.exit 0)))
 (.cut [0,3,4] []
 (.block 1
 (.seq (.reg false [⟨.some 12,.mv (.tmp 0),.none,[],[]⟩,
 ⟨.some 13,.bin .rem (.tmp 12) (.av (.int .i64 10)),.none,[],[]⟩,
 ⟨.some 5,.mv (.tmp 13),.none,[],[]⟩])
 (.seq (.reg false [⟨.some 14,.mv (.tmp 5),.none,[],[]⟩,
 ⟨.some 15,.call (.av (.fn n_base_Size [])) [(.tmp 14)],.none,[],[]⟩,
 ⟨.some 16,.bin .add (.av (.int .i64 48)) (.tmp 15),.none,[],[]⟩,
 ⟨.some 17,.conv (.int .u8) (.tmp 16),.none,[],[]⟩,
 ⟨.some 18,.bslice true 1 1 [(.int .u8 0)] [(0,(.tmp 17))],.none,[],[]⟩,
 ⟨.some 19,.conv .toStr (.tmp 18),.none,[],[]⟩,
 ⟨.some 20,.mv (.tmp 3),.none,[],[]⟩,
 ⟨.some 21,.bin .add (.tmp 19) (.tmp 20),.none,[],[]⟩,
 ⟨.some 3,.mv (.tmp 21),.none,[],[]⟩])
 (.reg false [⟨.some 22,.mv (.tmp 0),.none,[],[]⟩,
 ⟨.some 23,.bin .quo (.tmp 22) (.av (.int .i64 10)),.none,[],[]⟩,
 ⟨.some 0,.mv (.tmp 23),.none,[],[]⟩]))))))
def l_base_Decimal_1 : ACode := .loop (.cut [0,3,4] [] b_base_Decimal_1)
def a_base_Decimal : AFunc := ⟨27,
 (.seq (.reg false [⟨.some 2,.mv (.av (.str [])),.none,[],[]⟩])
 (.seq (.seq (.reg false [⟨.some 6,.mv (.tmp 0),.none,[],[]⟩,
 ⟨.some 7,.bin .eql (.tmp 6) (.av (.int .i64 0)),.none,[],[]⟩])
 (.cond (.tmp 7)
 (.seq (.reg false [⟨.some 2,.mv (.av (.str [48])),.none,[],[]⟩])
 .ret)
 .skip))
 (.cut [0] []
 (.seq (.reg false [⟨.some 3,.mv (.av (.str [])),.none,[],[]⟩,
 ⟨.some 4,.mv (.av (.str [])),.none,[],[]⟩])
 (.seq (.seq (.reg false [⟨.some 8,.mv (.tmp 0),.none,[],[]⟩,
 ⟨.some 9,.bin .lss (.tmp 8) (.av (.int .i64 0)),.none,[],[]⟩])
 (.cond (.tmp 9)
 (.reg false [⟨.some 4,.mv (.av (.str [45])),.none,[],[]⟩])
 .skip))
 (.cut [0,3,4] []
 (.seq (.block 0
 l_base_Decimal_1)
 (.cut [3,4] []
 (.seq (.reg false [⟨.some 24,.mv (.tmp 4),.none,[],[]⟩,
 ⟨.some 25,.mv (.tmp 3),.none,[],[]⟩,
 ⟨.some 26,.bin .add (.tmp 24) (.tmp 25),.none,[],[]⟩,
 ⟨.some 2,.mv (.tmp 26),.none,[],[]⟩])
 .ret))))))))),
 [.tmp 2], false⟩
theorem c_base_Decimal : chkFunc Tryz.prog gl n_base_Decimal a_base_Decimal = true := by kernel_rfl
/- shotline/shotlinelaw10.House -/
def a_law10_House : AFunc := ⟨11,
 (.seq (.reg false [⟨.some 0,.alloc [.nils,.nils,.nils,.nils,.nils,(.int .i64 0),(.int .i64 0),(.int .i64 0),(.int .i64 0),(.int .i64 0),(.int .i64 0),(.int .i64 0),(.int .i64 0),.nils],.none,[],[]⟩])
 (.seq (.reg false [⟨.some 1,.build [(.str []),(.int .i64 0),(.int .i64 0)] [(0,1,(.av (.str [99,49]))),(1,1,(.av (.int .i64 12000))),(2,1,(.av (.int .i64 300000)))],.none,[],[]⟩,
 ⟨.some 2,.bslice true 3 1 [(.str []),(.int .i64 0),(.int .i64 0)] [(0,(.tmp 1))],.none,[],[]⟩,
 ⟨.some 3,.build [(.str []),(.int .i64 0)] [(0,1,(.av (.str [97,110,110]))),(1,1,(.av (.int .i64 1)))],.none,[],[]⟩,
 ⟨.some 4,.build [(.str []),(.int .i64 0)] [(0,1,(.av (.str [98,111,98]))),(1,1,(.av (.int .i64 3)))],.none,[],[]⟩,
 ⟨.some 5,.bslice true 2 2 [(.str []),(.int .i64 0)] [(0,(.tmp 3)),(1,(.tmp 4))],.none,[],[]⟩,
 ⟨.some 6,.build [(.int .i64 0),(.int .i64 0)] [(0,1,(.av (.int .i64 160))),(1,1,(.av (.int .i64 1600)))],.none,[],[]⟩,
 ⟨.some 7,.build [.nils,(.int .i64 0),(.int .i64 0),(.int .i64 0),(.int .i64 0),(.int .i64 0),(.int .i64 0),(.int .i64 0),(.int .i64 0)] [(1,2,(.tmp 6)),(3,1,(.av (.int .i64 6000))),(4,1,(.av (.int .i64 20000))),(5,1,(.av (.int .i64 20000))),(6,1,(.av (.int .i64 40000))),(7,1,(.av (.int .i64 60))),(8,1,(.av (.int .i64 900)))],.none,[],[]⟩,
 ⟨.some 8,.build [(.int .i64 0),(.int .i64 0),(.int .i64 0),(.int .i64 0)] [(0,1,(.av (.int .i64 600))),(1,1,(.av (.int .i64 240))),(2,1,(.av (.int .i64 500))),(3,1,(.av (.int .i64 1500)))],.none,[],[]⟩,
 ⟨.some 9,.bslice true 4 1 [(.int .i64 0),(.int .i64 0),(.int .i64 0),(.int .i64 0)] [(0,(.tmp 8))],.none,[],[]⟩,
 ⟨.some 10,.build [.nils,.nils,.nils,.nils,.nils,(.int .i64 0),(.int .i64 0),(.int .i64 0),(.int .i64 0),(.int .i64 0),(.int .i64 0),(.int .i64 0),(.int .i64 0),.nils] [(0,1,(.tmp 2)),(3,1,(.tmp 5)),(4,9,(.tmp 7)),(13,1,(.tmp 9))],.none,[],[]⟩,
 ⟨.none,.store 14 (.tmp 0) (.tmp 10),.none,[10],[]⟩])
 .ret)),
 [.cell true 14 0], false⟩
theorem c_law10_House : chkFunc Tryz.prog gl n_law10_House a_law10_House = true := by kernel_rfl
/- shotline/desk.Recover -/
def k_desk_Recover_1_1 : ACode :=
 (.cond (.tmp 29)
 (.exit 0)
 .skip)
def r_desk_Recover_1_2 : List AOper :=
 [⟨.some 64,.load false false 1 (.tmp 63),.some (62,false),[],[]⟩,
 ⟨.some 65,.len true (.tmp 64),.some (62,false),[],[]⟩,
 ⟨.some 66,.bin .gtr (.tmp 65) (.av (.int .i64 400)),.some (62,false),[],[]⟩,
 ⟨.some 67,.pick (.tmp 62) (.av (.bool true)) (.tmp 66),.none,[],[]⟩]
def r_desk_Recover_1_3 : List AOper :=
 ⟨.some 56,.mv (.tmp 55),.none,[],[]⟩ ::
 ⟨.some 57,.faddr 0 (.tmp 9),.some (56,false),[],[]⟩ ::
 ⟨.some 58,.load false false 1 (.tmp 57),.some (56,false),[],[]⟩ ::
 ⟨.some 59,.call (.av (.fn n_desk_isName [])) [(.tmp 58)],.some (56,false),[],[]⟩ ::
 ⟨.some 60,.un .not (.tmp 59),.some (56,false),[],[]⟩ ::
 ⟨.some 61,.pick (.tmp 56) (.av (.bool true)) (.tmp 60),.none,[],[]⟩ ::
 ⟨.some 62,.mv (.tmp 61),.none,[],[]⟩ ::
 ⟨.some 63,.faddr 1 (.tmp 9),.some (62,false),[],[]⟩ ::
 r_desk_Recover_1_2
def r_desk_Recover_1_4 : List AOper :=
 ⟨.some 48,.mv (.tmp 47),.none,[],[]⟩ ::
 ⟨.some 49,.mv (.tmp 8),.some (48,false),[],[]⟩ ::
 ⟨.some 50,.iaddr .none 1 (.tmp 49) (.av (.int .i64 1)),.some (48,false),[],[]⟩ ::
 ⟨.some 51,.load false false 1 (.tmp 50),.some (48,false),[],[]⟩ ::
 ⟨.some 52,.mv (.tmp 10),.some (48,false),[],[]⟩ ::
 ⟨.some 53,.call (.av (.fn n_strconv_Itoa [])) [(.tmp 52)],.some (48,false),[],[13]⟩ ::
 ⟨.some 54,.bin .neq (.tmp 51) (.tmp 53),.some (48,false),[],[]⟩ ::
 ⟨.some 55,.pick (.tmp 48) (.av (.bool true)) (.tmp 54),.none,[],[]⟩ ::
 r_desk_Recover_1_3
def k_desk_Recover_1_5 : ACode :=
 (.cond (.tmp 67)
 (.exit 0)
 .skip)
def r_desk_Recover_1_6 : List AOper :=
 [⟨.some 76,.bin .add (.tmp 73) (.tmp 75),.none,[],[]⟩,
 ⟨.none,.store 1 (.tmp 4) (.tmp 71),.none,[71],[5]⟩,
 ⟨.none,.store 1 (.tmp 5) (.tmp 72),.none,[72],[5]⟩,
 ⟨.none,.store 1 (.tmp 6) (.tmp 76),.none,[76],[]⟩]
def k_desk_Recover_1_7 : ACode :=
 (.reg true (⟨.some 68,.load false true 1 (.tmp 4),.none,[],[]⟩ ::
 ⟨.some 69,.load true false 2 (.tmp 9),.none,[],[0]⟩ ::
 ⟨.some 70,.bslice true 2 1 [(.str []),(.str [])] [(0,(.tmp 69))],.none,[],[]⟩ ::
 ⟨.some 71,.append 2 32 (.tmp 68) (.tmp 70),.none,[68],[]⟩ ::
 ⟨.some 72,.mv (.tmp 10),.none,[],[]⟩ ::
 ⟨.some 73,.load false false 1 (.tmp 6),.none,[],[0]⟩ ::
 ⟨.some 74,.mv (.tmp 7),.none,[],[]⟩ ::
 ⟨.some 75,.len true (.tmp 74),.none,[],[]⟩ ::
 r_desk_Recover_1_6))
def k_desk_Recover_1_8 : ACode :=
 (.cut [4,5,6,7,9,10] [] k_desk_Recover_1_7)
def k_desk_Recover_1_9 : ACode :=
 (.seq (.seq (.reg true (⟨.some 40,.mv (.tmp 8),.none,[],[]⟩ ::
 ⟨.some 41,.iaddr .none 1 (.tmp 40) (.av (.int .i64 0)),.none,[],[]⟩ ::
 ⟨.some 42,.load false false 1 (.tmp 41),.none,[],[]⟩ ::
 ⟨.some 43,.load false false 1 (.tmp 4),.none,[],[]⟩ ::
 ⟨.some 44,.len false (.tmp 43),.none,[],[]⟩ ::
 ⟨.some 45,.bin .add (.tmp 44) (.av (.int .i64 1)),.none,[],[]⟩ ::
 ⟨.some 46,.call (.av (.fn n_strconv_Itoa [])) [(.tmp 45)],.none,[],[6]⟩ ::
 ⟨.some 47,.bin .neq (.tmp 42) (.tmp 46),.none,[],[]⟩ ::
 r_desk_Recover_1_4)) k_desk_Recover_1_5) k_desk_Recover_1_8)
def k_desk_Recover_1_10 : ACode :=
 (.seq (.reg false [⟨.some 37,.load false false 1 (.tmp 5),.none,[],[]⟩,
 ⟨.some 38,.load true false 2 (.tmp 9),.none,[],[]⟩,
 ⟨.some 39,.call (.av (.fn n_desk_seal [])) [(.tmp 37),(.tmp 38)],.none,[],[]⟩,
 ⟨.some 10,.mv (.tmp 39),.none,[],[]⟩]) k_desk_Recover_1_9)
def k_desk_Recover_1_11 : ACode :=
 (.seq (.reg true [⟨.some 30,.mv (.tmp 8),.none,[],[]⟩,
 ⟨.some 31,.iaddr .none 1 (.tmp 30) (.av (.int .i64 2)),.none,[],[]⟩,
 ⟨.some 32,.load false false 1 (.tmp 31),.none,[],[]⟩,
 ⟨.some 33,.mv (.tmp 8),.none,[],[]⟩,
 ⟨.some 34,.iaddr .none 1 (.tmp 33) (.av (.int .i64 3)),.none,[],[]⟩,
 ⟨.some 35,.load false false 1 (.tmp 34),.none,[],[]⟩,
 ⟨.some 36,.build [(.str []),(.str [])] [(0,1,(.tmp 32)),(1,1,(.tmp 35))],.none,[],[]⟩,
 ⟨.some 9,.alloc [(.str []),(.str [])],.none,[],[2,5]⟩,
 ⟨.none,.store 2 (.tmp 9) (.tmp 36),.none,[36],[]⟩]) k_desk_Recover_1_10)
def k_desk_Recover_1_12 : ACode :=
 (.cut [4,5,6,7,8] [] k_desk_Recover_1_11)
def k_desk_Recover_1_13 : ACode :=
 (.seq (.seq (.reg false [⟨.some 17,.mv (.tmp 8),.none,[],[]⟩,
 ⟨.some 18,.len false (.tmp 17),.none,[],[]⟩,
 ⟨.some 19,.bin .lss (.tmp 18) (.av (.int .i64 4)),.none,[],[]⟩,
 ⟨.some 20,.mv (.tmp 19),.none,[],[]⟩,
 ⟨.some 21,.mv (.tmp 7),.some (20,false),[],[]⟩,
 ⟨.some 22,.call (.av (.fn n_strings_HasSuffix [])) [(.tmp 21),(.av (.str [10]))],.some (20,false),[],[]⟩,
 ⟨.some 23,.un .not (.tmp 22),.some (20,false),[],[]⟩,
 ⟨.some 24,.pick (.tmp 20) (.av (.bool true)) (.tmp 23),.none,[],[]⟩,
 ⟨.some 25,.mv (.tmp 24),.none,[],[]⟩,
 ⟨.some 26,.load false false 1 (.tmp 4),.some (25,false),[],[]⟩,
 ⟨.some 27,.len false (.tmp 26),.some (25,false),[],[]⟩,
 ⟨.some 28,.bin .eql (.tmp 27) (.av (.int .i64 60)),.some (25,false),[],[]⟩,
 ⟨.some 29,.pick (.tmp 25) (.av (.bool true)) (.tmp 28),.none,[],[]⟩]) k_desk_Recover_1_1) k_desk_Recover_1_12)
def g_desk_Recover_1 : ACode :=
 (.reg false [⟨.some 7,.mv (.tmp 13),.none,[],[]⟩])
def y_desk_Recover_1 : ACode :=
 (.block 1 (.seq (.reg false [⟨.some 14,.mv (.tmp 7),.none,[],[]⟩,
 ⟨.some 15,.call (.av (.fn n_strings_TrimSuffix [])) [(.tmp 14),(.av (.str [10]))],.none,[],[]⟩,
 ⟨.some 16,.call (.av (.fn n_strings_SplitN [])) [(.tmp 15),(.av (.str [32])),(.av (.int .i64 4))],.none,[],[]⟩,
 ⟨.some 8,.mv (.tmp 16),.none,[16],[]⟩]) k_desk_Recover_1_13))
def a_desk_Recover : AFunc := ⟨79,
 (.seq (.reg false [⟨.some 2,.mv (.av .nils),.none,[],[]⟩,
 ⟨.some 3,.mv (.av (.int .i64 0)),.none,[],[]⟩])
 (.seq (.reg false [⟨.some 4,.alloc [.nils],.none,[],[]⟩])
 (.seq (.reg false [⟨.some 5,.alloc [(.int .i64 0)],.none,[],[]⟩,
 ⟨.some 6,.alloc [(.int .i64 0)],.none,[],[]⟩,
 ⟨.none,.store 1 (.tmp 5) (.av (.int .i64 0)),.none,[],[]⟩,
 ⟨.none,.store 1 (.tmp 6) (.av (.int .i64 0)),.none,[],[]⟩])
 (.seq (.rangeI 0 [⟨.some 11,.mv (.tmp 0),.none,[],[]⟩] 31 [(.tmp 11)] 12 [13] g_desk_Recover_1 y_desk_Recover_1)
 (.cut [4,6] []
 (.seq (.reg true [⟨.some 77,.load false false 1 (.tmp 4),.none,[],[]⟩,
 ⟨.some 78,.load false false 1 (.tmp 6),.none,[],[]⟩,
 ⟨.some 2,.mv (.tmp 77),.none,[77],[]⟩,
 ⟨.some 3,.mv (.tmp 78),.none,[],[]⟩])
 .ret)))))),
 [.tmp 2,.tmp 3], false⟩
theorem c_desk_Recover : chkFunc Tryz.prog gl n_desk_Recover a_desk_Recover = true := by kernel_rfl
/- shotline/shotlineref10.Recover -/
def b_ref10_Recover_1 : ACode :=
 (.seq (.seq (.reg false [⟨.some 20,.mv (.tmp 8),.none,[],[]⟩,
 ⟨.some 21,.bin .add (.tmp 20) (.av (.int .i64 1)),.none,[],[]⟩,
 ⟨.some 22,.mv (.tmp 7),.none,[],[]⟩,
 ⟨.some 23,.len false (.tmp 22),.none,[],[]⟩,
 ⟨.some 24,.bin .lss (.tmp 21) (.tmp 23),.none,[],[]⟩,
 ⟨.some 25,.mv (.tmp 24),.none,[],[]⟩,
 ⟨.some 26,.mv (.tmp 8),.some (25,true),[],[]⟩,
 ⟨.some 27,.bin .lss (.tmp 26) (.av (.int .i64 60)),.some (25,true),[],[]⟩,
 ⟨.some 28,.pick (.tmp 25) (.tmp 27) (.av (.bool false)),.none,[],[]⟩])
 (.cond (.tmp 28)
 .skip
 (.exit 0)))
 (.cut [4,5,6,7,8] []
 (.seq (.block 1
 (.seq (.reg false [⟨.some 32,.mv (.tmp 7),.none,[],[]⟩,
 ⟨.some 33,.mv (.tmp 8),.none,[],[]⟩,
 ⟨.some 34,.iaddr .none 1 (.tmp 32) (.tmp 33),.none,[],[]⟩,
 ⟨.some 35,.load false false 1 (.tmp 34),.none,[],[]⟩,
 ⟨.some 36,.call (.av (.fn n_ref10_head [])) [(.tmp 35)],.none,[],[]⟩,
 ⟨.some 31,.mv (.tmp 36),.none,[],[]⟩,
 ⟨.some 37,.extract (.tmp 31) 0,.none,[],[]⟩,
 ⟨.some 38,.extract (.tmp 31) 1,.none,[],[]⟩,
 ⟨.some 39,.extract (.tmp 31) 2,.none,[],[]⟩,
 ⟨.some 9,.mv (.tmp 37),.none,[],[]⟩,
 ⟨.some 10,.mv (.tmp 38),.none,[],[]⟩,
 ⟨.some 11,.mv (.tmp 39),.none,[],[]⟩])
 (.seq (.reg false [⟨.some 41,.mv (.tmp 10),.none,[],[]⟩,
 ⟨.some 42,.call (.av (.fn n_ref10_head [])) [(.tmp 41)],.none,[],[]⟩,
 ⟨.some 40,.mv (.tmp 42),.none,[],[]⟩,
 ⟨.some 43,.extract (.tmp 40) 0,.none,[],[]⟩,
 ⟨.some 44,.extract (.tmp 40) 1,.none,[],[]⟩,
 ⟨.some 45,.extract (.tmp 40) 2,.none,[],[]⟩,
 ⟨.some 12,.mv (.tmp 43),.none,[],[]⟩,
 ⟨.some 10,.mv (.tmp 44),.none,[],[]⟩,
 ⟨.some 13,.mv (.tmp 45),.none,[],[]⟩])
 (.seq (.reg false [⟨.some 47,.mv (.tmp 10),.none,[],[]⟩,
 ⟨.some 48,.call (.av (.fn n_ref10_head [])) [(.tmp 47)],.none,[],[]⟩,
 ⟨.some 46,.mv (.tmp 48),.none,[],[]⟩,
 ⟨.some 49,.extract (.tmp 46) 0,.none,[],[]⟩,
 ⟨.some 50,.extract (.tmp 46) 1,.none,[],[]⟩,
 ⟨.some 51,.extract (.tmp 46) 2,.none,[],[]⟩,
 ⟨.some 14,.mv (.tmp 49),.none,[],[]⟩,
 ⟨.some 15,.mv (.tmp 50),.none,[],[]⟩,
 ⟨.some 16,.mv (.tmp 51),.none,[],[]⟩])
 (.seq (.reg false [⟨.some 52,.mv (.tmp 14),.none,[],[]⟩,
 ⟨.some 53,.mv (.tmp 15),.none,[],[]⟩,
 ⟨.some 54,.build [(.str []),(.str [])] [(0,1,(.tmp 52)),(1,1,(.tmp 53))],.none,[],[]⟩,
 ⟨.some 17,.alloc [(.str []),(.str [])],.none,[],[]⟩,
 ⟨.none,.store 2 (.tmp 17) (.tmp 54),.none,[54],[]⟩])
 (.seq (.seq (.reg false [⟨.some 55,.mv (.tmp 11),.none,[],[]⟩,
 ⟨.some 56,.un .not (.tmp 55),.none,[],[]⟩,
 ⟨.some 57,.mv (.tmp 56),.none,[],[]⟩,
 ⟨.some 58,.mv (.tmp 13),.some (57,false),[],[]⟩,
 ⟨.some 59,.un .not (.tmp 58),.some (57,false),[],[]⟩,
 ⟨.some 60,.pick (.tmp 57) (.av (.bool true)) (.tmp 59),.none,[],[]⟩,
 ⟨.some 61,.mv (.tmp 60),.none,[],[]⟩,
 ⟨.some 62,.mv (.tmp 16),.some (61,false),[],[]⟩,
 ⟨.some 63,.un .not (.tmp 62),.some (61,false),[],[]⟩,
 ⟨.some 64,.pick (.tmp 61) (.av (.bool true)) (.tmp 63),.none,[],[]⟩,
 ⟨.some 65,.mv (.tmp 64),.none,[],[]⟩,
 ⟨.some 66,.mv (.tmp 9),.some (65,false),[],[]⟩,
 ⟨.some 67,.mv (.tmp 8),.some (65,false),[],[]⟩,
 ⟨.some 68,.bin .add (.tmp 67) (.av (.int .i64 1)),.some (65,false),[],[]⟩,
 ⟨.some 69,.call (.av (.fn n_base_Decimal [])) [(.tmp 68)],.some (65,false),[],[]⟩,
 ⟨.some 70,.bin .neq (.tmp 66) (.tmp 69),.some (65,false),[],[]⟩,
 ⟨.some 71,.pick (.tmp 65) (.av (.bool true)) (.tmp 70),.none,[],[]⟩,
 ⟨.some 72,.mv (.tmp 71),.none,[],[]⟩,
 ⟨.some 73,.mv (.tmp 14),.some (72,false),[],[]⟩,
 ⟨.some 74,.call (.av (.fn n_base_IsName [])) [(.tmp 73)],.some (72,false),[],[]⟩,
 ⟨.some 75,.un .not (.tmp 74),.some (72,false),[],[]⟩,
 ⟨.some 76,.pick (.tmp 72) (.av (.bool true)) (.tmp 75),.none,[],[]⟩,
 ⟨.some 77,.mv (.tmp 76),.none,[],[]⟩,
 ⟨.some 78,.mv (.tmp 15),.some (77,false),[],[]⟩,
 ⟨.some 79,.len true (.tmp 78),.some (77,false),[],[]⟩,
 ⟨.some 80,.bin .gtr (.tmp 79) (.av (.int .i64 400)),.some (77,false),[],[]⟩,
 ⟨.some 81,.pick (.tmp 77) (.av (.bool true)) (.tmp 80),.none,[],[]⟩,
 ⟨.some 82,.mv (.tmp 81),.none,[],[]⟩,
 ⟨.some 83,.mv (.tmp 12),.some (82,false),[],[]⟩,
 ⟨.some 84,.mv (.tmp 6),.some (82,false),[],[]⟩,
 ⟨.some 85,.load true false 2 (.tmp 17),.some (82,false),[],[]⟩,
 ⟨.some 86,.call (.av (.fn n_ref10_seal [])) [(.tmp 84),(.tmp 85)],.some (82,false),[],[]⟩,
 ⟨.some 87,.call (.av (.fn n_base_Decimal [])) [(.tmp 86)],.some (82,false),[],[]⟩,
 ⟨.some 88,.bin .neq (.tmp 83) (.tmp 87),.some (82,false),[],[]⟩,
 ⟨.some 89,.pick (.tmp 82) (.av (.bool true)) (.tmp 88),.none,[],[]⟩])
 (.cond (.tmp 89)
 (.exit 0)
 .skip))
 (.cut [4,5,6,7,8,17] []
 (.reg true [⟨.some 90,.mv (.tmp 4),.none,[4],[]⟩,
 ⟨.some 91,.load true false 2 (.tmp 17),.none,[],[]⟩,
 ⟨.some 92,.bslice true 2 1 [(.str []),(.str [])] [(0,(.tmp 91))],.none,[],[]⟩,
 ⟨.some 93,.append 2 32 (.tmp 90) (.tmp 92),.none,[90],[]⟩,
 ⟨.some 94,.mv (.tmp 6),.none,[],[]⟩,
 ⟨.some 95,.load true false 2 (.tmp 17),.none,[],[]⟩,
 ⟨.some 96,.call (.av (.fn n_ref10_seal [])) [(.tmp 94),(.tmp 95)],.none,[],[6]⟩,
 ⟨.some 97,.mv (.tmp 5),.none,[],[]⟩,
 ⟨.some 98,.mv (.tmp 7),.none,[],[]⟩,
 ⟨.some 99,.mv (.tmp 8),.none,[],[]⟩,
 ⟨.some 100,.iaddr .none 1 (.tmp 98) (.tmp 99),.none,[],[]⟩,
 ⟨.some 101,.load false false 1 (.tmp 100),.none,[],[]⟩,
 ⟨.some 102,.len true (.tmp 101),.none,[],[]⟩,
 ⟨.some 103,.bin .add (.tmp 97) (.tmp 102),.none,[],[]⟩,
 ⟨.some 104,.bin .add (.tmp 103) (.av (.int .i64 1)),.none,[],[]⟩,
 ⟨.some 4,.mv (.tmp 93),.none,[93],[]⟩,
 ⟨.some 6,.mv (.tmp 96),.none,[],[]⟩,
 ⟨.some 5,.mv (.tmp 104),.none,[],[]⟩]))))))))
 (.cut [4,5,6,7,8] []
 (.reg false [⟨.some 29,.mv (.tmp 8),.none,[],[]⟩,
 ⟨.some 30,.bin .add (.tmp 29) (.av (.int .i64 1)),.none,[],[]⟩,
 ⟨.some 8,.mv (.tmp 30),.none,[],[]⟩])))))
def l_ref10_Recover_1 : ACode := .loop (.cut [4,5,6,7,8] [[17]] b_ref10_Recover_1)
def a_ref10_Recover : AFunc := ⟨107,
 (.seq (.reg false [⟨.some 2,.mv (.av .nils),.none,[],[]⟩,
 ⟨.some 3,.mv (.av (.int .i64 0)),.none,[],[]⟩])
 (.seq (.reg false [⟨.some 4,.mv (.av .nils),.none,[],[]⟩])
 (.seq (.reg false [⟨.some 5,.mv (.av (.int .i64 0)),.none,[],[]⟩,
 ⟨.some 6,.mv (.av (.int .i64 0)),.none,[],[]⟩])
 (.seq (.reg false [⟨.some 18,.mv (.tmp 0),.none,[],[]⟩,
 ⟨.some 19,.call (.av (.fn n_base_Cut [])) [(.tmp 18),(.av (.int .u8 10))],.none,[],[]⟩,
 ⟨.some 7,.mv (.tmp 19),.none,[19],[]⟩])
 (.seq (.seq (.reg false [⟨.some 8,.mv (.av (.int .i64 0)),.none,[],[]⟩])
 (.block 0
 l_ref10_Recover_1))
 (.cut [4,5] []
 (.seq (.reg false [⟨.some 105,.mv (.tmp 4),.none,[4],[]⟩,
 ⟨.some 106,.mv (.tmp 5),.none,[],[]⟩,
 ⟨.some 2,.mv (.tmp 105),.none,[105],[]⟩,
 ⟨.some 3,.mv (.tmp 106),.none,[],[]⟩])
 .ret))))))),
 [.tmp 2,.tmp 3], false⟩
theorem c_ref10_Recover : chkFunc Tryz.prog gl n_ref10_Recover a_ref10_Recover = true := by kernel_rfl
/- shotline/shotlinelaw10.entries -/
def b_law10_entries_1 : ACode :=
 (.seq (.seq (.reg false [⟨.some 11,.mv (.tmp 5),.none,[],[]⟩,
 ⟨.some 12,.mv (.tmp 0),.none,[],[]⟩,
 ⟨.some 13,.len false (.tmp 12),.none,[],[]⟩,
 ⟨.some 14,.bin .lss (.tmp 11) (.tmp 13),.none,[],[]⟩])
 (.cond (.tmp 14)
 .skip
 (.exit 0)))
 (.cut [0,1,5] []
 (.seq (.block 1
 (.seq (.reg true [⟨.some 17,.mv (.tmp 0),.none,[],[]⟩,
 ⟨.some 18,.mv (.tmp 5),.none,[],[]⟩,
 ⟨.some 19,.iaddr .none 2 (.tmp 17) (.tmp 18),.none,[],[]⟩,
 ⟨.some 20,.load true false 2 (.tmp 19),.none,[],[]⟩,
 ⟨.some 21,.mv (.tmp 1),.none,[],[]⟩,
 ⟨.some 22,.mv (.tmp 5),.none,[],[]⟩,
 ⟨.some 23,.iaddr .none 2 (.tmp 21) (.tmp 22),.none,[],[]⟩,
 ⟨.some 24,.load true false 2 (.tmp 23),.none,[],[]⟩,
 ⟨.some 25,.eq (.agg [.s,.s]) true (.tmp 20) (.tmp 24),.none,[],[]⟩])
 (.cond (.tmp 25)
 (.seq (.reg false [⟨.some 4,.mv (.av (.bool false)),.none,[],[]⟩])
 .ret)
 .skip)))
 (.cut [0,1,5] []
 (.reg false [⟨.some 15,.mv (.tmp 5),.none,[],[]⟩,
 ⟨.some 16,.bin .add (.tmp 15) (.av (.int .i64 1)),.none,[],[]⟩,
 ⟨.some 5,.mv (.tmp 16),.none,[],[]⟩])))))
def l_law10_entries_1 : ACode := .loop (.cut [0,1,5] [] b_law10_entries_1)
def a_law10_entries : AFunc := ⟨26,
 (.seq (.reg false [⟨.some 4,.mv (.av (.bool false)),.none,[],[]⟩])
 (.seq (.seq (.reg false [⟨.some 6,.mv (.tmp 0),.none,[],[]⟩,
 ⟨.some 7,.len false (.tmp 6),.none,[],[]⟩,
 ⟨.some 8,.mv (.tmp 1),.none,[],[]⟩,
 ⟨.some 9,.len false (.tmp 8),.none,[],[]⟩,
 ⟨.some 10,.bin .neq (.tmp 7) (.tmp 9),.none,[],[]⟩])
 (.cond (.tmp 10)
 (.seq (.reg false [⟨.some 4,.mv (.av (.bool false)),.none,[],[]⟩])
 .ret)
 .skip))
 (.cut [0,1] []
 (.seq (.seq (.reg false [⟨.some 5,.mv (.av (.int .i64 0)),.none,[],[]⟩])
 (.block 0
 l_law10_entries_1))
 (.cut [] []
 (.seq (.reg false [⟨.some 4,.mv (.av (.bool true)),.none,[],[]⟩])
 .ret)))))),
 [.tmp 4], false⟩
theorem c_law10_entries : chkFunc Tryz.prog gl n_law10_entries a_law10_entries = true := by kernel_rfl
/- shotline/desk.SealOf -/
def a_desk_SealOf : AFunc := ⟨25,
 (.seq (.reg false [⟨.some 2,.mv (.av (.int .i64 0)),.none,[],[]⟩,
 ⟨.some 3,.mv (.av (.int .i64 0)),.none,[],[]⟩])
 (.seq (.reg false [⟨.some 7,.mv (.tmp 0),.none,[],[]⟩,
 ⟨.some 8,.call (.av (.fn n_desk_seals [])) [(.tmp 7)],.none,[],[]⟩,
 ⟨.some 6,.mv (.tmp 8),.none,[],[]⟩,
 ⟨.some 9,.extract (.tmp 6) 0,.none,[],[]⟩,
 ⟨.some 10,.extract (.tmp 6) 1,.none,[],[]⟩,
 ⟨.some 4,.mv (.tmp 9),.none,[9],[]⟩,
 ⟨.some 5,.mv (.tmp 10),.none,[],[]⟩])
 (.seq (.seq (.reg false [⟨.some 11,.mv (.tmp 5),.none,[],[]⟩,
 ⟨.some 12,.bin .neq (.tmp 11) (.av (.int .i64 0)),.none,[],[]⟩,
 ⟨.some 13,.mv (.tmp 12),.none,[],[]⟩,
 ⟨.some 14,.mv (.tmp 4),.some (13,false),[],[]⟩,
 ⟨.some 15,.len false (.tmp 14),.some (13,false),[],[]⟩,
 ⟨.some 16,.bin .eql (.tmp 15) (.av (.int .i64 0)),.some (13,false),[],[]⟩,
 ⟨.some 17,.pick (.tmp 13) (.av (.bool true)) (.tmp 16),.none,[],[]⟩])
 (.cond (.tmp 17)
 (.seq (.reg false [⟨.some 18,.mv (.tmp 5),.none,[],[]⟩,
 ⟨.some 2,.mv (.av (.int .i64 0)),.none,[],[]⟩,
 ⟨.some 3,.mv (.tmp 18),.none,[],[]⟩])
 .ret)
 .skip))
 (.cut [4] []
 (.seq (.reg false [⟨.some 19,.mv (.tmp 4),.none,[],[]⟩,
 ⟨.some 20,.mv (.tmp 4),.none,[],[]⟩,
 ⟨.some 21,.len false (.tmp 20),.none,[],[]⟩,
 ⟨.some 22,.bin .sub (.tmp 21) (.av (.int .i64 1)),.none,[],[]⟩,
 ⟨.some 23,.iaddr .none 1 (.tmp 19) (.tmp 22),.none,[],[]⟩,
 ⟨.some 24,.load false false 1 (.tmp 23),.none,[],[]⟩,
 ⟨.some 2,.mv (.tmp 24),.none,[],[]⟩,
 ⟨.some 3,.mv (.av (.int .i64 0)),.none,[],[]⟩])
 .ret))))),
 [.tmp 2,.tmp 3], false⟩
theorem c_desk_SealOf : chkFunc Tryz.prog gl n_desk_SealOf a_desk_SealOf = true := by kernel_rfl
/- shotline/desk.Booked -/
def a_desk_Booked : AFunc := ⟨62,
 (.seq (.reg false [⟨.some 2,.box true (.tmp 0),.none,[],[]⟩,
 ⟨.some 4,.alloc [(.int .i64 0),(.int .i64 0),(.int .i64 0),(.int .i64 0),(.int .i64 0),(.int .i64 0),(.int .i64 0),(.int .i64 0),(.int .i64 0),(.int .i64 0),(.int .i64 0),(.int .i64 0)],.none,[],[]⟩,
 ⟨.some 5,.mv (.av (.int .i64 0)),.none,[],[]⟩])
 (.seq (.reg false [⟨.some 11,.load true false 14 (.tmp 2),.none,[],[]⟩,
 ⟨.some 12,.mv (.tmp 1),.none,[],[]⟩,
 ⟨.some 13,.call (.av (.fn n_desk_open [])) [(.tmp 11),(.tmp 12)],.none,[],[]⟩,
 ⟨.some 10,.mv (.tmp 13),.none,[],[]⟩,
 ⟨.some 14,.extract (.tmp 10) 0,.none,[],[]⟩,
 ⟨.some 15,.extract (.tmp 10) 1,.none,[],[]⟩,
 ⟨.some 16,.extract (.tmp 10) 2,.none,[],[]⟩,
 ⟨.some 6,.mv (.tmp 14),.none,[],[]⟩,
 ⟨.some 7,.mv (.tmp 15),.none,[],[]⟩,
 ⟨.some 8,.mv (.tmp 16),.none,[],[]⟩])
 (.seq (.seq (.reg false [⟨.some 17,.mv (.tmp 8),.none,[],[]⟩,
 ⟨.some 18,.bin .neq (.tmp 17) (.av (.int .i64 0)),.none,[],[]⟩])
 (.cond (.tmp 18)
 (.seq (.reg false [⟨.some 19,.build [(.int .i64 0),(.int .i64 0),(.int .i64 0),(.int .i64 0),(.int .i64 0),(.int .i64 0),(.int .i64 0),(.int .i64 0),(.int .i64 0),(.int .i64 0),(.int .i64 0),(.int .i64 0)] [],.none,[],[]⟩,
 ⟨.some 20,.mv (.tmp 8),.none,[],[]⟩,
 ⟨.none,.store 12 (.tmp 4) (.tmp 19),.none,[19],[]⟩,
 ⟨.some 5,.mv (.tmp 20),.none,[],[]⟩])
 .ret)
 .skip))
 (.cut [4,6] []
 (.seq (.reg true [⟨.some 22,.mv (.tmp 6),.none,[],[]⟩,
 ⟨.some 23,.nilchk (.tmp 22),.none,[],[]⟩,
 ⟨.some 24,.faddr 0 (.tmp 23),.none,[],[]⟩,
 ⟨.some 25,.faddr 0 (.tmp 24),.none,[],[]⟩,
 ⟨.some 26,.load false false 1 (.tmp 25),.none,[],[]⟩,
 ⟨.some 27,.nilchk (.tmp 26),.none,[],[]⟩,
 ⟨.some 28,.faddr 0 (.tmp 27),.none,[],[]⟩,
 ⟨.some 29,.load false false 1 (.tmp 28),.none,[],[]⟩,
 ⟨.some 30,.mv (.tmp 6),.none,[],[]⟩,
 ⟨.some 31,.nilchk (.tmp 30),.none,[],[]⟩,
 ⟨.some 32,.faddr 0 (.tmp 31),.none,[],[]⟩,
 ⟨.some 33,.faddr 1 (.tmp 32),.none,[],[]⟩,
 ⟨.some 34,.faddr 0 (.tmp 33),.none,[],[]⟩,
 ⟨.some 35,.load false false 1 (.tmp 34),.none,[],[]⟩,
 ⟨.some 36,.call (.av (.fn n_mix_Sums [])) [(.tmp 29),(.tmp 35)],.none,[],[14]⟩,
 ⟨.some 21,.mv (.tmp 36),.none,[],[]⟩,
 ⟨.some 37,.extract (.tmp 21) 0,.none,[],[]⟩,
 ⟨.some 38,.extract (.tmp 21) 1,.none,[],[]⟩,
 ⟨.some 9,.alloc [(.int .i64 0),(.int .i64 0),(.int .i64 0),(.int .i64 0),(.int .i64 0),(.int .i64 0)],.none,[],[4,7,13]⟩,
 ⟨.none,.store 6 (.tmp 9) (.tmp 37),.none,[37],[]⟩,
 ⟨.some 8,.mv (.tmp 38),.none,[],[]⟩])
 (.seq (.seq (.reg false [⟨.some 39,.mv (.tmp 8),.none,[],[]⟩,
 ⟨.some 40,.bin .neq (.tmp 39) (.av (.int .i64 0)),.none,[],[]⟩])
 (.cond (.tmp 40)
 (.seq (.reg false [⟨.some 41,.build [(.int .i64 0),(.int .i64 0),(.int .i64 0),(.int .i64 0),(.int .i64 0),(.int .i64 0),(.int .i64 0),(.int .i64 0),(.int .i64 0),(.int .i64 0),(.int .i64 0),(.int .i64 0)] [],.none,[],[]⟩,
 ⟨.some 42,.mv (.tmp 8),.none,[],[]⟩,
 ⟨.none,.store 12 (.tmp 4) (.tmp 41),.none,[41],[]⟩,
 ⟨.some 5,.mv (.tmp 42),.none,[],[]⟩])
 .ret)
 .skip))
 (.cut [4,6,9] []
 (.seq (.reg true [⟨.some 43,.faddr 0 (.tmp 9),.none,[],[]⟩,
 ⟨.some 44,.load true false 3 (.tmp 43),.none,[],[]⟩,
 ⟨.some 45,.mv (.tmp 6),.none,[],[]⟩,
 ⟨.some 46,.nilchk (.tmp 45),.none,[],[]⟩,
 ⟨.some 47,.faddr 0 (.tmp 46),.none,[],[]⟩,
 ⟨.some 48,.faddr 10 (.tmp 47),.none,[],[]⟩,
 ⟨.some 49,.load true false 3 (.tmp 48),.none,[],[]⟩,
 ⟨.some 50,.mv (.tmp 6),.none,[],[]⟩,
 ⟨.some 51,.nilchk (.tmp 50),.none,[],[]⟩,
 ⟨.some 52,.faddr 0 (.tmp 51),.none,[],[]⟩,
 ⟨.some 53,.faddr 13 (.tmp 52),.none,[],[]⟩,
 ⟨.some 54,.load true false 3 (.tmp 53),.none,[],[]⟩,
 ⟨.some 55,.mv (.tmp 6),.none,[],[]⟩,
 ⟨.some 56,.nilchk (.tmp 55),.none,[],[]⟩,
 ⟨.some 57,.faddr 0 (.tmp 56),.none,[],[]⟩,
 ⟨.some 58,.faddr 7 (.tmp 57),.none,[],[]⟩,
 ⟨.some 59,.load false false 1 (.tmp 58),.none,[],[]⟩,
 ⟨.some 60,.call (.av (.fn n_desk_total [])) [(.tmp 59)],.none,[],[17]⟩,
 ⟨.some 61,.build [(.int .i64 0),(.int .i64 0),(.int .i64 0),(.int .i64 0),(.int .i64 0),(.int .i64 0),(.int .i64 0),(.int .i64 0),(.int .i64 0),(.int .i64 0),(.int .i64 0),(.int .i64 0)] [(0,3,(.tmp 44)),(3,3,(.tmp 49)),(6,3,(.tmp 54)),(9,3,(.tmp 60))],.none,[],[]⟩,
 ⟨.none,.store 12 (.tmp 4) (.tmp 61),.none,[61],[]⟩,
 ⟨.some 5,.mv (.av (.int .i64 0)),.none,[],[]⟩])
 .ret)))))))),
 [.cell true 12 4,.tmp 5], false⟩
theorem c_desk_Booked : chkFunc Tryz.prog gl n_desk_Booked a_desk_Booked = true := by kernel_rfl
/- shotline/shotlinelaw10.Diary -/
def a_law10_Diary : AFunc := ⟨5,
 (.seq (.reg false [⟨.some 0,.mv (.av .nils),.none,[],[]⟩])
 (.seq (.reg false [⟨.some 1,.build [(.str []),(.str [])] [(0,1,(.av (.str [98,111,98]))),(1,1,(.av (.str [102,105,108,108,32,105,110,32,48,32,99,49,32,50,49,48,32,48,32,50,52,48,48,48,48,48])))],.none,[],[]⟩,
 ⟨.some 2,.build [(.str []),(.str [])] [(0,1,(.av (.str [97,110,110]))),(1,1,(.av (.str [112,108,97,110,32,112,32,49,48,48,48,32,49,32,50,49,48,32,48,32,54,48,48,32,48,32,48])))],.none,[],[]⟩,
 ⟨.some 3,.build [(.str []),(.str [])] [(0,1,(.av (.str [97,110,110]))),(1,1,(.av (.str [100,105,118,101,32,100,49,32,112,32,97,110,110,32,49,32,51,54,48,48,32,99,49])))],.none,[],[]⟩,
 ⟨.some 4,.bslice true 2 3 [(.str []),(.str [])] [(0,(.tmp 1)),(1,(.tmp 2)),(2,(.tmp 3))],.none,[],[]⟩,
 ⟨.some 0,.mv (.tmp 4),.none,[4],[]⟩])
 .ret)),
 [.tmp 0], false⟩
theorem c_law10_Diary : chkFunc Tryz.prog gl n_law10_Diary a_law10_Diary = true := by kernel_rfl
/- shotline/desk.Breathed -/
def a_desk_Breathed : AFunc := ⟨29,
 (.seq (.reg false [⟨.some 3,.box true (.tmp 0),.none,[],[]⟩,
 ⟨.some 6,.mv (.av .nils),.none,[],[]⟩,
 ⟨.some 7,.mv (.av (.int .i64 0)),.none,[],[]⟩])
 (.seq (.reg false [⟨.some 12,.load true false 14 (.tmp 3),.none,[],[]⟩,
 ⟨.some 13,.mv (.tmp 1),.none,[],[]⟩,
 ⟨.some 14,.mv (.tmp 2),.none,[],[]⟩,
 ⟨.some 15,.call (.av (.fn n_desk_diveAt [])) [(.tmp 12),(.tmp 13),(.tmp 14)],.none,[],[]⟩,
 ⟨.some 11,.mv (.tmp 15),.none,[],[]⟩,
 ⟨.some 16,.extract (.tmp 11) 0,.none,[],[]⟩,
 ⟨.some 17,.extract (.tmp 11) 1,.none,[],[]⟩,
 ⟨.some 18,.extract (.tmp 11) 2,.none,[],[]⟩,
 ⟨.some 8,.mv (.tmp 16),.none,[],[]⟩,
 ⟨.some 9,.mv (.tmp 17),.none,[],[]⟩,
 ⟨.some 10,.mv (.tmp 18),.none,[],[]⟩])
 (.seq (.seq (.reg false [⟨.some 19,.mv (.tmp 10),.none,[],[]⟩,
 ⟨.some 20,.bin .neq (.tmp 19) (.av (.int .i64 0)),.none,[],[]⟩])
 (.cond (.tmp 20)
 (.seq (.reg false [⟨.some 21,.mv (.tmp 10),.none,[],[]⟩,
 ⟨.some 6,.mv (.av .nils),.none,[],[]⟩,
 ⟨.some 7,.mv (.tmp 21),.none,[],[]⟩])
 .ret)
 .skip))
 (.cut [8,9] []
 (.seq (.reg false [⟨.some 22,.mv (.tmp 8),.none,[],[]⟩,
 ⟨.some 23,.nilchk (.tmp 22),.none,[],[]⟩,
 ⟨.some 24,.faddr 0 (.tmp 23),.none,[],[]⟩,
 ⟨.some 25,.mv (.tmp 9),.none,[],[]⟩,
 ⟨.some 26,.call (.av (.fn n_desk_world_breathedIn [])) [(.tmp 24),(.tmp 25)],.none,[],[]⟩,
 ⟨.some 27,.extract (.tmp 26) 0,.none,[],[]⟩,
 ⟨.some 28,.extract (.tmp 26) 1,.none,[],[]⟩,
 ⟨.some 6,.mv (.tmp 27),.none,[27],[]⟩,
 ⟨.some 7,.mv (.tmp 28),.none,[],[]⟩])
 .ret))))),
 [.tmp 6,.tmp 7], false⟩
theorem c_desk_Breathed : chkFunc Tryz.prog gl n_desk_Breathed a_desk_Breathed = true := by kernel_rfl
/- shotline/shotlinebase.Ints -/
def b_base_Ints_1 : ACode :=
 (.seq (.seq (.reg false [⟨.some 11,.mv (.tmp 5),.none,[],[]⟩,
 ⟨.some 12,.mv (.tmp 0),.none,[],[]⟩,
 ⟨.some 13,.len false (.tmp 12),.none,[],[]⟩,
 ⟨.some 14,.bin .lss (.tmp 11) (.tmp 13),.none,[],[]⟩])
 (.cond (.tmp 14)
 .skip
 (.exit 0)))
 (.cut [0,1,5] []
 (.seq (.block 1
 (.seq (.reg true [⟨.some 17,.mv (.tmp 0),.none,[],[]⟩,
 ⟨.some 18,.mv (.tmp 5),.none,[],[]⟩,
 ⟨.some 19,.iaddr .none 1 (.tmp 17) (.tmp 18),.none,[],[]⟩,
 ⟨.some 20,.load false false 1 (.tmp 19),.none,[],[]⟩,
 ⟨.some 21,.mv (.tmp 1),.none,[],[]⟩,
 ⟨.some 22,.mv (.tmp 5),.none,[],[]⟩,
 ⟨.some 23,.iaddr .none 1 (.tmp 21) (.tmp 22),.none,[],[]⟩,
 ⟨.some 24,.load false false 1 (.tmp 23),.none,[],[]⟩,
 ⟨.some 25,.bin .neq (.tmp 20) (.tmp 24),.none,[],[]⟩])
 (.cond (.tmp 25)
 (.seq (.reg false [⟨.some 4,.mv (.av (.bool false)),.none,[],[]⟩])
 .ret)
 .skip)))
 (.cut [0,1,5] []
 (.reg false [⟨.some 15,.mv (.tmp 5),.none,[],[]⟩,
 ⟨.some 16,.bin .add (.tmp 15) (.av (.int .i64 1)),.none,[],[]⟩,
 ⟨.some 5,.mv (.tmp 16),.none,[],[]⟩])))))
def l_base_Ints_1 : ACode := .loop (.cut [0,1,5] [] b_base_Ints_1)
def a_base_Ints : AFunc := ⟨26,
 (.seq (.reg false [⟨.some 4,.mv (.av (.bool false)),.none,[],[]⟩])
 (.seq (.seq (.reg false [⟨.some 6,.mv (.tmp 0),.none,[],[]⟩,
 ⟨.some 7,.len false (.tmp 6),.none,[],[]⟩,
 ⟨.some 8,.mv (.tmp 1),.none,[],[]⟩,
 ⟨.some 9,.len false (.tmp 8),.none,[],[]⟩,
 ⟨.some 10,.bin .neq (.tmp 7) (.tmp 9),.none,[],[]⟩])
 (.cond (.tmp 10)
 (.seq (.reg false [⟨.some 4,.mv (.av (.bool false)),.none,[],[]⟩])
 .ret)
 .skip))
 (.cut [0,1] []
 (.seq (.seq (.reg false [⟨.some 5,.mv (.av (.int .i64 0)),.none,[],[]⟩])
 (.block 0
 l_base_Ints_1))
 (.cut [] []
 (.seq (.reg false [⟨.some 4,.mv (.av (.bool true)),.none,[],[]⟩])
 .ret)))))),
 [.tmp 4], false⟩
theorem c_base_Ints : chkFunc Tryz.prog gl n_base_Ints a_base_Ints = true := by kernel_rfl
/- shotline/shotlinebase.Size -/
def a_base_Size : AFunc := ⟨7,
 (.seq (.reg false [⟨.some 2,.mv (.av (.int .i64 0)),.none,[],[]⟩])
 (.seq (.reg false [⟨.some 3,.mv (.tmp 0),.none,[],[]⟩,
 ⟨.some 4,.mv (.tmp 0),.none,[],[]⟩,
 ⟨.some 5,.un .neg (.tmp 4),.none,[],[]⟩,
 ⟨.some 6,.max2 (.tmp 3) (.tmp 5),.none,[],[]⟩,
 ⟨.some 2,.mv (.tmp 6),.none,[],[]⟩])
 .ret)),
 [.tmp 2], false⟩
theorem c_base_Size : chkFunc Tryz.prog gl n_base_Size a_base_Size = true := by kernel_rfl
/- shotline/desk.open -/
def b_desk_open_1 : ACode :=
 (.seq (.reg false [⟨.some 28,.bin .lss (.tmp 27) (.tmp 26),.none,[],[]⟩])
 (.seq (.cond (.tmp 28)
 .skip
 (.exit 1))
 (.cut [1,7,25,26,27] []
 (.seq (.block 2
 (.seq (.reg false [⟨.some 29,.mv (.tmp 27),.none,[],[]⟩,
 ⟨.some 30,.iaddr .none 2 (.tmp 25) (.tmp 27),.none,[],[]⟩,
 ⟨.some 31,.load true false 2 (.tmp 30),.none,[],[]⟩,
 ⟨.some 10,.alloc [(.str []),(.str [])],.none,[],[]⟩,
 ⟨.some 9,.mv (.tmp 29),.none,[],[]⟩,
 ⟨.none,.store 2 (.tmp 10) (.tmp 31),.none,[31],[]⟩])
 (.seq (.reg false [⟨.some 32,.mv (.tmp 7),.none,[],[]⟩,
 ⟨.some 33,.load true false 2 (.tmp 10),.none,[],[]⟩,
 ⟨.some 34,.call (.av (.fn n_desk_keeper_enter [])) [(.tmp 32),(.tmp 33)],.none,[],[]⟩,
 ⟨.some 11,.mv (.tmp 34),.none,[],[]⟩])
 (.seq (.reg false [⟨.some 35,.mv (.tmp 11),.none,[],[]⟩,
 ⟨.some 36,.bin .neq (.tmp 35) (.av (.int .i64 0)),.none,[],[]⟩])
 (.cond (.tmp 36)
 (.seq (.reg false [⟨.some 37,.mv (.tmp 9),.none,[],[]⟩,
 ⟨.some 38,.mv (.tmp 11),.none,[],[]⟩,
 ⟨.some 4,.mv (.av .nilp),.none,[],[]⟩,
 ⟨.some 5,.mv (.tmp 37),.none,[],[]⟩,
 ⟨.some 6,.mv (.tmp 38),.none,[],[]⟩])
 .ret)
 .skip)))))
 (.cut [1,7,25,26,27] []
 (.reg false [⟨.some 39,.bin .add (.tmp 27) (.av (.int .i64 1)),.none,[],[]⟩,
 ⟨.some 27,.mv (.tmp 39),.none,[],[]⟩]))))))
def l_desk_open_1 : ACode := .loop (.cut [1,7,25,26,27] [[10]] b_desk_open_1)
def a_desk_open : AFunc := ⟨43,
 (.seq (.reg false [⟨.some 2,.box true (.tmp 0),.none,[],[]⟩,
 ⟨.some 4,.mv (.av .nilp),.none,[],[]⟩,
 ⟨.some 5,.mv (.av (.int .i64 0)),.none,[],[]⟩,
 ⟨.some 6,.mv (.av (.int .i64 0)),.none,[],[]⟩])
 (.seq (.reg false [⟨.some 13,.load true false 14 (.tmp 2),.none,[],[]⟩,
 ⟨.some 14,.call (.av (.fn n_desk_newKeeper [])) [(.tmp 13)],.none,[],[]⟩,
 ⟨.some 12,.mv (.tmp 14),.none,[],[]⟩,
 ⟨.some 15,.extract (.tmp 12) 0,.none,[],[]⟩,
 ⟨.some 16,.extract (.tmp 12) 1,.none,[],[]⟩,
 ⟨.some 7,.mv (.tmp 15),.none,[],[]⟩,
 ⟨.some 8,.mv (.tmp 16),.none,[],[]⟩])
 (.seq (.block 0
 (.seq (.reg false [⟨.some 18,.mv (.tmp 8),.none,[],[]⟩,
 ⟨.some 19,.bin .neq (.tmp 18) (.av (.int .i64 0)),.none,[],[]⟩,
 ⟨.some 17,.mv (.tmp 19),.none,[],[]⟩])
 (.cond (.tmp 17)
 (.seq (.reg false [⟨.some 20,.mv (.tmp 8),.none,[],[]⟩,
 ⟨.some 4,.mv (.av .nilp),.none,[],[]⟩,
 ⟨.some 5,.mv (.av (.int .i64 0)),.none,[],[]⟩,
 ⟨.some 6,.mv (.tmp 20),.none,[],[]⟩])
 .ret)
 (.seq (.reg false [⟨.some 22,.mv (.tmp 1),.none,[],[]⟩,
 ⟨.some 23,.len false (.tmp 22),.none,[],[]⟩,
 ⟨.some 24,.bin .gtr (.tmp 23) (.av (.int .i64 60)),.none,[],[]⟩,
 ⟨.some 21,.mv (.tmp 24),.none,[],[]⟩])
 (.cond (.tmp 21)
 (.seq (.reg false [⟨.some 4,.mv (.av .nilp),.none,[],[]⟩,
 ⟨.some 5,.mv (.av (.int .i64 0)),.none,[],[]⟩,
 ⟨.some 6,.mv (.av (.int .i64 8)),.none,[],[]⟩])
 .ret)
 .skip)))))
 (.cut [1,7] []
 (.seq (.seq (.reg false [⟨.some 25,.mv (.tmp 1),.none,[],[]⟩,
 ⟨.some 26,.len false (.tmp 25),.none,[],[]⟩,
 ⟨.some 27,.mv (.av (.int .i64 0)),.none,[],[]⟩])
 (.block 1
 l_desk_open_1))
 (.cut [1,7] []
 (.seq (.reg false [⟨.some 40,.mv (.tmp 7),.none,[],[]⟩,
 ⟨.some 41,.mv (.tmp 1),.none,[],[]⟩,
 ⟨.some 42,.len false (.tmp 41),.none,[],[]⟩,
 ⟨.some 4,.mv (.tmp 40),.none,[],[]⟩,
 ⟨.some 5,.mv (.tmp 42),.none,[],[]⟩,
 ⟨.some 6,.mv (.av (.int .i64 0)),.none,[],[]⟩])
 .ret))))))),
 [.tmp 4,.tmp 5,.tmp 6], true⟩
theorem c_desk_open : chkFunc Tryz.prog gl n_desk_open a_desk_open = true := by kernel_rfl
/- shotline/desk.seal -/
def b_desk_seal_1 : ACode :=
 (.seq (.reg false [⟨.some 16,.bin .lss (.tmp 15) (.tmp 14),.none,[],[]⟩])
 (.seq (.cond (.tmp 16)
 .skip
 (.exit 0))
 (.cut [0,5,14,15] []
 (.seq (.block 1
 (.seq (.reg false [⟨.some 17,.mv (.tmp 15),.none,[],[]⟩,
 ⟨.some 6,.mv (.tmp 17),.none,[],[]⟩])
 (.reg false [⟨.some 18,.mv (.tmp 0),.none,[],[]⟩,
 ⟨.some 19,.bin .mul (.av (.int .i64 257)) (.tmp 18),.none,[],[]⟩,
 ⟨.some 20,.mv (.tmp 5),.none,[],[]⟩,
 ⟨.some 21,.mv (.tmp 6),.none,[],[]⟩,
 ⟨.some 22,.ixstr (.tmp 20) (.tmp 21),.none,[],[]⟩,
 ⟨.some 23,.conv (.int .i64) (.tmp 22),.none,[],[]⟩,
 ⟨.some 24,.bin .add (.tmp 19) (.tmp 23),.none,[],[]⟩,
 ⟨.some 25,.bin .add (.tmp 24) (.av (.int .i64 1)),.none,[],[]⟩,
 ⟨.some 26,.bin .rem (.tmp 25) (.av (.int .i64 999999937)),.none,[],[]⟩,
 ⟨.some 0,.mv (.tmp 26),.none,[],[]⟩])))
 (.cut [0,5,14,15] []
 (.reg false [⟨.some 27,.bin .add (.tmp 15) (.av (.int .i64 1)),.none,[],[]⟩,
 ⟨.some 15,.mv (.tmp 27),.none,[],[]⟩]))))))
def l_desk_seal_1 : ACode := .loop (.cut [0,5,14,15] [] b_desk_seal_1)
def a_desk_seal : AFunc := ⟨29,
 (.seq (.reg false [⟨.some 3,.box true (.tmp 1),.none,[],[]⟩,
 ⟨.some 4,.mv (.av (.int .i64 0)),.none,[],[]⟩])
 (.seq (.reg false [⟨.some 7,.faddr 0 (.tmp 3),.none,[],[]⟩,
 ⟨.some 8,.load false false 1 (.tmp 7),.none,[],[]⟩,
 ⟨.some 9,.bin .add (.tmp 8) (.av (.str [32])),.none,[],[]⟩,
 ⟨.some 10,.faddr 1 (.tmp 3),.none,[],[]⟩,
 ⟨.some 11,.load false false 1 (.tmp 10),.none,[],[]⟩,
 ⟨.some 12,.bin .add (.tmp 9) (.tmp 11),.none,[],[]⟩,
 ⟨.some 5,.mv (.tmp 12),.none,[],[]⟩])
 (.seq (.seq (.reg false [⟨.some 13,.mv (.tmp 5),.none,[],[]⟩,
 ⟨.some 14,.len true (.tmp 13),.none,[],[]⟩,
 ⟨.some 15,.mv (.av (.int .i64 0)),.none,[],[]⟩])
 (.block 0
 l_desk_seal_1))
 (.cut [0] []
 (.seq (.reg false [⟨.some 28,.mv (.tmp 0),.none,[],[]⟩,
 ⟨.some 4,.mv (.tmp 28),.none,[],[]⟩])
 .ret))))),
 [.tmp 4], false⟩
theorem c_desk_seal : chkFunc Tryz.prog gl n_desk_seal a_desk_seal = true := by kernel_rfl
/- shotline/desk.isName -/
def b_desk_isName_1 : ACode :=
 (.seq (.reg false [⟨.some 8,.bin .lss (.tmp 7) (.tmp 6),.none,[],[]⟩])
 (.seq (.cond (.tmp 8)
 .skip
 (.exit 0))
 (.cut [0,6,7] []
 (.seq (.block 1
 (.seq (.reg false [⟨.some 9,.mv (.tmp 7),.none,[],[]⟩,
 ⟨.some 3,.mv (.tmp 9),.none,[],[]⟩])
 (.seq (.reg false [⟨.some 10,.mv (.tmp 0),.none,[],[]⟩,
 ⟨.some 11,.mv (.tmp 3),.none,[],[]⟩,
 ⟨.some 12,.ixstr (.tmp 10) (.tmp 11),.none,[],[]⟩,
 ⟨.some 13,.bin .geq (.tmp 12) (.av (.int .u8 97)),.none,[],[]⟩,
 ⟨.some 14,.mv (.tmp 13),.none,[],[]⟩,
 ⟨.some 15,.mv (.tmp 0),.some (14,true),[],[]⟩,
 ⟨.some 16,.mv (.tmp 3),.some (14,true),[],[]⟩,
 ⟨.some 17,.ixstr (.tmp 15) (.tmp 16),.some (14,true),[],[]⟩,
 ⟨.some 18,.bin .leq (.tmp 17) (.av (.int .u8 122)),.some (14,true),[],[]⟩,
 ⟨.some 19,.pick (.tmp 14) (.tmp 18) (.av (.bool false)),.none,[],[]⟩,
 ⟨.some 20,.mv (.tmp 19),.none,[],[]⟩,
 ⟨.some 21,.mv (.tmp 0),.some (20,false),[],[]⟩,
 ⟨.some 22,.mv (.tmp 3),.some (20,false),[],[]⟩,
 ⟨.some 23,.ixstr (.tmp 21) (.tmp 22),.some (20,false),[],[]⟩,
 ⟨.some 24,.bin .geq (.tmp 23) (.av (.int .u8 65)),.some (20,false),[],[]⟩,
 ⟨.some 25,.mv (.tmp 24),.some (20,false),[],[]⟩,
 ⟨.some 26,.mv (.tmp 0),.some (25,true),[],[]⟩,
 ⟨.some 27,.mv (.tmp 3),.some (25,true),[],[]⟩,
 ⟨.some 28,.ixstr (.tmp 26) (.tmp 27),.some (25,true),[],[]⟩,
 ⟨.some 29,.bin .leq (.tmp 28) (.av (.int .u8 90)),.some (25,true),[],[]⟩,
 ⟨.some 30,.pick (.tmp 25) (.tmp 29) (.av (.bool false)),.some (20,false),[],[]⟩,
 ⟨.some 31,.pick (.tmp 20) (.av (.bool true)) (.tmp 30),.none,[],[]⟩,
 ⟨.some 4,.mv (.tmp 31),.none,[],[]⟩])
 (.seq (.reg false [⟨.some 32,.mv (.tmp 4),.none,[],[]⟩,
 ⟨.some 33,.un .not (.tmp 32),.none,[],[]⟩,
 ⟨.some 34,.mv (.tmp 33),.none,[],[]⟩,
 ⟨.some 35,.mv (.tmp 3),.some (34,true),[],[]⟩,
 ⟨.some 36,.bin .eql (.tmp 35) (.av (.int .i64 0)),.some (34,true),[],[]⟩,
 ⟨.some 37,.mv (.tmp 36),.some (34,true),[],[]⟩,
 ⟨.some 38,.mv (.tmp 0),.some (37,false),[],[]⟩,
 ⟨.some 39,.mv (.tmp 3),.some (37,false),[],[]⟩,
 ⟨.some 40,.ixstr (.tmp 38) (.tmp 39),.some (37,false),[],[]⟩,
 ⟨.some 41,.bin .neq (.tmp 40) (.av (.int .u8 45)),.some (37,false),[],[]⟩,
 ⟨.some 42,.mv (.tmp 41),.some (37,false),[],[]⟩,
 ⟨.some 43,.mv (.tmp 0),.some (42,true),[],[]⟩,
 ⟨.some 44,.mv (.tmp 3),.some (42,true),[],[]⟩,
 ⟨.some 45,.ixstr (.tmp 43) (.tmp 44),.some (42,true),[],[]⟩,
 ⟨.some 46,.bin .lss (.tmp 45) (.av (.int .u8 48)),.some (42,true),[],[]⟩,
 ⟨.some 47,.mv (.tmp 46),.some (42,true),[],[]⟩,
 ⟨.some 48,.mv (.tmp 0),.some (47,false),[],[]⟩,
 ⟨.some 49,.mv (.tmp 3),.some (47,false),[],[]⟩,
 ⟨.some 50,.ixstr (.tmp 48) (.tmp 49),.some (47,false),[],[]⟩,
 ⟨.some 51,.bin .gtr (.tmp 50) (.av (.int .u8 57)),.some (47,false),[],[]⟩,
 ⟨.some 52,.pick (.tmp 47) (.av (.bool true)) (.tmp 51),.some (42,true),[],[]⟩,
 ⟨.some 53,.pick (.tmp 42) (.tmp 52) (.av (.bool false)),.some (37,false),[],[]⟩,
 ⟨.some 54,.pick (.tmp 37) (.av (.bool true)) (.tmp 53),.some (34,true),[],[]⟩,
 ⟨.some 55,.pick (.tmp 34) (.tmp 54) (.av (.bool false)),.none,[],[]⟩])
 (.cond (.tmp 55)
 (.seq (.reg false [⟨.some 2,.mv (.av (.bool false)),.none,[],[]⟩])
 .ret)
 .skip)))))
 (.cut [0,6,7] []
 (.reg false [⟨.some 56,.bin .add (.tmp 7) (.av (.int .i64 1)),.none,[],[]⟩,
 ⟨.some 7,.mv (.tmp 56),.none,[],[]⟩]))))))
def l_desk_isName_1 : ACode := .loop (.cut [0,6,7] [] b_desk_isName_1)
def a_desk_isName : AFunc := ⟨64,
 (.seq (.reg false [⟨.some 2,.mv (.av (.bool false)),.none,[],[]⟩])
 (.seq (.seq (.reg false [⟨.some 5,.mv (.tmp 0),.none,[],[]⟩,
 ⟨.some 6,.len true (.tmp 5),.none,[],[]⟩,
 ⟨.some 7,.mv (.av (.int .i64 0)),.none,[],[]⟩])
 (.block 0
 l_desk_isName_1))
 (.cut [0] []
 (.seq (.reg false [⟨.some 57,.mv (.tmp 0),.none,[],[]⟩,
 ⟨.some 58,.bin .neq (.tmp 57) (.av (.str [])),.none,[],[]⟩,
 ⟨.some 59,.mv (.tmp 58),.none,[],[]⟩,
 ⟨.some 60,.mv (.tmp 0),.some (59,true),[],[]⟩,
 ⟨.some 61,.len true (.tmp 60),.some (59,true),[],[]⟩,
 ⟨.some 62,.bin .leq (.tmp 61) (.av (.int .i64 12)),.some (59,true),[],[]⟩,
 ⟨.some 63,.pick (.tmp 59) (.tmp 62) (.av (.bool false)),.none,[],[]⟩,
 ⟨.some 2,.mv (.tmp 63),.none,[],[]⟩])
 .ret)))),
 [.tmp 2], false⟩
theorem c_desk_isName : chkFunc Tryz.prog gl n_desk_isName a_desk_isName = true := by kernel_rfl
/- shotline/shotlinebase.Cut -/
def b_base_Cut_1 : ACode :=
 (.seq (.seq (.reg false [⟨.some 8,.mv (.tmp 7),.none,[],[]⟩,
 ⟨.some 9,.mv (.tmp 0),.none,[],[]⟩,
 ⟨.some 10,.len true (.tmp 9),.none,[],[]⟩,
 ⟨.some 11,.bin .lss (.tmp 8) (.tmp 10),.none,[],[]⟩])
 (.cond (.tmp 11)
 .skip
 (.exit 0)))
 (.cut [0,1,5,6,7] []
 (.seq (.block 1
 (.seq (.reg false [⟨.some 14,.mv (.tmp 0),.none,[],[]⟩,
 ⟨.some 15,.mv (.tmp 7),.none,[],[]⟩,
 ⟨.some 16,.ixstr (.tmp 14) (.tmp 15),.none,[],[]⟩,
 ⟨.some 17,.mv (.tmp 1),.none,[],[]⟩,
 ⟨.some 18,.bin .eql (.tmp 16) (.tmp 17),.none,[],[]⟩])
 (.cond (.tmp 18)
 (.seq (.reg false [⟨.some 19,.mv (.tmp 5),.none,[5],[]⟩,
 ⟨.some 20,.mv (.tmp 0),.none,[],[]⟩,
 ⟨.some 21,.mv (.tmp 6),.none,[],[]⟩,
 ⟨.some 22,.mv (.tmp 7),.none,[],[]⟩,
 ⟨.some 23,.slice .str (.tmp 20) (.some (.tmp 21)) (.some (.tmp 22)) .none,.none,[],[]⟩,
 ⟨.some 24,.bslice true 1 1 [(.str [])] [(0,(.tmp 23))],.none,[],[]⟩,
 ⟨.some 25,.append 1 16 (.tmp 19) (.tmp 24),.none,[19],[]⟩,
 ⟨.some 5,.mv (.tmp 25),.none,[25],[]⟩])
 (.reg false [⟨.some 26,.mv (.tmp 7),.none,[],[]⟩,
 ⟨.some 27,.bin .add (.tmp 26) (.av (.int .i64 1)),.none,[],[]⟩,
 ⟨.some 6,.mv (.tmp 27),.none,[],[]⟩]))
 .skip)))
 (.cut [0,1,5,6,7] []
 (.reg false [⟨.some 12,.mv (.tmp 7),.none,[],[]⟩,
 ⟨.some 13,.bin .add (.tmp 12) (.av (.int .i64 1)),.none,[],[]⟩,
 ⟨.some 7,.mv (.tmp 13),.none,[],[]⟩])))))
def l_base_Cut_1 : ACode := .loop (.cut [0,1,5,6,7] [] b_base_Cut_1)
def a_base_Cut : AFunc := ⟨34,
 (.seq (.reg false [⟨.some 4,.mv (.av .nils),.none,[],[]⟩])
 (.seq (.reg false [⟨.some 5,.mv (.av .nils),.none,[],[]⟩])
 (.seq (.reg false [⟨.some 6,.mv (.av (.int .i64 0)),.none,[],[]⟩])
 (.seq (.seq (.reg false [⟨.some 7,.mv (.av (.int .i64 0)),.none,[],[]⟩])
 (.block 0
 l_base_Cut_1))
 (.cut [0,5,6] []
 (.seq (.reg false [⟨.some 28,.mv (.tmp 5),.none,[5],[]⟩,
 ⟨.some 29,.mv (.tmp 0),.none,[],[]⟩,
 ⟨.some 30,.mv (.tmp 6),.none,[],[]⟩,
 ⟨.some 31,.slice .str (.tmp 29) (.some (.tmp 30)) .none .none,.none,[],[]⟩,
 ⟨.some 32,.bslice true 1 1 [(.str [])] [(0,(.tmp 31))],.none,[],[]⟩,
 ⟨.some 33,.append 1 16 (.tmp 28) (.tmp 32),.none,[28],[]⟩,
 ⟨.some 4,.mv (.tmp 33),.none,[33],[]⟩])
 .ret)))))),
 [.tmp 4], false⟩
theorem c_base_Cut : chkFunc Tryz.prog gl n_base_Cut a_base_Cut = true := by kernel_rfl
/- shotline/shotlineref10.head -/
def b_ref10_head_1 : ACode :=
 (.seq (.seq (.reg false [⟨.some 6,.mv (.tmp 5),.none,[],[]⟩,
 ⟨.some 7,.mv (.tmp 0),.none,[],[]⟩,
 ⟨.some 8,.len true (.tmp 7),.none,[],[]⟩,
 ⟨.some 9,.bin .lss (.tmp 6) (.tmp 8),.none,[],[]⟩])
 (.cond (.tmp 9)
 .skip
 (.exit 0)))
 (.cut [0,5] []
 (.seq (.block 1
 (.seq (.reg false [⟨.some 12,.mv (.tmp 0),.none,[],[]⟩,
 ⟨.some 13,.mv (.tmp 5),.none,[],[]⟩,
 ⟨.some 14,.ixstr (.tmp 12) (.tmp 13),.none,[],[]⟩,
 ⟨.some 15,.bin .eql (.tmp 14) (.av (.int .u8 32)),.none,[],[]⟩])
 (.cond (.tmp 15)
 (.seq (.reg true [⟨.some 16,.mv (.tmp 0),.none,[],[]⟩,
 ⟨.some 17,.mv (.tmp 5),.none,[],[]⟩,
 ⟨.some 18,.slice .str (.tmp 16) .none (.some (.tmp 17)) .none,.none,[],[]⟩,
 ⟨.some 19,.mv (.tmp 0),.none,[],[]⟩,
 ⟨.some 20,.mv (.tmp 5),.none,[],[]⟩,
 ⟨.some 21,.bin .add (.tmp 20) (.av (.int .i64 1)),.none,[],[]⟩,
 ⟨.some 22,.slice .str (.tmp 19) (.some (.tmp 21)) .none .none,.none,[],[]⟩,
 ⟨.some 2,.mv (.tmp 18),.none,[],[]⟩,
 ⟨.some 3,.mv (.tmp 22),.none,[],[]⟩,
 ⟨.some 4,.mv (.av (.bool true)),.none,[],[]⟩])
 .ret)
 .skip)))
 (.cut [0,5] []
 (.reg false [⟨.some 10,.mv (.tmp 5),.none,[],[]⟩,
 ⟨.some 11,.bin .add (.tmp 10) (.av (.int .i64 1)),.none,[],[]⟩,
 ⟨.some 5,.mv (.tmp 11),.none,[],[]⟩])))))
def l_ref10_head_1 : ACode := .loop (.cut [0,5] [] b_ref10_head_1)
def a_ref10_head : AFunc := ⟨24,
 (.seq (.reg false [⟨.some 2,.mv (.av (.str [])),.none,[],[]⟩,
 ⟨.some 3,.mv (.av (.str [])),.none,[],[]⟩,
 ⟨.some 4,.mv (.av (.bool false)),.none,[],[]⟩])
 (.seq (.seq (.reg false [⟨.some 5,.mv (.av (.int .i64 0)),.none,[],[]⟩])
 (.block 0
 l_ref10_head_1))
 (.cut [0] []
 (.seq (.reg false [⟨.some 23,.mv (.tmp 0),.none,[],[]⟩,
 ⟨.some 2,.mv (.tmp 23),.none,[],[]⟩,
 ⟨.some 3,.mv (.av (.str [])),.none,[],[]⟩,
 ⟨.some 4,.mv (.av (.bool false)),.none,[],[]⟩])
 .ret)))),
 [.tmp 2,.tmp 3,.tmp 4], false⟩
theorem c_ref10_head : chkFunc Tryz.prog gl n_ref10_head a_ref10_head = true := by kernel_rfl
/- shotline/shotlinebase.IsName -/
def b_base_IsName_1 : ACode :=
 (.seq (.seq (.reg false [⟨.some 14,.mv (.tmp 3),.none,[],[]⟩,
 ⟨.some 15,.mv (.tmp 0),.none,[],[]⟩,
 ⟨.some 16,.len true (.tmp 15),.none,[],[]⟩,
 ⟨.some 17,.bin .lss (.tmp 14) (.tmp 16),.none,[],[]⟩])
 (.cond (.tmp 17)
 .skip
 (.exit 0)))
 (.cut [0,3] []
 (.seq (.block 1
 (.seq (.reg false [⟨.some 20,.mv (.tmp 0),.none,[],[]⟩,
 ⟨.some 21,.mv (.tmp 3),.none,[],[]⟩,
 ⟨.some 22,.ixstr (.tmp 20) (.tmp 21),.none,[],[]⟩,
 ⟨.some 4,.mv (.tmp 22),.none,[],[]⟩])
 (.seq (.reg false [⟨.some 23,.mv (.tmp 4),.none,[],[]⟩,
 ⟨.some 24,.bin .geq (.tmp 23) (.av (.int .u8 97)),.none,[],[]⟩,
 ⟨.some 25,.mv (.tmp 24),.none,[],[]⟩,
 ⟨.some 26,.mv (.tmp 4),.some (25,true),[],[]⟩,
 ⟨.some 27,.bin .leq (.tmp 26) (.av (.int .u8 122)),.some (25,true),[],[]⟩,
 ⟨.some 28,.pick (.tmp 25) (.tmp 27) (.av (.bool false)),.none,[],[]⟩,
 ⟨.some 29,.mv (.tmp 28),.none,[],[]⟩,
 ⟨.some 30,.mv (.tmp 4),.some (29,false),[],[]⟩,
 ⟨.some 31,.bin .geq (.tmp 30) (.av (.int .u8 65)),.some (29,false),[],[]⟩,
 ⟨.some 32,.mv (.tmp 31),.some (29,false),[],[]⟩,
 ⟨.some 33,.mv (.tmp 4),.some (32,true),[],[]⟩,
 ⟨.some 34,.bin .leq (.tmp 33) (.av (.int .u8 90)),.some (32,true),[],[]⟩,
 ⟨.some 35,.pick (.tmp 32) (.tmp 34) (.av (.bool false)),.some (29,false),[],[]⟩,
 ⟨.some 36,.pick (.tmp 29) (.av (.bool true)) (.tmp 35),.none,[],[]⟩,
 ⟨.some 5,.mv (.tmp 36),.none,[],[]⟩])
 (.seq (.reg false [⟨.some 37,.mv (.tmp 5),.none,[],[]⟩,
 ⟨.some 38,.un .not (.tmp 37),.none,[],[]⟩,
 ⟨.some 39,.mv (.tmp 38),.none,[],[]⟩,
 ⟨.some 40,.mv (.tmp 3),.some (39,true),[],[]⟩,
 ⟨.some 41,.bin .eql (.tmp 40) (.av (.int .i64 0)),.some (39,true),[],[]⟩,
 ⟨.some 42,.mv (.tmp 41),.some (39,true),[],[]⟩,
 ⟨.some 43,.mv (.tmp 4),.some (42,false),[],[]⟩,
 ⟨.some 44,.bin .neq (.tmp 43) (.av (.int .u8 45)),.some (42,false),[],[]⟩,
 ⟨.some 45,.mv (.tmp 44),.some (42,false),[],[]⟩,
 ⟨.some 46,.mv (.tmp 4),.some (45,true),[],[]⟩,
 ⟨.some 47,.bin .lss (.tmp 46) (.av (.int .u8 48)),.some (45,true),[],[]⟩,
 ⟨.some 48,.mv (.tmp 47),.some (45,true),[],[]⟩,
 ⟨.some 49,.mv (.tmp 4),.some (48,false),[],[]⟩,
 ⟨.some 50,.bin .gtr (.tmp 49) (.av (.int .u8 57)),.some (48,false),[],[]⟩,
 ⟨.some 51,.pick (.tmp 48) (.av (.bool true)) (.tmp 50),.some (45,true),[],[]⟩,
 ⟨.some 52,.pick (.tmp 45) (.tmp 51) (.av (.bool false)),.some (42,false),[],[]⟩,
 ⟨.some 53,.pick (.tmp 42) (.av (.bool true)) (.tmp 52),.some (39,true),[],[]⟩,
 ⟨.some 54,.pick (.tmp 39) (.tmp 53) (.av (.bool false)),.none,[],[]⟩])
 (.cond (.tmp 54)
 (.seq (.reg false [⟨.some 2,.mv (.av (.bool false)),.none,[],[]⟩])
 .ret)
 .skip)))))
 (.cut [0,3] []
 (.reg false [⟨.some 18,.mv (.tmp 3),.none,[],[]⟩,
 ⟨.some 19,.bin .add (.tmp 18) (.av (.int .i64 1)),.none,[],[]⟩,
 ⟨.some 3,.mv (.tmp 19),.none,[],[]⟩])))))
def l_base_IsName_1 : ACode := .loop (.cut [0,3] [] b_base_IsName_1)
def a_base_IsName : AFunc := ⟨55,
 (.seq (.reg false [⟨.some 2,.mv (.av (.bool false)),.none,[],[]⟩])
 (.seq (.seq (.reg false [⟨.some 6,.mv (.tmp 0),.none,[],[]⟩,
 ⟨.some 7,.len true (.tmp 6),.none,[],[]⟩,
 ⟨.some 8,.bin .lss (.tmp 7) (.av (.int .i64 1)),.none,[],[]⟩,
 ⟨.some 9,.mv (.tmp 8),.none,[],[]⟩,
 ⟨.some 10,.mv (.tmp 0),.some (9,false),[],[]⟩,
 ⟨.some 11,.len true (.tmp 10),.some (9,false),[],[]⟩,
 ⟨.some 12,.bin .gtr (.tmp 11) (.av (.int .i64 12)),.some (9,false),[],[]⟩,
 ⟨.some 13,.pick (.tmp 9) (.av (.bool true)) (.tmp 12),.none,[],[]⟩])
 (.cond (.tmp 13)
 (.seq (.reg false [⟨.some 2,.mv (.av (.bool false)),.none,[],[]⟩])
 .ret)
 .skip))
 (.cut [0] []
 (.seq (.seq (.reg false [⟨.some 3,.mv (.av (.int .i64 0)),.none,[],[]⟩])
 (.block 0
 l_base_IsName_1))
 (.cut [] []
 (.seq (.reg false [⟨.some 2,.mv (.av (.bool true)),.none,[],[]⟩])
 .ret)))))),
 [.tmp 2], false⟩
theorem c_base_IsName : chkFunc Tryz.prog gl n_base_IsName a_base_IsName = true := by kernel_rfl
/- shotline/shotlineref10.seal -/
def b_ref10_seal_1 : ACode :=
 (.seq (.seq (.reg false [⟨.some 13,.mv (.tmp 6),.none,[],[]⟩,
 ⟨.some 14,.mv (.tmp 5),.none,[],[]⟩,
 ⟨.some 15,.len true (.tmp 14),.none,[],[]⟩,
 ⟨.some 16,.bin .lss (.tmp 13) (.tmp 15),.none,[],[]⟩])
 (.cond (.tmp 16)
 .skip
 (.exit 0)))
 (.cut [0,5,6] []
 (.seq (.block 1
 (.reg false [⟨.some 19,.mv (.tmp 0),.none,[],[]⟩,
 ⟨.some 20,.bin .mul (.av (.int .i64 257)) (.tmp 19),.none,[],[]⟩,
 ⟨.some 21,.mv (.tmp 5),.none,[],[]⟩,
 ⟨.some 22,.mv (.tmp 6),.none,[],[]⟩,
 ⟨.some 23,.ixstr (.tmp 21) (.tmp 22),.none,[],[]⟩,
 ⟨.some 24,.conv (.int .i64) (.tmp 23),.none,[],[]⟩,
 ⟨.some 25,.bin .add (.tmp 20) (.tmp 24),.none,[],[]⟩,
 ⟨.some 26,.bin .add (.tmp 25) (.av (.int .i64 1)),.none,[],[]⟩,
 ⟨.some 27,.bin .rem (.tmp 26) (.av (.int .i64 999999937)),.none,[],[]⟩,
 ⟨.some 0,.mv (.tmp 27),.none,[],[]⟩]))
 (.cut [0,5,6] []
 (.reg false [⟨.some 17,.mv (.tmp 6),.none,[],[]⟩,
 ⟨.some 18,.bin .add (.tmp 17) (.av (.int .i64 1)),.none,[],[]⟩,
 ⟨.some 6,.mv (.tmp 18),.none,[],[]⟩])))))
def l_ref10_seal_1 : ACode := .loop (.cut [0,5,6] [] b_ref10_seal_1)
def a_ref10_seal : AFunc := ⟨29,
 (.seq (.reg false [⟨.some 3,.box true (.tmp 1),.none,[],[]⟩,
 ⟨.some 4,.mv (.av (.int .i64 0)),.none,[],[]⟩])
 (.seq (.reg false [⟨.some 7,.faddr 0 (.tmp 3),.none,[],[]⟩,
 ⟨.some 8,.load false false 1 (.tmp 7),.none,[],[]⟩,
 ⟨.some 9,.bin .add (.tmp 8) (.av (.str [32])),.none,[],[]⟩,
 ⟨.some 10,.faddr 1 (.tmp 3),.none,[],[]⟩,
 ⟨.some 11,.load false false 1 (.tmp 10),.none,[],[]⟩,
 ⟨.some 12,.bin .add (.tmp 9) (.tmp 11),.none,[],[]⟩,
 ⟨.some 5,.mv (.tmp 12),.none,[],[]⟩])
 (.seq (.seq (.reg false [⟨.some 6,.mv (.av (.int .i64 0)),.none,[],[]⟩])
 (.block 0
 l_ref10_seal_1))
 (.cut [0] []
 (.seq (.reg false [⟨.some 28,.mv (.tmp 0),.none,[],[]⟩,
 ⟨.some 4,.mv (.tmp 28),.none,[],[]⟩])
 .ret))))),
 [.tmp 4], false⟩
theorem c_ref10_seal : chkFunc Tryz.prog gl n_ref10_seal a_ref10_seal = true := by kernel_rfl
/- shotline/desk.seals -/
def b_desk_seals_1 : ACode :=
 (.seq (.reg false [⟨.some 14,.bin .lss (.tmp 13) (.tmp 12),.none,[],[]⟩])
 (.seq (.cond (.tmp 14)
 .skip
 (.exit 0))
 (.cut [4,5,11,12,13] []
 (.seq (.block 1
 (.seq (.reg false [⟨.some 15,.iaddr .none 2 (.tmp 11) (.tmp 13),.none,[],[]⟩,
 ⟨.some 16,.load true false 2 (.tmp 15),.none,[],[]⟩,
 ⟨.some 7,.alloc [(.str []),(.str [])],.none,[],[]⟩,
 ⟨.none,.store 2 (.tmp 7) (.tmp 16),.none,[16],[]⟩])
 (.seq (.block 2
 (.seq (.reg false [⟨.some 18,.faddr 0 (.tmp 7),.none,[],[]⟩,
 ⟨.some 19,.load false false 1 (.tmp 18),.none,[],[]⟩,
 ⟨.some 20,.call (.av (.fn n_desk_isName [])) [(.tmp 19)],.none,[],[]⟩,
 ⟨.some 21,.un .not (.tmp 20),.none,[],[]⟩,
 ⟨.some 17,.mv (.tmp 21),.none,[],[]⟩])
 (.cond (.tmp 17)
 (.seq (.reg false [⟨.some 2,.mv (.av .nils),.none,[],[]⟩,
 ⟨.some 3,.mv (.av (.int .i64 4)),.none,[],[]⟩])
 .ret)
 (.seq (.reg false [⟨.some 23,.faddr 1 (.tmp 7),.none,[],[]⟩,
 ⟨.some 24,.load false false 1 (.tmp 23),.none,[],[]⟩,
 ⟨.some 25,.len true (.tmp 24),.none,[],[]⟩,
 ⟨.some 26,.bin .gtr (.tmp 25) (.av (.int .i64 400)),.none,[],[]⟩,
 ⟨.some 22,.mv (.tmp 26),.none,[],[]⟩])
 (.cond (.tmp 22)
 (.seq (.reg false [⟨.some 2,.mv (.av .nils),.none,[],[]⟩,
 ⟨.some 3,.mv (.av (.int .i64 8)),.none,[],[]⟩])
 .ret)
 (.seq (.reg false [⟨.some 28,.faddr 1 (.tmp 7),.none,[],[]⟩,
 ⟨.some 29,.load false false 1 (.tmp 28),.none,[],[]⟩,
 ⟨.some 30,.call (.av (.fn n_strings_Contains [])) [(.tmp 29),(.av (.str [10]))],.none,[],[]⟩,
 ⟨.some 27,.mv (.tmp 30),.none,[],[]⟩])
 (.cond (.tmp 27)
 (.seq (.reg false [⟨.some 2,.mv (.av .nils),.none,[],[]⟩,
 ⟨.some 3,.mv (.av (.int .i64 7)),.none,[],[]⟩])
 .ret)
 .skip)))))))
 (.cut [4,5,7,11,12,13] []
 (.seq (.reg false [⟨.some 31,.mv (.tmp 5),.none,[],[]⟩,
 ⟨.some 32,.load true false 2 (.tmp 7),.none,[],[]⟩,
 ⟨.some 33,.call (.av (.fn n_desk_seal [])) [(.tmp 31),(.tmp 32)],.none,[],[]⟩,
 ⟨.some 5,.mv (.tmp 33),.none,[],[]⟩])
 (.reg false [⟨.some 34,.mv (.tmp 4),.none,[4],[]⟩,
 ⟨.some 35,.mv (.tmp 5),.none,[],[]⟩,
 ⟨.some 36,.bslice true 1 1 [(.int .i64 0)] [(0,(.tmp 35))],.none,[],[]⟩,
 ⟨.some 37,.append 1 8 (.tmp 34) (.tmp 36),.none,[34],[]⟩,
 ⟨.some 4,.mv (.tmp 37),.none,[37],[]⟩]))))))
 (.cut [4,5,11,12,13] []
 (.reg false [⟨.some 38,.bin .add (.tmp 13) (.av (.int .i64 1)),.none,[],[]⟩,
 ⟨.some 13,.mv (.tmp 38),.none,[],[]⟩]))))))
def l_desk_seals_1 : ACode := .loop (.cut [4,5,11,12,13] [[7]] b_desk_seals_1)
def a_desk_seals : AFunc := ⟨40,
 (.seq (.reg false [⟨.some 2,.mv (.av .nils),.none,[],[]⟩,
 ⟨.some 3,.mv (.av (.int .i64 0)),.none,[],[]⟩])
 (.seq (.seq (.reg false [⟨.some 8,.mv (.tmp 0),.none,[],[]⟩,
 ⟨.some 9,.len false (.tmp 8),.none,[],[]⟩,
 ⟨.some 10,.bin .gtr (.tmp 9) (.av (.int .i64 60)),.none,[],[]⟩])
 (.cond (.tmp 10)
 (.seq (.reg false [⟨.some 2,.mv (.av .nils),.none,[],[]⟩,
 ⟨.some 3,.mv (.av (.int .i64 8)),.none,[],[]⟩])
 .ret)
 .skip))
 (.cut [0] []
 (.seq (.reg false [⟨.some 4,.mv (.av .nils),.none,[],[]⟩])
 (.seq (.reg false [⟨.some 5,.mv (.av (.int .i64 0)),.none,[],[]⟩])
 (.seq (.seq (.reg false [⟨.some 11,.mv (.tmp 0),.none,[],[]⟩,
 ⟨.some 12,.len false (.tmp 11),.none,[],[]⟩,
 ⟨.some 13,.mv (.av (.int .i64 0)),.none,[],[]⟩])
 (.block 0
 l_desk_seals_1))
 (.cut [4] []
 (.seq (.reg false [⟨.some 39,.mv (.tmp 4),.none,[4],[]⟩,
 ⟨.some 2,.mv (.tmp 39),.none,[39],[]⟩,
 ⟨.some 3,.mv (.av (.int .i64 0)),.none,[],[]⟩])
 .ret)))))))),
 [.tmp 2,.tmp 3], false⟩
theorem c_desk_seals : chkFunc Tryz.prog gl n_desk_seals a_desk_seals = true := by kernel_rfl
/- shotline/mix.Sums -/
def a_mix_Sums : AFunc := ⟨31,
 (.seq (.reg false [⟨.some 4,.alloc [(.int .i64 0),(.int .i64 0),(.int .i64 0),(.int .i64 0),(.int .i64 0),(.int .i64 0)],.none,[],[]⟩,
 ⟨.some 5,.mv (.av (.int .i64 0)),.none,[],[]⟩])
 (.seq (.reg false [⟨.some 10,.mv (.tmp 0),.none,[],[]⟩,
 ⟨.some 11,.mv (.tmp 1),.none,[],[]⟩,
 ⟨.some 12,.call (.av (.fn n_mix_read [])) [(.tmp 10),(.tmp 11)],.none,[],[]⟩,
 ⟨.some 9,.mv (.tmp 12),.none,[],[]⟩,
 ⟨.some 13,.extract (.tmp 9) 0,.none,[],[]⟩,
 ⟨.some 14,.extract (.tmp 9) 1,.none,[],[]⟩,
 ⟨.some 15,.extract (.tmp 9) 2,.none,[],[]⟩,
 ⟨.some 6,.mv (.tmp 13),.none,[],[]⟩,
 ⟨.some 7,.mv (.tmp 14),.none,[],[]⟩,
 ⟨.some 8,.mv (.tmp 15),.none,[],[]⟩])
 (.seq (.seq (.reg false [⟨.some 16,.mv (.tmp 8),.none,[],[]⟩,
 ⟨.some 17,.bin .neq (.tmp 16) (.av (.int .i64 0)),.none,[],[]⟩])
 (.cond (.tmp 17)
 (.seq (.reg false [⟨.some 18,.build [(.int .i64 0),(.int .i64 0),(.int .i64 0),(.int .i64 0),(.int .i64 0),(.int .i64 0)] [],.none,[],[]⟩,
 ⟨.some 19,.mv (.tmp 8),.none,[],[]⟩,
 ⟨.none,.store 6 (.tmp 4) (.tmp 18),.none,[18],[]⟩,
 ⟨.some 5,.mv (.tmp 19),.none,[],[]⟩])
 .ret)
 .skip))
 (.cut [4,6] []
 (.seq (.reg true [⟨.some 20,.mv (.tmp 6),.none,[],[]⟩,
 ⟨.some 21,.nilchk (.tmp 20),.none,[],[]⟩,
 ⟨.some 22,.faddr 2 (.tmp 21),.none,[],[]⟩,
 ⟨.some 23,.load true false 3 (.tmp 22),.none,[],[]⟩,
 ⟨.some 24,.call (.av (.fn n_mix_gases_content [])) [(.tmp 23)],.none,[],[4]⟩,
 ⟨.some 25,.mv (.tmp 6),.none,[],[]⟩,
 ⟨.some 26,.nilchk (.tmp 25),.none,[],[]⟩,
 ⟨.some 27,.faddr 5 (.tmp 26),.none,[],[]⟩,
 ⟨.some 28,.load true false 3 (.tmp 27),.none,[],[]⟩,
 ⟨.some 29,.call (.av (.fn n_mix_gases_content [])) [(.tmp 28)],.none,[],[]⟩,
 ⟨.some 30,.build [(.int .i64 0),(.int .i64 0),(.int .i64 0),(.int .i64 0),(.int .i64 0),(.int .i64 0)] [(0,3,(.tmp 24)),(3,3,(.tmp 29))],.none,[],[]⟩,
 ⟨.none,.store 6 (.tmp 4) (.tmp 30),.none,[30],[]⟩,
 ⟨.some 5,.mv (.av (.int .i64 0)),.none,[],[]⟩])
 .ret))))),
 [.cell true 6 4,.tmp 5], false⟩
theorem c_mix_Sums : chkFunc Tryz.prog gl n_mix_Sums a_mix_Sums = true := by kernel_rfl
/- shotline/desk.total -/
def b_desk_total_1 : ACode :=
 (.seq (.reg false [⟨.some 9,.bin .lss (.tmp 8) (.tmp 7),.none,[],[]⟩])
 (.seq (.cond (.tmp 9)
 .skip
 (.exit 0))
 (.cut [2,3,6,7,8] []
 (.seq (.block 1
 (.seq (.reg false [⟨.some 10,.iaddr .none 3 (.tmp 6) (.tmp 8),.none,[],[]⟩,
 ⟨.some 11,.load true false 3 (.tmp 10),.none,[],[]⟩,
 ⟨.some 5,.alloc [(.int .i64 0),(.int .i64 0),(.int .i64 0)],.none,[],[]⟩,
 ⟨.none,.store 3 (.tmp 5) (.tmp 11),.none,[11],[]⟩])
 (.reg false [⟨.some 12,.load true false 3 (.tmp 3),.none,[],[]⟩,
 ⟨.some 13,.load true false 3 (.tmp 5),.none,[],[]⟩,
 ⟨.some 14,.call (.av (.fn n_desk_plus [])) [(.tmp 12),(.tmp 13)],.none,[],[]⟩,
 ⟨.none,.store 3 (.tmp 3) (.tmp 14),.none,[14],[]⟩])))
 (.cut [2,3,6,7,8] []
 (.reg false [⟨.some 15,.bin .add (.tmp 8) (.av (.int .i64 1)),.none,[],[]⟩,
 ⟨.some 8,.mv (.tmp 15),.none,[],[]⟩]))))))
def l_desk_total_1 : ACode := .loop (.cut [2,3,6,7,8] [[5]] b_desk_total_1)
def a_desk_total : AFunc := ⟨17,
 (.seq (.reg false [⟨.some 2,.alloc [(.int .i64 0),(.int .i64 0),(.int .i64 0)],.none,[],[]⟩])
 (.seq (.reg false [⟨.some 3,.alloc [(.int .i64 0),(.int .i64 0),(.int .i64 0)],.none,[],[]⟩])
 (.seq (.seq (.reg false [⟨.some 6,.mv (.tmp 0),.none,[],[]⟩,
 ⟨.some 7,.len false (.tmp 6),.none,[],[]⟩,
 ⟨.some 8,.mv (.av (.int .i64 0)),.none,[],[]⟩])
 (.block 0
 l_desk_total_1))
 (.cut [2,3] []
 (.seq (.reg false [⟨.some 16,.load true false 3 (.tmp 3),.none,[],[]⟩,
 ⟨.none,.store 3 (.tmp 2) (.tmp 16),.none,[16],[]⟩])
 .ret))))),
 [.cell true 3 2], false⟩
theorem c_desk_total : chkFunc Tryz.prog gl n_desk_total a_desk_total = true := by kernel_rfl
/- shotline/desk.diveAt -/
def a_desk_diveAt : AFunc := ⟨32,
 (.seq (.reg false [⟨.some 3,.box true (.tmp 0),.none,[],[]⟩,
 ⟨.some 6,.mv (.av .nilp),.none,[],[]⟩,
 ⟨.some 7,.mv (.av (.int .i64 0)),.none,[],[]⟩,
 ⟨.some 8,.mv (.av (.int .i64 0)),.none,[],[]⟩])
 (.seq (.reg false [⟨.some 14,.load true false 14 (.tmp 3),.none,[],[]⟩,
 ⟨.some 15,.mv (.tmp 1),.none,[],[]⟩,
 ⟨.some 16,.call (.av (.fn n_desk_open [])) [(.tmp 14),(.tmp 15)],.none,[],[]⟩,
 ⟨.some 13,.mv (.tmp 16),.none,[],[]⟩,
 ⟨.some 17,.extract (.tmp 13) 0,.none,[],[]⟩,
 ⟨.some 18,.extract (.tmp 13) 1,.none,[],[]⟩,
 ⟨.some 19,.extract (.tmp 13) 2,.none,[],[]⟩,
 ⟨.some 9,.mv (.tmp 17),.none,[],[]⟩,
 ⟨.some 10,.mv (.tmp 18),.none,[],[]⟩,
 ⟨.some 11,.mv (.tmp 19),.none,[],[]⟩])
 (.seq (.seq (.reg false [⟨.some 20,.mv (.tmp 11),.none,[],[]⟩,
 ⟨.some 21,.bin .neq (.tmp 20) (.av (.int .i64 0)),.none,[],[]⟩])
 (.cond (.tmp 21)
 (.seq (.reg false [⟨.some 22,.mv (.tmp 11),.none,[],[]⟩,
 ⟨.some 6,.mv (.av .nilp),.none,[],[]⟩,
 ⟨.some 7,.mv (.av (.int .i64 0)),.none,[],[]⟩,
 ⟨.some 8,.mv (.tmp 22),.none,[],[]⟩])
 .ret)
 .skip))
 (.cut [2,9] []
 (.seq (.reg false [⟨.some 23,.mv (.tmp 9),.none,[],[]⟩,
 ⟨.some 24,.nilchk (.tmp 23),.none,[],[]⟩,
 ⟨.some 25,.faddr 0 (.tmp 24),.none,[],[]⟩,
 ⟨.some 26,.mv (.tmp 2),.none,[],[]⟩,
 ⟨.some 27,.call (.av (.fn n_desk_world_dive [])) [(.tmp 25),(.tmp 26)],.none,[],[]⟩,
 ⟨.some 12,.mv (.tmp 27),.none,[],[]⟩])
 (.seq (.seq (.reg false [⟨.some 28,.mv (.tmp 12),.none,[],[]⟩,
 ⟨.some 29,.bin .lss (.tmp 28) (.av (.int .i64 0)),.none,[],[]⟩])
 (.cond (.tmp 29)
 (.seq (.reg false [⟨.some 6,.mv (.av .nilp),.none,[],[]⟩,
 ⟨.some 7,.mv (.av (.int .i64 0)),.none,[],[]⟩,
 ⟨.some 8,.mv (.av (.int .i64 6)),.none,[],[]⟩])
 .ret)
 .skip))
 (.cut [9,12] []
 (.seq (.reg false [⟨.some 30,.mv (.tmp 9),.none,[],[]⟩,
 ⟨.some 31,.mv (.tmp 12),.none,[],[]⟩,
 ⟨.some 6,.mv (.tmp 30),.none,[],[]⟩,
 ⟨.some 7,.mv (.tmp 31),.none,[],[]⟩,
 ⟨.some 8,.mv (.av (.int .i64 0)),.none,[],[]⟩])
 .ret)))))))),
 [.tmp 6,.tmp 7,.tmp 8], true⟩
theorem c_desk_diveAt : chkFunc Tryz.prog gl n_desk_diveAt a_desk_diveAt = true := by kernel_rfl
/- (*shotline/desk.world).breathedIn -/
def a_desk_world_breathedIn : AFunc := ⟨27,
 (.seq (.reg false [⟨.some 4,.mv (.av .nils),.none,[],[]⟩,
 ⟨.some 5,.mv (.av (.int .i64 0)),.none,[],[]⟩])
 (.seq (.reg true [⟨.some 6,.mv (.tmp 0),.none,[],[]⟩,
 ⟨.some 7,.mv (.tmp 0),.none,[],[]⟩,
 ⟨.some 8,.nilchk (.tmp 7),.none,[],[]⟩,
 ⟨.some 9,.faddr 1 (.tmp 8),.none,[],[]⟩,
 ⟨.some 10,.faddr 3 (.tmp 9),.none,[],[]⟩,
 ⟨.some 11,.load false false 1 (.tmp 10),.none,[],[]⟩,
 ⟨.some 12,.mv (.tmp 1),.none,[],[]⟩,
 ⟨.some 13,.iaddr .none 6 (.tmp 11) (.tmp 12),.none,[],[]⟩,
 ⟨.some 14,.load true false 6 (.tmp 13),.none,[],[]⟩,
 ⟨.some 15,.call (.av (.fn n_desk_world_planOf [])) [(.tmp 6),(.tmp 14)],.none,[],[9]⟩,
 ⟨.some 16,.mv (.tmp 0),.none,[],[]⟩,
 ⟨.some 17,.nilchk (.tmp 16),.none,[],[]⟩,
 ⟨.some 18,.faddr 0 (.tmp 17),.none,[],[]⟩,
 ⟨.some 19,.load false false 1 (.tmp 18),.none,[],[]⟩,
 ⟨.some 20,.nilchk (.tmp 19),.none,[],[]⟩,
 ⟨.some 21,.faddr 4 (.tmp 20),.none,[],[]⟩,
 ⟨.some 22,.faddr 5 (.tmp 21),.none,[],[]⟩,
 ⟨.some 23,.load false false 1 (.tmp 22),.none,[],[]⟩,
 ⟨.some 24,.call (.av (.fn n_exposure_Consumed [])) [(.tmp 15),(.tmp 23)],.none,[],[]⟩,
 ⟨.some 25,.extract (.tmp 24) 0,.none,[],[]⟩,
 ⟨.some 26,.extract (.tmp 24) 1,.none,[],[]⟩,
 ⟨.some 4,.mv (.tmp 25),.none,[25],[]⟩,
 ⟨.some 5,.mv (.tmp 26),.none,[],[]⟩])
 .ret)),
 [.tmp 4,.tmp 5], false⟩
theorem c_desk_world_breathedIn : chkFunc Tryz.prog gl n_desk_world_breathedIn a_desk_world_breathedIn = true := by kernel_rfl
/- shotline/desk.newKeeper -/
def a_desk_newKeeper : AFunc := ⟨13,
 (.seq (.reg false [⟨.some 1,.box true (.tmp 0),.none,[],[]⟩,
 ⟨.some 2,.mv (.av .nilp),.none,[],[]⟩,
 ⟨.some 3,.mv (.av (.int .i64 0)),.none,[],[]⟩])
 (.seq (.seq (.reg false [⟨.some 5,.load true false 14 (.tmp 1),.none,[],[]⟩,
 ⟨.some 6,.call (.av (.fn n_desk_CheckDesk [])) [(.tmp 5)],.none,[],[]⟩,
 ⟨.some 4,.mv (.tmp 6),.none,[],[]⟩])
 (.seq (.reg false [⟨.some 7,.mv (.tmp 4),.none,[],[]⟩,
 ⟨.some 8,.bin .neq (.tmp 7) (.av (.int .i64 0)),.none,[],[]⟩])
 (.cond (.tmp 8)
 (.seq (.reg false [⟨.some 9,.mv (.tmp 4),.none,[],[]⟩,
 ⟨.some 2,.mv (.av .nilp),.none,[],[]⟩,
 ⟨.some 3,.mv (.tmp 9),.none,[],[]⟩])
 .ret)
 .skip)))
 (.cut [1] []
 (.seq (.reg false [⟨.some 10,.call (.av (.fn n_desk_newWorld [])) [(.tmp 1)],.none,[],[]⟩,
 ⟨.some 11,.build [.nilp,.nils,.nils,.nils,.nils,.nils,.nils,.nils,.nils,.nils,(.int .i64 0),(.int .i64 0),(.int .i64 0),(.int .i64 0),(.int .i64 0),(.int .i64 0),.nils,.nils] [(0,16,(.tmp 10))],.none,[],[]⟩,
 ⟨.some 12,.box false (.tmp 11),.none,[],[]⟩,
 ⟨.some 2,.mv (.tmp 12),.none,[],[]⟩,
 ⟨.some 3,.mv (.av (.int .i64 0)),.none,[],[]⟩])
 .ret)))),
 [.tmp 2,.tmp 3], true⟩
theorem c_desk_newKeeper : chkFunc Tryz.prog gl n_desk_newKeeper a_desk_newKeeper = true := by kernel_rfl
/- (*shotline/desk.keeper).enter -/
def a_desk_keeper_enter : AFunc := ⟨66,
 (.seq (.reg false [⟨.some 3,.box true (.tmp 1),.none,[],[]⟩,
 ⟨.some 4,.mv (.av (.int .i64 0)),.none,[],[]⟩])
 (.seq (.reg true [⟨.some 10,.mv (.tmp 0),.none,[],[]⟩,
 ⟨.some 11,.nilchk (.tmp 10),.none,[],[]⟩,
 ⟨.some 12,.faddr 0 (.tmp 11),.none,[],[]⟩,
 ⟨.some 13,.faddr 0 (.tmp 3),.none,[],[]⟩,
 ⟨.some 14,.load false false 1 (.tmp 13),.none,[],[]⟩,
 ⟨.some 15,.call (.av (.fn n_desk_world_person [])) [(.tmp 12),(.tmp 14)],.none,[],[]⟩,
 ⟨.some 5,.mv (.tmp 15),.none,[],[]⟩])
 (.seq (.seq (.reg false [⟨.some 16,.mv (.tmp 5),.none,[],[]⟩,
 ⟨.some 17,.bin .lss (.tmp 16) (.av (.int .i64 0)),.none,[],[]⟩])
 (.cond (.tmp 17)
 (.seq (.reg false [⟨.some 4,.mv (.av (.int .i64 6)),.none,[],[]⟩])
 .ret)
 .skip))
 (.cut [0,3,5] []
 (.seq (.reg false [⟨.some 18,.mv (.tmp 0),.none,[],[]⟩,
 ⟨.some 19,.nilchk (.tmp 18),.none,[],[]⟩,
 ⟨.some 20,.faddr 0 (.tmp 19),.none,[],[]⟩,
 ⟨.some 21,.faddr 0 (.tmp 20),.none,[],[]⟩,
 ⟨.some 22,.load false false 1 (.tmp 21),.none,[],[]⟩,
 ⟨.some 23,.nilchk (.tmp 22),.none,[],[]⟩,
 ⟨.some 24,.faddr 3 (.tmp 23),.none,[],[]⟩,
 ⟨.some 25,.load false false 1 (.tmp 24),.none,[],[]⟩,
 ⟨.some 26,.mv (.tmp 5),.none,[],[]⟩,
 ⟨.some 27,.iaddr .none 2 (.tmp 25) (.tmp 26),.none,[],[]⟩,
 ⟨.some 28,.load true false 2 (.tmp 27),.none,[],[]⟩,
 ⟨.some 6,.alloc [(.str []),(.int .i64 0)],.none,[],[]⟩,
 ⟨.none,.store 2 (.tmp 6) (.tmp 28),.none,[28],[]⟩])
 (.seq (.reg false [⟨.some 30,.load true false 2 (.tmp 6),.none,[],[]⟩,
 ⟨.some 31,.faddr 1 (.tmp 3),.none,[],[]⟩,
 ⟨.some 32,.load false false 1 (.tmp 31),.none,[],[]⟩,
 ⟨.some 33,.call (.av (.fn n_desk_head [])) [(.tmp 30),(.tmp 32)],.none,[],[]⟩,
 ⟨.some 29,.mv (.tmp 33),.none,[],[]⟩,
 ⟨.some 34,.extract (.tmp 29) 0,.none,[],[]⟩,
 ⟨.some 35,.extract (.tmp 29) 1,.none,[],[]⟩,
 ⟨.some 36,.extract (.tmp 29) 2,.none,[],[]⟩,
 ⟨.some 7,.mv (.tmp 34),.none,[],[]⟩,
 ⟨.some 8,.mv (.tmp 35),.none,[],[]⟩,
 ⟨.some 9,.mv (.tmp 36),.none,[],[]⟩])
 (.seq (.seq (.reg false [⟨.some 37,.mv (.tmp 9),.none,[],[]⟩,
 ⟨.some 38,.bin .neq (.tmp 37) (.av (.int .i64 0)),.none,[],[]⟩])
 (.cond (.tmp 38)
 (.seq (.reg false [⟨.some 39,.mv (.tmp 9),.none,[],[]⟩,
 ⟨.some 4,.mv (.tmp 39),.none,[],[]⟩])
 .ret)
 .skip))
 (.cut [0,3,6,7,8] []
 (.seq (.seq (.reg false [⟨.some 40,.mv (.tmp 7),.none,[],[]⟩,
 ⟨.some 41,.bin .eql (.tmp 40) (.av (.str [102,105,120])),.none,[],[]⟩])
 (.cond (.tmp 41)
 (.reg false [⟨.some 42,.mv (.tmp 0),.none,[],[]⟩,
 ⟨.some 43,.load true false 2 (.tmp 6),.none,[],[]⟩,
 ⟨.some 44,.mv (.tmp 8),.none,[],[]⟩,
 ⟨.some 45,.call (.av (.fn n_desk_keeper_fix [])) [(.tmp 42),(.tmp 43),(.tmp 44)],.none,[],[]⟩,
 ⟨.some 9,.mv (.tmp 45),.none,[],[]⟩])
 (.reg false [⟨.some 46,.mv (.tmp 0),.none,[],[]⟩,
 ⟨.some 47,.load true false 2 (.tmp 6),.none,[],[]⟩,
 ⟨.some 48,.mv (.tmp 7),.none,[],[]⟩,
 ⟨.some 49,.mv (.tmp 8),.none,[],[]⟩,
 ⟨.some 50,.faddr 1 (.tmp 3),.none,[],[]⟩,
 ⟨.some 51,.load false false 1 (.tmp 50),.none,[],[]⟩,
 ⟨.some 52,.call (.av (.fn n_desk_keeper_fact [])) [(.tmp 46),(.tmp 47),(.tmp 48),(.tmp 49),(.tmp 51)],.none,[],[]⟩,
 ⟨.some 9,.mv (.tmp 52),.none,[],[]⟩])))
 (.cut [0,3,9] []
 (.seq (.seq (.reg false [⟨.some 53,.mv (.tmp 9),.none,[],[]⟩,
 ⟨.some 54,.bin .eql (.tmp 53) (.av (.int .i64 0)),.none,[],[]⟩])
 (.cond (.tmp 54)
 (.reg true [⟨.some 55,.mv (.tmp 0),.none,[],[]⟩,
 ⟨.some 56,.mv (.tmp 0),.none,[],[]⟩,
 ⟨.some 57,.nilchk (.tmp 56),.none,[],[]⟩,
 ⟨.some 58,.faddr 16 (.tmp 57),.none,[],[]⟩,
 ⟨.some 59,.load false true 1 (.tmp 58),.none,[],[]⟩,
 ⟨.some 60,.load true false 2 (.tmp 3),.none,[],[4]⟩,
 ⟨.some 61,.bslice true 2 1 [(.str []),(.str [])] [(0,(.tmp 60))],.none,[],[]⟩,
 ⟨.some 62,.append 2 32 (.tmp 59) (.tmp 61),.none,[59],[]⟩,
 ⟨.some 63,.nilchk (.tmp 55),.none,[],[]⟩,
 ⟨.some 64,.faddr 16 (.tmp 63),.none,[],[]⟩,
 ⟨.none,.store 1 (.tmp 64) (.tmp 62),.none,[62],[]⟩])
 .skip))
 (.cut [9] []
 (.seq (.reg false [⟨.some 65,.mv (.tmp 9),.none,[],[]⟩,
 ⟨.some 4,.mv (.tmp 65),.none,[],[]⟩])
 .ret))))))))))))),
 [.tmp 4], false⟩
theorem c_desk_keeper_enter : chkFunc Tryz.prog gl n_desk_keeper_enter a_desk_keeper_enter = true := by kernel_rfl
/- slices.Clone[[]shotline/api.MixFill,shotline/api.MixFill] -/
def a_slices_Clone_api_MixFill : AFunc := ⟨8,
 (.seq (.reg false [⟨.some 2,.mv (.av .nils),.none,[],[]⟩])
 (.seq (.seq (.reg false [⟨.some 3,.mv (.tmp 0),.none,[],[]⟩,
 ⟨.some 4,.eq .slc false (.tmp 3) (.av .nils),.none,[],[]⟩])
 (.cond (.tmp 4)
 (.seq (.reg false [⟨.some 2,.mv (.av .nils),.none,[],[]⟩])
 .ret)
 .skip))
 (.cut [0] []
 (.seq (.reg false [⟨.some 5,.bslice true 8 0 [(.int .i64 0),(.int .i64 0),(.str []),(.str []),(.int .i64 0),(.int .i64 0),(.int .i64 0),(.bool false)] [],.none,[],[]⟩,
 ⟨.some 6,.mv (.tmp 0),.none,[],[]⟩,
 ⟨.some 7,.append 8 80 (.tmp 5) (.tmp 6),.none,[5],[]⟩,
 ⟨.some 2,.mv (.tmp 7),.none,[7],[]⟩])
 .ret)))),
 [.tmp 2], false⟩
theorem c_slices_Clone_api_MixFill : chkFunc Tryz.prog gl n_slices_Clone_api_MixFill a_slices_Clone_api_MixFill = true := by kernel_rfl
/- slices.Clone[[]shotline/api.KitEvent,shotline/api.KitEvent] -/
def a_slices_Clone_api_KitEvent : AFunc := ⟨8,
 (.seq (.reg false [⟨.some 2,.mv (.av .nils),.none,[],[]⟩])
 (.seq (.seq (.reg false [⟨.some 3,.mv (.tmp 0),.none,[],[]⟩,
 ⟨.some 4,.eq .slc false (.tmp 3) (.av .nils),.none,[],[]⟩])
 (.cond (.tmp 4)
 (.seq (.reg false [⟨.some 2,.mv (.av .nils),.none,[],[]⟩])
 .ret)
 .skip))
 (.cut [0] []
 (.seq (.reg false [⟨.some 5,.bslice true 6 0 [(.int .i64 0),(.int .i64 0),(.str []),(.str []),(.str []),(.bool false)] [],.none,[],[]⟩,
 ⟨.some 6,.mv (.tmp 0),.none,[],[]⟩,
 ⟨.some 7,.append 6 72 (.tmp 5) (.tmp 6),.none,[5],[]⟩,
 ⟨.some 2,.mv (.tmp 7),.none,[7],[]⟩])
 .ret)))),
 [.tmp 2], false⟩
theorem c_slices_Clone_api_KitEvent : chkFunc Tryz.prog gl n_slices_Clone_api_KitEvent a_slices_Clone_api_KitEvent = true := by kernel_rfl
/- shotline/mix.read -/
def b_mix_read_1 : ACode :=
 (.seq (.reg false [⟨.some 29,.bin .lss (.tmp 28) (.tmp 27),.none,[],[]⟩])
 (.seq (.cond (.tmp 29)
 .skip
 (.exit 0))
 (.cut [8,26,27,28] []
 (.seq (.block 1
 (.seq (.reg false [⟨.some 30,.mv (.tmp 28),.none,[],[]⟩,
 ⟨.some 31,.iaddr .none 8 (.tmp 26) (.tmp 28),.none,[],[]⟩,
 ⟨.some 32,.load true false 8 (.tmp 31),.none,[],[]⟩,
 ⟨.some 10,.alloc [(.int .i64 0),(.int .i64 0),(.str []),(.str []),(.int .i64 0),(.int .i64 0),(.int .i64 0),(.bool false)],.none,[],[]⟩,
 ⟨.some 9,.mv (.tmp 30),.none,[],[]⟩,
 ⟨.none,.store 8 (.tmp 10) (.tmp 32),.none,[32],[]⟩])
 (.seq (.reg false [⟨.some 33,.mv (.tmp 8),.none,[],[]⟩,
 ⟨.some 34,.load true false 8 (.tmp 10),.none,[],[]⟩,
 ⟨.some 35,.call (.av (.fn n_mix_store_enter [])) [(.tmp 33),(.tmp 34)],.none,[],[]⟩,
 ⟨.some 11,.mv (.tmp 35),.none,[],[]⟩])
 (.seq (.reg false [⟨.some 36,.mv (.tmp 11),.none,[],[]⟩,
 ⟨.some 37,.bin .neq (.tmp 36) (.av (.int .i64 0)),.none,[],[]⟩])
 (.cond (.tmp 37)
 (.seq (.reg false [⟨.some 38,.mv (.tmp 9),.none,[],[]⟩,
 ⟨.some 39,.mv (.tmp 11),.none,[],[]⟩,
 ⟨.some 4,.mv (.av .nilp),.none,[],[]⟩,
 ⟨.some 5,.mv (.tmp 38),.none,[],[]⟩,
 ⟨.some 6,.mv (.tmp 39),.none,[],[]⟩])
 .ret)
 .skip)))))
 (.cut [8,26,27,28] []
 (.reg false [⟨.some 40,.bin .add (.tmp 28) (.av (.int .i64 1)),.none,[],[]⟩,
 ⟨.some 28,.mv (.tmp 40),.none,[],[]⟩]))))))
def l_mix_read_1 : ACode := .loop (.cut [8,26,27,28] [[10]] b_mix_read_1)
def a_mix_read : AFunc := ⟨42,
 (.seq (.reg false [⟨.some 4,.mv (.av .nilp),.none,[],[]⟩,
 ⟨.some 5,.mv (.av (.int .i64 0)),.none,[],[]⟩,
 ⟨.some 6,.mv (.av (.int .i64 0)),.none,[],[]⟩])
 (.seq (.seq (.reg false [⟨.some 12,.mv (.tmp 0),.none,[],[]⟩,
 ⟨.some 13,.call (.av (.fn n_mix_CheckVessels [])) [(.tmp 12)],.none,[],[]⟩,
 ⟨.some 7,.mv (.tmp 13),.none,[],[]⟩])
 (.seq (.reg false [⟨.some 14,.mv (.tmp 7),.none,[],[]⟩,
 ⟨.some 15,.bin .neq (.tmp 14) (.av (.int .i64 0)),.none,[],[]⟩])
 (.cond (.tmp 15)
 (.seq (.reg false [⟨.some 16,.mv (.tmp 7),.none,[],[]⟩,
 ⟨.some 4,.mv (.av .nilp),.none,[],[]⟩,
 ⟨.some 5,.mv (.av (.int .i64 0)),.none,[],[]⟩,
 ⟨.some 6,.mv (.tmp 16),.none,[],[]⟩])
 .ret)
 .skip)))
 (.cut [0,1] []
 (.seq (.seq (.reg false [⟨.some 17,.mv (.tmp 1),.none,[],[]⟩,
 ⟨.some 18,.len false (.tmp 17),.none,[],[]⟩,
 ⟨.some 19,.bin .gtr (.tmp 18) (.av (.int .i64 200)),.none,[],[]⟩])
 (.cond (.tmp 19)
 (.seq (.reg false [⟨.some 4,.mv (.av .nilp),.none,[],[]⟩,
 ⟨.some 5,.mv (.av (.int .i64 0)),.none,[],[]⟩,
 ⟨.some 6,.mv (.av (.int .i64 8)),.none,[],[]⟩])
 .ret)
 .skip))
 (.cut [0,1] []
 (.seq (.reg false [⟨.some 20,.mv (.tmp 0),.none,[],[]⟩,
 ⟨.some 21,.mv (.tmp 0),.none,[],[]⟩,
 ⟨.some 22,.len false (.tmp 21),.none,[],[]⟩,
 ⟨.some 23,.mkslc false 3 24 [(.int .i64 0),(.int .i64 0),(.int .i64 0)] (.tmp 22) (.tmp 22),.none,[],[]⟩,
 ⟨.some 24,.build [.nils,.nils,(.int .i64 0),(.int .i64 0),(.int .i64 0),(.int .i64 0),(.int .i64 0),(.int .i64 0),(.int .i64 0)] [(0,1,(.tmp 20)),(1,1,(.tmp 23))],.none,[],[]⟩,
 ⟨.some 25,.box false (.tmp 24),.none,[],[]⟩,
 ⟨.some 8,.mv (.tmp 25),.none,[],[]⟩])
 (.seq (.seq (.reg false [⟨.some 26,.mv (.tmp 1),.none,[],[]⟩,
 ⟨.some 27,.len false (.tmp 26),.none,[],[]⟩,
 ⟨.some 28,.mv (.av (.int .i64 0)),.none,[],[]⟩])
 (.block 0
 l_mix_read_1))
 (.cut [8] []
 (.seq (.reg false [⟨.some 41,.mv (.tmp 8),.none,[],[]⟩,
 ⟨.some 4,.mv (.tmp 41),.none,[],[]⟩,
 ⟨.some 5,.mv (.av (.int .i64 0)),.none,[],[]⟩,
 ⟨.some 6,.mv (.av (.int .i64 0)),.none,[],[]⟩])
 .ret))))))))),
 [.tmp 4,.tmp 5,.tmp 6], true⟩
theorem c_mix_read : chkFunc Tryz.prog gl n_mix_read a_mix_read = true := by kernel_rfl
/- (shotline/mix.gases).content -/
def a_mix_gases_content : AFunc := ⟨10,
 (.seq (.reg false [⟨.some 1,.box true (.tmp 0),.none,[],[]⟩,
 ⟨.some 2,.alloc [(.int .i64 0),(.int .i64 0),(.int .i64 0)],.none,[],[]⟩])
 (.seq (.reg false [⟨.some 3,.iaddr (.some 3) 1 (.tmp 1) (.av (.int .i64 0)),.none,[],[]⟩,
 ⟨.some 4,.load false false 1 (.tmp 3),.none,[],[]⟩,
 ⟨.some 5,.iaddr (.some 3) 1 (.tmp 1) (.av (.int .i64 1)),.none,[],[]⟩,
 ⟨.some 6,.load false false 1 (.tmp 5),.none,[],[]⟩,
 ⟨.some 7,.iaddr (.some 3) 1 (.tmp 1) (.av (.int .i64 2)),.none,[],[]⟩,
 ⟨.some 8,.load false false 1 (.tmp 7),.none,[],[]⟩,
 ⟨.some 9,.build [(.int .i64 0),(.int .i64 0),(.int .i64 0)] [(0,1,(.tmp 4)),(1,1,(.tmp 6)),(2,1,(.tmp 8))],.none,[],[]⟩,
 ⟨.none,.store 3 (.tmp 2) (.tmp 9),.none,[9],[]⟩])
 .ret)),
 [.cell true 3 2], false⟩
theorem c_mix_gases_content : chkFunc Tryz.prog gl n_mix_gases_content a_mix_gases_content = true := by kernel_rfl
/- shotline/desk.plus -/
def a_desk_plus : AFunc := ⟨21,
 (.seq (.reg false [⟨.some 2,.box true (.tmp 0),.none,[],[]⟩,
 ⟨.some 3,.box true (.tmp 1),.none,[],[]⟩,
 ⟨.some 4,.alloc [(.int .i64 0),(.int .i64 0),(.int .i64 0)],.none,[],[]⟩])
 (.seq (.reg false [⟨.some 5,.faddr 0 (.tmp 2),.none,[],[]⟩,
 ⟨.some 6,.load false false 1 (.tmp 5),.none,[],[]⟩,
 ⟨.some 7,.faddr 0 (.tmp 3),.none,[],[]⟩,
 ⟨.some 8,.load false false 1 (.tmp 7),.none,[],[]⟩,
 ⟨.some 9,.bin .add (.tmp 6) (.tmp 8),.none,[],[]⟩,
 ⟨.some 10,.faddr 1 (.tmp 2),.none,[],[]⟩,
 ⟨.some 11,.load false false 1 (.tmp 10),.none,[],[]⟩,
 ⟨.some 12,.faddr 1 (.tmp 3),.none,[],[]⟩,
 ⟨.some 13,.load false false 1 (.tmp 12),.none,[],[]⟩,
 ⟨.some 14,.bin .add (.tmp 11) (.tmp 13),.none,[],[]⟩,
 ⟨.some 15,.faddr 2 (.tmp 2),.none,[],[]⟩,
 ⟨.some 16,.load false false 1 (.tmp 15),.none,[],[]⟩,
 ⟨.some 17,.faddr 2 (.tmp 3),.none,[],[]⟩,
 ⟨.some 18,.load false false 1 (.tmp 17),.none,[],[]⟩,
 ⟨.some 19,.bin .add (.tmp 16) (.tmp 18),.none,[],[]⟩,
 ⟨.some 20,.build [(.int .i64 0),(.int .i64 0),(.int .i64 0)] [(0,1,(.tmp 9)),(1,1,(.tmp 14)),(2,1,(.tmp 19))],.none,[],[]⟩,
 ⟨.none,.store 3 (.tmp 4) (.tmp 20),.none,[20],[]⟩])
 .ret)),
 [.cell true 3 4], false⟩
theorem c_desk_plus : chkFunc Tryz.prog gl n_desk_plus a_desk_plus = true := by kernel_rfl
/- (*shotline/desk.world).dive -/
def a_desk_world_dive : AFunc := ⟨12,
 (.seq (.reg false [⟨.some 3,.box true (.tmp 1),.none,[],[]⟩,
 ⟨.some 4,.mv (.av (.int .i64 0)),.none,[],[]⟩])
 (.seq (.reg false [⟨.some 5,.mv (.tmp 0),.none,[],[]⟩,
 ⟨.some 6,.nilchk (.tmp 5),.none,[],[]⟩,
 ⟨.some 7,.faddr 1 (.tmp 6),.none,[],[]⟩,
 ⟨.some 8,.faddr 3 (.tmp 7),.none,[],[]⟩,
 ⟨.some 9,.load false false 1 (.tmp 8),.none,[],[]⟩,
 ⟨.some 10,.mkfn n_desk_world_dive_c1 [(.tmp 3)],.none,[],[]⟩,
 ⟨.some 11,.call (.av (.fn n_slices_IndexFunc_api_DeskDive [])) [(.tmp 9),(.tmp 10)],.none,[],[]⟩,
 ⟨.some 4,.mv (.tmp 11),.none,[],[]⟩])
 .ret)),
 [.tmp 4], false⟩
theorem c_desk_world_dive : chkFunc Tryz.prog gl n_desk_world_dive a_desk_world_dive = true := by kernel_rfl
/- shotline/exposure.Consumed -/
def b_exposure_Consumed_1 : ACode :=
 (.seq (.reg false [⟨.some 26,.bin .lss (.tmp 25) (.tmp 24),.none,[],[]⟩])
 (.seq (.cond (.tmp 26)
 .skip
 (.exit 0))
 (.cut [1,7,23,24,25] []
 (.seq (.block 1
 (.seq (.reg false [⟨.some 27,.iaddr .none 9 (.tmp 23) (.tmp 25),.none,[],[]⟩,
 ⟨.some 28,.load true false 9 (.tmp 27),.none,[],[]⟩,
 ⟨.some 9,.alloc [(.int .i64 0),(.int .i64 0),(.int .i64 0),(.int .i64 0),(.int .i64 0),(.int .i64 0),(.int .i64 0),(.int .i64 0),(.int .i64 0)],.none,[],[]⟩,
 ⟨.none,.store 9 (.tmp 9) (.tmp 28),.none,[28],[]⟩])
 (.reg true [⟨.some 29,.mv (.tmp 7),.none,[],[]⟩,
 ⟨.some 30,.faddr 0 (.tmp 9),.none,[],[]⟩,
 ⟨.some 31,.faddr 2 (.tmp 30),.none,[],[]⟩,
 ⟨.some 32,.load false false 1 (.tmp 31),.none,[],[]⟩,
 ⟨.some 33,.iaddr .none 1 (.tmp 29) (.tmp 32),.none,[],[]⟩,
 ⟨.some 34,.load false false 1 (.tmp 33),.none,[],[]⟩,
 ⟨.some 35,.load true false 9 (.tmp 9),.none,[],[]⟩,
 ⟨.some 36,.mv (.tmp 1),.none,[],[]⟩,
 ⟨.some 37,.faddr 0 (.tmp 9),.none,[],[]⟩,
 ⟨.some 38,.faddr 0 (.tmp 37),.none,[],[]⟩,
 ⟨.some 39,.load false false 1 (.tmp 38),.none,[],[]⟩,
 ⟨.some 40,.call (.av (.fn n_exposure_leg_breathes [])) [(.tmp 35),(.tmp 36),(.tmp 39)],.none,[],[11]⟩,
 ⟨.some 41,.bin .add (.tmp 34) (.tmp 40),.none,[],[]⟩,
 ⟨.some 42,.iaddr .none 1 (.tmp 29) (.tmp 32),.none,[],[]⟩,
 ⟨.none,.store 1 (.tmp 42) (.tmp 41),.none,[41],[]⟩])))
 (.cut [1,7,23,24,25] []
 (.reg false [⟨.some 43,.bin .add (.tmp 25) (.av (.int .i64 1)),.none,[],[]⟩,
 ⟨.some 25,.mv (.tmp 43),.none,[],[]⟩]))))))
def l_exposure_Consumed_1 : ACode := .loop (.cut [1,7,23,24,25] [[9]] b_exposure_Consumed_1)
def a_exposure_Consumed : AFunc := ⟨45,
 (.seq (.reg false [⟨.some 2,.box true (.tmp 0),.none,[],[]⟩,
 ⟨.some 4,.mv (.av .nils),.none,[],[]⟩,
 ⟨.some 5,.mv (.av (.int .i64 0)),.none,[],[]⟩])
 (.seq (.seq (.reg false [⟨.some 10,.load true false 4 (.tmp 2),.none,[],[]⟩,
 ⟨.some 11,.call (.av (.fn n_exposure_checkPlan [])) [(.tmp 10)],.none,[],[]⟩,
 ⟨.some 6,.mv (.tmp 11),.none,[],[]⟩])
 (.seq (.reg false [⟨.some 12,.mv (.tmp 6),.none,[],[]⟩,
 ⟨.some 13,.bin .neq (.tmp 12) (.av (.int .i64 0)),.none,[],[]⟩])
 (.cond (.tmp 13)
 (.seq (.reg false [⟨.some 14,.mv (.tmp 6),.none,[],[]⟩,
 ⟨.some 4,.mv (.av .nils),.none,[],[]⟩,
 ⟨.some 5,.mv (.tmp 14),.none,[],[]⟩])
 .ret)
 .skip)))
 (.cut [1,2] []
 (.seq (.seq (.reg false [⟨.some 15,.mv (.tmp 1),.none,[],[]⟩,
 ⟨.some 16,.call (.av (.fn n_exposure_isBreath [])) [(.tmp 15)],.none,[],[]⟩,
 ⟨.some 17,.un .not (.tmp 16),.none,[],[]⟩])
 (.cond (.tmp 17)
 (.seq (.reg false [⟨.some 4,.mv (.av .nils),.none,[],[]⟩,
 ⟨.some 5,.mv (.av (.int .i64 2)),.none,[],[]⟩])
 .ret)
 .skip))
 (.cut [1,2] []
 (.seq (.reg false [⟨.some 18,.faddr 2 (.tmp 2),.none,[],[]⟩,
 ⟨.some 19,.load false false 1 (.tmp 18),.none,[],[]⟩,
 ⟨.some 20,.len false (.tmp 19),.none,[],[]⟩,
 ⟨.some 21,.mkslc false 1 8 [(.int .i64 0)] (.tmp 20) (.tmp 20),.none,[],[]⟩,
 ⟨.some 7,.mv (.tmp 21),.none,[21],[]⟩])
 (.seq (.seq (.reg false [⟨.some 22,.load true false 4 (.tmp 2),.none,[],[]⟩,
 ⟨.some 23,.call (.av (.fn n_exposure_legs [])) [(.tmp 22)],.none,[],[]⟩,
 ⟨.some 24,.len false (.tmp 23),.none,[],[]⟩,
 ⟨.some 25,.mv (.av (.int .i64 0)),.none,[],[]⟩])
 (.block 0
 l_exposure_Consumed_1))
 (.cut [7] []
 (.seq (.reg false [⟨.some 44,.mv (.tmp 7),.none,[7],[]⟩,
 ⟨.some 4,.mv (.tmp 44),.none,[44],[]⟩,
 ⟨.some 5,.mv (.av (.int .i64 0)),.none,[],[]⟩])
 .ret))))))))),
 [.tmp 4,.tmp 5], false⟩
theorem c_exposure_Consumed : chkFunc Tryz.prog gl n_exposure_Consumed a_exposure_Consumed = true := by kernel_rfl
/- (*shotline/desk.world).planOf -/
def a_desk_world_planOf : AFunc := ⟨16,
 (.seq (.reg false [⟨.some 3,.box true (.tmp 1),.none,[],[]⟩,
 ⟨.some 4,.alloc [(.str []),(.int .i64 0),.nils,.nils],.none,[],[]⟩])
 (.seq (.reg true [⟨.some 5,.mv (.tmp 0),.none,[],[]⟩,
 ⟨.some 6,.nilchk (.tmp 5),.none,[],[]⟩,
 ⟨.some 7,.faddr 1 (.tmp 6),.none,[],[]⟩,
 ⟨.some 8,.faddr 2 (.tmp 7),.none,[],[]⟩,
 ⟨.some 9,.load false false 1 (.tmp 8),.none,[],[]⟩,
 ⟨.some 10,.mv (.tmp 0),.none,[],[]⟩,
 ⟨.some 11,.faddr 1 (.tmp 3),.none,[],[]⟩,
 ⟨.some 12,.load false false 1 (.tmp 11),.none,[],[]⟩,
 ⟨.some 13,.call (.av (.fn n_desk_world_plan [])) [(.tmp 10),(.tmp 12)],.none,[],[8]⟩,
 ⟨.some 14,.iaddr .none 4 (.tmp 9) (.tmp 13),.none,[],[]⟩,
 ⟨.some 15,.load true false 4 (.tmp 14),.none,[],[]⟩,
 ⟨.none,.store 4 (.tmp 4) (.tmp 15),.none,[15],[]⟩])
 .ret)),
 [.cell true 4 4], false⟩
theorem c_desk_world_planOf : chkFunc Tryz.prog gl n_desk_world_planOf a_desk_world_planOf = true := by kernel_rfl
/- shotline/desk.CheckDesk -/
def b_desk_CheckDesk_1 : ACode :=
 (.seq (.reg false [⟨.some 28,.bin .lss (.tmp 27) (.tmp 26),.none,[],[]⟩])
 (.seq (.cond (.tmp 28)
 .skip
 (.exit 0))
 (.cut [1,25,26,27] []
 (.seq (.block 1
 (.seq (.reg false [⟨.some 29,.mv (.tmp 27),.none,[],[]⟩,
 ⟨.some 30,.iaddr .none 2 (.tmp 25) (.tmp 27),.none,[],[]⟩,
 ⟨.some 31,.load true false 2 (.tmp 30),.none,[],[]⟩,
 ⟨.some 6,.alloc [(.str []),(.int .i64 0)],.none,[],[]⟩,
 ⟨.some 5,.mv (.tmp 29),.none,[],[]⟩,
 ⟨.none,.store 2 (.tmp 6) (.tmp 31),.none,[31],[]⟩])
 (.block 2
 (.seq (.reg false [⟨.some 33,.faddr 0 (.tmp 6),.none,[],[]⟩,
 ⟨.some 34,.load false false 1 (.tmp 33),.none,[],[]⟩,
 ⟨.some 35,.call (.av (.fn n_desk_isName [])) [(.tmp 34)],.none,[],[]⟩,
 ⟨.some 36,.un .not (.tmp 35),.none,[],[]⟩,
 ⟨.some 32,.mv (.tmp 36),.none,[],[]⟩])
 (.cond (.tmp 32)
 (.seq (.reg false [⟨.some 2,.mv (.av (.int .i64 4)),.none,[],[]⟩])
 .ret)
 (.seq (.reg false [⟨.some 38,.faddr 3 (.tmp 1),.none,[],[]⟩,
 ⟨.some 39,.load false false 1 (.tmp 38),.none,[],[]⟩,
 ⟨.some 40,.mv (.tmp 5),.none,[],[]⟩,
 ⟨.some 41,.slice (.slc 2) (.tmp 39) .none (.some (.tmp 40)) .none,.none,[],[]⟩,
 ⟨.some 42,.mkfn n_desk_CheckDesk_c1 [(.tmp 6)],.none,[],[]⟩,
 ⟨.some 43,.call (.av (.fn n_slices_ContainsFunc_api_DeskPerson [])) [(.tmp 41),(.tmp 42)],.none,[],[]⟩,
 ⟨.some 37,.mv (.tmp 43),.none,[],[]⟩])
 (.cond (.tmp 37)
 (.seq (.reg false [⟨.some 2,.mv (.av (.int .i64 5)),.none,[],[]⟩])
 .ret)
 (.seq (.reg false [⟨.some 45,.faddr 1 (.tmp 6),.none,[],[]⟩,
 ⟨.some 46,.load false false 1 (.tmp 45),.none,[],[]⟩,
 ⟨.some 47,.call (.av (.fn n_desk_within [])) [(.tmp 46),(.av (.int .i64 1)),(.av (.int .i64 3))],.none,[],[]⟩,
 ⟨.some 48,.un .not (.tmp 47),.none,[],[]⟩,
 ⟨.some 44,.mv (.tmp 48),.none,[],[]⟩])
 (.cond (.tmp 44)
 (.seq (.reg false [⟨.some 2,.mv (.av (.int .i64 15)),.none,[],[]⟩])
 .ret)
 .skip)))))))))
 (.cut [1,25,26,27] []
 (.reg false [⟨.some 49,.bin .add (.tmp 27) (.av (.int .i64 1)),.none,[],[]⟩,
 ⟨.some 27,.mv (.tmp 49),.none,[],[]⟩]))))))
def l_desk_CheckDesk_1 : ACode := .loop (.cut [1,25,26,27] [[6]] b_desk_CheckDesk_1)
def a_desk_CheckDesk : AFunc := ⟨59,
 (.seq (.reg false [⟨.some 1,.box true (.tmp 0),.none,[],[]⟩,
 ⟨.some 2,.mv (.av (.int .i64 0)),.none,[],[]⟩])
 (.seq (.seq (.reg false [⟨.some 8,.faddr 0 (.tmp 1),.none,[],[]⟩,
 ⟨.some 9,.load false false 1 (.tmp 8),.none,[],[]⟩,
 ⟨.some 10,.call (.av (.fn n_mix_CheckVessels [])) [(.tmp 9)],.none,[],[]⟩,
 ⟨.some 3,.mv (.tmp 10),.none,[],[]⟩])
 (.seq (.reg false [⟨.some 11,.mv (.tmp 3),.none,[],[]⟩,
 ⟨.some 12,.bin .neq (.tmp 11) (.av (.int .i64 0)),.none,[],[]⟩])
 (.cond (.tmp 12)
 (.seq (.reg false [⟨.some 13,.mv (.tmp 3),.none,[],[]⟩,
 ⟨.some 2,.mv (.tmp 13),.none,[],[]⟩])
 .ret)
 .skip)))
 (.cut [1] []
 (.seq (.seq (.reg false [⟨.some 14,.faddr 1 (.tmp 1),.none,[],[]⟩,
 ⟨.some 15,.load true false 2 (.tmp 14),.none,[],[]⟩,
 ⟨.some 16,.call (.av (.fn n_kit_CheckSetup [])) [(.tmp 15)],.none,[],[]⟩,
 ⟨.some 4,.mv (.tmp 16),.none,[],[]⟩])
 (.seq (.reg false [⟨.some 17,.mv (.tmp 4),.none,[],[]⟩,
 ⟨.some 18,.bin .neq (.tmp 17) (.av (.int .i64 0)),.none,[],[]⟩])
 (.cond (.tmp 18)
 (.seq (.reg false [⟨.some 19,.mv (.tmp 4),.none,[],[]⟩,
 ⟨.some 2,.mv (.tmp 19),.none,[],[]⟩])
 .ret)
 .skip)))
 (.cut [1] []
 (.seq (.seq (.reg false [⟨.some 20,.faddr 3 (.tmp 1),.none,[],[]⟩,
 ⟨.some 21,.load false false 1 (.tmp 20),.none,[],[]⟩,
 ⟨.some 22,.len false (.tmp 21),.none,[],[]⟩,
 ⟨.some 23,.bin .gtr (.tmp 22) (.av (.int .i64 20)),.none,[],[]⟩])
 (.cond (.tmp 23)
 (.seq (.reg false [⟨.some 2,.mv (.av (.int .i64 8)),.none,[],[]⟩])
 .ret)
 .skip))
 (.cut [1] []
 (.seq (.seq (.reg false [⟨.some 24,.faddr 3 (.tmp 1),.none,[],[]⟩,
 ⟨.some 25,.load false false 1 (.tmp 24),.none,[],[]⟩,
 ⟨.some 26,.len false (.tmp 25),.none,[],[]⟩,
 ⟨.some 27,.mv (.av (.int .i64 0)),.none,[],[]⟩])
 (.block 0
 l_desk_CheckDesk_1))
 (.cut [1] []
 (.seq (.seq (.reg false [⟨.some 50,.faddr 4 (.tmp 1),.none,[],[]⟩,
 ⟨.some 51,.load true false 9 (.tmp 50),.none,[],[]⟩,
 ⟨.some 52,.call (.av (.fn n_exposure_CheckRules [])) [(.tmp 51)],.none,[],[]⟩,
 ⟨.some 7,.mv (.tmp 52),.none,[],[]⟩])
 (.seq (.reg false [⟨.some 53,.mv (.tmp 7),.none,[],[]⟩,
 ⟨.some 54,.bin .neq (.tmp 53) (.av (.int .i64 0)),.none,[],[]⟩])
 (.cond (.tmp 54)
 (.seq (.reg false [⟨.some 55,.mv (.tmp 7),.none,[],[]⟩,
 ⟨.some 2,.mv (.tmp 55),.none,[],[]⟩])
 .ret)
 .skip)))
 (.cut [1] []
 (.seq (.reg false [⟨.some 56,.faddr 13 (.tmp 1),.none,[],[]⟩,
 ⟨.some 57,.load false false 1 (.tmp 56),.none,[],[]⟩,
 ⟨.some 58,.call (.av (.fn n_tissue_CheckTable [])) [(.tmp 57)],.none,[],[]⟩,
 ⟨.some 2,.mv (.tmp 58),.none,[],[]⟩])
 .ret)))))))))))),
 [.tmp 2], false⟩
theorem c_desk_CheckDesk : chkFunc Tryz.prog gl n_desk_CheckDesk a_desk_CheckDesk = true := by kernel_rfl
/- shotline/desk.newWorld -/
def a_desk_newWorld : AFunc := ⟨11,
 (.seq (.reg false [⟨.some 2,.alloc [.nilp,.nils,.nils,.nils,.nils,.nils,.nils,.nils,.nils,.nils,(.int .i64 0),(.int .i64 0),(.int .i64 0),(.int .i64 0),(.int .i64 0),(.int .i64 0)],.none,[],[]⟩])
 (.seq (.reg false [⟨.some 3,.mv (.tmp 0),.none,[],[]⟩,
 ⟨.some 4,.mv (.tmp 0),.none,[],[]⟩,
 ⟨.some 5,.nilchk (.tmp 4),.none,[],[]⟩,
 ⟨.some 6,.faddr 0 (.tmp 5),.none,[],[]⟩,
 ⟨.some 7,.load false false 1 (.tmp 6),.none,[],[]⟩,
 ⟨.some 8,.len false (.tmp 7),.none,[],[]⟩,
 ⟨.some 9,.mkslc true 3 24 [(.int .i64 0),(.int .i64 0),(.int .i64 0)] (.tmp 8) (.tmp 8),.none,[],[]⟩,
 ⟨.some 10,.build [.nilp,.nils,.nils,.nils,.nils,.nils,.nils,.nils,.nils,.nils,(.int .i64 0),(.int .i64 0),(.int .i64 0),(.int .i64 0),(.int .i64 0),(.int .i64 0)] [(0,1,(.tmp 3)),(7,1,(.tmp 9))],.none,[],[]⟩,
 ⟨.none,.store 16 (.tmp 2) (.tmp 10),.none,[10],[]⟩])
 .ret)),
 [.cell true 16 2], false⟩
theorem c_desk_newWorld : chkFunc Tryz.prog gl n_desk_newWorld a_desk_newWorld = true := by kernel_rfl
/- (*shotline/desk.world).person -/
def a_desk_world_person : AFunc := ⟨14,
 (.seq (.reg false [⟨.some 3,.box true (.tmp 1),.none,[],[]⟩,
 ⟨.some 4,.mv (.av (.int .i64 0)),.none,[],[]⟩])
 (.seq (.reg false [⟨.some 5,.mv (.tmp 0),.none,[],[]⟩,
 ⟨.some 6,.nilchk (.tmp 5),.none,[],[]⟩,
 ⟨.some 7,.faddr 0 (.tmp 6),.none,[],[]⟩,
 ⟨.some 8,.load false false 1 (.tmp 7),.none,[],[]⟩,
 ⟨.some 9,.nilchk (.tmp 8),.none,[],[]⟩,
 ⟨.some 10,.faddr 3 (.tmp 9),.none,[],[]⟩,
 ⟨.some 11,.load false false 1 (.tmp 10),.none,[],[]⟩,
 ⟨.some 12,.mkfn n_desk_world_person_c1 [(.tmp 3)],.none,[],[]⟩,
 ⟨.some 13,.call (.av (.fn n_slices_IndexFunc_api_DeskPerson [])) [(.tmp 11),(.tmp 12)],.none,[],[]⟩,
 ⟨.some 4,.mv (.tmp 13),.none,[],[]⟩])
 .ret)),
 [.tmp 4], false⟩
theorem c_desk_world_person : chkFunc Tryz.prog gl n_desk_world_person a_desk_world_person = true := by kernel_rfl
/- shotline/desk.head -/
def a_desk_head : AFunc := ⟨44,
 (.seq (.reg false [⟨.some 2,.box true (.tmp 0),.none,[],[]⟩,
 ⟨.some 4,.mv (.av (.str [])),.none,[],[]⟩,
 ⟨.some 5,.mv (.av (.str [])),.none,[],[]⟩,
 ⟨.some 6,.mv (.av (.int .i64 0)),.none,[],[]⟩])
 (.seq (.seq (.reg false [⟨.some 12,.mv (.tmp 1),.none,[],[]⟩,
 ⟨.some 13,.len true (.tmp 12),.none,[],[]⟩,
 ⟨.some 14,.bin .gtr (.tmp 13) (.av (.int .i64 400)),.none,[],[]⟩])
 (.cond (.tmp 14)
 (.seq (.reg false [⟨.some 4,.mv (.av (.str [])),.none,[],[]⟩,
 ⟨.some 5,.mv (.av (.str [])),.none,[],[]⟩,
 ⟨.some 6,.mv (.av (.int .i64 8)),.none,[],[]⟩])
 .ret)
 .skip))
 (.cut [1,2] []
 (.seq (.reg false [⟨.some 16,.mv (.tmp 1),.none,[],[]⟩,
 ⟨.some 17,.call (.av (.fn n_strings_Cut [])) [(.tmp 16),(.av (.str [32]))],.none,[],[]⟩,
 ⟨.some 15,.mv (.tmp 17),.none,[],[]⟩,
 ⟨.some 18,.extract (.tmp 15) 0,.none,[],[]⟩,
 ⟨.some 19,.extract (.tmp 15) 1,.none,[],[]⟩,
 ⟨.some 20,.extract (.tmp 15) 2,.none,[],[]⟩,
 ⟨.some 7,.mv (.tmp 18),.none,[],[]⟩,
 ⟨.some 8,.mv (.tmp 19),.none,[],[]⟩,
 ⟨.some 9,.mv (.tmp 20),.none,[],[]⟩])
 (.seq (.reg false [⟨.some 22,.load false false 1 (.av (.rptr [(.map [(.tup [(.str [100,105,118,101]),.nils]),(.tup [(.str [102,105,108,108]),(.slc 1 [(.int .i64 1)] .unk)]),(.tup [(.str [102,105,120]),(.slc 1 [(.int .i64 1),(.int .i64 2)] .unk)]),(.tup [(.str [107,105,116]),(.slc 1 [(.int .i64 1)] .unk)]),(.tup [(.str [112,108,97,110]),.nils]),(.tup [(.str [114,101,99,111,114,100]),.nils]),(.tup [(.str [115,105,103,110]),.nils])])])),.none,[],[]⟩,
 ⟨.some 23,.mv (.tmp 7),.none,[],[]⟩,
 ⟨.some 24,.lookup .nils true (.tmp 22) (.tmp 23),.none,[],[]⟩,
 ⟨.some 21,.mv (.tmp 24),.none,[],[]⟩,
 ⟨.some 25,.extract (.tmp 21) 0,.none,[],[]⟩,
 ⟨.some 26,.extract (.tmp 21) 1,.none,[],[]⟩,
 ⟨.some 10,.mv (.tmp 25),.none,[25],[]⟩,
 ⟨.some 11,.mv (.tmp 26),.none,[],[]⟩])
 (.seq (.block 0
 (.seq (.reg false [⟨.some 28,.mv (.tmp 9),.none,[],[]⟩,
 ⟨.some 29,.un .not (.tmp 28),.none,[],[]⟩,
 ⟨.some 30,.mv (.tmp 29),.none,[],[]⟩,
 ⟨.some 31,.mv (.tmp 1),.some (30,false),[],[]⟩,
 ⟨.some 32,.call (.av (.fn n_strings_Contains [])) [(.tmp 31),(.av (.str [10]))],.some (30,false),[],[]⟩,
 ⟨.some 33,.pick (.tmp 30) (.av (.bool true)) (.tmp 32),.none,[],[]⟩,
 ⟨.some 27,.mv (.tmp 33),.none,[],[]⟩])
 (.cond (.tmp 27)
 (.seq (.reg false [⟨.some 4,.mv (.av (.str [])),.none,[],[]⟩,
 ⟨.some 5,.mv (.av (.str [])),.none,[],[]⟩,
 ⟨.some 6,.mv (.av (.int .i64 7)),.none,[],[]⟩])
 .ret)
 (.seq (.reg false [⟨.some 35,.mv (.tmp 11),.none,[],[]⟩,
 ⟨.some 36,.un .not (.tmp 35),.none,[],[]⟩,
 ⟨.some 34,.mv (.tmp 36),.none,[],[]⟩])
 (.cond (.tmp 34)
 (.seq (.reg false [⟨.some 4,.mv (.av (.str [])),.none,[],[]⟩,
 ⟨.some 5,.mv (.av (.str [])),.none,[],[]⟩,
 ⟨.some 6,.mv (.av (.int .i64 15)),.none,[],[]⟩])
 .ret)
 (.seq (.reg false [⟨.some 38,.mv (.tmp 10),.none,[],[]⟩,
 ⟨.some 39,.faddr 1 (.tmp 2),.none,[],[]⟩,
 ⟨.some 40,.load false false 1 (.tmp 39),.none,[],[]⟩,
 ⟨.some 41,.call (.av (.fn n_slices_Contains_int [])) [(.tmp 38),(.tmp 40)],.none,[],[]⟩,
 ⟨.some 37,.mv (.tmp 41),.none,[],[]⟩])
 (.cond (.tmp 37)
 (.seq (.reg false [⟨.some 4,.mv (.av (.str [])),.none,[],[]⟩,
 ⟨.some 5,.mv (.av (.str [])),.none,[],[]⟩,
 ⟨.some 6,.mv (.av (.int .i64 24)),.none,[],[]⟩])
 .ret)
 .skip)))))))
 (.cut [7,8] []
 (.seq (.reg false [⟨.some 42,.mv (.tmp 7),.none,[],[]⟩,
 ⟨.some 43,.mv (.tmp 8),.none,[],[]⟩,
 ⟨.some 4,.mv (.tmp 42),.none,[],[]⟩,
 ⟨.some 5,.mv (.tmp 43),.none,[],[]⟩,
 ⟨.some 6,.mv (.av (.int .i64 0)),.none,[],[]⟩])
 .ret)))))))),
 [.tmp 4,.tmp 5,.tmp 6], false⟩
theorem c_desk_head : chkFunc Tryz.prog gl n_desk_head a_desk_head = true := by kernel_rfl
/- (*shotline/desk.keeper).fix -/
def b_desk_keeper_fix_1 : ACode :=
 (.seq (.reg false [⟨.some 126,.bin .lss (.tmp 125) (.tmp 124),.none,[],[]⟩])
 (.seq (.cond (.tmp 126)
 .skip
 (.exit 2))
 (.cut [0,16,17,123,124,125] []
 (.seq (.block 3
 (.seq (.reg false [⟨.some 127,.iaddr .none 6 (.tmp 123) (.tmp 125),.none,[],[]⟩,
 ⟨.some 128,.load true false 6 (.tmp 127),.none,[],[]⟩,
 ⟨.some 19,.alloc [(.int .i64 0),(.str []),(.int .i64 0),(.str []),(.str []),.nili],.none,[],[]⟩,
 ⟨.none,.store 6 (.tmp 19) (.tmp 128),.none,[128],[]⟩])
 (.seq (.reg false [⟨.some 129,.load true false 6 (.tmp 19),.none,[],[]⟩,
 ⟨.some 130,.call (.av (.fn n_desk_world_add [])) [(.tmp 17),(.tmp 129)],.none,[],[]⟩,
 ⟨.some 20,.mv (.tmp 130),.none,[],[]⟩])
 (.seq (.reg false [⟨.some 131,.mv (.tmp 20),.none,[],[]⟩,
 ⟨.some 132,.bin .neq (.tmp 131) (.av (.int .i64 0)),.none,[],[]⟩])
 (.cond (.tmp 132)
 (.seq (.reg false [⟨.some 133,.mv (.tmp 20),.none,[],[]⟩,
 ⟨.some 6,.mv (.tmp 133),.none,[],[]⟩])
 .ret)
 .skip)))))
 (.cut [0,16,17,123,124,125] []
 (.reg false [⟨.some 134,.bin .add (.tmp 125) (.av (.int .i64 1)),.none,[],[]⟩,
 ⟨.some 125,.mv (.tmp 134),.none,[],[]⟩]))))))
def l_desk_keeper_fix_1 : ACode := .loop (.cut [0,16,17,123,124,125] [[19]] b_desk_keeper_fix_1)
def a_desk_keeper_fix : AFunc := ⟨143,
 (.seq (.reg false [⟨.some 4,.box false (.tmp 1),.none,[],[]⟩,
 ⟨.some 6,.mv (.av (.int .i64 0)),.none,[],[]⟩])
 (.seq (.reg false [⟨.some 22,.mv (.tmp 2),.none,[],[]⟩,
 ⟨.some 23,.call (.av (.fn n_strings_Cut [])) [(.tmp 22),(.av (.str [32]))],.none,[],[]⟩,
 ⟨.some 21,.mv (.tmp 23),.none,[],[]⟩,
 ⟨.some 24,.extract (.tmp 21) 0,.none,[],[]⟩,
 ⟨.some 25,.extract (.tmp 21) 1,.none,[],[]⟩,
 ⟨.some 26,.extract (.tmp 21) 2,.none,[],[]⟩,
 ⟨.some 7,.mv (.tmp 24),.none,[],[]⟩,
 ⟨.some 8,.mv (.tmp 25),.none,[],[]⟩,
 ⟨.some 9,.mv (.tmp 26),.none,[],[]⟩])
 (.seq (.reg false [⟨.some 28,.mv (.tmp 7),.none,[],[]⟩,
 ⟨.some 29,.call (.av (.fn n_desk_number [])) [(.tmp 28),(.av (.int .i64 3))],.none,[],[]⟩,
 ⟨.some 27,.mv (.tmp 29),.none,[],[]⟩,
 ⟨.some 30,.extract (.tmp 27) 0,.none,[],[]⟩,
 ⟨.some 31,.extract (.tmp 27) 1,.none,[],[]⟩,
 ⟨.some 10,.alloc [(.int .i64 0)],.none,[],[]⟩,
 ⟨.none,.store 1 (.tmp 10) (.tmp 30),.none,[30],[]⟩,
 ⟨.some 11,.mv (.tmp 31),.none,[],[]⟩])
 (.seq (.block 0
 (.seq (.reg false [⟨.some 33,.mv (.tmp 9),.none,[],[]⟩,
 ⟨.some 34,.un .not (.tmp 33),.none,[],[]⟩,
 ⟨.some 35,.mv (.tmp 34),.none,[],[]⟩,
 ⟨.some 36,.mv (.tmp 11),.some (35,false),[],[]⟩,
 ⟨.some 37,.un .not (.tmp 36),.some (35,false),[],[]⟩,
 ⟨.some 38,.pick (.tmp 35) (.av (.bool true)) (.tmp 37),.none,[],[]⟩,
 ⟨.some 32,.mv (.tmp 38),.none,[],[]⟩])
 (.cond (.tmp 32)
 (.seq (.reg false [⟨.some 6,.mv (.av (.int .i64 7)),.none,[],[]⟩])
 .ret)
 (.seq (.reg false [⟨.some 40,.mv (.tmp 8),.none,[],[]⟩,
 ⟨.some 41,.call (.av (.fn n_strings_HasPrefix [])) [(.tmp 40),(.av (.str [102,105,120,32]))],.none,[],[]⟩,
 ⟨.some 39,.mv (.tmp 41),.none,[],[]⟩])
 (.cond (.tmp 39)
 (.seq (.reg false [⟨.some 6,.mv (.av (.int .i64 15)),.none,[],[]⟩])
 .ret)
 .skip)))))
 (.cut [0,4,8,10] []
 (.seq (.reg false [⟨.some 42,.mv (.tmp 0),.none,[],[]⟩,
 ⟨.some 43,.nilchk (.tmp 42),.none,[],[]⟩,
 ⟨.some 44,.faddr 17 (.tmp 43),.none,[],[]⟩,
 ⟨.some 45,.load false false 1 (.tmp 44),.none,[],[]⟩,
 ⟨.some 46,.mkfn n_desk_keeper_fix_c1 [(.tmp 10)],.none,[],[]⟩,
 ⟨.some 47,.call (.av (.fn n_slices_IndexFunc_desk_counted [])) [(.tmp 45),(.tmp 46)],.none,[],[]⟩,
 ⟨.some 12,.mv (.tmp 47),.none,[],[]⟩])
 (.seq (.seq (.reg false [⟨.some 48,.mv (.tmp 12),.none,[],[]⟩,
 ⟨.some 49,.bin .geq (.tmp 48) (.av (.int .i64 0)),.none,[],[]⟩])
 (.cond (.tmp 49)
 (.reg false [⟨.some 50,.mv (.tmp 0),.none,[],[]⟩,
 ⟨.some 51,.nilchk (.tmp 50),.none,[],[]⟩,
 ⟨.some 52,.faddr 17 (.tmp 51),.none,[],[]⟩,
 ⟨.some 53,.load false false 1 (.tmp 52),.none,[],[]⟩,
 ⟨.some 54,.mv (.tmp 12),.none,[],[]⟩,
 ⟨.some 55,.iaddr .none 6 (.tmp 53) (.tmp 54),.none,[],[]⟩,
 ⟨.some 56,.faddr 1 (.tmp 55),.none,[],[]⟩,
 ⟨.some 57,.load true false 2 (.tmp 56),.none,[],[]⟩,
 ⟨.none,.store 2 (.tmp 4) (.tmp 57),.none,[57],[]⟩])
 .skip))
 (.cut [0,4,8,10,12] []
 (.seq (.reg false [⟨.some 59,.load true false 2 (.tmp 4),.none,[],[]⟩,
 ⟨.some 60,.mv (.tmp 8),.none,[],[]⟩,
 ⟨.some 61,.call (.av (.fn n_desk_head [])) [(.tmp 59),(.tmp 60)],.none,[],[]⟩,
 ⟨.some 58,.mv (.tmp 61),.none,[],[]⟩,
 ⟨.some 62,.extract (.tmp 58) 0,.none,[],[]⟩,
 ⟨.some 63,.extract (.tmp 58) 1,.none,[],[]⟩,
 ⟨.some 64,.extract (.tmp 58) 2,.none,[],[]⟩,
 ⟨.some 13,.mv (.tmp 62),.none,[],[]⟩,
 ⟨.some 2,.mv (.tmp 63),.none,[],[]⟩,
 ⟨.some 14,.mv (.tmp 64),.none,[],[]⟩])
 (.seq (.seq (.reg false [⟨.some 65,.mv (.tmp 14),.none,[],[]⟩,
 ⟨.some 66,.bin .neq (.tmp 65) (.av (.int .i64 0)),.none,[],[]⟩])
 (.cond (.tmp 66)
 (.seq (.reg false [⟨.some 67,.mv (.tmp 14),.none,[],[]⟩,
 ⟨.some 6,.mv (.tmp 67),.none,[],[]⟩])
 .ret)
 .skip))
 (.cut [0,2,8,10,12,13] []
 (.seq (.reg false [⟨.some 69,.mv (.tmp 13),.none,[],[]⟩,
 ⟨.some 70,.mv (.tmp 2),.none,[],[]⟩,
 ⟨.some 71,.call (.av (.fn n_desk_factOf [])) [(.tmp 69),(.tmp 70)],.none,[],[]⟩,
 ⟨.some 68,.mv (.tmp 71),.none,[],[]⟩,
 ⟨.some 72,.extract (.tmp 68) 0,.none,[],[]⟩,
 ⟨.some 73,.extract (.tmp 68) 1,.none,[],[]⟩,
 ⟨.some 15,.mv (.tmp 72),.none,[],[]⟩,
 ⟨.some 14,.mv (.tmp 73),.none,[],[]⟩])
 (.seq (.block 1
 (.seq (.reg false [⟨.some 75,.mv (.tmp 14),.none,[],[]⟩,
 ⟨.some 76,.bin .neq (.tmp 75) (.av (.int .i64 0)),.none,[],[]⟩,
 ⟨.some 74,.mv (.tmp 76),.none,[],[]⟩])
 (.cond (.tmp 74)
 (.seq (.reg false [⟨.some 77,.mv (.tmp 14),.none,[],[]⟩,
 ⟨.some 6,.mv (.tmp 77),.none,[],[]⟩])
 .ret)
 (.seq (.reg true [⟨.some 79,.load false false 1 (.tmp 10),.none,[],[]⟩,
 ⟨.some 80,.mv (.tmp 0),.none,[],[]⟩,
 ⟨.some 81,.nilchk (.tmp 80),.none,[],[]⟩,
 ⟨.some 82,.faddr 16 (.tmp 81),.none,[],[]⟩,
 ⟨.some 83,.load false false 1 (.tmp 82),.none,[],[]⟩,
 ⟨.some 84,.len false (.tmp 83),.none,[],[]⟩,
 ⟨.some 85,.call (.av (.fn n_desk_within [])) [(.tmp 79),(.av (.int .i64 1)),(.tmp 84)],.none,[],[]⟩,
 ⟨.some 86,.un .not (.tmp 85),.none,[],[]⟩,
 ⟨.some 78,.mv (.tmp 86),.none,[],[]⟩])
 (.cond (.tmp 78)
 (.seq (.reg false [⟨.some 6,.mv (.av (.int .i64 6)),.none,[],[]⟩])
 .ret)
 (.seq (.reg false [⟨.some 88,.mv (.tmp 12),.none,[],[]⟩,
 ⟨.some 89,.bin .lss (.tmp 88) (.av (.int .i64 0)),.none,[],[]⟩,
 ⟨.some 90,.mv (.tmp 89),.none,[],[]⟩,
 ⟨.some 91,.mv (.tmp 0),.some (90,false),[],[]⟩,
 ⟨.some 92,.nilchk (.tmp 91),.some (90,false),[],[]⟩,
 ⟨.some 93,.faddr 17 (.tmp 92),.some (90,false),[],[]⟩,
 ⟨.some 94,.load false false 1 (.tmp 93),.some (90,false),[],[]⟩,
 ⟨.some 95,.mv (.tmp 12),.some (90,false),[],[]⟩,
 ⟨.some 96,.iaddr .none 6 (.tmp 94) (.tmp 95),.some (90,false),[],[]⟩,
 ⟨.some 97,.faddr 3 (.tmp 96),.some (90,false),[],[]⟩,
 ⟨.some 98,.load false false 1 (.tmp 97),.some (90,false),[],[]⟩,
 ⟨.some 99,.mv (.tmp 13),.some (90,false),[],[]⟩,
 ⟨.some 100,.bin .neq (.tmp 98) (.tmp 99),.some (90,false),[],[]⟩,
 ⟨.some 101,.pick (.tmp 90) (.av (.bool true)) (.tmp 100),.none,[],[]⟩,
 ⟨.some 87,.mv (.tmp 101),.none,[],[]⟩])
 (.cond (.tmp 87)
 (.seq (.reg false [⟨.some 6,.mv (.av (.int .i64 15)),.none,[],[]⟩])
 .ret)
 .skip)))))))
 (.cut [0,8,12,15] []
 (.cset [⟨.some 102,.mv (.tmp 0),.none,[],[]⟩,
 ⟨.some 103,.nilchk (.tmp 102),.none,[],[]⟩,
 ⟨.some 104,.faddr 17 (.tmp 103),.none,[],[]⟩,
 ⟨.some 105,.load false false 1 (.tmp 104),.none,[],[]⟩] 113 (.tmp 105) 106 16 6 (.tmp 12) 4 (.tmp 8) 5 (.tmp 15) [107,108,109,110,111,112,113,114,115,116]
 (.cut [0,16] []
 (.seq (.reg false [⟨.some 117,.mv (.tmp 0),.none,[],[]⟩,
 ⟨.some 118,.nilchk (.tmp 117),.none,[],[]⟩,
 ⟨.some 119,.faddr 0 (.tmp 118),.none,[],[]⟩,
 ⟨.some 120,.faddr 0 (.tmp 119),.none,[],[]⟩,
 ⟨.some 121,.load false false 1 (.tmp 120),.none,[],[]⟩,
 ⟨.some 122,.call (.av (.fn n_desk_newWorld [])) [(.tmp 121)],.none,[],[]⟩,
 ⟨.some 17,.alloc [.nilp,.nils,.nils,.nils,.nils,.nils,.nils,.nils,.nils,.nils,(.int .i64 0),(.int .i64 0),(.int .i64 0),(.int .i64 0),(.int .i64 0),(.int .i64 0)],.none,[],[]⟩,
 ⟨.none,.store 16 (.tmp 17) (.tmp 122),.none,[122],[]⟩])
 (.seq (.seq (.reg false [⟨.some 123,.mv (.tmp 16),.none,[],[]⟩,
 ⟨.some 124,.len false (.tmp 123),.none,[],[]⟩,
 ⟨.some 125,.mv (.av (.int .i64 0)),.none,[],[]⟩])
 (.block 2
 l_desk_keeper_fix_1))
 (.cut [0,16,17] []
 (.seq (.reg false [⟨.some 135,.mv (.tmp 0),.none,[],[]⟩,
 ⟨.some 136,.mv (.tmp 0),.none,[],[]⟩,
 ⟨.some 137,.load true false 16 (.tmp 17),.none,[],[]⟩,
 ⟨.some 138,.mv (.tmp 16),.none,[16],[]⟩,
 ⟨.some 139,.nilchk (.tmp 135),.none,[],[]⟩,
 ⟨.some 140,.faddr 0 (.tmp 139),.none,[],[]⟩,
 ⟨.none,.store 16 (.tmp 140) (.tmp 137),.none,[137],[]⟩,
 ⟨.some 141,.nilchk (.tmp 136),.none,[],[]⟩,
 ⟨.some 142,.faddr 17 (.tmp 141),.none,[],[]⟩,
 ⟨.none,.store 1 (.tmp 142) (.tmp 138),.none,[138],[]⟩])
 (.seq (.reg false [⟨.some 6,.mv (.av (.int .i64 0)),.none,[],[]⟩])
 .ret))))))))))))))))))))),
 [.tmp 6], false⟩
theorem c_desk_keeper_fix : chkFunc Tryz.prog gl n_desk_keeper_fix a_desk_keeper_fix = true := by kernel_rfl
/- (*shotline/desk.keeper).fact -/
def a_desk_keeper_fact : AFunc := ⟨59,
 (.seq (.reg false [⟨.some 6,.box true (.tmp 1),.none,[],[]⟩,
 ⟨.some 10,.mv (.av (.int .i64 0)),.none,[],[]⟩])
 (.seq (.reg false [⟨.some 17,.mv (.tmp 2),.none,[],[]⟩,
 ⟨.some 18,.mv (.tmp 3),.none,[],[]⟩,
 ⟨.some 19,.call (.av (.fn n_desk_factOf [])) [(.tmp 17),(.tmp 18)],.none,[],[]⟩,
 ⟨.some 16,.mv (.tmp 19),.none,[],[]⟩,
 ⟨.some 20,.extract (.tmp 16) 0,.none,[],[]⟩,
 ⟨.some 21,.extract (.tmp 16) 1,.none,[],[]⟩,
 ⟨.some 11,.mv (.tmp 20),.none,[],[]⟩,
 ⟨.some 12,.mv (.tmp 21),.none,[],[]⟩])
 (.seq (.seq (.reg false [⟨.some 22,.mv (.tmp 12),.none,[],[]⟩,
 ⟨.some 23,.bin .neq (.tmp 22) (.av (.int .i64 0)),.none,[],[]⟩])
 (.cond (.tmp 23)
 (.seq (.reg false [⟨.some 24,.mv (.tmp 12),.none,[],[]⟩,
 ⟨.some 10,.mv (.tmp 24),.none,[],[]⟩])
 .ret)
 .skip))
 (.cut [0,2,4,6,11] []
 (.seq (.reg true [⟨.some 25,.mv (.tmp 0),.none,[],[]⟩,
 ⟨.some 26,.nilchk (.tmp 25),.none,[],[]⟩,
 ⟨.some 27,.faddr 16 (.tmp 26),.none,[],[]⟩,
 ⟨.some 28,.load false false 1 (.tmp 27),.none,[],[]⟩,
 ⟨.some 29,.len false (.tmp 28),.none,[],[]⟩,
 ⟨.some 30,.bin .add (.tmp 29) (.av (.int .i64 1)),.none,[],[]⟩,
 ⟨.some 31,.load true false 2 (.tmp 6),.none,[],[]⟩,
 ⟨.some 32,.mv (.tmp 2),.none,[],[]⟩,
 ⟨.some 33,.mv (.tmp 4),.none,[],[]⟩,
 ⟨.some 34,.mv (.tmp 11),.none,[],[]⟩,
 ⟨.some 35,.build [(.int .i64 0),(.str []),(.int .i64 0),(.str []),(.str []),.nili] [(0,1,(.tmp 30)),(1,2,(.tmp 31)),(3,1,(.tmp 32)),(4,1,(.tmp 33)),(5,1,(.tmp 34))],.none,[],[]⟩,
 ⟨.some 13,.alloc [(.int .i64 0),(.str []),(.int .i64 0),(.str []),(.str []),.nili],.none,[],[3,6]⟩,
 ⟨.none,.store 6 (.tmp 13) (.tmp 35),.none,[35],[]⟩])
 (.seq (.reg false [⟨.some 36,.mv (.tmp 0),.none,[],[]⟩,
 ⟨.some 37,.nilchk (.tmp 36),.none,[],[]⟩,
 ⟨.some 38,.faddr 0 (.tmp 37),.none,[],[]⟩,
 ⟨.some 39,.load true false 16 (.tmp 38),.none,[],[]⟩,
 ⟨.some 14,.alloc [.nilp,.nils,.nils,.nils,.nils,.nils,.nils,.nils,.nils,.nils,(.int .i64 0),(.int .i64 0),(.int .i64 0),(.int .i64 0),(.int .i64 0),(.int .i64 0)],.none,[],[]⟩,
 ⟨.none,.store 16 (.tmp 14) (.tmp 39),.none,[39],[]⟩])
 (.seq (.seq (.reg false [⟨.some 40,.load true false 6 (.tmp 13),.none,[],[]⟩,
 ⟨.some 41,.call (.av (.fn n_desk_world_add [])) [(.tmp 14),(.tmp 40)],.none,[],[]⟩,
 ⟨.some 15,.mv (.tmp 41),.none,[],[]⟩])
 (.seq (.reg false [⟨.some 42,.mv (.tmp 15),.none,[],[]⟩,
 ⟨.some 43,.bin .neq (.tmp 42) (.av (.int .i64 0)),.none,[],[]⟩])
 (.cond (.tmp 43)
 (.seq (.reg false [⟨.some 44,.mv (.tmp 15),.none,[],[]⟩,
 ⟨.some 10,.mv (.tmp 44),.none,[],[]⟩])
 .ret)
 .skip)))
 (.cut [0,13,14] []
 (.seq (.reg true [⟨.some 45,.mv (.tmp 0),.none,[],[]⟩,
 ⟨.some 46,.mv (.tmp 0),.none,[],[]⟩,
 ⟨.some 47,.load true false 16 (.tmp 14),.none,[],[]⟩,
 ⟨.some 48,.mv (.tmp 0),.none,[],[]⟩,
 ⟨.some 49,.nilchk (.tmp 48),.none,[],[]⟩,
 ⟨.some 50,.faddr 17 (.tmp 49),.none,[],[]⟩,
 ⟨.some 51,.load false true 1 (.tmp 50),.none,[],[2]⟩,
 ⟨.some 52,.load true false 6 (.tmp 13),.none,[],[6]⟩,
 ⟨.some 53,.bslice true 6 1 [(.int .i64 0),(.str []),(.int .i64 0),(.str []),(.str []),.nili] [(0,(.tmp 52))],.none,[],[]⟩,
 ⟨.some 54,.append 6 80 (.tmp 51) (.tmp 53),.none,[51],[]⟩,
 ⟨.some 55,.nilchk (.tmp 45),.none,[],[]⟩,
 ⟨.some 56,.faddr 0 (.tmp 55),.none,[],[]⟩,
 ⟨.none,.store 16 (.tmp 56) (.tmp 47),.none,[47],[]⟩,
 ⟨.some 57,.nilchk (.tmp 46),.none,[],[]⟩,
 ⟨.some 58,.faddr 17 (.tmp 57),.none,[],[]⟩,
 ⟨.none,.store 1 (.tmp 58) (.tmp 54),.none,[54],[]⟩])
 (.seq (.reg false [⟨.some 10,.mv (.av (.int .i64 0)),.none,[],[]⟩])
 .ret)))))))))),
 [.tmp 10], false⟩
theorem c_desk_keeper_fact : chkFunc Tryz.prog gl n_desk_keeper_fact a_desk_keeper_fact = true := by kernel_rfl
/- shotline/mix.CheckVessels -/
def b_mix_CheckVessels_1 : ACode :=
 (.seq (.reg false [⟨.some 11,.bin .lss (.tmp 10) (.tmp 9),.none,[],[]⟩])
 (.seq (.cond (.tmp 11)
 .skip
 (.exit 0))
 (.cut [0,8,9,10] []
 (.seq (.block 1
 (.seq (.reg false [⟨.some 12,.mv (.tmp 10),.none,[],[]⟩,
 ⟨.some 13,.iaddr .none 3 (.tmp 8) (.tmp 10),.none,[],[]⟩,
 ⟨.some 14,.load true false 3 (.tmp 13),.none,[],[]⟩,
 ⟨.some 4,.alloc [(.str []),(.int .i64 0),(.int .i64 0)],.none,[],[]⟩,
 ⟨.some 3,.mv (.tmp 12),.none,[],[]⟩,
 ⟨.none,.store 3 (.tmp 4) (.tmp 14),.none,[14],[]⟩])
 (.block 2
 (.seq (.reg false [⟨.some 16,.faddr 0 (.tmp 4),.none,[],[]⟩,
 ⟨.some 17,.load false false 1 (.tmp 16),.none,[],[]⟩,
 ⟨.some 18,.call (.av (.fn n_mix_isName [])) [(.tmp 17)],.none,[],[]⟩,
 ⟨.some 19,.un .not (.tmp 18),.none,[],[]⟩,
 ⟨.some 15,.mv (.tmp 19),.none,[],[]⟩])
 (.cond (.tmp 15)
 (.seq (.reg false [⟨.some 2,.mv (.av (.int .i64 4)),.none,[],[]⟩])
 .ret)
 (.seq (.reg false [⟨.some 21,.mv (.tmp 0),.none,[],[]⟩,
 ⟨.some 22,.faddr 0 (.tmp 4),.none,[],[]⟩,
 ⟨.some 23,.load false false 1 (.tmp 22),.none,[],[]⟩,
 ⟨.some 24,.call (.av (.fn n_mix_vessel [])) [(.tmp 21),(.tmp 23)],.none,[],[]⟩,
 ⟨.some 25,.mv (.tmp 3),.none,[],[]⟩,
 ⟨.some 26,.bin .lss (.tmp 24) (.tmp 25),.none,[],[]⟩,
 ⟨.some 20,.mv (.tmp 26),.none,[],[]⟩])
 (.cond (.tmp 20)
 (.seq (.reg false [⟨.some 2,.mv (.av (.int .i64 5)),.none,[],[]⟩])
 .ret)
 (.seq (.reg false [⟨.some 28,.faddr 1 (.tmp 4),.none,[],[]⟩,
 ⟨.some 29,.load false false 1 (.tmp 28),.none,[],[]⟩,
 ⟨.some 30,.call (.av (.fn n_mix_within [])) [(.tmp 29),(.av (.int .i64 1)),(.av (.int .i64 1000000))],.none,[],[]⟩,
 ⟨.some 31,.un .not (.tmp 30),.none,[],[]⟩,
 ⟨.some 32,.mv (.tmp 31),.none,[],[]⟩,
 ⟨.some 33,.faddr 2 (.tmp 4),.some (32,false),[],[]⟩,
 ⟨.some 34,.load false false 1 (.tmp 33),.some (32,false),[],[]⟩,
 ⟨.some 35,.call (.av (.fn n_mix_within [])) [(.tmp 34),(.av (.int .i64 1)),(.av (.int .i64 400000))],.some (32,false),[],[]⟩,
 ⟨.some 36,.un .not (.tmp 35),.some (32,false),[],[]⟩,
 ⟨.some 37,.pick (.tmp 32) (.av (.bool true)) (.tmp 36),.none,[],[]⟩,
 ⟨.some 27,.mv (.tmp 37),.none,[],[]⟩])
 (.cond (.tmp 27)
 (.seq (.reg false [⟨.some 2,.mv (.av (.int .i64 2)),.none,[],[]⟩])
 .ret)
 .skip)))))))))
 (.cut [0,8,9,10] []
 (.reg false [⟨.some 38,.bin .add (.tmp 10) (.av (.int .i64 1)),.none,[],[]⟩,
 ⟨.some 10,.mv (.tmp 38),.none,[],[]⟩]))))))
def l_mix_CheckVessels_1 : ACode := .loop (.cut [0,8,9,10] [[4]] b_mix_CheckVessels_1)
def a_mix_CheckVessels : AFunc := ⟨39,
 (.seq (.reg false [⟨.some 2,.mv (.av (.int .i64 0)),.none,[],[]⟩])
 (.seq (.seq (.reg false [⟨.some 5,.mv (.tmp 0),.none,[],[]⟩,
 ⟨.some 6,.len false (.tmp 5),.none,[],[]⟩,
 ⟨.some 7,.bin .gtr (.tmp 6) (.av (.int .i64 20)),.none,[],[]⟩])
 (.cond (.tmp 7)
 (.seq (.reg false [⟨.some 2,.mv (.av (.int .i64 8)),.none,[],[]⟩])
 .ret)
 .skip))
 (.cut [0] []
 (.seq (.seq (.reg false [⟨.some 8,.mv (.tmp 0),.none,[],[]⟩,
 ⟨.some 9,.len false (.tmp 8),.none,[],[]⟩,
 ⟨.some 10,.mv (.av (.int .i64 0)),.none,[],[]⟩])
 (.block 0
 l_mix_CheckVessels_1))
 (.cut [] []
 (.seq (.reg false [⟨.some 2,.mv (.av (.int .i64 0)),.none,[],[]⟩])
 .ret)))))),
 [.tmp 2], false⟩
theorem c_mix_CheckVessels : chkFunc Tryz.prog gl n_mix_CheckVessels a_mix_CheckVessels = true := by kernel_rfl
end Go.Proofs.YtnhagbllecpkkaaGreatDoor
