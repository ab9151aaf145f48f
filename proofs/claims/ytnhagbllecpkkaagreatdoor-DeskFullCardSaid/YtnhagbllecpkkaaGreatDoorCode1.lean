/-
  The codes of the functions, as the abstract machine runs them, each checked against the program by the kernel.
-/
import Derived.Test.YtnhagbllecpkkaaGreatDoorV1
import Derived.Test.YtnhagbllecpkkaaGreatDoorProg
set_option linter.unusedSimpArgs false
set_option linter.unusedVariables false

namespace Go.Proofs.YtnhagbllecpkkaaGreatDoor
open Go Go.VA Go.Proofs
/-- What the package variables hold. -/
def gl : Globs := fun g =>
  if g = 0 then some rolesAV else
  none
abbrev n_law10_DeskFull : Nat := 3
abbrev n_law10_DeskRecovers : Nat := 4
abbrev n_law10_DeskJournals : Nat := 5
abbrev n_law10_awake : Nat := 6
abbrev n_base_Within : Nat := 7
abbrev n_base_Decimal : Nat := 8
abbrev n_desk_StateOf : Nat := 9
abbrev n_law10_House : Nat := 10
abbrev n_law10_copied : Nat := 11
abbrev n_desk_Accept : Nat := 12
abbrev n_desk_Recover : Nat := 13
abbrev n_ref10_Recover : Nat := 14
abbrev n_law10_entries : Nat := 15
abbrev n_law10_Light : Nat := 16
abbrev n_desk_SealOf : Nat := 17
abbrev n_desk_Journal : Nat := 18
abbrev n_ref10_CheckSealed : Nat := 19
abbrev n_ref10_SealOf : Nat := 20
abbrev n_ref10_Journal : Nat := 21
abbrev n_base_Mod : Nat := 22
abbrev n_desk_Booked : Nat := 23
abbrev n_law10_Diary : Nat := 24
abbrev n_desk_Breathed : Nat := 25
abbrev n_base_Ints : Nat := 26
abbrev n_base_Size : Nat := 27
abbrev n_desk_open : Nat := 28
abbrev n_desk_copied : Nat := 29
abbrev n_desk_keeper_accept : Nat := 30
abbrev n_strings_Lines : Nat := 31
abbrev n_strings_SplitN : Nat := 32
abbrev n_strings_TrimSuffix : Nat := 33
abbrev n_strings_HasSuffix : Nat := 34
abbrev n_desk_seal : Nat := 35
abbrev n_strconv_Itoa : Nat := 36
abbrev n_desk_isName : Nat := 37
abbrev n_base_Cut : Nat := 38
abbrev n_ref10_head : Nat := 39
abbrev n_base_IsName : Nat := 40
abbrev n_ref10_seal : Nat := 41
abbrev n_law10_short : Nat := 42
abbrev n_law10_Small : Nat := 43
abbrev n_desk_seals : Nat := 44
abbrev n_strings_Builder_WriteString : Nat := 45
abbrev n_strings_Join : Nat := 46
abbrev n_mix_Sums : Nat := 48
abbrev n_desk_total : Nat := 49
abbrev n_desk_diveAt : Nat := 50
abbrev n_desk_world_breathedIn : Nat := 51
abbrev n_desk_newKeeper : Nat := 52
abbrev n_desk_keeper_enter : Nat := 53
abbrev n_slices_Clone_api_MixFill : Nat := 54
abbrev n_slices_Clone_api_KitEvent : Nat := 55
abbrev n_slices_Clone_api_DeskSign : Nat := 56
abbrev n_slices_Clone_api_Gas : Nat := 57
abbrev n_slices_Clone_api_DiveLeg : Nat := 58
abbrev n_slices_Clone_string : Nat := 59
abbrev n_slices_Clone_api_DivePoint : Nat := 60
abbrev n_strings_Contains : Nat := 67
abbrev n_mix_read : Nat := 70
abbrev n_mix_gases_content : Nat := 71
abbrev n_desk_plus : Nat := 72
abbrev n_desk_world_dive : Nat := 73
abbrev n_exposure_Consumed : Nat := 74
abbrev n_desk_world_planOf : Nat := 75
abbrev n_desk_CheckDesk : Nat := 76
abbrev n_desk_newWorld : Nat := 77
abbrev n_desk_world_person : Nat := 78
abbrev n_desk_head : Nat := 79
abbrev n_desk_keeper_fix : Nat := 80
abbrev n_desk_keeper_fact : Nat := 81
abbrev n_mix_CheckVessels : Nat := 89
abbrev n_mix_store_enter : Nat := 90
abbrev n_slices_IndexFunc_api_DeskDive : Nat := 91
abbrev n_desk_world_dive_c1 : Nat := 92
abbrev n_exposure_checkPlan : Nat := 93
abbrev n_exposure_isBreath : Nat := 94
abbrev n_exposure_legs : Nat := 95
abbrev n_exposure_leg_breathes : Nat := 96
abbrev n_desk_world_plan : Nat := 97
abbrev n_kit_CheckSetup : Nat := 98
abbrev n_slices_ContainsFunc_api_DeskPerson : Nat := 99
abbrev n_desk_CheckDesk_c1 : Nat := 100
abbrev n_desk_within : Nat := 101
abbrev n_exposure_CheckRules : Nat := 102
abbrev n_tissue_CheckTable : Nat := 103
abbrev n_slices_IndexFunc_api_DeskPerson : Nat := 104
abbrev n_desk_world_person_c1 : Nat := 105
abbrev n_strings_Cut : Nat := 106
abbrev n_slices_Contains_int : Nat := 107
abbrev n_desk_number : Nat := 108
abbrev n_strings_HasPrefix : Nat := 109
abbrev n_slices_IndexFunc_desk_counted : Nat := 110
abbrev n_desk_keeper_fix_c1 : Nat := 111
abbrev n_desk_factOf : Nat := 112
abbrev n_slices_Clone_desk_counted : Nat := 113
abbrev n_desk_world_add : Nat := 114
abbrev n_internal_stringslite_Index : Nat := 119
abbrev n_mix_isName : Nat := 125
abbrev n_mix_vessel : Nat := 126
abbrev n_mix_within : Nat := 127
abbrev n_mix_alone : Nat := 128
abbrev n_mix_takes : Nat := 129
abbrev n_mix_puts : Nat := 130
abbrev n_mix_gases_sum : Nat := 131
abbrev n_mix_store_above : Nat := 132
abbrev n_mix_fresh : Nat := 133
abbrev n_mix_gases_share : Nat := 134
abbrev n_mix_gases_less : Nat := 135
abbrev n_mix_gases_plus : Nat := 136
abbrev n_profile_CheckPlan : Nat := 137
abbrev n_exposure_within : Nat := 138
abbrev n_exposure_up : Nat := 139
abbrev n_slices_IndexFunc_api_DivePlan : Nat := 140
abbrev n_desk_world_plan_c1 : Nat := 141
abbrev n_kit_item : Nat := 143
abbrev n_kit_isKind : Nat := 144
abbrev n_kit_isDay : Nat := 145
abbrev n_kit_rule : Nat := 146
abbrev n_kit_within : Nat := 147
abbrev n_gas_CheckLimits : Nat := 148
abbrev n_tissue_within : Nat := 149
abbrev n_tissue_isCompartment : Nat := 150
abbrev n_internal_stringslite_Cut : Nat := 151
abbrev n_slices_Index_int : Nat := 152
abbrev n_strconv_Atoi : Nat := 153
abbrev n_strings_TrimPrefix : Nat := 154
abbrev n_mix_ParseFill : Nat := 156
abbrev n_kit_ParseEvent : Nat := 157
abbrev n_profile_ParsePlanLine : Nat := 158
abbrev n_desk_diveOf : Nat := 159
abbrev n_strings_Split : Nat := 160
abbrev n_profile_ParsePoints : Nat := 161
abbrev n_desk_less : Nat := 162
abbrev n_desk_world_vessel : Nat := 163
abbrev n_desk_with_api_MixContent : Nat := 164
abbrev n_slices_IndexFunc_api_MixVessel : Nat := 174
abbrev n_mix_vessel_c1 : Nat := 175
abbrev n_gas_CheckGas : Nat := 176
abbrev n_slices_SortStableFunc_int : Nat := 177
abbrev n_mix_gases_share_c1 : Nat := 178
abbrev n_cmp_Compare_int : Nat := 179
abbrev n_profile_isName : Nat := 180
abbrev n_profile_within : Nat := 181
abbrev n_kit_find_api_KitItem : Nat := 182
abbrev n_kit_item_c1 : Nat := 183
abbrev n_kit_find_api_KitRule : Nat := 184
abbrev n_kit_rule_c1 : Nat := 185
abbrev n_gas_first : Nat := 186
abbrev n_gas_bound : Nat := 187
abbrev n_mix_fillOf : Nat := 191
abbrev n_profile_numbers : Nat := 193
abbrev n_slices_Chunk_int : Nat := 194
abbrev n_profile_check : Nat := 195
abbrev n_profile_CheckPoints : Nat := 196
abbrev n_desk_world_vessel_c1 : Nat := 197
abbrev n_slices_Clip_api_MixContent : Nat := 198
abbrev n_slices_stableCmpFunc_int : Nat := 202
abbrev n_cmp_isNaN_int : Nat := 203
abbrev n_slices_IndexFunc_api_KitItem : Nat := 204
abbrev n_slices_IndexFunc_api_KitRule : Nat := 205
abbrev n_gas_within : Nat := 206
abbrev n_mix_number : Nat := 212
abbrev n_slices_insertionSortCmpFunc_int : Nat := 214
abbrev n_slices_symMergeCmpFunc_int : Nat := 215
abbrev n_slices_rotateCmpFunc_int : Nat := 219
abbrev n_slices_swapRangeCmpFunc_int : Nat := 222
abbrev n_desk_fillFact_add : Nat := 241
abbrev n_desk_world_fill : Nat := 242
abbrev n_mix_AddFill : Nat := 243
abbrev n_mix_Contents : Nat := 244
abbrev n_desk_kitFact_add : Nat := 245
abbrev n_desk_world_event : Nat := 246
abbrev n_kit_AddEvent : Nat := 247
abbrev n_kit_more : Nat := 248
abbrev n_kit_follow : Nat := 249
abbrev n_desk_planFact_add : Nat := 283
abbrev n_desk_with_api_DivePlan : Nat := 284
abbrev n_slices_Clip_api_DivePlan : Nat := 285
abbrev n_desk_recordFact_add : Nat := 286
abbrev n_desk_world_record : Nat := 287
abbrev n_desk_with_api_DeskRecord : Nat := 288
abbrev n_slices_IndexFunc_api_DeskRecord : Nat := 289
abbrev n_desk_world_record_c1 : Nat := 290
abbrev n_slices_Clip_api_DeskRecord : Nat := 291
abbrev n_desk_signFact_add : Nat := 292
abbrev n_slices_Contains_api_DeskSign : Nat := 293
abbrev n_desk_with_api_DeskSign : Nat := 294
abbrev n_slices_Index_api_DeskSign : Nat := 295
abbrev n_slices_Clip_api_DeskSign : Nat := 296
abbrev n_desk_diveFact_add : Nat := 297
abbrev n_desk_world_checkDive : Nat := 298
abbrev n_desk_with_api_MixContent_299 : Nat := 299
abbrev n_slices_ContainsFunc_api_KitItem : Nat := 300
abbrev n_desk_diveFact_add_c1 : Nat := 301
abbrev n_desk_with_api_DeskDive : Nat := 302
abbrev n_slices_Contains_string : Nat := 303
abbrev n_desk_world_span : Nat := 304
abbrev n_slices_Clip_api_MixContent_305 : Nat := 305
abbrev n_slices_Clip_api_DeskDive : Nat := 306
abbrev n_slices_Index_string : Nat := 307
abbrev n_profile_PlanSeconds : Nat := 308
abbrev n_profile_trackOf : Nat := 309
abbrev n_profile_track_end : Nat := 310
def b_law10_DeskFull_1 : ACode :=
 (.seq (.seq (.reg false [⟨.some 18,.mv (.tmp 4),.none,[],[]⟩,⟨.some 19,.bin .lss (.tmp 18) (.av (.int .i64 60)),.none,[],[]⟩])
 (.cond (.tmp 19)
 .skip
 (.exit 0)))
 (.cut [0,3,4] []
 (.seq (.block 1
 (.reg false [⟨.some 22,.mv (.tmp 3),.none,[3],[]⟩,⟨.some 23,.mv (.tmp 4),.none,[],[]⟩,⟨.some 24,.call (.av (.fn n_base_Decimal [])) [(.tmp 23)],.none,[],[]⟩,⟨.some 25,.bin .add (.av (.str [112,108,97,110,32,112])) (.tmp 24),.none,[],[]⟩,⟨.some 26,.bin .add (.tmp 25) (.av (.str [32,49,48,48,48,32,49,32,50,49,48,32,48,32])),.none,[],[]⟩,⟨.some 27,.mv (.tmp 0),.none,[],[]⟩,⟨.some 28,.call (.av (.fn n_base_Decimal [])) [(.tmp 27)],.none,[],[]⟩,⟨.some 29,.bin .add (.tmp 26) (.tmp 28),.none,[],[]⟩,⟨.some 30,.bin .add (.tmp 29) (.av (.str [32,48,32,48])),.none,[],[]⟩,⟨.some 31,.build [(.str []),(.str [])] [(0,1,(.av (.str [97,110,110]))),(1,1,(.tmp 30))],.none,[],[]⟩,⟨.some 32,.bslice true 2 1 [(.str []),(.str [])] [(0,(.tmp 31))],.none,[],[]⟩,⟨.some 33,.append 2 32 (.tmp 22) (.tmp 32),.none,[22],[]⟩,⟨.some 3,.mv (.tmp 33),.none,[33],[]⟩]))
 (.cut [0,3,4] []
 (.reg false [⟨.some 20,.mv (.tmp 4),.none,[],[]⟩,⟨.some 21,.bin .add (.tmp 20) (.av (.int .i64 1)),.none,[],[]⟩,⟨.some 4,.mv (.tmp 21),.none,[],[]⟩])))))
def l_law10_DeskFull_1 : ACode := .loop (.cut [0,3,4] [] b_law10_DeskFull_1)
@[simp] def t_law10_DeskFull_1 : ACode :=
 (.cut [3] []
 (.seq (.reg false [⟨.some 34,.build [(.str []),(.str [])] [(0,1,(.av (.str [97,110,110]))),(1,1,(.av (.str [112,108,97,110,32,109,111,114,101,32,49,48,48,48,32,49,32,50,49,48,32,48])))],.none,[],[]⟩,⟨.some 5,.alloc [(.str []),(.str [])],.none,[],[]⟩,⟨.none,.store 2 (.tmp 5) (.tmp 34),.none,[34],[]⟩])
 (.seq (.reg false [⟨.some 36,.call (.av (.fn n_law10_House [])) [],.none,[],[]⟩,⟨.some 37,.mv (.tmp 3),.none,[],[]⟩,⟨.some 38,.call (.av (.fn n_law10_copied [])) [(.tmp 37)],.none,[],[]⟩,⟨.some 39,.call (.av (.fn n_desk_StateOf [])) [(.tmp 36),(.tmp 38)],.none,[],[]⟩,⟨.some 35,.mv (.tmp 39),.none,[],[]⟩,⟨.some 40,.extract (.tmp 35) 0,.none,[],[]⟩,⟨.some 41,.extract (.tmp 35) 1,.none,[],[]⟩,⟨.some 42,.extract (.tmp 35) 2,.none,[],[]⟩,⟨.some 6,.alloc [.nils,.nils,.nils,.nils,.nils,.nils],.none,[],[]⟩,⟨.none,.store 6 (.tmp 6) (.tmp 40),.none,[40],[]⟩,⟨.some 7,.mv (.tmp 41),.none,[],[]⟩,⟨.some 8,.mv (.tmp 42),.none,[],[]⟩])
 (.seq (.reg true [⟨.some 44,.call (.av (.fn n_law10_House [])) [],.none,[],[0]⟩,⟨.some 45,.mv (.tmp 3),.none,[],[]⟩,⟨.some 46,.call (.av (.fn n_law10_copied [])) [(.tmp 45)],.none,[],[2]⟩,⟨.some 47,.load true false 2 (.tmp 5),.none,[],[]⟩,⟨.some 48,.call (.av (.fn n_desk_Accept [])) [(.tmp 44),(.tmp 46),(.tmp 47)],.none,[],[]⟩,⟨.some 43,.mv (.tmp 48),.none,[],[]⟩,⟨.some 49,.extract (.tmp 43) 0,.none,[],[]⟩,⟨.some 50,.extract (.tmp 43) 1,.none,[],[]⟩,⟨.some 9,.mv (.tmp 49),.none,[49],[]⟩,⟨.some 10,.mv (.tmp 50),.none,[],[]⟩])
 (.seq (.reg true [⟨.some 52,.call (.av (.fn n_law10_House [])) [],.none,[],[0]⟩,⟨.some 53,.mv (.tmp 3),.none,[],[]⟩,⟨.some 54,.call (.av (.fn n_law10_copied [])) [(.tmp 53)],.none,[],[2]⟩,⟨.some 55,.load true false 2 (.tmp 5),.none,[],[]⟩,⟨.some 56,.bslice true 2 1 [(.str []),(.str [])] [(0,(.tmp 55))],.none,[],[]⟩,⟨.some 57,.append 2 32 (.tmp 54) (.tmp 56),.none,[54],[]⟩,⟨.some 58,.load true false 2 (.tmp 5),.none,[],[]⟩,⟨.some 59,.call (.av (.fn n_desk_Accept [])) [(.tmp 52),(.tmp 57),(.tmp 58)],.none,[],[]⟩,⟨.some 51,.mv (.tmp 59),.none,[],[]⟩,⟨.some 60,.extract (.tmp 51) 0,.none,[],[]⟩,⟨.some 61,.extract (.tmp 51) 1,.none,[],[]⟩,⟨.some 11,.mv (.tmp 60),.none,[60],[]⟩,⟨.some 12,.mv (.tmp 61),.none,[],[]⟩])
 (.seq (.reg false [⟨.some 62,.mv (.tmp 8),.none,[],[]⟩,⟨.some 63,.bin .eql (.tmp 62) (.av (.int .i64 0)),.none,[],[]⟩,⟨.some 64,.mv (.tmp 63),.none,[],[]⟩,⟨.some 65,.mv (.tmp 7),.some (64,true),[],[]⟩,⟨.some 66,.bin .eql (.tmp 65) (.av (.int .i64 60)),.some (64,true),[],[]⟩,⟨.some 67,.pick (.tmp 64) (.tmp 66) (.av (.bool false)),.none,[],[]⟩,⟨.some 68,.mv (.tmp 67),.none,[],[]⟩,⟨.some 69,.faddr 2 (.tmp 6),.some (68,true),[],[]⟩,⟨.some 70,.load false false 1 (.tmp 69),.some (68,true),[],[]⟩,⟨.some 71,.len false (.tmp 70),.some (68,true),[],[]⟩,⟨.some 72,.bin .eql (.tmp 71) (.av (.int .i64 60)),.some (68,true),[],[]⟩,⟨.some 73,.pick (.tmp 68) (.tmp 72) (.av (.bool false)),.none,[],[]⟩,⟨.some 74,.mv (.tmp 73),.none,[],[]⟩,⟨.some 75,.mv (.tmp 10),.some (74,true),[],[]⟩,⟨.some 76,.bin .eql (.tmp 75) (.av (.int .i64 16)),.some (74,true),[],[]⟩,⟨.some 77,.pick (.tmp 74) (.tmp 76) (.av (.bool false)),.none,[],[]⟩,⟨.some 78,.mv (.tmp 77),.none,[],[]⟩,⟨.some 79,.mv (.tmp 12),.some (78,true),[],[]⟩,⟨.some 80,.bin .eql (.tmp 79) (.av (.int .i64 8)),.some (78,true),[],[]⟩,⟨.some 81,.pick (.tmp 78) (.tmp 80) (.av (.bool false)),.none,[],[]⟩,⟨.some 2,.mv (.tmp 81),.none,[],[]⟩])
 .ret))))))
def a_law10_DeskFull : AFunc := ⟨82,
 (.seq (.reg false [⟨.some 2,.mv (.av (.bool false)),.none,[],[]⟩])
 (.seq (.seq (.reg false [⟨.some 13,.call (.av (.fn n_law10_awake [])) [],.none,[],[]⟩,⟨.some 14,.un .not (.tmp 13),.none,[],[]⟩])
 (.cond (.tmp 14)
 (.seq (.reg false [⟨.some 2,.mv (.av (.bool false)),.none,[],[]⟩])
 .ret)
 .skip))
 (.cut [0] []
 (.seq (.seq (.reg false [⟨.some 15,.mv (.tmp 0),.none,[],[]⟩,⟨.some 16,.call (.av (.fn n_base_Within [])) [(.tmp 15),(.av (.int .i64 1)),(.av (.int .i64 1000))],.none,[],[]⟩,⟨.some 17,.un .not (.tmp 16),.none,[],[]⟩])
 (.cond (.tmp 17)
 (.seq (.reg false [⟨.some 2,.mv (.av (.bool true)),.none,[],[]⟩])
 .ret)
 .skip))
 (.cut [0] []
 (.seq (.reg false [⟨.some 3,.mv (.av .nils),.none,[],[]⟩])
 (.seq (.seq (.reg false [⟨.some 4,.mv (.av (.int .i64 0)),.none,[],[]⟩])
 (.block 0
 l_law10_DeskFull_1))
 t_law10_DeskFull_1))))))),
 [.tmp 2], false⟩
theorem c_law10_DeskFull : chkFunc Tryz.prog gl n_law10_DeskFull a_law10_DeskFull = true := by kernel_rfl
def a_law10_awake : AFunc := ⟨59,
 (.seq (.reg false [⟨.some 0,.mv (.av (.bool false)),.none,[],[]⟩])
 (.seq (.reg false [⟨.some 8,.call (.av (.fn n_law10_House [])) [],.none,[],[]⟩,⟨.some 9,.call (.av (.fn n_law10_Diary [])) [],.none,[],[]⟩,⟨.some 10,.call (.av (.fn n_desk_Booked [])) [(.tmp 8),(.tmp 9)],.none,[],[]⟩,⟨.some 7,.mv (.tmp 10),.none,[],[]⟩,⟨.some 11,.extract (.tmp 7) 0,.none,[],[]⟩,⟨.some 12,.extract (.tmp 7) 1,.none,[],[]⟩,⟨.some 1,.alloc [(.int .i64 0),(.int .i64 0),(.int .i64 0),(.int .i64 0),(.int .i64 0),(.int .i64 0),(.int .i64 0),(.int .i64 0),(.int .i64 0),(.int .i64 0),(.int .i64 0),(.int .i64 0)],.none,[],[]⟩,⟨.none,.store 12 (.tmp 1) (.tmp 11),.none,[11],[]⟩,⟨.some 2,.mv (.tmp 12),.none,[],[]⟩])
 (.seq (.reg false [⟨.some 14,.call (.av (.fn n_law10_House [])) [],.none,[],[]⟩,⟨.some 15,.call (.av (.fn n_law10_Diary [])) [],.none,[],[]⟩,⟨.some 16,.build [(.str []),(.str [])] [(0,1,(.av (.str [98,111,98]))),(1,1,(.av (.str [102,105,120,32,50,32,112,108,97,110,32,112,32,49,48,48,48,32,49,32,50,49,48,32,48,32,51,48,48,32,48,32,48])))],.none,[],[]⟩,⟨.some 17,.bslice true 2 1 [(.str []),(.str [])] [(0,(.tmp 16))],.none,[],[]⟩,⟨.some 18,.append 2 32 (.tmp 15) (.tmp 17),.none,[15],[]⟩,⟨.some 19,.call (.av (.fn n_desk_Breathed [])) [(.tmp 14),(.tmp 18),(.av (.str [100,49]))],.none,[],[]⟩,⟨.some 13,.mv (.tmp 19),.none,[],[]⟩,⟨.some 20,.extract (.tmp 13) 0,.none,[],[]⟩,⟨.some 21,.extract (.tmp 13) 1,.none,[],[]⟩,⟨.some 3,.mv (.tmp 20),.none,[20],[]⟩,⟨.some 4,.mv (.tmp 21),.none,[],[]⟩])
 (.seq (.reg false [⟨.some 23,.build [(.str []),(.str [])] [(0,1,(.av (.str [97]))),(1,1,(.av (.str [98])))],.none,[],[]⟩,⟨.some 24,.bslice true 2 1 [(.str []),(.str [])] [(0,(.tmp 23))],.none,[],[]⟩,⟨.some 25,.call (.av (.fn n_desk_SealOf [])) [(.tmp 24)],.none,[],[]⟩,⟨.some 22,.mv (.tmp 25),.none,[],[]⟩,⟨.some 26,.extract (.tmp 22) 0,.none,[],[]⟩,⟨.some 27,.extract (.tmp 22) 1,.none,[],[]⟩,⟨.some 5,.mv (.tmp 26),.none,[],[]⟩,⟨.some 6,.mv (.tmp 27),.none,[],[]⟩])
 (.seq (.reg false [⟨.some 28,.mv (.tmp 2),.none,[],[]⟩,⟨.some 29,.bin .eql (.tmp 28) (.av (.int .i64 0)),.none,[],[]⟩,⟨.some 30,.mv (.tmp 29),.none,[],[]⟩,⟨.some 31,.faddr 0 (.tmp 1),.some (30,true),[],[]⟩,⟨.some 32,.load true false 3 (.tmp 31),.some (30,true),[],[]⟩,⟨.some 33,.build [(.int .i64 0),(.int .i64 0),(.int .i64 0)] [(0,1,(.av (.int .i64 504000))),(2,1,(.av (.int .i64 1896000)))],.some (30,true),[],[]⟩,⟨.some 34,.eq (.agg [.i,.i,.i]) false (.tmp 32) (.tmp 33),.some (30,true),[],[]⟩,⟨.some 35,.pick (.tmp 30) (.tmp 34) (.av (.bool false)),.none,[],[]⟩,⟨.some 36,.mv (.tmp 35),.none,[],[]⟩,⟨.some 37,.faddr 6 (.tmp 1),.some (36,true),[],[]⟩,⟨.some 38,.load true false 3 (.tmp 37),.some (36,true),[],[]⟩,⟨.some 39,.build [(.int .i64 0),(.int .i64 0),(.int .i64 0)] [(0,1,(.av (.int .i64 42000))),(2,1,(.av (.int .i64 158000)))],.some (36,true),[],[]⟩,⟨.some 40,.eq (.agg [.i,.i,.i]) false (.tmp 38) (.tmp 39),.some (36,true),[],[]⟩,⟨.some 41,.pick (.tmp 36) (.tmp 40) (.av (.bool false)),.none,[],[]⟩,⟨.some 42,.mv (.tmp 41),.none,[],[]⟩,⟨.some 43,.mv (.tmp 4),.some (42,true),[],[]⟩,⟨.some 44,.bin .eql (.tmp 43) (.av (.int .i64 0)),.some (42,true),[],[]⟩,⟨.some 45,.pick (.tmp 42) (.tmp 44) (.av (.bool false)),.none,[],[]⟩,⟨.some 46,.mv (.tmp 45),.none,[],[]⟩,⟨.some 47,.mv (.tmp 3),.some (46,true),[],[]⟩,⟨.some 48,.bslice true 1 1 [(.int .i64 0)] [(0,(.av (.int .i64 100000)))],.some (46,true),[],[]⟩,⟨.some 49,.call (.av (.fn n_base_Ints [])) [(.tmp 47),(.tmp 48)],.some (46,true),[],[]⟩,⟨.some 50,.pick (.tmp 46) (.tmp 49) (.av (.bool false)),.none,[],[]⟩,⟨.some 51,.mv (.tmp 50),.none,[],[]⟩,⟨.some 52,.mv (.tmp 6),.some (51,true),[],[]⟩,⟨.some 53,.bin .eql (.tmp 52) (.av (.int .i64 0)),.some (51,true),[],[]⟩,⟨.some 54,.pick (.tmp 51) (.tmp 53) (.av (.bool false)),.none,[],[]⟩,⟨.some 55,.mv (.tmp 54),.none,[],[]⟩,⟨.some 56,.mv (.tmp 5),.some (55,true),[],[]⟩,⟨.some 57,.bin .eql (.tmp 56) (.av (.int .i64 6481382)),.some (55,true),[],[]⟩,⟨.some 58,.pick (.tmp 55) (.tmp 57) (.av (.bool false)),.none,[],[]⟩,⟨.some 0,.mv (.tmp 58),.none,[],[]⟩])
 .ret))))),
 [.tmp 0], false⟩
theorem c_law10_awake : chkFunc Tryz.prog gl n_law10_awake a_law10_awake = true := by kernel_rfl
def a_base_Within : AFunc := ⟨15,
 (.seq (.reg false [⟨.some 6,.mv (.av (.bool false)),.none,[],[]⟩])
 (.seq (.reg false [⟨.some 7,.mv (.tmp 1),.none,[],[]⟩,⟨.some 8,.mv (.tmp 0),.none,[],[]⟩,⟨.some 9,.bin .leq (.tmp 7) (.tmp 8),.none,[],[]⟩,⟨.some 10,.mv (.tmp 9),.none,[],[]⟩,⟨.some 11,.mv (.tmp 0),.some (10,true),[],[]⟩,⟨.some 12,.mv (.tmp 2),.some (10,true),[],[]⟩,⟨.some 13,.bin .leq (.tmp 11) (.tmp 12),.some (10,true),[],[]⟩,⟨.some 14,.pick (.tmp 10) (.tmp 13) (.av (.bool false)),.none,[],[]⟩,⟨.some 6,.mv (.tmp 14),.none,[],[]⟩])
 .ret)),
 [.tmp 6], false⟩
theorem c_base_Within : chkFunc Tryz.prog gl n_base_Within a_base_Within = true := by kernel_rfl
def b_base_Decimal_1 : ACode :=
 (.seq (.seq (.reg false [⟨.some 10,.mv (.tmp 0),.none,[],[]⟩,⟨.some 11,.bin .neq (.tmp 10) (.av (.int .i64 0)),.none,[],[]⟩])
 (.cond (.tmp 11)
 .skip
 (.exit 0)))
 (.cut [0,3,4] []
 (.block 1
 (.seq (.reg false [⟨.some 12,.mv (.tmp 0),.none,[],[]⟩,⟨.some 13,.bin .rem (.tmp 12) (.av (.int .i64 10)),.none,[],[]⟩,⟨.some 5,.mv (.tmp 13),.none,[],[]⟩])
 (.seq (.reg false [⟨.some 14,.mv (.tmp 5),.none,[],[]⟩,⟨.some 15,.call (.av (.fn n_base_Size [])) [(.tmp 14)],.none,[],[]⟩,⟨.some 16,.bin .add (.av (.int .i64 48)) (.tmp 15),.none,[],[]⟩,⟨.some 17,.conv (.int .u8) (.tmp 16),.none,[],[]⟩,⟨.some 18,.bslice true 1 1 [(.int .u8 0)] [(0,(.tmp 17))],.none,[],[]⟩,⟨.some 19,.conv .toStr (.tmp 18),.none,[],[]⟩,⟨.some 20,.mv (.tmp 3),.none,[],[]⟩,⟨.some 21,.bin .add (.tmp 19) (.tmp 20),.none,[],[]⟩,⟨.some 3,.mv (.tmp 21),.none,[],[]⟩])
 (.reg false [⟨.some 22,.mv (.tmp 0),.none,[],[]⟩,⟨.some 23,.bin .quo (.tmp 22) (.av (.int .i64 10)),.none,[],[]⟩,⟨.some 0,.mv (.tmp 23),.none,[],[]⟩]))))))
def l_base_Decimal_1 : ACode := .loop (.cut [0,3,4] [] b_base_Decimal_1)
@[simp] def t_base_Decimal_1 : ACode :=
 (.cut [3,4] []
 (.seq (.reg false [⟨.some 24,.mv (.tmp 4),.none,[],[]⟩,⟨.some 25,.mv (.tmp 3),.none,[],[]⟩,⟨.some 26,.bin .add (.tmp 24) (.tmp 25),.none,[],[]⟩,⟨.some 2,.mv (.tmp 26),.none,[],[]⟩])
 .ret))
def a_base_Decimal : AFunc := ⟨27,
 (.seq (.reg false [⟨.some 2,.mv (.av (.str [])),.none,[],[]⟩])
 (.seq (.seq (.reg false [⟨.some 6,.mv (.tmp 0),.none,[],[]⟩,⟨.some 7,.bin .eql (.tmp 6) (.av (.int .i64 0)),.none,[],[]⟩])
 (.cond (.tmp 7)
 (.seq (.reg false [⟨.some 2,.mv (.av (.str [48])),.none,[],[]⟩])
 .ret)
 .skip))
 (.cut [0] []
 (.seq (.reg false [⟨.some 3,.mv (.av (.str [])),.none,[],[]⟩,⟨.some 4,.mv (.av (.str [])),.none,[],[]⟩])
 (.seq (.seq (.reg false [⟨.some 8,.mv (.tmp 0),.none,[],[]⟩,⟨.some 9,.bin .lss (.tmp 8) (.av (.int .i64 0)),.none,[],[]⟩])
 (.cond (.tmp 9)
 (.reg false [⟨.some 4,.mv (.av (.str [45])),.none,[],[]⟩])
 .skip))
 (.cut [0,3,4] []
 (.seq (.block 0
 l_base_Decimal_1)
 t_base_Decimal_1))))))),
 [.tmp 2], false⟩
theorem c_base_Decimal : chkFunc Tryz.prog gl n_base_Decimal a_base_Decimal = true := by kernel_rfl
def a_desk_StateOf : AFunc := ⟨29,
 (.seq (.reg false [⟨.some 2,.box true (.tmp 0),.none,[],[]⟩,⟨.some 4,.alloc [.nils,.nils,.nils,.nils,.nils,.nils],.none,[],[]⟩,⟨.some 5,.mv (.av (.int .i64 0)),.none,[],[]⟩,⟨.some 6,.mv (.av (.int .i64 0)),.none,[],[]⟩])
 (.seq (.reg false [⟨.some 11,.load true false 14 (.tmp 2),.none,[],[]⟩,⟨.some 12,.mv (.tmp 1),.none,[],[]⟩,⟨.some 13,.call (.av (.fn n_desk_open [])) [(.tmp 11),(.tmp 12)],.none,[],[]⟩,⟨.some 10,.mv (.tmp 13),.none,[],[]⟩,⟨.some 14,.extract (.tmp 10) 0,.none,[],[]⟩,⟨.some 15,.extract (.tmp 10) 1,.none,[],[]⟩,⟨.some 16,.extract (.tmp 10) 2,.none,[],[]⟩,⟨.some 7,.mv (.tmp 14),.none,[],[]⟩,⟨.some 8,.mv (.tmp 15),.none,[],[]⟩,⟨.some 9,.mv (.tmp 16),.none,[],[]⟩])
 (.seq (.seq (.reg false [⟨.some 17,.mv (.tmp 9),.none,[],[]⟩,⟨.some 18,.bin .neq (.tmp 17) (.av (.int .i64 0)),.none,[],[]⟩])
 (.cond (.tmp 18)
 (.seq (.reg false [⟨.some 19,.build [.nils,.nils,.nils,.nils,.nils,.nils] [],.none,[],[]⟩,⟨.some 20,.mv (.tmp 8),.none,[],[]⟩,⟨.some 21,.mv (.tmp 9),.none,[],[]⟩,⟨.none,.store 6 (.tmp 4) (.tmp 19),.none,[19],[]⟩,⟨.some 5,.mv (.tmp 20),.none,[],[]⟩,⟨.some 6,.mv (.tmp 21),.none,[],[]⟩])
 .ret)
 .skip))
 (.cut [4,7,8] []
 (.seq (.reg false [⟨.some 22,.mv (.tmp 7),.none,[],[]⟩,⟨.some 23,.nilchk (.tmp 22),.none,[],[]⟩,⟨.some 24,.faddr 0 (.tmp 23),.none,[],[]⟩,⟨.some 25,.faddr 1 (.tmp 24),.none,[],[]⟩,⟨.some 26,.load true false 6 (.tmp 25),.none,[],[]⟩,⟨.some 27,.call (.av (.fn n_desk_copied [])) [(.tmp 26)],.none,[],[]⟩,⟨.some 28,.mv (.tmp 8),.none,[],[]⟩,⟨.none,.store 6 (.tmp 4) (.tmp 27),.none,[27],[]⟩,⟨.some 5,.mv (.tmp 28),.none,[],[]⟩,⟨.some 6,.mv (.av (.int .i64 0)),.none,[],[]⟩])
 .ret))))),
 [.cell true 6 4,.tmp 5,.tmp 6], false⟩
theorem c_desk_StateOf : chkFunc Tryz.prog gl n_desk_StateOf a_desk_StateOf = true := by kernel_rfl
def a_law10_House : AFunc := ⟨11,
 (.seq (.reg false [⟨.some 0,.alloc [.nils,.nils,.nils,.nils,.nils,(.int .i64 0),(.int .i64 0),(.int .i64 0),(.int .i64 0),(.int .i64 0),(.int .i64 0),(.int .i64 0),(.int .i64 0),.nils],.none,[],[]⟩])
 (.seq (.reg false [⟨.some 1,.build [(.str []),(.int .i64 0),(.int .i64 0)] [(0,1,(.av (.str [99,49]))),(1,1,(.av (.int .i64 12000))),(2,1,(.av (.int .i64 300000)))],.none,[],[]⟩,⟨.some 2,.bslice true 3 1 [(.str []),(.int .i64 0),(.int .i64 0)] [(0,(.tmp 1))],.none,[],[]⟩,⟨.some 3,.build [(.str []),(.int .i64 0)] [(0,1,(.av (.str [97,110,110]))),(1,1,(.av (.int .i64 1)))],.none,[],[]⟩,⟨.some 4,.build [(.str []),(.int .i64 0)] [(0,1,(.av (.str [98,111,98]))),(1,1,(.av (.int .i64 3)))],.none,[],[]⟩,⟨.some 5,.bslice true 2 2 [(.str []),(.int .i64 0)] [(0,(.tmp 3)),(1,(.tmp 4))],.none,[],[]⟩,⟨.some 6,.build [(.int .i64 0),(.int .i64 0)] [(0,1,(.av (.int .i64 160))),(1,1,(.av (.int .i64 1600)))],.none,[],[]⟩,⟨.some 7,.build [.nils,(.int .i64 0),(.int .i64 0),(.int .i64 0),(.int .i64 0),(.int .i64 0),(.int .i64 0),(.int .i64 0),(.int .i64 0)] [(1,2,(.tmp 6)),(3,1,(.av (.int .i64 6000))),(4,1,(.av (.int .i64 20000))),(5,1,(.av (.int .i64 20000))),(6,1,(.av (.int .i64 40000))),(7,1,(.av (.int .i64 60))),(8,1,(.av (.int .i64 900)))],.none,[],[]⟩,⟨.some 8,.build [(.int .i64 0),(.int .i64 0),(.int .i64 0),(.int .i64 0)] [(0,1,(.av (.int .i64 600))),(1,1,(.av (.int .i64 240))),(2,1,(.av (.int .i64 500))),(3,1,(.av (.int .i64 1500)))],.none,[],[]⟩,⟨.some 9,.bslice true 4 1 [(.int .i64 0),(.int .i64 0),(.int .i64 0),(.int .i64 0)] [(0,(.tmp 8))],.none,[],[]⟩,⟨.some 10,.build [.nils,.nils,.nils,.nils,.nils,(.int .i64 0),(.int .i64 0),(.int .i64 0),(.int .i64 0),(.int .i64 0),(.int .i64 0),(.int .i64 0),(.int .i64 0),.nils] [(0,1,(.tmp 2)),(3,1,(.tmp 5)),(4,9,(.tmp 7)),(13,1,(.tmp 9))],.none,[],[]⟩,⟨.none,.store 14 (.tmp 0) (.tmp 10),.none,[10],[]⟩])
 .ret)),
 [.cell true 14 0], false⟩
theorem c_law10_House : chkFunc Tryz.prog gl n_law10_House a_law10_House = true := by kernel_rfl
def a_law10_copied : AFunc := ⟨6,
 (.seq (.reg false [⟨.some 2,.mv (.av .nils),.none,[],[]⟩])
 (.seq (.reg false [⟨.some 3,.bslice true 2 0 [(.str []),(.str [])] [],.none,[],[]⟩,⟨.some 4,.mv (.tmp 0),.none,[],[]⟩,⟨.some 5,.append 2 32 (.tmp 3) (.tmp 4),.none,[3],[]⟩,⟨.some 2,.mv (.tmp 5),.none,[5],[]⟩])
 .ret)),
 [.tmp 2], false⟩
theorem c_law10_copied : chkFunc Tryz.prog gl n_law10_copied a_law10_copied = true := by kernel_rfl
def a_desk_Accept : AFunc := ⟨32,
 (.seq (.reg false [⟨.some 3,.box true (.tmp 0),.none,[],[]⟩,⟨.some 5,.box true (.tmp 2),.none,[],[]⟩,⟨.some 6,.mv (.av .nils),.none,[],[]⟩,⟨.some 7,.mv (.av (.int .i64 0)),.none,[],[]⟩])
 (.seq (.reg false [⟨.some 13,.load true false 14 (.tmp 3),.none,[],[]⟩,⟨.some 14,.mv (.tmp 1),.none,[],[]⟩,⟨.some 15,.call (.av (.fn n_desk_open [])) [(.tmp 13),(.tmp 14)],.none,[],[]⟩,⟨.some 12,.mv (.tmp 15),.none,[],[]⟩,⟨.some 16,.extract (.tmp 12) 0,.none,[],[]⟩,⟨.some 17,.extract (.tmp 12) 1,.none,[],[]⟩,⟨.some 18,.extract (.tmp 12) 2,.none,[],[]⟩,⟨.some 8,.mv (.tmp 16),.none,[],[]⟩,⟨.some 9,.mv (.tmp 17),.none,[],[]⟩,⟨.some 10,.mv (.tmp 18),.none,[],[]⟩])
 (.seq (.seq (.reg false [⟨.some 19,.mv (.tmp 10),.none,[],[]⟩,⟨.some 20,.bin .neq (.tmp 19) (.av (.int .i64 0)),.none,[],[]⟩])
 (.cond (.tmp 20)
 (.seq (.reg false [⟨.some 21,.mv (.tmp 10),.none,[],[]⟩,⟨.some 6,.mv (.av .nils),.none,[],[]⟩,⟨.some 7,.mv (.tmp 21),.none,[],[]⟩])
 .ret)
 .skip))
 (.cut [5,8] []
 (.seq (.seq (.reg false [⟨.some 22,.mv (.tmp 8),.none,[],[]⟩,⟨.some 23,.load true false 2 (.tmp 5),.none,[],[]⟩,⟨.some 24,.call (.av (.fn n_desk_keeper_accept [])) [(.tmp 22),(.tmp 23)],.none,[],[]⟩,⟨.some 11,.mv (.tmp 24),.none,[],[]⟩])
 (.seq (.reg false [⟨.some 25,.mv (.tmp 11),.none,[],[]⟩,⟨.some 26,.bin .neq (.tmp 25) (.av (.int .i64 0)),.none,[],[]⟩])
 (.cond (.tmp 26)
 (.seq (.reg false [⟨.some 27,.mv (.tmp 11),.none,[],[]⟩,⟨.some 6,.mv (.av .nils),.none,[],[]⟩,⟨.some 7,.mv (.tmp 27),.none,[],[]⟩])
 .ret)
 .skip)))
 (.cut [8] []
 (.seq (.reg false [⟨.some 28,.mv (.tmp 8),.none,[],[]⟩,⟨.some 29,.nilchk (.tmp 28),.none,[],[]⟩,⟨.some 30,.faddr 16 (.tmp 29),.none,[],[]⟩,⟨.some 31,.load false false 1 (.tmp 30),.none,[],[]⟩,⟨.some 6,.mv (.tmp 31),.none,[31],[]⟩,⟨.some 7,.mv (.av (.int .i64 0)),.none,[],[]⟩])
 .ret))))))),
 [.tmp 6,.tmp 7], false⟩
theorem c_desk_Accept : chkFunc Tryz.prog gl n_desk_Accept a_desk_Accept = true := by kernel_rfl
def a_desk_SealOf : AFunc := ⟨25,
 (.seq (.reg false [⟨.some 2,.mv (.av (.int .i64 0)),.none,[],[]⟩,⟨.some 3,.mv (.av (.int .i64 0)),.none,[],[]⟩])
 (.seq (.reg false [⟨.some 7,.mv (.tmp 0),.none,[],[]⟩,⟨.some 8,.call (.av (.fn n_desk_seals [])) [(.tmp 7)],.none,[],[]⟩,⟨.some 6,.mv (.tmp 8),.none,[],[]⟩,⟨.some 9,.extract (.tmp 6) 0,.none,[],[]⟩,⟨.some 10,.extract (.tmp 6) 1,.none,[],[]⟩,⟨.some 4,.mv (.tmp 9),.none,[9],[]⟩,⟨.some 5,.mv (.tmp 10),.none,[],[]⟩])
 (.seq (.seq (.reg false [⟨.some 11,.mv (.tmp 5),.none,[],[]⟩,⟨.some 12,.bin .neq (.tmp 11) (.av (.int .i64 0)),.none,[],[]⟩,⟨.some 13,.mv (.tmp 12),.none,[],[]⟩,⟨.some 14,.mv (.tmp 4),.some (13,false),[],[]⟩,⟨.some 15,.len false (.tmp 14),.some (13,false),[],[]⟩,⟨.some 16,.bin .eql (.tmp 15) (.av (.int .i64 0)),.some (13,false),[],[]⟩,⟨.some 17,.pick (.tmp 13) (.av (.bool true)) (.tmp 16),.none,[],[]⟩])
 (.cond (.tmp 17)
 (.seq (.reg false [⟨.some 18,.mv (.tmp 5),.none,[],[]⟩,⟨.some 2,.mv (.av (.int .i64 0)),.none,[],[]⟩,⟨.some 3,.mv (.tmp 18),.none,[],[]⟩])
 .ret)
 .skip))
 (.cut [4] []
 (.seq (.reg false [⟨.some 19,.mv (.tmp 4),.none,[],[]⟩,⟨.some 20,.mv (.tmp 4),.none,[],[]⟩,⟨.some 21,.len false (.tmp 20),.none,[],[]⟩,⟨.some 22,.bin .sub (.tmp 21) (.av (.int .i64 1)),.none,[],[]⟩,⟨.some 23,.iaddr .none 1 (.tmp 19) (.tmp 22),.none,[],[]⟩,⟨.some 24,.load false false 1 (.tmp 23),.none,[],[]⟩,⟨.some 2,.mv (.tmp 24),.none,[],[]⟩,⟨.some 3,.mv (.av (.int .i64 0)),.none,[],[]⟩])
 .ret))))),
 [.tmp 2,.tmp 3], false⟩
theorem c_desk_SealOf : chkFunc Tryz.prog gl n_desk_SealOf a_desk_SealOf = true := by kernel_rfl
def a_desk_Booked : AFunc := ⟨62,
 (.seq (.reg false [⟨.some 2,.box true (.tmp 0),.none,[],[]⟩,⟨.some 4,.alloc [(.int .i64 0),(.int .i64 0),(.int .i64 0),(.int .i64 0),(.int .i64 0),(.int .i64 0),(.int .i64 0),(.int .i64 0),(.int .i64 0),(.int .i64 0),(.int .i64 0),(.int .i64 0)],.none,[],[]⟩,⟨.some 5,.mv (.av (.int .i64 0)),.none,[],[]⟩])
 (.seq (.reg false [⟨.some 11,.load true false 14 (.tmp 2),.none,[],[]⟩,⟨.some 12,.mv (.tmp 1),.none,[],[]⟩,⟨.some 13,.call (.av (.fn n_desk_open [])) [(.tmp 11),(.tmp 12)],.none,[],[]⟩,⟨.some 10,.mv (.tmp 13),.none,[],[]⟩,⟨.some 14,.extract (.tmp 10) 0,.none,[],[]⟩,⟨.some 15,.extract (.tmp 10) 1,.none,[],[]⟩,⟨.some 16,.extract (.tmp 10) 2,.none,[],[]⟩,⟨.some 6,.mv (.tmp 14),.none,[],[]⟩,⟨.some 7,.mv (.tmp 15),.none,[],[]⟩,⟨.some 8,.mv (.tmp 16),.none,[],[]⟩])
 (.seq (.seq (.reg false [⟨.some 17,.mv (.tmp 8),.none,[],[]⟩,⟨.some 18,.bin .neq (.tmp 17) (.av (.int .i64 0)),.none,[],[]⟩])
 (.cond (.tmp 18)
 (.seq (.reg false [⟨.some 19,.build [(.int .i64 0),(.int .i64 0),(.int .i64 0),(.int .i64 0),(.int .i64 0),(.int .i64 0),(.int .i64 0),(.int .i64 0),(.int .i64 0),(.int .i64 0),(.int .i64 0),(.int .i64 0)] [],.none,[],[]⟩,⟨.some 20,.mv (.tmp 8),.none,[],[]⟩,⟨.none,.store 12 (.tmp 4) (.tmp 19),.none,[19],[]⟩,⟨.some 5,.mv (.tmp 20),.none,[],[]⟩])
 .ret)
 .skip))
 (.cut [4,6] []
 (.seq (.reg true [⟨.some 22,.mv (.tmp 6),.none,[],[]⟩,⟨.some 23,.nilchk (.tmp 22),.none,[],[]⟩,⟨.some 24,.faddr 0 (.tmp 23),.none,[],[]⟩,⟨.some 25,.faddr 0 (.tmp 24),.none,[],[]⟩,⟨.some 26,.load false false 1 (.tmp 25),.none,[],[]⟩,⟨.some 27,.nilchk (.tmp 26),.none,[],[]⟩,⟨.some 28,.faddr 0 (.tmp 27),.none,[],[]⟩,⟨.some 29,.load false false 1 (.tmp 28),.none,[],[]⟩,⟨.some 30,.mv (.tmp 6),.none,[],[]⟩,⟨.some 31,.nilchk (.tmp 30),.none,[],[]⟩,⟨.some 32,.faddr 0 (.tmp 31),.none,[],[]⟩,⟨.some 33,.faddr 1 (.tmp 32),.none,[],[]⟩,⟨.some 34,.faddr 0 (.tmp 33),.none,[],[]⟩,⟨.some 35,.load false false 1 (.tmp 34),.none,[],[]⟩,⟨.some 36,.call (.av (.fn n_mix_Sums [])) [(.tmp 29),(.tmp 35)],.none,[],[14]⟩,⟨.some 21,.mv (.tmp 36),.none,[],[]⟩,⟨.some 37,.extract (.tmp 21) 0,.none,[],[]⟩,⟨.some 38,.extract (.tmp 21) 1,.none,[],[]⟩,⟨.some 9,.alloc [(.int .i64 0),(.int .i64 0),(.int .i64 0),(.int .i64 0),(.int .i64 0),(.int .i64 0)],.none,[],[4,7,13]⟩,⟨.none,.store 6 (.tmp 9) (.tmp 37),.none,[37],[]⟩,⟨.some 8,.mv (.tmp 38),.none,[],[]⟩])
 (.seq (.seq (.reg false [⟨.some 39,.mv (.tmp 8),.none,[],[]⟩,⟨.some 40,.bin .neq (.tmp 39) (.av (.int .i64 0)),.none,[],[]⟩])
 (.cond (.tmp 40)
 (.seq (.reg false [⟨.some 41,.build [(.int .i64 0),(.int .i64 0),(.int .i64 0),(.int .i64 0),(.int .i64 0),(.int .i64 0),(.int .i64 0),(.int .i64 0),(.int .i64 0),(.int .i64 0),(.int .i64 0),(.int .i64 0)] [],.none,[],[]⟩,⟨.some 42,.mv (.tmp 8),.none,[],[]⟩,⟨.none,.store 12 (.tmp 4) (.tmp 41),.none,[41],[]⟩,⟨.some 5,.mv (.tmp 42),.none,[],[]⟩])
 .ret)
 .skip))
 (.cut [4,6,9] []
 (.seq (.reg true [⟨.some 43,.faddr 0 (.tmp 9),.none,[],[]⟩,⟨.some 44,.load true false 3 (.tmp 43),.none,[],[]⟩,⟨.some 45,.mv (.tmp 6),.none,[],[]⟩,⟨.some 46,.nilchk (.tmp 45),.none,[],[]⟩,⟨.some 47,.faddr 0 (.tmp 46),.none,[],[]⟩,⟨.some 48,.faddr 10 (.tmp 47),.none,[],[]⟩,⟨.some 49,.load true false 3 (.tmp 48),.none,[],[]⟩,⟨.some 50,.mv (.tmp 6),.none,[],[]⟩,⟨.some 51,.nilchk (.tmp 50),.none,[],[]⟩,⟨.some 52,.faddr 0 (.tmp 51),.none,[],[]⟩,⟨.some 53,.faddr 13 (.tmp 52),.none,[],[]⟩,⟨.some 54,.load true false 3 (.tmp 53),.none,[],[]⟩,⟨.some 55,.mv (.tmp 6),.none,[],[]⟩,⟨.some 56,.nilchk (.tmp 55),.none,[],[]⟩,⟨.some 57,.faddr 0 (.tmp 56),.none,[],[]⟩,⟨.some 58,.faddr 7 (.tmp 57),.none,[],[]⟩,⟨.some 59,.load false false 1 (.tmp 58),.none,[],[]⟩,⟨.some 60,.call (.av (.fn n_desk_total [])) [(.tmp 59)],.none,[],[17]⟩,⟨.some 61,.build [(.int .i64 0),(.int .i64 0),(.int .i64 0),(.int .i64 0),(.int .i64 0),(.int .i64 0),(.int .i64 0),(.int .i64 0),(.int .i64 0),(.int .i64 0),(.int .i64 0),(.int .i64 0)] [(0,3,(.tmp 44)),(3,3,(.tmp 49)),(6,3,(.tmp 54)),(9,3,(.tmp 60))],.none,[],[]⟩,⟨.none,.store 12 (.tmp 4) (.tmp 61),.none,[61],[]⟩,⟨.some 5,.mv (.av (.int .i64 0)),.none,[],[]⟩])
 .ret)))))))),
 [.cell true 12 4,.tmp 5], false⟩
theorem c_desk_Booked : chkFunc Tryz.prog gl n_desk_Booked a_desk_Booked = true := by kernel_rfl
def a_law10_Diary : AFunc := ⟨5,
 (.seq (.reg false [⟨.some 0,.mv (.av .nils),.none,[],[]⟩])
 (.seq (.reg false [⟨.some 1,.build [(.str []),(.str [])] [(0,1,(.av (.str [98,111,98]))),(1,1,(.av (.str [102,105,108,108,32,105,110,32,48,32,99,49,32,50,49,48,32,48,32,50,52,48,48,48,48,48])))],.none,[],[]⟩,⟨.some 2,.build [(.str []),(.str [])] [(0,1,(.av (.str [97,110,110]))),(1,1,(.av (.str [112,108,97,110,32,112,32,49,48,48,48,32,49,32,50,49,48,32,48,32,54,48,48,32,48,32,48])))],.none,[],[]⟩,⟨.some 3,.build [(.str []),(.str [])] [(0,1,(.av (.str [97,110,110]))),(1,1,(.av (.str [100,105,118,101,32,100,49,32,112,32,97,110,110,32,49,32,51,54,48,48,32,99,49])))],.none,[],[]⟩,⟨.some 4,.bslice true 2 3 [(.str []),(.str [])] [(0,(.tmp 1)),(1,(.tmp 2)),(2,(.tmp 3))],.none,[],[]⟩,⟨.some 0,.mv (.tmp 4),.none,[4],[]⟩])
 .ret)),
 [.tmp 0], false⟩
theorem c_law10_Diary : chkFunc Tryz.prog gl n_law10_Diary a_law10_Diary = true := by kernel_rfl
def a_desk_Breathed : AFunc := ⟨29,
 (.seq (.reg false [⟨.some 3,.box true (.tmp 0),.none,[],[]⟩,⟨.some 6,.mv (.av .nils),.none,[],[]⟩,⟨.some 7,.mv (.av (.int .i64 0)),.none,[],[]⟩])
 (.seq (.reg false [⟨.some 12,.load true false 14 (.tmp 3),.none,[],[]⟩,⟨.some 13,.mv (.tmp 1),.none,[],[]⟩,⟨.some 14,.mv (.tmp 2),.none,[],[]⟩,⟨.some 15,.call (.av (.fn n_desk_diveAt [])) [(.tmp 12),(.tmp 13),(.tmp 14)],.none,[],[]⟩,⟨.some 11,.mv (.tmp 15),.none,[],[]⟩,⟨.some 16,.extract (.tmp 11) 0,.none,[],[]⟩,⟨.some 17,.extract (.tmp 11) 1,.none,[],[]⟩,⟨.some 18,.extract (.tmp 11) 2,.none,[],[]⟩,⟨.some 8,.mv (.tmp 16),.none,[],[]⟩,⟨.some 9,.mv (.tmp 17),.none,[],[]⟩,⟨.some 10,.mv (.tmp 18),.none,[],[]⟩])
 (.seq (.seq (.reg false [⟨.some 19,.mv (.tmp 10),.none,[],[]⟩,⟨.some 20,.bin .neq (.tmp 19) (.av (.int .i64 0)),.none,[],[]⟩])
 (.cond (.tmp 20)
 (.seq (.reg false [⟨.some 21,.mv (.tmp 10),.none,[],[]⟩,⟨.some 6,.mv (.av .nils),.none,[],[]⟩,⟨.some 7,.mv (.tmp 21),.none,[],[]⟩])
 .ret)
 .skip))
 (.cut [8,9] []
 (.seq (.reg false [⟨.some 22,.mv (.tmp 8),.none,[],[]⟩,⟨.some 23,.nilchk (.tmp 22),.none,[],[]⟩,⟨.some 24,.faddr 0 (.tmp 23),.none,[],[]⟩,⟨.some 25,.mv (.tmp 9),.none,[],[]⟩,⟨.some 26,.call (.av (.fn n_desk_world_breathedIn [])) [(.tmp 24),(.tmp 25)],.none,[],[]⟩,⟨.some 27,.extract (.tmp 26) 0,.none,[],[]⟩,⟨.some 28,.extract (.tmp 26) 1,.none,[],[]⟩,⟨.some 6,.mv (.tmp 27),.none,[27],[]⟩,⟨.some 7,.mv (.tmp 28),.none,[],[]⟩])
 .ret))))),
 [.tmp 6,.tmp 7], false⟩
theorem c_desk_Breathed : chkFunc Tryz.prog gl n_desk_Breathed a_desk_Breathed = true := by kernel_rfl
def b_base_Ints_1 : ACode :=
 (.seq (.seq (.reg false [⟨.some 11,.mv (.tmp 5),.none,[],[]⟩,⟨.some 12,.mv (.tmp 0),.none,[],[]⟩,⟨.some 13,.len false (.tmp 12),.none,[],[]⟩,⟨.some 14,.bin .lss (.tmp 11) (.tmp 13),.none,[],[]⟩])
 (.cond (.tmp 14)
 .skip
 (.exit 0)))
 (.cut [0,1,5] []
 (.seq (.block 1
 (.seq (.reg true [⟨.some 17,.mv (.tmp 0),.none,[],[]⟩,⟨.some 18,.mv (.tmp 5),.none,[],[]⟩,⟨.some 19,.iaddr .none 1 (.tmp 17) (.tmp 18),.none,[],[]⟩,⟨.some 20,.load false false 1 (.tmp 19),.none,[],[]⟩,⟨.some 21,.mv (.tmp 1),.none,[],[]⟩,⟨.some 22,.mv (.tmp 5),.none,[],[]⟩,⟨.some 23,.iaddr .none 1 (.tmp 21) (.tmp 22),.none,[],[]⟩,⟨.some 24,.load false false 1 (.tmp 23),.none,[],[]⟩,⟨.some 25,.bin .neq (.tmp 20) (.tmp 24),.none,[],[]⟩])
 (.cond (.tmp 25)
 (.seq (.reg false [⟨.some 4,.mv (.av (.bool false)),.none,[],[]⟩])
 .ret)
 .skip)))
 (.cut [0,1,5] []
 (.reg false [⟨.some 15,.mv (.tmp 5),.none,[],[]⟩,⟨.some 16,.bin .add (.tmp 15) (.av (.int .i64 1)),.none,[],[]⟩,⟨.some 5,.mv (.tmp 16),.none,[],[]⟩])))))
def l_base_Ints_1 : ACode := .loop (.cut [0,1,5] [] b_base_Ints_1)
@[simp] def t_base_Ints_1 : ACode :=
 (.cut [] []
 (.seq (.reg false [⟨.some 4,.mv (.av (.bool true)),.none,[],[]⟩])
 .ret))
def a_base_Ints : AFunc := ⟨26,
 (.seq (.reg false [⟨.some 4,.mv (.av (.bool false)),.none,[],[]⟩])
 (.seq (.seq (.reg false [⟨.some 6,.mv (.tmp 0),.none,[],[]⟩,⟨.some 7,.len false (.tmp 6),.none,[],[]⟩,⟨.some 8,.mv (.tmp 1),.none,[],[]⟩,⟨.some 9,.len false (.tmp 8),.none,[],[]⟩,⟨.some 10,.bin .neq (.tmp 7) (.tmp 9),.none,[],[]⟩])
 (.cond (.tmp 10)
 (.seq (.reg false [⟨.some 4,.mv (.av (.bool false)),.none,[],[]⟩])
 .ret)
 .skip))
 (.cut [0,1] []
 (.seq (.seq (.reg false [⟨.some 5,.mv (.av (.int .i64 0)),.none,[],[]⟩])
 (.block 0
 l_base_Ints_1))
 t_base_Ints_1)))),
 [.tmp 4], false⟩
theorem c_base_Ints : chkFunc Tryz.prog gl n_base_Ints a_base_Ints = true := by kernel_rfl
def a_base_Size : AFunc := ⟨7,
 (.seq (.reg false [⟨.some 2,.mv (.av (.int .i64 0)),.none,[],[]⟩])
 (.seq (.reg false [⟨.some 3,.mv (.tmp 0),.none,[],[]⟩,⟨.some 4,.mv (.tmp 0),.none,[],[]⟩,⟨.some 5,.un .neg (.tmp 4),.none,[],[]⟩,⟨.some 6,.max2 (.tmp 3) (.tmp 5),.none,[],[]⟩,⟨.some 2,.mv (.tmp 6),.none,[],[]⟩])
 .ret)),
 [.tmp 2], false⟩
theorem c_base_Size : chkFunc Tryz.prog gl n_base_Size a_base_Size = true := by kernel_rfl
def b_desk_open_1 : ACode :=
 (.seq (.reg false [⟨.some 28,.bin .lss (.tmp 27) (.tmp 26),.none,[],[]⟩])
 (.seq (.cond (.tmp 28)
 .skip
 (.exit 1))
 (.cut [1,7,25,26,27] []
 (.seq (.block 2
 (.seq (.reg false [⟨.some 29,.mv (.tmp 27),.none,[],[]⟩,⟨.some 30,.iaddr .none 2 (.tmp 25) (.tmp 27),.none,[],[]⟩,⟨.some 31,.load true false 2 (.tmp 30),.none,[],[]⟩,⟨.some 10,.alloc [(.str []),(.str [])],.none,[],[]⟩,⟨.some 9,.mv (.tmp 29),.none,[],[]⟩,⟨.none,.store 2 (.tmp 10) (.tmp 31),.none,[31],[]⟩])
 (.seq (.reg false [⟨.some 32,.mv (.tmp 7),.none,[],[]⟩,⟨.some 33,.load true false 2 (.tmp 10),.none,[],[]⟩,⟨.some 34,.call (.av (.fn n_desk_keeper_enter [])) [(.tmp 32),(.tmp 33)],.none,[],[]⟩,⟨.some 11,.mv (.tmp 34),.none,[],[]⟩])
 (.seq (.reg false [⟨.some 35,.mv (.tmp 11),.none,[],[]⟩,⟨.some 36,.bin .neq (.tmp 35) (.av (.int .i64 0)),.none,[],[]⟩])
 (.cond (.tmp 36)
 (.seq (.reg false [⟨.some 37,.mv (.tmp 9),.none,[],[]⟩,⟨.some 38,.mv (.tmp 11),.none,[],[]⟩,⟨.some 4,.mv (.av .nilp),.none,[],[]⟩,⟨.some 5,.mv (.tmp 37),.none,[],[]⟩,⟨.some 6,.mv (.tmp 38),.none,[],[]⟩])
 .ret)
 .skip)))))
 (.cut [1,7,25,26,27] []
 (.reg false [⟨.some 39,.bin .add (.tmp 27) (.av (.int .i64 1)),.none,[],[]⟩,⟨.some 27,.mv (.tmp 39),.none,[],[]⟩]))))))
def l_desk_open_1 : ACode := .loop (.cut [1,7,25,26,27] [[10]] b_desk_open_1)
@[simp] def t_desk_open_1 : ACode :=
 (.cut [1,7] []
 (.seq (.reg false [⟨.some 40,.mv (.tmp 7),.none,[],[]⟩,⟨.some 41,.mv (.tmp 1),.none,[],[]⟩,⟨.some 42,.len false (.tmp 41),.none,[],[]⟩,⟨.some 4,.mv (.tmp 40),.none,[],[]⟩,⟨.some 5,.mv (.tmp 42),.none,[],[]⟩,⟨.some 6,.mv (.av (.int .i64 0)),.none,[],[]⟩])
 .ret))
def a_desk_open : AFunc := ⟨43,
 (.seq (.reg false [⟨.some 2,.box true (.tmp 0),.none,[],[]⟩,⟨.some 4,.mv (.av .nilp),.none,[],[]⟩,⟨.some 5,.mv (.av (.int .i64 0)),.none,[],[]⟩,⟨.some 6,.mv (.av (.int .i64 0)),.none,[],[]⟩])
 (.seq (.reg false [⟨.some 13,.load true false 14 (.tmp 2),.none,[],[]⟩,⟨.some 14,.call (.av (.fn n_desk_newKeeper [])) [(.tmp 13)],.none,[],[]⟩,⟨.some 12,.mv (.tmp 14),.none,[],[]⟩,⟨.some 15,.extract (.tmp 12) 0,.none,[],[]⟩,⟨.some 16,.extract (.tmp 12) 1,.none,[],[]⟩,⟨.some 7,.mv (.tmp 15),.none,[],[]⟩,⟨.some 8,.mv (.tmp 16),.none,[],[]⟩])
 (.seq (.block 0
 (.seq (.reg false [⟨.some 18,.mv (.tmp 8),.none,[],[]⟩,⟨.some 19,.bin .neq (.tmp 18) (.av (.int .i64 0)),.none,[],[]⟩,⟨.some 17,.mv (.tmp 19),.none,[],[]⟩])
 (.cond (.tmp 17)
 (.seq (.reg false [⟨.some 20,.mv (.tmp 8),.none,[],[]⟩,⟨.some 4,.mv (.av .nilp),.none,[],[]⟩,⟨.some 5,.mv (.av (.int .i64 0)),.none,[],[]⟩,⟨.some 6,.mv (.tmp 20),.none,[],[]⟩])
 .ret)
 (.seq (.reg false [⟨.some 22,.mv (.tmp 1),.none,[],[]⟩,⟨.some 23,.len false (.tmp 22),.none,[],[]⟩,⟨.some 24,.bin .gtr (.tmp 23) (.av (.int .i64 60)),.none,[],[]⟩,⟨.some 21,.mv (.tmp 24),.none,[],[]⟩])
 (.cond (.tmp 21)
 (.seq (.reg false [⟨.some 4,.mv (.av .nilp),.none,[],[]⟩,⟨.some 5,.mv (.av (.int .i64 0)),.none,[],[]⟩,⟨.some 6,.mv (.av (.int .i64 8)),.none,[],[]⟩])
 .ret)
 .skip)))))
 (.cut [1,7] []
 (.seq (.seq (.reg false [⟨.some 25,.mv (.tmp 1),.none,[],[]⟩,⟨.some 26,.len false (.tmp 25),.none,[],[]⟩,⟨.some 27,.mv (.av (.int .i64 0)),.none,[],[]⟩])
 (.block 1
 l_desk_open_1))
 t_desk_open_1))))),
 [.tmp 4,.tmp 5,.tmp 6], true⟩
theorem c_desk_open : chkFunc Tryz.prog gl n_desk_open a_desk_open = true := by kernel_rfl
def b_desk_copied_1 : ACode :=
 (.seq (.reg false [⟨.some 64,.bin .lss (.tmp 63) (.tmp 62),.none,[],[]⟩])
 (.seq (.cond (.tmp 64)
 .skip
 (.exit 4))
 (.cut [2,3,61,62,63] []
 (.seq (.block 5
 (.seq (.reg false [⟨.some 65,.iaddr .none 2 (.tmp 61) (.tmp 63),.none,[],[]⟩,⟨.some 66,.load true false 2 (.tmp 65),.none,[],[]⟩,⟨.some 9,.alloc [(.str []),.nils],.none,[],[]⟩,⟨.none,.store 2 (.tmp 9) (.tmp 66),.none,[66],[]⟩])
 (.seq (.reg false [⟨.some 67,.faddr 1 (.tmp 9),.none,[],[]⟩,⟨.some 68,.load false false 1 (.tmp 67),.none,[],[]⟩,⟨.some 69,.call (.av (.fn n_slices_Clone_api_DivePoint [])) [(.tmp 68)],.none,[],[]⟩,⟨.some 70,.faddr 1 (.tmp 9),.none,[],[]⟩,⟨.none,.store 1 (.tmp 70) (.tmp 69),.none,[69],[]⟩])
 (.reg false [⟨.some 71,.faddr 4 (.tmp 3),.none,[],[]⟩,⟨.some 72,.load false true 1 (.tmp 71),.none,[],[]⟩,⟨.some 73,.load true false 2 (.tmp 9),.none,[],[]⟩,⟨.some 74,.bslice true 2 1 [(.str []),.nils] [(0,(.tmp 73))],.none,[],[]⟩,⟨.some 75,.append 2 40 (.tmp 72) (.tmp 74),.none,[72],[]⟩,⟨.some 76,.faddr 4 (.tmp 3),.none,[],[]⟩,⟨.none,.store 1 (.tmp 76) (.tmp 75),.none,[75],[]⟩]))))
 (.cut [2,3,61,62,63] []
 (.reg false [⟨.some 77,.bin .add (.tmp 63) (.av (.int .i64 1)),.none,[],[]⟩,⟨.some 63,.mv (.tmp 77),.none,[],[]⟩]))))))
def l_desk_copied_1 : ACode := .loop (.cut [2,3,61,62,63] [[9]] b_desk_copied_1)
def b_desk_copied_2 : ACode :=
 (.seq (.reg false [⟨.some 46,.bin .lss (.tmp 45) (.tmp 44),.none,[],[]⟩])
 (.seq (.cond (.tmp 46)
 .skip
 (.exit 2))
 (.cut [1,2,3,43,44,45] []
 (.seq (.block 3
 (.seq (.reg false [⟨.some 47,.iaddr .none 6 (.tmp 43) (.tmp 45),.none,[],[]⟩,⟨.some 48,.load true false 6 (.tmp 47),.none,[],[]⟩,⟨.some 7,.alloc [(.str []),(.str []),(.str []),(.int .i64 0),(.int .i64 0),.nils],.none,[],[]⟩,⟨.none,.store 6 (.tmp 7) (.tmp 48),.none,[48],[]⟩])
 (.seq (.reg false [⟨.some 49,.faddr 5 (.tmp 7),.none,[],[]⟩,⟨.some 50,.load false false 1 (.tmp 49),.none,[],[]⟩,⟨.some 51,.call (.av (.fn n_slices_Clone_string [])) [(.tmp 50)],.none,[],[]⟩,⟨.some 52,.faddr 5 (.tmp 7),.none,[],[]⟩,⟨.none,.store 1 (.tmp 52) (.tmp 51),.none,[51],[]⟩])
 (.reg false [⟨.some 53,.faddr 3 (.tmp 3),.none,[],[]⟩,⟨.some 54,.load false true 1 (.tmp 53),.none,[],[]⟩,⟨.some 55,.load true false 6 (.tmp 7),.none,[],[]⟩,⟨.some 56,.bslice true 6 1 [(.str []),(.str []),(.str []),(.int .i64 0),(.int .i64 0),.nils] [(0,(.tmp 55))],.none,[],[]⟩,⟨.some 57,.append 6 88 (.tmp 54) (.tmp 56),.none,[54],[]⟩,⟨.some 58,.faddr 3 (.tmp 3),.none,[],[]⟩,⟨.none,.store 1 (.tmp 58) (.tmp 57),.none,[57],[]⟩]))))
 (.cut [1,2,3,43,44,45] []
 (.reg false [⟨.some 59,.bin .add (.tmp 45) (.av (.int .i64 1)),.none,[],[]⟩,⟨.some 45,.mv (.tmp 59),.none,[],[]⟩]))))))
def l_desk_copied_2 : ACode := .loop (.cut [1,2,3,43,44,45] [[7]] b_desk_copied_2)
def b_desk_copied_3 : ACode :=
 (.seq (.reg false [⟨.some 24,.bin .lss (.tmp 23) (.tmp 22),.none,[],[]⟩])
 (.seq (.cond (.tmp 24)
 .skip
 (.exit 0))
 (.cut [1,2,3,21,22,23] []
 (.seq (.block 1
 (.seq (.reg false [⟨.some 25,.iaddr .none 4 (.tmp 21) (.tmp 23),.none,[],[]⟩,⟨.some 26,.load true false 4 (.tmp 25),.none,[],[]⟩,⟨.some 5,.alloc [(.str []),(.int .i64 0),.nils,.nils],.none,[],[]⟩,⟨.none,.store 4 (.tmp 5) (.tmp 26),.none,[26],[]⟩])
 (.seq (.reg true [⟨.some 27,.faddr 2 (.tmp 5),.none,[],[]⟩,⟨.some 28,.load false false 1 (.tmp 27),.none,[],[]⟩,⟨.some 29,.call (.av (.fn n_slices_Clone_api_Gas [])) [(.tmp 28)],.none,[],[2]⟩,⟨.some 30,.faddr 3 (.tmp 5),.none,[],[]⟩,⟨.some 31,.load false false 1 (.tmp 30),.none,[],[]⟩,⟨.some 32,.call (.av (.fn n_slices_Clone_api_DiveLeg [])) [(.tmp 31)],.none,[],[]⟩,⟨.some 33,.faddr 2 (.tmp 5),.none,[],[]⟩,⟨.none,.store 1 (.tmp 33) (.tmp 29),.none,[29],[]⟩,⟨.some 34,.faddr 3 (.tmp 5),.none,[],[]⟩,⟨.none,.store 1 (.tmp 34) (.tmp 32),.none,[32],[]⟩])
 (.reg false [⟨.some 35,.faddr 2 (.tmp 3),.none,[],[]⟩,⟨.some 36,.load false true 1 (.tmp 35),.none,[],[]⟩,⟨.some 37,.load true false 4 (.tmp 5),.none,[],[]⟩,⟨.some 38,.bslice true 4 1 [(.str []),(.int .i64 0),.nils,.nils] [(0,(.tmp 37))],.none,[],[]⟩,⟨.some 39,.append 4 72 (.tmp 36) (.tmp 38),.none,[36],[]⟩,⟨.some 40,.faddr 2 (.tmp 3),.none,[],[]⟩,⟨.none,.store 1 (.tmp 40) (.tmp 39),.none,[39],[]⟩]))))
 (.cut [1,2,3,21,22,23] []
 (.reg false [⟨.some 41,.bin .add (.tmp 23) (.av (.int .i64 1)),.none,[],[]⟩,⟨.some 23,.mv (.tmp 41),.none,[],[]⟩]))))))
def l_desk_copied_3 : ACode := .loop (.cut [1,2,3,21,22,23] [[5]] b_desk_copied_3)
@[simp] def t_desk_copied_1 : ACode :=
 (.cut [2,3] []
 (.seq (.reg false [⟨.some 78,.load true false 6 (.tmp 3),.none,[],[]⟩,⟨.none,.store 6 (.tmp 2) (.tmp 78),.none,[78],[]⟩])
 .ret))
@[simp] def t_desk_copied_2 : ACode :=
 (.cut [1,2,3] []
 (.seq (.seq (.reg false [⟨.some 60,.faddr 4 (.tmp 1),.none,[],[]⟩,⟨.some 61,.load false false 1 (.tmp 60),.none,[],[]⟩,⟨.some 62,.len false (.tmp 61),.none,[],[]⟩,⟨.some 63,.mv (.av (.int .i64 0)),.none,[],[]⟩])
 (.block 4
 l_desk_copied_1))
 t_desk_copied_1))
@[simp] def t_desk_copied_3 : ACode :=
 (.cut [1,2,3] []
 (.seq (.seq (.reg false [⟨.some 42,.faddr 3 (.tmp 1),.none,[],[]⟩,⟨.some 43,.load false false 1 (.tmp 42),.none,[],[]⟩,⟨.some 44,.len false (.tmp 43),.none,[],[]⟩,⟨.some 45,.mv (.av (.int .i64 0)),.none,[],[]⟩])
 (.block 2
 l_desk_copied_2))
 t_desk_copied_2))
def a_desk_copied : AFunc := ⟨79,
 (.seq (.reg false [⟨.some 1,.box true (.tmp 0),.none,[],[]⟩,⟨.some 2,.alloc [.nils,.nils,.nils,.nils,.nils,.nils],.none,[],[]⟩])
 (.seq (.reg true [⟨.some 10,.faddr 0 (.tmp 1),.none,[],[]⟩,⟨.some 11,.load false false 1 (.tmp 10),.none,[],[]⟩,⟨.some 12,.call (.av (.fn n_slices_Clone_api_MixFill [])) [(.tmp 11)],.none,[],[2]⟩,⟨.some 13,.faddr 1 (.tmp 1),.none,[],[]⟩,⟨.some 14,.load false false 1 (.tmp 13),.none,[],[]⟩,⟨.some 15,.call (.av (.fn n_slices_Clone_api_KitEvent [])) [(.tmp 14)],.none,[],[5]⟩,⟨.some 16,.faddr 5 (.tmp 1),.none,[],[]⟩,⟨.some 17,.load false false 1 (.tmp 16),.none,[],[]⟩,⟨.some 18,.call (.av (.fn n_slices_Clone_api_DeskSign [])) [(.tmp 17)],.none,[],[8]⟩,⟨.some 19,.build [.nils,.nils,.nils,.nils,.nils,.nils] [(0,1,(.tmp 12)),(1,1,(.tmp 15)),(5,1,(.tmp 18))],.none,[],[]⟩,⟨.some 3,.alloc [.nils,.nils,.nils,.nils,.nils,.nils],.none,[],[1,4,7]⟩,⟨.none,.store 6 (.tmp 3) (.tmp 19),.none,[19],[]⟩])
 (.seq (.seq (.reg false [⟨.some 20,.faddr 2 (.tmp 1),.none,[],[]⟩,⟨.some 21,.load false false 1 (.tmp 20),.none,[],[]⟩,⟨.some 22,.len false (.tmp 21),.none,[],[]⟩,⟨.some 23,.mv (.av (.int .i64 0)),.none,[],[]⟩])
 (.block 0
 l_desk_copied_3))
 t_desk_copied_3))),
 [.cell true 6 2], false⟩
theorem c_desk_copied : chkFunc Tryz.prog gl n_desk_copied a_desk_copied = true := by kernel_rfl
def a_desk_keeper_accept : AFunc := ⟨14,
 (.seq (.reg false [⟨.some 3,.box true (.tmp 1),.none,[],[]⟩,⟨.some 4,.mv (.av (.int .i64 0)),.none,[],[]⟩])
 (.seq (.seq (.reg false [⟨.some 5,.mv (.tmp 0),.none,[],[]⟩,⟨.some 6,.nilchk (.tmp 5),.none,[],[]⟩,⟨.some 7,.faddr 16 (.tmp 6),.none,[],[]⟩,⟨.some 8,.load false false 1 (.tmp 7),.none,[],[]⟩,⟨.some 9,.len false (.tmp 8),.none,[],[]⟩,⟨.some 10,.bin .eql (.tmp 9) (.av (.int .i64 60)),.none,[],[]⟩])
 (.cond (.tmp 10)
 (.seq (.reg false [⟨.some 4,.mv (.av (.int .i64 16)),.none,[],[]⟩])
 .ret)
 .skip))
 (.cut [0,3] []
 (.seq (.reg false [⟨.some 11,.mv (.tmp 0),.none,[],[]⟩,⟨.some 12,.load true false 2 (.tmp 3),.none,[],[]⟩,⟨.some 13,.call (.av (.fn n_desk_keeper_enter [])) [(.tmp 11),(.tmp 12)],.none,[],[]⟩,⟨.some 4,.mv (.tmp 13),.none,[],[]⟩])
 .ret)))),
 [.tmp 4], false⟩
theorem c_desk_keeper_accept : chkFunc Tryz.prog gl n_desk_keeper_accept a_desk_keeper_accept = true := by kernel_rfl
def b_desk_seal_1 : ACode :=
 (.seq (.reg false [⟨.some 16,.bin .lss (.tmp 15) (.tmp 14),.none,[],[]⟩])
 (.seq (.cond (.tmp 16)
 .skip
 (.exit 0))
 (.cut [0,5,14,15] []
 (.seq (.block 1
 (.seq (.reg false [⟨.some 17,.mv (.tmp 15),.none,[],[]⟩,⟨.some 6,.mv (.tmp 17),.none,[],[]⟩])
 (.reg false [⟨.some 18,.mv (.tmp 0),.none,[],[]⟩,⟨.some 19,.bin .mul (.av (.int .i64 257)) (.tmp 18),.none,[],[]⟩,⟨.some 20,.mv (.tmp 5),.none,[],[]⟩,⟨.some 21,.mv (.tmp 6),.none,[],[]⟩,⟨.some 22,.ixstr (.tmp 20) (.tmp 21),.none,[],[]⟩,⟨.some 23,.conv (.int .i64) (.tmp 22),.none,[],[]⟩,⟨.some 24,.bin .add (.tmp 19) (.tmp 23),.none,[],[]⟩,⟨.some 25,.bin .add (.tmp 24) (.av (.int .i64 1)),.none,[],[]⟩,⟨.some 26,.bin .rem (.tmp 25) (.av (.int .i64 999999937)),.none,[],[]⟩,⟨.some 0,.mv (.tmp 26),.none,[],[]⟩])))
 (.cut [0,5,14,15] []
 (.reg false [⟨.some 27,.bin .add (.tmp 15) (.av (.int .i64 1)),.none,[],[]⟩,⟨.some 15,.mv (.tmp 27),.none,[],[]⟩]))))))
def l_desk_seal_1 : ACode := .loop (.cut [0,5,14,15] [] b_desk_seal_1)
@[simp] def t_desk_seal_1 : ACode :=
 (.cut [0] []
 (.seq (.reg false [⟨.some 28,.mv (.tmp 0),.none,[],[]⟩,⟨.some 4,.mv (.tmp 28),.none,[],[]⟩])
 .ret))
def a_desk_seal : AFunc := ⟨29,
 (.seq (.reg false [⟨.some 3,.box true (.tmp 1),.none,[],[]⟩,⟨.some 4,.mv (.av (.int .i64 0)),.none,[],[]⟩])
 (.seq (.reg false [⟨.some 7,.faddr 0 (.tmp 3),.none,[],[]⟩,⟨.some 8,.load false false 1 (.tmp 7),.none,[],[]⟩,⟨.some 9,.bin .add (.tmp 8) (.av (.str [32])),.none,[],[]⟩,⟨.some 10,.faddr 1 (.tmp 3),.none,[],[]⟩,⟨.some 11,.load false false 1 (.tmp 10),.none,[],[]⟩,⟨.some 12,.bin .add (.tmp 9) (.tmp 11),.none,[],[]⟩,⟨.some 5,.mv (.tmp 12),.none,[],[]⟩])
 (.seq (.seq (.reg false [⟨.some 13,.mv (.tmp 5),.none,[],[]⟩,⟨.some 14,.len true (.tmp 13),.none,[],[]⟩,⟨.some 15,.mv (.av (.int .i64 0)),.none,[],[]⟩])
 (.block 0
 l_desk_seal_1))
 t_desk_seal_1))),
 [.tmp 4], false⟩
theorem c_desk_seal : chkFunc Tryz.prog gl n_desk_seal a_desk_seal = true := by kernel_rfl
def b_desk_isName_1 : ACode :=
 (.seq (.reg false [⟨.some 8,.bin .lss (.tmp 7) (.tmp 6),.none,[],[]⟩])
 (.seq (.cond (.tmp 8)
 .skip
 (.exit 0))
 (.cut [0,6,7] []
 (.seq (.block 1
 (.seq (.reg false [⟨.some 9,.mv (.tmp 7),.none,[],[]⟩,⟨.some 3,.mv (.tmp 9),.none,[],[]⟩])
 (.seq (.reg false [⟨.some 10,.mv (.tmp 0),.none,[],[]⟩,⟨.some 11,.mv (.tmp 3),.none,[],[]⟩,⟨.some 12,.ixstr (.tmp 10) (.tmp 11),.none,[],[]⟩,⟨.some 13,.bin .geq (.tmp 12) (.av (.int .u8 97)),.none,[],[]⟩,⟨.some 14,.mv (.tmp 13),.none,[],[]⟩,⟨.some 15,.mv (.tmp 0),.some (14,true),[],[]⟩,⟨.some 16,.mv (.tmp 3),.some (14,true),[],[]⟩,⟨.some 17,.ixstr (.tmp 15) (.tmp 16),.some (14,true),[],[]⟩,⟨.some 18,.bin .leq (.tmp 17) (.av (.int .u8 122)),.some (14,true),[],[]⟩,⟨.some 19,.pick (.tmp 14) (.tmp 18) (.av (.bool false)),.none,[],[]⟩,⟨.some 20,.mv (.tmp 19),.none,[],[]⟩,⟨.some 21,.mv (.tmp 0),.some (20,false),[],[]⟩,⟨.some 22,.mv (.tmp 3),.some (20,false),[],[]⟩,⟨.some 23,.ixstr (.tmp 21) (.tmp 22),.some (20,false),[],[]⟩,⟨.some 24,.bin .geq (.tmp 23) (.av (.int .u8 65)),.some (20,false),[],[]⟩,⟨.some 25,.mv (.tmp 24),.some (20,false),[],[]⟩,⟨.some 26,.mv (.tmp 0),.some (25,true),[],[]⟩,⟨.some 27,.mv (.tmp 3),.some (25,true),[],[]⟩,⟨.some 28,.ixstr (.tmp 26) (.tmp 27),.some (25,true),[],[]⟩,⟨.some 29,.bin .leq (.tmp 28) (.av (.int .u8 90)),.some (25,true),[],[]⟩,⟨.some 30,.pick (.tmp 25) (.tmp 29) (.av (.bool false)),.some (20,false),[],[]⟩,⟨.some 31,.pick (.tmp 20) (.av (.bool true)) (.tmp 30),.none,[],[]⟩,⟨.some 4,.mv (.tmp 31),.none,[],[]⟩])
 (.seq (.reg false [⟨.some 32,.mv (.tmp 4),.none,[],[]⟩,⟨.some 33,.un .not (.tmp 32),.none,[],[]⟩,⟨.some 34,.mv (.tmp 33),.none,[],[]⟩,⟨.some 35,.mv (.tmp 3),.some (34,true),[],[]⟩,⟨.some 36,.bin .eql (.tmp 35) (.av (.int .i64 0)),.some (34,true),[],[]⟩,⟨.some 37,.mv (.tmp 36),.some (34,true),[],[]⟩,⟨.some 38,.mv (.tmp 0),.some (37,false),[],[]⟩,⟨.some 39,.mv (.tmp 3),.some (37,false),[],[]⟩,⟨.some 40,.ixstr (.tmp 38) (.tmp 39),.some (37,false),[],[]⟩,⟨.some 41,.bin .neq (.tmp 40) (.av (.int .u8 45)),.some (37,false),[],[]⟩,⟨.some 42,.mv (.tmp 41),.some (37,false),[],[]⟩,⟨.some 43,.mv (.tmp 0),.some (42,true),[],[]⟩,⟨.some 44,.mv (.tmp 3),.some (42,true),[],[]⟩,⟨.some 45,.ixstr (.tmp 43) (.tmp 44),.some (42,true),[],[]⟩,⟨.some 46,.bin .lss (.tmp 45) (.av (.int .u8 48)),.some (42,true),[],[]⟩,⟨.some 47,.mv (.tmp 46),.some (42,true),[],[]⟩,⟨.some 48,.mv (.tmp 0),.some (47,false),[],[]⟩,⟨.some 49,.mv (.tmp 3),.some (47,false),[],[]⟩,⟨.some 50,.ixstr (.tmp 48) (.tmp 49),.some (47,false),[],[]⟩,⟨.some 51,.bin .gtr (.tmp 50) (.av (.int .u8 57)),.some (47,false),[],[]⟩,⟨.some 52,.pick (.tmp 47) (.av (.bool true)) (.tmp 51),.some (42,true),[],[]⟩,⟨.some 53,.pick (.tmp 42) (.tmp 52) (.av (.bool false)),.some (37,false),[],[]⟩,⟨.some 54,.pick (.tmp 37) (.av (.bool true)) (.tmp 53),.some (34,true),[],[]⟩,⟨.some 55,.pick (.tmp 34) (.tmp 54) (.av (.bool false)),.none,[],[]⟩])
 (.cond (.tmp 55)
 (.seq (.reg false [⟨.some 2,.mv (.av (.bool false)),.none,[],[]⟩])
 .ret)
 .skip)))))
 (.cut [0,6,7] []
 (.reg false [⟨.some 56,.bin .add (.tmp 7) (.av (.int .i64 1)),.none,[],[]⟩,⟨.some 7,.mv (.tmp 56),.none,[],[]⟩]))))))
def l_desk_isName_1 : ACode := .loop (.cut [0,6,7] [] b_desk_isName_1)
@[simp] def t_desk_isName_1 : ACode :=
 (.cut [0] []
 (.seq (.reg false [⟨.some 57,.mv (.tmp 0),.none,[],[]⟩,⟨.some 58,.bin .neq (.tmp 57) (.av (.str [])),.none,[],[]⟩,⟨.some 59,.mv (.tmp 58),.none,[],[]⟩,⟨.some 60,.mv (.tmp 0),.some (59,true),[],[]⟩,⟨.some 61,.len true (.tmp 60),.some (59,true),[],[]⟩,⟨.some 62,.bin .leq (.tmp 61) (.av (.int .i64 12)),.some (59,true),[],[]⟩,⟨.some 63,.pick (.tmp 59) (.tmp 62) (.av (.bool false)),.none,[],[]⟩,⟨.some 2,.mv (.tmp 63),.none,[],[]⟩])
 .ret))
def a_desk_isName : AFunc := ⟨64,
 (.seq (.reg false [⟨.some 2,.mv (.av (.bool false)),.none,[],[]⟩])
 (.seq (.seq (.reg false [⟨.some 5,.mv (.tmp 0),.none,[],[]⟩,⟨.some 6,.len true (.tmp 5),.none,[],[]⟩,⟨.some 7,.mv (.av (.int .i64 0)),.none,[],[]⟩])
 (.block 0
 l_desk_isName_1))
 t_desk_isName_1)),
 [.tmp 2], false⟩
theorem c_desk_isName : chkFunc Tryz.prog gl n_desk_isName a_desk_isName = true := by kernel_rfl
def b_base_Cut_1 : ACode :=
 (.seq (.seq (.reg false [⟨.some 8,.mv (.tmp 7),.none,[],[]⟩,⟨.some 9,.mv (.tmp 0),.none,[],[]⟩,⟨.some 10,.len true (.tmp 9),.none,[],[]⟩,⟨.some 11,.bin .lss (.tmp 8) (.tmp 10),.none,[],[]⟩])
 (.cond (.tmp 11)
 .skip
 (.exit 0)))
 (.cut [0,1,5,6,7] []
 (.seq (.block 1
 (.seq (.reg false [⟨.some 14,.mv (.tmp 0),.none,[],[]⟩,⟨.some 15,.mv (.tmp 7),.none,[],[]⟩,⟨.some 16,.ixstr (.tmp 14) (.tmp 15),.none,[],[]⟩,⟨.some 17,.mv (.tmp 1),.none,[],[]⟩,⟨.some 18,.bin .eql (.tmp 16) (.tmp 17),.none,[],[]⟩])
 (.cond (.tmp 18)
 (.seq (.reg false [⟨.some 19,.mv (.tmp 5),.none,[5],[]⟩,⟨.some 20,.mv (.tmp 0),.none,[],[]⟩,⟨.some 21,.mv (.tmp 6),.none,[],[]⟩,⟨.some 22,.mv (.tmp 7),.none,[],[]⟩,⟨.some 23,.slice .str (.tmp 20) (.some (.tmp 21)) (.some (.tmp 22)) .none,.none,[],[]⟩,⟨.some 24,.bslice true 1 1 [(.str [])] [(0,(.tmp 23))],.none,[],[]⟩,⟨.some 25,.append 1 16 (.tmp 19) (.tmp 24),.none,[19],[]⟩,⟨.some 5,.mv (.tmp 25),.none,[25],[]⟩])
 (.reg false [⟨.some 26,.mv (.tmp 7),.none,[],[]⟩,⟨.some 27,.bin .add (.tmp 26) (.av (.int .i64 1)),.none,[],[]⟩,⟨.some 6,.mv (.tmp 27),.none,[],[]⟩]))
 .skip)))
 (.cut [0,1,5,6,7] []
 (.reg false [⟨.some 12,.mv (.tmp 7),.none,[],[]⟩,⟨.some 13,.bin .add (.tmp 12) (.av (.int .i64 1)),.none,[],[]⟩,⟨.some 7,.mv (.tmp 13),.none,[],[]⟩])))))
def l_base_Cut_1 : ACode := .loop (.cut [0,1,5,6,7] [] b_base_Cut_1)
@[simp] def t_base_Cut_1 : ACode :=
 (.cut [0,5,6] []
 (.seq (.reg false [⟨.some 28,.mv (.tmp 5),.none,[5],[]⟩,⟨.some 29,.mv (.tmp 0),.none,[],[]⟩,⟨.some 30,.mv (.tmp 6),.none,[],[]⟩,⟨.some 31,.slice .str (.tmp 29) (.some (.tmp 30)) .none .none,.none,[],[]⟩,⟨.some 32,.bslice true 1 1 [(.str [])] [(0,(.tmp 31))],.none,[],[]⟩,⟨.some 33,.append 1 16 (.tmp 28) (.tmp 32),.none,[28],[]⟩,⟨.some 4,.mv (.tmp 33),.none,[33],[]⟩])
 .ret))
def a_base_Cut : AFunc := ⟨34,
 (.seq (.reg false [⟨.some 4,.mv (.av .nils),.none,[],[]⟩])
 (.seq (.reg false [⟨.some 5,.mv (.av .nils),.none,[],[]⟩])
 (.seq (.reg false [⟨.some 6,.mv (.av (.int .i64 0)),.none,[],[]⟩])
 (.seq (.seq (.reg false [⟨.some 7,.mv (.av (.int .i64 0)),.none,[],[]⟩])
 (.block 0
 l_base_Cut_1))
 t_base_Cut_1)))),
 [.tmp 4], false⟩
theorem c_base_Cut : chkFunc Tryz.prog gl n_base_Cut a_base_Cut = true := by kernel_rfl
def b_ref10_head_1 : ACode :=
 (.seq (.seq (.reg false [⟨.some 6,.mv (.tmp 5),.none,[],[]⟩,⟨.some 7,.mv (.tmp 0),.none,[],[]⟩,⟨.some 8,.len true (.tmp 7),.none,[],[]⟩,⟨.some 9,.bin .lss (.tmp 6) (.tmp 8),.none,[],[]⟩])
 (.cond (.tmp 9)
 .skip
 (.exit 0)))
 (.cut [0,5] []
 (.seq (.block 1
 (.seq (.reg false [⟨.some 12,.mv (.tmp 0),.none,[],[]⟩,⟨.some 13,.mv (.tmp 5),.none,[],[]⟩,⟨.some 14,.ixstr (.tmp 12) (.tmp 13),.none,[],[]⟩,⟨.some 15,.bin .eql (.tmp 14) (.av (.int .u8 32)),.none,[],[]⟩])
 (.cond (.tmp 15)
 (.seq (.reg true [⟨.some 16,.mv (.tmp 0),.none,[],[]⟩,⟨.some 17,.mv (.tmp 5),.none,[],[]⟩,⟨.some 18,.slice .str (.tmp 16) .none (.some (.tmp 17)) .none,.none,[],[]⟩,⟨.some 19,.mv (.tmp 0),.none,[],[]⟩,⟨.some 20,.mv (.tmp 5),.none,[],[]⟩,⟨.some 21,.bin .add (.tmp 20) (.av (.int .i64 1)),.none,[],[]⟩,⟨.some 22,.slice .str (.tmp 19) (.some (.tmp 21)) .none .none,.none,[],[]⟩,⟨.some 2,.mv (.tmp 18),.none,[],[]⟩,⟨.some 3,.mv (.tmp 22),.none,[],[]⟩,⟨.some 4,.mv (.av (.bool true)),.none,[],[]⟩])
 .ret)
 .skip)))
 (.cut [0,5] []
 (.reg false [⟨.some 10,.mv (.tmp 5),.none,[],[]⟩,⟨.some 11,.bin .add (.tmp 10) (.av (.int .i64 1)),.none,[],[]⟩,⟨.some 5,.mv (.tmp 11),.none,[],[]⟩])))))
def l_ref10_head_1 : ACode := .loop (.cut [0,5] [] b_ref10_head_1)
@[simp] def t_ref10_head_1 : ACode :=
 (.cut [0] []
 (.seq (.reg false [⟨.some 23,.mv (.tmp 0),.none,[],[]⟩,⟨.some 2,.mv (.tmp 23),.none,[],[]⟩,⟨.some 3,.mv (.av (.str [])),.none,[],[]⟩,⟨.some 4,.mv (.av (.bool false)),.none,[],[]⟩])
 .ret))
def a_ref10_head : AFunc := ⟨24,
 (.seq (.reg false [⟨.some 2,.mv (.av (.str [])),.none,[],[]⟩,⟨.some 3,.mv (.av (.str [])),.none,[],[]⟩,⟨.some 4,.mv (.av (.bool false)),.none,[],[]⟩])
 (.seq (.seq (.reg false [⟨.some 5,.mv (.av (.int .i64 0)),.none,[],[]⟩])
 (.block 0
 l_ref10_head_1))
 t_ref10_head_1)),
 [.tmp 2,.tmp 3,.tmp 4], false⟩
theorem c_ref10_head : chkFunc Tryz.prog gl n_ref10_head a_ref10_head = true := by kernel_rfl
def b_base_IsName_1 : ACode :=
 (.seq (.seq (.reg false [⟨.some 14,.mv (.tmp 3),.none,[],[]⟩,⟨.some 15,.mv (.tmp 0),.none,[],[]⟩,⟨.some 16,.len true (.tmp 15),.none,[],[]⟩,⟨.some 17,.bin .lss (.tmp 14) (.tmp 16),.none,[],[]⟩])
 (.cond (.tmp 17)
 .skip
 (.exit 0)))
 (.cut [0,3] []
 (.seq (.block 1
 (.seq (.reg false [⟨.some 20,.mv (.tmp 0),.none,[],[]⟩,⟨.some 21,.mv (.tmp 3),.none,[],[]⟩,⟨.some 22,.ixstr (.tmp 20) (.tmp 21),.none,[],[]⟩,⟨.some 4,.mv (.tmp 22),.none,[],[]⟩])
 (.seq (.reg false [⟨.some 23,.mv (.tmp 4),.none,[],[]⟩,⟨.some 24,.bin .geq (.tmp 23) (.av (.int .u8 97)),.none,[],[]⟩,⟨.some 25,.mv (.tmp 24),.none,[],[]⟩,⟨.some 26,.mv (.tmp 4),.some (25,true),[],[]⟩,⟨.some 27,.bin .leq (.tmp 26) (.av (.int .u8 122)),.some (25,true),[],[]⟩,⟨.some 28,.pick (.tmp 25) (.tmp 27) (.av (.bool false)),.none,[],[]⟩,⟨.some 29,.mv (.tmp 28),.none,[],[]⟩,⟨.some 30,.mv (.tmp 4),.some (29,false),[],[]⟩,⟨.some 31,.bin .geq (.tmp 30) (.av (.int .u8 65)),.some (29,false),[],[]⟩,⟨.some 32,.mv (.tmp 31),.some (29,false),[],[]⟩,⟨.some 33,.mv (.tmp 4),.some (32,true),[],[]⟩,⟨.some 34,.bin .leq (.tmp 33) (.av (.int .u8 90)),.some (32,true),[],[]⟩,⟨.some 35,.pick (.tmp 32) (.tmp 34) (.av (.bool false)),.some (29,false),[],[]⟩,⟨.some 36,.pick (.tmp 29) (.av (.bool true)) (.tmp 35),.none,[],[]⟩,⟨.some 5,.mv (.tmp 36),.none,[],[]⟩])
 (.seq (.reg false [⟨.some 37,.mv (.tmp 5),.none,[],[]⟩,⟨.some 38,.un .not (.tmp 37),.none,[],[]⟩,⟨.some 39,.mv (.tmp 38),.none,[],[]⟩,⟨.some 40,.mv (.tmp 3),.some (39,true),[],[]⟩,⟨.some 41,.bin .eql (.tmp 40) (.av (.int .i64 0)),.some (39,true),[],[]⟩,⟨.some 42,.mv (.tmp 41),.some (39,true),[],[]⟩,⟨.some 43,.mv (.tmp 4),.some (42,false),[],[]⟩,⟨.some 44,.bin .neq (.tmp 43) (.av (.int .u8 45)),.some (42,false),[],[]⟩,⟨.some 45,.mv (.tmp 44),.some (42,false),[],[]⟩,⟨.some 46,.mv (.tmp 4),.some (45,true),[],[]⟩,⟨.some 47,.bin .lss (.tmp 46) (.av (.int .u8 48)),.some (45,true),[],[]⟩,⟨.some 48,.mv (.tmp 47),.some (45,true),[],[]⟩,⟨.some 49,.mv (.tmp 4),.some (48,false),[],[]⟩,⟨.some 50,.bin .gtr (.tmp 49) (.av (.int .u8 57)),.some (48,false),[],[]⟩,⟨.some 51,.pick (.tmp 48) (.av (.bool true)) (.tmp 50),.some (45,true),[],[]⟩,⟨.some 52,.pick (.tmp 45) (.tmp 51) (.av (.bool false)),.some (42,false),[],[]⟩,⟨.some 53,.pick (.tmp 42) (.av (.bool true)) (.tmp 52),.some (39,true),[],[]⟩,⟨.some 54,.pick (.tmp 39) (.tmp 53) (.av (.bool false)),.none,[],[]⟩])
 (.cond (.tmp 54)
 (.seq (.reg false [⟨.some 2,.mv (.av (.bool false)),.none,[],[]⟩])
 .ret)
 .skip)))))
 (.cut [0,3] []
 (.reg false [⟨.some 18,.mv (.tmp 3),.none,[],[]⟩,⟨.some 19,.bin .add (.tmp 18) (.av (.int .i64 1)),.none,[],[]⟩,⟨.some 3,.mv (.tmp 19),.none,[],[]⟩])))))
def l_base_IsName_1 : ACode := .loop (.cut [0,3] [] b_base_IsName_1)
@[simp] def t_base_IsName_1 : ACode :=
 (.cut [] []
 (.seq (.reg false [⟨.some 2,.mv (.av (.bool true)),.none,[],[]⟩])
 .ret))
def a_base_IsName : AFunc := ⟨55,
 (.seq (.reg false [⟨.some 2,.mv (.av (.bool false)),.none,[],[]⟩])
 (.seq (.seq (.reg false [⟨.some 6,.mv (.tmp 0),.none,[],[]⟩,⟨.some 7,.len true (.tmp 6),.none,[],[]⟩,⟨.some 8,.bin .lss (.tmp 7) (.av (.int .i64 1)),.none,[],[]⟩,⟨.some 9,.mv (.tmp 8),.none,[],[]⟩,⟨.some 10,.mv (.tmp 0),.some (9,false),[],[]⟩,⟨.some 11,.len true (.tmp 10),.some (9,false),[],[]⟩,⟨.some 12,.bin .gtr (.tmp 11) (.av (.int .i64 12)),.some (9,false),[],[]⟩,⟨.some 13,.pick (.tmp 9) (.av (.bool true)) (.tmp 12),.none,[],[]⟩])
 (.cond (.tmp 13)
 (.seq (.reg false [⟨.some 2,.mv (.av (.bool false)),.none,[],[]⟩])
 .ret)
 .skip))
 (.cut [0] []
 (.seq (.seq (.reg false [⟨.some 3,.mv (.av (.int .i64 0)),.none,[],[]⟩])
 (.block 0
 l_base_IsName_1))
 t_base_IsName_1)))),
 [.tmp 2], false⟩
theorem c_base_IsName : chkFunc Tryz.prog gl n_base_IsName a_base_IsName = true := by kernel_rfl
def b_desk_seals_1 : ACode :=
 (.seq (.reg false [⟨.some 14,.bin .lss (.tmp 13) (.tmp 12),.none,[],[]⟩])
 (.seq (.cond (.tmp 14)
 .skip
 (.exit 0))
 (.cut [4,5,11,12,13] []
 (.seq (.block 1
 (.seq (.reg false [⟨.some 15,.iaddr .none 2 (.tmp 11) (.tmp 13),.none,[],[]⟩,⟨.some 16,.load true false 2 (.tmp 15),.none,[],[]⟩,⟨.some 7,.alloc [(.str []),(.str [])],.none,[],[]⟩,⟨.none,.store 2 (.tmp 7) (.tmp 16),.none,[16],[]⟩])
 (.seq (.block 2
 (.seq (.reg false [⟨.some 18,.faddr 0 (.tmp 7),.none,[],[]⟩,⟨.some 19,.load false false 1 (.tmp 18),.none,[],[]⟩,⟨.some 20,.call (.av (.fn n_desk_isName [])) [(.tmp 19)],.none,[],[]⟩,⟨.some 21,.un .not (.tmp 20),.none,[],[]⟩,⟨.some 17,.mv (.tmp 21),.none,[],[]⟩])
 (.cond (.tmp 17)
 (.seq (.reg false [⟨.some 2,.mv (.av .nils),.none,[],[]⟩,⟨.some 3,.mv (.av (.int .i64 4)),.none,[],[]⟩])
 .ret)
 (.seq (.reg false [⟨.some 23,.faddr 1 (.tmp 7),.none,[],[]⟩,⟨.some 24,.load false false 1 (.tmp 23),.none,[],[]⟩,⟨.some 25,.len true (.tmp 24),.none,[],[]⟩,⟨.some 26,.bin .gtr (.tmp 25) (.av (.int .i64 400)),.none,[],[]⟩,⟨.some 22,.mv (.tmp 26),.none,[],[]⟩])
 (.cond (.tmp 22)
 (.seq (.reg false [⟨.some 2,.mv (.av .nils),.none,[],[]⟩,⟨.some 3,.mv (.av (.int .i64 8)),.none,[],[]⟩])
 .ret)
 (.seq (.reg false [⟨.some 28,.faddr 1 (.tmp 7),.none,[],[]⟩,⟨.some 29,.load false false 1 (.tmp 28),.none,[],[]⟩,⟨.some 30,.call (.av (.fn n_strings_Contains [])) [(.tmp 29),(.av (.str [10]))],.none,[],[]⟩,⟨.some 27,.mv (.tmp 30),.none,[],[]⟩])
 (.cond (.tmp 27)
 (.seq (.reg false [⟨.some 2,.mv (.av .nils),.none,[],[]⟩,⟨.some 3,.mv (.av (.int .i64 7)),.none,[],[]⟩])
 .ret)
 .skip)))))))
 (.cut [4,5,7,11,12,13] []
 (.seq (.reg false [⟨.some 31,.mv (.tmp 5),.none,[],[]⟩,⟨.some 32,.load true false 2 (.tmp 7),.none,[],[]⟩,⟨.some 33,.call (.av (.fn n_desk_seal [])) [(.tmp 31),(.tmp 32)],.none,[],[]⟩,⟨.some 5,.mv (.tmp 33),.none,[],[]⟩])
 (.reg false [⟨.some 34,.mv (.tmp 4),.none,[4],[]⟩,⟨.some 35,.mv (.tmp 5),.none,[],[]⟩,⟨.some 36,.bslice true 1 1 [(.int .i64 0)] [(0,(.tmp 35))],.none,[],[]⟩,⟨.some 37,.append 1 8 (.tmp 34) (.tmp 36),.none,[34],[]⟩,⟨.some 4,.mv (.tmp 37),.none,[37],[]⟩]))))))
 (.cut [4,5,11,12,13] []
 (.reg false [⟨.some 38,.bin .add (.tmp 13) (.av (.int .i64 1)),.none,[],[]⟩,⟨.some 13,.mv (.tmp 38),.none,[],[]⟩]))))))
def l_desk_seals_1 : ACode := .loop (.cut [4,5,11,12,13] [[7]] b_desk_seals_1)
@[simp] def t_desk_seals_1 : ACode :=
 (.cut [4] []
 (.seq (.reg false [⟨.some 39,.mv (.tmp 4),.none,[4],[]⟩,⟨.some 2,.mv (.tmp 39),.none,[39],[]⟩,⟨.some 3,.mv (.av (.int .i64 0)),.none,[],[]⟩])
 .ret))
def a_desk_seals : AFunc := ⟨40,
 (.seq (.reg false [⟨.some 2,.mv (.av .nils),.none,[],[]⟩,⟨.some 3,.mv (.av (.int .i64 0)),.none,[],[]⟩])
 (.seq (.seq (.reg false [⟨.some 8,.mv (.tmp 0),.none,[],[]⟩,⟨.some 9,.len false (.tmp 8),.none,[],[]⟩,⟨.some 10,.bin .gtr (.tmp 9) (.av (.int .i64 60)),.none,[],[]⟩])
 (.cond (.tmp 10)
 (.seq (.reg false [⟨.some 2,.mv (.av .nils),.none,[],[]⟩,⟨.some 3,.mv (.av (.int .i64 8)),.none,[],[]⟩])
 .ret)
 .skip))
 (.cut [0] []
 (.seq (.reg false [⟨.some 4,.mv (.av .nils),.none,[],[]⟩])
 (.seq (.reg false [⟨.some 5,.mv (.av (.int .i64 0)),.none,[],[]⟩])
 (.seq (.seq (.reg false [⟨.some 11,.mv (.tmp 0),.none,[],[]⟩,⟨.some 12,.len false (.tmp 11),.none,[],[]⟩,⟨.some 13,.mv (.av (.int .i64 0)),.none,[],[]⟩])
 (.block 0
 l_desk_seals_1))
 t_desk_seals_1)))))),
 [.tmp 2,.tmp 3], false⟩
theorem c_desk_seals : chkFunc Tryz.prog gl n_desk_seals a_desk_seals = true := by kernel_rfl
def a_mix_Sums : AFunc := ⟨31,
 (.seq (.reg false [⟨.some 4,.alloc [(.int .i64 0),(.int .i64 0),(.int .i64 0),(.int .i64 0),(.int .i64 0),(.int .i64 0)],.none,[],[]⟩,⟨.some 5,.mv (.av (.int .i64 0)),.none,[],[]⟩])
 (.seq (.reg false [⟨.some 10,.mv (.tmp 0),.none,[],[]⟩,⟨.some 11,.mv (.tmp 1),.none,[],[]⟩,⟨.some 12,.call (.av (.fn n_mix_read [])) [(.tmp 10),(.tmp 11)],.none,[],[]⟩,⟨.some 9,.mv (.tmp 12),.none,[],[]⟩,⟨.some 13,.extract (.tmp 9) 0,.none,[],[]⟩,⟨.some 14,.extract (.tmp 9) 1,.none,[],[]⟩,⟨.some 15,.extract (.tmp 9) 2,.none,[],[]⟩,⟨.some 6,.mv (.tmp 13),.none,[],[]⟩,⟨.some 7,.mv (.tmp 14),.none,[],[]⟩,⟨.some 8,.mv (.tmp 15),.none,[],[]⟩])
 (.seq (.seq (.reg false [⟨.some 16,.mv (.tmp 8),.none,[],[]⟩,⟨.some 17,.bin .neq (.tmp 16) (.av (.int .i64 0)),.none,[],[]⟩])
 (.cond (.tmp 17)
 (.seq (.reg false [⟨.some 18,.build [(.int .i64 0),(.int .i64 0),(.int .i64 0),(.int .i64 0),(.int .i64 0),(.int .i64 0)] [],.none,[],[]⟩,⟨.some 19,.mv (.tmp 8),.none,[],[]⟩,⟨.none,.store 6 (.tmp 4) (.tmp 18),.none,[18],[]⟩,⟨.some 5,.mv (.tmp 19),.none,[],[]⟩])
 .ret)
 .skip))
 (.cut [4,6] []
 (.seq (.reg true [⟨.some 20,.mv (.tmp 6),.none,[],[]⟩,⟨.some 21,.nilchk (.tmp 20),.none,[],[]⟩,⟨.some 22,.faddr 2 (.tmp 21),.none,[],[]⟩,⟨.some 23,.load true false 3 (.tmp 22),.none,[],[]⟩,⟨.some 24,.call (.av (.fn n_mix_gases_content [])) [(.tmp 23)],.none,[],[4]⟩,⟨.some 25,.mv (.tmp 6),.none,[],[]⟩,⟨.some 26,.nilchk (.tmp 25),.none,[],[]⟩,⟨.some 27,.faddr 5 (.tmp 26),.none,[],[]⟩,⟨.some 28,.load true false 3 (.tmp 27),.none,[],[]⟩,⟨.some 29,.call (.av (.fn n_mix_gases_content [])) [(.tmp 28)],.none,[],[]⟩,⟨.some 30,.build [(.int .i64 0),(.int .i64 0),(.int .i64 0),(.int .i64 0),(.int .i64 0),(.int .i64 0)] [(0,3,(.tmp 24)),(3,3,(.tmp 29))],.none,[],[]⟩,⟨.none,.store 6 (.tmp 4) (.tmp 30),.none,[30],[]⟩,⟨.some 5,.mv (.av (.int .i64 0)),.none,[],[]⟩])
 .ret))))),
 [.cell true 6 4,.tmp 5], false⟩
theorem c_mix_Sums : chkFunc Tryz.prog gl n_mix_Sums a_mix_Sums = true := by kernel_rfl
def b_desk_total_1 : ACode :=
 (.seq (.reg false [⟨.some 9,.bin .lss (.tmp 8) (.tmp 7),.none,[],[]⟩])
 (.seq (.cond (.tmp 9)
 .skip
 (.exit 0))
 (.cut [2,3,6,7,8] []
 (.seq (.block 1
 (.seq (.reg false [⟨.some 10,.iaddr .none 3 (.tmp 6) (.tmp 8),.none,[],[]⟩,⟨.some 11,.load true false 3 (.tmp 10),.none,[],[]⟩,⟨.some 5,.alloc [(.int .i64 0),(.int .i64 0),(.int .i64 0)],.none,[],[]⟩,⟨.none,.store 3 (.tmp 5) (.tmp 11),.none,[11],[]⟩])
 (.reg false [⟨.some 12,.load true false 3 (.tmp 3),.none,[],[]⟩,⟨.some 13,.load true false 3 (.tmp 5),.none,[],[]⟩,⟨.some 14,.call (.av (.fn n_desk_plus [])) [(.tmp 12),(.tmp 13)],.none,[],[]⟩,⟨.none,.store 3 (.tmp 3) (.tmp 14),.none,[14],[]⟩])))
 (.cut [2,3,6,7,8] []
 (.reg false [⟨.some 15,.bin .add (.tmp 8) (.av (.int .i64 1)),.none,[],[]⟩,⟨.some 8,.mv (.tmp 15),.none,[],[]⟩]))))))
def l_desk_total_1 : ACode := .loop (.cut [2,3,6,7,8] [[5]] b_desk_total_1)
@[simp] def t_desk_total_1 : ACode :=
 (.cut [2,3] []
 (.seq (.reg false [⟨.some 16,.load true false 3 (.tmp 3),.none,[],[]⟩,⟨.none,.store 3 (.tmp 2) (.tmp 16),.none,[16],[]⟩])
 .ret))
def a_desk_total : AFunc := ⟨17,
 (.seq (.reg false [⟨.some 2,.alloc [(.int .i64 0),(.int .i64 0),(.int .i64 0)],.none,[],[]⟩])
 (.seq (.reg false [⟨.some 3,.alloc [(.int .i64 0),(.int .i64 0),(.int .i64 0)],.none,[],[]⟩])
 (.seq (.seq (.reg false [⟨.some 6,.mv (.tmp 0),.none,[],[]⟩,⟨.some 7,.len false (.tmp 6),.none,[],[]⟩,⟨.some 8,.mv (.av (.int .i64 0)),.none,[],[]⟩])
 (.block 0
 l_desk_total_1))
 t_desk_total_1))),
 [.cell true 3 2], false⟩
theorem c_desk_total : chkFunc Tryz.prog gl n_desk_total a_desk_total = true := by kernel_rfl
end Go.Proofs.YtnhagbllecpkkaaGreatDoor
