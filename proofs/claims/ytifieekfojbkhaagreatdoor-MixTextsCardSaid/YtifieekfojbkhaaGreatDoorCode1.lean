/-
  The codes of the functions, as the abstract machine runs them, each checked against the program by the kernel.
-/
import Derived.Test.YtifieekfojbkhaaGreatDoorVaChk
import Derived.Test.YtifieekfojbkhaaGreatDoorProg
set_option linter.unusedSimpArgs false
set_option linter.unusedVariables false
namespace Go.Proofs.YtifieekfojbkhaaGreatDoor
open Go Go.VA Go.Proofs
/-- What the package variables hold. -/
def gl : Globs := fun _ => none
abbrev n_law06_MixTexts : Nat := 3
abbrev n_law06_awake : Nat := 4
abbrev n_mix_FormatFill : Nat := 5
abbrev n_mix_ParseFill : Nat := 6
abbrev n_ref06_ParseFill : Nat := 7
abbrev n_ref06_FormatFill : Nat := 8
abbrev n_ref06_CheckFill : Nat := 9
abbrev n_base_Cut : Nat := 10
abbrev n_mix_PressureOf : Nat := 11
abbrev n_law06_Room : Nat := 12
abbrev n_law06_Diary : Nat := 13
abbrev n_mix_CheckPlan : Nat := 14
abbrev n_law06_Nitrox : Nat := 15
abbrev n_mix_Share : Nat := 16
abbrev n_strconv_Itoa : Nat := 17
abbrev n_strings_Join : Nat := 18
abbrev n_mix_fillOf : Nat := 19
abbrev n_strings_Split : Nat := 20
abbrev n_strings_Contains : Nat := 21
abbrev n_base_Number : Nat := 22
abbrev n_base_Decimal : Nat := 23
abbrev n_base_Within : Nat := 24
abbrev n_ref01_CheckGas : Nat := 25
abbrev n_mix_held : Nat := 26
abbrev n_mix_rounded : Nat := 27
abbrev n_mix_gases_sum : Nat := 28
abbrev n_mix_ask : Nat := 29
abbrev n_mix_asked_cost : Nat := 30
abbrev n_mix_checkContent : Nat := 31
abbrev n_mix_gasesOf : Nat := 32
abbrev n_mix_within : Nat := 33
abbrev n_mix_gases_share : Nat := 34
abbrev n_mix_gases_content : Nat := 35
abbrev n_mix_number : Nat := 40
abbrev n_base_Size : Nat := 43
abbrev n_mix_read : Nat := 44
abbrev n_mix_vessel : Nat := 45
abbrev n_mix_CheckTask : Nat := 46
abbrev n_mix_ask_c1 : Nat := 47
abbrev n_slices_ContainsFunc_int : Nat := 48
abbrev n_mix_checkContent_c1 : Nat := 49
abbrev n_slices_SortStableFunc_int : Nat := 50
abbrev n_mix_gases_share_c1 : Nat := 51
abbrev n_cmp_Compare_int : Nat := 52
abbrev n_strconv_Atoi : Nat := 56
abbrev n_strings_TrimPrefix : Nat := 57
abbrev n_mix_CheckVessels : Nat := 61
abbrev n_mix_store_enter : Nat := 62
abbrev n_slices_IndexFunc_api_MixVessel : Nat := 63
abbrev n_mix_vessel_c1 : Nat := 64
abbrev n_mix_isName : Nat := 65
abbrev n_slices_ContainsFunc_api_MixSource : Nat := 66
abbrev n_mix_CheckTask_c1 : Nat := 67
abbrev n_gas_CheckGas : Nat := 68
abbrev n_mix_shares : Nat := 69
abbrev n_slices_IndexFunc_int : Nat := 70
abbrev n_slices_stableCmpFunc_int : Nat := 71
abbrev n_cmp_isNaN_int : Nat := 72
abbrev n_mix_alone : Nat := 89
abbrev n_mix_takes : Nat := 90
abbrev n_mix_puts : Nat := 91
abbrev n_mix_store_above : Nat := 92
abbrev n_mix_fresh : Nat := 93
abbrev n_mix_gases_less : Nat := 94
abbrev n_mix_gases_plus : Nat := 95
abbrev n_slices_IndexFunc_api_MixSource : Nat := 96
abbrev n_gas_first : Nat := 97
abbrev n_gas_bound : Nat := 98
abbrev n_slices_insertionSortCmpFunc_int : Nat := 99
abbrev n_slices_symMergeCmpFunc_int : Nat := 100
abbrev n_gas_within : Nat := 115
abbrev n_slices_rotateCmpFunc_int : Nat := 116
abbrev n_slices_swapRangeCmpFunc_int : Nat := 122
/- shotline/shotlinelaw06.MixTexts -/
def a_law06_MixTexts : AFunc := ⟨90,
 (.seq (.reg false [⟨.some 2,.box true (.tmp 0),.none,[],[]⟩,
 ⟨.some 4,.mv (.av (.bool false)),.none,[],[]⟩])
 (.seq (.seq (.reg false [⟨.some 12,.call (.av (.fn n_law06_awake [])) [],.none,[],[]⟩,
 ⟨.some 13,.un .not (.tmp 12),.none,[],[]⟩])
 (.cond (.tmp 13)
 (.seq (.reg false [⟨.some 4,.mv (.av (.bool false)),.none,[],[]⟩])
 .ret)
 .skip))
 (.cut [1,2] []
 (.seq (.seq (.reg false [⟨.some 14,.faddr 2 (.tmp 2),.none,[],[]⟩,
 ⟨.some 15,.load false false 1 (.tmp 14),.none,[],[]⟩,
 ⟨.some 16,.len true (.tmp 15),.none,[],[]⟩,
 ⟨.some 17,.bin .gtr (.tmp 16) (.av (.int .i64 20)),.none,[],[]⟩,
 ⟨.some 18,.mv (.tmp 17),.none,[],[]⟩,
 ⟨.some 19,.faddr 3 (.tmp 2),.some (18,false),[],[]⟩,
 ⟨.some 20,.load false false 1 (.tmp 19),.some (18,false),[],[]⟩,
 ⟨.some 21,.len true (.tmp 20),.some (18,false),[],[]⟩,
 ⟨.some 22,.bin .gtr (.tmp 21) (.av (.int .i64 20)),.some (18,false),[],[]⟩,
 ⟨.some 23,.pick (.tmp 18) (.av (.bool true)) (.tmp 22),.none,[],[]⟩,
 ⟨.some 24,.mv (.tmp 23),.none,[],[]⟩,
 ⟨.some 25,.mv (.tmp 1),.some (24,false),[],[]⟩,
 ⟨.some 26,.len true (.tmp 25),.some (24,false),[],[]⟩,
 ⟨.some 27,.bin .gtr (.tmp 26) (.av (.int .i64 120)),.some (24,false),[],[]⟩,
 ⟨.some 28,.pick (.tmp 24) (.av (.bool true)) (.tmp 27),.none,[],[]⟩])
 (.cond (.tmp 28)
 (.seq (.reg false [⟨.some 4,.mv (.av (.bool true)),.none,[],[]⟩])
 .ret)
 .skip))
 (.cut [1,2] []
 (.seq (.reg false [⟨.some 29,.load true false 8 (.tmp 2),.none,[],[]⟩,
 ⟨.some 30,.call (.av (.fn n_mix_FormatFill [])) [(.tmp 29)],.none,[],[]⟩,
 ⟨.some 5,.mv (.tmp 30),.none,[],[]⟩])
 (.seq (.reg false [⟨.some 32,.mv (.tmp 1),.none,[],[]⟩,
 ⟨.some 33,.call (.av (.fn n_mix_ParseFill [])) [(.tmp 32)],.none,[],[]⟩,
 ⟨.some 31,.mv (.tmp 33),.none,[],[]⟩,
 ⟨.some 34,.extract (.tmp 31) 0,.none,[],[]⟩,
 ⟨.some 35,.extract (.tmp 31) 1,.none,[],[]⟩,
 ⟨.some 6,.alloc [(.int .i64 0),(.int .i64 0),(.str []),(.str []),(.int .i64 0),(.int .i64 0),(.int .i64 0),(.bool false)],.none,[],[]⟩,
 ⟨.none,.store 8 (.tmp 6) (.tmp 34),.none,[34],[]⟩,
 ⟨.some 7,.mv (.tmp 35),.none,[],[]⟩])
 (.seq (.reg false [⟨.some 37,.mv (.tmp 1),.none,[],[]⟩,
 ⟨.some 38,.call (.av (.fn n_ref06_ParseFill [])) [(.tmp 37)],.none,[],[]⟩,
 ⟨.some 36,.mv (.tmp 38),.none,[],[]⟩,
 ⟨.some 39,.extract (.tmp 36) 0,.none,[],[]⟩,
 ⟨.some 40,.extract (.tmp 36) 1,.none,[],[]⟩,
 ⟨.some 8,.alloc [(.int .i64 0),(.int .i64 0),(.str []),(.str []),(.int .i64 0),(.int .i64 0),(.int .i64 0),(.bool false)],.none,[],[]⟩,
 ⟨.none,.store 8 (.tmp 8) (.tmp 39),.none,[39],[]⟩,
 ⟨.some 9,.mv (.tmp 40),.none,[],[]⟩])
 (.seq (.seq (.reg false [⟨.some 41,.mv (.tmp 5),.none,[],[]⟩,
 ⟨.some 42,.load true false 8 (.tmp 2),.none,[],[]⟩,
 ⟨.some 43,.call (.av (.fn n_ref06_FormatFill [])) [(.tmp 42)],.none,[],[]⟩,
 ⟨.some 44,.bin .neq (.tmp 41) (.tmp 43),.none,[],[]⟩,
 ⟨.some 45,.mv (.tmp 44),.none,[],[]⟩,
 ⟨.some 46,.mv (.tmp 7),.some (45,false),[],[]⟩,
 ⟨.some 47,.mv (.tmp 9),.some (45,false),[],[]⟩,
 ⟨.some 48,.bin .neq (.tmp 46) (.tmp 47),.some (45,false),[],[]⟩,
 ⟨.some 49,.pick (.tmp 45) (.av (.bool true)) (.tmp 48),.none,[],[]⟩,
 ⟨.some 50,.mv (.tmp 49),.none,[],[]⟩,
 ⟨.some 51,.load true false 8 (.tmp 6),.some (50,false),[],[]⟩,
 ⟨.some 52,.load true false 8 (.tmp 8),.some (50,false),[],[]⟩,
 ⟨.some 53,.eq (.agg [.i,.i,.s,.s,.i,.i,.i,.b]) true (.tmp 51) (.tmp 52),.some (50,false),[],[]⟩,
 ⟨.some 54,.pick (.tmp 50) (.av (.bool true)) (.tmp 53),.none,[],[]⟩])
 (.cond (.tmp 54)
 (.seq (.reg false [⟨.some 4,.mv (.av (.bool false)),.none,[],[]⟩])
 .ret)
 .skip))
 (.cut [2,5] []
 (.seq (.seq (.reg false [⟨.some 55,.load true false 8 (.tmp 2),.none,[],[]⟩,
 ⟨.some 56,.call (.av (.fn n_ref06_CheckFill [])) [(.tmp 55)],.none,[],[]⟩,
 ⟨.some 57,.bin .neq (.tmp 56) (.av (.int .i64 0)),.none,[],[]⟩,
 ⟨.some 58,.mv (.tmp 57),.none,[],[]⟩,
 ⟨.some 59,.faddr 2 (.tmp 2),.some (58,false),[],[]⟩,
 ⟨.some 60,.load false false 1 (.tmp 59),.some (58,false),[],[]⟩,
 ⟨.some 61,.faddr 3 (.tmp 2),.some (58,false),[],[]⟩,
 ⟨.some 62,.load false false 1 (.tmp 61),.some (58,false),[],[]⟩,
 ⟨.some 63,.bin .add (.tmp 60) (.tmp 62),.some (58,false),[],[]⟩,
 ⟨.some 64,.call (.av (.fn n_base_Cut [])) [(.tmp 63),(.av (.int .u8 32))],.some (58,false),[],[]⟩,
 ⟨.some 65,.len false (.tmp 64),.some (58,false),[],[]⟩,
 ⟨.some 66,.bin .gtr (.tmp 65) (.av (.int .i64 1)),.some (58,false),[],[]⟩,
 ⟨.some 67,.pick (.tmp 58) (.av (.bool true)) (.tmp 66),.none,[],[]⟩,
 ⟨.some 68,.mv (.tmp 67),.none,[],[]⟩,
 ⟨.some 69,.faddr 2 (.tmp 2),.some (68,false),[],[]⟩,
 ⟨.some 70,.load false false 1 (.tmp 69),.some (68,false),[],[]⟩,
 ⟨.some 71,.faddr 3 (.tmp 2),.some (68,false),[],[]⟩,
 ⟨.some 72,.load false false 1 (.tmp 71),.some (68,false),[],[]⟩,
 ⟨.some 73,.bin .add (.tmp 70) (.tmp 72),.some (68,false),[],[]⟩,
 ⟨.some 74,.call (.av (.fn n_base_Cut [])) [(.tmp 73),(.av (.int .u8 10))],.some (68,false),[],[]⟩,
 ⟨.some 75,.len false (.tmp 74),.some (68,false),[],[]⟩,
 ⟨.some 76,.bin .gtr (.tmp 75) (.av (.int .i64 1)),.some (68,false),[],[]⟩,
 ⟨.some 77,.pick (.tmp 68) (.av (.bool true)) (.tmp 76),.none,[],[]⟩])
 (.cond (.tmp 77)
 (.seq (.reg false [⟨.some 4,.mv (.av (.bool true)),.none,[],[]⟩])
 .ret)
 .skip))
 (.cut [2,5] []
 (.seq (.reg false [⟨.some 79,.mv (.tmp 5),.none,[],[]⟩,
 ⟨.some 80,.call (.av (.fn n_mix_ParseFill [])) [(.tmp 79)],.none,[],[]⟩,
 ⟨.some 78,.mv (.tmp 80),.none,[],[]⟩,
 ⟨.some 81,.extract (.tmp 78) 0,.none,[],[]⟩,
 ⟨.some 82,.extract (.tmp 78) 1,.none,[],[]⟩,
 ⟨.some 10,.alloc [(.int .i64 0),(.int .i64 0),(.str []),(.str []),(.int .i64 0),(.int .i64 0),(.int .i64 0),(.bool false)],.none,[],[]⟩,
 ⟨.none,.store 8 (.tmp 10) (.tmp 81),.none,[81],[]⟩,
 ⟨.some 11,.mv (.tmp 82),.none,[],[]⟩])
 (.seq (.reg false [⟨.some 83,.mv (.tmp 11),.none,[],[]⟩,
 ⟨.some 84,.bin .eql (.tmp 83) (.av (.int .i64 0)),.none,[],[]⟩,
 ⟨.some 85,.mv (.tmp 84),.none,[],[]⟩,
 ⟨.some 86,.load true false 8 (.tmp 10),.some (85,true),[],[]⟩,
 ⟨.some 87,.load true false 8 (.tmp 2),.some (85,true),[],[]⟩,
 ⟨.some 88,.eq (.agg [.i,.i,.s,.s,.i,.i,.i,.b]) false (.tmp 86) (.tmp 87),.some (85,true),[],[]⟩,
 ⟨.some 89,.pick (.tmp 85) (.tmp 88) (.av (.bool false)),.none,[],[]⟩,
 ⟨.some 4,.mv (.tmp 89),.none,[],[]⟩])
 .ret)))))))))))))),
 [.tmp 4], false⟩
theorem c_law06_MixTexts : chkFunc Tryz.prog gl n_law06_MixTexts a_law06_MixTexts = true := by kernel_rfl
/- shotline/shotlinelaw06.awake -/
def a_law06_awake : AFunc := ⟨49,
 (.seq (.reg false [⟨.some 0,.mv (.av (.bool false)),.none,[],[]⟩])
 (.seq (.reg false [⟨.some 8,.call (.av (.fn n_law06_Room [])) [],.none,[],[]⟩,
 ⟨.some 9,.call (.av (.fn n_law06_Diary [])) [],.none,[],[]⟩,
 ⟨.some 10,.call (.av (.fn n_mix_PressureOf [])) [(.tmp 8),(.tmp 9),(.av (.str [115,49,50]))],.none,[],[]⟩,
 ⟨.some 7,.mv (.tmp 10),.none,[],[]⟩,
 ⟨.some 11,.extract (.tmp 7) 0,.none,[],[]⟩,
 ⟨.some 12,.extract (.tmp 7) 1,.none,[],[]⟩,
 ⟨.some 1,.alloc [(.int .i64 0),(.int .i64 0)],.none,[],[]⟩,
 ⟨.none,.store 2 (.tmp 1) (.tmp 11),.none,[11],[]⟩,
 ⟨.some 2,.mv (.tmp 12),.none,[],[]⟩])
 (.seq (.reg false [⟨.some 14,.call (.av (.fn n_law06_Nitrox [])) [],.none,[],[]⟩,
 ⟨.some 15,.bslice true 1 2 [(.int .i64 0)] [(0,(.av (.int .i64 680))),(1,(.av (.int .i64 110)))],.none,[],[]⟩,
 ⟨.some 16,.build [.nils,(.int .i64 0)] [(0,1,(.tmp 15)),(1,1,(.av (.int .i64 1)))],.none,[],[]⟩,
 ⟨.some 17,.call (.av (.fn n_mix_CheckPlan [])) [(.tmp 14),(.tmp 16)],.none,[],[]⟩,
 ⟨.some 13,.mv (.tmp 17),.none,[],[]⟩,
 ⟨.some 18,.extract (.tmp 13) 0,.none,[],[]⟩,
 ⟨.some 19,.extract (.tmp 13) 1,.none,[],[]⟩,
 ⟨.some 3,.mv (.tmp 18),.none,[],[]⟩,
 ⟨.some 4,.mv (.tmp 19),.none,[],[]⟩])
 (.seq (.reg false [⟨.some 21,.build [(.int .i64 0),(.int .i64 0),(.int .i64 0)] [(0,1,(.av (.int .i64 3))),(1,1,(.av (.int .i64 3))),(2,1,(.av (.int .i64 4)))],.none,[],[]⟩,
 ⟨.some 22,.call (.av (.fn n_mix_Share [])) [(.tmp 21),(.av (.int .i64 5))],.none,[],[]⟩,
 ⟨.some 20,.mv (.tmp 22),.none,[],[]⟩,
 ⟨.some 23,.extract (.tmp 20) 0,.none,[],[]⟩,
 ⟨.some 24,.extract (.tmp 20) 1,.none,[],[]⟩,
 ⟨.some 5,.alloc [(.int .i64 0),(.int .i64 0),(.int .i64 0)],.none,[],[]⟩,
 ⟨.none,.store 3 (.tmp 5) (.tmp 23),.none,[23],[]⟩,
 ⟨.some 6,.mv (.tmp 24),.none,[],[]⟩])
 (.seq (.reg false [⟨.some 25,.mv (.tmp 2),.none,[],[]⟩,
 ⟨.some 26,.bin .eql (.tmp 25) (.av (.int .i64 0)),.none,[],[]⟩,
 ⟨.some 27,.mv (.tmp 26),.none,[],[]⟩,
 ⟨.some 28,.load true false 2 (.tmp 1),.some (27,true),[],[]⟩,
 ⟨.some 29,.build [(.int .i64 0),(.int .i64 0)] [(0,1,(.av (.int .i64 158333))),(1,1,(.av (.int .i64 158334)))],.some (27,true),[],[]⟩,
 ⟨.some 30,.eq (.agg [.i,.i]) false (.tmp 28) (.tmp 29),.some (27,true),[],[]⟩,
 ⟨.some 31,.pick (.tmp 27) (.tmp 30) (.av (.bool false)),.none,[],[]⟩,
 ⟨.some 32,.mv (.tmp 31),.none,[],[]⟩,
 ⟨.some 33,.mv (.tmp 4),.some (32,true),[],[]⟩,
 ⟨.some 34,.bin .eql (.tmp 33) (.av (.int .i64 0)),.some (32,true),[],[]⟩,
 ⟨.some 35,.pick (.tmp 32) (.tmp 34) (.av (.bool false)),.none,[],[]⟩,
 ⟨.some 36,.mv (.tmp 35),.none,[],[]⟩,
 ⟨.some 37,.mv (.tmp 3),.some (36,true),[],[]⟩,
 ⟨.some 38,.bin .eql (.tmp 37) (.av (.int .i64 6860)),.some (36,true),[],[]⟩,
 ⟨.some 39,.pick (.tmp 36) (.tmp 38) (.av (.bool false)),.none,[],[]⟩,
 ⟨.some 40,.mv (.tmp 39),.none,[],[]⟩,
 ⟨.some 41,.mv (.tmp 6),.some (40,true),[],[]⟩,
 ⟨.some 42,.bin .eql (.tmp 41) (.av (.int .i64 0)),.some (40,true),[],[]⟩,
 ⟨.some 43,.pick (.tmp 40) (.tmp 42) (.av (.bool false)),.none,[],[]⟩,
 ⟨.some 44,.mv (.tmp 43),.none,[],[]⟩,
 ⟨.some 45,.load true false 3 (.tmp 5),.some (44,true),[],[]⟩,
 ⟨.some 46,.build [(.int .i64 0),(.int .i64 0),(.int .i64 0)] [(0,1,(.av (.int .i64 2))),(1,1,(.av (.int .i64 1))),(2,1,(.av (.int .i64 2)))],.some (44,true),[],[]⟩,
 ⟨.some 47,.eq (.agg [.i,.i,.i]) false (.tmp 45) (.tmp 46),.some (44,true),[],[]⟩,
 ⟨.some 48,.pick (.tmp 44) (.tmp 47) (.av (.bool false)),.none,[],[]⟩,
 ⟨.some 0,.mv (.tmp 48),.none,[],[]⟩])
 .ret))))),
 [.tmp 0], false⟩
theorem c_law06_awake : chkFunc Tryz.prog gl n_law06_awake a_law06_awake = true := by kernel_rfl
/- shotline/mix.FormatFill -/
def a_mix_FormatFill : AFunc := ⟨66,
 (.seq (.reg false [⟨.some 1,.box true (.tmp 0),.none,[],[]⟩,
 ⟨.some 2,.mv (.av (.str [])),.none,[],[]⟩])
 (.seq (.reg true [⟨.some 6,.faddr 1 (.tmp 1),.none,[],[]⟩,
 ⟨.some 7,.load false false 1 (.tmp 6),.none,[],[]⟩,
 ⟨.some 8,.call (.av (.fn n_strconv_Itoa [])) [(.tmp 7)],.none,[],[]⟩,
 ⟨.some 9,.faddr 6 (.tmp 1),.none,[],[]⟩,
 ⟨.some 10,.load false false 1 (.tmp 9),.none,[],[]⟩,
 ⟨.some 11,.call (.av (.fn n_strconv_Itoa [])) [(.tmp 10)],.none,[],[]⟩,
 ⟨.some 3,.mv (.tmp 8),.none,[],[]⟩,
 ⟨.some 4,.mv (.tmp 11),.none,[],[]⟩])
 (.seq (.reg false [⟨.some 5,.mv (.av .nils),.none,[],[]⟩])
 (.seq (.block 0
 (.seq (.reg false [⟨.some 13,.faddr 0 (.tmp 1),.none,[],[]⟩,
 ⟨.some 14,.load false false 1 (.tmp 13),.none,[],[]⟩,
 ⟨.some 15,.bin .eql (.tmp 14) (.av (.int .i64 0)),.none,[],[]⟩,
 ⟨.some 12,.mv (.tmp 15),.none,[],[]⟩])
 (.cond (.tmp 12)
 (.reg true [⟨.some 16,.mv (.tmp 3),.none,[],[]⟩,
 ⟨.some 17,.faddr 3 (.tmp 1),.none,[],[]⟩,
 ⟨.some 18,.load false false 1 (.tmp 17),.none,[],[]⟩,
 ⟨.some 19,.faddr 4 (.tmp 1),.none,[],[]⟩,
 ⟨.some 20,.faddr 0 (.tmp 19),.none,[],[]⟩,
 ⟨.some 21,.load false false 1 (.tmp 20),.none,[],[]⟩,
 ⟨.some 22,.call (.av (.fn n_strconv_Itoa [])) [(.tmp 21)],.none,[],[]⟩,
 ⟨.some 23,.faddr 4 (.tmp 1),.none,[],[]⟩,
 ⟨.some 24,.faddr 1 (.tmp 23),.none,[],[]⟩,
 ⟨.some 25,.load false false 1 (.tmp 24),.none,[],[]⟩,
 ⟨.some 26,.call (.av (.fn n_strconv_Itoa [])) [(.tmp 25)],.none,[],[]⟩,
 ⟨.some 27,.mv (.tmp 4),.none,[],[]⟩,
 ⟨.some 28,.bslice true 1 6 [(.str [])] [(0,(.av (.str [105,110]))),(1,(.tmp 16)),(2,(.tmp 18)),(3,(.tmp 22)),(4,(.tmp 26)),(5,(.tmp 27))],.none,[],[]⟩,
 ⟨.some 5,.mv (.tmp 28),.none,[],[]⟩])
 (.seq (.reg false [⟨.some 30,.faddr 0 (.tmp 1),.none,[],[]⟩,
 ⟨.some 31,.load false false 1 (.tmp 30),.none,[],[]⟩,
 ⟨.some 32,.bin .eql (.tmp 31) (.av (.int .i64 1)),.none,[],[]⟩,
 ⟨.some 33,.mv (.tmp 32),.none,[],[]⟩,
 ⟨.some 34,.faddr 7 (.tmp 1),.some (33,true),[],[]⟩,
 ⟨.some 35,.load false false 1 (.tmp 34),.some (33,true),[],[]⟩,
 ⟨.some 36,.pick (.tmp 33) (.tmp 35) (.av (.bool false)),.none,[],[]⟩,
 ⟨.some 29,.mv (.tmp 36),.none,[],[]⟩])
 (.cond (.tmp 29)
 (.reg false [⟨.some 37,.mv (.tmp 3),.none,[],[]⟩,
 ⟨.some 38,.faddr 2 (.tmp 1),.none,[],[]⟩,
 ⟨.some 39,.load false false 1 (.tmp 38),.none,[],[]⟩,
 ⟨.some 40,.faddr 3 (.tmp 1),.none,[],[]⟩,
 ⟨.some 41,.load false false 1 (.tmp 40),.none,[],[]⟩,
 ⟨.some 42,.mv (.tmp 4),.none,[],[]⟩,
 ⟨.some 43,.bslice true 1 5 [(.str [])] [(0,(.av (.str [112,117,109,112]))),(1,(.tmp 37)),(2,(.tmp 39)),(3,(.tmp 41)),(4,(.tmp 42))],.none,[],[]⟩,
 ⟨.some 5,.mv (.tmp 43),.none,[43],[]⟩])
 (.seq (.reg false [⟨.some 45,.faddr 0 (.tmp 1),.none,[],[]⟩,
 ⟨.some 46,.load false false 1 (.tmp 45),.none,[],[]⟩,
 ⟨.some 47,.bin .eql (.tmp 46) (.av (.int .i64 1)),.none,[],[]⟩,
 ⟨.some 44,.mv (.tmp 47),.none,[],[]⟩])
 (.cond (.tmp 44)
 (.reg false [⟨.some 48,.mv (.tmp 3),.none,[],[]⟩,
 ⟨.some 49,.faddr 2 (.tmp 1),.none,[],[]⟩,
 ⟨.some 50,.load false false 1 (.tmp 49),.none,[],[]⟩,
 ⟨.some 51,.faddr 3 (.tmp 1),.none,[],[]⟩,
 ⟨.some 52,.load false false 1 (.tmp 51),.none,[],[]⟩,
 ⟨.some 53,.mv (.tmp 4),.none,[],[]⟩,
 ⟨.some 54,.bslice true 1 5 [(.str [])] [(0,(.av (.str [109,111,118,101]))),(1,(.tmp 48)),(2,(.tmp 50)),(3,(.tmp 52)),(4,(.tmp 53))],.none,[],[]⟩,
 ⟨.some 5,.mv (.tmp 54),.none,[54],[]⟩])
 (.seq (.reg false [⟨.some 56,.faddr 0 (.tmp 1),.none,[],[]⟩,
 ⟨.some 57,.load false false 1 (.tmp 56),.none,[],[]⟩,
 ⟨.some 58,.bin .eql (.tmp 57) (.av (.int .i64 2)),.none,[],[]⟩,
 ⟨.some 55,.mv (.tmp 58),.none,[],[]⟩])
 (.cond (.tmp 55)
 (.reg false [⟨.some 59,.mv (.tmp 3),.none,[],[]⟩,
 ⟨.some 60,.faddr 2 (.tmp 1),.none,[],[]⟩,
 ⟨.some 61,.load false false 1 (.tmp 60),.none,[],[]⟩,
 ⟨.some 62,.mv (.tmp 4),.none,[],[]⟩,
 ⟨.some 63,.bslice true 1 4 [(.str [])] [(0,(.av (.str [118,101,110,116]))),(1,(.tmp 59)),(2,(.tmp 61)),(3,(.tmp 62))],.none,[],[]⟩,
 ⟨.some 5,.mv (.tmp 63),.none,[63],[]⟩])
 .skip)))))))))
 (.cut [5] []
 (.seq (.reg false [⟨.some 64,.mv (.tmp 5),.none,[],[]⟩,
 ⟨.some 65,.call (.av (.fn n_strings_Join [])) [(.tmp 64),(.av (.str [32]))],.none,[],[]⟩,
 ⟨.some 2,.mv (.tmp 65),.none,[],[]⟩])
 .ret)))))),
 [.tmp 2], false⟩
theorem c_mix_FormatFill : chkFunc Tryz.prog gl n_mix_FormatFill a_mix_FormatFill = true := by kernel_rfl
/- shotline/mix.ParseFill -/
def a_mix_ParseFill : AFunc := ⟨20,
 (.seq (.reg false [⟨.some 2,.alloc [(.int .i64 0),(.int .i64 0),(.str []),(.str []),(.int .i64 0),(.int .i64 0),(.int .i64 0),(.bool false)],.none,[],[]⟩,
 ⟨.some 3,.mv (.av (.int .i64 0)),.none,[],[]⟩])
 (.seq (.reg false [⟨.some 7,.mv (.tmp 0),.none,[],[]⟩,
 ⟨.some 8,.call (.av (.fn n_strings_Split [])) [(.tmp 7),(.av (.str [32]))],.none,[],[]⟩,
 ⟨.some 9,.call (.av (.fn n_mix_fillOf [])) [(.tmp 8)],.none,[],[]⟩,
 ⟨.some 6,.mv (.tmp 9),.none,[],[]⟩,
 ⟨.some 10,.extract (.tmp 6) 0,.none,[],[]⟩,
 ⟨.some 11,.extract (.tmp 6) 1,.none,[],[]⟩,
 ⟨.some 4,.alloc [(.int .i64 0),(.int .i64 0),(.str []),(.str []),(.int .i64 0),(.int .i64 0),(.int .i64 0),(.bool false)],.none,[],[]⟩,
 ⟨.none,.store 8 (.tmp 4) (.tmp 10),.none,[10],[]⟩,
 ⟨.some 5,.mv (.tmp 11),.none,[],[]⟩])
 (.seq (.seq (.reg false [⟨.some 12,.mv (.tmp 5),.none,[],[]⟩,
 ⟨.some 13,.un .not (.tmp 12),.none,[],[]⟩,
 ⟨.some 14,.mv (.tmp 13),.none,[],[]⟩,
 ⟨.some 15,.mv (.tmp 0),.some (14,false),[],[]⟩,
 ⟨.some 16,.call (.av (.fn n_strings_Contains [])) [(.tmp 15),(.av (.str [10]))],.some (14,false),[],[]⟩,
 ⟨.some 17,.pick (.tmp 14) (.av (.bool true)) (.tmp 16),.none,[],[]⟩])
 (.cond (.tmp 17)
 (.seq (.reg false [⟨.some 18,.build [(.int .i64 0),(.int .i64 0),(.str []),(.str []),(.int .i64 0),(.int .i64 0),(.int .i64 0),(.bool false)] [],.none,[],[]⟩,
 ⟨.none,.store 8 (.tmp 2) (.tmp 18),.none,[18],[]⟩,
 ⟨.some 3,.mv (.av (.int .i64 7)),.none,[],[]⟩])
 .ret)
 .skip))
 (.cut [2,4] []
 (.seq (.reg false [⟨.some 19,.load true false 8 (.tmp 4),.none,[],[]⟩,
 ⟨.none,.store 8 (.tmp 2) (.tmp 19),.none,[19],[]⟩,
 ⟨.some 3,.mv (.av (.int .i64 0)),.none,[],[]⟩])
 .ret))))),
 [.cell true 8 2,.tmp 3], false⟩
theorem c_mix_ParseFill : chkFunc Tryz.prog gl n_mix_ParseFill a_mix_ParseFill = true := by kernel_rfl
/- shotline/shotlineref06.ParseFill -/
def b_ref06_ParseFill_1 : ACode :=
 (.seq (.seq (.reg false [⟨.some 80,.mv (.tmp 11),.none,[],[]⟩,
 ⟨.some 81,.mv (.tmp 6),.none,[],[]⟩,
 ⟨.some 82,.len false (.tmp 81),.none,[],[]⟩,
 ⟨.some 83,.bin .lss (.tmp 80) (.tmp 82),.none,[],[]⟩])
 (.cond (.tmp 83)
 .skip
 (.exit 1)))
 (.cut [2,4,5,6,7,10,11] []
 (.seq (.block 2
 (.seq (.reg false [⟨.some 87,.mv (.tmp 6),.none,[],[]⟩,
 ⟨.some 88,.mv (.tmp 11),.none,[],[]⟩,
 ⟨.some 89,.iaddr .none 1 (.tmp 87) (.tmp 88),.none,[],[]⟩,
 ⟨.some 90,.load false false 1 (.tmp 89),.none,[],[]⟩,
 ⟨.some 91,.call (.av (.fn n_base_Number [])) [(.tmp 90),(.av (.int .i64 10))],.none,[],[]⟩,
 ⟨.some 86,.mv (.tmp 91),.none,[],[]⟩,
 ⟨.some 92,.extract (.tmp 86) 0,.none,[],[]⟩,
 ⟨.some 93,.extract (.tmp 86) 1,.none,[],[]⟩,
 ⟨.some 12,.mv (.tmp 92),.none,[],[]⟩,
 ⟨.some 13,.mv (.tmp 93),.none,[],[]⟩])
 (.seq (.seq (.reg false [⟨.some 94,.mv (.tmp 13),.none,[],[]⟩,
 ⟨.some 95,.un .not (.tmp 94),.none,[],[]⟩])
 (.cond (.tmp 95)
 (.seq (.reg false [⟨.some 96,.load true false 8 (.tmp 4),.none,[],[]⟩,
 ⟨.some 97,.mv (.tmp 5),.none,[],[]⟩,
 ⟨.none,.store 8 (.tmp 2) (.tmp 96),.none,[96],[]⟩,
 ⟨.some 3,.mv (.tmp 97),.none,[],[]⟩])
 .ret)
 .skip))
 (.cut [2,4,5,6,7,10,11,12] []
 (.reg false [⟨.some 98,.mv (.tmp 10),.none,[10],[]⟩,
 ⟨.some 99,.mv (.tmp 12),.none,[],[]⟩,
 ⟨.some 100,.bslice true 1 1 [(.int .i64 0)] [(0,(.tmp 99))],.none,[],[]⟩,
 ⟨.some 101,.append 1 8 (.tmp 98) (.tmp 100),.none,[98],[]⟩,
 ⟨.some 10,.mv (.tmp 101),.none,[101],[]⟩])))))
 (.cut [2,4,5,6,7,10,11] []
 (.reg false [⟨.some 84,.mv (.tmp 11),.none,[],[]⟩,
 ⟨.some 85,.bin .add (.tmp 84) (.av (.int .i64 1)),.none,[],[]⟩,
 ⟨.some 11,.mv (.tmp 85),.none,[],[]⟩])))))
def l_ref06_ParseFill_1 : ACode := .loop (.cut [2,4,5,6,7,10,11] [] b_ref06_ParseFill_1)
def a_ref06_ParseFill : AFunc := ⟨134,
 (.seq (.reg false [⟨.some 2,.alloc [(.int .i64 0),(.int .i64 0),(.str []),(.str []),(.int .i64 0),(.int .i64 0),(.int .i64 0),(.bool false)],.none,[],[]⟩,
 ⟨.some 3,.mv (.av (.int .i64 0)),.none,[],[]⟩])
 (.seq (.reg false [⟨.some 16,.build [(.int .i64 0),(.int .i64 0),(.str []),(.str []),(.int .i64 0),(.int .i64 0),(.int .i64 0),(.bool false)] [],.none,[],[]⟩,
 ⟨.some 4,.alloc [(.int .i64 0),(.int .i64 0),(.str []),(.str []),(.int .i64 0),(.int .i64 0),(.int .i64 0),(.bool false)],.none,[],[]⟩,
 ⟨.none,.store 8 (.tmp 4) (.tmp 16),.none,[16],[]⟩,
 ⟨.some 5,.mv (.av (.int .i64 7)),.none,[],[]⟩])
 (.seq (.reg false [⟨.some 17,.mv (.tmp 0),.none,[],[]⟩,
 ⟨.some 18,.call (.av (.fn n_base_Cut [])) [(.tmp 17),(.av (.int .u8 32))],.none,[],[]⟩,
 ⟨.some 6,.mv (.tmp 18),.none,[18],[]⟩])
 (.seq (.seq (.reg false [⟨.some 19,.mv (.tmp 6),.none,[],[]⟩,
 ⟨.some 20,.len false (.tmp 19),.none,[],[]⟩,
 ⟨.some 21,.bin .lss (.tmp 20) (.av (.int .i64 4)),.none,[],[]⟩,
 ⟨.some 22,.mv (.tmp 21),.none,[],[]⟩,
 ⟨.some 23,.mv (.tmp 0),.some (22,false),[],[]⟩,
 ⟨.some 24,.call (.av (.fn n_base_Cut [])) [(.tmp 23),(.av (.int .u8 10))],.some (22,false),[],[]⟩,
 ⟨.some 25,.len false (.tmp 24),.some (22,false),[],[]⟩,
 ⟨.some 26,.bin .neq (.tmp 25) (.av (.int .i64 1)),.some (22,false),[],[]⟩,
 ⟨.some 27,.pick (.tmp 22) (.av (.bool true)) (.tmp 26),.none,[],[]⟩])
 (.cond (.tmp 27)
 (.seq (.reg false [⟨.some 28,.load true false 8 (.tmp 4),.none,[],[]⟩,
 ⟨.some 29,.mv (.tmp 5),.none,[],[]⟩,
 ⟨.none,.store 8 (.tmp 2) (.tmp 28),.none,[28],[]⟩,
 ⟨.some 3,.mv (.tmp 29),.none,[],[]⟩])
 .ret)
 .skip))
 (.cut [2,4,5,6] []
 (.seq (.reg false [⟨.some 7,.alloc [(.int .i64 0),(.int .i64 0),(.str []),(.str []),(.int .i64 0),(.int .i64 0),(.int .i64 0),(.bool false)],.none,[],[]⟩])
 (.seq (.reg false [⟨.some 8,.mv (.av (.int .i64 3)),.none,[],[]⟩])
 (.seq (.seq (.reg false [⟨.some 30,.mv (.tmp 6),.none,[],[]⟩,
 ⟨.some 31,.iaddr .none 1 (.tmp 30) (.av (.int .i64 0)),.none,[],[]⟩,
 ⟨.some 32,.load false false 1 (.tmp 31),.none,[],[]⟩])
 (.block 0
 (.seq (.reg false [⟨.some 36,.bin .eql (.tmp 32) (.av (.str [105,110])),.none,[],[]⟩,
 ⟨.some 35,.mv (.tmp 36),.none,[],[]⟩])
 (.cond (.tmp 35)
 (.reg true [⟨.some 37,.mv (.tmp 6),.none,[],[]⟩,
 ⟨.some 38,.iaddr .none 1 (.tmp 37) (.av (.int .i64 2)),.none,[],[]⟩,
 ⟨.some 39,.load false false 1 (.tmp 38),.none,[],[]⟩,
 ⟨.some 40,.faddr 0 (.tmp 7),.none,[],[]⟩,
 ⟨.none,.store 1 (.tmp 40) (.av (.int .i64 0)),.none,[],[2]⟩,
 ⟨.some 41,.faddr 3 (.tmp 7),.none,[],[]⟩,
 ⟨.none,.store 1 (.tmp 41) (.tmp 39),.none,[],[]⟩])
 (.seq (.seq (.reg false [⟨.some 43,.bin .eql (.tmp 32) (.av (.str [109,111,118,101])),.none,[],[]⟩,
 ⟨.some 42,.mv (.tmp 43),.none,[],[]⟩])
 (.cond (.tmp 42)
 .skip
 (.reg false [⟨.some 44,.bin .eql (.tmp 32) (.av (.str [112,117,109,112])),.none,[],[]⟩,
 ⟨.some 42,.mv (.tmp 44),.none,[],[]⟩])))
 (.cut [2,4,5,6,7,8,32,42] []
 (.cond (.tmp 42)
 (.reg true [⟨.some 45,.mv (.tmp 6),.none,[],[]⟩,
 ⟨.some 46,.iaddr .none 1 (.tmp 45) (.av (.int .i64 2)),.none,[],[]⟩,
 ⟨.some 47,.load false false 1 (.tmp 46),.none,[],[]⟩,
 ⟨.some 48,.mv (.tmp 6),.none,[],[]⟩,
 ⟨.some 49,.iaddr .none 1 (.tmp 48) (.av (.int .i64 3)),.none,[],[]⟩,
 ⟨.some 50,.load false false 1 (.tmp 49),.none,[],[]⟩,
 ⟨.some 51,.mv (.tmp 6),.none,[],[]⟩,
 ⟨.some 52,.iaddr .none 1 (.tmp 51) (.av (.int .i64 0)),.none,[],[]⟩,
 ⟨.some 53,.load false false 1 (.tmp 52),.none,[],[]⟩,
 ⟨.some 54,.bin .eql (.tmp 53) (.av (.str [112,117,109,112])),.none,[],[]⟩,
 ⟨.some 55,.faddr 0 (.tmp 7),.none,[],[]⟩,
 ⟨.none,.store 1 (.tmp 55) (.av (.int .i64 1)),.none,[],[2,5,8]⟩,
 ⟨.some 56,.faddr 2 (.tmp 7),.none,[],[]⟩,
 ⟨.none,.store 1 (.tmp 56) (.tmp 47),.none,[],[5,8]⟩,
 ⟨.some 57,.faddr 3 (.tmp 7),.none,[],[]⟩,
 ⟨.none,.store 1 (.tmp 57) (.tmp 50),.none,[],[8]⟩,
 ⟨.some 58,.faddr 7 (.tmp 7),.none,[],[]⟩,
 ⟨.none,.store 1 (.tmp 58) (.tmp 54),.none,[],[]⟩,
 ⟨.some 8,.mv (.av (.int .i64 4)),.none,[],[]⟩])
 (.seq (.reg false [⟨.some 60,.bin .eql (.tmp 32) (.av (.str [118,101,110,116])),.none,[],[]⟩,
 ⟨.some 59,.mv (.tmp 60),.none,[],[]⟩])
 (.cond (.tmp 59)
 (.reg true [⟨.some 61,.mv (.tmp 6),.none,[],[]⟩,
 ⟨.some 62,.iaddr .none 1 (.tmp 61) (.av (.int .i64 2)),.none,[],[]⟩,
 ⟨.some 63,.load false false 1 (.tmp 62),.none,[],[]⟩,
 ⟨.some 64,.faddr 0 (.tmp 7),.none,[],[]⟩,
 ⟨.none,.store 1 (.tmp 64) (.av (.int .i64 2)),.none,[],[2]⟩,
 ⟨.some 65,.faddr 2 (.tmp 7),.none,[],[]⟩,
 ⟨.none,.store 1 (.tmp 65) (.tmp 63),.none,[],[]⟩])
 (.seq (.reg false [⟨.some 33,.load true false 8 (.tmp 4),.none,[],[]⟩,
 ⟨.some 34,.mv (.tmp 5),.none,[],[]⟩,
 ⟨.none,.store 8 (.tmp 2) (.tmp 33),.none,[33],[]⟩,
 ⟨.some 3,.mv (.tmp 34),.none,[],[]⟩])
 .ret))))))))))
 (.cut [2,4,5,6,7,8] []
 (.seq (.reg false [⟨.some 66,.mv (.tmp 8),.none,[],[]⟩,
 ⟨.some 67,.bin .add (.tmp 66) (.av (.int .i64 1)),.none,[],[]⟩,
 ⟨.some 9,.mv (.tmp 67),.none,[],[]⟩])
 (.seq (.seq (.reg false [⟨.some 68,.faddr 0 (.tmp 7),.none,[],[]⟩,
 ⟨.some 69,.load false false 1 (.tmp 68),.none,[],[]⟩,
 ⟨.some 70,.bin .eql (.tmp 69) (.av (.int .i64 0)),.none,[],[]⟩])
 (.cond (.tmp 70)
 (.reg false [⟨.some 71,.mv (.tmp 8),.none,[],[]⟩,
 ⟨.some 72,.bin .add (.tmp 71) (.av (.int .i64 3)),.none,[],[]⟩,
 ⟨.some 9,.mv (.tmp 72),.none,[],[]⟩])
 .skip))
 (.cut [2,4,5,6,7,8,9] []
 (.seq (.seq (.reg false [⟨.some 73,.mv (.tmp 6),.none,[],[]⟩,
 ⟨.some 74,.len false (.tmp 73),.none,[],[]⟩,
 ⟨.some 75,.mv (.tmp 9),.none,[],[]⟩,
 ⟨.some 76,.bin .neq (.tmp 74) (.tmp 75),.none,[],[]⟩])
 (.cond (.tmp 76)
 (.seq (.reg false [⟨.some 77,.load true false 8 (.tmp 4),.none,[],[]⟩,
 ⟨.some 78,.mv (.tmp 5),.none,[],[]⟩,
 ⟨.none,.store 8 (.tmp 2) (.tmp 77),.none,[77],[]⟩,
 ⟨.some 3,.mv (.tmp 78),.none,[],[]⟩])
 .ret)
 .skip))
 (.cut [2,4,5,6,7,8] []
 (.seq (.reg false [⟨.some 10,.mv (.av .nils),.none,[],[]⟩])
 (.seq (.seq (.reg false [⟨.some 79,.mv (.tmp 8),.none,[],[]⟩,
 ⟨.some 11,.mv (.tmp 79),.none,[],[]⟩])
 (.block 1
 l_ref06_ParseFill_1))
 (.cut [2,4,5,6,7,10] []
 (.seq (.reg false [⟨.some 103,.mv (.tmp 6),.none,[],[]⟩,
 ⟨.some 104,.iaddr .none 1 (.tmp 103) (.av (.int .i64 1)),.none,[],[]⟩,
 ⟨.some 105,.load false false 1 (.tmp 104),.none,[],[]⟩,
 ⟨.some 106,.call (.av (.fn n_base_Number [])) [(.tmp 105),(.av (.int .i64 10))],.none,[],[]⟩,
 ⟨.some 102,.mv (.tmp 106),.none,[],[]⟩,
 ⟨.some 107,.extract (.tmp 102) 0,.none,[],[]⟩,
 ⟨.some 108,.extract (.tmp 102) 1,.none,[],[]⟩,
 ⟨.some 14,.mv (.tmp 107),.none,[],[]⟩,
 ⟨.some 15,.mv (.tmp 108),.none,[],[]⟩])
 (.seq (.seq (.reg false [⟨.some 109,.mv (.tmp 15),.none,[],[]⟩,
 ⟨.some 110,.un .not (.tmp 109),.none,[],[]⟩])
 (.cond (.tmp 110)
 (.seq (.reg false [⟨.some 111,.load true false 8 (.tmp 4),.none,[],[]⟩,
 ⟨.some 112,.mv (.tmp 5),.none,[],[]⟩,
 ⟨.none,.store 8 (.tmp 2) (.tmp 111),.none,[111],[]⟩,
 ⟨.some 3,.mv (.tmp 112),.none,[],[]⟩])
 .ret)
 .skip))
 (.cut [2,7,10,14] []
 (.seq (.reg true [⟨.some 113,.mv (.tmp 14),.none,[],[]⟩,
 ⟨.some 114,.mv (.tmp 10),.none,[],[]⟩,
 ⟨.some 115,.mv (.tmp 10),.none,[],[]⟩,
 ⟨.some 116,.len false (.tmp 115),.none,[],[]⟩,
 ⟨.some 117,.bin .sub (.tmp 116) (.av (.int .i64 1)),.none,[],[]⟩,
 ⟨.some 118,.iaddr .none 1 (.tmp 114) (.tmp 117),.none,[],[]⟩,
 ⟨.some 119,.load false false 1 (.tmp 118),.none,[],[]⟩,
 ⟨.some 120,.faddr 1 (.tmp 7),.none,[],[]⟩,
 ⟨.none,.store 1 (.tmp 120) (.tmp 113),.none,[],[6]⟩,
 ⟨.some 121,.faddr 6 (.tmp 7),.none,[],[]⟩,
 ⟨.none,.store 1 (.tmp 121) (.tmp 119),.none,[],[]⟩])
 (.seq (.seq (.reg false [⟨.some 122,.faddr 0 (.tmp 7),.none,[],[]⟩,
 ⟨.some 123,.load false false 1 (.tmp 122),.none,[],[]⟩,
 ⟨.some 124,.bin .eql (.tmp 123) (.av (.int .i64 0)),.none,[],[]⟩])
 (.cond (.tmp 124)
 (.reg true [⟨.some 125,.mv (.tmp 10),.none,[],[]⟩,
 ⟨.some 126,.iaddr .none 1 (.tmp 125) (.av (.int .i64 0)),.none,[],[]⟩,
 ⟨.some 127,.load false false 1 (.tmp 126),.none,[],[]⟩,
 ⟨.some 128,.mv (.tmp 10),.none,[],[]⟩,
 ⟨.some 129,.iaddr .none 1 (.tmp 128) (.av (.int .i64 1)),.none,[],[]⟩,
 ⟨.some 130,.load false false 1 (.tmp 129),.none,[],[]⟩,
 ⟨.some 131,.build [(.int .i64 0),(.int .i64 0)] [(0,1,(.tmp 127)),(1,1,(.tmp 130))],.none,[],[]⟩,
 ⟨.some 132,.faddr 4 (.tmp 7),.none,[],[]⟩,
 ⟨.none,.store 2 (.tmp 132) (.tmp 131),.none,[],[]⟩])
 .skip))
 (.cut [2,7] []
 (.seq (.reg false [⟨.some 133,.load true false 8 (.tmp 7),.none,[],[]⟩,
 ⟨.none,.store 8 (.tmp 2) (.tmp 133),.none,[133],[]⟩,
 ⟨.some 3,.mv (.av (.int .i64 0)),.none,[],[]⟩])
 .ret)))))))))))))))))))))))),
 [.cell true 8 2,.tmp 3], false⟩
theorem c_ref06_ParseFill : chkFunc Tryz.prog gl n_ref06_ParseFill a_ref06_ParseFill = true := by kernel_rfl
/- shotline/shotlineref06.FormatFill -/
def a_ref06_FormatFill : AFunc := ⟨63,
 (.seq (.reg false [⟨.some 1,.box true (.tmp 0),.none,[],[]⟩,
 ⟨.some 2,.mv (.av (.str [])),.none,[],[]⟩])
 (.seq (.reg true [⟨.some 6,.faddr 1 (.tmp 1),.none,[],[]⟩,
 ⟨.some 7,.load false false 1 (.tmp 6),.none,[],[]⟩,
 ⟨.some 8,.call (.av (.fn n_base_Decimal [])) [(.tmp 7)],.none,[],[]⟩,
 ⟨.some 9,.bin .add (.av (.str [32])) (.tmp 8),.none,[],[]⟩,
 ⟨.some 10,.bin .add (.tmp 9) (.av (.str [32])),.none,[],[]⟩,
 ⟨.some 11,.faddr 6 (.tmp 1),.none,[],[]⟩,
 ⟨.some 12,.load false false 1 (.tmp 11),.none,[],[]⟩,
 ⟨.some 13,.call (.av (.fn n_base_Decimal [])) [(.tmp 12)],.none,[],[]⟩,
 ⟨.some 14,.bin .add (.av (.str [32])) (.tmp 13),.none,[],[]⟩,
 ⟨.some 3,.mv (.tmp 10),.none,[],[]⟩,
 ⟨.some 4,.mv (.tmp 14),.none,[],[]⟩])
 (.seq (.seq (.reg false [⟨.some 15,.faddr 0 (.tmp 1),.none,[],[]⟩,
 ⟨.some 16,.load false false 1 (.tmp 15),.none,[],[]⟩])
 (.block 0
 (.seq (.reg false [⟨.some 18,.bin .eql (.tmp 16) (.av (.int .i64 0)),.none,[],[]⟩,
 ⟨.some 17,.mv (.tmp 18),.none,[],[]⟩])
 (.cond (.tmp 17)
 (.seq (.reg true [⟨.some 19,.mv (.tmp 3),.none,[],[]⟩,
 ⟨.some 20,.bin .add (.av (.str [105,110])) (.tmp 19),.none,[],[]⟩,
 ⟨.some 21,.faddr 3 (.tmp 1),.none,[],[]⟩,
 ⟨.some 22,.load false false 1 (.tmp 21),.none,[],[]⟩,
 ⟨.some 23,.bin .add (.tmp 20) (.tmp 22),.none,[],[]⟩,
 ⟨.some 24,.bin .add (.tmp 23) (.av (.str [32])),.none,[],[]⟩,
 ⟨.some 25,.faddr 4 (.tmp 1),.none,[],[]⟩,
 ⟨.some 26,.faddr 0 (.tmp 25),.none,[],[]⟩,
 ⟨.some 27,.load false false 1 (.tmp 26),.none,[],[]⟩,
 ⟨.some 28,.call (.av (.fn n_base_Decimal [])) [(.tmp 27)],.none,[],[]⟩,
 ⟨.some 29,.bin .add (.tmp 24) (.tmp 28),.none,[],[]⟩,
 ⟨.some 30,.bin .add (.tmp 29) (.av (.str [32])),.none,[],[]⟩,
 ⟨.some 31,.faddr 4 (.tmp 1),.none,[],[]⟩,
 ⟨.some 32,.faddr 1 (.tmp 31),.none,[],[]⟩,
 ⟨.some 33,.load false false 1 (.tmp 32),.none,[],[]⟩,
 ⟨.some 34,.call (.av (.fn n_base_Decimal [])) [(.tmp 33)],.none,[],[]⟩,
 ⟨.some 35,.bin .add (.tmp 30) (.tmp 34),.none,[],[]⟩,
 ⟨.some 36,.mv (.tmp 4),.none,[],[]⟩,
 ⟨.some 37,.bin .add (.tmp 35) (.tmp 36),.none,[],[]⟩,
 ⟨.some 2,.mv (.tmp 37),.none,[],[]⟩])
 .ret)
 (.seq (.reg false [⟨.some 39,.bin .eql (.tmp 16) (.av (.int .i64 1)),.none,[],[]⟩,
 ⟨.some 38,.mv (.tmp 39),.none,[],[]⟩])
 (.cond (.tmp 38)
 (.seq (.reg false [⟨.some 5,.mv (.av (.str [109,111,118,101])),.none,[],[]⟩])
 (.seq (.seq (.reg false [⟨.some 40,.faddr 7 (.tmp 1),.none,[],[]⟩,
 ⟨.some 41,.load false false 1 (.tmp 40),.none,[],[]⟩])
 (.cond (.tmp 41)
 (.reg false [⟨.some 5,.mv (.av (.str [112,117,109,112])),.none,[],[]⟩])
 .skip))
 (.cut [1,3,4,5] []
 (.seq (.reg false [⟨.some 42,.mv (.tmp 5),.none,[],[]⟩,
 ⟨.some 43,.mv (.tmp 3),.none,[],[]⟩,
 ⟨.some 44,.bin .add (.tmp 42) (.tmp 43),.none,[],[]⟩,
 ⟨.some 45,.faddr 2 (.tmp 1),.none,[],[]⟩,
 ⟨.some 46,.load false false 1 (.tmp 45),.none,[],[]⟩,
 ⟨.some 47,.bin .add (.tmp 44) (.tmp 46),.none,[],[]⟩,
 ⟨.some 48,.bin .add (.tmp 47) (.av (.str [32])),.none,[],[]⟩,
 ⟨.some 49,.faddr 3 (.tmp 1),.none,[],[]⟩,
 ⟨.some 50,.load false false 1 (.tmp 49),.none,[],[]⟩,
 ⟨.some 51,.bin .add (.tmp 48) (.tmp 50),.none,[],[]⟩,
 ⟨.some 52,.mv (.tmp 4),.none,[],[]⟩,
 ⟨.some 53,.bin .add (.tmp 51) (.tmp 52),.none,[],[]⟩,
 ⟨.some 2,.mv (.tmp 53),.none,[],[]⟩])
 .ret))))
 (.seq (.reg false [⟨.some 55,.bin .eql (.tmp 16) (.av (.int .i64 2)),.none,[],[]⟩,
 ⟨.some 54,.mv (.tmp 55),.none,[],[]⟩])
 (.cond (.tmp 54)
 (.seq (.reg false [⟨.some 56,.mv (.tmp 3),.none,[],[]⟩,
 ⟨.some 57,.bin .add (.av (.str [118,101,110,116])) (.tmp 56),.none,[],[]⟩,
 ⟨.some 58,.faddr 2 (.tmp 1),.none,[],[]⟩,
 ⟨.some 59,.load false false 1 (.tmp 58),.none,[],[]⟩,
 ⟨.some 60,.bin .add (.tmp 57) (.tmp 59),.none,[],[]⟩,
 ⟨.some 61,.mv (.tmp 4),.none,[],[]⟩,
 ⟨.some 62,.bin .add (.tmp 60) (.tmp 61),.none,[],[]⟩,
 ⟨.some 2,.mv (.tmp 62),.none,[],[]⟩])
 .ret)
 .skip))))))))
 (.cut [] []
 (.seq (.reg false [⟨.some 2,.mv (.av (.str [])),.none,[],[]⟩])
 .ret))))),
 [.tmp 2], false⟩
theorem c_ref06_FormatFill : chkFunc Tryz.prog gl n_ref06_FormatFill a_ref06_FormatFill = true := by kernel_rfl
/- shotline/shotlineref06.CheckFill -/
def a_ref06_CheckFill : AFunc := ⟨76,
 (.seq (.reg false [⟨.some 1,.box true (.tmp 0),.none,[],[]⟩,
 ⟨.some 2,.mv (.av (.int .i64 0)),.none,[],[]⟩])
 (.seq (.seq (.reg false [⟨.some 3,.faddr 0 (.tmp 1),.none,[],[]⟩,
 ⟨.some 4,.load false false 1 (.tmp 3),.none,[],[]⟩,
 ⟨.some 5,.call (.av (.fn n_base_Within [])) [(.tmp 4),(.av (.int .i64 0)),(.av (.int .i64 2))],.none,[],[]⟩,
 ⟨.some 6,.un .not (.tmp 5),.none,[],[]⟩])
 (.cond (.tmp 6)
 (.seq (.reg false [⟨.some 2,.mv (.av (.int .i64 15)),.none,[],[]⟩])
 .ret)
 .skip))
 (.cut [1] []
 (.seq (.seq (.reg false [⟨.some 7,.faddr 1 (.tmp 1),.none,[],[]⟩,
 ⟨.some 8,.load false false 1 (.tmp 7),.none,[],[]⟩,
 ⟨.some 9,.call (.av (.fn n_base_Within [])) [(.tmp 8),(.av (.int .i64 0)),(.av (.int .i64 100000))],.none,[],[]⟩,
 ⟨.some 10,.un .not (.tmp 9),.none,[],[]⟩,
 ⟨.some 11,.mv (.tmp 10),.none,[],[]⟩,
 ⟨.some 12,.faddr 6 (.tmp 1),.some (11,false),[],[]⟩,
 ⟨.some 13,.load false false 1 (.tmp 12),.some (11,false),[],[]⟩,
 ⟨.some 14,.call (.av (.fn n_base_Within [])) [(.tmp 13),(.av (.int .i64 1)),(.av (.int .i64 1000000000))],.some (11,false),[],[]⟩,
 ⟨.some 15,.un .not (.tmp 14),.some (11,false),[],[]⟩,
 ⟨.some 16,.pick (.tmp 11) (.av (.bool true)) (.tmp 15),.none,[],[]⟩])
 (.cond (.tmp 16)
 (.seq (.reg false [⟨.some 2,.mv (.av (.int .i64 2)),.none,[],[]⟩])
 .ret)
 .skip))
 (.cut [1] []
 (.seq (.seq (.reg false [⟨.some 17,.faddr 0 (.tmp 1),.none,[],[]⟩,
 ⟨.some 18,.load false false 1 (.tmp 17),.none,[],[]⟩,
 ⟨.some 19,.bin .eql (.tmp 18) (.av (.int .i64 0)),.none,[],[]⟩,
 ⟨.some 20,.mv (.tmp 19),.none,[],[]⟩,
 ⟨.some 21,.faddr 4 (.tmp 1),.some (20,true),[],[]⟩,
 ⟨.some 22,.load true false 2 (.tmp 21),.some (20,true),[],[]⟩,
 ⟨.some 23,.call (.av (.fn n_ref01_CheckGas [])) [(.tmp 22)],.some (20,true),[],[]⟩,
 ⟨.some 24,.bin .neq (.tmp 23) (.av (.int .i64 0)),.some (20,true),[],[]⟩,
 ⟨.some 25,.pick (.tmp 20) (.tmp 24) (.av (.bool false)),.none,[],[]⟩,
 ⟨.some 26,.mv (.tmp 25),.none,[],[]⟩,
 ⟨.some 27,.faddr 0 (.tmp 1),.some (26,false),[],[]⟩,
 ⟨.some 28,.load false false 1 (.tmp 27),.some (26,false),[],[]⟩,
 ⟨.some 29,.bin .neq (.tmp 28) (.av (.int .i64 0)),.some (26,false),[],[]⟩,
 ⟨.some 30,.mv (.tmp 29),.some (26,false),[],[]⟩,
 ⟨.some 31,.faddr 4 (.tmp 1),.some (30,true),[],[]⟩,
 ⟨.some 32,.load true false 2 (.tmp 31),.some (30,true),[],[]⟩,
 ⟨.some 33,.build [(.int .i64 0),(.int .i64 0)] [],.some (30,true),[],[]⟩,
 ⟨.some 34,.eq (.agg [.i,.i]) true (.tmp 32) (.tmp 33),.some (30,true),[],[]⟩,
 ⟨.some 35,.pick (.tmp 30) (.tmp 34) (.av (.bool false)),.some (26,false),[],[]⟩,
 ⟨.some 36,.pick (.tmp 26) (.av (.bool true)) (.tmp 35),.none,[],[]⟩])
 (.cond (.tmp 36)
 (.seq (.reg false [⟨.some 2,.mv (.av (.int .i64 2)),.none,[],[]⟩])
 .ret)
 .skip))
 (.cut [1] []
 (.seq (.seq (.reg false [⟨.some 37,.faddr 0 (.tmp 1),.none,[],[]⟩,
 ⟨.some 38,.load false false 1 (.tmp 37),.none,[],[]⟩,
 ⟨.some 39,.bin .eql (.tmp 38) (.av (.int .i64 0)),.none,[],[]⟩,
 ⟨.some 40,.mv (.tmp 39),.none,[],[]⟩,
 ⟨.some 41,.faddr 2 (.tmp 1),.some (40,true),[],[]⟩,
 ⟨.some 42,.load false false 1 (.tmp 41),.some (40,true),[],[]⟩,
 ⟨.some 43,.bin .neq (.tmp 42) (.av (.str [])),.some (40,true),[],[]⟩,
 ⟨.some 44,.pick (.tmp 40) (.tmp 43) (.av (.bool false)),.none,[],[]⟩,
 ⟨.some 45,.mv (.tmp 44),.none,[],[]⟩,
 ⟨.some 46,.faddr 0 (.tmp 1),.some (45,false),[],[]⟩,
 ⟨.some 47,.load false false 1 (.tmp 46),.some (45,false),[],[]⟩,
 ⟨.some 48,.bin .eql (.tmp 47) (.av (.int .i64 2)),.some (45,false),[],[]⟩,
 ⟨.some 49,.mv (.tmp 48),.some (45,false),[],[]⟩,
 ⟨.some 50,.faddr 3 (.tmp 1),.some (49,true),[],[]⟩,
 ⟨.some 51,.load false false 1 (.tmp 50),.some (49,true),[],[]⟩,
 ⟨.some 52,.bin .neq (.tmp 51) (.av (.str [])),.some (49,true),[],[]⟩,
 ⟨.some 53,.pick (.tmp 49) (.tmp 52) (.av (.bool false)),.some (45,false),[],[]⟩,
 ⟨.some 54,.pick (.tmp 45) (.av (.bool true)) (.tmp 53),.none,[],[]⟩,
 ⟨.some 55,.mv (.tmp 54),.none,[],[]⟩,
 ⟨.some 56,.faddr 0 (.tmp 1),.some (55,false),[],[]⟩,
 ⟨.some 57,.load false false 1 (.tmp 56),.some (55,false),[],[]⟩,
 ⟨.some 58,.bin .eql (.tmp 57) (.av (.int .i64 1)),.some (55,false),[],[]⟩,
 ⟨.some 59,.mv (.tmp 58),.some (55,false),[],[]⟩,
 ⟨.some 60,.faddr 2 (.tmp 1),.some (59,true),[],[]⟩,
 ⟨.some 61,.load false false 1 (.tmp 60),.some (59,true),[],[]⟩,
 ⟨.some 62,.faddr 3 (.tmp 1),.some (59,true),[],[]⟩,
 ⟨.some 63,.load false false 1 (.tmp 62),.some (59,true),[],[]⟩,
 ⟨.some 64,.bin .eql (.tmp 61) (.tmp 63),.some (59,true),[],[]⟩,
 ⟨.some 65,.pick (.tmp 59) (.tmp 64) (.av (.bool false)),.some (55,false),[],[]⟩,
 ⟨.some 66,.pick (.tmp 55) (.av (.bool true)) (.tmp 65),.none,[],[]⟩,
 ⟨.some 67,.mv (.tmp 66),.none,[],[]⟩,
 ⟨.some 68,.faddr 0 (.tmp 1),.some (67,false),[],[]⟩,
 ⟨.some 69,.load false false 1 (.tmp 68),.some (67,false),[],[]⟩,
 ⟨.some 70,.bin .neq (.tmp 69) (.av (.int .i64 1)),.some (67,false),[],[]⟩,
 ⟨.some 71,.mv (.tmp 70),.some (67,false),[],[]⟩,
 ⟨.some 72,.faddr 7 (.tmp 1),.some (71,true),[],[]⟩,
 ⟨.some 73,.load false false 1 (.tmp 72),.some (71,true),[],[]⟩,
 ⟨.some 74,.pick (.tmp 71) (.tmp 73) (.av (.bool false)),.some (67,false),[],[]⟩,
 ⟨.some 75,.pick (.tmp 67) (.av (.bool true)) (.tmp 74),.none,[],[]⟩])
 (.cond (.tmp 75)
 (.seq (.reg false [⟨.some 2,.mv (.av (.int .i64 3)),.none,[],[]⟩])
 .ret)
 .skip))
 (.cut [] []
 (.seq (.reg false [⟨.some 2,.mv (.av (.int .i64 0)),.none,[],[]⟩])
 .ret)))))))))),
 [.tmp 2], false⟩
theorem c_ref06_CheckFill : chkFunc Tryz.prog gl n_ref06_CheckFill a_ref06_CheckFill = true := by kernel_rfl
/- shotline/shotlinebase.Cut -/
def b_base_Cut_1 : ACode :=
 (.seq (.seq (.reg false [⟨.some 8,.mv (.tmp 7),.none,[],[]⟩,
 ⟨.some 9,.mv (.tmp 0),.none,[],[]⟩,
 ⟨.some 10,.len true (.tmp 9),.none,[],[]⟩,
 ⟨.some 11,.bin .lss (.tmp 8) (.tmp 10),.none,[],[]⟩])
 (.cond (.tmp 11)
 .skip
 (.exit 0)))
 (.cut [0,1,5,6,7] []
 (.seq (.block 1
 (.seq (.reg false [⟨.some 14,.mv (.tmp 0),.none,[],[]⟩,
 ⟨.some 15,.mv (.tmp 7),.none,[],[]⟩,
 ⟨.some 16,.ixstr (.tmp 14) (.tmp 15),.none,[],[]⟩,
 ⟨.some 17,.mv (.tmp 1),.none,[],[]⟩,
 ⟨.some 18,.bin .eql (.tmp 16) (.tmp 17),.none,[],[]⟩])
 (.cond (.tmp 18)
 (.seq (.reg false [⟨.some 19,.mv (.tmp 5),.none,[5],[]⟩,
 ⟨.some 20,.mv (.tmp 0),.none,[],[]⟩,
 ⟨.some 21,.mv (.tmp 6),.none,[],[]⟩,
 ⟨.some 22,.mv (.tmp 7),.none,[],[]⟩,
 ⟨.some 23,.slice .str (.tmp 20) (.some (.tmp 21)) (.some (.tmp 22)) .none,.none,[],[]⟩,
 ⟨.some 24,.bslice true 1 1 [(.str [])] [(0,(.tmp 23))],.none,[],[]⟩,
 ⟨.some 25,.append 1 16 (.tmp 19) (.tmp 24),.none,[19],[]⟩,
 ⟨.some 5,.mv (.tmp 25),.none,[25],[]⟩])
 (.reg false [⟨.some 26,.mv (.tmp 7),.none,[],[]⟩,
 ⟨.some 27,.bin .add (.tmp 26) (.av (.int .i64 1)),.none,[],[]⟩,
 ⟨.some 6,.mv (.tmp 27),.none,[],[]⟩]))
 .skip)))
 (.cut [0,1,5,6,7] []
 (.reg false [⟨.some 12,.mv (.tmp 7),.none,[],[]⟩,
 ⟨.some 13,.bin .add (.tmp 12) (.av (.int .i64 1)),.none,[],[]⟩,
 ⟨.some 7,.mv (.tmp 13),.none,[],[]⟩])))))
def l_base_Cut_1 : ACode := .loop (.cut [0,1,5,6,7] [] b_base_Cut_1)
def a_base_Cut : AFunc := ⟨34,
 (.seq (.reg false [⟨.some 4,.mv (.av .nils),.none,[],[]⟩])
 (.seq (.reg false [⟨.some 5,.mv (.av .nils),.none,[],[]⟩])
 (.seq (.reg false [⟨.some 6,.mv (.av (.int .i64 0)),.none,[],[]⟩])
 (.seq (.seq (.reg false [⟨.some 7,.mv (.av (.int .i64 0)),.none,[],[]⟩])
 (.block 0
 l_base_Cut_1))
 (.cut [0,5,6] []
 (.seq (.reg false [⟨.some 28,.mv (.tmp 5),.none,[5],[]⟩,
 ⟨.some 29,.mv (.tmp 0),.none,[],[]⟩,
 ⟨.some 30,.mv (.tmp 6),.none,[],[]⟩,
 ⟨.some 31,.slice .str (.tmp 29) (.some (.tmp 30)) .none .none,.none,[],[]⟩,
 ⟨.some 32,.bslice true 1 1 [(.str [])] [(0,(.tmp 31))],.none,[],[]⟩,
 ⟨.some 33,.append 1 16 (.tmp 28) (.tmp 32),.none,[28],[]⟩,
 ⟨.some 4,.mv (.tmp 33),.none,[33],[]⟩])
 .ret)))))),
 [.tmp 4], false⟩
theorem c_base_Cut : chkFunc Tryz.prog gl n_base_Cut a_base_Cut = true := by kernel_rfl
/- shotline/mix.PressureOf -/
def a_mix_PressureOf : AFunc := ⟨28,
 (.seq (.reg false [⟨.some 6,.alloc [(.int .i64 0),(.int .i64 0)],.none,[],[]⟩,
 ⟨.some 7,.mv (.av (.int .i64 0)),.none,[],[]⟩])
 (.seq (.reg false [⟨.some 12,.mv (.tmp 0),.none,[],[]⟩,
 ⟨.some 13,.mv (.tmp 1),.none,[],[]⟩,
 ⟨.some 14,.mv (.tmp 2),.none,[],[]⟩,
 ⟨.some 15,.call (.av (.fn n_mix_held [])) [(.tmp 12),(.tmp 13),(.tmp 14)],.none,[],[]⟩,
 ⟨.some 11,.mv (.tmp 15),.none,[],[]⟩,
 ⟨.some 16,.extract (.tmp 11) 0,.none,[],[]⟩,
 ⟨.some 17,.extract (.tmp 11) 1,.none,[],[]⟩,
 ⟨.some 18,.extract (.tmp 11) 2,.none,[],[]⟩,
 ⟨.some 8,.alloc [(.int .i64 0),(.int .i64 0),(.int .i64 0)],.none,[],[]⟩,
 ⟨.none,.store 3 (.tmp 8) (.tmp 16),.none,[16],[]⟩,
 ⟨.some 9,.mv (.tmp 17),.none,[],[]⟩,
 ⟨.some 10,.mv (.tmp 18),.none,[],[]⟩])
 (.seq (.seq (.reg false [⟨.some 19,.mv (.tmp 10),.none,[],[]⟩,
 ⟨.some 20,.bin .neq (.tmp 19) (.av (.int .i64 0)),.none,[],[]⟩])
 (.cond (.tmp 20)
 (.seq (.reg false [⟨.some 21,.build [(.int .i64 0),(.int .i64 0)] [],.none,[],[]⟩,
 ⟨.some 22,.mv (.tmp 10),.none,[],[]⟩,
 ⟨.none,.store 2 (.tmp 6) (.tmp 21),.none,[21],[]⟩,
 ⟨.some 7,.mv (.tmp 22),.none,[],[]⟩])
 .ret)
 .skip))
 (.cut [6,8,9] []
 (.seq (.reg false [⟨.some 23,.load true false 3 (.tmp 8),.none,[],[]⟩,
 ⟨.some 24,.call (.av (.fn n_mix_gases_sum [])) [(.tmp 23)],.none,[],[]⟩,
 ⟨.some 25,.bin .mul (.av (.int .i64 1000)) (.tmp 24),.none,[],[]⟩,
 ⟨.some 26,.mv (.tmp 9),.none,[],[]⟩,
 ⟨.some 27,.call (.av (.fn n_mix_rounded [])) [(.tmp 25),(.tmp 26)],.none,[],[]⟩,
 ⟨.none,.store 2 (.tmp 6) (.tmp 27),.none,[27],[]⟩,
 ⟨.some 7,.mv (.av (.int .i64 0)),.none,[],[]⟩])
 .ret))))),
 [.cell true 2 6,.tmp 7], false⟩
theorem c_mix_PressureOf : chkFunc Tryz.prog gl n_mix_PressureOf a_mix_PressureOf = true := by kernel_rfl
/- shotline/shotlinelaw06.Room -/
def a_law06_Room : AFunc := ⟨4,
 (.seq (.reg false [⟨.some 0,.mv (.av .nils),.none,[],[]⟩])
 (.seq (.reg false [⟨.some 1,.build [(.str []),(.int .i64 0),(.int .i64 0)] [(0,1,(.av (.str [98,97,110,107]))),(1,1,(.av (.int .i64 50000))),(2,1,(.av (.int .i64 300000)))],.none,[],[]⟩,
 ⟨.some 2,.build [(.str []),(.int .i64 0),(.int .i64 0)] [(0,1,(.av (.str [115,49,50]))),(1,1,(.av (.int .i64 12000))),(2,1,(.av (.int .i64 232000)))],.none,[],[]⟩,
 ⟨.some 3,.bslice true 3 2 [(.str []),(.int .i64 0),(.int .i64 0)] [(0,(.tmp 1)),(1,(.tmp 2))],.none,[],[]⟩,
 ⟨.some 0,.mv (.tmp 3),.none,[3],[]⟩])
 .ret)),
 [.tmp 0], false⟩
theorem c_law06_Room : chkFunc Tryz.prog gl n_law06_Room a_law06_Room = true := by kernel_rfl
/- shotline/shotlinelaw06.Diary -/
def a_law06_Diary : AFunc := ⟨5,
 (.seq (.reg false [⟨.some 0,.mv (.av .nils),.none,[],[]⟩])
 (.seq (.reg false [⟨.some 1,.build [(.int .i64 0),(.int .i64 0)] [(0,1,(.av (.int .i64 210)))],.none,[],[]⟩,
 ⟨.some 2,.build [(.int .i64 0),(.int .i64 0),(.str []),(.str []),(.int .i64 0),(.int .i64 0),(.int .i64 0),(.bool false)] [(0,1,(.av (.int .i64 0))),(1,1,(.av (.int .i64 1))),(3,1,(.av (.str [98,97,110,107]))),(4,2,(.tmp 1)),(6,1,(.av (.int .i64 10000000)))],.none,[],[]⟩,
 ⟨.some 3,.build [(.int .i64 0),(.int .i64 0),(.str []),(.str []),(.int .i64 0),(.int .i64 0),(.int .i64 0),(.bool false)] [(0,1,(.av (.int .i64 1))),(1,1,(.av (.int .i64 1))),(2,1,(.av (.str [98,97,110,107]))),(3,1,(.av (.str [115,49,50]))),(6,1,(.av (.int .i64 1900000)))],.none,[],[]⟩,
 ⟨.some 4,.bslice true 8 2 [(.int .i64 0),(.int .i64 0),(.str []),(.str []),(.int .i64 0),(.int .i64 0),(.int .i64 0),(.bool false)] [(0,(.tmp 2)),(1,(.tmp 3))],.none,[],[]⟩,
 ⟨.some 0,.mv (.tmp 4),.none,[4],[]⟩])
 .ret)),
 [.tmp 0], false⟩
theorem c_law06_Diary : chkFunc Tryz.prog gl n_law06_Diary a_law06_Diary = true := by kernel_rfl
/- shotline/mix.CheckPlan -/
def a_mix_CheckPlan : AFunc := ⟨21,
 (.seq (.reg false [⟨.some 2,.box true (.tmp 0),.none,[],[]⟩,
 ⟨.some 3,.box true (.tmp 1),.none,[],[]⟩,
 ⟨.some 4,.mv (.av (.int .i64 0)),.none,[],[]⟩,
 ⟨.some 5,.mv (.av (.int .i64 0)),.none,[],[]⟩])
 (.seq (.reg false [⟨.some 9,.load true false 9 (.tmp 2),.none,[],[]⟩,
 ⟨.some 10,.call (.av (.fn n_mix_ask [])) [(.tmp 9)],.none,[],[]⟩,
 ⟨.some 8,.mv (.tmp 10),.none,[],[]⟩,
 ⟨.some 11,.extract (.tmp 8) 0,.none,[],[]⟩,
 ⟨.some 12,.extract (.tmp 8) 1,.none,[],[]⟩,
 ⟨.some 6,.mv (.tmp 11),.none,[],[]⟩,
 ⟨.some 7,.mv (.tmp 12),.none,[],[]⟩])
 (.seq (.seq (.reg false [⟨.some 13,.mv (.tmp 7),.none,[],[]⟩,
 ⟨.some 14,.bin .neq (.tmp 13) (.av (.int .i64 0)),.none,[],[]⟩])
 (.cond (.tmp 14)
 (.seq (.reg false [⟨.some 15,.mv (.tmp 7),.none,[],[]⟩,
 ⟨.some 4,.mv (.av (.int .i64 0)),.none,[],[]⟩,
 ⟨.some 5,.mv (.tmp 15),.none,[],[]⟩])
 .ret)
 .skip))
 (.cut [3,6] []
 (.seq (.reg false [⟨.some 16,.mv (.tmp 6),.none,[],[]⟩,
 ⟨.some 17,.load true false 2 (.tmp 3),.none,[],[]⟩,
 ⟨.some 18,.call (.av (.fn n_mix_asked_cost [])) [(.tmp 16),(.tmp 17)],.none,[],[]⟩,
 ⟨.some 19,.extract (.tmp 18) 0,.none,[],[]⟩,
 ⟨.some 20,.extract (.tmp 18) 1,.none,[],[]⟩,
 ⟨.some 4,.mv (.tmp 19),.none,[],[]⟩,
 ⟨.some 5,.mv (.tmp 20),.none,[],[]⟩])
 .ret))))),
 [.tmp 4,.tmp 5], false⟩
theorem c_mix_CheckPlan : chkFunc Tryz.prog gl n_mix_CheckPlan a_mix_CheckPlan = true := by kernel_rfl
/- shotline/shotlinelaw06.Nitrox -/
def a_law06_Nitrox : AFunc := ⟨9,
 (.seq (.reg false [⟨.some 0,.alloc [.nils,(.int .i64 0),(.int .i64 0),(.int .i64 0),(.int .i64 0),(.int .i64 0),(.int .i64 0),(.int .i64 0),(.int .i64 0)],.none,[],[]⟩])
 (.seq (.reg false [⟨.some 1,.build [(.int .i64 0),(.int .i64 0)] [(0,1,(.av (.int .i64 210)))],.none,[],[]⟩,
 ⟨.some 2,.build [(.str []),(.int .i64 0),(.int .i64 0),(.int .i64 0),(.int .i64 0)] [(0,1,(.av (.str [97,105,114]))),(1,2,(.tmp 1)),(3,1,(.av (.int .i64 2))),(4,1,(.av (.int .i64 10000)))],.none,[],[]⟩,
 ⟨.some 3,.build [(.int .i64 0),(.int .i64 0)] [(0,1,(.av (.int .i64 1000)))],.none,[],[]⟩,
 ⟨.some 4,.build [(.str []),(.int .i64 0),(.int .i64 0),(.int .i64 0),(.int .i64 0)] [(0,1,(.av (.str [111,50]))),(1,2,(.tmp 3)),(3,1,(.av (.int .i64 50))),(4,1,(.av (.int .i64 5000)))],.none,[],[]⟩,
 ⟨.some 5,.bslice true 5 2 [(.str []),(.int .i64 0),(.int .i64 0),(.int .i64 0),(.int .i64 0)] [(0,(.tmp 2)),(1,(.tmp 4))],.none,[],[]⟩,
 ⟨.some 6,.build [(.int .i64 0),(.int .i64 0)] [(0,1,(.av (.int .i64 320))),(1,1,(.av (.int .i64 340)))],.none,[],[]⟩,
 ⟨.some 7,.build [(.int .i64 0),(.int .i64 0)] [(0,1,(.av (.int .i64 0))),(1,1,(.av (.int .i64 0)))],.none,[],[]⟩,
 ⟨.some 8,.build [.nils,(.int .i64 0),(.int .i64 0),(.int .i64 0),(.int .i64 0),(.int .i64 0),(.int .i64 0),(.int .i64 0),(.int .i64 0)] [(0,1,(.tmp 5)),(4,1,(.av (.int .i64 790))),(5,2,(.tmp 6)),(7,2,(.tmp 7))],.none,[],[]⟩,
 ⟨.none,.store 9 (.tmp 0) (.tmp 8),.none,[8],[]⟩])
 .ret)),
 [.cell true 9 0], false⟩
theorem c_law06_Nitrox : chkFunc Tryz.prog gl n_law06_Nitrox a_law06_Nitrox = true := by kernel_rfl
/- shotline/mix.Share -/
def a_mix_Share : AFunc := ⟨26,
 (.seq (.reg false [⟨.some 2,.box true (.tmp 0),.none,[],[]⟩,
 ⟨.some 4,.alloc [(.int .i64 0),(.int .i64 0),(.int .i64 0)],.none,[],[]⟩,
 ⟨.some 5,.mv (.av (.int .i64 0)),.none,[],[]⟩])
 (.seq (.seq (.reg false [⟨.some 8,.load true false 3 (.tmp 2),.none,[],[]⟩,
 ⟨.some 9,.call (.av (.fn n_mix_checkContent [])) [(.tmp 8)],.none,[],[]⟩,
 ⟨.some 6,.mv (.tmp 9),.none,[],[]⟩])
 (.seq (.reg false [⟨.some 10,.mv (.tmp 6),.none,[],[]⟩,
 ⟨.some 11,.bin .neq (.tmp 10) (.av (.int .i64 0)),.none,[],[]⟩])
 (.cond (.tmp 11)
 (.seq (.reg false [⟨.some 12,.build [(.int .i64 0),(.int .i64 0),(.int .i64 0)] [],.none,[],[]⟩,
 ⟨.some 13,.mv (.tmp 6),.none,[],[]⟩,
 ⟨.none,.store 3 (.tmp 4) (.tmp 12),.none,[12],[]⟩,
 ⟨.some 5,.mv (.tmp 13),.none,[],[]⟩])
 .ret)
 .skip)))
 (.cut [1,2,4] []
 (.seq (.reg false [⟨.some 14,.load true false 3 (.tmp 2),.none,[],[]⟩,
 ⟨.some 15,.call (.av (.fn n_mix_gasesOf [])) [(.tmp 14)],.none,[],[]⟩,
 ⟨.some 7,.alloc [(.int .i64 0),(.int .i64 0),(.int .i64 0)],.none,[],[]⟩,
 ⟨.none,.store 3 (.tmp 7) (.tmp 15),.none,[15],[]⟩])
 (.seq (.seq (.reg false [⟨.some 16,.mv (.tmp 1),.none,[],[]⟩,
 ⟨.some 17,.load true false 3 (.tmp 7),.none,[],[]⟩,
 ⟨.some 18,.call (.av (.fn n_mix_gases_sum [])) [(.tmp 17)],.none,[],[]⟩,
 ⟨.some 19,.call (.av (.fn n_mix_within [])) [(.tmp 16),(.av (.int .i64 0)),(.tmp 18)],.none,[],[]⟩,
 ⟨.some 20,.un .not (.tmp 19),.none,[],[]⟩])
 (.cond (.tmp 20)
 (.seq (.reg false [⟨.some 21,.build [(.int .i64 0),(.int .i64 0),(.int .i64 0)] [],.none,[],[]⟩,
 ⟨.none,.store 3 (.tmp 4) (.tmp 21),.none,[21],[]⟩,
 ⟨.some 5,.mv (.av (.int .i64 2)),.none,[],[]⟩])
 .ret)
 .skip))
 (.cut [1,4,7] []
 (.seq (.reg false [⟨.some 22,.load true false 3 (.tmp 7),.none,[],[]⟩,
 ⟨.some 23,.mv (.tmp 1),.none,[],[]⟩,
 ⟨.some 24,.call (.av (.fn n_mix_gases_share [])) [(.tmp 22),(.tmp 23)],.none,[],[]⟩,
 ⟨.some 25,.call (.av (.fn n_mix_gases_content [])) [(.tmp 24)],.none,[],[]⟩,
 ⟨.none,.store 3 (.tmp 4) (.tmp 25),.none,[25],[]⟩,
 ⟨.some 5,.mv (.av (.int .i64 0)),.none,[],[]⟩])
 .ret))))))),
 [.cell true 3 4,.tmp 5], false⟩
theorem c_mix_Share : chkFunc Tryz.prog gl n_mix_Share a_mix_Share = true := by kernel_rfl
/- shotline/mix.fillOf -/
def a_mix_fillOf : AFunc := ⟨104,
 (.seq (.reg false [⟨.some 2,.alloc [(.int .i64 0),(.int .i64 0),(.str []),(.str []),(.int .i64 0),(.int .i64 0),(.int .i64 0),(.bool false)],.none,[],[]⟩,
 ⟨.some 3,.mv (.av (.bool false)),.none,[],[]⟩])
 (.seq (.block 0
 (.seq (.reg false [⟨.some 5,.mv (.tmp 0),.none,[],[]⟩,
 ⟨.some 6,.iaddr .none 1 (.tmp 5) (.av (.int .i64 0)),.none,[],[]⟩,
 ⟨.some 7,.load false false 1 (.tmp 6),.none,[],[]⟩,
 ⟨.some 8,.bin .eql (.tmp 7) (.av (.str [105,110])),.none,[],[]⟩,
 ⟨.some 9,.mv (.tmp 8),.none,[],[]⟩,
 ⟨.some 10,.mv (.tmp 0),.some (9,true),[],[]⟩,
 ⟨.some 11,.len false (.tmp 10),.some (9,true),[],[]⟩,
 ⟨.some 12,.bin .eql (.tmp 11) (.av (.int .i64 6)),.some (9,true),[],[]⟩,
 ⟨.some 13,.pick (.tmp 9) (.tmp 12) (.av (.bool false)),.none,[],[]⟩,
 ⟨.some 4,.mv (.tmp 13),.none,[],[]⟩])
 (.cond (.tmp 4)
 (.seq (.reg false [⟨.some 14,.mv (.tmp 0),.none,[],[]⟩,
 ⟨.some 15,.iaddr .none 1 (.tmp 14) (.av (.int .i64 2)),.none,[],[]⟩,
 ⟨.some 16,.load false false 1 (.tmp 15),.none,[],[]⟩,
 ⟨.some 17,.faddr 3 (.tmp 2),.none,[],[]⟩,
 ⟨.none,.store 1 (.tmp 17) (.tmp 16),.none,[16],[]⟩])
 (.reg false [⟨.some 18,.mv (.tmp 0),.none,[],[]⟩,
 ⟨.some 19,.iaddr .none 1 (.tmp 18) (.av (.int .i64 3)),.none,[],[]⟩,
 ⟨.some 20,.load false false 1 (.tmp 19),.none,[],[]⟩,
 ⟨.some 21,.faddr 4 (.tmp 2),.none,[],[]⟩,
 ⟨.some 22,.faddr 0 (.tmp 21),.none,[],[]⟩,
 ⟨.some 23,.call (.av (.fn n_mix_number [])) [(.tmp 20),(.tmp 22)],.none,[],[]⟩,
 ⟨.some 24,.mv (.tmp 23),.none,[],[]⟩,
 ⟨.some 25,.mv (.tmp 0),.some (24,true),[],[]⟩,
 ⟨.some 26,.iaddr .none 1 (.tmp 25) (.av (.int .i64 4)),.some (24,true),[],[]⟩,
 ⟨.some 27,.load false false 1 (.tmp 26),.some (24,true),[],[]⟩,
 ⟨.some 28,.faddr 4 (.tmp 2),.some (24,true),[],[]⟩,
 ⟨.some 29,.faddr 1 (.tmp 28),.some (24,true),[],[]⟩,
 ⟨.some 30,.call (.av (.fn n_mix_number [])) [(.tmp 27),(.tmp 29)],.some (24,true),[],[]⟩,
 ⟨.some 31,.pick (.tmp 24) (.tmp 30) (.av (.bool false)),.none,[],[]⟩,
 ⟨.some 32,.mv (.tmp 31),.none,[],[]⟩,
 ⟨.some 33,.mv (.tmp 0),.some (32,true),[],[]⟩,
 ⟨.some 34,.iaddr .none 1 (.tmp 33) (.av (.int .i64 5)),.some (32,true),[],[]⟩,
 ⟨.some 35,.load false false 1 (.tmp 34),.some (32,true),[],[]⟩,
 ⟨.some 36,.faddr 6 (.tmp 2),.some (32,true),[],[]⟩,
 ⟨.some 37,.call (.av (.fn n_mix_number [])) [(.tmp 35),(.tmp 36)],.some (32,true),[],[]⟩,
 ⟨.some 38,.pick (.tmp 32) (.tmp 37) (.av (.bool false)),.none,[],[]⟩,
 ⟨.some 3,.mv (.tmp 38),.none,[],[]⟩]))
 (.seq (.reg false [⟨.some 40,.mv (.tmp 0),.none,[],[]⟩,
 ⟨.some 41,.iaddr .none 1 (.tmp 40) (.av (.int .i64 0)),.none,[],[]⟩,
 ⟨.some 42,.load false false 1 (.tmp 41),.none,[],[]⟩,
 ⟨.some 43,.bin .eql (.tmp 42) (.av (.str [109,111,118,101])),.none,[],[]⟩,
 ⟨.some 44,.mv (.tmp 43),.none,[],[]⟩,
 ⟨.some 45,.mv (.tmp 0),.some (44,false),[],[]⟩,
 ⟨.some 46,.iaddr .none 1 (.tmp 45) (.av (.int .i64 0)),.some (44,false),[],[]⟩,
 ⟨.some 47,.load false false 1 (.tmp 46),.some (44,false),[],[]⟩,
 ⟨.some 48,.bin .eql (.tmp 47) (.av (.str [112,117,109,112])),.some (44,false),[],[]⟩,
 ⟨.some 49,.pick (.tmp 44) (.av (.bool true)) (.tmp 48),.none,[],[]⟩,
 ⟨.some 50,.mv (.tmp 49),.none,[],[]⟩,
 ⟨.some 51,.mv (.tmp 0),.some (50,true),[],[]⟩,
 ⟨.some 52,.len false (.tmp 51),.some (50,true),[],[]⟩,
 ⟨.some 53,.bin .eql (.tmp 52) (.av (.int .i64 5)),.some (50,true),[],[]⟩,
 ⟨.some 54,.pick (.tmp 50) (.tmp 53) (.av (.bool false)),.none,[],[]⟩,
 ⟨.some 39,.mv (.tmp 54),.none,[],[]⟩])
 (.cond (.tmp 39)
 (.seq (.reg true [⟨.some 55,.mv (.tmp 0),.none,[],[]⟩,
 ⟨.some 56,.iaddr .none 1 (.tmp 55) (.av (.int .i64 2)),.none,[],[]⟩,
 ⟨.some 57,.load false false 1 (.tmp 56),.none,[],[]⟩,
 ⟨.some 58,.mv (.tmp 0),.none,[],[]⟩,
 ⟨.some 59,.iaddr .none 1 (.tmp 58) (.av (.int .i64 3)),.none,[],[]⟩,
 ⟨.some 60,.load false false 1 (.tmp 59),.none,[],[]⟩,
 ⟨.some 61,.mv (.tmp 0),.none,[],[]⟩,
 ⟨.some 62,.iaddr .none 1 (.tmp 61) (.av (.int .i64 0)),.none,[],[]⟩,
 ⟨.some 63,.load false false 1 (.tmp 62),.none,[],[]⟩,
 ⟨.some 64,.bin .eql (.tmp 63) (.av (.str [112,117,109,112])),.none,[],[]⟩,
 ⟨.some 65,.faddr 0 (.tmp 2),.none,[],[]⟩,
 ⟨.none,.store 1 (.tmp 65) (.av (.int .i64 1)),.none,[],[]⟩,
 ⟨.some 66,.faddr 2 (.tmp 2),.none,[],[]⟩,
 ⟨.none,.store 1 (.tmp 66) (.tmp 57),.none,[],[]⟩,
 ⟨.some 67,.faddr 3 (.tmp 2),.none,[],[]⟩,
 ⟨.none,.store 1 (.tmp 67) (.tmp 60),.none,[],[]⟩,
 ⟨.some 68,.faddr 7 (.tmp 2),.none,[],[]⟩,
 ⟨.none,.store 1 (.tmp 68) (.tmp 64),.none,[],[]⟩])
 (.reg false [⟨.some 69,.mv (.tmp 0),.none,[],[]⟩,
 ⟨.some 70,.iaddr .none 1 (.tmp 69) (.av (.int .i64 4)),.none,[],[]⟩,
 ⟨.some 71,.load false false 1 (.tmp 70),.none,[],[]⟩,
 ⟨.some 72,.faddr 6 (.tmp 2),.none,[],[]⟩,
 ⟨.some 73,.call (.av (.fn n_mix_number [])) [(.tmp 71),(.tmp 72)],.none,[],[]⟩,
 ⟨.some 3,.mv (.tmp 73),.none,[],[]⟩]))
 (.seq (.reg false [⟨.some 75,.mv (.tmp 0),.none,[],[]⟩,
 ⟨.some 76,.iaddr .none 1 (.tmp 75) (.av (.int .i64 0)),.none,[],[]⟩,
 ⟨.some 77,.load false false 1 (.tmp 76),.none,[],[]⟩,
 ⟨.some 78,.bin .eql (.tmp 77) (.av (.str [118,101,110,116])),.none,[],[]⟩,
 ⟨.some 79,.mv (.tmp 78),.none,[],[]⟩,
 ⟨.some 80,.mv (.tmp 0),.some (79,true),[],[]⟩,
 ⟨.some 81,.len false (.tmp 80),.some (79,true),[],[]⟩,
 ⟨.some 82,.bin .eql (.tmp 81) (.av (.int .i64 4)),.some (79,true),[],[]⟩,
 ⟨.some 83,.pick (.tmp 79) (.tmp 82) (.av (.bool false)),.none,[],[]⟩,
 ⟨.some 74,.mv (.tmp 83),.none,[],[]⟩])
 (.cond (.tmp 74)
 (.seq (.reg false [⟨.some 84,.mv (.tmp 0),.none,[],[]⟩,
 ⟨.some 85,.iaddr .none 1 (.tmp 84) (.av (.int .i64 2)),.none,[],[]⟩,
 ⟨.some 86,.load false false 1 (.tmp 85),.none,[],[]⟩,
 ⟨.some 87,.faddr 0 (.tmp 2),.none,[],[]⟩,
 ⟨.none,.store 1 (.tmp 87) (.av (.int .i64 2)),.none,[],[]⟩,
 ⟨.some 88,.faddr 2 (.tmp 2),.none,[],[]⟩,
 ⟨.none,.store 1 (.tmp 88) (.tmp 86),.none,[86],[]⟩])
 (.reg false [⟨.some 89,.mv (.tmp 0),.none,[],[]⟩,
 ⟨.some 90,.iaddr .none 1 (.tmp 89) (.av (.int .i64 3)),.none,[],[]⟩,
 ⟨.some 91,.load false false 1 (.tmp 90),.none,[],[]⟩,
 ⟨.some 92,.faddr 6 (.tmp 2),.none,[],[]⟩,
 ⟨.some 93,.call (.av (.fn n_mix_number [])) [(.tmp 91),(.tmp 92)],.none,[],[]⟩,
 ⟨.some 3,.mv (.tmp 93),.none,[],[]⟩]))
 .skip)))))))
 (.cut [0,2,3] []
 (.seq (.reg false [⟨.some 94,.mv (.tmp 3),.none,[],[]⟩,
 ⟨.some 95,.mv (.tmp 94),.none,[],[]⟩,
 ⟨.some 96,.mv (.tmp 0),.some (95,true),[],[]⟩,
 ⟨.some 97,.iaddr .none 1 (.tmp 96) (.av (.int .i64 1)),.some (95,true),[],[]⟩,
 ⟨.some 98,.load false false 1 (.tmp 97),.some (95,true),[],[]⟩,
 ⟨.some 99,.faddr 1 (.tmp 2),.some (95,true),[],[]⟩,
 ⟨.some 100,.call (.av (.fn n_mix_number [])) [(.tmp 98),(.tmp 99)],.some (95,true),[],[]⟩,
 ⟨.some 101,.pick (.tmp 95) (.tmp 100) (.av (.bool false)),.none,[],[]⟩,
 ⟨.some 3,.mv (.tmp 101),.none,[],[]⟩])
 (.seq (.reg false [⟨.some 102,.load true false 8 (.tmp 2),.none,[],[]⟩,
 ⟨.some 103,.mv (.tmp 3),.none,[],[]⟩,
 ⟨.none,.store 8 (.tmp 2) (.tmp 102),.none,[102],[]⟩,
 ⟨.some 3,.mv (.tmp 103),.none,[],[]⟩])
 .ret))))),
 [.cell true 8 2,.tmp 3], false⟩
theorem c_mix_fillOf : chkFunc Tryz.prog gl n_mix_fillOf a_mix_fillOf = true := by kernel_rfl
/- shotline/shotlinebase.Number -/
def b_base_Number_1 : ACode :=
 (.seq (.seq (.reg false [⟨.some 41,.mv (.tmp 8),.none,[],[]⟩,
 ⟨.some 42,.mv (.tmp 0),.none,[],[]⟩,
 ⟨.some 43,.len true (.tmp 42),.none,[],[]⟩,
 ⟨.some 44,.bin .lss (.tmp 41) (.tmp 43),.none,[],[]⟩])
 (.cond (.tmp 44)
 .skip
 (.exit 0)))
 (.cut [0,6,7,8] []
 (.seq (.block 1
 (.seq (.seq (.reg false [⟨.some 47,.mv (.tmp 0),.none,[],[]⟩,
 ⟨.some 48,.mv (.tmp 8),.none,[],[]⟩,
 ⟨.some 49,.ixstr (.tmp 47) (.tmp 48),.none,[],[]⟩,
 ⟨.some 50,.bin .lss (.tmp 49) (.av (.int .u8 48)),.none,[],[]⟩,
 ⟨.some 51,.mv (.tmp 50),.none,[],[]⟩,
 ⟨.some 52,.mv (.tmp 0),.some (51,false),[],[]⟩,
 ⟨.some 53,.mv (.tmp 8),.some (51,false),[],[]⟩,
 ⟨.some 54,.ixstr (.tmp 52) (.tmp 53),.some (51,false),[],[]⟩,
 ⟨.some 55,.bin .gtr (.tmp 54) (.av (.int .u8 57)),.some (51,false),[],[]⟩,
 ⟨.some 56,.pick (.tmp 51) (.av (.bool true)) (.tmp 55),.none,[],[]⟩])
 (.cond (.tmp 56)
 (.seq (.reg false [⟨.some 4,.mv (.av (.int .i64 0)),.none,[],[]⟩,
 ⟨.some 5,.mv (.av (.bool false)),.none,[],[]⟩])
 .ret)
 .skip))
 (.cut [0,6,7,8] []
 (.reg false [⟨.some 57,.mv (.tmp 7),.none,[],[]⟩,
 ⟨.some 58,.bin .mul (.av (.int .i64 10)) (.tmp 57),.none,[],[]⟩,
 ⟨.some 59,.mv (.tmp 0),.none,[],[]⟩,
 ⟨.some 60,.mv (.tmp 8),.none,[],[]⟩,
 ⟨.some 61,.ixstr (.tmp 59) (.tmp 60),.none,[],[]⟩,
 ⟨.some 62,.bin .sub (.tmp 61) (.av (.int .u8 48)),.none,[],[]⟩,
 ⟨.some 63,.conv (.int .i64) (.tmp 62),.none,[],[]⟩,
 ⟨.some 64,.bin .add (.tmp 58) (.tmp 63),.none,[],[]⟩,
 ⟨.some 7,.mv (.tmp 64),.none,[],[]⟩]))))
 (.cut [0,6,7,8] []
 (.reg false [⟨.some 45,.mv (.tmp 8),.none,[],[]⟩,
 ⟨.some 46,.bin .add (.tmp 45) (.av (.int .i64 1)),.none,[],[]⟩,
 ⟨.some 8,.mv (.tmp 46),.none,[],[]⟩])))))
def l_base_Number_1 : ACode := .loop (.cut [0,6,7,8] [] b_base_Number_1)
def a_base_Number : AFunc := ⟨70,
 (.seq (.reg false [⟨.some 4,.mv (.av (.int .i64 0)),.none,[],[]⟩,
 ⟨.some 5,.mv (.av (.bool false)),.none,[],[]⟩])
 (.seq (.reg false [⟨.some 6,.mv (.av (.int .i64 0)),.none,[],[]⟩])
 (.seq (.seq (.reg false [⟨.some 9,.mv (.tmp 0),.none,[],[]⟩,
 ⟨.some 10,.len true (.tmp 9),.none,[],[]⟩,
 ⟨.some 11,.bin .gtr (.tmp 10) (.av (.int .i64 0)),.none,[],[]⟩,
 ⟨.some 12,.mv (.tmp 11),.none,[],[]⟩,
 ⟨.some 13,.mv (.tmp 0),.some (12,true),[],[]⟩,
 ⟨.some 14,.ixstr (.tmp 13) (.av (.int .i64 0)),.some (12,true),[],[]⟩,
 ⟨.some 15,.bin .eql (.tmp 14) (.av (.int .u8 45)),.some (12,true),[],[]⟩,
 ⟨.some 16,.pick (.tmp 12) (.tmp 15) (.av (.bool false)),.none,[],[]⟩])
 (.cond (.tmp 16)
 (.reg false [⟨.some 6,.mv (.av (.int .i64 1)),.none,[],[]⟩])
 .skip))
 (.cut [0,1,6] []
 (.seq (.seq (.reg false [⟨.some 17,.mv (.tmp 0),.none,[],[]⟩,
 ⟨.some 18,.len true (.tmp 17),.none,[],[]⟩,
 ⟨.some 19,.mv (.tmp 6),.none,[],[]⟩,
 ⟨.some 20,.bin .eql (.tmp 18) (.tmp 19),.none,[],[]⟩,
 ⟨.some 21,.mv (.tmp 20),.none,[],[]⟩,
 ⟨.some 22,.mv (.tmp 0),.some (21,false),[],[]⟩,
 ⟨.some 23,.len true (.tmp 22),.some (21,false),[],[]⟩,
 ⟨.some 24,.mv (.tmp 6),.some (21,false),[],[]⟩,
 ⟨.some 25,.bin .sub (.tmp 23) (.tmp 24),.some (21,false),[],[]⟩,
 ⟨.some 26,.mv (.tmp 1),.some (21,false),[],[]⟩,
 ⟨.some 27,.bin .gtr (.tmp 25) (.tmp 26),.some (21,false),[],[]⟩,
 ⟨.some 28,.pick (.tmp 21) (.av (.bool true)) (.tmp 27),.none,[],[]⟩,
 ⟨.some 29,.mv (.tmp 28),.none,[],[]⟩,
 ⟨.some 30,.mv (.tmp 0),.some (29,false),[],[]⟩,
 ⟨.some 31,.mv (.tmp 6),.some (29,false),[],[]⟩,
 ⟨.some 32,.ixstr (.tmp 30) (.tmp 31),.some (29,false),[],[]⟩,
 ⟨.some 33,.bin .eql (.tmp 32) (.av (.int .u8 48)),.some (29,false),[],[]⟩,
 ⟨.some 34,.mv (.tmp 33),.some (29,false),[],[]⟩,
 ⟨.some 35,.mv (.tmp 0),.some (34,true),[],[]⟩,
 ⟨.some 36,.len true (.tmp 35),.some (34,true),[],[]⟩,
 ⟨.some 37,.bin .gtr (.tmp 36) (.av (.int .i64 1)),.some (34,true),[],[]⟩,
 ⟨.some 38,.pick (.tmp 34) (.tmp 37) (.av (.bool false)),.some (29,false),[],[]⟩,
 ⟨.some 39,.pick (.tmp 29) (.av (.bool true)) (.tmp 38),.none,[],[]⟩])
 (.cond (.tmp 39)
 (.seq (.reg false [⟨.some 4,.mv (.av (.int .i64 0)),.none,[],[]⟩,
 ⟨.some 5,.mv (.av (.bool false)),.none,[],[]⟩])
 .ret)
 .skip))
 (.cut [0,6] []
 (.seq (.reg false [⟨.some 7,.mv (.av (.int .i64 0)),.none,[],[]⟩])
 (.seq (.seq (.reg false [⟨.some 40,.mv (.tmp 6),.none,[],[]⟩,
 ⟨.some 8,.mv (.tmp 40),.none,[],[]⟩])
 (.block 0
 l_base_Number_1))
 (.cut [6,7] []
 (.seq (.seq (.reg false [⟨.some 65,.mv (.tmp 6),.none,[],[]⟩,
 ⟨.some 66,.bin .eql (.tmp 65) (.av (.int .i64 1)),.none,[],[]⟩])
 (.cond (.tmp 66)
 (.reg false [⟨.some 67,.mv (.tmp 7),.none,[],[]⟩,
 ⟨.some 68,.un .neg (.tmp 67),.none,[],[]⟩,
 ⟨.some 7,.mv (.tmp 68),.none,[],[]⟩])
 .skip))
 (.cut [7] []
 (.seq (.reg false [⟨.some 69,.mv (.tmp 7),.none,[],[]⟩,
 ⟨.some 4,.mv (.tmp 69),.none,[],[]⟩,
 ⟨.some 5,.mv (.av (.bool true)),.none,[],[]⟩])
 .ret)))))))))))),
 [.tmp 4,.tmp 5], false⟩
theorem c_base_Number : chkFunc Tryz.prog gl n_base_Number a_base_Number = true := by kernel_rfl
/- shotline/shotlinebase.Decimal -/
def b_base_Decimal_1 : ACode :=
 (.seq (.seq (.reg false [⟨.some 10,.mv (.tmp 0),.none,[],[]⟩,
 ⟨.some 11,.bin .neq (.tmp 10) (.av (.int .i64 0)),.none,[],[]⟩])
 (.cond (.tmp 11)
 .skip
 (.exit 0)))
 (.cut [0,3,4] []
 (.block 1
 (.seq (.reg false [⟨.some 12,.mv (.tmp 0),.none,[],[]⟩,
 ⟨.some 13,.bin .rem (.tmp 12) (.av (.int .i64 10)),.none,[],[]⟩,
 ⟨.some 5,.mv (.tmp 13),.none,[],[]⟩])
 (.seq (.reg false [⟨.some 14,.mv (.tmp 5),.none,[],[]⟩,
 ⟨.some 15,.call (.av (.fn n_base_Size [])) [(.tmp 14)],.none,[],[]⟩,
 ⟨.some 16,.bin .add (.av (.int .i64 48)) (.tmp 15),.none,[],[]⟩,
 ⟨.some 17,.conv (.int .u8) (.tmp 16),.none,[],[]⟩,
 ⟨.some 18,.bslice true 1 1 [(.int .u8 0)] [(0,(.tmp 17))],.none,[],[]⟩,
 ⟨.some 19,.conv .toStr (.tmp 18),.none,[],[]⟩,
 ⟨.some 20,.mv (.tmp 3),.none,[],[]⟩,
 ⟨.some 21,.bin .add (.tmp 19) (.tmp 20),.none,[],[]⟩,
 ⟨.some 3,.mv (.tmp 21),.none,[],[]⟩])
 (.reg false [⟨.some 22,.mv (.tmp 0),.none,[],[]⟩,
 ⟨.some 23,.bin .quo (.tmp 22) (.av (.int .i64 10)),.none,[],[]⟩,
 ⟨.some 0,.mv (.tmp 23),.none,[],[]⟩]))))))
def l_base_Decimal_1 : ACode := .loop (.cut [0,3,4] [] b_base_Decimal_1)
def a_base_Decimal : AFunc := ⟨27,
 (.seq (.reg false [⟨.some 2,.mv (.av (.str [])),.none,[],[]⟩])
 (.seq (.seq (.reg false [⟨.some 6,.mv (.tmp 0),.none,[],[]⟩,
 ⟨.some 7,.bin .eql (.tmp 6) (.av (.int .i64 0)),.none,[],[]⟩])
 (.cond (.tmp 7)
 (.seq (.reg false [⟨.some 2,.mv (.av (.str [48])),.none,[],[]⟩])
 .ret)
 .skip))
 (.cut [0] []
 (.seq (.reg false [⟨.some 3,.mv (.av (.str [])),.none,[],[]⟩,
 ⟨.some 4,.mv (.av (.str [])),.none,[],[]⟩])
 (.seq (.seq (.reg false [⟨.some 8,.mv (.tmp 0),.none,[],[]⟩,
 ⟨.some 9,.bin .lss (.tmp 8) (.av (.int .i64 0)),.none,[],[]⟩])
 (.cond (.tmp 9)
 (.reg false [⟨.some 4,.mv (.av (.str [45])),.none,[],[]⟩])
 .skip))
 (.cut [0,3,4] []
 (.seq (.block 0
 l_base_Decimal_1)
 (.cut [3,4] []
 (.seq (.reg false [⟨.some 24,.mv (.tmp 4),.none,[],[]⟩,
 ⟨.some 25,.mv (.tmp 3),.none,[],[]⟩,
 ⟨.some 26,.bin .add (.tmp 24) (.tmp 25),.none,[],[]⟩,
 ⟨.some 2,.mv (.tmp 26),.none,[],[]⟩])
 .ret))))))))),
 [.tmp 2], false⟩
theorem c_base_Decimal : chkFunc Tryz.prog gl n_base_Decimal a_base_Decimal = true := by kernel_rfl
/- shotline/shotlinebase.Within -/
def a_base_Within : AFunc := ⟨15,
 (.seq (.reg false [⟨.some 6,.mv (.av (.bool false)),.none,[],[]⟩])
 (.seq (.reg false [⟨.some 7,.mv (.tmp 1),.none,[],[]⟩,
 ⟨.some 8,.mv (.tmp 0),.none,[],[]⟩,
 ⟨.some 9,.bin .leq (.tmp 7) (.tmp 8),.none,[],[]⟩,
 ⟨.some 10,.mv (.tmp 9),.none,[],[]⟩,
 ⟨.some 11,.mv (.tmp 0),.some (10,true),[],[]⟩,
 ⟨.some 12,.mv (.tmp 2),.some (10,true),[],[]⟩,
 ⟨.some 13,.bin .leq (.tmp 11) (.tmp 12),.some (10,true),[],[]⟩,
 ⟨.some 14,.pick (.tmp 10) (.tmp 13) (.av (.bool false)),.none,[],[]⟩,
 ⟨.some 6,.mv (.tmp 14),.none,[],[]⟩])
 .ret)),
 [.tmp 6], false⟩
theorem c_base_Within : chkFunc Tryz.prog gl n_base_Within a_base_Within = true := by kernel_rfl
/- shotline/shotlineref01.CheckGas -/
def a_ref01_CheckGas : AFunc := ⟨19,
 (.seq (.reg false [⟨.some 1,.box true (.tmp 0),.none,[],[]⟩,
 ⟨.some 2,.mv (.av (.int .i64 0)),.none,[],[]⟩])
 (.seq (.seq (.reg false [⟨.some 3,.faddr 0 (.tmp 1),.none,[],[]⟩,
 ⟨.some 4,.load false false 1 (.tmp 3),.none,[],[]⟩,
 ⟨.some 5,.call (.av (.fn n_base_Within [])) [(.tmp 4),(.av (.int .i64 0)),(.av (.int .i64 1000))],.none,[],[]⟩,
 ⟨.some 6,.un .not (.tmp 5),.none,[],[]⟩,
 ⟨.some 7,.mv (.tmp 6),.none,[],[]⟩,
 ⟨.some 8,.faddr 1 (.tmp 1),.some (7,false),[],[]⟩,
 ⟨.some 9,.load false false 1 (.tmp 8),.some (7,false),[],[]⟩,
 ⟨.some 10,.call (.av (.fn n_base_Within [])) [(.tmp 9),(.av (.int .i64 0)),(.av (.int .i64 1000))],.some (7,false),[],[]⟩,
 ⟨.some 11,.un .not (.tmp 10),.some (7,false),[],[]⟩,
 ⟨.some 12,.pick (.tmp 7) (.av (.bool true)) (.tmp 11),.none,[],[]⟩])
 (.cond (.tmp 12)
 (.seq (.reg false [⟨.some 2,.mv (.av (.int .i64 2)),.none,[],[]⟩])
 .ret)
 .skip))
 (.cut [1] []
 (.seq (.seq (.reg false [⟨.some 13,.faddr 0 (.tmp 1),.none,[],[]⟩,
 ⟨.some 14,.load false false 1 (.tmp 13),.none,[],[]⟩,
 ⟨.some 15,.faddr 1 (.tmp 1),.none,[],[]⟩,
 ⟨.some 16,.load false false 1 (.tmp 15),.none,[],[]⟩,
 ⟨.some 17,.bin .add (.tmp 14) (.tmp 16),.none,[],[]⟩,
 ⟨.some 18,.bin .gtr (.tmp 17) (.av (.int .i64 1000)),.none,[],[]⟩])
 (.cond (.tmp 18)
 (.seq (.reg false [⟨.some 2,.mv (.av (.int .i64 23)),.none,[],[]⟩])
 .ret)
 .skip))
 (.cut [] []
 (.seq (.reg false [⟨.some 2,.mv (.av (.int .i64 0)),.none,[],[]⟩])
 .ret)))))),
 [.tmp 2], false⟩
theorem c_ref01_CheckGas : chkFunc Tryz.prog gl n_ref01_CheckGas a_ref01_CheckGas = true := by kernel_rfl
/- shotline/mix.held -/
def a_mix_held : AFunc := ⟨42,
 (.seq (.reg false [⟨.some 6,.alloc [(.int .i64 0),(.int .i64 0),(.int .i64 0)],.none,[],[]⟩,
 ⟨.some 7,.mv (.av (.int .i64 0)),.none,[],[]⟩,
 ⟨.some 8,.mv (.av (.int .i64 0)),.none,[],[]⟩])
 (.seq (.reg false [⟨.some 14,.mv (.tmp 0),.none,[],[]⟩,
 ⟨.some 15,.mv (.tmp 1),.none,[],[]⟩,
 ⟨.some 16,.call (.av (.fn n_mix_read [])) [(.tmp 14),(.tmp 15)],.none,[],[]⟩,
 ⟨.some 13,.mv (.tmp 16),.none,[],[]⟩,
 ⟨.some 17,.extract (.tmp 13) 0,.none,[],[]⟩,
 ⟨.some 18,.extract (.tmp 13) 1,.none,[],[]⟩,
 ⟨.some 19,.extract (.tmp 13) 2,.none,[],[]⟩,
 ⟨.some 9,.mv (.tmp 17),.none,[],[]⟩,
 ⟨.some 10,.mv (.tmp 18),.none,[],[]⟩,
 ⟨.some 11,.mv (.tmp 19),.none,[],[]⟩])
 (.seq (.seq (.reg false [⟨.some 20,.mv (.tmp 11),.none,[],[]⟩,
 ⟨.some 21,.bin .neq (.tmp 20) (.av (.int .i64 0)),.none,[],[]⟩])
 (.cond (.tmp 21)
 (.seq (.reg false [⟨.some 22,.build [(.int .i64 0),(.int .i64 0),(.int .i64 0)] [],.none,[],[]⟩,
 ⟨.some 23,.mv (.tmp 11),.none,[],[]⟩,
 ⟨.none,.store 3 (.tmp 6) (.tmp 22),.none,[22],[]⟩,
 ⟨.some 7,.mv (.av (.int .i64 0)),.none,[],[]⟩,
 ⟨.some 8,.mv (.tmp 23),.none,[],[]⟩])
 .ret)
 .skip))
 (.cut [0,2,6,9] []
 (.seq (.reg false [⟨.some 24,.mv (.tmp 0),.none,[],[]⟩,
 ⟨.some 25,.mv (.tmp 2),.none,[],[]⟩,
 ⟨.some 26,.call (.av (.fn n_mix_vessel [])) [(.tmp 24),(.tmp 25)],.none,[],[]⟩,
 ⟨.some 12,.mv (.tmp 26),.none,[],[]⟩])
 (.seq (.seq (.reg false [⟨.some 27,.mv (.tmp 12),.none,[],[]⟩,
 ⟨.some 28,.bin .lss (.tmp 27) (.av (.int .i64 0)),.none,[],[]⟩])
 (.cond (.tmp 28)
 (.seq (.reg false [⟨.some 29,.build [(.int .i64 0),(.int .i64 0),(.int .i64 0)] [],.none,[],[]⟩,
 ⟨.none,.store 3 (.tmp 6) (.tmp 29),.none,[29],[]⟩,
 ⟨.some 7,.mv (.av (.int .i64 0)),.none,[],[]⟩,
 ⟨.some 8,.mv (.av (.int .i64 6)),.none,[],[]⟩])
 .ret)
 .skip))
 (.cut [0,6,9,12] []
 (.seq (.reg true [⟨.some 30,.mv (.tmp 9),.none,[],[]⟩,
 ⟨.some 31,.nilchk (.tmp 30),.none,[],[]⟩,
 ⟨.some 32,.faddr 1 (.tmp 31),.none,[],[]⟩,
 ⟨.some 33,.load false false 1 (.tmp 32),.none,[],[]⟩,
 ⟨.some 34,.mv (.tmp 12),.none,[],[]⟩,
 ⟨.some 35,.iaddr .none 3 (.tmp 33) (.tmp 34),.none,[],[]⟩,
 ⟨.some 36,.load true false 3 (.tmp 35),.none,[],[]⟩,
 ⟨.some 37,.mv (.tmp 0),.none,[],[]⟩,
 ⟨.some 38,.mv (.tmp 12),.none,[],[]⟩,
 ⟨.some 39,.iaddr .none 3 (.tmp 37) (.tmp 38),.none,[],[]⟩,
 ⟨.some 40,.faddr 1 (.tmp 39),.none,[],[]⟩,
 ⟨.some 41,.load false false 1 (.tmp 40),.none,[],[]⟩,
 ⟨.none,.store 3 (.tmp 6) (.tmp 36),.none,[],[11]⟩,
 ⟨.some 7,.mv (.tmp 41),.none,[],[]⟩,
 ⟨.some 8,.mv (.av (.int .i64 0)),.none,[],[]⟩])
 .ret)))))))),
 [.cell true 3 6,.tmp 7,.tmp 8], false⟩
theorem c_mix_held : chkFunc Tryz.prog gl n_mix_held a_mix_held = true := by kernel_rfl
/- shotline/mix.rounded -/
def a_mix_rounded : AFunc := ⟨15,
 (.seq (.reg false [⟨.some 4,.alloc [(.int .i64 0),(.int .i64 0)],.none,[],[]⟩])
 (.seq (.reg true [⟨.some 5,.mv (.tmp 0),.none,[],[]⟩,
 ⟨.some 6,.mv (.tmp 1),.none,[],[]⟩,
 ⟨.some 7,.bin .quo (.tmp 5) (.tmp 6),.none,[],[]⟩,
 ⟨.some 8,.mv (.tmp 0),.none,[],[]⟩,
 ⟨.some 9,.mv (.tmp 1),.none,[],[]⟩,
 ⟨.some 10,.bin .add (.tmp 8) (.tmp 9),.none,[],[]⟩,
 ⟨.some 11,.bin .sub (.tmp 10) (.av (.int .i64 1)),.none,[],[]⟩,
 ⟨.some 12,.mv (.tmp 1),.none,[],[]⟩,
 ⟨.some 13,.bin .quo (.tmp 11) (.tmp 12),.none,[],[]⟩,
 ⟨.some 14,.build [(.int .i64 0),(.int .i64 0)] [(0,1,(.tmp 7)),(1,1,(.tmp 13))],.none,[],[]⟩,
 ⟨.none,.store 2 (.tmp 4) (.tmp 14),.none,[],[]⟩])
 .ret)),
 [.cell true 2 4], false⟩
theorem c_mix_rounded : chkFunc Tryz.prog gl n_mix_rounded a_mix_rounded = true := by kernel_rfl
/- (shotline/mix.gases).sum -/
def a_mix_gases_sum : AFunc := ⟨11,
 (.seq (.reg false [⟨.some 1,.box true (.tmp 0),.none,[],[]⟩,
 ⟨.some 2,.mv (.av (.int .i64 0)),.none,[],[]⟩])
 (.seq (.reg false [⟨.some 3,.iaddr (.some 3) 1 (.tmp 1) (.av (.int .i64 0)),.none,[],[]⟩,
 ⟨.some 4,.load false false 1 (.tmp 3),.none,[],[]⟩,
 ⟨.some 5,.iaddr (.some 3) 1 (.tmp 1) (.av (.int .i64 1)),.none,[],[]⟩,
 ⟨.some 6,.load false false 1 (.tmp 5),.none,[],[]⟩,
 ⟨.some 7,.bin .add (.tmp 4) (.tmp 6),.none,[],[]⟩,
 ⟨.some 8,.iaddr (.some 3) 1 (.tmp 1) (.av (.int .i64 2)),.none,[],[]⟩,
 ⟨.some 9,.load false false 1 (.tmp 8),.none,[],[]⟩,
 ⟨.some 10,.bin .add (.tmp 7) (.tmp 9),.none,[],[]⟩,
 ⟨.some 2,.mv (.tmp 10),.none,[],[]⟩])
 .ret)),
 [.tmp 2], false⟩
theorem c_mix_gases_sum : chkFunc Tryz.prog gl n_mix_gases_sum a_mix_gases_sum = true := by kernel_rfl
/- shotline/mix.ask -/
def a_mix_ask : AFunc := ⟨36,
 (.seq (.reg false [⟨.some 1,.box true (.tmp 0),.none,[],[]⟩,
 ⟨.some 2,.mv (.av .nilp),.none,[],[]⟩,
 ⟨.some 3,.mv (.av (.int .i64 0)),.none,[],[]⟩])
 (.seq (.seq (.reg false [⟨.some 7,.load true false 9 (.tmp 1),.none,[],[]⟩,
 ⟨.some 8,.call (.av (.fn n_mix_CheckTask [])) [(.tmp 7)],.none,[],[]⟩,
 ⟨.some 4,.mv (.tmp 8),.none,[],[]⟩])
 (.seq (.reg false [⟨.some 9,.mv (.tmp 4),.none,[],[]⟩,
 ⟨.some 10,.bin .neq (.tmp 9) (.av (.int .i64 0)),.none,[],[]⟩])
 (.cond (.tmp 10)
 (.seq (.reg false [⟨.some 11,.mv (.tmp 4),.none,[],[]⟩,
 ⟨.some 2,.mv (.av .nilp),.none,[],[]⟩,
 ⟨.some 3,.mv (.tmp 11),.none,[],[]⟩])
 .ret)
 .skip)))
 (.cut [1] []
 (.seq (.reg false [⟨.some 12,.faddr 1 (.tmp 1),.none,[],[]⟩,
 ⟨.some 13,.load true false 3 (.tmp 12),.none,[],[]⟩,
 ⟨.some 14,.call (.av (.fn n_mix_gasesOf [])) [(.tmp 13)],.none,[],[]⟩,
 ⟨.some 5,.alloc [(.int .i64 0),(.int .i64 0),(.int .i64 0)],.none,[],[]⟩,
 ⟨.none,.store 3 (.tmp 5) (.tmp 14),.none,[14],[]⟩])
 (.seq (.reg false [⟨.some 15,.mkfn n_mix_ask_c1 [(.tmp 1)],.none,[],[]⟩,
 ⟨.some 6,.mv (.tmp 15),.none,[],[]⟩])
 (.seq (.reg true [⟨.some 16,.load true false 9 (.tmp 1),.none,[],[]⟩,
 ⟨.some 17,.faddr 4 (.tmp 1),.none,[],[]⟩,
 ⟨.some 18,.load false false 1 (.tmp 17),.none,[],[]⟩,
 ⟨.some 19,.load true false 3 (.tmp 5),.none,[],[]⟩,
 ⟨.some 20,.call (.av (.fn n_mix_gases_sum [])) [(.tmp 19)],.none,[],[]⟩,
 ⟨.some 21,.bin .sub (.tmp 18) (.tmp 20),.none,[],[]⟩,
 ⟨.some 22,.mv (.tmp 6),.none,[],[]⟩,
 ⟨.some 23,.faddr 5 (.tmp 1),.none,[],[]⟩,
 ⟨.some 24,.load true false 2 (.tmp 23),.none,[],[]⟩,
 ⟨.some 25,.iaddr (.some 3) 1 (.tmp 5) (.av (.int .i64 0)),.none,[],[]⟩,
 ⟨.some 26,.load false false 1 (.tmp 25),.none,[],[]⟩,
 ⟨.some 27,.call (.tmp 22) [(.tmp 24),(.tmp 26)],.none,[],[]⟩,
 ⟨.some 28,.mv (.tmp 6),.none,[],[]⟩,
 ⟨.some 29,.faddr 7 (.tmp 1),.none,[],[]⟩,
 ⟨.some 30,.load true false 2 (.tmp 29),.none,[],[]⟩,
 ⟨.some 31,.iaddr (.some 3) 1 (.tmp 5) (.av (.int .i64 1)),.none,[],[]⟩,
 ⟨.some 32,.load false false 1 (.tmp 31),.none,[],[]⟩,
 ⟨.some 33,.call (.tmp 28) [(.tmp 30),(.tmp 32)],.none,[],[]⟩,
 ⟨.some 34,.build [.nils,(.int .i64 0),(.int .i64 0),(.int .i64 0),(.int .i64 0),(.int .i64 0),(.int .i64 0),(.int .i64 0),(.int .i64 0),(.int .i64 0),(.int .i64 0),(.int .i64 0),(.int .i64 0),(.int .i64 0)] [(0,9,(.tmp 16)),(9,1,(.tmp 21)),(10,2,(.tmp 27)),(12,2,(.tmp 33))],.none,[],[]⟩,
 ⟨.some 35,.box true (.tmp 34),.none,[],[]⟩,
 ⟨.some 2,.mv (.tmp 35),.none,[],[]⟩,
 ⟨.some 3,.mv (.av (.int .i64 0)),.none,[],[]⟩])
 .ret)))))),
 [.tmp 2,.tmp 3], false⟩
theorem c_mix_ask : chkFunc Tryz.prog gl n_mix_ask a_mix_ask = true := by kernel_rfl
/- (*shotline/mix.asked).cost -/
def l_mix_asked_cost_1 : ACode :=
 .loop (.cut [0,3,6,7,8,9,33,34,35] [[11]]
 (.seq (.reg false [⟨.some 36,.bin .lss (.tmp 35) (.tmp 34),.none,[],[]⟩])
 (.seq (.cond (.tmp 36)
 .skip
 (.exit 1))
 (.cut [0,3,6,7,8,9,33,34,35] []
 (.seq (.block 2
 (.seq (.reg false [⟨.some 37,.mv (.tmp 35),.none,[],[]⟩,
 ⟨.some 38,.iaddr .none 5 (.tmp 33) (.tmp 35),.none,[],[]⟩,
 ⟨.some 39,.load true false 5 (.tmp 38),.none,[],[]⟩,
 ⟨.some 11,.alloc [(.str []),(.int .i64 0),(.int .i64 0),(.int .i64 0),(.int .i64 0)],.none,[],[]⟩,
 ⟨.some 10,.mv (.tmp 37),.none,[],[]⟩,
 ⟨.none,.store 5 (.tmp 11) (.tmp 39),.none,[39],[]⟩])
 (.seq (.reg false [⟨.some 40,.faddr 0 (.tmp 3),.none,[],[]⟩,
 ⟨.some 41,.load false false 1 (.tmp 40),.none,[],[]⟩,
 ⟨.some 42,.mv (.tmp 10),.none,[],[]⟩,
 ⟨.some 43,.iaddr .none 1 (.tmp 41) (.tmp 42),.none,[],[]⟩,
 ⟨.some 44,.load false false 1 (.tmp 43),.none,[],[]⟩,
 ⟨.some 12,.mv (.tmp 44),.none,[],[]⟩])
 (.seq (.seq (.reg false [⟨.some 45,.mv (.tmp 12),.none,[],[]⟩,
 ⟨.some 46,.faddr 1 (.tmp 3),.none,[],[]⟩,
 ⟨.some 47,.load false false 1 (.tmp 46),.none,[],[]⟩,
 ⟨.some 48,.faddr 4 (.tmp 11),.none,[],[]⟩,
 ⟨.some 49,.load false false 1 (.tmp 48),.none,[],[]⟩,
 ⟨.some 50,.bin .mul (.tmp 47) (.tmp 49),.none,[],[]⟩,
 ⟨.some 51,.call (.av (.fn n_mix_within [])) [(.tmp 45),(.av (.int .i64 0)),(.tmp 50)],.none,[],[]⟩,
 ⟨.some 52,.un .not (.tmp 51),.none,[],[]⟩])
 (.cond (.tmp 52)
 (.seq (.reg false [⟨.some 4,.mv (.av (.int .i64 0)),.none,[],[]⟩,
 ⟨.some 5,.mv (.av (.int .i64 20)),.none,[],[]⟩])
 .ret)
 .skip))
 (.cut [0,3,6,7,8,9,11,12,33,34,35] []
 (.reg true [⟨.some 53,.mv (.tmp 6),.none,[],[]⟩,
 ⟨.some 54,.mv (.tmp 12),.none,[],[]⟩,
 ⟨.some 55,.faddr 3 (.tmp 11),.none,[],[]⟩,
 ⟨.some 56,.load false false 1 (.tmp 55),.none,[],[]⟩,
 ⟨.some 57,.bin .mul (.tmp 54) (.tmp 56),.none,[],[]⟩,
 ⟨.some 58,.bin .add (.tmp 53) (.tmp 57),.none,[],[]⟩,
 ⟨.some 59,.mv (.tmp 7),.none,[],[]⟩,
 ⟨.some 60,.mv (.tmp 12),.none,[],[]⟩,
 ⟨.some 61,.bin .add (.tmp 59) (.tmp 60),.none,[],[]⟩,
 ⟨.some 62,.mv (.tmp 8),.none,[],[]⟩,
 ⟨.some 63,.mv (.tmp 12),.none,[],[]⟩,
 ⟨.some 64,.faddr 1 (.tmp 11),.none,[],[]⟩,
 ⟨.some 65,.faddr 0 (.tmp 64),.none,[],[]⟩,
 ⟨.some 66,.load false false 1 (.tmp 65),.none,[],[]⟩,
 ⟨.some 67,.bin .mul (.tmp 63) (.tmp 66),.none,[],[]⟩,
 ⟨.some 68,.bin .add (.tmp 62) (.tmp 67),.none,[],[]⟩,
 ⟨.some 69,.mv (.tmp 9),.none,[],[]⟩,
 ⟨.some 70,.mv (.tmp 12),.none,[],[]⟩,
 ⟨.some 71,.faddr 1 (.tmp 11),.none,[],[]⟩,
 ⟨.some 72,.faddr 1 (.tmp 71),.none,[],[]⟩,
 ⟨.some 73,.load false false 1 (.tmp 72),.none,[],[]⟩,
 ⟨.some 74,.bin .mul (.tmp 70) (.tmp 73),.none,[],[]⟩,
 ⟨.some 75,.bin .add (.tmp 69) (.tmp 74),.none,[],[]⟩,
 ⟨.some 6,.mv (.tmp 58),.none,[],[]⟩,
 ⟨.some 7,.mv (.tmp 61),.none,[],[]⟩,
 ⟨.some 8,.mv (.tmp 68),.none,[],[]⟩,
 ⟨.some 9,.mv (.tmp 75),.none,[],[]⟩]))))))
 (.cut [0,3,6,7,8,9,33,34,35] []
 (.reg false [⟨.some 76,.bin .add (.tmp 35) (.av (.int .i64 1)),.none,[],[]⟩,
 ⟨.some 35,.mv (.tmp 76),.none,[],[]⟩])))))))
def a_mix_asked_cost : AFunc := ⟨129,
 (.seq (.reg false [⟨.some 3,.box true (.tmp 1),.none,[],[]⟩,
 ⟨.some 4,.mv (.av (.int .i64 0)),.none,[],[]⟩,
 ⟨.some 5,.mv (.av (.int .i64 0)),.none,[],[]⟩])
 (.seq (.block 0
 (.seq (.reg true [⟨.some 14,.faddr 0 (.tmp 3),.none,[],[]⟩,
 ⟨.some 15,.load false false 1 (.tmp 14),.none,[],[]⟩,
 ⟨.some 16,.len false (.tmp 15),.none,[],[]⟩,
 ⟨.some 17,.mv (.tmp 0),.none,[],[]⟩,
 ⟨.some 18,.nilchk (.tmp 17),.none,[],[]⟩,
 ⟨.some 19,.faddr 0 (.tmp 18),.none,[],[]⟩,
 ⟨.some 20,.faddr 0 (.tmp 19),.none,[],[]⟩,
 ⟨.some 21,.load false false 1 (.tmp 20),.none,[],[]⟩,
 ⟨.some 22,.len false (.tmp 21),.none,[],[]⟩,
 ⟨.some 23,.bin .neq (.tmp 16) (.tmp 22),.none,[],[]⟩,
 ⟨.some 13,.mv (.tmp 23),.none,[],[]⟩])
 (.cond (.tmp 13)
 (.seq (.reg false [⟨.some 4,.mv (.av (.int .i64 0)),.none,[],[]⟩,
 ⟨.some 5,.mv (.av (.int .i64 10)),.none,[],[]⟩])
 .ret)
 (.seq (.reg false [⟨.some 25,.faddr 1 (.tmp 3),.none,[],[]⟩,
 ⟨.some 26,.load false false 1 (.tmp 25),.none,[],[]⟩,
 ⟨.some 27,.call (.av (.fn n_mix_within [])) [(.tmp 26),(.av (.int .i64 1)),(.av (.int .i64 1000000))],.none,[],[]⟩,
 ⟨.some 28,.un .not (.tmp 27),.none,[],[]⟩,
 ⟨.some 24,.mv (.tmp 28),.none,[],[]⟩])
 (.cond (.tmp 24)
 (.seq (.reg false [⟨.some 4,.mv (.av (.int .i64 0)),.none,[],[]⟩,
 ⟨.some 5,.mv (.av (.int .i64 2)),.none,[],[]⟩])
 .ret)
 .skip)))))
 (.cut [0,3] []
 (.seq (.reg false [⟨.some 6,.mv (.av (.int .i64 0)),.none,[],[]⟩,
 ⟨.some 7,.mv (.av (.int .i64 0)),.none,[],[]⟩,
 ⟨.some 8,.mv (.av (.int .i64 0)),.none,[],[]⟩,
 ⟨.some 9,.mv (.av (.int .i64 0)),.none,[],[]⟩])
 (.seq (.seq (.reg false [⟨.some 29,.mv (.tmp 0),.none,[],[]⟩,
 ⟨.some 30,.nilchk (.tmp 29),.none,[],[]⟩,
 ⟨.some 31,.faddr 0 (.tmp 30),.none,[],[]⟩,
 ⟨.some 32,.faddr 0 (.tmp 31),.none,[],[]⟩,
 ⟨.some 33,.load false false 1 (.tmp 32),.none,[],[]⟩,
 ⟨.some 34,.len false (.tmp 33),.none,[],[]⟩,
 ⟨.some 35,.mv (.av (.int .i64 0)),.none,[],[]⟩])
 (.block 1
 l_mix_asked_cost_1))
 (.cut [0,3,6,7,8,9] []
 (.seq (.block 3
 (.seq (.reg true [⟨.some 78,.mv (.tmp 7),.none,[],[]⟩,
 ⟨.some 79,.faddr 1 (.tmp 3),.none,[],[]⟩,
 ⟨.some 80,.load false false 1 (.tmp 79),.none,[],[]⟩,
 ⟨.some 81,.mv (.tmp 0),.none,[],[]⟩,
 ⟨.some 82,.nilchk (.tmp 81),.none,[],[]⟩,
 ⟨.some 83,.faddr 9 (.tmp 82),.none,[],[]⟩,
 ⟨.some 84,.load false false 1 (.tmp 83),.none,[],[]⟩,
 ⟨.some 85,.bin .mul (.tmp 80) (.tmp 84),.none,[],[]⟩,
 ⟨.some 86,.bin .neq (.tmp 78) (.tmp 85),.none,[],[]⟩,
 ⟨.some 77,.mv (.tmp 86),.none,[],[]⟩])
 (.cond (.tmp 77)
 (.seq (.reg false [⟨.some 4,.mv (.av (.int .i64 0)),.none,[],[]⟩,
 ⟨.some 5,.mv (.av (.int .i64 23)),.none,[],[]⟩])
 .ret)
 (.seq (.reg true [⟨.some 88,.mv (.tmp 8),.none,[],[]⟩,
 ⟨.some 89,.faddr 1 (.tmp 3),.none,[],[]⟩,
 ⟨.some 90,.load false false 1 (.tmp 89),.none,[],[]⟩,
 ⟨.some 91,.mv (.tmp 0),.none,[],[]⟩,
 ⟨.some 92,.nilchk (.tmp 91),.none,[],[]⟩,
 ⟨.some 93,.faddr 10 (.tmp 92),.none,[],[]⟩,
 ⟨.some 94,.faddr 0 (.tmp 93),.none,[],[]⟩,
 ⟨.some 95,.load false false 1 (.tmp 94),.none,[],[]⟩,
 ⟨.some 96,.bin .mul (.tmp 90) (.tmp 95),.none,[],[]⟩,
 ⟨.some 97,.faddr 1 (.tmp 3),.none,[],[]⟩,
 ⟨.some 98,.load false false 1 (.tmp 97),.none,[],[]⟩,
 ⟨.some 99,.mv (.tmp 0),.none,[],[]⟩,
 ⟨.some 100,.nilchk (.tmp 99),.none,[],[]⟩,
 ⟨.some 101,.faddr 10 (.tmp 100),.none,[],[]⟩,
 ⟨.some 102,.faddr 1 (.tmp 101),.none,[],[]⟩,
 ⟨.some 103,.load false false 1 (.tmp 102),.none,[],[]⟩,
 ⟨.some 104,.bin .mul (.tmp 98) (.tmp 103),.none,[],[]⟩,
 ⟨.some 105,.call (.av (.fn n_mix_within [])) [(.tmp 88),(.tmp 96),(.tmp 104)],.none,[],[]⟩,
 ⟨.some 106,.un .not (.tmp 105),.none,[],[]⟩,
 ⟨.some 107,.mv (.tmp 106),.none,[],[]⟩,
 ⟨.some 108,.mv (.tmp 9),.some (107,false),[],[]⟩,
 ⟨.some 109,.faddr 1 (.tmp 3),.some (107,false),[],[]⟩,
 ⟨.some 110,.load false false 1 (.tmp 109),.some (107,false),[],[]⟩,
 ⟨.some 111,.mv (.tmp 0),.some (107,false),[],[]⟩,
 ⟨.some 112,.nilchk (.tmp 111),.some (107,false),[],[]⟩,
 ⟨.some 113,.faddr 12 (.tmp 112),.some (107,false),[],[]⟩,
 ⟨.some 114,.faddr 0 (.tmp 113),.some (107,false),[],[]⟩,
 ⟨.some 115,.load false false 1 (.tmp 114),.some (107,false),[],[]⟩,
 ⟨.some 116,.bin .mul (.tmp 110) (.tmp 115),.some (107,false),[],[]⟩,
 ⟨.some 117,.faddr 1 (.tmp 3),.some (107,false),[],[]⟩,
 ⟨.some 118,.load false false 1 (.tmp 117),.some (107,false),[],[]⟩,
 ⟨.some 119,.mv (.tmp 0),.some (107,false),[],[]⟩,
 ⟨.some 120,.nilchk (.tmp 119),.some (107,false),[],[]⟩,
 ⟨.some 121,.faddr 12 (.tmp 120),.some (107,false),[],[]⟩,
 ⟨.some 122,.faddr 1 (.tmp 121),.some (107,false),[],[]⟩,
 ⟨.some 123,.load false false 1 (.tmp 122),.some (107,false),[],[]⟩,
 ⟨.some 124,.bin .mul (.tmp 118) (.tmp 123),.some (107,false),[],[]⟩,
 ⟨.some 125,.call (.av (.fn n_mix_within [])) [(.tmp 108),(.tmp 116),(.tmp 124)],.some (107,false),[],[]⟩,
 ⟨.some 126,.un .not (.tmp 125),.some (107,false),[],[]⟩,
 ⟨.some 127,.pick (.tmp 107) (.av (.bool true)) (.tmp 126),.none,[],[]⟩,
 ⟨.some 87,.mv (.tmp 127),.none,[],[]⟩])
 (.cond (.tmp 87)
 (.seq (.reg false [⟨.some 4,.mv (.av (.int .i64 0)),.none,[],[]⟩,
 ⟨.some 5,.mv (.av (.int .i64 26)),.none,[],[]⟩])
 .ret)
 .skip)))))
 (.cut [6] []
 (.seq (.reg false [⟨.some 128,.mv (.tmp 6),.none,[],[]⟩,
 ⟨.some 4,.mv (.tmp 128),.none,[],[]⟩,
 ⟨.some 5,.mv (.av (.int .i64 0)),.none,[],[]⟩])
 .ret))))))))),
 [.tmp 4,.tmp 5], false⟩
theorem c_mix_asked_cost : chkFunc Tryz.prog gl n_mix_asked_cost a_mix_asked_cost = true := by kernel_rfl
/- shotline/mix.checkContent -/
def a_mix_checkContent : AFunc := ⟨13,
 (.seq (.reg false [⟨.some 1,.box true (.tmp 0),.none,[],[]⟩,
 ⟨.some 2,.mv (.av (.int .i64 0)),.none,[],[]⟩])
 (.seq (.reg false [⟨.some 4,.load true false 3 (.tmp 1),.none,[],[]⟩,
 ⟨.some 5,.call (.av (.fn n_mix_gasesOf [])) [(.tmp 4)],.none,[],[]⟩,
 ⟨.some 3,.alloc [(.int .i64 0),(.int .i64 0),(.int .i64 0)],.none,[],[]⟩,
 ⟨.none,.store 3 (.tmp 3) (.tmp 5),.none,[5],[]⟩])
 (.seq (.seq (.reg false [⟨.some 6,.slice (.arr 3 1) (.tmp 3) .none .none .none,.none,[],[]⟩,
 ⟨.some 7,.call (.av (.fn n_slices_ContainsFunc_int [])) [(.tmp 6),(.av (.fn n_mix_checkContent_c1 []))],.none,[],[]⟩,
 ⟨.some 8,.mv (.tmp 7),.none,[],[]⟩,
 ⟨.some 9,.load true false 3 (.tmp 3),.some (8,false),[],[]⟩,
 ⟨.some 10,.call (.av (.fn n_mix_gases_sum [])) [(.tmp 9)],.some (8,false),[],[]⟩,
 ⟨.some 11,.bin .gtr (.tmp 10) (.av (.int .i64 1000000000)),.some (8,false),[],[]⟩,
 ⟨.some 12,.pick (.tmp 8) (.av (.bool true)) (.tmp 11),.none,[],[]⟩])
 (.cond (.tmp 12)
 (.seq (.reg false [⟨.some 2,.mv (.av (.int .i64 2)),.none,[],[]⟩])
 .ret)
 .skip))
 (.cut [] []
 (.seq (.reg false [⟨.some 2,.mv (.av (.int .i64 0)),.none,[],[]⟩])
 .ret))))),
 [.tmp 2], false⟩
theorem c_mix_checkContent : chkFunc Tryz.prog gl n_mix_checkContent a_mix_checkContent = true := by kernel_rfl
/- shotline/mix.gasesOf -/
def a_mix_gasesOf : AFunc := ⟨10,
 (.seq (.reg false [⟨.some 1,.box true (.tmp 0),.none,[],[]⟩,
 ⟨.some 2,.alloc [(.int .i64 0),(.int .i64 0),(.int .i64 0)],.none,[],[]⟩])
 (.seq (.reg false [⟨.some 3,.faddr 0 (.tmp 1),.none,[],[]⟩,
 ⟨.some 4,.load false false 1 (.tmp 3),.none,[],[]⟩,
 ⟨.some 5,.faddr 1 (.tmp 1),.none,[],[]⟩,
 ⟨.some 6,.load false false 1 (.tmp 5),.none,[],[]⟩,
 ⟨.some 7,.faddr 2 (.tmp 1),.none,[],[]⟩,
 ⟨.some 8,.load false false 1 (.tmp 7),.none,[],[]⟩,
 ⟨.some 9,.build [(.int .i64 0),(.int .i64 0),(.int .i64 0)] [(0,1,(.tmp 4)),(1,1,(.tmp 6)),(2,1,(.tmp 8))],.none,[],[]⟩,
 ⟨.none,.store 3 (.tmp 2) (.tmp 9),.none,[9],[]⟩])
 .ret)),
 [.cell true 3 2], false⟩
theorem c_mix_gasesOf : chkFunc Tryz.prog gl n_mix_gasesOf a_mix_gasesOf = true := by kernel_rfl
/- shotline/mix.within -/
def a_mix_within : AFunc := ⟨15,
 (.seq (.reg false [⟨.some 6,.mv (.av (.bool false)),.none,[],[]⟩])
 (.seq (.reg false [⟨.some 7,.mv (.tmp 1),.none,[],[]⟩,
 ⟨.some 8,.mv (.tmp 0),.none,[],[]⟩,
 ⟨.some 9,.bin .leq (.tmp 7) (.tmp 8),.none,[],[]⟩,
 ⟨.some 10,.mv (.tmp 9),.none,[],[]⟩,
 ⟨.some 11,.mv (.tmp 0),.some (10,true),[],[]⟩,
 ⟨.some 12,.mv (.tmp 2),.some (10,true),[],[]⟩,
 ⟨.some 13,.bin .leq (.tmp 11) (.tmp 12),.some (10,true),[],[]⟩,
 ⟨.some 14,.pick (.tmp 10) (.tmp 13) (.av (.bool false)),.none,[],[]⟩,
 ⟨.some 6,.mv (.tmp 14),.none,[],[]⟩])
 .ret)),
 [.tmp 6], false⟩
theorem c_mix_within : chkFunc Tryz.prog gl n_mix_within a_mix_within = true := by kernel_rfl
/- (shotline/mix.gases).share -/
def b_mix_gases_share_1 : ACode :=
 (.seq (.reg false [⟨.some 52,.bin .lss (.tmp 51) (.tmp 50),.none,[],[]⟩])
 (.seq (.cond (.tmp 52)
 .skip
 (.exit 2))
 (.cut [4,6,49,50,51] []
 (.seq (.block 3
 (.seq (.reg false [⟨.some 53,.iaddr .none 1 (.tmp 49) (.tmp 51),.none,[],[]⟩,
 ⟨.some 54,.load false false 1 (.tmp 53),.none,[],[]⟩,
 ⟨.some 13,.mv (.tmp 54),.none,[],[]⟩])
 (.reg false [⟨.some 55,.mv (.tmp 13),.none,[],[]⟩,
 ⟨.some 56,.iaddr (.some 3) 1 (.tmp 6) (.tmp 55),.none,[],[]⟩,
 ⟨.some 57,.load false false 1 (.tmp 56),.none,[],[]⟩,
 ⟨.some 58,.bin .add (.tmp 57) (.av (.int .i64 1)),.none,[],[]⟩,
 ⟨.some 59,.iaddr (.some 3) 1 (.tmp 6) (.tmp 55),.none,[],[]⟩,
 ⟨.none,.store 1 (.tmp 59) (.tmp 58),.none,[58],[]⟩])))
 (.cut [4,6,49,50,51] []
 (.reg false [⟨.some 60,.bin .add (.tmp 51) (.av (.int .i64 1)),.none,[],[]⟩,
 ⟨.some 51,.mv (.tmp 60),.none,[],[]⟩]))))))
def l_mix_gases_share_1 : ACode := .loop (.cut [4,6,49,50,51] [] b_mix_gases_share_1)
def b_mix_gases_share_2 : ACode :=
 (.seq (.reg false [⟨.some 21,.bin .lss (.tmp 20) (.av (.int .i64 3)),.none,[],[]⟩])
 (.seq (.cond (.tmp 21)
 .skip
 (.exit 0))
 (.cut [1,4,5,6,7,19,20] []
 (.seq (.block 1
 (.seq (.reg false [⟨.some 22,.mv (.tmp 20),.none,[],[]⟩,
 ⟨.some 23,.ixarr false 3 1 (.tmp 19) (.tmp 20),.none,[],[]⟩,
 ⟨.some 8,.mv (.tmp 22),.none,[],[]⟩,
 ⟨.some 9,.mv (.tmp 23),.none,[],[]⟩])
 (.reg true [⟨.some 24,.mv (.tmp 8),.none,[],[]⟩,
 ⟨.some 25,.mv (.tmp 8),.none,[],[]⟩,
 ⟨.some 26,.mv (.tmp 9),.none,[],[]⟩,
 ⟨.some 27,.mv (.tmp 1),.none,[],[]⟩,
 ⟨.some 28,.bin .mul (.tmp 26) (.tmp 27),.none,[],[]⟩,
 ⟨.some 29,.mv (.tmp 5),.none,[],[]⟩,
 ⟨.some 30,.bin .quo (.tmp 28) (.tmp 29),.none,[],[]⟩,
 ⟨.some 31,.mv (.tmp 9),.none,[],[]⟩,
 ⟨.some 32,.mv (.tmp 1),.none,[],[]⟩,
 ⟨.some 33,.bin .mul (.tmp 31) (.tmp 32),.none,[],[]⟩,
 ⟨.some 34,.mv (.tmp 5),.none,[],[]⟩,
 ⟨.some 35,.bin .rem (.tmp 33) (.tmp 34),.none,[],[]⟩,
 ⟨.some 36,.iaddr (.some 3) 1 (.tmp 6) (.tmp 24),.none,[],[]⟩,
 ⟨.none,.store 1 (.tmp 36) (.tmp 30),.none,[],[]⟩,
 ⟨.some 37,.iaddr (.some 3) 1 (.tmp 7) (.tmp 25),.none,[],[]⟩,
 ⟨.none,.store 1 (.tmp 37) (.tmp 35),.none,[],[]⟩])))
 (.cut [1,4,5,6,7,19,20] []
 (.reg false [⟨.some 38,.bin .add (.tmp 20) (.av (.int .i64 1)),.none,[],[]⟩,
 ⟨.some 20,.mv (.tmp 38),.none,[],[]⟩]))))))
def l_mix_gases_share_2 : ACode := .loop (.cut [1,4,5,6,7,19,20] [] b_mix_gases_share_2)
def a_mix_gases_share : AFunc := ⟨62,
 (.seq (.reg false [⟨.some 2,.box true (.tmp 0),.none,[],[]⟩,
 ⟨.some 4,.alloc [(.int .i64 0),(.int .i64 0),(.int .i64 0)],.none,[],[]⟩])
 (.seq (.reg false [⟨.some 14,.load true false 3 (.tmp 2),.none,[],[]⟩,
 ⟨.some 15,.call (.av (.fn n_mix_gases_sum [])) [(.tmp 14)],.none,[],[]⟩,
 ⟨.some 5,.mv (.tmp 15),.none,[],[]⟩])
 (.seq (.seq (.reg false [⟨.some 16,.mv (.tmp 5),.none,[],[]⟩,
 ⟨.some 17,.bin .eql (.tmp 16) (.av (.int .i64 0)),.none,[],[]⟩])
 (.cond (.tmp 17)
 (.seq (.reg false [⟨.some 18,.build [(.int .i64 0),(.int .i64 0),(.int .i64 0)] [],.none,[],[]⟩,
 ⟨.none,.store 3 (.tmp 4) (.tmp 18),.none,[18],[]⟩])
 .ret)
 .skip))
 (.cut [1,2,4,5] []
 (.seq (.reg false [⟨.some 6,.alloc [(.int .i64 0),(.int .i64 0),(.int .i64 0)],.none,[],[]⟩,
 ⟨.some 7,.alloc [(.int .i64 0),(.int .i64 0),(.int .i64 0)],.none,[],[]⟩])
 (.seq (.seq (.reg false [⟨.some 19,.load true false 3 (.tmp 2),.none,[],[]⟩,
 ⟨.some 20,.mv (.av (.int .i64 0)),.none,[],[]⟩])
 (.block 0
 l_mix_gases_share_2))
 (.cut [1,4,6,7] []
 (.seq (.reg false [⟨.some 39,.bslice false 1 3 [(.int .i64 0)] [(0,(.av (.int .i64 0))),(1,(.av (.int .i64 1))),(2,(.av (.int .i64 2)))],.none,[],[]⟩,
 ⟨.some 10,.mv (.tmp 39),.none,[39],[]⟩])
 (.seq (.reg false [⟨.some 40,.mv (.tmp 10),.none,[],[]⟩,
 ⟨.some 41,.mkfn n_mix_gases_share_c1 [(.tmp 7)],.none,[],[]⟩,
 ⟨.some 42,.call (.av (.fn n_slices_SortStableFunc_int [])) [(.tmp 40),(.tmp 41)],.none,[],[]⟩])
 (.seq (.reg false [⟨.some 43,.mv (.tmp 1),.none,[],[]⟩,
 ⟨.some 44,.load true false 3 (.tmp 6),.none,[],[]⟩,
 ⟨.some 45,.call (.av (.fn n_mix_gases_sum [])) [(.tmp 44)],.none,[],[]⟩,
 ⟨.some 46,.bin .sub (.tmp 43) (.tmp 45),.none,[],[]⟩,
 ⟨.some 11,.mv (.tmp 46),.none,[],[]⟩])
 (.seq (.seq (.reg false [⟨.some 47,.mv (.tmp 10),.none,[],[]⟩,
 ⟨.some 48,.mv (.tmp 11),.none,[],[]⟩,
 ⟨.some 49,.slice (.slc 1) (.tmp 47) .none (.some (.tmp 48)) .none,.none,[],[]⟩,
 ⟨.some 50,.len false (.tmp 49),.none,[],[]⟩,
 ⟨.some 51,.mv (.av (.int .i64 0)),.none,[],[]⟩])
 (.block 2
 l_mix_gases_share_1))
 (.cut [4,6] []
 (.seq (.reg false [⟨.some 61,.load true false 3 (.tmp 6),.none,[],[]⟩,
 ⟨.none,.store 3 (.tmp 4) (.tmp 61),.none,[61],[]⟩])
 .ret))))))))))))),
 [.cell true 3 4], false⟩
theorem c_mix_gases_share : chkFunc Tryz.prog gl n_mix_gases_share a_mix_gases_share = true := by kernel_rfl
/- (shotline/mix.gases).content -/
def a_mix_gases_content : AFunc := ⟨10,
 (.seq (.reg false [⟨.some 1,.box true (.tmp 0),.none,[],[]⟩,
 ⟨.some 2,.alloc [(.int .i64 0),(.int .i64 0),(.int .i64 0)],.none,[],[]⟩])
 (.seq (.reg false [⟨.some 3,.iaddr (.some 3) 1 (.tmp 1) (.av (.int .i64 0)),.none,[],[]⟩,
 ⟨.some 4,.load false false 1 (.tmp 3),.none,[],[]⟩,
 ⟨.some 5,.iaddr (.some 3) 1 (.tmp 1) (.av (.int .i64 1)),.none,[],[]⟩,
 ⟨.some 6,.load false false 1 (.tmp 5),.none,[],[]⟩,
 ⟨.some 7,.iaddr (.some 3) 1 (.tmp 1) (.av (.int .i64 2)),.none,[],[]⟩,
 ⟨.some 8,.load false false 1 (.tmp 7),.none,[],[]⟩,
 ⟨.some 9,.build [(.int .i64 0),(.int .i64 0),(.int .i64 0)] [(0,1,(.tmp 4)),(1,1,(.tmp 6)),(2,1,(.tmp 8))],.none,[],[]⟩,
 ⟨.none,.store 3 (.tmp 2) (.tmp 9),.none,[9],[]⟩])
 .ret)),
 [.cell true 3 2], false⟩
theorem c_mix_gases_content : chkFunc Tryz.prog gl n_mix_gases_content a_mix_gases_content = true := by kernel_rfl
/- shotline/mix.number -/
def a_mix_number : AFunc := ⟨29,
 (.seq (.reg false [⟨.some 4,.mv (.av (.bool false)),.none,[],[]⟩])
 (.seq (.reg false [⟨.some 8,.mv (.tmp 0),.none,[],[]⟩,
 ⟨.some 9,.call (.av (.fn n_strconv_Atoi [])) [(.tmp 8)],.none,[],[]⟩,
 ⟨.some 7,.mv (.tmp 9),.none,[],[]⟩,
 ⟨.some 10,.extract (.tmp 7) 0,.none,[],[]⟩,
 ⟨.some 11,.extract (.tmp 7) 1,.none,[],[]⟩,
 ⟨.some 5,.mv (.tmp 10),.none,[],[]⟩,
 ⟨.some 6,.mv (.tmp 11),.none,[],[]⟩])
 (.seq (.reg false [⟨.some 12,.mv (.tmp 1),.none,[],[]⟩,
 ⟨.some 13,.mv (.tmp 5),.none,[],[]⟩,
 ⟨.some 14,.nilchk (.tmp 12),.none,[],[]⟩,
 ⟨.none,.store 1 (.tmp 14) (.tmp 13),.none,[13],[]⟩])
 (.seq (.reg false [⟨.some 15,.mv (.tmp 6),.none,[],[]⟩,
 ⟨.some 16,.eq .iface false (.tmp 15) (.av .nili),.none,[],[]⟩,
 ⟨.some 17,.mv (.tmp 16),.none,[],[]⟩,
 ⟨.some 18,.mv (.tmp 5),.some (17,true),[],[]⟩,
 ⟨.some 19,.call (.av (.fn n_strconv_Itoa [])) [(.tmp 18)],.some (17,true),[],[]⟩,
 ⟨.some 20,.mv (.tmp 0),.some (17,true),[],[]⟩,
 ⟨.some 21,.bin .eql (.tmp 19) (.tmp 20),.some (17,true),[],[]⟩,
 ⟨.some 22,.pick (.tmp 17) (.tmp 21) (.av (.bool false)),.none,[],[]⟩,
 ⟨.some 23,.mv (.tmp 22),.none,[],[]⟩,
 ⟨.some 24,.mv (.tmp 0),.some (23,true),[],[]⟩,
 ⟨.some 25,.call (.av (.fn n_strings_TrimPrefix [])) [(.tmp 24),(.av (.str [45]))],.some (23,true),[],[]⟩,
 ⟨.some 26,.len true (.tmp 25),.some (23,true),[],[]⟩,
 ⟨.some 27,.bin .leq (.tmp 26) (.av (.int .i64 10)),.some (23,true),[],[]⟩,
 ⟨.some 28,.pick (.tmp 23) (.tmp 27) (.av (.bool false)),.none,[],[]⟩,
 ⟨.some 4,.mv (.tmp 28),.none,[],[]⟩])
 .ret)))),
 [.tmp 4], false⟩
theorem c_mix_number : chkFunc Tryz.prog gl n_mix_number a_mix_number = true := by kernel_rfl
/- shotline/shotlinebase.Size -/
def a_base_Size : AFunc := ⟨7,
 (.seq (.reg false [⟨.some 2,.mv (.av (.int .i64 0)),.none,[],[]⟩])
 (.seq (.reg false [⟨.some 3,.mv (.tmp 0),.none,[],[]⟩,
 ⟨.some 4,.mv (.tmp 0),.none,[],[]⟩,
 ⟨.some 5,.un .neg (.tmp 4),.none,[],[]⟩,
 ⟨.some 6,.max2 (.tmp 3) (.tmp 5),.none,[],[]⟩,
 ⟨.some 2,.mv (.tmp 6),.none,[],[]⟩])
 .ret)),
 [.tmp 2], false⟩
theorem c_base_Size : chkFunc Tryz.prog gl n_base_Size a_base_Size = true := by kernel_rfl
/- shotline/mix.read -/
def l_mix_read_1 : ACode :=
 .loop (.cut [8,26,27,28] [[10]]
 (.seq (.reg false [⟨.some 29,.bin .lss (.tmp 28) (.tmp 27),.none,[],[]⟩])
 (.seq (.cond (.tmp 29)
 .skip
 (.exit 0))
 (.cut [8,26,27,28] []
 (.seq (.block 1
 (.seq (.reg false [⟨.some 30,.mv (.tmp 28),.none,[],[]⟩,
 ⟨.some 31,.iaddr .none 8 (.tmp 26) (.tmp 28),.none,[],[]⟩,
 ⟨.some 32,.load true false 8 (.tmp 31),.none,[],[]⟩,
 ⟨.some 10,.alloc [(.int .i64 0),(.int .i64 0),(.str []),(.str []),(.int .i64 0),(.int .i64 0),(.int .i64 0),(.bool false)],.none,[],[]⟩,
 ⟨.some 9,.mv (.tmp 30),.none,[],[]⟩,
 ⟨.none,.store 8 (.tmp 10) (.tmp 32),.none,[32],[]⟩])
 (.seq (.reg false [⟨.some 33,.mv (.tmp 8),.none,[],[]⟩,
 ⟨.some 34,.load true false 8 (.tmp 10),.none,[],[]⟩,
 ⟨.some 35,.call (.av (.fn n_mix_store_enter [])) [(.tmp 33),(.tmp 34)],.none,[],[]⟩,
 ⟨.some 11,.mv (.tmp 35),.none,[],[]⟩])
 (.seq (.reg false [⟨.some 36,.mv (.tmp 11),.none,[],[]⟩,
 ⟨.some 37,.bin .neq (.tmp 36) (.av (.int .i64 0)),.none,[],[]⟩])
 (.cond (.tmp 37)
 (.seq (.reg false [⟨.some 38,.mv (.tmp 9),.none,[],[]⟩,
 ⟨.some 39,.mv (.tmp 11),.none,[],[]⟩,
 ⟨.some 4,.mv (.av .nilp),.none,[],[]⟩,
 ⟨.some 5,.mv (.tmp 38),.none,[],[]⟩,
 ⟨.some 6,.mv (.tmp 39),.none,[],[]⟩])
 .ret)
 .skip)))))
 (.cut [8,26,27,28] []
 (.reg false [⟨.some 40,.bin .add (.tmp 28) (.av (.int .i64 1)),.none,[],[]⟩,
 ⟨.some 28,.mv (.tmp 40),.none,[],[]⟩])))))))
def a_mix_read : AFunc := ⟨42,
 (.seq (.reg false [⟨.some 4,.mv (.av .nilp),.none,[],[]⟩,
 ⟨.some 5,.mv (.av (.int .i64 0)),.none,[],[]⟩,
 ⟨.some 6,.mv (.av (.int .i64 0)),.none,[],[]⟩])
 (.seq (.seq (.reg false [⟨.some 12,.mv (.tmp 0),.none,[],[]⟩,
 ⟨.some 13,.call (.av (.fn n_mix_CheckVessels [])) [(.tmp 12)],.none,[],[]⟩,
 ⟨.some 7,.mv (.tmp 13),.none,[],[]⟩])
 (.seq (.reg false [⟨.some 14,.mv (.tmp 7),.none,[],[]⟩,
 ⟨.some 15,.bin .neq (.tmp 14) (.av (.int .i64 0)),.none,[],[]⟩])
 (.cond (.tmp 15)
 (.seq (.reg false [⟨.some 16,.mv (.tmp 7),.none,[],[]⟩,
 ⟨.some 4,.mv (.av .nilp),.none,[],[]⟩,
 ⟨.some 5,.mv (.av (.int .i64 0)),.none,[],[]⟩,
 ⟨.some 6,.mv (.tmp 16),.none,[],[]⟩])
 .ret)
 .skip)))
 (.cut [0,1] []
 (.seq (.seq (.reg false [⟨.some 17,.mv (.tmp 1),.none,[],[]⟩,
 ⟨.some 18,.len false (.tmp 17),.none,[],[]⟩,
 ⟨.some 19,.bin .gtr (.tmp 18) (.av (.int .i64 200)),.none,[],[]⟩])
 (.cond (.tmp 19)
 (.seq (.reg false [⟨.some 4,.mv (.av .nilp),.none,[],[]⟩,
 ⟨.some 5,.mv (.av (.int .i64 0)),.none,[],[]⟩,
 ⟨.some 6,.mv (.av (.int .i64 8)),.none,[],[]⟩])
 .ret)
 .skip))
 (.cut [0,1] []
 (.seq (.reg false [⟨.some 20,.mv (.tmp 0),.none,[],[]⟩,
 ⟨.some 21,.mv (.tmp 0),.none,[],[]⟩,
 ⟨.some 22,.len false (.tmp 21),.none,[],[]⟩,
 ⟨.some 23,.mkslc false 3 24 [(.int .i64 0),(.int .i64 0),(.int .i64 0)] (.tmp 22) (.tmp 22),.none,[],[]⟩,
 ⟨.some 24,.build [.nils,.nils,(.int .i64 0),(.int .i64 0),(.int .i64 0),(.int .i64 0),(.int .i64 0),(.int .i64 0),(.int .i64 0)] [(0,1,(.tmp 20)),(1,1,(.tmp 23))],.none,[],[]⟩,
 ⟨.some 25,.box false (.tmp 24),.none,[],[]⟩,
 ⟨.some 8,.mv (.tmp 25),.none,[],[]⟩])
 (.seq (.seq (.reg false [⟨.some 26,.mv (.tmp 1),.none,[],[]⟩,
 ⟨.some 27,.len false (.tmp 26),.none,[],[]⟩,
 ⟨.some 28,.mv (.av (.int .i64 0)),.none,[],[]⟩])
 (.block 0
 l_mix_read_1))
 (.cut [8] []
 (.seq (.reg false [⟨.some 41,.mv (.tmp 8),.none,[],[]⟩,
 ⟨.some 4,.mv (.tmp 41),.none,[],[]⟩,
 ⟨.some 5,.mv (.av (.int .i64 0)),.none,[],[]⟩,
 ⟨.some 6,.mv (.av (.int .i64 0)),.none,[],[]⟩])
 .ret))))))))),
 [.tmp 4,.tmp 5,.tmp 6], false⟩
theorem c_mix_read : chkFunc Tryz.prog gl n_mix_read a_mix_read = true := by kernel_rfl
/- shotline/mix.vessel -/
def a_mix_vessel : AFunc := ⟨8,
 (.seq (.reg false [⟨.some 3,.box true (.tmp 1),.none,[],[]⟩,
 ⟨.some 4,.mv (.av (.int .i64 0)),.none,[],[]⟩])
 (.seq (.reg false [⟨.some 5,.mv (.tmp 0),.none,[],[]⟩,
 ⟨.some 6,.mkfn n_mix_vessel_c1 [(.tmp 3)],.none,[],[]⟩,
 ⟨.some 7,.call (.av (.fn n_slices_IndexFunc_api_MixVessel [])) [(.tmp 5),(.tmp 6)],.none,[],[]⟩,
 ⟨.some 4,.mv (.tmp 7),.none,[],[]⟩])
 .ret)),
 [.tmp 4], false⟩
theorem c_mix_vessel : chkFunc Tryz.prog gl n_mix_vessel a_mix_vessel = true := by kernel_rfl
/- shotline/mix.CheckTask -/
def l_mix_CheckTask_1 : ACode :=
 .loop (.cut [1,19,20,21] [[4]]
 (.seq (.reg false [⟨.some 22,.bin .lss (.tmp 21) (.tmp 20),.none,[],[]⟩])
 (.seq (.cond (.tmp 22)
 .skip
 (.exit 1))
 (.cut [1,19,20,21] []
 (.seq (.block 2
 (.seq (.reg false [⟨.some 23,.mv (.tmp 21),.none,[],[]⟩,
 ⟨.some 24,.iaddr .none 5 (.tmp 19) (.tmp 21),.none,[],[]⟩,
 ⟨.some 25,.load true false 5 (.tmp 24),.none,[],[]⟩,
 ⟨.some 4,.alloc [(.str []),(.int .i64 0),(.int .i64 0),(.int .i64 0),(.int .i64 0)],.none,[],[]⟩,
 ⟨.some 3,.mv (.tmp 23),.none,[],[]⟩,
 ⟨.none,.store 5 (.tmp 4) (.tmp 25),.none,[25],[]⟩])
 (.seq (.block 3
 (.seq (.reg false [⟨.some 27,.faddr 0 (.tmp 4),.none,[],[]⟩,
 ⟨.some 28,.load false false 1 (.tmp 27),.none,[],[]⟩,
 ⟨.some 29,.call (.av (.fn n_mix_isName [])) [(.tmp 28)],.none,[],[]⟩,
 ⟨.some 30,.un .not (.tmp 29),.none,[],[]⟩,
 ⟨.some 26,.mv (.tmp 30),.none,[],[]⟩])
 (.cond (.tmp 26)
 (.seq (.reg false [⟨.some 2,.mv (.av (.int .i64 4)),.none,[],[]⟩])
 .ret)
 (.seq (.reg false [⟨.some 32,.faddr 0 (.tmp 1),.none,[],[]⟩,
 ⟨.some 33,.load false false 1 (.tmp 32),.none,[],[]⟩,
 ⟨.some 34,.mv (.tmp 3),.none,[],[]⟩,
 ⟨.some 35,.slice (.slc 5) (.tmp 33) .none (.some (.tmp 34)) .none,.none,[],[]⟩,
 ⟨.some 36,.mkfn n_mix_CheckTask_c1 [(.tmp 4)],.none,[],[]⟩,
 ⟨.some 37,.call (.av (.fn n_slices_ContainsFunc_api_MixSource [])) [(.tmp 35),(.tmp 36)],.none,[],[]⟩,
 ⟨.some 31,.mv (.tmp 37),.none,[],[]⟩])
 (.cond (.tmp 31)
 (.seq (.reg false [⟨.some 2,.mv (.av (.int .i64 5)),.none,[],[]⟩])
 .ret)
 .skip)))))
 (.cut [1,4,19,20,21] []
 (.seq (.seq (.reg false [⟨.some 38,.faddr 1 (.tmp 4),.none,[],[]⟩,
 ⟨.some 39,.load true false 2 (.tmp 38),.none,[],[]⟩,
 ⟨.some 40,.call (.av (.fn n_gas_CheckGas [])) [(.tmp 39)],.none,[],[]⟩,
 ⟨.some 5,.mv (.tmp 40),.none,[],[]⟩])
 (.seq (.reg false [⟨.some 41,.mv (.tmp 5),.none,[],[]⟩,
 ⟨.some 42,.bin .neq (.tmp 41) (.av (.int .i64 0)),.none,[],[]⟩])
 (.cond (.tmp 42)
 (.seq (.reg false [⟨.some 43,.mv (.tmp 5),.none,[],[]⟩,
 ⟨.some 2,.mv (.tmp 43),.none,[],[]⟩])
 .ret)
 .skip)))
 (.cut [1,4,19,20,21] []
 (.seq (.reg false [⟨.some 44,.faddr 3 (.tmp 4),.none,[],[]⟩,
 ⟨.some 45,.load false false 1 (.tmp 44),.none,[],[]⟩,
 ⟨.some 46,.call (.av (.fn n_mix_within [])) [(.tmp 45),(.av (.int .i64 0)),(.av (.int .i64 1000))],.none,[],[]⟩,
 ⟨.some 47,.un .not (.tmp 46),.none,[],[]⟩,
 ⟨.some 48,.mv (.tmp 47),.none,[],[]⟩,
 ⟨.some 49,.faddr 4 (.tmp 4),.some (48,false),[],[]⟩,
 ⟨.some 50,.load false false 1 (.tmp 49),.some (48,false),[],[]⟩,
 ⟨.some 51,.call (.av (.fn n_mix_within [])) [(.tmp 50),(.av (.int .i64 0)),(.av (.int .i64 10000000))],.some (48,false),[],[]⟩,
 ⟨.some 52,.un .not (.tmp 51),.some (48,false),[],[]⟩,
 ⟨.some 53,.pick (.tmp 48) (.av (.bool true)) (.tmp 52),.none,[],[]⟩])
 (.cond (.tmp 53)
 (.seq (.reg false [⟨.some 2,.mv (.av (.int .i64 2)),.none,[],[]⟩])
 .ret)
 .skip))))))))
 (.cut [1,19,20,21] []
 (.reg false [⟨.some 54,.bin .add (.tmp 21) (.av (.int .i64 1)),.none,[],[]⟩,
 ⟨.some 21,.mv (.tmp 54),.none,[],[]⟩])))))))
def a_mix_CheckTask : AFunc := ⟨79,
 (.seq (.reg false [⟨.some 1,.box true (.tmp 0),.none,[],[]⟩,
 ⟨.some 2,.mv (.av (.int .i64 0)),.none,[],[]⟩])
 (.seq (.block 0
 (.seq (.reg false [⟨.some 9,.faddr 0 (.tmp 1),.none,[],[]⟩,
 ⟨.some 10,.load false false 1 (.tmp 9),.none,[],[]⟩,
 ⟨.some 11,.len false (.tmp 10),.none,[],[]⟩,
 ⟨.some 12,.bin .eql (.tmp 11) (.av (.int .i64 0)),.none,[],[]⟩,
 ⟨.some 8,.mv (.tmp 12),.none,[],[]⟩])
 (.cond (.tmp 8)
 (.seq (.reg false [⟨.some 2,.mv (.av (.int .i64 10)),.none,[],[]⟩])
 .ret)
 (.seq (.reg false [⟨.some 14,.faddr 0 (.tmp 1),.none,[],[]⟩,
 ⟨.some 15,.load false false 1 (.tmp 14),.none,[],[]⟩,
 ⟨.some 16,.len false (.tmp 15),.none,[],[]⟩,
 ⟨.some 17,.bin .gtr (.tmp 16) (.av (.int .i64 5)),.none,[],[]⟩,
 ⟨.some 13,.mv (.tmp 17),.none,[],[]⟩])
 (.cond (.tmp 13)
 (.seq (.reg false [⟨.some 2,.mv (.av (.int .i64 8)),.none,[],[]⟩])
 .ret)
 .skip)))))
 (.cut [1] []
 (.seq (.seq (.reg false [⟨.some 18,.faddr 0 (.tmp 1),.none,[],[]⟩,
 ⟨.some 19,.load false false 1 (.tmp 18),.none,[],[]⟩,
 ⟨.some 20,.len false (.tmp 19),.none,[],[]⟩,
 ⟨.some 21,.mv (.av (.int .i64 0)),.none,[],[]⟩])
 (.block 1
 l_mix_CheckTask_1))
 (.cut [1] []
 (.seq (.seq (.reg false [⟨.some 55,.faddr 1 (.tmp 1),.none,[],[]⟩,
 ⟨.some 56,.load true false 3 (.tmp 55),.none,[],[]⟩,
 ⟨.some 57,.call (.av (.fn n_mix_checkContent [])) [(.tmp 56)],.none,[],[]⟩,
 ⟨.some 6,.mv (.tmp 57),.none,[],[]⟩])
 (.seq (.reg false [⟨.some 58,.mv (.tmp 6),.none,[],[]⟩,
 ⟨.some 59,.bin .neq (.tmp 58) (.av (.int .i64 0)),.none,[],[]⟩])
 (.cond (.tmp 59)
 (.seq (.reg false [⟨.some 60,.mv (.tmp 6),.none,[],[]⟩,
 ⟨.some 2,.mv (.tmp 60),.none,[],[]⟩])
 .ret)
 .skip)))
 (.cut [1] []
 (.seq (.seq (.reg true [⟨.some 61,.faddr 4 (.tmp 1),.none,[],[]⟩,
 ⟨.some 62,.load false false 1 (.tmp 61),.none,[],[]⟩,
 ⟨.some 63,.faddr 1 (.tmp 1),.none,[],[]⟩,
 ⟨.some 64,.load true false 3 (.tmp 63),.none,[],[]⟩,
 ⟨.some 65,.call (.av (.fn n_mix_gasesOf [])) [(.tmp 64)],.none,[],[]⟩,
 ⟨.some 66,.call (.av (.fn n_mix_gases_sum [])) [(.tmp 65)],.none,[],[]⟩,
 ⟨.some 67,.max2 (.av (.int .i64 1)) (.tmp 66),.none,[],[]⟩,
 ⟨.some 68,.call (.av (.fn n_mix_within [])) [(.tmp 62),(.tmp 67),(.av (.int .i64 10000000))],.none,[],[]⟩,
 ⟨.some 69,.un .not (.tmp 68),.none,[],[]⟩])
 (.cond (.tmp 69)
 (.seq (.reg false [⟨.some 2,.mv (.av (.int .i64 2)),.none,[],[]⟩])
 .ret)
 .skip))
 (.cut [1] []
 (.seq (.seq (.reg false [⟨.some 70,.faddr 5 (.tmp 1),.none,[],[]⟩,
 ⟨.some 71,.load true false 2 (.tmp 70),.none,[],[]⟩,
 ⟨.some 72,.call (.av (.fn n_mix_shares [])) [(.tmp 71)],.none,[],[]⟩,
 ⟨.some 7,.mv (.tmp 72),.none,[],[]⟩])
 (.seq (.reg false [⟨.some 73,.mv (.tmp 7),.none,[],[]⟩,
 ⟨.some 74,.bin .neq (.tmp 73) (.av (.int .i64 0)),.none,[],[]⟩])
 (.cond (.tmp 74)
 (.seq (.reg false [⟨.some 75,.mv (.tmp 7),.none,[],[]⟩,
 ⟨.some 2,.mv (.tmp 75),.none,[],[]⟩])
 .ret)
 .skip)))
 (.cut [1] []
 (.seq (.reg false [⟨.some 76,.faddr 7 (.tmp 1),.none,[],[]⟩,
 ⟨.some 77,.load true false 2 (.tmp 76),.none,[],[]⟩,
 ⟨.some 78,.call (.av (.fn n_mix_shares [])) [(.tmp 77)],.none,[],[]⟩,
 ⟨.some 2,.mv (.tmp 78),.none,[],[]⟩])
 .ret)))))))))))),
 [.tmp 2], false⟩
theorem c_mix_CheckTask : chkFunc Tryz.prog gl n_mix_CheckTask a_mix_CheckTask = true := by kernel_rfl
/- shotline/mix.ask$1 -/
def a_mix_ask_c1 : AFunc := ⟨23,
 (.seq (.reg false [⟨.some 3,.box true (.tmp 0),.none,[],[]⟩,
 ⟨.some 5,.alloc [(.int .i64 0),(.int .i64 0)],.none,[],[]⟩])
 (.seq (.reg false [⟨.some 6,.faddr 0 (.tmp 3),.none,[],[]⟩,
 ⟨.some 7,.load false false 1 (.tmp 6),.none,[],[]⟩,
 ⟨.some 8,.faddr 4 (.tmp 2),.none,[],[]⟩,
 ⟨.some 9,.load false false 1 (.tmp 8),.none,[],[]⟩,
 ⟨.some 10,.bin .mul (.tmp 7) (.tmp 9),.none,[],[]⟩,
 ⟨.some 11,.mv (.tmp 1),.none,[],[]⟩,
 ⟨.some 12,.bin .mul (.av (.int .i64 1000)) (.tmp 11),.none,[],[]⟩,
 ⟨.some 13,.bin .sub (.tmp 10) (.tmp 12),.none,[],[]⟩,
 ⟨.some 14,.faddr 1 (.tmp 3),.none,[],[]⟩,
 ⟨.some 15,.load false false 1 (.tmp 14),.none,[],[]⟩,
 ⟨.some 16,.faddr 4 (.tmp 2),.none,[],[]⟩,
 ⟨.some 17,.load false false 1 (.tmp 16),.none,[],[]⟩,
 ⟨.some 18,.bin .mul (.tmp 15) (.tmp 17),.none,[],[]⟩,
 ⟨.some 19,.mv (.tmp 1),.none,[],[]⟩,
 ⟨.some 20,.bin .mul (.av (.int .i64 1000)) (.tmp 19),.none,[],[]⟩,
 ⟨.some 21,.bin .sub (.tmp 18) (.tmp 20),.none,[],[]⟩,
 ⟨.some 22,.build [(.int .i64 0),(.int .i64 0)] [(0,1,(.tmp 13)),(1,1,(.tmp 21))],.none,[],[]⟩,
 ⟨.none,.store 2 (.tmp 5) (.tmp 22),.none,[22],[]⟩])
 .ret)),
 [.cell true 2 5], false⟩
theorem c_mix_ask_c1 : chkFunc Tryz.prog gl n_mix_ask_c1 a_mix_ask_c1 = true := by kernel_rfl
/- slices.ContainsFunc[[]int,int] -/
def a_slices_ContainsFunc_int : AFunc := ⟨9,
 (.seq (.reg false [⟨.some 4,.mv (.av (.bool false)),.none,[],[]⟩])
 (.seq (.reg false [⟨.some 5,.mv (.tmp 0),.none,[],[]⟩,
 ⟨.some 6,.mv (.tmp 1),.none,[],[]⟩,
 ⟨.some 7,.call (.av (.fn n_slices_IndexFunc_int [])) [(.tmp 5),(.tmp 6)],.none,[],[]⟩,
 ⟨.some 8,.bin .geq (.tmp 7) (.av (.int .i64 0)),.none,[],[]⟩,
 ⟨.some 4,.mv (.tmp 8),.none,[],[]⟩])
 .ret)),
 [.tmp 4], false⟩
theorem c_slices_ContainsFunc_int : chkFunc Tryz.prog gl n_slices_ContainsFunc_int a_slices_ContainsFunc_int = true := by kernel_rfl
/- shotline/mix.checkContent$1 -/
def a_mix_checkContent_c1 : AFunc := ⟨6,
 (.seq (.reg false [⟨.some 2,.mv (.av (.bool false)),.none,[],[]⟩])
 (.seq (.reg false [⟨.some 3,.mv (.tmp 0),.none,[],[]⟩,
 ⟨.some 4,.call (.av (.fn n_mix_within [])) [(.tmp 3),(.av (.int .i64 0)),(.av (.int .i64 1000000000))],.none,[],[]⟩,
 ⟨.some 5,.un .not (.tmp 4),.none,[],[]⟩,
 ⟨.some 2,.mv (.tmp 5),.none,[],[]⟩])
 .ret)),
 [.tmp 2], false⟩
theorem c_mix_checkContent_c1 : chkFunc Tryz.prog gl n_mix_checkContent_c1 a_mix_checkContent_c1 = true := by kernel_rfl
/- slices.SortStableFunc[[]int,int] -/
def a_slices_SortStableFunc_int : AFunc := ⟨9,
 (.reg false [⟨.some 4,.mv (.tmp 0),.none,[],[]⟩,
 ⟨.some 5,.mv (.tmp 0),.none,[],[]⟩,
 ⟨.some 6,.len false (.tmp 5),.none,[],[]⟩,
 ⟨.some 7,.mv (.tmp 1),.none,[],[]⟩,
 ⟨.some 8,.call (.av (.fn n_slices_stableCmpFunc_int [])) [(.tmp 4),(.tmp 6),(.tmp 7)],.none,[],[]⟩]),
 [], false⟩
theorem c_slices_SortStableFunc_int : chkFunc Tryz.prog gl n_slices_SortStableFunc_int a_slices_SortStableFunc_int = true := by kernel_rfl
/- (shotline/mix.gases).share$1 -/
def a_mix_gases_share_c1 : AFunc := ⟨13,
 (.seq (.reg false [⟨.some 5,.mv (.av (.int .i64 0)),.none,[],[]⟩])
 (.seq (.reg true [⟨.some 6,.mv (.tmp 1),.none,[],[]⟩,
 ⟨.some 7,.iaddr (.some 3) 1 (.tmp 2) (.tmp 6),.none,[],[]⟩,
 ⟨.some 8,.load false false 1 (.tmp 7),.none,[],[]⟩,
 ⟨.some 9,.mv (.tmp 0),.none,[],[]⟩,
 ⟨.some 10,.iaddr (.some 3) 1 (.tmp 2) (.tmp 9),.none,[],[]⟩,
 ⟨.some 11,.load false false 1 (.tmp 10),.none,[],[]⟩,
 ⟨.some 12,.call (.av (.fn n_cmp_Compare_int [])) [(.tmp 8),(.tmp 11)],.none,[],[]⟩,
 ⟨.some 5,.mv (.tmp 12),.none,[],[]⟩])
 .ret)),
 [.tmp 5], false⟩
theorem c_mix_gases_share_c1 : chkFunc Tryz.prog gl n_mix_gases_share_c1 a_mix_gases_share_c1 = true := by kernel_rfl
/- cmp.Compare[int] -/
def a_cmp_Compare_int : AFunc := ⟨20,
 (.seq (.reg false [⟨.some 4,.mv (.av (.int .i64 0)),.none,[],[]⟩])
 (.seq (.reg false [⟨.some 7,.mv (.tmp 0),.none,[],[]⟩,
 ⟨.some 8,.call (.av (.fn n_cmp_isNaN_int [])) [(.tmp 7)],.none,[],[]⟩,
 ⟨.some 5,.mv (.tmp 8),.none,[],[]⟩])
 (.seq (.reg false [⟨.some 9,.mv (.tmp 1),.none,[],[]⟩,
 ⟨.some 10,.call (.av (.fn n_cmp_isNaN_int [])) [(.tmp 9)],.none,[],[]⟩,
 ⟨.some 6,.mv (.tmp 10),.none,[],[]⟩])
 (.seq (.seq (.reg false [⟨.some 11,.mv (.tmp 5),.none,[],[]⟩])
 (.cond (.tmp 11)
 (.seq (.seq (.reg false [⟨.some 12,.mv (.tmp 6),.none,[],[]⟩])
 (.cond (.tmp 12)
 (.seq (.reg false [⟨.some 4,.mv (.av (.int .i64 0)),.none,[],[]⟩])
 .ret)
 .skip))
 (.cut [] []
 (.seq (.reg false [⟨.some 4,.mv (.av (.int .i64 (-1))),.none,[],[]⟩])
 .ret)))
 .skip))
 (.cut [0,1,6] []
 (.seq (.seq (.reg false [⟨.some 13,.mv (.tmp 6),.none,[],[]⟩])
 (.cond (.tmp 13)
 (.seq (.reg false [⟨.some 4,.mv (.av (.int .i64 1)),.none,[],[]⟩])
 .ret)
 .skip))
 (.cut [0,1] []
 (.seq (.seq (.reg false [⟨.some 14,.mv (.tmp 0),.none,[],[]⟩,
 ⟨.some 15,.mv (.tmp 1),.none,[],[]⟩,
 ⟨.some 16,.bin .lss (.tmp 14) (.tmp 15),.none,[],[]⟩])
 (.cond (.tmp 16)
 (.seq (.reg false [⟨.some 4,.mv (.av (.int .i64 (-1))),.none,[],[]⟩])
 .ret)
 .skip))
 (.cut [0,1] []
 (.seq (.seq (.reg false [⟨.some 17,.mv (.tmp 0),.none,[],[]⟩,
 ⟨.some 18,.mv (.tmp 1),.none,[],[]⟩,
 ⟨.some 19,.bin .gtr (.tmp 17) (.tmp 18),.none,[],[]⟩])
 (.cond (.tmp 19)
 (.seq (.reg false [⟨.some 4,.mv (.av (.int .i64 1)),.none,[],[]⟩])
 .ret)
 .skip))
 (.cut [] []
 (.seq (.reg false [⟨.some 4,.mv (.av (.int .i64 0)),.none,[],[]⟩])
 .ret)))))))))))),
 [.tmp 4], false⟩
theorem c_cmp_Compare_int : chkFunc Tryz.prog gl n_cmp_Compare_int a_cmp_Compare_int = true := by kernel_rfl
/- shotline/mix.CheckVessels -/
def l_mix_CheckVessels_1 : ACode :=
 .loop (.cut [0,8,9,10] [[4]]
 (.seq (.reg false [⟨.some 11,.bin .lss (.tmp 10) (.tmp 9),.none,[],[]⟩])
 (.seq (.cond (.tmp 11)
 .skip
 (.exit 0))
 (.cut [0,8,9,10] []
 (.seq (.block 1
 (.seq (.reg false [⟨.some 12,.mv (.tmp 10),.none,[],[]⟩,
 ⟨.some 13,.iaddr .none 3 (.tmp 8) (.tmp 10),.none,[],[]⟩,
 ⟨.some 14,.load true false 3 (.tmp 13),.none,[],[]⟩,
 ⟨.some 4,.alloc [(.str []),(.int .i64 0),(.int .i64 0)],.none,[],[]⟩,
 ⟨.some 3,.mv (.tmp 12),.none,[],[]⟩,
 ⟨.none,.store 3 (.tmp 4) (.tmp 14),.none,[14],[]⟩])
 (.block 2
 (.seq (.reg false [⟨.some 16,.faddr 0 (.tmp 4),.none,[],[]⟩,
 ⟨.some 17,.load false false 1 (.tmp 16),.none,[],[]⟩,
 ⟨.some 18,.call (.av (.fn n_mix_isName [])) [(.tmp 17)],.none,[],[]⟩,
 ⟨.some 19,.un .not (.tmp 18),.none,[],[]⟩,
 ⟨.some 15,.mv (.tmp 19),.none,[],[]⟩])
 (.cond (.tmp 15)
 (.seq (.reg false [⟨.some 2,.mv (.av (.int .i64 4)),.none,[],[]⟩])
 .ret)
 (.seq (.reg false [⟨.some 21,.mv (.tmp 0),.none,[],[]⟩,
 ⟨.some 22,.faddr 0 (.tmp 4),.none,[],[]⟩,
 ⟨.some 23,.load false false 1 (.tmp 22),.none,[],[]⟩,
 ⟨.some 24,.call (.av (.fn n_mix_vessel [])) [(.tmp 21),(.tmp 23)],.none,[],[]⟩,
 ⟨.some 25,.mv (.tmp 3),.none,[],[]⟩,
 ⟨.some 26,.bin .lss (.tmp 24) (.tmp 25),.none,[],[]⟩,
 ⟨.some 20,.mv (.tmp 26),.none,[],[]⟩])
 (.cond (.tmp 20)
 (.seq (.reg false [⟨.some 2,.mv (.av (.int .i64 5)),.none,[],[]⟩])
 .ret)
 (.seq (.reg false [⟨.some 28,.faddr 1 (.tmp 4),.none,[],[]⟩,
 ⟨.some 29,.load false false 1 (.tmp 28),.none,[],[]⟩,
 ⟨.some 30,.call (.av (.fn n_mix_within [])) [(.tmp 29),(.av (.int .i64 1)),(.av (.int .i64 1000000))],.none,[],[]⟩,
 ⟨.some 31,.un .not (.tmp 30),.none,[],[]⟩,
 ⟨.some 32,.mv (.tmp 31),.none,[],[]⟩,
 ⟨.some 33,.faddr 2 (.tmp 4),.some (32,false),[],[]⟩,
 ⟨.some 34,.load false false 1 (.tmp 33),.some (32,false),[],[]⟩,
 ⟨.some 35,.call (.av (.fn n_mix_within [])) [(.tmp 34),(.av (.int .i64 1)),(.av (.int .i64 400000))],.some (32,false),[],[]⟩,
 ⟨.some 36,.un .not (.tmp 35),.some (32,false),[],[]⟩,
 ⟨.some 37,.pick (.tmp 32) (.av (.bool true)) (.tmp 36),.none,[],[]⟩,
 ⟨.some 27,.mv (.tmp 37),.none,[],[]⟩])
 (.cond (.tmp 27)
 (.seq (.reg false [⟨.some 2,.mv (.av (.int .i64 2)),.none,[],[]⟩])
 .ret)
 .skip)))))))))
 (.cut [0,8,9,10] []
 (.reg false [⟨.some 38,.bin .add (.tmp 10) (.av (.int .i64 1)),.none,[],[]⟩,
 ⟨.some 10,.mv (.tmp 38),.none,[],[]⟩])))))))
def a_mix_CheckVessels : AFunc := ⟨39,
 (.seq (.reg false [⟨.some 2,.mv (.av (.int .i64 0)),.none,[],[]⟩])
 (.seq (.seq (.reg false [⟨.some 5,.mv (.tmp 0),.none,[],[]⟩,
 ⟨.some 6,.len false (.tmp 5),.none,[],[]⟩,
 ⟨.some 7,.bin .gtr (.tmp 6) (.av (.int .i64 20)),.none,[],[]⟩])
 (.cond (.tmp 7)
 (.seq (.reg false [⟨.some 2,.mv (.av (.int .i64 8)),.none,[],[]⟩])
 .ret)
 .skip))
 (.cut [0] []
 (.seq (.seq (.reg false [⟨.some 8,.mv (.tmp 0),.none,[],[]⟩,
 ⟨.some 9,.len false (.tmp 8),.none,[],[]⟩,
 ⟨.some 10,.mv (.av (.int .i64 0)),.none,[],[]⟩])
 (.block 0
 l_mix_CheckVessels_1))
 (.cut [] []
 (.seq (.reg false [⟨.some 2,.mv (.av (.int .i64 0)),.none,[],[]⟩])
 .ret)))))),
 [.tmp 2], false⟩
theorem c_mix_CheckVessels : chkFunc Tryz.prog gl n_mix_CheckVessels a_mix_CheckVessels = true := by kernel_rfl
end Go.Proofs.YtifieekfojbkhaaGreatDoor
