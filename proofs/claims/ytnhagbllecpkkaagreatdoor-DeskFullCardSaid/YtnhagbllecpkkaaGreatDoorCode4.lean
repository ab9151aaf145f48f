/-
  The codes of the functions, as the abstract machine runs them, each checked against the program by the kernel.
-/
import Derived.Test.YtnhagbllecpkkaaGreatDoorCode3
set_option linter.unusedSimpArgs false
set_option linter.unusedVariables false

namespace Go.Proofs.YtnhagbllecpkkaaGreatDoor
open Go Go.VA Go.Proofs
def a_desk_fillFact_add : AFunc := ⟨10,
 (.seq (.reg false [⟨.some 3,.box true (.tmp 0),.none,[],[]⟩,⟨.some 5,.box true (.tmp 2),.none,[],[]⟩,⟨.some 6,.mv (.av (.int .i64 0)),.none,[],[]⟩])
 (.seq (.reg false [⟨.some 7,.mv (.tmp 1),.none,[],[]⟩,⟨.some 8,.load true false 8 (.tmp 3),.none,[],[]⟩,⟨.some 9,.call (.av (.fn n_desk_world_fill [])) [(.tmp 7),(.tmp 8)],.none,[],[]⟩,⟨.some 6,.mv (.tmp 9),.none,[],[]⟩])
 .ret)),
 [.tmp 6], false⟩
theorem c_desk_fillFact_add : chkFunc Tryz.prog gl n_desk_fillFact_add a_desk_fillFact_add = true := by kernel_rfl
def a_desk_world_fill : AFunc := ⟨48,
 (.seq (.reg false [⟨.some 3,.box true (.tmp 1),.none,[],[]⟩,⟨.some 4,.mv (.av (.int .i64 0)),.none,[],[]⟩])
 (.seq (.reg true [⟨.some 8,.mv (.tmp 0),.none,[],[]⟩,⟨.some 9,.nilchk (.tmp 8),.none,[],[]⟩,⟨.some 10,.faddr 0 (.tmp 9),.none,[],[]⟩,⟨.some 11,.load false false 1 (.tmp 10),.none,[],[]⟩,⟨.some 12,.nilchk (.tmp 11),.none,[],[]⟩,⟨.some 13,.faddr 0 (.tmp 12),.none,[],[]⟩,⟨.some 14,.load false false 1 (.tmp 13),.none,[],[]⟩,⟨.some 15,.mv (.tmp 0),.none,[],[]⟩,⟨.some 16,.nilchk (.tmp 15),.none,[],[]⟩,⟨.some 17,.faddr 1 (.tmp 16),.none,[],[]⟩,⟨.some 18,.faddr 0 (.tmp 17),.none,[],[]⟩,⟨.some 19,.load false false 1 (.tmp 18),.none,[],[]⟩,⟨.some 20,.load true false 8 (.tmp 3),.none,[],[]⟩,⟨.some 21,.call (.av (.fn n_mix_AddFill [])) [(.tmp 14),(.tmp 19),(.tmp 20)],.none,[],[]⟩,⟨.some 7,.mv (.tmp 21),.none,[],[]⟩,⟨.some 22,.extract (.tmp 7) 0,.none,[],[]⟩,⟨.some 23,.extract (.tmp 7) 1,.none,[],[]⟩,⟨.some 5,.mv (.tmp 22),.none,[22],[]⟩,⟨.some 6,.mv (.tmp 23),.none,[],[]⟩])
 (.seq (.seq (.reg false [⟨.some 24,.mv (.tmp 6),.none,[],[]⟩,⟨.some 25,.bin .neq (.tmp 24) (.av (.int .i64 0)),.none,[],[]⟩])
 (.cond (.tmp 25)
 (.seq (.reg false [⟨.some 26,.mv (.tmp 6),.none,[],[]⟩,⟨.some 4,.mv (.tmp 26),.none,[],[]⟩])
 .ret)
 .skip))
 (.cut [0,5] []
 (.seq (.reg false [⟨.some 27,.mv (.tmp 0),.none,[],[]⟩,⟨.some 28,.mv (.tmp 5),.none,[5],[]⟩,⟨.some 29,.nilchk (.tmp 27),.none,[],[]⟩,⟨.some 30,.faddr 1 (.tmp 29),.none,[],[]⟩,⟨.some 31,.faddr 0 (.tmp 30),.none,[],[]⟩,⟨.none,.store 1 (.tmp 31) (.tmp 28),.none,[28],[]⟩])
 (.seq (.reg false [⟨.some 33,.mv (.tmp 0),.none,[],[]⟩,⟨.some 34,.mv (.tmp 0),.none,[],[]⟩,⟨.some 35,.nilchk (.tmp 34),.none,[],[]⟩,⟨.some 36,.faddr 0 (.tmp 35),.none,[],[]⟩,⟨.some 37,.load false false 1 (.tmp 36),.none,[],[]⟩,⟨.some 38,.nilchk (.tmp 37),.none,[],[]⟩,⟨.some 39,.faddr 0 (.tmp 38),.none,[],[]⟩,⟨.some 40,.load false false 1 (.tmp 39),.none,[],[]⟩,⟨.some 41,.mv (.tmp 5),.none,[],[]⟩,⟨.some 42,.call (.av (.fn n_mix_Contents [])) [(.tmp 40),(.tmp 41)],.none,[],[]⟩,⟨.some 32,.mv (.tmp 42),.none,[],[]⟩,⟨.some 43,.extract (.tmp 32) 0,.none,[],[]⟩,⟨.some 44,.extract (.tmp 32) 1,.none,[],[]⟩,⟨.some 45,.nilchk (.tmp 33),.none,[],[]⟩,⟨.some 46,.faddr 7 (.tmp 45),.none,[],[]⟩,⟨.none,.store 1 (.tmp 46) (.tmp 43),.none,[43],[]⟩,⟨.some 6,.mv (.tmp 44),.none,[],[]⟩])
 (.seq (.reg false [⟨.some 47,.mv (.tmp 6),.none,[],[]⟩,⟨.some 4,.mv (.tmp 47),.none,[],[]⟩])
 .ret))))))),
 [.tmp 4], false⟩
theorem c_desk_world_fill : chkFunc Tryz.prog gl n_desk_world_fill a_desk_world_fill = true := by kernel_rfl
def a_mix_AddFill : AFunc := ⟨37,
 (.seq (.reg false [⟨.some 5,.box true (.tmp 2),.none,[],[]⟩,⟨.some 6,.mv (.av .nils),.none,[],[]⟩,⟨.some 7,.mv (.av (.int .i64 0)),.none,[],[]⟩])
 (.seq (.reg false [⟨.some 12,.mv (.tmp 0),.none,[],[]⟩,⟨.some 13,.mv (.tmp 1),.none,[],[]⟩,⟨.some 14,.call (.av (.fn n_mix_read [])) [(.tmp 12),(.tmp 13)],.none,[],[]⟩,⟨.some 11,.mv (.tmp 14),.none,[],[]⟩,⟨.some 15,.extract (.tmp 11) 0,.none,[],[]⟩,⟨.some 16,.extract (.tmp 11) 1,.none,[],[]⟩,⟨.some 17,.extract (.tmp 11) 2,.none,[],[]⟩,⟨.some 8,.mv (.tmp 15),.none,[],[]⟩,⟨.some 9,.mv (.tmp 16),.none,[],[]⟩,⟨.some 10,.mv (.tmp 17),.none,[],[]⟩])
 (.seq (.block 0
 (.seq (.reg false [⟨.some 19,.mv (.tmp 10),.none,[],[]⟩,⟨.some 20,.bin .neq (.tmp 19) (.av (.int .i64 0)),.none,[],[]⟩,⟨.some 18,.mv (.tmp 20),.none,[],[]⟩])
 (.cond (.tmp 18)
 (.seq (.reg false [⟨.some 21,.mv (.tmp 10),.none,[],[]⟩,⟨.some 6,.mv (.av .nils),.none,[],[]⟩,⟨.some 7,.mv (.tmp 21),.none,[],[]⟩])
 .ret)
 (.seq (.reg false [⟨.some 23,.mv (.tmp 1),.none,[],[]⟩,⟨.some 24,.len false (.tmp 23),.none,[],[]⟩,⟨.some 25,.bin .eql (.tmp 24) (.av (.int .i64 200)),.none,[],[]⟩,⟨.some 22,.mv (.tmp 25),.none,[],[]⟩])
 (.cond (.tmp 22)
 (.seq (.reg false [⟨.some 6,.mv (.av .nils),.none,[],[]⟩,⟨.some 7,.mv (.av (.int .i64 8)),.none,[],[]⟩])
 .ret)
 .skip)))))
 (.cut [1,5,8] []
 (.seq (.seq (.reg false [⟨.some 26,.mv (.tmp 8),.none,[],[]⟩,⟨.some 27,.load true false 8 (.tmp 5),.none,[],[]⟩,⟨.some 28,.call (.av (.fn n_mix_store_enter [])) [(.tmp 26),(.tmp 27)],.none,[],[]⟩,⟨.some 10,.mv (.tmp 28),.none,[],[]⟩])
 (.seq (.reg false [⟨.some 29,.mv (.tmp 10),.none,[],[]⟩,⟨.some 30,.bin .neq (.tmp 29) (.av (.int .i64 0)),.none,[],[]⟩])
 (.cond (.tmp 30)
 (.seq (.reg false [⟨.some 31,.mv (.tmp 10),.none,[],[]⟩,⟨.some 6,.mv (.av .nils),.none,[],[]⟩,⟨.some 7,.mv (.tmp 31),.none,[],[]⟩])
 .ret)
 .skip)))
 (.cut [1,5] []
 (.seq (.reg true [⟨.some 32,.mv (.tmp 1),.none,[],[]⟩,⟨.some 33,.call (.av (.fn n_slices_Clone_api_MixFill [])) [(.tmp 32)],.none,[],[1]⟩,⟨.some 34,.load true false 8 (.tmp 5),.none,[],[]⟩,⟨.some 35,.bslice true 8 1 [(.int .i64 0),(.int .i64 0),(.str []),(.str []),(.int .i64 0),(.int .i64 0),(.int .i64 0),(.bool false)] [(0,(.tmp 34))],.none,[],[]⟩,⟨.some 36,.append 8 80 (.tmp 33) (.tmp 35),.none,[33],[]⟩,⟨.some 6,.mv (.tmp 36),.none,[36],[]⟩,⟨.some 7,.mv (.av (.int .i64 0)),.none,[],[]⟩])
 .ret))))))),
 [.tmp 6,.tmp 7], false⟩
theorem c_mix_AddFill : chkFunc Tryz.prog gl n_mix_AddFill a_mix_AddFill = true := by kernel_rfl
def b_mix_Contents_1 : ACode :=
 (.seq (.reg false [⟨.some 28,.bin .lss (.tmp 27) (.tmp 26),.none,[],[]⟩])
 (.seq (.cond (.tmp 28)
 .skip
 (.exit 0))
 (.cut [9,25,26,27] []
 (.seq (.block 1
 (.seq (.reg false [⟨.some 29,.iaddr .none 3 (.tmp 25) (.tmp 27),.none,[],[]⟩,⟨.some 30,.load true false 3 (.tmp 29),.none,[],[]⟩,⟨.some 11,.alloc [(.int .i64 0),(.int .i64 0),(.int .i64 0)],.none,[],[]⟩,⟨.none,.store 3 (.tmp 11) (.tmp 30),.none,[30],[]⟩])
 (.reg false [⟨.some 31,.mv (.tmp 9),.none,[9],[]⟩,⟨.some 32,.load true false 3 (.tmp 11),.none,[],[]⟩,⟨.some 33,.call (.av (.fn n_mix_gases_content [])) [(.tmp 32)],.none,[],[]⟩,⟨.some 34,.bslice true 3 1 [(.int .i64 0),(.int .i64 0),(.int .i64 0)] [(0,(.tmp 33))],.none,[],[]⟩,⟨.some 35,.append 3 24 (.tmp 31) (.tmp 34),.none,[31],[]⟩,⟨.some 9,.mv (.tmp 35),.none,[35],[]⟩])))
 (.cut [9,25,26,27] []
 (.reg false [⟨.some 36,.bin .add (.tmp 27) (.av (.int .i64 1)),.none,[],[]⟩,⟨.some 27,.mv (.tmp 36),.none,[],[]⟩]))))))
def l_mix_Contents_1 : ACode := .loop (.cut [9,25,26,27] [[11]] b_mix_Contents_1)
@[simp] def t_mix_Contents_1 : ACode :=
 (.cut [9] []
 (.seq (.reg false [⟨.some 37,.mv (.tmp 9),.none,[9],[]⟩,⟨.some 4,.mv (.tmp 37),.none,[37],[]⟩,⟨.some 5,.mv (.av (.int .i64 0)),.none,[],[]⟩])
 .ret))
def a_mix_Contents : AFunc := ⟨38,
 (.seq (.reg false [⟨.some 4,.mv (.av .nils),.none,[],[]⟩,⟨.some 5,.mv (.av (.int .i64 0)),.none,[],[]⟩])
 (.seq (.reg false [⟨.some 13,.mv (.tmp 0),.none,[],[]⟩,⟨.some 14,.mv (.tmp 1),.none,[],[]⟩,⟨.some 15,.call (.av (.fn n_mix_read [])) [(.tmp 13),(.tmp 14)],.none,[],[]⟩,⟨.some 12,.mv (.tmp 15),.none,[],[]⟩,⟨.some 16,.extract (.tmp 12) 0,.none,[],[]⟩,⟨.some 17,.extract (.tmp 12) 1,.none,[],[]⟩,⟨.some 18,.extract (.tmp 12) 2,.none,[],[]⟩,⟨.some 6,.mv (.tmp 16),.none,[],[]⟩,⟨.some 7,.mv (.tmp 17),.none,[],[]⟩,⟨.some 8,.mv (.tmp 18),.none,[],[]⟩])
 (.seq (.seq (.reg false [⟨.some 19,.mv (.tmp 8),.none,[],[]⟩,⟨.some 20,.bin .neq (.tmp 19) (.av (.int .i64 0)),.none,[],[]⟩])
 (.cond (.tmp 20)
 (.seq (.reg false [⟨.some 21,.mv (.tmp 8),.none,[],[]⟩,⟨.some 4,.mv (.av .nils),.none,[],[]⟩,⟨.some 5,.mv (.tmp 21),.none,[],[]⟩])
 .ret)
 .skip))
 (.cut [6] []
 (.seq (.reg false [⟨.some 9,.mv (.av .nils),.none,[],[]⟩])
 (.seq (.seq (.reg false [⟨.some 22,.mv (.tmp 6),.none,[],[]⟩,⟨.some 23,.nilchk (.tmp 22),.none,[],[]⟩,⟨.some 24,.faddr 1 (.tmp 23),.none,[],[]⟩,⟨.some 25,.load false false 1 (.tmp 24),.none,[],[]⟩,⟨.some 26,.len false (.tmp 25),.none,[],[]⟩,⟨.some 27,.mv (.av (.int .i64 0)),.none,[],[]⟩])
 (.block 0
 l_mix_Contents_1))
 t_mix_Contents_1)))))),
 [.tmp 4,.tmp 5], false⟩
theorem c_mix_Contents : chkFunc Tryz.prog gl n_mix_Contents a_mix_Contents = true := by kernel_rfl
def a_desk_planFact_add : AFunc := ⟨23,
 (.seq (.reg false [⟨.some 3,.box true (.tmp 0),.none,[],[]⟩,⟨.some 5,.box true (.tmp 2),.none,[],[]⟩,⟨.some 6,.mv (.av (.int .i64 0)),.none,[],[]⟩])
 (.seq (.seq (.reg false [⟨.some 7,.mv (.tmp 1),.none,[],[]⟩,⟨.some 8,.faddr 0 (.tmp 3),.none,[],[]⟩,⟨.some 9,.load false false 1 (.tmp 8),.none,[],[]⟩,⟨.some 10,.call (.av (.fn n_desk_world_plan [])) [(.tmp 7),(.tmp 9)],.none,[],[]⟩,⟨.some 11,.bin .geq (.tmp 10) (.av (.int .i64 0)),.none,[],[]⟩])
 (.cond (.tmp 11)
 (.seq (.reg false [⟨.some 6,.mv (.av (.int .i64 5)),.none,[],[]⟩])
 .ret)
 .skip))
 (.cut [1,3] []
 (.seq (.reg true [⟨.some 12,.mv (.tmp 1),.none,[],[]⟩,⟨.some 13,.mv (.tmp 1),.none,[],[]⟩,⟨.some 14,.nilchk (.tmp 13),.none,[],[]⟩,⟨.some 15,.faddr 1 (.tmp 14),.none,[],[]⟩,⟨.some 16,.faddr 2 (.tmp 15),.none,[],[]⟩,⟨.some 17,.load false false 1 (.tmp 16),.none,[],[]⟩,⟨.some 18,.load true false 4 (.tmp 3),.none,[],[]⟩,⟨.some 19,.call (.av (.fn n_desk_with_api_DivePlan [])) [(.tmp 17),(.tmp 18)],.none,[],[]⟩,⟨.some 20,.nilchk (.tmp 12),.none,[],[]⟩,⟨.some 21,.faddr 1 (.tmp 20),.none,[],[]⟩,⟨.some 22,.faddr 2 (.tmp 21),.none,[],[]⟩,⟨.none,.store 1 (.tmp 22) (.tmp 19),.none,[19],[]⟩])
 (.seq (.reg false [⟨.some 6,.mv (.av (.int .i64 0)),.none,[],[]⟩])
 .ret))))),
 [.tmp 6], false⟩
theorem c_desk_planFact_add : chkFunc Tryz.prog gl n_desk_planFact_add a_desk_planFact_add = true := by kernel_rfl
def a_desk_with_api_DivePlan : AFunc := ⟨10,
 (.seq (.reg false [⟨.some 3,.box true (.tmp 1),.none,[],[]⟩,⟨.some 4,.mv (.av .nils),.none,[],[]⟩])
 (.seq (.reg true [⟨.some 5,.mv (.tmp 0),.none,[],[]⟩,⟨.some 6,.call (.av (.fn n_slices_Clip_api_DivePlan [])) [(.tmp 5)],.none,[],[1]⟩,⟨.some 7,.load true false 4 (.tmp 3),.none,[],[]⟩,⟨.some 8,.bslice true 4 1 [(.str []),(.int .i64 0),.nils,.nils] [(0,(.tmp 7))],.none,[],[]⟩,⟨.some 9,.append 4 72 (.tmp 6) (.tmp 8),.none,[6],[]⟩,⟨.some 4,.mv (.tmp 9),.none,[9],[]⟩])
 .ret)),
 [.tmp 4], false⟩
theorem c_desk_with_api_DivePlan : chkFunc Tryz.prog gl n_desk_with_api_DivePlan a_desk_with_api_DivePlan = true := by kernel_rfl
def a_slices_Clip_api_DivePlan : AFunc := ⟨9,
 (.seq (.reg false [⟨.some 2,.mv (.av .nils),.none,[],[]⟩])
 (.seq (.reg false [⟨.some 3,.mv (.tmp 0),.none,[],[]⟩,⟨.some 4,.mv (.tmp 0),.none,[],[]⟩,⟨.some 5,.len false (.tmp 4),.none,[],[]⟩,⟨.some 6,.mv (.tmp 0),.none,[],[]⟩,⟨.some 7,.len false (.tmp 6),.none,[],[]⟩,⟨.some 8,.slice (.slc 4) (.tmp 3) .none (.some (.tmp 5)) (.some (.tmp 7)),.none,[],[]⟩,⟨.some 2,.mv (.tmp 8),.none,[8],[]⟩])
 .ret)),
 [.tmp 2], false⟩
theorem c_slices_Clip_api_DivePlan : chkFunc Tryz.prog gl n_slices_Clip_api_DivePlan a_slices_Clip_api_DivePlan = true := by kernel_rfl
def b_desk_diveFact_add_1 : ACode :=
 (.seq (.reg false [⟨.some 57,.bin .lss (.tmp 56) (.tmp 55),.none,[],[]⟩])
 (.seq (.cond (.tmp 57)
 .skip
 (.exit 0))
 (.cut [1,7,9,54,55,56] []
 (.seq (.block 1
 (.seq (.reg false [⟨.some 58,.mv (.tmp 56),.none,[],[]⟩,⟨.some 59,.iaddr .none 1 (.tmp 54) (.tmp 56),.none,[],[]⟩,⟨.some 60,.load false false 1 (.tmp 59),.none,[],[]⟩,⟨.some 12,.alloc [(.str [])],.none,[],[]⟩,⟨.some 11,.mv (.tmp 58),.none,[],[]⟩,⟨.none,.store 1 (.tmp 12) (.tmp 60),.none,[60],[]⟩])
 (.seq (.seq (.reg false [⟨.some 61,.mv (.tmp 1),.none,[],[]⟩,⟨.some 62,.nilchk (.tmp 61),.none,[],[]⟩,⟨.some 63,.faddr 0 (.tmp 62),.none,[],[]⟩,⟨.some 64,.load false false 1 (.tmp 63),.none,[],[]⟩,⟨.some 65,.nilchk (.tmp 64),.none,[],[]⟩,⟨.some 66,.faddr 1 (.tmp 65),.none,[],[]⟩,⟨.some 67,.faddr 0 (.tmp 66),.none,[],[]⟩,⟨.some 68,.load false false 1 (.tmp 67),.none,[],[]⟩,⟨.some 69,.mkfn n_desk_diveFact_add_c1 [(.tmp 12)],.none,[],[]⟩,⟨.some 70,.call (.av (.fn n_slices_ContainsFunc_api_KitItem [])) [(.tmp 68),(.tmp 69)],.none,[],[]⟩])
 (.cond (.tmp 70)
 (.seq (.reg false [⟨.some 71,.mv (.tmp 1),.none,[],[]⟩,⟨.some 72,.faddr 3 (.tmp 7),.none,[],[]⟩,⟨.some 73,.load false false 1 (.tmp 72),.none,[],[]⟩,⟨.some 74,.load false false 1 (.tmp 12),.none,[],[]⟩,⟨.some 75,.build [(.int .i64 0),(.int .i64 0),(.str []),(.str []),(.str []),(.bool false)] [(0,1,(.av (.int .i64 1))),(1,1,(.tmp 73)),(2,1,(.tmp 74))],.none,[],[]⟩,⟨.some 76,.call (.av (.fn n_desk_world_event [])) [(.tmp 71),(.tmp 75)],.none,[],[]⟩,⟨.some 13,.mv (.tmp 76),.none,[],[]⟩])
 (.seq (.reg false [⟨.some 77,.mv (.tmp 13),.none,[],[]⟩,⟨.some 78,.bin .neq (.tmp 77) (.av (.int .i64 0)),.none,[],[]⟩])
 (.cond (.tmp 78)
 (.seq (.reg false [⟨.some 79,.mv (.tmp 13),.none,[],[]⟩,⟨.some 6,.mv (.tmp 79),.none,[],[]⟩])
 .ret)
 .skip)))
 .skip))
 (.cut [1,7,9,11,12,54,55,56] []
 (.seq (.reg false [⟨.some 80,.mv (.tmp 9),.none,[],[]⟩,⟨.some 81,.mv (.tmp 11),.none,[],[]⟩,⟨.some 82,.iaddr .none 1 (.tmp 80) (.tmp 81),.none,[],[]⟩,⟨.some 83,.load false false 1 (.tmp 82),.none,[],[]⟩,⟨.some 84,.bin .gtr (.tmp 83) (.av (.int .i64 0)),.none,[],[]⟩])
 (.cond (.tmp 84)
 (.seq (.reg true [⟨.some 85,.mv (.tmp 1),.none,[],[]⟩,⟨.some 86,.faddr 3 (.tmp 7),.none,[],[]⟩,⟨.some 87,.load false false 1 (.tmp 86),.none,[],[]⟩,⟨.some 88,.load false false 1 (.tmp 12),.none,[],[]⟩,⟨.some 89,.mv (.tmp 9),.none,[],[]⟩,⟨.some 90,.mv (.tmp 11),.none,[],[]⟩,⟨.some 91,.iaddr .none 1 (.tmp 89) (.tmp 90),.none,[],[]⟩,⟨.some 92,.load false false 1 (.tmp 91),.none,[],[]⟩,⟨.some 93,.build [(.int .i64 0),(.int .i64 0),(.str []),(.str []),(.int .i64 0),(.int .i64 0),(.int .i64 0),(.bool false)] [(0,1,(.av (.int .i64 2))),(1,1,(.tmp 87)),(2,1,(.tmp 88)),(6,1,(.tmp 92))],.none,[],[]⟩,⟨.some 94,.call (.av (.fn n_desk_world_fill [])) [(.tmp 85),(.tmp 93)],.none,[],[]⟩,⟨.some 14,.mv (.tmp 94),.none,[],[]⟩])
 (.seq (.reg false [⟨.some 95,.mv (.tmp 14),.none,[],[]⟩,⟨.some 96,.bin .neq (.tmp 95) (.av (.int .i64 0)),.none,[],[]⟩])
 (.cond (.tmp 96)
 (.seq (.reg false [⟨.some 97,.mv (.tmp 14),.none,[],[]⟩,⟨.some 6,.mv (.tmp 97),.none,[],[]⟩])
 .ret)
 .skip)))
 .skip))))))
 (.cut [1,7,9,54,55,56] []
 (.reg false [⟨.some 98,.bin .add (.tmp 56) (.av (.int .i64 1)),.none,[],[]⟩,⟨.some 56,.mv (.tmp 98),.none,[],[]⟩]))))))
def l_desk_diveFact_add_1 : ACode := .loop (.cut [1,7,9,54,55,56] [[12]] b_desk_diveFact_add_1)
@[simp] def t_desk_diveFact_add_1 : ACode :=
 (.cut [1,7] []
 (.seq (.reg true [⟨.some 99,.mv (.tmp 1),.none,[],[]⟩,⟨.some 100,.mv (.tmp 1),.none,[],[]⟩,⟨.some 101,.nilchk (.tmp 100),.none,[],[]⟩,⟨.some 102,.faddr 1 (.tmp 101),.none,[],[]⟩,⟨.some 103,.faddr 3 (.tmp 102),.none,[],[]⟩,⟨.some 104,.load false false 1 (.tmp 103),.none,[],[]⟩,⟨.some 105,.load true false 6 (.tmp 7),.none,[],[]⟩,⟨.some 106,.call (.av (.fn n_desk_with_api_DeskDive [])) [(.tmp 104),(.tmp 105)],.none,[],[]⟩,⟨.some 107,.nilchk (.tmp 99),.none,[],[]⟩,⟨.some 108,.faddr 1 (.tmp 107),.none,[],[]⟩,⟨.some 109,.faddr 3 (.tmp 108),.none,[],[]⟩,⟨.none,.store 1 (.tmp 109) (.tmp 106),.none,[106],[]⟩])
 (.seq (.reg false [⟨.some 6,.mv (.av (.int .i64 0)),.none,[],[]⟩])
 .ret)))
def a_desk_diveFact_add : AFunc := ⟨110,
 (.seq (.reg false [⟨.some 3,.box true (.tmp 0),.none,[],[]⟩,⟨.some 5,.box true (.tmp 2),.none,[],[]⟩,⟨.some 6,.mv (.av (.int .i64 0)),.none,[],[]⟩])
 (.seq (.reg false [⟨.some 15,.load true false 6 (.tmp 3),.none,[],[]⟩,⟨.some 7,.alloc [(.str []),(.str []),(.str []),(.int .i64 0),(.int .i64 0),.nils],.none,[],[]⟩,⟨.none,.store 6 (.tmp 7) (.tmp 15),.none,[15],[]⟩])
 (.seq (.seq (.reg false [⟨.some 16,.mv (.tmp 1),.none,[],[]⟩,⟨.some 17,.load true false 6 (.tmp 7),.none,[],[]⟩,⟨.some 18,.load true false 2 (.tmp 5),.none,[],[]⟩,⟨.some 19,.call (.av (.fn n_desk_world_checkDive [])) [(.tmp 16),(.tmp 17),(.tmp 18)],.none,[],[]⟩,⟨.some 8,.mv (.tmp 19),.none,[],[]⟩])
 (.seq (.reg false [⟨.some 20,.mv (.tmp 8),.none,[],[]⟩,⟨.some 21,.bin .neq (.tmp 20) (.av (.int .i64 0)),.none,[],[]⟩])
 (.cond (.tmp 21)
 (.seq (.reg false [⟨.some 22,.mv (.tmp 8),.none,[],[]⟩,⟨.some 6,.mv (.tmp 22),.none,[],[]⟩])
 .ret)
 .skip)))
 (.cut [1,7] []
 (.seq (.reg true [⟨.some 23,.mv (.tmp 1),.none,[],[]⟩,⟨.some 24,.mv (.tmp 1),.none,[],[]⟩,⟨.some 25,.nilchk (.tmp 24),.none,[],[]⟩,⟨.some 26,.faddr 8 (.tmp 25),.none,[],[]⟩,⟨.some 27,.load false false 1 (.tmp 26),.none,[],[]⟩,⟨.some 28,.mv (.tmp 1),.none,[],[]⟩,⟨.some 29,.nilchk (.tmp 28),.none,[],[]⟩,⟨.some 30,.faddr 7 (.tmp 29),.none,[],[]⟩,⟨.some 31,.load false false 1 (.tmp 30),.none,[],[]⟩,⟨.some 32,.call (.av (.fn n_desk_with_api_MixContent_299 [])) [(.tmp 27),(.tmp 31)],.none,[],[]⟩,⟨.some 33,.nilchk (.tmp 23),.none,[],[]⟩,⟨.some 34,.faddr 8 (.tmp 33),.none,[],[]⟩,⟨.none,.store 1 (.tmp 34) (.tmp 32),.none,[32],[]⟩])
 (.seq (.reg true [⟨.some 36,.mv (.tmp 1),.none,[],[]⟩,⟨.some 37,.load true false 6 (.tmp 7),.none,[],[]⟩,⟨.some 38,.call (.av (.fn n_desk_world_planOf [])) [(.tmp 36),(.tmp 37)],.none,[],[2]⟩,⟨.some 39,.mv (.tmp 1),.none,[],[]⟩,⟨.some 40,.nilchk (.tmp 39),.none,[],[]⟩,⟨.some 41,.faddr 0 (.tmp 40),.none,[],[]⟩,⟨.some 42,.load false false 1 (.tmp 41),.none,[],[]⟩,⟨.some 43,.nilchk (.tmp 42),.none,[],[]⟩,⟨.some 44,.faddr 4 (.tmp 43),.none,[],[]⟩,⟨.some 45,.faddr 5 (.tmp 44),.none,[],[]⟩,⟨.some 46,.load false false 1 (.tmp 45),.none,[],[]⟩,⟨.some 47,.call (.av (.fn n_exposure_Consumed [])) [(.tmp 38),(.tmp 46)],.none,[],[]⟩,⟨.some 35,.mv (.tmp 47),.none,[],[]⟩,⟨.some 48,.extract (.tmp 35) 0,.none,[],[]⟩,⟨.some 49,.extract (.tmp 35) 1,.none,[],[]⟩,⟨.some 9,.mv (.tmp 48),.none,[48],[]⟩,⟨.some 10,.mv (.tmp 49),.none,[],[]⟩])
 (.seq (.seq (.reg false [⟨.some 50,.mv (.tmp 10),.none,[],[]⟩,⟨.some 51,.bin .neq (.tmp 50) (.av (.int .i64 0)),.none,[],[]⟩])
 (.cond (.tmp 51)
 (.seq (.reg false [⟨.some 52,.mv (.tmp 10),.none,[],[]⟩,⟨.some 6,.mv (.tmp 52),.none,[],[]⟩])
 .ret)
 .skip))
 (.cut [1,7,9] []
 (.seq (.seq (.reg false [⟨.some 53,.faddr 5 (.tmp 7),.none,[],[]⟩,⟨.some 54,.load false false 1 (.tmp 53),.none,[],[]⟩,⟨.some 55,.len false (.tmp 54),.none,[],[]⟩,⟨.some 56,.mv (.av (.int .i64 0)),.none,[],[]⟩])
 (.block 0
 l_desk_diveFact_add_1))
 t_desk_diveFact_add_1))))))))),
 [.tmp 6], false⟩
theorem c_desk_diveFact_add : chkFunc Tryz.prog gl n_desk_diveFact_add a_desk_diveFact_add = true := by kernel_rfl
def b_desk_world_checkDive_1 : ACode :=
 (.seq (.reg false [⟨.some 89,.bin .lss (.tmp 88) (.tmp 87),.none,[],[]⟩])
 (.seq (.cond (.tmp 89)
 .skip
 (.exit 4))
 (.cut [0,4,9,86,87,88] []
 (.seq (.block 5
 (.seq (.reg false [⟨.some 90,.iaddr .none 6 (.tmp 86) (.tmp 88),.none,[],[]⟩,⟨.some 91,.load true false 6 (.tmp 90),.none,[],[]⟩,⟨.some 12,.alloc [(.str []),(.str []),(.str []),(.int .i64 0),(.int .i64 0),.nils],.none,[],[]⟩,⟨.none,.store 6 (.tmp 12) (.tmp 91),.none,[91],[]⟩])
 (.seq (.reg false [⟨.some 93,.mv (.tmp 0),.none,[],[]⟩,⟨.some 94,.load true false 6 (.tmp 12),.none,[],[]⟩,⟨.some 95,.call (.av (.fn n_desk_world_span [])) [(.tmp 93),(.tmp 94)],.none,[],[]⟩,⟨.some 92,.mv (.tmp 95),.none,[],[]⟩,⟨.some 96,.extract (.tmp 92) 0,.none,[],[]⟩,⟨.some 97,.extract (.tmp 92) 1,.none,[],[]⟩,⟨.some 13,.mv (.tmp 96),.none,[],[]⟩,⟨.some 14,.mv (.tmp 97),.none,[],[]⟩])
 (.seq (.reg false [⟨.some 98,.faddr 2 (.tmp 12),.none,[],[]⟩,⟨.some 99,.load false false 1 (.tmp 98),.none,[],[]⟩,⟨.some 100,.faddr 2 (.tmp 4),.none,[],[]⟩,⟨.some 101,.load false false 1 (.tmp 100),.none,[],[]⟩,⟨.some 102,.bin .eql (.tmp 99) (.tmp 101),.none,[],[]⟩,⟨.some 103,.mv (.tmp 102),.none,[],[]⟩,⟨.some 104,.mv (.tmp 9),.some (103,true),[],[]⟩,⟨.some 105,.mv (.tmp 14),.some (103,true),[],[]⟩,⟨.some 106,.bin .lss (.tmp 104) (.tmp 105),.some (103,true),[],[]⟩,⟨.some 107,.pick (.tmp 103) (.tmp 106) (.av (.bool false)),.none,[],[]⟩])
 (.cond (.tmp 107)
 (.seq (.reg false [⟨.some 6,.mv (.av (.int .i64 17)),.none,[],[]⟩])
 .ret)
 .skip)))))
 (.cut [0,4,9,86,87,88] []
 (.reg false [⟨.some 108,.bin .add (.tmp 88) (.av (.int .i64 1)),.none,[],[]⟩,⟨.some 88,.mv (.tmp 108),.none,[],[]⟩]))))))
def l_desk_world_checkDive_1 : ACode := .loop (.cut [0,4,9,86,87,88] [[12]] b_desk_world_checkDive_1)
def b_desk_world_checkDive_2 : ACode :=
 (.seq (.reg false [⟨.some 59,.bin .lss (.tmp 58) (.tmp 57),.none,[],[]⟩])
 (.seq (.cond (.tmp 59)
 .skip
 (.exit 1))
 (.cut [0,4,56,57,58] []
 (.seq (.block 2
 (.seq (.reg false [⟨.some 60,.mv (.tmp 58),.none,[],[]⟩,⟨.some 61,.iaddr .none 1 (.tmp 56) (.tmp 58),.none,[],[]⟩,⟨.some 62,.load false false 1 (.tmp 61),.none,[],[]⟩,⟨.some 7,.mv (.tmp 60),.none,[],[]⟩,⟨.some 8,.mv (.tmp 62),.none,[],[]⟩])
 (.block 3
 (.seq (.reg false [⟨.some 64,.mv (.tmp 0),.none,[],[]⟩,⟨.some 65,.mv (.tmp 8),.none,[],[]⟩,⟨.some 66,.call (.av (.fn n_desk_world_vessel [])) [(.tmp 64),(.tmp 65)],.none,[],[]⟩,⟨.some 67,.bin .lss (.tmp 66) (.av (.int .i64 0)),.none,[],[]⟩,⟨.some 63,.mv (.tmp 67),.none,[],[]⟩])
 (.cond (.tmp 63)
 (.seq (.reg false [⟨.some 6,.mv (.av (.int .i64 6)),.none,[],[]⟩])
 .ret)
 (.seq (.reg false [⟨.some 69,.faddr 5 (.tmp 4),.none,[],[]⟩,⟨.some 70,.load false false 1 (.tmp 69),.none,[],[]⟩,⟨.some 71,.mv (.tmp 7),.none,[],[]⟩,⟨.some 72,.slice (.slc 1) (.tmp 70) .none (.some (.tmp 71)) .none,.none,[],[]⟩,⟨.some 73,.mv (.tmp 8),.none,[],[]⟩,⟨.some 74,.call (.av (.fn n_slices_Contains_string [])) [(.tmp 72),(.tmp 73)],.none,[],[]⟩,⟨.some 68,.mv (.tmp 74),.none,[],[]⟩])
 (.cond (.tmp 68)
 (.seq (.reg false [⟨.some 6,.mv (.av (.int .i64 28)),.none,[],[]⟩])
 .ret)
 .skip)))))))
 (.cut [0,4,56,57,58] []
 (.reg false [⟨.some 75,.bin .add (.tmp 58) (.av (.int .i64 1)),.none,[],[]⟩,⟨.some 58,.mv (.tmp 75),.none,[],[]⟩]))))))
def l_desk_world_checkDive_2 : ACode := .loop (.cut [0,4,56,57,58] [] b_desk_world_checkDive_2)
@[simp] def t_desk_world_checkDive_1 : ACode :=
 (.cut [] []
 (.seq (.reg false [⟨.some 6,.mv (.av (.int .i64 0)),.none,[],[]⟩])
 .ret))
@[simp] def t_desk_world_checkDive_2 : ACode :=
 (.cut [0,4] []
 (.seq (.reg false [⟨.some 77,.mv (.tmp 0),.none,[],[]⟩,⟨.some 78,.load true false 6 (.tmp 4),.none,[],[]⟩,⟨.some 79,.call (.av (.fn n_desk_world_span [])) [(.tmp 77),(.tmp 78)],.none,[],[]⟩,⟨.some 76,.mv (.tmp 79),.none,[],[]⟩,⟨.some 80,.extract (.tmp 76) 0,.none,[],[]⟩,⟨.some 81,.extract (.tmp 76) 1,.none,[],[]⟩,⟨.some 9,.mv (.tmp 80),.none,[],[]⟩,⟨.some 10,.mv (.tmp 81),.none,[],[]⟩])
 (.seq (.seq (.reg false [⟨.some 82,.mv (.tmp 0),.none,[],[]⟩,⟨.some 83,.nilchk (.tmp 82),.none,[],[]⟩,⟨.some 84,.faddr 1 (.tmp 83),.none,[],[]⟩,⟨.some 85,.faddr 3 (.tmp 84),.none,[],[]⟩,⟨.some 86,.load false false 1 (.tmp 85),.none,[],[]⟩,⟨.some 87,.len false (.tmp 86),.none,[],[]⟩,⟨.some 88,.mv (.av (.int .i64 0)),.none,[],[]⟩])
 (.block 4
 l_desk_world_checkDive_1))
 t_desk_world_checkDive_1)))
def a_desk_world_checkDive : AFunc := ⟨109,
 (.seq (.reg false [⟨.some 4,.box true (.tmp 1),.none,[],[]⟩,⟨.some 5,.box true (.tmp 2),.none,[],[]⟩,⟨.some 6,.mv (.av (.int .i64 0)),.none,[],[]⟩])
 (.seq (.block 0
 (.seq (.reg false [⟨.some 16,.mv (.tmp 0),.none,[],[]⟩,⟨.some 17,.faddr 0 (.tmp 4),.none,[],[]⟩,⟨.some 18,.load false false 1 (.tmp 17),.none,[],[]⟩,⟨.some 19,.call (.av (.fn n_desk_world_dive [])) [(.tmp 16),(.tmp 18)],.none,[],[]⟩,⟨.some 20,.bin .geq (.tmp 19) (.av (.int .i64 0)),.none,[],[]⟩,⟨.some 15,.mv (.tmp 20),.none,[],[]⟩])
 (.cond (.tmp 15)
 (.seq (.reg false [⟨.some 6,.mv (.av (.int .i64 5)),.none,[],[]⟩])
 .ret)
 (.seq (.reg false [⟨.some 22,.mv (.tmp 0),.none,[],[]⟩,⟨.some 23,.faddr 1 (.tmp 4),.none,[],[]⟩,⟨.some 24,.load false false 1 (.tmp 23),.none,[],[]⟩,⟨.some 25,.call (.av (.fn n_desk_world_plan [])) [(.tmp 22),(.tmp 24)],.none,[],[]⟩,⟨.some 26,.bin .lss (.tmp 25) (.av (.int .i64 0)),.none,[],[]⟩,⟨.some 27,.mv (.tmp 26),.none,[],[]⟩,⟨.some 28,.mv (.tmp 0),.some (27,false),[],[]⟩,⟨.some 29,.faddr 2 (.tmp 4),.some (27,false),[],[]⟩,⟨.some 30,.load false false 1 (.tmp 29),.some (27,false),[],[]⟩,⟨.some 31,.call (.av (.fn n_desk_world_person [])) [(.tmp 28),(.tmp 30)],.some (27,false),[],[]⟩,⟨.some 32,.bin .lss (.tmp 31) (.av (.int .i64 0)),.some (27,false),[],[]⟩,⟨.some 33,.pick (.tmp 27) (.av (.bool true)) (.tmp 32),.none,[],[]⟩,⟨.some 21,.mv (.tmp 33),.none,[],[]⟩])
 (.cond (.tmp 21)
 (.seq (.reg false [⟨.some 6,.mv (.av (.int .i64 6)),.none,[],[]⟩])
 .ret)
 (.seq (.reg false [⟨.some 35,.faddr 1 (.tmp 5),.none,[],[]⟩,⟨.some 36,.load false false 1 (.tmp 35),.none,[],[]⟩,⟨.some 37,.bin .eql (.tmp 36) (.av (.int .i64 1)),.none,[],[]⟩,⟨.some 38,.mv (.tmp 37),.none,[],[]⟩,⟨.some 39,.faddr 0 (.tmp 5),.some (38,true),[],[]⟩,⟨.some 40,.load false false 1 (.tmp 39),.some (38,true),[],[]⟩,⟨.some 41,.faddr 2 (.tmp 4),.some (38,true),[],[]⟩,⟨.some 42,.load false false 1 (.tmp 41),.some (38,true),[],[]⟩,⟨.some 43,.bin .neq (.tmp 40) (.tmp 42),.some (38,true),[],[]⟩,⟨.some 44,.pick (.tmp 38) (.tmp 43) (.av (.bool false)),.none,[],[]⟩,⟨.some 34,.mv (.tmp 44),.none,[],[]⟩])
 (.cond (.tmp 34)
 (.seq (.reg false [⟨.some 6,.mv (.av (.int .i64 24)),.none,[],[]⟩])
 .ret)
 (.seq (.reg true [⟨.some 46,.faddr 5 (.tmp 4),.none,[],[]⟩,⟨.some 47,.load false false 1 (.tmp 46),.none,[],[]⟩,⟨.some 48,.len false (.tmp 47),.none,[],[]⟩,⟨.some 49,.mv (.tmp 0),.none,[],[]⟩,⟨.some 50,.load true false 6 (.tmp 4),.none,[],[]⟩,⟨.some 51,.call (.av (.fn n_desk_world_planOf [])) [(.tmp 49),(.tmp 50)],.none,[],[5]⟩,⟨.some 52,.field false 2 1 (.tmp 51),.none,[],[]⟩,⟨.some 53,.len false (.tmp 52),.none,[],[]⟩,⟨.some 54,.bin .neq (.tmp 48) (.tmp 53),.none,[],[]⟩,⟨.some 45,.mv (.tmp 54),.none,[],[]⟩])
 (.cond (.tmp 45)
 (.seq (.reg false [⟨.some 6,.mv (.av (.int .i64 10)),.none,[],[]⟩])
 .ret)
 .skip)))))))))
 (.cut [0,4] []
 (.seq (.seq (.reg false [⟨.some 55,.faddr 5 (.tmp 4),.none,[],[]⟩,⟨.some 56,.load false false 1 (.tmp 55),.none,[],[]⟩,⟨.some 57,.len false (.tmp 56),.none,[],[]⟩,⟨.some 58,.mv (.av (.int .i64 0)),.none,[],[]⟩])
 (.block 1
 l_desk_world_checkDive_2))
 t_desk_world_checkDive_2)))),
 [.tmp 6], false⟩
theorem c_desk_world_checkDive : chkFunc Tryz.prog gl n_desk_world_checkDive a_desk_world_checkDive = true := by kernel_rfl
def a_desk_with_api_MixContent_299 : AFunc := ⟨10,
 (.seq (.reg false [⟨.some 4,.mv (.av .nils),.none,[],[]⟩])
 (.seq (.reg false [⟨.some 5,.mv (.tmp 0),.none,[],[]⟩,⟨.some 6,.call (.av (.fn n_slices_Clip_api_MixContent_305 [])) [(.tmp 5)],.none,[],[]⟩,⟨.some 7,.mv (.tmp 1),.none,[],[]⟩,⟨.some 8,.bslice true 1 1 [.nils] [(0,(.tmp 7))],.none,[],[]⟩,⟨.some 9,.append 1 24 (.tmp 6) (.tmp 8),.none,[6],[]⟩,⟨.some 4,.mv (.tmp 9),.none,[9],[]⟩])
 .ret)),
 [.tmp 4], false⟩
theorem c_desk_with_api_MixContent_299 : chkFunc Tryz.prog gl n_desk_with_api_MixContent_299 a_desk_with_api_MixContent_299 = true := by kernel_rfl
def a_slices_ContainsFunc_api_KitItem : AFunc := ⟨9,
 (.seq (.reg false [⟨.some 4,.mv (.av (.bool false)),.none,[],[]⟩])
 (.seq (.reg false [⟨.some 5,.mv (.tmp 0),.none,[],[]⟩,⟨.some 6,.mv (.tmp 1),.none,[],[]⟩,⟨.some 7,.call (.av (.fn n_slices_IndexFunc_api_KitItem [])) [(.tmp 5),(.tmp 6)],.none,[],[]⟩,⟨.some 8,.bin .geq (.tmp 7) (.av (.int .i64 0)),.none,[],[]⟩,⟨.some 4,.mv (.tmp 8),.none,[],[]⟩])
 .ret)),
 [.tmp 4], false⟩
theorem c_slices_ContainsFunc_api_KitItem : chkFunc Tryz.prog gl n_slices_ContainsFunc_api_KitItem a_slices_ContainsFunc_api_KitItem = true := by kernel_rfl
def a_desk_with_api_DeskDive : AFunc := ⟨10,
 (.seq (.reg false [⟨.some 3,.box true (.tmp 1),.none,[],[]⟩,⟨.some 4,.mv (.av .nils),.none,[],[]⟩])
 (.seq (.reg true [⟨.some 5,.mv (.tmp 0),.none,[],[]⟩,⟨.some 6,.call (.av (.fn n_slices_Clip_api_DeskDive [])) [(.tmp 5)],.none,[],[1]⟩,⟨.some 7,.load true false 6 (.tmp 3),.none,[],[]⟩,⟨.some 8,.bslice true 6 1 [(.str []),(.str []),(.str []),(.int .i64 0),(.int .i64 0),.nils] [(0,(.tmp 7))],.none,[],[]⟩,⟨.some 9,.append 6 88 (.tmp 6) (.tmp 8),.none,[6],[]⟩,⟨.some 4,.mv (.tmp 9),.none,[9],[]⟩])
 .ret)),
 [.tmp 4], false⟩
theorem c_desk_with_api_DeskDive : chkFunc Tryz.prog gl n_desk_with_api_DeskDive a_desk_with_api_DeskDive = true := by kernel_rfl
def a_slices_Contains_string : AFunc := ⟨9,
 (.seq (.reg false [⟨.some 4,.mv (.av (.bool false)),.none,[],[]⟩])
 (.seq (.reg false [⟨.some 5,.mv (.tmp 0),.none,[],[]⟩,⟨.some 6,.mv (.tmp 1),.none,[],[]⟩,⟨.some 7,.call (.av (.fn n_slices_Index_string [])) [(.tmp 5),(.tmp 6)],.none,[],[]⟩,⟨.some 8,.bin .geq (.tmp 7) (.av (.int .i64 0)),.none,[],[]⟩,⟨.some 4,.mv (.tmp 8),.none,[],[]⟩])
 .ret)),
 [.tmp 4], false⟩
theorem c_slices_Contains_string : chkFunc Tryz.prog gl n_slices_Contains_string a_slices_Contains_string = true := by kernel_rfl
def a_desk_world_span : AFunc := ⟨26,
 (.seq (.reg false [⟨.some 3,.box true (.tmp 1),.none,[],[]⟩,⟨.some 4,.mv (.av (.int .i64 0)),.none,[],[]⟩,⟨.some 5,.mv (.av (.int .i64 0)),.none,[],[]⟩])
 (.seq (.reg false [⟨.some 9,.faddr 3 (.tmp 3),.none,[],[]⟩,⟨.some 10,.load false false 1 (.tmp 9),.none,[],[]⟩,⟨.some 11,.bin .mul (.tmp 10) (.av (.int .i64 86400)),.none,[],[]⟩,⟨.some 12,.faddr 4 (.tmp 3),.none,[],[]⟩,⟨.some 13,.load false false 1 (.tmp 12),.none,[],[]⟩,⟨.some 14,.bin .add (.tmp 11) (.tmp 13),.none,[],[]⟩,⟨.some 6,.mv (.tmp 14),.none,[],[]⟩])
 (.seq (.reg false [⟨.some 16,.mv (.tmp 0),.none,[],[]⟩,⟨.some 17,.load true false 6 (.tmp 3),.none,[],[]⟩,⟨.some 18,.call (.av (.fn n_desk_world_planOf [])) [(.tmp 16),(.tmp 17)],.none,[],[]⟩,⟨.some 19,.call (.av (.fn n_profile_PlanSeconds [])) [(.tmp 18)],.none,[],[]⟩,⟨.some 15,.mv (.tmp 19),.none,[],[]⟩,⟨.some 20,.extract (.tmp 15) 0,.none,[],[]⟩,⟨.some 21,.extract (.tmp 15) 1,.none,[],[]⟩,⟨.some 7,.mv (.tmp 20),.none,[],[]⟩,⟨.some 8,.mv (.tmp 21),.none,[],[]⟩])
 (.seq (.reg false [⟨.some 22,.mv (.tmp 6),.none,[],[]⟩,⟨.some 23,.mv (.tmp 6),.none,[],[]⟩,⟨.some 24,.mv (.tmp 7),.none,[],[]⟩,⟨.some 25,.bin .add (.tmp 23) (.tmp 24),.none,[],[]⟩,⟨.some 4,.mv (.tmp 22),.none,[],[]⟩,⟨.some 5,.mv (.tmp 25),.none,[],[]⟩])
 .ret)))),
 [.tmp 4,.tmp 5], false⟩
theorem c_desk_world_span : chkFunc Tryz.prog gl n_desk_world_span a_desk_world_span = true := by kernel_rfl
def a_slices_Clip_api_MixContent_305 : AFunc := ⟨9,
 (.seq (.reg false [⟨.some 2,.mv (.av .nils),.none,[],[]⟩])
 (.seq (.reg false [⟨.some 3,.mv (.tmp 0),.none,[],[]⟩,⟨.some 4,.mv (.tmp 0),.none,[],[]⟩,⟨.some 5,.len false (.tmp 4),.none,[],[]⟩,⟨.some 6,.mv (.tmp 0),.none,[],[]⟩,⟨.some 7,.len false (.tmp 6),.none,[],[]⟩,⟨.some 8,.slice (.slc 1) (.tmp 3) .none (.some (.tmp 5)) (.some (.tmp 7)),.none,[],[]⟩,⟨.some 2,.mv (.tmp 8),.none,[8],[]⟩])
 .ret)),
 [.tmp 2], false⟩
theorem c_slices_Clip_api_MixContent_305 : chkFunc Tryz.prog gl n_slices_Clip_api_MixContent_305 a_slices_Clip_api_MixContent_305 = true := by kernel_rfl
def a_slices_Clip_api_DeskDive : AFunc := ⟨9,
 (.seq (.reg false [⟨.some 2,.mv (.av .nils),.none,[],[]⟩])
 (.seq (.reg false [⟨.some 3,.mv (.tmp 0),.none,[],[]⟩,⟨.some 4,.mv (.tmp 0),.none,[],[]⟩,⟨.some 5,.len false (.tmp 4),.none,[],[]⟩,⟨.some 6,.mv (.tmp 0),.none,[],[]⟩,⟨.some 7,.len false (.tmp 6),.none,[],[]⟩,⟨.some 8,.slice (.slc 6) (.tmp 3) .none (.some (.tmp 5)) (.some (.tmp 7)),.none,[],[]⟩,⟨.some 2,.mv (.tmp 8),.none,[8],[]⟩])
 .ret)),
 [.tmp 2], false⟩
theorem c_slices_Clip_api_DeskDive : chkFunc Tryz.prog gl n_slices_Clip_api_DeskDive a_slices_Clip_api_DeskDive = true := by kernel_rfl
def b_slices_Index_string_1 : ACode :=
 (.seq (.reg false [⟨.some 9,.bin .lss (.tmp 8) (.tmp 7),.none,[],[]⟩])
 (.seq (.cond (.tmp 9)
 .skip
 (.exit 0))
 (.cut [0,1,7,8] []
 (.seq (.block 1
 (.seq (.reg false [⟨.some 10,.mv (.tmp 8),.none,[],[]⟩,⟨.some 5,.mv (.tmp 10),.none,[],[]⟩])
 (.seq (.reg false [⟨.some 11,.mv (.tmp 1),.none,[],[]⟩,⟨.some 12,.mv (.tmp 0),.none,[],[]⟩,⟨.some 13,.mv (.tmp 5),.none,[],[]⟩,⟨.some 14,.iaddr .none 1 (.tmp 12) (.tmp 13),.none,[],[]⟩,⟨.some 15,.load false false 1 (.tmp 14),.none,[],[]⟩,⟨.some 16,.bin .eql (.tmp 11) (.tmp 15),.none,[],[]⟩])
 (.cond (.tmp 16)
 (.seq (.reg false [⟨.some 17,.mv (.tmp 5),.none,[],[]⟩,⟨.some 4,.mv (.tmp 17),.none,[],[]⟩])
 .ret)
 .skip))))
 (.cut [0,1,7,8] []
 (.reg false [⟨.some 18,.bin .add (.tmp 8) (.av (.int .i64 1)),.none,[],[]⟩,⟨.some 8,.mv (.tmp 18),.none,[],[]⟩]))))))
def l_slices_Index_string_1 : ACode := .loop (.cut [0,1,7,8] [] b_slices_Index_string_1)
@[simp] def t_slices_Index_string_1 : ACode :=
 (.cut [] []
 (.seq (.reg false [⟨.some 4,.mv (.av (.int .i64 (-1))),.none,[],[]⟩])
 .ret))
def a_slices_Index_string : AFunc := ⟨19,
 (.seq (.reg false [⟨.some 4,.mv (.av (.int .i64 0)),.none,[],[]⟩])
 (.seq (.seq (.reg false [⟨.some 6,.mv (.tmp 0),.none,[],[]⟩,⟨.some 7,.len false (.tmp 6),.none,[],[]⟩,⟨.some 8,.mv (.av (.int .i64 0)),.none,[],[]⟩])
 (.block 0
 l_slices_Index_string_1))
 t_slices_Index_string_1)),
 [.tmp 4], false⟩
theorem c_slices_Index_string : chkFunc Tryz.prog gl n_slices_Index_string a_slices_Index_string = true := by kernel_rfl
def a_profile_PlanSeconds : AFunc := ⟨14,
 (.seq (.reg false [⟨.some 1,.box true (.tmp 0),.none,[],[]⟩,⟨.some 2,.mv (.av (.int .i64 0)),.none,[],[]⟩,⟨.some 3,.mv (.av (.int .i64 0)),.none,[],[]⟩])
 (.seq (.seq (.reg false [⟨.some 5,.load true false 4 (.tmp 1),.none,[],[]⟩,⟨.some 6,.bslice true 4 1 [(.str []),(.int .i64 0),.nils,.nils] [(0,(.tmp 5))],.none,[],[]⟩,⟨.some 7,.call (.av (.fn n_profile_check [])) [(.tmp 6)],.none,[],[]⟩,⟨.some 4,.mv (.tmp 7),.none,[],[]⟩])
 (.seq (.reg false [⟨.some 8,.mv (.tmp 4),.none,[],[]⟩,⟨.some 9,.bin .neq (.tmp 8) (.av (.int .i64 0)),.none,[],[]⟩])
 (.cond (.tmp 9)
 (.seq (.reg false [⟨.some 10,.mv (.tmp 4),.none,[],[]⟩,⟨.some 2,.mv (.av (.int .i64 0)),.none,[],[]⟩,⟨.some 3,.mv (.tmp 10),.none,[],[]⟩])
 .ret)
 .skip)))
 (.cut [1] []
 (.seq (.reg false [⟨.some 11,.load true false 4 (.tmp 1),.none,[],[]⟩,⟨.some 12,.call (.av (.fn n_profile_trackOf [])) [(.tmp 11)],.none,[],[]⟩,⟨.some 13,.call (.av (.fn n_profile_track_end [])) [(.tmp 12)],.none,[],[]⟩,⟨.some 2,.mv (.tmp 13),.none,[],[]⟩,⟨.some 3,.mv (.av (.int .i64 0)),.none,[],[]⟩])
 .ret)))),
 [.tmp 2,.tmp 3], false⟩
theorem c_profile_PlanSeconds : chkFunc Tryz.prog gl n_profile_PlanSeconds a_profile_PlanSeconds = true := by kernel_rfl
def b_profile_trackOf_1 : ACode :=
 (.seq (.reg false [⟨.some 12,.bin .lss (.tmp 11) (.tmp 10),.none,[],[]⟩])
 (.seq (.cond (.tmp 12)
 .skip
 (.exit 0))
 (.cut [3,9,10,11] []
 (.seq (.block 1
 (.seq (.reg false [⟨.some 13,.iaddr .none 3 (.tmp 9) (.tmp 11),.none,[],[]⟩,⟨.some 14,.load true false 3 (.tmp 13),.none,[],[]⟩,⟨.some 5,.alloc [(.int .i64 0),(.int .i64 0),(.int .i64 0)],.none,[],[]⟩,⟨.none,.store 3 (.tmp 5) (.tmp 14),.none,[14],[]⟩])
 (.reg true [⟨.some 15,.mv (.tmp 3),.none,[3],[]⟩,⟨.some 16,.mv (.tmp 3),.none,[],[]⟩,⟨.some 17,.mv (.tmp 3),.none,[],[]⟩,⟨.some 18,.len false (.tmp 17),.none,[],[]⟩,⟨.some 19,.bin .sub (.tmp 18) (.av (.int .i64 1)),.none,[],[]⟩,⟨.some 20,.iaddr .none 2 (.tmp 16) (.tmp 19),.none,[],[]⟩,⟨.some 21,.faddr 0 (.tmp 20),.none,[],[]⟩,⟨.some 22,.load false false 1 (.tmp 21),.none,[],[]⟩,⟨.some 23,.faddr 0 (.tmp 5),.none,[],[]⟩,⟨.some 24,.load false false 1 (.tmp 23),.none,[],[]⟩,⟨.some 25,.bin .add (.tmp 22) (.tmp 24),.none,[],[]⟩,⟨.some 26,.faddr 1 (.tmp 5),.none,[],[]⟩,⟨.some 27,.load false false 1 (.tmp 26),.none,[],[]⟩,⟨.some 28,.build [(.int .i64 0),(.int .i64 0)] [(0,1,(.tmp 25)),(1,1,(.tmp 27))],.none,[],[]⟩,⟨.some 29,.bslice true 2 1 [(.int .i64 0),(.int .i64 0)] [(0,(.tmp 28))],.none,[],[]⟩,⟨.some 30,.append 2 16 (.tmp 15) (.tmp 29),.none,[15],[]⟩,⟨.some 3,.mv (.tmp 30),.none,[30],[]⟩])))
 (.cut [3,9,10,11] []
 (.reg false [⟨.some 31,.bin .add (.tmp 11) (.av (.int .i64 1)),.none,[],[]⟩,⟨.some 11,.mv (.tmp 31),.none,[],[]⟩]))))))
def l_profile_trackOf_1 : ACode := .loop (.cut [3,9,10,11] [[5]] b_profile_trackOf_1)
@[simp] def t_profile_trackOf_1 : ACode :=
 (.cut [3] []
 (.seq (.reg false [⟨.some 32,.mv (.tmp 3),.none,[3],[]⟩,⟨.some 2,.mv (.tmp 32),.none,[32],[]⟩])
 .ret))
def a_profile_trackOf : AFunc := ⟨33,
 (.seq (.reg false [⟨.some 1,.box true (.tmp 0),.none,[],[]⟩,⟨.some 2,.mv (.av .nils),.none,[],[]⟩])
 (.seq (.reg false [⟨.some 6,.build [(.int .i64 0),(.int .i64 0)] [],.none,[],[]⟩,⟨.some 7,.bslice true 2 1 [(.int .i64 0),(.int .i64 0)] [(0,(.tmp 6))],.none,[],[]⟩,⟨.some 3,.mv (.tmp 7),.none,[7],[]⟩])
 (.seq (.seq (.reg false [⟨.some 8,.faddr 3 (.tmp 1),.none,[],[]⟩,⟨.some 9,.load false false 1 (.tmp 8),.none,[],[]⟩,⟨.some 10,.len false (.tmp 9),.none,[],[]⟩,⟨.some 11,.mv (.av (.int .i64 0)),.none,[],[]⟩])
 (.block 0
 l_profile_trackOf_1))
 t_profile_trackOf_1))),
 [.tmp 2], false⟩
theorem c_profile_trackOf : chkFunc Tryz.prog gl n_profile_trackOf a_profile_trackOf = true := by kernel_rfl
def a_profile_track_end : AFunc := ⟨10,
 (.seq (.reg false [⟨.some 2,.mv (.av (.int .i64 0)),.none,[],[]⟩])
 (.seq (.reg false [⟨.some 3,.mv (.tmp 0),.none,[],[]⟩,⟨.some 4,.mv (.tmp 0),.none,[],[]⟩,⟨.some 5,.len false (.tmp 4),.none,[],[]⟩,⟨.some 6,.bin .sub (.tmp 5) (.av (.int .i64 1)),.none,[],[]⟩,⟨.some 7,.iaddr .none 2 (.tmp 3) (.tmp 6),.none,[],[]⟩,⟨.some 8,.faddr 0 (.tmp 7),.none,[],[]⟩,⟨.some 9,.load false false 1 (.tmp 8),.none,[],[]⟩,⟨.some 2,.mv (.tmp 9),.none,[],[]⟩])
 .ret)),
 [.tmp 2], false⟩
theorem c_profile_track_end : chkFunc Tryz.prog gl n_profile_track_end a_profile_track_end = true := by kernel_rfl
end Go.Proofs.YtnhagbllecpkkaaGreatDoor
