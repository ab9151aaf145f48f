/-
  The codes of the functions, as the abstract machine runs them, each checked against the program by the kernel.
-/
import Derived.Test.YtnhagbllecpkkaaGreatDoorCode1
set_option linter.unusedSimpArgs false
set_option linter.unusedVariables false

namespace Go.Proofs.YtnhagbllecpkkaaGreatDoor
open Go Go.VA Go.Proofs
def a_desk_diveAt : AFunc := ⟨32,
 (.seq (.reg false [⟨.some 3,.box true (.tmp 0),.none,[],[]⟩,⟨.some 6,.mv (.av .nilp),.none,[],[]⟩,⟨.some 7,.mv (.av (.int .i64 0)),.none,[],[]⟩,⟨.some 8,.mv (.av (.int .i64 0)),.none,[],[]⟩])
 (.seq (.reg false [⟨.some 14,.load true false 14 (.tmp 3),.none,[],[]⟩,⟨.some 15,.mv (.tmp 1),.none,[],[]⟩,⟨.some 16,.call (.av (.fn n_desk_open [])) [(.tmp 14),(.tmp 15)],.none,[],[]⟩,⟨.some 13,.mv (.tmp 16),.none,[],[]⟩,⟨.some 17,.extract (.tmp 13) 0,.none,[],[]⟩,⟨.some 18,.extract (.tmp 13) 1,.none,[],[]⟩,⟨.some 19,.extract (.tmp 13) 2,.none,[],[]⟩,⟨.some 9,.mv (.tmp 17),.none,[],[]⟩,⟨.some 10,.mv (.tmp 18),.none,[],[]⟩,⟨.some 11,.mv (.tmp 19),.none,[],[]⟩])
 (.seq (.seq (.reg false [⟨.some 20,.mv (.tmp 11),.none,[],[]⟩,⟨.some 21,.bin .neq (.tmp 20) (.av (.int .i64 0)),.none,[],[]⟩])
 (.cond (.tmp 21)
 (.seq (.reg false [⟨.some 22,.mv (.tmp 11),.none,[],[]⟩,⟨.some 6,.mv (.av .nilp),.none,[],[]⟩,⟨.some 7,.mv (.av (.int .i64 0)),.none,[],[]⟩,⟨.some 8,.mv (.tmp 22),.none,[],[]⟩])
 .ret)
 .skip))
 (.cut [2,9] []
 (.seq (.reg false [⟨.some 23,.mv (.tmp 9),.none,[],[]⟩,⟨.some 24,.nilchk (.tmp 23),.none,[],[]⟩,⟨.some 25,.faddr 0 (.tmp 24),.none,[],[]⟩,⟨.some 26,.mv (.tmp 2),.none,[],[]⟩,⟨.some 27,.call (.av (.fn n_desk_world_dive [])) [(.tmp 25),(.tmp 26)],.none,[],[]⟩,⟨.some 12,.mv (.tmp 27),.none,[],[]⟩])
 (.seq (.seq (.reg false [⟨.some 28,.mv (.tmp 12),.none,[],[]⟩,⟨.some 29,.bin .lss (.tmp 28) (.av (.int .i64 0)),.none,[],[]⟩])
 (.cond (.tmp 29)
 (.seq (.reg false [⟨.some 6,.mv (.av .nilp),.none,[],[]⟩,⟨.some 7,.mv (.av (.int .i64 0)),.none,[],[]⟩,⟨.some 8,.mv (.av (.int .i64 6)),.none,[],[]⟩])
 .ret)
 .skip))
 (.cut [9,12] []
 (.seq (.reg false [⟨.some 30,.mv (.tmp 9),.none,[],[]⟩,⟨.some 31,.mv (.tmp 12),.none,[],[]⟩,⟨.some 6,.mv (.tmp 30),.none,[],[]⟩,⟨.some 7,.mv (.tmp 31),.none,[],[]⟩,⟨.some 8,.mv (.av (.int .i64 0)),.none,[],[]⟩])
 .ret)))))))),
 [.tmp 6,.tmp 7,.tmp 8], true⟩
theorem c_desk_diveAt : chkFunc Tryz.prog gl n_desk_diveAt a_desk_diveAt = true := by kernel_rfl
def a_desk_world_breathedIn : AFunc := ⟨27,
 (.seq (.reg false [⟨.some 4,.mv (.av .nils),.none,[],[]⟩,⟨.some 5,.mv (.av (.int .i64 0)),.none,[],[]⟩])
 (.seq (.reg true [⟨.some 6,.mv (.tmp 0),.none,[],[]⟩,⟨.some 7,.mv (.tmp 0),.none,[],[]⟩,⟨.some 8,.nilchk (.tmp 7),.none,[],[]⟩,⟨.some 9,.faddr 1 (.tmp 8),.none,[],[]⟩,⟨.some 10,.faddr 3 (.tmp 9),.none,[],[]⟩,⟨.some 11,.load false false 1 (.tmp 10),.none,[],[]⟩,⟨.some 12,.mv (.tmp 1),.none,[],[]⟩,⟨.some 13,.iaddr .none 6 (.tmp 11) (.tmp 12),.none,[],[]⟩,⟨.some 14,.load true false 6 (.tmp 13),.none,[],[]⟩,⟨.some 15,.call (.av (.fn n_desk_world_planOf [])) [(.tmp 6),(.tmp 14)],.none,[],[9]⟩,⟨.some 16,.mv (.tmp 0),.none,[],[]⟩,⟨.some 17,.nilchk (.tmp 16),.none,[],[]⟩,⟨.some 18,.faddr 0 (.tmp 17),.none,[],[]⟩,⟨.some 19,.load false false 1 (.tmp 18),.none,[],[]⟩,⟨.some 20,.nilchk (.tmp 19),.none,[],[]⟩,⟨.some 21,.faddr 4 (.tmp 20),.none,[],[]⟩,⟨.some 22,.faddr 5 (.tmp 21),.none,[],[]⟩,⟨.some 23,.load false false 1 (.tmp 22),.none,[],[]⟩,⟨.some 24,.call (.av (.fn n_exposure_Consumed [])) [(.tmp 15),(.tmp 23)],.none,[],[]⟩,⟨.some 25,.extract (.tmp 24) 0,.none,[],[]⟩,⟨.some 26,.extract (.tmp 24) 1,.none,[],[]⟩,⟨.some 4,.mv (.tmp 25),.none,[25],[]⟩,⟨.some 5,.mv (.tmp 26),.none,[],[]⟩])
 .ret)),
 [.tmp 4,.tmp 5], false⟩
theorem c_desk_world_breathedIn : chkFunc Tryz.prog gl n_desk_world_breathedIn a_desk_world_breathedIn = true := by kernel_rfl
def a_desk_newKeeper : AFunc := ⟨13,
 (.seq (.reg false [⟨.some 1,.box true (.tmp 0),.none,[],[]⟩,⟨.some 2,.mv (.av .nilp),.none,[],[]⟩,⟨.some 3,.mv (.av (.int .i64 0)),.none,[],[]⟩])
 (.seq (.seq (.reg false [⟨.some 5,.load true false 14 (.tmp 1),.none,[],[]⟩,⟨.some 6,.call (.av (.fn n_desk_CheckDesk [])) [(.tmp 5)],.none,[],[]⟩,⟨.some 4,.mv (.tmp 6),.none,[],[]⟩])
 (.seq (.reg false [⟨.some 7,.mv (.tmp 4),.none,[],[]⟩,⟨.some 8,.bin .neq (.tmp 7) (.av (.int .i64 0)),.none,[],[]⟩])
 (.cond (.tmp 8)
 (.seq (.reg false [⟨.some 9,.mv (.tmp 4),.none,[],[]⟩,⟨.some 2,.mv (.av .nilp),.none,[],[]⟩,⟨.some 3,.mv (.tmp 9),.none,[],[]⟩])
 .ret)
 .skip)))
 (.cut [1] []
 (.seq (.reg false [⟨.some 10,.call (.av (.fn n_desk_newWorld [])) [(.tmp 1)],.none,[],[]⟩,⟨.some 11,.build [.nilp,.nils,.nils,.nils,.nils,.nils,.nils,.nils,.nils,.nils,(.int .i64 0),(.int .i64 0),(.int .i64 0),(.int .i64 0),(.int .i64 0),(.int .i64 0),.nils,.nils] [(0,16,(.tmp 10))],.none,[],[]⟩,⟨.some 12,.box false (.tmp 11),.none,[],[]⟩,⟨.some 2,.mv (.tmp 12),.none,[],[]⟩,⟨.some 3,.mv (.av (.int .i64 0)),.none,[],[]⟩])
 .ret)))),
 [.tmp 2,.tmp 3], true⟩
theorem c_desk_newKeeper : chkFunc Tryz.prog gl n_desk_newKeeper a_desk_newKeeper = true := by kernel_rfl
def a_desk_keeper_enter : AFunc := ⟨66,
 (.seq (.reg false [⟨.some 3,.box true (.tmp 1),.none,[],[]⟩,⟨.some 4,.mv (.av (.int .i64 0)),.none,[],[]⟩])
 (.seq (.reg true [⟨.some 10,.mv (.tmp 0),.none,[],[]⟩,⟨.some 11,.nilchk (.tmp 10),.none,[],[]⟩,⟨.some 12,.faddr 0 (.tmp 11),.none,[],[]⟩,⟨.some 13,.faddr 0 (.tmp 3),.none,[],[]⟩,⟨.some 14,.load false false 1 (.tmp 13),.none,[],[]⟩,⟨.some 15,.call (.av (.fn n_desk_world_person [])) [(.tmp 12),(.tmp 14)],.none,[],[]⟩,⟨.some 5,.mv (.tmp 15),.none,[],[]⟩])
 (.seq (.seq (.reg false [⟨.some 16,.mv (.tmp 5),.none,[],[]⟩,⟨.some 17,.bin .lss (.tmp 16) (.av (.int .i64 0)),.none,[],[]⟩])
 (.cond (.tmp 17)
 (.seq (.reg false [⟨.some 4,.mv (.av (.int .i64 6)),.none,[],[]⟩])
 .ret)
 .skip))
 (.cut [0,3,5] []
 (.seq (.reg false [⟨.some 18,.mv (.tmp 0),.none,[],[]⟩,⟨.some 19,.nilchk (.tmp 18),.none,[],[]⟩,⟨.some 20,.faddr 0 (.tmp 19),.none,[],[]⟩,⟨.some 21,.faddr 0 (.tmp 20),.none,[],[]⟩,⟨.some 22,.load false false 1 (.tmp 21),.none,[],[]⟩,⟨.some 23,.nilchk (.tmp 22),.none,[],[]⟩,⟨.some 24,.faddr 3 (.tmp 23),.none,[],[]⟩,⟨.some 25,.load false false 1 (.tmp 24),.none,[],[]⟩,⟨.some 26,.mv (.tmp 5),.none,[],[]⟩,⟨.some 27,.iaddr .none 2 (.tmp 25) (.tmp 26),.none,[],[]⟩,⟨.some 28,.load true false 2 (.tmp 27),.none,[],[]⟩,⟨.some 6,.alloc [(.str []),(.int .i64 0)],.none,[],[]⟩,⟨.none,.store 2 (.tmp 6) (.tmp 28),.none,[28],[]⟩])
 (.seq (.reg false [⟨.some 30,.load true false 2 (.tmp 6),.none,[],[]⟩,⟨.some 31,.faddr 1 (.tmp 3),.none,[],[]⟩,⟨.some 32,.load false false 1 (.tmp 31),.none,[],[]⟩,⟨.some 33,.call (.av (.fn n_desk_head [])) [(.tmp 30),(.tmp 32)],.none,[],[]⟩,⟨.some 29,.mv (.tmp 33),.none,[],[]⟩,⟨.some 34,.extract (.tmp 29) 0,.none,[],[]⟩,⟨.some 35,.extract (.tmp 29) 1,.none,[],[]⟩,⟨.some 36,.extract (.tmp 29) 2,.none,[],[]⟩,⟨.some 7,.mv (.tmp 34),.none,[],[]⟩,⟨.some 8,.mv (.tmp 35),.none,[],[]⟩,⟨.some 9,.mv (.tmp 36),.none,[],[]⟩])
 (.seq (.seq (.reg false [⟨.some 37,.mv (.tmp 9),.none,[],[]⟩,⟨.some 38,.bin .neq (.tmp 37) (.av (.int .i64 0)),.none,[],[]⟩])
 (.cond (.tmp 38)
 (.seq (.reg false [⟨.some 39,.mv (.tmp 9),.none,[],[]⟩,⟨.some 4,.mv (.tmp 39),.none,[],[]⟩])
 .ret)
 .skip))
 (.cut [0,3,6,7,8] []
 (.seq (.seq (.reg false [⟨.some 40,.mv (.tmp 7),.none,[],[]⟩,⟨.some 41,.bin .eql (.tmp 40) (.av (.str [102,105,120])),.none,[],[]⟩])
 (.cond (.tmp 41)
 (.reg false [⟨.some 42,.mv (.tmp 0),.none,[],[]⟩,⟨.some 43,.load true false 2 (.tmp 6),.none,[],[]⟩,⟨.some 44,.mv (.tmp 8),.none,[],[]⟩,⟨.some 45,.call (.av (.fn n_desk_keeper_fix [])) [(.tmp 42),(.tmp 43),(.tmp 44)],.none,[],[]⟩,⟨.some 9,.mv (.tmp 45),.none,[],[]⟩])
 (.reg false [⟨.some 46,.mv (.tmp 0),.none,[],[]⟩,⟨.some 47,.load true false 2 (.tmp 6),.none,[],[]⟩,⟨.some 48,.mv (.tmp 7),.none,[],[]⟩,⟨.some 49,.mv (.tmp 8),.none,[],[]⟩,⟨.some 50,.faddr 1 (.tmp 3),.none,[],[]⟩,⟨.some 51,.load false false 1 (.tmp 50),.none,[],[]⟩,⟨.some 52,.call (.av (.fn n_desk_keeper_fact [])) [(.tmp 46),(.tmp 47),(.tmp 48),(.tmp 49),(.tmp 51)],.none,[],[]⟩,⟨.some 9,.mv (.tmp 52),.none,[],[]⟩])))
 (.cut [0,3,9] []
 (.seq (.seq (.reg false [⟨.some 53,.mv (.tmp 9),.none,[],[]⟩,⟨.some 54,.bin .eql (.tmp 53) (.av (.int .i64 0)),.none,[],[]⟩])
 (.cond (.tmp 54)
 (.reg true [⟨.some 55,.mv (.tmp 0),.none,[],[]⟩,⟨.some 56,.mv (.tmp 0),.none,[],[]⟩,⟨.some 57,.nilchk (.tmp 56),.none,[],[]⟩,⟨.some 58,.faddr 16 (.tmp 57),.none,[],[]⟩,⟨.some 59,.load false true 1 (.tmp 58),.none,[],[]⟩,⟨.some 60,.load true false 2 (.tmp 3),.none,[],[4]⟩,⟨.some 61,.bslice true 2 1 [(.str []),(.str [])] [(0,(.tmp 60))],.none,[],[]⟩,⟨.some 62,.append 2 32 (.tmp 59) (.tmp 61),.none,[59],[]⟩,⟨.some 63,.nilchk (.tmp 55),.none,[],[]⟩,⟨.some 64,.faddr 16 (.tmp 63),.none,[],[]⟩,⟨.none,.store 1 (.tmp 64) (.tmp 62),.none,[62],[]⟩])
 .skip))
 (.cut [9] []
 (.seq (.reg false [⟨.some 65,.mv (.tmp 9),.none,[],[]⟩,⟨.some 4,.mv (.tmp 65),.none,[],[]⟩])
 .ret))))))))))))),
 [.tmp 4], false⟩
theorem c_desk_keeper_enter : chkFunc Tryz.prog gl n_desk_keeper_enter a_desk_keeper_enter = true := by kernel_rfl
def a_slices_Clone_api_MixFill : AFunc := ⟨8,
 (.seq (.reg false [⟨.some 2,.mv (.av .nils),.none,[],[]⟩])
 (.seq (.seq (.reg false [⟨.some 3,.mv (.tmp 0),.none,[],[]⟩,⟨.some 4,.eq .slc false (.tmp 3) (.av .nils),.none,[],[]⟩])
 (.cond (.tmp 4)
 (.seq (.reg false [⟨.some 2,.mv (.av .nils),.none,[],[]⟩])
 .ret)
 .skip))
 (.cut [0] []
 (.seq (.reg false [⟨.some 5,.bslice true 8 0 [(.int .i64 0),(.int .i64 0),(.str []),(.str []),(.int .i64 0),(.int .i64 0),(.int .i64 0),(.bool false)] [],.none,[],[]⟩,⟨.some 6,.mv (.tmp 0),.none,[],[]⟩,⟨.some 7,.append 8 80 (.tmp 5) (.tmp 6),.none,[5],[]⟩,⟨.some 2,.mv (.tmp 7),.none,[7],[]⟩])
 .ret)))),
 [.tmp 2], false⟩
theorem c_slices_Clone_api_MixFill : chkFunc Tryz.prog gl n_slices_Clone_api_MixFill a_slices_Clone_api_MixFill = true := by kernel_rfl
def a_slices_Clone_api_KitEvent : AFunc := ⟨8,
 (.seq (.reg false [⟨.some 2,.mv (.av .nils),.none,[],[]⟩])
 (.seq (.seq (.reg false [⟨.some 3,.mv (.tmp 0),.none,[],[]⟩,⟨.some 4,.eq .slc false (.tmp 3) (.av .nils),.none,[],[]⟩])
 (.cond (.tmp 4)
 (.seq (.reg false [⟨.some 2,.mv (.av .nils),.none,[],[]⟩])
 .ret)
 .skip))
 (.cut [0] []
 (.seq (.reg false [⟨.some 5,.bslice true 6 0 [(.int .i64 0),(.int .i64 0),(.str []),(.str []),(.str []),(.bool false)] [],.none,[],[]⟩,⟨.some 6,.mv (.tmp 0),.none,[],[]⟩,⟨.some 7,.append 6 72 (.tmp 5) (.tmp 6),.none,[5],[]⟩,⟨.some 2,.mv (.tmp 7),.none,[7],[]⟩])
 .ret)))),
 [.tmp 2], false⟩
theorem c_slices_Clone_api_KitEvent : chkFunc Tryz.prog gl n_slices_Clone_api_KitEvent a_slices_Clone_api_KitEvent = true := by kernel_rfl
def a_slices_Clone_api_DeskSign : AFunc := ⟨8,
 (.seq (.reg false [⟨.some 2,.mv (.av .nils),.none,[],[]⟩])
 (.seq (.seq (.reg false [⟨.some 3,.mv (.tmp 0),.none,[],[]⟩,⟨.some 4,.eq .slc false (.tmp 3) (.av .nils),.none,[],[]⟩])
 (.cond (.tmp 4)
 (.seq (.reg false [⟨.some 2,.mv (.av .nils),.none,[],[]⟩])
 .ret)
 .skip))
 (.cut [0] []
 (.seq (.reg false [⟨.some 5,.bslice true 2 0 [(.str []),(.str [])] [],.none,[],[]⟩,⟨.some 6,.mv (.tmp 0),.none,[],[]⟩,⟨.some 7,.append 2 32 (.tmp 5) (.tmp 6),.none,[5],[]⟩,⟨.some 2,.mv (.tmp 7),.none,[7],[]⟩])
 .ret)))),
 [.tmp 2], false⟩
theorem c_slices_Clone_api_DeskSign : chkFunc Tryz.prog gl n_slices_Clone_api_DeskSign a_slices_Clone_api_DeskSign = true := by kernel_rfl
def a_slices_Clone_api_Gas : AFunc := ⟨8,
 (.seq (.reg false [⟨.some 2,.mv (.av .nils),.none,[],[]⟩])
 (.seq (.seq (.reg false [⟨.some 3,.mv (.tmp 0),.none,[],[]⟩,⟨.some 4,.eq .slc false (.tmp 3) (.av .nils),.none,[],[]⟩])
 (.cond (.tmp 4)
 (.seq (.reg false [⟨.some 2,.mv (.av .nils),.none,[],[]⟩])
 .ret)
 .skip))
 (.cut [0] []
 (.seq (.reg false [⟨.some 5,.bslice true 2 0 [(.int .i64 0),(.int .i64 0)] [],.none,[],[]⟩,⟨.some 6,.mv (.tmp 0),.none,[],[]⟩,⟨.some 7,.append 2 16 (.tmp 5) (.tmp 6),.none,[5],[]⟩,⟨.some 2,.mv (.tmp 7),.none,[7],[]⟩])
 .ret)))),
 [.tmp 2], false⟩
theorem c_slices_Clone_api_Gas : chkFunc Tryz.prog gl n_slices_Clone_api_Gas a_slices_Clone_api_Gas = true := by kernel_rfl
def a_slices_Clone_api_DiveLeg : AFunc := ⟨8,
 (.seq (.reg false [⟨.some 2,.mv (.av .nils),.none,[],[]⟩])
 (.seq (.seq (.reg false [⟨.some 3,.mv (.tmp 0),.none,[],[]⟩,⟨.some 4,.eq .slc false (.tmp 3) (.av .nils),.none,[],[]⟩])
 (.cond (.tmp 4)
 (.seq (.reg false [⟨.some 2,.mv (.av .nils),.none,[],[]⟩])
 .ret)
 .skip))
 (.cut [0] []
 (.seq (.reg false [⟨.some 5,.bslice true 3 0 [(.int .i64 0),(.int .i64 0),(.int .i64 0)] [],.none,[],[]⟩,⟨.some 6,.mv (.tmp 0),.none,[],[]⟩,⟨.some 7,.append 3 24 (.tmp 5) (.tmp 6),.none,[5],[]⟩,⟨.some 2,.mv (.tmp 7),.none,[7],[]⟩])
 .ret)))),
 [.tmp 2], false⟩
theorem c_slices_Clone_api_DiveLeg : chkFunc Tryz.prog gl n_slices_Clone_api_DiveLeg a_slices_Clone_api_DiveLeg = true := by kernel_rfl
def a_slices_Clone_string : AFunc := ⟨8,
 (.seq (.reg false [⟨.some 2,.mv (.av .nils),.none,[],[]⟩])
 (.seq (.seq (.reg false [⟨.some 3,.mv (.tmp 0),.none,[],[]⟩,⟨.some 4,.eq .slc false (.tmp 3) (.av .nils),.none,[],[]⟩])
 (.cond (.tmp 4)
 (.seq (.reg false [⟨.some 2,.mv (.av .nils),.none,[],[]⟩])
 .ret)
 .skip))
 (.cut [0] []
 (.seq (.reg false [⟨.some 5,.bslice true 1 0 [(.str [])] [],.none,[],[]⟩,⟨.some 6,.mv (.tmp 0),.none,[],[]⟩,⟨.some 7,.append 1 16 (.tmp 5) (.tmp 6),.none,[5],[]⟩,⟨.some 2,.mv (.tmp 7),.none,[7],[]⟩])
 .ret)))),
 [.tmp 2], false⟩
theorem c_slices_Clone_string : chkFunc Tryz.prog gl n_slices_Clone_string a_slices_Clone_string = true := by kernel_rfl
def a_slices_Clone_api_DivePoint : AFunc := ⟨8,
 (.seq (.reg false [⟨.some 2,.mv (.av .nils),.none,[],[]⟩])
 (.seq (.seq (.reg false [⟨.some 3,.mv (.tmp 0),.none,[],[]⟩,⟨.some 4,.eq .slc false (.tmp 3) (.av .nils),.none,[],[]⟩])
 (.cond (.tmp 4)
 (.seq (.reg false [⟨.some 2,.mv (.av .nils),.none,[],[]⟩])
 .ret)
 .skip))
 (.cut [0] []
 (.seq (.reg false [⟨.some 5,.bslice true 2 0 [(.int .i64 0),(.int .i64 0)] [],.none,[],[]⟩,⟨.some 6,.mv (.tmp 0),.none,[],[]⟩,⟨.some 7,.append 2 16 (.tmp 5) (.tmp 6),.none,[5],[]⟩,⟨.some 2,.mv (.tmp 7),.none,[7],[]⟩])
 .ret)))),
 [.tmp 2], false⟩
theorem c_slices_Clone_api_DivePoint : chkFunc Tryz.prog gl n_slices_Clone_api_DivePoint a_slices_Clone_api_DivePoint = true := by kernel_rfl
def b_mix_read_1 : ACode :=
 (.seq (.reg false [⟨.some 29,.bin .lss (.tmp 28) (.tmp 27),.none,[],[]⟩])
 (.seq (.cond (.tmp 29)
 .skip
 (.exit 0))
 (.cut [8,26,27,28] []
 (.seq (.block 1
 (.seq (.reg false [⟨.some 30,.mv (.tmp 28),.none,[],[]⟩,⟨.some 31,.iaddr .none 8 (.tmp 26) (.tmp 28),.none,[],[]⟩,⟨.some 32,.load true false 8 (.tmp 31),.none,[],[]⟩,⟨.some 10,.alloc [(.int .i64 0),(.int .i64 0),(.str []),(.str []),(.int .i64 0),(.int .i64 0),(.int .i64 0),(.bool false)],.none,[],[]⟩,⟨.some 9,.mv (.tmp 30),.none,[],[]⟩,⟨.none,.store 8 (.tmp 10) (.tmp 32),.none,[32],[]⟩])
 (.seq (.reg false [⟨.some 33,.mv (.tmp 8),.none,[],[]⟩,⟨.some 34,.load true false 8 (.tmp 10),.none,[],[]⟩,⟨.some 35,.call (.av (.fn n_mix_store_enter [])) [(.tmp 33),(.tmp 34)],.none,[],[]⟩,⟨.some 11,.mv (.tmp 35),.none,[],[]⟩])
 (.seq (.reg false [⟨.some 36,.mv (.tmp 11),.none,[],[]⟩,⟨.some 37,.bin .neq (.tmp 36) (.av (.int .i64 0)),.none,[],[]⟩])
 (.cond (.tmp 37)
 (.seq (.reg false [⟨.some 38,.mv (.tmp 9),.none,[],[]⟩,⟨.some 39,.mv (.tmp 11),.none,[],[]⟩,⟨.some 4,.mv (.av .nilp),.none,[],[]⟩,⟨.some 5,.mv (.tmp 38),.none,[],[]⟩,⟨.some 6,.mv (.tmp 39),.none,[],[]⟩])
 .ret)
 .skip)))))
 (.cut [8,26,27,28] []
 (.reg false [⟨.some 40,.bin .add (.tmp 28) (.av (.int .i64 1)),.none,[],[]⟩,⟨.some 28,.mv (.tmp 40),.none,[],[]⟩]))))))
def l_mix_read_1 : ACode := .loop (.cut [8,26,27,28] [[10]] b_mix_read_1)
@[simp] def t_mix_read_1 : ACode :=
 (.cut [8] []
 (.seq (.reg false [⟨.some 41,.mv (.tmp 8),.none,[],[]⟩,⟨.some 4,.mv (.tmp 41),.none,[],[]⟩,⟨.some 5,.mv (.av (.int .i64 0)),.none,[],[]⟩,⟨.some 6,.mv (.av (.int .i64 0)),.none,[],[]⟩])
 .ret))
def a_mix_read : AFunc := ⟨42,
 (.seq (.reg false [⟨.some 4,.mv (.av .nilp),.none,[],[]⟩,⟨.some 5,.mv (.av (.int .i64 0)),.none,[],[]⟩,⟨.some 6,.mv (.av (.int .i64 0)),.none,[],[]⟩])
 (.seq (.seq (.reg false [⟨.some 12,.mv (.tmp 0),.none,[],[]⟩,⟨.some 13,.call (.av (.fn n_mix_CheckVessels [])) [(.tmp 12)],.none,[],[]⟩,⟨.some 7,.mv (.tmp 13),.none,[],[]⟩])
 (.seq (.reg false [⟨.some 14,.mv (.tmp 7),.none,[],[]⟩,⟨.some 15,.bin .neq (.tmp 14) (.av (.int .i64 0)),.none,[],[]⟩])
 (.cond (.tmp 15)
 (.seq (.reg false [⟨.some 16,.mv (.tmp 7),.none,[],[]⟩,⟨.some 4,.mv (.av .nilp),.none,[],[]⟩,⟨.some 5,.mv (.av (.int .i64 0)),.none,[],[]⟩,⟨.some 6,.mv (.tmp 16),.none,[],[]⟩])
 .ret)
 .skip)))
 (.cut [0,1] []
 (.seq (.seq (.reg false [⟨.some 17,.mv (.tmp 1),.none,[],[]⟩,⟨.some 18,.len false (.tmp 17),.none,[],[]⟩,⟨.some 19,.bin .gtr (.tmp 18) (.av (.int .i64 200)),.none,[],[]⟩])
 (.cond (.tmp 19)
 (.seq (.reg false [⟨.some 4,.mv (.av .nilp),.none,[],[]⟩,⟨.some 5,.mv (.av (.int .i64 0)),.none,[],[]⟩,⟨.some 6,.mv (.av (.int .i64 8)),.none,[],[]⟩])
 .ret)
 .skip))
 (.cut [0,1] []
 (.seq (.reg false [⟨.some 20,.mv (.tmp 0),.none,[],[]⟩,⟨.some 21,.mv (.tmp 0),.none,[],[]⟩,⟨.some 22,.len false (.tmp 21),.none,[],[]⟩,⟨.some 23,.mkslc false 3 24 [(.int .i64 0),(.int .i64 0),(.int .i64 0)] (.tmp 22) (.tmp 22),.none,[],[]⟩,⟨.some 24,.build [.nils,.nils,(.int .i64 0),(.int .i64 0),(.int .i64 0),(.int .i64 0),(.int .i64 0),(.int .i64 0),(.int .i64 0)] [(0,1,(.tmp 20)),(1,1,(.tmp 23))],.none,[],[]⟩,⟨.some 25,.box false (.tmp 24),.none,[],[]⟩,⟨.some 8,.mv (.tmp 25),.none,[],[]⟩])
 (.seq (.seq (.reg false [⟨.some 26,.mv (.tmp 1),.none,[],[]⟩,⟨.some 27,.len false (.tmp 26),.none,[],[]⟩,⟨.some 28,.mv (.av (.int .i64 0)),.none,[],[]⟩])
 (.block 0
 l_mix_read_1))
 t_mix_read_1))))))),
 [.tmp 4,.tmp 5,.tmp 6], true⟩
theorem c_mix_read : chkFunc Tryz.prog gl n_mix_read a_mix_read = true := by kernel_rfl
def a_mix_gases_content : AFunc := ⟨10,
 (.seq (.reg false [⟨.some 1,.box true (.tmp 0),.none,[],[]⟩,⟨.some 2,.alloc [(.int .i64 0),(.int .i64 0),(.int .i64 0)],.none,[],[]⟩])
 (.seq (.reg false [⟨.some 3,.iaddr (.some 3) 1 (.tmp 1) (.av (.int .i64 0)),.none,[],[]⟩,⟨.some 4,.load false false 1 (.tmp 3),.none,[],[]⟩,⟨.some 5,.iaddr (.some 3) 1 (.tmp 1) (.av (.int .i64 1)),.none,[],[]⟩,⟨.some 6,.load false false 1 (.tmp 5),.none,[],[]⟩,⟨.some 7,.iaddr (.some 3) 1 (.tmp 1) (.av (.int .i64 2)),.none,[],[]⟩,⟨.some 8,.load false false 1 (.tmp 7),.none,[],[]⟩,⟨.some 9,.build [(.int .i64 0),(.int .i64 0),(.int .i64 0)] [(0,1,(.tmp 4)),(1,1,(.tmp 6)),(2,1,(.tmp 8))],.none,[],[]⟩,⟨.none,.store 3 (.tmp 2) (.tmp 9),.none,[9],[]⟩])
 .ret)),
 [.cell true 3 2], false⟩
theorem c_mix_gases_content : chkFunc Tryz.prog gl n_mix_gases_content a_mix_gases_content = true := by kernel_rfl
def a_desk_plus : AFunc := ⟨21,
 (.seq (.reg false [⟨.some 2,.box true (.tmp 0),.none,[],[]⟩,⟨.some 3,.box true (.tmp 1),.none,[],[]⟩,⟨.some 4,.alloc [(.int .i64 0),(.int .i64 0),(.int .i64 0)],.none,[],[]⟩])
 (.seq (.reg false [⟨.some 5,.faddr 0 (.tmp 2),.none,[],[]⟩,⟨.some 6,.load false false 1 (.tmp 5),.none,[],[]⟩,⟨.some 7,.faddr 0 (.tmp 3),.none,[],[]⟩,⟨.some 8,.load false false 1 (.tmp 7),.none,[],[]⟩,⟨.some 9,.bin .add (.tmp 6) (.tmp 8),.none,[],[]⟩,⟨.some 10,.faddr 1 (.tmp 2),.none,[],[]⟩,⟨.some 11,.load false false 1 (.tmp 10),.none,[],[]⟩,⟨.some 12,.faddr 1 (.tmp 3),.none,[],[]⟩,⟨.some 13,.load false false 1 (.tmp 12),.none,[],[]⟩,⟨.some 14,.bin .add (.tmp 11) (.tmp 13),.none,[],[]⟩,⟨.some 15,.faddr 2 (.tmp 2),.none,[],[]⟩,⟨.some 16,.load false false 1 (.tmp 15),.none,[],[]⟩,⟨.some 17,.faddr 2 (.tmp 3),.none,[],[]⟩,⟨.some 18,.load false false 1 (.tmp 17),.none,[],[]⟩,⟨.some 19,.bin .add (.tmp 16) (.tmp 18),.none,[],[]⟩,⟨.some 20,.build [(.int .i64 0),(.int .i64 0),(.int .i64 0)] [(0,1,(.tmp 9)),(1,1,(.tmp 14)),(2,1,(.tmp 19))],.none,[],[]⟩,⟨.none,.store 3 (.tmp 4) (.tmp 20),.none,[20],[]⟩])
 .ret)),
 [.cell true 3 4], false⟩
theorem c_desk_plus : chkFunc Tryz.prog gl n_desk_plus a_desk_plus = true := by kernel_rfl
def a_desk_world_dive : AFunc := ⟨12,
 (.seq (.reg false [⟨.some 3,.box true (.tmp 1),.none,[],[]⟩,⟨.some 4,.mv (.av (.int .i64 0)),.none,[],[]⟩])
 (.seq (.reg false [⟨.some 5,.mv (.tmp 0),.none,[],[]⟩,⟨.some 6,.nilchk (.tmp 5),.none,[],[]⟩,⟨.some 7,.faddr 1 (.tmp 6),.none,[],[]⟩,⟨.some 8,.faddr 3 (.tmp 7),.none,[],[]⟩,⟨.some 9,.load false false 1 (.tmp 8),.none,[],[]⟩,⟨.some 10,.mkfn n_desk_world_dive_c1 [(.tmp 3)],.none,[],[]⟩,⟨.some 11,.call (.av (.fn n_slices_IndexFunc_api_DeskDive [])) [(.tmp 9),(.tmp 10)],.none,[],[]⟩,⟨.some 4,.mv (.tmp 11),.none,[],[]⟩])
 .ret)),
 [.tmp 4], false⟩
theorem c_desk_world_dive : chkFunc Tryz.prog gl n_desk_world_dive a_desk_world_dive = true := by kernel_rfl
def b_exposure_Consumed_1 : ACode :=
 (.seq (.reg false [⟨.some 26,.bin .lss (.tmp 25) (.tmp 24),.none,[],[]⟩])
 (.seq (.cond (.tmp 26)
 .skip
 (.exit 0))
 (.cut [1,7,23,24,25] []
 (.seq (.block 1
 (.seq (.reg false [⟨.some 27,.iaddr .none 9 (.tmp 23) (.tmp 25),.none,[],[]⟩,⟨.some 28,.load true false 9 (.tmp 27),.none,[],[]⟩,⟨.some 9,.alloc [(.int .i64 0),(.int .i64 0),(.int .i64 0),(.int .i64 0),(.int .i64 0),(.int .i64 0),(.int .i64 0),(.int .i64 0),(.int .i64 0)],.none,[],[]⟩,⟨.none,.store 9 (.tmp 9) (.tmp 28),.none,[28],[]⟩])
 (.reg true [⟨.some 29,.mv (.tmp 7),.none,[],[]⟩,⟨.some 30,.faddr 0 (.tmp 9),.none,[],[]⟩,⟨.some 31,.faddr 2 (.tmp 30),.none,[],[]⟩,⟨.some 32,.load false false 1 (.tmp 31),.none,[],[]⟩,⟨.some 33,.iaddr .none 1 (.tmp 29) (.tmp 32),.none,[],[]⟩,⟨.some 34,.load false false 1 (.tmp 33),.none,[],[]⟩,⟨.some 35,.load true false 9 (.tmp 9),.none,[],[]⟩,⟨.some 36,.mv (.tmp 1),.none,[],[]⟩,⟨.some 37,.faddr 0 (.tmp 9),.none,[],[]⟩,⟨.some 38,.faddr 0 (.tmp 37),.none,[],[]⟩,⟨.some 39,.load false false 1 (.tmp 38),.none,[],[]⟩,⟨.some 40,.call (.av (.fn n_exposure_leg_breathes [])) [(.tmp 35),(.tmp 36),(.tmp 39)],.none,[],[11]⟩,⟨.some 41,.bin .add (.tmp 34) (.tmp 40),.none,[],[]⟩,⟨.some 42,.iaddr .none 1 (.tmp 29) (.tmp 32),.none,[],[]⟩,⟨.none,.store 1 (.tmp 42) (.tmp 41),.none,[41],[]⟩])))
 (.cut [1,7,23,24,25] []
 (.reg false [⟨.some 43,.bin .add (.tmp 25) (.av (.int .i64 1)),.none,[],[]⟩,⟨.some 25,.mv (.tmp 43),.none,[],[]⟩]))))))
def l_exposure_Consumed_1 : ACode := .loop (.cut [1,7,23,24,25] [[9]] b_exposure_Consumed_1)
@[simp] def t_exposure_Consumed_1 : ACode :=
 (.cut [7] []
 (.seq (.reg false [⟨.some 44,.mv (.tmp 7),.none,[7],[]⟩,⟨.some 4,.mv (.tmp 44),.none,[44],[]⟩,⟨.some 5,.mv (.av (.int .i64 0)),.none,[],[]⟩])
 .ret))
def a_exposure_Consumed : AFunc := ⟨45,
 (.seq (.reg false [⟨.some 2,.box true (.tmp 0),.none,[],[]⟩,⟨.some 4,.mv (.av .nils),.none,[],[]⟩,⟨.some 5,.mv (.av (.int .i64 0)),.none,[],[]⟩])
 (.seq (.seq (.reg false [⟨.some 10,.load true false 4 (.tmp 2),.none,[],[]⟩,⟨.some 11,.call (.av (.fn n_exposure_checkPlan [])) [(.tmp 10)],.none,[],[]⟩,⟨.some 6,.mv (.tmp 11),.none,[],[]⟩])
 (.seq (.reg false [⟨.some 12,.mv (.tmp 6),.none,[],[]⟩,⟨.some 13,.bin .neq (.tmp 12) (.av (.int .i64 0)),.none,[],[]⟩])
 (.cond (.tmp 13)
 (.seq (.reg false [⟨.some 14,.mv (.tmp 6),.none,[],[]⟩,⟨.some 4,.mv (.av .nils),.none,[],[]⟩,⟨.some 5,.mv (.tmp 14),.none,[],[]⟩])
 .ret)
 .skip)))
 (.cut [1,2] []
 (.seq (.seq (.reg false [⟨.some 15,.mv (.tmp 1),.none,[],[]⟩,⟨.some 16,.call (.av (.fn n_exposure_isBreath [])) [(.tmp 15)],.none,[],[]⟩,⟨.some 17,.un .not (.tmp 16),.none,[],[]⟩])
 (.cond (.tmp 17)
 (.seq (.reg false [⟨.some 4,.mv (.av .nils),.none,[],[]⟩,⟨.some 5,.mv (.av (.int .i64 2)),.none,[],[]⟩])
 .ret)
 .skip))
 (.cut [1,2] []
 (.seq (.reg false [⟨.some 18,.faddr 2 (.tmp 2),.none,[],[]⟩,⟨.some 19,.load false false 1 (.tmp 18),.none,[],[]⟩,⟨.some 20,.len false (.tmp 19),.none,[],[]⟩,⟨.some 21,.mkslc false 1 8 [(.int .i64 0)] (.tmp 20) (.tmp 20),.none,[],[]⟩,⟨.some 7,.mv (.tmp 21),.none,[21],[]⟩])
 (.seq (.seq (.reg false [⟨.some 22,.load true false 4 (.tmp 2),.none,[],[]⟩,⟨.some 23,.call (.av (.fn n_exposure_legs [])) [(.tmp 22)],.none,[],[]⟩,⟨.some 24,.len false (.tmp 23),.none,[],[]⟩,⟨.some 25,.mv (.av (.int .i64 0)),.none,[],[]⟩])
 (.block 0
 l_exposure_Consumed_1))
 t_exposure_Consumed_1))))))),
 [.tmp 4,.tmp 5], false⟩
theorem c_exposure_Consumed : chkFunc Tryz.prog gl n_exposure_Consumed a_exposure_Consumed = true := by kernel_rfl
def a_desk_world_planOf : AFunc := ⟨16,
 (.seq (.reg false [⟨.some 3,.box true (.tmp 1),.none,[],[]⟩,⟨.some 4,.alloc [(.str []),(.int .i64 0),.nils,.nils],.none,[],[]⟩])
 (.seq (.reg true [⟨.some 5,.mv (.tmp 0),.none,[],[]⟩,⟨.some 6,.nilchk (.tmp 5),.none,[],[]⟩,⟨.some 7,.faddr 1 (.tmp 6),.none,[],[]⟩,⟨.some 8,.faddr 2 (.tmp 7),.none,[],[]⟩,⟨.some 9,.load false false 1 (.tmp 8),.none,[],[]⟩,⟨.some 10,.mv (.tmp 0),.none,[],[]⟩,⟨.some 11,.faddr 1 (.tmp 3),.none,[],[]⟩,⟨.some 12,.load false false 1 (.tmp 11),.none,[],[]⟩,⟨.some 13,.call (.av (.fn n_desk_world_plan [])) [(.tmp 10),(.tmp 12)],.none,[],[8]⟩,⟨.some 14,.iaddr .none 4 (.tmp 9) (.tmp 13),.none,[],[]⟩,⟨.some 15,.load true false 4 (.tmp 14),.none,[],[]⟩,⟨.none,.store 4 (.tmp 4) (.tmp 15),.none,[15],[]⟩])
 .ret)),
 [.cell true 4 4], false⟩
theorem c_desk_world_planOf : chkFunc Tryz.prog gl n_desk_world_planOf a_desk_world_planOf = true := by kernel_rfl
def b_desk_CheckDesk_1 : ACode :=
 (.seq (.reg false [⟨.some 28,.bin .lss (.tmp 27) (.tmp 26),.none,[],[]⟩])
 (.seq (.cond (.tmp 28)
 .skip
 (.exit 0))
 (.cut [1,25,26,27] []
 (.seq (.block 1
 (.seq (.reg false [⟨.some 29,.mv (.tmp 27),.none,[],[]⟩,⟨.some 30,.iaddr .none 2 (.tmp 25) (.tmp 27),.none,[],[]⟩,⟨.some 31,.load true false 2 (.tmp 30),.none,[],[]⟩,⟨.some 6,.alloc [(.str []),(.int .i64 0)],.none,[],[]⟩,⟨.some 5,.mv (.tmp 29),.none,[],[]⟩,⟨.none,.store 2 (.tmp 6) (.tmp 31),.none,[31],[]⟩])
 (.block 2
 (.seq (.reg false [⟨.some 33,.faddr 0 (.tmp 6),.none,[],[]⟩,⟨.some 34,.load false false 1 (.tmp 33),.none,[],[]⟩,⟨.some 35,.call (.av (.fn n_desk_isName [])) [(.tmp 34)],.none,[],[]⟩,⟨.some 36,.un .not (.tmp 35),.none,[],[]⟩,⟨.some 32,.mv (.tmp 36),.none,[],[]⟩])
 (.cond (.tmp 32)
 (.seq (.reg false [⟨.some 2,.mv (.av (.int .i64 4)),.none,[],[]⟩])
 .ret)
 (.seq (.reg false [⟨.some 38,.faddr 3 (.tmp 1),.none,[],[]⟩,⟨.some 39,.load false false 1 (.tmp 38),.none,[],[]⟩,⟨.some 40,.mv (.tmp 5),.none,[],[]⟩,⟨.some 41,.slice (.slc 2) (.tmp 39) .none (.some (.tmp 40)) .none,.none,[],[]⟩,⟨.some 42,.mkfn n_desk_CheckDesk_c1 [(.tmp 6)],.none,[],[]⟩,⟨.some 43,.call (.av (.fn n_slices_ContainsFunc_api_DeskPerson [])) [(.tmp 41),(.tmp 42)],.none,[],[]⟩,⟨.some 37,.mv (.tmp 43),.none,[],[]⟩])
 (.cond (.tmp 37)
 (.seq (.reg false [⟨.some 2,.mv (.av (.int .i64 5)),.none,[],[]⟩])
 .ret)
 (.seq (.reg false [⟨.some 45,.faddr 1 (.tmp 6),.none,[],[]⟩,⟨.some 46,.load false false 1 (.tmp 45),.none,[],[]⟩,⟨.some 47,.call (.av (.fn n_desk_within [])) [(.tmp 46),(.av (.int .i64 1)),(.av (.int .i64 3))],.none,[],[]⟩,⟨.some 48,.un .not (.tmp 47),.none,[],[]⟩,⟨.some 44,.mv (.tmp 48),.none,[],[]⟩])
 (.cond (.tmp 44)
 (.seq (.reg false [⟨.some 2,.mv (.av (.int .i64 15)),.none,[],[]⟩])
 .ret)
 .skip)))))))))
 (.cut [1,25,26,27] []
 (.reg false [⟨.some 49,.bin .add (.tmp 27) (.av (.int .i64 1)),.none,[],[]⟩,⟨.some 27,.mv (.tmp 49),.none,[],[]⟩]))))))
def l_desk_CheckDesk_1 : ACode := .loop (.cut [1,25,26,27] [[6]] b_desk_CheckDesk_1)
@[simp] def t_desk_CheckDesk_1 : ACode :=
 (.cut [1] []
 (.seq (.seq (.reg false [⟨.some 50,.faddr 4 (.tmp 1),.none,[],[]⟩,⟨.some 51,.load true false 9 (.tmp 50),.none,[],[]⟩,⟨.some 52,.call (.av (.fn n_exposure_CheckRules [])) [(.tmp 51)],.none,[],[]⟩,⟨.some 7,.mv (.tmp 52),.none,[],[]⟩])
 (.seq (.reg false [⟨.some 53,.mv (.tmp 7),.none,[],[]⟩,⟨.some 54,.bin .neq (.tmp 53) (.av (.int .i64 0)),.none,[],[]⟩])
 (.cond (.tmp 54)
 (.seq (.reg false [⟨.some 55,.mv (.tmp 7),.none,[],[]⟩,⟨.some 2,.mv (.tmp 55),.none,[],[]⟩])
 .ret)
 .skip)))
 (.cut [1] []
 (.seq (.reg false [⟨.some 56,.faddr 13 (.tmp 1),.none,[],[]⟩,⟨.some 57,.load false false 1 (.tmp 56),.none,[],[]⟩,⟨.some 58,.call (.av (.fn n_tissue_CheckTable [])) [(.tmp 57)],.none,[],[]⟩,⟨.some 2,.mv (.tmp 58),.none,[],[]⟩])
 .ret))))
def a_desk_CheckDesk : AFunc := ⟨59,
 (.seq (.reg false [⟨.some 1,.box true (.tmp 0),.none,[],[]⟩,⟨.some 2,.mv (.av (.int .i64 0)),.none,[],[]⟩])
 (.seq (.seq (.reg false [⟨.some 8,.faddr 0 (.tmp 1),.none,[],[]⟩,⟨.some 9,.load false false 1 (.tmp 8),.none,[],[]⟩,⟨.some 10,.call (.av (.fn n_mix_CheckVessels [])) [(.tmp 9)],.none,[],[]⟩,⟨.some 3,.mv (.tmp 10),.none,[],[]⟩])
 (.seq (.reg false [⟨.some 11,.mv (.tmp 3),.none,[],[]⟩,⟨.some 12,.bin .neq (.tmp 11) (.av (.int .i64 0)),.none,[],[]⟩])
 (.cond (.tmp 12)
 (.seq (.reg false [⟨.some 13,.mv (.tmp 3),.none,[],[]⟩,⟨.some 2,.mv (.tmp 13),.none,[],[]⟩])
 .ret)
 .skip)))
 (.cut [1] []
 (.seq (.seq (.reg false [⟨.some 14,.faddr 1 (.tmp 1),.none,[],[]⟩,⟨.some 15,.load true false 2 (.tmp 14),.none,[],[]⟩,⟨.some 16,.call (.av (.fn n_kit_CheckSetup [])) [(.tmp 15)],.none,[],[]⟩,⟨.some 4,.mv (.tmp 16),.none,[],[]⟩])
 (.seq (.reg false [⟨.some 17,.mv (.tmp 4),.none,[],[]⟩,⟨.some 18,.bin .neq (.tmp 17) (.av (.int .i64 0)),.none,[],[]⟩])
 (.cond (.tmp 18)
 (.seq (.reg false [⟨.some 19,.mv (.tmp 4),.none,[],[]⟩,⟨.some 2,.mv (.tmp 19),.none,[],[]⟩])
 .ret)
 .skip)))
 (.cut [1] []
 (.seq (.seq (.reg false [⟨.some 20,.faddr 3 (.tmp 1),.none,[],[]⟩,⟨.some 21,.load false false 1 (.tmp 20),.none,[],[]⟩,⟨.some 22,.len false (.tmp 21),.none,[],[]⟩,⟨.some 23,.bin .gtr (.tmp 22) (.av (.int .i64 20)),.none,[],[]⟩])
 (.cond (.tmp 23)
 (.seq (.reg false [⟨.some 2,.mv (.av (.int .i64 8)),.none,[],[]⟩])
 .ret)
 .skip))
 (.cut [1] []
 (.seq (.seq (.reg false [⟨.some 24,.faddr 3 (.tmp 1),.none,[],[]⟩,⟨.some 25,.load false false 1 (.tmp 24),.none,[],[]⟩,⟨.some 26,.len false (.tmp 25),.none,[],[]⟩,⟨.some 27,.mv (.av (.int .i64 0)),.none,[],[]⟩])
 (.block 0
 l_desk_CheckDesk_1))
 t_desk_CheckDesk_1)))))))),
 [.tmp 2], false⟩
theorem c_desk_CheckDesk : chkFunc Tryz.prog gl n_desk_CheckDesk a_desk_CheckDesk = true := by kernel_rfl
def a_desk_newWorld : AFunc := ⟨11,
 (.seq (.reg false [⟨.some 2,.alloc [.nilp,.nils,.nils,.nils,.nils,.nils,.nils,.nils,.nils,.nils,(.int .i64 0),(.int .i64 0),(.int .i64 0),(.int .i64 0),(.int .i64 0),(.int .i64 0)],.none,[],[]⟩])
 (.seq (.reg false [⟨.some 3,.mv (.tmp 0),.none,[],[]⟩,⟨.some 4,.mv (.tmp 0),.none,[],[]⟩,⟨.some 5,.nilchk (.tmp 4),.none,[],[]⟩,⟨.some 6,.faddr 0 (.tmp 5),.none,[],[]⟩,⟨.some 7,.load false false 1 (.tmp 6),.none,[],[]⟩,⟨.some 8,.len false (.tmp 7),.none,[],[]⟩,⟨.some 9,.mkslc true 3 24 [(.int .i64 0),(.int .i64 0),(.int .i64 0)] (.tmp 8) (.tmp 8),.none,[],[]⟩,⟨.some 10,.build [.nilp,.nils,.nils,.nils,.nils,.nils,.nils,.nils,.nils,.nils,(.int .i64 0),(.int .i64 0),(.int .i64 0),(.int .i64 0),(.int .i64 0),(.int .i64 0)] [(0,1,(.tmp 3)),(7,1,(.tmp 9))],.none,[],[]⟩,⟨.none,.store 16 (.tmp 2) (.tmp 10),.none,[10],[]⟩])
 .ret)),
 [.cell true 16 2], false⟩
theorem c_desk_newWorld : chkFunc Tryz.prog gl n_desk_newWorld a_desk_newWorld = true := by kernel_rfl
def a_desk_world_person : AFunc := ⟨14,
 (.seq (.reg false [⟨.some 3,.box true (.tmp 1),.none,[],[]⟩,⟨.some 4,.mv (.av (.int .i64 0)),.none,[],[]⟩])
 (.seq (.reg false [⟨.some 5,.mv (.tmp 0),.none,[],[]⟩,⟨.some 6,.nilchk (.tmp 5),.none,[],[]⟩,⟨.some 7,.faddr 0 (.tmp 6),.none,[],[]⟩,⟨.some 8,.load false false 1 (.tmp 7),.none,[],[]⟩,⟨.some 9,.nilchk (.tmp 8),.none,[],[]⟩,⟨.some 10,.faddr 3 (.tmp 9),.none,[],[]⟩,⟨.some 11,.load false false 1 (.tmp 10),.none,[],[]⟩,⟨.some 12,.mkfn n_desk_world_person_c1 [(.tmp 3)],.none,[],[]⟩,⟨.some 13,.call (.av (.fn n_slices_IndexFunc_api_DeskPerson [])) [(.tmp 11),(.tmp 12)],.none,[],[]⟩,⟨.some 4,.mv (.tmp 13),.none,[],[]⟩])
 .ret)),
 [.tmp 4], false⟩
theorem c_desk_world_person : chkFunc Tryz.prog gl n_desk_world_person a_desk_world_person = true := by kernel_rfl
def a_desk_head : AFunc := ⟨44,
 (.seq (.reg false [⟨.some 2,.box true (.tmp 0),.none,[],[]⟩,⟨.some 4,.mv (.av (.str [])),.none,[],[]⟩,⟨.some 5,.mv (.av (.str [])),.none,[],[]⟩,⟨.some 6,.mv (.av (.int .i64 0)),.none,[],[]⟩])
 (.seq (.seq (.reg false [⟨.some 12,.mv (.tmp 1),.none,[],[]⟩,⟨.some 13,.len true (.tmp 12),.none,[],[]⟩,⟨.some 14,.bin .gtr (.tmp 13) (.av (.int .i64 400)),.none,[],[]⟩])
 (.cond (.tmp 14)
 (.seq (.reg false [⟨.some 4,.mv (.av (.str [])),.none,[],[]⟩,⟨.some 5,.mv (.av (.str [])),.none,[],[]⟩,⟨.some 6,.mv (.av (.int .i64 8)),.none,[],[]⟩])
 .ret)
 .skip))
 (.cut [1,2] []
 (.seq (.reg false [⟨.some 16,.mv (.tmp 1),.none,[],[]⟩,⟨.some 17,.call (.av (.fn n_strings_Cut [])) [(.tmp 16),(.av (.str [32]))],.none,[],[]⟩,⟨.some 15,.mv (.tmp 17),.none,[],[]⟩,⟨.some 18,.extract (.tmp 15) 0,.none,[],[]⟩,⟨.some 19,.extract (.tmp 15) 1,.none,[],[]⟩,⟨.some 20,.extract (.tmp 15) 2,.none,[],[]⟩,⟨.some 7,.mv (.tmp 18),.none,[],[]⟩,⟨.some 8,.mv (.tmp 19),.none,[],[]⟩,⟨.some 9,.mv (.tmp 20),.none,[],[]⟩])
 (.seq (.reg false [⟨.some 22,.load false false 1 (.av (.rptr [(.map [(.tup [(.str [100,105,118,101]),.nils]),(.tup [(.str [102,105,108,108]),(.slc 1 [(.int .i64 1)] .unk)]),(.tup [(.str [102,105,120]),(.slc 1 [(.int .i64 1),(.int .i64 2)] .unk)]),(.tup [(.str [107,105,116]),(.slc 1 [(.int .i64 1)] .unk)]),(.tup [(.str [112,108,97,110]),.nils]),(.tup [(.str [114,101,99,111,114,100]),.nils]),(.tup [(.str [115,105,103,110]),.nils])])])),.none,[],[]⟩,⟨.some 23,.mv (.tmp 7),.none,[],[]⟩,⟨.some 24,.lookup .nils true (.tmp 22) (.tmp 23),.none,[],[]⟩,⟨.some 21,.mv (.tmp 24),.none,[],[]⟩,⟨.some 25,.extract (.tmp 21) 0,.none,[],[]⟩,⟨.some 26,.extract (.tmp 21) 1,.none,[],[]⟩,⟨.some 10,.mv (.tmp 25),.none,[25],[]⟩,⟨.some 11,.mv (.tmp 26),.none,[],[]⟩])
 (.seq (.block 0
 (.seq (.reg false [⟨.some 28,.mv (.tmp 9),.none,[],[]⟩,⟨.some 29,.un .not (.tmp 28),.none,[],[]⟩,⟨.some 30,.mv (.tmp 29),.none,[],[]⟩,⟨.some 31,.mv (.tmp 1),.some (30,false),[],[]⟩,⟨.some 32,.call (.av (.fn n_strings_Contains [])) [(.tmp 31),(.av (.str [10]))],.some (30,false),[],[]⟩,⟨.some 33,.pick (.tmp 30) (.av (.bool true)) (.tmp 32),.none,[],[]⟩,⟨.some 27,.mv (.tmp 33),.none,[],[]⟩])
 (.cond (.tmp 27)
 (.seq (.reg false [⟨.some 4,.mv (.av (.str [])),.none,[],[]⟩,⟨.some 5,.mv (.av (.str [])),.none,[],[]⟩,⟨.some 6,.mv (.av (.int .i64 7)),.none,[],[]⟩])
 .ret)
 (.seq (.reg false [⟨.some 35,.mv (.tmp 11),.none,[],[]⟩,⟨.some 36,.un .not (.tmp 35),.none,[],[]⟩,⟨.some 34,.mv (.tmp 36),.none,[],[]⟩])
 (.cond (.tmp 34)
 (.seq (.reg false [⟨.some 4,.mv (.av (.str [])),.none,[],[]⟩,⟨.some 5,.mv (.av (.str [])),.none,[],[]⟩,⟨.some 6,.mv (.av (.int .i64 15)),.none,[],[]⟩])
 .ret)
 (.seq (.reg false [⟨.some 38,.mv (.tmp 10),.none,[],[]⟩,⟨.some 39,.faddr 1 (.tmp 2),.none,[],[]⟩,⟨.some 40,.load false false 1 (.tmp 39),.none,[],[]⟩,⟨.some 41,.call (.av (.fn n_slices_Contains_int [])) [(.tmp 38),(.tmp 40)],.none,[],[]⟩,⟨.some 37,.mv (.tmp 41),.none,[],[]⟩])
 (.cond (.tmp 37)
 (.seq (.reg false [⟨.some 4,.mv (.av (.str [])),.none,[],[]⟩,⟨.some 5,.mv (.av (.str [])),.none,[],[]⟩,⟨.some 6,.mv (.av (.int .i64 24)),.none,[],[]⟩])
 .ret)
 .skip)))))))
 (.cut [7,8] []
 (.seq (.reg false [⟨.some 42,.mv (.tmp 7),.none,[],[]⟩,⟨.some 43,.mv (.tmp 8),.none,[],[]⟩,⟨.some 4,.mv (.tmp 42),.none,[],[]⟩,⟨.some 5,.mv (.tmp 43),.none,[],[]⟩,⟨.some 6,.mv (.av (.int .i64 0)),.none,[],[]⟩])
 .ret)))))))),
 [.tmp 4,.tmp 5,.tmp 6], false⟩
theorem c_desk_head : chkFunc Tryz.prog gl n_desk_head a_desk_head = true := by kernel_rfl
def b_desk_keeper_fix_1 : ACode :=
 (.seq (.reg false [⟨.some 126,.bin .lss (.tmp 125) (.tmp 124),.none,[],[]⟩])
 (.seq (.cond (.tmp 126)
 .skip
 (.exit 2))
 (.cut [0,16,17,123,124,125] []
 (.seq (.block 3
 (.seq (.reg false [⟨.some 127,.iaddr .none 6 (.tmp 123) (.tmp 125),.none,[],[]⟩,⟨.some 128,.load true false 6 (.tmp 127),.none,[],[]⟩,⟨.some 19,.alloc [(.int .i64 0),(.str []),(.int .i64 0),(.str []),(.str []),.nili],.none,[],[]⟩,⟨.none,.store 6 (.tmp 19) (.tmp 128),.none,[128],[]⟩])
 (.seq (.reg false [⟨.some 129,.load true false 6 (.tmp 19),.none,[],[]⟩,⟨.some 130,.call (.av (.fn n_desk_world_add [])) [(.tmp 17),(.tmp 129)],.none,[],[]⟩,⟨.some 20,.mv (.tmp 130),.none,[],[]⟩])
 (.seq (.reg false [⟨.some 131,.mv (.tmp 20),.none,[],[]⟩,⟨.some 132,.bin .neq (.tmp 131) (.av (.int .i64 0)),.none,[],[]⟩])
 (.cond (.tmp 132)
 (.seq (.reg false [⟨.some 133,.mv (.tmp 20),.none,[],[]⟩,⟨.some 6,.mv (.tmp 133),.none,[],[]⟩])
 .ret)
 .skip)))))
 (.cut [0,16,17,123,124,125] []
 (.reg false [⟨.some 134,.bin .add (.tmp 125) (.av (.int .i64 1)),.none,[],[]⟩,⟨.some 125,.mv (.tmp 134),.none,[],[]⟩]))))))
def l_desk_keeper_fix_1 : ACode := .loop (.cut [0,16,17,123,124,125] [[19]] b_desk_keeper_fix_1)
@[simp] def t_desk_keeper_fix_1 : ACode :=
 (.cut [0,16,17] []
 (.seq (.reg false [⟨.some 135,.mv (.tmp 0),.none,[],[]⟩,⟨.some 136,.mv (.tmp 0),.none,[],[]⟩,⟨.some 137,.load true false 16 (.tmp 17),.none,[],[]⟩,⟨.some 138,.mv (.tmp 16),.none,[16],[]⟩,⟨.some 139,.nilchk (.tmp 135),.none,[],[]⟩,⟨.some 140,.faddr 0 (.tmp 139),.none,[],[]⟩,⟨.none,.store 16 (.tmp 140) (.tmp 137),.none,[137],[]⟩,⟨.some 141,.nilchk (.tmp 136),.none,[],[]⟩,⟨.some 142,.faddr 17 (.tmp 141),.none,[],[]⟩,⟨.none,.store 1 (.tmp 142) (.tmp 138),.none,[138],[]⟩])
 (.seq (.reg false [⟨.some 6,.mv (.av (.int .i64 0)),.none,[],[]⟩])
 .ret)))
def a_desk_keeper_fix : AFunc := ⟨143,
 (.seq (.reg false [⟨.some 4,.box false (.tmp 1),.none,[],[]⟩,⟨.some 6,.mv (.av (.int .i64 0)),.none,[],[]⟩])
 (.seq (.reg false [⟨.some 22,.mv (.tmp 2),.none,[],[]⟩,⟨.some 23,.call (.av (.fn n_strings_Cut [])) [(.tmp 22),(.av (.str [32]))],.none,[],[]⟩,⟨.some 21,.mv (.tmp 23),.none,[],[]⟩,⟨.some 24,.extract (.tmp 21) 0,.none,[],[]⟩,⟨.some 25,.extract (.tmp 21) 1,.none,[],[]⟩,⟨.some 26,.extract (.tmp 21) 2,.none,[],[]⟩,⟨.some 7,.mv (.tmp 24),.none,[],[]⟩,⟨.some 8,.mv (.tmp 25),.none,[],[]⟩,⟨.some 9,.mv (.tmp 26),.none,[],[]⟩])
 (.seq (.reg false [⟨.some 28,.mv (.tmp 7),.none,[],[]⟩,⟨.some 29,.call (.av (.fn n_desk_number [])) [(.tmp 28),(.av (.int .i64 3))],.none,[],[]⟩,⟨.some 27,.mv (.tmp 29),.none,[],[]⟩,⟨.some 30,.extract (.tmp 27) 0,.none,[],[]⟩,⟨.some 31,.extract (.tmp 27) 1,.none,[],[]⟩,⟨.some 10,.alloc [(.int .i64 0)],.none,[],[]⟩,⟨.none,.store 1 (.tmp 10) (.tmp 30),.none,[30],[]⟩,⟨.some 11,.mv (.tmp 31),.none,[],[]⟩])
 (.seq (.block 0
 (.seq (.reg false [⟨.some 33,.mv (.tmp 9),.none,[],[]⟩,⟨.some 34,.un .not (.tmp 33),.none,[],[]⟩,⟨.some 35,.mv (.tmp 34),.none,[],[]⟩,⟨.some 36,.mv (.tmp 11),.some (35,false),[],[]⟩,⟨.some 37,.un .not (.tmp 36),.some (35,false),[],[]⟩,⟨.some 38,.pick (.tmp 35) (.av (.bool true)) (.tmp 37),.none,[],[]⟩,⟨.some 32,.mv (.tmp 38),.none,[],[]⟩])
 (.cond (.tmp 32)
 (.seq (.reg false [⟨.some 6,.mv (.av (.int .i64 7)),.none,[],[]⟩])
 .ret)
 (.seq (.reg false [⟨.some 40,.mv (.tmp 8),.none,[],[]⟩,⟨.some 41,.call (.av (.fn n_strings_HasPrefix [])) [(.tmp 40),(.av (.str [102,105,120,32]))],.none,[],[]⟩,⟨.some 39,.mv (.tmp 41),.none,[],[]⟩])
 (.cond (.tmp 39)
 (.seq (.reg false [⟨.some 6,.mv (.av (.int .i64 15)),.none,[],[]⟩])
 .ret)
 .skip)))))
 (.cut [0,4,8,10] []
 (.seq (.reg false [⟨.some 42,.mv (.tmp 0),.none,[],[]⟩,⟨.some 43,.nilchk (.tmp 42),.none,[],[]⟩,⟨.some 44,.faddr 17 (.tmp 43),.none,[],[]⟩,⟨.some 45,.load false false 1 (.tmp 44),.none,[],[]⟩,⟨.some 46,.mkfn n_desk_keeper_fix_c1 [(.tmp 10)],.none,[],[]⟩,⟨.some 47,.call (.av (.fn n_slices_IndexFunc_desk_counted [])) [(.tmp 45),(.tmp 46)],.none,[],[]⟩,⟨.some 12,.mv (.tmp 47),.none,[],[]⟩])
 (.seq (.seq (.reg false [⟨.some 48,.mv (.tmp 12),.none,[],[]⟩,⟨.some 49,.bin .geq (.tmp 48) (.av (.int .i64 0)),.none,[],[]⟩])
 (.cond (.tmp 49)
 (.reg false [⟨.some 50,.mv (.tmp 0),.none,[],[]⟩,⟨.some 51,.nilchk (.tmp 50),.none,[],[]⟩,⟨.some 52,.faddr 17 (.tmp 51),.none,[],[]⟩,⟨.some 53,.load false false 1 (.tmp 52),.none,[],[]⟩,⟨.some 54,.mv (.tmp 12),.none,[],[]⟩,⟨.some 55,.iaddr .none 6 (.tmp 53) (.tmp 54),.none,[],[]⟩,⟨.some 56,.faddr 1 (.tmp 55),.none,[],[]⟩,⟨.some 57,.load true false 2 (.tmp 56),.none,[],[]⟩,⟨.none,.store 2 (.tmp 4) (.tmp 57),.none,[57],[]⟩])
 .skip))
 (.cut [0,4,8,10,12] []
 (.seq (.reg false [⟨.some 59,.load true false 2 (.tmp 4),.none,[],[]⟩,⟨.some 60,.mv (.tmp 8),.none,[],[]⟩,⟨.some 61,.call (.av (.fn n_desk_head [])) [(.tmp 59),(.tmp 60)],.none,[],[]⟩,⟨.some 58,.mv (.tmp 61),.none,[],[]⟩,⟨.some 62,.extract (.tmp 58) 0,.none,[],[]⟩,⟨.some 63,.extract (.tmp 58) 1,.none,[],[]⟩,⟨.some 64,.extract (.tmp 58) 2,.none,[],[]⟩,⟨.some 13,.mv (.tmp 62),.none,[],[]⟩,⟨.some 2,.mv (.tmp 63),.none,[],[]⟩,⟨.some 14,.mv (.tmp 64),.none,[],[]⟩])
 (.seq (.seq (.reg false [⟨.some 65,.mv (.tmp 14),.none,[],[]⟩,⟨.some 66,.bin .neq (.tmp 65) (.av (.int .i64 0)),.none,[],[]⟩])
 (.cond (.tmp 66)
 (.seq (.reg false [⟨.some 67,.mv (.tmp 14),.none,[],[]⟩,⟨.some 6,.mv (.tmp 67),.none,[],[]⟩])
 .ret)
 .skip))
 (.cut [0,2,8,10,12,13] []
 (.seq (.reg false [⟨.some 69,.mv (.tmp 13),.none,[],[]⟩,⟨.some 70,.mv (.tmp 2),.none,[],[]⟩,⟨.some 71,.call (.av (.fn n_desk_factOf [])) [(.tmp 69),(.tmp 70)],.none,[],[]⟩,⟨.some 68,.mv (.tmp 71),.none,[],[]⟩,⟨.some 72,.extract (.tmp 68) 0,.none,[],[]⟩,⟨.some 73,.extract (.tmp 68) 1,.none,[],[]⟩,⟨.some 15,.mv (.tmp 72),.none,[],[]⟩,⟨.some 14,.mv (.tmp 73),.none,[],[]⟩])
 (.seq (.block 1
 (.seq (.reg false [⟨.some 75,.mv (.tmp 14),.none,[],[]⟩,⟨.some 76,.bin .neq (.tmp 75) (.av (.int .i64 0)),.none,[],[]⟩,⟨.some 74,.mv (.tmp 76),.none,[],[]⟩])
 (.cond (.tmp 74)
 (.seq (.reg false [⟨.some 77,.mv (.tmp 14),.none,[],[]⟩,⟨.some 6,.mv (.tmp 77),.none,[],[]⟩])
 .ret)
 (.seq (.reg true [⟨.some 79,.load false false 1 (.tmp 10),.none,[],[]⟩,⟨.some 80,.mv (.tmp 0),.none,[],[]⟩,⟨.some 81,.nilchk (.tmp 80),.none,[],[]⟩,⟨.some 82,.faddr 16 (.tmp 81),.none,[],[]⟩,⟨.some 83,.load false false 1 (.tmp 82),.none,[],[]⟩,⟨.some 84,.len false (.tmp 83),.none,[],[]⟩,⟨.some 85,.call (.av (.fn n_desk_within [])) [(.tmp 79),(.av (.int .i64 1)),(.tmp 84)],.none,[],[]⟩,⟨.some 86,.un .not (.tmp 85),.none,[],[]⟩,⟨.some 78,.mv (.tmp 86),.none,[],[]⟩])
 (.cond (.tmp 78)
 (.seq (.reg false [⟨.some 6,.mv (.av (.int .i64 6)),.none,[],[]⟩])
 .ret)
 (.seq (.reg false [⟨.some 88,.mv (.tmp 12),.none,[],[]⟩,⟨.some 89,.bin .lss (.tmp 88) (.av (.int .i64 0)),.none,[],[]⟩,⟨.some 90,.mv (.tmp 89),.none,[],[]⟩,⟨.some 91,.mv (.tmp 0),.some (90,false),[],[]⟩,⟨.some 92,.nilchk (.tmp 91),.some (90,false),[],[]⟩,⟨.some 93,.faddr 17 (.tmp 92),.some (90,false),[],[]⟩,⟨.some 94,.load false false 1 (.tmp 93),.some (90,false),[],[]⟩,⟨.some 95,.mv (.tmp 12),.some (90,false),[],[]⟩,⟨.some 96,.iaddr .none 6 (.tmp 94) (.tmp 95),.some (90,false),[],[]⟩,⟨.some 97,.faddr 3 (.tmp 96),.some (90,false),[],[]⟩,⟨.some 98,.load false false 1 (.tmp 97),.some (90,false),[],[]⟩,⟨.some 99,.mv (.tmp 13),.some (90,false),[],[]⟩,⟨.some 100,.bin .neq (.tmp 98) (.tmp 99),.some (90,false),[],[]⟩,⟨.some 101,.pick (.tmp 90) (.av (.bool true)) (.tmp 100),.none,[],[]⟩,⟨.some 87,.mv (.tmp 101),.none,[],[]⟩])
 (.cond (.tmp 87)
 (.seq (.reg false [⟨.some 6,.mv (.av (.int .i64 15)),.none,[],[]⟩])
 .ret)
 .skip)))))))
 (.cut [0,8,12,15] []
 (.cset [⟨.some 102,.mv (.tmp 0),.none,[],[]⟩,⟨.some 103,.nilchk (.tmp 102),.none,[],[]⟩,⟨.some 104,.faddr 17 (.tmp 103),.none,[],[]⟩,⟨.some 105,.load false false 1 (.tmp 104),.none,[],[]⟩] 113 (.tmp 105) 106 16 6 (.tmp 12) 4 (.tmp 8) 5 (.tmp 15) [107,108,109,110,111,112,113,114,115,116]
 (.cut [0,16] []
 (.seq (.reg false [⟨.some 117,.mv (.tmp 0),.none,[],[]⟩,⟨.some 118,.nilchk (.tmp 117),.none,[],[]⟩,⟨.some 119,.faddr 0 (.tmp 118),.none,[],[]⟩,⟨.some 120,.faddr 0 (.tmp 119),.none,[],[]⟩,⟨.some 121,.load false false 1 (.tmp 120),.none,[],[]⟩,⟨.some 122,.call (.av (.fn n_desk_newWorld [])) [(.tmp 121)],.none,[],[]⟩,⟨.some 17,.alloc [.nilp,.nils,.nils,.nils,.nils,.nils,.nils,.nils,.nils,.nils,(.int .i64 0),(.int .i64 0),(.int .i64 0),(.int .i64 0),(.int .i64 0),(.int .i64 0)],.none,[],[]⟩,⟨.none,.store 16 (.tmp 17) (.tmp 122),.none,[122],[]⟩])
 (.seq (.seq (.reg false [⟨.some 123,.mv (.tmp 16),.none,[],[]⟩,⟨.some 124,.len false (.tmp 123),.none,[],[]⟩,⟨.some 125,.mv (.av (.int .i64 0)),.none,[],[]⟩])
 (.block 2
 l_desk_keeper_fix_1))
 t_desk_keeper_fix_1)))))))))))))))))),
 [.tmp 6], false⟩
theorem c_desk_keeper_fix : chkFunc Tryz.prog gl n_desk_keeper_fix a_desk_keeper_fix = true := by kernel_rfl
def a_desk_keeper_fact : AFunc := ⟨59,
 (.seq (.reg false [⟨.some 6,.box true (.tmp 1),.none,[],[]⟩,⟨.some 10,.mv (.av (.int .i64 0)),.none,[],[]⟩])
 (.seq (.reg false [⟨.some 17,.mv (.tmp 2),.none,[],[]⟩,⟨.some 18,.mv (.tmp 3),.none,[],[]⟩,⟨.some 19,.call (.av (.fn n_desk_factOf [])) [(.tmp 17),(.tmp 18)],.none,[],[]⟩,⟨.some 16,.mv (.tmp 19),.none,[],[]⟩,⟨.some 20,.extract (.tmp 16) 0,.none,[],[]⟩,⟨.some 21,.extract (.tmp 16) 1,.none,[],[]⟩,⟨.some 11,.mv (.tmp 20),.none,[],[]⟩,⟨.some 12,.mv (.tmp 21),.none,[],[]⟩])
 (.seq (.seq (.reg false [⟨.some 22,.mv (.tmp 12),.none,[],[]⟩,⟨.some 23,.bin .neq (.tmp 22) (.av (.int .i64 0)),.none,[],[]⟩])
 (.cond (.tmp 23)
 (.seq (.reg false [⟨.some 24,.mv (.tmp 12),.none,[],[]⟩,⟨.some 10,.mv (.tmp 24),.none,[],[]⟩])
 .ret)
 .skip))
 (.cut [0,2,4,6,11] []
 (.seq (.reg true [⟨.some 25,.mv (.tmp 0),.none,[],[]⟩,⟨.some 26,.nilchk (.tmp 25),.none,[],[]⟩,⟨.some 27,.faddr 16 (.tmp 26),.none,[],[]⟩,⟨.some 28,.load false false 1 (.tmp 27),.none,[],[]⟩,⟨.some 29,.len false (.tmp 28),.none,[],[]⟩,⟨.some 30,.bin .add (.tmp 29) (.av (.int .i64 1)),.none,[],[]⟩,⟨.some 31,.load true false 2 (.tmp 6),.none,[],[]⟩,⟨.some 32,.mv (.tmp 2),.none,[],[]⟩,⟨.some 33,.mv (.tmp 4),.none,[],[]⟩,⟨.some 34,.mv (.tmp 11),.none,[],[]⟩,⟨.some 35,.build [(.int .i64 0),(.str []),(.int .i64 0),(.str []),(.str []),.nili] [(0,1,(.tmp 30)),(1,2,(.tmp 31)),(3,1,(.tmp 32)),(4,1,(.tmp 33)),(5,1,(.tmp 34))],.none,[],[]⟩,⟨.some 13,.alloc [(.int .i64 0),(.str []),(.int .i64 0),(.str []),(.str []),.nili],.none,[],[3,6]⟩,⟨.none,.store 6 (.tmp 13) (.tmp 35),.none,[35],[]⟩])
 (.seq (.reg false [⟨.some 36,.mv (.tmp 0),.none,[],[]⟩,⟨.some 37,.nilchk (.tmp 36),.none,[],[]⟩,⟨.some 38,.faddr 0 (.tmp 37),.none,[],[]⟩,⟨.some 39,.load true false 16 (.tmp 38),.none,[],[]⟩,⟨.some 14,.alloc [.nilp,.nils,.nils,.nils,.nils,.nils,.nils,.nils,.nils,.nils,(.int .i64 0),(.int .i64 0),(.int .i64 0),(.int .i64 0),(.int .i64 0),(.int .i64 0)],.none,[],[]⟩,⟨.none,.store 16 (.tmp 14) (.tmp 39),.none,[39],[]⟩])
 (.seq (.seq (.reg false [⟨.some 40,.load true false 6 (.tmp 13),.none,[],[]⟩,⟨.some 41,.call (.av (.fn n_desk_world_add [])) [(.tmp 14),(.tmp 40)],.none,[],[]⟩,⟨.some 15,.mv (.tmp 41),.none,[],[]⟩])
 (.seq (.reg false [⟨.some 42,.mv (.tmp 15),.none,[],[]⟩,⟨.some 43,.bin .neq (.tmp 42) (.av (.int .i64 0)),.none,[],[]⟩])
 (.cond (.tmp 43)
 (.seq (.reg false [⟨.some 44,.mv (.tmp 15),.none,[],[]⟩,⟨.some 10,.mv (.tmp 44),.none,[],[]⟩])
 .ret)
 .skip)))
 (.cut [0,13,14] []
 (.seq (.reg true [⟨.some 45,.mv (.tmp 0),.none,[],[]⟩,⟨.some 46,.mv (.tmp 0),.none,[],[]⟩,⟨.some 47,.load true false 16 (.tmp 14),.none,[],[]⟩,⟨.some 48,.mv (.tmp 0),.none,[],[]⟩,⟨.some 49,.nilchk (.tmp 48),.none,[],[]⟩,⟨.some 50,.faddr 17 (.tmp 49),.none,[],[]⟩,⟨.some 51,.load false true 1 (.tmp 50),.none,[],[2]⟩,⟨.some 52,.load true false 6 (.tmp 13),.none,[],[6]⟩,⟨.some 53,.bslice true 6 1 [(.int .i64 0),(.str []),(.int .i64 0),(.str []),(.str []),.nili] [(0,(.tmp 52))],.none,[],[]⟩,⟨.some 54,.append 6 80 (.tmp 51) (.tmp 53),.none,[51],[]⟩,⟨.some 55,.nilchk (.tmp 45),.none,[],[]⟩,⟨.some 56,.faddr 0 (.tmp 55),.none,[],[]⟩,⟨.none,.store 16 (.tmp 56) (.tmp 47),.none,[47],[]⟩,⟨.some 57,.nilchk (.tmp 46),.none,[],[]⟩,⟨.some 58,.faddr 17 (.tmp 57),.none,[],[]⟩,⟨.none,.store 1 (.tmp 58) (.tmp 54),.none,[54],[]⟩])
 (.seq (.reg false [⟨.some 10,.mv (.av (.int .i64 0)),.none,[],[]⟩])
 .ret)))))))))),
 [.tmp 10], false⟩
theorem c_desk_keeper_fact : chkFunc Tryz.prog gl n_desk_keeper_fact a_desk_keeper_fact = true := by kernel_rfl
def b_mix_CheckVessels_1 : ACode :=
 (.seq (.reg false [⟨.some 11,.bin .lss (.tmp 10) (.tmp 9),.none,[],[]⟩])
 (.seq (.cond (.tmp 11)
 .skip
 (.exit 0))
 (.cut [0,8,9,10] []
 (.seq (.block 1
 (.seq (.reg false [⟨.some 12,.mv (.tmp 10),.none,[],[]⟩,⟨.some 13,.iaddr .none 3 (.tmp 8) (.tmp 10),.none,[],[]⟩,⟨.some 14,.load true false 3 (.tmp 13),.none,[],[]⟩,⟨.some 4,.alloc [(.str []),(.int .i64 0),(.int .i64 0)],.none,[],[]⟩,⟨.some 3,.mv (.tmp 12),.none,[],[]⟩,⟨.none,.store 3 (.tmp 4) (.tmp 14),.none,[14],[]⟩])
 (.block 2
 (.seq (.reg false [⟨.some 16,.faddr 0 (.tmp 4),.none,[],[]⟩,⟨.some 17,.load false false 1 (.tmp 16),.none,[],[]⟩,⟨.some 18,.call (.av (.fn n_mix_isName [])) [(.tmp 17)],.none,[],[]⟩,⟨.some 19,.un .not (.tmp 18),.none,[],[]⟩,⟨.some 15,.mv (.tmp 19),.none,[],[]⟩])
 (.cond (.tmp 15)
 (.seq (.reg false [⟨.some 2,.mv (.av (.int .i64 4)),.none,[],[]⟩])
 .ret)
 (.seq (.reg false [⟨.some 21,.mv (.tmp 0),.none,[],[]⟩,⟨.some 22,.faddr 0 (.tmp 4),.none,[],[]⟩,⟨.some 23,.load false false 1 (.tmp 22),.none,[],[]⟩,⟨.some 24,.call (.av (.fn n_mix_vessel [])) [(.tmp 21),(.tmp 23)],.none,[],[]⟩,⟨.some 25,.mv (.tmp 3),.none,[],[]⟩,⟨.some 26,.bin .lss (.tmp 24) (.tmp 25),.none,[],[]⟩,⟨.some 20,.mv (.tmp 26),.none,[],[]⟩])
 (.cond (.tmp 20)
 (.seq (.reg false [⟨.some 2,.mv (.av (.int .i64 5)),.none,[],[]⟩])
 .ret)
 (.seq (.reg false [⟨.some 28,.faddr 1 (.tmp 4),.none,[],[]⟩,⟨.some 29,.load false false 1 (.tmp 28),.none,[],[]⟩,⟨.some 30,.call (.av (.fn n_mix_within [])) [(.tmp 29),(.av (.int .i64 1)),(.av (.int .i64 1000000))],.none,[],[]⟩,⟨.some 31,.un .not (.tmp 30),.none,[],[]⟩,⟨.some 32,.mv (.tmp 31),.none,[],[]⟩,⟨.some 33,.faddr 2 (.tmp 4),.some (32,false),[],[]⟩,⟨.some 34,.load false false 1 (.tmp 33),.some (32,false),[],[]⟩,⟨.some 35,.call (.av (.fn n_mix_within [])) [(.tmp 34),(.av (.int .i64 1)),(.av (.int .i64 400000))],.some (32,false),[],[]⟩,⟨.some 36,.un .not (.tmp 35),.some (32,false),[],[]⟩,⟨.some 37,.pick (.tmp 32) (.av (.bool true)) (.tmp 36),.none,[],[]⟩,⟨.some 27,.mv (.tmp 37),.none,[],[]⟩])
 (.cond (.tmp 27)
 (.seq (.reg false [⟨.some 2,.mv (.av (.int .i64 2)),.none,[],[]⟩])
 .ret)
 .skip)))))))))
 (.cut [0,8,9,10] []
 (.reg false [⟨.some 38,.bin .add (.tmp 10) (.av (.int .i64 1)),.none,[],[]⟩,⟨.some 10,.mv (.tmp 38),.none,[],[]⟩]))))))
def l_mix_CheckVessels_1 : ACode := .loop (.cut [0,8,9,10] [[4]] b_mix_CheckVessels_1)
@[simp] def t_mix_CheckVessels_1 : ACode :=
 (.cut [] []
 (.seq (.reg false [⟨.some 2,.mv (.av (.int .i64 0)),.none,[],[]⟩])
 .ret))
def a_mix_CheckVessels : AFunc := ⟨39,
 (.seq (.reg false [⟨.some 2,.mv (.av (.int .i64 0)),.none,[],[]⟩])
 (.seq (.seq (.reg false [⟨.some 5,.mv (.tmp 0),.none,[],[]⟩,⟨.some 6,.len false (.tmp 5),.none,[],[]⟩,⟨.some 7,.bin .gtr (.tmp 6) (.av (.int .i64 20)),.none,[],[]⟩])
 (.cond (.tmp 7)
 (.seq (.reg false [⟨.some 2,.mv (.av (.int .i64 8)),.none,[],[]⟩])
 .ret)
 .skip))
 (.cut [0] []
 (.seq (.seq (.reg false [⟨.some 8,.mv (.tmp 0),.none,[],[]⟩,⟨.some 9,.len false (.tmp 8),.none,[],[]⟩,⟨.some 10,.mv (.av (.int .i64 0)),.none,[],[]⟩])
 (.block 0
 l_mix_CheckVessels_1))
 t_mix_CheckVessels_1)))),
 [.tmp 2], false⟩
theorem c_mix_CheckVessels : chkFunc Tryz.prog gl n_mix_CheckVessels a_mix_CheckVessels = true := by kernel_rfl
def a_mix_store_enter : AFunc := ⟨209,
 (.seq (.reg false [⟨.some 3,.box true (.tmp 1),.none,[],[]⟩,⟨.some 4,.mv (.av (.int .i64 0)),.none,[],[]⟩])
 (.seq (.seq (.reg false [⟨.some 11,.load true false 8 (.tmp 3),.none,[],[]⟩,⟨.some 12,.call (.av (.fn n_mix_alone [])) [(.tmp 11)],.none,[],[]⟩,⟨.some 5,.mv (.tmp 12),.none,[],[]⟩])
 (.seq (.reg false [⟨.some 13,.mv (.tmp 5),.none,[],[]⟩,⟨.some 14,.bin .neq (.tmp 13) (.av (.int .i64 0)),.none,[],[]⟩])
 (.cond (.tmp 14)
 (.seq (.reg false [⟨.some 15,.mv (.tmp 5),.none,[],[]⟩,⟨.some 4,.mv (.tmp 15),.none,[],[]⟩])
 .ret)
 .skip)))
 (.cut [0,3] []
 (.seq (.reg true [⟨.some 16,.mv (.tmp 0),.none,[],[]⟩,⟨.some 17,.nilchk (.tmp 16),.none,[],[]⟩,⟨.some 18,.faddr 0 (.tmp 17),.none,[],[]⟩,⟨.some 19,.load false false 1 (.tmp 18),.none,[],[]⟩,⟨.some 20,.faddr 2 (.tmp 3),.none,[],[]⟩,⟨.some 21,.load false false 1 (.tmp 20),.none,[],[]⟩,⟨.some 22,.call (.av (.fn n_mix_vessel [])) [(.tmp 19),(.tmp 21)],.none,[],[6]⟩,⟨.some 23,.mv (.tmp 0),.none,[],[]⟩,⟨.some 24,.nilchk (.tmp 23),.none,[],[]⟩,⟨.some 25,.faddr 0 (.tmp 24),.none,[],[]⟩,⟨.some 26,.load false false 1 (.tmp 25),.none,[],[]⟩,⟨.some 27,.faddr 3 (.tmp 3),.none,[],[]⟩,⟨.some 28,.load false false 1 (.tmp 27),.none,[],[]⟩,⟨.some 29,.call (.av (.fn n_mix_vessel [])) [(.tmp 26),(.tmp 28)],.none,[],[]⟩,⟨.some 6,.mv (.tmp 22),.none,[],[]⟩,⟨.some 7,.mv (.tmp 29),.none,[],[]⟩])
 (.seq (.block 0
 (.seq (.reg false [⟨.some 31,.faddr 0 (.tmp 3),.none,[],[]⟩,⟨.some 32,.load false false 1 (.tmp 31),.none,[],[]⟩,⟨.some 33,.call (.av (.fn n_mix_takes [])) [(.tmp 32)],.none,[],[]⟩,⟨.some 34,.mv (.tmp 33),.none,[],[]⟩,⟨.some 35,.mv (.tmp 6),.some (34,true),[],[]⟩,⟨.some 36,.bin .lss (.tmp 35) (.av (.int .i64 0)),.some (34,true),[],[]⟩,⟨.some 37,.pick (.tmp 34) (.tmp 36) (.av (.bool false)),.none,[],[]⟩,⟨.some 38,.mv (.tmp 37),.none,[],[]⟩,⟨.some 39,.faddr 0 (.tmp 3),.some (38,false),[],[]⟩,⟨.some 40,.load false false 1 (.tmp 39),.some (38,false),[],[]⟩,⟨.some 41,.call (.av (.fn n_mix_puts [])) [(.tmp 40)],.some (38,false),[],[]⟩,⟨.some 42,.mv (.tmp 41),.some (38,false),[],[]⟩,⟨.some 43,.mv (.tmp 7),.some (42,true),[],[]⟩,⟨.some 44,.bin .lss (.tmp 43) (.av (.int .i64 0)),.some (42,true),[],[]⟩,⟨.some 45,.pick (.tmp 42) (.tmp 44) (.av (.bool false)),.some (38,false),[],[]⟩,⟨.some 46,.pick (.tmp 38) (.av (.bool true)) (.tmp 45),.none,[],[]⟩,⟨.some 30,.mv (.tmp 46),.none,[],[]⟩])
 (.cond (.tmp 30)
 (.seq (.reg false [⟨.some 4,.mv (.av (.int .i64 6)),.none,[],[]⟩])
 .ret)
 (.seq (.reg true [⟨.some 48,.faddr 1 (.tmp 3),.none,[],[]⟩,⟨.some 49,.load false false 1 (.tmp 48),.none,[],[]⟩,⟨.some 50,.mv (.tmp 0),.none,[],[]⟩,⟨.some 51,.nilchk (.tmp 50),.none,[],[]⟩,⟨.some 52,.faddr 8 (.tmp 51),.none,[],[]⟩,⟨.some 53,.load false false 1 (.tmp 52),.none,[],[]⟩,⟨.some 54,.bin .lss (.tmp 49) (.tmp 53),.none,[],[]⟩,⟨.some 47,.mv (.tmp 54),.none,[],[]⟩])
 (.cond (.tmp 47)
 (.seq (.reg false [⟨.some 4,.mv (.av (.int .i64 9)),.none,[],[]⟩])
 .ret)
 (.seq (.reg true [⟨.some 56,.faddr 0 (.tmp 3),.none,[],[]⟩,⟨.some 57,.load false false 1 (.tmp 56),.none,[],[]⟩,⟨.some 58,.call (.av (.fn n_mix_takes [])) [(.tmp 57)],.none,[],[]⟩,⟨.some 59,.mv (.tmp 58),.none,[],[]⟩,⟨.some 60,.mv (.tmp 0),.some (59,true),[],[]⟩,⟨.some 61,.nilchk (.tmp 60),.some (59,true),[],[]⟩,⟨.some 62,.faddr 1 (.tmp 61),.some (59,true),[],[]⟩,⟨.some 63,.load false false 1 (.tmp 62),.some (59,true),[],[]⟩,⟨.some 64,.mv (.tmp 6),.some (59,true),[],[]⟩,⟨.some 65,.iaddr .none 3 (.tmp 63) (.tmp 64),.some (59,true),[],[]⟩,⟨.some 66,.load true false 3 (.tmp 65),.some (59,true),[],[]⟩,⟨.some 67,.call (.av (.fn n_mix_gases_sum [])) [(.tmp 66)],.some (59,true),[],[11]⟩,⟨.some 68,.faddr 6 (.tmp 3),.some (59,true),[],[]⟩,⟨.some 69,.load false false 1 (.tmp 68),.some (59,true),[],[]⟩,⟨.some 70,.bin .lss (.tmp 67) (.tmp 69),.some (59,true),[],[]⟩,⟨.some 71,.pick (.tmp 59) (.tmp 70) (.av (.bool false)),.none,[],[]⟩,⟨.some 55,.mv (.tmp 71),.none,[],[]⟩])
 (.cond (.tmp 55)
 (.seq (.reg false [⟨.some 4,.mv (.av (.int .i64 20)),.none,[],[]⟩])
 .ret)
 .skip)))))))
 (.cut [0,3,6,7] []
 (.seq (.seq (.reg false [⟨.some 72,.faddr 0 (.tmp 3),.none,[],[]⟩,⟨.some 73,.load false false 1 (.tmp 72),.none,[],[]⟩,⟨.some 74,.call (.av (.fn n_mix_puts [])) [(.tmp 73)],.none,[],[]⟩])
 (.cond (.tmp 74)
 (.seq (.reg true [⟨.some 75,.mv (.tmp 0),.none,[],[]⟩,⟨.some 76,.nilchk (.tmp 75),.none,[],[]⟩,⟨.some 77,.faddr 1 (.tmp 76),.none,[],[]⟩,⟨.some 78,.load false false 1 (.tmp 77),.none,[],[]⟩,⟨.some 79,.mv (.tmp 7),.none,[],[]⟩,⟨.some 80,.iaddr .none 3 (.tmp 78) (.tmp 79),.none,[],[]⟩,⟨.some 81,.load true false 3 (.tmp 80),.none,[],[]⟩,⟨.some 82,.call (.av (.fn n_mix_gases_sum [])) [(.tmp 81)],.none,[],[7]⟩,⟨.some 83,.faddr 6 (.tmp 3),.none,[],[]⟩,⟨.some 84,.load false false 1 (.tmp 83),.none,[],[]⟩,⟨.some 85,.bin .add (.tmp 82) (.tmp 84),.none,[],[]⟩,⟨.some 8,.mv (.tmp 85),.none,[],[]⟩])
 (.seq (.reg false [⟨.some 86,.mv (.tmp 0),.none,[],[]⟩,⟨.some 87,.nilchk (.tmp 86),.none,[],[]⟩,⟨.some 88,.faddr 0 (.tmp 87),.none,[],[]⟩,⟨.some 89,.load false false 1 (.tmp 88),.none,[],[]⟩,⟨.some 90,.mv (.tmp 7),.none,[],[]⟩,⟨.some 91,.iaddr .none 3 (.tmp 89) (.tmp 90),.none,[],[]⟩,⟨.some 92,.load true false 3 (.tmp 91),.none,[],[]⟩,⟨.some 9,.alloc [(.str []),(.int .i64 0),(.int .i64 0)],.none,[],[]⟩,⟨.none,.store 3 (.tmp 9) (.tmp 92),.none,[92],[]⟩])
 (.block 1
 (.seq (.reg false [⟨.some 94,.mv (.tmp 8),.none,[],[]⟩,⟨.some 95,.bin .mul (.av (.int .i64 1000)) (.tmp 94),.none,[],[]⟩,⟨.some 96,.faddr 2 (.tmp 9),.none,[],[]⟩,⟨.some 97,.load false false 1 (.tmp 96),.none,[],[]⟩,⟨.some 98,.faddr 1 (.tmp 9),.none,[],[]⟩,⟨.some 99,.load false false 1 (.tmp 98),.none,[],[]⟩,⟨.some 100,.bin .mul (.tmp 97) (.tmp 99),.none,[],[]⟩,⟨.some 101,.bin .gtr (.tmp 95) (.tmp 100),.none,[],[]⟩,⟨.some 93,.mv (.tmp 101),.none,[],[]⟩])
 (.cond (.tmp 93)
 (.seq (.reg false [⟨.some 4,.mv (.av (.int .i64 16)),.none,[],[]⟩])
 .ret)
 (.seq (.reg true [⟨.some 103,.faddr 0 (.tmp 3),.none,[],[]⟩,⟨.some 104,.load false false 1 (.tmp 103),.none,[],[]⟩,⟨.some 105,.bin .eql (.tmp 104) (.av (.int .i64 1)),.none,[],[]⟩,⟨.some 106,.mv (.tmp 105),.none,[],[]⟩,⟨.some 107,.faddr 7 (.tmp 3),.some (106,true),[],[]⟩,⟨.some 108,.load false false 1 (.tmp 107),.some (106,true),[],[]⟩,⟨.some 109,.un .not (.tmp 108),.some (106,true),[],[]⟩,⟨.some 110,.pick (.tmp 106) (.tmp 109) (.av (.bool false)),.none,[],[]⟩,⟨.some 111,.mv (.tmp 110),.none,[],[]⟩,⟨.some 112,.mv (.tmp 0),.some (111,true),[],[]⟩,⟨.some 113,.mv (.tmp 7),.some (111,true),[],[]⟩,⟨.some 114,.mv (.tmp 8),.some (111,true),[],[]⟩,⟨.some 115,.mv (.tmp 6),.some (111,true),[],[]⟩,⟨.some 116,.mv (.tmp 0),.some (111,true),[],[]⟩,⟨.some 117,.nilchk (.tmp 116),.some (111,true),[],[]⟩,⟨.some 118,.faddr 1 (.tmp 117),.some (111,true),[],[]⟩,⟨.some 119,.load false false 1 (.tmp 118),.some (111,true),[],[]⟩,⟨.some 120,.mv (.tmp 6),.some (111,true),[],[]⟩,⟨.some 121,.iaddr .none 3 (.tmp 119) (.tmp 120),.some (111,true),[],[]⟩,⟨.some 122,.load true false 3 (.tmp 121),.some (111,true),[],[]⟩,⟨.some 123,.call (.av (.fn n_mix_gases_sum [])) [(.tmp 122)],.some (111,true),[],[20]⟩,⟨.some 124,.faddr 6 (.tmp 3),.some (111,true),[],[]⟩,⟨.some 125,.load false false 1 (.tmp 124),.some (111,true),[],[]⟩,⟨.some 126,.bin .sub (.tmp 123) (.tmp 125),.some (111,true),[],[]⟩,⟨.some 127,.call (.av (.fn n_mix_store_above [])) [(.tmp 112),(.tmp 113),(.tmp 114),(.tmp 115),(.tmp 126)],.some (111,true),[],[]⟩,⟨.some 128,.pick (.tmp 111) (.tmp 127) (.av (.bool false)),.none,[],[]⟩,⟨.some 102,.mv (.tmp 128),.none,[],[]⟩])
 (.cond (.tmp 102)
 (.seq (.reg false [⟨.some 4,.mv (.av (.int .i64 24)),.none,[],[]⟩])
 .ret)
 .skip)))))))
 .skip))
 (.cut [0,3,6,7] []
 (.seq (.reg false [⟨.some 129,.faddr 4 (.tmp 3),.none,[],[]⟩,⟨.some 130,.load true false 2 (.tmp 129),.none,[],[]⟩,⟨.some 131,.faddr 6 (.tmp 3),.none,[],[]⟩,⟨.some 132,.load false false 1 (.tmp 131),.none,[],[]⟩,⟨.some 133,.call (.av (.fn n_mix_fresh [])) [(.tmp 130),(.tmp 132)],.none,[],[]⟩,⟨.some 10,.alloc [(.int .i64 0),(.int .i64 0),(.int .i64 0)],.none,[],[]⟩,⟨.none,.store 3 (.tmp 10) (.tmp 133),.none,[133],[]⟩])
 (.seq (.seq (.reg false [⟨.some 134,.faddr 0 (.tmp 3),.none,[],[]⟩,⟨.some 135,.load false false 1 (.tmp 134),.none,[],[]⟩,⟨.some 136,.call (.av (.fn n_mix_takes [])) [(.tmp 135)],.none,[],[]⟩])
 (.cond (.tmp 136)
 (.seq (.reg true [⟨.some 137,.mv (.tmp 0),.none,[],[]⟩,⟨.some 138,.nilchk (.tmp 137),.none,[],[]⟩,⟨.some 139,.faddr 1 (.tmp 138),.none,[],[]⟩,⟨.some 140,.load false false 1 (.tmp 139),.none,[],[]⟩,⟨.some 141,.mv (.tmp 6),.none,[],[]⟩,⟨.some 142,.iaddr .none 3 (.tmp 140) (.tmp 141),.none,[],[]⟩,⟨.some 143,.load true false 3 (.tmp 142),.none,[],[]⟩,⟨.some 144,.faddr 6 (.tmp 3),.none,[],[]⟩,⟨.some 145,.load false false 1 (.tmp 144),.none,[],[]⟩,⟨.some 146,.call (.av (.fn n_mix_gases_share [])) [(.tmp 143),(.tmp 145)],.none,[],[]⟩,⟨.none,.store 3 (.tmp 10) (.tmp 146),.none,[146],[]⟩])
 (.reg true [⟨.some 147,.mv (.tmp 0),.none,[],[]⟩,⟨.some 148,.nilchk (.tmp 147),.none,[],[]⟩,⟨.some 149,.faddr 1 (.tmp 148),.none,[],[]⟩,⟨.some 150,.load false false 1 (.tmp 149),.none,[],[]⟩,⟨.some 151,.mv (.tmp 6),.none,[],[]⟩,⟨.some 152,.mv (.tmp 0),.none,[],[]⟩,⟨.some 153,.nilchk (.tmp 152),.none,[],[]⟩,⟨.some 154,.faddr 1 (.tmp 153),.none,[],[]⟩,⟨.some 155,.load false false 1 (.tmp 154),.none,[],[]⟩,⟨.some 156,.mv (.tmp 6),.none,[],[]⟩,⟨.some 157,.iaddr .none 3 (.tmp 155) (.tmp 156),.none,[],[]⟩,⟨.some 158,.load true false 3 (.tmp 157),.none,[],[]⟩,⟨.some 159,.load true false 3 (.tmp 10),.none,[],[]⟩,⟨.some 160,.call (.av (.fn n_mix_gases_less [])) [(.tmp 158),(.tmp 159)],.none,[],[13]⟩,⟨.some 161,.iaddr .none 3 (.tmp 150) (.tmp 151),.none,[],[]⟩,⟨.none,.store 3 (.tmp 161) (.tmp 160),.none,[160],[]⟩]))
 .skip))
 (.cut [0,3,7,10] []
 (.seq (.seq (.reg false [⟨.some 162,.faddr 0 (.tmp 3),.none,[],[]⟩,⟨.some 163,.load false false 1 (.tmp 162),.none,[],[]⟩,⟨.some 164,.call (.av (.fn n_mix_puts [])) [(.tmp 163)],.none,[],[]⟩])
 (.cond (.tmp 164)
 (.reg true [⟨.some 165,.mv (.tmp 0),.none,[],[]⟩,⟨.some 166,.nilchk (.tmp 165),.none,[],[]⟩,⟨.some 167,.faddr 1 (.tmp 166),.none,[],[]⟩,⟨.some 168,.load false false 1 (.tmp 167),.none,[],[]⟩,⟨.some 169,.mv (.tmp 7),.none,[],[]⟩,⟨.some 170,.mv (.tmp 0),.none,[],[]⟩,⟨.some 171,.nilchk (.tmp 170),.none,[],[]⟩,⟨.some 172,.faddr 1 (.tmp 171),.none,[],[]⟩,⟨.some 173,.load false false 1 (.tmp 172),.none,[],[]⟩,⟨.some 174,.mv (.tmp 7),.none,[],[]⟩,⟨.some 175,.iaddr .none 3 (.tmp 173) (.tmp 174),.none,[],[]⟩,⟨.some 176,.load true false 3 (.tmp 175),.none,[],[]⟩,⟨.some 177,.load true false 3 (.tmp 10),.none,[],[]⟩,⟨.some 178,.call (.av (.fn n_mix_gases_plus [])) [(.tmp 176),(.tmp 177)],.none,[],[13]⟩,⟨.some 179,.iaddr .none 3 (.tmp 168) (.tmp 169),.none,[],[]⟩,⟨.none,.store 3 (.tmp 179) (.tmp 178),.none,[178],[]⟩])
 .skip))
 (.cut [0,3,10] []
 (.seq (.seq (.reg false [⟨.some 180,.faddr 0 (.tmp 3),.none,[],[]⟩,⟨.some 181,.load false false 1 (.tmp 180),.none,[],[]⟩])
 (.block 2
 (.seq (.reg false [⟨.some 183,.bin .eql (.tmp 181) (.av (.int .i64 0)),.none,[],[]⟩,⟨.some 182,.mv (.tmp 183),.none,[],[]⟩])
 (.cond (.tmp 182)
 (.reg true [⟨.some 184,.mv (.tmp 0),.none,[],[]⟩,⟨.some 185,.mv (.tmp 0),.none,[],[]⟩,⟨.some 186,.nilchk (.tmp 185),.none,[],[]⟩,⟨.some 187,.faddr 2 (.tmp 186),.none,[],[]⟩,⟨.some 188,.load true false 3 (.tmp 187),.none,[],[]⟩,⟨.some 189,.load true false 3 (.tmp 10),.none,[],[]⟩,⟨.some 190,.call (.av (.fn n_mix_gases_plus [])) [(.tmp 188),(.tmp 189)],.none,[],[]⟩,⟨.some 191,.nilchk (.tmp 184),.none,[],[]⟩,⟨.some 192,.faddr 2 (.tmp 191),.none,[],[]⟩,⟨.none,.store 3 (.tmp 192) (.tmp 190),.none,[190],[]⟩])
 (.seq (.reg false [⟨.some 194,.bin .eql (.tmp 181) (.av (.int .i64 2)),.none,[],[]⟩,⟨.some 193,.mv (.tmp 194),.none,[],[]⟩])
 (.cond (.tmp 193)
 (.reg true [⟨.some 195,.mv (.tmp 0),.none,[],[]⟩,⟨.some 196,.mv (.tmp 0),.none,[],[]⟩,⟨.some 197,.nilchk (.tmp 196),.none,[],[]⟩,⟨.some 198,.faddr 5 (.tmp 197),.none,[],[]⟩,⟨.some 199,.load true false 3 (.tmp 198),.none,[],[]⟩,⟨.some 200,.load true false 3 (.tmp 10),.none,[],[]⟩,⟨.some 201,.call (.av (.fn n_mix_gases_plus [])) [(.tmp 199),(.tmp 200)],.none,[],[]⟩,⟨.some 202,.nilchk (.tmp 195),.none,[],[]⟩,⟨.some 203,.faddr 5 (.tmp 202),.none,[],[]⟩,⟨.none,.store 3 (.tmp 203) (.tmp 201),.none,[201],[]⟩])
 .skip))))))
 (.cut [0,3] []
 (.seq (.reg false [⟨.some 204,.mv (.tmp 0),.none,[],[]⟩,⟨.some 205,.faddr 1 (.tmp 3),.none,[],[]⟩,⟨.some 206,.load false false 1 (.tmp 205),.none,[],[]⟩,⟨.some 207,.nilchk (.tmp 204),.none,[],[]⟩,⟨.some 208,.faddr 8 (.tmp 207),.none,[],[]⟩,⟨.none,.store 1 (.tmp 208) (.tmp 206),.none,[206],[]⟩])
 (.seq (.reg false [⟨.some 4,.mv (.av (.int .i64 0)),.none,[],[]⟩])
 .ret))))))))))))))))),
 [.tmp 4], false⟩
theorem c_mix_store_enter : chkFunc Tryz.prog gl n_mix_store_enter a_mix_store_enter = true := by kernel_rfl
def b_slices_IndexFunc_api_DeskDive_1 : ACode :=
 (.seq (.reg false [⟨.some 9,.bin .lss (.tmp 8) (.tmp 7),.none,[],[]⟩])
 (.seq (.cond (.tmp 9)
 .skip
 (.exit 0))
 (.cut [0,1,7,8] []
 (.seq (.block 1
 (.seq (.reg false [⟨.some 10,.mv (.tmp 8),.none,[],[]⟩,⟨.some 5,.mv (.tmp 10),.none,[],[]⟩])
 (.seq (.reg false [⟨.some 11,.mv (.tmp 1),.none,[],[]⟩,⟨.some 12,.mv (.tmp 0),.none,[],[]⟩,⟨.some 13,.mv (.tmp 5),.none,[],[]⟩,⟨.some 14,.iaddr .none 6 (.tmp 12) (.tmp 13),.none,[],[]⟩,⟨.some 15,.load true false 6 (.tmp 14),.none,[],[]⟩,⟨.some 16,.call (.tmp 11) [(.tmp 15)],.none,[],[]⟩])
 (.cond (.tmp 16)
 (.seq (.reg false [⟨.some 17,.mv (.tmp 5),.none,[],[]⟩,⟨.some 4,.mv (.tmp 17),.none,[],[]⟩])
 .ret)
 .skip))))
 (.cut [0,1,7,8] []
 (.reg false [⟨.some 18,.bin .add (.tmp 8) (.av (.int .i64 1)),.none,[],[]⟩,⟨.some 8,.mv (.tmp 18),.none,[],[]⟩]))))))
def l_slices_IndexFunc_api_DeskDive_1 : ACode := .loop (.cut [0,1,7,8] [] b_slices_IndexFunc_api_DeskDive_1)
@[simp] def t_slices_IndexFunc_api_DeskDive_1 : ACode :=
 (.cut [] []
 (.seq (.reg false [⟨.some 4,.mv (.av (.int .i64 (-1))),.none,[],[]⟩])
 .ret))
def a_slices_IndexFunc_api_DeskDive : AFunc := ⟨19,
 (.seq (.reg false [⟨.some 4,.mv (.av (.int .i64 0)),.none,[],[]⟩])
 (.seq (.seq (.reg false [⟨.some 6,.mv (.tmp 0),.none,[],[]⟩,⟨.some 7,.len false (.tmp 6),.none,[],[]⟩,⟨.some 8,.mv (.av (.int .i64 0)),.none,[],[]⟩])
 (.block 0
 l_slices_IndexFunc_api_DeskDive_1))
 t_slices_IndexFunc_api_DeskDive_1)),
 [.tmp 4], false⟩
theorem c_slices_IndexFunc_api_DeskDive : chkFunc Tryz.prog gl n_slices_IndexFunc_api_DeskDive a_slices_IndexFunc_api_DeskDive = true := by kernel_rfl
def a_desk_world_dive_c1 : AFunc := ⟨8,
 (.seq (.reg false [⟨.some 2,.box true (.tmp 0),.none,[],[]⟩,⟨.some 3,.mv (.av (.bool false)),.none,[],[]⟩])
 (.seq (.reg false [⟨.some 4,.faddr 0 (.tmp 2),.none,[],[]⟩,⟨.some 5,.load false false 1 (.tmp 4),.none,[],[]⟩,⟨.some 6,.load false false 1 (.tmp 1),.none,[],[]⟩,⟨.some 7,.bin .eql (.tmp 5) (.tmp 6),.none,[],[]⟩,⟨.some 3,.mv (.tmp 7),.none,[],[]⟩])
 .ret)),
 [.tmp 3], false⟩
theorem c_desk_world_dive_c1 : chkFunc Tryz.prog gl n_desk_world_dive_c1 a_desk_world_dive_c1 = true := by kernel_rfl
def a_exposure_checkPlan : AFunc := ⟨11,
 (.seq (.reg false [⟨.some 1,.box true (.tmp 0),.none,[],[]⟩,⟨.some 2,.mv (.av (.int .i64 0)),.none,[],[]⟩])
 (.seq (.reg false [⟨.some 6,.load true false 4 (.tmp 1),.none,[],[]⟩,⟨.some 7,.call (.av (.fn n_profile_CheckPlan [])) [(.tmp 6)],.none,[],[]⟩,⟨.some 5,.mv (.tmp 7),.none,[],[]⟩,⟨.some 8,.extract (.tmp 5) 0,.none,[],[]⟩,⟨.some 9,.extract (.tmp 5) 1,.none,[],[]⟩,⟨.some 3,.mv (.tmp 8),.none,[],[]⟩,⟨.some 4,.mv (.tmp 9),.none,[],[]⟩])
 (.seq (.reg false [⟨.some 10,.mv (.tmp 4),.none,[],[]⟩,⟨.some 2,.mv (.tmp 10),.none,[],[]⟩])
 .ret))),
 [.tmp 2], false⟩
theorem c_exposure_checkPlan : chkFunc Tryz.prog gl n_exposure_checkPlan a_exposure_checkPlan = true := by kernel_rfl
def a_exposure_isBreath : AFunc := ⟨5,
 (.seq (.reg false [⟨.some 2,.mv (.av (.bool false)),.none,[],[]⟩])
 (.seq (.reg false [⟨.some 3,.mv (.tmp 0),.none,[],[]⟩,⟨.some 4,.call (.av (.fn n_exposure_within [])) [(.tmp 3),(.av (.int .i64 1)),(.av (.int .i64 100000))],.none,[],[]⟩,⟨.some 2,.mv (.tmp 4),.none,[],[]⟩])
 .ret)),
 [.tmp 2], false⟩
theorem c_exposure_isBreath : chkFunc Tryz.prog gl n_exposure_isBreath a_exposure_isBreath = true := by kernel_rfl
def b_exposure_legs_1 : ACode :=
 (.seq (.reg false [⟨.some 14,.bin .lss (.tmp 13) (.tmp 12),.none,[],[]⟩])
 (.seq (.cond (.tmp 14)
 .skip
 (.exit 0))
 (.cut [1,3,4,5,11,12,13] []
 (.seq (.block 1
 (.seq (.reg false [⟨.some 15,.iaddr .none 3 (.tmp 11) (.tmp 13),.none,[],[]⟩,⟨.some 16,.load true false 3 (.tmp 15),.none,[],[]⟩,⟨.some 7,.alloc [(.int .i64 0),(.int .i64 0),(.int .i64 0)],.none,[],[]⟩,⟨.none,.store 3 (.tmp 7) (.tmp 16),.none,[16],[]⟩])
 (.seq (.reg true [⟨.some 17,.mv (.tmp 3),.none,[3],[]⟩,⟨.some 18,.load true false 3 (.tmp 7),.none,[],[]⟩,⟨.some 19,.mv (.tmp 4),.none,[],[]⟩,⟨.some 20,.mv (.tmp 5),.none,[],[]⟩,⟨.some 21,.faddr 1 (.tmp 1),.none,[],[]⟩,⟨.some 22,.load false false 1 (.tmp 21),.none,[],[]⟩,⟨.some 23,.faddr 1 (.tmp 7),.none,[],[]⟩,⟨.some 24,.load false false 1 (.tmp 23),.none,[],[]⟩,⟨.some 25,.bin .add (.tmp 22) (.tmp 24),.none,[],[]⟩,⟨.some 26,.faddr 1 (.tmp 1),.none,[],[]⟩,⟨.some 27,.load false false 1 (.tmp 26),.none,[],[]⟩,⟨.some 28,.faddr 2 (.tmp 1),.none,[],[]⟩,⟨.some 29,.load false false 1 (.tmp 28),.none,[],[]⟩,⟨.some 30,.faddr 2 (.tmp 7),.none,[],[]⟩,⟨.some 31,.load false false 1 (.tmp 30),.none,[],[]⟩,⟨.some 32,.iaddr .none 2 (.tmp 29) (.tmp 31),.none,[],[]⟩,⟨.some 33,.load true false 2 (.tmp 32),.none,[],[]⟩,⟨.some 34,.build [(.int .i64 0),(.int .i64 0),(.int .i64 0),(.int .i64 0),(.int .i64 0),(.int .i64 0),(.int .i64 0),(.int .i64 0),(.int .i64 0)] [(0,3,(.tmp 18)),(3,1,(.tmp 19)),(4,1,(.tmp 20)),(5,1,(.tmp 25)),(6,1,(.tmp 27)),(7,2,(.tmp 33))],.none,[],[]⟩,⟨.some 35,.bslice true 9 1 [(.int .i64 0),(.int .i64 0),(.int .i64 0),(.int .i64 0),(.int .i64 0),(.int .i64 0),(.int .i64 0),(.int .i64 0),(.int .i64 0)] [(0,(.tmp 34))],.none,[],[]⟩,⟨.some 36,.append 9 72 (.tmp 17) (.tmp 35),.none,[17],[]⟩,⟨.some 3,.mv (.tmp 36),.none,[36],[]⟩])
 (.reg true [⟨.some 37,.mv (.tmp 4),.none,[],[]⟩,⟨.some 38,.faddr 0 (.tmp 7),.none,[],[]⟩,⟨.some 39,.load false false 1 (.tmp 38),.none,[],[]⟩,⟨.some 40,.bin .add (.tmp 37) (.tmp 39),.none,[],[]⟩,⟨.some 41,.faddr 1 (.tmp 1),.none,[],[]⟩,⟨.some 42,.load false false 1 (.tmp 41),.none,[],[]⟩,⟨.some 43,.faddr 1 (.tmp 7),.none,[],[]⟩,⟨.some 44,.load false false 1 (.tmp 43),.none,[],[]⟩,⟨.some 45,.bin .add (.tmp 42) (.tmp 44),.none,[],[]⟩,⟨.some 4,.mv (.tmp 40),.none,[],[]⟩,⟨.some 5,.mv (.tmp 45),.none,[],[]⟩]))))
 (.cut [1,3,4,5,11,12,13] []
 (.reg false [⟨.some 46,.bin .add (.tmp 13) (.av (.int .i64 1)),.none,[],[]⟩,⟨.some 13,.mv (.tmp 46),.none,[],[]⟩]))))))
def l_exposure_legs_1 : ACode := .loop (.cut [1,3,4,5,11,12,13] [[7]] b_exposure_legs_1)
@[simp] def t_exposure_legs_1 : ACode :=
 (.cut [3] []
 (.seq (.reg false [⟨.some 47,.mv (.tmp 3),.none,[3],[]⟩,⟨.some 2,.mv (.tmp 47),.none,[47],[]⟩])
 .ret))
def a_exposure_legs : AFunc := ⟨48,
 (.seq (.reg false [⟨.some 1,.box true (.tmp 0),.none,[],[]⟩,⟨.some 2,.mv (.av .nils),.none,[],[]⟩])
 (.seq (.reg false [⟨.some 3,.mv (.av .nils),.none,[],[]⟩])
 (.seq (.reg true [⟨.some 8,.faddr 1 (.tmp 1),.none,[],[]⟩,⟨.some 9,.load false false 1 (.tmp 8),.none,[],[]⟩,⟨.some 4,.mv (.av (.int .i64 0)),.none,[],[]⟩,⟨.some 5,.mv (.tmp 9),.none,[],[]⟩])
 (.seq (.seq (.reg false [⟨.some 10,.faddr 3 (.tmp 1),.none,[],[]⟩,⟨.some 11,.load false false 1 (.tmp 10),.none,[],[]⟩,⟨.some 12,.len false (.tmp 11),.none,[],[]⟩,⟨.some 13,.mv (.av (.int .i64 0)),.none,[],[]⟩])
 (.block 0
 l_exposure_legs_1))
 t_exposure_legs_1)))),
 [.tmp 2], false⟩
theorem c_exposure_legs : chkFunc Tryz.prog gl n_exposure_legs a_exposure_legs = true := by kernel_rfl
def a_exposure_leg_breathes : AFunc := ⟨46,
 (.seq (.reg false [⟨.some 3,.box true (.tmp 0),.none,[],[]⟩,⟨.some 6,.mv (.av (.int .i64 0)),.none,[],[]⟩])
 (.seq (.seq (.reg false [⟨.some 7,.mv (.tmp 2),.none,[],[]⟩,⟨.some 8,.faddr 0 (.tmp 3),.none,[],[]⟩,⟨.some 9,.faddr 0 (.tmp 8),.none,[],[]⟩,⟨.some 10,.load false false 1 (.tmp 9),.none,[],[]⟩,⟨.some 11,.bin .eql (.tmp 7) (.tmp 10),.none,[],[]⟩])
 (.cond (.tmp 11)
 (.seq (.reg false [⟨.some 12,.mv (.tmp 1),.none,[],[]⟩,⟨.some 13,.faddr 4 (.tmp 3),.none,[],[]⟩,⟨.some 14,.load false false 1 (.tmp 13),.none,[],[]⟩,⟨.some 15,.faddr 5 (.tmp 3),.none,[],[]⟩,⟨.some 16,.load false false 1 (.tmp 15),.none,[],[]⟩,⟨.some 17,.bin .add (.tmp 14) (.tmp 16),.none,[],[]⟩,⟨.some 18,.bin .mul (.tmp 12) (.tmp 17),.none,[],[]⟩,⟨.some 19,.mv (.tmp 2),.none,[],[]⟩,⟨.some 20,.bin .mul (.tmp 18) (.tmp 19),.none,[],[]⟩,⟨.some 21,.call (.av (.fn n_exposure_up [])) [(.tmp 20),(.av (.int .i64 120000))],.none,[],[]⟩,⟨.some 6,.mv (.tmp 21),.none,[],[]⟩])
 .ret)
 .skip))
 (.cut [1,2,3] []
 (.seq (.reg false [⟨.some 22,.mv (.tmp 1),.none,[],[]⟩,⟨.some 23,.mv (.tmp 2),.none,[],[]⟩,⟨.some 24,.bin .mul (.tmp 22) (.tmp 23),.none,[],[]⟩,⟨.some 25,.faddr 4 (.tmp 3),.none,[],[]⟩,⟨.some 26,.load false false 1 (.tmp 25),.none,[],[]⟩,⟨.some 27,.bin .mul (.av (.int .i64 2)) (.tmp 26),.none,[],[]⟩,⟨.some 28,.faddr 0 (.tmp 3),.none,[],[]⟩,⟨.some 29,.faddr 0 (.tmp 28),.none,[],[]⟩,⟨.some 30,.load false false 1 (.tmp 29),.none,[],[]⟩,⟨.some 31,.bin .mul (.tmp 27) (.tmp 30),.none,[],[]⟩,⟨.some 32,.faddr 5 (.tmp 3),.none,[],[]⟩,⟨.some 33,.load false false 1 (.tmp 32),.none,[],[]⟩,⟨.some 34,.faddr 4 (.tmp 3),.none,[],[]⟩,⟨.some 35,.load false false 1 (.tmp 34),.none,[],[]⟩,⟨.some 36,.bin .sub (.tmp 33) (.tmp 35),.none,[],[]⟩,⟨.some 37,.mv (.tmp 2),.none,[],[]⟩,⟨.some 38,.bin .mul (.tmp 36) (.tmp 37),.none,[],[]⟩,⟨.some 39,.bin .add (.tmp 31) (.tmp 38),.none,[],[]⟩,⟨.some 40,.bin .mul (.tmp 24) (.tmp 39),.none,[],[]⟩,⟨.some 41,.faddr 0 (.tmp 3),.none,[],[]⟩,⟨.some 42,.faddr 0 (.tmp 41),.none,[],[]⟩,⟨.some 43,.load false false 1 (.tmp 42),.none,[],[]⟩,⟨.some 44,.bin .mul (.av (.int .i64 120000)) (.tmp 43),.none,[],[]⟩,⟨.some 45,.call (.av (.fn n_exposure_up [])) [(.tmp 40),(.tmp 44)],.none,[],[]⟩,⟨.some 6,.mv (.tmp 45),.none,[],[]⟩])
 .ret)))),
 [.tmp 6], false⟩
theorem c_exposure_leg_breathes : chkFunc Tryz.prog gl n_exposure_leg_breathes a_exposure_leg_breathes = true := by kernel_rfl
def a_desk_world_plan : AFunc := ⟨12,
 (.seq (.reg false [⟨.some 3,.box true (.tmp 1),.none,[],[]⟩,⟨.some 4,.mv (.av (.int .i64 0)),.none,[],[]⟩])
 (.seq (.reg false [⟨.some 5,.mv (.tmp 0),.none,[],[]⟩,⟨.some 6,.nilchk (.tmp 5),.none,[],[]⟩,⟨.some 7,.faddr 1 (.tmp 6),.none,[],[]⟩,⟨.some 8,.faddr 2 (.tmp 7),.none,[],[]⟩,⟨.some 9,.load false false 1 (.tmp 8),.none,[],[]⟩,⟨.some 10,.mkfn n_desk_world_plan_c1 [(.tmp 3)],.none,[],[]⟩,⟨.some 11,.call (.av (.fn n_slices_IndexFunc_api_DivePlan [])) [(.tmp 9),(.tmp 10)],.none,[],[]⟩,⟨.some 4,.mv (.tmp 11),.none,[],[]⟩])
 .ret)),
 [.tmp 4], false⟩
theorem c_desk_world_plan : chkFunc Tryz.prog gl n_desk_world_plan a_desk_world_plan = true := by kernel_rfl
def b_kit_CheckSetup_1 : ACode :=
 (.seq (.reg false [⟨.some 50,.bin .lss (.tmp 49) (.tmp 48),.none,[],[]⟩])
 (.seq (.cond (.tmp 50)
 .skip
 (.exit 3))
 (.cut [1,47,48,49] []
 (.seq (.block 4
 (.seq (.reg false [⟨.some 51,.mv (.tmp 49),.none,[],[]⟩,⟨.some 52,.iaddr .none 4 (.tmp 47) (.tmp 49),.none,[],[]⟩,⟨.some 53,.load true false 4 (.tmp 52),.none,[],[]⟩,⟨.some 6,.alloc [(.str []),(.int .i64 0),(.int .i64 0),(.int .i64 0)],.none,[],[]⟩,⟨.some 5,.mv (.tmp 51),.none,[],[]⟩,⟨.none,.store 4 (.tmp 6) (.tmp 53),.none,[53],[]⟩])
 (.block 5
 (.seq (.reg false [⟨.some 55,.faddr 0 (.tmp 6),.none,[],[]⟩,⟨.some 56,.load false false 1 (.tmp 55),.none,[],[]⟩,⟨.some 57,.call (.av (.fn 142 [])) [(.tmp 56)],.none,[],[]⟩,⟨.some 58,.un .not (.tmp 57),.none,[],[]⟩,⟨.some 54,.mv (.tmp 58),.none,[],[]⟩])
 (.cond (.tmp 54)
 (.seq (.reg false [⟨.some 2,.mv (.av (.int .i64 4)),.none,[],[]⟩])
 .ret)
 (.seq (.reg false [⟨.some 60,.load true false 2 (.tmp 1),.none,[],[]⟩,⟨.some 61,.faddr 0 (.tmp 6),.none,[],[]⟩,⟨.some 62,.load false false 1 (.tmp 61),.none,[],[]⟩,⟨.some 63,.call (.av (.fn n_kit_rule [])) [(.tmp 60),(.tmp 62)],.none,[],[]⟩,⟨.some 64,.mv (.tmp 5),.none,[],[]⟩,⟨.some 65,.bin .lss (.tmp 63) (.tmp 64),.none,[],[]⟩,⟨.some 59,.mv (.tmp 65),.none,[],[]⟩])
 (.cond (.tmp 59)
 (.seq (.reg false [⟨.some 2,.mv (.av (.int .i64 5)),.none,[],[]⟩])
 .ret)
 (.seq (.reg false [⟨.some 67,.faddr 1 (.tmp 6),.none,[],[]⟩,⟨.some 68,.load false false 1 (.tmp 67),.none,[],[]⟩,⟨.some 69,.call (.av (.fn n_kit_isKind [])) [(.tmp 68)],.none,[],[]⟩,⟨.some 70,.un .not (.tmp 69),.none,[],[]⟩,⟨.some 66,.mv (.tmp 70),.none,[],[]⟩])
 (.cond (.tmp 66)
 (.seq (.reg false [⟨.some 2,.mv (.av (.int .i64 15)),.none,[],[]⟩])
 .ret)
 (.seq (.reg false [⟨.some 72,.faddr 2 (.tmp 6),.none,[],[]⟩,⟨.some 73,.load false false 1 (.tmp 72),.none,[],[]⟩,⟨.some 74,.call (.av (.fn n_kit_within [])) [(.tmp 73),(.av (.int .i64 0)),(.av (.int .i64 10000))],.none,[],[]⟩,⟨.some 75,.un .not (.tmp 74),.none,[],[]⟩,⟨.some 76,.mv (.tmp 75),.none,[],[]⟩,⟨.some 77,.faddr 3 (.tmp 6),.some (76,false),[],[]⟩,⟨.some 78,.load false false 1 (.tmp 77),.some (76,false),[],[]⟩,⟨.some 79,.call (.av (.fn n_kit_within [])) [(.tmp 78),(.av (.int .i64 0)),(.av (.int .i64 1000))],.some (76,false),[],[]⟩,⟨.some 80,.un .not (.tmp 79),.some (76,false),[],[]⟩,⟨.some 81,.pick (.tmp 76) (.av (.bool true)) (.tmp 80),.none,[],[]⟩,⟨.some 71,.mv (.tmp 81),.none,[],[]⟩])
 (.cond (.tmp 71)
 (.seq (.reg false [⟨.some 2,.mv (.av (.int .i64 2)),.none,[],[]⟩])
 .ret)
 (.seq (.reg false [⟨.some 83,.faddr 2 (.tmp 6),.none,[],[]⟩,⟨.some 84,.load false false 1 (.tmp 83),.none,[],[]⟩,⟨.some 85,.bin .eql (.tmp 84) (.av (.int .i64 0)),.none,[],[]⟩,⟨.some 86,.mv (.tmp 85),.none,[],[]⟩,⟨.some 87,.faddr 3 (.tmp 6),.some (86,true),[],[]⟩,⟨.some 88,.load false false 1 (.tmp 87),.some (86,true),[],[]⟩,⟨.some 89,.bin .eql (.tmp 88) (.av (.int .i64 0)),.some (86,true),[],[]⟩,⟨.some 90,.pick (.tmp 86) (.tmp 89) (.av (.bool false)),.none,[],[]⟩,⟨.some 82,.mv (.tmp 90),.none,[],[]⟩])
 (.cond (.tmp 82)
 (.seq (.reg false [⟨.some 2,.mv (.av (.int .i64 11)),.none,[],[]⟩])
 .ret)
 .skip)))))))))))))
 (.cut [1,47,48,49] []
 (.reg false [⟨.some 91,.bin .add (.tmp 49) (.av (.int .i64 1)),.none,[],[]⟩,⟨.some 49,.mv (.tmp 91),.none,[],[]⟩]))))))
def l_kit_CheckSetup_1 : ACode := .loop (.cut [1,47,48,49] [[6]] b_kit_CheckSetup_1)
def b_kit_CheckSetup_2 : ACode :=
 (.seq (.reg false [⟨.some 15,.bin .lss (.tmp 14) (.tmp 13),.none,[],[]⟩])
 (.seq (.cond (.tmp 15)
 .skip
 (.exit 0))
 (.cut [1,12,13,14] []
 (.seq (.block 1
 (.seq (.reg false [⟨.some 16,.mv (.tmp 14),.none,[],[]⟩,⟨.some 17,.iaddr .none 3 (.tmp 12) (.tmp 14),.none,[],[]⟩,⟨.some 18,.load true false 3 (.tmp 17),.none,[],[]⟩,⟨.some 4,.alloc [(.str []),(.int .i64 0),(.int .i64 0)],.none,[],[]⟩,⟨.some 3,.mv (.tmp 16),.none,[],[]⟩,⟨.none,.store 3 (.tmp 4) (.tmp 18),.none,[18],[]⟩])
 (.block 2
 (.seq (.reg false [⟨.some 20,.faddr 0 (.tmp 4),.none,[],[]⟩,⟨.some 21,.load false false 1 (.tmp 20),.none,[],[]⟩,⟨.some 22,.call (.av (.fn 142 [])) [(.tmp 21)],.none,[],[]⟩,⟨.some 23,.un .not (.tmp 22),.none,[],[]⟩,⟨.some 19,.mv (.tmp 23),.none,[],[]⟩])
 (.cond (.tmp 19)
 (.seq (.reg false [⟨.some 2,.mv (.av (.int .i64 4)),.none,[],[]⟩])
 .ret)
 (.seq (.reg false [⟨.some 25,.load true false 2 (.tmp 1),.none,[],[]⟩,⟨.some 26,.faddr 0 (.tmp 4),.none,[],[]⟩,⟨.some 27,.load false false 1 (.tmp 26),.none,[],[]⟩,⟨.some 28,.call (.av (.fn n_kit_item [])) [(.tmp 25),(.tmp 27)],.none,[],[]⟩,⟨.some 29,.mv (.tmp 3),.none,[],[]⟩,⟨.some 30,.bin .lss (.tmp 28) (.tmp 29),.none,[],[]⟩,⟨.some 24,.mv (.tmp 30),.none,[],[]⟩])
 (.cond (.tmp 24)
 (.seq (.reg false [⟨.some 2,.mv (.av (.int .i64 5)),.none,[],[]⟩])
 .ret)
 (.seq (.reg false [⟨.some 32,.faddr 1 (.tmp 4),.none,[],[]⟩,⟨.some 33,.load false false 1 (.tmp 32),.none,[],[]⟩,⟨.some 34,.call (.av (.fn n_kit_isKind [])) [(.tmp 33)],.none,[],[]⟩,⟨.some 35,.un .not (.tmp 34),.none,[],[]⟩,⟨.some 31,.mv (.tmp 35),.none,[],[]⟩])
 (.cond (.tmp 31)
 (.seq (.reg false [⟨.some 2,.mv (.av (.int .i64 15)),.none,[],[]⟩])
 .ret)
 (.seq (.reg false [⟨.some 37,.faddr 2 (.tmp 4),.none,[],[]⟩,⟨.some 38,.load false false 1 (.tmp 37),.none,[],[]⟩,⟨.some 39,.call (.av (.fn n_kit_isDay [])) [(.tmp 38)],.none,[],[]⟩,⟨.some 40,.un .not (.tmp 39),.none,[],[]⟩,⟨.some 36,.mv (.tmp 40),.none,[],[]⟩])
 (.cond (.tmp 36)
 (.seq (.reg false [⟨.some 2,.mv (.av (.int .i64 2)),.none,[],[]⟩])
 .ret)
 .skip)))))))))))
 (.cut [1,12,13,14] []
 (.reg false [⟨.some 41,.bin .add (.tmp 14) (.av (.int .i64 1)),.none,[],[]⟩,⟨.some 14,.mv (.tmp 41),.none,[],[]⟩]))))))
def l_kit_CheckSetup_2 : ACode := .loop (.cut [1,12,13,14] [[4]] b_kit_CheckSetup_2)
@[simp] def t_kit_CheckSetup_1 : ACode :=
 (.cut [] []
 (.seq (.reg false [⟨.some 2,.mv (.av (.int .i64 0)),.none,[],[]⟩])
 .ret))
@[simp] def t_kit_CheckSetup_2 : ACode :=
 (.cut [1] []
 (.seq (.seq (.reg false [⟨.some 42,.faddr 1 (.tmp 1),.none,[],[]⟩,⟨.some 43,.load false false 1 (.tmp 42),.none,[],[]⟩,⟨.some 44,.len false (.tmp 43),.none,[],[]⟩,⟨.some 45,.bin .gtr (.tmp 44) (.av (.int .i64 20)),.none,[],[]⟩])
 (.cond (.tmp 45)
 (.seq (.reg false [⟨.some 2,.mv (.av (.int .i64 8)),.none,[],[]⟩])
 .ret)
 .skip))
 (.cut [1] []
 (.seq (.seq (.reg false [⟨.some 46,.faddr 1 (.tmp 1),.none,[],[]⟩,⟨.some 47,.load false false 1 (.tmp 46),.none,[],[]⟩,⟨.some 48,.len false (.tmp 47),.none,[],[]⟩,⟨.some 49,.mv (.av (.int .i64 0)),.none,[],[]⟩])
 (.block 3
 l_kit_CheckSetup_1))
 t_kit_CheckSetup_1))))
def a_kit_CheckSetup : AFunc := ⟨92,
 (.seq (.reg false [⟨.some 1,.box true (.tmp 0),.none,[],[]⟩,⟨.some 2,.mv (.av (.int .i64 0)),.none,[],[]⟩])
 (.seq (.seq (.reg false [⟨.some 7,.faddr 0 (.tmp 1),.none,[],[]⟩,⟨.some 8,.load false false 1 (.tmp 7),.none,[],[]⟩,⟨.some 9,.len false (.tmp 8),.none,[],[]⟩,⟨.some 10,.bin .gtr (.tmp 9) (.av (.int .i64 30)),.none,[],[]⟩])
 (.cond (.tmp 10)
 (.seq (.reg false [⟨.some 2,.mv (.av (.int .i64 8)),.none,[],[]⟩])
 .ret)
 .skip))
 (.cut [1] []
 (.seq (.seq (.reg false [⟨.some 11,.faddr 0 (.tmp 1),.none,[],[]⟩,⟨.some 12,.load false false 1 (.tmp 11),.none,[],[]⟩,⟨.some 13,.len false (.tmp 12),.none,[],[]⟩,⟨.some 14,.mv (.av (.int .i64 0)),.none,[],[]⟩])
 (.block 0
 l_kit_CheckSetup_2))
 t_kit_CheckSetup_2)))),
 [.tmp 2], false⟩
theorem c_kit_CheckSetup : chkFunc Tryz.prog gl n_kit_CheckSetup a_kit_CheckSetup = true := by kernel_rfl
def a_slices_ContainsFunc_api_DeskPerson : AFunc := ⟨9,
 (.seq (.reg false [⟨.some 4,.mv (.av (.bool false)),.none,[],[]⟩])
 (.seq (.reg false [⟨.some 5,.mv (.tmp 0),.none,[],[]⟩,⟨.some 6,.mv (.tmp 1),.none,[],[]⟩,⟨.some 7,.call (.av (.fn n_slices_IndexFunc_api_DeskPerson [])) [(.tmp 5),(.tmp 6)],.none,[],[]⟩,⟨.some 8,.bin .geq (.tmp 7) (.av (.int .i64 0)),.none,[],[]⟩,⟨.some 4,.mv (.tmp 8),.none,[],[]⟩])
 .ret)),
 [.tmp 4], false⟩
theorem c_slices_ContainsFunc_api_DeskPerson : chkFunc Tryz.prog gl n_slices_ContainsFunc_api_DeskPerson a_slices_ContainsFunc_api_DeskPerson = true := by kernel_rfl
def a_desk_CheckDesk_c1 : AFunc := ⟨9,
 (.seq (.reg false [⟨.some 2,.box true (.tmp 0),.none,[],[]⟩,⟨.some 3,.mv (.av (.bool false)),.none,[],[]⟩])
 (.seq (.reg false [⟨.some 4,.faddr 0 (.tmp 2),.none,[],[]⟩,⟨.some 5,.load false false 1 (.tmp 4),.none,[],[]⟩,⟨.some 6,.faddr 0 (.tmp 1),.none,[],[]⟩,⟨.some 7,.load false false 1 (.tmp 6),.none,[],[]⟩,⟨.some 8,.bin .eql (.tmp 5) (.tmp 7),.none,[],[]⟩,⟨.some 3,.mv (.tmp 8),.none,[],[]⟩])
 .ret)),
 [.tmp 3], false⟩
theorem c_desk_CheckDesk_c1 : chkFunc Tryz.prog gl n_desk_CheckDesk_c1 a_desk_CheckDesk_c1 = true := by kernel_rfl
def a_desk_within : AFunc := ⟨15,
 (.seq (.reg false [⟨.some 6,.mv (.av (.bool false)),.none,[],[]⟩])
 (.seq (.reg false [⟨.some 7,.mv (.tmp 1),.none,[],[]⟩,⟨.some 8,.mv (.tmp 0),.none,[],[]⟩,⟨.some 9,.bin .leq (.tmp 7) (.tmp 8),.none,[],[]⟩,⟨.some 10,.mv (.tmp 9),.none,[],[]⟩,⟨.some 11,.mv (.tmp 0),.some (10,true),[],[]⟩,⟨.some 12,.mv (.tmp 2),.some (10,true),[],[]⟩,⟨.some 13,.bin .leq (.tmp 11) (.tmp 12),.some (10,true),[],[]⟩,⟨.some 14,.pick (.tmp 10) (.tmp 13) (.av (.bool false)),.none,[],[]⟩,⟨.some 6,.mv (.tmp 14),.none,[],[]⟩])
 .ret)),
 [.tmp 6], false⟩
theorem c_desk_within : chkFunc Tryz.prog gl n_desk_within a_desk_within = true := by kernel_rfl
def b_exposure_CheckRules_1 : ACode :=
 (.seq (.reg false [⟨.some 14,.bin .lss (.tmp 13) (.tmp 12),.none,[],[]⟩])
 (.seq (.cond (.tmp 14)
 .skip
 (.exit 0))
 (.cut [1,11,12,13] []
 (.seq (.block 1
 (.seq (.reg false [⟨.some 15,.mv (.tmp 13),.none,[],[]⟩,⟨.some 16,.iaddr .none 2 (.tmp 11) (.tmp 13),.none,[],[]⟩,⟨.some 17,.load true false 2 (.tmp 16),.none,[],[]⟩,⟨.some 4,.alloc [(.int .i64 0),(.int .i64 0)],.none,[],[]⟩,⟨.some 3,.mv (.tmp 15),.none,[],[]⟩,⟨.none,.store 2 (.tmp 4) (.tmp 17),.none,[17],[]⟩])
 (.block 2
 (.seq (.reg false [⟨.some 19,.faddr 0 (.tmp 4),.none,[],[]⟩,⟨.some 20,.load false false 1 (.tmp 19),.none,[],[]⟩,⟨.some 21,.call (.av (.fn n_exposure_within [])) [(.tmp 20),(.av (.int .i64 0)),(.av (.int .i64 4000))],.none,[],[]⟩,⟨.some 22,.un .not (.tmp 21),.none,[],[]⟩,⟨.some 23,.mv (.tmp 22),.none,[],[]⟩,⟨.some 24,.faddr 1 (.tmp 4),.some (23,false),[],[]⟩,⟨.some 25,.load false false 1 (.tmp 24),.some (23,false),[],[]⟩,⟨.some 26,.call (.av (.fn n_exposure_within [])) [(.tmp 25),(.av (.int .i64 0)),(.av (.int .i64 100000))],.some (23,false),[],[]⟩,⟨.some 27,.un .not (.tmp 26),.some (23,false),[],[]⟩,⟨.some 28,.pick (.tmp 23) (.av (.bool true)) (.tmp 27),.none,[],[]⟩,⟨.some 18,.mv (.tmp 28),.none,[],[]⟩])
 (.cond (.tmp 18)
 (.seq (.reg false [⟨.some 2,.mv (.av (.int .i64 2)),.none,[],[]⟩])
 .ret)
 (.seq (.reg true [⟨.some 30,.mv (.tmp 3),.none,[],[]⟩,⟨.some 31,.bin .gtr (.tmp 30) (.av (.int .i64 0)),.none,[],[]⟩,⟨.some 32,.mv (.tmp 31),.none,[],[]⟩,⟨.some 33,.faddr 0 (.tmp 4),.some (32,true),[],[]⟩,⟨.some 34,.load false false 1 (.tmp 33),.some (32,true),[],[]⟩,⟨.some 35,.faddr 0 (.tmp 1),.some (32,true),[],[]⟩,⟨.some 36,.load false false 1 (.tmp 35),.some (32,true),[],[]⟩,⟨.some 37,.mv (.tmp 3),.some (32,true),[],[]⟩,⟨.some 38,.bin .sub (.tmp 37) (.av (.int .i64 1)),.some (32,true),[],[]⟩,⟨.some 39,.iaddr .none 2 (.tmp 36) (.tmp 38),.some (32,true),[],[]⟩,⟨.some 40,.faddr 0 (.tmp 39),.some (32,true),[],[]⟩,⟨.some 41,.load false false 1 (.tmp 40),.some (32,true),[],[]⟩,⟨.some 42,.bin .leq (.tmp 34) (.tmp 41),.some (32,true),[],[]⟩,⟨.some 43,.pick (.tmp 32) (.tmp 42) (.av (.bool false)),.none,[],[]⟩,⟨.some 29,.mv (.tmp 43),.none,[],[]⟩])
 (.cond (.tmp 29)
 (.seq (.reg false [⟨.some 2,.mv (.av (.int .i64 9)),.none,[],[]⟩])
 .ret)
 .skip)))))))
 (.cut [1,11,12,13] []
 (.reg false [⟨.some 44,.bin .add (.tmp 13) (.av (.int .i64 1)),.none,[],[]⟩,⟨.some 13,.mv (.tmp 44),.none,[],[]⟩]))))))
def l_exposure_CheckRules_1 : ACode := .loop (.cut [1,11,12,13] [[4]] b_exposure_CheckRules_1)
@[simp] def t_exposure_CheckRules_1 : ACode :=
 (.cut [1] []
 (.seq (.seq (.reg false [⟨.some 45,.faddr 1 (.tmp 1),.none,[],[]⟩,⟨.some 46,.load true false 2 (.tmp 45),.none,[],[]⟩,⟨.some 47,.call (.av (.fn n_gas_CheckLimits [])) [(.tmp 46)],.none,[],[]⟩,⟨.some 5,.mv (.tmp 47),.none,[],[]⟩])
 (.seq (.reg false [⟨.some 48,.mv (.tmp 5),.none,[],[]⟩,⟨.some 49,.bin .neq (.tmp 48) (.av (.int .i64 0)),.none,[],[]⟩])
 (.cond (.tmp 49)
 (.seq (.reg false [⟨.some 50,.mv (.tmp 5),.none,[],[]⟩,⟨.some 2,.mv (.tmp 50),.none,[],[]⟩])
 .ret)
 .skip)))
 (.cut [1] []
 (.seq (.seq (.reg false [⟨.some 51,.faddr 3 (.tmp 1),.none,[],[]⟩,⟨.some 52,.load false false 1 (.tmp 51),.none,[],[]⟩,⟨.some 53,.call (.av (.fn n_exposure_within [])) [(.tmp 52),(.av (.int .i64 0)),(.av (.int .i64 30000))],.none,[],[]⟩,⟨.some 54,.un .not (.tmp 53),.none,[],[]⟩,⟨.some 55,.mv (.tmp 54),.none,[],[]⟩,⟨.some 56,.faddr 4 (.tmp 1),.some (55,false),[],[]⟩,⟨.some 57,.load false false 1 (.tmp 56),.some (55,false),[],[]⟩,⟨.some 58,.call (.av (.fn n_exposure_within [])) [(.tmp 57),(.av (.int .i64 1)),(.av (.int .i64 100000))],.some (55,false),[],[]⟩,⟨.some 59,.un .not (.tmp 58),.some (55,false),[],[]⟩,⟨.some 60,.pick (.tmp 55) (.av (.bool true)) (.tmp 59),.none,[],[]⟩,⟨.some 61,.mv (.tmp 60),.none,[],[]⟩,⟨.some 62,.faddr 5 (.tmp 1),.some (61,false),[],[]⟩,⟨.some 63,.load false false 1 (.tmp 62),.some (61,false),[],[]⟩,⟨.some 64,.call (.av (.fn n_exposure_isBreath [])) [(.tmp 63)],.some (61,false),[],[]⟩,⟨.some 65,.un .not (.tmp 64),.some (61,false),[],[]⟩,⟨.some 66,.pick (.tmp 61) (.av (.bool true)) (.tmp 65),.none,[],[]⟩,⟨.some 67,.mv (.tmp 66),.none,[],[]⟩,⟨.some 68,.faddr 6 (.tmp 1),.some (67,false),[],[]⟩,⟨.some 69,.load false false 1 (.tmp 68),.some (67,false),[],[]⟩,⟨.some 70,.call (.av (.fn n_exposure_isBreath [])) [(.tmp 69)],.some (67,false),[],[]⟩,⟨.some 71,.un .not (.tmp 70),.some (67,false),[],[]⟩,⟨.some 72,.pick (.tmp 67) (.av (.bool true)) (.tmp 71),.none,[],[]⟩,⟨.some 73,.mv (.tmp 72),.none,[],[]⟩,⟨.some 74,.faddr 7 (.tmp 1),.some (73,false),[],[]⟩,⟨.some 75,.load false false 1 (.tmp 74),.some (73,false),[],[]⟩,⟨.some 76,.call (.av (.fn n_exposure_within [])) [(.tmp 75),(.av (.int .i64 0)),(.av (.int .i64 3600))],.some (73,false),[],[]⟩,⟨.some 77,.un .not (.tmp 76),.some (73,false),[],[]⟩,⟨.some 78,.pick (.tmp 73) (.av (.bool true)) (.tmp 77),.none,[],[]⟩,⟨.some 79,.mv (.tmp 78),.none,[],[]⟩,⟨.some 80,.faddr 8 (.tmp 1),.some (79,false),[],[]⟩,⟨.some 81,.load false false 1 (.tmp 80),.some (79,false),[],[]⟩,⟨.some 82,.call (.av (.fn n_exposure_within [])) [(.tmp 81),(.av (.int .i64 1)),(.av (.int .i64 3000))],.some (79,false),[],[]⟩,⟨.some 83,.un .not (.tmp 82),.some (79,false),[],[]⟩,⟨.some 84,.pick (.tmp 79) (.av (.bool true)) (.tmp 83),.none,[],[]⟩])
 (.cond (.tmp 84)
 (.seq (.reg false [⟨.some 2,.mv (.av (.int .i64 2)),.none,[],[]⟩])
 .ret)
 .skip))
 (.cut [] []
 (.seq (.reg false [⟨.some 2,.mv (.av (.int .i64 0)),.none,[],[]⟩])
 .ret))))))
def a_exposure_CheckRules : AFunc := ⟨85,
 (.seq (.reg false [⟨.some 1,.box true (.tmp 0),.none,[],[]⟩,⟨.some 2,.mv (.av (.int .i64 0)),.none,[],[]⟩])
 (.seq (.seq (.reg false [⟨.some 6,.faddr 0 (.tmp 1),.none,[],[]⟩,⟨.some 7,.load false false 1 (.tmp 6),.none,[],[]⟩,⟨.some 8,.len false (.tmp 7),.none,[],[]⟩,⟨.some 9,.bin .gtr (.tmp 8) (.av (.int .i64 20)),.none,[],[]⟩])
 (.cond (.tmp 9)
 (.seq (.reg false [⟨.some 2,.mv (.av (.int .i64 8)),.none,[],[]⟩])
 .ret)
 .skip))
 (.cut [1] []
 (.seq (.seq (.reg false [⟨.some 10,.faddr 0 (.tmp 1),.none,[],[]⟩,⟨.some 11,.load false false 1 (.tmp 10),.none,[],[]⟩,⟨.some 12,.len false (.tmp 11),.none,[],[]⟩,⟨.some 13,.mv (.av (.int .i64 0)),.none,[],[]⟩])
 (.block 0
 l_exposure_CheckRules_1))
 t_exposure_CheckRules_1)))),
 [.tmp 2], false⟩
theorem c_exposure_CheckRules : chkFunc Tryz.prog gl n_exposure_CheckRules a_exposure_CheckRules = true := by kernel_rfl
def b_tissue_CheckTable_1 : ACode :=
 (.seq (.reg false [⟨.some 12,.bin .lss (.tmp 11) (.tmp 10),.none,[],[]⟩])
 (.seq (.cond (.tmp 12)
 .skip
 (.exit 0))
 (.cut [9,10,11] []
 (.seq (.block 1
 (.seq (.reg false [⟨.some 13,.iaddr .none 4 (.tmp 9) (.tmp 11),.none,[],[]⟩,⟨.some 14,.load true false 4 (.tmp 13),.none,[],[]⟩,⟨.some 4,.alloc [(.int .i64 0),(.int .i64 0),(.int .i64 0),(.int .i64 0)],.none,[],[]⟩,⟨.none,.store 4 (.tmp 4) (.tmp 14),.none,[14],[]⟩])
 (.seq (.reg false [⟨.some 15,.load true false 4 (.tmp 4),.none,[],[]⟩,⟨.some 16,.call (.av (.fn n_tissue_isCompartment [])) [(.tmp 15)],.none,[],[]⟩,⟨.some 17,.un .not (.tmp 16),.none,[],[]⟩])
 (.cond (.tmp 17)
 (.seq (.reg false [⟨.some 2,.mv (.av (.int .i64 2)),.none,[],[]⟩])
 .ret)
 .skip))))
 (.cut [9,10,11] []
 (.reg false [⟨.some 18,.bin .add (.tmp 11) (.av (.int .i64 1)),.none,[],[]⟩,⟨.some 11,.mv (.tmp 18),.none,[],[]⟩]))))))
def l_tissue_CheckTable_1 : ACode := .loop (.cut [9,10,11] [[4]] b_tissue_CheckTable_1)
@[simp] def t_tissue_CheckTable_1 : ACode :=
 (.cut [] []
 (.seq (.reg false [⟨.some 2,.mv (.av (.int .i64 0)),.none,[],[]⟩])
 .ret))
def a_tissue_CheckTable : AFunc := ⟨19,
 (.seq (.reg false [⟨.some 2,.mv (.av (.int .i64 0)),.none,[],[]⟩])
 (.seq (.seq (.reg false [⟨.some 5,.mv (.tmp 0),.none,[],[]⟩,⟨.some 6,.len false (.tmp 5),.none,[],[]⟩,⟨.some 7,.call (.av (.fn n_tissue_within [])) [(.tmp 6),(.av (.int .i64 1)),(.av (.int .i64 16))],.none,[],[]⟩,⟨.some 8,.un .not (.tmp 7),.none,[],[]⟩])
 (.cond (.tmp 8)
 (.seq (.reg false [⟨.some 2,.mv (.av (.int .i64 10)),.none,[],[]⟩])
 .ret)
 .skip))
 (.cut [0] []
 (.seq (.seq (.reg false [⟨.some 9,.mv (.tmp 0),.none,[],[]⟩,⟨.some 10,.len false (.tmp 9),.none,[],[]⟩,⟨.some 11,.mv (.av (.int .i64 0)),.none,[],[]⟩])
 (.block 0
 l_tissue_CheckTable_1))
 t_tissue_CheckTable_1)))),
 [.tmp 2], false⟩
theorem c_tissue_CheckTable : chkFunc Tryz.prog gl n_tissue_CheckTable a_tissue_CheckTable = true := by kernel_rfl
def b_slices_IndexFunc_api_DeskPerson_1 : ACode :=
 (.seq (.reg false [⟨.some 9,.bin .lss (.tmp 8) (.tmp 7),.none,[],[]⟩])
 (.seq (.cond (.tmp 9)
 .skip
 (.exit 0))
 (.cut [0,1,7,8] []
 (.seq (.block 1
 (.seq (.reg false [⟨.some 10,.mv (.tmp 8),.none,[],[]⟩,⟨.some 5,.mv (.tmp 10),.none,[],[]⟩])
 (.seq (.reg false [⟨.some 11,.mv (.tmp 1),.none,[],[]⟩,⟨.some 12,.mv (.tmp 0),.none,[],[]⟩,⟨.some 13,.mv (.tmp 5),.none,[],[]⟩,⟨.some 14,.iaddr .none 2 (.tmp 12) (.tmp 13),.none,[],[]⟩,⟨.some 15,.load true false 2 (.tmp 14),.none,[],[]⟩,⟨.some 16,.call (.tmp 11) [(.tmp 15)],.none,[],[]⟩])
 (.cond (.tmp 16)
 (.seq (.reg false [⟨.some 17,.mv (.tmp 5),.none,[],[]⟩,⟨.some 4,.mv (.tmp 17),.none,[],[]⟩])
 .ret)
 .skip))))
 (.cut [0,1,7,8] []
 (.reg false [⟨.some 18,.bin .add (.tmp 8) (.av (.int .i64 1)),.none,[],[]⟩,⟨.some 8,.mv (.tmp 18),.none,[],[]⟩]))))))
def l_slices_IndexFunc_api_DeskPerson_1 : ACode := .loop (.cut [0,1,7,8] [] b_slices_IndexFunc_api_DeskPerson_1)
@[simp] def t_slices_IndexFunc_api_DeskPerson_1 : ACode :=
 (.cut [] []
 (.seq (.reg false [⟨.some 4,.mv (.av (.int .i64 (-1))),.none,[],[]⟩])
 .ret))
def a_slices_IndexFunc_api_DeskPerson : AFunc := ⟨19,
 (.seq (.reg false [⟨.some 4,.mv (.av (.int .i64 0)),.none,[],[]⟩])
 (.seq (.seq (.reg false [⟨.some 6,.mv (.tmp 0),.none,[],[]⟩,⟨.some 7,.len false (.tmp 6),.none,[],[]⟩,⟨.some 8,.mv (.av (.int .i64 0)),.none,[],[]⟩])
 (.block 0
 l_slices_IndexFunc_api_DeskPerson_1))
 t_slices_IndexFunc_api_DeskPerson_1)),
 [.tmp 4], false⟩
theorem c_slices_IndexFunc_api_DeskPerson : chkFunc Tryz.prog gl n_slices_IndexFunc_api_DeskPerson a_slices_IndexFunc_api_DeskPerson = true := by kernel_rfl
def a_desk_world_person_c1 : AFunc := ⟨8,
 (.seq (.reg false [⟨.some 2,.box true (.tmp 0),.none,[],[]⟩,⟨.some 3,.mv (.av (.bool false)),.none,[],[]⟩])
 (.seq (.reg false [⟨.some 4,.faddr 0 (.tmp 2),.none,[],[]⟩,⟨.some 5,.load false false 1 (.tmp 4),.none,[],[]⟩,⟨.some 6,.load false false 1 (.tmp 1),.none,[],[]⟩,⟨.some 7,.bin .eql (.tmp 5) (.tmp 6),.none,[],[]⟩,⟨.some 3,.mv (.tmp 7),.none,[],[]⟩])
 .ret)),
 [.tmp 3], false⟩
theorem c_desk_world_person_c1 : chkFunc Tryz.prog gl n_desk_world_person_c1 a_desk_world_person_c1 = true := by kernel_rfl
def a_strings_Cut : AFunc := ⟨13,
 (.seq (.reg false [⟨.some 4,.mv (.av (.str [])),.none,[],[]⟩,⟨.some 5,.mv (.av (.str [])),.none,[],[]⟩,⟨.some 6,.mv (.av (.bool false)),.none,[],[]⟩])
 (.seq (.reg false [⟨.some 7,.mv (.tmp 0),.none,[],[]⟩,⟨.some 8,.mv (.tmp 1),.none,[],[]⟩,⟨.some 9,.call (.av (.fn n_internal_stringslite_Cut [])) [(.tmp 7),(.tmp 8)],.none,[],[]⟩,⟨.some 10,.extract (.tmp 9) 0,.none,[],[]⟩,⟨.some 11,.extract (.tmp 9) 1,.none,[],[]⟩,⟨.some 12,.extract (.tmp 9) 2,.none,[],[]⟩,⟨.some 4,.mv (.tmp 10),.none,[],[]⟩,⟨.some 5,.mv (.tmp 11),.none,[],[]⟩,⟨.some 6,.mv (.tmp 12),.none,[],[]⟩])
 .ret)),
 [.tmp 4,.tmp 5,.tmp 6], false⟩
theorem c_strings_Cut : chkFunc Tryz.prog gl n_strings_Cut a_strings_Cut = true := by kernel_rfl
def a_slices_Contains_int : AFunc := ⟨9,
 (.seq (.reg false [⟨.some 4,.mv (.av (.bool false)),.none,[],[]⟩])
 (.seq (.reg false [⟨.some 5,.mv (.tmp 0),.none,[],[]⟩,⟨.some 6,.mv (.tmp 1),.none,[],[]⟩,⟨.some 7,.call (.av (.fn n_slices_Index_int [])) [(.tmp 5),(.tmp 6)],.none,[],[]⟩,⟨.some 8,.bin .geq (.tmp 7) (.av (.int .i64 0)),.none,[],[]⟩,⟨.some 4,.mv (.tmp 8),.none,[],[]⟩])
 .ret)),
 [.tmp 4], false⟩
theorem c_slices_Contains_int : chkFunc Tryz.prog gl n_slices_Contains_int a_slices_Contains_int = true := by kernel_rfl
def a_desk_number : AFunc := ⟨29,
 (.seq (.reg false [⟨.some 4,.mv (.av (.int .i64 0)),.none,[],[]⟩,⟨.some 5,.mv (.av (.bool false)),.none,[],[]⟩])
 (.seq (.reg false [⟨.some 9,.mv (.tmp 0),.none,[],[]⟩,⟨.some 10,.call (.av (.fn n_strconv_Atoi [])) [(.tmp 9)],.none,[],[]⟩,⟨.some 8,.mv (.tmp 10),.none,[],[]⟩,⟨.some 11,.extract (.tmp 8) 0,.none,[],[]⟩,⟨.some 12,.extract (.tmp 8) 1,.none,[],[]⟩,⟨.some 6,.mv (.tmp 11),.none,[],[]⟩,⟨.some 7,.mv (.tmp 12),.none,[],[]⟩])
 (.seq (.reg false [⟨.some 13,.mv (.tmp 6),.none,[],[]⟩,⟨.some 14,.mv (.tmp 7),.none,[],[]⟩,⟨.some 15,.eq .iface false (.tmp 14) (.av .nili),.none,[],[]⟩,⟨.some 16,.mv (.tmp 15),.none,[],[]⟩,⟨.some 17,.mv (.tmp 6),.some (16,true),[],[]⟩,⟨.some 18,.call (.av (.fn n_strconv_Itoa [])) [(.tmp 17)],.some (16,true),[],[]⟩,⟨.some 19,.mv (.tmp 0),.some (16,true),[],[]⟩,⟨.some 20,.bin .eql (.tmp 18) (.tmp 19),.some (16,true),[],[]⟩,⟨.some 21,.pick (.tmp 16) (.tmp 20) (.av (.bool false)),.none,[],[]⟩,⟨.some 22,.mv (.tmp 21),.none,[],[]⟩,⟨.some 23,.mv (.tmp 0),.some (22,true),[],[]⟩,⟨.some 24,.call (.av (.fn n_strings_TrimPrefix [])) [(.tmp 23),(.av (.str [45]))],.some (22,true),[],[]⟩,⟨.some 25,.len true (.tmp 24),.some (22,true),[],[]⟩,⟨.some 26,.mv (.tmp 1),.some (22,true),[],[]⟩,⟨.some 27,.bin .leq (.tmp 25) (.tmp 26),.some (22,true),[],[]⟩,⟨.some 28,.pick (.tmp 22) (.tmp 27) (.av (.bool false)),.none,[],[]⟩,⟨.some 4,.mv (.tmp 13),.none,[],[]⟩,⟨.some 5,.mv (.tmp 28),.none,[],[]⟩])
 .ret))),
 [.tmp 4,.tmp 5], false⟩
theorem c_desk_number : chkFunc Tryz.prog gl n_desk_number a_desk_number = true := by kernel_rfl
def b_slices_IndexFunc_desk_counted_1 : ACode :=
 (.seq (.reg false [⟨.some 9,.bin .lss (.tmp 8) (.tmp 7),.none,[],[]⟩])
 (.seq (.cond (.tmp 9)
 .skip
 (.exit 0))
 (.cut [0,1,7,8] []
 (.seq (.block 1
 (.seq (.reg false [⟨.some 10,.mv (.tmp 8),.none,[],[]⟩,⟨.some 5,.mv (.tmp 10),.none,[],[]⟩])
 (.seq (.reg false [⟨.some 11,.mv (.tmp 1),.none,[],[]⟩,⟨.some 12,.mv (.tmp 0),.none,[],[]⟩,⟨.some 13,.mv (.tmp 5),.none,[],[]⟩,⟨.some 14,.iaddr .none 6 (.tmp 12) (.tmp 13),.none,[],[]⟩,⟨.some 15,.load true false 6 (.tmp 14),.none,[],[]⟩,⟨.some 16,.call (.tmp 11) [(.tmp 15)],.none,[],[]⟩])
 (.cond (.tmp 16)
 (.seq (.reg false [⟨.some 17,.mv (.tmp 5),.none,[],[]⟩,⟨.some 4,.mv (.tmp 17),.none,[],[]⟩])
 .ret)
 .skip))))
 (.cut [0,1,7,8] []
 (.reg false [⟨.some 18,.bin .add (.tmp 8) (.av (.int .i64 1)),.none,[],[]⟩,⟨.some 8,.mv (.tmp 18),.none,[],[]⟩]))))))
def l_slices_IndexFunc_desk_counted_1 : ACode := .loop (.cut [0,1,7,8] [] b_slices_IndexFunc_desk_counted_1)
@[simp] def t_slices_IndexFunc_desk_counted_1 : ACode :=
 (.cut [] []
 (.seq (.reg false [⟨.some 4,.mv (.av (.int .i64 (-1))),.none,[],[]⟩])
 .ret))
def a_slices_IndexFunc_desk_counted : AFunc := ⟨19,
 (.seq (.reg false [⟨.some 4,.mv (.av (.int .i64 0)),.none,[],[]⟩])
 (.seq (.seq (.reg false [⟨.some 6,.mv (.tmp 0),.none,[],[]⟩,⟨.some 7,.len false (.tmp 6),.none,[],[]⟩,⟨.some 8,.mv (.av (.int .i64 0)),.none,[],[]⟩])
 (.block 0
 l_slices_IndexFunc_desk_counted_1))
 t_slices_IndexFunc_desk_counted_1)),
 [.tmp 4], false⟩
theorem c_slices_IndexFunc_desk_counted : chkFunc Tryz.prog gl n_slices_IndexFunc_desk_counted a_slices_IndexFunc_desk_counted = true := by kernel_rfl
def a_desk_keeper_fix_c1 : AFunc := ⟨8,
 (.seq (.reg false [⟨.some 2,.box true (.tmp 0),.none,[],[]⟩,⟨.some 3,.mv (.av (.bool false)),.none,[],[]⟩])
 (.seq (.reg false [⟨.some 4,.faddr 0 (.tmp 2),.none,[],[]⟩,⟨.some 5,.load false false 1 (.tmp 4),.none,[],[]⟩,⟨.some 6,.load false false 1 (.tmp 1),.none,[],[]⟩,⟨.some 7,.bin .eql (.tmp 5) (.tmp 6),.none,[],[]⟩,⟨.some 3,.mv (.tmp 7),.none,[],[]⟩])
 .ret)),
 [.tmp 3], false⟩
theorem c_desk_keeper_fix_c1 : chkFunc Tryz.prog gl n_desk_keeper_fix_c1 a_desk_keeper_fix_c1 = true := by kernel_rfl
def a_desk_factOf : AFunc := ⟨77,
 (.seq (.reg false [⟨.some 4,.mv (.av .nili),.none,[],[]⟩,⟨.some 5,.mv (.av (.int .i64 0)),.none,[],[]⟩])
 (.seq (.seq (.reg false [⟨.some 17,.mv (.tmp 0),.none,[],[]⟩])
 (.block 0
 (.seq (.reg false [⟨.some 19,.bin .eql (.tmp 17) (.av (.str [102,105,108,108])),.none,[],[]⟩,⟨.some 18,.mv (.tmp 19),.none,[],[]⟩])
 (.cond (.tmp 18)
 (.seq (.reg false [⟨.some 21,.mv (.tmp 1),.none,[],[]⟩,⟨.some 22,.call (.av (.fn n_mix_ParseFill [])) [(.tmp 21)],.none,[],[]⟩,⟨.some 20,.mv (.tmp 22),.none,[],[]⟩,⟨.some 23,.extract (.tmp 20) 0,.none,[],[]⟩,⟨.some 24,.extract (.tmp 20) 1,.none,[],[]⟩,⟨.some 6,.alloc [(.int .i64 0),(.int .i64 0),(.str []),(.str []),(.int .i64 0),(.int .i64 0),(.int .i64 0),(.bool false)],.none,[],[]⟩,⟨.none,.store 8 (.tmp 6) (.tmp 23),.none,[23],[]⟩,⟨.some 7,.mv (.tmp 24),.none,[],[]⟩])
 (.seq (.reg false [⟨.some 25,.load true false 8 (.tmp 6),.none,[],[]⟩,⟨.some 26,.mkif 255 (.tmp 25),.none,[],[]⟩,⟨.some 27,.mv (.tmp 7),.none,[],[]⟩,⟨.some 4,.mv (.tmp 26),.none,[],[]⟩,⟨.some 5,.mv (.tmp 27),.none,[],[]⟩])
 .ret))
 (.seq (.reg false [⟨.some 29,.bin .eql (.tmp 17) (.av (.str [107,105,116])),.none,[],[]⟩,⟨.some 28,.mv (.tmp 29),.none,[],[]⟩])
 (.cond (.tmp 28)
 (.seq (.reg false [⟨.some 31,.mv (.tmp 1),.none,[],[]⟩,⟨.some 32,.call (.av (.fn n_kit_ParseEvent [])) [(.tmp 31)],.none,[],[]⟩,⟨.some 30,.mv (.tmp 32),.none,[],[]⟩,⟨.some 33,.extract (.tmp 30) 0,.none,[],[]⟩,⟨.some 34,.extract (.tmp 30) 1,.none,[],[]⟩,⟨.some 8,.alloc [(.int .i64 0),(.int .i64 0),(.str []),(.str []),(.str []),(.bool false)],.none,[],[]⟩,⟨.none,.store 6 (.tmp 8) (.tmp 33),.none,[33],[]⟩,⟨.some 9,.mv (.tmp 34),.none,[],[]⟩])
 (.seq (.reg false [⟨.some 35,.load true false 6 (.tmp 8),.none,[],[]⟩,⟨.some 36,.mkif 258 (.tmp 35),.none,[],[]⟩,⟨.some 37,.mv (.tmp 9),.none,[],[]⟩,⟨.some 4,.mv (.tmp 36),.none,[],[]⟩,⟨.some 5,.mv (.tmp 37),.none,[],[]⟩])
 .ret))
 (.seq (.reg false [⟨.some 39,.bin .eql (.tmp 17) (.av (.str [112,108,97,110])),.none,[],[]⟩,⟨.some 38,.mv (.tmp 39),.none,[],[]⟩])
 (.cond (.tmp 38)
 (.seq (.reg false [⟨.some 41,.mv (.tmp 1),.none,[],[]⟩,⟨.some 42,.call (.av (.fn n_profile_ParsePlanLine [])) [(.tmp 41)],.none,[],[]⟩,⟨.some 40,.mv (.tmp 42),.none,[],[]⟩,⟨.some 43,.extract (.tmp 40) 0,.none,[],[]⟩,⟨.some 44,.extract (.tmp 40) 1,.none,[],[]⟩,⟨.some 10,.alloc [(.str []),(.int .i64 0),.nils,.nils],.none,[],[]⟩,⟨.none,.store 4 (.tmp 10) (.tmp 43),.none,[43],[]⟩,⟨.some 11,.mv (.tmp 44),.none,[],[]⟩])
 (.seq (.reg false [⟨.some 45,.load true false 4 (.tmp 10),.none,[],[]⟩,⟨.some 46,.mkif 261 (.tmp 45),.none,[],[]⟩,⟨.some 47,.mv (.tmp 11),.none,[],[]⟩,⟨.some 4,.mv (.tmp 46),.none,[],[]⟩,⟨.some 5,.mv (.tmp 47),.none,[],[]⟩])
 .ret))
 (.seq (.reg false [⟨.some 49,.bin .eql (.tmp 17) (.av (.str [100,105,118,101])),.none,[],[]⟩,⟨.some 48,.mv (.tmp 49),.none,[],[]⟩])
 (.cond (.tmp 48)
 (.seq (.reg false [⟨.some 50,.mv (.tmp 1),.none,[],[]⟩,⟨.some 51,.call (.av (.fn n_strings_Split [])) [(.tmp 50),(.av (.str [32]))],.none,[],[]⟩,⟨.some 52,.call (.av (.fn n_desk_diveOf [])) [(.tmp 51)],.none,[],[]⟩,⟨.some 53,.extract (.tmp 52) 0,.none,[],[]⟩,⟨.some 54,.extract (.tmp 52) 1,.none,[],[]⟩,⟨.some 4,.mv (.tmp 53),.none,[],[]⟩,⟨.some 5,.mv (.tmp 54),.none,[],[]⟩])
 .ret)
 (.seq (.reg false [⟨.some 56,.bin .eql (.tmp 17) (.av (.str [114,101,99,111,114,100])),.none,[],[]⟩,⟨.some 55,.mv (.tmp 56),.none,[],[]⟩])
 (.cond (.tmp 55)
 (.seq (.reg false [⟨.some 58,.mv (.tmp 1),.none,[],[]⟩,⟨.some 59,.call (.av (.fn n_strings_Cut [])) [(.tmp 58),(.av (.str [32]))],.none,[],[]⟩,⟨.some 57,.mv (.tmp 59),.none,[],[]⟩,⟨.some 60,.extract (.tmp 57) 0,.none,[],[]⟩,⟨.some 61,.extract (.tmp 57) 1,.none,[],[]⟩,⟨.some 62,.extract (.tmp 57) 2,.none,[],[]⟩,⟨.some 12,.mv (.tmp 60),.none,[],[]⟩,⟨.some 13,.mv (.tmp 61),.none,[],[]⟩,⟨.some 14,.mv (.tmp 62),.none,[],[]⟩])
 (.seq (.seq (.reg false [⟨.some 63,.mv (.tmp 14),.none,[],[]⟩,⟨.some 64,.un .not (.tmp 63),.none,[],[]⟩])
 (.cond (.tmp 64)
 (.seq (.reg false [⟨.some 4,.mv (.av .nili),.none,[],[]⟩,⟨.some 5,.mv (.av (.int .i64 7)),.none,[],[]⟩])
 .ret)
 .skip))
 (.cut [12,13] []
 (.seq (.reg false [⟨.some 66,.mv (.tmp 13),.none,[],[]⟩,⟨.some 67,.call (.av (.fn n_profile_ParsePoints [])) [(.tmp 66)],.none,[],[]⟩,⟨.some 65,.mv (.tmp 67),.none,[],[]⟩,⟨.some 68,.extract (.tmp 65) 0,.none,[],[]⟩,⟨.some 69,.extract (.tmp 65) 1,.none,[],[]⟩,⟨.some 15,.mv (.tmp 68),.none,[68],[]⟩,⟨.some 16,.mv (.tmp 69),.none,[],[]⟩])
 (.seq (.reg false [⟨.some 70,.mv (.tmp 12),.none,[],[]⟩,⟨.some 71,.mv (.tmp 15),.none,[],[]⟩,⟨.some 72,.build [(.str []),.nils] [(0,1,(.tmp 70)),(1,1,(.tmp 71))],.none,[],[]⟩,⟨.some 73,.mkif 266 (.tmp 72),.none,[],[]⟩,⟨.some 74,.mv (.tmp 16),.none,[],[]⟩,⟨.some 4,.mv (.tmp 73),.none,[],[]⟩,⟨.some 5,.mv (.tmp 74),.none,[],[]⟩])
 .ret)))))
 .skip))))))))))))
 (.cut [1] []
 (.seq (.reg false [⟨.some 75,.mv (.tmp 1),.none,[],[]⟩,⟨.some 76,.mkif 267 (.tmp 75),.none,[],[]⟩,⟨.some 4,.mv (.tmp 76),.none,[],[]⟩,⟨.some 5,.mv (.av (.int .i64 0)),.none,[],[]⟩])
 .ret)))),
 [.tmp 4,.tmp 5], false⟩
theorem c_desk_factOf : chkFunc Tryz.prog gl n_desk_factOf a_desk_factOf = true := by kernel_rfl
def a_desk_world_add : AFunc := ⟨105,
 (.seq (.reg false [⟨.some 3,.box true (.tmp 1),.none,[],[]⟩,⟨.some 4,.mv (.av (.int .i64 0)),.none,[],[]⟩])
 (.seq (.reg false [⟨.some 11,.mv (.tmp 0),.none,[],[]⟩,⟨.some 12,.nilchk (.tmp 11),.none,[],[]⟩,⟨.some 13,.faddr 7 (.tmp 12),.none,[],[]⟩,⟨.some 14,.load false false 1 (.tmp 13),.none,[],[]⟩,⟨.some 5,.mv (.tmp 14),.none,[14],[]⟩])
 (.seq (.seq (.reg false [⟨.some 15,.faddr 5 (.tmp 3),.none,[],[]⟩,⟨.some 16,.load false false 1 (.tmp 15),.none,[],[]⟩,⟨.some 17,.mv (.tmp 0),.none,[],[]⟩,⟨.some 18,.faddr 1 (.tmp 3),.none,[],[]⟩,⟨.some 19,.load true false 2 (.tmp 18),.none,[],[]⟩,⟨.some 20,.invoke "shotline/desk.add" (.tmp 16) [(.tmp 17),(.tmp 19)],.none,[],[]⟩,⟨.some 6,.mv (.tmp 20),.none,[],[]⟩])
 (.seq (.reg false [⟨.some 21,.mv (.tmp 6),.none,[],[]⟩,⟨.some 22,.bin .neq (.tmp 21) (.av (.int .i64 0)),.none,[],[]⟩])
 (.cond (.tmp 22)
 (.seq (.reg false [⟨.some 23,.mv (.tmp 6),.none,[],[]⟩,⟨.some 4,.mv (.tmp 23),.none,[],[]⟩])
 .ret)
 .skip)))
 (.cut [0,3,5] []
 (.seq (.reg false [⟨.some 7,.alloc [(.int .i64 0),(.int .i64 0),(.int .i64 0)],.none,[],[]⟩])
 (.seq (.seq (.reg false [⟨.some 24,.faddr 5 (.tmp 3),.none,[],[]⟩,⟨.some 25,.load false false 1 (.tmp 24),.none,[],[]⟩])
 (.block 0
 (.seq (.reg false [⟨.some 26,.tassert 255 true (.agg [(.int .i64 0),(.int .i64 0),(.str []),(.str []),(.int .i64 0),(.int .i64 0),(.int .i64 0),(.bool false)]) (.tmp 25),.none,[],[]⟩,⟨.some 27,.extract (.tmp 26) 1,.none,[],[]⟩,⟨.some 28,.extract (.tmp 26) 0,.none,[],[]⟩])
 (.cond (.tmp 27)
 (.seq (.reg false [⟨.some 8,.alloc [(.int .i64 0),(.int .i64 0),(.str []),(.str []),(.int .i64 0),(.int .i64 0),(.int .i64 0),(.bool false)],.none,[],[]⟩,⟨.none,.store 8 (.tmp 8) (.tmp 28),.none,[28],[]⟩])
 (.seq (.reg false [⟨.some 29,.faddr 0 (.tmp 8),.none,[],[]⟩,⟨.some 30,.load false false 1 (.tmp 29),.none,[],[]⟩])
 (.block 1
 (.seq (.reg false [⟨.some 48,.bin .eql (.tmp 30) (.av (.int .i64 0)),.none,[],[]⟩,⟨.some 47,.mv (.tmp 48),.none,[],[]⟩])
 (.cond (.tmp 47)
 (.reg false [⟨.some 49,.mv (.tmp 0),.none,[],[]⟩,⟨.some 50,.nilchk (.tmp 49),.none,[],[]⟩,⟨.some 51,.faddr 7 (.tmp 50),.none,[],[]⟩,⟨.some 52,.load false false 1 (.tmp 51),.none,[],[]⟩,⟨.some 53,.call (.av (.fn n_desk_total [])) [(.tmp 52)],.none,[],[]⟩,⟨.some 54,.mv (.tmp 5),.none,[],[]⟩,⟨.some 55,.call (.av (.fn n_desk_total [])) [(.tmp 54)],.none,[],[]⟩,⟨.some 56,.call (.av (.fn n_desk_less [])) [(.tmp 53),(.tmp 55)],.none,[],[]⟩,⟨.none,.store 3 (.tmp 7) (.tmp 56),.none,[56],[]⟩])
 (.seq (.reg false [⟨.some 58,.bin .eql (.tmp 30) (.av (.int .i64 2)),.none,[],[]⟩,⟨.some 57,.mv (.tmp 58),.none,[],[]⟩])
 (.cond (.tmp 57)
 (.seq (.reg true [⟨.some 59,.mv (.tmp 5),.none,[],[]⟩,⟨.some 60,.call (.av (.fn n_desk_total [])) [(.tmp 59)],.none,[],[1]⟩,⟨.some 61,.mv (.tmp 0),.none,[],[]⟩,⟨.some 62,.nilchk (.tmp 61),.none,[],[]⟩,⟨.some 63,.faddr 7 (.tmp 62),.none,[],[]⟩,⟨.some 64,.load false false 1 (.tmp 63),.none,[],[]⟩,⟨.some 65,.call (.av (.fn n_desk_total [])) [(.tmp 64)],.none,[],[]⟩,⟨.some 66,.call (.av (.fn n_desk_less [])) [(.tmp 60),(.tmp 65)],.none,[],[]⟩,⟨.none,.store 3 (.tmp 7) (.tmp 66),.none,[66],[]⟩])
 (.reg true [⟨.some 67,.mv (.tmp 0),.none,[],[]⟩,⟨.some 68,.mv (.tmp 0),.none,[],[]⟩,⟨.some 69,.nilchk (.tmp 68),.none,[],[]⟩,⟨.some 70,.faddr 10 (.tmp 69),.none,[],[]⟩,⟨.some 71,.load true false 3 (.tmp 70),.none,[],[]⟩,⟨.some 72,.load true false 3 (.tmp 7),.none,[],[]⟩,⟨.some 73,.call (.av (.fn n_desk_plus [])) [(.tmp 71),(.tmp 72)],.none,[],[]⟩,⟨.some 74,.nilchk (.tmp 67),.none,[],[]⟩,⟨.some 75,.faddr 10 (.tmp 74),.none,[],[]⟩,⟨.none,.store 3 (.tmp 75) (.tmp 73),.none,[73],[]⟩]))
 (.seq (.reg false [⟨.some 31,.mv (.tmp 0),.none,[],[]⟩,⟨.some 32,.faddr 3 (.tmp 8),.none,[],[]⟩,⟨.some 33,.load false false 1 (.tmp 32),.none,[],[]⟩,⟨.some 34,.call (.av (.fn n_desk_world_vessel [])) [(.tmp 31),(.tmp 33)],.none,[],[]⟩,⟨.some 9,.mv (.tmp 34),.none,[],[]⟩])
 (.reg true [⟨.some 35,.mv (.tmp 0),.none,[],[]⟩,⟨.some 36,.nilchk (.tmp 35),.none,[],[]⟩,⟨.some 37,.faddr 7 (.tmp 36),.none,[],[]⟩,⟨.some 38,.load false false 1 (.tmp 37),.none,[],[]⟩,⟨.some 39,.mv (.tmp 9),.none,[],[]⟩,⟨.some 40,.iaddr .none 3 (.tmp 38) (.tmp 39),.none,[],[]⟩,⟨.some 41,.load true false 3 (.tmp 40),.none,[],[]⟩,⟨.some 42,.mv (.tmp 5),.none,[],[]⟩,⟨.some 43,.mv (.tmp 9),.none,[],[]⟩,⟨.some 44,.iaddr .none 3 (.tmp 42) (.tmp 43),.none,[],[]⟩,⟨.some 45,.load true false 3 (.tmp 44),.none,[],[]⟩,⟨.some 46,.call (.av (.fn n_desk_less [])) [(.tmp 41),(.tmp 45)],.none,[],[]⟩,⟨.none,.store 3 (.tmp 7) (.tmp 46),.none,[46],[]⟩])))))))))
 (.seq (.reg false [⟨.some 76,.tassert 269 true (.agg [(.str []),(.str []),(.str []),(.int .i64 0),(.int .i64 0),.nils]) (.tmp 25),.none,[],[]⟩,⟨.some 77,.extract (.tmp 76) 1,.none,[],[]⟩,⟨.some 78,.extract (.tmp 76) 0,.none,[],[]⟩])
 (.cond (.tmp 77)
 (.seq (.reg false [⟨.some 10,.alloc [(.str []),(.str []),(.str []),(.int .i64 0),(.int .i64 0),.nils],.none,[],[]⟩,⟨.none,.store 6 (.tmp 10) (.tmp 78),.none,[78],[]⟩])
 (.seq (.reg true [⟨.some 79,.mv (.tmp 5),.none,[],[]⟩,⟨.some 80,.call (.av (.fn n_desk_total [])) [(.tmp 79)],.none,[],[1]⟩,⟨.some 81,.mv (.tmp 0),.none,[],[]⟩,⟨.some 82,.nilchk (.tmp 81),.none,[],[]⟩,⟨.some 83,.faddr 7 (.tmp 82),.none,[],[]⟩,⟨.some 84,.load false false 1 (.tmp 83),.none,[],[]⟩,⟨.some 85,.call (.av (.fn n_desk_total [])) [(.tmp 84)],.none,[],[]⟩,⟨.some 86,.call (.av (.fn n_desk_less [])) [(.tmp 80),(.tmp 85)],.none,[],[]⟩,⟨.none,.store 3 (.tmp 7) (.tmp 86),.none,[86],[]⟩])
 (.reg true [⟨.some 87,.mv (.tmp 0),.none,[],[]⟩,⟨.some 88,.mv (.tmp 0),.none,[],[]⟩,⟨.some 89,.nilchk (.tmp 88),.none,[],[]⟩,⟨.some 90,.faddr 13 (.tmp 89),.none,[],[]⟩,⟨.some 91,.load true false 3 (.tmp 90),.none,[],[]⟩,⟨.some 92,.load true false 3 (.tmp 7),.none,[],[]⟩,⟨.some 93,.call (.av (.fn n_desk_plus [])) [(.tmp 91),(.tmp 92)],.none,[],[]⟩,⟨.some 94,.nilchk (.tmp 87),.none,[],[]⟩,⟨.some 95,.faddr 13 (.tmp 94),.none,[],[]⟩,⟨.none,.store 3 (.tmp 95) (.tmp 93),.none,[93],[]⟩])))
 .skip))))))
 (.cut [0,7] []
 (.seq (.reg true [⟨.some 96,.mv (.tmp 0),.none,[],[]⟩,⟨.some 97,.mv (.tmp 0),.none,[],[]⟩,⟨.some 98,.nilchk (.tmp 97),.none,[],[]⟩,⟨.some 99,.faddr 9 (.tmp 98),.none,[],[]⟩,⟨.some 100,.load false false 1 (.tmp 99),.none,[],[]⟩,⟨.some 101,.load true false 3 (.tmp 7),.none,[],[]⟩,⟨.some 102,.call (.av (.fn n_desk_with_api_MixContent [])) [(.tmp 100),(.tmp 101)],.none,[],[]⟩,⟨.some 103,.nilchk (.tmp 96),.none,[],[]⟩,⟨.some 104,.faddr 9 (.tmp 103),.none,[],[]⟩,⟨.none,.store 1 (.tmp 104) (.tmp 102),.none,[102],[]⟩])
 (.seq (.reg false [⟨.some 4,.mv (.av (.int .i64 0)),.none,[],[]⟩])
 .ret))))))))),
 [.tmp 4], false⟩
theorem c_desk_world_add : chkFunc Tryz.prog gl n_desk_world_add a_desk_world_add = true := by kernel_rfl
def b_mix_isName_1 : ACode :=
 (.seq (.reg false [⟨.some 8,.bin .lss (.tmp 7) (.tmp 6),.none,[],[]⟩])
 (.seq (.cond (.tmp 8)
 .skip
 (.exit 0))
 (.cut [0,6,7] []
 (.seq (.block 1
 (.seq (.reg false [⟨.some 9,.mv (.tmp 7),.none,[],[]⟩,⟨.some 3,.mv (.tmp 9),.none,[],[]⟩])
 (.seq (.reg false [⟨.some 10,.mv (.tmp 0),.none,[],[]⟩,⟨.some 11,.mv (.tmp 3),.none,[],[]⟩,⟨.some 12,.ixstr (.tmp 10) (.tmp 11),.none,[],[]⟩,⟨.some 13,.bin .geq (.tmp 12) (.av (.int .u8 97)),.none,[],[]⟩,⟨.some 14,.mv (.tmp 13),.none,[],[]⟩,⟨.some 15,.mv (.tmp 0),.some (14,true),[],[]⟩,⟨.some 16,.mv (.tmp 3),.some (14,true),[],[]⟩,⟨.some 17,.ixstr (.tmp 15) (.tmp 16),.some (14,true),[],[]⟩,⟨.some 18,.bin .leq (.tmp 17) (.av (.int .u8 122)),.some (14,true),[],[]⟩,⟨.some 19,.pick (.tmp 14) (.tmp 18) (.av (.bool false)),.none,[],[]⟩,⟨.some 20,.mv (.tmp 19),.none,[],[]⟩,⟨.some 21,.mv (.tmp 0),.some (20,false),[],[]⟩,⟨.some 22,.mv (.tmp 3),.some (20,false),[],[]⟩,⟨.some 23,.ixstr (.tmp 21) (.tmp 22),.some (20,false),[],[]⟩,⟨.some 24,.bin .geq (.tmp 23) (.av (.int .u8 65)),.some (20,false),[],[]⟩,⟨.some 25,.mv (.tmp 24),.some (20,false),[],[]⟩,⟨.some 26,.mv (.tmp 0),.some (25,true),[],[]⟩,⟨.some 27,.mv (.tmp 3),.some (25,true),[],[]⟩,⟨.some 28,.ixstr (.tmp 26) (.tmp 27),.some (25,true),[],[]⟩,⟨.some 29,.bin .leq (.tmp 28) (.av (.int .u8 90)),.some (25,true),[],[]⟩,⟨.some 30,.pick (.tmp 25) (.tmp 29) (.av (.bool false)),.some (20,false),[],[]⟩,⟨.some 31,.pick (.tmp 20) (.av (.bool true)) (.tmp 30),.none,[],[]⟩,⟨.some 4,.mv (.tmp 31),.none,[],[]⟩])
 (.seq (.reg false [⟨.some 32,.mv (.tmp 4),.none,[],[]⟩,⟨.some 33,.un .not (.tmp 32),.none,[],[]⟩,⟨.some 34,.mv (.tmp 33),.none,[],[]⟩,⟨.some 35,.mv (.tmp 3),.some (34,true),[],[]⟩,⟨.some 36,.bin .eql (.tmp 35) (.av (.int .i64 0)),.some (34,true),[],[]⟩,⟨.some 37,.mv (.tmp 36),.some (34,true),[],[]⟩,⟨.some 38,.mv (.tmp 0),.some (37,false),[],[]⟩,⟨.some 39,.mv (.tmp 3),.some (37,false),[],[]⟩,⟨.some 40,.ixstr (.tmp 38) (.tmp 39),.some (37,false),[],[]⟩,⟨.some 41,.bin .neq (.tmp 40) (.av (.int .u8 45)),.some (37,false),[],[]⟩,⟨.some 42,.mv (.tmp 41),.some (37,false),[],[]⟩,⟨.some 43,.mv (.tmp 0),.some (42,true),[],[]⟩,⟨.some 44,.mv (.tmp 3),.some (42,true),[],[]⟩,⟨.some 45,.ixstr (.tmp 43) (.tmp 44),.some (42,true),[],[]⟩,⟨.some 46,.bin .lss (.tmp 45) (.av (.int .u8 48)),.some (42,true),[],[]⟩,⟨.some 47,.mv (.tmp 46),.some (42,true),[],[]⟩,⟨.some 48,.mv (.tmp 0),.some (47,false),[],[]⟩,⟨.some 49,.mv (.tmp 3),.some (47,false),[],[]⟩,⟨.some 50,.ixstr (.tmp 48) (.tmp 49),.some (47,false),[],[]⟩,⟨.some 51,.bin .gtr (.tmp 50) (.av (.int .u8 57)),.some (47,false),[],[]⟩,⟨.some 52,.pick (.tmp 47) (.av (.bool true)) (.tmp 51),.some (42,true),[],[]⟩,⟨.some 53,.pick (.tmp 42) (.tmp 52) (.av (.bool false)),.some (37,false),[],[]⟩,⟨.some 54,.pick (.tmp 37) (.av (.bool true)) (.tmp 53),.some (34,true),[],[]⟩,⟨.some 55,.pick (.tmp 34) (.tmp 54) (.av (.bool false)),.none,[],[]⟩])
 (.cond (.tmp 55)
 (.seq (.reg false [⟨.some 2,.mv (.av (.bool false)),.none,[],[]⟩])
 .ret)
 .skip)))))
 (.cut [0,6,7] []
 (.reg false [⟨.some 56,.bin .add (.tmp 7) (.av (.int .i64 1)),.none,[],[]⟩,⟨.some 7,.mv (.tmp 56),.none,[],[]⟩]))))))
def l_mix_isName_1 : ACode := .loop (.cut [0,6,7] [] b_mix_isName_1)
@[simp] def t_mix_isName_1 : ACode :=
 (.cut [0] []
 (.seq (.reg false [⟨.some 57,.mv (.tmp 0),.none,[],[]⟩,⟨.some 58,.bin .neq (.tmp 57) (.av (.str [])),.none,[],[]⟩,⟨.some 59,.mv (.tmp 58),.none,[],[]⟩,⟨.some 60,.mv (.tmp 0),.some (59,true),[],[]⟩,⟨.some 61,.len true (.tmp 60),.some (59,true),[],[]⟩,⟨.some 62,.bin .leq (.tmp 61) (.av (.int .i64 12)),.some (59,true),[],[]⟩,⟨.some 63,.pick (.tmp 59) (.tmp 62) (.av (.bool false)),.none,[],[]⟩,⟨.some 2,.mv (.tmp 63),.none,[],[]⟩])
 .ret))
def a_mix_isName : AFunc := ⟨64,
 (.seq (.reg false [⟨.some 2,.mv (.av (.bool false)),.none,[],[]⟩])
 (.seq (.seq (.reg false [⟨.some 5,.mv (.tmp 0),.none,[],[]⟩,⟨.some 6,.len true (.tmp 5),.none,[],[]⟩,⟨.some 7,.mv (.av (.int .i64 0)),.none,[],[]⟩])
 (.block 0
 l_mix_isName_1))
 t_mix_isName_1)),
 [.tmp 2], false⟩
theorem c_mix_isName : chkFunc Tryz.prog gl n_mix_isName a_mix_isName = true := by kernel_rfl
def a_mix_vessel : AFunc := ⟨8,
 (.seq (.reg false [⟨.some 3,.box true (.tmp 1),.none,[],[]⟩,⟨.some 4,.mv (.av (.int .i64 0)),.none,[],[]⟩])
 (.seq (.reg false [⟨.some 5,.mv (.tmp 0),.none,[],[]⟩,⟨.some 6,.mkfn n_mix_vessel_c1 [(.tmp 3)],.none,[],[]⟩,⟨.some 7,.call (.av (.fn n_slices_IndexFunc_api_MixVessel [])) [(.tmp 5),(.tmp 6)],.none,[],[]⟩,⟨.some 4,.mv (.tmp 7),.none,[],[]⟩])
 .ret)),
 [.tmp 4], false⟩
theorem c_mix_vessel : chkFunc Tryz.prog gl n_mix_vessel a_mix_vessel = true := by kernel_rfl
def a_mix_within : AFunc := ⟨15,
 (.seq (.reg false [⟨.some 6,.mv (.av (.bool false)),.none,[],[]⟩])
 (.seq (.reg false [⟨.some 7,.mv (.tmp 1),.none,[],[]⟩,⟨.some 8,.mv (.tmp 0),.none,[],[]⟩,⟨.some 9,.bin .leq (.tmp 7) (.tmp 8),.none,[],[]⟩,⟨.some 10,.mv (.tmp 9),.none,[],[]⟩,⟨.some 11,.mv (.tmp 0),.some (10,true),[],[]⟩,⟨.some 12,.mv (.tmp 2),.some (10,true),[],[]⟩,⟨.some 13,.bin .leq (.tmp 11) (.tmp 12),.some (10,true),[],[]⟩,⟨.some 14,.pick (.tmp 10) (.tmp 13) (.av (.bool false)),.none,[],[]⟩,⟨.some 6,.mv (.tmp 14),.none,[],[]⟩])
 .ret)),
 [.tmp 6], false⟩
theorem c_mix_within : chkFunc Tryz.prog gl n_mix_within a_mix_within = true := by kernel_rfl
end Go.Proofs.YtnhagbllecpkkaaGreatDoor
