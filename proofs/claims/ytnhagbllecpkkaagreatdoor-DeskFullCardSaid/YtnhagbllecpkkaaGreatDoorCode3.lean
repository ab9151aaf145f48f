/-
  The codes of the functions, as the abstract machine runs them, each checked against the program by the kernel.
-/
import Derived.Test.YtnhagbllecpkkaaGreatDoorCode2
set_option linter.unusedSimpArgs false
set_option linter.unusedVariables false

namespace Go.Proofs.YtnhagbllecpkkaaGreatDoor
open Go Go.VA Go.Proofs
def a_mix_alone : AFunc := ⟨76,
 (.seq (.reg false [⟨.some 1,.box true (.tmp 0),.none,[],[]⟩,⟨.some 2,.mv (.av (.int .i64 0)),.none,[],[]⟩])
 (.seq (.seq (.reg false [⟨.some 4,.faddr 0 (.tmp 1),.none,[],[]⟩,⟨.some 5,.load false false 1 (.tmp 4),.none,[],[]⟩,⟨.some 6,.call (.av (.fn n_mix_within [])) [(.tmp 5),(.av (.int .i64 0)),(.av (.int .i64 2))],.none,[],[]⟩,⟨.some 7,.un .not (.tmp 6),.none,[],[]⟩])
 (.cond (.tmp 7)
 (.seq (.reg false [⟨.some 2,.mv (.av (.int .i64 15)),.none,[],[]⟩])
 .ret)
 .skip))
 (.cut [1] []
 (.seq (.reg false [⟨.some 8,.faddr 4 (.tmp 1),.none,[],[]⟩,⟨.some 9,.load true false 2 (.tmp 8),.none,[],[]⟩,⟨.some 10,.build [(.int .i64 0),(.int .i64 0)] [],.none,[],[]⟩,⟨.some 11,.eq (.agg [.i,.i]) false (.tmp 9) (.tmp 10),.none,[],[]⟩,⟨.some 3,.mv (.tmp 11),.none,[],[]⟩])
 (.seq (.seq (.reg false [⟨.some 12,.faddr 0 (.tmp 1),.none,[],[]⟩,⟨.some 13,.load false false 1 (.tmp 12),.none,[],[]⟩,⟨.some 14,.bin .eql (.tmp 13) (.av (.int .i64 0)),.none,[],[]⟩])
 (.cond (.tmp 14)
 (.reg false [⟨.some 15,.faddr 4 (.tmp 1),.none,[],[]⟩,⟨.some 16,.load true false 2 (.tmp 15),.none,[],[]⟩,⟨.some 17,.call (.av (.fn n_gas_CheckGas [])) [(.tmp 16)],.none,[],[]⟩,⟨.some 18,.bin .eql (.tmp 17) (.av (.int .i64 0)),.none,[],[]⟩,⟨.some 3,.mv (.tmp 18),.none,[],[]⟩])
 .skip))
 (.cut [1,3] []
 (.seq (.block 0
 (.seq (.reg false [⟨.some 20,.faddr 1 (.tmp 1),.none,[],[]⟩,⟨.some 21,.load false false 1 (.tmp 20),.none,[],[]⟩,⟨.some 22,.call (.av (.fn n_mix_within [])) [(.tmp 21),(.av (.int .i64 0)),(.av (.int .i64 100000))],.none,[],[]⟩,⟨.some 23,.un .not (.tmp 22),.none,[],[]⟩,⟨.some 24,.mv (.tmp 23),.none,[],[]⟩,⟨.some 25,.faddr 6 (.tmp 1),.some (24,false),[],[]⟩,⟨.some 26,.load false false 1 (.tmp 25),.some (24,false),[],[]⟩,⟨.some 27,.call (.av (.fn n_mix_within [])) [(.tmp 26),(.av (.int .i64 1)),(.av (.int .i64 1000000000))],.some (24,false),[],[]⟩,⟨.some 28,.un .not (.tmp 27),.some (24,false),[],[]⟩,⟨.some 29,.pick (.tmp 24) (.av (.bool true)) (.tmp 28),.none,[],[]⟩,⟨.some 30,.mv (.tmp 29),.none,[],[]⟩,⟨.some 31,.mv (.tmp 3),.some (30,false),[],[]⟩,⟨.some 32,.un .not (.tmp 31),.some (30,false),[],[]⟩,⟨.some 33,.pick (.tmp 30) (.av (.bool true)) (.tmp 32),.none,[],[]⟩,⟨.some 19,.mv (.tmp 33),.none,[],[]⟩])
 (.cond (.tmp 19)
 (.seq (.reg false [⟨.some 2,.mv (.av (.int .i64 2)),.none,[],[]⟩])
 .ret)
 (.seq (.reg false [⟨.some 35,.faddr 0 (.tmp 1),.none,[],[]⟩,⟨.some 36,.load false false 1 (.tmp 35),.none,[],[]⟩,⟨.some 37,.call (.av (.fn n_mix_takes [])) [(.tmp 36)],.none,[],[]⟩,⟨.some 38,.un .not (.tmp 37),.none,[],[]⟩,⟨.some 39,.mv (.tmp 38),.none,[],[]⟩,⟨.some 40,.faddr 2 (.tmp 1),.some (39,true),[],[]⟩,⟨.some 41,.load false false 1 (.tmp 40),.some (39,true),[],[]⟩,⟨.some 42,.bin .neq (.tmp 41) (.av (.str [])),.some (39,true),[],[]⟩,⟨.some 43,.pick (.tmp 39) (.tmp 42) (.av (.bool false)),.none,[],[]⟩,⟨.some 44,.mv (.tmp 43),.none,[],[]⟩,⟨.some 45,.faddr 0 (.tmp 1),.some (44,false),[],[]⟩,⟨.some 46,.load false false 1 (.tmp 45),.some (44,false),[],[]⟩,⟨.some 47,.call (.av (.fn n_mix_puts [])) [(.tmp 46)],.some (44,false),[],[]⟩,⟨.some 48,.un .not (.tmp 47),.some (44,false),[],[]⟩,⟨.some 49,.mv (.tmp 48),.some (44,false),[],[]⟩,⟨.some 50,.faddr 3 (.tmp 1),.some (49,true),[],[]⟩,⟨.some 51,.load false false 1 (.tmp 50),.some (49,true),[],[]⟩,⟨.some 52,.bin .neq (.tmp 51) (.av (.str [])),.some (49,true),[],[]⟩,⟨.some 53,.pick (.tmp 49) (.tmp 52) (.av (.bool false)),.some (44,false),[],[]⟩,⟨.some 54,.pick (.tmp 44) (.av (.bool true)) (.tmp 53),.none,[],[]⟩,⟨.some 55,.mv (.tmp 54),.none,[],[]⟩,⟨.some 56,.faddr 0 (.tmp 1),.some (55,false),[],[]⟩,⟨.some 57,.load false false 1 (.tmp 56),.some (55,false),[],[]⟩,⟨.some 58,.bin .eql (.tmp 57) (.av (.int .i64 1)),.some (55,false),[],[]⟩,⟨.some 59,.mv (.tmp 58),.some (55,false),[],[]⟩,⟨.some 60,.faddr 2 (.tmp 1),.some (59,true),[],[]⟩,⟨.some 61,.load false false 1 (.tmp 60),.some (59,true),[],[]⟩,⟨.some 62,.faddr 3 (.tmp 1),.some (59,true),[],[]⟩,⟨.some 63,.load false false 1 (.tmp 62),.some (59,true),[],[]⟩,⟨.some 64,.bin .eql (.tmp 61) (.tmp 63),.some (59,true),[],[]⟩,⟨.some 65,.pick (.tmp 59) (.tmp 64) (.av (.bool false)),.some (55,false),[],[]⟩,⟨.some 66,.pick (.tmp 55) (.av (.bool true)) (.tmp 65),.none,[],[]⟩,⟨.some 67,.mv (.tmp 66),.none,[],[]⟩,⟨.some 68,.faddr 7 (.tmp 1),.some (67,false),[],[]⟩,⟨.some 69,.load false false 1 (.tmp 68),.some (67,false),[],[]⟩,⟨.some 70,.mv (.tmp 69),.some (67,false),[],[]⟩,⟨.some 71,.faddr 0 (.tmp 1),.some (70,true),[],[]⟩,⟨.some 72,.load false false 1 (.tmp 71),.some (70,true),[],[]⟩,⟨.some 73,.bin .neq (.tmp 72) (.av (.int .i64 1)),.some (70,true),[],[]⟩,⟨.some 74,.pick (.tmp 70) (.tmp 73) (.av (.bool false)),.some (67,false),[],[]⟩,⟨.some 75,.pick (.tmp 67) (.av (.bool true)) (.tmp 74),.none,[],[]⟩,⟨.some 34,.mv (.tmp 75),.none,[],[]⟩])
 (.cond (.tmp 34)
 (.seq (.reg false [⟨.some 2,.mv (.av (.int .i64 3)),.none,[],[]⟩])
 .ret)
 .skip)))))
 (.cut [] []
 (.seq (.reg false [⟨.some 2,.mv (.av (.int .i64 0)),.none,[],[]⟩])
 .ret))))))))),
 [.tmp 2], false⟩
theorem c_mix_alone : chkFunc Tryz.prog gl n_mix_alone a_mix_alone = true := by kernel_rfl
def a_mix_takes : AFunc := ⟨5,
 (.seq (.reg false [⟨.some 2,.mv (.av (.bool false)),.none,[],[]⟩])
 (.seq (.reg false [⟨.some 3,.mv (.tmp 0),.none,[],[]⟩,⟨.some 4,.bin .neq (.tmp 3) (.av (.int .i64 0)),.none,[],[]⟩,⟨.some 2,.mv (.tmp 4),.none,[],[]⟩])
 .ret)),
 [.tmp 2], false⟩
theorem c_mix_takes : chkFunc Tryz.prog gl n_mix_takes a_mix_takes = true := by kernel_rfl
def a_mix_puts : AFunc := ⟨5,
 (.seq (.reg false [⟨.some 2,.mv (.av (.bool false)),.none,[],[]⟩])
 (.seq (.reg false [⟨.some 3,.mv (.tmp 0),.none,[],[]⟩,⟨.some 4,.bin .neq (.tmp 3) (.av (.int .i64 2)),.none,[],[]⟩,⟨.some 2,.mv (.tmp 4),.none,[],[]⟩])
 .ret)),
 [.tmp 2], false⟩
theorem c_mix_puts : chkFunc Tryz.prog gl n_mix_puts a_mix_puts = true := by kernel_rfl
def a_mix_gases_sum : AFunc := ⟨11,
 (.seq (.reg false [⟨.some 1,.box true (.tmp 0),.none,[],[]⟩,⟨.some 2,.mv (.av (.int .i64 0)),.none,[],[]⟩])
 (.seq (.reg false [⟨.some 3,.iaddr (.some 3) 1 (.tmp 1) (.av (.int .i64 0)),.none,[],[]⟩,⟨.some 4,.load false false 1 (.tmp 3),.none,[],[]⟩,⟨.some 5,.iaddr (.some 3) 1 (.tmp 1) (.av (.int .i64 1)),.none,[],[]⟩,⟨.some 6,.load false false 1 (.tmp 5),.none,[],[]⟩,⟨.some 7,.bin .add (.tmp 4) (.tmp 6),.none,[],[]⟩,⟨.some 8,.iaddr (.some 3) 1 (.tmp 1) (.av (.int .i64 2)),.none,[],[]⟩,⟨.some 9,.load false false 1 (.tmp 8),.none,[],[]⟩,⟨.some 10,.bin .add (.tmp 7) (.tmp 9),.none,[],[]⟩,⟨.some 2,.mv (.tmp 10),.none,[],[]⟩])
 .ret)),
 [.tmp 2], false⟩
theorem c_mix_gases_sum : chkFunc Tryz.prog gl n_mix_gases_sum a_mix_gases_sum = true := by kernel_rfl
def a_mix_fresh : AFunc := ⟨25,
 (.seq (.reg false [⟨.some 2,.box true (.tmp 0),.none,[],[]⟩,⟨.some 4,.alloc [(.int .i64 0),(.int .i64 0),(.int .i64 0)],.none,[],[]⟩])
 (.seq (.reg true [⟨.some 7,.mv (.tmp 1),.none,[],[]⟩,⟨.some 8,.faddr 0 (.tmp 2),.none,[],[]⟩,⟨.some 9,.load false false 1 (.tmp 8),.none,[],[]⟩,⟨.some 10,.bin .mul (.tmp 7) (.tmp 9),.none,[],[]⟩,⟨.some 11,.bin .quo (.tmp 10) (.av (.int .i64 1000)),.none,[],[]⟩,⟨.some 12,.mv (.tmp 1),.none,[],[]⟩,⟨.some 13,.faddr 1 (.tmp 2),.none,[],[]⟩,⟨.some 14,.load false false 1 (.tmp 13),.none,[],[]⟩,⟨.some 15,.bin .mul (.tmp 12) (.tmp 14),.none,[],[]⟩,⟨.some 16,.bin .quo (.tmp 15) (.av (.int .i64 1000)),.none,[],[]⟩,⟨.some 5,.mv (.tmp 11),.none,[],[]⟩,⟨.some 6,.mv (.tmp 16),.none,[],[]⟩])
 (.seq (.reg false [⟨.some 17,.mv (.tmp 5),.none,[],[]⟩,⟨.some 18,.mv (.tmp 6),.none,[],[]⟩,⟨.some 19,.mv (.tmp 1),.none,[],[]⟩,⟨.some 20,.mv (.tmp 5),.none,[],[]⟩,⟨.some 21,.bin .sub (.tmp 19) (.tmp 20),.none,[],[]⟩,⟨.some 22,.mv (.tmp 6),.none,[],[]⟩,⟨.some 23,.bin .sub (.tmp 21) (.tmp 22),.none,[],[]⟩,⟨.some 24,.build [(.int .i64 0),(.int .i64 0),(.int .i64 0)] [(0,1,(.tmp 17)),(1,1,(.tmp 18)),(2,1,(.tmp 23))],.none,[],[]⟩,⟨.none,.store 3 (.tmp 4) (.tmp 24),.none,[24],[]⟩])
 .ret))),
 [.cell true 3 4], false⟩
theorem c_mix_fresh : chkFunc Tryz.prog gl n_mix_fresh a_mix_fresh = true := by kernel_rfl
def b_mix_gases_share_1 : ACode :=
 (.seq (.reg false [⟨.some 52,.bin .lss (.tmp 51) (.tmp 50),.none,[],[]⟩])
 (.seq (.cond (.tmp 52)
 .skip
 (.exit 2))
 (.cut [4,6,49,50,51] []
 (.seq (.block 3
 (.seq (.reg false [⟨.some 53,.iaddr .none 1 (.tmp 49) (.tmp 51),.none,[],[]⟩,⟨.some 54,.load false false 1 (.tmp 53),.none,[],[]⟩,⟨.some 13,.mv (.tmp 54),.none,[],[]⟩])
 (.reg false [⟨.some 55,.mv (.tmp 13),.none,[],[]⟩,⟨.some 56,.iaddr (.some 3) 1 (.tmp 6) (.tmp 55),.none,[],[]⟩,⟨.some 57,.load false false 1 (.tmp 56),.none,[],[]⟩,⟨.some 58,.bin .add (.tmp 57) (.av (.int .i64 1)),.none,[],[]⟩,⟨.some 59,.iaddr (.some 3) 1 (.tmp 6) (.tmp 55),.none,[],[]⟩,⟨.none,.store 1 (.tmp 59) (.tmp 58),.none,[58],[]⟩])))
 (.cut [4,6,49,50,51] []
 (.reg false [⟨.some 60,.bin .add (.tmp 51) (.av (.int .i64 1)),.none,[],[]⟩,⟨.some 51,.mv (.tmp 60),.none,[],[]⟩]))))))
def l_mix_gases_share_1 : ACode := .loop (.cut [4,6,49,50,51] [] b_mix_gases_share_1)
def b_mix_gases_share_2 : ACode :=
 (.seq (.reg false [⟨.some 21,.bin .lss (.tmp 20) (.av (.int .i64 3)),.none,[],[]⟩])
 (.seq (.cond (.tmp 21)
 .skip
 (.exit 0))
 (.cut [1,4,5,6,7,19,20] []
 (.seq (.block 1
 (.seq (.reg false [⟨.some 22,.mv (.tmp 20),.none,[],[]⟩,⟨.some 23,.ixarr false 3 1 (.tmp 19) (.tmp 20),.none,[],[]⟩,⟨.some 8,.mv (.tmp 22),.none,[],[]⟩,⟨.some 9,.mv (.tmp 23),.none,[],[]⟩])
 (.reg true [⟨.some 24,.mv (.tmp 8),.none,[],[]⟩,⟨.some 25,.mv (.tmp 8),.none,[],[]⟩,⟨.some 26,.mv (.tmp 9),.none,[],[]⟩,⟨.some 27,.mv (.tmp 1),.none,[],[]⟩,⟨.some 28,.bin .mul (.tmp 26) (.tmp 27),.none,[],[]⟩,⟨.some 29,.mv (.tmp 5),.none,[],[]⟩,⟨.some 30,.bin .quo (.tmp 28) (.tmp 29),.none,[],[]⟩,⟨.some 31,.mv (.tmp 9),.none,[],[]⟩,⟨.some 32,.mv (.tmp 1),.none,[],[]⟩,⟨.some 33,.bin .mul (.tmp 31) (.tmp 32),.none,[],[]⟩,⟨.some 34,.mv (.tmp 5),.none,[],[]⟩,⟨.some 35,.bin .rem (.tmp 33) (.tmp 34),.none,[],[]⟩,⟨.some 36,.iaddr (.some 3) 1 (.tmp 6) (.tmp 24),.none,[],[]⟩,⟨.none,.store 1 (.tmp 36) (.tmp 30),.none,[30],[]⟩,⟨.some 37,.iaddr (.some 3) 1 (.tmp 7) (.tmp 25),.none,[],[]⟩,⟨.none,.store 1 (.tmp 37) (.tmp 35),.none,[35],[]⟩])))
 (.cut [1,4,5,6,7,19,20] []
 (.reg false [⟨.some 38,.bin .add (.tmp 20) (.av (.int .i64 1)),.none,[],[]⟩,⟨.some 20,.mv (.tmp 38),.none,[],[]⟩]))))))
def l_mix_gases_share_2 : ACode := .loop (.cut [1,4,5,6,7,19,20] [] b_mix_gases_share_2)
@[simp] def t_mix_gases_share_1 : ACode :=
 (.cut [4,6] []
 (.seq (.reg false [⟨.some 61,.load true false 3 (.tmp 6),.none,[],[]⟩,⟨.none,.store 3 (.tmp 4) (.tmp 61),.none,[61],[]⟩])
 .ret))
@[simp] def t_mix_gases_share_2 : ACode :=
 (.cut [1,4,6,7] []
 (.seq (.reg false [⟨.some 39,.bslice false 1 3 [(.int .i64 0)] [(0,(.av (.int .i64 0))),(1,(.av (.int .i64 1))),(2,(.av (.int .i64 2)))],.none,[],[]⟩,⟨.some 10,.mv (.tmp 39),.none,[39],[]⟩])
 (.seq (.reg false [⟨.some 40,.mv (.tmp 10),.none,[],[]⟩,⟨.some 41,.mkfn n_mix_gases_share_c1 [(.tmp 7)],.none,[],[]⟩,⟨.some 42,.call (.av (.fn n_slices_SortStableFunc_int [])) [(.tmp 40),(.tmp 41)],.none,[],[]⟩])
 (.seq (.reg false [⟨.some 43,.mv (.tmp 1),.none,[],[]⟩,⟨.some 44,.load true false 3 (.tmp 6),.none,[],[]⟩,⟨.some 45,.call (.av (.fn n_mix_gases_sum [])) [(.tmp 44)],.none,[],[]⟩,⟨.some 46,.bin .sub (.tmp 43) (.tmp 45),.none,[],[]⟩,⟨.some 11,.mv (.tmp 46),.none,[],[]⟩])
 (.seq (.seq (.reg false [⟨.some 47,.mv (.tmp 10),.none,[],[]⟩,⟨.some 48,.mv (.tmp 11),.none,[],[]⟩,⟨.some 49,.slice (.slc 1) (.tmp 47) .none (.some (.tmp 48)) .none,.none,[],[]⟩,⟨.some 50,.len false (.tmp 49),.none,[],[]⟩,⟨.some 51,.mv (.av (.int .i64 0)),.none,[],[]⟩])
 (.block 2
 l_mix_gases_share_1))
 t_mix_gases_share_1)))))
def a_mix_gases_share : AFunc := ⟨62,
 (.seq (.reg false [⟨.some 2,.box true (.tmp 0),.none,[],[]⟩,⟨.some 4,.alloc [(.int .i64 0),(.int .i64 0),(.int .i64 0)],.none,[],[]⟩])
 (.seq (.reg false [⟨.some 14,.load true false 3 (.tmp 2),.none,[],[]⟩,⟨.some 15,.call (.av (.fn n_mix_gases_sum [])) [(.tmp 14)],.none,[],[]⟩,⟨.some 5,.mv (.tmp 15),.none,[],[]⟩])
 (.seq (.seq (.reg false [⟨.some 16,.mv (.tmp 5),.none,[],[]⟩,⟨.some 17,.bin .eql (.tmp 16) (.av (.int .i64 0)),.none,[],[]⟩])
 (.cond (.tmp 17)
 (.seq (.reg false [⟨.some 18,.build [(.int .i64 0),(.int .i64 0),(.int .i64 0)] [],.none,[],[]⟩,⟨.none,.store 3 (.tmp 4) (.tmp 18),.none,[18],[]⟩])
 .ret)
 .skip))
 (.cut [1,2,4,5] []
 (.seq (.reg false [⟨.some 6,.alloc [(.int .i64 0),(.int .i64 0),(.int .i64 0)],.none,[],[]⟩,⟨.some 7,.alloc [(.int .i64 0),(.int .i64 0),(.int .i64 0)],.none,[],[]⟩])
 (.seq (.seq (.reg false [⟨.some 19,.load true false 3 (.tmp 2),.none,[],[]⟩,⟨.some 20,.mv (.av (.int .i64 0)),.none,[],[]⟩])
 (.block 0
 l_mix_gases_share_2))
 t_mix_gases_share_2)))))),
 [.cell true 3 4], false⟩
theorem c_mix_gases_share : chkFunc Tryz.prog gl n_mix_gases_share a_mix_gases_share = true := by kernel_rfl
def a_mix_gases_less : AFunc := ⟨21,
 (.seq (.reg false [⟨.some 2,.box true (.tmp 0),.none,[],[]⟩,⟨.some 3,.box true (.tmp 1),.none,[],[]⟩,⟨.some 4,.alloc [(.int .i64 0),(.int .i64 0),(.int .i64 0)],.none,[],[]⟩])
 (.seq (.reg false [⟨.some 5,.iaddr (.some 3) 1 (.tmp 2) (.av (.int .i64 0)),.none,[],[]⟩,⟨.some 6,.load false false 1 (.tmp 5),.none,[],[]⟩,⟨.some 7,.iaddr (.some 3) 1 (.tmp 3) (.av (.int .i64 0)),.none,[],[]⟩,⟨.some 8,.load false false 1 (.tmp 7),.none,[],[]⟩,⟨.some 9,.bin .sub (.tmp 6) (.tmp 8),.none,[],[]⟩,⟨.some 10,.iaddr (.some 3) 1 (.tmp 2) (.av (.int .i64 1)),.none,[],[]⟩,⟨.some 11,.load false false 1 (.tmp 10),.none,[],[]⟩,⟨.some 12,.iaddr (.some 3) 1 (.tmp 3) (.av (.int .i64 1)),.none,[],[]⟩,⟨.some 13,.load false false 1 (.tmp 12),.none,[],[]⟩,⟨.some 14,.bin .sub (.tmp 11) (.tmp 13),.none,[],[]⟩,⟨.some 15,.iaddr (.some 3) 1 (.tmp 2) (.av (.int .i64 2)),.none,[],[]⟩,⟨.some 16,.load false false 1 (.tmp 15),.none,[],[]⟩,⟨.some 17,.iaddr (.some 3) 1 (.tmp 3) (.av (.int .i64 2)),.none,[],[]⟩,⟨.some 18,.load false false 1 (.tmp 17),.none,[],[]⟩,⟨.some 19,.bin .sub (.tmp 16) (.tmp 18),.none,[],[]⟩,⟨.some 20,.build [(.int .i64 0),(.int .i64 0),(.int .i64 0)] [(0,1,(.tmp 9)),(1,1,(.tmp 14)),(2,1,(.tmp 19))],.none,[],[]⟩,⟨.none,.store 3 (.tmp 4) (.tmp 20),.none,[20],[]⟩])
 .ret)),
 [.cell true 3 4], false⟩
theorem c_mix_gases_less : chkFunc Tryz.prog gl n_mix_gases_less a_mix_gases_less = true := by kernel_rfl
def a_mix_gases_plus : AFunc := ⟨21,
 (.seq (.reg false [⟨.some 2,.box true (.tmp 0),.none,[],[]⟩,⟨.some 3,.box true (.tmp 1),.none,[],[]⟩,⟨.some 4,.alloc [(.int .i64 0),(.int .i64 0),(.int .i64 0)],.none,[],[]⟩])
 (.seq (.reg false [⟨.some 5,.iaddr (.some 3) 1 (.tmp 2) (.av (.int .i64 0)),.none,[],[]⟩,⟨.some 6,.load false false 1 (.tmp 5),.none,[],[]⟩,⟨.some 7,.iaddr (.some 3) 1 (.tmp 3) (.av (.int .i64 0)),.none,[],[]⟩,⟨.some 8,.load false false 1 (.tmp 7),.none,[],[]⟩,⟨.some 9,.bin .add (.tmp 6) (.tmp 8),.none,[],[]⟩,⟨.some 10,.iaddr (.some 3) 1 (.tmp 2) (.av (.int .i64 1)),.none,[],[]⟩,⟨.some 11,.load false false 1 (.tmp 10),.none,[],[]⟩,⟨.some 12,.iaddr (.some 3) 1 (.tmp 3) (.av (.int .i64 1)),.none,[],[]⟩,⟨.some 13,.load false false 1 (.tmp 12),.none,[],[]⟩,⟨.some 14,.bin .add (.tmp 11) (.tmp 13),.none,[],[]⟩,⟨.some 15,.iaddr (.some 3) 1 (.tmp 2) (.av (.int .i64 2)),.none,[],[]⟩,⟨.some 16,.load false false 1 (.tmp 15),.none,[],[]⟩,⟨.some 17,.iaddr (.some 3) 1 (.tmp 3) (.av (.int .i64 2)),.none,[],[]⟩,⟨.some 18,.load false false 1 (.tmp 17),.none,[],[]⟩,⟨.some 19,.bin .add (.tmp 16) (.tmp 18),.none,[],[]⟩,⟨.some 20,.build [(.int .i64 0),(.int .i64 0),(.int .i64 0)] [(0,1,(.tmp 9)),(1,1,(.tmp 14)),(2,1,(.tmp 19))],.none,[],[]⟩,⟨.none,.store 3 (.tmp 4) (.tmp 20),.none,[20],[]⟩])
 .ret)),
 [.cell true 3 4], false⟩
theorem c_mix_gases_plus : chkFunc Tryz.prog gl n_mix_gases_plus a_mix_gases_plus = true := by kernel_rfl
def b_profile_CheckPlan_1 : ACode :=
 (.seq (.reg false [⟨.some 51,.bin .lss (.tmp 50) (.tmp 49),.none,[],[]⟩])
 (.seq (.cond (.tmp 51)
 .skip
 (.exit 3))
 (.cut [1,7,48,49,50] []
 (.seq (.block 4
 (.seq (.reg false [⟨.some 52,.mv (.tmp 50),.none,[],[]⟩,⟨.some 53,.iaddr .none 3 (.tmp 48) (.tmp 50),.none,[],[]⟩,⟨.some 54,.load true false 3 (.tmp 53),.none,[],[]⟩,⟨.some 9,.alloc [(.int .i64 0),(.int .i64 0),(.int .i64 0)],.none,[],[]⟩,⟨.some 8,.mv (.tmp 52),.none,[],[]⟩,⟨.none,.store 3 (.tmp 9) (.tmp 54),.none,[54],[]⟩])
 (.seq (.block 5
 (.seq (.reg false [⟨.some 56,.faddr 0 (.tmp 9),.none,[],[]⟩,⟨.some 57,.load false false 1 (.tmp 56),.none,[],[]⟩,⟨.some 58,.call (.av (.fn n_profile_within [])) [(.tmp 57),(.av (.int .i64 1)),(.av (.int .i64 1000000))],.none,[],[]⟩,⟨.some 59,.un .not (.tmp 58),.none,[],[]⟩,⟨.some 60,.mv (.tmp 59),.none,[],[]⟩,⟨.some 61,.faddr 1 (.tmp 9),.some (60,false),[],[]⟩,⟨.some 62,.load false false 1 (.tmp 61),.some (60,false),[],[]⟩,⟨.some 63,.call (.av (.fn n_profile_within [])) [(.tmp 62),(.av (.int .i64 0)),(.av (.int .i64 30000))],.some (60,false),[],[]⟩,⟨.some 64,.un .not (.tmp 63),.some (60,false),[],[]⟩,⟨.some 65,.pick (.tmp 60) (.av (.bool true)) (.tmp 64),.none,[],[]⟩,⟨.some 55,.mv (.tmp 65),.none,[],[]⟩])
 (.cond (.tmp 55)
 (.seq (.reg false [⟨.some 66,.mv (.tmp 8),.none,[],[]⟩,⟨.some 2,.mv (.tmp 66),.none,[],[]⟩,⟨.some 3,.mv (.av (.int .i64 2)),.none,[],[]⟩])
 .ret)
 (.seq (.reg false [⟨.some 68,.faddr 2 (.tmp 9),.none,[],[]⟩,⟨.some 69,.load false false 1 (.tmp 68),.none,[],[]⟩,⟨.some 70,.faddr 2 (.tmp 1),.none,[],[]⟩,⟨.some 71,.load false false 1 (.tmp 70),.none,[],[]⟩,⟨.some 72,.len false (.tmp 71),.none,[],[]⟩,⟨.some 73,.bin .sub (.tmp 72) (.av (.int .i64 1)),.none,[],[]⟩,⟨.some 74,.call (.av (.fn n_profile_within [])) [(.tmp 69),(.av (.int .i64 0)),(.tmp 73)],.none,[],[]⟩,⟨.some 75,.un .not (.tmp 74),.none,[],[]⟩,⟨.some 67,.mv (.tmp 75),.none,[],[]⟩])
 (.cond (.tmp 67)
 (.seq (.reg false [⟨.some 76,.mv (.tmp 8),.none,[],[]⟩,⟨.some 2,.mv (.tmp 76),.none,[],[]⟩,⟨.some 3,.mv (.av (.int .i64 6)),.none,[],[]⟩])
 .ret)
 .skip)))))
 (.cut [1,7,8,9,48,49,50] []
 (.seq (.reg false [⟨.some 77,.mv (.tmp 7),.none,[],[]⟩,⟨.some 78,.faddr 0 (.tmp 9),.none,[],[]⟩,⟨.some 79,.load false false 1 (.tmp 78),.none,[],[]⟩,⟨.some 80,.bin .add (.tmp 77) (.tmp 79),.none,[],[]⟩,⟨.some 7,.mv (.tmp 80),.none,[],[]⟩])
 (.seq (.reg false [⟨.some 81,.mv (.tmp 7),.none,[],[]⟩,⟨.some 82,.bin .gtr (.tmp 81) (.av (.int .i64 1000000)),.none,[],[]⟩])
 (.cond (.tmp 82)
 (.seq (.reg false [⟨.some 83,.mv (.tmp 8),.none,[],[]⟩,⟨.some 2,.mv (.tmp 83),.none,[],[]⟩,⟨.some 3,.mv (.av (.int .i64 8)),.none,[],[]⟩])
 .ret)
 .skip)))))))
 (.cut [1,7,48,49,50] []
 (.reg false [⟨.some 84,.bin .add (.tmp 50) (.av (.int .i64 1)),.none,[],[]⟩,⟨.some 50,.mv (.tmp 84),.none,[],[]⟩]))))))
def l_profile_CheckPlan_1 : ACode := .loop (.cut [1,7,48,49,50] [[9]] b_profile_CheckPlan_1)
def b_profile_CheckPlan_2 : ACode :=
 (.seq (.reg false [⟨.some 34,.bin .lss (.tmp 33) (.tmp 32),.none,[],[]⟩])
 (.seq (.cond (.tmp 34)
 .skip
 (.exit 1))
 (.cut [1,31,32,33] []
 (.seq (.block 2
 (.seq (.reg false [⟨.some 35,.iaddr .none 2 (.tmp 31) (.tmp 33),.none,[],[]⟩,⟨.some 36,.load true false 2 (.tmp 35),.none,[],[]⟩,⟨.some 5,.alloc [(.int .i64 0),(.int .i64 0)],.none,[],[]⟩,⟨.none,.store 2 (.tmp 5) (.tmp 36),.none,[36],[]⟩])
 (.seq (.reg false [⟨.some 37,.load true false 2 (.tmp 5),.none,[],[]⟩,⟨.some 38,.call (.av (.fn n_gas_CheckGas [])) [(.tmp 37)],.none,[],[]⟩,⟨.some 6,.mv (.tmp 38),.none,[],[]⟩])
 (.seq (.reg false [⟨.some 39,.mv (.tmp 6),.none,[],[]⟩,⟨.some 40,.bin .neq (.tmp 39) (.av (.int .i64 0)),.none,[],[]⟩])
 (.cond (.tmp 40)
 (.seq (.reg false [⟨.some 41,.mv (.tmp 6),.none,[],[]⟩,⟨.some 2,.mv (.av (.int .i64 0)),.none,[],[]⟩,⟨.some 3,.mv (.tmp 41),.none,[],[]⟩])
 .ret)
 .skip)))))
 (.cut [1,31,32,33] []
 (.reg false [⟨.some 42,.bin .add (.tmp 33) (.av (.int .i64 1)),.none,[],[]⟩,⟨.some 33,.mv (.tmp 42),.none,[],[]⟩]))))))
def l_profile_CheckPlan_2 : ACode := .loop (.cut [1,31,32,33] [[5]] b_profile_CheckPlan_2)
@[simp] def t_profile_CheckPlan_1 : ACode :=
 (.cut [] []
 (.seq (.reg false [⟨.some 2,.mv (.av (.int .i64 0)),.none,[],[]⟩,⟨.some 3,.mv (.av (.int .i64 0)),.none,[],[]⟩])
 .ret))
@[simp] def t_profile_CheckPlan_2 : ACode :=
 (.cut [1] []
 (.seq (.seq (.reg false [⟨.some 43,.faddr 3 (.tmp 1),.none,[],[]⟩,⟨.some 44,.load false false 1 (.tmp 43),.none,[],[]⟩,⟨.some 45,.len false (.tmp 44),.none,[],[]⟩,⟨.some 46,.bin .gtr (.tmp 45) (.av (.int .i64 60)),.none,[],[]⟩])
 (.cond (.tmp 46)
 (.seq (.reg false [⟨.some 2,.mv (.av (.int .i64 0)),.none,[],[]⟩,⟨.some 3,.mv (.av (.int .i64 8)),.none,[],[]⟩])
 .ret)
 .skip))
 (.cut [1] []
 (.seq (.reg false [⟨.some 7,.mv (.av (.int .i64 0)),.none,[],[]⟩])
 (.seq (.seq (.reg false [⟨.some 47,.faddr 3 (.tmp 1),.none,[],[]⟩,⟨.some 48,.load false false 1 (.tmp 47),.none,[],[]⟩,⟨.some 49,.len false (.tmp 48),.none,[],[]⟩,⟨.some 50,.mv (.av (.int .i64 0)),.none,[],[]⟩])
 (.block 3
 l_profile_CheckPlan_1))
 t_profile_CheckPlan_1)))))
def a_profile_CheckPlan : AFunc := ⟨85,
 (.seq (.reg false [⟨.some 1,.box true (.tmp 0),.none,[],[]⟩,⟨.some 2,.mv (.av (.int .i64 0)),.none,[],[]⟩,⟨.some 3,.mv (.av (.int .i64 0)),.none,[],[]⟩])
 (.seq (.block 0
 (.seq (.reg false [⟨.some 11,.faddr 0 (.tmp 1),.none,[],[]⟩,⟨.some 12,.load false false 1 (.tmp 11),.none,[],[]⟩,⟨.some 13,.call (.av (.fn n_profile_isName [])) [(.tmp 12)],.none,[],[]⟩,⟨.some 14,.un .not (.tmp 13),.none,[],[]⟩,⟨.some 10,.mv (.tmp 14),.none,[],[]⟩])
 (.cond (.tmp 10)
 (.seq (.reg false [⟨.some 2,.mv (.av (.int .i64 0)),.none,[],[]⟩,⟨.some 3,.mv (.av (.int .i64 4)),.none,[],[]⟩])
 .ret)
 (.seq (.reg false [⟨.some 16,.faddr 1 (.tmp 1),.none,[],[]⟩,⟨.some 17,.load false false 1 (.tmp 16),.none,[],[]⟩,⟨.some 18,.call (.av (.fn n_profile_within [])) [(.tmp 17),(.av (.int .i64 400)),(.av (.int .i64 1100))],.none,[],[]⟩,⟨.some 19,.un .not (.tmp 18),.none,[],[]⟩,⟨.some 15,.mv (.tmp 19),.none,[],[]⟩])
 (.cond (.tmp 15)
 (.seq (.reg false [⟨.some 2,.mv (.av (.int .i64 0)),.none,[],[]⟩,⟨.some 3,.mv (.av (.int .i64 2)),.none,[],[]⟩])
 .ret)
 (.seq (.reg false [⟨.some 21,.faddr 2 (.tmp 1),.none,[],[]⟩,⟨.some 22,.load false false 1 (.tmp 21),.none,[],[]⟩,⟨.some 23,.len false (.tmp 22),.none,[],[]⟩,⟨.some 24,.bin .eql (.tmp 23) (.av (.int .i64 0)),.none,[],[]⟩,⟨.some 20,.mv (.tmp 24),.none,[],[]⟩])
 (.cond (.tmp 20)
 (.seq (.reg false [⟨.some 2,.mv (.av (.int .i64 0)),.none,[],[]⟩,⟨.some 3,.mv (.av (.int .i64 10)),.none,[],[]⟩])
 .ret)
 (.seq (.reg false [⟨.some 26,.faddr 2 (.tmp 1),.none,[],[]⟩,⟨.some 27,.load false false 1 (.tmp 26),.none,[],[]⟩,⟨.some 28,.len false (.tmp 27),.none,[],[]⟩,⟨.some 29,.bin .gtr (.tmp 28) (.av (.int .i64 8)),.none,[],[]⟩,⟨.some 25,.mv (.tmp 29),.none,[],[]⟩])
 (.cond (.tmp 25)
 (.seq (.reg false [⟨.some 2,.mv (.av (.int .i64 0)),.none,[],[]⟩,⟨.some 3,.mv (.av (.int .i64 8)),.none,[],[]⟩])
 .ret)
 .skip)))))))))
 (.cut [1] []
 (.seq (.seq (.reg false [⟨.some 30,.faddr 2 (.tmp 1),.none,[],[]⟩,⟨.some 31,.load false false 1 (.tmp 30),.none,[],[]⟩,⟨.some 32,.len false (.tmp 31),.none,[],[]⟩,⟨.some 33,.mv (.av (.int .i64 0)),.none,[],[]⟩])
 (.block 1
 l_profile_CheckPlan_2))
 t_profile_CheckPlan_2)))),
 [.tmp 2,.tmp 3], false⟩
theorem c_profile_CheckPlan : chkFunc Tryz.prog gl n_profile_CheckPlan a_profile_CheckPlan = true := by kernel_rfl
def a_exposure_within : AFunc := ⟨15,
 (.seq (.reg false [⟨.some 6,.mv (.av (.bool false)),.none,[],[]⟩])
 (.seq (.reg false [⟨.some 7,.mv (.tmp 1),.none,[],[]⟩,⟨.some 8,.mv (.tmp 0),.none,[],[]⟩,⟨.some 9,.bin .leq (.tmp 7) (.tmp 8),.none,[],[]⟩,⟨.some 10,.mv (.tmp 9),.none,[],[]⟩,⟨.some 11,.mv (.tmp 0),.some (10,true),[],[]⟩,⟨.some 12,.mv (.tmp 2),.some (10,true),[],[]⟩,⟨.some 13,.bin .leq (.tmp 11) (.tmp 12),.some (10,true),[],[]⟩,⟨.some 14,.pick (.tmp 10) (.tmp 13) (.av (.bool false)),.none,[],[]⟩,⟨.some 6,.mv (.tmp 14),.none,[],[]⟩])
 .ret)),
 [.tmp 6], false⟩
theorem c_exposure_within : chkFunc Tryz.prog gl n_exposure_within a_exposure_within = true := by kernel_rfl
def a_exposure_up : AFunc := ⟨11,
 (.seq (.reg false [⟨.some 4,.mv (.av (.int .i64 0)),.none,[],[]⟩])
 (.seq (.reg false [⟨.some 5,.mv (.tmp 0),.none,[],[]⟩,⟨.some 6,.mv (.tmp 1),.none,[],[]⟩,⟨.some 7,.bin .add (.tmp 5) (.tmp 6),.none,[],[]⟩,⟨.some 8,.bin .sub (.tmp 7) (.av (.int .i64 1)),.none,[],[]⟩,⟨.some 9,.mv (.tmp 1),.none,[],[]⟩,⟨.some 10,.bin .quo (.tmp 8) (.tmp 9),.none,[],[]⟩,⟨.some 4,.mv (.tmp 10),.none,[],[]⟩])
 .ret)),
 [.tmp 4], false⟩
theorem c_exposure_up : chkFunc Tryz.prog gl n_exposure_up a_exposure_up = true := by kernel_rfl
def b_slices_IndexFunc_api_DivePlan_1 : ACode :=
 (.seq (.reg false [⟨.some 9,.bin .lss (.tmp 8) (.tmp 7),.none,[],[]⟩])
 (.seq (.cond (.tmp 9)
 .skip
 (.exit 0))
 (.cut [0,1,7,8] []
 (.seq (.block 1
 (.seq (.reg false [⟨.some 10,.mv (.tmp 8),.none,[],[]⟩,⟨.some 5,.mv (.tmp 10),.none,[],[]⟩])
 (.seq (.reg false [⟨.some 11,.mv (.tmp 1),.none,[],[]⟩,⟨.some 12,.mv (.tmp 0),.none,[],[]⟩,⟨.some 13,.mv (.tmp 5),.none,[],[]⟩,⟨.some 14,.iaddr .none 4 (.tmp 12) (.tmp 13),.none,[],[]⟩,⟨.some 15,.load true false 4 (.tmp 14),.none,[],[]⟩,⟨.some 16,.call (.tmp 11) [(.tmp 15)],.none,[],[]⟩])
 (.cond (.tmp 16)
 (.seq (.reg false [⟨.some 17,.mv (.tmp 5),.none,[],[]⟩,⟨.some 4,.mv (.tmp 17),.none,[],[]⟩])
 .ret)
 .skip))))
 (.cut [0,1,7,8] []
 (.reg false [⟨.some 18,.bin .add (.tmp 8) (.av (.int .i64 1)),.none,[],[]⟩,⟨.some 8,.mv (.tmp 18),.none,[],[]⟩]))))))
def l_slices_IndexFunc_api_DivePlan_1 : ACode := .loop (.cut [0,1,7,8] [] b_slices_IndexFunc_api_DivePlan_1)
@[simp] def t_slices_IndexFunc_api_DivePlan_1 : ACode :=
 (.cut [] []
 (.seq (.reg false [⟨.some 4,.mv (.av (.int .i64 (-1))),.none,[],[]⟩])
 .ret))
def a_slices_IndexFunc_api_DivePlan : AFunc := ⟨19,
 (.seq (.reg false [⟨.some 4,.mv (.av (.int .i64 0)),.none,[],[]⟩])
 (.seq (.seq (.reg false [⟨.some 6,.mv (.tmp 0),.none,[],[]⟩,⟨.some 7,.len false (.tmp 6),.none,[],[]⟩,⟨.some 8,.mv (.av (.int .i64 0)),.none,[],[]⟩])
 (.block 0
 l_slices_IndexFunc_api_DivePlan_1))
 t_slices_IndexFunc_api_DivePlan_1)),
 [.tmp 4], false⟩
theorem c_slices_IndexFunc_api_DivePlan : chkFunc Tryz.prog gl n_slices_IndexFunc_api_DivePlan a_slices_IndexFunc_api_DivePlan = true := by kernel_rfl
def a_desk_world_plan_c1 : AFunc := ⟨8,
 (.seq (.reg false [⟨.some 2,.box true (.tmp 0),.none,[],[]⟩,⟨.some 3,.mv (.av (.bool false)),.none,[],[]⟩])
 (.seq (.reg false [⟨.some 4,.faddr 0 (.tmp 2),.none,[],[]⟩,⟨.some 5,.load false false 1 (.tmp 4),.none,[],[]⟩,⟨.some 6,.load false false 1 (.tmp 1),.none,[],[]⟩,⟨.some 7,.bin .eql (.tmp 5) (.tmp 6),.none,[],[]⟩,⟨.some 3,.mv (.tmp 7),.none,[],[]⟩])
 .ret)),
 [.tmp 3], false⟩
theorem c_desk_world_plan_c1 : chkFunc Tryz.prog gl n_desk_world_plan_c1 a_desk_world_plan_c1 = true := by kernel_rfl
def a_kit_within : AFunc := ⟨15,
 (.seq (.reg false [⟨.some 6,.mv (.av (.bool false)),.none,[],[]⟩])
 (.seq (.reg false [⟨.some 7,.mv (.tmp 0),.none,[],[]⟩,⟨.some 8,.mv (.tmp 1),.none,[],[]⟩,⟨.some 9,.bin .geq (.tmp 7) (.tmp 8),.none,[],[]⟩,⟨.some 10,.mv (.tmp 9),.none,[],[]⟩,⟨.some 11,.mv (.tmp 0),.some (10,true),[],[]⟩,⟨.some 12,.mv (.tmp 2),.some (10,true),[],[]⟩,⟨.some 13,.bin .leq (.tmp 11) (.tmp 12),.some (10,true),[],[]⟩,⟨.some 14,.pick (.tmp 10) (.tmp 13) (.av (.bool false)),.none,[],[]⟩,⟨.some 6,.mv (.tmp 14),.none,[],[]⟩])
 .ret)),
 [.tmp 6], false⟩
theorem c_kit_within : chkFunc Tryz.prog gl n_kit_within a_kit_within = true := by kernel_rfl
def a_gas_CheckLimits : AFunc := ⟨20,
 (.seq (.reg false [⟨.some 1,.box true (.tmp 0),.none,[],[]⟩,⟨.some 2,.mv (.av (.int .i64 0)),.none,[],[]⟩])
 (.seq (.seq (.reg true [⟨.some 4,.faddr 0 (.tmp 1),.none,[],[]⟩,⟨.some 5,.load false false 1 (.tmp 4),.none,[],[]⟩,⟨.some 6,.call (.av (.fn n_gas_bound [])) [(.tmp 5),(.av (.int .i64 1)),(.av (.int .i64 4000))],.none,[],[2]⟩,⟨.some 7,.faddr 1 (.tmp 1),.none,[],[]⟩,⟨.some 8,.load false false 1 (.tmp 7),.none,[],[]⟩,⟨.some 9,.call (.av (.fn n_gas_bound [])) [(.tmp 8),(.av (.int .i64 1)),(.av (.int .i64 4000))],.none,[],[]⟩,⟨.some 10,.bslice true 1 2 [(.int .i64 0)] [(0,(.tmp 6)),(1,(.tmp 9))],.none,[],[]⟩,⟨.some 11,.call (.av (.fn n_gas_first [])) [(.tmp 10)],.none,[],[]⟩,⟨.some 3,.mv (.tmp 11),.none,[],[]⟩])
 (.seq (.reg false [⟨.some 12,.mv (.tmp 3),.none,[],[]⟩,⟨.some 13,.bin .neq (.tmp 12) (.av (.int .i64 0)),.none,[],[]⟩])
 (.cond (.tmp 13)
 (.seq (.reg false [⟨.some 14,.mv (.tmp 3),.none,[],[]⟩,⟨.some 2,.mv (.tmp 14),.none,[],[]⟩])
 .ret)
 .skip)))
 (.cut [1] []
 (.seq (.seq (.reg false [⟨.some 15,.faddr 0 (.tmp 1),.none,[],[]⟩,⟨.some 16,.load false false 1 (.tmp 15),.none,[],[]⟩,⟨.some 17,.faddr 1 (.tmp 1),.none,[],[]⟩,⟨.some 18,.load false false 1 (.tmp 17),.none,[],[]⟩,⟨.some 19,.bin .gtr (.tmp 16) (.tmp 18),.none,[],[]⟩])
 (.cond (.tmp 19)
 (.seq (.reg false [⟨.some 2,.mv (.av (.int .i64 9)),.none,[],[]⟩])
 .ret)
 .skip))
 (.cut [] []
 (.seq (.reg false [⟨.some 2,.mv (.av (.int .i64 0)),.none,[],[]⟩])
 .ret)))))),
 [.tmp 2], false⟩
theorem c_gas_CheckLimits : chkFunc Tryz.prog gl n_gas_CheckLimits a_gas_CheckLimits = true := by kernel_rfl
def a_tissue_within : AFunc := ⟨15,
 (.seq (.reg false [⟨.some 6,.mv (.av (.bool false)),.none,[],[]⟩])
 (.seq (.reg false [⟨.some 7,.mv (.tmp 1),.none,[],[]⟩,⟨.some 8,.mv (.tmp 0),.none,[],[]⟩,⟨.some 9,.bin .leq (.tmp 7) (.tmp 8),.none,[],[]⟩,⟨.some 10,.mv (.tmp 9),.none,[],[]⟩,⟨.some 11,.mv (.tmp 0),.some (10,true),[],[]⟩,⟨.some 12,.mv (.tmp 2),.some (10,true),[],[]⟩,⟨.some 13,.bin .leq (.tmp 11) (.tmp 12),.some (10,true),[],[]⟩,⟨.some 14,.pick (.tmp 10) (.tmp 13) (.av (.bool false)),.none,[],[]⟩,⟨.some 6,.mv (.tmp 14),.none,[],[]⟩])
 .ret)),
 [.tmp 6], false⟩
theorem c_tissue_within : chkFunc Tryz.prog gl n_tissue_within a_tissue_within = true := by kernel_rfl
def a_tissue_isCompartment : AFunc := ⟨21,
 (.seq (.reg false [⟨.some 1,.box true (.tmp 0),.none,[],[]⟩,⟨.some 2,.mv (.av (.bool false)),.none,[],[]⟩])
 (.seq (.reg false [⟨.some 3,.faddr 0 (.tmp 1),.none,[],[]⟩,⟨.some 4,.load false false 1 (.tmp 3),.none,[],[]⟩,⟨.some 5,.call (.av (.fn n_tissue_within [])) [(.tmp 4),(.av (.int .i64 1)),(.av (.int .i64 100000))],.none,[],[]⟩,⟨.some 6,.mv (.tmp 5),.none,[],[]⟩,⟨.some 7,.faddr 1 (.tmp 1),.some (6,true),[],[]⟩,⟨.some 8,.load false false 1 (.tmp 7),.some (6,true),[],[]⟩,⟨.some 9,.call (.av (.fn n_tissue_within [])) [(.tmp 8),(.av (.int .i64 1)),(.av (.int .i64 100000))],.some (6,true),[],[]⟩,⟨.some 10,.pick (.tmp 6) (.tmp 9) (.av (.bool false)),.none,[],[]⟩,⟨.some 11,.mv (.tmp 10),.none,[],[]⟩,⟨.some 12,.faddr 2 (.tmp 1),.some (11,true),[],[]⟩,⟨.some 13,.load false false 1 (.tmp 12),.some (11,true),[],[]⟩,⟨.some 14,.call (.av (.fn n_tissue_within [])) [(.tmp 13),(.av (.int .i64 0)),(.av (.int .i64 10000))],.some (11,true),[],[]⟩,⟨.some 15,.pick (.tmp 11) (.tmp 14) (.av (.bool false)),.none,[],[]⟩,⟨.some 16,.mv (.tmp 15),.none,[],[]⟩,⟨.some 17,.faddr 3 (.tmp 1),.some (16,true),[],[]⟩,⟨.some 18,.load false false 1 (.tmp 17),.some (16,true),[],[]⟩,⟨.some 19,.call (.av (.fn n_tissue_within [])) [(.tmp 18),(.av (.int .i64 1000)),(.av (.int .i64 10000))],.some (16,true),[],[]⟩,⟨.some 20,.pick (.tmp 16) (.tmp 19) (.av (.bool false)),.none,[],[]⟩,⟨.some 2,.mv (.tmp 20),.none,[],[]⟩])
 .ret)),
 [.tmp 2], false⟩
theorem c_tissue_isCompartment : chkFunc Tryz.prog gl n_tissue_isCompartment a_tissue_isCompartment = true := by kernel_rfl
def a_internal_stringslite_Cut : AFunc := ⟨23,
 (.seq (.reg false [⟨.some 4,.mv (.av (.str [])),.none,[],[]⟩,⟨.some 5,.mv (.av (.str [])),.none,[],[]⟩,⟨.some 6,.mv (.av (.bool false)),.none,[],[]⟩])
 (.seq (.seq (.reg false [⟨.some 8,.mv (.tmp 0),.none,[],[]⟩,⟨.some 9,.mv (.tmp 1),.none,[],[]⟩,⟨.some 10,.call (.av (.fn n_internal_stringslite_Index [])) [(.tmp 8),(.tmp 9)],.none,[],[]⟩,⟨.some 7,.mv (.tmp 10),.none,[],[]⟩])
 (.seq (.reg false [⟨.some 11,.mv (.tmp 7),.none,[],[]⟩,⟨.some 12,.bin .geq (.tmp 11) (.av (.int .i64 0)),.none,[],[]⟩])
 (.cond (.tmp 12)
 (.seq (.reg true [⟨.some 13,.mv (.tmp 0),.none,[],[]⟩,⟨.some 14,.mv (.tmp 7),.none,[],[]⟩,⟨.some 15,.slice .str (.tmp 13) .none (.some (.tmp 14)) .none,.none,[],[]⟩,⟨.some 16,.mv (.tmp 0),.none,[],[]⟩,⟨.some 17,.mv (.tmp 7),.none,[],[]⟩,⟨.some 18,.mv (.tmp 1),.none,[],[]⟩,⟨.some 19,.len true (.tmp 18),.none,[],[]⟩,⟨.some 20,.bin .add (.tmp 17) (.tmp 19),.none,[],[]⟩,⟨.some 21,.slice .str (.tmp 16) (.some (.tmp 20)) .none .none,.none,[],[]⟩,⟨.some 4,.mv (.tmp 15),.none,[],[]⟩,⟨.some 5,.mv (.tmp 21),.none,[],[]⟩,⟨.some 6,.mv (.av (.bool true)),.none,[],[]⟩])
 .ret)
 .skip)))
 (.cut [0] []
 (.seq (.reg false [⟨.some 22,.mv (.tmp 0),.none,[],[]⟩,⟨.some 4,.mv (.tmp 22),.none,[],[]⟩,⟨.some 5,.mv (.av (.str [])),.none,[],[]⟩,⟨.some 6,.mv (.av (.bool false)),.none,[],[]⟩])
 .ret)))),
 [.tmp 4,.tmp 5,.tmp 6], false⟩
theorem c_internal_stringslite_Cut : chkFunc Tryz.prog gl n_internal_stringslite_Cut a_internal_stringslite_Cut = true := by kernel_rfl
def b_slices_Index_int_1 : ACode :=
 (.seq (.reg false [⟨.some 9,.bin .lss (.tmp 8) (.tmp 7),.none,[],[]⟩])
 (.seq (.cond (.tmp 9)
 .skip
 (.exit 0))
 (.cut [0,1,7,8] []
 (.seq (.block 1
 (.seq (.reg false [⟨.some 10,.mv (.tmp 8),.none,[],[]⟩,⟨.some 5,.mv (.tmp 10),.none,[],[]⟩])
 (.seq (.reg false [⟨.some 11,.mv (.tmp 1),.none,[],[]⟩,⟨.some 12,.mv (.tmp 0),.none,[],[]⟩,⟨.some 13,.mv (.tmp 5),.none,[],[]⟩,⟨.some 14,.iaddr .none 1 (.tmp 12) (.tmp 13),.none,[],[]⟩,⟨.some 15,.load false false 1 (.tmp 14),.none,[],[]⟩,⟨.some 16,.bin .eql (.tmp 11) (.tmp 15),.none,[],[]⟩])
 (.cond (.tmp 16)
 (.seq (.reg false [⟨.some 17,.mv (.tmp 5),.none,[],[]⟩,⟨.some 4,.mv (.tmp 17),.none,[],[]⟩])
 .ret)
 .skip))))
 (.cut [0,1,7,8] []
 (.reg false [⟨.some 18,.bin .add (.tmp 8) (.av (.int .i64 1)),.none,[],[]⟩,⟨.some 8,.mv (.tmp 18),.none,[],[]⟩]))))))
def l_slices_Index_int_1 : ACode := .loop (.cut [0,1,7,8] [] b_slices_Index_int_1)
@[simp] def t_slices_Index_int_1 : ACode :=
 (.cut [] []
 (.seq (.reg false [⟨.some 4,.mv (.av (.int .i64 (-1))),.none,[],[]⟩])
 .ret))
def a_slices_Index_int : AFunc := ⟨19,
 (.seq (.reg false [⟨.some 4,.mv (.av (.int .i64 0)),.none,[],[]⟩])
 (.seq (.seq (.reg false [⟨.some 6,.mv (.tmp 0),.none,[],[]⟩,⟨.some 7,.len false (.tmp 6),.none,[],[]⟩,⟨.some 8,.mv (.av (.int .i64 0)),.none,[],[]⟩])
 (.block 0
 l_slices_Index_int_1))
 t_slices_Index_int_1)),
 [.tmp 4], false⟩
theorem c_slices_Index_int : chkFunc Tryz.prog gl n_slices_Index_int a_slices_Index_int = true := by kernel_rfl
def a_mix_ParseFill : AFunc := ⟨20,
 (.seq (.reg false [⟨.some 2,.alloc [(.int .i64 0),(.int .i64 0),(.str []),(.str []),(.int .i64 0),(.int .i64 0),(.int .i64 0),(.bool false)],.none,[],[]⟩,⟨.some 3,.mv (.av (.int .i64 0)),.none,[],[]⟩])
 (.seq (.reg false [⟨.some 7,.mv (.tmp 0),.none,[],[]⟩,⟨.some 8,.call (.av (.fn n_strings_Split [])) [(.tmp 7),(.av (.str [32]))],.none,[],[]⟩,⟨.some 9,.call (.av (.fn n_mix_fillOf [])) [(.tmp 8)],.none,[],[]⟩,⟨.some 6,.mv (.tmp 9),.none,[],[]⟩,⟨.some 10,.extract (.tmp 6) 0,.none,[],[]⟩,⟨.some 11,.extract (.tmp 6) 1,.none,[],[]⟩,⟨.some 4,.alloc [(.int .i64 0),(.int .i64 0),(.str []),(.str []),(.int .i64 0),(.int .i64 0),(.int .i64 0),(.bool false)],.none,[],[]⟩,⟨.none,.store 8 (.tmp 4) (.tmp 10),.none,[10],[]⟩,⟨.some 5,.mv (.tmp 11),.none,[],[]⟩])
 (.seq (.seq (.reg false [⟨.some 12,.mv (.tmp 5),.none,[],[]⟩,⟨.some 13,.un .not (.tmp 12),.none,[],[]⟩,⟨.some 14,.mv (.tmp 13),.none,[],[]⟩,⟨.some 15,.mv (.tmp 0),.some (14,false),[],[]⟩,⟨.some 16,.call (.av (.fn n_strings_Contains [])) [(.tmp 15),(.av (.str [10]))],.some (14,false),[],[]⟩,⟨.some 17,.pick (.tmp 14) (.av (.bool true)) (.tmp 16),.none,[],[]⟩])
 (.cond (.tmp 17)
 (.seq (.reg false [⟨.some 18,.build [(.int .i64 0),(.int .i64 0),(.str []),(.str []),(.int .i64 0),(.int .i64 0),(.int .i64 0),(.bool false)] [],.none,[],[]⟩,⟨.none,.store 8 (.tmp 2) (.tmp 18),.none,[18],[]⟩,⟨.some 3,.mv (.av (.int .i64 7)),.none,[],[]⟩])
 .ret)
 .skip))
 (.cut [2,4] []
 (.seq (.reg false [⟨.some 19,.load true false 8 (.tmp 4),.none,[],[]⟩,⟨.none,.store 8 (.tmp 2) (.tmp 19),.none,[19],[]⟩,⟨.some 3,.mv (.av (.int .i64 0)),.none,[],[]⟩])
 .ret))))),
 [.cell true 8 2,.tmp 3], false⟩
theorem c_mix_ParseFill : chkFunc Tryz.prog gl n_mix_ParseFill a_mix_ParseFill = true := by kernel_rfl
def r_profile_ParsePlanLine_1_1 : List AOper :=
 [⟨.some 103,.mv (.tmp 13),.none,[],[]⟩,⟨.some 104,.iaddr .none 1 (.tmp 103) (.av (.int .i64 2)),.none,[],[]⟩,⟨.some 105,.load false false 1 (.tmp 104),.none,[],[1]⟩,⟨.some 106,.build [(.int .i64 0),(.int .i64 0),(.int .i64 0)] [(0,1,(.tmp 99)),(1,1,(.tmp 102)),(2,1,(.tmp 105))],.none,[],[]⟩,⟨.some 107,.bslice true 3 1 [(.int .i64 0),(.int .i64 0),(.int .i64 0)] [(0,(.tmp 106))],.none,[],[]⟩,⟨.some 108,.append 3 24 (.tmp 96) (.tmp 107),.none,[96],[]⟩,⟨.some 109,.faddr 3 (.tmp 9),.none,[],[]⟩,⟨.none,.store 1 (.tmp 109) (.tmp 108),.none,[108],[]⟩]
def g_profile_ParsePlanLine_1 : ACode :=
 (.reg false [⟨.some 13,.mv (.tmp 94),.none,[94],[]⟩])
def y_profile_ParsePlanLine_1 : ACode :=
 (.block 3 (.reg true (⟨.some 95,.faddr 3 (.tmp 9),.none,[],[]⟩ ::
 ⟨.some 96,.load false true 1 (.tmp 95),.none,[],[]⟩ ::
 ⟨.some 97,.mv (.tmp 13),.none,[],[]⟩ ::
 ⟨.some 98,.iaddr .none 1 (.tmp 97) (.av (.int .i64 0)),.none,[],[]⟩ ::
 ⟨.some 99,.load false false 1 (.tmp 98),.none,[],[1]⟩ ::
 ⟨.some 100,.mv (.tmp 13),.none,[],[]⟩ ::
 ⟨.some 101,.iaddr .none 1 (.tmp 100) (.av (.int .i64 1)),.none,[],[]⟩ ::
 ⟨.some 102,.load false false 1 (.tmp 101),.none,[],[1]⟩ ::
 r_profile_ParsePlanLine_1_1)))
def r_profile_ParsePlanLine_2_1 : List AOper :=
 [⟨.some 88,.build [(.int .i64 0),(.int .i64 0)] [(0,1,(.tmp 84)),(1,1,(.tmp 87))],.none,[],[]⟩,⟨.some 89,.bslice true 2 1 [(.int .i64 0),(.int .i64 0)] [(0,(.tmp 88))],.none,[],[]⟩,⟨.some 90,.append 2 16 (.tmp 81) (.tmp 89),.none,[81],[]⟩,⟨.some 91,.faddr 2 (.tmp 9),.none,[],[]⟩,⟨.none,.store 1 (.tmp 91) (.tmp 90),.none,[90],[]⟩]
def g_profile_ParsePlanLine_2 : ACode :=
 (.reg false [⟨.some 12,.mv (.tmp 79),.none,[79],[]⟩])
def y_profile_ParsePlanLine_2 : ACode :=
 (.block 1 (.reg true (⟨.some 80,.faddr 2 (.tmp 9),.none,[],[]⟩ ::
 ⟨.some 81,.load false true 1 (.tmp 80),.none,[],[]⟩ ::
 ⟨.some 82,.mv (.tmp 12),.none,[],[]⟩ ::
 ⟨.some 83,.iaddr .none 1 (.tmp 82) (.av (.int .i64 0)),.none,[],[]⟩ ::
 ⟨.some 84,.load false false 1 (.tmp 83),.none,[],[1]⟩ ::
 ⟨.some 85,.mv (.tmp 12),.none,[],[]⟩ ::
 ⟨.some 86,.iaddr .none 1 (.tmp 85) (.av (.int .i64 1)),.none,[],[]⟩ ::
 ⟨.some 87,.load false false 1 (.tmp 86),.none,[],[1]⟩ ::
 r_profile_ParsePlanLine_2_1)))
def a_profile_ParsePlanLine : AFunc := ⟨118,
 (.seq (.reg false [⟨.some 2,.alloc [(.str []),(.int .i64 0),.nils,.nils],.none,[],[]⟩,⟨.some 3,.mv (.av (.int .i64 0)),.none,[],[]⟩])
 (.seq (.reg false [⟨.some 16,.mv (.tmp 0),.none,[],[]⟩,⟨.some 17,.call (.av (.fn n_strings_Cut [])) [(.tmp 16),(.av (.str [32]))],.none,[],[]⟩,⟨.some 15,.mv (.tmp 17),.none,[],[]⟩,⟨.some 18,.extract (.tmp 15) 0,.none,[],[]⟩,⟨.some 19,.extract (.tmp 15) 1,.none,[],[]⟩,⟨.some 20,.extract (.tmp 15) 2,.none,[],[]⟩,⟨.some 4,.mv (.tmp 18),.none,[],[]⟩,⟨.some 5,.mv (.tmp 19),.none,[],[]⟩,⟨.some 6,.mv (.tmp 20),.none,[],[]⟩])
 (.seq (.reg false [⟨.some 22,.mv (.tmp 5),.none,[],[]⟩,⟨.some 23,.call (.av (.fn n_strings_Split [])) [(.tmp 22),(.av (.str [32]))],.none,[],[]⟩,⟨.some 24,.call (.av (.fn n_profile_numbers [])) [(.tmp 23)],.none,[],[]⟩,⟨.some 21,.mv (.tmp 24),.none,[],[]⟩,⟨.some 25,.extract (.tmp 21) 0,.none,[],[]⟩,⟨.some 26,.extract (.tmp 21) 1,.none,[],[]⟩,⟨.some 7,.mv (.tmp 25),.none,[25],[]⟩,⟨.some 8,.mv (.tmp 26),.none,[],[]⟩])
 (.seq (.seq (.reg false [⟨.some 27,.mv (.tmp 8),.none,[],[]⟩,⟨.some 28,.un .not (.tmp 27),.none,[],[]⟩,⟨.some 29,.mv (.tmp 28),.none,[],[]⟩,⟨.some 30,.mv (.tmp 7),.some (29,false),[],[]⟩,⟨.some 31,.len false (.tmp 30),.some (29,false),[],[]⟩,⟨.some 32,.bin .lss (.tmp 31) (.av (.int .i64 2)),.some (29,false),[],[]⟩,⟨.some 33,.pick (.tmp 29) (.av (.bool true)) (.tmp 32),.none,[],[]⟩,⟨.some 34,.mv (.tmp 33),.none,[],[]⟩,⟨.some 35,.mv (.tmp 7),.some (34,false),[],[]⟩,⟨.some 36,.iaddr .none 1 (.tmp 35) (.av (.int .i64 1)),.some (34,false),[],[]⟩,⟨.some 37,.load false false 1 (.tmp 36),.some (34,false),[],[]⟩,⟨.some 38,.mv (.tmp 7),.some (34,false),[],[]⟩,⟨.some 39,.len false (.tmp 38),.some (34,false),[],[]⟩,⟨.some 40,.bin .sub (.tmp 39) (.av (.int .i64 2)),.some (34,false),[],[]⟩,⟨.some 41,.bin .quo (.tmp 40) (.av (.int .i64 2)),.some (34,false),[],[]⟩,⟨.some 42,.call (.av (.fn n_profile_within [])) [(.tmp 37),(.av (.int .i64 0)),(.tmp 41)],.some (34,false),[],[]⟩,⟨.some 43,.un .not (.tmp 42),.some (34,false),[],[]⟩,⟨.some 44,.pick (.tmp 34) (.av (.bool true)) (.tmp 43),.none,[],[]⟩,⟨.some 45,.mv (.tmp 44),.none,[],[]⟩,⟨.some 46,.mv (.tmp 7),.some (45,false),[],[]⟩,⟨.some 47,.len false (.tmp 46),.some (45,false),[],[]⟩,⟨.some 48,.bin .sub (.tmp 47) (.av (.int .i64 2)),.some (45,false),[],[]⟩,⟨.some 49,.mv (.tmp 7),.some (45,false),[],[]⟩,⟨.some 50,.iaddr .none 1 (.tmp 49) (.av (.int .i64 1)),.some (45,false),[],[]⟩,⟨.some 51,.load false false 1 (.tmp 50),.some (45,false),[],[]⟩,⟨.some 52,.bin .mul (.av (.int .i64 2)) (.tmp 51),.some (45,false),[],[]⟩,⟨.some 53,.bin .sub (.tmp 48) (.tmp 52),.some (45,false),[],[]⟩,⟨.some 54,.bin .rem (.tmp 53) (.av (.int .i64 3)),.some (45,false),[],[]⟩,⟨.some 55,.bin .neq (.tmp 54) (.av (.int .i64 0)),.some (45,false),[],[]⟩,⟨.some 56,.pick (.tmp 45) (.av (.bool true)) (.tmp 55),.none,[],[]⟩])
 (.cond (.tmp 56)
 (.seq (.reg false [⟨.some 57,.build [(.str []),(.int .i64 0),.nils,.nils] [],.none,[],[]⟩,⟨.none,.store 4 (.tmp 2) (.tmp 57),.none,[57],[]⟩,⟨.some 3,.mv (.av (.int .i64 7)),.none,[],[]⟩])
 .ret)
 .skip))
 (.cut [2,4,7] []
 (.seq (.reg false [⟨.some 58,.mv (.tmp 4),.none,[],[]⟩,⟨.some 59,.mv (.tmp 7),.none,[],[]⟩,⟨.some 60,.iaddr .none 1 (.tmp 59) (.av (.int .i64 0)),.none,[],[]⟩,⟨.some 61,.load false false 1 (.tmp 60),.none,[],[]⟩,⟨.some 62,.build [(.str []),(.int .i64 0),.nils,.nils] [(0,1,(.tmp 58)),(1,1,(.tmp 61))],.none,[],[]⟩,⟨.some 9,.alloc [(.str []),(.int .i64 0),.nils,.nils],.none,[],[]⟩,⟨.none,.store 4 (.tmp 9) (.tmp 62),.none,[62],[]⟩])
 (.seq (.reg true [⟨.some 63,.mv (.tmp 7),.none,[],[]⟩,⟨.some 64,.mv (.tmp 7),.none,[],[]⟩,⟨.some 65,.iaddr .none 1 (.tmp 64) (.av (.int .i64 1)),.none,[],[]⟩,⟨.some 66,.load false false 1 (.tmp 65),.none,[],[]⟩,⟨.some 67,.bin .mul (.av (.int .i64 2)) (.tmp 66),.none,[],[]⟩,⟨.some 68,.bin .add (.av (.int .i64 2)) (.tmp 67),.none,[],[]⟩,⟨.some 69,.slice (.slc 1) (.tmp 63) (.some (.av (.int .i64 2))) (.some (.tmp 68)) .none,.none,[],[]⟩,⟨.some 70,.mv (.tmp 7),.none,[],[]⟩,⟨.some 71,.mv (.tmp 7),.none,[],[]⟩,⟨.some 72,.iaddr .none 1 (.tmp 71) (.av (.int .i64 1)),.none,[],[]⟩,⟨.some 73,.load false false 1 (.tmp 72),.none,[],[]⟩,⟨.some 74,.bin .mul (.av (.int .i64 2)) (.tmp 73),.none,[],[]⟩,⟨.some 75,.bin .add (.av (.int .i64 2)) (.tmp 74),.none,[],[]⟩,⟨.some 76,.slice (.slc 1) (.tmp 70) (.some (.tmp 75)) .none .none,.none,[],[]⟩,⟨.some 10,.mv (.tmp 69),.none,[69],[]⟩,⟨.some 11,.mv (.tmp 76),.none,[76],[]⟩])
 (.seq (.rangeI 0 [⟨.some 77,.mv (.tmp 10),.none,[],[]⟩] 194 [(.tmp 77),(.av (.int .i64 2))] 78 [79] g_profile_ParsePlanLine_2 y_profile_ParsePlanLine_2)
 (.cut [2,9,11] []
 (.seq (.rangeI 2 [⟨.some 92,.mv (.tmp 11),.none,[],[]⟩] 194 [(.tmp 92),(.av (.int .i64 3))] 93 [94] g_profile_ParsePlanLine_1 y_profile_ParsePlanLine_1)
 (.cut [2,9] []
 (.seq (.seq (.reg false [⟨.some 110,.load true false 4 (.tmp 9),.none,[],[]⟩,⟨.some 111,.bslice true 4 1 [(.str []),(.int .i64 0),.nils,.nils] [(0,(.tmp 110))],.none,[],[]⟩,⟨.some 112,.call (.av (.fn n_profile_check [])) [(.tmp 111)],.none,[],[]⟩,⟨.some 14,.mv (.tmp 112),.none,[],[]⟩])
 (.seq (.reg false [⟨.some 113,.mv (.tmp 14),.none,[],[]⟩,⟨.some 114,.bin .neq (.tmp 113) (.av (.int .i64 0)),.none,[],[]⟩])
 (.cond (.tmp 114)
 (.seq (.reg false [⟨.some 115,.build [(.str []),(.int .i64 0),.nils,.nils] [],.none,[],[]⟩,⟨.some 116,.mv (.tmp 14),.none,[],[]⟩,⟨.none,.store 4 (.tmp 2) (.tmp 115),.none,[115],[]⟩,⟨.some 3,.mv (.tmp 116),.none,[],[]⟩])
 .ret)
 .skip)))
 (.cut [2,9] []
 (.seq (.reg false [⟨.some 117,.load true false 4 (.tmp 9),.none,[],[]⟩,⟨.none,.store 4 (.tmp 2) (.tmp 117),.none,[117],[]⟩,⟨.some 3,.mv (.av (.int .i64 0)),.none,[],[]⟩])
 .ret)))))))))))))),
 [.cell true 4 2,.tmp 3], false⟩
theorem c_profile_ParsePlanLine : chkFunc Tryz.prog gl n_profile_ParsePlanLine a_profile_ParsePlanLine = true := by kernel_rfl
def a_desk_diveOf : AFunc := ⟨62,
 (.seq (.reg false [⟨.some 2,.mv (.av .nili),.none,[],[]⟩,⟨.some 3,.mv (.av (.int .i64 0)),.none,[],[]⟩])
 (.seq (.seq (.reg false [⟨.some 8,.mv (.tmp 0),.none,[],[]⟩,⟨.some 9,.len false (.tmp 8),.none,[],[]⟩,⟨.some 10,.bin .leq (.tmp 9) (.av (.int .i64 5)),.none,[],[]⟩])
 (.cond (.tmp 10)
 (.seq (.reg false [⟨.some 2,.mv (.av .nili),.none,[],[]⟩,⟨.some 3,.mv (.av (.int .i64 7)),.none,[],[]⟩])
 .ret)
 .skip))
 (.cut [0] []
 (.seq (.reg false [⟨.some 12,.mv (.tmp 0),.none,[],[]⟩,⟨.some 13,.iaddr .none 1 (.tmp 12) (.av (.int .i64 3)),.none,[],[]⟩,⟨.some 14,.load false false 1 (.tmp 13),.none,[],[]⟩,⟨.some 15,.call (.av (.fn n_desk_number [])) [(.tmp 14),(.av (.int .i64 7))],.none,[],[]⟩,⟨.some 11,.mv (.tmp 15),.none,[],[]⟩,⟨.some 16,.extract (.tmp 11) 0,.none,[],[]⟩,⟨.some 17,.extract (.tmp 11) 1,.none,[],[]⟩,⟨.some 4,.mv (.tmp 16),.none,[],[]⟩,⟨.some 5,.mv (.tmp 17),.none,[],[]⟩])
 (.seq (.reg false [⟨.some 19,.mv (.tmp 0),.none,[],[]⟩,⟨.some 20,.iaddr .none 1 (.tmp 19) (.av (.int .i64 4)),.none,[],[]⟩,⟨.some 21,.load false false 1 (.tmp 20),.none,[],[]⟩,⟨.some 22,.call (.av (.fn n_desk_number [])) [(.tmp 21),(.av (.int .i64 7))],.none,[],[]⟩,⟨.some 18,.mv (.tmp 22),.none,[],[]⟩,⟨.some 23,.extract (.tmp 18) 0,.none,[],[]⟩,⟨.some 24,.extract (.tmp 18) 1,.none,[],[]⟩,⟨.some 6,.mv (.tmp 23),.none,[],[]⟩,⟨.some 7,.mv (.tmp 24),.none,[],[]⟩])
 (.seq (.block 0
 (.seq (.reg false [⟨.some 26,.mv (.tmp 5),.none,[],[]⟩,⟨.some 27,.un .not (.tmp 26),.none,[],[]⟩,⟨.some 28,.mv (.tmp 27),.none,[],[]⟩,⟨.some 29,.mv (.tmp 7),.some (28,false),[],[]⟩,⟨.some 30,.un .not (.tmp 29),.some (28,false),[],[]⟩,⟨.some 31,.pick (.tmp 28) (.av (.bool true)) (.tmp 30),.none,[],[]⟩,⟨.some 25,.mv (.tmp 31),.none,[],[]⟩])
 (.cond (.tmp 25)
 (.seq (.reg false [⟨.some 2,.mv (.av .nili),.none,[],[]⟩,⟨.some 3,.mv (.av (.int .i64 7)),.none,[],[]⟩])
 .ret)
 (.seq (.reg false [⟨.some 33,.mv (.tmp 0),.none,[],[]⟩,⟨.some 34,.iaddr .none 1 (.tmp 33) (.av (.int .i64 0)),.none,[],[]⟩,⟨.some 35,.load false false 1 (.tmp 34),.none,[],[]⟩,⟨.some 36,.call (.av (.fn n_desk_isName [])) [(.tmp 35)],.none,[],[]⟩,⟨.some 37,.un .not (.tmp 36),.none,[],[]⟩,⟨.some 32,.mv (.tmp 37),.none,[],[]⟩])
 (.cond (.tmp 32)
 (.seq (.reg false [⟨.some 2,.mv (.av .nili),.none,[],[]⟩,⟨.some 3,.mv (.av (.int .i64 4)),.none,[],[]⟩])
 .ret)
 (.seq (.reg false [⟨.some 39,.mv (.tmp 4),.none,[],[]⟩,⟨.some 40,.call (.av (.fn n_desk_within [])) [(.tmp 39),(.av (.int .i64 0)),(.av (.int .i64 100000))],.none,[],[]⟩,⟨.some 41,.un .not (.tmp 40),.none,[],[]⟩,⟨.some 42,.mv (.tmp 41),.none,[],[]⟩,⟨.some 43,.mv (.tmp 6),.some (42,false),[],[]⟩,⟨.some 44,.call (.av (.fn n_desk_within [])) [(.tmp 43),(.av (.int .i64 0)),(.av (.int .i64 86399))],.some (42,false),[],[]⟩,⟨.some 45,.un .not (.tmp 44),.some (42,false),[],[]⟩,⟨.some 46,.pick (.tmp 42) (.av (.bool true)) (.tmp 45),.none,[],[]⟩,⟨.some 38,.mv (.tmp 46),.none,[],[]⟩])
 (.cond (.tmp 38)
 (.seq (.reg false [⟨.some 2,.mv (.av .nili),.none,[],[]⟩,⟨.some 3,.mv (.av (.int .i64 2)),.none,[],[]⟩])
 .ret)
 .skip)))))))
 (.cut [0,4,6] []
 (.seq (.reg true [⟨.some 47,.mv (.tmp 0),.none,[],[]⟩,⟨.some 48,.iaddr .none 1 (.tmp 47) (.av (.int .i64 0)),.none,[],[]⟩,⟨.some 49,.load false false 1 (.tmp 48),.none,[],[]⟩,⟨.some 50,.mv (.tmp 0),.none,[],[]⟩,⟨.some 51,.iaddr .none 1 (.tmp 50) (.av (.int .i64 1)),.none,[],[]⟩,⟨.some 52,.load false false 1 (.tmp 51),.none,[],[]⟩,⟨.some 53,.mv (.tmp 0),.none,[],[]⟩,⟨.some 54,.iaddr .none 1 (.tmp 53) (.av (.int .i64 2)),.none,[],[]⟩,⟨.some 55,.load false false 1 (.tmp 54),.none,[],[]⟩,⟨.some 56,.mv (.tmp 4),.none,[],[]⟩,⟨.some 57,.mv (.tmp 6),.none,[],[]⟩,⟨.some 58,.mv (.tmp 0),.none,[],[]⟩,⟨.some 59,.slice (.slc 1) (.tmp 58) (.some (.av (.int .i64 5))) .none .none,.none,[],[]⟩,⟨.some 60,.build [(.str []),(.str []),(.str []),(.int .i64 0),(.int .i64 0),.nils] [(0,1,(.tmp 49)),(1,1,(.tmp 52)),(2,1,(.tmp 55)),(3,1,(.tmp 56)),(4,1,(.tmp 57)),(5,1,(.tmp 59))],.none,[],[]⟩,⟨.some 61,.mkif 269 (.tmp 60),.none,[],[]⟩,⟨.some 2,.mv (.tmp 61),.none,[],[]⟩,⟨.some 3,.mv (.av (.int .i64 0)),.none,[],[]⟩])
 .ret)))))))),
 [.tmp 2,.tmp 3], false⟩
theorem c_desk_diveOf : chkFunc Tryz.prog gl n_desk_diveOf a_desk_diveOf = true := by kernel_rfl
def a_desk_less : AFunc := ⟨21,
 (.seq (.reg false [⟨.some 2,.box true (.tmp 0),.none,[],[]⟩,⟨.some 3,.box true (.tmp 1),.none,[],[]⟩,⟨.some 4,.alloc [(.int .i64 0),(.int .i64 0),(.int .i64 0)],.none,[],[]⟩])
 (.seq (.reg false [⟨.some 5,.faddr 0 (.tmp 2),.none,[],[]⟩,⟨.some 6,.load false false 1 (.tmp 5),.none,[],[]⟩,⟨.some 7,.faddr 0 (.tmp 3),.none,[],[]⟩,⟨.some 8,.load false false 1 (.tmp 7),.none,[],[]⟩,⟨.some 9,.bin .sub (.tmp 6) (.tmp 8),.none,[],[]⟩,⟨.some 10,.faddr 1 (.tmp 2),.none,[],[]⟩,⟨.some 11,.load false false 1 (.tmp 10),.none,[],[]⟩,⟨.some 12,.faddr 1 (.tmp 3),.none,[],[]⟩,⟨.some 13,.load false false 1 (.tmp 12),.none,[],[]⟩,⟨.some 14,.bin .sub (.tmp 11) (.tmp 13),.none,[],[]⟩,⟨.some 15,.faddr 2 (.tmp 2),.none,[],[]⟩,⟨.some 16,.load false false 1 (.tmp 15),.none,[],[]⟩,⟨.some 17,.faddr 2 (.tmp 3),.none,[],[]⟩,⟨.some 18,.load false false 1 (.tmp 17),.none,[],[]⟩,⟨.some 19,.bin .sub (.tmp 16) (.tmp 18),.none,[],[]⟩,⟨.some 20,.build [(.int .i64 0),(.int .i64 0),(.int .i64 0)] [(0,1,(.tmp 9)),(1,1,(.tmp 14)),(2,1,(.tmp 19))],.none,[],[]⟩,⟨.none,.store 3 (.tmp 4) (.tmp 20),.none,[20],[]⟩])
 .ret)),
 [.cell true 3 4], false⟩
theorem c_desk_less : chkFunc Tryz.prog gl n_desk_less a_desk_less = true := by kernel_rfl
def a_desk_world_vessel : AFunc := ⟨14,
 (.seq (.reg false [⟨.some 3,.box true (.tmp 1),.none,[],[]⟩,⟨.some 4,.mv (.av (.int .i64 0)),.none,[],[]⟩])
 (.seq (.reg false [⟨.some 5,.mv (.tmp 0),.none,[],[]⟩,⟨.some 6,.nilchk (.tmp 5),.none,[],[]⟩,⟨.some 7,.faddr 0 (.tmp 6),.none,[],[]⟩,⟨.some 8,.load false false 1 (.tmp 7),.none,[],[]⟩,⟨.some 9,.nilchk (.tmp 8),.none,[],[]⟩,⟨.some 10,.faddr 0 (.tmp 9),.none,[],[]⟩,⟨.some 11,.load false false 1 (.tmp 10),.none,[],[]⟩,⟨.some 12,.mkfn n_desk_world_vessel_c1 [(.tmp 3)],.none,[],[]⟩,⟨.some 13,.call (.av (.fn n_slices_IndexFunc_api_MixVessel [])) [(.tmp 11),(.tmp 12)],.none,[],[]⟩,⟨.some 4,.mv (.tmp 13),.none,[],[]⟩])
 .ret)),
 [.tmp 4], false⟩
theorem c_desk_world_vessel : chkFunc Tryz.prog gl n_desk_world_vessel a_desk_world_vessel = true := by kernel_rfl
def a_desk_with_api_MixContent : AFunc := ⟨10,
 (.seq (.reg false [⟨.some 3,.box true (.tmp 1),.none,[],[]⟩,⟨.some 4,.mv (.av .nils),.none,[],[]⟩])
 (.seq (.reg true [⟨.some 5,.mv (.tmp 0),.none,[],[]⟩,⟨.some 6,.call (.av (.fn n_slices_Clip_api_MixContent [])) [(.tmp 5)],.none,[],[1]⟩,⟨.some 7,.load true false 3 (.tmp 3),.none,[],[]⟩,⟨.some 8,.bslice true 3 1 [(.int .i64 0),(.int .i64 0),(.int .i64 0)] [(0,(.tmp 7))],.none,[],[]⟩,⟨.some 9,.append 3 24 (.tmp 6) (.tmp 8),.none,[6],[]⟩,⟨.some 4,.mv (.tmp 9),.none,[9],[]⟩])
 .ret)),
 [.tmp 4], false⟩
theorem c_desk_with_api_MixContent : chkFunc Tryz.prog gl n_desk_with_api_MixContent a_desk_with_api_MixContent = true := by kernel_rfl
def b_slices_IndexFunc_api_MixVessel_1 : ACode :=
 (.seq (.reg false [⟨.some 9,.bin .lss (.tmp 8) (.tmp 7),.none,[],[]⟩])
 (.seq (.cond (.tmp 9)
 .skip
 (.exit 0))
 (.cut [0,1,7,8] []
 (.seq (.block 1
 (.seq (.reg false [⟨.some 10,.mv (.tmp 8),.none,[],[]⟩,⟨.some 5,.mv (.tmp 10),.none,[],[]⟩])
 (.seq (.reg false [⟨.some 11,.mv (.tmp 1),.none,[],[]⟩,⟨.some 12,.mv (.tmp 0),.none,[],[]⟩,⟨.some 13,.mv (.tmp 5),.none,[],[]⟩,⟨.some 14,.iaddr .none 3 (.tmp 12) (.tmp 13),.none,[],[]⟩,⟨.some 15,.load true false 3 (.tmp 14),.none,[],[]⟩,⟨.some 16,.call (.tmp 11) [(.tmp 15)],.none,[],[]⟩])
 (.cond (.tmp 16)
 (.seq (.reg false [⟨.some 17,.mv (.tmp 5),.none,[],[]⟩,⟨.some 4,.mv (.tmp 17),.none,[],[]⟩])
 .ret)
 .skip))))
 (.cut [0,1,7,8] []
 (.reg false [⟨.some 18,.bin .add (.tmp 8) (.av (.int .i64 1)),.none,[],[]⟩,⟨.some 8,.mv (.tmp 18),.none,[],[]⟩]))))))
def l_slices_IndexFunc_api_MixVessel_1 : ACode := .loop (.cut [0,1,7,8] [] b_slices_IndexFunc_api_MixVessel_1)
@[simp] def t_slices_IndexFunc_api_MixVessel_1 : ACode :=
 (.cut [] []
 (.seq (.reg false [⟨.some 4,.mv (.av (.int .i64 (-1))),.none,[],[]⟩])
 .ret))
def a_slices_IndexFunc_api_MixVessel : AFunc := ⟨19,
 (.seq (.reg false [⟨.some 4,.mv (.av (.int .i64 0)),.none,[],[]⟩])
 (.seq (.seq (.reg false [⟨.some 6,.mv (.tmp 0),.none,[],[]⟩,⟨.some 7,.len false (.tmp 6),.none,[],[]⟩,⟨.some 8,.mv (.av (.int .i64 0)),.none,[],[]⟩])
 (.block 0
 l_slices_IndexFunc_api_MixVessel_1))
 t_slices_IndexFunc_api_MixVessel_1)),
 [.tmp 4], false⟩
theorem c_slices_IndexFunc_api_MixVessel : chkFunc Tryz.prog gl n_slices_IndexFunc_api_MixVessel a_slices_IndexFunc_api_MixVessel = true := by kernel_rfl
def a_mix_vessel_c1 : AFunc := ⟨8,
 (.seq (.reg false [⟨.some 2,.box true (.tmp 0),.none,[],[]⟩,⟨.some 3,.mv (.av (.bool false)),.none,[],[]⟩])
 (.seq (.reg false [⟨.some 4,.faddr 0 (.tmp 2),.none,[],[]⟩,⟨.some 5,.load false false 1 (.tmp 4),.none,[],[]⟩,⟨.some 6,.load false false 1 (.tmp 1),.none,[],[]⟩,⟨.some 7,.bin .eql (.tmp 5) (.tmp 6),.none,[],[]⟩,⟨.some 3,.mv (.tmp 7),.none,[],[]⟩])
 .ret)),
 [.tmp 3], false⟩
theorem c_mix_vessel_c1 : chkFunc Tryz.prog gl n_mix_vessel_c1 a_mix_vessel_c1 = true := by kernel_rfl
def a_gas_CheckGas : AFunc := ⟨21,
 (.seq (.reg false [⟨.some 1,.box true (.tmp 0),.none,[],[]⟩,⟨.some 2,.mv (.av (.int .i64 0)),.none,[],[]⟩])
 (.seq (.seq (.reg true [⟨.some 4,.faddr 0 (.tmp 1),.none,[],[]⟩,⟨.some 5,.load false false 1 (.tmp 4),.none,[],[]⟩,⟨.some 6,.call (.av (.fn n_gas_bound [])) [(.tmp 5),(.av (.int .i64 0)),(.av (.int .i64 1000))],.none,[],[2]⟩,⟨.some 7,.faddr 1 (.tmp 1),.none,[],[]⟩,⟨.some 8,.load false false 1 (.tmp 7),.none,[],[]⟩,⟨.some 9,.call (.av (.fn n_gas_bound [])) [(.tmp 8),(.av (.int .i64 0)),(.av (.int .i64 1000))],.none,[],[]⟩,⟨.some 10,.bslice true 1 2 [(.int .i64 0)] [(0,(.tmp 6)),(1,(.tmp 9))],.none,[],[]⟩,⟨.some 11,.call (.av (.fn n_gas_first [])) [(.tmp 10)],.none,[],[]⟩,⟨.some 3,.mv (.tmp 11),.none,[],[]⟩])
 (.seq (.reg false [⟨.some 12,.mv (.tmp 3),.none,[],[]⟩,⟨.some 13,.bin .neq (.tmp 12) (.av (.int .i64 0)),.none,[],[]⟩])
 (.cond (.tmp 13)
 (.seq (.reg false [⟨.some 14,.mv (.tmp 3),.none,[],[]⟩,⟨.some 2,.mv (.tmp 14),.none,[],[]⟩])
 .ret)
 .skip)))
 (.cut [1] []
 (.seq (.seq (.reg false [⟨.some 15,.faddr 0 (.tmp 1),.none,[],[]⟩,⟨.some 16,.load false false 1 (.tmp 15),.none,[],[]⟩,⟨.some 17,.faddr 1 (.tmp 1),.none,[],[]⟩,⟨.some 18,.load false false 1 (.tmp 17),.none,[],[]⟩,⟨.some 19,.bin .add (.tmp 16) (.tmp 18),.none,[],[]⟩,⟨.some 20,.bin .gtr (.tmp 19) (.av (.int .i64 1000)),.none,[],[]⟩])
 (.cond (.tmp 20)
 (.seq (.reg false [⟨.some 2,.mv (.av (.int .i64 23)),.none,[],[]⟩])
 .ret)
 .skip))
 (.cut [] []
 (.seq (.reg false [⟨.some 2,.mv (.av (.int .i64 0)),.none,[],[]⟩])
 .ret)))))),
 [.tmp 2], false⟩
theorem c_gas_CheckGas : chkFunc Tryz.prog gl n_gas_CheckGas a_gas_CheckGas = true := by kernel_rfl
def a_slices_SortStableFunc_int : AFunc := ⟨9,
 (.reg false [⟨.some 4,.mv (.tmp 0),.none,[],[]⟩,⟨.some 5,.mv (.tmp 0),.none,[],[]⟩,⟨.some 6,.len false (.tmp 5),.none,[],[]⟩,⟨.some 7,.mv (.tmp 1),.none,[],[]⟩,⟨.some 8,.call (.av (.fn n_slices_stableCmpFunc_int [])) [(.tmp 4),(.tmp 6),(.tmp 7)],.none,[],[]⟩]),
 [], false⟩
theorem c_slices_SortStableFunc_int : chkFunc Tryz.prog gl n_slices_SortStableFunc_int a_slices_SortStableFunc_int = true := by kernel_rfl
def a_mix_gases_share_c1 : AFunc := ⟨13,
 (.seq (.reg false [⟨.some 5,.mv (.av (.int .i64 0)),.none,[],[]⟩])
 (.seq (.reg true [⟨.some 6,.mv (.tmp 1),.none,[],[]⟩,⟨.some 7,.iaddr (.some 3) 1 (.tmp 2) (.tmp 6),.none,[],[]⟩,⟨.some 8,.load false false 1 (.tmp 7),.none,[],[]⟩,⟨.some 9,.mv (.tmp 0),.none,[],[]⟩,⟨.some 10,.iaddr (.some 3) 1 (.tmp 2) (.tmp 9),.none,[],[]⟩,⟨.some 11,.load false false 1 (.tmp 10),.none,[],[]⟩,⟨.some 12,.call (.av (.fn n_cmp_Compare_int [])) [(.tmp 8),(.tmp 11)],.none,[],[]⟩,⟨.some 5,.mv (.tmp 12),.none,[],[]⟩])
 .ret)),
 [.tmp 5], false⟩
theorem c_mix_gases_share_c1 : chkFunc Tryz.prog gl n_mix_gases_share_c1 a_mix_gases_share_c1 = true := by kernel_rfl
def a_cmp_Compare_int : AFunc := ⟨20,
 (.seq (.reg false [⟨.some 4,.mv (.av (.int .i64 0)),.none,[],[]⟩])
 (.seq (.reg false [⟨.some 7,.mv (.tmp 0),.none,[],[]⟩,⟨.some 8,.call (.av (.fn n_cmp_isNaN_int [])) [(.tmp 7)],.none,[],[]⟩,⟨.some 5,.mv (.tmp 8),.none,[],[]⟩])
 (.seq (.reg false [⟨.some 9,.mv (.tmp 1),.none,[],[]⟩,⟨.some 10,.call (.av (.fn n_cmp_isNaN_int [])) [(.tmp 9)],.none,[],[]⟩,⟨.some 6,.mv (.tmp 10),.none,[],[]⟩])
 (.seq (.seq (.reg false [⟨.some 11,.mv (.tmp 5),.none,[],[]⟩])
 (.cond (.tmp 11)
 (.seq (.seq (.reg false [⟨.some 12,.mv (.tmp 6),.none,[],[]⟩])
 (.cond (.tmp 12)
 (.seq (.reg false [⟨.some 4,.mv (.av (.int .i64 0)),.none,[],[]⟩])
 .ret)
 .skip))
 (.cut [] []
 (.seq (.reg false [⟨.some 4,.mv (.av (.int .i64 (-1))),.none,[],[]⟩])
 .ret)))
 .skip))
 (.cut [0,1,6] []
 (.seq (.seq (.reg false [⟨.some 13,.mv (.tmp 6),.none,[],[]⟩])
 (.cond (.tmp 13)
 (.seq (.reg false [⟨.some 4,.mv (.av (.int .i64 1)),.none,[],[]⟩])
 .ret)
 .skip))
 (.cut [0,1] []
 (.seq (.seq (.reg false [⟨.some 14,.mv (.tmp 0),.none,[],[]⟩,⟨.some 15,.mv (.tmp 1),.none,[],[]⟩,⟨.some 16,.bin .lss (.tmp 14) (.tmp 15),.none,[],[]⟩])
 (.cond (.tmp 16)
 (.seq (.reg false [⟨.some 4,.mv (.av (.int .i64 (-1))),.none,[],[]⟩])
 .ret)
 .skip))
 (.cut [0,1] []
 (.seq (.seq (.reg false [⟨.some 17,.mv (.tmp 0),.none,[],[]⟩,⟨.some 18,.mv (.tmp 1),.none,[],[]⟩,⟨.some 19,.bin .gtr (.tmp 17) (.tmp 18),.none,[],[]⟩])
 (.cond (.tmp 19)
 (.seq (.reg false [⟨.some 4,.mv (.av (.int .i64 1)),.none,[],[]⟩])
 .ret)
 .skip))
 (.cut [] []
 (.seq (.reg false [⟨.some 4,.mv (.av (.int .i64 0)),.none,[],[]⟩])
 .ret)))))))))))),
 [.tmp 4], false⟩
theorem c_cmp_Compare_int : chkFunc Tryz.prog gl n_cmp_Compare_int a_cmp_Compare_int = true := by kernel_rfl
def b_profile_isName_1 : ACode :=
 (.seq (.reg false [⟨.some 8,.bin .lss (.tmp 7) (.tmp 6),.none,[],[]⟩])
 (.seq (.cond (.tmp 8)
 .skip
 (.exit 0))
 (.cut [0,6,7] []
 (.seq (.block 1
 (.seq (.reg false [⟨.some 9,.mv (.tmp 7),.none,[],[]⟩,⟨.some 3,.mv (.tmp 9),.none,[],[]⟩])
 (.seq (.reg false [⟨.some 10,.mv (.tmp 0),.none,[],[]⟩,⟨.some 11,.mv (.tmp 3),.none,[],[]⟩,⟨.some 12,.ixstr (.tmp 10) (.tmp 11),.none,[],[]⟩,⟨.some 13,.bin .geq (.tmp 12) (.av (.int .u8 97)),.none,[],[]⟩,⟨.some 14,.mv (.tmp 13),.none,[],[]⟩,⟨.some 15,.mv (.tmp 0),.some (14,true),[],[]⟩,⟨.some 16,.mv (.tmp 3),.some (14,true),[],[]⟩,⟨.some 17,.ixstr (.tmp 15) (.tmp 16),.some (14,true),[],[]⟩,⟨.some 18,.bin .leq (.tmp 17) (.av (.int .u8 122)),.some (14,true),[],[]⟩,⟨.some 19,.pick (.tmp 14) (.tmp 18) (.av (.bool false)),.none,[],[]⟩,⟨.some 20,.mv (.tmp 19),.none,[],[]⟩,⟨.some 21,.mv (.tmp 0),.some (20,false),[],[]⟩,⟨.some 22,.mv (.tmp 3),.some (20,false),[],[]⟩,⟨.some 23,.ixstr (.tmp 21) (.tmp 22),.some (20,false),[],[]⟩,⟨.some 24,.bin .geq (.tmp 23) (.av (.int .u8 65)),.some (20,false),[],[]⟩,⟨.some 25,.mv (.tmp 24),.some (20,false),[],[]⟩,⟨.some 26,.mv (.tmp 0),.some (25,true),[],[]⟩,⟨.some 27,.mv (.tmp 3),.some (25,true),[],[]⟩,⟨.some 28,.ixstr (.tmp 26) (.tmp 27),.some (25,true),[],[]⟩,⟨.some 29,.bin .leq (.tmp 28) (.av (.int .u8 90)),.some (25,true),[],[]⟩,⟨.some 30,.pick (.tmp 25) (.tmp 29) (.av (.bool false)),.some (20,false),[],[]⟩,⟨.some 31,.pick (.tmp 20) (.av (.bool true)) (.tmp 30),.none,[],[]⟩,⟨.some 4,.mv (.tmp 31),.none,[],[]⟩])
 (.seq (.reg false [⟨.some 32,.mv (.tmp 4),.none,[],[]⟩,⟨.some 33,.un .not (.tmp 32),.none,[],[]⟩,⟨.some 34,.mv (.tmp 33),.none,[],[]⟩,⟨.some 35,.mv (.tmp 3),.some (34,true),[],[]⟩,⟨.some 36,.bin .eql (.tmp 35) (.av (.int .i64 0)),.some (34,true),[],[]⟩,⟨.some 37,.mv (.tmp 36),.some (34,true),[],[]⟩,⟨.some 38,.mv (.tmp 0),.some (37,false),[],[]⟩,⟨.some 39,.mv (.tmp 3),.some (37,false),[],[]⟩,⟨.some 40,.ixstr (.tmp 38) (.tmp 39),.some (37,false),[],[]⟩,⟨.some 41,.bin .neq (.tmp 40) (.av (.int .u8 45)),.some (37,false),[],[]⟩,⟨.some 42,.mv (.tmp 41),.some (37,false),[],[]⟩,⟨.some 43,.mv (.tmp 0),.some (42,true),[],[]⟩,⟨.some 44,.mv (.tmp 3),.some (42,true),[],[]⟩,⟨.some 45,.ixstr (.tmp 43) (.tmp 44),.some (42,true),[],[]⟩,⟨.some 46,.bin .lss (.tmp 45) (.av (.int .u8 48)),.some (42,true),[],[]⟩,⟨.some 47,.mv (.tmp 46),.some (42,true),[],[]⟩,⟨.some 48,.mv (.tmp 0),.some (47,false),[],[]⟩,⟨.some 49,.mv (.tmp 3),.some (47,false),[],[]⟩,⟨.some 50,.ixstr (.tmp 48) (.tmp 49),.some (47,false),[],[]⟩,⟨.some 51,.bin .gtr (.tmp 50) (.av (.int .u8 57)),.some (47,false),[],[]⟩,⟨.some 52,.pick (.tmp 47) (.av (.bool true)) (.tmp 51),.some (42,true),[],[]⟩,⟨.some 53,.pick (.tmp 42) (.tmp 52) (.av (.bool false)),.some (37,false),[],[]⟩,⟨.some 54,.pick (.tmp 37) (.av (.bool true)) (.tmp 53),.some (34,true),[],[]⟩,⟨.some 55,.pick (.tmp 34) (.tmp 54) (.av (.bool false)),.none,[],[]⟩])
 (.cond (.tmp 55)
 (.seq (.reg false [⟨.some 2,.mv (.av (.bool false)),.none,[],[]⟩])
 .ret)
 .skip)))))
 (.cut [0,6,7] []
 (.reg false [⟨.some 56,.bin .add (.tmp 7) (.av (.int .i64 1)),.none,[],[]⟩,⟨.some 7,.mv (.tmp 56),.none,[],[]⟩]))))))
def l_profile_isName_1 : ACode := .loop (.cut [0,6,7] [] b_profile_isName_1)
@[simp] def t_profile_isName_1 : ACode :=
 (.cut [0] []
 (.seq (.reg false [⟨.some 57,.mv (.tmp 0),.none,[],[]⟩,⟨.some 58,.bin .neq (.tmp 57) (.av (.str [])),.none,[],[]⟩,⟨.some 59,.mv (.tmp 58),.none,[],[]⟩,⟨.some 60,.mv (.tmp 0),.some (59,true),[],[]⟩,⟨.some 61,.len true (.tmp 60),.some (59,true),[],[]⟩,⟨.some 62,.bin .leq (.tmp 61) (.av (.int .i64 12)),.some (59,true),[],[]⟩,⟨.some 63,.pick (.tmp 59) (.tmp 62) (.av (.bool false)),.none,[],[]⟩,⟨.some 2,.mv (.tmp 63),.none,[],[]⟩])
 .ret))
def a_profile_isName : AFunc := ⟨64,
 (.seq (.reg false [⟨.some 2,.mv (.av (.bool false)),.none,[],[]⟩])
 (.seq (.seq (.reg false [⟨.some 5,.mv (.tmp 0),.none,[],[]⟩,⟨.some 6,.len true (.tmp 5),.none,[],[]⟩,⟨.some 7,.mv (.av (.int .i64 0)),.none,[],[]⟩])
 (.block 0
 l_profile_isName_1))
 t_profile_isName_1)),
 [.tmp 2], false⟩
theorem c_profile_isName : chkFunc Tryz.prog gl n_profile_isName a_profile_isName = true := by kernel_rfl
def a_profile_within : AFunc := ⟨15,
 (.seq (.reg false [⟨.some 6,.mv (.av (.bool false)),.none,[],[]⟩])
 (.seq (.reg false [⟨.some 7,.mv (.tmp 1),.none,[],[]⟩,⟨.some 8,.mv (.tmp 0),.none,[],[]⟩,⟨.some 9,.bin .leq (.tmp 7) (.tmp 8),.none,[],[]⟩,⟨.some 10,.mv (.tmp 9),.none,[],[]⟩,⟨.some 11,.mv (.tmp 0),.some (10,true),[],[]⟩,⟨.some 12,.mv (.tmp 2),.some (10,true),[],[]⟩,⟨.some 13,.bin .leq (.tmp 11) (.tmp 12),.some (10,true),[],[]⟩,⟨.some 14,.pick (.tmp 10) (.tmp 13) (.av (.bool false)),.none,[],[]⟩,⟨.some 6,.mv (.tmp 14),.none,[],[]⟩])
 .ret)),
 [.tmp 6], false⟩
theorem c_profile_within : chkFunc Tryz.prog gl n_profile_within a_profile_within = true := by kernel_rfl
def b_gas_first_1 : ACode :=
 (.seq (.reg false [⟨.some 8,.bin .lss (.tmp 7) (.tmp 6),.none,[],[]⟩])
 (.seq (.cond (.tmp 8)
 .skip
 (.exit 0))
 (.cut [5,6,7] []
 (.seq (.block 1
 (.seq (.reg false [⟨.some 9,.iaddr .none 1 (.tmp 5) (.tmp 7),.none,[],[]⟩,⟨.some 10,.load false false 1 (.tmp 9),.none,[],[]⟩,⟨.some 4,.mv (.tmp 10),.none,[],[]⟩])
 (.seq (.reg false [⟨.some 11,.mv (.tmp 4),.none,[],[]⟩,⟨.some 12,.bin .neq (.tmp 11) (.av (.int .i64 0)),.none,[],[]⟩])
 (.cond (.tmp 12)
 (.seq (.reg false [⟨.some 13,.mv (.tmp 4),.none,[],[]⟩,⟨.some 2,.mv (.tmp 13),.none,[],[]⟩])
 .ret)
 .skip))))
 (.cut [5,6,7] []
 (.reg false [⟨.some 14,.bin .add (.tmp 7) (.av (.int .i64 1)),.none,[],[]⟩,⟨.some 7,.mv (.tmp 14),.none,[],[]⟩]))))))
def l_gas_first_1 : ACode := .loop (.cut [5,6,7] [] b_gas_first_1)
@[simp] def t_gas_first_1 : ACode :=
 (.cut [] []
 (.seq (.reg false [⟨.some 2,.mv (.av (.int .i64 0)),.none,[],[]⟩])
 .ret))
def a_gas_first : AFunc := ⟨15,
 (.seq (.reg false [⟨.some 2,.mv (.av (.int .i64 0)),.none,[],[]⟩])
 (.seq (.seq (.reg false [⟨.some 5,.mv (.tmp 0),.none,[],[]⟩,⟨.some 6,.len false (.tmp 5),.none,[],[]⟩,⟨.some 7,.mv (.av (.int .i64 0)),.none,[],[]⟩])
 (.block 0
 l_gas_first_1))
 t_gas_first_1)),
 [.tmp 2], false⟩
theorem c_gas_first : chkFunc Tryz.prog gl n_gas_first a_gas_first = true := by kernel_rfl
def a_gas_bound : AFunc := ⟨12,
 (.seq (.reg false [⟨.some 6,.mv (.av (.int .i64 0)),.none,[],[]⟩])
 (.seq (.seq (.reg false [⟨.some 7,.mv (.tmp 0),.none,[],[]⟩,⟨.some 8,.mv (.tmp 1),.none,[],[]⟩,⟨.some 9,.mv (.tmp 2),.none,[],[]⟩,⟨.some 10,.call (.av (.fn n_gas_within [])) [(.tmp 7),(.tmp 8),(.tmp 9)],.none,[],[]⟩,⟨.some 11,.un .not (.tmp 10),.none,[],[]⟩])
 (.cond (.tmp 11)
 (.seq (.reg false [⟨.some 6,.mv (.av (.int .i64 2)),.none,[],[]⟩])
 .ret)
 .skip))
 (.cut [] []
 (.seq (.reg false [⟨.some 6,.mv (.av (.int .i64 0)),.none,[],[]⟩])
 .ret)))),
 [.tmp 6], false⟩
theorem c_gas_bound : chkFunc Tryz.prog gl n_gas_bound a_gas_bound = true := by kernel_rfl
def a_mix_fillOf : AFunc := ⟨104,
 (.seq (.reg false [⟨.some 2,.alloc [(.int .i64 0),(.int .i64 0),(.str []),(.str []),(.int .i64 0),(.int .i64 0),(.int .i64 0),(.bool false)],.none,[],[]⟩,⟨.some 3,.mv (.av (.bool false)),.none,[],[]⟩])
 (.seq (.block 0
 (.seq (.reg false [⟨.some 5,.mv (.tmp 0),.none,[],[]⟩,⟨.some 6,.iaddr .none 1 (.tmp 5) (.av (.int .i64 0)),.none,[],[]⟩,⟨.some 7,.load false false 1 (.tmp 6),.none,[],[]⟩,⟨.some 8,.bin .eql (.tmp 7) (.av (.str [105,110])),.none,[],[]⟩,⟨.some 9,.mv (.tmp 8),.none,[],[]⟩,⟨.some 10,.mv (.tmp 0),.some (9,true),[],[]⟩,⟨.some 11,.len false (.tmp 10),.some (9,true),[],[]⟩,⟨.some 12,.bin .eql (.tmp 11) (.av (.int .i64 6)),.some (9,true),[],[]⟩,⟨.some 13,.pick (.tmp 9) (.tmp 12) (.av (.bool false)),.none,[],[]⟩,⟨.some 4,.mv (.tmp 13),.none,[],[]⟩])
 (.cond (.tmp 4)
 (.seq (.reg false [⟨.some 14,.mv (.tmp 0),.none,[],[]⟩,⟨.some 15,.iaddr .none 1 (.tmp 14) (.av (.int .i64 2)),.none,[],[]⟩,⟨.some 16,.load false false 1 (.tmp 15),.none,[],[]⟩,⟨.some 17,.faddr 3 (.tmp 2),.none,[],[]⟩,⟨.none,.store 1 (.tmp 17) (.tmp 16),.none,[16],[]⟩])
 (.reg false [⟨.some 18,.mv (.tmp 0),.none,[],[]⟩,⟨.some 19,.iaddr .none 1 (.tmp 18) (.av (.int .i64 3)),.none,[],[]⟩,⟨.some 20,.load false false 1 (.tmp 19),.none,[],[]⟩,⟨.some 21,.faddr 4 (.tmp 2),.none,[],[]⟩,⟨.some 22,.faddr 0 (.tmp 21),.none,[],[]⟩,⟨.some 23,.call (.av (.fn n_mix_number [])) [(.tmp 20),(.tmp 22)],.none,[],[]⟩,⟨.some 24,.mv (.tmp 23),.none,[],[]⟩,⟨.some 25,.mv (.tmp 0),.some (24,true),[],[]⟩,⟨.some 26,.iaddr .none 1 (.tmp 25) (.av (.int .i64 4)),.some (24,true),[],[]⟩,⟨.some 27,.load false false 1 (.tmp 26),.some (24,true),[],[]⟩,⟨.some 28,.faddr 4 (.tmp 2),.some (24,true),[],[]⟩,⟨.some 29,.faddr 1 (.tmp 28),.some (24,true),[],[]⟩,⟨.some 30,.call (.av (.fn n_mix_number [])) [(.tmp 27),(.tmp 29)],.some (24,true),[],[]⟩,⟨.some 31,.pick (.tmp 24) (.tmp 30) (.av (.bool false)),.none,[],[]⟩,⟨.some 32,.mv (.tmp 31),.none,[],[]⟩,⟨.some 33,.mv (.tmp 0),.some (32,true),[],[]⟩,⟨.some 34,.iaddr .none 1 (.tmp 33) (.av (.int .i64 5)),.some (32,true),[],[]⟩,⟨.some 35,.load false false 1 (.tmp 34),.some (32,true),[],[]⟩,⟨.some 36,.faddr 6 (.tmp 2),.some (32,true),[],[]⟩,⟨.some 37,.call (.av (.fn n_mix_number [])) [(.tmp 35),(.tmp 36)],.some (32,true),[],[]⟩,⟨.some 38,.pick (.tmp 32) (.tmp 37) (.av (.bool false)),.none,[],[]⟩,⟨.some 3,.mv (.tmp 38),.none,[],[]⟩]))
 (.seq (.reg false [⟨.some 40,.mv (.tmp 0),.none,[],[]⟩,⟨.some 41,.iaddr .none 1 (.tmp 40) (.av (.int .i64 0)),.none,[],[]⟩,⟨.some 42,.load false false 1 (.tmp 41),.none,[],[]⟩,⟨.some 43,.bin .eql (.tmp 42) (.av (.str [109,111,118,101])),.none,[],[]⟩,⟨.some 44,.mv (.tmp 43),.none,[],[]⟩,⟨.some 45,.mv (.tmp 0),.some (44,false),[],[]⟩,⟨.some 46,.iaddr .none 1 (.tmp 45) (.av (.int .i64 0)),.some (44,false),[],[]⟩,⟨.some 47,.load false false 1 (.tmp 46),.some (44,false),[],[]⟩,⟨.some 48,.bin .eql (.tmp 47) (.av (.str [112,117,109,112])),.some (44,false),[],[]⟩,⟨.some 49,.pick (.tmp 44) (.av (.bool true)) (.tmp 48),.none,[],[]⟩,⟨.some 50,.mv (.tmp 49),.none,[],[]⟩,⟨.some 51,.mv (.tmp 0),.some (50,true),[],[]⟩,⟨.some 52,.len false (.tmp 51),.some (50,true),[],[]⟩,⟨.some 53,.bin .eql (.tmp 52) (.av (.int .i64 5)),.some (50,true),[],[]⟩,⟨.some 54,.pick (.tmp 50) (.tmp 53) (.av (.bool false)),.none,[],[]⟩,⟨.some 39,.mv (.tmp 54),.none,[],[]⟩])
 (.cond (.tmp 39)
 (.seq (.reg true [⟨.some 55,.mv (.tmp 0),.none,[],[]⟩,⟨.some 56,.iaddr .none 1 (.tmp 55) (.av (.int .i64 2)),.none,[],[]⟩,⟨.some 57,.load false false 1 (.tmp 56),.none,[],[]⟩,⟨.some 58,.mv (.tmp 0),.none,[],[]⟩,⟨.some 59,.iaddr .none 1 (.tmp 58) (.av (.int .i64 3)),.none,[],[]⟩,⟨.some 60,.load false false 1 (.tmp 59),.none,[],[]⟩,⟨.some 61,.mv (.tmp 0),.none,[],[]⟩,⟨.some 62,.iaddr .none 1 (.tmp 61) (.av (.int .i64 0)),.none,[],[]⟩,⟨.some 63,.load false false 1 (.tmp 62),.none,[],[]⟩,⟨.some 64,.bin .eql (.tmp 63) (.av (.str [112,117,109,112])),.none,[],[]⟩,⟨.some 65,.faddr 0 (.tmp 2),.none,[],[]⟩,⟨.none,.store 1 (.tmp 65) (.av (.int .i64 1)),.none,[],[]⟩,⟨.some 66,.faddr 2 (.tmp 2),.none,[],[]⟩,⟨.none,.store 1 (.tmp 66) (.tmp 57),.none,[57],[]⟩,⟨.some 67,.faddr 3 (.tmp 2),.none,[],[]⟩,⟨.none,.store 1 (.tmp 67) (.tmp 60),.none,[60],[]⟩,⟨.some 68,.faddr 7 (.tmp 2),.none,[],[]⟩,⟨.none,.store 1 (.tmp 68) (.tmp 64),.none,[64],[]⟩])
 (.reg false [⟨.some 69,.mv (.tmp 0),.none,[],[]⟩,⟨.some 70,.iaddr .none 1 (.tmp 69) (.av (.int .i64 4)),.none,[],[]⟩,⟨.some 71,.load false false 1 (.tmp 70),.none,[],[]⟩,⟨.some 72,.faddr 6 (.tmp 2),.none,[],[]⟩,⟨.some 73,.call (.av (.fn n_mix_number [])) [(.tmp 71),(.tmp 72)],.none,[],[]⟩,⟨.some 3,.mv (.tmp 73),.none,[],[]⟩]))
 (.seq (.reg false [⟨.some 75,.mv (.tmp 0),.none,[],[]⟩,⟨.some 76,.iaddr .none 1 (.tmp 75) (.av (.int .i64 0)),.none,[],[]⟩,⟨.some 77,.load false false 1 (.tmp 76),.none,[],[]⟩,⟨.some 78,.bin .eql (.tmp 77) (.av (.str [118,101,110,116])),.none,[],[]⟩,⟨.some 79,.mv (.tmp 78),.none,[],[]⟩,⟨.some 80,.mv (.tmp 0),.some (79,true),[],[]⟩,⟨.some 81,.len false (.tmp 80),.some (79,true),[],[]⟩,⟨.some 82,.bin .eql (.tmp 81) (.av (.int .i64 4)),.some (79,true),[],[]⟩,⟨.some 83,.pick (.tmp 79) (.tmp 82) (.av (.bool false)),.none,[],[]⟩,⟨.some 74,.mv (.tmp 83),.none,[],[]⟩])
 (.cond (.tmp 74)
 (.seq (.reg false [⟨.some 84,.mv (.tmp 0),.none,[],[]⟩,⟨.some 85,.iaddr .none 1 (.tmp 84) (.av (.int .i64 2)),.none,[],[]⟩,⟨.some 86,.load false false 1 (.tmp 85),.none,[],[]⟩,⟨.some 87,.faddr 0 (.tmp 2),.none,[],[]⟩,⟨.none,.store 1 (.tmp 87) (.av (.int .i64 2)),.none,[],[]⟩,⟨.some 88,.faddr 2 (.tmp 2),.none,[],[]⟩,⟨.none,.store 1 (.tmp 88) (.tmp 86),.none,[86],[]⟩])
 (.reg false [⟨.some 89,.mv (.tmp 0),.none,[],[]⟩,⟨.some 90,.iaddr .none 1 (.tmp 89) (.av (.int .i64 3)),.none,[],[]⟩,⟨.some 91,.load false false 1 (.tmp 90),.none,[],[]⟩,⟨.some 92,.faddr 6 (.tmp 2),.none,[],[]⟩,⟨.some 93,.call (.av (.fn n_mix_number [])) [(.tmp 91),(.tmp 92)],.none,[],[]⟩,⟨.some 3,.mv (.tmp 93),.none,[],[]⟩]))
 .skip)))))))
 (.cut [0,2,3] []
 (.seq (.reg false [⟨.some 94,.mv (.tmp 3),.none,[],[]⟩,⟨.some 95,.mv (.tmp 94),.none,[],[]⟩,⟨.some 96,.mv (.tmp 0),.some (95,true),[],[]⟩,⟨.some 97,.iaddr .none 1 (.tmp 96) (.av (.int .i64 1)),.some (95,true),[],[]⟩,⟨.some 98,.load false false 1 (.tmp 97),.some (95,true),[],[]⟩,⟨.some 99,.faddr 1 (.tmp 2),.some (95,true),[],[]⟩,⟨.some 100,.call (.av (.fn n_mix_number [])) [(.tmp 98),(.tmp 99)],.some (95,true),[],[]⟩,⟨.some 101,.pick (.tmp 95) (.tmp 100) (.av (.bool false)),.none,[],[]⟩,⟨.some 3,.mv (.tmp 101),.none,[],[]⟩])
 (.seq (.reg false [⟨.some 102,.load true false 8 (.tmp 2),.none,[],[]⟩,⟨.some 103,.mv (.tmp 3),.none,[],[]⟩,⟨.none,.store 8 (.tmp 2) (.tmp 102),.none,[102],[]⟩,⟨.some 3,.mv (.tmp 103),.none,[],[]⟩])
 .ret))))),
 [.cell true 8 2,.tmp 3], false⟩
theorem c_mix_fillOf : chkFunc Tryz.prog gl n_mix_fillOf a_mix_fillOf = true := by kernel_rfl
def b_profile_numbers_1 : ACode :=
 (.seq (.reg false [⟨.some 12,.bin .lss (.tmp 11) (.tmp 10),.none,[],[]⟩])
 (.seq (.cond (.tmp 12)
 .skip
 (.exit 0))
 (.cut [4,9,10,11] []
 (.seq (.block 1
 (.seq (.reg false [⟨.some 13,.iaddr .none 1 (.tmp 9) (.tmp 11),.none,[],[]⟩,⟨.some 14,.load false false 1 (.tmp 13),.none,[],[]⟩,⟨.some 6,.mv (.tmp 14),.none,[],[]⟩])
 (.seq (.reg false [⟨.some 16,.mv (.tmp 6),.none,[],[]⟩,⟨.some 17,.call (.av (.fn n_strconv_Atoi [])) [(.tmp 16)],.none,[],[]⟩,⟨.some 15,.mv (.tmp 17),.none,[],[]⟩,⟨.some 18,.extract (.tmp 15) 0,.none,[],[]⟩,⟨.some 19,.extract (.tmp 15) 1,.none,[],[]⟩,⟨.some 7,.mv (.tmp 18),.none,[],[]⟩,⟨.some 8,.mv (.tmp 19),.none,[],[]⟩])
 (.seq (.seq (.reg false [⟨.some 20,.mv (.tmp 8),.none,[],[]⟩,⟨.some 21,.eq .iface true (.tmp 20) (.av .nili),.none,[],[]⟩,⟨.some 22,.mv (.tmp 21),.none,[],[]⟩,⟨.some 23,.mv (.tmp 7),.some (22,false),[],[]⟩,⟨.some 24,.call (.av (.fn n_strconv_Itoa [])) [(.tmp 23)],.some (22,false),[],[]⟩,⟨.some 25,.mv (.tmp 6),.some (22,false),[],[]⟩,⟨.some 26,.bin .neq (.tmp 24) (.tmp 25),.some (22,false),[],[]⟩,⟨.some 27,.pick (.tmp 22) (.av (.bool true)) (.tmp 26),.none,[],[]⟩,⟨.some 28,.mv (.tmp 27),.none,[],[]⟩,⟨.some 29,.mv (.tmp 6),.some (28,false),[],[]⟩,⟨.some 30,.call (.av (.fn n_strings_TrimPrefix [])) [(.tmp 29),(.av (.str [45]))],.some (28,false),[],[]⟩,⟨.some 31,.len true (.tmp 30),.some (28,false),[],[]⟩,⟨.some 32,.bin .gtr (.tmp 31) (.av (.int .i64 10)),.some (28,false),[],[]⟩,⟨.some 33,.pick (.tmp 28) (.av (.bool true)) (.tmp 32),.none,[],[]⟩])
 (.cond (.tmp 33)
 (.seq (.reg false [⟨.some 2,.mv (.av .nils),.none,[],[]⟩,⟨.some 3,.mv (.av (.bool false)),.none,[],[]⟩])
 .ret)
 .skip))
 (.cut [4,7,9,10,11] []
 (.reg false [⟨.some 34,.mv (.tmp 4),.none,[4],[]⟩,⟨.some 35,.mv (.tmp 7),.none,[],[]⟩,⟨.some 36,.bslice true 1 1 [(.int .i64 0)] [(0,(.tmp 35))],.none,[],[]⟩,⟨.some 37,.append 1 8 (.tmp 34) (.tmp 36),.none,[34],[]⟩,⟨.some 4,.mv (.tmp 37),.none,[37],[]⟩]))))))
 (.cut [4,9,10,11] []
 (.reg false [⟨.some 38,.bin .add (.tmp 11) (.av (.int .i64 1)),.none,[],[]⟩,⟨.some 11,.mv (.tmp 38),.none,[],[]⟩]))))))
def l_profile_numbers_1 : ACode := .loop (.cut [4,9,10,11] [] b_profile_numbers_1)
@[simp] def t_profile_numbers_1 : ACode :=
 (.cut [4] []
 (.seq (.reg false [⟨.some 39,.mv (.tmp 4),.none,[4],[]⟩,⟨.some 2,.mv (.tmp 39),.none,[39],[]⟩,⟨.some 3,.mv (.av (.bool true)),.none,[],[]⟩])
 .ret))
def a_profile_numbers : AFunc := ⟨40,
 (.seq (.reg false [⟨.some 2,.mv (.av .nils),.none,[],[]⟩,⟨.some 3,.mv (.av (.bool false)),.none,[],[]⟩])
 (.seq (.reg false [⟨.some 4,.mv (.av .nils),.none,[],[]⟩])
 (.seq (.seq (.reg false [⟨.some 9,.mv (.tmp 0),.none,[],[]⟩,⟨.some 10,.len false (.tmp 9),.none,[],[]⟩,⟨.some 11,.mv (.av (.int .i64 0)),.none,[],[]⟩])
 (.block 0
 l_profile_numbers_1))
 t_profile_numbers_1))),
 [.tmp 2,.tmp 3], false⟩
theorem c_profile_numbers : chkFunc Tryz.prog gl n_profile_numbers a_profile_numbers = true := by kernel_rfl
def b_profile_check_1 : ACode :=
 (.seq (.reg false [⟨.some 10,.bin .lss (.tmp 9) (.tmp 8),.none,[],[]⟩])
 (.seq (.cond (.tmp 10)
 .skip
 (.exit 0))
 (.cut [7,8,9] []
 (.seq (.block 1
 (.seq (.reg false [⟨.some 11,.iaddr .none 4 (.tmp 7) (.tmp 9),.none,[],[]⟩,⟨.some 12,.load true false 4 (.tmp 11),.none,[],[]⟩,⟨.some 4,.alloc [(.str []),(.int .i64 0),.nils,.nils],.none,[],[]⟩,⟨.none,.store 4 (.tmp 4) (.tmp 12),.none,[12],[]⟩])
 (.seq (.reg false [⟨.some 14,.load true false 4 (.tmp 4),.none,[],[]⟩,⟨.some 15,.call (.av (.fn n_profile_CheckPlan [])) [(.tmp 14)],.none,[],[]⟩,⟨.some 13,.mv (.tmp 15),.none,[],[]⟩,⟨.some 16,.extract (.tmp 13) 0,.none,[],[]⟩,⟨.some 17,.extract (.tmp 13) 1,.none,[],[]⟩,⟨.some 5,.mv (.tmp 16),.none,[],[]⟩,⟨.some 6,.mv (.tmp 17),.none,[],[]⟩])
 (.seq (.reg false [⟨.some 18,.mv (.tmp 6),.none,[],[]⟩,⟨.some 19,.bin .neq (.tmp 18) (.av (.int .i64 0)),.none,[],[]⟩])
 (.cond (.tmp 19)
 (.seq (.reg false [⟨.some 20,.mv (.tmp 6),.none,[],[]⟩,⟨.some 2,.mv (.tmp 20),.none,[],[]⟩])
 .ret)
 .skip)))))
 (.cut [7,8,9] []
 (.reg false [⟨.some 21,.bin .add (.tmp 9) (.av (.int .i64 1)),.none,[],[]⟩,⟨.some 9,.mv (.tmp 21),.none,[],[]⟩]))))))
def l_profile_check_1 : ACode := .loop (.cut [7,8,9] [[4]] b_profile_check_1)
@[simp] def t_profile_check_1 : ACode :=
 (.cut [] []
 (.seq (.reg false [⟨.some 2,.mv (.av (.int .i64 0)),.none,[],[]⟩])
 .ret))
def a_profile_check : AFunc := ⟨22,
 (.seq (.reg false [⟨.some 2,.mv (.av (.int .i64 0)),.none,[],[]⟩])
 (.seq (.seq (.reg false [⟨.some 7,.mv (.tmp 0),.none,[],[]⟩,⟨.some 8,.len false (.tmp 7),.none,[],[]⟩,⟨.some 9,.mv (.av (.int .i64 0)),.none,[],[]⟩])
 (.block 0
 l_profile_check_1))
 t_profile_check_1)),
 [.tmp 2], false⟩
theorem c_profile_check : chkFunc Tryz.prog gl n_profile_check a_profile_check = true := by kernel_rfl
def a_desk_world_vessel_c1 : AFunc := ⟨8,
 (.seq (.reg false [⟨.some 2,.box true (.tmp 0),.none,[],[]⟩,⟨.some 3,.mv (.av (.bool false)),.none,[],[]⟩])
 (.seq (.reg false [⟨.some 4,.faddr 0 (.tmp 2),.none,[],[]⟩,⟨.some 5,.load false false 1 (.tmp 4),.none,[],[]⟩,⟨.some 6,.load false false 1 (.tmp 1),.none,[],[]⟩,⟨.some 7,.bin .eql (.tmp 5) (.tmp 6),.none,[],[]⟩,⟨.some 3,.mv (.tmp 7),.none,[],[]⟩])
 .ret)),
 [.tmp 3], false⟩
theorem c_desk_world_vessel_c1 : chkFunc Tryz.prog gl n_desk_world_vessel_c1 a_desk_world_vessel_c1 = true := by kernel_rfl
def a_slices_Clip_api_MixContent : AFunc := ⟨9,
 (.seq (.reg false [⟨.some 2,.mv (.av .nils),.none,[],[]⟩])
 (.seq (.reg false [⟨.some 3,.mv (.tmp 0),.none,[],[]⟩,⟨.some 4,.mv (.tmp 0),.none,[],[]⟩,⟨.some 5,.len false (.tmp 4),.none,[],[]⟩,⟨.some 6,.mv (.tmp 0),.none,[],[]⟩,⟨.some 7,.len false (.tmp 6),.none,[],[]⟩,⟨.some 8,.slice (.slc 3) (.tmp 3) .none (.some (.tmp 5)) (.some (.tmp 7)),.none,[],[]⟩,⟨.some 2,.mv (.tmp 8),.none,[8],[]⟩])
 .ret)),
 [.tmp 2], false⟩
theorem c_slices_Clip_api_MixContent : chkFunc Tryz.prog gl n_slices_Clip_api_MixContent a_slices_Clip_api_MixContent = true := by kernel_rfl
def b_slices_stableCmpFunc_int_1 : ACode :=
 (.seq (.seq (.reg false [⟨.some 33,.mv (.tmp 8),.none,[],[]⟩,⟨.some 34,.mv (.tmp 1),.none,[],[]⟩,⟨.some 35,.bin .leq (.tmp 33) (.tmp 34),.none,[],[]⟩])
 (.cond (.tmp 35)
 .skip
 (.exit 4)))
 (.cut [0,1,2,6,7,8] []
 (.block 5
 (.seq (.reg false [⟨.some 36,.mv (.tmp 0),.none,[],[]⟩,⟨.some 37,.mv (.tmp 7),.none,[],[]⟩,⟨.some 38,.mv (.tmp 7),.none,[],[]⟩,⟨.some 39,.mv (.tmp 6),.none,[],[]⟩,⟨.some 40,.bin .add (.tmp 38) (.tmp 39),.none,[],[]⟩,⟨.some 41,.mv (.tmp 8),.none,[],[]⟩,⟨.some 42,.mv (.tmp 2),.none,[],[]⟩,⟨.some 43,.call (.av (.fn n_slices_symMergeCmpFunc_int [])) [(.tmp 36),(.tmp 37),(.tmp 40),(.tmp 41),(.tmp 42)],.none,[],[]⟩])
 (.seq (.reg false [⟨.some 44,.mv (.tmp 8),.none,[],[]⟩,⟨.some 7,.mv (.tmp 44),.none,[],[]⟩])
 (.reg false [⟨.some 45,.mv (.tmp 8),.none,[],[]⟩,⟨.some 46,.mv (.tmp 6),.none,[],[]⟩,⟨.some 47,.bin .mul (.av (.int .i64 2)) (.tmp 46),.none,[],[]⟩,⟨.some 48,.bin .add (.tmp 45) (.tmp 47),.none,[],[]⟩,⟨.some 8,.mv (.tmp 48),.none,[],[]⟩]))))))
def l_slices_stableCmpFunc_int_1 : ACode := .loop (.cut [0,1,2,6,7,8] [] b_slices_stableCmpFunc_int_1)
@[simp] def t_slices_stableCmpFunc_int_1 : ACode :=
 (.cut [0,1,2,6,7] []
 (.seq (.seq (.reg false [⟨.some 49,.mv (.tmp 7),.none,[],[]⟩,⟨.some 50,.mv (.tmp 6),.none,[],[]⟩,⟨.some 51,.bin .add (.tmp 49) (.tmp 50),.none,[],[]⟩,⟨.some 9,.mv (.tmp 51),.none,[],[]⟩])
 (.seq (.reg false [⟨.some 52,.mv (.tmp 9),.none,[],[]⟩,⟨.some 53,.mv (.tmp 1),.none,[],[]⟩,⟨.some 54,.bin .lss (.tmp 52) (.tmp 53),.none,[],[]⟩])
 (.cond (.tmp 54)
 (.reg false [⟨.some 55,.mv (.tmp 0),.none,[],[]⟩,⟨.some 56,.mv (.tmp 7),.none,[],[]⟩,⟨.some 57,.mv (.tmp 9),.none,[],[]⟩,⟨.some 58,.mv (.tmp 1),.none,[],[]⟩,⟨.some 59,.mv (.tmp 2),.none,[],[]⟩,⟨.some 60,.call (.av (.fn n_slices_symMergeCmpFunc_int [])) [(.tmp 55),(.tmp 56),(.tmp 57),(.tmp 58),(.tmp 59)],.none,[],[]⟩])
 .skip)))
 (.cut [0,1,2,6] []
 (.reg false [⟨.some 61,.mv (.tmp 6),.none,[],[]⟩,⟨.some 62,.bin .mul (.tmp 61) (.av (.int .i64 2)),.none,[],[]⟩,⟨.some 6,.mv (.tmp 62),.none,[],[]⟩]))))
def b_slices_stableCmpFunc_int_2 : ACode :=
 (.seq (.seq (.reg false [⟨.some 28,.mv (.tmp 6),.none,[],[]⟩,⟨.some 29,.mv (.tmp 1),.none,[],[]⟩,⟨.some 30,.bin .lss (.tmp 28) (.tmp 29),.none,[],[]⟩])
 (.cond (.tmp 30)
 .skip
 (.exit 2)))
 (.cut [0,1,2,6] []
 (.block 3
 (.seq (.reg false [⟨.some 31,.mv (.tmp 6),.none,[],[]⟩,⟨.some 32,.bin .mul (.av (.int .i64 2)) (.tmp 31),.none,[],[]⟩,⟨.some 7,.mv (.av (.int .i64 0)),.none,[],[]⟩,⟨.some 8,.mv (.tmp 32),.none,[],[]⟩])
 (.seq (.block 4
 l_slices_stableCmpFunc_int_1)
 t_slices_stableCmpFunc_int_1)))))
def l_slices_stableCmpFunc_int_2 : ACode := .loop (.cut [0,1,2,6] [] b_slices_stableCmpFunc_int_2)
def b_slices_stableCmpFunc_int_3 : ACode :=
 (.seq (.seq (.reg false [⟨.some 11,.mv (.tmp 8),.none,[],[]⟩,⟨.some 12,.mv (.tmp 1),.none,[],[]⟩,⟨.some 13,.bin .leq (.tmp 11) (.tmp 12),.none,[],[]⟩])
 (.cond (.tmp 13)
 .skip
 (.exit 0)))
 (.cut [0,1,2,6,7,8] []
 (.block 1
 (.seq (.reg false [⟨.some 14,.mv (.tmp 0),.none,[],[]⟩,⟨.some 15,.mv (.tmp 7),.none,[],[]⟩,⟨.some 16,.mv (.tmp 8),.none,[],[]⟩,⟨.some 17,.mv (.tmp 2),.none,[],[]⟩,⟨.some 18,.call (.av (.fn n_slices_insertionSortCmpFunc_int [])) [(.tmp 14),(.tmp 15),(.tmp 16),(.tmp 17)],.none,[],[]⟩])
 (.seq (.reg false [⟨.some 19,.mv (.tmp 8),.none,[],[]⟩,⟨.some 7,.mv (.tmp 19),.none,[],[]⟩])
 (.reg false [⟨.some 20,.mv (.tmp 8),.none,[],[]⟩,⟨.some 21,.mv (.tmp 6),.none,[],[]⟩,⟨.some 22,.bin .add (.tmp 20) (.tmp 21),.none,[],[]⟩,⟨.some 8,.mv (.tmp 22),.none,[],[]⟩]))))))
def l_slices_stableCmpFunc_int_3 : ACode := .loop (.cut [0,1,2,6,7,8] [] b_slices_stableCmpFunc_int_3)
@[simp] def t_slices_stableCmpFunc_int_3 : ACode :=
 (.cut [0,1,2,6,7] []
 (.seq (.reg false [⟨.some 23,.mv (.tmp 0),.none,[],[]⟩,⟨.some 24,.mv (.tmp 7),.none,[],[]⟩,⟨.some 25,.mv (.tmp 1),.none,[],[]⟩,⟨.some 26,.mv (.tmp 2),.none,[],[]⟩,⟨.some 27,.call (.av (.fn n_slices_insertionSortCmpFunc_int [])) [(.tmp 23),(.tmp 24),(.tmp 25),(.tmp 26)],.none,[],[]⟩])
 (.block 2
 l_slices_stableCmpFunc_int_2)))
def a_slices_stableCmpFunc_int : AFunc := ⟨63,
 (.seq (.reg false [⟨.some 6,.mv (.av (.int .i64 20)),.none,[],[]⟩])
 (.seq (.reg false [⟨.some 10,.mv (.tmp 6),.none,[],[]⟩,⟨.some 7,.mv (.av (.int .i64 0)),.none,[],[]⟩,⟨.some 8,.mv (.tmp 10),.none,[],[]⟩])
 (.seq (.block 0
 l_slices_stableCmpFunc_int_3)
 t_slices_stableCmpFunc_int_3))),
 [], false⟩
theorem c_slices_stableCmpFunc_int : chkFunc Tryz.prog gl n_slices_stableCmpFunc_int a_slices_stableCmpFunc_int = true := by kernel_rfl
def a_cmp_isNaN_int : AFunc := ⟨6,
 (.seq (.reg false [⟨.some 2,.mv (.av (.bool false)),.none,[],[]⟩])
 (.seq (.reg false [⟨.some 3,.mv (.tmp 0),.none,[],[]⟩,⟨.some 4,.mv (.tmp 0),.none,[],[]⟩,⟨.some 5,.bin .neq (.tmp 3) (.tmp 4),.none,[],[]⟩,⟨.some 2,.mv (.tmp 5),.none,[],[]⟩])
 .ret)),
 [.tmp 2], false⟩
theorem c_cmp_isNaN_int : chkFunc Tryz.prog gl n_cmp_isNaN_int a_cmp_isNaN_int = true := by kernel_rfl
def b_slices_IndexFunc_api_KitItem_1 : ACode :=
 (.seq (.reg false [⟨.some 9,.bin .lss (.tmp 8) (.tmp 7),.none,[],[]⟩])
 (.seq (.cond (.tmp 9)
 .skip
 (.exit 0))
 (.cut [0,1,7,8] []
 (.seq (.block 1
 (.seq (.reg false [⟨.some 10,.mv (.tmp 8),.none,[],[]⟩,⟨.some 5,.mv (.tmp 10),.none,[],[]⟩])
 (.seq (.reg false [⟨.some 11,.mv (.tmp 1),.none,[],[]⟩,⟨.some 12,.mv (.tmp 0),.none,[],[]⟩,⟨.some 13,.mv (.tmp 5),.none,[],[]⟩,⟨.some 14,.iaddr .none 3 (.tmp 12) (.tmp 13),.none,[],[]⟩,⟨.some 15,.load true false 3 (.tmp 14),.none,[],[]⟩,⟨.some 16,.call (.tmp 11) [(.tmp 15)],.none,[],[]⟩])
 (.cond (.tmp 16)
 (.seq (.reg false [⟨.some 17,.mv (.tmp 5),.none,[],[]⟩,⟨.some 4,.mv (.tmp 17),.none,[],[]⟩])
 .ret)
 .skip))))
 (.cut [0,1,7,8] []
 (.reg false [⟨.some 18,.bin .add (.tmp 8) (.av (.int .i64 1)),.none,[],[]⟩,⟨.some 8,.mv (.tmp 18),.none,[],[]⟩]))))))
def l_slices_IndexFunc_api_KitItem_1 : ACode := .loop (.cut [0,1,7,8] [] b_slices_IndexFunc_api_KitItem_1)
@[simp] def t_slices_IndexFunc_api_KitItem_1 : ACode :=
 (.cut [] []
 (.seq (.reg false [⟨.some 4,.mv (.av (.int .i64 (-1))),.none,[],[]⟩])
 .ret))
def a_slices_IndexFunc_api_KitItem : AFunc := ⟨19,
 (.seq (.reg false [⟨.some 4,.mv (.av (.int .i64 0)),.none,[],[]⟩])
 (.seq (.seq (.reg false [⟨.some 6,.mv (.tmp 0),.none,[],[]⟩,⟨.some 7,.len false (.tmp 6),.none,[],[]⟩,⟨.some 8,.mv (.av (.int .i64 0)),.none,[],[]⟩])
 (.block 0
 l_slices_IndexFunc_api_KitItem_1))
 t_slices_IndexFunc_api_KitItem_1)),
 [.tmp 4], false⟩
theorem c_slices_IndexFunc_api_KitItem : chkFunc Tryz.prog gl n_slices_IndexFunc_api_KitItem a_slices_IndexFunc_api_KitItem = true := by kernel_rfl
def a_gas_within : AFunc := ⟨15,
 (.seq (.reg false [⟨.some 6,.mv (.av (.bool false)),.none,[],[]⟩])
 (.seq (.reg false [⟨.some 7,.mv (.tmp 1),.none,[],[]⟩,⟨.some 8,.mv (.tmp 0),.none,[],[]⟩,⟨.some 9,.bin .leq (.tmp 7) (.tmp 8),.none,[],[]⟩,⟨.some 10,.mv (.tmp 9),.none,[],[]⟩,⟨.some 11,.mv (.tmp 0),.some (10,true),[],[]⟩,⟨.some 12,.mv (.tmp 2),.some (10,true),[],[]⟩,⟨.some 13,.bin .leq (.tmp 11) (.tmp 12),.some (10,true),[],[]⟩,⟨.some 14,.pick (.tmp 10) (.tmp 13) (.av (.bool false)),.none,[],[]⟩,⟨.some 6,.mv (.tmp 14),.none,[],[]⟩])
 .ret)),
 [.tmp 6], false⟩
theorem c_gas_within : chkFunc Tryz.prog gl n_gas_within a_gas_within = true := by kernel_rfl
def a_mix_number : AFunc := ⟨29,
 (.seq (.reg false [⟨.some 4,.mv (.av (.bool false)),.none,[],[]⟩])
 (.seq (.reg false [⟨.some 8,.mv (.tmp 0),.none,[],[]⟩,⟨.some 9,.call (.av (.fn n_strconv_Atoi [])) [(.tmp 8)],.none,[],[]⟩,⟨.some 7,.mv (.tmp 9),.none,[],[]⟩,⟨.some 10,.extract (.tmp 7) 0,.none,[],[]⟩,⟨.some 11,.extract (.tmp 7) 1,.none,[],[]⟩,⟨.some 5,.mv (.tmp 10),.none,[],[]⟩,⟨.some 6,.mv (.tmp 11),.none,[],[]⟩])
 (.seq (.reg false [⟨.some 12,.mv (.tmp 1),.none,[],[]⟩,⟨.some 13,.mv (.tmp 5),.none,[],[]⟩,⟨.some 14,.nilchk (.tmp 12),.none,[],[]⟩,⟨.none,.store 1 (.tmp 14) (.tmp 13),.none,[13],[]⟩])
 (.seq (.reg false [⟨.some 15,.mv (.tmp 6),.none,[],[]⟩,⟨.some 16,.eq .iface false (.tmp 15) (.av .nili),.none,[],[]⟩,⟨.some 17,.mv (.tmp 16),.none,[],[]⟩,⟨.some 18,.mv (.tmp 5),.some (17,true),[],[]⟩,⟨.some 19,.call (.av (.fn n_strconv_Itoa [])) [(.tmp 18)],.some (17,true),[],[]⟩,⟨.some 20,.mv (.tmp 0),.some (17,true),[],[]⟩,⟨.some 21,.bin .eql (.tmp 19) (.tmp 20),.some (17,true),[],[]⟩,⟨.some 22,.pick (.tmp 17) (.tmp 21) (.av (.bool false)),.none,[],[]⟩,⟨.some 23,.mv (.tmp 22),.none,[],[]⟩,⟨.some 24,.mv (.tmp 0),.some (23,true),[],[]⟩,⟨.some 25,.call (.av (.fn n_strings_TrimPrefix [])) [(.tmp 24),(.av (.str [45]))],.some (23,true),[],[]⟩,⟨.some 26,.len true (.tmp 25),.some (23,true),[],[]⟩,⟨.some 27,.bin .leq (.tmp 26) (.av (.int .i64 10)),.some (23,true),[],[]⟩,⟨.some 28,.pick (.tmp 23) (.tmp 27) (.av (.bool false)),.none,[],[]⟩,⟨.some 4,.mv (.tmp 28),.none,[],[]⟩])
 .ret)))),
 [.tmp 4], false⟩
theorem c_mix_number : chkFunc Tryz.prog gl n_mix_number a_mix_number = true := by kernel_rfl
def b_slices_insertionSortCmpFunc_int_1 : ACode :=
 (.seq (.seq (.reg true [⟨.some 18,.mv (.tmp 9),.none,[],[]⟩,⟨.some 19,.mv (.tmp 1),.none,[],[]⟩,⟨.some 20,.bin .gtr (.tmp 18) (.tmp 19),.none,[],[]⟩,⟨.some 21,.mv (.tmp 20),.none,[],[]⟩,⟨.some 22,.mv (.tmp 3),.some (21,true),[],[]⟩,⟨.some 23,.mv (.tmp 0),.some (21,true),[],[]⟩,⟨.some 24,.mv (.tmp 9),.some (21,true),[],[]⟩,⟨.some 25,.iaddr .none 1 (.tmp 23) (.tmp 24),.some (21,true),[],[]⟩,⟨.some 26,.load false false 1 (.tmp 25),.some (21,true),[],[]⟩,⟨.some 27,.mv (.tmp 0),.some (21,true),[],[]⟩,⟨.some 28,.mv (.tmp 9),.some (21,true),[],[]⟩,⟨.some 29,.bin .sub (.tmp 28) (.av (.int .i64 1)),.some (21,true),[],[]⟩,⟨.some 30,.iaddr .none 1 (.tmp 27) (.tmp 29),.some (21,true),[],[]⟩,⟨.some 31,.load false false 1 (.tmp 30),.some (21,true),[],[]⟩,⟨.some 32,.call (.tmp 22) [(.tmp 26),(.tmp 31)],.some (21,true),[],[]⟩,⟨.some 33,.bin .lss (.tmp 32) (.av (.int .i64 0)),.some (21,true),[],[]⟩,⟨.some 34,.pick (.tmp 21) (.tmp 33) (.av (.bool false)),.none,[],[]⟩])
 (.cond (.tmp 34)
 .skip
 (.exit 2)))
 (.cut [0,1,2,3,8,9] []
 (.seq (.block 3
 (.reg true [⟨.some 37,.mv (.tmp 0),.none,[],[]⟩,⟨.some 38,.mv (.tmp 9),.none,[],[]⟩,⟨.some 39,.mv (.tmp 0),.none,[],[]⟩,⟨.some 40,.mv (.tmp 9),.none,[],[]⟩,⟨.some 41,.bin .sub (.tmp 40) (.av (.int .i64 1)),.none,[],[]⟩,⟨.some 42,.mv (.tmp 0),.none,[],[]⟩,⟨.some 43,.mv (.tmp 9),.none,[],[]⟩,⟨.some 44,.bin .sub (.tmp 43) (.av (.int .i64 1)),.none,[],[]⟩,⟨.some 45,.iaddr .none 1 (.tmp 42) (.tmp 44),.none,[],[]⟩,⟨.some 46,.load false false 1 (.tmp 45),.none,[],[]⟩,⟨.some 47,.mv (.tmp 0),.none,[],[]⟩,⟨.some 48,.mv (.tmp 9),.none,[],[]⟩,⟨.some 49,.iaddr .none 1 (.tmp 47) (.tmp 48),.none,[],[]⟩,⟨.some 50,.load false false 1 (.tmp 49),.none,[],[]⟩,⟨.some 51,.iaddr .none 1 (.tmp 37) (.tmp 38),.none,[],[]⟩,⟨.none,.store 1 (.tmp 51) (.tmp 46),.none,[46],[]⟩,⟨.some 52,.iaddr .none 1 (.tmp 39) (.tmp 41),.none,[],[]⟩,⟨.none,.store 1 (.tmp 52) (.tmp 50),.none,[50],[]⟩]))
 (.cut [0,1,2,3,8,9] []
 (.reg false [⟨.some 35,.mv (.tmp 9),.none,[],[]⟩,⟨.some 36,.bin .sub (.tmp 35) (.av (.int .i64 1)),.none,[],[]⟩,⟨.some 9,.mv (.tmp 36),.none,[],[]⟩])))))
def l_slices_insertionSortCmpFunc_int_1 : ACode := .loop (.cut [0,1,2,3,8,9] [] b_slices_insertionSortCmpFunc_int_1)
@[simp] def t_slices_insertionSortCmpFunc_int_1 : ACode :=
 (.cut [0,1,2,3,8] []
 (.reg false [⟨.some 15,.mv (.tmp 8),.none,[],[]⟩,⟨.some 16,.bin .add (.tmp 15) (.av (.int .i64 1)),.none,[],[]⟩,⟨.some 8,.mv (.tmp 16),.none,[],[]⟩]))
def b_slices_insertionSortCmpFunc_int_2 : ACode :=
 (.seq (.seq (.reg false [⟨.some 12,.mv (.tmp 8),.none,[],[]⟩,⟨.some 13,.mv (.tmp 2),.none,[],[]⟩,⟨.some 14,.bin .lss (.tmp 12) (.tmp 13),.none,[],[]⟩])
 (.cond (.tmp 14)
 .skip
 (.exit 0)))
 (.cut [0,1,2,3,8] []
 (.seq (.block 1
 (.seq (.reg false [⟨.some 17,.mv (.tmp 8),.none,[],[]⟩,⟨.some 9,.mv (.tmp 17),.none,[],[]⟩])
 (.block 2
 l_slices_insertionSortCmpFunc_int_1)))
 t_slices_insertionSortCmpFunc_int_1)))
def l_slices_insertionSortCmpFunc_int_2 : ACode := .loop (.cut [0,1,2,3,8] [] b_slices_insertionSortCmpFunc_int_2)
def a_slices_insertionSortCmpFunc_int : AFunc := ⟨53,
 (.seq (.reg false [⟨.some 10,.mv (.tmp 1),.none,[],[]⟩,⟨.some 11,.bin .add (.tmp 10) (.av (.int .i64 1)),.none,[],[]⟩,⟨.some 8,.mv (.tmp 11),.none,[],[]⟩])
 (.block 0
 l_slices_insertionSortCmpFunc_int_2)),
 [], false⟩
theorem c_slices_insertionSortCmpFunc_int : chkFunc Tryz.prog gl n_slices_insertionSortCmpFunc_int a_slices_insertionSortCmpFunc_int = true := by kernel_rfl
end Go.Proofs.YtnhagbllecpkkaaGreatDoor
