/-
  The codes of the functions, as the abstract machine runs them, each checked against the program by the kernel.
-/
import Derived.Test.YtnhagbllecpkkaaGreatDoorCode1
set_option linter.unusedSimpArgs false
set_option linter.unusedVariables false

namespace Go.Proofs.YtnhagbllecpkkaaGreatDoor
open Go Go.VA Go.Proofs
/- (*shotline/mix.store).enter -/
def a_mix_store_enter : AFunc := ⟨209,
 (.seq (.reg false [⟨.some 3,.box true (.tmp 1),.none,[],[]⟩,
 ⟨.some 4,.mv (.av (.int .i64 0)),.none,[],[]⟩])
 (.seq (.seq (.reg false [⟨.some 11,.load true false 8 (.tmp 3),.none,[],[]⟩,
 ⟨.some 12,.call (.av (.fn n_mix_alone [])) [(.tmp 11)],.none,[],[]⟩,
 ⟨.some 5,.mv (.tmp 12),.none,[],[]⟩])
 (.seq (.reg false [⟨.some 13,.mv (.tmp 5),.none,[],[]⟩,
 ⟨.some 14,.bin .neq (.tmp 13) (.av (.int .i64 0)),.none,[],[]⟩])
 (.cond (.tmp 14)
 (.seq (.reg false [⟨.some 15,.mv (.tmp 5),.none,[],[]⟩,
 ⟨.some 4,.mv (.tmp 15),.none,[],[]⟩])
 .ret)
 .skip)))
 (.cut [0,3] []
 (.seq (.reg true [⟨.some 16,.mv (.tmp 0),.none,[],[]⟩,
 ⟨.some 17,.nilchk (.tmp 16),.none,[],[]⟩,
 ⟨.some 18,.faddr 0 (.tmp 17),.none,[],[]⟩,
 ⟨.some 19,.load false false 1 (.tmp 18),.none,[],[]⟩,
 ⟨.some 20,.faddr 2 (.tmp 3),.none,[],[]⟩,
 ⟨.some 21,.load false false 1 (.tmp 20),.none,[],[]⟩,
 ⟨.some 22,.call (.av (.fn n_mix_vessel [])) [(.tmp 19),(.tmp 21)],.none,[],[6]⟩,
 ⟨.some 23,.mv (.tmp 0),.none,[],[]⟩,
 ⟨.some 24,.nilchk (.tmp 23),.none,[],[]⟩,
 ⟨.some 25,.faddr 0 (.tmp 24),.none,[],[]⟩,
 ⟨.some 26,.load false false 1 (.tmp 25),.none,[],[]⟩,
 ⟨.some 27,.faddr 3 (.tmp 3),.none,[],[]⟩,
 ⟨.some 28,.load false false 1 (.tmp 27),.none,[],[]⟩,
 ⟨.some 29,.call (.av (.fn n_mix_vessel [])) [(.tmp 26),(.tmp 28)],.none,[],[]⟩,
 ⟨.some 6,.mv (.tmp 22),.none,[],[]⟩,
 ⟨.some 7,.mv (.tmp 29),.none,[],[]⟩])
 (.seq (.block 0
 (.seq (.reg false [⟨.some 31,.faddr 0 (.tmp 3),.none,[],[]⟩,
 ⟨.some 32,.load false false 1 (.tmp 31),.none,[],[]⟩,
 ⟨.some 33,.call (.av (.fn n_mix_takes [])) [(.tmp 32)],.none,[],[]⟩,
 ⟨.some 34,.mv (.tmp 33),.none,[],[]⟩,
 ⟨.some 35,.mv (.tmp 6),.some (34,true),[],[]⟩,
 ⟨.some 36,.bin .lss (.tmp 35) (.av (.int .i64 0)),.some (34,true),[],[]⟩,
 ⟨.some 37,.pick (.tmp 34) (.tmp 36) (.av (.bool false)),.none,[],[]⟩,
 ⟨.some 38,.mv (.tmp 37),.none,[],[]⟩,
 ⟨.some 39,.faddr 0 (.tmp 3),.some (38,false),[],[]⟩,
 ⟨.some 40,.load false false 1 (.tmp 39),.some (38,false),[],[]⟩,
 ⟨.some 41,.call (.av (.fn n_mix_puts [])) [(.tmp 40)],.some (38,false),[],[]⟩,
 ⟨.some 42,.mv (.tmp 41),.some (38,false),[],[]⟩,
 ⟨.some 43,.mv (.tmp 7),.some (42,true),[],[]⟩,
 ⟨.some 44,.bin .lss (.tmp 43) (.av (.int .i64 0)),.some (42,true),[],[]⟩,
 ⟨.some 45,.pick (.tmp 42) (.tmp 44) (.av (.bool false)),.some (38,false),[],[]⟩,
 ⟨.some 46,.pick (.tmp 38) (.av (.bool true)) (.tmp 45),.none,[],[]⟩,
 ⟨.some 30,.mv (.tmp 46),.none,[],[]⟩])
 (.cond (.tmp 30)
 (.seq (.reg false [⟨.some 4,.mv (.av (.int .i64 6)),.none,[],[]⟩])
 .ret)
 (.seq (.reg true [⟨.some 48,.faddr 1 (.tmp 3),.none,[],[]⟩,
 ⟨.some 49,.load false false 1 (.tmp 48),.none,[],[]⟩,
 ⟨.some 50,.mv (.tmp 0),.none,[],[]⟩,
 ⟨.some 51,.nilchk (.tmp 50),.none,[],[]⟩,
 ⟨.some 52,.faddr 8 (.tmp 51),.none,[],[]⟩,
 ⟨.some 53,.load false false 1 (.tmp 52),.none,[],[]⟩,
 ⟨.some 54,.bin .lss (.tmp 49) (.tmp 53),.none,[],[]⟩,
 ⟨.some 47,.mv (.tmp 54),.none,[],[]⟩])
 (.cond (.tmp 47)
 (.seq (.reg false [⟨.some 4,.mv (.av (.int .i64 9)),.none,[],[]⟩])
 .ret)
 (.seq (.reg true [⟨.some 56,.faddr 0 (.tmp 3),.none,[],[]⟩,
 ⟨.some 57,.load false false 1 (.tmp 56),.none,[],[]⟩,
 ⟨.some 58,.call (.av (.fn n_mix_takes [])) [(.tmp 57)],.none,[],[]⟩,
 ⟨.some 59,.mv (.tmp 58),.none,[],[]⟩,
 ⟨.some 60,.mv (.tmp 0),.some (59,true),[],[]⟩,
 ⟨.some 61,.nilchk (.tmp 60),.some (59,true),[],[]⟩,
 ⟨.some 62,.faddr 1 (.tmp 61),.some (59,true),[],[]⟩,
 ⟨.some 63,.load false false 1 (.tmp 62),.some (59,true),[],[]⟩,
 ⟨.some 64,.mv (.tmp 6),.some (59,true),[],[]⟩,
 ⟨.some 65,.iaddr .none 3 (.tmp 63) (.tmp 64),.some (59,true),[],[]⟩,
 ⟨.some 66,.load true false 3 (.tmp 65),.some (59,true),[],[]⟩,
 ⟨.some 67,.call (.av (.fn n_mix_gases_sum [])) [(.tmp 66)],.some (59,true),[],[11]⟩,
 ⟨.some 68,.faddr 6 (.tmp 3),.some (59,true),[],[]⟩,
 ⟨.some 69,.load false false 1 (.tmp 68),.some (59,true),[],[]⟩,
 ⟨.some 70,.bin .lss (.tmp 67) (.tmp 69),.some (59,true),[],[]⟩,
 ⟨.some 71,.pick (.tmp 59) (.tmp 70) (.av (.bool false)),.none,[],[]⟩,
 ⟨.some 55,.mv (.tmp 71),.none,[],[]⟩])
 (.cond (.tmp 55)
 (.seq (.reg false [⟨.some 4,.mv (.av (.int .i64 20)),.none,[],[]⟩])
 .ret)
 .skip)))))))
 (.cut [0,3,6,7] []
 (.seq (.seq (.reg false [⟨.some 72,.faddr 0 (.tmp 3),.none,[],[]⟩,
 ⟨.some 73,.load false false 1 (.tmp 72),.none,[],[]⟩,
 ⟨.some 74,.call (.av (.fn n_mix_puts [])) [(.tmp 73)],.none,[],[]⟩])
 (.cond (.tmp 74)
 (.seq (.reg true [⟨.some 75,.mv (.tmp 0),.none,[],[]⟩,
 ⟨.some 76,.nilchk (.tmp 75),.none,[],[]⟩,
 ⟨.some 77,.faddr 1 (.tmp 76),.none,[],[]⟩,
 ⟨.some 78,.load false false 1 (.tmp 77),.none,[],[]⟩,
 ⟨.some 79,.mv (.tmp 7),.none,[],[]⟩,
 ⟨.some 80,.iaddr .none 3 (.tmp 78) (.tmp 79),.none,[],[]⟩,
 ⟨.some 81,.load true false 3 (.tmp 80),.none,[],[]⟩,
 ⟨.some 82,.call (.av (.fn n_mix_gases_sum [])) [(.tmp 81)],.none,[],[7]⟩,
 ⟨.some 83,.faddr 6 (.tmp 3),.none,[],[]⟩,
 ⟨.some 84,.load false false 1 (.tmp 83),.none,[],[]⟩,
 ⟨.some 85,.bin .add (.tmp 82) (.tmp 84),.none,[],[]⟩,
 ⟨.some 8,.mv (.tmp 85),.none,[],[]⟩])
 (.seq (.reg false [⟨.some 86,.mv (.tmp 0),.none,[],[]⟩,
 ⟨.some 87,.nilchk (.tmp 86),.none,[],[]⟩,
 ⟨.some 88,.faddr 0 (.tmp 87),.none,[],[]⟩,
 ⟨.some 89,.load false false 1 (.tmp 88),.none,[],[]⟩,
 ⟨.some 90,.mv (.tmp 7),.none,[],[]⟩,
 ⟨.some 91,.iaddr .none 3 (.tmp 89) (.tmp 90),.none,[],[]⟩,
 ⟨.some 92,.load true false 3 (.tmp 91),.none,[],[]⟩,
 ⟨.some 9,.alloc [(.str []),(.int .i64 0),(.int .i64 0)],.none,[],[]⟩,
 ⟨.none,.store 3 (.tmp 9) (.tmp 92),.none,[92],[]⟩])
 (.block 1
 (.seq (.reg false [⟨.some 94,.mv (.tmp 8),.none,[],[]⟩,
 ⟨.some 95,.bin .mul (.av (.int .i64 1000)) (.tmp 94),.none,[],[]⟩,
 ⟨.some 96,.faddr 2 (.tmp 9),.none,[],[]⟩,
 ⟨.some 97,.load false false 1 (.tmp 96),.none,[],[]⟩,
 ⟨.some 98,.faddr 1 (.tmp 9),.none,[],[]⟩,
 ⟨.some 99,.load false false 1 (.tmp 98),.none,[],[]⟩,
 ⟨.some 100,.bin .mul (.tmp 97) (.tmp 99),.none,[],[]⟩,
 ⟨.some 101,.bin .gtr (.tmp 95) (.tmp 100),.none,[],[]⟩,
 ⟨.some 93,.mv (.tmp 101),.none,[],[]⟩])
 (.cond (.tmp 93)
 (.seq (.reg false [⟨.some 4,.mv (.av (.int .i64 16)),.none,[],[]⟩])
 .ret)
 (.seq (.reg true [⟨.some 103,.faddr 0 (.tmp 3),.none,[],[]⟩,
 ⟨.some 104,.load false false 1 (.tmp 103),.none,[],[]⟩,
 ⟨.some 105,.bin .eql (.tmp 104) (.av (.int .i64 1)),.none,[],[]⟩,
 ⟨.some 106,.mv (.tmp 105),.none,[],[]⟩,
 ⟨.some 107,.faddr 7 (.tmp 3),.some (106,true),[],[]⟩,
 ⟨.some 108,.load false false 1 (.tmp 107),.some (106,true),[],[]⟩,
 ⟨.some 109,.un .not (.tmp 108),.some (106,true),[],[]⟩,
 ⟨.some 110,.pick (.tmp 106) (.tmp 109) (.av (.bool false)),.none,[],[]⟩,
 ⟨.some 111,.mv (.tmp 110),.none,[],[]⟩,
 ⟨.some 112,.mv (.tmp 0),.some (111,true),[],[]⟩,
 ⟨.some 113,.mv (.tmp 7),.some (111,true),[],[]⟩,
 ⟨.some 114,.mv (.tmp 8),.some (111,true),[],[]⟩,
 ⟨.some 115,.mv (.tmp 6),.some (111,true),[],[]⟩,
 ⟨.some 116,.mv (.tmp 0),.some (111,true),[],[]⟩,
 ⟨.some 117,.nilchk (.tmp 116),.some (111,true),[],[]⟩,
 ⟨.some 118,.faddr 1 (.tmp 117),.some (111,true),[],[]⟩,
 ⟨.some 119,.load false false 1 (.tmp 118),.some (111,true),[],[]⟩,
 ⟨.some 120,.mv (.tmp 6),.some (111,true),[],[]⟩,
 ⟨.some 121,.iaddr .none 3 (.tmp 119) (.tmp 120),.some (111,true),[],[]⟩,
 ⟨.some 122,.load true false 3 (.tmp 121),.some (111,true),[],[]⟩,
 ⟨.some 123,.call (.av (.fn n_mix_gases_sum [])) [(.tmp 122)],.some (111,true),[],[20]⟩,
 ⟨.some 124,.faddr 6 (.tmp 3),.some (111,true),[],[]⟩,
 ⟨.some 125,.load false false 1 (.tmp 124),.some (111,true),[],[]⟩,
 ⟨.some 126,.bin .sub (.tmp 123) (.tmp 125),.some (111,true),[],[]⟩,
 ⟨.some 127,.call (.av (.fn n_mix_store_above [])) [(.tmp 112),(.tmp 113),(.tmp 114),(.tmp 115),(.tmp 126)],.some (111,true),[],[]⟩,
 ⟨.some 128,.pick (.tmp 111) (.tmp 127) (.av (.bool false)),.none,[],[]⟩,
 ⟨.some 102,.mv (.tmp 128),.none,[],[]⟩])
 (.cond (.tmp 102)
 (.seq (.reg false [⟨.some 4,.mv (.av (.int .i64 24)),.none,[],[]⟩])
 .ret)
 .skip)))))))
 .skip))
 (.cut [0,3,6,7] []
 (.seq (.reg false [⟨.some 129,.faddr 4 (.tmp 3),.none,[],[]⟩,
 ⟨.some 130,.load true false 2 (.tmp 129),.none,[],[]⟩,
 ⟨.some 131,.faddr 6 (.tmp 3),.none,[],[]⟩,
 ⟨.some 132,.load false false 1 (.tmp 131),.none,[],[]⟩,
 ⟨.some 133,.call (.av (.fn n_mix_fresh [])) [(.tmp 130),(.tmp 132)],.none,[],[]⟩,
 ⟨.some 10,.alloc [(.int .i64 0),(.int .i64 0),(.int .i64 0)],.none,[],[]⟩,
 ⟨.none,.store 3 (.tmp 10) (.tmp 133),.none,[133],[]⟩])
 (.seq (.seq (.reg false [⟨.some 134,.faddr 0 (.tmp 3),.none,[],[]⟩,
 ⟨.some 135,.load false false 1 (.tmp 134),.none,[],[]⟩,
 ⟨.some 136,.call (.av (.fn n_mix_takes [])) [(.tmp 135)],.none,[],[]⟩])
 (.cond (.tmp 136)
 (.seq (.reg true [⟨.some 137,.mv (.tmp 0),.none,[],[]⟩,
 ⟨.some 138,.nilchk (.tmp 137),.none,[],[]⟩,
 ⟨.some 139,.faddr 1 (.tmp 138),.none,[],[]⟩,
 ⟨.some 140,.load false false 1 (.tmp 139),.none,[],[]⟩,
 ⟨.some 141,.mv (.tmp 6),.none,[],[]⟩,
 ⟨.some 142,.iaddr .none 3 (.tmp 140) (.tmp 141),.none,[],[]⟩,
 ⟨.some 143,.load true false 3 (.tmp 142),.none,[],[]⟩,
 ⟨.some 144,.faddr 6 (.tmp 3),.none,[],[]⟩,
 ⟨.some 145,.load false false 1 (.tmp 144),.none,[],[]⟩,
 ⟨.some 146,.call (.av (.fn n_mix_gases_share [])) [(.tmp 143),(.tmp 145)],.none,[],[]⟩,
 ⟨.none,.store 3 (.tmp 10) (.tmp 146),.none,[146],[]⟩])
 (.reg true [⟨.some 147,.mv (.tmp 0),.none,[],[]⟩,
 ⟨.some 148,.nilchk (.tmp 147),.none,[],[]⟩,
 ⟨.some 149,.faddr 1 (.tmp 148),.none,[],[]⟩,
 ⟨.some 150,.load false false 1 (.tmp 149),.none,[],[]⟩,
 ⟨.some 151,.mv (.tmp 6),.none,[],[]⟩,
 ⟨.some 152,.mv (.tmp 0),.none,[],[]⟩,
 ⟨.some 153,.nilchk (.tmp 152),.none,[],[]⟩,
 ⟨.some 154,.faddr 1 (.tmp 153),.none,[],[]⟩,
 ⟨.some 155,.load false false 1 (.tmp 154),.none,[],[]⟩,
 ⟨.some 156,.mv (.tmp 6),.none,[],[]⟩,
 ⟨.some 157,.iaddr .none 3 (.tmp 155) (.tmp 156),.none,[],[]⟩,
 ⟨.some 158,.load true false 3 (.tmp 157),.none,[],[]⟩,
 ⟨.some 159,.load true false 3 (.tmp 10),.none,[],[]⟩,
 ⟨.some 160,.call (.av (.fn n_mix_gases_less [])) [(.tmp 158),(.tmp 159)],.none,[],[13]⟩,
 ⟨.some 161,.iaddr .none 3 (.tmp 150) (.tmp 151),.none,[],[]⟩,
 ⟨.none,.store 3 (.tmp 161) (.tmp 160),.none,[160],[]⟩]))
 .skip))
 (.cut [0,3,7,10] []
 (.seq (.seq (.reg false [⟨.some 162,.faddr 0 (.tmp 3),.none,[],[]⟩,
 ⟨.some 163,.load false false 1 (.tmp 162),.none,[],[]⟩,
 ⟨.some 164,.call (.av (.fn n_mix_puts [])) [(.tmp 163)],.none,[],[]⟩])
 (.cond (.tmp 164)
 (.reg true [⟨.some 165,.mv (.tmp 0),.none,[],[]⟩,
 ⟨.some 166,.nilchk (.tmp 165),.none,[],[]⟩,
 ⟨.some 167,.faddr 1 (.tmp 166),.none,[],[]⟩,
 ⟨.some 168,.load false false 1 (.tmp 167),.none,[],[]⟩,
 ⟨.some 169,.mv (.tmp 7),.none,[],[]⟩,
 ⟨.some 170,.mv (.tmp 0),.none,[],[]⟩,
 ⟨.some 171,.nilchk (.tmp 170),.none,[],[]⟩,
 ⟨.some 172,.faddr 1 (.tmp 171),.none,[],[]⟩,
 ⟨.some 173,.load false false 1 (.tmp 172),.none,[],[]⟩,
 ⟨.some 174,.mv (.tmp 7),.none,[],[]⟩,
 ⟨.some 175,.iaddr .none 3 (.tmp 173) (.tmp 174),.none,[],[]⟩,
 ⟨.some 176,.load true false 3 (.tmp 175),.none,[],[]⟩,
 ⟨.some 177,.load true false 3 (.tmp 10),.none,[],[]⟩,
 ⟨.some 178,.call (.av (.fn n_mix_gases_plus [])) [(.tmp 176),(.tmp 177)],.none,[],[13]⟩,
 ⟨.some 179,.iaddr .none 3 (.tmp 168) (.tmp 169),.none,[],[]⟩,
 ⟨.none,.store 3 (.tmp 179) (.tmp 178),.none,[178],[]⟩])
 .skip))
 (.cut [0,3,10] []
 (.seq (.seq (.reg false [⟨.some 180,.faddr 0 (.tmp 3),.none,[],[]⟩,
 ⟨.some 181,.load false false 1 (.tmp 180),.none,[],[]⟩])
 (.block 2
 (.seq (.reg false [⟨.some 183,.bin .eql (.tmp 181) (.av (.int .i64 0)),.none,[],[]⟩,
 ⟨.some 182,.mv (.tmp 183),.none,[],[]⟩])
 (.cond (.tmp 182)
 (.reg true [⟨.some 184,.mv (.tmp 0),.none,[],[]⟩,
 ⟨.some 185,.mv (.tmp 0),.none,[],[]⟩,
 ⟨.some 186,.nilchk (.tmp 185),.none,[],[]⟩,
 ⟨.some 187,.faddr 2 (.tmp 186),.none,[],[]⟩,
 ⟨.some 188,.load true false 3 (.tmp 187),.none,[],[]⟩,
 ⟨.some 189,.load true false 3 (.tmp 10),.none,[],[]⟩,
 ⟨.some 190,.call (.av (.fn n_mix_gases_plus [])) [(.tmp 188),(.tmp 189)],.none,[],[]⟩,
 ⟨.some 191,.nilchk (.tmp 184),.none,[],[]⟩,
 ⟨.some 192,.faddr 2 (.tmp 191),.none,[],[]⟩,
 ⟨.none,.store 3 (.tmp 192) (.tmp 190),.none,[190],[]⟩])
 (.seq (.reg false [⟨.some 194,.bin .eql (.tmp 181) (.av (.int .i64 2)),.none,[],[]⟩,
 ⟨.some 193,.mv (.tmp 194),.none,[],[]⟩])
 (.cond (.tmp 193)
 (.reg true [⟨.some 195,.mv (.tmp 0),.none,[],[]⟩,
 ⟨.some 196,.mv (.tmp 0),.none,[],[]⟩,
 ⟨.some 197,.nilchk (.tmp 196),.none,[],[]⟩,
 ⟨.some 198,.faddr 5 (.tmp 197),.none,[],[]⟩,
 ⟨.some 199,.load true false 3 (.tmp 198),.none,[],[]⟩,
 ⟨.some 200,.load true false 3 (.tmp 10),.none,[],[]⟩,
 ⟨.some 201,.call (.av (.fn n_mix_gases_plus [])) [(.tmp 199),(.tmp 200)],.none,[],[]⟩,
 ⟨.some 202,.nilchk (.tmp 195),.none,[],[]⟩,
 ⟨.some 203,.faddr 5 (.tmp 202),.none,[],[]⟩,
 ⟨.none,.store 3 (.tmp 203) (.tmp 201),.none,[201],[]⟩])
 .skip))))))
 (.cut [0,3] []
 (.seq (.reg false [⟨.some 204,.mv (.tmp 0),.none,[],[]⟩,
 ⟨.some 205,.faddr 1 (.tmp 3),.none,[],[]⟩,
 ⟨.some 206,.load false false 1 (.tmp 205),.none,[],[]⟩,
 ⟨.some 207,.nilchk (.tmp 204),.none,[],[]⟩,
 ⟨.some 208,.faddr 8 (.tmp 207),.none,[],[]⟩,
 ⟨.none,.store 1 (.tmp 208) (.tmp 206),.none,[206],[]⟩])
 (.seq (.reg false [⟨.some 4,.mv (.av (.int .i64 0)),.none,[],[]⟩])
 .ret))))))))))))))))),
 [.tmp 4], false⟩
theorem c_mix_store_enter : chkFunc Tryz.prog gl n_mix_store_enter a_mix_store_enter = true := by kernel_rfl
/- slices.IndexFunc[[]shotline/api.DeskDive,shotline/api.DeskDive] -/
def b_slices_IndexFunc_api_DeskDive_1 : ACode :=
 (.seq (.reg false [⟨.some 9,.bin .lss (.tmp 8) (.tmp 7),.none,[],[]⟩])
 (.seq (.cond (.tmp 9)
 .skip
 (.exit 0))
 (.cut [0,1,7,8] []
 (.seq (.block 1
 (.seq (.reg false [⟨.some 10,.mv (.tmp 8),.none,[],[]⟩,
 ⟨.some 5,.mv (.tmp 10),.none,[],[]⟩])
 (.seq (.reg false [⟨.some 11,.mv (.tmp 1),.none,[],[]⟩,
 ⟨.some 12,.mv (.tmp 0),.none,[],[]⟩,
 ⟨.some 13,.mv (.tmp 5),.none,[],[]⟩,
 ⟨.some 14,.iaddr .none 6 (.tmp 12) (.tmp 13),.none,[],[]⟩,
 ⟨.some 15,.load true false 6 (.tmp 14),.none,[],[]⟩,
 ⟨.some 16,.call (.tmp 11) [(.tmp 15)],.none,[],[]⟩])
 (.cond (.tmp 16)
 (.seq (.reg false [⟨.some 17,.mv (.tmp 5),.none,[],[]⟩,
 ⟨.some 4,.mv (.tmp 17),.none,[],[]⟩])
 .ret)
 .skip))))
 (.cut [0,1,7,8] []
 (.reg false [⟨.some 18,.bin .add (.tmp 8) (.av (.int .i64 1)),.none,[],[]⟩,
 ⟨.some 8,.mv (.tmp 18),.none,[],[]⟩]))))))
def l_slices_IndexFunc_api_DeskDive_1 : ACode := .loop (.cut [0,1,7,8] [] b_slices_IndexFunc_api_DeskDive_1)
def a_slices_IndexFunc_api_DeskDive : AFunc := ⟨19,
 (.seq (.reg false [⟨.some 4,.mv (.av (.int .i64 0)),.none,[],[]⟩])
 (.seq (.seq (.reg false [⟨.some 6,.mv (.tmp 0),.none,[],[]⟩,
 ⟨.some 7,.len false (.tmp 6),.none,[],[]⟩,
 ⟨.some 8,.mv (.av (.int .i64 0)),.none,[],[]⟩])
 (.block 0
 l_slices_IndexFunc_api_DeskDive_1))
 (.cut [] []
 (.seq (.reg false [⟨.some 4,.mv (.av (.int .i64 (-1))),.none,[],[]⟩])
 .ret)))),
 [.tmp 4], false⟩
theorem c_slices_IndexFunc_api_DeskDive : chkFunc Tryz.prog gl n_slices_IndexFunc_api_DeskDive a_slices_IndexFunc_api_DeskDive = true := by kernel_rfl
/- (*shotline/desk.world).dive$1 -/
def a_desk_world_dive_c1 : AFunc := ⟨8,
 (.seq (.reg false [⟨.some 2,.box true (.tmp 0),.none,[],[]⟩,
 ⟨.some 3,.mv (.av (.bool false)),.none,[],[]⟩])
 (.seq (.reg false [⟨.some 4,.faddr 0 (.tmp 2),.none,[],[]⟩,
 ⟨.some 5,.load false false 1 (.tmp 4),.none,[],[]⟩,
 ⟨.some 6,.load false false 1 (.tmp 1),.none,[],[]⟩,
 ⟨.some 7,.bin .eql (.tmp 5) (.tmp 6),.none,[],[]⟩,
 ⟨.some 3,.mv (.tmp 7),.none,[],[]⟩])
 .ret)),
 [.tmp 3], false⟩
theorem c_desk_world_dive_c1 : chkFunc Tryz.prog gl n_desk_world_dive_c1 a_desk_world_dive_c1 = true := by kernel_rfl
/- shotline/exposure.checkPlan -/
def a_exposure_checkPlan : AFunc := ⟨11,
 (.seq (.reg false [⟨.some 1,.box true (.tmp 0),.none,[],[]⟩,
 ⟨.some 2,.mv (.av (.int .i64 0)),.none,[],[]⟩])
 (.seq (.reg false [⟨.some 6,.load true false 4 (.tmp 1),.none,[],[]⟩,
 ⟨.some 7,.call (.av (.fn n_profile_CheckPlan [])) [(.tmp 6)],.none,[],[]⟩,
 ⟨.some 5,.mv (.tmp 7),.none,[],[]⟩,
 ⟨.some 8,.extract (.tmp 5) 0,.none,[],[]⟩,
 ⟨.some 9,.extract (.tmp 5) 1,.none,[],[]⟩,
 ⟨.some 3,.mv (.tmp 8),.none,[],[]⟩,
 ⟨.some 4,.mv (.tmp 9),.none,[],[]⟩])
 (.seq (.reg false [⟨.some 10,.mv (.tmp 4),.none,[],[]⟩,
 ⟨.some 2,.mv (.tmp 10),.none,[],[]⟩])
 .ret))),
 [.tmp 2], false⟩
theorem c_exposure_checkPlan : chkFunc Tryz.prog gl n_exposure_checkPlan a_exposure_checkPlan = true := by kernel_rfl
/- shotline/exposure.isBreath -/
def a_exposure_isBreath : AFunc := ⟨5,
 (.seq (.reg false [⟨.some 2,.mv (.av (.bool false)),.none,[],[]⟩])
 (.seq (.reg false [⟨.some 3,.mv (.tmp 0),.none,[],[]⟩,
 ⟨.some 4,.call (.av (.fn n_exposure_within [])) [(.tmp 3),(.av (.int .i64 1)),(.av (.int .i64 100000))],.none,[],[]⟩,
 ⟨.some 2,.mv (.tmp 4),.none,[],[]⟩])
 .ret)),
 [.tmp 2], false⟩
theorem c_exposure_isBreath : chkFunc Tryz.prog gl n_exposure_isBreath a_exposure_isBreath = true := by kernel_rfl
/- shotline/exposure.legs -/
def b_exposure_legs_1 : ACode :=
 (.seq (.reg false [⟨.some 14,.bin .lss (.tmp 13) (.tmp 12),.none,[],[]⟩])
 (.seq (.cond (.tmp 14)
 .skip
 (.exit 0))
 (.cut [1,3,4,5,11,12,13] []
 (.seq (.block 1
 (.seq (.reg false [⟨.some 15,.iaddr .none 3 (.tmp 11) (.tmp 13),.none,[],[]⟩,
 ⟨.some 16,.load true false 3 (.tmp 15),.none,[],[]⟩,
 ⟨.some 7,.alloc [(.int .i64 0),(.int .i64 0),(.int .i64 0)],.none,[],[]⟩,
 ⟨.none,.store 3 (.tmp 7) (.tmp 16),.none,[16],[]⟩])
 (.seq (.reg true [⟨.some 17,.mv (.tmp 3),.none,[3],[]⟩,
 ⟨.some 18,.load true false 3 (.tmp 7),.none,[],[]⟩,
 ⟨.some 19,.mv (.tmp 4),.none,[],[]⟩,
 ⟨.some 20,.mv (.tmp 5),.none,[],[]⟩,
 ⟨.some 21,.faddr 1 (.tmp 1),.none,[],[]⟩,
 ⟨.some 22,.load false false 1 (.tmp 21),.none,[],[]⟩,
 ⟨.some 23,.faddr 1 (.tmp 7),.none,[],[]⟩,
 ⟨.some 24,.load false false 1 (.tmp 23),.none,[],[]⟩,
 ⟨.some 25,.bin .add (.tmp 22) (.tmp 24),.none,[],[]⟩,
 ⟨.some 26,.faddr 1 (.tmp 1),.none,[],[]⟩,
 ⟨.some 27,.load false false 1 (.tmp 26),.none,[],[]⟩,
 ⟨.some 28,.faddr 2 (.tmp 1),.none,[],[]⟩,
 ⟨.some 29,.load false false 1 (.tmp 28),.none,[],[]⟩,
 ⟨.some 30,.faddr 2 (.tmp 7),.none,[],[]⟩,
 ⟨.some 31,.load false false 1 (.tmp 30),.none,[],[]⟩,
 ⟨.some 32,.iaddr .none 2 (.tmp 29) (.tmp 31),.none,[],[]⟩,
 ⟨.some 33,.load true false 2 (.tmp 32),.none,[],[]⟩,
 ⟨.some 34,.build [(.int .i64 0),(.int .i64 0),(.int .i64 0),(.int .i64 0),(.int .i64 0),(.int .i64 0),(.int .i64 0),(.int .i64 0),(.int .i64 0)] [(0,3,(.tmp 18)),(3,1,(.tmp 19)),(4,1,(.tmp 20)),(5,1,(.tmp 25)),(6,1,(.tmp 27)),(7,2,(.tmp 33))],.none,[],[]⟩,
 ⟨.some 35,.bslice true 9 1 [(.int .i64 0),(.int .i64 0),(.int .i64 0),(.int .i64 0),(.int .i64 0),(.int .i64 0),(.int .i64 0),(.int .i64 0),(.int .i64 0)] [(0,(.tmp 34))],.none,[],[]⟩,
 ⟨.some 36,.append 9 72 (.tmp 17) (.tmp 35),.none,[17],[]⟩,
 ⟨.some 3,.mv (.tmp 36),.none,[36],[]⟩])
 (.reg true [⟨.some 37,.mv (.tmp 4),.none,[],[]⟩,
 ⟨.some 38,.faddr 0 (.tmp 7),.none,[],[]⟩,
 ⟨.some 39,.load false false 1 (.tmp 38),.none,[],[]⟩,
 ⟨.some 40,.bin .add (.tmp 37) (.tmp 39),.none,[],[]⟩,
 ⟨.some 41,.faddr 1 (.tmp 1),.none,[],[]⟩,
 ⟨.some 42,.load false false 1 (.tmp 41),.none,[],[]⟩,
 ⟨.some 43,.faddr 1 (.tmp 7),.none,[],[]⟩,
 ⟨.some 44,.load false false 1 (.tmp 43),.none,[],[]⟩,
 ⟨.some 45,.bin .add (.tmp 42) (.tmp 44),.none,[],[]⟩,
 ⟨.some 4,.mv (.tmp 40),.none,[],[]⟩,
 ⟨.some 5,.mv (.tmp 45),.none,[],[]⟩]))))
 (.cut [1,3,4,5,11,12,13] []
 (.reg false [⟨.some 46,.bin .add (.tmp 13) (.av (.int .i64 1)),.none,[],[]⟩,
 ⟨.some 13,.mv (.tmp 46),.none,[],[]⟩]))))))
def l_exposure_legs_1 : ACode := .loop (.cut [1,3,4,5,11,12,13] [[7]] b_exposure_legs_1)
def a_exposure_legs : AFunc := ⟨48,
 (.seq (.reg false [⟨.some 1,.box true (.tmp 0),.none,[],[]⟩,
 ⟨.some 2,.mv (.av .nils),.none,[],[]⟩])
 (.seq (.reg false [⟨.some 3,.mv (.av .nils),.none,[],[]⟩])
 (.seq (.reg true [⟨.some 8,.faddr 1 (.tmp 1),.none,[],[]⟩,
 ⟨.some 9,.load false false 1 (.tmp 8),.none,[],[]⟩,
 ⟨.some 4,.mv (.av (.int .i64 0)),.none,[],[]⟩,
 ⟨.some 5,.mv (.tmp 9),.none,[],[]⟩])
 (.seq (.seq (.reg false [⟨.some 10,.faddr 3 (.tmp 1),.none,[],[]⟩,
 ⟨.some 11,.load false false 1 (.tmp 10),.none,[],[]⟩,
 ⟨.some 12,.len false (.tmp 11),.none,[],[]⟩,
 ⟨.some 13,.mv (.av (.int .i64 0)),.none,[],[]⟩])
 (.block 0
 l_exposure_legs_1))
 (.cut [3] []
 (.seq (.reg false [⟨.some 47,.mv (.tmp 3),.none,[3],[]⟩,
 ⟨.some 2,.mv (.tmp 47),.none,[47],[]⟩])
 .ret)))))),
 [.tmp 2], false⟩
theorem c_exposure_legs : chkFunc Tryz.prog gl n_exposure_legs a_exposure_legs = true := by kernel_rfl
/- (shotline/exposure.leg).breathes -/
def a_exposure_leg_breathes : AFunc := ⟨46,
 (.seq (.reg false [⟨.some 3,.box true (.tmp 0),.none,[],[]⟩,
 ⟨.some 6,.mv (.av (.int .i64 0)),.none,[],[]⟩])
 (.seq (.seq (.reg false [⟨.some 7,.mv (.tmp 2),.none,[],[]⟩,
 ⟨.some 8,.faddr 0 (.tmp 3),.none,[],[]⟩,
 ⟨.some 9,.faddr 0 (.tmp 8),.none,[],[]⟩,
 ⟨.some 10,.load false false 1 (.tmp 9),.none,[],[]⟩,
 ⟨.some 11,.bin .eql (.tmp 7) (.tmp 10),.none,[],[]⟩])
 (.cond (.tmp 11)
 (.seq (.reg false [⟨.some 12,.mv (.tmp 1),.none,[],[]⟩,
 ⟨.some 13,.faddr 4 (.tmp 3),.none,[],[]⟩,
 ⟨.some 14,.load false false 1 (.tmp 13),.none,[],[]⟩,
 ⟨.some 15,.faddr 5 (.tmp 3),.none,[],[]⟩,
 ⟨.some 16,.load false false 1 (.tmp 15),.none,[],[]⟩,
 ⟨.some 17,.bin .add (.tmp 14) (.tmp 16),.none,[],[]⟩,
 ⟨.some 18,.bin .mul (.tmp 12) (.tmp 17),.none,[],[]⟩,
 ⟨.some 19,.mv (.tmp 2),.none,[],[]⟩,
 ⟨.some 20,.bin .mul (.tmp 18) (.tmp 19),.none,[],[]⟩,
 ⟨.some 21,.call (.av (.fn n_exposure_up [])) [(.tmp 20),(.av (.int .i64 120000))],.none,[],[]⟩,
 ⟨.some 6,.mv (.tmp 21),.none,[],[]⟩])
 .ret)
 .skip))
 (.cut [1,2,3] []
 (.seq (.reg false [⟨.some 22,.mv (.tmp 1),.none,[],[]⟩,
 ⟨.some 23,.mv (.tmp 2),.none,[],[]⟩,
 ⟨.some 24,.bin .mul (.tmp 22) (.tmp 23),.none,[],[]⟩,
 ⟨.some 25,.faddr 4 (.tmp 3),.none,[],[]⟩,
 ⟨.some 26,.load false false 1 (.tmp 25),.none,[],[]⟩,
 ⟨.some 27,.bin .mul (.av (.int .i64 2)) (.tmp 26),.none,[],[]⟩,
 ⟨.some 28,.faddr 0 (.tmp 3),.none,[],[]⟩,
 ⟨.some 29,.faddr 0 (.tmp 28),.none,[],[]⟩,
 ⟨.some 30,.load false false 1 (.tmp 29),.none,[],[]⟩,
 ⟨.some 31,.bin .mul (.tmp 27) (.tmp 30),.none,[],[]⟩,
 ⟨.some 32,.faddr 5 (.tmp 3),.none,[],[]⟩,
 ⟨.some 33,.load false false 1 (.tmp 32),.none,[],[]⟩,
 ⟨.some 34,.faddr 4 (.tmp 3),.none,[],[]⟩,
 ⟨.some 35,.load false false 1 (.tmp 34),.none,[],[]⟩,
 ⟨.some 36,.bin .sub (.tmp 33) (.tmp 35),.none,[],[]⟩,
 ⟨.some 37,.mv (.tmp 2),.none,[],[]⟩,
 ⟨.some 38,.bin .mul (.tmp 36) (.tmp 37),.none,[],[]⟩,
 ⟨.some 39,.bin .add (.tmp 31) (.tmp 38),.none,[],[]⟩,
 ⟨.some 40,.bin .mul (.tmp 24) (.tmp 39),.none,[],[]⟩,
 ⟨.some 41,.faddr 0 (.tmp 3),.none,[],[]⟩,
 ⟨.some 42,.faddr 0 (.tmp 41),.none,[],[]⟩,
 ⟨.some 43,.load false false 1 (.tmp 42),.none,[],[]⟩,
 ⟨.some 44,.bin .mul (.av (.int .i64 120000)) (.tmp 43),.none,[],[]⟩,
 ⟨.some 45,.call (.av (.fn n_exposure_up [])) [(.tmp 40),(.tmp 44)],.none,[],[]⟩,
 ⟨.some 6,.mv (.tmp 45),.none,[],[]⟩])
 .ret)))),
 [.tmp 6], false⟩
theorem c_exposure_leg_breathes : chkFunc Tryz.prog gl n_exposure_leg_breathes a_exposure_leg_breathes = true := by kernel_rfl
/- (*shotline/desk.world).plan -/
def a_desk_world_plan : AFunc := ⟨12,
 (.seq (.reg false [⟨.some 3,.box true (.tmp 1),.none,[],[]⟩,
 ⟨.some 4,.mv (.av (.int .i64 0)),.none,[],[]⟩])
 (.seq (.reg false [⟨.some 5,.mv (.tmp 0),.none,[],[]⟩,
 ⟨.some 6,.nilchk (.tmp 5),.none,[],[]⟩,
 ⟨.some 7,.faddr 1 (.tmp 6),.none,[],[]⟩,
 ⟨.some 8,.faddr 2 (.tmp 7),.none,[],[]⟩,
 ⟨.some 9,.load false false 1 (.tmp 8),.none,[],[]⟩,
 ⟨.some 10,.mkfn n_desk_world_plan_c1 [(.tmp 3)],.none,[],[]⟩,
 ⟨.some 11,.call (.av (.fn n_slices_IndexFunc_api_DivePlan [])) [(.tmp 9),(.tmp 10)],.none,[],[]⟩,
 ⟨.some 4,.mv (.tmp 11),.none,[],[]⟩])
 .ret)),
 [.tmp 4], false⟩
theorem c_desk_world_plan : chkFunc Tryz.prog gl n_desk_world_plan a_desk_world_plan = true := by kernel_rfl
/- shotline/kit.CheckSetup -/
def b_kit_CheckSetup_1 : ACode :=
 (.seq (.reg false [⟨.some 50,.bin .lss (.tmp 49) (.tmp 48),.none,[],[]⟩])
 (.seq (.cond (.tmp 50)
 .skip
 (.exit 3))
 (.cut [1,47,48,49] []
 (.seq (.block 4
 (.seq (.reg false [⟨.some 51,.mv (.tmp 49),.none,[],[]⟩,
 ⟨.some 52,.iaddr .none 4 (.tmp 47) (.tmp 49),.none,[],[]⟩,
 ⟨.some 53,.load true false 4 (.tmp 52),.none,[],[]⟩,
 ⟨.some 6,.alloc [(.str []),(.int .i64 0),(.int .i64 0),(.int .i64 0)],.none,[],[]⟩,
 ⟨.some 5,.mv (.tmp 51),.none,[],[]⟩,
 ⟨.none,.store 4 (.tmp 6) (.tmp 53),.none,[53],[]⟩])
 (.block 5
 (.seq (.reg false [⟨.some 55,.faddr 0 (.tmp 6),.none,[],[]⟩,
 ⟨.some 56,.load false false 1 (.tmp 55),.none,[],[]⟩,
 ⟨.some 57,.call (.av (.fn 142 [])) [(.tmp 56)],.none,[],[]⟩,
 ⟨.some 58,.un .not (.tmp 57),.none,[],[]⟩,
 ⟨.some 54,.mv (.tmp 58),.none,[],[]⟩])
 (.cond (.tmp 54)
 (.seq (.reg false [⟨.some 2,.mv (.av (.int .i64 4)),.none,[],[]⟩])
 .ret)
 (.seq (.reg false [⟨.some 60,.load true false 2 (.tmp 1),.none,[],[]⟩,
 ⟨.some 61,.faddr 0 (.tmp 6),.none,[],[]⟩,
 ⟨.some 62,.load false false 1 (.tmp 61),.none,[],[]⟩,
 ⟨.some 63,.call (.av (.fn n_kit_rule [])) [(.tmp 60),(.tmp 62)],.none,[],[]⟩,
 ⟨.some 64,.mv (.tmp 5),.none,[],[]⟩,
 ⟨.some 65,.bin .lss (.tmp 63) (.tmp 64),.none,[],[]⟩,
 ⟨.some 59,.mv (.tmp 65),.none,[],[]⟩])
 (.cond (.tmp 59)
 (.seq (.reg false [⟨.some 2,.mv (.av (.int .i64 5)),.none,[],[]⟩])
 .ret)
 (.seq (.reg false [⟨.some 67,.faddr 1 (.tmp 6),.none,[],[]⟩,
 ⟨.some 68,.load false false 1 (.tmp 67),.none,[],[]⟩,
 ⟨.some 69,.call (.av (.fn n_kit_isKind [])) [(.tmp 68)],.none,[],[]⟩,
 ⟨.some 70,.un .not (.tmp 69),.none,[],[]⟩,
 ⟨.some 66,.mv (.tmp 70),.none,[],[]⟩])
 (.cond (.tmp 66)
 (.seq (.reg false [⟨.some 2,.mv (.av (.int .i64 15)),.none,[],[]⟩])
 .ret)
 (.seq (.reg false [⟨.some 72,.faddr 2 (.tmp 6),.none,[],[]⟩,
 ⟨.some 73,.load false false 1 (.tmp 72),.none,[],[]⟩,
 ⟨.some 74,.call (.av (.fn n_kit_within [])) [(.tmp 73),(.av (.int .i64 0)),(.av (.int .i64 10000))],.none,[],[]⟩,
 ⟨.some 75,.un .not (.tmp 74),.none,[],[]⟩,
 ⟨.some 76,.mv (.tmp 75),.none,[],[]⟩,
 ⟨.some 77,.faddr 3 (.tmp 6),.some (76,false),[],[]⟩,
 ⟨.some 78,.load false false 1 (.tmp 77),.some (76,false),[],[]⟩,
 ⟨.some 79,.call (.av (.fn n_kit_within [])) [(.tmp 78),(.av (.int .i64 0)),(.av (.int .i64 1000))],.some (76,false),[],[]⟩,
 ⟨.some 80,.un .not (.tmp 79),.some (76,false),[],[]⟩,
 ⟨.some 81,.pick (.tmp 76) (.av (.bool true)) (.tmp 80),.none,[],[]⟩,
 ⟨.some 71,.mv (.tmp 81),.none,[],[]⟩])
 (.cond (.tmp 71)
 (.seq (.reg false [⟨.some 2,.mv (.av (.int .i64 2)),.none,[],[]⟩])
 .ret)
 (.seq (.reg false [⟨.some 83,.faddr 2 (.tmp 6),.none,[],[]⟩,
 ⟨.some 84,.load false false 1 (.tmp 83),.none,[],[]⟩,
 ⟨.some 85,.bin .eql (.tmp 84) (.av (.int .i64 0)),.none,[],[]⟩,
 ⟨.some 86,.mv (.tmp 85),.none,[],[]⟩,
 ⟨.some 87,.faddr 3 (.tmp 6),.some (86,true),[],[]⟩,
 ⟨.some 88,.load false false 1 (.tmp 87),.some (86,true),[],[]⟩,
 ⟨.some 89,.bin .eql (.tmp 88) (.av (.int .i64 0)),.some (86,true),[],[]⟩,
 ⟨.some 90,.pick (.tmp 86) (.tmp 89) (.av (.bool false)),.none,[],[]⟩,
 ⟨.some 82,.mv (.tmp 90),.none,[],[]⟩])
 (.cond (.tmp 82)
 (.seq (.reg false [⟨.some 2,.mv (.av (.int .i64 11)),.none,[],[]⟩])
 .ret)
 .skip)))))))))))))
 (.cut [1,47,48,49] []
 (.reg false [⟨.some 91,.bin .add (.tmp 49) (.av (.int .i64 1)),.none,[],[]⟩,
 ⟨.some 49,.mv (.tmp 91),.none,[],[]⟩]))))))
def l_kit_CheckSetup_1 : ACode := .loop (.cut [1,47,48,49] [[6]] b_kit_CheckSetup_1)
def b_kit_CheckSetup_2 : ACode :=
 (.seq (.reg false [⟨.some 15,.bin .lss (.tmp 14) (.tmp 13),.none,[],[]⟩])
 (.seq (.cond (.tmp 15)
 .skip
 (.exit 0))
 (.cut [1,12,13,14] []
 (.seq (.block 1
 (.seq (.reg false [⟨.some 16,.mv (.tmp 14),.none,[],[]⟩,
 ⟨.some 17,.iaddr .none 3 (.tmp 12) (.tmp 14),.none,[],[]⟩,
 ⟨.some 18,.load true false 3 (.tmp 17),.none,[],[]⟩,
 ⟨.some 4,.alloc [(.str []),(.int .i64 0),(.int .i64 0)],.none,[],[]⟩,
 ⟨.some 3,.mv (.tmp 16),.none,[],[]⟩,
 ⟨.none,.store 3 (.tmp 4) (.tmp 18),.none,[18],[]⟩])
 (.block 2
 (.seq (.reg false [⟨.some 20,.faddr 0 (.tmp 4),.none,[],[]⟩,
 ⟨.some 21,.load false false 1 (.tmp 20),.none,[],[]⟩,
 ⟨.some 22,.call (.av (.fn 142 [])) [(.tmp 21)],.none,[],[]⟩,
 ⟨.some 23,.un .not (.tmp 22),.none,[],[]⟩,
 ⟨.some 19,.mv (.tmp 23),.none,[],[]⟩])
 (.cond (.tmp 19)
 (.seq (.reg false [⟨.some 2,.mv (.av (.int .i64 4)),.none,[],[]⟩])
 .ret)
 (.seq (.reg false [⟨.some 25,.load true false 2 (.tmp 1),.none,[],[]⟩,
 ⟨.some 26,.faddr 0 (.tmp 4),.none,[],[]⟩,
 ⟨.some 27,.load false false 1 (.tmp 26),.none,[],[]⟩,
 ⟨.some 28,.call (.av (.fn n_kit_item [])) [(.tmp 25),(.tmp 27)],.none,[],[]⟩,
 ⟨.some 29,.mv (.tmp 3),.none,[],[]⟩,
 ⟨.some 30,.bin .lss (.tmp 28) (.tmp 29),.none,[],[]⟩,
 ⟨.some 24,.mv (.tmp 30),.none,[],[]⟩])
 (.cond (.tmp 24)
 (.seq (.reg false [⟨.some 2,.mv (.av (.int .i64 5)),.none,[],[]⟩])
 .ret)
 (.seq (.reg false [⟨.some 32,.faddr 1 (.tmp 4),.none,[],[]⟩,
 ⟨.some 33,.load false false 1 (.tmp 32),.none,[],[]⟩,
 ⟨.some 34,.call (.av (.fn n_kit_isKind [])) [(.tmp 33)],.none,[],[]⟩,
 ⟨.some 35,.un .not (.tmp 34),.none,[],[]⟩,
 ⟨.some 31,.mv (.tmp 35),.none,[],[]⟩])
 (.cond (.tmp 31)
 (.seq (.reg false [⟨.some 2,.mv (.av (.int .i64 15)),.none,[],[]⟩])
 .ret)
 (.seq (.reg false [⟨.some 37,.faddr 2 (.tmp 4),.none,[],[]⟩,
 ⟨.some 38,.load false false 1 (.tmp 37),.none,[],[]⟩,
 ⟨.some 39,.call (.av (.fn n_kit_isDay [])) [(.tmp 38)],.none,[],[]⟩,
 ⟨.some 40,.un .not (.tmp 39),.none,[],[]⟩,
 ⟨.some 36,.mv (.tmp 40),.none,[],[]⟩])
 (.cond (.tmp 36)
 (.seq (.reg false [⟨.some 2,.mv (.av (.int .i64 2)),.none,[],[]⟩])
 .ret)
 .skip)))))))))))
 (.cut [1,12,13,14] []
 (.reg false [⟨.some 41,.bin .add (.tmp 14) (.av (.int .i64 1)),.none,[],[]⟩,
 ⟨.some 14,.mv (.tmp 41),.none,[],[]⟩]))))))
def l_kit_CheckSetup_2 : ACode := .loop (.cut [1,12,13,14] [[4]] b_kit_CheckSetup_2)
def a_kit_CheckSetup : AFunc := ⟨92,
 (.seq (.reg false [⟨.some 1,.box true (.tmp 0),.none,[],[]⟩,
 ⟨.some 2,.mv (.av (.int .i64 0)),.none,[],[]⟩])
 (.seq (.seq (.reg false [⟨.some 7,.faddr 0 (.tmp 1),.none,[],[]⟩,
 ⟨.some 8,.load false false 1 (.tmp 7),.none,[],[]⟩,
 ⟨.some 9,.len false (.tmp 8),.none,[],[]⟩,
 ⟨.some 10,.bin .gtr (.tmp 9) (.av (.int .i64 30)),.none,[],[]⟩])
 (.cond (.tmp 10)
 (.seq (.reg false [⟨.some 2,.mv (.av (.int .i64 8)),.none,[],[]⟩])
 .ret)
 .skip))
 (.cut [1] []
 (.seq (.seq (.reg false [⟨.some 11,.faddr 0 (.tmp 1),.none,[],[]⟩,
 ⟨.some 12,.load false false 1 (.tmp 11),.none,[],[]⟩,
 ⟨.some 13,.len false (.tmp 12),.none,[],[]⟩,
 ⟨.some 14,.mv (.av (.int .i64 0)),.none,[],[]⟩])
 (.block 0
 l_kit_CheckSetup_2))
 (.cut [1] []
 (.seq (.seq (.reg false [⟨.some 42,.faddr 1 (.tmp 1),.none,[],[]⟩,
 ⟨.some 43,.load false false 1 (.tmp 42),.none,[],[]⟩,
 ⟨.some 44,.len false (.tmp 43),.none,[],[]⟩,
 ⟨.some 45,.bin .gtr (.tmp 44) (.av (.int .i64 20)),.none,[],[]⟩])
 (.cond (.tmp 45)
 (.seq (.reg false [⟨.some 2,.mv (.av (.int .i64 8)),.none,[],[]⟩])
 .ret)
 .skip))
 (.cut [1] []
 (.seq (.seq (.reg false [⟨.some 46,.faddr 1 (.tmp 1),.none,[],[]⟩,
 ⟨.some 47,.load false false 1 (.tmp 46),.none,[],[]⟩,
 ⟨.some 48,.len false (.tmp 47),.none,[],[]⟩,
 ⟨.some 49,.mv (.av (.int .i64 0)),.none,[],[]⟩])
 (.block 3
 l_kit_CheckSetup_1))
 (.cut [] []
 (.seq (.reg false [⟨.some 2,.mv (.av (.int .i64 0)),.none,[],[]⟩])
 .ret)))))))))),
 [.tmp 2], false⟩
theorem c_kit_CheckSetup : chkFunc Tryz.prog gl n_kit_CheckSetup a_kit_CheckSetup = true := by kernel_rfl
/- slices.ContainsFunc[[]shotline/api.DeskPerson,shotline/api.DeskPerson] -/
def a_slices_ContainsFunc_api_DeskPerson : AFunc := ⟨9,
 (.seq (.reg false [⟨.some 4,.mv (.av (.bool false)),.none,[],[]⟩])
 (.seq (.reg false [⟨.some 5,.mv (.tmp 0),.none,[],[]⟩,
 ⟨.some 6,.mv (.tmp 1),.none,[],[]⟩,
 ⟨.some 7,.call (.av (.fn n_slices_IndexFunc_api_DeskPerson [])) [(.tmp 5),(.tmp 6)],.none,[],[]⟩,
 ⟨.some 8,.bin .geq (.tmp 7) (.av (.int .i64 0)),.none,[],[]⟩,
 ⟨.some 4,.mv (.tmp 8),.none,[],[]⟩])
 .ret)),
 [.tmp 4], false⟩
theorem c_slices_ContainsFunc_api_DeskPerson : chkFunc Tryz.prog gl n_slices_ContainsFunc_api_DeskPerson a_slices_ContainsFunc_api_DeskPerson = true := by kernel_rfl
/- shotline/desk.CheckDesk$1 -/
def a_desk_CheckDesk_c1 : AFunc := ⟨9,
 (.seq (.reg false [⟨.some 2,.box true (.tmp 0),.none,[],[]⟩,
 ⟨.some 3,.mv (.av (.bool false)),.none,[],[]⟩])
 (.seq (.reg false [⟨.some 4,.faddr 0 (.tmp 2),.none,[],[]⟩,
 ⟨.some 5,.load false false 1 (.tmp 4),.none,[],[]⟩,
 ⟨.some 6,.faddr 0 (.tmp 1),.none,[],[]⟩,
 ⟨.some 7,.load false false 1 (.tmp 6),.none,[],[]⟩,
 ⟨.some 8,.bin .eql (.tmp 5) (.tmp 7),.none,[],[]⟩,
 ⟨.some 3,.mv (.tmp 8),.none,[],[]⟩])
 .ret)),
 [.tmp 3], false⟩
theorem c_desk_CheckDesk_c1 : chkFunc Tryz.prog gl n_desk_CheckDesk_c1 a_desk_CheckDesk_c1 = true := by kernel_rfl
/- shotline/desk.within -/
def a_desk_within : AFunc := ⟨15,
 (.seq (.reg false [⟨.some 6,.mv (.av (.bool false)),.none,[],[]⟩])
 (.seq (.reg false [⟨.some 7,.mv (.tmp 1),.none,[],[]⟩,
 ⟨.some 8,.mv (.tmp 0),.none,[],[]⟩,
 ⟨.some 9,.bin .leq (.tmp 7) (.tmp 8),.none,[],[]⟩,
 ⟨.some 10,.mv (.tmp 9),.none,[],[]⟩,
 ⟨.some 11,.mv (.tmp 0),.some (10,true),[],[]⟩,
 ⟨.some 12,.mv (.tmp 2),.some (10,true),[],[]⟩,
 ⟨.some 13,.bin .leq (.tmp 11) (.tmp 12),.some (10,true),[],[]⟩,
 ⟨.some 14,.pick (.tmp 10) (.tmp 13) (.av (.bool false)),.none,[],[]⟩,
 ⟨.some 6,.mv (.tmp 14),.none,[],[]⟩])
 .ret)),
 [.tmp 6], false⟩
theorem c_desk_within : chkFunc Tryz.prog gl n_desk_within a_desk_within = true := by kernel_rfl
/- shotline/exposure.CheckRules -/
def b_exposure_CheckRules_1 : ACode :=
 (.seq (.reg false [⟨.some 14,.bin .lss (.tmp 13) (.tmp 12),.none,[],[]⟩])
 (.seq (.cond (.tmp 14)
 .skip
 (.exit 0))
 (.cut [1,11,12,13] []
 (.seq (.block 1
 (.seq (.reg false [⟨.some 15,.mv (.tmp 13),.none,[],[]⟩,
 ⟨.some 16,.iaddr .none 2 (.tmp 11) (.tmp 13),.none,[],[]⟩,
 ⟨.some 17,.load true false 2 (.tmp 16),.none,[],[]⟩,
 ⟨.some 4,.alloc [(.int .i64 0),(.int .i64 0)],.none,[],[]⟩,
 ⟨.some 3,.mv (.tmp 15),.none,[],[]⟩,
 ⟨.none,.store 2 (.tmp 4) (.tmp 17),.none,[17],[]⟩])
 (.block 2
 (.seq (.reg false [⟨.some 19,.faddr 0 (.tmp 4),.none,[],[]⟩,
 ⟨.some 20,.load false false 1 (.tmp 19),.none,[],[]⟩,
 ⟨.some 21,.call (.av (.fn n_exposure_within [])) [(.tmp 20),(.av (.int .i64 0)),(.av (.int .i64 4000))],.none,[],[]⟩,
 ⟨.some 22,.un .not (.tmp 21),.none,[],[]⟩,
 ⟨.some 23,.mv (.tmp 22),.none,[],[]⟩,
 ⟨.some 24,.faddr 1 (.tmp 4),.some (23,false),[],[]⟩,
 ⟨.some 25,.load false false 1 (.tmp 24),.some (23,false),[],[]⟩,
 ⟨.some 26,.call (.av (.fn n_exposure_within [])) [(.tmp 25),(.av (.int .i64 0)),(.av (.int .i64 100000))],.some (23,false),[],[]⟩,
 ⟨.some 27,.un .not (.tmp 26),.some (23,false),[],[]⟩,
 ⟨.some 28,.pick (.tmp 23) (.av (.bool true)) (.tmp 27),.none,[],[]⟩,
 ⟨.some 18,.mv (.tmp 28),.none,[],[]⟩])
 (.cond (.tmp 18)
 (.seq (.reg false [⟨.some 2,.mv (.av (.int .i64 2)),.none,[],[]⟩])
 .ret)
 (.seq (.reg true [⟨.some 30,.mv (.tmp 3),.none,[],[]⟩,
 ⟨.some 31,.bin .gtr (.tmp 30) (.av (.int .i64 0)),.none,[],[]⟩,
 ⟨.some 32,.mv (.tmp 31),.none,[],[]⟩,
 ⟨.some 33,.faddr 0 (.tmp 4),.some (32,true),[],[]⟩,
 ⟨.some 34,.load false false 1 (.tmp 33),.some (32,true),[],[]⟩,
 ⟨.some 35,.faddr 0 (.tmp 1),.some (32,true),[],[]⟩,
 ⟨.some 36,.load false false 1 (.tmp 35),.some (32,true),[],[]⟩,
 ⟨.some 37,.mv (.tmp 3),.some (32,true),[],[]⟩,
 ⟨.some 38,.bin .sub (.tmp 37) (.av (.int .i64 1)),.some (32,true),[],[]⟩,
 ⟨.some 39,.iaddr .none 2 (.tmp 36) (.tmp 38),.some (32,true),[],[]⟩,
 ⟨.some 40,.faddr 0 (.tmp 39),.some (32,true),[],[]⟩,
 ⟨.some 41,.load false false 1 (.tmp 40),.some (32,true),[],[]⟩,
 ⟨.some 42,.bin .leq (.tmp 34) (.tmp 41),.some (32,true),[],[]⟩,
 ⟨.some 43,.pick (.tmp 32) (.tmp 42) (.av (.bool false)),.none,[],[]⟩,
 ⟨.some 29,.mv (.tmp 43),.none,[],[]⟩])
 (.cond (.tmp 29)
 (.seq (.reg false [⟨.some 2,.mv (.av (.int .i64 9)),.none,[],[]⟩])
 .ret)
 .skip)))))))
 (.cut [1,11,12,13] []
 (.reg false [⟨.some 44,.bin .add (.tmp 13) (.av (.int .i64 1)),.none,[],[]⟩,
 ⟨.some 13,.mv (.tmp 44),.none,[],[]⟩]))))))
def l_exposure_CheckRules_1 : ACode := .loop (.cut [1,11,12,13] [[4]] b_exposure_CheckRules_1)
def a_exposure_CheckRules : AFunc := ⟨85,
 (.seq (.reg false [⟨.some 1,.box true (.tmp 0),.none,[],[]⟩,
 ⟨.some 2,.mv (.av (.int .i64 0)),.none,[],[]⟩])
 (.seq (.seq (.reg false [⟨.some 6,.faddr 0 (.tmp 1),.none,[],[]⟩,
 ⟨.some 7,.load false false 1 (.tmp 6),.none,[],[]⟩,
 ⟨.some 8,.len false (.tmp 7),.none,[],[]⟩,
 ⟨.some 9,.bin .gtr (.tmp 8) (.av (.int .i64 20)),.none,[],[]⟩])
 (.cond (.tmp 9)
 (.seq (.reg false [⟨.some 2,.mv (.av (.int .i64 8)),.none,[],[]⟩])
 .ret)
 .skip))
 (.cut [1] []
 (.seq (.seq (.reg false [⟨.some 10,.faddr 0 (.tmp 1),.none,[],[]⟩,
 ⟨.some 11,.load false false 1 (.tmp 10),.none,[],[]⟩,
 ⟨.some 12,.len false (.tmp 11),.none,[],[]⟩,
 ⟨.some 13,.mv (.av (.int .i64 0)),.none,[],[]⟩])
 (.block 0
 l_exposure_CheckRules_1))
 (.cut [1] []
 (.seq (.seq (.reg false [⟨.some 45,.faddr 1 (.tmp 1),.none,[],[]⟩,
 ⟨.some 46,.load true false 2 (.tmp 45),.none,[],[]⟩,
 ⟨.some 47,.call (.av (.fn n_gas_CheckLimits [])) [(.tmp 46)],.none,[],[]⟩,
 ⟨.some 5,.mv (.tmp 47),.none,[],[]⟩])
 (.seq (.reg false [⟨.some 48,.mv (.tmp 5),.none,[],[]⟩,
 ⟨.some 49,.bin .neq (.tmp 48) (.av (.int .i64 0)),.none,[],[]⟩])
 (.cond (.tmp 49)
 (.seq (.reg false [⟨.some 50,.mv (.tmp 5),.none,[],[]⟩,
 ⟨.some 2,.mv (.tmp 50),.none,[],[]⟩])
 .ret)
 .skip)))
 (.cut [1] []
 (.seq (.seq (.reg false [⟨.some 51,.faddr 3 (.tmp 1),.none,[],[]⟩,
 ⟨.some 52,.load false false 1 (.tmp 51),.none,[],[]⟩,
 ⟨.some 53,.call (.av (.fn n_exposure_within [])) [(.tmp 52),(.av (.int .i64 0)),(.av (.int .i64 30000))],.none,[],[]⟩,
 ⟨.some 54,.un .not (.tmp 53),.none,[],[]⟩,
 ⟨.some 55,.mv (.tmp 54),.none,[],[]⟩,
 ⟨.some 56,.faddr 4 (.tmp 1),.some (55,false),[],[]⟩,
 ⟨.some 57,.load false false 1 (.tmp 56),.some (55,false),[],[]⟩,
 ⟨.some 58,.call (.av (.fn n_exposure_within [])) [(.tmp 57),(.av (.int .i64 1)),(.av (.int .i64 100000))],.some (55,false),[],[]⟩,
 ⟨.some 59,.un .not (.tmp 58),.some (55,false),[],[]⟩,
 ⟨.some 60,.pick (.tmp 55) (.av (.bool true)) (.tmp 59),.none,[],[]⟩,
 ⟨.some 61,.mv (.tmp 60),.none,[],[]⟩,
 ⟨.some 62,.faddr 5 (.tmp 1),.some (61,false),[],[]⟩,
 ⟨.some 63,.load false false 1 (.tmp 62),.some (61,false),[],[]⟩,
 ⟨.some 64,.call (.av (.fn n_exposure_isBreath [])) [(.tmp 63)],.some (61,false),[],[]⟩,
 ⟨.some 65,.un .not (.tmp 64),.some (61,false),[],[]⟩,
 ⟨.some 66,.pick (.tmp 61) (.av (.bool true)) (.tmp 65),.none,[],[]⟩,
 ⟨.some 67,.mv (.tmp 66),.none,[],[]⟩,
 ⟨.some 68,.faddr 6 (.tmp 1),.some (67,false),[],[]⟩,
 ⟨.some 69,.load false false 1 (.tmp 68),.some (67,false),[],[]⟩,
 ⟨.some 70,.call (.av (.fn n_exposure_isBreath [])) [(.tmp 69)],.some (67,false),[],[]⟩,
 ⟨.some 71,.un .not (.tmp 70),.some (67,false),[],[]⟩,
 ⟨.some 72,.pick (.tmp 67) (.av (.bool true)) (.tmp 71),.none,[],[]⟩,
 ⟨.some 73,.mv (.tmp 72),.none,[],[]⟩,
 ⟨.some 74,.faddr 7 (.tmp 1),.some (73,false),[],[]⟩,
 ⟨.some 75,.load false false 1 (.tmp 74),.some (73,false),[],[]⟩,
 ⟨.some 76,.call (.av (.fn n_exposure_within [])) [(.tmp 75),(.av (.int .i64 0)),(.av (.int .i64 3600))],.some (73,false),[],[]⟩,
 ⟨.some 77,.un .not (.tmp 76),.some (73,false),[],[]⟩,
 ⟨.some 78,.pick (.tmp 73) (.av (.bool true)) (.tmp 77),.none,[],[]⟩,
 ⟨.some 79,.mv (.tmp 78),.none,[],[]⟩,
 ⟨.some 80,.faddr 8 (.tmp 1),.some (79,false),[],[]⟩,
 ⟨.some 81,.load false false 1 (.tmp 80),.some (79,false),[],[]⟩,
 ⟨.some 82,.call (.av (.fn n_exposure_within [])) [(.tmp 81),(.av (.int .i64 1)),(.av (.int .i64 3000))],.some (79,false),[],[]⟩,
 ⟨.some 83,.un .not (.tmp 82),.some (79,false),[],[]⟩,
 ⟨.some 84,.pick (.tmp 79) (.av (.bool true)) (.tmp 83),.none,[],[]⟩])
 (.cond (.tmp 84)
 (.seq (.reg false [⟨.some 2,.mv (.av (.int .i64 2)),.none,[],[]⟩])
 .ret)
 .skip))
 (.cut [] []
 (.seq (.reg false [⟨.some 2,.mv (.av (.int .i64 0)),.none,[],[]⟩])
 .ret)))))))))),
 [.tmp 2], false⟩
theorem c_exposure_CheckRules : chkFunc Tryz.prog gl n_exposure_CheckRules a_exposure_CheckRules = true := by kernel_rfl
/- shotline/tissue.CheckTable -/
def b_tissue_CheckTable_1 : ACode :=
 (.seq (.reg false [⟨.some 12,.bin .lss (.tmp 11) (.tmp 10),.none,[],[]⟩])
 (.seq (.cond (.tmp 12)
 .skip
 (.exit 0))
 (.cut [9,10,11] []
 (.seq (.block 1
 (.seq (.reg false [⟨.some 13,.iaddr .none 4 (.tmp 9) (.tmp 11),.none,[],[]⟩,
 ⟨.some 14,.load true false 4 (.tmp 13),.none,[],[]⟩,
 ⟨.some 4,.alloc [(.int .i64 0),(.int .i64 0),(.int .i64 0),(.int .i64 0)],.none,[],[]⟩,
 ⟨.none,.store 4 (.tmp 4) (.tmp 14),.none,[14],[]⟩])
 (.seq (.reg false [⟨.some 15,.load true false 4 (.tmp 4),.none,[],[]⟩,
 ⟨.some 16,.call (.av (.fn n_tissue_isCompartment [])) [(.tmp 15)],.none,[],[]⟩,
 ⟨.some 17,.un .not (.tmp 16),.none,[],[]⟩])
 (.cond (.tmp 17)
 (.seq (.reg false [⟨.some 2,.mv (.av (.int .i64 2)),.none,[],[]⟩])
 .ret)
 .skip))))
 (.cut [9,10,11] []
 (.reg false [⟨.some 18,.bin .add (.tmp 11) (.av (.int .i64 1)),.none,[],[]⟩,
 ⟨.some 11,.mv (.tmp 18),.none,[],[]⟩]))))))
def l_tissue_CheckTable_1 : ACode := .loop (.cut [9,10,11] [[4]] b_tissue_CheckTable_1)
def a_tissue_CheckTable : AFunc := ⟨19,
 (.seq (.reg false [⟨.some 2,.mv (.av (.int .i64 0)),.none,[],[]⟩])
 (.seq (.seq (.reg false [⟨.some 5,.mv (.tmp 0),.none,[],[]⟩,
 ⟨.some 6,.len false (.tmp 5),.none,[],[]⟩,
 ⟨.some 7,.call (.av (.fn n_tissue_within [])) [(.tmp 6),(.av (.int .i64 1)),(.av (.int .i64 16))],.none,[],[]⟩,
 ⟨.some 8,.un .not (.tmp 7),.none,[],[]⟩])
 (.cond (.tmp 8)
 (.seq (.reg false [⟨.some 2,.mv (.av (.int .i64 10)),.none,[],[]⟩])
 .ret)
 .skip))
 (.cut [0] []
 (.seq (.seq (.reg false [⟨.some 9,.mv (.tmp 0),.none,[],[]⟩,
 ⟨.some 10,.len false (.tmp 9),.none,[],[]⟩,
 ⟨.some 11,.mv (.av (.int .i64 0)),.none,[],[]⟩])
 (.block 0
 l_tissue_CheckTable_1))
 (.cut [] []
 (.seq (.reg false [⟨.some 2,.mv (.av (.int .i64 0)),.none,[],[]⟩])
 .ret)))))),
 [.tmp 2], false⟩
theorem c_tissue_CheckTable : chkFunc Tryz.prog gl n_tissue_CheckTable a_tissue_CheckTable = true := by kernel_rfl
/- slices.IndexFunc[[]shotline/api.DeskPerson,shotline/api.DeskPerson] -/
def b_slices_IndexFunc_api_DeskPerson_1 : ACode :=
 (.seq (.reg false [⟨.some 9,.bin .lss (.tmp 8) (.tmp 7),.none,[],[]⟩])
 (.seq (.cond (.tmp 9)
 .skip
 (.exit 0))
 (.cut [0,1,7,8] []
 (.seq (.block 1
 (.seq (.reg false [⟨.some 10,.mv (.tmp 8),.none,[],[]⟩,
 ⟨.some 5,.mv (.tmp 10),.none,[],[]⟩])
 (.seq (.reg false [⟨.some 11,.mv (.tmp 1),.none,[],[]⟩,
 ⟨.some 12,.mv (.tmp 0),.none,[],[]⟩,
 ⟨.some 13,.mv (.tmp 5),.none,[],[]⟩,
 ⟨.some 14,.iaddr .none 2 (.tmp 12) (.tmp 13),.none,[],[]⟩,
 ⟨.some 15,.load true false 2 (.tmp 14),.none,[],[]⟩,
 ⟨.some 16,.call (.tmp 11) [(.tmp 15)],.none,[],[]⟩])
 (.cond (.tmp 16)
 (.seq (.reg false [⟨.some 17,.mv (.tmp 5),.none,[],[]⟩,
 ⟨.some 4,.mv (.tmp 17),.none,[],[]⟩])
 .ret)
 .skip))))
 (.cut [0,1,7,8] []
 (.reg false [⟨.some 18,.bin .add (.tmp 8) (.av (.int .i64 1)),.none,[],[]⟩,
 ⟨.some 8,.mv (.tmp 18),.none,[],[]⟩]))))))
def l_slices_IndexFunc_api_DeskPerson_1 : ACode := .loop (.cut [0,1,7,8] [] b_slices_IndexFunc_api_DeskPerson_1)
def a_slices_IndexFunc_api_DeskPerson : AFunc := ⟨19,
 (.seq (.reg false [⟨.some 4,.mv (.av (.int .i64 0)),.none,[],[]⟩])
 (.seq (.seq (.reg false [⟨.some 6,.mv (.tmp 0),.none,[],[]⟩,
 ⟨.some 7,.len false (.tmp 6),.none,[],[]⟩,
 ⟨.some 8,.mv (.av (.int .i64 0)),.none,[],[]⟩])
 (.block 0
 l_slices_IndexFunc_api_DeskPerson_1))
 (.cut [] []
 (.seq (.reg false [⟨.some 4,.mv (.av (.int .i64 (-1))),.none,[],[]⟩])
 .ret)))),
 [.tmp 4], false⟩
theorem c_slices_IndexFunc_api_DeskPerson : chkFunc Tryz.prog gl n_slices_IndexFunc_api_DeskPerson a_slices_IndexFunc_api_DeskPerson = true := by kernel_rfl
/- (*shotline/desk.world).person$1 -/
def a_desk_world_person_c1 : AFunc := ⟨8,
 (.seq (.reg false [⟨.some 2,.box true (.tmp 0),.none,[],[]⟩,
 ⟨.some 3,.mv (.av (.bool false)),.none,[],[]⟩])
 (.seq (.reg false [⟨.some 4,.faddr 0 (.tmp 2),.none,[],[]⟩,
 ⟨.some 5,.load false false 1 (.tmp 4),.none,[],[]⟩,
 ⟨.some 6,.load false false 1 (.tmp 1),.none,[],[]⟩,
 ⟨.some 7,.bin .eql (.tmp 5) (.tmp 6),.none,[],[]⟩,
 ⟨.some 3,.mv (.tmp 7),.none,[],[]⟩])
 .ret)),
 [.tmp 3], false⟩
theorem c_desk_world_person_c1 : chkFunc Tryz.prog gl n_desk_world_person_c1 a_desk_world_person_c1 = true := by kernel_rfl
/- strings.Cut -/
def a_strings_Cut : AFunc := ⟨13,
 (.seq (.reg false [⟨.some 4,.mv (.av (.str [])),.none,[],[]⟩,
 ⟨.some 5,.mv (.av (.str [])),.none,[],[]⟩,
 ⟨.some 6,.mv (.av (.bool false)),.none,[],[]⟩])
 (.seq (.reg false [⟨.some 7,.mv (.tmp 0),.none,[],[]⟩,
 ⟨.some 8,.mv (.tmp 1),.none,[],[]⟩,
 ⟨.some 9,.call (.av (.fn n_internal_stringslite_Cut [])) [(.tmp 7),(.tmp 8)],.none,[],[]⟩,
 ⟨.some 10,.extract (.tmp 9) 0,.none,[],[]⟩,
 ⟨.some 11,.extract (.tmp 9) 1,.none,[],[]⟩,
 ⟨.some 12,.extract (.tmp 9) 2,.none,[],[]⟩,
 ⟨.some 4,.mv (.tmp 10),.none,[],[]⟩,
 ⟨.some 5,.mv (.tmp 11),.none,[],[]⟩,
 ⟨.some 6,.mv (.tmp 12),.none,[],[]⟩])
 .ret)),
 [.tmp 4,.tmp 5,.tmp 6], false⟩
theorem c_strings_Cut : chkFunc Tryz.prog gl n_strings_Cut a_strings_Cut = true := by kernel_rfl
/- slices.Contains[[]int,int] -/
def a_slices_Contains_int : AFunc := ⟨9,
 (.seq (.reg false [⟨.some 4,.mv (.av (.bool false)),.none,[],[]⟩])
 (.seq (.reg false [⟨.some 5,.mv (.tmp 0),.none,[],[]⟩,
 ⟨.some 6,.mv (.tmp 1),.none,[],[]⟩,
 ⟨.some 7,.call (.av (.fn n_slices_Index_int [])) [(.tmp 5),(.tmp 6)],.none,[],[]⟩,
 ⟨.some 8,.bin .geq (.tmp 7) (.av (.int .i64 0)),.none,[],[]⟩,
 ⟨.some 4,.mv (.tmp 8),.none,[],[]⟩])
 .ret)),
 [.tmp 4], false⟩
theorem c_slices_Contains_int : chkFunc Tryz.prog gl n_slices_Contains_int a_slices_Contains_int = true := by kernel_rfl
/- shotline/desk.number -/
def a_desk_number : AFunc := ⟨29,
 (.seq (.reg false [⟨.some 4,.mv (.av (.int .i64 0)),.none,[],[]⟩,
 ⟨.some 5,.mv (.av (.bool false)),.none,[],[]⟩])
 (.seq (.reg false [⟨.some 9,.mv (.tmp 0),.none,[],[]⟩,
 ⟨.some 10,.call (.av (.fn n_strconv_Atoi [])) [(.tmp 9)],.none,[],[]⟩,
 ⟨.some 8,.mv (.tmp 10),.none,[],[]⟩,
 ⟨.some 11,.extract (.tmp 8) 0,.none,[],[]⟩,
 ⟨.some 12,.extract (.tmp 8) 1,.none,[],[]⟩,
 ⟨.some 6,.mv (.tmp 11),.none,[],[]⟩,
 ⟨.some 7,.mv (.tmp 12),.none,[],[]⟩])
 (.seq (.reg false [⟨.some 13,.mv (.tmp 6),.none,[],[]⟩,
 ⟨.some 14,.mv (.tmp 7),.none,[],[]⟩,
 ⟨.some 15,.eq .iface false (.tmp 14) (.av .nili),.none,[],[]⟩,
 ⟨.some 16,.mv (.tmp 15),.none,[],[]⟩,
 ⟨.some 17,.mv (.tmp 6),.some (16,true),[],[]⟩,
 ⟨.some 18,.call (.av (.fn n_strconv_Itoa [])) [(.tmp 17)],.some (16,true),[],[]⟩,
 ⟨.some 19,.mv (.tmp 0),.some (16,true),[],[]⟩,
 ⟨.some 20,.bin .eql (.tmp 18) (.tmp 19),.some (16,true),[],[]⟩,
 ⟨.some 21,.pick (.tmp 16) (.tmp 20) (.av (.bool false)),.none,[],[]⟩,
 ⟨.some 22,.mv (.tmp 21),.none,[],[]⟩,
 ⟨.some 23,.mv (.tmp 0),.some (22,true),[],[]⟩,
 ⟨.some 24,.call (.av (.fn n_strings_TrimPrefix [])) [(.tmp 23),(.av (.str [45]))],.some (22,true),[],[]⟩,
 ⟨.some 25,.len true (.tmp 24),.some (22,true),[],[]⟩,
 ⟨.some 26,.mv (.tmp 1),.some (22,true),[],[]⟩,
 ⟨.some 27,.bin .leq (.tmp 25) (.tmp 26),.some (22,true),[],[]⟩,
 ⟨.some 28,.pick (.tmp 22) (.tmp 27) (.av (.bool false)),.none,[],[]⟩,
 ⟨.some 4,.mv (.tmp 13),.none,[],[]⟩,
 ⟨.some 5,.mv (.tmp 28),.none,[],[]⟩])
 .ret))),
 [.tmp 4,.tmp 5], false⟩
theorem c_desk_number : chkFunc Tryz.prog gl n_desk_number a_desk_number = true := by kernel_rfl
/- slices.IndexFunc[[]shotline/desk.counted,shotline/desk.counted] -/
def b_slices_IndexFunc_desk_counted_1 : ACode :=
 (.seq (.reg false [⟨.some 9,.bin .lss (.tmp 8) (.tmp 7),.none,[],[]⟩])
 (.seq (.cond (.tmp 9)
 .skip
 (.exit 0))
 (.cut [0,1,7,8] []
 (.seq (.block 1
 (.seq (.reg false [⟨.some 10,.mv (.tmp 8),.none,[],[]⟩,
 ⟨.some 5,.mv (.tmp 10),.none,[],[]⟩])
 (.seq (.reg false [⟨.some 11,.mv (.tmp 1),.none,[],[]⟩,
 ⟨.some 12,.mv (.tmp 0),.none,[],[]⟩,
 ⟨.some 13,.mv (.tmp 5),.none,[],[]⟩,
 ⟨.some 14,.iaddr .none 6 (.tmp 12) (.tmp 13),.none,[],[]⟩,
 ⟨.some 15,.load true false 6 (.tmp 14),.none,[],[]⟩,
 ⟨.some 16,.call (.tmp 11) [(.tmp 15)],.none,[],[]⟩])
 (.cond (.tmp 16)
 (.seq (.reg false [⟨.some 17,.mv (.tmp 5),.none,[],[]⟩,
 ⟨.some 4,.mv (.tmp 17),.none,[],[]⟩])
 .ret)
 .skip))))
 (.cut [0,1,7,8] []
 (.reg false [⟨.some 18,.bin .add (.tmp 8) (.av (.int .i64 1)),.none,[],[]⟩,
 ⟨.some 8,.mv (.tmp 18),.none,[],[]⟩]))))))
def l_slices_IndexFunc_desk_counted_1 : ACode := .loop (.cut [0,1,7,8] [] b_slices_IndexFunc_desk_counted_1)
def a_slices_IndexFunc_desk_counted : AFunc := ⟨19,
 (.seq (.reg false [⟨.some 4,.mv (.av (.int .i64 0)),.none,[],[]⟩])
 (.seq (.seq (.reg false [⟨.some 6,.mv (.tmp 0),.none,[],[]⟩,
 ⟨.some 7,.len false (.tmp 6),.none,[],[]⟩,
 ⟨.some 8,.mv (.av (.int .i64 0)),.none,[],[]⟩])
 (.block 0
 l_slices_IndexFunc_desk_counted_1))
 (.cut [] []
 (.seq (.reg false [⟨.some 4,.mv (.av (.int .i64 (-1))),.none,[],[]⟩])
 .ret)))),
 [.tmp 4], false⟩
theorem c_slices_IndexFunc_desk_counted : chkFunc Tryz.prog gl n_slices_IndexFunc_desk_counted a_slices_IndexFunc_desk_counted = true := by kernel_rfl
/- (*shotline/desk.keeper).fix$1 -/
def a_desk_keeper_fix_c1 : AFunc := ⟨8,
 (.seq (.reg false [⟨.some 2,.box true (.tmp 0),.none,[],[]⟩,
 ⟨.some 3,.mv (.av (.bool false)),.none,[],[]⟩])
 (.seq (.reg false [⟨.some 4,.faddr 0 (.tmp 2),.none,[],[]⟩,
 ⟨.some 5,.load false false 1 (.tmp 4),.none,[],[]⟩,
 ⟨.some 6,.load false false 1 (.tmp 1),.none,[],[]⟩,
 ⟨.some 7,.bin .eql (.tmp 5) (.tmp 6),.none,[],[]⟩,
 ⟨.some 3,.mv (.tmp 7),.none,[],[]⟩])
 .ret)),
 [.tmp 3], false⟩
theorem c_desk_keeper_fix_c1 : chkFunc Tryz.prog gl n_desk_keeper_fix_c1 a_desk_keeper_fix_c1 = true := by kernel_rfl
/- shotline/desk.factOf -/
def a_desk_factOf : AFunc := ⟨77,
 (.seq (.reg false [⟨.some 4,.mv (.av .nili),.none,[],[]⟩,
 ⟨.some 5,.mv (.av (.int .i64 0)),.none,[],[]⟩])
 (.seq (.seq (.reg false [⟨.some 17,.mv (.tmp 0),.none,[],[]⟩])
 (.block 0
 (.seq (.reg false [⟨.some 19,.bin .eql (.tmp 17) (.av (.str [102,105,108,108])),.none,[],[]⟩,
 ⟨.some 18,.mv (.tmp 19),.none,[],[]⟩])
 (.cond (.tmp 18)
 (.seq (.reg false [⟨.some 21,.mv (.tmp 1),.none,[],[]⟩,
 ⟨.some 22,.call (.av (.fn n_mix_ParseFill [])) [(.tmp 21)],.none,[],[]⟩,
 ⟨.some 20,.mv (.tmp 22),.none,[],[]⟩,
 ⟨.some 23,.extract (.tmp 20) 0,.none,[],[]⟩,
 ⟨.some 24,.extract (.tmp 20) 1,.none,[],[]⟩,
 ⟨.some 6,.alloc [(.int .i64 0),(.int .i64 0),(.str []),(.str []),(.int .i64 0),(.int .i64 0),(.int .i64 0),(.bool false)],.none,[],[]⟩,
 ⟨.none,.store 8 (.tmp 6) (.tmp 23),.none,[23],[]⟩,
 ⟨.some 7,.mv (.tmp 24),.none,[],[]⟩])
 (.seq (.reg false [⟨.some 25,.load true false 8 (.tmp 6),.none,[],[]⟩,
 ⟨.some 26,.mkif 255 (.tmp 25),.none,[],[]⟩,
 ⟨.some 27,.mv (.tmp 7),.none,[],[]⟩,
 ⟨.some 4,.mv (.tmp 26),.none,[],[]⟩,
 ⟨.some 5,.mv (.tmp 27),.none,[],[]⟩])
 .ret))
 (.seq (.reg false [⟨.some 29,.bin .eql (.tmp 17) (.av (.str [107,105,116])),.none,[],[]⟩,
 ⟨.some 28,.mv (.tmp 29),.none,[],[]⟩])
 (.cond (.tmp 28)
 (.seq (.reg false [⟨.some 31,.mv (.tmp 1),.none,[],[]⟩,
 ⟨.some 32,.call (.av (.fn n_kit_ParseEvent [])) [(.tmp 31)],.none,[],[]⟩,
 ⟨.some 30,.mv (.tmp 32),.none,[],[]⟩,
 ⟨.some 33,.extract (.tmp 30) 0,.none,[],[]⟩,
 ⟨.some 34,.extract (.tmp 30) 1,.none,[],[]⟩,
 ⟨.some 8,.alloc [(.int .i64 0),(.int .i64 0),(.str []),(.str []),(.str []),(.bool false)],.none,[],[]⟩,
 ⟨.none,.store 6 (.tmp 8) (.tmp 33),.none,[33],[]⟩,
 ⟨.some 9,.mv (.tmp 34),.none,[],[]⟩])
 (.seq (.reg false [⟨.some 35,.load true false 6 (.tmp 8),.none,[],[]⟩,
 ⟨.some 36,.mkif 258 (.tmp 35),.none,[],[]⟩,
 ⟨.some 37,.mv (.tmp 9),.none,[],[]⟩,
 ⟨.some 4,.mv (.tmp 36),.none,[],[]⟩,
 ⟨.some 5,.mv (.tmp 37),.none,[],[]⟩])
 .ret))
 (.seq (.reg false [⟨.some 39,.bin .eql (.tmp 17) (.av (.str [112,108,97,110])),.none,[],[]⟩,
 ⟨.some 38,.mv (.tmp 39),.none,[],[]⟩])
 (.cond (.tmp 38)
 (.seq (.reg false [⟨.some 41,.mv (.tmp 1),.none,[],[]⟩,
 ⟨.some 42,.call (.av (.fn n_profile_ParsePlanLine [])) [(.tmp 41)],.none,[],[]⟩,
 ⟨.some 40,.mv (.tmp 42),.none,[],[]⟩,
 ⟨.some 43,.extract (.tmp 40) 0,.none,[],[]⟩,
 ⟨.some 44,.extract (.tmp 40) 1,.none,[],[]⟩,
 ⟨.some 10,.alloc [(.str []),(.int .i64 0),.nils,.nils],.none,[],[]⟩,
 ⟨.none,.store 4 (.tmp 10) (.tmp 43),.none,[43],[]⟩,
 ⟨.some 11,.mv (.tmp 44),.none,[],[]⟩])
 (.seq (.reg false [⟨.some 45,.load true false 4 (.tmp 10),.none,[],[]⟩,
 ⟨.some 46,.mkif 261 (.tmp 45),.none,[],[]⟩,
 ⟨.some 47,.mv (.tmp 11),.none,[],[]⟩,
 ⟨.some 4,.mv (.tmp 46),.none,[],[]⟩,
 ⟨.some 5,.mv (.tmp 47),.none,[],[]⟩])
 .ret))
 (.seq (.reg false [⟨.some 49,.bin .eql (.tmp 17) (.av (.str [100,105,118,101])),.none,[],[]⟩,
 ⟨.some 48,.mv (.tmp 49),.none,[],[]⟩])
 (.cond (.tmp 48)
 (.seq (.reg false [⟨.some 50,.mv (.tmp 1),.none,[],[]⟩,
 ⟨.some 51,.call (.av (.fn n_strings_Split [])) [(.tmp 50),(.av (.str [32]))],.none,[],[]⟩,
 ⟨.some 52,.call (.av (.fn n_desk_diveOf [])) [(.tmp 51)],.none,[],[]⟩,
 ⟨.some 53,.extract (.tmp 52) 0,.none,[],[]⟩,
 ⟨.some 54,.extract (.tmp 52) 1,.none,[],[]⟩,
 ⟨.some 4,.mv (.tmp 53),.none,[],[]⟩,
 ⟨.some 5,.mv (.tmp 54),.none,[],[]⟩])
 .ret)
 (.seq (.reg false [⟨.some 56,.bin .eql (.tmp 17) (.av (.str [114,101,99,111,114,100])),.none,[],[]⟩,
 ⟨.some 55,.mv (.tmp 56),.none,[],[]⟩])
 (.cond (.tmp 55)
 (.seq (.reg false [⟨.some 58,.mv (.tmp 1),.none,[],[]⟩,
 ⟨.some 59,.call (.av (.fn n_strings_Cut [])) [(.tmp 58),(.av (.str [32]))],.none,[],[]⟩,
 ⟨.some 57,.mv (.tmp 59),.none,[],[]⟩,
 ⟨.some 60,.extract (.tmp 57) 0,.none,[],[]⟩,
 ⟨.some 61,.extract (.tmp 57) 1,.none,[],[]⟩,
 ⟨.some 62,.extract (.tmp 57) 2,.none,[],[]⟩,
 ⟨.some 12,.mv (.tmp 60),.none,[],[]⟩,
 ⟨.some 13,.mv (.tmp 61),.none,[],[]⟩,
 ⟨.some 14,.mv (.tmp 62),.none,[],[]⟩])
 (.seq (.seq (.reg false [⟨.some 63,.mv (.tmp 14),.none,[],[]⟩,
 ⟨.some 64,.un .not (.tmp 63),.none,[],[]⟩])
 (.cond (.tmp 64)
 (.seq (.reg false [⟨.some 4,.mv (.av .nili),.none,[],[]⟩,
 ⟨.some 5,.mv (.av (.int .i64 7)),.none,[],[]⟩])
 .ret)
 .skip))
 (.cut [12,13] []
 (.seq (.reg false [⟨.some 66,.mv (.tmp 13),.none,[],[]⟩,
 ⟨.some 67,.call (.av (.fn n_profile_ParsePoints [])) [(.tmp 66)],.none,[],[]⟩,
 ⟨.some 65,.mv (.tmp 67),.none,[],[]⟩,
 ⟨.some 68,.extract (.tmp 65) 0,.none,[],[]⟩,
 ⟨.some 69,.extract (.tmp 65) 1,.none,[],[]⟩,
 ⟨.some 15,.mv (.tmp 68),.none,[68],[]⟩,
 ⟨.some 16,.mv (.tmp 69),.none,[],[]⟩])
 (.seq (.reg false [⟨.some 70,.mv (.tmp 12),.none,[],[]⟩,
 ⟨.some 71,.mv (.tmp 15),.none,[],[]⟩,
 ⟨.some 72,.build [(.str []),.nils] [(0,1,(.tmp 70)),(1,1,(.tmp 71))],.none,[],[]⟩,
 ⟨.some 73,.mkif 266 (.tmp 72),.none,[],[]⟩,
 ⟨.some 74,.mv (.tmp 16),.none,[],[]⟩,
 ⟨.some 4,.mv (.tmp 73),.none,[],[]⟩,
 ⟨.some 5,.mv (.tmp 74),.none,[],[]⟩])
 .ret)))))
 .skip))))))))))))
 (.cut [1] []
 (.seq (.reg false [⟨.some 75,.mv (.tmp 1),.none,[],[]⟩,
 ⟨.some 76,.mkif 267 (.tmp 75),.none,[],[]⟩,
 ⟨.some 4,.mv (.tmp 76),.none,[],[]⟩,
 ⟨.some 5,.mv (.av (.int .i64 0)),.none,[],[]⟩])
 .ret)))),
 [.tmp 4,.tmp 5], false⟩
theorem c_desk_factOf : chkFunc Tryz.prog gl n_desk_factOf a_desk_factOf = true := by kernel_rfl
/- (*shotline/desk.world).add -/
def a_desk_world_add : AFunc := ⟨105,
 (.seq (.reg false [⟨.some 3,.box true (.tmp 1),.none,[],[]⟩,
 ⟨.some 4,.mv (.av (.int .i64 0)),.none,[],[]⟩])
 (.seq (.reg false [⟨.some 11,.mv (.tmp 0),.none,[],[]⟩,
 ⟨.some 12,.nilchk (.tmp 11),.none,[],[]⟩,
 ⟨.some 13,.faddr 7 (.tmp 12),.none,[],[]⟩,
 ⟨.some 14,.load false false 1 (.tmp 13),.none,[],[]⟩,
 ⟨.some 5,.mv (.tmp 14),.none,[14],[]⟩])
 (.seq (.seq (.reg false [⟨.some 15,.faddr 5 (.tmp 3),.none,[],[]⟩,
 ⟨.some 16,.load false false 1 (.tmp 15),.none,[],[]⟩,
 ⟨.some 17,.mv (.tmp 0),.none,[],[]⟩,
 ⟨.some 18,.faddr 1 (.tmp 3),.none,[],[]⟩,
 ⟨.some 19,.load true false 2 (.tmp 18),.none,[],[]⟩,
 ⟨.some 20,.invoke "shotline/desk.add" (.tmp 16) [(.tmp 17),(.tmp 19)],.none,[],[]⟩,
 ⟨.some 6,.mv (.tmp 20),.none,[],[]⟩])
 (.seq (.reg false [⟨.some 21,.mv (.tmp 6),.none,[],[]⟩,
 ⟨.some 22,.bin .neq (.tmp 21) (.av (.int .i64 0)),.none,[],[]⟩])
 (.cond (.tmp 22)
 (.seq (.reg false [⟨.some 23,.mv (.tmp 6),.none,[],[]⟩,
 ⟨.some 4,.mv (.tmp 23),.none,[],[]⟩])
 .ret)
 .skip)))
 (.cut [0,3,5] []
 (.seq (.reg false [⟨.some 7,.alloc [(.int .i64 0),(.int .i64 0),(.int .i64 0)],.none,[],[]⟩])
 (.seq (.seq (.reg false [⟨.some 24,.faddr 5 (.tmp 3),.none,[],[]⟩,
 ⟨.some 25,.load false false 1 (.tmp 24),.none,[],[]⟩])
 (.block 0
 (.seq (.reg false [⟨.some 26,.tassert 255 true (.agg [(.int .i64 0),(.int .i64 0),(.str []),(.str []),(.int .i64 0),(.int .i64 0),(.int .i64 0),(.bool false)]) (.tmp 25),.none,[],[]⟩,
 ⟨.some 27,.extract (.tmp 26) 1,.none,[],[]⟩,
 ⟨.some 28,.extract (.tmp 26) 0,.none,[],[]⟩])
 (.cond (.tmp 27)
 (.seq (.reg false [⟨.some 8,.alloc [(.int .i64 0),(.int .i64 0),(.str []),(.str []),(.int .i64 0),(.int .i64 0),(.int .i64 0),(.bool false)],.none,[],[]⟩,
 ⟨.none,.store 8 (.tmp 8) (.tmp 28),.none,[28],[]⟩])
 (.seq (.reg false [⟨.some 29,.faddr 0 (.tmp 8),.none,[],[]⟩,
 ⟨.some 30,.load false false 1 (.tmp 29),.none,[],[]⟩])
 (.block 1
 (.seq (.reg false [⟨.some 48,.bin .eql (.tmp 30) (.av (.int .i64 0)),.none,[],[]⟩,
 ⟨.some 47,.mv (.tmp 48),.none,[],[]⟩])
 (.cond (.tmp 47)
 (.reg false [⟨.some 49,.mv (.tmp 0),.none,[],[]⟩,
 ⟨.some 50,.nilchk (.tmp 49),.none,[],[]⟩,
 ⟨.some 51,.faddr 7 (.tmp 50),.none,[],[]⟩,
 ⟨.some 52,.load false false 1 (.tmp 51),.none,[],[]⟩,
 ⟨.some 53,.call (.av (.fn n_desk_total [])) [(.tmp 52)],.none,[],[]⟩,
 ⟨.some 54,.mv (.tmp 5),.none,[],[]⟩,
 ⟨.some 55,.call (.av (.fn n_desk_total [])) [(.tmp 54)],.none,[],[]⟩,
 ⟨.some 56,.call (.av (.fn n_desk_less [])) [(.tmp 53),(.tmp 55)],.none,[],[]⟩,
 ⟨.none,.store 3 (.tmp 7) (.tmp 56),.none,[56],[]⟩])
 (.seq (.reg false [⟨.some 58,.bin .eql (.tmp 30) (.av (.int .i64 2)),.none,[],[]⟩,
 ⟨.some 57,.mv (.tmp 58),.none,[],[]⟩])
 (.cond (.tmp 57)
 (.seq (.reg true [⟨.some 59,.mv (.tmp 5),.none,[],[]⟩,
 ⟨.some 60,.call (.av (.fn n_desk_total [])) [(.tmp 59)],.none,[],[1]⟩,
 ⟨.some 61,.mv (.tmp 0),.none,[],[]⟩,
 ⟨.some 62,.nilchk (.tmp 61),.none,[],[]⟩,
 ⟨.some 63,.faddr 7 (.tmp 62),.none,[],[]⟩,
 ⟨.some 64,.load false false 1 (.tmp 63),.none,[],[]⟩,
 ⟨.some 65,.call (.av (.fn n_desk_total [])) [(.tmp 64)],.none,[],[]⟩,
 ⟨.some 66,.call (.av (.fn n_desk_less [])) [(.tmp 60),(.tmp 65)],.none,[],[]⟩,
 ⟨.none,.store 3 (.tmp 7) (.tmp 66),.none,[66],[]⟩])
 (.reg true [⟨.some 67,.mv (.tmp 0),.none,[],[]⟩,
 ⟨.some 68,.mv (.tmp 0),.none,[],[]⟩,
 ⟨.some 69,.nilchk (.tmp 68),.none,[],[]⟩,
 ⟨.some 70,.faddr 10 (.tmp 69),.none,[],[]⟩,
 ⟨.some 71,.load true false 3 (.tmp 70),.none,[],[]⟩,
 ⟨.some 72,.load true false 3 (.tmp 7),.none,[],[]⟩,
 ⟨.some 73,.call (.av (.fn n_desk_plus [])) [(.tmp 71),(.tmp 72)],.none,[],[]⟩,
 ⟨.some 74,.nilchk (.tmp 67),.none,[],[]⟩,
 ⟨.some 75,.faddr 10 (.tmp 74),.none,[],[]⟩,
 ⟨.none,.store 3 (.tmp 75) (.tmp 73),.none,[73],[]⟩]))
 (.seq (.reg false [⟨.some 31,.mv (.tmp 0),.none,[],[]⟩,
 ⟨.some 32,.faddr 3 (.tmp 8),.none,[],[]⟩,
 ⟨.some 33,.load false false 1 (.tmp 32),.none,[],[]⟩,
 ⟨.some 34,.call (.av (.fn n_desk_world_vessel [])) [(.tmp 31),(.tmp 33)],.none,[],[]⟩,
 ⟨.some 9,.mv (.tmp 34),.none,[],[]⟩])
 (.reg true [⟨.some 35,.mv (.tmp 0),.none,[],[]⟩,
 ⟨.some 36,.nilchk (.tmp 35),.none,[],[]⟩,
 ⟨.some 37,.faddr 7 (.tmp 36),.none,[],[]⟩,
 ⟨.some 38,.load false false 1 (.tmp 37),.none,[],[]⟩,
 ⟨.some 39,.mv (.tmp 9),.none,[],[]⟩,
 ⟨.some 40,.iaddr .none 3 (.tmp 38) (.tmp 39),.none,[],[]⟩,
 ⟨.some 41,.load true false 3 (.tmp 40),.none,[],[]⟩,
 ⟨.some 42,.mv (.tmp 5),.none,[],[]⟩,
 ⟨.some 43,.mv (.tmp 9),.none,[],[]⟩,
 ⟨.some 44,.iaddr .none 3 (.tmp 42) (.tmp 43),.none,[],[]⟩,
 ⟨.some 45,.load true false 3 (.tmp 44),.none,[],[]⟩,
 ⟨.some 46,.call (.av (.fn n_desk_less [])) [(.tmp 41),(.tmp 45)],.none,[],[]⟩,
 ⟨.none,.store 3 (.tmp 7) (.tmp 46),.none,[46],[]⟩])))))))))
 (.seq (.reg false [⟨.some 76,.tassert 269 true (.agg [(.str []),(.str []),(.str []),(.int .i64 0),(.int .i64 0),.nils]) (.tmp 25),.none,[],[]⟩,
 ⟨.some 77,.extract (.tmp 76) 1,.none,[],[]⟩,
 ⟨.some 78,.extract (.tmp 76) 0,.none,[],[]⟩])
 (.cond (.tmp 77)
 (.seq (.reg false [⟨.some 10,.alloc [(.str []),(.str []),(.str []),(.int .i64 0),(.int .i64 0),.nils],.none,[],[]⟩,
 ⟨.none,.store 6 (.tmp 10) (.tmp 78),.none,[78],[]⟩])
 (.seq (.reg true [⟨.some 79,.mv (.tmp 5),.none,[],[]⟩,
 ⟨.some 80,.call (.av (.fn n_desk_total [])) [(.tmp 79)],.none,[],[1]⟩,
 ⟨.some 81,.mv (.tmp 0),.none,[],[]⟩,
 ⟨.some 82,.nilchk (.tmp 81),.none,[],[]⟩,
 ⟨.some 83,.faddr 7 (.tmp 82),.none,[],[]⟩,
 ⟨.some 84,.load false false 1 (.tmp 83),.none,[],[]⟩,
 ⟨.some 85,.call (.av (.fn n_desk_total [])) [(.tmp 84)],.none,[],[]⟩,
 ⟨.some 86,.call (.av (.fn n_desk_less [])) [(.tmp 80),(.tmp 85)],.none,[],[]⟩,
 ⟨.none,.store 3 (.tmp 7) (.tmp 86),.none,[86],[]⟩])
 (.reg true [⟨.some 87,.mv (.tmp 0),.none,[],[]⟩,
 ⟨.some 88,.mv (.tmp 0),.none,[],[]⟩,
 ⟨.some 89,.nilchk (.tmp 88),.none,[],[]⟩,
 ⟨.some 90,.faddr 13 (.tmp 89),.none,[],[]⟩,
 ⟨.some 91,.load true false 3 (.tmp 90),.none,[],[]⟩,
 ⟨.some 92,.load true false 3 (.tmp 7),.none,[],[]⟩,
 ⟨.some 93,.call (.av (.fn n_desk_plus [])) [(.tmp 91),(.tmp 92)],.none,[],[]⟩,
 ⟨.some 94,.nilchk (.tmp 87),.none,[],[]⟩,
 ⟨.some 95,.faddr 13 (.tmp 94),.none,[],[]⟩,
 ⟨.none,.store 3 (.tmp 95) (.tmp 93),.none,[93],[]⟩])))
 .skip))))))
 (.cut [0,7] []
 (.seq (.reg true [⟨.some 96,.mv (.tmp 0),.none,[],[]⟩,
 ⟨.some 97,.mv (.tmp 0),.none,[],[]⟩,
 ⟨.some 98,.nilchk (.tmp 97),.none,[],[]⟩,
 ⟨.some 99,.faddr 9 (.tmp 98),.none,[],[]⟩,
 ⟨.some 100,.load false false 1 (.tmp 99),.none,[],[]⟩,
 ⟨.some 101,.load true false 3 (.tmp 7),.none,[],[]⟩,
 ⟨.some 102,.call (.av (.fn n_desk_with_api_MixContent [])) [(.tmp 100),(.tmp 101)],.none,[],[]⟩,
 ⟨.some 103,.nilchk (.tmp 96),.none,[],[]⟩,
 ⟨.some 104,.faddr 9 (.tmp 103),.none,[],[]⟩,
 ⟨.none,.store 1 (.tmp 104) (.tmp 102),.none,[102],[]⟩])
 (.seq (.reg false [⟨.some 4,.mv (.av (.int .i64 0)),.none,[],[]⟩])
 .ret))))))))),
 [.tmp 4], false⟩
theorem c_desk_world_add : chkFunc Tryz.prog gl n_desk_world_add a_desk_world_add = true := by kernel_rfl
/- shotline/mix.isName -/
def b_mix_isName_1 : ACode :=
 (.seq (.reg false [⟨.some 8,.bin .lss (.tmp 7) (.tmp 6),.none,[],[]⟩])
 (.seq (.cond (.tmp 8)
 .skip
 (.exit 0))
 (.cut [0,6,7] []
 (.seq (.block 1
 (.seq (.reg false [⟨.some 9,.mv (.tmp 7),.none,[],[]⟩,
 ⟨.some 3,.mv (.tmp 9),.none,[],[]⟩])
 (.seq (.reg false [⟨.some 10,.mv (.tmp 0),.none,[],[]⟩,
 ⟨.some 11,.mv (.tmp 3),.none,[],[]⟩,
 ⟨.some 12,.ixstr (.tmp 10) (.tmp 11),.none,[],[]⟩,
 ⟨.some 13,.bin .geq (.tmp 12) (.av (.int .u8 97)),.none,[],[]⟩,
 ⟨.some 14,.mv (.tmp 13),.none,[],[]⟩,
 ⟨.some 15,.mv (.tmp 0),.some (14,true),[],[]⟩,
 ⟨.some 16,.mv (.tmp 3),.some (14,true),[],[]⟩,
 ⟨.some 17,.ixstr (.tmp 15) (.tmp 16),.some (14,true),[],[]⟩,
 ⟨.some 18,.bin .leq (.tmp 17) (.av (.int .u8 122)),.some (14,true),[],[]⟩,
 ⟨.some 19,.pick (.tmp 14) (.tmp 18) (.av (.bool false)),.none,[],[]⟩,
 ⟨.some 20,.mv (.tmp 19),.none,[],[]⟩,
 ⟨.some 21,.mv (.tmp 0),.some (20,false),[],[]⟩,
 ⟨.some 22,.mv (.tmp 3),.some (20,false),[],[]⟩,
 ⟨.some 23,.ixstr (.tmp 21) (.tmp 22),.some (20,false),[],[]⟩,
 ⟨.some 24,.bin .geq (.tmp 23) (.av (.int .u8 65)),.some (20,false),[],[]⟩,
 ⟨.some 25,.mv (.tmp 24),.some (20,false),[],[]⟩,
 ⟨.some 26,.mv (.tmp 0),.some (25,true),[],[]⟩,
 ⟨.some 27,.mv (.tmp 3),.some (25,true),[],[]⟩,
 ⟨.some 28,.ixstr (.tmp 26) (.tmp 27),.some (25,true),[],[]⟩,
 ⟨.some 29,.bin .leq (.tmp 28) (.av (.int .u8 90)),.some (25,true),[],[]⟩,
 ⟨.some 30,.pick (.tmp 25) (.tmp 29) (.av (.bool false)),.some (20,false),[],[]⟩,
 ⟨.some 31,.pick (.tmp 20) (.av (.bool true)) (.tmp 30),.none,[],[]⟩,
 ⟨.some 4,.mv (.tmp 31),.none,[],[]⟩])
 (.seq (.reg false [⟨.some 32,.mv (.tmp 4),.none,[],[]⟩,
 ⟨.some 33,.un .not (.tmp 32),.none,[],[]⟩,
 ⟨.some 34,.mv (.tmp 33),.none,[],[]⟩,
 ⟨.some 35,.mv (.tmp 3),.some (34,true),[],[]⟩,
 ⟨.some 36,.bin .eql (.tmp 35) (.av (.int .i64 0)),.some (34,true),[],[]⟩,
 ⟨.some 37,.mv (.tmp 36),.some (34,true),[],[]⟩,
 ⟨.some 38,.mv (.tmp 0),.some (37,false),[],[]⟩,
 ⟨.some 39,.mv (.tmp 3),.some (37,false),[],[]⟩,
 ⟨.some 40,.ixstr (.tmp 38) (.tmp 39),.some (37,false),[],[]⟩,
 ⟨.some 41,.bin .neq (.tmp 40) (.av (.int .u8 45)),.some (37,false),[],[]⟩,
 ⟨.some 42,.mv (.tmp 41),.some (37,false),[],[]⟩,
 ⟨.some 43,.mv (.tmp 0),.some (42,true),[],[]⟩,
 ⟨.some 44,.mv (.tmp 3),.some (42,true),[],[]⟩,
 ⟨.some 45,.ixstr (.tmp 43) (.tmp 44),.some (42,true),[],[]⟩,
 ⟨.some 46,.bin .lss (.tmp 45) (.av (.int .u8 48)),.some (42,true),[],[]⟩,
 ⟨.some 47,.mv (.tmp 46),.some (42,true),[],[]⟩,
 ⟨.some 48,.mv (.tmp 0),.some (47,false),[],[]⟩,
 ⟨.some 49,.mv (.tmp 3),.some (47,false),[],[]⟩,
 ⟨.some 50,.ixstr (.tmp 48) (.tmp 49),.some (47,false),[],[]⟩,
 ⟨.some 51,.bin .gtr (.tmp 50) (.av (.int .u8 57)),.some (47,false),[],[]⟩,
 ⟨.some 52,.pick (.tmp 47) (.av (.bool true)) (.tmp 51),.some (42,true),[],[]⟩,
 ⟨.some 53,.pick (.tmp 42) (.tmp 52) (.av (.bool false)),.some (37,false),[],[]⟩,
 ⟨.some 54,.pick (.tmp 37) (.av (.bool true)) (.tmp 53),.some (34,true),[],[]⟩,
 ⟨.some 55,.pick (.tmp 34) (.tmp 54) (.av (.bool false)),.none,[],[]⟩])
 (.cond (.tmp 55)
 (.seq (.reg false [⟨.some 2,.mv (.av (.bool false)),.none,[],[]⟩])
 .ret)
 .skip)))))
 (.cut [0,6,7] []
 (.reg false [⟨.some 56,.bin .add (.tmp 7) (.av (.int .i64 1)),.none,[],[]⟩,
 ⟨.some 7,.mv (.tmp 56),.none,[],[]⟩]))))))
def l_mix_isName_1 : ACode := .loop (.cut [0,6,7] [] b_mix_isName_1)
def a_mix_isName : AFunc := ⟨64,
 (.seq (.reg false [⟨.some 2,.mv (.av (.bool false)),.none,[],[]⟩])
 (.seq (.seq (.reg false [⟨.some 5,.mv (.tmp 0),.none,[],[]⟩,
 ⟨.some 6,.len true (.tmp 5),.none,[],[]⟩,
 ⟨.some 7,.mv (.av (.int .i64 0)),.none,[],[]⟩])
 (.block 0
 l_mix_isName_1))
 (.cut [0] []
 (.seq (.reg false [⟨.some 57,.mv (.tmp 0),.none,[],[]⟩,
 ⟨.some 58,.bin .neq (.tmp 57) (.av (.str [])),.none,[],[]⟩,
 ⟨.some 59,.mv (.tmp 58),.none,[],[]⟩,
 ⟨.some 60,.mv (.tmp 0),.some (59,true),[],[]⟩,
 ⟨.some 61,.len true (.tmp 60),.some (59,true),[],[]⟩,
 ⟨.some 62,.bin .leq (.tmp 61) (.av (.int .i64 12)),.some (59,true),[],[]⟩,
 ⟨.some 63,.pick (.tmp 59) (.tmp 62) (.av (.bool false)),.none,[],[]⟩,
 ⟨.some 2,.mv (.tmp 63),.none,[],[]⟩])
 .ret)))),
 [.tmp 2], false⟩
theorem c_mix_isName : chkFunc Tryz.prog gl n_mix_isName a_mix_isName = true := by kernel_rfl
/- shotline/mix.vessel -/
def a_mix_vessel : AFunc := ⟨8,
 (.seq (.reg false [⟨.some 3,.box true (.tmp 1),.none,[],[]⟩,
 ⟨.some 4,.mv (.av (.int .i64 0)),.none,[],[]⟩])
 (.seq (.reg false [⟨.some 5,.mv (.tmp 0),.none,[],[]⟩,
 ⟨.some 6,.mkfn n_mix_vessel_c1 [(.tmp 3)],.none,[],[]⟩,
 ⟨.some 7,.call (.av (.fn n_slices_IndexFunc_api_MixVessel [])) [(.tmp 5),(.tmp 6)],.none,[],[]⟩,
 ⟨.some 4,.mv (.tmp 7),.none,[],[]⟩])
 .ret)),
 [.tmp 4], false⟩
theorem c_mix_vessel : chkFunc Tryz.prog gl n_mix_vessel a_mix_vessel = true := by kernel_rfl
/- shotline/mix.within -/
def a_mix_within : AFunc := ⟨15,
 (.seq (.reg false [⟨.some 6,.mv (.av (.bool false)),.none,[],[]⟩])
 (.seq (.reg false [⟨.some 7,.mv (.tmp 1),.none,[],[]⟩,
 ⟨.some 8,.mv (.tmp 0),.none,[],[]⟩,
 ⟨.some 9,.bin .leq (.tmp 7) (.tmp 8),.none,[],[]⟩,
 ⟨.some 10,.mv (.tmp 9),.none,[],[]⟩,
 ⟨.some 11,.mv (.tmp 0),.some (10,true),[],[]⟩,
 ⟨.some 12,.mv (.tmp 2),.some (10,true),[],[]⟩,
 ⟨.some 13,.bin .leq (.tmp 11) (.tmp 12),.some (10,true),[],[]⟩,
 ⟨.some 14,.pick (.tmp 10) (.tmp 13) (.av (.bool false)),.none,[],[]⟩,
 ⟨.some 6,.mv (.tmp 14),.none,[],[]⟩])
 .ret)),
 [.tmp 6], false⟩
theorem c_mix_within : chkFunc Tryz.prog gl n_mix_within a_mix_within = true := by kernel_rfl
/- shotline/mix.alone -/
def a_mix_alone : AFunc := ⟨76,
 (.seq (.reg false [⟨.some 1,.box true (.tmp 0),.none,[],[]⟩,
 ⟨.some 2,.mv (.av (.int .i64 0)),.none,[],[]⟩])
 (.seq (.seq (.reg false [⟨.some 4,.faddr 0 (.tmp 1),.none,[],[]⟩,
 ⟨.some 5,.load false false 1 (.tmp 4),.none,[],[]⟩,
 ⟨.some 6,.call (.av (.fn n_mix_within [])) [(.tmp 5),(.av (.int .i64 0)),(.av (.int .i64 2))],.none,[],[]⟩,
 ⟨.some 7,.un .not (.tmp 6),.none,[],[]⟩])
 (.cond (.tmp 7)
 (.seq (.reg false [⟨.some 2,.mv (.av (.int .i64 15)),.none,[],[]⟩])
 .ret)
 .skip))
 (.cut [1] []
 (.seq (.reg false [⟨.some 8,.faddr 4 (.tmp 1),.none,[],[]⟩,
 ⟨.some 9,.load true false 2 (.tmp 8),.none,[],[]⟩,
 ⟨.some 10,.build [(.int .i64 0),(.int .i64 0)] [],.none,[],[]⟩,
 ⟨.some 11,.eq (.agg [.i,.i]) false (.tmp 9) (.tmp 10),.none,[],[]⟩,
 ⟨.some 3,.mv (.tmp 11),.none,[],[]⟩])
 (.seq (.seq (.reg false [⟨.some 12,.faddr 0 (.tmp 1),.none,[],[]⟩,
 ⟨.some 13,.load false false 1 (.tmp 12),.none,[],[]⟩,
 ⟨.some 14,.bin .eql (.tmp 13) (.av (.int .i64 0)),.none,[],[]⟩])
 (.cond (.tmp 14)
 (.reg false [⟨.some 15,.faddr 4 (.tmp 1),.none,[],[]⟩,
 ⟨.some 16,.load true false 2 (.tmp 15),.none,[],[]⟩,
 ⟨.some 17,.call (.av (.fn n_gas_CheckGas [])) [(.tmp 16)],.none,[],[]⟩,
 ⟨.some 18,.bin .eql (.tmp 17) (.av (.int .i64 0)),.none,[],[]⟩,
 ⟨.some 3,.mv (.tmp 18),.none,[],[]⟩])
 .skip))
 (.cut [1,3] []
 (.seq (.block 0
 (.seq (.reg false [⟨.some 20,.faddr 1 (.tmp 1),.none,[],[]⟩,
 ⟨.some 21,.load false false 1 (.tmp 20),.none,[],[]⟩,
 ⟨.some 22,.call (.av (.fn n_mix_within [])) [(.tmp 21),(.av (.int .i64 0)),(.av (.int .i64 100000))],.none,[],[]⟩,
 ⟨.some 23,.un .not (.tmp 22),.none,[],[]⟩,
 ⟨.some 24,.mv (.tmp 23),.none,[],[]⟩,
 ⟨.some 25,.faddr 6 (.tmp 1),.some (24,false),[],[]⟩,
 ⟨.some 26,.load false false 1 (.tmp 25),.some (24,false),[],[]⟩,
 ⟨.some 27,.call (.av (.fn n_mix_within [])) [(.tmp 26),(.av (.int .i64 1)),(.av (.int .i64 1000000000))],.some (24,false),[],[]⟩,
 ⟨.some 28,.un .not (.tmp 27),.some (24,false),[],[]⟩,
 ⟨.some 29,.pick (.tmp 24) (.av (.bool true)) (.tmp 28),.none,[],[]⟩,
 ⟨.some 30,.mv (.tmp 29),.none,[],[]⟩,
 ⟨.some 31,.mv (.tmp 3),.some (30,false),[],[]⟩,
 ⟨.some 32,.un .not (.tmp 31),.some (30,false),[],[]⟩,
 ⟨.some 33,.pick (.tmp 30) (.av (.bool true)) (.tmp 32),.none,[],[]⟩,
 ⟨.some 19,.mv (.tmp 33),.none,[],[]⟩])
 (.cond (.tmp 19)
 (.seq (.reg false [⟨.some 2,.mv (.av (.int .i64 2)),.none,[],[]⟩])
 .ret)
 (.seq (.reg false [⟨.some 35,.faddr 0 (.tmp 1),.none,[],[]⟩,
 ⟨.some 36,.load false false 1 (.tmp 35),.none,[],[]⟩,
 ⟨.some 37,.call (.av (.fn n_mix_takes [])) [(.tmp 36)],.none,[],[]⟩,
 ⟨.some 38,.un .not (.tmp 37),.none,[],[]⟩,
 ⟨.some 39,.mv (.tmp 38),.none,[],[]⟩,
 ⟨.some 40,.faddr 2 (.tmp 1),.some (39,true),[],[]⟩,
 ⟨.some 41,.load false false 1 (.tmp 40),.some (39,true),[],[]⟩,
 ⟨.some 42,.bin .neq (.tmp 41) (.av (.str [])),.some (39,true),[],[]⟩,
 ⟨.some 43,.pick (.tmp 39) (.tmp 42) (.av (.bool false)),.none,[],[]⟩,
 ⟨.some 44,.mv (.tmp 43),.none,[],[]⟩,
 ⟨.some 45,.faddr 0 (.tmp 1),.some (44,false),[],[]⟩,
 ⟨.some 46,.load false false 1 (.tmp 45),.some (44,false),[],[]⟩,
 ⟨.some 47,.call (.av (.fn n_mix_puts [])) [(.tmp 46)],.some (44,false),[],[]⟩,
 ⟨.some 48,.un .not (.tmp 47),.some (44,false),[],[]⟩,
 ⟨.some 49,.mv (.tmp 48),.some (44,false),[],[]⟩,
 ⟨.some 50,.faddr 3 (.tmp 1),.some (49,true),[],[]⟩,
 ⟨.some 51,.load false false 1 (.tmp 50),.some (49,true),[],[]⟩,
 ⟨.some 52,.bin .neq (.tmp 51) (.av (.str [])),.some (49,true),[],[]⟩,
 ⟨.some 53,.pick (.tmp 49) (.tmp 52) (.av (.bool false)),.some (44,false),[],[]⟩,
 ⟨.some 54,.pick (.tmp 44) (.av (.bool true)) (.tmp 53),.none,[],[]⟩,
 ⟨.some 55,.mv (.tmp 54),.none,[],[]⟩,
 ⟨.some 56,.faddr 0 (.tmp 1),.some (55,false),[],[]⟩,
 ⟨.some 57,.load false false 1 (.tmp 56),.some (55,false),[],[]⟩,
 ⟨.some 58,.bin .eql (.tmp 57) (.av (.int .i64 1)),.some (55,false),[],[]⟩,
 ⟨.some 59,.mv (.tmp 58),.some (55,false),[],[]⟩,
 ⟨.some 60,.faddr 2 (.tmp 1),.some (59,true),[],[]⟩,
 ⟨.some 61,.load false false 1 (.tmp 60),.some (59,true),[],[]⟩,
 ⟨.some 62,.faddr 3 (.tmp 1),.some (59,true),[],[]⟩,
 ⟨.some 63,.load false false 1 (.tmp 62),.some (59,true),[],[]⟩,
 ⟨.some 64,.bin .eql (.tmp 61) (.tmp 63),.some (59,true),[],[]⟩,
 ⟨.some 65,.pick (.tmp 59) (.tmp 64) (.av (.bool false)),.some (55,false),[],[]⟩,
 ⟨.some 66,.pick (.tmp 55) (.av (.bool true)) (.tmp 65),.none,[],[]⟩,
 ⟨.some 67,.mv (.tmp 66),.none,[],[]⟩,
 ⟨.some 68,.faddr 7 (.tmp 1),.some (67,false),[],[]⟩,
 ⟨.some 69,.load false false 1 (.tmp 68),.some (67,false),[],[]⟩,
 ⟨.some 70,.mv (.tmp 69),.some (67,false),[],[]⟩,
 ⟨.some 71,.faddr 0 (.tmp 1),.some (70,true),[],[]⟩,
 ⟨.some 72,.load false false 1 (.tmp 71),.some (70,true),[],[]⟩,
 ⟨.some 73,.bin .neq (.tmp 72) (.av (.int .i64 1)),.some (70,true),[],[]⟩,
 ⟨.some 74,.pick (.tmp 70) (.tmp 73) (.av (.bool false)),.some (67,false),[],[]⟩,
 ⟨.some 75,.pick (.tmp 67) (.av (.bool true)) (.tmp 74),.none,[],[]⟩,
 ⟨.some 34,.mv (.tmp 75),.none,[],[]⟩])
 (.cond (.tmp 34)
 (.seq (.reg false [⟨.some 2,.mv (.av (.int .i64 3)),.none,[],[]⟩])
 .ret)
 .skip)))))
 (.cut [] []
 (.seq (.reg false [⟨.some 2,.mv (.av (.int .i64 0)),.none,[],[]⟩])
 .ret))))))))),
 [.tmp 2], false⟩
theorem c_mix_alone : chkFunc Tryz.prog gl n_mix_alone a_mix_alone = true := by kernel_rfl
/- shotline/mix.takes -/
def a_mix_takes : AFunc := ⟨5,
 (.seq (.reg false [⟨.some 2,.mv (.av (.bool false)),.none,[],[]⟩])
 (.seq (.reg false [⟨.some 3,.mv (.tmp 0),.none,[],[]⟩,
 ⟨.some 4,.bin .neq (.tmp 3) (.av (.int .i64 0)),.none,[],[]⟩,
 ⟨.some 2,.mv (.tmp 4),.none,[],[]⟩])
 .ret)),
 [.tmp 2], false⟩
theorem c_mix_takes : chkFunc Tryz.prog gl n_mix_takes a_mix_takes = true := by kernel_rfl
/- shotline/mix.puts -/
def a_mix_puts : AFunc := ⟨5,
 (.seq (.reg false [⟨.some 2,.mv (.av (.bool false)),.none,[],[]⟩])
 (.seq (.reg false [⟨.some 3,.mv (.tmp 0),.none,[],[]⟩,
 ⟨.some 4,.bin .neq (.tmp 3) (.av (.int .i64 2)),.none,[],[]⟩,
 ⟨.some 2,.mv (.tmp 4),.none,[],[]⟩])
 .ret)),
 [.tmp 2], false⟩
theorem c_mix_puts : chkFunc Tryz.prog gl n_mix_puts a_mix_puts = true := by kernel_rfl
/- (shotline/mix.gases).sum -/
def a_mix_gases_sum : AFunc := ⟨11,
 (.seq (.reg false [⟨.some 1,.box true (.tmp 0),.none,[],[]⟩,
 ⟨.some 2,.mv (.av (.int .i64 0)),.none,[],[]⟩])
 (.seq (.reg false [⟨.some 3,.iaddr (.some 3) 1 (.tmp 1) (.av (.int .i64 0)),.none,[],[]⟩,
 ⟨.some 4,.load false false 1 (.tmp 3),.none,[],[]⟩,
 ⟨.some 5,.iaddr (.some 3) 1 (.tmp 1) (.av (.int .i64 1)),.none,[],[]⟩,
 ⟨.some 6,.load false false 1 (.tmp 5),.none,[],[]⟩,
 ⟨.some 7,.bin .add (.tmp 4) (.tmp 6),.none,[],[]⟩,
 ⟨.some 8,.iaddr (.some 3) 1 (.tmp 1) (.av (.int .i64 2)),.none,[],[]⟩,
 ⟨.some 9,.load false false 1 (.tmp 8),.none,[],[]⟩,
 ⟨.some 10,.bin .add (.tmp 7) (.tmp 9),.none,[],[]⟩,
 ⟨.some 2,.mv (.tmp 10),.none,[],[]⟩])
 .ret)),
 [.tmp 2], false⟩
theorem c_mix_gases_sum : chkFunc Tryz.prog gl n_mix_gases_sum a_mix_gases_sum = true := by kernel_rfl
/- (*shotline/mix.store).above -/
def a_mix_store_above : AFunc := ⟨32,
 (.seq (.reg false [⟨.some 10,.mv (.av (.bool false)),.none,[],[]⟩])
 (.seq (.reg true [⟨.some 11,.mv (.tmp 2),.none,[],[]⟩,
 ⟨.some 12,.mv (.tmp 0),.none,[],[]⟩,
 ⟨.some 13,.nilchk (.tmp 12),.none,[],[]⟩,
 ⟨.some 14,.faddr 0 (.tmp 13),.none,[],[]⟩,
 ⟨.some 15,.load false false 1 (.tmp 14),.none,[],[]⟩,
 ⟨.some 16,.mv (.tmp 3),.none,[],[]⟩,
 ⟨.some 17,.iaddr .none 3 (.tmp 15) (.tmp 16),.none,[],[]⟩,
 ⟨.some 18,.faddr 1 (.tmp 17),.none,[],[]⟩,
 ⟨.some 19,.load false false 1 (.tmp 18),.none,[],[]⟩,
 ⟨.some 20,.bin .mul (.tmp 11) (.tmp 19),.none,[],[]⟩,
 ⟨.some 21,.mv (.tmp 4),.none,[],[]⟩,
 ⟨.some 22,.mv (.tmp 0),.none,[],[]⟩,
 ⟨.some 23,.nilchk (.tmp 22),.none,[],[]⟩,
 ⟨.some 24,.faddr 0 (.tmp 23),.none,[],[]⟩,
 ⟨.some 25,.load false false 1 (.tmp 24),.none,[],[]⟩,
 ⟨.some 26,.mv (.tmp 1),.none,[],[]⟩,
 ⟨.some 27,.iaddr .none 3 (.tmp 25) (.tmp 26),.none,[],[]⟩,
 ⟨.some 28,.faddr 1 (.tmp 27),.none,[],[]⟩,
 ⟨.some 29,.load false false 1 (.tmp 28),.none,[],[]⟩,
 ⟨.some 30,.bin .mul (.tmp 21) (.tmp 29),.none,[],[]⟩,
 ⟨.some 31,.bin .gtr (.tmp 20) (.tmp 30),.none,[],[]⟩,
 ⟨.some 10,.mv (.tmp 31),.none,[],[]⟩])
 .ret)),
 [.tmp 10], false⟩
theorem c_mix_store_above : chkFunc Tryz.prog gl n_mix_store_above a_mix_store_above = true := by kernel_rfl
/- shotline/mix.fresh -/
def a_mix_fresh : AFunc := ⟨25,
 (.seq (.reg false [⟨.some 2,.box true (.tmp 0),.none,[],[]⟩,
 ⟨.some 4,.alloc [(.int .i64 0),(.int .i64 0),(.int .i64 0)],.none,[],[]⟩])
 (.seq (.reg true [⟨.some 7,.mv (.tmp 1),.none,[],[]⟩,
 ⟨.some 8,.faddr 0 (.tmp 2),.none,[],[]⟩,
 ⟨.some 9,.load false false 1 (.tmp 8),.none,[],[]⟩,
 ⟨.some 10,.bin .mul (.tmp 7) (.tmp 9),.none,[],[]⟩,
 ⟨.some 11,.bin .quo (.tmp 10) (.av (.int .i64 1000)),.none,[],[]⟩,
 ⟨.some 12,.mv (.tmp 1),.none,[],[]⟩,
 ⟨.some 13,.faddr 1 (.tmp 2),.none,[],[]⟩,
 ⟨.some 14,.load false false 1 (.tmp 13),.none,[],[]⟩,
 ⟨.some 15,.bin .mul (.tmp 12) (.tmp 14),.none,[],[]⟩,
 ⟨.some 16,.bin .quo (.tmp 15) (.av (.int .i64 1000)),.none,[],[]⟩,
 ⟨.some 5,.mv (.tmp 11),.none,[],[]⟩,
 ⟨.some 6,.mv (.tmp 16),.none,[],[]⟩])
 (.seq (.reg false [⟨.some 17,.mv (.tmp 5),.none,[],[]⟩,
 ⟨.some 18,.mv (.tmp 6),.none,[],[]⟩,
 ⟨.some 19,.mv (.tmp 1),.none,[],[]⟩,
 ⟨.some 20,.mv (.tmp 5),.none,[],[]⟩,
 ⟨.some 21,.bin .sub (.tmp 19) (.tmp 20),.none,[],[]⟩,
 ⟨.some 22,.mv (.tmp 6),.none,[],[]⟩,
 ⟨.some 23,.bin .sub (.tmp 21) (.tmp 22),.none,[],[]⟩,
 ⟨.some 24,.build [(.int .i64 0),(.int .i64 0),(.int .i64 0)] [(0,1,(.tmp 17)),(1,1,(.tmp 18)),(2,1,(.tmp 23))],.none,[],[]⟩,
 ⟨.none,.store 3 (.tmp 4) (.tmp 24),.none,[24],[]⟩])
 .ret))),
 [.cell true 3 4], false⟩
theorem c_mix_fresh : chkFunc Tryz.prog gl n_mix_fresh a_mix_fresh = true := by kernel_rfl
/- (shotline/mix.gases).share -/
def b_mix_gases_share_1 : ACode :=
 (.seq (.reg false [⟨.some 52,.bin .lss (.tmp 51) (.tmp 50),.none,[],[]⟩])
 (.seq (.cond (.tmp 52)
 .skip
 (.exit 2))
 (.cut [4,6,49,50,51] []
 (.seq (.block 3
 (.seq (.reg false [⟨.some 53,.iaddr .none 1 (.tmp 49) (.tmp 51),.none,[],[]⟩,
 ⟨.some 54,.load false false 1 (.tmp 53),.none,[],[]⟩,
 ⟨.some 13,.mv (.tmp 54),.none,[],[]⟩])
 (.reg false [⟨.some 55,.mv (.tmp 13),.none,[],[]⟩,
 ⟨.some 56,.iaddr (.some 3) 1 (.tmp 6) (.tmp 55),.none,[],[]⟩,
 ⟨.some 57,.load false false 1 (.tmp 56),.none,[],[]⟩,
 ⟨.some 58,.bin .add (.tmp 57) (.av (.int .i64 1)),.none,[],[]⟩,
 ⟨.some 59,.iaddr (.some 3) 1 (.tmp 6) (.tmp 55),.none,[],[]⟩,
 ⟨.none,.store 1 (.tmp 59) (.tmp 58),.none,[58],[]⟩])))
 (.cut [4,6,49,50,51] []
 (.reg false [⟨.some 60,.bin .add (.tmp 51) (.av (.int .i64 1)),.none,[],[]⟩,
 ⟨.some 51,.mv (.tmp 60),.none,[],[]⟩]))))))
def l_mix_gases_share_1 : ACode := .loop (.cut [4,6,49,50,51] [] b_mix_gases_share_1)
def b_mix_gases_share_2 : ACode :=
 (.seq (.reg false [⟨.some 21,.bin .lss (.tmp 20) (.av (.int .i64 3)),.none,[],[]⟩])
 (.seq (.cond (.tmp 21)
 .skip
 (.exit 0))
 (.cut [1,4,5,6,7,19,20] []
 (.seq (.block 1
 (.seq (.reg false [⟨.some 22,.mv (.tmp 20),.none,[],[]⟩,
 ⟨.some 23,.ixarr false 3 1 (.tmp 19) (.tmp 20),.none,[],[]⟩,
 ⟨.some 8,.mv (.tmp 22),.none,[],[]⟩,
 ⟨.some 9,.mv (.tmp 23),.none,[],[]⟩])
 (.reg true [⟨.some 24,.mv (.tmp 8),.none,[],[]⟩,
 ⟨.some 25,.mv (.tmp 8),.none,[],[]⟩,
 ⟨.some 26,.mv (.tmp 9),.none,[],[]⟩,
 ⟨.some 27,.mv (.tmp 1),.none,[],[]⟩,
 ⟨.some 28,.bin .mul (.tmp 26) (.tmp 27),.none,[],[]⟩,
 ⟨.some 29,.mv (.tmp 5),.none,[],[]⟩,
 ⟨.some 30,.bin .quo (.tmp 28) (.tmp 29),.none,[],[]⟩,
 ⟨.some 31,.mv (.tmp 9),.none,[],[]⟩,
 ⟨.some 32,.mv (.tmp 1),.none,[],[]⟩,
 ⟨.some 33,.bin .mul (.tmp 31) (.tmp 32),.none,[],[]⟩,
 ⟨.some 34,.mv (.tmp 5),.none,[],[]⟩,
 ⟨.some 35,.bin .rem (.tmp 33) (.tmp 34),.none,[],[]⟩,
 ⟨.some 36,.iaddr (.some 3) 1 (.tmp 6) (.tmp 24),.none,[],[]⟩,
 ⟨.none,.store 1 (.tmp 36) (.tmp 30),.none,[30],[]⟩,
 ⟨.some 37,.iaddr (.some 3) 1 (.tmp 7) (.tmp 25),.none,[],[]⟩,
 ⟨.none,.store 1 (.tmp 37) (.tmp 35),.none,[35],[]⟩])))
 (.cut [1,4,5,6,7,19,20] []
 (.reg false [⟨.some 38,.bin .add (.tmp 20) (.av (.int .i64 1)),.none,[],[]⟩,
 ⟨.some 20,.mv (.tmp 38),.none,[],[]⟩]))))))
def l_mix_gases_share_2 : ACode := .loop (.cut [1,4,5,6,7,19,20] [] b_mix_gases_share_2)
def a_mix_gases_share : AFunc := ⟨62,
 (.seq (.reg false [⟨.some 2,.box true (.tmp 0),.none,[],[]⟩,
 ⟨.some 4,.alloc [(.int .i64 0),(.int .i64 0),(.int .i64 0)],.none,[],[]⟩])
 (.seq (.reg false [⟨.some 14,.load true false 3 (.tmp 2),.none,[],[]⟩,
 ⟨.some 15,.call (.av (.fn n_mix_gases_sum [])) [(.tmp 14)],.none,[],[]⟩,
 ⟨.some 5,.mv (.tmp 15),.none,[],[]⟩])
 (.seq (.seq (.reg false [⟨.some 16,.mv (.tmp 5),.none,[],[]⟩,
 ⟨.some 17,.bin .eql (.tmp 16) (.av (.int .i64 0)),.none,[],[]⟩])
 (.cond (.tmp 17)
 (.seq (.reg false [⟨.some 18,.build [(.int .i64 0),(.int .i64 0),(.int .i64 0)] [],.none,[],[]⟩,
 ⟨.none,.store 3 (.tmp 4) (.tmp 18),.none,[18],[]⟩])
 .ret)
 .skip))
 (.cut [1,2,4,5] []
 (.seq (.reg false [⟨.some 6,.alloc [(.int .i64 0),(.int .i64 0),(.int .i64 0)],.none,[],[]⟩,
 ⟨.some 7,.alloc [(.int .i64 0),(.int .i64 0),(.int .i64 0)],.none,[],[]⟩])
 (.seq (.seq (.reg false [⟨.some 19,.load true false 3 (.tmp 2),.none,[],[]⟩,
 ⟨.some 20,.mv (.av (.int .i64 0)),.none,[],[]⟩])
 (.block 0
 l_mix_gases_share_2))
 (.cut [1,4,6,7] []
 (.seq (.reg false [⟨.some 39,.bslice false 1 3 [(.int .i64 0)] [(0,(.av (.int .i64 0))),(1,(.av (.int .i64 1))),(2,(.av (.int .i64 2)))],.none,[],[]⟩,
 ⟨.some 10,.mv (.tmp 39),.none,[39],[]⟩])
 (.seq (.reg false [⟨.some 40,.mv (.tmp 10),.none,[],[]⟩,
 ⟨.some 41,.mkfn n_mix_gases_share_c1 [(.tmp 7)],.none,[],[]⟩,
 ⟨.some 42,.call (.av (.fn n_slices_SortStableFunc_int [])) [(.tmp 40),(.tmp 41)],.none,[],[]⟩])
 (.seq (.reg false [⟨.some 43,.mv (.tmp 1),.none,[],[]⟩,
 ⟨.some 44,.load true false 3 (.tmp 6),.none,[],[]⟩,
 ⟨.some 45,.call (.av (.fn n_mix_gases_sum [])) [(.tmp 44)],.none,[],[]⟩,
 ⟨.some 46,.bin .sub (.tmp 43) (.tmp 45),.none,[],[]⟩,
 ⟨.some 11,.mv (.tmp 46),.none,[],[]⟩])
 (.seq (.seq (.reg false [⟨.some 47,.mv (.tmp 10),.none,[],[]⟩,
 ⟨.some 48,.mv (.tmp 11),.none,[],[]⟩,
 ⟨.some 49,.slice (.slc 1) (.tmp 47) .none (.some (.tmp 48)) .none,.none,[],[]⟩,
 ⟨.some 50,.len false (.tmp 49),.none,[],[]⟩,
 ⟨.some 51,.mv (.av (.int .i64 0)),.none,[],[]⟩])
 (.block 2
 l_mix_gases_share_1))
 (.cut [4,6] []
 (.seq (.reg false [⟨.some 61,.load true false 3 (.tmp 6),.none,[],[]⟩,
 ⟨.none,.store 3 (.tmp 4) (.tmp 61),.none,[61],[]⟩])
 .ret))))))))))))),
 [.cell true 3 4], false⟩
theorem c_mix_gases_share : chkFunc Tryz.prog gl n_mix_gases_share a_mix_gases_share = true := by kernel_rfl
/- (shotline/mix.gases).less -/
def a_mix_gases_less : AFunc := ⟨21,
 (.seq (.reg false [⟨.some 2,.box true (.tmp 0),.none,[],[]⟩,
 ⟨.some 3,.box true (.tmp 1),.none,[],[]⟩,
 ⟨.some 4,.alloc [(.int .i64 0),(.int .i64 0),(.int .i64 0)],.none,[],[]⟩])
 (.seq (.reg false [⟨.some 5,.iaddr (.some 3) 1 (.tmp 2) (.av (.int .i64 0)),.none,[],[]⟩,
 ⟨.some 6,.load false false 1 (.tmp 5),.none,[],[]⟩,
 ⟨.some 7,.iaddr (.some 3) 1 (.tmp 3) (.av (.int .i64 0)),.none,[],[]⟩,
 ⟨.some 8,.load false false 1 (.tmp 7),.none,[],[]⟩,
 ⟨.some 9,.bin .sub (.tmp 6) (.tmp 8),.none,[],[]⟩,
 ⟨.some 10,.iaddr (.some 3) 1 (.tmp 2) (.av (.int .i64 1)),.none,[],[]⟩,
 ⟨.some 11,.load false false 1 (.tmp 10),.none,[],[]⟩,
 ⟨.some 12,.iaddr (.some 3) 1 (.tmp 3) (.av (.int .i64 1)),.none,[],[]⟩,
 ⟨.some 13,.load false false 1 (.tmp 12),.none,[],[]⟩,
 ⟨.some 14,.bin .sub (.tmp 11) (.tmp 13),.none,[],[]⟩,
 ⟨.some 15,.iaddr (.some 3) 1 (.tmp 2) (.av (.int .i64 2)),.none,[],[]⟩,
 ⟨.some 16,.load false false 1 (.tmp 15),.none,[],[]⟩,
 ⟨.some 17,.iaddr (.some 3) 1 (.tmp 3) (.av (.int .i64 2)),.none,[],[]⟩,
 ⟨.some 18,.load false false 1 (.tmp 17),.none,[],[]⟩,
 ⟨.some 19,.bin .sub (.tmp 16) (.tmp 18),.none,[],[]⟩,
 ⟨.some 20,.build [(.int .i64 0),(.int .i64 0),(.int .i64 0)] [(0,1,(.tmp 9)),(1,1,(.tmp 14)),(2,1,(.tmp 19))],.none,[],[]⟩,
 ⟨.none,.store 3 (.tmp 4) (.tmp 20),.none,[20],[]⟩])
 .ret)),
 [.cell true 3 4], false⟩
theorem c_mix_gases_less : chkFunc Tryz.prog gl n_mix_gases_less a_mix_gases_less = true := by kernel_rfl
/- (shotline/mix.gases).plus -/
def a_mix_gases_plus : AFunc := ⟨21,
 (.seq (.reg false [⟨.some 2,.box true (.tmp 0),.none,[],[]⟩,
 ⟨.some 3,.box true (.tmp 1),.none,[],[]⟩,
 ⟨.some 4,.alloc [(.int .i64 0),(.int .i64 0),(.int .i64 0)],.none,[],[]⟩])
 (.seq (.reg false [⟨.some 5,.iaddr (.some 3) 1 (.tmp 2) (.av (.int .i64 0)),.none,[],[]⟩,
 ⟨.some 6,.load false false 1 (.tmp 5),.none,[],[]⟩,
 ⟨.some 7,.iaddr (.some 3) 1 (.tmp 3) (.av (.int .i64 0)),.none,[],[]⟩,
 ⟨.some 8,.load false false 1 (.tmp 7),.none,[],[]⟩,
 ⟨.some 9,.bin .add (.tmp 6) (.tmp 8),.none,[],[]⟩,
 ⟨.some 10,.iaddr (.some 3) 1 (.tmp 2) (.av (.int .i64 1)),.none,[],[]⟩,
 ⟨.some 11,.load false false 1 (.tmp 10),.none,[],[]⟩,
 ⟨.some 12,.iaddr (.some 3) 1 (.tmp 3) (.av (.int .i64 1)),.none,[],[]⟩,
 ⟨.some 13,.load false false 1 (.tmp 12),.none,[],[]⟩,
 ⟨.some 14,.bin .add (.tmp 11) (.tmp 13),.none,[],[]⟩,
 ⟨.some 15,.iaddr (.some 3) 1 (.tmp 2) (.av (.int .i64 2)),.none,[],[]⟩,
 ⟨.some 16,.load false false 1 (.tmp 15),.none,[],[]⟩,
 ⟨.some 17,.iaddr (.some 3) 1 (.tmp 3) (.av (.int .i64 2)),.none,[],[]⟩,
 ⟨.some 18,.load false false 1 (.tmp 17),.none,[],[]⟩,
 ⟨.some 19,.bin .add (.tmp 16) (.tmp 18),.none,[],[]⟩,
 ⟨.some 20,.build [(.int .i64 0),(.int .i64 0),(.int .i64 0)] [(0,1,(.tmp 9)),(1,1,(.tmp 14)),(2,1,(.tmp 19))],.none,[],[]⟩,
 ⟨.none,.store 3 (.tmp 4) (.tmp 20),.none,[20],[]⟩])
 .ret)),
 [.cell true 3 4], false⟩
theorem c_mix_gases_plus : chkFunc Tryz.prog gl n_mix_gases_plus a_mix_gases_plus = true := by kernel_rfl
/- shotline/profile.CheckPlan -/
def b_profile_CheckPlan_1 : ACode :=
 (.seq (.reg false [⟨.some 51,.bin .lss (.tmp 50) (.tmp 49),.none,[],[]⟩])
 (.seq (.cond (.tmp 51)
 .skip
 (.exit 3))
 (.cut [1,7,48,49,50] []
 (.seq (.block 4
 (.seq (.reg false [⟨.some 52,.mv (.tmp 50),.none,[],[]⟩,
 ⟨.some 53,.iaddr .none 3 (.tmp 48) (.tmp 50),.none,[],[]⟩,
 ⟨.some 54,.load true false 3 (.tmp 53),.none,[],[]⟩,
 ⟨.some 9,.alloc [(.int .i64 0),(.int .i64 0),(.int .i64 0)],.none,[],[]⟩,
 ⟨.some 8,.mv (.tmp 52),.none,[],[]⟩,
 ⟨.none,.store 3 (.tmp 9) (.tmp 54),.none,[54],[]⟩])
 (.seq (.block 5
 (.seq (.reg false [⟨.some 56,.faddr 0 (.tmp 9),.none,[],[]⟩,
 ⟨.some 57,.load false false 1 (.tmp 56),.none,[],[]⟩,
 ⟨.some 58,.call (.av (.fn n_profile_within [])) [(.tmp 57),(.av (.int .i64 1)),(.av (.int .i64 1000000))],.none,[],[]⟩,
 ⟨.some 59,.un .not (.tmp 58),.none,[],[]⟩,
 ⟨.some 60,.mv (.tmp 59),.none,[],[]⟩,
 ⟨.some 61,.faddr 1 (.tmp 9),.some (60,false),[],[]⟩,
 ⟨.some 62,.load false false 1 (.tmp 61),.some (60,false),[],[]⟩,
 ⟨.some 63,.call (.av (.fn n_profile_within [])) [(.tmp 62),(.av (.int .i64 0)),(.av (.int .i64 30000))],.some (60,false),[],[]⟩,
 ⟨.some 64,.un .not (.tmp 63),.some (60,false),[],[]⟩,
 ⟨.some 65,.pick (.tmp 60) (.av (.bool true)) (.tmp 64),.none,[],[]⟩,
 ⟨.some 55,.mv (.tmp 65),.none,[],[]⟩])
 (.cond (.tmp 55)
 (.seq (.reg false [⟨.some 66,.mv (.tmp 8),.none,[],[]⟩,
 ⟨.some 2,.mv (.tmp 66),.none,[],[]⟩,
 ⟨.some 3,.mv (.av (.int .i64 2)),.none,[],[]⟩])
 .ret)
 (.seq (.reg false [⟨.some 68,.faddr 2 (.tmp 9),.none,[],[]⟩,
 ⟨.some 69,.load false false 1 (.tmp 68),.none,[],[]⟩,
 ⟨.some 70,.faddr 2 (.tmp 1),.none,[],[]⟩,
 ⟨.some 71,.load false false 1 (.tmp 70),.none,[],[]⟩,
 ⟨.some 72,.len false (.tmp 71),.none,[],[]⟩,
 ⟨.some 73,.bin .sub (.tmp 72) (.av (.int .i64 1)),.none,[],[]⟩,
 ⟨.some 74,.call (.av (.fn n_profile_within [])) [(.tmp 69),(.av (.int .i64 0)),(.tmp 73)],.none,[],[]⟩,
 ⟨.some 75,.un .not (.tmp 74),.none,[],[]⟩,
 ⟨.some 67,.mv (.tmp 75),.none,[],[]⟩])
 (.cond (.tmp 67)
 (.seq (.reg false [⟨.some 76,.mv (.tmp 8),.none,[],[]⟩,
 ⟨.some 2,.mv (.tmp 76),.none,[],[]⟩,
 ⟨.some 3,.mv (.av (.int .i64 6)),.none,[],[]⟩])
 .ret)
 .skip)))))
 (.cut [1,7,8,9,48,49,50] []
 (.seq (.reg false [⟨.some 77,.mv (.tmp 7),.none,[],[]⟩,
 ⟨.some 78,.faddr 0 (.tmp 9),.none,[],[]⟩,
 ⟨.some 79,.load false false 1 (.tmp 78),.none,[],[]⟩,
 ⟨.some 80,.bin .add (.tmp 77) (.tmp 79),.none,[],[]⟩,
 ⟨.some 7,.mv (.tmp 80),.none,[],[]⟩])
 (.seq (.reg false [⟨.some 81,.mv (.tmp 7),.none,[],[]⟩,
 ⟨.some 82,.bin .gtr (.tmp 81) (.av (.int .i64 1000000)),.none,[],[]⟩])
 (.cond (.tmp 82)
 (.seq (.reg false [⟨.some 83,.mv (.tmp 8),.none,[],[]⟩,
 ⟨.some 2,.mv (.tmp 83),.none,[],[]⟩,
 ⟨.some 3,.mv (.av (.int .i64 8)),.none,[],[]⟩])
 .ret)
 .skip)))))))
 (.cut [1,7,48,49,50] []
 (.reg false [⟨.some 84,.bin .add (.tmp 50) (.av (.int .i64 1)),.none,[],[]⟩,
 ⟨.some 50,.mv (.tmp 84),.none,[],[]⟩]))))))
def l_profile_CheckPlan_1 : ACode := .loop (.cut [1,7,48,49,50] [[9]] b_profile_CheckPlan_1)
def b_profile_CheckPlan_2 : ACode :=
 (.seq (.reg false [⟨.some 34,.bin .lss (.tmp 33) (.tmp 32),.none,[],[]⟩])
 (.seq (.cond (.tmp 34)
 .skip
 (.exit 1))
 (.cut [1,31,32,33] []
 (.seq (.block 2
 (.seq (.reg false [⟨.some 35,.iaddr .none 2 (.tmp 31) (.tmp 33),.none,[],[]⟩,
 ⟨.some 36,.load true false 2 (.tmp 35),.none,[],[]⟩,
 ⟨.some 5,.alloc [(.int .i64 0),(.int .i64 0)],.none,[],[]⟩,
 ⟨.none,.store 2 (.tmp 5) (.tmp 36),.none,[36],[]⟩])
 (.seq (.reg false [⟨.some 37,.load true false 2 (.tmp 5),.none,[],[]⟩,
 ⟨.some 38,.call (.av (.fn n_gas_CheckGas [])) [(.tmp 37)],.none,[],[]⟩,
 ⟨.some 6,.mv (.tmp 38),.none,[],[]⟩])
 (.seq (.reg false [⟨.some 39,.mv (.tmp 6),.none,[],[]⟩,
 ⟨.some 40,.bin .neq (.tmp 39) (.av (.int .i64 0)),.none,[],[]⟩])
 (.cond (.tmp 40)
 (.seq (.reg false [⟨.some 41,.mv (.tmp 6),.none,[],[]⟩,
 ⟨.some 2,.mv (.av (.int .i64 0)),.none,[],[]⟩,
 ⟨.some 3,.mv (.tmp 41),.none,[],[]⟩])
 .ret)
 .skip)))))
 (.cut [1,31,32,33] []
 (.reg false [⟨.some 42,.bin .add (.tmp 33) (.av (.int .i64 1)),.none,[],[]⟩,
 ⟨.some 33,.mv (.tmp 42),.none,[],[]⟩]))))))
def l_profile_CheckPlan_2 : ACode := .loop (.cut [1,31,32,33] [[5]] b_profile_CheckPlan_2)
def a_profile_CheckPlan : AFunc := ⟨85,
 (.seq (.reg false [⟨.some 1,.box true (.tmp 0),.none,[],[]⟩,
 ⟨.some 2,.mv (.av (.int .i64 0)),.none,[],[]⟩,
 ⟨.some 3,.mv (.av (.int .i64 0)),.none,[],[]⟩])
 (.seq (.block 0
 (.seq (.reg false [⟨.some 11,.faddr 0 (.tmp 1),.none,[],[]⟩,
 ⟨.some 12,.load false false 1 (.tmp 11),.none,[],[]⟩,
 ⟨.some 13,.call (.av (.fn n_profile_isName [])) [(.tmp 12)],.none,[],[]⟩,
 ⟨.some 14,.un .not (.tmp 13),.none,[],[]⟩,
 ⟨.some 10,.mv (.tmp 14),.none,[],[]⟩])
 (.cond (.tmp 10)
 (.seq (.reg false [⟨.some 2,.mv (.av (.int .i64 0)),.none,[],[]⟩,
 ⟨.some 3,.mv (.av (.int .i64 4)),.none,[],[]⟩])
 .ret)
 (.seq (.reg false [⟨.some 16,.faddr 1 (.tmp 1),.none,[],[]⟩,
 ⟨.some 17,.load false false 1 (.tmp 16),.none,[],[]⟩,
 ⟨.some 18,.call (.av (.fn n_profile_within [])) [(.tmp 17),(.av (.int .i64 400)),(.av (.int .i64 1100))],.none,[],[]⟩,
 ⟨.some 19,.un .not (.tmp 18),.none,[],[]⟩,
 ⟨.some 15,.mv (.tmp 19),.none,[],[]⟩])
 (.cond (.tmp 15)
 (.seq (.reg false [⟨.some 2,.mv (.av (.int .i64 0)),.none,[],[]⟩,
 ⟨.some 3,.mv (.av (.int .i64 2)),.none,[],[]⟩])
 .ret)
 (.seq (.reg false [⟨.some 21,.faddr 2 (.tmp 1),.none,[],[]⟩,
 ⟨.some 22,.load false false 1 (.tmp 21),.none,[],[]⟩,
 ⟨.some 23,.len false (.tmp 22),.none,[],[]⟩,
 ⟨.some 24,.bin .eql (.tmp 23) (.av (.int .i64 0)),.none,[],[]⟩,
 ⟨.some 20,.mv (.tmp 24),.none,[],[]⟩])
 (.cond (.tmp 20)
 (.seq (.reg false [⟨.some 2,.mv (.av (.int .i64 0)),.none,[],[]⟩,
 ⟨.some 3,.mv (.av (.int .i64 10)),.none,[],[]⟩])
 .ret)
 (.seq (.reg false [⟨.some 26,.faddr 2 (.tmp 1),.none,[],[]⟩,
 ⟨.some 27,.load false false 1 (.tmp 26),.none,[],[]⟩,
 ⟨.some 28,.len false (.tmp 27),.none,[],[]⟩,
 ⟨.some 29,.bin .gtr (.tmp 28) (.av (.int .i64 8)),.none,[],[]⟩,
 ⟨.some 25,.mv (.tmp 29),.none,[],[]⟩])
 (.cond (.tmp 25)
 (.seq (.reg false [⟨.some 2,.mv (.av (.int .i64 0)),.none,[],[]⟩,
 ⟨.some 3,.mv (.av (.int .i64 8)),.none,[],[]⟩])
 .ret)
 .skip)))))))))
 (.cut [1] []
 (.seq (.seq (.reg false [⟨.some 30,.faddr 2 (.tmp 1),.none,[],[]⟩,
 ⟨.some 31,.load false false 1 (.tmp 30),.none,[],[]⟩,
 ⟨.some 32,.len false (.tmp 31),.none,[],[]⟩,
 ⟨.some 33,.mv (.av (.int .i64 0)),.none,[],[]⟩])
 (.block 1
 l_profile_CheckPlan_2))
 (.cut [1] []
 (.seq (.seq (.reg false [⟨.some 43,.faddr 3 (.tmp 1),.none,[],[]⟩,
 ⟨.some 44,.load false false 1 (.tmp 43),.none,[],[]⟩,
 ⟨.some 45,.len false (.tmp 44),.none,[],[]⟩,
 ⟨.some 46,.bin .gtr (.tmp 45) (.av (.int .i64 60)),.none,[],[]⟩])
 (.cond (.tmp 46)
 (.seq (.reg false [⟨.some 2,.mv (.av (.int .i64 0)),.none,[],[]⟩,
 ⟨.some 3,.mv (.av (.int .i64 8)),.none,[],[]⟩])
 .ret)
 .skip))
 (.cut [1] []
 (.seq (.reg false [⟨.some 7,.mv (.av (.int .i64 0)),.none,[],[]⟩])
 (.seq (.seq (.reg false [⟨.some 47,.faddr 3 (.tmp 1),.none,[],[]⟩,
 ⟨.some 48,.load false false 1 (.tmp 47),.none,[],[]⟩,
 ⟨.some 49,.len false (.tmp 48),.none,[],[]⟩,
 ⟨.some 50,.mv (.av (.int .i64 0)),.none,[],[]⟩])
 (.block 3
 l_profile_CheckPlan_1))
 (.cut [] []
 (.seq (.reg false [⟨.some 2,.mv (.av (.int .i64 0)),.none,[],[]⟩,
 ⟨.some 3,.mv (.av (.int .i64 0)),.none,[],[]⟩])
 .ret))))))))))),
 [.tmp 2,.tmp 3], false⟩
theorem c_profile_CheckPlan : chkFunc Tryz.prog gl n_profile_CheckPlan a_profile_CheckPlan = true := by kernel_rfl
/- shotline/exposure.within -/
def a_exposure_within : AFunc := ⟨15,
 (.seq (.reg false [⟨.some 6,.mv (.av (.bool false)),.none,[],[]⟩])
 (.seq (.reg false [⟨.some 7,.mv (.tmp 1),.none,[],[]⟩,
 ⟨.some 8,.mv (.tmp 0),.none,[],[]⟩,
 ⟨.some 9,.bin .leq (.tmp 7) (.tmp 8),.none,[],[]⟩,
 ⟨.some 10,.mv (.tmp 9),.none,[],[]⟩,
 ⟨.some 11,.mv (.tmp 0),.some (10,true),[],[]⟩,
 ⟨.some 12,.mv (.tmp 2),.some (10,true),[],[]⟩,
 ⟨.some 13,.bin .leq (.tmp 11) (.tmp 12),.some (10,true),[],[]⟩,
 ⟨.some 14,.pick (.tmp 10) (.tmp 13) (.av (.bool false)),.none,[],[]⟩,
 ⟨.some 6,.mv (.tmp 14),.none,[],[]⟩])
 .ret)),
 [.tmp 6], false⟩
theorem c_exposure_within : chkFunc Tryz.prog gl n_exposure_within a_exposure_within = true := by kernel_rfl
/- shotline/exposure.up -/
def a_exposure_up : AFunc := ⟨11,
 (.seq (.reg false [⟨.some 4,.mv (.av (.int .i64 0)),.none,[],[]⟩])
 (.seq (.reg false [⟨.some 5,.mv (.tmp 0),.none,[],[]⟩,
 ⟨.some 6,.mv (.tmp 1),.none,[],[]⟩,
 ⟨.some 7,.bin .add (.tmp 5) (.tmp 6),.none,[],[]⟩,
 ⟨.some 8,.bin .sub (.tmp 7) (.av (.int .i64 1)),.none,[],[]⟩,
 ⟨.some 9,.mv (.tmp 1),.none,[],[]⟩,
 ⟨.some 10,.bin .quo (.tmp 8) (.tmp 9),.none,[],[]⟩,
 ⟨.some 4,.mv (.tmp 10),.none,[],[]⟩])
 .ret)),
 [.tmp 4], false⟩
theorem c_exposure_up : chkFunc Tryz.prog gl n_exposure_up a_exposure_up = true := by kernel_rfl
/- slices.IndexFunc[[]shotline/api.DivePlan,shotline/api.DivePlan] -/
def b_slices_IndexFunc_api_DivePlan_1 : ACode :=
 (.seq (.reg false [⟨.some 9,.bin .lss (.tmp 8) (.tmp 7),.none,[],[]⟩])
 (.seq (.cond (.tmp 9)
 .skip
 (.exit 0))
 (.cut [0,1,7,8] []
 (.seq (.block 1
 (.seq (.reg false [⟨.some 10,.mv (.tmp 8),.none,[],[]⟩,
 ⟨.some 5,.mv (.tmp 10),.none,[],[]⟩])
 (.seq (.reg false [⟨.some 11,.mv (.tmp 1),.none,[],[]⟩,
 ⟨.some 12,.mv (.tmp 0),.none,[],[]⟩,
 ⟨.some 13,.mv (.tmp 5),.none,[],[]⟩,
 ⟨.some 14,.iaddr .none 4 (.tmp 12) (.tmp 13),.none,[],[]⟩,
 ⟨.some 15,.load true false 4 (.tmp 14),.none,[],[]⟩,
 ⟨.some 16,.call (.tmp 11) [(.tmp 15)],.none,[],[]⟩])
 (.cond (.tmp 16)
 (.seq (.reg false [⟨.some 17,.mv (.tmp 5),.none,[],[]⟩,
 ⟨.some 4,.mv (.tmp 17),.none,[],[]⟩])
 .ret)
 .skip))))
 (.cut [0,1,7,8] []
 (.reg false [⟨.some 18,.bin .add (.tmp 8) (.av (.int .i64 1)),.none,[],[]⟩,
 ⟨.some 8,.mv (.tmp 18),.none,[],[]⟩]))))))
def l_slices_IndexFunc_api_DivePlan_1 : ACode := .loop (.cut [0,1,7,8] [] b_slices_IndexFunc_api_DivePlan_1)
def a_slices_IndexFunc_api_DivePlan : AFunc := ⟨19,
 (.seq (.reg false [⟨.some 4,.mv (.av (.int .i64 0)),.none,[],[]⟩])
 (.seq (.seq (.reg false [⟨.some 6,.mv (.tmp 0),.none,[],[]⟩,
 ⟨.some 7,.len false (.tmp 6),.none,[],[]⟩,
 ⟨.some 8,.mv (.av (.int .i64 0)),.none,[],[]⟩])
 (.block 0
 l_slices_IndexFunc_api_DivePlan_1))
 (.cut [] []
 (.seq (.reg false [⟨.some 4,.mv (.av (.int .i64 (-1))),.none,[],[]⟩])
 .ret)))),
 [.tmp 4], false⟩
theorem c_slices_IndexFunc_api_DivePlan : chkFunc Tryz.prog gl n_slices_IndexFunc_api_DivePlan a_slices_IndexFunc_api_DivePlan = true := by kernel_rfl
/- (*shotline/desk.world).plan$1 -/
def a_desk_world_plan_c1 : AFunc := ⟨8,
 (.seq (.reg false [⟨.some 2,.box true (.tmp 0),.none,[],[]⟩,
 ⟨.some 3,.mv (.av (.bool false)),.none,[],[]⟩])
 (.seq (.reg false [⟨.some 4,.faddr 0 (.tmp 2),.none,[],[]⟩,
 ⟨.some 5,.load false false 1 (.tmp 4),.none,[],[]⟩,
 ⟨.some 6,.load false false 1 (.tmp 1),.none,[],[]⟩,
 ⟨.some 7,.bin .eql (.tmp 5) (.tmp 6),.none,[],[]⟩,
 ⟨.some 3,.mv (.tmp 7),.none,[],[]⟩])
 .ret)),
 [.tmp 3], false⟩
theorem c_desk_world_plan_c1 : chkFunc Tryz.prog gl n_desk_world_plan_c1 a_desk_world_plan_c1 = true := by kernel_rfl
/- shotline/kit.item -/
def a_kit_item : AFunc := ⟨9,
 (.seq (.reg false [⟨.some 2,.box true (.tmp 0),.none,[],[]⟩,
 ⟨.some 3,.box true (.tmp 1),.none,[],[]⟩,
 ⟨.some 4,.mv (.av (.int .i64 0)),.none,[],[]⟩])
 (.seq (.reg false [⟨.some 5,.faddr 0 (.tmp 2),.none,[],[]⟩,
 ⟨.some 6,.load false false 1 (.tmp 5),.none,[],[]⟩,
 ⟨.some 7,.mkfn n_kit_item_c1 [(.tmp 3)],.none,[],[]⟩,
 ⟨.some 8,.call (.av (.fn n_kit_find_api_KitItem [])) [(.tmp 6),(.tmp 7)],.none,[],[]⟩,
 ⟨.some 4,.mv (.tmp 8),.none,[],[]⟩])
 .ret)),
 [.tmp 4], false⟩
theorem c_kit_item : chkFunc Tryz.prog gl n_kit_item a_kit_item = true := by kernel_rfl
/- shotline/kit.isKind -/
def a_kit_isKind : AFunc := ⟨5,
 (.seq (.reg false [⟨.some 2,.mv (.av (.bool false)),.none,[],[]⟩])
 (.seq (.reg false [⟨.some 3,.mv (.tmp 0),.none,[],[]⟩,
 ⟨.some 4,.call (.av (.fn n_kit_within [])) [(.tmp 3),(.av (.int .i64 1)),(.av (.int .i64 4))],.none,[],[]⟩,
 ⟨.some 2,.mv (.tmp 4),.none,[],[]⟩])
 .ret)),
 [.tmp 2], false⟩
theorem c_kit_isKind : chkFunc Tryz.prog gl n_kit_isKind a_kit_isKind = true := by kernel_rfl
/- shotline/kit.isDay -/
def a_kit_isDay : AFunc := ⟨5,
 (.seq (.reg false [⟨.some 2,.mv (.av (.bool false)),.none,[],[]⟩])
 (.seq (.reg false [⟨.some 3,.mv (.tmp 0),.none,[],[]⟩,
 ⟨.some 4,.call (.av (.fn n_kit_within [])) [(.tmp 3),(.av (.int .i64 0)),(.av (.int .i64 100000))],.none,[],[]⟩,
 ⟨.some 2,.mv (.tmp 4),.none,[],[]⟩])
 .ret)),
 [.tmp 2], false⟩
theorem c_kit_isDay : chkFunc Tryz.prog gl n_kit_isDay a_kit_isDay = true := by kernel_rfl
/- shotline/kit.rule -/
def a_kit_rule : AFunc := ⟨9,
 (.seq (.reg false [⟨.some 2,.box true (.tmp 0),.none,[],[]⟩,
 ⟨.some 3,.box true (.tmp 1),.none,[],[]⟩,
 ⟨.some 4,.mv (.av (.int .i64 0)),.none,[],[]⟩])
 (.seq (.reg false [⟨.some 5,.faddr 1 (.tmp 2),.none,[],[]⟩,
 ⟨.some 6,.load false false 1 (.tmp 5),.none,[],[]⟩,
 ⟨.some 7,.mkfn n_kit_rule_c1 [(.tmp 3)],.none,[],[]⟩,
 ⟨.some 8,.call (.av (.fn n_kit_find_api_KitRule [])) [(.tmp 6),(.tmp 7)],.none,[],[]⟩,
 ⟨.some 4,.mv (.tmp 8),.none,[],[]⟩])
 .ret)),
 [.tmp 4], false⟩
theorem c_kit_rule : chkFunc Tryz.prog gl n_kit_rule a_kit_rule = true := by kernel_rfl
/- shotline/kit.within -/
def a_kit_within : AFunc := ⟨15,
 (.seq (.reg false [⟨.some 6,.mv (.av (.bool false)),.none,[],[]⟩])
 (.seq (.reg false [⟨.some 7,.mv (.tmp 0),.none,[],[]⟩,
 ⟨.some 8,.mv (.tmp 1),.none,[],[]⟩,
 ⟨.some 9,.bin .geq (.tmp 7) (.tmp 8),.none,[],[]⟩,
 ⟨.some 10,.mv (.tmp 9),.none,[],[]⟩,
 ⟨.some 11,.mv (.tmp 0),.some (10,true),[],[]⟩,
 ⟨.some 12,.mv (.tmp 2),.some (10,true),[],[]⟩,
 ⟨.some 13,.bin .leq (.tmp 11) (.tmp 12),.some (10,true),[],[]⟩,
 ⟨.some 14,.pick (.tmp 10) (.tmp 13) (.av (.bool false)),.none,[],[]⟩,
 ⟨.some 6,.mv (.tmp 14),.none,[],[]⟩])
 .ret)),
 [.tmp 6], false⟩
theorem c_kit_within : chkFunc Tryz.prog gl n_kit_within a_kit_within = true := by kernel_rfl
/- shotline/gas.CheckLimits -/
def a_gas_CheckLimits : AFunc := ⟨20,
 (.seq (.reg false [⟨.some 1,.box true (.tmp 0),.none,[],[]⟩,
 ⟨.some 2,.mv (.av (.int .i64 0)),.none,[],[]⟩])
 (.seq (.seq (.reg true [⟨.some 4,.faddr 0 (.tmp 1),.none,[],[]⟩,
 ⟨.some 5,.load false false 1 (.tmp 4),.none,[],[]⟩,
 ⟨.some 6,.call (.av (.fn n_gas_bound [])) [(.tmp 5),(.av (.int .i64 1)),(.av (.int .i64 4000))],.none,[],[2]⟩,
 ⟨.some 7,.faddr 1 (.tmp 1),.none,[],[]⟩,
 ⟨.some 8,.load false false 1 (.tmp 7),.none,[],[]⟩,
 ⟨.some 9,.call (.av (.fn n_gas_bound [])) [(.tmp 8),(.av (.int .i64 1)),(.av (.int .i64 4000))],.none,[],[]⟩,
 ⟨.some 10,.bslice true 1 2 [(.int .i64 0)] [(0,(.tmp 6)),(1,(.tmp 9))],.none,[],[]⟩,
 ⟨.some 11,.call (.av (.fn n_gas_first [])) [(.tmp 10)],.none,[],[]⟩,
 ⟨.some 3,.mv (.tmp 11),.none,[],[]⟩])
 (.seq (.reg false [⟨.some 12,.mv (.tmp 3),.none,[],[]⟩,
 ⟨.some 13,.bin .neq (.tmp 12) (.av (.int .i64 0)),.none,[],[]⟩])
 (.cond (.tmp 13)
 (.seq (.reg false [⟨.some 14,.mv (.tmp 3),.none,[],[]⟩,
 ⟨.some 2,.mv (.tmp 14),.none,[],[]⟩])
 .ret)
 .skip)))
 (.cut [1] []
 (.seq (.seq (.reg false [⟨.some 15,.faddr 0 (.tmp 1),.none,[],[]⟩,
 ⟨.some 16,.load false false 1 (.tmp 15),.none,[],[]⟩,
 ⟨.some 17,.faddr 1 (.tmp 1),.none,[],[]⟩,
 ⟨.some 18,.load false false 1 (.tmp 17),.none,[],[]⟩,
 ⟨.some 19,.bin .gtr (.tmp 16) (.tmp 18),.none,[],[]⟩])
 (.cond (.tmp 19)
 (.seq (.reg false [⟨.some 2,.mv (.av (.int .i64 9)),.none,[],[]⟩])
 .ret)
 .skip))
 (.cut [] []
 (.seq (.reg false [⟨.some 2,.mv (.av (.int .i64 0)),.none,[],[]⟩])
 .ret)))))),
 [.tmp 2], false⟩
theorem c_gas_CheckLimits : chkFunc Tryz.prog gl n_gas_CheckLimits a_gas_CheckLimits = true := by kernel_rfl
/- shotline/tissue.within -/
def a_tissue_within : AFunc := ⟨15,
 (.seq (.reg false [⟨.some 6,.mv (.av (.bool false)),.none,[],[]⟩])
 (.seq (.reg false [⟨.some 7,.mv (.tmp 1),.none,[],[]⟩,
 ⟨.some 8,.mv (.tmp 0),.none,[],[]⟩,
 ⟨.some 9,.bin .leq (.tmp 7) (.tmp 8),.none,[],[]⟩,
 ⟨.some 10,.mv (.tmp 9),.none,[],[]⟩,
 ⟨.some 11,.mv (.tmp 0),.some (10,true),[],[]⟩,
 ⟨.some 12,.mv (.tmp 2),.some (10,true),[],[]⟩,
 ⟨.some 13,.bin .leq (.tmp 11) (.tmp 12),.some (10,true),[],[]⟩,
 ⟨.some 14,.pick (.tmp 10) (.tmp 13) (.av (.bool false)),.none,[],[]⟩,
 ⟨.some 6,.mv (.tmp 14),.none,[],[]⟩])
 .ret)),
 [.tmp 6], false⟩
theorem c_tissue_within : chkFunc Tryz.prog gl n_tissue_within a_tissue_within = true := by kernel_rfl
/- shotline/tissue.isCompartment -/
def a_tissue_isCompartment : AFunc := ⟨21,
 (.seq (.reg false [⟨.some 1,.box true (.tmp 0),.none,[],[]⟩,
 ⟨.some 2,.mv (.av (.bool false)),.none,[],[]⟩])
 (.seq (.reg false [⟨.some 3,.faddr 0 (.tmp 1),.none,[],[]⟩,
 ⟨.some 4,.load false false 1 (.tmp 3),.none,[],[]⟩,
 ⟨.some 5,.call (.av (.fn n_tissue_within [])) [(.tmp 4),(.av (.int .i64 1)),(.av (.int .i64 100000))],.none,[],[]⟩,
 ⟨.some 6,.mv (.tmp 5),.none,[],[]⟩,
 ⟨.some 7,.faddr 1 (.tmp 1),.some (6,true),[],[]⟩,
 ⟨.some 8,.load false false 1 (.tmp 7),.some (6,true),[],[]⟩,
 ⟨.some 9,.call (.av (.fn n_tissue_within [])) [(.tmp 8),(.av (.int .i64 1)),(.av (.int .i64 100000))],.some (6,true),[],[]⟩,
 ⟨.some 10,.pick (.tmp 6) (.tmp 9) (.av (.bool false)),.none,[],[]⟩,
 ⟨.some 11,.mv (.tmp 10),.none,[],[]⟩,
 ⟨.some 12,.faddr 2 (.tmp 1),.some (11,true),[],[]⟩,
 ⟨.some 13,.load false false 1 (.tmp 12),.some (11,true),[],[]⟩,
 ⟨.some 14,.call (.av (.fn n_tissue_within [])) [(.tmp 13),(.av (.int .i64 0)),(.av (.int .i64 10000))],.some (11,true),[],[]⟩,
 ⟨.some 15,.pick (.tmp 11) (.tmp 14) (.av (.bool false)),.none,[],[]⟩,
 ⟨.some 16,.mv (.tmp 15),.none,[],[]⟩,
 ⟨.some 17,.faddr 3 (.tmp 1),.some (16,true),[],[]⟩,
 ⟨.some 18,.load false false 1 (.tmp 17),.some (16,true),[],[]⟩,
 ⟨.some 19,.call (.av (.fn n_tissue_within [])) [(.tmp 18),(.av (.int .i64 1000)),(.av (.int .i64 10000))],.some (16,true),[],[]⟩,
 ⟨.some 20,.pick (.tmp 16) (.tmp 19) (.av (.bool false)),.none,[],[]⟩,
 ⟨.some 2,.mv (.tmp 20),.none,[],[]⟩])
 .ret)),
 [.tmp 2], false⟩
theorem c_tissue_isCompartment : chkFunc Tryz.prog gl n_tissue_isCompartment a_tissue_isCompartment = true := by kernel_rfl
/- internal/stringslite.Cut -/
def a_internal_stringslite_Cut : AFunc := ⟨23,
 (.seq (.reg false [⟨.some 4,.mv (.av (.str [])),.none,[],[]⟩,
 ⟨.some 5,.mv (.av (.str [])),.none,[],[]⟩,
 ⟨.some 6,.mv (.av (.bool false)),.none,[],[]⟩])
 (.seq (.seq (.reg false [⟨.some 8,.mv (.tmp 0),.none,[],[]⟩,
 ⟨.some 9,.mv (.tmp 1),.none,[],[]⟩,
 ⟨.some 10,.call (.av (.fn n_internal_stringslite_Index [])) [(.tmp 8),(.tmp 9)],.none,[],[]⟩,
 ⟨.some 7,.mv (.tmp 10),.none,[],[]⟩])
 (.seq (.reg false [⟨.some 11,.mv (.tmp 7),.none,[],[]⟩,
 ⟨.some 12,.bin .geq (.tmp 11) (.av (.int .i64 0)),.none,[],[]⟩])
 (.cond (.tmp 12)
 (.seq (.reg true [⟨.some 13,.mv (.tmp 0),.none,[],[]⟩,
 ⟨.some 14,.mv (.tmp 7),.none,[],[]⟩,
 ⟨.some 15,.slice .str (.tmp 13) .none (.some (.tmp 14)) .none,.none,[],[]⟩,
 ⟨.some 16,.mv (.tmp 0),.none,[],[]⟩,
 ⟨.some 17,.mv (.tmp 7),.none,[],[]⟩,
 ⟨.some 18,.mv (.tmp 1),.none,[],[]⟩,
 ⟨.some 19,.len true (.tmp 18),.none,[],[]⟩,
 ⟨.some 20,.bin .add (.tmp 17) (.tmp 19),.none,[],[]⟩,
 ⟨.some 21,.slice .str (.tmp 16) (.some (.tmp 20)) .none .none,.none,[],[]⟩,
 ⟨.some 4,.mv (.tmp 15),.none,[],[]⟩,
 ⟨.some 5,.mv (.tmp 21),.none,[],[]⟩,
 ⟨.some 6,.mv (.av (.bool true)),.none,[],[]⟩])
 .ret)
 .skip)))
 (.cut [0] []
 (.seq (.reg false [⟨.some 22,.mv (.tmp 0),.none,[],[]⟩,
 ⟨.some 4,.mv (.tmp 22),.none,[],[]⟩,
 ⟨.some 5,.mv (.av (.str [])),.none,[],[]⟩,
 ⟨.some 6,.mv (.av (.bool false)),.none,[],[]⟩])
 .ret)))),
 [.tmp 4,.tmp 5,.tmp 6], false⟩
theorem c_internal_stringslite_Cut : chkFunc Tryz.prog gl n_internal_stringslite_Cut a_internal_stringslite_Cut = true := by kernel_rfl
/- slices.Index[[]int,int] -/
def b_slices_Index_int_1 : ACode :=
 (.seq (.reg false [⟨.some 9,.bin .lss (.tmp 8) (.tmp 7),.none,[],[]⟩])
 (.seq (.cond (.tmp 9)
 .skip
 (.exit 0))
 (.cut [0,1,7,8] []
 (.seq (.block 1
 (.seq (.reg false [⟨.some 10,.mv (.tmp 8),.none,[],[]⟩,
 ⟨.some 5,.mv (.tmp 10),.none,[],[]⟩])
 (.seq (.reg false [⟨.some 11,.mv (.tmp 1),.none,[],[]⟩,
 ⟨.some 12,.mv (.tmp 0),.none,[],[]⟩,
 ⟨.some 13,.mv (.tmp 5),.none,[],[]⟩,
 ⟨.some 14,.iaddr .none 1 (.tmp 12) (.tmp 13),.none,[],[]⟩,
 ⟨.some 15,.load false false 1 (.tmp 14),.none,[],[]⟩,
 ⟨.some 16,.bin .eql (.tmp 11) (.tmp 15),.none,[],[]⟩])
 (.cond (.tmp 16)
 (.seq (.reg false [⟨.some 17,.mv (.tmp 5),.none,[],[]⟩,
 ⟨.some 4,.mv (.tmp 17),.none,[],[]⟩])
 .ret)
 .skip))))
 (.cut [0,1,7,8] []
 (.reg false [⟨.some 18,.bin .add (.tmp 8) (.av (.int .i64 1)),.none,[],[]⟩,
 ⟨.some 8,.mv (.tmp 18),.none,[],[]⟩]))))))
def l_slices_Index_int_1 : ACode := .loop (.cut [0,1,7,8] [] b_slices_Index_int_1)
def a_slices_Index_int : AFunc := ⟨19,
 (.seq (.reg false [⟨.some 4,.mv (.av (.int .i64 0)),.none,[],[]⟩])
 (.seq (.seq (.reg false [⟨.some 6,.mv (.tmp 0),.none,[],[]⟩,
 ⟨.some 7,.len false (.tmp 6),.none,[],[]⟩,
 ⟨.some 8,.mv (.av (.int .i64 0)),.none,[],[]⟩])
 (.block 0
 l_slices_Index_int_1))
 (.cut [] []
 (.seq (.reg false [⟨.some 4,.mv (.av (.int .i64 (-1))),.none,[],[]⟩])
 .ret)))),
 [.tmp 4], false⟩
theorem c_slices_Index_int : chkFunc Tryz.prog gl n_slices_Index_int a_slices_Index_int = true := by kernel_rfl
/- shotline/mix.ParseFill -/
def a_mix_ParseFill : AFunc := ⟨20,
 (.seq (.reg false [⟨.some 2,.alloc [(.int .i64 0),(.int .i64 0),(.str []),(.str []),(.int .i64 0),(.int .i64 0),(.int .i64 0),(.bool false)],.none,[],[]⟩,
 ⟨.some 3,.mv (.av (.int .i64 0)),.none,[],[]⟩])
 (.seq (.reg false [⟨.some 7,.mv (.tmp 0),.none,[],[]⟩,
 ⟨.some 8,.call (.av (.fn n_strings_Split [])) [(.tmp 7),(.av (.str [32]))],.none,[],[]⟩,
 ⟨.some 9,.call (.av (.fn n_mix_fillOf [])) [(.tmp 8)],.none,[],[]⟩,
 ⟨.some 6,.mv (.tmp 9),.none,[],[]⟩,
 ⟨.some 10,.extract (.tmp 6) 0,.none,[],[]⟩,
 ⟨.some 11,.extract (.tmp 6) 1,.none,[],[]⟩,
 ⟨.some 4,.alloc [(.int .i64 0),(.int .i64 0),(.str []),(.str []),(.int .i64 0),(.int .i64 0),(.int .i64 0),(.bool false)],.none,[],[]⟩,
 ⟨.none,.store 8 (.tmp 4) (.tmp 10),.none,[10],[]⟩,
 ⟨.some 5,.mv (.tmp 11),.none,[],[]⟩])
 (.seq (.seq (.reg false [⟨.some 12,.mv (.tmp 5),.none,[],[]⟩,
 ⟨.some 13,.un .not (.tmp 12),.none,[],[]⟩,
 ⟨.some 14,.mv (.tmp 13),.none,[],[]⟩,
 ⟨.some 15,.mv (.tmp 0),.some (14,false),[],[]⟩,
 ⟨.some 16,.call (.av (.fn n_strings_Contains [])) [(.tmp 15),(.av (.str [10]))],.some (14,false),[],[]⟩,
 ⟨.some 17,.pick (.tmp 14) (.av (.bool true)) (.tmp 16),.none,[],[]⟩])
 (.cond (.tmp 17)
 (.seq (.reg false [⟨.some 18,.build [(.int .i64 0),(.int .i64 0),(.str []),(.str []),(.int .i64 0),(.int .i64 0),(.int .i64 0),(.bool false)] [],.none,[],[]⟩,
 ⟨.none,.store 8 (.tmp 2) (.tmp 18),.none,[18],[]⟩,
 ⟨.some 3,.mv (.av (.int .i64 7)),.none,[],[]⟩])
 .ret)
 .skip))
 (.cut [2,4] []
 (.seq (.reg false [⟨.some 19,.load true false 8 (.tmp 4),.none,[],[]⟩,
 ⟨.none,.store 8 (.tmp 2) (.tmp 19),.none,[19],[]⟩,
 ⟨.some 3,.mv (.av (.int .i64 0)),.none,[],[]⟩])
 .ret))))),
 [.cell true 8 2,.tmp 3], false⟩
theorem c_mix_ParseFill : chkFunc Tryz.prog gl n_mix_ParseFill a_mix_ParseFill = true := by kernel_rfl
/- shotline/kit.ParseEvent -/
def a_kit_ParseEvent : AFunc := ⟨83,
 (.seq (.reg false [⟨.some 2,.alloc [(.int .i64 0),(.int .i64 0),(.str []),(.str []),(.str []),(.bool false)],.none,[],[]⟩,
 ⟨.some 3,.mv (.av (.int .i64 0)),.none,[],[]⟩])
 (.seq (.reg false [⟨.some 7,.mv (.tmp 0),.none,[],[]⟩,
 ⟨.some 8,.call (.av (.fn n_strings_Split [])) [(.tmp 7),(.av (.str [32]))],.none,[],[]⟩,
 ⟨.some 4,.mv (.tmp 8),.none,[8],[]⟩])
 (.seq (.reg false [⟨.some 5,.alloc [(.int .i64 0),(.int .i64 0),(.str []),(.str []),(.str []),(.bool false)],.none,[],[]⟩])
 (.seq (.reg false [⟨.some 6,.mv (.av (.bool false)),.none,[],[]⟩])
 (.seq (.seq (.reg false [⟨.some 9,.mv (.tmp 4),.none,[],[]⟩,
 ⟨.some 10,.iaddr .none 1 (.tmp 9) (.av (.int .i64 0)),.none,[],[]⟩,
 ⟨.some 11,.load false false 1 (.tmp 10),.none,[],[]⟩])
 (.block 0
 (.seq (.reg false [⟨.some 13,.bin .eql (.tmp 11) (.av (.str [99,104,101,99,107])),.none,[],[]⟩,
 ⟨.some 12,.mv (.tmp 13),.none,[],[]⟩])
 (.cond (.tmp 12)
 (.reg false [⟨.some 14,.mv (.tmp 4),.none,[],[]⟩,
 ⟨.some 15,.slice (.slc 1) (.tmp 14) (.some (.av (.int .i64 1))) .none .none,.none,[],[]⟩,
 ⟨.some 16,.faddr 1 (.tmp 5),.none,[],[]⟩,
 ⟨.some 17,.mkif 291 (.tmp 16),.none,[],[]⟩,
 ⟨.some 18,.faddr 2 (.tmp 5),.none,[],[]⟩,
 ⟨.some 19,.mkif 292 (.tmp 18),.none,[],[]⟩,
 ⟨.some 20,.faddr 3 (.tmp 5),.none,[],[]⟩,
 ⟨.some 21,.mkif 292 (.tmp 20),.none,[],[]⟩,
 ⟨.some 22,.faddr 5 (.tmp 5),.none,[],[]⟩,
 ⟨.some 23,.mkif 293 (.tmp 22),.none,[],[]⟩,
 ⟨.some 24,.bslice true 1 4 [.nili] [(0,(.tmp 17)),(1,(.tmp 19)),(2,(.tmp 21)),(3,(.tmp 23))],.none,[],[]⟩,
 ⟨.some 25,.call (.av (.fn 192 [])) [(.tmp 15),(.tmp 24)],.none,[],[]⟩,
 ⟨.some 26,.faddr 0 (.tmp 5),.none,[],[]⟩,
 ⟨.none,.store 1 (.tmp 26) (.av (.int .i64 0)),.none,[],[]⟩,
 ⟨.some 6,.mv (.tmp 25),.none,[],[]⟩])
 (.seq (.reg false [⟨.some 28,.bin .eql (.tmp 11) (.av (.str [117,115,101])),.none,[],[]⟩,
 ⟨.some 27,.mv (.tmp 28),.none,[],[]⟩])
 (.cond (.tmp 27)
 (.reg false [⟨.some 29,.mv (.tmp 4),.none,[],[]⟩,
 ⟨.some 30,.slice (.slc 1) (.tmp 29) (.some (.av (.int .i64 1))) .none .none,.none,[],[]⟩,
 ⟨.some 31,.faddr 1 (.tmp 5),.none,[],[]⟩,
 ⟨.some 32,.mkif 291 (.tmp 31),.none,[],[]⟩,
 ⟨.some 33,.faddr 2 (.tmp 5),.none,[],[]⟩,
 ⟨.some 34,.mkif 292 (.tmp 33),.none,[],[]⟩,
 ⟨.some 35,.bslice true 1 2 [.nili] [(0,(.tmp 32)),(1,(.tmp 34))],.none,[],[]⟩,
 ⟨.some 36,.call (.av (.fn 192 [])) [(.tmp 30),(.tmp 35)],.none,[],[]⟩,
 ⟨.some 37,.faddr 0 (.tmp 5),.none,[],[]⟩,
 ⟨.none,.store 1 (.tmp 37) (.av (.int .i64 1)),.none,[],[]⟩,
 ⟨.some 6,.mv (.tmp 36),.none,[],[]⟩])
 (.seq (.reg false [⟨.some 39,.bin .eql (.tmp 11) (.av (.str [102,105,108,108])),.none,[],[]⟩,
 ⟨.some 38,.mv (.tmp 39),.none,[],[]⟩])
 (.cond (.tmp 38)
 (.reg false [⟨.some 40,.mv (.tmp 4),.none,[],[]⟩,
 ⟨.some 41,.slice (.slc 1) (.tmp 40) (.some (.av (.int .i64 1))) .none .none,.none,[],[]⟩,
 ⟨.some 42,.faddr 1 (.tmp 5),.none,[],[]⟩,
 ⟨.some 43,.mkif 291 (.tmp 42),.none,[],[]⟩,
 ⟨.some 44,.faddr 4 (.tmp 5),.none,[],[]⟩,
 ⟨.some 45,.mkif 292 (.tmp 44),.none,[],[]⟩,
 ⟨.some 46,.faddr 2 (.tmp 5),.none,[],[]⟩,
 ⟨.some 47,.mkif 292 (.tmp 46),.none,[],[]⟩,
 ⟨.some 48,.bslice true 1 3 [.nili] [(0,(.tmp 43)),(1,(.tmp 45)),(2,(.tmp 47))],.none,[],[]⟩,
 ⟨.some 49,.call (.av (.fn 192 [])) [(.tmp 41),(.tmp 48)],.none,[],[]⟩,
 ⟨.some 50,.faddr 0 (.tmp 5),.none,[],[]⟩,
 ⟨.none,.store 1 (.tmp 50) (.av (.int .i64 2)),.none,[],[]⟩,
 ⟨.some 6,.mv (.tmp 49),.none,[],[]⟩])
 (.seq (.reg false [⟨.some 52,.bin .eql (.tmp 11) (.av (.str [101,109,112,116,121])),.none,[],[]⟩,
 ⟨.some 51,.mv (.tmp 52),.none,[],[]⟩])
 (.cond (.tmp 51)
 (.reg false [⟨.some 53,.mv (.tmp 4),.none,[],[]⟩,
 ⟨.some 54,.slice (.slc 1) (.tmp 53) (.some (.av (.int .i64 1))) .none .none,.none,[],[]⟩,
 ⟨.some 55,.faddr 1 (.tmp 5),.none,[],[]⟩,
 ⟨.some 56,.mkif 291 (.tmp 55),.none,[],[]⟩,
 ⟨.some 57,.faddr 2 (.tmp 5),.none,[],[]⟩,
 ⟨.some 58,.mkif 292 (.tmp 57),.none,[],[]⟩,
 ⟨.some 59,.bslice true 1 2 [.nili] [(0,(.tmp 56)),(1,(.tmp 58))],.none,[],[]⟩,
 ⟨.some 60,.call (.av (.fn 192 [])) [(.tmp 54),(.tmp 59)],.none,[],[]⟩,
 ⟨.some 61,.faddr 0 (.tmp 5),.none,[],[]⟩,
 ⟨.none,.store 1 (.tmp 61) (.av (.int .i64 3)),.none,[],[]⟩,
 ⟨.some 6,.mv (.tmp 60),.none,[],[]⟩])
 (.seq (.reg false [⟨.some 63,.bin .eql (.tmp 11) (.av (.str [97,105,114])),.none,[],[]⟩,
 ⟨.some 62,.mv (.tmp 63),.none,[],[]⟩])
 (.cond (.tmp 62)
 (.reg false [⟨.some 64,.mv (.tmp 4),.none,[],[]⟩,
 ⟨.some 65,.slice (.slc 1) (.tmp 64) (.some (.av (.int .i64 1))) .none .none,.none,[],[]⟩,
 ⟨.some 66,.faddr 1 (.tmp 5),.none,[],[]⟩,
 ⟨.some 67,.mkif 291 (.tmp 66),.none,[],[]⟩,
 ⟨.some 68,.faddr 2 (.tmp 5),.none,[],[]⟩,
 ⟨.some 69,.mkif 292 (.tmp 68),.none,[],[]⟩,
 ⟨.some 70,.faddr 5 (.tmp 5),.none,[],[]⟩,
 ⟨.some 71,.mkif 293 (.tmp 70),.none,[],[]⟩,
 ⟨.some 72,.bslice true 1 3 [.nili] [(0,(.tmp 67)),(1,(.tmp 69)),(2,(.tmp 71))],.none,[],[]⟩,
 ⟨.some 73,.call (.av (.fn 192 [])) [(.tmp 65),(.tmp 72)],.none,[],[]⟩,
 ⟨.some 74,.faddr 0 (.tmp 5),.none,[],[]⟩,
 ⟨.none,.store 1 (.tmp 74) (.av (.int .i64 4)),.none,[],[]⟩,
 ⟨.some 6,.mv (.tmp 73),.none,[],[]⟩])
 .skip))))))))))))
 (.cut [0,2,5,6] []
 (.seq (.seq (.reg false [⟨.some 75,.mv (.tmp 6),.none,[],[]⟩,
 ⟨.some 76,.un .not (.tmp 75),.none,[],[]⟩,
 ⟨.some 77,.mv (.tmp 76),.none,[],[]⟩,
 ⟨.some 78,.mv (.tmp 0),.some (77,false),[],[]⟩,
 ⟨.some 79,.call (.av (.fn n_strings_Contains [])) [(.tmp 78),(.av (.str [10]))],.some (77,false),[],[]⟩,
 ⟨.some 80,.pick (.tmp 77) (.av (.bool true)) (.tmp 79),.none,[],[]⟩])
 (.cond (.tmp 80)
 (.seq (.reg false [⟨.some 81,.build [(.int .i64 0),(.int .i64 0),(.str []),(.str []),(.str []),(.bool false)] [],.none,[],[]⟩,
 ⟨.none,.store 6 (.tmp 2) (.tmp 81),.none,[81],[]⟩,
 ⟨.some 3,.mv (.av (.int .i64 7)),.none,[],[]⟩])
 .ret)
 .skip))
 (.cut [2,5] []
 (.seq (.reg false [⟨.some 82,.load true false 6 (.tmp 5),.none,[],[]⟩,
 ⟨.none,.store 6 (.tmp 2) (.tmp 82),.none,[82],[]⟩,
 ⟨.some 3,.mv (.av (.int .i64 0)),.none,[],[]⟩])
 .ret))))))))),
 [.cell true 6 2,.tmp 3], false⟩
theorem c_kit_ParseEvent : chkFunc Tryz.prog gl n_kit_ParseEvent a_kit_ParseEvent = true := by kernel_rfl
end Go.Proofs.YtnhagbllecpkkaaGreatDoor
