/-
  The codes of the functions, as the abstract machine runs them, each checked against the program by the kernel.
-/
import Derived.Test.YtifieekfojbkhaaGreatDoorCode1
set_option linter.unusedSimpArgs false
set_option linter.unusedVariables false
namespace Go.Proofs.YtifieekfojbkhaaGreatDoor
open Go Go.VA Go.Proofs
/- (*shotline/mix.store).enter -/
def a_mix_store_enter : AFunc := ⟨209,
 (.seq (.reg false [⟨.some 3,.box true (.tmp 1),.none,[],[]⟩,
 ⟨.some 4,.mv (.av (.int .i64 0)),.none,[],[]⟩])
 (.seq (.seq (.reg false [⟨.some 11,.load true false 8 (.tmp 3),.none,[],[]⟩,
 ⟨.some 12,.call (.av (.fn n_mix_alone [])) [(.tmp 11)],.none,[],[]⟩,
 ⟨.some 5,.mv (.tmp 12),.none,[],[]⟩])
 (.seq (.reg false [⟨.some 13,.mv (.tmp 5),.none,[],[]⟩,
 ⟨.some 14,.bin .neq (.tmp 13) (.av (.int .i64 0)),.none,[],[]⟩])
 (.cond (.tmp 14)
 (.seq (.reg false [⟨.some 15,.mv (.tmp 5),.none,[],[]⟩,
 ⟨.some 4,.mv (.tmp 15),.none,[],[]⟩])
 .ret)
 .skip)))
 (.cut [0,3] []
 (.seq (.reg true [⟨.some 16,.mv (.tmp 0),.none,[],[]⟩,
 ⟨.some 17,.nilchk (.tmp 16),.none,[],[]⟩,
 ⟨.some 18,.faddr 0 (.tmp 17),.none,[],[]⟩,
 ⟨.some 19,.load false false 1 (.tmp 18),.none,[],[]⟩,
 ⟨.some 20,.faddr 2 (.tmp 3),.none,[],[]⟩,
 ⟨.some 21,.load false false 1 (.tmp 20),.none,[],[]⟩,
 ⟨.some 22,.call (.av (.fn n_mix_vessel [])) [(.tmp 19),(.tmp 21)],.none,[],[]⟩,
 ⟨.some 23,.mv (.tmp 0),.none,[],[]⟩,
 ⟨.some 24,.nilchk (.tmp 23),.none,[],[]⟩,
 ⟨.some 25,.faddr 0 (.tmp 24),.none,[],[]⟩,
 ⟨.some 26,.load false false 1 (.tmp 25),.none,[],[]⟩,
 ⟨.some 27,.faddr 3 (.tmp 3),.none,[],[]⟩,
 ⟨.some 28,.load false false 1 (.tmp 27),.none,[],[]⟩,
 ⟨.some 29,.call (.av (.fn n_mix_vessel [])) [(.tmp 26),(.tmp 28)],.none,[],[]⟩,
 ⟨.some 6,.mv (.tmp 22),.none,[],[]⟩,
 ⟨.some 7,.mv (.tmp 29),.none,[],[]⟩])
 (.seq (.block 0
 (.seq (.reg false [⟨.some 31,.faddr 0 (.tmp 3),.none,[],[]⟩,
 ⟨.some 32,.load false false 1 (.tmp 31),.none,[],[]⟩,
 ⟨.some 33,.call (.av (.fn n_mix_takes [])) [(.tmp 32)],.none,[],[]⟩,
 ⟨.some 34,.mv (.tmp 33),.none,[],[]⟩,
 ⟨.some 35,.mv (.tmp 6),.some (34,true),[],[]⟩,
 ⟨.some 36,.bin .lss (.tmp 35) (.av (.int .i64 0)),.some (34,true),[],[]⟩,
 ⟨.some 37,.pick (.tmp 34) (.tmp 36) (.av (.bool false)),.none,[],[]⟩,
 ⟨.some 38,.mv (.tmp 37),.none,[],[]⟩,
 ⟨.some 39,.faddr 0 (.tmp 3),.some (38,false),[],[]⟩,
 ⟨.some 40,.load false false 1 (.tmp 39),.some (38,false),[],[]⟩,
 ⟨.some 41,.call (.av (.fn n_mix_puts [])) [(.tmp 40)],.some (38,false),[],[]⟩,
 ⟨.some 42,.mv (.tmp 41),.some (38,false),[],[]⟩,
 ⟨.some 43,.mv (.tmp 7),.some (42,true),[],[]⟩,
 ⟨.some 44,.bin .lss (.tmp 43) (.av (.int .i64 0)),.some (42,true),[],[]⟩,
 ⟨.some 45,.pick (.tmp 42) (.tmp 44) (.av (.bool false)),.some (38,false),[],[]⟩,
 ⟨.some 46,.pick (.tmp 38) (.av (.bool true)) (.tmp 45),.none,[],[]⟩,
 ⟨.some 30,.mv (.tmp 46),.none,[],[]⟩])
 (.cond (.tmp 30)
 (.seq (.reg false [⟨.some 4,.mv (.av (.int .i64 6)),.none,[],[]⟩])
 .ret)
 (.seq (.reg true [⟨.some 48,.faddr 1 (.tmp 3),.none,[],[]⟩,
 ⟨.some 49,.load false false 1 (.tmp 48),.none,[],[]⟩,
 ⟨.some 50,.mv (.tmp 0),.none,[],[]⟩,
 ⟨.some 51,.nilchk (.tmp 50),.none,[],[]⟩,
 ⟨.some 52,.faddr 8 (.tmp 51),.none,[],[]⟩,
 ⟨.some 53,.load false false 1 (.tmp 52),.none,[],[]⟩,
 ⟨.some 54,.bin .lss (.tmp 49) (.tmp 53),.none,[],[]⟩,
 ⟨.some 47,.mv (.tmp 54),.none,[],[]⟩])
 (.cond (.tmp 47)
 (.seq (.reg false [⟨.some 4,.mv (.av (.int .i64 9)),.none,[],[]⟩])
 .ret)
 (.seq (.reg true [⟨.some 56,.faddr 0 (.tmp 3),.none,[],[]⟩,
 ⟨.some 57,.load false false 1 (.tmp 56),.none,[],[]⟩,
 ⟨.some 58,.call (.av (.fn n_mix_takes [])) [(.tmp 57)],.none,[],[]⟩,
 ⟨.some 59,.mv (.tmp 58),.none,[],[]⟩,
 ⟨.some 60,.mv (.tmp 0),.some (59,true),[],[]⟩,
 ⟨.some 61,.nilchk (.tmp 60),.some (59,true),[],[]⟩,
 ⟨.some 62,.faddr 1 (.tmp 61),.some (59,true),[],[]⟩,
 ⟨.some 63,.load false false 1 (.tmp 62),.some (59,true),[],[]⟩,
 ⟨.some 64,.mv (.tmp 6),.some (59,true),[],[]⟩,
 ⟨.some 65,.iaddr .none 3 (.tmp 63) (.tmp 64),.some (59,true),[],[]⟩,
 ⟨.some 66,.load true false 3 (.tmp 65),.some (59,true),[],[]⟩,
 ⟨.some 67,.call (.av (.fn n_mix_gases_sum [])) [(.tmp 66)],.some (59,true),[],[]⟩,
 ⟨.some 68,.faddr 6 (.tmp 3),.some (59,true),[],[]⟩,
 ⟨.some 69,.load false false 1 (.tmp 68),.some (59,true),[],[]⟩,
 ⟨.some 70,.bin .lss (.tmp 67) (.tmp 69),.some (59,true),[],[]⟩,
 ⟨.some 71,.pick (.tmp 59) (.tmp 70) (.av (.bool false)),.none,[],[]⟩,
 ⟨.some 55,.mv (.tmp 71),.none,[],[]⟩])
 (.cond (.tmp 55)
 (.seq (.reg false [⟨.some 4,.mv (.av (.int .i64 20)),.none,[],[]⟩])
 .ret)
 .skip)))))))
 (.cut [0,3,6,7] []
 (.seq (.seq (.reg false [⟨.some 72,.faddr 0 (.tmp 3),.none,[],[]⟩,
 ⟨.some 73,.load false false 1 (.tmp 72),.none,[],[]⟩,
 ⟨.some 74,.call (.av (.fn n_mix_puts [])) [(.tmp 73)],.none,[],[]⟩])
 (.cond (.tmp 74)
 (.seq (.reg true [⟨.some 75,.mv (.tmp 0),.none,[],[]⟩,
 ⟨.some 76,.nilchk (.tmp 75),.none,[],[]⟩,
 ⟨.some 77,.faddr 1 (.tmp 76),.none,[],[]⟩,
 ⟨.some 78,.load false false 1 (.tmp 77),.none,[],[]⟩,
 ⟨.some 79,.mv (.tmp 7),.none,[],[]⟩,
 ⟨.some 80,.iaddr .none 3 (.tmp 78) (.tmp 79),.none,[],[]⟩,
 ⟨.some 81,.load true false 3 (.tmp 80),.none,[],[]⟩,
 ⟨.some 82,.call (.av (.fn n_mix_gases_sum [])) [(.tmp 81)],.none,[],[]⟩,
 ⟨.some 83,.faddr 6 (.tmp 3),.none,[],[]⟩,
 ⟨.some 84,.load false false 1 (.tmp 83),.none,[],[]⟩,
 ⟨.some 85,.bin .add (.tmp 82) (.tmp 84),.none,[],[]⟩,
 ⟨.some 8,.mv (.tmp 85),.none,[],[]⟩])
 (.seq (.reg false [⟨.some 86,.mv (.tmp 0),.none,[],[]⟩,
 ⟨.some 87,.nilchk (.tmp 86),.none,[],[]⟩,
 ⟨.some 88,.faddr 0 (.tmp 87),.none,[],[]⟩,
 ⟨.some 89,.load false false 1 (.tmp 88),.none,[],[]⟩,
 ⟨.some 90,.mv (.tmp 7),.none,[],[]⟩,
 ⟨.some 91,.iaddr .none 3 (.tmp 89) (.tmp 90),.none,[],[]⟩,
 ⟨.some 92,.load true false 3 (.tmp 91),.none,[],[]⟩,
 ⟨.some 9,.alloc [(.str []),(.int .i64 0),(.int .i64 0)],.none,[],[]⟩,
 ⟨.none,.store 3 (.tmp 9) (.tmp 92),.none,[92],[]⟩])
 (.block 1
 (.seq (.reg false [⟨.some 94,.mv (.tmp 8),.none,[],[]⟩,
 ⟨.some 95,.bin .mul (.av (.int .i64 1000)) (.tmp 94),.none,[],[]⟩,
 ⟨.some 96,.faddr 2 (.tmp 9),.none,[],[]⟩,
 ⟨.some 97,.load false false 1 (.tmp 96),.none,[],[]⟩,
 ⟨.some 98,.faddr 1 (.tmp 9),.none,[],[]⟩,
 ⟨.some 99,.load false false 1 (.tmp 98),.none,[],[]⟩,
 ⟨.some 100,.bin .mul (.tmp 97) (.tmp 99),.none,[],[]⟩,
 ⟨.some 101,.bin .gtr (.tmp 95) (.tmp 100),.none,[],[]⟩,
 ⟨.some 93,.mv (.tmp 101),.none,[],[]⟩])
 (.cond (.tmp 93)
 (.seq (.reg false [⟨.some 4,.mv (.av (.int .i64 16)),.none,[],[]⟩])
 .ret)
 (.seq (.reg true [⟨.some 103,.faddr 0 (.tmp 3),.none,[],[]⟩,
 ⟨.some 104,.load false false 1 (.tmp 103),.none,[],[]⟩,
 ⟨.some 105,.bin .eql (.tmp 104) (.av (.int .i64 1)),.none,[],[]⟩,
 ⟨.some 106,.mv (.tmp 105),.none,[],[]⟩,
 ⟨.some 107,.faddr 7 (.tmp 3),.some (106,true),[],[]⟩,
 ⟨.some 108,.load false false 1 (.tmp 107),.some (106,true),[],[]⟩,
 ⟨.some 109,.un .not (.tmp 108),.some (106,true),[],[]⟩,
 ⟨.some 110,.pick (.tmp 106) (.tmp 109) (.av (.bool false)),.none,[],[]⟩,
 ⟨.some 111,.mv (.tmp 110),.none,[],[]⟩,
 ⟨.some 112,.mv (.tmp 0),.some (111,true),[],[]⟩,
 ⟨.some 113,.mv (.tmp 7),.some (111,true),[],[]⟩,
 ⟨.some 114,.mv (.tmp 8),.some (111,true),[],[]⟩,
 ⟨.some 115,.mv (.tmp 6),.some (111,true),[],[]⟩,
 ⟨.some 116,.mv (.tmp 0),.some (111,true),[],[]⟩,
 ⟨.some 117,.nilchk (.tmp 116),.some (111,true),[],[]⟩,
 ⟨.some 118,.faddr 1 (.tmp 117),.some (111,true),[],[]⟩,
 ⟨.some 119,.load false false 1 (.tmp 118),.some (111,true),[],[]⟩,
 ⟨.some 120,.mv (.tmp 6),.some (111,true),[],[]⟩,
 ⟨.some 121,.iaddr .none 3 (.tmp 119) (.tmp 120),.some (111,true),[],[]⟩,
 ⟨.some 122,.load true false 3 (.tmp 121),.some (111,true),[],[]⟩,
 ⟨.some 123,.call (.av (.fn n_mix_gases_sum [])) [(.tmp 122)],.some (111,true),[],[]⟩,
 ⟨.some 124,.faddr 6 (.tmp 3),.some (111,true),[],[]⟩,
 ⟨.some 125,.load false false 1 (.tmp 124),.some (111,true),[],[]⟩,
 ⟨.some 126,.bin .sub (.tmp 123) (.tmp 125),.some (111,true),[],[]⟩,
 ⟨.some 127,.call (.av (.fn n_mix_store_above [])) [(.tmp 112),(.tmp 113),(.tmp 114),(.tmp 115),(.tmp 126)],.some (111,true),[],[]⟩,
 ⟨.some 128,.pick (.tmp 111) (.tmp 127) (.av (.bool false)),.none,[],[]⟩,
 ⟨.some 102,.mv (.tmp 128),.none,[],[]⟩])
 (.cond (.tmp 102)
 (.seq (.reg false [⟨.some 4,.mv (.av (.int .i64 24)),.none,[],[]⟩])
 .ret)
 .skip)))))))
 .skip))
 (.cut [0,3,6,7] []
 (.seq (.reg false [⟨.some 129,.faddr 4 (.tmp 3),.none,[],[]⟩,
 ⟨.some 130,.load true false 2 (.tmp 129),.none,[],[]⟩,
 ⟨.some 131,.faddr 6 (.tmp 3),.none,[],[]⟩,
 ⟨.some 132,.load false false 1 (.tmp 131),.none,[],[]⟩,
 ⟨.some 133,.call (.av (.fn n_mix_fresh [])) [(.tmp 130),(.tmp 132)],.none,[],[]⟩,
 ⟨.some 10,.alloc [(.int .i64 0),(.int .i64 0),(.int .i64 0)],.none,[],[]⟩,
 ⟨.none,.store 3 (.tmp 10) (.tmp 133),.none,[133],[]⟩])
 (.seq (.seq (.reg false [⟨.some 134,.faddr 0 (.tmp 3),.none,[],[]⟩,
 ⟨.some 135,.load false false 1 (.tmp 134),.none,[],[]⟩,
 ⟨.some 136,.call (.av (.fn n_mix_takes [])) [(.tmp 135)],.none,[],[]⟩])
 (.cond (.tmp 136)
 (.seq (.reg true [⟨.some 137,.mv (.tmp 0),.none,[],[]⟩,
 ⟨.some 138,.nilchk (.tmp 137),.none,[],[]⟩,
 ⟨.some 139,.faddr 1 (.tmp 138),.none,[],[]⟩,
 ⟨.some 140,.load false false 1 (.tmp 139),.none,[],[]⟩,
 ⟨.some 141,.mv (.tmp 6),.none,[],[]⟩,
 ⟨.some 142,.iaddr .none 3 (.tmp 140) (.tmp 141),.none,[],[]⟩,
 ⟨.some 143,.load true false 3 (.tmp 142),.none,[],[]⟩,
 ⟨.some 144,.faddr 6 (.tmp 3),.none,[],[]⟩,
 ⟨.some 145,.load false false 1 (.tmp 144),.none,[],[]⟩,
 ⟨.some 146,.call (.av (.fn n_mix_gases_share [])) [(.tmp 143),(.tmp 145)],.none,[],[]⟩,
 ⟨.none,.store 3 (.tmp 10) (.tmp 146),.none,[],[]⟩])
 (.reg true [⟨.some 147,.mv (.tmp 0),.none,[],[]⟩,
 ⟨.some 148,.nilchk (.tmp 147),.none,[],[]⟩,
 ⟨.some 149,.faddr 1 (.tmp 148),.none,[],[]⟩,
 ⟨.some 150,.load false false 1 (.tmp 149),.none,[],[]⟩,
 ⟨.some 151,.mv (.tmp 6),.none,[],[]⟩,
 ⟨.some 152,.mv (.tmp 0),.none,[],[]⟩,
 ⟨.some 153,.nilchk (.tmp 152),.none,[],[]⟩,
 ⟨.some 154,.faddr 1 (.tmp 153),.none,[],[]⟩,
 ⟨.some 155,.load false false 1 (.tmp 154),.none,[],[]⟩,
 ⟨.some 156,.mv (.tmp 6),.none,[],[]⟩,
 ⟨.some 157,.iaddr .none 3 (.tmp 155) (.tmp 156),.none,[],[]⟩,
 ⟨.some 158,.load true false 3 (.tmp 157),.none,[],[]⟩,
 ⟨.some 159,.load true false 3 (.tmp 10),.none,[],[]⟩,
 ⟨.some 160,.call (.av (.fn n_mix_gases_less [])) [(.tmp 158),(.tmp 159)],.none,[],[]⟩,
 ⟨.some 161,.iaddr .none 3 (.tmp 150) (.tmp 151),.none,[],[]⟩,
 ⟨.none,.store 3 (.tmp 161) (.tmp 160),.none,[],[]⟩]))
 .skip))
 (.cut [0,3,7,10] []
 (.seq (.seq (.reg false [⟨.some 162,.faddr 0 (.tmp 3),.none,[],[]⟩,
 ⟨.some 163,.load false false 1 (.tmp 162),.none,[],[]⟩,
 ⟨.some 164,.call (.av (.fn n_mix_puts [])) [(.tmp 163)],.none,[],[]⟩])
 (.cond (.tmp 164)
 (.reg true [⟨.some 165,.mv (.tmp 0),.none,[],[]⟩,
 ⟨.some 166,.nilchk (.tmp 165),.none,[],[]⟩,
 ⟨.some 167,.faddr 1 (.tmp 166),.none,[],[]⟩,
 ⟨.some 168,.load false false 1 (.tmp 167),.none,[],[]⟩,
 ⟨.some 169,.mv (.tmp 7),.none,[],[]⟩,
 ⟨.some 170,.mv (.tmp 0),.none,[],[]⟩,
 ⟨.some 171,.nilchk (.tmp 170),.none,[],[]⟩,
 ⟨.some 172,.faddr 1 (.tmp 171),.none,[],[]⟩,
 ⟨.some 173,.load false false 1 (.tmp 172),.none,[],[]⟩,
 ⟨.some 174,.mv (.tmp 7),.none,[],[]⟩,
 ⟨.some 175,.iaddr .none 3 (.tmp 173) (.tmp 174),.none,[],[]⟩,
 ⟨.some 176,.load true false 3 (.tmp 175),.none,[],[]⟩,
 ⟨.some 177,.load true false 3 (.tmp 10),.none,[],[]⟩,
 ⟨.some 178,.call (.av (.fn n_mix_gases_plus [])) [(.tmp 176),(.tmp 177)],.none,[],[]⟩,
 ⟨.some 179,.iaddr .none 3 (.tmp 168) (.tmp 169),.none,[],[]⟩,
 ⟨.none,.store 3 (.tmp 179) (.tmp 178),.none,[],[]⟩])
 .skip))
 (.cut [0,3,10] []
 (.seq (.seq (.reg false [⟨.some 180,.faddr 0 (.tmp 3),.none,[],[]⟩,
 ⟨.some 181,.load false false 1 (.tmp 180),.none,[],[]⟩])
 (.block 2
 (.seq (.reg false [⟨.some 183,.bin .eql (.tmp 181) (.av (.int .i64 0)),.none,[],[]⟩,
 ⟨.some 182,.mv (.tmp 183),.none,[],[]⟩])
 (.cond (.tmp 182)
 (.reg true [⟨.some 184,.mv (.tmp 0),.none,[],[]⟩,
 ⟨.some 185,.mv (.tmp 0),.none,[],[]⟩,
 ⟨.some 186,.nilchk (.tmp 185),.none,[],[]⟩,
 ⟨.some 187,.faddr 2 (.tmp 186),.none,[],[]⟩,
 ⟨.some 188,.load true false 3 (.tmp 187),.none,[],[]⟩,
 ⟨.some 189,.load true false 3 (.tmp 10),.none,[],[]⟩,
 ⟨.some 190,.call (.av (.fn n_mix_gases_plus [])) [(.tmp 188),(.tmp 189)],.none,[],[]⟩,
 ⟨.some 191,.nilchk (.tmp 184),.none,[],[]⟩,
 ⟨.some 192,.faddr 2 (.tmp 191),.none,[],[]⟩,
 ⟨.none,.store 3 (.tmp 192) (.tmp 190),.none,[],[]⟩])
 (.seq (.reg false [⟨.some 194,.bin .eql (.tmp 181) (.av (.int .i64 2)),.none,[],[]⟩,
 ⟨.some 193,.mv (.tmp 194),.none,[],[]⟩])
 (.cond (.tmp 193)
 (.reg true [⟨.some 195,.mv (.tmp 0),.none,[],[]⟩,
 ⟨.some 196,.mv (.tmp 0),.none,[],[]⟩,
 ⟨.some 197,.nilchk (.tmp 196),.none,[],[]⟩,
 ⟨.some 198,.faddr 5 (.tmp 197),.none,[],[]⟩,
 ⟨.some 199,.load true false 3 (.tmp 198),.none,[],[]⟩,
 ⟨.some 200,.load true false 3 (.tmp 10),.none,[],[]⟩,
 ⟨.some 201,.call (.av (.fn n_mix_gases_plus [])) [(.tmp 199),(.tmp 200)],.none,[],[]⟩,
 ⟨.some 202,.nilchk (.tmp 195),.none,[],[]⟩,
 ⟨.some 203,.faddr 5 (.tmp 202),.none,[],[]⟩,
 ⟨.none,.store 3 (.tmp 203) (.tmp 201),.none,[],[]⟩])
 .skip))))))
 (.cut [0,3] []
 (.seq (.reg false [⟨.some 204,.mv (.tmp 0),.none,[],[]⟩,
 ⟨.some 205,.faddr 1 (.tmp 3),.none,[],[]⟩,
 ⟨.some 206,.load false false 1 (.tmp 205),.none,[],[]⟩,
 ⟨.some 207,.nilchk (.tmp 204),.none,[],[]⟩,
 ⟨.some 208,.faddr 8 (.tmp 207),.none,[],[]⟩,
 ⟨.none,.store 1 (.tmp 208) (.tmp 206),.none,[206],[]⟩])
 (.seq (.reg false [⟨.some 4,.mv (.av (.int .i64 0)),.none,[],[]⟩])
 .ret))))))))))))))))),
 [.tmp 4], false⟩
theorem c_mix_store_enter : chkFunc Tryz.prog gl n_mix_store_enter a_mix_store_enter = true := by kernel_rfl
/- slices.IndexFunc[[]shotline/api.MixVessel,shotline/api.MixVessel] -/
def b_slices_IndexFunc_api_MixVessel_1 : ACode :=
 (.seq (.reg false [⟨.some 9,.bin .lss (.tmp 8) (.tmp 7),.none,[],[]⟩])
 (.seq (.cond (.tmp 9)
 .skip
 (.exit 0))
 (.cut [0,1,7,8] []
 (.seq (.block 1
 (.seq (.reg false [⟨.some 10,.mv (.tmp 8),.none,[],[]⟩,
 ⟨.some 5,.mv (.tmp 10),.none,[],[]⟩])
 (.seq (.reg false [⟨.some 11,.mv (.tmp 1),.none,[],[]⟩,
 ⟨.some 12,.mv (.tmp 0),.none,[],[]⟩,
 ⟨.some 13,.mv (.tmp 5),.none,[],[]⟩,
 ⟨.some 14,.iaddr .none 3 (.tmp 12) (.tmp 13),.none,[],[]⟩,
 ⟨.some 15,.load true false 3 (.tmp 14),.none,[],[]⟩,
 ⟨.some 16,.call (.tmp 11) [(.tmp 15)],.none,[],[]⟩])
 (.cond (.tmp 16)
 (.seq (.reg false [⟨.some 17,.mv (.tmp 5),.none,[],[]⟩,
 ⟨.some 4,.mv (.tmp 17),.none,[],[]⟩])
 .ret)
 .skip))))
 (.cut [0,1,7,8] []
 (.reg false [⟨.some 18,.bin .add (.tmp 8) (.av (.int .i64 1)),.none,[],[]⟩,
 ⟨.some 8,.mv (.tmp 18),.none,[],[]⟩]))))))
def l_slices_IndexFunc_api_MixVessel_1 : ACode := .loop (.cut [0,1,7,8] [] b_slices_IndexFunc_api_MixVessel_1)
def a_slices_IndexFunc_api_MixVessel : AFunc := ⟨19,
 (.seq (.reg false [⟨.some 4,.mv (.av (.int .i64 0)),.none,[],[]⟩])
 (.seq (.seq (.reg false [⟨.some 6,.mv (.tmp 0),.none,[],[]⟩,
 ⟨.some 7,.len false (.tmp 6),.none,[],[]⟩,
 ⟨.some 8,.mv (.av (.int .i64 0)),.none,[],[]⟩])
 (.block 0
 l_slices_IndexFunc_api_MixVessel_1))
 (.cut [] []
 (.seq (.reg false [⟨.some 4,.mv (.av (.int .i64 (-1))),.none,[],[]⟩])
 .ret)))),
 [.tmp 4], false⟩
theorem c_slices_IndexFunc_api_MixVessel : chkFunc Tryz.prog gl n_slices_IndexFunc_api_MixVessel a_slices_IndexFunc_api_MixVessel = true := by kernel_rfl
/- shotline/mix.vessel$1 -/
def a_mix_vessel_c1 : AFunc := ⟨8,
 (.seq (.reg false [⟨.some 2,.box true (.tmp 0),.none,[],[]⟩,
 ⟨.some 3,.mv (.av (.bool false)),.none,[],[]⟩])
 (.seq (.reg false [⟨.some 4,.faddr 0 (.tmp 2),.none,[],[]⟩,
 ⟨.some 5,.load false false 1 (.tmp 4),.none,[],[]⟩,
 ⟨.some 6,.load false false 1 (.tmp 1),.none,[],[]⟩,
 ⟨.some 7,.bin .eql (.tmp 5) (.tmp 6),.none,[],[]⟩,
 ⟨.some 3,.mv (.tmp 7),.none,[],[]⟩])
 .ret)),
 [.tmp 3], false⟩
theorem c_mix_vessel_c1 : chkFunc Tryz.prog gl n_mix_vessel_c1 a_mix_vessel_c1 = true := by kernel_rfl
/- shotline/mix.isName -/
def b_mix_isName_1 : ACode :=
 (.seq (.reg false [⟨.some 8,.bin .lss (.tmp 7) (.tmp 6),.none,[],[]⟩])
 (.seq (.cond (.tmp 8)
 .skip
 (.exit 0))
 (.cut [0,6,7] []
 (.seq (.block 1
 (.seq (.reg false [⟨.some 9,.mv (.tmp 7),.none,[],[]⟩,
 ⟨.some 3,.mv (.tmp 9),.none,[],[]⟩])
 (.seq (.reg false [⟨.some 10,.mv (.tmp 0),.none,[],[]⟩,
 ⟨.some 11,.mv (.tmp 3),.none,[],[]⟩,
 ⟨.some 12,.ixstr (.tmp 10) (.tmp 11),.none,[],[]⟩,
 ⟨.some 13,.bin .geq (.tmp 12) (.av (.int .u8 97)),.none,[],[]⟩,
 ⟨.some 14,.mv (.tmp 13),.none,[],[]⟩,
 ⟨.some 15,.mv (.tmp 0),.some (14,true),[],[]⟩,
 ⟨.some 16,.mv (.tmp 3),.some (14,true),[],[]⟩,
 ⟨.some 17,.ixstr (.tmp 15) (.tmp 16),.some (14,true),[],[]⟩,
 ⟨.some 18,.bin .leq (.tmp 17) (.av (.int .u8 122)),.some (14,true),[],[]⟩,
 ⟨.some 19,.pick (.tmp 14) (.tmp 18) (.av (.bool false)),.none,[],[]⟩,
 ⟨.some 20,.mv (.tmp 19),.none,[],[]⟩,
 ⟨.some 21,.mv (.tmp 0),.some (20,false),[],[]⟩,
 ⟨.some 22,.mv (.tmp 3),.some (20,false),[],[]⟩,
 ⟨.some 23,.ixstr (.tmp 21) (.tmp 22),.some (20,false),[],[]⟩,
 ⟨.some 24,.bin .geq (.tmp 23) (.av (.int .u8 65)),.some (20,false),[],[]⟩,
 ⟨.some 25,.mv (.tmp 24),.some (20,false),[],[]⟩,
 ⟨.some 26,.mv (.tmp 0),.some (25,true),[],[]⟩,
 ⟨.some 27,.mv (.tmp 3),.some (25,true),[],[]⟩,
 ⟨.some 28,.ixstr (.tmp 26) (.tmp 27),.some (25,true),[],[]⟩,
 ⟨.some 29,.bin .leq (.tmp 28) (.av (.int .u8 90)),.some (25,true),[],[]⟩,
 ⟨.some 30,.pick (.tmp 25) (.tmp 29) (.av (.bool false)),.some (20,false),[],[]⟩,
 ⟨.some 31,.pick (.tmp 20) (.av (.bool true)) (.tmp 30),.none,[],[]⟩,
 ⟨.some 4,.mv (.tmp 31),.none,[],[]⟩])
 (.seq (.reg false [⟨.some 32,.mv (.tmp 4),.none,[],[]⟩,
 ⟨.some 33,.un .not (.tmp 32),.none,[],[]⟩,
 ⟨.some 34,.mv (.tmp 33),.none,[],[]⟩,
 ⟨.some 35,.mv (.tmp 3),.some (34,true),[],[]⟩,
 ⟨.some 36,.bin .eql (.tmp 35) (.av (.int .i64 0)),.some (34,true),[],[]⟩,
 ⟨.some 37,.mv (.tmp 36),.some (34,true),[],[]⟩,
 ⟨.some 38,.mv (.tmp 0),.some (37,false),[],[]⟩,
 ⟨.some 39,.mv (.tmp 3),.some (37,false),[],[]⟩,
 ⟨.some 40,.ixstr (.tmp 38) (.tmp 39),.some (37,false),[],[]⟩,
 ⟨.some 41,.bin .neq (.tmp 40) (.av (.int .u8 45)),.some (37,false),[],[]⟩,
 ⟨.some 42,.mv (.tmp 41),.some (37,false),[],[]⟩,
 ⟨.some 43,.mv (.tmp 0),.some (42,true),[],[]⟩,
 ⟨.some 44,.mv (.tmp 3),.some (42,true),[],[]⟩,
 ⟨.some 45,.ixstr (.tmp 43) (.tmp 44),.some (42,true),[],[]⟩,
 ⟨.some 46,.bin .lss (.tmp 45) (.av (.int .u8 48)),.some (42,true),[],[]⟩,
 ⟨.some 47,.mv (.tmp 46),.some (42,true),[],[]⟩,
 ⟨.some 48,.mv (.tmp 0),.some (47,false),[],[]⟩,
 ⟨.some 49,.mv (.tmp 3),.some (47,false),[],[]⟩,
 ⟨.some 50,.ixstr (.tmp 48) (.tmp 49),.some (47,false),[],[]⟩,
 ⟨.some 51,.bin .gtr (.tmp 50) (.av (.int .u8 57)),.some (47,false),[],[]⟩,
 ⟨.some 52,.pick (.tmp 47) (.av (.bool true)) (.tmp 51),.some (42,true),[],[]⟩,
 ⟨.some 53,.pick (.tmp 42) (.tmp 52) (.av (.bool false)),.some (37,false),[],[]⟩,
 ⟨.some 54,.pick (.tmp 37) (.av (.bool true)) (.tmp 53),.some (34,true),[],[]⟩,
 ⟨.some 55,.pick (.tmp 34) (.tmp 54) (.av (.bool false)),.none,[],[]⟩])
 (.cond (.tmp 55)
 (.seq (.reg false [⟨.some 2,.mv (.av (.bool false)),.none,[],[]⟩])
 .ret)
 .skip)))))
 (.cut [0,6,7] []
 (.reg false [⟨.some 56,.bin .add (.tmp 7) (.av (.int .i64 1)),.none,[],[]⟩,
 ⟨.some 7,.mv (.tmp 56),.none,[],[]⟩]))))))
def l_mix_isName_1 : ACode := .loop (.cut [0,6,7] [] b_mix_isName_1)
def a_mix_isName : AFunc := ⟨64,
 (.seq (.reg false [⟨.some 2,.mv (.av (.bool false)),.none,[],[]⟩])
 (.seq (.seq (.reg false [⟨.some 5,.mv (.tmp 0),.none,[],[]⟩,
 ⟨.some 6,.len true (.tmp 5),.none,[],[]⟩,
 ⟨.some 7,.mv (.av (.int .i64 0)),.none,[],[]⟩])
 (.block 0
 l_mix_isName_1))
 (.cut [0] []
 (.seq (.reg false [⟨.some 57,.mv (.tmp 0),.none,[],[]⟩,
 ⟨.some 58,.bin .neq (.tmp 57) (.av (.str [])),.none,[],[]⟩,
 ⟨.some 59,.mv (.tmp 58),.none,[],[]⟩,
 ⟨.some 60,.mv (.tmp 0),.some (59,true),[],[]⟩,
 ⟨.some 61,.len true (.tmp 60),.some (59,true),[],[]⟩,
 ⟨.some 62,.bin .leq (.tmp 61) (.av (.int .i64 12)),.some (59,true),[],[]⟩,
 ⟨.some 63,.pick (.tmp 59) (.tmp 62) (.av (.bool false)),.none,[],[]⟩,
 ⟨.some 2,.mv (.tmp 63),.none,[],[]⟩])
 .ret)))),
 [.tmp 2], false⟩
theorem c_mix_isName : chkFunc Tryz.prog gl n_mix_isName a_mix_isName = true := by kernel_rfl
/- slices.ContainsFunc[[]shotline/api.MixSource,shotline/api.MixSource] -/
def a_slices_ContainsFunc_api_MixSource : AFunc := ⟨9,
 (.seq (.reg false [⟨.some 4,.mv (.av (.bool false)),.none,[],[]⟩])
 (.seq (.reg false [⟨.some 5,.mv (.tmp 0),.none,[],[]⟩,
 ⟨.some 6,.mv (.tmp 1),.none,[],[]⟩,
 ⟨.some 7,.call (.av (.fn n_slices_IndexFunc_api_MixSource [])) [(.tmp 5),(.tmp 6)],.none,[],[]⟩,
 ⟨.some 8,.bin .geq (.tmp 7) (.av (.int .i64 0)),.none,[],[]⟩,
 ⟨.some 4,.mv (.tmp 8),.none,[],[]⟩])
 .ret)),
 [.tmp 4], false⟩
theorem c_slices_ContainsFunc_api_MixSource : chkFunc Tryz.prog gl n_slices_ContainsFunc_api_MixSource a_slices_ContainsFunc_api_MixSource = true := by kernel_rfl
/- shotline/mix.CheckTask$1 -/
def a_mix_CheckTask_c1 : AFunc := ⟨9,
 (.seq (.reg false [⟨.some 2,.box true (.tmp 0),.none,[],[]⟩,
 ⟨.some 3,.mv (.av (.bool false)),.none,[],[]⟩])
 (.seq (.reg false [⟨.some 4,.faddr 0 (.tmp 2),.none,[],[]⟩,
 ⟨.some 5,.load false false 1 (.tmp 4),.none,[],[]⟩,
 ⟨.some 6,.faddr 0 (.tmp 1),.none,[],[]⟩,
 ⟨.some 7,.load false false 1 (.tmp 6),.none,[],[]⟩,
 ⟨.some 8,.bin .eql (.tmp 5) (.tmp 7),.none,[],[]⟩,
 ⟨.some 3,.mv (.tmp 8),.none,[],[]⟩])
 .ret)),
 [.tmp 3], false⟩
theorem c_mix_CheckTask_c1 : chkFunc Tryz.prog gl n_mix_CheckTask_c1 a_mix_CheckTask_c1 = true := by kernel_rfl
/- shotline/gas.CheckGas -/
def a_gas_CheckGas : AFunc := ⟨21,
 (.seq (.reg false [⟨.some 1,.box true (.tmp 0),.none,[],[]⟩,
 ⟨.some 2,.mv (.av (.int .i64 0)),.none,[],[]⟩])
 (.seq (.seq (.reg true [⟨.some 4,.faddr 0 (.tmp 1),.none,[],[]⟩,
 ⟨.some 5,.load false false 1 (.tmp 4),.none,[],[]⟩,
 ⟨.some 6,.call (.av (.fn n_gas_bound [])) [(.tmp 5),(.av (.int .i64 0)),(.av (.int .i64 1000))],.none,[],[]⟩,
 ⟨.some 7,.faddr 1 (.tmp 1),.none,[],[]⟩,
 ⟨.some 8,.load false false 1 (.tmp 7),.none,[],[]⟩,
 ⟨.some 9,.call (.av (.fn n_gas_bound [])) [(.tmp 8),(.av (.int .i64 0)),(.av (.int .i64 1000))],.none,[],[]⟩,
 ⟨.some 10,.bslice true 1 2 [(.int .i64 0)] [(0,(.tmp 6)),(1,(.tmp 9))],.none,[],[]⟩,
 ⟨.some 11,.call (.av (.fn n_gas_first [])) [(.tmp 10)],.none,[],[]⟩,
 ⟨.some 3,.mv (.tmp 11),.none,[],[]⟩])
 (.seq (.reg false [⟨.some 12,.mv (.tmp 3),.none,[],[]⟩,
 ⟨.some 13,.bin .neq (.tmp 12) (.av (.int .i64 0)),.none,[],[]⟩])
 (.cond (.tmp 13)
 (.seq (.reg false [⟨.some 14,.mv (.tmp 3),.none,[],[]⟩,
 ⟨.some 2,.mv (.tmp 14),.none,[],[]⟩])
 .ret)
 .skip)))
 (.cut [1] []
 (.seq (.seq (.reg false [⟨.some 15,.faddr 0 (.tmp 1),.none,[],[]⟩,
 ⟨.some 16,.load false false 1 (.tmp 15),.none,[],[]⟩,
 ⟨.some 17,.faddr 1 (.tmp 1),.none,[],[]⟩,
 ⟨.some 18,.load false false 1 (.tmp 17),.none,[],[]⟩,
 ⟨.some 19,.bin .add (.tmp 16) (.tmp 18),.none,[],[]⟩,
 ⟨.some 20,.bin .gtr (.tmp 19) (.av (.int .i64 1000)),.none,[],[]⟩])
 (.cond (.tmp 20)
 (.seq (.reg false [⟨.some 2,.mv (.av (.int .i64 23)),.none,[],[]⟩])
 .ret)
 .skip))
 (.cut [] []
 (.seq (.reg false [⟨.some 2,.mv (.av (.int .i64 0)),.none,[],[]⟩])
 .ret)))))),
 [.tmp 2], false⟩
theorem c_gas_CheckGas : chkFunc Tryz.prog gl n_gas_CheckGas a_gas_CheckGas = true := by kernel_rfl
/- shotline/mix.shares -/
def a_mix_shares : AFunc := ⟨20,
 (.seq (.reg false [⟨.some 1,.box true (.tmp 0),.none,[],[]⟩,
 ⟨.some 2,.mv (.av (.int .i64 0)),.none,[],[]⟩])
 (.seq (.block 0
 (.seq (.reg false [⟨.some 4,.faddr 0 (.tmp 1),.none,[],[]⟩,
 ⟨.some 5,.load false false 1 (.tmp 4),.none,[],[]⟩,
 ⟨.some 6,.call (.av (.fn n_mix_within [])) [(.tmp 5),(.av (.int .i64 0)),(.av (.int .i64 1000))],.none,[],[]⟩,
 ⟨.some 7,.un .not (.tmp 6),.none,[],[]⟩,
 ⟨.some 8,.mv (.tmp 7),.none,[],[]⟩,
 ⟨.some 9,.faddr 1 (.tmp 1),.some (8,false),[],[]⟩,
 ⟨.some 10,.load false false 1 (.tmp 9),.some (8,false),[],[]⟩,
 ⟨.some 11,.call (.av (.fn n_mix_within [])) [(.tmp 10),(.av (.int .i64 0)),(.av (.int .i64 1000))],.some (8,false),[],[]⟩,
 ⟨.some 12,.un .not (.tmp 11),.some (8,false),[],[]⟩,
 ⟨.some 13,.pick (.tmp 8) (.av (.bool true)) (.tmp 12),.none,[],[]⟩,
 ⟨.some 3,.mv (.tmp 13),.none,[],[]⟩])
 (.cond (.tmp 3)
 (.seq (.reg false [⟨.some 2,.mv (.av (.int .i64 2)),.none,[],[]⟩])
 .ret)
 (.seq (.reg false [⟨.some 15,.faddr 0 (.tmp 1),.none,[],[]⟩,
 ⟨.some 16,.load false false 1 (.tmp 15),.none,[],[]⟩,
 ⟨.some 17,.faddr 1 (.tmp 1),.none,[],[]⟩,
 ⟨.some 18,.load false false 1 (.tmp 17),.none,[],[]⟩,
 ⟨.some 19,.bin .gtr (.tmp 16) (.tmp 18),.none,[],[]⟩,
 ⟨.some 14,.mv (.tmp 19),.none,[],[]⟩])
 (.cond (.tmp 14)
 (.seq (.reg false [⟨.some 2,.mv (.av (.int .i64 9)),.none,[],[]⟩])
 .ret)
 .skip)))))
 (.cut [] []
 (.seq (.reg false [⟨.some 2,.mv (.av (.int .i64 0)),.none,[],[]⟩])
 .ret)))),
 [.tmp 2], false⟩
theorem c_mix_shares : chkFunc Tryz.prog gl n_mix_shares a_mix_shares = true := by kernel_rfl
/- slices.IndexFunc[[]int,int] -/
def b_slices_IndexFunc_int_1 : ACode :=
 (.seq (.reg false [⟨.some 9,.bin .lss (.tmp 8) (.tmp 7),.none,[],[]⟩])
 (.seq (.cond (.tmp 9)
 .skip
 (.exit 0))
 (.cut [0,1,7,8] []
 (.seq (.block 1
 (.seq (.reg false [⟨.some 10,.mv (.tmp 8),.none,[],[]⟩,
 ⟨.some 5,.mv (.tmp 10),.none,[],[]⟩])
 (.seq (.reg false [⟨.some 11,.mv (.tmp 1),.none,[],[]⟩,
 ⟨.some 12,.mv (.tmp 0),.none,[],[]⟩,
 ⟨.some 13,.mv (.tmp 5),.none,[],[]⟩,
 ⟨.some 14,.iaddr .none 1 (.tmp 12) (.tmp 13),.none,[],[]⟩,
 ⟨.some 15,.load false false 1 (.tmp 14),.none,[],[]⟩,
 ⟨.some 16,.call (.tmp 11) [(.tmp 15)],.none,[],[]⟩])
 (.cond (.tmp 16)
 (.seq (.reg false [⟨.some 17,.mv (.tmp 5),.none,[],[]⟩,
 ⟨.some 4,.mv (.tmp 17),.none,[],[]⟩])
 .ret)
 .skip))))
 (.cut [0,1,7,8] []
 (.reg false [⟨.some 18,.bin .add (.tmp 8) (.av (.int .i64 1)),.none,[],[]⟩,
 ⟨.some 8,.mv (.tmp 18),.none,[],[]⟩]))))))
def l_slices_IndexFunc_int_1 : ACode := .loop (.cut [0,1,7,8] [] b_slices_IndexFunc_int_1)
def a_slices_IndexFunc_int : AFunc := ⟨19,
 (.seq (.reg false [⟨.some 4,.mv (.av (.int .i64 0)),.none,[],[]⟩])
 (.seq (.seq (.reg false [⟨.some 6,.mv (.tmp 0),.none,[],[]⟩,
 ⟨.some 7,.len false (.tmp 6),.none,[],[]⟩,
 ⟨.some 8,.mv (.av (.int .i64 0)),.none,[],[]⟩])
 (.block 0
 l_slices_IndexFunc_int_1))
 (.cut [] []
 (.seq (.reg false [⟨.some 4,.mv (.av (.int .i64 (-1))),.none,[],[]⟩])
 .ret)))),
 [.tmp 4], false⟩
theorem c_slices_IndexFunc_int : chkFunc Tryz.prog gl n_slices_IndexFunc_int a_slices_IndexFunc_int = true := by kernel_rfl
/- slices.stableCmpFunc[int] -/
def b_slices_stableCmpFunc_int_1 : ACode :=
 (.seq (.seq (.reg false [⟨.some 33,.mv (.tmp 8),.none,[],[]⟩,
 ⟨.some 34,.mv (.tmp 1),.none,[],[]⟩,
 ⟨.some 35,.bin .leq (.tmp 33) (.tmp 34),.none,[],[]⟩])
 (.cond (.tmp 35)
 .skip
 (.exit 4)))
 (.cut [0,1,2,6,7,8] []
 (.block 5
 (.seq (.reg false [⟨.some 36,.mv (.tmp 0),.none,[],[]⟩,
 ⟨.some 37,.mv (.tmp 7),.none,[],[]⟩,
 ⟨.some 38,.mv (.tmp 7),.none,[],[]⟩,
 ⟨.some 39,.mv (.tmp 6),.none,[],[]⟩,
 ⟨.some 40,.bin .add (.tmp 38) (.tmp 39),.none,[],[]⟩,
 ⟨.some 41,.mv (.tmp 8),.none,[],[]⟩,
 ⟨.some 42,.mv (.tmp 2),.none,[],[]⟩,
 ⟨.some 43,.call (.av (.fn n_slices_symMergeCmpFunc_int [])) [(.tmp 36),(.tmp 37),(.tmp 40),(.tmp 41),(.tmp 42)],.none,[],[]⟩])
 (.seq (.reg false [⟨.some 44,.mv (.tmp 8),.none,[],[]⟩,
 ⟨.some 7,.mv (.tmp 44),.none,[],[]⟩])
 (.reg false [⟨.some 45,.mv (.tmp 8),.none,[],[]⟩,
 ⟨.some 46,.mv (.tmp 6),.none,[],[]⟩,
 ⟨.some 47,.bin .mul (.av (.int .i64 2)) (.tmp 46),.none,[],[]⟩,
 ⟨.some 48,.bin .add (.tmp 45) (.tmp 47),.none,[],[]⟩,
 ⟨.some 8,.mv (.tmp 48),.none,[],[]⟩]))))))
def l_slices_stableCmpFunc_int_1 : ACode := .loop (.cut [0,1,2,6,7,8] [] b_slices_stableCmpFunc_int_1)
def b_slices_stableCmpFunc_int_2 : ACode :=
 (.seq (.seq (.reg false [⟨.some 28,.mv (.tmp 6),.none,[],[]⟩,
 ⟨.some 29,.mv (.tmp 1),.none,[],[]⟩,
 ⟨.some 30,.bin .lss (.tmp 28) (.tmp 29),.none,[],[]⟩])
 (.cond (.tmp 30)
 .skip
 (.exit 2)))
 (.cut [0,1,2,6] []
 (.block 3
 (.seq (.reg false [⟨.some 31,.mv (.tmp 6),.none,[],[]⟩,
 ⟨.some 32,.bin .mul (.av (.int .i64 2)) (.tmp 31),.none,[],[]⟩,
 ⟨.some 7,.mv (.av (.int .i64 0)),.none,[],[]⟩,
 ⟨.some 8,.mv (.tmp 32),.none,[],[]⟩])
 (.seq (.block 4
 l_slices_stableCmpFunc_int_1)
 (.cut [0,1,2,6,7] []
 (.seq (.seq (.reg false [⟨.some 49,.mv (.tmp 7),.none,[],[]⟩,
 ⟨.some 50,.mv (.tmp 6),.none,[],[]⟩,
 ⟨.some 51,.bin .add (.tmp 49) (.tmp 50),.none,[],[]⟩,
 ⟨.some 9,.mv (.tmp 51),.none,[],[]⟩])
 (.seq (.reg false [⟨.some 52,.mv (.tmp 9),.none,[],[]⟩,
 ⟨.some 53,.mv (.tmp 1),.none,[],[]⟩,
 ⟨.some 54,.bin .lss (.tmp 52) (.tmp 53),.none,[],[]⟩])
 (.cond (.tmp 54)
 (.reg false [⟨.some 55,.mv (.tmp 0),.none,[],[]⟩,
 ⟨.some 56,.mv (.tmp 7),.none,[],[]⟩,
 ⟨.some 57,.mv (.tmp 9),.none,[],[]⟩,
 ⟨.some 58,.mv (.tmp 1),.none,[],[]⟩,
 ⟨.some 59,.mv (.tmp 2),.none,[],[]⟩,
 ⟨.some 60,.call (.av (.fn n_slices_symMergeCmpFunc_int [])) [(.tmp 55),(.tmp 56),(.tmp 57),(.tmp 58),(.tmp 59)],.none,[],[]⟩])
 .skip)))
 (.cut [0,1,2,6] []
 (.reg false [⟨.some 61,.mv (.tmp 6),.none,[],[]⟩,
 ⟨.some 62,.bin .mul (.tmp 61) (.av (.int .i64 2)),.none,[],[]⟩,
 ⟨.some 6,.mv (.tmp 62),.none,[],[]⟩])))))))))
def l_slices_stableCmpFunc_int_2 : ACode := .loop (.cut [0,1,2,6] [] b_slices_stableCmpFunc_int_2)
def b_slices_stableCmpFunc_int_3 : ACode :=
 (.seq (.seq (.reg false [⟨.some 11,.mv (.tmp 8),.none,[],[]⟩,
 ⟨.some 12,.mv (.tmp 1),.none,[],[]⟩,
 ⟨.some 13,.bin .leq (.tmp 11) (.tmp 12),.none,[],[]⟩])
 (.cond (.tmp 13)
 .skip
 (.exit 0)))
 (.cut [0,1,2,6,7,8] []
 (.block 1
 (.seq (.reg false [⟨.some 14,.mv (.tmp 0),.none,[],[]⟩,
 ⟨.some 15,.mv (.tmp 7),.none,[],[]⟩,
 ⟨.some 16,.mv (.tmp 8),.none,[],[]⟩,
 ⟨.some 17,.mv (.tmp 2),.none,[],[]⟩,
 ⟨.some 18,.call (.av (.fn n_slices_insertionSortCmpFunc_int [])) [(.tmp 14),(.tmp 15),(.tmp 16),(.tmp 17)],.none,[],[]⟩])
 (.seq (.reg false [⟨.some 19,.mv (.tmp 8),.none,[],[]⟩,
 ⟨.some 7,.mv (.tmp 19),.none,[],[]⟩])
 (.reg false [⟨.some 20,.mv (.tmp 8),.none,[],[]⟩,
 ⟨.some 21,.mv (.tmp 6),.none,[],[]⟩,
 ⟨.some 22,.bin .add (.tmp 20) (.tmp 21),.none,[],[]⟩,
 ⟨.some 8,.mv (.tmp 22),.none,[],[]⟩]))))))
def l_slices_stableCmpFunc_int_3 : ACode := .loop (.cut [0,1,2,6,7,8] [] b_slices_stableCmpFunc_int_3)
def a_slices_stableCmpFunc_int : AFunc := ⟨63,
 (.seq (.reg false [⟨.some 6,.mv (.av (.int .i64 20)),.none,[],[]⟩])
 (.seq (.reg false [⟨.some 10,.mv (.tmp 6),.none,[],[]⟩,
 ⟨.some 7,.mv (.av (.int .i64 0)),.none,[],[]⟩,
 ⟨.some 8,.mv (.tmp 10),.none,[],[]⟩])
 (.seq (.block 0
 l_slices_stableCmpFunc_int_3)
 (.cut [0,1,2,6,7] []
 (.seq (.reg false [⟨.some 23,.mv (.tmp 0),.none,[],[]⟩,
 ⟨.some 24,.mv (.tmp 7),.none,[],[]⟩,
 ⟨.some 25,.mv (.tmp 1),.none,[],[]⟩,
 ⟨.some 26,.mv (.tmp 2),.none,[],[]⟩,
 ⟨.some 27,.call (.av (.fn n_slices_insertionSortCmpFunc_int [])) [(.tmp 23),(.tmp 24),(.tmp 25),(.tmp 26)],.none,[],[]⟩])
 (.block 2
 l_slices_stableCmpFunc_int_2)))))),
 [], false⟩
theorem c_slices_stableCmpFunc_int : chkFunc Tryz.prog gl n_slices_stableCmpFunc_int a_slices_stableCmpFunc_int = true := by kernel_rfl
/- cmp.isNaN[int] -/
def a_cmp_isNaN_int : AFunc := ⟨6,
 (.seq (.reg false [⟨.some 2,.mv (.av (.bool false)),.none,[],[]⟩])
 (.seq (.reg false [⟨.some 3,.mv (.tmp 0),.none,[],[]⟩,
 ⟨.some 4,.mv (.tmp 0),.none,[],[]⟩,
 ⟨.some 5,.bin .neq (.tmp 3) (.tmp 4),.none,[],[]⟩,
 ⟨.some 2,.mv (.tmp 5),.none,[],[]⟩])
 .ret)),
 [.tmp 2], false⟩
theorem c_cmp_isNaN_int : chkFunc Tryz.prog gl n_cmp_isNaN_int a_cmp_isNaN_int = true := by kernel_rfl
/- shotline/mix.alone -/
def a_mix_alone : AFunc := ⟨76,
 (.seq (.reg false [⟨.some 1,.box true (.tmp 0),.none,[],[]⟩,
 ⟨.some 2,.mv (.av (.int .i64 0)),.none,[],[]⟩])
 (.seq (.seq (.reg false [⟨.some 4,.faddr 0 (.tmp 1),.none,[],[]⟩,
 ⟨.some 5,.load false false 1 (.tmp 4),.none,[],[]⟩,
 ⟨.some 6,.call (.av (.fn n_mix_within [])) [(.tmp 5),(.av (.int .i64 0)),(.av (.int .i64 2))],.none,[],[]⟩,
 ⟨.some 7,.un .not (.tmp 6),.none,[],[]⟩])
 (.cond (.tmp 7)
 (.seq (.reg false [⟨.some 2,.mv (.av (.int .i64 15)),.none,[],[]⟩])
 .ret)
 .skip))
 (.cut [1] []
 (.seq (.reg false [⟨.some 8,.faddr 4 (.tmp 1),.none,[],[]⟩,
 ⟨.some 9,.load true false 2 (.tmp 8),.none,[],[]⟩,
 ⟨.some 10,.build [(.int .i64 0),(.int .i64 0)] [],.none,[],[]⟩,
 ⟨.some 11,.eq (.agg [.i,.i]) false (.tmp 9) (.tmp 10),.none,[],[]⟩,
 ⟨.some 3,.mv (.tmp 11),.none,[],[]⟩])
 (.seq (.seq (.reg false [⟨.some 12,.faddr 0 (.tmp 1),.none,[],[]⟩,
 ⟨.some 13,.load false false 1 (.tmp 12),.none,[],[]⟩,
 ⟨.some 14,.bin .eql (.tmp 13) (.av (.int .i64 0)),.none,[],[]⟩])
 (.cond (.tmp 14)
 (.reg false [⟨.some 15,.faddr 4 (.tmp 1),.none,[],[]⟩,
 ⟨.some 16,.load true false 2 (.tmp 15),.none,[],[]⟩,
 ⟨.some 17,.call (.av (.fn n_gas_CheckGas [])) [(.tmp 16)],.none,[],[]⟩,
 ⟨.some 18,.bin .eql (.tmp 17) (.av (.int .i64 0)),.none,[],[]⟩,
 ⟨.some 3,.mv (.tmp 18),.none,[],[]⟩])
 .skip))
 (.cut [1,3] []
 (.seq (.block 0
 (.seq (.reg false [⟨.some 20,.faddr 1 (.tmp 1),.none,[],[]⟩,
 ⟨.some 21,.load false false 1 (.tmp 20),.none,[],[]⟩,
 ⟨.some 22,.call (.av (.fn n_mix_within [])) [(.tmp 21),(.av (.int .i64 0)),(.av (.int .i64 100000))],.none,[],[]⟩,
 ⟨.some 23,.un .not (.tmp 22),.none,[],[]⟩,
 ⟨.some 24,.mv (.tmp 23),.none,[],[]⟩,
 ⟨.some 25,.faddr 6 (.tmp 1),.some (24,false),[],[]⟩,
 ⟨.some 26,.load false false 1 (.tmp 25),.some (24,false),[],[]⟩,
 ⟨.some 27,.call (.av (.fn n_mix_within [])) [(.tmp 26),(.av (.int .i64 1)),(.av (.int .i64 1000000000))],.some (24,false),[],[]⟩,
 ⟨.some 28,.un .not (.tmp 27),.some (24,false),[],[]⟩,
 ⟨.some 29,.pick (.tmp 24) (.av (.bool true)) (.tmp 28),.none,[],[]⟩,
 ⟨.some 30,.mv (.tmp 29),.none,[],[]⟩,
 ⟨.some 31,.mv (.tmp 3),.some (30,false),[],[]⟩,
 ⟨.some 32,.un .not (.tmp 31),.some (30,false),[],[]⟩,
 ⟨.some 33,.pick (.tmp 30) (.av (.bool true)) (.tmp 32),.none,[],[]⟩,
 ⟨.some 19,.mv (.tmp 33),.none,[],[]⟩])
 (.cond (.tmp 19)
 (.seq (.reg false [⟨.some 2,.mv (.av (.int .i64 2)),.none,[],[]⟩])
 .ret)
 (.seq (.reg false [⟨.some 35,.faddr 0 (.tmp 1),.none,[],[]⟩,
 ⟨.some 36,.load false false 1 (.tmp 35),.none,[],[]⟩,
 ⟨.some 37,.call (.av (.fn n_mix_takes [])) [(.tmp 36)],.none,[],[]⟩,
 ⟨.some 38,.un .not (.tmp 37),.none,[],[]⟩,
 ⟨.some 39,.mv (.tmp 38),.none,[],[]⟩,
 ⟨.some 40,.faddr 2 (.tmp 1),.some (39,true),[],[]⟩,
 ⟨.some 41,.load false false 1 (.tmp 40),.some (39,true),[],[]⟩,
 ⟨.some 42,.bin .neq (.tmp 41) (.av (.str [])),.some (39,true),[],[]⟩,
 ⟨.some 43,.pick (.tmp 39) (.tmp 42) (.av (.bool false)),.none,[],[]⟩,
 ⟨.some 44,.mv (.tmp 43),.none,[],[]⟩,
 ⟨.some 45,.faddr 0 (.tmp 1),.some (44,false),[],[]⟩,
 ⟨.some 46,.load false false 1 (.tmp 45),.some (44,false),[],[]⟩,
 ⟨.some 47,.call (.av (.fn n_mix_puts [])) [(.tmp 46)],.some (44,false),[],[]⟩,
 ⟨.some 48,.un .not (.tmp 47),.some (44,false),[],[]⟩,
 ⟨.some 49,.mv (.tmp 48),.some (44,false),[],[]⟩,
 ⟨.some 50,.faddr 3 (.tmp 1),.some (49,true),[],[]⟩,
 ⟨.some 51,.load false false 1 (.tmp 50),.some (49,true),[],[]⟩,
 ⟨.some 52,.bin .neq (.tmp 51) (.av (.str [])),.some (49,true),[],[]⟩,
 ⟨.some 53,.pick (.tmp 49) (.tmp 52) (.av (.bool false)),.some (44,false),[],[]⟩,
 ⟨.some 54,.pick (.tmp 44) (.av (.bool true)) (.tmp 53),.none,[],[]⟩,
 ⟨.some 55,.mv (.tmp 54),.none,[],[]⟩,
 ⟨.some 56,.faddr 0 (.tmp 1),.some (55,false),[],[]⟩,
 ⟨.some 57,.load false false 1 (.tmp 56),.some (55,false),[],[]⟩,
 ⟨.some 58,.bin .eql (.tmp 57) (.av (.int .i64 1)),.some (55,false),[],[]⟩,
 ⟨.some 59,.mv (.tmp 58),.some (55,false),[],[]⟩,
 ⟨.some 60,.faddr 2 (.tmp 1),.some (59,true),[],[]⟩,
 ⟨.some 61,.load false false 1 (.tmp 60),.some (59,true),[],[]⟩,
 ⟨.some 62,.faddr 3 (.tmp 1),.some (59,true),[],[]⟩,
 ⟨.some 63,.load false false 1 (.tmp 62),.some (59,true),[],[]⟩,
 ⟨.some 64,.bin .eql (.tmp 61) (.tmp 63),.some (59,true),[],[]⟩,
 ⟨.some 65,.pick (.tmp 59) (.tmp 64) (.av (.bool false)),.some (55,false),[],[]⟩,
 ⟨.some 66,.pick (.tmp 55) (.av (.bool true)) (.tmp 65),.none,[],[]⟩,
 ⟨.some 67,.mv (.tmp 66),.none,[],[]⟩,
 ⟨.some 68,.faddr 7 (.tmp 1),.some (67,false),[],[]⟩,
 ⟨.some 69,.load false false 1 (.tmp 68),.some (67,false),[],[]⟩,
 ⟨.some 70,.mv (.tmp 69),.some (67,false),[],[]⟩,
 ⟨.some 71,.faddr 0 (.tmp 1),.some (70,true),[],[]⟩,
 ⟨.some 72,.load false false 1 (.tmp 71),.some (70,true),[],[]⟩,
 ⟨.some 73,.bin .neq (.tmp 72) (.av (.int .i64 1)),.some (70,true),[],[]⟩,
 ⟨.some 74,.pick (.tmp 70) (.tmp 73) (.av (.bool false)),.some (67,false),[],[]⟩,
 ⟨.some 75,.pick (.tmp 67) (.av (.bool true)) (.tmp 74),.none,[],[]⟩,
 ⟨.some 34,.mv (.tmp 75),.none,[],[]⟩])
 (.cond (.tmp 34)
 (.seq (.reg false [⟨.some 2,.mv (.av (.int .i64 3)),.none,[],[]⟩])
 .ret)
 .skip)))))
 (.cut [] []
 (.seq (.reg false [⟨.some 2,.mv (.av (.int .i64 0)),.none,[],[]⟩])
 .ret))))))))),
 [.tmp 2], false⟩
theorem c_mix_alone : chkFunc Tryz.prog gl n_mix_alone a_mix_alone = true := by kernel_rfl
/- shotline/mix.takes -/
def a_mix_takes : AFunc := ⟨5,
 (.seq (.reg false [⟨.some 2,.mv (.av (.bool false)),.none,[],[]⟩])
 (.seq (.reg false [⟨.some 3,.mv (.tmp 0),.none,[],[]⟩,
 ⟨.some 4,.bin .neq (.tmp 3) (.av (.int .i64 0)),.none,[],[]⟩,
 ⟨.some 2,.mv (.tmp 4),.none,[],[]⟩])
 .ret)),
 [.tmp 2], false⟩
theorem c_mix_takes : chkFunc Tryz.prog gl n_mix_takes a_mix_takes = true := by kernel_rfl
/- shotline/mix.puts -/
def a_mix_puts : AFunc := ⟨5,
 (.seq (.reg false [⟨.some 2,.mv (.av (.bool false)),.none,[],[]⟩])
 (.seq (.reg false [⟨.some 3,.mv (.tmp 0),.none,[],[]⟩,
 ⟨.some 4,.bin .neq (.tmp 3) (.av (.int .i64 2)),.none,[],[]⟩,
 ⟨.some 2,.mv (.tmp 4),.none,[],[]⟩])
 .ret)),
 [.tmp 2], false⟩
theorem c_mix_puts : chkFunc Tryz.prog gl n_mix_puts a_mix_puts = true := by kernel_rfl
/- (*shotline/mix.store).above -/
def a_mix_store_above : AFunc := ⟨32,
 (.seq (.reg false [⟨.some 10,.mv (.av (.bool false)),.none,[],[]⟩])
 (.seq (.reg true [⟨.some 11,.mv (.tmp 2),.none,[],[]⟩,
 ⟨.some 12,.mv (.tmp 0),.none,[],[]⟩,
 ⟨.some 13,.nilchk (.tmp 12),.none,[],[]⟩,
 ⟨.some 14,.faddr 0 (.tmp 13),.none,[],[]⟩,
 ⟨.some 15,.load false false 1 (.tmp 14),.none,[],[]⟩,
 ⟨.some 16,.mv (.tmp 3),.none,[],[]⟩,
 ⟨.some 17,.iaddr .none 3 (.tmp 15) (.tmp 16),.none,[],[]⟩,
 ⟨.some 18,.faddr 1 (.tmp 17),.none,[],[]⟩,
 ⟨.some 19,.load false false 1 (.tmp 18),.none,[],[]⟩,
 ⟨.some 20,.bin .mul (.tmp 11) (.tmp 19),.none,[],[]⟩,
 ⟨.some 21,.mv (.tmp 4),.none,[],[]⟩,
 ⟨.some 22,.mv (.tmp 0),.none,[],[]⟩,
 ⟨.some 23,.nilchk (.tmp 22),.none,[],[]⟩,
 ⟨.some 24,.faddr 0 (.tmp 23),.none,[],[]⟩,
 ⟨.some 25,.load false false 1 (.tmp 24),.none,[],[]⟩,
 ⟨.some 26,.mv (.tmp 1),.none,[],[]⟩,
 ⟨.some 27,.iaddr .none 3 (.tmp 25) (.tmp 26),.none,[],[]⟩,
 ⟨.some 28,.faddr 1 (.tmp 27),.none,[],[]⟩,
 ⟨.some 29,.load false false 1 (.tmp 28),.none,[],[]⟩,
 ⟨.some 30,.bin .mul (.tmp 21) (.tmp 29),.none,[],[]⟩,
 ⟨.some 31,.bin .gtr (.tmp 20) (.tmp 30),.none,[],[]⟩,
 ⟨.some 10,.mv (.tmp 31),.none,[],[]⟩])
 .ret)),
 [.tmp 10], false⟩
theorem c_mix_store_above : chkFunc Tryz.prog gl n_mix_store_above a_mix_store_above = true := by kernel_rfl
/- shotline/mix.fresh -/
def a_mix_fresh : AFunc := ⟨25,
 (.seq (.reg false [⟨.some 2,.box true (.tmp 0),.none,[],[]⟩,
 ⟨.some 4,.alloc [(.int .i64 0),(.int .i64 0),(.int .i64 0)],.none,[],[]⟩])
 (.seq (.reg true [⟨.some 7,.mv (.tmp 1),.none,[],[]⟩,
 ⟨.some 8,.faddr 0 (.tmp 2),.none,[],[]⟩,
 ⟨.some 9,.load false false 1 (.tmp 8),.none,[],[]⟩,
 ⟨.some 10,.bin .mul (.tmp 7) (.tmp 9),.none,[],[]⟩,
 ⟨.some 11,.bin .quo (.tmp 10) (.av (.int .i64 1000)),.none,[],[]⟩,
 ⟨.some 12,.mv (.tmp 1),.none,[],[]⟩,
 ⟨.some 13,.faddr 1 (.tmp 2),.none,[],[]⟩,
 ⟨.some 14,.load false false 1 (.tmp 13),.none,[],[]⟩,
 ⟨.some 15,.bin .mul (.tmp 12) (.tmp 14),.none,[],[]⟩,
 ⟨.some 16,.bin .quo (.tmp 15) (.av (.int .i64 1000)),.none,[],[]⟩,
 ⟨.some 5,.mv (.tmp 11),.none,[],[]⟩,
 ⟨.some 6,.mv (.tmp 16),.none,[],[]⟩])
 (.seq (.reg false [⟨.some 17,.mv (.tmp 5),.none,[],[]⟩,
 ⟨.some 18,.mv (.tmp 6),.none,[],[]⟩,
 ⟨.some 19,.mv (.tmp 1),.none,[],[]⟩,
 ⟨.some 20,.mv (.tmp 5),.none,[],[]⟩,
 ⟨.some 21,.bin .sub (.tmp 19) (.tmp 20),.none,[],[]⟩,
 ⟨.some 22,.mv (.tmp 6),.none,[],[]⟩,
 ⟨.some 23,.bin .sub (.tmp 21) (.tmp 22),.none,[],[]⟩,
 ⟨.some 24,.build [(.int .i64 0),(.int .i64 0),(.int .i64 0)] [(0,1,(.tmp 17)),(1,1,(.tmp 18)),(2,1,(.tmp 23))],.none,[],[]⟩,
 ⟨.none,.store 3 (.tmp 4) (.tmp 24),.none,[24],[]⟩])
 .ret))),
 [.cell true 3 4], false⟩
theorem c_mix_fresh : chkFunc Tryz.prog gl n_mix_fresh a_mix_fresh = true := by kernel_rfl
/- (shotline/mix.gases).less -/
def a_mix_gases_less : AFunc := ⟨21,
 (.seq (.reg false [⟨.some 2,.box true (.tmp 0),.none,[],[]⟩,
 ⟨.some 3,.box true (.tmp 1),.none,[],[]⟩,
 ⟨.some 4,.alloc [(.int .i64 0),(.int .i64 0),(.int .i64 0)],.none,[],[]⟩])
 (.seq (.reg false [⟨.some 5,.iaddr (.some 3) 1 (.tmp 2) (.av (.int .i64 0)),.none,[],[]⟩,
 ⟨.some 6,.load false false 1 (.tmp 5),.none,[],[]⟩,
 ⟨.some 7,.iaddr (.some 3) 1 (.tmp 3) (.av (.int .i64 0)),.none,[],[]⟩,
 ⟨.some 8,.load false false 1 (.tmp 7),.none,[],[]⟩,
 ⟨.some 9,.bin .sub (.tmp 6) (.tmp 8),.none,[],[]⟩,
 ⟨.some 10,.iaddr (.some 3) 1 (.tmp 2) (.av (.int .i64 1)),.none,[],[]⟩,
 ⟨.some 11,.load false false 1 (.tmp 10),.none,[],[]⟩,
 ⟨.some 12,.iaddr (.some 3) 1 (.tmp 3) (.av (.int .i64 1)),.none,[],[]⟩,
 ⟨.some 13,.load false false 1 (.tmp 12),.none,[],[]⟩,
 ⟨.some 14,.bin .sub (.tmp 11) (.tmp 13),.none,[],[]⟩,
 ⟨.some 15,.iaddr (.some 3) 1 (.tmp 2) (.av (.int .i64 2)),.none,[],[]⟩,
 ⟨.some 16,.load false false 1 (.tmp 15),.none,[],[]⟩,
 ⟨.some 17,.iaddr (.some 3) 1 (.tmp 3) (.av (.int .i64 2)),.none,[],[]⟩,
 ⟨.some 18,.load false false 1 (.tmp 17),.none,[],[]⟩,
 ⟨.some 19,.bin .sub (.tmp 16) (.tmp 18),.none,[],[]⟩,
 ⟨.some 20,.build [(.int .i64 0),(.int .i64 0),(.int .i64 0)] [(0,1,(.tmp 9)),(1,1,(.tmp 14)),(2,1,(.tmp 19))],.none,[],[]⟩,
 ⟨.none,.store 3 (.tmp 4) (.tmp 20),.none,[20],[]⟩])
 .ret)),
 [.cell true 3 4], false⟩
theorem c_mix_gases_less : chkFunc Tryz.prog gl n_mix_gases_less a_mix_gases_less = true := by kernel_rfl
/- (shotline/mix.gases).plus -/
def a_mix_gases_plus : AFunc := ⟨21,
 (.seq (.reg false [⟨.some 2,.box true (.tmp 0),.none,[],[]⟩,
 ⟨.some 3,.box true (.tmp 1),.none,[],[]⟩,
 ⟨.some 4,.alloc [(.int .i64 0),(.int .i64 0),(.int .i64 0)],.none,[],[]⟩])
 (.seq (.reg false [⟨.some 5,.iaddr (.some 3) 1 (.tmp 2) (.av (.int .i64 0)),.none,[],[]⟩,
 ⟨.some 6,.load false false 1 (.tmp 5),.none,[],[]⟩,
 ⟨.some 7,.iaddr (.some 3) 1 (.tmp 3) (.av (.int .i64 0)),.none,[],[]⟩,
 ⟨.some 8,.load false false 1 (.tmp 7),.none,[],[]⟩,
 ⟨.some 9,.bin .add (.tmp 6) (.tmp 8),.none,[],[]⟩,
 ⟨.some 10,.iaddr (.some 3) 1 (.tmp 2) (.av (.int .i64 1)),.none,[],[]⟩,
 ⟨.some 11,.load false false 1 (.tmp 10),.none,[],[]⟩,
 ⟨.some 12,.iaddr (.some 3) 1 (.tmp 3) (.av (.int .i64 1)),.none,[],[]⟩,
 ⟨.some 13,.load false false 1 (.tmp 12),.none,[],[]⟩,
 ⟨.some 14,.bin .add (.tmp 11) (.tmp 13),.none,[],[]⟩,
 ⟨.some 15,.iaddr (.some 3) 1 (.tmp 2) (.av (.int .i64 2)),.none,[],[]⟩,
 ⟨.some 16,.load false false 1 (.tmp 15),.none,[],[]⟩,
 ⟨.some 17,.iaddr (.some 3) 1 (.tmp 3) (.av (.int .i64 2)),.none,[],[]⟩,
 ⟨.some 18,.load false false 1 (.tmp 17),.none,[],[]⟩,
 ⟨.some 19,.bin .add (.tmp 16) (.tmp 18),.none,[],[]⟩,
 ⟨.some 20,.build [(.int .i64 0),(.int .i64 0),(.int .i64 0)] [(0,1,(.tmp 9)),(1,1,(.tmp 14)),(2,1,(.tmp 19))],.none,[],[]⟩,
 ⟨.none,.store 3 (.tmp 4) (.tmp 20),.none,[20],[]⟩])
 .ret)),
 [.cell true 3 4], false⟩
theorem c_mix_gases_plus : chkFunc Tryz.prog gl n_mix_gases_plus a_mix_gases_plus = true := by kernel_rfl
/- slices.IndexFunc[[]shotline/api.MixSource,shotline/api.MixSource] -/
def b_slices_IndexFunc_api_MixSource_1 : ACode :=
 (.seq (.reg false [⟨.some 9,.bin .lss (.tmp 8) (.tmp 7),.none,[],[]⟩])
 (.seq (.cond (.tmp 9)
 .skip
 (.exit 0))
 (.cut [0,1,7,8] []
 (.seq (.block 1
 (.seq (.reg false [⟨.some 10,.mv (.tmp 8),.none,[],[]⟩,
 ⟨.some 5,.mv (.tmp 10),.none,[],[]⟩])
 (.seq (.reg false [⟨.some 11,.mv (.tmp 1),.none,[],[]⟩,
 ⟨.some 12,.mv (.tmp 0),.none,[],[]⟩,
 ⟨.some 13,.mv (.tmp 5),.none,[],[]⟩,
 ⟨.some 14,.iaddr .none 5 (.tmp 12) (.tmp 13),.none,[],[]⟩,
 ⟨.some 15,.load true false 5 (.tmp 14),.none,[],[]⟩,
 ⟨.some 16,.call (.tmp 11) [(.tmp 15)],.none,[],[]⟩])
 (.cond (.tmp 16)
 (.seq (.reg false [⟨.some 17,.mv (.tmp 5),.none,[],[]⟩,
 ⟨.some 4,.mv (.tmp 17),.none,[],[]⟩])
 .ret)
 .skip))))
 (.cut [0,1,7,8] []
 (.reg false [⟨.some 18,.bin .add (.tmp 8) (.av (.int .i64 1)),.none,[],[]⟩,
 ⟨.some 8,.mv (.tmp 18),.none,[],[]⟩]))))))
def l_slices_IndexFunc_api_MixSource_1 : ACode := .loop (.cut [0,1,7,8] [] b_slices_IndexFunc_api_MixSource_1)
def a_slices_IndexFunc_api_MixSource : AFunc := ⟨19,
 (.seq (.reg false [⟨.some 4,.mv (.av (.int .i64 0)),.none,[],[]⟩])
 (.seq (.seq (.reg false [⟨.some 6,.mv (.tmp 0),.none,[],[]⟩,
 ⟨.some 7,.len false (.tmp 6),.none,[],[]⟩,
 ⟨.some 8,.mv (.av (.int .i64 0)),.none,[],[]⟩])
 (.block 0
 l_slices_IndexFunc_api_MixSource_1))
 (.cut [] []
 (.seq (.reg false [⟨.some 4,.mv (.av (.int .i64 (-1))),.none,[],[]⟩])
 .ret)))),
 [.tmp 4], false⟩
theorem c_slices_IndexFunc_api_MixSource : chkFunc Tryz.prog gl n_slices_IndexFunc_api_MixSource a_slices_IndexFunc_api_MixSource = true := by kernel_rfl
/- shotline/gas.first -/
def b_gas_first_1 : ACode :=
 (.seq (.reg false [⟨.some 8,.bin .lss (.tmp 7) (.tmp 6),.none,[],[]⟩])
 (.seq (.cond (.tmp 8)
 .skip
 (.exit 0))
 (.cut [5,6,7] []
 (.seq (.block 1
 (.seq (.reg false [⟨.some 9,.iaddr .none 1 (.tmp 5) (.tmp 7),.none,[],[]⟩,
 ⟨.some 10,.load false false 1 (.tmp 9),.none,[],[]⟩,
 ⟨.some 4,.mv (.tmp 10),.none,[],[]⟩])
 (.seq (.reg false [⟨.some 11,.mv (.tmp 4),.none,[],[]⟩,
 ⟨.some 12,.bin .neq (.tmp 11) (.av (.int .i64 0)),.none,[],[]⟩])
 (.cond (.tmp 12)
 (.seq (.reg false [⟨.some 13,.mv (.tmp 4),.none,[],[]⟩,
 ⟨.some 2,.mv (.tmp 13),.none,[],[]⟩])
 .ret)
 .skip))))
 (.cut [5,6,7] []
 (.reg false [⟨.some 14,.bin .add (.tmp 7) (.av (.int .i64 1)),.none,[],[]⟩,
 ⟨.some 7,.mv (.tmp 14),.none,[],[]⟩]))))))
def l_gas_first_1 : ACode := .loop (.cut [5,6,7] [] b_gas_first_1)
def a_gas_first : AFunc := ⟨15,
 (.seq (.reg false [⟨.some 2,.mv (.av (.int .i64 0)),.none,[],[]⟩])
 (.seq (.seq (.reg false [⟨.some 5,.mv (.tmp 0),.none,[],[]⟩,
 ⟨.some 6,.len false (.tmp 5),.none,[],[]⟩,
 ⟨.some 7,.mv (.av (.int .i64 0)),.none,[],[]⟩])
 (.block 0
 l_gas_first_1))
 (.cut [] []
 (.seq (.reg false [⟨.some 2,.mv (.av (.int .i64 0)),.none,[],[]⟩])
 .ret)))),
 [.tmp 2], false⟩
theorem c_gas_first : chkFunc Tryz.prog gl n_gas_first a_gas_first = true := by kernel_rfl
/- shotline/gas.bound -/
def a_gas_bound : AFunc := ⟨12,
 (.seq (.reg false [⟨.some 6,.mv (.av (.int .i64 0)),.none,[],[]⟩])
 (.seq (.seq (.reg false [⟨.some 7,.mv (.tmp 0),.none,[],[]⟩,
 ⟨.some 8,.mv (.tmp 1),.none,[],[]⟩,
 ⟨.some 9,.mv (.tmp 2),.none,[],[]⟩,
 ⟨.some 10,.call (.av (.fn n_gas_within [])) [(.tmp 7),(.tmp 8),(.tmp 9)],.none,[],[]⟩,
 ⟨.some 11,.un .not (.tmp 10),.none,[],[]⟩])
 (.cond (.tmp 11)
 (.seq (.reg false [⟨.some 6,.mv (.av (.int .i64 2)),.none,[],[]⟩])
 .ret)
 .skip))
 (.cut [] []
 (.seq (.reg false [⟨.some 6,.mv (.av (.int .i64 0)),.none,[],[]⟩])
 .ret)))),
 [.tmp 6], false⟩
theorem c_gas_bound : chkFunc Tryz.prog gl n_gas_bound a_gas_bound = true := by kernel_rfl
/- slices.insertionSortCmpFunc[int] -/
def b_slices_insertionSortCmpFunc_int_1 : ACode :=
 (.seq (.seq (.reg true [⟨.some 18,.mv (.tmp 9),.none,[],[]⟩,
 ⟨.some 19,.mv (.tmp 1),.none,[],[]⟩,
 ⟨.some 20,.bin .gtr (.tmp 18) (.tmp 19),.none,[],[]⟩,
 ⟨.some 21,.mv (.tmp 20),.none,[],[]⟩,
 ⟨.some 22,.mv (.tmp 3),.some (21,true),[],[]⟩,
 ⟨.some 23,.mv (.tmp 0),.some (21,true),[],[]⟩,
 ⟨.some 24,.mv (.tmp 9),.some (21,true),[],[]⟩,
 ⟨.some 25,.iaddr .none 1 (.tmp 23) (.tmp 24),.some (21,true),[],[]⟩,
 ⟨.some 26,.load false false 1 (.tmp 25),.some (21,true),[],[]⟩,
 ⟨.some 27,.mv (.tmp 0),.some (21,true),[],[]⟩,
 ⟨.some 28,.mv (.tmp 9),.some (21,true),[],[]⟩,
 ⟨.some 29,.bin .sub (.tmp 28) (.av (.int .i64 1)),.some (21,true),[],[]⟩,
 ⟨.some 30,.iaddr .none 1 (.tmp 27) (.tmp 29),.some (21,true),[],[]⟩,
 ⟨.some 31,.load false false 1 (.tmp 30),.some (21,true),[],[]⟩,
 ⟨.some 32,.call (.tmp 22) [(.tmp 26),(.tmp 31)],.some (21,true),[],[]⟩,
 ⟨.some 33,.bin .lss (.tmp 32) (.av (.int .i64 0)),.some (21,true),[],[]⟩,
 ⟨.some 34,.pick (.tmp 21) (.tmp 33) (.av (.bool false)),.none,[],[]⟩])
 (.cond (.tmp 34)
 .skip
 (.exit 2)))
 (.cut [0,1,2,3,8,9] []
 (.seq (.block 3
 (.reg true [⟨.some 37,.mv (.tmp 0),.none,[],[]⟩,
 ⟨.some 38,.mv (.tmp 9),.none,[],[]⟩,
 ⟨.some 39,.mv (.tmp 0),.none,[],[]⟩,
 ⟨.some 40,.mv (.tmp 9),.none,[],[]⟩,
 ⟨.some 41,.bin .sub (.tmp 40) (.av (.int .i64 1)),.none,[],[]⟩,
 ⟨.some 42,.mv (.tmp 0),.none,[],[]⟩,
 ⟨.some 43,.mv (.tmp 9),.none,[],[]⟩,
 ⟨.some 44,.bin .sub (.tmp 43) (.av (.int .i64 1)),.none,[],[]⟩,
 ⟨.some 45,.iaddr .none 1 (.tmp 42) (.tmp 44),.none,[],[]⟩,
 ⟨.some 46,.load false false 1 (.tmp 45),.none,[],[]⟩,
 ⟨.some 47,.mv (.tmp 0),.none,[],[]⟩,
 ⟨.some 48,.mv (.tmp 9),.none,[],[]⟩,
 ⟨.some 49,.iaddr .none 1 (.tmp 47) (.tmp 48),.none,[],[]⟩,
 ⟨.some 50,.load false false 1 (.tmp 49),.none,[],[]⟩,
 ⟨.some 51,.iaddr .none 1 (.tmp 37) (.tmp 38),.none,[],[]⟩,
 ⟨.none,.store 1 (.tmp 51) (.tmp 46),.none,[],[]⟩,
 ⟨.some 52,.iaddr .none 1 (.tmp 39) (.tmp 41),.none,[],[]⟩,
 ⟨.none,.store 1 (.tmp 52) (.tmp 50),.none,[],[]⟩]))
 (.cut [0,1,2,3,8,9] []
 (.reg false [⟨.some 35,.mv (.tmp 9),.none,[],[]⟩,
 ⟨.some 36,.bin .sub (.tmp 35) (.av (.int .i64 1)),.none,[],[]⟩,
 ⟨.some 9,.mv (.tmp 36),.none,[],[]⟩])))))
def l_slices_insertionSortCmpFunc_int_1 : ACode := .loop (.cut [0,1,2,3,8,9] [] b_slices_insertionSortCmpFunc_int_1)
def b_slices_insertionSortCmpFunc_int_2 : ACode :=
 (.seq (.seq (.reg false [⟨.some 12,.mv (.tmp 8),.none,[],[]⟩,
 ⟨.some 13,.mv (.tmp 2),.none,[],[]⟩,
 ⟨.some 14,.bin .lss (.tmp 12) (.tmp 13),.none,[],[]⟩])
 (.cond (.tmp 14)
 .skip
 (.exit 0)))
 (.cut [0,1,2,3,8] []
 (.seq (.block 1
 (.seq (.reg false [⟨.some 17,.mv (.tmp 8),.none,[],[]⟩,
 ⟨.some 9,.mv (.tmp 17),.none,[],[]⟩])
 (.block 2
 l_slices_insertionSortCmpFunc_int_1)))
 (.cut [0,1,2,3,8] []
 (.reg false [⟨.some 15,.mv (.tmp 8),.none,[],[]⟩,
 ⟨.some 16,.bin .add (.tmp 15) (.av (.int .i64 1)),.none,[],[]⟩,
 ⟨.some 8,.mv (.tmp 16),.none,[],[]⟩])))))
def l_slices_insertionSortCmpFunc_int_2 : ACode := .loop (.cut [0,1,2,3,8] [] b_slices_insertionSortCmpFunc_int_2)
def a_slices_insertionSortCmpFunc_int : AFunc := ⟨53,
 (.seq (.reg false [⟨.some 10,.mv (.tmp 1),.none,[],[]⟩,
 ⟨.some 11,.bin .add (.tmp 10) (.av (.int .i64 1)),.none,[],[]⟩,
 ⟨.some 8,.mv (.tmp 11),.none,[],[]⟩])
 (.block 0
 l_slices_insertionSortCmpFunc_int_2)),
 [], false⟩
theorem c_slices_insertionSortCmpFunc_int : chkFunc Tryz.prog gl n_slices_insertionSortCmpFunc_int a_slices_insertionSortCmpFunc_int = true := by kernel_rfl
/- slices.symMergeCmpFunc[int] -/
def b_slices_symMergeCmpFunc_int_1 : ACode :=
 (.seq (.seq (.reg false [⟨.some 149,.mv (.tmp 20),.none,[],[]⟩,
 ⟨.some 150,.mv (.tmp 21),.none,[],[]⟩,
 ⟨.some 151,.bin .lss (.tmp 149) (.tmp 150),.none,[],[]⟩])
 (.cond (.tmp 151)
 .skip
 (.exit 8)))
 (.cut [0,1,2,3,4,18,19,20,21,22] []
 (.block 9
 (.seq (.reg false [⟨.some 152,.mv (.tmp 20),.none,[],[]⟩,
 ⟨.some 153,.mv (.tmp 21),.none,[],[]⟩,
 ⟨.some 154,.bin .add (.tmp 152) (.tmp 153),.none,[],[]⟩,
 ⟨.some 155,.conv (.int .u64) (.tmp 154),.none,[],[]⟩,
 ⟨.some 156,.bin .shr (.tmp 155) (.av (.int .u64 1)),.none,[],[]⟩,
 ⟨.some 157,.conv (.int .i64) (.tmp 156),.none,[],[]⟩,
 ⟨.some 23,.mv (.tmp 157),.none,[],[]⟩])
 (.seq (.reg true [⟨.some 158,.mv (.tmp 4),.none,[],[]⟩,
 ⟨.some 159,.mv (.tmp 0),.none,[],[]⟩,
 ⟨.some 160,.mv (.tmp 22),.none,[],[]⟩,
 ⟨.some 161,.mv (.tmp 23),.none,[],[]⟩,
 ⟨.some 162,.bin .sub (.tmp 160) (.tmp 161),.none,[],[]⟩,
 ⟨.some 163,.iaddr .none 1 (.tmp 159) (.tmp 162),.none,[],[]⟩,
 ⟨.some 164,.load false false 1 (.tmp 163),.none,[],[]⟩,
 ⟨.some 165,.mv (.tmp 0),.none,[],[]⟩,
 ⟨.some 166,.mv (.tmp 23),.none,[],[]⟩,
 ⟨.some 167,.iaddr .none 1 (.tmp 165) (.tmp 166),.none,[],[]⟩,
 ⟨.some 168,.load false false 1 (.tmp 167),.none,[],[]⟩,
 ⟨.some 169,.call (.tmp 158) [(.tmp 164),(.tmp 168)],.none,[],[]⟩,
 ⟨.some 170,.bin .lss (.tmp 169) (.av (.int .i64 0)),.none,[],[]⟩,
 ⟨.some 171,.un .not (.tmp 170),.none,[],[]⟩])
 (.cond (.tmp 171)
 (.reg false [⟨.some 172,.mv (.tmp 23),.none,[],[]⟩,
 ⟨.some 173,.bin .add (.tmp 172) (.av (.int .i64 1)),.none,[],[]⟩,
 ⟨.some 20,.mv (.tmp 173),.none,[],[]⟩])
 (.reg false [⟨.some 174,.mv (.tmp 23),.none,[],[]⟩,
 ⟨.some 21,.mv (.tmp 174),.none,[],[]⟩])))))))
def l_slices_symMergeCmpFunc_int_1 : ACode := .loop (.cut [0,1,2,3,4,18,19,20,21,22] [] b_slices_symMergeCmpFunc_int_1)
def b_slices_symMergeCmpFunc_int_2 : ACode :=
 (.seq (.seq (.reg false [⟨.some 108,.mv (.tmp 17),.none,[],[]⟩,
 ⟨.some 109,.mv (.tmp 14),.none,[],[]⟩,
 ⟨.some 110,.bin .gtr (.tmp 108) (.tmp 109),.none,[],[]⟩])
 (.cond (.tmp 110)
 .skip
 (.exit 6)))
 (.cut [0,14,17] []
 (.seq (.block 7
 (.reg true [⟨.some 113,.mv (.tmp 0),.none,[],[]⟩,
 ⟨.some 114,.mv (.tmp 17),.none,[],[]⟩,
 ⟨.some 115,.mv (.tmp 0),.none,[],[]⟩,
 ⟨.some 116,.mv (.tmp 17),.none,[],[]⟩,
 ⟨.some 117,.bin .sub (.tmp 116) (.av (.int .i64 1)),.none,[],[]⟩,
 ⟨.some 118,.mv (.tmp 0),.none,[],[]⟩,
 ⟨.some 119,.mv (.tmp 17),.none,[],[]⟩,
 ⟨.some 120,.bin .sub (.tmp 119) (.av (.int .i64 1)),.none,[],[]⟩,
 ⟨.some 121,.iaddr .none 1 (.tmp 118) (.tmp 120),.none,[],[]⟩,
 ⟨.some 122,.load false false 1 (.tmp 121),.none,[],[]⟩,
 ⟨.some 123,.mv (.tmp 0),.none,[],[]⟩,
 ⟨.some 124,.mv (.tmp 17),.none,[],[]⟩,
 ⟨.some 125,.iaddr .none 1 (.tmp 123) (.tmp 124),.none,[],[]⟩,
 ⟨.some 126,.load false false 1 (.tmp 125),.none,[],[]⟩,
 ⟨.some 127,.iaddr .none 1 (.tmp 113) (.tmp 114),.none,[],[]⟩,
 ⟨.none,.store 1 (.tmp 127) (.tmp 122),.none,[],[]⟩,
 ⟨.some 128,.iaddr .none 1 (.tmp 115) (.tmp 117),.none,[],[]⟩,
 ⟨.none,.store 1 (.tmp 128) (.tmp 126),.none,[],[]⟩]))
 (.cut [0,14,17] []
 (.reg false [⟨.some 111,.mv (.tmp 17),.none,[],[]⟩,
 ⟨.some 112,.bin .sub (.tmp 111) (.av (.int .i64 1)),.none,[],[]⟩,
 ⟨.some 17,.mv (.tmp 112),.none,[],[]⟩])))))
def l_slices_symMergeCmpFunc_int_2 : ACode := .loop (.cut [0,14,17] [] b_slices_symMergeCmpFunc_int_2)
def b_slices_symMergeCmpFunc_int_3 : ACode :=
 (.seq (.seq (.reg false [⟨.some 83,.mv (.tmp 14),.none,[],[]⟩,
 ⟨.some 84,.mv (.tmp 15),.none,[],[]⟩,
 ⟨.some 85,.bin .lss (.tmp 83) (.tmp 84),.none,[],[]⟩])
 (.cond (.tmp 85)
 .skip
 (.exit 4)))
 (.cut [0,2,4,14,15] []
 (.block 5
 (.seq (.reg false [⟨.some 86,.mv (.tmp 14),.none,[],[]⟩,
 ⟨.some 87,.mv (.tmp 15),.none,[],[]⟩,
 ⟨.some 88,.bin .add (.tmp 86) (.tmp 87),.none,[],[]⟩,
 ⟨.some 89,.conv (.int .u64) (.tmp 88),.none,[],[]⟩,
 ⟨.some 90,.bin .shr (.tmp 89) (.av (.int .u64 1)),.none,[],[]⟩,
 ⟨.some 91,.conv (.int .i64) (.tmp 90),.none,[],[]⟩,
 ⟨.some 16,.mv (.tmp 91),.none,[],[]⟩])
 (.seq (.reg true [⟨.some 92,.mv (.tmp 4),.none,[],[]⟩,
 ⟨.some 93,.mv (.tmp 0),.none,[],[]⟩,
 ⟨.some 94,.mv (.tmp 2),.none,[],[]⟩,
 ⟨.some 95,.iaddr .none 1 (.tmp 93) (.tmp 94),.none,[],[]⟩,
 ⟨.some 96,.load false false 1 (.tmp 95),.none,[],[]⟩,
 ⟨.some 97,.mv (.tmp 0),.none,[],[]⟩,
 ⟨.some 98,.mv (.tmp 16),.none,[],[]⟩,
 ⟨.some 99,.iaddr .none 1 (.tmp 97) (.tmp 98),.none,[],[]⟩,
 ⟨.some 100,.load false false 1 (.tmp 99),.none,[],[]⟩,
 ⟨.some 101,.call (.tmp 92) [(.tmp 96),(.tmp 100)],.none,[],[]⟩,
 ⟨.some 102,.bin .lss (.tmp 101) (.av (.int .i64 0)),.none,[],[]⟩,
 ⟨.some 103,.un .not (.tmp 102),.none,[],[]⟩])
 (.cond (.tmp 103)
 (.reg false [⟨.some 104,.mv (.tmp 16),.none,[],[]⟩,
 ⟨.some 105,.bin .add (.tmp 104) (.av (.int .i64 1)),.none,[],[]⟩,
 ⟨.some 14,.mv (.tmp 105),.none,[],[]⟩])
 (.reg false [⟨.some 106,.mv (.tmp 16),.none,[],[]⟩,
 ⟨.some 15,.mv (.tmp 106),.none,[],[]⟩])))))))
def l_slices_symMergeCmpFunc_int_3 : ACode := .loop (.cut [0,2,4,14,15] [] b_slices_symMergeCmpFunc_int_3)
def b_slices_symMergeCmpFunc_int_4 : ACode :=
 (.seq (.seq (.reg false [⟨.some 55,.mv (.tmp 13),.none,[],[]⟩,
 ⟨.some 56,.mv (.tmp 10),.none,[],[]⟩,
 ⟨.some 57,.bin .sub (.tmp 56) (.av (.int .i64 1)),.none,[],[]⟩,
 ⟨.some 58,.bin .lss (.tmp 55) (.tmp 57),.none,[],[]⟩])
 (.cond (.tmp 58)
 .skip
 (.exit 2)))
 (.cut [0,10,13] []
 (.seq (.block 3
 (.reg true [⟨.some 61,.mv (.tmp 0),.none,[],[]⟩,
 ⟨.some 62,.mv (.tmp 13),.none,[],[]⟩,
 ⟨.some 63,.mv (.tmp 0),.none,[],[]⟩,
 ⟨.some 64,.mv (.tmp 13),.none,[],[]⟩,
 ⟨.some 65,.bin .add (.tmp 64) (.av (.int .i64 1)),.none,[],[]⟩,
 ⟨.some 66,.mv (.tmp 0),.none,[],[]⟩,
 ⟨.some 67,.mv (.tmp 13),.none,[],[]⟩,
 ⟨.some 68,.bin .add (.tmp 67) (.av (.int .i64 1)),.none,[],[]⟩,
 ⟨.some 69,.iaddr .none 1 (.tmp 66) (.tmp 68),.none,[],[]⟩,
 ⟨.some 70,.load false false 1 (.tmp 69),.none,[],[]⟩,
 ⟨.some 71,.mv (.tmp 0),.none,[],[]⟩,
 ⟨.some 72,.mv (.tmp 13),.none,[],[]⟩,
 ⟨.some 73,.iaddr .none 1 (.tmp 71) (.tmp 72),.none,[],[]⟩,
 ⟨.some 74,.load false false 1 (.tmp 73),.none,[],[]⟩,
 ⟨.some 75,.iaddr .none 1 (.tmp 61) (.tmp 62),.none,[],[]⟩,
 ⟨.none,.store 1 (.tmp 75) (.tmp 70),.none,[],[]⟩,
 ⟨.some 76,.iaddr .none 1 (.tmp 63) (.tmp 65),.none,[],[]⟩,
 ⟨.none,.store 1 (.tmp 76) (.tmp 74),.none,[],[]⟩]))
 (.cut [0,10,13] []
 (.reg false [⟨.some 59,.mv (.tmp 13),.none,[],[]⟩,
 ⟨.some 60,.bin .add (.tmp 59) (.av (.int .i64 1)),.none,[],[]⟩,
 ⟨.some 13,.mv (.tmp 60),.none,[],[]⟩])))))
def l_slices_symMergeCmpFunc_int_4 : ACode := .loop (.cut [0,10,13] [] b_slices_symMergeCmpFunc_int_4)
def b_slices_symMergeCmpFunc_int_5 : ACode :=
 (.seq (.seq (.reg false [⟨.some 31,.mv (.tmp 10),.none,[],[]⟩,
 ⟨.some 32,.mv (.tmp 11),.none,[],[]⟩,
 ⟨.some 33,.bin .lss (.tmp 31) (.tmp 32),.none,[],[]⟩])
 (.cond (.tmp 33)
 .skip
 (.exit 0)))
 (.cut [0,1,4,10,11] []
 (.block 1
 (.seq (.reg false [⟨.some 34,.mv (.tmp 10),.none,[],[]⟩,
 ⟨.some 35,.mv (.tmp 11),.none,[],[]⟩,
 ⟨.some 36,.bin .add (.tmp 34) (.tmp 35),.none,[],[]⟩,
 ⟨.some 37,.conv (.int .u64) (.tmp 36),.none,[],[]⟩,
 ⟨.some 38,.bin .shr (.tmp 37) (.av (.int .u64 1)),.none,[],[]⟩,
 ⟨.some 39,.conv (.int .i64) (.tmp 38),.none,[],[]⟩,
 ⟨.some 12,.mv (.tmp 39),.none,[],[]⟩])
 (.seq (.reg true [⟨.some 40,.mv (.tmp 4),.none,[],[]⟩,
 ⟨.some 41,.mv (.tmp 0),.none,[],[]⟩,
 ⟨.some 42,.mv (.tmp 12),.none,[],[]⟩,
 ⟨.some 43,.iaddr .none 1 (.tmp 41) (.tmp 42),.none,[],[]⟩,
 ⟨.some 44,.load false false 1 (.tmp 43),.none,[],[]⟩,
 ⟨.some 45,.mv (.tmp 0),.none,[],[]⟩,
 ⟨.some 46,.mv (.tmp 1),.none,[],[]⟩,
 ⟨.some 47,.iaddr .none 1 (.tmp 45) (.tmp 46),.none,[],[]⟩,
 ⟨.some 48,.load false false 1 (.tmp 47),.none,[],[]⟩,
 ⟨.some 49,.call (.tmp 40) [(.tmp 44),(.tmp 48)],.none,[],[]⟩,
 ⟨.some 50,.bin .lss (.tmp 49) (.av (.int .i64 0)),.none,[],[]⟩])
 (.cond (.tmp 50)
 (.reg false [⟨.some 51,.mv (.tmp 12),.none,[],[]⟩,
 ⟨.some 52,.bin .add (.tmp 51) (.av (.int .i64 1)),.none,[],[]⟩,
 ⟨.some 10,.mv (.tmp 52),.none,[],[]⟩])
 (.reg false [⟨.some 53,.mv (.tmp 12),.none,[],[]⟩,
 ⟨.some 11,.mv (.tmp 53),.none,[],[]⟩])))))))
def l_slices_symMergeCmpFunc_int_5 : ACode := .loop (.cut [0,1,4,10,11] [] b_slices_symMergeCmpFunc_int_5)
def a_slices_symMergeCmpFunc_int : AFunc := ⟨220,
 (.seq (.seq (.reg false [⟨.some 25,.mv (.tmp 2),.none,[],[]⟩,
 ⟨.some 26,.mv (.tmp 1),.none,[],[]⟩,
 ⟨.some 27,.bin .sub (.tmp 25) (.tmp 26),.none,[],[]⟩,
 ⟨.some 28,.bin .eql (.tmp 27) (.av (.int .i64 1)),.none,[],[]⟩])
 (.cond (.tmp 28)
 (.seq (.reg false [⟨.some 29,.mv (.tmp 2),.none,[],[]⟩,
 ⟨.some 10,.mv (.tmp 29),.none,[],[]⟩])
 (.seq (.reg false [⟨.some 30,.mv (.tmp 3),.none,[],[]⟩,
 ⟨.some 11,.mv (.tmp 30),.none,[],[]⟩])
 (.seq (.block 0
 l_slices_symMergeCmpFunc_int_5)
 (.cut [0,1,10] []
 (.seq (.seq (.reg false [⟨.some 54,.mv (.tmp 1),.none,[],[]⟩,
 ⟨.some 13,.mv (.tmp 54),.none,[],[]⟩])
 (.block 2
 l_slices_symMergeCmpFunc_int_4))
 .ret)))))
 .skip))
 (.cut [0,1,2,3,4] []
 (.seq (.seq (.reg false [⟨.some 77,.mv (.tmp 3),.none,[],[]⟩,
 ⟨.some 78,.mv (.tmp 2),.none,[],[]⟩,
 ⟨.some 79,.bin .sub (.tmp 77) (.tmp 78),.none,[],[]⟩,
 ⟨.some 80,.bin .eql (.tmp 79) (.av (.int .i64 1)),.none,[],[]⟩])
 (.cond (.tmp 80)
 (.seq (.reg false [⟨.some 81,.mv (.tmp 1),.none,[],[]⟩,
 ⟨.some 14,.mv (.tmp 81),.none,[],[]⟩])
 (.seq (.reg false [⟨.some 82,.mv (.tmp 2),.none,[],[]⟩,
 ⟨.some 15,.mv (.tmp 82),.none,[],[]⟩])
 (.seq (.block 4
 l_slices_symMergeCmpFunc_int_3)
 (.cut [0,2,14] []
 (.seq (.seq (.reg false [⟨.some 107,.mv (.tmp 2),.none,[],[]⟩,
 ⟨.some 17,.mv (.tmp 107),.none,[],[]⟩])
 (.block 6
 l_slices_symMergeCmpFunc_int_2))
 .ret)))))
 .skip))
 (.cut [0,1,2,3,4] []
 (.seq (.reg false [⟨.some 129,.mv (.tmp 1),.none,[],[]⟩,
 ⟨.some 130,.mv (.tmp 3),.none,[],[]⟩,
 ⟨.some 131,.bin .add (.tmp 129) (.tmp 130),.none,[],[]⟩,
 ⟨.some 132,.conv (.int .u64) (.tmp 131),.none,[],[]⟩,
 ⟨.some 133,.bin .shr (.tmp 132) (.av (.int .u64 1)),.none,[],[]⟩,
 ⟨.some 134,.conv (.int .i64) (.tmp 133),.none,[],[]⟩,
 ⟨.some 18,.mv (.tmp 134),.none,[],[]⟩])
 (.seq (.reg false [⟨.some 135,.mv (.tmp 18),.none,[],[]⟩,
 ⟨.some 136,.mv (.tmp 2),.none,[],[]⟩,
 ⟨.some 137,.bin .add (.tmp 135) (.tmp 136),.none,[],[]⟩,
 ⟨.some 19,.mv (.tmp 137),.none,[],[]⟩])
 (.seq (.reg false [⟨.some 20,.mv (.av (.int .i64 0)),.none,[],[]⟩,
 ⟨.some 21,.mv (.av (.int .i64 0)),.none,[],[]⟩])
 (.seq (.seq (.reg false [⟨.some 138,.mv (.tmp 2),.none,[],[]⟩,
 ⟨.some 139,.mv (.tmp 18),.none,[],[]⟩,
 ⟨.some 140,.bin .gtr (.tmp 138) (.tmp 139),.none,[],[]⟩])
 (.cond (.tmp 140)
 (.seq (.reg false [⟨.some 141,.mv (.tmp 19),.none,[],[]⟩,
 ⟨.some 142,.mv (.tmp 3),.none,[],[]⟩,
 ⟨.some 143,.bin .sub (.tmp 141) (.tmp 142),.none,[],[]⟩,
 ⟨.some 20,.mv (.tmp 143),.none,[],[]⟩])
 (.reg false [⟨.some 144,.mv (.tmp 18),.none,[],[]⟩,
 ⟨.some 21,.mv (.tmp 144),.none,[],[]⟩]))
 (.seq (.reg false [⟨.some 145,.mv (.tmp 1),.none,[],[]⟩,
 ⟨.some 20,.mv (.tmp 145),.none,[],[]⟩])
 (.reg false [⟨.some 146,.mv (.tmp 2),.none,[],[]⟩,
 ⟨.some 21,.mv (.tmp 146),.none,[],[]⟩]))))
 (.cut [0,1,2,3,4,18,19,20,21] []
 (.seq (.reg false [⟨.some 147,.mv (.tmp 19),.none,[],[]⟩,
 ⟨.some 148,.bin .sub (.tmp 147) (.av (.int .i64 1)),.none,[],[]⟩,
 ⟨.some 22,.mv (.tmp 148),.none,[],[]⟩])
 (.seq (.block 8
 l_slices_symMergeCmpFunc_int_1)
 (.cut [0,1,2,3,4,18,19,20] []
 (.seq (.reg false [⟨.some 175,.mv (.tmp 19),.none,[],[]⟩,
 ⟨.some 176,.mv (.tmp 20),.none,[],[]⟩,
 ⟨.some 177,.bin .sub (.tmp 175) (.tmp 176),.none,[],[]⟩,
 ⟨.some 24,.mv (.tmp 177),.none,[],[]⟩])
 (.seq (.seq (.reg false [⟨.some 178,.mv (.tmp 20),.none,[],[]⟩,
 ⟨.some 179,.mv (.tmp 2),.none,[],[]⟩,
 ⟨.some 180,.bin .lss (.tmp 178) (.tmp 179),.none,[],[]⟩,
 ⟨.some 181,.mv (.tmp 180),.none,[],[]⟩,
 ⟨.some 182,.mv (.tmp 2),.some (181,true),[],[]⟩,
 ⟨.some 183,.mv (.tmp 24),.some (181,true),[],[]⟩,
 ⟨.some 184,.bin .lss (.tmp 182) (.tmp 183),.some (181,true),[],[]⟩,
 ⟨.some 185,.pick (.tmp 181) (.tmp 184) (.av (.bool false)),.none,[],[]⟩])
 (.cond (.tmp 185)
 (.reg false [⟨.some 186,.mv (.tmp 0),.none,[],[]⟩,
 ⟨.some 187,.mv (.tmp 20),.none,[],[]⟩,
 ⟨.some 188,.mv (.tmp 2),.none,[],[]⟩,
 ⟨.some 189,.mv (.tmp 24),.none,[],[]⟩,
 ⟨.some 190,.mv (.tmp 4),.none,[],[]⟩,
 ⟨.some 191,.call (.av (.fn n_slices_rotateCmpFunc_int [])) [(.tmp 186),(.tmp 187),(.tmp 188),(.tmp 189),(.tmp 190)],.none,[],[]⟩])
 .skip))
 (.cut [0,1,3,4,18,20,24] []
 (.seq (.seq (.reg false [⟨.some 192,.mv (.tmp 1),.none,[],[]⟩,
 ⟨.some 193,.mv (.tmp 20),.none,[],[]⟩,
 ⟨.some 194,.bin .lss (.tmp 192) (.tmp 193),.none,[],[]⟩,
 ⟨.some 195,.mv (.tmp 194),.none,[],[]⟩,
 ⟨.some 196,.mv (.tmp 20),.some (195,true),[],[]⟩,
 ⟨.some 197,.mv (.tmp 18),.some (195,true),[],[]⟩,
 ⟨.some 198,.bin .lss (.tmp 196) (.tmp 197),.some (195,true),[],[]⟩,
 ⟨.some 199,.pick (.tmp 195) (.tmp 198) (.av (.bool false)),.none,[],[]⟩])
 (.cond (.tmp 199)
 (.reg false [⟨.some 200,.mv (.tmp 0),.none,[],[]⟩,
 ⟨.some 201,.mv (.tmp 1),.none,[],[]⟩,
 ⟨.some 202,.mv (.tmp 20),.none,[],[]⟩,
 ⟨.some 203,.mv (.tmp 18),.none,[],[]⟩,
 ⟨.some 204,.mv (.tmp 4),.none,[],[]⟩,
 ⟨.some 205,.call (.av (.fn n_slices_symMergeCmpFunc_int [])) [(.tmp 200),(.tmp 201),(.tmp 202),(.tmp 203),(.tmp 204)],.none,[],[]⟩])
 .skip))
 (.cut [0,3,4,18,24] []
 (.seq (.reg false [⟨.some 206,.mv (.tmp 18),.none,[],[]⟩,
 ⟨.some 207,.mv (.tmp 24),.none,[],[]⟩,
 ⟨.some 208,.bin .lss (.tmp 206) (.tmp 207),.none,[],[]⟩,
 ⟨.some 209,.mv (.tmp 208),.none,[],[]⟩,
 ⟨.some 210,.mv (.tmp 24),.some (209,true),[],[]⟩,
 ⟨.some 211,.mv (.tmp 3),.some (209,true),[],[]⟩,
 ⟨.some 212,.bin .lss (.tmp 210) (.tmp 211),.some (209,true),[],[]⟩,
 ⟨.some 213,.pick (.tmp 209) (.tmp 212) (.av (.bool false)),.none,[],[]⟩])
 (.cond (.tmp 213)
 (.reg false [⟨.some 214,.mv (.tmp 0),.none,[],[]⟩,
 ⟨.some 215,.mv (.tmp 18),.none,[],[]⟩,
 ⟨.some 216,.mv (.tmp 24),.none,[],[]⟩,
 ⟨.some 217,.mv (.tmp 3),.none,[],[]⟩,
 ⟨.some 218,.mv (.tmp 4),.none,[],[]⟩,
 ⟨.some 219,.call (.av (.fn n_slices_symMergeCmpFunc_int [])) [(.tmp 214),(.tmp 215),(.tmp 216),(.tmp 217),(.tmp 218)],.none,[],[]⟩])
 .skip))))))))))))))))))),
 [], false⟩
theorem c_slices_symMergeCmpFunc_int : chkFunc Tryz.prog gl n_slices_symMergeCmpFunc_int a_slices_symMergeCmpFunc_int = true := by kernel_rfl
/- shotline/gas.within -/
def a_gas_within : AFunc := ⟨15,
 (.seq (.reg false [⟨.some 6,.mv (.av (.bool false)),.none,[],[]⟩])
 (.seq (.reg false [⟨.some 7,.mv (.tmp 1),.none,[],[]⟩,
 ⟨.some 8,.mv (.tmp 0),.none,[],[]⟩,
 ⟨.some 9,.bin .leq (.tmp 7) (.tmp 8),.none,[],[]⟩,
 ⟨.some 10,.mv (.tmp 9),.none,[],[]⟩,
 ⟨.some 11,.mv (.tmp 0),.some (10,true),[],[]⟩,
 ⟨.some 12,.mv (.tmp 2),.some (10,true),[],[]⟩,
 ⟨.some 13,.bin .leq (.tmp 11) (.tmp 12),.some (10,true),[],[]⟩,
 ⟨.some 14,.pick (.tmp 10) (.tmp 13) (.av (.bool false)),.none,[],[]⟩,
 ⟨.some 6,.mv (.tmp 14),.none,[],[]⟩])
 .ret)),
 [.tmp 6], false⟩
theorem c_gas_within : chkFunc Tryz.prog gl n_gas_within a_gas_within = true := by kernel_rfl
/- slices.rotateCmpFunc[int] -/
def b_slices_rotateCmpFunc_int_1 : ACode :=
 (.seq (.seq (.reg false [⟨.some 18,.mv (.tmp 10),.none,[],[]⟩,
 ⟨.some 19,.mv (.tmp 11),.none,[],[]⟩,
 ⟨.some 20,.bin .neq (.tmp 18) (.tmp 19),.none,[],[]⟩])
 (.cond (.tmp 20)
 .skip
 (.exit 0)))
 (.cut [0,2,4,10,11] []
 (.block 1
 (.seq (.reg false [⟨.some 21,.mv (.tmp 10),.none,[],[]⟩,
 ⟨.some 22,.mv (.tmp 11),.none,[],[]⟩,
 ⟨.some 23,.bin .gtr (.tmp 21) (.tmp 22),.none,[],[]⟩])
 (.cond (.tmp 23)
 (.seq (.reg false [⟨.some 24,.mv (.tmp 0),.none,[],[]⟩,
 ⟨.some 25,.mv (.tmp 2),.none,[],[]⟩,
 ⟨.some 26,.mv (.tmp 10),.none,[],[]⟩,
 ⟨.some 27,.bin .sub (.tmp 25) (.tmp 26),.none,[],[]⟩,
 ⟨.some 28,.mv (.tmp 2),.none,[],[]⟩,
 ⟨.some 29,.mv (.tmp 11),.none,[],[]⟩,
 ⟨.some 30,.mv (.tmp 4),.none,[],[]⟩,
 ⟨.some 31,.call (.av (.fn n_slices_swapRangeCmpFunc_int [])) [(.tmp 24),(.tmp 27),(.tmp 28),(.tmp 29),(.tmp 30)],.none,[],[]⟩])
 (.reg false [⟨.some 32,.mv (.tmp 10),.none,[],[]⟩,
 ⟨.some 33,.mv (.tmp 11),.none,[],[]⟩,
 ⟨.some 34,.bin .sub (.tmp 32) (.tmp 33),.none,[],[]⟩,
 ⟨.some 10,.mv (.tmp 34),.none,[],[]⟩]))
 (.seq (.reg false [⟨.some 35,.mv (.tmp 0),.none,[],[]⟩,
 ⟨.some 36,.mv (.tmp 2),.none,[],[]⟩,
 ⟨.some 37,.mv (.tmp 10),.none,[],[]⟩,
 ⟨.some 38,.bin .sub (.tmp 36) (.tmp 37),.none,[],[]⟩,
 ⟨.some 39,.mv (.tmp 2),.none,[],[]⟩,
 ⟨.some 40,.mv (.tmp 11),.none,[],[]⟩,
 ⟨.some 41,.bin .add (.tmp 39) (.tmp 40),.none,[],[]⟩,
 ⟨.some 42,.mv (.tmp 10),.none,[],[]⟩,
 ⟨.some 43,.bin .sub (.tmp 41) (.tmp 42),.none,[],[]⟩,
 ⟨.some 44,.mv (.tmp 10),.none,[],[]⟩,
 ⟨.some 45,.mv (.tmp 4),.none,[],[]⟩,
 ⟨.some 46,.call (.av (.fn n_slices_swapRangeCmpFunc_int [])) [(.tmp 35),(.tmp 38),(.tmp 43),(.tmp 44),(.tmp 45)],.none,[],[]⟩])
 (.reg false [⟨.some 47,.mv (.tmp 11),.none,[],[]⟩,
 ⟨.some 48,.mv (.tmp 10),.none,[],[]⟩,
 ⟨.some 49,.bin .sub (.tmp 47) (.tmp 48),.none,[],[]⟩,
 ⟨.some 11,.mv (.tmp 49),.none,[],[]⟩])))))))
def l_slices_rotateCmpFunc_int_1 : ACode := .loop (.cut [0,2,4,10,11] [] b_slices_rotateCmpFunc_int_1)
def a_slices_rotateCmpFunc_int : AFunc := ⟨58,
 (.seq (.reg false [⟨.some 12,.mv (.tmp 2),.none,[],[]⟩,
 ⟨.some 13,.mv (.tmp 1),.none,[],[]⟩,
 ⟨.some 14,.bin .sub (.tmp 12) (.tmp 13),.none,[],[]⟩,
 ⟨.some 10,.mv (.tmp 14),.none,[],[]⟩])
 (.seq (.reg false [⟨.some 15,.mv (.tmp 3),.none,[],[]⟩,
 ⟨.some 16,.mv (.tmp 2),.none,[],[]⟩,
 ⟨.some 17,.bin .sub (.tmp 15) (.tmp 16),.none,[],[]⟩,
 ⟨.some 11,.mv (.tmp 17),.none,[],[]⟩])
 (.seq (.block 0
 l_slices_rotateCmpFunc_int_1)
 (.cut [0,2,4,10] []
 (.reg false [⟨.some 50,.mv (.tmp 0),.none,[],[]⟩,
 ⟨.some 51,.mv (.tmp 2),.none,[],[]⟩,
 ⟨.some 52,.mv (.tmp 10),.none,[],[]⟩,
 ⟨.some 53,.bin .sub (.tmp 51) (.tmp 52),.none,[],[]⟩,
 ⟨.some 54,.mv (.tmp 2),.none,[],[]⟩,
 ⟨.some 55,.mv (.tmp 10),.none,[],[]⟩,
 ⟨.some 56,.mv (.tmp 4),.none,[],[]⟩,
 ⟨.some 57,.call (.av (.fn n_slices_swapRangeCmpFunc_int [])) [(.tmp 50),(.tmp 53),(.tmp 54),(.tmp 55),(.tmp 56)],.none,[],[]⟩]))))),
 [], false⟩
theorem c_slices_rotateCmpFunc_int : chkFunc Tryz.prog gl n_slices_rotateCmpFunc_int a_slices_rotateCmpFunc_int = true := by kernel_rfl
/- slices.swapRangeCmpFunc[int] -/
def b_slices_swapRangeCmpFunc_int_1 : ACode :=
 (.seq (.seq (.reg false [⟨.some 11,.mv (.tmp 10),.none,[],[]⟩,
 ⟨.some 12,.mv (.tmp 3),.none,[],[]⟩,
 ⟨.some 13,.bin .lss (.tmp 11) (.tmp 12),.none,[],[]⟩])
 (.cond (.tmp 13)
 .skip
 (.exit 0)))
 (.cut [0,1,2,3,10] []
 (.seq (.block 1
 (.reg true [⟨.some 16,.mv (.tmp 0),.none,[],[]⟩,
 ⟨.some 17,.mv (.tmp 1),.none,[],[]⟩,
 ⟨.some 18,.mv (.tmp 10),.none,[],[]⟩,
 ⟨.some 19,.bin .add (.tmp 17) (.tmp 18),.none,[],[]⟩,
 ⟨.some 20,.mv (.tmp 0),.none,[],[]⟩,
 ⟨.some 21,.mv (.tmp 2),.none,[],[]⟩,
 ⟨.some 22,.mv (.tmp 10),.none,[],[]⟩,
 ⟨.some 23,.bin .add (.tmp 21) (.tmp 22),.none,[],[]⟩,
 ⟨.some 24,.mv (.tmp 0),.none,[],[]⟩,
 ⟨.some 25,.mv (.tmp 2),.none,[],[]⟩,
 ⟨.some 26,.mv (.tmp 10),.none,[],[]⟩,
 ⟨.some 27,.bin .add (.tmp 25) (.tmp 26),.none,[],[]⟩,
 ⟨.some 28,.iaddr .none 1 (.tmp 24) (.tmp 27),.none,[],[]⟩,
 ⟨.some 29,.load false false 1 (.tmp 28),.none,[],[]⟩,
 ⟨.some 30,.mv (.tmp 0),.none,[],[]⟩,
 ⟨.some 31,.mv (.tmp 1),.none,[],[]⟩,
 ⟨.some 32,.mv (.tmp 10),.none,[],[]⟩,
 ⟨.some 33,.bin .add (.tmp 31) (.tmp 32),.none,[],[]⟩,
 ⟨.some 34,.iaddr .none 1 (.tmp 30) (.tmp 33),.none,[],[]⟩,
 ⟨.some 35,.load false false 1 (.tmp 34),.none,[],[]⟩,
 ⟨.some 36,.iaddr .none 1 (.tmp 16) (.tmp 19),.none,[],[]⟩,
 ⟨.none,.store 1 (.tmp 36) (.tmp 29),.none,[],[]⟩,
 ⟨.some 37,.iaddr .none 1 (.tmp 20) (.tmp 23),.none,[],[]⟩,
 ⟨.none,.store 1 (.tmp 37) (.tmp 35),.none,[],[]⟩]))
 (.cut [0,1,2,3,10] []
 (.reg false [⟨.some 14,.mv (.tmp 10),.none,[],[]⟩,
 ⟨.some 15,.bin .add (.tmp 14) (.av (.int .i64 1)),.none,[],[]⟩,
 ⟨.some 10,.mv (.tmp 15),.none,[],[]⟩])))))
def l_slices_swapRangeCmpFunc_int_1 : ACode := .loop (.cut [0,1,2,3,10] [] b_slices_swapRangeCmpFunc_int_1)
def a_slices_swapRangeCmpFunc_int : AFunc := ⟨38,
 (.seq (.reg false [⟨.some 10,.mv (.av (.int .i64 0)),.none,[],[]⟩])
 (.block 0
 l_slices_swapRangeCmpFunc_int_1)),
 [], false⟩
theorem c_slices_swapRangeCmpFunc_int : chkFunc Tryz.prog gl n_slices_swapRangeCmpFunc_int a_slices_swapRangeCmpFunc_int = true := by kernel_rfl
end Go.Proofs.YtifieekfojbkhaaGreatDoor
