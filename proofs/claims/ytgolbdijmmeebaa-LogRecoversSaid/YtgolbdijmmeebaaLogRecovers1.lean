/- The law LogRecovers of package magnetolaw17 returns true for every input, and its arguments read as before. -/
import Derived.Test.YtgolbdijmmeebaaRows
import Derived.Test.YtgolbdijmmeebaaAm3
import Derived.Laws.Strings
set_option linter.unusedVariables false
set_option linter.unusedSimpArgs false
open Go Go.AM Go.Proofs
namespace Go.AM.R1
/- magnetolaw17.LogRecovers -/
def L5_0 : ICode := (.seq (.seq (.reg [⟨none, some 63, .copy (.t 9)⟩, ⟨none, some 64, .copy (.t 0)⟩, ⟨none, some 65, .len (.t 64)⟩, ⟨none, some 66, .bin .lss (.t 63) (.t 65)⟩] [] []) (.cond (.t 66) .skip (.exit 0))) (.seq (.block 1 (.reg [⟨none, some 69, .copy (.t 7)⟩, ⟨none, some 70, .copy (.t 0)⟩, ⟨none, some 71, .copy (.t 9)⟩, ⟨none, some 72, .idxS 1 (.t 70) (.t 71)⟩, ⟨none, some 73, .load true 1 (.t 72)⟩, ⟨none, some 74, .call 22 [(.t 69), (.t 73)]⟩] [] [])) (.reg [⟨none, some 67, .copy (.t 9)⟩, ⟨none, some 68, .bin .add (.t 67) (.c (.lit (.int .i64 1)))⟩, ⟨none, some 9, .copy (.t 68)⟩] [] [])))
def L5_1 : ICode := (.seq (.seq (.reg [⟨none, some 194, .copy (.t 25)⟩, ⟨none, some 195, .bin .lss (.t 194) (.c (.lit (.int .i64 32)))⟩, ⟨none, some 196, .copy (.t 195)⟩, ⟨some (196, true), some 197, .copy (.t 24)⟩, ⟨some (196, true), some 198, .copy (.t 25)⟩, ⟨some (196, true), some 199, .bin .add (.t 197) (.t 198)⟩, ⟨some (196, true), some 200, .copy (.t 23)⟩, ⟨some (196, true), some 201, .bin .lss (.t 199) (.t 200)⟩, ⟨none, some 202, .pick (.t 196) (.t 201) (.c (.lit (.bool false)))⟩] [] []) (.cond (.t 202) .skip (.exit 2))) (.seq (.block 3 (.seq (.reg [⟨none, some 205, .fieldA 2 (.t 5)⟩, ⟨none, some 206, .load false 1 (.t 205)⟩, ⟨none, some 207, .copy (.t 25)⟩, ⟨none, some 208, .bin .shr (.t 206) (.t 207)⟩, ⟨none, some 209, .bin .and (.t 208) (.c (.lit (.int .u32 1)))⟩, ⟨none, some 210, .bin .eql (.t 209) (.c (.lit (.int .u32 1)))⟩] [] []) (.cond (.t 210) (.seq (.reg [⟨none, some 211, .copy (.t 24)⟩, ⟨none, some 212, .copy (.t 25)⟩, ⟨none, some 213, .bin .add (.t 211) (.t 212)⟩, ⟨none, some 26, .copy (.t 213)⟩] [] []) (.seq (.reg [⟨none, some 214, .copy (.t 21)⟩, ⟨none, some 215, .copy (.t 20)⟩, ⟨none, some 216, .copy (.t 26)⟩, ⟨none, some 217, .bin .quo (.t 216) (.c (.lit (.int .i64 8)))⟩, ⟨none, some 218, .bin .add (.t 215) (.t 217)⟩, ⟨none, some 219, .copy (.t 21)⟩, ⟨none, some 220, .copy (.t 20)⟩, ⟨none, some 221, .copy (.t 26)⟩, ⟨none, some 222, .bin .quo (.t 221) (.c (.lit (.int .i64 8)))⟩, ⟨none, some 223, .bin .add (.t 220) (.t 222)⟩, ⟨none, some 224, .idxS 1 (.t 219) (.t 223)⟩, ⟨none, some 225, .load false 1 (.t 224)⟩, ⟨none, some 226, .copy (.t 26)⟩, ⟨none, some 227, .bin .rem (.t 226) (.c (.lit (.int .i64 8)))⟩, ⟨none, some 228, .bin .shl (.c (.lit (.int .u8 1))) (.t 227)⟩, ⟨none, some 229, .bin .xor (.t 225) (.t 228)⟩, ⟨none, some 230, .idxS 1 (.t 214) (.t 218)⟩, ⟨none, none, .store 1 (.t 230) (.t 229)⟩] [] []) (.reg [⟨none, some 22, .copy (.c (.lit (.bool true)))⟩] [] []))) .skip))) (.reg [⟨none, some 203, .copy (.t 25)⟩, ⟨none, some 204, .bin .add (.t 203) (.c (.lit (.int .i64 1)))⟩, ⟨none, some 25, .copy (.t 204)⟩] [] [])))
def ir5 : IFn := ⟨(.seq (.reg [⟨none, some 5, .box 3 (.t 2)⟩, ⟨none, some 6, .copy (.c (.lit (.bool false)))⟩] [] []) (.seq (.seq (.reg [⟨none, some 37, .copy (.t 0)⟩, ⟨none, some 38, .call 17 [(.t 37)]⟩, ⟨none, some 39, .un .not (.t 38)⟩, ⟨none, some 40, .copy (.t 39)⟩, ⟨some (40, false), some 41, .copy (.t 1)⟩, ⟨some (40, false), some 42, .build [nilS] [(0, 1, (.t 41))]⟩, ⟨some (40, false), some 43, .mkSlice true 1 [nilS] 1 [(0, (.t 42))]⟩, ⟨some (40, false), some 44, .call 17 [(.t 43)]⟩, ⟨some (40, false), some 45, .un .not (.t 44)⟩, ⟨none, some 46, .pick (.t 40) (.c (.lit (.bool true))) (.t 45)⟩, ⟨none, some 47, .copy (.t 46)⟩, ⟨some (47, false), some 48, .copy (.t 1)⟩, ⟨some (47, false), some 49, .len (.t 48)⟩, ⟨some (47, false), some 50, .bin .eql (.t 49) (.c (.lit (.int .i64 0)))⟩, ⟨none, some 51, .pick (.t 47) (.c (.lit (.bool true))) (.t 50)⟩] [] []) (.cond (.t 51) (.seq (.reg [⟨none, some 52, .call 18 []⟩, ⟨none, some 6, .copy (.t 52)⟩] [] []) .ret) .skip)) (.seq (.reg [⟨none, some 54, .call 19 [(.c (.lit (.int .i64 100000)))]⟩, ⟨none, some 53, .copy (.t 54)⟩, ⟨none, some 55, .extract (.t 53) 0⟩, ⟨none, some 56, .extract (.t 53) 1⟩, ⟨none, some 7, .copy (.t 55)⟩, ⟨none, some 8, .copy (.t 56)⟩] [] []) (.seq (.seq (.reg [⟨none, some 57, .copy (.t 7)⟩, ⟨none, some 58, .isNil false .ptr (.t 57)⟩, ⟨none, some 59, .copy (.t 58)⟩, ⟨some (59, false), some 60, .copy (.t 8)⟩, ⟨some (59, false), some 61, .isNil false .ptr (.t 60)⟩, ⟨none, some 62, .pick (.t 59) (.c (.lit (.bool true))) (.t 61)⟩] [] []) (.cond (.t 62) (.seq (.reg [⟨none, some 6, .copy (.c (.lit (.bool false)))⟩] [] []) .ret) .skip)) (.seq (.seq (.reg [⟨none, some 9, .copy (.c (.lit (.int .i64 0)))⟩] [] []) (.block 0 (.loop [1000000, 0, 1, 5, 7, 8, 9] L5_0))) (.seq (.seq (.reg [⟨none, some 75, .copy (.t 7)⟩, ⟨none, some 76, .call 35 [(.t 75)]⟩, ⟨none, some 77, .bin .neq (.t 76) (.c (.lit (.int .i64 0)))⟩] [] []) (.cond (.t 77) (.seq (.reg [⟨none, some 6, .copy (.c (.lit (.bool false)))⟩] [] []) .ret) .skip)) (.seq (.reg [⟨none, some 79, .copy (.t 7)⟩, ⟨none, some 80, .call 32 [(.t 79)]⟩, ⟨none, some 78, .copy (.t 80)⟩, ⟨none, some 81, .extract (.t 78) 0⟩, ⟨none, some 82, .extract (.t 78) 1⟩, ⟨none, some 10, .copy (.t 81)⟩, ⟨none, some 11, .copy (.t 82)⟩] [] []) (.seq (.reg [⟨none, some 83, .copy (.t 7)⟩, ⟨none, some 84, .call 26 [(.t 83)]⟩, ⟨none, some 12, .copy (.t 84)⟩] [] []) (.seq (.reg [⟨none, some 85, .copy (.t 8)⟩, ⟨none, some 86, .call 36 [(.t 85)]⟩, ⟨none, some 13, .copy (.t 86)⟩] [] []) (.seq (.reg [⟨none, some 88, .copy (.t 8)⟩, ⟨none, some 89, .call 37 [(.t 88)]⟩, ⟨none, some 87, .copy (.t 89)⟩, ⟨none, some 90, .extract (.t 87) 0⟩, ⟨none, some 91, .extract (.t 87) 1⟩, ⟨none, some 14, .copy (.t 90)⟩, ⟨none, some 15, .copy (.t 91)⟩] [] []) (.seq (.seq (.reg [⟨none, some 92, .copy (.t 14)⟩, ⟨none, some 93, .isNil false .ptr (.t 92)⟩, ⟨none, some 94, .copy (.t 93)⟩, ⟨some (94, false), some 95, .copy (.t 15)⟩, ⟨some (94, false), some 96, .bin .neq (.t 95) (.c (.lit (.int .i64 0)))⟩, ⟨none, some 97, .pick (.t 94) (.c (.lit (.bool true))) (.t 96)⟩] [] []) (.cond (.t 97) (.seq (.reg [⟨none, some 6, .copy (.c (.lit (.bool false)))⟩] [] []) .ret) .skip)) (.seq (.reg [⟨none, some 98, .copy (.t 7)⟩, ⟨none, some 99, .copy (.t 1)⟩, ⟨none, some 100, .call 38 [(.t 98), (.t 99)]⟩, ⟨none, some 16, .copy (.t 100)⟩] [] []) (.seq (.seq (.reg [⟨none, some 101, .copy (.t 16)⟩, ⟨none, some 102, .bin .neq (.t 101) (.c (.lit (.int .i64 0)))⟩] [] []) (.cond (.t 102) (.seq (.reg [⟨none, some 103, .copy (.t 7)⟩, ⟨none, some 104, .call 26 [(.t 103)]⟩, ⟨none, some 105, .copy (.t 12)⟩, ⟨none, some 106, .bin .eql (.t 104) (.t 105)⟩, ⟨none, some 107, .copy (.t 106)⟩, ⟨some (107, true), some 108, .copy (.t 1)⟩, ⟨some (107, true), some 109, .call 39 [(.t 108)]⟩, ⟨some (107, true), some 110, .copy (.t 16)⟩, ⟨some (107, true), some 111, .bin .eql (.t 109) (.t 110)⟩, ⟨none, some 112, .pick (.t 107) (.t 111) (.c (.lit (.bool false)))⟩, ⟨none, some 113, .copy (.t 112)⟩, ⟨some (113, true), some 114, .call 18 []⟩, ⟨none, some 115, .pick (.t 113) (.t 114) (.c (.lit (.bool false)))⟩, ⟨none, some 6, .copy (.t 115)⟩] [] []) .ret) .skip)) (.seq (.seq (.reg [⟨none, some 116, .copy (.t 7)⟩, ⟨none, some 117, .call 35 [(.t 116)]⟩, ⟨none, some 118, .bin .neq (.t 117) (.c (.lit (.int .i64 0)))⟩] [] []) (.cond (.t 118) (.seq (.reg [⟨none, some 6, .copy (.c (.lit (.bool false)))⟩] [] []) .ret) .skip)) (.seq (.reg [⟨none, some 120, .copy (.t 7)⟩, ⟨none, some 121, .call 32 [(.t 120)]⟩, ⟨none, some 119, .copy (.t 121)⟩, ⟨none, some 122, .extract (.t 119) 0⟩, ⟨none, some 123, .extract (.t 119) 1⟩, ⟨none, some 17, .copy (.t 122)⟩, ⟨none, some 18, .copy (.t 123)⟩] [] []) (.seq (.reg [⟨none, some 124, .copy (.t 8)⟩, ⟨none, some 125, .call 24 [(.t 124)]⟩, ⟨none, some 19, .copy (.t 125)⟩] [] []) (.seq (.seq (.reg [⟨none, some 126, .copy (.t 19)⟩, ⟨none, some 127, .len (.t 126)⟩, ⟨none, some 128, .copy (.t 13)⟩, ⟨none, some 129, .bin .leq (.t 127) (.t 128)⟩, ⟨none, some 130, .copy (.t 129)⟩, ⟨some (130, false), some 131, .copy (.t 19)⟩, ⟨some (130, false), some 132, .copy (.t 13)⟩, ⟨some (130, false), some 133, .slice 1 (.t 131) none (some (.t 132)) none⟩, ⟨some (130, false), some 134, .copy (.t 14)⟩, ⟨some (130, false), some 135, .call 24 [(.t 134)]⟩, ⟨some (130, false), some 136, .call 23 [(.t 133), (.t 135)]⟩, ⟨some (130, false), some 137, .un .not (.t 136)⟩, ⟨none, some 138, .pick (.t 130) (.c (.lit (.bool true))) (.t 137)⟩, ⟨none, some 139, .copy (.t 138)⟩, ⟨some (139, false), some 140, .copy (.t 14)⟩, ⟨some (139, false), some 141, .copy (.t 19)⟩, ⟨some (139, false), some 142, .copy (.t 13)⟩, ⟨some (139, false), some 143, .slice 1 (.t 141) (some (.t 142)) none none⟩, ⟨some (139, false), some 144, .call 40 [(.t 140), (.t 143)]⟩, ⟨some (139, false), some 145, .bin .neq (.t 144) (.c (.lit (.int .i64 0)))⟩, ⟨none, some 146, .pick (.t 139) (.c (.lit (.bool true))) (.t 145)⟩] [] []) (.cond (.t 146) (.seq (.reg [⟨none, some 6, .copy (.c (.lit (.bool false)))⟩] [] []) .ret) .skip)) (.seq (.seq (.reg [⟨none, some 147, .fieldA 0 (.t 5)⟩, ⟨none, some 148, .load false 1 (.t 147)⟩, ⟨none, some 149, .bin .lss (.t 148) (.c (.lit (.int .i64 0)))⟩, ⟨none, some 150, .copy (.t 149)⟩, ⟨some (150, false), some 151, .fieldA 0 (.t 5)⟩, ⟨some (150, false), some 152, .load false 1 (.t 151)⟩, ⟨some (150, false), some 153, .copy (.t 19)⟩, ⟨some (150, false), some 154, .len (.t 153)⟩, ⟨some (150, false), some 155, .copy (.t 13)⟩, ⟨some (150, false), some 156, .bin .sub (.t 154) (.t 155)⟩, ⟨some (150, false), some 157, .bin .gtr (.t 152) (.t 156)⟩, ⟨none, some 158, .pick (.t 150) (.c (.lit (.bool true))) (.t 157)⟩] [] []) (.cond (.t 158) (.seq (.reg [⟨none, some 159, .copy (.t 14)⟩, ⟨none, some 160, .fieldA 0 (.t 5)⟩, ⟨none, some 161, .load false 1 (.t 160)⟩, ⟨none, some 162, .call 41 [(.t 159), (.t 161), (.c nilS)]⟩, ⟨none, some 163, .bin .eql (.t 162) (.c (.lit (.int .i64 10)))⟩, ⟨none, some 164, .copy (.t 163)⟩, ⟨some (164, true), some 165, .call 18 []⟩, ⟨none, some 166, .pick (.t 164) (.t 165) (.c (.lit (.bool false)))⟩, ⟨none, some 6, .copy (.t 166)⟩] [] []) .ret) .skip)) (.seq (.reg [⟨none, some 20, .copy (.c (.lit (.int .i64 1)))⟩] [] []) (.seq (.seq (.reg [⟨none, some 167, .copy (.t 19)⟩, ⟨none, some 168, .copy (.t 13)⟩, ⟨none, some 169, .idxS 1 (.t 167) (.t 168)⟩, ⟨none, some 170, .load false 1 (.t 169)⟩, ⟨none, some 171, .bin .gtr (.t 170) (.c (.lit (.int .u8 127)))⟩] [] []) (.cond (.t 171) (.reg [⟨none, some 20, .copy (.c (.lit (.int .i64 2)))⟩] [] []) .skip)) (.seq (.reg [⟨none, some 172, .copy (.t 19)⟩, ⟨none, some 173, .len (.t 172)⟩, ⟨none, some 174, .copy (.t 13)⟩, ⟨none, some 175, .bin .sub (.t 173) (.t 174)⟩, ⟨none, some 176, .make true 1 1 [(.lit (.int .u8 0))] (.t 175) (.t 175)⟩, ⟨none, some 21, .copy (.t 176)⟩] [] []) (.seq (.reg [⟨none, some 22, .copy (.c (.lit (.bool false)))⟩] [] []) (.seq (.seq (.reg [⟨none, some 177, .fieldA 0 (.t 5)⟩, ⟨none, some 178, .load false 1 (.t 177)⟩, ⟨none, some 179, .copy (.t 20)⟩, ⟨none, some 180, .bin .gtr (.t 178) (.t 179)⟩] [] []) (.cond (.t 180) (.seq (.reg [⟨none, some 181, .fieldA 0 (.t 5)⟩, ⟨none, some 182, .load false 1 (.t 181)⟩, ⟨none, some 183, .copy (.t 20)⟩, ⟨none, some 184, .bin .sub (.t 182) (.t 183)⟩, ⟨none, some 185, .bin .mul (.c (.lit (.int .i64 8))) (.t 184)⟩, ⟨none, some 23, .copy (.t 185)⟩] [] []) (.seq (.reg [⟨none, some 186, .fieldA 1 (.t 5)⟩, ⟨none, some 187, .load false 1 (.t 186)⟩, ⟨none, some 188, .copy (.t 23)⟩, ⟨none, some 189, .bin .rem (.t 187) (.t 188)⟩, ⟨none, some 190, .copy (.t 23)⟩, ⟨none, some 191, .bin .add (.t 189) (.t 190)⟩, ⟨none, some 192, .copy (.t 23)⟩, ⟨none, some 193, .bin .rem (.t 191) (.t 192)⟩, ⟨none, some 24, .copy (.t 193)⟩] [] []) (.seq (.reg [⟨none, some 25, .copy (.c (.lit (.int .i64 0)))⟩] [] []) (.block 2 (.loop [1000000, 5, 7, 10, 12, 13, 14, 17, 19, 20, 21, 22, 23, 24, 25] L5_1))))) .skip)) (.seq (.seq (.reg [⟨none, some 231, .copy (.t 14)⟩, ⟨none, some 232, .fieldA 0 (.t 5)⟩, ⟨none, some 233, .load false 1 (.t 232)⟩, ⟨none, some 234, .copy (.t 21)⟩, ⟨none, some 235, .call 41 [(.t 231), (.t 233), (.t 234)]⟩, ⟨none, some 236, .bin .neq (.t 235) (.c (.lit (.int .i64 0)))⟩] [] []) (.cond (.t 236) (.seq (.reg [⟨none, some 6, .copy (.c (.lit (.bool false)))⟩] [] []) .ret) .skip)) (.seq (.reg [⟨none, some 238, .copy (.t 14)⟩, ⟨none, some 239, .call 42 [(.t 238)]⟩, ⟨none, some 237, .copy (.t 239)⟩, ⟨none, some 240, .extract (.t 237) 0⟩, ⟨none, some 241, .extract (.t 237) 1⟩, ⟨none, some 242, .extract (.t 237) 2⟩, ⟨none, some 27, .copy (.t 240)⟩, ⟨none, some 28, .copy (.t 241)⟩, ⟨none, some 29, .copy (.t 242)⟩] [] []) (.seq (.reg [⟨none, some 244, .copy (.t 14)⟩, ⟨none, some 245, .call 37 [(.t 244)]⟩, ⟨none, some 243, .copy (.t 245)⟩, ⟨none, some 246, .extract (.t 243) 0⟩, ⟨none, some 247, .extract (.t 243) 1⟩, ⟨none, some 30, .copy (.t 246)⟩, ⟨none, some 31, .copy (.t 247)⟩] [] []) (.seq (.seq (.reg [⟨none, some 248, .copy (.t 29)⟩, ⟨none, some 249, .bin .neq (.t 248) (.c (.lit (.int .i64 25)))⟩, ⟨none, some 250, .copy (.t 249)⟩, ⟨some (250, false), some 251, .copy (.t 30)⟩, ⟨some (250, false), some 252, .isNil false .ptr (.t 251)⟩, ⟨none, some 253, .pick (.t 250) (.c (.lit (.bool true))) (.t 252)⟩, ⟨none, some 254, .copy (.t 253)⟩, ⟨some (254, false), some 255, .copy (.t 31)⟩, ⟨some (254, false), some 256, .bin .neq (.t 255) (.c (.lit (.int .i64 0)))⟩, ⟨none, some 257, .pick (.t 254) (.c (.lit (.bool true))) (.t 256)⟩] [] []) (.cond (.t 257) (.seq (.reg [⟨none, some 6, .copy (.c (.lit (.bool false)))⟩] [] []) .ret) .skip)) (.seq (.reg [⟨none, some 259, .copy (.t 30)⟩, ⟨none, some 260, .call 42 [(.t 259)]⟩, ⟨none, some 258, .copy (.t 260)⟩, ⟨none, some 261, .extract (.t 258) 0⟩, ⟨none, some 262, .extract (.t 258) 1⟩, ⟨none, some 263, .extract (.t 258) 2⟩, ⟨none, some 32, .copy (.t 261)⟩, ⟨none, some 33, .copy (.t 262)⟩, ⟨none, some 34, .copy (.t 263)⟩] [] []) (.seq (.seq (.reg [⟨none, some 264, .copy (.t 32)⟩, ⟨none, some 265, .isNil false .ptr (.t 264)⟩, ⟨none, some 266, .copy (.t 265)⟩, ⟨some (266, false), some 267, .copy (.t 34)⟩, ⟨some (266, false), some 268, .bin .neq (.t 267) (.c (.lit (.int .i64 0)))⟩, ⟨none, some 269, .pick (.t 266) (.c (.lit (.bool true))) (.t 268)⟩] [] []) (.cond (.t 269) (.seq (.reg [⟨none, some 6, .copy (.c (.lit (.bool false)))⟩] [] []) .ret) .skip)) (.seq (.reg [⟨none, some 271, .copy (.t 32)⟩, ⟨none, some 272, .call 32 [(.t 271)]⟩, ⟨none, some 270, .copy (.t 272)⟩, ⟨none, some 273, .extract (.t 270) 0⟩, ⟨none, some 274, .extract (.t 270) 1⟩, ⟨none, some 35, .copy (.t 273)⟩, ⟨none, some 36, .copy (.t 274)⟩] [] []) (.seq (.seq (.reg [⟨none, some 275, .fieldA 0 (.t 5)⟩, ⟨none, some 276, .load false 1 (.t 275)⟩, ⟨none, some 277, .copy (.t 19)⟩, ⟨none, some 278, .len (.t 277)⟩, ⟨none, some 279, .copy (.t 13)⟩, ⟨none, some 280, .bin .sub (.t 278) (.t 279)⟩, ⟨none, some 281, .bin .eql (.t 276) (.t 280)⟩, ⟨none, some 282, .copy (.t 281)⟩, ⟨some (282, true), some 283, .copy (.t 22)⟩, ⟨some (282, true), some 284, .un .not (.t 283)⟩, ⟨none, some 285, .pick (.t 282) (.t 284) (.c (.lit (.bool false)))⟩] [] []) (.cond (.t 285) (.seq (.reg [⟨none, some 286, .copy (.t 33)⟩, ⟨none, some 287, .bin .eql (.t 286) (.c (.lit (.int .i64 0)))⟩, ⟨none, some 288, .copy (.t 287)⟩, ⟨some (288, true), some 289, .copy (.t 35)⟩, ⟨some (288, true), some 290, .copy (.t 17)⟩, ⟨some (288, true), some 291, .call 33 [(.t 289), (.t 290)]⟩, ⟨none, some 292, .pick (.t 288) (.t 291) (.c (.lit (.bool false)))⟩, ⟨none, some 293, .copy (.t 292)⟩, ⟨some (293, true), some 294, .copy (.t 32)⟩, ⟨some (293, true), some 295, .call 26 [(.t 294)]⟩, ⟨some (293, true), some 296, .copy (.t 7)⟩, ⟨some (293, true), some 297, .call 26 [(.t 296)]⟩, ⟨some (293, true), some 298, .bin .eql (.t 295) (.t 297)⟩, ⟨none, some 299, .pick (.t 293) (.t 298) (.c (.lit (.bool false)))⟩, ⟨none, some 300, .copy (.t 299)⟩, ⟨some (300, true), some 301, .call 18 []⟩, ⟨none, some 302, .pick (.t 300) (.t 301) (.c (.lit (.bool false)))⟩, ⟨none, some 6, .copy (.t 302)⟩] [] []) .ret) .skip)) (.seq (.reg [⟨none, some 303, .copy (.t 33)⟩, ⟨none, some 304, .fieldA 0 (.t 5)⟩, ⟨none, some 305, .load false 1 (.t 304)⟩, ⟨none, some 306, .bin .eql (.t 303) (.t 305)⟩, ⟨none, some 307, .copy (.t 306)⟩, ⟨some (307, true), some 308, .copy (.t 35)⟩, ⟨some (307, true), some 309, .copy (.t 10)⟩, ⟨some (307, true), some 310, .call 33 [(.t 308), (.t 309)]⟩, ⟨none, some 311, .pick (.t 307) (.t 310) (.c (.lit (.bool false)))⟩, ⟨none, some 312, .copy (.t 311)⟩, ⟨some (312, true), some 313, .copy (.t 32)⟩, ⟨some (312, true), some 314, .call 26 [(.t 313)]⟩, ⟨some (312, true), some 315, .copy (.t 12)⟩, ⟨some (312, true), some 316, .bin .eql (.t 314) (.t 315)⟩, ⟨none, some 317, .pick (.t 312) (.t 316) (.c (.lit (.bool false)))⟩, ⟨none, some 318, .copy (.t 317)⟩, ⟨some (318, true), some 319, .copy (.t 32)⟩, ⟨some (318, true), some 320, .call 29 [(.t 319)]⟩, ⟨some (318, true), some 321, .copy (.t 12)⟩, ⟨some (318, true), some 322, .bin .eql (.t 320) (.t 321)⟩, ⟨none, some 323, .pick (.t 318) (.t 322) (.c (.lit (.bool false)))⟩, ⟨none, some 324, .copy (.t 323)⟩, ⟨some (324, true), some 325, .copy (.t 30)⟩, ⟨some (324, true), some 326, .call 36 [(.t 325)]⟩, ⟨some (324, true), some 327, .copy (.t 13)⟩, ⟨some (324, true), some 328, .bin .eql (.t 326) (.t 327)⟩, ⟨none, some 329, .pick (.t 324) (.t 328) (.c (.lit (.bool false)))⟩, ⟨none, some 330, .copy (.t 329)⟩, ⟨some (330, true), some 331, .call 18 []⟩, ⟨none, some 332, .pick (.t 330) (.t 331) (.c (.lit (.bool false)))⟩, ⟨none, some 6, .copy (.t 332)⟩] [] []) .ret)))))))))))))))))))))))))))))))), [.tmp 6]⟩
/- magnetolaw17.Few -/
def L17_1 : ICode := (.seq (.seq (.reg [⟨none, some 22, .copy (.t 4)⟩, ⟨none, some 23, .copy (.t 0)⟩, ⟨none, some 24, .copy (.t 3)⟩, ⟨none, some 25, .idxS 1 (.t 23) (.t 24)⟩, ⟨none, some 26, .fieldA 0 (.t 25)⟩, ⟨none, some 27, .load false 1 (.t 26)⟩, ⟨none, some 28, .len (.t 27)⟩, ⟨none, some 29, .bin .lss (.t 22) (.t 28)⟩] [] []) (.cond (.t 29) .skip (.exit 2))) (.seq (.block 3 (.seq (.reg [⟨none, some 32, .copy (.t 0)⟩, ⟨none, some 33, .copy (.t 3)⟩, ⟨none, some 34, .idxS 1 (.t 32) (.t 33)⟩, ⟨none, some 35, .fieldA 0 (.t 34)⟩, ⟨none, some 36, .load false 1 (.t 35)⟩, ⟨none, some 37, .copy (.t 4)⟩, ⟨none, some 38, .idxS 3 (.t 36) (.t 37)⟩, ⟨none, some 39, .fieldA 0 (.t 38)⟩, ⟨none, some 40, .load false 1 (.t 39)⟩, ⟨none, some 41, .bin .gtr (.t 40) (.c (.lit (.int .i64 1000000)))⟩] [] []) (.cond (.t 41) (.seq (.reg [⟨none, some 2, .copy (.c (.lit (.bool false)))⟩] [] []) .ret) .skip))) (.reg [⟨none, some 30, .copy (.t 4)⟩, ⟨none, some 31, .bin .add (.t 30) (.c (.lit (.int .i64 1)))⟩, ⟨none, some 4, .copy (.t 31)⟩] [] [])))
def L17_0 : ICode := (.seq (.seq (.reg [⟨none, some 5, .copy (.t 3)⟩, ⟨none, some 6, .copy (.t 0)⟩, ⟨none, some 7, .len (.t 6)⟩, ⟨none, some 8, .bin .lss (.t 5) (.t 7)⟩, ⟨none, some 9, .copy (.t 8)⟩, ⟨some (9, true), some 10, .copy (.t 3)⟩, ⟨some (9, true), some 11, .bin .lss (.t 10) (.c (.lit (.int .i64 41)))⟩, ⟨none, some 12, .pick (.t 9) (.t 11) (.c (.lit (.bool false)))⟩] [] []) (.cond (.t 12) .skip (.exit 0))) (.seq (.block 1 (.seq (.seq (.reg [⟨none, some 15, .copy (.t 0)⟩, ⟨none, some 16, .copy (.t 3)⟩, ⟨none, some 17, .idxS 1 (.t 15) (.t 16)⟩, ⟨none, some 18, .fieldA 0 (.t 17)⟩, ⟨none, some 19, .load false 1 (.t 18)⟩, ⟨none, some 20, .len (.t 19)⟩, ⟨none, some 21, .bin .gtr (.t 20) (.c (.lit (.int .i64 12)))⟩] [] []) (.cond (.t 21) (.seq (.reg [⟨none, some 2, .copy (.c (.lit (.bool false)))⟩] [] []) .ret) .skip)) (.seq (.reg [⟨none, some 4, .copy (.c (.lit (.int .i64 0)))⟩] [] []) (.block 2 (.loop [1000000, 0, 3, 4] L17_1))))) (.reg [⟨none, some 13, .copy (.t 3)⟩, ⟨none, some 14, .bin .add (.t 13) (.c (.lit (.int .i64 1)))⟩, ⟨none, some 3, .copy (.t 14)⟩] [] [])))
def ir17 : IFn := ⟨(.seq (.reg [⟨none, some 2, .copy (.c (.lit (.bool false)))⟩] [] []) (.seq (.seq (.reg [⟨none, some 3, .copy (.c (.lit (.int .i64 0)))⟩] [] []) (.block 0 (.loop [1000000, 0, 3] L17_0))) (.seq (.reg [⟨none, some 42, .copy (.t 0)⟩, ⟨none, some 43, .len (.t 42)⟩, ⟨none, some 44, .bin .leq (.t 43) (.c (.lit (.int .i64 40)))⟩, ⟨none, some 2, .copy (.t 44)⟩] [] []) .ret))), [.tmp 2]⟩
/- magnetolaw17.awake -/
def ir18 : IFn := ⟨(.seq (.reg [⟨none, some 0, .copy (.c (.lit (.bool false)))⟩] [] []) (.seq (.reg [⟨none, some 10, .call 19 [(.c (.lit (.int .i64 1000)))]⟩, ⟨none, some 9, .copy (.t 10)⟩, ⟨none, some 11, .extract (.t 9) 0⟩, ⟨none, some 12, .extract (.t 9) 1⟩, ⟨none, some 1, .copy (.t 11)⟩, ⟨none, some 2, .copy (.t 12)⟩] [] []) (.seq (.seq (.reg [⟨none, some 13, .copy (.t 1)⟩, ⟨none, some 14, .isNil false .ptr (.t 13)⟩] [] []) (.cond (.t 14) (.seq (.reg [⟨none, some 0, .copy (.c (.lit (.bool false)))⟩] [] []) .ret) .skip)) (.seq (.reg [⟨none, some 3, .copy (.c (.lit (.int .u32 4294967295)))⟩] [] []) (.seq (.seq (.reg [⟨none, some 15, .copy (.t 1)⟩, ⟨none, some 16, .copy (.t 3)⟩, ⟨none, some 17, .build [(.lit (.int .i64 0)), (.lit (.int .i64 0)), (.lit (.int .u32 0))] [(0, 1, (.c (.lit (.int .i64 2)))), (1, 1, (.c (.lit (.int .i64 1)))), (2, 1, (.t 16))]⟩, ⟨none, some 18, .mkSlice true 3 [(.lit (.int .i64 0)), (.lit (.int .i64 0)), (.lit (.int .u32 0))] 1 [(0, (.t 17))]⟩, ⟨none, some 19, .call 38 [(.t 15), (.t 18)]⟩, ⟨none, some 20, .bin .neq (.t 19) (.c (.lit (.int .i64 0)))⟩, ⟨none, some 21, .copy (.t 20)⟩, ⟨some (21, false), some 22, .copy (.t 1)⟩, ⟨some (21, false), some 23, .call 35 [(.t 22)]⟩, ⟨some (21, false), some 24, .bin .neq (.t 23) (.c (.lit (.int .i64 0)))⟩, ⟨none, some 25, .pick (.t 21) (.c (.lit (.bool true))) (.t 24)⟩, ⟨none, some 26, .copy (.t 25)⟩, ⟨some (26, false), some 27, .copy (.t 1)⟩, ⟨some (26, false), some 28, .copy (.t 3)⟩, ⟨some (26, false), some 29, .build [(.lit (.int .i64 0)), (.lit (.int .i64 0)), (.lit (.int .u32 0))] [(0, 1, (.c (.lit (.int .i64 3)))), (1, 1, (.c (.lit (.int .i64 1)))), (2, 1, (.t 28))]⟩, ⟨some (26, false), some 30, .mkSlice true 3 [(.lit (.int .i64 0)), (.lit (.int .i64 0)), (.lit (.int .u32 0))] 1 [(0, (.t 29))]⟩, ⟨some (26, false), some 31, .call 38 [(.t 27), (.t 30)]⟩, ⟨some (26, false), some 32, .bin .neq (.t 31) (.c (.lit (.int .i64 0)))⟩, ⟨none, some 33, .pick (.t 26) (.c (.lit (.bool true))) (.t 32)⟩, ⟨none, some 34, .copy (.t 33)⟩, ⟨some (34, false), some 35, .copy (.t 1)⟩, ⟨some (34, false), some 36, .call 35 [(.t 35)]⟩, ⟨some (34, false), some 37, .bin .neq (.t 36) (.c (.lit (.int .i64 0)))⟩, ⟨none, some 38, .pick (.t 34) (.c (.lit (.bool true))) (.t 37)⟩] [] []) (.cond (.t 38) (.seq (.reg [⟨none, some 0, .copy (.c (.lit (.bool false)))⟩] [] []) .ret) .skip)) (.seq (.reg [⟨none, some 40, .copy (.t 1)⟩, ⟨none, some 41, .call 32 [(.t 40)]⟩, ⟨none, some 39, .copy (.t 41)⟩, ⟨none, some 42, .extract (.t 39) 0⟩, ⟨none, some 43, .extract (.t 39) 1⟩, ⟨none, some 4, .copy (.t 42)⟩, ⟨none, some 5, .copy (.t 43)⟩] [] []) (.seq (.reg [⟨none, some 44, .copy (.t 2)⟩, ⟨none, some 45, .call 24 [(.t 44)]⟩, ⟨none, some 6, .copy (.t 45)⟩] [] []) (.seq (.seq (.reg [⟨none, some 46, .copy (.t 6)⟩, ⟨none, some 47, .len (.t 46)⟩, ⟨none, some 48, .bin .lss (.t 47) (.c (.lit (.int .i64 1)))⟩] [] []) (.cond (.t 48) (.seq (.reg [⟨none, some 0, .copy (.c (.lit (.bool false)))⟩] [] []) .ret) .skip)) (.seq (.reg [⟨none, some 50, .copy (.t 6)⟩, ⟨none, some 51, .copy (.t 6)⟩, ⟨none, some 52, .len (.t 51)⟩, ⟨none, some 53, .bin .sub (.t 52) (.c (.lit (.int .i64 1)))⟩, ⟨none, some 54, .slice 1 (.t 50) none (some (.t 53)) none⟩, ⟨none, some 55, .call 63 [(.t 54)]⟩, ⟨none, some 49, .copy (.t 55)⟩, ⟨none, some 56, .extract (.t 49) 0⟩, ⟨none, some 57, .extract (.t 49) 1⟩, ⟨none, some 7, .copy (.t 56)⟩, ⟨none, some 8, .copy (.t 57)⟩] [] []) (.seq (.reg [⟨none, some 58, .copy (.t 1)⟩, ⟨none, some 59, .call 31 [(.t 58)]⟩, ⟨none, some 60, .bin .eql (.t 59) (.c (.lit (.int .i64 2)))⟩, ⟨none, some 61, .copy (.t 60)⟩, ⟨some (61, true), some 62, .copy (.t 5)⟩, ⟨some (61, true), some 63, .bin .eql (.t 62) (.c (.lit (.int .i64 0)))⟩, ⟨none, some 64, .pick (.t 61) (.t 63) (.c (.lit (.bool false)))⟩, ⟨none, some 65, .copy (.t 64)⟩, ⟨some (65, true), some 66, .copy (.t 4)⟩, ⟨some (65, true), some 67, .copy (.t 3)⟩, ⟨some (65, true), some 68, .build [(.lit (.int .i64 0)), (.lit (.int .i64 0)), (.lit (.int .u32 0))] [(0, 1, (.c (.lit (.int .i64 5)))), (1, 1, (.c (.lit (.int .i64 1)))), (2, 1, (.t 67))]⟩, ⟨some (65, true), some 69, .mkSlice true 3 [(.lit (.int .i64 0)), (.lit (.int .i64 0)), (.lit (.int .u32 0))] 1 [(0, (.t 68))]⟩, ⟨some (65, true), some 70, .call 33 [(.t 66), (.t 69)]⟩, ⟨none, some 71, .pick (.t 65) (.t 70) (.c (.lit (.bool false)))⟩, ⟨none, some 72, .copy (.t 71)⟩, ⟨some (72, true), some 73, .copy (.t 7)⟩, ⟨some (72, true), some 74, .len (.t 73)⟩, ⟨some (72, true), some 75, .bin .eql (.t 74) (.c (.lit (.int .i64 1)))⟩, ⟨none, some 76, .pick (.t 72) (.t 75) (.c (.lit (.bool false)))⟩, ⟨none, some 0, .copy (.t 76)⟩] [] []) .ret)))))))))), [.tmp 0]⟩
/- magnetolaw17.Made -/
def ir19 : IFn := ⟨(.seq (.reg [⟨none, some 2, .copy (.c (.lit (.pointer none)))⟩, ⟨none, some 3, .copy (.c (.lit (.pointer none)))⟩] [] []) (.seq (.reg [⟨none, some 10, .copy (.t 0)⟩, ⟨none, some 11, .call 64 [(.t 10)]⟩, ⟨none, some 9, .copy (.t 11)⟩, ⟨none, some 12, .extract (.t 9) 0⟩, ⟨none, some 13, .extract (.t 9) 1⟩, ⟨none, some 4, .copy (.t 12)⟩, ⟨none, some 5, .copy (.t 13)⟩] [] []) (.seq (.seq (.reg [⟨none, some 14, .copy (.t 5)⟩, ⟨none, some 15, .bin .neq (.t 14) (.c (.lit (.int .i64 0)))⟩, ⟨none, some 16, .copy (.t 15)⟩, ⟨some (16, false), some 17, .copy (.t 4)⟩, ⟨some (16, false), some 18, .isNil false .ptr (.t 17)⟩, ⟨none, some 19, .pick (.t 16) (.c (.lit (.bool true))) (.t 18)⟩] [] []) (.cond (.t 19) (.seq (.reg [⟨none, some 2, .copy (.c (.lit (.pointer none)))⟩, ⟨none, some 3, .copy (.c (.lit (.pointer none)))⟩] [] []) .ret) .skip)) (.seq (.reg [⟨none, some 21, .copy (.t 4)⟩, ⟨none, some 22, .call 42 [(.t 21)]⟩, ⟨none, some 20, .copy (.t 22)⟩, ⟨none, some 23, .extract (.t 20) 0⟩, ⟨none, some 24, .extract (.t 20) 1⟩, ⟨none, some 25, .extract (.t 20) 2⟩, ⟨none, some 6, .copy (.t 23)⟩, ⟨none, some 7, .copy (.t 24)⟩, ⟨none, some 8, .copy (.t 25)⟩] [] []) (.seq (.seq (.reg [⟨none, some 26, .copy (.t 8)⟩, ⟨none, some 27, .bin .neq (.t 26) (.c (.lit (.int .i64 0)))⟩, ⟨none, some 28, .copy (.t 27)⟩, ⟨some (28, false), some 29, .copy (.t 7)⟩, ⟨some (28, false), some 30, .bin .neq (.t 29) (.c (.lit (.int .i64 0)))⟩, ⟨none, some 31, .pick (.t 28) (.c (.lit (.bool true))) (.t 30)⟩] [] []) (.cond (.t 31) (.seq (.reg [⟨none, some 2, .copy (.c (.lit (.pointer none)))⟩, ⟨none, some 3, .copy (.c (.lit (.pointer none)))⟩] [] []) .ret) .skip)) (.seq (.reg [⟨none, some 32, .copy (.t 6)⟩, ⟨none, some 33, .copy (.t 4)⟩, ⟨none, some 2, .copy (.t 32)⟩, ⟨none, some 3, .copy (.t 33)⟩] [] []) .ret)))))), [.tmp 2, .tmp 3]⟩
/- magnetolaw17.does -/
def ir22 : IFn := ⟨(.seq (.reg [⟨none, some 3, .box 1 (.t 1)⟩, ⟨none, some 4, .copy (.c (.lit (.int .i64 0)))⟩] [] []) (.seq (.seq (.reg [⟨none, some 5, .fieldA 0 (.t 3)⟩, ⟨none, some 6, .load false 1 (.t 5)⟩, ⟨none, some 7, .len (.t 6)⟩, ⟨none, some 8, .bin .eql (.t 7) (.c (.lit (.int .i64 0)))⟩] [] []) (.cond (.t 8) (.seq (.reg [⟨none, some 9, .copy (.t 0)⟩, ⟨none, some 10, .call 35 [(.t 9)]⟩, ⟨none, some 4, .copy (.t 10)⟩] [] []) .ret) .skip)) (.seq (.reg [⟨none, some 11, .copy (.t 0)⟩, ⟨none, some 12, .fieldA 0 (.t 3)⟩, ⟨none, some 13, .load false 1 (.t 12)⟩, ⟨none, some 14, .call 38 [(.t 11), (.t 13)]⟩, ⟨none, some 4, .copy (.t 14)⟩] [] []) .ret))), [.tmp 4]⟩
/- magnetolaw13.Same -/
def L23_0 : ICode := (.seq (.seq (.reg [⟨none, some 11, .copy (.t 5)⟩, ⟨none, some 12, .copy (.t 0)⟩, ⟨none, some 13, .len (.t 12)⟩, ⟨none, some 14, .bin .lss (.t 11) (.t 13)⟩] [] []) (.cond (.t 14) .skip (.exit 0))) (.seq (.block 1 (.seq (.reg [⟨none, some 17, .copy (.t 0)⟩, ⟨none, some 18, .copy (.t 5)⟩, ⟨none, some 19, .idxS 1 (.t 17) (.t 18)⟩, ⟨none, some 20, .load false 1 (.t 19)⟩, ⟨none, some 21, .copy (.t 1)⟩, ⟨none, some 22, .copy (.t 5)⟩, ⟨none, some 23, .idxS 1 (.t 21) (.t 22)⟩, ⟨none, some 24, .load false 1 (.t 23)⟩, ⟨none, some 25, .bin .neq (.t 20) (.t 24)⟩] [] []) (.cond (.t 25) (.seq (.reg [⟨none, some 4, .copy (.c (.lit (.bool false)))⟩] [] []) .ret) .skip))) (.reg [⟨none, some 15, .copy (.t 5)⟩, ⟨none, some 16, .bin .add (.t 15) (.c (.lit (.int .i64 1)))⟩, ⟨none, some 5, .copy (.t 16)⟩] [] [])))
def ir23 : IFn := ⟨(.seq (.reg [⟨none, some 4, .copy (.c (.lit (.bool false)))⟩] [] []) (.seq (.seq (.reg [⟨none, some 6, .copy (.t 0)⟩, ⟨none, some 7, .len (.t 6)⟩, ⟨none, some 8, .copy (.t 1)⟩, ⟨none, some 9, .len (.t 8)⟩, ⟨none, some 10, .bin .neq (.t 7) (.t 9)⟩] [] []) (.cond (.t 10) (.seq (.reg [⟨none, some 4, .copy (.c (.lit (.bool false)))⟩] [] []) .ret) .skip)) (.seq (.seq (.reg [⟨none, some 5, .copy (.c (.lit (.int .i64 0)))⟩] [] []) (.block 0 (.loop [0, 1, 5] L23_0))) (.seq (.reg [⟨none, some 4, .copy (.c (.lit (.bool true)))⟩] [] []) .ret)))), [.tmp 4]⟩
/- file.File).Bytes -/
def ir24 : IFn := ⟨(.seq (.reg [⟨none, some 2, .copy (.c nilS)⟩] [] []) (.seq (.seq (.reg [⟨none, some 3, .copy (.t 0)⟩, ⟨none, some 4, .isNil false .ptr (.t 3)⟩] [] []) (.cond (.t 4) (.seq (.reg [⟨none, some 2, .copy (.c nilS)⟩] [] []) .ret) .skip)) (.seq (.reg [⟨none, some 5, .copy (.t 0)⟩, ⟨none, some 6, .nilCheck (.t 5)⟩, ⟨none, some 7, .fieldA 0 (.t 6)⟩, ⟨none, some 8, .fieldA 0 (.t 7)⟩, ⟨none, some 9, .load false 1 (.t 8)⟩, ⟨none, some 10, .callU 70 [(.t 9)]⟩, ⟨none, some 2, .copy (.t 10)⟩] [] []) .ret))), [.tmp 2]⟩
/- log.Log).Ticks -/
def ir26 : IFn := ⟨(.seq (.reg [⟨none, some 2, .copy (.c (.lit (.int .i64 0)))⟩] [] []) (.seq (.seq (.reg [⟨none, some 3, .copy (.t 0)⟩, ⟨none, some 4, .isNil false .ptr (.t 3)⟩] [] []) (.cond (.t 4) (.seq (.reg [⟨none, some 2, .copy (.c (.lit (.int .i64 0)))⟩] [] []) .ret) .skip)) (.seq (.reg [⟨none, some 5, .copy (.t 0)⟩, ⟨none, some 6, .call 71 [(.t 5)]⟩, ⟨none, some 7, .fieldV false 1 1 (.t 6)⟩, ⟨none, some 8, .copy (.t 0)⟩, ⟨none, some 9, .call 72 [(.t 8)]⟩, ⟨none, some 10, .bin .add (.t 7) (.t 9)⟩, ⟨none, some 2, .copy (.t 10)⟩] [] []) .ret))), [.tmp 2]⟩
/- log.Log).Sure -/
def L29_0 : ICode := (.seq (.reg [⟨none, some 14, .bin .lss (.t 13) (.t 12)⟩] [] []) (.seq (.cond (.t 14) .skip (.exit 0)) (.seq (.block 1 (.seq (.reg [⟨none, some 15, .idxS 2 (.t 11) (.t 13)⟩, ⟨none, some 16, .load true 2 (.t 15)⟩, ⟨none, some 5, .alloc [(.lit (.int .i64 0)), (.lit (.int .i64 0))]⟩, ⟨none, none, .store 2 (.t 5) (.t 16)⟩] [] []) (.seq (.reg [⟨none, some 17, .fieldA 0 (.t 5)⟩, ⟨none, some 18, .load false 1 (.t 17)⟩, ⟨none, some 19, .copy (.t 0)⟩, ⟨none, some 20, .nilCheck (.t 19)⟩, ⟨none, some 21, .fieldA 0 (.t 20)⟩, ⟨none, some 22, .load false 1 (.t 21)⟩, ⟨none, some 23, .call 73 [(.t 22)]⟩, ⟨none, some 24, .bin .leq (.t 18) (.t 23)⟩] [(1, 6)] []) (.cond (.t 24) (.reg [⟨none, some 25, .fieldA 1 (.t 5)⟩, ⟨none, some 26, .load false 1 (.t 25)⟩, ⟨none, some 3, .copy (.t 26)⟩] [] []) .skip)))) (.reg [⟨none, some 27, .bin .add (.t 13) (.c (.lit (.int .i64 1)))⟩, ⟨none, some 13, .copy (.t 27)⟩] [] []))))
def ir29 : IFn := ⟨(.seq (.reg [⟨none, some 2, .copy (.c (.lit (.int .i64 0)))⟩] [] []) (.seq (.seq (.reg [⟨none, some 6, .copy (.t 0)⟩, ⟨none, some 7, .isNil false .ptr (.t 6)⟩] [] []) (.cond (.t 7) (.seq (.reg [⟨none, some 2, .copy (.c (.lit (.int .i64 0)))⟩] [] []) .ret) .skip)) (.seq (.reg [⟨none, some 3, .copy (.c (.lit (.int .i64 0)))⟩] [] []) (.seq (.seq (.reg [⟨none, some 8, .copy (.t 0)⟩, ⟨none, some 9, .nilCheck (.t 8)⟩, ⟨none, some 10, .fieldA 2 (.t 9)⟩, ⟨none, some 11, .load false 1 (.t 10)⟩, ⟨none, some 12, .len (.t 11)⟩, ⟨none, some 13, .copy (.c (.lit (.int .i64 0)))⟩] [] []) (.block 0 (.loop [0, 3, 11, 12, 13] L29_0))) (.seq (.reg [⟨none, some 28, .copy (.t 3)⟩, ⟨none, some 2, .copy (.t 28)⟩] [] []) .ret))))), [.tmp 2]⟩
/- log.Log).Blocks -/
def ir31 : IFn := ⟨(.seq (.reg [⟨none, some 2, .copy (.c (.lit (.int .i64 0)))⟩] [] []) (.seq (.seq (.reg [⟨none, some 3, .copy (.t 0)⟩, ⟨none, some 4, .isNil false .ptr (.t 3)⟩] [] []) (.cond (.t 4) (.seq (.reg [⟨none, some 2, .copy (.c (.lit (.int .i64 0)))⟩] [] []) .ret) .skip)) (.seq (.reg [⟨none, some 5, .copy (.t 0)⟩, ⟨none, some 6, .nilCheck (.t 5)⟩, ⟨none, some 7, .fieldA 2 (.t 6)⟩, ⟨none, some 8, .load false 1 (.t 7)⟩, ⟨none, some 9, .len (.t 8)⟩, ⟨none, some 2, .copy (.t 9)⟩] [] []) .ret))), [.tmp 2]⟩
/- log.Log).Runs -/
def ir32 : IFn := ⟨(.seq (.reg [⟨none, some 2, .copy (.c nilS)⟩, ⟨none, some 3, .copy (.c (.lit (.int .i64 0)))⟩] [] []) (.seq (.seq (.reg [⟨none, some 4, .copy (.t 0)⟩, ⟨none, some 5, .isNil false .ptr (.t 4)⟩] [] []) (.cond (.t 5) (.seq (.reg [⟨none, some 2, .copy (.c nilS)⟩, ⟨none, some 3, .copy (.c (.lit (.int .i64 2)))⟩] [] []) .ret) .skip)) (.seq (.reg [⟨none, some 6, .copy (.t 0)⟩, ⟨none, some 7, .nilCheck (.t 6)⟩, ⟨none, some 8, .fieldA 1 (.t 7)⟩, ⟨none, some 9, .load false 1 (.t 8)⟩, ⟨none, some 10, .call 74 [(.t 9)]⟩, ⟨none, some 2, .copy (.t 10)⟩, ⟨none, some 3, .copy (.c (.lit (.int .i64 0)))⟩] [] []) .ret))), [.tmp 2, .tmp 3]⟩
/- magnetoref12.Same -/
def L33_0 : ICode := (.seq (.seq (.reg [⟨none, some 11, .copy (.t 5)⟩, ⟨none, some 12, .copy (.t 0)⟩, ⟨none, some 13, .len (.t 12)⟩, ⟨none, some 14, .bin .lss (.t 11) (.t 13)⟩] [] []) (.cond (.t 14) .skip (.exit 0))) (.seq (.block 1 (.seq (.reg [⟨none, some 17, .copy (.t 0)⟩, ⟨none, some 18, .copy (.t 5)⟩, ⟨none, some 19, .idxS 3 (.t 17) (.t 18)⟩, ⟨none, some 20, .load true 3 (.t 19)⟩, ⟨none, some 21, .copy (.t 1)⟩, ⟨none, some 22, .copy (.t 5)⟩, ⟨none, some 23, .idxS 3 (.t 21) (.t 22)⟩, ⟨none, some 24, .load true 3 (.t 23)⟩, ⟨none, some 25, .eqA true [(0, .i), (1, .i), (2, .i)] (.t 20) (.t 24)⟩] [] []) (.cond (.t 25) (.seq (.reg [⟨none, some 4, .copy (.c (.lit (.bool false)))⟩] [] []) .ret) .skip))) (.reg [⟨none, some 15, .copy (.t 5)⟩, ⟨none, some 16, .bin .add (.t 15) (.c (.lit (.int .i64 1)))⟩, ⟨none, some 5, .copy (.t 16)⟩] [] [])))
def ir33 : IFn := ⟨(.seq (.reg [⟨none, some 4, .copy (.c (.lit (.bool false)))⟩] [] []) (.seq (.seq (.reg [⟨none, some 6, .copy (.t 0)⟩, ⟨none, some 7, .len (.t 6)⟩, ⟨none, some 8, .copy (.t 1)⟩, ⟨none, some 9, .len (.t 8)⟩, ⟨none, some 10, .bin .neq (.t 7) (.t 9)⟩] [] []) (.cond (.t 10) (.seq (.reg [⟨none, some 4, .copy (.c (.lit (.bool false)))⟩] [] []) .ret) .skip)) (.seq (.seq (.reg [⟨none, some 5, .copy (.c (.lit (.int .i64 0)))⟩] [] []) (.block 0 (.loop [0, 1, 5] L33_0))) (.seq (.reg [⟨none, some 4, .copy (.c (.lit (.bool true)))⟩] [] []) .ret)))), [.tmp 4]⟩
/- log.Log).Flush -/
def ir35 : IFn := ⟨(.seq (.reg [⟨none, some 2, .copy (.c (.lit (.int .i64 0)))⟩] [] []) (.seq (.seq (.reg [⟨none, some 7, .copy (.t 0)⟩, ⟨none, some 8, .isNil false .ptr (.t 7)⟩] [] []) (.cond (.t 8) (.seq (.reg [⟨none, some 2, .copy (.c (.lit (.int .i64 2)))⟩] [] []) .ret) .skip)) (.seq (.seq (.reg [⟨none, some 9, .copy (.t 0)⟩, ⟨none, some 10, .nilCheck (.t 9)⟩, ⟨none, some 11, .fieldA 3 (.t 10)⟩, ⟨none, some 12, .load false 1 (.t 11)⟩, ⟨none, some 13, .len (.t 12)⟩, ⟨none, some 14, .bin .eql (.t 13) (.c (.lit (.int .i64 0)))⟩] [] []) (.cond (.t 14) (.seq (.reg [⟨none, some 15, .copy (.t 0)⟩, ⟨none, some 16, .nilCheck (.t 15)⟩, ⟨none, some 17, .fieldA 0 (.t 16)⟩, ⟨none, some 18, .load false 1 (.t 17)⟩, ⟨none, some 19, .call 75 [(.t 18)]⟩, ⟨none, some 2, .copy (.t 19)⟩] [] []) .ret) .skip)) (.seq (.reg [⟨none, some 20, .copy (.t 0)⟩, ⟨none, some 21, .call 71 [(.t 20)]⟩, ⟨none, some 3, .alloc [(.lit (.int .i64 0)), (.lit (.int .i64 0))]⟩, ⟨none, none, .store 2 (.t 3) (.t 21)⟩] [] []) (.seq (.reg [⟨none, some 23, .fieldA 1 (.t 3)⟩, ⟨none, some 24, .load false 1 (.t 23)⟩, ⟨none, some 25, .copy (.t 0)⟩, ⟨none, some 26, .nilCheck (.t 25)⟩, ⟨none, some 27, .fieldA 3 (.t 26)⟩, ⟨none, some 28, .load false 1 (.t 27)⟩, ⟨none, some 29, .build [(.lit (.int .i64 0)), nilS] [(0, 1, (.t 24)), (1, 1, (.t 28))]⟩, ⟨none, some 30, .call 76 [(.t 29)]⟩, ⟨none, some 22, .copy (.t 30)⟩, ⟨none, some 31, .extract (.t 22) 0⟩, ⟨none, some 32, .extract (.t 22) 1⟩, ⟨none, some 4, .copy (.t 31)⟩, ⟨none, some 5, .copy (.t 32)⟩] [] []) (.seq (.seq (.reg [⟨none, some 33, .copy (.t 5)⟩, ⟨none, some 34, .bin .neq (.t 33) (.c (.lit (.int .i64 0)))⟩] [] []) (.cond (.t 34) (.seq (.reg [⟨none, some 35, .copy (.t 5)⟩, ⟨none, some 2, .copy (.t 35)⟩] [] []) .ret) .skip)) (.seq (.seq (.reg [⟨none, some 36, .copy (.t 0)⟩, ⟨none, some 37, .nilCheck (.t 36)⟩, ⟨none, some 38, .fieldA 0 (.t 37)⟩, ⟨none, some 39, .load false 1 (.t 38)⟩, ⟨none, some 40, .copy (.t 4)⟩, ⟨none, some 41, .call 40 [(.t 39), (.t 40)]⟩, ⟨none, some 6, .copy (.t 41)⟩] [] []) (.seq (.reg [⟨none, some 42, .copy (.t 6)⟩, ⟨none, some 43, .bin .neq (.t 42) (.c (.lit (.int .i64 0)))⟩] [] []) (.cond (.t 43) (.seq (.reg [⟨none, some 44, .copy (.t 6)⟩, ⟨none, some 2, .copy (.t 44)⟩] [] []) .ret) .skip))) (.seq (.reg [⟨none, some 45, .copy (.t 0)⟩, ⟨none, some 46, .copy (.t 0)⟩, ⟨none, some 47, .nilCheck (.t 46)⟩, ⟨none, some 48, .fieldA 3 (.t 47)⟩, ⟨none, some 49, .load false 1 (.t 48)⟩, ⟨none, some 50, .fieldA 0 (.t 3)⟩, ⟨none, some 51, .load false 1 (.t 50)⟩, ⟨none, some 52, .copy (.t 4)⟩, ⟨none, some 53, .len (.t 52)⟩, ⟨none, some 54, .bin .add (.t 51) (.t 53)⟩, ⟨none, some 55, .fieldA 1 (.t 3)⟩, ⟨none, some 56, .load false 1 (.t 55)⟩, ⟨none, some 57, .copy (.t 0)⟩, ⟨none, some 58, .call 72 [(.t 57)]⟩, ⟨none, some 59, .bin .add (.t 56) (.t 58)⟩, ⟨none, some 60, .build [(.lit (.int .i64 0)), (.lit (.int .i64 0))] [(0, 1, (.t 54)), (1, 1, (.t 59))]⟩, ⟨none, some 61, .call 77 [(.t 45), (.t 49), (.t 60)]⟩] [(4, 13), (6, 13), (11, 13)] []) (.seq (.reg [⟨none, some 62, .copy (.t 0)⟩, ⟨none, some 63, .nilCheck (.t 62)⟩, ⟨none, some 64, .fieldA 3 (.t 63)⟩, ⟨none, none, .store 1 (.t 64) (.c nilS)⟩] [] []) (.seq (.reg [⟨none, some 65, .copy (.t 0)⟩, ⟨none, some 66, .nilCheck (.t 65)⟩, ⟨none, some 67, .fieldA 0 (.t 66)⟩, ⟨none, some 68, .load false 1 (.t 67)⟩, ⟨none, some 69, .call 75 [(.t 68)]⟩, ⟨none, some 2, .copy (.t 69)⟩] [] []) .ret)))))))))), [.tmp 2]⟩
/- file.File).Len -/
def ir36 : IFn := ⟨(.seq (.reg [⟨none, some 2, .copy (.c (.lit (.int .i64 0)))⟩] [] []) (.seq (.seq (.reg [⟨none, some 3, .copy (.t 0)⟩, ⟨none, some 4, .isNil false .ptr (.t 3)⟩] [] []) (.cond (.t 4) (.seq (.reg [⟨none, some 2, .copy (.c (.lit (.int .i64 0)))⟩] [] []) .ret) .skip)) (.seq (.reg [⟨none, some 5, .copy (.t 0)⟩, ⟨none, some 6, .nilCheck (.t 5)⟩, ⟨none, some 7, .fieldA 0 (.t 6)⟩, ⟨none, some 8, .call 78 [(.t 7)]⟩, ⟨none, some 2, .copy (.t 8)⟩] [] []) .ret))), [.tmp 2]⟩
/- file.File).Open -/
def ir37 : IFn := ⟨(.seq (.reg [⟨none, some 2, .copy (.c (.lit (.pointer none)))⟩, ⟨none, some 3, .copy (.c (.lit (.int .i64 0)))⟩] [] []) (.seq (.seq (.reg [⟨none, some 4, .copy (.t 0)⟩, ⟨none, some 5, .isNil false .ptr (.t 4)⟩] [] []) (.cond (.t 5) (.seq (.reg [⟨none, some 2, .copy (.c (.lit (.pointer none)))⟩, ⟨none, some 3, .copy (.c (.lit (.int .i64 2)))⟩] [] []) .ret) .skip)) (.seq (.reg [⟨none, some 6, .copy (.t 0)⟩, ⟨none, some 7, .nilCheck (.t 6)⟩, ⟨none, some 8, .fieldA 0 (.t 7)⟩, ⟨none, some 9, .fieldA 0 (.t 8)⟩, ⟨none, some 10, .load false 1 (.t 9)⟩, ⟨none, some 11, .callU 70 [(.t 10)]⟩, ⟨none, some 12, .copy (.t 0)⟩, ⟨none, some 13, .nilCheck (.t 12)⟩, ⟨none, some 14, .fieldA 0 (.t 13)⟩, ⟨none, some 15, .call 78 [(.t 14)]⟩, ⟨none, some 16, .build [nilS, (.lit (.int .i64 0))] [(0, 1, (.t 11)), (1, 1, (.t 15))]⟩, ⟨none, some 17, .copy (.t 0)⟩, ⟨none, some 18, .nilCheck (.t 17)⟩, ⟨none, some 19, .fieldA 2 (.t 18)⟩, ⟨none, some 20, .load false 1 (.t 19)⟩, ⟨none, some 21, .build [nilS, (.lit (.int .i64 0)), (.lit (.int .i64 0)), (.lit (.bool false))] [(0, 2, (.t 16)), (2, 1, (.t 20))]⟩, ⟨none, some 22, .box 4 (.t 21)⟩, ⟨none, some 2, .copy (.t 22)⟩, ⟨none, some 3, .copy (.c (.lit (.int .i64 0)))⟩] [(14, 5), (14, 9)] []) .ret))), [.tmp 2, .tmp 3]⟩
/- log.Log).Append -/
def ir38 : IFn := ⟨(.seq (.reg [⟨none, some 4, .copy (.c (.lit (.int .i64 0)))⟩] [] []) (.seq (.seq (.reg [⟨none, some 8, .copy (.t 0)⟩, ⟨none, some 9, .isNil false .ptr (.t 8)⟩] [] []) (.cond (.t 9) (.seq (.reg [⟨none, some 4, .copy (.c (.lit (.int .i64 2)))⟩] [] []) .ret) .skip)) (.seq (.reg [⟨none, some 11, .copy (.t 1)⟩, ⟨none, some 12, .call 79 [(.t 11)]⟩, ⟨none, some 10, .copy (.t 12)⟩, ⟨none, some 13, .extract (.t 10) 0⟩, ⟨none, some 14, .extract (.t 10) 1⟩, ⟨none, some 5, .copy (.t 13)⟩, ⟨none, some 6, .copy (.t 14)⟩] [] []) (.seq (.seq (.reg [⟨none, some 15, .copy (.t 6)⟩, ⟨none, some 16, .bin .neq (.t 15) (.c (.lit (.int .i64 0)))⟩] [] []) (.cond (.t 16) (.seq (.reg [⟨none, some 17, .copy (.t 6)⟩, ⟨none, some 4, .copy (.t 17)⟩] [] []) .ret) .skip)) (.seq (.reg [⟨none, some 18, .copy (.t 0)⟩, ⟨none, some 19, .nilCheck (.t 18)⟩, ⟨none, some 20, .fieldA 3 (.t 19)⟩, ⟨none, some 21, .load false 1 (.t 20)⟩, ⟨none, some 22, .copy (.t 1)⟩, ⟨none, some 23, .mkSlice true 1 [nilS] 2 [(0, (.t 21)), (1, (.t 22))]⟩, ⟨none, some 24, .call 81 [(.t 23)]⟩, ⟨none, some 25, .call 80 [(.t 24)]⟩, ⟨none, some 7, .copy (.t 25)⟩] [] []) (.seq (.seq (.reg [⟨none, some 26, .copy (.t 0)⟩, ⟨none, some 27, .call 26 [(.t 26)]⟩, ⟨none, some 28, .copy (.t 5)⟩, ⟨none, some 29, .bin .add (.t 27) (.t 28)⟩, ⟨none, some 30, .bin .gtr (.t 29) (.c (.lit (.int .i64 1073741824)))⟩, ⟨none, some 31, .copy (.t 30)⟩, ⟨some (31, false), some 32, .copy (.t 7)⟩, ⟨some (31, false), some 33, .len (.t 32)⟩, ⟨some (31, false), some 34, .bin .gtr (.t 33) (.c (.lit (.int .i64 4096)))⟩, ⟨none, some 35, .pick (.t 31) (.c (.lit (.bool true))) (.t 34)⟩] [] []) (.cond (.t 35) (.seq (.reg [⟨none, some 4, .copy (.c (.lit (.int .i64 12)))⟩] [] []) .ret) .skip)) (.seq (.reg [⟨none, some 36, .copy (.t 0)⟩, ⟨none, some 37, .copy (.t 7)⟩, ⟨none, some 38, .nilCheck (.t 36)⟩, ⟨none, some 39, .fieldA 3 (.t 38)⟩, ⟨none, none, .store 1 (.t 39) (.t 37)⟩] [] []) (.seq (.reg [⟨none, some 4, .copy (.c (.lit (.int .i64 0)))⟩] [] []) .ret)))))))), [.tmp 4]⟩
/- tap.Check -/
def ir39 : IFn := ⟨(.seq (.reg [⟨none, some 2, .copy (.c (.lit (.int .i64 0)))⟩] [] []) (.seq (.reg [⟨none, some 6, .copy (.t 0)⟩, ⟨none, some 7, .call 79 [(.t 6)]⟩, ⟨none, some 5, .copy (.t 7)⟩, ⟨none, some 8, .extract (.t 5) 0⟩, ⟨none, some 9, .extract (.t 5) 1⟩, ⟨none, some 3, .copy (.t 8)⟩, ⟨none, some 4, .copy (.t 9)⟩] [] []) (.seq (.reg [⟨none, some 10, .copy (.t 4)⟩, ⟨none, some 2, .copy (.t 10)⟩] [] []) .ret))), [.tmp 2]⟩
/- file.File).Append -/
def ir40 : IFn := ⟨(.seq (.reg [⟨none, some 4, .copy (.c (.lit (.int .i64 0)))⟩] [] []) (.seq (.seq (.reg [⟨none, some 6, .copy (.t 0)⟩, ⟨none, some 7, .call 82 [(.t 6)]⟩, ⟨none, some 5, .copy (.t 7)⟩] [] []) (.seq (.reg [⟨none, some 8, .copy (.t 5)⟩, ⟨none, some 9, .bin .neq (.t 8) (.c (.lit (.int .i64 0)))⟩] [] []) (.cond (.t 9) (.seq (.reg [⟨none, some 10, .copy (.t 5)⟩, ⟨none, some 4, .copy (.t 10)⟩] [] []) .ret) .skip))) (.seq (.seq (.reg [⟨none, some 11, .copy (.t 1)⟩, ⟨none, some 12, .len (.t 11)⟩, ⟨none, some 13, .copy (.t 0)⟩, ⟨none, some 14, .nilCheck (.t 13)⟩, ⟨none, some 15, .fieldA 2 (.t 14)⟩, ⟨none, some 16, .load false 1 (.t 15)⟩, ⟨none, some 17, .copy (.t 0)⟩, ⟨none, some 18, .nilCheck (.t 17)⟩, ⟨none, some 19, .fieldA 0 (.t 18)⟩, ⟨none, some 20, .call 78 [(.t 19)]⟩, ⟨none, some 21, .bin .sub (.t 16) (.t 20)⟩, ⟨none, some 22, .bin .gtr (.t 12) (.t 21)⟩] [(5, 9)] []) (.cond (.t 22) (.seq (.reg [⟨none, some 4, .copy (.c (.lit (.int .i64 15)))⟩] [] []) .ret) .skip)) (.seq (.reg [⟨none, some 23, .copy (.t 0)⟩, ⟨none, some 24, .nilCheck (.t 23)⟩, ⟨none, some 25, .fieldA 0 (.t 24)⟩, ⟨none, some 26, .copy (.t 1)⟩, ⟨none, some 27, .call 83 [(.t 25), (.t 26)]⟩] [] []) (.seq (.reg [⟨none, some 4, .copy (.c (.lit (.int .i64 0)))⟩] [] []) .ret))))), [.tmp 4]⟩
/- file.File).Crash -/
def L41_0 : ICode := (.seq (.reg [⟨none, some 50, .bin .lss (.t 49) (.t 48)⟩] [] []) (.seq (.cond (.t 50) .skip (.exit 0)) (.seq (.block 1 (.seq (.reg [⟨none, some 51, .copy (.t 49)⟩, ⟨none, some 52, .idxS 1 (.t 47) (.t 49)⟩, ⟨none, some 53, .load false 1 (.t 52)⟩, ⟨none, some 8, .copy (.t 51)⟩, ⟨none, some 9, .copy (.t 53)⟩] [] []) (.reg [⟨none, some 54, .copy (.t 0)⟩, ⟨none, some 55, .nilCheck (.t 54)⟩, ⟨none, some 56, .fieldA 0 (.t 55)⟩, ⟨none, some 57, .fieldA 0 (.t 56)⟩, ⟨none, some 58, .load false 1 (.t 57)⟩, ⟨none, some 59, .copy (.t 0)⟩, ⟨none, some 60, .nilCheck (.t 59)⟩, ⟨none, some 61, .fieldA 0 (.t 60)⟩, ⟨none, some 62, .fieldA 1 (.t 61)⟩, ⟨none, some 63, .load false 1 (.t 62)⟩, ⟨none, some 64, .copy (.t 8)⟩, ⟨none, some 65, .bin .add (.t 63) (.t 64)⟩, ⟨none, some 66, .idxS 1 (.t 58) (.t 65)⟩, ⟨none, some 67, .load false 1 (.t 66)⟩, ⟨none, some 68, .copy (.t 9)⟩, ⟨none, some 69, .bin .xor (.t 67) (.t 68)⟩, ⟨none, some 70, .idxS 1 (.t 58) (.t 65)⟩, ⟨none, none, .store 1 (.t 70) (.t 69)⟩] [] []))) (.reg [⟨none, some 71, .bin .add (.t 49) (.c (.lit (.int .i64 1)))⟩, ⟨none, some 49, .copy (.t 71)⟩] [] []))))
def ir41 : IFn := ⟨(.seq (.reg [⟨none, some 6, .copy (.c (.lit (.int .i64 0)))⟩] [] []) (.seq (.seq (.reg [⟨none, some 10, .copy (.t 0)⟩, ⟨none, some 11, .call 82 [(.t 10)]⟩, ⟨none, some 7, .copy (.t 11)⟩] [] []) (.seq (.reg [⟨none, some 12, .copy (.t 7)⟩, ⟨none, some 13, .bin .neq (.t 12) (.c (.lit (.int .i64 0)))⟩] [] []) (.cond (.t 13) (.seq (.reg [⟨none, some 14, .copy (.t 7)⟩, ⟨none, some 6, .copy (.t 14)⟩] [] []) .ret) .skip))) (.seq (.seq (.reg [⟨none, some 15, .copy (.t 1)⟩, ⟨none, some 16, .bin .lss (.t 15) (.c (.lit (.int .i64 0)))⟩, ⟨none, some 17, .copy (.t 16)⟩, ⟨some (17, false), some 18, .copy (.t 1)⟩, ⟨some (17, false), some 19, .copy (.t 0)⟩, ⟨some (17, false), some 20, .nilCheck (.t 19)⟩, ⟨some (17, false), some 21, .fieldA 0 (.t 20)⟩, ⟨some (17, false), some 22, .call 78 [(.t 21)]⟩, ⟨some (17, false), some 23, .copy (.t 0)⟩, ⟨some (17, false), some 24, .nilCheck (.t 23)⟩, ⟨some (17, false), some 25, .fieldA 0 (.t 24)⟩, ⟨some (17, false), some 26, .fieldA 1 (.t 25)⟩, ⟨some (17, false), some 27, .load false 1 (.t 26)⟩, ⟨some (17, false), some 28, .bin .sub (.t 22) (.t 27)⟩, ⟨some (17, false), some 29, .bin .gtr (.t 18) (.t 28)⟩, ⟨none, some 30, .pick (.t 17) (.c (.lit (.bool true))) (.t 29)⟩] [(12, 7)] []) (.cond (.t 30) (.seq (.reg [⟨none, some 6, .copy (.c (.lit (.int .i64 10)))⟩] [] []) .ret) .skip)) (.seq (.reg [⟨none, some 31, .copy (.t 0)⟩, ⟨none, some 32, .nilCheck (.t 31)⟩, ⟨none, some 33, .fieldA 0 (.t 32)⟩, ⟨none, some 34, .copy (.t 0)⟩, ⟨none, some 35, .nilCheck (.t 34)⟩, ⟨none, some 36, .fieldA 0 (.t 35)⟩, ⟨none, some 37, .fieldA 1 (.t 36)⟩, ⟨none, some 38, .load false 1 (.t 37)⟩, ⟨none, some 39, .copy (.t 1)⟩, ⟨none, some 40, .bin .add (.t 38) (.t 39)⟩, ⟨none, some 41, .call 84 [(.t 33), (.t 40)]⟩] [] []) (.seq (.seq (.reg [⟨none, some 42, .copy (.t 2)⟩, ⟨none, some 43, .copy (.t 1)⟩, ⟨none, some 44, .copy (.t 2)⟩, ⟨none, some 45, .len (.t 44)⟩, ⟨none, some 46, .minI (.t 43) [(.t 45)]⟩, ⟨none, some 47, .slice 1 (.t 42) none (some (.t 46)) none⟩, ⟨none, some 48, .len (.t 47)⟩, ⟨none, some 49, .copy (.c (.lit (.int .i64 0)))⟩] [] []) (.block 0 (.loop [0, 47, 48, 49] L41_0))) (.seq (.reg [⟨none, some 72, .copy (.t 0)⟩, ⟨none, some 73, .nilCheck (.t 72)⟩, ⟨none, some 74, .fieldA 3 (.t 73)⟩, ⟨none, none, .store 1 (.t 74) (.c (.lit (.bool true)))⟩] [] []) (.seq (.reg [⟨none, some 6, .copy (.c (.lit (.int .i64 0)))⟩] [] []) .ret))))))), [.tmp 6]⟩
/- log.Open -/
def A42_0 : ICode := (.seq (.reg [⟨none, some 6, .alloc [(.lit (.int .i64 0)), nilS]⟩, ⟨none, none, .store 2 (.t 6) (.t 16)⟩] [] []) (.reg [⟨none, some 7, .alloc [(.lit (.int .i64 0)), (.lit (.int .i64 0))]⟩, ⟨none, none, .store 2 (.t 7) (.t 17)⟩] [] []))
def B42_0 : ICode := (.block 1 (.reg [⟨none, some 18, .load false 1 (.t 5)⟩, ⟨none, some 19, .fieldA 1 (.t 6)⟩, ⟨none, some 20, .load false 1 (.t 19)⟩, ⟨none, some 21, .load true 2 (.t 7)⟩, ⟨none, some 22, .call 77 [(.t 18), (.t 20), (.t 21)]⟩] [] []))
def ir42 : IFn := ⟨(.seq (.reg [⟨none, some 2, .copy (.c (.lit (.pointer none)))⟩, ⟨none, some 3, .copy (.c (.lit (.int .i64 0)))⟩, ⟨none, some 4, .copy (.c (.lit (.int .i64 0)))⟩] [] []) (.seq (.reg [⟨none, some 10, .copy (.t 0)⟩, ⟨none, some 11, .build [(.lit (.pointer none)), nilS, nilS, nilS] [(0, 1, (.t 10))]⟩, ⟨none, some 12, .box 4 (.t 11)⟩, ⟨none, some 5, .alloc [(.lit (.pointer none))]⟩, ⟨none, none, .store 1 (.t 5) (.t 12)⟩] [] []) (.seq (.seq (.reg [⟨none, some 13, .copy (.t 0)⟩, ⟨none, some 14, .call 24 [(.t 13)]⟩, ⟨none, some 15, .call 85 [(.t 14)]⟩] [] []) (.block 0 (.range (.t 15) [5] [16, 17] A42_0 B42_0))) (.seq (.reg [⟨none, some 23, .copy (.t 0)⟩, ⟨none, some 24, .call 36 [(.t 23)]⟩, ⟨none, some 25, .load false 1 (.t 5)⟩, ⟨none, some 26, .call 71 [(.t 25)]⟩, ⟨none, some 27, .fieldV false 1 0 (.t 26)⟩, ⟨none, some 28, .bin .sub (.t 24) (.t 27)⟩, ⟨none, some 8, .copy (.t 28)⟩] [(2, 1)] []) (.seq (.seq (.reg [⟨none, some 29, .copy (.t 0)⟩, ⟨none, some 30, .load false 1 (.t 5)⟩, ⟨none, some 31, .call 71 [(.t 30)]⟩, ⟨none, some 32, .fieldV false 1 0 (.t 31)⟩, ⟨none, some 33, .call 86 [(.t 29), (.t 32)]⟩, ⟨none, some 9, .copy (.t 33)⟩] [] []) (.seq (.reg [⟨none, some 34, .copy (.t 9)⟩, ⟨none, some 35, .bin .neq (.t 34) (.c (.lit (.int .i64 0)))⟩] [] []) (.cond (.t 35) (.seq (.reg [⟨none, some 36, .copy (.t 9)⟩, ⟨none, some 2, .copy (.c (.lit (.pointer none)))⟩, ⟨none, some 3, .copy (.c (.lit (.int .i64 0)))⟩, ⟨none, some 4, .copy (.t 36)⟩] [] []) .ret) .skip))) (.seq (.reg [⟨none, some 37, .load false 1 (.t 5)⟩, ⟨none, some 38, .copy (.t 8)⟩, ⟨none, some 2, .copy (.t 37)⟩, ⟨none, some 3, .copy (.t 38)⟩, ⟨none, some 4, .copy (.c (.lit (.int .i64 0)))⟩] [] []) .ret)))))), [.tmp 2, .tmp 3, .tmp 4]⟩
/- log.Scan -/
def A63_0 : ICode := (.seq (.reg [⟨none, some 6, .alloc [(.lit (.int .i64 0)), nilS]⟩, ⟨none, none, .store 2 (.t 6) (.t 10)⟩] [] []) (.reg [⟨none, some 7, .alloc [(.lit (.int .i64 0)), (.lit (.int .i64 0))]⟩, ⟨none, none, .store 2 (.t 7) (.t 11)⟩] [] []))
def B63_0 : ICode := (.block 1 (.seq (.reg [⟨none, some 12, .load false 1 (.t 4)⟩, ⟨none, some 13, .load true 2 (.t 6)⟩, ⟨none, some 14, .mkSlice true 2 [(.lit (.int .i64 0)), nilS] 1 [(0, (.t 13))]⟩, ⟨none, some 15, .append true 2 32 (.t 12) (.t 14)⟩, ⟨none, none, .store 1 (.t 4) (.t 15)⟩] [] []) (.reg [⟨none, some 16, .fieldA 0 (.t 7)⟩, ⟨none, some 17, .load false 1 (.t 16)⟩, ⟨none, none, .store 1 (.t 5) (.t 17)⟩] [] [])))
def ir63 : IFn := ⟨(.seq (.reg [⟨none, some 2, .copy (.c nilS)⟩, ⟨none, some 3, .copy (.c (.lit (.int .i64 0)))⟩] [] []) (.seq (.reg [⟨none, some 4, .alloc [nilS]⟩] [] []) (.seq (.reg [⟨none, some 5, .alloc [(.lit (.int .i64 0))]⟩, ⟨none, none, .store 1 (.t 5) (.c (.lit (.int .i64 0)))⟩] [] []) (.seq (.seq (.reg [⟨none, some 8, .copy (.t 0)⟩, ⟨none, some 9, .call 85 [(.t 8)]⟩] [] []) (.block 0 (.range (.t 9) [4, 5] [10, 11] A63_0 B63_0))) (.seq (.reg [⟨none, some 18, .load false 1 (.t 4)⟩, ⟨none, some 19, .load false 1 (.t 5)⟩, ⟨none, some 2, .copy (.t 18)⟩, ⟨none, some 3, .copy (.t 19)⟩] [] []) .ret))))), [.tmp 2, .tmp 3]⟩
/- file.New -/
def ir64 : IFn := ⟨(.seq (.reg [⟨none, some 2, .copy (.c (.lit (.pointer none)))⟩, ⟨none, some 3, .copy (.c (.lit (.int .i64 0)))⟩] [] []) (.seq (.seq (.reg [⟨none, some 4, .copy (.t 0)⟩, ⟨none, some 5, .bin .lss (.t 4) (.c (.lit (.int .i64 1)))⟩, ⟨none, some 6, .copy (.t 5)⟩, ⟨some (6, false), some 7, .copy (.t 0)⟩, ⟨some (6, false), some 8, .bin .gtr (.t 7) (.c (.lit (.int .i64 67108864)))⟩, ⟨none, some 9, .pick (.t 6) (.c (.lit (.bool true))) (.t 8)⟩] [] []) (.cond (.t 9) (.seq (.reg [⟨none, some 2, .copy (.c (.lit (.pointer none)))⟩, ⟨none, some 3, .copy (.c (.lit (.int .i64 10)))⟩] [] []) .ret) .skip)) (.seq (.reg [⟨none, some 10, .copy (.t 0)⟩, ⟨none, some 11, .build [nilS, (.lit (.int .i64 0)), (.lit (.int .i64 0)), (.lit (.bool false))] [(2, 1, (.t 10))]⟩, ⟨none, some 12, .box 4 (.t 11)⟩, ⟨none, some 2, .copy (.t 12)⟩, ⟨none, some 3, .copy (.c (.lit (.int .i64 0)))⟩] [] []) .ret))), [.tmp 2, .tmp 3]⟩
/- bytes.Clone -/
def ir70 : IFn := ⟨(.seq (.reg [⟨none, some 2, .copy (.c nilS)⟩] [] []) (.seq (.seq (.reg [⟨none, some 3, .copy (.t 0)⟩, ⟨none, some 4, .isNil false .slice (.t 3)⟩] [] []) (.cond (.t 4) (.seq (.reg [⟨none, some 2, .copy (.c nilS)⟩] [] []) .ret) .skip)) (.seq (.reg [⟨none, some 5, .mkSlice true 1 [(.lit (.int .u8 0))] 0 []⟩, ⟨none, some 6, .copy (.t 0)⟩, ⟨none, some 7, .append true 1 1 (.t 5) (.t 6)⟩, ⟨none, some 2, .copy (.t 7)⟩] [] []) .ret))), [.tmp 2]⟩
/- log.Log).last -/
def ir71 : IFn := ⟨(.seq (.reg [⟨none, some 2, .alloc [(.lit (.int .i64 0)), (.lit (.int .i64 0))]⟩] [] []) (.seq (.seq (.reg [⟨none, some 3, .copy (.t 0)⟩, ⟨none, some 4, .nilCheck (.t 3)⟩, ⟨none, some 5, .fieldA 2 (.t 4)⟩, ⟨none, some 6, .load false 1 (.t 5)⟩, ⟨none, some 7, .len (.t 6)⟩, ⟨none, some 8, .bin .eql (.t 7) (.c (.lit (.int .i64 0)))⟩] [] []) (.cond (.t 8) (.seq (.reg [⟨none, some 9, .build [(.lit (.int .i64 0)), (.lit (.int .i64 0))] []⟩, ⟨none, none, .store 2 (.t 2) (.t 9)⟩] [] []) .ret) .skip)) (.seq (.reg [⟨none, some 10, .copy (.t 0)⟩, ⟨none, some 11, .nilCheck (.t 10)⟩, ⟨none, some 12, .fieldA 2 (.t 11)⟩, ⟨none, some 13, .load false 1 (.t 12)⟩, ⟨none, some 14, .copy (.t 0)⟩, ⟨none, some 15, .nilCheck (.t 14)⟩, ⟨none, some 16, .fieldA 2 (.t 15)⟩, ⟨none, some 17, .load false 1 (.t 16)⟩, ⟨none, some 18, .len (.t 17)⟩, ⟨none, some 19, .bin .sub (.t 18) (.c (.lit (.int .i64 1)))⟩, ⟨none, some 20, .idxS 2 (.t 13) (.t 19)⟩, ⟨none, some 21, .load true 2 (.t 20)⟩, ⟨none, none, .store 2 (.t 2) (.t 21)⟩] [] []) .ret))), [.cell 2 true 2]⟩
/- log.Log).waiting -/
def ir72 : IFn := ⟨(.seq (.reg [⟨none, some 2, .copy (.c (.lit (.int .i64 0)))⟩] [] []) (.seq (.reg [⟨none, some 6, .copy (.t 0)⟩, ⟨none, some 7, .nilCheck (.t 6)⟩, ⟨none, some 8, .fieldA 3 (.t 7)⟩, ⟨none, some 9, .load false 1 (.t 8)⟩, ⟨none, some 10, .call 79 [(.t 9)]⟩, ⟨none, some 5, .copy (.t 10)⟩, ⟨none, some 11, .extract (.t 5) 0⟩, ⟨none, some 12, .extract (.t 5) 1⟩, ⟨none, some 3, .copy (.t 11)⟩, ⟨none, some 4, .copy (.t 12)⟩] [] []) (.seq (.reg [⟨none, some 13, .copy (.t 3)⟩, ⟨none, some 2, .copy (.t 13)⟩] [] []) .ret))), [.tmp 2]⟩
/- file.File).Sure -/
def ir73 : IFn := ⟨(.seq (.reg [⟨none, some 2, .copy (.c (.lit (.int .i64 0)))⟩] [] []) (.seq (.seq (.reg [⟨none, some 3, .copy (.t 0)⟩, ⟨none, some 4, .isNil false .ptr (.t 3)⟩] [] []) (.cond (.t 4) (.seq (.reg [⟨none, some 2, .copy (.c (.lit (.int .i64 0)))⟩] [] []) .ret) .skip)) (.seq (.reg [⟨none, some 5, .copy (.t 0)⟩, ⟨none, some 6, .nilCheck (.t 5)⟩, ⟨none, some 7, .fieldA 0 (.t 6)⟩, ⟨none, some 8, .fieldA 1 (.t 7)⟩, ⟨none, some 9, .load false 1 (.t 8)⟩, ⟨none, some 2, .copy (.t 9)⟩] [] []) .ret))), [.tmp 2]⟩
/- api.Run] -/
def ir74 : IFn := ⟨(.seq (.reg [⟨none, some 2, .copy (.c nilS)⟩] [] []) (.seq (.seq (.reg [⟨none, some 3, .copy (.t 0)⟩, ⟨none, some 4, .isNil false .slice (.t 3)⟩] [] []) (.cond (.t 4) (.seq (.reg [⟨none, some 2, .copy (.c nilS)⟩] [] []) .ret) .skip)) (.seq (.reg [⟨none, some 5, .mkSlice true 3 [(.lit (.int .i64 0)), (.lit (.int .i64 0)), (.lit (.int .u32 0))] 0 []⟩, ⟨none, some 6, .copy (.t 0)⟩, ⟨none, some 7, .append true 3 24 (.t 5) (.t 6)⟩, ⟨none, some 2, .copy (.t 7)⟩] [] []) .ret))), [.tmp 2]⟩
/- file.File).Flush -/
def ir75 : IFn := ⟨(.seq (.reg [⟨none, some 2, .copy (.c (.lit (.int .i64 0)))⟩] [] []) (.seq (.seq (.reg [⟨none, some 4, .copy (.t 0)⟩, ⟨none, some 5, .call 82 [(.t 4)]⟩, ⟨none, some 3, .copy (.t 5)⟩] [] []) (.seq (.reg [⟨none, some 6, .copy (.t 3)⟩, ⟨none, some 7, .bin .neq (.t 6) (.c (.lit (.int .i64 0)))⟩] [] []) (.cond (.t 7) (.seq (.reg [⟨none, some 8, .copy (.t 3)⟩, ⟨none, some 2, .copy (.t 8)⟩] [] []) .ret) .skip))) (.seq (.reg [⟨none, some 9, .copy (.t 0)⟩, ⟨none, some 10, .copy (.t 0)⟩, ⟨none, some 11, .nilCheck (.t 10)⟩, ⟨none, some 12, .fieldA 0 (.t 11)⟩, ⟨none, some 13, .call 78 [(.t 12)]⟩, ⟨none, some 14, .nilCheck (.t 9)⟩, ⟨none, some 15, .fieldA 0 (.t 14)⟩, ⟨none, some 16, .fieldA 1 (.t 15)⟩, ⟨none, none, .store 1 (.t 16) (.t 13)⟩] [] []) (.seq (.reg [⟨none, some 2, .copy (.c (.lit (.int .i64 0)))⟩] [] []) .ret)))), [.tmp 2]⟩
/- block.Put -/
def L76_0 : ICode := (.seq (.reg [⟨none, some 31, .bin .lss (.t 30) (.t 29)⟩] [] []) (.seq (.cond (.t 31) .skip (.exit 0)) (.seq (.block 1 (.seq (.reg [⟨none, some 32, .idxS 3 (.t 28) (.t 30)⟩, ⟨none, some 33, .load true 3 (.t 32)⟩, ⟨none, some 9, .alloc [(.lit (.int .i64 0)), (.lit (.int .i64 0)), (.lit (.int .u32 0))]⟩, ⟨none, none, .store 3 (.t 9) (.t 33)⟩] [] []) (.seq (.reg [⟨none, some 34, .copy (.t 6)⟩, ⟨none, some 35, .fieldA 0 (.t 9)⟩, ⟨none, some 36, .load false 1 (.t 35)⟩, ⟨none, some 37, .toInt .u64 (.t 36)⟩, ⟨none, some 38, .callV (.t 34) [(.t 37)]⟩] [] []) (.seq (.reg [⟨none, some 39, .copy (.t 6)⟩, ⟨none, some 40, .fieldA 2 (.t 9)⟩, ⟨none, some 41, .load false 1 (.t 40)⟩, ⟨none, some 42, .copy (.t 7)⟩, ⟨none, some 43, .bin .xor (.t 41) (.t 42)⟩, ⟨none, some 44, .toInt .u64 (.t 43)⟩, ⟨none, some 45, .callV (.t 39) [(.t 44)]⟩] [] []) (.reg [⟨none, some 46, .fieldA 2 (.t 9)⟩, ⟨none, some 47, .load false 1 (.t 46)⟩, ⟨none, some 7, .copy (.t 47)⟩] [] []))))) (.reg [⟨none, some 48, .bin .add (.t 30) (.c (.lit (.int .i64 1)))⟩, ⟨none, some 30, .copy (.t 48)⟩] [] []))))
def ir76 : IFn := ⟨(.seq (.reg [⟨none, some 1, .box 2 (.t 0)⟩, ⟨none, some 2, .copy (.c nilS)⟩, ⟨none, some 3, .copy (.c (.lit (.int .i64 0)))⟩] [] []) (.seq (.seq (.reg [⟨none, some 10, .load true 2 (.t 1)⟩, ⟨none, some 11, .call 104 [(.t 10)]⟩, ⟨none, some 4, .copy (.t 11)⟩] [] []) (.seq (.reg [⟨none, some 12, .copy (.t 4)⟩, ⟨none, some 13, .bin .neq (.t 12) (.c (.lit (.int .i64 0)))⟩] [] []) (.cond (.t 13) (.seq (.reg [⟨none, some 14, .copy (.t 4)⟩, ⟨none, some 2, .copy (.c nilS)⟩, ⟨none, some 3, .copy (.t 14)⟩] [] []) .ret) .skip))) (.seq (.reg [⟨none, some 5, .alloc [nilS]⟩] [] []) (.seq (.reg [⟨none, some 15, .mkFunc (.func 105) [] [(.t 5)]⟩, ⟨none, some 6, .copy (.t 15)⟩] [] []) (.seq (.reg [⟨none, some 16, .copy (.t 6)⟩, ⟨none, some 17, .fieldA 0 (.t 1)⟩, ⟨none, some 18, .load false 1 (.t 17)⟩, ⟨none, some 19, .toInt .u64 (.t 18)⟩, ⟨none, some 20, .callV (.t 16) [(.t 19)]⟩] [] []) (.seq (.reg [⟨none, some 21, .copy (.t 6)⟩, ⟨none, some 22, .fieldA 1 (.t 1)⟩, ⟨none, some 23, .load false 1 (.t 22)⟩, ⟨none, some 24, .len (.t 23)⟩, ⟨none, some 25, .toInt .u64 (.t 24)⟩, ⟨none, some 26, .callV (.t 21) [(.t 25)]⟩] [] []) (.seq (.reg [⟨none, some 7, .copy (.c (.lit (.int .u32 4294967295)))⟩] [] []) (.seq (.seq (.reg [⟨none, some 27, .fieldA 1 (.t 1)⟩, ⟨none, some 28, .load false 1 (.t 27)⟩, ⟨none, some 29, .len (.t 28)⟩, ⟨none, some 30, .copy (.c (.lit (.int .i64 0)))⟩] [] []) (.block 0 (.loop [5, 6, 7, 28, 29, 30] L76_0))) (.seq (.reg [⟨none, some 49, .load false 1 (.t 5)⟩, ⟨none, some 50, .len (.t 49)⟩, ⟨none, some 51, .toInt .u64 (.t 50)⟩, ⟨none, some 52, .call 106 [(.t 51)]⟩, ⟨none, some 53, .load false 1 (.t 5)⟩, ⟨none, some 54, .append true 1 1 (.t 52) (.t 53)⟩, ⟨none, some 55, .call 107 [(.t 54)]⟩, ⟨none, some 2, .copy (.t 55)⟩, ⟨none, some 3, .copy (.c (.lit (.int .i64 0)))⟩] [(4, 3)] []) .ret))))))))), [.tmp 2, .tmp 3]⟩
/- log.Log).write -/
def ir77 : IFn := ⟨(.seq (.reg [⟨none, some 5, .box 2 (.t 2)⟩] [] []) (.seq (.reg [⟨none, some 6, .copy (.t 0)⟩, ⟨none, some 7, .copy (.t 0)⟩, ⟨none, some 8, .nilCheck (.t 7)⟩, ⟨none, some 9, .fieldA 1 (.t 8)⟩, ⟨none, some 10, .load false 1 (.t 9)⟩, ⟨none, some 11, .copy (.t 1)⟩, ⟨none, some 12, .append true 3 24 (.t 10) (.t 11)⟩, ⟨none, some 13, .call 80 [(.t 12)]⟩, ⟨none, some 14, .nilCheck (.t 6)⟩, ⟨none, some 15, .fieldA 1 (.t 14)⟩, ⟨none, none, .store 1 (.t 15) (.t 13)⟩] [] []) (.reg [⟨none, some 16, .copy (.t 0)⟩, ⟨none, some 17, .copy (.t 0)⟩, ⟨none, some 18, .nilCheck (.t 17)⟩, ⟨none, some 19, .fieldA 2 (.t 18)⟩, ⟨none, some 20, .load false 1 (.t 19)⟩, ⟨none, some 21, .load true 2 (.t 5)⟩, ⟨none, some 22, .mkSlice true 2 [(.lit (.int .i64 0)), (.lit (.int .i64 0))] 1 [(0, (.t 21))]⟩, ⟨none, some 23, .append true 2 16 (.t 20) (.t 22)⟩, ⟨none, some 24, .nilCheck (.t 16)⟩, ⟨none, some 25, .fieldA 2 (.t 24)⟩, ⟨none, none, .store 1 (.t 25) (.t 23)⟩] [(4, 6)] []))), []⟩
/- file.tape).size -/
def ir78 : IFn := ⟨(.seq (.reg [⟨none, some 2, .copy (.c (.lit (.int .i64 0)))⟩] [] []) (.seq (.reg [⟨none, some 3, .copy (.t 0)⟩, ⟨none, some 4, .nilCheck (.t 3)⟩, ⟨none, some 5, .fieldA 0 (.t 4)⟩, ⟨none, some 6, .load false 1 (.t 5)⟩, ⟨none, some 7, .len (.t 6)⟩, ⟨none, some 2, .copy (.t 7)⟩] [] []) .ret)), [.tmp 2]⟩
/- tap.Ticks -/
def L79_0 : ICode := (.seq (.reg [⟨none, some 10, .bin .lss (.t 9) (.t 8)⟩] [] []) (.seq (.cond (.t 10) .skip (.exit 0)) (.seq (.block 1 (.seq (.reg [⟨none, some 11, .idxS 3 (.t 7) (.t 9)⟩, ⟨none, some 12, .load true 3 (.t 11)⟩, ⟨none, some 6, .alloc [(.lit (.int .i64 0)), (.lit (.int .i64 0)), (.lit (.int .u32 0))]⟩, ⟨none, none, .store 3 (.t 6) (.t 12)⟩] [] []) (.seq (.seq (.reg [⟨none, some 13, .load true 3 (.t 6)⟩, ⟨none, some 14, .call 108 [(.t 13)]⟩, ⟨none, some 15, .un .not (.t 14)⟩] [] []) (.cond (.t 15) (.seq (.reg [⟨none, some 2, .copy (.c (.lit (.int .i64 0)))⟩, ⟨none, some 3, .copy (.c (.lit (.int .i64 10)))⟩] [] []) .ret) .skip)) (.reg [⟨none, some 16, .copy (.t 4)⟩, ⟨none, some 17, .fieldA 0 (.t 6)⟩, ⟨none, some 18, .load false 1 (.t 17)⟩, ⟨none, some 19, .bin .add (.t 16) (.t 18)⟩, ⟨none, some 20, .minI (.t 19) [(.c (.lit (.int .i64 1073741825)))]⟩, ⟨none, some 4, .copy (.t 20)⟩] [] [])))) (.reg [⟨none, some 21, .bin .add (.t 9) (.c (.lit (.int .i64 1)))⟩, ⟨none, some 9, .copy (.t 21)⟩] [] []))))
def ir79 : IFn := ⟨(.seq (.reg [⟨none, some 2, .copy (.c (.lit (.int .i64 0)))⟩, ⟨none, some 3, .copy (.c (.lit (.int .i64 0)))⟩] [] []) (.seq (.reg [⟨none, some 4, .copy (.c (.lit (.int .i64 0)))⟩] [] []) (.seq (.seq (.reg [⟨none, some 7, .copy (.t 0)⟩, ⟨none, some 8, .len (.t 7)⟩, ⟨none, some 9, .copy (.c (.lit (.int .i64 0)))⟩] [] []) (.block 0 (.loop [4, 7, 8, 9] L79_0))) (.seq (.seq (.reg [⟨none, some 22, .copy (.t 4)⟩, ⟨none, some 23, .bin .gtr (.t 22) (.c (.lit (.int .i64 1073741824)))⟩] [] []) (.cond (.t 23) (.seq (.reg [⟨none, some 2, .copy (.c (.lit (.int .i64 0)))⟩, ⟨none, some 3, .copy (.c (.lit (.int .i64 12)))⟩] [] []) .ret) .skip)) (.seq (.reg [⟨none, some 24, .copy (.t 4)⟩, ⟨none, some 2, .copy (.t 24)⟩, ⟨none, some 3, .copy (.c (.lit (.int .i64 0)))⟩] [] []) .ret))))), [.tmp 2, .tmp 3]⟩
/- tap.Join -/
def L80_0 : ICode := (.seq (.reg [⟨none, some 11, .bin .lss (.t 10) (.t 9)⟩] [] []) (.seq (.cond (.t 11) .skip (.exit 0)) (.seq (.block 1 (.seq (.reg [⟨none, some 12, .idxS 3 (.t 8) (.t 10)⟩, ⟨none, some 13, .load true 3 (.t 12)⟩, ⟨none, some 6, .alloc [(.lit (.int .i64 0)), (.lit (.int .i64 0)), (.lit (.int .u32 0))]⟩, ⟨none, none, .store 3 (.t 6) (.t 13)⟩] [] []) (.seq (.block 2 (.seq (.reg [⟨none, some 15, .fieldA 0 (.t 6)⟩, ⟨none, some 16, .load false 1 (.t 15)⟩, ⟨none, some 17, .bin .lss (.t 16) (.c (.lit (.int .i64 1)))⟩, ⟨none, some 14, .copy (.t 17)⟩] [] []) (.cond (.t 14) (.exit 1) (.seq (.reg [⟨none, some 19, .fieldA 0 (.t 6)⟩, ⟨none, some 20, .load false 1 (.t 19)⟩, ⟨none, some 21, .copy (.t 4)⟩, ⟨none, some 22, .bin .sub (.c (.lit (.int .i64 4611686018427387904))) (.t 21)⟩, ⟨none, some 23, .bin .gtr (.t 20) (.t 22)⟩, ⟨none, some 18, .copy (.t 23)⟩] [] []) (.cond (.t 18) (.seq (.reg [⟨none, some 2, .copy (.c nilS)⟩] [] []) .ret) .skip))))) (.seq (.reg [⟨none, some 24, .copy (.t 4)⟩, ⟨none, some 25, .fieldA 0 (.t 6)⟩, ⟨none, some 26, .load false 1 (.t 25)⟩, ⟨none, some 27, .bin .add (.t 24) (.t 26)⟩, ⟨none, some 4, .copy (.t 27)⟩] [] []) (.seq (.seq (.reg [⟨none, some 28, .copy (.t 3)⟩, ⟨none, some 29, .len (.t 28)⟩, ⟨none, some 30, .bin .sub (.t 29) (.c (.lit (.int .i64 1)))⟩, ⟨none, some 7, .copy (.t 30)⟩] [] []) (.seq (.reg [⟨none, some 31, .copy (.t 7)⟩, ⟨none, some 32, .bin .geq (.t 31) (.c (.lit (.int .i64 0)))⟩, ⟨none, some 33, .copy (.t 32)⟩, ⟨some (33, true), some 34, .copy (.t 3)⟩, ⟨some (33, true), some 35, .copy (.t 7)⟩, ⟨some (33, true), some 36, .idxS 3 (.t 34) (.t 35)⟩, ⟨some (33, true), some 37, .load true 3 (.t 36)⟩, ⟨some (33, true), some 38, .load true 3 (.t 6)⟩, ⟨some (33, true), some 39, .call 109 [(.t 37), (.t 38)]⟩, ⟨none, some 40, .pick (.t 33) (.t 39) (.c (.lit (.bool false)))⟩] [] []) (.cond (.t 40) (.seq (.reg [⟨none, some 41, .copy (.t 3)⟩, ⟨none, some 42, .copy (.t 7)⟩, ⟨none, some 43, .idxS 3 (.t 41) (.t 42)⟩, ⟨none, some 44, .fieldA 0 (.t 43)⟩, ⟨none, some 45, .load false 1 (.t 44)⟩, ⟨none, some 46, .fieldA 0 (.t 6)⟩, ⟨none, some 47, .load false 1 (.t 46)⟩, ⟨none, some 48, .bin .add (.t 45) (.t 47)⟩, ⟨none, some 49, .idxS 3 (.t 41) (.t 42)⟩, ⟨none, some 50, .fieldA 0 (.t 49)⟩, ⟨none, none, .store 1 (.t 50) (.t 48)⟩] [] []) (.exit 1)) .skip))) (.reg [⟨none, some 51, .copy (.t 3)⟩, ⟨none, some 52, .load true 3 (.t 6)⟩, ⟨none, some 53, .mkSlice true 3 [(.lit (.int .i64 0)), (.lit (.int .i64 0)), (.lit (.int .u32 0))] 1 [(0, (.t 52))]⟩, ⟨none, some 54, .append true 3 24 (.t 51) (.t 53)⟩, ⟨none, some 3, .copy (.t 54)⟩] [] [])))))) (.reg [⟨none, some 55, .bin .add (.t 10) (.c (.lit (.int .i64 1)))⟩, ⟨none, some 10, .copy (.t 55)⟩] [] []))))
def ir80 : IFn := ⟨(.seq (.reg [⟨none, some 2, .copy (.c nilS)⟩] [] []) (.seq (.reg [⟨none, some 3, .copy (.c nilS)⟩] [] []) (.seq (.reg [⟨none, some 4, .copy (.c (.lit (.int .i64 0)))⟩] [] []) (.seq (.seq (.reg [⟨none, some 8, .copy (.t 0)⟩, ⟨none, some 9, .len (.t 8)⟩, ⟨none, some 10, .copy (.c (.lit (.int .i64 0)))⟩] [] []) (.block 0 (.loop [3, 4, 8, 9, 10] L80_0))) (.seq (.reg [⟨none, some 56, .copy (.t 3)⟩, ⟨none, some 2, .copy (.t 56)⟩] [] []) .ret))))), [.tmp 2]⟩
/- api.Run] -/
def L81_0 : ICode := (.seq (.reg [⟨none, some 12, .bin .lss (.t 11) (.t 10)⟩] [] []) (.seq (.cond (.t 12) .skip (.exit 0)) (.seq (.block 1 (.seq (.reg [⟨none, some 13, .idxS 1 (.t 9) (.t 11)⟩, ⟨none, some 14, .load false 1 (.t 13)⟩, ⟨none, some 5, .copy (.t 14)⟩] [] []) (.seq (.reg [⟨none, some 15, .copy (.t 3)⟩, ⟨none, some 16, .copy (.t 5)⟩, ⟨none, some 17, .len (.t 16)⟩, ⟨none, some 18, .bin .add (.t 15) (.t 17)⟩, ⟨none, some 3, .copy (.t 18)⟩] [] []) (.seq (.reg [⟨none, some 19, .copy (.t 3)⟩, ⟨none, some 20, .bin .lss (.t 19) (.c (.lit (.int .i64 0)))⟩] [] []) (.cond (.t 20) (.reg [⟨none, some 21, .mkIface 9 (.c (.lit (.string ⟨#[108, 101, 110, 32, 111, 117, 116, 32, 111, 102, 32, 114, 97, 110, 103, 101]⟩)))⟩, ⟨none, none, .fail⟩] [] []) .skip))))) (.reg [⟨none, some 22, .bin .add (.t 11) (.c (.lit (.int .i64 1)))⟩, ⟨none, some 11, .copy (.t 22)⟩] [] []))))
def L81_1 : ICode := (.seq (.reg [⟨none, some 28, .bin .lss (.t 27) (.t 26)⟩] [] []) (.seq (.cond (.t 28) .skip (.exit 2)) (.seq (.block 3 (.seq (.reg [⟨none, some 29, .idxS 1 (.t 25) (.t 27)⟩, ⟨none, some 30, .load false 1 (.t 29)⟩, ⟨none, some 8, .copy (.t 30)⟩] [] []) (.reg [⟨none, some 31, .copy (.t 6)⟩, ⟨none, some 32, .copy (.t 8)⟩, ⟨none, some 33, .append true 3 24 (.t 31) (.t 32)⟩, ⟨none, some 6, .copy (.t 33)⟩] [] []))) (.reg [⟨none, some 34, .bin .add (.t 27) (.c (.lit (.int .i64 1)))⟩, ⟨none, some 27, .copy (.t 34)⟩] [] []))))
def ir81 : IFn := ⟨(.seq (.reg [⟨none, some 2, .copy (.c nilS)⟩] [] []) (.seq (.reg [⟨none, some 3, .copy (.c (.lit (.int .i64 0)))⟩] [] []) (.seq (.seq (.reg [⟨none, some 9, .copy (.t 0)⟩, ⟨none, some 10, .len (.t 9)⟩, ⟨none, some 11, .copy (.c (.lit (.int .i64 0)))⟩] [] []) (.block 0 (.loop [0, 3, 9, 10, 11] L81_0))) (.seq (.reg [⟨none, some 23, .copy (.t 3)⟩, ⟨none, some 24, .call 110 [(.c nilS), (.t 23)]⟩, ⟨none, some 6, .copy (.t 24)⟩] [] []) (.seq (.seq (.reg [⟨none, some 25, .copy (.t 0)⟩, ⟨none, some 26, .len (.t 25)⟩, ⟨none, some 27, .copy (.c (.lit (.int .i64 0)))⟩] [] []) (.block 2 (.loop [6, 25, 26, 27] L81_1))) (.seq (.reg [⟨none, some 35, .copy (.t 6)⟩, ⟨none, some 2, .copy (.t 35)⟩] [] []) .ret)))))), [.tmp 2]⟩
/- file.File).check -/
def ir82 : IFn := ⟨(.seq (.reg [⟨none, some 2, .copy (.c (.lit (.int .i64 0)))⟩] [] []) (.seq (.block 0 (.seq (.reg [⟨none, some 4, .copy (.t 0)⟩, ⟨none, some 5, .isNil false .ptr (.t 4)⟩, ⟨none, some 3, .copy (.t 5)⟩] [] []) (.cond (.t 3) (.seq (.reg [⟨none, some 2, .copy (.c (.lit (.int .i64 2)))⟩] [] []) .ret) (.seq (.reg [⟨none, some 7, .copy (.t 0)⟩, ⟨none, some 8, .nilCheck (.t 7)⟩, ⟨none, some 9, .fieldA 3 (.t 8)⟩, ⟨none, some 10, .load false 1 (.t 9)⟩, ⟨none, some 6, .copy (.t 10)⟩] [] []) (.cond (.t 6) (.seq (.reg [⟨none, some 2, .copy (.c (.lit (.int .i64 25)))⟩] [] []) .ret) .skip))))) (.seq (.reg [⟨none, some 2, .copy (.c (.lit (.int .i64 0)))⟩] [] []) .ret))), [.tmp 2]⟩
/- file.tape).add -/
def ir83 : IFn := ⟨(.reg [⟨none, some 4, .copy (.t 0)⟩, ⟨none, some 5, .copy (.t 0)⟩, ⟨none, some 6, .nilCheck (.t 5)⟩, ⟨none, some 7, .fieldA 0 (.t 6)⟩, ⟨none, some 8, .load false 1 (.t 7)⟩, ⟨none, some 9, .copy (.t 1)⟩, ⟨none, some 10, .append true 1 1 (.t 8) (.t 9)⟩, ⟨none, some 11, .nilCheck (.t 4)⟩, ⟨none, some 12, .fieldA 0 (.t 11)⟩, ⟨none, none, .store 1 (.t 12) (.t 10)⟩] [] []), []⟩
/- file.tape).keep -/
def ir84 : IFn := ⟨(.seq (.reg [⟨none, some 4, .copy (.t 0)⟩, ⟨none, some 5, .copy (.t 0)⟩, ⟨none, some 6, .nilCheck (.t 5)⟩, ⟨none, some 7, .fieldA 0 (.t 6)⟩, ⟨none, some 8, .load false 1 (.t 7)⟩, ⟨none, some 9, .copy (.t 1)⟩, ⟨none, some 10, .copy (.t 1)⟩, ⟨none, some 11, .slice 1 (.t 8) none (some (.t 9)) (some (.t 10))⟩, ⟨none, some 12, .nilCheck (.t 4)⟩, ⟨none, some 13, .fieldA 0 (.t 12)⟩, ⟨none, none, .store 1 (.t 13) (.t 11)⟩] [] []) (.reg [⟨none, some 14, .copy (.t 0)⟩, ⟨none, some 15, .copy (.t 0)⟩, ⟨none, some 16, .nilCheck (.t 15)⟩, ⟨none, some 17, .fieldA 1 (.t 16)⟩, ⟨none, some 18, .load false 1 (.t 17)⟩, ⟨none, some 19, .copy (.t 1)⟩, ⟨none, some 20, .minI (.t 18) [(.t 19)]⟩, ⟨none, some 21, .nilCheck (.t 14)⟩, ⟨none, some 22, .fieldA 1 (.t 21)⟩, ⟨none, none, .store 1 (.t 22) (.t 20)⟩] [] [])), []⟩
/- log.blocks -/
def ir85 : IFn := ⟨(.seq (.reg [⟨none, some 1, .box 1 (.t 0)⟩, ⟨none, some 2, .copy (.c (.lit .nilFunc))⟩] [] []) (.seq (.reg [⟨none, some 3, .mkFunc (.func 111) [] [(.t 1)]⟩, ⟨none, some 2, .copy (.t 3)⟩] [] []) .ret)), [.tmp 2]⟩
/- file.File).Cut -/
def ir86 : IFn := ⟨(.seq (.reg [⟨none, some 4, .copy (.c (.lit (.int .i64 0)))⟩] [] []) (.seq (.seq (.reg [⟨none, some 6, .copy (.t 0)⟩, ⟨none, some 7, .call 82 [(.t 6)]⟩, ⟨none, some 5, .copy (.t 7)⟩] [] []) (.seq (.reg [⟨none, some 8, .copy (.t 5)⟩, ⟨none, some 9, .bin .neq (.t 8) (.c (.lit (.int .i64 0)))⟩] [] []) (.cond (.t 9) (.seq (.reg [⟨none, some 10, .copy (.t 5)⟩, ⟨none, some 4, .copy (.t 10)⟩] [] []) .ret) .skip))) (.seq (.seq (.reg [⟨none, some 11, .copy (.t 1)⟩, ⟨none, some 12, .bin .lss (.t 11) (.c (.lit (.int .i64 0)))⟩, ⟨none, some 13, .copy (.t 12)⟩, ⟨some (13, false), some 14, .copy (.t 1)⟩, ⟨some (13, false), some 15, .copy (.t 0)⟩, ⟨some (13, false), some 16, .nilCheck (.t 15)⟩, ⟨some (13, false), some 17, .fieldA 0 (.t 16)⟩, ⟨some (13, false), some 18, .call 78 [(.t 17)]⟩, ⟨some (13, false), some 19, .bin .gtr (.t 14) (.t 18)⟩, ⟨none, some 20, .pick (.t 13) (.c (.lit (.bool true))) (.t 19)⟩] [] []) (.cond (.t 20) (.seq (.reg [⟨none, some 4, .copy (.c (.lit (.int .i64 10)))⟩] [] []) .ret) .skip)) (.seq (.reg [⟨none, some 21, .copy (.t 0)⟩, ⟨none, some 22, .nilCheck (.t 21)⟩, ⟨none, some 23, .fieldA 0 (.t 22)⟩, ⟨none, some 24, .copy (.t 1)⟩, ⟨none, some 25, .call 84 [(.t 23), (.t 24)]⟩] [] []) (.seq (.reg [⟨none, some 4, .copy (.c (.lit (.int .i64 0)))⟩] [] []) .ret))))), [.tmp 4]⟩
/- block.Check -/
def L104_0 : ICode := (.seq (.reg [⟨none, some 39, .bin .lss (.t 38) (.t 37)⟩] [] []) (.seq (.cond (.t 39) .skip (.exit 1)) (.seq (.block 2 (.seq (.reg [⟨none, some 40, .copy (.t 38)⟩, ⟨none, some 5, .copy (.t 40)⟩] [] []) (.seq (.reg [⟨none, some 41, .fieldA 1 (.t 1)⟩, ⟨none, some 42, .load false 1 (.t 41)⟩, ⟨none, some 43, .copy (.t 5)⟩, ⟨none, some 44, .idxS 3 (.t 42) (.t 43)⟩, ⟨none, some 45, .fieldA 2 (.t 44)⟩, ⟨none, some 46, .load false 1 (.t 45)⟩, ⟨none, some 47, .fieldA 1 (.t 1)⟩, ⟨none, some 48, .load false 1 (.t 47)⟩, ⟨none, some 49, .copy (.t 5)⟩, ⟨none, some 50, .bin .add (.t 49) (.c (.lit (.int .i64 1)))⟩, ⟨none, some 51, .idxS 3 (.t 48) (.t 50)⟩, ⟨none, some 52, .fieldA 2 (.t 51)⟩, ⟨none, some 53, .load false 1 (.t 52)⟩, ⟨none, some 54, .bin .eql (.t 46) (.t 53)⟩] [] []) (.cond (.t 54) (.seq (.reg [⟨none, some 2, .copy (.c (.lit (.int .i64 11)))⟩] [] []) .ret) .skip)))) (.reg [⟨none, some 55, .bin .add (.t 38) (.c (.lit (.int .i64 1)))⟩, ⟨none, some 38, .copy (.t 55)⟩] [] []))))
def ir104 : IFn := ⟨(.seq (.reg [⟨none, some 1, .box 2 (.t 0)⟩, ⟨none, some 2, .copy (.c (.lit (.int .i64 0)))⟩] [] []) (.seq (.block 0 (.seq (.reg [⟨none, some 7, .fieldA 0 (.t 1)⟩, ⟨none, some 8, .load false 1 (.t 7)⟩, ⟨none, some 9, .bin .lss (.t 8) (.c (.lit (.int .i64 0)))⟩, ⟨none, some 10, .copy (.t 9)⟩, ⟨some (10, false), some 11, .fieldA 0 (.t 1)⟩, ⟨some (10, false), some 12, .load false 1 (.t 11)⟩, ⟨some (10, false), some 13, .bin .gtr (.t 12) (.c (.lit (.int .i64 1073741824)))⟩, ⟨none, some 14, .pick (.t 10) (.c (.lit (.bool true))) (.t 13)⟩, ⟨none, some 6, .copy (.t 14)⟩] [] []) (.cond (.t 6) (.seq (.reg [⟨none, some 2, .copy (.c (.lit (.int .i64 10)))⟩] [] []) .ret) (.seq (.reg [⟨none, some 16, .fieldA 1 (.t 1)⟩, ⟨none, some 17, .load false 1 (.t 16)⟩, ⟨none, some 18, .len (.t 17)⟩, ⟨none, some 19, .bin .eql (.t 18) (.c (.lit (.int .i64 0)))⟩, ⟨none, some 15, .copy (.t 19)⟩] [] []) (.cond (.t 15) (.seq (.reg [⟨none, some 2, .copy (.c (.lit (.int .i64 16)))⟩] [] []) .ret) (.seq (.reg [⟨none, some 21, .fieldA 1 (.t 1)⟩, ⟨none, some 22, .load false 1 (.t 21)⟩, ⟨none, some 23, .len (.t 22)⟩, ⟨none, some 24, .bin .gtr (.t 23) (.c (.lit (.int .i64 4096)))⟩, ⟨none, some 20, .copy (.t 24)⟩] [] []) (.cond (.t 20) (.seq (.reg [⟨none, some 2, .copy (.c (.lit (.int .i64 12)))⟩] [] []) .ret) .skip))))))) (.seq (.reg [⟨none, some 26, .fieldA 1 (.t 1)⟩, ⟨none, some 27, .load false 1 (.t 26)⟩, ⟨none, some 28, .call 79 [(.t 27)]⟩, ⟨none, some 25, .copy (.t 28)⟩, ⟨none, some 29, .extract (.t 25) 0⟩, ⟨none, some 30, .extract (.t 25) 1⟩, ⟨none, some 3, .copy (.t 29)⟩, ⟨none, some 4, .copy (.t 30)⟩] [] []) (.seq (.seq (.reg [⟨none, some 31, .copy (.t 4)⟩, ⟨none, some 32, .bin .neq (.t 31) (.c (.lit (.int .i64 0)))⟩] [] []) (.cond (.t 32) (.seq (.reg [⟨none, some 33, .copy (.t 4)⟩, ⟨none, some 2, .copy (.t 33)⟩] [] []) .ret) .skip)) (.seq (.seq (.reg [⟨none, some 34, .fieldA 1 (.t 1)⟩, ⟨none, some 35, .load false 1 (.t 34)⟩, ⟨none, some 36, .len (.t 35)⟩, ⟨none, some 37, .bin .sub (.t 36) (.c (.lit (.int .i64 1)))⟩, ⟨none, some 38, .copy (.c (.lit (.int .i64 0)))⟩] [] []) (.block 1 (.loop [1, 3, 37, 38] L104_0))) (.seq (.seq (.reg [⟨none, some 56, .fieldA 0 (.t 1)⟩, ⟨none, some 57, .load false 1 (.t 56)⟩, ⟨none, some 58, .copy (.t 3)⟩, ⟨none, some 59, .bin .add (.t 57) (.t 58)⟩, ⟨none, some 60, .bin .gtr (.t 59) (.c (.lit (.int .i64 1073741824)))⟩] [] []) (.cond (.t 60) (.seq (.reg [⟨none, some 2, .copy (.c (.lit (.int .i64 12)))⟩] [] []) .ret) .skip)) (.seq (.reg [⟨none, some 2, .copy (.c (.lit (.int .i64 0)))⟩] [] []) .ret))))))), [.tmp 2]⟩
/- block.Put$1 -/
def ir105 : IFn := ⟨(.reg [⟨none, some 3, .load false 1 (.t 1)⟩, ⟨none, some 4, .copy (.t 0)⟩, ⟨none, some 5, .call 106 [(.t 4)]⟩, ⟨none, some 6, .append true 1 1 (.t 3) (.t 5)⟩, ⟨none, none, .store 1 (.t 1) (.t 6)⟩] [(0, 2)] []), []⟩
/- vari.Put -/
def L106_0 : ICode := (.seq (.seq (.reg [⟨none, some 5, .copy (.t 0)⟩, ⟨none, some 6, .bin .geq (.t 5) (.c (.lit (.int .u64 128)))⟩] [] []) (.cond (.t 6) .skip (.exit 0))) (.seq (.block 1 (.reg [⟨none, some 9, .copy (.t 3)⟩, ⟨none, some 10, .copy (.t 0)⟩, ⟨none, some 11, .toInt .u8 (.t 10)⟩, ⟨none, some 12, .bin .or (.t 11) (.c (.lit (.int .u8 128)))⟩, ⟨none, some 13, .mkSlice true 1 [(.lit (.int .u8 0))] 1 [(0, (.t 12))]⟩, ⟨none, some 14, .append true 1 1 (.t 9) (.t 13)⟩, ⟨none, some 3, .copy (.t 14)⟩] [] [])) (.reg [⟨none, some 7, .copy (.t 0)⟩, ⟨none, some 8, .bin .shr (.t 7) (.c (.lit (.int .u64 7)))⟩, ⟨none, some 0, .copy (.t 8)⟩] [] [])))
def ir106 : IFn := ⟨(.seq (.reg [⟨none, some 2, .copy (.c nilS)⟩] [] []) (.seq (.reg [⟨none, some 4, .make true 1 1 [(.lit (.int .u8 0))] (.c (.lit (.int .i64 0))) (.c (.lit (.int .i64 10)))⟩, ⟨none, some 3, .copy (.t 4)⟩] [] []) (.seq (.block 0 (.loop [0, 3] L106_0)) (.seq (.reg [⟨none, some 15, .copy (.t 3)⟩, ⟨none, some 16, .copy (.t 0)⟩, ⟨none, some 17, .toInt .u8 (.t 16)⟩, ⟨none, some 18, .mkSlice true 1 [(.lit (.int .u8 0))] 1 [(0, (.t 17))]⟩, ⟨none, some 19, .append true 1 1 (.t 15) (.t 18)⟩, ⟨none, some 2, .copy (.t 19)⟩] [] []) .ret)))), [.tmp 2]⟩
/- sum32.Seal -/
def ir107 : IFn := ⟨(.seq (.reg [⟨none, some 2, .copy (.c nilS)⟩] [] []) (.seq (.reg [⟨none, some 3, .copy (.t 0)⟩, ⟨none, some 4, .callU 70 [(.t 3)]⟩, ⟨none, some 5, .copy (.t 0)⟩, ⟨none, some 6, .call 139 [(.t 5)]⟩, ⟨none, some 7, .call 138 [(.t 6)]⟩, ⟨none, some 8, .append true 1 1 (.t 4) (.t 7)⟩, ⟨none, some 2, .copy (.t 8)⟩] [] []) .ret)), [.tmp 2]⟩
/- tap.right -/
def ir108 : IFn := ⟨(.seq (.reg [⟨none, some 1, .box 3 (.t 0)⟩, ⟨none, some 2, .copy (.c (.lit (.bool false)))⟩] [] []) (.seq (.reg [⟨none, some 3, .copy (.c (.lit (.int .i64 0)))⟩] [] []) (.seq (.seq (.reg [⟨none, some 4, .fieldA 2 (.t 1)⟩, ⟨none, some 5, .load false 1 (.t 4)⟩, ⟨none, some 6, .bin .eql (.t 5) (.c (.lit (.int .u32 4294967295)))⟩] [] []) (.cond (.t 6) (.reg [⟨none, some 3, .copy (.c (.lit (.int .i64 1)))⟩] [] []) .skip)) (.seq (.reg [⟨none, some 7, .fieldA 0 (.t 1)⟩, ⟨none, some 8, .load false 1 (.t 7)⟩, ⟨none, some 9, .bin .geq (.t 8) (.c (.lit (.int .i64 1)))⟩, ⟨none, some 10, .copy (.t 9)⟩, ⟨some (10, true), some 11, .fieldA 0 (.t 1)⟩, ⟨some (10, true), some 12, .load false 1 (.t 11)⟩, ⟨some (10, true), some 13, .bin .leq (.t 12) (.c (.lit (.int .i64 1073741824)))⟩, ⟨none, some 14, .pick (.t 10) (.t 13) (.c (.lit (.bool false)))⟩, ⟨none, some 15, .copy (.t 14)⟩, ⟨some (15, true), some 16, .fieldA 1 (.t 1)⟩, ⟨some (15, true), some 17, .load false 1 (.t 16)⟩, ⟨some (15, true), some 18, .copy (.t 3)⟩, ⟨some (15, true), some 19, .bin .eql (.t 17) (.t 18)⟩, ⟨none, some 20, .pick (.t 15) (.t 19) (.c (.lit (.bool false)))⟩, ⟨none, some 2, .copy (.t 20)⟩] [] []) .ret)))), [.tmp 2]⟩
/- tap.alike -/
def ir109 : IFn := ⟨(.seq (.reg [⟨none, some 2, .box 3 (.t 0)⟩, ⟨none, some 3, .box 3 (.t 1)⟩, ⟨none, some 4, .copy (.c (.lit (.bool false)))⟩] [] []) (.seq (.reg [⟨none, some 5, .fieldA 1 (.t 2)⟩, ⟨none, some 6, .load false 1 (.t 5)⟩, ⟨none, some 7, .fieldA 1 (.t 3)⟩, ⟨none, some 8, .load false 1 (.t 7)⟩, ⟨none, some 9, .bin .eql (.t 6) (.t 8)⟩, ⟨none, some 10, .copy (.t 9)⟩, ⟨some (10, true), some 11, .fieldA 2 (.t 2)⟩, ⟨some (10, true), some 12, .load false 1 (.t 11)⟩, ⟨some (10, true), some 13, .fieldA 2 (.t 3)⟩, ⟨some (10, true), some 14, .load false 1 (.t 13)⟩, ⟨some (10, true), some 15, .bin .eql (.t 12) (.t 14)⟩, ⟨none, some 16, .pick (.t 10) (.t 15) (.c (.lit (.bool false)))⟩, ⟨none, some 4, .copy (.t 16)⟩] [] []) .ret)), [.tmp 4]⟩
/- api.Run] -/
def ir110 : IFn := ⟨(.seq (.reg [⟨none, some 4, .copy (.c nilS)⟩] [] []) (.seq (.seq (.reg [⟨none, some 5, .copy (.t 1)⟩, ⟨none, some 6, .bin .lss (.t 5) (.c (.lit (.int .i64 0)))⟩] [] []) (.cond (.t 6) (.reg [⟨none, some 7, .mkIface 9 (.c (.lit (.string ⟨#[99, 97, 110, 110, 111, 116, 32, 98, 101, 32, 110, 101, 103, 97, 116, 105, 118, 101]⟩)))⟩, ⟨none, none, .fail⟩] [] []) .skip)) (.seq (.seq (.reg [⟨none, some 8, .copy (.t 1)⟩, ⟨none, some 9, .copy (.t 0)⟩, ⟨none, some 10, .cap (.t 9)⟩, ⟨none, some 11, .copy (.t 0)⟩, ⟨none, some 12, .len (.t 11)⟩, ⟨none, some 13, .bin .sub (.t 10) (.t 12)⟩, ⟨none, some 14, .bin .sub (.t 8) (.t 13)⟩, ⟨none, some 1, .copy (.t 14)⟩] [] []) (.seq (.reg [⟨none, some 15, .copy (.t 1)⟩, ⟨none, some 16, .bin .gtr (.t 15) (.c (.lit (.int .i64 0)))⟩] [] []) (.cond (.t 16) (.reg [⟨none, some 17, .copy (.t 0)⟩, ⟨none, some 18, .copy (.t 0)⟩, ⟨none, some 19, .cap (.t 18)⟩, ⟨none, some 20, .slice 3 (.t 17) none (some (.t 19)) none⟩, ⟨none, some 21, .copy (.t 1)⟩, ⟨none, some 22, .appendZ true 3 24 [(.lit (.int .i64 0)), (.lit (.int .i64 0)), (.lit (.int .u32 0))] (.t 20) (.t 21)⟩, ⟨none, some 23, .copy (.t 0)⟩, ⟨none, some 24, .len (.t 23)⟩, ⟨none, some 25, .slice 3 (.t 22) none (some (.t 24)) none⟩, ⟨none, some 0, .copy (.t 25)⟩] [] []) .skip))) (.seq (.reg [⟨none, some 26, .copy (.t 0)⟩, ⟨none, some 4, .copy (.t 26)⟩] [] []) .ret)))), [.tmp 4]⟩
/- log.blocks$1 -/
def L111_0 : ICode := (.block 1 (.seq (.reg [⟨none, some 10, .load false 1 (.t 1)⟩, ⟨none, some 11, .fieldA 0 (.t 3)⟩, ⟨none, some 12, .load false 1 (.t 11)⟩, ⟨none, some 13, .slice 1 (.t 10) (some (.t 12)) none none⟩, ⟨none, some 14, .call 112 [(.t 13)]⟩, ⟨none, some 9, .copy (.t 14)⟩, ⟨none, some 15, .extract (.t 9) 0⟩, ⟨none, some 16, .extract (.t 9) 1⟩, ⟨none, some 17, .extract (.t 9) 2⟩, ⟨none, some 4, .alloc [(.lit (.int .i64 0)), nilS]⟩, ⟨none, none, .store 2 (.t 4) (.t 15)⟩, ⟨none, some 5, .copy (.t 16)⟩, ⟨none, some 6, .copy (.t 17)⟩] [] []) (.seq (.seq (.reg [⟨none, some 18, .copy (.t 6)⟩, ⟨none, some 19, .bin .neq (.t 18) (.c (.lit (.int .i64 0)))⟩, ⟨none, some 20, .copy (.t 19)⟩, ⟨some (20, false), some 21, .fieldA 0 (.t 4)⟩, ⟨some (20, false), some 22, .load false 1 (.t 21)⟩, ⟨some (20, false), some 23, .fieldA 1 (.t 3)⟩, ⟨some (20, false), some 24, .load false 1 (.t 23)⟩, ⟨some (20, false), some 25, .bin .neq (.t 22) (.t 24)⟩, ⟨none, some 26, .pick (.t 20) (.c (.lit (.bool true))) (.t 25)⟩] [] []) (.cond (.t 26) .ret .skip)) (.seq (.reg [⟨none, some 28, .fieldA 1 (.t 4)⟩, ⟨none, some 29, .load false 1 (.t 28)⟩, ⟨none, some 30, .call 79 [(.t 29)]⟩, ⟨none, some 27, .copy (.t 30)⟩, ⟨none, some 31, .extract (.t 27) 0⟩, ⟨none, some 32, .extract (.t 27) 1⟩, ⟨none, some 7, .copy (.t 31)⟩, ⟨none, some 8, .copy (.t 32)⟩] [] []) (.seq (.reg [⟨none, some 33, .fieldA 0 (.t 3)⟩, ⟨none, some 34, .load false 1 (.t 33)⟩, ⟨none, some 35, .copy (.t 5)⟩, ⟨none, some 36, .bin .add (.t 34) (.t 35)⟩, ⟨none, some 37, .fieldA 0 (.t 3)⟩, ⟨none, none, .store 1 (.t 37) (.t 36)⟩] [] []) (.seq (.reg [⟨none, some 38, .fieldA 1 (.t 3)⟩, ⟨none, some 39, .load false 1 (.t 38)⟩, ⟨none, some 40, .copy (.t 7)⟩, ⟨none, some 41, .bin .add (.t 39) (.t 40)⟩, ⟨none, some 42, .fieldA 1 (.t 3)⟩, ⟨none, none, .store 1 (.t 42) (.t 41)⟩] [] []) (.seq (.reg [⟨none, some 43, .copy (.t 0)⟩, ⟨none, some 44, .load true 2 (.t 4)⟩, ⟨none, some 45, .load true 2 (.t 3)⟩, ⟨none, some 46, .callV (.t 43) [(.t 44), (.t 45)]⟩, ⟨none, some 47, .un .not (.t 46)⟩] [] []) (.cond (.t 47) .ret .skip))))))))
def ir111 : IFn := ⟨(.seq (.reg [⟨none, some 3, .alloc [(.lit (.int .i64 0)), (.lit (.int .i64 0))]⟩] [] []) (.block 0 (.loop [1000000, 0, 1, 3] L111_0))), []⟩
/- block.Get -/
def ir112 : IFn := ⟨(.seq (.reg [⟨none, some 2, .alloc [(.lit (.int .i64 0)), nilS]⟩, ⟨none, some 3, .copy (.c (.lit (.int .i64 0)))⟩, ⟨none, some 4, .copy (.c (.lit (.int .i64 0)))⟩] [] []) (.seq (.reg [⟨none, some 16, .copy (.t 0)⟩, ⟨none, some 17, .call 140 [(.t 16)]⟩, ⟨none, some 15, .copy (.t 17)⟩, ⟨none, some 18, .extract (.t 15) 0⟩, ⟨none, some 19, .extract (.t 15) 1⟩, ⟨none, some 5, .copy (.t 18)⟩, ⟨none, some 6, .copy (.t 19)⟩] [] []) (.seq (.block 0 (.seq (.reg [⟨none, some 21, .copy (.t 6)⟩, ⟨none, some 22, .bin .neq (.t 21) (.c (.lit (.int .i64 0)))⟩, ⟨none, some 20, .copy (.t 22)⟩] [] []) (.cond (.t 20) (.seq (.reg [⟨none, some 23, .build [(.lit (.int .i64 0)), nilS] []⟩, ⟨none, some 24, .copy (.t 6)⟩, ⟨none, none, .store 2 (.t 2) (.t 23)⟩, ⟨none, some 3, .copy (.c (.lit (.int .i64 0)))⟩, ⟨none, some 4, .copy (.t 24)⟩] [] []) .ret) (.seq (.reg [⟨none, some 26, .copy (.t 5)⟩, ⟨none, some 27, .copy (.t 0)⟩, ⟨none, some 28, .len (.t 27)⟩, ⟨none, some 29, .bin .gtr (.t 26) (.t 28)⟩, ⟨none, some 25, .copy (.t 29)⟩] [] []) (.cond (.t 25) (.seq (.reg [⟨none, some 30, .build [(.lit (.int .i64 0)), nilS] []⟩, ⟨none, none, .store 2 (.t 2) (.t 30)⟩, ⟨none, some 3, .copy (.c (.lit (.int .i64 0)))⟩, ⟨none, some 4, .copy (.c (.lit (.int .i64 13)))⟩] [] []) .ret) .skip))))) (.seq (.reg [⟨none, some 32, .copy (.t 0)⟩, ⟨none, some 33, .copy (.t 5)⟩, ⟨none, some 34, .slice 1 (.t 32) none (some (.t 33)) none⟩, ⟨none, some 35, .call 141 [(.t 34)]⟩, ⟨none, some 31, .copy (.t 35)⟩, ⟨none, some 36, .extract (.t 31) 0⟩, ⟨none, some 37, .extract (.t 31) 1⟩, ⟨none, some 7, .copy (.t 36)⟩, ⟨none, some 6, .copy (.t 37)⟩] [] []) (.seq (.seq (.reg [⟨none, some 38, .copy (.t 6)⟩, ⟨none, some 39, .bin .neq (.t 38) (.c (.lit (.int .i64 0)))⟩] [] []) (.cond (.t 39) (.seq (.reg [⟨none, some 40, .build [(.lit (.int .i64 0)), nilS] []⟩, ⟨none, some 41, .copy (.t 6)⟩, ⟨none, none, .store 2 (.t 2) (.t 40)⟩, ⟨none, some 3, .copy (.c (.lit (.int .i64 0)))⟩, ⟨none, some 4, .copy (.t 41)⟩] [] []) .ret) .skip)) (.seq (.reg [⟨none, some 43, .copy (.t 7)⟩, ⟨none, some 44, .call 142 [(.t 43)]⟩, ⟨none, some 42, .copy (.t 44)⟩, ⟨none, some 45, .extract (.t 42) 0⟩, ⟨none, some 46, .extract (.t 42) 1⟩, ⟨none, some 47, .extract (.t 42) 2⟩, ⟨none, some 8, .copy (.t 45)⟩, ⟨none, some 9, .copy (.t 46)⟩, ⟨none, some 10, .copy (.t 47)⟩] [] []) (.seq (.reg [⟨none, some 49, .copy (.t 7)⟩, ⟨none, some 50, .copy (.t 9)⟩, ⟨none, some 51, .slice 1 (.t 49) (some (.t 50)) none none⟩, ⟨none, some 52, .call 143 [(.t 51)]⟩, ⟨none, some 48, .copy (.t 52)⟩, ⟨none, some 53, .extract (.t 48) 0⟩, ⟨none, some 54, .extract (.t 48) 1⟩, ⟨none, some 55, .extract (.t 48) 2⟩, ⟨none, some 11, .copy (.t 53)⟩, ⟨none, some 12, .copy (.t 54)⟩, ⟨none, some 6, .copy (.t 55)⟩] [] []) (.seq (.reg [⟨none, some 57, .copy (.t 11)⟩, ⟨none, some 58, .call 144 [(.t 57)]⟩, ⟨none, some 56, .copy (.t 58)⟩, ⟨none, some 59, .extract (.t 56) 0⟩, ⟨none, some 60, .extract (.t 56) 1⟩, ⟨none, some 13, .alloc [(.lit (.int .i64 0)), nilS]⟩, ⟨none, none, .store 2 (.t 13) (.t 59)⟩, ⟨none, some 14, .copy (.t 60)⟩] [] []) (.seq (.seq (.reg [⟨none, some 61, .copy (.t 6)⟩, ⟨none, some 62, .bin .neq (.t 61) (.c (.lit (.int .i64 0)))⟩, ⟨none, some 63, .copy (.t 62)⟩, ⟨some (63, false), some 64, .copy (.t 14)⟩, ⟨some (63, false), some 65, .un .not (.t 64)⟩, ⟨none, some 66, .pick (.t 63) (.c (.lit (.bool true))) (.t 65)⟩] [] []) (.cond (.t 66) (.seq (.reg [⟨none, some 67, .build [(.lit (.int .i64 0)), nilS] []⟩, ⟨none, none, .store 2 (.t 2) (.t 67)⟩, ⟨none, some 3, .copy (.c (.lit (.int .i64 0)))⟩, ⟨none, some 4, .copy (.c (.lit (.int .i64 11)))⟩] [] []) .ret) .skip)) (.seq (.reg [⟨none, some 68, .load true 2 (.t 13)⟩, ⟨none, some 69, .copy (.t 5)⟩, ⟨none, none, .store 2 (.t 2) (.t 68)⟩, ⟨none, some 3, .copy (.t 69)⟩, ⟨none, some 4, .copy (.c (.lit (.int .i64 0)))⟩] [] []) .ret)))))))))), [.cell 2 true 2, .tmp 3, .tmp 4]⟩
/- sum32.tail -/
def L138_0 : ICode := (.seq (.reg [⟨none, some 7, .bin .lss (.t 6) (.c (.lit (.int .i64 4)))⟩] [] []) (.seq (.cond (.t 7) .skip (.exit 0)) (.seq (.block 1 (.seq (.reg [⟨none, some 8, .copy (.t 6)⟩, ⟨none, some 4, .copy (.t 8)⟩] [] []) (.reg [⟨none, some 9, .copy (.t 3)⟩, ⟨none, some 10, .copy (.t 4)⟩, ⟨none, some 11, .copy (.t 0)⟩, ⟨none, some 12, .copy (.t 4)⟩, ⟨none, some 13, .bin .mul (.c (.lit (.int .i64 8))) (.t 12)⟩, ⟨none, some 14, .bin .shr (.t 11) (.t 13)⟩, ⟨none, some 15, .toInt .u8 (.t 14)⟩, ⟨none, some 16, .idxS 1 (.t 9) (.t 10)⟩, ⟨none, none, .store 1 (.t 16) (.t 15)⟩] [] []))) (.reg [⟨none, some 17, .bin .add (.t 6) (.c (.lit (.int .i64 1)))⟩, ⟨none, some 6, .copy (.t 17)⟩] [] []))))
def ir138 : IFn := ⟨(.seq (.reg [⟨none, some 2, .copy (.c nilS)⟩] [] []) (.seq (.reg [⟨none, some 5, .make true 1 1 [(.lit (.int .u8 0))] (.c (.lit (.int .i64 4))) (.c (.lit (.int .i64 4)))⟩, ⟨none, some 3, .copy (.t 5)⟩] [] []) (.seq (.seq (.reg [⟨none, some 6, .copy (.c (.lit (.int .i64 0)))⟩] [] []) (.block 0 (.loop [0, 3, 6] L138_0))) (.seq (.reg [⟨none, some 18, .copy (.t 3)⟩, ⟨none, some 2, .copy (.t 18)⟩] [] []) .ret)))), [.tmp 2]⟩
/- sum32.Sum -/
def L139_0 : ICode := (.seq (.reg [⟨none, some 11, .bin .lss (.t 10) (.t 9)⟩] [] []) (.seq (.cond (.t 11) .skip (.exit 0)) (.seq (.block 1 (.seq (.reg [⟨none, some 12, .idxS 1 (.t 8) (.t 10)⟩, ⟨none, some 13, .load false 1 (.t 12)⟩, ⟨none, some 6, .copy (.t 13)⟩] [] []) (.reg [⟨none, some 14, .copy (.t 4)⟩, ⟨none, some 15, .copy (.t 6)⟩, ⟨none, some 16, .callV (.t 14) [(.t 15)]⟩] [] []))) (.reg [⟨none, some 17, .bin .add (.t 10) (.c (.lit (.int .i64 1)))⟩, ⟨none, some 10, .copy (.t 17)⟩] [] []))))
def ir139 : IFn := ⟨(.seq (.reg [⟨none, some 2, .copy (.c (.lit (.int .u32 0)))⟩] [] []) (.seq (.reg [⟨none, some 3, .alloc [(.lit (.int .u32 0))]⟩, ⟨none, none, .store 1 (.t 3) (.c (.lit (.int .u32 4294967295)))⟩] [] []) (.seq (.reg [⟨none, some 7, .mkFunc (.func 155) [] [(.t 3)]⟩, ⟨none, some 4, .copy (.t 7)⟩] [] []) (.seq (.seq (.reg [⟨none, some 8, .copy (.t 0)⟩, ⟨none, some 9, .len (.t 8)⟩, ⟨none, some 10, .copy (.c (.lit (.int .i64 0)))⟩] [] []) (.block 0 (.loop [3, 4, 8, 9, 10] L139_0))) (.seq (.reg [⟨none, some 18, .load false 1 (.t 3)⟩, ⟨none, some 19, .bin .xor (.t 18) (.c (.lit (.int .u32 4294967295)))⟩, ⟨none, some 2, .copy (.t 19)⟩] [] []) .ret))))), [.tmp 2]⟩
/- block.Size -/
def ir140 : IFn := ⟨(.seq (.reg [⟨none, some 2, .copy (.c (.lit (.int .i64 0)))⟩, ⟨none, some 3, .copy (.c (.lit (.int .i64 0)))⟩] [] []) (.seq (.reg [⟨none, some 8, .copy (.t 0)⟩, ⟨none, some 9, .call 142 [(.t 8)]⟩, ⟨none, some 7, .copy (.t 9)⟩, ⟨none, some 10, .extract (.t 7) 0⟩, ⟨none, some 11, .extract (.t 7) 1⟩, ⟨none, some 12, .extract (.t 7) 2⟩, ⟨none, some 4, .copy (.t 10)⟩, ⟨none, some 5, .copy (.t 11)⟩, ⟨none, some 6, .copy (.t 12)⟩] [] []) (.seq (.block 0 (.seq (.reg [⟨none, some 14, .copy (.t 6)⟩, ⟨none, some 15, .bin .neq (.t 14) (.c (.lit (.int .i64 0)))⟩, ⟨none, some 13, .copy (.t 15)⟩] [] []) (.cond (.t 13) (.seq (.reg [⟨none, some 16, .copy (.t 6)⟩, ⟨none, some 2, .copy (.c (.lit (.int .i64 0)))⟩, ⟨none, some 3, .copy (.t 16)⟩] [] []) .ret) (.seq (.reg [⟨none, some 18, .copy (.t 4)⟩, ⟨none, some 19, .bin .gtr (.t 18) (.c (.lit (.int .u64 65536)))⟩, ⟨none, some 17, .copy (.t 19)⟩] [] []) (.cond (.t 17) (.seq (.reg [⟨none, some 2, .copy (.c (.lit (.int .i64 0)))⟩, ⟨none, some 3, .copy (.c (.lit (.int .i64 12)))⟩] [] []) .ret) .skip))))) (.seq (.reg [⟨none, some 20, .copy (.t 5)⟩, ⟨none, some 21, .copy (.t 4)⟩, ⟨none, some 22, .toInt .i64 (.t 21)⟩, ⟨none, some 23, .bin .add (.t 20) (.t 22)⟩, ⟨none, some 24, .bin .add (.t 23) (.c (.lit (.int .i64 4)))⟩, ⟨none, some 2, .copy (.t 24)⟩, ⟨none, some 3, .copy (.c (.lit (.int .i64 0)))⟩] [] []) .ret)))), [.tmp 2, .tmp 3]⟩
/- sum32.Open -/
def ir141 : IFn := ⟨(.seq (.reg [⟨none, some 2, .copy (.c nilS)⟩, ⟨none, some 3, .copy (.c (.lit (.int .i64 0)))⟩] [] []) (.seq (.reg [⟨none, some 5, .copy (.t 0)⟩, ⟨none, some 6, .len (.t 5)⟩, ⟨none, some 7, .bin .sub (.t 6) (.c (.lit (.int .i64 4)))⟩, ⟨none, some 4, .copy (.t 7)⟩] [] []) (.seq (.block 0 (.seq (.reg [⟨none, some 9, .copy (.t 4)⟩, ⟨none, some 10, .bin .lss (.t 9) (.c (.lit (.int .i64 0)))⟩, ⟨none, some 8, .copy (.t 10)⟩] [] []) (.cond (.t 8) (.seq (.reg [⟨none, some 2, .copy (.c nilS)⟩, ⟨none, some 3, .copy (.c (.lit (.int .i64 13)))⟩] [] []) .ret) (.seq (.reg [⟨none, some 12, .copy (.t 0)⟩, ⟨none, some 13, .copy (.t 4)⟩, ⟨none, some 14, .slice 1 (.t 12) (some (.t 13)) none none⟩, ⟨none, some 15, .copy (.t 0)⟩, ⟨none, some 16, .copy (.t 4)⟩, ⟨none, some 17, .slice 1 (.t 15) none (some (.t 16)) none⟩, ⟨none, some 18, .call 139 [(.t 17)]⟩, ⟨none, some 19, .call 138 [(.t 18)]⟩, ⟨none, some 20, .call 156 [(.t 14), (.t 19)]⟩, ⟨none, some 21, .un .not (.t 20)⟩, ⟨none, some 11, .copy (.t 21)⟩] [] []) (.cond (.t 11) (.seq (.reg [⟨none, some 2, .copy (.c nilS)⟩, ⟨none, some 3, .copy (.c (.lit (.int .i64 18)))⟩] [] []) .ret) .skip))))) (.seq (.reg [⟨none, some 22, .copy (.t 0)⟩, ⟨none, some 23, .copy (.t 4)⟩, ⟨none, some 24, .slice 1 (.t 22) none (some (.t 23)) none⟩, ⟨none, some 25, .callU 70 [(.t 24)]⟩, ⟨none, some 2, .copy (.t 25)⟩, ⟨none, some 3, .copy (.c (.lit (.int .i64 0)))⟩] [] []) .ret)))), [.tmp 2, .tmp 3]⟩
/- vari.Get -/
def L142_0 : ICode := (.seq (.reg [⟨none, some 13, .bin .lss (.t 12) (.t 11)⟩] [] []) (.seq (.cond (.t 13) .skip (.exit 0)) (.seq (.block 1 (.seq (.reg [⟨none, some 14, .copy (.t 12)⟩, ⟨none, some 15, .idxS 1 (.t 10) (.t 12)⟩, ⟨none, some 16, .load false 1 (.t 15)⟩, ⟨none, some 8, .copy (.t 14)⟩, ⟨none, some 9, .copy (.t 16)⟩] [] []) (.seq (.block 2 (.seq (.reg [⟨none, some 18, .copy (.t 8)⟩, ⟨none, some 19, .bin .eql (.t 18) (.c (.lit (.int .i64 9)))⟩, ⟨none, some 20, .copy (.t 19)⟩, ⟨some (20, true), some 21, .copy (.t 9)⟩, ⟨some (20, true), some 22, .bin .gtr (.t 21) (.c (.lit (.int .u8 1)))⟩, ⟨none, some 23, .pick (.t 20) (.t 22) (.c (.lit (.bool false)))⟩, ⟨none, some 17, .copy (.t 23)⟩] [] []) (.cond (.t 17) (.seq (.reg [⟨none, some 6, .copy (.c (.lit (.int .i64 10)))⟩] [] []) (.exit 0)) (.seq (.reg [⟨none, some 25, .copy (.t 9)⟩, ⟨none, some 26, .bin .eql (.t 25) (.c (.lit (.int .u8 0)))⟩, ⟨none, some 27, .copy (.t 26)⟩, ⟨some (27, true), some 28, .copy (.t 8)⟩, ⟨some (27, true), some 29, .bin .gtr (.t 28) (.c (.lit (.int .i64 0)))⟩, ⟨none, some 30, .pick (.t 27) (.t 29) (.c (.lit (.bool false)))⟩, ⟨none, some 24, .copy (.t 30)⟩] [] []) (.cond (.t 24) (.seq (.reg [⟨none, some 6, .copy (.c (.lit (.int .i64 11)))⟩] [] []) (.exit 0)) .skip))))) (.seq (.reg [⟨none, some 31, .copy (.t 5)⟩, ⟨none, some 32, .copy (.t 9)⟩, ⟨none, some 33, .bin .and (.t 32) (.c (.lit (.int .u8 127)))⟩, ⟨none, some 34, .toInt .u64 (.t 33)⟩, ⟨none, some 35, .copy (.t 8)⟩, ⟨none, some 36, .bin .mul (.c (.lit (.int .i64 7))) (.t 35)⟩, ⟨none, some 37, .bin .shl (.t 34) (.t 36)⟩, ⟨none, some 38, .bin .or (.t 31) (.t 37)⟩, ⟨none, some 5, .copy (.t 38)⟩] [] []) (.seq (.reg [⟨none, some 39, .copy (.t 9)⟩, ⟨none, some 40, .bin .lss (.t 39) (.c (.lit (.int .u8 128)))⟩] [] []) (.cond (.t 40) (.seq (.reg [⟨none, some 41, .copy (.t 8)⟩, ⟨none, some 42, .bin .add (.t 41) (.c (.lit (.int .i64 1)))⟩, ⟨none, some 7, .copy (.t 42)⟩, ⟨none, some 6, .copy (.c (.lit (.int .i64 0)))⟩] [] []) (.exit 0)) .skip)))))) (.reg [⟨none, some 43, .bin .add (.t 12) (.c (.lit (.int .i64 1)))⟩, ⟨none, some 12, .copy (.t 43)⟩] [] []))))
def ir142 : IFn := ⟨(.seq (.reg [⟨none, some 2, .copy (.c (.lit (.int .u64 0)))⟩, ⟨none, some 3, .copy (.c (.lit (.int .i64 0)))⟩, ⟨none, some 4, .copy (.c (.lit (.int .i64 0)))⟩] [] []) (.scope (.seq (.reg [⟨none, some 5, .copy (.c (.lit (.int .u64 0)))⟩] [] []) (.seq (.reg [⟨none, some 6, .copy (.c (.lit (.int .i64 13)))⟩] [] []) (.seq (.reg [⟨none, some 7, .copy (.c (.lit (.int .i64 0)))⟩] [] []) (.seq .skip (.seq (.seq (.reg [⟨none, some 10, .copy (.t 0)⟩, ⟨none, some 11, .len (.t 10)⟩, ⟨none, some 12, .copy (.c (.lit (.int .i64 0)))⟩] [] []) (.block 0 (.loop [5, 6, 7, 10, 11, 12] L142_0))) (.seq (.seq (.reg [⟨none, some 44, .copy (.t 6)⟩, ⟨none, some 45, .bin .neq (.t 44) (.c (.lit (.int .i64 0)))⟩] [] []) (.cond (.t 45) (.seq (.reg [⟨none, some 46, .copy (.t 6)⟩, ⟨none, some 2, .copy (.c (.lit (.int .u64 0)))⟩, ⟨none, some 3, .copy (.c (.lit (.int .i64 0)))⟩, ⟨none, some 4, .copy (.t 46)⟩] [] []) .ret) .skip)) (.seq (.reg [⟨none, some 47, .copy (.t 5)⟩, ⟨none, some 48, .copy (.t 7)⟩, ⟨none, some 2, .copy (.t 47)⟩, ⟨none, some 3, .copy (.t 48)⟩, ⟨none, some 4, .copy (.c (.lit (.int .i64 0)))⟩] [] []) .ret))))))))), [.tmp 2, .tmp 3, .tmp 4]⟩
/- vari.All -/
def A143_0 : ICode := (.reg [⟨none, some 6, .alloc [(.lit (.int .u64 0)), (.lit (.int .i64 0)), (.lit (.int .i64 0))]⟩, ⟨none, none, .store 3 (.t 6) (.t 9)⟩] [] [])
def B143_0 : ICode := (.block 1 (.seq (.seq (.reg [⟨none, some 10, .fieldA 2 (.t 6)⟩, ⟨none, some 11, .load false 1 (.t 10)⟩, ⟨none, some 12, .bin .neq (.t 11) (.c (.lit (.int .i64 0)))⟩] [] []) (.cond (.t 12) (.seq (.reg [⟨none, some 13, .fieldA 1 (.t 6)⟩, ⟨none, some 14, .load false 1 (.t 13)⟩, ⟨none, some 15, .fieldA 2 (.t 6)⟩, ⟨none, some 16, .load false 1 (.t 15)⟩, ⟨none, none, .store 1 (.t 2) (.c nilS)⟩, ⟨none, none, .store 1 (.t 3) (.t 14)⟩, ⟨none, none, .store 1 (.t 4) (.t 16)⟩] [(1, 4), (3, 4), (3, 5)] []) .ret) .skip)) (.reg [⟨none, some 17, .load false 1 (.t 5)⟩, ⟨none, some 18, .fieldA 0 (.t 6)⟩, ⟨none, some 19, .load false 1 (.t 18)⟩, ⟨none, some 20, .mkSlice true 1 [(.lit (.int .u64 0))] 1 [(0, (.t 19))]⟩, ⟨none, some 21, .append true 1 8 (.t 17) (.t 20)⟩, ⟨none, none, .store 1 (.t 5) (.t 21)⟩] [] [])))
def ir143 : IFn := ⟨(.seq (.reg [⟨none, some 2, .alloc [nilS]⟩, ⟨none, some 3, .alloc [(.lit (.int .i64 0))]⟩, ⟨none, some 4, .alloc [(.lit (.int .i64 0))]⟩] [] []) (.seq (.reg [⟨none, some 5, .alloc [nilS]⟩] [] []) (.seq (.seq (.reg [⟨none, some 7, .copy (.t 0)⟩, ⟨none, some 8, .call 157 [(.t 7)]⟩] [] []) (.block 0 (.range (.t 8) [2, 3, 4, 5] [9] A143_0 B143_0))) (.seq (.reg [⟨none, some 22, .load false 1 (.t 5)⟩, ⟨none, none, .store 1 (.t 2) (.t 22)⟩, ⟨none, none, .store 1 (.t 3) (.c (.lit (.int .i64 0)))⟩, ⟨none, none, .store 1 (.t 4) (.c (.lit (.int .i64 0)))⟩] [] []) .ret)))), [.cell 2 false 1, .cell 3 false 1, .cell 4 false 1]⟩
/- block.inside -/
def L144_0 : ICode := (.seq (.reg [⟨none, some 20, .bin .lss (.t 19) (.t 18)⟩] [] []) (.seq (.cond (.t 20) .skip (.exit 0)) (.seq (.block 1 (.seq (.reg [⟨none, some 21, .copy (.t 5)⟩, ⟨none, some 22, .callV (.t 21) [(.c (.lit (.int .u64 1073741824)))]⟩, ⟨none, some 23, .toInt .i64 (.t 22)⟩, ⟨none, some 24, .copy (.t 5)⟩, ⟨none, some 25, .callV (.t 24) [(.c (.lit (.int .u64 4294967295)))]⟩, ⟨none, some 26, .toInt .u32 (.t 25)⟩, ⟨none, some 27, .copy (.t 8)⟩, ⟨none, some 28, .bin .xor (.t 26) (.t 27)⟩, ⟨none, some 29, .build [(.lit (.int .i64 0)), (.lit (.int .i64 0)), (.lit (.int .u32 0))] [(0, 1, (.t 23)), (2, 1, (.t 28))]⟩, ⟨none, some 9, .alloc [(.lit (.int .i64 0)), (.lit (.int .i64 0)), (.lit (.int .u32 0))]⟩, ⟨none, none, .store 3 (.t 9) (.t 29)⟩] [] []) (.seq (.seq (.reg [⟨none, some 30, .fieldA 2 (.t 9)⟩, ⟨none, some 31, .load false 1 (.t 30)⟩, ⟨none, some 8, .copy (.t 31)⟩] [] []) (.seq (.reg [⟨none, some 32, .copy (.t 8)⟩, ⟨none, some 33, .bin .eql (.t 32) (.c (.lit (.int .u32 4294967295)))⟩] [] []) (.cond (.t 33) (.reg [⟨none, some 34, .fieldA 1 (.t 9)⟩, ⟨none, none, .store 1 (.t 34) (.c (.lit (.int .i64 1)))⟩] [] []) .skip))) (.reg [⟨none, some 35, .fieldA 1 (.t 6)⟩, ⟨none, some 36, .load false 1 (.t 35)⟩, ⟨none, some 37, .load true 3 (.t 9)⟩, ⟨none, some 38, .mkSlice true 3 [(.lit (.int .i64 0)), (.lit (.int .i64 0)), (.lit (.int .u32 0))] 1 [(0, (.t 37))]⟩, ⟨none, some 39, .append true 3 24 (.t 36) (.t 38)⟩, ⟨none, some 40, .fieldA 1 (.t 6)⟩, ⟨none, none, .store 1 (.t 40) (.t 39)⟩] [] [])))) (.reg [⟨none, some 41, .bin .add (.t 19) (.c (.lit (.int .i64 1)))⟩, ⟨none, some 19, .copy (.t 41)⟩] [] []))))
def ir144 : IFn := ⟨(.seq (.reg [⟨none, some 1, .box 1 (.t 0)⟩, ⟨none, some 2, .alloc [(.lit (.int .i64 0)), nilS]⟩, ⟨none, some 3, .copy (.c (.lit (.bool false)))⟩] [] []) (.seq (.reg [⟨none, some 4, .alloc [(.lit (.bool false))]⟩, ⟨none, none, .store 1 (.t 4) (.c (.lit (.bool true)))⟩] [] []) (.seq (.reg [⟨none, some 10, .mkFunc (.func 158) [] [(.t 1), (.t 4)]⟩, ⟨none, some 5, .copy (.t 10)⟩] [] []) (.seq (.reg [⟨none, some 11, .copy (.t 5)⟩, ⟨none, some 12, .callV (.t 11) [(.c (.lit (.int .u64 1073741824)))]⟩, ⟨none, some 13, .toInt .i64 (.t 12)⟩, ⟨none, some 14, .build [(.lit (.int .i64 0)), nilS] [(0, 1, (.t 13))]⟩, ⟨none, some 6, .alloc [(.lit (.int .i64 0)), nilS]⟩, ⟨none, none, .store 2 (.t 6) (.t 14)⟩] [] []) (.seq (.reg [⟨none, some 15, .copy (.t 5)⟩, ⟨none, some 16, .callV (.t 15) [(.c (.lit (.int .u64 4096)))]⟩, ⟨none, some 17, .toInt .i64 (.t 16)⟩, ⟨none, some 7, .copy (.t 17)⟩] [] []) (.seq (.reg [⟨none, some 8, .copy (.c (.lit (.int .u32 4294967295)))⟩] [] []) (.seq (.seq (.reg [⟨none, some 18, .copy (.t 7)⟩, ⟨none, some 19, .copy (.c (.lit (.int .i64 0)))⟩] [] []) (.block 0 (.loop [1, 2, 4, 5, 6, 8, 18, 19] L144_0))) (.seq (.reg [⟨none, some 42, .load true 2 (.t 6)⟩, ⟨none, some 43, .load false 1 (.t 4)⟩, ⟨none, some 44, .copy (.t 43)⟩, ⟨some (44, true), some 45, .load false 1 (.t 1)⟩, ⟨some (44, true), some 46, .len (.t 45)⟩, ⟨some (44, true), some 47, .bin .eql (.t 46) (.c (.lit (.int .i64 0)))⟩, ⟨none, some 48, .pick (.t 44) (.t 47) (.c (.lit (.bool false)))⟩, ⟨none, some 49, .copy (.t 48)⟩, ⟨some (49, true), some 50, .load true 2 (.t 6)⟩, ⟨some (49, true), some 51, .call 104 [(.t 50)]⟩, ⟨some (49, true), some 52, .bin .eql (.t 51) (.c (.lit (.int .i64 0)))⟩, ⟨none, some 53, .pick (.t 49) (.t 52) (.c (.lit (.bool false)))⟩, ⟨none, none, .store 2 (.t 2) (.t 42)⟩, ⟨none, some 3, .copy (.t 53)⟩] [(0, 9)] []) .ret)))))))), [.cell 2 true 2, .tmp 3]⟩
/- sum32.Sum$1 -/
def L155_0 : ICode := (.seq (.reg [⟨none, some 8, .bin .lss (.t 7) (.c (.lit (.int .i64 8)))⟩] [] []) (.seq (.cond (.t 8) .skip (.exit 0)) (.seq (.block 1 (.reg [⟨none, some 9, .load false 1 (.t 1)⟩, ⟨none, some 10, .bin .shr (.t 9) (.c (.lit (.int .u64 1)))⟩, ⟨none, some 11, .load false 1 (.t 1)⟩, ⟨none, some 12, .bin .and (.t 11) (.c (.lit (.int .u32 1)))⟩, ⟨none, some 13, .bin .mul (.t 12) (.c (.lit (.int .u32 3988292384)))⟩, ⟨none, some 14, .bin .xor (.t 10) (.t 13)⟩, ⟨none, none, .store 1 (.t 1) (.t 14)⟩] [] [])) (.reg [⟨none, some 15, .bin .add (.t 7) (.c (.lit (.int .i64 1)))⟩, ⟨none, some 7, .copy (.t 15)⟩] [] []))))
def ir155 : IFn := ⟨(.seq (.reg [⟨none, some 3, .load false 1 (.t 1)⟩, ⟨none, some 4, .copy (.t 0)⟩, ⟨none, some 5, .toInt .u32 (.t 4)⟩, ⟨none, some 6, .bin .xor (.t 3) (.t 5)⟩, ⟨none, none, .store 1 (.t 1) (.t 6)⟩] [] []) (.seq (.reg [⟨none, some 7, .copy (.c (.lit (.int .i64 0)))⟩] [] []) (.block 0 (.loop [1, 7] L155_0)))), []⟩
/- bytes.Equal -/
def ir156 : IFn := ⟨(.seq (.reg [⟨none, some 4, .copy (.c (.lit (.bool false)))⟩] [] []) (.seq (.reg [⟨none, some 5, .copy (.t 0)⟩, ⟨none, some 6, .toStr (.t 5)⟩, ⟨none, some 7, .copy (.t 1)⟩, ⟨none, some 8, .toStr (.t 7)⟩, ⟨none, some 9, .bin .eql (.t 6) (.t 8)⟩, ⟨none, some 4, .copy (.t 9)⟩] [] []) .ret)), [.tmp 4]⟩
/- vari.numbers -/
def ir157 : IFn := ⟨(.seq (.reg [⟨none, some 1, .box 1 (.t 0)⟩, ⟨none, some 2, .copy (.c (.lit .nilFunc))⟩] [] []) (.seq (.reg [⟨none, some 3, .mkFunc (.func 162) [] [(.t 1)]⟩, ⟨none, some 2, .copy (.t 3)⟩] [] []) .ret)), [.tmp 2]⟩
/- block.inside$1 -/
def ir158 : IFn := ⟨(.seq (.reg [⟨none, some 4, .copy (.c (.lit (.int .u64 0)))⟩] [] []) (.seq (.seq (.reg [⟨none, some 6, .load false 1 (.t 1)⟩, ⟨none, some 7, .len (.t 6)⟩, ⟨none, some 8, .bin .eql (.t 7) (.c (.lit (.int .i64 0)))⟩, ⟨none, some 9, .copy (.t 8)⟩, ⟨some (9, false), some 10, .load false 1 (.t 1)⟩, ⟨some (9, false), some 11, .idxS 1 (.t 10) (.c (.lit (.int .i64 0)))⟩, ⟨some (9, false), some 12, .load false 1 (.t 11)⟩, ⟨some (9, false), some 13, .copy (.t 0)⟩, ⟨some (9, false), some 14, .bin .gtr (.t 12) (.t 13)⟩, ⟨none, some 15, .pick (.t 9) (.c (.lit (.bool true))) (.t 14)⟩] [] []) (.cond (.t 15) (.seq (.reg [⟨none, none, .store 1 (.t 2) (.c (.lit (.bool false)))⟩] [] []) (.seq (.reg [⟨none, some 4, .copy (.c (.lit (.int .u64 0)))⟩] [] []) .ret)) .skip)) (.seq (.reg [⟨none, some 16, .load false 1 (.t 1)⟩, ⟨none, some 17, .idxS 1 (.t 16) (.c (.lit (.int .i64 0)))⟩, ⟨none, some 18, .load false 1 (.t 17)⟩, ⟨none, some 5, .copy (.t 18)⟩] [] []) (.seq (.reg [⟨none, some 19, .load false 1 (.t 1)⟩, ⟨none, some 20, .slice 1 (.t 19) (some (.c (.lit (.int .i64 1)))) none none⟩, ⟨none, none, .store 1 (.t 1) (.t 20)⟩] [] []) (.seq (.reg [⟨none, some 21, .copy (.t 5)⟩, ⟨none, some 4, .copy (.t 21)⟩] [] []) .ret))))), [.tmp 4]⟩
/- vari.numbers$1 -/
def L162_0 : ICode := (.seq (.seq (.reg [⟨none, some 7, .copy (.t 3)⟩, ⟨none, some 8, .load false 1 (.t 1)⟩, ⟨none, some 9, .len (.t 8)⟩, ⟨none, some 10, .bin .lss (.t 7) (.t 9)⟩] [] []) (.cond (.t 10) .skip (.exit 0))) (.block 1 (.seq (.reg [⟨none, some 12, .load false 1 (.t 1)⟩, ⟨none, some 13, .copy (.t 3)⟩, ⟨none, some 14, .slice 1 (.t 12) (some (.t 13)) none none⟩, ⟨none, some 15, .call 142 [(.t 14)]⟩, ⟨none, some 11, .copy (.t 15)⟩, ⟨none, some 16, .extract (.t 11) 0⟩, ⟨none, some 17, .extract (.t 11) 1⟩, ⟨none, some 18, .extract (.t 11) 2⟩, ⟨none, some 4, .copy (.t 16)⟩, ⟨none, some 5, .copy (.t 17)⟩, ⟨none, some 6, .copy (.t 18)⟩] [] []) (.seq (.seq (.reg [⟨none, some 19, .copy (.t 0)⟩, ⟨none, some 20, .copy (.t 4)⟩, ⟨none, some 21, .copy (.t 3)⟩, ⟨none, some 22, .copy (.t 6)⟩, ⟨none, some 23, .build [(.lit (.int .u64 0)), (.lit (.int .i64 0)), (.lit (.int .i64 0))] [(0, 1, (.t 20)), (1, 1, (.t 21)), (2, 1, (.t 22))]⟩, ⟨none, some 24, .callV (.t 19) [(.t 23)]⟩, ⟨none, some 25, .un .not (.t 24)⟩, ⟨none, some 26, .copy (.t 25)⟩, ⟨some (26, false), some 27, .copy (.t 6)⟩, ⟨some (26, false), some 28, .bin .neq (.t 27) (.c (.lit (.int .i64 0)))⟩, ⟨none, some 29, .pick (.t 26) (.c (.lit (.bool true))) (.t 28)⟩] [] []) (.cond (.t 29) .ret .skip)) (.reg [⟨none, some 30, .copy (.t 3)⟩, ⟨none, some 31, .copy (.t 5)⟩, ⟨none, some 32, .bin .add (.t 30) (.t 31)⟩, ⟨none, some 3, .copy (.t 32)⟩] [] [])))))
def ir162 : IFn := ⟨(.seq (.reg [⟨none, some 3, .copy (.c (.lit (.int .i64 0)))⟩] [] []) (.block 0 (.loop [0, 1, 3] L162_0))), []⟩
def lives : Nat → List (List Nat)
  | 5 => [[1000000, 0, 1, 5, 7, 8, 9], [1000000, 5, 7, 10, 12, 13, 14, 17, 19, 20, 21, 22, 23, 24, 25]]
  | 17 => [[1000000, 0, 3], [1000000, 0, 3, 4]]
  | 23 => [[0, 1, 5]]
  | 29 => [[0, 3, 11, 12, 13]]
  | 33 => [[0, 1, 5]]
  | 41 => [[0, 47, 48, 49]]
  | 42 => [[5]]
  | 63 => [[4, 5]]
  | 76 => [[5, 6, 7, 28, 29, 30]]
  | 79 => [[4, 7, 8, 9]]
  | 80 => [[3, 4, 8, 9, 10]]
  | 81 => [[0, 3, 9, 10, 11], [6, 25, 26, 27]]
  | 104 => [[1, 3, 37, 38]]
  | 106 => [[0, 3]]
  | 111 => [[1000000, 0, 1, 3]]
  | 138 => [[0, 3, 6]]
  | 139 => [[3, 4, 8, 9, 10]]
  | 142 => [[5, 6, 7, 10, 11, 12]]
  | 143 => [[2, 3, 4, 5]]
  | 144 => [[1, 2, 4, 5, 6, 8, 18, 19]]
  | 155 => [[1, 7]]
  | 162 => [[0, 1, 3]]
  | _ => []
theorem K5 : compF Try.prog (lives 5) 5 = some ir5 := by kernel_rfl
theorem K17 : compF Try.prog (lives 17) 17 = some ir17 := by kernel_rfl
theorem K18 : compF Try.prog (lives 18) 18 = some ir18 := by kernel_rfl
theorem K19 : compF Try.prog (lives 19) 19 = some ir19 := by kernel_rfl
theorem K22 : compF Try.prog (lives 22) 22 = some ir22 := by kernel_rfl
theorem K23 : compF Try.prog (lives 23) 23 = some ir23 := by kernel_rfl
theorem K24 : compF Try.prog (lives 24) 24 = some ir24 := by kernel_rfl
theorem K26 : compF Try.prog (lives 26) 26 = some ir26 := by kernel_rfl
theorem K29 : compF Try.prog (lives 29) 29 = some ir29 := by kernel_rfl
theorem K31 : compF Try.prog (lives 31) 31 = some ir31 := by kernel_rfl
theorem K32 : compF Try.prog (lives 32) 32 = some ir32 := by kernel_rfl
theorem K33 : compF Try.prog (lives 33) 33 = some ir33 := by kernel_rfl
theorem K35 : compF Try.prog (lives 35) 35 = some ir35 := by kernel_rfl
theorem K36 : compF Try.prog (lives 36) 36 = some ir36 := by kernel_rfl
theorem K37 : compF Try.prog (lives 37) 37 = some ir37 := by kernel_rfl
theorem K38 : compF Try.prog (lives 38) 38 = some ir38 := by kernel_rfl
theorem K39 : compF Try.prog (lives 39) 39 = some ir39 := by kernel_rfl
theorem K40 : compF Try.prog (lives 40) 40 = some ir40 := by kernel_rfl
theorem K41 : compF Try.prog (lives 41) 41 = some ir41 := by kernel_rfl
theorem K42 : compF Try.prog (lives 42) 42 = some ir42 := by kernel_rfl
theorem K63 : compF Try.prog (lives 63) 63 = some ir63 := by kernel_rfl
theorem K64 : compF Try.prog (lives 64) 64 = some ir64 := by kernel_rfl
theorem K70 : compF Try.prog (lives 70) 70 = some ir70 := by kernel_rfl
theorem K71 : compF Try.prog (lives 71) 71 = some ir71 := by kernel_rfl
theorem K72 : compF Try.prog (lives 72) 72 = some ir72 := by kernel_rfl
theorem K73 : compF Try.prog (lives 73) 73 = some ir73 := by kernel_rfl
theorem K74 : compF Try.prog (lives 74) 74 = some ir74 := by kernel_rfl
theorem K75 : compF Try.prog (lives 75) 75 = some ir75 := by kernel_rfl
theorem K76 : compF Try.prog (lives 76) 76 = some ir76 := by kernel_rfl
theorem K77 : compF Try.prog (lives 77) 77 = some ir77 := by kernel_rfl
theorem K78 : compF Try.prog (lives 78) 78 = some ir78 := by kernel_rfl
theorem K79 : compF Try.prog (lives 79) 79 = some ir79 := by kernel_rfl
theorem K80 : compF Try.prog (lives 80) 80 = some ir80 := by kernel_rfl
theorem K81 : compF Try.prog (lives 81) 81 = some ir81 := by kernel_rfl
theorem K82 : compF Try.prog (lives 82) 82 = some ir82 := by kernel_rfl
theorem K83 : compF Try.prog (lives 83) 83 = some ir83 := by kernel_rfl
theorem K84 : compF Try.prog (lives 84) 84 = some ir84 := by kernel_rfl
theorem K85 : compF Try.prog (lives 85) 85 = some ir85 := by kernel_rfl
theorem K86 : compF Try.prog (lives 86) 86 = some ir86 := by kernel_rfl
theorem K104 : compF Try.prog (lives 104) 104 = some ir104 := by kernel_rfl
theorem K105 : compF Try.prog (lives 105) 105 = some ir105 := by kernel_rfl
theorem K106 : compF Try.prog (lives 106) 106 = some ir106 := by kernel_rfl
theorem K107 : compF Try.prog (lives 107) 107 = some ir107 := by kernel_rfl
theorem K108 : compF Try.prog (lives 108) 108 = some ir108 := by kernel_rfl
theorem K109 : compF Try.prog (lives 109) 109 = some ir109 := by kernel_rfl
theorem K110 : compF Try.prog (lives 110) 110 = some ir110 := by kernel_rfl
theorem K111 : compF Try.prog (lives 111) 111 = some ir111 := by kernel_rfl
theorem K112 : compF Try.prog (lives 112) 112 = some ir112 := by kernel_rfl
theorem K138 : compF Try.prog (lives 138) 138 = some ir138 := by kernel_rfl
theorem K139 : compF Try.prog (lives 139) 139 = some ir139 := by kernel_rfl
theorem K140 : compF Try.prog (lives 140) 140 = some ir140 := by kernel_rfl
theorem K141 : compF Try.prog (lives 141) 141 = some ir141 := by kernel_rfl
theorem K142 : compF Try.prog (lives 142) 142 = some ir142 := by kernel_rfl
theorem K143 : compF Try.prog (lives 143) 143 = some ir143 := by kernel_rfl
theorem K144 : compF Try.prog (lives 144) 144 = some ir144 := by kernel_rfl
theorem K155 : compF Try.prog (lives 155) 155 = some ir155 := by kernel_rfl
theorem K156 : compF Try.prog (lives 156) 156 = some ir156 := by kernel_rfl
theorem K157 : compF Try.prog (lives 157) 157 = some ir157 := by kernel_rfl
theorem K158 : compF Try.prog (lives 158) 158 = some ir158 := by kernel_rfl
theorem K162 : compF Try.prog (lives 162) 162 = some ir162 := by kernel_rfl
/-- The functions that are gone through. -/
def tab : List (Nat × IFn) := [(5, ir5), (17, ir17), (18, ir18), (19, ir19), (22, ir22), (23, ir23), (24, ir24), (26, ir26), (29, ir29), (31, ir31), (32, ir32), (33, ir33), (35, ir35), (36, ir36), (37, ir37), (38, ir38), (39, ir39), (40, ir40), (41, ir41), (42, ir42), (63, ir63), (64, ir64), (70, ir70), (71, ir71), (72, ir72), (73, ir73), (74, ir74), (75, ir75), (76, ir76), (77, ir77), (78, ir78), (79, ir79), (80, ir80), (81, ir81), (82, ir82), (83, ir83), (84, ir84), (85, ir85), (86, ir86), (104, ir104), (105, ir105), (106, ir106), (107, ir107), (108, ir108), (109, ir109), (110, ir110), (111, ir111), (112, ir112), (138, ir138), (139, ir139), (140, ir140), (141, ir141), (142, ir142), (143, ir143), (144, ir144), (155, ir155), (156, ir156), (157, ir157), (158, ir158), (162, ir162)]
def E (f : Nat) : Option IFn := tab.lookup f
theorem E5 : E 5 = some ir5 := rfl
theorem E17 : E 17 = some ir17 := rfl
theorem E18 : E 18 = some ir18 := rfl
theorem E19 : E 19 = some ir19 := rfl
theorem E22 : E 22 = some ir22 := rfl
theorem E23 : E 23 = some ir23 := rfl
theorem E24 : E 24 = some ir24 := rfl
theorem E26 : E 26 = some ir26 := rfl
theorem E29 : E 29 = some ir29 := rfl
theorem E31 : E 31 = some ir31 := rfl
theorem E32 : E 32 = some ir32 := rfl
theorem E33 : E 33 = some ir33 := rfl
theorem E35 : E 35 = some ir35 := rfl
theorem E36 : E 36 = some ir36 := rfl
theorem E37 : E 37 = some ir37 := rfl
theorem E38 : E 38 = some ir38 := rfl
theorem E39 : E 39 = some ir39 := rfl
theorem E40 : E 40 = some ir40 := rfl
theorem E41 : E 41 = some ir41 := rfl
theorem E42 : E 42 = some ir42 := rfl
theorem E63 : E 63 = some ir63 := rfl
theorem E64 : E 64 = some ir64 := rfl
theorem E70 : E 70 = some ir70 := rfl
theorem E71 : E 71 = some ir71 := rfl
theorem E72 : E 72 = some ir72 := rfl
theorem E73 : E 73 = some ir73 := rfl
theorem E74 : E 74 = some ir74 := rfl
theorem E75 : E 75 = some ir75 := rfl
theorem E76 : E 76 = some ir76 := rfl
theorem E77 : E 77 = some ir77 := rfl
theorem E78 : E 78 = some ir78 := rfl
theorem E79 : E 79 = some ir79 := rfl
theorem E80 : E 80 = some ir80 := rfl
theorem E81 : E 81 = some ir81 := rfl
theorem E82 : E 82 = some ir82 := rfl
theorem E83 : E 83 = some ir83 := rfl
theorem E84 : E 84 = some ir84 := rfl
theorem E85 : E 85 = some ir85 := rfl
theorem E86 : E 86 = some ir86 := rfl
theorem E104 : E 104 = some ir104 := rfl
theorem E105 : E 105 = some ir105 := rfl
theorem E106 : E 106 = some ir106 := rfl
theorem E107 : E 107 = some ir107 := rfl
theorem E108 : E 108 = some ir108 := rfl
theorem E109 : E 109 = some ir109 := rfl
theorem E110 : E 110 = some ir110 := rfl
theorem E111 : E 111 = some ir111 := rfl
theorem E112 : E 112 = some ir112 := rfl
theorem E138 : E 138 = some ir138 := rfl
theorem E139 : E 139 = some ir139 := rfl
theorem E140 : E 140 = some ir140 := rfl
theorem E141 : E 141 = some ir141 := rfl
theorem E142 : E 142 = some ir142 := rfl
theorem E143 : E 143 = some ir143 := rfl
theorem E144 : E 144 = some ir144 := rfl
theorem E155 : E 155 = some ir155 := rfl
theorem E156 : E 156 = some ir156 := rfl
theorem E157 : E 157 = some ir157 := rfl
theorem E158 : E 158 = some ir158 := rfl
theorem E162 : E 162 = some ir162 := rfl
set_option maxRecDepth 100000 in
theorem tab_ok : ∀ p ∈ tab, ∃ ls, compF Try.prog ls p.1 = some p.2 := by
  simp only [tab, List.forall_mem_cons]
  exact ⟨⟨_, K5⟩, ⟨_, K17⟩, ⟨_, K18⟩, ⟨_, K19⟩, ⟨_, K22⟩, ⟨_, K23⟩, ⟨_, K24⟩, ⟨_, K26⟩, ⟨_, K29⟩, ⟨_, K31⟩, ⟨_, K32⟩, ⟨_, K33⟩, ⟨_, K35⟩, ⟨_, K36⟩, ⟨_, K37⟩, ⟨_, K38⟩, ⟨_, K39⟩, ⟨_, K40⟩, ⟨_, K41⟩, ⟨_, K42⟩, ⟨_, K63⟩, ⟨_, K64⟩, ⟨_, K70⟩, ⟨_, K71⟩, ⟨_, K72⟩, ⟨_, K73⟩, ⟨_, K74⟩, ⟨_, K75⟩, ⟨_, K76⟩, ⟨_, K77⟩, ⟨_, K78⟩, ⟨_, K79⟩, ⟨_, K80⟩, ⟨_, K81⟩, ⟨_, K82⟩, ⟨_, K83⟩, ⟨_, K84⟩, ⟨_, K85⟩, ⟨_, K86⟩, ⟨_, K104⟩, ⟨_, K105⟩, ⟨_, K106⟩, ⟨_, K107⟩, ⟨_, K108⟩, ⟨_, K109⟩, ⟨_, K110⟩, ⟨_, K111⟩, ⟨_, K112⟩, ⟨_, K138⟩, ⟨_, K139⟩, ⟨_, K140⟩, ⟨_, K141⟩, ⟨_, K142⟩, ⟨_, K143⟩, ⟨_, K144⟩, ⟨_, K155⟩, ⟨_, K156⟩, ⟨_, K157⟩, ⟨_, K158⟩, ⟨_, K162⟩, fun _ h => by cases h⟩
theorem lookup_mem {α : Type} {f : Nat} {x : α} : ∀ {l : List (Nat × α)}, l.lookup f = some x → (f, x) ∈ l
  | [], h => by simp at h
  | (g, y) :: r, h => by
    rw [List.lookup_cons] at h
    by_cases hg : f = g
    · subst hg; simp at h; simp [h]
    · rw [show (f == g) = false from by simpa using hg] at h; exact List.mem_cons_of_mem _ (lookup_mem h)
set_option maxRecDepth 100000 in
theorem hE (f : Nat) (fn : IFn) (h : E f = some fn) : ∃ ls, compF Try.prog ls f = some fn := tab_ok _ (lookup_mem h)
end Go.AM.R1
open Go Go.AM
namespace Go.AM.R1

theorem wrap64 {x : Int} (h1 : -9223372036854775808 ≤ x) (h2 : x ≤ 9223372036854775807) : IntKind.wrap .i64 x = x := by
  simp [IntKind.wrap, IntKind.bits, IntKind.signed]; omega
theorem wrapIdx {i : Nat} (h : i < 9223372036854775807) : IntKind.wrap .i64 ((i : Int) + 1) = ((i + 1 : Nat) : Int) := by
  rw [wrap64 (by omega) (by omega)]; omega

structure Run where
  N : Int
  Bus : Int
  Drive : Int
  deriving DecidableEq

def encRun (r : Run) : List AVal := [.lit (.int .i64 r.N), .lit (.int .i64 r.Bus), .lit (.int .u32 r.Drive)]
structure Run.Ok (r : Run) : Prop where
  n1 : -9223372036854775808 ≤ r.N
  n2 : r.N ≤ 9223372036854775807

def right (r : Run) : Bool := decide (1 ≤ r.N) && decide (r.N ≤ 1073741824) && decide (r.Bus = if r.Drive = 4294967295 then 1 else 0)

theorem right_spec (r : Run) : call E (.func (.func 108) [] []) [.agg (encRun r)] [] = some (vbool (right r), []) := by
  rw [call_func E E108]
  by_cases h1 : r.Drive = 4294967295 <;> by_cases h2 : 1 ≤ r.N <;> by_cases h3 : r.N ≤ 1073741824 <;>
  simp [go_sem, ir108, encRun, right, *]

def ticksGo (acc : Int) : List Run → Int × Int
  | [] => if 1073741824 < acc then (0, 12) else (acc, 0)
  | r :: l => if right r then ticksGo (if 1073741825 < acc + r.N then 1073741825 else acc + r.N) l else (0, 10)
theorem ticks_loop (l : List Run) (hl : l.length ≤ 9223372036854775807) (hl2 : ∀ r ∈ l, r.Ok) (nl fu : Bool) (k : List Item)
    (hk : ∀ (acc : Int) τ, lk 4 τ = .lit (.int .i64 acc) → finK 0 [.tmp 2, .tmp 3] (run E 0 k τ []) = some (.tup [.lit (.int .i64 (ticksGo acc []).1), .lit (.int .i64 (ticksGo acc []).2)], [])) :
    ∀ (d i : Nat) (acc : Int), i + d = l.length → 0 ≤ acc → acc ≤ 1073741825 →
   finK 0 [.tmp 2, .tmp 3] (run E 0 (.code L79_0 :: .inLoop [4, 7, 8, 9] L79_0 :: .inBlock 0 :: k) [(4, .lit (.int .i64 acc)), (7, .imm nl fu true (l.map encRun)), (8, .lit (.int .i64 l.length)), (9, .lit (.int .i64 i))] [])
   = some (.tup [.lit (.int .i64 (ticksGo acc (l.drop i)).1), .lit (.int .i64 (ticksGo acc (l.drop i)).2)], []) := by
  intro d
  induction d with
  | zero =>
    intro i acc hi h0 h1
    have : i = l.length := by omega
    subst this
    simp [go_sem, run_codeL E L79_0.eq_1]
    exact hk _ _ rfl
  | succ d ih =>
    intro i acc hi h0 h1
    have hlt : i < l.length := by omega
    have hr := hl2 _ (List.getElem_mem hlt)
    rw [List.drop_eq_getElem_cons hlt, ticksGo]
    have hs := right_spec l[i]
    simp only [encRun] at hs
    cases hrt : right l[i] with
    | false =>
      simp [go_sem, run_codeL E L79_0.eq_1, hlt, List.getElem?_eq_getElem hlt, encRun, hs, hrt]
    | true =>
      have hN : 1 ≤ l[i].N ∧ l[i].N ≤ 1073741824 := by simp [right] at hrt; omega
      have w1 : IntKind.wrap .i64 (acc + l[i].N) = acc + l[i].N := wrap64 (by omega) (by omega)
      have w2 := wrapIdx (i := i) (by omega)
      simp [go_sem, run_codeL E L79_0.eq_1, hlt, List.getElem?_eq_getElem hlt, encRun, hs, hrt, w1, w2]
      rw [run_inLoop']
      simp [go_sem, purse_eq]
      exact ih (i + 1) _ (by omega) (by omega) (by omega)
def ticks (l : List Run) : Int × Int := ticksGo 0 l
theorem ticks_spec (l : List Run) (hl : l.length ≤ 9223372036854775807) (hl2 : ∀ r ∈ l, r.Ok) (nl fu : Bool) :
    call E (.func (.func 79) [] []) [.imm nl fu true (l.map encRun)] [] = some (.tup [.lit (.int .i64 (ticks l).1), .lit (.int .i64 (ticks l).2)], []) := by
  rw [call_func E E79]
  simp [go_sem, ir79]
  rw [run_inLoop']
  simp [go_sem, purse_eq]
  refine ticks_loop l hl hl2 nl fu _ ?_ l.length 0 0 (by omega) (by omega) (by omega)
  intro acc τ h
  by_cases h1 : 1073741824 < acc <;> simp [go_sem, ticksGo, h, h1]
theorem check_spec (l : List Run) (hl : l.length ≤ 9223372036854775807) (hl2 : ∀ r ∈ l, r.Ok) (nl fu : Bool) :
    call E (.func (.func 39) [] []) [.imm nl fu true (l.map encRun)] [] = some (.lit (.int .i64 (ticks l).2), []) := by
  rw [call_func E E39]
  simp [go_sem, ir39, ticks_spec l hl hl2]
end Go.AM.R1
open Go Go.AM
namespace Go.AM.R1

/-- How many ticks of a run are within. -/
def part (at_ from_ to n : Int) : Int := (if to < at_ + n then to else at_ + n) - (if from_ > at_ then from_ else at_)
def betweenGo (from_ to : Int) : Int → List Run → List Run
  | _, [] => []
  | at_, r :: l => (if 0 < part at_ from_ to r.N then [⟨part at_ from_ to r.N, r.Bus, r.Drive⟩] else []) ++ betweenGo from_ to (at_ + r.N) l
/-- A row that was laid, as it is handed back. -/
def resV (i : Nat) (rows : List (List AVal)) : AVal := if rows = [] then nilS else .own i rows.length 3 0 rows.length
def resH (H : Heap) (rows : List (List AVal)) : Heap := if rows = [] then [] else H ++ [.arr true false false 3 rows]

def sumN : List Run → Int
  | [] => 0
  | r :: l => r.N + sumN l
/-- How runs are wrong. -/
def chk (l : List Run) : Int := if l.all right = true then (if 1073741824 < sumN l then 12 else 0) else 10
theorem right_N {r : Run} (h : right r = true) : 1 ≤ r.N ∧ r.N ≤ 1073741824 := by
  simp [right] at h; omega
theorem sumN_nonneg : ∀ {l : List Run}, l.all right = true → 0 ≤ sumN l
  | [], _ => by simp [sumN]
  | r :: l, h => by
    simp only [List.all_cons, Bool.and_eq_true] at h
    have := right_N h.1; have := sumN_nonneg h.2
    simp only [sumN]; omega
theorem ticksGo_eq : ∀ (l : List Run) (acc : Int), 0 ≤ acc → acc ≤ 1073741825 → ticksGo acc l = if l.all right = true then (if 1073741824 < acc + sumN l then (0, 12) else (acc + sumN l, 0)) else (0, 10)
  | [], acc, _, _ => by simp [ticksGo, sumN]
  | r :: l, acc, h0, h1 => by
    rw [ticksGo, List.all_cons]
    cases hr : right r with
    | false => simp
    | true =>
      have hN := right_N hr
      rw [if_pos rfl, ticksGo_eq l _ (by split <;> omega) (by split <;> omega)]
      rw [Bool.true_and, show sumN (r :: l) = r.N + sumN l from rfl]
      cases ha : l.all right with
      | false => simp
      | true =>
        have := sumN_nonneg ha
        simp only [if_true]
        by_cases hq : 1073741825 < acc + r.N
        · rw [if_pos hq, if_pos (show _ by omega), if_pos (show _ by omega)]
        · rw [if_neg hq, Int.add_assoc]
theorem ticks_eq (l : List Run) : ticks l = (if chk l = 0 then sumN l else 0, chk l) := by
  unfold ticks
  rw [ticksGo_eq l 0 (by omega) (by omega)]
  unfold chk
  cases l.all right
  · rfl
  · by_cases h : 1073741824 < sumN l
    · simp [h]
    · simp [h]

end Go.AM.R1
open Go Go.AM
namespace Go.AM.R1

def zeroRun : Run := ⟨0, 0, 0⟩
/-- What there is at a tick. -/
def pick : Int → List Run → Option Run
  | _, [] => none
  | t, r :: l => if t < r.N then some ⟨1, r.Bus, r.Drive⟩ else pick (t - r.N) l
theorem pick_some : ∀ {l : List Run} {t : Int}, 0 ≤ t → t < sumN l → ∃ r, pick t l = some r
  | [], t, h0, h => by simp [sumN] at h; omega
  | r :: l, t, h0, h => by
    rw [pick]
    by_cases hq : t < r.N
    · exact ⟨_, if_pos hq⟩
    · rw [if_neg hq]
      rw [show sumN (r :: l) = r.N + sumN l from rfl] at h
      exact pick_some (by omega) (by omega)
theorem between_one : ∀ (l : List Run) (at_ t : Int), (∀ r ∈ l, 1 ≤ r.N) → betweenGo t (t + 1) at_ l = if t < at_ then [] else (pick (t - at_) l).toList
  | [], at_, t, _ => by simp [betweenGo, pick]
  | r :: l, at_, t, h => by
    have hr := h r (by simp)
    rw [betweenGo, between_one l _ t fun x hx => h x (by simp [hx]), pick]
    by_cases h1 : t < at_
    · have hp : ¬ 0 < part at_ t (t + 1) r.N := by unfold part; split <;> split <;> omega
      rw [if_pos h1, if_neg hp, if_pos (by omega)]; rfl
    · rw [if_neg h1]
      by_cases h2 : t < at_ + r.N
      · have hp : part at_ t (t + 1) r.N = 1 := by unfold part; split <;> split <;> omega
        rw [hp, if_pos h2, if_pos (show t - at_ < r.N by omega)]; rfl
      · have hp : ¬ 0 < part at_ t (t + 1) r.N := by unfold part; split <;> split <;> omega
        rw [if_neg h2, if_neg hp, if_neg (show ¬ t - at_ < r.N by omega), show t - (at_ + r.N) = t - at_ - r.N from by omega]; rfl

def atRun (l : List Run) (t : Int) : Run × Int :=
  if chk l ≠ 0 then (zeroRun, chk l) else if t < 0 ∨ sumN l ≤ t then (zeroRun, 10) else ((pick t l).getD zeroRun, 0)
theorem chk_right {l : List Run} (h : chk l = 0) : (∀ r ∈ l, 1 ≤ r.N ∧ r.N ≤ 1073741824) ∧ 0 ≤ sumN l ∧ sumN l ≤ 1073741824 := by
  unfold chk at h
  cases ha : l.all right with
  | false => rw [ha] at h; simp at h
  | true =>
    rw [ha, if_pos rfl] at h
    refine ⟨fun r hr => right_N (List.all_eq_true.1 ha r hr), sumN_nonneg ha, ?_⟩
    by_cases hq : 1073741824 < sumN l
    · rw [if_pos hq] at h; omega
    · omega
end Go.AM.R1
open Go Go.AM
namespace Go.AM.R1

/-! ### Few, Same, alike -/
def posSum : List Run → Int
  | [] => 0
  | r :: l => (if 0 < r.N then r.N else 0) + posSum l
theorem posSum_nonneg : ∀ l : List Run, 0 ≤ posSum l
  | [] => by simp [posSum]
  | r :: l => by have := posSum_nonneg l; simp only [posSum]; split <;> omega
def fewGo (left : Int) : List Run → Bool
  | [] => true
  | r :: l => if left < r.N then false else fewGo (if 0 < r.N then left - r.N else left) l
theorem fewGo_spec : ∀ (l : List Run) (left : Int), 0 ≤ left → (fewGo left l = true ↔ posSum l ≤ left)
  | [], left, h => by simp [fewGo, posSum, h]
  | r :: l, left, h => by
    have := posSum_nonneg l
    rw [fewGo, show posSum (r :: l) = (if 0 < r.N then r.N else 0) + posSum l from rfl]
    by_cases h1 : left < r.N
    · rw [if_pos h1, if_pos (by omega)]; constructor
      · intro h; cases h
      · intro h; omega
    · rw [if_neg h1, fewGo_spec l _ (by split <;> omega)]
      by_cases h2 : 0 < r.N
      · rw [if_pos h2, if_pos h2]; omega
      · rw [if_neg h2, if_neg h2]; omega
def few (l : List Run) : Bool := fewGo 3000 (l.take 61) && decide (l.length ≤ 60)
theorem few_true {l : List Run} (h : few l = true) : l.length ≤ 60 ∧ posSum l ≤ 3000 := by
  simp only [few, Bool.and_eq_true, decide_eq_true_eq] at h
  obtain ⟨h1, h2⟩ := h
  rw [List.take_of_length_le (by omega), fewGo_spec _ _ (by omega)] at h1
  exact ⟨h2, h1⟩

theorem encRun_inj {a b : Run} (h : encRun a = encRun b) : a = b := by
  cases a; cases b
  simp [encRun] at h
  simp [h]
theorem same_loop (l m : List Run) (hlm : l.length = m.length) (hl : l.length ≤ 1099511627775) (nl fu nl' fu' : Bool) (k : List Item) (R : Bool → Option (AVal × Heap))
    (hk : ∀ τ, finK 0 [.tmp 4] (run E 0 k τ []) = R true) (hf : R false = some (.lit (.bool false), [])) :
    ∀ (d i : Nat), i + d = l.length →
   finK 0 [.tmp 4] (run E 0 (.code L33_0 :: .inLoop [0, 1, 5] L33_0 :: .inBlock 0 :: k) [(0, .imm nl fu true (l.map encRun)), (1, .imm nl' fu' true (m.map encRun)), (5, .lit (.int .i64 i))] [])
   = R (decide (l.drop i = m.drop i)) := by
  intro d
  induction d with
  | zero =>
    intro i hi
    rw [List.drop_eq_nil_of_le (by omega), List.drop_eq_nil_of_le (by omega)]
    have : ¬ i < l.length := by omega
    simp [go_sem, run_codeL E L33_0.eq_1, this]
    exact hk _
  | succ d ih =>
    intro i hi
    have hlt : i < l.length := by omega
    have hlt' : i < m.length := by omega
    have w2 := wrapIdx (i := i) (by omega)
    rw [List.drop_eq_getElem_cons hlt, List.drop_eq_getElem_cons hlt']
    by_cases h : l[i] = m[i]
    · have h1 : l[i].N = m[i].N := by rw [h]
      have h2 : l[i].Bus = m[i].Bus := by rw [h]
      have h3 : l[i].Drive = m[i].Drive := by rw [h]
      rw [decide_eq_decide.2 (show (l[i] :: l.drop (i + 1) = m[i] :: m.drop (i + 1)) ↔ l.drop (i + 1) = m.drop (i + 1) from ⟨fun e => (List.cons.inj e).2, fun e => by rw [h, e]⟩)]
      simp [go_sem, run_codeL E L33_0.eq_1, hlt, List.getElem?_eq_getElem hlt, List.getElem?_eq_getElem hlt', encRun, h1, h2, h3, h, w2]
      rw [run_inLoop']
      simp [go_sem, purse_eq]
      have := ih (i + 1) (by omega)
      simpa using this
    · have h' : ¬ (l[i].N = m[i].N ∧ l[i].Bus = m[i].Bus ∧ l[i].Drive = m[i].Drive) := by
        rintro ⟨h1, h2, h3⟩
        apply h
        cases hl : l[i]; cases hm : m[i]
        rw [hl, hm] at h1 h2 h3
        simp at h1 h2 h3
        rw [h1, h2, h3]
      rw [decide_eq_false (show ¬ (l[i] :: l.drop (i + 1) = m[i] :: m.drop (i + 1)) from fun e => h (List.cons.inj e).1), hf]
      simp [go_sem, run_codeL E L33_0.eq_1, hlt, List.getElem?_eq_getElem hlt, List.getElem?_eq_getElem hlt', encRun, h, w2]
      by_cases h1 : l[i].N = m[i].N <;> by_cases h2 : l[i].Bus = m[i].Bus <;> by_cases h3 : l[i].Drive = m[i].Drive <;>
      simp_all [go_sem]
theorem same_spec (l m : List Run) (hl : l.length ≤ 1099511627775) (nl fu nl' fu' : Bool) :
    call E (.func (.func 33) [] []) [.imm nl fu true (l.map encRun), .imm nl' fu' true (m.map encRun)] [] = some (.lit (.bool (decide (l = m))), []) := by
  rw [call_func E E33]
  by_cases hlm : l.length = m.length
  · simp [go_sem, ir33, hlm]
    rw [run_inLoop']
    simp [go_sem, purse_eq]
    have := same_loop l m hlm hl nl fu nl' fu' [.code (.seq (.reg [⟨none, some 4, .copy (.c (.lit (.bool true)))⟩] [] []) .ret)] (fun b => some (.lit (.bool b), [])) ?_ rfl l.length 0 (by omega)
    · simpa using this
    · intro τ; simp [go_sem]
  · have : ¬ (l.length : Int) = m.length := by omega
    have h2 : ¬ l = m := fun h => hlm (by rw [h])
    simp [go_sem, ir33, hlm, this, h2]

def alike (a b : Run) : Bool := decide (a.Bus = b.Bus) && decide (a.Drive = b.Drive)
theorem alike_spec (a b : Run) : call E (.func (.func 109) [] []) [.agg (encRun a), .agg (encRun b)] [] = some (.lit (.bool (alike a b)), []) := by
  rw [call_func E E109]
  by_cases h1 : a.Bus = b.Bus <;> by_cases h2 : a.Drive = b.Drive <;> simp [go_sem, ir109, encRun, alike, h1, h2]
end Go.AM.R1
open Go Go.AM
namespace Go.AM.R1

/-! ### Join -/
def push (out : List Run) (r : Run) : List Run :=
  match out.getLast? with
  | none => [r]
  | some x => if alike x r = true then out.dropLast ++ [⟨x.N + r.N, x.Bus, x.Drive⟩] else out ++ [r]
theorem push_nil (r : Run) : push [] r = [r] := rfl
theorem push_snoc (o : List Run) (x r : Run) : push (o ++ [x]) r = if alike x r = true then o ++ [⟨x.N + r.N, x.Bus, x.Drive⟩] else o ++ [x, r] := by
  simp [push]
def joinGo (n : Int) (out : List Run) : List Run → List Run
  | [] => out
  | r :: l => if r.N < 1 then joinGo n out l else if 4611686018427387904 - n < r.N then [] else joinGo (n + r.N) (push out r) l
theorem snoc_cases {α : Type} (l : List α) : l = [] ∨ ∃ o x, l = o ++ [x] := by
  rcases List.eq_nil_or_concat l with h | ⟨o, x, h⟩
  · exact .inl h
  · exact .inr ⟨o, x, by simpa using h⟩
theorem get_snoc {o : List Run} {x : Run} : (o.map encRun ++ [encRun x])[o.length]? = some (encRun x) := by
  rw [List.getElem?_append_right (by simp)]; simp
theorem set_snoc {o : List Run} {x : List AVal} {v : List AVal} : (o.map encRun ++ [x]).set o.length v = o.map encRun ++ [v] := by
  rw [List.set_append_right _ _ (by simp)]; simp
theorem join_loop (l : List Run) (hl : l.length ≤ 1048576) (hl2 : ∀ r ∈ l, r.Ok) (nl fu : Bool) (k : List Item) (R : List Run → Option (AVal × Heap))
    (hk : ∀ (out : List Run) τ, lk 3 τ = resV 2 (out.map encRun) → finK 0 [.tmp 2] (run E 0 k τ (resH [.dead, .dead] (out.map encRun))) = R out)
    (hn : R [] = some (nilS, [])) :
    ∀ (d i : Nat) (n : Int) (out : List Run), i + d = l.length → 0 ≤ n → n ≤ 4611686018427387904 → out.length ≤ i → (∀ x ∈ out, 1 ≤ x.N ∧ x.N ≤ n) →
   finK 0 [.tmp 2] (run E 0 (.code L80_0 :: .inLoop [3, 4, 8, 9, 10] L80_0 :: .inBlock 0 :: k)
     [(3, resV 2 (out.map encRun)), (4, .lit (.int .i64 n)), (8, .imm nl fu true (l.map encRun)), (9, .lit (.int .i64 l.length)), (10, .lit (.int .i64 i))]
     (resH [.dead, .dead] (out.map encRun)))
   = R (joinGo n out (l.drop i)) := by
  intro d
  induction d with
  | zero =>
    intro i n out hi h0 h3 h4 h5
    have : i = l.length := by omega
    subst this
    simp [go_sem, run_codeL E L80_0.eq_1, joinGo]
    exact hk out _ rfl
  | succ d ih =>
    intro i n out hi h0 h3 h4 h5
    have hlt : i < l.length := by omega
    have hr := hl2 _ (List.getElem_mem hlt)
    have hr1 := hr.n1; have hr2 := hr.n2
    have w2 := wrapIdx (i := i) (by omega)
    have w3 : IntKind.wrap .i64 (4611686018427387904 - n) = 4611686018427387904 - n := wrap64 (by omega) (by omega)
    rw [List.drop_eq_getElem_cons hlt, joinGo]
    by_cases hq : l[i].N < 1
    · rw [if_pos hq]
      have ih2 := ih (i + 1) n out (by omega) (by omega) (by omega) (by omega) h5
      rcases snoc_cases out with rfl | ⟨o, x, rfl⟩
      · simp [resV, resH, encRun] at ih2
        simp [go_sem, run_codeL E L80_0.eq_1, hlt, List.getElem?_eq_getElem hlt, encRun, w2, resV, resH, purse_eq, hq]
        rw [run_inLoop']
        simp [go_sem, purse_eq]
        exact ih2
      · simp [resV, resH, encRun] at ih2
        simp [go_sem, run_codeL E L80_0.eq_1, hlt, List.getElem?_eq_getElem hlt, encRun, w2, resV, resH, purse_eq, hq]
        rw [run_inLoop']
        simp [go_sem, purse_eq]
        exact ih2
    · rw [if_neg hq]
      by_cases hm : 4611686018427387904 - n < l[i].N
      · rw [if_pos hm, hn]
        rcases snoc_cases out with rfl | ⟨o, x, rfl⟩
        · simp [go_sem, run_codeL E L80_0.eq_1, hlt, List.getElem?_eq_getElem hlt, encRun, w2, w3, resV, resH, purse_eq, hq, hm]
        · simp [go_sem, run_codeL E L80_0.eq_1, hlt, List.getElem?_eq_getElem hlt, encRun, w2, w3, resV, resH, purse_eq, hq, hm]
      · rw [if_neg hm]
        have w1 : IntKind.wrap .i64 (n + l[i].N) = n + l[i].N := wrap64 (by omega) (by omega)
        rcases snoc_cases out with rfl | ⟨o, x, rfl⟩
        · have ih2 := ih (i + 1) (n + l[i].N) (push [] l[i]) (by omega) (by omega) (by omega) (by simp [push]) (by
            intro y hy; simp [push_nil] at hy; subst hy; omega)
          rw [push_nil] at ih2 ⊢
          simp [resV, resH, encRun] at ih2
          have wm : IntKind.wrap .i64 (-1) = -1 := rfl
          simp [go_sem, run_codeL E L80_0.eq_1, hlt, List.getElem?_eq_getElem hlt, encRun, w1, w2, w3, wm, resV, resH, purse_eq, hq, hm]
          rw [run_inLoop']
          simp [go_sem, purse_eq]
          exact ih2
        · have hx := h5 x (by simp)
          simp at h4
          have ih2 := ih (i + 1) (n + l[i].N) (push (o ++ [x]) l[i]) (by omega) (by omega) (by omega) (by
            rw [push_snoc]; split <;> simp <;> omega) (by
            intro y hy
            rw [push_snoc] at hy
            split at hy
            · simp at hy
              rcases hy with hy | rfl
              · have := h5 y (by simp [hy]); omega
              · simp; omega
            · simp at hy
              rcases hy with hy | rfl | rfl
              · have := h5 y (by simp [hy]); omega
              · omega
              · omega)
          have wl : IntKind.wrap .i64 (o.length : Int) = o.length := wrap64 (by omega) (by omega)
          have wx : IntKind.wrap .i64 (x.N + l[i].N) = x.N + l[i].N := wrap64 (by omega) (by omega)
          have hA := alike_spec x l[i]
          have hg := get_snoc (o := o) (x := x)
          simp only [encRun] at hA hg
          have hb : ¬ ((o.length + 1 + 1) * 24 > 70368744177664) := by omega
          rw [push_snoc] at ih2 ⊢
          cases ha : alike x l[i] with
          | true =>
            rw [ha] at hA ih2
            simp [resV, resH, encRun] at ih2
            simp [go_sem, run_codeL E L80_0.eq_1, hlt, List.getElem?_eq_getElem hlt, encRun, w1, w2, w3, wl, wx, resV, resH, purse_eq, hq, hm, hA, hg, set_snoc]
            rw [run_inLoop']
            simp [go_sem, purse_eq]
            exact ih2
          | false =>
            rw [ha] at hA ih2
            simp [resV, resH, encRun] at ih2
            simp [go_sem, run_codeL E L80_0.eq_1, hlt, List.getElem?_eq_getElem hlt, encRun, w1, w2, w3, wl, wx, resV, resH, purse_eq, hq, hm, hA, hg, hb]
            rw [run_inLoop']
            simp [go_sem, purse_eq]
            exact ih2
end Go.AM.R1
open Go Go.AM
namespace Go.AM.R1

theorem join_spec (l : List Run) (hl : l.length ≤ 1048576) (hl2 : ∀ r ∈ l, r.Ok) (nl fu : Bool) :
    call E (.func (.func 80) [] []) [.imm nl fu true (l.map encRun)] []
      = some (resV 0 ((joinGo 0 [] l).map encRun), resH [] ((joinGo 0 [] l).map encRun)) := by
  rw [call_func E E80]
  simp [go_sem, ir80, purse_eq]
  rw [run_inLoop']
  simp [go_sem, purse_eq]
  have h := join_loop l hl hl2 nl fu [.code (.seq (.reg [⟨none, some 56, .copy (.t 3)⟩, ⟨none, some 2, .copy (.t 56)⟩] [] []) .ret)] (fun out => some (resV 0 (out.map encRun), resH [] (out.map encRun))) ?_ (by simp [resV, resH]) l.length 0 0 [] (by omega) (by omega) (by omega) (by simp) (by simp)
  · simpa [resV, resH, nilS] using h
  · intro out τ h
    cases out with
    | nil => simp [go_sem, h, resV, resH, nilS]
    | cons x xs => simp [go_sem, h, resV, resH, purse_eq]

/-- Joined runs, of up to 2^62 ticks. -/
def joined (out : List Run) : List Run → List Run
  | [] => out
  | r :: l => if r.N < 1 then joined out l else joined (push out r) l
theorem joinGo_eq : ∀ (l : List Run) (n : Int) (out : List Run), n + posSum l ≤ 4611686018427387904 → joinGo n out l = joined out l
  | [], _, _, _ => rfl
  | r :: l, n, out, h => by
    have h0 := posSum_nonneg l
    rw [show posSum (r :: l) = (if 0 < r.N then r.N else 0) + posSum l from rfl] at h
    rw [joinGo, joined]
    by_cases hq : r.N < 1
    · rw [if_pos hq, if_pos hq]; rw [if_neg (by omega)] at h; exact joinGo_eq l n out (by omega)
    · rw [if_neg hq, if_neg hq]; rw [if_pos (by omega)] at h
      rw [if_neg (by omega)]; exact joinGo_eq l _ _ (by omega)
theorem joinGo_big : ∀ (l : List Run) (n : Int) (out : List Run), 4611686018427387904 < n + posSum l → n ≤ 4611686018427387904 → joinGo n out l = []
  | [], n, _, h, h2 => by simp [posSum] at h; omega
  | r :: l, n, out, h, h2 => by
    rw [show posSum (r :: l) = (if 0 < r.N then r.N else 0) + posSum l from rfl] at h
    rw [joinGo]
    by_cases hq : r.N < 1
    · rw [if_pos hq]; rw [if_neg (by omega)] at h; exact joinGo_big l n out (by omega) h2
    · rw [if_neg hq]; rw [if_pos (by omega)] at h
      by_cases hm : 4611686018427387904 - n < r.N
      · rw [if_pos hm]
      · rw [if_neg hm]; exact joinGo_big l _ _ (by omega) (by omega)

theorem isEmpty_snoc {α : Type} (o : List α) (x : α) (r : List α) : (o ++ x :: r).isEmpty = false := by cases o <;> rfl
/-! ### The ticks, one by one -/
def expand (l : List Run) : List Run := l.flatMap fun r => List.replicate r.N.toNat ⟨1, r.Bus, r.Drive⟩
end Go.AM.R1
open Go Go.AM
namespace Go.AM.R1

/-! ### The plain law of cutting -/
theorem push_push (out : List Run) (n m b d : Int) : push (push out ⟨n, b, d⟩) ⟨m, b, d⟩ = push out ⟨n + m, b, d⟩ := by
  rcases snoc_cases out with rfl | ⟨o, x, rfl⟩
  · simp [push, alike]
  · rw [push_snoc, push_snoc]
    by_cases h : alike x ⟨n, b, d⟩ = true
    · have h' : alike x ⟨n + m, b, d⟩ = true := h
      rw [if_pos h, if_pos h', push_snoc, if_pos (by exact h), Int.add_assoc]
    · have h' : ¬ alike x ⟨n + m, b, d⟩ = true := h
      rw [if_neg h, if_neg h', show o ++ [x, ⟨n, b, d⟩] = (o ++ [x]) ++ [⟨n, b, d⟩] from by simp, push_snoc, if_pos (by simp [alike])]
      simp
theorem joined_append : ∀ (l m out : List Run), joined out (l ++ m) = joined (joined out l) m
  | [], _, _ => rfl
  | r :: l, m, out => by
    rw [List.cons_append, joined, joined]
    split
    · exact joined_append l m out
    · exact joined_append l m _
theorem joined_replicate (out : List Run) (b d : Int) : ∀ n : Nat, joined out (List.replicate (n + 1) ⟨1, b, d⟩) = push out ⟨n + 1, b, d⟩
  | 0 => by simp [joined]
  | n + 1 => by
    rw [List.replicate_succ', joined_append, joined_replicate out b d n, joined, if_neg (by simp), push_push]
    simp [joined]
theorem joined_expand : ∀ (l out : List Run), joined out (expand l) = joined out l
  | [], _ => rfl
  | r :: l, out => by
    rw [show expand (r :: l) = List.replicate r.N.toNat ⟨1, r.Bus, r.Drive⟩ ++ expand l from rfl, joined_append, joined]
    by_cases h : r.N < 1
    · rw [if_pos h, show r.N.toNat = 0 from by omega]
      exact joined_expand l out
    · rw [if_neg h, show r.N.toNat = (r.N.toNat - 1) + 1 from by omega, joined_replicate, joined_expand l _]
      rw [show (((r.N.toNat - 1 : Nat) : Int) + 1) = r.N from by omega]
theorem expand_cons (r : Run) (l : List Run) : expand (r :: l) = List.replicate r.N.toNat ⟨1, r.Bus, r.Drive⟩ ++ expand l := rfl
theorem expand_append (l m : List Run) : expand (l ++ m) = expand l ++ expand m := by simp [expand]
theorem expand_between (a b : Int) : ∀ (l : List Run) (c : Int), (∀ r ∈ l, 0 ≤ r.N) → expand (betweenGo a b c l) = ((expand l).take (b - c).toNat).drop (a - c).toNat
  | [], c, _ => by simp [betweenGo, expand]
  | r :: l, c, h => by
    have hr := h r (by simp)
    have ih := expand_between a b l (c + r.N) fun x hx => h x (by simp [hx])
    rw [betweenGo, expand_append, ih, expand_cons, List.take_append, List.drop_append]
    congr 1
    · rw [List.take_replicate, List.drop_replicate]
      by_cases hp : 0 < part c a b r.N
      · rw [if_pos hp, expand_cons, show expand [] = [] from rfl, List.append_nil]
        congr 1
        revert hp
        unfold part
        split <;> split <;> intro hp <;> simp only [] <;> omega
      · rw [if_neg hp, show min (b - c).toNat r.N.toNat - (a - c).toNat = 0 from by revert hp; unfold part; split <;> split <;> intro hp <;> omega]
        rfl
    · simp only [List.length_take, List.length_replicate]
      rw [show (b - (c + r.N)).toNat = (b - c).toNat - r.N.toNat from by omega]
      by_cases hq : (b - c).toNat ≤ r.N.toNat
      · rw [show (b - c).toNat - r.N.toNat = 0 from by omega]; simp
      · congr 1; omega
theorem cut_law (l : List Run) (h : ∀ r ∈ l, 0 ≤ r.N) (a b : Int) : joined [] (betweenGo a b 0 l) = joined [] (((expand l).take b.toNat).drop a.toNat) := by
  have := expand_between a b l 0 h
  rw [Int.sub_zero, Int.sub_zero] at this
  rw [← this, joined_expand]
theorem expand_length : ∀ l : List Run, (∀ r ∈ l, 0 ≤ r.N) → ((expand l).length : Int) = sumN l
  | [], _ => by simp [expand, sumN]
  | r :: l, h => by
    have hr := h r (by simp)
    have ih := expand_length l fun x hx => h x (by simp [hx])
    rw [expand_cons, show sumN (r :: l) = r.N + sumN l from rfl, List.length_append, List.length_replicate]
    omega
theorem between_mem (a b : Int) : ∀ (l : List Run) (c : Int), (∀ r ∈ l, 0 ≤ r.N ∧ r.N ≤ 1073741824) → ∀ r ∈ betweenGo a b c l, 1 ≤ r.N ∧ r.N ≤ 1073741824
  | [], _, _, r, hr => by simp [betweenGo] at hr
  | x :: l, c, h, r, hr => by
    have hx := h x (by simp)
    rw [betweenGo, List.mem_append] at hr
    rcases hr with hr | hr
    · split at hr
      · rename_i hp
        simp at hr
        subst hr
        refine ⟨by simp; omega, ?_⟩
        simp only [part]
        split <;> split <;> omega
      · cases hr
    · exact between_mem a b l _ (fun y hy => h y (by simp [hy])) r hr
theorem between_length (a b : Int) : ∀ (l : List Run) (c : Int), (betweenGo a b c l).length ≤ l.length
  | [], _ => by simp [betweenGo]
  | x :: l, c => by
    have := between_length a b l (c + x.N)
    rw [betweenGo]
    split <;> simp <;> omega
theorem posSum_le : ∀ (l : List Run) (M : Int), 0 ≤ M → (∀ r ∈ l, r.N ≤ M) → posSum l ≤ M * l.length
  | [], M, _, _ => by simp [posSum]
  | r :: l, M, h0, h => by
    have hr := h r (by simp)
    have ih := posSum_le l M h0 fun x hx => h x (by simp [hx])
    rw [show posSum (r :: l) = (if 0 < r.N then r.N else 0) + posSum l from rfl, List.length_cons]
    have : M * ((l.length + 1 : Nat) : Int) = M * l.length + M := by rw [Int.natCast_add, Int.mul_add]; simp
    split <;> omega
theorem posSum_of_right : ∀ (l : List Run), (∀ r ∈ l, 0 ≤ r.N) → posSum l = sumN l
  | [], _ => rfl
  | r :: l, h => by
    have hr := h r (by simp)
    rw [show posSum (r :: l) = (if 0 < r.N then r.N else 0) + posSum l from rfl, posSum_of_right l fun x hx => h x (by simp [hx]), show sumN (r :: l) = r.N + sumN l from rfl]
    split <;> omega
def cutRuns (l : List Run) (a b : Int) : List Run × Int :=
  if chk l ≠ 0 then ([], chk l) else if a < 0 ∨ b < a ∨ sumN l < b then ([], 10) else (joined [] (betweenGo a b 0 l), 0)
theorem sum_le_pos : ∀ l : List Run, sumN l ≤ posSum l
  | [] => by simp [posSum, sumN]
  | r :: l => by
    have := sum_le_pos l
    rw [show posSum (r :: l) = (if 0 < r.N then r.N else 0) + posSum l from rfl, show sumN (r :: l) = r.N + sumN l from rfl]
    split <;> omega
theorem same_joins (l : List Run) (hl : l.length ≤ 1048576) (hl2 : ∀ r ∈ l, r.Ok) (hs : posSum l ≤ 4611686018427387904) : joinGo 0 [] l = joined [] l := joinGo_eq _ _ _ (by omega)
theorem push_length (out : List Run) (r : Run) : (push out r).length ≤ out.length + 1 := by
  rcases snoc_cases out with rfl | ⟨o, x, rfl⟩
  · simp [push]
  · rw [push_snoc]; split <;> simp
theorem joined_length : ∀ (l out : List Run), (joined out l).length ≤ out.length + l.length
  | [], out => by simp [joined]
  | r :: l, out => by
    rw [joined]
    split
    · have := joined_length l out; simp; omega
    · have := joined_length l (push out r); have := push_length out r; simp; omega
theorem expand_mem {l : List Run} {r : Run} (h : r ∈ expand l) : r.N = 1 := by
  simp only [expand, List.mem_flatMap, List.mem_replicate] at h
  obtain ⟨_, _, _, rfl⟩ := h
  rfl
end Go.AM.R1
open Go Go.AM
namespace Go.AM.R1

/-- A row of numbers. -/
def encI (n : Int) : List AVal := [.lit (.int .i64 n)]
/-- Levels, tick by tick; or why there are none. -/
def levelsV (l : List Run) (f : Run → Int) : AVal :=
  if chk l ≠ 0 then .tup [nilS, .lit (.int .i64 (chk l))] else if 1048576 < sumN l then .tup [nilS, .lit (.int .i64 12)] else .tup [.own 0 (expand l).length 1 0 (expand l).length, .lit (.int .i64 0)]
def levelsH (l : List Run) (f : Run → Int) : Heap :=
  if chk l ≠ 0 then [] else if 1048576 < sumN l then [] else [.arr true false false 1 ((expand l).map fun r => encI (f r))]
end Go.AM.R1
open Go Go.AM
namespace Go.AM.R1
/-- What a node drives. -/
def nodeLv (node : Int) (r : Run) : Int := r.Drive / (2 : Int) ^ node.toNat % 2
theorem and_one32 {x : Int} (h0 : 0 ≤ x) (h1 : x ≤ 4294967295) : ((BitVec.ofInt 32 x &&& 1#32).toNat : Int) = x % 2 := by
  rw [BitVec.toNat_and, BitVec.toNat_ofInt]
  have : (x % ((2 ^ 32 : Nat) : Int)).toNat = x.toNat := by
    rw [Int.emod_eq_of_lt h0 (by simp; omega)]
  rw [this, show (1#32 : BitVec 32).toNat = 1 from rfl, Nat.and_one_is_mod]
  omega
theorem iand_one {x : Int} (h0 : 0 ≤ x) (h1 : x ≤ 4294967295) : iand .u32 x 1 = x % 2 := by
  have h6 := and_one32 h0 h1
  have h7 : IntKind.wrap .u32 (x % 2) = x % 2 := by simp [IntKind.wrap, IntKind.bits, IntKind.signed]; omega
  unfold iand
  erw [h6, h7]
/-- Levels, tick by tick; or why there are none. -/
def levelsV1 (l : List Run) : AVal :=
  if chk l ≠ 0 then .tup [nilS, .lit (.int .i64 (chk l))] else if 1048576 < sumN l then .tup [nilS, .lit (.int .i64 12)] else .tup [.own 1 (expand l).length 1 0 (expand l).length, .lit (.int .i64 0)]
end Go.AM.R1
open Go Go.AM
namespace Go.AM.R1

def nodeV (l : List Run) (node : Int) : AVal :=
  if chk l ≠ 0 then .tup [nilS, .lit (.int .i64 (chk l))] else if node < 0 ∨ 32 ≤ node then .tup [nilS, .lit (.int .i64 10)] else levelsV l (nodeLv node)
def nodeHp (l : List Run) (node : Int) : Heap :=
  if chk l ≠ 0 then [] else if node < 0 ∨ 32 ≤ node then [] else levelsH l (nodeLv node)
theorem encI_inj {a b : Int} (h : encI a = encI b) : a = b := by simpa [encI] using h
end Go.AM.R1
open Go Go.AM
namespace Go.AM.R1

/-! ### The law TapWired -/
/-- What the nodes up to one drive, put together. -/
def gather (d : Int) : Nat → Int
  | 0 => 0
  | n + 1 => gather d n + (if d / 2 ^ n % 2 = 0 then 0 else 2 ^ n)
theorem gather_nat (m : Nat) : ∀ n : Nat, gather (m : Int) n = ((m % 2 ^ n : Nat) : Int)
  | 0 => by simp [gather, Nat.mod_one]
  | n + 1 => by
    rw [gather, gather_nat m n, Nat.mod_pow_succ]
    have e : (m : Int) / 2 ^ n % 2 = ((m / 2 ^ n % 2 : Nat) : Int) := by simp
    rw [e]
    have h2 : m / 2 ^ n % 2 = 0 ∨ m / 2 ^ n % 2 = 1 := by omega
    rcases h2 with h2 | h2
    · rw [h2]; simp
    · rw [h2]; simp
theorem gather_bound (d : Int) (h : 0 ≤ d) (n : Nat) : 0 ≤ gather d n ∧ gather d n < 2 ^ n := by
  obtain ⟨m, rfl⟩ := Int.eq_ofNat_of_zero_le h
  rw [gather_nat]
  have := Nat.mod_lt m (Nat.pow_pos (n := n) (show 0 < 2 by omega))
  constructor
  · omega
  · have e : ((2 : Int) ^ n) = ((2 ^ n : Nat) : Int) := by simp
    rw [e]; omega
theorem gather_32 (d : Int) (h : 0 ≤ d ∧ d ≤ 4294967295) : gather d 32 = d := by
  obtain ⟨m, rfl⟩ := Int.eq_ofNat_of_zero_le h.1
  rw [gather_nat, Nat.mod_eq_of_lt (by omega)]
def wireN (d : Int) : Nat → Int
  | 0 => 1
  | n + 1 => if d / 2 ^ n % 2 = 0 then 0 else wireN d n
theorem wireN_eq (d : Int) (h : 0 ≤ d) : ∀ n : Nat, wireN d n = if gather d n = 2 ^ n - 1 then 1 else 0
  | 0 => by simp [wireN, gather]
  | n + 1 => by
    have hb := gather_bound d h n
    rw [wireN, gather, wireN_eq d h n, Int.pow_succ]
    generalize (2 : Int) ^ n = p at hb
    generalize gather d n = g at hb
    by_cases hq : d / p % 2 = 0
    · rw [if_pos hq, if_pos hq, if_neg (by omega)]
    · rw [if_neg hq, if_neg hq]
      by_cases hg : g = p - 1
      · rw [if_pos hg, if_pos (by omega)]
      · rw [if_neg hg, if_neg (by omega)]
theorem wire_32 (d : Int) (h : 0 ≤ d ∧ d ≤ 4294967295) : wireN d 32 = if d = 4294967295 then 1 else 0 := by
  rw [wireN_eq d h.1, gather_32 d h]
  rfl
theorem pick_expand : ∀ (l : List Run) (t : Int), 0 ≤ t → (∀ r ∈ l, 0 ≤ r.N) → pick t l = (expand l)[t.toNat]?
  | [], _, _, _ => by simp [pick, expand]
  | r :: l, t, ht, h => by
    have hr := h r (by simp)
    rw [pick, expand_cons]
    by_cases hq : t < r.N
    · rw [if_pos hq, List.getElem?_append_left (by simp; omega), List.getElem?_replicate, if_pos (by omega)]
    · rw [if_neg hq, List.getElem?_append_right (by simp; omega), List.length_replicate, pick_expand l _ (by omega) fun x hx => h x (by simp [hx])]
      congr 1; omega
theorem expand_right {l : List Run} (h : ∀ r ∈ l, right r = true) {r : Run} (hr : r ∈ expand l) : r.Bus = if r.Drive = 4294967295 then 1 else 0 := by
  simp only [expand, List.mem_flatMap, List.mem_replicate] at hr
  obtain ⟨x, hx, _, rfl⟩ := hr
  have := h x hx
  simp only [right, Bool.and_eq_true, decide_eq_true_eq] at this
  exact this.2
theorem expand_drive {l : List Run} (h : ∀ r ∈ l, 0 ≤ r.Drive ∧ r.Drive ≤ 4294967295) {r : Run} (hr : r ∈ expand l) : 0 ≤ r.Drive ∧ r.Drive ≤ 4294967295 := by
  simp only [expand, List.mem_flatMap, List.mem_replicate] at hr
  obtain ⟨x, hx, _, rfl⟩ := hr
  exact h x hx
end Go.AM.R1
open Go Go.AM
namespace Go.AM.R1

/-! ### The law TapJoins -/
theorem expand_push (out : List Run) (r : Run) (hr : 0 ≤ r.N) (ho : ∀ x ∈ out, 0 ≤ x.N) : expand (push out r) = expand out ++ expand [r] := by
  rcases snoc_cases out with rfl | ⟨o, x, rfl⟩
  · simp [push, expand]
  · rw [push_snoc]
    by_cases h : alike x r = true
    · rw [if_pos h]
      have hx := ho x (by simp)
      simp only [alike, Bool.and_eq_true, decide_eq_true_eq] at h
      rw [expand_append, expand_append, List.append_assoc]
      congr 1
      simp only [expand, List.flatMap_cons, List.flatMap_nil, List.append_nil]
      rw [← h.1, ← h.2, List.replicate_append_replicate]
      congr 1
      omega
    · rw [if_neg h, show o ++ [x, r] = (o ++ [x]) ++ [r] from by simp, expand_append]
theorem push_mem_nonneg {out : List Run} {r : Run} (hr : 0 ≤ r.N) (ho : ∀ x ∈ out, 0 ≤ x.N) : ∀ x ∈ push out r, 0 ≤ x.N := by
  intro y hy
  rcases snoc_cases out with rfl | ⟨o, x, rfl⟩
  · simp [push] at hy; subst hy; exact hr
  · have hx := ho x (by simp)
    rw [push_snoc] at hy
    split at hy
    · simp at hy
      rcases hy with hy | rfl
      · exact ho y (by simp [hy])
      · simp; omega
    · simp at hy
      rcases hy with hy | rfl | rfl
      · exact ho y (by simp [hy])
      · exact hx
      · exact hr
theorem expand_joined : ∀ (l out : List Run), (∀ x ∈ out, 0 ≤ x.N) → expand (joined out l) = expand out ++ expand l
  | [], out, _ => by simp [joined, expand]
  | r :: l, out, ho => by
    rw [joined]
    by_cases h : r.N < 1
    · rw [if_pos h, expand_joined l out ho, expand_cons, show r.N.toNat = 0 from by omega]
      simp
    · rw [if_neg h, expand_joined l _ (push_mem_nonneg (by omega) ho), expand_push out r (by omega) ho]
      simp [expand]
theorem joined_self (l : List Run) : joined [] (joined [] l) = joined [] l := by
  rw [← joined_expand (joined [] l), expand_joined l [] (by simp)]
  simp only [expand, List.flatMap_nil, List.nil_append]
  exact joined_expand l []
/-- No two side by side are alike, and each has ticks. -/
def Tidy (l : List Run) : Prop := (∀ x ∈ l, 1 ≤ x.N) ∧ ∀ i (h : i + 1 < l.length), alike l[i] l[i + 1] = false
theorem tidy_push {out : List Run} {r : Run} (hr : 1 ≤ r.N) (ho : Tidy out) : Tidy (push out r) := by
  rcases snoc_cases out with rfl | ⟨o, x, rfl⟩
  · rw [push_nil]
    refine ⟨by simpa using hr, fun i h => ?_⟩
    simp at h
  · obtain ⟨h1, h2⟩ := ho
    have hx := h1 x (by simp)
    rw [push_snoc]
    by_cases h : alike x r = true
    · rw [if_pos h]
      refine ⟨fun y hy => ?_, fun i hi => ?_⟩
      · simp at hy
        rcases hy with hy | rfl
        · exact h1 y (by simp [hy])
        · simp; omega
      · have := h2 i (by simpa using hi)
        simp at hi
        by_cases hio : i + 1 < o.length
        · rw [List.getElem_append_left (by omega), List.getElem_append_left (by omega)] at this ⊢
          exact this
        · have hi' : i + 1 = o.length := by omega
          rw [List.getElem_append_left (by omega), List.getElem_append_right (by omega)] at this ⊢
          simpa [hi', alike] using this
    · rw [if_neg h, show o ++ [x, r] = (o ++ [x]) ++ [r] from by simp]
      refine ⟨fun y hy => ?_, fun i hi => ?_⟩
      · simp at hy
        rcases hy with hy | rfl | rfl
        · exact h1 y (by simp [hy])
        · exact hx
        · exact hr
      · simp at hi
        by_cases hio : i + 1 < (o ++ [x]).length
        · rw [List.getElem_append_left (by omega), List.getElem_append_left hio]
          exact h2 i hio
        · simp at hio
          have hi' : i = o.length := by omega
          subst hi'
          have hfalse : alike x r = false := by simpa using h
          rw [List.getElem_append_left (by simp), List.getElem_append_right (by simp)]
          simpa using hfalse
theorem tidy_joined : ∀ (l out : List Run), Tidy out → Tidy (joined out l)
  | [], _, h => h
  | r :: l, out, h => by
    rw [joined]
    split
    · exact tidy_joined l out h
    · exact tidy_joined l _ (tidy_push (by omega) h)
theorem joined_mem : ∀ (l out : List Run) (P : Run → Prop), (∀ r ∈ l, 1 ≤ r.N → P r) → (∀ x r, P x → P r → alike x r = true → P ⟨x.N + r.N, x.Bus, x.Drive⟩) → (∀ x ∈ out, P x) → ∀ y ∈ joined out l, P y
  | [], _, _, _, _, h => h
  | r :: l, out, P, hl, hp, h => by
    rw [joined]
    split
    · exact joined_mem l out P (fun x hx => hl x (by simp [hx])) hp h
    · refine joined_mem l _ P (fun x hx => hl x (by simp [hx])) hp fun y hy => ?_
      have hr := hl r (by simp) (by omega)
      rcases snoc_cases out with rfl | ⟨o, x, rfl⟩
      · simp [push] at hy; subst hy; exact hr
      · have hx := h x (by simp)
        rw [push_snoc] at hy
        split at hy
        · rename_i ha
          simp at hy
          rcases hy with hy | rfl
          · exact h y (by simp [hy])
          · exact hp x r hx hr ha
        · simp at hy
          rcases hy with hy | rfl | rfl
          · exact h y (by simp [hy])
          · exact hx
          · exact hr
theorem le_sum : ∀ {l : List Run}, (∀ r ∈ l, 0 ≤ r.N) → ∀ r ∈ l, r.N ≤ sumN l
  | x :: l, h, r, hr => by
    have hx := h x (by simp)
    have hn : ∀ m : List Run, (∀ r ∈ m, 0 ≤ r.N) → 0 ≤ sumN m := by
      intro m; induction m with
      | nil => intro _; simp [sumN]
      | cons x xs ih => intro h; have := h x (by simp); have := ih fun r hr => h r (by simp [hr]); simp only [sumN]; omega
    have := hn l fun r hr => h r (by simp [hr])
    rw [show sumN (x :: l) = x.N + sumN l from rfl]
    rcases List.mem_cons.1 hr with rfl | hr
    · omega
    · have := le_sum (fun r hr => h r (by simp [hr])) r hr; omega
/-- Joined runs are as right as the runs. -/
theorem joined_chk {l : List Run} (h : chk l = 0) : chk (joined [] l) = 0 ∧ sumN (joined [] l) = sumN l ∧ expand (joined [] l) = expand l := by
  obtain ⟨hN, h0, h1⟩ := chk_right h
  have hN' : ∀ r ∈ l, 0 ≤ r.N := fun r hr => by have := hN r hr; omega
  have hex : expand (joined [] l) = expand l := by rw [expand_joined l [] (by simp)]; simp [expand]
  have hJ1 : ∀ r ∈ joined [] l, 1 ≤ r.N := (tidy_joined l [] ⟨by simp, by simp⟩).1
  have hJ' : ∀ r ∈ joined [] l, 0 ≤ r.N := fun r hr => by have := hJ1 r hr; omega
  have hs : sumN (joined [] l) = sumN l := by rw [← expand_length _ hJ', ← expand_length _ hN', hex]
  refine ⟨?_, hs, hex⟩
  have hb := joined_mem l [] (fun r => r.Bus = if r.Drive = 4294967295 then 1 else 0) (fun r hr _ => by
    have h7 := h
    unfold chk at h7
    cases ha : l.all right with
    | false => rw [ha] at h7; simp at h7
    | true =>
      have := List.all_eq_true.1 ha r hr
      simp only [right, Bool.and_eq_true, decide_eq_true_eq] at this
      exact this.2) (fun x r hx _ _ => hx) (by simp)
  have hall : (joined [] l).all right = true := by
    rw [List.all_eq_true]
    intro r hr
    have h2 := hJ1 r hr
    have h3 := le_sum hJ' r hr
    simp only [right, Bool.and_eq_true, decide_eq_true_eq]
    exact ⟨⟨h2, by omega⟩, hb r hr⟩
  unfold chk
  rw [if_pos hall, if_neg (by omega)]
theorem joined_cuts (l : List Run) (h : ∀ r ∈ l, 0 ≤ r.N) (a : Int) (h0 : 0 ≤ a) (h1 : a ≤ sumN l) :
    joined [] (joined [] (betweenGo 0 a 0 l) ++ joined [] (betweenGo a (sumN l) 0 l)) = joined [] l := by
  rw [← joined_expand (_ ++ _), expand_append, expand_joined _ [] (by simp), expand_joined _ [] (by simp)]
  have e1 := expand_between 0 a l 0 h
  have e2 := expand_between a (sumN l) l 0 h
  have hl := expand_length l h
  rw [e1, e2]
  simp only [expand, List.flatMap_nil, List.nil_append]
  rw [show (fun r : Run => List.replicate r.N.toNat (⟨1, r.Bus, r.Drive⟩ : Run)) = fun r => List.replicate r.N.toNat ⟨1, r.Bus, r.Drive⟩ from rfl]
  have hx : List.flatMap (fun r : Run => List.replicate r.N.toNat (⟨1, r.Bus, r.Drive⟩ : Run)) l = expand l := rfl
  rw [hx, List.take_of_length_le (show (expand l).length ≤ (sumN l - 0).toNat by omega)]
  simp only [Int.sub_zero, Int.zero_sub, Int.neg_zero, Int.toNat_zero, List.drop_zero, List.take_append_drop]
  exact joined_expand l []

end Go.AM.R1
open Go Go.AM
namespace Go.AM.R1

/-! ### Bytes, and the bytes of numbers -/
def encB (n : Nat) : List AVal := [.lit (.int .u8 n)]
/-- The bytes of a number. -/
def putN (n : Nat) : List Nat := if h : 128 ≤ n then (n % 128 + 128) :: putN (n / 128) else [n]
termination_by n
decreasing_by omega
theorem putN_big {n : Nat} (h : 128 ≤ n) : putN n = (n % 128 + 128) :: putN (n / 128) := by rw [putN, dif_pos h]
theorem putN_small {n : Nat} (h : n < 128) : putN n = [n] := by rw [putN, dif_neg (by omega)]
theorem wrap8 (n : Nat) : IntKind.wrap .u8 (n : Int) = ((n % 256 : Nat) : Int) := by
  simp [IntKind.wrap, IntKind.bits, IntKind.signed]
theorem wrap_u64 {n : Nat} (h : n < 18446744073709551616) : IntKind.wrap .u64 (n : Int) = (n : Int) := by
  simp [IntKind.wrap, IntKind.bits, IntKind.signed]; omega
theorem or128 : ∀ m : Nat, m < 256 → m ||| 128 = m % 128 + 128 := by decide +kernel
theorem ior_128 (n : Nat) : ior .u8 ((n % 256 : Nat) : Int) 128 = ((n % 128 + 128 : Nat) : Int) := by
  have e : (BitVec.ofInt 8 ((n % 256 : Nat) : Int) ||| BitVec.ofInt 8 128).toNat = n % 128 + 128 := by
    rw [BitVec.toNat_or, BitVec.toNat_ofInt, BitVec.toNat_ofInt]
    have h1 : (((n % 256 : Nat) : Int) % ((2 ^ 8 : Nat) : Int)).toNat = n % 256 := by simp; omega
    have h2 : ((128 : Int) % ((2 ^ 8 : Nat) : Int)).toNat = 128 := by decide
    rw [h1, h2, or128 _ (by omega)]
    omega
  unfold ior
  show IntKind.wrap .u8 ((BitVec.ofInt 8 ((n % 256 : Nat) : Int) ||| BitVec.ofInt 8 128).toNat : Int) = _
  rw [e, wrap8]
  have : n % 128 + 128 < 256 := by omega
  omega
theorem fdiv128 (n : Nat) : (n : Int).fdiv 128 = ((n / 128 : Nat) : Int) := by
  rw [Int.fdiv_eq_ediv_of_nonneg _ (by omega)]; omega
theorem tdiv128 (n : Nat) : (n : Int).tdiv 128 = ((n / 128 : Nat) : Int) := by
  rw [Int.tdiv_eq_ediv_of_nonneg (by omega)]; omega
theorem tmod128 (n : Nat) : (n : Int).tmod 128 = ((n % 128 : Nat) : Int) := by
  rw [Int.tmod_eq_emod_of_nonneg (by omega)]; omega
theorem noImmLL_append : ∀ l m : List (List AVal), noImmLL (l ++ m) = (noImmLL l && noImmLL m)
  | [], m => rfl
  | a :: l, m => by rw [List.cons_append, noImmLL, noImmLL, noImmLL_append l m, Bool.and_assoc]
theorem noImmLL_take {l : List (List AVal)} (h : noImmLL l = true) (n : Nat) : noImmLL (l.take n) = true := by
  have := noImmLL_append (l.take n) (l.drop n)
  rw [List.take_append_drop, h] at this
  cases h2 : noImmLL (l.take n) with
  | true => rfl
  | false => rw [h2] at this; cases this
theorem noImmLL_drop {l : List (List AVal)} (h : noImmLL l = true) (n : Nat) : noImmLL (l.drop n) = true := by
  have := noImmLL_append (l.take n) (l.drop n)
  rw [List.take_append_drop, h] at this
  cases h2 : noImmLL (l.drop n) with
  | true => rfl
  | false => rw [h2] at this; simp at this
theorem noImm_encB (l : List Nat) : noImmLL (l.map encB) = true := noImmLL_map (fun _ => rfl) l
attribute [go_sem] noImm_encB noImmLL_append noImmLL_take noImmLL_drop
theorem rowsB (l : List Nat) : rowsOk 1 (l.map encB) = true := rowsOk_map (f := encB) (fun _ => rfl) l

theorem vput_loop (k : List Item) (R : List Nat → Option (AVal × Heap))
    (hk : ∀ n out τ, n < 128 → out.length ≤ 10 → lk 0 τ = .lit (.int .u64 (n : Nat)) → lk 3 τ = .own 0 out.length 1 0 out.length → finK 0 [.tmp 2] (run E 0 k τ [.arr true false false 1 (out.map encB)]) = R (out ++ [n])) :
    ∀ (d n : Nat) (out : List Nat), n < 128 ^ (d + 1) → n < 18446744073709551616 → out.length + d ≤ 10 →
   finK 0 [.tmp 2] (run E 0 (.code L106_0 :: .inLoop [0, 3] L106_0 :: .inBlock 0 :: k) [(0, .lit (.int .u64 n)), (3, .own 0 out.length 1 0 out.length)] [.arr true false false 1 (out.map encB)])
   = R (out ++ putN n) := by
  intro d
  induction d with
  | zero =>
    intro n out hn h64 hl
    have h1 : ¬ ((128 : Int) ≤ (n : Int)) := by omega
    rw [putN_small (by omega)]
    simp [go_sem, run_codeL E L106_0.eq_1, h1]
    exact hk n out _ (by omega) (by omega) rfl rfl
  | succ d ih =>
    intro n out hn h64 hl
    by_cases h : 128 ≤ n
    · have h1 : (128 : Int) ≤ (n : Int) := by omega
      rw [putN_big h]
      have hb : ¬ ((out.length + 1) > 70368744177664) := by omega
      have ih2 := ih (n / 128) (out ++ [n % 128 + 128]) (by rw [Nat.pow_succ] at hn; omega) (by omega) (by simp; omega)
      simp [encB] at ih2
      have hi := ior_128 n
      have hf := fdiv128 n
      simp at hi hf
      have hw := wrap8 n
      simp at hw
      simp [go_sem, run_codeL E L106_0.eq_1, h1, hw, hi, hf, hb]
      rw [run_inLoop']
      simp [go_sem, purse_eq]
      simpa [encB] using ih2
    · have h1 : ¬ ((128 : Int) ≤ (n : Int)) := by omega
      rw [putN_small (by omega)]
      simp [go_sem, run_codeL E L106_0.eq_1, h1]
      exact hk n out _ (by omega) (by omega) rfl rfl
theorem vput_spec (n : Nat) (h : n < 18446744073709551616) : call E (.func (.func 106) [] []) [.lit (.int .u64 n)] []
    = some (.own 0 (putN n).length 1 0 (putN n).length, [.arr true false false 1 ((putN n).map encB)]) := by
  rw [call_func E E106]
  simp [go_sem, ir106]
  rw [run_inLoop']
  simp [go_sem, purse_eq]
  have hh := vput_loop [.code (.seq (.reg [⟨none, some 15, .copy (.t 3)⟩, ⟨none, some 16, .copy (.t 0)⟩, ⟨none, some 17, .toInt .u8 (.t 16)⟩, ⟨none, some 18, .mkSlice true 1 [(.lit (.int .u8 0))] 1 [(0, (.t 17))]⟩, ⟨none, some 19, .append true 1 1 (.t 15) (.t 18)⟩, ⟨none, some 2, .copy (.t 19)⟩] [] []) .ret)] (fun out => some (.own 0 out.length 1 0 out.length, [.arr true false false 1 (out.map encB)])) ?_ 9 n [] (by simp; omega) h (by simp)
  · simpa using hh
  · intro m out τ hm hl h0 h3
    have hw := wrap8 m
    rw [Nat.mod_eq_of_lt (by omega)] at hw
    have hb : ¬ ((out.length + 1) > 70368744177664) := by omega
    simp [go_sem, h0, h3, hw, hb, purse_eq, encB]

end Go.AM.R1
open Go Go.AM
namespace Go.AM.R1

/-! ### The sum of bytes -/
def stepB (x : BitVec 32) : BitVec 32 := (x >>> 1) ^^^ (if x.toNat % 2 = 1 then 3988292384#32 else 0#32)
def steps : Nat → BitVec 32 → BitVec 32
  | 0, x => x
  | n + 1, x => steps n (stepB x)
def onB (x : BitVec 32) (c : Nat) : BitVec 32 := steps 8 (x ^^^ BitVec.ofNat 32 c)
def crcGo (x : BitVec 32) (l : List Nat) : BitVec 32 := l.foldl onB x
def crc (l : List Nat) : BitVec 32 := crcGo 4294967295#32 l ^^^ 4294967295#32

theorem wrap32bv (x : BitVec 32) : IntKind.wrap .u32 (x.toNat : Int) = (x.toNat : Int) := by
  have := x.isLt
  simp [IntKind.wrap, IntKind.bits, IntKind.signed]; omega
theorem ofInt_toNat (x : BitVec 32) : BitVec.ofInt 32 (x.toNat : Int) = x := by
  rw [BitVec.ofInt_natCast, BitVec.ofNat_toNat, BitVec.setWidth_eq]
theorem ixor_bv (x y : BitVec 32) : ixor .u32 (x.toNat : Int) (y.toNat : Int) = ((x ^^^ y).toNat : Int) := by
  unfold ixor
  show IntKind.wrap .u32 ((BitVec.ofInt 32 (x.toNat : Int) ^^^ BitVec.ofInt 32 (y.toNat : Int)).toNat : Int) = _
  rw [ofInt_toNat, ofInt_toNat, wrap32bv]
theorem shr1_bv (x : BitVec 32) : (x.toNat : Int).fdiv 2 = ((x >>> 1).toNat : Int) := by
  rw [Int.fdiv_eq_ediv_of_nonneg _ (by omega), BitVec.toNat_ushiftRight, Nat.shiftRight_eq_div_pow]
  omega
theorem tdiv2_bv (x : BitVec 32) : (x.toNat : Int).tdiv 2 = ((x >>> 1).toNat : Int) := by
  rw [Int.tdiv_eq_ediv_of_nonneg (by omega), BitVec.toNat_ushiftRight, Nat.shiftRight_eq_div_pow]
  omega
theorem step_bv (x : BitVec 32) : ixor .u32 ((x >>> 1).toNat : Int) (IntKind.wrap .u32 ((x.toNat : Int) % 2 * 3988292384)) = ((stepB x).toNat : Int) := by
  have h : x.toNat % 2 = 0 ∨ x.toNat % 2 = 1 := by omega
  unfold stepB
  rcases h with h | h
  · rw [if_neg (by omega), ← ixor_bv]
    congr 1
    have : (x.toNat : Int) % 2 = 0 := by omega
    rw [this]; rfl
  · rw [if_pos h, ← ixor_bv]
    congr 1
    have : (x.toNat : Int) % 2 = 1 := by omega
    rw [this]; rfl
theorem iand1_bv (x : BitVec 32) : iand .u32 (x.toNat : Int) 1 = (x.toNat : Int) % 2 := iand_one (by omega) (by have := x.isLt; omega)

theorem on_loop (k : List Item) (R : BitVec 32 → Option (AVal × Heap))
    (hk : ∀ x τ, finK 1 [] (run E 1 k τ [.box [.lit (.int .u32 (x : BitVec 32).toNat)]]) = R x) :
    ∀ (d i : Nat) (x : BitVec 32), i + d = 8 →
   finK 1 [] (run E 1 (.code L155_0 :: .inLoop [1, 7] L155_0 :: .inBlock 0 :: k) [(1, .ptr 0 0), (7, .lit (.int .i64 i))] [.box [.lit (.int .u32 x.toNat)]]) = R (steps d x) := by
  intro d
  induction d with
  | zero =>
    intro i x hi
    have : i = 8 := by omega
    subst this
    simp [go_sem, run_codeL E L155_0.eq_1]
    exact hk x _
  | succ d ih =>
    intro i x hi
    have h1 : (i : Int) < 8 := by omega
    have w2 := wrapIdx (i := i) (by omega)
    have ih2 := ih (i + 1) (stepB x) (by omega)
    have e1 := shr1_bv x
    have e2 := iand1_bv x
    have e3 := step_bv x
    simp at ih2 e1 e3
    simp [go_sem, run_codeL E L155_0.eq_1, h1, w2, e1, e2, e3]
    rw [run_inLoop']
    simp [go_sem, purse_eq, List.range_succ]
    exact ih2
theorem on_spec (x : BitVec 32) (c : Nat) (hc : c < 256) : call E (.func (.func 155) [] [.ptr 0 0]) [.lit (.int .u8 c)] [.box [.lit (.int .u32 x.toNat)]]
    = some (.tup [], [.box [.lit (.int .u32 (onB x c).toNat)]]) := by
  rw [call_func E E155]
  have hw : IntKind.wrap .u32 (c : Int) = ((BitVec.ofNat 32 c).toNat : Int) := by
    simp [IntKind.wrap, IntKind.bits, IntKind.signed]
  have hx := ixor_bv x (BitVec.ofNat 32 c)
  have h := on_loop [] (fun x => some (.tup [], [.box [.lit (.int .u32 x.toNat)]])) (by intro x τ; simp [go_sem, List.range_succ]) 8 0 (x ^^^ BitVec.ofNat 32 c) (by omega)
  simp only [← hw] at hx
  simp [go_sem, ir155, hx]
  rw [run_inLoop']
  simp [go_sem, purse_eq, List.range_succ]
  exact h
theorem sum_loop (l : List Nat) (hb : ∀ c ∈ l, c < 256) (hl : l.length ≤ 1099511627775) (nl fu : Bool) (k : List Item) (R : BitVec 32 → Option (AVal × Heap))
    (hk : ∀ x τ, lk 3 τ = .ptr 0 0 → finK 0 [.tmp 2] (run E 0 k τ [.box [.lit (.int .u32 (x : BitVec 32).toNat)]]) = R x) :
    ∀ (d i : Nat) (x : BitVec 32), i + d = l.length →
   finK 0 [.tmp 2] (run E 0 (.code L139_0 :: .inLoop [3, 4, 8, 9, 10] L139_0 :: .inBlock 0 :: k)
     [(3, .ptr 0 0), (4, .func (.func 155) [] [.ptr 0 0]), (8, .imm nl fu true (l.map encB)), (9, .lit (.int .i64 l.length)), (10, .lit (.int .i64 i))] [.box [.lit (.int .u32 x.toNat)]]) = R (crcGo x (l.drop i)) := by
  intro d
  induction d with
  | zero =>
    intro i x hi
    have : i = l.length := by omega
    subst this
    simp [go_sem, run_codeL E L139_0.eq_1, crcGo]
    exact hk x _ rfl
  | succ d ih =>
    intro i x hi
    have hlt : i < l.length := by omega
    have w2 := wrapIdx (i := i) (by omega)
    have hs := on_spec x l[i] (hb _ (List.getElem_mem hlt))
    rw [List.drop_eq_getElem_cons hlt, crcGo, List.foldl_cons]
    have ih2 := ih (i + 1) (onB x l[i]) (by omega)
    simp at ih2
    simp [go_sem, run_codeL E L139_0.eq_1, hlt, List.getElem?_eq_getElem hlt, encB, w2, hs, purse_eq]
    rw [run_inLoop']
    simp [go_sem, purse_eq]
    exact ih2
theorem sum_spec (l : List Nat) (hb : ∀ c ∈ l, c < 256) (hl : l.length ≤ 1099511627775) (nl fu : Bool) :
    call E (.func (.func 139) [] []) [.imm nl fu true (l.map encB)] [] = some (.lit (.int .u32 (crc l).toNat), []) := by
  rw [call_func E E139]
  have h := sum_loop l hb hl nl fu [.code (.seq (.reg [⟨none, some 18, .load false 1 (.t 3)⟩, ⟨none, some 19, .bin .xor (.t 18) (.c (.lit (.int .u32 4294967295)))⟩, ⟨none, some 2, .copy (.t 19)⟩] [] []) .ret)] (fun x => some (.lit (.int .u32 (x ^^^ 4294967295#32).toNat), [])) ?_ l.length 0 4294967295#32 (by omega)
  · simp [go_sem, ir139]
    rw [run_inLoop']
    simp [go_sem, purse_eq]
    simpa [crc] using h
  · intro x τ h3
    have e := ixor_bv x 4294967295#32
    simp at e
    simp [go_sem, h3, e]

theorem step_if (x : BitVec 32) : ((stepB x).toNat : Int) = if x.toNat % 2 = 1 then ixor .u32 ((x >>> 1).toNat : Int) 3988292384 else ((x >>> 1).toNat : Int) := by
  unfold stepB
  by_cases h : x.toNat % 2 = 1
  · rw [if_pos h, if_pos h, ← ixor_bv]; rfl
  · rw [if_neg h, if_neg h]; simp
end Go.AM.R1
open Go Go.AM
namespace Go.AM.R1

/-! ### Sealing -/
def tailN (s : Nat) : List Nat := [s % 256, s / 256 % 256, s / 65536 % 256, s / 16777216 % 256]
theorem shr_nat (s m : Nat) : (s : Int).fdiv ((2 : Int) ^ m) = ((s / 2 ^ m : Nat) : Int) := by
  rw [Int.fdiv_eq_ediv_of_nonneg _ (Int.le_of_lt (Int.pow_pos (by omega)))]
  simp
theorem tail_spec (s : Nat) : call E (.func (.func 138) [] []) [.lit (.int .u32 s)] [] = some (.own 0 4 1 0 4, [.arr true false false 1 ((tailN s).map encB)]) := by
  rw [call_func E E138]
  have e0 : IntKind.wrap .i64 0 = 0 := rfl
  have e1 : IntKind.wrap .i64 1 = 1 := rfl
  have e2 : IntKind.wrap .i64 2 = 2 := rfl
  have e3 : IntKind.wrap .i64 3 = 3 := rfl
  have e4 : IntKind.wrap .i64 4 = 4 := rfl
  have e8 : IntKind.wrap .i64 8 = 8 := rfl
  have e16 : IntKind.wrap .i64 16 = 16 := rfl
  have e24 : IntKind.wrap .i64 24 = 24 := rfl
  have s0 := shr_nat s 0
  have s8 := shr_nat s 8
  have s16 := shr_nat s 16
  have s24 := shr_nat s 24
  have w0 := wrap8 s
  have w8 := wrap8 (s / 256)
  have w16 := wrap8 (s / 65536)
  have w24 := wrap8 (s / 16777216)
  simp at s0 s8 s16 s24 w0 w8 w16 w24
  simp [go_sem, ir138, run_inLoop', run_codeL E L138_0.eq_1, purse_eq, e0, e1, e2, e3, e4, e8, e16, e24, s0, s8, s16, s24, w0, w8, w16, w24, tailN, encB, List.replicate]
theorem clone_spec (l : List Nat) (fu : Bool) (hl : l.length ≤ 1099511627775) : call E (.func (.func 70) [] []) [.imm false fu true (l.map encB)] []
    = some (.own 0 l.length 1 0 l.length, [.arr true false l.isEmpty 1 (l.map encB)]) := by
  rw [call_func E E70]
  have hb : ¬ (l.length > 70368744177664) := by omega
  cases l with
  | nil => simp [go_sem, ir70, purse_eq]
  | cons x xs =>
    have hr := rowsB (x :: xs)
    have hb : ¬ (70368744177664 < xs.length + 1) := by simp at hl; omega
    simp at hr
    simp [go_sem, ir70, purse_eq, hr, hb]
/-- Bytes, with their sum behind them. -/
def sealB (l : List Nat) : List Nat := l ++ tailN (crc l).toNat
theorem seal_spec (l : List Nat) (hb : ∀ c ∈ l, c < 256) (fu : Bool) (hl : l.length ≤ 1099511627775) : call E (.func (.func 107) [] []) [.imm false fu true (l.map encB)] []
    = some (.own 0 (sealB l).length 1 0 (sealB l).length, [.arr true false false 1 ((sealB l).map encB)]) := by
  rw [call_func E E107]
  have hC := clone_spec l fu hl
  have hS := sum_spec l hb hl false fu
  have hT := tail_spec (crc l).toNat
  have hr := rowsB (tailN (crc l).toNat)
  have ht : (tailN (crc l).toNat).length = 4 := rfl
  have hsb : sealB l = l ++ tailN (crc l).toNat := rfl
  generalize tailN (crc l).toNat = T at hT hr ht hsb
  have hb2 : ¬ (70368744177664 < l.length + 4) := by omega
  simp [go_sem, ir107, hC, hS, hT, hr, ht, hb2, hsb, purse_eq]
end Go.AM.R1
open Go Go.AM
namespace Go.AM.R1
theorem same13_loop (l m : List Nat) (hlm : l.length = m.length) (hl : l.length ≤ 1099511627775) (nl fu nl' fu' : Bool) (k : List Item) (R : Bool → Option (AVal × Heap))
    (hk : ∀ τ, finK 0 [.tmp 4] (run E 0 k τ []) = R true) (hf : R false = some (.lit (.bool false), [])) :
    ∀ (d i : Nat), i + d = l.length →
   finK 0 [.tmp 4] (run E 0 (.code L23_0 :: .inLoop [0, 1, 5] L23_0 :: .inBlock 0 :: k) [(0, .imm nl fu true (l.map encB)), (1, .imm nl' fu' true (m.map encB)), (5, .lit (.int .i64 i))] [])
   = R (decide (l.drop i = m.drop i)) := by
  intro d
  induction d with
  | zero =>
    intro i hi
    rw [List.drop_eq_nil_of_le (by omega), List.drop_eq_nil_of_le (by omega)]
    have : ¬ i < l.length := by omega
    simp [go_sem, run_codeL E L23_0.eq_1, this]
    exact hk _
  | succ d ih =>
    intro i hi
    have hlt : i < l.length := by omega
    have hlt' : i < m.length := by omega
    have w2 := wrapIdx (i := i) (by omega)
    rw [List.drop_eq_getElem_cons hlt, List.drop_eq_getElem_cons hlt']
    by_cases h : l[i] = m[i]
    · rw [decide_eq_decide.2 (show (l[i] :: l.drop (i + 1) = m[i] :: m.drop (i + 1)) ↔ l.drop (i + 1) = m.drop (i + 1) from ⟨fun e => (List.cons.inj e).2, fun e => by rw [h, e]⟩)]
      simp [go_sem, run_codeL E L23_0.eq_1, hlt, List.getElem?_eq_getElem hlt, List.getElem?_eq_getElem hlt', encB, h, w2]
      rw [run_inLoop']
      simp [go_sem, purse_eq]
      have := ih (i + 1) (by omega)
      simpa [encB] using this
    · have h' : ¬ ((l[i] : Nat) : Int) = (m[i] : Nat) := by omega
      rw [decide_eq_false (show ¬ (l[i] :: l.drop (i + 1) = m[i] :: m.drop (i + 1)) from fun e => h (List.cons.inj e).1), hf]
      simp [go_sem, h', run_codeL E L23_0.eq_1, hlt, List.getElem?_eq_getElem hlt, List.getElem?_eq_getElem hlt', encB, h, w2]
theorem same13_spec (l m : List Nat) (hl : l.length ≤ 1099511627775) (nl fu nl' fu' : Bool) :
    call E (.func (.func 23) [] []) [.imm nl fu true (l.map encB), .imm nl' fu' true (m.map encB)] [] = some (.lit (.bool (decide (l = m))), []) := by
  rw [call_func E E23]
  by_cases hlm : l.length = m.length
  · simp [go_sem, ir23, hlm]
    rw [run_inLoop']
    simp [go_sem, purse_eq]
    have := same13_loop l m hlm hl nl fu nl' fu' [.code (.seq (.reg [⟨none, some 4, .copy (.c (.lit (.bool true)))⟩] [] []) .ret)] (fun b => some (.lit (.bool b), [])) ?_ rfl l.length 0 (by omega)
    · simpa using this
    · intro τ; simp [go_sem]
  · have : ¬ (l.length : Int) = m.length := by omega
    have h2 : ¬ l = m := fun h => hlm (by rw [h])
    simp [go_sem, ir23, hlm, this, h2]

/-! ### Which blocks are right -/
/-- Are there two runs side by side with the same drivers? -/
def dup : List Run → Bool
  | a :: b :: l => decide (a.Drive = b.Drive) || dup (b :: l)
  | _ => false
theorem dup_cons (l : List Run) (i : Nat) (h : i + 1 < l.length) : dup (l.drop i) = (decide (l[i].Drive = l[i + 1].Drive) || dup (l.drop (i + 1))) := by
  rw [List.drop_eq_getElem_cons (show i < l.length by omega), List.drop_eq_getElem_cons h, dup]
theorem dup_end (l : List Run) (i : Nat) (h : l.length ≤ i + 1) : dup (l.drop i) = false := by
  rcases Nat.lt_or_ge i l.length with h2 | h2
  · rw [List.drop_eq_getElem_cons h2, List.drop_eq_nil_of_le (by omega)]; rfl
  · rw [List.drop_eq_nil_of_le h2]; rfl
def chkB (first : Int) (l : List Run) : Int :=
  if first < 0 ∨ 1073741824 < first then 10 else if l = [] then 16 else if 4096 < l.length then 12 else if chk l ≠ 0 then chk l else if dup l = true then 11 else if 1073741824 < first + sumN l then 12 else 0
def encBlk (first : Int) (l : List Run) (nl fu : Bool) : List AVal := [.lit (.int .i64 first), .imm nl fu true (l.map encRun)]
theorem bcheck_loop (first n : Int) (l : List Run) (hl : l.length ≤ 4096) (nl fu : Bool) (k : List Item) (R : Bool → Option (AVal × Heap))
    (hk : ∀ τ, lk 1 τ = .ptr 0 0 → lk 3 τ = .lit (.int .i64 n) → finK 0 [.tmp 2] (run E 0 k τ [.box (encBlk first l nl fu)]) = R false)
    (ht : R true = some (.lit (.int .i64 11), [])) :
    ∀ (d i : Nat), i + d + 1 = l.length →
   finK 0 [.tmp 2] (run E 0 (.code L104_0 :: .inLoop [1, 3, 37, 38] L104_0 :: .inBlock 1 :: k)
     [(1, .ptr 0 0), (3, .lit (.int .i64 n)), (37, .lit (.int .i64 ((l.length : Int) - 1))), (38, .lit (.int .i64 i))] [.box (encBlk first l nl fu)]) = R (dup (l.drop i)) := by
  intro d
  induction d with
  | zero =>
    intro i hi
    rw [dup_end l i (by omega)]
    have h1 : ¬ (i : Int) < (l.length : Int) - 1 := by omega
    simp [go_sem, run_codeL E L104_0.eq_1, h1]
    exact hk _ rfl rfl
  | succ d ih =>
    intro i hi
    have hlt : i < l.length := by omega
    have hlt' : i + 1 < l.length := by omega
    have h1 : (i : Int) < (l.length : Int) - 1 := by omega
    have w2 := wrapIdx (i := i) (by omega)
    have ht1 : ((i : Int) + 1).toNat = i + 1 := by omega
    have hz : (0 : Int) ≤ (i : Int) + 1 := by omega
    rw [dup_cons l i hlt']
    have ih2 := ih (i + 1) (by omega)
    simp [encBlk] at ih2
    simp at w2
    by_cases hd : l[i].Drive = l[i + 1].Drive
    · rw [show (decide (l[i].Drive = l[i + 1].Drive) || dup (l.drop (i + 1))) = true from by simp [hd], ht]
      simp [go_sem, run_codeL E L104_0.eq_1, h1, hlt, hlt', List.getElem?_eq_getElem hlt, List.getElem?_eq_getElem hlt', encBlk, encRun, w2, ht1, hz, hd]
    · rw [show (decide (l[i].Drive = l[i + 1].Drive) || dup (l.drop (i + 1))) = dup (l.drop (i + 1)) from by simp [hd]]
      simp [go_sem, run_codeL E L104_0.eq_1, h1, hlt, hlt', List.getElem?_eq_getElem hlt, List.getElem?_eq_getElem hlt', encBlk, encRun, w2, ht1, hz, hd]
      rw [run_inLoop']
      simp [go_sem, purse_eq]
      exact ih2
theorem bcheck_spec (first : Int) (hf : -9223372036854775808 ≤ first ∧ first ≤ 9223372036854775807) (l : List Run) (hl : l.length ≤ 1048576) (hl2 : ∀ r ∈ l, r.Ok) (nl fu : Bool) :
    call E (.func (.func 104) [] []) [.agg (encBlk first l nl fu)] [] = some (.lit (.int .i64 (chkB first l)), []) := by
  rw [call_func E E104]
  have hT := ticks_spec l (by omega) hl2 nl fu
  rw [ticks_eq] at hT
  unfold chkB
  by_cases h1 : first < 0
  · simp [go_sem, ir104, encBlk, h1]
  · by_cases h2 : 1073741824 < first
    · simp [go_sem, ir104, encBlk, h1, h2]
    · by_cases h3 : l = []
      · subst h3
        simp [go_sem, ir104, encBlk, h1, h2]
      · by_cases h4 : 4096 < l.length
        · have h4' : (4096 : Int) < l.length := by omega
          simp [go_sem, ir104, encBlk, h1, h2, h3, h4, h4']
        · have h4' : ¬ (4096 : Int) < l.length := by omega
          by_cases h5 : chk l = 0
          · obtain ⟨hN, h0, hS⟩ := chk_right h5
            rw [h5, if_pos rfl] at hT
            have hlen : 0 < l.length := List.length_pos_iff.2 h3
            have w1 : IntKind.wrap .i64 ((l.length : Int) - 1) = (l.length : Int) - 1 := wrap64 (by omega) (by omega)
            have w2 : IntKind.wrap .i64 (first + sumN l) = first + sumN l := wrap64 (by omega) (by omega)
            simp [go_sem, ir104, encBlk, h1, h2, h3, h4, h4', hT, h5, w1]
            rw [run_inLoop']
            simp [go_sem, purse_eq]
            have hlp := bcheck_loop first (sumN l) l (by omega) nl fu [.code (.seq (.seq (.reg [⟨none, some 56, .fieldA 0 (.t 1)⟩, ⟨none, some 57, .load false 1 (.t 56)⟩, ⟨none, some 58, .copy (.t 3)⟩, ⟨none, some 59, .bin .add (.t 57) (.t 58)⟩, ⟨none, some 60, .bin .gtr (.t 59) (.c (.lit (.int .i64 1073741824)))⟩] [] []) (.cond (.t 60) (.seq (.reg [⟨none, some 2, .copy (.c (.lit (.int .i64 12)))⟩] [] []) .ret) .skip)) (.seq (.reg [⟨none, some 2, .copy (.c (.lit (.int .i64 0)))⟩] [] []) .ret))]
              (fun b => some (.lit (.int .i64 (if b = true then 11 else if 1073741824 < first + sumN l then 12 else 0)), [])) ?_ rfl (l.length - 1) 0 (by omega)
            · simpa [encBlk] using hlp
            · intro τ t1 t3
              by_cases h6 : 1073741824 < first + sumN l
              · simp [go_sem, t1, t3, encBlk, w2, h6]
              · simp [go_sem, t1, t3, encBlk, w2, h6]
          · rw [if_neg h5] at hT
            simp [go_sem, ir104, encBlk, h1, h2, h3, h4, h4', hT, h5]

end Go.AM.R1
open Go Go.AM
namespace Go.AM.R1

/-! ### The bytes of a block -/
theorem ixor_range (x y : Int) : 0 ≤ ixor .u32 x y ∧ ixor .u32 x y ≤ 4294967295 := by
  unfold ixor
  generalize ((BitVec.ofInt IntKind.u32.bits x ^^^ BitVec.ofInt IntKind.u32.bits y).toNat : Int) = z
  simp [IntKind.wrap, IntKind.bits, IntKind.signed]; omega
theorem putN_pos (n : Nat) : putN n ≠ [] := by
  rcases Nat.lt_or_ge n 128 with h | h
  · rw [putN_small h]; simp
  · rw [putN_big h]; simp
theorem putN_length : ∀ (d n : Nat), n < 128 ^ (d + 1) → (putN n).length ≤ d + 1
  | 0, n, h => by rw [putN_small (by omega)]; simp
  | d + 1, n, h => by
    rcases Nat.lt_or_ge n 128 with h2 | h2
    · rw [putN_small h2]; simp
    · rw [putN_big h2, List.length_cons]
      have := putN_length d (n / 128) (by rw [Nat.pow_succ] at h; omega)
      omega
theorem putN_len64 {n : Nat} (h : n < 18446744073709551616) : (putN n).length ≤ 10 := putN_length 9 n (by omega)
theorem putN_byte : ∀ (d n : Nat), n < 128 ^ (d + 1) → ∀ c ∈ putN n, c < 256
  | 0, n, h => by rw [putN_small (by omega)]; simp; omega
  | d + 1, n, h => by
    rcases Nat.lt_or_ge n 128 with h2 | h2
    · rw [putN_small h2]; simp; omega
    · rw [putN_big h2]
      have := putN_byte d (n / 128) (by rw [Nat.pow_succ] at h; omega)
      intro c hc
      rcases List.mem_cons.1 hc with rfl | hc
      · omega
      · exact this c hc
/-- The inside as it is laid: a place with its bytes. -/
def inH (I : List Nat) : Heap := if I = [] then [.box [nilS]] else [.box [.own 1 I.length 1 0 I.length], .arr true false false 1 (I.map encB)]
theorem put1_spec (n : Nat) (hn : n < 18446744073709551616) (I : List Nat) (hI : I.length ≤ 1099511627775) :
    call E (.func (.func 105) [] [.ptr 0 0]) [.lit (.int .u64 n)] (inH I) = some (.tup [], inH (I ++ putN n)) := by
  rw [call_func E E105]
  have hV := vput_spec n hn
  have hp := putN_pos n
  have hr := rowsB (putN n)
  have hl := putN_len64 hn
  generalize putN n = B at hV hp hr hl
  have hb : ¬ (70368744177664 < B.length) := by omega
  have hb2 : ¬ (70368744177664 < I.length + B.length) := by omega
  by_cases h : I = []
  · subst h
    simp [go_sem, ir105, inH, hV, hp, hr, hb, purse_eq, List.range_succ]
  · simp [go_sem, ir105, inH, hV, hp, hr, h, hb2, purse_eq, List.range_succ]

/-- The numbers of a block's runs. -/
def runN (last : Int) : List Run → List Nat
  | [] => []
  | r :: l => r.N.toNat :: (ixor .u32 r.Drive last).toNat :: runN r.Drive l
def numsN (first : Int) (l : List Run) : List Nat := first.toNat :: l.length :: runN 4294967295 l
def bytesN (l : List Nat) : List Nat := l.flatMap putN
def insideB (first : Int) (l : List Run) : List Nat := bytesN (numsN first l)
/-- The bytes of numbers, as an inside. -/
def wholeB (l : List Nat) : List Nat := sealB (putN (bytesN l).length ++ bytesN l)
theorem bput_loop (l : List Run) (hl : l.length ≤ 4096) (hN : ∀ r ∈ l, 1 ≤ r.N ∧ r.N ≤ 1073741824) (nl fu : Bool) (k : List Item) (R : List Nat → Option (AVal × Heap))
    (hk : ∀ I τ, I ≠ [] → I.length ≤ 82000 → (∀ c ∈ I, c < 256) → lk 5 τ = .ptr 1 0 → finK 0 [.tmp 2, .tmp 3] (run E 0 k τ [.dead, .box [.own 2 I.length 1 0 I.length], .arr true false false 1 (I.map encB)]) = R I) :
    ∀ (d i : Nat) (I : List Nat) (last : Int), i + d = l.length → I ≠ [] → I.length ≤ 20 + 20 * i → (∀ c ∈ I, c < 256) →
   finK 0 [.tmp 2, .tmp 3] (run E 0 (.code L76_0 :: .inLoop [5, 6, 7, 28, 29, 30] L76_0 :: .inBlock 0 :: k)
     [(5, .ptr 1 0), (6, .func (.func 105) [] [.ptr 1 0]), (7, .lit (.int .u32 last)), (28, .imm nl fu true (l.map encRun)), (29, .lit (.int .i64 l.length)), (30, .lit (.int .i64 i))]
     [.dead, .box [.own 2 I.length 1 0 I.length], .arr true false false 1 (I.map encB)]) = R (I ++ bytesN (runN last (l.drop i))) := by
  intro d
  induction d with
  | zero =>
    intro i I last hi hne hI hby
    have : i = l.length := by omega
    subst this
    simp [go_sem, run_codeL E L76_0.eq_1, runN, bytesN]
    exact hk I _ hne (by omega) hby rfl
  | succ d ih =>
    intro i I last hi hne hI hby
    have hlt : i < l.length := by omega
    have w2 := wrapIdx (i := i) (by omega)
    have hn := hN _ (List.getElem_mem hlt)
    have hx := ixor_range l[i].Drive last
    have hP1 := put1_spec l[i].N.toNat (by omega) I (by omega)
    have hl1 := putN_len64 (n := l[i].N.toNat) (by omega)
    have hl2 := putN_len64 (n := (ixor .u32 l[i].Drive last).toNat) (by omega)
    have hP2 := put1_spec (ixor .u32 l[i].Drive last).toNat (by omega) (I ++ putN l[i].N.toNat) (by simp; omega)
    have e1 : IntKind.wrap .u64 l[i].N = l[i].N := by simp [IntKind.wrap, IntKind.bits, IntKind.signed]; omega
    have e2 : IntKind.wrap .u64 (ixor .u32 l[i].Drive last) = ixor .u32 l[i].Drive last := by simp [IntKind.wrap, IntKind.bits, IntKind.signed]; omega
    have e3 : ((l[i].N.toNat : Nat) : Int) = l[i].N := by omega
    have e4 : (((ixor .u32 l[i].Drive last).toNat : Nat) : Int) = ixor .u32 l[i].Drive last := by omega
    rw [e3] at hP1
    rw [e4] at hP2
    have ih2 := ih (i + 1) (I ++ putN l[i].N.toNat ++ putN (ixor .u32 l[i].Drive last).toNat) l[i].Drive (by omega) (by simp [hne]) (by simp; omega) (by
      intro c hc
      rcases List.mem_append.1 hc with hc | hc
      · rcases List.mem_append.1 hc with hc | hc
        · exact hby c hc
        · exact putN_byte 9 _ (by omega) c hc
      · exact putN_byte 9 _ (by omega) c hc)
    rw [List.drop_eq_getElem_cons hlt, runN]
    have hne2 : ¬ (I ++ putN l[i].N.toNat = []) := by simp [hne]
    have hne3 : ¬ (I ++ putN l[i].N.toNat ++ putN (ixor .u32 l[i].Drive last).toNat = []) := by simp [hne]
    rw [show I ++ bytesN (l[i].N.toNat :: (ixor .u32 l[i].Drive last).toNat :: runN l[i].Drive (l.drop (i + 1))) = I ++ putN l[i].N.toNat ++ putN (ixor .u32 l[i].Drive last).toNat ++ bytesN (runN l[i].Drive (l.drop (i + 1))) from by simp [bytesN]]
    unfold inH at hP1 hP2
    rw [if_neg hne, if_neg hne2] at hP1
    rw [if_neg hne2, if_neg hne3] at hP2
    generalize I ++ putN l[i].N.toNat = I1 at hP1 hP2 ih2
    generalize I1 ++ putN (ixor .u32 l[i].Drive last).toNat = I2 at hP2 ih2
    simp at ih2
    simp [go_sem, run_codeL E L76_0.eq_1, hlt, List.getElem?_eq_getElem hlt, encRun, w2, e1, e2, hP1, hP2, purse_eq]
    rw [run_inLoop']
    simp [go_sem, purse_eq]
    exact ih2

theorem chkB_ok {first : Int} {l : List Run} (h : chkB first l = 0) : (0 ≤ first ∧ first ≤ 1073741824) ∧ l ≠ [] ∧ l.length ≤ 4096 ∧ chk l = 0 ∧ dup l = false ∧ first + sumN l ≤ 1073741824 := by
  unfold chkB at h
  split at h
  · omega
  · split at h
    · omega
    · split at h
      · omega
      · split at h
        · rename_i h5; exact absurd h h5
        · split at h
          · omega
          · split at h
            · omega
            · rename_i h1 h2 h3 h4 h5 h6
              exact ⟨by omega, h2, by omega, by simpa using h4, by simpa using h5, by omega⟩
theorem bytes_len (l : List Nat) (h : ∀ n ∈ l, n < 18446744073709551616) : (bytesN l).length ≤ 10 * l.length := by
  induction l with
  | nil => simp [bytesN]
  | cons n l ih =>
    have h1 := putN_len64 (h n (by simp))
    have h2 := ih fun m hm => h m (by simp [hm])
    simp only [bytesN, List.flatMap_cons, List.length_append, List.length_cons] at h2 ⊢
    omega
theorem bytes_byte (l : List Nat) (h : ∀ n ∈ l, n < 18446744073709551616) : ∀ c ∈ bytesN l, c < 256 := by
  intro c hc
  simp only [bytesN, List.mem_flatMap] at hc
  obtain ⟨n, hn, hc⟩ := hc
  exact putN_byte 9 n (by have := h n hn; omega) c hc
theorem runN_lt : ∀ (l : List Run) (last : Int), (∀ r ∈ l, 1 ≤ r.N ∧ r.N ≤ 1073741824) → ∀ n ∈ runN last l, n < 4294967296
  | [], _, _, n, hn => by simp [runN] at hn
  | r :: l, last, h, n, hn => by
    have hr := h r (by simp)
    have hx := ixor_range r.Drive last
    simp only [runN, List.mem_cons] at hn
    rcases hn with rfl | rfl | hn
    · omega
    · omega
    · exact runN_lt l _ (fun x hx => h x (by simp [hx])) n hn
theorem runN_length : ∀ (l : List Run) (last : Int), (runN last l).length = 2 * l.length
  | [], _ => rfl
  | r :: l, last => by simp only [runN, List.length_cons, runN_length l]; omega
theorem nums_lt {first : Int} {l : List Run} (hf : 0 ≤ first ∧ first ≤ 1073741824) (hl : l.length ≤ 4096) (h : ∀ r ∈ l, 1 ≤ r.N ∧ r.N ≤ 1073741824) : ∀ n ∈ numsN first l, n < 4294967296 := by
  intro n hn
  simp only [numsN, List.mem_cons] at hn
  rcases hn with rfl | rfl | hn
  · omega
  · omega
  · exact runN_lt l _ h n hn
theorem inside_len {first : Int} {l : List Run} (hf : 0 ≤ first ∧ first ≤ 1073741824) (hl : l.length ≤ 4096) (h : ∀ r ∈ l, 1 ≤ r.N ∧ r.N ≤ 1073741824) : (insideB first l).length ≤ 82000 := by
  have := bytes_len (numsN first l) fun n hn => by have := nums_lt hf hl h n hn; omega
  have e : (numsN first l).length = 2 * l.length + 2 := by simp only [numsN, List.length_cons, runN_length]
  unfold insideB
  omega
theorem bput_spec (first : Int) (hf : -9223372036854775808 ≤ first ∧ first ≤ 9223372036854775807) (l : List Run) (hl : l.length ≤ 1048576) (hl2 : ∀ r ∈ l, r.Ok) (nl fu : Bool) (hc : chkB first l = 0) :
    call E (.func (.func 76) [] []) [.agg (encBlk first l nl fu)] []
      = some (.tup [.own 0 (wholeB (numsN first l)).length 1 0 (wholeB (numsN first l)).length, .lit (.int .i64 0)], [.arr true false false 1 ((wholeB (numsN first l)).map encB)]) := by
  rw [call_func E E76]
  have hC := bcheck_spec first hf l hl hl2 nl fu
  rw [hc] at hC
  obtain ⟨h1, h2, h3, h4, h5, h6⟩ := chkB_ok hc
  obtain ⟨hN, -, -⟩ := chk_right h4
  have hP1 := put1_spec first.toNat (by omega) [] (by simp)
  have hl1 := putN_len64 (n := first.toNat) (by omega)
  have hP2 := put1_spec l.length (by omega) (putN first.toNat) (by omega)
  have hl2 := putN_len64 (n := l.length) (by omega)
  have hp := putN_pos first.toNat
  have hne : ¬ (putN first.toNat ++ putN l.length = []) := by simp [hp]
  have e1 : IntKind.wrap .u64 first = first := by simp [IntKind.wrap, IntKind.bits, IntKind.signed]; omega
  have e2 := wrap_u64 (n := l.length) (by omega)
  have e3 : ((first.toNat : Nat) : Int) = first := by omega
  rw [e3] at hP1
  unfold inH at hP1 hP2
  rw [List.nil_append, if_pos rfl, if_neg hp] at hP1
  rw [if_neg hp, if_neg hne] at hP2
  have hil := inside_len h1 h3 hN
  have hib := bytes_byte (numsN first l) fun n hn => by have := nums_lt h1 h3 hN n hn; omega
  have hlp := bput_loop l h3 hN nl fu [.code (.seq (.reg [⟨none, some 49, .load false 1 (.t 5)⟩, ⟨none, some 50, .len (.t 49)⟩, ⟨none, some 51, .toInt .u64 (.t 50)⟩, ⟨none, some 52, .call 106 [(.t 51)]⟩, ⟨none, some 53, .load false 1 (.t 5)⟩, ⟨none, some 54, .append true 1 1 (.t 52) (.t 53)⟩, ⟨none, some 55, .call 107 [(.t 54)]⟩, ⟨none, some 2, .copy (.t 55)⟩, ⟨none, some 3, .copy (.c (.lit (.int .i64 0)))⟩] [(4, 3)] []) .ret)]
    (fun I => some (.tup [.own 0 (sealB (putN I.length ++ I)).length 1 0 (sealB (putN I.length ++ I)).length, .lit (.int .i64 0)], [.arr true false false 1 ((sealB (putN I.length ++ I)).map encB)])) ?_
    l.length 0 (putN first.toNat ++ putN l.length) 4294967295 (by omega) hne (by simp; omega) (by
      intro c hc
      rcases List.mem_append.1 hc with hc | hc
      · exact putN_byte 9 _ (by omega) c hc
      · exact putN_byte 9 _ (by omega) c hc)
  · rw [show putN first.toNat ++ putN l.length ++ bytesN (runN 4294967295 (l.drop 0)) = insideB first l from by simp [insideB, bytesN, numsN]] at hlp
    rw [show sealB (putN (insideB first l).length ++ insideB first l) = wholeB (numsN first l) from rfl] at hlp
    generalize putN first.toNat = A1 at hP1 hP2 hlp hp hne
    generalize A1 ++ putN l.length = A2 at hP2 hlp
    simp [encBlk] at hC
    simp only [nilS] at hP1
    simp [go_sem, ir76, encBlk, hC, e1, e2, hP1, hP2, purse_eq]
    rw [run_inLoop']
    simp [go_sem, purse_eq]
    simpa using hlp
  · intro I τ hI hIl hIb t5
    have hV := vput_spec I.length (by omega)
    have hq := wrap_u64 (n := I.length) (by omega)
    have hlV := putN_len64 (n := I.length) (by omega)
    have hr := rowsB I
    have hpb := putN_byte 9 I.length (by omega)
    have hpp := putN_pos I.length
    have hS := seal_spec (putN I.length ++ I) (by
      intro c hc
      rcases List.mem_append.1 hc with hc | hc
      · exact hpb c hc
      · exact hIb c hc) false (by simp; omega)
    generalize putN I.length = A at hV hlV hpp hS
    generalize sealB (A ++ I) = S at hS
    have hb : ¬ (70368744177664 < A.length + I.length) := by omega
    simp at hS
    simp [go_sem, t5, hq, hV, hr, hb, hI, hS, purse_eq]
end Go.AM.R1
open Go Go.AM
namespace Go.AM.R1

theorem bput_bad (first : Int) (hf : -9223372036854775808 ≤ first ∧ first ≤ 9223372036854775807) (l : List Run) (hl : l.length ≤ 1048576) (hl2 : ∀ r ∈ l, r.Ok) (nl fu : Bool) (hc : chkB first l ≠ 0) :
    call E (.func (.func 76) [] []) [.agg (encBlk first l nl fu)] [] = some (.tup [nilS, .lit (.int .i64 (chkB first l))], []) := by
  rw [call_func E E76]
  have hC := bcheck_spec first hf l hl hl2 nl fu
  simp [encBlk] at hC
  simp [go_sem, ir76, encBlk, hC, hc]
def encU (n : Nat) : List AVal := [.lit (.int .u64 n)]
theorem rowsU (l : List Nat) : rowsOk 1 (l.map encU) = true := rowsOk_map (f := encU) (fun _ => rfl) l
theorem tail_length (s : Nat) : (tailN s).length = 4 := rfl
theorem whole_length (l : List Nat) : (wholeB l).length = (putN (bytesN l).length).length + (bytesN l).length + 4 := by
  simp [wholeB, sealB, tail_length]; omega
end Go.AM.R1
open Go Go.AM
namespace Go.AM.R1

/-! ### Numbers, got -/
def getGo (i acc : Nat) : List Nat → Nat × Nat × Int
  | [] => (0, 0, 13)
  | x :: r => if i = 9 ∧ 1 < x then (0, 0, 10) else if x = 0 ∧ 0 < i then (0, 0, 11) else if x < 128 then (acc + x % 128 * 128 ^ i, i + 1, 0) else getGo (i + 1) (acc + x % 128 * 128 ^ i) r
def getN (b : List Nat) : Nat × Nat × Int := getGo 0 0 b
theorem iand_127 (x : Nat) (h : x < 256) : iand .u8 (x : Int) 127 = ((x % 128 : Nat) : Int) := by
  have e : (BitVec.ofInt 8 (x : Int) &&& BitVec.ofInt 8 127).toNat = x % 128 := by
    rw [BitVec.toNat_and, BitVec.toNat_ofInt, BitVec.toNat_ofInt]
    have h1 : ((x : Int) % ((2 ^ 8 : Nat) : Int)).toNat = x := by simp; omega
    have h2 : ((127 : Int) % ((2 ^ 8 : Nat) : Int)).toNat = 127 := by decide
    rw [h1, h2, show 127 = 2 ^ 7 - 1 from rfl, Nat.and_two_pow_sub_one_eq_mod]
  unfold iand
  show IntKind.wrap .u8 ((BitVec.ofInt 8 (x : Int) &&& BitVec.ofInt 8 127).toNat : Int) = _
  rw [e, wrap8]
  omega
theorem ior_add {i acc m : Nat} (h : acc < 2 ^ i) (h2 : acc + m * 2 ^ i < 18446744073709551616) : ior .u64 (acc : Int) ((m * 2 ^ i : Nat) : Int) = ((acc + m * 2 ^ i : Nat) : Int) := by
  have e : (BitVec.ofInt 64 (acc : Int) ||| BitVec.ofInt 64 ((m * 2 ^ i : Nat) : Int)).toNat = acc + m * 2 ^ i := by
    rw [BitVec.toNat_or, BitVec.ofInt_natCast, BitVec.ofInt_natCast, BitVec.toNat_ofNat, BitVec.toNat_ofNat, Nat.mod_eq_of_lt (by omega), Nat.mod_eq_of_lt (by omega)]
    have := Nat.shiftLeft_add_eq_or_of_lt h m
    rw [Nat.shiftLeft_eq] at this
    rw [Nat.or_comm, ← this]; omega
  unfold ior
  show IntKind.wrap .u64 ((BitVec.ofInt 64 (acc : Int) ||| BitVec.ofInt 64 ((m * 2 ^ i : Nat) : Int)).toNat : Int) = _
  rw [e, wrap_u64 h2]
theorem pow128 (i : Nat) : (128 : Nat) ^ i = 2 ^ (7 * i) := by rw [Nat.pow_mul]
theorem get_bound {i acc x : Nat} (h9 : i ≤ 9) (ha : acc < 128 ^ i) (hx : i = 9 → x ≤ 1) : acc + x % 128 * 128 ^ i < 18446744073709551616 := by
  have hm : x % 128 ≤ 127 := by omega
  rcases Nat.lt_or_ge i 9 with h | h
  · have h2 : x % 128 * 128 ^ i ≤ 127 * 128 ^ i := Nat.mul_le_mul_right _ hm
    have h3 : 128 ^ i ≤ 128 ^ 8 := Nat.pow_le_pow_right (by omega) (by omega)
    omega
  · have : i = 9 := by omega
    subst this
    have h2 : x % 128 * 128 ^ 9 ≤ 1 * 128 ^ 9 := Nat.mul_le_mul_right _ (by have := hx rfl; omega)
    omega
theorem get_next {i acc x : Nat} (ha : acc < 128 ^ i) : acc + x % 128 * 128 ^ i < 128 ^ (i + 1) := by
  have hm : x % 128 ≤ 127 := by omega
  have h2 : x % 128 * 128 ^ i ≤ 127 * 128 ^ i := Nat.mul_le_mul_right _ hm
  rw [Nat.pow_succ]
  omega
theorem vget_loop (b : List Nat) (hb : ∀ c ∈ b, c < 256) (hl : b.length ≤ 1099511627775) (nl fu : Bool) (k : List Item) (R : Nat × Nat × Int → Option (AVal × Heap))
    (hk : ∀ (n kk : Nat) (e : Int) τ, lk 5 τ = .lit (.int .u64 (n : Nat)) → lk 6 τ = .lit (.int .i64 e) → lk 7 τ = .lit (.int .i64 (kk : Nat)) → finK 0 [.tmp 2, .tmp 3, .tmp 4] (run E 0 k τ []) = R (if e = 0 then (n, kk, 0) else (0, 0, e))) :
    ∀ (d i acc : Nat), i + d = b.length → i ≤ 9 → acc < 128 ^ i →
   finK 0 [.tmp 2, .tmp 3, .tmp 4] (run E 0 (.code L142_0 :: .inLoop [5, 6, 7, 10, 11, 12] L142_0 :: .inBlock 0 :: k)
     [(5, .lit (.int .u64 acc)), (6, .lit (.int .i64 13)), (7, .lit (.int .i64 0)), (10, .imm nl fu true (b.map encB)), (11, .lit (.int .i64 b.length)), (12, .lit (.int .i64 i))] []) = R (getGo i acc (b.drop i)) := by
  intro d
  induction d with
  | zero =>
    intro i acc hi h9 ha
    have : i = b.length := by omega
    subst this
    simp [go_sem, run_codeL E L142_0.eq_1, getGo]
    exact hk acc 0 13 _ rfl rfl rfl
  | succ d ih =>
    intro i acc hi h9 ha
    have hlt : i < b.length := by omega
    have hx := hb _ (List.getElem_mem hlt)
    have w2 := wrapIdx (i := i) (by omega)
    rw [List.drop_eq_getElem_cons hlt, getGo]
    by_cases c1 : i = 9 ∧ 1 < b[i]
    · rw [if_pos c1]
      obtain ⟨rfl, c1b⟩ := c1
      have c1c : (1 : Int) < (b[9] : Nat) := by omega
      have hlt' : (9 : Int) < b.length := by omega
      simp [go_sem, run_codeL E L142_0.eq_1, hlt, hlt', List.getElem?_eq_getElem hlt, encB, c1c]
      have hk' := hk acc 0 10
      simp at hk'
      exact hk' _ rfl rfl rfl
    · rw [if_neg c1]
      have c1' : ¬ ((i : Int) = 9 ∧ (1 : Int) < (b[i] : Nat)) := by omega
      by_cases c2 : b[i] = 0 ∧ 0 < i
      · rw [if_pos c2]
        obtain ⟨c2a, c2b⟩ := c2
        have hk' := hk acc 0 11
        simp at hk'
        by_cases c3 : i = 9
        · subst c3
          have hlt' : (9 : Int) < b.length := by omega
          simp [go_sem, run_codeL E L142_0.eq_1, hlt, hlt', List.getElem?_eq_getElem hlt, encB, c2a]
          exact hk' _ rfl rfl rfl
        · have c3' : ¬ (i : Int) = 9 := by omega
          simp [go_sem, run_codeL E L142_0.eq_1, hlt, List.getElem?_eq_getElem hlt, encB, c2a, c2b, c3']
          exact hk' _ rfl rfl rfl
      · rw [if_neg c2]
        have hbd := get_bound (x := b[i]) h9 ha (by omega)
        have hnx := get_next (x := b[i]) ha
        have e1 := iand_127 b[i] hx
        have e2 : IntKind.wrap .u64 ((b[i] % 128 : Nat) : Int) = ((b[i] % 128 : Nat) : Int) := wrap_u64 (by omega)
        have e3 : IntKind.wrap .i64 (7 * (i : Int)) = ((7 * i : Nat) : Int) := by rw [wrap64 (by omega) (by omega)]; omega
        have e4 : min (7 * i) 64 = 7 * i := by omega
        rw [pow128] at hbd hnx ha ⊢
        have e5 : IntKind.wrap .u64 (((b[i] % 128 : Nat) : Int) * 2 ^ (7 * i)) = ((b[i] % 128 * 2 ^ (7 * i) : Nat) : Int) := by
          rw [show ((b[i] % 128 : Nat) : Int) * 2 ^ (7 * i) = ((b[i] % 128 * 2 ^ (7 * i) : Nat) : Int) from by simp, wrap_u64 (by omega)]
        have e6 := ior_add (m := b[i] % 128) ha hbd
        have hsh : ¬ ((7 * i : Nat) : Int) < 0 := by omega
        rw [show ((7 * i : Nat) : Int) = 7 * (i : Int) from by omega] at e3 hsh
        have e7 : (7 * (i : Int)).toNat = 7 * i := by omega
        by_cases c3 : i = 9
        · subst c3
          have hx1 : b[9] = 1 := by omega
          have hlt' : (9 : Int) < b.length := by omega
          rw [hx1] at hbd e6 ⊢
          have f1 : iand .u8 1 127 = 1 := by decide
          have f2 : IntKind.wrap .u64 1 = 1 := by decide
          have f3 : IntKind.wrap .i64 63 = 63 := by decide
          have f4 : IntKind.wrap .u64 9223372036854775808 = 9223372036854775808 := by decide
          have f5 : IntKind.wrap .i64 10 = 10 := by decide
          have hk' := hk (acc + 9223372036854775808) 10 0
          simp at e6 hk'
          simp [go_sem, run_codeL E L142_0.eq_1, hlt, hlt', List.getElem?_eq_getElem hlt, encB, hx1, f1, f2, f3, f4, f5, e6]
          exact hk' _ rfl rfl rfl
        · have c3' : ¬ (i : Int) = 9 := by omega
          by_cases c4 : b[i] = 0
          · have hi0 : i = 0 := by omega
            subst hi0
            have ha0 : acc = 0 := by simp at ha; omega
            subst ha0
            have hlt' : (0 : Int) < b.length := by omega
            have f1 : iand .u8 0 127 = 0 := by decide
            have f2 : IntKind.wrap .u64 0 = 0 := by decide
            have f3 : IntKind.wrap .i64 0 = 0 := by decide
            have f5 : IntKind.wrap .i64 1 = 1 := by decide
            have f6 : ior .u64 0 0 = 0 := by decide
            have hk' := hk 0 1 0
            simp at hk'
            rw [c4]
            simp [go_sem, run_codeL E L142_0.eq_1, hlt, hlt', List.getElem?_eq_getElem hlt, encB, c4, f1, f2, f3, f5, f6]
            exact hk' _ rfl rfl rfl
          · have c4' : ¬ ((b[i] : Nat) : Int) = 0 := by omega
            by_cases c5 : b[i] < 128
            · rw [if_pos c5]
              have c5' : ((b[i] : Nat) : Int) < 128 := by omega
              simp only [Int.natCast_emod] at e1 e2 e5 e6
              simp at e1 e2 e3 e5 e6 w2
              simp [go_sem, run_codeL E L142_0.eq_1, hlt, List.getElem?_eq_getElem hlt, encB, c3', c4, c4', c5, c5', w2, e1, e2, e3, e4, e5, e6, e7, hsh]
              have hk' := hk (acc + b[i] % 128 * 2 ^ (7 * i)) (i + 1) 0
              simp at hk'
              exact hk' _ rfl rfl rfl
            · rw [if_neg c5]
              have c5' : ¬ ((b[i] : Nat) : Int) < 128 := by omega
              have ih2 := ih (i + 1) (acc + b[i] % 128 * 2 ^ (7 * i)) (by omega) (by omega) (by rw [pow128] at hnx ⊢; exact hnx)
              simp only [Int.natCast_emod] at e1 e2 e5 e6
              simp at e1 e2 e3 e5 e6 w2 ih2
              simp [go_sem, run_codeL E L142_0.eq_1, hlt, List.getElem?_eq_getElem hlt, encB, c3', c4, c4', c5, c5', w2, e1, e2, e3, e4, e5, e6, e7, hsh]
              rw [run_inLoop']
              simp [go_sem, purse_eq]
              simpa [encB] using ih2

theorem vget_spec (b : List Nat) (hb : ∀ c ∈ b, c < 256) (hl : b.length ≤ 1099511627775) (nl fu : Bool) :
    call E (.func (.func 142) [] []) [.imm nl fu true (b.map encB)] [] = some (.tup [.lit (.int .u64 (getN b).1), .lit (.int .i64 (getN b).2.1), .lit (.int .i64 (getN b).2.2)], []) := by
  rw [call_func E E142]
  have h := vget_loop b hb hl nl fu [.code (.seq (.seq (.reg [⟨none, some 44, .copy (.t 6)⟩, ⟨none, some 45, .bin .neq (.t 44) (.c (.lit (.int .i64 0)))⟩] [] []) (.cond (.t 45) (.seq (.reg [⟨none, some 46, .copy (.t 6)⟩, ⟨none, some 2, .copy (.c (.lit (.int .u64 0)))⟩, ⟨none, some 3, .copy (.c (.lit (.int .i64 0)))⟩, ⟨none, some 4, .copy (.t 46)⟩] [] []) .ret) .skip)) (.seq (.reg [⟨none, some 47, .copy (.t 5)⟩, ⟨none, some 48, .copy (.t 7)⟩, ⟨none, some 2, .copy (.t 47)⟩, ⟨none, some 3, .copy (.t 48)⟩, ⟨none, some 4, .copy (.c (.lit (.int .i64 0)))⟩] [] []) .ret)), .inScope]
    (fun r => some (.tup [.lit (.int .u64 r.1), .lit (.int .i64 r.2.1), .lit (.int .i64 r.2.2)], [])) ?_ b.length 0 0 (by omega) (by omega) (by simp)
  · simp [go_sem, ir142]
    rw [run_inLoop']
    simp [go_sem, purse_eq]
    simpa [getN] using h
  · intro n kk e τ t5 t6 t7
    by_cases he : e = 0
    · subst he
      simp [go_sem, t5, t6, t7]
    · simp [go_sem, t5, t6, t7, he]
end Go.AM.R1
open Go Go.AM
namespace Go.AM.R1

theorem tmod128' (x : Nat) : ((x : Nat) : Int).tmod 128 = ((x % 128 : Nat) : Int) := by rw [Int.tmod_eq_emod_of_nonneg (by omega)]; omega
end Go.AM.R1
open Go Go.AM
namespace Go.AM.R1

/-! ### What is put is got, and what is got was put -/
theorem get_put_gen (r : List Nat) : ∀ (d m i acc : Nat), m < 128 ^ (d + 1) → i ≤ 9 → (i = 0 ∨ m ≠ 0) → acc + m * 128 ^ i < 18446744073709551616 → getGo i acc (putN m ++ r) = (acc + m * 128 ^ i, i + (putN m).length, 0)
  | 0, m, i, acc, hm, h9, h0, hb => by
    rw [putN_small (by omega)]
    simp only [List.cons_append, List.nil_append, getGo, List.length_cons, List.length_nil]
    have c1 : ¬ (i = 9 ∧ 1 < m) := by
      rintro ⟨rfl, h⟩
      have : 2 * 128 ^ 9 ≤ m * 128 ^ 9 := Nat.mul_le_mul_right _ h
      omega
    rw [if_neg c1, if_neg (by omega), if_pos (by omega), Nat.mod_eq_of_lt (by omega)]
  | d + 1, m, i, acc, hm, h9, h0, hb => by
    rcases Nat.lt_or_ge m 128 with h | h
    · exact get_put_gen r 0 m i acc (by omega) h9 h0 hb
    · rw [putN_big h]
      simp only [List.cons_append, getGo, List.length_cons]
      have hi : i < 9 := by
        rcases Nat.lt_or_ge i 9 with h2 | h2
        · exact h2
        · have : i = 9 := by omega
          subst this
          have : 128 * 128 ^ 9 ≤ m * 128 ^ 9 := Nat.mul_le_mul_right _ h
          omega
      rw [if_neg (by omega), if_neg (by omega), if_neg (by omega)]
      have e : acc + (m % 128 + 128) % 128 * 128 ^ i + m / 128 * 128 ^ (i + 1) = acc + m * 128 ^ i := by
        rw [Nat.pow_succ, show (m % 128 + 128) % 128 = m % 128 from by omega]
        have h1 : m / 128 * (128 ^ i * 128) = (128 * (m / 128)) * 128 ^ i := by
          rw [Nat.mul_comm (128 ^ i) 128, ← Nat.mul_assoc, Nat.mul_comm (m / 128) 128]
        rw [h1, Nat.add_assoc, ← Nat.add_mul, Nat.mod_add_div]
      have ih := get_put_gen r d (m / 128) (i + 1) (acc + (m % 128 + 128) % 128 * 128 ^ i) (by rw [Nat.pow_succ] at hm; omega) (by omega) (.inr (by omega)) (by rw [e]; exact hb)
      rw [ih, e]
      congr 2; omega
theorem get_put {n : Nat} (h : n < 18446744073709551616) (r : List Nat) : getN (putN n ++ r) = (n, (putN n).length, 0) := by
  have := get_put_gen r 9 n 0 0 (by omega) (by omega) (.inl rfl) (by simpa using h)
  simpa [getN] using this
theorem put_get_gen : ∀ (b : List Nat) (i acc n k : Nat), (∀ c ∈ b, c < 256) → i ≤ 9 → acc < 128 ^ i → getGo i acc b = (n, k, 0) →
    ∃ m, b = putN m ++ b.drop (k - i) ∧ n = acc + m * 128 ^ i ∧ k = i + (putN m).length ∧ (0 < i → m ≠ 0) ∧ n < 18446744073709551616
  | [], i, acc, n, k, _, _, _, h => by simp [getGo] at h
  | x :: r, i, acc, n, k, hb, h9, ha, h => by
    have hx := hb x (by simp)
    rw [getGo] at h
    split at h
    · simp at h
    · rename_i c1
      split at h
      · simp at h
      · rename_i c2
        have hbd := get_bound (x := x) h9 ha (by omega)
        split at h
        · rename_i c3
          simp only [Prod.mk.injEq] at h
          obtain ⟨h1, h2, -⟩ := h
          refine ⟨x, ?_, ?_, ?_, ?_, ?_⟩
          · rw [putN_small c3, ← h2, show i + 1 - i = 1 from by omega]; rfl
          · rw [← h1, Nat.mod_eq_of_lt c3]
          · rw [putN_small c3, ← h2]; rfl
          · omega
          · rw [← h1]; exact hbd
        · rename_i c3
          have hi : i < 9 := by omega
          obtain ⟨m, e1, e2, e3, e4, e5⟩ := put_get_gen r (i + 1) _ n k (fun c hc => hb c (by simp [hc])) (by omega) (get_next ha) h
          have hm := e4 (by omega)
          have hk : i + 1 ≤ k := by omega
          refine ⟨x % 128 + m * 128, ?_, ?_, ?_, ?_, e5⟩
          · rw [putN_big (by omega), show (x % 128 + m * 128) % 128 + 128 = x from by omega, show (x % 128 + m * 128) / 128 = m from by omega, show k - i = (k - (i + 1)) + 1 from by omega]
            simp only [List.cons_append, List.drop_succ_cons]
            rw [← e1]
          · rw [e2, Nat.pow_succ, Nat.add_mul, Nat.mul_assoc m 128, Nat.mul_comm 128 (128 ^ i)]; omega
          · rw [putN_big (by omega), show (x % 128 + m * 128) / 128 = m from by omega, List.length_cons]; omega
          · omega
theorem put_get {b : List Nat} {n k : Nat} (hb : ∀ c ∈ b, c < 256) (h : getN b = (n, k, 0)) : b = putN n ++ b.drop k ∧ k = (putN n).length ∧ n < 18446744073709551616 := by
  obtain ⟨m, e1, e2, e3, -, e5⟩ := put_get_gen b 0 0 n k hb (by omega) (by simp) h
  simp at e2 e3 e1
  subst e2
  exact ⟨by simpa using e1, e3, e5⟩
theorem getGo_bad : ∀ (b : List Nat) (i acc : Nat), (getGo i acc b).2.2 ≠ 0 → (getGo i acc b).1 = 0 ∧ (getGo i acc b).2.1 = 0
  | [], _, _, _ => ⟨rfl, rfl⟩
  | x :: r, i, acc, h => by
    rw [getGo] at h ⊢
    split
    · exact ⟨rfl, rfl⟩
    · rename_i c1
      rw [if_neg c1] at h
      split
      · exact ⟨rfl, rfl⟩
      · rename_i c2
        rw [if_neg c2] at h
        split
        · rename_i c3
          rw [if_pos c3] at h; simp at h
        · rename_i c3
          rw [if_neg c3] at h
          exact getGo_bad r _ _ h
/-- The numbers of bytes. -/
def allGo : Nat → List Nat → Nat → List Nat → List Nat × Nat × Int
  | 0, _, _, acc => (acc, 0, 0)
  | d + 1, b, p, acc => if b.length ≤ p then (acc, 0, 0) else if (getN (b.drop p)).2.2 = 0 then allGo d b (p + (getN (b.drop p)).2.1) (acc ++ [(getN (b.drop p)).1]) else ([], p, (getN (b.drop p)).2.2)
def allN (b : List Nat) : List Nat × Nat × Int := allGo b.length b 0 []
theorem get_ok {b : List Nat} (hb : ∀ c ∈ b, c < 256) (h : (getN b).2.2 = 0) : b = putN (getN b).1 ++ b.drop (getN b).2.1 ∧ (getN b).2.1 = (putN (getN b).1).length ∧ (getN b).1 < 18446744073709551616 :=
  put_get hb (by rw [← h])
theorem all_ok : ∀ (d : Nat) (b : List Nat) (p : Nat) (acc l : List Nat) (q : Nat), (∀ c ∈ b, c < 256) → b.length ≤ p + d → allGo d b p acc = (l, q, 0) → ∃ l', l = acc ++ l' ∧ b.drop p = bytesN l' ∧ (∀ n ∈ l', n < 18446744073709551616) ∧ q = 0
  | 0, b, p, acc, l, q, hb, hd, h => by
    simp only [allGo, Prod.mk.injEq] at h
    exact ⟨[], by simp [h.1], by rw [List.drop_eq_nil_of_le (by omega)]; rfl, by simp, h.2.1.symm⟩
  | d + 1, b, p, acc, l, q, hb, hd, h => by
    rw [allGo] at h
    split at h
    · simp only [Prod.mk.injEq] at h
      exact ⟨[], by simp [h.1], by rw [List.drop_eq_nil_of_le (by omega)]; rfl, by simp, h.2.1.symm⟩
    · split at h
      · rename_i h1 h2
        obtain ⟨e1, e2, e3⟩ := get_ok (fun c hc => hb c (List.mem_of_mem_drop hc)) h2
        have hpos := List.length_pos_iff.2 (putN_pos (getN (b.drop p)).1)
        obtain ⟨l', f1, f2, f3, f4⟩ := all_ok d b _ _ l q hb (by omega) h
        refine ⟨(getN (b.drop p)).1 :: l', by rw [f1]; simp, ?_, ?_, f4⟩
        · rw [show bytesN ((getN (b.drop p)).1 :: l') = putN (getN (b.drop p)).1 ++ bytesN l' from rfl, ← f2, ← List.drop_drop]
          exact e1
        · intro n hn
          rcases List.mem_cons.1 hn with rfl | hn
          · exact e3
          · exact f3 n hn
      · rename_i h1 h2
        simp only [Prod.mk.injEq] at h
        exact absurd h.2.2 h2
theorem all_bytes : ∀ (l' : List Nat) (d : Nat) (b : List Nat) (p : Nat) (acc : List Nat), b.drop p = bytesN l' → (∀ n ∈ l', n < 18446744073709551616) → b.length ≤ p + d → allGo d b p acc = (acc ++ l', 0, 0)
  | [], d, b, p, acc, h, _, hd => by
    have hl : b.length ≤ p := by
      have := congrArg List.length h
      simp [bytesN] at this; omega
    cases d with
    | zero => simp [allGo]
    | succ d => rw [allGo, if_pos hl]; simp
  | n :: l', d, b, p, acc, h, hn, hd => by
    have h' : b.drop p = putN n ++ bytesN l' := h
    have hg := get_put (hn n (by simp)) (bytesN l')
    rw [← h'] at hg
    have hpos := List.length_pos_iff.2 (putN_pos n)
    have hlen := congrArg List.length h'
    simp at hlen
    cases d with
    | zero => omega
    | succ d =>
      rw [allGo, if_neg (by omega), hg, if_pos rfl]
      rw [all_bytes l' d b (p + (putN n).length) (acc ++ [n]) (by rw [← List.drop_drop, h', List.drop_left]) (fun m hm => hn m (by simp [hm])) (by omega)]
      simp
theorem bytesN_inj {l m : List Nat} (hl : ∀ n ∈ l, n < 18446744073709551616) (hm : ∀ n ∈ m, n < 18446744073709551616) (h : bytesN l = bytesN m) : l = m := by
  have h1 := all_bytes l (bytesN l).length (bytesN l) 0 [] rfl hl (by omega)
  have h2 := all_bytes m (bytesN l).length (bytesN l) 0 [] (by simpa using h) hm (by omega)
  rw [h1] at h2
  simpa using h2
end Go.AM.R1
open Go Go.AM
namespace Go.AM.R1

theorem take_allB (b : List Nat) : List.take b.length (List.map encB b) = List.map encB b := List.take_of_length_le (by simp)
theorem bytesOf_map : ∀ l : List Nat, bytesOf (l.map encB) = some (l.map UInt8.ofNat)
  | [] => rfl
  | c :: l => by
    rw [List.map_cons, encB, bytesOf, bytesOf_map l]
    simp
theorem ofNat_inj {a b : Nat} (ha : a < 256) (hb : b < 256) (h : UInt8.ofNat a = UInt8.ofNat b) : a = b := by
  have := congrArg UInt8.toNat h
  simp at this
  omega
theorem map_ofNat_inj : ∀ {l m : List Nat}, (∀ c ∈ l, c < 256) → (∀ c ∈ m, c < 256) → l.map UInt8.ofNat = m.map UInt8.ofNat → l = m
  | [], [], _, _, _ => rfl
  | [], _ :: _, _, _, h => by simp at h
  | _ :: _, [], _, _, h => by simp at h
  | a :: l, b :: m, hl, hm, h => by
    simp only [List.map_cons, List.cons.injEq] at h
    rw [ofNat_inj (hl a (by simp)) (hm b (by simp)) h.1, map_ofNat_inj (fun c hc => hl c (by simp [hc])) (fun c hc => hm c (by simp [hc])) h.2]
theorem equal_spec (l m : List Nat) (hl : ∀ c ∈ l, c < 256) (hm : ∀ c ∈ m, c < 256) (nl fu nl' fu' : Bool) :
    call E (.func (.func 156) [] []) [.imm nl fu true (l.map encB), .imm nl' fu' true (m.map encB)] [] = some (.lit (.bool (decide (l = m))), []) := by
  rw [call_func E E156]
  have e : (l.map UInt8.ofNat == m.map UInt8.ofNat) = decide (l = m) := by
    by_cases h : l = m
    · subst h; simp
    · rw [decide_eq_false h, beq_eq_false_iff_ne]
      exact fun e => h (map_ofNat_inj hl hm e)
  simp [go_sem, ir156, bytesOf_map, e]

theorem tail_length' (s : Nat) : (tailN s).length = 4 := rfl
theorem tail_byte (s : Nat) : ∀ c ∈ tailN s, c < 256 := by
  intro c hc
  simp [tailN] at hc
  omega
/-- Is there a sum behind, that is right? -/
def openE (b : List Nat) : Int := if b.length < 4 then 13 else if b.drop (b.length - 4) = tailN (crc (b.take (b.length - 4))).toNat then 0 else 18
theorem open_spec (b : List Nat) (hb : ∀ c ∈ b, c < 256) (hl : b.length ≤ 1099511627775) (fu : Bool) :
    call E (.func (.func 141) [] []) [.imm false fu true (b.map encB)] []
      = some (if openE b = 0 then (.tup [.own 0 (b.length - 4) 1 0 (b.length - 4), .lit (.int .i64 0)], [.arr true false (b.take (b.length - 4)).isEmpty 1 ((b.take (b.length - 4)).map encB)])
        else (.tup [nilS, .lit (.int .i64 (openE b))], [])) := by
  rw [call_func E E141]
  by_cases h4 : b.length < 4
  · have e : openE b = 13 := by unfold openE; rw [if_pos h4]
    have w : IntKind.wrap .i64 ((b.length : Int) - 4) = (b.length : Int) - 4 := wrap64 (by omega) (by omega)
    have hneg : (b.length : Int) - 4 < 0 := by omega
    simp [go_sem, ir141, e, w, hneg]
  · have w : IntKind.wrap .i64 ((b.length : Int) - 4) = ((b.length - 4 : Nat) : Int) := by rw [wrap64 (by omega) (by omega)]; omega
    have hS := sum_spec (b.take (b.length - 4)) (fun c hc => hb c (List.mem_of_mem_take hc)) (by simp; omega) false (fu && decide (b.length - 4 = b.length))
    have hT := tail_spec (crc (b.take (b.length - 4))).toNat
    have hE := equal_spec (b.drop (b.length - 4)) (tailN (crc (b.take (b.length - 4))).toNat) (fun c hc => hb c (List.mem_of_mem_drop hc)) (tail_byte _) false fu false false
    have hC := clone_spec (b.take (b.length - 4)) (fu && decide (b.length - 4 = b.length)) (by simp; omega)
    have htl : (tailN (crc (b.take (b.length - 4))).toNat).length = 4 := rfl
    have hlt : (b.take (b.length - 4)).length = b.length - 4 := by simp
    have e : openE b = if b.drop (b.length - 4) = tailN (crc (b.take (b.length - 4))).toNat then 0 else 18 := by unfold openE; rw [if_neg h4]
    rw [hlt] at hC
    generalize tailN (crc (b.take (b.length - 4))).toNat = T at hT hE htl e
    rw [List.map_take] at hS hC
    rw [List.map_drop] at hE
    rw [List.map_take]
    have hk : b.length - 4 ≤ b.length := by omega
    have hr := rowsB b
    generalize hkk : b.length - 4 = kk at *
    have hneg : ¬ (kk : Int) < 0 := by omega
    by_cases hq : b.drop kk = T
    · rw [if_pos hq] at e
      rw [decide_eq_true hq] at hE
      simp [go_sem, ir141, e, w, hneg, hk, hr, take_allB, hS, hT, hE, hC, htl, purse_eq]
    · rw [if_neg hq] at e
      rw [decide_eq_false hq] at hE
      simp [go_sem, ir141, e, w, hneg, hk, hr, take_allB, hS, hT, hE, htl, purse_eq]

theorem seal_take (b : List Nat) (h : ¬ b.length < 4) : openE b = 0 ↔ sealB (b.take (b.length - 4)) = b := by
  unfold openE sealB
  rw [if_neg h]
  constructor
  · intro e
    split at e
    · rename_i hq
      rw [← hq, List.take_append_drop]
    · omega
  · intro e
    rw [if_pos]
    have h2 := congrArg (List.drop (b.length - 4)) e
    rw [List.drop_append] at h2
    have hlt : (b.take (b.length - 4)).length = b.length - 4 := by simp
    rw [hlt, Nat.sub_self, List.drop_zero, List.drop_eq_nil_of_le (by omega), List.nil_append] at h2
    exact h2.symm
theorem sealB_length (l : List Nat) : (sealB l).length = l.length + 4 := by simp [sealB, tail_length']
end Go.AM.R1
open Go Go.AM
namespace Go.AM.R1

def sizeB (b : List Nat) : Int × Int := if (getN b).2.2 ≠ 0 then (0, (getN b).2.2) else if 65536 < (getN b).1 then (0, 12) else (((getN b).2.1 + (getN b).1 + 4 : Nat), 0)
theorem get_k_le {b : List Nat} (hb : ∀ c ∈ b, c < 256) (h : (getN b).2.2 = 0) : 1 ≤ (getN b).2.1 ∧ (getN b).2.1 ≤ 10 ∧ (getN b).2.1 ≤ b.length := by
  obtain ⟨e1, e2, e3⟩ := get_ok hb h
  have hpos := List.length_pos_iff.2 (putN_pos (getN b).1)
  have h10 := putN_len64 e3
  have hl := congrArg List.length e1
  simp at hl
  omega
theorem size_spec (b : List Nat) (hb : ∀ c ∈ b, c < 256) (hl : b.length ≤ 1099511627775) (nl fu : Bool) :
    call E (.func (.func 140) [] []) [.imm nl fu true (b.map encB)] [] = some (.tup [.lit (.int .i64 (sizeB b).1), .lit (.int .i64 (sizeB b).2)], []) := by
  rw [call_func E E140]
  have hG := vget_spec b hb hl nl fu
  unfold sizeB
  by_cases h : (getN b).2.2 = 0
  · have hk := get_k_le hb h
    rw [h] at hG
    by_cases h2 : 65536 < (getN b).1
    · have h2' : (65536 : Int) < ((getN b).1 : Nat) := by omega
      simp [go_sem, ir140, hG, h, h2, h2']
    · have h2' : ¬ (65536 : Int) < ((getN b).1 : Nat) := by omega
      have w0 : IntKind.wrap .i64 ((getN b).1 : Int) = ((getN b).1 : Int) := wrap64 (by omega) (by omega)
      have w1 : IntKind.wrap .i64 (((getN b).2.1 : Int) + ((getN b).1 : Int)) = ((getN b).2.1 : Int) + ((getN b).1 : Int) := wrap64 (by omega) (by omega)
      have w2 : IntKind.wrap .i64 (((getN b).2.1 : Int) + ((getN b).1 : Int) + 4) = ((getN b).2.1 : Int) + ((getN b).1 : Int) + 4 := wrap64 (by omega) (by omega)
      simp [go_sem, ir140, hG, h, h2, h2', w0, w1, w2]
  · simp [go_sem, ir140, hG, h]
/-- The heap that a round of All sees. -/
def alH (acc : List Nat) : Heap :=
  if acc = [] then [.loop 0 none [(2, .ptr 1 0), (3, .ptr 2 0), (4, .ptr 3 0), (5, .ptr 4 0)] [9] A143_0 B143_0, .box [nilS], .box [.lit (.int .i64 0)], .box [.lit (.int .i64 0)], .box [nilS]]
  else [.loop 0 none [(2, .ptr 1 0), (3, .ptr 2 0), (4, .ptr 3 0), (5, .ptr 4 0)] [9] A143_0 B143_0, .box [nilS], .box [.lit (.int .i64 0)], .box [.lit (.int .i64 0)], .box [.own 5 acc.length 1 0 acc.length], .arr true false false 1 (acc.map encU)]
def alF (acc : List Nat) (p : Nat) (e : Int) : Heap :=
  if acc = [] then [.loop 2 (some .ret) [(2, .ptr 1 0), (3, .ptr 2 0), (4, .ptr 3 0), (5, .ptr 4 0)] [9] A143_0 B143_0, .box [nilS], .box [.lit (.int .i64 p)], .box [.lit (.int .i64 e)], .box [nilS]]
  else [.loop 2 (some .ret) [(2, .ptr 1 0), (3, .ptr 2 0), (4, .ptr 3 0), (5, .ptr 4 0)] [9] A143_0 B143_0, .box [nilS], .box [.lit (.int .i64 p)], .box [.lit (.int .i64 e)], .box [.own 5 acc.length 1 0 acc.length], .arr true false false 1 (acc.map encU)]
theorem alY (acc : List Nat) (ha : acc.length ≤ 1099511627) (n p : Nat) :
    call E (.yld 0) [.agg [.lit (.int .u64 n), .lit (.int .i64 p), .lit (.int .i64 0)]] (alH acc) = some (.lit (.bool true), alH (acc ++ [n])) := by
  have hb : ¬ (70368744177664 < (acc.length + 1) * 8) := by omega
  by_cases h : acc = []
  · subst h
    simp [go_sem, alH, run_codeL E A143_0.eq_1, run_codeL E B143_0.eq_1, purse_eq, List.range_succ, encU]
  · simp [go_sem, alH, h, run_codeL E A143_0.eq_1, run_codeL E B143_0.eq_1, purse_eq, List.range_succ, encU, hb]
theorem alYe (acc : List Nat) (n p : Nat) (e : Int) (he : e ≠ 0) :
    call E (.yld 0) [.agg [.lit (.int .u64 n), .lit (.int .i64 p), .lit (.int .i64 e)]] (alH acc) = some (.lit (.bool false), alF acc p e) := by
  by_cases h : acc = []
  · subst h
    simp [go_sem, alH, alF, he, run_codeL E A143_0.eq_1, run_codeL E B143_0.eq_1, purse_eq, List.range_succ]
  · simp [go_sem, alH, alF, he, h, run_codeL E A143_0.eq_1, run_codeL E B143_0.eq_1, purse_eq, List.range_succ]
end Go.AM.R1
open Go Go.AM
namespace Go.AM.R1

def numH (nl fu : Bool) (b acc : List Nat) : Heap :=
  if acc = [] then [.box [.imm nl fu true (b.map encB)], .loop 0 none [(2, .ptr 2 0), (3, .ptr 3 0), (4, .ptr 4 0), (5, .ptr 5 0)] [9] A143_0 B143_0, .box [nilS], .box [.lit (.int .i64 0)], .box [.lit (.int .i64 0)], .box [nilS]]
  else [.box [.imm nl fu true (b.map encB)], .loop 0 none [(2, .ptr 2 0), (3, .ptr 3 0), (4, .ptr 4 0), (5, .ptr 5 0)] [9] A143_0 B143_0, .box [nilS], .box [.lit (.int .i64 0)], .box [.lit (.int .i64 0)], .box [.own 6 acc.length 1 0 acc.length], .arr true false false 1 (acc.map encU)]
def numF (nl fu : Bool) (b acc : List Nat) (p : Nat) (e : Int) : Heap :=
  if acc = [] then [.box [.imm nl fu true (b.map encB)], .loop 2 (some .ret) [(2, .ptr 2 0), (3, .ptr 3 0), (4, .ptr 4 0), (5, .ptr 5 0)] [9] A143_0 B143_0, .box [nilS], .box [.lit (.int .i64 p)], .box [.lit (.int .i64 e)], .box [nilS]]
  else [.box [.imm nl fu true (b.map encB)], .loop 2 (some .ret) [(2, .ptr 2 0), (3, .ptr 3 0), (4, .ptr 4 0), (5, .ptr 5 0)] [9] A143_0 B143_0, .box [nilS], .box [.lit (.int .i64 p)], .box [.lit (.int .i64 e)], .box [.own 6 acc.length 1 0 acc.length], .arr true false false 1 (acc.map encU)]
/-- What the walk through the numbers ends with: all, or the error at a place. -/
def numGo : Nat → List Nat → Nat → List Nat → List Nat × Nat × Int
  | 0, _, _, acc => (acc, 0, 0)
  | d + 1, b, p, acc => if b.length ≤ p then (acc, 0, 0) else if (getN (b.drop p)).2.2 = 0 then numGo d b (p + (getN (b.drop p)).2.1) (acc ++ [(getN (b.drop p)).1]) else (acc, p, (getN (b.drop p)).2.2)
theorem num_all : ∀ (d : Nat) (b : List Nat) (p : Nat) (acc : List Nat), allGo d b p acc = if (numGo d b p acc).2.2 = 0 then ((numGo d b p acc).1, 0, 0) else ([], (numGo d b p acc).2.1, (numGo d b p acc).2.2)
  | 0, b, p, acc => by simp [allGo, numGo]
  | d + 1, b, p, acc => by
    rw [allGo, numGo]
    by_cases h : b.length ≤ p
    · simp [h]
    · rw [if_neg h, if_neg h]
      by_cases h2 : (getN (b.drop p)).2.2 = 0
      · rw [if_pos h2, if_pos h2, num_all d]
      · rw [if_neg h2, if_neg h2]; simp [h2]
theorem num_loop (b : List Nat) (hb : ∀ c ∈ b, c < 256) (hl : b.length ≤ 1099511627) (nl fu : Bool) :
    ∀ (d p : Nat) (acc : List Nat), b.length ≤ p + d → p ≤ b.length → acc.length ≤ p →
   finK 6 [] (run E 6 [.code L162_0, .inLoop [0, 1, 3] L162_0, .inBlock 0]
     [(0, .yld 1), (1, .ptr 0 0), (3, .lit (.int .i64 p))] (numH nl fu b acc))
    = some (.tup [], if (numGo d b p acc).2.2 = 0 then numH nl fu b (numGo d b p acc).1 else numF nl fu b (numGo d b p acc).1 (numGo d b p acc).2.1 (numGo d b p acc).2.2) := by
  intro d
  induction d with
  | zero =>
    intro p acc hd hp ha
    have hnp : ¬ p < b.length := by omega
    rw [numGo]
    by_cases h : acc = []
    · subst h
      simp [go_sem, run_codeL E L162_0.eq_1, hnp, numH, List.range_succ, purse_eq]
    · simp [go_sem, run_codeL E L162_0.eq_1, hnp, numH, h, List.range_succ, purse_eq]
  | succ d ih =>
    intro p acc hd hp ha
    by_cases hlt : p < b.length
    · have hG := vget_spec (b.drop p) (fun c hc => hb c (List.mem_of_mem_drop hc)) (by simp; omega) nl fu
      rw [List.map_drop] at hG
      have hr := rowsB b
      by_cases h : (getN (b.drop p)).2.2 = 0
      · have hk2 := get_k_le (fun c hc => hb c (List.mem_of_mem_drop hc)) h
        simp at hk2
        have hn : numGo (d + 1) b p acc = numGo d b (p + (getN (b.drop p)).2.1) (acc ++ [(getN (b.drop p)).1]) := by
          rw [numGo, if_neg (show ¬ b.length ≤ p by omega), if_pos h]
        rw [hn]
        rw [h] at hG
        clear hn
        generalize getN (b.drop p) = g at *
        have w : IntKind.wrap .i64 ((p : Int) + (g.2.1 : Int)) = ((p + g.2.1 : Nat) : Int) := by rw [wrap64 (by omega) (by omega)]; omega
        have ih2 := ih (p + g.2.1) (acc ++ [g.1]) (by omega) (by omega) (by simp; omega)
        have hY := alY acc (by omega) g.1 p
        by_cases ha0 : acc = []
        · subst ha0
          simp [alH, nilS] at hY
          simp [numH, nilS] at ih2 w
          simp [go_sem, run_codeL E L162_0.eq_1, hlt, hp, hr, take_allB, hG, w, numH, purse_eq, hY]
          rw [run_inLoop']
          simp [go_sem, purse_eq, List.range_succ]
          simpa [numH, nilS] using ih2
        · simp [alH, ha0, nilS] at hY
          simp [numH, nilS] at ih2 w
          simp [go_sem, run_codeL E L162_0.eq_1, hlt, hp, hr, take_allB, hG, w, numH, ha0, purse_eq, hY]
          rw [run_inLoop']
          simp [go_sem, purse_eq, List.range_succ]
          simpa [numH, nilS] using ih2
      · have hn : numGo (d + 1) b p acc = (acc, p, (getN (b.drop p)).2.2) := by
          rw [numGo, if_neg (show ¬ b.length ≤ p by omega), if_neg h]
        rw [hn]
        clear hn
        have hY := alYe acc (getN (b.drop p)).1 p (getN (b.drop p)).2.2 h
        generalize getN (b.drop p) = g at *
        by_cases ha0 : acc = []
        · subst ha0
          simp [alH, alF, nilS] at hY
          simp [go_sem, run_codeL E L162_0.eq_1, hlt, hp, hr, take_allB, hG, h, numH, numF, purse_eq, hY, List.range_succ]
        · simp [alH, alF, ha0, nilS] at hY
          simp [go_sem, run_codeL E L162_0.eq_1, hlt, hp, hr, take_allB, hG, h, numH, numF, ha0, purse_eq, hY, List.range_succ]
    · have hn : numGo (d + 1) b p acc = (acc, 0, 0) := by rw [numGo, if_pos (show b.length ≤ p by omega)]
      rw [hn]
      by_cases h : acc = []
      · subst h
        simp [go_sem, run_codeL E L162_0.eq_1, hlt, numH, List.range_succ, purse_eq]
      · simp [go_sem, run_codeL E L162_0.eq_1, hlt, numH, h, List.range_succ, purse_eq]

theorem num_spec (b : List Nat) (hb : ∀ c ∈ b, c < 256) (hl : b.length ≤ 1099511627) (nl fu : Bool) :
    call E (.func (.func 162) [] [.ptr 0 0]) [.yld 1] (numH nl fu b [])
     = some (.tup [], if (numGo b.length b 0 []).2.2 = 0 then numH nl fu b (numGo b.length b 0 []).1 else numF nl fu b (numGo b.length b 0 []).1 (numGo b.length b 0 []).2.1 (numGo b.length b 0 []).2.2) := by
  rw [call_func E E162]
  have h := num_loop b hb hl nl fu b.length 0 [] (by omega) (by omega) (by simp)
  generalize (if (numGo b.length b 0 []).2.2 = 0 then numH nl fu b (numGo b.length b 0 []).1 else numF nl fu b (numGo b.length b 0 []).1 (numGo b.length b 0 []).2.1 (numGo b.length b 0 []).2.2) = F at h ⊢
  simp [numH, nilS] at h
  simp [go_sem, ir162, numH, purse_eq]
  rw [run_inLoop']
  simp [go_sem, purse_eq, List.range_succ]
  exact h
theorem numbers_spec (nl fu : Bool) (rows : List (List AVal)) : call E (.func (.func 157) [] []) [.imm nl fu true rows] [] = some (.func (.func 162) [] [.ptr 0 0], [.box [.imm nl fu true rows]]) := by
  rw [call_func E E157]
  simp [go_sem, ir157, purse_eq]
theorem all_spec (b : List Nat) (hb : ∀ c ∈ b, c < 256) (hl : b.length ≤ 1099511627) (nl fu : Bool) :
    call E (.func (.func 143) [] []) [.imm nl fu true (b.map encB)] []
      = some (if (allN b).2.2 = 0 then (if (allN b).1 = [] then (.tup [nilS, .lit (.int .i64 0), .lit (.int .i64 0)], []) else (.tup [.own 0 (allN b).1.length 1 0 (allN b).1.length, .lit (.int .i64 0), .lit (.int .i64 0)], [.arr true false false 1 ((allN b).1.map encU)]))
        else (.tup [nilS, .lit (.int .i64 (allN b).2.1), .lit (.int .i64 (allN b).2.2)], [])) := by
  rw [call_func E E143]
  have hN := num_spec b hb hl nl fu
  have hS := numbers_spec nl fu (b.map encB)
  have ha := num_all b.length b 0 []
  rw [show allGo b.length b 0 [] = allN b from rfl] at ha
  generalize numGo b.length b 0 [] = g at hN ha
  rw [ha]
  by_cases h : g.2.2 = 0
  · rw [if_pos h] at hN
    rw [if_pos h]
    by_cases h2 : g.1 = []
    · simp [numH, h2, nilS] at hN
      simp [go_sem, ir143, hS, hN, h2, purse_eq]
    · simp [numH, h2, nilS] at hN
      simp [go_sem, ir143, hS, hN, h2, purse_eq]
  · rw [if_neg h] at hN
    rw [if_neg h]
    by_cases h2 : g.1 = []
    · simp [numH, numF, h2, nilS] at hN
      simp [go_sem, ir143, hS, hN, h, h2, purse_eq]
    · simp [numH, numF, h2, nilS] at hN
      simp [go_sem, ir143, hS, hN, h, h2, purse_eq]
end Go.AM.R1
open Go Go.AM
namespace Go.AM.R1

/-! ### The block of numbers -/
def nextB (most : Nat) : List Nat × Bool → Nat × (List Nat × Bool)
  | ([], _) => (0, [], false)
  | (x :: r, q) => if most < x then (0, x :: r, false) else (x, r, q)
theorem nextB_le (most : Nat) (s : List Nat × Bool) : (nextB most s).1 ≤ most := by
  obtain ⟨l, q⟩ := s
  cases l with
  | nil => simp [nextB]
  | cons x r => rw [nextB]; split <;> simp; omega
theorem next_spec (most : Nat) (L : List Nat) (q nl fu : Bool) :
    call E (.func (.func 158) [] [.ptr 0 0, .ptr 1 0]) [.lit (.int .u64 most)] [.box [.imm nl fu true (L.map encU)], .box [.lit (.bool q)]]
      = some (.lit (.int .u64 (nextB most (L, q)).1), [.box [.imm nl fu true ((nextB most (L, q)).2.1.map encU)], .box [.lit (.bool (nextB most (L, q)).2.2)]]) := by
  rw [call_func E E158]
  cases L with
  | nil => simp [go_sem, ir158, nextB, purse_eq, List.range_succ]
  | cons x r =>
    have hr := rowsU r
    have htk : List.take r.length (List.map encU r) = List.map encU r := List.take_of_length_le (by simp)
    have hz : ¬ ((r.length : Int) + 1 = 0) := by omega
    by_cases h : most < x
    · have h' : (most : Int) < (x : Nat) := by omega
      simp [go_sem, ir158, nextB, purse_eq, List.range_succ, h, h', hz, encU]
    · have h' : ¬ (most : Int) < (x : Nat) := by omega
      simp [go_sem, ir158, nextB, purse_eq, List.range_succ, h, h', hz, encU, hr, htk]
def inLp : Nat → List Nat × Bool → Int → List Run → (List Nat × Bool) × List Run
  | 0, s, _, out => (s, out)
  | n + 1, s, last, out =>
    inLp n (nextB 4294967295 (nextB 1073741824 s).2).2 (ixor .u32 ((nextB 4294967295 (nextB 1073741824 s).2).1 : Nat) last)
      (out ++ [⟨((nextB 1073741824 s).1 : Nat), if ixor .u32 ((nextB 4294967295 (nextB 1073741824 s).2).1 : Nat) last = 4294967295 then 1 else 0, ixor .u32 ((nextB 4294967295 (nextB 1073741824 s).2).1 : Nat) last⟩])
/-- The heap of the numbers' walk. -/
def insH (nl fu : Bool) (s : List Nat × Bool) (first : Int) (out : List Run) : Heap :=
  [.box [.imm nl fu true (s.1.map encU)], .box [.lit (.int .i64 0), nilS], .box [.lit (.bool s.2)], .box [.lit (.int .i64 first), resV 6 (out.map encRun)]] ++ resH [.dead, .dead] (out.map encRun)
theorem inside_loop (nl fu : Bool) (first : Int) (n : Nat) (hn : n ≤ 4096) (k : List Item) (R : (List Nat × Bool) × List Run → Option (AVal × Heap))
    (hk : ∀ s out τ, out.length ≤ 4096 → (∀ r ∈ out, r.Ok) → lk 1 τ = .ptr 0 0 → lk 2 τ = .ptr 1 0 → lk 4 τ = .ptr 2 0 → lk 6 τ = .ptr 3 0 → finK 0 [.cell 2 true 2, .tmp 3] (run E 0 k τ (insH nl fu s first out)) = R (s, out)) :
    ∀ (d i : Nat) (s : List Nat × Bool) (last : Int) (out : List Run), i + d = n → out.length = i → (∀ r ∈ out, r.Ok) →
   finK 0 [.cell 2 true 2, .tmp 3] (run E 0 (.code L144_0 :: .inLoop [1, 2, 4, 5, 6, 8, 18, 19] L144_0 :: .inBlock 0 :: k)
     [(1, .ptr 0 0), (2, .ptr 1 0), (4, .ptr 2 0), (5, .func (.func 158) [] [.ptr 0 0, .ptr 2 0]), (6, .ptr 3 0), (8, .lit (.int .u32 last)), (18, .lit (.int .i64 n)), (19, .lit (.int .i64 i))] (insH nl fu s first out))
    = R (inLp d s last out) := by
  intro d
  induction d with
  | zero =>
    intro i s last out hi ho hok
    have : i = n := by omega
    subst this
    have hk' := hk s out
    rcases snoc_cases out with rfl | ⟨o, x, rfl⟩
    · simp [insH, resV, resH] at hk'
      simp [go_sem, run_codeL E L144_0.eq_1, insH, resV, resH, inLp]
      exact hk' _ rfl rfl rfl rfl
    · simp [insH, resV, resH] at hk' ho
      simp [go_sem, run_codeL E L144_0.eq_1, insH, resV, resH, inLp]
      refine hk' _ (by omega) ?_ rfl rfl rfl rfl
      intro r hr
      exact hok r (by simpa using hr)
  | succ d ih =>
    intro i s last out hi ho hok
    have hlt : (i : Int) < (n : Int) := by omega
    have w2 := wrapIdx (i := i) (by omega)
    obtain ⟨L, q⟩ := s
    have hA := next_spec 1073741824 L q nl fu
    have hAle := nextB_le 1073741824 (L, q)
    rw [inLp]
    generalize nextB 1073741824 (L, q) = a at hA hAle ⊢
    obtain ⟨a1, L1, q1⟩ := a
    have hB := next_spec 4294967295 L1 q1 nl fu
    have hBle := nextB_le 4294967295 (L1, q1)
    simp only [] at hA hAle ⊢
    generalize nextB 4294967295 (L1, q1) = c at hB hBle ⊢
    obtain ⟨c1, L2, q2⟩ := c
    simp only [] at hB hBle ⊢
    have e1 : IntKind.wrap .i64 (a1 : Int) = (a1 : Int) := wrap64 (by omega) (by omega)
    have e2 : IntKind.wrap .u32 (c1 : Int) = (c1 : Int) := by simp [IntKind.wrap, IntKind.bits, IntKind.signed]; omega
    generalize hdr : ixor .u32 (c1 : Int) last = dr
    have ih2 := ih (i + 1) (L2, q2) dr (out ++ [⟨(a1 : Nat), if dr = 4294967295 then 1 else 0, dr⟩]) (by omega) (by simp [ho]) (by
      intro r hr
      rcases List.mem_append.1 hr with hr | hr
      · exact hok r hr
      · simp at hr; subst hr; exact ⟨by show -9223372036854775808 ≤ (a1 : Int); omega, by show (a1 : Int) ≤ 9223372036854775807; omega⟩)
    have hb : ¬ (70368744177664 < (out.length + 1) * 24) := by omega
    by_cases hd : dr = 4294967295
    · subst hd
      rcases snoc_cases out with rfl | ⟨o, x, rfl⟩
      · simp [insH, resV, resH, encRun, nilS] at ih2 hA hB
        simp [go_sem, run_codeL E L144_0.eq_1, insH, resV, resH, hlt, w2, hA, hB, e1, e2, hdr, purse_eq]
        rw [run_inLoop']
        simp [go_sem, purse_eq]
        exact ih2
      · simp at hb
        have hb' : ¬ (70368744177664 < (o.length + 1 + 1) * 24) := by omega
        simp [insH, resV, resH, encRun, nilS] at ih2 hA hB
        simp [go_sem, run_codeL E L144_0.eq_1, insH, resV, resH, hlt, w2, hA, hB, e1, e2, hb', hdr, purse_eq]
        rw [run_inLoop']
        simp [go_sem, purse_eq]
        simpa [encRun] using ih2
    · rcases snoc_cases out with rfl | ⟨o, x, rfl⟩
      · simp [insH, resV, resH, encRun, nilS, hd] at ih2 hA hB
        simp [go_sem, run_codeL E L144_0.eq_1, insH, resV, resH, hlt, w2, hA, hB, e1, e2, hdr, purse_eq, hd]
        rw [run_inLoop']
        simp [go_sem, purse_eq]
        exact ih2
      · simp at hb
        have hb' : ¬ (70368744177664 < (o.length + 1 + 1) * 24) := by omega
        simp [insH, resV, resH, encRun, nilS, hd] at ih2 hA hB
        simp [go_sem, run_codeL E L144_0.eq_1, insH, resV, resH, hlt, w2, hA, hB, e1, e2, hb', hdr, purse_eq, hd]
        rw [run_inLoop']
        simp [go_sem, purse_eq]
        simpa [encRun] using ih2

/-- What the numbers' walk makes of numbers. -/
def insA (l : List Nat) : Nat × (List Nat × Bool) := nextB 1073741824 (l, true)
def insC (l : List Nat) : Nat × (List Nat × Bool) := nextB 4096 (insA l).2
def insR (l : List Nat) : (List Nat × Bool) × List Run := inLp (insC l).1 (insC l).2 4294967295 []
def insOk (l : List Nat) : Bool := (insR l).1.2 && decide ((insR l).1.1 = []) && decide (chkB (insA l).1 (insR l).2 = 0)
def resHl (lk : Bool) (rows : List (List AVal)) : Heap := if rows = [] then [] else [.arr true lk false 3 rows]
def insL (l : List Nat) : Bool := (insR l).1.2 && decide ((insR l).1.1 = [])
theorem inside_spec (l : List Nat) (nl fu : Bool) :
    call E (.func (.func 144) [] []) [.imm nl fu true (l.map encU)] []
      = some (.tup [.agg [.lit (.int .i64 (insA l).1), resV 0 ((insR l).2.map encRun)], .lit (.bool (insOk l))], resHl (insL l) ((insR l).2.map encRun)) := by
  rw [call_func E E144]
  have hA := next_spec 1073741824 l true nl fu
  have hAle := nextB_le 1073741824 (l, true)
  rw [show nextB 1073741824 (l, true) = insA l from rfl] at hA hAle
  have hC := next_spec 4096 (insA l).2.1 (insA l).2.2 nl fu
  have hCle := nextB_le 4096 (insA l).2
  rw [show nextB 4096 (insA l).2 = insC l from rfl] at hCle
  rw [show ((insA l).2.1, (insA l).2.2) = (insA l).2 from rfl, show nextB 4096 (insA l).2 = insC l from rfl] at hC
  have hlp := inside_loop nl fu (insA l).1 (insC l).1 hCle [.code (.seq (.reg [⟨none, some 42, .load true 2 (.t 6)⟩, ⟨none, some 43, .load false 1 (.t 4)⟩, ⟨none, some 44, .copy (.t 43)⟩, ⟨some (44, true), some 45, .load false 1 (.t 1)⟩, ⟨some (44, true), some 46, .len (.t 45)⟩, ⟨some (44, true), some 47, .bin .eql (.t 46) (.c (.lit (.int .i64 0)))⟩, ⟨none, some 48, .pick (.t 44) (.t 47) (.c (.lit (.bool false)))⟩, ⟨none, some 49, .copy (.t 48)⟩, ⟨some (49, true), some 50, .load true 2 (.t 6)⟩, ⟨some (49, true), some 51, .call 104 [(.t 50)]⟩, ⟨some (49, true), some 52, .bin .eql (.t 51) (.c (.lit (.int .i64 0)))⟩, ⟨none, some 53, .pick (.t 49) (.t 52) (.c (.lit (.bool false)))⟩, ⟨none, none, .store 2 (.t 2) (.t 42)⟩, ⟨none, some 3, .copy (.t 53)⟩] [(0, 9)] []) .ret)]
    (fun r => some (.tup [.agg [.lit (.int .i64 (insA l).1), resV 0 (r.2.map encRun)], .lit (.bool (r.1.2 && decide (r.1.1 = []) && decide (chkB (insA l).1 r.2 = 0)))], resHl (r.1.2 && decide (r.1.1 = [])) (r.2.map encRun))) ?_ (insC l).1 0 (insC l).2 4294967295 [] (by omega) rfl (by simp)
  · rw [show inLp (insC l).1 (insC l).2 4294967295 [] = insR l from rfl, show ((insR l).1.2 && decide ((insR l).1.1 = []) && decide (chkB (insA l).1 (insR l).2 = 0)) = insOk l from rfl, show ((insR l).1.2 && decide ((insR l).1.1 = [])) = insL l from rfl] at hlp
    generalize insL l = lq at hlp ⊢
    generalize insR l = r at hlp ⊢
    generalize insOk l = q at hlp ⊢
    have e1 : IntKind.wrap .i64 ((insA l).1 : Int) = ((insA l).1 : Int) := wrap64 (by omega) (by omega)
    have e2 : IntKind.wrap .i64 ((insC l).1 : Int) = ((insC l).1 : Int) := wrap64 (by omega) (by omega)
    generalize insC l = c at hlp hC e2
    generalize insA l = a at hlp hA hC e1 ⊢
    simp [insH, nilS] at hlp hA hC
    rw [show resV 6 [] = AVal.imm true true true [] from rfl] at hlp
    simp [resH] at hlp
    simp [go_sem, ir144, hA, hC, e1, e2, purse_eq, nilS]
    rw [run_inLoop']
    simp [go_sem, purse_eq, resH]
    exact hlp
  · intro s out τ ho hok t1 t2 t4 t6
    obtain ⟨L, q⟩ := s
    have hCh := fun nl fu => bcheck_spec (insA l).1 ⟨by omega, by omega⟩ out (by omega) hok nl fu
    cases q with
    | false =>
      by_cases h0 : out = []
      · subst h0
        simp [go_sem, t1, t2, t4, t6, insH, resV, resH, resHl, purse_eq]
      · simp [go_sem, t1, t2, t4, t6, insH, resV, resH, resHl, purse_eq, h0]
    | true =>
      by_cases hL : L = []
      · subst hL
        by_cases h0 : out = []
        · subst h0
          have hC1 := hCh true true
          simp [encBlk] at hC1
          simp [go_sem, t1, t2, t4, t6, insH, resV, resH, resHl, purse_eq, hC1]
        · have hC1 := hCh false false
          simp [encBlk] at hC1
          simp [go_sem, t1, t2, t4, t6, insH, resV, resH, resHl, purse_eq, h0, hC1]
      · by_cases h0 : out = []
        · subst h0
          simp [go_sem, t1, t2, t4, t6, insH, resV, resH, resHl, purse_eq, hL]
        · simp [go_sem, t1, t2, t4, t6, insH, resV, resH, resHl, purse_eq, h0, hL]
end Go.AM.R1
open Go Go.AM
namespace Go.AM.R1

def ofLp : List Nat → Int → List Run → Bool × List Run
  | n :: d :: r, last, out => if 1073741824 < n ∨ 4294967295 < d then (false, out) else ofLp r (ixor .u32 last (d : Nat)) (out ++ [⟨(n : Nat), if ixor .u32 last (d : Nat) = 4294967295 then 1 else 0, ixor .u32 last (d : Nat)⟩])
  | _, _, out => (true, out)
def ofH (first : Int) (out : List Run) : Heap := [.box [.lit (.int .i64 0), nilS], .box [.lit (.int .i64 first), resV 4 (out.map encRun)]] ++ resH [.dead, .dead] (out.map encRun)
def ofR : List Nat → Int × List Run
  | a :: c :: r => if (a :: c :: r).length % 2 ≠ 0 ∨ 1073741824 < a then (-1, []) else if (ofLp r 4294967295 []).1 = true then (((a : Nat) : Int), (ofLp r 4294967295 []).2) else (-1, (ofLp r 4294967295 []).2)
  | _ => (-1, [])
end Go.AM.R1
open Go Go.AM
namespace Go.AM.R1

/-! ### Which numbers are a block's -/
theorem ixor_nat {x y : Int} (hx : 0 ≤ x ∧ x ≤ 4294967295) (hy : 0 ≤ y ∧ y ≤ 4294967295) : ixor .u32 x y = ((BitVec.ofNat 32 x.toNat ^^^ BitVec.ofNat 32 y.toNat).toNat : Int) := by
  rw [← ixor_bv]
  congr 1
  · rw [BitVec.toNat_ofNat, Nat.mod_eq_of_lt (by omega)]; omega
  · rw [BitVec.toNat_ofNat, Nat.mod_eq_of_lt (by omega)]; omega
theorem ixor_comm {x y : Int} (hx : 0 ≤ x ∧ x ≤ 4294967295) (hy : 0 ≤ y ∧ y ≤ 4294967295) : ixor .u32 x y = ixor .u32 y x := by
  rw [ixor_nat hx hy, ixor_nat hy hx, BitVec.xor_comm]
theorem ixor_cancel {x y : Int} (hx : 0 ≤ x ∧ x ≤ 4294967295) (hy : 0 ≤ y ∧ y ≤ 4294967295) : ixor .u32 (ixor .u32 x y) y = x := by
  rw [ixor_nat (ixor_range x y) hy, ixor_nat hx hy]
  have e : (((BitVec.ofNat 32 x.toNat ^^^ BitVec.ofNat 32 y.toNat).toNat : Int)).toNat = (BitVec.ofNat 32 x.toNat ^^^ BitVec.ofNat 32 y.toNat).toNat := by omega
  rw [e, BitVec.ofNat_toNat, BitVec.setWidth_eq, BitVec.xor_assoc, BitVec.xor_self, BitVec.xor_zero, BitVec.toNat_ofNat, Nat.mod_eq_of_lt (by omega)]
  omega
def busOf (d : Int) : Int := if d = 4294967295 then 1 else 0
theorem inLp_true : ∀ (n : Nat) (s : List Nat × Bool) (last : Int) (out : List Run), (0 ≤ last ∧ last ≤ 4294967295) → (inLp n s last out).1.2 = true →
    s.2 = true ∧ ∃ R, (inLp n s last out).2 = out ++ R ∧ R.length = n ∧ s.1 = runN last R ++ (inLp n s last out).1.1 ∧ ∀ r ∈ R, 0 ≤ r.Drive ∧ r.Drive ≤ 4294967295
  | 0, s, last, out, _, h => ⟨h, [], by simp [inLp], rfl, by simp [inLp, runN], by simp⟩
  | n + 1, s, last, out, hl, h => by
    rw [inLp] at h ⊢
    obtain ⟨L, q⟩ := s
    obtain ⟨h1, R, e1, e2, e3, e4⟩ := inLp_true n _ _ _ (ixor_range _ _) h
    cases L with
    | nil => simp [nextB] at h1
    | cons x L =>
      by_cases c1 : 1073741824 < x
      · exfalso
        simp only [nextB, if_pos c1] at h1
        split at h1 <;> simp at h1
      · simp only [nextB, if_neg c1] at h1 e1 e2 e3 ⊢
        cases L with
        | nil => simp [nextB] at h1
        | cons y L =>
          by_cases c2 : 4294967295 < y
          · simp [nextB, c2] at h1
          · simp only [nextB, if_neg c2] at h1 e1 e2 e3 ⊢
            refine ⟨h1, ⟨(x : Nat), if ixor .u32 (y : Nat) last = 4294967295 then 1 else 0, ixor .u32 (y : Nat) last⟩ :: R, by rw [e1]; simp, by simp [e2], ?_, ?_⟩
            · simp only [runN, List.cons_append]
              rw [ixor_cancel ⟨by omega, by omega⟩ hl]
              simp only [Int.toNat_natCast]
              rw [← e3]
            · intro r hr
              rcases List.mem_cons.1 hr with rfl | hr
              · exact ixor_range _ _
              · exact e4 r hr
theorem ins_good {l : List Nat} (h : insOk l = true) : chkB (insA l).1 (insR l).2 = 0 ∧ numsN (insA l).1 (insR l).2 = l ∧ (∀ r ∈ (insR l).2, 0 ≤ r.Drive ∧ r.Drive ≤ 4294967295) := by
  simp only [insOk, Bool.and_eq_true, decide_eq_true_eq] at h
  obtain ⟨⟨h1, h2⟩, h3⟩ := h
  obtain ⟨g1, R, e1, e2, e3, e4⟩ := inLp_true (insC l).1 (insC l).2 4294967295 [] (by omega) h1
  rw [show inLp (insC l).1 (insC l).2 4294967295 [] = insR l from rfl] at e1 e3
  rw [List.nil_append] at e1
  rw [h2, List.append_nil] at e3
  refine ⟨h3, ?_, fun r hr => e4 r (by rw [e1] at hr; exact hr)⟩
  rw [e1, numsN, e2]
  unfold insC insA at e3 g1 ⊢
  cases l with
  | nil => simp [nextB] at g1
  | cons x l =>
    by_cases c1 : 1073741824 < x
    · exfalso
      simp only [nextB, if_pos c1] at g1
      split at g1 <;> simp at g1
    · simp only [nextB, if_neg c1] at e3 g1 ⊢
      cases l with
      | nil => simp [nextB] at g1
      | cons y l =>
        by_cases c2 : 4096 < y
        · simp [nextB, c2] at g1
        · simp only [nextB, if_neg c2] at e3 g1 ⊢
          rw [← e3]; rfl
theorem inLp_nums : ∀ (R : List Run) (last : Int) (out : List Run), (0 ≤ last ∧ last ≤ 4294967295) → (∀ r ∈ R, right r = true ∧ 0 ≤ r.Drive ∧ r.Drive ≤ 4294967295) → inLp R.length (runN last R, true) last out = (([], true), out ++ R)
  | [], last, out, _, _ => by simp [inLp, runN]
  | r :: R, last, out, hl, h => by
    obtain ⟨hr, hd⟩ := h r (by simp)
    have hN := right_N hr
    have hx := ixor_range r.Drive last
    rw [List.length_cons, inLp, runN]
    have c1 : ¬ 1073741824 < r.N.toNat := by omega
    have c2 : ¬ 4294967295 < (ixor .u32 r.Drive last).toNat := by omega
    have e4 : (((ixor .u32 r.Drive last).toNat : Nat) : Int) = ixor .u32 r.Drive last := by omega
    have e5 : ((r.N.toNat : Nat) : Int) = r.N := by omega
    simp only [nextB, if_neg c1, if_neg c2, e4, e5, ixor_cancel hd hl]
    have hb : (if r.Drive = 4294967295 then (1 : Int) else 0) = r.Bus := by
      simp only [right, Bool.and_eq_true, decide_eq_true_eq] at hr
      exact hr.2.symm
    rw [hb, inLp_nums R r.Drive _ hd fun x hx => h x (by simp [hx])]
    simp
theorem chk_all {l : List Run} (h : chk l = 0) : ∀ r ∈ l, right r = true := fun r hr => by
  unfold chk at h
  cases ha : l.all right with
  | false => rw [ha] at h; simp at h
  | true => exact List.all_eq_true.1 ha r hr
theorem ins_nums {f : Int} {R : List Run} (hc : chkB f R = 0) (hd : ∀ r ∈ R, 0 ≤ r.Drive ∧ r.Drive ≤ 4294967295) :
    ((insA (numsN f R)).1 : Int) = f ∧ (insR (numsN f R)).2 = R ∧ insOk (numsN f R) = true ∧ insL (numsN f R) = true := by
  obtain ⟨h1, h2, h3, h4, h5, h6⟩ := chkB_ok hc
  have hall := chk_all h4
  have c1 : ¬ 1073741824 < f.toNat := by omega
  have c2 : ¬ 4096 < R.length := by omega
  have eA : insA (numsN f R) = (f.toNat, (R.length :: runN 4294967295 R, true)) := by unfold insA numsN; rw [nextB, if_neg c1]
  have eC : insC (numsN f R) = (R.length, (runN 4294967295 R, true)) := by unfold insC; rw [eA, nextB, if_neg c2]
  have eR : insR (numsN f R) = (([], true), R) := by
    unfold insR; rw [eC]
    have := inLp_nums R 4294967295 [] (by omega) fun r hr => ⟨hall r hr, hd r hr⟩
    simpa using this
  have ef : ((f.toNat : Nat) : Int) = f := by omega
  refine ⟨by rw [eA]; exact ef, by rw [eR], ?_, ?_⟩
  · unfold insOk
    rw [eR, eA]
    simp [ef, hc]
  · unfold insL
    rw [eR]; rfl
theorem ofLp_nums : ∀ (R : List Run) (last : Int) (out : List Run), (0 ≤ last ∧ last ≤ 4294967295) → (∀ r ∈ R, right r = true ∧ 0 ≤ r.Drive ∧ r.Drive ≤ 4294967295) → ofLp (runN last R) last out = (true, out ++ R)
  | [], last, out, _, _ => by simp [ofLp, runN]
  | r :: R, last, out, hl, h => by
    obtain ⟨hr, hd⟩ := h r (by simp)
    have hN := right_N hr
    have hx := ixor_range r.Drive last
    rw [runN, ofLp, if_neg (by omega)]
    have e4 : (((ixor .u32 r.Drive last).toNat : Nat) : Int) = ixor .u32 r.Drive last := by omega
    have e5 : ((r.N.toNat : Nat) : Int) = r.N := by omega
    rw [e4, e5, ixor_comm hl hx, ixor_cancel hd hl]
    have hb : (if r.Drive = 4294967295 then (1 : Int) else 0) = r.Bus := by
      simp only [right, Bool.and_eq_true, decide_eq_true_eq] at hr
      exact hr.2.symm
    rw [hb, ofLp_nums R r.Drive _ hd fun x hx => h x (by simp [hx])]
    simp
theorem of_nums {f : Int} {R : List Run} (hc : chkB f R = 0) (hd : ∀ r ∈ R, 0 ≤ r.Drive ∧ r.Drive ≤ 4294967295) : ofR (numsN f R) = (f, R) := by
  obtain ⟨h1, h2, h3, h4, h5, h6⟩ := chkB_ok hc
  have hall := chk_all h4
  have hl := runN_length R 4294967295
  unfold numsN
  rw [ofR, if_neg (by simp [hl]; omega), ofLp_nums R 4294967295 [] (by omega) fun r hr => ⟨hall r hr, hd r hr⟩, if_pos rfl]
  simp; omega
theorem ofLp_drive : ∀ (d : Nat) (l : List Nat) (last : Int) (out : List Run), l.length ≤ d → (∀ r ∈ out, (0 ≤ r.Drive ∧ r.Drive ≤ 4294967295) ∧ 0 ≤ r.N ∧ r.N ≤ 1073741824) → ∀ r ∈ (ofLp l last out).2, (0 ≤ r.Drive ∧ r.Drive ≤ 4294967295) ∧ 0 ≤ r.N ∧ r.N ≤ 1073741824
  | _, [], _, _, _, h => h
  | _, [_], _, _, _, h => h
  | 0, _ :: _ :: _, _, _, hl, _ => by simp at hl
  | d + 1, n :: y :: l, last, out, hl, h => by
    rw [ofLp]
    split
    · exact h
    · refine ofLp_drive d l _ _ (by simp at hl; omega) fun r hr => ?_
      rcases List.mem_append.1 hr with hr | hr
      · exact h r hr
      · simp at hr; subst hr; exact ⟨ixor_range _ _, by simp, by simp; omega⟩
theorem of_drive (l : List Nat) : ∀ r ∈ (ofR l).2, (0 ≤ r.Drive ∧ r.Drive ≤ 4294967295) ∧ 0 ≤ r.N ∧ r.N ≤ 1073741824 := by
  match l with
  | [] => simp [ofR]
  | [_] => simp [ofR]
  | a :: c :: r =>
    rw [ofR]
    split
    · simp
    · split
      · exact ofLp_drive r.length r _ _ (by omega) (by simp)
      · exact ofLp_drive r.length r _ _ (by omega) (by simp)
theorem ofLp_length : ∀ (d : Nat) (l : List Nat) (last : Int) (out : List Run), l.length ≤ d → (ofLp l last out).2.length ≤ out.length + l.length
  | _, [], _, _, _ => by simp [ofLp]
  | _, [_], _, _, _ => by simp [ofLp]
  | 0, _ :: _ :: _, _, _, hl => by simp at hl
  | d + 1, n :: y :: l, last, out, hl => by
    rw [ofLp]
    split
    · simp
    · have := ofLp_length d l (ixor .u32 last (y : Nat)) (out ++ [⟨(n : Nat), if ixor .u32 last (y : Nat) = 4294967295 then 1 else 0, ixor .u32 last (y : Nat)⟩]) (by simp at hl; omega)
      simp at this ⊢; omega
theorem of_length (l : List Nat) : (ofR l).2.length ≤ l.length := by
  match l with
  | [] => simp [ofR]
  | [_] => simp [ofR]
  | a :: c :: r =>
    rw [ofR]
    have := ofLp_length r.length r 4294967295 [] (by omega)
    split
    · simp
    · split <;> simp at this ⊢ <;> omega
/-- The two ways to a block agree. -/
theorem of_ins (l : List Nat) : (chkB (ofR l).1 (ofR l).2 = 0 ∧ numsN (ofR l).1 (ofR l).2 = l) ↔ insOk l = true := by
  constructor
  · rintro ⟨h1, h2⟩
    have := ins_nums h1 fun r hr => (of_drive l r hr).1
    rw [h2] at this
    exact this.2.2.1
  · intro h
    obtain ⟨h1, h2, h3⟩ := ins_good h
    have := of_nums h1 h3
    rw [h2] at this
    rw [this]
    exact ⟨h1, h2⟩
theorem of_ins_eq {l : List Nat} (h : insOk l = true) : ofR l = (((insA l).1 : Int), (insR l).2) := by
  obtain ⟨h1, h2, h3⟩ := ins_good h
  have := of_nums h1 h3
  rwa [h2] at this
theorem ins_locked {l : List Nat} (h : insOk l = true) : insL l = true := by
  obtain ⟨h1, h2, h3⟩ := ins_good h
  have := (ins_nums h1 h3).2.2.2
  rwa [h2] at this
end Go.AM.R1
open Go Go.AM
namespace Go.AM.R1

/-! ### Get -/
theorem size_ok {b : List Nat} (hb : ∀ c ∈ b, c < 256) (h : (sizeB b).2 = 0) :
    (getN b).2.2 = 0 ∧ (getN b).1 ≤ 65536 ∧ sizeB b = ((((getN b).2.1 + (getN b).1 + 4 : Nat) : Int), 0) ∧ 1 ≤ (getN b).2.1 ∧ (getN b).2.1 ≤ 10 := by
  unfold sizeB at h ⊢
  split at h
  · rename_i h1; simp at h; exact absurd h h1
  · rename_i h1
    have h1' : (getN b).2.2 = 0 := by simpa using h1
    split at h
    · simp at h
    · rename_i h2
      have hk := get_k_le hb h1'
      exact ⟨h1', by omega, by rw [if_neg h1, if_neg h2], hk.1, hk.2.1⟩
/-- What the whole of a block, without its sum, begins with. -/
theorem get_whole {b : List Nat} (hb : ∀ c ∈ b, c < 256) (h : (getN b).2.2 = 0) (m : Nat) (hm : (getN b).2.1 ≤ m) : getN (b.take m) = ((getN b).1, (getN b).2.1, 0) := by
  obtain ⟨e1, e2, e3⟩ := get_ok hb h
  have : b.take m = putN (getN b).1 ++ (b.drop (getN b).2.1).take (m - (getN b).2.1) := by
    conv => lhs; rw [e1]
    rw [List.take_append, List.take_of_length_le (by omega), ← e2]
  rw [this, get_put e3, ← e2]
def getB (b : List Nat) : (Int × List Run) × Int × Int :=
  if (sizeB b).2 ≠ 0 then ((0, []), 0, (sizeB b).2)
  else if (b.length : Int) < (sizeB b).1 then ((0, []), 0, 13)
  else if openE (b.take (sizeB b).1.toNat) ≠ 0 then ((0, []), 0, openE (b.take (sizeB b).1.toNat))
  else if (allN ((b.take ((sizeB b).1.toNat - 4)).drop (getN b).2.1)).2.2 = 0 ∧ insOk (allN ((b.take ((sizeB b).1.toNat - 4)).drop (getN b).2.1)).1 = true then
    (((insA (allN ((b.take ((sizeB b).1.toNat - 4)).drop (getN b).2.1)).1).1, (insR (allN ((b.take ((sizeB b).1.toNat - 4)).drop (getN b).2.1)).1).2), (sizeB b).1, 0)
  else ((0, []), 0, 11)
theorem bget_spec (b : List Nat) (hb : ∀ c ∈ b, c < 256) (hl : b.length ≤ 1099511627) (nl fu : Bool) (hnl : nl = false ∨ b = []) :
    call E (.func (.func 112) [] []) [.imm nl fu true (b.map encB)] []
      = some (.tup [.agg [.lit (.int .i64 (getB b).1.1), resV 0 ((getB b).1.2.map encRun)], .lit (.int .i64 (getB b).2.1), .lit (.int .i64 (getB b).2.2)], resHl true ((getB b).1.2.map encRun)) := by
  rw [call_func E E112]
  have hS := size_spec b hb (by omega) nl fu
  by_cases h1 : (sizeB b).2 = 0
  · obtain ⟨g1, g2, g3, g4, g5⟩ := size_ok hb h1
    by_cases h2 : (b.length : Int) < (sizeB b).1
    · have e : getB b = ((0, []), 0, 13) := by unfold getB; rw [if_neg (by simp [h1]), if_pos h2]
      rw [h1] at hS
      simp [go_sem, ir112, hS, e, h2, resV, resHl, purse_eq]
    · have hnl' : nl = false := by
        rcases hnl with h | h
        · exact h
        · subst h; exfalso; simp [getN, getGo] at g1
      subst hnl'
      generalize hn : (getN b).2.1 + (getN b).1 + 4 = n at *
      rw [g3] at hS h2
      simp only [] at hS h2
      have hnle : n ≤ b.length := by omega
      have hr := rowsB b
      have hbt : ∀ c ∈ b.take n, c < 256 := fun c hc => hb c (List.mem_of_mem_take hc)
      have hO := open_spec (b.take n) hbt (by simp; omega) (fu && decide (n = b.length))
      have htl : (b.take n).length = n := by simp; omega
      have htt : (b.take n).take (n - 4) = b.take (n - 4) := by rw [List.take_take, Nat.min_eq_left (by omega)]
      rw [htl, htt] at hO
      by_cases h3 : openE (b.take n) = 0
      · rw [if_pos h3] at hO
        have hw := get_whole hb g1 (n - 4) (by omega)
        have hwb : ∀ c ∈ b.take (n - 4), c < 256 := fun c hc => hb c (List.mem_of_mem_take hc)
        have hG := vget_spec (b.take (n - 4)) hwb (by simp; omega) false false
        have hA := all_spec ((b.take (n - 4)).drop (getN b).2.1) (fun c hc => hwb c (List.mem_of_mem_drop hc)) (by simp; omega) false false
        have hI := fun nl fu => inside_spec (allN ((b.take (n - 4)).drop (getN b).2.1)).1 nl fu
        have e : getB b = if (allN ((b.take (n - 4)).drop (getN b).2.1)).2.2 = 0 ∧ insOk (allN ((b.take (n - 4)).drop (getN b).2.1)).1 = true then
            ((((insA (allN ((b.take (n - 4)).drop (getN b).2.1)).1).1 : Int), (insR (allN ((b.take (n - 4)).drop (getN b).2.1)).1).2), (n : Int), 0) else ((0, []), 0, 11) := by
          unfold getB
          rw [g3, if_neg (by simp), if_neg (by simpa using h2)]
          simp only [Int.toNat_natCast]
          rw [if_neg (by simp [h3])]
        have hwl : (b.take (n - 4)).length = n - 4 := by simp; omega
        have hwe : (b.take (n - 4)).isEmpty = false := by
          cases hq : b.take (n - 4) with
          | nil => rw [hq] at hwl; simp at hwl; omega
          | cons x xs => rfl
        rw [hw] at hG
        rw [hwe] at hO
        have hcut : cutE ((b.take (n - 4)).map encB) (getN b).2.1 (n - 4 - (getN b).2.1) = ((b.take (n - 4)).drop (getN b).2.1).map encB := by
          unfold cutE
          rw [List.take_of_length_le (by simp; omega), List.map_drop]
        have hil := fun h => ins_locked (l := (allN ((b.take (n - 4)).drop (getN b).2.1)).1) h
        generalize allN ((b.take (n - 4)).drop (getN b).2.1) = a at hA hI e hil
        have hkn : (getN b).2.1 ≤ n - 4 := by omega
        have hkn2 : (getN b).2.1 + (n - 4 - (getN b).2.1) = n - 4 := by omega
        have hrw := rowsB (b.take (n - 4))
        clear htt hw hwb hwe
        generalize b.take (n - 4) = w at *
        rw [List.map_take] at hO
        have hle : w.length + 4 = n := by omega
        by_cases ha : a.2.2 = 0
        · rw [if_pos ha] at hA
          by_cases ha1 : a.1 = []
          · rw [if_pos ha1] at hA
            have hI1 := hI true true
            rw [ha1] at hI1
            have hok : insOk a.1 = false := by rw [ha1]; rfl
            rw [ha1] at hok
            have e2 : getB b = ((0, []), 0, 11) := by rw [e, if_neg (by rw [ha1, hok]; simp)]
            rw [hok] at hI1
            rw [show (insA []).1 = 0 from rfl, show (insR []).2 = [] from rfl] at hI1
            simp [resV, resHl] at hI1
            simp [hle] at hO hA hG
            simp [go_sem, ir112, hS, e2, h2, hnle, hr, hO, h3, hG, hkn, hkn2, hwl, hrw, hcut, hA, hI1, resV, resHl, purse_eq]
          · rw [if_neg ha1] at hA
            have hI1 := hI false false
            cases hok : insOk a.1 with
            | true =>
              obtain ⟨g6, g7, g8⟩ := ins_good hok
              have hRne := (chkB_ok g6).2.1
              have e2 : getB b = ((((insA a.1).1 : Int), (insR a.1).2), (n : Int), 0) := by rw [e, if_pos ⟨ha, hok⟩]
              rw [hok, hil hok] at hI1
              simp [resV, resHl, hRne] at hI1
              simp [hle] at hO hA hG
              simp [go_sem, ir112, hS, e2, h2, hnle, hr, hO, h3, hG, hkn, hkn2, hwl, hrw, hcut, hA, hI1, resV, resHl, hRne, purse_eq]
            | false =>
              have e2 : getB b = ((0, []), 0, 11) := by rw [e, if_neg (by rw [hok]; simp)]
              rw [hok] at hI1
              by_cases hR : (insR a.1).2 = []
              · simp [resV, resHl, hR] at hI1
                simp [hle] at hO hA hG
                simp [go_sem, ir112, hS, e2, h2, hnle, hr, hO, h3, hG, hkn, hkn2, hwl, hrw, hcut, hA, hI1, resV, resHl, hR, purse_eq]
              · simp [resV, resHl, hR] at hI1
                simp [hle] at hO hA hG
                simp [go_sem, ir112, hS, e2, h2, hnle, hr, hO, h3, hG, hkn, hkn2, hwl, hrw, hcut, hA, hI1, resV, resHl, hR, purse_eq]
        · rw [if_neg ha] at hA
          have hI1 := inside_spec [] true true
          have hok : insOk [] = false := rfl
          have e2 : getB b = ((0, []), 0, 11) := by rw [e, if_neg (fun h => ha h.1)]
          rw [hok, show (insA []).1 = 0 from rfl, show (insR []).2 = [] from rfl] at hI1
          simp [resV, resHl] at hI1
          simp [hle] at hO hA hG
          simp [go_sem, ir112, hS, e2, h2, hnle, hr, hO, h3, hG, hkn, hkn2, hwl, hrw, hcut, hA, hI1, ha, resV, resHl, purse_eq]
      · rw [if_neg h3] at hO
        have e : getB b = ((0, []), 0, openE (b.take n)) := by
          unfold getB
          rw [g3, if_neg (by simp), if_neg (by simpa using h2)]
          simp only [Int.toNat_natCast]
          rw [if_pos h3]
        rw [List.map_take] at hO
        simp [go_sem, ir112, hS, e, h2, hnle, hr, hO, h3, resV, resHl, purse_eq]
  · have e : getB b = ((0, []), 0, (sizeB b).2) := by unfold getB; rw [if_pos h1]
    simp [go_sem, ir112, hS, e, h1, resV, resHl, purse_eq]
end Go.AM.R1
open Go Go.AM
namespace Go.AM.R1

theorem sealB_inj {x y : List Nat} (h : sealB x = sealB y) : x = y := by
  have hl := congrArg List.length h
  rw [sealB_length, sealB_length] at hl
  exact (List.append_inj h (by omega)).1
theorem wholeB_inj {l m : List Nat} (hl : ∀ n ∈ l, n < 18446744073709551616) (hm : ∀ n ∈ m, n < 18446744073709551616) (hll : (bytesN l).length < 18446744073709551616) (hml : (bytesN m).length < 18446744073709551616) (h : wholeB l = wholeB m) : l = m := by
  have h1 := sealB_inj h
  have g1 := get_put hll (bytesN l)
  have g2 := get_put hml (bytesN m)
  rw [h1, g2] at g1
  simp only [Prod.mk.injEq] at g1
  rw [g1.1] at h1
  exact bytesN_inj hl hm (List.append_cancel_left h1)
/-- Bytes that open are those of their numbers. -/
theorem whole_take {b : List Nat} (hb : ∀ c ∈ b, c < 256) (h1 : (getN b).2.2 = 0) {n : Nat} (hn : (getN b).2.1 + (getN b).1 + 4 = n) (hle : n ≤ b.length) (h3 : openE (b.take n) = 0)
    (ha : (allN ((b.take (n - 4)).drop (getN b).2.1)).2.2 = 0) : b.take n = wholeB (allN ((b.take (n - 4)).drop (getN b).2.1)).1 ∧ (∀ m ∈ (allN ((b.take (n - 4)).drop (getN b).2.1)).1, m < 18446744073709551616) ∧
      (bytesN (allN ((b.take (n - 4)).drop (getN b).2.1)).1).length = (getN b).1 := by
  have htl : (b.take n).length = n := by simp; omega
  have htt : (b.take n).take (n - 4) = b.take (n - 4) := by rw [List.take_take, Nat.min_eq_left (by omega)]
  have hk := get_k_le hb h1
  have hs := (seal_take (b.take n) (by omega)).1 h3
  rw [htl, htt] at hs
  have hw := get_whole hb h1 (n - 4) (by omega)
  have hwb : ∀ c ∈ b.take (n - 4), c < 256 := fun c hc => hb c (List.mem_of_mem_take hc)
  obtain ⟨e1, e2, e3⟩ := get_ok hwb (by rw [hw])
  rw [hw] at e1 e2 e3
  simp only [] at e1 e2 e3
  have hwl : (b.take (n - 4)).length = n - 4 := by simp; omega
  generalize hwg : b.take (n - 4) = w at *
  obtain ⟨l', f1, f2, f3, f4⟩ := all_ok (w.drop (getN b).2.1).length (w.drop (getN b).2.1) 0 [] (allN (w.drop (getN b).2.1)).1 (allN (w.drop (getN b).2.1)).2.1 (fun c hc => hwb c (List.mem_of_mem_drop hc)) (by omega) (by
    show allN (w.drop (getN b).2.1) = _
    rw [← ha])
  rw [List.nil_append] at f1
  rw [List.drop_zero] at f2
  rw [f1]
  have hbl : (bytesN l').length = (getN b).1 := by rw [← f2, List.length_drop]; omega
  refine ⟨?_, f3, hbl⟩
  rw [← hs, wholeB, hbl, ← f2, ← e1]
theorem nums_lt64 {f : Int} {R : List Run} (hc : chkB f R = 0) : ∀ n ∈ numsN f R, n < 18446744073709551616 := fun n hn => by
  obtain ⟨h1, h2, h3, h4, h5, h6⟩ := chkB_ok hc
  have := nums_lt h1 h3 (chk_right h4).1 n hn
  omega
theorem nums_bytes {f : Int} {R : List Run} (hc : chkB f R = 0) : (bytesN (numsN f R)).length ≤ 82000 := by
  obtain ⟨h1, h2, h3, h4, h5, h6⟩ := chkB_ok hc
  exact inside_len h1 h3 (chk_right h4).1
theorem wholeB_byte (l : List Nat) (hl : ∀ n ∈ l, n < 18446744073709551616) (hll : (bytesN l).length < 18446744073709551616) : ∀ c ∈ wholeB l, c < 256 := by
  intro c hc
  simp only [wholeB, sealB, List.mem_append] at hc
  rcases hc with (hc | hc) | hc
  · exact putN_byte 9 _ (by omega) c hc
  · exact bytes_byte l hl c hc
  · exact tail_byte _ c hc
theorem allN_length : ∀ (d : Nat) (b : List Nat) (p : Nat) (acc : List Nat), (∀ c ∈ b, c < 256) → acc.length ≤ p → p ≤ b.length → (allGo d b p acc).1.length ≤ b.length
  | 0, b, p, acc, _, h, hp => by simp [allGo]; omega
  | d + 1, b, p, acc, hb, h, hp => by
    rw [allGo]
    split
    · simp; omega
    · split
      · rename_i h1 h2
        have hk := get_k_le (fun c hc => hb c (List.mem_of_mem_drop hc)) h2
        simp at hk
        exact allN_length d b _ _ hb (by simp; omega) (by omega)
      · simp
end Go.AM.R1
open Go Go.AM
namespace Go.AM.R1

/-! ### A block that is put is got, and what is got was put -/
theorem bytes_len5 (l : List Nat) (h : ∀ n ∈ l, n < 4294967296) : (bytesN l).length ≤ 5 * l.length := by
  induction l with
  | nil => simp [bytesN]
  | cons n l ih =>
    have h1 := putN_length 4 n (by have := h n (by simp); omega)
    have h2 := ih fun m hm => h m (by simp [hm])
    simp only [bytesN, List.flatMap_cons, List.length_append, List.length_cons] at h2 ⊢
    omega
theorem inside_65536 {f : Int} {R : List Run} (hc : chkB f R = 0) : (bytesN (numsN f R)).length ≤ 41000 := by
  obtain ⟨h1, h2, h3, h4, h5, h6⟩ := chkB_ok hc
  have := bytes_len5 (numsN f R) (nums_lt h1 h3 (chk_right h4).1)
  have e : (numsN f R).length = 2 * R.length + 2 := by simp only [numsN, List.length_cons, runN_length]
  omega
theorem whole_len (l : List Nat) : (wholeB l).length = (putN (bytesN l).length).length + (bytesN l).length + 4 := whole_length l
theorem size_put {l : List Nat} (hl : (bytesN l).length ≤ 65536) (r : List Nat) : getN (wholeB l ++ r) = ((bytesN l).length, (putN (bytesN l).length).length, 0) ∧ sizeB (wholeB l ++ r) = (((wholeB l).length : Int), 0) := by
  have e : wholeB l ++ r = putN (bytesN l).length ++ (bytesN l ++ (tailN (crc (putN (bytesN l).length ++ bytesN l)).toNat ++ r)) := by
    simp [wholeB, sealB]
  have hg : getN (wholeB l ++ r) = ((bytesN l).length, (putN (bytesN l).length).length, 0) := by rw [e]; exact get_put (by omega) _
  refine ⟨hg, ?_⟩
  unfold sizeB
  rw [hg, if_neg (by simp), if_neg (by simp; omega), whole_len]
theorem get_of_put {f : Int} {R : List Run} (hc : chkB f R = 0) (hd : ∀ r ∈ R, 0 ≤ r.Drive ∧ r.Drive ≤ 4294967295) (r : List Nat) :
    getB (wholeB (numsN f R) ++ r) = ((f, R), ((wholeB (numsN f R)).length : Int), 0) := by
  have hlen := inside_65536 hc
  obtain ⟨hg, hs⟩ := size_put (l := numsN f R) (by omega) r
  have hn64 := nums_lt64 hc
  have hwl := whole_len (numsN f R)
  have hW4 : (wholeB (numsN f R)).take ((wholeB (numsN f R)).length - 4) = putN (bytesN (numsN f R)).length ++ bytesN (numsN f R) := by
    rw [whole_len]
    unfold wholeB sealB
    rw [List.take_append_of_le_length (by simp <;> omega), List.take_of_length_le (by simp)]
  have hT : (wholeB (numsN f R) ++ r).take (wholeB (numsN f R)).length = wholeB (numsN f R) := by rw [List.take_append_of_le_length (by omega), List.take_length]
  have hO : openE (wholeB (numsN f R)) = 0 := by
    rw [seal_take _ (by omega), hW4]; rfl
  have hT4 : (wholeB (numsN f R) ++ r).take ((wholeB (numsN f R)).length - 4) = putN (bytesN (numsN f R)).length ++ bytesN (numsN f R) := by
    rw [List.take_append_of_le_length (by omega), hW4]
  have hA : allN (bytesN (numsN f R)) = (numsN f R, 0, 0) := by
    have := all_bytes (numsN f R) (bytesN (numsN f R)).length (bytesN (numsN f R)) 0 [] rfl hn64 (by omega)
    simpa [allN] using this
  obtain ⟨i1, i2, i3, i4⟩ := ins_nums hc hd
  unfold getB
  rw [hs, if_neg (by simp), if_neg (by simp; omega)]
  simp only [Int.toNat_natCast]
  rw [hT, if_neg (by simp [hO]), hT4, hg]
  simp only []
  rw [List.drop_left, hA]
  simp only []
  rw [if_pos ⟨trivial, i3⟩, i1, i2]
/-- What is got. -/
theorem put_of_get {b : List Nat} (hb : ∀ c ∈ b, c < 256) (h : (getB b).2.2 = 0) :
    ∃ (f : Int) (R : List Run) (n : Nat), getB b = ((f, R), (n : Int), 0) ∧ chkB f R = 0 ∧ (∀ r ∈ R, 0 ≤ r.Drive ∧ r.Drive ≤ 4294967295) ∧ b.take n = wholeB (numsN f R) ∧ 1 ≤ n ∧ n ≤ b.length := by
  unfold getB at h
  split at h
  · rename_i h1; simp at h; exact absurd h h1
  · rename_i h1
    have h1' : (sizeB b).2 = 0 := by simpa using h1
    obtain ⟨g1, g2, g3, g4, g5⟩ := size_ok hb h1'
    split at h
    · simp at h
    · rename_i h2
      split at h
      · rename_i h3; simp at h; exact absurd h h3
      · rename_i h3
        split at h
        · rename_i h4
          rw [g3] at h2 h3 h4
          simp only [Int.toNat_natCast] at h2 h3 h4
          have hle : (getN b).2.1 + (getN b).1 + 4 ≤ b.length := by omega
          have h3' : openE (b.take ((getN b).2.1 + (getN b).1 + 4)) = 0 := by simpa using h3
          obtain ⟨w1, w2, w3⟩ := whole_take hb g1 rfl hle h3' h4.1
          obtain ⟨i1, i2, i3⟩ := ins_good h4.2
          refine ⟨_, _, (getN b).2.1 + (getN b).1 + 4, ?_, i1, i3, ?_, by omega, hle⟩
          · unfold getB
            rw [g3, if_neg (by simp)]
            simp only [Int.toNat_natCast]
            rw [if_neg h2, if_neg h3, if_pos h4]
          · rw [w1, i2]
        · simp at h
theorem get_bad {b : List Nat} (h : (getB b).2.2 ≠ 0) : (getB b).1 = (0, []) ∧ (getB b).2.1 = 0 := by
  unfold getB at h ⊢
  split
  · exact ⟨rfl, rfl⟩
  · rename_i h1
    rw [if_neg h1] at h
    split
    · exact ⟨rfl, rfl⟩
    · rename_i h2
      rw [if_neg h2] at h
      split
      · exact ⟨rfl, rfl⟩
      · rename_i h3
        rw [if_neg h3] at h
        split
        · rename_i h4
          rw [if_pos h4] at h; simp at h
        · exact ⟨rfl, rfl⟩
theorem chkB_Ok {f : Int} {R : List Run} (hc : chkB f R = 0) : ∀ r ∈ R, r.Ok := fun r hr => by
  have := (chk_right (chkB_ok hc).2.2.2.1).1 r hr
  exact ⟨by omega, by omega⟩
end Go.AM.R1
