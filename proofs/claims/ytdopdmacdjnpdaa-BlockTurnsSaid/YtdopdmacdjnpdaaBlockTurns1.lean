/- The law BlockTurns of package magnetolaw15 returns true for every input, and its arguments read as before. -/
import Derived.Test.YtdopdmacdjnpdaaRows
import Derived.Test.YtdopdmacdjnpdaaAm3
set_option linter.unusedVariables false
set_option linter.unusedSimpArgs false
open Go Go.AM Go.Proofs
namespace Go.AM.R1
/- magnetolaw15.BlockPuts -/
def ir3 : IFn := ⟨(.seq (.reg [⟨none, some 1, .box 2 (.t 0)⟩, ⟨none, some 2, .copy (.c (.lit (.bool false)))⟩] [] []) (.seq (.seq (.reg [⟨none, some 7, .fieldA 1 (.t 1)⟩, ⟨none, some 8, .load false 1 (.t 7)⟩, ⟨none, some 9, .len (.t 8)⟩, ⟨none, some 10, .bin .gtr (.t 9) (.c (.lit (.int .i64 300)))⟩] [] []) (.cond (.t 10) (.seq (.reg [⟨none, some 11, .call 15 []⟩, ⟨none, some 2, .copy (.t 11)⟩] [] []) .ret) .skip)) (.seq (.reg [⟨none, some 12, .fieldA 0 (.t 1)⟩, ⟨none, some 13, .load false 1 (.t 12)⟩, ⟨none, some 14, .fieldA 1 (.t 1)⟩, ⟨none, some 15, .load false 1 (.t 14)⟩, ⟨none, some 16, .build [(.lit (.int .i64 0)), nilS] [(0, 1, (.t 13)), (1, 1, (.t 15))]⟩, ⟨none, some 3, .alloc [(.lit (.int .i64 0)), nilS]⟩, ⟨none, none, .store 2 (.t 3) (.t 16)⟩] [] []) (.seq (.reg [⟨none, some 18, .load true 2 (.t 1)⟩, ⟨none, some 19, .call 16 [(.t 18)]⟩, ⟨none, some 17, .copy (.t 19)⟩, ⟨none, some 20, .extract (.t 17) 0⟩, ⟨none, some 21, .extract (.t 17) 1⟩, ⟨none, some 4, .copy (.t 20)⟩, ⟨none, some 5, .copy (.t 21)⟩] [] []) (.seq (.reg [⟨none, some 22, .load true 2 (.t 3)⟩, ⟨none, some 23, .call 17 [(.t 22)]⟩, ⟨none, some 6, .copy (.t 23)⟩] [] []) (.seq (.seq (.reg [⟨none, some 24, .load true 2 (.t 1)⟩, ⟨none, some 25, .call 18 [(.t 24)]⟩, ⟨none, some 26, .copy (.t 6)⟩, ⟨none, some 27, .bin .neq (.t 25) (.t 26)⟩] [] []) (.cond (.t 27) (.seq (.reg [⟨none, some 2, .copy (.c (.lit (.bool false)))⟩] [] []) .ret) .skip)) (.seq (.seq (.reg [⟨none, some 28, .copy (.t 6)⟩, ⟨none, some 29, .bin .neq (.t 28) (.c (.lit (.int .i64 0)))⟩] [] []) (.cond (.t 29) (.seq (.reg [⟨none, some 30, .copy (.t 4)⟩, ⟨none, some 31, .len (.t 30)⟩, ⟨none, some 32, .bin .eql (.t 31) (.c (.lit (.int .i64 0)))⟩, ⟨none, some 33, .copy (.t 32)⟩, ⟨some (33, true), some 34, .copy (.t 5)⟩, ⟨some (33, true), some 35, .copy (.t 6)⟩, ⟨some (33, true), some 36, .bin .eql (.t 34) (.t 35)⟩, ⟨none, some 37, .pick (.t 33) (.t 36) (.c (.lit (.bool false)))⟩, ⟨none, some 38, .copy (.t 37)⟩, ⟨some (38, true), some 39, .call 15 []⟩, ⟨none, some 40, .pick (.t 38) (.t 39) (.c (.lit (.bool false)))⟩, ⟨none, some 2, .copy (.t 40)⟩] [] []) .ret) .skip)) (.seq (.reg [⟨none, some 41, .copy (.t 5)⟩, ⟨none, some 42, .bin .eql (.t 41) (.c (.lit (.int .i64 0)))⟩, ⟨none, some 43, .copy (.t 42)⟩, ⟨some (43, true), some 44, .copy (.t 4)⟩, ⟨some (43, true), some 45, .load true 2 (.t 3)⟩, ⟨some (43, true), some 46, .call 20 [(.t 45)]⟩, ⟨some (43, true), some 47, .call 19 [(.t 44), (.t 46)]⟩, ⟨none, some 48, .pick (.t 43) (.t 47) (.c (.lit (.bool false)))⟩, ⟨none, some 49, .copy (.t 48)⟩, ⟨some (49, true), some 50, .call 15 []⟩, ⟨none, some 51, .pick (.t 49) (.t 50) (.c (.lit (.bool false)))⟩, ⟨none, some 2, .copy (.t 51)⟩] [] []) .ret)))))))), [.tmp 2]⟩
/- magnetolaw12.TapChecks -/
def L4_0 : ICode := (.seq (.seq (.reg [⟨none, some 61, .copy (.t 12)⟩, ⟨none, some 62, .copy (.t 0)⟩, ⟨none, some 63, .len (.t 62)⟩, ⟨none, some 64, .bin .lss (.t 61) (.t 63)⟩] [] []) (.cond (.t 64) .skip (.exit 0))) (.seq (.block 1 (.seq (.seq (.reg [⟨none, some 67, .copy (.t 1)⟩, ⟨none, some 68, .copy (.t 11)⟩, ⟨none, some 69, .bin .geq (.t 67) (.t 68)⟩, ⟨none, some 70, .copy (.t 69)⟩, ⟨some (70, true), some 71, .copy (.t 1)⟩, ⟨some (70, true), some 72, .copy (.t 11)⟩, ⟨some (70, true), some 73, .bin .sub (.t 71) (.t 72)⟩, ⟨some (70, true), some 74, .copy (.t 0)⟩, ⟨some (70, true), some 75, .copy (.t 12)⟩, ⟨some (70, true), some 76, .idxS 3 (.t 74) (.t 75)⟩, ⟨some (70, true), some 77, .fieldA 0 (.t 76)⟩, ⟨some (70, true), some 78, .load false 1 (.t 77)⟩, ⟨some (70, true), some 79, .bin .lss (.t 73) (.t 78)⟩, ⟨none, some 80, .pick (.t 70) (.t 79) (.c (.lit (.bool false)))⟩] [] []) (.cond (.t 80) (.seq (.reg [⟨none, some 81, .copy (.t 9)⟩, ⟨none, some 82, .bin .eql (.t 81) (.c (.lit (.int .i64 0)))⟩, ⟨none, some 83, .copy (.t 82)⟩, ⟨some (83, true), some 84, .load true 3 (.t 8)⟩, ⟨some (83, true), some 85, .copy (.t 0)⟩, ⟨some (83, true), some 86, .copy (.t 12)⟩, ⟨some (83, true), some 87, .idxS 3 (.t 85) (.t 86)⟩, ⟨some (83, true), some 88, .fieldA 1 (.t 87)⟩, ⟨some (83, true), some 89, .load false 1 (.t 88)⟩, ⟨some (83, true), some 90, .copy (.t 0)⟩, ⟨some (83, true), some 91, .copy (.t 12)⟩, ⟨some (83, true), some 92, .idxS 3 (.t 90) (.t 91)⟩, ⟨some (83, true), some 93, .fieldA 2 (.t 92)⟩, ⟨some (83, true), some 94, .load false 1 (.t 93)⟩, ⟨some (83, true), some 95, .build [(.lit (.int .i64 0)), (.lit (.int .i64 0)), (.lit (.int .u32 0))] [(0, 1, (.c (.lit (.int .i64 1)))), (1, 1, (.t 89)), (2, 1, (.t 94))]⟩, ⟨some (83, true), some 96, .eqA false [(0, .i), (1, .i), (2, .i)] (.t 84) (.t 95)⟩, ⟨none, some 97, .pick (.t 83) (.t 96) (.c (.lit (.bool false)))⟩, ⟨none, some 98, .copy (.t 97)⟩, ⟨some (98, true), some 99, .call 21 []⟩, ⟨none, some 100, .pick (.t 98) (.t 99) (.c (.lit (.bool false)))⟩, ⟨none, some 4, .copy (.t 100)⟩] [] []) .ret) .skip)) (.reg [⟨none, some 101, .copy (.t 11)⟩, ⟨none, some 102, .copy (.t 0)⟩, ⟨none, some 103, .copy (.t 12)⟩, ⟨none, some 104, .idxS 3 (.t 102) (.t 103)⟩, ⟨none, some 105, .fieldA 0 (.t 104)⟩, ⟨none, some 106, .load false 1 (.t 105)⟩, ⟨none, some 107, .bin .add (.t 101) (.t 106)⟩, ⟨none, some 11, .copy (.t 107)⟩] [] []))) (.reg [⟨none, some 65, .copy (.t 12)⟩, ⟨none, some 66, .bin .add (.t 65) (.c (.lit (.int .i64 1)))⟩, ⟨none, some 12, .copy (.t 66)⟩] [] [])))
def ir4 : IFn := ⟨(.seq (.reg [⟨none, some 4, .copy (.c (.lit (.bool false)))⟩] [] []) (.seq (.seq (.reg [⟨none, some 13, .copy (.t 0)⟩, ⟨none, some 14, .len (.t 13)⟩, ⟨none, some 15, .bin .gtr (.t 14) (.c (.lit (.int .i64 60)))⟩] [] []) (.cond (.t 15) (.seq (.reg [⟨none, some 16, .call 21 []⟩, ⟨none, some 4, .copy (.t 16)⟩] [] []) .ret) .skip)) (.seq (.reg [⟨none, some 17, .copy (.t 0)⟩, ⟨none, some 18, .call 22 [(.t 17)]⟩, ⟨none, some 5, .copy (.t 18)⟩] [] []) (.seq (.reg [⟨none, some 20, .copy (.t 0)⟩, ⟨none, some 21, .call 23 [(.t 20)]⟩, ⟨none, some 19, .copy (.t 21)⟩, ⟨none, some 22, .extract (.t 19) 0⟩, ⟨none, some 23, .extract (.t 19) 1⟩, ⟨none, some 6, .copy (.t 22)⟩, ⟨none, some 7, .copy (.t 23)⟩] [] []) (.seq (.reg [⟨none, some 25, .copy (.t 0)⟩, ⟨none, some 26, .copy (.t 1)⟩, ⟨none, some 27, .call 24 [(.t 25), (.t 26)]⟩, ⟨none, some 24, .copy (.t 27)⟩, ⟨none, some 28, .extract (.t 24) 0⟩, ⟨none, some 29, .extract (.t 24) 1⟩, ⟨none, some 8, .alloc [(.lit (.int .i64 0)), (.lit (.int .i64 0)), (.lit (.int .u32 0))]⟩, ⟨none, none, .store 3 (.t 8) (.t 28)⟩, ⟨none, some 9, .copy (.t 29)⟩] [] []) (.seq (.reg [⟨none, some 30, .copy (.t 0)⟩, ⟨none, some 31, .call 25 [(.t 30)]⟩, ⟨none, some 10, .copy (.t 31)⟩] [] []) (.seq (.seq (.reg [⟨none, some 32, .copy (.t 5)⟩, ⟨none, some 33, .copy (.t 10)⟩, ⟨none, some 34, .bin .neq (.t 32) (.t 33)⟩, ⟨none, some 35, .copy (.t 34)⟩, ⟨some (35, false), some 36, .copy (.t 7)⟩, ⟨some (35, false), some 37, .copy (.t 10)⟩, ⟨some (35, false), some 38, .bin .neq (.t 36) (.t 37)⟩, ⟨none, some 39, .pick (.t 35) (.c (.lit (.bool true))) (.t 38)⟩] [] []) (.cond (.t 39) (.seq (.reg [⟨none, some 4, .copy (.c (.lit (.bool false)))⟩] [] []) .ret) .skip)) (.seq (.seq (.reg [⟨none, some 40, .copy (.t 10)⟩, ⟨none, some 41, .bin .neq (.t 40) (.c (.lit (.int .i64 0)))⟩] [] []) (.cond (.t 41) (.seq (.reg [⟨none, some 42, .copy (.t 6)⟩, ⟨none, some 43, .bin .eql (.t 42) (.c (.lit (.int .i64 0)))⟩, ⟨none, some 44, .copy (.t 43)⟩, ⟨some (44, true), some 45, .load true 3 (.t 8)⟩, ⟨some (44, true), some 46, .build [(.lit (.int .i64 0)), (.lit (.int .i64 0)), (.lit (.int .u32 0))] []⟩, ⟨some (44, true), some 47, .eqA false [(0, .i), (1, .i), (2, .i)] (.t 45) (.t 46)⟩, ⟨none, some 48, .pick (.t 44) (.t 47) (.c (.lit (.bool false)))⟩, ⟨none, some 49, .copy (.t 48)⟩, ⟨some (49, true), some 50, .copy (.t 9)⟩, ⟨some (49, true), some 51, .copy (.t 10)⟩, ⟨some (49, true), some 52, .bin .eql (.t 50) (.t 51)⟩, ⟨none, some 53, .pick (.t 49) (.t 52) (.c (.lit (.bool false)))⟩, ⟨none, some 54, .copy (.t 53)⟩, ⟨some (54, true), some 55, .call 21 []⟩, ⟨none, some 56, .pick (.t 54) (.t 55) (.c (.lit (.bool false)))⟩, ⟨none, some 4, .copy (.t 56)⟩] [] []) .ret) .skip)) (.seq (.seq (.reg [⟨none, some 57, .copy (.t 6)⟩, ⟨none, some 58, .copy (.t 0)⟩, ⟨none, some 59, .call 26 [(.t 58)]⟩, ⟨none, some 60, .bin .neq (.t 57) (.t 59)⟩] [] []) (.cond (.t 60) (.seq (.reg [⟨none, some 4, .copy (.c (.lit (.bool false)))⟩] [] []) .ret) .skip)) (.seq (.reg [⟨none, some 11, .copy (.c (.lit (.int .i64 0)))⟩] [] []) (.seq (.seq (.reg [⟨none, some 12, .copy (.c (.lit (.int .i64 0)))⟩] [] []) (.block 0 (.loop [0, 1, 8, 9, 11, 12] L4_0))) (.seq (.reg [⟨none, some 108, .load true 3 (.t 8)⟩, ⟨none, some 109, .build [(.lit (.int .i64 0)), (.lit (.int .i64 0)), (.lit (.int .u32 0))] []⟩, ⟨none, some 110, .eqA false [(0, .i), (1, .i), (2, .i)] (.t 108) (.t 109)⟩, ⟨none, some 111, .copy (.t 110)⟩, ⟨some (111, true), some 112, .copy (.t 9)⟩, ⟨some (111, true), some 113, .bin .eql (.t 112) (.c (.lit (.int .i64 10)))⟩, ⟨none, some 114, .pick (.t 111) (.t 113) (.c (.lit (.bool false)))⟩, ⟨none, some 115, .copy (.t 114)⟩, ⟨some (115, true), some 116, .call 21 []⟩, ⟨none, some 117, .pick (.t 115) (.t 116) (.c (.lit (.bool false)))⟩, ⟨none, some 4, .copy (.t 117)⟩] [] []) .ret)))))))))))), [.tmp 4]⟩
/- magnetolaw12.TapCuts -/
def ir5 : IFn := ⟨(.seq (.reg [⟨none, some 3, .box 2 (.t 1)⟩, ⟨none, some 4, .copy (.c (.lit (.bool false)))⟩] [] []) (.seq (.seq (.reg [⟨none, some 9, .copy (.t 0)⟩, ⟨none, some 10, .call 27 [(.t 9)]⟩, ⟨none, some 11, .un .not (.t 10)⟩] [] []) (.cond (.t 11) (.seq (.reg [⟨none, some 12, .call 21 []⟩, ⟨none, some 4, .copy (.t 12)⟩] [] []) .ret) .skip)) (.seq (.seq (.reg [⟨none, some 13, .copy (.t 0)⟩, ⟨none, some 14, .call 29 [(.t 13)]⟩, ⟨none, some 15, .copy (.t 0)⟩, ⟨none, some 16, .call 30 [(.t 15)]⟩, ⟨none, some 17, .call 28 [(.t 14), (.t 16)]⟩, ⟨none, some 18, .un .not (.t 17)⟩] [] []) (.cond (.t 18) (.seq (.reg [⟨none, some 4, .copy (.c (.lit (.bool false)))⟩] [] []) .ret) .skip)) (.seq (.reg [⟨none, some 20, .copy (.t 0)⟩, ⟨none, some 21, .idxA 2 1 (.t 3) (.c (.lit (.int .i64 0)))⟩, ⟨none, some 22, .load false 1 (.t 21)⟩, ⟨none, some 23, .idxA 2 1 (.t 3) (.c (.lit (.int .i64 1)))⟩, ⟨none, some 24, .load false 1 (.t 23)⟩, ⟨none, some 25, .call 31 [(.t 20), (.t 22), (.t 24)]⟩, ⟨none, some 19, .copy (.t 25)⟩, ⟨none, some 26, .extract (.t 19) 0⟩, ⟨none, some 27, .extract (.t 19) 1⟩, ⟨none, some 5, .copy (.t 26)⟩, ⟨none, some 6, .copy (.t 27)⟩] [] []) (.seq (.reg [⟨none, some 28, .copy (.t 0)⟩, ⟨none, some 29, .call 25 [(.t 28)]⟩, ⟨none, some 7, .copy (.t 29)⟩] [] []) (.seq (.seq (.reg [⟨none, some 30, .copy (.t 7)⟩, ⟨none, some 31, .bin .neq (.t 30) (.c (.lit (.int .i64 0)))⟩] [] []) (.cond (.t 31) (.seq (.reg [⟨none, some 32, .copy (.t 5)⟩, ⟨none, some 33, .len (.t 32)⟩, ⟨none, some 34, .bin .eql (.t 33) (.c (.lit (.int .i64 0)))⟩, ⟨none, some 35, .copy (.t 34)⟩, ⟨some (35, true), some 36, .copy (.t 6)⟩, ⟨some (35, true), some 37, .copy (.t 7)⟩, ⟨some (35, true), some 38, .bin .eql (.t 36) (.t 37)⟩, ⟨none, some 39, .pick (.t 35) (.t 38) (.c (.lit (.bool false)))⟩, ⟨none, some 40, .copy (.t 39)⟩, ⟨some (40, true), some 41, .call 21 []⟩, ⟨none, some 42, .pick (.t 40) (.t 41) (.c (.lit (.bool false)))⟩, ⟨none, some 4, .copy (.t 42)⟩] [] []) .ret) .skip)) (.seq (.reg [⟨none, some 43, .copy (.t 0)⟩, ⟨none, some 44, .call 32 [(.t 43)]⟩, ⟨none, some 8, .copy (.t 44)⟩] [] []) (.seq (.seq (.reg [⟨none, some 45, .idxA 2 1 (.t 3) (.c (.lit (.int .i64 0)))⟩, ⟨none, some 46, .load false 1 (.t 45)⟩, ⟨none, some 47, .bin .lss (.t 46) (.c (.lit (.int .i64 0)))⟩, ⟨none, some 48, .copy (.t 47)⟩, ⟨some (48, false), some 49, .idxA 2 1 (.t 3) (.c (.lit (.int .i64 0)))⟩, ⟨some (48, false), some 50, .load false 1 (.t 49)⟩, ⟨some (48, false), some 51, .idxA 2 1 (.t 3) (.c (.lit (.int .i64 1)))⟩, ⟨some (48, false), some 52, .load false 1 (.t 51)⟩, ⟨some (48, false), some 53, .bin .gtr (.t 50) (.t 52)⟩, ⟨none, some 54, .pick (.t 48) (.c (.lit (.bool true))) (.t 53)⟩, ⟨none, some 55, .copy (.t 54)⟩, ⟨some (55, false), some 56, .idxA 2 1 (.t 3) (.c (.lit (.int .i64 1)))⟩, ⟨some (55, false), some 57, .load false 1 (.t 56)⟩, ⟨some (55, false), some 58, .copy (.t 8)⟩, ⟨some (55, false), some 59, .len (.t 58)⟩, ⟨some (55, false), some 60, .bin .gtr (.t 57) (.t 59)⟩, ⟨none, some 61, .pick (.t 55) (.c (.lit (.bool true))) (.t 60)⟩] [] []) (.cond (.t 61) (.seq (.reg [⟨none, some 62, .copy (.t 5)⟩, ⟨none, some 63, .len (.t 62)⟩, ⟨none, some 64, .bin .eql (.t 63) (.c (.lit (.int .i64 0)))⟩, ⟨none, some 65, .copy (.t 64)⟩, ⟨some (65, true), some 66, .copy (.t 6)⟩, ⟨some (65, true), some 67, .bin .eql (.t 66) (.c (.lit (.int .i64 10)))⟩, ⟨none, some 68, .pick (.t 65) (.t 67) (.c (.lit (.bool false)))⟩, ⟨none, some 69, .copy (.t 68)⟩, ⟨some (69, true), some 70, .call 21 []⟩, ⟨none, some 71, .pick (.t 69) (.t 70) (.c (.lit (.bool false)))⟩, ⟨none, some 4, .copy (.t 71)⟩] [] []) .ret) .skip)) (.seq (.reg [⟨none, some 72, .copy (.t 6)⟩, ⟨none, some 73, .bin .eql (.t 72) (.c (.lit (.int .i64 0)))⟩, ⟨none, some 74, .copy (.t 73)⟩, ⟨some (74, true), some 75, .copy (.t 5)⟩, ⟨some (74, true), some 76, .copy (.t 8)⟩, ⟨some (74, true), some 77, .idxA 2 1 (.t 3) (.c (.lit (.int .i64 0)))⟩, ⟨some (74, true), some 78, .load false 1 (.t 77)⟩, ⟨some (74, true), some 79, .idxA 2 1 (.t 3) (.c (.lit (.int .i64 1)))⟩, ⟨some (74, true), some 80, .load false 1 (.t 79)⟩, ⟨some (74, true), some 81, .slice 3 (.t 76) (some (.t 78)) (some (.t 80)) none⟩, ⟨some (74, true), some 82, .call 30 [(.t 81)]⟩, ⟨some (74, true), some 83, .call 28 [(.t 75), (.t 82)]⟩, ⟨none, some 84, .pick (.t 74) (.t 83) (.c (.lit (.bool false)))⟩, ⟨none, some 85, .copy (.t 84)⟩, ⟨some (85, true), some 86, .call 21 []⟩, ⟨none, some 87, .pick (.t 85) (.t 86) (.c (.lit (.bool false)))⟩, ⟨none, some 4, .copy (.t 87)⟩] [] []) .ret))))))))), [.tmp 4]⟩
/- magnetolaw12.TapLevels -/
def A6_0 : ICode := (.seq (.reg [⟨none, some 15, .copy (.t 46)⟩] [] []) (.reg [⟨none, some 16, .alloc [(.lit (.int .i64 0)), (.lit (.int .i64 0)), (.lit (.int .u32 0))]⟩, ⟨none, none, .store 3 (.t 16) (.t 47)⟩] [] []))
def B6_0 : ICode := (.block 1 (.seq (.seq (.reg [⟨none, some 48, .load false 1 (.t 14)⟩, ⟨none, some 49, .load false 1 (.t 13)⟩, ⟨none, some 50, .len (.t 49)⟩, ⟨none, some 51, .bin .geq (.t 48) (.t 50)⟩, ⟨none, some 52, .copy (.t 51)⟩, ⟨some (52, false), some 53, .copy (.t 15)⟩, ⟨some (52, false), some 54, .load false 1 (.t 14)⟩, ⟨some (52, false), some 55, .bin .neq (.t 53) (.t 54)⟩, ⟨none, some 56, .pick (.t 52) (.c (.lit (.bool true))) (.t 55)⟩, ⟨none, some 57, .copy (.t 56)⟩, ⟨some (57, false), some 58, .load true 3 (.t 16)⟩, ⟨some (57, false), some 59, .load false 1 (.t 13)⟩, ⟨some (57, false), some 60, .load false 1 (.t 14)⟩, ⟨some (57, false), some 61, .idxS 3 (.t 59) (.t 60)⟩, ⟨some (57, false), some 62, .load true 3 (.t 61)⟩, ⟨some (57, false), some 63, .eqA true [(0, .i), (1, .i), (2, .i)] (.t 58) (.t 62)⟩, ⟨none, some 64, .pick (.t 57) (.c (.lit (.bool true))) (.t 63)⟩] [] []) (.cond (.t 64) (.seq (.reg [⟨none, none, .store 1 (.t 6) (.c (.lit (.bool false)))⟩] [] []) .ret) .skip)) (.seq (.reg [⟨none, some 65, .load false 1 (.t 14)⟩, ⟨none, some 66, .bin .add (.t 65) (.c (.lit (.int .i64 1)))⟩, ⟨none, none, .store 1 (.t 14) (.t 66)⟩] [] []) (.seq (.reg [⟨none, some 67, .load false 1 (.t 14)⟩, ⟨none, some 68, .load false 1 (.t 5)⟩, ⟨none, some 69, .bin .eql (.t 67) (.t 68)⟩] [] []) (.cond (.t 69) (.exit 0) .skip)))))
def L6_1 : ICode := (.seq (.seq (.reg [⟨none, some 111, .copy (.t 17)⟩, ⟨none, some 112, .load false 1 (.t 13)⟩, ⟨none, some 113, .len (.t 112)⟩, ⟨none, some 114, .bin .lss (.t 111) (.t 113)⟩] [] []) (.cond (.t 114) .skip (.exit 2))) (.seq (.block 3 (.seq (.reg [⟨none, some 117, .copy (.t 8)⟩, ⟨none, some 118, .copy (.t 17)⟩, ⟨none, some 119, .idxS 1 (.t 117) (.t 118)⟩, ⟨none, some 120, .load false 1 (.t 119)⟩, ⟨none, some 121, .load false 1 (.t 13)⟩, ⟨none, some 122, .copy (.t 17)⟩, ⟨none, some 123, .idxS 3 (.t 121) (.t 122)⟩, ⟨none, some 124, .fieldA 1 (.t 123)⟩, ⟨none, some 125, .load false 1 (.t 124)⟩, ⟨none, some 126, .bin .neq (.t 120) (.t 125)⟩] [] []) (.cond (.t 126) (.seq (.reg [⟨none, none, .store 1 (.t 6) (.c (.lit (.bool false)))⟩] [] []) .ret) .skip))) (.reg [⟨none, some 115, .copy (.t 17)⟩, ⟨none, some 116, .bin .add (.t 115) (.c (.lit (.int .i64 1)))⟩, ⟨none, some 17, .copy (.t 116)⟩] [] [])))
def L6_2 : ICode := (.seq (.seq (.reg [⟨none, some 152, .copy (.t 18)⟩, ⟨none, some 153, .load false 1 (.t 13)⟩, ⟨none, some 154, .len (.t 153)⟩, ⟨none, some 155, .bin .lss (.t 152) (.t 154)⟩] [] []) (.cond (.t 155) .skip (.exit 4))) (.seq (.block 5 (.seq (.reg [⟨none, some 158, .copy (.t 10)⟩, ⟨none, some 159, .copy (.t 18)⟩, ⟨none, some 160, .idxS 1 (.t 158) (.t 159)⟩, ⟨none, some 161, .load false 1 (.t 160)⟩, ⟨none, some 162, .load false 1 (.t 13)⟩, ⟨none, some 163, .copy (.t 18)⟩, ⟨none, some 164, .idxS 3 (.t 162) (.t 163)⟩, ⟨none, some 165, .fieldA 2 (.t 164)⟩, ⟨none, some 166, .load false 1 (.t 165)⟩, ⟨none, some 167, .copy (.t 1)⟩, ⟨none, some 168, .bin .shr (.t 166) (.t 167)⟩, ⟨none, some 169, .bin .and (.t 168) (.c (.lit (.int .u32 1)))⟩, ⟨none, some 170, .toInt .i64 (.t 169)⟩, ⟨none, some 171, .bin .neq (.t 161) (.t 170)⟩] [] []) (.cond (.t 171) (.seq (.reg [⟨none, none, .store 1 (.t 6) (.c (.lit (.bool false)))⟩] [] []) .ret) .skip))) (.reg [⟨none, some 156, .copy (.t 18)⟩, ⟨none, some 157, .bin .add (.t 156) (.c (.lit (.int .i64 1)))⟩, ⟨none, some 18, .copy (.t 157)⟩] [] [])))
def ir6 : IFn := ⟨(.seq (.reg [⟨none, some 5, .box 1 (.t 2)⟩, ⟨none, some 6, .alloc [(.lit (.bool false))]⟩] [] []) (.seq (.seq (.reg [⟨none, some 19, .copy (.t 0)⟩, ⟨none, some 20, .call 27 [(.t 19)]⟩, ⟨none, some 21, .un .not (.t 20)⟩] [] []) (.cond (.t 21) (.seq (.reg [⟨none, some 22, .call 21 []⟩, ⟨none, none, .store 1 (.t 6) (.t 22)⟩] [] []) .ret) .skip)) (.seq (.reg [⟨none, some 23, .copy (.t 0)⟩, ⟨none, some 24, .call 25 [(.t 23)]⟩, ⟨none, some 7, .copy (.t 24)⟩] [] []) (.seq (.reg [⟨none, some 26, .copy (.t 0)⟩, ⟨none, some 27, .call 33 [(.t 26)]⟩, ⟨none, some 25, .copy (.t 27)⟩, ⟨none, some 28, .extract (.t 25) 0⟩, ⟨none, some 29, .extract (.t 25) 1⟩, ⟨none, some 8, .copy (.t 28)⟩, ⟨none, some 9, .copy (.t 29)⟩] [] []) (.seq (.reg [⟨none, some 31, .copy (.t 0)⟩, ⟨none, some 32, .copy (.t 1)⟩, ⟨none, some 33, .call 34 [(.t 31), (.t 32)]⟩, ⟨none, some 30, .copy (.t 33)⟩, ⟨none, some 34, .extract (.t 30) 0⟩, ⟨none, some 35, .extract (.t 30) 1⟩, ⟨none, some 10, .copy (.t 34)⟩, ⟨none, some 11, .copy (.t 35)⟩] [] []) (.seq (.reg [⟨none, some 36, .copy (.t 0)⟩, ⟨none, some 37, .call 35 [(.t 36)]⟩, ⟨none, some 12, .copy (.t 37)⟩] [] []) (.seq (.seq (.reg [⟨none, some 38, .copy (.t 12)⟩, ⟨none, some 39, .isNil false .func (.t 38)⟩] [] []) (.cond (.t 39) (.seq (.reg [⟨none, none, .store 1 (.t 6) (.c (.lit (.bool false)))⟩] [] []) .ret) .skip)) (.seq (.reg [⟨none, some 40, .mkSlice true 3 [(.lit (.int .i64 0)), (.lit (.int .i64 0)), (.lit (.int .u32 0))] 0 []⟩, ⟨none, some 13, .alloc [nilS]⟩, ⟨none, none, .store 1 (.t 13) (.t 40)⟩] [] []) (.seq (.seq (.reg [⟨none, some 41, .copy (.t 7)⟩, ⟨none, some 42, .bin .eql (.t 41) (.c (.lit (.int .i64 0)))⟩] [] []) (.cond (.t 42) (.reg [⟨none, some 43, .copy (.t 0)⟩, ⟨none, some 44, .call 32 [(.t 43)]⟩, ⟨none, none, .store 1 (.t 13) (.t 44)⟩] [] []) .skip)) (.seq (.reg [⟨none, some 14, .alloc [(.lit (.int .i64 0))]⟩, ⟨none, none, .store 1 (.t 14) (.c (.lit (.int .i64 0)))⟩] [] []) (.seq (.seq (.reg [⟨none, some 45, .copy (.t 12)⟩] [] []) (.block 0 (.range (.t 45) [5, 6, 13, 14] [46, 47] A6_0 B6_0))) (.seq (.seq (.reg [⟨none, some 70, .load false 1 (.t 14)⟩, ⟨none, some 71, .load false 1 (.t 13)⟩, ⟨none, some 72, .len (.t 71)⟩, ⟨none, some 73, .bin .neq (.t 70) (.t 72)⟩, ⟨none, some 74, .copy (.t 73)⟩, ⟨some (74, true), some 75, .load false 1 (.t 14)⟩, ⟨some (74, true), some 76, .load false 1 (.t 5)⟩, ⟨some (74, true), some 77, .bin .neq (.t 75) (.t 76)⟩, ⟨none, some 78, .pick (.t 74) (.t 77) (.c (.lit (.bool false)))⟩] [] []) (.cond (.t 78) (.seq (.reg [⟨none, none, .store 1 (.t 6) (.c (.lit (.bool false)))⟩] [] []) .ret) .skip)) (.seq (.seq (.reg [⟨none, some 79, .copy (.t 7)⟩, ⟨none, some 80, .bin .neq (.t 79) (.c (.lit (.int .i64 0)))⟩] [] []) (.cond (.t 80) (.seq (.reg [⟨none, some 81, .copy (.t 8)⟩, ⟨none, some 82, .len (.t 81)⟩, ⟨none, some 83, .bin .eql (.t 82) (.c (.lit (.int .i64 0)))⟩, ⟨none, some 84, .copy (.t 83)⟩, ⟨some (84, true), some 85, .copy (.t 9)⟩, ⟨some (84, true), some 86, .copy (.t 7)⟩, ⟨some (84, true), some 87, .bin .eql (.t 85) (.t 86)⟩, ⟨none, some 88, .pick (.t 84) (.t 87) (.c (.lit (.bool false)))⟩, ⟨none, some 89, .copy (.t 88)⟩, ⟨some (89, true), some 90, .copy (.t 10)⟩, ⟨some (89, true), some 91, .len (.t 90)⟩, ⟨some (89, true), some 92, .bin .eql (.t 91) (.c (.lit (.int .i64 0)))⟩, ⟨none, some 93, .pick (.t 89) (.t 92) (.c (.lit (.bool false)))⟩, ⟨none, some 94, .copy (.t 93)⟩, ⟨some (94, true), some 95, .copy (.t 11)⟩, ⟨some (94, true), some 96, .copy (.t 7)⟩, ⟨some (94, true), some 97, .bin .eql (.t 95) (.t 96)⟩, ⟨none, some 98, .pick (.t 94) (.t 97) (.c (.lit (.bool false)))⟩, ⟨none, some 99, .copy (.t 98)⟩, ⟨some (99, true), some 100, .call 21 []⟩, ⟨none, some 101, .pick (.t 99) (.t 100) (.c (.lit (.bool false)))⟩, ⟨none, none, .store 1 (.t 6) (.t 101)⟩] [] []) .ret) .skip)) (.seq (.seq (.reg [⟨none, some 102, .copy (.t 9)⟩, ⟨none, some 103, .bin .neq (.t 102) (.c (.lit (.int .i64 0)))⟩, ⟨none, some 104, .copy (.t 103)⟩, ⟨some (104, false), some 105, .copy (.t 8)⟩, ⟨some (104, false), some 106, .len (.t 105)⟩, ⟨some (104, false), some 107, .load false 1 (.t 13)⟩, ⟨some (104, false), some 108, .len (.t 107)⟩, ⟨some (104, false), some 109, .bin .neq (.t 106) (.t 108)⟩, ⟨none, some 110, .pick (.t 104) (.c (.lit (.bool true))) (.t 109)⟩] [] []) (.cond (.t 110) (.seq (.reg [⟨none, none, .store 1 (.t 6) (.c (.lit (.bool false)))⟩] [] []) .ret) .skip)) (.seq (.seq (.reg [⟨none, some 17, .copy (.c (.lit (.int .i64 0)))⟩] [] []) (.block 2 (.loop [1, 6, 8, 10, 11, 13, 17] L6_1))) (.seq (.seq (.reg [⟨none, some 127, .copy (.t 1)⟩, ⟨none, some 128, .bin .lss (.t 127) (.c (.lit (.int .i64 0)))⟩, ⟨none, some 129, .copy (.t 128)⟩, ⟨some (129, false), some 130, .copy (.t 1)⟩, ⟨some (129, false), some 131, .bin .gtr (.t 130) (.c (.lit (.int .i64 31)))⟩, ⟨none, some 132, .pick (.t 129) (.c (.lit (.bool true))) (.t 131)⟩] [] []) (.cond (.t 132) (.seq (.reg [⟨none, some 133, .copy (.t 10)⟩, ⟨none, some 134, .len (.t 133)⟩, ⟨none, some 135, .bin .eql (.t 134) (.c (.lit (.int .i64 0)))⟩, ⟨none, some 136, .copy (.t 135)⟩, ⟨some (136, true), some 137, .copy (.t 11)⟩, ⟨some (136, true), some 138, .bin .eql (.t 137) (.c (.lit (.int .i64 10)))⟩, ⟨none, some 139, .pick (.t 136) (.t 138) (.c (.lit (.bool false)))⟩, ⟨none, some 140, .copy (.t 139)⟩, ⟨some (140, true), some 141, .call 21 []⟩, ⟨none, some 142, .pick (.t 140) (.t 141) (.c (.lit (.bool false)))⟩, ⟨none, none, .store 1 (.t 6) (.t 142)⟩] [] []) .ret) .skip)) (.seq (.seq (.reg [⟨none, some 143, .copy (.t 11)⟩, ⟨none, some 144, .bin .neq (.t 143) (.c (.lit (.int .i64 0)))⟩, ⟨none, some 145, .copy (.t 144)⟩, ⟨some (145, false), some 146, .copy (.t 10)⟩, ⟨some (145, false), some 147, .len (.t 146)⟩, ⟨some (145, false), some 148, .load false 1 (.t 13)⟩, ⟨some (145, false), some 149, .len (.t 148)⟩, ⟨some (145, false), some 150, .bin .neq (.t 147) (.t 149)⟩, ⟨none, some 151, .pick (.t 145) (.c (.lit (.bool true))) (.t 150)⟩] [] []) (.cond (.t 151) (.seq (.reg [⟨none, none, .store 1 (.t 6) (.c (.lit (.bool false)))⟩] [] []) .ret) .skip)) (.seq (.seq (.reg [⟨none, some 18, .copy (.c (.lit (.int .i64 0)))⟩] [] []) (.block 4 (.loop [1, 6, 10, 13, 18] L6_2))) (.seq (.reg [⟨none, some 172, .call 21 []⟩, ⟨none, none, .store 1 (.t 6) (.t 172)⟩] [] []) .ret))))))))))))))))))), [.cell 6 false 1]⟩
/- magnetolaw15.BlockGets -/
def ir10 : IFn := ⟨(.seq (.reg [⟨none, some 2, .copy (.c (.lit (.bool false)))⟩] [] []) (.seq (.seq (.reg [⟨none, some 13, .copy (.t 0)⟩, ⟨none, some 14, .len (.t 13)⟩, ⟨none, some 15, .bin .gtr (.t 14) (.c (.lit (.int .i64 1000)))⟩] [] []) (.cond (.t 15) (.seq (.reg [⟨none, some 16, .call 15 []⟩, ⟨none, some 2, .copy (.t 16)⟩] [] []) .ret) .skip)) (.seq (.reg [⟨none, some 18, .copy (.t 0)⟩, ⟨none, some 19, .call 38 [(.t 18)]⟩, ⟨none, some 17, .copy (.t 19)⟩, ⟨none, some 20, .extract (.t 17) 0⟩, ⟨none, some 21, .extract (.t 17) 1⟩, ⟨none, some 22, .extract (.t 17) 2⟩, ⟨none, some 3, .alloc [(.lit (.int .i64 0)), nilS]⟩, ⟨none, none, .store 2 (.t 3) (.t 20)⟩, ⟨none, some 4, .copy (.t 21)⟩, ⟨none, some 5, .copy (.t 22)⟩] [] []) (.seq (.reg [⟨none, some 24, .copy (.t 0)⟩, ⟨none, some 25, .call 39 [(.t 24)]⟩, ⟨none, some 23, .copy (.t 25)⟩, ⟨none, some 26, .extract (.t 23) 0⟩, ⟨none, some 27, .extract (.t 23) 1⟩, ⟨none, some 28, .extract (.t 23) 2⟩, ⟨none, some 6, .alloc [(.lit (.int .i64 0)), nilS]⟩, ⟨none, none, .store 2 (.t 6) (.t 26)⟩, ⟨none, some 7, .copy (.t 27)⟩, ⟨none, some 8, .copy (.t 28)⟩] [] []) (.seq (.reg [⟨none, some 30, .copy (.t 0)⟩, ⟨none, some 31, .call 40 [(.t 30)]⟩, ⟨none, some 29, .copy (.t 31)⟩, ⟨none, some 32, .extract (.t 29) 0⟩, ⟨none, some 33, .extract (.t 29) 1⟩, ⟨none, some 9, .copy (.t 32)⟩, ⟨none, some 10, .copy (.t 33)⟩] [] []) (.seq (.reg [⟨none, some 35, .copy (.t 0)⟩, ⟨none, some 36, .call 41 [(.t 35)]⟩, ⟨none, some 34, .copy (.t 36)⟩, ⟨none, some 37, .extract (.t 34) 0⟩, ⟨none, some 38, .extract (.t 34) 1⟩, ⟨none, some 11, .copy (.t 37)⟩, ⟨none, some 12, .copy (.t 38)⟩] [] []) (.seq (.reg [⟨none, some 39, .load true 2 (.t 3)⟩, ⟨none, some 40, .load true 2 (.t 6)⟩, ⟨none, some 41, .call 42 [(.t 39), (.t 40)]⟩, ⟨none, some 42, .copy (.t 41)⟩, ⟨some (42, true), some 43, .copy (.t 4)⟩, ⟨some (42, true), some 44, .copy (.t 7)⟩, ⟨some (42, true), some 45, .bin .eql (.t 43) (.t 44)⟩, ⟨none, some 46, .pick (.t 42) (.t 45) (.c (.lit (.bool false)))⟩, ⟨none, some 47, .copy (.t 46)⟩, ⟨some (47, true), some 48, .copy (.t 5)⟩, ⟨some (47, true), some 49, .copy (.t 8)⟩, ⟨some (47, true), some 50, .bin .eql (.t 48) (.t 49)⟩, ⟨none, some 51, .pick (.t 47) (.t 50) (.c (.lit (.bool false)))⟩, ⟨none, some 52, .copy (.t 51)⟩, ⟨some (52, true), some 53, .copy (.t 9)⟩, ⟨some (52, true), some 54, .copy (.t 11)⟩, ⟨some (52, true), some 55, .bin .eql (.t 53) (.t 54)⟩, ⟨none, some 56, .pick (.t 52) (.t 55) (.c (.lit (.bool false)))⟩, ⟨none, some 57, .copy (.t 56)⟩, ⟨some (57, true), some 58, .copy (.t 10)⟩, ⟨some (57, true), some 59, .copy (.t 12)⟩, ⟨some (57, true), some 60, .bin .eql (.t 58) (.t 59)⟩, ⟨none, some 61, .pick (.t 57) (.t 60) (.c (.lit (.bool false)))⟩, ⟨none, some 62, .copy (.t 61)⟩, ⟨some (62, true), some 63, .call 15 []⟩, ⟨none, some 64, .pick (.t 62) (.t 63) (.c (.lit (.bool false)))⟩, ⟨none, some 2, .copy (.t 64)⟩] [] []) .ret))))))), [.tmp 2]⟩
/- magnetolaw15.BlockTurns -/
def L12_0 : ICode := (.seq (.seq (.reg [⟨none, some 67, .copy (.t 14)⟩, ⟨none, some 68, .bin .lss (.t 67) (.c (.lit (.int .i64 32)))⟩, ⟨none, some 69, .copy (.t 68)⟩, ⟨some (69, true), some 70, .copy (.t 11)⟩, ⟨some (69, true), some 71, .copy (.t 14)⟩, ⟨some (69, true), some 72, .bin .add (.t 70) (.t 71)⟩, ⟨some (69, true), some 73, .copy (.t 10)⟩, ⟨some (69, true), some 74, .bin .lss (.t 72) (.t 73)⟩, ⟨none, some 75, .pick (.t 69) (.t 74) (.c (.lit (.bool false)))⟩] [] []) (.cond (.t 75) .skip (.exit 0))) (.seq (.block 1 (.seq (.reg [⟨none, some 78, .idxA 2 1 (.t 4) (.c (.lit (.int .i64 1)))⟩, ⟨none, some 79, .load false 1 (.t 78)⟩, ⟨none, some 80, .copy (.t 14)⟩, ⟨none, some 81, .bin .shr (.t 79) (.t 80)⟩, ⟨none, some 82, .bin .and (.t 81) (.c (.lit (.int .i64 1)))⟩, ⟨none, some 83, .bin .eql (.t 82) (.c (.lit (.int .i64 1)))⟩] [] []) (.cond (.t 83) (.seq (.reg [⟨none, some 84, .copy (.t 11)⟩, ⟨none, some 85, .copy (.t 14)⟩, ⟨none, some 86, .bin .add (.t 84) (.t 85)⟩, ⟨none, some 15, .copy (.t 86)⟩] [] []) (.seq (.reg [⟨none, some 87, .copy (.t 12)⟩, ⟨none, some 88, .copy (.t 9)⟩, ⟨none, some 89, .copy (.t 15)⟩, ⟨none, some 90, .bin .quo (.t 89) (.c (.lit (.int .i64 8)))⟩, ⟨none, some 91, .bin .add (.t 88) (.t 90)⟩, ⟨none, some 92, .copy (.t 12)⟩, ⟨none, some 93, .copy (.t 9)⟩, ⟨none, some 94, .copy (.t 15)⟩, ⟨none, some 95, .bin .quo (.t 94) (.c (.lit (.int .i64 8)))⟩, ⟨none, some 96, .bin .add (.t 93) (.t 95)⟩, ⟨none, some 97, .idxS 1 (.t 92) (.t 96)⟩, ⟨none, some 98, .load false 1 (.t 97)⟩, ⟨none, some 99, .copy (.t 15)⟩, ⟨none, some 100, .bin .rem (.t 99) (.c (.lit (.int .i64 8)))⟩, ⟨none, some 101, .bin .shl (.c (.lit (.int .u8 1))) (.t 100)⟩, ⟨none, some 102, .bin .xor (.t 98) (.t 101)⟩, ⟨none, some 103, .idxS 1 (.t 87) (.t 91)⟩, ⟨none, none, .store 1 (.t 103) (.t 102)⟩] [] []) (.reg [⟨none, some 13, .copy (.c (.lit (.bool true)))⟩] [] []))) .skip))) (.reg [⟨none, some 76, .copy (.t 14)⟩, ⟨none, some 77, .bin .add (.t 76) (.c (.lit (.int .i64 1)))⟩, ⟨none, some 14, .copy (.t 77)⟩] [] [])))
def ir12 : IFn := ⟨(.seq (.reg [⟨none, some 3, .box 2 (.t 0)⟩, ⟨none, some 4, .box 2 (.t 1)⟩, ⟨none, some 6, .copy (.c (.lit (.bool false)))⟩] [] []) (.seq (.seq (.reg [⟨none, some 22, .fieldA 1 (.t 3)⟩, ⟨none, some 23, .load false 1 (.t 22)⟩, ⟨none, some 24, .len (.t 23)⟩, ⟨none, some 25, .bin .gtr (.t 24) (.c (.lit (.int .i64 300)))⟩] [] []) (.cond (.t 25) (.seq (.reg [⟨none, some 26, .call 15 []⟩, ⟨none, some 6, .copy (.t 26)⟩] [] []) .ret) .skip)) (.seq (.reg [⟨none, some 28, .load true 2 (.t 3)⟩, ⟨none, some 29, .call 16 [(.t 28)]⟩, ⟨none, some 27, .copy (.t 29)⟩, ⟨none, some 30, .extract (.t 27) 0⟩, ⟨none, some 31, .extract (.t 27) 1⟩, ⟨none, some 7, .copy (.t 30)⟩, ⟨none, some 8, .copy (.t 31)⟩] [] []) (.seq (.seq (.reg [⟨none, some 32, .copy (.t 8)⟩, ⟨none, some 33, .bin .neq (.t 32) (.c (.lit (.int .i64 0)))⟩] [] []) (.cond (.t 33) (.seq (.reg [⟨none, some 34, .copy (.t 7)⟩, ⟨none, some 35, .len (.t 34)⟩, ⟨none, some 36, .bin .eql (.t 35) (.c (.lit (.int .i64 0)))⟩, ⟨none, some 37, .copy (.t 36)⟩, ⟨some (37, true), some 38, .call 15 []⟩, ⟨none, some 39, .pick (.t 37) (.t 38) (.c (.lit (.bool false)))⟩, ⟨none, some 6, .copy (.t 39)⟩] [] []) .ret) .skip)) (.seq (.reg [⟨none, some 9, .copy (.c (.lit (.int .i64 1)))⟩] [] []) (.seq (.seq (.reg [⟨none, some 40, .copy (.t 7)⟩, ⟨none, some 41, .len (.t 40)⟩, ⟨none, some 42, .bin .gtr (.t 41) (.c (.lit (.int .i64 0)))⟩, ⟨none, some 43, .copy (.t 42)⟩, ⟨some (43, true), some 44, .copy (.t 7)⟩, ⟨some (43, true), some 45, .idxS 1 (.t 44) (.c (.lit (.int .i64 0)))⟩, ⟨some (43, true), some 46, .load false 1 (.t 45)⟩, ⟨some (43, true), some 47, .bin .gtr (.t 46) (.c (.lit (.int .u8 127)))⟩, ⟨none, some 48, .pick (.t 43) (.t 47) (.c (.lit (.bool false)))⟩] [] []) (.cond (.t 48) (.reg [⟨none, some 9, .copy (.c (.lit (.int .i64 2)))⟩] [] []) .skip)) (.seq (.reg [⟨none, some 49, .copy (.t 7)⟩, ⟨none, some 50, .len (.t 49)⟩, ⟨none, some 51, .copy (.t 9)⟩, ⟨none, some 52, .bin .sub (.t 50) (.t 51)⟩, ⟨none, some 53, .bin .mul (.c (.lit (.int .i64 8))) (.t 52)⟩, ⟨none, some 10, .copy (.t 53)⟩] [] []) (.seq (.seq (.reg [⟨none, some 54, .copy (.t 10)⟩, ⟨none, some 55, .bin .lss (.t 54) (.c (.lit (.int .i64 8)))⟩] [] []) (.cond (.t 55) (.seq (.reg [⟨none, some 6, .copy (.c (.lit (.bool false)))⟩] [] []) .ret) .skip)) (.seq (.reg [⟨none, some 56, .idxA 2 1 (.t 4) (.c (.lit (.int .i64 0)))⟩, ⟨none, some 57, .load false 1 (.t 56)⟩, ⟨none, some 58, .copy (.t 10)⟩, ⟨none, some 59, .bin .rem (.t 57) (.t 58)⟩, ⟨none, some 60, .copy (.t 10)⟩, ⟨none, some 61, .bin .add (.t 59) (.t 60)⟩, ⟨none, some 62, .copy (.t 10)⟩, ⟨none, some 63, .bin .rem (.t 61) (.t 62)⟩, ⟨none, some 11, .copy (.t 63)⟩] [] []) (.seq (.reg [⟨none, some 64, .mkSlice true 1 [(.lit (.int .u8 0))] 0 []⟩, ⟨none, some 65, .copy (.t 7)⟩, ⟨none, some 66, .append true 1 1 (.t 64) (.t 65)⟩, ⟨none, some 12, .copy (.t 66)⟩] [] []) (.seq (.reg [⟨none, some 13, .copy (.c (.lit (.bool false)))⟩] [] []) (.seq (.seq (.reg [⟨none, some 14, .copy (.c (.lit (.int .i64 0)))⟩] [] []) (.block 0 (.loop [2, 4, 7, 9, 10, 11, 12, 13, 14] L12_0))) (.seq (.reg [⟨none, some 105, .copy (.t 12)⟩, ⟨none, some 106, .call 38 [(.t 105)]⟩, ⟨none, some 104, .copy (.t 106)⟩, ⟨none, some 107, .extract (.t 104) 0⟩, ⟨none, some 108, .extract (.t 104) 1⟩, ⟨none, some 109, .extract (.t 104) 2⟩, ⟨none, some 16, .alloc [(.lit (.int .i64 0)), nilS]⟩, ⟨none, none, .store 2 (.t 16) (.t 107)⟩, ⟨none, some 17, .copy (.t 108)⟩, ⟨none, some 18, .copy (.t 109)⟩] [] []) (.seq (.seq (.reg [⟨none, some 110, .copy (.t 13)⟩, ⟨none, some 111, .copy (.t 18)⟩, ⟨none, some 112, .bin .eql (.t 111) (.c (.lit (.int .i64 18)))⟩, ⟨none, some 113, .eqB true (.t 110) (.t 112)⟩, ⟨none, some 114, .copy (.t 113)⟩, ⟨some (114, false), some 115, .copy (.t 13)⟩, ⟨some (114, false), some 116, .copy (.t 115)⟩, ⟨some (116, true), some 117, .copy (.t 17)⟩, ⟨some (116, true), some 118, .bin .neq (.t 117) (.c (.lit (.int .i64 0)))⟩, ⟨some (114, false), some 119, .pick (.t 116) (.t 118) (.c (.lit (.bool false)))⟩, ⟨none, some 120, .pick (.t 114) (.c (.lit (.bool true))) (.t 119)⟩, ⟨none, some 121, .copy (.t 120)⟩, ⟨some (121, false), some 122, .copy (.t 13)⟩, ⟨some (121, false), some 123, .un .not (.t 122)⟩, ⟨some (121, false), some 124, .copy (.t 123)⟩, ⟨some (124, true), some 125, .copy (.t 18)⟩, ⟨some (124, true), some 126, .bin .neq (.t 125) (.c (.lit (.int .i64 0)))⟩, ⟨some (121, false), some 127, .pick (.t 124) (.t 126) (.c (.lit (.bool false)))⟩, ⟨none, some 128, .pick (.t 121) (.c (.lit (.bool true))) (.t 127)⟩] [] []) (.cond (.t 128) (.seq (.reg [⟨none, some 6, .copy (.c (.lit (.bool false)))⟩] [] []) .ret) .skip)) (.seq (.seq (.reg [⟨none, some 129, .copy (.t 2)⟩, ⟨none, some 130, .bin .lss (.t 129) (.c (.lit (.int .i64 1)))⟩, ⟨none, some 131, .copy (.t 130)⟩, ⟨some (131, false), some 132, .copy (.t 2)⟩, ⟨some (131, false), some 133, .copy (.t 7)⟩, ⟨some (131, false), some 134, .len (.t 133)⟩, ⟨some (131, false), some 135, .bin .gtr (.t 132) (.t 134)⟩, ⟨none, some 136, .pick (.t 131) (.c (.lit (.bool true))) (.t 135)⟩] [] []) (.cond (.t 136) (.seq (.reg [⟨none, some 137, .call 15 []⟩, ⟨none, some 6, .copy (.t 137)⟩] [] []) .ret) .skip)) (.seq (.reg [⟨none, some 139, .copy (.t 7)⟩, ⟨none, some 140, .copy (.t 7)⟩, ⟨none, some 141, .len (.t 140)⟩, ⟨none, some 142, .copy (.t 2)⟩, ⟨none, some 143, .bin .sub (.t 141) (.t 142)⟩, ⟨none, some 144, .slice 1 (.t 139) none (some (.t 143)) none⟩, ⟨none, some 145, .call 38 [(.t 144)]⟩, ⟨none, some 138, .copy (.t 145)⟩, ⟨none, some 146, .extract (.t 138) 0⟩, ⟨none, some 147, .extract (.t 138) 1⟩, ⟨none, some 148, .extract (.t 138) 2⟩, ⟨none, some 19, .alloc [(.lit (.int .i64 0)), nilS]⟩, ⟨none, none, .store 2 (.t 19) (.t 146)⟩, ⟨none, some 20, .copy (.t 147)⟩, ⟨none, some 21, .copy (.t 148)⟩] [] []) (.seq (.reg [⟨none, some 149, .copy (.t 21)⟩, ⟨none, some 150, .bin .eql (.t 149) (.c (.lit (.int .i64 13)))⟩, ⟨none, some 151, .copy (.t 150)⟩, ⟨some (151, true), some 152, .copy (.t 20)⟩, ⟨some (151, true), some 153, .bin .eql (.t 152) (.c (.lit (.int .i64 0)))⟩, ⟨none, some 154, .pick (.t 151) (.t 153) (.c (.lit (.bool false)))⟩, ⟨none, some 155, .copy (.t 154)⟩, ⟨some (155, true), some 156, .fieldA 1 (.t 19)⟩, ⟨some (155, true), some 157, .load false 1 (.t 156)⟩, ⟨some (155, true), some 158, .len (.t 157)⟩, ⟨some (155, true), some 159, .bin .eql (.t 158) (.c (.lit (.int .i64 0)))⟩, ⟨none, some 160, .pick (.t 155) (.t 159) (.c (.lit (.bool false)))⟩, ⟨none, some 161, .copy (.t 160)⟩, ⟨some (161, true), some 162, .call 15 []⟩, ⟨none, some 163, .pick (.t 161) (.t 162) (.c (.lit (.bool false)))⟩, ⟨none, some 6, .copy (.t 163)⟩] [] []) .ret))))))))))))))))), [.tmp 6]⟩
/- magnetolaw15.awake -/
def ir15 : IFn := ⟨(.seq (.reg [⟨none, some 0, .copy (.c (.lit (.bool false)))⟩] [] []) (.seq (.reg [⟨none, some 4, .build [(.lit (.int .i64 0)), (.lit (.int .i64 0)), (.lit (.int .u32 0))] [(0, 1, (.c (.lit (.int .i64 2)))), (1, 1, (.c (.lit (.int .i64 1)))), (2, 1, (.c (.lit (.int .u32 4294967295))))]⟩, ⟨none, some 5, .build [(.lit (.int .i64 0)), (.lit (.int .i64 0)), (.lit (.int .u32 0))] [(0, 1, (.c (.lit (.int .i64 3)))), (1, 1, (.c (.lit (.int .i64 0)))), (2, 1, (.c (.lit (.int .u32 4294967294))))]⟩, ⟨none, some 6, .mkSlice true 3 [(.lit (.int .i64 0)), (.lit (.int .i64 0)), (.lit (.int .u32 0))] 2 [(0, (.t 4)), (1, (.t 5))]⟩, ⟨none, some 7, .build [(.lit (.int .i64 0)), nilS] [(1, 1, (.t 6))]⟩, ⟨none, some 8, .call 16 [(.t 7)]⟩, ⟨none, some 3, .copy (.t 8)⟩, ⟨none, some 9, .extract (.t 3) 0⟩, ⟨none, some 10, .extract (.t 3) 1⟩, ⟨none, some 1, .copy (.t 9)⟩, ⟨none, some 2, .copy (.t 10)⟩] [] []) (.seq (.reg [⟨none, some 11, .copy (.t 2)⟩, ⟨none, some 12, .bin .eql (.t 11) (.c (.lit (.int .i64 0)))⟩, ⟨none, some 13, .copy (.t 12)⟩, ⟨some (13, true), some 14, .copy (.t 1)⟩, ⟨some (13, true), some 15, .len (.t 14)⟩, ⟨some (13, true), some 16, .bin .eql (.t 15) (.c (.lit (.int .i64 11)))⟩, ⟨none, some 17, .pick (.t 13) (.t 16) (.c (.lit (.bool false)))⟩, ⟨none, some 18, .copy (.t 17)⟩, ⟨some (18, true), some 19, .copy (.t 1)⟩, ⟨some (18, true), some 20, .slice 1 (.t 19) none (some (.c (.lit (.int .i64 7)))) none⟩, ⟨some (18, true), some 21, .mkSlice true 1 [(.lit (.int .u8 0))] 7 [(0, (.c (.lit (.int .u8 6)))), (1, (.c (.lit (.int .u8 0)))), (2, (.c (.lit (.int .u8 2)))), (3, (.c (.lit (.int .u8 2)))), (4, (.c (.lit (.int .u8 0)))), (5, (.c (.lit (.int .u8 3)))), (6, (.c (.lit (.int .u8 1))))]⟩, ⟨some (18, true), some 22, .call 19 [(.t 20), (.t 21)]⟩, ⟨none, some 23, .pick (.t 18) (.t 22) (.c (.lit (.bool false)))⟩, ⟨none, some 0, .copy (.t 23)⟩] [] []) .ret))), [.tmp 0]⟩
/- block.Put -/
def L16_0 : ICode := (.seq (.reg [⟨none, some 31, .bin .lss (.t 30) (.t 29)⟩] [] []) (.seq (.cond (.t 31) .skip (.exit 0)) (.seq (.block 1 (.seq (.reg [⟨none, some 32, .idxS 3 (.t 28) (.t 30)⟩, ⟨none, some 33, .load true 3 (.t 32)⟩, ⟨none, some 9, .alloc [(.lit (.int .i64 0)), (.lit (.int .i64 0)), (.lit (.int .u32 0))]⟩, ⟨none, none, .store 3 (.t 9) (.t 33)⟩] [] []) (.seq (.reg [⟨none, some 34, .copy (.t 6)⟩, ⟨none, some 35, .fieldA 0 (.t 9)⟩, ⟨none, some 36, .load false 1 (.t 35)⟩, ⟨none, some 37, .toInt .u64 (.t 36)⟩, ⟨none, some 38, .callV (.t 34) [(.t 37)]⟩] [] []) (.seq (.reg [⟨none, some 39, .copy (.t 6)⟩, ⟨none, some 40, .fieldA 2 (.t 9)⟩, ⟨none, some 41, .load false 1 (.t 40)⟩, ⟨none, some 42, .copy (.t 7)⟩, ⟨none, some 43, .bin .xor (.t 41) (.t 42)⟩, ⟨none, some 44, .toInt .u64 (.t 43)⟩, ⟨none, some 45, .callV (.t 39) [(.t 44)]⟩] [] []) (.reg [⟨none, some 46, .fieldA 2 (.t 9)⟩, ⟨none, some 47, .load false 1 (.t 46)⟩, ⟨none, some 7, .copy (.t 47)⟩] [] []))))) (.reg [⟨none, some 48, .bin .add (.t 30) (.c (.lit (.int .i64 1)))⟩, ⟨none, some 30, .copy (.t 48)⟩] [] []))))
def ir16 : IFn := ⟨(.seq (.reg [⟨none, some 1, .box 2 (.t 0)⟩, ⟨none, some 2, .copy (.c nilS)⟩, ⟨none, some 3, .copy (.c (.lit (.int .i64 0)))⟩] [] []) (.seq (.seq (.reg [⟨none, some 10, .load true 2 (.t 1)⟩, ⟨none, some 11, .call 18 [(.t 10)]⟩, ⟨none, some 4, .copy (.t 11)⟩] [] []) (.seq (.reg [⟨none, some 12, .copy (.t 4)⟩, ⟨none, some 13, .bin .neq (.t 12) (.c (.lit (.int .i64 0)))⟩] [] []) (.cond (.t 13) (.seq (.reg [⟨none, some 14, .copy (.t 4)⟩, ⟨none, some 2, .copy (.c nilS)⟩, ⟨none, some 3, .copy (.t 14)⟩] [] []) .ret) .skip))) (.seq (.reg [⟨none, some 5, .alloc [nilS]⟩] [] []) (.seq (.reg [⟨none, some 15, .mkFunc (.func 43) [] [(.t 5)]⟩, ⟨none, some 6, .copy (.t 15)⟩] [] []) (.seq (.reg [⟨none, some 16, .copy (.t 6)⟩, ⟨none, some 17, .fieldA 0 (.t 1)⟩, ⟨none, some 18, .load false 1 (.t 17)⟩, ⟨none, some 19, .toInt .u64 (.t 18)⟩, ⟨none, some 20, .callV (.t 16) [(.t 19)]⟩] [] []) (.seq (.reg [⟨none, some 21, .copy (.t 6)⟩, ⟨none, some 22, .fieldA 1 (.t 1)⟩, ⟨none, some 23, .load false 1 (.t 22)⟩, ⟨none, some 24, .len (.t 23)⟩, ⟨none, some 25, .toInt .u64 (.t 24)⟩, ⟨none, some 26, .callV (.t 21) [(.t 25)]⟩] [] []) (.seq (.reg [⟨none, some 7, .copy (.c (.lit (.int .u32 4294967295)))⟩] [] []) (.seq (.seq (.reg [⟨none, some 27, .fieldA 1 (.t 1)⟩, ⟨none, some 28, .load false 1 (.t 27)⟩, ⟨none, some 29, .len (.t 28)⟩, ⟨none, some 30, .copy (.c (.lit (.int .i64 0)))⟩] [] []) (.block 0 (.loop [5, 6, 7, 28, 29, 30] L16_0))) (.seq (.reg [⟨none, some 49, .load false 1 (.t 5)⟩, ⟨none, some 50, .len (.t 49)⟩, ⟨none, some 51, .toInt .u64 (.t 50)⟩, ⟨none, some 52, .call 44 [(.t 51)]⟩, ⟨none, some 53, .load false 1 (.t 5)⟩, ⟨none, some 54, .append true 1 1 (.t 52) (.t 53)⟩, ⟨none, some 55, .call 45 [(.t 54)]⟩, ⟨none, some 2, .copy (.t 55)⟩, ⟨none, some 3, .copy (.c (.lit (.int .i64 0)))⟩] [(4, 3)] []) .ret))))))))), [.tmp 2, .tmp 3]⟩
/- magnetoref15.Check -/
def L17_0 : ICode := (.seq (.seq (.reg [⟨none, some 27, .copy (.t 4)⟩, ⟨none, some 28, .fieldA 1 (.t 1)⟩, ⟨none, some 29, .load false 1 (.t 28)⟩, ⟨none, some 30, .len (.t 29)⟩, ⟨none, some 31, .bin .lss (.t 27) (.t 30)⟩] [] []) (.cond (.t 31) .skip (.exit 0))) (.seq (.block 1 (.seq (.reg [⟨none, some 34, .fieldA 1 (.t 1)⟩, ⟨none, some 35, .load false 1 (.t 34)⟩, ⟨none, some 36, .copy (.t 4)⟩, ⟨none, some 37, .idxS 3 (.t 35) (.t 36)⟩, ⟨none, some 38, .fieldA 2 (.t 37)⟩, ⟨none, some 39, .load false 1 (.t 38)⟩, ⟨none, some 40, .fieldA 1 (.t 1)⟩, ⟨none, some 41, .load false 1 (.t 40)⟩, ⟨none, some 42, .copy (.t 4)⟩, ⟨none, some 43, .bin .sub (.t 42) (.c (.lit (.int .i64 1)))⟩, ⟨none, some 44, .idxS 3 (.t 41) (.t 43)⟩, ⟨none, some 45, .fieldA 2 (.t 44)⟩, ⟨none, some 46, .load false 1 (.t 45)⟩, ⟨none, some 47, .bin .eql (.t 39) (.t 46)⟩] [] []) (.cond (.t 47) (.seq (.reg [⟨none, some 2, .copy (.c (.lit (.int .i64 11)))⟩] [] []) .ret) .skip))) (.reg [⟨none, some 32, .copy (.t 4)⟩, ⟨none, some 33, .bin .add (.t 32) (.c (.lit (.int .i64 1)))⟩, ⟨none, some 4, .copy (.t 33)⟩] [] [])))
def ir17 : IFn := ⟨(.seq (.reg [⟨none, some 1, .box 2 (.t 0)⟩, ⟨none, some 2, .copy (.c (.lit (.int .i64 0)))⟩] [] []) (.seq (.seq (.reg [⟨none, some 5, .fieldA 0 (.t 1)⟩, ⟨none, some 6, .load false 1 (.t 5)⟩, ⟨none, some 7, .bin .lss (.t 6) (.c (.lit (.int .i64 0)))⟩, ⟨none, some 8, .copy (.t 7)⟩, ⟨some (8, false), some 9, .fieldA 0 (.t 1)⟩, ⟨some (8, false), some 10, .load false 1 (.t 9)⟩, ⟨some (8, false), some 11, .bin .gtr (.t 10) (.c (.lit (.int .i64 1073741824)))⟩, ⟨none, some 12, .pick (.t 8) (.c (.lit (.bool true))) (.t 11)⟩] [] []) (.cond (.t 12) (.seq (.reg [⟨none, some 2, .copy (.c (.lit (.int .i64 10)))⟩] [] []) .ret) .skip)) (.seq (.seq (.reg [⟨none, some 13, .fieldA 1 (.t 1)⟩, ⟨none, some 14, .load false 1 (.t 13)⟩, ⟨none, some 15, .len (.t 14)⟩, ⟨none, some 16, .bin .eql (.t 15) (.c (.lit (.int .i64 0)))⟩] [] []) (.cond (.t 16) (.seq (.reg [⟨none, some 2, .copy (.c (.lit (.int .i64 16)))⟩] [] []) .ret) .skip)) (.seq (.seq (.reg [⟨none, some 17, .fieldA 1 (.t 1)⟩, ⟨none, some 18, .load false 1 (.t 17)⟩, ⟨none, some 19, .len (.t 18)⟩, ⟨none, some 20, .bin .gtr (.t 19) (.c (.lit (.int .i64 4096)))⟩] [] []) (.cond (.t 20) (.seq (.reg [⟨none, some 2, .copy (.c (.lit (.int .i64 12)))⟩] [] []) .ret) .skip)) (.seq (.reg [⟨none, some 21, .fieldA 1 (.t 1)⟩, ⟨none, some 22, .load false 1 (.t 21)⟩, ⟨none, some 23, .call 25 [(.t 22)]⟩, ⟨none, some 3, .copy (.t 23)⟩] [] []) (.seq (.seq (.reg [⟨none, some 24, .copy (.t 3)⟩, ⟨none, some 25, .bin .neq (.t 24) (.c (.lit (.int .i64 0)))⟩] [] []) (.cond (.t 25) (.seq (.reg [⟨none, some 26, .copy (.t 3)⟩, ⟨none, some 2, .copy (.t 26)⟩] [] []) .ret) .skip)) (.seq (.seq (.reg [⟨none, some 4, .copy (.c (.lit (.int .i64 1)))⟩] [] []) (.block 0 (.loop [1, 4] L17_0))) (.seq (.seq (.reg [⟨none, some 48, .fieldA 1 (.t 1)⟩, ⟨none, some 49, .load false 1 (.t 48)⟩, ⟨none, some 50, .call 26 [(.t 49)]⟩, ⟨none, some 51, .fieldA 0 (.t 1)⟩, ⟨none, some 52, .load false 1 (.t 51)⟩, ⟨none, some 53, .bin .sub (.c (.lit (.int .i64 1073741824))) (.t 52)⟩, ⟨none, some 54, .bin .gtr (.t 50) (.t 53)⟩] [(4, 2)] []) (.cond (.t 54) (.seq (.reg [⟨none, some 2, .copy (.c (.lit (.int .i64 12)))⟩] [] []) .ret) .skip)) (.seq (.reg [⟨none, some 2, .copy (.c (.lit (.int .i64 0)))⟩] [] []) .ret))))))))), [.tmp 2]⟩
/- block.Check -/
def L18_0 : ICode := (.seq (.reg [⟨none, some 39, .bin .lss (.t 38) (.t 37)⟩] [] []) (.seq (.cond (.t 39) .skip (.exit 1)) (.seq (.block 2 (.seq (.reg [⟨none, some 40, .copy (.t 38)⟩, ⟨none, some 5, .copy (.t 40)⟩] [] []) (.seq (.reg [⟨none, some 41, .fieldA 1 (.t 1)⟩, ⟨none, some 42, .load false 1 (.t 41)⟩, ⟨none, some 43, .copy (.t 5)⟩, ⟨none, some 44, .idxS 3 (.t 42) (.t 43)⟩, ⟨none, some 45, .fieldA 2 (.t 44)⟩, ⟨none, some 46, .load false 1 (.t 45)⟩, ⟨none, some 47, .fieldA 1 (.t 1)⟩, ⟨none, some 48, .load false 1 (.t 47)⟩, ⟨none, some 49, .copy (.t 5)⟩, ⟨none, some 50, .bin .add (.t 49) (.c (.lit (.int .i64 1)))⟩, ⟨none, some 51, .idxS 3 (.t 48) (.t 50)⟩, ⟨none, some 52, .fieldA 2 (.t 51)⟩, ⟨none, some 53, .load false 1 (.t 52)⟩, ⟨none, some 54, .bin .eql (.t 46) (.t 53)⟩] [] []) (.cond (.t 54) (.seq (.reg [⟨none, some 2, .copy (.c (.lit (.int .i64 11)))⟩] [] []) .ret) .skip)))) (.reg [⟨none, some 55, .bin .add (.t 38) (.c (.lit (.int .i64 1)))⟩, ⟨none, some 38, .copy (.t 55)⟩] [] []))))
def ir18 : IFn := ⟨(.seq (.reg [⟨none, some 1, .box 2 (.t 0)⟩, ⟨none, some 2, .copy (.c (.lit (.int .i64 0)))⟩] [] []) (.seq (.block 0 (.seq (.reg [⟨none, some 7, .fieldA 0 (.t 1)⟩, ⟨none, some 8, .load false 1 (.t 7)⟩, ⟨none, some 9, .bin .lss (.t 8) (.c (.lit (.int .i64 0)))⟩, ⟨none, some 10, .copy (.t 9)⟩, ⟨some (10, false), some 11, .fieldA 0 (.t 1)⟩, ⟨some (10, false), some 12, .load false 1 (.t 11)⟩, ⟨some (10, false), some 13, .bin .gtr (.t 12) (.c (.lit (.int .i64 1073741824)))⟩, ⟨none, some 14, .pick (.t 10) (.c (.lit (.bool true))) (.t 13)⟩, ⟨none, some 6, .copy (.t 14)⟩] [] []) (.cond (.t 6) (.seq (.reg [⟨none, some 2, .copy (.c (.lit (.int .i64 10)))⟩] [] []) .ret) (.seq (.reg [⟨none, some 16, .fieldA 1 (.t 1)⟩, ⟨none, some 17, .load false 1 (.t 16)⟩, ⟨none, some 18, .len (.t 17)⟩, ⟨none, some 19, .bin .eql (.t 18) (.c (.lit (.int .i64 0)))⟩, ⟨none, some 15, .copy (.t 19)⟩] [] []) (.cond (.t 15) (.seq (.reg [⟨none, some 2, .copy (.c (.lit (.int .i64 16)))⟩] [] []) .ret) (.seq (.reg [⟨none, some 21, .fieldA 1 (.t 1)⟩, ⟨none, some 22, .load false 1 (.t 21)⟩, ⟨none, some 23, .len (.t 22)⟩, ⟨none, some 24, .bin .gtr (.t 23) (.c (.lit (.int .i64 4096)))⟩, ⟨none, some 20, .copy (.t 24)⟩] [] []) (.cond (.t 20) (.seq (.reg [⟨none, some 2, .copy (.c (.lit (.int .i64 12)))⟩] [] []) .ret) .skip))))))) (.seq (.reg [⟨none, some 26, .fieldA 1 (.t 1)⟩, ⟨none, some 27, .load false 1 (.t 26)⟩, ⟨none, some 28, .call 23 [(.t 27)]⟩, ⟨none, some 25, .copy (.t 28)⟩, ⟨none, some 29, .extract (.t 25) 0⟩, ⟨none, some 30, .extract (.t 25) 1⟩, ⟨none, some 3, .copy (.t 29)⟩, ⟨none, some 4, .copy (.t 30)⟩] [] []) (.seq (.seq (.reg [⟨none, some 31, .copy (.t 4)⟩, ⟨none, some 32, .bin .neq (.t 31) (.c (.lit (.int .i64 0)))⟩] [] []) (.cond (.t 32) (.seq (.reg [⟨none, some 33, .copy (.t 4)⟩, ⟨none, some 2, .copy (.t 33)⟩] [] []) .ret) .skip)) (.seq (.seq (.reg [⟨none, some 34, .fieldA 1 (.t 1)⟩, ⟨none, some 35, .load false 1 (.t 34)⟩, ⟨none, some 36, .len (.t 35)⟩, ⟨none, some 37, .bin .sub (.t 36) (.c (.lit (.int .i64 1)))⟩, ⟨none, some 38, .copy (.c (.lit (.int .i64 0)))⟩] [] []) (.block 1 (.loop [1, 3, 37, 38] L18_0))) (.seq (.seq (.reg [⟨none, some 56, .fieldA 0 (.t 1)⟩, ⟨none, some 57, .load false 1 (.t 56)⟩, ⟨none, some 58, .copy (.t 3)⟩, ⟨none, some 59, .bin .add (.t 57) (.t 58)⟩, ⟨none, some 60, .bin .gtr (.t 59) (.c (.lit (.int .i64 1073741824)))⟩] [] []) (.cond (.t 60) (.seq (.reg [⟨none, some 2, .copy (.c (.lit (.int .i64 12)))⟩] [] []) .ret) .skip)) (.seq (.reg [⟨none, some 2, .copy (.c (.lit (.int .i64 0)))⟩] [] []) .ret))))))), [.tmp 2]⟩
/- magnetolaw13.Same -/
def L19_0 : ICode := (.seq (.seq (.reg [⟨none, some 11, .copy (.t 5)⟩, ⟨none, some 12, .copy (.t 0)⟩, ⟨none, some 13, .len (.t 12)⟩, ⟨none, some 14, .bin .lss (.t 11) (.t 13)⟩] [] []) (.cond (.t 14) .skip (.exit 0))) (.seq (.block 1 (.seq (.reg [⟨none, some 17, .copy (.t 0)⟩, ⟨none, some 18, .copy (.t 5)⟩, ⟨none, some 19, .idxS 1 (.t 17) (.t 18)⟩, ⟨none, some 20, .load false 1 (.t 19)⟩, ⟨none, some 21, .copy (.t 1)⟩, ⟨none, some 22, .copy (.t 5)⟩, ⟨none, some 23, .idxS 1 (.t 21) (.t 22)⟩, ⟨none, some 24, .load false 1 (.t 23)⟩, ⟨none, some 25, .bin .neq (.t 20) (.t 24)⟩] [] []) (.cond (.t 25) (.seq (.reg [⟨none, some 4, .copy (.c (.lit (.bool false)))⟩] [] []) .ret) .skip))) (.reg [⟨none, some 15, .copy (.t 5)⟩, ⟨none, some 16, .bin .add (.t 15) (.c (.lit (.int .i64 1)))⟩, ⟨none, some 5, .copy (.t 16)⟩] [] [])))
def ir19 : IFn := ⟨(.seq (.reg [⟨none, some 4, .copy (.c (.lit (.bool false)))⟩] [] []) (.seq (.seq (.reg [⟨none, some 6, .copy (.t 0)⟩, ⟨none, some 7, .len (.t 6)⟩, ⟨none, some 8, .copy (.t 1)⟩, ⟨none, some 9, .len (.t 8)⟩, ⟨none, some 10, .bin .neq (.t 7) (.t 9)⟩] [] []) (.cond (.t 10) (.seq (.reg [⟨none, some 4, .copy (.c (.lit (.bool false)))⟩] [] []) .ret) .skip)) (.seq (.seq (.reg [⟨none, some 5, .copy (.c (.lit (.int .i64 0)))⟩] [] []) (.block 0 (.loop [0, 1, 5] L19_0))) (.seq (.reg [⟨none, some 4, .copy (.c (.lit (.bool true)))⟩] [] []) .ret)))), [.tmp 4]⟩
/- magnetoref15.Put -/
def ir20 : IFn := ⟨(.seq (.reg [⟨none, some 1, .box 2 (.t 0)⟩, ⟨none, some 2, .copy (.c nilS)⟩] [] []) (.seq (.reg [⟨none, some 3, .load true 2 (.t 1)⟩, ⟨none, some 4, .call 47 [(.t 3)]⟩, ⟨none, some 5, .call 46 [(.t 4)]⟩, ⟨none, some 2, .copy (.t 5)⟩] [] []) .ret)), [.tmp 2]⟩
/- magnetolaw12.awake -/
def ir21 : IFn := ⟨(.seq (.reg [⟨none, some 0, .copy (.c (.lit (.bool false)))⟩] [] []) (.seq (.reg [⟨none, some 12, .build [(.lit (.int .i64 0)), (.lit (.int .i64 0)), (.lit (.int .u32 0))] [(0, 1, (.c (.lit (.int .i64 2)))), (1, 1, (.c (.lit (.int .i64 1)))), (2, 1, (.c (.lit (.int .u32 4294967295))))]⟩, ⟨none, some 13, .build [(.lit (.int .i64 0)), (.lit (.int .i64 0)), (.lit (.int .u32 0))] [(0, 1, (.c (.lit (.int .i64 3)))), (1, 1, (.c (.lit (.int .i64 0)))), (2, 1, (.c (.lit (.int .u32 4294967294))))]⟩, ⟨none, some 14, .mkSlice true 3 [(.lit (.int .i64 0)), (.lit (.int .i64 0)), (.lit (.int .u32 0))] 2 [(0, (.t 12)), (1, (.t 13))]⟩, ⟨none, some 1, .copy (.t 14)⟩] [] []) (.seq (.reg [⟨none, some 16, .copy (.t 1)⟩, ⟨none, some 17, .call 23 [(.t 16)]⟩, ⟨none, some 15, .copy (.t 17)⟩, ⟨none, some 18, .extract (.t 15) 0⟩, ⟨none, some 19, .extract (.t 15) 1⟩, ⟨none, some 2, .copy (.t 18)⟩, ⟨none, some 3, .copy (.t 19)⟩] [] []) (.seq (.reg [⟨none, some 21, .copy (.t 1)⟩, ⟨none, some 22, .call 33 [(.t 21)]⟩, ⟨none, some 20, .copy (.t 22)⟩, ⟨none, some 23, .extract (.t 20) 0⟩, ⟨none, some 24, .extract (.t 20) 1⟩, ⟨none, some 4, .copy (.t 23)⟩, ⟨none, some 5, .copy (.t 24)⟩] [] []) (.seq (.reg [⟨none, some 26, .copy (.t 1)⟩, ⟨none, some 27, .call 34 [(.t 26), (.c (.lit (.int .i64 0)))]⟩, ⟨none, some 25, .copy (.t 27)⟩, ⟨none, some 28, .extract (.t 25) 0⟩, ⟨none, some 29, .extract (.t 25) 1⟩, ⟨none, some 6, .copy (.t 28)⟩, ⟨none, some 7, .copy (.t 29)⟩] [] []) (.seq (.reg [⟨none, some 31, .copy (.t 1)⟩, ⟨none, some 32, .call 31 [(.t 31), (.c (.lit (.int .i64 1))), (.c (.lit (.int .i64 3)))]⟩, ⟨none, some 30, .copy (.t 32)⟩, ⟨none, some 33, .extract (.t 30) 0⟩, ⟨none, some 34, .extract (.t 30) 1⟩, ⟨none, some 8, .copy (.t 33)⟩, ⟨none, some 9, .copy (.t 34)⟩] [] []) (.seq (.reg [⟨none, some 36, .copy (.t 1)⟩, ⟨none, some 37, .call 24 [(.t 36), (.c (.lit (.int .i64 5)))]⟩, ⟨none, some 35, .copy (.t 37)⟩, ⟨none, some 38, .extract (.t 35) 0⟩, ⟨none, some 39, .extract (.t 35) 1⟩, ⟨none, some 10, .alloc [(.lit (.int .i64 0)), (.lit (.int .i64 0)), (.lit (.int .u32 0))]⟩, ⟨none, none, .store 3 (.t 10) (.t 38)⟩, ⟨none, some 11, .copy (.t 39)⟩] [] []) (.seq (.reg [⟨none, some 40, .copy (.t 2)⟩, ⟨none, some 41, .bin .eql (.t 40) (.c (.lit (.int .i64 5)))⟩, ⟨none, some 42, .copy (.t 41)⟩, ⟨some (42, true), some 43, .copy (.t 3)⟩, ⟨some (42, true), some 44, .bin .eql (.t 43) (.c (.lit (.int .i64 0)))⟩, ⟨none, some 45, .pick (.t 42) (.t 44) (.c (.lit (.bool false)))⟩, ⟨none, some 46, .copy (.t 45)⟩, ⟨some (46, true), some 47, .copy (.t 4)⟩, ⟨some (46, true), some 48, .mkSlice true 1 [(.lit (.int .i64 0))] 5 [(0, (.c (.lit (.int .i64 1)))), (1, (.c (.lit (.int .i64 1)))), (2, (.c (.lit (.int .i64 0)))), (3, (.c (.lit (.int .i64 0)))), (4, (.c (.lit (.int .i64 0))))]⟩, ⟨some (46, true), some 49, .call 36 [(.t 47), (.t 48)]⟩, ⟨none, some 50, .pick (.t 46) (.t 49) (.c (.lit (.bool false)))⟩, ⟨none, some 51, .copy (.t 50)⟩, ⟨some (51, true), some 52, .copy (.t 5)⟩, ⟨some (51, true), some 53, .bin .eql (.t 52) (.c (.lit (.int .i64 0)))⟩, ⟨none, some 54, .pick (.t 51) (.t 53) (.c (.lit (.bool false)))⟩, ⟨none, some 55, .copy (.t 54)⟩, ⟨some (55, true), some 56, .copy (.t 6)⟩, ⟨some (55, true), some 57, .copy (.t 4)⟩, ⟨some (55, true), some 58, .call 36 [(.t 56), (.t 57)]⟩, ⟨none, some 59, .pick (.t 55) (.t 58) (.c (.lit (.bool false)))⟩, ⟨none, some 60, .copy (.t 59)⟩, ⟨some (60, true), some 61, .copy (.t 7)⟩, ⟨some (60, true), some 62, .bin .eql (.t 61) (.c (.lit (.int .i64 0)))⟩, ⟨none, some 63, .pick (.t 60) (.t 62) (.c (.lit (.bool false)))⟩, ⟨none, some 64, .copy (.t 63)⟩, ⟨some (64, true), some 65, .copy (.t 8)⟩, ⟨some (64, true), some 66, .build [(.lit (.int .i64 0)), (.lit (.int .i64 0)), (.lit (.int .u32 0))] [(0, 1, (.c (.lit (.int .i64 1)))), (1, 1, (.c (.lit (.int .i64 1)))), (2, 1, (.c (.lit (.int .u32 4294967295))))]⟩, ⟨some (64, true), some 67, .build [(.lit (.int .i64 0)), (.lit (.int .i64 0)), (.lit (.int .u32 0))] [(0, 1, (.c (.lit (.int .i64 1)))), (1, 1, (.c (.lit (.int .i64 0)))), (2, 1, (.c (.lit (.int .u32 4294967294))))]⟩, ⟨some (64, true), some 68, .mkSlice true 3 [(.lit (.int .i64 0)), (.lit (.int .i64 0)), (.lit (.int .u32 0))] 2 [(0, (.t 66)), (1, (.t 67))]⟩, ⟨some (64, true), some 69, .call 28 [(.t 65), (.t 68)]⟩, ⟨none, some 70, .pick (.t 64) (.t 69) (.c (.lit (.bool false)))⟩, ⟨none, some 71, .copy (.t 70)⟩, ⟨some (71, true), some 72, .copy (.t 9)⟩, ⟨some (71, true), some 73, .bin .eql (.t 72) (.c (.lit (.int .i64 0)))⟩, ⟨none, some 74, .pick (.t 71) (.t 73) (.c (.lit (.bool false)))⟩, ⟨none, some 75, .copy (.t 74)⟩, ⟨some (75, true), some 76, .copy (.t 11)⟩, ⟨some (75, true), some 77, .bin .eql (.t 76) (.c (.lit (.int .i64 10)))⟩, ⟨none, some 78, .pick (.t 75) (.t 77) (.c (.lit (.bool false)))⟩, ⟨none, some 0, .copy (.t 78)⟩] [] []) .ret)))))))), [.tmp 0]⟩
/- tap.Check -/
def ir22 : IFn := ⟨(.seq (.reg [⟨none, some 2, .copy (.c (.lit (.int .i64 0)))⟩] [] []) (.seq (.reg [⟨none, some 6, .copy (.t 0)⟩, ⟨none, some 7, .call 23 [(.t 6)]⟩, ⟨none, some 5, .copy (.t 7)⟩, ⟨none, some 8, .extract (.t 5) 0⟩, ⟨none, some 9, .extract (.t 5) 1⟩, ⟨none, some 3, .copy (.t 8)⟩, ⟨none, some 4, .copy (.t 9)⟩] [] []) (.seq (.reg [⟨none, some 10, .copy (.t 4)⟩, ⟨none, some 2, .copy (.t 10)⟩] [] []) .ret))), [.tmp 2]⟩
/- tap.Ticks -/
def L23_0 : ICode := (.seq (.reg [⟨none, some 10, .bin .lss (.t 9) (.t 8)⟩] [] []) (.seq (.cond (.t 10) .skip (.exit 0)) (.seq (.block 1 (.seq (.reg [⟨none, some 11, .idxS 3 (.t 7) (.t 9)⟩, ⟨none, some 12, .load true 3 (.t 11)⟩, ⟨none, some 6, .alloc [(.lit (.int .i64 0)), (.lit (.int .i64 0)), (.lit (.int .u32 0))]⟩, ⟨none, none, .store 3 (.t 6) (.t 12)⟩] [] []) (.seq (.seq (.reg [⟨none, some 13, .load true 3 (.t 6)⟩, ⟨none, some 14, .call 48 [(.t 13)]⟩, ⟨none, some 15, .un .not (.t 14)⟩] [] []) (.cond (.t 15) (.seq (.reg [⟨none, some 2, .copy (.c (.lit (.int .i64 0)))⟩, ⟨none, some 3, .copy (.c (.lit (.int .i64 10)))⟩] [] []) .ret) .skip)) (.reg [⟨none, some 16, .copy (.t 4)⟩, ⟨none, some 17, .fieldA 0 (.t 6)⟩, ⟨none, some 18, .load false 1 (.t 17)⟩, ⟨none, some 19, .bin .add (.t 16) (.t 18)⟩, ⟨none, some 20, .minI (.t 19) [(.c (.lit (.int .i64 1073741825)))]⟩, ⟨none, some 4, .copy (.t 20)⟩] [] [])))) (.reg [⟨none, some 21, .bin .add (.t 9) (.c (.lit (.int .i64 1)))⟩, ⟨none, some 9, .copy (.t 21)⟩] [] []))))
def ir23 : IFn := ⟨(.seq (.reg [⟨none, some 2, .copy (.c (.lit (.int .i64 0)))⟩, ⟨none, some 3, .copy (.c (.lit (.int .i64 0)))⟩] [] []) (.seq (.reg [⟨none, some 4, .copy (.c (.lit (.int .i64 0)))⟩] [] []) (.seq (.seq (.reg [⟨none, some 7, .copy (.t 0)⟩, ⟨none, some 8, .len (.t 7)⟩, ⟨none, some 9, .copy (.c (.lit (.int .i64 0)))⟩] [] []) (.block 0 (.loop [4, 7, 8, 9] L23_0))) (.seq (.seq (.reg [⟨none, some 22, .copy (.t 4)⟩, ⟨none, some 23, .bin .gtr (.t 22) (.c (.lit (.int .i64 1073741824)))⟩] [] []) (.cond (.t 23) (.seq (.reg [⟨none, some 2, .copy (.c (.lit (.int .i64 0)))⟩, ⟨none, some 3, .copy (.c (.lit (.int .i64 12)))⟩] [] []) .ret) .skip)) (.seq (.reg [⟨none, some 24, .copy (.t 4)⟩, ⟨none, some 2, .copy (.t 24)⟩, ⟨none, some 3, .copy (.c (.lit (.int .i64 0)))⟩] [] []) .ret))))), [.tmp 2, .tmp 3]⟩
/- tap.At -/
def ir24 : IFn := ⟨(.seq (.reg [⟨none, some 4, .alloc [(.lit (.int .i64 0)), (.lit (.int .i64 0)), (.lit (.int .u32 0))]⟩, ⟨none, some 5, .copy (.c (.lit (.int .i64 0)))⟩] [] []) (.seq (.reg [⟨none, some 10, .copy (.t 0)⟩, ⟨none, some 11, .call 23 [(.t 10)]⟩, ⟨none, some 9, .copy (.t 11)⟩, ⟨none, some 12, .extract (.t 9) 0⟩, ⟨none, some 13, .extract (.t 9) 1⟩, ⟨none, some 6, .copy (.t 12)⟩, ⟨none, some 7, .copy (.t 13)⟩] [] []) (.seq (.block 0 (.seq (.reg [⟨none, some 15, .copy (.t 7)⟩, ⟨none, some 16, .bin .neq (.t 15) (.c (.lit (.int .i64 0)))⟩, ⟨none, some 14, .copy (.t 16)⟩] [] []) (.cond (.t 14) (.seq (.reg [⟨none, some 17, .build [(.lit (.int .i64 0)), (.lit (.int .i64 0)), (.lit (.int .u32 0))] []⟩, ⟨none, some 18, .copy (.t 7)⟩, ⟨none, none, .store 3 (.t 4) (.t 17)⟩, ⟨none, some 5, .copy (.t 18)⟩] [] []) .ret) (.seq (.reg [⟨none, some 20, .copy (.t 1)⟩, ⟨none, some 21, .bin .lss (.t 20) (.c (.lit (.int .i64 0)))⟩, ⟨none, some 22, .copy (.t 21)⟩, ⟨some (22, false), some 23, .copy (.t 1)⟩, ⟨some (22, false), some 24, .copy (.t 6)⟩, ⟨some (22, false), some 25, .bin .geq (.t 23) (.t 24)⟩, ⟨none, some 26, .pick (.t 22) (.c (.lit (.bool true))) (.t 25)⟩, ⟨none, some 19, .copy (.t 26)⟩] [] []) (.cond (.t 19) (.seq (.reg [⟨none, some 27, .build [(.lit (.int .i64 0)), (.lit (.int .i64 0)), (.lit (.int .u32 0))] []⟩, ⟨none, none, .store 3 (.t 4) (.t 27)⟩, ⟨none, some 5, .copy (.c (.lit (.int .i64 10)))⟩] [] []) .ret) .skip))))) (.seq (.reg [⟨none, some 28, .copy (.t 0)⟩, ⟨none, some 29, .copy (.t 1)⟩, ⟨none, some 30, .copy (.t 1)⟩, ⟨none, some 31, .bin .add (.t 30) (.c (.lit (.int .i64 1)))⟩, ⟨none, some 32, .call 49 [(.t 28), (.t 29), (.t 31)]⟩, ⟨none, some 8, .copy (.t 32)⟩] [] []) (.seq (.reg [⟨none, some 33, .copy (.t 8)⟩, ⟨none, some 34, .idxS 3 (.t 33) (.c (.lit (.int .i64 0)))⟩, ⟨none, some 35, .load true 3 (.t 34)⟩, ⟨none, none, .store 3 (.t 4) (.t 35)⟩, ⟨none, some 5, .copy (.c (.lit (.int .i64 0)))⟩] [] []) .ret))))), [.cell 4 true 3, .tmp 5]⟩
/- magnetoref12.Check -/
def L25_0 : ICode := (.seq (.seq (.reg [⟨none, some 6, .copy (.t 3)⟩, ⟨none, some 7, .copy (.t 0)⟩, ⟨none, some 8, .len (.t 7)⟩, ⟨none, some 9, .bin .lss (.t 6) (.t 8)⟩] [] []) (.cond (.t 9) .skip (.exit 0))) (.seq (.block 1 (.seq (.reg [⟨none, some 12, .copy (.t 0)⟩, ⟨none, some 13, .copy (.t 3)⟩, ⟨none, some 14, .idxS 3 (.t 12) (.t 13)⟩, ⟨none, some 15, .load true 3 (.t 14)⟩, ⟨none, some 16, .call 50 [(.t 15)]⟩, ⟨none, some 17, .un .not (.t 16)⟩] [] []) (.cond (.t 17) (.seq (.reg [⟨none, some 2, .copy (.c (.lit (.int .i64 10)))⟩] [] []) .ret) .skip))) (.reg [⟨none, some 10, .copy (.t 3)⟩, ⟨none, some 11, .bin .add (.t 10) (.c (.lit (.int .i64 1)))⟩, ⟨none, some 3, .copy (.t 11)⟩] [] [])))
def L25_1 : ICode := (.seq (.seq (.reg [⟨none, some 18, .copy (.t 5)⟩, ⟨none, some 19, .copy (.t 0)⟩, ⟨none, some 20, .len (.t 19)⟩, ⟨none, some 21, .bin .lss (.t 18) (.t 20)⟩] [] []) (.cond (.t 21) .skip (.exit 2))) (.seq (.block 3 (.seq (.seq (.reg [⟨none, some 24, .copy (.t 0)⟩, ⟨none, some 25, .copy (.t 5)⟩, ⟨none, some 26, .idxS 3 (.t 24) (.t 25)⟩, ⟨none, some 27, .fieldA 0 (.t 26)⟩, ⟨none, some 28, .load false 1 (.t 27)⟩, ⟨none, some 29, .copy (.t 4)⟩, ⟨none, some 30, .bin .gtr (.t 28) (.t 29)⟩] [] []) (.cond (.t 30) (.seq (.reg [⟨none, some 2, .copy (.c (.lit (.int .i64 12)))⟩] [] []) .ret) .skip)) (.reg [⟨none, some 31, .copy (.t 4)⟩, ⟨none, some 32, .copy (.t 0)⟩, ⟨none, some 33, .copy (.t 5)⟩, ⟨none, some 34, .idxS 3 (.t 32) (.t 33)⟩, ⟨none, some 35, .fieldA 0 (.t 34)⟩, ⟨none, some 36, .load false 1 (.t 35)⟩, ⟨none, some 37, .bin .sub (.t 31) (.t 36)⟩, ⟨none, some 4, .copy (.t 37)⟩] [] []))) (.reg [⟨none, some 22, .copy (.t 5)⟩, ⟨none, some 23, .bin .add (.t 22) (.c (.lit (.int .i64 1)))⟩, ⟨none, some 5, .copy (.t 23)⟩] [] [])))
def ir25 : IFn := ⟨(.seq (.reg [⟨none, some 2, .copy (.c (.lit (.int .i64 0)))⟩] [] []) (.seq (.seq (.reg [⟨none, some 3, .copy (.c (.lit (.int .i64 0)))⟩] [] []) (.block 0 (.loop [0, 3] L25_0))) (.seq (.reg [⟨none, some 4, .copy (.c (.lit (.int .i64 1073741824)))⟩] [] []) (.seq (.seq (.reg [⟨none, some 5, .copy (.c (.lit (.int .i64 0)))⟩] [] []) (.block 2 (.loop [0, 4, 5] L25_1))) (.seq (.reg [⟨none, some 2, .copy (.c (.lit (.int .i64 0)))⟩] [] []) .ret))))), [.tmp 2]⟩
/- magnetoref12.Count -/
def L26_0 : ICode := (.seq (.seq (.reg [⟨none, some 5, .copy (.t 4)⟩, ⟨none, some 6, .copy (.t 0)⟩, ⟨none, some 7, .len (.t 6)⟩, ⟨none, some 8, .bin .lss (.t 5) (.t 7)⟩] [] []) (.cond (.t 8) .skip (.exit 0))) (.seq (.block 1 (.reg [⟨none, some 11, .copy (.t 3)⟩, ⟨none, some 12, .copy (.t 0)⟩, ⟨none, some 13, .copy (.t 4)⟩, ⟨none, some 14, .idxS 3 (.t 12) (.t 13)⟩, ⟨none, some 15, .fieldA 0 (.t 14)⟩, ⟨none, some 16, .load false 1 (.t 15)⟩, ⟨none, some 17, .bin .add (.t 11) (.t 16)⟩, ⟨none, some 3, .copy (.t 17)⟩] [] [])) (.reg [⟨none, some 9, .copy (.t 4)⟩, ⟨none, some 10, .bin .add (.t 9) (.c (.lit (.int .i64 1)))⟩, ⟨none, some 4, .copy (.t 10)⟩] [] [])))
def ir26 : IFn := ⟨(.seq (.reg [⟨none, some 2, .copy (.c (.lit (.int .i64 0)))⟩] [] []) (.seq (.reg [⟨none, some 3, .copy (.c (.lit (.int .i64 0)))⟩] [] []) (.seq (.seq (.reg [⟨none, some 4, .copy (.c (.lit (.int .i64 0)))⟩] [] []) (.block 0 (.loop [0, 3, 4] L26_0))) (.seq (.reg [⟨none, some 18, .copy (.t 3)⟩, ⟨none, some 2, .copy (.t 18)⟩] [] []) .ret)))), [.tmp 2]⟩
/- magnetolaw12.Few -/
def L27_0 : ICode := (.seq (.seq (.reg [⟨none, some 5, .copy (.t 4)⟩, ⟨none, some 6, .copy (.t 0)⟩, ⟨none, some 7, .len (.t 6)⟩, ⟨none, some 8, .bin .lss (.t 5) (.t 7)⟩, ⟨none, some 9, .copy (.t 8)⟩, ⟨some (9, true), some 10, .copy (.t 4)⟩, ⟨some (9, true), some 11, .bin .lss (.t 10) (.c (.lit (.int .i64 61)))⟩, ⟨none, some 12, .pick (.t 9) (.t 11) (.c (.lit (.bool false)))⟩] [] []) (.cond (.t 12) .skip (.exit 0))) (.seq (.block 1 (.seq (.seq (.reg [⟨none, some 15, .copy (.t 0)⟩, ⟨none, some 16, .copy (.t 4)⟩, ⟨none, some 17, .idxS 3 (.t 15) (.t 16)⟩, ⟨none, some 18, .fieldA 0 (.t 17)⟩, ⟨none, some 19, .load false 1 (.t 18)⟩, ⟨none, some 20, .copy (.t 3)⟩, ⟨none, some 21, .bin .gtr (.t 19) (.t 20)⟩] [] []) (.cond (.t 21) (.seq (.reg [⟨none, some 2, .copy (.c (.lit (.bool false)))⟩] [] []) .ret) .skip)) (.seq (.reg [⟨none, some 22, .copy (.t 0)⟩, ⟨none, some 23, .copy (.t 4)⟩, ⟨none, some 24, .idxS 3 (.t 22) (.t 23)⟩, ⟨none, some 25, .fieldA 0 (.t 24)⟩, ⟨none, some 26, .load false 1 (.t 25)⟩, ⟨none, some 27, .bin .gtr (.t 26) (.c (.lit (.int .i64 0)))⟩] [] []) (.cond (.t 27) (.reg [⟨none, some 28, .copy (.t 3)⟩, ⟨none, some 29, .copy (.t 0)⟩, ⟨none, some 30, .copy (.t 4)⟩, ⟨none, some 31, .idxS 3 (.t 29) (.t 30)⟩, ⟨none, some 32, .fieldA 0 (.t 31)⟩, ⟨none, some 33, .load false 1 (.t 32)⟩, ⟨none, some 34, .bin .sub (.t 28) (.t 33)⟩, ⟨none, some 3, .copy (.t 34)⟩] [] []) .skip)))) (.reg [⟨none, some 13, .copy (.t 4)⟩, ⟨none, some 14, .bin .add (.t 13) (.c (.lit (.int .i64 1)))⟩, ⟨none, some 4, .copy (.t 14)⟩] [] [])))
def ir27 : IFn := ⟨(.seq (.reg [⟨none, some 2, .copy (.c (.lit (.bool false)))⟩] [] []) (.seq (.reg [⟨none, some 3, .copy (.c (.lit (.int .i64 3000)))⟩] [] []) (.seq (.seq (.reg [⟨none, some 4, .copy (.c (.lit (.int .i64 0)))⟩] [] []) (.block 0 (.loop [0, 3, 4] L27_0))) (.seq (.reg [⟨none, some 35, .copy (.t 0)⟩, ⟨none, some 36, .len (.t 35)⟩, ⟨none, some 37, .bin .leq (.t 36) (.c (.lit (.int .i64 60)))⟩, ⟨none, some 2, .copy (.t 37)⟩] [] []) .ret)))), [.tmp 2]⟩
/- magnetoref12.Same -/
def L28_0 : ICode := (.seq (.seq (.reg [⟨none, some 11, .copy (.t 5)⟩, ⟨none, some 12, .copy (.t 0)⟩, ⟨none, some 13, .len (.t 12)⟩, ⟨none, some 14, .bin .lss (.t 11) (.t 13)⟩] [] []) (.cond (.t 14) .skip (.exit 0))) (.seq (.block 1 (.seq (.reg [⟨none, some 17, .copy (.t 0)⟩, ⟨none, some 18, .copy (.t 5)⟩, ⟨none, some 19, .idxS 3 (.t 17) (.t 18)⟩, ⟨none, some 20, .load true 3 (.t 19)⟩, ⟨none, some 21, .copy (.t 1)⟩, ⟨none, some 22, .copy (.t 5)⟩, ⟨none, some 23, .idxS 3 (.t 21) (.t 22)⟩, ⟨none, some 24, .load true 3 (.t 23)⟩, ⟨none, some 25, .eqA true [(0, .i), (1, .i), (2, .i)] (.t 20) (.t 24)⟩] [] []) (.cond (.t 25) (.seq (.reg [⟨none, some 4, .copy (.c (.lit (.bool false)))⟩] [] []) .ret) .skip))) (.reg [⟨none, some 15, .copy (.t 5)⟩, ⟨none, some 16, .bin .add (.t 15) (.c (.lit (.int .i64 1)))⟩, ⟨none, some 5, .copy (.t 16)⟩] [] [])))
def ir28 : IFn := ⟨(.seq (.reg [⟨none, some 4, .copy (.c (.lit (.bool false)))⟩] [] []) (.seq (.seq (.reg [⟨none, some 6, .copy (.t 0)⟩, ⟨none, some 7, .len (.t 6)⟩, ⟨none, some 8, .copy (.t 1)⟩, ⟨none, some 9, .len (.t 8)⟩, ⟨none, some 10, .bin .neq (.t 7) (.t 9)⟩] [] []) (.cond (.t 10) (.seq (.reg [⟨none, some 4, .copy (.c (.lit (.bool false)))⟩] [] []) .ret) .skip)) (.seq (.seq (.reg [⟨none, some 5, .copy (.c (.lit (.int .i64 0)))⟩] [] []) (.block 0 (.loop [0, 1, 5] L28_0))) (.seq (.reg [⟨none, some 4, .copy (.c (.lit (.bool true)))⟩] [] []) .ret)))), [.tmp 4]⟩
/- tap.Join -/
def L29_0 : ICode := (.seq (.reg [⟨none, some 11, .bin .lss (.t 10) (.t 9)⟩] [] []) (.seq (.cond (.t 11) .skip (.exit 0)) (.seq (.block 1 (.seq (.reg [⟨none, some 12, .idxS 3 (.t 8) (.t 10)⟩, ⟨none, some 13, .load true 3 (.t 12)⟩, ⟨none, some 6, .alloc [(.lit (.int .i64 0)), (.lit (.int .i64 0)), (.lit (.int .u32 0))]⟩, ⟨none, none, .store 3 (.t 6) (.t 13)⟩] [] []) (.seq (.block 2 (.seq (.reg [⟨none, some 15, .fieldA 0 (.t 6)⟩, ⟨none, some 16, .load false 1 (.t 15)⟩, ⟨none, some 17, .bin .lss (.t 16) (.c (.lit (.int .i64 1)))⟩, ⟨none, some 14, .copy (.t 17)⟩] [] []) (.cond (.t 14) (.exit 1) (.seq (.reg [⟨none, some 19, .fieldA 0 (.t 6)⟩, ⟨none, some 20, .load false 1 (.t 19)⟩, ⟨none, some 21, .copy (.t 4)⟩, ⟨none, some 22, .bin .sub (.c (.lit (.int .i64 4611686018427387904))) (.t 21)⟩, ⟨none, some 23, .bin .gtr (.t 20) (.t 22)⟩, ⟨none, some 18, .copy (.t 23)⟩] [] []) (.cond (.t 18) (.seq (.reg [⟨none, some 2, .copy (.c nilS)⟩] [] []) .ret) .skip))))) (.seq (.reg [⟨none, some 24, .copy (.t 4)⟩, ⟨none, some 25, .fieldA 0 (.t 6)⟩, ⟨none, some 26, .load false 1 (.t 25)⟩, ⟨none, some 27, .bin .add (.t 24) (.t 26)⟩, ⟨none, some 4, .copy (.t 27)⟩] [] []) (.seq (.seq (.reg [⟨none, some 28, .copy (.t 3)⟩, ⟨none, some 29, .len (.t 28)⟩, ⟨none, some 30, .bin .sub (.t 29) (.c (.lit (.int .i64 1)))⟩, ⟨none, some 7, .copy (.t 30)⟩] [] []) (.seq (.reg [⟨none, some 31, .copy (.t 7)⟩, ⟨none, some 32, .bin .geq (.t 31) (.c (.lit (.int .i64 0)))⟩, ⟨none, some 33, .copy (.t 32)⟩, ⟨some (33, true), some 34, .copy (.t 3)⟩, ⟨some (33, true), some 35, .copy (.t 7)⟩, ⟨some (33, true), some 36, .idxS 3 (.t 34) (.t 35)⟩, ⟨some (33, true), some 37, .load true 3 (.t 36)⟩, ⟨some (33, true), some 38, .load true 3 (.t 6)⟩, ⟨some (33, true), some 39, .call 51 [(.t 37), (.t 38)]⟩, ⟨none, some 40, .pick (.t 33) (.t 39) (.c (.lit (.bool false)))⟩] [] []) (.cond (.t 40) (.seq (.reg [⟨none, some 41, .copy (.t 3)⟩, ⟨none, some 42, .copy (.t 7)⟩, ⟨none, some 43, .idxS 3 (.t 41) (.t 42)⟩, ⟨none, some 44, .fieldA 0 (.t 43)⟩, ⟨none, some 45, .load false 1 (.t 44)⟩, ⟨none, some 46, .fieldA 0 (.t 6)⟩, ⟨none, some 47, .load false 1 (.t 46)⟩, ⟨none, some 48, .bin .add (.t 45) (.t 47)⟩, ⟨none, some 49, .idxS 3 (.t 41) (.t 42)⟩, ⟨none, some 50, .fieldA 0 (.t 49)⟩, ⟨none, none, .store 1 (.t 50) (.t 48)⟩] [] []) (.exit 1)) .skip))) (.reg [⟨none, some 51, .copy (.t 3)⟩, ⟨none, some 52, .load true 3 (.t 6)⟩, ⟨none, some 53, .mkSlice true 3 [(.lit (.int .i64 0)), (.lit (.int .i64 0)), (.lit (.int .u32 0))] 1 [(0, (.t 52))]⟩, ⟨none, some 54, .append true 3 24 (.t 51) (.t 53)⟩, ⟨none, some 3, .copy (.t 54)⟩] [] [])))))) (.reg [⟨none, some 55, .bin .add (.t 10) (.c (.lit (.int .i64 1)))⟩, ⟨none, some 10, .copy (.t 55)⟩] [] []))))
def ir29 : IFn := ⟨(.seq (.reg [⟨none, some 2, .copy (.c nilS)⟩] [] []) (.seq (.reg [⟨none, some 3, .copy (.c nilS)⟩] [] []) (.seq (.reg [⟨none, some 4, .copy (.c (.lit (.int .i64 0)))⟩] [] []) (.seq (.seq (.reg [⟨none, some 8, .copy (.t 0)⟩, ⟨none, some 9, .len (.t 8)⟩, ⟨none, some 10, .copy (.c (.lit (.int .i64 0)))⟩] [] []) (.block 0 (.loop [3, 4, 8, 9, 10] L29_0))) (.seq (.reg [⟨none, some 56, .copy (.t 3)⟩, ⟨none, some 2, .copy (.t 56)⟩] [] []) .ret))))), [.tmp 2]⟩
/- magnetoref12.Join -/
def L30_0 : ICode := (.seq (.seq (.reg [⟨none, some 7, .copy (.t 4)⟩, ⟨none, some 8, .copy (.t 0)⟩, ⟨none, some 9, .len (.t 8)⟩, ⟨none, some 10, .bin .lss (.t 7) (.t 9)⟩] [] []) (.cond (.t 10) .skip (.exit 0))) (.seq (.block 1 (.seq (.seq (.reg [⟨none, some 13, .copy (.t 0)⟩, ⟨none, some 14, .copy (.t 4)⟩, ⟨none, some 15, .idxS 3 (.t 13) (.t 14)⟩, ⟨none, some 16, .fieldA 0 (.t 15)⟩, ⟨none, some 17, .load false 1 (.t 16)⟩, ⟨none, some 18, .bin .lss (.t 17) (.c (.lit (.int .i64 1)))⟩] [] []) (.cond (.t 18) (.exit 1) .skip)) (.seq (.reg [⟨none, some 19, .copy (.t 3)⟩, ⟨none, some 20, .len (.t 19)⟩, ⟨none, some 5, .copy (.t 20)⟩] [] []) (.seq (.reg [⟨none, some 21, .copy (.t 5)⟩, ⟨none, some 22, .bin .gtr (.t 21) (.c (.lit (.int .i64 0)))⟩, ⟨none, some 23, .copy (.t 22)⟩, ⟨some (23, true), some 24, .copy (.t 3)⟩, ⟨some (23, true), some 25, .copy (.t 5)⟩, ⟨some (23, true), some 26, .bin .sub (.t 25) (.c (.lit (.int .i64 1)))⟩, ⟨some (23, true), some 27, .idxS 3 (.t 24) (.t 26)⟩, ⟨some (23, true), some 28, .fieldA 1 (.t 27)⟩, ⟨some (23, true), some 29, .load false 1 (.t 28)⟩, ⟨some (23, true), some 30, .copy (.t 0)⟩, ⟨some (23, true), some 31, .copy (.t 4)⟩, ⟨some (23, true), some 32, .idxS 3 (.t 30) (.t 31)⟩, ⟨some (23, true), some 33, .fieldA 1 (.t 32)⟩, ⟨some (23, true), some 34, .load false 1 (.t 33)⟩, ⟨some (23, true), some 35, .bin .eql (.t 29) (.t 34)⟩, ⟨none, some 36, .pick (.t 23) (.t 35) (.c (.lit (.bool false)))⟩, ⟨none, some 37, .copy (.t 36)⟩, ⟨some (37, true), some 38, .copy (.t 3)⟩, ⟨some (37, true), some 39, .copy (.t 5)⟩, ⟨some (37, true), some 40, .bin .sub (.t 39) (.c (.lit (.int .i64 1)))⟩, ⟨some (37, true), some 41, .idxS 3 (.t 38) (.t 40)⟩, ⟨some (37, true), some 42, .fieldA 2 (.t 41)⟩, ⟨some (37, true), some 43, .load false 1 (.t 42)⟩, ⟨some (37, true), some 44, .copy (.t 0)⟩, ⟨some (37, true), some 45, .copy (.t 4)⟩, ⟨some (37, true), some 46, .idxS 3 (.t 44) (.t 45)⟩, ⟨some (37, true), some 47, .fieldA 2 (.t 46)⟩, ⟨some (37, true), some 48, .load false 1 (.t 47)⟩, ⟨some (37, true), some 49, .bin .eql (.t 43) (.t 48)⟩, ⟨none, some 50, .pick (.t 37) (.t 49) (.c (.lit (.bool false)))⟩] [] []) (.cond (.t 50) (.reg [⟨none, some 51, .copy (.t 3)⟩, ⟨none, some 52, .copy (.t 5)⟩, ⟨none, some 53, .bin .sub (.t 52) (.c (.lit (.int .i64 1)))⟩, ⟨none, some 54, .copy (.t 3)⟩, ⟨none, some 55, .copy (.t 5)⟩, ⟨none, some 56, .bin .sub (.t 55) (.c (.lit (.int .i64 1)))⟩, ⟨none, some 57, .idxS 3 (.t 54) (.t 56)⟩, ⟨none, some 58, .fieldA 0 (.t 57)⟩, ⟨none, some 59, .load false 1 (.t 58)⟩, ⟨none, some 60, .copy (.t 0)⟩, ⟨none, some 61, .copy (.t 4)⟩, ⟨none, some 62, .idxS 3 (.t 60) (.t 61)⟩, ⟨none, some 63, .fieldA 0 (.t 62)⟩, ⟨none, some 64, .load false 1 (.t 63)⟩, ⟨none, some 65, .bin .add (.t 59) (.t 64)⟩, ⟨none, some 66, .idxS 3 (.t 51) (.t 53)⟩, ⟨none, some 67, .fieldA 0 (.t 66)⟩, ⟨none, none, .store 1 (.t 67) (.t 65)⟩] [] []) (.reg [⟨none, some 68, .copy (.t 3)⟩, ⟨none, some 69, .copy (.t 0)⟩, ⟨none, some 70, .copy (.t 4)⟩, ⟨none, some 71, .idxS 3 (.t 69) (.t 70)⟩, ⟨none, some 72, .load true 3 (.t 71)⟩, ⟨none, some 73, .mkSlice true 3 [(.lit (.int .i64 0)), (.lit (.int .i64 0)), (.lit (.int .u32 0))] 1 [(0, (.t 72))]⟩, ⟨none, some 74, .append true 3 24 (.t 68) (.t 73)⟩, ⟨none, some 3, .copy (.t 74)⟩] [] [])))))) (.reg [⟨none, some 11, .copy (.t 4)⟩, ⟨none, some 12, .bin .add (.t 11) (.c (.lit (.int .i64 1)))⟩, ⟨none, some 4, .copy (.t 12)⟩] [] [])))
def ir30 : IFn := ⟨(.seq (.reg [⟨none, some 2, .copy (.c nilS)⟩] [] []) (.seq (.reg [⟨none, some 6, .mkSlice true 3 [(.lit (.int .i64 0)), (.lit (.int .i64 0)), (.lit (.int .u32 0))] 0 []⟩, ⟨none, some 3, .copy (.t 6)⟩] [] []) (.seq (.seq (.reg [⟨none, some 4, .copy (.c (.lit (.int .i64 0)))⟩] [] []) (.block 0 (.loop [0, 3, 4] L30_0))) (.seq (.reg [⟨none, some 75, .copy (.t 3)⟩, ⟨none, some 2, .copy (.t 75)⟩] [] []) .ret)))), [.tmp 2]⟩
/- tap.Cut -/
def ir31 : IFn := ⟨(.seq (.reg [⟨none, some 6, .copy (.c nilS)⟩, ⟨none, some 7, .copy (.c (.lit (.int .i64 0)))⟩] [] []) (.seq (.reg [⟨none, some 11, .copy (.t 0)⟩, ⟨none, some 12, .call 23 [(.t 11)]⟩, ⟨none, some 10, .copy (.t 12)⟩, ⟨none, some 13, .extract (.t 10) 0⟩, ⟨none, some 14, .extract (.t 10) 1⟩, ⟨none, some 8, .copy (.t 13)⟩, ⟨none, some 9, .copy (.t 14)⟩] [] []) (.seq (.block 0 (.seq (.reg [⟨none, some 16, .copy (.t 9)⟩, ⟨none, some 17, .bin .neq (.t 16) (.c (.lit (.int .i64 0)))⟩, ⟨none, some 15, .copy (.t 17)⟩] [] []) (.cond (.t 15) (.seq (.reg [⟨none, some 18, .copy (.t 9)⟩, ⟨none, some 6, .copy (.c nilS)⟩, ⟨none, some 7, .copy (.t 18)⟩] [] []) .ret) (.seq (.reg [⟨none, some 20, .copy (.t 1)⟩, ⟨none, some 21, .bin .lss (.t 20) (.c (.lit (.int .i64 0)))⟩, ⟨none, some 22, .copy (.t 21)⟩, ⟨some (22, false), some 23, .copy (.t 1)⟩, ⟨some (22, false), some 24, .copy (.t 2)⟩, ⟨some (22, false), some 25, .bin .gtr (.t 23) (.t 24)⟩, ⟨none, some 26, .pick (.t 22) (.c (.lit (.bool true))) (.t 25)⟩, ⟨none, some 27, .copy (.t 26)⟩, ⟨some (27, false), some 28, .copy (.t 2)⟩, ⟨some (27, false), some 29, .copy (.t 8)⟩, ⟨some (27, false), some 30, .bin .gtr (.t 28) (.t 29)⟩, ⟨none, some 31, .pick (.t 27) (.c (.lit (.bool true))) (.t 30)⟩, ⟨none, some 19, .copy (.t 31)⟩] [] []) (.cond (.t 19) (.seq (.reg [⟨none, some 6, .copy (.c nilS)⟩, ⟨none, some 7, .copy (.c (.lit (.int .i64 10)))⟩] [] []) .ret) .skip))))) (.seq (.reg [⟨none, some 32, .copy (.t 0)⟩, ⟨none, some 33, .copy (.t 1)⟩, ⟨none, some 34, .copy (.t 2)⟩, ⟨none, some 35, .call 49 [(.t 32), (.t 33), (.t 34)]⟩, ⟨none, some 36, .call 29 [(.t 35)]⟩, ⟨none, some 6, .copy (.t 36)⟩, ⟨none, some 7, .copy (.c (.lit (.int .i64 0)))⟩] [] []) .ret)))), [.tmp 6, .tmp 7]⟩
/- magnetoref12.Ticks -/
def L32_1 : ICode := (.seq (.seq (.reg [⟨none, some 13, .copy (.t 5)⟩, ⟨none, some 14, .copy (.t 0)⟩, ⟨none, some 15, .copy (.t 4)⟩, ⟨none, some 16, .idxS 3 (.t 14) (.t 15)⟩, ⟨none, some 17, .fieldA 0 (.t 16)⟩, ⟨none, some 18, .load false 1 (.t 17)⟩, ⟨none, some 19, .bin .lss (.t 13) (.t 18)⟩] [] []) (.cond (.t 19) .skip (.exit 2))) (.seq (.block 3 (.reg [⟨none, some 22, .copy (.t 3)⟩, ⟨none, some 23, .copy (.t 0)⟩, ⟨none, some 24, .copy (.t 4)⟩, ⟨none, some 25, .idxS 3 (.t 23) (.t 24)⟩, ⟨none, some 26, .fieldA 1 (.t 25)⟩, ⟨none, some 27, .load false 1 (.t 26)⟩, ⟨none, some 28, .copy (.t 0)⟩, ⟨none, some 29, .copy (.t 4)⟩, ⟨none, some 30, .idxS 3 (.t 28) (.t 29)⟩, ⟨none, some 31, .fieldA 2 (.t 30)⟩, ⟨none, some 32, .load false 1 (.t 31)⟩, ⟨none, some 33, .build [(.lit (.int .i64 0)), (.lit (.int .i64 0)), (.lit (.int .u32 0))] [(0, 1, (.c (.lit (.int .i64 1)))), (1, 1, (.t 27)), (2, 1, (.t 32))]⟩, ⟨none, some 34, .mkSlice true 3 [(.lit (.int .i64 0)), (.lit (.int .i64 0)), (.lit (.int .u32 0))] 1 [(0, (.t 33))]⟩, ⟨none, some 35, .append true 3 24 (.t 22) (.t 34)⟩, ⟨none, some 3, .copy (.t 35)⟩] [] [])) (.reg [⟨none, some 20, .copy (.t 5)⟩, ⟨none, some 21, .bin .add (.t 20) (.c (.lit (.int .i64 1)))⟩, ⟨none, some 5, .copy (.t 21)⟩] [] [])))
def L32_0 : ICode := (.seq (.seq (.reg [⟨none, some 7, .copy (.t 4)⟩, ⟨none, some 8, .copy (.t 0)⟩, ⟨none, some 9, .len (.t 8)⟩, ⟨none, some 10, .bin .lss (.t 7) (.t 9)⟩] [] []) (.cond (.t 10) .skip (.exit 0))) (.seq (.block 1 (.seq (.reg [⟨none, some 5, .copy (.c (.lit (.int .i64 0)))⟩] [] []) (.block 2 (.loop [0, 3, 4, 5] L32_1)))) (.reg [⟨none, some 11, .copy (.t 4)⟩, ⟨none, some 12, .bin .add (.t 11) (.c (.lit (.int .i64 1)))⟩, ⟨none, some 4, .copy (.t 12)⟩] [] [])))
def ir32 : IFn := ⟨(.seq (.reg [⟨none, some 2, .copy (.c nilS)⟩] [] []) (.seq (.reg [⟨none, some 6, .mkSlice true 3 [(.lit (.int .i64 0)), (.lit (.int .i64 0)), (.lit (.int .u32 0))] 0 []⟩, ⟨none, some 3, .copy (.t 6)⟩] [] []) (.seq (.seq (.reg [⟨none, some 4, .copy (.c (.lit (.int .i64 0)))⟩] [] []) (.block 0 (.loop [0, 3, 4] L32_0))) (.seq (.reg [⟨none, some 36, .copy (.t 3)⟩, ⟨none, some 2, .copy (.t 36)⟩] [] []) .ret)))), [.tmp 2]⟩
/- tap.Bus -/
def ir33 : IFn := ⟨(.seq (.reg [⟨none, some 2, .copy (.c nilS)⟩, ⟨none, some 3, .copy (.c (.lit (.int .i64 0)))⟩] [] []) (.seq (.reg [⟨none, some 4, .copy (.t 0)⟩, ⟨none, some 5, .call 52 [(.t 4), (.c (.func (.func 53) [] []))]⟩, ⟨none, some 6, .extract (.t 5) 0⟩, ⟨none, some 7, .extract (.t 5) 1⟩, ⟨none, some 2, .copy (.t 6)⟩, ⟨none, some 3, .copy (.t 7)⟩] [] []) .ret)), [.tmp 2, .tmp 3]⟩
/- tap.Node -/
def ir34 : IFn := ⟨(.seq (.reg [⟨none, some 3, .box 1 (.t 1)⟩, ⟨none, some 4, .copy (.c nilS)⟩, ⟨none, some 5, .copy (.c (.lit (.int .i64 0)))⟩] [] []) (.seq (.seq (.reg [⟨none, some 7, .copy (.t 0)⟩, ⟨none, some 8, .call 22 [(.t 7)]⟩, ⟨none, some 6, .copy (.t 8)⟩] [] []) (.seq (.reg [⟨none, some 9, .copy (.t 6)⟩, ⟨none, some 10, .bin .neq (.t 9) (.c (.lit (.int .i64 0)))⟩] [] []) (.cond (.t 10) (.seq (.reg [⟨none, some 11, .copy (.t 6)⟩, ⟨none, some 4, .copy (.c nilS)⟩, ⟨none, some 5, .copy (.t 11)⟩] [] []) .ret) .skip))) (.seq (.seq (.reg [⟨none, some 12, .load false 1 (.t 3)⟩, ⟨none, some 13, .bin .lss (.t 12) (.c (.lit (.int .i64 0)))⟩, ⟨none, some 14, .copy (.t 13)⟩, ⟨some (14, false), some 15, .load false 1 (.t 3)⟩, ⟨some (14, false), some 16, .bin .geq (.t 15) (.c (.lit (.int .i64 32)))⟩, ⟨none, some 17, .pick (.t 14) (.c (.lit (.bool true))) (.t 16)⟩] [] []) (.cond (.t 17) (.seq (.reg [⟨none, some 4, .copy (.c nilS)⟩, ⟨none, some 5, .copy (.c (.lit (.int .i64 10)))⟩] [] []) .ret) .skip)) (.seq (.reg [⟨none, some 18, .copy (.t 0)⟩, ⟨none, some 19, .mkFunc (.func 54) [] [(.t 3)]⟩, ⟨none, some 20, .call 52 [(.t 18), (.t 19)]⟩, ⟨none, some 21, .extract (.t 20) 0⟩, ⟨none, some 22, .extract (.t 20) 1⟩, ⟨none, some 4, .copy (.t 21)⟩, ⟨none, some 5, .copy (.t 22)⟩] [] []) .ret)))), [.tmp 4, .tmp 5]⟩
/- tap.Each -/
def ir35 : IFn := ⟨(.seq (.reg [⟨none, some 1, .box 1 (.t 0)⟩, ⟨none, some 2, .copy (.c (.lit .nilFunc))⟩] [] []) (.seq (.reg [⟨none, some 3, .mkFunc (.func 55) [] [(.t 1)]⟩, ⟨none, some 2, .copy (.t 3)⟩] [] []) .ret)), [.tmp 2]⟩
/- magnetolaw12.ints -/
def L36_0 : ICode := (.seq (.seq (.reg [⟨none, some 11, .copy (.t 5)⟩, ⟨none, some 12, .copy (.t 0)⟩, ⟨none, some 13, .len (.t 12)⟩, ⟨none, some 14, .bin .lss (.t 11) (.t 13)⟩] [] []) (.cond (.t 14) .skip (.exit 0))) (.seq (.block 1 (.seq (.reg [⟨none, some 17, .copy (.t 0)⟩, ⟨none, some 18, .copy (.t 5)⟩, ⟨none, some 19, .idxS 1 (.t 17) (.t 18)⟩, ⟨none, some 20, .load false 1 (.t 19)⟩, ⟨none, some 21, .copy (.t 1)⟩, ⟨none, some 22, .copy (.t 5)⟩, ⟨none, some 23, .idxS 1 (.t 21) (.t 22)⟩, ⟨none, some 24, .load false 1 (.t 23)⟩, ⟨none, some 25, .bin .neq (.t 20) (.t 24)⟩] [] []) (.cond (.t 25) (.seq (.reg [⟨none, some 4, .copy (.c (.lit (.bool false)))⟩] [] []) .ret) .skip))) (.reg [⟨none, some 15, .copy (.t 5)⟩, ⟨none, some 16, .bin .add (.t 15) (.c (.lit (.int .i64 1)))⟩, ⟨none, some 5, .copy (.t 16)⟩] [] [])))
def ir36 : IFn := ⟨(.seq (.reg [⟨none, some 4, .copy (.c (.lit (.bool false)))⟩] [] []) (.seq (.seq (.reg [⟨none, some 6, .copy (.t 0)⟩, ⟨none, some 7, .len (.t 6)⟩, ⟨none, some 8, .copy (.t 1)⟩, ⟨none, some 9, .len (.t 8)⟩, ⟨none, some 10, .bin .neq (.t 7) (.t 9)⟩] [] []) (.cond (.t 10) (.seq (.reg [⟨none, some 4, .copy (.c (.lit (.bool false)))⟩] [] []) .ret) .skip)) (.seq (.seq (.reg [⟨none, some 5, .copy (.c (.lit (.int .i64 0)))⟩] [] []) (.block 0 (.loop [0, 1, 5] L36_0))) (.seq (.reg [⟨none, some 4, .copy (.c (.lit (.bool true)))⟩] [] []) .ret)))), [.tmp 4]⟩
/- block.Get -/
def ir38 : IFn := ⟨(.seq (.reg [⟨none, some 2, .alloc [(.lit (.int .i64 0)), nilS]⟩, ⟨none, some 3, .copy (.c (.lit (.int .i64 0)))⟩, ⟨none, some 4, .copy (.c (.lit (.int .i64 0)))⟩] [] []) (.seq (.reg [⟨none, some 16, .copy (.t 0)⟩, ⟨none, some 17, .call 40 [(.t 16)]⟩, ⟨none, some 15, .copy (.t 17)⟩, ⟨none, some 18, .extract (.t 15) 0⟩, ⟨none, some 19, .extract (.t 15) 1⟩, ⟨none, some 5, .copy (.t 18)⟩, ⟨none, some 6, .copy (.t 19)⟩] [] []) (.seq (.block 0 (.seq (.reg [⟨none, some 21, .copy (.t 6)⟩, ⟨none, some 22, .bin .neq (.t 21) (.c (.lit (.int .i64 0)))⟩, ⟨none, some 20, .copy (.t 22)⟩] [] []) (.cond (.t 20) (.seq (.reg [⟨none, some 23, .build [(.lit (.int .i64 0)), nilS] []⟩, ⟨none, some 24, .copy (.t 6)⟩, ⟨none, none, .store 2 (.t 2) (.t 23)⟩, ⟨none, some 3, .copy (.c (.lit (.int .i64 0)))⟩, ⟨none, some 4, .copy (.t 24)⟩] [] []) .ret) (.seq (.reg [⟨none, some 26, .copy (.t 5)⟩, ⟨none, some 27, .copy (.t 0)⟩, ⟨none, some 28, .len (.t 27)⟩, ⟨none, some 29, .bin .gtr (.t 26) (.t 28)⟩, ⟨none, some 25, .copy (.t 29)⟩] [] []) (.cond (.t 25) (.seq (.reg [⟨none, some 30, .build [(.lit (.int .i64 0)), nilS] []⟩, ⟨none, none, .store 2 (.t 2) (.t 30)⟩, ⟨none, some 3, .copy (.c (.lit (.int .i64 0)))⟩, ⟨none, some 4, .copy (.c (.lit (.int .i64 13)))⟩] [] []) .ret) .skip))))) (.seq (.reg [⟨none, some 32, .copy (.t 0)⟩, ⟨none, some 33, .copy (.t 5)⟩, ⟨none, some 34, .slice 1 (.t 32) none (some (.t 33)) none⟩, ⟨none, some 35, .call 56 [(.t 34)]⟩, ⟨none, some 31, .copy (.t 35)⟩, ⟨none, some 36, .extract (.t 31) 0⟩, ⟨none, some 37, .extract (.t 31) 1⟩, ⟨none, some 7, .copy (.t 36)⟩, ⟨none, some 6, .copy (.t 37)⟩] [] []) (.seq (.seq (.reg [⟨none, some 38, .copy (.t 6)⟩, ⟨none, some 39, .bin .neq (.t 38) (.c (.lit (.int .i64 0)))⟩] [] []) (.cond (.t 39) (.seq (.reg [⟨none, some 40, .build [(.lit (.int .i64 0)), nilS] []⟩, ⟨none, some 41, .copy (.t 6)⟩, ⟨none, none, .store 2 (.t 2) (.t 40)⟩, ⟨none, some 3, .copy (.c (.lit (.int .i64 0)))⟩, ⟨none, some 4, .copy (.t 41)⟩] [] []) .ret) .skip)) (.seq (.reg [⟨none, some 43, .copy (.t 7)⟩, ⟨none, some 44, .call 57 [(.t 43)]⟩, ⟨none, some 42, .copy (.t 44)⟩, ⟨none, some 45, .extract (.t 42) 0⟩, ⟨none, some 46, .extract (.t 42) 1⟩, ⟨none, some 47, .extract (.t 42) 2⟩, ⟨none, some 8, .copy (.t 45)⟩, ⟨none, some 9, .copy (.t 46)⟩, ⟨none, some 10, .copy (.t 47)⟩] [] []) (.seq (.reg [⟨none, some 49, .copy (.t 7)⟩, ⟨none, some 50, .copy (.t 9)⟩, ⟨none, some 51, .slice 1 (.t 49) (some (.t 50)) none none⟩, ⟨none, some 52, .call 58 [(.t 51)]⟩, ⟨none, some 48, .copy (.t 52)⟩, ⟨none, some 53, .extract (.t 48) 0⟩, ⟨none, some 54, .extract (.t 48) 1⟩, ⟨none, some 55, .extract (.t 48) 2⟩, ⟨none, some 11, .copy (.t 53)⟩, ⟨none, some 12, .copy (.t 54)⟩, ⟨none, some 6, .copy (.t 55)⟩] [] []) (.seq (.reg [⟨none, some 57, .copy (.t 11)⟩, ⟨none, some 58, .call 59 [(.t 57)]⟩, ⟨none, some 56, .copy (.t 58)⟩, ⟨none, some 59, .extract (.t 56) 0⟩, ⟨none, some 60, .extract (.t 56) 1⟩, ⟨none, some 13, .alloc [(.lit (.int .i64 0)), nilS]⟩, ⟨none, none, .store 2 (.t 13) (.t 59)⟩, ⟨none, some 14, .copy (.t 60)⟩] [] []) (.seq (.seq (.reg [⟨none, some 61, .copy (.t 6)⟩, ⟨none, some 62, .bin .neq (.t 61) (.c (.lit (.int .i64 0)))⟩, ⟨none, some 63, .copy (.t 62)⟩, ⟨some (63, false), some 64, .copy (.t 14)⟩, ⟨some (63, false), some 65, .un .not (.t 64)⟩, ⟨none, some 66, .pick (.t 63) (.c (.lit (.bool true))) (.t 65)⟩] [] []) (.cond (.t 66) (.seq (.reg [⟨none, some 67, .build [(.lit (.int .i64 0)), nilS] []⟩, ⟨none, none, .store 2 (.t 2) (.t 67)⟩, ⟨none, some 3, .copy (.c (.lit (.int .i64 0)))⟩, ⟨none, some 4, .copy (.c (.lit (.int .i64 11)))⟩] [] []) .ret) .skip)) (.seq (.reg [⟨none, some 68, .load true 2 (.t 13)⟩, ⟨none, some 69, .copy (.t 5)⟩, ⟨none, none, .store 2 (.t 2) (.t 68)⟩, ⟨none, some 3, .copy (.t 69)⟩, ⟨none, some 4, .copy (.c (.lit (.int .i64 0)))⟩] [] []) .ret)))))))))), [.cell 2 true 2, .tmp 3, .tmp 4]⟩
/- magnetoref15.Get -/
def ir39 : IFn := ⟨(.seq (.reg [⟨none, some 2, .alloc [(.lit (.int .i64 0)), nilS]⟩, ⟨none, some 3, .copy (.c (.lit (.int .i64 0)))⟩, ⟨none, some 4, .copy (.c (.lit (.int .i64 0)))⟩] [] []) (.seq (.reg [⟨none, some 16, .copy (.t 0)⟩, ⟨none, some 17, .call 41 [(.t 16)]⟩, ⟨none, some 15, .copy (.t 17)⟩, ⟨none, some 18, .extract (.t 15) 0⟩, ⟨none, some 19, .extract (.t 15) 1⟩, ⟨none, some 5, .copy (.t 18)⟩, ⟨none, some 6, .copy (.t 19)⟩] [] []) (.seq (.seq (.reg [⟨none, some 20, .copy (.t 6)⟩, ⟨none, some 21, .bin .neq (.t 20) (.c (.lit (.int .i64 0)))⟩] [] []) (.cond (.t 21) (.seq (.reg [⟨none, some 22, .build [(.lit (.int .i64 0)), nilS] []⟩, ⟨none, some 23, .copy (.t 6)⟩, ⟨none, none, .store 2 (.t 2) (.t 22)⟩, ⟨none, some 3, .copy (.c (.lit (.int .i64 0)))⟩, ⟨none, some 4, .copy (.t 23)⟩] [] []) .ret) .skip)) (.seq (.seq (.reg [⟨none, some 24, .copy (.t 5)⟩, ⟨none, some 25, .copy (.t 0)⟩, ⟨none, some 26, .len (.t 25)⟩, ⟨none, some 27, .bin .gtr (.t 24) (.t 26)⟩] [] []) (.cond (.t 27) (.seq (.reg [⟨none, some 28, .build [(.lit (.int .i64 0)), nilS] []⟩, ⟨none, none, .store 2 (.t 2) (.t 28)⟩, ⟨none, some 3, .copy (.c (.lit (.int .i64 0)))⟩, ⟨none, some 4, .copy (.c (.lit (.int .i64 13)))⟩] [] []) .ret) .skip)) (.seq (.reg [⟨none, some 30, .copy (.t 0)⟩, ⟨none, some 31, .copy (.t 5)⟩, ⟨none, some 32, .slice 1 (.t 30) none (some (.t 31)) none⟩, ⟨none, some 33, .call 60 [(.t 32)]⟩, ⟨none, some 29, .copy (.t 33)⟩, ⟨none, some 34, .extract (.t 29) 0⟩, ⟨none, some 35, .extract (.t 29) 1⟩, ⟨none, some 7, .copy (.t 34)⟩, ⟨none, some 6, .copy (.t 35)⟩] [] []) (.seq (.seq (.reg [⟨none, some 36, .copy (.t 6)⟩, ⟨none, some 37, .bin .neq (.t 36) (.c (.lit (.int .i64 0)))⟩] [] []) (.cond (.t 37) (.seq (.reg [⟨none, some 38, .build [(.lit (.int .i64 0)), nilS] []⟩, ⟨none, some 39, .copy (.t 6)⟩, ⟨none, none, .store 2 (.t 2) (.t 38)⟩, ⟨none, some 3, .copy (.c (.lit (.int .i64 0)))⟩, ⟨none, some 4, .copy (.t 39)⟩] [] []) .ret) .skip)) (.seq (.reg [⟨none, some 41, .copy (.t 7)⟩, ⟨none, some 42, .call 61 [(.t 41)]⟩, ⟨none, some 40, .copy (.t 42)⟩, ⟨none, some 43, .extract (.t 40) 0⟩, ⟨none, some 44, .extract (.t 40) 1⟩, ⟨none, some 45, .extract (.t 40) 2⟩, ⟨none, some 8, .copy (.t 43)⟩, ⟨none, some 9, .copy (.t 44)⟩, ⟨none, some 10, .copy (.t 45)⟩] [] []) (.seq (.reg [⟨none, some 47, .copy (.t 7)⟩, ⟨none, some 48, .copy (.t 9)⟩, ⟨none, some 49, .slice 1 (.t 47) (some (.t 48)) none none⟩, ⟨none, some 50, .call 62 [(.t 49)]⟩, ⟨none, some 46, .copy (.t 50)⟩, ⟨none, some 51, .extract (.t 46) 0⟩, ⟨none, some 52, .extract (.t 46) 1⟩, ⟨none, some 53, .extract (.t 46) 2⟩, ⟨none, some 11, .copy (.t 51)⟩, ⟨none, some 12, .copy (.t 52)⟩, ⟨none, some 13, .copy (.t 53)⟩] [] []) (.seq (.reg [⟨none, some 54, .copy (.t 11)⟩, ⟨none, some 55, .call 63 [(.t 54)]⟩, ⟨none, some 14, .alloc [(.lit (.int .i64 0)), nilS]⟩, ⟨none, none, .store 2 (.t 14) (.t 55)⟩] [] []) (.seq (.seq (.reg [⟨none, some 56, .copy (.t 13)⟩, ⟨none, some 57, .bin .neq (.t 56) (.c (.lit (.int .i64 0)))⟩, ⟨none, some 58, .copy (.t 57)⟩, ⟨some (58, false), some 59, .load true 2 (.t 14)⟩, ⟨some (58, false), some 60, .call 17 [(.t 59)]⟩, ⟨some (58, false), some 61, .bin .neq (.t 60) (.c (.lit (.int .i64 0)))⟩, ⟨none, some 62, .pick (.t 58) (.c (.lit (.bool true))) (.t 61)⟩, ⟨none, some 63, .copy (.t 62)⟩, ⟨some (63, false), some 64, .load true 2 (.t 14)⟩, ⟨some (63, false), some 65, .call 20 [(.t 64)]⟩, ⟨some (63, false), some 66, .toStr (.t 65)⟩, ⟨some (63, false), some 67, .copy (.t 0)⟩, ⟨some (63, false), some 68, .copy (.t 5)⟩, ⟨some (63, false), some 69, .slice 1 (.t 67) none (some (.t 68)) none⟩, ⟨some (63, false), some 70, .toStr (.t 69)⟩, ⟨some (63, false), some 71, .bin .neq (.t 66) (.t 70)⟩, ⟨none, some 72, .pick (.t 63) (.c (.lit (.bool true))) (.t 71)⟩] [(14, 9)] []) (.cond (.t 72) (.seq (.reg [⟨none, some 73, .build [(.lit (.int .i64 0)), nilS] []⟩, ⟨none, none, .store 2 (.t 2) (.t 73)⟩, ⟨none, some 3, .copy (.c (.lit (.int .i64 0)))⟩, ⟨none, some 4, .copy (.c (.lit (.int .i64 11)))⟩] [] []) .ret) .skip)) (.seq (.reg [⟨none, some 74, .load true 2 (.t 14)⟩, ⟨none, some 75, .copy (.t 5)⟩, ⟨none, none, .store 2 (.t 2) (.t 74)⟩, ⟨none, some 3, .copy (.t 75)⟩, ⟨none, some 4, .copy (.c (.lit (.int .i64 0)))⟩] [] []) .ret))))))))))), [.cell 2 true 2, .tmp 3, .tmp 4]⟩
/- block.Size -/
def ir40 : IFn := ⟨(.seq (.reg [⟨none, some 2, .copy (.c (.lit (.int .i64 0)))⟩, ⟨none, some 3, .copy (.c (.lit (.int .i64 0)))⟩] [] []) (.seq (.reg [⟨none, some 8, .copy (.t 0)⟩, ⟨none, some 9, .call 57 [(.t 8)]⟩, ⟨none, some 7, .copy (.t 9)⟩, ⟨none, some 10, .extract (.t 7) 0⟩, ⟨none, some 11, .extract (.t 7) 1⟩, ⟨none, some 12, .extract (.t 7) 2⟩, ⟨none, some 4, .copy (.t 10)⟩, ⟨none, some 5, .copy (.t 11)⟩, ⟨none, some 6, .copy (.t 12)⟩] [] []) (.seq (.block 0 (.seq (.reg [⟨none, some 14, .copy (.t 6)⟩, ⟨none, some 15, .bin .neq (.t 14) (.c (.lit (.int .i64 0)))⟩, ⟨none, some 13, .copy (.t 15)⟩] [] []) (.cond (.t 13) (.seq (.reg [⟨none, some 16, .copy (.t 6)⟩, ⟨none, some 2, .copy (.c (.lit (.int .i64 0)))⟩, ⟨none, some 3, .copy (.t 16)⟩] [] []) .ret) (.seq (.reg [⟨none, some 18, .copy (.t 4)⟩, ⟨none, some 19, .bin .gtr (.t 18) (.c (.lit (.int .u64 65536)))⟩, ⟨none, some 17, .copy (.t 19)⟩] [] []) (.cond (.t 17) (.seq (.reg [⟨none, some 2, .copy (.c (.lit (.int .i64 0)))⟩, ⟨none, some 3, .copy (.c (.lit (.int .i64 12)))⟩] [] []) .ret) .skip))))) (.seq (.reg [⟨none, some 20, .copy (.t 5)⟩, ⟨none, some 21, .copy (.t 4)⟩, ⟨none, some 22, .toInt .i64 (.t 21)⟩, ⟨none, some 23, .bin .add (.t 20) (.t 22)⟩, ⟨none, some 24, .bin .add (.t 23) (.c (.lit (.int .i64 4)))⟩, ⟨none, some 2, .copy (.t 24)⟩, ⟨none, some 3, .copy (.c (.lit (.int .i64 0)))⟩] [] []) .ret)))), [.tmp 2, .tmp 3]⟩
/- magnetoref15.Size -/
def ir41 : IFn := ⟨(.seq (.reg [⟨none, some 2, .copy (.c (.lit (.int .i64 0)))⟩, ⟨none, some 3, .copy (.c (.lit (.int .i64 0)))⟩] [] []) (.seq (.reg [⟨none, some 8, .copy (.t 0)⟩, ⟨none, some 9, .call 61 [(.t 8)]⟩, ⟨none, some 7, .copy (.t 9)⟩, ⟨none, some 10, .extract (.t 7) 0⟩, ⟨none, some 11, .extract (.t 7) 1⟩, ⟨none, some 12, .extract (.t 7) 2⟩, ⟨none, some 4, .copy (.t 10)⟩, ⟨none, some 5, .copy (.t 11)⟩, ⟨none, some 6, .copy (.t 12)⟩] [] []) (.seq (.seq (.reg [⟨none, some 13, .copy (.t 6)⟩, ⟨none, some 14, .bin .neq (.t 13) (.c (.lit (.int .i64 0)))⟩] [] []) (.cond (.t 14) (.seq (.reg [⟨none, some 15, .copy (.t 6)⟩, ⟨none, some 2, .copy (.c (.lit (.int .i64 0)))⟩, ⟨none, some 3, .copy (.t 15)⟩] [] []) .ret) .skip)) (.seq (.seq (.reg [⟨none, some 16, .copy (.t 4)⟩, ⟨none, some 17, .bin .gtr (.t 16) (.c (.lit (.int .u64 65536)))⟩] [] []) (.cond (.t 17) (.seq (.reg [⟨none, some 2, .copy (.c (.lit (.int .i64 0)))⟩, ⟨none, some 3, .copy (.c (.lit (.int .i64 12)))⟩] [] []) .ret) .skip)) (.seq (.reg [⟨none, some 18, .copy (.t 5)⟩, ⟨none, some 19, .copy (.t 4)⟩, ⟨none, some 20, .toInt .i64 (.t 19)⟩, ⟨none, some 21, .bin .add (.t 18) (.t 20)⟩, ⟨none, some 22, .bin .add (.t 21) (.c (.lit (.int .i64 4)))⟩, ⟨none, some 2, .copy (.t 22)⟩, ⟨none, some 3, .copy (.c (.lit (.int .i64 0)))⟩] [] []) .ret))))), [.tmp 2, .tmp 3]⟩
/- magnetolaw15.same -/
def ir42 : IFn := ⟨(.seq (.reg [⟨none, some 2, .box 2 (.t 0)⟩, ⟨none, some 3, .box 2 (.t 1)⟩, ⟨none, some 4, .copy (.c (.lit (.bool false)))⟩] [] []) (.seq (.reg [⟨none, some 5, .fieldA 0 (.t 2)⟩, ⟨none, some 6, .load false 1 (.t 5)⟩, ⟨none, some 7, .fieldA 0 (.t 3)⟩, ⟨none, some 8, .load false 1 (.t 7)⟩, ⟨none, some 9, .bin .eql (.t 6) (.t 8)⟩, ⟨none, some 10, .copy (.t 9)⟩, ⟨some (10, true), some 11, .fieldA 1 (.t 2)⟩, ⟨some (10, true), some 12, .load false 1 (.t 11)⟩, ⟨some (10, true), some 13, .fieldA 1 (.t 3)⟩, ⟨some (10, true), some 14, .load false 1 (.t 13)⟩, ⟨some (10, true), some 15, .call 28 [(.t 12), (.t 14)]⟩, ⟨none, some 16, .pick (.t 10) (.t 15) (.c (.lit (.bool false)))⟩, ⟨none, some 4, .copy (.t 16)⟩] [] []) .ret)), [.tmp 4]⟩
/- block.Put$1 -/
def ir43 : IFn := ⟨(.reg [⟨none, some 3, .load false 1 (.t 1)⟩, ⟨none, some 4, .copy (.t 0)⟩, ⟨none, some 5, .call 44 [(.t 4)]⟩, ⟨none, some 6, .append true 1 1 (.t 3) (.t 5)⟩, ⟨none, none, .store 1 (.t 1) (.t 6)⟩] [(0, 2)] []), []⟩
/- vari.Put -/
def L44_0 : ICode := (.seq (.seq (.reg [⟨none, some 5, .copy (.t 0)⟩, ⟨none, some 6, .bin .geq (.t 5) (.c (.lit (.int .u64 128)))⟩] [] []) (.cond (.t 6) .skip (.exit 0))) (.seq (.block 1 (.reg [⟨none, some 9, .copy (.t 3)⟩, ⟨none, some 10, .copy (.t 0)⟩, ⟨none, some 11, .toInt .u8 (.t 10)⟩, ⟨none, some 12, .bin .or (.t 11) (.c (.lit (.int .u8 128)))⟩, ⟨none, some 13, .mkSlice true 1 [(.lit (.int .u8 0))] 1 [(0, (.t 12))]⟩, ⟨none, some 14, .append true 1 1 (.t 9) (.t 13)⟩, ⟨none, some 3, .copy (.t 14)⟩] [] [])) (.reg [⟨none, some 7, .copy (.t 0)⟩, ⟨none, some 8, .bin .shr (.t 7) (.c (.lit (.int .u64 7)))⟩, ⟨none, some 0, .copy (.t 8)⟩] [] [])))
def ir44 : IFn := ⟨(.seq (.reg [⟨none, some 2, .copy (.c nilS)⟩] [] []) (.seq (.reg [⟨none, some 4, .make true 1 1 [(.lit (.int .u8 0))] (.c (.lit (.int .i64 0))) (.c (.lit (.int .i64 10)))⟩, ⟨none, some 3, .copy (.t 4)⟩] [] []) (.seq (.block 0 (.loop [0, 3] L44_0)) (.seq (.reg [⟨none, some 15, .copy (.t 3)⟩, ⟨none, some 16, .copy (.t 0)⟩, ⟨none, some 17, .toInt .u8 (.t 16)⟩, ⟨none, some 18, .mkSlice true 1 [(.lit (.int .u8 0))] 1 [(0, (.t 17))]⟩, ⟨none, some 19, .append true 1 1 (.t 15) (.t 18)⟩, ⟨none, some 2, .copy (.t 19)⟩] [] []) .ret)))), [.tmp 2]⟩
/- sum32.Seal -/
def ir45 : IFn := ⟨(.seq (.reg [⟨none, some 2, .copy (.c nilS)⟩] [] []) (.seq (.reg [⟨none, some 3, .copy (.t 0)⟩, ⟨none, some 4, .call 64 [(.t 3)]⟩, ⟨none, some 5, .copy (.t 0)⟩, ⟨none, some 6, .call 66 [(.t 5)]⟩, ⟨none, some 7, .call 65 [(.t 6)]⟩, ⟨none, some 8, .append true 1 1 (.t 4) (.t 7)⟩, ⟨none, some 2, .copy (.t 8)⟩] [] []) .ret)), [.tmp 2]⟩
/- magnetoref15.Bytes -/
def L46_0 : ICode := (.seq (.seq (.reg [⟨none, some 6, .copy (.t 4)⟩, ⟨none, some 7, .copy (.t 0)⟩, ⟨none, some 8, .len (.t 7)⟩, ⟨none, some 9, .bin .lss (.t 6) (.t 8)⟩] [] []) (.cond (.t 9) .skip (.exit 0))) (.seq (.block 1 (.reg [⟨none, some 12, .copy (.t 3)⟩, ⟨none, some 13, .copy (.t 0)⟩, ⟨none, some 14, .copy (.t 4)⟩, ⟨none, some 15, .idxS 1 (.t 13) (.t 14)⟩, ⟨none, some 16, .load false 1 (.t 15)⟩, ⟨none, some 17, .call 67 [(.t 16)]⟩, ⟨none, some 18, .append true 1 1 (.t 12) (.t 17)⟩, ⟨none, some 3, .copy (.t 18)⟩] [] [])) (.reg [⟨none, some 10, .copy (.t 4)⟩, ⟨none, some 11, .bin .add (.t 10) (.c (.lit (.int .i64 1)))⟩, ⟨none, some 4, .copy (.t 11)⟩] [] [])))
def ir46 : IFn := ⟨(.seq (.reg [⟨none, some 2, .copy (.c nilS)⟩] [] []) (.seq (.reg [⟨none, some 5, .mkSlice true 1 [(.lit (.int .u8 0))] 0 []⟩, ⟨none, some 3, .copy (.t 5)⟩] [] []) (.seq (.seq (.reg [⟨none, some 4, .copy (.c (.lit (.int .i64 0)))⟩] [] []) (.block 0 (.loop [0, 3, 4] L46_0))) (.seq (.reg [⟨none, some 19, .copy (.t 3)⟩, ⟨none, some 20, .len (.t 19)⟩, ⟨none, some 21, .toInt .u64 (.t 20)⟩, ⟨none, some 22, .call 67 [(.t 21)]⟩, ⟨none, some 23, .copy (.t 3)⟩, ⟨none, some 24, .append true 1 1 (.t 22) (.t 23)⟩, ⟨none, some 25, .call 68 [(.t 24)]⟩, ⟨none, some 2, .copy (.t 25)⟩] [] []) .ret)))), [.tmp 2]⟩
/- magnetoref15.Inside -/
def L47_0 : ICode := (.seq (.seq (.reg [⟨none, some 14, .copy (.t 5)⟩, ⟨none, some 15, .fieldA 1 (.t 1)⟩, ⟨none, some 16, .load false 1 (.t 15)⟩, ⟨none, some 17, .len (.t 16)⟩, ⟨none, some 18, .bin .lss (.t 14) (.t 17)⟩] [] []) (.cond (.t 18) .skip (.exit 0))) (.seq (.block 1 (.seq (.reg [⟨none, some 21, .copy (.t 3)⟩, ⟨none, some 22, .fieldA 1 (.t 1)⟩, ⟨none, some 23, .load false 1 (.t 22)⟩, ⟨none, some 24, .copy (.t 5)⟩, ⟨none, some 25, .idxS 3 (.t 23) (.t 24)⟩, ⟨none, some 26, .fieldA 0 (.t 25)⟩, ⟨none, some 27, .load false 1 (.t 26)⟩, ⟨none, some 28, .toInt .u64 (.t 27)⟩, ⟨none, some 29, .fieldA 1 (.t 1)⟩, ⟨none, some 30, .load false 1 (.t 29)⟩, ⟨none, some 31, .copy (.t 5)⟩, ⟨none, some 32, .idxS 3 (.t 30) (.t 31)⟩, ⟨none, some 33, .fieldA 2 (.t 32)⟩, ⟨none, some 34, .load false 1 (.t 33)⟩, ⟨none, some 35, .copy (.t 4)⟩, ⟨none, some 36, .bin .xor (.t 34) (.t 35)⟩, ⟨none, some 37, .toInt .u64 (.t 36)⟩, ⟨none, some 38, .mkSlice true 1 [(.lit (.int .u64 0))] 2 [(0, (.t 28)), (1, (.t 37))]⟩, ⟨none, some 39, .append true 1 8 (.t 21) (.t 38)⟩, ⟨none, some 3, .copy (.t 39)⟩] [] []) (.reg [⟨none, some 40, .fieldA 1 (.t 1)⟩, ⟨none, some 41, .load false 1 (.t 40)⟩, ⟨none, some 42, .copy (.t 5)⟩, ⟨none, some 43, .idxS 3 (.t 41) (.t 42)⟩, ⟨none, some 44, .fieldA 2 (.t 43)⟩, ⟨none, some 45, .load false 1 (.t 44)⟩, ⟨none, some 4, .copy (.t 45)⟩] [] []))) (.reg [⟨none, some 19, .copy (.t 5)⟩, ⟨none, some 20, .bin .add (.t 19) (.c (.lit (.int .i64 1)))⟩, ⟨none, some 5, .copy (.t 20)⟩] [] [])))
def ir47 : IFn := ⟨(.seq (.reg [⟨none, some 1, .box 2 (.t 0)⟩, ⟨none, some 2, .copy (.c nilS)⟩] [] []) (.seq (.reg [⟨none, some 6, .fieldA 0 (.t 1)⟩, ⟨none, some 7, .load false 1 (.t 6)⟩, ⟨none, some 8, .toInt .u64 (.t 7)⟩, ⟨none, some 9, .fieldA 1 (.t 1)⟩, ⟨none, some 10, .load false 1 (.t 9)⟩, ⟨none, some 11, .len (.t 10)⟩, ⟨none, some 12, .toInt .u64 (.t 11)⟩, ⟨none, some 13, .mkSlice true 1 [(.lit (.int .u64 0))] 2 [(0, (.t 8)), (1, (.t 12))]⟩, ⟨none, some 3, .copy (.t 13)⟩] [] []) (.seq (.reg [⟨none, some 4, .copy (.c (.lit (.int .u32 4294967295)))⟩] [] []) (.seq (.seq (.reg [⟨none, some 5, .copy (.c (.lit (.int .i64 0)))⟩] [] []) (.block 0 (.loop [1, 3, 4, 5] L47_0))) (.seq (.reg [⟨none, some 46, .copy (.t 3)⟩, ⟨none, some 2, .copy (.t 46)⟩] [] []) .ret))))), [.tmp 2]⟩
/- tap.right -/
def ir48 : IFn := ⟨(.seq (.reg [⟨none, some 1, .box 3 (.t 0)⟩, ⟨none, some 2, .copy (.c (.lit (.bool false)))⟩] [] []) (.seq (.reg [⟨none, some 3, .copy (.c (.lit (.int .i64 0)))⟩] [] []) (.seq (.seq (.reg [⟨none, some 4, .fieldA 2 (.t 1)⟩, ⟨none, some 5, .load false 1 (.t 4)⟩, ⟨none, some 6, .bin .eql (.t 5) (.c (.lit (.int .u32 4294967295)))⟩] [] []) (.cond (.t 6) (.reg [⟨none, some 3, .copy (.c (.lit (.int .i64 1)))⟩] [] []) .skip)) (.seq (.reg [⟨none, some 7, .fieldA 0 (.t 1)⟩, ⟨none, some 8, .load false 1 (.t 7)⟩, ⟨none, some 9, .bin .geq (.t 8) (.c (.lit (.int .i64 1)))⟩, ⟨none, some 10, .copy (.t 9)⟩, ⟨some (10, true), some 11, .fieldA 0 (.t 1)⟩, ⟨some (10, true), some 12, .load false 1 (.t 11)⟩, ⟨some (10, true), some 13, .bin .leq (.t 12) (.c (.lit (.int .i64 1073741824)))⟩, ⟨none, some 14, .pick (.t 10) (.t 13) (.c (.lit (.bool false)))⟩, ⟨none, some 15, .copy (.t 14)⟩, ⟨some (15, true), some 16, .fieldA 1 (.t 1)⟩, ⟨some (15, true), some 17, .load false 1 (.t 16)⟩, ⟨some (15, true), some 18, .copy (.t 3)⟩, ⟨some (15, true), some 19, .bin .eql (.t 17) (.t 18)⟩, ⟨none, some 20, .pick (.t 15) (.t 19) (.c (.lit (.bool false)))⟩, ⟨none, some 2, .copy (.t 20)⟩] [] []) .ret)))), [.tmp 2]⟩
/- tap.between -/
def L49_0 : ICode := (.seq (.reg [⟨none, some 17, .bin .lss (.t 16) (.t 15)⟩] [] []) (.seq (.cond (.t 17) .skip (.exit 0)) (.seq (.block 1 (.seq (.reg [⟨none, some 18, .idxS 3 (.t 14) (.t 16)⟩, ⟨none, some 19, .load true 3 (.t 18)⟩, ⟨none, some 11, .alloc [(.lit (.int .i64 0)), (.lit (.int .i64 0)), (.lit (.int .u32 0))]⟩, ⟨none, none, .store 3 (.t 11) (.t 19)⟩] [] []) (.seq (.seq (.reg [⟨none, some 20, .copy (.t 9)⟩, ⟨none, some 21, .fieldA 0 (.t 11)⟩, ⟨none, some 22, .load false 1 (.t 21)⟩, ⟨none, some 23, .callV (.t 20) [(.t 22)]⟩, ⟨none, some 12, .copy (.t 23)⟩] [] []) (.seq (.reg [⟨none, some 24, .copy (.t 12)⟩, ⟨none, some 25, .bin .gtr (.t 24) (.c (.lit (.int .i64 0)))⟩] [] []) (.cond (.t 25) (.reg [⟨none, some 26, .copy (.t 7)⟩, ⟨none, some 27, .copy (.t 12)⟩, ⟨none, some 28, .fieldA 1 (.t 11)⟩, ⟨none, some 29, .load false 1 (.t 28)⟩, ⟨none, some 30, .fieldA 2 (.t 11)⟩, ⟨none, some 31, .load false 1 (.t 30)⟩, ⟨none, some 32, .build [(.lit (.int .i64 0)), (.lit (.int .i64 0)), (.lit (.int .u32 0))] [(0, 1, (.t 27)), (1, 1, (.t 29)), (2, 1, (.t 31))]⟩, ⟨none, some 33, .mkSlice true 3 [(.lit (.int .i64 0)), (.lit (.int .i64 0)), (.lit (.int .u32 0))] 1 [(0, (.t 32))]⟩, ⟨none, some 34, .append true 3 24 (.t 26) (.t 33)⟩, ⟨none, some 7, .copy (.t 34)⟩] [] []) .skip))) (.reg [⟨none, some 35, .load false 1 (.t 8)⟩, ⟨none, some 36, .fieldA 0 (.t 11)⟩, ⟨none, some 37, .load false 1 (.t 36)⟩, ⟨none, some 38, .bin .add (.t 35) (.t 37)⟩, ⟨none, none, .store 1 (.t 8) (.t 38)⟩] [] [])))) (.reg [⟨none, some 39, .bin .add (.t 16) (.c (.lit (.int .i64 1)))⟩, ⟨none, some 16, .copy (.t 39)⟩] [] []))))
def ir49 : IFn := ⟨(.seq (.reg [⟨none, some 4, .box 1 (.t 1)⟩, ⟨none, some 5, .box 1 (.t 2)⟩, ⟨none, some 6, .copy (.c nilS)⟩] [] []) (.seq (.reg [⟨none, some 7, .copy (.c nilS)⟩] [] []) (.seq (.reg [⟨none, some 8, .alloc [(.lit (.int .i64 0))]⟩, ⟨none, none, .store 1 (.t 8) (.c (.lit (.int .i64 0)))⟩] [] []) (.seq (.reg [⟨none, some 13, .mkFunc (.func 69) [] [(.t 8), (.t 5), (.t 4)]⟩, ⟨none, some 9, .copy (.t 13)⟩] [] []) (.seq (.seq (.reg [⟨none, some 14, .copy (.t 0)⟩, ⟨none, some 15, .len (.t 14)⟩, ⟨none, some 16, .copy (.c (.lit (.int .i64 0)))⟩] [] []) (.block 0 (.loop [7, 8, 9, 14, 15, 16] L49_0))) (.seq (.reg [⟨none, some 40, .copy (.t 7)⟩, ⟨none, some 6, .copy (.t 40)⟩] [] []) .ret)))))), [.tmp 6]⟩
/- magnetoref12.Right -/
def ir50 : IFn := ⟨(.seq (.reg [⟨none, some 1, .box 3 (.t 0)⟩, ⟨none, some 2, .copy (.c (.lit (.bool false)))⟩] [] []) (.seq (.seq (.reg [⟨none, some 3, .fieldA 0 (.t 1)⟩, ⟨none, some 4, .load false 1 (.t 3)⟩, ⟨none, some 5, .bin .lss (.t 4) (.c (.lit (.int .i64 1)))⟩, ⟨none, some 6, .copy (.t 5)⟩, ⟨some (6, false), some 7, .fieldA 0 (.t 1)⟩, ⟨some (6, false), some 8, .load false 1 (.t 7)⟩, ⟨some (6, false), some 9, .bin .gtr (.t 8) (.c (.lit (.int .i64 1073741824)))⟩, ⟨none, some 10, .pick (.t 6) (.c (.lit (.bool true))) (.t 9)⟩] [] []) (.cond (.t 10) (.seq (.reg [⟨none, some 2, .copy (.c (.lit (.bool false)))⟩] [] []) .ret) .skip)) (.seq (.seq (.reg [⟨none, some 11, .fieldA 2 (.t 1)⟩, ⟨none, some 12, .load false 1 (.t 11)⟩, ⟨none, some 13, .bin .eql (.t 12) (.c (.lit (.int .u32 4294967295)))⟩] [] []) (.cond (.t 13) (.seq (.reg [⟨none, some 14, .fieldA 1 (.t 1)⟩, ⟨none, some 15, .load false 1 (.t 14)⟩, ⟨none, some 16, .bin .eql (.t 15) (.c (.lit (.int .i64 1)))⟩, ⟨none, some 2, .copy (.t 16)⟩] [] []) .ret) .skip)) (.seq (.reg [⟨none, some 17, .fieldA 1 (.t 1)⟩, ⟨none, some 18, .load false 1 (.t 17)⟩, ⟨none, some 19, .bin .eql (.t 18) (.c (.lit (.int .i64 0)))⟩, ⟨none, some 2, .copy (.t 19)⟩] [] []) .ret)))), [.tmp 2]⟩
/- tap.alike -/
def ir51 : IFn := ⟨(.seq (.reg [⟨none, some 2, .box 3 (.t 0)⟩, ⟨none, some 3, .box 3 (.t 1)⟩, ⟨none, some 4, .copy (.c (.lit (.bool false)))⟩] [] []) (.seq (.reg [⟨none, some 5, .fieldA 1 (.t 2)⟩, ⟨none, some 6, .load false 1 (.t 5)⟩, ⟨none, some 7, .fieldA 1 (.t 3)⟩, ⟨none, some 8, .load false 1 (.t 7)⟩, ⟨none, some 9, .bin .eql (.t 6) (.t 8)⟩, ⟨none, some 10, .copy (.t 9)⟩, ⟨some (10, true), some 11, .fieldA 2 (.t 2)⟩, ⟨some (10, true), some 12, .load false 1 (.t 11)⟩, ⟨some (10, true), some 13, .fieldA 2 (.t 3)⟩, ⟨some (10, true), some 14, .load false 1 (.t 13)⟩, ⟨some (10, true), some 15, .bin .eql (.t 12) (.t 14)⟩, ⟨none, some 16, .pick (.t 10) (.t 15) (.c (.lit (.bool false)))⟩, ⟨none, some 4, .copy (.t 16)⟩] [] []) .ret)), [.tmp 4]⟩
/- tap.levels -/
def A52_0 : ICode := (.reg [⟨none, some 10, .alloc [(.lit (.int .i64 0)), (.lit (.int .i64 0)), (.lit (.int .u32 0))]⟩, ⟨none, none, .store 3 (.t 10) (.t 28)⟩] [] [])
def B52_0 : ICode := (.block 2 (.reg [⟨none, some 29, .load false 1 (.t 8)⟩, ⟨none, some 30, .load false 1 (.t 3)⟩, ⟨none, some 31, .load true 3 (.t 10)⟩, ⟨none, some 32, .callV (.t 30) [(.t 31)]⟩, ⟨none, some 33, .mkSlice true 1 [(.lit (.int .i64 0))] 1 [(0, (.t 32))]⟩, ⟨none, some 34, .append true 1 8 (.t 29) (.t 33)⟩, ⟨none, none, .store 1 (.t 8) (.t 34)⟩] [(0, 3), (0, 4)] []))
def ir52 : IFn := ⟨(.seq (.reg [⟨none, some 3, .box 1 (.t 1)⟩, ⟨none, some 4, .copy (.c nilS)⟩, ⟨none, some 5, .copy (.c (.lit (.int .i64 0)))⟩] [] []) (.seq (.reg [⟨none, some 12, .copy (.t 0)⟩, ⟨none, some 13, .call 23 [(.t 12)]⟩, ⟨none, some 11, .copy (.t 13)⟩, ⟨none, some 14, .extract (.t 11) 0⟩, ⟨none, some 15, .extract (.t 11) 1⟩, ⟨none, some 6, .copy (.t 14)⟩, ⟨none, some 7, .copy (.t 15)⟩] [] []) (.seq (.block 0 (.seq (.reg [⟨none, some 17, .copy (.t 7)⟩, ⟨none, some 18, .bin .neq (.t 17) (.c (.lit (.int .i64 0)))⟩, ⟨none, some 16, .copy (.t 18)⟩] [] []) (.cond (.t 16) (.seq (.reg [⟨none, some 19, .copy (.t 7)⟩, ⟨none, some 4, .copy (.c nilS)⟩, ⟨none, some 5, .copy (.t 19)⟩] [] []) .ret) (.seq (.reg [⟨none, some 21, .copy (.t 6)⟩, ⟨none, some 22, .bin .gtr (.t 21) (.c (.lit (.int .i64 1048576)))⟩, ⟨none, some 20, .copy (.t 22)⟩] [] []) (.cond (.t 20) (.seq (.reg [⟨none, some 4, .copy (.c nilS)⟩, ⟨none, some 5, .copy (.c (.lit (.int .i64 12)))⟩] [] []) .ret) .skip))))) (.seq (.reg [⟨none, some 23, .copy (.t 6)⟩, ⟨none, some 24, .make true 1 8 [(.lit (.int .i64 0))] (.c (.lit (.int .i64 0))) (.t 23)⟩, ⟨none, some 8, .alloc [nilS]⟩, ⟨none, none, .store 1 (.t 8) (.t 24)⟩] [] []) (.seq (.seq (.reg [⟨none, some 25, .copy (.t 0)⟩, ⟨none, some 26, .call 35 [(.t 25)]⟩] [] []) (.block 1 (.range (.t 26) [3, 8] [27, 28] A52_0 B52_0))) (.seq (.reg [⟨none, some 35, .load false 1 (.t 8)⟩, ⟨none, some 4, .copy (.t 35)⟩, ⟨none, some 5, .copy (.c (.lit (.int .i64 0)))⟩] [] []) .ret)))))), [.tmp 4, .tmp 5]⟩
/- tap.Bus$1 -/
def ir53 : IFn := ⟨(.seq (.reg [⟨none, some 1, .box 3 (.t 0)⟩, ⟨none, some 2, .copy (.c (.lit (.int .i64 0)))⟩] [] []) (.seq (.reg [⟨none, some 3, .fieldA 1 (.t 1)⟩, ⟨none, some 4, .load false 1 (.t 3)⟩, ⟨none, some 2, .copy (.t 4)⟩] [] []) .ret)), [.tmp 2]⟩
/- tap.Node$1 -/
def ir54 : IFn := ⟨(.seq (.reg [⟨none, some 2, .box 3 (.t 0)⟩, ⟨none, some 3, .copy (.c (.lit (.int .i64 0)))⟩] [] []) (.seq (.reg [⟨none, some 4, .fieldA 2 (.t 2)⟩, ⟨none, some 5, .load false 1 (.t 4)⟩, ⟨none, some 6, .load false 1 (.t 1)⟩, ⟨none, some 7, .bin .shr (.t 5) (.t 6)⟩, ⟨none, some 8, .bin .and (.t 7) (.c (.lit (.int .u32 1)))⟩, ⟨none, some 9, .toInt .i64 (.t 8)⟩, ⟨none, some 3, .copy (.t 9)⟩] [] []) .ret)), [.tmp 3]⟩
/- tap.Each$1 -/
def L55_1 : ICode := (.seq (.reg [⟨none, some 18, .bin .lss (.t 17) (.t 16)⟩] [] []) (.seq (.cond (.t 18) .skip (.exit 2)) (.seq (.block 3 (.seq (.seq (.reg [⟨none, some 19, .copy (.t 0)⟩, ⟨none, some 20, .copy (.t 3)⟩, ⟨none, some 21, .fieldA 1 (.t 5)⟩, ⟨none, some 22, .load false 1 (.t 21)⟩, ⟨none, some 23, .fieldA 2 (.t 5)⟩, ⟨none, some 24, .load false 1 (.t 23)⟩, ⟨none, some 25, .build [(.lit (.int .i64 0)), (.lit (.int .i64 0)), (.lit (.int .u32 0))] [(0, 1, (.c (.lit (.int .i64 1)))), (1, 1, (.t 22)), (2, 1, (.t 24))]⟩, ⟨none, some 26, .callV (.t 19) [(.t 20), (.t 25)]⟩, ⟨none, some 27, .un .not (.t 26)⟩] [] []) (.cond (.t 27) .ret .skip)) (.reg [⟨none, some 28, .copy (.t 3)⟩, ⟨none, some 29, .bin .add (.t 28) (.c (.lit (.int .i64 1)))⟩, ⟨none, some 3, .copy (.t 29)⟩] [] []))) (.reg [⟨none, some 30, .bin .add (.t 17) (.c (.lit (.int .i64 1)))⟩, ⟨none, some 17, .copy (.t 30)⟩] [] []))))
def L55_0 : ICode := (.seq (.reg [⟨none, some 12, .bin .lss (.t 11) (.t 10)⟩] [] []) (.seq (.cond (.t 12) .skip (.exit 0)) (.seq (.block 1 (.seq (.reg [⟨none, some 13, .idxS 3 (.t 9) (.t 11)⟩, ⟨none, some 14, .load true 3 (.t 13)⟩, ⟨none, some 5, .alloc [(.lit (.int .i64 0)), (.lit (.int .i64 0)), (.lit (.int .u32 0))]⟩, ⟨none, none, .store 3 (.t 5) (.t 14)⟩] [] []) (.seq (.reg [⟨none, some 15, .fieldA 0 (.t 5)⟩, ⟨none, some 16, .load false 1 (.t 15)⟩, ⟨none, some 17, .copy (.c (.lit (.int .i64 0)))⟩] [] []) (.block 2 (.loop [0, 3, 5, 9, 10, 11, 16, 17] L55_1))))) (.reg [⟨none, some 31, .bin .add (.t 11) (.c (.lit (.int .i64 1)))⟩, ⟨none, some 11, .copy (.t 31)⟩] [] []))))
def ir55 : IFn := ⟨(.seq (.seq (.reg [⟨none, some 6, .load false 1 (.t 1)⟩, ⟨none, some 7, .call 22 [(.t 6)]⟩, ⟨none, some 8, .bin .neq (.t 7) (.c (.lit (.int .i64 0)))⟩] [] []) (.cond (.t 8) .ret .skip)) (.seq (.reg [⟨none, some 3, .copy (.c (.lit (.int .i64 0)))⟩] [] []) (.seq (.reg [⟨none, some 9, .load false 1 (.t 1)⟩, ⟨none, some 10, .len (.t 9)⟩, ⟨none, some 11, .copy (.c (.lit (.int .i64 0)))⟩] [] []) (.block 0 (.loop [0, 3, 9, 10, 11] L55_0))))), []⟩
/- sum32.Open -/
def ir56 : IFn := ⟨(.seq (.reg [⟨none, some 2, .copy (.c nilS)⟩, ⟨none, some 3, .copy (.c (.lit (.int .i64 0)))⟩] [] []) (.seq (.reg [⟨none, some 5, .copy (.t 0)⟩, ⟨none, some 6, .len (.t 5)⟩, ⟨none, some 7, .bin .sub (.t 6) (.c (.lit (.int .i64 4)))⟩, ⟨none, some 4, .copy (.t 7)⟩] [] []) (.seq (.block 0 (.seq (.reg [⟨none, some 9, .copy (.t 4)⟩, ⟨none, some 10, .bin .lss (.t 9) (.c (.lit (.int .i64 0)))⟩, ⟨none, some 8, .copy (.t 10)⟩] [] []) (.cond (.t 8) (.seq (.reg [⟨none, some 2, .copy (.c nilS)⟩, ⟨none, some 3, .copy (.c (.lit (.int .i64 13)))⟩] [] []) .ret) (.seq (.reg [⟨none, some 12, .copy (.t 0)⟩, ⟨none, some 13, .copy (.t 4)⟩, ⟨none, some 14, .slice 1 (.t 12) (some (.t 13)) none none⟩, ⟨none, some 15, .copy (.t 0)⟩, ⟨none, some 16, .copy (.t 4)⟩, ⟨none, some 17, .slice 1 (.t 15) none (some (.t 16)) none⟩, ⟨none, some 18, .call 66 [(.t 17)]⟩, ⟨none, some 19, .call 65 [(.t 18)]⟩, ⟨none, some 20, .call 70 [(.t 14), (.t 19)]⟩, ⟨none, some 21, .un .not (.t 20)⟩, ⟨none, some 11, .copy (.t 21)⟩] [] []) (.cond (.t 11) (.seq (.reg [⟨none, some 2, .copy (.c nilS)⟩, ⟨none, some 3, .copy (.c (.lit (.int .i64 18)))⟩] [] []) .ret) .skip))))) (.seq (.reg [⟨none, some 22, .copy (.t 0)⟩, ⟨none, some 23, .copy (.t 4)⟩, ⟨none, some 24, .slice 1 (.t 22) none (some (.t 23)) none⟩, ⟨none, some 25, .call 64 [(.t 24)]⟩, ⟨none, some 2, .copy (.t 25)⟩, ⟨none, some 3, .copy (.c (.lit (.int .i64 0)))⟩] [] []) .ret)))), [.tmp 2, .tmp 3]⟩
/- vari.Get -/
def L57_0 : ICode := (.seq (.reg [⟨none, some 13, .bin .lss (.t 12) (.t 11)⟩] [] []) (.seq (.cond (.t 13) .skip (.exit 0)) (.seq (.block 1 (.seq (.reg [⟨none, some 14, .copy (.t 12)⟩, ⟨none, some 15, .idxS 1 (.t 10) (.t 12)⟩, ⟨none, some 16, .load false 1 (.t 15)⟩, ⟨none, some 8, .copy (.t 14)⟩, ⟨none, some 9, .copy (.t 16)⟩] [] []) (.seq (.block 2 (.seq (.reg [⟨none, some 18, .copy (.t 8)⟩, ⟨none, some 19, .bin .eql (.t 18) (.c (.lit (.int .i64 9)))⟩, ⟨none, some 20, .copy (.t 19)⟩, ⟨some (20, true), some 21, .copy (.t 9)⟩, ⟨some (20, true), some 22, .bin .gtr (.t 21) (.c (.lit (.int .u8 1)))⟩, ⟨none, some 23, .pick (.t 20) (.t 22) (.c (.lit (.bool false)))⟩, ⟨none, some 17, .copy (.t 23)⟩] [] []) (.cond (.t 17) (.seq (.reg [⟨none, some 6, .copy (.c (.lit (.int .i64 10)))⟩] [] []) (.exit 0)) (.seq (.reg [⟨none, some 25, .copy (.t 9)⟩, ⟨none, some 26, .bin .eql (.t 25) (.c (.lit (.int .u8 0)))⟩, ⟨none, some 27, .copy (.t 26)⟩, ⟨some (27, true), some 28, .copy (.t 8)⟩, ⟨some (27, true), some 29, .bin .gtr (.t 28) (.c (.lit (.int .i64 0)))⟩, ⟨none, some 30, .pick (.t 27) (.t 29) (.c (.lit (.bool false)))⟩, ⟨none, some 24, .copy (.t 30)⟩] [] []) (.cond (.t 24) (.seq (.reg [⟨none, some 6, .copy (.c (.lit (.int .i64 11)))⟩] [] []) (.exit 0)) .skip))))) (.seq (.reg [⟨none, some 31, .copy (.t 5)⟩, ⟨none, some 32, .copy (.t 9)⟩, ⟨none, some 33, .bin .and (.t 32) (.c (.lit (.int .u8 127)))⟩, ⟨none, some 34, .toInt .u64 (.t 33)⟩, ⟨none, some 35, .copy (.t 8)⟩, ⟨none, some 36, .bin .mul (.c (.lit (.int .i64 7))) (.t 35)⟩, ⟨none, some 37, .bin .shl (.t 34) (.t 36)⟩, ⟨none, some 38, .bin .or (.t 31) (.t 37)⟩, ⟨none, some 5, .copy (.t 38)⟩] [] []) (.seq (.reg [⟨none, some 39, .copy (.t 9)⟩, ⟨none, some 40, .bin .lss (.t 39) (.c (.lit (.int .u8 128)))⟩] [] []) (.cond (.t 40) (.seq (.reg [⟨none, some 41, .copy (.t 8)⟩, ⟨none, some 42, .bin .add (.t 41) (.c (.lit (.int .i64 1)))⟩, ⟨none, some 7, .copy (.t 42)⟩, ⟨none, some 6, .copy (.c (.lit (.int .i64 0)))⟩] [] []) (.exit 0)) .skip)))))) (.reg [⟨none, some 43, .bin .add (.t 12) (.c (.lit (.int .i64 1)))⟩, ⟨none, some 12, .copy (.t 43)⟩] [] []))))
def ir57 : IFn := ⟨(.seq (.reg [⟨none, some 2, .copy (.c (.lit (.int .u64 0)))⟩, ⟨none, some 3, .copy (.c (.lit (.int .i64 0)))⟩, ⟨none, some 4, .copy (.c (.lit (.int .i64 0)))⟩] [] []) (.scope (.seq (.reg [⟨none, some 5, .copy (.c (.lit (.int .u64 0)))⟩] [] []) (.seq (.reg [⟨none, some 6, .copy (.c (.lit (.int .i64 13)))⟩] [] []) (.seq (.reg [⟨none, some 7, .copy (.c (.lit (.int .i64 0)))⟩] [] []) (.seq .skip (.seq (.seq (.reg [⟨none, some 10, .copy (.t 0)⟩, ⟨none, some 11, .len (.t 10)⟩, ⟨none, some 12, .copy (.c (.lit (.int .i64 0)))⟩] [] []) (.block 0 (.loop [5, 6, 7, 10, 11, 12] L57_0))) (.seq (.seq (.reg [⟨none, some 44, .copy (.t 6)⟩, ⟨none, some 45, .bin .neq (.t 44) (.c (.lit (.int .i64 0)))⟩] [] []) (.cond (.t 45) (.seq (.reg [⟨none, some 46, .copy (.t 6)⟩, ⟨none, some 2, .copy (.c (.lit (.int .u64 0)))⟩, ⟨none, some 3, .copy (.c (.lit (.int .i64 0)))⟩, ⟨none, some 4, .copy (.t 46)⟩] [] []) .ret) .skip)) (.seq (.reg [⟨none, some 47, .copy (.t 5)⟩, ⟨none, some 48, .copy (.t 7)⟩, ⟨none, some 2, .copy (.t 47)⟩, ⟨none, some 3, .copy (.t 48)⟩, ⟨none, some 4, .copy (.c (.lit (.int .i64 0)))⟩] [] []) .ret))))))))), [.tmp 2, .tmp 3, .tmp 4]⟩
/- vari.All -/
def A58_0 : ICode := (.reg [⟨none, some 6, .alloc [(.lit (.int .u64 0)), (.lit (.int .i64 0)), (.lit (.int .i64 0))]⟩, ⟨none, none, .store 3 (.t 6) (.t 9)⟩] [] [])
def B58_0 : ICode := (.block 1 (.seq (.seq (.reg [⟨none, some 10, .fieldA 2 (.t 6)⟩, ⟨none, some 11, .load false 1 (.t 10)⟩, ⟨none, some 12, .bin .neq (.t 11) (.c (.lit (.int .i64 0)))⟩] [] []) (.cond (.t 12) (.seq (.reg [⟨none, some 13, .fieldA 1 (.t 6)⟩, ⟨none, some 14, .load false 1 (.t 13)⟩, ⟨none, some 15, .fieldA 2 (.t 6)⟩, ⟨none, some 16, .load false 1 (.t 15)⟩, ⟨none, none, .store 1 (.t 2) (.c nilS)⟩, ⟨none, none, .store 1 (.t 3) (.t 14)⟩, ⟨none, none, .store 1 (.t 4) (.t 16)⟩] [(1, 4), (3, 4), (3, 5)] []) .ret) .skip)) (.reg [⟨none, some 17, .load false 1 (.t 5)⟩, ⟨none, some 18, .fieldA 0 (.t 6)⟩, ⟨none, some 19, .load false 1 (.t 18)⟩, ⟨none, some 20, .mkSlice true 1 [(.lit (.int .u64 0))] 1 [(0, (.t 19))]⟩, ⟨none, some 21, .append true 1 8 (.t 17) (.t 20)⟩, ⟨none, none, .store 1 (.t 5) (.t 21)⟩] [] [])))
def ir58 : IFn := ⟨(.seq (.reg [⟨none, some 2, .alloc [nilS]⟩, ⟨none, some 3, .alloc [(.lit (.int .i64 0))]⟩, ⟨none, some 4, .alloc [(.lit (.int .i64 0))]⟩] [] []) (.seq (.reg [⟨none, some 5, .alloc [nilS]⟩] [] []) (.seq (.seq (.reg [⟨none, some 7, .copy (.t 0)⟩, ⟨none, some 8, .call 71 [(.t 7)]⟩] [] []) (.block 0 (.range (.t 8) [2, 3, 4, 5] [9] A58_0 B58_0))) (.seq (.reg [⟨none, some 22, .load false 1 (.t 5)⟩, ⟨none, none, .store 1 (.t 2) (.t 22)⟩, ⟨none, none, .store 1 (.t 3) (.c (.lit (.int .i64 0)))⟩, ⟨none, none, .store 1 (.t 4) (.c (.lit (.int .i64 0)))⟩] [] []) .ret)))), [.cell 2 false 1, .cell 3 false 1, .cell 4 false 1]⟩
/- block.inside -/
def L59_0 : ICode := (.seq (.reg [⟨none, some 20, .bin .lss (.t 19) (.t 18)⟩] [] []) (.seq (.cond (.t 20) .skip (.exit 0)) (.seq (.block 1 (.seq (.reg [⟨none, some 21, .copy (.t 5)⟩, ⟨none, some 22, .callV (.t 21) [(.c (.lit (.int .u64 1073741824)))]⟩, ⟨none, some 23, .toInt .i64 (.t 22)⟩, ⟨none, some 24, .copy (.t 5)⟩, ⟨none, some 25, .callV (.t 24) [(.c (.lit (.int .u64 4294967295)))]⟩, ⟨none, some 26, .toInt .u32 (.t 25)⟩, ⟨none, some 27, .copy (.t 8)⟩, ⟨none, some 28, .bin .xor (.t 26) (.t 27)⟩, ⟨none, some 29, .build [(.lit (.int .i64 0)), (.lit (.int .i64 0)), (.lit (.int .u32 0))] [(0, 1, (.t 23)), (2, 1, (.t 28))]⟩, ⟨none, some 9, .alloc [(.lit (.int .i64 0)), (.lit (.int .i64 0)), (.lit (.int .u32 0))]⟩, ⟨none, none, .store 3 (.t 9) (.t 29)⟩] [] []) (.seq (.seq (.reg [⟨none, some 30, .fieldA 2 (.t 9)⟩, ⟨none, some 31, .load false 1 (.t 30)⟩, ⟨none, some 8, .copy (.t 31)⟩] [] []) (.seq (.reg [⟨none, some 32, .copy (.t 8)⟩, ⟨none, some 33, .bin .eql (.t 32) (.c (.lit (.int .u32 4294967295)))⟩] [] []) (.cond (.t 33) (.reg [⟨none, some 34, .fieldA 1 (.t 9)⟩, ⟨none, none, .store 1 (.t 34) (.c (.lit (.int .i64 1)))⟩] [] []) .skip))) (.reg [⟨none, some 35, .fieldA 1 (.t 6)⟩, ⟨none, some 36, .load false 1 (.t 35)⟩, ⟨none, some 37, .load true 3 (.t 9)⟩, ⟨none, some 38, .mkSlice true 3 [(.lit (.int .i64 0)), (.lit (.int .i64 0)), (.lit (.int .u32 0))] 1 [(0, (.t 37))]⟩, ⟨none, some 39, .append true 3 24 (.t 36) (.t 38)⟩, ⟨none, some 40, .fieldA 1 (.t 6)⟩, ⟨none, none, .store 1 (.t 40) (.t 39)⟩] [] [])))) (.reg [⟨none, some 41, .bin .add (.t 19) (.c (.lit (.int .i64 1)))⟩, ⟨none, some 19, .copy (.t 41)⟩] [] []))))
def ir59 : IFn := ⟨(.seq (.reg [⟨none, some 1, .box 1 (.t 0)⟩, ⟨none, some 2, .alloc [(.lit (.int .i64 0)), nilS]⟩, ⟨none, some 3, .copy (.c (.lit (.bool false)))⟩] [] []) (.seq (.reg [⟨none, some 4, .alloc [(.lit (.bool false))]⟩, ⟨none, none, .store 1 (.t 4) (.c (.lit (.bool true)))⟩] [] []) (.seq (.reg [⟨none, some 10, .mkFunc (.func 72) [] [(.t 1), (.t 4)]⟩, ⟨none, some 5, .copy (.t 10)⟩] [] []) (.seq (.reg [⟨none, some 11, .copy (.t 5)⟩, ⟨none, some 12, .callV (.t 11) [(.c (.lit (.int .u64 1073741824)))]⟩, ⟨none, some 13, .toInt .i64 (.t 12)⟩, ⟨none, some 14, .build [(.lit (.int .i64 0)), nilS] [(0, 1, (.t 13))]⟩, ⟨none, some 6, .alloc [(.lit (.int .i64 0)), nilS]⟩, ⟨none, none, .store 2 (.t 6) (.t 14)⟩] [] []) (.seq (.reg [⟨none, some 15, .copy (.t 5)⟩, ⟨none, some 16, .callV (.t 15) [(.c (.lit (.int .u64 4096)))]⟩, ⟨none, some 17, .toInt .i64 (.t 16)⟩, ⟨none, some 7, .copy (.t 17)⟩] [] []) (.seq (.reg [⟨none, some 8, .copy (.c (.lit (.int .u32 4294967295)))⟩] [] []) (.seq (.seq (.reg [⟨none, some 18, .copy (.t 7)⟩, ⟨none, some 19, .copy (.c (.lit (.int .i64 0)))⟩] [] []) (.block 0 (.loop [1, 2, 4, 5, 6, 8, 18, 19] L59_0))) (.seq (.reg [⟨none, some 42, .load true 2 (.t 6)⟩, ⟨none, some 43, .load false 1 (.t 4)⟩, ⟨none, some 44, .copy (.t 43)⟩, ⟨some (44, true), some 45, .load false 1 (.t 1)⟩, ⟨some (44, true), some 46, .len (.t 45)⟩, ⟨some (44, true), some 47, .bin .eql (.t 46) (.c (.lit (.int .i64 0)))⟩, ⟨none, some 48, .pick (.t 44) (.t 47) (.c (.lit (.bool false)))⟩, ⟨none, some 49, .copy (.t 48)⟩, ⟨some (49, true), some 50, .load true 2 (.t 6)⟩, ⟨some (49, true), some 51, .call 18 [(.t 50)]⟩, ⟨some (49, true), some 52, .bin .eql (.t 51) (.c (.lit (.int .i64 0)))⟩, ⟨none, some 53, .pick (.t 49) (.t 52) (.c (.lit (.bool false)))⟩, ⟨none, none, .store 2 (.t 2) (.t 42)⟩, ⟨none, some 3, .copy (.t 53)⟩] [(0, 9)] []) .ret)))))))), [.cell 2 true 2, .tmp 3]⟩
/- magnetoref14.Open -/
def L60_0 : ICode := (.seq (.seq (.reg [⟨none, some 15, .copy (.t 5)⟩, ⟨none, some 16, .copy (.t 4)⟩, ⟨none, some 17, .len (.t 16)⟩, ⟨none, some 18, .bin .lss (.t 15) (.t 17)⟩] [] []) (.cond (.t 18) .skip (.exit 0))) (.seq (.block 1 (.seq (.reg [⟨none, some 21, .copy (.t 4)⟩, ⟨none, some 22, .copy (.t 5)⟩, ⟨none, some 23, .idxS 1 (.t 21) (.t 22)⟩, ⟨none, some 24, .load false 1 (.t 23)⟩, ⟨none, some 25, .copy (.t 0)⟩, ⟨none, some 26, .copy (.t 5)⟩, ⟨none, some 27, .idxS 1 (.t 25) (.t 26)⟩, ⟨none, some 28, .load false 1 (.t 27)⟩, ⟨none, some 29, .bin .neq (.t 24) (.t 28)⟩] [] []) (.cond (.t 29) (.seq (.reg [⟨none, some 2, .copy (.c nilS)⟩, ⟨none, some 3, .copy (.c (.lit (.int .i64 18)))⟩] [] []) .ret) .skip))) (.reg [⟨none, some 19, .copy (.t 5)⟩, ⟨none, some 20, .bin .add (.t 19) (.c (.lit (.int .i64 1)))⟩, ⟨none, some 5, .copy (.t 20)⟩] [] [])))
def ir60 : IFn := ⟨(.seq (.reg [⟨none, some 2, .copy (.c nilS)⟩, ⟨none, some 3, .copy (.c (.lit (.int .i64 0)))⟩] [] []) (.seq (.seq (.reg [⟨none, some 6, .copy (.t 0)⟩, ⟨none, some 7, .len (.t 6)⟩, ⟨none, some 8, .bin .lss (.t 7) (.c (.lit (.int .i64 4)))⟩] [] []) (.cond (.t 8) (.seq (.reg [⟨none, some 2, .copy (.c nilS)⟩, ⟨none, some 3, .copy (.c (.lit (.int .i64 13)))⟩] [] []) .ret) .skip)) (.seq (.reg [⟨none, some 9, .copy (.t 0)⟩, ⟨none, some 10, .copy (.t 0)⟩, ⟨none, some 11, .len (.t 10)⟩, ⟨none, some 12, .bin .sub (.t 11) (.c (.lit (.int .i64 4)))⟩, ⟨none, some 13, .slice 1 (.t 9) none (some (.t 12)) none⟩, ⟨none, some 14, .call 68 [(.t 13)]⟩, ⟨none, some 4, .copy (.t 14)⟩] [] []) (.seq (.seq (.reg [⟨none, some 5, .copy (.c (.lit (.int .i64 0)))⟩] [] []) (.block 0 (.loop [0, 4, 5] L60_0))) (.seq (.reg [⟨none, some 30, .copy (.t 0)⟩, ⟨none, some 31, .copy (.t 0)⟩, ⟨none, some 32, .len (.t 31)⟩, ⟨none, some 33, .bin .sub (.t 32) (.c (.lit (.int .i64 4)))⟩, ⟨none, some 34, .slice 1 (.t 30) none (some (.t 33)) none⟩, ⟨none, some 2, .copy (.t 34)⟩, ⟨none, some 3, .copy (.c (.lit (.int .i64 0)))⟩] [] []) .ret))))), [.tmp 2, .tmp 3]⟩
/- magnetoref13.Get -/
def L61_0 : ICode := (.seq (.seq (.reg [⟨none, some 8, .copy (.t 7)⟩, ⟨none, some 9, .copy (.t 0)⟩, ⟨none, some 10, .len (.t 9)⟩, ⟨none, some 11, .bin .lss (.t 8) (.t 10)⟩] [] []) (.cond (.t 11) .skip (.exit 0))) (.seq (.block 1 (.seq (.seq (.reg [⟨none, some 14, .copy (.t 7)⟩, ⟨none, some 15, .bin .eql (.t 14) (.c (.lit (.int .i64 9)))⟩, ⟨none, some 16, .copy (.t 15)⟩, ⟨some (16, true), some 17, .copy (.t 0)⟩, ⟨some (16, true), some 18, .copy (.t 7)⟩, ⟨some (16, true), some 19, .idxS 1 (.t 17) (.t 18)⟩, ⟨some (16, true), some 20, .load false 1 (.t 19)⟩, ⟨some (16, true), some 21, .bin .gtr (.t 20) (.c (.lit (.int .u8 1)))⟩, ⟨none, some 22, .pick (.t 16) (.t 21) (.c (.lit (.bool false)))⟩] [] []) (.cond (.t 22) (.seq (.reg [⟨none, some 2, .copy (.c (.lit (.int .u64 0)))⟩, ⟨none, some 3, .copy (.c (.lit (.int .i64 0)))⟩, ⟨none, some 4, .copy (.c (.lit (.int .i64 10)))⟩] [] []) .ret) .skip)) (.seq (.seq (.reg [⟨none, some 23, .copy (.t 0)⟩, ⟨none, some 24, .copy (.t 7)⟩, ⟨none, some 25, .idxS 1 (.t 23) (.t 24)⟩, ⟨none, some 26, .load false 1 (.t 25)⟩, ⟨none, some 27, .bin .eql (.t 26) (.c (.lit (.int .u8 0)))⟩, ⟨none, some 28, .copy (.t 27)⟩, ⟨some (28, true), some 29, .copy (.t 7)⟩, ⟨some (28, true), some 30, .bin .gtr (.t 29) (.c (.lit (.int .i64 0)))⟩, ⟨none, some 31, .pick (.t 28) (.t 30) (.c (.lit (.bool false)))⟩] [] []) (.cond (.t 31) (.seq (.reg [⟨none, some 2, .copy (.c (.lit (.int .u64 0)))⟩, ⟨none, some 3, .copy (.c (.lit (.int .i64 0)))⟩, ⟨none, some 4, .copy (.c (.lit (.int .i64 11)))⟩] [] []) .ret) .skip)) (.seq (.reg [⟨none, some 32, .copy (.t 5)⟩, ⟨none, some 33, .copy (.t 6)⟩, ⟨none, some 34, .copy (.t 0)⟩, ⟨none, some 35, .copy (.t 7)⟩, ⟨none, some 36, .idxS 1 (.t 34) (.t 35)⟩, ⟨none, some 37, .load false 1 (.t 36)⟩, ⟨none, some 38, .bin .rem (.t 37) (.c (.lit (.int .u8 128)))⟩, ⟨none, some 39, .toInt .u64 (.t 38)⟩, ⟨none, some 40, .bin .mul (.t 33) (.t 39)⟩, ⟨none, some 41, .bin .add (.t 32) (.t 40)⟩, ⟨none, some 5, .copy (.t 41)⟩] [] []) (.seq (.reg [⟨none, some 42, .copy (.t 6)⟩, ⟨none, some 43, .bin .mul (.t 42) (.c (.lit (.int .u64 128)))⟩, ⟨none, some 6, .copy (.t 43)⟩] [] []) (.seq (.reg [⟨none, some 44, .copy (.t 0)⟩, ⟨none, some 45, .copy (.t 7)⟩, ⟨none, some 46, .idxS 1 (.t 44) (.t 45)⟩, ⟨none, some 47, .load false 1 (.t 46)⟩, ⟨none, some 48, .bin .lss (.t 47) (.c (.lit (.int .u8 128)))⟩] [] []) (.cond (.t 48) (.seq (.reg [⟨none, some 49, .copy (.t 5)⟩, ⟨none, some 50, .copy (.t 7)⟩, ⟨none, some 51, .bin .add (.t 50) (.c (.lit (.int .i64 1)))⟩, ⟨none, some 2, .copy (.t 49)⟩, ⟨none, some 3, .copy (.t 51)⟩, ⟨none, some 4, .copy (.c (.lit (.int .i64 0)))⟩] [] []) .ret) .skip))))))) (.reg [⟨none, some 12, .copy (.t 7)⟩, ⟨none, some 13, .bin .add (.t 12) (.c (.lit (.int .i64 1)))⟩, ⟨none, some 7, .copy (.t 13)⟩] [] [])))
def ir61 : IFn := ⟨(.seq (.reg [⟨none, some 2, .copy (.c (.lit (.int .u64 0)))⟩, ⟨none, some 3, .copy (.c (.lit (.int .i64 0)))⟩, ⟨none, some 4, .copy (.c (.lit (.int .i64 0)))⟩] [] []) (.seq (.reg [⟨none, some 5, .copy (.c (.lit (.int .u64 0)))⟩] [] []) (.seq (.reg [⟨none, some 6, .copy (.c (.lit (.int .u64 1)))⟩] [] []) (.seq (.seq (.reg [⟨none, some 7, .copy (.c (.lit (.int .i64 0)))⟩] [] []) (.block 0 (.loop [0, 5, 6, 7] L61_0))) (.seq (.reg [⟨none, some 2, .copy (.c (.lit (.int .u64 0)))⟩, ⟨none, some 3, .copy (.c (.lit (.int .i64 0)))⟩, ⟨none, some 4, .copy (.c (.lit (.int .i64 13)))⟩] [] []) .ret))))), [.tmp 2, .tmp 3, .tmp 4]⟩
/- magnetoref13.All -/
def L62_0 : ICode := (.seq (.seq (.reg [⟨none, some 11, .copy (.t 6)⟩, ⟨none, some 12, .copy (.t 0)⟩, ⟨none, some 13, .len (.t 12)⟩, ⟨none, some 14, .bin .lss (.t 11) (.t 13)⟩] [] []) (.cond (.t 14) .skip (.exit 0))) (.block 1 (.seq (.reg [⟨none, some 16, .copy (.t 0)⟩, ⟨none, some 17, .copy (.t 6)⟩, ⟨none, some 18, .slice 1 (.t 16) (some (.t 17)) none none⟩, ⟨none, some 19, .call 61 [(.t 18)]⟩, ⟨none, some 15, .copy (.t 19)⟩, ⟨none, some 20, .extract (.t 15) 0⟩, ⟨none, some 21, .extract (.t 15) 1⟩, ⟨none, some 22, .extract (.t 15) 2⟩, ⟨none, some 7, .copy (.t 20)⟩, ⟨none, some 8, .copy (.t 21)⟩, ⟨none, some 9, .copy (.t 22)⟩] [] []) (.seq (.seq (.reg [⟨none, some 23, .copy (.t 9)⟩, ⟨none, some 24, .bin .neq (.t 23) (.c (.lit (.int .i64 0)))⟩] [] []) (.cond (.t 24) (.seq (.reg [⟨none, some 25, .copy (.t 6)⟩, ⟨none, some 26, .copy (.t 9)⟩, ⟨none, some 2, .copy (.c nilS)⟩, ⟨none, some 3, .copy (.t 25)⟩, ⟨none, some 4, .copy (.t 26)⟩] [] []) .ret) .skip)) (.seq (.reg [⟨none, some 27, .copy (.t 5)⟩, ⟨none, some 28, .copy (.t 7)⟩, ⟨none, some 29, .mkSlice true 1 [(.lit (.int .u64 0))] 1 [(0, (.t 28))]⟩, ⟨none, some 30, .append true 1 8 (.t 27) (.t 29)⟩, ⟨none, some 5, .copy (.t 30)⟩] [] []) (.reg [⟨none, some 31, .copy (.t 6)⟩, ⟨none, some 32, .copy (.t 8)⟩, ⟨none, some 33, .bin .add (.t 31) (.t 32)⟩, ⟨none, some 6, .copy (.t 33)⟩] [] []))))))
def ir62 : IFn := ⟨(.seq (.reg [⟨none, some 2, .copy (.c nilS)⟩, ⟨none, some 3, .copy (.c (.lit (.int .i64 0)))⟩, ⟨none, some 4, .copy (.c (.lit (.int .i64 0)))⟩] [] []) (.seq (.reg [⟨none, some 10, .mkSlice true 1 [(.lit (.int .u64 0))] 0 []⟩, ⟨none, some 5, .copy (.t 10)⟩] [] []) (.seq (.reg [⟨none, some 6, .copy (.c (.lit (.int .i64 0)))⟩] [] []) (.seq (.block 0 (.loop [0, 5, 6] L62_0)) (.seq (.reg [⟨none, some 34, .copy (.t 5)⟩, ⟨none, some 2, .copy (.t 34)⟩, ⟨none, some 3, .copy (.c (.lit (.int .i64 0)))⟩, ⟨none, some 4, .copy (.c (.lit (.int .i64 0)))⟩] [] []) .ret))))), [.tmp 2, .tmp 3, .tmp 4]⟩
/- magnetoref15.Of -/
def L63_0 : ICode := (.seq (.seq (.reg [⟨none, some 24, .copy (.t 5)⟩, ⟨none, some 25, .bin .add (.t 24) (.c (.lit (.int .i64 1)))⟩, ⟨none, some 26, .copy (.t 0)⟩, ⟨none, some 27, .len (.t 26)⟩, ⟨none, some 28, .bin .lss (.t 25) (.t 27)⟩] [] []) (.cond (.t 28) .skip (.exit 0))) (.seq (.block 1 (.seq (.seq (.reg [⟨none, some 31, .copy (.t 0)⟩, ⟨none, some 32, .copy (.t 5)⟩, ⟨none, some 33, .idxS 1 (.t 31) (.t 32)⟩, ⟨none, some 34, .load false 1 (.t 33)⟩, ⟨none, some 35, .bin .gtr (.t 34) (.c (.lit (.int .u64 1073741824)))⟩, ⟨none, some 36, .copy (.t 35)⟩, ⟨some (36, false), some 37, .copy (.t 0)⟩, ⟨some (36, false), some 38, .copy (.t 5)⟩, ⟨some (36, false), some 39, .bin .add (.t 38) (.c (.lit (.int .i64 1)))⟩, ⟨some (36, false), some 40, .idxS 1 (.t 37) (.t 39)⟩, ⟨some (36, false), some 41, .load false 1 (.t 40)⟩, ⟨some (36, false), some 42, .bin .gtr (.t 41) (.c (.lit (.int .u64 4294967295)))⟩, ⟨none, some 43, .pick (.t 36) (.c (.lit (.bool true))) (.t 42)⟩] [] []) (.cond (.t 43) (.seq (.reg [⟨none, some 44, .load true 2 (.t 3)⟩, ⟨none, none, .store 2 (.t 2) (.t 44)⟩] [] []) .ret) .skip)) (.seq (.reg [⟨none, some 45, .copy (.t 4)⟩, ⟨none, some 46, .copy (.t 0)⟩, ⟨none, some 47, .copy (.t 5)⟩, ⟨none, some 48, .bin .add (.t 47) (.c (.lit (.int .i64 1)))⟩, ⟨none, some 49, .idxS 1 (.t 46) (.t 48)⟩, ⟨none, some 50, .load false 1 (.t 49)⟩, ⟨none, some 51, .toInt .u32 (.t 50)⟩, ⟨none, some 52, .bin .xor (.t 45) (.t 51)⟩, ⟨none, some 4, .copy (.t 52)⟩] [] []) (.seq (.reg [⟨none, some 53, .copy (.t 0)⟩, ⟨none, some 54, .copy (.t 5)⟩, ⟨none, some 55, .idxS 1 (.t 53) (.t 54)⟩, ⟨none, some 56, .load false 1 (.t 55)⟩, ⟨none, some 57, .toInt .i64 (.t 56)⟩, ⟨none, some 58, .copy (.t 4)⟩, ⟨none, some 59, .build [(.lit (.int .i64 0)), (.lit (.int .i64 0)), (.lit (.int .u32 0))] [(0, 1, (.t 57)), (2, 1, (.t 58))]⟩, ⟨none, some 6, .alloc [(.lit (.int .i64 0)), (.lit (.int .i64 0)), (.lit (.int .u32 0))]⟩, ⟨none, none, .store 3 (.t 6) (.t 59)⟩] [] []) (.seq (.seq (.reg [⟨none, some 60, .copy (.t 4)⟩, ⟨none, some 61, .bin .eql (.t 60) (.c (.lit (.int .u32 4294967295)))⟩] [] []) (.cond (.t 61) (.reg [⟨none, some 62, .fieldA 1 (.t 6)⟩, ⟨none, none, .store 1 (.t 62) (.c (.lit (.int .i64 1)))⟩] [] []) .skip)) (.reg [⟨none, some 63, .fieldA 1 (.t 3)⟩, ⟨none, some 64, .load false 1 (.t 63)⟩, ⟨none, some 65, .load true 3 (.t 6)⟩, ⟨none, some 66, .mkSlice true 3 [(.lit (.int .i64 0)), (.lit (.int .i64 0)), (.lit (.int .u32 0))] 1 [(0, (.t 65))]⟩, ⟨none, some 67, .append true 3 24 (.t 64) (.t 66)⟩, ⟨none, some 68, .fieldA 1 (.t 3)⟩, ⟨none, none, .store 1 (.t 68) (.t 67)⟩] [] [])))))) (.reg [⟨none, some 29, .copy (.t 5)⟩, ⟨none, some 30, .bin .add (.t 29) (.c (.lit (.int .i64 2)))⟩, ⟨none, some 5, .copy (.t 30)⟩] [] [])))
def ir63 : IFn := ⟨(.seq (.reg [⟨none, some 2, .alloc [(.lit (.int .i64 0)), nilS]⟩] [] []) (.seq (.reg [⟨none, some 7, .build [(.lit (.int .i64 0)), nilS] [(0, 1, (.c (.lit (.int .i64 (-1)))))]⟩, ⟨none, some 3, .alloc [(.lit (.int .i64 0)), nilS]⟩, ⟨none, none, .store 2 (.t 3) (.t 7)⟩] [] []) (.seq (.seq (.reg [⟨none, some 8, .copy (.t 0)⟩, ⟨none, some 9, .len (.t 8)⟩, ⟨none, some 10, .bin .lss (.t 9) (.c (.lit (.int .i64 2)))⟩, ⟨none, some 11, .copy (.t 10)⟩, ⟨some (11, false), some 12, .copy (.t 0)⟩, ⟨some (11, false), some 13, .len (.t 12)⟩, ⟨some (11, false), some 14, .bin .rem (.t 13) (.c (.lit (.int .i64 2)))⟩, ⟨some (11, false), some 15, .bin .neq (.t 14) (.c (.lit (.int .i64 0)))⟩, ⟨none, some 16, .pick (.t 11) (.c (.lit (.bool true))) (.t 15)⟩, ⟨none, some 17, .copy (.t 16)⟩, ⟨some (17, false), some 18, .copy (.t 0)⟩, ⟨some (17, false), some 19, .idxS 1 (.t 18) (.c (.lit (.int .i64 0)))⟩, ⟨some (17, false), some 20, .load false 1 (.t 19)⟩, ⟨some (17, false), some 21, .bin .gtr (.t 20) (.c (.lit (.int .u64 1073741824)))⟩, ⟨none, some 22, .pick (.t 17) (.c (.lit (.bool true))) (.t 21)⟩] [] []) (.cond (.t 22) (.seq (.reg [⟨none, some 23, .load true 2 (.t 3)⟩, ⟨none, none, .store 2 (.t 2) (.t 23)⟩] [] []) .ret) .skip)) (.seq (.reg [⟨none, some 4, .copy (.c (.lit (.int .u32 4294967295)))⟩] [] []) (.seq (.seq (.reg [⟨none, some 5, .copy (.c (.lit (.int .i64 2)))⟩] [] []) (.block 0 (.loop [0, 2, 3, 4, 5] L63_0))) (.seq (.reg [⟨none, some 69, .copy (.t 0)⟩, ⟨none, some 70, .idxS 1 (.t 69) (.c (.lit (.int .i64 0)))⟩, ⟨none, some 71, .load false 1 (.t 70)⟩, ⟨none, some 72, .toInt .i64 (.t 71)⟩, ⟨none, some 73, .fieldA 0 (.t 3)⟩, ⟨none, none, .store 1 (.t 73) (.t 72)⟩] [] []) (.seq (.reg [⟨none, some 74, .load true 2 (.t 3)⟩, ⟨none, none, .store 2 (.t 2) (.t 74)⟩] [] []) .ret))))))), [.cell 2 true 2]⟩
/- bytes.Clone -/
def ir64 : IFn := ⟨(.seq (.reg [⟨none, some 2, .copy (.c nilS)⟩] [] []) (.seq (.seq (.reg [⟨none, some 3, .copy (.t 0)⟩, ⟨none, some 4, .isNil false .slice (.t 3)⟩] [] []) (.cond (.t 4) (.seq (.reg [⟨none, some 2, .copy (.c nilS)⟩] [] []) .ret) .skip)) (.seq (.reg [⟨none, some 5, .mkSlice true 1 [(.lit (.int .u8 0))] 0 []⟩, ⟨none, some 6, .copy (.t 0)⟩, ⟨none, some 7, .append true 1 1 (.t 5) (.t 6)⟩, ⟨none, some 2, .copy (.t 7)⟩] [] []) .ret))), [.tmp 2]⟩
/- sum32.tail -/
def L65_0 : ICode := (.seq (.reg [⟨none, some 7, .bin .lss (.t 6) (.c (.lit (.int .i64 4)))⟩] [] []) (.seq (.cond (.t 7) .skip (.exit 0)) (.seq (.block 1 (.seq (.reg [⟨none, some 8, .copy (.t 6)⟩, ⟨none, some 4, .copy (.t 8)⟩] [] []) (.reg [⟨none, some 9, .copy (.t 3)⟩, ⟨none, some 10, .copy (.t 4)⟩, ⟨none, some 11, .copy (.t 0)⟩, ⟨none, some 12, .copy (.t 4)⟩, ⟨none, some 13, .bin .mul (.c (.lit (.int .i64 8))) (.t 12)⟩, ⟨none, some 14, .bin .shr (.t 11) (.t 13)⟩, ⟨none, some 15, .toInt .u8 (.t 14)⟩, ⟨none, some 16, .idxS 1 (.t 9) (.t 10)⟩, ⟨none, none, .store 1 (.t 16) (.t 15)⟩] [] []))) (.reg [⟨none, some 17, .bin .add (.t 6) (.c (.lit (.int .i64 1)))⟩, ⟨none, some 6, .copy (.t 17)⟩] [] []))))
def ir65 : IFn := ⟨(.seq (.reg [⟨none, some 2, .copy (.c nilS)⟩] [] []) (.seq (.reg [⟨none, some 5, .make true 1 1 [(.lit (.int .u8 0))] (.c (.lit (.int .i64 4))) (.c (.lit (.int .i64 4)))⟩, ⟨none, some 3, .copy (.t 5)⟩] [] []) (.seq (.seq (.reg [⟨none, some 6, .copy (.c (.lit (.int .i64 0)))⟩] [] []) (.block 0 (.loop [0, 3, 6] L65_0))) (.seq (.reg [⟨none, some 18, .copy (.t 3)⟩, ⟨none, some 2, .copy (.t 18)⟩] [] []) .ret)))), [.tmp 2]⟩
/- sum32.Sum -/
def L66_0 : ICode := (.seq (.reg [⟨none, some 11, .bin .lss (.t 10) (.t 9)⟩] [] []) (.seq (.cond (.t 11) .skip (.exit 0)) (.seq (.block 1 (.seq (.reg [⟨none, some 12, .idxS 1 (.t 8) (.t 10)⟩, ⟨none, some 13, .load false 1 (.t 12)⟩, ⟨none, some 6, .copy (.t 13)⟩] [] []) (.reg [⟨none, some 14, .copy (.t 4)⟩, ⟨none, some 15, .copy (.t 6)⟩, ⟨none, some 16, .callV (.t 14) [(.t 15)]⟩] [] []))) (.reg [⟨none, some 17, .bin .add (.t 10) (.c (.lit (.int .i64 1)))⟩, ⟨none, some 10, .copy (.t 17)⟩] [] []))))
def ir66 : IFn := ⟨(.seq (.reg [⟨none, some 2, .copy (.c (.lit (.int .u32 0)))⟩] [] []) (.seq (.reg [⟨none, some 3, .alloc [(.lit (.int .u32 0))]⟩, ⟨none, none, .store 1 (.t 3) (.c (.lit (.int .u32 4294967295)))⟩] [] []) (.seq (.reg [⟨none, some 7, .mkFunc (.func 73) [] [(.t 3)]⟩, ⟨none, some 4, .copy (.t 7)⟩] [] []) (.seq (.seq (.reg [⟨none, some 8, .copy (.t 0)⟩, ⟨none, some 9, .len (.t 8)⟩, ⟨none, some 10, .copy (.c (.lit (.int .i64 0)))⟩] [] []) (.block 0 (.loop [3, 4, 8, 9, 10] L66_0))) (.seq (.reg [⟨none, some 18, .load false 1 (.t 3)⟩, ⟨none, some 19, .bin .xor (.t 18) (.c (.lit (.int .u32 4294967295)))⟩, ⟨none, some 2, .copy (.t 19)⟩] [] []) .ret))))), [.tmp 2]⟩
/- magnetoref13.Put -/
def L67_0 : ICode := (.seq (.seq (.reg [⟨none, some 5, .copy (.t 0)⟩, ⟨none, some 6, .bin .gtr (.t 5) (.c (.lit (.int .u64 127)))⟩] [] []) (.cond (.t 6) .skip (.exit 0))) (.block 1 (.seq (.reg [⟨none, some 7, .copy (.t 3)⟩, ⟨none, some 8, .copy (.t 0)⟩, ⟨none, some 9, .bin .rem (.t 8) (.c (.lit (.int .u64 128)))⟩, ⟨none, some 10, .bin .add (.t 9) (.c (.lit (.int .u64 128)))⟩, ⟨none, some 11, .toInt .u8 (.t 10)⟩, ⟨none, some 12, .mkSlice true 1 [(.lit (.int .u8 0))] 1 [(0, (.t 11))]⟩, ⟨none, some 13, .append true 1 1 (.t 7) (.t 12)⟩, ⟨none, some 3, .copy (.t 13)⟩] [] []) (.reg [⟨none, some 14, .copy (.t 0)⟩, ⟨none, some 15, .bin .quo (.t 14) (.c (.lit (.int .u64 128)))⟩, ⟨none, some 0, .copy (.t 15)⟩] [] []))))
def ir67 : IFn := ⟨(.seq (.reg [⟨none, some 2, .copy (.c nilS)⟩] [] []) (.seq (.reg [⟨none, some 4, .mkSlice true 1 [(.lit (.int .u8 0))] 0 []⟩, ⟨none, some 3, .copy (.t 4)⟩] [] []) (.seq (.block 0 (.loop [0, 3] L67_0)) (.seq (.reg [⟨none, some 16, .copy (.t 3)⟩, ⟨none, some 17, .copy (.t 0)⟩, ⟨none, some 18, .toInt .u8 (.t 17)⟩, ⟨none, some 19, .mkSlice true 1 [(.lit (.int .u8 0))] 1 [(0, (.t 18))]⟩, ⟨none, some 20, .append true 1 1 (.t 16) (.t 19)⟩, ⟨none, some 2, .copy (.t 20)⟩] [] []) .ret)))), [.tmp 2]⟩
/- magnetoref14.Seal -/
def L68_0 : ICode := (.seq (.seq (.reg [⟨none, some 11, .copy (.t 5)⟩, ⟨none, some 12, .bin .lss (.t 11) (.c (.lit (.int .i64 4)))⟩] [] []) (.cond (.t 12) .skip (.exit 0))) (.seq (.block 1 (.seq (.reg [⟨none, some 15, .copy (.t 4)⟩, ⟨none, some 16, .copy (.t 3)⟩, ⟨none, some 17, .bin .rem (.t 16) (.c (.lit (.int .u32 256)))⟩, ⟨none, some 18, .toInt .u8 (.t 17)⟩, ⟨none, some 19, .mkSlice true 1 [(.lit (.int .u8 0))] 1 [(0, (.t 18))]⟩, ⟨none, some 20, .append true 1 1 (.t 15) (.t 19)⟩, ⟨none, some 4, .copy (.t 20)⟩] [] []) (.reg [⟨none, some 21, .copy (.t 3)⟩, ⟨none, some 22, .bin .quo (.t 21) (.c (.lit (.int .u32 256)))⟩, ⟨none, some 3, .copy (.t 22)⟩] [] []))) (.reg [⟨none, some 13, .copy (.t 5)⟩, ⟨none, some 14, .bin .add (.t 13) (.c (.lit (.int .i64 1)))⟩, ⟨none, some 5, .copy (.t 14)⟩] [] [])))
def ir68 : IFn := ⟨(.seq (.reg [⟨none, some 2, .copy (.c nilS)⟩] [] []) (.seq (.reg [⟨none, some 6, .copy (.t 0)⟩, ⟨none, some 7, .call 74 [(.t 6)]⟩, ⟨none, some 3, .copy (.t 7)⟩] [] []) (.seq (.reg [⟨none, some 8, .mkSlice true 1 [(.lit (.int .u8 0))] 0 []⟩, ⟨none, some 9, .copy (.t 0)⟩, ⟨none, some 10, .append true 1 1 (.t 8) (.t 9)⟩, ⟨none, some 4, .copy (.t 10)⟩] [] []) (.seq (.seq (.reg [⟨none, some 5, .copy (.c (.lit (.int .i64 0)))⟩] [] []) (.block 0 (.loop [3, 4, 5] L68_0))) (.seq (.reg [⟨none, some 23, .copy (.t 4)⟩, ⟨none, some 2, .copy (.t 23)⟩] [] []) .ret))))), [.tmp 2]⟩
/- tap.between$1 -/
def ir69 : IFn := ⟨(.seq (.reg [⟨none, some 5, .copy (.c (.lit (.int .i64 0)))⟩] [] []) (.seq (.reg [⟨none, some 6, .load false 1 (.t 1)⟩, ⟨none, some 7, .copy (.t 0)⟩, ⟨none, some 8, .bin .add (.t 6) (.t 7)⟩, ⟨none, some 9, .load false 1 (.t 2)⟩, ⟨none, some 10, .minI (.t 8) [(.t 9)]⟩, ⟨none, some 11, .load false 1 (.t 1)⟩, ⟨none, some 12, .load false 1 (.t 3)⟩, ⟨none, some 13, .maxI (.t 11) [(.t 12)]⟩, ⟨none, some 14, .bin .sub (.t 10) (.t 13)⟩, ⟨none, some 5, .copy (.t 14)⟩] [] []) .ret)), [.tmp 5]⟩
/- bytes.Equal -/
def ir70 : IFn := ⟨(.seq (.reg [⟨none, some 4, .copy (.c (.lit (.bool false)))⟩] [] []) (.seq (.reg [⟨none, some 5, .copy (.t 0)⟩, ⟨none, some 6, .toStr (.t 5)⟩, ⟨none, some 7, .copy (.t 1)⟩, ⟨none, some 8, .toStr (.t 7)⟩, ⟨none, some 9, .bin .eql (.t 6) (.t 8)⟩, ⟨none, some 4, .copy (.t 9)⟩] [] []) .ret)), [.tmp 4]⟩
/- vari.numbers -/
def ir71 : IFn := ⟨(.seq (.reg [⟨none, some 1, .box 1 (.t 0)⟩, ⟨none, some 2, .copy (.c (.lit .nilFunc))⟩] [] []) (.seq (.reg [⟨none, some 3, .mkFunc (.func 75) [] [(.t 1)]⟩, ⟨none, some 2, .copy (.t 3)⟩] [] []) .ret)), [.tmp 2]⟩
/- block.inside$1 -/
def ir72 : IFn := ⟨(.seq (.reg [⟨none, some 4, .copy (.c (.lit (.int .u64 0)))⟩] [] []) (.seq (.seq (.reg [⟨none, some 6, .load false 1 (.t 1)⟩, ⟨none, some 7, .len (.t 6)⟩, ⟨none, some 8, .bin .eql (.t 7) (.c (.lit (.int .i64 0)))⟩, ⟨none, some 9, .copy (.t 8)⟩, ⟨some (9, false), some 10, .load false 1 (.t 1)⟩, ⟨some (9, false), some 11, .idxS 1 (.t 10) (.c (.lit (.int .i64 0)))⟩, ⟨some (9, false), some 12, .load false 1 (.t 11)⟩, ⟨some (9, false), some 13, .copy (.t 0)⟩, ⟨some (9, false), some 14, .bin .gtr (.t 12) (.t 13)⟩, ⟨none, some 15, .pick (.t 9) (.c (.lit (.bool true))) (.t 14)⟩] [] []) (.cond (.t 15) (.seq (.reg [⟨none, none, .store 1 (.t 2) (.c (.lit (.bool false)))⟩] [] []) (.seq (.reg [⟨none, some 4, .copy (.c (.lit (.int .u64 0)))⟩] [] []) .ret)) .skip)) (.seq (.reg [⟨none, some 16, .load false 1 (.t 1)⟩, ⟨none, some 17, .idxS 1 (.t 16) (.c (.lit (.int .i64 0)))⟩, ⟨none, some 18, .load false 1 (.t 17)⟩, ⟨none, some 5, .copy (.t 18)⟩] [] []) (.seq (.reg [⟨none, some 19, .load false 1 (.t 1)⟩, ⟨none, some 20, .slice 1 (.t 19) (some (.c (.lit (.int .i64 1)))) none none⟩, ⟨none, none, .store 1 (.t 1) (.t 20)⟩] [] []) (.seq (.reg [⟨none, some 21, .copy (.t 5)⟩, ⟨none, some 4, .copy (.t 21)⟩] [] []) .ret))))), [.tmp 4]⟩
/- sum32.Sum$1 -/
def L73_0 : ICode := (.seq (.reg [⟨none, some 8, .bin .lss (.t 7) (.c (.lit (.int .i64 8)))⟩] [] []) (.seq (.cond (.t 8) .skip (.exit 0)) (.seq (.block 1 (.reg [⟨none, some 9, .load false 1 (.t 1)⟩, ⟨none, some 10, .bin .shr (.t 9) (.c (.lit (.int .u64 1)))⟩, ⟨none, some 11, .load false 1 (.t 1)⟩, ⟨none, some 12, .bin .and (.t 11) (.c (.lit (.int .u32 1)))⟩, ⟨none, some 13, .bin .mul (.t 12) (.c (.lit (.int .u32 3988292384)))⟩, ⟨none, some 14, .bin .xor (.t 10) (.t 13)⟩, ⟨none, none, .store 1 (.t 1) (.t 14)⟩] [] [])) (.reg [⟨none, some 15, .bin .add (.t 7) (.c (.lit (.int .i64 1)))⟩, ⟨none, some 7, .copy (.t 15)⟩] [] []))))
def ir73 : IFn := ⟨(.seq (.reg [⟨none, some 3, .load false 1 (.t 1)⟩, ⟨none, some 4, .copy (.t 0)⟩, ⟨none, some 5, .toInt .u32 (.t 4)⟩, ⟨none, some 6, .bin .xor (.t 3) (.t 5)⟩, ⟨none, none, .store 1 (.t 1) (.t 6)⟩] [] []) (.seq (.reg [⟨none, some 7, .copy (.c (.lit (.int .i64 0)))⟩] [] []) (.block 0 (.loop [1, 7] L73_0)))), []⟩
/- magnetoref14.Sum -/
def L74_1 : ICode := (.seq (.seq (.reg [⟨none, some 19, .copy (.t 5)⟩, ⟨none, some 20, .bin .lss (.t 19) (.c (.lit (.int .i64 8)))⟩] [] []) (.cond (.t 20) .skip (.exit 2))) (.seq (.block 3 (.seq (.reg [⟨none, some 23, .copy (.t 3)⟩, ⟨none, some 24, .bin .rem (.t 23) (.c (.lit (.int .u32 2)))⟩, ⟨none, some 25, .bin .eql (.t 24) (.c (.lit (.int .u32 1)))⟩] [] []) (.cond (.t 25) (.reg [⟨none, some 26, .copy (.t 3)⟩, ⟨none, some 27, .bin .quo (.t 26) (.c (.lit (.int .u32 2)))⟩, ⟨none, some 28, .bin .xor (.t 27) (.c (.lit (.int .u32 3988292384)))⟩, ⟨none, some 3, .copy (.t 28)⟩] [] []) (.reg [⟨none, some 29, .copy (.t 3)⟩, ⟨none, some 30, .bin .quo (.t 29) (.c (.lit (.int .u32 2)))⟩, ⟨none, some 3, .copy (.t 30)⟩] [] [])))) (.reg [⟨none, some 21, .copy (.t 5)⟩, ⟨none, some 22, .bin .add (.t 21) (.c (.lit (.int .i64 1)))⟩, ⟨none, some 5, .copy (.t 22)⟩] [] [])))
def L74_0 : ICode := (.seq (.seq (.reg [⟨none, some 6, .copy (.t 4)⟩, ⟨none, some 7, .copy (.t 0)⟩, ⟨none, some 8, .len (.t 7)⟩, ⟨none, some 9, .bin .lss (.t 6) (.t 8)⟩] [] []) (.cond (.t 9) .skip (.exit 0))) (.seq (.block 1 (.seq (.reg [⟨none, some 12, .copy (.t 3)⟩, ⟨none, some 13, .copy (.t 0)⟩, ⟨none, some 14, .copy (.t 4)⟩, ⟨none, some 15, .idxS 1 (.t 13) (.t 14)⟩, ⟨none, some 16, .load false 1 (.t 15)⟩, ⟨none, some 17, .toInt .u32 (.t 16)⟩, ⟨none, some 18, .bin .xor (.t 12) (.t 17)⟩, ⟨none, some 3, .copy (.t 18)⟩] [] []) (.seq (.reg [⟨none, some 5, .copy (.c (.lit (.int .i64 0)))⟩] [] []) (.block 2 (.loop [0, 3, 4, 5] L74_1))))) (.reg [⟨none, some 10, .copy (.t 4)⟩, ⟨none, some 11, .bin .add (.t 10) (.c (.lit (.int .i64 1)))⟩, ⟨none, some 4, .copy (.t 11)⟩] [] [])))
def ir74 : IFn := ⟨(.seq (.reg [⟨none, some 2, .copy (.c (.lit (.int .u32 0)))⟩] [] []) (.seq (.reg [⟨none, some 3, .copy (.c (.lit (.int .u32 4294967295)))⟩] [] []) (.seq (.seq (.reg [⟨none, some 4, .copy (.c (.lit (.int .i64 0)))⟩] [] []) (.block 0 (.loop [0, 3, 4] L74_0))) (.seq (.reg [⟨none, some 31, .copy (.t 3)⟩, ⟨none, some 32, .bin .xor (.t 31) (.c (.lit (.int .u32 4294967295)))⟩, ⟨none, some 2, .copy (.t 32)⟩] [] []) .ret)))), [.tmp 2]⟩
/- vari.numbers$1 -/
def L75_0 : ICode := (.seq (.seq (.reg [⟨none, some 7, .copy (.t 3)⟩, ⟨none, some 8, .load false 1 (.t 1)⟩, ⟨none, some 9, .len (.t 8)⟩, ⟨none, some 10, .bin .lss (.t 7) (.t 9)⟩] [] []) (.cond (.t 10) .skip (.exit 0))) (.block 1 (.seq (.reg [⟨none, some 12, .load false 1 (.t 1)⟩, ⟨none, some 13, .copy (.t 3)⟩, ⟨none, some 14, .slice 1 (.t 12) (some (.t 13)) none none⟩, ⟨none, some 15, .call 57 [(.t 14)]⟩, ⟨none, some 11, .copy (.t 15)⟩, ⟨none, some 16, .extract (.t 11) 0⟩, ⟨none, some 17, .extract (.t 11) 1⟩, ⟨none, some 18, .extract (.t 11) 2⟩, ⟨none, some 4, .copy (.t 16)⟩, ⟨none, some 5, .copy (.t 17)⟩, ⟨none, some 6, .copy (.t 18)⟩] [] []) (.seq (.seq (.reg [⟨none, some 19, .copy (.t 0)⟩, ⟨none, some 20, .copy (.t 4)⟩, ⟨none, some 21, .copy (.t 3)⟩, ⟨none, some 22, .copy (.t 6)⟩, ⟨none, some 23, .build [(.lit (.int .u64 0)), (.lit (.int .i64 0)), (.lit (.int .i64 0))] [(0, 1, (.t 20)), (1, 1, (.t 21)), (2, 1, (.t 22))]⟩, ⟨none, some 24, .callV (.t 19) [(.t 23)]⟩, ⟨none, some 25, .un .not (.t 24)⟩, ⟨none, some 26, .copy (.t 25)⟩, ⟨some (26, false), some 27, .copy (.t 6)⟩, ⟨some (26, false), some 28, .bin .neq (.t 27) (.c (.lit (.int .i64 0)))⟩, ⟨none, some 29, .pick (.t 26) (.c (.lit (.bool true))) (.t 28)⟩] [] []) (.cond (.t 29) .ret .skip)) (.reg [⟨none, some 30, .copy (.t 3)⟩, ⟨none, some 31, .copy (.t 5)⟩, ⟨none, some 32, .bin .add (.t 30) (.t 31)⟩, ⟨none, some 3, .copy (.t 32)⟩] [] [])))))
def ir75 : IFn := ⟨(.seq (.reg [⟨none, some 3, .copy (.c (.lit (.int .i64 0)))⟩] [] []) (.block 0 (.loop [0, 1, 3] L75_0))), []⟩
def lives : Nat → List (List Nat)
  | 4 => [[0, 1, 8, 9, 11, 12]]
  | 6 => [[5, 6, 13, 14], [1, 6, 8, 10, 11, 13, 17], [1, 6, 10, 13, 18]]
  | 12 => [[2, 4, 7, 9, 10, 11, 12, 13, 14]]
  | 16 => [[5, 6, 7, 28, 29, 30]]
  | 17 => [[1, 4]]
  | 18 => [[1, 3, 37, 38]]
  | 19 => [[0, 1, 5]]
  | 23 => [[4, 7, 8, 9]]
  | 25 => [[0, 3], [0, 4, 5]]
  | 26 => [[0, 3, 4]]
  | 27 => [[0, 3, 4]]
  | 28 => [[0, 1, 5]]
  | 29 => [[3, 4, 8, 9, 10]]
  | 30 => [[0, 3, 4]]
  | 32 => [[0, 3, 4], [0, 3, 4, 5]]
  | 36 => [[0, 1, 5]]
  | 44 => [[0, 3]]
  | 46 => [[0, 3, 4]]
  | 47 => [[1, 3, 4, 5]]
  | 49 => [[7, 8, 9, 14, 15, 16]]
  | 52 => [[3, 8]]
  | 55 => [[0, 3, 9, 10, 11], [0, 3, 5, 9, 10, 11, 16, 17]]
  | 57 => [[5, 6, 7, 10, 11, 12]]
  | 58 => [[2, 3, 4, 5]]
  | 59 => [[1, 2, 4, 5, 6, 8, 18, 19]]
  | 60 => [[0, 4, 5]]
  | 61 => [[0, 5, 6, 7]]
  | 62 => [[0, 5, 6]]
  | 63 => [[0, 2, 3, 4, 5]]
  | 65 => [[0, 3, 6]]
  | 66 => [[3, 4, 8, 9, 10]]
  | 67 => [[0, 3]]
  | 68 => [[3, 4, 5]]
  | 73 => [[1, 7]]
  | 74 => [[0, 3, 4], [0, 3, 4, 5]]
  | 75 => [[0, 1, 3]]
  | _ => []
theorem K3 : compF Try.prog (lives 3) 3 = some ir3 := by kernel_rfl
theorem K4 : compF Try.prog (lives 4) 4 = some ir4 := by kernel_rfl
theorem K5 : compF Try.prog (lives 5) 5 = some ir5 := by kernel_rfl
theorem K6 : compF Try.prog (lives 6) 6 = some ir6 := by kernel_rfl
theorem K10 : compF Try.prog (lives 10) 10 = some ir10 := by kernel_rfl
theorem K12 : compF Try.prog (lives 12) 12 = some ir12 := by kernel_rfl
theorem K15 : compF Try.prog (lives 15) 15 = some ir15 := by kernel_rfl
theorem K16 : compF Try.prog (lives 16) 16 = some ir16 := by kernel_rfl
theorem K17 : compF Try.prog (lives 17) 17 = some ir17 := by kernel_rfl
theorem K18 : compF Try.prog (lives 18) 18 = some ir18 := by kernel_rfl
theorem K19 : compF Try.prog (lives 19) 19 = some ir19 := by kernel_rfl
theorem K20 : compF Try.prog (lives 20) 20 = some ir20 := by kernel_rfl
theorem K21 : compF Try.prog (lives 21) 21 = some ir21 := by kernel_rfl
theorem K22 : compF Try.prog (lives 22) 22 = some ir22 := by kernel_rfl
theorem K23 : compF Try.prog (lives 23) 23 = some ir23 := by kernel_rfl
theorem K24 : compF Try.prog (lives 24) 24 = some ir24 := by kernel_rfl
theorem K25 : compF Try.prog (lives 25) 25 = some ir25 := by kernel_rfl
theorem K26 : compF Try.prog (lives 26) 26 = some ir26 := by kernel_rfl
theorem K27 : compF Try.prog (lives 27) 27 = some ir27 := by kernel_rfl
theorem K28 : compF Try.prog (lives 28) 28 = some ir28 := by kernel_rfl
theorem K29 : compF Try.prog (lives 29) 29 = some ir29 := by kernel_rfl
theorem K30 : compF Try.prog (lives 30) 30 = some ir30 := by kernel_rfl
theorem K31 : compF Try.prog (lives 31) 31 = some ir31 := by kernel_rfl
theorem K32 : compF Try.prog (lives 32) 32 = some ir32 := by kernel_rfl
theorem K33 : compF Try.prog (lives 33) 33 = some ir33 := by kernel_rfl
theorem K34 : compF Try.prog (lives 34) 34 = some ir34 := by kernel_rfl
theorem K35 : compF Try.prog (lives 35) 35 = some ir35 := by kernel_rfl
theorem K36 : compF Try.prog (lives 36) 36 = some ir36 := by kernel_rfl
theorem K38 : compF Try.prog (lives 38) 38 = some ir38 := by kernel_rfl
theorem K39 : compF Try.prog (lives 39) 39 = some ir39 := by kernel_rfl
theorem K40 : compF Try.prog (lives 40) 40 = some ir40 := by kernel_rfl
theorem K41 : compF Try.prog (lives 41) 41 = some ir41 := by kernel_rfl
theorem K42 : compF Try.prog (lives 42) 42 = some ir42 := by kernel_rfl
theorem K43 : compF Try.prog (lives 43) 43 = some ir43 := by kernel_rfl
theorem K44 : compF Try.prog (lives 44) 44 = some ir44 := by kernel_rfl
theorem K45 : compF Try.prog (lives 45) 45 = some ir45 := by kernel_rfl
theorem K46 : compF Try.prog (lives 46) 46 = some ir46 := by kernel_rfl
theorem K47 : compF Try.prog (lives 47) 47 = some ir47 := by kernel_rfl
theorem K48 : compF Try.prog (lives 48) 48 = some ir48 := by kernel_rfl
theorem K49 : compF Try.prog (lives 49) 49 = some ir49 := by kernel_rfl
theorem K50 : compF Try.prog (lives 50) 50 = some ir50 := by kernel_rfl
theorem K51 : compF Try.prog (lives 51) 51 = some ir51 := by kernel_rfl
theorem K52 : compF Try.prog (lives 52) 52 = some ir52 := by kernel_rfl
theorem K53 : compF Try.prog (lives 53) 53 = some ir53 := by kernel_rfl
theorem K54 : compF Try.prog (lives 54) 54 = some ir54 := by kernel_rfl
theorem K55 : compF Try.prog (lives 55) 55 = some ir55 := by kernel_rfl
theorem K56 : compF Try.prog (lives 56) 56 = some ir56 := by kernel_rfl
theorem K57 : compF Try.prog (lives 57) 57 = some ir57 := by kernel_rfl
theorem K58 : compF Try.prog (lives 58) 58 = some ir58 := by kernel_rfl
theorem K59 : compF Try.prog (lives 59) 59 = some ir59 := by kernel_rfl
theorem K60 : compF Try.prog (lives 60) 60 = some ir60 := by kernel_rfl
theorem K61 : compF Try.prog (lives 61) 61 = some ir61 := by kernel_rfl
theorem K62 : compF Try.prog (lives 62) 62 = some ir62 := by kernel_rfl
theorem K63 : compF Try.prog (lives 63) 63 = some ir63 := by kernel_rfl
theorem K64 : compF Try.prog (lives 64) 64 = some ir64 := by kernel_rfl
theorem K65 : compF Try.prog (lives 65) 65 = some ir65 := by kernel_rfl
theorem K66 : compF Try.prog (lives 66) 66 = some ir66 := by kernel_rfl
theorem K67 : compF Try.prog (lives 67) 67 = some ir67 := by kernel_rfl
theorem K68 : compF Try.prog (lives 68) 68 = some ir68 := by kernel_rfl
theorem K69 : compF Try.prog (lives 69) 69 = some ir69 := by kernel_rfl
theorem K70 : compF Try.prog (lives 70) 70 = some ir70 := by kernel_rfl
theorem K71 : compF Try.prog (lives 71) 71 = some ir71 := by kernel_rfl
theorem K72 : compF Try.prog (lives 72) 72 = some ir72 := by kernel_rfl
theorem K73 : compF Try.prog (lives 73) 73 = some ir73 := by kernel_rfl
theorem K74 : compF Try.prog (lives 74) 74 = some ir74 := by kernel_rfl
theorem K75 : compF Try.prog (lives 75) 75 = some ir75 := by kernel_rfl
/-- The functions that are gone through. -/
def tab : List (Nat × IFn) := [(3, ir3), (4, ir4), (5, ir5), (6, ir6), (10, ir10), (12, ir12), (15, ir15), (16, ir16), (17, ir17), (18, ir18), (19, ir19), (20, ir20), (21, ir21), (22, ir22), (23, ir23), (24, ir24), (25, ir25), (26, ir26), (27, ir27), (28, ir28), (29, ir29), (30, ir30), (31, ir31), (32, ir32), (33, ir33), (34, ir34), (35, ir35), (36, ir36), (38, ir38), (39, ir39), (40, ir40), (41, ir41), (42, ir42), (43, ir43), (44, ir44), (45, ir45), (46, ir46), (47, ir47), (48, ir48), (49, ir49), (50, ir50), (51, ir51), (52, ir52), (53, ir53), (54, ir54), (55, ir55), (56, ir56), (57, ir57), (58, ir58), (59, ir59), (60, ir60), (61, ir61), (62, ir62), (63, ir63), (64, ir64), (65, ir65), (66, ir66), (67, ir67), (68, ir68), (69, ir69), (70, ir70), (71, ir71), (72, ir72), (73, ir73), (74, ir74), (75, ir75)]
def E (f : Nat) : Option IFn := tab.lookup f
theorem E3 : E 3 = some ir3 := rfl
theorem E4 : E 4 = some ir4 := rfl
theorem E5 : E 5 = some ir5 := rfl
theorem E6 : E 6 = some ir6 := rfl
theorem E10 : E 10 = some ir10 := rfl
theorem E12 : E 12 = some ir12 := rfl
theorem E15 : E 15 = some ir15 := rfl
theorem E16 : E 16 = some ir16 := rfl
theorem E17 : E 17 = some ir17 := rfl
theorem E18 : E 18 = some ir18 := rfl
theorem E19 : E 19 = some ir19 := rfl
theorem E20 : E 20 = some ir20 := rfl
theorem E21 : E 21 = some ir21 := rfl
theorem E22 : E 22 = some ir22 := rfl
theorem E23 : E 23 = some ir23 := rfl
theorem E24 : E 24 = some ir24 := rfl
theorem E25 : E 25 = some ir25 := rfl
theorem E26 : E 26 = some ir26 := rfl
theorem E27 : E 27 = some ir27 := rfl
theorem E28 : E 28 = some ir28 := rfl
theorem E29 : E 29 = some ir29 := rfl
theorem E30 : E 30 = some ir30 := rfl
theorem E31 : E 31 = some ir31 := rfl
theorem E32 : E 32 = some ir32 := rfl
theorem E33 : E 33 = some ir33 := rfl
theorem E34 : E 34 = some ir34 := rfl
theorem E35 : E 35 = some ir35 := rfl
theorem E36 : E 36 = some ir36 := rfl
theorem E38 : E 38 = some ir38 := rfl
theorem E39 : E 39 = some ir39 := rfl
theorem E40 : E 40 = some ir40 := rfl
theorem E41 : E 41 = some ir41 := rfl
theorem E42 : E 42 = some ir42 := rfl
theorem E43 : E 43 = some ir43 := rfl
theorem E44 : E 44 = some ir44 := rfl
theorem E45 : E 45 = some ir45 := rfl
theorem E46 : E 46 = some ir46 := rfl
theorem E47 : E 47 = some ir47 := rfl
theorem E48 : E 48 = some ir48 := rfl
theorem E49 : E 49 = some ir49 := rfl
theorem E50 : E 50 = some ir50 := rfl
theorem E51 : E 51 = some ir51 := rfl
theorem E52 : E 52 = some ir52 := rfl
theorem E53 : E 53 = some ir53 := rfl
theorem E54 : E 54 = some ir54 := rfl
theorem E55 : E 55 = some ir55 := rfl
theorem E56 : E 56 = some ir56 := rfl
theorem E57 : E 57 = some ir57 := rfl
theorem E58 : E 58 = some ir58 := rfl
theorem E59 : E 59 = some ir59 := rfl
theorem E60 : E 60 = some ir60 := rfl
theorem E61 : E 61 = some ir61 := rfl
theorem E62 : E 62 = some ir62 := rfl
theorem E63 : E 63 = some ir63 := rfl
theorem E64 : E 64 = some ir64 := rfl
theorem E65 : E 65 = some ir65 := rfl
theorem E66 : E 66 = some ir66 := rfl
theorem E67 : E 67 = some ir67 := rfl
theorem E68 : E 68 = some ir68 := rfl
theorem E69 : E 69 = some ir69 := rfl
theorem E70 : E 70 = some ir70 := rfl
theorem E71 : E 71 = some ir71 := rfl
theorem E72 : E 72 = some ir72 := rfl
theorem E73 : E 73 = some ir73 := rfl
theorem E74 : E 74 = some ir74 := rfl
theorem E75 : E 75 = some ir75 := rfl
theorem tab_ok : ∀ p ∈ tab, ∃ ls, compF Try.prog ls p.1 = some p.2 := by
  simp only [tab, List.forall_mem_cons]
  exact ⟨⟨_, K3⟩, ⟨_, K4⟩, ⟨_, K5⟩, ⟨_, K6⟩, ⟨_, K10⟩, ⟨_, K12⟩, ⟨_, K15⟩, ⟨_, K16⟩, ⟨_, K17⟩, ⟨_, K18⟩, ⟨_, K19⟩, ⟨_, K20⟩, ⟨_, K21⟩, ⟨_, K22⟩, ⟨_, K23⟩, ⟨_, K24⟩, ⟨_, K25⟩, ⟨_, K26⟩, ⟨_, K27⟩, ⟨_, K28⟩, ⟨_, K29⟩, ⟨_, K30⟩, ⟨_, K31⟩, ⟨_, K32⟩, ⟨_, K33⟩, ⟨_, K34⟩, ⟨_, K35⟩, ⟨_, K36⟩, ⟨_, K38⟩, ⟨_, K39⟩, ⟨_, K40⟩, ⟨_, K41⟩, ⟨_, K42⟩, ⟨_, K43⟩, ⟨_, K44⟩, ⟨_, K45⟩, ⟨_, K46⟩, ⟨_, K47⟩, ⟨_, K48⟩, ⟨_, K49⟩, ⟨_, K50⟩, ⟨_, K51⟩, ⟨_, K52⟩, ⟨_, K53⟩, ⟨_, K54⟩, ⟨_, K55⟩, ⟨_, K56⟩, ⟨_, K57⟩, ⟨_, K58⟩, ⟨_, K59⟩, ⟨_, K60⟩, ⟨_, K61⟩, ⟨_, K62⟩, ⟨_, K63⟩, ⟨_, K64⟩, ⟨_, K65⟩, ⟨_, K66⟩, ⟨_, K67⟩, ⟨_, K68⟩, ⟨_, K69⟩, ⟨_, K70⟩, ⟨_, K71⟩, ⟨_, K72⟩, ⟨_, K73⟩, ⟨_, K74⟩, ⟨_, K75⟩, fun _ h => by cases h⟩
theorem lookup_mem {α : Type} {f : Nat} {x : α} : ∀ {l : List (Nat × α)}, l.lookup f = some x → (f, x) ∈ l
  | [], h => by simp at h
  | (g, y) :: r, h => by
    rw [List.lookup_cons] at h
    by_cases hg : f = g
    · subst hg; simp at h; simp [h]
    · rw [show (f == g) = false from by simpa using hg] at h; exact List.mem_cons_of_mem _ (lookup_mem h)
theorem hE (f : Nat) (fn : IFn) (h : E f = some fn) : ∃ ls, compF Try.prog ls f = some fn := tab_ok _ (lookup_mem h)
end Go.AM.R1
open Go Go.AM
namespace Go.AM.R1

theorem wrap64 {x : Int} (h1 : -9223372036854775808 ≤ x) (h2 : x ≤ 9223372036854775807) : IntKind.wrap .i64 x = x := by
  simp [IntKind.wrap, IntKind.bits, IntKind.signed]; omega
theorem wrapIdx {i : Nat} (h : i < 1099511627776) : IntKind.wrap .i64 ((i : Int) + 1) = ((i + 1 : Nat) : Int) := by
  rw [wrap64 (by omega) (by omega)]; omega

structure Run where
  N : Int
  Bus : Int
  Drive : Int
  deriving DecidableEq

def encRun (r : Run) : List AVal := [.lit (.int .i64 r.N), .lit (.int .i64 r.Bus), .lit (.int .u32 r.Drive)]
structure Run.Ok (r : Run) : Prop where
  n1 : -9223372036854775808 ≤ r.N
  n2 : r.N ≤ 9223372036854775807

def right (r : Run) : Bool := decide (1 ≤ r.N) && decide (r.N ≤ 1073741824) && decide (r.Bus = if r.Drive = 4294967295 then 1 else 0)

theorem right_spec (r : Run) : call E (.func (.func 48) [] []) [.agg (encRun r)] [] = some (vbool (right r), []) := by
  rw [call_func E E48]
  by_cases h1 : r.Drive = 4294967295 <;> by_cases h2 : 1 ≤ r.N <;> by_cases h3 : r.N ≤ 1073741824 <;>
  simp [go_sem, ir48, encRun, right, *]

theorem refRight_spec (r : Run) : call E (.func (.func 50) [] []) [.agg (encRun r)] [] = some (vbool (right r), []) := by
  rw [call_func E E50]
  by_cases h1 : r.Drive = 4294967295 <;> by_cases h2 : r.N < 1 <;> by_cases h3 : 1073741824 < r.N <;>
  simp [go_sem, ir50, encRun, right, *] <;> (first | omega | skip)

def ticksGo (acc : Int) : List Run → Int × Int
  | [] => if 1073741824 < acc then (0, 12) else (acc, 0)
  | r :: l => if right r then ticksGo (if 1073741825 < acc + r.N then 1073741825 else acc + r.N) l else (0, 10)
theorem ticks_loop (l : List Run) (hl : l.length ≤ 1099511627775) (hl2 : ∀ r ∈ l, r.Ok) (nl fu : Bool) (k : List Item)
    (hk : ∀ (acc : Int) τ, lk 4 τ = .lit (.int .i64 acc) → finK 0 [.tmp 2, .tmp 3] (run E 0 k τ []) = some (.tup [.lit (.int .i64 (ticksGo acc []).1), .lit (.int .i64 (ticksGo acc []).2)], [])) :
    ∀ (d i : Nat) (acc : Int), i + d = l.length → 0 ≤ acc → acc ≤ 1073741825 →
   finK 0 [.tmp 2, .tmp 3] (run E 0 (.code L23_0 :: .inLoop [4, 7, 8, 9] L23_0 :: .inBlock 0 :: k) [(4, .lit (.int .i64 acc)), (7, .imm nl fu true (l.map encRun)), (8, .lit (.int .i64 l.length)), (9, .lit (.int .i64 i))] [])
   = some (.tup [.lit (.int .i64 (ticksGo acc (l.drop i)).1), .lit (.int .i64 (ticksGo acc (l.drop i)).2)], []) := by
  intro d
  induction d with
  | zero =>
    intro i acc hi h0 h1
    have : i = l.length := by omega
    subst this
    simp [go_sem, run_codeL E L23_0.eq_1]
    exact hk _ _ rfl
  | succ d ih =>
    intro i acc hi h0 h1
    have hlt : i < l.length := by omega
    have hr := hl2 _ (List.getElem_mem hlt)
    rw [List.drop_eq_getElem_cons hlt, ticksGo]
    have hs := right_spec l[i]
    simp only [encRun] at hs
    cases hrt : right l[i] with
    | false =>
      simp [go_sem, run_codeL E L23_0.eq_1, hlt, List.getElem?_eq_getElem hlt, encRun, hs, hrt]
    | true =>
      have hN : 1 ≤ l[i].N ∧ l[i].N ≤ 1073741824 := by simp [right] at hrt; omega
      have w1 : IntKind.wrap .i64 (acc + l[i].N) = acc + l[i].N := wrap64 (by omega) (by omega)
      have w2 := wrapIdx (i := i) (by omega)
      simp [go_sem, run_codeL E L23_0.eq_1, hlt, List.getElem?_eq_getElem hlt, encRun, hs, hrt, w1, w2]
      rw [run_inLoop']
      simp [go_sem, purse_eq]
      exact ih (i + 1) _ (by omega) (by omega) (by omega)
def ticks (l : List Run) : Int × Int := ticksGo 0 l
theorem ticks_spec (l : List Run) (hl : l.length ≤ 1099511627775) (hl2 : ∀ r ∈ l, r.Ok) (nl fu : Bool) :
    call E (.func (.func 23) [] []) [.imm nl fu true (l.map encRun)] [] = some (.tup [.lit (.int .i64 (ticks l).1), .lit (.int .i64 (ticks l).2)], []) := by
  rw [call_func E E23]
  simp [go_sem, ir23]
  rw [run_inLoop']
  simp [go_sem, purse_eq]
  refine ticks_loop l hl hl2 nl fu _ ?_ l.length 0 0 (by omega) (by omega) (by omega)
  intro acc τ h
  by_cases h1 : 1073741824 < acc <;> simp [go_sem, ticksGo, h, h1]
theorem check_spec (l : List Run) (hl : l.length ≤ 1099511627775) (hl2 : ∀ r ∈ l, r.Ok) (nl fu : Bool) :
    call E (.func (.func 22) [] []) [.imm nl fu true (l.map encRun)] [] = some (.lit (.int .i64 (ticks l).2), []) := by
  rw [call_func E E22]
  simp [go_sem, ir22, ticks_spec l hl hl2]
theorem awake12 : call E (.func (.func 21) [] []) [] [] = some (.lit (.bool true), []) :=
  (call_iff E).2 ⟨300, by kernel_rfl⟩

end Go.AM.R1
open Go Go.AM
namespace Go.AM.R1

/-- How many ticks of a run are within. -/
def part (at_ from_ to n : Int) : Int := (if to < at_ + n then to else at_ + n) - (if from_ > at_ then from_ else at_)
theorem part_spec (at_ from_ to n : Int) (h0 : 0 ≤ at_ ∧ at_ ≤ 2251799813685248) (h1 : 0 ≤ from_ ∧ from_ ≤ 1099511627776) (h2 : 0 ≤ to ∧ to ≤ 1099511627776) (h3 : 0 ≤ n ∧ n ≤ 1099511627776) :
    call E (.func (.func 69) [] [.ptr 0 0, .ptr 1 0, .ptr 2 0]) [.lit (.int .i64 n)] [.box [.lit (.int .i64 at_)], .box [.lit (.int .i64 to)], .box [.lit (.int .i64 from_)]]
      = some (.lit (.int .i64 (part at_ from_ to n)), [.box [.lit (.int .i64 at_)], .box [.lit (.int .i64 to)], .box [.lit (.int .i64 from_)]]) := by
  rw [call_func E E69]
  have w1 : IntKind.wrap .i64 (at_ + n) = at_ + n := wrap64 (by omega) (by omega)
  have w2 : IntKind.wrap .i64 (part at_ from_ to n) = part at_ from_ to n := by unfold part; apply wrap64 <;> split <;> split <;> omega
  unfold part at w2
  simp [go_sem, ir69, purse_eq, w1, List.range_succ, part, w2]

def betweenGo (from_ to : Int) : Int → List Run → List Run
  | _, [] => []
  | at_, r :: l => (if 0 < part at_ from_ to r.N then [⟨part at_ from_ to r.N, r.Bus, r.Drive⟩] else []) ++ betweenGo from_ to (at_ + r.N) l
/-- A row that was laid, as it is handed back. -/
def resV (i : Nat) (rows : List (List AVal)) : AVal := if rows = [] then nilS else .own i rows.length 3 0 rows.length
def resH (H : Heap) (rows : List (List AVal)) : Heap := if rows = [] then [] else H ++ [.arr true false false 3 rows]

theorem between_loop (l : List Run) (from_ to : Int) (hl : l.length ≤ 1048576) (hl2 : ∀ r ∈ l, 0 ≤ r.N ∧ r.N ≤ 1073741824) (h1 : 0 ≤ from_ ∧ from_ ≤ 1073741824) (h2 : 0 ≤ to ∧ to ≤ 1073741825) (nl fu : Bool) (k : List Item) (R : List Run → Option (AVal × Heap))
    (hk : ∀ (out : List Run) (at_ : Int) τ, lk 7 τ = resV 5 (out.map encRun) → finK 0 [.tmp 6] (run E 0 k τ ([.box [.lit (.int .i64 from_)], .box [.lit (.int .i64 to)], .box [.lit (.int .i64 at_)]] ++ resH [.dead, .dead] (out.map encRun))) = R out) :
    ∀ (d i : Nat) (at_ : Int) (out : List Run), i + d = l.length → 0 ≤ at_ → at_ ≤ 1073741824 * i → out.length ≤ i →
   finK 0 [.tmp 6] (run E 0 (.code L49_0 :: .inLoop [7, 8, 9, 14, 15, 16] L49_0 :: .inBlock 0 :: k)
     [(7, resV 5 (out.map encRun)), (8, .ptr 2 0), (9, .func (.func 69) [] [.ptr 2 0, .ptr 1 0, .ptr 0 0]), (14, .imm nl fu true (l.map encRun)), (15, .lit (.int .i64 l.length)), (16, .lit (.int .i64 i))]
     ([.box [.lit (.int .i64 from_)], .box [.lit (.int .i64 to)], .box [.lit (.int .i64 at_)]] ++ resH [.dead, .dead] (out.map encRun)))
   = R (out ++ betweenGo from_ to at_ (l.drop i)) := by
  intro d
  induction d with
  | zero =>
    intro i at_ out hi h0 h3 h4
    have : i = l.length := by omega
    subst this
    simp [go_sem, run_codeL E L49_0.eq_1, betweenGo]
    exact hk out at_ _ rfl
  | succ d ih =>
    intro i at_ out hi h0 h3 h4
    have hlt : i < l.length := by omega
    have hr := hl2 _ (List.getElem_mem hlt)
    have w2 := wrapIdx (i := i) (by omega)
    have w1 : IntKind.wrap .i64 (at_ + l[i].N) = at_ + l[i].N := wrap64 (by omega) (by omega)
    have hp := part_spec at_ from_ to l[i].N (by omega) (by omega) (by omega) (by omega)
    have ih' := ih (i + 1) (at_ + l[i].N)
    rw [List.drop_eq_getElem_cons hlt, betweenGo]
    by_cases hq : 0 < part at_ from_ to l[i].N
    · cases out with
      | nil =>
        have ih2 := ih' [⟨part at_ from_ to l[i].N, l[i].Bus, l[i].Drive⟩] (by omega) (by omega) (by omega) (by simp)
        simp [resV, resH, encRun] at ih2
        simp [go_sem, run_codeL E L49_0.eq_1, hlt, List.getElem?_eq_getElem hlt, encRun, w1, w2, resV, resH, purse_eq, hp, hq, nilS]
        rw [run_inLoop']
        simp [go_sem, purse_eq]
        exact ih2
      | cons x xs =>
        have ih2 := ih' ((x :: xs) ++ [⟨part at_ from_ to l[i].N, l[i].Bus, l[i].Drive⟩]) (by omega) (by omega) (by omega) (by simp at h4 ⊢; omega)
        simp [resV, resH, encRun] at ih2
        simp at h4
        have hb : ¬ ((xs.length + 1 + 1) * 24 > 70368744177664) := by omega
        simp [go_sem, run_codeL E L49_0.eq_1, hlt, List.getElem?_eq_getElem hlt, encRun, w1, w2, resV, resH, purse_eq, hp, hq, hb]
        rw [run_inLoop']
        simp [go_sem, purse_eq]
        exact ih2
    · cases out with
      | nil =>
        have ih2 := ih' [] (by omega) (by omega) (by omega) (by simp)
        simp [resV, resH, encRun] at ih2
        simp [go_sem, run_codeL E L49_0.eq_1, hlt, List.getElem?_eq_getElem hlt, encRun, w1, w2, resV, resH, purse_eq, hp, hq, nilS]
        rw [run_inLoop']
        simp [go_sem, purse_eq]
        exact ih2
      | cons x xs =>
        have ih2 := ih' (x :: xs) (by omega) (by omega) (by omega) (by omega)
        simp [resV, resH, encRun] at ih2
        simp [go_sem, run_codeL E L49_0.eq_1, hlt, List.getElem?_eq_getElem hlt, encRun, w1, w2, resV, resH, purse_eq, hp, hq]
        rw [run_inLoop']
        simp [go_sem, purse_eq]
        exact ih2

theorem between_spec (l : List Run) (from_ to : Int) (hl : l.length ≤ 1048576) (hl2 : ∀ r ∈ l, 0 ≤ r.N ∧ r.N ≤ 1073741824) (h1 : 0 ≤ from_ ∧ from_ ≤ 1073741824) (h2 : 0 ≤ to ∧ to ≤ 1073741825) (nl fu : Bool) :
    call E (.func (.func 49) [] []) [.imm nl fu true (l.map encRun), .lit (.int .i64 from_), .lit (.int .i64 to)] []
      = some (resV 0 ((betweenGo from_ to 0 l).map encRun), resH [] ((betweenGo from_ to 0 l).map encRun)) := by
  rw [call_func E E49]
  simp [go_sem, ir49, purse_eq]
  rw [run_inLoop']
  simp [go_sem, purse_eq]
  have h := between_loop l from_ to hl hl2 h1 h2 nl fu [.code (.seq (.reg [⟨none, some 40, .copy (.t 7)⟩, ⟨none, some 6, .copy (.t 40)⟩] [] []) .ret)] (fun out => some (resV 0 (out.map encRun), resH [] (out.map encRun))) ?_ l.length 0 0 [] (by omega) (by omega) (by omega) (by simp)
  · simpa [resV, resH, nilS] using h
  · intro out at_ τ h
    cases out with
    | nil => simp [go_sem, h, resV, resH, nilS]
    | cons x xs => simp [go_sem, h, resV, resH, purse_eq]

def sumN : List Run → Int
  | [] => 0
  | r :: l => r.N + sumN l
/-- How runs are wrong. -/
def chk (l : List Run) : Int := if l.all right = true then (if 1073741824 < sumN l then 12 else 0) else 10
theorem right_N {r : Run} (h : right r = true) : 1 ≤ r.N ∧ r.N ≤ 1073741824 := by
  simp [right] at h; omega
theorem sumN_nonneg : ∀ {l : List Run}, l.all right = true → 0 ≤ sumN l
  | [], _ => by simp [sumN]
  | r :: l, h => by
    simp only [List.all_cons, Bool.and_eq_true] at h
    have := right_N h.1; have := sumN_nonneg h.2
    simp only [sumN]; omega
theorem ticksGo_eq : ∀ (l : List Run) (acc : Int), 0 ≤ acc → acc ≤ 1073741825 → ticksGo acc l = if l.all right = true then (if 1073741824 < acc + sumN l then (0, 12) else (acc + sumN l, 0)) else (0, 10)
  | [], acc, _, _ => by simp [ticksGo, sumN]
  | r :: l, acc, h0, h1 => by
    rw [ticksGo, List.all_cons]
    cases hr : right r with
    | false => simp
    | true =>
      have hN := right_N hr
      rw [if_pos rfl, ticksGo_eq l _ (by split <;> omega) (by split <;> omega)]
      rw [Bool.true_and, show sumN (r :: l) = r.N + sumN l from rfl]
      cases ha : l.all right with
      | false => simp
      | true =>
        have := sumN_nonneg ha
        simp only [if_true]
        by_cases hq : 1073741825 < acc + r.N
        · rw [if_pos hq, if_pos (show _ by omega), if_pos (show _ by omega)]
        · rw [if_neg hq, Int.add_assoc]
theorem ticks_eq (l : List Run) : ticks l = (if chk l = 0 then sumN l else 0, chk l) := by
  unfold ticks
  rw [ticksGo_eq l 0 (by omega) (by omega)]
  unfold chk
  cases l.all right
  · rfl
  · by_cases h : 1073741824 < sumN l
    · simp [h]
    · simp [h]

theorem refCheck_loop0 (l : List Run) (hl : l.length ≤ 1048576) (nl fu : Bool) (k : List Item) (R : Option (AVal × Heap))
    (hk : l.all right = true → ∀ τ, lk 0 τ = .imm nl fu true (l.map encRun) → finK 0 [.tmp 2] (run E 0 k τ []) = R)
    (hn : l.all right = false → R = some (.lit (.int .i64 10), [])) :
    ∀ (d i : Nat), i + d = l.length → (l.take i).all right = true →
   finK 0 [.tmp 2] (run E 0 (.code L25_0 :: .inLoop [0, 3] L25_0 :: .inBlock 0 :: k) [(0, .imm nl fu true (l.map encRun)), (3, .lit (.int .i64 i))] []) = R := by
  intro d
  induction d with
  | zero =>
    intro i hi ht
    have : i = l.length := by omega
    subst this
    simp [go_sem, run_codeL E L25_0.eq_1]
    exact hk (by simpa using ht) _ rfl
  | succ d ih =>
    intro i hi ht
    have hlt : i < l.length := by omega
    have w2 := wrapIdx (i := i) (by omega)
    have hs := refRight_spec l[i]
    simp only [encRun] at hs
    cases hrt : right l[i] with
    | false =>
      have : l.all right = false := by
        rw [List.all_eq_false]; exact ⟨l[i], List.getElem_mem hlt, by simp [hrt]⟩
      rw [hn this]
      simp [go_sem, run_codeL E L25_0.eq_1, hlt, List.getElem?_eq_getElem hlt, encRun, hs, hrt]
    | true =>
      simp [go_sem, run_codeL E L25_0.eq_1, hlt, List.getElem?_eq_getElem hlt, encRun, hs, hrt, w2]
      rw [run_inLoop']
      simp [go_sem, purse_eq]
      exact ih (i + 1) (by omega) (by rw [List.take_succ_eq_append_getElem hlt, List.all_append]; simp [ht, hrt])
theorem refCheck_loop1 (l : List Run) (hl : l.length ≤ 1048576) (hN : ∀ r ∈ l, 1 ≤ r.N ∧ r.N ≤ 1073741824) (nl fu : Bool) (k : List Item) (R : Int → Option (AVal × Heap))
    (hk : ∀ τ, finK 0 [.tmp 2] (run E 0 k τ []) = R 0) (hn : R 12 = some (.lit (.int .i64 12), [])) :
    ∀ (d i : Nat) (left : Int), i + d = l.length → 0 ≤ left → left ≤ 1073741824 →
   finK 0 [.tmp 2] (run E 0 (.code L25_1 :: .inLoop [0, 4, 5] L25_1 :: .inBlock 2 :: k) [(0, .imm nl fu true (l.map encRun)), (4, .lit (.int .i64 left)), (5, .lit (.int .i64 i))] []) = R (if left < sumN (l.drop i) then 12 else 0) := by
  intro d
  induction d with
  | zero =>
    intro i left hi h0 h1
    have : i = l.length := by omega
    subst this
    simp [go_sem, run_codeL E L25_1.eq_1, sumN, Int.not_lt.2 h0]
    exact hk _
  | succ d ih =>
    intro i left hi h0 h1
    have hlt : i < l.length := by omega
    have w2 := wrapIdx (i := i) (by omega)
    have hn' := hN _ (List.getElem_mem hlt)
    rw [List.drop_eq_getElem_cons hlt, sumN]
    have hs : 0 ≤ sumN (l.drop (i + 1)) := by
      have : ∀ m : List Run, (∀ r ∈ m, 1 ≤ r.N ∧ r.N ≤ 1073741824) → 0 ≤ sumN m := by
        intro m; induction m with
        | nil => intro _; simp [sumN]
        | cons x xs ih => intro h; have := h x (by simp); have := ih fun r hr => h r (by simp [hr]); simp only [sumN]; omega
      exact this _ fun r hr => hN r (List.mem_of_mem_drop hr)
    by_cases hq : left < l[i].N
    · rw [if_pos (by omega), hn]
      simp [go_sem, run_codeL E L25_1.eq_1, hlt, List.getElem?_eq_getElem hlt, encRun, hq]
    · have w1 : IntKind.wrap .i64 (left - l[i].N) = left - l[i].N := wrap64 (by omega) (by omega)
      simp [go_sem, run_codeL E L25_1.eq_1, hlt, List.getElem?_eq_getElem hlt, encRun, hq, w1, w2]
      rw [run_inLoop']
      simp [go_sem, purse_eq]
      have := ih (i + 1) (left - l[i].N) (by omega) (by omega) (by omega)
      simp only [Int.natCast_add, Int.natCast_one] at this
      rw [this]
      congr 1
      split <;> split <;> first | rfl | omega
theorem refCheck_spec (l : List Run) (hl : l.length ≤ 1048576) (nl fu : Bool) :
    call E (.func (.func 25) [] []) [.imm nl fu true (l.map encRun)] [] = some (.lit (.int .i64 (chk l)), []) := by
  rw [call_func E E25]
  simp [go_sem, ir25]
  rw [run_inLoop']
  simp [go_sem, purse_eq]
  refine refCheck_loop0 l hl nl fu _ _ ?_ ?_ l.length 0 (by omega) (by simp)
  · intro ha τ h
    have hN : ∀ r ∈ l, 1 ≤ r.N ∧ r.N ≤ 1073741824 := fun r hr => right_N (List.all_eq_true.1 ha r hr)
    simp [go_sem, h]
    rw [run_inLoop']
    simp [go_sem, purse_eq, h]
    have := refCheck_loop1 l hl hN nl fu [.code (.seq (.reg [⟨none, some 2, .copy (.c (.lit (.int .i64 0)))⟩] [] []) .ret)] (fun n => some (.lit (.int .i64 n), [])) ?_ rfl l.length 0 1073741824 (by omega) (by omega) (by omega)
    · simpa [chk, ha] using this
    · intro τ; simp [go_sem]
  · intro ha; simp [chk, ha]

theorem count_loop (l : List Run) (hl : l.length ≤ 1048576) (hN : ∀ r ∈ l, 1 ≤ r.N ∧ r.N ≤ 1073741824) (nl fu : Bool) (k : List Item) (R : Int → Option (AVal × Heap))
    (hk : ∀ n τ, lk 3 τ = .lit (.int .i64 n) → finK 0 [.tmp 2] (run E 0 k τ []) = R n) :
    ∀ (d i : Nat) (n : Int), i + d = l.length → 0 ≤ n → n ≤ 1073741824 * i →
   finK 0 [.tmp 2] (run E 0 (.code L26_0 :: .inLoop [0, 3, 4] L26_0 :: .inBlock 0 :: k) [(0, .imm nl fu true (l.map encRun)), (3, .lit (.int .i64 n)), (4, .lit (.int .i64 i))] []) = R (n + sumN (l.drop i)) := by
  intro d
  induction d with
  | zero =>
    intro i n hi h0 h1
    have : i = l.length := by omega
    subst this
    simp [go_sem, run_codeL E L26_0.eq_1, sumN]
    exact hk _ _ rfl
  | succ d ih =>
    intro i n hi h0 h1
    have hlt : i < l.length := by omega
    have w2 := wrapIdx (i := i) (by omega)
    have hn' := hN _ (List.getElem_mem hlt)
    rw [List.drop_eq_getElem_cons hlt, sumN]
    have w1 : IntKind.wrap .i64 (n + l[i].N) = n + l[i].N := wrap64 (by omega) (by omega)
    simp [go_sem, run_codeL E L26_0.eq_1, hlt, List.getElem?_eq_getElem hlt, encRun, w1, w2]
    rw [run_inLoop']
    simp [go_sem, purse_eq]
    have := ih (i + 1) (n + l[i].N) (by omega) (by omega) (by omega)
    simp only [Int.natCast_add, Int.natCast_one] at this
    rw [this, Int.add_assoc]
theorem count_spec (l : List Run) (hl : l.length ≤ 1048576) (hN : ∀ r ∈ l, 1 ≤ r.N ∧ r.N ≤ 1073741824) (nl fu : Bool) :
    call E (.func (.func 26) [] []) [.imm nl fu true (l.map encRun)] [] = some (.lit (.int .i64 (sumN l)), []) := by
  rw [call_func E E26]
  simp [go_sem, ir26]
  rw [run_inLoop']
  simp [go_sem, purse_eq]
  have := count_loop l hl hN nl fu [.code (.seq (.reg [⟨none, some 18, .copy (.t 3)⟩, ⟨none, some 2, .copy (.t 18)⟩] [] []) .ret)] (fun n => some (.lit (.int .i64 n), [])) ?_ l.length 0 0 (by omega) (by omega) (by omega)
  · simpa using this
  · intro n τ h; simp [go_sem, h]
end Go.AM.R1
open Go Go.AM
namespace Go.AM.R1

def zeroRun : Run := ⟨0, 0, 0⟩
/-- What there is at a tick. -/
def pick : Int → List Run → Option Run
  | _, [] => none
  | t, r :: l => if t < r.N then some ⟨1, r.Bus, r.Drive⟩ else pick (t - r.N) l
theorem pick_some : ∀ {l : List Run} {t : Int}, 0 ≤ t → t < sumN l → ∃ r, pick t l = some r
  | [], t, h0, h => by simp [sumN] at h; omega
  | r :: l, t, h0, h => by
    rw [pick]
    by_cases hq : t < r.N
    · exact ⟨_, if_pos hq⟩
    · rw [if_neg hq]
      rw [show sumN (r :: l) = r.N + sumN l from rfl] at h
      exact pick_some (by omega) (by omega)
theorem between_one : ∀ (l : List Run) (at_ t : Int), (∀ r ∈ l, 1 ≤ r.N) → betweenGo t (t + 1) at_ l = if t < at_ then [] else (pick (t - at_) l).toList
  | [], at_, t, _ => by simp [betweenGo, pick]
  | r :: l, at_, t, h => by
    have hr := h r (by simp)
    rw [betweenGo, between_one l _ t fun x hx => h x (by simp [hx]), pick]
    by_cases h1 : t < at_
    · have hp : ¬ 0 < part at_ t (t + 1) r.N := by unfold part; split <;> split <;> omega
      rw [if_pos h1, if_neg hp, if_pos (by omega)]; rfl
    · rw [if_neg h1]
      by_cases h2 : t < at_ + r.N
      · have hp : part at_ t (t + 1) r.N = 1 := by unfold part; split <;> split <;> omega
        rw [hp, if_pos h2, if_pos (show t - at_ < r.N by omega)]; rfl
      · have hp : ¬ 0 < part at_ t (t + 1) r.N := by unfold part; split <;> split <;> omega
        rw [if_neg h2, if_neg hp, if_neg (show ¬ t - at_ < r.N by omega), show t - (at_ + r.N) = t - at_ - r.N from by omega]; rfl

def atRun (l : List Run) (t : Int) : Run × Int :=
  if chk l ≠ 0 then (zeroRun, chk l) else if t < 0 ∨ sumN l ≤ t then (zeroRun, 10) else ((pick t l).getD zeroRun, 0)
theorem chk_right {l : List Run} (h : chk l = 0) : (∀ r ∈ l, 1 ≤ r.N ∧ r.N ≤ 1073741824) ∧ 0 ≤ sumN l ∧ sumN l ≤ 1073741824 := by
  unfold chk at h
  cases ha : l.all right with
  | false => rw [ha] at h; simp at h
  | true =>
    rw [ha, if_pos rfl] at h
    refine ⟨fun r hr => right_N (List.all_eq_true.1 ha r hr), sumN_nonneg ha, ?_⟩
    by_cases hq : 1073741824 < sumN l
    · rw [if_pos hq] at h; omega
    · omega
theorem at_spec (l : List Run) (hl : l.length ≤ 1048576) (hl2 : ∀ r ∈ l, r.Ok) (t : Int) (ht : -9223372036854775808 ≤ t ∧ t ≤ 9223372036854775807) (nl fu : Bool) :
    call E (.func (.func 24) [] []) [.imm nl fu true (l.map encRun), .lit (.int .i64 t)] [] = some (.tup [.agg (encRun (atRun l t).1), .lit (.int .i64 (atRun l t).2)], []) := by
  rw [call_func E E24]
  have hT := ticks_spec l (by omega) hl2 nl fu
  rw [ticks_eq] at hT
  by_cases h : chk l = 0
  · obtain ⟨hN, h0, h1⟩ := chk_right h
    rw [h, if_pos rfl] at hT
    by_cases h2 : t < 0
    · simp [go_sem, ir24, hT, atRun, h, h2, encRun, zeroRun]
    · by_cases h3 : sumN l ≤ t
      · simp [go_sem, ir24, hT, atRun, h, h2, h3, encRun, zeroRun]
      · have hB := between_spec l t (t + 1) hl (fun r hr => ⟨by have := hN r hr; omega, (hN r hr).2⟩) (by omega) (by omega) nl fu
        obtain ⟨r, hr⟩ := pick_some (l := l) (t := t) (by omega) (by omega)
        rw [between_one l 0 t fun r hr => (hN r hr).1, if_neg h2, Int.sub_zero, hr] at hB
        simp [resV, resH, encRun] at hB
        have w1 : IntKind.wrap .i64 (t + 1) = t + 1 := wrap64 (by omega) (by omega)
        simp [go_sem, ir24, hT, atRun, h, h2, h3, encRun, w1, hB, hr]
  · rw [if_neg h] at hT
    simp [go_sem, ir24, hT, atRun, h, encRun, zeroRun]
end Go.AM.R1
open Go Go.AM
namespace Go.AM.R1

/-! ### Few, Same, alike -/
def posSum : List Run → Int
  | [] => 0
  | r :: l => (if 0 < r.N then r.N else 0) + posSum l
theorem posSum_nonneg : ∀ l : List Run, 0 ≤ posSum l
  | [] => by simp [posSum]
  | r :: l => by have := posSum_nonneg l; simp only [posSum]; split <;> omega
def fewGo (left : Int) : List Run → Bool
  | [] => true
  | r :: l => if left < r.N then false else fewGo (if 0 < r.N then left - r.N else left) l
theorem fewGo_spec : ∀ (l : List Run) (left : Int), 0 ≤ left → (fewGo left l = true ↔ posSum l ≤ left)
  | [], left, h => by simp [fewGo, posSum, h]
  | r :: l, left, h => by
    have := posSum_nonneg l
    rw [fewGo, show posSum (r :: l) = (if 0 < r.N then r.N else 0) + posSum l from rfl]
    by_cases h1 : left < r.N
    · rw [if_pos h1, if_pos (by omega)]; constructor
      · intro h; cases h
      · intro h; omega
    · rw [if_neg h1, fewGo_spec l _ (by split <;> omega)]
      by_cases h2 : 0 < r.N
      · rw [if_pos h2, if_pos h2]; omega
      · rw [if_neg h2, if_neg h2]; omega
def few (l : List Run) : Bool := fewGo 3000 (l.take 61) && decide (l.length ≤ 60)
theorem few_loop (l : List Run) (hl2 : ∀ r ∈ l, r.Ok) (nl fu : Bool) (k : List Item) (R : Bool → Option (AVal × Heap))
    (hk : ∀ τ, lk 0 τ = .imm nl fu true (l.map encRun) → finK 0 [.tmp 2] (run E 0 k τ []) = R true)
    (hf : R false = some (.lit (.bool false), [])) :
    ∀ (d i : Nat) (left : Int), i + d = min l.length 61 → 0 ≤ left → left ≤ 3000 →
   finK 0 [.tmp 2] (run E 0 (.code L27_0 :: .inLoop [0, 3, 4] L27_0 :: .inBlock 0 :: k) [(0, .imm nl fu true (l.map encRun)), (3, .lit (.int .i64 left)), (4, .lit (.int .i64 i))] [])
   = R (fewGo left ((l.take 61).drop i)) := by
  intro d
  induction d with
  | zero =>
    intro i left hi h0 h1
    rw [List.drop_eq_nil_of_le (by simp; omega), fewGo]
    by_cases hq : i < l.length
    · have h61 : ¬ (i : Int) < 61 := by omega
      simp [go_sem, run_codeL E L27_0.eq_1, hq, h61]
      exact hk _ rfl
    · simp [go_sem, run_codeL E L27_0.eq_1, hq]
      exact hk _ rfl
  | succ d ih =>
    intro i left hi h0 h1
    have hlt : i < l.length := by omega
    have h61 : (i : Int) < 61 := by omega
    have hr := hl2 _ (List.getElem_mem hlt)
    have w2 := wrapIdx (i := i) (by omega)
    rw [List.drop_eq_getElem_cons (by simp; omega), fewGo, List.getElem_take]
    by_cases h1 : left < l[i].N
    · rw [if_pos h1, hf]
      simp [go_sem, run_codeL E L27_0.eq_1, hlt, h61, List.getElem?_eq_getElem hlt, encRun, h1]
    · rw [if_neg h1]
      by_cases h2 : 0 < l[i].N
      · have w1 : IntKind.wrap .i64 (left - l[i].N) = left - l[i].N := wrap64 (by omega) (by omega)
        rw [if_pos h2]
        simp [go_sem, run_codeL E L27_0.eq_1, hlt, h61, List.getElem?_eq_getElem hlt, encRun, h1, h2, w1, w2]
        rw [run_inLoop']
        simp [go_sem, purse_eq]
        exact ih (i + 1) _ (by omega) (by omega) (by omega)
      · rw [if_neg h2]
        simp [go_sem, run_codeL E L27_0.eq_1, hlt, h61, List.getElem?_eq_getElem hlt, encRun, h1, h2, w2]
        rw [run_inLoop']
        simp [go_sem, purse_eq]
        exact ih (i + 1) _ (by omega) (by omega) (by omega)
theorem few_spec (l : List Run) (hl2 : ∀ r ∈ l, r.Ok) (nl fu : Bool) :
    call E (.func (.func 27) [] []) [.imm nl fu true (l.map encRun)] [] = some (.lit (.bool (few l)), []) := by
  rw [call_func E E27]
  simp [go_sem, ir27]
  rw [run_inLoop']
  simp [go_sem, purse_eq]
  have := few_loop l hl2 nl fu [.code (.seq (.reg [⟨none, some 35, .copy (.t 0)⟩, ⟨none, some 36, .len (.t 35)⟩, ⟨none, some 37, .bin .leq (.t 36) (.c (.lit (.int .i64 60)))⟩, ⟨none, some 2, .copy (.t 37)⟩] [] []) .ret)] (fun b => some (.lit (.bool (b && decide (l.length ≤ 60))), [])) ?_ rfl (min l.length 61) 0 3000 (by omega) (by omega) (by omega)
  · simpa [few] using this
  · intro τ h
    have : decide ((l.length : Int) ≤ 60) = decide (l.length ≤ 60) := by apply decide_eq_decide.2; omega
    simp [go_sem, h, this]
theorem few_true {l : List Run} (h : few l = true) : l.length ≤ 60 ∧ posSum l ≤ 3000 := by
  simp only [few, Bool.and_eq_true, decide_eq_true_eq] at h
  obtain ⟨h1, h2⟩ := h
  rw [List.take_of_length_le (by omega), fewGo_spec _ _ (by omega)] at h1
  exact ⟨h2, h1⟩

theorem encRun_inj {a b : Run} (h : encRun a = encRun b) : a = b := by
  cases a; cases b
  simp [encRun] at h
  simp [h]
theorem same_loop (l m : List Run) (hlm : l.length = m.length) (hl : l.length ≤ 1099511627775) (nl fu nl' fu' : Bool) (k : List Item) (R : Bool → Option (AVal × Heap))
    (hk : ∀ τ, finK 0 [.tmp 4] (run E 0 k τ []) = R true) (hf : R false = some (.lit (.bool false), [])) :
    ∀ (d i : Nat), i + d = l.length →
   finK 0 [.tmp 4] (run E 0 (.code L28_0 :: .inLoop [0, 1, 5] L28_0 :: .inBlock 0 :: k) [(0, .imm nl fu true (l.map encRun)), (1, .imm nl' fu' true (m.map encRun)), (5, .lit (.int .i64 i))] [])
   = R (decide (l.drop i = m.drop i)) := by
  intro d
  induction d with
  | zero =>
    intro i hi
    rw [List.drop_eq_nil_of_le (by omega), List.drop_eq_nil_of_le (by omega)]
    have : ¬ i < l.length := by omega
    simp [go_sem, run_codeL E L28_0.eq_1, this]
    exact hk _
  | succ d ih =>
    intro i hi
    have hlt : i < l.length := by omega
    have hlt' : i < m.length := by omega
    have w2 := wrapIdx (i := i) (by omega)
    rw [List.drop_eq_getElem_cons hlt, List.drop_eq_getElem_cons hlt']
    by_cases h : l[i] = m[i]
    · have h1 : l[i].N = m[i].N := by rw [h]
      have h2 : l[i].Bus = m[i].Bus := by rw [h]
      have h3 : l[i].Drive = m[i].Drive := by rw [h]
      rw [decide_eq_decide.2 (show (l[i] :: l.drop (i + 1) = m[i] :: m.drop (i + 1)) ↔ l.drop (i + 1) = m.drop (i + 1) from ⟨fun e => (List.cons.inj e).2, fun e => by rw [h, e]⟩)]
      simp [go_sem, run_codeL E L28_0.eq_1, hlt, List.getElem?_eq_getElem hlt, List.getElem?_eq_getElem hlt', encRun, h1, h2, h3, h, w2]
      rw [run_inLoop']
      simp [go_sem, purse_eq]
      have := ih (i + 1) (by omega)
      simpa using this
    · have h' : ¬ (l[i].N = m[i].N ∧ l[i].Bus = m[i].Bus ∧ l[i].Drive = m[i].Drive) := by
        rintro ⟨h1, h2, h3⟩
        apply h
        cases hl : l[i]; cases hm : m[i]
        rw [hl, hm] at h1 h2 h3
        simp at h1 h2 h3
        rw [h1, h2, h3]
      rw [decide_eq_false (show ¬ (l[i] :: l.drop (i + 1) = m[i] :: m.drop (i + 1)) from fun e => h (List.cons.inj e).1), hf]
      simp [go_sem, run_codeL E L28_0.eq_1, hlt, List.getElem?_eq_getElem hlt, List.getElem?_eq_getElem hlt', encRun, h, w2]
      by_cases h1 : l[i].N = m[i].N <;> by_cases h2 : l[i].Bus = m[i].Bus <;> by_cases h3 : l[i].Drive = m[i].Drive <;>
      simp_all [go_sem]
theorem same_spec (l m : List Run) (hl : l.length ≤ 1099511627775) (nl fu nl' fu' : Bool) :
    call E (.func (.func 28) [] []) [.imm nl fu true (l.map encRun), .imm nl' fu' true (m.map encRun)] [] = some (.lit (.bool (decide (l = m))), []) := by
  rw [call_func E E28]
  by_cases hlm : l.length = m.length
  · simp [go_sem, ir28, hlm]
    rw [run_inLoop']
    simp [go_sem, purse_eq]
    have := same_loop l m hlm hl nl fu nl' fu' [.code (.seq (.reg [⟨none, some 4, .copy (.c (.lit (.bool true)))⟩] [] []) .ret)] (fun b => some (.lit (.bool b), [])) ?_ rfl l.length 0 (by omega)
    · simpa using this
    · intro τ; simp [go_sem]
  · have : ¬ (l.length : Int) = m.length := by omega
    have h2 : ¬ l = m := fun h => hlm (by rw [h])
    simp [go_sem, ir28, hlm, this, h2]

def alike (a b : Run) : Bool := decide (a.Bus = b.Bus) && decide (a.Drive = b.Drive)
theorem alike_spec (a b : Run) : call E (.func (.func 51) [] []) [.agg (encRun a), .agg (encRun b)] [] = some (.lit (.bool (alike a b)), []) := by
  rw [call_func E E51]
  by_cases h1 : a.Bus = b.Bus <;> by_cases h2 : a.Drive = b.Drive <;> simp [go_sem, ir51, encRun, alike, h1, h2]
end Go.AM.R1
open Go Go.AM
namespace Go.AM.R1

/-! ### Join -/
def push (out : List Run) (r : Run) : List Run :=
  match out.getLast? with
  | none => [r]
  | some x => if alike x r = true then out.dropLast ++ [⟨x.N + r.N, x.Bus, x.Drive⟩] else out ++ [r]
theorem push_nil (r : Run) : push [] r = [r] := rfl
theorem push_snoc (o : List Run) (x r : Run) : push (o ++ [x]) r = if alike x r = true then o ++ [⟨x.N + r.N, x.Bus, x.Drive⟩] else o ++ [x, r] := by
  simp [push]
def joinGo (n : Int) (out : List Run) : List Run → List Run
  | [] => out
  | r :: l => if r.N < 1 then joinGo n out l else if 4611686018427387904 - n < r.N then [] else joinGo (n + r.N) (push out r) l
theorem snoc_cases {α : Type} (l : List α) : l = [] ∨ ∃ o x, l = o ++ [x] := by
  rcases List.eq_nil_or_concat l with h | ⟨o, x, h⟩
  · exact .inl h
  · exact .inr ⟨o, x, by simpa using h⟩
theorem get_snoc {o : List Run} {x : Run} : (o.map encRun ++ [encRun x])[o.length]? = some (encRun x) := by
  rw [List.getElem?_append_right (by simp)]; simp
theorem set_snoc {o : List Run} {x : List AVal} {v : List AVal} : (o.map encRun ++ [x]).set o.length v = o.map encRun ++ [v] := by
  rw [List.set_append_right _ _ (by simp)]; simp
theorem join_loop (l : List Run) (hl : l.length ≤ 1048576) (hl2 : ∀ r ∈ l, r.Ok) (nl fu : Bool) (k : List Item) (R : List Run → Option (AVal × Heap))
    (hk : ∀ (out : List Run) τ, lk 3 τ = resV 2 (out.map encRun) → finK 0 [.tmp 2] (run E 0 k τ (resH [.dead, .dead] (out.map encRun))) = R out)
    (hn : R [] = some (nilS, [])) :
    ∀ (d i : Nat) (n : Int) (out : List Run), i + d = l.length → 0 ≤ n → n ≤ 4611686018427387904 → out.length ≤ i → (∀ x ∈ out, 1 ≤ x.N ∧ x.N ≤ n) →
   finK 0 [.tmp 2] (run E 0 (.code L29_0 :: .inLoop [3, 4, 8, 9, 10] L29_0 :: .inBlock 0 :: k)
     [(3, resV 2 (out.map encRun)), (4, .lit (.int .i64 n)), (8, .imm nl fu true (l.map encRun)), (9, .lit (.int .i64 l.length)), (10, .lit (.int .i64 i))]
     (resH [.dead, .dead] (out.map encRun)))
   = R (joinGo n out (l.drop i)) := by
  intro d
  induction d with
  | zero =>
    intro i n out hi h0 h3 h4 h5
    have : i = l.length := by omega
    subst this
    simp [go_sem, run_codeL E L29_0.eq_1, joinGo]
    exact hk out _ rfl
  | succ d ih =>
    intro i n out hi h0 h3 h4 h5
    have hlt : i < l.length := by omega
    have hr := hl2 _ (List.getElem_mem hlt)
    have hr1 := hr.n1; have hr2 := hr.n2
    have w2 := wrapIdx (i := i) (by omega)
    have w3 : IntKind.wrap .i64 (4611686018427387904 - n) = 4611686018427387904 - n := wrap64 (by omega) (by omega)
    rw [List.drop_eq_getElem_cons hlt, joinGo]
    by_cases hq : l[i].N < 1
    · rw [if_pos hq]
      have ih2 := ih (i + 1) n out (by omega) (by omega) (by omega) (by omega) h5
      rcases snoc_cases out with rfl | ⟨o, x, rfl⟩
      · simp [resV, resH, encRun] at ih2
        simp [go_sem, run_codeL E L29_0.eq_1, hlt, List.getElem?_eq_getElem hlt, encRun, w2, resV, resH, purse_eq, hq]
        rw [run_inLoop']
        simp [go_sem, purse_eq]
        exact ih2
      · simp [resV, resH, encRun] at ih2
        simp [go_sem, run_codeL E L29_0.eq_1, hlt, List.getElem?_eq_getElem hlt, encRun, w2, resV, resH, purse_eq, hq]
        rw [run_inLoop']
        simp [go_sem, purse_eq]
        exact ih2
    · rw [if_neg hq]
      by_cases hm : 4611686018427387904 - n < l[i].N
      · rw [if_pos hm, hn]
        rcases snoc_cases out with rfl | ⟨o, x, rfl⟩
        · simp [go_sem, run_codeL E L29_0.eq_1, hlt, List.getElem?_eq_getElem hlt, encRun, w2, w3, resV, resH, purse_eq, hq, hm]
        · simp [go_sem, run_codeL E L29_0.eq_1, hlt, List.getElem?_eq_getElem hlt, encRun, w2, w3, resV, resH, purse_eq, hq, hm]
      · rw [if_neg hm]
        have w1 : IntKind.wrap .i64 (n + l[i].N) = n + l[i].N := wrap64 (by omega) (by omega)
        rcases snoc_cases out with rfl | ⟨o, x, rfl⟩
        · have ih2 := ih (i + 1) (n + l[i].N) (push [] l[i]) (by omega) (by omega) (by omega) (by simp [push]) (by
            intro y hy; simp [push_nil] at hy; subst hy; omega)
          rw [push_nil] at ih2 ⊢
          simp [resV, resH, encRun] at ih2
          have wm : IntKind.wrap .i64 (-1) = -1 := rfl
          simp [go_sem, run_codeL E L29_0.eq_1, hlt, List.getElem?_eq_getElem hlt, encRun, w1, w2, w3, wm, resV, resH, purse_eq, hq, hm]
          rw [run_inLoop']
          simp [go_sem, purse_eq]
          exact ih2
        · have hx := h5 x (by simp)
          simp at h4
          have ih2 := ih (i + 1) (n + l[i].N) (push (o ++ [x]) l[i]) (by omega) (by omega) (by omega) (by
            rw [push_snoc]; split <;> simp <;> omega) (by
            intro y hy
            rw [push_snoc] at hy
            split at hy
            · simp at hy
              rcases hy with hy | rfl
              · have := h5 y (by simp [hy]); omega
              · simp; omega
            · simp at hy
              rcases hy with hy | rfl | rfl
              · have := h5 y (by simp [hy]); omega
              · omega
              · omega)
          have wl : IntKind.wrap .i64 (o.length : Int) = o.length := wrap64 (by omega) (by omega)
          have wx : IntKind.wrap .i64 (x.N + l[i].N) = x.N + l[i].N := wrap64 (by omega) (by omega)
          have hA := alike_spec x l[i]
          have hg := get_snoc (o := o) (x := x)
          simp only [encRun] at hA hg
          have hb : ¬ ((o.length + 1 + 1) * 24 > 70368744177664) := by omega
          rw [push_snoc] at ih2 ⊢
          cases ha : alike x l[i] with
          | true =>
            rw [ha] at hA ih2
            simp [resV, resH, encRun] at ih2
            simp [go_sem, run_codeL E L29_0.eq_1, hlt, List.getElem?_eq_getElem hlt, encRun, w1, w2, w3, wl, wx, resV, resH, purse_eq, hq, hm, hA, hg, set_snoc]
            rw [run_inLoop']
            simp [go_sem, purse_eq]
            exact ih2
          | false =>
            rw [ha] at hA ih2
            simp [resV, resH, encRun] at ih2
            simp [go_sem, run_codeL E L29_0.eq_1, hlt, List.getElem?_eq_getElem hlt, encRun, w1, w2, w3, wl, wx, resV, resH, purse_eq, hq, hm, hA, hg, hb]
            rw [run_inLoop']
            simp [go_sem, purse_eq]
            exact ih2
end Go.AM.R1
open Go Go.AM
namespace Go.AM.R1

theorem join_spec (l : List Run) (hl : l.length ≤ 1048576) (hl2 : ∀ r ∈ l, r.Ok) (nl fu : Bool) :
    call E (.func (.func 29) [] []) [.imm nl fu true (l.map encRun)] []
      = some (resV 0 ((joinGo 0 [] l).map encRun), resH [] ((joinGo 0 [] l).map encRun)) := by
  rw [call_func E E29]
  simp [go_sem, ir29, purse_eq]
  rw [run_inLoop']
  simp [go_sem, purse_eq]
  have h := join_loop l hl hl2 nl fu [.code (.seq (.reg [⟨none, some 56, .copy (.t 3)⟩, ⟨none, some 2, .copy (.t 56)⟩] [] []) .ret)] (fun out => some (resV 0 (out.map encRun), resH [] (out.map encRun))) ?_ (by simp [resV, resH]) l.length 0 0 [] (by omega) (by omega) (by omega) (by simp) (by simp)
  · simpa [resV, resH, nilS] using h
  · intro out τ h
    cases out with
    | nil => simp [go_sem, h, resV, resH, nilS]
    | cons x xs => simp [go_sem, h, resV, resH, purse_eq]

/-- Joined runs, of up to 2^62 ticks. -/
def joined (out : List Run) : List Run → List Run
  | [] => out
  | r :: l => if r.N < 1 then joined out l else joined (push out r) l
theorem joinGo_eq : ∀ (l : List Run) (n : Int) (out : List Run), n + posSum l ≤ 4611686018427387904 → joinGo n out l = joined out l
  | [], _, _, _ => rfl
  | r :: l, n, out, h => by
    have h0 := posSum_nonneg l
    rw [show posSum (r :: l) = (if 0 < r.N then r.N else 0) + posSum l from rfl] at h
    rw [joinGo, joined]
    by_cases hq : r.N < 1
    · rw [if_pos hq, if_pos hq]; rw [if_neg (by omega)] at h; exact joinGo_eq l n out (by omega)
    · rw [if_neg hq, if_neg hq]; rw [if_pos (by omega)] at h
      rw [if_neg (by omega)]; exact joinGo_eq l _ _ (by omega)
theorem joinGo_big : ∀ (l : List Run) (n : Int) (out : List Run), 4611686018427387904 < n + posSum l → n ≤ 4611686018427387904 → joinGo n out l = []
  | [], n, _, h, h2 => by simp [posSum] at h; omega
  | r :: l, n, out, h, h2 => by
    rw [show posSum (r :: l) = (if 0 < r.N then r.N else 0) + posSum l from rfl] at h
    rw [joinGo]
    by_cases hq : r.N < 1
    · rw [if_pos hq]; rw [if_neg (by omega)] at h; exact joinGo_big l n out (by omega) h2
    · rw [if_neg hq]; rw [if_pos (by omega)] at h
      by_cases hm : 4611686018427387904 - n < r.N
      · rw [if_pos hm]
      · rw [if_neg hm]; exact joinGo_big l _ _ (by omega) (by omega)

theorem isEmpty_snoc {α : Type} (o : List α) (x : α) (r : List α) : (o ++ x :: r).isEmpty = false := by cases o <;> rfl
theorem refJoin_loop (l : List Run) (hl : l.length ≤ 1048576) (hl2 : ∀ r ∈ l, r.Ok) (nl fu : Bool) (k : List Item) (R : List Run → Option (AVal × Heap))
    (hk : ∀ (out : List Run) τ, lk 3 τ = .own 0 out.length 3 0 out.length → finK 0 [.tmp 2] (run E 0 k τ [.arr true false out.isEmpty 3 (out.map encRun)]) = R out) :
    ∀ (d i : Nat) (n : Int) (out : List Run), i + d = l.length → 0 ≤ n → n + posSum (l.drop i) ≤ 9223372036854775807 → out.length ≤ i → (∀ x ∈ out, 1 ≤ x.N ∧ x.N ≤ n) →
   finK 0 [.tmp 2] (run E 0 (.code L30_0 :: .inLoop [0, 3, 4] L30_0 :: .inBlock 0 :: k)
     [(0, .imm nl fu true (l.map encRun)), (3, .own 0 out.length 3 0 out.length), (4, .lit (.int .i64 i))]
     [.arr true false out.isEmpty 3 (out.map encRun)])
   = R (joined out (l.drop i)) := by
  intro d
  induction d with
  | zero =>
    intro i n out hi h0 h3 h4 h5
    have : i = l.length := by omega
    subst this
    simp [go_sem, run_codeL E L30_0.eq_1, joined]
    exact hk out _ rfl
  | succ d ih =>
    intro i n out hi h0 h3 h4 h5
    have hlt : i < l.length := by omega
    have hr := hl2 _ (List.getElem_mem hlt)
    have hr1 := hr.n1; have hr2 := hr.n2
    have w2 := wrapIdx (i := i) (by omega)
    have hpos := posSum_nonneg (l.drop (i + 1))
    rw [List.drop_eq_getElem_cons hlt, show posSum (l[i] :: l.drop (i + 1)) = (if 0 < l[i].N then l[i].N else 0) + posSum (l.drop (i + 1)) from rfl] at h3
    rw [List.drop_eq_getElem_cons hlt, joined]
    by_cases hq : l[i].N < 1
    · rw [if_neg (by omega)] at h3
      rw [if_pos hq]
      have ih2 := ih (i + 1) n out (by omega) (by omega) (by omega) (by omega) h5
      simp [go_sem, run_codeL E L30_0.eq_1, hlt, List.getElem?_eq_getElem hlt, encRun, w2, purse_eq, hq]
      rw [run_inLoop']
      simp [go_sem, purse_eq]
      exact ih2
    · rw [if_pos (by omega)] at h3
      rw [if_neg hq]
      rcases snoc_cases out with rfl | ⟨o, x, rfl⟩
      · have ih2 := ih (i + 1) (n + l[i].N) (push [] l[i]) (by omega) (by omega) (by omega) (by simp [push]) (by
          intro y hy; simp [push_nil] at hy; subst hy; omega)
        rw [push_nil] at ih2 ⊢
        simp [encRun] at ih2
        simp [go_sem, run_codeL E L30_0.eq_1, hlt, List.getElem?_eq_getElem hlt, encRun, w2, purse_eq, hq]
        rw [run_inLoop']
        simp [go_sem, purse_eq]
        exact ih2
      · have hx := h5 x (by simp)
        simp at h4
        have ih2 := ih (i + 1) (n + l[i].N) (push (o ++ [x]) l[i]) (by omega) (by omega) (by omega) (by
          rw [push_snoc]; split <;> simp <;> omega) (by
          intro y hy
          rw [push_snoc] at hy
          split at hy
          · simp at hy
            rcases hy with hy | rfl
            · have := h5 y (by simp [hy]); omega
            · simp; omega
          · simp at hy
            rcases hy with hy | rfl | rfl
            · have := h5 y (by simp [hy]); omega
            · omega
            · omega)
        have wl : IntKind.wrap .i64 (o.length : Int) = o.length := wrap64 (by omega) (by omega)
        have wx : IntKind.wrap .i64 (x.N + l[i].N) = x.N + l[i].N := wrap64 (by omega) (by omega)
        have hg := get_snoc (o := o) (x := x)
        simp only [encRun] at hg
        have hb : ¬ ((o.length + 1 + 1) * 24 > 70368744177664) := by omega
        have hz : (0 : Int) < (o.length : Int) + 1 := by omega
        rw [push_snoc] at ih2 ⊢
        by_cases h7 : x.Bus = l[i].Bus
        · by_cases h8 : x.Drive = l[i].Drive
          · have ha : alike x l[i] = true := by simp [alike, h7, h8]
            rw [ha] at ih2 ⊢
            simp [encRun] at ih2
            simp [go_sem, run_codeL E L30_0.eq_1, hlt, List.getElem?_eq_getElem hlt, encRun, w2, wl, wx, purse_eq, hq, hg, set_snoc, hz, h7, h8]
            rw [run_inLoop']
            simp [go_sem, purse_eq]
            simpa [h7, h8, isEmpty_snoc, Nat.add_assoc] using ih2
          · have ha : alike x l[i] = false := by simp [alike, h7, h8]
            rw [ha] at ih2 ⊢
            simp [encRun] at ih2
            simp [go_sem, run_codeL E L30_0.eq_1, hlt, List.getElem?_eq_getElem hlt, encRun, w2, wl, wx, purse_eq, hq, hg, hb, hz, h7, h8]
            rw [run_inLoop']
            simp [go_sem, purse_eq]
            simpa [h7, h8, isEmpty_snoc, Nat.add_assoc] using ih2
        · have ha : alike x l[i] = false := by simp [alike, h7]
          rw [ha] at ih2 ⊢
          simp [encRun] at ih2
          simp [go_sem, run_codeL E L30_0.eq_1, hlt, List.getElem?_eq_getElem hlt, encRun, w2, wl, wx, purse_eq, hq, hg, hb, hz, h7]
          rw [run_inLoop']
          simp [go_sem, purse_eq]
          simpa [isEmpty_snoc, Nat.add_assoc] using ih2
theorem refJoin_spec (l : List Run) (hl : l.length ≤ 1048576) (hl2 : ∀ r ∈ l, r.Ok) (hs : posSum l ≤ 9223372036854775807) (nl fu : Bool) :
    call E (.func (.func 30) [] []) [.imm nl fu true (l.map encRun)] []
      = some (.own 0 (joined [] l).length 3 0 (joined [] l).length, [.arr true false (joined [] l).isEmpty 3 ((joined [] l).map encRun)]) := by
  rw [call_func E E30]
  simp [go_sem, ir30, purse_eq]
  rw [run_inLoop']
  simp [go_sem, purse_eq]
  have h := refJoin_loop l hl hl2 nl fu [.code (.seq (.reg [⟨none, some 75, .copy (.t 3)⟩, ⟨none, some 2, .copy (.t 75)⟩] [] []) .ret)] (fun out => some (.own 0 out.length 3 0 out.length, [.arr true false out.isEmpty 3 (out.map encRun)])) ?_ l.length 0 0 [] (by omega) (by omega) (by simpa using hs) (by simp) (by simp)
  · simpa using h
  · intro out τ h
    simp [go_sem, h, purse_eq]

/-! ### The ticks, one by one -/
def expand (l : List Run) : List Run := l.flatMap fun r => List.replicate r.N.toNat ⟨1, r.Bus, r.Drive⟩
theorem refTicks_in (l : List Run) (hl : l.length ≤ 1048576) (nl fu : Bool) (i : Nat) (hlt : i < l.length) (k : List Item) (R : Option (AVal × Heap)) (out0 : List Run)
    (hN : 0 ≤ l[i].N) (hs : (out0.length : Int) + l[i].N ≤ 1073741824)
    (hk : ∀ τ (out : List Run), out = out0 ++ List.replicate l[i].N.toNat ⟨1, l[i].Bus, l[i].Drive⟩ → lk 0 τ = .imm nl fu true (l.map encRun) → lk 3 τ = .own 0 out.length 3 0 out.length → lk 4 τ = .lit (.int .i64 i) →
      finK 0 [.tmp 2] (run E 0 k τ [.arr true false out.isEmpty 3 (out.map encRun)]) = R) :
    ∀ (d j : Nat) (out : List Run), (j + d : Int) = l[i].N → out = out0 ++ List.replicate j ⟨1, l[i].Bus, l[i].Drive⟩ →
   finK 0 [.tmp 2] (run E 0 (.code L32_1 :: .inLoop [0, 3, 4, 5] L32_1 :: .inBlock 2 :: k)
     [(0, .imm nl fu true (l.map encRun)), (3, .own 0 out.length 3 0 out.length), (4, .lit (.int .i64 i)), (5, .lit (.int .i64 j))]
     [.arr true false out.isEmpty 3 (out.map encRun)]) = R := by
  intro d
  induction d with
  | zero =>
    intro j out hj ho
    have hj' : ¬ (j : Int) < l[i].N := by omega
    simp [go_sem, run_codeL E L32_1.eq_1, hlt, List.getElem?_eq_getElem hlt, encRun, hj']
    exact hk _ out (by rw [ho]; congr 2; omega) rfl rfl rfl
  | succ d ih =>
    intro j out hj ho
    have hj' : (j : Int) < l[i].N := by omega
    have w2 := wrapIdx (i := j) (by omega)
    have hlo : out.length = out0.length + j := by rw [ho]; simp
    have hb : ¬ ((out.length + 1) * 24 > 70368744177664) := by omega
    simp [go_sem, run_codeL E L32_1.eq_1, hlt, List.getElem?_eq_getElem hlt, encRun, hj', w2, hb]
    rw [run_inLoop']
    simp [go_sem, purse_eq]
    have ih2 := ih (j + 1) (out ++ [⟨1, l[i].Bus, l[i].Drive⟩]) (by omega) (by rw [ho, List.append_assoc, List.replicate_succ'])
    simpa [encRun, isEmpty_snoc] using ih2
theorem refTicks_loop (l : List Run) (hl : l.length ≤ 1048576) (hN : ∀ r ∈ l, 0 ≤ r.N) (nl fu : Bool) (k : List Item) (R : List Run → Option (AVal × Heap))
    (hk : ∀ (out : List Run) τ, lk 3 τ = .own 0 out.length 3 0 out.length → finK 0 [.tmp 2] (run E 0 k τ [.arr true false out.isEmpty 3 (out.map encRun)]) = R out) :
    ∀ (d i : Nat) (out : List Run), i + d = l.length → (out.length : Int) + sumN (l.drop i) ≤ 1073741824 →
   finK 0 [.tmp 2] (run E 0 (.code L32_0 :: .inLoop [0, 3, 4] L32_0 :: .inBlock 0 :: k)
     [(0, .imm nl fu true (l.map encRun)), (3, .own 0 out.length 3 0 out.length), (4, .lit (.int .i64 i))]
     [.arr true false out.isEmpty 3 (out.map encRun)])
   = R (out ++ expand (l.drop i)) := by
  intro d
  induction d with
  | zero =>
    intro i out hi h0
    have : i = l.length := by omega
    subst this
    simp [go_sem, run_codeL E L32_0.eq_1, expand]
    exact hk out _ rfl
  | succ d ih =>
    intro i out hi h0
    have hlt : i < l.length := by omega
    have hn := hN _ (List.getElem_mem hlt)
    have w2 := wrapIdx (i := i) (by omega)
    have hs0 : ∀ m : List Run, (∀ r ∈ m, 0 ≤ r.N) → 0 ≤ sumN m := by
      intro m; induction m with
      | nil => intro _; simp [sumN]
      | cons x xs ih => intro h; have := h x (by simp); have := ih fun r hr => h r (by simp [hr]); simp only [sumN]; omega
    have hs1 := hs0 (l.drop (i + 1)) fun r hr => hN r (List.mem_of_mem_drop hr)
    rw [List.drop_eq_getElem_cons hlt, show sumN (l[i] :: l.drop (i + 1)) = l[i].N + sumN (l.drop (i + 1)) from rfl] at h0
    rw [List.drop_eq_getElem_cons hlt, show expand (l[i] :: l.drop (i + 1)) = List.replicate l[i].N.toNat ⟨1, l[i].Bus, l[i].Drive⟩ ++ expand (l.drop (i + 1)) from rfl, ← List.append_assoc]
    simp [go_sem, run_codeL E L32_0.eq_1, hlt]
    rw [run_inLoop']
    simp [go_sem, purse_eq]
    refine refTicks_in l hl nl fu i hlt _ _ out hn (by omega) ?_ l[i].N.toNat 0 out (by omega) (by simp)
    intro τ out' ho h1 h3 h4
    simp [go_sem, h1, h3, h4, w2]
    rw [run_inLoop']
    simp [go_sem, purse_eq, h1, h3, h4]
    have hlo : (out'.length : Int) = out.length + l[i].N := by rw [ho]; simp; omega
    have ih2 := ih (i + 1) out' (by omega) (by omega)
    rw [← List.append_assoc, ← ho]
    simpa using ih2
theorem refTicks_spec (l : List Run) (hl : l.length ≤ 1048576) (hN : ∀ r ∈ l, 0 ≤ r.N) (hs : sumN l ≤ 1073741824) (nl fu : Bool) :
    call E (.func (.func 32) [] []) [.imm nl fu true (l.map encRun)] []
      = some (.own 0 (expand l).length 3 0 (expand l).length, [.arr true false (expand l).isEmpty 3 ((expand l).map encRun)]) := by
  rw [call_func E E32]
  simp [go_sem, ir32, purse_eq]
  rw [run_inLoop']
  simp [go_sem, purse_eq]
  have h := refTicks_loop l hl hN nl fu [.code (.seq (.reg [⟨none, some 36, .copy (.t 3)⟩, ⟨none, some 2, .copy (.t 36)⟩] [] []) .ret)] (fun out => some (.own 0 out.length 3 0 out.length, [.arr true false out.isEmpty 3 (out.map encRun)])) ?_ l.length 0 [] (by omega) (by simpa using hs)
  · simpa using h
  · intro out τ h
    simp [go_sem, h, purse_eq]
end Go.AM.R1
open Go Go.AM
namespace Go.AM.R1

/-! ### The plain law of cutting -/
theorem push_push (out : List Run) (n m b d : Int) : push (push out ⟨n, b, d⟩) ⟨m, b, d⟩ = push out ⟨n + m, b, d⟩ := by
  rcases snoc_cases out with rfl | ⟨o, x, rfl⟩
  · simp [push, alike]
  · rw [push_snoc, push_snoc]
    by_cases h : alike x ⟨n, b, d⟩ = true
    · have h' : alike x ⟨n + m, b, d⟩ = true := h
      rw [if_pos h, if_pos h', push_snoc, if_pos (by exact h), Int.add_assoc]
    · have h' : ¬ alike x ⟨n + m, b, d⟩ = true := h
      rw [if_neg h, if_neg h', show o ++ [x, ⟨n, b, d⟩] = (o ++ [x]) ++ [⟨n, b, d⟩] from by simp, push_snoc, if_pos (by simp [alike])]
      simp
theorem joined_append : ∀ (l m out : List Run), joined out (l ++ m) = joined (joined out l) m
  | [], _, _ => rfl
  | r :: l, m, out => by
    rw [List.cons_append, joined, joined]
    split
    · exact joined_append l m out
    · exact joined_append l m _
theorem joined_replicate (out : List Run) (b d : Int) : ∀ n : Nat, joined out (List.replicate (n + 1) ⟨1, b, d⟩) = push out ⟨n + 1, b, d⟩
  | 0 => by simp [joined]
  | n + 1 => by
    rw [List.replicate_succ', joined_append, joined_replicate out b d n, joined, if_neg (by simp), push_push]
    simp [joined]
theorem joined_expand : ∀ (l out : List Run), joined out (expand l) = joined out l
  | [], _ => rfl
  | r :: l, out => by
    rw [show expand (r :: l) = List.replicate r.N.toNat ⟨1, r.Bus, r.Drive⟩ ++ expand l from rfl, joined_append, joined]
    by_cases h : r.N < 1
    · rw [if_pos h, show r.N.toNat = 0 from by omega]
      exact joined_expand l out
    · rw [if_neg h, show r.N.toNat = (r.N.toNat - 1) + 1 from by omega, joined_replicate, joined_expand l _]
      rw [show (((r.N.toNat - 1 : Nat) : Int) + 1) = r.N from by omega]
theorem expand_cons (r : Run) (l : List Run) : expand (r :: l) = List.replicate r.N.toNat ⟨1, r.Bus, r.Drive⟩ ++ expand l := rfl
theorem expand_append (l m : List Run) : expand (l ++ m) = expand l ++ expand m := by simp [expand]
theorem expand_between (a b : Int) : ∀ (l : List Run) (c : Int), (∀ r ∈ l, 0 ≤ r.N) → expand (betweenGo a b c l) = ((expand l).take (b - c).toNat).drop (a - c).toNat
  | [], c, _ => by simp [betweenGo, expand]
  | r :: l, c, h => by
    have hr := h r (by simp)
    have ih := expand_between a b l (c + r.N) fun x hx => h x (by simp [hx])
    rw [betweenGo, expand_append, ih, expand_cons, List.take_append, List.drop_append]
    congr 1
    · rw [List.take_replicate, List.drop_replicate]
      by_cases hp : 0 < part c a b r.N
      · rw [if_pos hp, expand_cons, show expand [] = [] from rfl, List.append_nil]
        congr 1
        revert hp
        unfold part
        split <;> split <;> intro hp <;> simp only [] <;> omega
      · rw [if_neg hp, show min (b - c).toNat r.N.toNat - (a - c).toNat = 0 from by revert hp; unfold part; split <;> split <;> intro hp <;> omega]
        rfl
    · simp only [List.length_take, List.length_replicate]
      rw [show (b - (c + r.N)).toNat = (b - c).toNat - r.N.toNat from by omega]
      by_cases hq : (b - c).toNat ≤ r.N.toNat
      · rw [show (b - c).toNat - r.N.toNat = 0 from by omega]; simp
      · congr 1; omega
theorem cut_law (l : List Run) (h : ∀ r ∈ l, 0 ≤ r.N) (a b : Int) : joined [] (betweenGo a b 0 l) = joined [] (((expand l).take b.toNat).drop a.toNat) := by
  have := expand_between a b l 0 h
  rw [Int.sub_zero, Int.sub_zero] at this
  rw [← this, joined_expand]
theorem expand_length : ∀ l : List Run, (∀ r ∈ l, 0 ≤ r.N) → ((expand l).length : Int) = sumN l
  | [], _ => by simp [expand, sumN]
  | r :: l, h => by
    have hr := h r (by simp)
    have ih := expand_length l fun x hx => h x (by simp [hx])
    rw [expand_cons, show sumN (r :: l) = r.N + sumN l from rfl, List.length_append, List.length_replicate]
    omega
theorem between_mem (a b : Int) : ∀ (l : List Run) (c : Int), (∀ r ∈ l, 0 ≤ r.N ∧ r.N ≤ 1073741824) → ∀ r ∈ betweenGo a b c l, 1 ≤ r.N ∧ r.N ≤ 1073741824
  | [], _, _, r, hr => by simp [betweenGo] at hr
  | x :: l, c, h, r, hr => by
    have hx := h x (by simp)
    rw [betweenGo, List.mem_append] at hr
    rcases hr with hr | hr
    · split at hr
      · rename_i hp
        simp at hr
        subst hr
        refine ⟨by simp; omega, ?_⟩
        simp only [part]
        split <;> split <;> omega
      · cases hr
    · exact between_mem a b l _ (fun y hy => h y (by simp [hy])) r hr
theorem between_length (a b : Int) : ∀ (l : List Run) (c : Int), (betweenGo a b c l).length ≤ l.length
  | [], _ => by simp [betweenGo]
  | x :: l, c => by
    have := between_length a b l (c + x.N)
    rw [betweenGo]
    split <;> simp <;> omega
theorem posSum_le : ∀ (l : List Run) (M : Int), 0 ≤ M → (∀ r ∈ l, r.N ≤ M) → posSum l ≤ M * l.length
  | [], M, _, _ => by simp [posSum]
  | r :: l, M, h0, h => by
    have hr := h r (by simp)
    have ih := posSum_le l M h0 fun x hx => h x (by simp [hx])
    rw [show posSum (r :: l) = (if 0 < r.N then r.N else 0) + posSum l from rfl, List.length_cons]
    have : M * ((l.length + 1 : Nat) : Int) = M * l.length + M := by rw [Int.natCast_add, Int.mul_add]; simp
    split <;> omega
theorem posSum_of_right : ∀ (l : List Run), (∀ r ∈ l, 0 ≤ r.N) → posSum l = sumN l
  | [], _ => rfl
  | r :: l, h => by
    have hr := h r (by simp)
    rw [show posSum (r :: l) = (if 0 < r.N then r.N else 0) + posSum l from rfl, posSum_of_right l fun x hx => h x (by simp [hx]), show sumN (r :: l) = r.N + sumN l from rfl]
    split <;> omega
def cutRuns (l : List Run) (a b : Int) : List Run × Int :=
  if chk l ≠ 0 then ([], chk l) else if a < 0 ∨ b < a ∨ sumN l < b then ([], 10) else (joined [] (betweenGo a b 0 l), 0)
theorem cut_spec (l : List Run) (hl : l.length ≤ 1048576) (hl2 : ∀ r ∈ l, r.Ok) (a b : Int) (nl fu : Bool) :
    call E (.func (.func 31) [] []) [.imm nl fu true (l.map encRun), .lit (.int .i64 a), .lit (.int .i64 b)] []
      = some (.tup [resV 0 ((cutRuns l a b).1.map encRun), .lit (.int .i64 (cutRuns l a b).2)], resH [] ((cutRuns l a b).1.map encRun)) := by
  rw [call_func E E31]
  have hT := ticks_spec l (by omega) hl2 nl fu
  rw [ticks_eq] at hT
  by_cases h : chk l = 0
  · obtain ⟨hN, h0, h1⟩ := chk_right h
    rw [h, if_pos rfl] at hT
    by_cases h2 : a < 0
    · simp [go_sem, ir31, hT, cutRuns, h, h2, resV, resH]
    · by_cases h3 : b < a
      · simp [go_sem, ir31, hT, cutRuns, h, h2, h3, resV, resH]
      · by_cases h4 : sumN l < b
        · simp [go_sem, ir31, hT, cutRuns, h, h2, h3, h4, resV, resH]
        · have hN' : ∀ r ∈ l, 0 ≤ r.N ∧ r.N ≤ 1073741824 := fun r hr => ⟨by have := hN r hr; omega, (hN r hr).2⟩
          have hB := between_spec l a b hl hN' (by omega) (by omega) nl fu
          have hm := between_mem a b l 0 hN'
          have hlen := between_length a b l 0
          have hj := join_spec (betweenGo a b 0 l) (by omega) (fun r hr => ⟨by have := hm r hr; omega, by have := hm r hr; omega⟩) false false
          have hj0 := join_spec (betweenGo a b 0 l) (by omega) (fun r hr => ⟨by have := hm r hr; omega, by have := hm r hr; omega⟩) true true
          have hsum : posSum (betweenGo a b 0 l) ≤ 4611686018427387904 := by
            have := posSum_le (betweenGo a b 0 l) 1073741824 (by omega) fun r hr => (hm r hr).2
            omega
          rw [joinGo_eq _ _ _ (by omega)] at hj hj0
          cases hb : betweenGo a b 0 l with
          | nil =>
            rw [hb] at hB hj hj0
            simp [resV, resH, joined] at hB hj hj0
            simp [go_sem, ir31, hT, cutRuns, h, h2, h3, h4, resV, resH, hB, hj0, hb, joined]
          | cons x xs =>
            rw [hb] at hB hj hj0
            cases hq : joined [] (x :: xs) with
            | nil =>
              rw [hq] at hj
              simp [resV, resH] at hB hj
              simp [go_sem, ir31, hT, cutRuns, h, h2, h3, h4, resV, resH, hB, hj, hb, hq, purse_eq]
            | cons y ys =>
              rw [hq] at hj
              simp [resV, resH] at hB hj
              simp [go_sem, ir31, hT, cutRuns, h, h2, h3, h4, resV, resH, hB, hj, hb, hq, purse_eq]
  · rw [if_neg h] at hT
    simp [go_sem, ir31, hT, cutRuns, h, resV, resH]
theorem sum_le_pos : ∀ l : List Run, sumN l ≤ posSum l
  | [] => by simp [posSum, sumN]
  | r :: l => by
    have := sum_le_pos l
    rw [show posSum (r :: l) = (if 0 < r.N then r.N else 0) + posSum l from rfl, show sumN (r :: l) = r.N + sumN l from rfl]
    split <;> omega
theorem same_joins (l : List Run) (hl : l.length ≤ 1048576) (hl2 : ∀ r ∈ l, r.Ok) (hs : posSum l ≤ 4611686018427387904) : joinGo 0 [] l = joined [] l := joinGo_eq _ _ _ (by omega)
theorem push_length (out : List Run) (r : Run) : (push out r).length ≤ out.length + 1 := by
  rcases snoc_cases out with rfl | ⟨o, x, rfl⟩
  · simp [push]
  · rw [push_snoc]; split <;> simp
theorem joined_length : ∀ (l out : List Run), (joined out l).length ≤ out.length + l.length
  | [], out => by simp [joined]
  | r :: l, out => by
    rw [joined]
    split
    · have := joined_length l out; simp; omega
    · have := joined_length l (push out r); have := push_length out r; simp; omega
theorem expand_mem {l : List Run} {r : Run} (h : r ∈ expand l) : r.N = 1 := by
  simp only [expand, List.mem_flatMap, List.mem_replicate] at h
  obtain ⟨_, _, _, rfl⟩ := h
  rfl
end Go.AM.R1
open Go Go.AM
namespace Go.AM.R1

theorem bus1_spec (r : Run) : call E (.func (.func 53) [] []) [.agg (encRun r)] [] = some (.lit (.int .i64 r.Bus), []) := by
  rw [call_func E E53]
  simp [go_sem, ir53, encRun]
/-- A row of numbers. -/
def encI (n : Int) : List AVal := [.lit (.int .i64 n)]
theorem busY (i : Int) (r : Run) (out : List Int) (hlen : out.length ≤ 2097152) :
    call E (.yld 0) [.lit (.int .i64 i), .agg (encRun r)] [.loop 0 none [(3, .ptr 1 0), (8, .ptr 2 0)] [27, 28] A52_0 B52_0, .box [.func (.func 53) [] []], .box [.own 3 out.length 1 0 out.length], .arr true false false 1 (out.map encI)]
      = some (.lit (.bool true), [.loop 0 none [(3, .ptr 1 0), (8, .ptr 2 0)] [27, 28] A52_0 B52_0, .box [.func (.func 53) [] []], .box [.own 3 (out.length + 1) 1 0 (out.length + 1)], .arr true false false 1 ((out ++ [r.Bus]).map encI)]) := by
  have hs := bus1_spec r
  simp only [encRun] at hs
  have hb : ¬ ((out.length + 1) * 8 > 70368744177664) := by omega
  simp [go_sem, run_codeL E A52_0.eq_1, run_codeL E B52_0.eq_1, encRun, hs, encI, purse_eq, List.range_succ, hb]

/-- The heap that the walk through the ticks has. -/
def busH (nl fu : Bool) (l : List Run) (out : List Int) : Heap :=
  [.box [.imm nl fu true (l.map encRun)], .loop 0 none [(3, .ptr 2 0), (8, .ptr 3 0)] [27, 28] A52_0 B52_0, .box [.func (.func 53) [] []], .box [.own 4 out.length 1 0 out.length], .arr true false false 1 (out.map encI)]
theorem busE_in (l : List Run) (nl fu : Bool) (i : Nat) (hlt : i < l.length) (k : List Item) (R : Option (AVal × Heap)) (out0 : List Int)
    (hN : 0 ≤ l[i].N) (hs : (out0.length : Int) + l[i].N ≤ 1048576)
    (hk : ∀ τ (out : List Int), out = out0 ++ List.replicate l[i].N.toNat l[i].Bus → lk 0 τ = .yld 1 → lk 3 τ = .lit (.int .i64 out.length) → lk 9 τ = .imm nl fu true (l.map encRun) → lk 10 τ = .lit (.int .i64 l.length) → lk 11 τ = .lit (.int .i64 i) →
      finK 5 [] (run E 5 k τ (busH nl fu l out ++ [.box (encRun l[i])])) = R) :
    ∀ (d j : Nat) (out : List Int), (j + d : Int) = l[i].N → out = out0 ++ List.replicate j l[i].Bus →
   finK 5 [] (run E 5 (.code L55_1 :: .inLoop [0, 3, 5, 9, 10, 11, 16, 17] L55_1 :: .inBlock 2 :: k)
     [(0, .yld 1), (3, .lit (.int .i64 out.length)), (5, .ptr 5 0), (9, .imm nl fu true (l.map encRun)), (10, .lit (.int .i64 l.length)), (11, .lit (.int .i64 i)), (16, .lit (.int .i64 l[i].N)), (17, .lit (.int .i64 j))]
     (busH nl fu l out ++ [.box (encRun l[i])])) = R := by
  intro d
  induction d with
  | zero =>
    intro j out hj ho
    have hj' : ¬ (j : Int) < l[i].N := by omega
    simp [go_sem, run_codeL E L55_1.eq_1, hj']
    exact hk _ out (by rw [ho]; congr 2; omega) rfl rfl rfl rfl rfl
  | succ d ih =>
    intro j out hj ho
    have hj' : (j : Int) < l[i].N := by omega
    have w2 := wrapIdx (i := j) (by omega)
    have hlo : out.length = out0.length + j := by rw [ho]; simp
    have w3 := wrapIdx (i := out.length) (by omega)
    have hY := busY out.length ⟨1, l[i].Bus, l[i].Drive⟩ out (by omega)
    simp only [encRun] at hY
    have ih2 := ih (j + 1) (out ++ [l[i].Bus]) (by omega) (by rw [ho, List.append_assoc, List.replicate_succ'])
    simp [busH, encRun] at ih2
    simp [go_sem, run_codeL E L55_1.eq_1, hj', w2, w3, busH, encRun, purse_eq, hY]
    rw [run_inLoop']
    simp [go_sem, purse_eq, List.range_succ]
    exact ih2

theorem busE_loop (l : List Run) (hl : l.length ≤ 1048576) (hN : ∀ r ∈ l, 0 ≤ r.N) (nl fu : Bool) (k : List Item) (R : List Int → Option (AVal × Heap))
    (hk : ∀ (out : List Int) τ, finK 5 [] (run E 5 k τ (busH nl fu l out)) = R out) :
    ∀ (d i : Nat) (out : List Int), i + d = l.length → (out.length : Int) + sumN (l.drop i) ≤ 1048576 →
   finK 5 [] (run E 5 (.code L55_0 :: .inLoop [0, 3, 9, 10, 11] L55_0 :: .inBlock 0 :: k)
     [(0, .yld 1), (3, .lit (.int .i64 out.length)), (9, .imm nl fu true (l.map encRun)), (10, .lit (.int .i64 l.length)), (11, .lit (.int .i64 i))]
     (busH nl fu l out)) = R (out ++ (expand (l.drop i)).map Run.Bus) := by
  intro d
  induction d with
  | zero =>
    intro i out hi h0
    have : i = l.length := by omega
    subst this
    simp [go_sem, run_codeL E L55_0.eq_1, expand]
    exact hk out _
  | succ d ih =>
    intro i out hi h0
    have hlt : i < l.length := by omega
    have hn := hN _ (List.getElem_mem hlt)
    have w2 := wrapIdx (i := i) (by omega)
    have hs0 : ∀ m : List Run, (∀ r ∈ m, 0 ≤ r.N) → 0 ≤ sumN m := by
      intro m; induction m with
      | nil => intro _; simp [sumN]
      | cons x xs ih => intro h; have := h x (by simp); have := ih fun r hr => h r (by simp [hr]); simp only [sumN]; omega
    have hs1 := hs0 (l.drop (i + 1)) fun r hr => hN r (List.mem_of_mem_drop hr)
    rw [List.drop_eq_getElem_cons hlt, show sumN (l[i] :: l.drop (i + 1)) = l[i].N + sumN (l.drop (i + 1)) from rfl] at h0
    rw [List.drop_eq_getElem_cons hlt, expand_cons, List.map_append, List.map_replicate, ← List.append_assoc]
    have hin := busE_in l nl fu i hlt (.inBlock 1 :: .code (.reg [⟨none, some 31, .bin .add (.t 11) (.c (.lit (.int .i64 1)))⟩, ⟨none, some 11, .copy (.t 31)⟩] [] []) :: .inLoop [0, 3, 9, 10, 11] L55_0 :: .inBlock 0 :: k) (R (out ++ List.replicate l[i].N.toNat l[i].Bus ++ (expand (l.drop (i + 1))).map Run.Bus)) out hn (by omega) ?_ l[i].N.toNat 0 out (by omega) (by simp)
    · simp [busH, encRun] at hin
      simp [go_sem, run_codeL E L55_0.eq_1, hlt, List.getElem?_eq_getElem hlt, encRun, busH, purse_eq]
      rw [run_inLoop']
      simp [go_sem, purse_eq, List.range_succ]
      exact hin
    · intro τ out' ho h1 h3 h9 h10 h11
      have hlo : (out'.length : Int) = out.length + l[i].N := by rw [ho]; simp; omega
      have ih2 := ih (i + 1) out' (by omega) (by omega)
      rw [← ho]
      simp [busH, encRun] at ih2
      simp [go_sem, h1, h3, h9, h10, h11, w2, busH, encRun]
      rw [run_inLoop']
      simp [go_sem, purse_eq, h1, h3, h9, h10, h11, List.range_succ]
      exact ih2
theorem busE_spec (l : List Run) (hl : l.length ≤ 1048576) (hl2 : ∀ r ∈ l, r.Ok) (hc : chk l = 0) (hs : sumN l ≤ 1048576) (nl fu : Bool) :
    call E (.func (.func 55) [] [.ptr 0 0]) [.yld 1] (busH nl fu l []) = some (.tup [], busH nl fu l ((expand l).map Run.Bus)) := by
  rw [call_func E E55]
  have hC := check_spec l (by omega) hl2 nl fu
  rw [ticks_eq] at hC
  simp [hc] at hC
  obtain ⟨hN, -, -⟩ := chk_right hc
  have h := busE_loop l hl (fun r hr => by have := hN r hr; omega) nl fu [] (fun out => some (.tup [], busH nl fu l out)) ?_ l.length 0 [] (by omega) (by simpa using hs)
  · simp [busH] at h
    simp [go_sem, ir55, busH, hC, purse_eq]
    rw [run_inLoop']
    simp [go_sem, purse_eq, List.range_succ]
    exact h
  · intro out τ
    simp [go_sem, busH, purse_eq, List.range_succ]
theorem each_spec (nl fu : Bool) (rows : List (List AVal)) : call E (.func (.func 35) [] []) [.imm nl fu true rows] [] = some (.func (.func 55) [] [.ptr 0 0], [.box [.imm nl fu true rows]]) := by
  rw [call_func E E35]
  simp [go_sem, ir35, purse_eq]
/-- Levels, tick by tick; or why there are none. -/
def levelsV (l : List Run) (f : Run → Int) : AVal :=
  if chk l ≠ 0 then .tup [nilS, .lit (.int .i64 (chk l))] else if 1048576 < sumN l then .tup [nilS, .lit (.int .i64 12)] else .tup [.own 0 (expand l).length 1 0 (expand l).length, .lit (.int .i64 0)]
def levelsH (l : List Run) (f : Run → Int) : Heap :=
  if chk l ≠ 0 then [] else if 1048576 < sumN l then [] else [.arr true false false 1 ((expand l).map fun r => encI (f r))]
theorem levelsBus_spec (l : List Run) (hl : l.length ≤ 1048576) (hl2 : ∀ r ∈ l, r.Ok) (nl fu : Bool) :
    call E (.func (.func 52) [] []) [.imm nl fu true (l.map encRun), .func (.func 53) [] []] [] = some (levelsV l Run.Bus, levelsH l Run.Bus) := by
  rw [call_func E E52]
  have hT := ticks_spec l (by omega) hl2 nl fu
  rw [ticks_eq] at hT
  by_cases h : chk l = 0
  · rw [h, if_pos rfl] at hT
    obtain ⟨hN, h0, h1⟩ := chk_right h
    by_cases h2 : 1048576 < sumN l
    · simp [go_sem, ir52, hT, h, h2, levelsV, levelsH]
    · have hE := busE_spec l hl hl2 h (by omega) nl fu
      have hA := each_spec nl fu (l.map encRun)
      simp [busH] at hE
      have h3 : sumN l * 8 ≤ 70368744177664 := by omega
      have h4 : sumN l ≤ 70368744177664 := by omega
      simp [go_sem, ir52, hT, h, h2, levelsV, levelsH, hA, h0, h3, h4, purse_eq, hE]
  · rw [if_neg h] at hT
    simp [go_sem, ir52, hT, h, levelsV, levelsH]
end Go.AM.R1
open Go Go.AM
namespace Go.AM.R1
/-- What a node drives. -/
def nodeLv (node : Int) (r : Run) : Int := r.Drive / (2 : Int) ^ node.toNat % 2
theorem and_one32 {x : Int} (h0 : 0 ≤ x) (h1 : x ≤ 4294967295) : ((BitVec.ofInt 32 x &&& 1#32).toNat : Int) = x % 2 := by
  rw [BitVec.toNat_and, BitVec.toNat_ofInt]
  have : (x % ((2 ^ 32 : Nat) : Int)).toNat = x.toNat := by
    rw [Int.emod_eq_of_lt h0 (by simp; omega)]
  rw [this, show (1#32 : BitVec 32).toNat = 1 from rfl, Nat.and_one_is_mod]
  omega
theorem iand_one {x : Int} (h0 : 0 ≤ x) (h1 : x ≤ 4294967295) : iand .u32 x 1 = x % 2 := by
  have h6 := and_one32 h0 h1
  have h7 : IntKind.wrap .u32 (x % 2) = x % 2 := by simp [IntKind.wrap, IntKind.bits, IntKind.signed]; omega
  unfold iand
  erw [h6, h7]
theorem node1_spec (node : Int) (hnode : 0 ≤ node ∧ node ≤ 31) (r : Run) (hr : 0 ≤ r.Drive ∧ r.Drive ≤ 4294967295) :
    call E (.func (.func 54) [] [.ptr 0 0]) [.agg (encRun r)] [.box [.lit (.int .i64 node)]] = some (.lit (.int .i64 (nodeLv node r)), [.box [.lit (.int .i64 node)]]) := by
  rw [call_func E E54]
  have hp : (0 : Int) < 2 ^ node.toNat := Int.pow_pos (by omega)
  have h1 : r.Drive.fdiv (2 ^ node.toNat) = r.Drive / 2 ^ node.toNat := by rw [Int.fdiv_eq_ediv_of_nonneg _ (by omega)]
  have h2 : 0 ≤ r.Drive / (2 : Int) ^ node.toNat := Int.ediv_nonneg hr.1 (by omega)
  have h3 : r.Drive / (2 : Int) ^ node.toNat ≤ 4294967295 := Int.le_trans (Int.ediv_le_self _ hr.1) hr.2
  have h4 : min node.toNat 32 = node.toNat := by omega
  have h5 : ¬ node < 0 := by omega
  have h6 := iand_one h2 h3
  have h8 : IntKind.wrap .i64 (r.Drive / (2 : Int) ^ node.toNat % 2) = r.Drive / (2 : Int) ^ node.toNat % 2 := wrap64 (by omega) (by omega)
  simp [go_sem, ir54, encRun, purse_eq, h5, h4, h1, h6, h8, nodeLv]
theorem nodeY (node : Int) (hnode : 0 ≤ node ∧ node ≤ 31) (i : Int) (r : Run) (hr0 : 0 ≤ r.Drive ∧ r.Drive ≤ 4294967295) (out : List Int) (hlen : out.length ≤ 2097152) :
    call E (.yld 0) [.lit (.int .i64 i), .agg (encRun r)] [.loop 0 none [(3, .ptr 1 0), (8, .ptr 3 0)] [27, 28] A52_0 B52_0, .box [.func (.func 54) [] [.ptr 2 0]], .box [.lit (.int .i64 node)], .box [.own 4 out.length 1 0 out.length], .arr true false false 1 (out.map encI)]
      = some (.lit (.bool true), [.loop 0 none [(3, .ptr 1 0), (8, .ptr 3 0)] [27, 28] A52_0 B52_0, .box [.func (.func 54) [] [.ptr 2 0]], .box [.lit (.int .i64 node)], .box [.own 4 (out.length + 1) 1 0 (out.length + 1)], .arr true false false 1 ((out ++ [nodeLv node r]).map encI)]) := by
  have hs := node1_spec node hnode r hr0
  simp only [encRun] at hs
  have hb : ¬ ((out.length + 1) * 8 > 70368744177664) := by omega
  simp [go_sem, run_codeL E A52_0.eq_1, run_codeL E B52_0.eq_1, encRun, hs, encI, purse_eq, List.range_succ, hb]

/-- The heap that the walk through the ticks has. -/
def nodeH (node : Int) (nl fu : Bool) (l : List Run) (out : List Int) : Heap :=
  [.box [.imm nl fu true (l.map encRun)], .loop 0 none [(3, .ptr 2 0), (8, .ptr 4 0)] [27, 28] A52_0 B52_0, .box [.func (.func 54) [] [.ptr 3 0]], .box [.lit (.int .i64 node)], .box [.own 5 out.length 1 0 out.length], .arr true false false 1 (out.map encI)]
theorem nodeE_in (node : Int) (hnode : 0 ≤ node ∧ node ≤ 31) (l : List Run) (hdr : ∀ r ∈ l, 0 ≤ r.Drive ∧ r.Drive ≤ 4294967295) (nl fu : Bool) (i : Nat) (hlt : i < l.length) (k : List Item) (R : Option (AVal × Heap)) (out0 : List Int)
    (hN : 0 ≤ l[i].N) (hs : (out0.length : Int) + l[i].N ≤ 1048576)
    (hk : ∀ τ (out : List Int), out = out0 ++ List.replicate l[i].N.toNat (nodeLv node l[i]) → lk 0 τ = .yld 1 → lk 3 τ = .lit (.int .i64 out.length) → lk 9 τ = .imm nl fu true (l.map encRun) → lk 10 τ = .lit (.int .i64 l.length) → lk 11 τ = .lit (.int .i64 i) →
      finK 6 [] (run E 6 k τ (nodeH node nl fu l out ++ [.box (encRun l[i])])) = R) :
    ∀ (d j : Nat) (out : List Int), (j + d : Int) = l[i].N → out = out0 ++ List.replicate j (nodeLv node l[i]) →
   finK 6 [] (run E 6 (.code L55_1 :: .inLoop [0, 3, 5, 9, 10, 11, 16, 17] L55_1 :: .inBlock 2 :: k)
     [(0, .yld 1), (3, .lit (.int .i64 out.length)), (5, .ptr 6 0), (9, .imm nl fu true (l.map encRun)), (10, .lit (.int .i64 l.length)), (11, .lit (.int .i64 i)), (16, .lit (.int .i64 l[i].N)), (17, .lit (.int .i64 j))]
     (nodeH node nl fu l out ++ [.box (encRun l[i])])) = R := by
  intro d
  induction d with
  | zero =>
    intro j out hj ho
    have hj' : ¬ (j : Int) < l[i].N := by omega
    simp [go_sem, run_codeL E L55_1.eq_1, hj']
    exact hk _ out (by rw [ho]; congr 2; omega) rfl rfl rfl rfl rfl
  | succ d ih =>
    intro j out hj ho
    have hj' : (j : Int) < l[i].N := by omega
    have w2 := wrapIdx (i := j) (by omega)
    have hlo : out.length = out0.length + j := by rw [ho]; simp
    have w3 := wrapIdx (i := out.length) (by omega)
    have hY := nodeY node hnode out.length ⟨1, l[i].Bus, l[i].Drive⟩ (hdr l[i] (List.getElem_mem hlt)) out (by omega)
    simp only [encRun] at hY
    have ih2 := ih (j + 1) (out ++ [nodeLv node l[i]]) (by omega) (by rw [ho, List.append_assoc, List.replicate_succ'])
    simp [nodeH, encRun] at ih2
    simp [go_sem, run_codeL E L55_1.eq_1, hj', w2, w3, nodeH, encRun, purse_eq, hY]
    rw [run_inLoop']
    simp [go_sem, purse_eq, List.range_succ]
    exact ih2

theorem nodeE_loop (node : Int) (hnode : 0 ≤ node ∧ node ≤ 31) (l : List Run) (hdr : ∀ r ∈ l, 0 ≤ r.Drive ∧ r.Drive ≤ 4294967295) (hl : l.length ≤ 1048576) (hN : ∀ r ∈ l, 0 ≤ r.N) (nl fu : Bool) (k : List Item) (R : List Int → Option (AVal × Heap))
    (hk : ∀ (out : List Int) τ, finK 6 [] (run E 6 k τ (nodeH node nl fu l out)) = R out) :
    ∀ (d i : Nat) (out : List Int), i + d = l.length → (out.length : Int) + sumN (l.drop i) ≤ 1048576 →
   finK 6 [] (run E 6 (.code L55_0 :: .inLoop [0, 3, 9, 10, 11] L55_0 :: .inBlock 0 :: k)
     [(0, .yld 1), (3, .lit (.int .i64 out.length)), (9, .imm nl fu true (l.map encRun)), (10, .lit (.int .i64 l.length)), (11, .lit (.int .i64 i))]
     (nodeH node nl fu l out)) = R (out ++ (expand (l.drop i)).map (nodeLv node)) := by
  intro d
  induction d with
  | zero =>
    intro i out hi h0
    have : i = l.length := by omega
    subst this
    simp [go_sem, run_codeL E L55_0.eq_1, expand]
    exact hk out _
  | succ d ih =>
    intro i out hi h0
    have hlt : i < l.length := by omega
    have hn := hN _ (List.getElem_mem hlt)
    have w2 := wrapIdx (i := i) (by omega)
    have hs0 : ∀ m : List Run, (∀ r ∈ m, 0 ≤ r.N) → 0 ≤ sumN m := by
      intro m; induction m with
      | nil => intro _; simp [sumN]
      | cons x xs ih => intro h; have := h x (by simp); have := ih fun r hr => h r (by simp [hr]); simp only [sumN]; omega
    have hs1 := hs0 (l.drop (i + 1)) fun r hr => hN r (List.mem_of_mem_drop hr)
    rw [List.drop_eq_getElem_cons hlt, show sumN (l[i] :: l.drop (i + 1)) = l[i].N + sumN (l.drop (i + 1)) from rfl] at h0
    rw [List.drop_eq_getElem_cons hlt, expand_cons, List.map_append, List.map_replicate, ← List.append_assoc]
    have hin := nodeE_in node hnode l hdr nl fu i hlt (.inBlock 1 :: .code (.reg [⟨none, some 31, .bin .add (.t 11) (.c (.lit (.int .i64 1)))⟩, ⟨none, some 11, .copy (.t 31)⟩] [] []) :: .inLoop [0, 3, 9, 10, 11] L55_0 :: .inBlock 0 :: k) (R (out ++ List.replicate l[i].N.toNat (nodeLv node l[i]) ++ (expand (l.drop (i + 1))).map (nodeLv node))) out hn (by omega) ?_ l[i].N.toNat 0 out (by omega) (by simp)
    · simp [nodeH, encRun] at hin
      simp [go_sem, run_codeL E L55_0.eq_1, hlt, List.getElem?_eq_getElem hlt, encRun, nodeH, purse_eq]
      rw [run_inLoop']
      simp [go_sem, purse_eq, List.range_succ]
      exact hin
    · intro τ out' ho h1 h3 h9 h10 h11
      have hlo : (out'.length : Int) = out.length + l[i].N := by rw [ho]; simp; omega
      have ih2 := ih (i + 1) out' (by omega) (by omega)
      rw [← ho]
      simp [nodeH, encRun] at ih2
      simp [go_sem, h1, h3, h9, h10, h11, w2, nodeH, encRun]
      rw [run_inLoop']
      simp [go_sem, purse_eq, h1, h3, h9, h10, h11, List.range_succ]
      exact ih2
theorem nodeE_spec (node : Int) (hnode : 0 ≤ node ∧ node ≤ 31) (l : List Run) (hdr : ∀ r ∈ l, 0 ≤ r.Drive ∧ r.Drive ≤ 4294967295) (hl : l.length ≤ 1048576) (hl2 : ∀ r ∈ l, r.Ok) (hc : chk l = 0) (hs : sumN l ≤ 1048576) (nl fu : Bool) :
    call E (.func (.func 55) [] [.ptr 0 0]) [.yld 1] (nodeH node nl fu l []) = some (.tup [], nodeH node nl fu l ((expand l).map (nodeLv node))) := by
  rw [call_func E E55]
  have hC := check_spec l (by omega) hl2 nl fu
  rw [ticks_eq] at hC
  simp [hc] at hC
  obtain ⟨hN, -, -⟩ := chk_right hc
  have h := nodeE_loop node hnode l hdr hl (fun r hr => by have := hN r hr; omega) nl fu [] (fun out => some (.tup [], nodeH node nl fu l out)) ?_ l.length 0 [] (by omega) (by simpa using hs)
  · simp [nodeH] at h
    simp [go_sem, ir55, nodeH, hC, purse_eq]
    rw [run_inLoop']
    simp [go_sem, purse_eq, List.range_succ]
    exact h
  · intro out τ
    simp [go_sem, nodeH, purse_eq, List.range_succ]
/-- Levels, tick by tick; or why there are none. -/
def levelsV1 (l : List Run) : AVal :=
  if chk l ≠ 0 then .tup [nilS, .lit (.int .i64 (chk l))] else if 1048576 < sumN l then .tup [nilS, .lit (.int .i64 12)] else .tup [.own 1 (expand l).length 1 0 (expand l).length, .lit (.int .i64 0)]
theorem levelsNode_spec (node : Int) (hnode : 0 ≤ node ∧ node ≤ 31) (l : List Run) (hdr : ∀ r ∈ l, 0 ≤ r.Drive ∧ r.Drive ≤ 4294967295) (hl : l.length ≤ 1048576) (hl2 : ∀ r ∈ l, r.Ok) (nl fu : Bool) :
    call E (.func (.func 52) [] []) [.imm nl fu true (l.map encRun), .func (.func 54) [] [.ptr 0 0]] [.box [.lit (.int .i64 node)]] = some (levelsV1 l, .box [.lit (.int .i64 node)] :: levelsH l (nodeLv node)) := by
  rw [call_func E E52]
  have hT := ticks_spec l (by omega) hl2 nl fu
  rw [ticks_eq] at hT
  by_cases h : chk l = 0
  · rw [h, if_pos rfl] at hT
    obtain ⟨hN, h0, h1⟩ := chk_right h
    by_cases h2 : 1048576 < sumN l
    · simp [go_sem, ir52, hT, h, h2, levelsV1, levelsH]
    · have hE := nodeE_spec node hnode l hdr hl hl2 h (by omega) nl fu
      have hA := each_spec nl fu (l.map encRun)
      simp [nodeH] at hE
      have h3 : sumN l * 8 ≤ 70368744177664 := by omega
      have h4 : sumN l ≤ 70368744177664 := by omega
      simp [go_sem, ir52, hT, h, h2, levelsV1, levelsH, hA, h0, h3, h4, purse_eq, hE]
  · rw [if_neg h] at hT
    simp [go_sem, ir52, hT, h, levelsV1, levelsH]
end Go.AM.R1
open Go Go.AM
namespace Go.AM.R1

theorem bus_spec (l : List Run) (hl : l.length ≤ 1048576) (hl2 : ∀ r ∈ l, r.Ok) (nl fu : Bool) :
    call E (.func (.func 33) [] []) [.imm nl fu true (l.map encRun)] [] = some (levelsV l Run.Bus, levelsH l Run.Bus) := by
  rw [call_func E E33]
  have hL := levelsBus_spec l hl hl2 nl fu
  unfold levelsV levelsH at hL ⊢
  by_cases h : chk l = 0
  · by_cases h2 : 1048576 < sumN l
    · simp [h, h2] at hL
      simp [go_sem, ir33, hL, h, h2]
    · simp [h, h2] at hL
      simp [go_sem, ir33, hL, h, h2, purse_eq]
  · simp [h] at hL
    simp [go_sem, ir33, hL, h]
def nodeV (l : List Run) (node : Int) : AVal :=
  if chk l ≠ 0 then .tup [nilS, .lit (.int .i64 (chk l))] else if node < 0 ∨ 32 ≤ node then .tup [nilS, .lit (.int .i64 10)] else levelsV l (nodeLv node)
def nodeHp (l : List Run) (node : Int) : Heap :=
  if chk l ≠ 0 then [] else if node < 0 ∨ 32 ≤ node then [] else levelsH l (nodeLv node)
theorem node_spec (node : Int) (l : List Run) (hdr : ∀ r ∈ l, 0 ≤ r.Drive ∧ r.Drive ≤ 4294967295) (hl : l.length ≤ 1048576) (hl2 : ∀ r ∈ l, r.Ok) (nl fu : Bool) :
    call E (.func (.func 34) [] []) [.imm nl fu true (l.map encRun), .lit (.int .i64 node)] [] = some (nodeV l node, nodeHp l node) := by
  rw [call_func E E34]
  have hC := check_spec l (by omega) hl2 nl fu
  rw [ticks_eq] at hC
  unfold nodeV nodeHp
  by_cases h : chk l = 0
  · by_cases h1 : node < 0
    · simp [h] at hC
      simp [go_sem, ir34, hC, h, h1]
    · by_cases h3 : 32 ≤ node
      · simp [h] at hC
        simp [go_sem, ir34, hC, h, h1, h3]
      · have hL := levelsNode_spec node (by omega) l hdr hl hl2 nl fu
        unfold levelsV1 levelsH at hL
        unfold levelsV levelsH
        simp [h] at hC
        by_cases h2 : 1048576 < sumN l
        · simp [h, h2] at hL
          simp [go_sem, ir34, hC, hL, h, h1, h2, h3, purse_eq]
        · simp [h, h2] at hL
          simp [go_sem, ir34, hC, hL, h, h1, h2, h3, purse_eq]
  · simp at hC
    simp [go_sem, ir34, hC, h]

theorem encI_inj {a b : Int} (h : encI a = encI b) : a = b := by simpa [encI] using h
theorem ints_loop (l m : List Int) (hlm : l.length = m.length) (hl : l.length ≤ 1099511627775) (nl fu nl' fu' : Bool) (k : List Item) (R : Bool → Option (AVal × Heap))
    (hk : ∀ τ, finK 0 [.tmp 4] (run E 0 k τ []) = R true) (hf : R false = some (.lit (.bool false), [])) :
    ∀ (d i : Nat), i + d = l.length →
   finK 0 [.tmp 4] (run E 0 (.code L36_0 :: .inLoop [0, 1, 5] L36_0 :: .inBlock 0 :: k) [(0, .imm nl fu true (l.map encI)), (1, .imm nl' fu' true (m.map encI)), (5, .lit (.int .i64 i))] [])
   = R (decide (l.drop i = m.drop i)) := by
  intro d
  induction d with
  | zero =>
    intro i hi
    rw [List.drop_eq_nil_of_le (by omega), List.drop_eq_nil_of_le (by omega)]
    have : ¬ i < l.length := by omega
    simp [go_sem, run_codeL E L36_0.eq_1, this]
    exact hk _
  | succ d ih =>
    intro i hi
    have hlt : i < l.length := by omega
    have hlt' : i < m.length := by omega
    have w2 := wrapIdx (i := i) (by omega)
    rw [List.drop_eq_getElem_cons hlt, List.drop_eq_getElem_cons hlt']
    by_cases h : l[i] = m[i]
    · rw [decide_eq_decide.2 (show (l[i] :: l.drop (i + 1) = m[i] :: m.drop (i + 1)) ↔ l.drop (i + 1) = m.drop (i + 1) from ⟨fun e => (List.cons.inj e).2, fun e => by rw [h, e]⟩)]
      simp [go_sem, run_codeL E L36_0.eq_1, hlt, List.getElem?_eq_getElem hlt, List.getElem?_eq_getElem hlt', encI, h, w2]
      rw [run_inLoop']
      simp [go_sem, purse_eq]
      have := ih (i + 1) (by omega)
      simpa [encI] using this
    · rw [decide_eq_false (show ¬ (l[i] :: l.drop (i + 1) = m[i] :: m.drop (i + 1)) from fun e => h (List.cons.inj e).1), hf]
      simp [go_sem, run_codeL E L36_0.eq_1, hlt, List.getElem?_eq_getElem hlt, List.getElem?_eq_getElem hlt', encI, h, w2]
theorem ints_spec (l m : List Int) (hl : l.length ≤ 1099511627775) (nl fu nl' fu' : Bool) :
    call E (.func (.func 36) [] []) [.imm nl fu true (l.map encI), .imm nl' fu' true (m.map encI)] [] = some (.lit (.bool (decide (l = m))), []) := by
  rw [call_func E E36]
  by_cases hlm : l.length = m.length
  · simp [go_sem, ir36, hlm]
    rw [run_inLoop']
    simp [go_sem, purse_eq]
    have := ints_loop l m hlm hl nl fu nl' fu' [.code (.seq (.reg [⟨none, some 4, .copy (.c (.lit (.bool true)))⟩] [] []) .ret)] (fun b => some (.lit (.bool b), [])) ?_ rfl l.length 0 (by omega)
    · simpa using this
    · intro τ; simp [go_sem]
  · have : ¬ (l.length : Int) = m.length := by omega
    have h2 : ¬ l = m := fun h => hlm (by rw [h])
    simp [go_sem, ir36, hlm, this, h2]
end Go.AM.R1
open Go Go.AM
namespace Go.AM.R1

/-! ### The law TapWired -/
/-- What the nodes up to one drive, put together. -/
def gather (d : Int) : Nat → Int
  | 0 => 0
  | n + 1 => gather d n + (if d / 2 ^ n % 2 = 0 then 0 else 2 ^ n)
theorem gather_nat (m : Nat) : ∀ n : Nat, gather (m : Int) n = ((m % 2 ^ n : Nat) : Int)
  | 0 => by simp [gather, Nat.mod_one]
  | n + 1 => by
    rw [gather, gather_nat m n, Nat.mod_pow_succ]
    have e : (m : Int) / 2 ^ n % 2 = ((m / 2 ^ n % 2 : Nat) : Int) := by simp
    rw [e]
    have h2 : m / 2 ^ n % 2 = 0 ∨ m / 2 ^ n % 2 = 1 := by omega
    rcases h2 with h2 | h2
    · rw [h2]; simp
    · rw [h2]; simp
theorem gather_bound (d : Int) (h : 0 ≤ d) (n : Nat) : 0 ≤ gather d n ∧ gather d n < 2 ^ n := by
  obtain ⟨m, rfl⟩ := Int.eq_ofNat_of_zero_le h
  rw [gather_nat]
  have := Nat.mod_lt m (Nat.pow_pos (n := n) (show 0 < 2 by omega))
  constructor
  · omega
  · have e : ((2 : Int) ^ n) = ((2 ^ n : Nat) : Int) := by simp
    rw [e]; omega
theorem gather_32 (d : Int) (h : 0 ≤ d ∧ d ≤ 4294967295) : gather d 32 = d := by
  obtain ⟨m, rfl⟩ := Int.eq_ofNat_of_zero_le h.1
  rw [gather_nat, Nat.mod_eq_of_lt (by omega)]
def wireN (d : Int) : Nat → Int
  | 0 => 1
  | n + 1 => if d / 2 ^ n % 2 = 0 then 0 else wireN d n
theorem wireN_eq (d : Int) (h : 0 ≤ d) : ∀ n : Nat, wireN d n = if gather d n = 2 ^ n - 1 then 1 else 0
  | 0 => by simp [wireN, gather]
  | n + 1 => by
    have hb := gather_bound d h n
    rw [wireN, gather, wireN_eq d h n, Int.pow_succ]
    generalize (2 : Int) ^ n = p at hb
    generalize gather d n = g at hb
    by_cases hq : d / p % 2 = 0
    · rw [if_pos hq, if_pos hq, if_neg (by omega)]
    · rw [if_neg hq, if_neg hq]
      by_cases hg : g = p - 1
      · rw [if_pos hg, if_pos (by omega)]
      · rw [if_neg hg, if_neg (by omega)]
theorem wire_32 (d : Int) (h : 0 ≤ d ∧ d ≤ 4294967295) : wireN d 32 = if d = 4294967295 then 1 else 0 := by
  rw [wireN_eq d h.1, gather_32 d h]
  rfl
theorem pick_expand : ∀ (l : List Run) (t : Int), 0 ≤ t → (∀ r ∈ l, 0 ≤ r.N) → pick t l = (expand l)[t.toNat]?
  | [], _, _, _ => by simp [pick, expand]
  | r :: l, t, ht, h => by
    have hr := h r (by simp)
    rw [pick, expand_cons]
    by_cases hq : t < r.N
    · rw [if_pos hq, List.getElem?_append_left (by simp; omega), List.getElem?_replicate, if_pos (by omega)]
    · rw [if_neg hq, List.getElem?_append_right (by simp; omega), List.length_replicate, pick_expand l _ (by omega) fun x hx => h x (by simp [hx])]
      congr 1; omega
theorem expand_right {l : List Run} (h : ∀ r ∈ l, right r = true) {r : Run} (hr : r ∈ expand l) : r.Bus = if r.Drive = 4294967295 then 1 else 0 := by
  simp only [expand, List.mem_flatMap, List.mem_replicate] at hr
  obtain ⟨x, hx, _, rfl⟩ := hr
  have := h x hx
  simp only [right, Bool.and_eq_true, decide_eq_true_eq] at this
  exact this.2
theorem expand_drive {l : List Run} (h : ∀ r ∈ l, 0 ≤ r.Drive ∧ r.Drive ≤ 4294967295) {r : Run} (hr : r ∈ expand l) : 0 ≤ r.Drive ∧ r.Drive ≤ 4294967295 := by
  simp only [expand, List.mem_flatMap, List.mem_replicate] at hr
  obtain ⟨x, hx, _, rfl⟩ := hr
  exact h x hx
end Go.AM.R1
open Go Go.AM
namespace Go.AM.R1

/-! ### The law TapJoins -/
theorem expand_push (out : List Run) (r : Run) (hr : 0 ≤ r.N) (ho : ∀ x ∈ out, 0 ≤ x.N) : expand (push out r) = expand out ++ expand [r] := by
  rcases snoc_cases out with rfl | ⟨o, x, rfl⟩
  · simp [push, expand]
  · rw [push_snoc]
    by_cases h : alike x r = true
    · rw [if_pos h]
      have hx := ho x (by simp)
      simp only [alike, Bool.and_eq_true, decide_eq_true_eq] at h
      rw [expand_append, expand_append, List.append_assoc]
      congr 1
      simp only [expand, List.flatMap_cons, List.flatMap_nil, List.append_nil]
      rw [← h.1, ← h.2, List.replicate_append_replicate]
      congr 1
      omega
    · rw [if_neg h, show o ++ [x, r] = (o ++ [x]) ++ [r] from by simp, expand_append]
theorem push_mem_nonneg {out : List Run} {r : Run} (hr : 0 ≤ r.N) (ho : ∀ x ∈ out, 0 ≤ x.N) : ∀ x ∈ push out r, 0 ≤ x.N := by
  intro y hy
  rcases snoc_cases out with rfl | ⟨o, x, rfl⟩
  · simp [push] at hy; subst hy; exact hr
  · have hx := ho x (by simp)
    rw [push_snoc] at hy
    split at hy
    · simp at hy
      rcases hy with hy | rfl
      · exact ho y (by simp [hy])
      · simp; omega
    · simp at hy
      rcases hy with hy | rfl | rfl
      · exact ho y (by simp [hy])
      · exact hx
      · exact hr
theorem expand_joined : ∀ (l out : List Run), (∀ x ∈ out, 0 ≤ x.N) → expand (joined out l) = expand out ++ expand l
  | [], out, _ => by simp [joined, expand]
  | r :: l, out, ho => by
    rw [joined]
    by_cases h : r.N < 1
    · rw [if_pos h, expand_joined l out ho, expand_cons, show r.N.toNat = 0 from by omega]
      simp
    · rw [if_neg h, expand_joined l _ (push_mem_nonneg (by omega) ho), expand_push out r (by omega) ho]
      simp [expand]
theorem joined_self (l : List Run) : joined [] (joined [] l) = joined [] l := by
  rw [← joined_expand (joined [] l), expand_joined l [] (by simp)]
  simp only [expand, List.flatMap_nil, List.nil_append]
  exact joined_expand l []
/-- No two side by side are alike, and each has ticks. -/
def Tidy (l : List Run) : Prop := (∀ x ∈ l, 1 ≤ x.N) ∧ ∀ i (h : i + 1 < l.length), alike l[i] l[i + 1] = false
theorem tidy_push {out : List Run} {r : Run} (hr : 1 ≤ r.N) (ho : Tidy out) : Tidy (push out r) := by
  rcases snoc_cases out with rfl | ⟨o, x, rfl⟩
  · rw [push_nil]
    refine ⟨by simpa using hr, fun i h => ?_⟩
    simp at h
  · obtain ⟨h1, h2⟩ := ho
    have hx := h1 x (by simp)
    rw [push_snoc]
    by_cases h : alike x r = true
    · rw [if_pos h]
      refine ⟨fun y hy => ?_, fun i hi => ?_⟩
      · simp at hy
        rcases hy with hy | rfl
        · exact h1 y (by simp [hy])
        · simp; omega
      · have := h2 i (by simpa using hi)
        simp at hi
        by_cases hio : i + 1 < o.length
        · rw [List.getElem_append_left (by omega), List.getElem_append_left (by omega)] at this ⊢
          exact this
        · have hi' : i + 1 = o.length := by omega
          rw [List.getElem_append_left (by omega), List.getElem_append_right (by omega)] at this ⊢
          simpa [hi', alike] using this
    · rw [if_neg h, show o ++ [x, r] = (o ++ [x]) ++ [r] from by simp]
      refine ⟨fun y hy => ?_, fun i hi => ?_⟩
      · simp at hy
        rcases hy with hy | rfl | rfl
        · exact h1 y (by simp [hy])
        · exact hx
        · exact hr
      · simp at hi
        by_cases hio : i + 1 < (o ++ [x]).length
        · rw [List.getElem_append_left (by omega), List.getElem_append_left hio]
          exact h2 i hio
        · simp at hio
          have hi' : i = o.length := by omega
          subst hi'
          have hfalse : alike x r = false := by simpa using h
          rw [List.getElem_append_left (by simp), List.getElem_append_right (by simp)]
          simpa using hfalse
theorem tidy_joined : ∀ (l out : List Run), Tidy out → Tidy (joined out l)
  | [], _, h => h
  | r :: l, out, h => by
    rw [joined]
    split
    · exact tidy_joined l out h
    · exact tidy_joined l _ (tidy_push (by omega) h)
theorem joined_mem : ∀ (l out : List Run) (P : Run → Prop), (∀ r ∈ l, 1 ≤ r.N → P r) → (∀ x r, P x → P r → alike x r = true → P ⟨x.N + r.N, x.Bus, x.Drive⟩) → (∀ x ∈ out, P x) → ∀ y ∈ joined out l, P y
  | [], _, _, _, _, h => h
  | r :: l, out, P, hl, hp, h => by
    rw [joined]
    split
    · exact joined_mem l out P (fun x hx => hl x (by simp [hx])) hp h
    · refine joined_mem l _ P (fun x hx => hl x (by simp [hx])) hp fun y hy => ?_
      have hr := hl r (by simp) (by omega)
      rcases snoc_cases out with rfl | ⟨o, x, rfl⟩
      · simp [push] at hy; subst hy; exact hr
      · have hx := h x (by simp)
        rw [push_snoc] at hy
        split at hy
        · rename_i ha
          simp at hy
          rcases hy with hy | rfl
          · exact h y (by simp [hy])
          · exact hp x r hx hr ha
        · simp at hy
          rcases hy with hy | rfl | rfl
          · exact h y (by simp [hy])
          · exact hx
          · exact hr
theorem le_sum : ∀ {l : List Run}, (∀ r ∈ l, 0 ≤ r.N) → ∀ r ∈ l, r.N ≤ sumN l
  | x :: l, h, r, hr => by
    have hx := h x (by simp)
    have hn : ∀ m : List Run, (∀ r ∈ m, 0 ≤ r.N) → 0 ≤ sumN m := by
      intro m; induction m with
      | nil => intro _; simp [sumN]
      | cons x xs ih => intro h; have := h x (by simp); have := ih fun r hr => h r (by simp [hr]); simp only [sumN]; omega
    have := hn l fun r hr => h r (by simp [hr])
    rw [show sumN (x :: l) = x.N + sumN l from rfl]
    rcases List.mem_cons.1 hr with rfl | hr
    · omega
    · have := le_sum (fun r hr => h r (by simp [hr])) r hr; omega
/-- Joined runs are as right as the runs. -/
theorem joined_chk {l : List Run} (h : chk l = 0) : chk (joined [] l) = 0 ∧ sumN (joined [] l) = sumN l ∧ expand (joined [] l) = expand l := by
  obtain ⟨hN, h0, h1⟩ := chk_right h
  have hN' : ∀ r ∈ l, 0 ≤ r.N := fun r hr => by have := hN r hr; omega
  have hex : expand (joined [] l) = expand l := by rw [expand_joined l [] (by simp)]; simp [expand]
  have hJ1 : ∀ r ∈ joined [] l, 1 ≤ r.N := (tidy_joined l [] ⟨by simp, by simp⟩).1
  have hJ' : ∀ r ∈ joined [] l, 0 ≤ r.N := fun r hr => by have := hJ1 r hr; omega
  have hs : sumN (joined [] l) = sumN l := by rw [← expand_length _ hJ', ← expand_length _ hN', hex]
  refine ⟨?_, hs, hex⟩
  have hb := joined_mem l [] (fun r => r.Bus = if r.Drive = 4294967295 then 1 else 0) (fun r hr _ => by
    have h7 := h
    unfold chk at h7
    cases ha : l.all right with
    | false => rw [ha] at h7; simp at h7
    | true =>
      have := List.all_eq_true.1 ha r hr
      simp only [right, Bool.and_eq_true, decide_eq_true_eq] at this
      exact this.2) (fun x r hx _ _ => hx) (by simp)
  have hall : (joined [] l).all right = true := by
    rw [List.all_eq_true]
    intro r hr
    have h2 := hJ1 r hr
    have h3 := le_sum hJ' r hr
    simp only [right, Bool.and_eq_true, decide_eq_true_eq]
    exact ⟨⟨h2, by omega⟩, hb r hr⟩
  unfold chk
  rw [if_pos hall, if_neg (by omega)]
theorem joined_cuts (l : List Run) (h : ∀ r ∈ l, 0 ≤ r.N) (a : Int) (h0 : 0 ≤ a) (h1 : a ≤ sumN l) :
    joined [] (joined [] (betweenGo 0 a 0 l) ++ joined [] (betweenGo a (sumN l) 0 l)) = joined [] l := by
  rw [← joined_expand (_ ++ _), expand_append, expand_joined _ [] (by simp), expand_joined _ [] (by simp)]
  have e1 := expand_between 0 a l 0 h
  have e2 := expand_between a (sumN l) l 0 h
  have hl := expand_length l h
  rw [e1, e2]
  simp only [expand, List.flatMap_nil, List.nil_append]
  rw [show (fun r : Run => List.replicate r.N.toNat (⟨1, r.Bus, r.Drive⟩ : Run)) = fun r => List.replicate r.N.toNat ⟨1, r.Bus, r.Drive⟩ from rfl]
  have hx : List.flatMap (fun r : Run => List.replicate r.N.toNat (⟨1, r.Bus, r.Drive⟩ : Run)) l = expand l := rfl
  rw [hx, List.take_of_length_le (show (expand l).length ≤ (sumN l - 0).toNat by omega)]
  simp only [Int.sub_zero, Int.zero_sub, Int.neg_zero, Int.toNat_zero, List.drop_zero, List.take_append_drop]
  exact joined_expand l []

end Go.AM.R1
open Go Go.AM
namespace Go.AM.R1

/-! ### Bytes, and the bytes of numbers -/
def encB (n : Nat) : List AVal := [.lit (.int .u8 n)]
/-- The bytes of a number. -/
def putN (n : Nat) : List Nat := if h : 128 ≤ n then (n % 128 + 128) :: putN (n / 128) else [n]
termination_by n
decreasing_by omega
theorem putN_big {n : Nat} (h : 128 ≤ n) : putN n = (n % 128 + 128) :: putN (n / 128) := by rw [putN, dif_pos h]
theorem putN_small {n : Nat} (h : n < 128) : putN n = [n] := by rw [putN, dif_neg (by omega)]
theorem wrap8 (n : Nat) : IntKind.wrap .u8 (n : Int) = ((n % 256 : Nat) : Int) := by
  simp [IntKind.wrap, IntKind.bits, IntKind.signed]
theorem wrap_u64 {n : Nat} (h : n < 18446744073709551616) : IntKind.wrap .u64 (n : Int) = (n : Int) := by
  simp [IntKind.wrap, IntKind.bits, IntKind.signed]; omega
theorem or128 : ∀ m : Nat, m < 256 → m ||| 128 = m % 128 + 128 := by decide +kernel
theorem ior_128 (n : Nat) : ior .u8 ((n % 256 : Nat) : Int) 128 = ((n % 128 + 128 : Nat) : Int) := by
  have e : (BitVec.ofInt 8 ((n % 256 : Nat) : Int) ||| BitVec.ofInt 8 128).toNat = n % 128 + 128 := by
    rw [BitVec.toNat_or, BitVec.toNat_ofInt, BitVec.toNat_ofInt]
    have h1 : (((n % 256 : Nat) : Int) % ((2 ^ 8 : Nat) : Int)).toNat = n % 256 := by simp; omega
    have h2 : ((128 : Int) % ((2 ^ 8 : Nat) : Int)).toNat = 128 := by decide
    rw [h1, h2, or128 _ (by omega)]
    omega
  unfold ior
  show IntKind.wrap .u8 ((BitVec.ofInt 8 ((n % 256 : Nat) : Int) ||| BitVec.ofInt 8 128).toNat : Int) = _
  rw [e, wrap8]
  have : n % 128 + 128 < 256 := by omega
  omega
theorem fdiv128 (n : Nat) : (n : Int).fdiv 128 = ((n / 128 : Nat) : Int) := by
  rw [Int.fdiv_eq_ediv_of_nonneg _ (by omega)]; omega
theorem tdiv128 (n : Nat) : (n : Int).tdiv 128 = ((n / 128 : Nat) : Int) := by
  rw [Int.tdiv_eq_ediv_of_nonneg (by omega)]; omega
theorem tmod128 (n : Nat) : (n : Int).tmod 128 = ((n % 128 : Nat) : Int) := by
  rw [Int.tmod_eq_emod_of_nonneg (by omega)]; omega
theorem rowsB (l : List Nat) : rowsOk 1 (l.map encB) = true := rowsOk_map (f := encB) (fun _ => rfl) l

theorem vput_loop (k : List Item) (R : List Nat → Option (AVal × Heap))
    (hk : ∀ n out τ, n < 128 → out.length ≤ 10 → lk 0 τ = .lit (.int .u64 (n : Nat)) → lk 3 τ = .own 0 out.length 1 0 out.length → finK 0 [.tmp 2] (run E 0 k τ [.arr true false false 1 (out.map encB)]) = R (out ++ [n])) :
    ∀ (d n : Nat) (out : List Nat), n < 128 ^ (d + 1) → n < 18446744073709551616 → out.length + d ≤ 10 →
   finK 0 [.tmp 2] (run E 0 (.code L44_0 :: .inLoop [0, 3] L44_0 :: .inBlock 0 :: k) [(0, .lit (.int .u64 n)), (3, .own 0 out.length 1 0 out.length)] [.arr true false false 1 (out.map encB)])
   = R (out ++ putN n) := by
  intro d
  induction d with
  | zero =>
    intro n out hn h64 hl
    have h1 : ¬ ((128 : Int) ≤ (n : Int)) := by omega
    rw [putN_small (by omega)]
    simp [go_sem, run_codeL E L44_0.eq_1, h1]
    exact hk n out _ (by omega) (by omega) rfl rfl
  | succ d ih =>
    intro n out hn h64 hl
    by_cases h : 128 ≤ n
    · have h1 : (128 : Int) ≤ (n : Int) := by omega
      rw [putN_big h]
      have hb : ¬ ((out.length + 1) > 70368744177664) := by omega
      have ih2 := ih (n / 128) (out ++ [n % 128 + 128]) (by rw [Nat.pow_succ] at hn; omega) (by omega) (by simp; omega)
      simp [encB] at ih2
      have hi := ior_128 n
      have hf := fdiv128 n
      simp at hi hf
      have hw := wrap8 n
      simp at hw
      simp [go_sem, run_codeL E L44_0.eq_1, h1, hw, hi, hf, hb]
      rw [run_inLoop']
      simp [go_sem, purse_eq]
      simpa [encB] using ih2
    · have h1 : ¬ ((128 : Int) ≤ (n : Int)) := by omega
      rw [putN_small (by omega)]
      simp [go_sem, run_codeL E L44_0.eq_1, h1]
      exact hk n out _ (by omega) (by omega) rfl rfl
theorem vput_spec (n : Nat) (h : n < 18446744073709551616) : call E (.func (.func 44) [] []) [.lit (.int .u64 n)] []
    = some (.own 0 (putN n).length 1 0 (putN n).length, [.arr true false false 1 ((putN n).map encB)]) := by
  rw [call_func E E44]
  simp [go_sem, ir44]
  rw [run_inLoop']
  simp [go_sem, purse_eq]
  have hh := vput_loop [.code (.seq (.reg [⟨none, some 15, .copy (.t 3)⟩, ⟨none, some 16, .copy (.t 0)⟩, ⟨none, some 17, .toInt .u8 (.t 16)⟩, ⟨none, some 18, .mkSlice true 1 [(.lit (.int .u8 0))] 1 [(0, (.t 17))]⟩, ⟨none, some 19, .append true 1 1 (.t 15) (.t 18)⟩, ⟨none, some 2, .copy (.t 19)⟩] [] []) .ret)] (fun out => some (.own 0 out.length 1 0 out.length, [.arr true false false 1 (out.map encB)])) ?_ 9 n [] (by simp; omega) h (by simp)
  · simpa using hh
  · intro m out τ hm hl h0 h3
    have hw := wrap8 m
    rw [Nat.mod_eq_of_lt (by omega)] at hw
    have hb : ¬ ((out.length + 1) > 70368744177664) := by omega
    simp [go_sem, h0, h3, hw, hb, purse_eq, encB]

theorem rput_loop (k : List Item) (R : List Nat → Option (AVal × Heap))
    (hk : ∀ n out τ, n < 128 → out.length ≤ 10 → lk 0 τ = .lit (.int .u64 (n : Nat)) → lk 3 τ = .own 0 out.length 1 0 out.length → finK 0 [.tmp 2] (run E 0 k τ [.arr true false out.isEmpty 1 (out.map encB)]) = R (out ++ [n])) :
    ∀ (d n : Nat) (out : List Nat), n < 128 ^ (d + 1) → n < 18446744073709551616 → out.length + d ≤ 10 →
   finK 0 [.tmp 2] (run E 0 (.code L67_0 :: .inLoop [0, 3] L67_0 :: .inBlock 0 :: k) [(0, .lit (.int .u64 n)), (3, .own 0 out.length 1 0 out.length)] [.arr true false out.isEmpty 1 (out.map encB)])
   = R (out ++ putN n) := by
  intro d
  induction d with
  | zero =>
    intro n out hn h64 hl
    have h1 : ¬ ((127 : Int) < (n : Int)) := by omega
    rw [putN_small (by omega)]
    simp [go_sem, run_codeL E L67_0.eq_1, h1]
    exact hk n out _ (by omega) (by omega) rfl rfl
  | succ d ih =>
    intro n out hn h64 hl
    by_cases h : 128 ≤ n
    · have h1 : (127 : Int) < (n : Int) := by omega
      rw [putN_big h]
      have hb : ¬ ((out.length + 1) > 70368744177664) := by omega
      have ih2 := ih (n / 128) (out ++ [n % 128 + 128]) (by rw [Nat.pow_succ] at hn; omega) (by omega) (by simp; omega)
      simp [encB, isEmpty_snoc] at ih2
      have hf := tdiv128 n
      have hm := tmod128 n
      have hq := wrap_u64 (n := n / 128) (by omega)
      have hp := wrap_u64 (n := n % 128 + 128) (by omega)
      have hw := wrap8 (n % 128 + 128)
      rw [Nat.mod_eq_of_lt (show n % 128 + 128 < 256 by omega)] at hw
      simp at hf hm hq hp hw
      simp [go_sem, run_codeL E L67_0.eq_1, h1, hw, hm, hf, hq, hp, hb]
      rw [run_inLoop']
      simp [go_sem, purse_eq]
      simpa [encB, isEmpty_snoc] using ih2
    · have h1 : ¬ ((127 : Int) < (n : Int)) := by omega
      rw [putN_small (by omega)]
      simp [go_sem, run_codeL E L67_0.eq_1, h1]
      exact hk n out _ (by omega) (by omega) rfl rfl
theorem rput_spec (n : Nat) (h : n < 18446744073709551616) : call E (.func (.func 67) [] []) [.lit (.int .u64 n)] []
    = some (.own 0 (putN n).length 1 0 (putN n).length, [.arr true false false 1 ((putN n).map encB)]) := by
  rw [call_func E E67]
  simp [go_sem, ir67]
  rw [run_inLoop']
  simp [go_sem, purse_eq]
  have hh := rput_loop [.code (.seq (.reg [⟨none, some 16, .copy (.t 3)⟩, ⟨none, some 17, .copy (.t 0)⟩, ⟨none, some 18, .toInt .u8 (.t 17)⟩, ⟨none, some 19, .mkSlice true 1 [(.lit (.int .u8 0))] 1 [(0, (.t 18))]⟩, ⟨none, some 20, .append true 1 1 (.t 16) (.t 19)⟩, ⟨none, some 2, .copy (.t 20)⟩] [] []) .ret)] (fun out => some (.own 0 out.length 1 0 out.length, [.arr true false false 1 (out.map encB)])) ?_ 9 n [] (by simp; omega) h (by simp)
  · simpa using hh
  · intro m out τ hm hl h0 h3
    have hw := wrap8 m
    rw [Nat.mod_eq_of_lt (by omega)] at hw
    have hb : ¬ ((out.length + 1) > 70368744177664) := by omega
    simp [go_sem, h0, h3, hw, hb, purse_eq, encB]
end Go.AM.R1
open Go Go.AM
namespace Go.AM.R1

/-! ### The sum of bytes -/
def stepB (x : BitVec 32) : BitVec 32 := (x >>> 1) ^^^ (if x.toNat % 2 = 1 then 3988292384#32 else 0#32)
def steps : Nat → BitVec 32 → BitVec 32
  | 0, x => x
  | n + 1, x => steps n (stepB x)
def onB (x : BitVec 32) (c : Nat) : BitVec 32 := steps 8 (x ^^^ BitVec.ofNat 32 c)
def crcGo (x : BitVec 32) (l : List Nat) : BitVec 32 := l.foldl onB x
def crc (l : List Nat) : BitVec 32 := crcGo 4294967295#32 l ^^^ 4294967295#32

theorem wrap32bv (x : BitVec 32) : IntKind.wrap .u32 (x.toNat : Int) = (x.toNat : Int) := by
  have := x.isLt
  simp [IntKind.wrap, IntKind.bits, IntKind.signed]; omega
theorem ofInt_toNat (x : BitVec 32) : BitVec.ofInt 32 (x.toNat : Int) = x := by
  rw [BitVec.ofInt_natCast, BitVec.ofNat_toNat, BitVec.setWidth_eq]
theorem ixor_bv (x y : BitVec 32) : ixor .u32 (x.toNat : Int) (y.toNat : Int) = ((x ^^^ y).toNat : Int) := by
  unfold ixor
  show IntKind.wrap .u32 ((BitVec.ofInt 32 (x.toNat : Int) ^^^ BitVec.ofInt 32 (y.toNat : Int)).toNat : Int) = _
  rw [ofInt_toNat, ofInt_toNat, wrap32bv]
theorem shr1_bv (x : BitVec 32) : (x.toNat : Int).fdiv 2 = ((x >>> 1).toNat : Int) := by
  rw [Int.fdiv_eq_ediv_of_nonneg _ (by omega), BitVec.toNat_ushiftRight, Nat.shiftRight_eq_div_pow]
  omega
theorem tdiv2_bv (x : BitVec 32) : (x.toNat : Int).tdiv 2 = ((x >>> 1).toNat : Int) := by
  rw [Int.tdiv_eq_ediv_of_nonneg (by omega), BitVec.toNat_ushiftRight, Nat.shiftRight_eq_div_pow]
  omega
theorem step_bv (x : BitVec 32) : ixor .u32 ((x >>> 1).toNat : Int) (IntKind.wrap .u32 ((x.toNat : Int) % 2 * 3988292384)) = ((stepB x).toNat : Int) := by
  have h : x.toNat % 2 = 0 ∨ x.toNat % 2 = 1 := by omega
  unfold stepB
  rcases h with h | h
  · rw [if_neg (by omega), ← ixor_bv]
    congr 1
    have : (x.toNat : Int) % 2 = 0 := by omega
    rw [this]; rfl
  · rw [if_pos h, ← ixor_bv]
    congr 1
    have : (x.toNat : Int) % 2 = 1 := by omega
    rw [this]; rfl
theorem iand1_bv (x : BitVec 32) : iand .u32 (x.toNat : Int) 1 = (x.toNat : Int) % 2 := iand_one (by omega) (by have := x.isLt; omega)

theorem on_loop (k : List Item) (R : BitVec 32 → Option (AVal × Heap))
    (hk : ∀ x τ, finK 1 [] (run E 1 k τ [.box [.lit (.int .u32 (x : BitVec 32).toNat)]]) = R x) :
    ∀ (d i : Nat) (x : BitVec 32), i + d = 8 →
   finK 1 [] (run E 1 (.code L73_0 :: .inLoop [1, 7] L73_0 :: .inBlock 0 :: k) [(1, .ptr 0 0), (7, .lit (.int .i64 i))] [.box [.lit (.int .u32 x.toNat)]]) = R (steps d x) := by
  intro d
  induction d with
  | zero =>
    intro i x hi
    have : i = 8 := by omega
    subst this
    simp [go_sem, run_codeL E L73_0.eq_1]
    exact hk x _
  | succ d ih =>
    intro i x hi
    have h1 : (i : Int) < 8 := by omega
    have w2 := wrapIdx (i := i) (by omega)
    have ih2 := ih (i + 1) (stepB x) (by omega)
    have e1 := shr1_bv x
    have e2 := iand1_bv x
    have e3 := step_bv x
    simp at ih2 e1 e3
    simp [go_sem, run_codeL E L73_0.eq_1, h1, w2, e1, e2, e3]
    rw [run_inLoop']
    simp [go_sem, purse_eq, List.range_succ]
    exact ih2
theorem on_spec (x : BitVec 32) (c : Nat) (hc : c < 256) : call E (.func (.func 73) [] [.ptr 0 0]) [.lit (.int .u8 c)] [.box [.lit (.int .u32 x.toNat)]]
    = some (.tup [], [.box [.lit (.int .u32 (onB x c).toNat)]]) := by
  rw [call_func E E73]
  have hw : IntKind.wrap .u32 (c : Int) = ((BitVec.ofNat 32 c).toNat : Int) := by
    simp [IntKind.wrap, IntKind.bits, IntKind.signed]
  have hx := ixor_bv x (BitVec.ofNat 32 c)
  have h := on_loop [] (fun x => some (.tup [], [.box [.lit (.int .u32 x.toNat)]])) (by intro x τ; simp [go_sem, List.range_succ]) 8 0 (x ^^^ BitVec.ofNat 32 c) (by omega)
  simp only [← hw] at hx
  simp [go_sem, ir73, hx]
  rw [run_inLoop']
  simp [go_sem, purse_eq, List.range_succ]
  exact h
theorem sum_loop (l : List Nat) (hb : ∀ c ∈ l, c < 256) (hl : l.length ≤ 1099511627775) (nl fu : Bool) (k : List Item) (R : BitVec 32 → Option (AVal × Heap))
    (hk : ∀ x τ, lk 3 τ = .ptr 0 0 → finK 0 [.tmp 2] (run E 0 k τ [.box [.lit (.int .u32 (x : BitVec 32).toNat)]]) = R x) :
    ∀ (d i : Nat) (x : BitVec 32), i + d = l.length →
   finK 0 [.tmp 2] (run E 0 (.code L66_0 :: .inLoop [3, 4, 8, 9, 10] L66_0 :: .inBlock 0 :: k)
     [(3, .ptr 0 0), (4, .func (.func 73) [] [.ptr 0 0]), (8, .imm nl fu true (l.map encB)), (9, .lit (.int .i64 l.length)), (10, .lit (.int .i64 i))] [.box [.lit (.int .u32 x.toNat)]]) = R (crcGo x (l.drop i)) := by
  intro d
  induction d with
  | zero =>
    intro i x hi
    have : i = l.length := by omega
    subst this
    simp [go_sem, run_codeL E L66_0.eq_1, crcGo]
    exact hk x _ rfl
  | succ d ih =>
    intro i x hi
    have hlt : i < l.length := by omega
    have w2 := wrapIdx (i := i) (by omega)
    have hs := on_spec x l[i] (hb _ (List.getElem_mem hlt))
    rw [List.drop_eq_getElem_cons hlt, crcGo, List.foldl_cons]
    have ih2 := ih (i + 1) (onB x l[i]) (by omega)
    simp at ih2
    simp [go_sem, run_codeL E L66_0.eq_1, hlt, List.getElem?_eq_getElem hlt, encB, w2, hs, purse_eq]
    rw [run_inLoop']
    simp [go_sem, purse_eq]
    exact ih2
theorem sum_spec (l : List Nat) (hb : ∀ c ∈ l, c < 256) (hl : l.length ≤ 1099511627775) (nl fu : Bool) :
    call E (.func (.func 66) [] []) [.imm nl fu true (l.map encB)] [] = some (.lit (.int .u32 (crc l).toNat), []) := by
  rw [call_func E E66]
  have h := sum_loop l hb hl nl fu [.code (.seq (.reg [⟨none, some 18, .load false 1 (.t 3)⟩, ⟨none, some 19, .bin .xor (.t 18) (.c (.lit (.int .u32 4294967295)))⟩, ⟨none, some 2, .copy (.t 19)⟩] [] []) .ret)] (fun x => some (.lit (.int .u32 (x ^^^ 4294967295#32).toNat), [])) ?_ l.length 0 4294967295#32 (by omega)
  · simp [go_sem, ir66]
    rw [run_inLoop']
    simp [go_sem, purse_eq]
    simpa [crc] using h
  · intro x τ h3
    have e := ixor_bv x 4294967295#32
    simp at e
    simp [go_sem, h3, e]

theorem step_if (x : BitVec 32) : ((stepB x).toNat : Int) = if x.toNat % 2 = 1 then ixor .u32 ((x >>> 1).toNat : Int) 3988292384 else ((x >>> 1).toNat : Int) := by
  unfold stepB
  by_cases h : x.toNat % 2 = 1
  · rw [if_pos h, if_pos h, ← ixor_bv]; rfl
  · rw [if_neg h, if_neg h]; simp
theorem rsum_in (l : List Nat) (nl fu : Bool) (i : Nat) (k : List Item) (R : Option (AVal × Heap)) :
    ∀ (d j : Nat) (x : BitVec 32), j + d = 8 →
    (∀ τ, lk 0 τ = .imm nl fu true (l.map encB) → lk 3 τ = .lit (.int .u32 (steps d x).toNat) → lk 4 τ = .lit (.int .i64 i) → finK 0 [.tmp 2] (run E 0 k τ []) = R) →
   finK 0 [.tmp 2] (run E 0 (.code L74_1 :: .inLoop [0, 3, 4, 5] L74_1 :: .inBlock 2 :: k)
     [(0, .imm nl fu true (l.map encB)), (3, .lit (.int .u32 x.toNat)), (4, .lit (.int .i64 i)), (5, .lit (.int .i64 j))] []) = R := by
  intro d
  induction d with
  | zero =>
    intro j x hj hk
    have : j = 8 := by omega
    subst this
    simp [go_sem, run_codeL E L74_1.eq_1]
    exact hk _ rfl rfl rfl
  | succ d ih =>
    intro j x hj hk
    have h1 : (j : Int) < 8 := by omega
    have w2 := wrapIdx (i := j) (by omega)
    have ih2 := ih (j + 1) (stepB x) (by omega) hk
    have e1 := tdiv2_bv x
    have e2 : (x.toNat : Int).tmod 2 = ((x.toNat % 2 : Nat) : Int) := by rw [Int.tmod_eq_emod_of_nonneg (by omega)]; omega
    have e3 := step_if x
    have e4 := wrap32bv (x >>> 1)
    by_cases h : x.toNat % 2 = 1
    · rw [if_pos h] at e3
      have e5 : (x.toNat : Int) % 2 = 1 := by omega
      simp at ih2 e1 e2 e3 e4
      rw [e3] at ih2
      simp [go_sem, run_codeL E L74_1.eq_1, h1, w2, e1, e2, e4, e5]
      rw [run_inLoop']
      simp [go_sem, purse_eq]
      exact ih2
    · rw [if_neg h] at e3
      have e5 : ¬ (x.toNat : Int) % 2 = 1 := by omega
      simp at ih2 e1 e2 e3 e4
      rw [e3] at ih2
      simp [go_sem, run_codeL E L74_1.eq_1, h1, w2, e1, e2, e4, e5]
      rw [run_inLoop']
      simp [go_sem, purse_eq]
      exact ih2
theorem rsum_loop (l : List Nat) (hb : ∀ c ∈ l, c < 256) (hl : l.length ≤ 1099511627775) (nl fu : Bool) (k : List Item) (R : BitVec 32 → Option (AVal × Heap))
    (hk : ∀ x τ, lk 3 τ = .lit (.int .u32 (x : BitVec 32).toNat) → finK 0 [.tmp 2] (run E 0 k τ []) = R x) :
    ∀ (d i : Nat) (x : BitVec 32), i + d = l.length →
   finK 0 [.tmp 2] (run E 0 (.code L74_0 :: .inLoop [0, 3, 4] L74_0 :: .inBlock 0 :: k)
     [(0, .imm nl fu true (l.map encB)), (3, .lit (.int .u32 x.toNat)), (4, .lit (.int .i64 i))] []) = R (crcGo x (l.drop i)) := by
  intro d
  induction d with
  | zero =>
    intro i x hi
    have : i = l.length := by omega
    subst this
    simp [go_sem, run_codeL E L74_0.eq_1, crcGo]
    exact hk x _ rfl
  | succ d ih =>
    intro i x hi
    have hlt : i < l.length := by omega
    have w2 := wrapIdx (i := i) (by omega)
    have hw : IntKind.wrap .u32 ((l[i] : Nat) : Int) = ((BitVec.ofNat 32 l[i]).toNat : Int) := by
      simp [IntKind.wrap, IntKind.bits, IntKind.signed]
    have hx := ixor_bv x (BitVec.ofNat 32 l[i])
    simp only [← hw] at hx
    rw [List.drop_eq_getElem_cons hlt, crcGo, List.foldl_cons]
    simp [go_sem, run_codeL E L74_0.eq_1, hlt, List.getElem?_eq_getElem hlt, encB, w2, hx]
    rw [run_inLoop']
    simp [go_sem, purse_eq]
    have hin := rsum_in l nl fu i (.inBlock 1 :: .code (.reg [⟨none, some 10, .copy (.t 4)⟩, ⟨none, some 11, .bin .add (.t 10) (.c (.lit (.int .i64 1)))⟩, ⟨none, some 4, .copy (.t 11)⟩] [] []) :: .inLoop [0, 3, 4] L74_0 :: .inBlock 0 :: k) (R (crcGo x (l.drop i))) 8 0 (x ^^^ BitVec.ofNat 32 l[i]) (by omega) ?_
    · rw [List.drop_eq_getElem_cons hlt, crcGo, List.foldl_cons] at hin
      simpa [encB] using hin
    · intro τ t0 t3 t4
      have ih2 := ih (i + 1) (onB x l[i]) (by omega)
      rw [List.drop_eq_getElem_cons hlt, crcGo, List.foldl_cons]
      simp at ih2
      simp [go_sem, t0, t3, t4, w2]
      rw [run_inLoop']
      simp [go_sem, purse_eq, t0, t3, t4]
      exact ih2
theorem rsum_spec (l : List Nat) (hb : ∀ c ∈ l, c < 256) (hl : l.length ≤ 1099511627775) (nl fu : Bool) :
    call E (.func (.func 74) [] []) [.imm nl fu true (l.map encB)] [] = some (.lit (.int .u32 (crc l).toNat), []) := by
  rw [call_func E E74]
  have h := rsum_loop l hb hl nl fu [.code (.seq (.reg [⟨none, some 31, .copy (.t 3)⟩, ⟨none, some 32, .bin .xor (.t 31) (.c (.lit (.int .u32 4294967295)))⟩, ⟨none, some 2, .copy (.t 32)⟩] [] []) .ret)] (fun x => some (.lit (.int .u32 (x ^^^ 4294967295#32).toNat), [])) ?_ l.length 0 4294967295#32 (by omega)
  · simp [go_sem, ir74]
    rw [run_inLoop']
    simp [go_sem, purse_eq]
    simpa [crc] using h
  · intro x τ h3
    have e := ixor_bv x 4294967295#32
    simp at e
    simp [go_sem, h3, e]
end Go.AM.R1
open Go Go.AM
namespace Go.AM.R1

/-! ### Sealing -/
def tailN (s : Nat) : List Nat := [s % 256, s / 256 % 256, s / 65536 % 256, s / 16777216 % 256]
theorem shr_nat (s m : Nat) : (s : Int).fdiv ((2 : Int) ^ m) = ((s / 2 ^ m : Nat) : Int) := by
  rw [Int.fdiv_eq_ediv_of_nonneg _ (Int.le_of_lt (Int.pow_pos (by omega)))]
  simp
theorem tail_spec (s : Nat) : call E (.func (.func 65) [] []) [.lit (.int .u32 s)] [] = some (.own 0 4 1 0 4, [.arr true false false 1 ((tailN s).map encB)]) := by
  rw [call_func E E65]
  have e0 : IntKind.wrap .i64 0 = 0 := rfl
  have e1 : IntKind.wrap .i64 1 = 1 := rfl
  have e2 : IntKind.wrap .i64 2 = 2 := rfl
  have e3 : IntKind.wrap .i64 3 = 3 := rfl
  have e4 : IntKind.wrap .i64 4 = 4 := rfl
  have e8 : IntKind.wrap .i64 8 = 8 := rfl
  have e16 : IntKind.wrap .i64 16 = 16 := rfl
  have e24 : IntKind.wrap .i64 24 = 24 := rfl
  have s0 := shr_nat s 0
  have s8 := shr_nat s 8
  have s16 := shr_nat s 16
  have s24 := shr_nat s 24
  have w0 := wrap8 s
  have w8 := wrap8 (s / 256)
  have w16 := wrap8 (s / 65536)
  have w24 := wrap8 (s / 16777216)
  simp at s0 s8 s16 s24 w0 w8 w16 w24
  simp [go_sem, ir65, run_inLoop', run_codeL E L65_0.eq_1, purse_eq, e0, e1, e2, e3, e4, e8, e16, e24, s0, s8, s16, s24, w0, w8, w16, w24, tailN, encB, List.replicate]
theorem clone_spec (l : List Nat) (fu : Bool) (hl : l.length ≤ 1099511627775) : call E (.func (.func 64) [] []) [.imm false fu true (l.map encB)] []
    = some (.own 0 l.length 1 0 l.length, [.arr true false l.isEmpty 1 (l.map encB)]) := by
  rw [call_func E E64]
  have hb : ¬ (l.length > 70368744177664) := by omega
  cases l with
  | nil => simp [go_sem, ir64, purse_eq]
  | cons x xs =>
    have hr := rowsB (x :: xs)
    have hb : ¬ (70368744177664 < xs.length + 1) := by simp at hl; omega
    simp at hr
    simp [go_sem, ir64, purse_eq, hr, hb]
/-- Bytes, with their sum behind them. -/
def sealB (l : List Nat) : List Nat := l ++ tailN (crc l).toNat
theorem seal_spec (l : List Nat) (hb : ∀ c ∈ l, c < 256) (fu : Bool) (hl : l.length ≤ 1099511627775) : call E (.func (.func 45) [] []) [.imm false fu true (l.map encB)] []
    = some (.own 0 (sealB l).length 1 0 (sealB l).length, [.arr true false false 1 ((sealB l).map encB)]) := by
  rw [call_func E E45]
  have hC := clone_spec l fu hl
  have hS := sum_spec l hb hl false fu
  have hT := tail_spec (crc l).toNat
  have hr := rowsB (tailN (crc l).toNat)
  have ht : (tailN (crc l).toNat).length = 4 := rfl
  have hsb : sealB l = l ++ tailN (crc l).toNat := rfl
  generalize tailN (crc l).toNat = T at hT hr ht hsb
  have hb2 : ¬ (70368744177664 < l.length + 4) := by omega
  simp [go_sem, ir45, hC, hS, hT, hr, ht, hb2, hsb, purse_eq]
theorem rseal_spec (l : List Nat) (hb : ∀ c ∈ l, c < 256) (nl fu : Bool) (hl : l.length ≤ 1099511627775) : call E (.func (.func 68) [] []) [.imm nl fu true (l.map encB)] []
    = some (.own 0 (sealB l).length 1 0 (sealB l).length, [.arr true false false 1 ((sealB l).map encB)]) := by
  rw [call_func E E68]
  have hS := rsum_spec l hb hl nl fu
  have hr := rowsB l
  have hsb : sealB l = l ++ tailN (crc l).toNat := rfl
  have hlt := (crc l).isLt
  generalize (crc l).toNat = s at hS hsb hlt
  have m0 : (s : Int).tmod 256 = ((s % 256 : Nat) : Int) := by rw [Int.tmod_eq_emod_of_nonneg (by omega)]; omega
  have m1 : ((s / 256 : Nat) : Int).tmod 256 = ((s / 256 % 256 : Nat) : Int) := by rw [Int.tmod_eq_emod_of_nonneg (by omega)]; omega
  have m2 : ((s / 65536 : Nat) : Int).tmod 256 = ((s / 65536 % 256 : Nat) : Int) := by rw [Int.tmod_eq_emod_of_nonneg (by omega)]; omega
  have m3 : ((s / 16777216 : Nat) : Int).tmod 256 = ((s / 16777216 % 256 : Nat) : Int) := by rw [Int.tmod_eq_emod_of_nonneg (by omega)]; omega
  have d0 : (s : Int).tdiv 256 = ((s / 256 : Nat) : Int) := by rw [Int.tdiv_eq_ediv_of_nonneg (by omega)]; omega
  have d1 : ((s / 256 : Nat) : Int).tdiv 256 = ((s / 65536 : Nat) : Int) := by rw [Int.tdiv_eq_ediv_of_nonneg (by omega)]; omega
  have d2 : ((s / 65536 : Nat) : Int).tdiv 256 = ((s / 16777216 : Nat) : Int) := by rw [Int.tdiv_eq_ediv_of_nonneg (by omega)]; omega
  have d3 : ((s / 16777216 : Nat) : Int).tdiv 256 = 0 := by rw [Int.tdiv_eq_ediv_of_nonneg (by omega)]; omega
  have k1 : IntKind.wrap .u32 ((s / 256 : Nat) : Int) = ((s / 256 : Nat) : Int) := by simp [IntKind.wrap, IntKind.bits, IntKind.signed]; omega
  have k2 : IntKind.wrap .u32 ((s / 65536 : Nat) : Int) = ((s / 65536 : Nat) : Int) := by simp [IntKind.wrap, IntKind.bits, IntKind.signed]; omega
  have k3 : IntKind.wrap .u32 ((s / 16777216 : Nat) : Int) = ((s / 16777216 : Nat) : Int) := by simp [IntKind.wrap, IntKind.bits, IntKind.signed]; omega
  have w0 := wrap8 (s % 256)
  have w1 := wrap8 (s / 256 % 256)
  have w2 := wrap8 (s / 65536 % 256)
  have w3 := wrap8 (s / 16777216 % 256)
  simp at m0 m1 m2 m3 d0 d1 d2 d3 k1 k2 k3 w0 w1 w2 w3
  have e1 : IntKind.wrap .i64 1 = 1 := rfl
  have e2 : IntKind.wrap .i64 2 = 2 := rfl
  have e3 : IntKind.wrap .i64 3 = 3 := rfl
  have e4 : IntKind.wrap .i64 4 = 4 := rfl
  have e0 : IntKind.wrap .u32 0 = 0 := rfl
  have b0 : ¬ (70368744177664 < l.length) := by omega
  have b1 : ¬ (70368744177664 < l.length + 1) := by omega
  have b2 : ¬ (70368744177664 < l.length + 2) := by omega
  have b3 : ¬ (70368744177664 < l.length + 3) := by omega
  have b4 : ¬ (70368744177664 < l.length + 4) := by omega
  cases l with
  | nil =>
    simp at hS
    simp [go_sem, ir68, hS, run_inLoop', run_codeL E L68_0.eq_1, purse_eq, m0, m1, m2, m3, d0, d1, d2, d3, k1, k2, k3, w0, w1, w2, w3, e0, e1, e2, e3, e4, hsb, tailN, encB]
  | cons x xs =>
    have hne : ¬ (x :: xs = []) := by simp
    generalize x :: xs = l at *
    simp [go_sem, ir68, hS, hr, hne, run_inLoop', run_codeL E L68_0.eq_1, purse_eq, m0, m1, m2, m3, d0, d1, d2, d3, k1, k2, k3, w0, w1, w2, w3, e0, e1, e2, e3, e4, hsb, tailN, encB, b0, b1, b2, b3, b4]
end Go.AM.R1
