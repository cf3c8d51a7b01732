/- What the functions of the program answer, walked on that machine. -/
import Derived.Test.YtkmacpimokhpgaaGreatRows
import Derived.Test.YtkmacpimokhpgaaGreatAm3
import Derived.Laws.Strings
set_option linter.unusedVariables false
set_option linter.unusedSimpArgs false
open Go Go.AM Go.Proofs
namespace Go.AM.R1
/- magnetolaw10.CtlReceives -/
def L3_1 : ICode := (.seq (.seq (.reg [⟨none, some 54, .copy (.t 8)⟩, ⟨none, some 55, .copy (.t 5)⟩, ⟨none, some 56, .len (.t 55)⟩, ⟨none, some 57, .bin .add (.t 56) (.c (.lit (.int .i64 3)))⟩, ⟨none, some 58, .bin .lss (.t 54) (.t 57)⟩] [] []) (.cond (.t 58) .skip (.exit 2))) (.seq (.block 3 (.seq (.reg [⟨none, some 9, .copy (.c (.lit (.int .i64 1)))⟩] [] []) (.seq (.seq (.reg [⟨none, some 61, .copy (.t 8)⟩, ⟨none, some 62, .copy (.t 5)⟩, ⟨none, some 63, .len (.t 62)⟩, ⟨none, some 64, .bin .lss (.t 61) (.t 63)⟩] [] []) (.cond (.t 64) (.reg [⟨none, some 65, .copy (.t 5)⟩, ⟨none, some 66, .copy (.t 8)⟩, ⟨none, some 67, .idxS 1 (.t 65) (.t 66)⟩, ⟨none, some 68, .load false 1 (.t 67)⟩, ⟨none, some 9, .copy (.t 68)⟩] [] []) .skip)) (.seq (.seq (.reg [⟨none, some 69, .copy (.t 3)⟩, ⟨none, some 70, .call 16 [(.t 69)]⟩, ⟨none, some 71, .bin .eql (.t 70) (.c (.lit (.int .i64 0)))⟩, ⟨none, some 72, .copy (.t 8)⟩, ⟨none, some 73, .copy (.t 7)⟩, ⟨none, some 74, .bin .eql (.t 72) (.t 73)⟩, ⟨none, some 75, .eqB true (.t 71) (.t 74)⟩] [] []) (.cond (.t 75) (.seq (.reg [⟨none, some 2, .copy (.c (.lit (.bool false)))⟩] [] []) .ret) .skip)) (.seq (.reg [⟨none, some 77, .copy (.t 3)⟩, ⟨none, some 78, .copy (.t 9)⟩, ⟨none, some 79, .call 17 [(.t 77), (.t 78)]⟩, ⟨none, some 76, .copy (.t 79)⟩, ⟨none, some 80, .extract (.t 76) 0⟩, ⟨none, some 81, .extract (.t 76) 1⟩, ⟨none, some 10, .copy (.t 80)⟩, ⟨none, some 11, .copy (.t 81)⟩] [] []) (.seq (.seq (.reg [⟨none, some 82, .copy (.t 11)⟩, ⟨none, some 83, .bin .neq (.t 82) (.c (.lit (.int .i64 0)))⟩] [] []) (.cond (.t 83) (.seq (.reg [⟨none, some 2, .copy (.c (.lit (.bool false)))⟩] [] []) .ret) .skip)) (.seq (.seq (.reg [⟨none, some 84, .copy (.t 8)⟩, ⟨none, some 85, .copy (.t 5)⟩, ⟨none, some 86, .len (.t 85)⟩, ⟨none, some 87, .bin .sub (.t 86) (.c (.lit (.int .i64 2)))⟩, ⟨none, some 88, .bin .neq (.t 84) (.t 87)⟩] [] []) (.cond (.t 88) (.seq (.seq (.reg [⟨none, some 89, .copy (.t 10)⟩, ⟨none, some 90, .len (.t 89)⟩, ⟨none, some 91, .bin .neq (.t 90) (.c (.lit (.int .i64 0)))⟩] [] []) (.cond (.t 91) (.seq (.reg [⟨none, some 2, .copy (.c (.lit (.bool false)))⟩] [] []) .ret) .skip)) (.exit 3)) .skip)) (.seq (.reg [⟨none, some 92, .copy (.t 10)⟩, ⟨none, some 93, .len (.t 92)⟩, ⟨none, some 94, .bin .neq (.t 93) (.c (.lit (.int .i64 1)))⟩, ⟨none, some 95, .copy (.t 94)⟩, ⟨some (95, false), some 96, .copy (.t 10)⟩, ⟨some (95, false), some 97, .idxS 15 (.t 96) (.c (.lit (.int .i64 0)))⟩, ⟨some (95, false), some 98, .fieldA 2 (.t 97)⟩, ⟨some (95, false), some 99, .load false 1 (.t 98)⟩, ⟨some (95, false), some 100, .bin .neq (.t 99) (.c (.lit (.int .i64 2)))⟩, ⟨none, some 101, .pick (.t 95) (.c (.lit (.bool true))) (.t 100)⟩, ⟨none, some 102, .copy (.t 101)⟩, ⟨some (102, false), some 103, .copy (.t 10)⟩, ⟨some (102, false), some 104, .idxS 15 (.t 103) (.c (.lit (.int .i64 0)))⟩, ⟨some (102, false), some 105, .fieldA 3 (.t 104)⟩, ⟨some (102, false), some 106, .load true 12 (.t 105)⟩, ⟨some (102, false), some 107, .copy (.t 0)⟩, ⟨some (102, false), some 108, .copy (.t 4)⟩, ⟨some (102, false), some 109, .idxS 12 (.t 107) (.t 108)⟩, ⟨some (102, false), some 110, .load true 12 (.t 109)⟩, ⟨some (102, false), some 111, .eqA true [(0, .i), (1, .b), (2, .b), (3, .i), (4, .i), (5, .i), (6, .i), (7, .i), (8, .i), (9, .i), (10, .i), (11, .i)] (.t 106) (.t 110)⟩, ⟨none, some 112, .pick (.t 102) (.c (.lit (.bool true))) (.t 111)⟩] [] []) (.cond (.t 112) (.seq (.reg [⟨none, some 2, .copy (.c (.lit (.bool false)))⟩] [] []) .ret) .skip))))))))) (.reg [⟨none, some 59, .copy (.t 8)⟩, ⟨none, some 60, .bin .add (.t 59) (.c (.lit (.int .i64 1)))⟩, ⟨none, some 8, .copy (.t 60)⟩] [] [])))
def L3_0 : ICode := (.seq (.seq (.reg [⟨none, some 20, .copy (.t 4)⟩, ⟨none, some 21, .copy (.t 0)⟩, ⟨none, some 22, .len (.t 21)⟩, ⟨none, some 23, .bin .lss (.t 20) (.t 22)⟩] [] []) (.cond (.t 23) .skip (.exit 0))) (.seq (.block 1 (.seq (.reg [⟨none, some 27, .copy (.t 0)⟩, ⟨none, some 28, .copy (.t 4)⟩, ⟨none, some 29, .idxS 12 (.t 27) (.t 28)⟩, ⟨none, some 30, .load true 12 (.t 29)⟩, ⟨none, some 31, .call 14 [(.t 30), (.c (.lit (.bool true)))]⟩, ⟨none, some 26, .copy (.t 31)⟩, ⟨none, some 32, .extract (.t 26) 0⟩, ⟨none, some 33, .extract (.t 26) 1⟩, ⟨none, some 5, .copy (.t 32)⟩, ⟨none, some 6, .copy (.t 33)⟩] [] []) (.seq (.seq (.reg [⟨none, some 34, .copy (.t 6)⟩, ⟨none, some 35, .bin .neq (.t 34) (.c (.lit (.int .i64 0)))⟩] [] []) (.cond (.t 35) (.seq (.reg [⟨none, some 36, .copy (.t 5)⟩, ⟨none, some 37, .len (.t 36)⟩, ⟨none, some 38, .bin .eql (.t 37) (.c (.lit (.int .i64 0)))⟩, ⟨none, some 39, .copy (.t 38)⟩, ⟨some (39, true), some 40, .copy (.t 0)⟩, ⟨some (39, true), some 41, .copy (.t 4)⟩, ⟨some (39, true), some 42, .idxS 12 (.t 40) (.t 41)⟩, ⟨some (39, true), some 43, .load true 12 (.t 42)⟩, ⟨some (39, true), some 44, .call 15 [(.t 43)]⟩, ⟨some (39, true), some 45, .copy (.t 6)⟩, ⟨some (39, true), some 46, .bin .eql (.t 44) (.t 45)⟩, ⟨none, some 47, .pick (.t 39) (.t 46) (.c (.lit (.bool false)))⟩, ⟨none, some 48, .copy (.t 47)⟩, ⟨some (48, true), some 49, .call 12 []⟩, ⟨none, some 50, .pick (.t 48) (.t 49) (.c (.lit (.bool false)))⟩, ⟨none, some 2, .copy (.t 50)⟩] [] []) .ret) .skip)) (.seq (.reg [⟨none, some 51, .copy (.t 5)⟩, ⟨none, some 52, .len (.t 51)⟩, ⟨none, some 53, .bin .sub (.t 52) (.c (.lit (.int .i64 9)))⟩, ⟨none, some 7, .copy (.t 53)⟩] [] []) (.seq (.seq (.reg [⟨none, some 8, .copy (.c (.lit (.int .i64 0)))⟩] [] []) (.block 2 (.loop [0, 3, 4, 5, 7, 8] L3_1))) (.seq (.reg [⟨none, some 113, .copy (.t 3)⟩, ⟨none, some 114, .call 18 [(.t 113)]⟩, ⟨none, some 12, .alloc [(.lit (.int .i64 0)), (.lit (.bool false)), (.lit (.int .i64 0)), (.lit (.int .i64 0)), (.lit (.bool false)), (.lit (.int .i64 0))]⟩, ⟨none, none, .store 6 (.t 12) (.t 114)⟩] [] []) (.seq (.reg [⟨none, some 115, .fieldA 0 (.t 12)⟩, ⟨none, some 116, .load false 1 (.t 115)⟩, ⟨none, some 117, .bin .neq (.t 116) (.c (.lit (.int .i64 1)))⟩, ⟨none, some 118, .copy (.t 117)⟩, ⟨some (118, false), some 119, .fieldA 1 (.t 12)⟩, ⟨some (118, false), some 120, .load false 1 (.t 119)⟩, ⟨none, some 121, .pick (.t 118) (.c (.lit (.bool true))) (.t 120)⟩, ⟨none, some 122, .copy (.t 121)⟩, ⟨some (122, false), some 123, .fieldA 2 (.t 12)⟩, ⟨some (122, false), some 124, .load true 3 (.t 123)⟩, ⟨some (122, false), some 125, .build [(.lit (.int .i64 0)), (.lit (.int .i64 0)), (.lit (.bool false))] []⟩, ⟨some (122, false), some 126, .eqA true [(0, .i), (1, .i), (2, .b)] (.t 124) (.t 125)⟩, ⟨none, some 127, .pick (.t 122) (.c (.lit (.bool true))) (.t 126)⟩] [] []) (.cond (.t 127) (.seq (.reg [⟨none, some 2, .copy (.c (.lit (.bool false)))⟩] [] []) .ret) .skip)))))))) (.reg [⟨none, some 24, .copy (.t 4)⟩, ⟨none, some 25, .bin .add (.t 24) (.c (.lit (.int .i64 1)))⟩, ⟨none, some 4, .copy (.t 25)⟩] [] [])))
def ir3 : IFn := ⟨(.seq (.reg [⟨none, some 2, .copy (.c (.lit (.bool false)))⟩] [] []) (.seq (.seq (.reg [⟨none, some 13, .copy (.t 0)⟩, ⟨none, some 14, .len (.t 13)⟩, ⟨none, some 15, .bin .gtr (.t 14) (.c (.lit (.int .i64 4)))⟩] [] []) (.cond (.t 15) (.seq (.reg [⟨none, some 16, .call 12 []⟩, ⟨none, some 2, .copy (.t 16)⟩] [] []) .ret) .skip)) (.seq (.reg [⟨none, some 17, .call 13 [(.c nilS)]⟩, ⟨none, some 3, .copy (.t 17)⟩] [] []) (.seq (.seq (.reg [⟨none, some 18, .copy (.t 3)⟩, ⟨none, some 19, .isNil false .ptr (.t 18)⟩] [] []) (.cond (.t 19) (.seq (.reg [⟨none, some 2, .copy (.c (.lit (.bool false)))⟩] [] []) .ret) .skip)) (.seq (.seq (.reg [⟨none, some 4, .copy (.c (.lit (.int .i64 0)))⟩] [] []) (.block 0 (.loop [0, 3, 4] L3_0))) (.seq (.reg [⟨none, some 128, .call 12 []⟩, ⟨none, some 2, .copy (.t 128)⟩] [] []) .ret)))))), [.tmp 2]⟩
/- magnetolaw10.CtlCalms -/
def L4_0 : ICode := (.seq (.seq (.reg [⟨none, some 16, .copy (.t 4)⟩, ⟨none, some 17, .copy (.t 0)⟩, ⟨none, some 18, .len (.t 17)⟩, ⟨none, some 19, .bin .lss (.t 16) (.t 18)⟩] [] []) (.cond (.t 19) .skip (.exit 0))) (.seq (.block 1 (.reg [⟨none, some 22, .copy (.t 3)⟩, ⟨none, some 23, .copy (.t 0)⟩, ⟨none, some 24, .copy (.t 4)⟩, ⟨none, some 25, .idxS 14 (.t 23) (.t 24)⟩, ⟨none, some 26, .load true 14 (.t 25)⟩, ⟨none, some 27, .copy (.t 3)⟩, ⟨none, some 28, .call 16 [(.t 27)]⟩, ⟨none, some 29, .call 20 [(.t 26), (.t 28)]⟩, ⟨none, some 30, .call 17 [(.t 22), (.t 29)]⟩] [(4, 6)] [])) (.reg [⟨none, some 20, .copy (.t 4)⟩, ⟨none, some 21, .bin .add (.t 20) (.c (.lit (.int .i64 1)))⟩, ⟨none, some 4, .copy (.t 21)⟩] [] [])))
def L4_1 : ICode := (.seq (.seq (.reg [⟨none, some 31, .copy (.t 5)⟩, ⟨none, some 32, .bin .lss (.t 31) (.c (.lit (.int .i64 60)))⟩] [] []) (.cond (.t 32) .skip (.exit 2))) (.seq (.block 3 (.seq (.reg [⟨none, some 35, .copy (.t 3)⟩, ⟨none, some 36, .call 18 [(.t 35)]⟩, ⟨none, some 37, .fieldV false 1 0 (.t 36)⟩, ⟨none, some 6, .copy (.t 37)⟩] [] []) (.seq (.seq (.reg [⟨none, some 38, .copy (.t 3)⟩, ⟨none, some 39, .call 16 [(.t 38)]⟩, ⟨none, some 40, .bin .eql (.t 39) (.c (.lit (.int .i64 0)))⟩, ⟨none, some 41, .copy (.t 40)⟩, ⟨some (41, true), some 42, .copy (.t 6)⟩, ⟨some (41, true), some 43, .bin .neq (.t 42) (.c (.lit (.int .i64 3)))⟩, ⟨none, some 44, .pick (.t 41) (.t 43) (.c (.lit (.bool false)))⟩, ⟨none, some 45, .copy (.t 44)⟩, ⟨some (45, true), some 46, .copy (.t 6)⟩, ⟨some (45, true), some 47, .bin .neq (.t 46) (.c (.lit (.int .i64 5)))⟩, ⟨none, some 48, .pick (.t 45) (.t 47) (.c (.lit (.bool false)))⟩, ⟨none, some 49, .copy (.t 48)⟩, ⟨some (49, true), some 50, .copy (.t 6)⟩, ⟨some (49, true), some 51, .bin .neq (.t 50) (.c (.lit (.int .i64 2)))⟩, ⟨none, some 52, .pick (.t 49) (.t 51) (.c (.lit (.bool false)))⟩] [] []) (.cond (.t 52) (.seq (.reg [⟨none, some 2, .copy (.c (.lit (.bool false)))⟩] [] []) .ret) .skip)) (.reg [⟨none, some 53, .copy (.t 3)⟩, ⟨none, some 54, .call 17 [(.t 53), (.c (.lit (.int .i64 1)))]⟩] [] [])))) (.reg [⟨none, some 33, .copy (.t 5)⟩, ⟨none, some 34, .bin .add (.t 33) (.c (.lit (.int .i64 1)))⟩, ⟨none, some 5, .copy (.t 34)⟩] [] [])))
def L4_2 : ICode := (.seq (.seq (.reg [⟨none, some 64, .copy (.t 8)⟩, ⟨none, some 65, .bin .lss (.t 64) (.c (.lit (.int .i64 1408)))⟩] [] []) (.cond (.t 65) .skip (.exit 4))) (.seq (.block 5 (.reg [⟨none, some 68, .copy (.t 3)⟩, ⟨none, some 69, .call 17 [(.t 68), (.c (.lit (.int .i64 1)))]⟩] [] [])) (.reg [⟨none, some 66, .copy (.t 8)⟩, ⟨none, some 67, .bin .add (.t 66) (.c (.lit (.int .i64 1)))⟩, ⟨none, some 8, .copy (.t 67)⟩] [] [])))
def ir4 : IFn := ⟨(.seq (.reg [⟨none, some 2, .copy (.c (.lit (.bool false)))⟩] [] []) (.seq (.seq (.reg [⟨none, some 9, .copy (.t 0)⟩, ⟨none, some 10, .len (.t 9)⟩, ⟨none, some 11, .bin .gtr (.t 10) (.c (.lit (.int .i64 300)))⟩] [] []) (.cond (.t 11) (.seq (.reg [⟨none, some 12, .call 12 []⟩, ⟨none, some 2, .copy (.t 12)⟩] [] []) .ret) .skip)) (.seq (.reg [⟨none, some 13, .call 19 []⟩, ⟨none, some 3, .copy (.t 13)⟩] [] []) (.seq (.seq (.reg [⟨none, some 14, .copy (.t 3)⟩, ⟨none, some 15, .isNil false .ptr (.t 14)⟩] [] []) (.cond (.t 15) (.seq (.reg [⟨none, some 2, .copy (.c (.lit (.bool false)))⟩] [] []) .ret) .skip)) (.seq (.seq (.reg [⟨none, some 4, .copy (.c (.lit (.int .i64 0)))⟩] [] []) (.block 0 (.loop [0, 3, 4] L4_0))) (.seq (.seq (.reg [⟨none, some 5, .copy (.c (.lit (.int .i64 0)))⟩] [] []) (.block 2 (.loop [3, 5] L4_1))) (.seq (.reg [⟨none, some 55, .copy (.t 3)⟩, ⟨none, some 56, .call 18 [(.t 55)]⟩, ⟨none, some 57, .fieldV false 1 0 (.t 56)⟩, ⟨none, some 7, .copy (.t 57)⟩] [] []) (.seq (.seq (.reg [⟨none, some 58, .copy (.t 7)⟩, ⟨none, some 59, .bin .neq (.t 58) (.c (.lit (.int .i64 1)))⟩, ⟨none, some 60, .copy (.t 59)⟩, ⟨some (60, true), some 61, .copy (.t 7)⟩, ⟨some (60, true), some 62, .bin .neq (.t 61) (.c (.lit (.int .i64 10)))⟩, ⟨none, some 63, .pick (.t 60) (.t 62) (.c (.lit (.bool false)))⟩] [] []) (.cond (.t 63) (.seq (.reg [⟨none, some 2, .copy (.c (.lit (.bool false)))⟩] [] []) .ret) .skip)) (.seq (.seq (.reg [⟨none, some 8, .copy (.c (.lit (.int .i64 0)))⟩] [] []) (.block 4 (.loop [3, 8] L4_2))) (.seq (.reg [⟨none, some 70, .copy (.t 3)⟩, ⟨none, some 71, .call 18 [(.t 70)]⟩, ⟨none, some 72, .fieldV false 1 0 (.t 71)⟩, ⟨none, some 73, .bin .eql (.t 72) (.c (.lit (.int .i64 1)))⟩, ⟨none, some 74, .copy (.t 73)⟩, ⟨some (74, true), some 75, .copy (.t 3)⟩, ⟨some (74, true), some 76, .call 16 [(.t 75)]⟩, ⟨some (74, true), some 77, .bin .eql (.t 76) (.c (.lit (.int .i64 1)))⟩, ⟨none, some 78, .pick (.t 74) (.t 77) (.c (.lit (.bool false)))⟩, ⟨none, some 79, .copy (.t 78)⟩, ⟨some (79, true), some 80, .call 12 []⟩, ⟨none, some 81, .pick (.t 79) (.t 80) (.c (.lit (.bool false)))⟩, ⟨none, some 2, .copy (.t 81)⟩] [] []) .ret)))))))))), [.tmp 2]⟩
/- magnetolaw10.CtlCounts -/
def L5_1 : ICode := (.seq (.seq (.reg [⟨none, some 103, .copy (.t 17)⟩, ⟨none, some 104, .copy (.t 12)⟩, ⟨none, some 105, .len (.t 104)⟩, ⟨none, some 106, .bin .lss (.t 103) (.t 105)⟩] [] []) (.cond (.t 106) .skip (.exit 2))) (.seq (.block 3 (.seq (.reg [⟨none, some 109, .copy (.t 15)⟩, ⟨none, some 110, .copy (.t 109)⟩, ⟨some (110, false), some 111, .copy (.t 12)⟩, ⟨some (110, false), some 112, .copy (.t 17)⟩, ⟨some (110, false), some 113, .idxS 15 (.t 111) (.t 112)⟩, ⟨some (110, false), some 114, .fieldA 2 (.t 113)⟩, ⟨some (110, false), some 115, .load false 1 (.t 114)⟩, ⟨some (110, false), some 116, .bin .eql (.t 115) (.c (.lit (.int .i64 11)))⟩, ⟨none, some 117, .pick (.t 110) (.c (.lit (.bool true))) (.t 116)⟩, ⟨none, some 15, .copy (.t 117)⟩] [] []) (.reg [⟨none, some 118, .copy (.t 16)⟩, ⟨none, some 119, .copy (.t 118)⟩, ⟨some (119, false), some 120, .copy (.t 12)⟩, ⟨some (119, false), some 121, .copy (.t 17)⟩, ⟨some (119, false), some 122, .idxS 15 (.t 120) (.t 121)⟩, ⟨some (119, false), some 123, .fieldA 2 (.t 122)⟩, ⟨some (119, false), some 124, .load false 1 (.t 123)⟩, ⟨some (119, false), some 125, .bin .eql (.t 124) (.c (.lit (.int .i64 10)))⟩, ⟨none, some 126, .pick (.t 119) (.c (.lit (.bool true))) (.t 125)⟩, ⟨none, some 16, .copy (.t 126)⟩] [] []))) (.reg [⟨none, some 107, .copy (.t 17)⟩, ⟨none, some 108, .bin .add (.t 107) (.c (.lit (.int .i64 1)))⟩, ⟨none, some 17, .copy (.t 108)⟩] [] [])))
def L5_0 : ICode := (.seq (.seq (.reg [⟨none, some 33, .copy (.t 8)⟩, ⟨none, some 34, .copy (.t 0)⟩, ⟨none, some 35, .len (.t 34)⟩, ⟨none, some 36, .copy (.t 1)⟩, ⟨none, some 37, .bin .mul (.t 35) (.t 36)⟩, ⟨none, some 38, .bin .lss (.t 33) (.t 37)⟩] [] []) (.cond (.t 38) .skip (.exit 0))) (.seq (.block 1 (.seq (.reg [⟨none, some 41, .copy (.t 0)⟩, ⟨none, some 42, .copy (.t 8)⟩, ⟨none, some 43, .copy (.t 0)⟩, ⟨none, some 44, .len (.t 43)⟩, ⟨none, some 45, .bin .rem (.t 42) (.t 44)⟩, ⟨none, some 46, .idxS 14 (.t 41) (.t 45)⟩, ⟨none, some 47, .load true 14 (.t 46)⟩, ⟨none, some 9, .alloc [(.lit (.bool false)), (.lit (.int .i64 0)), (.lit (.bool false)), (.lit (.bool false)), (.lit (.int .i64 0)), (.lit (.int .u8 0)), (.lit (.int .u8 0)), (.lit (.int .u8 0)), (.lit (.int .u8 0)), (.lit (.int .u8 0)), (.lit (.int .u8 0)), (.lit (.int .u8 0)), (.lit (.int .u8 0)), (.lit (.int .i64 0))]⟩, ⟨none, none, .store 14 (.t 9) (.t 47)⟩] [] []) (.seq (.seq (.reg [⟨none, some 48, .fieldA 0 (.t 9)⟩, ⟨none, some 49, .load false 1 (.t 48)⟩] [] []) (.cond (.t 49) (.reg [⟨none, some 50, .copy (.t 5)⟩, ⟨none, some 51, .fieldA 1 (.t 9)⟩, ⟨none, some 52, .load true 12 (.t 51)⟩, ⟨none, some 53, .call 21 [(.t 50), (.t 52)]⟩] [] []) .skip)) (.seq (.reg [⟨none, some 54, .copy (.t 5)⟩, ⟨none, some 55, .call 18 [(.t 54)]⟩, ⟨none, some 10, .alloc [(.lit (.int .i64 0)), (.lit (.bool false)), (.lit (.int .i64 0)), (.lit (.int .i64 0)), (.lit (.bool false)), (.lit (.int .i64 0))]⟩, ⟨none, none, .store 6 (.t 10) (.t 55)⟩] [] []) (.seq (.reg [⟨none, some 56, .load true 14 (.t 9)⟩, ⟨none, some 57, .copy (.t 5)⟩, ⟨none, some 58, .call 16 [(.t 57)]⟩, ⟨none, some 59, .call 20 [(.t 56), (.t 58)]⟩, ⟨none, some 11, .copy (.t 59)⟩] [(0, 2)] []) (.seq (.seq (.reg [⟨none, some 60, .fieldA 2 (.t 10)⟩, ⟨none, some 61, .fieldA 2 (.t 60)⟩, ⟨none, some 62, .load false 1 (.t 61)⟩, ⟨none, some 63, .copy (.t 62)⟩, ⟨some (63, true), some 64, .copy (.t 5)⟩, ⟨some (63, true), some 65, .call 16 [(.t 64)]⟩, ⟨some (63, true), some 66, .bin .neq (.t 65) (.c (.lit (.int .i64 1)))⟩, ⟨none, some 67, .pick (.t 63) (.t 66) (.c (.lit (.bool false)))⟩] [] []) (.cond (.t 67) (.seq (.reg [⟨none, some 4, .copy (.c (.lit (.bool false)))⟩] [] []) .ret) .skip)) (.seq (.reg [⟨none, some 69, .copy (.t 5)⟩, ⟨none, some 70, .copy (.t 11)⟩, ⟨none, some 71, .call 17 [(.t 69), (.t 70)]⟩, ⟨none, some 68, .copy (.t 71)⟩, ⟨none, some 72, .extract (.t 68) 0⟩, ⟨none, some 73, .extract (.t 68) 1⟩, ⟨none, some 12, .copy (.t 72)⟩, ⟨none, some 13, .copy (.t 73)⟩] [] []) (.seq (.reg [⟨none, some 74, .copy (.t 5)⟩, ⟨none, some 75, .call 18 [(.t 74)]⟩, ⟨none, some 14, .alloc [(.lit (.int .i64 0)), (.lit (.bool false)), (.lit (.int .i64 0)), (.lit (.int .i64 0)), (.lit (.bool false)), (.lit (.int .i64 0))]⟩, ⟨none, none, .store 6 (.t 14) (.t 75)⟩] [] []) (.seq (.seq (.reg [⟨none, some 76, .copy (.t 13)⟩, ⟨none, some 77, .bin .neq (.t 76) (.c (.lit (.int .i64 0)))⟩, ⟨none, some 78, .copy (.t 77)⟩, ⟨some (78, false), some 79, .fieldA 2 (.t 14)⟩, ⟨some (78, false), some 80, .load true 3 (.t 79)⟩, ⟨some (78, false), some 81, .call 22 [(.t 80)]⟩, ⟨some (78, false), some 82, .bin .neq (.t 81) (.c (.lit (.int .i64 0)))⟩, ⟨none, some 83, .pick (.t 78) (.c (.lit (.bool true))) (.t 82)⟩, ⟨none, some 84, .copy (.t 83)⟩, ⟨some (84, false), some 85, .fieldA 2 (.t 14)⟩, ⟨some (84, false), some 86, .fieldA 2 (.t 85)⟩, ⟨some (84, false), some 87, .load false 1 (.t 86)⟩, ⟨some (84, false), some 88, .fieldA 0 (.t 14)⟩, ⟨some (84, false), some 89, .load false 1 (.t 88)⟩, ⟨some (84, false), some 90, .bin .eql (.t 89) (.c (.lit (.int .i64 10)))⟩, ⟨some (84, false), some 91, .eqB true (.t 87) (.t 90)⟩, ⟨none, some 92, .pick (.t 84) (.c (.lit (.bool true))) (.t 91)⟩, ⟨none, some 93, .copy (.t 92)⟩, ⟨some (93, false), some 94, .fieldA 2 (.t 14)⟩, ⟨some (93, false), some 95, .fieldA 0 (.t 94)⟩, ⟨some (93, false), some 96, .load false 1 (.t 95)⟩, ⟨some (93, false), some 97, .fieldA 2 (.t 10)⟩, ⟨some (93, false), some 98, .fieldA 0 (.t 97)⟩, ⟨some (93, false), some 99, .load false 1 (.t 98)⟩, ⟨some (93, false), some 100, .bin .add (.t 99) (.c (.lit (.int .i64 8)))⟩, ⟨some (93, false), some 101, .bin .gtr (.t 96) (.t 100)⟩, ⟨none, some 102, .pick (.t 93) (.c (.lit (.bool true))) (.t 101)⟩] [] []) (.cond (.t 102) (.seq (.reg [⟨none, some 4, .copy (.c (.lit (.bool false)))⟩] [] []) .ret) .skip)) (.seq (.reg [⟨none, some 15, .copy (.c (.lit (.bool false)))⟩] [] []) (.seq (.reg [⟨none, some 16, .copy (.c (.lit (.bool false)))⟩] [] []) (.seq (.seq (.reg [⟨none, some 17, .copy (.c (.lit (.int .i64 0)))⟩] [] []) (.block 2 (.loop [0, 1, 5, 6, 7, 8, 10, 11, 12, 14, 15, 16, 17] L5_1))) (.seq (.seq (.reg [⟨none, some 127, .copy (.t 16)⟩, ⟨none, some 128, .fieldA 2 (.t 10)⟩, ⟨none, some 129, .fieldA 2 (.t 128)⟩, ⟨none, some 130, .load false 1 (.t 129)⟩, ⟨none, some 131, .un .not (.t 130)⟩, ⟨none, some 132, .copy (.t 131)⟩, ⟨some (132, true), some 133, .fieldA 2 (.t 14)⟩, ⟨some (132, true), some 134, .fieldA 2 (.t 133)⟩, ⟨some (132, true), some 135, .load false 1 (.t 134)⟩, ⟨none, some 136, .pick (.t 132) (.t 135) (.c (.lit (.bool false)))⟩, ⟨none, some 137, .eqB true (.t 127) (.t 136)⟩, ⟨none, some 138, .copy (.t 137)⟩, ⟨some (138, false), some 139, .copy (.t 15)⟩, ⟨some (138, false), some 140, .fieldA 2 (.t 10)⟩, ⟨some (138, false), some 141, .fieldA 2 (.t 140)⟩, ⟨some (138, false), some 142, .load false 1 (.t 141)⟩, ⟨some (138, false), some 143, .copy (.t 142)⟩, ⟨some (143, true), some 144, .fieldA 2 (.t 14)⟩, ⟨some (143, true), some 145, .fieldA 2 (.t 144)⟩, ⟨some (143, true), some 146, .load false 1 (.t 145)⟩, ⟨some (143, true), some 147, .un .not (.t 146)⟩, ⟨some (138, false), some 148, .pick (.t 143) (.t 147) (.c (.lit (.bool false)))⟩, ⟨some (138, false), some 149, .eqB true (.t 139) (.t 148)⟩, ⟨none, some 150, .pick (.t 138) (.c (.lit (.bool true))) (.t 149)⟩] [] []) (.cond (.t 150) (.seq (.reg [⟨none, some 4, .copy (.c (.lit (.bool false)))⟩] [] []) .ret) .skip)) (.seq (.seq (.reg [⟨none, some 151, .fieldA 2 (.t 10)⟩, ⟨none, some 152, .fieldA 2 (.t 151)⟩, ⟨none, some 153, .load false 1 (.t 152)⟩, ⟨none, some 154, .un .not (.t 153)⟩] [] []) (.cond (.t 154) (.seq (.reg [⟨none, some 6, .copy (.c (.lit (.int .i64 0)))⟩] [] []) (.seq (.reg [⟨none, some 7, .copy (.c (.lit (.int .i64 0)))⟩] [] []) (.exit 1))) .skip)) (.seq (.reg [⟨none, some 155, .copy (.t 6)⟩, ⟨none, some 156, .bin .add (.t 155) (.c (.lit (.int .i64 1)))⟩, ⟨none, some 6, .copy (.t 156)⟩] [] []) (.seq (.seq (.reg [⟨none, some 157, .copy (.t 11)⟩, ⟨none, some 158, .bin .eql (.t 157) (.c (.lit (.int .i64 0)))⟩] [] []) (.cond (.t 158) (.reg [⟨none, some 6, .copy (.c (.lit (.int .i64 0)))⟩] [] []) .skip)) (.seq (.seq (.reg [⟨none, some 159, .copy (.t 6)⟩, ⟨none, some 160, .bin .eql (.t 159) (.c (.lit (.int .i64 11)))⟩] [] []) (.cond (.t 160) (.seq (.reg [⟨none, some 6, .copy (.c (.lit (.int .i64 0)))⟩] [] []) (.reg [⟨none, some 161, .copy (.t 7)⟩, ⟨none, some 162, .bin .add (.t 161) (.c (.lit (.int .i64 1)))⟩, ⟨none, some 7, .copy (.t 162)⟩] [] [])) .skip)) (.seq (.reg [⟨none, some 163, .copy (.t 15)⟩, ⟨none, some 164, .copy (.t 7)⟩, ⟨none, some 165, .bin .eql (.t 164) (.c (.lit (.int .i64 128)))⟩, ⟨none, some 166, .eqB true (.t 163) (.t 165)⟩, ⟨none, some 167, .copy (.t 166)⟩, ⟨some (167, false), some 168, .copy (.t 15)⟩, ⟨some (167, false), some 169, .copy (.t 168)⟩, ⟨some (169, true), some 170, .fieldA 2 (.t 14)⟩, ⟨some (169, true), some 171, .load true 3 (.t 170)⟩, ⟨some (169, true), some 172, .build [(.lit (.int .i64 0)), (.lit (.int .i64 0)), (.lit (.bool false))] []⟩, ⟨some (169, true), some 173, .eqA true [(0, .i), (1, .i), (2, .b)] (.t 171) (.t 172)⟩, ⟨some (167, false), some 174, .pick (.t 169) (.t 173) (.c (.lit (.bool false)))⟩, ⟨none, some 175, .pick (.t 167) (.c (.lit (.bool true))) (.t 174)⟩, ⟨none, some 176, .copy (.t 175)⟩, ⟨some (176, false), some 177, .copy (.t 15)⟩, ⟨some (176, false), some 178, .un .not (.t 177)⟩, ⟨some (176, false), some 179, .copy (.t 178)⟩, ⟨some (179, true), some 180, .fieldA 2 (.t 14)⟩, ⟨some (179, true), some 181, .load true 3 (.t 180)⟩, ⟨some (179, true), some 182, .fieldA 2 (.t 10)⟩, ⟨some (179, true), some 183, .load true 3 (.t 182)⟩, ⟨some (179, true), some 184, .eqA true [(0, .i), (1, .i), (2, .b)] (.t 181) (.t 183)⟩, ⟨some (176, false), some 185, .pick (.t 179) (.t 184) (.c (.lit (.bool false)))⟩, ⟨none, some 186, .pick (.t 176) (.c (.lit (.bool true))) (.t 185)⟩] [] []) (.cond (.t 186) (.seq (.reg [⟨none, some 4, .copy (.c (.lit (.bool false)))⟩] [] []) .ret) .skip))))))))))))))))))) (.reg [⟨none, some 39, .copy (.t 8)⟩, ⟨none, some 40, .bin .add (.t 39) (.c (.lit (.int .i64 1)))⟩, ⟨none, some 8, .copy (.t 40)⟩] [] [])))
def ir5 : IFn := ⟨(.seq (.reg [⟨none, some 4, .copy (.c (.lit (.bool false)))⟩] [] []) (.seq (.seq (.reg [⟨none, some 18, .copy (.t 0)⟩, ⟨none, some 19, .len (.t 18)⟩, ⟨none, some 20, .bin .gtr (.t 19) (.c (.lit (.int .i64 300)))⟩, ⟨none, some 21, .copy (.t 20)⟩, ⟨some (21, false), some 22, .copy (.t 1)⟩, ⟨some (21, false), some 23, .bin .lss (.t 22) (.c (.lit (.int .i64 0)))⟩, ⟨none, some 24, .pick (.t 21) (.c (.lit (.bool true))) (.t 23)⟩, ⟨none, some 25, .copy (.t 24)⟩, ⟨some (25, false), some 26, .copy (.t 1)⟩, ⟨some (25, false), some 27, .bin .gtr (.t 26) (.c (.lit (.int .i64 12)))⟩, ⟨none, some 28, .pick (.t 25) (.c (.lit (.bool true))) (.t 27)⟩] [] []) (.cond (.t 28) (.seq (.reg [⟨none, some 29, .call 12 []⟩, ⟨none, some 4, .copy (.t 29)⟩] [] []) .ret) .skip)) (.seq (.reg [⟨none, some 30, .call 19 []⟩, ⟨none, some 5, .copy (.t 30)⟩] [] []) (.seq (.seq (.reg [⟨none, some 31, .copy (.t 5)⟩, ⟨none, some 32, .isNil false .ptr (.t 31)⟩] [] []) (.cond (.t 32) (.seq (.reg [⟨none, some 4, .copy (.c (.lit (.bool false)))⟩] [] []) .ret) .skip)) (.seq (.reg [⟨none, some 6, .copy (.c (.lit (.int .i64 0)))⟩] [] []) (.seq (.reg [⟨none, some 7, .copy (.c (.lit (.int .i64 0)))⟩] [] []) (.seq (.seq (.reg [⟨none, some 8, .copy (.c (.lit (.int .i64 0)))⟩] [] []) (.block 0 (.loop [0, 1, 5, 6, 7, 8] L5_0))) (.seq (.reg [⟨none, some 187, .call 12 []⟩, ⟨none, some 4, .copy (.t 187)⟩] [] []) .ret)))))))), [.tmp 4]⟩
/- magnetolaw10.CtlAcks -/
def L6_1 : ICode := (.seq (.seq (.reg [⟨none, some 59, .copy (.t 9)⟩, ⟨none, some 60, .copy (.t 5)⟩, ⟨none, some 61, .len (.t 60)⟩, ⟨none, some 62, .bin .sub (.t 61) (.c (.lit (.int .i64 9)))⟩, ⟨none, some 63, .bin .leq (.t 59) (.t 62)⟩] [] []) (.cond (.t 63) .skip (.exit 2))) (.seq (.block 3 (.seq (.seq (.reg [⟨none, some 66, .copy (.t 7)⟩, ⟨none, some 67, .call 16 [(.t 66)]⟩, ⟨none, some 68, .copy (.t 5)⟩, ⟨none, some 69, .copy (.t 9)⟩, ⟨none, some 70, .idxS 1 (.t 68) (.t 69)⟩, ⟨none, some 71, .load false 1 (.t 70)⟩, ⟨none, some 72, .bin .neq (.t 67) (.t 71)⟩] [(5, 1)] []) (.cond (.t 72) (.seq (.reg [⟨none, some 4, .copy (.c (.lit (.bool false)))⟩] [] []) .ret) .skip)) (.seq (.reg [⟨none, some 74, .copy (.t 7)⟩, ⟨none, some 75, .copy (.t 5)⟩, ⟨none, some 76, .copy (.t 9)⟩, ⟨none, some 77, .idxS 1 (.t 75) (.t 76)⟩, ⟨none, some 78, .load false 1 (.t 77)⟩, ⟨none, some 79, .call 17 [(.t 74), (.t 78)]⟩, ⟨none, some 73, .copy (.t 79)⟩, ⟨none, some 80, .extract (.t 73) 0⟩, ⟨none, some 81, .extract (.t 73) 1⟩, ⟨none, some 10, .copy (.t 80)⟩, ⟨none, some 11, .copy (.t 81)⟩] [] []) (.seq (.reg [⟨none, some 82, .copy (.t 11)⟩, ⟨none, some 83, .bin .neq (.t 82) (.c (.lit (.int .i64 0)))⟩, ⟨none, some 84, .copy (.t 83)⟩, ⟨some (84, false), some 85, .copy (.t 10)⟩, ⟨some (84, false), some 86, .len (.t 85)⟩, ⟨some (84, false), some 87, .bin .eql (.t 86) (.c (.lit (.int .i64 1)))⟩, ⟨some (84, false), some 88, .copy (.t 9)⟩, ⟨some (84, false), some 89, .copy (.t 5)⟩, ⟨some (84, false), some 90, .len (.t 89)⟩, ⟨some (84, false), some 91, .bin .sub (.t 90) (.c (.lit (.int .i64 9)))⟩, ⟨some (84, false), some 92, .bin .eql (.t 88) (.t 91)⟩, ⟨some (84, false), some 93, .eqB true (.t 87) (.t 92)⟩, ⟨none, some 94, .pick (.t 84) (.c (.lit (.bool true))) (.t 93)⟩, ⟨none, some 95, .copy (.t 94)⟩, ⟨some (95, false), some 96, .copy (.t 10)⟩, ⟨some (95, false), some 97, .len (.t 96)⟩, ⟨some (95, false), some 98, .bin .gtr (.t 97) (.c (.lit (.int .i64 0)))⟩, ⟨some (95, false), some 99, .copy (.t 98)⟩, ⟨some (99, true), some 100, .copy (.t 10)⟩, ⟨some (99, true), some 101, .idxS 15 (.t 100) (.c (.lit (.int .i64 0)))⟩, ⟨some (99, true), some 102, .fieldA 2 (.t 101)⟩, ⟨some (99, true), some 103, .load false 1 (.t 102)⟩, ⟨some (99, true), some 104, .bin .neq (.t 103) (.c (.lit (.int .i64 8)))⟩, ⟨some (95, false), some 105, .pick (.t 99) (.t 104) (.c (.lit (.bool false)))⟩, ⟨none, some 106, .pick (.t 95) (.c (.lit (.bool true))) (.t 105)⟩] [] []) (.cond (.t 106) (.seq (.reg [⟨none, some 4, .copy (.c (.lit (.bool false)))⟩] [] []) .ret) .skip))))) (.reg [⟨none, some 64, .copy (.t 9)⟩, ⟨none, some 65, .bin .add (.t 64) (.c (.lit (.int .i64 1)))⟩, ⟨none, some 9, .copy (.t 65)⟩] [] [])))
def L6_2 : ICode := (.seq (.seq (.reg [⟨none, some 122, .copy (.t 15)⟩, ⟨none, some 123, .copy (.t 14)⟩, ⟨none, some 124, .bin .add (.c (.lit (.int .i64 6))) (.t 123)⟩, ⟨none, some 125, .bin .lss (.t 122) (.t 124)⟩] [] []) (.cond (.t 125) .skip (.exit 4))) (.seq (.block 5 (.seq (.reg [⟨none, some 16, .copy (.c (.lit (.int .i64 1)))⟩] [] []) (.seq (.seq (.reg [⟨none, some 128, .copy (.t 15)⟩, ⟨none, some 129, .bin .lss (.t 128) (.c (.lit (.int .i64 6)))⟩, ⟨none, some 130, .copy (.t 129)⟩, ⟨some (130, true), some 131, .copy (.t 13)⟩, ⟨some (130, true), some 132, .bin .eql (.t 131) (.c (.lit (.int .i64 3)))⟩, ⟨none, some 133, .pick (.t 130) (.t 132) (.c (.lit (.bool false)))⟩] [] []) (.cond (.t 133) (.reg [⟨none, some 16, .copy (.c (.lit (.int .i64 0)))⟩] [] []) .skip)) (.seq (.seq (.reg [⟨none, some 134, .copy (.t 7)⟩, ⟨none, some 135, .call 16 [(.t 134)]⟩, ⟨none, some 136, .copy (.t 16)⟩, ⟨none, some 137, .bin .neq (.t 135) (.t 136)⟩] [] []) (.cond (.t 137) (.seq (.reg [⟨none, some 4, .copy (.c (.lit (.bool false)))⟩] [] []) .ret) .skip)) (.seq (.reg [⟨none, some 139, .copy (.t 7)⟩, ⟨none, some 140, .copy (.t 16)⟩, ⟨none, some 141, .call 17 [(.t 139), (.t 140)]⟩, ⟨none, some 138, .copy (.t 141)⟩, ⟨none, some 142, .extract (.t 138) 0⟩, ⟨none, some 143, .extract (.t 138) 1⟩, ⟨none, some 17, .copy (.t 142)⟩, ⟨none, some 18, .copy (.t 143)⟩] [] []) (.seq (.reg [⟨none, some 144, .copy (.t 18)⟩, ⟨none, some 145, .bin .neq (.t 144) (.c (.lit (.int .i64 0)))⟩, ⟨none, some 146, .copy (.t 145)⟩, ⟨some (146, false), some 147, .copy (.t 17)⟩, ⟨some (146, false), some 148, .len (.t 147)⟩, ⟨some (146, false), some 149, .bin .neq (.t 148) (.c (.lit (.int .i64 0)))⟩, ⟨none, some 150, .pick (.t 146) (.c (.lit (.bool true))) (.t 149)⟩] [] []) (.cond (.t 150) (.seq (.reg [⟨none, some 4, .copy (.c (.lit (.bool false)))⟩] [] []) .ret) .skip))))))) (.reg [⟨none, some 126, .copy (.t 15)⟩, ⟨none, some 127, .bin .add (.t 126) (.c (.lit (.int .i64 1)))⟩, ⟨none, some 15, .copy (.t 127)⟩] [] [])))
def L6_0 : ICode := (.seq (.seq (.reg [⟨none, some 54, .copy (.t 8)⟩, ⟨none, some 55, .copy (.t 1)⟩, ⟨none, some 56, .bin .leq (.t 54) (.t 55)⟩] [] []) (.cond (.t 56) .skip (.exit 0))) (.seq (.block 1 (.seq (.seq (.reg [⟨none, some 9, .copy (.c (.lit (.int .i64 0)))⟩] [] []) (.block 2 (.loop [1, 5, 7, 8, 9] L6_1))) (.seq (.reg [⟨none, some 107, .copy (.t 8)⟩, ⟨none, some 108, .bin .mul (.c (.lit (.int .i64 8))) (.t 107)⟩, ⟨none, some 12, .copy (.t 108)⟩] [] []) (.seq (.reg [⟨none, some 13, .copy (.c (.lit (.int .i64 3)))⟩] [] []) (.seq (.reg [⟨none, some 14, .copy (.c (.lit (.int .i64 11)))⟩] [] []) (.seq (.seq (.reg [⟨none, some 109, .copy (.t 8)⟩, ⟨none, some 110, .bin .geq (.t 109) (.c (.lit (.int .i64 16)))⟩] [] []) (.cond (.t 110) (.seq (.reg [⟨none, some 12, .copy (.c (.lit (.int .i64 128)))⟩] [] []) (.reg [⟨none, some 111, .copy (.t 14)⟩, ⟨none, some 112, .bin .add (.t 111) (.c (.lit (.int .i64 8)))⟩, ⟨none, some 14, .copy (.t 112)⟩] [] [])) .skip)) (.seq (.seq (.reg [⟨none, some 113, .copy (.t 8)⟩, ⟨none, some 114, .bin .gtr (.t 113) (.c (.lit (.int .i64 16)))⟩] [] []) (.cond (.t 114) (.reg [⟨none, some 13, .copy (.c (.lit (.int .i64 4)))⟩] [] []) .skip)) (.seq (.seq (.reg [⟨none, some 115, .copy (.t 7)⟩, ⟨none, some 116, .call 18 [(.t 115)]⟩, ⟨none, some 117, .copy (.t 13)⟩, ⟨none, some 118, .copy (.t 12)⟩, ⟨none, some 119, .build [(.lit (.int .i64 0)), (.lit (.int .i64 0)), (.lit (.bool false))] [(0, 1, (.t 118))]⟩, ⟨none, some 120, .build [(.lit (.int .i64 0)), (.lit (.bool false)), (.lit (.int .i64 0)), (.lit (.int .i64 0)), (.lit (.bool false)), (.lit (.int .i64 0))] [(0, 1, (.t 117)), (1, 1, (.c (.lit (.bool true)))), (2, 3, (.t 119)), (5, 1, (.c (.lit (.int .i64 1))))]⟩, ⟨none, some 121, .eqA true [(0, .i), (1, .b), (2, .i), (3, .i), (4, .b), (5, .i)] (.t 116) (.t 120)⟩] [] []) (.cond (.t 121) (.seq (.reg [⟨none, some 4, .copy (.c (.lit (.bool false)))⟩] [] []) .ret) .skip)) (.seq (.seq (.reg [⟨none, some 15, .copy (.c (.lit (.int .i64 0)))⟩] [] []) (.block 4 (.loop [1, 5, 7, 8, 13, 14, 15] L6_2))) (.seq (.reg [⟨none, some 151, .copy (.t 7)⟩, ⟨none, some 152, .call 18 [(.t 151)]⟩, ⟨none, some 153, .fieldV false 1 0 (.t 152)⟩, ⟨none, some 154, .bin .neq (.t 153) (.c (.lit (.int .i64 1)))⟩, ⟨none, some 155, .copy (.t 154)⟩, ⟨some (155, false), some 156, .copy (.t 7)⟩, ⟨some (155, false), some 157, .call 16 [(.t 156)]⟩, ⟨some (155, false), some 158, .bin .neq (.t 157) (.c (.lit (.int .i64 0)))⟩, ⟨none, some 159, .pick (.t 155) (.c (.lit (.bool true))) (.t 158)⟩] [] []) (.cond (.t 159) (.seq (.reg [⟨none, some 4, .copy (.c (.lit (.bool false)))⟩] [] []) .ret) .skip))))))))))) (.reg [⟨none, some 57, .copy (.t 8)⟩, ⟨none, some 58, .bin .add (.t 57) (.c (.lit (.int .i64 1)))⟩, ⟨none, some 8, .copy (.t 58)⟩] [] [])))
def ir6 : IFn := ⟨(.seq (.reg [⟨none, some 2, .box 12 (.t 0)⟩, ⟨none, some 4, .copy (.c (.lit (.bool false)))⟩] [] []) (.seq (.reg [⟨none, some 20, .load true 12 (.t 2)⟩, ⟨none, some 21, .call 14 [(.t 20), (.c (.lit (.bool false)))]⟩, ⟨none, some 19, .copy (.t 21)⟩, ⟨none, some 22, .extract (.t 19) 0⟩, ⟨none, some 23, .extract (.t 19) 1⟩, ⟨none, some 5, .copy (.t 22)⟩, ⟨none, some 6, .copy (.t 23)⟩] [] []) (.seq (.seq (.reg [⟨none, some 24, .copy (.t 6)⟩, ⟨none, some 25, .bin .neq (.t 24) (.c (.lit (.int .i64 0)))⟩, ⟨none, some 26, .copy (.t 25)⟩, ⟨some (26, false), some 27, .copy (.t 1)⟩, ⟨some (26, false), some 28, .bin .lss (.t 27) (.c (.lit (.int .i64 0)))⟩, ⟨none, some 29, .pick (.t 26) (.c (.lit (.bool true))) (.t 28)⟩, ⟨none, some 30, .copy (.t 29)⟩, ⟨some (30, false), some 31, .copy (.t 1)⟩, ⟨some (30, false), some 32, .bin .gtr (.t 31) (.c (.lit (.int .i64 40)))⟩, ⟨none, some 33, .pick (.t 30) (.c (.lit (.bool true))) (.t 32)⟩, ⟨none, some 34, .copy (.t 33)⟩, ⟨some (34, false), some 35, .copy (.t 5)⟩, ⟨some (34, false), some 36, .len (.t 35)⟩, ⟨some (34, false), some 37, .bin .lss (.t 36) (.c (.lit (.int .i64 44)))⟩, ⟨none, some 38, .pick (.t 34) (.c (.lit (.bool true))) (.t 37)⟩] [] []) (.cond (.t 38) (.seq (.reg [⟨none, some 39, .copy (.t 6)⟩, ⟨none, some 40, .bin .eql (.t 39) (.c (.lit (.int .i64 0)))⟩, ⟨none, some 41, .copy (.t 40)⟩, ⟨some (41, false), some 42, .copy (.t 5)⟩, ⟨some (41, false), some 43, .len (.t 42)⟩, ⟨some (41, false), some 44, .bin .eql (.t 43) (.c (.lit (.int .i64 0)))⟩, ⟨none, some 45, .pick (.t 41) (.c (.lit (.bool true))) (.t 44)⟩, ⟨none, some 46, .copy (.t 45)⟩, ⟨some (46, true), some 47, .call 12 []⟩, ⟨none, some 48, .pick (.t 46) (.t 47) (.c (.lit (.bool false)))⟩, ⟨none, some 4, .copy (.t 48)⟩] [] []) .ret) .skip)) (.seq (.reg [⟨none, some 49, .load true 12 (.t 2)⟩, ⟨none, some 50, .mkSlice true 12 [(.lit (.int .i64 0)), (.lit (.bool false)), (.lit (.bool false)), (.lit (.int .i64 0)), (.lit (.int .u8 0)), (.lit (.int .u8 0)), (.lit (.int .u8 0)), (.lit (.int .u8 0)), (.lit (.int .u8 0)), (.lit (.int .u8 0)), (.lit (.int .u8 0)), (.lit (.int .u8 0))] 1 [(0, (.t 49))]⟩, ⟨none, some 51, .call 13 [(.t 50)]⟩, ⟨none, some 7, .copy (.t 51)⟩] [] []) (.seq (.seq (.reg [⟨none, some 52, .copy (.t 7)⟩, ⟨none, some 53, .isNil false .ptr (.t 52)⟩] [] []) (.cond (.t 53) (.seq (.reg [⟨none, some 4, .copy (.c (.lit (.bool false)))⟩] [] []) .ret) .skip)) (.seq (.seq (.reg [⟨none, some 8, .copy (.c (.lit (.int .i64 1)))⟩] [] []) (.block 0 (.loop [1, 5, 7, 8] L6_0))) (.seq (.reg [⟨none, some 160, .copy (.t 7)⟩, ⟨none, some 161, .call 18 [(.t 160)]⟩, ⟨none, some 162, .fieldV false 1 5 (.t 161)⟩, ⟨none, some 163, .bin .eql (.t 162) (.c (.lit (.int .i64 1)))⟩, ⟨none, some 164, .copy (.t 163)⟩, ⟨some (164, true), some 165, .call 12 []⟩, ⟨none, some 166, .pick (.t 164) (.t 165) (.c (.lit (.bool false)))⟩, ⟨none, some 4, .copy (.t 166)⟩] [] []) .ret))))))), [.tmp 4]⟩
/- magnetolaw10.CtlOverloads -/
def L7_0 : ICode := (.seq (.seq (.reg [⟨none, some 57, .copy (.t 10)⟩, ⟨none, some 58, .copy (.t 7)⟩, ⟨none, some 59, .len (.t 58)⟩, ⟨none, some 60, .bin .lss (.t 57) (.t 59)⟩] [] []) (.cond (.t 60) .skip (.exit 0))) (.seq (.block 1 (.reg [⟨none, some 63, .copy (.t 9)⟩, ⟨none, some 64, .copy (.t 7)⟩, ⟨none, some 65, .copy (.t 10)⟩, ⟨none, some 66, .idxS 1 (.t 64) (.t 65)⟩, ⟨none, some 67, .load false 1 (.t 66)⟩, ⟨none, some 68, .call 17 [(.t 63), (.t 67)]⟩] [] [])) (.reg [⟨none, some 61, .copy (.t 10)⟩, ⟨none, some 62, .bin .add (.t 61) (.c (.lit (.int .i64 1)))⟩, ⟨none, some 10, .copy (.t 62)⟩] [] [])))
def L7_1 : ICode := (.seq (.seq (.reg [⟨none, some 69, .copy (.t 11)⟩, ⟨none, some 70, .copy (.t 1)⟩, ⟨none, some 71, .bin .lss (.t 69) (.t 70)⟩] [] []) (.cond (.t 71) .skip (.exit 2))) (.seq (.block 3 (.reg [⟨none, some 74, .copy (.t 9)⟩, ⟨none, some 75, .call 17 [(.t 74), (.c (.lit (.int .i64 1)))]⟩] [] [])) (.reg [⟨none, some 72, .copy (.t 11)⟩, ⟨none, some 73, .bin .add (.t 72) (.c (.lit (.int .i64 1)))⟩, ⟨none, some 11, .copy (.t 73)⟩] [] [])))
def L7_2 : ICode := (.seq (.seq (.reg [⟨none, some 112, .copy (.t 14)⟩, ⟨none, some 113, .copy (.t 2)⟩, ⟨none, some 114, .bin .add (.c (.lit (.int .i64 6))) (.t 113)⟩, ⟨none, some 115, .bin .lss (.t 112) (.t 114)⟩] [] []) (.cond (.t 115) .skip (.exit 4))) (.seq (.block 5 (.seq (.seq (.reg [⟨none, some 118, .copy (.t 9)⟩, ⟨none, some 119, .call 16 [(.t 118)]⟩, ⟨none, some 120, .bin .eql (.t 119) (.c (.lit (.int .i64 0)))⟩, ⟨none, some 121, .copy (.t 14)⟩, ⟨none, some 122, .bin .lss (.t 121) (.c (.lit (.int .i64 6)))⟩, ⟨none, some 123, .eqB true (.t 120) (.t 122)⟩] [] []) (.cond (.t 123) (.seq (.reg [⟨none, some 6, .copy (.c (.lit (.bool false)))⟩] [] []) .ret) .skip)) (.seq (.reg [⟨none, some 125, .copy (.t 9)⟩, ⟨none, some 126, .call 17 [(.t 125), (.c (.lit (.int .i64 0)))]⟩, ⟨none, some 124, .copy (.t 126)⟩, ⟨none, some 127, .extract (.t 124) 0⟩, ⟨none, some 128, .extract (.t 124) 1⟩, ⟨none, some 15, .copy (.t 127)⟩, ⟨none, some 16, .copy (.t 128)⟩] [] []) (.seq (.reg [⟨none, some 129, .copy (.t 16)⟩, ⟨none, some 130, .bin .neq (.t 129) (.c (.lit (.int .i64 0)))⟩, ⟨none, some 131, .copy (.t 130)⟩, ⟨some (131, false), some 132, .copy (.t 15)⟩, ⟨some (131, false), some 133, .len (.t 132)⟩, ⟨some (131, false), some 134, .bin .neq (.t 133) (.c (.lit (.int .i64 0)))⟩, ⟨none, some 135, .pick (.t 131) (.c (.lit (.bool true))) (.t 134)⟩] [] []) (.cond (.t 135) (.seq (.reg [⟨none, some 6, .copy (.c (.lit (.bool false)))⟩] [] []) .ret) .skip))))) (.reg [⟨none, some 116, .copy (.t 14)⟩, ⟨none, some 117, .bin .add (.t 116) (.c (.lit (.int .i64 1)))⟩, ⟨none, some 14, .copy (.t 117)⟩] [] [])))
def L7_3 : ICode := (.seq (.seq (.reg [⟨none, some 136, .copy (.t 17)⟩, ⟨none, some 137, .bin .lss (.t 136) (.c (.lit (.int .i64 11)))⟩] [] []) (.cond (.t 137) .skip (.exit 6))) (.seq (.block 7 (.seq (.reg [⟨none, some 141, .copy (.t 9)⟩, ⟨none, some 142, .call 17 [(.t 141), (.c (.lit (.int .i64 1)))]⟩, ⟨none, some 140, .copy (.t 142)⟩, ⟨none, some 143, .extract (.t 140) 0⟩, ⟨none, some 144, .extract (.t 140) 1⟩, ⟨none, some 18, .copy (.t 143)⟩, ⟨none, some 19, .copy (.t 144)⟩] [] []) (.seq (.seq (.reg [⟨none, some 145, .copy (.t 19)⟩, ⟨none, some 146, .bin .neq (.t 145) (.c (.lit (.int .i64 0)))⟩, ⟨none, some 147, .copy (.t 146)⟩, ⟨some (147, false), some 148, .copy (.t 18)⟩, ⟨some (147, false), some 149, .len (.t 148)⟩, ⟨some (147, false), some 150, .bin .neq (.t 149) (.c (.lit (.int .i64 0)))⟩, ⟨none, some 151, .pick (.t 147) (.c (.lit (.bool true))) (.t 150)⟩, ⟨none, some 152, .copy (.t 151)⟩, ⟨some (152, false), some 153, .copy (.t 9)⟩, ⟨some (152, false), some 154, .call 16 [(.t 153)]⟩, ⟨some (152, false), some 155, .bin .neq (.t 154) (.c (.lit (.int .i64 1)))⟩, ⟨none, some 156, .pick (.t 152) (.c (.lit (.bool true))) (.t 155)⟩] [] []) (.cond (.t 156) (.seq (.reg [⟨none, some 6, .copy (.c (.lit (.bool false)))⟩] [] []) .ret) .skip)) (.seq (.reg [⟨none, some 157, .copy (.t 9)⟩, ⟨none, some 158, .call 18 [(.t 157)]⟩, ⟨none, some 159, .fieldV false 1 0 (.t 158)⟩, ⟨none, some 160, .bin .eql (.t 159) (.c (.lit (.int .i64 8)))⟩, ⟨none, some 161, .copy (.t 17)⟩, ⟨none, some 162, .bin .geq (.t 161) (.c (.lit (.int .i64 7)))⟩, ⟨none, some 163, .copy (.t 162)⟩, ⟨some (163, true), some 164, .copy (.t 17)⟩, ⟨some (163, true), some 165, .bin .lss (.t 164) (.c (.lit (.int .i64 10)))⟩, ⟨none, some 166, .pick (.t 163) (.t 165) (.c (.lit (.bool false)))⟩, ⟨none, some 167, .eqB true (.t 160) (.t 166)⟩] [] []) (.cond (.t 167) (.seq (.reg [⟨none, some 6, .copy (.c (.lit (.bool false)))⟩] [] []) .ret) .skip))))) (.reg [⟨none, some 138, .copy (.t 17)⟩, ⟨none, some 139, .bin .add (.t 138) (.c (.lit (.int .i64 1)))⟩, ⟨none, some 17, .copy (.t 139)⟩] [] [])))
def ir7 : IFn := ⟨(.seq (.reg [⟨none, some 3, .box 12 (.t 0)⟩, ⟨none, some 6, .copy (.c (.lit (.bool false)))⟩] [] []) (.seq (.reg [⟨none, some 22, .load true 12 (.t 3)⟩, ⟨none, some 23, .call 14 [(.t 22), (.c (.lit (.bool true)))]⟩, ⟨none, some 21, .copy (.t 23)⟩, ⟨none, some 24, .extract (.t 21) 0⟩, ⟨none, some 25, .extract (.t 21) 1⟩, ⟨none, some 7, .copy (.t 24)⟩, ⟨none, some 8, .copy (.t 25)⟩] [] []) (.seq (.seq (.reg [⟨none, some 26, .copy (.t 8)⟩, ⟨none, some 27, .bin .neq (.t 26) (.c (.lit (.int .i64 0)))⟩, ⟨none, some 28, .copy (.t 27)⟩, ⟨some (28, false), some 29, .copy (.t 1)⟩, ⟨some (28, false), some 30, .bin .lss (.t 29) (.c (.lit (.int .i64 0)))⟩, ⟨none, some 31, .pick (.t 28) (.c (.lit (.bool true))) (.t 30)⟩, ⟨none, some 32, .copy (.t 31)⟩, ⟨some (32, false), some 33, .copy (.t 1)⟩, ⟨some (32, false), some 34, .bin .gtr (.t 33) (.c (.lit (.int .i64 2)))⟩, ⟨none, some 35, .pick (.t 32) (.c (.lit (.bool true))) (.t 34)⟩, ⟨none, some 36, .copy (.t 35)⟩, ⟨some (36, false), some 37, .copy (.t 2)⟩, ⟨some (36, false), some 38, .bin .lss (.t 37) (.c (.lit (.int .i64 0)))⟩, ⟨none, some 39, .pick (.t 36) (.c (.lit (.bool true))) (.t 38)⟩, ⟨none, some 40, .copy (.t 39)⟩, ⟨some (40, false), some 41, .copy (.t 2)⟩, ⟨some (40, false), some 42, .bin .gtr (.t 41) (.c (.lit (.int .i64 7)))⟩, ⟨none, some 43, .pick (.t 40) (.c (.lit (.bool true))) (.t 42)⟩] [] []) (.cond (.t 43) (.seq (.reg [⟨none, some 44, .copy (.t 8)⟩, ⟨none, some 45, .bin .eql (.t 44) (.c (.lit (.int .i64 0)))⟩, ⟨none, some 46, .copy (.t 45)⟩, ⟨some (46, false), some 47, .copy (.t 7)⟩, ⟨some (46, false), some 48, .len (.t 47)⟩, ⟨some (46, false), some 49, .bin .eql (.t 48) (.c (.lit (.int .i64 0)))⟩, ⟨none, some 50, .pick (.t 46) (.c (.lit (.bool true))) (.t 49)⟩, ⟨none, some 51, .copy (.t 50)⟩, ⟨some (51, true), some 52, .call 12 []⟩, ⟨none, some 53, .pick (.t 51) (.t 52) (.c (.lit (.bool false)))⟩, ⟨none, some 6, .copy (.t 53)⟩] [] []) .ret) .skip)) (.seq (.reg [⟨none, some 54, .call 13 [(.c nilS)]⟩, ⟨none, some 9, .copy (.t 54)⟩] [] []) (.seq (.seq (.reg [⟨none, some 55, .copy (.t 9)⟩, ⟨none, some 56, .isNil false .ptr (.t 55)⟩] [] []) (.cond (.t 56) (.seq (.reg [⟨none, some 6, .copy (.c (.lit (.bool false)))⟩] [] []) .ret) .skip)) (.seq (.seq (.reg [⟨none, some 10, .copy (.c (.lit (.int .i64 0)))⟩] [] []) (.block 0 (.loop [1, 2, 7, 9, 10] L7_0))) (.seq (.seq (.reg [⟨none, some 11, .copy (.c (.lit (.int .i64 0)))⟩] [] []) (.block 2 (.loop [1, 2, 9, 11] L7_1))) (.seq (.reg [⟨none, some 77, .copy (.t 9)⟩, ⟨none, some 78, .call 17 [(.t 77), (.c (.lit (.int .i64 0)))]⟩, ⟨none, some 76, .copy (.t 78)⟩, ⟨none, some 79, .extract (.t 76) 0⟩, ⟨none, some 80, .extract (.t 76) 1⟩, ⟨none, some 12, .copy (.t 79)⟩, ⟨none, some 13, .copy (.t 80)⟩] [] []) (.seq (.seq (.reg [⟨none, some 81, .copy (.t 13)⟩, ⟨none, some 82, .bin .neq (.t 81) (.c (.lit (.int .i64 0)))⟩] [] []) (.cond (.t 82) (.seq (.reg [⟨none, some 6, .copy (.c (.lit (.bool false)))⟩] [] []) .ret) .skip)) (.seq (.seq (.reg [⟨none, some 83, .copy (.t 1)⟩, ⟨none, some 84, .bin .eql (.t 83) (.c (.lit (.int .i64 2)))⟩] [] []) (.cond (.t 84) (.seq (.reg [⟨none, some 85, .copy (.t 12)⟩, ⟨none, some 86, .len (.t 85)⟩, ⟨none, some 87, .bin .eql (.t 86) (.c (.lit (.int .i64 0)))⟩, ⟨none, some 88, .copy (.t 87)⟩, ⟨some (88, true), some 89, .copy (.t 9)⟩, ⟨some (88, true), some 90, .call 18 [(.t 89)]⟩, ⟨some (88, true), some 91, .fieldV false 1 0 (.t 90)⟩, ⟨some (88, true), some 92, .bin .eql (.t 91) (.c (.lit (.int .i64 2)))⟩, ⟨none, some 93, .pick (.t 88) (.t 92) (.c (.lit (.bool false)))⟩, ⟨none, some 94, .copy (.t 93)⟩, ⟨some (94, true), some 95, .copy (.t 9)⟩, ⟨some (94, true), some 96, .call 16 [(.t 95)]⟩, ⟨some (94, true), some 97, .bin .eql (.t 96) (.c (.lit (.int .i64 1)))⟩, ⟨none, some 98, .pick (.t 94) (.t 97) (.c (.lit (.bool false)))⟩, ⟨none, some 99, .copy (.t 98)⟩, ⟨some (99, true), some 100, .call 12 []⟩, ⟨none, some 101, .pick (.t 99) (.t 100) (.c (.lit (.bool false)))⟩, ⟨none, some 6, .copy (.t 101)⟩] [] []) .ret) .skip)) (.seq (.seq (.reg [⟨none, some 102, .copy (.t 12)⟩, ⟨none, some 103, .len (.t 102)⟩, ⟨none, some 104, .bin .neq (.t 103) (.c (.lit (.int .i64 1)))⟩, ⟨none, some 105, .copy (.t 104)⟩, ⟨some (105, false), some 106, .copy (.t 12)⟩, ⟨some (105, false), some 107, .idxS 15 (.t 106) (.c (.lit (.int .i64 0)))⟩, ⟨some (105, false), some 108, .fieldA 2 (.t 107)⟩, ⟨some (105, false), some 109, .load false 1 (.t 108)⟩, ⟨some (105, false), some 110, .bin .neq (.t 109) (.c (.lit (.int .i64 9)))⟩, ⟨none, some 111, .pick (.t 105) (.c (.lit (.bool true))) (.t 110)⟩] [] []) (.cond (.t 111) (.seq (.reg [⟨none, some 6, .copy (.c (.lit (.bool false)))⟩] [] []) .ret) .skip)) (.seq (.seq (.reg [⟨none, some 14, .copy (.c (.lit (.int .i64 0)))⟩] [] []) (.block 4 (.loop [2, 9, 14] L7_2))) (.seq (.seq (.reg [⟨none, some 17, .copy (.c (.lit (.int .i64 0)))⟩] [] []) (.block 6 (.loop [9, 17] L7_3))) (.seq (.reg [⟨none, some 168, .copy (.t 9)⟩, ⟨none, some 169, .call 18 [(.t 168)]⟩, ⟨none, some 20, .alloc [(.lit (.int .i64 0)), (.lit (.bool false)), (.lit (.int .i64 0)), (.lit (.int .i64 0)), (.lit (.bool false)), (.lit (.int .i64 0))]⟩, ⟨none, none, .store 6 (.t 20) (.t 169)⟩] [] []) (.seq (.reg [⟨none, some 170, .fieldA 0 (.t 20)⟩, ⟨none, some 171, .load false 1 (.t 170)⟩, ⟨none, some 172, .bin .eql (.t 171) (.c (.lit (.int .i64 1)))⟩, ⟨none, some 173, .copy (.t 172)⟩, ⟨some (173, true), some 174, .fieldA 2 (.t 20)⟩, ⟨some (173, true), some 175, .load true 3 (.t 174)⟩, ⟨some (173, true), some 176, .build [(.lit (.int .i64 0)), (.lit (.int .i64 0)), (.lit (.bool false))] []⟩, ⟨some (173, true), some 177, .eqA false [(0, .i), (1, .i), (2, .b)] (.t 175) (.t 176)⟩, ⟨none, some 178, .pick (.t 173) (.t 177) (.c (.lit (.bool false)))⟩, ⟨none, some 179, .copy (.t 178)⟩, ⟨some (179, true), some 180, .call 12 []⟩, ⟨none, some 181, .pick (.t 179) (.t 180) (.c (.lit (.bool false)))⟩, ⟨none, some 6, .copy (.t 181)⟩] [] []) .ret))))))))))))))), [.tmp 6]⟩
/- magnetolaw10.awake -/
def L12_0 : ICode := (.seq (.seq (.reg [⟨none, some 29, .copy (.t 4)⟩, ⟨none, some 30, .bin .lss (.t 29) (.c (.lit (.int .i64 11)))⟩] [] []) (.cond (.t 30) .skip (.exit 0))) (.seq (.block 1 (.seq (.seq (.reg [⟨none, some 33, .copy (.t 1)⟩, ⟨none, some 34, .call 16 [(.t 33)]⟩, ⟨none, some 35, .bin .neq (.t 34) (.c (.lit (.int .i64 1)))⟩] [] []) (.cond (.t 35) (.seq (.reg [⟨none, some 0, .copy (.c (.lit (.bool false)))⟩] [] []) .ret) .skip)) (.reg [⟨none, some 36, .copy (.t 1)⟩, ⟨none, some 37, .call 17 [(.t 36), (.c (.lit (.int .i64 1)))]⟩] [] []))) (.reg [⟨none, some 31, .copy (.t 4)⟩, ⟨none, some 32, .bin .add (.t 31) (.c (.lit (.int .i64 1)))⟩, ⟨none, some 4, .copy (.t 32)⟩] [] [])))
def L12_1 : ICode := (.seq (.seq (.reg [⟨none, some 38, .copy (.t 5)⟩, ⟨none, some 39, .copy (.t 2)⟩, ⟨none, some 40, .len (.t 39)⟩, ⟨none, some 41, .bin .lss (.t 38) (.t 40)⟩] [] []) (.cond (.t 41) .skip (.exit 2))) (.seq (.block 3 (.seq (.seq (.reg [⟨none, some 44, .copy (.t 1)⟩, ⟨none, some 45, .call 16 [(.t 44)]⟩, ⟨none, some 46, .copy (.t 2)⟩, ⟨none, some 47, .copy (.t 5)⟩, ⟨none, some 48, .idxS 1 (.t 46) (.t 47)⟩, ⟨none, some 49, .load false 1 (.t 48)⟩, ⟨none, some 50, .bin .neq (.t 45) (.t 49)⟩, ⟨none, some 51, .copy (.t 50)⟩, ⟨some (51, true), some 52, .copy (.t 5)⟩, ⟨some (51, true), some 53, .bin .neq (.t 52) (.c (.lit (.int .i64 41)))⟩, ⟨none, some 54, .pick (.t 51) (.t 53) (.c (.lit (.bool false)))⟩] [(5, 1)] []) (.cond (.t 54) (.seq (.reg [⟨none, some 0, .copy (.c (.lit (.bool false)))⟩] [] []) .ret) .skip)) (.seq (.reg [⟨none, some 56, .copy (.t 1)⟩, ⟨none, some 57, .copy (.t 2)⟩, ⟨none, some 58, .copy (.t 5)⟩, ⟨none, some 59, .idxS 1 (.t 57) (.t 58)⟩, ⟨none, some 60, .load false 1 (.t 59)⟩, ⟨none, some 61, .call 17 [(.t 56), (.t 60)]⟩, ⟨none, some 55, .copy (.t 61)⟩, ⟨none, some 62, .extract (.t 55) 0⟩, ⟨none, some 63, .extract (.t 55) 1⟩, ⟨none, some 6, .copy (.t 62)⟩, ⟨none, some 7, .copy (.t 63)⟩] [] []) (.seq (.reg [⟨none, some 64, .copy (.t 7)⟩, ⟨none, some 65, .bin .neq (.t 64) (.c (.lit (.int .i64 0)))⟩, ⟨none, some 66, .copy (.t 65)⟩, ⟨some (66, false), some 67, .copy (.t 6)⟩, ⟨some (66, false), some 68, .len (.t 67)⟩, ⟨some (66, false), some 69, .bin .neq (.t 68) (.c (.lit (.int .i64 0)))⟩, ⟨some (66, false), some 70, .copy (.t 69)⟩, ⟨some (70, true), some 71, .copy (.t 5)⟩, ⟨some (70, true), some 72, .bin .lss (.t 71) (.c (.lit (.int .i64 49)))⟩, ⟨some (66, false), some 73, .pick (.t 70) (.t 72) (.c (.lit (.bool false)))⟩, ⟨none, some 74, .pick (.t 66) (.c (.lit (.bool true))) (.t 73)⟩, ⟨none, some 75, .copy (.t 74)⟩, ⟨some (75, false), some 76, .copy (.t 5)⟩, ⟨some (75, false), some 77, .bin .eql (.t 76) (.c (.lit (.int .i64 49)))⟩, ⟨some (75, false), some 78, .copy (.t 77)⟩, ⟨some (78, true), some 79, .copy (.t 6)⟩, ⟨some (78, true), some 80, .len (.t 79)⟩, ⟨some (78, true), some 81, .bin .neq (.t 80) (.c (.lit (.int .i64 1)))⟩, ⟨some (78, true), some 82, .copy (.t 81)⟩, ⟨some (82, false), some 83, .copy (.t 6)⟩, ⟨some (82, false), some 84, .idxS 15 (.t 83) (.c (.lit (.int .i64 0)))⟩, ⟨some (82, false), some 85, .fieldA 2 (.t 84)⟩, ⟨some (82, false), some 86, .load false 1 (.t 85)⟩, ⟨some (82, false), some 87, .bin .neq (.t 86) (.c (.lit (.int .i64 1)))⟩, ⟨some (78, true), some 88, .pick (.t 82) (.c (.lit (.bool true))) (.t 87)⟩, ⟨some (75, false), some 89, .pick (.t 78) (.t 88) (.c (.lit (.bool false)))⟩, ⟨none, some 90, .pick (.t 75) (.c (.lit (.bool true))) (.t 89)⟩] [] []) (.cond (.t 90) (.seq (.reg [⟨none, some 0, .copy (.c (.lit (.bool false)))⟩] [] []) .ret) .skip))))) (.reg [⟨none, some 42, .copy (.t 5)⟩, ⟨none, some 43, .bin .add (.t 42) (.c (.lit (.int .i64 1)))⟩, ⟨none, some 5, .copy (.t 43)⟩] [] [])))
def ir12 : IFn := ⟨(.seq (.reg [⟨none, some 0, .copy (.c (.lit (.bool false)))⟩] [] []) (.seq (.reg [⟨none, some 8, .call 19 []⟩, ⟨none, some 1, .copy (.t 8)⟩] [] []) (.seq (.seq (.reg [⟨none, some 9, .copy (.t 1)⟩, ⟨none, some 10, .isNil false .ptr (.t 9)⟩, ⟨none, some 11, .copy (.t 10)⟩, ⟨some (11, false), some 12, .copy (.t 1)⟩, ⟨some (11, false), some 13, .build [(.lit (.int .i64 0)), (.lit (.bool false)), (.lit (.bool false)), (.lit (.int .i64 0)), (.lit (.int .u8 0)), (.lit (.int .u8 0)), (.lit (.int .u8 0)), (.lit (.int .u8 0)), (.lit (.int .u8 0)), (.lit (.int .u8 0)), (.lit (.int .u8 0)), (.lit (.int .u8 0))] []⟩, ⟨some (11, false), some 14, .call 21 [(.t 12), (.t 13)]⟩, ⟨some (11, false), some 15, .bin .neq (.t 14) (.c (.lit (.int .i64 0)))⟩, ⟨none, some 16, .pick (.t 11) (.c (.lit (.bool true))) (.t 15)⟩] [] []) (.cond (.t 16) (.seq (.reg [⟨none, some 0, .copy (.c (.lit (.bool false)))⟩] [] []) .ret) .skip)) (.seq (.reg [⟨none, some 18, .build [(.lit (.int .i64 0)), (.lit (.bool false)), (.lit (.bool false)), (.lit (.int .i64 0)), (.lit (.int .u8 0)), (.lit (.int .u8 0)), (.lit (.int .u8 0)), (.lit (.int .u8 0)), (.lit (.int .u8 0)), (.lit (.int .u8 0)), (.lit (.int .u8 0)), (.lit (.int .u8 0))] []⟩, ⟨none, some 19, .call 14 [(.t 18), (.c (.lit (.bool true)))]⟩, ⟨none, some 17, .copy (.t 19)⟩, ⟨none, some 20, .extract (.t 17) 0⟩, ⟨none, some 21, .extract (.t 17) 1⟩, ⟨none, some 2, .copy (.t 20)⟩, ⟨none, some 3, .copy (.t 21)⟩] [] []) (.seq (.seq (.reg [⟨none, some 22, .copy (.t 3)⟩, ⟨none, some 23, .bin .neq (.t 22) (.c (.lit (.int .i64 0)))⟩, ⟨none, some 24, .copy (.t 23)⟩, ⟨some (24, false), some 25, .copy (.t 2)⟩, ⟨some (24, false), some 26, .len (.t 25)⟩, ⟨some (24, false), some 27, .bin .neq (.t 26) (.c (.lit (.int .i64 50)))⟩, ⟨none, some 28, .pick (.t 24) (.c (.lit (.bool true))) (.t 27)⟩] [] []) (.cond (.t 28) (.seq (.reg [⟨none, some 0, .copy (.c (.lit (.bool false)))⟩] [] []) .ret) .skip)) (.seq (.seq (.reg [⟨none, some 4, .copy (.c (.lit (.int .i64 0)))⟩] [] []) (.block 0 (.loop [1, 2, 4] L12_0))) (.seq (.seq (.reg [⟨none, some 5, .copy (.c (.lit (.int .i64 0)))⟩] [] []) (.block 2 (.loop [1, 2, 5] L12_1))) (.seq (.reg [⟨none, some 91, .copy (.t 1)⟩, ⟨none, some 92, .call 18 [(.t 91)]⟩, ⟨none, some 93, .fieldV false 1 0 (.t 92)⟩, ⟨none, some 94, .bin .eql (.t 93) (.c (.lit (.int .i64 8)))⟩, ⟨none, some 95, .copy (.t 94)⟩, ⟨some (95, true), some 96, .copy (.t 1)⟩, ⟨some (95, true), some 97, .call 18 [(.t 96)]⟩, ⟨some (95, true), some 98, .fieldV false 1 5 (.t 97)⟩, ⟨some (95, true), some 99, .bin .eql (.t 98) (.c (.lit (.int .i64 0)))⟩, ⟨none, some 100, .pick (.t 95) (.t 99) (.c (.lit (.bool false)))⟩, ⟨none, some 0, .copy (.t 100)⟩] [] []) .ret)))))))), [.tmp 0]⟩
/- magnetolaw10.joined -/
def L13_0 : ICode := (.seq (.seq (.reg [⟨none, some 9, .copy (.t 4)⟩, ⟨none, some 10, .bin .lss (.t 9) (.c (.lit (.int .i64 11)))⟩] [] []) (.cond (.t 10) .skip (.exit 0))) (.seq (.block 1 (.reg [⟨none, some 13, .copy (.t 3)⟩, ⟨none, some 14, .call 17 [(.t 13), (.c (.lit (.int .i64 1)))]⟩] [] [])) (.reg [⟨none, some 11, .copy (.t 4)⟩, ⟨none, some 12, .bin .add (.t 11) (.c (.lit (.int .i64 1)))⟩, ⟨none, some 4, .copy (.t 12)⟩] [] [])))
def L13_1 : ICode := (.seq (.seq (.reg [⟨none, some 15, .copy (.t 5)⟩, ⟨none, some 16, .copy (.t 0)⟩, ⟨none, some 17, .len (.t 16)⟩, ⟨none, some 18, .bin .lss (.t 15) (.t 17)⟩] [] []) (.cond (.t 18) .skip (.exit 2))) (.seq (.block 3 (.seq (.reg [⟨none, some 21, .copy (.t 3)⟩, ⟨none, some 22, .copy (.t 0)⟩, ⟨none, some 23, .copy (.t 5)⟩, ⟨none, some 24, .idxS 12 (.t 22) (.t 23)⟩, ⟨none, some 25, .load true 12 (.t 24)⟩, ⟨none, some 26, .call 21 [(.t 21), (.t 25)]⟩, ⟨none, some 27, .bin .neq (.t 26) (.c (.lit (.int .i64 0)))⟩] [] []) (.cond (.t 27) (.seq (.reg [⟨none, some 2, .copy (.c (.lit (.pointer none)))⟩] [] []) .ret) .skip))) (.reg [⟨none, some 19, .copy (.t 5)⟩, ⟨none, some 20, .bin .add (.t 19) (.c (.lit (.int .i64 1)))⟩, ⟨none, some 5, .copy (.t 20)⟩] [] [])))
def ir13 : IFn := ⟨(.seq (.reg [⟨none, some 2, .copy (.c (.lit (.pointer none)))⟩] [] []) (.seq (.reg [⟨none, some 6, .call 19 []⟩, ⟨none, some 3, .copy (.t 6)⟩] [] []) (.seq (.seq (.reg [⟨none, some 7, .copy (.t 3)⟩, ⟨none, some 8, .isNil false .ptr (.t 7)⟩] [] []) (.cond (.t 8) (.seq (.reg [⟨none, some 2, .copy (.c (.lit (.pointer none)))⟩] [] []) .ret) .skip)) (.seq (.seq (.reg [⟨none, some 4, .copy (.c (.lit (.int .i64 0)))⟩] [] []) (.block 0 (.loop [0, 3, 4] L13_0))) (.seq (.seq (.reg [⟨none, some 5, .copy (.c (.lit (.int .i64 0)))⟩] [] []) (.block 2 (.loop [0, 3, 5] L13_1))) (.seq (.reg [⟨none, some 28, .copy (.t 3)⟩, ⟨none, some 2, .copy (.t 28)⟩] [] []) .ret)))))), [.tmp 2]⟩
/- codec.Encode -/
def ir14 : IFn := ⟨(.seq (.reg [⟨none, some 2, .box 12 (.t 0)⟩, ⟨none, some 4, .copy (.c nilS)⟩, ⟨none, some 5, .copy (.c (.lit (.int .i64 0)))⟩] [] []) (.seq (.reg [⟨none, some 11, .load true 12 (.t 2)⟩, ⟨none, some 12, .call 28 [(.t 11)]⟩, ⟨none, some 10, .copy (.t 12)⟩, ⟨none, some 13, .extract (.t 10) 0⟩, ⟨none, some 14, .extract (.t 10) 1⟩, ⟨none, some 6, .copy (.t 13)⟩, ⟨none, some 7, .copy (.t 14)⟩] [] []) (.seq (.seq (.reg [⟨none, some 15, .copy (.t 7)⟩, ⟨none, some 16, .bin .neq (.t 15) (.c (.lit (.int .i64 0)))⟩] [] []) (.cond (.t 16) (.seq (.reg [⟨none, some 17, .copy (.t 7)⟩, ⟨none, some 4, .copy (.c nilS)⟩, ⟨none, some 5, .copy (.t 17)⟩] [] []) .ret) .skip)) (.seq (.reg [⟨none, some 18, .copy (.t 6)⟩, ⟨none, some 19, .len (.t 18)⟩, ⟨none, some 20, .bin .sub (.t 19) (.c (.lit (.int .i64 10)))⟩, ⟨none, some 8, .copy (.t 20)⟩] [] []) (.seq (.reg [⟨none, some 21, .copy (.t 6)⟩, ⟨none, some 22, .copy (.t 8)⟩, ⟨none, some 23, .slice 1 (.t 21) none (some (.t 22)) none⟩, ⟨none, some 24, .call 29 [(.t 23)]⟩, ⟨none, some 25, .copy (.t 6)⟩, ⟨none, some 26, .copy (.t 8)⟩, ⟨none, some 27, .slice 1 (.t 25) (some (.t 26)) none none⟩, ⟨none, some 28, .append true 1 8 (.t 24) (.t 27)⟩, ⟨none, some 9, .copy (.t 28)⟩] [] []) (.seq (.seq (.reg [⟨none, some 29, .copy (.t 1)⟩] [] []) (.cond (.t 29) (.reg [⟨none, some 30, .copy (.t 9)⟩, ⟨none, some 31, .copy (.t 9)⟩, ⟨none, some 32, .len (.t 31)⟩, ⟨none, some 33, .bin .sub (.t 32) (.c (.lit (.int .i64 10)))⟩, ⟨none, some 34, .bin .add (.t 33) (.c (.lit (.int .i64 1)))⟩, ⟨none, some 35, .idxS 1 (.t 30) (.t 34)⟩, ⟨none, none, .store 1 (.t 35) (.c (.lit (.int .i64 0)))⟩] [] []) .skip)) (.seq (.reg [⟨none, some 36, .copy (.t 9)⟩, ⟨none, some 4, .copy (.t 36)⟩, ⟨none, some 5, .copy (.c (.lit (.int .i64 0)))⟩] [] []) .ret))))))), [.tmp 4, .tmp 5]⟩
/- frame.Check -/
def ir15 : IFn := ⟨(.seq (.reg [⟨none, some 1, .box 12 (.t 0)⟩, ⟨none, some 2, .copy (.c (.lit (.int .i64 0)))⟩] [] []) (.seq (.reg [⟨none, some 3, .copy (.c (.lit (.int .i64 2047)))⟩] [] []) (.seq (.seq (.reg [⟨none, some 5, .fieldA 1 (.t 1)⟩, ⟨none, some 6, .load false 1 (.t 5)⟩] [] []) (.cond (.t 6) (.reg [⟨none, some 3, .copy (.c (.lit (.int .i64 536870911)))⟩] [] []) .skip)) (.seq (.reg [⟨none, some 7, .fieldA 3 (.t 1)⟩, ⟨none, some 8, .load false 1 (.t 7)⟩, ⟨none, some 4, .copy (.t 8)⟩] [] []) (.seq (.seq (.reg [⟨none, some 9, .fieldA 2 (.t 1)⟩, ⟨none, some 10, .load false 1 (.t 9)⟩] [] []) (.cond (.t 10) (.reg [⟨none, some 4, .copy (.c (.lit (.int .i64 0)))⟩] [] []) .skip)) (.seq (.block 0 (.seq (.seq (.reg [⟨none, some 12, .fieldA 0 (.t 1)⟩, ⟨none, some 13, .load false 1 (.t 12)⟩, ⟨none, some 14, .bin .lss (.t 13) (.c (.lit (.int .i64 0)))⟩, ⟨none, some 15, .copy (.t 14)⟩, ⟨some (15, false), some 16, .fieldA 0 (.t 1)⟩, ⟨some (15, false), some 17, .load false 1 (.t 16)⟩, ⟨some (15, false), some 18, .copy (.t 3)⟩, ⟨some (15, false), some 19, .bin .gtr (.t 17) (.t 18)⟩, ⟨none, some 20, .pick (.t 15) (.c (.lit (.bool true))) (.t 19)⟩, ⟨none, some 11, .copy (.t 20)⟩] [] []) (.cond (.t 11) .skip (.reg [⟨none, some 21, .fieldA 3 (.t 1)⟩, ⟨none, some 22, .load false 1 (.t 21)⟩, ⟨none, some 23, .bin .lss (.t 22) (.c (.lit (.int .i64 0)))⟩, ⟨none, some 24, .copy (.t 23)⟩, ⟨some (24, false), some 25, .fieldA 3 (.t 1)⟩, ⟨some (24, false), some 26, .load false 1 (.t 25)⟩, ⟨some (24, false), some 27, .bin .gtr (.t 26) (.c (.lit (.int .i64 8)))⟩, ⟨none, some 28, .pick (.t 24) (.c (.lit (.bool true))) (.t 27)⟩, ⟨none, some 11, .copy (.t 28)⟩] [] []))) (.cond (.t 11) (.seq (.reg [⟨none, some 2, .copy (.c (.lit (.int .i64 14)))⟩] [] []) .ret) (.seq (.reg [⟨none, some 30, .mkSlice true 1 [(.lit (.int .u8 0))] 1 [(0, (.c (.lit (.int .u8 0))))]⟩, ⟨none, some 31, .fieldA 4 (.t 1)⟩, ⟨none, some 32, .copy (.t 4)⟩, ⟨none, some 33, .sliceArr 8 1 (.t 31) (some (.t 32)) none⟩, ⟨none, some 34, .append true 1 1 (.t 30) (.t 33)⟩, ⟨none, some 35, .call 30 [(.t 34)]⟩, ⟨none, some 36, .bin .gtr (.t 35) (.c (.lit (.int .u8 0)))⟩, ⟨none, some 29, .copy (.t 36)⟩] [] []) (.cond (.t 29) (.seq (.reg [⟨none, some 2, .copy (.c (.lit (.int .i64 14)))⟩] [] []) .ret) .skip))))) (.seq (.reg [⟨none, some 2, .copy (.c (.lit (.int .i64 0)))⟩] [] []) .ret))))))), [.tmp 2]⟩
/- ctl.Node).Drive -/
def ir16 : IFn := ⟨(.seq (.reg [⟨none, some 2, .copy (.c (.lit (.int .i64 0)))⟩] [] []) (.seq (.seq (.reg [⟨none, some 4, .copy (.t 0)⟩, ⟨none, some 5, .isNil false .ptr (.t 4)⟩] [] []) (.cond (.t 5) (.seq (.reg [⟨none, some 2, .copy (.c (.lit (.int .i64 1)))⟩] [] []) .ret) .skip)) (.seq (.reg [⟨none, some 3, .copy (.c (.lit (.bool false)))⟩] [] []) (.seq (.seq (.reg [⟨none, some 6, .copy (.t 0)⟩, ⟨none, some 7, .nilCheck (.t 6)⟩, ⟨none, some 8, .fieldA 4 (.t 7)⟩, ⟨none, some 9, .load false 1 (.t 8)⟩] [] []) (.block 0 (.seq (.reg [⟨none, some 11, .bin .eql (.t 9) (.c (.lit (.int .i64 1)))⟩, ⟨none, some 10, .copy (.t 11)⟩] [] []) (.cond (.t 10) (.reg [⟨none, some 12, .copy (.t 0)⟩, ⟨none, some 13, .call 31 [(.t 12)]⟩, ⟨none, some 3, .copy (.t 13)⟩] [] []) (.seq (.seq (.reg [⟨none, some 15, .bin .eql (.t 9) (.c (.lit (.int .i64 3)))⟩, ⟨none, some 14, .copy (.t 15)⟩] [] []) (.cond (.t 14) .skip (.reg [⟨none, some 16, .bin .eql (.t 9) (.c (.lit (.int .i64 5)))⟩, ⟨none, some 14, .copy (.t 16)⟩] [] []))) (.cond (.t 14) (.reg [⟨none, some 3, .copy (.c (.lit (.bool true)))⟩] [] []) (.seq (.reg [⟨none, some 18, .bin .eql (.t 9) (.c (.lit (.int .i64 2)))⟩, ⟨none, some 17, .copy (.t 18)⟩] [] []) (.cond (.t 17) (.reg [⟨none, some 19, .copy (.t 0)⟩, ⟨none, some 20, .call 32 [(.t 19)]⟩, ⟨none, some 21, .bin .eql (.t 20) (.c (.lit (.int .i64 0)))⟩, ⟨none, some 3, .copy (.t 21)⟩] [] []) .skip)))))))) (.seq (.seq (.reg [⟨none, some 22, .copy (.t 3)⟩] [] []) (.cond (.t 22) (.seq (.reg [⟨none, some 2, .copy (.c (.lit (.int .i64 0)))⟩] [] []) .ret) .skip)) (.seq (.reg [⟨none, some 2, .copy (.c (.lit (.int .i64 1)))⟩] [] []) .ret)))))), [.tmp 2]⟩
/- ctl.Node).Step -/
def L17_0 : ICode := (.seq (.reg [⟨none, some 34, .bin .lss (.t 33) (.t 32)⟩] [] []) (.seq (.cond (.t 34) .skip (.exit 1)) (.seq (.block 2 (.seq (.reg [⟨none, some 35, .idxS 1 (.t 31) (.t 33)⟩, ⟨none, some 36, .load false 1 (.t 35)⟩, ⟨none, some 9, .copy (.t 36)⟩] [] []) (.seq (.reg [⟨none, some 37, .copy (.t 9)⟩, ⟨none, some 38, .build [(.lit (.int .i64 0)), (.lit (.int .i64 0)), (.lit (.int .i64 0)), (.lit (.int .i64 0)), (.lit (.bool false)), (.lit (.bool false)), (.lit (.int .i64 0)), (.lit (.int .u8 0)), (.lit (.int .u8 0)), (.lit (.int .u8 0)), (.lit (.int .u8 0)), (.lit (.int .u8 0)), (.lit (.int .u8 0)), (.lit (.int .u8 0)), (.lit (.int .u8 0))] [(2, 1, (.t 37))]⟩, ⟨none, some 10, .alloc [(.lit (.int .i64 0)), (.lit (.int .i64 0)), (.lit (.int .i64 0)), (.lit (.int .i64 0)), (.lit (.bool false)), (.lit (.bool false)), (.lit (.int .i64 0)), (.lit (.int .u8 0)), (.lit (.int .u8 0)), (.lit (.int .u8 0)), (.lit (.int .u8 0)), (.lit (.int .u8 0)), (.lit (.int .u8 0)), (.lit (.int .u8 0)), (.lit (.int .u8 0))]⟩, ⟨none, none, .store 15 (.t 10) (.t 38)⟩] [] []) (.seq (.seq (.reg [⟨none, some 39, .copy (.t 9)⟩, ⟨none, some 40, .bin .eql (.t 39) (.c (.lit (.int .i64 1)))⟩, ⟨none, some 41, .copy (.t 40)⟩, ⟨some (41, false), some 42, .copy (.t 9)⟩, ⟨some (41, false), some 43, .bin .eql (.t 42) (.c (.lit (.int .i64 2)))⟩, ⟨none, some 44, .pick (.t 41) (.c (.lit (.bool true))) (.t 43)⟩] [] []) (.cond (.t 44) (.reg [⟨none, some 45, .fieldA 1 (.t 6)⟩, ⟨none, some 46, .load true 12 (.t 45)⟩, ⟨none, some 47, .fieldA 3 (.t 10)⟩, ⟨none, none, .store 12 (.t 47) (.t 46)⟩] [] []) .skip)) (.reg [⟨none, some 48, .copy (.t 7)⟩, ⟨none, some 49, .load true 15 (.t 10)⟩, ⟨none, some 50, .mkSlice true 15 [(.lit (.int .i64 0)), (.lit (.int .i64 0)), (.lit (.int .i64 0)), (.lit (.int .i64 0)), (.lit (.bool false)), (.lit (.bool false)), (.lit (.int .i64 0)), (.lit (.int .u8 0)), (.lit (.int .u8 0)), (.lit (.int .u8 0)), (.lit (.int .u8 0)), (.lit (.int .u8 0)), (.lit (.int .u8 0)), (.lit (.int .u8 0)), (.lit (.int .u8 0))] 1 [(0, (.t 49))]⟩, ⟨none, some 51, .append true 15 56 (.t 48) (.t 50)⟩, ⟨none, some 7, .copy (.t 51)⟩] [] []))))) (.reg [⟨none, some 52, .bin .add (.t 33) (.c (.lit (.int .i64 1)))⟩, ⟨none, some 33, .copy (.t 52)⟩] [] []))))
def ir17 : IFn := ⟨(.seq (.reg [⟨none, some 4, .copy (.c nilS)⟩, ⟨none, some 5, .copy (.c (.lit (.int .i64 0)))⟩] [] []) (.seq (.block 0 (.seq (.reg [⟨none, some 12, .copy (.t 0)⟩, ⟨none, some 13, .isNil false .ptr (.t 12)⟩, ⟨none, some 11, .copy (.t 13)⟩] [] []) (.cond (.t 11) (.seq (.reg [⟨none, some 4, .copy (.c nilS)⟩, ⟨none, some 5, .copy (.c (.lit (.int .i64 2)))⟩] [] []) .ret) (.seq (.reg [⟨none, some 15, .copy (.t 1)⟩, ⟨none, some 16, .bin .neq (.t 15) (.c (.lit (.int .i64 0)))⟩, ⟨none, some 17, .copy (.t 16)⟩, ⟨some (17, true), some 18, .copy (.t 1)⟩, ⟨some (17, true), some 19, .bin .neq (.t 18) (.c (.lit (.int .i64 1)))⟩, ⟨none, some 20, .pick (.t 17) (.t 19) (.c (.lit (.bool false)))⟩, ⟨none, some 14, .copy (.t 20)⟩] [] []) (.cond (.t 14) (.seq (.reg [⟨none, some 4, .copy (.c nilS)⟩, ⟨none, some 5, .copy (.c (.lit (.int .i64 10)))⟩] [] []) .ret) .skip))))) (.seq (.reg [⟨none, some 6, .alloc [nilS, (.lit (.int .i64 0)), (.lit (.bool false)), (.lit (.bool false)), (.lit (.int .i64 0)), (.lit (.int .u8 0)), (.lit (.int .u8 0)), (.lit (.int .u8 0)), (.lit (.int .u8 0)), (.lit (.int .u8 0)), (.lit (.int .u8 0)), (.lit (.int .u8 0)), (.lit (.int .u8 0))]⟩] [] []) (.seq (.reg [⟨none, some 21, .call 33 []⟩, ⟨none, some 22, .copy (.t 0)⟩, ⟨none, some 23, .nilCheck (.t 22)⟩, ⟨none, some 24, .fieldA 4 (.t 23)⟩, ⟨none, some 25, .load false 1 (.t 24)⟩, ⟨none, some 26, .idxV false 11 1 (.t 21) (.t 25)⟩, ⟨none, some 27, .copy (.t 0)⟩, ⟨none, some 28, .copy (.t 1)⟩, ⟨none, some 29, .callV (.t 26) [(.t 27), (.t 6), (.t 28)]⟩] [(4, 0)] []) (.seq (.reg [⟨none, some 7, .copy (.c nilS)⟩] [] []) (.seq (.seq (.reg [⟨none, some 30, .fieldA 0 (.t 6)⟩, ⟨none, some 31, .load false 1 (.t 30)⟩, ⟨none, some 32, .len (.t 31)⟩, ⟨none, some 33, .copy (.c (.lit (.int .i64 0)))⟩] [] []) (.block 1 (.loop [6, 7, 31, 32, 33] L17_0))) (.seq (.reg [⟨none, some 53, .copy (.t 7)⟩, ⟨none, some 4, .copy (.t 53)⟩, ⟨none, some 5, .copy (.c (.lit (.int .i64 0)))⟩] [] []) .ret))))))), [.tmp 4, .tmp 5]⟩
/- ctl.Node).Look -/
def ir18 : IFn := ⟨(.seq (.reg [⟨none, some 2, .alloc [(.lit (.int .i64 0)), (.lit (.bool false)), (.lit (.int .i64 0)), (.lit (.int .i64 0)), (.lit (.bool false)), (.lit (.int .i64 0))]⟩] [] []) (.seq (.seq (.reg [⟨none, some 3, .copy (.t 0)⟩, ⟨none, some 4, .isNil false .ptr (.t 3)⟩] [] []) (.cond (.t 4) (.seq (.reg [⟨none, some 5, .build [(.lit (.int .i64 0)), (.lit (.bool false)), (.lit (.int .i64 0)), (.lit (.int .i64 0)), (.lit (.bool false)), (.lit (.int .i64 0))] []⟩, ⟨none, none, .store 6 (.t 2) (.t 5)⟩] [] []) .ret) .skip)) (.seq (.reg [⟨none, some 6, .copy (.t 0)⟩, ⟨none, some 7, .nilCheck (.t 6)⟩, ⟨none, some 8, .fieldA 4 (.t 7)⟩, ⟨none, some 9, .load false 1 (.t 8)⟩, ⟨none, some 10, .copy (.t 0)⟩, ⟨none, some 11, .nilCheck (.t 10)⟩, ⟨none, some 12, .fieldA 7 (.t 11)⟩, ⟨none, some 13, .load false 1 (.t 12)⟩, ⟨none, some 14, .copy (.t 0)⟩, ⟨none, some 15, .nilCheck (.t 14)⟩, ⟨none, some 16, .fieldA 11 (.t 15)⟩, ⟨none, some 17, .load true 3 (.t 16)⟩, ⟨none, some 18, .copy (.t 0)⟩, ⟨none, some 19, .nilCheck (.t 18)⟩, ⟨none, some 20, .fieldA 3 (.t 19)⟩, ⟨none, some 21, .load false 1 (.t 20)⟩, ⟨none, some 22, .call 34 [(.t 21)]⟩, ⟨none, some 23, .build [(.lit (.int .i64 0)), (.lit (.bool false)), (.lit (.int .i64 0)), (.lit (.int .i64 0)), (.lit (.bool false)), (.lit (.int .i64 0))] [(0, 1, (.t 9)), (1, 1, (.t 13)), (2, 3, (.t 17)), (5, 1, (.t 22))]⟩, ⟨none, none, .store 6 (.t 2) (.t 23)⟩] [(3, 16), (7, 16), (11, 16)] []) .ret))), [.cell 2 true 6]⟩
/- ctl.New -/
def ir19 : IFn := ⟨(.seq (.reg [⟨none, some 0, .copy (.c (.lit (.pointer none)))⟩] [] []) (.seq (.reg [⟨none, some 4, .call 35 [(.c (.lit (.int .i64 16)))]⟩, ⟨none, some 3, .copy (.t 4)⟩, ⟨none, some 5, .extract (.t 3) 0⟩, ⟨none, some 6, .extract (.t 3) 1⟩, ⟨none, some 1, .copy (.t 5)⟩, ⟨none, some 2, .copy (.t 6)⟩] [] []) (.seq (.reg [⟨none, some 7, .copy (.t 1)⟩, ⟨none, some 8, .build [nilS, (.lit (.int .i64 0)), (.lit (.int .i64 0)), (.lit (.pointer none)), (.lit (.int .i64 0)), (.lit (.int .i64 0)), (.lit (.int .i64 0)), (.lit (.bool false)), (.lit (.bool false)), (.lit (.bool false)), (.lit (.bool false)), (.lit (.int .i64 0)), (.lit (.int .i64 0)), (.lit (.bool false)), (.lit (.int .i64 0)), (.lit (.bool false)), (.lit (.bool false)), (.lit (.int .i64 0)), (.lit (.int .u8 0)), (.lit (.int .u8 0)), (.lit (.int .u8 0)), (.lit (.int .u8 0)), (.lit (.int .u8 0)), (.lit (.int .u8 0)), (.lit (.int .u8 0)), (.lit (.int .u8 0)), nilS] [(3, 1, (.t 7))]⟩, ⟨none, some 9, .box 27 (.t 8)⟩, ⟨none, some 0, .copy (.t 9)⟩] [] []) .ret))), [.tmp 0]⟩
/- magnetolaw10.level -/
def ir20 : IFn := ⟨(.seq (.reg [⟨none, some 2, .box 14 (.t 0)⟩, ⟨none, some 4, .copy (.c (.lit (.int .i64 0)))⟩] [] []) (.seq (.seq (.reg [⟨none, some 5, .fieldA 13 (.t 2)⟩, ⟨none, some 6, .load false 1 (.t 5)⟩, ⟨none, some 7, .bin .eql (.t 6) (.c (.lit (.int .i64 0)))⟩, ⟨none, some 8, .copy (.t 7)⟩, ⟨some (8, false), some 9, .fieldA 13 (.t 2)⟩, ⟨some (8, false), some 10, .load false 1 (.t 9)⟩, ⟨some (8, false), some 11, .bin .eql (.t 10) (.c (.lit (.int .i64 1)))⟩, ⟨none, some 12, .pick (.t 8) (.c (.lit (.bool true))) (.t 11)⟩] [] []) (.cond (.t 12) (.seq (.reg [⟨none, some 13, .fieldA 13 (.t 2)⟩, ⟨none, some 14, .load false 1 (.t 13)⟩, ⟨none, some 4, .copy (.t 14)⟩] [] []) .ret) .skip)) (.seq (.reg [⟨none, some 15, .copy (.t 1)⟩, ⟨none, some 4, .copy (.t 15)⟩] [] []) .ret))), [.tmp 4]⟩
/- ctl.Node).Put -/
def ir21 : IFn := ⟨(.seq (.reg [⟨none, some 3, .box 12 (.t 1)⟩, ⟨none, some 4, .copy (.c (.lit (.int .i64 0)))⟩] [] []) (.seq (.seq (.reg [⟨none, some 5, .copy (.t 0)⟩, ⟨none, some 6, .isNil false .ptr (.t 5)⟩] [] []) (.cond (.t 6) (.seq (.reg [⟨none, some 4, .copy (.c (.lit (.int .i64 2)))⟩] [] []) .ret) .skip)) (.seq (.reg [⟨none, some 7, .copy (.t 0)⟩, ⟨none, some 8, .nilCheck (.t 7)⟩, ⟨none, some 9, .fieldA 3 (.t 8)⟩, ⟨none, some 10, .load false 1 (.t 9)⟩, ⟨none, some 11, .load true 12 (.t 3)⟩, ⟨none, some 12, .call 36 [(.t 10), (.t 11)]⟩, ⟨none, some 4, .copy (.t 12)⟩] [] []) .ret))), [.tmp 4]⟩
/- count.Check -/
def ir22 : IFn := ⟨(.seq (.reg [⟨none, some 1, .box 3 (.t 0)⟩, ⟨none, some 2, .copy (.c (.lit (.int .i64 0)))⟩] [] []) (.seq (.seq (.reg [⟨none, some 3, .fieldA 1 (.t 1)⟩, ⟨none, some 4, .load false 1 (.t 3)⟩, ⟨none, some 5, .call 37 [(.t 4), (.c (.lit (.int .i64 255)))]⟩, ⟨none, some 6, .un .not (.t 5)⟩, ⟨none, some 7, .copy (.t 6)⟩, ⟨some (7, false), some 8, .fieldA 0 (.t 1)⟩, ⟨some (7, false), some 9, .load false 1 (.t 8)⟩, ⟨some (7, false), some 10, .call 37 [(.t 9), (.c (.lit (.int .i64 256)))]⟩, ⟨some (7, false), some 11, .un .not (.t 10)⟩, ⟨none, some 12, .pick (.t 7) (.c (.lit (.bool true))) (.t 11)⟩, ⟨none, some 13, .copy (.t 12)⟩, ⟨some (13, false), some 14, .fieldA 2 (.t 1)⟩, ⟨some (13, false), some 15, .load false 1 (.t 14)⟩, ⟨some (13, false), some 16, .fieldA 0 (.t 1)⟩, ⟨some (13, false), some 17, .load false 1 (.t 16)⟩, ⟨some (13, false), some 18, .bin .gtr (.t 17) (.c (.lit (.int .i64 255)))⟩, ⟨some (13, false), some 19, .eqB true (.t 15) (.t 18)⟩, ⟨none, some 20, .pick (.t 13) (.c (.lit (.bool true))) (.t 19)⟩] [] []) (.cond (.t 20) (.seq (.reg [⟨none, some 2, .copy (.c (.lit (.int .i64 10)))⟩] [] []) .ret) .skip)) (.seq (.reg [⟨none, some 2, .copy (.c (.lit (.int .i64 0)))⟩] [] []) .ret))), [.tmp 2]⟩
/- frame.Less -/
def ir23 : IFn := ⟨(.seq (.reg [⟨none, some 2, .box 12 (.t 0)⟩, ⟨none, some 3, .box 12 (.t 1)⟩, ⟨none, some 4, .copy (.c (.lit (.bool false)))⟩] [] []) (.seq (.reg [⟨none, some 8, .load true 12 (.t 2)⟩, ⟨none, some 9, .load true 12 (.t 3)⟩, ⟨none, some 10, .call 38 [(.t 8), (.t 9)]⟩, ⟨none, some 7, .copy (.t 10)⟩, ⟨none, some 11, .extract (.t 7) 0⟩, ⟨none, some 12, .extract (.t 7) 1⟩, ⟨none, some 5, .copy (.t 11)⟩, ⟨none, some 6, .copy (.t 12)⟩] [] []) (.seq (.reg [⟨none, some 13, .copy (.t 6)⟩, ⟨none, some 14, .copy (.t 13)⟩, ⟨some (14, true), some 15, .copy (.t 5)⟩, ⟨some (14, true), some 16, .bin .lss (.t 15) (.c (.lit (.int .i64 0)))⟩, ⟨none, some 17, .pick (.t 14) (.t 16) (.c (.lit (.bool false)))⟩, ⟨none, some 4, .copy (.t 17)⟩] [] []) .ret))), [.tmp 4]⟩
/- field.All -/
def ir28 : IFn := ⟨(.seq (.reg [⟨none, some 1, .box 12 (.t 0)⟩, ⟨none, some 2, .copy (.c nilS)⟩, ⟨none, some 3, .copy (.c (.lit (.int .i64 0)))⟩] [] []) (.seq (.reg [⟨none, some 9, .load true 12 (.t 1)⟩, ⟨none, some 10, .call 42 [(.t 9)]⟩, ⟨none, some 8, .copy (.t 10)⟩, ⟨none, some 11, .extract (.t 8) 0⟩, ⟨none, some 12, .extract (.t 8) 1⟩, ⟨none, some 4, .copy (.t 11)⟩, ⟨none, some 5, .copy (.t 12)⟩] [] []) (.seq (.seq (.reg [⟨none, some 13, .copy (.t 5)⟩, ⟨none, some 14, .bin .neq (.t 13) (.c (.lit (.int .i64 0)))⟩] [] []) (.cond (.t 14) (.seq (.reg [⟨none, some 15, .copy (.t 5)⟩, ⟨none, some 2, .copy (.c nilS)⟩, ⟨none, some 3, .copy (.t 15)⟩] [] []) .ret) .skip)) (.seq (.reg [⟨none, some 17, .copy (.t 4)⟩, ⟨none, some 18, .call 43 [(.t 17)]⟩, ⟨none, some 16, .copy (.t 18)⟩, ⟨none, some 19, .extract (.t 16) 0⟩, ⟨none, some 20, .extract (.t 16) 1⟩, ⟨none, some 6, .copy (.t 19)⟩, ⟨none, some 5, .copy (.t 20)⟩] [] []) (.seq (.seq (.reg [⟨none, some 21, .copy (.t 5)⟩, ⟨none, some 22, .bin .neq (.t 21) (.c (.lit (.int .i64 0)))⟩] [] []) (.cond (.t 22) (.seq (.reg [⟨none, some 23, .copy (.t 5)⟩, ⟨none, some 2, .copy (.c nilS)⟩, ⟨none, some 3, .copy (.t 23)⟩] [] []) .ret) .skip)) (.seq (.reg [⟨none, some 25, .copy (.t 6)⟩, ⟨none, some 26, .call 44 [(.t 25)]⟩, ⟨none, some 24, .copy (.t 26)⟩, ⟨none, some 27, .extract (.t 24) 0⟩, ⟨none, some 28, .extract (.t 24) 1⟩, ⟨none, some 7, .copy (.t 27)⟩, ⟨none, some 5, .copy (.t 28)⟩] [] []) (.seq (.seq (.reg [⟨none, some 29, .copy (.t 5)⟩, ⟨none, some 30, .bin .neq (.t 29) (.c (.lit (.int .i64 0)))⟩] [] []) (.cond (.t 30) (.seq (.reg [⟨none, some 31, .copy (.t 5)⟩, ⟨none, some 2, .copy (.c nilS)⟩, ⟨none, some 3, .copy (.t 31)⟩] [] []) .ret) .skip)) (.seq (.reg [⟨none, some 32, .copy (.t 4)⟩, ⟨none, some 33, .copy (.t 7)⟩, ⟨none, some 34, .mkSlice true 1 [(.lit (.int .i64 0))] 1 [(0, (.c (.lit (.int .i64 1))))]⟩, ⟨none, some 35, .call 46 [(.t 34), (.c (.lit (.int .i64 10)))]⟩, ⟨none, some 36, .mkSlice true 1 [nilS] 3 [(0, (.t 32)), (1, (.t 33)), (2, (.t 35))]⟩, ⟨none, some 37, .call 45 [(.t 36)]⟩, ⟨none, some 2, .copy (.t 37)⟩, ⟨none, some 3, .copy (.c (.lit (.int .i64 0)))⟩] [] []) .ret)))))))), [.tmp 2, .tmp 3]⟩
/- stuff.Add -/
def L29_0 : ICode := (.seq (.reg [⟨none, some 22, .bin .lss (.t 21) (.t 20)⟩] [] []) (.seq (.cond (.t 22) .skip (.exit 0)) (.seq (.block 1 (.seq (.reg [⟨none, some 23, .idxS 1 (.t 19) (.t 21)⟩, ⟨none, some 24, .load false 1 (.t 23)⟩, ⟨none, some 7, .copy (.t 24)⟩] [] []) (.seq (.reg [⟨none, some 25, .copy (.t 5)⟩, ⟨none, some 26, .copy (.t 7)⟩, ⟨none, some 27, .callV (.t 25) [(.t 26)]⟩] [] []) (.cond (.t 27) (.reg [⟨none, some 28, .copy (.t 5)⟩, ⟨none, some 29, .copy (.t 7)⟩, ⟨none, some 30, .call 49 [(.t 29)]⟩, ⟨none, some 31, .callV (.t 28) [(.t 30)]⟩] [] []) .skip)))) (.reg [⟨none, some 32, .bin .add (.t 21) (.c (.lit (.int .i64 1)))⟩, ⟨none, some 21, .copy (.t 32)⟩] [] []))))
def ir29 : IFn := ⟨(.seq (.reg [⟨none, some 2, .copy (.c nilS)⟩] [] []) (.seq (.seq (.reg [⟨none, some 8, .copy (.t 0)⟩, ⟨none, some 9, .call 47 [(.t 8)]⟩, ⟨none, some 10, .bin .geq (.t 9) (.c (.lit (.int .i64 0)))⟩] [] []) (.cond (.t 10) (.seq (.reg [⟨none, some 2, .copy (.c nilS)⟩] [] []) .ret) .skip)) (.seq (.reg [⟨none, some 11, .copy (.t 0)⟩, ⟨none, some 12, .len (.t 11)⟩, ⟨none, some 13, .copy (.t 0)⟩, ⟨none, some 14, .len (.t 13)⟩, ⟨none, some 15, .bin .quo (.t 14) (.c (.lit (.int .i64 4)))⟩, ⟨none, some 16, .bin .add (.t 12) (.t 15)⟩, ⟨none, some 17, .make true 1 8 [(.lit (.int .i64 0))] (.c (.lit (.int .i64 0))) (.t 16)⟩, ⟨none, some 3, .alloc [nilS]⟩, ⟨none, none, .store 1 (.t 3) (.t 17)⟩] [] []) (.seq (.reg [⟨none, some 4, .alloc [(.lit (.int .i64 0))]⟩, ⟨none, none, .store 1 (.t 4) (.c (.lit (.int .i64 0)))⟩] [] []) (.seq (.reg [⟨none, some 18, .mkFunc (.func 48) [] [(.t 3), (.t 4)]⟩, ⟨none, some 5, .copy (.t 18)⟩] [] []) (.seq (.seq (.reg [⟨none, some 19, .copy (.t 0)⟩, ⟨none, some 20, .len (.t 19)⟩, ⟨none, some 21, .copy (.c (.lit (.int .i64 0)))⟩] [] []) (.block 0 (.loop [3, 5, 19, 20, 21] L29_0))) (.seq (.reg [⟨none, some 33, .load false 1 (.t 3)⟩, ⟨none, some 2, .copy (.t 33)⟩] [] []) .ret))))))), [.tmp 2]⟩
/- slices.Max[[]byte,byte] -/
def L30_0 : ICode := (.seq (.seq (.reg [⟨none, some 12, .copy (.t 4)⟩, ⟨none, some 13, .copy (.t 0)⟩, ⟨none, some 14, .len (.t 13)⟩, ⟨none, some 15, .bin .lss (.t 12) (.t 14)⟩] [] []) (.cond (.t 15) .skip (.exit 0))) (.seq (.block 1 (.reg [⟨none, some 18, .copy (.t 3)⟩, ⟨none, some 19, .copy (.t 0)⟩, ⟨none, some 20, .copy (.t 4)⟩, ⟨none, some 21, .idxS 1 (.t 19) (.t 20)⟩, ⟨none, some 22, .load false 1 (.t 21)⟩, ⟨none, some 23, .maxI (.t 18) [(.t 22)]⟩, ⟨none, some 3, .copy (.t 23)⟩] [] [])) (.reg [⟨none, some 16, .copy (.t 4)⟩, ⟨none, some 17, .bin .add (.t 16) (.c (.lit (.int .i64 1)))⟩, ⟨none, some 4, .copy (.t 17)⟩] [] [])))
def ir30 : IFn := ⟨(.seq (.reg [⟨none, some 2, .copy (.c (.lit (.int .u8 0)))⟩] [] []) (.seq (.seq (.reg [⟨none, some 5, .copy (.t 0)⟩, ⟨none, some 6, .len (.t 5)⟩, ⟨none, some 7, .bin .lss (.t 6) (.c (.lit (.int .i64 1)))⟩] [] []) (.cond (.t 7) (.reg [⟨none, some 8, .mkIface 9 (.c (.lit (.string ⟨#[115, 108, 105, 99, 101, 115, 46, 77, 97, 120, 58, 32, 101, 109, 112, 116, 121, 32, 108, 105, 115, 116]⟩)))⟩, ⟨none, none, .fail⟩] [] []) .skip)) (.seq (.reg [⟨none, some 9, .copy (.t 0)⟩, ⟨none, some 10, .idxS 1 (.t 9) (.c (.lit (.int .i64 0)))⟩, ⟨none, some 11, .load false 1 (.t 10)⟩, ⟨none, some 3, .copy (.t 11)⟩] [] []) (.seq (.seq (.reg [⟨none, some 4, .copy (.c (.lit (.int .i64 1)))⟩] [] []) (.block 0 (.loop [0, 3, 4] L30_0))) (.seq (.reg [⟨none, some 24, .copy (.t 3)⟩, ⟨none, some 2, .copy (.t 24)⟩] [] []) .ret))))), [.tmp 2]⟩
/- ctl.Node).pending -/
def ir31 : IFn := ⟨(.seq (.reg [⟨none, some 2, .copy (.c (.lit (.bool false)))⟩] [] []) (.seq (.reg [⟨none, some 3, .copy (.t 0)⟩, ⟨none, some 4, .nilCheck (.t 3)⟩, ⟨none, some 5, .fieldA 3 (.t 4)⟩, ⟨none, some 6, .load false 1 (.t 5)⟩, ⟨none, some 7, .call 34 [(.t 6)]⟩, ⟨none, some 8, .bin .gtr (.t 7) (.c (.lit (.int .i64 0)))⟩, ⟨none, some 2, .copy (.t 8)⟩] [] []) .ret)), [.tmp 2]⟩
/- ctl.Node).frame -/
def ir32 : IFn := ⟨(.seq (.reg [⟨none, some 2, .copy (.c (.lit (.int .i64 0)))⟩] [] []) (.seq (.reg [⟨none, some 7, .copy (.t 0)⟩, ⟨none, some 8, .nilCheck (.t 7)⟩, ⟨none, some 9, .fieldA 0 (.t 8)⟩, ⟨none, some 10, .call 50 [(.t 9)]⟩, ⟨none, some 6, .copy (.t 10)⟩, ⟨none, some 11, .extract (.t 6) 0⟩, ⟨none, some 12, .extract (.t 6) 1⟩, ⟨none, some 13, .extract (.t 6) 2⟩, ⟨none, some 3, .copy (.t 11)⟩, ⟨none, some 4, .copy (.t 12)⟩, ⟨none, some 5, .copy (.t 13)⟩] [] []) (.seq (.block 0 (.seq (.reg [⟨none, some 15, .copy (.t 0)⟩, ⟨none, some 16, .nilCheck (.t 15)⟩, ⟨none, some 17, .fieldA 8 (.t 16)⟩, ⟨none, some 18, .load false 1 (.t 17)⟩, ⟨none, some 19, .copy (.t 18)⟩, ⟨some (19, true), some 20, .copy (.t 5)⟩, ⟨none, some 21, .pick (.t 19) (.t 20) (.c (.lit (.bool false)))⟩, ⟨none, some 14, .copy (.t 21)⟩] [] []) (.cond (.t 14) (.seq (.reg [⟨none, some 22, .copy (.t 0)⟩, ⟨none, some 23, .nilCheck (.t 22)⟩, ⟨none, some 24, .fieldA 0 (.t 23)⟩, ⟨none, some 25, .fieldA 1 (.t 24)⟩, ⟨none, some 26, .load false 1 (.t 25)⟩, ⟨none, some 27, .bin .sub (.c (.lit (.int .i64 1))) (.t 26)⟩, ⟨none, some 2, .copy (.t 27)⟩] [] []) .ret) (.seq (.reg [⟨none, some 29, .copy (.t 0)⟩, ⟨none, some 30, .nilCheck (.t 29)⟩, ⟨none, some 31, .fieldA 8 (.t 30)⟩, ⟨none, some 32, .load false 1 (.t 31)⟩, ⟨none, some 28, .copy (.t 32)⟩] [] []) (.cond (.t 28) (.seq (.reg [⟨none, some 33, .copy (.t 0)⟩, ⟨none, some 34, .nilCheck (.t 33)⟩, ⟨none, some 35, .fieldA 26 (.t 34)⟩, ⟨none, some 36, .load false 1 (.t 35)⟩, ⟨none, some 37, .copy (.t 0)⟩, ⟨none, some 38, .nilCheck (.t 37)⟩, ⟨none, some 39, .fieldA 0 (.t 38)⟩, ⟨none, some 40, .fieldA 0 (.t 39)⟩, ⟨none, some 41, .load false 1 (.t 40)⟩, ⟨none, some 42, .len (.t 41)⟩, ⟨none, some 43, .idxS 1 (.t 36) (.t 42)⟩, ⟨none, some 44, .load false 1 (.t 43)⟩, ⟨none, some 2, .copy (.t 44)⟩] [] []) .ret) (.seq (.reg [⟨none, some 46, .copy (.t 3)⟩, ⟨none, some 47, .bin .eql (.t 46) (.c (.lit (.int .i64 6)))⟩, ⟨none, some 48, .copy (.t 47)⟩, ⟨some (48, true), some 49, .copy (.t 0)⟩, ⟨some (48, true), some 50, .nilCheck (.t 49)⟩, ⟨some (48, true), some 51, .fieldA 0 (.t 50)⟩, ⟨some (48, true), some 52, .call 51 [(.t 51)]⟩, ⟨none, some 53, .pick (.t 48) (.t 52) (.c (.lit (.bool false)))⟩, ⟨none, some 45, .copy (.t 53)⟩] [] []) (.cond (.t 45) (.seq (.reg [⟨none, some 2, .copy (.c (.lit (.int .i64 0)))⟩] [] []) .ret) .skip))))))) (.seq (.reg [⟨none, some 2, .copy (.c (.lit (.int .i64 1)))⟩] [] []) .ret)))), [.tmp 2]⟩
/- ctl.steps -/
def ir33 : IFn := ⟨(.seq (.reg [⟨none, some 0, .alloc [(.lit .nilFunc), (.lit .nilFunc), (.lit .nilFunc), (.lit .nilFunc), (.lit .nilFunc), (.lit .nilFunc), (.lit .nilFunc), (.lit .nilFunc), (.lit .nilFunc), (.lit .nilFunc), (.lit .nilFunc)]⟩] [] []) (.seq (.reg [⟨none, some 1, .build [(.lit .nilFunc), (.lit .nilFunc), (.lit .nilFunc), (.lit .nilFunc), (.lit .nilFunc), (.lit .nilFunc), (.lit .nilFunc), (.lit .nilFunc), (.lit .nilFunc), (.lit .nilFunc), (.lit .nilFunc)] [(0, 1, (.c (.func (.func 52) [] []))), (1, 1, (.c (.func (.func 53) [] []))), (2, 1, (.c (.func (.func 54) [] []))), (3, 1, (.c (.func (.func 55) [] []))), (4, 1, (.c (.func (.func 56) [] []))), (5, 1, (.c (.func (.func 55) [] []))), (6, 1, (.c (.func (.func 57) [] []))), (7, 1, (.c (.func (.func 58) [] []))), (8, 1, (.c (.func (.func 59) [] []))), (9, 1, (.c (.func (.func 60) [] []))), (10, 1, (.c (.func (.func 61) [] [])))]⟩, ⟨none, none, .store 11 (.t 0) (.t 1)⟩] [] []) .ret)), [.cell 0 true 11]⟩
/- queue.Queue).Len -/
def ir34 : IFn := ⟨(.seq (.reg [⟨none, some 2, .copy (.c (.lit (.int .i64 0)))⟩] [] []) (.seq (.seq (.reg [⟨none, some 3, .copy (.t 0)⟩, ⟨none, some 4, .isNil false .ptr (.t 3)⟩] [] []) (.cond (.t 4) (.seq (.reg [⟨none, some 2, .copy (.c (.lit (.int .i64 0)))⟩] [] []) .ret) .skip)) (.seq (.reg [⟨none, some 5, .copy (.t 0)⟩, ⟨none, some 6, .nilCheck (.t 5)⟩, ⟨none, some 7, .fieldA 0 (.t 6)⟩, ⟨none, some 8, .call 62 [(.t 7)]⟩, ⟨none, some 2, .copy (.t 8)⟩] [] []) .ret))), [.tmp 2]⟩
/- queue.New -/
def ir35 : IFn := ⟨(.seq (.reg [⟨none, some 2, .copy (.c (.lit (.pointer none)))⟩, ⟨none, some 3, .copy (.c (.lit (.int .i64 0)))⟩] [] []) (.seq (.seq (.reg [⟨none, some 4, .copy (.t 0)⟩, ⟨none, some 5, .bin .lss (.t 4) (.c (.lit (.int .i64 1)))⟩, ⟨none, some 6, .copy (.t 5)⟩, ⟨some (6, false), some 7, .copy (.t 0)⟩, ⟨some (6, false), some 8, .bin .gtr (.t 7) (.c (.lit (.int .i64 16)))⟩, ⟨none, some 9, .pick (.t 6) (.c (.lit (.bool true))) (.t 8)⟩] [] []) (.cond (.t 9) (.seq (.reg [⟨none, some 2, .copy (.c (.lit (.pointer none)))⟩, ⟨none, some 3, .copy (.c (.lit (.int .i64 10)))⟩] [] []) .ret) .skip)) (.seq (.reg [⟨none, some 10, .copy (.t 0)⟩, ⟨none, some 11, .build [nilS, (.lit (.int .i64 0))] [(1, 1, (.t 10))]⟩, ⟨none, some 12, .box 2 (.t 11)⟩, ⟨none, some 2, .copy (.t 12)⟩, ⟨none, some 3, .copy (.c (.lit (.int .i64 0)))⟩] [] []) .ret))), [.tmp 2, .tmp 3]⟩
/- queue.Queue).Put -/
def ir36 : IFn := ⟨(.seq (.reg [⟨none, some 3, .box 12 (.t 1)⟩, ⟨none, some 4, .copy (.c (.lit (.int .i64 0)))⟩] [] []) (.seq (.seq (.reg [⟨none, some 6, .copy (.t 0)⟩, ⟨none, some 7, .isNil false .ptr (.t 6)⟩] [] []) (.cond (.t 7) (.seq (.reg [⟨none, some 4, .copy (.c (.lit (.int .i64 2)))⟩] [] []) .ret) .skip)) (.seq (.seq (.reg [⟨none, some 8, .load true 12 (.t 3)⟩, ⟨none, some 9, .call 15 [(.t 8)]⟩, ⟨none, some 5, .copy (.t 9)⟩] [] []) (.seq (.reg [⟨none, some 10, .copy (.t 5)⟩, ⟨none, some 11, .bin .neq (.t 10) (.c (.lit (.int .i64 0)))⟩] [] []) (.cond (.t 11) (.seq (.reg [⟨none, some 12, .copy (.t 5)⟩, ⟨none, some 4, .copy (.t 12)⟩] [] []) .ret) .skip))) (.seq (.seq (.reg [⟨none, some 13, .copy (.t 0)⟩, ⟨none, some 14, .nilCheck (.t 13)⟩, ⟨none, some 15, .fieldA 0 (.t 14)⟩, ⟨none, some 16, .call 62 [(.t 15)]⟩, ⟨none, some 17, .copy (.t 0)⟩, ⟨none, some 18, .nilCheck (.t 17)⟩, ⟨none, some 19, .fieldA 1 (.t 18)⟩, ⟨none, some 20, .load false 1 (.t 19)⟩, ⟨none, some 21, .bin .geq (.t 16) (.t 20)⟩] [(7, 3)] []) (.cond (.t 21) (.seq (.reg [⟨none, some 4, .copy (.c (.lit (.int .i64 15)))⟩] [] []) .ret) .skip)) (.seq (.reg [⟨none, some 22, .copy (.t 0)⟩, ⟨none, some 23, .nilCheck (.t 22)⟩, ⟨none, some 24, .fieldA 0 (.t 23)⟩, ⟨none, some 25, .load true 12 (.t 3)⟩, ⟨none, some 26, .call 63 [(.t 24), (.t 25)]⟩] [] []) (.seq (.reg [⟨none, some 4, .copy (.c (.lit (.int .i64 0)))⟩] [] []) .ret)))))), [.tmp 4]⟩
/- count.within -/
def ir37 : IFn := ⟨(.seq (.reg [⟨none, some 4, .copy (.c (.lit (.bool false)))⟩] [] []) (.seq (.reg [⟨none, some 5, .copy (.t 0)⟩, ⟨none, some 6, .bin .geq (.t 5) (.c (.lit (.int .i64 0)))⟩, ⟨none, some 7, .copy (.t 6)⟩, ⟨some (7, true), some 8, .copy (.t 0)⟩, ⟨some (7, true), some 9, .copy (.t 1)⟩, ⟨some (7, true), some 10, .bin .leq (.t 8) (.t 9)⟩, ⟨none, some 11, .pick (.t 7) (.t 10) (.c (.lit (.bool false)))⟩, ⟨none, some 4, .copy (.t 11)⟩] [] []) .ret)), [.tmp 4]⟩
/- frame.compare -/
def ir38 : IFn := ⟨(.seq (.reg [⟨none, some 2, .box 12 (.t 0)⟩, ⟨none, some 3, .box 12 (.t 1)⟩, ⟨none, some 4, .copy (.c (.lit (.int .i64 0)))⟩, ⟨none, some 5, .copy (.c (.lit (.bool false)))⟩] [] []) (.seq (.reg [⟨none, some 11, .load true 12 (.t 2)⟩, ⟨none, some 12, .call 64 [(.t 11)]⟩, ⟨none, some 10, .copy (.t 12)⟩, ⟨none, some 13, .extract (.t 10) 0⟩, ⟨none, some 14, .extract (.t 10) 1⟩, ⟨none, some 6, .copy (.t 13)⟩, ⟨none, some 7, .copy (.t 14)⟩] [] []) (.seq (.reg [⟨none, some 16, .load true 12 (.t 3)⟩, ⟨none, some 17, .call 64 [(.t 16)]⟩, ⟨none, some 15, .copy (.t 17)⟩, ⟨none, some 18, .extract (.t 15) 0⟩, ⟨none, some 19, .extract (.t 15) 1⟩, ⟨none, some 8, .copy (.t 18)⟩, ⟨none, some 9, .copy (.t 19)⟩] [] []) (.seq (.reg [⟨none, some 20, .copy (.t 6)⟩, ⟨none, some 21, .copy (.t 8)⟩, ⟨none, some 22, .call 65 [(.t 20), (.t 21)]⟩, ⟨none, some 23, .copy (.t 7)⟩, ⟨none, some 24, .bin .eql (.t 23) (.c (.lit (.int .i64 0)))⟩, ⟨none, some 25, .copy (.t 24)⟩, ⟨some (25, true), some 26, .copy (.t 9)⟩, ⟨some (25, true), some 27, .bin .eql (.t 26) (.c (.lit (.int .i64 0)))⟩, ⟨none, some 28, .pick (.t 25) (.t 27) (.c (.lit (.bool false)))⟩, ⟨none, some 4, .copy (.t 22)⟩, ⟨none, some 5, .copy (.t 28)⟩] [] []) .ret)))), [.tmp 4, .tmp 5]⟩
/- field.Bits -/
def L42_0 : ICode := (.seq (.reg [⟨none, some 42, .bin .lss (.t 41) (.t 40)⟩] [] []) (.seq (.cond (.t 42) .skip (.exit 0)) (.seq (.block 1 (.seq (.reg [⟨none, some 43, .idxS 1 (.t 39) (.t 41)⟩, ⟨none, some 44, .load false 1 (.t 43)⟩, ⟨none, some 11, .copy (.t 44)⟩] [] []) (.reg [⟨none, some 45, .copy (.t 8)⟩, ⟨none, some 46, .copy (.t 11)⟩, ⟨none, some 47, .toInt .u64 (.t 46)⟩, ⟨none, some 48, .callV (.t 45) [(.t 47), (.c (.lit (.int .i64 8)))]⟩] [] []))) (.reg [⟨none, some 49, .bin .add (.t 41) (.c (.lit (.int .i64 1)))⟩, ⟨none, some 41, .copy (.t 49)⟩] [] []))))
def ir42 : IFn := ⟨(.seq (.reg [⟨none, some 1, .box 12 (.t 0)⟩, ⟨none, some 2, .copy (.c nilS)⟩, ⟨none, some 3, .copy (.c (.lit (.int .i64 0)))⟩] [] []) (.seq (.reg [⟨none, some 13, .load true 12 (.t 1)⟩, ⟨none, some 14, .call 64 [(.t 13)]⟩, ⟨none, some 12, .copy (.t 14)⟩, ⟨none, some 15, .extract (.t 12) 0⟩, ⟨none, some 16, .extract (.t 12) 1⟩, ⟨none, some 4, .copy (.t 15)⟩, ⟨none, some 5, .copy (.t 16)⟩] [] []) (.seq (.seq (.reg [⟨none, some 17, .copy (.t 5)⟩, ⟨none, some 18, .bin .neq (.t 17) (.c (.lit (.int .i64 0)))⟩] [] []) (.cond (.t 18) (.seq (.reg [⟨none, some 19, .copy (.t 5)⟩, ⟨none, some 2, .copy (.c nilS)⟩, ⟨none, some 3, .copy (.t 19)⟩] [] []) .ret) .skip)) (.seq (.reg [⟨none, some 20, .mkSlice true 1 [(.lit (.int .i64 0))] 1 [(0, (.c (.lit (.int .i64 0))))]⟩, ⟨none, some 21, .copy (.t 4)⟩, ⟨none, some 22, .append true 1 8 (.t 20) (.t 21)⟩, ⟨none, some 6, .alloc [nilS]⟩, ⟨none, none, .store 1 (.t 6) (.t 22)⟩] [] []) (.seq (.reg [⟨none, some 7, .alloc [(.lit (.int .i64 0))]⟩, ⟨none, none, .store 1 (.t 7) (.c (.lit (.int .i64 0)))⟩] [] []) (.seq (.reg [⟨none, some 23, .mkFunc (.func 67) [] [(.t 7), (.t 6)]⟩, ⟨none, some 8, .copy (.t 23)⟩] [] []) (.seq (.reg [⟨none, some 9, .copy (.c (.lit (.int .i64 1)))⟩] [] []) (.seq (.seq (.reg [⟨none, some 24, .fieldA 1 (.t 1)⟩, ⟨none, some 25, .load false 1 (.t 24)⟩] [] []) (.cond (.t 25) (.reg [⟨none, some 9, .copy (.c (.lit (.int .i64 2)))⟩] [] []) .skip)) (.seq (.reg [⟨none, some 26, .copy (.t 8)⟩, ⟨none, some 27, .fieldA 3 (.t 1)⟩, ⟨none, some 28, .load false 1 (.t 27)⟩, ⟨none, some 29, .toInt .u64 (.t 28)⟩, ⟨none, some 30, .copy (.t 9)⟩, ⟨none, some 31, .bin .add (.t 30) (.c (.lit (.int .i64 4)))⟩, ⟨none, some 32, .callV (.t 26) [(.t 29), (.t 31)]⟩] [] []) (.seq (.seq (.reg [⟨none, some 33, .fieldA 2 (.t 1)⟩, ⟨none, some 34, .load false 1 (.t 33)⟩, ⟨none, some 35, .un .not (.t 34)⟩] [] []) (.cond (.t 35) (.seq (.reg [⟨none, some 36, .fieldA 4 (.t 1)⟩, ⟨none, some 37, .fieldA 3 (.t 1)⟩, ⟨none, some 38, .load false 1 (.t 37)⟩, ⟨none, some 39, .sliceArr 8 1 (.t 36) none (some (.t 38))⟩, ⟨none, some 40, .len (.t 39)⟩, ⟨none, some 41, .copy (.c (.lit (.int .i64 0)))⟩] [] []) (.block 0 (.loop [6, 7, 8, 39, 40, 41] L42_0))) .skip)) (.seq (.seq (.reg [⟨none, some 50, .load false 1 (.t 7)⟩, ⟨none, some 51, .bin .neq (.t 50) (.c (.lit (.int .i64 0)))⟩] [] []) (.cond (.t 51) (.seq (.reg [⟨none, some 52, .load false 1 (.t 7)⟩, ⟨none, some 2, .copy (.c nilS)⟩, ⟨none, some 3, .copy (.t 52)⟩] [] []) .ret) .skip)) (.seq (.reg [⟨none, some 53, .load false 1 (.t 6)⟩, ⟨none, some 2, .copy (.t 53)⟩, ⟨none, some 3, .copy (.c (.lit (.int .i64 0)))⟩] [] []) .ret)))))))))))), [.tmp 2, .tmp 3]⟩
/- crc15.Sum -/
def L43_0 : ICode := (.seq (.reg [⟨none, some 14, .bin .lss (.t 13) (.t 12)⟩] [] []) (.seq (.cond (.t 14) .skip (.exit 0)) (.seq (.block 1 (.seq (.reg [⟨none, some 15, .copy (.t 13)⟩, ⟨none, some 6, .copy (.t 15)⟩] [] []) (.reg [⟨none, some 16, .copy (.t 5)⟩, ⟨none, some 17, .copy (.t 0)⟩, ⟨none, some 18, .copy (.t 6)⟩, ⟨none, some 19, .idxS 1 (.t 17) (.t 18)⟩, ⟨none, some 20, .load false 1 (.t 19)⟩, ⟨none, some 21, .callV (.t 16) [(.t 20)]⟩] [] []))) (.reg [⟨none, some 22, .bin .add (.t 13) (.c (.lit (.int .i64 1)))⟩, ⟨none, some 13, .copy (.t 22)⟩] [] []))))
def ir43 : IFn := ⟨(.seq (.reg [⟨none, some 2, .copy (.c (.lit (.int .i64 0)))⟩, ⟨none, some 3, .copy (.c (.lit (.int .i64 0)))⟩] [] []) (.seq (.seq (.reg [⟨none, some 7, .copy (.t 0)⟩, ⟨none, some 8, .call 47 [(.t 7)]⟩, ⟨none, some 9, .bin .geq (.t 8) (.c (.lit (.int .i64 0)))⟩] [] []) (.cond (.t 9) (.seq (.reg [⟨none, some 2, .copy (.c (.lit (.int .i64 0)))⟩, ⟨none, some 3, .copy (.c (.lit (.int .i64 10)))⟩] [] []) .ret) .skip)) (.seq (.reg [⟨none, some 4, .alloc [(.lit (.int .i64 0))]⟩, ⟨none, none, .store 1 (.t 4) (.c (.lit (.int .i64 0)))⟩] [] []) (.seq (.reg [⟨none, some 10, .mkFunc (.func 69) [] [(.t 4)]⟩, ⟨none, some 5, .copy (.t 10)⟩] [] []) (.seq (.seq (.reg [⟨none, some 11, .copy (.t 0)⟩, ⟨none, some 12, .len (.t 11)⟩, ⟨none, some 13, .copy (.c (.lit (.int .i64 0)))⟩] [] []) (.block 0 (.loop [0, 4, 5, 12, 13] L43_0))) (.seq (.reg [⟨none, some 23, .load false 1 (.t 4)⟩, ⟨none, some 2, .copy (.t 23)⟩, ⟨none, some 3, .copy (.c (.lit (.int .i64 0)))⟩] [] []) .ret)))))), [.tmp 2, .tmp 3]⟩
/- crc15.Bits -/
def ir44 : IFn := ⟨(.seq (.reg [⟨none, some 2, .copy (.c nilS)⟩, ⟨none, some 3, .copy (.c (.lit (.int .i64 0)))⟩] [] []) (.seq (.seq (.reg [⟨none, some 4, .copy (.t 0)⟩, ⟨none, some 5, .call 71 [(.t 4)]⟩, ⟨none, some 6, .un .not (.t 5)⟩] [] []) (.cond (.t 6) (.seq (.reg [⟨none, some 2, .copy (.c nilS)⟩, ⟨none, some 3, .copy (.c (.lit (.int .i64 10)))⟩] [] []) .ret) .skip)) (.seq (.reg [⟨none, some 7, .copy (.t 0)⟩, ⟨none, some 8, .toInt .u64 (.t 7)⟩, ⟨none, some 9, .call 68 [(.t 8), (.c (.lit (.int .i64 15)))]⟩, ⟨none, some 10, .extract (.t 9) 0⟩, ⟨none, some 11, .extract (.t 9) 1⟩, ⟨none, some 2, .copy (.t 10)⟩, ⟨none, some 3, .copy (.t 11)⟩] [] []) .ret))), [.tmp 2, .tmp 3]⟩
/- slices.Concat[[]int,int] -/
def L45_0 : ICode := (.seq (.reg [⟨none, some 12, .bin .lss (.t 11) (.t 10)⟩] [] []) (.seq (.cond (.t 12) .skip (.exit 0)) (.seq (.block 1 (.seq (.reg [⟨none, some 13, .idxS 1 (.t 9) (.t 11)⟩, ⟨none, some 14, .load false 1 (.t 13)⟩, ⟨none, some 5, .copy (.t 14)⟩] [] []) (.seq (.reg [⟨none, some 15, .copy (.t 3)⟩, ⟨none, some 16, .copy (.t 5)⟩, ⟨none, some 17, .len (.t 16)⟩, ⟨none, some 18, .bin .add (.t 15) (.t 17)⟩, ⟨none, some 3, .copy (.t 18)⟩] [] []) (.seq (.reg [⟨none, some 19, .copy (.t 3)⟩, ⟨none, some 20, .bin .lss (.t 19) (.c (.lit (.int .i64 0)))⟩] [] []) (.cond (.t 20) (.reg [⟨none, some 21, .mkIface 9 (.c (.lit (.string ⟨#[108, 101, 110, 32, 111, 117, 116, 32, 111, 102, 32, 114, 97, 110, 103, 101]⟩)))⟩, ⟨none, none, .fail⟩] [] []) .skip))))) (.reg [⟨none, some 22, .bin .add (.t 11) (.c (.lit (.int .i64 1)))⟩, ⟨none, some 11, .copy (.t 22)⟩] [] []))))
def L45_1 : ICode := (.seq (.reg [⟨none, some 28, .bin .lss (.t 27) (.t 26)⟩] [] []) (.seq (.cond (.t 28) .skip (.exit 2)) (.seq (.block 3 (.seq (.reg [⟨none, some 29, .idxS 1 (.t 25) (.t 27)⟩, ⟨none, some 30, .load false 1 (.t 29)⟩, ⟨none, some 8, .copy (.t 30)⟩] [] []) (.reg [⟨none, some 31, .copy (.t 6)⟩, ⟨none, some 32, .copy (.t 8)⟩, ⟨none, some 33, .append true 1 8 (.t 31) (.t 32)⟩, ⟨none, some 6, .copy (.t 33)⟩] [] []))) (.reg [⟨none, some 34, .bin .add (.t 27) (.c (.lit (.int .i64 1)))⟩, ⟨none, some 27, .copy (.t 34)⟩] [] []))))
def ir45 : IFn := ⟨(.seq (.reg [⟨none, some 2, .copy (.c nilS)⟩] [] []) (.seq (.reg [⟨none, some 3, .copy (.c (.lit (.int .i64 0)))⟩] [] []) (.seq (.seq (.reg [⟨none, some 9, .copy (.t 0)⟩, ⟨none, some 10, .len (.t 9)⟩, ⟨none, some 11, .copy (.c (.lit (.int .i64 0)))⟩] [] []) (.block 0 (.loop [0, 3, 9, 10, 11] L45_0))) (.seq (.reg [⟨none, some 23, .copy (.t 3)⟩, ⟨none, some 24, .call 72 [(.c nilS), (.t 23)]⟩, ⟨none, some 6, .copy (.t 24)⟩] [] []) (.seq (.seq (.reg [⟨none, some 25, .copy (.t 0)⟩, ⟨none, some 26, .len (.t 25)⟩, ⟨none, some 27, .copy (.c (.lit (.int .i64 0)))⟩] [] []) (.block 2 (.loop [6, 25, 26, 27] L45_1))) (.seq (.reg [⟨none, some 35, .copy (.t 6)⟩, ⟨none, some 2, .copy (.t 35)⟩] [] []) .ret)))))), [.tmp 2]⟩
/- slices.Repeat[[]int,int] -/
def L46_0 : ICode := (.seq (.seq (.reg [⟨none, some 34, .copy (.t 8)⟩, ⟨none, some 35, .copy (.t 7)⟩, ⟨none, some 36, .len (.t 35)⟩, ⟨none, some 37, .bin .lss (.t 34) (.t 36)⟩] [] []) (.cond (.t 37) .skip (.exit 0))) (.block 1 (.reg [⟨none, some 38, .copy (.t 8)⟩, ⟨none, some 39, .copy (.t 7)⟩, ⟨none, some 40, .copy (.t 8)⟩, ⟨none, some 41, .slice 1 (.t 39) (some (.t 40)) none none⟩, ⟨none, some 42, .copy (.t 7)⟩, ⟨none, some 43, .copy (.t 8)⟩, ⟨none, some 44, .slice 1 (.t 42) none (some (.t 43)) none⟩, ⟨none, some 45, .copyS 1 (.t 41) (.t 44)⟩, ⟨none, some 46, .bin .add (.t 38) (.t 45)⟩, ⟨none, some 8, .copy (.t 46)⟩] [] [])))
def ir46 : IFn := ⟨(.seq (.reg [⟨none, some 4, .copy (.c nilS)⟩] [] []) (.seq (.seq (.reg [⟨none, some 9, .copy (.t 1)⟩, ⟨none, some 10, .bin .lss (.t 9) (.c (.lit (.int .i64 0)))⟩] [] []) (.cond (.t 10) (.reg [⟨none, some 11, .mkIface 9 (.c (.lit (.string ⟨#[99, 97, 110, 110, 111, 116, 32, 98, 101, 32, 110, 101, 103, 97, 116, 105, 118, 101]⟩)))⟩, ⟨none, none, .fail⟩] [] []) .skip)) (.seq (.reg [⟨none, some 13, .copy (.t 0)⟩, ⟨none, some 14, .len (.t 13)⟩, ⟨none, some 15, .toInt .u64 (.t 14)⟩, ⟨none, some 16, .copy (.t 1)⟩, ⟨none, some 17, .toInt .u64 (.t 16)⟩, ⟨none, some 18, .call 73 [(.t 15), (.t 17)]⟩, ⟨none, some 12, .copy (.t 18)⟩, ⟨none, some 19, .extract (.t 12) 0⟩, ⟨none, some 20, .extract (.t 12) 1⟩, ⟨none, some 5, .copy (.t 19)⟩, ⟨none, some 6, .copy (.t 20)⟩] [] []) (.seq (.seq (.reg [⟨none, some 21, .copy (.t 5)⟩, ⟨none, some 22, .bin .gtr (.t 21) (.c (.lit (.int .u64 0)))⟩, ⟨none, some 23, .copy (.t 22)⟩, ⟨some (23, false), some 24, .copy (.t 6)⟩, ⟨some (23, false), some 25, .bin .gtr (.t 24) (.c (.lit (.int .u64 9223372036854775807)))⟩, ⟨none, some 26, .pick (.t 23) (.c (.lit (.bool true))) (.t 25)⟩] [] []) (.cond (.t 26) (.reg [⟨none, some 27, .mkIface 9 (.c (.lit (.string ⟨#[116, 104, 101, 32, 114, 101, 115, 117, 108, 116, 32, 111, 102, 32, 40, 108, 101, 110, 40, 120, 41, 32, 42, 32, 99, 111, 117, 110, 116, 41, 32, 111, 118, 101, 114, 102, 108, 111, 119, 115]⟩)))⟩, ⟨none, none, .fail⟩] [] []) .skip)) (.seq (.reg [⟨none, some 28, .copy (.t 6)⟩, ⟨none, some 29, .toInt .i64 (.t 28)⟩, ⟨none, some 30, .make true 1 8 [(.lit (.int .i64 0))] (.t 29) (.t 29)⟩, ⟨none, some 7, .copy (.t 30)⟩] [] []) (.seq (.reg [⟨none, some 31, .copy (.t 7)⟩, ⟨none, some 32, .copy (.t 0)⟩, ⟨none, some 33, .copyS 1 (.t 31) (.t 32)⟩, ⟨none, some 8, .copy (.t 33)⟩] [] []) (.seq (.block 0 (.loop [7, 8] L46_0)) (.seq (.reg [⟨none, some 47, .copy (.t 7)⟩, ⟨none, some 4, .copy (.t 47)⟩] [] []) .ret)))))))), [.tmp 4]⟩
/- bits.Check -/
def ir47 : IFn := ⟨(.seq (.reg [⟨none, some 2, .copy (.c (.lit (.int .i64 0)))⟩] [] []) (.seq (.reg [⟨none, some 3, .copy (.t 0)⟩, ⟨none, some 4, .call 74 [(.t 3), (.c (.func (.func 75) [] []))]⟩, ⟨none, some 2, .copy (.t 4)⟩] [] []) .ret)), [.tmp 2]⟩
/- stuff.Add$1 -/
def ir48 : IFn := ⟨(.seq (.reg [⟨none, some 4, .copy (.c (.lit (.bool false)))⟩] [] []) (.seq (.seq (.reg [⟨none, some 5, .load false 1 (.t 1)⟩, ⟨none, some 6, .len (.t 5)⟩, ⟨none, some 7, .bin .gtr (.t 6) (.c (.lit (.int .i64 0)))⟩, ⟨none, some 8, .copy (.t 7)⟩, ⟨some (8, true), some 9, .load false 1 (.t 1)⟩, ⟨some (8, true), some 10, .load false 1 (.t 1)⟩, ⟨some (8, true), some 11, .len (.t 10)⟩, ⟨some (8, true), some 12, .bin .sub (.t 11) (.c (.lit (.int .i64 1)))⟩, ⟨some (8, true), some 13, .idxS 1 (.t 9) (.t 12)⟩, ⟨some (8, true), some 14, .load false 1 (.t 13)⟩, ⟨some (8, true), some 15, .copy (.t 0)⟩, ⟨some (8, true), some 16, .bin .eql (.t 14) (.t 15)⟩, ⟨none, some 17, .pick (.t 8) (.t 16) (.c (.lit (.bool false)))⟩] [] []) (.cond (.t 17) (.reg [⟨none, some 18, .load false 1 (.t 2)⟩, ⟨none, some 19, .bin .add (.t 18) (.c (.lit (.int .i64 1)))⟩, ⟨none, none, .store 1 (.t 2) (.t 19)⟩] [] []) (.reg [⟨none, none, .store 1 (.t 2) (.c (.lit (.int .i64 1)))⟩] [] []))) (.seq (.reg [⟨none, some 20, .load false 1 (.t 1)⟩, ⟨none, some 21, .copy (.t 0)⟩, ⟨none, some 22, .mkSlice true 1 [(.lit (.int .i64 0))] 1 [(0, (.t 21))]⟩, ⟨none, some 23, .append true 1 8 (.t 20) (.t 22)⟩, ⟨none, none, .store 1 (.t 1) (.t 23)⟩] [] []) (.seq (.reg [⟨none, some 24, .load false 1 (.t 2)⟩, ⟨none, some 25, .bin .eql (.t 24) (.c (.lit (.int .i64 5)))⟩, ⟨none, some 4, .copy (.t 25)⟩] [] []) .ret)))), [.tmp 4]⟩
/- stuff.other -/
def ir49 : IFn := ⟨(.seq (.reg [⟨none, some 2, .copy (.c (.lit (.int .i64 0)))⟩] [] []) (.seq (.reg [⟨none, some 3, .copy (.t 0)⟩, ⟨none, some 4, .bin .sub (.c (.lit (.int .i64 1))) (.t 3)⟩, ⟨none, some 2, .copy (.t 4)⟩] [] []) .ret)), [.tmp 2]⟩
/- ctl.reader).next -/
def ir50 : IFn := ⟨(.seq (.reg [⟨none, some 2, .copy (.c (.lit (.int .i64 0)))⟩, ⟨none, some 3, .copy (.c (.lit (.int .i64 0)))⟩, ⟨none, some 4, .copy (.c (.lit (.bool false)))⟩] [] []) (.seq (.reg [⟨none, some 6, .copy (.t 0)⟩, ⟨none, some 7, .nilCheck (.t 6)⟩, ⟨none, some 8, .fieldA 0 (.t 7)⟩, ⟨none, some 9, .load false 1 (.t 8)⟩, ⟨none, some 10, .call 77 [(.t 9)]⟩, ⟨none, some 5, .copy (.t 10)⟩, ⟨none, some 11, .extract (.t 5) 0⟩, ⟨none, some 12, .extract (.t 5) 1⟩, ⟨none, some 13, .extract (.t 5) 2⟩, ⟨none, some 2, .copy (.t 11)⟩, ⟨none, some 3, .copy (.t 12)⟩] [] []) (.seq (.reg [⟨none, some 14, .copy (.t 2)⟩, ⟨none, some 15, .copy (.t 3)⟩, ⟨none, some 16, .copy (.t 0)⟩, ⟨none, some 17, .nilCheck (.t 16)⟩, ⟨none, some 18, .fieldA 2 (.t 17)⟩, ⟨none, some 19, .load false 1 (.t 18)⟩, ⟨none, some 20, .bin .eql (.t 19) (.c (.lit (.int .i64 5)))⟩, ⟨none, some 2, .copy (.t 14)⟩, ⟨none, some 3, .copy (.t 15)⟩, ⟨none, some 4, .copy (.t 20)⟩] [] []) .ret))), [.tmp 2, .tmp 3, .tmp 4]⟩
/- ctl.reader).right -/
def ir51 : IFn := ⟨(.seq (.reg [⟨none, some 2, .copy (.c (.lit (.bool false)))⟩] [] []) (.seq (.reg [⟨none, some 6, .copy (.t 0)⟩, ⟨none, some 7, .nilCheck (.t 6)⟩, ⟨none, some 8, .fieldA 0 (.t 7)⟩, ⟨none, some 9, .load false 1 (.t 8)⟩, ⟨none, some 10, .call 78 [(.t 9)]⟩, ⟨none, some 5, .copy (.t 10)⟩, ⟨none, some 11, .extract (.t 5) 0⟩, ⟨none, some 12, .extract (.t 5) 1⟩, ⟨none, some 3, .copy (.t 11)⟩, ⟨none, some 4, .copy (.t 12)⟩] [] []) (.seq (.reg [⟨none, some 13, .copy (.t 3)⟩, ⟨none, some 14, .copy (.t 13)⟩, ⟨some (14, true), some 15, .copy (.t 4)⟩, ⟨some (14, true), some 16, .bin .eql (.t 15) (.c (.lit (.int .i64 0)))⟩, ⟨none, some 17, .pick (.t 14) (.t 16) (.c (.lit (.bool false)))⟩, ⟨none, some 2, .copy (.t 17)⟩] [] []) .ret))), [.tmp 2]⟩
/- ctl.Node).joining -/
def ir52 : IFn := ⟨(.seq (.seq (.reg [⟨none, some 6, .copy (.t 0)⟩, ⟨none, some 7, .nilCheck (.t 6)⟩, ⟨none, some 8, .fieldA 5 (.t 7)⟩, ⟨none, some 9, .load false 1 (.t 8)⟩, ⟨none, some 10, .bin .add (.t 9) (.c (.lit (.int .i64 1)))⟩, ⟨none, some 11, .nilCheck (.t 6)⟩, ⟨none, some 12, .fieldA 5 (.t 11)⟩, ⟨none, none, .store 1 (.t 12) (.t 10)⟩] [] []) (.seq (.reg [⟨none, some 13, .copy (.t 2)⟩, ⟨none, some 14, .bin .eql (.t 13) (.c (.lit (.int .i64 0)))⟩] [] []) (.cond (.t 14) (.reg [⟨none, some 15, .copy (.t 0)⟩, ⟨none, some 16, .nilCheck (.t 15)⟩, ⟨none, some 17, .fieldA 5 (.t 16)⟩, ⟨none, none, .store 1 (.t 17) (.c (.lit (.int .i64 0)))⟩] [] []) .skip))) (.seq (.reg [⟨none, some 18, .copy (.t 0)⟩, ⟨none, some 19, .nilCheck (.t 18)⟩, ⟨none, some 20, .fieldA 5 (.t 19)⟩, ⟨none, some 21, .load false 1 (.t 20)⟩, ⟨none, some 22, .bin .eql (.t 21) (.c (.lit (.int .i64 11)))⟩] [] []) (.cond (.t 22) (.reg [⟨none, some 23, .copy (.t 0)⟩, ⟨none, some 24, .call 79 [(.t 23), (.c (.lit (.int .i64 1)))]⟩] [] []) .skip))), []⟩
/- ctl.Node).idle -/
def ir53 : IFn := ⟨(.block 0 (.seq (.reg [⟨none, some 7, .copy (.t 2)⟩, ⟨none, some 8, .bin .eql (.t 7) (.c (.lit (.int .i64 0)))⟩, ⟨none, some 6, .copy (.t 8)⟩] [] []) (.cond (.t 6) (.reg [⟨none, some 9, .copy (.t 0)⟩, ⟨none, some 10, .copy (.t 0)⟩, ⟨none, some 11, .call 31 [(.t 10)]⟩, ⟨none, some 12, .call 80 [(.t 9), (.t 11)]⟩] [] []) (.seq (.reg [⟨none, some 14, .copy (.t 0)⟩, ⟨none, some 15, .call 31 [(.t 14)]⟩, ⟨none, some 13, .copy (.t 15)⟩] [] []) (.cond (.t 13) (.seq (.reg [⟨none, some 16, .copy (.t 0)⟩, ⟨none, some 17, .nilCheck (.t 16)⟩, ⟨none, some 18, .fieldA 7 (.t 17)⟩, ⟨none, none, .store 1 (.t 18) (.c (.lit (.bool true)))⟩] [] []) (.reg [⟨none, some 19, .copy (.t 0)⟩, ⟨none, some 20, .copy (.t 1)⟩, ⟨none, some 21, .call 81 [(.t 19), (.t 20), (.c (.lit (.int .i64 4))), (.c (.lit (.bool true)))]⟩] [] [])) .skip))))), []⟩
/- ctl.Node).inFrame -/
def ir54 : IFn := ⟨(.seq (.reg [⟨none, some 12, .copy (.t 0)⟩, ⟨none, some 13, .nilCheck (.t 12)⟩, ⟨none, some 14, .fieldA 0 (.t 13)⟩, ⟨none, some 15, .call 50 [(.t 14)]⟩, ⟨none, some 11, .copy (.t 15)⟩, ⟨none, some 16, .extract (.t 11) 0⟩, ⟨none, some 17, .extract (.t 11) 1⟩, ⟨none, some 18, .extract (.t 11) 2⟩, ⟨none, some 6, .copy (.t 16)⟩, ⟨none, some 7, .copy (.t 17)⟩, ⟨none, some 8, .copy (.t 18)⟩] [] []) (.seq (.reg [⟨none, some 19, .copy (.t 0)⟩, ⟨none, some 20, .call 32 [(.t 19)]⟩, ⟨none, some 9, .copy (.t 20)⟩] [] []) (.seq (.block 0 (.seq (.reg [⟨none, some 22, .copy (.t 0)⟩, ⟨none, some 23, .nilCheck (.t 22)⟩, ⟨none, some 24, .fieldA 8 (.t 23)⟩, ⟨none, some 25, .load false 1 (.t 24)⟩, ⟨none, some 26, .copy (.t 25)⟩, ⟨some (26, true), some 27, .copy (.t 2)⟩, ⟨some (26, true), some 28, .copy (.t 9)⟩, ⟨some (26, true), some 29, .bin .neq (.t 27) (.t 28)⟩, ⟨none, some 30, .pick (.t 26) (.t 29) (.c (.lit (.bool false)))⟩, ⟨none, some 21, .copy (.t 30)⟩] [] []) (.cond (.t 21) (.seq (.reg [⟨none, some 31, .copy (.t 0)⟩, ⟨none, some 32, .copy (.t 1)⟩, ⟨none, some 33, .copy (.t 2)⟩, ⟨none, some 34, .call 82 [(.t 31), (.t 32), (.t 33)]⟩, ⟨none, some 35, .un .not (.t 34)⟩] [] []) (.cond (.t 35) .ret .skip)) (.seq (.reg [⟨none, some 37, .copy (.t 2)⟩, ⟨none, some 38, .copy (.t 9)⟩, ⟨none, some 39, .bin .neq (.t 37) (.t 38)⟩, ⟨none, some 40, .copy (.t 39)⟩, ⟨some (40, true), some 41, .copy (.t 9)⟩, ⟨some (40, true), some 42, .bin .eql (.t 41) (.c (.lit (.int .i64 0)))⟩, ⟨none, some 43, .pick (.t 40) (.t 42) (.c (.lit (.bool false)))⟩, ⟨none, some 36, .copy (.t 43)⟩] [] []) (.cond (.t 36) (.seq (.reg [⟨none, some 44, .copy (.t 0)⟩, ⟨none, some 45, .copy (.t 1)⟩, ⟨none, some 46, .call 81 [(.t 44), (.t 45), (.c (.lit (.int .i64 4))), (.c (.lit (.bool true)))]⟩] [] []) .ret) .skip))))) (.seq (.block 1 (.seq (.reg [⟨none, some 48, .copy (.t 6)⟩, ⟨none, some 49, .bin .leq (.t 48) (.c (.lit (.int .i64 4)))⟩, ⟨none, some 50, .copy (.t 49)⟩, ⟨some (50, false), some 51, .copy (.t 8)⟩, ⟨none, some 52, .pick (.t 50) (.c (.lit (.bool true))) (.t 51)⟩, ⟨none, some 47, .copy (.t 52)⟩] [] []) (.cond (.t 47) .skip (.seq (.reg [⟨none, some 54, .copy (.t 6)⟩, ⟨none, some 55, .bin .eql (.t 54) (.c (.lit (.int .i64 6)))⟩, ⟨none, some 53, .copy (.t 55)⟩] [] []) (.cond (.t 53) (.seq (.reg [⟨none, some 56, .copy (.t 0)⟩, ⟨none, some 57, .nilCheck (.t 56)⟩, ⟨none, some 58, .fieldA 8 (.t 57)⟩, ⟨none, some 59, .load false 1 (.t 58)⟩, ⟨none, some 60, .copy (.t 59)⟩, ⟨some (60, true), some 61, .copy (.t 2)⟩, ⟨some (60, true), some 62, .bin .eql (.t 61) (.c (.lit (.int .i64 1)))⟩, ⟨none, some 63, .pick (.t 60) (.t 62) (.c (.lit (.bool false)))⟩] [] []) (.cond (.t 63) (.seq (.reg [⟨none, some 64, .copy (.t 0)⟩, ⟨none, some 65, .nilCheck (.t 64)⟩, ⟨none, some 66, .fieldA 11 (.t 65)⟩, ⟨none, some 67, .load true 3 (.t 66)⟩, ⟨none, some 68, .call 83 [(.t 67)]⟩, ⟨none, some 69, .bin .eql (.t 68) (.c (.lit (.int .i64 1)))⟩, ⟨none, some 10, .copy (.t 69)⟩] [] []) (.seq (.reg [⟨none, some 70, .copy (.t 0)⟩, ⟨none, some 71, .copy (.t 1)⟩, ⟨none, some 72, .copy (.t 10)⟩, ⟨none, some 73, .un .not (.t 72)⟩, ⟨none, some 74, .call 81 [(.t 70), (.t 71), (.c (.lit (.int .i64 8))), (.t 73)]⟩] [] []) (.seq (.reg [⟨none, some 75, .copy (.t 0)⟩, ⟨none, some 76, .copy (.t 10)⟩, ⟨none, some 77, .nilCheck (.t 75)⟩, ⟨none, some 78, .fieldA 9 (.t 77)⟩, ⟨none, none, .store 1 (.t 78) (.t 76)⟩] [] []) .ret))) .skip)) (.seq (.reg [⟨none, some 80, .copy (.t 6)⟩, ⟨none, some 81, .bin .eql (.t 80) (.c (.lit (.int .i64 8)))⟩, ⟨none, some 82, .copy (.t 81)⟩, ⟨some (82, true), some 83, .copy (.t 7)⟩, ⟨some (82, true), some 84, .bin .eql (.t 83) (.c (.lit (.int .i64 6)))⟩, ⟨none, some 85, .pick (.t 82) (.t 84) (.c (.lit (.bool false)))⟩, ⟨none, some 86, .copy (.t 85)⟩, ⟨some (86, true), some 87, .copy (.t 2)⟩, ⟨some (86, true), some 88, .bin .eql (.t 87) (.c (.lit (.int .i64 0)))⟩, ⟨none, some 89, .pick (.t 86) (.t 88) (.c (.lit (.bool false)))⟩, ⟨none, some 79, .copy (.t 89)⟩] [] []) (.cond (.t 79) (.seq (.reg [⟨none, some 90, .copy (.t 0)⟩, ⟨none, some 91, .copy (.t 1)⟩, ⟨none, some 92, .call 84 [(.t 90), (.t 91)]⟩] [] []) .ret) (.seq (.reg [⟨none, some 94, .copy (.t 2)⟩, ⟨none, some 95, .bin .eql (.t 94) (.c (.lit (.int .i64 0)))⟩, ⟨none, some 93, .copy (.t 95)⟩] [] []) (.cond (.t 93) (.seq (.reg [⟨none, some 96, .copy (.t 0)⟩, ⟨none, some 97, .copy (.t 1)⟩, ⟨none, some 98, .call 81 [(.t 96), (.t 97), (.c (.lit (.int .i64 7))), (.c (.lit (.bool true)))]⟩] [] []) .ret) (.seq (.reg [⟨none, some 100, .copy (.t 6)⟩, ⟨none, some 101, .bin .eql (.t 100) (.c (.lit (.int .i64 7)))⟩, ⟨none, some 102, .copy (.t 101)⟩, ⟨some (102, true), some 103, .copy (.t 0)⟩, ⟨some (102, true), some 104, .nilCheck (.t 103)⟩, ⟨some (102, true), some 105, .fieldA 8 (.t 104)⟩, ⟨some (102, true), some 106, .load false 1 (.t 105)⟩, ⟨some (102, true), some 107, .un .not (.t 106)⟩, ⟨none, some 108, .pick (.t 102) (.t 107) (.c (.lit (.bool false)))⟩, ⟨none, some 109, .copy (.t 108)⟩, ⟨some (109, true), some 110, .copy (.t 0)⟩, ⟨some (109, true), some 111, .nilCheck (.t 110)⟩, ⟨some (109, true), some 112, .fieldA 0 (.t 111)⟩, ⟨some (109, true), some 113, .call 51 [(.t 112)]⟩, ⟨some (109, true), some 114, .un .not (.t 113)⟩, ⟨none, some 115, .pick (.t 109) (.t 114) (.c (.lit (.bool false)))⟩, ⟨none, some 99, .copy (.t 115)⟩] [] []) (.cond (.t 99) (.seq (.reg [⟨none, some 116, .copy (.t 0)⟩, ⟨none, some 117, .copy (.t 1)⟩, ⟨none, some 118, .call 81 [(.t 116), (.t 117), (.c (.lit (.int .i64 6))), (.c (.lit (.bool true)))]⟩] [] []) .ret) .skip))))))))))) (.seq (.seq (.reg [⟨none, some 119, .copy (.t 0)⟩, ⟨none, some 120, .nilCheck (.t 119)⟩, ⟨none, some 121, .fieldA 0 (.t 120)⟩, ⟨none, some 122, .copy (.t 2)⟩, ⟨none, some 123, .call 85 [(.t 121), (.t 122)]⟩, ⟨none, some 124, .un .not (.t 123)⟩] [] []) (.cond (.t 124) (.seq (.reg [⟨none, some 125, .copy (.t 0)⟩, ⟨none, some 126, .copy (.t 1)⟩, ⟨none, some 127, .call 81 [(.t 125), (.t 126), (.c (.lit (.int .i64 5))), (.c (.lit (.bool true)))]⟩] [] []) .ret) .skip)) (.seq (.reg [⟨none, some 128, .copy (.t 6)⟩, ⟨none, some 129, .bin .eql (.t 128) (.c (.lit (.int .i64 8)))⟩] [] []) (.cond (.t 129) (.reg [⟨none, some 130, .copy (.t 0)⟩, ⟨none, some 131, .copy (.t 1)⟩, ⟨none, some 132, .copy (.t 7)⟩, ⟨none, some 133, .call 86 [(.t 130), (.t 131), (.t 132)]⟩] [] []) .skip))))))), []⟩
/- ctl.Node).dominantFlag -/
def ir55 : IFn := ⟨(.seq (.seq (.reg [⟨none, some 6, .copy (.t 2)⟩, ⟨none, some 7, .bin .eql (.t 6) (.c (.lit (.int .i64 1)))⟩] [] []) (.cond (.t 7) (.seq (.reg [⟨none, some 8, .copy (.t 1)⟩, ⟨none, some 9, .call 87 [(.t 8), (.c (.lit (.int .i64 4)))]⟩] [] []) (.seq (.reg [⟨none, some 10, .copy (.t 0)⟩, ⟨none, some 11, .copy (.t 1)⟩, ⟨none, some 12, .call 88 [(.t 10), (.t 11), (.c (.lit (.int .i64 8)))]⟩, ⟨none, some 13, .un .not (.t 12)⟩] [] []) (.cond (.t 13) .ret .skip))) .skip)) (.seq (.reg [⟨none, some 14, .copy (.t 0)⟩, ⟨none, some 15, .nilCheck (.t 14)⟩, ⟨none, some 16, .fieldA 5 (.t 15)⟩, ⟨none, some 17, .load false 1 (.t 16)⟩, ⟨none, some 18, .bin .add (.t 17) (.c (.lit (.int .i64 1)))⟩, ⟨none, some 19, .nilCheck (.t 14)⟩, ⟨none, some 20, .fieldA 5 (.t 19)⟩, ⟨none, none, .store 1 (.t 20) (.t 18)⟩] [] []) (.seq (.reg [⟨none, some 21, .copy (.t 0)⟩, ⟨none, some 22, .nilCheck (.t 21)⟩, ⟨none, some 23, .fieldA 5 (.t 22)⟩, ⟨none, some 24, .load false 1 (.t 23)⟩, ⟨none, some 25, .bin .eql (.t 24) (.c (.lit (.int .i64 6)))⟩] [] []) (.cond (.t 25) (.reg [⟨none, some 26, .copy (.t 0)⟩, ⟨none, some 27, .call 79 [(.t 26), (.c (.lit (.int .i64 6)))]⟩] [] []) .skip)))), []⟩
/- ctl.Node).passiveFlag -/
def ir56 : IFn := ⟨(.seq (.seq (.reg [⟨none, some 6, .copy (.t 0)⟩, ⟨none, some 7, .nilCheck (.t 6)⟩, ⟨none, some 8, .fieldA 5 (.t 7)⟩, ⟨none, some 9, .load false 1 (.t 8)⟩, ⟨none, some 10, .bin .gtr (.t 9) (.c (.lit (.int .i64 0)))⟩, ⟨none, some 11, .copy (.t 10)⟩, ⟨some (11, true), some 12, .copy (.t 2)⟩, ⟨some (11, true), some 13, .copy (.t 0)⟩, ⟨some (11, true), some 14, .nilCheck (.t 13)⟩, ⟨some (11, true), some 15, .fieldA 0 (.t 14)⟩, ⟨some (11, true), some 16, .fieldA 1 (.t 15)⟩, ⟨some (11, true), some 17, .load false 1 (.t 16)⟩, ⟨some (11, true), some 18, .bin .neq (.t 12) (.t 17)⟩, ⟨none, some 19, .pick (.t 11) (.t 18) (.c (.lit (.bool false)))⟩] [] []) (.cond (.t 19) (.reg [⟨none, some 20, .copy (.t 0)⟩, ⟨none, some 21, .nilCheck (.t 20)⟩, ⟨none, some 22, .fieldA 5 (.t 21)⟩, ⟨none, none, .store 1 (.t 22) (.c (.lit (.int .i64 0)))⟩] [] []) .skip)) (.seq (.reg [⟨none, some 23, .copy (.t 0)⟩, ⟨none, some 24, .nilCheck (.t 23)⟩, ⟨none, some 25, .fieldA 5 (.t 24)⟩, ⟨none, some 26, .load false 1 (.t 25)⟩, ⟨none, some 27, .bin .add (.t 26) (.c (.lit (.int .i64 1)))⟩, ⟨none, some 28, .nilCheck (.t 23)⟩, ⟨none, some 29, .fieldA 5 (.t 28)⟩, ⟨none, none, .store 1 (.t 29) (.t 27)⟩] [] []) (.seq (.reg [⟨none, some 30, .copy (.t 0)⟩, ⟨none, some 31, .copy (.t 2)⟩, ⟨none, some 32, .nilCheck (.t 30)⟩, ⟨none, some 33, .fieldA 0 (.t 32)⟩, ⟨none, some 34, .fieldA 1 (.t 33)⟩, ⟨none, none, .store 1 (.t 34) (.t 31)⟩] [] []) (.seq (.seq (.reg [⟨none, some 35, .copy (.t 0)⟩, ⟨none, some 36, .nilCheck (.t 35)⟩, ⟨none, some 37, .fieldA 9 (.t 36)⟩, ⟨none, some 38, .load false 1 (.t 37)⟩, ⟨none, some 39, .copy (.t 38)⟩, ⟨some (39, true), some 40, .copy (.t 2)⟩, ⟨some (39, true), some 41, .bin .eql (.t 40) (.c (.lit (.int .i64 0)))⟩, ⟨none, some 42, .pick (.t 39) (.t 41) (.c (.lit (.bool false)))⟩] [] []) (.cond (.t 42) (.seq (.reg [⟨none, some 43, .copy (.t 0)⟩, ⟨none, some 44, .nilCheck (.t 43)⟩, ⟨none, some 45, .fieldA 9 (.t 44)⟩, ⟨none, none, .store 1 (.t 45) (.c (.lit (.bool false)))⟩] [] []) (.seq (.reg [⟨none, some 46, .copy (.t 0)⟩, ⟨none, some 47, .copy (.t 1)⟩, ⟨none, some 48, .call 88 [(.t 46), (.t 47), (.c (.lit (.int .i64 8)))]⟩, ⟨none, some 49, .un .not (.t 48)⟩] [] []) (.cond (.t 49) .ret .skip))) .skip)) (.seq (.reg [⟨none, some 50, .copy (.t 0)⟩, ⟨none, some 51, .nilCheck (.t 50)⟩, ⟨none, some 52, .fieldA 5 (.t 51)⟩, ⟨none, some 53, .load false 1 (.t 52)⟩, ⟨none, some 54, .bin .eql (.t 53) (.c (.lit (.int .i64 6)))⟩] [] []) (.cond (.t 54) (.reg [⟨none, some 55, .copy (.t 0)⟩, ⟨none, some 56, .call 79 [(.t 55), (.c (.lit (.int .i64 6)))]⟩] [] []) .skip)))))), []⟩
/- ctl.Node).waiting -/
def ir57 : IFn := ⟨(.seq (.seq (.reg [⟨none, some 6, .copy (.t 2)⟩, ⟨none, some 7, .bin .eql (.t 6) (.c (.lit (.int .i64 1)))⟩] [] []) (.cond (.t 7) (.seq (.reg [⟨none, some 8, .copy (.t 0)⟩, ⟨none, some 9, .call 79 [(.t 8), (.c (.lit (.int .i64 7)))]⟩] [] []) (.seq (.reg [⟨none, some 10, .copy (.t 0)⟩, ⟨none, some 11, .nilCheck (.t 10)⟩, ⟨none, some 12, .fieldA 5 (.t 11)⟩, ⟨none, none, .store 1 (.t 12) (.c (.lit (.int .i64 1)))⟩] [] []) .ret)) .skip)) (.seq (.reg [⟨none, some 13, .copy (.t 0)⟩, ⟨none, some 14, .nilCheck (.t 13)⟩, ⟨none, some 15, .fieldA 5 (.t 14)⟩, ⟨none, some 16, .load false 1 (.t 15)⟩, ⟨none, some 17, .bin .add (.t 16) (.c (.lit (.int .i64 1)))⟩, ⟨none, some 18, .nilCheck (.t 13)⟩, ⟨none, some 19, .fieldA 5 (.t 18)⟩, ⟨none, none, .store 1 (.t 19) (.t 17)⟩] [] []) (.seq (.seq (.reg [⟨none, some 20, .copy (.t 0)⟩, ⟨none, some 21, .nilCheck (.t 20)⟩, ⟨none, some 22, .fieldA 5 (.t 21)⟩, ⟨none, some 23, .load false 1 (.t 22)⟩, ⟨none, some 24, .bin .eql (.t 23) (.c (.lit (.int .i64 1)))⟩, ⟨none, some 25, .copy (.t 24)⟩, ⟨some (25, true), some 26, .copy (.t 0)⟩, ⟨some (25, true), some 27, .nilCheck (.t 26)⟩, ⟨some (25, true), some 28, .fieldA 10 (.t 27)⟩, ⟨some (25, true), some 29, .load false 1 (.t 28)⟩, ⟨none, some 30, .pick (.t 25) (.t 29) (.c (.lit (.bool false)))⟩, ⟨none, some 31, .copy (.t 30)⟩, ⟨some (31, true), some 32, .copy (.t 0)⟩, ⟨some (31, true), some 33, .nilCheck (.t 32)⟩, ⟨some (31, true), some 34, .fieldA 7 (.t 33)⟩, ⟨some (31, true), some 35, .load false 1 (.t 34)⟩, ⟨some (31, true), some 36, .un .not (.t 35)⟩, ⟨none, some 37, .pick (.t 31) (.t 36) (.c (.lit (.bool false)))⟩] [] []) (.cond (.t 37) (.reg [⟨none, some 38, .copy (.t 0)⟩, ⟨none, some 39, .copy (.t 1)⟩, ⟨none, some 40, .call 88 [(.t 38), (.t 39), (.c (.lit (.int .i64 8)))]⟩] [] []) .skip)) (.seq (.reg [⟨none, some 41, .copy (.t 0)⟩, ⟨none, some 42, .nilCheck (.t 41)⟩, ⟨none, some 43, .fieldA 5 (.t 42)⟩, ⟨none, some 44, .load false 1 (.t 43)⟩, ⟨none, some 45, .bin .rem (.t 44) (.c (.lit (.int .i64 8)))⟩, ⟨none, some 46, .bin .eql (.t 45) (.c (.lit (.int .i64 0)))⟩] [] []) (.cond (.t 46) (.reg [⟨none, some 47, .copy (.t 0)⟩, ⟨none, some 48, .copy (.t 1)⟩, ⟨none, some 49, .call 88 [(.t 47), (.t 48), (.c (.lit (.int .i64 8)))]⟩] [] []) .skip))))), []⟩
/- ctl.Node).closing -/
def ir58 : IFn := ⟨(.block 0 (.seq (.reg [⟨none, some 10, .copy (.t 2)⟩, ⟨none, some 11, .bin .eql (.t 10) (.c (.lit (.int .i64 1)))⟩, ⟨none, some 9, .copy (.t 11)⟩] [] []) (.cond (.t 9) (.seq (.reg [⟨none, some 12, .copy (.t 0)⟩, ⟨none, some 13, .nilCheck (.t 12)⟩, ⟨none, some 14, .fieldA 5 (.t 13)⟩, ⟨none, some 15, .load false 1 (.t 14)⟩, ⟨none, some 16, .bin .add (.t 15) (.c (.lit (.int .i64 1)))⟩, ⟨none, some 17, .nilCheck (.t 12)⟩, ⟨none, some 18, .fieldA 5 (.t 17)⟩, ⟨none, none, .store 1 (.t 18) (.t 16)⟩] [] []) (.seq (.reg [⟨none, some 19, .copy (.t 0)⟩, ⟨none, some 20, .nilCheck (.t 19)⟩, ⟨none, some 21, .fieldA 5 (.t 20)⟩, ⟨none, some 22, .load false 1 (.t 21)⟩, ⟨none, some 23, .bin .eql (.t 22) (.c (.lit (.int .i64 8)))⟩] [] []) (.cond (.t 23) (.reg [⟨none, some 24, .copy (.t 0)⟩, ⟨none, some 25, .call 79 [(.t 24), (.c (.lit (.int .i64 8)))]⟩] [] []) .skip))) (.seq (.reg [⟨none, some 27, .copy (.t 0)⟩, ⟨none, some 28, .nilCheck (.t 27)⟩, ⟨none, some 29, .fieldA 5 (.t 28)⟩, ⟨none, some 30, .load false 1 (.t 29)⟩, ⟨none, some 31, .bin .eql (.t 30) (.c (.lit (.int .i64 7)))⟩, ⟨none, some 26, .copy (.t 31)⟩] [] []) (.cond (.t 26) (.reg [⟨none, some 32, .copy (.t 0)⟩, ⟨none, some 33, .copy (.t 1)⟩, ⟨none, some 34, .call 84 [(.t 32), (.t 33)]⟩] [] []) (.reg [⟨none, some 6, .copy (.t 0)⟩, ⟨none, some 7, .copy (.t 1)⟩, ⟨none, some 8, .call 81 [(.t 6), (.t 7), (.c (.lit (.int .i64 7))), (.c (.lit (.bool true)))]⟩] [] [])))))), []⟩
/- ctl.Node).pause -/
def ir59 : IFn := ⟨(.block 0 (.seq (.reg [⟨none, some 25, .copy (.t 2)⟩, ⟨none, some 26, .bin .eql (.t 25) (.c (.lit (.int .i64 0)))⟩, ⟨none, some 27, .copy (.t 26)⟩, ⟨some (27, true), some 28, .copy (.t 0)⟩, ⟨some (27, true), some 29, .nilCheck (.t 28)⟩, ⟨some (27, true), some 30, .fieldA 5 (.t 29)⟩, ⟨some (27, true), some 31, .load false 1 (.t 30)⟩, ⟨some (27, true), some 32, .bin .lss (.t 31) (.c (.lit (.int .i64 2)))⟩, ⟨none, some 33, .pick (.t 27) (.t 32) (.c (.lit (.bool false)))⟩, ⟨none, some 24, .copy (.t 33)⟩] [] []) (.cond (.t 24) (.reg [⟨none, some 34, .copy (.t 0)⟩, ⟨none, some 35, .copy (.t 1)⟩, ⟨none, some 36, .call 84 [(.t 34), (.t 35)]⟩] [] []) (.seq (.reg [⟨none, some 38, .copy (.t 2)⟩, ⟨none, some 39, .bin .eql (.t 38) (.c (.lit (.int .i64 0)))⟩, ⟨none, some 37, .copy (.t 39)⟩] [] []) (.cond (.t 37) (.reg [⟨none, some 40, .copy (.t 0)⟩, ⟨none, some 41, .copy (.t 0)⟩, ⟨none, some 42, .call 31 [(.t 41)]⟩, ⟨none, some 43, .copy (.t 42)⟩, ⟨some (43, true), some 44, .copy (.t 0)⟩, ⟨some (43, true), some 45, .call 89 [(.t 44)]⟩, ⟨some (43, true), some 46, .un .not (.t 45)⟩, ⟨none, some 47, .pick (.t 43) (.t 46) (.c (.lit (.bool false)))⟩, ⟨none, some 48, .call 80 [(.t 40), (.t 47)]⟩] [] []) (.seq (.reg [⟨none, some 6, .copy (.t 0)⟩, ⟨none, some 7, .nilCheck (.t 6)⟩, ⟨none, some 8, .fieldA 5 (.t 7)⟩, ⟨none, some 9, .load false 1 (.t 8)⟩, ⟨none, some 10, .bin .add (.t 9) (.c (.lit (.int .i64 1)))⟩, ⟨none, some 11, .nilCheck (.t 6)⟩, ⟨none, some 12, .fieldA 5 (.t 11)⟩, ⟨none, none, .store 1 (.t 12) (.t 10)⟩] [] []) (.seq (.seq (.reg [⟨none, some 13, .copy (.t 0)⟩, ⟨none, some 14, .nilCheck (.t 13)⟩, ⟨none, some 15, .fieldA 5 (.t 14)⟩, ⟨none, some 16, .load false 1 (.t 15)⟩, ⟨none, some 17, .bin .lss (.t 16) (.c (.lit (.int .i64 3)))⟩] [] []) (.cond (.t 17) .ret .skip)) (.seq (.reg [⟨none, some 18, .copy (.t 0)⟩, ⟨none, some 19, .call 89 [(.t 18)]⟩] [] []) (.cond (.t 19) (.reg [⟨none, some 20, .copy (.t 0)⟩, ⟨none, some 21, .call 79 [(.t 20), (.c (.lit (.int .i64 9)))]⟩] [] []) (.reg [⟨none, some 22, .copy (.t 0)⟩, ⟨none, some 23, .call 79 [(.t 22), (.c (.lit (.int .i64 1)))]⟩] [] [])))))))))), []⟩
/- ctl.Node).suspend -/
def ir60 : IFn := ⟨(.seq (.seq (.reg [⟨none, some 6, .copy (.t 2)⟩, ⟨none, some 7, .bin .eql (.t 6) (.c (.lit (.int .i64 0)))⟩] [] []) (.cond (.t 7) (.seq (.reg [⟨none, some 8, .copy (.t 0)⟩, ⟨none, some 9, .call 80 [(.t 8), (.c (.lit (.bool false)))]⟩] [] []) .ret) .skip)) (.seq (.reg [⟨none, some 10, .copy (.t 0)⟩, ⟨none, some 11, .nilCheck (.t 10)⟩, ⟨none, some 12, .fieldA 5 (.t 11)⟩, ⟨none, some 13, .load false 1 (.t 12)⟩, ⟨none, some 14, .bin .add (.t 13) (.c (.lit (.int .i64 1)))⟩, ⟨none, some 15, .nilCheck (.t 10)⟩, ⟨none, some 16, .fieldA 5 (.t 15)⟩, ⟨none, none, .store 1 (.t 16) (.t 14)⟩] [] []) (.seq (.reg [⟨none, some 17, .copy (.t 0)⟩, ⟨none, some 18, .nilCheck (.t 17)⟩, ⟨none, some 19, .fieldA 5 (.t 18)⟩, ⟨none, some 20, .load false 1 (.t 19)⟩, ⟨none, some 21, .bin .eql (.t 20) (.c (.lit (.int .i64 8)))⟩] [] []) (.cond (.t 21) (.reg [⟨none, some 22, .copy (.t 0)⟩, ⟨none, some 23, .call 79 [(.t 22), (.c (.lit (.int .i64 1)))]⟩] [] []) .skip)))), []⟩
/- ctl.Node).busOff -/
def ir61 : IFn := ⟨(.seq (.seq (.reg [⟨none, some 6, .copy (.t 0)⟩, ⟨none, some 7, .nilCheck (.t 6)⟩, ⟨none, some 8, .fieldA 5 (.t 7)⟩, ⟨none, some 9, .load false 1 (.t 8)⟩, ⟨none, some 10, .bin .add (.t 9) (.c (.lit (.int .i64 1)))⟩, ⟨none, some 11, .nilCheck (.t 6)⟩, ⟨none, some 12, .fieldA 5 (.t 11)⟩, ⟨none, none, .store 1 (.t 12) (.t 10)⟩] [] []) (.seq (.reg [⟨none, some 13, .copy (.t 2)⟩, ⟨none, some 14, .bin .eql (.t 13) (.c (.lit (.int .i64 0)))⟩] [] []) (.cond (.t 14) (.reg [⟨none, some 15, .copy (.t 0)⟩, ⟨none, some 16, .nilCheck (.t 15)⟩, ⟨none, some 17, .fieldA 5 (.t 16)⟩, ⟨none, none, .store 1 (.t 17) (.c (.lit (.int .i64 0)))⟩] [] []) .skip))) (.seq (.seq (.reg [⟨none, some 18, .copy (.t 0)⟩, ⟨none, some 19, .nilCheck (.t 18)⟩, ⟨none, some 20, .fieldA 5 (.t 19)⟩, ⟨none, some 21, .load false 1 (.t 20)⟩, ⟨none, some 22, .bin .eql (.t 21) (.c (.lit (.int .i64 11)))⟩] [] []) (.cond (.t 22) (.seq (.reg [⟨none, some 23, .copy (.t 0)⟩, ⟨none, some 24, .nilCheck (.t 23)⟩, ⟨none, some 25, .fieldA 5 (.t 24)⟩, ⟨none, none, .store 1 (.t 25) (.c (.lit (.int .i64 0)))⟩] [] []) (.reg [⟨none, some 26, .copy (.t 0)⟩, ⟨none, some 27, .nilCheck (.t 26)⟩, ⟨none, some 28, .fieldA 6 (.t 27)⟩, ⟨none, some 29, .load false 1 (.t 28)⟩, ⟨none, some 30, .bin .add (.t 29) (.c (.lit (.int .i64 1)))⟩, ⟨none, some 31, .nilCheck (.t 26)⟩, ⟨none, some 32, .fieldA 6 (.t 31)⟩, ⟨none, none, .store 1 (.t 32) (.t 30)⟩] [] [])) .skip)) (.seq (.reg [⟨none, some 33, .copy (.t 0)⟩, ⟨none, some 34, .nilCheck (.t 33)⟩, ⟨none, some 35, .fieldA 6 (.t 34)⟩, ⟨none, some 36, .load false 1 (.t 35)⟩, ⟨none, some 37, .bin .eql (.t 36) (.c (.lit (.int .i64 128)))⟩] [] []) (.cond (.t 37) (.seq (.reg [⟨none, some 38, .copy (.t 0)⟩, ⟨none, some 39, .copy (.t 0)⟩, ⟨none, some 40, .nilCheck (.t 39)⟩, ⟨none, some 41, .fieldA 11 (.t 40)⟩, ⟨none, some 42, .load true 3 (.t 41)⟩, ⟨none, some 43, .call 90 [(.t 42)]⟩, ⟨none, some 44, .nilCheck (.t 38)⟩, ⟨none, some 45, .fieldA 11 (.t 44)⟩, ⟨none, none, .store 3 (.t 45) (.t 43)⟩] [] []) (.seq (.reg [⟨none, some 46, .copy (.t 0)⟩, ⟨none, some 47, .nilCheck (.t 46)⟩, ⟨none, some 48, .fieldA 7 (.t 47)⟩, ⟨none, none, .store 1 (.t 48) (.c (.lit (.bool false)))⟩] [] []) (.seq (.reg [⟨none, some 49, .copy (.t 0)⟩, ⟨none, some 50, .call 79 [(.t 49), (.c (.lit (.int .i64 1)))]⟩] [] []) (.reg [⟨none, some 51, .copy (.t 1)⟩, ⟨none, some 52, .call 87 [(.t 51), (.c (.lit (.int .i64 11)))]⟩] [] [])))) .skip)))), []⟩
/- queue.row).size -/
def ir62 : IFn := ⟨(.seq (.reg [⟨none, some 2, .copy (.c (.lit (.int .i64 0)))⟩] [] []) (.seq (.reg [⟨none, some 3, .copy (.t 0)⟩, ⟨none, some 4, .nilCheck (.t 3)⟩, ⟨none, some 5, .fieldA 0 (.t 4)⟩, ⟨none, some 6, .load false 1 (.t 5)⟩, ⟨none, some 7, .len (.t 6)⟩, ⟨none, some 2, .copy (.t 7)⟩] [] []) .ret)), [.tmp 2]⟩
/- queue.row).put -/
def ir63 : IFn := ⟨(.seq (.reg [⟨none, some 3, .box 12 (.t 1)⟩] [] []) (.seq (.reg [⟨none, some 6, .mkFunc (.func 91) [] [(.t 3)]⟩, ⟨none, some 4, .copy (.t 6)⟩] [] []) (.seq (.reg [⟨none, some 7, .copy (.t 0)⟩, ⟨none, some 8, .nilCheck (.t 7)⟩, ⟨none, some 9, .fieldA 0 (.t 8)⟩, ⟨none, some 10, .load false 1 (.t 9)⟩, ⟨none, some 11, .copy (.t 4)⟩, ⟨none, some 12, .callU 92 [(.t 10), (.t 11)]⟩, ⟨none, some 5, .copy (.t 12)⟩] [] []) (.seq (.seq (.reg [⟨none, some 13, .copy (.t 5)⟩, ⟨none, some 14, .bin .lss (.t 13) (.c (.lit (.int .i64 0)))⟩] [] []) (.cond (.t 14) (.reg [⟨none, some 15, .copy (.t 0)⟩, ⟨none, some 16, .nilCheck (.t 15)⟩, ⟨none, some 17, .fieldA 0 (.t 16)⟩, ⟨none, some 18, .load false 1 (.t 17)⟩, ⟨none, some 19, .len (.t 18)⟩, ⟨none, some 5, .copy (.t 19)⟩] [] []) .skip)) (.reg [⟨none, some 20, .copy (.t 0)⟩, ⟨none, some 21, .copy (.t 0)⟩, ⟨none, some 22, .nilCheck (.t 21)⟩, ⟨none, some 23, .fieldA 0 (.t 22)⟩, ⟨none, some 24, .load false 1 (.t 23)⟩, ⟨none, some 25, .copy (.t 5)⟩, ⟨none, some 26, .load true 12 (.t 3)⟩, ⟨none, some 27, .mkSlice true 12 [(.lit (.int .i64 0)), (.lit (.bool false)), (.lit (.bool false)), (.lit (.int .i64 0)), (.lit (.int .u8 0)), (.lit (.int .u8 0)), (.lit (.int .u8 0)), (.lit (.int .u8 0)), (.lit (.int .u8 0)), (.lit (.int .u8 0)), (.lit (.int .u8 0)), (.lit (.int .u8 0))] 1 [(0, (.t 26))]⟩, ⟨none, some 28, .callL .ins true 12 32 93 [(.t 24), (.t 25), (.t 27)]⟩, ⟨none, some 29, .nilCheck (.t 20)⟩, ⟨none, some 30, .fieldA 0 (.t 29)⟩, ⟨none, none, .store 1 (.t 30) (.t 28)⟩] [(4, 7)] []))))), []⟩
/- frame.Arb -/
def ir64 : IFn := ⟨(.seq (.reg [⟨none, some 1, .box 12 (.t 0)⟩, ⟨none, some 2, .copy (.c nilS)⟩, ⟨none, some 3, .copy (.c (.lit (.int .i64 0)))⟩] [] []) (.seq (.seq (.reg [⟨none, some 10, .load true 12 (.t 1)⟩, ⟨none, some 11, .call 15 [(.t 10)]⟩, ⟨none, some 4, .copy (.t 11)⟩] [] []) (.seq (.reg [⟨none, some 12, .copy (.t 4)⟩, ⟨none, some 13, .bin .neq (.t 12) (.c (.lit (.int .i64 0)))⟩] [] []) (.cond (.t 13) (.seq (.reg [⟨none, some 14, .copy (.t 4)⟩, ⟨none, some 2, .copy (.c nilS)⟩, ⟨none, some 3, .copy (.t 14)⟩] [] []) .ret) .skip))) (.seq (.seq (.reg [⟨none, some 15, .fieldA 1 (.t 1)⟩, ⟨none, some 16, .load false 1 (.t 15)⟩, ⟨none, some 17, .un .not (.t 16)⟩] [] []) (.cond (.t 17) (.seq (.reg [⟨none, some 19, .fieldA 0 (.t 1)⟩, ⟨none, some 20, .load false 1 (.t 19)⟩, ⟨none, some 21, .toInt .u64 (.t 20)⟩, ⟨none, some 22, .call 68 [(.t 21), (.c (.lit (.int .i64 11)))]⟩, ⟨none, some 18, .copy (.t 22)⟩, ⟨none, some 23, .extract (.t 18) 0⟩, ⟨none, some 24, .extract (.t 18) 1⟩, ⟨none, some 5, .copy (.t 23)⟩, ⟨none, some 6, .copy (.t 24)⟩] [] []) (.seq (.reg [⟨none, some 25, .copy (.t 5)⟩, ⟨none, some 26, .fieldA 2 (.t 1)⟩, ⟨none, some 27, .load false 1 (.t 26)⟩, ⟨none, some 28, .call 94 [(.t 27)]⟩, ⟨none, some 29, .mkSlice true 1 [(.lit (.int .i64 0))] 2 [(0, (.t 28)), (1, (.c (.lit (.int .i64 0))))]⟩, ⟨none, some 30, .append true 1 8 (.t 25) (.t 29)⟩, ⟨none, some 31, .copy (.t 6)⟩, ⟨none, some 2, .copy (.t 30)⟩, ⟨none, some 3, .copy (.t 31)⟩] [] []) .ret)) .skip)) (.seq (.reg [⟨none, some 33, .fieldA 0 (.t 1)⟩, ⟨none, some 34, .load false 1 (.t 33)⟩, ⟨none, some 35, .toInt .u64 (.t 34)⟩, ⟨none, some 36, .bin .shr (.t 35) (.c (.lit (.int .u64 18)))⟩, ⟨none, some 37, .call 68 [(.t 36), (.c (.lit (.int .i64 11)))]⟩, ⟨none, some 32, .copy (.t 37)⟩, ⟨none, some 38, .extract (.t 32) 0⟩, ⟨none, some 39, .extract (.t 32) 1⟩, ⟨none, some 7, .copy (.t 38)⟩, ⟨none, some 8, .copy (.t 39)⟩] [] []) (.seq (.seq (.reg [⟨none, some 40, .copy (.t 8)⟩, ⟨none, some 41, .bin .neq (.t 40) (.c (.lit (.int .i64 0)))⟩] [] []) (.cond (.t 41) (.seq (.reg [⟨none, some 42, .copy (.t 8)⟩, ⟨none, some 2, .copy (.c nilS)⟩, ⟨none, some 3, .copy (.t 42)⟩] [] []) .ret) .skip)) (.seq (.reg [⟨none, some 44, .fieldA 0 (.t 1)⟩, ⟨none, some 45, .load false 1 (.t 44)⟩, ⟨none, some 46, .toInt .u64 (.t 45)⟩, ⟨none, some 47, .call 68 [(.t 46), (.c (.lit (.int .i64 18)))]⟩, ⟨none, some 43, .copy (.t 47)⟩, ⟨none, some 48, .extract (.t 43) 0⟩, ⟨none, some 49, .extract (.t 43) 1⟩, ⟨none, some 9, .copy (.t 48)⟩, ⟨none, some 8, .copy (.t 49)⟩] [] []) (.seq (.reg [⟨none, some 50, .copy (.t 7)⟩, ⟨none, some 51, .mkSlice true 1 [(.lit (.int .i64 0))] 2 [(0, (.c (.lit (.int .i64 1)))), (1, (.c (.lit (.int .i64 1))))]⟩, ⟨none, some 52, .copy (.t 9)⟩, ⟨none, some 53, .fieldA 2 (.t 1)⟩, ⟨none, some 54, .load false 1 (.t 53)⟩, ⟨none, some 55, .call 94 [(.t 54)]⟩, ⟨none, some 56, .mkSlice true 1 [(.lit (.int .i64 0))] 1 [(0, (.t 55))]⟩, ⟨none, some 57, .mkSlice true 1 [nilS] 4 [(0, (.t 50)), (1, (.t 51)), (2, (.t 52)), (3, (.t 56))]⟩, ⟨none, some 58, .call 45 [(.t 57)]⟩, ⟨none, some 59, .copy (.t 8)⟩, ⟨none, some 2, .copy (.t 58)⟩, ⟨none, some 3, .copy (.t 59)⟩] [] []) .ret))))))), [.tmp 2, .tmp 3]⟩
/- slices.Compare[[]int,int] -/
def L65_0 : ICode := (.seq (.reg [⟨none, some 12, .bin .lss (.t 11) (.t 10)⟩] [] []) (.seq (.cond (.t 12) .skip (.exit 0)) (.seq (.block 1 (.seq (.reg [⟨none, some 13, .copy (.t 11)⟩, ⟨none, some 14, .idxS 1 (.t 9) (.t 11)⟩, ⟨none, some 15, .load false 1 (.t 14)⟩, ⟨none, some 5, .copy (.t 13)⟩, ⟨none, some 6, .copy (.t 15)⟩] [] []) (.seq (.seq (.reg [⟨none, some 16, .copy (.t 5)⟩, ⟨none, some 17, .copy (.t 1)⟩, ⟨none, some 18, .len (.t 17)⟩, ⟨none, some 19, .bin .geq (.t 16) (.t 18)⟩] [] []) (.cond (.t 19) (.seq (.reg [⟨none, some 4, .copy (.c (.lit (.int .i64 1)))⟩] [] []) .ret) .skip)) (.seq (.reg [⟨none, some 20, .copy (.t 1)⟩, ⟨none, some 21, .copy (.t 5)⟩, ⟨none, some 22, .idxS 1 (.t 20) (.t 21)⟩, ⟨none, some 23, .load false 1 (.t 22)⟩, ⟨none, some 7, .copy (.t 23)⟩] [] []) (.seq (.reg [⟨none, some 24, .copy (.t 6)⟩, ⟨none, some 25, .copy (.t 7)⟩, ⟨none, some 26, .call 95 [(.t 24), (.t 25)]⟩, ⟨none, some 8, .copy (.t 26)⟩] [] []) (.seq (.reg [⟨none, some 27, .copy (.t 8)⟩, ⟨none, some 28, .bin .neq (.t 27) (.c (.lit (.int .i64 0)))⟩] [] []) (.cond (.t 28) (.seq (.reg [⟨none, some 29, .copy (.t 8)⟩, ⟨none, some 4, .copy (.t 29)⟩] [] []) .ret) .skip))))))) (.reg [⟨none, some 30, .bin .add (.t 11) (.c (.lit (.int .i64 1)))⟩, ⟨none, some 11, .copy (.t 30)⟩] [] []))))
def ir65 : IFn := ⟨(.seq (.reg [⟨none, some 4, .copy (.c (.lit (.int .i64 0)))⟩] [] []) (.seq (.seq (.reg [⟨none, some 9, .copy (.t 0)⟩, ⟨none, some 10, .len (.t 9)⟩, ⟨none, some 11, .copy (.c (.lit (.int .i64 0)))⟩] [] []) (.block 0 (.loop [0, 1, 9, 10, 11] L65_0))) (.seq (.seq (.reg [⟨none, some 31, .copy (.t 0)⟩, ⟨none, some 32, .len (.t 31)⟩, ⟨none, some 33, .copy (.t 1)⟩, ⟨none, some 34, .len (.t 33)⟩, ⟨none, some 35, .bin .lss (.t 32) (.t 34)⟩] [] []) (.cond (.t 35) (.seq (.reg [⟨none, some 4, .copy (.c (.lit (.int .i64 (-1))))⟩] [] []) .ret) .skip)) (.seq (.reg [⟨none, some 4, .copy (.c (.lit (.int .i64 0)))⟩] [] []) .ret)))), [.tmp 4]⟩
/- field.Bits$1 -/
def ir67 : IFn := ⟨(.seq (.reg [⟨none, some 9, .copy (.t 0)⟩, ⟨none, some 10, .copy (.t 1)⟩, ⟨none, some 11, .call 68 [(.t 9), (.t 10)]⟩, ⟨none, some 8, .copy (.t 11)⟩, ⟨none, some 12, .extract (.t 8) 0⟩, ⟨none, some 13, .extract (.t 8) 1⟩, ⟨none, some 6, .copy (.t 12)⟩, ⟨none, some 7, .copy (.t 13)⟩] [] []) (.seq (.seq (.reg [⟨none, some 14, .copy (.t 7)⟩, ⟨none, some 15, .bin .neq (.t 14) (.c (.lit (.int .i64 0)))⟩] [] []) (.cond (.t 15) (.reg [⟨none, some 16, .copy (.t 7)⟩, ⟨none, none, .store 1 (.t 2) (.t 16)⟩] [] []) .skip)) (.reg [⟨none, some 17, .load false 1 (.t 3)⟩, ⟨none, some 18, .copy (.t 6)⟩, ⟨none, some 19, .append true 1 8 (.t 17) (.t 18)⟩, ⟨none, none, .store 1 (.t 3) (.t 19)⟩] [] []))), []⟩
/- bits.Of -/
def L68_0 : ICode := (.seq (.reg [⟨none, some 18, .bin .lss (.t 17) (.t 16)⟩] [] []) (.seq (.cond (.t 18) .skip (.exit 0)) (.seq (.block 1 (.seq (.reg [⟨none, some 19, .copy (.t 17)⟩, ⟨none, some 7, .copy (.t 19)⟩] [] []) (.reg [⟨none, some 20, .copy (.t 6)⟩, ⟨none, some 21, .copy (.t 1)⟩, ⟨none, some 22, .bin .sub (.t 21) (.c (.lit (.int .i64 1)))⟩, ⟨none, some 23, .copy (.t 7)⟩, ⟨none, some 24, .bin .sub (.t 22) (.t 23)⟩, ⟨none, some 25, .copy (.t 0)⟩, ⟨none, some 26, .copy (.t 7)⟩, ⟨none, some 27, .bin .shr (.t 25) (.t 26)⟩, ⟨none, some 28, .bin .and (.t 27) (.c (.lit (.int .u64 1)))⟩, ⟨none, some 29, .toInt .i64 (.t 28)⟩, ⟨none, some 30, .idxS 1 (.t 20) (.t 24)⟩, ⟨none, none, .store 1 (.t 30) (.t 29)⟩] [] []))) (.reg [⟨none, some 31, .bin .add (.t 17) (.c (.lit (.int .i64 1)))⟩, ⟨none, some 17, .copy (.t 31)⟩] [] []))))
def ir68 : IFn := ⟨(.seq (.reg [⟨none, some 4, .copy (.c nilS)⟩, ⟨none, some 5, .copy (.c (.lit (.int .i64 0)))⟩] [] []) (.seq (.seq (.reg [⟨none, some 8, .copy (.t 1)⟩, ⟨none, some 9, .bin .lss (.t 8) (.c (.lit (.int .i64 0)))⟩, ⟨none, some 10, .copy (.t 9)⟩, ⟨some (10, false), some 11, .copy (.t 1)⟩, ⟨some (10, false), some 12, .bin .gtr (.t 11) (.c (.lit (.int .i64 64)))⟩, ⟨none, some 13, .pick (.t 10) (.c (.lit (.bool true))) (.t 12)⟩] [] []) (.cond (.t 13) (.seq (.reg [⟨none, some 4, .copy (.c nilS)⟩, ⟨none, some 5, .copy (.c (.lit (.int .i64 10)))⟩] [] []) .ret) .skip)) (.seq (.reg [⟨none, some 14, .copy (.t 1)⟩, ⟨none, some 15, .make true 1 8 [(.lit (.int .i64 0))] (.t 14) (.t 14)⟩, ⟨none, some 6, .copy (.t 15)⟩] [] []) (.seq (.seq (.reg [⟨none, some 16, .copy (.t 1)⟩, ⟨none, some 17, .copy (.c (.lit (.int .i64 0)))⟩] [] []) (.block 0 (.loop [0, 1, 6, 16, 17] L68_0))) (.seq (.reg [⟨none, some 32, .copy (.t 6)⟩, ⟨none, some 4, .copy (.t 32)⟩, ⟨none, some 5, .copy (.c (.lit (.int .i64 0)))⟩] [] []) .ret))))), [.tmp 4, .tmp 5]⟩
/- crc15.Sum$1 -/
def ir69 : IFn := ⟨(.reg [⟨none, some 3, .load false 1 (.t 1)⟩, ⟨none, some 4, .copy (.t 0)⟩, ⟨none, some 5, .call 70 [(.t 3), (.t 4)]⟩, ⟨none, none, .store 1 (.t 1) (.t 5)⟩] [] []), []⟩
/- crc15.step -/
def ir70 : IFn := ⟨(.seq (.reg [⟨none, some 4, .copy (.c (.lit (.int .i64 0)))⟩] [] []) (.seq (.reg [⟨none, some 6, .copy (.t 0)⟩, ⟨none, some 7, .bin .shl (.t 6) (.c (.lit (.int .u64 1)))⟩, ⟨none, some 8, .bin .and (.t 7) (.c (.lit (.int .i64 32767)))⟩, ⟨none, some 5, .copy (.t 8)⟩] [] []) (.seq (.seq (.reg [⟨none, some 9, .copy (.t 0)⟩, ⟨none, some 10, .bin .and (.t 9) (.c (.lit (.int .i64 16384)))⟩, ⟨none, some 11, .bin .neq (.t 10) (.c (.lit (.int .i64 0)))⟩, ⟨none, some 12, .copy (.t 1)⟩, ⟨none, some 13, .bin .eql (.t 12) (.c (.lit (.int .i64 1)))⟩, ⟨none, some 14, .eqB true (.t 11) (.t 13)⟩] [] []) (.cond (.t 14) (.reg [⟨none, some 15, .copy (.t 5)⟩, ⟨none, some 16, .bin .xor (.t 15) (.c (.lit (.int .i64 17817)))⟩, ⟨none, some 5, .copy (.t 16)⟩] [] []) .skip)) (.seq (.reg [⟨none, some 17, .copy (.t 5)⟩, ⟨none, some 4, .copy (.t 17)⟩] [] []) .ret)))), [.tmp 4]⟩
/- crc15.may -/
def ir71 : IFn := ⟨(.seq (.reg [⟨none, some 2, .copy (.c (.lit (.bool false)))⟩] [] []) (.seq (.reg [⟨none, some 3, .copy (.t 0)⟩, ⟨none, some 4, .bin .geq (.t 3) (.c (.lit (.int .i64 0)))⟩, ⟨none, some 5, .copy (.t 4)⟩, ⟨some (5, true), some 6, .copy (.t 0)⟩, ⟨some (5, true), some 7, .bin .leq (.t 6) (.c (.lit (.int .i64 32767)))⟩, ⟨none, some 8, .pick (.t 5) (.t 7) (.c (.lit (.bool false)))⟩, ⟨none, some 2, .copy (.t 8)⟩] [] []) .ret)), [.tmp 2]⟩
/- slices.Grow[[]int,int] -/
def ir72 : IFn := ⟨(.seq (.reg [⟨none, some 4, .copy (.c nilS)⟩] [] []) (.seq (.seq (.reg [⟨none, some 5, .copy (.t 1)⟩, ⟨none, some 6, .bin .lss (.t 5) (.c (.lit (.int .i64 0)))⟩] [] []) (.cond (.t 6) (.reg [⟨none, some 7, .mkIface 9 (.c (.lit (.string ⟨#[99, 97, 110, 110, 111, 116, 32, 98, 101, 32, 110, 101, 103, 97, 116, 105, 118, 101]⟩)))⟩, ⟨none, none, .fail⟩] [] []) .skip)) (.seq (.seq (.reg [⟨none, some 8, .copy (.t 1)⟩, ⟨none, some 9, .copy (.t 0)⟩, ⟨none, some 10, .cap (.t 9)⟩, ⟨none, some 11, .copy (.t 0)⟩, ⟨none, some 12, .len (.t 11)⟩, ⟨none, some 13, .bin .sub (.t 10) (.t 12)⟩, ⟨none, some 14, .bin .sub (.t 8) (.t 13)⟩, ⟨none, some 1, .copy (.t 14)⟩] [] []) (.seq (.reg [⟨none, some 15, .copy (.t 1)⟩, ⟨none, some 16, .bin .gtr (.t 15) (.c (.lit (.int .i64 0)))⟩] [] []) (.cond (.t 16) (.reg [⟨none, some 17, .copy (.t 0)⟩, ⟨none, some 18, .copy (.t 0)⟩, ⟨none, some 19, .cap (.t 18)⟩, ⟨none, some 20, .slice 1 (.t 17) none (some (.t 19)) none⟩, ⟨none, some 21, .copy (.t 1)⟩, ⟨none, some 22, .appendZ true 1 8 [(.lit (.int .i64 0))] (.t 20) (.t 21)⟩, ⟨none, some 23, .copy (.t 0)⟩, ⟨none, some 24, .len (.t 23)⟩, ⟨none, some 25, .slice 1 (.t 22) none (some (.t 24)) none⟩, ⟨none, some 0, .copy (.t 25)⟩] [] []) .skip))) (.seq (.reg [⟨none, some 26, .copy (.t 0)⟩, ⟨none, some 4, .copy (.t 26)⟩] [] []) .ret)))), [.tmp 4]⟩
/- bits.Mul -/
def ir73 : IFn := ⟨(.seq (.reg [⟨none, some 4, .copy (.c (.lit (.int .u64 0)))⟩, ⟨none, some 5, .copy (.c (.lit (.int .u64 0)))⟩] [] []) (.seq (.cond (.c (.lit (.bool false))) (.seq (.reg [⟨none, some 11, .copy (.t 0)⟩, ⟨none, some 12, .toInt .u32 (.t 11)⟩, ⟨none, some 13, .copy (.t 1)⟩, ⟨none, some 14, .toInt .u32 (.t 13)⟩, ⟨none, some 15, .call 96 [(.t 12), (.t 14)]⟩, ⟨none, some 10, .copy (.t 15)⟩, ⟨none, some 16, .extract (.t 10) 0⟩, ⟨none, some 17, .extract (.t 10) 1⟩, ⟨none, some 6, .copy (.t 16)⟩, ⟨none, some 7, .copy (.t 17)⟩] [] []) (.seq (.reg [⟨none, some 18, .copy (.t 6)⟩, ⟨none, some 19, .toInt .u64 (.t 18)⟩, ⟨none, some 20, .copy (.t 7)⟩, ⟨none, some 21, .toInt .u64 (.t 20)⟩, ⟨none, some 4, .copy (.t 19)⟩, ⟨none, some 5, .copy (.t 21)⟩] [] []) .ret)) .skip) (.seq (.reg [⟨none, some 23, .copy (.t 0)⟩, ⟨none, some 24, .copy (.t 1)⟩, ⟨none, some 25, .call 97 [(.t 23), (.t 24)]⟩, ⟨none, some 22, .copy (.t 25)⟩, ⟨none, some 26, .extract (.t 22) 0⟩, ⟨none, some 27, .extract (.t 22) 1⟩, ⟨none, some 8, .copy (.t 26)⟩, ⟨none, some 9, .copy (.t 27)⟩] [] []) (.seq (.reg [⟨none, some 28, .copy (.t 8)⟩, ⟨none, some 29, .copy (.t 9)⟩, ⟨none, some 4, .copy (.t 28)⟩, ⟨none, some 5, .copy (.t 29)⟩] [] []) .ret)))), [.tmp 4, .tmp 5]⟩
/- slices.IndexFunc[[]int,int] -/
def L74_0 : ICode := (.seq (.reg [⟨none, some 9, .bin .lss (.t 8) (.t 7)⟩] [] []) (.seq (.cond (.t 9) .skip (.exit 0)) (.seq (.block 1 (.seq (.reg [⟨none, some 10, .copy (.t 8)⟩, ⟨none, some 5, .copy (.t 10)⟩] [] []) (.seq (.reg [⟨none, some 11, .copy (.t 1)⟩, ⟨none, some 12, .copy (.t 0)⟩, ⟨none, some 13, .copy (.t 5)⟩, ⟨none, some 14, .idxS 1 (.t 12) (.t 13)⟩, ⟨none, some 15, .load false 1 (.t 14)⟩, ⟨none, some 16, .callV (.t 11) [(.t 15)]⟩] [] []) (.cond (.t 16) (.seq (.reg [⟨none, some 17, .copy (.t 5)⟩, ⟨none, some 4, .copy (.t 17)⟩] [] []) .ret) .skip)))) (.reg [⟨none, some 18, .bin .add (.t 8) (.c (.lit (.int .i64 1)))⟩, ⟨none, some 8, .copy (.t 18)⟩] [] []))))
def ir74 : IFn := ⟨(.seq (.reg [⟨none, some 4, .copy (.c (.lit (.int .i64 0)))⟩] [] []) (.seq (.seq (.reg [⟨none, some 6, .copy (.t 0)⟩, ⟨none, some 7, .len (.t 6)⟩, ⟨none, some 8, .copy (.c (.lit (.int .i64 0)))⟩] [] []) (.block 0 (.loop [0, 1, 7, 8] L74_0))) (.seq (.reg [⟨none, some 4, .copy (.c (.lit (.int .i64 (-1))))⟩] [] []) .ret))), [.tmp 4]⟩
/- bits.Check$1 -/
def ir75 : IFn := ⟨(.seq (.reg [⟨none, some 2, .copy (.c (.lit (.bool false)))⟩] [] []) (.seq (.reg [⟨none, some 3, .copy (.t 0)⟩, ⟨none, some 4, .call 76 [(.t 3)]⟩, ⟨none, some 5, .un .not (.t 4)⟩, ⟨none, some 2, .copy (.t 5)⟩] [] []) .ret)), [.tmp 2]⟩
/- bits.level -/
def ir76 : IFn := ⟨(.seq (.reg [⟨none, some 2, .copy (.c (.lit (.bool false)))⟩] [] []) (.seq (.reg [⟨none, some 3, .copy (.t 0)⟩, ⟨none, some 4, .bin .eql (.t 3) (.c (.lit (.int .i64 0)))⟩, ⟨none, some 5, .copy (.t 4)⟩, ⟨some (5, false), some 6, .copy (.t 0)⟩, ⟨some (5, false), some 7, .bin .eql (.t 6) (.c (.lit (.int .i64 1)))⟩, ⟨none, some 8, .pick (.t 5) (.c (.lit (.bool true))) (.t 7)⟩, ⟨none, some 2, .copy (.t 8)⟩] [] []) .ret)), [.tmp 2]⟩
/- field.Next -/
def L77_0 : ICode := (.seq (.reg [⟨none, some 53, .bin .lss (.t 52) (.c (.lit (.int .i64 9)))⟩] [] []) (.seq (.cond (.t 53) .skip (.exit 1)) (.seq (.block 2 (.seq (.reg [⟨none, some 54, .copy (.t 52)⟩, ⟨none, some 55, .idxV false 9 1 (.t 51) (.t 52)⟩, ⟨none, some 9, .copy (.t 54)⟩, ⟨none, some 10, .copy (.t 55)⟩] [] []) (.seq (.seq (.reg [⟨none, some 56, .copy (.t 5)⟩, ⟨none, some 57, .copy (.t 8)⟩, ⟨none, some 58, .copy (.t 10)⟩, ⟨none, some 59, .bin .add (.t 57) (.t 58)⟩, ⟨none, some 60, .bin .lss (.t 56) (.t 59)⟩] [] []) (.cond (.t 60) (.seq (.reg [⟨none, some 61, .copy (.t 9)⟩, ⟨none, some 62, .copy (.t 5)⟩, ⟨none, some 63, .copy (.t 8)⟩, ⟨none, some 64, .bin .sub (.t 62) (.t 63)⟩, ⟨none, some 2, .copy (.t 61)⟩, ⟨none, some 3, .copy (.t 64)⟩, ⟨none, some 4, .copy (.c (.lit (.int .i64 0)))⟩] [] []) .ret) .skip)) (.reg [⟨none, some 65, .copy (.t 8)⟩, ⟨none, some 66, .copy (.t 10)⟩, ⟨none, some 67, .bin .add (.t 65) (.t 66)⟩, ⟨none, some 8, .copy (.t 67)⟩] [] [])))) (.reg [⟨none, some 68, .bin .add (.t 52) (.c (.lit (.int .i64 1)))⟩, ⟨none, some 52, .copy (.t 68)⟩] [] []))))
def ir77 : IFn := ⟨(.seq (.reg [⟨none, some 2, .copy (.c (.lit (.int .i64 0)))⟩, ⟨none, some 3, .copy (.c (.lit (.int .i64 0)))⟩, ⟨none, some 4, .copy (.c (.lit (.int .i64 0)))⟩] [] []) (.seq (.reg [⟨none, some 11, .copy (.t 0)⟩, ⟨none, some 12, .len (.t 11)⟩, ⟨none, some 5, .copy (.t 12)⟩] [] []) (.seq (.seq (.reg [⟨none, some 13, .copy (.t 0)⟩, ⟨none, some 14, .call 47 [(.t 13)]⟩, ⟨none, some 15, .bin .geq (.t 14) (.c (.lit (.int .i64 0)))⟩] [] []) (.cond (.t 15) (.seq (.reg [⟨none, some 2, .copy (.c (.lit (.int .i64 0)))⟩, ⟨none, some 3, .copy (.c (.lit (.int .i64 0)))⟩, ⟨none, some 4, .copy (.c (.lit (.int .i64 10)))⟩] [] []) .ret) .skip)) (.seq (.reg [⟨none, some 17, .copy (.t 0)⟩, ⟨none, some 18, .call 98 [(.t 17)]⟩, ⟨none, some 16, .copy (.t 18)⟩, ⟨none, some 19, .extract (.t 16) 0⟩, ⟨none, some 20, .extract (.t 16) 1⟩, ⟨none, some 6, .alloc [(.lit (.bool false)), (.lit (.bool false)), (.lit (.int .i64 0)), (.lit (.int .i64 0)), (.lit (.int .i64 0))]⟩, ⟨none, none, .store 5 (.t 6) (.t 19)⟩, ⟨none, some 7, .copy (.t 20)⟩] [] []) (.seq (.block 0 (.seq (.reg [⟨none, some 22, .copy (.t 5)⟩, ⟨none, some 23, .bin .eql (.t 22) (.c (.lit (.int .i64 0)))⟩, ⟨none, some 21, .copy (.t 23)⟩] [] []) (.cond (.t 21) (.seq (.reg [⟨none, some 2, .copy (.c (.lit (.int .i64 0)))⟩, ⟨none, some 3, .copy (.c (.lit (.int .i64 0)))⟩, ⟨none, some 4, .copy (.c (.lit (.int .i64 0)))⟩] [] []) .ret) (.seq (.reg [⟨none, some 25, .copy (.t 5)⟩, ⟨none, some 26, .bin .leq (.t 25) (.c (.lit (.int .i64 13)))⟩, ⟨none, some 27, .copy (.t 26)⟩, ⟨some (27, false), some 28, .fieldA 0 (.t 6)⟩, ⟨some (27, false), some 29, .load false 1 (.t 28)⟩, ⟨some (27, false), some 30, .copy (.t 29)⟩, ⟨some (30, true), some 31, .copy (.t 5)⟩, ⟨some (30, true), some 32, .bin .leq (.t 31) (.c (.lit (.int .i64 32)))⟩, ⟨some (27, false), some 33, .pick (.t 30) (.t 32) (.c (.lit (.bool false)))⟩, ⟨none, some 34, .pick (.t 27) (.c (.lit (.bool true))) (.t 33)⟩, ⟨none, some 24, .copy (.t 34)⟩] [] []) (.cond (.t 24) (.seq (.reg [⟨none, some 35, .copy (.t 5)⟩, ⟨none, some 36, .bin .sub (.t 35) (.c (.lit (.int .i64 1)))⟩, ⟨none, some 2, .copy (.c (.lit (.int .i64 1)))⟩, ⟨none, some 3, .copy (.t 36)⟩, ⟨none, some 4, .copy (.c (.lit (.int .i64 0)))⟩] [] []) .ret) (.seq (.reg [⟨none, some 38, .copy (.t 7)⟩, ⟨none, some 39, .un .not (.t 38)⟩, ⟨none, some 37, .copy (.t 39)⟩] [] []) (.cond (.t 37) (.seq (.reg [⟨none, some 40, .copy (.t 5)⟩, ⟨none, some 41, .fieldA 2 (.t 6)⟩, ⟨none, some 42, .load false 1 (.t 41)⟩, ⟨none, some 43, .bin .sub (.t 40) (.t 42)⟩, ⟨none, some 2, .copy (.c (.lit (.int .i64 2)))⟩, ⟨none, some 3, .copy (.t 43)⟩, ⟨none, some 4, .copy (.c (.lit (.int .i64 0)))⟩] [] []) .ret) .skip))))))) (.seq (.reg [⟨none, some 44, .fieldA 3 (.t 6)⟩, ⟨none, some 45, .load false 1 (.t 44)⟩, ⟨none, some 8, .copy (.t 45)⟩] [] []) (.seq (.seq (.reg [⟨none, some 46, .load true 5 (.t 6)⟩, ⟨none, some 47, .call 99 [(.t 46)]⟩, ⟨none, some 48, .fieldA 3 (.t 6)⟩, ⟨none, some 49, .load false 1 (.t 48)⟩, ⟨none, some 50, .bin .sub (.t 47) (.t 49)⟩, ⟨none, some 51, .build [(.lit (.int .i64 0)), (.lit (.int .i64 0)), (.lit (.int .i64 0)), (.lit (.int .i64 0)), (.lit (.int .i64 0)), (.lit (.int .i64 0)), (.lit (.int .i64 0)), (.lit (.int .i64 0)), (.lit (.int .i64 0))] [(3, 1, (.t 50)), (4, 1, (.c (.lit (.int .i64 15)))), (5, 1, (.c (.lit (.int .i64 1)))), (6, 1, (.c (.lit (.int .i64 1)))), (7, 1, (.c (.lit (.int .i64 1)))), (8, 1, (.c (.lit (.int .i64 7))))]⟩, ⟨none, some 52, .copy (.c (.lit (.int .i64 0)))⟩] [(3, 1)] []) (.block 1 (.loop [5, 8, 51, 52] L77_0))) (.seq (.seq (.reg [⟨none, some 69, .copy (.t 5)⟩, ⟨none, some 70, .copy (.t 8)⟩, ⟨none, some 71, .bin .gtr (.t 69) (.t 70)⟩] [] []) (.cond (.t 71) (.seq (.reg [⟨none, some 2, .copy (.c (.lit (.int .i64 0)))⟩, ⟨none, some 3, .copy (.c (.lit (.int .i64 0)))⟩, ⟨none, some 4, .copy (.c (.lit (.int .i64 12)))⟩] [] []) .ret) .skip)) (.seq (.reg [⟨none, some 2, .copy (.c (.lit (.int .i64 9)))⟩, ⟨none, some 3, .copy (.c (.lit (.int .i64 0)))⟩, ⟨none, some 4, .copy (.c (.lit (.int .i64 0)))⟩] [] []) .ret))))))))), [.tmp 2, .tmp 3, .tmp 4]⟩
/- field.Right -/
def ir78 : IFn := ⟨(.seq (.reg [⟨none, some 2, .copy (.c (.lit (.bool false)))⟩, ⟨none, some 3, .copy (.c (.lit (.int .i64 0)))⟩] [] []) (.seq (.reg [⟨none, some 7, .copy (.t 0)⟩, ⟨none, some 8, .call 100 [(.t 7)]⟩, ⟨none, some 6, .copy (.t 8)⟩, ⟨none, some 9, .extract (.t 6) 0⟩, ⟨none, some 10, .extract (.t 6) 1⟩, ⟨none, some 4, .copy (.t 9)⟩, ⟨none, some 5, .copy (.t 10)⟩] [] []) (.seq (.block 0 (.seq (.reg [⟨none, some 12, .copy (.t 5)⟩, ⟨none, some 13, .bin .neq (.t 12) (.c (.lit (.int .i64 0)))⟩, ⟨none, some 11, .copy (.t 13)⟩] [] []) (.cond (.t 11) (.seq (.reg [⟨none, some 14, .copy (.t 5)⟩, ⟨none, some 2, .copy (.c (.lit (.bool false)))⟩, ⟨none, some 3, .copy (.t 14)⟩] [] []) .ret) (.seq (.reg [⟨none, some 16, .copy (.t 0)⟩, ⟨none, some 17, .len (.t 16)⟩, ⟨none, some 18, .copy (.t 4)⟩, ⟨none, some 19, .bin .add (.t 18) (.c (.lit (.int .i64 15)))⟩, ⟨none, some 20, .bin .lss (.t 17) (.t 19)⟩, ⟨none, some 15, .copy (.t 20)⟩] [] []) (.cond (.t 15) (.seq (.reg [⟨none, some 2, .copy (.c (.lit (.bool false)))⟩, ⟨none, some 3, .copy (.c (.lit (.int .i64 13)))⟩] [] []) .ret) .skip))))) (.seq (.reg [⟨none, some 21, .copy (.t 0)⟩, ⟨none, some 22, .copy (.t 4)⟩, ⟨none, some 23, .bin .add (.t 22) (.c (.lit (.int .i64 15)))⟩, ⟨none, some 24, .slice 1 (.t 21) none (some (.t 23)) none⟩, ⟨none, some 25, .call 101 [(.t 24)]⟩, ⟨none, some 2, .copy (.t 25)⟩, ⟨none, some 3, .copy (.c (.lit (.int .i64 0)))⟩] [] []) .ret)))), [.tmp 2, .tmp 3]⟩
/- ctl.Node).turn -/
def ir79 : IFn := ⟨(.reg [⟨none, some 4, .copy (.t 0)⟩, ⟨none, some 5, .copy (.t 0)⟩, ⟨none, some 6, .copy (.t 1)⟩, ⟨none, some 7, .nilCheck (.t 4)⟩, ⟨none, some 8, .fieldA 4 (.t 7)⟩, ⟨none, none, .store 1 (.t 8) (.t 6)⟩, ⟨none, some 9, .nilCheck (.t 5)⟩, ⟨none, some 10, .fieldA 5 (.t 9)⟩, ⟨none, none, .store 1 (.t 10) (.c (.lit (.int .i64 0)))⟩] [] []), []⟩
/- ctl.Node).start -/
def ir80 : IFn := ⟨(.seq (.reg [⟨none, some 4, .copy (.t 0)⟩, ⟨none, some 5, .call 79 [(.t 4), (.c (.lit (.int .i64 2)))]⟩] [] []) (.seq (.reg [⟨none, some 6, .copy (.t 0)⟩, ⟨none, some 7, .build [nilS, (.lit (.int .i64 0)), (.lit (.int .i64 0))] []⟩, ⟨none, some 8, .nilCheck (.t 6)⟩, ⟨none, some 9, .fieldA 0 (.t 8)⟩, ⟨none, none, .store 3 (.t 9) (.t 7)⟩] [] []) (.seq (.reg [⟨none, some 10, .copy (.t 0)⟩, ⟨none, some 11, .nilCheck (.t 10)⟩, ⟨none, some 12, .fieldA 0 (.t 11)⟩, ⟨none, some 13, .call 85 [(.t 12), (.c (.lit (.int .i64 0)))]⟩] [] []) (.seq (.reg [⟨none, some 14, .copy (.t 0)⟩, ⟨none, some 15, .copy (.t 0)⟩, ⟨none, some 16, .copy (.t 1)⟩, ⟨none, some 17, .copy (.t 1)⟩, ⟨none, some 18, .nilCheck (.t 14)⟩, ⟨none, some 19, .fieldA 7 (.t 18)⟩, ⟨none, none, .store 1 (.t 19) (.t 16)⟩, ⟨none, some 20, .nilCheck (.t 15)⟩, ⟨none, some 21, .fieldA 8 (.t 20)⟩, ⟨none, none, .store 1 (.t 21) (.t 17)⟩] [] []) (.seq (.reg [⟨none, some 22, .copy (.t 1)⟩] [] []) (.cond (.t 22) (.seq (.reg [⟨none, some 24, .copy (.t 0)⟩, ⟨none, some 25, .copy (.t 0)⟩, ⟨none, some 26, .nilCheck (.t 25)⟩, ⟨none, some 27, .fieldA 3 (.t 26)⟩, ⟨none, some 28, .load false 1 (.t 27)⟩, ⟨none, some 29, .call 102 [(.t 28)]⟩, ⟨none, some 23, .copy (.t 29)⟩, ⟨none, some 30, .extract (.t 23) 0⟩, ⟨none, some 31, .extract (.t 23) 1⟩, ⟨none, some 32, .nilCheck (.t 24)⟩, ⟨none, some 33, .fieldA 14 (.t 32)⟩, ⟨none, none, .store 12 (.t 33) (.t 30)⟩] [] []) (.reg [⟨none, some 35, .copy (.t 0)⟩, ⟨none, some 36, .copy (.t 0)⟩, ⟨none, some 37, .nilCheck (.t 36)⟩, ⟨none, some 38, .fieldA 14 (.t 37)⟩, ⟨none, some 39, .load true 12 (.t 38)⟩, ⟨none, some 40, .call 28 [(.t 39)]⟩, ⟨none, some 34, .copy (.t 40)⟩, ⟨none, some 41, .extract (.t 34) 0⟩, ⟨none, some 42, .extract (.t 34) 1⟩, ⟨none, some 43, .nilCheck (.t 35)⟩, ⟨none, some 44, .fieldA 26 (.t 43)⟩, ⟨none, none, .store 1 (.t 44) (.t 41)⟩] [] [])) .skip)))))), []⟩
/- ctl.Node).fail -/
def ir81 : IFn := ⟨(.seq (.reg [⟨none, some 9, .copy (.t 1)⟩, ⟨none, some 10, .copy (.t 2)⟩, ⟨none, some 11, .call 87 [(.t 9), (.t 10)]⟩] [] []) (.seq (.reg [⟨none, some 12, .copy (.t 0)⟩, ⟨none, some 13, .nilCheck (.t 12)⟩, ⟨none, some 14, .fieldA 11 (.t 13)⟩, ⟨none, some 15, .load true 3 (.t 14)⟩, ⟨none, some 16, .call 83 [(.t 15)]⟩, ⟨none, some 8, .copy (.t 16)⟩] [] []) (.seq (.seq (.reg [⟨none, some 17, .copy (.t 3)⟩, ⟨none, some 18, .copy (.t 17)⟩, ⟨some (18, false), some 19, .copy (.t 0)⟩, ⟨some (18, false), some 20, .nilCheck (.t 19)⟩, ⟨some (18, false), some 21, .fieldA 7 (.t 20)⟩, ⟨some (18, false), some 22, .load false 1 (.t 21)⟩, ⟨some (18, false), some 23, .un .not (.t 22)⟩, ⟨none, some 24, .pick (.t 18) (.c (.lit (.bool true))) (.t 23)⟩, ⟨none, some 25, .copy (.t 24)⟩, ⟨some (25, true), some 26, .copy (.t 0)⟩, ⟨some (25, true), some 27, .copy (.t 1)⟩, ⟨some (25, true), some 28, .call 88 [(.t 26), (.t 27), (.c (.lit (.int .i64 1)))]⟩, ⟨some (25, true), some 29, .un .not (.t 28)⟩, ⟨none, some 30, .pick (.t 25) (.t 29) (.c (.lit (.bool false)))⟩] [] []) (.cond (.t 30) .ret .skip)) (.seq (.reg [⟨none, some 31, .copy (.t 0)⟩, ⟨none, some 32, .copy (.t 0)⟩, ⟨none, some 33, .nilCheck (.t 31)⟩, ⟨none, some 34, .fieldA 10 (.t 33)⟩, ⟨none, none, .store 1 (.t 34) (.c (.lit (.bool true)))⟩, ⟨none, some 35, .nilCheck (.t 32)⟩, ⟨none, some 36, .fieldA 9 (.t 35)⟩, ⟨none, none, .store 1 (.t 36) (.c (.lit (.bool false)))⟩] [] []) (.seq (.reg [⟨none, some 37, .copy (.t 8)⟩, ⟨none, some 38, .bin .eql (.t 37) (.c (.lit (.int .i64 0)))⟩] [] []) (.cond (.t 38) (.reg [⟨none, some 39, .copy (.t 0)⟩, ⟨none, some 40, .call 79 [(.t 39), (.c (.lit (.int .i64 3)))]⟩] [] []) (.reg [⟨none, some 41, .copy (.t 0)⟩, ⟨none, some 42, .call 79 [(.t 41), (.c (.lit (.int .i64 4)))]⟩] [] []))))))), []⟩
/- ctl.Node).differs -/
def ir82 : IFn := ⟨(.seq (.reg [⟨none, some 6, .copy (.c (.lit (.bool false)))⟩] [] []) (.seq (.reg [⟨none, some 11, .copy (.t 0)⟩, ⟨none, some 12, .nilCheck (.t 11)⟩, ⟨none, some 13, .fieldA 0 (.t 12)⟩, ⟨none, some 14, .call 50 [(.t 13)]⟩, ⟨none, some 10, .copy (.t 14)⟩, ⟨none, some 15, .extract (.t 10) 0⟩, ⟨none, some 16, .extract (.t 10) 1⟩, ⟨none, some 17, .extract (.t 10) 2⟩, ⟨none, some 7, .copy (.t 15)⟩, ⟨none, some 8, .copy (.t 16)⟩, ⟨none, some 9, .copy (.t 17)⟩] [] []) (.seq (.block 0 (.seq (.reg [⟨none, some 22, .copy (.t 2)⟩, ⟨none, some 23, .bin .eql (.t 22) (.c (.lit (.int .i64 0)))⟩, ⟨none, some 24, .copy (.t 23)⟩, ⟨some (24, true), some 25, .copy (.t 7)⟩, ⟨some (24, true), some 26, .bin .eql (.t 25) (.c (.lit (.int .i64 1)))⟩, ⟨none, some 27, .pick (.t 24) (.t 26) (.c (.lit (.bool false)))⟩, ⟨none, some 28, .copy (.t 27)⟩, ⟨some (28, true), some 29, .copy (.t 9)⟩, ⟨some (28, true), some 30, .un .not (.t 29)⟩, ⟨none, some 31, .pick (.t 28) (.t 30) (.c (.lit (.bool false)))⟩, ⟨none, some 21, .copy (.t 31)⟩] [] []) (.cond (.t 21) (.seq (.reg [⟨none, some 32, .copy (.t 0)⟩, ⟨none, some 33, .copy (.t 0)⟩, ⟨none, some 34, .nilCheck (.t 32)⟩, ⟨none, some 35, .fieldA 7 (.t 34)⟩, ⟨none, none, .store 1 (.t 35) (.c (.lit (.bool false)))⟩, ⟨none, some 36, .nilCheck (.t 33)⟩, ⟨none, some 37, .fieldA 8 (.t 36)⟩, ⟨none, none, .store 1 (.t 37) (.c (.lit (.bool false)))⟩] [] []) (.seq (.reg [⟨none, some 38, .copy (.t 1)⟩, ⟨none, some 39, .call 87 [(.t 38), (.c (.lit (.int .i64 3)))]⟩] [] []) (.seq (.reg [⟨none, some 6, .copy (.c (.lit (.bool true)))⟩] [] []) .ret))) (.seq (.reg [⟨none, some 41, .copy (.t 2)⟩, ⟨none, some 42, .bin .eql (.t 41) (.c (.lit (.int .i64 0)))⟩, ⟨none, some 43, .copy (.t 42)⟩, ⟨some (43, true), some 44, .copy (.t 7)⟩, ⟨some (43, true), some 45, .bin .eql (.t 44) (.c (.lit (.int .i64 1)))⟩, ⟨none, some 46, .pick (.t 43) (.t 45) (.c (.lit (.bool false)))⟩, ⟨none, some 40, .copy (.t 46)⟩] [] []) (.cond (.t 40) (.reg [⟨none, some 47, .copy (.t 0)⟩, ⟨none, some 48, .copy (.t 1)⟩, ⟨none, some 49, .call 81 [(.t 47), (.t 48), (.c (.lit (.int .i64 5))), (.c (.lit (.bool false)))]⟩] [] []) (.seq (.reg [⟨none, some 51, .copy (.t 2)⟩, ⟨none, some 52, .bin .eql (.t 51) (.c (.lit (.int .i64 0)))⟩, ⟨none, some 53, .copy (.t 52)⟩, ⟨some (53, true), some 54, .copy (.t 7)⟩, ⟨some (53, true), some 55, .bin .eql (.t 54) (.c (.lit (.int .i64 6)))⟩, ⟨none, some 56, .pick (.t 53) (.t 55) (.c (.lit (.bool false)))⟩, ⟨none, some 50, .copy (.t 56)⟩] [] []) (.cond (.t 50) (.seq (.reg [⟨none, some 6, .copy (.c (.lit (.bool true)))⟩] [] []) .ret) (.reg [⟨none, some 18, .copy (.t 0)⟩, ⟨none, some 19, .copy (.t 1)⟩, ⟨none, some 20, .call 81 [(.t 18), (.t 19), (.c (.lit (.int .i64 4))), (.c (.lit (.bool true)))]⟩] [] [])))))))) (.seq (.reg [⟨none, some 6, .copy (.c (.lit (.bool false)))⟩] [] []) .ret)))), [.tmp 6]⟩
/- count.State -/
def ir83 : IFn := ⟨(.seq (.reg [⟨none, some 1, .box 3 (.t 0)⟩, ⟨none, some 2, .copy (.c (.lit (.int .i64 0)))⟩] [] []) (.seq (.block 0 (.seq (.reg [⟨none, some 4, .fieldA 2 (.t 1)⟩, ⟨none, some 5, .load false 1 (.t 4)⟩, ⟨none, some 3, .copy (.t 5)⟩] [] []) (.cond (.t 3) (.seq (.reg [⟨none, some 2, .copy (.c (.lit (.int .i64 2)))⟩] [] []) .ret) (.seq (.reg [⟨none, some 7, .fieldA 0 (.t 1)⟩, ⟨none, some 8, .load false 1 (.t 7)⟩, ⟨none, some 9, .bin .gtr (.t 8) (.c (.lit (.int .i64 127)))⟩, ⟨none, some 10, .copy (.t 9)⟩, ⟨some (10, false), some 11, .fieldA 1 (.t 1)⟩, ⟨some (10, false), some 12, .load false 1 (.t 11)⟩, ⟨some (10, false), some 13, .bin .gtr (.t 12) (.c (.lit (.int .i64 127)))⟩, ⟨none, some 14, .pick (.t 10) (.c (.lit (.bool true))) (.t 13)⟩, ⟨none, some 6, .copy (.t 14)⟩] [] []) (.cond (.t 6) (.seq (.reg [⟨none, some 2, .copy (.c (.lit (.int .i64 1)))⟩] [] []) .ret) .skip))))) (.seq (.reg [⟨none, some 2, .copy (.c (.lit (.int .i64 0)))⟩] [] []) .ret))), [.tmp 2]⟩
/- ctl.Node).over -/
def ir84 : IFn := ⟨(.seq (.reg [⟨none, some 4, .copy (.t 1)⟩, ⟨none, some 5, .call 87 [(.t 4), (.c (.lit (.int .i64 9)))]⟩] [] []) (.seq (.reg [⟨none, some 6, .copy (.t 0)⟩, ⟨none, some 7, .nilCheck (.t 6)⟩, ⟨none, some 8, .fieldA 10 (.t 7)⟩, ⟨none, none, .store 1 (.t 8) (.c (.lit (.bool false)))⟩] [] []) (.reg [⟨none, some 9, .copy (.t 0)⟩, ⟨none, some 10, .call 79 [(.t 9), (.c (.lit (.int .i64 5)))]⟩] [] []))), []⟩
/- ctl.reader).take -/
def ir85 : IFn := ⟨(.seq (.reg [⟨none, some 4, .copy (.c (.lit (.bool false)))⟩] [] []) (.seq (.reg [⟨none, some 9, .copy (.t 0)⟩, ⟨none, some 10, .call 50 [(.t 9)]⟩, ⟨none, some 8, .copy (.t 10)⟩, ⟨none, some 11, .extract (.t 8) 0⟩, ⟨none, some 12, .extract (.t 8) 1⟩, ⟨none, some 13, .extract (.t 8) 2⟩, ⟨none, some 5, .copy (.t 11)⟩, ⟨none, some 6, .copy (.t 12)⟩, ⟨none, some 7, .copy (.t 13)⟩] [] []) (.seq (.block 0 (.seq (.reg [⟨none, some 22, .copy (.t 7)⟩, ⟨none, some 23, .copy (.t 22)⟩, ⟨some (23, true), some 24, .copy (.t 1)⟩, ⟨some (23, true), some 25, .copy (.t 0)⟩, ⟨some (23, true), some 26, .nilCheck (.t 25)⟩, ⟨some (23, true), some 27, .fieldA 1 (.t 26)⟩, ⟨some (23, true), some 28, .load false 1 (.t 27)⟩, ⟨some (23, true), some 29, .bin .eql (.t 24) (.t 28)⟩, ⟨none, some 30, .pick (.t 23) (.t 29) (.c (.lit (.bool false)))⟩, ⟨none, some 21, .copy (.t 30)⟩] [] []) (.cond (.t 21) (.seq (.reg [⟨none, some 4, .copy (.c (.lit (.bool false)))⟩] [] []) .ret) (.seq (.reg [⟨none, some 32, .copy (.t 7)⟩, ⟨none, some 31, .copy (.t 32)⟩] [] []) (.cond (.t 31) (.seq (.reg [⟨none, some 33, .copy (.t 0)⟩, ⟨none, some 34, .copy (.t 0)⟩, ⟨none, some 35, .copy (.t 1)⟩, ⟨none, some 36, .nilCheck (.t 33)⟩, ⟨none, some 37, .fieldA 1 (.t 36)⟩, ⟨none, none, .store 1 (.t 37) (.t 35)⟩, ⟨none, some 38, .nilCheck (.t 34)⟩, ⟨none, some 39, .fieldA 2 (.t 38)⟩, ⟨none, none, .store 1 (.t 39) (.c (.lit (.int .i64 1)))⟩] [] []) (.seq (.reg [⟨none, some 4, .copy (.c (.lit (.bool true)))⟩] [] []) .ret)) (.seq (.reg [⟨none, some 41, .copy (.t 5)⟩, ⟨none, some 42, .bin .gtr (.t 41) (.c (.lit (.int .i64 4)))⟩, ⟨none, some 40, .copy (.t 42)⟩] [] []) (.cond (.t 40) (.reg [⟨none, some 43, .copy (.t 0)⟩, ⟨none, some 44, .nilCheck (.t 43)⟩, ⟨none, some 45, .fieldA 2 (.t 44)⟩, ⟨none, none, .store 1 (.t 45) (.c (.lit (.int .i64 0)))⟩] [] []) (.seq (.reg [⟨none, some 47, .copy (.t 0)⟩, ⟨none, some 48, .nilCheck (.t 47)⟩, ⟨none, some 49, .fieldA 2 (.t 48)⟩, ⟨none, some 50, .load false 1 (.t 49)⟩, ⟨none, some 51, .bin .gtr (.t 50) (.c (.lit (.int .i64 0)))⟩, ⟨none, some 52, .copy (.t 51)⟩, ⟨some (52, true), some 53, .copy (.t 1)⟩, ⟨some (52, true), some 54, .copy (.t 0)⟩, ⟨some (52, true), some 55, .nilCheck (.t 54)⟩, ⟨some (52, true), some 56, .fieldA 1 (.t 55)⟩, ⟨some (52, true), some 57, .load false 1 (.t 56)⟩, ⟨some (52, true), some 58, .bin .eql (.t 53) (.t 57)⟩, ⟨none, some 59, .pick (.t 52) (.t 58) (.c (.lit (.bool false)))⟩, ⟨none, some 46, .copy (.t 59)⟩] [] []) (.cond (.t 46) (.reg [⟨none, some 60, .copy (.t 0)⟩, ⟨none, some 61, .nilCheck (.t 60)⟩, ⟨none, some 62, .fieldA 2 (.t 61)⟩, ⟨none, some 63, .load false 1 (.t 62)⟩, ⟨none, some 64, .bin .add (.t 63) (.c (.lit (.int .i64 1)))⟩, ⟨none, some 65, .nilCheck (.t 60)⟩, ⟨none, some 66, .fieldA 2 (.t 65)⟩, ⟨none, none, .store 1 (.t 66) (.t 64)⟩] [] []) (.reg [⟨none, some 14, .copy (.t 0)⟩, ⟨none, some 15, .copy (.t 0)⟩, ⟨none, some 16, .copy (.t 1)⟩, ⟨none, some 17, .nilCheck (.t 14)⟩, ⟨none, some 18, .fieldA 1 (.t 17)⟩, ⟨none, none, .store 1 (.t 18) (.t 16)⟩, ⟨none, some 19, .nilCheck (.t 15)⟩, ⟨none, some 20, .fieldA 2 (.t 19)⟩, ⟨none, none, .store 1 (.t 20) (.c (.lit (.int .i64 1)))⟩] [] [])))))))))) (.seq (.reg [⟨none, some 67, .copy (.t 0)⟩, ⟨none, some 68, .copy (.t 0)⟩, ⟨none, some 69, .nilCheck (.t 68)⟩, ⟨none, some 70, .fieldA 0 (.t 69)⟩, ⟨none, some 71, .load false 1 (.t 70)⟩, ⟨none, some 72, .copy (.t 1)⟩, ⟨none, some 73, .mkSlice true 1 [(.lit (.int .i64 0))] 1 [(0, (.t 72))]⟩, ⟨none, some 74, .append true 1 8 (.t 71) (.t 73)⟩, ⟨none, some 75, .nilCheck (.t 67)⟩, ⟨none, some 76, .fieldA 0 (.t 75)⟩, ⟨none, none, .store 1 (.t 76) (.t 74)⟩] [] []) (.seq (.reg [⟨none, some 4, .copy (.c (.lit (.bool true)))⟩] [] []) .ret))))), [.tmp 4]⟩
/- ctl.Node).end -/
def ir86 : IFn := ⟨(.block 0 (.seq (.reg [⟨none, some 7, .copy (.t 2)⟩, ⟨none, some 8, .bin .eql (.t 7) (.c (.lit (.int .i64 5)))⟩, ⟨none, some 9, .copy (.t 8)⟩, ⟨some (9, true), some 10, .copy (.t 0)⟩, ⟨some (9, true), some 11, .nilCheck (.t 10)⟩, ⟨some (9, true), some 12, .fieldA 8 (.t 11)⟩, ⟨some (9, true), some 13, .load false 1 (.t 12)⟩, ⟨some (9, true), some 14, .un .not (.t 13)⟩, ⟨none, some 15, .pick (.t 9) (.t 14) (.c (.lit (.bool false)))⟩, ⟨none, some 6, .copy (.t 15)⟩] [] []) (.cond (.t 6) (.seq (.reg [⟨none, some 16, .copy (.t 0)⟩, ⟨none, some 17, .copy (.t 0)⟩, ⟨none, some 18, .nilCheck (.t 17)⟩, ⟨none, some 19, .fieldA 11 (.t 18)⟩, ⟨none, some 20, .load true 3 (.t 19)⟩, ⟨none, some 21, .call 103 [(.t 20)]⟩, ⟨none, some 22, .nilCheck (.t 16)⟩, ⟨none, some 23, .fieldA 11 (.t 22)⟩, ⟨none, none, .store 3 (.t 23) (.t 21)⟩] [] []) (.seq (.reg [⟨none, some 25, .copy (.t 1)⟩, ⟨none, some 26, .copy (.t 0)⟩, ⟨none, some 27, .nilCheck (.t 26)⟩, ⟨none, some 28, .fieldA 0 (.t 27)⟩, ⟨none, some 29, .fieldA 0 (.t 28)⟩, ⟨none, some 30, .load false 1 (.t 29)⟩, ⟨none, some 31, .call 104 [(.t 30)]⟩, ⟨none, some 24, .copy (.t 31)⟩, ⟨none, some 32, .extract (.t 24) 0⟩, ⟨none, some 33, .extract (.t 24) 1⟩, ⟨none, some 34, .nilCheck (.t 25)⟩, ⟨none, some 35, .fieldA 1 (.t 34)⟩, ⟨none, none, .store 12 (.t 35) (.t 32)⟩] [] []) (.reg [⟨none, some 36, .copy (.t 1)⟩, ⟨none, some 37, .call 87 [(.t 36), (.c (.lit (.int .i64 2)))]⟩] [] []))) (.seq (.reg [⟨none, some 39, .copy (.t 2)⟩, ⟨none, some 40, .bin .eql (.t 39) (.c (.lit (.int .i64 6)))⟩, ⟨none, some 38, .copy (.t 40)⟩] [] []) (.cond (.t 38) (.seq (.seq (.reg [⟨none, some 41, .copy (.t 0)⟩, ⟨none, some 42, .nilCheck (.t 41)⟩, ⟨none, some 43, .fieldA 8 (.t 42)⟩, ⟨none, some 44, .load false 1 (.t 43)⟩] [] []) (.cond (.t 44) (.seq (.reg [⟨none, some 45, .copy (.t 0)⟩, ⟨none, some 46, .copy (.t 0)⟩, ⟨none, some 47, .nilCheck (.t 46)⟩, ⟨none, some 48, .fieldA 11 (.t 47)⟩, ⟨none, some 49, .load true 3 (.t 48)⟩, ⟨none, some 50, .call 105 [(.t 49)]⟩, ⟨none, some 51, .nilCheck (.t 45)⟩, ⟨none, some 52, .fieldA 11 (.t 51)⟩, ⟨none, none, .store 3 (.t 52) (.t 50)⟩] [] []) (.seq (.reg [⟨none, some 53, .copy (.t 0)⟩, ⟨none, some 54, .nilCheck (.t 53)⟩, ⟨none, some 55, .fieldA 3 (.t 54)⟩, ⟨none, some 56, .load false 1 (.t 55)⟩, ⟨none, some 57, .copy (.t 0)⟩, ⟨none, some 58, .nilCheck (.t 57)⟩, ⟨none, some 59, .fieldA 14 (.t 58)⟩, ⟨none, some 60, .load true 12 (.t 59)⟩, ⟨none, some 61, .call 106 [(.t 56), (.t 60)]⟩] [] []) (.seq (.reg [⟨none, some 62, .copy (.t 1)⟩, ⟨none, some 63, .copy (.t 0)⟩, ⟨none, some 64, .nilCheck (.t 63)⟩, ⟨none, some 65, .fieldA 14 (.t 64)⟩, ⟨none, some 66, .load true 12 (.t 65)⟩, ⟨none, some 67, .nilCheck (.t 62)⟩, ⟨none, some 68, .fieldA 1 (.t 67)⟩, ⟨none, none, .store 12 (.t 68) (.t 66)⟩] [] []) (.reg [⟨none, some 69, .copy (.t 1)⟩, ⟨none, some 70, .call 87 [(.t 69), (.c (.lit (.int .i64 1)))]⟩] [] [])))) .skip)) (.reg [⟨none, some 71, .copy (.t 0)⟩, ⟨none, some 72, .call 79 [(.t 71), (.c (.lit (.int .i64 8)))]⟩] [] [])) .skip))))), []⟩
/- ctl.told).tell -/
def ir87 : IFn := ⟨(.reg [⟨none, some 4, .copy (.t 0)⟩, ⟨none, some 5, .copy (.t 0)⟩, ⟨none, some 6, .nilCheck (.t 5)⟩, ⟨none, some 7, .fieldA 0 (.t 6)⟩, ⟨none, some 8, .load false 1 (.t 7)⟩, ⟨none, some 9, .copy (.t 1)⟩, ⟨none, some 10, .mkSlice true 1 [(.lit (.int .i64 0))] 1 [(0, (.t 9))]⟩, ⟨none, some 11, .append true 1 8 (.t 8) (.t 10)⟩, ⟨none, some 12, .nilCheck (.t 4)⟩, ⟨none, some 13, .fieldA 0 (.t 12)⟩, ⟨none, none, .store 1 (.t 13) (.t 11)⟩] [] []), []⟩
/- ctl.Node).charge -/
def ir88 : IFn := ⟨(.seq (.reg [⟨none, some 6, .copy (.c (.lit (.bool false)))⟩] [] []) (.seq (.seq (.reg [⟨none, some 7, .copy (.t 0)⟩, ⟨none, some 8, .nilCheck (.t 7)⟩, ⟨none, some 9, .fieldA 7 (.t 8)⟩, ⟨none, some 10, .load false 1 (.t 9)⟩] [] []) (.cond (.t 10) (.reg [⟨none, some 11, .copy (.t 0)⟩, ⟨none, some 12, .copy (.t 0)⟩, ⟨none, some 13, .nilCheck (.t 12)⟩, ⟨none, some 14, .fieldA 11 (.t 13)⟩, ⟨none, some 15, .load true 3 (.t 14)⟩, ⟨none, some 16, .call 107 [(.t 15)]⟩, ⟨none, some 17, .nilCheck (.t 11)⟩, ⟨none, some 18, .fieldA 11 (.t 17)⟩, ⟨none, none, .store 3 (.t 18) (.t 16)⟩] [] []) (.reg [⟨none, some 19, .copy (.t 0)⟩, ⟨none, some 20, .copy (.t 0)⟩, ⟨none, some 21, .nilCheck (.t 20)⟩, ⟨none, some 22, .fieldA 11 (.t 21)⟩, ⟨none, some 23, .load true 3 (.t 22)⟩, ⟨none, some 24, .copy (.t 2)⟩, ⟨none, some 25, .call 108 [(.t 23), (.t 24)]⟩, ⟨none, some 26, .nilCheck (.t 19)⟩, ⟨none, some 27, .fieldA 11 (.t 26)⟩, ⟨none, none, .store 3 (.t 27) (.t 25)⟩] [] []))) (.seq (.seq (.reg [⟨none, some 28, .copy (.t 0)⟩, ⟨none, some 29, .nilCheck (.t 28)⟩, ⟨none, some 30, .fieldA 11 (.t 29)⟩, ⟨none, some 31, .load true 3 (.t 30)⟩, ⟨none, some 32, .call 83 [(.t 31)]⟩, ⟨none, some 33, .bin .neq (.t 32) (.c (.lit (.int .i64 2)))⟩] [] []) (.cond (.t 33) (.seq (.reg [⟨none, some 6, .copy (.c (.lit (.bool true)))⟩] [] []) .ret) .skip)) (.seq (.reg [⟨none, some 34, .copy (.t 0)⟩, ⟨none, some 35, .call 79 [(.t 34), (.c (.lit (.int .i64 10)))]⟩] [] []) (.seq (.reg [⟨none, some 36, .copy (.t 0)⟩, ⟨none, some 37, .nilCheck (.t 36)⟩, ⟨none, some 38, .fieldA 6 (.t 37)⟩, ⟨none, none, .store 1 (.t 38) (.c (.lit (.int .i64 0)))⟩] [] []) (.seq (.reg [⟨none, some 39, .copy (.t 1)⟩, ⟨none, some 40, .call 87 [(.t 39), (.c (.lit (.int .i64 10)))]⟩] [] []) (.seq (.reg [⟨none, some 6, .copy (.c (.lit (.bool false)))⟩] [] []) .ret))))))), [.tmp 6]⟩
/- ctl.Node).late -/
def ir89 : IFn := ⟨(.seq (.reg [⟨none, some 2, .copy (.c (.lit (.bool false)))⟩] [] []) (.seq (.reg [⟨none, some 3, .copy (.t 0)⟩, ⟨none, some 4, .nilCheck (.t 3)⟩, ⟨none, some 5, .fieldA 7 (.t 4)⟩, ⟨none, some 6, .load false 1 (.t 5)⟩, ⟨none, some 7, .copy (.t 6)⟩, ⟨some (7, true), some 8, .copy (.t 0)⟩, ⟨some (7, true), some 9, .nilCheck (.t 8)⟩, ⟨some (7, true), some 10, .fieldA 11 (.t 9)⟩, ⟨some (7, true), some 11, .load true 3 (.t 10)⟩, ⟨some (7, true), some 12, .call 83 [(.t 11)]⟩, ⟨some (7, true), some 13, .bin .eql (.t 12) (.c (.lit (.int .i64 1)))⟩, ⟨none, some 14, .pick (.t 7) (.t 13) (.c (.lit (.bool false)))⟩, ⟨none, some 2, .copy (.t 14)⟩] [] []) .ret)), [.tmp 2]⟩
/- count.Back -/
def ir90 : IFn := ⟨(.seq (.reg [⟨none, some 1, .box 3 (.t 0)⟩, ⟨none, some 2, .alloc [(.lit (.int .i64 0)), (.lit (.int .i64 0)), (.lit (.bool false))]⟩] [] []) (.seq (.reg [⟨none, some 3, .build [(.lit (.int .i64 0)), (.lit (.int .i64 0)), (.lit (.bool false))] []⟩, ⟨none, none, .store 3 (.t 2) (.t 3)⟩] [] []) .ret)), [.cell 2 true 3]⟩
/- queue.row).put$1 -/
def ir91 : IFn := ⟨(.seq (.reg [⟨none, some 2, .box 12 (.t 0)⟩, ⟨none, some 3, .copy (.c (.lit (.bool false)))⟩] [] []) (.seq (.reg [⟨none, some 4, .load true 12 (.t 1)⟩, ⟨none, some 5, .load true 12 (.t 2)⟩, ⟨none, some 6, .call 23 [(.t 4), (.t 5)]⟩, ⟨none, some 3, .copy (.t 6)⟩] [] []) .ret)), [.tmp 3]⟩
/- api.Frame] -/
def L92_0 : ICode := (.seq (.reg [⟨none, some 9, .bin .lss (.t 8) (.t 7)⟩] [] []) (.seq (.cond (.t 9) .skip (.exit 0)) (.seq (.block 1 (.seq (.reg [⟨none, some 10, .copy (.t 8)⟩, ⟨none, some 5, .copy (.t 10)⟩] [] []) (.seq (.reg [⟨none, some 11, .copy (.t 1)⟩, ⟨none, some 12, .copy (.t 0)⟩, ⟨none, some 13, .copy (.t 5)⟩, ⟨none, some 14, .idxS 12 (.t 12) (.t 13)⟩, ⟨none, some 15, .load true 12 (.t 14)⟩, ⟨none, some 16, .callV (.t 11) [(.t 15)]⟩] [] []) (.cond (.t 16) (.seq (.reg [⟨none, some 17, .copy (.t 5)⟩, ⟨none, some 4, .copy (.t 17)⟩] [] []) .ret) .skip)))) (.reg [⟨none, some 18, .bin .add (.t 8) (.c (.lit (.int .i64 1)))⟩, ⟨none, some 8, .copy (.t 18)⟩] [] []))))
def ir92 : IFn := ⟨(.seq (.reg [⟨none, some 4, .copy (.c (.lit (.int .i64 0)))⟩] [] []) (.seq (.seq (.reg [⟨none, some 6, .copy (.t 0)⟩, ⟨none, some 7, .len (.t 6)⟩, ⟨none, some 8, .copy (.c (.lit (.int .i64 0)))⟩] [] []) (.block 0 (.loop [0, 1, 7, 8] L92_0))) (.seq (.reg [⟨none, some 4, .copy (.c (.lit (.int .i64 (-1))))⟩] [] []) .ret))), [.tmp 4]⟩
/- frame.level -/
def ir94 : IFn := ⟨(.seq (.reg [⟨none, some 2, .copy (.c (.lit (.int .i64 0)))⟩] [] []) (.seq (.seq (.reg [⟨none, some 3, .copy (.t 0)⟩] [] []) (.cond (.t 3) (.seq (.reg [⟨none, some 2, .copy (.c (.lit (.int .i64 1)))⟩] [] []) .ret) .skip)) (.seq (.reg [⟨none, some 2, .copy (.c (.lit (.int .i64 0)))⟩] [] []) .ret))), [.tmp 2]⟩
/- cmp.Compare[int] -/
def ir95 : IFn := ⟨(.seq (.reg [⟨none, some 4, .copy (.c (.lit (.int .i64 0)))⟩] [] []) (.seq (.reg [⟨none, some 7, .copy (.t 0)⟩, ⟨none, some 8, .call 111 [(.t 7)]⟩, ⟨none, some 5, .copy (.t 8)⟩] [] []) (.seq (.reg [⟨none, some 9, .copy (.t 1)⟩, ⟨none, some 10, .call 111 [(.t 9)]⟩, ⟨none, some 6, .copy (.t 10)⟩] [] []) (.seq (.seq (.reg [⟨none, some 11, .copy (.t 5)⟩] [] []) (.cond (.t 11) (.seq (.seq (.reg [⟨none, some 12, .copy (.t 6)⟩] [] []) (.cond (.t 12) (.seq (.reg [⟨none, some 4, .copy (.c (.lit (.int .i64 0)))⟩] [] []) .ret) .skip)) (.seq (.reg [⟨none, some 4, .copy (.c (.lit (.int .i64 (-1))))⟩] [] []) .ret)) .skip)) (.seq (.seq (.reg [⟨none, some 13, .copy (.t 6)⟩] [] []) (.cond (.t 13) (.seq (.reg [⟨none, some 4, .copy (.c (.lit (.int .i64 1)))⟩] [] []) .ret) .skip)) (.seq (.seq (.reg [⟨none, some 14, .copy (.t 0)⟩, ⟨none, some 15, .copy (.t 1)⟩, ⟨none, some 16, .bin .lss (.t 14) (.t 15)⟩] [] []) (.cond (.t 16) (.seq (.reg [⟨none, some 4, .copy (.c (.lit (.int .i64 (-1))))⟩] [] []) .ret) .skip)) (.seq (.seq (.reg [⟨none, some 17, .copy (.t 0)⟩, ⟨none, some 18, .copy (.t 1)⟩, ⟨none, some 19, .bin .gtr (.t 17) (.t 18)⟩] [] []) (.cond (.t 19) (.seq (.reg [⟨none, some 4, .copy (.c (.lit (.int .i64 1)))⟩] [] []) .ret) .skip)) (.seq (.reg [⟨none, some 4, .copy (.c (.lit (.int .i64 0)))⟩] [] []) .ret)))))))), [.tmp 4]⟩
/- bits.Mul32 -/
def ir96 : IFn := ⟨(.seq (.reg [⟨none, some 4, .copy (.c (.lit (.int .u32 0)))⟩, ⟨none, some 5, .copy (.c (.lit (.int .u32 0)))⟩] [] []) (.seq (.reg [⟨none, some 7, .copy (.t 0)⟩, ⟨none, some 8, .toInt .u64 (.t 7)⟩, ⟨none, some 9, .copy (.t 1)⟩, ⟨none, some 10, .toInt .u64 (.t 9)⟩, ⟨none, some 11, .bin .mul (.t 8) (.t 10)⟩, ⟨none, some 6, .copy (.t 11)⟩] [] []) (.seq (.reg [⟨none, some 12, .copy (.t 6)⟩, ⟨none, some 13, .bin .shr (.t 12) (.c (.lit (.int .u64 32)))⟩, ⟨none, some 14, .toInt .u32 (.t 13)⟩, ⟨none, some 15, .copy (.t 6)⟩, ⟨none, some 16, .toInt .u32 (.t 15)⟩, ⟨none, some 4, .copy (.t 14)⟩, ⟨none, some 5, .copy (.t 16)⟩] [] []) .ret))), [.tmp 4, .tmp 5]⟩
/- bits.Mul64 -/
def ir97 : IFn := ⟨(.seq (.reg [⟨none, some 4, .copy (.c (.lit (.int .u64 0)))⟩, ⟨none, some 5, .copy (.c (.lit (.int .u64 0)))⟩] [] []) (.seq (.reg [⟨none, some 14, .copy (.t 0)⟩, ⟨none, some 15, .bin .and (.t 14) (.c (.lit (.int .u64 4294967295)))⟩, ⟨none, some 6, .copy (.t 15)⟩] [] []) (.seq (.reg [⟨none, some 16, .copy (.t 0)⟩, ⟨none, some 17, .bin .shr (.t 16) (.c (.lit (.int .u64 32)))⟩, ⟨none, some 7, .copy (.t 17)⟩] [] []) (.seq (.reg [⟨none, some 18, .copy (.t 1)⟩, ⟨none, some 19, .bin .and (.t 18) (.c (.lit (.int .u64 4294967295)))⟩, ⟨none, some 8, .copy (.t 19)⟩] [] []) (.seq (.reg [⟨none, some 20, .copy (.t 1)⟩, ⟨none, some 21, .bin .shr (.t 20) (.c (.lit (.int .u64 32)))⟩, ⟨none, some 9, .copy (.t 21)⟩] [] []) (.seq (.reg [⟨none, some 22, .copy (.t 6)⟩, ⟨none, some 23, .copy (.t 8)⟩, ⟨none, some 24, .bin .mul (.t 22) (.t 23)⟩, ⟨none, some 10, .copy (.t 24)⟩] [] []) (.seq (.reg [⟨none, some 25, .copy (.t 7)⟩, ⟨none, some 26, .copy (.t 8)⟩, ⟨none, some 27, .bin .mul (.t 25) (.t 26)⟩, ⟨none, some 28, .copy (.t 10)⟩, ⟨none, some 29, .bin .shr (.t 28) (.c (.lit (.int .u64 32)))⟩, ⟨none, some 30, .bin .add (.t 27) (.t 29)⟩, ⟨none, some 11, .copy (.t 30)⟩] [] []) (.seq (.reg [⟨none, some 31, .copy (.t 11)⟩, ⟨none, some 32, .bin .and (.t 31) (.c (.lit (.int .u64 4294967295)))⟩, ⟨none, some 12, .copy (.t 32)⟩] [] []) (.seq (.reg [⟨none, some 33, .copy (.t 11)⟩, ⟨none, some 34, .bin .shr (.t 33) (.c (.lit (.int .u64 32)))⟩, ⟨none, some 13, .copy (.t 34)⟩] [] []) (.seq (.reg [⟨none, some 35, .copy (.t 12)⟩, ⟨none, some 36, .copy (.t 6)⟩, ⟨none, some 37, .copy (.t 9)⟩, ⟨none, some 38, .bin .mul (.t 36) (.t 37)⟩, ⟨none, some 39, .bin .add (.t 35) (.t 38)⟩, ⟨none, some 12, .copy (.t 39)⟩] [] []) (.seq (.reg [⟨none, some 40, .copy (.t 7)⟩, ⟨none, some 41, .copy (.t 9)⟩, ⟨none, some 42, .bin .mul (.t 40) (.t 41)⟩, ⟨none, some 43, .copy (.t 13)⟩, ⟨none, some 44, .bin .add (.t 42) (.t 43)⟩, ⟨none, some 45, .copy (.t 12)⟩, ⟨none, some 46, .bin .shr (.t 45) (.c (.lit (.int .u64 32)))⟩, ⟨none, some 47, .bin .add (.t 44) (.t 46)⟩, ⟨none, some 4, .copy (.t 47)⟩] [] []) (.seq (.reg [⟨none, some 48, .copy (.t 0)⟩, ⟨none, some 49, .copy (.t 1)⟩, ⟨none, some 50, .bin .mul (.t 48) (.t 49)⟩, ⟨none, some 5, .copy (.t 50)⟩] [] []) .ret)))))))))))), [.tmp 4, .tmp 5]⟩
/- field.read -/
def ir98 : IFn := ⟨(.seq (.reg [⟨none, some 2, .alloc [(.lit (.bool false)), (.lit (.bool false)), (.lit (.int .i64 0)), (.lit (.int .i64 0)), (.lit (.int .i64 0))]⟩, ⟨none, some 3, .copy (.c (.lit (.bool false)))⟩] [] []) (.seq (.seq (.reg [⟨none, some 8, .copy (.t 0)⟩, ⟨none, some 9, .len (.t 8)⟩, ⟨none, some 10, .bin .leq (.t 9) (.c (.lit (.int .i64 13)))⟩] [] []) (.cond (.t 10) (.seq (.reg [⟨none, some 11, .build [(.lit (.bool false)), (.lit (.bool false)), (.lit (.int .i64 0)), (.lit (.int .i64 0)), (.lit (.int .i64 0))] []⟩, ⟨none, none, .store 5 (.t 2) (.t 11)⟩, ⟨none, some 3, .copy (.c (.lit (.bool false)))⟩] [] []) .ret) .skip)) (.seq (.reg [⟨none, some 12, .copy (.t 0)⟩, ⟨none, some 13, .idxS 1 (.t 12) (.c (.lit (.int .i64 13)))⟩, ⟨none, some 14, .load false 1 (.t 13)⟩, ⟨none, some 15, .bin .eql (.t 14) (.c (.lit (.int .i64 1)))⟩, ⟨none, some 16, .build [(.lit (.bool false)), (.lit (.bool false)), (.lit (.int .i64 0)), (.lit (.int .i64 0)), (.lit (.int .i64 0))] [(0, 1, (.t 15)), (2, 1, (.c (.lit (.int .i64 14)))), (3, 1, (.c (.lit (.int .i64 19))))]⟩, ⟨none, some 4, .alloc [(.lit (.bool false)), (.lit (.bool false)), (.lit (.int .i64 0)), (.lit (.int .i64 0)), (.lit (.int .i64 0))]⟩, ⟨none, none, .store 5 (.t 4) (.t 16)⟩] [] []) (.seq (.reg [⟨none, some 5, .copy (.c (.lit (.int .i64 12)))⟩] [] []) (.seq (.seq (.reg [⟨none, some 17, .fieldA 0 (.t 4)⟩, ⟨none, some 18, .load false 1 (.t 17)⟩] [] []) (.cond (.t 18) (.reg [⟨none, some 5, .copy (.c (.lit (.int .i64 32)))⟩, ⟨none, some 19, .fieldA 2 (.t 4)⟩, ⟨none, none, .store 1 (.t 19) (.c (.lit (.int .i64 33)))⟩, ⟨none, some 20, .fieldA 3 (.t 4)⟩, ⟨none, none, .store 1 (.t 20) (.c (.lit (.int .i64 39)))⟩] [] []) .skip)) (.seq (.seq (.reg [⟨none, some 21, .copy (.t 0)⟩, ⟨none, some 22, .len (.t 21)⟩, ⟨none, some 23, .fieldA 3 (.t 4)⟩, ⟨none, some 24, .load false 1 (.t 23)⟩, ⟨none, some 25, .bin .lss (.t 22) (.t 24)⟩] [] []) (.cond (.t 25) (.seq (.reg [⟨none, some 26, .load true 5 (.t 4)⟩, ⟨none, none, .store 5 (.t 2) (.t 26)⟩, ⟨none, some 3, .copy (.c (.lit (.bool false)))⟩] [] []) .ret) .skip)) (.seq (.reg [⟨none, some 27, .copy (.t 0)⟩, ⟨none, some 28, .copy (.t 5)⟩, ⟨none, some 29, .idxS 1 (.t 27) (.t 28)⟩, ⟨none, some 30, .load false 1 (.t 29)⟩, ⟨none, some 31, .bin .eql (.t 30) (.c (.lit (.int .i64 1)))⟩, ⟨none, some 32, .fieldA 1 (.t 4)⟩, ⟨none, none, .store 1 (.t 32) (.t 31)⟩] [] []) (.seq (.reg [⟨none, some 34, .copy (.t 0)⟩, ⟨none, some 35, .fieldA 3 (.t 4)⟩, ⟨none, some 36, .load false 1 (.t 35)⟩, ⟨none, some 37, .bin .sub (.t 36) (.c (.lit (.int .i64 4)))⟩, ⟨none, some 38, .fieldA 3 (.t 4)⟩, ⟨none, some 39, .load false 1 (.t 38)⟩, ⟨none, some 40, .slice 1 (.t 34) (some (.t 37)) (some (.t 39)) none⟩, ⟨none, some 41, .call 112 [(.t 40)]⟩, ⟨none, some 33, .copy (.t 41)⟩, ⟨none, some 42, .extract (.t 33) 0⟩, ⟨none, some 43, .extract (.t 33) 1⟩, ⟨none, some 6, .copy (.t 42)⟩, ⟨none, some 7, .copy (.t 43)⟩] [] []) (.seq (.reg [⟨none, some 44, .copy (.t 6)⟩, ⟨none, some 45, .toInt .i64 (.t 44)⟩, ⟨none, some 46, .minI (.t 45) [(.c (.lit (.int .i64 8)))]⟩, ⟨none, some 47, .fieldA 4 (.t 4)⟩, ⟨none, none, .store 1 (.t 47) (.t 46)⟩] [] []) (.seq (.reg [⟨none, some 48, .load true 5 (.t 4)⟩, ⟨none, none, .store 5 (.t 2) (.t 48)⟩, ⟨none, some 3, .copy (.c (.lit (.bool true)))⟩] [] []) .ret)))))))))), [.cell 2 true 5, .tmp 3]⟩
/- field.head).sum -/
def ir99 : IFn := ⟨(.seq (.reg [⟨none, some 1, .box 5 (.t 0)⟩, ⟨none, some 2, .copy (.c (.lit (.int .i64 0)))⟩] [] []) (.seq (.seq (.reg [⟨none, some 3, .fieldA 1 (.t 1)⟩, ⟨none, some 4, .load false 1 (.t 3)⟩] [] []) (.cond (.t 4) (.seq (.reg [⟨none, some 5, .fieldA 3 (.t 1)⟩, ⟨none, some 6, .load false 1 (.t 5)⟩, ⟨none, some 2, .copy (.t 6)⟩] [] []) .ret) .skip)) (.seq (.reg [⟨none, some 7, .fieldA 3 (.t 1)⟩, ⟨none, some 8, .load false 1 (.t 7)⟩, ⟨none, some 9, .fieldA 4 (.t 1)⟩, ⟨none, some 10, .load false 1 (.t 9)⟩, ⟨none, some 11, .bin .mul (.c (.lit (.int .i64 8))) (.t 10)⟩, ⟨none, some 12, .bin .add (.t 8) (.t 11)⟩, ⟨none, some 2, .copy (.t 12)⟩] [] []) .ret))), [.tmp 2]⟩
/- field.Ahead -/
def ir100 : IFn := ⟨(.seq (.reg [⟨none, some 2, .copy (.c (.lit (.int .i64 0)))⟩, ⟨none, some 3, .copy (.c (.lit (.int .i64 0)))⟩] [] []) (.seq (.seq (.reg [⟨none, some 6, .copy (.t 0)⟩, ⟨none, some 7, .call 47 [(.t 6)]⟩, ⟨none, some 8, .bin .geq (.t 7) (.c (.lit (.int .i64 0)))⟩] [] []) (.cond (.t 8) (.seq (.reg [⟨none, some 2, .copy (.c (.lit (.int .i64 0)))⟩, ⟨none, some 3, .copy (.c (.lit (.int .i64 10)))⟩] [] []) .ret) .skip)) (.seq (.reg [⟨none, some 10, .copy (.t 0)⟩, ⟨none, some 11, .call 98 [(.t 10)]⟩, ⟨none, some 9, .copy (.t 11)⟩, ⟨none, some 12, .extract (.t 9) 0⟩, ⟨none, some 13, .extract (.t 9) 1⟩, ⟨none, some 4, .alloc [(.lit (.bool false)), (.lit (.bool false)), (.lit (.int .i64 0)), (.lit (.int .i64 0)), (.lit (.int .i64 0))]⟩, ⟨none, none, .store 5 (.t 4) (.t 12)⟩, ⟨none, some 5, .copy (.t 13)⟩] [] []) (.seq (.seq (.reg [⟨none, some 14, .copy (.t 5)⟩, ⟨none, some 15, .un .not (.t 14)⟩] [] []) (.cond (.t 15) (.seq (.reg [⟨none, some 2, .copy (.c (.lit (.int .i64 0)))⟩, ⟨none, some 3, .copy (.c (.lit (.int .i64 13)))⟩] [] []) .ret) .skip)) (.seq (.reg [⟨none, some 16, .load true 5 (.t 4)⟩, ⟨none, some 17, .call 99 [(.t 16)]⟩, ⟨none, some 2, .copy (.t 17)⟩, ⟨none, some 3, .copy (.c (.lit (.int .i64 0)))⟩] [] []) .ret))))), [.tmp 2, .tmp 3]⟩
/- crc15.Right -/
def ir101 : IFn := ⟨(.seq (.reg [⟨none, some 2, .copy (.c (.lit (.bool false)))⟩] [] []) (.seq (.reg [⟨none, some 8, .copy (.t 0)⟩, ⟨none, some 9, .len (.t 8)⟩, ⟨none, some 10, .bin .sub (.t 9) (.c (.lit (.int .i64 15)))⟩, ⟨none, some 3, .copy (.t 10)⟩] [] []) (.seq (.seq (.reg [⟨none, some 11, .copy (.t 3)⟩, ⟨none, some 12, .bin .lss (.t 11) (.c (.lit (.int .i64 0)))⟩, ⟨none, some 13, .copy (.t 12)⟩, ⟨some (13, false), some 14, .copy (.t 0)⟩, ⟨some (13, false), some 15, .call 47 [(.t 14)]⟩, ⟨some (13, false), some 16, .bin .geq (.t 15) (.c (.lit (.int .i64 0)))⟩, ⟨none, some 17, .pick (.t 13) (.c (.lit (.bool true))) (.t 16)⟩] [] []) (.cond (.t 17) (.seq (.reg [⟨none, some 2, .copy (.c (.lit (.bool false)))⟩] [] []) .ret) .skip)) (.seq (.reg [⟨none, some 19, .copy (.t 0)⟩, ⟨none, some 20, .copy (.t 3)⟩, ⟨none, some 21, .slice 1 (.t 19) none (some (.t 20)) none⟩, ⟨none, some 22, .call 43 [(.t 21)]⟩, ⟨none, some 18, .copy (.t 22)⟩, ⟨none, some 23, .extract (.t 18) 0⟩, ⟨none, some 24, .extract (.t 18) 1⟩, ⟨none, some 4, .copy (.t 23)⟩, ⟨none, some 5, .copy (.t 24)⟩] [] []) (.seq (.reg [⟨none, some 26, .copy (.t 4)⟩, ⟨none, some 27, .call 44 [(.t 26)]⟩, ⟨none, some 25, .copy (.t 27)⟩, ⟨none, some 28, .extract (.t 25) 0⟩, ⟨none, some 29, .extract (.t 25) 1⟩, ⟨none, some 6, .copy (.t 28)⟩, ⟨none, some 7, .copy (.t 29)⟩] [] []) (.seq (.reg [⟨none, some 30, .copy (.t 0)⟩, ⟨none, some 31, .copy (.t 3)⟩, ⟨none, some 32, .slice 1 (.t 30) (some (.t 31)) none none⟩, ⟨none, some 33, .copy (.t 6)⟩, ⟨none, some 34, .call 113 [(.t 32), (.t 33)]⟩, ⟨none, some 2, .copy (.t 34)⟩] [] []) .ret)))))), [.tmp 2]⟩
/- queue.Queue).First -/
def ir102 : IFn := ⟨(.seq (.reg [⟨none, some 2, .alloc [(.lit (.int .i64 0)), (.lit (.bool false)), (.lit (.bool false)), (.lit (.int .i64 0)), (.lit (.int .u8 0)), (.lit (.int .u8 0)), (.lit (.int .u8 0)), (.lit (.int .u8 0)), (.lit (.int .u8 0)), (.lit (.int .u8 0)), (.lit (.int .u8 0)), (.lit (.int .u8 0))]⟩, ⟨none, some 3, .copy (.c (.lit (.bool false)))⟩] [] []) (.seq (.seq (.reg [⟨none, some 4, .copy (.t 0)⟩, ⟨none, some 5, .isNil false .ptr (.t 4)⟩, ⟨none, some 6, .copy (.t 5)⟩, ⟨some (6, false), some 7, .copy (.t 0)⟩, ⟨some (6, false), some 8, .nilCheck (.t 7)⟩, ⟨some (6, false), some 9, .fieldA 0 (.t 8)⟩, ⟨some (6, false), some 10, .call 62 [(.t 9)]⟩, ⟨some (6, false), some 11, .bin .eql (.t 10) (.c (.lit (.int .i64 0)))⟩, ⟨none, some 12, .pick (.t 6) (.c (.lit (.bool true))) (.t 11)⟩] [] []) (.cond (.t 12) (.seq (.reg [⟨none, some 13, .build [(.lit (.int .i64 0)), (.lit (.bool false)), (.lit (.bool false)), (.lit (.int .i64 0)), (.lit (.int .u8 0)), (.lit (.int .u8 0)), (.lit (.int .u8 0)), (.lit (.int .u8 0)), (.lit (.int .u8 0)), (.lit (.int .u8 0)), (.lit (.int .u8 0)), (.lit (.int .u8 0))] []⟩, ⟨none, none, .store 12 (.t 2) (.t 13)⟩, ⟨none, some 3, .copy (.c (.lit (.bool false)))⟩] [] []) .ret) .skip)) (.seq (.reg [⟨none, some 14, .copy (.t 0)⟩, ⟨none, some 15, .nilCheck (.t 14)⟩, ⟨none, some 16, .fieldA 0 (.t 15)⟩, ⟨none, some 17, .fieldA 0 (.t 16)⟩, ⟨none, some 18, .load false 1 (.t 17)⟩, ⟨none, some 19, .idxS 12 (.t 18) (.c (.lit (.int .i64 0)))⟩, ⟨none, some 20, .load true 12 (.t 19)⟩, ⟨none, none, .store 12 (.t 2) (.t 20)⟩, ⟨none, some 3, .copy (.c (.lit (.bool true)))⟩] [] []) .ret))), [.cell 2 true 12, .tmp 3]⟩
/- count.Received -/
def ir103 : IFn := ⟨(.seq (.reg [⟨none, some 1, .box 3 (.t 0)⟩, ⟨none, some 2, .alloc [(.lit (.int .i64 0)), (.lit (.int .i64 0)), (.lit (.bool false))]⟩] [] []) (.seq (.reg [⟨none, some 4, .load true 3 (.t 1)⟩, ⟨none, some 5, .build [(.lit (.int .i64 0)), (.lit (.int .i64 0)), (.lit (.bool false))] [(0, 3, (.t 4))]⟩, ⟨none, some 6, .box 3 (.t 5)⟩, ⟨none, some 3, .copy (.t 6)⟩] [] []) (.seq (.reg [⟨none, some 7, .copy (.t 3)⟩, ⟨none, some 8, .copy (.t 3)⟩, ⟨none, some 9, .mkFunc (.func 115) [(.t 8)] []⟩, ⟨none, some 10, .call 114 [(.t 7), (.t 9)]⟩, ⟨none, none, .store 3 (.t 2) (.t 10)⟩] [] []) .ret))), [.cell 2 true 3]⟩
/- field.Frame -/
def L104_0 : ICode := (.seq (.reg [⟨none, some 63, .bin .lss (.t 62) (.t 61)⟩] [] []) (.seq (.cond (.t 63) .skip (.exit 1)) (.seq (.block 2 (.seq (.reg [⟨none, some 64, .copy (.t 62)⟩, ⟨none, some 9, .copy (.t 64)⟩] [] []) (.reg [⟨none, some 65, .copy (.t 9)⟩, ⟨none, some 66, .copy (.t 0)⟩, ⟨none, some 67, .fieldA 3 (.t 6)⟩, ⟨none, some 68, .load false 1 (.t 67)⟩, ⟨none, some 69, .copy (.t 9)⟩, ⟨none, some 70, .bin .mul (.c (.lit (.int .i64 8))) (.t 69)⟩, ⟨none, some 71, .bin .add (.t 68) (.t 70)⟩, ⟨none, some 72, .fieldA 3 (.t 6)⟩, ⟨none, some 73, .load false 1 (.t 72)⟩, ⟨none, some 74, .copy (.t 9)⟩, ⟨none, some 75, .bin .add (.t 74) (.c (.lit (.int .i64 1)))⟩, ⟨none, some 76, .bin .mul (.c (.lit (.int .i64 8))) (.t 75)⟩, ⟨none, some 77, .bin .add (.t 73) (.t 76)⟩, ⟨none, some 78, .slice 1 (.t 66) (some (.t 71)) (some (.t 77)) none⟩, ⟨none, some 79, .call 116 [(.t 78)]⟩, ⟨none, some 80, .toInt .u8 (.t 79)⟩, ⟨none, some 81, .fieldA 4 (.t 8)⟩, ⟨none, some 82, .idxA 8 1 (.t 81) (.t 65)⟩, ⟨none, none, .store 1 (.t 82) (.t 80)⟩] [] []))) (.reg [⟨none, some 83, .bin .add (.t 62) (.c (.lit (.int .i64 1)))⟩, ⟨none, some 62, .copy (.t 83)⟩] [] []))))
def ir104 : IFn := ⟨(.seq (.reg [⟨none, some 2, .alloc [(.lit (.int .i64 0)), (.lit (.bool false)), (.lit (.bool false)), (.lit (.int .i64 0)), (.lit (.int .u8 0)), (.lit (.int .u8 0)), (.lit (.int .u8 0)), (.lit (.int .u8 0)), (.lit (.int .u8 0)), (.lit (.int .u8 0)), (.lit (.int .u8 0)), (.lit (.int .u8 0))]⟩, ⟨none, some 3, .copy (.c (.lit (.int .i64 0)))⟩] [] []) (.seq (.reg [⟨none, some 11, .copy (.t 0)⟩, ⟨none, some 12, .call 100 [(.t 11)]⟩, ⟨none, some 10, .copy (.t 12)⟩, ⟨none, some 13, .extract (.t 10) 0⟩, ⟨none, some 14, .extract (.t 10) 1⟩, ⟨none, some 4, .copy (.t 13)⟩, ⟨none, some 5, .copy (.t 14)⟩] [] []) (.seq (.block 0 (.seq (.reg [⟨none, some 16, .copy (.t 5)⟩, ⟨none, some 17, .bin .neq (.t 16) (.c (.lit (.int .i64 0)))⟩, ⟨none, some 15, .copy (.t 17)⟩] [] []) (.cond (.t 15) (.seq (.reg [⟨none, some 18, .build [(.lit (.int .i64 0)), (.lit (.bool false)), (.lit (.bool false)), (.lit (.int .i64 0)), (.lit (.int .u8 0)), (.lit (.int .u8 0)), (.lit (.int .u8 0)), (.lit (.int .u8 0)), (.lit (.int .u8 0)), (.lit (.int .u8 0)), (.lit (.int .u8 0)), (.lit (.int .u8 0))] []⟩, ⟨none, some 19, .copy (.t 5)⟩, ⟨none, none, .store 12 (.t 2) (.t 18)⟩, ⟨none, some 3, .copy (.t 19)⟩] [] []) .ret) (.seq (.reg [⟨none, some 21, .copy (.t 0)⟩, ⟨none, some 22, .len (.t 21)⟩, ⟨none, some 23, .copy (.t 4)⟩, ⟨none, some 24, .bin .lss (.t 22) (.t 23)⟩, ⟨none, some 20, .copy (.t 24)⟩] [] []) (.cond (.t 20) (.seq (.reg [⟨none, some 25, .build [(.lit (.int .i64 0)), (.lit (.bool false)), (.lit (.bool false)), (.lit (.int .i64 0)), (.lit (.int .u8 0)), (.lit (.int .u8 0)), (.lit (.int .u8 0)), (.lit (.int .u8 0)), (.lit (.int .u8 0)), (.lit (.int .u8 0)), (.lit (.int .u8 0)), (.lit (.int .u8 0))] []⟩, ⟨none, none, .store 12 (.t 2) (.t 25)⟩, ⟨none, some 3, .copy (.c (.lit (.int .i64 13)))⟩] [] []) .ret) (.seq (.reg [⟨none, some 27, .copy (.t 0)⟩, ⟨none, some 28, .idxS 1 (.t 27) (.c (.lit (.int .i64 0)))⟩, ⟨none, some 29, .load false 1 (.t 28)⟩, ⟨none, some 30, .bin .neq (.t 29) (.c (.lit (.int .i64 0)))⟩, ⟨none, some 26, .copy (.t 30)⟩] [] []) (.cond (.t 26) (.seq (.reg [⟨none, some 31, .build [(.lit (.int .i64 0)), (.lit (.bool false)), (.lit (.bool false)), (.lit (.int .i64 0)), (.lit (.int .u8 0)), (.lit (.int .u8 0)), (.lit (.int .u8 0)), (.lit (.int .u8 0)), (.lit (.int .u8 0)), (.lit (.int .u8 0)), (.lit (.int .u8 0)), (.lit (.int .u8 0))] []⟩, ⟨none, none, .store 12 (.t 2) (.t 31)⟩, ⟨none, some 3, .copy (.c (.lit (.int .i64 11)))⟩] [] []) .ret) .skip))))))) (.seq (.reg [⟨none, some 33, .copy (.t 0)⟩, ⟨none, some 34, .call 98 [(.t 33)]⟩, ⟨none, some 32, .copy (.t 34)⟩, ⟨none, some 35, .extract (.t 32) 0⟩, ⟨none, some 36, .extract (.t 32) 1⟩, ⟨none, some 6, .alloc [(.lit (.bool false)), (.lit (.bool false)), (.lit (.int .i64 0)), (.lit (.int .i64 0)), (.lit (.int .i64 0))]⟩, ⟨none, none, .store 5 (.t 6) (.t 35)⟩, ⟨none, some 7, .copy (.t 36)⟩] [] []) (.seq (.reg [⟨none, some 37, .copy (.t 0)⟩, ⟨none, some 38, .slice 1 (.t 37) (some (.c (.lit (.int .i64 1)))) (some (.c (.lit (.int .i64 12)))) none⟩, ⟨none, some 39, .call 116 [(.t 38)]⟩, ⟨none, some 40, .fieldA 0 (.t 6)⟩, ⟨none, some 41, .load false 1 (.t 40)⟩, ⟨none, some 42, .fieldA 1 (.t 6)⟩, ⟨none, some 43, .load false 1 (.t 42)⟩, ⟨none, some 44, .fieldA 4 (.t 6)⟩, ⟨none, some 45, .load false 1 (.t 44)⟩, ⟨none, some 46, .build [(.lit (.int .i64 0)), (.lit (.bool false)), (.lit (.bool false)), (.lit (.int .i64 0)), (.lit (.int .u8 0)), (.lit (.int .u8 0)), (.lit (.int .u8 0)), (.lit (.int .u8 0)), (.lit (.int .u8 0)), (.lit (.int .u8 0)), (.lit (.int .u8 0)), (.lit (.int .u8 0))] [(0, 1, (.t 39)), (1, 1, (.t 41)), (2, 1, (.t 43)), (3, 1, (.t 45))]⟩, ⟨none, some 8, .alloc [(.lit (.int .i64 0)), (.lit (.bool false)), (.lit (.bool false)), (.lit (.int .i64 0)), (.lit (.int .u8 0)), (.lit (.int .u8 0)), (.lit (.int .u8 0)), (.lit (.int .u8 0)), (.lit (.int .u8 0)), (.lit (.int .u8 0)), (.lit (.int .u8 0)), (.lit (.int .u8 0))]⟩, ⟨none, none, .store 12 (.t 8) (.t 46)⟩] [(4, 2), (4, 10), (6, 2), (6, 10), (8, 2), (8, 10)] []) (.seq (.seq (.reg [⟨none, some 47, .fieldA 0 (.t 6)⟩, ⟨none, some 48, .load false 1 (.t 47)⟩] [] []) (.cond (.t 48) (.reg [⟨none, some 49, .fieldA 0 (.t 8)⟩, ⟨none, some 50, .load false 1 (.t 49)⟩, ⟨none, some 51, .bin .shl (.t 50) (.c (.lit (.int .u64 18)))⟩, ⟨none, some 52, .copy (.t 0)⟩, ⟨none, some 53, .slice 1 (.t 52) (some (.c (.lit (.int .i64 14)))) (some (.c (.lit (.int .i64 32)))) none⟩, ⟨none, some 54, .call 116 [(.t 53)]⟩, ⟨none, some 55, .bin .or (.t 51) (.t 54)⟩, ⟨none, some 56, .fieldA 0 (.t 8)⟩, ⟨none, none, .store 1 (.t 56) (.t 55)⟩] [(1, 5)] []) .skip)) (.seq (.seq (.reg [⟨none, some 57, .copy (.t 4)⟩, ⟨none, some 58, .fieldA 3 (.t 6)⟩, ⟨none, some 59, .load false 1 (.t 58)⟩, ⟨none, some 60, .bin .sub (.t 57) (.t 59)⟩, ⟨none, some 61, .bin .quo (.t 60) (.c (.lit (.int .i64 8)))⟩, ⟨none, some 62, .copy (.c (.lit (.int .i64 0)))⟩] [] []) (.block 1 (.loop [0, 2, 6, 8, 61, 62] L104_0))) (.seq (.reg [⟨none, some 84, .load true 12 (.t 8)⟩, ⟨none, none, .store 12 (.t 2) (.t 84)⟩, ⟨none, some 3, .copy (.c (.lit (.int .i64 0)))⟩] [] []) .ret)))))))), [.cell 2 true 12, .tmp 3]⟩
/- count.Sent -/
def ir105 : IFn := ⟨(.seq (.reg [⟨none, some 1, .box 3 (.t 0)⟩, ⟨none, some 2, .alloc [(.lit (.int .i64 0)), (.lit (.int .i64 0)), (.lit (.bool false))]⟩] [] []) (.seq (.reg [⟨none, some 4, .load true 3 (.t 1)⟩, ⟨none, some 5, .build [(.lit (.int .i64 0)), (.lit (.int .i64 0)), (.lit (.bool false))] [(0, 3, (.t 4))]⟩, ⟨none, some 6, .box 3 (.t 5)⟩, ⟨none, some 3, .copy (.t 6)⟩] [] []) (.seq (.reg [⟨none, some 7, .copy (.t 3)⟩, ⟨none, some 8, .copy (.t 3)⟩, ⟨none, some 9, .mkFunc (.func 117) [(.t 8)] []⟩, ⟨none, some 10, .call 114 [(.t 7), (.t 9)]⟩, ⟨none, none, .store 3 (.t 2) (.t 10)⟩] [] []) .ret))), [.cell 2 true 3]⟩
/- queue.Queue).Drop -/
def ir106 : IFn := ⟨(.seq (.reg [⟨none, some 3, .box 12 (.t 1)⟩, ⟨none, some 4, .copy (.c (.lit (.int .i64 0)))⟩] [] []) (.seq (.block 0 (.seq (.reg [⟨none, some 6, .copy (.t 0)⟩, ⟨none, some 7, .isNil false .ptr (.t 6)⟩, ⟨none, some 5, .copy (.t 7)⟩] [] []) (.cond (.t 5) (.seq (.reg [⟨none, some 4, .copy (.c (.lit (.int .i64 2)))⟩] [] []) .ret) (.seq (.reg [⟨none, some 9, .copy (.t 0)⟩, ⟨none, some 10, .nilCheck (.t 9)⟩, ⟨none, some 11, .fieldA 0 (.t 10)⟩, ⟨none, some 12, .load true 12 (.t 3)⟩, ⟨none, some 13, .call 118 [(.t 11), (.t 12)]⟩, ⟨none, some 14, .un .not (.t 13)⟩, ⟨none, some 8, .copy (.t 14)⟩] [] []) (.cond (.t 8) (.seq (.reg [⟨none, some 4, .copy (.c (.lit (.int .i64 16)))⟩] [] []) .ret) .skip))))) (.seq (.reg [⟨none, some 4, .copy (.c (.lit (.int .i64 0)))⟩] [] []) .ret))), [.tmp 4]⟩
/- count.Tx -/
def ir107 : IFn := ⟨(.seq (.reg [⟨none, some 1, .box 3 (.t 0)⟩, ⟨none, some 2, .alloc [(.lit (.int .i64 0)), (.lit (.int .i64 0)), (.lit (.bool false))]⟩] [] []) (.seq (.reg [⟨none, some 4, .load true 3 (.t 1)⟩, ⟨none, some 5, .build [(.lit (.int .i64 0)), (.lit (.int .i64 0)), (.lit (.bool false))] [(0, 3, (.t 4))]⟩, ⟨none, some 6, .box 3 (.t 5)⟩, ⟨none, some 3, .copy (.t 6)⟩] [] []) (.seq (.reg [⟨none, some 7, .copy (.t 3)⟩, ⟨none, some 8, .copy (.t 3)⟩, ⟨none, some 9, .mkFunc (.func 119) [(.t 8)] []⟩, ⟨none, some 10, .call 114 [(.t 7), (.t 9)]⟩, ⟨none, none, .store 3 (.t 2) (.t 10)⟩] [] []) .ret))), [.cell 2 true 3]⟩
/- count.Rx -/
def ir108 : IFn := ⟨(.seq (.reg [⟨none, some 2, .box 3 (.t 0)⟩, ⟨none, some 3, .box 1 (.t 1)⟩, ⟨none, some 4, .alloc [(.lit (.int .i64 0)), (.lit (.int .i64 0)), (.lit (.bool false))]⟩] [] []) (.seq (.reg [⟨none, some 6, .load true 3 (.t 2)⟩, ⟨none, some 7, .build [(.lit (.int .i64 0)), (.lit (.int .i64 0)), (.lit (.bool false))] [(0, 3, (.t 6))]⟩, ⟨none, some 8, .box 3 (.t 7)⟩, ⟨none, some 5, .alloc [(.lit (.pointer none))]⟩, ⟨none, none, .store 1 (.t 5) (.t 8)⟩] [] []) (.seq (.seq (.reg [⟨none, some 9, .load false 1 (.t 3)⟩, ⟨none, some 10, .bin .neq (.t 9) (.c (.lit (.int .i64 1)))⟩, ⟨none, some 11, .copy (.t 10)⟩, ⟨some (11, true), some 12, .load false 1 (.t 3)⟩, ⟨some (11, true), some 13, .bin .neq (.t 12) (.c (.lit (.int .i64 8)))⟩, ⟨none, some 14, .pick (.t 11) (.t 13) (.c (.lit (.bool false)))⟩] [] []) (.cond (.t 14) (.seq (.reg [⟨none, some 15, .load true 3 (.t 2)⟩, ⟨none, none, .store 3 (.t 4) (.t 15)⟩] [] []) .ret) .skip)) (.seq (.reg [⟨none, some 16, .load false 1 (.t 5)⟩, ⟨none, some 17, .mkFunc (.func 120) [] [(.t 5), (.t 3)]⟩, ⟨none, some 18, .call 114 [(.t 16), (.t 17)]⟩, ⟨none, none, .store 3 (.t 4) (.t 18)⟩] [] []) .ret)))), [.cell 4 true 3]⟩
/- cmp.isNaN[int] -/
def ir111 : IFn := ⟨(.seq (.reg [⟨none, some 2, .copy (.c (.lit (.bool false)))⟩] [] []) (.seq (.reg [⟨none, some 3, .copy (.t 0)⟩, ⟨none, some 4, .copy (.t 0)⟩, ⟨none, some 5, .bin .neq (.t 3) (.t 4)⟩, ⟨none, some 2, .copy (.t 5)⟩] [] []) .ret)), [.tmp 2]⟩
/- bits.Value -/
def L112_0 : ICode := (.seq (.reg [⟨none, some 18, .bin .lss (.t 17) (.t 16)⟩] [] []) (.seq (.cond (.t 18) .skip (.exit 1)) (.seq (.block 2 (.seq (.reg [⟨none, some 19, .idxS 1 (.t 15) (.t 17)⟩, ⟨none, some 20, .load false 1 (.t 19)⟩, ⟨none, some 6, .copy (.t 20)⟩] [] []) (.reg [⟨none, some 21, .copy (.t 4)⟩, ⟨none, some 22, .bin .shl (.t 21) (.c (.lit (.int .u64 1)))⟩, ⟨none, some 23, .copy (.t 6)⟩, ⟨none, some 24, .toInt .u64 (.t 23)⟩, ⟨none, some 25, .bin .or (.t 22) (.t 24)⟩, ⟨none, some 4, .copy (.t 25)⟩] [] []))) (.reg [⟨none, some 26, .bin .add (.t 17) (.c (.lit (.int .i64 1)))⟩, ⟨none, some 17, .copy (.t 26)⟩] [] []))))
def ir112 : IFn := ⟨(.seq (.reg [⟨none, some 2, .copy (.c (.lit (.int .u64 0)))⟩, ⟨none, some 3, .copy (.c (.lit (.int .i64 0)))⟩] [] []) (.seq (.block 0 (.seq (.reg [⟨none, some 8, .copy (.t 0)⟩, ⟨none, some 9, .len (.t 8)⟩, ⟨none, some 10, .bin .gtr (.t 9) (.c (.lit (.int .i64 64)))⟩, ⟨none, some 7, .copy (.t 10)⟩] [] []) (.cond (.t 7) (.seq (.reg [⟨none, some 2, .copy (.c (.lit (.int .u64 0)))⟩, ⟨none, some 3, .copy (.c (.lit (.int .i64 12)))⟩] [] []) .ret) (.seq (.reg [⟨none, some 12, .copy (.t 0)⟩, ⟨none, some 13, .call 47 [(.t 12)]⟩, ⟨none, some 14, .bin .geq (.t 13) (.c (.lit (.int .i64 0)))⟩, ⟨none, some 11, .copy (.t 14)⟩] [] []) (.cond (.t 11) (.seq (.reg [⟨none, some 2, .copy (.c (.lit (.int .u64 0)))⟩, ⟨none, some 3, .copy (.c (.lit (.int .i64 10)))⟩] [] []) .ret) .skip))))) (.seq (.reg [⟨none, some 4, .copy (.c (.lit (.int .u64 0)))⟩] [] []) (.seq (.seq (.reg [⟨none, some 15, .copy (.t 0)⟩, ⟨none, some 16, .len (.t 15)⟩, ⟨none, some 17, .copy (.c (.lit (.int .i64 0)))⟩] [] []) (.block 1 (.loop [4, 15, 16, 17] L112_0))) (.seq (.reg [⟨none, some 27, .copy (.t 4)⟩, ⟨none, some 2, .copy (.t 27)⟩, ⟨none, some 3, .copy (.c (.lit (.int .i64 0)))⟩] [] []) .ret))))), [.tmp 2, .tmp 3]⟩
/- slices.Equal[[]int,int] -/
def L113_0 : ICode := (.seq (.reg [⟨none, some 14, .bin .lss (.t 13) (.t 12)⟩] [] []) (.seq (.cond (.t 14) .skip (.exit 0)) (.seq (.block 1 (.seq (.reg [⟨none, some 15, .copy (.t 13)⟩, ⟨none, some 5, .copy (.t 15)⟩] [] []) (.seq (.reg [⟨none, some 16, .copy (.t 0)⟩, ⟨none, some 17, .copy (.t 5)⟩, ⟨none, some 18, .idxS 1 (.t 16) (.t 17)⟩, ⟨none, some 19, .load false 1 (.t 18)⟩, ⟨none, some 20, .copy (.t 1)⟩, ⟨none, some 21, .copy (.t 5)⟩, ⟨none, some 22, .idxS 1 (.t 20) (.t 21)⟩, ⟨none, some 23, .load false 1 (.t 22)⟩, ⟨none, some 24, .bin .neq (.t 19) (.t 23)⟩] [] []) (.cond (.t 24) (.seq (.reg [⟨none, some 4, .copy (.c (.lit (.bool false)))⟩] [] []) .ret) .skip)))) (.reg [⟨none, some 25, .bin .add (.t 13) (.c (.lit (.int .i64 1)))⟩, ⟨none, some 13, .copy (.t 25)⟩] [] []))))
def ir113 : IFn := ⟨(.seq (.reg [⟨none, some 4, .copy (.c (.lit (.bool false)))⟩] [] []) (.seq (.seq (.reg [⟨none, some 6, .copy (.t 0)⟩, ⟨none, some 7, .len (.t 6)⟩, ⟨none, some 8, .copy (.t 1)⟩, ⟨none, some 9, .len (.t 8)⟩, ⟨none, some 10, .bin .neq (.t 7) (.t 9)⟩] [] []) (.cond (.t 10) (.seq (.reg [⟨none, some 4, .copy (.c (.lit (.bool false)))⟩] [] []) .ret) .skip)) (.seq (.seq (.reg [⟨none, some 11, .copy (.t 0)⟩, ⟨none, some 12, .len (.t 11)⟩, ⟨none, some 13, .copy (.c (.lit (.int .i64 0)))⟩] [] []) (.block 0 (.loop [0, 1, 12, 13] L113_0))) (.seq (.reg [⟨none, some 4, .copy (.c (.lit (.bool true)))⟩] [] []) .ret)))), [.tmp 4]⟩
/- count.turn).runs -/
def ir114 : IFn := ⟨(.seq (.reg [⟨none, some 4, .alloc [(.lit (.int .i64 0)), (.lit (.int .i64 0)), (.lit (.bool false))]⟩] [] []) (.seq (.seq (.reg [⟨none, some 5, .copy (.t 0)⟩, ⟨none, some 6, .nilCheck (.t 5)⟩, ⟨none, some 7, .fieldA 0 (.t 6)⟩, ⟨none, some 8, .load true 3 (.t 7)⟩, ⟨none, some 9, .call 22 [(.t 8)]⟩, ⟨none, some 10, .bin .eql (.t 9) (.c (.lit (.int .i64 0)))⟩, ⟨none, some 11, .copy (.t 10)⟩, ⟨some (11, true), some 12, .copy (.t 0)⟩, ⟨some (11, true), some 13, .nilCheck (.t 12)⟩, ⟨some (11, true), some 14, .fieldA 0 (.t 13)⟩, ⟨some (11, true), some 15, .fieldA 2 (.t 14)⟩, ⟨some (11, true), some 16, .load false 1 (.t 15)⟩, ⟨some (11, true), some 17, .un .not (.t 16)⟩, ⟨none, some 18, .pick (.t 11) (.t 17) (.c (.lit (.bool false)))⟩] [] []) (.cond (.t 18) (.reg [⟨none, some 19, .copy (.t 1)⟩, ⟨none, some 20, .callV (.t 19) []⟩] [] []) .skip)) (.seq (.reg [⟨none, some 21, .copy (.t 0)⟩, ⟨none, some 22, .nilCheck (.t 21)⟩, ⟨none, some 23, .fieldA 0 (.t 22)⟩, ⟨none, some 24, .load true 3 (.t 23)⟩, ⟨none, none, .store 3 (.t 4) (.t 24)⟩] [] []) .ret))), [.cell 4 true 3]⟩
/- count.turn).received -/
def ir115 : IFn := ⟨(.seq (.seq (.reg [⟨none, some 2, .copy (.t 0)⟩, ⟨none, some 3, .nilCheck (.t 2)⟩, ⟨none, some 4, .fieldA 0 (.t 3)⟩, ⟨none, some 5, .fieldA 1 (.t 4)⟩, ⟨none, some 6, .load false 1 (.t 5)⟩, ⟨none, some 7, .bin .gtr (.t 6) (.c (.lit (.int .i64 127)))⟩] [] []) (.cond (.t 7) (.seq (.reg [⟨none, some 8, .copy (.t 0)⟩, ⟨none, some 9, .nilCheck (.t 8)⟩, ⟨none, some 10, .fieldA 0 (.t 9)⟩, ⟨none, some 11, .fieldA 1 (.t 10)⟩, ⟨none, none, .store 1 (.t 11) (.c (.lit (.int .i64 119)))⟩] [] []) .ret) .skip)) (.reg [⟨none, some 12, .copy (.t 0)⟩, ⟨none, some 13, .copy (.t 0)⟩, ⟨none, some 14, .nilCheck (.t 13)⟩, ⟨none, some 15, .fieldA 0 (.t 14)⟩, ⟨none, some 16, .fieldA 1 (.t 15)⟩, ⟨none, some 17, .load false 1 (.t 16)⟩, ⟨none, some 18, .bin .sub (.t 17) (.c (.lit (.int .i64 1)))⟩, ⟨none, some 19, .maxI (.t 18) [(.c (.lit (.int .i64 0)))]⟩, ⟨none, some 20, .nilCheck (.t 12)⟩, ⟨none, some 21, .fieldA 0 (.t 20)⟩, ⟨none, some 22, .fieldA 1 (.t 21)⟩, ⟨none, none, .store 1 (.t 22) (.t 19)⟩] [] [])), []⟩
/- field.value -/
def ir116 : IFn := ⟨(.seq (.reg [⟨none, some 2, .copy (.c (.lit (.int .i64 0)))⟩] [] []) (.seq (.reg [⟨none, some 6, .copy (.t 0)⟩, ⟨none, some 7, .call 112 [(.t 6)]⟩, ⟨none, some 5, .copy (.t 7)⟩, ⟨none, some 8, .extract (.t 5) 0⟩, ⟨none, some 9, .extract (.t 5) 1⟩, ⟨none, some 3, .copy (.t 8)⟩, ⟨none, some 4, .copy (.t 9)⟩] [] []) (.seq (.reg [⟨none, some 10, .copy (.t 3)⟩, ⟨none, some 11, .toInt .i64 (.t 10)⟩, ⟨none, some 2, .copy (.t 11)⟩] [] []) .ret))), [.tmp 2]⟩
/- count.turn).sent -/
def ir117 : IFn := ⟨(.reg [⟨none, some 2, .copy (.t 0)⟩, ⟨none, some 3, .copy (.t 0)⟩, ⟨none, some 4, .nilCheck (.t 3)⟩, ⟨none, some 5, .fieldA 0 (.t 4)⟩, ⟨none, some 6, .fieldA 0 (.t 5)⟩, ⟨none, some 7, .load false 1 (.t 6)⟩, ⟨none, some 8, .bin .sub (.t 7) (.c (.lit (.int .i64 1)))⟩, ⟨none, some 9, .maxI (.t 8) [(.c (.lit (.int .i64 0)))]⟩, ⟨none, some 10, .nilCheck (.t 2)⟩, ⟨none, some 11, .fieldA 0 (.t 10)⟩, ⟨none, some 12, .fieldA 0 (.t 11)⟩, ⟨none, none, .store 1 (.t 12) (.t 9)⟩] [] []), []⟩
/- queue.row).drop -/
def ir118 : IFn := ⟨(.seq (.reg [⟨none, some 3, .box 12 (.t 1)⟩, ⟨none, some 4, .copy (.c (.lit (.bool false)))⟩] [] []) (.seq (.reg [⟨none, some 6, .copy (.t 0)⟩, ⟨none, some 7, .nilCheck (.t 6)⟩, ⟨none, some 8, .fieldA 0 (.t 7)⟩, ⟨none, some 9, .load false 1 (.t 8)⟩, ⟨none, some 10, .load true 12 (.t 3)⟩, ⟨none, some 11, .callU 122 [(.t 9), (.t 10)]⟩, ⟨none, some 5, .copy (.t 11)⟩] [] []) (.seq (.seq (.reg [⟨none, some 12, .copy (.t 5)⟩, ⟨none, some 13, .bin .lss (.t 12) (.c (.lit (.int .i64 0)))⟩] [] []) (.cond (.t 13) (.seq (.reg [⟨none, some 4, .copy (.c (.lit (.bool false)))⟩] [] []) .ret) .skip)) (.seq (.reg [⟨none, some 14, .copy (.t 0)⟩, ⟨none, some 15, .copy (.t 0)⟩, ⟨none, some 16, .nilCheck (.t 15)⟩, ⟨none, some 17, .fieldA 0 (.t 16)⟩, ⟨none, some 18, .load false 1 (.t 17)⟩, ⟨none, some 19, .copy (.t 5)⟩, ⟨none, some 20, .copy (.t 5)⟩, ⟨none, some 21, .bin .add (.t 20) (.c (.lit (.int .i64 1)))⟩, ⟨none, some 22, .callL .del true 12 32 123 [(.t 18), (.t 19), (.t 21)]⟩, ⟨none, some 23, .nilCheck (.t 14)⟩, ⟨none, some 24, .fieldA 0 (.t 23)⟩, ⟨none, none, .store 1 (.t 24) (.t 22)⟩] [] []) (.seq (.reg [⟨none, some 4, .copy (.c (.lit (.bool true)))⟩] [] []) .ret))))), [.tmp 4]⟩
/- count.turn).tx -/
def ir119 : IFn := ⟨(.seq (.reg [⟨none, some 2, .copy (.t 0)⟩, ⟨none, some 3, .nilCheck (.t 2)⟩, ⟨none, some 4, .fieldA 0 (.t 3)⟩, ⟨none, some 5, .fieldA 0 (.t 4)⟩, ⟨none, some 6, .load false 1 (.t 5)⟩, ⟨none, some 7, .bin .add (.t 6) (.c (.lit (.int .i64 8)))⟩, ⟨none, some 8, .nilCheck (.t 2)⟩, ⟨none, some 9, .fieldA 0 (.t 8)⟩, ⟨none, some 10, .fieldA 0 (.t 9)⟩, ⟨none, none, .store 1 (.t 10) (.t 7)⟩] [] []) (.seq (.reg [⟨none, some 11, .copy (.t 0)⟩, ⟨none, some 12, .nilCheck (.t 11)⟩, ⟨none, some 13, .fieldA 0 (.t 12)⟩, ⟨none, some 14, .fieldA 0 (.t 13)⟩, ⟨none, some 15, .load false 1 (.t 14)⟩, ⟨none, some 16, .bin .gtr (.t 15) (.c (.lit (.int .i64 255)))⟩] [] []) (.cond (.t 16) (.reg [⟨none, some 17, .copy (.t 0)⟩, ⟨none, some 18, .copy (.t 0)⟩, ⟨none, some 19, .nilCheck (.t 17)⟩, ⟨none, some 20, .fieldA 0 (.t 19)⟩, ⟨none, some 21, .fieldA 0 (.t 20)⟩, ⟨none, none, .store 1 (.t 21) (.c (.lit (.int .i64 256)))⟩, ⟨none, some 22, .nilCheck (.t 18)⟩, ⟨none, some 23, .fieldA 0 (.t 22)⟩, ⟨none, some 24, .fieldA 2 (.t 23)⟩, ⟨none, none, .store 1 (.t 24) (.c (.lit (.bool true)))⟩] [] []) .skip))), []⟩
/- count.Rx$1 -/
def ir120 : IFn := ⟨(.reg [⟨none, some 2, .load false 1 (.t 0)⟩, ⟨none, some 3, .load false 1 (.t 0)⟩, ⟨none, some 4, .nilCheck (.t 3)⟩, ⟨none, some 5, .fieldA 0 (.t 4)⟩, ⟨none, some 6, .fieldA 1 (.t 5)⟩, ⟨none, some 7, .load false 1 (.t 6)⟩, ⟨none, some 8, .load false 1 (.t 1)⟩, ⟨none, some 9, .bin .add (.t 7) (.t 8)⟩, ⟨none, some 10, .minI (.t 9) [(.c (.lit (.int .i64 255)))]⟩, ⟨none, some 11, .nilCheck (.t 2)⟩, ⟨none, some 12, .fieldA 0 (.t 11)⟩, ⟨none, some 13, .fieldA 1 (.t 12)⟩, ⟨none, none, .store 1 (.t 13) (.t 10)⟩] [] []), []⟩
/- api.Frame] -/
def L122_0 : ICode := (.seq (.reg [⟨none, some 9, .bin .lss (.t 8) (.t 7)⟩] [] []) (.seq (.cond (.t 9) .skip (.exit 0)) (.seq (.block 1 (.seq (.reg [⟨none, some 10, .copy (.t 8)⟩, ⟨none, some 5, .copy (.t 10)⟩] [] []) (.seq (.reg [⟨none, some 11, .load true 12 (.t 3)⟩, ⟨none, some 12, .copy (.t 0)⟩, ⟨none, some 13, .copy (.t 5)⟩, ⟨none, some 14, .idxS 12 (.t 12) (.t 13)⟩, ⟨none, some 15, .load true 12 (.t 14)⟩, ⟨none, some 16, .eqA false [(0, .i), (1, .b), (2, .b), (3, .i), (4, .i), (5, .i), (6, .i), (7, .i), (8, .i), (9, .i), (10, .i), (11, .i)] (.t 11) (.t 15)⟩] [] []) (.cond (.t 16) (.seq (.reg [⟨none, some 17, .copy (.t 5)⟩, ⟨none, some 4, .copy (.t 17)⟩] [] []) .ret) .skip)))) (.reg [⟨none, some 18, .bin .add (.t 8) (.c (.lit (.int .i64 1)))⟩, ⟨none, some 8, .copy (.t 18)⟩] [] []))))
def ir122 : IFn := ⟨(.seq (.reg [⟨none, some 3, .box 12 (.t 1)⟩, ⟨none, some 4, .copy (.c (.lit (.int .i64 0)))⟩] [] []) (.seq (.seq (.reg [⟨none, some 6, .copy (.t 0)⟩, ⟨none, some 7, .len (.t 6)⟩, ⟨none, some 8, .copy (.c (.lit (.int .i64 0)))⟩] [] []) (.block 0 (.loop [0, 3, 7, 8] L122_0))) (.seq (.reg [⟨none, some 4, .copy (.c (.lit (.int .i64 (-1))))⟩] [] []) .ret))), [.tmp 4]⟩
def lives : Nat → List (List Nat)
  | 3 => [[0, 3, 4], [0, 3, 4, 5, 7, 8]]
  | 4 => [[0, 3, 4], [3, 5], [3, 8]]
  | 5 => [[0, 1, 5, 6, 7, 8], [0, 1, 5, 6, 7, 8, 10, 11, 12, 14, 15, 16, 17]]
  | 6 => [[1, 5, 7, 8], [1, 5, 7, 8, 9], [1, 5, 7, 8, 13, 14, 15]]
  | 7 => [[1, 2, 7, 9, 10], [1, 2, 9, 11], [2, 9, 14], [9, 17]]
  | 12 => [[1, 2, 4], [1, 2, 5]]
  | 13 => [[0, 3, 4], [0, 3, 5]]
  | 17 => [[6, 7, 31, 32, 33]]
  | 29 => [[3, 5, 19, 20, 21]]
  | 30 => [[0, 3, 4]]
  | 42 => [[6, 7, 8, 39, 40, 41]]
  | 43 => [[0, 4, 5, 12, 13]]
  | 45 => [[0, 3, 9, 10, 11], [6, 25, 26, 27]]
  | 46 => [[7, 8]]
  | 65 => [[0, 1, 9, 10, 11]]
  | 68 => [[0, 1, 6, 16, 17]]
  | 74 => [[0, 1, 7, 8]]
  | 77 => [[5, 8, 51, 52]]
  | 92 => [[0, 1, 7, 8]]
  | 104 => [[0, 2, 6, 8, 61, 62]]
  | 112 => [[4, 15, 16, 17]]
  | 113 => [[0, 1, 12, 13]]
  | 122 => [[0, 3, 7, 8]]
  | _ => []
theorem K3 : compF Tryz.prog (lives 3) 3 = some ir3 := by kernel_rfl
theorem K4 : compF Tryz.prog (lives 4) 4 = some ir4 := by kernel_rfl
theorem K5 : compF Tryz.prog (lives 5) 5 = some ir5 := by kernel_rfl
theorem K6 : compF Tryz.prog (lives 6) 6 = some ir6 := by kernel_rfl
theorem K7 : compF Tryz.prog (lives 7) 7 = some ir7 := by kernel_rfl
theorem K12 : compF Tryz.prog (lives 12) 12 = some ir12 := by kernel_rfl
theorem K13 : compF Tryz.prog (lives 13) 13 = some ir13 := by kernel_rfl
theorem K14 : compF Tryz.prog (lives 14) 14 = some ir14 := by kernel_rfl
theorem K15 : compF Tryz.prog (lives 15) 15 = some ir15 := by kernel_rfl
theorem K16 : compF Tryz.prog (lives 16) 16 = some ir16 := by kernel_rfl
theorem K17 : compF Tryz.prog (lives 17) 17 = some ir17 := by kernel_rfl
theorem K18 : compF Tryz.prog (lives 18) 18 = some ir18 := by kernel_rfl
theorem K19 : compF Tryz.prog (lives 19) 19 = some ir19 := by kernel_rfl
theorem K20 : compF Tryz.prog (lives 20) 20 = some ir20 := by kernel_rfl
theorem K21 : compF Tryz.prog (lives 21) 21 = some ir21 := by kernel_rfl
theorem K22 : compF Tryz.prog (lives 22) 22 = some ir22 := by kernel_rfl
theorem K23 : compF Tryz.prog (lives 23) 23 = some ir23 := by kernel_rfl
theorem K28 : compF Tryz.prog (lives 28) 28 = some ir28 := by kernel_rfl
theorem K29 : compF Tryz.prog (lives 29) 29 = some ir29 := by kernel_rfl
theorem K30 : compF Tryz.prog (lives 30) 30 = some ir30 := by kernel_rfl
theorem K31 : compF Tryz.prog (lives 31) 31 = some ir31 := by kernel_rfl
theorem K32 : compF Tryz.prog (lives 32) 32 = some ir32 := by kernel_rfl
theorem K33 : compF Tryz.prog (lives 33) 33 = some ir33 := by kernel_rfl
theorem K34 : compF Tryz.prog (lives 34) 34 = some ir34 := by kernel_rfl
theorem K35 : compF Tryz.prog (lives 35) 35 = some ir35 := by kernel_rfl
theorem K36 : compF Tryz.prog (lives 36) 36 = some ir36 := by kernel_rfl
theorem K37 : compF Tryz.prog (lives 37) 37 = some ir37 := by kernel_rfl
theorem K38 : compF Tryz.prog (lives 38) 38 = some ir38 := by kernel_rfl
theorem K42 : compF Tryz.prog (lives 42) 42 = some ir42 := by kernel_rfl
theorem K43 : compF Tryz.prog (lives 43) 43 = some ir43 := by kernel_rfl
theorem K44 : compF Tryz.prog (lives 44) 44 = some ir44 := by kernel_rfl
theorem K45 : compF Tryz.prog (lives 45) 45 = some ir45 := by kernel_rfl
theorem K46 : compF Tryz.prog (lives 46) 46 = some ir46 := by kernel_rfl
theorem K47 : compF Tryz.prog (lives 47) 47 = some ir47 := by kernel_rfl
theorem K48 : compF Tryz.prog (lives 48) 48 = some ir48 := by kernel_rfl
theorem K49 : compF Tryz.prog (lives 49) 49 = some ir49 := by kernel_rfl
theorem K50 : compF Tryz.prog (lives 50) 50 = some ir50 := by kernel_rfl
theorem K51 : compF Tryz.prog (lives 51) 51 = some ir51 := by kernel_rfl
theorem K52 : compF Tryz.prog (lives 52) 52 = some ir52 := by kernel_rfl
theorem K53 : compF Tryz.prog (lives 53) 53 = some ir53 := by kernel_rfl
theorem K54 : compF Tryz.prog (lives 54) 54 = some ir54 := by kernel_rfl
theorem K55 : compF Tryz.prog (lives 55) 55 = some ir55 := by kernel_rfl
theorem K56 : compF Tryz.prog (lives 56) 56 = some ir56 := by kernel_rfl
theorem K57 : compF Tryz.prog (lives 57) 57 = some ir57 := by kernel_rfl
theorem K58 : compF Tryz.prog (lives 58) 58 = some ir58 := by kernel_rfl
theorem K59 : compF Tryz.prog (lives 59) 59 = some ir59 := by kernel_rfl
theorem K60 : compF Tryz.prog (lives 60) 60 = some ir60 := by kernel_rfl
theorem K61 : compF Tryz.prog (lives 61) 61 = some ir61 := by kernel_rfl
theorem K62 : compF Tryz.prog (lives 62) 62 = some ir62 := by kernel_rfl
theorem K63 : compF Tryz.prog (lives 63) 63 = some ir63 := by kernel_rfl
theorem K64 : compF Tryz.prog (lives 64) 64 = some ir64 := by kernel_rfl
theorem K65 : compF Tryz.prog (lives 65) 65 = some ir65 := by kernel_rfl
theorem K67 : compF Tryz.prog (lives 67) 67 = some ir67 := by kernel_rfl
theorem K68 : compF Tryz.prog (lives 68) 68 = some ir68 := by kernel_rfl
theorem K69 : compF Tryz.prog (lives 69) 69 = some ir69 := by kernel_rfl
theorem K70 : compF Tryz.prog (lives 70) 70 = some ir70 := by kernel_rfl
theorem K71 : compF Tryz.prog (lives 71) 71 = some ir71 := by kernel_rfl
theorem K72 : compF Tryz.prog (lives 72) 72 = some ir72 := by kernel_rfl
theorem K73 : compF Tryz.prog (lives 73) 73 = some ir73 := by kernel_rfl
theorem K74 : compF Tryz.prog (lives 74) 74 = some ir74 := by kernel_rfl
theorem K75 : compF Tryz.prog (lives 75) 75 = some ir75 := by kernel_rfl
theorem K76 : compF Tryz.prog (lives 76) 76 = some ir76 := by kernel_rfl
theorem K77 : compF Tryz.prog (lives 77) 77 = some ir77 := by kernel_rfl
theorem K78 : compF Tryz.prog (lives 78) 78 = some ir78 := by kernel_rfl
theorem K79 : compF Tryz.prog (lives 79) 79 = some ir79 := by kernel_rfl
theorem K80 : compF Tryz.prog (lives 80) 80 = some ir80 := by kernel_rfl
theorem K81 : compF Tryz.prog (lives 81) 81 = some ir81 := by kernel_rfl
theorem K82 : compF Tryz.prog (lives 82) 82 = some ir82 := by kernel_rfl
theorem K83 : compF Tryz.prog (lives 83) 83 = some ir83 := by kernel_rfl
theorem K84 : compF Tryz.prog (lives 84) 84 = some ir84 := by kernel_rfl
theorem K85 : compF Tryz.prog (lives 85) 85 = some ir85 := by kernel_rfl
theorem K86 : compF Tryz.prog (lives 86) 86 = some ir86 := by kernel_rfl
theorem K87 : compF Tryz.prog (lives 87) 87 = some ir87 := by kernel_rfl
theorem K88 : compF Tryz.prog (lives 88) 88 = some ir88 := by kernel_rfl
theorem K89 : compF Tryz.prog (lives 89) 89 = some ir89 := by kernel_rfl
theorem K90 : compF Tryz.prog (lives 90) 90 = some ir90 := by kernel_rfl
theorem K91 : compF Tryz.prog (lives 91) 91 = some ir91 := by kernel_rfl
theorem K92 : compF Tryz.prog (lives 92) 92 = some ir92 := by kernel_rfl
theorem K94 : compF Tryz.prog (lives 94) 94 = some ir94 := by kernel_rfl
theorem K95 : compF Tryz.prog (lives 95) 95 = some ir95 := by kernel_rfl
theorem K96 : compF Tryz.prog (lives 96) 96 = some ir96 := by kernel_rfl
theorem K97 : compF Tryz.prog (lives 97) 97 = some ir97 := by kernel_rfl
theorem K98 : compF Tryz.prog (lives 98) 98 = some ir98 := by kernel_rfl
theorem K99 : compF Tryz.prog (lives 99) 99 = some ir99 := by kernel_rfl
theorem K100 : compF Tryz.prog (lives 100) 100 = some ir100 := by kernel_rfl
theorem K101 : compF Tryz.prog (lives 101) 101 = some ir101 := by kernel_rfl
theorem K102 : compF Tryz.prog (lives 102) 102 = some ir102 := by kernel_rfl
theorem K103 : compF Tryz.prog (lives 103) 103 = some ir103 := by kernel_rfl
theorem K104 : compF Tryz.prog (lives 104) 104 = some ir104 := by kernel_rfl
theorem K105 : compF Tryz.prog (lives 105) 105 = some ir105 := by kernel_rfl
theorem K106 : compF Tryz.prog (lives 106) 106 = some ir106 := by kernel_rfl
theorem K107 : compF Tryz.prog (lives 107) 107 = some ir107 := by kernel_rfl
theorem K108 : compF Tryz.prog (lives 108) 108 = some ir108 := by kernel_rfl
theorem K111 : compF Tryz.prog (lives 111) 111 = some ir111 := by kernel_rfl
theorem K112 : compF Tryz.prog (lives 112) 112 = some ir112 := by kernel_rfl
theorem K113 : compF Tryz.prog (lives 113) 113 = some ir113 := by kernel_rfl
theorem K114 : compF Tryz.prog (lives 114) 114 = some ir114 := by kernel_rfl
theorem K115 : compF Tryz.prog (lives 115) 115 = some ir115 := by kernel_rfl
theorem K116 : compF Tryz.prog (lives 116) 116 = some ir116 := by kernel_rfl
theorem K117 : compF Tryz.prog (lives 117) 117 = some ir117 := by kernel_rfl
theorem K118 : compF Tryz.prog (lives 118) 118 = some ir118 := by kernel_rfl
theorem K119 : compF Tryz.prog (lives 119) 119 = some ir119 := by kernel_rfl
theorem K120 : compF Tryz.prog (lives 120) 120 = some ir120 := by kernel_rfl
theorem K122 : compF Tryz.prog (lives 122) 122 = some ir122 := by kernel_rfl
/-- The functions that are gone through. -/
def tab : List (Nat × IFn) := [(3, ir3), (4, ir4), (5, ir5), (6, ir6), (7, ir7), (12, ir12), (13, ir13), (14, ir14), (15, ir15), (16, ir16), (17, ir17), (18, ir18), (19, ir19), (20, ir20), (21, ir21), (22, ir22), (23, ir23), (28, ir28), (29, ir29), (30, ir30), (31, ir31), (32, ir32), (33, ir33), (34, ir34), (35, ir35), (36, ir36), (37, ir37), (38, ir38), (42, ir42), (43, ir43), (44, ir44), (45, ir45), (46, ir46), (47, ir47), (48, ir48), (49, ir49), (50, ir50), (51, ir51), (52, ir52), (53, ir53), (54, ir54), (55, ir55), (56, ir56), (57, ir57), (58, ir58), (59, ir59), (60, ir60), (61, ir61), (62, ir62), (63, ir63), (64, ir64), (65, ir65), (67, ir67), (68, ir68), (69, ir69), (70, ir70), (71, ir71), (72, ir72), (73, ir73), (74, ir74), (75, ir75), (76, ir76), (77, ir77), (78, ir78), (79, ir79), (80, ir80), (81, ir81), (82, ir82), (83, ir83), (84, ir84), (85, ir85), (86, ir86), (87, ir87), (88, ir88), (89, ir89), (90, ir90), (91, ir91), (92, ir92), (94, ir94), (95, ir95), (96, ir96), (97, ir97), (98, ir98), (99, ir99), (100, ir100), (101, ir101), (102, ir102), (103, ir103), (104, ir104), (105, ir105), (106, ir106), (107, ir107), (108, ir108), (111, ir111), (112, ir112), (113, ir113), (114, ir114), (115, ir115), (116, ir116), (117, ir117), (118, ir118), (119, ir119), (120, ir120), (122, ir122)]
def E (f : Nat) : Option IFn := tab.lookup f
theorem E3 : E 3 = some ir3 := rfl
theorem E4 : E 4 = some ir4 := rfl
theorem E5 : E 5 = some ir5 := rfl
theorem E6 : E 6 = some ir6 := rfl
theorem E7 : E 7 = some ir7 := rfl
theorem E12 : E 12 = some ir12 := rfl
theorem E13 : E 13 = some ir13 := rfl
theorem E14 : E 14 = some ir14 := rfl
theorem E15 : E 15 = some ir15 := rfl
theorem E16 : E 16 = some ir16 := rfl
theorem E17 : E 17 = some ir17 := rfl
theorem E18 : E 18 = some ir18 := rfl
theorem E19 : E 19 = some ir19 := rfl
theorem E20 : E 20 = some ir20 := rfl
theorem E21 : E 21 = some ir21 := rfl
theorem E22 : E 22 = some ir22 := rfl
theorem E23 : E 23 = some ir23 := rfl
theorem E28 : E 28 = some ir28 := rfl
theorem E29 : E 29 = some ir29 := rfl
theorem E30 : E 30 = some ir30 := rfl
theorem E31 : E 31 = some ir31 := rfl
theorem E32 : E 32 = some ir32 := rfl
theorem E33 : E 33 = some ir33 := rfl
theorem E34 : E 34 = some ir34 := rfl
theorem E35 : E 35 = some ir35 := rfl
theorem E36 : E 36 = some ir36 := rfl
theorem E37 : E 37 = some ir37 := rfl
theorem E38 : E 38 = some ir38 := rfl
theorem E42 : E 42 = some ir42 := rfl
theorem E43 : E 43 = some ir43 := rfl
theorem E44 : E 44 = some ir44 := rfl
theorem E45 : E 45 = some ir45 := rfl
theorem E46 : E 46 = some ir46 := rfl
theorem E47 : E 47 = some ir47 := rfl
theorem E48 : E 48 = some ir48 := rfl
theorem E49 : E 49 = some ir49 := rfl
theorem E50 : E 50 = some ir50 := rfl
theorem E51 : E 51 = some ir51 := rfl
theorem E52 : E 52 = some ir52 := rfl
theorem E53 : E 53 = some ir53 := rfl
theorem E54 : E 54 = some ir54 := rfl
theorem E55 : E 55 = some ir55 := rfl
theorem E56 : E 56 = some ir56 := rfl
theorem E57 : E 57 = some ir57 := rfl
theorem E58 : E 58 = some ir58 := rfl
theorem E59 : E 59 = some ir59 := rfl
theorem E60 : E 60 = some ir60 := rfl
theorem E61 : E 61 = some ir61 := rfl
theorem E62 : E 62 = some ir62 := rfl
theorem E63 : E 63 = some ir63 := rfl
theorem E64 : E 64 = some ir64 := rfl
theorem E65 : E 65 = some ir65 := rfl
theorem E67 : E 67 = some ir67 := rfl
theorem E68 : E 68 = some ir68 := rfl
theorem E69 : E 69 = some ir69 := rfl
theorem E70 : E 70 = some ir70 := rfl
theorem E71 : E 71 = some ir71 := rfl
theorem E72 : E 72 = some ir72 := rfl
theorem E73 : E 73 = some ir73 := rfl
theorem E74 : E 74 = some ir74 := rfl
theorem E75 : E 75 = some ir75 := rfl
theorem E76 : E 76 = some ir76 := rfl
theorem E77 : E 77 = some ir77 := rfl
theorem E78 : E 78 = some ir78 := rfl
theorem E79 : E 79 = some ir79 := rfl
theorem E80 : E 80 = some ir80 := rfl
theorem E81 : E 81 = some ir81 := rfl
theorem E82 : E 82 = some ir82 := rfl
theorem E83 : E 83 = some ir83 := rfl
theorem E84 : E 84 = some ir84 := rfl
theorem E85 : E 85 = some ir85 := rfl
theorem E86 : E 86 = some ir86 := rfl
theorem E87 : E 87 = some ir87 := rfl
theorem E88 : E 88 = some ir88 := rfl
theorem E89 : E 89 = some ir89 := rfl
theorem E90 : E 90 = some ir90 := rfl
theorem E91 : E 91 = some ir91 := rfl
theorem E92 : E 92 = some ir92 := rfl
theorem E94 : E 94 = some ir94 := rfl
theorem E95 : E 95 = some ir95 := rfl
theorem E96 : E 96 = some ir96 := rfl
theorem E97 : E 97 = some ir97 := rfl
theorem E98 : E 98 = some ir98 := rfl
theorem E99 : E 99 = some ir99 := rfl
theorem E100 : E 100 = some ir100 := rfl
theorem E101 : E 101 = some ir101 := rfl
theorem E102 : E 102 = some ir102 := rfl
theorem E103 : E 103 = some ir103 := rfl
theorem E104 : E 104 = some ir104 := rfl
theorem E105 : E 105 = some ir105 := rfl
theorem E106 : E 106 = some ir106 := rfl
theorem E107 : E 107 = some ir107 := rfl
theorem E108 : E 108 = some ir108 := rfl
theorem E111 : E 111 = some ir111 := rfl
theorem E112 : E 112 = some ir112 := rfl
theorem E113 : E 113 = some ir113 := rfl
theorem E114 : E 114 = some ir114 := rfl
theorem E115 : E 115 = some ir115 := rfl
theorem E116 : E 116 = some ir116 := rfl
theorem E117 : E 117 = some ir117 := rfl
theorem E118 : E 118 = some ir118 := rfl
theorem E119 : E 119 = some ir119 := rfl
theorem E120 : E 120 = some ir120 := rfl
theorem E122 : E 122 = some ir122 := rfl
set_option maxRecDepth 100000 in
theorem tab_ok : ∀ p ∈ tab, ∃ ls, compF Tryz.prog ls p.1 = some p.2 := by
  simp only [tab, List.forall_mem_cons]
  exact ⟨⟨_, K3⟩, ⟨_, K4⟩, ⟨_, K5⟩, ⟨_, K6⟩, ⟨_, K7⟩, ⟨_, K12⟩, ⟨_, K13⟩, ⟨_, K14⟩, ⟨_, K15⟩, ⟨_, K16⟩, ⟨_, K17⟩, ⟨_, K18⟩, ⟨_, K19⟩, ⟨_, K20⟩, ⟨_, K21⟩, ⟨_, K22⟩, ⟨_, K23⟩, ⟨_, K28⟩, ⟨_, K29⟩, ⟨_, K30⟩, ⟨_, K31⟩, ⟨_, K32⟩, ⟨_, K33⟩, ⟨_, K34⟩, ⟨_, K35⟩, ⟨_, K36⟩, ⟨_, K37⟩, ⟨_, K38⟩, ⟨_, K42⟩, ⟨_, K43⟩, ⟨_, K44⟩, ⟨_, K45⟩, ⟨_, K46⟩, ⟨_, K47⟩, ⟨_, K48⟩, ⟨_, K49⟩, ⟨_, K50⟩, ⟨_, K51⟩, ⟨_, K52⟩, ⟨_, K53⟩, ⟨_, K54⟩, ⟨_, K55⟩, ⟨_, K56⟩, ⟨_, K57⟩, ⟨_, K58⟩, ⟨_, K59⟩, ⟨_, K60⟩, ⟨_, K61⟩, ⟨_, K62⟩, ⟨_, K63⟩, ⟨_, K64⟩, ⟨_, K65⟩, ⟨_, K67⟩, ⟨_, K68⟩, ⟨_, K69⟩, ⟨_, K70⟩, ⟨_, K71⟩, ⟨_, K72⟩, ⟨_, K73⟩, ⟨_, K74⟩, ⟨_, K75⟩, ⟨_, K76⟩, ⟨_, K77⟩, ⟨_, K78⟩, ⟨_, K79⟩, ⟨_, K80⟩, ⟨_, K81⟩, ⟨_, K82⟩, ⟨_, K83⟩, ⟨_, K84⟩, ⟨_, K85⟩, ⟨_, K86⟩, ⟨_, K87⟩, ⟨_, K88⟩, ⟨_, K89⟩, ⟨_, K90⟩, ⟨_, K91⟩, ⟨_, K92⟩, ⟨_, K94⟩, ⟨_, K95⟩, ⟨_, K96⟩, ⟨_, K97⟩, ⟨_, K98⟩, ⟨_, K99⟩, ⟨_, K100⟩, ⟨_, K101⟩, ⟨_, K102⟩, ⟨_, K103⟩, ⟨_, K104⟩, ⟨_, K105⟩, ⟨_, K106⟩, ⟨_, K107⟩, ⟨_, K108⟩, ⟨_, K111⟩, ⟨_, K112⟩, ⟨_, K113⟩, ⟨_, K114⟩, ⟨_, K115⟩, ⟨_, K116⟩, ⟨_, K117⟩, ⟨_, K118⟩, ⟨_, K119⟩, ⟨_, K120⟩, ⟨_, K122⟩, fun _ h => by cases h⟩
theorem lookup_mem {α : Type} {f : Nat} {x : α} : ∀ {l : List (Nat × α)}, l.lookup f = some x → (f, x) ∈ l
  | [], h => by simp at h
  | (g, y) :: r, h => by
    rw [List.lookup_cons] at h
    by_cases hg : f = g
    · subst hg; simp at h; simp [h]
    · rw [show (f == g) = false from by simpa using hg] at h; exact List.mem_cons_of_mem _ (lookup_mem h)
set_option maxRecDepth 100000 in
theorem hE (f : Nat) (fn : IFn) (h : E f = some fn) : ∃ ls, compF Tryz.prog ls f = some fn := tab_ok _ (lookup_mem h)
end Go.AM.R1
open Go Go.AM
namespace Go.AM.R1

theorem wrap64 {x : Int} (h1 : -9223372036854775808 ≤ x) (h2 : x ≤ 9223372036854775807) : IntKind.wrap .i64 x = x := by
  simp [IntKind.wrap, IntKind.bits, IntKind.signed]; omega
theorem wrapIdx {i : Nat} (h : i < 9223372036854775807) : IntKind.wrap .i64 ((i : Int) + 1) = ((i + 1 : Nat) : Int) := by
  rw [wrap64 (by omega) (by omega)]; omega

structure Run where
  N : Int
  Bus : Int
  Drive : Int
  deriving DecidableEq

def encRun (r : Run) : List AVal := [.lit (.int .i64 r.N), .lit (.int .i64 r.Bus), .lit (.int .u32 r.Drive)]
structure Run.Ok (r : Run) : Prop where
  n1 : -9223372036854775808 ≤ r.N
  n2 : r.N ≤ 9223372036854775807

def right (r : Run) : Bool := decide (1 ≤ r.N) && decide (r.N ≤ 1073741824) && decide (r.Bus = if r.Drive = 4294967295 then 1 else 0)

def ticksGo (acc : Int) : List Run → Int × Int
  | [] => if 1073741824 < acc then (0, 12) else (acc, 0)
  | r :: l => if right r then ticksGo (if 1073741825 < acc + r.N then 1073741825 else acc + r.N) l else (0, 10)
def ticks (l : List Run) : Int × Int := ticksGo 0 l
end Go.AM.R1
open Go Go.AM
namespace Go.AM.R1

/-- How many ticks of a run are within. -/
def part (at_ from_ to n : Int) : Int := (if to < at_ + n then to else at_ + n) - (if from_ > at_ then from_ else at_)
def sumN : List Run → Int
  | [] => 0
  | r :: l => r.N + sumN l
/-- How runs are wrong. -/
def chk (l : List Run) : Int := if l.all right = true then (if 1073741824 < sumN l then 12 else 0) else 10
end Go.AM.R1
open Go Go.AM
namespace Go.AM.R1

/-- What there is at a tick. -/
def pick : Int → List Run → Option Run
  | _, [] => none
  | t, r :: l => if t < r.N then some ⟨1, r.Bus, r.Drive⟩ else pick (t - r.N) l
end Go.AM.R1
open Go Go.AM
namespace Go.AM.R1

/-! ### Few, Same, alike -/
def alike (a b : Run) : Bool := decide (a.Bus = b.Bus) && decide (a.Drive = b.Drive)
end Go.AM.R1
open Go Go.AM
namespace Go.AM.R1

/-! ### Join -/
def push (out : List Run) (r : Run) : List Run :=
  match out.getLast? with
  | none => [r]
  | some x => if alike x r = true then out.dropLast ++ [⟨x.N + r.N, x.Bus, x.Drive⟩] else out ++ [r]
end Go.AM.R1
open Go Go.AM
namespace Go.AM.R1

/-- Joined runs, of up to 2^62 ticks. -/
def joined (out : List Run) : List Run → List Run
  | [] => out
  | r :: l => if r.N < 1 then joined out l else joined (push out r) l
/-! ### The ticks, one by one -/
end Go.AM.R1
open Go Go.AM
namespace Go.AM.R1

/-! ### The plain law of cutting -/
end Go.AM.R1
open Go Go.AM
namespace Go.AM.R1

/-- A row of numbers. -/
def encI (n : Int) : List AVal := [.lit (.int .i64 n)]
end Go.AM.R1
open Go Go.AM
namespace Go.AM.R1
end Go.AM.R1
open Go Go.AM
namespace Go.AM.R1

end Go.AM.R1
open Go Go.AM
namespace Go.AM.R1

/-! ### The law TapWired -/
end Go.AM.R1
open Go Go.AM
namespace Go.AM.R1

/-! ### The law TapJoins -/
end Go.AM.R1
open Go Go.AM
namespace Go.AM.R1

/-! ### Bytes, and the bytes of numbers -/
def encB (n : Nat) : List AVal := [.lit (.int .u8 n)]
theorem wrap8 (n : Nat) : IntKind.wrap .u8 (n : Int) = ((n % 256 : Nat) : Int) := by
  simp [IntKind.wrap, IntKind.bits, IntKind.signed]
theorem wrap_u64 {n : Nat} (h : n < 18446744073709551616) : IntKind.wrap .u64 (n : Int) = (n : Int) := by
  simp [IntKind.wrap, IntKind.bits, IntKind.signed]; omega
theorem noImmLL_append : ∀ l m : List (List AVal), noImmLL (l ++ m) = (noImmLL l && noImmLL m)
  | [], m => rfl
  | a :: l, m => by rw [List.cons_append, noImmLL, noImmLL, noImmLL_append l m, Bool.and_assoc]
theorem noImmLL_take {l : List (List AVal)} (h : noImmLL l = true) (n : Nat) : noImmLL (l.take n) = true := by
  have := noImmLL_append (l.take n) (l.drop n)
  rw [List.take_append_drop, h] at this
  cases h2 : noImmLL (l.take n) with
  | true => rfl
  | false => rw [h2] at this; cases this
theorem noImmLL_drop {l : List (List AVal)} (h : noImmLL l = true) (n : Nat) : noImmLL (l.drop n) = true := by
  have := noImmLL_append (l.take n) (l.drop n)
  rw [List.take_append_drop, h] at this
  cases h2 : noImmLL (l.drop n) with
  | true => rfl
  | false => rw [h2] at this; simp at this
theorem noImm_encB (l : List Nat) : noImmLL (l.map encB) = true := noImmLL_map (fun _ => rfl) l
attribute [go_sem] noImm_encB noImmLL_append noImmLL_take noImmLL_drop
end Go.AM.R1
open Go Go.AM
namespace Go.AM.R1

/-! ### The sum of bytes -/
def stepB (x : BitVec 32) : BitVec 32 := (x >>> 1) ^^^ (if x.toNat % 2 = 1 then 3988292384#32 else 0#32)
def steps : Nat → BitVec 32 → BitVec 32
  | 0, x => x
  | n + 1, x => steps n (stepB x)
end Go.AM.R1
open Go Go.AM
namespace Go.AM.R1

/-! ### Sealing -/
end Go.AM.R1
open Go Go.AM
namespace Go.AM.R1
/-! ### Which blocks are right -/
end Go.AM.R1
open Go Go.AM
namespace Go.AM.R1

/-! ### The bytes of a block -/
end Go.AM.R1
open Go Go.AM
namespace Go.AM.R1

end Go.AM.R1
open Go Go.AM
namespace Go.AM.R1

/-! ### Numbers, got -/
end Go.AM.R1
open Go Go.AM
namespace Go.AM.R1

end Go.AM.R1
open Go Go.AM
namespace Go.AM.R1

/-! ### What is put is got, and what is got was put -/
end Go.AM.R1
open Go Go.AM
namespace Go.AM.R1

theorem ofNat_inj {a b : Nat} (ha : a < 256) (hb : b < 256) (h : UInt8.ofNat a = UInt8.ofNat b) : a = b := by
  have := congrArg UInt8.toNat h
  simp at this
  omega
end Go.AM.R1
open Go Go.AM
namespace Go.AM.R1

end Go.AM.R1
open Go Go.AM
namespace Go.AM.R1

end Go.AM.R1
open Go Go.AM
namespace Go.AM.R1

/-! ### The block of numbers -/
end Go.AM.R1
open Go Go.AM
namespace Go.AM.R1

end Go.AM.R1
open Go Go.AM
namespace Go.AM.R1

/-! ### Which numbers are a block's -/
end Go.AM.R1
open Go Go.AM
namespace Go.AM.R1

/-! ### Get -/
end Go.AM.R1
open Go Go.AM
namespace Go.AM.R1

end Go.AM.R1
open Go Go.AM
namespace Go.AM.R1

/-! ### A block that is put is got, and what is got was put -/
end Go.AM.R1
open Go Go.AM
namespace Go.AM.R1

/-! ### What the sum sees -/
/-- The bits of bytes, the lowest first. -/
def bits8 (c : Nat) : List Bool := (List.range 8).map c.testBit
def bitsL (l : List Nat) : List Bool := l.flatMap bits8
/-! ### Sealed bytes -/
end Go.AM.R1
open Go Go.AM
namespace Go.AM.R1

/-! ### Bits, turned one by one -/
/-- Bytes of which some bits were turned, of those from a place on. -/
structure Inv (P : List Nat) (head fr t i : Nat) (w : List Nat) (turned : Bool) : Prop where
  len : w.length = P.length
  byte : ∀ c ∈ w, c < 256
  front : w.take head = P.take head
  win : ∃ B, bitsL w = (bitsL P).take (8 * head + fr) ++ B ++ (bitsL P).drop (8 * head + fr + t) ∧ B.length = t ∧
    (turned = true → ∃ j, j < i ∧ B[j]? ≠ (((bitsL P).drop (8 * head + fr)).take t)[j]?) ∧ ∀ j, i ≤ j → B[j]? = (((bitsL P).drop (8 * head + fr)).take t)[j]?
  same : turned = false → w = P
end Go.AM.R1
open Go Go.AM
namespace Go.AM.R1
/-! ### An element of an array that is a value -/
section
variable (c : Callee) (ρ : Opd → AVal) (H : Heap)
def idxVG (ag : Bool) (len sz : Nat) (H : Heap) : AVal → AVal → Option (AVal × Heap)
  | .agg cs, .lit (.int _ n) => if 0 ≤ n then (if n.toNat < len then pairK H (get1 ag sz (cs.drop (n.toNat * sz))) else none) else none
  | _, _ => none
theorem aop_idxV (ag len sz x i) : aop c ρ H (.idxV ag len sz x i) = idxVG ag len sz H (ρ x) (ρ i) := by
  simp only [aop]
  generalize ρ i = vi
  generalize ρ x = vx
  cases vi with
  | lit v =>
    cases v with
    | int k n =>
      by_cases h : 0 ≤ n
      · simp only [asNat, h, if_true, Option.bind_some]
        cases vx with
        | agg cs =>
          simp only [idxVG, h, if_true]
          split
          · exact map_pair _ _
          · rfl
        | _ => rfl
      · simp only [asNat, h, if_false, Option.bind_none]
        cases vx <;> simp [idxVG, h]
    | _ => cases vx <;> rfl
  | _ => cases vx <;> rfl
theorem idxVG_agg (ag len sz cs k n) : idxVG ag len sz H (.agg cs) (.lit (.int k n)) = if 0 ≤ n then (if n.toNat < len then pairK H (get1 ag sz (cs.drop (n.toNat * sz))) else none) else none := rfl
end
/-! ### Levels -/
def lv (b : Bool) : Int := if b then 1 else 0
def encLv (b : Bool) : List AVal := [.lit (.int .i64 (lv b))]
theorem lv_nat (b : Bool) : lv b = (b.toNat : Int) := by cases b <;> rfl
theorem rowsLv (m : List Bool) : rowsOk 1 (m.map encLv) = true := by
  simp [rowsOk, encLv]
theorem take_allLv (m : List Bool) : List.take m.length (m.map encLv) = m.map encLv := List.take_of_length_le (by simp)
theorem blevel_spec (b : Bool) : call E (.func (.func 76) [] []) [.lit (.int .i64 (lv b))] [] = some (.lit (.bool true), []) := by
  rw [call_func E E76]
  cases b <;> simp [go_sem, ir76, lv]
theorem chk1_spec (b : Bool) : call E (.func (.func 75) [] []) [.lit (.int .i64 (lv b))] [] = some (.lit (.bool false), []) := by
  rw [call_func E E75]
  simp [go_sem, ir75, blevel_spec]
theorem idx_loop (m : List Bool) (hl : m.length ≤ 1099511627775) (nl fu : Bool) (k : List Item) (R : Option (AVal × Heap)) (hk : ∀ τ, finK 0 [.tmp 4] (run E 0 k τ []) = R) :
    ∀ (d i : Nat), i + d = m.length →
   finK 0 [.tmp 4] (run E 0 (.code L74_0 :: .inLoop [0, 1, 7, 8] L74_0 :: .inBlock 0 :: k) [(0, .imm nl fu true (m.map encLv)), (1, .func (.func 75) [] []), (7, .lit (.int .i64 m.length)), (8, .lit (.int .i64 i))] []) = R := by
  intro d
  induction d with
  | zero =>
    intro i hi
    have : i = m.length := by omega
    subst this
    simp [go_sem, run_codeL E L74_0.eq_1]
    exact hk _
  | succ d ih =>
    intro i hi
    have hlt : i < m.length := by omega
    have w := wrapIdx (i := i) (by omega)
    have ih2 := ih (i + 1) (by omega)
    simp at ih2 w
    simp [go_sem, run_codeL E L74_0.eq_1, hlt, List.getElem?_eq_getElem hlt, encLv, chk1_spec, w, purse_eq]
    rw [run_inLoop']
    simp [go_sem, purse_eq]
    exact ih2
theorem check_lv (m : List Bool) (hl : m.length ≤ 1099511627775) (nl fu : Bool) : call E (.func (.func 47) [] []) [.imm nl fu true (m.map encLv)] [] = some (.lit (.int .i64 (-1)), []) := by
  rw [call_func E E47]
  have h : call E (.func (.func 74) [] []) [.imm nl fu true (m.map encLv), .func (.func 75) [] []] [] = some (.lit (.int .i64 (-1)), []) := by
    rw [call_func E E74]
    have h := fun k hk => idx_loop m hl nl fu k (some (.lit (.int .i64 (-1)), [])) hk m.length 0 (by omega)
    simp at h
    simp [go_sem, ir74, purse_eq]
    rw [run_inLoop']
    simp [go_sem, purse_eq]
    refine h _ ?_
    intro τ
    simp [go_sem]
  simp [go_sem, ir47, h, purse_eq]
/-! ### The number of levels -/
def valGo (n : Nat) : List Bool → Nat
  | [] => n
  | b :: l => valGo (2 * n + b.toNat) l
def valB (l : List Bool) : Nat := valGo 0 l
theorem valGo_lt : ∀ (l : List Bool) (n : Nat), valGo n l < (n + 1) * 2 ^ l.length
  | [], n => by simp [valGo]
  | b :: l, n => by
    have := valGo_lt l (2 * n + b.toNat)
    have hb : b.toNat ≤ 1 := by cases b <;> decide
    rw [valGo, List.length_cons, Nat.pow_succ]
    have : (2 * n + b.toNat + 1) * 2 ^ l.length ≤ (2 * (n + 1)) * 2 ^ l.length := Nat.mul_le_mul_right _ (by omega)
    have e : (2 * (n + 1)) * 2 ^ l.length = (n + 1) * (2 ^ l.length * 2) := by rw [Nat.mul_comm 2 (n + 1), Nat.mul_assoc, Nat.mul_comm 2]
    omega
theorem valB_lt (l : List Bool) : valB l < 2 ^ l.length := by
  have := valGo_lt l 0
  simpa [valB] using this
theorem ior_bit {n : Nat} (b : Bool) (h : 2 * n + 1 < 18446744073709551616) : ior .u64 ((2 * n : Nat) : Int) ((b.toNat : Nat) : Int) = ((2 * n + b.toNat : Nat) : Int) := by
  have hb : b.toNat < 2 ^ 1 := by cases b <;> decide
  have e : (BitVec.ofInt 64 ((2 * n : Nat) : Int) ||| BitVec.ofInt 64 ((b.toNat : Nat) : Int)).toNat = 2 * n + b.toNat := by
    rw [BitVec.toNat_or, BitVec.ofInt_natCast, BitVec.ofInt_natCast, BitVec.toNat_ofNat, BitVec.toNat_ofNat, Nat.mod_eq_of_lt (by omega), Nat.mod_eq_of_lt (by omega)]
    have := Nat.two_pow_add_eq_or_of_lt hb n
    simpa using this.symm
  unfold ior
  show IntKind.wrap .u64 ((BitVec.ofInt 64 ((2 * n : Nat) : Int) ||| BitVec.ofInt 64 ((b.toNat : Nat) : Int)).toNat : Int) = _
  rw [e, wrap_u64 (by omega)]
theorem val_loop (m : List Bool) (hl : m.length ≤ 64) (nl fu : Bool) (k : List Item) (R : Nat → Option (AVal × Heap)) (hk : ∀ (τ : Tmps) (n : Nat), lk 4 τ = .lit (.int .u64 (n : Int)) → finK 0 [.tmp 2, .tmp 3] (run E 0 k τ []) = R n) :
    ∀ (d i : Nat) (n : Nat), i + d = m.length → n < 2 ^ i →
   finK 0 [.tmp 2, .tmp 3] (run E 0 (.code L112_0 :: .inLoop [4, 15, 16, 17] L112_0 :: .inBlock 1 :: k) [(4, .lit (.int .u64 n)), (15, .imm nl fu true (m.map encLv)), (16, .lit (.int .i64 m.length)), (17, .lit (.int .i64 i))] []) = R (valGo n (m.drop i)) := by
  intro d
  induction d with
  | zero =>
    intro i n hi hn
    have : i = m.length := by omega
    subst this
    simp [go_sem, run_codeL E L112_0.eq_1, valGo]
    exact hk _ _ rfl
  | succ d ih =>
    intro i n hi hn
    have hlt : i < m.length := by omega
    have w := wrapIdx (i := i) (by omega)
    have hb : m[i].toNat ≤ 1 := by cases m[i] <;> decide
    have hp : 2 ^ (i + 1) ≤ 2 ^ 64 := Nat.pow_le_pow_right (by omega) (by omega)
    have hp2 : 2 ^ (i + 1) = 2 * 2 ^ i := by rw [Nat.pow_succ, Nat.mul_comm]
    have w1 : IntKind.wrap .u64 ((n : Int) * 2) = ((2 * n : Nat) : Int) := by rw [show (n : Int) * 2 = ((2 * n : Nat) : Int) from by omega, wrap_u64 (by omega)]
    have w2 : IntKind.wrap .u64 (lv m[i]) = ((m[i].toNat : Nat) : Int) := by rw [lv_nat, wrap_u64 (by omega)]
    have w3 := ior_bit (n := n) m[i] (by omega)
    rw [List.drop_eq_getElem_cons hlt, valGo]
    have ih2 := ih (i + 1) (2 * n + m[i].toNat) (by omega) (by omega)
    generalize R _ = Q at ih2 ⊢
    generalize 2 * n + m[i].toNat = n2 at *
    generalize 2 * n = n1 at *
    simp at ih2 w
    simp [go_sem, run_codeL E L112_0.eq_1, hlt, List.getElem?_eq_getElem hlt, encLv, w, w1, w2, w3, purse_eq]
    rw [run_inLoop']
    simp [go_sem, purse_eq]
    exact ih2
theorem value_spec (m : List Bool) (hl : m.length ≤ 64) (nl fu : Bool) : call E (.func (.func 112) [] []) [.imm nl fu true (m.map encLv)] [] = some (.tup [.lit (.int .u64 (valB m)), .lit (.int .i64 0)], []) := by
  rw [call_func E E112]
  have hc := check_lv m (by omega) nl fu
  have h64 : ¬ ((64 : Int) < m.length) := by omega
  have h := fun k hk => val_loop m hl nl fu k (fun n => some (.tup [.lit (.int .u64 n), .lit (.int .i64 0)], [])) hk m.length 0 0 (by omega) (by simp)
  simp at h
  simp [go_sem, ir112, hc, h64, purse_eq]
  rw [run_inLoop']
  simp [go_sem, purse_eq]
  refine h _ ?_
  intro τ n t4
  simp [go_sem, t4]
theorem fvalue_spec (m : List Bool) (hl : m.length ≤ 62) (nl fu : Bool) : call E (.func (.func 116) [] []) [.imm nl fu true (m.map encLv)] [] = some (.lit (.int .i64 (valB m)), []) := by
  rw [call_func E E116]
  have h := value_spec m (by omega) nl fu
  have hb := valB_lt m
  have hp : 2 ^ m.length ≤ 2 ^ 62 := Nat.pow_le_pow_right (by omega) hl
  have w : IntKind.wrap .i64 (valB m : Int) = valB m := wrap64 (by omega) (by omega)
  simp [go_sem, ir116, h, w, purse_eq]
end Go.AM.R1
open Go Go.AM
namespace Go.AM.R1
/-! ### The sum of 15 bits -/
theorem iand_i64_nat {x y : Nat} (hx : x < 9223372036854775808) (hy : y < 9223372036854775808) : iand .i64 (x : Int) (y : Int) = ((x &&& y : Nat) : Int) := by
  have e : (BitVec.ofInt 64 (x : Int) &&& BitVec.ofInt 64 (y : Int)).toNat = x &&& y := by
    rw [BitVec.toNat_and, BitVec.ofInt_natCast, BitVec.ofInt_natCast, BitVec.toNat_ofNat, BitVec.toNat_ofNat, Nat.mod_eq_of_lt (by omega), Nat.mod_eq_of_lt (by omega)]
  have hl : x &&& y ≤ x := Nat.and_le_left
  unfold iand
  show IntKind.wrap .i64 ((BitVec.ofInt 64 (x : Int) &&& BitVec.ofInt 64 (y : Int)).toNat : Int) = _
  rw [e, wrap64 (by omega) (by omega)]
theorem ixor_i64_nat {x y : Nat} (hx : x < 4611686018427387904) (hy : y < 4611686018427387904) : ixor .i64 (x : Int) (y : Int) = ((x ^^^ y : Nat) : Int) := by
  have e : (BitVec.ofInt 64 (x : Int) ^^^ BitVec.ofInt 64 (y : Int)).toNat = x ^^^ y := by
    rw [BitVec.toNat_xor, BitVec.ofInt_natCast, BitVec.ofInt_natCast, BitVec.toNat_ofNat, BitVec.toNat_ofNat, Nat.mod_eq_of_lt (by omega), Nat.mod_eq_of_lt (by omega)]
  have hl : x ^^^ y < 2 ^ 62 := Nat.xor_lt_two_pow (by omega) (by omega)
  unfold ixor
  show IntKind.wrap .i64 ((BitVec.ofInt 64 (x : Int) ^^^ BitVec.ofInt 64 (y : Int)).toNat : Int) = _
  rw [e, wrap64 (by omega) (by omega)]
theorem and_16384 {s : Nat} (h : s < 32768) : (s &&& 16384 = 0) ↔ s < 16384 := by
  constructor
  · intro e
    apply Classical.byContradiction
    intro q
    have h1 : s.testBit 14 = true := by
      rw [Nat.testBit_eq_decide_div_mod_eq]; simp; omega
    have h2 : (s &&& 16384).testBit 14 = true := by rw [Nat.testBit_and, h1]; decide
    rw [e] at h2
    simp at h2
  · intro q
    apply Nat.eq_of_testBit_eq
    intro i
    rw [Nat.testBit_and, show 16384 = 2 ^ 14 from rfl, Nat.testBit_two_pow]
    by_cases h : 14 = i
    · subst h
      rw [Nat.testBit_lt_two_pow (show s < 2 ^ 14 by omega)]; simp
    · simp [h]
def c15Step (s : Nat) (b : Bool) : Nat := if decide (16384 ≤ s) != b then (2 * s % 32768) ^^^ 17817 else 2 * s % 32768
theorem c15Step_lt (s : Nat) (b : Bool) : c15Step s b < 32768 := by
  unfold c15Step
  split
  · exact Nat.xor_lt_two_pow (n := 15) (by omega) (by omega)
  · omega
theorem cstep_spec (s : Nat) (h : s < 32768) (b : Bool) : call E (.func (.func 70) [] []) [.lit (.int .i64 s), .lit (.int .i64 (lv b))] [] = some (.lit (.int .i64 (c15Step s b)), []) := by
  rw [call_func E E70]
  have w1 : IntKind.wrap .i64 ((s : Int) * 2) = ((2 * s : Nat) : Int) := by rw [wrap64 (by omega) (by omega)]; omega
  have a1 : iand .i64 ((2 * s : Nat) : Int) 32767 = ((2 * s % 32768 : Nat) : Int) := by
    rw [show (32767 : Int) = ((32767 : Nat) : Int) from rfl, iand_i64_nat (by omega) (by omega), show 32767 = 2 ^ 15 - 1 from rfl, Nat.and_two_pow_sub_one_eq_mod]
  have a2 : iand .i64 (s : Int) 16384 = ((s &&& 16384 : Nat) : Int) := by
    rw [show (16384 : Int) = ((16384 : Nat) : Int) from rfl, iand_i64_nat (by omega) (by omega)]
  have a3 : ixor .i64 ((2 * s % 32768 : Nat) : Int) 17817 = ((2 * s % 32768 ^^^ 17817 : Nat) : Int) := by
    rw [show (17817 : Int) = ((17817 : Nat) : Int) from rfl, ixor_i64_nat (by omega) (by omega)]
  have hm := and_16384 h
  unfold c15Step
  by_cases hs : s < 16384
  · have e0 := hm.2 hs
    have hs' : ¬ 16384 ≤ s := by omega
    rw [e0] at a2
    generalize 2 * s % 32768 = m at *
    generalize m ^^^ 17817 = m2 at *
    generalize 2 * s = s2 at *
    simp at a2
    cases b <;> simp [go_sem, ir70, lv, w1, a1, a2, a3, hs']
  · have e0 : ¬ (s &&& 16384 = 0) := fun e => hs (hm.1 e)
    have hs' : 16384 ≤ s := by omega
    generalize s &&& 16384 = t at *
    generalize 2 * s % 32768 = m at *
    generalize m ^^^ 17817 = m2 at *
    generalize 2 * s = s2 at *
    cases b <;> simp [go_sem, ir70, lv, w1, a1, a2, a3, hs', e0]
def c15Go (s : Nat) : List Bool → Nat
  | [] => s
  | b :: l => c15Go (c15Step s b) l
def c15L (l : List Bool) : Nat := c15Go 0 l
theorem c15Go_lt : ∀ (l : List Bool) (s : Nat), s < 32768 → c15Go s l < 32768
  | [], s, h => h
  | b :: l, s, _ => c15Go_lt l _ (c15Step_lt s b)
theorem c15L_lt (l : List Bool) : c15L l < 32768 := c15Go_lt l 0 (by omega)
theorem con_spec (s : Nat) (h : s < 32768) (b : Bool) : call E (.func (.func 69) [] [.ptr 0 0]) [.lit (.int .i64 (lv b))] [.box [.lit (.int .i64 s)]] = some (.tup [], [.box [.lit (.int .i64 (c15Step s b))]]) := by
  rw [call_func E E69]
  simp [go_sem, ir69, cstep_spec s h b, purse_eq, List.range_succ]
theorem csum_loop (m : List Bool) (hl : m.length ≤ 1000000) (nl fu : Bool) (k : List Item) (R : Nat → Option (AVal × Heap))
    (hk : ∀ (τ : Tmps) (s : Nat), lk 4 τ = .ptr 0 0 → finK 0 [.tmp 2, .tmp 3] (run E 0 k τ [.box [.lit (.int .i64 (s : Int))]]) = R s) :
    ∀ (d i : Nat) (s : Nat), i + d = m.length → s < 32768 →
   finK 0 [.tmp 2, .tmp 3] (run E 0 (.code L43_0 :: .inLoop [0, 4, 5, 12, 13] L43_0 :: .inBlock 0 :: k) [(0, .imm nl fu true (m.map encLv)), (4, .ptr 0 0), (5, .func (.func 69) [] [.ptr 0 0]), (12, .lit (.int .i64 m.length)), (13, .lit (.int .i64 i))] [.box [.lit (.int .i64 s)]]) = R (c15Go s (m.drop i)) := by
  intro d
  induction d with
  | zero =>
    intro i s hi hs
    have : i = m.length := by omega
    subst this
    simp [go_sem, run_codeL E L43_0.eq_1, c15Go]
    exact hk _ _ rfl
  | succ d ih =>
    intro i s hi hs
    have hlt : i < m.length := by omega
    have w := wrapIdx (i := i) (by omega)
    rw [List.drop_eq_getElem_cons hlt, c15Go]
    have ih2 := ih (i + 1) (c15Step s m[i]) (by omega) (c15Step_lt _ _)
    have hc := con_spec s hs m[i]
    generalize R _ = Q at ih2 ⊢
    generalize c15Step s m[i] = s2 at *
    simp at ih2 w
    simp [go_sem, run_codeL E L43_0.eq_1, hlt, List.getElem?_eq_getElem hlt, encLv, w, hc, purse_eq, List.range_succ]
    rw [run_inLoop']
    simp [go_sem, purse_eq, List.range_succ]
    exact ih2
theorem csum_spec (m : List Bool) (hl : m.length ≤ 1000000) (nl fu : Bool) : call E (.func (.func 43) [] []) [.imm nl fu true (m.map encLv)] [] = some (.tup [.lit (.int .i64 (c15L m)), .lit (.int .i64 0)], []) := by
  rw [call_func E E43]
  have hc := check_lv m (by omega) nl fu
  have h := fun k hk => csum_loop m hl nl fu k (fun n => some (.tup [.lit (.int .i64 n), .lit (.int .i64 0)], [])) hk m.length 0 0 (by omega) (by omega)
  simp at h
  simp [go_sem, ir43, hc, purse_eq, List.range_succ]
  rw [run_inLoop']
  simp [go_sem, purse_eq, List.range_succ]
  refine h _ ?_
  intro τ s t4
  simp [go_sem, t4, purse_eq, List.range_succ]
/-! ### The lowest bits of a number -/
def bitsOf : Nat → Nat → List Bool
  | 0, _ => []
  | w + 1, n => decide (n / 2 ^ w % 2 = 1) :: bitsOf w n
theorem bitsOf_length : ∀ w n, (bitsOf w n).length = w
  | 0, _ => rfl
  | w + 1, n => by rw [bitsOf, List.length_cons, bitsOf_length w]
theorem bof_loop (n w : Nat) (hn : n < 18446744073709551616) (hw : w ≤ 64) (k : List Item) (R : Option (AVal × Heap))
    (hk : ∀ τ, lk 6 τ = .own 0 w 1 0 w → finK 0 [.tmp 4, .tmp 5] (run E 0 k τ [.arr true false false 1 ((bitsOf w n).map encLv)]) = R) :
    ∀ (d i : Nat), i + d = w →
   finK 0 [.tmp 4, .tmp 5] (run E 0 (.code L68_0 :: .inLoop [0, 1, 6, 16, 17] L68_0 :: .inBlock 0 :: k) [(0, .lit (.int .u64 n)), (1, .lit (.int .i64 w)), (6, .own 0 w 1 0 w), (16, .lit (.int .i64 w)), (17, .lit (.int .i64 i))] [.arr true false false 1 ((List.replicate (w - i) false ++ bitsOf i n).map encLv)]) = R := by
  intro d
  induction d with
  | zero =>
    intro i hi
    have : i = w := by omega
    subst this
    simp [go_sem, run_codeL E L68_0.eq_1]
    exact hk _ rfl
  | succ d ih =>
    intro i hi
    have hlt : i < w := by omega
    have w1 := wrapIdx (i := i) (by omega)
    have w2 : IntKind.wrap .i64 ((w : Int) - 1) = (w : Int) - 1 := wrap64 (by omega) (by omega)
    have w3 : IntKind.wrap .i64 ((w : Int) - 1 - (i : Int)) = ((w - 1 - i : Nat) : Int) := by rw [wrap64 (by omega) (by omega)]; omega
    have hmin : min i 64 = i := by omega
    have hp : (0 : Int) < 2 ^ i := Int.pow_pos (by omega)
    have hfd : (n : Int).fdiv (2 ^ i) = ((n / 2 ^ i : Nat) : Int) := by rw [Int.fdiv_eq_ediv_of_nonneg _ (by omega)]; simp
    have hlt64 : n / 2 ^ i < 18446744073709551616 := Nat.lt_of_le_of_lt (Nat.div_le_self _ _) hn
    have a1 : iand .u64 ((n / 2 ^ i : Nat) : Int) 1 = ((n / 2 ^ i % 2 : Nat) : Int) := by
      have e : (BitVec.ofInt 64 ((n / 2 ^ i : Nat) : Int) &&& BitVec.ofInt 64 1).toNat = n / 2 ^ i % 2 := by
        rw [BitVec.toNat_and, BitVec.ofInt_natCast, BitVec.toNat_ofNat, BitVec.toNat_ofInt, show ((1 : Int) % ((2 ^ 64 : Nat) : Int)).toNat = 1 from by decide, Nat.mod_eq_of_lt (by omega), Nat.and_one_is_mod]
      unfold iand
      show IntKind.wrap .u64 ((BitVec.ofInt 64 ((n / 2 ^ i : Nat) : Int) &&& BitVec.ofInt 64 1).toNat : Int) = _
      rw [e, wrap_u64 (by omega)]
    have w4 : IntKind.wrap .i64 ((n / 2 ^ i % 2 : Nat) : Int) = lv (decide (n / 2 ^ i % 2 = 1)) := by
      rw [wrap64 (by omega) (by omega)]
      unfold lv
      by_cases h : n / 2 ^ i % 2 = 1
      · simp [h]
      · have : n / 2 ^ i % 2 = 0 := by omega
        simp [this]
    have hlt0 : ¬ (i : Int) < 0 := by omega
    have hset : ((List.replicate (w - i) false ++ bitsOf i n).map encLv).set (w - 1 - i) [.lit (.int .i64 (lv (decide (n / 2 ^ i % 2 = 1))))] = (List.replicate (w - (i + 1)) false ++ bitsOf (i + 1) n).map encLv := by
      rw [show ([.lit (.int .i64 (lv (decide (n / 2 ^ i % 2 = 1))))] : List AVal) = encLv (decide (n / 2 ^ i % 2 = 1)) from rfl, ← List.map_set]
      congr 1
      rw [show w - i = (w - (i + 1)) + 1 from by omega, List.replicate_succ', List.append_assoc, show w - 1 - i = w - (i + 1) from by omega, List.set_append_right _ _ (by simp)]
      simp [bitsOf]
    have hlen : ((List.replicate (w - i) false ++ bitsOf i n).map encLv).length = w := by simp [bitsOf_length]; omega
    have hel : ∀ h : w - 1 - i < ((List.replicate (w - i) false ++ bitsOf i n).map encLv).length, (((List.replicate (w - i) false ++ bitsOf i n).map encLv)[w - 1 - i]'h).length = 1 := by
      intro h; rw [List.getElem_map]; rfl
    have ih2 := ih (i + 1) (by omega)
    rw [← hset] at ih2
    have hj : w - 1 - i < w := by omega
    generalize (List.replicate (w - i) false ++ bitsOf i n).map encLv = B at *
    generalize w - 1 - i = j at *
    generalize decide (n / 2 ^ i % 2 = 1) = bb at *
    generalize n / 2 ^ i % 2 = r at *
    generalize n / 2 ^ i = q at *
    have hjB : j < B.length := by omega
    have hBj : B[j]? = some (B[j]) := List.getElem?_eq_getElem hjB
    have he := hel hjB
    have htl : B[j].tail = [] := List.eq_nil_of_length_eq_zero (by rw [List.length_tail, he])
    simp at ih2 w1
    simp [go_sem, run_codeL E L68_0.eq_1, hlt, w1, w2, w3, hmin, hfd, a1, w4, hlt0, hj, hlen, hBj, hjB, he, htl, purse_eq, List.range_succ]
    rw [run_inLoop']
    simp [go_sem, purse_eq, List.range_succ]
    exact ih2
theorem bof_spec (n w : Nat) (hn : n < 18446744073709551616) (hw : w ≤ 64) : call E (.func (.func 68) [] []) [.lit (.int .u64 n), .lit (.int .i64 w)] [] = some (.tup [.own 0 w 1 0 w, .lit (.int .i64 0)], [.arr true false false 1 ((bitsOf w n).map encLv)]) := by
  rw [call_func E E68]
  have h0 : ¬ (w : Int) < 0 := by omega
  have h64 : ¬ (64 : Int) < w := by omega
  have hb1 : (w : Int) ≤ 70368744177664 := by omega
  have hb2 : (w : Int) * 8 ≤ 70368744177664 := by omega
  have h := fun k hk => bof_loop n w hn hw k (some (.tup [.own 0 w 1 0 w, .lit (.int .i64 0)], [.arr true false false 1 ((bitsOf w n).map encLv)])) hk w 0 (by omega)
  have hr : ((List.replicate (w - 0) false ++ bitsOf 0 n).map encLv) = List.replicate w [.lit (.int .i64 0)] := by simp [bitsOf, encLv, lv]
  rw [hr] at h
  simp at h
  simp [go_sem, ir68, h0, h64, hb1, hb2, purse_eq, List.range_succ]
  rw [run_inLoop']
  simp [go_sem, purse_eq, List.range_succ]
  refine h _ ?_
  intro τ t6
  simp [go_sem, t6, purse_eq, List.range_succ]
theorem cbits_spec (s : Nat) (h : s < 32768) : call E (.func (.func 44) [] []) [.lit (.int .i64 s)] [] = some (.tup [.own 0 15 1 0 15, .lit (.int .i64 0)], [.arr true false false 1 ((bitsOf 15 s).map encLv)]) := by
  rw [call_func E E44]
  have hm : call E (.func (.func 71) [] []) [.lit (.int .i64 s)] [] = some (.lit (.bool true), []) := by
    rw [call_func E E71]
    have h1 : (s : Int) ≤ 32767 := by omega
    have h1' : s ≤ 32767 := by omega
    simp [go_sem, ir71, h1, h1']
  have w := wrap_u64 (n := s) (by omega)
  have ho := bof_spec s 15 (by omega) (by omega)
  simp at ho
  simp [go_sem, ir44, hm, w, ho, purse_eq, List.range_succ]
/-! ### Equal rows -/
theorem eq_loop (l m : List Bool) (hll : l.length = m.length) (hl : l.length ≤ 1000000) (n1 f1 n2 f2 : Bool) (k : List Item) (R : Bool → Option (AVal × Heap))
    (hk : ∀ τ, finK 0 [.tmp 4] (run E 0 k τ []) = R true) (hR : R false = some (.lit (.bool false), [])) :
    ∀ (d i : Nat), i + d = l.length →
   finK 0 [.tmp 4] (run E 0 (.code L113_0 :: .inLoop [0, 1, 12, 13] L113_0 :: .inBlock 0 :: k) [(0, .imm n1 f1 true (l.map encLv)), (1, .imm n2 f2 true (m.map encLv)), (12, .lit (.int .i64 l.length)), (13, .lit (.int .i64 i))] []) = R (decide (l.drop i = m.drop i)) := by
  intro d
  induction d with
  | zero =>
    intro i hi
    have : i = l.length := by omega
    subst this
    have e : decide (l.drop l.length = m.drop l.length) = true := by rw [decide_eq_true_eq, List.drop_length, hll, List.drop_length]
    rw [e]
    simp [go_sem, run_codeL E L113_0.eq_1]
    exact hk _
  | succ d ih =>
    intro i hi
    have hlt : i < l.length := by omega
    have hlt2 : i < m.length := by omega
    have w := wrapIdx (i := i) (by omega)
    rw [List.drop_eq_getElem_cons hlt, List.drop_eq_getElem_cons hlt2]
    by_cases h : l[i] = m[i]
    · have e : decide (l[i] :: l.drop (i + 1) = m[i] :: m.drop (i + 1)) = decide (l.drop (i + 1) = m.drop (i + 1)) := decide_eq_decide.2 ⟨fun q => (List.cons.inj q).2, fun q => by rw [h, q]⟩
      rw [e]
      have ih2 := ih (i + 1) (by omega)
      generalize R (decide (l.drop (i + 1) = m.drop (i + 1))) = Q at ih2 ⊢
      simp at ih2 w
      simp [go_sem, run_codeL E L113_0.eq_1, hlt, hlt2, List.getElem?_eq_getElem hlt, List.getElem?_eq_getElem hlt2, encLv, h, w, purse_eq]
      rw [run_inLoop']
      simp [go_sem, purse_eq]
      exact ih2
    · have e : decide (l[i] :: l.drop (i + 1) = m[i] :: m.drop (i + 1)) = false := decide_eq_false (fun q => h (List.cons.inj q).1)
      rw [e, hR]
      have hne : ¬ lv l[i] = lv m[i] := by intro q; apply h; cases hx : l[i] <;> cases hy : m[i] <;> simp [hx, hy, lv] at q ⊢
      simp [go_sem, run_codeL E L113_0.eq_1, hlt, hlt2, List.getElem?_eq_getElem hlt, List.getElem?_eq_getElem hlt2, encLv, hne, w, purse_eq]
theorem sequal_spec (l m : List Bool) (hll : l.length = m.length) (hl : l.length ≤ 1000000) (n1 f1 n2 f2 : Bool) : call E (.func (.func 113) [] []) [.imm n1 f1 true (l.map encLv), .imm n2 f2 true (m.map encLv)] [] = some (.lit (.bool (decide (l = m))), []) := by
  rw [call_func E E113]
  have h := fun k hk => eq_loop l m hll hl n1 f1 n2 f2 k (fun b => some (.lit (.bool b), [])) hk rfl l.length 0 (by omega)
  simp at h
  simp [go_sem, ir113, hll, purse_eq]
  rw [run_inLoop']
  simp [go_sem, purse_eq]
  rw [hll] at h
  refine h _ ?_
  intro τ
  simp [go_sem]
/-- Is the sum at the end of levels theirs? -/
def rightC (m : List Bool) : Bool := decide (m.drop (m.length - 15) = bitsOf 15 (c15L (m.take (m.length - 15))))
theorem cright_spec (m : List Bool) (h15 : 15 ≤ m.length) (hl : m.length ≤ 1000000) (nl fu : Bool) : call E (.func (.func 101) [] []) [.imm nl fu true (m.map encLv)] [] = some (.lit (.bool (rightC m)), []) := by
  rw [call_func E E101]
  have hc := check_lv m (by omega) nl fu
  have w : IntKind.wrap .i64 ((m.length : Int) - 15) = ((m.length - 15 : Nat) : Int) := by rw [wrap64 (by omega) (by omega)]; omega
  have hr := rowsLv m
  have hS := csum_spec (m.take (m.length - 15)) (by simp; omega) nl
  have hB := cbits_spec (c15L (m.take (m.length - 15))) (c15L_lt _)
  have hE := fun f1 f2 => sequal_spec (m.drop (m.length - 15)) (bitsOf 15 (c15L (m.take (m.length - 15)))) (by rw [bitsOf_length, List.length_drop]; omega) (by simp; omega) nl f1 false f2
  rw [List.map_take] at hS
  rw [List.map_drop] at hE
  unfold rightC
  have h0 : ¬ ((m.length - 15 : Nat) : Int) < 0 := by omega
  have hle : m.length - 15 ≤ m.length := by omega
  have hE2 := hE
  generalize decide (m.drop (m.length - 15) = bitsOf 15 (c15L (m.take (m.length - 15)))) = D at *
  generalize c15L (m.take (m.length - 15)) = s at *
  generalize m.length - 15 = j at *
  have hE1 := hE fu false
  have hcw : cutE ((bitsOf 15 s).map encLv) 0 15 = (bitsOf 15 s).map encLv := cutE_whole (by simp [bitsOf_length])
  simp [go_sem, ir101, hc, w, hr, hle, h0, take_allLv, bitsOf_length, hcw, hS, hB, hE1, purse_eq, List.range_succ]
end Go.AM.R1
open Go Go.AM
namespace Go.AM.R1
/-! ### Fields -/
def extF (m : List Bool) : Bool := (m[13]?).getD false
def dataF (m : List Bool) : Nat := if extF m = true then 39 else 19
def ctrlF (m : List Bool) : Nat := if extF m = true then 33 else 14
def rtrF (m : List Bool) : Bool := (m[if extF m = true then 32 else 12]?).getD false
def sizeF (m : List Bool) : Nat := min (valB ((m.take (dataF m)).drop (dataF m - 4))) 8
def sumF (m : List Bool) : Nat := if rtrF m = true then dataF m else dataF m + 8 * sizeF m
def encHead (e r : Bool) (c d s : Nat) : List AVal := [.lit (.bool e), .lit (.bool r), .lit (.int .i64 c), .lit (.int .i64 d), .lit (.int .i64 s)]
theorem sumF_ge (m : List Bool) : dataF m ≤ sumF m ∧ sumF m ≤ dataF m + 64 ∧ (dataF m = 19 ∨ dataF m = 39) := by
  unfold sumF sizeF
  have : dataF m = 19 ∨ dataF m = 39 := by unfold dataF; split <;> omega
  split <;> omega
theorem read1 (m : List Bool) (h : m.length ≤ 13) (nl fu : Bool) : call E (.func (.func 98) [] []) [.imm nl fu true (m.map encLv)] [] = some (.tup [.agg (encHead false false 0 0 0), .lit (.bool false)], []) := by
  rw [call_func E E98]
  have h1 : (m.length : Int) ≤ 13 := by omega
  simp [go_sem, ir98, h1, encHead, purse_eq, List.range_succ]
theorem read2 (m : List Bool) (h : 14 ≤ m.length) (h2 : m.length < dataF m) (nl fu : Bool) : call E (.func (.func 98) [] []) [.imm nl fu true (m.map encLv)] [] = some (.tup [.agg (encHead (extF m) false (ctrlF m) (dataF m) 0), .lit (.bool false)], []) := by
  rw [call_func E E98]
  have h1 : ¬ (m.length : Int) ≤ 13 := by omega
  have h13 : 13 < m.length := by omega
  have e : extF m = m[13] := by unfold extF; rw [List.getElem?_eq_getElem h13]; rfl
  unfold dataF at h2
  unfold ctrlF dataF
  rw [e] at h2 ⊢
  cases hx : m[13]
  · have h3 : (m.length : Int) < 19 := by simp [hx] at h2; omega
    simp [go_sem, ir98, h1, h3, List.getElem?_eq_getElem h13, encLv, hx, lv, encHead, purse_eq, List.range_succ]
  · have h3 : (m.length : Int) < 39 := by simp [hx] at h2; omega
    simp [go_sem, ir98, h1, h3, List.getElem?_eq_getElem h13, encLv, hx, lv, encHead, purse_eq, List.range_succ]
theorem read3 (m : List Bool) (h : dataF m ≤ m.length) (hl : m.length ≤ 1000000) (nl fu : Bool) : call E (.func (.func 98) [] []) [.imm nl fu true (m.map encLv)] [] = some (.tup [.agg (encHead (extF m) (rtrF m) (ctrlF m) (dataF m) (sizeF m)), .lit (.bool true)], []) := by
  rw [call_func E E98]
  have hd : dataF m = 19 ∨ dataF m = 39 := by unfold dataF; split <;> omega
  have h1 : ¬ (m.length : Int) ≤ 13 := by omega
  have h13 : 13 < m.length := by omega
  have e : extF m = m[13] := by unfold extF; rw [List.getElem?_eq_getElem h13]; rfl
  have hr := rowsLv m
  have hv := fun fu => value_spec ((m.take (dataF m)).drop (dataF m - 4)) (by simp; omega) nl fu
  have hvb := valB_lt ((m.take (dataF m)).drop (dataF m - 4))
  rw [show ((m.take (dataF m)).drop (dataF m - 4)).length = 4 from by simp; omega] at hvb
  rw [List.map_drop, List.map_take] at hv
  have w : IntKind.wrap .i64 (valB ((m.take (dataF m)).drop (dataF m - 4)) : Int) = valB ((m.take (dataF m)).drop (dataF m - 4)) := wrap64 (by omega) (by omega)
  have hs : (if (8 : Int) < (valB ((m.take (dataF m)).drop (dataF m - 4)) : Int) then (8 : Int) else (valB ((m.take (dataF m)).drop (dataF m - 4)) : Int)) = (sizeF m : Int) := by
    unfold sizeF; split <;> omega
  have hs2 : (if 8 < valB ((m.take (dataF m)).drop (dataF m - 4)) then (8 : Int) else (valB ((m.take (dataF m)).drop (dataF m - 4)) : Int)) = (sizeF m : Int) := by
    unfold sizeF; split <;> omega
  have hF1 := hv (fu && decide (dataF m = m.length))
  generalize valB ((m.take (dataF m)).drop (dataF m - 4)) = v at *
  generalize sizeF m = z at *
  unfold rtrF ctrlF
  have hx : extF m = true ↔ dataF m = 39 := by unfold dataF; split <;> simp_all
  cases hxx : m[13]
  · have hd19 : dataF m = 19 := by rcases hd with q | q; exact q; rw [e, hxx] at hx; simp at hx; omega
    have h3 : ¬ (m.length : Int) < 19 := by omega
    have h12 : 12 < m.length := by omega
    have h19 : 19 ≤ m.length := by omega
    rw [hd19] at hF1
    have e' : extF m = false := by rw [e, hxx]
    rw [e', hd19]
    have ws : IntKind.wrap .i64 15 = 15 := rfl
    simp [go_sem, ir98, h1, h3, List.getElem?_eq_getElem h13, List.getElem?_eq_getElem h12, encLv, hxx, lv, encHead, hr, h19, ws, hF1, w, hs, hs2, purse_eq, List.range_succ]
  · have hd39 : dataF m = 39 := by rw [e, hxx] at hx; simpa using hx
    have h3 : ¬ (m.length : Int) < 39 := by omega
    have h32 : 32 < m.length := by omega
    have h39 : 39 ≤ m.length := by omega
    rw [hd39] at hF1
    have e' : extF m = true := by rw [e, hxx]
    rw [e', hd39]
    have ws : IntKind.wrap .i64 35 = 35 := rfl
    simp [go_sem, ir98, h1, h3, List.getElem?_eq_getElem h13, List.getElem?_eq_getElem h32, encLv, hxx, lv, encHead, hr, h39, ws, hF1, w, hs, hs2, purse_eq, List.range_succ]
theorem hsum_spec (e r : Bool) (c d s : Nat) (hd : d ≤ 1000) (hs : s ≤ 8) : call E (.func (.func 99) [] []) [.agg (encHead e r c d s)] [] = some (.lit (.int .i64 ((if r = true then d else d + 8 * s : Nat))), []) := by
  rw [call_func E E99]
  have w1 : IntKind.wrap .i64 (8 * (s : Int)) = 8 * s := wrap64 (by omega) (by omega)
  have w2 : IntKind.wrap .i64 ((d : Int) + 8 * (s : Int)) = d + 8 * s := wrap64 (by omega) (by omega)
  cases r <;> simp [go_sem, ir99, encHead, w1, w2, purse_eq, List.range_succ]
/-- The field of the next level, and which one of it. -/
def nextF (m : List Bool) : Nat × Nat :=
  if m.length = 0 then (0, 0)
  else if m.length ≤ 13 ∨ extF m = true ∧ m.length ≤ 32 then (1, m.length - 1)
  else if m.length < dataF m then (2, m.length - ctrlF m)
  else if m.length < sumF m then (3, m.length - dataF m)
  else if m.length < sumF m + 15 then (4, m.length - sumF m)
  else if m.length < sumF m + 16 then (5, 0)
  else if m.length < sumF m + 17 then (6, 0)
  else if m.length < sumF m + 18 then (7, 0)
  else if m.length < sumF m + 25 then (8, m.length - (sumF m + 18))
  else (9, 0)
theorem next_small (m : List Bool) (h : m.length < dataF m) (nl fu : Bool) : call E (.func (.func 77) [] []) [.imm nl fu true (m.map encLv)] [] = some (.tup [.lit (.int .i64 (nextF m).1), .lit (.int .i64 (nextF m).2), .lit (.int .i64 0)], []) := by
  rw [call_func E E77]
  have hd : dataF m = 19 ∨ dataF m = 39 := by unfold dataF; split <;> omega
  have hc := check_lv m (by omega) nl fu
  by_cases h0 : m.length = 0
  · have hr := read1 m (by omega) nl fu
    have hn : nextF m = (0, 0) := by unfold nextF; rw [if_pos h0]
    have h0' : (m.length : Int) = 0 := by omega
    have hm : m = [] := List.length_eq_zero_iff.1 h0
    subst hm
    rw [hn]
    simp [encHead] at hr hc
    simp [go_sem, ir77, hc, hr, purse_eq, List.range_succ]
  · have h0' : ¬ (m.length : Int) = 0 := by omega
    have hmn : m ≠ [] := by intro q; subst q; simp at h0
    by_cases h13 : m.length ≤ 13
    · have hr := read1 m h13 nl fu
      have hn : nextF m = (1, m.length - 1) := by unfold nextF; rw [if_neg h0, if_pos (.inl h13)]
      rw [hn]
      have h13' : (m.length : Int) ≤ 13 := by omega
      have w : IntKind.wrap .i64 ((m.length : Int) - 1) = ((m.length - 1 : Nat) : Int) := by rw [wrap64 (by omega) (by omega)]; omega
      simp [encHead] at hr
      simp [go_sem, ir77, hc, hr, hmn, h0, h13', w, purse_eq, List.range_succ]
    · have hr := read2 m (by omega) h nl fu
      have h13' : ¬ (m.length : Int) ≤ 13 := by omega
      by_cases h32 : extF m = true ∧ m.length ≤ 32
      · have hn : nextF m = (1, m.length - 1) := by unfold nextF; rw [if_neg h0, if_pos (.inr h32)]
        rw [hn]
        have h32' : (m.length : Int) ≤ 32 := by omega
        have w : IntKind.wrap .i64 ((m.length : Int) - 1) = ((m.length - 1 : Nat) : Int) := by rw [wrap64 (by omega) (by omega)]; omega
        simp [encHead, h32.1] at hr
        simp [go_sem, ir77, hc, hr, hmn, h0, h13', h32', w, purse_eq, List.range_succ]
      · have hn : nextF m = (2, m.length - ctrlF m) := by unfold nextF; rw [if_neg h0, if_neg (by rintro (q | q); exact h13 q; exact h32 q), if_pos h]
        rw [hn]
        have hcl : ctrlF m ≤ m.length := by
          unfold ctrlF; split
          · rename_i q; have : ¬ m.length ≤ 32 := fun q2 => h32 ⟨q, q2⟩; omega
          · omega
        have w : IntKind.wrap .i64 ((m.length : Int) - (ctrlF m : Int)) = ((m.length - ctrlF m : Nat) : Int) := by rw [wrap64 (by omega) (by omega)]; omega
        cases hx : extF m
        · simp [encHead, hx] at hr
          simp [go_sem, ir77, hc, hr, hmn, h0, h13', w, purse_eq, List.range_succ]
        · have h32' : ¬ (m.length : Int) ≤ 32 := by have : ¬ m.length ≤ 32 := fun q2 => h32 ⟨hx, q2⟩; omega
          simp [encHead, hx] at hr
          simp [go_sem, ir77, hc, hr, hmn, h0, h13', h32', w, purse_eq, List.range_succ]
set_option maxHeartbeats 4000000 in
theorem next_whole (m : List Bool) (h : dataF m ≤ m.length) (hl : m.length ≤ sumF m + 25) (nl fu : Bool) : call E (.func (.func 77) [] []) [.imm nl fu true (m.map encLv)] [] = some (.tup [.lit (.int .i64 (nextF m).1), .lit (.int .i64 (nextF m).2), .lit (.int .i64 0)], []) := by
  rw [call_func E E77]
  obtain ⟨s1, s2, hd⟩ := sumF_ge m
  have hc := check_lv m (by omega) nl fu
  have hr := read3 m h (by omega) nl fu
  have hS := hsum_spec (extF m) (rtrF m) (ctrlF m) (dataF m) (sizeF m) (by omega) (by unfold sizeF; omega)
  rw [show (if rtrF m = true then dataF m else dataF m + 8 * sizeF m) = sumF m from rfl] at hS
  have h0 : ¬ m.length = 0 := by omega
  have hmn : m ≠ [] := by intro q; subst q; simp at h0
  have h13 : ¬ (m.length : Int) ≤ 13 := by omega
  have hx32 : ¬ (extF m = true ∧ m.length ≤ 32) := by
    rintro ⟨q1, q2⟩
    have : dataF m = 39 := by unfold dataF; rw [if_pos q1]
    omega
  have hn : nextF m = if m.length < sumF m then (3, m.length - dataF m)
      else if m.length < sumF m + 15 then (4, m.length - sumF m)
      else if m.length < sumF m + 16 then (5, 0) else if m.length < sumF m + 17 then (6, 0) else if m.length < sumF m + 18 then (7, 0)
      else if m.length < sumF m + 25 then (8, m.length - (sumF m + 18)) else (9, 0) := by
    unfold nextF
    rw [if_neg h0, if_neg (by rintro (q | q); omega; exact hx32 q), if_neg (by omega)]
  rw [hn]
  clear hn
  have hx32' : extF m = true → ¬ (m.length : Int) ≤ 32 := fun q1 q2 => hx32 ⟨q1, by omega⟩
  clear hx32
  generalize extF m = e at *
  generalize rtrF m = r at *
  generalize ctrlF m = c at *
  generalize dataF m = d at *
  generalize sizeF m = z at *
  generalize sumF m = s at *
  have w0 : IntKind.wrap .i64 ((s : Int) - (d : Int)) = s - d := wrap64 (by omega) (by omega)
  have w1 : IntKind.wrap .i64 (d : Int) = d := wrap64 (by omega) (by omega)
  have w2 : IntKind.wrap .i64 ((d : Int) + ((s : Int) - (d : Int))) = s := by rw [wrap64 (by omega) (by omega)]; omega
  have w3 : IntKind.wrap .i64 (s : Int) = s := wrap64 (by omega) (by omega)
  have w4 : IntKind.wrap .i64 ((s : Int) + 15) = s + 15 := wrap64 (by omega) (by omega)
  have w5 : IntKind.wrap .i64 ((s : Int) + 15 + 1) = s + 16 := by rw [wrap64 (by omega) (by omega)]; omega
  have w6 : IntKind.wrap .i64 ((s : Int) + 16 + 1) = s + 17 := by rw [wrap64 (by omega) (by omega)]; omega
  have w7 : IntKind.wrap .i64 ((s : Int) + 17 + 1) = s + 18 := by rw [wrap64 (by omega) (by omega)]; omega
  have w8 : IntKind.wrap .i64 ((s : Int) + 18 + 7) = s + 25 := by rw [wrap64 (by omega) (by omega)]; omega
  have v3 : IntKind.wrap .i64 ((m.length : Int) - (d : Int)) = ((m.length - d : Nat) : Int) := by rw [wrap64 (by omega) (by omega)]; omega
  simp [encHead] at hr hS
  have q1 : IntKind.wrap .i64 1 = 1 := rfl
  have q2 : IntKind.wrap .i64 2 = 2 := rfl
  have q3 : IntKind.wrap .i64 3 = 3 := rfl
  have q4 : IntKind.wrap .i64 4 = 4 := rfl
  have q5 : IntKind.wrap .i64 5 = 5 := rfl
  have q6 : IntKind.wrap .i64 6 = 6 := rfl
  have q7 : IntKind.wrap .i64 7 = 7 := rfl
  have q8 : IntKind.wrap .i64 8 = 8 := rfl
  have q9 : IntKind.wrap .i64 9 = 9 := rfl
  have g0 : ¬ m.length < d := by omega
  have g9 : ¬ (s : Int) + 25 < (m.length : Int) := by omega
  have vv : IntKind.wrap .i64 0 = 0 := rfl
  by_cases c1 : m.length < s
  · simp only [if_pos c1]
    cases e
    · simp [go_sem, ir77, run_codeL E L77_0.eq_1, aop_idxV, idxVG_agg, run_inLoop', hc, hr, hS, hmn, h0, g0, q1, q2, q3, q4, q5, q6, q7, q8, q9, g9, c1, h13, w0, w1, w2, w3, w4, w5, w6, w7, w8, v3, vv, purse_eq, List.range_succ]
    · have h32 := hx32' rfl
      simp [go_sem, ir77, run_codeL E L77_0.eq_1, aop_idxV, idxVG_agg, run_inLoop', hc, hr, hS, hmn, h0, g0, q1, q2, q3, q4, q5, q6, q7, q8, q9, g9, c1, h13, h32, w0, w1, w2, w3, w4, w5, w6, w7, w8, v3, vv, purse_eq, List.range_succ]
  · simp only [if_neg c1]
    by_cases c2 : m.length < s + 15
    · simp only [if_pos c2]
      have d2 : (m.length : Int) < (s : Int) + 15 := by omega
      have vv : IntKind.wrap .i64 ((m.length : Int) - (s : Int)) = ((m.length - s : Nat) : Int) := by rw [wrap64 (by omega) (by omega)]; omega
      cases e
      · simp [go_sem, ir77, run_codeL E L77_0.eq_1, aop_idxV, idxVG_agg, run_inLoop', hc, hr, hS, hmn, h0, g0, q1, q2, q3, q4, q5, q6, q7, q8, q9, g9, c1, d2, h13, w0, w1, w2, w3, w4, w5, w6, w7, w8, v3, vv, purse_eq, List.range_succ]
      · have h32 := hx32' rfl
        simp [go_sem, ir77, run_codeL E L77_0.eq_1, aop_idxV, idxVG_agg, run_inLoop', hc, hr, hS, hmn, h0, g0, q1, q2, q3, q4, q5, q6, q7, q8, q9, g9, c1, d2, h13, h32, w0, w1, w2, w3, w4, w5, w6, w7, w8, v3, vv, purse_eq, List.range_succ]
    · simp only [if_neg c2]
      have d2 : ¬ (m.length : Int) < (s : Int) + 15 := by omega
      by_cases c3 : m.length < s + 16
      · simp only [if_pos c3]
        have d3 : (m.length : Int) < (s : Int) + 16 := by omega
        have vv : IntKind.wrap .i64 ((m.length : Int) - ((s : Int) + 15)) = 0 := by rw [wrap64 (by omega) (by omega)]; omega
        cases e
        · simp [go_sem, ir77, run_codeL E L77_0.eq_1, aop_idxV, idxVG_agg, run_inLoop', hc, hr, hS, hmn, h0, g0, q1, q2, q3, q4, q5, q6, q7, q8, q9, g9, c1, d2, d3, h13, w0, w1, w2, w3, w4, w5, w6, w7, w8, v3, vv, purse_eq, List.range_succ]
        · have h32 := hx32' rfl
          simp [go_sem, ir77, run_codeL E L77_0.eq_1, aop_idxV, idxVG_agg, run_inLoop', hc, hr, hS, hmn, h0, g0, q1, q2, q3, q4, q5, q6, q7, q8, q9, g9, c1, d2, d3, h13, h32, w0, w1, w2, w3, w4, w5, w6, w7, w8, v3, vv, purse_eq, List.range_succ]
      · simp only [if_neg c3]
        have d3 : ¬ (m.length : Int) < (s : Int) + 16 := by omega
        by_cases c4 : m.length < s + 17
        · simp only [if_pos c4]
          have d4 : (m.length : Int) < (s : Int) + 17 := by omega
          have vv : IntKind.wrap .i64 ((m.length : Int) - ((s : Int) + 16)) = 0 := by rw [wrap64 (by omega) (by omega)]; omega
          cases e
          · simp [go_sem, ir77, run_codeL E L77_0.eq_1, aop_idxV, idxVG_agg, run_inLoop', hc, hr, hS, hmn, h0, g0, q1, q2, q3, q4, q5, q6, q7, q8, q9, g9, c1, d2, d3, d4, h13, w0, w1, w2, w3, w4, w5, w6, w7, w8, v3, vv, purse_eq, List.range_succ]
          · have h32 := hx32' rfl
            simp [go_sem, ir77, run_codeL E L77_0.eq_1, aop_idxV, idxVG_agg, run_inLoop', hc, hr, hS, hmn, h0, g0, q1, q2, q3, q4, q5, q6, q7, q8, q9, g9, c1, d2, d3, d4, h13, h32, w0, w1, w2, w3, w4, w5, w6, w7, w8, v3, vv, purse_eq, List.range_succ]
        · simp only [if_neg c4]
          have d4 : ¬ (m.length : Int) < (s : Int) + 17 := by omega
          by_cases c5 : m.length < s + 18
          · simp only [if_pos c5]
            have d5 : (m.length : Int) < (s : Int) + 18 := by omega
            have vv : IntKind.wrap .i64 ((m.length : Int) - ((s : Int) + 17)) = 0 := by rw [wrap64 (by omega) (by omega)]; omega
            cases e
            · simp [go_sem, ir77, run_codeL E L77_0.eq_1, aop_idxV, idxVG_agg, run_inLoop', hc, hr, hS, hmn, h0, g0, q1, q2, q3, q4, q5, q6, q7, q8, q9, g9, c1, d2, d3, d4, d5, h13, w0, w1, w2, w3, w4, w5, w6, w7, w8, v3, vv, purse_eq, List.range_succ]
            · have h32 := hx32' rfl
              simp [go_sem, ir77, run_codeL E L77_0.eq_1, aop_idxV, idxVG_agg, run_inLoop', hc, hr, hS, hmn, h0, g0, q1, q2, q3, q4, q5, q6, q7, q8, q9, g9, c1, d2, d3, d4, d5, h13, h32, w0, w1, w2, w3, w4, w5, w6, w7, w8, v3, vv, purse_eq, List.range_succ]
          · simp only [if_neg c5]
            have d5 : ¬ (m.length : Int) < (s : Int) + 18 := by omega
            by_cases c6 : m.length < s + 25
            · simp only [if_pos c6]
              have d6 : (m.length : Int) < (s : Int) + 25 := by omega
              have vv : IntKind.wrap .i64 ((m.length : Int) - ((s : Int) + 18)) = ((m.length - (s + 18) : Nat) : Int) := by rw [wrap64 (by omega) (by omega)]; omega
              cases e
              · simp [go_sem, ir77, run_codeL E L77_0.eq_1, aop_idxV, idxVG_agg, run_inLoop', hc, hr, hS, hmn, h0, g0, q1, q2, q3, q4, q5, q6, q7, q8, q9, g9, c1, d2, d3, d4, d5, d6, h13, w0, w1, w2, w3, w4, w5, w6, w7, w8, v3, vv, purse_eq, List.range_succ]
              · have h32 := hx32' rfl
                simp [go_sem, ir77, run_codeL E L77_0.eq_1, aop_idxV, idxVG_agg, run_inLoop', hc, hr, hS, hmn, h0, g0, q1, q2, q3, q4, q5, q6, q7, q8, q9, g9, c1, d2, d3, d4, d5, d6, h13, h32, w0, w1, w2, w3, w4, w5, w6, w7, w8, v3, vv, purse_eq, List.range_succ]
            · simp only [if_neg c6]
              have d6 : ¬ (m.length : Int) < (s : Int) + 25 := by omega
              cases e
              · simp [go_sem, ir77, run_codeL E L77_0.eq_1, aop_idxV, idxVG_agg, run_inLoop', hc, hr, hS, hmn, h0, g0, q1, q2, q3, q4, q5, q6, q7, q8, q9, g9, c1, d2, d3, d4, d5, d6, h13, w0, w1, w2, w3, w4, w5, w6, w7, w8, v3, vv, purse_eq, List.range_succ]
              · have h32 := hx32' rfl
                simp [go_sem, ir77, run_codeL E L77_0.eq_1, aop_idxV, idxVG_agg, run_inLoop', hc, hr, hS, hmn, h0, g0, q1, q2, q3, q4, q5, q6, q7, q8, q9, g9, c1, d2, d3, d4, d5, d6, h13, h32, w0, w1, w2, w3, w4, w5, w6, w7, w8, v3, vv, purse_eq, List.range_succ]
end Go.AM.R1
