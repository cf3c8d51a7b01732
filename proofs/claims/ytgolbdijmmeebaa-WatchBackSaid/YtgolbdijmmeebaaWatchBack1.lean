/- The law WatchBack of package magnetolaw19 returns true for every input, and its arguments read as before. -/
import Derived.Test.YtgolbdijmmeebaaRows
import Derived.Test.YtgolbdijmmeebaaAm3
import Derived.Laws.Strings
set_option linter.unusedVariables false
set_option linter.unusedSimpArgs false
open Go Go.AM Go.Proofs
namespace Go.AM.R1
/- magnetolaw19.WatchBack -/
def L9_0 : ICode := (.seq (.seq (.reg [⟨none, some 28, .copy (.t 7)⟩, ⟨none, some 29, .copy (.t 0)⟩, ⟨none, some 30, .len (.t 29)⟩, ⟨none, some 31, .bin .lss (.t 28) (.t 30)⟩] [] []) (.cond (.t 31) .skip (.exit 0))) (.seq (.block 1 (.seq (.reg [⟨none, some 34, .copy (.t 1)⟩, ⟨none, some 35, .copy (.t 7)⟩, ⟨none, some 36, .idxS 1 (.t 34) (.t 35)⟩, ⟨none, some 37, .load false 1 (.t 36)⟩, ⟨none, some 38, .bin .rem (.t 37) (.c (.lit (.int .i64 20)))⟩, ⟨none, some 39, .bin .add (.t 38) (.c (.lit (.int .i64 20)))⟩, ⟨none, some 40, .bin .rem (.t 39) (.c (.lit (.int .i64 20)))⟩, ⟨none, some 8, .copy (.t 40)⟩] [] []) (.seq (.reg [⟨none, some 42, .copy (.t 0)⟩, ⟨none, some 43, .copy (.t 7)⟩, ⟨none, some 44, .idxS 12 (.t 42) (.t 43)⟩, ⟨none, some 45, .load true 12 (.t 44)⟩, ⟨none, some 46, .copy (.t 8)⟩, ⟨none, some 47, .bin .rem (.t 46) (.c (.lit (.int .i64 2)))⟩, ⟨none, some 48, .bin .eql (.t 47) (.c (.lit (.int .i64 0)))⟩, ⟨none, some 49, .call 13 [(.t 45), (.t 48)]⟩, ⟨none, some 41, .copy (.t 49)⟩, ⟨none, some 50, .extract (.t 41) 0⟩, ⟨none, some 51, .extract (.t 41) 1⟩, ⟨none, some 9, .copy (.t 50)⟩, ⟨none, some 10, .copy (.t 51)⟩] [] []) (.seq (.seq (.reg [⟨none, some 52, .copy (.t 10)⟩, ⟨none, some 53, .bin .neq (.t 52) (.c (.lit (.int .i64 0)))⟩] [] []) (.cond (.t 53) (.seq (.reg [⟨none, some 54, .copy (.t 0)⟩, ⟨none, some 55, .copy (.t 7)⟩, ⟨none, some 56, .idxS 12 (.t 54) (.t 55)⟩, ⟨none, some 57, .load true 12 (.t 56)⟩, ⟨none, some 58, .call 53 [(.t 57)]⟩, ⟨none, some 59, .copy (.t 10)⟩, ⟨none, some 60, .bin .eql (.t 58) (.t 59)⟩, ⟨none, some 61, .copy (.t 60)⟩, ⟨some (61, true), some 62, .call 44 []⟩, ⟨none, some 63, .pick (.t 61) (.t 62) (.c (.lit (.bool false)))⟩, ⟨none, some 4, .copy (.t 63)⟩] [] []) .ret) .skip)) (.seq (.reg [⟨none, some 64, .copy (.t 5)⟩, ⟨none, some 65, .copy (.t 8)⟩, ⟨none, some 66, .bin .add (.c (.lit (.int .i64 3))) (.t 65)⟩, ⟨none, some 67, .call 45 [(.t 66)]⟩, ⟨none, some 68, .append true 1 8 (.t 64) (.t 67)⟩, ⟨none, some 5, .copy (.t 68)⟩] [] []) (.seq (.reg [⟨none, some 69, .copy (.t 6)⟩, ⟨none, some 70, .copy (.t 5)⟩, ⟨none, some 71, .len (.t 70)⟩, ⟨none, some 72, .copy (.t 5)⟩, ⟨none, some 73, .len (.t 72)⟩, ⟨none, some 74, .copy (.t 9)⟩, ⟨none, some 75, .len (.t 74)⟩, ⟨none, some 76, .bin .add (.t 73) (.t 75)⟩, ⟨none, some 77, .bin .sub (.t 76) (.c (.lit (.int .i64 1)))⟩, ⟨none, some 78, .copy (.t 0)⟩, ⟨none, some 79, .copy (.t 7)⟩, ⟨none, some 80, .idxS 12 (.t 78) (.t 79)⟩, ⟨none, some 81, .load true 12 (.t 80)⟩, ⟨none, some 82, .copy (.t 8)⟩, ⟨none, some 83, .bin .rem (.t 82) (.c (.lit (.int .i64 2)))⟩, ⟨none, some 84, .bin .eql (.t 83) (.c (.lit (.int .i64 0)))⟩, ⟨none, some 85, .build [(.lit (.int .i64 0)), (.lit (.int .i64 0)), (.lit (.int .i64 0)), (.lit (.int .i64 0)), (.lit (.bool false)), (.lit (.bool false)), (.lit (.int .i64 0)), (.lit (.int .u8 0)), (.lit (.int .u8 0)), (.lit (.int .u8 0)), (.lit (.int .u8 0)), (.lit (.int .u8 0)), (.lit (.int .u8 0)), (.lit (.int .u8 0)), (.lit (.int .u8 0)), (.lit (.bool false))] [(0, 1, (.c (.lit (.int .i64 1)))), (1, 1, (.t 71)), (2, 1, (.t 77)), (3, 12, (.t 81)), (15, 1, (.t 84))]⟩, ⟨none, some 86, .mkSlice true 16 [(.lit (.int .i64 0)), (.lit (.int .i64 0)), (.lit (.int .i64 0)), (.lit (.int .i64 0)), (.lit (.bool false)), (.lit (.bool false)), (.lit (.int .i64 0)), (.lit (.int .u8 0)), (.lit (.int .u8 0)), (.lit (.int .u8 0)), (.lit (.int .u8 0)), (.lit (.int .u8 0)), (.lit (.int .u8 0)), (.lit (.int .u8 0)), (.lit (.int .u8 0)), (.lit (.bool false))] 1 [(0, (.t 85))]⟩, ⟨none, some 87, .append true 16 64 (.t 69) (.t 86)⟩, ⟨none, some 6, .copy (.t 87)⟩] [] []) (.reg [⟨none, some 88, .copy (.t 5)⟩, ⟨none, some 89, .copy (.t 9)⟩, ⟨none, some 90, .append true 1 8 (.t 88) (.t 89)⟩, ⟨none, some 5, .copy (.t 90)⟩] [] []))))))) (.reg [⟨none, some 32, .copy (.t 7)⟩, ⟨none, some 33, .bin .add (.t 32) (.c (.lit (.int .i64 1)))⟩, ⟨none, some 7, .copy (.t 33)⟩] [] [])))
def L9_1 : ICode := (.seq (.seq (.reg [⟨none, some 114, .copy (.t 15)⟩, ⟨none, some 115, .copy (.t 0)⟩, ⟨none, some 116, .len (.t 115)⟩, ⟨none, some 117, .bin .lss (.t 114) (.t 116)⟩] [] []) (.cond (.t 117) .skip (.exit 2))) (.seq (.block 3 (.seq (.reg [⟨none, some 120, .copy (.t 13)⟩, ⟨none, some 121, .copy (.t 15)⟩, ⟨none, some 122, .idxS 12 (.t 120) (.t 121)⟩, ⟨none, some 123, .load true 12 (.t 122)⟩, ⟨none, some 124, .copy (.t 0)⟩, ⟨none, some 125, .copy (.t 15)⟩, ⟨none, some 126, .idxS 12 (.t 124) (.t 125)⟩, ⟨none, some 127, .load true 12 (.t 126)⟩, ⟨none, some 128, .eqA true [(0, .i), (1, .b), (2, .b), (3, .i), (4, .i), (5, .i), (6, .i), (7, .i), (8, .i), (9, .i), (10, .i), (11, .i)] (.t 123) (.t 127)⟩] [] []) (.cond (.t 128) (.seq (.reg [⟨none, some 4, .copy (.c (.lit (.bool false)))⟩] [] []) .ret) .skip))) (.reg [⟨none, some 118, .copy (.t 15)⟩, ⟨none, some 119, .bin .add (.t 118) (.c (.lit (.int .i64 1)))⟩, ⟨none, some 15, .copy (.t 119)⟩] [] [])))
def ir9 : IFn := ⟨(.seq (.reg [⟨none, some 4, .copy (.c (.lit (.bool false)))⟩] [] []) (.seq (.seq (.reg [⟨none, some 16, .copy (.t 0)⟩, ⟨none, some 17, .len (.t 16)⟩, ⟨none, some 18, .bin .gtr (.t 17) (.c (.lit (.int .i64 6)))⟩, ⟨none, some 19, .copy (.t 18)⟩, ⟨some (19, false), some 20, .copy (.t 1)⟩, ⟨some (19, false), some 21, .len (.t 20)⟩, ⟨some (19, false), some 22, .copy (.t 0)⟩, ⟨some (19, false), some 23, .len (.t 22)⟩, ⟨some (19, false), some 24, .bin .lss (.t 21) (.t 23)⟩, ⟨none, some 25, .pick (.t 19) (.c (.lit (.bool true))) (.t 24)⟩] [] []) (.cond (.t 25) (.seq (.reg [⟨none, some 26, .call 44 []⟩, ⟨none, some 4, .copy (.t 26)⟩] [] []) .ret) .skip)) (.seq (.reg [⟨none, some 27, .call 45 [(.c (.lit (.int .i64 8)))]⟩, ⟨none, some 5, .copy (.t 27)⟩] [] []) (.seq (.reg [⟨none, some 6, .copy (.c nilS)⟩] [] []) (.seq (.seq (.reg [⟨none, some 7, .copy (.c (.lit (.int .i64 0)))⟩] [] []) (.block 0 (.loop [1000000, 0, 1, 5, 6, 7] L9_0))) (.seq (.reg [⟨none, some 92, .copy (.t 5)⟩, ⟨none, some 93, .call 46 [(.t 92)]⟩, ⟨none, some 91, .copy (.t 93)⟩, ⟨none, some 94, .extract (.t 91) 0⟩, ⟨none, some 95, .extract (.t 91) 1⟩, ⟨none, some 11, .copy (.t 94)⟩, ⟨none, some 12, .copy (.t 95)⟩] [] []) (.seq (.reg [⟨none, some 97, .copy (.t 5)⟩, ⟨none, some 98, .call 51 [(.t 97)]⟩, ⟨none, some 96, .copy (.t 98)⟩, ⟨none, some 99, .extract (.t 96) 0⟩, ⟨none, some 100, .extract (.t 96) 1⟩, ⟨none, some 13, .copy (.t 99)⟩, ⟨none, some 14, .copy (.t 100)⟩] [] []) (.seq (.seq (.reg [⟨none, some 101, .copy (.t 12)⟩, ⟨none, some 102, .bin .neq (.t 101) (.c (.lit (.int .i64 0)))⟩, ⟨none, some 103, .copy (.t 102)⟩, ⟨some (103, false), some 104, .copy (.t 14)⟩, ⟨some (103, false), some 105, .bin .neq (.t 104) (.c (.lit (.int .i64 0)))⟩, ⟨none, some 106, .pick (.t 103) (.c (.lit (.bool true))) (.t 105)⟩, ⟨none, some 107, .copy (.t 106)⟩, ⟨some (107, false), some 108, .copy (.t 13)⟩, ⟨some (107, false), some 109, .len (.t 108)⟩, ⟨some (107, false), some 110, .copy (.t 0)⟩, ⟨some (107, false), some 111, .len (.t 110)⟩, ⟨some (107, false), some 112, .bin .neq (.t 109) (.t 111)⟩, ⟨none, some 113, .pick (.t 107) (.c (.lit (.bool true))) (.t 112)⟩] [] []) (.cond (.t 113) (.seq (.reg [⟨none, some 4, .copy (.c (.lit (.bool false)))⟩] [] []) .ret) .skip)) (.seq (.seq (.reg [⟨none, some 15, .copy (.c (.lit (.int .i64 0)))⟩] [] []) (.block 2 (.loop [1000000, 0, 6, 11, 13, 15] L9_1))) (.seq (.reg [⟨none, some 129, .copy (.t 11)⟩, ⟨none, some 130, .copy (.t 6)⟩, ⟨none, some 131, .call 47 [(.t 129), (.t 130)]⟩, ⟨none, some 132, .copy (.t 131)⟩, ⟨some (132, true), some 133, .call 44 []⟩, ⟨none, some 134, .pick (.t 132) (.t 133) (.c (.lit (.bool false)))⟩, ⟨none, some 4, .copy (.t 134)⟩] [] []) .ret)))))))))), [.tmp 4]⟩
/- codec.Encode -/
def ir13 : IFn := ⟨(.seq (.reg [⟨none, some 2, .box 12 (.t 0)⟩, ⟨none, some 4, .copy (.c nilS)⟩, ⟨none, some 5, .copy (.c (.lit (.int .i64 0)))⟩] [] []) (.seq (.reg [⟨none, some 11, .load true 12 (.t 2)⟩, ⟨none, some 12, .call 58 [(.t 11)]⟩, ⟨none, some 10, .copy (.t 12)⟩, ⟨none, some 13, .extract (.t 10) 0⟩, ⟨none, some 14, .extract (.t 10) 1⟩, ⟨none, some 6, .copy (.t 13)⟩, ⟨none, some 7, .copy (.t 14)⟩] [] []) (.seq (.seq (.reg [⟨none, some 15, .copy (.t 7)⟩, ⟨none, some 16, .bin .neq (.t 15) (.c (.lit (.int .i64 0)))⟩] [] []) (.cond (.t 16) (.seq (.reg [⟨none, some 17, .copy (.t 7)⟩, ⟨none, some 4, .copy (.c nilS)⟩, ⟨none, some 5, .copy (.t 17)⟩] [] []) .ret) .skip)) (.seq (.reg [⟨none, some 18, .copy (.t 6)⟩, ⟨none, some 19, .len (.t 18)⟩, ⟨none, some 20, .bin .sub (.t 19) (.c (.lit (.int .i64 10)))⟩, ⟨none, some 8, .copy (.t 20)⟩] [] []) (.seq (.reg [⟨none, some 21, .copy (.t 6)⟩, ⟨none, some 22, .copy (.t 8)⟩, ⟨none, some 23, .slice 1 (.t 21) none (some (.t 22)) none⟩, ⟨none, some 24, .call 59 [(.t 23)]⟩, ⟨none, some 25, .copy (.t 6)⟩, ⟨none, some 26, .copy (.t 8)⟩, ⟨none, some 27, .slice 1 (.t 25) (some (.t 26)) none none⟩, ⟨none, some 28, .append true 1 8 (.t 24) (.t 27)⟩, ⟨none, some 9, .copy (.t 28)⟩] [] []) (.seq (.seq (.reg [⟨none, some 29, .copy (.t 1)⟩] [] []) (.cond (.t 29) (.reg [⟨none, some 30, .copy (.t 9)⟩, ⟨none, some 31, .copy (.t 9)⟩, ⟨none, some 32, .len (.t 31)⟩, ⟨none, some 33, .bin .sub (.t 32) (.c (.lit (.int .i64 10)))⟩, ⟨none, some 34, .bin .add (.t 33) (.c (.lit (.int .i64 1)))⟩, ⟨none, some 35, .idxS 1 (.t 30) (.t 34)⟩, ⟨none, none, .store 1 (.t 35) (.c (.lit (.int .i64 0)))⟩] [] []) .skip)) (.seq (.reg [⟨none, some 36, .copy (.t 9)⟩, ⟨none, some 4, .copy (.t 36)⟩, ⟨none, some 5, .copy (.c (.lit (.int .i64 0)))⟩] [] []) .ret))))))), [.tmp 4, .tmp 5]⟩
/- magnetolaw19.awake -/
def ir44 : IFn := ⟨(.seq (.reg [⟨none, some 0, .copy (.c (.lit (.bool false)))⟩] [] []) (.seq (.reg [⟨none, some 6, .build [(.lit (.int .i64 0)), (.lit (.bool false)), (.lit (.bool false)), (.lit (.int .i64 0)), (.lit (.int .u8 0)), (.lit (.int .u8 0)), (.lit (.int .u8 0)), (.lit (.int .u8 0)), (.lit (.int .u8 0)), (.lit (.int .u8 0)), (.lit (.int .u8 0)), (.lit (.int .u8 0))] []⟩, ⟨none, some 7, .call 13 [(.t 6), (.c (.lit (.bool true)))]⟩, ⟨none, some 5, .copy (.t 7)⟩, ⟨none, some 8, .extract (.t 5) 0⟩, ⟨none, some 9, .extract (.t 5) 1⟩, ⟨none, some 1, .copy (.t 8)⟩, ⟨none, some 2, .copy (.t 9)⟩] [] []) (.seq (.reg [⟨none, some 11, .call 45 [(.c (.lit (.int .i64 11)))]⟩, ⟨none, some 12, .copy (.t 1)⟩, ⟨none, some 13, .append true 1 8 (.t 11) (.t 12)⟩, ⟨none, some 14, .call 46 [(.t 13)]⟩, ⟨none, some 10, .copy (.t 14)⟩, ⟨none, some 15, .extract (.t 10) 0⟩, ⟨none, some 16, .extract (.t 10) 1⟩, ⟨none, some 3, .copy (.t 15)⟩, ⟨none, some 4, .copy (.t 16)⟩] [] []) (.seq (.reg [⟨none, some 17, .copy (.t 2)⟩, ⟨none, some 18, .bin .eql (.t 17) (.c (.lit (.int .i64 0)))⟩, ⟨none, some 19, .copy (.t 18)⟩, ⟨some (19, true), some 20, .copy (.t 4)⟩, ⟨some (19, true), some 21, .bin .eql (.t 20) (.c (.lit (.int .i64 0)))⟩, ⟨none, some 22, .pick (.t 19) (.t 21) (.c (.lit (.bool false)))⟩, ⟨none, some 23, .copy (.t 22)⟩, ⟨some (23, true), some 24, .copy (.t 3)⟩, ⟨some (23, true), some 25, .len (.t 24)⟩, ⟨some (23, true), some 26, .bin .eql (.t 25) (.c (.lit (.int .i64 1)))⟩, ⟨none, some 27, .pick (.t 23) (.t 26) (.c (.lit (.bool false)))⟩, ⟨none, some 28, .copy (.t 27)⟩, ⟨some (28, true), some 29, .copy (.t 3)⟩, ⟨some (28, true), some 30, .idxS 16 (.t 29) (.c (.lit (.int .i64 0)))⟩, ⟨some (28, true), some 31, .load true 16 (.t 30)⟩, ⟨some (28, true), some 32, .build [(.lit (.int .i64 0)), (.lit (.int .i64 0)), (.lit (.int .i64 0)), (.lit (.int .i64 0)), (.lit (.bool false)), (.lit (.bool false)), (.lit (.int .i64 0)), (.lit (.int .u8 0)), (.lit (.int .u8 0)), (.lit (.int .u8 0)), (.lit (.int .u8 0)), (.lit (.int .u8 0)), (.lit (.int .u8 0)), (.lit (.int .u8 0)), (.lit (.int .u8 0)), (.lit (.bool false))] [(0, 1, (.c (.lit (.int .i64 1)))), (1, 1, (.c (.lit (.int .i64 11)))), (2, 1, (.c (.lit (.int .i64 60)))), (15, 1, (.c (.lit (.bool true))))]⟩, ⟨some (28, true), some 33, .eqA false [(0, .i), (1, .i), (2, .i), (3, .i), (4, .b), (5, .b), (6, .i), (7, .i), (8, .i), (9, .i), (10, .i), (11, .i), (12, .i), (13, .i), (14, .i), (15, .b)] (.t 31) (.t 32)⟩, ⟨none, some 34, .pick (.t 28) (.t 33) (.c (.lit (.bool false)))⟩, ⟨none, some 0, .copy (.t 34)⟩] [] []) .ret)))), [.tmp 0]⟩
/- magnetolaw19.ones -/
def L45_0 : ICode := (.seq (.seq (.reg [⟨none, some 5, .copy (.t 4)⟩, ⟨none, some 6, .copy (.t 0)⟩, ⟨none, some 7, .bin .lss (.t 5) (.t 6)⟩, ⟨none, some 8, .copy (.t 7)⟩, ⟨some (8, true), some 9, .copy (.t 4)⟩, ⟨some (8, true), some 10, .bin .lss (.t 9) (.c (.lit (.int .i64 100)))⟩, ⟨none, some 11, .pick (.t 8) (.t 10) (.c (.lit (.bool false)))⟩] [] []) (.cond (.t 11) .skip (.exit 0))) (.seq (.block 1 (.reg [⟨none, some 14, .copy (.t 3)⟩, ⟨none, some 15, .mkSlice true 1 [(.lit (.int .i64 0))] 1 [(0, (.c (.lit (.int .i64 1))))]⟩, ⟨none, some 16, .append true 1 8 (.t 14) (.t 15)⟩, ⟨none, some 3, .copy (.t 16)⟩] [] [])) (.reg [⟨none, some 12, .copy (.t 4)⟩, ⟨none, some 13, .bin .add (.t 12) (.c (.lit (.int .i64 1)))⟩, ⟨none, some 4, .copy (.t 13)⟩] [] [])))
def ir45 : IFn := ⟨(.seq (.reg [⟨none, some 2, .copy (.c nilS)⟩] [] []) (.seq (.reg [⟨none, some 3, .copy (.c nilS)⟩] [] []) (.seq (.seq (.reg [⟨none, some 4, .copy (.c (.lit (.int .i64 0)))⟩] [] []) (.block 0 (.loop [1000000, 0, 3, 4] L45_0))) (.seq (.reg [⟨none, some 17, .copy (.t 3)⟩, ⟨none, some 2, .copy (.t 17)⟩] [] []) .ret)))), [.tmp 2]⟩
/- watch.All -/
def L46_0 : ICode := (.seq (.reg [⟨none, some 14, .bin .lss (.t 13) (.t 12)⟩] [] []) (.seq (.cond (.t 14) .skip (.exit 0)) (.seq (.block 1 (.seq (.reg [⟨none, some 15, .idxS 1 (.t 11) (.t 13)⟩, ⟨none, some 16, .load false 1 (.t 15)⟩, ⟨none, some 7, .copy (.t 16)⟩] [] []) (.seq (.reg [⟨none, some 18, .copy (.t 4)⟩, ⟨none, some 19, .copy (.t 7)⟩, ⟨none, some 20, .call 48 [(.t 18), (.t 19)]⟩, ⟨none, some 17, .copy (.t 20)⟩, ⟨none, some 21, .extract (.t 17) 0⟩, ⟨none, some 22, .extract (.t 17) 1⟩, ⟨none, some 8, .copy (.t 21)⟩, ⟨none, some 9, .copy (.t 22)⟩] [] []) (.seq (.seq (.reg [⟨none, some 23, .copy (.t 9)⟩, ⟨none, some 24, .bin .neq (.t 23) (.c (.lit (.int .i64 0)))⟩] [] []) (.cond (.t 24) (.seq (.reg [⟨none, some 25, .copy (.t 9)⟩, ⟨none, some 2, .copy (.c nilS)⟩, ⟨none, some 3, .copy (.t 25)⟩] [] []) .ret) .skip)) (.reg [⟨none, some 26, .copy (.t 5)⟩, ⟨none, some 27, .copy (.t 8)⟩, ⟨none, some 28, .append true 16 64 (.t 26) (.t 27)⟩, ⟨none, some 5, .copy (.t 28)⟩] [] []))))) (.reg [⟨none, some 29, .bin .add (.t 13) (.c (.lit (.int .i64 1)))⟩, ⟨none, some 13, .copy (.t 29)⟩] [] []))))
def ir46 : IFn := ⟨(.seq (.reg [⟨none, some 2, .copy (.c nilS)⟩, ⟨none, some 3, .copy (.c (.lit (.int .i64 0)))⟩] [] []) (.seq (.reg [⟨none, some 10, .call 50 []⟩, ⟨none, some 4, .copy (.t 10)⟩] [] []) (.seq (.reg [⟨none, some 5, .copy (.c nilS)⟩] [] []) (.seq (.seq (.reg [⟨none, some 11, .copy (.t 0)⟩, ⟨none, some 12, .len (.t 11)⟩, ⟨none, some 13, .copy (.c (.lit (.int .i64 0)))⟩] [] []) (.block 0 (.loop [1000000, 4, 5, 11, 12, 13] L46_0))) (.seq (.reg [⟨none, some 30, .copy (.t 5)⟩, ⟨none, some 2, .copy (.t 30)⟩, ⟨none, some 3, .copy (.c (.lit (.int .i64 0)))⟩] [] []) .ret))))), [.tmp 2, .tmp 3]⟩
/- magnetolaw19.Sights -/
def L47_0 : ICode := (.seq (.seq (.reg [⟨none, some 11, .copy (.t 5)⟩, ⟨none, some 12, .copy (.t 0)⟩, ⟨none, some 13, .len (.t 12)⟩, ⟨none, some 14, .bin .lss (.t 11) (.t 13)⟩] [] []) (.cond (.t 14) .skip (.exit 0))) (.seq (.block 1 (.seq (.reg [⟨none, some 17, .copy (.t 0)⟩, ⟨none, some 18, .copy (.t 5)⟩, ⟨none, some 19, .idxS 16 (.t 17) (.t 18)⟩, ⟨none, some 20, .load true 16 (.t 19)⟩, ⟨none, some 21, .copy (.t 1)⟩, ⟨none, some 22, .copy (.t 5)⟩, ⟨none, some 23, .idxS 16 (.t 21) (.t 22)⟩, ⟨none, some 24, .load true 16 (.t 23)⟩, ⟨none, some 25, .eqA true [(0, .i), (1, .i), (2, .i), (3, .i), (4, .b), (5, .b), (6, .i), (7, .i), (8, .i), (9, .i), (10, .i), (11, .i), (12, .i), (13, .i), (14, .i), (15, .b)] (.t 20) (.t 24)⟩] [] []) (.cond (.t 25) (.seq (.reg [⟨none, some 4, .copy (.c (.lit (.bool false)))⟩] [] []) .ret) .skip))) (.reg [⟨none, some 15, .copy (.t 5)⟩, ⟨none, some 16, .bin .add (.t 15) (.c (.lit (.int .i64 1)))⟩, ⟨none, some 5, .copy (.t 16)⟩] [] [])))
def ir47 : IFn := ⟨(.seq (.reg [⟨none, some 4, .copy (.c (.lit (.bool false)))⟩] [] []) (.seq (.seq (.reg [⟨none, some 6, .copy (.t 0)⟩, ⟨none, some 7, .len (.t 6)⟩, ⟨none, some 8, .copy (.t 1)⟩, ⟨none, some 9, .len (.t 8)⟩, ⟨none, some 10, .bin .neq (.t 7) (.t 9)⟩] [] []) (.cond (.t 10) (.seq (.reg [⟨none, some 4, .copy (.c (.lit (.bool false)))⟩] [] []) .ret) .skip)) (.seq (.seq (.reg [⟨none, some 5, .copy (.c (.lit (.int .i64 0)))⟩] [] []) (.block 0 (.loop [1000000, 0, 1, 5] L47_0))) (.seq (.reg [⟨none, some 4, .copy (.c (.lit (.bool true)))⟩] [] []) .ret)))), [.tmp 4]⟩
/- watch.Watcher).See -/
def ir48 : IFn := ⟨(.seq (.reg [⟨none, some 4, .copy (.c nilS)⟩, ⟨none, some 5, .copy (.c (.lit (.int .i64 0)))⟩] [] []) (.seq (.block 0 (.seq (.reg [⟨none, some 8, .copy (.t 0)⟩, ⟨none, some 9, .isNil false .ptr (.t 8)⟩, ⟨none, some 7, .copy (.t 9)⟩] [] []) (.cond (.t 7) (.seq (.reg [⟨none, some 4, .copy (.c nilS)⟩, ⟨none, some 5, .copy (.c (.lit (.int .i64 2)))⟩] [] []) .ret) (.seq (.reg [⟨none, some 11, .copy (.t 1)⟩, ⟨none, some 12, .bin .neq (.t 11) (.c (.lit (.int .i64 0)))⟩, ⟨none, some 13, .copy (.t 12)⟩, ⟨some (13, true), some 14, .copy (.t 1)⟩, ⟨some (13, true), some 15, .bin .neq (.t 14) (.c (.lit (.int .i64 1)))⟩, ⟨none, some 16, .pick (.t 13) (.t 15) (.c (.lit (.bool false)))⟩, ⟨none, some 10, .copy (.t 16)⟩] [] []) (.cond (.t 10) (.seq (.reg [⟨none, some 4, .copy (.c nilS)⟩, ⟨none, some 5, .copy (.c (.lit (.int .i64 10)))⟩] [] []) .ret) .skip))))) (.seq (.seq (.reg [⟨none, some 17, .copy (.t 0)⟩, ⟨none, some 18, .nilCheck (.t 17)⟩, ⟨none, some 19, .fieldA 6 (.t 18)⟩, ⟨none, some 20, .load false 1 (.t 19)⟩, ⟨none, some 21, .un .not (.t 20)⟩, ⟨none, some 22, .copy (.t 21)⟩, ⟨some (22, true), some 23, .copy (.t 1)⟩, ⟨some (22, true), some 24, .bin .eql (.t 23) (.c (.lit (.int .i64 0)))⟩, ⟨none, some 25, .pick (.t 22) (.t 24) (.c (.lit (.bool false)))⟩, ⟨none, some 26, .copy (.t 25)⟩, ⟨some (26, true), some 27, .copy (.t 0)⟩, ⟨some (26, true), some 28, .nilCheck (.t 27)⟩, ⟨some (26, true), some 29, .fieldA 5 (.t 28)⟩, ⟨some (26, true), some 30, .load false 1 (.t 29)⟩, ⟨some (26, true), some 31, .bin .geq (.t 30) (.c (.lit (.int .i64 10)))⟩, ⟨none, some 32, .pick (.t 26) (.t 31) (.c (.lit (.bool false)))⟩] [] []) (.cond (.t 32) (.reg [⟨none, some 33, .copy (.t 0)⟩, ⟨none, some 34, .copy (.t 0)⟩, ⟨none, some 35, .copy (.t 0)⟩, ⟨none, some 36, .copy (.t 0)⟩, ⟨none, some 37, .nilCheck (.t 36)⟩, ⟨none, some 38, .fieldA 4 (.t 37)⟩, ⟨none, some 39, .load false 1 (.t 38)⟩, ⟨none, some 40, .build [nilS, (.lit (.int .i64 0)), (.lit (.int .i64 0)), (.lit (.bool false))] []⟩, ⟨none, some 41, .nilCheck (.t 33)⟩, ⟨none, some 42, .fieldA 6 (.t 41)⟩, ⟨none, none, .store 1 (.t 42) (.c (.lit (.bool true)))⟩, ⟨none, some 43, .nilCheck (.t 34)⟩, ⟨none, some 44, .fieldA 7 (.t 43)⟩, ⟨none, none, .store 1 (.t 44) (.t 39)⟩, ⟨none, some 45, .nilCheck (.t 35)⟩, ⟨none, some 46, .fieldA 0 (.t 45)⟩, ⟨none, none, .store 4 (.t 46) (.t 40)⟩] [] []) .skip)) (.seq (.seq (.reg [⟨none, some 47, .copy (.t 0)⟩, ⟨none, some 48, .nilCheck (.t 47)⟩, ⟨none, some 49, .fieldA 5 (.t 48)⟩, ⟨none, some 50, .load false 1 (.t 49)⟩, ⟨none, some 51, .bin .add (.t 50) (.c (.lit (.int .i64 1)))⟩, ⟨none, some 52, .nilCheck (.t 47)⟩, ⟨none, some 53, .fieldA 5 (.t 52)⟩, ⟨none, none, .store 1 (.t 53) (.t 51)⟩] [] []) (.seq (.reg [⟨none, some 54, .copy (.t 1)⟩, ⟨none, some 55, .bin .eql (.t 54) (.c (.lit (.int .i64 0)))⟩] [] []) (.cond (.t 55) (.reg [⟨none, some 56, .copy (.t 0)⟩, ⟨none, some 57, .nilCheck (.t 56)⟩, ⟨none, some 58, .fieldA 5 (.t 57)⟩, ⟨none, none, .store 1 (.t 58) (.c (.lit (.int .i64 0)))⟩] [] []) .skip))) (.seq (.reg [⟨none, some 59, .copy (.t 0)⟩, ⟨none, some 60, .nilCheck (.t 59)⟩, ⟨none, some 61, .fieldA 4 (.t 60)⟩, ⟨none, some 62, .load false 1 (.t 61)⟩, ⟨none, some 63, .bin .add (.t 62) (.c (.lit (.int .i64 1)))⟩, ⟨none, some 64, .nilCheck (.t 59)⟩, ⟨none, some 65, .fieldA 4 (.t 64)⟩, ⟨none, none, .store 1 (.t 65) (.t 63)⟩] [] []) (.seq (.seq (.reg [⟨none, some 66, .copy (.t 0)⟩, ⟨none, some 67, .nilCheck (.t 66)⟩, ⟨none, some 68, .fieldA 6 (.t 67)⟩, ⟨none, some 69, .load false 1 (.t 68)⟩, ⟨none, some 70, .un .not (.t 69)⟩] [] []) (.cond (.t 70) (.seq (.reg [⟨none, some 4, .copy (.c nilS)⟩, ⟨none, some 5, .copy (.c (.lit (.int .i64 0)))⟩] [] []) .ret) .skip)) (.seq (.reg [⟨none, some 71, .copy (.t 0)⟩, ⟨none, some 72, .nilCheck (.t 71)⟩, ⟨none, some 73, .fieldA 7 (.t 72)⟩, ⟨none, some 74, .load false 1 (.t 73)⟩, ⟨none, some 75, .copy (.t 0)⟩, ⟨none, some 76, .nilCheck (.t 75)⟩, ⟨none, some 77, .fieldA 4 (.t 76)⟩, ⟨none, some 78, .load false 1 (.t 77)⟩, ⟨none, some 79, .build [(.lit (.int .i64 0)), (.lit (.int .i64 0)), (.lit (.int .i64 0)), (.lit (.int .i64 0)), (.lit (.bool false)), (.lit (.bool false)), (.lit (.int .i64 0)), (.lit (.int .u8 0)), (.lit (.int .u8 0)), (.lit (.int .u8 0)), (.lit (.int .u8 0)), (.lit (.int .u8 0)), (.lit (.int .u8 0)), (.lit (.int .u8 0)), (.lit (.int .u8 0)), (.lit (.bool false))] [(0, 1, (.c (.lit (.int .i64 2)))), (1, 1, (.t 74)), (2, 1, (.t 78))]⟩, ⟨none, some 6, .alloc [(.lit (.int .i64 0)), (.lit (.int .i64 0)), (.lit (.int .i64 0)), (.lit (.int .i64 0)), (.lit (.bool false)), (.lit (.bool false)), (.lit (.int .i64 0)), (.lit (.int .u8 0)), (.lit (.int .u8 0)), (.lit (.int .u8 0)), (.lit (.int .u8 0)), (.lit (.int .u8 0)), (.lit (.int .u8 0)), (.lit (.int .u8 0)), (.lit (.int .u8 0)), (.lit (.bool false))]⟩, ⟨none, none, .store 16 (.t 6) (.t 79)⟩] [(3, 9), (7, 9)] []) (.seq (.seq (.reg [⟨none, some 80, .copy (.t 0)⟩, ⟨none, some 81, .nilCheck (.t 80)⟩, ⟨none, some 82, .fieldA 0 (.t 81)⟩, ⟨none, some 83, .copy (.t 1)⟩, ⟨none, some 84, .call 87 [(.t 82), (.t 83)]⟩] [] []) (.block 1 (.seq (.reg [⟨none, some 86, .bin .eql (.t 84) (.c (.lit (.int .i64 0)))⟩, ⟨none, some 85, .copy (.t 86)⟩] [] []) (.cond (.t 85) (.seq (.reg [⟨none, some 4, .copy (.c nilS)⟩, ⟨none, some 5, .copy (.c (.lit (.int .i64 0)))⟩] [] []) .ret) (.seq (.reg [⟨none, some 88, .bin .eql (.t 84) (.c (.lit (.int .i64 2)))⟩, ⟨none, some 87, .copy (.t 88)⟩] [] []) (.cond (.t 87) (.seq (.reg [⟨none, some 89, .copy (.t 0)⟩, ⟨none, some 90, .nilCheck (.t 89)⟩, ⟨none, some 91, .fieldA 0 (.t 90)⟩, ⟨none, some 92, .fieldA 3 (.t 91)⟩, ⟨none, some 93, .load false 1 (.t 92)⟩, ⟨none, some 94, .fieldA 0 (.t 6)⟩, ⟨none, none, .store 1 (.t 94) (.c (.lit (.int .i64 1)))⟩, ⟨none, some 95, .fieldA 15 (.t 6)⟩, ⟨none, none, .store 1 (.t 95) (.t 93)⟩] [(4, 6)] []) (.reg [⟨none, some 97, .copy (.t 0)⟩, ⟨none, some 98, .nilCheck (.t 97)⟩, ⟨none, some 99, .fieldA 0 (.t 98)⟩, ⟨none, some 100, .fieldA 0 (.t 99)⟩, ⟨none, some 101, .load false 1 (.t 100)⟩, ⟨none, some 102, .call 88 [(.t 101)]⟩, ⟨none, some 96, .copy (.t 102)⟩, ⟨none, some 103, .extract (.t 96) 0⟩, ⟨none, some 104, .extract (.t 96) 1⟩, ⟨none, some 105, .fieldA 3 (.t 6)⟩, ⟨none, none, .store 12 (.t 105) (.t 103)⟩] [] [])) .skip)))))) (.seq (.reg [⟨none, some 106, .copy (.t 0)⟩, ⟨none, some 107, .nilCheck (.t 106)⟩, ⟨none, some 108, .fieldA 6 (.t 107)⟩, ⟨none, none, .store 1 (.t 108) (.c (.lit (.bool false)))⟩] [] []) (.seq (.reg [⟨none, some 109, .load true 16 (.t 6)⟩, ⟨none, some 110, .mkSlice true 16 [(.lit (.int .i64 0)), (.lit (.int .i64 0)), (.lit (.int .i64 0)), (.lit (.int .i64 0)), (.lit (.bool false)), (.lit (.bool false)), (.lit (.int .i64 0)), (.lit (.int .u8 0)), (.lit (.int .u8 0)), (.lit (.int .u8 0)), (.lit (.int .u8 0)), (.lit (.int .u8 0)), (.lit (.int .u8 0)), (.lit (.int .u8 0)), (.lit (.int .u8 0)), (.lit (.bool false))] 1 [(0, (.t 109))]⟩, ⟨none, some 4, .copy (.t 110)⟩, ⟨none, some 5, .copy (.c (.lit (.int .i64 0)))⟩] [] []) .ret)))))))))), [.tmp 4, .tmp 5]⟩
/- watch.New -/
def ir50 : IFn := ⟨(.seq (.reg [⟨none, some 0, .copy (.c (.lit (.pointer none)))⟩] [] []) (.seq (.reg [⟨none, some 1, .build [nilS, (.lit (.int .i64 0)), (.lit (.int .i64 0)), (.lit (.bool false)), (.lit (.int .i64 0)), (.lit (.int .i64 0)), (.lit (.bool false)), (.lit (.int .i64 0))] []⟩, ⟨none, some 2, .box 8 (.t 1)⟩, ⟨none, some 0, .copy (.t 2)⟩] [] []) .ret)), [.tmp 0]⟩
/- watch.Frames -/
def L51_0 : ICode := (.seq (.reg [⟨none, some 20, .bin .lss (.t 19) (.t 18)⟩] [] []) (.seq (.cond (.t 20) .skip (.exit 0)) (.seq (.block 1 (.seq (.reg [⟨none, some 21, .idxS 16 (.t 17) (.t 19)⟩, ⟨none, some 22, .load true 16 (.t 21)⟩, ⟨none, some 8, .alloc [(.lit (.int .i64 0)), (.lit (.int .i64 0)), (.lit (.int .i64 0)), (.lit (.int .i64 0)), (.lit (.bool false)), (.lit (.bool false)), (.lit (.int .i64 0)), (.lit (.int .u8 0)), (.lit (.int .u8 0)), (.lit (.int .u8 0)), (.lit (.int .u8 0)), (.lit (.int .u8 0)), (.lit (.int .u8 0)), (.lit (.int .u8 0)), (.lit (.int .u8 0)), (.lit (.bool false))]⟩, ⟨none, none, .store 16 (.t 8) (.t 22)⟩] [] []) (.seq (.reg [⟨none, some 23, .fieldA 0 (.t 8)⟩, ⟨none, some 24, .load false 1 (.t 23)⟩, ⟨none, some 25, .bin .eql (.t 24) (.c (.lit (.int .i64 1)))⟩] [] []) (.cond (.t 25) (.reg [⟨none, some 26, .copy (.t 6)⟩, ⟨none, some 27, .fieldA 3 (.t 8)⟩, ⟨none, some 28, .load true 12 (.t 27)⟩, ⟨none, some 29, .mkSlice true 12 [(.lit (.int .i64 0)), (.lit (.bool false)), (.lit (.bool false)), (.lit (.int .i64 0)), (.lit (.int .u8 0)), (.lit (.int .u8 0)), (.lit (.int .u8 0)), (.lit (.int .u8 0)), (.lit (.int .u8 0)), (.lit (.int .u8 0)), (.lit (.int .u8 0)), (.lit (.int .u8 0))] 1 [(0, (.t 28))]⟩, ⟨none, some 30, .append true 12 32 (.t 26) (.t 29)⟩, ⟨none, some 6, .copy (.t 30)⟩] [] []) .skip)))) (.reg [⟨none, some 31, .bin .add (.t 19) (.c (.lit (.int .i64 1)))⟩, ⟨none, some 19, .copy (.t 31)⟩] [] []))))
def ir51 : IFn := ⟨(.seq (.reg [⟨none, some 2, .copy (.c nilS)⟩, ⟨none, some 3, .copy (.c (.lit (.int .i64 0)))⟩] [] []) (.seq (.reg [⟨none, some 10, .copy (.t 0)⟩, ⟨none, some 11, .call 46 [(.t 10)]⟩, ⟨none, some 9, .copy (.t 11)⟩, ⟨none, some 12, .extract (.t 9) 0⟩, ⟨none, some 13, .extract (.t 9) 1⟩, ⟨none, some 4, .copy (.t 12)⟩, ⟨none, some 5, .copy (.t 13)⟩] [] []) (.seq (.seq (.reg [⟨none, some 14, .copy (.t 5)⟩, ⟨none, some 15, .bin .neq (.t 14) (.c (.lit (.int .i64 0)))⟩] [] []) (.cond (.t 15) (.seq (.reg [⟨none, some 16, .copy (.t 5)⟩, ⟨none, some 2, .copy (.c nilS)⟩, ⟨none, some 3, .copy (.t 16)⟩] [] []) .ret) .skip)) (.seq (.reg [⟨none, some 6, .copy (.c nilS)⟩] [] []) (.seq (.seq (.reg [⟨none, some 17, .copy (.t 4)⟩, ⟨none, some 18, .len (.t 17)⟩, ⟨none, some 19, .copy (.c (.lit (.int .i64 0)))⟩] [] []) (.block 0 (.loop [1000000, 6, 17, 18, 19] L51_0))) (.seq (.reg [⟨none, some 32, .copy (.t 6)⟩, ⟨none, some 2, .copy (.t 32)⟩, ⟨none, some 3, .copy (.c (.lit (.int .i64 0)))⟩] [] []) .ret)))))), [.tmp 2, .tmp 3]⟩
/- frame.Check -/
def ir53 : IFn := ⟨(.seq (.reg [⟨none, some 1, .box 12 (.t 0)⟩, ⟨none, some 2, .copy (.c (.lit (.int .i64 0)))⟩] [] []) (.seq (.reg [⟨none, some 3, .copy (.c (.lit (.int .i64 2047)))⟩] [] []) (.seq (.seq (.reg [⟨none, some 5, .fieldA 1 (.t 1)⟩, ⟨none, some 6, .load false 1 (.t 5)⟩] [] []) (.cond (.t 6) (.reg [⟨none, some 3, .copy (.c (.lit (.int .i64 536870911)))⟩] [] []) .skip)) (.seq (.reg [⟨none, some 7, .fieldA 3 (.t 1)⟩, ⟨none, some 8, .load false 1 (.t 7)⟩, ⟨none, some 4, .copy (.t 8)⟩] [] []) (.seq (.seq (.reg [⟨none, some 9, .fieldA 2 (.t 1)⟩, ⟨none, some 10, .load false 1 (.t 9)⟩] [] []) (.cond (.t 10) (.reg [⟨none, some 4, .copy (.c (.lit (.int .i64 0)))⟩] [] []) .skip)) (.seq (.block 0 (.seq (.seq (.reg [⟨none, some 12, .fieldA 0 (.t 1)⟩, ⟨none, some 13, .load false 1 (.t 12)⟩, ⟨none, some 14, .bin .lss (.t 13) (.c (.lit (.int .i64 0)))⟩, ⟨none, some 15, .copy (.t 14)⟩, ⟨some (15, false), some 16, .fieldA 0 (.t 1)⟩, ⟨some (15, false), some 17, .load false 1 (.t 16)⟩, ⟨some (15, false), some 18, .copy (.t 3)⟩, ⟨some (15, false), some 19, .bin .gtr (.t 17) (.t 18)⟩, ⟨none, some 20, .pick (.t 15) (.c (.lit (.bool true))) (.t 19)⟩, ⟨none, some 11, .copy (.t 20)⟩] [] []) (.cond (.t 11) .skip (.reg [⟨none, some 21, .fieldA 3 (.t 1)⟩, ⟨none, some 22, .load false 1 (.t 21)⟩, ⟨none, some 23, .bin .lss (.t 22) (.c (.lit (.int .i64 0)))⟩, ⟨none, some 24, .copy (.t 23)⟩, ⟨some (24, false), some 25, .fieldA 3 (.t 1)⟩, ⟨some (24, false), some 26, .load false 1 (.t 25)⟩, ⟨some (24, false), some 27, .bin .gtr (.t 26) (.c (.lit (.int .i64 8)))⟩, ⟨none, some 28, .pick (.t 24) (.c (.lit (.bool true))) (.t 27)⟩, ⟨none, some 11, .copy (.t 28)⟩] [] []))) (.cond (.t 11) (.seq (.reg [⟨none, some 2, .copy (.c (.lit (.int .i64 14)))⟩] [] []) .ret) (.seq (.reg [⟨none, some 30, .mkSlice true 1 [(.lit (.int .u8 0))] 1 [(0, (.c (.lit (.int .u8 0))))]⟩, ⟨none, some 31, .fieldA 4 (.t 1)⟩, ⟨none, some 32, .copy (.t 4)⟩, ⟨none, some 33, .sliceArr 8 1 (.t 31) (some (.t 32)) none⟩, ⟨none, some 34, .append true 1 1 (.t 30) (.t 33)⟩, ⟨none, some 35, .call 90 [(.t 34)]⟩, ⟨none, some 36, .bin .gtr (.t 35) (.c (.lit (.int .u8 0)))⟩, ⟨none, some 29, .copy (.t 36)⟩] [] []) (.cond (.t 29) (.seq (.reg [⟨none, some 2, .copy (.c (.lit (.int .i64 14)))⟩] [] []) .ret) .skip))))) (.seq (.reg [⟨none, some 2, .copy (.c (.lit (.int .i64 0)))⟩] [] []) .ret))))))), [.tmp 2]⟩
/- field.All -/
def ir58 : IFn := ⟨(.seq (.reg [⟨none, some 1, .box 12 (.t 0)⟩, ⟨none, some 2, .copy (.c nilS)⟩, ⟨none, some 3, .copy (.c (.lit (.int .i64 0)))⟩] [] []) (.seq (.reg [⟨none, some 9, .load true 12 (.t 1)⟩, ⟨none, some 10, .call 92 [(.t 9)]⟩, ⟨none, some 8, .copy (.t 10)⟩, ⟨none, some 11, .extract (.t 8) 0⟩, ⟨none, some 12, .extract (.t 8) 1⟩, ⟨none, some 4, .copy (.t 11)⟩, ⟨none, some 5, .copy (.t 12)⟩] [] []) (.seq (.seq (.reg [⟨none, some 13, .copy (.t 5)⟩, ⟨none, some 14, .bin .neq (.t 13) (.c (.lit (.int .i64 0)))⟩] [] []) (.cond (.t 14) (.seq (.reg [⟨none, some 15, .copy (.t 5)⟩, ⟨none, some 2, .copy (.c nilS)⟩, ⟨none, some 3, .copy (.t 15)⟩] [] []) .ret) .skip)) (.seq (.reg [⟨none, some 17, .copy (.t 4)⟩, ⟨none, some 18, .call 93 [(.t 17)]⟩, ⟨none, some 16, .copy (.t 18)⟩, ⟨none, some 19, .extract (.t 16) 0⟩, ⟨none, some 20, .extract (.t 16) 1⟩, ⟨none, some 6, .copy (.t 19)⟩, ⟨none, some 5, .copy (.t 20)⟩] [] []) (.seq (.seq (.reg [⟨none, some 21, .copy (.t 5)⟩, ⟨none, some 22, .bin .neq (.t 21) (.c (.lit (.int .i64 0)))⟩] [] []) (.cond (.t 22) (.seq (.reg [⟨none, some 23, .copy (.t 5)⟩, ⟨none, some 2, .copy (.c nilS)⟩, ⟨none, some 3, .copy (.t 23)⟩] [] []) .ret) .skip)) (.seq (.reg [⟨none, some 25, .copy (.t 6)⟩, ⟨none, some 26, .call 94 [(.t 25)]⟩, ⟨none, some 24, .copy (.t 26)⟩, ⟨none, some 27, .extract (.t 24) 0⟩, ⟨none, some 28, .extract (.t 24) 1⟩, ⟨none, some 7, .copy (.t 27)⟩, ⟨none, some 5, .copy (.t 28)⟩] [] []) (.seq (.seq (.reg [⟨none, some 29, .copy (.t 5)⟩, ⟨none, some 30, .bin .neq (.t 29) (.c (.lit (.int .i64 0)))⟩] [] []) (.cond (.t 30) (.seq (.reg [⟨none, some 31, .copy (.t 5)⟩, ⟨none, some 2, .copy (.c nilS)⟩, ⟨none, some 3, .copy (.t 31)⟩] [] []) .ret) .skip)) (.seq (.reg [⟨none, some 32, .copy (.t 4)⟩, ⟨none, some 33, .copy (.t 7)⟩, ⟨none, some 34, .mkSlice true 1 [(.lit (.int .i64 0))] 1 [(0, (.c (.lit (.int .i64 1))))]⟩, ⟨none, some 35, .call 96 [(.t 34), (.c (.lit (.int .i64 10)))]⟩, ⟨none, some 36, .mkSlice true 1 [nilS] 3 [(0, (.t 32)), (1, (.t 33)), (2, (.t 35))]⟩, ⟨none, some 37, .call 95 [(.t 36)]⟩, ⟨none, some 2, .copy (.t 37)⟩, ⟨none, some 3, .copy (.c (.lit (.int .i64 0)))⟩] [] []) .ret)))))))), [.tmp 2, .tmp 3]⟩
/- stuff.Add -/
def L59_0 : ICode := (.seq (.reg [⟨none, some 22, .bin .lss (.t 21) (.t 20)⟩] [] []) (.seq (.cond (.t 22) .skip (.exit 0)) (.seq (.block 1 (.seq (.reg [⟨none, some 23, .idxS 1 (.t 19) (.t 21)⟩, ⟨none, some 24, .load false 1 (.t 23)⟩, ⟨none, some 7, .copy (.t 24)⟩] [] []) (.seq (.reg [⟨none, some 25, .copy (.t 5)⟩, ⟨none, some 26, .copy (.t 7)⟩, ⟨none, some 27, .callV (.t 25) [(.t 26)]⟩] [] []) (.cond (.t 27) (.reg [⟨none, some 28, .copy (.t 5)⟩, ⟨none, some 29, .copy (.t 7)⟩, ⟨none, some 30, .call 99 [(.t 29)]⟩, ⟨none, some 31, .callV (.t 28) [(.t 30)]⟩] [] []) .skip)))) (.reg [⟨none, some 32, .bin .add (.t 21) (.c (.lit (.int .i64 1)))⟩, ⟨none, some 21, .copy (.t 32)⟩] [] []))))
def ir59 : IFn := ⟨(.seq (.reg [⟨none, some 2, .copy (.c nilS)⟩] [] []) (.seq (.seq (.reg [⟨none, some 8, .copy (.t 0)⟩, ⟨none, some 9, .call 97 [(.t 8)]⟩, ⟨none, some 10, .bin .geq (.t 9) (.c (.lit (.int .i64 0)))⟩] [] []) (.cond (.t 10) (.seq (.reg [⟨none, some 2, .copy (.c nilS)⟩] [] []) .ret) .skip)) (.seq (.reg [⟨none, some 11, .copy (.t 0)⟩, ⟨none, some 12, .len (.t 11)⟩, ⟨none, some 13, .copy (.t 0)⟩, ⟨none, some 14, .len (.t 13)⟩, ⟨none, some 15, .bin .quo (.t 14) (.c (.lit (.int .i64 4)))⟩, ⟨none, some 16, .bin .add (.t 12) (.t 15)⟩, ⟨none, some 17, .make true 1 8 [(.lit (.int .i64 0))] (.c (.lit (.int .i64 0))) (.t 16)⟩, ⟨none, some 3, .alloc [nilS]⟩, ⟨none, none, .store 1 (.t 3) (.t 17)⟩] [] []) (.seq (.reg [⟨none, some 4, .alloc [(.lit (.int .i64 0))]⟩, ⟨none, none, .store 1 (.t 4) (.c (.lit (.int .i64 0)))⟩] [] []) (.seq (.reg [⟨none, some 18, .mkFunc (.func 98) [] [(.t 3), (.t 4)]⟩, ⟨none, some 5, .copy (.t 18)⟩] [] []) (.seq (.seq (.reg [⟨none, some 19, .copy (.t 0)⟩, ⟨none, some 20, .len (.t 19)⟩, ⟨none, some 21, .copy (.c (.lit (.int .i64 0)))⟩] [] []) (.block 0 (.loop [3, 5, 19, 20, 21] L59_0))) (.seq (.reg [⟨none, some 33, .load false 1 (.t 3)⟩, ⟨none, some 2, .copy (.t 33)⟩] [] []) .ret))))))), [.tmp 2]⟩
/- watch.taker).take -/
def ir87 : IFn := ⟨(.seq (.reg [⟨none, some 4, .copy (.c (.lit (.int .i64 0)))⟩] [] []) (.seq (.seq (.reg [⟨none, some 9, .copy (.t 0)⟩, ⟨none, some 10, .nilCheck (.t 9)⟩, ⟨none, some 11, .fieldA 2 (.t 10)⟩, ⟨none, some 12, .load false 1 (.t 11)⟩, ⟨none, some 13, .bin .eql (.t 12) (.c (.lit (.int .i64 5)))⟩] [] []) (.cond (.t 13) (.seq (.seq (.reg [⟨none, some 14, .copy (.t 1)⟩, ⟨none, some 15, .copy (.t 0)⟩, ⟨none, some 16, .nilCheck (.t 15)⟩, ⟨none, some 17, .fieldA 1 (.t 16)⟩, ⟨none, some 18, .load false 1 (.t 17)⟩, ⟨none, some 19, .bin .eql (.t 14) (.t 18)⟩] [] []) (.cond (.t 19) (.seq (.reg [⟨none, some 4, .copy (.c (.lit (.int .i64 1)))⟩] [] []) .ret) .skip)) (.seq (.reg [⟨none, some 20, .copy (.t 0)⟩, ⟨none, some 21, .copy (.t 0)⟩, ⟨none, some 22, .copy (.t 1)⟩, ⟨none, some 23, .nilCheck (.t 20)⟩, ⟨none, some 24, .fieldA 1 (.t 23)⟩, ⟨none, none, .store 1 (.t 24) (.t 22)⟩, ⟨none, some 25, .nilCheck (.t 21)⟩, ⟨none, some 26, .fieldA 2 (.t 25)⟩, ⟨none, none, .store 1 (.t 26) (.c (.lit (.int .i64 1)))⟩] [] []) (.seq (.reg [⟨none, some 4, .copy (.c (.lit (.int .i64 0)))⟩] [] []) .ret))) .skip)) (.seq (.reg [⟨none, some 28, .copy (.t 0)⟩, ⟨none, some 29, .nilCheck (.t 28)⟩, ⟨none, some 30, .fieldA 0 (.t 29)⟩, ⟨none, some 31, .load false 1 (.t 30)⟩, ⟨none, some 32, .call 113 [(.t 31)]⟩, ⟨none, some 27, .copy (.t 32)⟩, ⟨none, some 33, .extract (.t 27) 0⟩, ⟨none, some 34, .extract (.t 27) 1⟩, ⟨none, some 35, .extract (.t 27) 2⟩, ⟨none, some 5, .copy (.t 33)⟩, ⟨none, some 6, .copy (.t 34)⟩, ⟨none, some 7, .copy (.t 35)⟩] [] []) (.seq (.block 0 (.seq (.reg [⟨none, some 44, .copy (.t 5)⟩, ⟨none, some 45, .bin .gtr (.t 44) (.c (.lit (.int .i64 4)))⟩, ⟨none, some 43, .copy (.t 45)⟩] [] []) (.cond (.t 43) (.reg [⟨none, some 46, .copy (.t 0)⟩, ⟨none, some 47, .nilCheck (.t 46)⟩, ⟨none, some 48, .fieldA 2 (.t 47)⟩, ⟨none, none, .store 1 (.t 48) (.c (.lit (.int .i64 0)))⟩] [] []) (.seq (.reg [⟨none, some 50, .copy (.t 0)⟩, ⟨none, some 51, .nilCheck (.t 50)⟩, ⟨none, some 52, .fieldA 2 (.t 51)⟩, ⟨none, some 53, .load false 1 (.t 52)⟩, ⟨none, some 54, .bin .gtr (.t 53) (.c (.lit (.int .i64 0)))⟩, ⟨none, some 55, .copy (.t 54)⟩, ⟨some (55, true), some 56, .copy (.t 1)⟩, ⟨some (55, true), some 57, .copy (.t 0)⟩, ⟨some (55, true), some 58, .nilCheck (.t 57)⟩, ⟨some (55, true), some 59, .fieldA 1 (.t 58)⟩, ⟨some (55, true), some 60, .load false 1 (.t 59)⟩, ⟨some (55, true), some 61, .bin .eql (.t 56) (.t 60)⟩, ⟨none, some 62, .pick (.t 55) (.t 61) (.c (.lit (.bool false)))⟩, ⟨none, some 49, .copy (.t 62)⟩] [] []) (.cond (.t 49) (.reg [⟨none, some 63, .copy (.t 0)⟩, ⟨none, some 64, .nilCheck (.t 63)⟩, ⟨none, some 65, .fieldA 2 (.t 64)⟩, ⟨none, some 66, .load false 1 (.t 65)⟩, ⟨none, some 67, .bin .add (.t 66) (.c (.lit (.int .i64 1)))⟩, ⟨none, some 68, .nilCheck (.t 63)⟩, ⟨none, some 69, .fieldA 2 (.t 68)⟩, ⟨none, none, .store 1 (.t 69) (.t 67)⟩] [] []) (.reg [⟨none, some 36, .copy (.t 0)⟩, ⟨none, some 37, .copy (.t 0)⟩, ⟨none, some 38, .copy (.t 1)⟩, ⟨none, some 39, .nilCheck (.t 36)⟩, ⟨none, some 40, .fieldA 1 (.t 39)⟩, ⟨none, none, .store 1 (.t 40) (.t 38)⟩, ⟨none, some 41, .nilCheck (.t 37)⟩, ⟨none, some 42, .fieldA 2 (.t 41)⟩, ⟨none, none, .store 1 (.t 42) (.c (.lit (.int .i64 1)))⟩] [] [])))))) (.seq (.reg [⟨none, some 8, .copy (.c (.lit (.bool true)))⟩] [] []) (.seq (.seq (.reg [⟨none, some 70, .copy (.t 5)⟩, ⟨none, some 71, .bin .eql (.t 70) (.c (.lit (.int .i64 5)))⟩] [] []) (.cond (.t 71) (.reg [⟨none, some 73, .copy (.t 0)⟩, ⟨none, some 74, .nilCheck (.t 73)⟩, ⟨none, some 75, .fieldA 0 (.t 74)⟩, ⟨none, some 76, .load false 1 (.t 75)⟩, ⟨none, some 77, .call 114 [(.t 76)]⟩, ⟨none, some 72, .copy (.t 77)⟩, ⟨none, some 78, .extract (.t 72) 0⟩, ⟨none, some 79, .extract (.t 72) 1⟩, ⟨none, some 8, .copy (.t 78)⟩] [] []) .skip)) (.seq (.block 1 (.seq (.reg [⟨none, some 81, .copy (.t 5)⟩, ⟨none, some 82, .bin .eql (.t 81) (.c (.lit (.int .i64 6)))⟩, ⟨none, some 80, .copy (.t 82)⟩] [] []) (.cond (.t 80) (.reg [⟨none, some 83, .copy (.t 0)⟩, ⟨none, some 84, .copy (.t 1)⟩, ⟨none, some 85, .bin .eql (.t 84) (.c (.lit (.int .i64 0)))⟩, ⟨none, some 86, .nilCheck (.t 83)⟩, ⟨none, some 87, .fieldA 3 (.t 86)⟩, ⟨none, none, .store 1 (.t 87) (.t 85)⟩] [] []) (.seq (.reg [⟨none, some 89, .copy (.t 8)⟩, ⟨none, some 90, .un .not (.t 89)⟩, ⟨none, some 91, .copy (.t 90)⟩, ⟨some (91, false), some 92, .copy (.t 5)⟩, ⟨some (91, false), some 93, .bin .gtr (.t 92) (.c (.lit (.int .i64 4)))⟩, ⟨some (91, false), some 94, .copy (.t 93)⟩, ⟨some (94, true), some 95, .copy (.t 1)⟩, ⟨some (94, true), some 96, .bin .eql (.t 95) (.c (.lit (.int .i64 0)))⟩, ⟨some (91, false), some 97, .pick (.t 94) (.t 96) (.c (.lit (.bool false)))⟩, ⟨none, some 98, .pick (.t 91) (.c (.lit (.bool true))) (.t 97)⟩, ⟨none, some 88, .copy (.t 98)⟩] [] []) (.cond (.t 88) (.seq (.reg [⟨none, some 4, .copy (.c (.lit (.int .i64 1)))⟩] [] []) .ret) (.seq (.reg [⟨none, some 100, .copy (.t 5)⟩, ⟨none, some 101, .bin .eql (.t 100) (.c (.lit (.int .i64 8)))⟩, ⟨none, some 102, .copy (.t 101)⟩, ⟨some (102, true), some 103, .copy (.t 6)⟩, ⟨some (102, true), some 104, .bin .eql (.t 103) (.c (.lit (.int .i64 5)))⟩, ⟨none, some 105, .pick (.t 102) (.t 104) (.c (.lit (.bool false)))⟩, ⟨none, some 99, .copy (.t 105)⟩] [] []) (.cond (.t 99) (.seq (.reg [⟨none, some 4, .copy (.c (.lit (.int .i64 2)))⟩] [] []) .ret) .skip))))))) (.seq (.reg [⟨none, some 106, .copy (.t 0)⟩, ⟨none, some 107, .copy (.t 0)⟩, ⟨none, some 108, .nilCheck (.t 107)⟩, ⟨none, some 109, .fieldA 0 (.t 108)⟩, ⟨none, some 110, .load false 1 (.t 109)⟩, ⟨none, some 111, .copy (.t 1)⟩, ⟨none, some 112, .mkSlice true 1 [(.lit (.int .i64 0))] 1 [(0, (.t 111))]⟩, ⟨none, some 113, .append true 1 8 (.t 110) (.t 112)⟩, ⟨none, some 114, .nilCheck (.t 106)⟩, ⟨none, some 115, .fieldA 0 (.t 114)⟩, ⟨none, none, .store 1 (.t 115) (.t 113)⟩] [] []) (.seq (.reg [⟨none, some 4, .copy (.c (.lit (.int .i64 0)))⟩] [] []) .ret))))))))), [.tmp 4]⟩
/- field.Frame -/
def L88_0 : ICode := (.seq (.reg [⟨none, some 63, .bin .lss (.t 62) (.t 61)⟩] [] []) (.seq (.cond (.t 63) .skip (.exit 1)) (.seq (.block 2 (.seq (.reg [⟨none, some 64, .copy (.t 62)⟩, ⟨none, some 9, .copy (.t 64)⟩] [] []) (.reg [⟨none, some 65, .copy (.t 9)⟩, ⟨none, some 66, .copy (.t 0)⟩, ⟨none, some 67, .fieldA 3 (.t 6)⟩, ⟨none, some 68, .load false 1 (.t 67)⟩, ⟨none, some 69, .copy (.t 9)⟩, ⟨none, some 70, .bin .mul (.c (.lit (.int .i64 8))) (.t 69)⟩, ⟨none, some 71, .bin .add (.t 68) (.t 70)⟩, ⟨none, some 72, .fieldA 3 (.t 6)⟩, ⟨none, some 73, .load false 1 (.t 72)⟩, ⟨none, some 74, .copy (.t 9)⟩, ⟨none, some 75, .bin .add (.t 74) (.c (.lit (.int .i64 1)))⟩, ⟨none, some 76, .bin .mul (.c (.lit (.int .i64 8))) (.t 75)⟩, ⟨none, some 77, .bin .add (.t 73) (.t 76)⟩, ⟨none, some 78, .slice 1 (.t 66) (some (.t 71)) (some (.t 77)) none⟩, ⟨none, some 79, .call 117 [(.t 78)]⟩, ⟨none, some 80, .toInt .u8 (.t 79)⟩, ⟨none, some 81, .fieldA 4 (.t 8)⟩, ⟨none, some 82, .idxA 8 1 (.t 81) (.t 65)⟩, ⟨none, none, .store 1 (.t 82) (.t 80)⟩] [] []))) (.reg [⟨none, some 83, .bin .add (.t 62) (.c (.lit (.int .i64 1)))⟩, ⟨none, some 62, .copy (.t 83)⟩] [] []))))
def ir88 : IFn := ⟨(.seq (.reg [⟨none, some 2, .alloc [(.lit (.int .i64 0)), (.lit (.bool false)), (.lit (.bool false)), (.lit (.int .i64 0)), (.lit (.int .u8 0)), (.lit (.int .u8 0)), (.lit (.int .u8 0)), (.lit (.int .u8 0)), (.lit (.int .u8 0)), (.lit (.int .u8 0)), (.lit (.int .u8 0)), (.lit (.int .u8 0))]⟩, ⟨none, some 3, .copy (.c (.lit (.int .i64 0)))⟩] [] []) (.seq (.reg [⟨none, some 11, .copy (.t 0)⟩, ⟨none, some 12, .call 115 [(.t 11)]⟩, ⟨none, some 10, .copy (.t 12)⟩, ⟨none, some 13, .extract (.t 10) 0⟩, ⟨none, some 14, .extract (.t 10) 1⟩, ⟨none, some 4, .copy (.t 13)⟩, ⟨none, some 5, .copy (.t 14)⟩] [] []) (.seq (.block 0 (.seq (.reg [⟨none, some 16, .copy (.t 5)⟩, ⟨none, some 17, .bin .neq (.t 16) (.c (.lit (.int .i64 0)))⟩, ⟨none, some 15, .copy (.t 17)⟩] [] []) (.cond (.t 15) (.seq (.reg [⟨none, some 18, .build [(.lit (.int .i64 0)), (.lit (.bool false)), (.lit (.bool false)), (.lit (.int .i64 0)), (.lit (.int .u8 0)), (.lit (.int .u8 0)), (.lit (.int .u8 0)), (.lit (.int .u8 0)), (.lit (.int .u8 0)), (.lit (.int .u8 0)), (.lit (.int .u8 0)), (.lit (.int .u8 0))] []⟩, ⟨none, some 19, .copy (.t 5)⟩, ⟨none, none, .store 12 (.t 2) (.t 18)⟩, ⟨none, some 3, .copy (.t 19)⟩] [] []) .ret) (.seq (.reg [⟨none, some 21, .copy (.t 0)⟩, ⟨none, some 22, .len (.t 21)⟩, ⟨none, some 23, .copy (.t 4)⟩, ⟨none, some 24, .bin .lss (.t 22) (.t 23)⟩, ⟨none, some 20, .copy (.t 24)⟩] [] []) (.cond (.t 20) (.seq (.reg [⟨none, some 25, .build [(.lit (.int .i64 0)), (.lit (.bool false)), (.lit (.bool false)), (.lit (.int .i64 0)), (.lit (.int .u8 0)), (.lit (.int .u8 0)), (.lit (.int .u8 0)), (.lit (.int .u8 0)), (.lit (.int .u8 0)), (.lit (.int .u8 0)), (.lit (.int .u8 0)), (.lit (.int .u8 0))] []⟩, ⟨none, none, .store 12 (.t 2) (.t 25)⟩, ⟨none, some 3, .copy (.c (.lit (.int .i64 13)))⟩] [] []) .ret) (.seq (.reg [⟨none, some 27, .copy (.t 0)⟩, ⟨none, some 28, .idxS 1 (.t 27) (.c (.lit (.int .i64 0)))⟩, ⟨none, some 29, .load false 1 (.t 28)⟩, ⟨none, some 30, .bin .neq (.t 29) (.c (.lit (.int .i64 0)))⟩, ⟨none, some 26, .copy (.t 30)⟩] [] []) (.cond (.t 26) (.seq (.reg [⟨none, some 31, .build [(.lit (.int .i64 0)), (.lit (.bool false)), (.lit (.bool false)), (.lit (.int .i64 0)), (.lit (.int .u8 0)), (.lit (.int .u8 0)), (.lit (.int .u8 0)), (.lit (.int .u8 0)), (.lit (.int .u8 0)), (.lit (.int .u8 0)), (.lit (.int .u8 0)), (.lit (.int .u8 0))] []⟩, ⟨none, none, .store 12 (.t 2) (.t 31)⟩, ⟨none, some 3, .copy (.c (.lit (.int .i64 11)))⟩] [] []) .ret) .skip))))))) (.seq (.reg [⟨none, some 33, .copy (.t 0)⟩, ⟨none, some 34, .call 116 [(.t 33)]⟩, ⟨none, some 32, .copy (.t 34)⟩, ⟨none, some 35, .extract (.t 32) 0⟩, ⟨none, some 36, .extract (.t 32) 1⟩, ⟨none, some 6, .alloc [(.lit (.bool false)), (.lit (.bool false)), (.lit (.int .i64 0)), (.lit (.int .i64 0)), (.lit (.int .i64 0))]⟩, ⟨none, none, .store 5 (.t 6) (.t 35)⟩, ⟨none, some 7, .copy (.t 36)⟩] [] []) (.seq (.reg [⟨none, some 37, .copy (.t 0)⟩, ⟨none, some 38, .slice 1 (.t 37) (some (.c (.lit (.int .i64 1)))) (some (.c (.lit (.int .i64 12)))) none⟩, ⟨none, some 39, .call 117 [(.t 38)]⟩, ⟨none, some 40, .fieldA 0 (.t 6)⟩, ⟨none, some 41, .load false 1 (.t 40)⟩, ⟨none, some 42, .fieldA 1 (.t 6)⟩, ⟨none, some 43, .load false 1 (.t 42)⟩, ⟨none, some 44, .fieldA 4 (.t 6)⟩, ⟨none, some 45, .load false 1 (.t 44)⟩, ⟨none, some 46, .build [(.lit (.int .i64 0)), (.lit (.bool false)), (.lit (.bool false)), (.lit (.int .i64 0)), (.lit (.int .u8 0)), (.lit (.int .u8 0)), (.lit (.int .u8 0)), (.lit (.int .u8 0)), (.lit (.int .u8 0)), (.lit (.int .u8 0)), (.lit (.int .u8 0)), (.lit (.int .u8 0))] [(0, 1, (.t 39)), (1, 1, (.t 41)), (2, 1, (.t 43)), (3, 1, (.t 45))]⟩, ⟨none, some 8, .alloc [(.lit (.int .i64 0)), (.lit (.bool false)), (.lit (.bool false)), (.lit (.int .i64 0)), (.lit (.int .u8 0)), (.lit (.int .u8 0)), (.lit (.int .u8 0)), (.lit (.int .u8 0)), (.lit (.int .u8 0)), (.lit (.int .u8 0)), (.lit (.int .u8 0)), (.lit (.int .u8 0))]⟩, ⟨none, none, .store 12 (.t 8) (.t 46)⟩] [(4, 2), (4, 10), (6, 2), (6, 10), (8, 2), (8, 10)] []) (.seq (.seq (.reg [⟨none, some 47, .fieldA 0 (.t 6)⟩, ⟨none, some 48, .load false 1 (.t 47)⟩] [] []) (.cond (.t 48) (.reg [⟨none, some 49, .fieldA 0 (.t 8)⟩, ⟨none, some 50, .load false 1 (.t 49)⟩, ⟨none, some 51, .bin .shl (.t 50) (.c (.lit (.int .u64 18)))⟩, ⟨none, some 52, .copy (.t 0)⟩, ⟨none, some 53, .slice 1 (.t 52) (some (.c (.lit (.int .i64 14)))) (some (.c (.lit (.int .i64 32)))) none⟩, ⟨none, some 54, .call 117 [(.t 53)]⟩, ⟨none, some 55, .bin .or (.t 51) (.t 54)⟩, ⟨none, some 56, .fieldA 0 (.t 8)⟩, ⟨none, none, .store 1 (.t 56) (.t 55)⟩] [(1, 5)] []) .skip)) (.seq (.seq (.reg [⟨none, some 57, .copy (.t 4)⟩, ⟨none, some 58, .fieldA 3 (.t 6)⟩, ⟨none, some 59, .load false 1 (.t 58)⟩, ⟨none, some 60, .bin .sub (.t 57) (.t 59)⟩, ⟨none, some 61, .bin .quo (.t 60) (.c (.lit (.int .i64 8)))⟩, ⟨none, some 62, .copy (.c (.lit (.int .i64 0)))⟩] [] []) (.block 1 (.loop [0, 2, 6, 8, 61, 62] L88_0))) (.seq (.reg [⟨none, some 84, .load true 12 (.t 8)⟩, ⟨none, none, .store 12 (.t 2) (.t 84)⟩, ⟨none, some 3, .copy (.c (.lit (.int .i64 0)))⟩] [] []) .ret)))))))), [.cell 2 true 12, .tmp 3]⟩
/- slices.Max[[]byte,byte] -/
def L90_0 : ICode := (.seq (.seq (.reg [⟨none, some 12, .copy (.t 4)⟩, ⟨none, some 13, .copy (.t 0)⟩, ⟨none, some 14, .len (.t 13)⟩, ⟨none, some 15, .bin .lss (.t 12) (.t 14)⟩] [] []) (.cond (.t 15) .skip (.exit 0))) (.seq (.block 1 (.reg [⟨none, some 18, .copy (.t 3)⟩, ⟨none, some 19, .copy (.t 0)⟩, ⟨none, some 20, .copy (.t 4)⟩, ⟨none, some 21, .idxS 1 (.t 19) (.t 20)⟩, ⟨none, some 22, .load false 1 (.t 21)⟩, ⟨none, some 23, .maxI (.t 18) [(.t 22)]⟩, ⟨none, some 3, .copy (.t 23)⟩] [] [])) (.reg [⟨none, some 16, .copy (.t 4)⟩, ⟨none, some 17, .bin .add (.t 16) (.c (.lit (.int .i64 1)))⟩, ⟨none, some 4, .copy (.t 17)⟩] [] [])))
def ir90 : IFn := ⟨(.seq (.reg [⟨none, some 2, .copy (.c (.lit (.int .u8 0)))⟩] [] []) (.seq (.seq (.reg [⟨none, some 5, .copy (.t 0)⟩, ⟨none, some 6, .len (.t 5)⟩, ⟨none, some 7, .bin .lss (.t 6) (.c (.lit (.int .i64 1)))⟩] [] []) (.cond (.t 7) (.reg [⟨none, some 8, .mkIface 9 (.c (.lit (.string ⟨#[115, 108, 105, 99, 101, 115, 46, 77, 97, 120, 58, 32, 101, 109, 112, 116, 121, 32, 108, 105, 115, 116]⟩)))⟩, ⟨none, none, .fail⟩] [] []) .skip)) (.seq (.reg [⟨none, some 9, .copy (.t 0)⟩, ⟨none, some 10, .idxS 1 (.t 9) (.c (.lit (.int .i64 0)))⟩, ⟨none, some 11, .load false 1 (.t 10)⟩, ⟨none, some 3, .copy (.t 11)⟩] [] []) (.seq (.seq (.reg [⟨none, some 4, .copy (.c (.lit (.int .i64 1)))⟩] [] []) (.block 0 (.loop [0, 3, 4] L90_0))) (.seq (.reg [⟨none, some 24, .copy (.t 3)⟩, ⟨none, some 2, .copy (.t 24)⟩] [] []) .ret))))), [.tmp 2]⟩
/- field.Bits -/
def L92_0 : ICode := (.seq (.reg [⟨none, some 42, .bin .lss (.t 41) (.t 40)⟩] [] []) (.seq (.cond (.t 42) .skip (.exit 0)) (.seq (.block 1 (.seq (.reg [⟨none, some 43, .idxS 1 (.t 39) (.t 41)⟩, ⟨none, some 44, .load false 1 (.t 43)⟩, ⟨none, some 11, .copy (.t 44)⟩] [] []) (.reg [⟨none, some 45, .copy (.t 8)⟩, ⟨none, some 46, .copy (.t 11)⟩, ⟨none, some 47, .toInt .u64 (.t 46)⟩, ⟨none, some 48, .callV (.t 45) [(.t 47), (.c (.lit (.int .i64 8)))]⟩] [] []))) (.reg [⟨none, some 49, .bin .add (.t 41) (.c (.lit (.int .i64 1)))⟩, ⟨none, some 41, .copy (.t 49)⟩] [] []))))
def ir92 : IFn := ⟨(.seq (.reg [⟨none, some 1, .box 12 (.t 0)⟩, ⟨none, some 2, .copy (.c nilS)⟩, ⟨none, some 3, .copy (.c (.lit (.int .i64 0)))⟩] [] []) (.seq (.reg [⟨none, some 13, .load true 12 (.t 1)⟩, ⟨none, some 14, .call 125 [(.t 13)]⟩, ⟨none, some 12, .copy (.t 14)⟩, ⟨none, some 15, .extract (.t 12) 0⟩, ⟨none, some 16, .extract (.t 12) 1⟩, ⟨none, some 4, .copy (.t 15)⟩, ⟨none, some 5, .copy (.t 16)⟩] [] []) (.seq (.seq (.reg [⟨none, some 17, .copy (.t 5)⟩, ⟨none, some 18, .bin .neq (.t 17) (.c (.lit (.int .i64 0)))⟩] [] []) (.cond (.t 18) (.seq (.reg [⟨none, some 19, .copy (.t 5)⟩, ⟨none, some 2, .copy (.c nilS)⟩, ⟨none, some 3, .copy (.t 19)⟩] [] []) .ret) .skip)) (.seq (.reg [⟨none, some 20, .mkSlice true 1 [(.lit (.int .i64 0))] 1 [(0, (.c (.lit (.int .i64 0))))]⟩, ⟨none, some 21, .copy (.t 4)⟩, ⟨none, some 22, .append true 1 8 (.t 20) (.t 21)⟩, ⟨none, some 6, .alloc [nilS]⟩, ⟨none, none, .store 1 (.t 6) (.t 22)⟩] [] []) (.seq (.reg [⟨none, some 7, .alloc [(.lit (.int .i64 0))]⟩, ⟨none, none, .store 1 (.t 7) (.c (.lit (.int .i64 0)))⟩] [] []) (.seq (.reg [⟨none, some 23, .mkFunc (.func 126) [] [(.t 7), (.t 6)]⟩, ⟨none, some 8, .copy (.t 23)⟩] [] []) (.seq (.reg [⟨none, some 9, .copy (.c (.lit (.int .i64 1)))⟩] [] []) (.seq (.seq (.reg [⟨none, some 24, .fieldA 1 (.t 1)⟩, ⟨none, some 25, .load false 1 (.t 24)⟩] [] []) (.cond (.t 25) (.reg [⟨none, some 9, .copy (.c (.lit (.int .i64 2)))⟩] [] []) .skip)) (.seq (.reg [⟨none, some 26, .copy (.t 8)⟩, ⟨none, some 27, .fieldA 3 (.t 1)⟩, ⟨none, some 28, .load false 1 (.t 27)⟩, ⟨none, some 29, .toInt .u64 (.t 28)⟩, ⟨none, some 30, .copy (.t 9)⟩, ⟨none, some 31, .bin .add (.t 30) (.c (.lit (.int .i64 4)))⟩, ⟨none, some 32, .callV (.t 26) [(.t 29), (.t 31)]⟩] [] []) (.seq (.seq (.reg [⟨none, some 33, .fieldA 2 (.t 1)⟩, ⟨none, some 34, .load false 1 (.t 33)⟩, ⟨none, some 35, .un .not (.t 34)⟩] [] []) (.cond (.t 35) (.seq (.reg [⟨none, some 36, .fieldA 4 (.t 1)⟩, ⟨none, some 37, .fieldA 3 (.t 1)⟩, ⟨none, some 38, .load false 1 (.t 37)⟩, ⟨none, some 39, .sliceArr 8 1 (.t 36) none (some (.t 38))⟩, ⟨none, some 40, .len (.t 39)⟩, ⟨none, some 41, .copy (.c (.lit (.int .i64 0)))⟩] [] []) (.block 0 (.loop [6, 7, 8, 39, 40, 41] L92_0))) .skip)) (.seq (.seq (.reg [⟨none, some 50, .load false 1 (.t 7)⟩, ⟨none, some 51, .bin .neq (.t 50) (.c (.lit (.int .i64 0)))⟩] [] []) (.cond (.t 51) (.seq (.reg [⟨none, some 52, .load false 1 (.t 7)⟩, ⟨none, some 2, .copy (.c nilS)⟩, ⟨none, some 3, .copy (.t 52)⟩] [] []) .ret) .skip)) (.seq (.reg [⟨none, some 53, .load false 1 (.t 6)⟩, ⟨none, some 2, .copy (.t 53)⟩, ⟨none, some 3, .copy (.c (.lit (.int .i64 0)))⟩] [] []) .ret)))))))))))), [.tmp 2, .tmp 3]⟩
/- crc15.Sum -/
def L93_0 : ICode := (.seq (.reg [⟨none, some 14, .bin .lss (.t 13) (.t 12)⟩] [] []) (.seq (.cond (.t 14) .skip (.exit 0)) (.seq (.block 1 (.seq (.reg [⟨none, some 15, .copy (.t 13)⟩, ⟨none, some 6, .copy (.t 15)⟩] [] []) (.reg [⟨none, some 16, .copy (.t 5)⟩, ⟨none, some 17, .copy (.t 0)⟩, ⟨none, some 18, .copy (.t 6)⟩, ⟨none, some 19, .idxS 1 (.t 17) (.t 18)⟩, ⟨none, some 20, .load false 1 (.t 19)⟩, ⟨none, some 21, .callV (.t 16) [(.t 20)]⟩] [] []))) (.reg [⟨none, some 22, .bin .add (.t 13) (.c (.lit (.int .i64 1)))⟩, ⟨none, some 13, .copy (.t 22)⟩] [] []))))
def ir93 : IFn := ⟨(.seq (.reg [⟨none, some 2, .copy (.c (.lit (.int .i64 0)))⟩, ⟨none, some 3, .copy (.c (.lit (.int .i64 0)))⟩] [] []) (.seq (.seq (.reg [⟨none, some 7, .copy (.t 0)⟩, ⟨none, some 8, .call 97 [(.t 7)]⟩, ⟨none, some 9, .bin .geq (.t 8) (.c (.lit (.int .i64 0)))⟩] [] []) (.cond (.t 9) (.seq (.reg [⟨none, some 2, .copy (.c (.lit (.int .i64 0)))⟩, ⟨none, some 3, .copy (.c (.lit (.int .i64 10)))⟩] [] []) .ret) .skip)) (.seq (.reg [⟨none, some 4, .alloc [(.lit (.int .i64 0))]⟩, ⟨none, none, .store 1 (.t 4) (.c (.lit (.int .i64 0)))⟩] [] []) (.seq (.reg [⟨none, some 10, .mkFunc (.func 128) [] [(.t 4)]⟩, ⟨none, some 5, .copy (.t 10)⟩] [] []) (.seq (.seq (.reg [⟨none, some 11, .copy (.t 0)⟩, ⟨none, some 12, .len (.t 11)⟩, ⟨none, some 13, .copy (.c (.lit (.int .i64 0)))⟩] [] []) (.block 0 (.loop [0, 4, 5, 12, 13] L93_0))) (.seq (.reg [⟨none, some 23, .load false 1 (.t 4)⟩, ⟨none, some 2, .copy (.t 23)⟩, ⟨none, some 3, .copy (.c (.lit (.int .i64 0)))⟩] [] []) .ret)))))), [.tmp 2, .tmp 3]⟩
/- crc15.Bits -/
def ir94 : IFn := ⟨(.seq (.reg [⟨none, some 2, .copy (.c nilS)⟩, ⟨none, some 3, .copy (.c (.lit (.int .i64 0)))⟩] [] []) (.seq (.seq (.reg [⟨none, some 4, .copy (.t 0)⟩, ⟨none, some 5, .call 130 [(.t 4)]⟩, ⟨none, some 6, .un .not (.t 5)⟩] [] []) (.cond (.t 6) (.seq (.reg [⟨none, some 2, .copy (.c nilS)⟩, ⟨none, some 3, .copy (.c (.lit (.int .i64 10)))⟩] [] []) .ret) .skip)) (.seq (.reg [⟨none, some 7, .copy (.t 0)⟩, ⟨none, some 8, .toInt .u64 (.t 7)⟩, ⟨none, some 9, .call 127 [(.t 8), (.c (.lit (.int .i64 15)))]⟩, ⟨none, some 10, .extract (.t 9) 0⟩, ⟨none, some 11, .extract (.t 9) 1⟩, ⟨none, some 2, .copy (.t 10)⟩, ⟨none, some 3, .copy (.t 11)⟩] [] []) .ret))), [.tmp 2, .tmp 3]⟩
/- slices.Concat[[]int,int] -/
def L95_0 : ICode := (.seq (.reg [⟨none, some 12, .bin .lss (.t 11) (.t 10)⟩] [] []) (.seq (.cond (.t 12) .skip (.exit 0)) (.seq (.block 1 (.seq (.reg [⟨none, some 13, .idxS 1 (.t 9) (.t 11)⟩, ⟨none, some 14, .load false 1 (.t 13)⟩, ⟨none, some 5, .copy (.t 14)⟩] [] []) (.seq (.reg [⟨none, some 15, .copy (.t 3)⟩, ⟨none, some 16, .copy (.t 5)⟩, ⟨none, some 17, .len (.t 16)⟩, ⟨none, some 18, .bin .add (.t 15) (.t 17)⟩, ⟨none, some 3, .copy (.t 18)⟩] [] []) (.seq (.reg [⟨none, some 19, .copy (.t 3)⟩, ⟨none, some 20, .bin .lss (.t 19) (.c (.lit (.int .i64 0)))⟩] [] []) (.cond (.t 20) (.reg [⟨none, some 21, .mkIface 9 (.c (.lit (.string ⟨#[108, 101, 110, 32, 111, 117, 116, 32, 111, 102, 32, 114, 97, 110, 103, 101]⟩)))⟩, ⟨none, none, .fail⟩] [] []) .skip))))) (.reg [⟨none, some 22, .bin .add (.t 11) (.c (.lit (.int .i64 1)))⟩, ⟨none, some 11, .copy (.t 22)⟩] [] []))))
def L95_1 : ICode := (.seq (.reg [⟨none, some 28, .bin .lss (.t 27) (.t 26)⟩] [] []) (.seq (.cond (.t 28) .skip (.exit 2)) (.seq (.block 3 (.seq (.reg [⟨none, some 29, .idxS 1 (.t 25) (.t 27)⟩, ⟨none, some 30, .load false 1 (.t 29)⟩, ⟨none, some 8, .copy (.t 30)⟩] [] []) (.reg [⟨none, some 31, .copy (.t 6)⟩, ⟨none, some 32, .copy (.t 8)⟩, ⟨none, some 33, .append true 1 8 (.t 31) (.t 32)⟩, ⟨none, some 6, .copy (.t 33)⟩] [] []))) (.reg [⟨none, some 34, .bin .add (.t 27) (.c (.lit (.int .i64 1)))⟩, ⟨none, some 27, .copy (.t 34)⟩] [] []))))
def ir95 : IFn := ⟨(.seq (.reg [⟨none, some 2, .copy (.c nilS)⟩] [] []) (.seq (.reg [⟨none, some 3, .copy (.c (.lit (.int .i64 0)))⟩] [] []) (.seq (.seq (.reg [⟨none, some 9, .copy (.t 0)⟩, ⟨none, some 10, .len (.t 9)⟩, ⟨none, some 11, .copy (.c (.lit (.int .i64 0)))⟩] [] []) (.block 0 (.loop [0, 3, 9, 10, 11] L95_0))) (.seq (.reg [⟨none, some 23, .copy (.t 3)⟩, ⟨none, some 24, .call 131 [(.c nilS), (.t 23)]⟩, ⟨none, some 6, .copy (.t 24)⟩] [] []) (.seq (.seq (.reg [⟨none, some 25, .copy (.t 0)⟩, ⟨none, some 26, .len (.t 25)⟩, ⟨none, some 27, .copy (.c (.lit (.int .i64 0)))⟩] [] []) (.block 2 (.loop [6, 25, 26, 27] L95_1))) (.seq (.reg [⟨none, some 35, .copy (.t 6)⟩, ⟨none, some 2, .copy (.t 35)⟩] [] []) .ret)))))), [.tmp 2]⟩
/- slices.Repeat[[]int,int] -/
def L96_0 : ICode := (.seq (.seq (.reg [⟨none, some 34, .copy (.t 8)⟩, ⟨none, some 35, .copy (.t 7)⟩, ⟨none, some 36, .len (.t 35)⟩, ⟨none, some 37, .bin .lss (.t 34) (.t 36)⟩] [] []) (.cond (.t 37) .skip (.exit 0))) (.block 1 (.reg [⟨none, some 38, .copy (.t 8)⟩, ⟨none, some 39, .copy (.t 7)⟩, ⟨none, some 40, .copy (.t 8)⟩, ⟨none, some 41, .slice 1 (.t 39) (some (.t 40)) none none⟩, ⟨none, some 42, .copy (.t 7)⟩, ⟨none, some 43, .copy (.t 8)⟩, ⟨none, some 44, .slice 1 (.t 42) none (some (.t 43)) none⟩, ⟨none, some 45, .copyS 1 (.t 41) (.t 44)⟩, ⟨none, some 46, .bin .add (.t 38) (.t 45)⟩, ⟨none, some 8, .copy (.t 46)⟩] [] [])))
def ir96 : IFn := ⟨(.seq (.reg [⟨none, some 4, .copy (.c nilS)⟩] [] []) (.seq (.seq (.reg [⟨none, some 9, .copy (.t 1)⟩, ⟨none, some 10, .bin .lss (.t 9) (.c (.lit (.int .i64 0)))⟩] [] []) (.cond (.t 10) (.reg [⟨none, some 11, .mkIface 9 (.c (.lit (.string ⟨#[99, 97, 110, 110, 111, 116, 32, 98, 101, 32, 110, 101, 103, 97, 116, 105, 118, 101]⟩)))⟩, ⟨none, none, .fail⟩] [] []) .skip)) (.seq (.reg [⟨none, some 13, .copy (.t 0)⟩, ⟨none, some 14, .len (.t 13)⟩, ⟨none, some 15, .toInt .u64 (.t 14)⟩, ⟨none, some 16, .copy (.t 1)⟩, ⟨none, some 17, .toInt .u64 (.t 16)⟩, ⟨none, some 18, .call 132 [(.t 15), (.t 17)]⟩, ⟨none, some 12, .copy (.t 18)⟩, ⟨none, some 19, .extract (.t 12) 0⟩, ⟨none, some 20, .extract (.t 12) 1⟩, ⟨none, some 5, .copy (.t 19)⟩, ⟨none, some 6, .copy (.t 20)⟩] [] []) (.seq (.seq (.reg [⟨none, some 21, .copy (.t 5)⟩, ⟨none, some 22, .bin .gtr (.t 21) (.c (.lit (.int .u64 0)))⟩, ⟨none, some 23, .copy (.t 22)⟩, ⟨some (23, false), some 24, .copy (.t 6)⟩, ⟨some (23, false), some 25, .bin .gtr (.t 24) (.c (.lit (.int .u64 9223372036854775807)))⟩, ⟨none, some 26, .pick (.t 23) (.c (.lit (.bool true))) (.t 25)⟩] [] []) (.cond (.t 26) (.reg [⟨none, some 27, .mkIface 9 (.c (.lit (.string ⟨#[116, 104, 101, 32, 114, 101, 115, 117, 108, 116, 32, 111, 102, 32, 40, 108, 101, 110, 40, 120, 41, 32, 42, 32, 99, 111, 117, 110, 116, 41, 32, 111, 118, 101, 114, 102, 108, 111, 119, 115]⟩)))⟩, ⟨none, none, .fail⟩] [] []) .skip)) (.seq (.reg [⟨none, some 28, .copy (.t 6)⟩, ⟨none, some 29, .toInt .i64 (.t 28)⟩, ⟨none, some 30, .make true 1 8 [(.lit (.int .i64 0))] (.t 29) (.t 29)⟩, ⟨none, some 7, .copy (.t 30)⟩] [] []) (.seq (.reg [⟨none, some 31, .copy (.t 7)⟩, ⟨none, some 32, .copy (.t 0)⟩, ⟨none, some 33, .copyS 1 (.t 31) (.t 32)⟩, ⟨none, some 8, .copy (.t 33)⟩] [] []) (.seq (.block 0 (.loop [7, 8] L96_0)) (.seq (.reg [⟨none, some 47, .copy (.t 7)⟩, ⟨none, some 4, .copy (.t 47)⟩] [] []) .ret)))))))), [.tmp 4]⟩
/- bits.Check -/
def ir97 : IFn := ⟨(.seq (.reg [⟨none, some 2, .copy (.c (.lit (.int .i64 0)))⟩] [] []) (.seq (.reg [⟨none, some 3, .copy (.t 0)⟩, ⟨none, some 4, .call 133 [(.t 3), (.c (.func (.func 134) [] []))]⟩, ⟨none, some 2, .copy (.t 4)⟩] [] []) .ret)), [.tmp 2]⟩
/- stuff.Add$1 -/
def ir98 : IFn := ⟨(.seq (.reg [⟨none, some 4, .copy (.c (.lit (.bool false)))⟩] [] []) (.seq (.seq (.reg [⟨none, some 5, .load false 1 (.t 1)⟩, ⟨none, some 6, .len (.t 5)⟩, ⟨none, some 7, .bin .gtr (.t 6) (.c (.lit (.int .i64 0)))⟩, ⟨none, some 8, .copy (.t 7)⟩, ⟨some (8, true), some 9, .load false 1 (.t 1)⟩, ⟨some (8, true), some 10, .load false 1 (.t 1)⟩, ⟨some (8, true), some 11, .len (.t 10)⟩, ⟨some (8, true), some 12, .bin .sub (.t 11) (.c (.lit (.int .i64 1)))⟩, ⟨some (8, true), some 13, .idxS 1 (.t 9) (.t 12)⟩, ⟨some (8, true), some 14, .load false 1 (.t 13)⟩, ⟨some (8, true), some 15, .copy (.t 0)⟩, ⟨some (8, true), some 16, .bin .eql (.t 14) (.t 15)⟩, ⟨none, some 17, .pick (.t 8) (.t 16) (.c (.lit (.bool false)))⟩] [] []) (.cond (.t 17) (.reg [⟨none, some 18, .load false 1 (.t 2)⟩, ⟨none, some 19, .bin .add (.t 18) (.c (.lit (.int .i64 1)))⟩, ⟨none, none, .store 1 (.t 2) (.t 19)⟩] [] []) (.reg [⟨none, none, .store 1 (.t 2) (.c (.lit (.int .i64 1)))⟩] [] []))) (.seq (.reg [⟨none, some 20, .load false 1 (.t 1)⟩, ⟨none, some 21, .copy (.t 0)⟩, ⟨none, some 22, .mkSlice true 1 [(.lit (.int .i64 0))] 1 [(0, (.t 21))]⟩, ⟨none, some 23, .append true 1 8 (.t 20) (.t 22)⟩, ⟨none, none, .store 1 (.t 1) (.t 23)⟩] [] []) (.seq (.reg [⟨none, some 24, .load false 1 (.t 2)⟩, ⟨none, some 25, .bin .eql (.t 24) (.c (.lit (.int .i64 5)))⟩, ⟨none, some 4, .copy (.t 25)⟩] [] []) .ret)))), [.tmp 4]⟩
/- stuff.other -/
def ir99 : IFn := ⟨(.seq (.reg [⟨none, some 2, .copy (.c (.lit (.int .i64 0)))⟩] [] []) (.seq (.reg [⟨none, some 3, .copy (.t 0)⟩, ⟨none, some 4, .bin .sub (.c (.lit (.int .i64 1))) (.t 3)⟩, ⟨none, some 2, .copy (.t 4)⟩] [] []) .ret)), [.tmp 2]⟩
/- field.Next -/
def L113_0 : ICode := (.seq (.reg [⟨none, some 53, .bin .lss (.t 52) (.c (.lit (.int .i64 9)))⟩] [] []) (.seq (.cond (.t 53) .skip (.exit 1)) (.seq (.block 2 (.seq (.reg [⟨none, some 54, .copy (.t 52)⟩, ⟨none, some 55, .idxV false 9 1 (.t 51) (.t 52)⟩, ⟨none, some 9, .copy (.t 54)⟩, ⟨none, some 10, .copy (.t 55)⟩] [] []) (.seq (.seq (.reg [⟨none, some 56, .copy (.t 5)⟩, ⟨none, some 57, .copy (.t 8)⟩, ⟨none, some 58, .copy (.t 10)⟩, ⟨none, some 59, .bin .add (.t 57) (.t 58)⟩, ⟨none, some 60, .bin .lss (.t 56) (.t 59)⟩] [] []) (.cond (.t 60) (.seq (.reg [⟨none, some 61, .copy (.t 9)⟩, ⟨none, some 62, .copy (.t 5)⟩, ⟨none, some 63, .copy (.t 8)⟩, ⟨none, some 64, .bin .sub (.t 62) (.t 63)⟩, ⟨none, some 2, .copy (.t 61)⟩, ⟨none, some 3, .copy (.t 64)⟩, ⟨none, some 4, .copy (.c (.lit (.int .i64 0)))⟩] [] []) .ret) .skip)) (.reg [⟨none, some 65, .copy (.t 8)⟩, ⟨none, some 66, .copy (.t 10)⟩, ⟨none, some 67, .bin .add (.t 65) (.t 66)⟩, ⟨none, some 8, .copy (.t 67)⟩] [] [])))) (.reg [⟨none, some 68, .bin .add (.t 52) (.c (.lit (.int .i64 1)))⟩, ⟨none, some 52, .copy (.t 68)⟩] [] []))))
def ir113 : IFn := ⟨(.seq (.reg [⟨none, some 2, .copy (.c (.lit (.int .i64 0)))⟩, ⟨none, some 3, .copy (.c (.lit (.int .i64 0)))⟩, ⟨none, some 4, .copy (.c (.lit (.int .i64 0)))⟩] [] []) (.seq (.reg [⟨none, some 11, .copy (.t 0)⟩, ⟨none, some 12, .len (.t 11)⟩, ⟨none, some 5, .copy (.t 12)⟩] [] []) (.seq (.seq (.reg [⟨none, some 13, .copy (.t 0)⟩, ⟨none, some 14, .call 97 [(.t 13)]⟩, ⟨none, some 15, .bin .geq (.t 14) (.c (.lit (.int .i64 0)))⟩] [] []) (.cond (.t 15) (.seq (.reg [⟨none, some 2, .copy (.c (.lit (.int .i64 0)))⟩, ⟨none, some 3, .copy (.c (.lit (.int .i64 0)))⟩, ⟨none, some 4, .copy (.c (.lit (.int .i64 10)))⟩] [] []) .ret) .skip)) (.seq (.reg [⟨none, some 17, .copy (.t 0)⟩, ⟨none, some 18, .call 116 [(.t 17)]⟩, ⟨none, some 16, .copy (.t 18)⟩, ⟨none, some 19, .extract (.t 16) 0⟩, ⟨none, some 20, .extract (.t 16) 1⟩, ⟨none, some 6, .alloc [(.lit (.bool false)), (.lit (.bool false)), (.lit (.int .i64 0)), (.lit (.int .i64 0)), (.lit (.int .i64 0))]⟩, ⟨none, none, .store 5 (.t 6) (.t 19)⟩, ⟨none, some 7, .copy (.t 20)⟩] [] []) (.seq (.block 0 (.seq (.reg [⟨none, some 22, .copy (.t 5)⟩, ⟨none, some 23, .bin .eql (.t 22) (.c (.lit (.int .i64 0)))⟩, ⟨none, some 21, .copy (.t 23)⟩] [] []) (.cond (.t 21) (.seq (.reg [⟨none, some 2, .copy (.c (.lit (.int .i64 0)))⟩, ⟨none, some 3, .copy (.c (.lit (.int .i64 0)))⟩, ⟨none, some 4, .copy (.c (.lit (.int .i64 0)))⟩] [] []) .ret) (.seq (.reg [⟨none, some 25, .copy (.t 5)⟩, ⟨none, some 26, .bin .leq (.t 25) (.c (.lit (.int .i64 13)))⟩, ⟨none, some 27, .copy (.t 26)⟩, ⟨some (27, false), some 28, .fieldA 0 (.t 6)⟩, ⟨some (27, false), some 29, .load false 1 (.t 28)⟩, ⟨some (27, false), some 30, .copy (.t 29)⟩, ⟨some (30, true), some 31, .copy (.t 5)⟩, ⟨some (30, true), some 32, .bin .leq (.t 31) (.c (.lit (.int .i64 32)))⟩, ⟨some (27, false), some 33, .pick (.t 30) (.t 32) (.c (.lit (.bool false)))⟩, ⟨none, some 34, .pick (.t 27) (.c (.lit (.bool true))) (.t 33)⟩, ⟨none, some 24, .copy (.t 34)⟩] [] []) (.cond (.t 24) (.seq (.reg [⟨none, some 35, .copy (.t 5)⟩, ⟨none, some 36, .bin .sub (.t 35) (.c (.lit (.int .i64 1)))⟩, ⟨none, some 2, .copy (.c (.lit (.int .i64 1)))⟩, ⟨none, some 3, .copy (.t 36)⟩, ⟨none, some 4, .copy (.c (.lit (.int .i64 0)))⟩] [] []) .ret) (.seq (.reg [⟨none, some 38, .copy (.t 7)⟩, ⟨none, some 39, .un .not (.t 38)⟩, ⟨none, some 37, .copy (.t 39)⟩] [] []) (.cond (.t 37) (.seq (.reg [⟨none, some 40, .copy (.t 5)⟩, ⟨none, some 41, .fieldA 2 (.t 6)⟩, ⟨none, some 42, .load false 1 (.t 41)⟩, ⟨none, some 43, .bin .sub (.t 40) (.t 42)⟩, ⟨none, some 2, .copy (.c (.lit (.int .i64 2)))⟩, ⟨none, some 3, .copy (.t 43)⟩, ⟨none, some 4, .copy (.c (.lit (.int .i64 0)))⟩] [] []) .ret) .skip))))))) (.seq (.reg [⟨none, some 44, .fieldA 3 (.t 6)⟩, ⟨none, some 45, .load false 1 (.t 44)⟩, ⟨none, some 8, .copy (.t 45)⟩] [] []) (.seq (.seq (.reg [⟨none, some 46, .load true 5 (.t 6)⟩, ⟨none, some 47, .call 145 [(.t 46)]⟩, ⟨none, some 48, .fieldA 3 (.t 6)⟩, ⟨none, some 49, .load false 1 (.t 48)⟩, ⟨none, some 50, .bin .sub (.t 47) (.t 49)⟩, ⟨none, some 51, .build [(.lit (.int .i64 0)), (.lit (.int .i64 0)), (.lit (.int .i64 0)), (.lit (.int .i64 0)), (.lit (.int .i64 0)), (.lit (.int .i64 0)), (.lit (.int .i64 0)), (.lit (.int .i64 0)), (.lit (.int .i64 0))] [(3, 1, (.t 50)), (4, 1, (.c (.lit (.int .i64 15)))), (5, 1, (.c (.lit (.int .i64 1)))), (6, 1, (.c (.lit (.int .i64 1)))), (7, 1, (.c (.lit (.int .i64 1)))), (8, 1, (.c (.lit (.int .i64 7))))]⟩, ⟨none, some 52, .copy (.c (.lit (.int .i64 0)))⟩] [(3, 1)] []) (.block 1 (.loop [5, 8, 51, 52] L113_0))) (.seq (.seq (.reg [⟨none, some 69, .copy (.t 5)⟩, ⟨none, some 70, .copy (.t 8)⟩, ⟨none, some 71, .bin .gtr (.t 69) (.t 70)⟩] [] []) (.cond (.t 71) (.seq (.reg [⟨none, some 2, .copy (.c (.lit (.int .i64 0)))⟩, ⟨none, some 3, .copy (.c (.lit (.int .i64 0)))⟩, ⟨none, some 4, .copy (.c (.lit (.int .i64 12)))⟩] [] []) .ret) .skip)) (.seq (.reg [⟨none, some 2, .copy (.c (.lit (.int .i64 9)))⟩, ⟨none, some 3, .copy (.c (.lit (.int .i64 0)))⟩, ⟨none, some 4, .copy (.c (.lit (.int .i64 0)))⟩] [] []) .ret))))))))), [.tmp 2, .tmp 3, .tmp 4]⟩
/- field.Right -/
def ir114 : IFn := ⟨(.seq (.reg [⟨none, some 2, .copy (.c (.lit (.bool false)))⟩, ⟨none, some 3, .copy (.c (.lit (.int .i64 0)))⟩] [] []) (.seq (.reg [⟨none, some 7, .copy (.t 0)⟩, ⟨none, some 8, .call 115 [(.t 7)]⟩, ⟨none, some 6, .copy (.t 8)⟩, ⟨none, some 9, .extract (.t 6) 0⟩, ⟨none, some 10, .extract (.t 6) 1⟩, ⟨none, some 4, .copy (.t 9)⟩, ⟨none, some 5, .copy (.t 10)⟩] [] []) (.seq (.block 0 (.seq (.reg [⟨none, some 12, .copy (.t 5)⟩, ⟨none, some 13, .bin .neq (.t 12) (.c (.lit (.int .i64 0)))⟩, ⟨none, some 11, .copy (.t 13)⟩] [] []) (.cond (.t 11) (.seq (.reg [⟨none, some 14, .copy (.t 5)⟩, ⟨none, some 2, .copy (.c (.lit (.bool false)))⟩, ⟨none, some 3, .copy (.t 14)⟩] [] []) .ret) (.seq (.reg [⟨none, some 16, .copy (.t 0)⟩, ⟨none, some 17, .len (.t 16)⟩, ⟨none, some 18, .copy (.t 4)⟩, ⟨none, some 19, .bin .add (.t 18) (.c (.lit (.int .i64 15)))⟩, ⟨none, some 20, .bin .lss (.t 17) (.t 19)⟩, ⟨none, some 15, .copy (.t 20)⟩] [] []) (.cond (.t 15) (.seq (.reg [⟨none, some 2, .copy (.c (.lit (.bool false)))⟩, ⟨none, some 3, .copy (.c (.lit (.int .i64 13)))⟩] [] []) .ret) .skip))))) (.seq (.reg [⟨none, some 21, .copy (.t 0)⟩, ⟨none, some 22, .copy (.t 4)⟩, ⟨none, some 23, .bin .add (.t 22) (.c (.lit (.int .i64 15)))⟩, ⟨none, some 24, .slice 1 (.t 21) none (some (.t 23)) none⟩, ⟨none, some 25, .call 146 [(.t 24)]⟩, ⟨none, some 2, .copy (.t 25)⟩, ⟨none, some 3, .copy (.c (.lit (.int .i64 0)))⟩] [] []) .ret)))), [.tmp 2, .tmp 3]⟩
/- field.Ahead -/
def ir115 : IFn := ⟨(.seq (.reg [⟨none, some 2, .copy (.c (.lit (.int .i64 0)))⟩, ⟨none, some 3, .copy (.c (.lit (.int .i64 0)))⟩] [] []) (.seq (.seq (.reg [⟨none, some 6, .copy (.t 0)⟩, ⟨none, some 7, .call 97 [(.t 6)]⟩, ⟨none, some 8, .bin .geq (.t 7) (.c (.lit (.int .i64 0)))⟩] [] []) (.cond (.t 8) (.seq (.reg [⟨none, some 2, .copy (.c (.lit (.int .i64 0)))⟩, ⟨none, some 3, .copy (.c (.lit (.int .i64 10)))⟩] [] []) .ret) .skip)) (.seq (.reg [⟨none, some 10, .copy (.t 0)⟩, ⟨none, some 11, .call 116 [(.t 10)]⟩, ⟨none, some 9, .copy (.t 11)⟩, ⟨none, some 12, .extract (.t 9) 0⟩, ⟨none, some 13, .extract (.t 9) 1⟩, ⟨none, some 4, .alloc [(.lit (.bool false)), (.lit (.bool false)), (.lit (.int .i64 0)), (.lit (.int .i64 0)), (.lit (.int .i64 0))]⟩, ⟨none, none, .store 5 (.t 4) (.t 12)⟩, ⟨none, some 5, .copy (.t 13)⟩] [] []) (.seq (.seq (.reg [⟨none, some 14, .copy (.t 5)⟩, ⟨none, some 15, .un .not (.t 14)⟩] [] []) (.cond (.t 15) (.seq (.reg [⟨none, some 2, .copy (.c (.lit (.int .i64 0)))⟩, ⟨none, some 3, .copy (.c (.lit (.int .i64 13)))⟩] [] []) .ret) .skip)) (.seq (.reg [⟨none, some 16, .load true 5 (.t 4)⟩, ⟨none, some 17, .call 145 [(.t 16)]⟩, ⟨none, some 2, .copy (.t 17)⟩, ⟨none, some 3, .copy (.c (.lit (.int .i64 0)))⟩] [] []) .ret))))), [.tmp 2, .tmp 3]⟩
/- field.read -/
def ir116 : IFn := ⟨(.seq (.reg [⟨none, some 2, .alloc [(.lit (.bool false)), (.lit (.bool false)), (.lit (.int .i64 0)), (.lit (.int .i64 0)), (.lit (.int .i64 0))]⟩, ⟨none, some 3, .copy (.c (.lit (.bool false)))⟩] [] []) (.seq (.seq (.reg [⟨none, some 8, .copy (.t 0)⟩, ⟨none, some 9, .len (.t 8)⟩, ⟨none, some 10, .bin .leq (.t 9) (.c (.lit (.int .i64 13)))⟩] [] []) (.cond (.t 10) (.seq (.reg [⟨none, some 11, .build [(.lit (.bool false)), (.lit (.bool false)), (.lit (.int .i64 0)), (.lit (.int .i64 0)), (.lit (.int .i64 0))] []⟩, ⟨none, none, .store 5 (.t 2) (.t 11)⟩, ⟨none, some 3, .copy (.c (.lit (.bool false)))⟩] [] []) .ret) .skip)) (.seq (.reg [⟨none, some 12, .copy (.t 0)⟩, ⟨none, some 13, .idxS 1 (.t 12) (.c (.lit (.int .i64 13)))⟩, ⟨none, some 14, .load false 1 (.t 13)⟩, ⟨none, some 15, .bin .eql (.t 14) (.c (.lit (.int .i64 1)))⟩, ⟨none, some 16, .build [(.lit (.bool false)), (.lit (.bool false)), (.lit (.int .i64 0)), (.lit (.int .i64 0)), (.lit (.int .i64 0))] [(0, 1, (.t 15)), (2, 1, (.c (.lit (.int .i64 14)))), (3, 1, (.c (.lit (.int .i64 19))))]⟩, ⟨none, some 4, .alloc [(.lit (.bool false)), (.lit (.bool false)), (.lit (.int .i64 0)), (.lit (.int .i64 0)), (.lit (.int .i64 0))]⟩, ⟨none, none, .store 5 (.t 4) (.t 16)⟩] [] []) (.seq (.reg [⟨none, some 5, .copy (.c (.lit (.int .i64 12)))⟩] [] []) (.seq (.seq (.reg [⟨none, some 17, .fieldA 0 (.t 4)⟩, ⟨none, some 18, .load false 1 (.t 17)⟩] [] []) (.cond (.t 18) (.reg [⟨none, some 5, .copy (.c (.lit (.int .i64 32)))⟩, ⟨none, some 19, .fieldA 2 (.t 4)⟩, ⟨none, none, .store 1 (.t 19) (.c (.lit (.int .i64 33)))⟩, ⟨none, some 20, .fieldA 3 (.t 4)⟩, ⟨none, none, .store 1 (.t 20) (.c (.lit (.int .i64 39)))⟩] [] []) .skip)) (.seq (.seq (.reg [⟨none, some 21, .copy (.t 0)⟩, ⟨none, some 22, .len (.t 21)⟩, ⟨none, some 23, .fieldA 3 (.t 4)⟩, ⟨none, some 24, .load false 1 (.t 23)⟩, ⟨none, some 25, .bin .lss (.t 22) (.t 24)⟩] [] []) (.cond (.t 25) (.seq (.reg [⟨none, some 26, .load true 5 (.t 4)⟩, ⟨none, none, .store 5 (.t 2) (.t 26)⟩, ⟨none, some 3, .copy (.c (.lit (.bool false)))⟩] [] []) .ret) .skip)) (.seq (.reg [⟨none, some 27, .copy (.t 0)⟩, ⟨none, some 28, .copy (.t 5)⟩, ⟨none, some 29, .idxS 1 (.t 27) (.t 28)⟩, ⟨none, some 30, .load false 1 (.t 29)⟩, ⟨none, some 31, .bin .eql (.t 30) (.c (.lit (.int .i64 1)))⟩, ⟨none, some 32, .fieldA 1 (.t 4)⟩, ⟨none, none, .store 1 (.t 32) (.t 31)⟩] [] []) (.seq (.reg [⟨none, some 34, .copy (.t 0)⟩, ⟨none, some 35, .fieldA 3 (.t 4)⟩, ⟨none, some 36, .load false 1 (.t 35)⟩, ⟨none, some 37, .bin .sub (.t 36) (.c (.lit (.int .i64 4)))⟩, ⟨none, some 38, .fieldA 3 (.t 4)⟩, ⟨none, some 39, .load false 1 (.t 38)⟩, ⟨none, some 40, .slice 1 (.t 34) (some (.t 37)) (some (.t 39)) none⟩, ⟨none, some 41, .call 147 [(.t 40)]⟩, ⟨none, some 33, .copy (.t 41)⟩, ⟨none, some 42, .extract (.t 33) 0⟩, ⟨none, some 43, .extract (.t 33) 1⟩, ⟨none, some 6, .copy (.t 42)⟩, ⟨none, some 7, .copy (.t 43)⟩] [] []) (.seq (.reg [⟨none, some 44, .copy (.t 6)⟩, ⟨none, some 45, .toInt .i64 (.t 44)⟩, ⟨none, some 46, .minI (.t 45) [(.c (.lit (.int .i64 8)))]⟩, ⟨none, some 47, .fieldA 4 (.t 4)⟩, ⟨none, none, .store 1 (.t 47) (.t 46)⟩] [] []) (.seq (.reg [⟨none, some 48, .load true 5 (.t 4)⟩, ⟨none, none, .store 5 (.t 2) (.t 48)⟩, ⟨none, some 3, .copy (.c (.lit (.bool true)))⟩] [] []) .ret)))))))))), [.cell 2 true 5, .tmp 3]⟩
/- field.value -/
def ir117 : IFn := ⟨(.seq (.reg [⟨none, some 2, .copy (.c (.lit (.int .i64 0)))⟩] [] []) (.seq (.reg [⟨none, some 6, .copy (.t 0)⟩, ⟨none, some 7, .call 147 [(.t 6)]⟩, ⟨none, some 5, .copy (.t 7)⟩, ⟨none, some 8, .extract (.t 5) 0⟩, ⟨none, some 9, .extract (.t 5) 1⟩, ⟨none, some 3, .copy (.t 8)⟩, ⟨none, some 4, .copy (.t 9)⟩] [] []) (.seq (.reg [⟨none, some 10, .copy (.t 3)⟩, ⟨none, some 11, .toInt .i64 (.t 10)⟩, ⟨none, some 2, .copy (.t 11)⟩] [] []) .ret))), [.tmp 2]⟩
/- frame.Arb -/
def ir125 : IFn := ⟨(.seq (.reg [⟨none, some 1, .box 12 (.t 0)⟩, ⟨none, some 2, .copy (.c nilS)⟩, ⟨none, some 3, .copy (.c (.lit (.int .i64 0)))⟩] [] []) (.seq (.seq (.reg [⟨none, some 10, .load true 12 (.t 1)⟩, ⟨none, some 11, .call 53 [(.t 10)]⟩, ⟨none, some 4, .copy (.t 11)⟩] [] []) (.seq (.reg [⟨none, some 12, .copy (.t 4)⟩, ⟨none, some 13, .bin .neq (.t 12) (.c (.lit (.int .i64 0)))⟩] [] []) (.cond (.t 13) (.seq (.reg [⟨none, some 14, .copy (.t 4)⟩, ⟨none, some 2, .copy (.c nilS)⟩, ⟨none, some 3, .copy (.t 14)⟩] [] []) .ret) .skip))) (.seq (.seq (.reg [⟨none, some 15, .fieldA 1 (.t 1)⟩, ⟨none, some 16, .load false 1 (.t 15)⟩, ⟨none, some 17, .un .not (.t 16)⟩] [] []) (.cond (.t 17) (.seq (.reg [⟨none, some 19, .fieldA 0 (.t 1)⟩, ⟨none, some 20, .load false 1 (.t 19)⟩, ⟨none, some 21, .toInt .u64 (.t 20)⟩, ⟨none, some 22, .call 127 [(.t 21), (.c (.lit (.int .i64 11)))]⟩, ⟨none, some 18, .copy (.t 22)⟩, ⟨none, some 23, .extract (.t 18) 0⟩, ⟨none, some 24, .extract (.t 18) 1⟩, ⟨none, some 5, .copy (.t 23)⟩, ⟨none, some 6, .copy (.t 24)⟩] [] []) (.seq (.reg [⟨none, some 25, .copy (.t 5)⟩, ⟨none, some 26, .fieldA 2 (.t 1)⟩, ⟨none, some 27, .load false 1 (.t 26)⟩, ⟨none, some 28, .call 151 [(.t 27)]⟩, ⟨none, some 29, .mkSlice true 1 [(.lit (.int .i64 0))] 2 [(0, (.t 28)), (1, (.c (.lit (.int .i64 0))))]⟩, ⟨none, some 30, .append true 1 8 (.t 25) (.t 29)⟩, ⟨none, some 31, .copy (.t 6)⟩, ⟨none, some 2, .copy (.t 30)⟩, ⟨none, some 3, .copy (.t 31)⟩] [] []) .ret)) .skip)) (.seq (.reg [⟨none, some 33, .fieldA 0 (.t 1)⟩, ⟨none, some 34, .load false 1 (.t 33)⟩, ⟨none, some 35, .toInt .u64 (.t 34)⟩, ⟨none, some 36, .bin .shr (.t 35) (.c (.lit (.int .u64 18)))⟩, ⟨none, some 37, .call 127 [(.t 36), (.c (.lit (.int .i64 11)))]⟩, ⟨none, some 32, .copy (.t 37)⟩, ⟨none, some 38, .extract (.t 32) 0⟩, ⟨none, some 39, .extract (.t 32) 1⟩, ⟨none, some 7, .copy (.t 38)⟩, ⟨none, some 8, .copy (.t 39)⟩] [] []) (.seq (.seq (.reg [⟨none, some 40, .copy (.t 8)⟩, ⟨none, some 41, .bin .neq (.t 40) (.c (.lit (.int .i64 0)))⟩] [] []) (.cond (.t 41) (.seq (.reg [⟨none, some 42, .copy (.t 8)⟩, ⟨none, some 2, .copy (.c nilS)⟩, ⟨none, some 3, .copy (.t 42)⟩] [] []) .ret) .skip)) (.seq (.reg [⟨none, some 44, .fieldA 0 (.t 1)⟩, ⟨none, some 45, .load false 1 (.t 44)⟩, ⟨none, some 46, .toInt .u64 (.t 45)⟩, ⟨none, some 47, .call 127 [(.t 46), (.c (.lit (.int .i64 18)))]⟩, ⟨none, some 43, .copy (.t 47)⟩, ⟨none, some 48, .extract (.t 43) 0⟩, ⟨none, some 49, .extract (.t 43) 1⟩, ⟨none, some 9, .copy (.t 48)⟩, ⟨none, some 8, .copy (.t 49)⟩] [] []) (.seq (.reg [⟨none, some 50, .copy (.t 7)⟩, ⟨none, some 51, .mkSlice true 1 [(.lit (.int .i64 0))] 2 [(0, (.c (.lit (.int .i64 1)))), (1, (.c (.lit (.int .i64 1))))]⟩, ⟨none, some 52, .copy (.t 9)⟩, ⟨none, some 53, .fieldA 2 (.t 1)⟩, ⟨none, some 54, .load false 1 (.t 53)⟩, ⟨none, some 55, .call 151 [(.t 54)]⟩, ⟨none, some 56, .mkSlice true 1 [(.lit (.int .i64 0))] 1 [(0, (.t 55))]⟩, ⟨none, some 57, .mkSlice true 1 [nilS] 4 [(0, (.t 50)), (1, (.t 51)), (2, (.t 52)), (3, (.t 56))]⟩, ⟨none, some 58, .call 95 [(.t 57)]⟩, ⟨none, some 59, .copy (.t 8)⟩, ⟨none, some 2, .copy (.t 58)⟩, ⟨none, some 3, .copy (.t 59)⟩] [] []) .ret))))))), [.tmp 2, .tmp 3]⟩
/- field.Bits$1 -/
def ir126 : IFn := ⟨(.seq (.reg [⟨none, some 9, .copy (.t 0)⟩, ⟨none, some 10, .copy (.t 1)⟩, ⟨none, some 11, .call 127 [(.t 9), (.t 10)]⟩, ⟨none, some 8, .copy (.t 11)⟩, ⟨none, some 12, .extract (.t 8) 0⟩, ⟨none, some 13, .extract (.t 8) 1⟩, ⟨none, some 6, .copy (.t 12)⟩, ⟨none, some 7, .copy (.t 13)⟩] [] []) (.seq (.seq (.reg [⟨none, some 14, .copy (.t 7)⟩, ⟨none, some 15, .bin .neq (.t 14) (.c (.lit (.int .i64 0)))⟩] [] []) (.cond (.t 15) (.reg [⟨none, some 16, .copy (.t 7)⟩, ⟨none, none, .store 1 (.t 2) (.t 16)⟩] [] []) .skip)) (.reg [⟨none, some 17, .load false 1 (.t 3)⟩, ⟨none, some 18, .copy (.t 6)⟩, ⟨none, some 19, .append true 1 8 (.t 17) (.t 18)⟩, ⟨none, none, .store 1 (.t 3) (.t 19)⟩] [] []))), []⟩
/- bits.Of -/
def L127_0 : ICode := (.seq (.reg [⟨none, some 18, .bin .lss (.t 17) (.t 16)⟩] [] []) (.seq (.cond (.t 18) .skip (.exit 0)) (.seq (.block 1 (.seq (.reg [⟨none, some 19, .copy (.t 17)⟩, ⟨none, some 7, .copy (.t 19)⟩] [] []) (.reg [⟨none, some 20, .copy (.t 6)⟩, ⟨none, some 21, .copy (.t 1)⟩, ⟨none, some 22, .bin .sub (.t 21) (.c (.lit (.int .i64 1)))⟩, ⟨none, some 23, .copy (.t 7)⟩, ⟨none, some 24, .bin .sub (.t 22) (.t 23)⟩, ⟨none, some 25, .copy (.t 0)⟩, ⟨none, some 26, .copy (.t 7)⟩, ⟨none, some 27, .bin .shr (.t 25) (.t 26)⟩, ⟨none, some 28, .bin .and (.t 27) (.c (.lit (.int .u64 1)))⟩, ⟨none, some 29, .toInt .i64 (.t 28)⟩, ⟨none, some 30, .idxS 1 (.t 20) (.t 24)⟩, ⟨none, none, .store 1 (.t 30) (.t 29)⟩] [] []))) (.reg [⟨none, some 31, .bin .add (.t 17) (.c (.lit (.int .i64 1)))⟩, ⟨none, some 17, .copy (.t 31)⟩] [] []))))
def ir127 : IFn := ⟨(.seq (.reg [⟨none, some 4, .copy (.c nilS)⟩, ⟨none, some 5, .copy (.c (.lit (.int .i64 0)))⟩] [] []) (.seq (.seq (.reg [⟨none, some 8, .copy (.t 1)⟩, ⟨none, some 9, .bin .lss (.t 8) (.c (.lit (.int .i64 0)))⟩, ⟨none, some 10, .copy (.t 9)⟩, ⟨some (10, false), some 11, .copy (.t 1)⟩, ⟨some (10, false), some 12, .bin .gtr (.t 11) (.c (.lit (.int .i64 64)))⟩, ⟨none, some 13, .pick (.t 10) (.c (.lit (.bool true))) (.t 12)⟩] [] []) (.cond (.t 13) (.seq (.reg [⟨none, some 4, .copy (.c nilS)⟩, ⟨none, some 5, .copy (.c (.lit (.int .i64 10)))⟩] [] []) .ret) .skip)) (.seq (.reg [⟨none, some 14, .copy (.t 1)⟩, ⟨none, some 15, .make true 1 8 [(.lit (.int .i64 0))] (.t 14) (.t 14)⟩, ⟨none, some 6, .copy (.t 15)⟩] [] []) (.seq (.seq (.reg [⟨none, some 16, .copy (.t 1)⟩, ⟨none, some 17, .copy (.c (.lit (.int .i64 0)))⟩] [] []) (.block 0 (.loop [0, 1, 6, 16, 17] L127_0))) (.seq (.reg [⟨none, some 32, .copy (.t 6)⟩, ⟨none, some 4, .copy (.t 32)⟩, ⟨none, some 5, .copy (.c (.lit (.int .i64 0)))⟩] [] []) .ret))))), [.tmp 4, .tmp 5]⟩
/- crc15.Sum$1 -/
def ir128 : IFn := ⟨(.reg [⟨none, some 3, .load false 1 (.t 1)⟩, ⟨none, some 4, .copy (.t 0)⟩, ⟨none, some 5, .call 129 [(.t 3), (.t 4)]⟩, ⟨none, none, .store 1 (.t 1) (.t 5)⟩] [] []), []⟩
/- crc15.step -/
def ir129 : IFn := ⟨(.seq (.reg [⟨none, some 4, .copy (.c (.lit (.int .i64 0)))⟩] [] []) (.seq (.reg [⟨none, some 6, .copy (.t 0)⟩, ⟨none, some 7, .bin .shl (.t 6) (.c (.lit (.int .u64 1)))⟩, ⟨none, some 8, .bin .and (.t 7) (.c (.lit (.int .i64 32767)))⟩, ⟨none, some 5, .copy (.t 8)⟩] [] []) (.seq (.seq (.reg [⟨none, some 9, .copy (.t 0)⟩, ⟨none, some 10, .bin .and (.t 9) (.c (.lit (.int .i64 16384)))⟩, ⟨none, some 11, .bin .neq (.t 10) (.c (.lit (.int .i64 0)))⟩, ⟨none, some 12, .copy (.t 1)⟩, ⟨none, some 13, .bin .eql (.t 12) (.c (.lit (.int .i64 1)))⟩, ⟨none, some 14, .eqB true (.t 11) (.t 13)⟩] [] []) (.cond (.t 14) (.reg [⟨none, some 15, .copy (.t 5)⟩, ⟨none, some 16, .bin .xor (.t 15) (.c (.lit (.int .i64 17817)))⟩, ⟨none, some 5, .copy (.t 16)⟩] [] []) .skip)) (.seq (.reg [⟨none, some 17, .copy (.t 5)⟩, ⟨none, some 4, .copy (.t 17)⟩] [] []) .ret)))), [.tmp 4]⟩
/- crc15.may -/
def ir130 : IFn := ⟨(.seq (.reg [⟨none, some 2, .copy (.c (.lit (.bool false)))⟩] [] []) (.seq (.reg [⟨none, some 3, .copy (.t 0)⟩, ⟨none, some 4, .bin .geq (.t 3) (.c (.lit (.int .i64 0)))⟩, ⟨none, some 5, .copy (.t 4)⟩, ⟨some (5, true), some 6, .copy (.t 0)⟩, ⟨some (5, true), some 7, .bin .leq (.t 6) (.c (.lit (.int .i64 32767)))⟩, ⟨none, some 8, .pick (.t 5) (.t 7) (.c (.lit (.bool false)))⟩, ⟨none, some 2, .copy (.t 8)⟩] [] []) .ret)), [.tmp 2]⟩
/- slices.Grow[[]int,int] -/
def ir131 : IFn := ⟨(.seq (.reg [⟨none, some 4, .copy (.c nilS)⟩] [] []) (.seq (.seq (.reg [⟨none, some 5, .copy (.t 1)⟩, ⟨none, some 6, .bin .lss (.t 5) (.c (.lit (.int .i64 0)))⟩] [] []) (.cond (.t 6) (.reg [⟨none, some 7, .mkIface 9 (.c (.lit (.string ⟨#[99, 97, 110, 110, 111, 116, 32, 98, 101, 32, 110, 101, 103, 97, 116, 105, 118, 101]⟩)))⟩, ⟨none, none, .fail⟩] [] []) .skip)) (.seq (.seq (.reg [⟨none, some 8, .copy (.t 1)⟩, ⟨none, some 9, .copy (.t 0)⟩, ⟨none, some 10, .cap (.t 9)⟩, ⟨none, some 11, .copy (.t 0)⟩, ⟨none, some 12, .len (.t 11)⟩, ⟨none, some 13, .bin .sub (.t 10) (.t 12)⟩, ⟨none, some 14, .bin .sub (.t 8) (.t 13)⟩, ⟨none, some 1, .copy (.t 14)⟩] [] []) (.seq (.reg [⟨none, some 15, .copy (.t 1)⟩, ⟨none, some 16, .bin .gtr (.t 15) (.c (.lit (.int .i64 0)))⟩] [] []) (.cond (.t 16) (.reg [⟨none, some 17, .copy (.t 0)⟩, ⟨none, some 18, .copy (.t 0)⟩, ⟨none, some 19, .cap (.t 18)⟩, ⟨none, some 20, .slice 1 (.t 17) none (some (.t 19)) none⟩, ⟨none, some 21, .copy (.t 1)⟩, ⟨none, some 22, .appendZ true 1 8 [(.lit (.int .i64 0))] (.t 20) (.t 21)⟩, ⟨none, some 23, .copy (.t 0)⟩, ⟨none, some 24, .len (.t 23)⟩, ⟨none, some 25, .slice 1 (.t 22) none (some (.t 24)) none⟩, ⟨none, some 0, .copy (.t 25)⟩] [] []) .skip))) (.seq (.reg [⟨none, some 26, .copy (.t 0)⟩, ⟨none, some 4, .copy (.t 26)⟩] [] []) .ret)))), [.tmp 4]⟩
/- bits.Mul -/
def ir132 : IFn := ⟨(.seq (.reg [⟨none, some 4, .copy (.c (.lit (.int .u64 0)))⟩, ⟨none, some 5, .copy (.c (.lit (.int .u64 0)))⟩] [] []) (.seq (.cond (.c (.lit (.bool false))) (.seq (.reg [⟨none, some 11, .copy (.t 0)⟩, ⟨none, some 12, .toInt .u32 (.t 11)⟩, ⟨none, some 13, .copy (.t 1)⟩, ⟨none, some 14, .toInt .u32 (.t 13)⟩, ⟨none, some 15, .call 152 [(.t 12), (.t 14)]⟩, ⟨none, some 10, .copy (.t 15)⟩, ⟨none, some 16, .extract (.t 10) 0⟩, ⟨none, some 17, .extract (.t 10) 1⟩, ⟨none, some 6, .copy (.t 16)⟩, ⟨none, some 7, .copy (.t 17)⟩] [] []) (.seq (.reg [⟨none, some 18, .copy (.t 6)⟩, ⟨none, some 19, .toInt .u64 (.t 18)⟩, ⟨none, some 20, .copy (.t 7)⟩, ⟨none, some 21, .toInt .u64 (.t 20)⟩, ⟨none, some 4, .copy (.t 19)⟩, ⟨none, some 5, .copy (.t 21)⟩] [] []) .ret)) .skip) (.seq (.reg [⟨none, some 23, .copy (.t 0)⟩, ⟨none, some 24, .copy (.t 1)⟩, ⟨none, some 25, .call 153 [(.t 23), (.t 24)]⟩, ⟨none, some 22, .copy (.t 25)⟩, ⟨none, some 26, .extract (.t 22) 0⟩, ⟨none, some 27, .extract (.t 22) 1⟩, ⟨none, some 8, .copy (.t 26)⟩, ⟨none, some 9, .copy (.t 27)⟩] [] []) (.seq (.reg [⟨none, some 28, .copy (.t 8)⟩, ⟨none, some 29, .copy (.t 9)⟩, ⟨none, some 4, .copy (.t 28)⟩, ⟨none, some 5, .copy (.t 29)⟩] [] []) .ret)))), [.tmp 4, .tmp 5]⟩
/- slices.IndexFunc[[]int,int] -/
def L133_0 : ICode := (.seq (.reg [⟨none, some 9, .bin .lss (.t 8) (.t 7)⟩] [] []) (.seq (.cond (.t 9) .skip (.exit 0)) (.seq (.block 1 (.seq (.reg [⟨none, some 10, .copy (.t 8)⟩, ⟨none, some 5, .copy (.t 10)⟩] [] []) (.seq (.reg [⟨none, some 11, .copy (.t 1)⟩, ⟨none, some 12, .copy (.t 0)⟩, ⟨none, some 13, .copy (.t 5)⟩, ⟨none, some 14, .idxS 1 (.t 12) (.t 13)⟩, ⟨none, some 15, .load false 1 (.t 14)⟩, ⟨none, some 16, .callV (.t 11) [(.t 15)]⟩] [] []) (.cond (.t 16) (.seq (.reg [⟨none, some 17, .copy (.t 5)⟩, ⟨none, some 4, .copy (.t 17)⟩] [] []) .ret) .skip)))) (.reg [⟨none, some 18, .bin .add (.t 8) (.c (.lit (.int .i64 1)))⟩, ⟨none, some 8, .copy (.t 18)⟩] [] []))))
def ir133 : IFn := ⟨(.seq (.reg [⟨none, some 4, .copy (.c (.lit (.int .i64 0)))⟩] [] []) (.seq (.seq (.reg [⟨none, some 6, .copy (.t 0)⟩, ⟨none, some 7, .len (.t 6)⟩, ⟨none, some 8, .copy (.c (.lit (.int .i64 0)))⟩] [] []) (.block 0 (.loop [0, 1, 7, 8] L133_0))) (.seq (.reg [⟨none, some 4, .copy (.c (.lit (.int .i64 (-1))))⟩] [] []) .ret))), [.tmp 4]⟩
/- bits.Check$1 -/
def ir134 : IFn := ⟨(.seq (.reg [⟨none, some 2, .copy (.c (.lit (.bool false)))⟩] [] []) (.seq (.reg [⟨none, some 3, .copy (.t 0)⟩, ⟨none, some 4, .call 135 [(.t 3)]⟩, ⟨none, some 5, .un .not (.t 4)⟩, ⟨none, some 2, .copy (.t 5)⟩] [] []) .ret)), [.tmp 2]⟩
/- bits.level -/
def ir135 : IFn := ⟨(.seq (.reg [⟨none, some 2, .copy (.c (.lit (.bool false)))⟩] [] []) (.seq (.reg [⟨none, some 3, .copy (.t 0)⟩, ⟨none, some 4, .bin .eql (.t 3) (.c (.lit (.int .i64 0)))⟩, ⟨none, some 5, .copy (.t 4)⟩, ⟨some (5, false), some 6, .copy (.t 0)⟩, ⟨some (5, false), some 7, .bin .eql (.t 6) (.c (.lit (.int .i64 1)))⟩, ⟨none, some 8, .pick (.t 5) (.c (.lit (.bool true))) (.t 7)⟩, ⟨none, some 2, .copy (.t 8)⟩] [] []) .ret)), [.tmp 2]⟩
/- field.head).sum -/
def ir145 : IFn := ⟨(.seq (.reg [⟨none, some 1, .box 5 (.t 0)⟩, ⟨none, some 2, .copy (.c (.lit (.int .i64 0)))⟩] [] []) (.seq (.seq (.reg [⟨none, some 3, .fieldA 1 (.t 1)⟩, ⟨none, some 4, .load false 1 (.t 3)⟩] [] []) (.cond (.t 4) (.seq (.reg [⟨none, some 5, .fieldA 3 (.t 1)⟩, ⟨none, some 6, .load false 1 (.t 5)⟩, ⟨none, some 2, .copy (.t 6)⟩] [] []) .ret) .skip)) (.seq (.reg [⟨none, some 7, .fieldA 3 (.t 1)⟩, ⟨none, some 8, .load false 1 (.t 7)⟩, ⟨none, some 9, .fieldA 4 (.t 1)⟩, ⟨none, some 10, .load false 1 (.t 9)⟩, ⟨none, some 11, .bin .mul (.c (.lit (.int .i64 8))) (.t 10)⟩, ⟨none, some 12, .bin .add (.t 8) (.t 11)⟩, ⟨none, some 2, .copy (.t 12)⟩] [] []) .ret))), [.tmp 2]⟩
/- crc15.Right -/
def ir146 : IFn := ⟨(.seq (.reg [⟨none, some 2, .copy (.c (.lit (.bool false)))⟩] [] []) (.seq (.reg [⟨none, some 8, .copy (.t 0)⟩, ⟨none, some 9, .len (.t 8)⟩, ⟨none, some 10, .bin .sub (.t 9) (.c (.lit (.int .i64 15)))⟩, ⟨none, some 3, .copy (.t 10)⟩] [] []) (.seq (.seq (.reg [⟨none, some 11, .copy (.t 3)⟩, ⟨none, some 12, .bin .lss (.t 11) (.c (.lit (.int .i64 0)))⟩, ⟨none, some 13, .copy (.t 12)⟩, ⟨some (13, false), some 14, .copy (.t 0)⟩, ⟨some (13, false), some 15, .call 97 [(.t 14)]⟩, ⟨some (13, false), some 16, .bin .geq (.t 15) (.c (.lit (.int .i64 0)))⟩, ⟨none, some 17, .pick (.t 13) (.c (.lit (.bool true))) (.t 16)⟩] [] []) (.cond (.t 17) (.seq (.reg [⟨none, some 2, .copy (.c (.lit (.bool false)))⟩] [] []) .ret) .skip)) (.seq (.reg [⟨none, some 19, .copy (.t 0)⟩, ⟨none, some 20, .copy (.t 3)⟩, ⟨none, some 21, .slice 1 (.t 19) none (some (.t 20)) none⟩, ⟨none, some 22, .call 93 [(.t 21)]⟩, ⟨none, some 18, .copy (.t 22)⟩, ⟨none, some 23, .extract (.t 18) 0⟩, ⟨none, some 24, .extract (.t 18) 1⟩, ⟨none, some 4, .copy (.t 23)⟩, ⟨none, some 5, .copy (.t 24)⟩] [] []) (.seq (.reg [⟨none, some 26, .copy (.t 4)⟩, ⟨none, some 27, .call 94 [(.t 26)]⟩, ⟨none, some 25, .copy (.t 27)⟩, ⟨none, some 28, .extract (.t 25) 0⟩, ⟨none, some 29, .extract (.t 25) 1⟩, ⟨none, some 6, .copy (.t 28)⟩, ⟨none, some 7, .copy (.t 29)⟩] [] []) (.seq (.reg [⟨none, some 30, .copy (.t 0)⟩, ⟨none, some 31, .copy (.t 3)⟩, ⟨none, some 32, .slice 1 (.t 30) (some (.t 31)) none none⟩, ⟨none, some 33, .copy (.t 6)⟩, ⟨none, some 34, .call 159 [(.t 32), (.t 33)]⟩, ⟨none, some 2, .copy (.t 34)⟩] [] []) .ret)))))), [.tmp 2]⟩
/- bits.Value -/
def L147_0 : ICode := (.seq (.reg [⟨none, some 18, .bin .lss (.t 17) (.t 16)⟩] [] []) (.seq (.cond (.t 18) .skip (.exit 1)) (.seq (.block 2 (.seq (.reg [⟨none, some 19, .idxS 1 (.t 15) (.t 17)⟩, ⟨none, some 20, .load false 1 (.t 19)⟩, ⟨none, some 6, .copy (.t 20)⟩] [] []) (.reg [⟨none, some 21, .copy (.t 4)⟩, ⟨none, some 22, .bin .shl (.t 21) (.c (.lit (.int .u64 1)))⟩, ⟨none, some 23, .copy (.t 6)⟩, ⟨none, some 24, .toInt .u64 (.t 23)⟩, ⟨none, some 25, .bin .or (.t 22) (.t 24)⟩, ⟨none, some 4, .copy (.t 25)⟩] [] []))) (.reg [⟨none, some 26, .bin .add (.t 17) (.c (.lit (.int .i64 1)))⟩, ⟨none, some 17, .copy (.t 26)⟩] [] []))))
def ir147 : IFn := ⟨(.seq (.reg [⟨none, some 2, .copy (.c (.lit (.int .u64 0)))⟩, ⟨none, some 3, .copy (.c (.lit (.int .i64 0)))⟩] [] []) (.seq (.block 0 (.seq (.reg [⟨none, some 8, .copy (.t 0)⟩, ⟨none, some 9, .len (.t 8)⟩, ⟨none, some 10, .bin .gtr (.t 9) (.c (.lit (.int .i64 64)))⟩, ⟨none, some 7, .copy (.t 10)⟩] [] []) (.cond (.t 7) (.seq (.reg [⟨none, some 2, .copy (.c (.lit (.int .u64 0)))⟩, ⟨none, some 3, .copy (.c (.lit (.int .i64 12)))⟩] [] []) .ret) (.seq (.reg [⟨none, some 12, .copy (.t 0)⟩, ⟨none, some 13, .call 97 [(.t 12)]⟩, ⟨none, some 14, .bin .geq (.t 13) (.c (.lit (.int .i64 0)))⟩, ⟨none, some 11, .copy (.t 14)⟩] [] []) (.cond (.t 11) (.seq (.reg [⟨none, some 2, .copy (.c (.lit (.int .u64 0)))⟩, ⟨none, some 3, .copy (.c (.lit (.int .i64 10)))⟩] [] []) .ret) .skip))))) (.seq (.reg [⟨none, some 4, .copy (.c (.lit (.int .u64 0)))⟩] [] []) (.seq (.seq (.reg [⟨none, some 15, .copy (.t 0)⟩, ⟨none, some 16, .len (.t 15)⟩, ⟨none, some 17, .copy (.c (.lit (.int .i64 0)))⟩] [] []) (.block 1 (.loop [4, 15, 16, 17] L147_0))) (.seq (.reg [⟨none, some 27, .copy (.t 4)⟩, ⟨none, some 2, .copy (.t 27)⟩, ⟨none, some 3, .copy (.c (.lit (.int .i64 0)))⟩] [] []) .ret))))), [.tmp 2, .tmp 3]⟩
/- frame.level -/
def ir151 : IFn := ⟨(.seq (.reg [⟨none, some 2, .copy (.c (.lit (.int .i64 0)))⟩] [] []) (.seq (.seq (.reg [⟨none, some 3, .copy (.t 0)⟩] [] []) (.cond (.t 3) (.seq (.reg [⟨none, some 2, .copy (.c (.lit (.int .i64 1)))⟩] [] []) .ret) .skip)) (.seq (.reg [⟨none, some 2, .copy (.c (.lit (.int .i64 0)))⟩] [] []) .ret))), [.tmp 2]⟩
/- bits.Mul32 -/
def ir152 : IFn := ⟨(.seq (.reg [⟨none, some 4, .copy (.c (.lit (.int .u32 0)))⟩, ⟨none, some 5, .copy (.c (.lit (.int .u32 0)))⟩] [] []) (.seq (.reg [⟨none, some 7, .copy (.t 0)⟩, ⟨none, some 8, .toInt .u64 (.t 7)⟩, ⟨none, some 9, .copy (.t 1)⟩, ⟨none, some 10, .toInt .u64 (.t 9)⟩, ⟨none, some 11, .bin .mul (.t 8) (.t 10)⟩, ⟨none, some 6, .copy (.t 11)⟩] [] []) (.seq (.reg [⟨none, some 12, .copy (.t 6)⟩, ⟨none, some 13, .bin .shr (.t 12) (.c (.lit (.int .u64 32)))⟩, ⟨none, some 14, .toInt .u32 (.t 13)⟩, ⟨none, some 15, .copy (.t 6)⟩, ⟨none, some 16, .toInt .u32 (.t 15)⟩, ⟨none, some 4, .copy (.t 14)⟩, ⟨none, some 5, .copy (.t 16)⟩] [] []) .ret))), [.tmp 4, .tmp 5]⟩
/- bits.Mul64 -/
def ir153 : IFn := ⟨(.seq (.reg [⟨none, some 4, .copy (.c (.lit (.int .u64 0)))⟩, ⟨none, some 5, .copy (.c (.lit (.int .u64 0)))⟩] [] []) (.seq (.reg [⟨none, some 14, .copy (.t 0)⟩, ⟨none, some 15, .bin .and (.t 14) (.c (.lit (.int .u64 4294967295)))⟩, ⟨none, some 6, .copy (.t 15)⟩] [] []) (.seq (.reg [⟨none, some 16, .copy (.t 0)⟩, ⟨none, some 17, .bin .shr (.t 16) (.c (.lit (.int .u64 32)))⟩, ⟨none, some 7, .copy (.t 17)⟩] [] []) (.seq (.reg [⟨none, some 18, .copy (.t 1)⟩, ⟨none, some 19, .bin .and (.t 18) (.c (.lit (.int .u64 4294967295)))⟩, ⟨none, some 8, .copy (.t 19)⟩] [] []) (.seq (.reg [⟨none, some 20, .copy (.t 1)⟩, ⟨none, some 21, .bin .shr (.t 20) (.c (.lit (.int .u64 32)))⟩, ⟨none, some 9, .copy (.t 21)⟩] [] []) (.seq (.reg [⟨none, some 22, .copy (.t 6)⟩, ⟨none, some 23, .copy (.t 8)⟩, ⟨none, some 24, .bin .mul (.t 22) (.t 23)⟩, ⟨none, some 10, .copy (.t 24)⟩] [] []) (.seq (.reg [⟨none, some 25, .copy (.t 7)⟩, ⟨none, some 26, .copy (.t 8)⟩, ⟨none, some 27, .bin .mul (.t 25) (.t 26)⟩, ⟨none, some 28, .copy (.t 10)⟩, ⟨none, some 29, .bin .shr (.t 28) (.c (.lit (.int .u64 32)))⟩, ⟨none, some 30, .bin .add (.t 27) (.t 29)⟩, ⟨none, some 11, .copy (.t 30)⟩] [] []) (.seq (.reg [⟨none, some 31, .copy (.t 11)⟩, ⟨none, some 32, .bin .and (.t 31) (.c (.lit (.int .u64 4294967295)))⟩, ⟨none, some 12, .copy (.t 32)⟩] [] []) (.seq (.reg [⟨none, some 33, .copy (.t 11)⟩, ⟨none, some 34, .bin .shr (.t 33) (.c (.lit (.int .u64 32)))⟩, ⟨none, some 13, .copy (.t 34)⟩] [] []) (.seq (.reg [⟨none, some 35, .copy (.t 12)⟩, ⟨none, some 36, .copy (.t 6)⟩, ⟨none, some 37, .copy (.t 9)⟩, ⟨none, some 38, .bin .mul (.t 36) (.t 37)⟩, ⟨none, some 39, .bin .add (.t 35) (.t 38)⟩, ⟨none, some 12, .copy (.t 39)⟩] [] []) (.seq (.reg [⟨none, some 40, .copy (.t 7)⟩, ⟨none, some 41, .copy (.t 9)⟩, ⟨none, some 42, .bin .mul (.t 40) (.t 41)⟩, ⟨none, some 43, .copy (.t 13)⟩, ⟨none, some 44, .bin .add (.t 42) (.t 43)⟩, ⟨none, some 45, .copy (.t 12)⟩, ⟨none, some 46, .bin .shr (.t 45) (.c (.lit (.int .u64 32)))⟩, ⟨none, some 47, .bin .add (.t 44) (.t 46)⟩, ⟨none, some 4, .copy (.t 47)⟩] [] []) (.seq (.reg [⟨none, some 48, .copy (.t 0)⟩, ⟨none, some 49, .copy (.t 1)⟩, ⟨none, some 50, .bin .mul (.t 48) (.t 49)⟩, ⟨none, some 5, .copy (.t 50)⟩] [] []) .ret)))))))))))), [.tmp 4, .tmp 5]⟩
/- slices.Equal[[]int,int] -/
def L159_0 : ICode := (.seq (.reg [⟨none, some 14, .bin .lss (.t 13) (.t 12)⟩] [] []) (.seq (.cond (.t 14) .skip (.exit 0)) (.seq (.block 1 (.seq (.reg [⟨none, some 15, .copy (.t 13)⟩, ⟨none, some 5, .copy (.t 15)⟩] [] []) (.seq (.reg [⟨none, some 16, .copy (.t 0)⟩, ⟨none, some 17, .copy (.t 5)⟩, ⟨none, some 18, .idxS 1 (.t 16) (.t 17)⟩, ⟨none, some 19, .load false 1 (.t 18)⟩, ⟨none, some 20, .copy (.t 1)⟩, ⟨none, some 21, .copy (.t 5)⟩, ⟨none, some 22, .idxS 1 (.t 20) (.t 21)⟩, ⟨none, some 23, .load false 1 (.t 22)⟩, ⟨none, some 24, .bin .neq (.t 19) (.t 23)⟩] [] []) (.cond (.t 24) (.seq (.reg [⟨none, some 4, .copy (.c (.lit (.bool false)))⟩] [] []) .ret) .skip)))) (.reg [⟨none, some 25, .bin .add (.t 13) (.c (.lit (.int .i64 1)))⟩, ⟨none, some 13, .copy (.t 25)⟩] [] []))))
def ir159 : IFn := ⟨(.seq (.reg [⟨none, some 4, .copy (.c (.lit (.bool false)))⟩] [] []) (.seq (.seq (.reg [⟨none, some 6, .copy (.t 0)⟩, ⟨none, some 7, .len (.t 6)⟩, ⟨none, some 8, .copy (.t 1)⟩, ⟨none, some 9, .len (.t 8)⟩, ⟨none, some 10, .bin .neq (.t 7) (.t 9)⟩] [] []) (.cond (.t 10) (.seq (.reg [⟨none, some 4, .copy (.c (.lit (.bool false)))⟩] [] []) .ret) .skip)) (.seq (.seq (.reg [⟨none, some 11, .copy (.t 0)⟩, ⟨none, some 12, .len (.t 11)⟩, ⟨none, some 13, .copy (.c (.lit (.int .i64 0)))⟩] [] []) (.block 0 (.loop [0, 1, 12, 13] L159_0))) (.seq (.reg [⟨none, some 4, .copy (.c (.lit (.bool true)))⟩] [] []) .ret)))), [.tmp 4]⟩
def lives : Nat → List (List Nat)
  | 9 => [[1000000, 0, 1, 5, 6, 7], [1000000, 0, 6, 11, 13, 15]]
  | 45 => [[1000000, 0, 3, 4]]
  | 46 => [[1000000, 4, 5, 11, 12, 13]]
  | 47 => [[1000000, 0, 1, 5]]
  | 51 => [[1000000, 6, 17, 18, 19]]
  | 59 => [[3, 5, 19, 20, 21]]
  | 88 => [[0, 2, 6, 8, 61, 62]]
  | 90 => [[0, 3, 4]]
  | 92 => [[6, 7, 8, 39, 40, 41]]
  | 93 => [[0, 4, 5, 12, 13]]
  | 95 => [[0, 3, 9, 10, 11], [6, 25, 26, 27]]
  | 96 => [[7, 8]]
  | 113 => [[5, 8, 51, 52]]
  | 127 => [[0, 1, 6, 16, 17]]
  | 133 => [[0, 1, 7, 8]]
  | 147 => [[4, 15, 16, 17]]
  | 159 => [[0, 1, 12, 13]]
  | _ => []
theorem K9 : compF Try.prog (lives 9) 9 = some ir9 := by kernel_rfl
theorem K13 : compF Try.prog (lives 13) 13 = some ir13 := by kernel_rfl
theorem K44 : compF Try.prog (lives 44) 44 = some ir44 := by kernel_rfl
theorem K45 : compF Try.prog (lives 45) 45 = some ir45 := by kernel_rfl
theorem K46 : compF Try.prog (lives 46) 46 = some ir46 := by kernel_rfl
theorem K47 : compF Try.prog (lives 47) 47 = some ir47 := by kernel_rfl
theorem K48 : compF Try.prog (lives 48) 48 = some ir48 := by kernel_rfl
theorem K50 : compF Try.prog (lives 50) 50 = some ir50 := by kernel_rfl
theorem K51 : compF Try.prog (lives 51) 51 = some ir51 := by kernel_rfl
theorem K53 : compF Try.prog (lives 53) 53 = some ir53 := by kernel_rfl
theorem K58 : compF Try.prog (lives 58) 58 = some ir58 := by kernel_rfl
theorem K59 : compF Try.prog (lives 59) 59 = some ir59 := by kernel_rfl
theorem K87 : compF Try.prog (lives 87) 87 = some ir87 := by kernel_rfl
theorem K88 : compF Try.prog (lives 88) 88 = some ir88 := by kernel_rfl
theorem K90 : compF Try.prog (lives 90) 90 = some ir90 := by kernel_rfl
theorem K92 : compF Try.prog (lives 92) 92 = some ir92 := by kernel_rfl
theorem K93 : compF Try.prog (lives 93) 93 = some ir93 := by kernel_rfl
theorem K94 : compF Try.prog (lives 94) 94 = some ir94 := by kernel_rfl
theorem K95 : compF Try.prog (lives 95) 95 = some ir95 := by kernel_rfl
theorem K96 : compF Try.prog (lives 96) 96 = some ir96 := by kernel_rfl
theorem K97 : compF Try.prog (lives 97) 97 = some ir97 := by kernel_rfl
theorem K98 : compF Try.prog (lives 98) 98 = some ir98 := by kernel_rfl
theorem K99 : compF Try.prog (lives 99) 99 = some ir99 := by kernel_rfl
theorem K113 : compF Try.prog (lives 113) 113 = some ir113 := by kernel_rfl
theorem K114 : compF Try.prog (lives 114) 114 = some ir114 := by kernel_rfl
theorem K115 : compF Try.prog (lives 115) 115 = some ir115 := by kernel_rfl
theorem K116 : compF Try.prog (lives 116) 116 = some ir116 := by kernel_rfl
theorem K117 : compF Try.prog (lives 117) 117 = some ir117 := by kernel_rfl
theorem K125 : compF Try.prog (lives 125) 125 = some ir125 := by kernel_rfl
theorem K126 : compF Try.prog (lives 126) 126 = some ir126 := by kernel_rfl
theorem K127 : compF Try.prog (lives 127) 127 = some ir127 := by kernel_rfl
theorem K128 : compF Try.prog (lives 128) 128 = some ir128 := by kernel_rfl
theorem K129 : compF Try.prog (lives 129) 129 = some ir129 := by kernel_rfl
theorem K130 : compF Try.prog (lives 130) 130 = some ir130 := by kernel_rfl
theorem K131 : compF Try.prog (lives 131) 131 = some ir131 := by kernel_rfl
theorem K132 : compF Try.prog (lives 132) 132 = some ir132 := by kernel_rfl
theorem K133 : compF Try.prog (lives 133) 133 = some ir133 := by kernel_rfl
theorem K134 : compF Try.prog (lives 134) 134 = some ir134 := by kernel_rfl
theorem K135 : compF Try.prog (lives 135) 135 = some ir135 := by kernel_rfl
theorem K145 : compF Try.prog (lives 145) 145 = some ir145 := by kernel_rfl
theorem K146 : compF Try.prog (lives 146) 146 = some ir146 := by kernel_rfl
theorem K147 : compF Try.prog (lives 147) 147 = some ir147 := by kernel_rfl
theorem K151 : compF Try.prog (lives 151) 151 = some ir151 := by kernel_rfl
theorem K152 : compF Try.prog (lives 152) 152 = some ir152 := by kernel_rfl
theorem K153 : compF Try.prog (lives 153) 153 = some ir153 := by kernel_rfl
theorem K159 : compF Try.prog (lives 159) 159 = some ir159 := by kernel_rfl
/-- The functions that are gone through. -/
def tab : List (Nat × IFn) := [(9, ir9), (13, ir13), (44, ir44), (45, ir45), (46, ir46), (47, ir47), (48, ir48), (50, ir50), (51, ir51), (53, ir53), (58, ir58), (59, ir59), (87, ir87), (88, ir88), (90, ir90), (92, ir92), (93, ir93), (94, ir94), (95, ir95), (96, ir96), (97, ir97), (98, ir98), (99, ir99), (113, ir113), (114, ir114), (115, ir115), (116, ir116), (117, ir117), (125, ir125), (126, ir126), (127, ir127), (128, ir128), (129, ir129), (130, ir130), (131, ir131), (132, ir132), (133, ir133), (134, ir134), (135, ir135), (145, ir145), (146, ir146), (147, ir147), (151, ir151), (152, ir152), (153, ir153), (159, ir159)]
def E (f : Nat) : Option IFn := tab.lookup f
theorem E9 : E 9 = some ir9 := rfl
theorem E13 : E 13 = some ir13 := rfl
theorem E44 : E 44 = some ir44 := rfl
theorem E45 : E 45 = some ir45 := rfl
theorem E46 : E 46 = some ir46 := rfl
theorem E47 : E 47 = some ir47 := rfl
theorem E48 : E 48 = some ir48 := rfl
theorem E50 : E 50 = some ir50 := rfl
theorem E51 : E 51 = some ir51 := rfl
theorem E53 : E 53 = some ir53 := rfl
theorem E58 : E 58 = some ir58 := rfl
theorem E59 : E 59 = some ir59 := rfl
theorem E87 : E 87 = some ir87 := rfl
theorem E88 : E 88 = some ir88 := rfl
theorem E90 : E 90 = some ir90 := rfl
theorem E92 : E 92 = some ir92 := rfl
theorem E93 : E 93 = some ir93 := rfl
theorem E94 : E 94 = some ir94 := rfl
theorem E95 : E 95 = some ir95 := rfl
theorem E96 : E 96 = some ir96 := rfl
theorem E97 : E 97 = some ir97 := rfl
theorem E98 : E 98 = some ir98 := rfl
theorem E99 : E 99 = some ir99 := rfl
theorem E113 : E 113 = some ir113 := rfl
theorem E114 : E 114 = some ir114 := rfl
theorem E115 : E 115 = some ir115 := rfl
theorem E116 : E 116 = some ir116 := rfl
theorem E117 : E 117 = some ir117 := rfl
theorem E125 : E 125 = some ir125 := rfl
theorem E126 : E 126 = some ir126 := rfl
theorem E127 : E 127 = some ir127 := rfl
theorem E128 : E 128 = some ir128 := rfl
theorem E129 : E 129 = some ir129 := rfl
theorem E130 : E 130 = some ir130 := rfl
theorem E131 : E 131 = some ir131 := rfl
theorem E132 : E 132 = some ir132 := rfl
theorem E133 : E 133 = some ir133 := rfl
theorem E134 : E 134 = some ir134 := rfl
theorem E135 : E 135 = some ir135 := rfl
theorem E145 : E 145 = some ir145 := rfl
theorem E146 : E 146 = some ir146 := rfl
theorem E147 : E 147 = some ir147 := rfl
theorem E151 : E 151 = some ir151 := rfl
theorem E152 : E 152 = some ir152 := rfl
theorem E153 : E 153 = some ir153 := rfl
theorem E159 : E 159 = some ir159 := rfl
set_option maxRecDepth 100000 in
theorem tab_ok : ∀ p ∈ tab, ∃ ls, compF Try.prog ls p.1 = some p.2 := by
  simp only [tab, List.forall_mem_cons]
  exact ⟨⟨_, K9⟩, ⟨_, K13⟩, ⟨_, K44⟩, ⟨_, K45⟩, ⟨_, K46⟩, ⟨_, K47⟩, ⟨_, K48⟩, ⟨_, K50⟩, ⟨_, K51⟩, ⟨_, K53⟩, ⟨_, K58⟩, ⟨_, K59⟩, ⟨_, K87⟩, ⟨_, K88⟩, ⟨_, K90⟩, ⟨_, K92⟩, ⟨_, K93⟩, ⟨_, K94⟩, ⟨_, K95⟩, ⟨_, K96⟩, ⟨_, K97⟩, ⟨_, K98⟩, ⟨_, K99⟩, ⟨_, K113⟩, ⟨_, K114⟩, ⟨_, K115⟩, ⟨_, K116⟩, ⟨_, K117⟩, ⟨_, K125⟩, ⟨_, K126⟩, ⟨_, K127⟩, ⟨_, K128⟩, ⟨_, K129⟩, ⟨_, K130⟩, ⟨_, K131⟩, ⟨_, K132⟩, ⟨_, K133⟩, ⟨_, K134⟩, ⟨_, K135⟩, ⟨_, K145⟩, ⟨_, K146⟩, ⟨_, K147⟩, ⟨_, K151⟩, ⟨_, K152⟩, ⟨_, K153⟩, ⟨_, K159⟩, fun _ h => by cases h⟩
theorem lookup_mem {α : Type} {f : Nat} {x : α} : ∀ {l : List (Nat × α)}, l.lookup f = some x → (f, x) ∈ l
  | [], h => by simp at h
  | (g, y) :: r, h => by
    rw [List.lookup_cons] at h
    by_cases hg : f = g
    · subst hg; simp at h; simp [h]
    · rw [show (f == g) = false from by simpa using hg] at h; exact List.mem_cons_of_mem _ (lookup_mem h)
set_option maxRecDepth 100000 in
theorem hE (f : Nat) (fn : IFn) (h : E f = some fn) : ∃ ls, compF Try.prog ls f = some fn := tab_ok _ (lookup_mem h)
end Go.AM.R1
open Go Go.AM
namespace Go.AM.R1

theorem wrap64 {x : Int} (h1 : -9223372036854775808 ≤ x) (h2 : x ≤ 9223372036854775807) : IntKind.wrap .i64 x = x := by
  simp [IntKind.wrap, IntKind.bits, IntKind.signed]; omega
theorem wrapIdx {i : Nat} (h : i < 9223372036854775807) : IntKind.wrap .i64 ((i : Int) + 1) = ((i + 1 : Nat) : Int) := by
  rw [wrap64 (by omega) (by omega)]; omega

structure Run where
  N : Int
  Bus : Int
  Drive : Int
  deriving DecidableEq

def encRun (r : Run) : List AVal := [.lit (.int .i64 r.N), .lit (.int .i64 r.Bus), .lit (.int .u32 r.Drive)]
structure Run.Ok (r : Run) : Prop where
  n1 : -9223372036854775808 ≤ r.N
  n2 : r.N ≤ 9223372036854775807

def right (r : Run) : Bool := decide (1 ≤ r.N) && decide (r.N ≤ 1073741824) && decide (r.Bus = if r.Drive = 4294967295 then 1 else 0)

def ticksGo (acc : Int) : List Run → Int × Int
  | [] => if 1073741824 < acc then (0, 12) else (acc, 0)
  | r :: l => if right r then ticksGo (if 1073741825 < acc + r.N then 1073741825 else acc + r.N) l else (0, 10)
def ticks (l : List Run) : Int × Int := ticksGo 0 l
end Go.AM.R1
open Go Go.AM
namespace Go.AM.R1

/-- How many ticks of a run are within. -/
def part (at_ from_ to n : Int) : Int := (if to < at_ + n then to else at_ + n) - (if from_ > at_ then from_ else at_)
def betweenGo (from_ to : Int) : Int → List Run → List Run
  | _, [] => []
  | at_, r :: l => (if 0 < part at_ from_ to r.N then [⟨part at_ from_ to r.N, r.Bus, r.Drive⟩] else []) ++ betweenGo from_ to (at_ + r.N) l
/-- A row that was laid, as it is handed back. -/
def resV (i : Nat) (rows : List (List AVal)) : AVal := if rows = [] then nilS else .own i rows.length 3 0 rows.length
def resH (H : Heap) (rows : List (List AVal)) : Heap := if rows = [] then [] else H ++ [.arr true false false 3 rows]

def sumN : List Run → Int
  | [] => 0
  | r :: l => r.N + sumN l
/-- How runs are wrong. -/
def chk (l : List Run) : Int := if l.all right = true then (if 1073741824 < sumN l then 12 else 0) else 10
theorem right_N {r : Run} (h : right r = true) : 1 ≤ r.N ∧ r.N ≤ 1073741824 := by
  simp [right] at h; omega
theorem sumN_nonneg : ∀ {l : List Run}, l.all right = true → 0 ≤ sumN l
  | [], _ => by simp [sumN]
  | r :: l, h => by
    simp only [List.all_cons, Bool.and_eq_true] at h
    have := right_N h.1; have := sumN_nonneg h.2
    simp only [sumN]; omega
theorem ticksGo_eq : ∀ (l : List Run) (acc : Int), 0 ≤ acc → acc ≤ 1073741825 → ticksGo acc l = if l.all right = true then (if 1073741824 < acc + sumN l then (0, 12) else (acc + sumN l, 0)) else (0, 10)
  | [], acc, _, _ => by simp [ticksGo, sumN]
  | r :: l, acc, h0, h1 => by
    rw [ticksGo, List.all_cons]
    cases hr : right r with
    | false => simp
    | true =>
      have hN := right_N hr
      rw [if_pos rfl, ticksGo_eq l _ (by split <;> omega) (by split <;> omega)]
      rw [Bool.true_and, show sumN (r :: l) = r.N + sumN l from rfl]
      cases ha : l.all right with
      | false => simp
      | true =>
        have := sumN_nonneg ha
        simp only [if_true]
        by_cases hq : 1073741825 < acc + r.N
        · rw [if_pos hq, if_pos (show _ by omega), if_pos (show _ by omega)]
        · rw [if_neg hq, Int.add_assoc]
theorem ticks_eq (l : List Run) : ticks l = (if chk l = 0 then sumN l else 0, chk l) := by
  unfold ticks
  rw [ticksGo_eq l 0 (by omega) (by omega)]
  unfold chk
  cases l.all right
  · rfl
  · by_cases h : 1073741824 < sumN l
    · simp [h]
    · simp [h]

end Go.AM.R1
open Go Go.AM
namespace Go.AM.R1

def zeroRun : Run := ⟨0, 0, 0⟩
/-- What there is at a tick. -/
def pick : Int → List Run → Option Run
  | _, [] => none
  | t, r :: l => if t < r.N then some ⟨1, r.Bus, r.Drive⟩ else pick (t - r.N) l
theorem pick_some : ∀ {l : List Run} {t : Int}, 0 ≤ t → t < sumN l → ∃ r, pick t l = some r
  | [], t, h0, h => by simp [sumN] at h; omega
  | r :: l, t, h0, h => by
    rw [pick]
    by_cases hq : t < r.N
    · exact ⟨_, if_pos hq⟩
    · rw [if_neg hq]
      rw [show sumN (r :: l) = r.N + sumN l from rfl] at h
      exact pick_some (by omega) (by omega)
theorem between_one : ∀ (l : List Run) (at_ t : Int), (∀ r ∈ l, 1 ≤ r.N) → betweenGo t (t + 1) at_ l = if t < at_ then [] else (pick (t - at_) l).toList
  | [], at_, t, _ => by simp [betweenGo, pick]
  | r :: l, at_, t, h => by
    have hr := h r (by simp)
    rw [betweenGo, between_one l _ t fun x hx => h x (by simp [hx]), pick]
    by_cases h1 : t < at_
    · have hp : ¬ 0 < part at_ t (t + 1) r.N := by unfold part; split <;> split <;> omega
      rw [if_pos h1, if_neg hp, if_pos (by omega)]; rfl
    · rw [if_neg h1]
      by_cases h2 : t < at_ + r.N
      · have hp : part at_ t (t + 1) r.N = 1 := by unfold part; split <;> split <;> omega
        rw [hp, if_pos h2, if_pos (show t - at_ < r.N by omega)]; rfl
      · have hp : ¬ 0 < part at_ t (t + 1) r.N := by unfold part; split <;> split <;> omega
        rw [if_neg h2, if_neg hp, if_neg (show ¬ t - at_ < r.N by omega), show t - (at_ + r.N) = t - at_ - r.N from by omega]; rfl

def atRun (l : List Run) (t : Int) : Run × Int :=
  if chk l ≠ 0 then (zeroRun, chk l) else if t < 0 ∨ sumN l ≤ t then (zeroRun, 10) else ((pick t l).getD zeroRun, 0)
theorem chk_right {l : List Run} (h : chk l = 0) : (∀ r ∈ l, 1 ≤ r.N ∧ r.N ≤ 1073741824) ∧ 0 ≤ sumN l ∧ sumN l ≤ 1073741824 := by
  unfold chk at h
  cases ha : l.all right with
  | false => rw [ha] at h; simp at h
  | true =>
    rw [ha, if_pos rfl] at h
    refine ⟨fun r hr => right_N (List.all_eq_true.1 ha r hr), sumN_nonneg ha, ?_⟩
    by_cases hq : 1073741824 < sumN l
    · rw [if_pos hq] at h; omega
    · omega
end Go.AM.R1
open Go Go.AM
namespace Go.AM.R1

/-! ### Few, Same, alike -/
def posSum : List Run → Int
  | [] => 0
  | r :: l => (if 0 < r.N then r.N else 0) + posSum l
theorem posSum_nonneg : ∀ l : List Run, 0 ≤ posSum l
  | [] => by simp [posSum]
  | r :: l => by have := posSum_nonneg l; simp only [posSum]; split <;> omega
def fewGo (left : Int) : List Run → Bool
  | [] => true
  | r :: l => if left < r.N then false else fewGo (if 0 < r.N then left - r.N else left) l
theorem fewGo_spec : ∀ (l : List Run) (left : Int), 0 ≤ left → (fewGo left l = true ↔ posSum l ≤ left)
  | [], left, h => by simp [fewGo, posSum, h]
  | r :: l, left, h => by
    have := posSum_nonneg l
    rw [fewGo, show posSum (r :: l) = (if 0 < r.N then r.N else 0) + posSum l from rfl]
    by_cases h1 : left < r.N
    · rw [if_pos h1, if_pos (by omega)]; constructor
      · intro h; cases h
      · intro h; omega
    · rw [if_neg h1, fewGo_spec l _ (by split <;> omega)]
      by_cases h2 : 0 < r.N
      · rw [if_pos h2, if_pos h2]; omega
      · rw [if_neg h2, if_neg h2]; omega
def few (l : List Run) : Bool := fewGo 3000 (l.take 61) && decide (l.length ≤ 60)
theorem few_true {l : List Run} (h : few l = true) : l.length ≤ 60 ∧ posSum l ≤ 3000 := by
  simp only [few, Bool.and_eq_true, decide_eq_true_eq] at h
  obtain ⟨h1, h2⟩ := h
  rw [List.take_of_length_le (by omega), fewGo_spec _ _ (by omega)] at h1
  exact ⟨h2, h1⟩

theorem encRun_inj {a b : Run} (h : encRun a = encRun b) : a = b := by
  cases a; cases b
  simp [encRun] at h
  simp [h]
def alike (a b : Run) : Bool := decide (a.Bus = b.Bus) && decide (a.Drive = b.Drive)
end Go.AM.R1
open Go Go.AM
namespace Go.AM.R1

/-! ### Join -/
def push (out : List Run) (r : Run) : List Run :=
  match out.getLast? with
  | none => [r]
  | some x => if alike x r = true then out.dropLast ++ [⟨x.N + r.N, x.Bus, x.Drive⟩] else out ++ [r]
theorem push_nil (r : Run) : push [] r = [r] := rfl
theorem push_snoc (o : List Run) (x r : Run) : push (o ++ [x]) r = if alike x r = true then o ++ [⟨x.N + r.N, x.Bus, x.Drive⟩] else o ++ [x, r] := by
  simp [push]
def joinGo (n : Int) (out : List Run) : List Run → List Run
  | [] => out
  | r :: l => if r.N < 1 then joinGo n out l else if 4611686018427387904 - n < r.N then [] else joinGo (n + r.N) (push out r) l
theorem snoc_cases {α : Type} (l : List α) : l = [] ∨ ∃ o x, l = o ++ [x] := by
  rcases List.eq_nil_or_concat l with h | ⟨o, x, h⟩
  · exact .inl h
  · exact .inr ⟨o, x, by simpa using h⟩
theorem get_snoc {o : List Run} {x : Run} : (o.map encRun ++ [encRun x])[o.length]? = some (encRun x) := by
  rw [List.getElem?_append_right (by simp)]; simp
theorem set_snoc {o : List Run} {x : List AVal} {v : List AVal} : (o.map encRun ++ [x]).set o.length v = o.map encRun ++ [v] := by
  rw [List.set_append_right _ _ (by simp)]; simp
end Go.AM.R1
open Go Go.AM
namespace Go.AM.R1

/-- Joined runs, of up to 2^62 ticks. -/
def joined (out : List Run) : List Run → List Run
  | [] => out
  | r :: l => if r.N < 1 then joined out l else joined (push out r) l
theorem joinGo_eq : ∀ (l : List Run) (n : Int) (out : List Run), n + posSum l ≤ 4611686018427387904 → joinGo n out l = joined out l
  | [], _, _, _ => rfl
  | r :: l, n, out, h => by
    have h0 := posSum_nonneg l
    rw [show posSum (r :: l) = (if 0 < r.N then r.N else 0) + posSum l from rfl] at h
    rw [joinGo, joined]
    by_cases hq : r.N < 1
    · rw [if_pos hq, if_pos hq]; rw [if_neg (by omega)] at h; exact joinGo_eq l n out (by omega)
    · rw [if_neg hq, if_neg hq]; rw [if_pos (by omega)] at h
      rw [if_neg (by omega)]; exact joinGo_eq l _ _ (by omega)
theorem joinGo_big : ∀ (l : List Run) (n : Int) (out : List Run), 4611686018427387904 < n + posSum l → n ≤ 4611686018427387904 → joinGo n out l = []
  | [], n, _, h, h2 => by simp [posSum] at h; omega
  | r :: l, n, out, h, h2 => by
    rw [show posSum (r :: l) = (if 0 < r.N then r.N else 0) + posSum l from rfl] at h
    rw [joinGo]
    by_cases hq : r.N < 1
    · rw [if_pos hq]; rw [if_neg (by omega)] at h; exact joinGo_big l n out (by omega) h2
    · rw [if_neg hq]; rw [if_pos (by omega)] at h
      by_cases hm : 4611686018427387904 - n < r.N
      · rw [if_pos hm]
      · rw [if_neg hm]; exact joinGo_big l _ _ (by omega) (by omega)

theorem isEmpty_snoc {α : Type} (o : List α) (x : α) (r : List α) : (o ++ x :: r).isEmpty = false := by cases o <;> rfl
/-! ### The ticks, one by one -/
def expand (l : List Run) : List Run := l.flatMap fun r => List.replicate r.N.toNat ⟨1, r.Bus, r.Drive⟩
end Go.AM.R1
open Go Go.AM
namespace Go.AM.R1

/-! ### The plain law of cutting -/
theorem push_push (out : List Run) (n m b d : Int) : push (push out ⟨n, b, d⟩) ⟨m, b, d⟩ = push out ⟨n + m, b, d⟩ := by
  rcases snoc_cases out with rfl | ⟨o, x, rfl⟩
  · simp [push, alike]
  · rw [push_snoc, push_snoc]
    by_cases h : alike x ⟨n, b, d⟩ = true
    · have h' : alike x ⟨n + m, b, d⟩ = true := h
      rw [if_pos h, if_pos h', push_snoc, if_pos (by exact h), Int.add_assoc]
    · have h' : ¬ alike x ⟨n + m, b, d⟩ = true := h
      rw [if_neg h, if_neg h', show o ++ [x, ⟨n, b, d⟩] = (o ++ [x]) ++ [⟨n, b, d⟩] from by simp, push_snoc, if_pos (by simp [alike])]
      simp
theorem joined_append : ∀ (l m out : List Run), joined out (l ++ m) = joined (joined out l) m
  | [], _, _ => rfl
  | r :: l, m, out => by
    rw [List.cons_append, joined, joined]
    split
    · exact joined_append l m out
    · exact joined_append l m _
theorem joined_replicate (out : List Run) (b d : Int) : ∀ n : Nat, joined out (List.replicate (n + 1) ⟨1, b, d⟩) = push out ⟨n + 1, b, d⟩
  | 0 => by simp [joined]
  | n + 1 => by
    rw [List.replicate_succ', joined_append, joined_replicate out b d n, joined, if_neg (by simp), push_push]
    simp [joined]
theorem joined_expand : ∀ (l out : List Run), joined out (expand l) = joined out l
  | [], _ => rfl
  | r :: l, out => by
    rw [show expand (r :: l) = List.replicate r.N.toNat ⟨1, r.Bus, r.Drive⟩ ++ expand l from rfl, joined_append, joined]
    by_cases h : r.N < 1
    · rw [if_pos h, show r.N.toNat = 0 from by omega]
      exact joined_expand l out
    · rw [if_neg h, show r.N.toNat = (r.N.toNat - 1) + 1 from by omega, joined_replicate, joined_expand l _]
      rw [show (((r.N.toNat - 1 : Nat) : Int) + 1) = r.N from by omega]
theorem expand_cons (r : Run) (l : List Run) : expand (r :: l) = List.replicate r.N.toNat ⟨1, r.Bus, r.Drive⟩ ++ expand l := rfl
theorem expand_append (l m : List Run) : expand (l ++ m) = expand l ++ expand m := by simp [expand]
theorem expand_between (a b : Int) : ∀ (l : List Run) (c : Int), (∀ r ∈ l, 0 ≤ r.N) → expand (betweenGo a b c l) = ((expand l).take (b - c).toNat).drop (a - c).toNat
  | [], c, _ => by simp [betweenGo, expand]
  | r :: l, c, h => by
    have hr := h r (by simp)
    have ih := expand_between a b l (c + r.N) fun x hx => h x (by simp [hx])
    rw [betweenGo, expand_append, ih, expand_cons, List.take_append, List.drop_append]
    congr 1
    · rw [List.take_replicate, List.drop_replicate]
      by_cases hp : 0 < part c a b r.N
      · rw [if_pos hp, expand_cons, show expand [] = [] from rfl, List.append_nil]
        congr 1
        revert hp
        unfold part
        split <;> split <;> intro hp <;> simp only [] <;> omega
      · rw [if_neg hp, show min (b - c).toNat r.N.toNat - (a - c).toNat = 0 from by revert hp; unfold part; split <;> split <;> intro hp <;> omega]
        rfl
    · simp only [List.length_take, List.length_replicate]
      rw [show (b - (c + r.N)).toNat = (b - c).toNat - r.N.toNat from by omega]
      by_cases hq : (b - c).toNat ≤ r.N.toNat
      · rw [show (b - c).toNat - r.N.toNat = 0 from by omega]; simp
      · congr 1; omega
theorem cut_law (l : List Run) (h : ∀ r ∈ l, 0 ≤ r.N) (a b : Int) : joined [] (betweenGo a b 0 l) = joined [] (((expand l).take b.toNat).drop a.toNat) := by
  have := expand_between a b l 0 h
  rw [Int.sub_zero, Int.sub_zero] at this
  rw [← this, joined_expand]
theorem expand_length : ∀ l : List Run, (∀ r ∈ l, 0 ≤ r.N) → ((expand l).length : Int) = sumN l
  | [], _ => by simp [expand, sumN]
  | r :: l, h => by
    have hr := h r (by simp)
    have ih := expand_length l fun x hx => h x (by simp [hx])
    rw [expand_cons, show sumN (r :: l) = r.N + sumN l from rfl, List.length_append, List.length_replicate]
    omega
theorem between_mem (a b : Int) : ∀ (l : List Run) (c : Int), (∀ r ∈ l, 0 ≤ r.N ∧ r.N ≤ 1073741824) → ∀ r ∈ betweenGo a b c l, 1 ≤ r.N ∧ r.N ≤ 1073741824
  | [], _, _, r, hr => by simp [betweenGo] at hr
  | x :: l, c, h, r, hr => by
    have hx := h x (by simp)
    rw [betweenGo, List.mem_append] at hr
    rcases hr with hr | hr
    · split at hr
      · rename_i hp
        simp at hr
        subst hr
        refine ⟨by simp; omega, ?_⟩
        simp only [part]
        split <;> split <;> omega
      · cases hr
    · exact between_mem a b l _ (fun y hy => h y (by simp [hy])) r hr
theorem between_length (a b : Int) : ∀ (l : List Run) (c : Int), (betweenGo a b c l).length ≤ l.length
  | [], _ => by simp [betweenGo]
  | x :: l, c => by
    have := between_length a b l (c + x.N)
    rw [betweenGo]
    split <;> simp <;> omega
theorem posSum_le : ∀ (l : List Run) (M : Int), 0 ≤ M → (∀ r ∈ l, r.N ≤ M) → posSum l ≤ M * l.length
  | [], M, _, _ => by simp [posSum]
  | r :: l, M, h0, h => by
    have hr := h r (by simp)
    have ih := posSum_le l M h0 fun x hx => h x (by simp [hx])
    rw [show posSum (r :: l) = (if 0 < r.N then r.N else 0) + posSum l from rfl, List.length_cons]
    have : M * ((l.length + 1 : Nat) : Int) = M * l.length + M := by rw [Int.natCast_add, Int.mul_add]; simp
    split <;> omega
theorem posSum_of_right : ∀ (l : List Run), (∀ r ∈ l, 0 ≤ r.N) → posSum l = sumN l
  | [], _ => rfl
  | r :: l, h => by
    have hr := h r (by simp)
    rw [show posSum (r :: l) = (if 0 < r.N then r.N else 0) + posSum l from rfl, posSum_of_right l fun x hx => h x (by simp [hx]), show sumN (r :: l) = r.N + sumN l from rfl]
    split <;> omega
def cutRuns (l : List Run) (a b : Int) : List Run × Int :=
  if chk l ≠ 0 then ([], chk l) else if a < 0 ∨ b < a ∨ sumN l < b then ([], 10) else (joined [] (betweenGo a b 0 l), 0)
theorem sum_le_pos : ∀ l : List Run, sumN l ≤ posSum l
  | [] => by simp [posSum, sumN]
  | r :: l => by
    have := sum_le_pos l
    rw [show posSum (r :: l) = (if 0 < r.N then r.N else 0) + posSum l from rfl, show sumN (r :: l) = r.N + sumN l from rfl]
    split <;> omega
theorem same_joins (l : List Run) (hl : l.length ≤ 1048576) (hl2 : ∀ r ∈ l, r.Ok) (hs : posSum l ≤ 4611686018427387904) : joinGo 0 [] l = joined [] l := joinGo_eq _ _ _ (by omega)
theorem push_length (out : List Run) (r : Run) : (push out r).length ≤ out.length + 1 := by
  rcases snoc_cases out with rfl | ⟨o, x, rfl⟩
  · simp [push]
  · rw [push_snoc]; split <;> simp
theorem joined_length : ∀ (l out : List Run), (joined out l).length ≤ out.length + l.length
  | [], out => by simp [joined]
  | r :: l, out => by
    rw [joined]
    split
    · have := joined_length l out; simp; omega
    · have := joined_length l (push out r); have := push_length out r; simp; omega
theorem expand_mem {l : List Run} {r : Run} (h : r ∈ expand l) : r.N = 1 := by
  simp only [expand, List.mem_flatMap, List.mem_replicate] at h
  obtain ⟨_, _, _, rfl⟩ := h
  rfl
end Go.AM.R1
open Go Go.AM
namespace Go.AM.R1

/-- A row of numbers. -/
def encI (n : Int) : List AVal := [.lit (.int .i64 n)]
/-- Levels, tick by tick; or why there are none. -/
def levelsV (l : List Run) (f : Run → Int) : AVal :=
  if chk l ≠ 0 then .tup [nilS, .lit (.int .i64 (chk l))] else if 1048576 < sumN l then .tup [nilS, .lit (.int .i64 12)] else .tup [.own 0 (expand l).length 1 0 (expand l).length, .lit (.int .i64 0)]
def levelsH (l : List Run) (f : Run → Int) : Heap :=
  if chk l ≠ 0 then [] else if 1048576 < sumN l then [] else [.arr true false false 1 ((expand l).map fun r => encI (f r))]
end Go.AM.R1
open Go Go.AM
namespace Go.AM.R1
/-- What a node drives. -/
def nodeLv (node : Int) (r : Run) : Int := r.Drive / (2 : Int) ^ node.toNat % 2
theorem and_one32 {x : Int} (h0 : 0 ≤ x) (h1 : x ≤ 4294967295) : ((BitVec.ofInt 32 x &&& 1#32).toNat : Int) = x % 2 := by
  rw [BitVec.toNat_and, BitVec.toNat_ofInt]
  have : (x % ((2 ^ 32 : Nat) : Int)).toNat = x.toNat := by
    rw [Int.emod_eq_of_lt h0 (by simp; omega)]
  rw [this, show (1#32 : BitVec 32).toNat = 1 from rfl, Nat.and_one_is_mod]
  omega
theorem iand_one {x : Int} (h0 : 0 ≤ x) (h1 : x ≤ 4294967295) : iand .u32 x 1 = x % 2 := by
  have h6 := and_one32 h0 h1
  have h7 : IntKind.wrap .u32 (x % 2) = x % 2 := by simp [IntKind.wrap, IntKind.bits, IntKind.signed]; omega
  unfold iand
  erw [h6, h7]
/-- Levels, tick by tick; or why there are none. -/
def levelsV1 (l : List Run) : AVal :=
  if chk l ≠ 0 then .tup [nilS, .lit (.int .i64 (chk l))] else if 1048576 < sumN l then .tup [nilS, .lit (.int .i64 12)] else .tup [.own 1 (expand l).length 1 0 (expand l).length, .lit (.int .i64 0)]
end Go.AM.R1
open Go Go.AM
namespace Go.AM.R1

def nodeV (l : List Run) (node : Int) : AVal :=
  if chk l ≠ 0 then .tup [nilS, .lit (.int .i64 (chk l))] else if node < 0 ∨ 32 ≤ node then .tup [nilS, .lit (.int .i64 10)] else levelsV l (nodeLv node)
def nodeHp (l : List Run) (node : Int) : Heap :=
  if chk l ≠ 0 then [] else if node < 0 ∨ 32 ≤ node then [] else levelsH l (nodeLv node)
theorem encI_inj {a b : Int} (h : encI a = encI b) : a = b := by simpa [encI] using h
end Go.AM.R1
open Go Go.AM
namespace Go.AM.R1

/-! ### The law TapWired -/
/-- What the nodes up to one drive, put together. -/
def gather (d : Int) : Nat → Int
  | 0 => 0
  | n + 1 => gather d n + (if d / 2 ^ n % 2 = 0 then 0 else 2 ^ n)
theorem gather_nat (m : Nat) : ∀ n : Nat, gather (m : Int) n = ((m % 2 ^ n : Nat) : Int)
  | 0 => by simp [gather, Nat.mod_one]
  | n + 1 => by
    rw [gather, gather_nat m n, Nat.mod_pow_succ]
    have e : (m : Int) / 2 ^ n % 2 = ((m / 2 ^ n % 2 : Nat) : Int) := by simp
    rw [e]
    have h2 : m / 2 ^ n % 2 = 0 ∨ m / 2 ^ n % 2 = 1 := by omega
    rcases h2 with h2 | h2
    · rw [h2]; simp
    · rw [h2]; simp
theorem gather_bound (d : Int) (h : 0 ≤ d) (n : Nat) : 0 ≤ gather d n ∧ gather d n < 2 ^ n := by
  obtain ⟨m, rfl⟩ := Int.eq_ofNat_of_zero_le h
  rw [gather_nat]
  have := Nat.mod_lt m (Nat.pow_pos (n := n) (show 0 < 2 by omega))
  constructor
  · omega
  · have e : ((2 : Int) ^ n) = ((2 ^ n : Nat) : Int) := by simp
    rw [e]; omega
theorem gather_32 (d : Int) (h : 0 ≤ d ∧ d ≤ 4294967295) : gather d 32 = d := by
  obtain ⟨m, rfl⟩ := Int.eq_ofNat_of_zero_le h.1
  rw [gather_nat, Nat.mod_eq_of_lt (by omega)]
def wireN (d : Int) : Nat → Int
  | 0 => 1
  | n + 1 => if d / 2 ^ n % 2 = 0 then 0 else wireN d n
theorem wireN_eq (d : Int) (h : 0 ≤ d) : ∀ n : Nat, wireN d n = if gather d n = 2 ^ n - 1 then 1 else 0
  | 0 => by simp [wireN, gather]
  | n + 1 => by
    have hb := gather_bound d h n
    rw [wireN, gather, wireN_eq d h n, Int.pow_succ]
    generalize (2 : Int) ^ n = p at hb
    generalize gather d n = g at hb
    by_cases hq : d / p % 2 = 0
    · rw [if_pos hq, if_pos hq, if_neg (by omega)]
    · rw [if_neg hq, if_neg hq]
      by_cases hg : g = p - 1
      · rw [if_pos hg, if_pos (by omega)]
      · rw [if_neg hg, if_neg (by omega)]
theorem wire_32 (d : Int) (h : 0 ≤ d ∧ d ≤ 4294967295) : wireN d 32 = if d = 4294967295 then 1 else 0 := by
  rw [wireN_eq d h.1, gather_32 d h]
  rfl
theorem pick_expand : ∀ (l : List Run) (t : Int), 0 ≤ t → (∀ r ∈ l, 0 ≤ r.N) → pick t l = (expand l)[t.toNat]?
  | [], _, _, _ => by simp [pick, expand]
  | r :: l, t, ht, h => by
    have hr := h r (by simp)
    rw [pick, expand_cons]
    by_cases hq : t < r.N
    · rw [if_pos hq, List.getElem?_append_left (by simp; omega), List.getElem?_replicate, if_pos (by omega)]
    · rw [if_neg hq, List.getElem?_append_right (by simp; omega), List.length_replicate, pick_expand l _ (by omega) fun x hx => h x (by simp [hx])]
      congr 1; omega
theorem expand_right {l : List Run} (h : ∀ r ∈ l, right r = true) {r : Run} (hr : r ∈ expand l) : r.Bus = if r.Drive = 4294967295 then 1 else 0 := by
  simp only [expand, List.mem_flatMap, List.mem_replicate] at hr
  obtain ⟨x, hx, _, rfl⟩ := hr
  have := h x hx
  simp only [right, Bool.and_eq_true, decide_eq_true_eq] at this
  exact this.2
theorem expand_drive {l : List Run} (h : ∀ r ∈ l, 0 ≤ r.Drive ∧ r.Drive ≤ 4294967295) {r : Run} (hr : r ∈ expand l) : 0 ≤ r.Drive ∧ r.Drive ≤ 4294967295 := by
  simp only [expand, List.mem_flatMap, List.mem_replicate] at hr
  obtain ⟨x, hx, _, rfl⟩ := hr
  exact h x hx
end Go.AM.R1
open Go Go.AM
namespace Go.AM.R1

/-! ### The law TapJoins -/
theorem expand_push (out : List Run) (r : Run) (hr : 0 ≤ r.N) (ho : ∀ x ∈ out, 0 ≤ x.N) : expand (push out r) = expand out ++ expand [r] := by
  rcases snoc_cases out with rfl | ⟨o, x, rfl⟩
  · simp [push, expand]
  · rw [push_snoc]
    by_cases h : alike x r = true
    · rw [if_pos h]
      have hx := ho x (by simp)
      simp only [alike, Bool.and_eq_true, decide_eq_true_eq] at h
      rw [expand_append, expand_append, List.append_assoc]
      congr 1
      simp only [expand, List.flatMap_cons, List.flatMap_nil, List.append_nil]
      rw [← h.1, ← h.2, List.replicate_append_replicate]
      congr 1
      omega
    · rw [if_neg h, show o ++ [x, r] = (o ++ [x]) ++ [r] from by simp, expand_append]
theorem push_mem_nonneg {out : List Run} {r : Run} (hr : 0 ≤ r.N) (ho : ∀ x ∈ out, 0 ≤ x.N) : ∀ x ∈ push out r, 0 ≤ x.N := by
  intro y hy
  rcases snoc_cases out with rfl | ⟨o, x, rfl⟩
  · simp [push] at hy; subst hy; exact hr
  · have hx := ho x (by simp)
    rw [push_snoc] at hy
    split at hy
    · simp at hy
      rcases hy with hy | rfl
      · exact ho y (by simp [hy])
      · simp; omega
    · simp at hy
      rcases hy with hy | rfl | rfl
      · exact ho y (by simp [hy])
      · exact hx
      · exact hr
theorem expand_joined : ∀ (l out : List Run), (∀ x ∈ out, 0 ≤ x.N) → expand (joined out l) = expand out ++ expand l
  | [], out, _ => by simp [joined, expand]
  | r :: l, out, ho => by
    rw [joined]
    by_cases h : r.N < 1
    · rw [if_pos h, expand_joined l out ho, expand_cons, show r.N.toNat = 0 from by omega]
      simp
    · rw [if_neg h, expand_joined l _ (push_mem_nonneg (by omega) ho), expand_push out r (by omega) ho]
      simp [expand]
theorem joined_self (l : List Run) : joined [] (joined [] l) = joined [] l := by
  rw [← joined_expand (joined [] l), expand_joined l [] (by simp)]
  simp only [expand, List.flatMap_nil, List.nil_append]
  exact joined_expand l []
/-- No two side by side are alike, and each has ticks. -/
def Tidy (l : List Run) : Prop := (∀ x ∈ l, 1 ≤ x.N) ∧ ∀ i (h : i + 1 < l.length), alike l[i] l[i + 1] = false
theorem tidy_push {out : List Run} {r : Run} (hr : 1 ≤ r.N) (ho : Tidy out) : Tidy (push out r) := by
  rcases snoc_cases out with rfl | ⟨o, x, rfl⟩
  · rw [push_nil]
    refine ⟨by simpa using hr, fun i h => ?_⟩
    simp at h
  · obtain ⟨h1, h2⟩ := ho
    have hx := h1 x (by simp)
    rw [push_snoc]
    by_cases h : alike x r = true
    · rw [if_pos h]
      refine ⟨fun y hy => ?_, fun i hi => ?_⟩
      · simp at hy
        rcases hy with hy | rfl
        · exact h1 y (by simp [hy])
        · simp; omega
      · have := h2 i (by simpa using hi)
        simp at hi
        by_cases hio : i + 1 < o.length
        · rw [List.getElem_append_left (by omega), List.getElem_append_left (by omega)] at this ⊢
          exact this
        · have hi' : i + 1 = o.length := by omega
          rw [List.getElem_append_left (by omega), List.getElem_append_right (by omega)] at this ⊢
          simpa [hi', alike] using this
    · rw [if_neg h, show o ++ [x, r] = (o ++ [x]) ++ [r] from by simp]
      refine ⟨fun y hy => ?_, fun i hi => ?_⟩
      · simp at hy
        rcases hy with hy | rfl | rfl
        · exact h1 y (by simp [hy])
        · exact hx
        · exact hr
      · simp at hi
        by_cases hio : i + 1 < (o ++ [x]).length
        · rw [List.getElem_append_left (by omega), List.getElem_append_left hio]
          exact h2 i hio
        · simp at hio
          have hi' : i = o.length := by omega
          subst hi'
          have hfalse : alike x r = false := by simpa using h
          rw [List.getElem_append_left (by simp), List.getElem_append_right (by simp)]
          simpa using hfalse
theorem tidy_joined : ∀ (l out : List Run), Tidy out → Tidy (joined out l)
  | [], _, h => h
  | r :: l, out, h => by
    rw [joined]
    split
    · exact tidy_joined l out h
    · exact tidy_joined l _ (tidy_push (by omega) h)
theorem joined_mem : ∀ (l out : List Run) (P : Run → Prop), (∀ r ∈ l, 1 ≤ r.N → P r) → (∀ x r, P x → P r → alike x r = true → P ⟨x.N + r.N, x.Bus, x.Drive⟩) → (∀ x ∈ out, P x) → ∀ y ∈ joined out l, P y
  | [], _, _, _, _, h => h
  | r :: l, out, P, hl, hp, h => by
    rw [joined]
    split
    · exact joined_mem l out P (fun x hx => hl x (by simp [hx])) hp h
    · refine joined_mem l _ P (fun x hx => hl x (by simp [hx])) hp fun y hy => ?_
      have hr := hl r (by simp) (by omega)
      rcases snoc_cases out with rfl | ⟨o, x, rfl⟩
      · simp [push] at hy; subst hy; exact hr
      · have hx := h x (by simp)
        rw [push_snoc] at hy
        split at hy
        · rename_i ha
          simp at hy
          rcases hy with hy | rfl
          · exact h y (by simp [hy])
          · exact hp x r hx hr ha
        · simp at hy
          rcases hy with hy | rfl | rfl
          · exact h y (by simp [hy])
          · exact hx
          · exact hr
theorem le_sum : ∀ {l : List Run}, (∀ r ∈ l, 0 ≤ r.N) → ∀ r ∈ l, r.N ≤ sumN l
  | x :: l, h, r, hr => by
    have hx := h x (by simp)
    have hn : ∀ m : List Run, (∀ r ∈ m, 0 ≤ r.N) → 0 ≤ sumN m := by
      intro m; induction m with
      | nil => intro _; simp [sumN]
      | cons x xs ih => intro h; have := h x (by simp); have := ih fun r hr => h r (by simp [hr]); simp only [sumN]; omega
    have := hn l fun r hr => h r (by simp [hr])
    rw [show sumN (x :: l) = x.N + sumN l from rfl]
    rcases List.mem_cons.1 hr with rfl | hr
    · omega
    · have := le_sum (fun r hr => h r (by simp [hr])) r hr; omega
/-- Joined runs are as right as the runs. -/
theorem joined_chk {l : List Run} (h : chk l = 0) : chk (joined [] l) = 0 ∧ sumN (joined [] l) = sumN l ∧ expand (joined [] l) = expand l := by
  obtain ⟨hN, h0, h1⟩ := chk_right h
  have hN' : ∀ r ∈ l, 0 ≤ r.N := fun r hr => by have := hN r hr; omega
  have hex : expand (joined [] l) = expand l := by rw [expand_joined l [] (by simp)]; simp [expand]
  have hJ1 : ∀ r ∈ joined [] l, 1 ≤ r.N := (tidy_joined l [] ⟨by simp, by simp⟩).1
  have hJ' : ∀ r ∈ joined [] l, 0 ≤ r.N := fun r hr => by have := hJ1 r hr; omega
  have hs : sumN (joined [] l) = sumN l := by rw [← expand_length _ hJ', ← expand_length _ hN', hex]
  refine ⟨?_, hs, hex⟩
  have hb := joined_mem l [] (fun r => r.Bus = if r.Drive = 4294967295 then 1 else 0) (fun r hr _ => by
    have h7 := h
    unfold chk at h7
    cases ha : l.all right with
    | false => rw [ha] at h7; simp at h7
    | true =>
      have := List.all_eq_true.1 ha r hr
      simp only [right, Bool.and_eq_true, decide_eq_true_eq] at this
      exact this.2) (fun x r hx _ _ => hx) (by simp)
  have hall : (joined [] l).all right = true := by
    rw [List.all_eq_true]
    intro r hr
    have h2 := hJ1 r hr
    have h3 := le_sum hJ' r hr
    simp only [right, Bool.and_eq_true, decide_eq_true_eq]
    exact ⟨⟨h2, by omega⟩, hb r hr⟩
  unfold chk
  rw [if_pos hall, if_neg (by omega)]
theorem joined_cuts (l : List Run) (h : ∀ r ∈ l, 0 ≤ r.N) (a : Int) (h0 : 0 ≤ a) (h1 : a ≤ sumN l) :
    joined [] (joined [] (betweenGo 0 a 0 l) ++ joined [] (betweenGo a (sumN l) 0 l)) = joined [] l := by
  rw [← joined_expand (_ ++ _), expand_append, expand_joined _ [] (by simp), expand_joined _ [] (by simp)]
  have e1 := expand_between 0 a l 0 h
  have e2 := expand_between a (sumN l) l 0 h
  have hl := expand_length l h
  rw [e1, e2]
  simp only [expand, List.flatMap_nil, List.nil_append]
  rw [show (fun r : Run => List.replicate r.N.toNat (⟨1, r.Bus, r.Drive⟩ : Run)) = fun r => List.replicate r.N.toNat ⟨1, r.Bus, r.Drive⟩ from rfl]
  have hx : List.flatMap (fun r : Run => List.replicate r.N.toNat (⟨1, r.Bus, r.Drive⟩ : Run)) l = expand l := rfl
  rw [hx, List.take_of_length_le (show (expand l).length ≤ (sumN l - 0).toNat by omega)]
  simp only [Int.sub_zero, Int.zero_sub, Int.neg_zero, Int.toNat_zero, List.drop_zero, List.take_append_drop]
  exact joined_expand l []

end Go.AM.R1
open Go Go.AM
namespace Go.AM.R1

/-! ### Bytes, and the bytes of numbers -/
def encB (n : Nat) : List AVal := [.lit (.int .u8 n)]
/-- The bytes of a number. -/
def putN (n : Nat) : List Nat := if h : 128 ≤ n then (n % 128 + 128) :: putN (n / 128) else [n]
termination_by n
decreasing_by omega
theorem putN_big {n : Nat} (h : 128 ≤ n) : putN n = (n % 128 + 128) :: putN (n / 128) := by rw [putN, dif_pos h]
theorem putN_small {n : Nat} (h : n < 128) : putN n = [n] := by rw [putN, dif_neg (by omega)]
theorem wrap8 (n : Nat) : IntKind.wrap .u8 (n : Int) = ((n % 256 : Nat) : Int) := by
  simp [IntKind.wrap, IntKind.bits, IntKind.signed]
theorem wrap_u64 {n : Nat} (h : n < 18446744073709551616) : IntKind.wrap .u64 (n : Int) = (n : Int) := by
  simp [IntKind.wrap, IntKind.bits, IntKind.signed]; omega
theorem or128 : ∀ m : Nat, m < 256 → m ||| 128 = m % 128 + 128 := by decide +kernel
theorem ior_128 (n : Nat) : ior .u8 ((n % 256 : Nat) : Int) 128 = ((n % 128 + 128 : Nat) : Int) := by
  have e : (BitVec.ofInt 8 ((n % 256 : Nat) : Int) ||| BitVec.ofInt 8 128).toNat = n % 128 + 128 := by
    rw [BitVec.toNat_or, BitVec.toNat_ofInt, BitVec.toNat_ofInt]
    have h1 : (((n % 256 : Nat) : Int) % ((2 ^ 8 : Nat) : Int)).toNat = n % 256 := by simp; omega
    have h2 : ((128 : Int) % ((2 ^ 8 : Nat) : Int)).toNat = 128 := by decide
    rw [h1, h2, or128 _ (by omega)]
    omega
  unfold ior
  show IntKind.wrap .u8 ((BitVec.ofInt 8 ((n % 256 : Nat) : Int) ||| BitVec.ofInt 8 128).toNat : Int) = _
  rw [e, wrap8]
  have : n % 128 + 128 < 256 := by omega
  omega
theorem fdiv128 (n : Nat) : (n : Int).fdiv 128 = ((n / 128 : Nat) : Int) := by
  rw [Int.fdiv_eq_ediv_of_nonneg _ (by omega)]; omega
theorem tdiv128 (n : Nat) : (n : Int).tdiv 128 = ((n / 128 : Nat) : Int) := by
  rw [Int.tdiv_eq_ediv_of_nonneg (by omega)]; omega
theorem tmod128 (n : Nat) : (n : Int).tmod 128 = ((n % 128 : Nat) : Int) := by
  rw [Int.tmod_eq_emod_of_nonneg (by omega)]; omega
theorem noImmLL_append : ∀ l m : List (List AVal), noImmLL (l ++ m) = (noImmLL l && noImmLL m)
  | [], m => rfl
  | a :: l, m => by rw [List.cons_append, noImmLL, noImmLL, noImmLL_append l m, Bool.and_assoc]
theorem noImmLL_take {l : List (List AVal)} (h : noImmLL l = true) (n : Nat) : noImmLL (l.take n) = true := by
  have := noImmLL_append (l.take n) (l.drop n)
  rw [List.take_append_drop, h] at this
  cases h2 : noImmLL (l.take n) with
  | true => rfl
  | false => rw [h2] at this; cases this
theorem noImmLL_drop {l : List (List AVal)} (h : noImmLL l = true) (n : Nat) : noImmLL (l.drop n) = true := by
  have := noImmLL_append (l.take n) (l.drop n)
  rw [List.take_append_drop, h] at this
  cases h2 : noImmLL (l.drop n) with
  | true => rfl
  | false => rw [h2] at this; simp at this
theorem noImm_encB (l : List Nat) : noImmLL (l.map encB) = true := noImmLL_map (fun _ => rfl) l
attribute [go_sem] noImm_encB noImmLL_append noImmLL_take noImmLL_drop
theorem rowsB (l : List Nat) : rowsOk 1 (l.map encB) = true := rowsOk_map (f := encB) (fun _ => rfl) l

end Go.AM.R1
open Go Go.AM
namespace Go.AM.R1

/-! ### The sum of bytes -/
def stepB (x : BitVec 32) : BitVec 32 := (x >>> 1) ^^^ (if x.toNat % 2 = 1 then 3988292384#32 else 0#32)
def steps : Nat → BitVec 32 → BitVec 32
  | 0, x => x
  | n + 1, x => steps n (stepB x)
def onB (x : BitVec 32) (c : Nat) : BitVec 32 := steps 8 (x ^^^ BitVec.ofNat 32 c)
def crcGo (x : BitVec 32) (l : List Nat) : BitVec 32 := l.foldl onB x
def crc (l : List Nat) : BitVec 32 := crcGo 4294967295#32 l ^^^ 4294967295#32

theorem wrap32bv (x : BitVec 32) : IntKind.wrap .u32 (x.toNat : Int) = (x.toNat : Int) := by
  have := x.isLt
  simp [IntKind.wrap, IntKind.bits, IntKind.signed]; omega
theorem ofInt_toNat (x : BitVec 32) : BitVec.ofInt 32 (x.toNat : Int) = x := by
  rw [BitVec.ofInt_natCast, BitVec.ofNat_toNat, BitVec.setWidth_eq]
theorem ixor_bv (x y : BitVec 32) : ixor .u32 (x.toNat : Int) (y.toNat : Int) = ((x ^^^ y).toNat : Int) := by
  unfold ixor
  show IntKind.wrap .u32 ((BitVec.ofInt 32 (x.toNat : Int) ^^^ BitVec.ofInt 32 (y.toNat : Int)).toNat : Int) = _
  rw [ofInt_toNat, ofInt_toNat, wrap32bv]
theorem shr1_bv (x : BitVec 32) : (x.toNat : Int).fdiv 2 = ((x >>> 1).toNat : Int) := by
  rw [Int.fdiv_eq_ediv_of_nonneg _ (by omega), BitVec.toNat_ushiftRight, Nat.shiftRight_eq_div_pow]
  omega
theorem tdiv2_bv (x : BitVec 32) : (x.toNat : Int).tdiv 2 = ((x >>> 1).toNat : Int) := by
  rw [Int.tdiv_eq_ediv_of_nonneg (by omega), BitVec.toNat_ushiftRight, Nat.shiftRight_eq_div_pow]
  omega
theorem step_bv (x : BitVec 32) : ixor .u32 ((x >>> 1).toNat : Int) (IntKind.wrap .u32 ((x.toNat : Int) % 2 * 3988292384)) = ((stepB x).toNat : Int) := by
  have h : x.toNat % 2 = 0 ∨ x.toNat % 2 = 1 := by omega
  unfold stepB
  rcases h with h | h
  · rw [if_neg (by omega), ← ixor_bv]
    congr 1
    have : (x.toNat : Int) % 2 = 0 := by omega
    rw [this]; rfl
  · rw [if_pos h, ← ixor_bv]
    congr 1
    have : (x.toNat : Int) % 2 = 1 := by omega
    rw [this]; rfl
theorem iand1_bv (x : BitVec 32) : iand .u32 (x.toNat : Int) 1 = (x.toNat : Int) % 2 := iand_one (by omega) (by have := x.isLt; omega)

theorem step_if (x : BitVec 32) : ((stepB x).toNat : Int) = if x.toNat % 2 = 1 then ixor .u32 ((x >>> 1).toNat : Int) 3988292384 else ((x >>> 1).toNat : Int) := by
  unfold stepB
  by_cases h : x.toNat % 2 = 1
  · rw [if_pos h, if_pos h, ← ixor_bv]; rfl
  · rw [if_neg h, if_neg h]; simp
end Go.AM.R1
open Go Go.AM
namespace Go.AM.R1

/-! ### Sealing -/
def tailN (s : Nat) : List Nat := [s % 256, s / 256 % 256, s / 65536 % 256, s / 16777216 % 256]
theorem shr_nat (s m : Nat) : (s : Int).fdiv ((2 : Int) ^ m) = ((s / 2 ^ m : Nat) : Int) := by
  rw [Int.fdiv_eq_ediv_of_nonneg _ (Int.le_of_lt (Int.pow_pos (by omega)))]
  simp
/-- Bytes, with their sum behind them. -/
def sealB (l : List Nat) : List Nat := l ++ tailN (crc l).toNat
end Go.AM.R1
open Go Go.AM
namespace Go.AM.R1
/-! ### Which blocks are right -/
/-- Are there two runs side by side with the same drivers? -/
def dup : List Run → Bool
  | a :: b :: l => decide (a.Drive = b.Drive) || dup (b :: l)
  | _ => false
theorem dup_cons (l : List Run) (i : Nat) (h : i + 1 < l.length) : dup (l.drop i) = (decide (l[i].Drive = l[i + 1].Drive) || dup (l.drop (i + 1))) := by
  rw [List.drop_eq_getElem_cons (show i < l.length by omega), List.drop_eq_getElem_cons h, dup]
theorem dup_end (l : List Run) (i : Nat) (h : l.length ≤ i + 1) : dup (l.drop i) = false := by
  rcases Nat.lt_or_ge i l.length with h2 | h2
  · rw [List.drop_eq_getElem_cons h2, List.drop_eq_nil_of_le (by omega)]; rfl
  · rw [List.drop_eq_nil_of_le h2]; rfl
def chkB (first : Int) (l : List Run) : Int :=
  if first < 0 ∨ 1073741824 < first then 10 else if l = [] then 16 else if 4096 < l.length then 12 else if chk l ≠ 0 then chk l else if dup l = true then 11 else if 1073741824 < first + sumN l then 12 else 0
def encBlk (first : Int) (l : List Run) (nl fu : Bool) : List AVal := [.lit (.int .i64 first), .imm nl fu true (l.map encRun)]
end Go.AM.R1
open Go Go.AM
namespace Go.AM.R1

/-! ### The bytes of a block -/
theorem ixor_range (x y : Int) : 0 ≤ ixor .u32 x y ∧ ixor .u32 x y ≤ 4294967295 := by
  unfold ixor
  generalize ((BitVec.ofInt IntKind.u32.bits x ^^^ BitVec.ofInt IntKind.u32.bits y).toNat : Int) = z
  simp [IntKind.wrap, IntKind.bits, IntKind.signed]; omega
theorem putN_pos (n : Nat) : putN n ≠ [] := by
  rcases Nat.lt_or_ge n 128 with h | h
  · rw [putN_small h]; simp
  · rw [putN_big h]; simp
theorem putN_length : ∀ (d n : Nat), n < 128 ^ (d + 1) → (putN n).length ≤ d + 1
  | 0, n, h => by rw [putN_small (by omega)]; simp
  | d + 1, n, h => by
    rcases Nat.lt_or_ge n 128 with h2 | h2
    · rw [putN_small h2]; simp
    · rw [putN_big h2, List.length_cons]
      have := putN_length d (n / 128) (by rw [Nat.pow_succ] at h; omega)
      omega
theorem putN_len64 {n : Nat} (h : n < 18446744073709551616) : (putN n).length ≤ 10 := putN_length 9 n (by omega)
theorem putN_byte : ∀ (d n : Nat), n < 128 ^ (d + 1) → ∀ c ∈ putN n, c < 256
  | 0, n, h => by rw [putN_small (by omega)]; simp; omega
  | d + 1, n, h => by
    rcases Nat.lt_or_ge n 128 with h2 | h2
    · rw [putN_small h2]; simp; omega
    · rw [putN_big h2]
      have := putN_byte d (n / 128) (by rw [Nat.pow_succ] at h; omega)
      intro c hc
      rcases List.mem_cons.1 hc with rfl | hc
      · omega
      · exact this c hc
/-- The inside as it is laid: a place with its bytes. -/
def inH (I : List Nat) : Heap := if I = [] then [.box [nilS]] else [.box [.own 1 I.length 1 0 I.length], .arr true false false 1 (I.map encB)]
/-- The numbers of a block's runs. -/
def runN (last : Int) : List Run → List Nat
  | [] => []
  | r :: l => r.N.toNat :: (ixor .u32 r.Drive last).toNat :: runN r.Drive l
def numsN (first : Int) (l : List Run) : List Nat := first.toNat :: l.length :: runN 4294967295 l
def bytesN (l : List Nat) : List Nat := l.flatMap putN
def insideB (first : Int) (l : List Run) : List Nat := bytesN (numsN first l)
/-- The bytes of numbers, as an inside. -/
def wholeB (l : List Nat) : List Nat := sealB (putN (bytesN l).length ++ bytesN l)
theorem chkB_ok {first : Int} {l : List Run} (h : chkB first l = 0) : (0 ≤ first ∧ first ≤ 1073741824) ∧ l ≠ [] ∧ l.length ≤ 4096 ∧ chk l = 0 ∧ dup l = false ∧ first + sumN l ≤ 1073741824 := by
  unfold chkB at h
  split at h
  · omega
  · split at h
    · omega
    · split at h
      · omega
      · split at h
        · rename_i h5; exact absurd h h5
        · split at h
          · omega
          · split at h
            · omega
            · rename_i h1 h2 h3 h4 h5 h6
              exact ⟨by omega, h2, by omega, by simpa using h4, by simpa using h5, by omega⟩
theorem bytes_len (l : List Nat) (h : ∀ n ∈ l, n < 18446744073709551616) : (bytesN l).length ≤ 10 * l.length := by
  induction l with
  | nil => simp [bytesN]
  | cons n l ih =>
    have h1 := putN_len64 (h n (by simp))
    have h2 := ih fun m hm => h m (by simp [hm])
    simp only [bytesN, List.flatMap_cons, List.length_append, List.length_cons] at h2 ⊢
    omega
theorem bytes_byte (l : List Nat) (h : ∀ n ∈ l, n < 18446744073709551616) : ∀ c ∈ bytesN l, c < 256 := by
  intro c hc
  simp only [bytesN, List.mem_flatMap] at hc
  obtain ⟨n, hn, hc⟩ := hc
  exact putN_byte 9 n (by have := h n hn; omega) c hc
theorem runN_lt : ∀ (l : List Run) (last : Int), (∀ r ∈ l, 1 ≤ r.N ∧ r.N ≤ 1073741824) → ∀ n ∈ runN last l, n < 4294967296
  | [], _, _, n, hn => by simp [runN] at hn
  | r :: l, last, h, n, hn => by
    have hr := h r (by simp)
    have hx := ixor_range r.Drive last
    simp only [runN, List.mem_cons] at hn
    rcases hn with rfl | rfl | hn
    · omega
    · omega
    · exact runN_lt l _ (fun x hx => h x (by simp [hx])) n hn
theorem runN_length : ∀ (l : List Run) (last : Int), (runN last l).length = 2 * l.length
  | [], _ => rfl
  | r :: l, last => by simp only [runN, List.length_cons, runN_length l]; omega
theorem nums_lt {first : Int} {l : List Run} (hf : 0 ≤ first ∧ first ≤ 1073741824) (hl : l.length ≤ 4096) (h : ∀ r ∈ l, 1 ≤ r.N ∧ r.N ≤ 1073741824) : ∀ n ∈ numsN first l, n < 4294967296 := by
  intro n hn
  simp only [numsN, List.mem_cons] at hn
  rcases hn with rfl | rfl | hn
  · omega
  · omega
  · exact runN_lt l _ h n hn
theorem inside_len {first : Int} {l : List Run} (hf : 0 ≤ first ∧ first ≤ 1073741824) (hl : l.length ≤ 4096) (h : ∀ r ∈ l, 1 ≤ r.N ∧ r.N ≤ 1073741824) : (insideB first l).length ≤ 82000 := by
  have := bytes_len (numsN first l) fun n hn => by have := nums_lt hf hl h n hn; omega
  have e : (numsN first l).length = 2 * l.length + 2 := by simp only [numsN, List.length_cons, runN_length]
  unfold insideB
  omega
end Go.AM.R1
open Go Go.AM
namespace Go.AM.R1

def encU (n : Nat) : List AVal := [.lit (.int .u64 n)]
theorem rowsU (l : List Nat) : rowsOk 1 (l.map encU) = true := rowsOk_map (f := encU) (fun _ => rfl) l
theorem tail_length (s : Nat) : (tailN s).length = 4 := rfl
theorem whole_length (l : List Nat) : (wholeB l).length = (putN (bytesN l).length).length + (bytesN l).length + 4 := by
  simp [wholeB, sealB, tail_length]; omega
end Go.AM.R1
open Go Go.AM
namespace Go.AM.R1

/-! ### Numbers, got -/
def getGo (i acc : Nat) : List Nat → Nat × Nat × Int
  | [] => (0, 0, 13)
  | x :: r => if i = 9 ∧ 1 < x then (0, 0, 10) else if x = 0 ∧ 0 < i then (0, 0, 11) else if x < 128 then (acc + x % 128 * 128 ^ i, i + 1, 0) else getGo (i + 1) (acc + x % 128 * 128 ^ i) r
def getN (b : List Nat) : Nat × Nat × Int := getGo 0 0 b
theorem iand_127 (x : Nat) (h : x < 256) : iand .u8 (x : Int) 127 = ((x % 128 : Nat) : Int) := by
  have e : (BitVec.ofInt 8 (x : Int) &&& BitVec.ofInt 8 127).toNat = x % 128 := by
    rw [BitVec.toNat_and, BitVec.toNat_ofInt, BitVec.toNat_ofInt]
    have h1 : ((x : Int) % ((2 ^ 8 : Nat) : Int)).toNat = x := by simp; omega
    have h2 : ((127 : Int) % ((2 ^ 8 : Nat) : Int)).toNat = 127 := by decide
    rw [h1, h2, show 127 = 2 ^ 7 - 1 from rfl, Nat.and_two_pow_sub_one_eq_mod]
  unfold iand
  show IntKind.wrap .u8 ((BitVec.ofInt 8 (x : Int) &&& BitVec.ofInt 8 127).toNat : Int) = _
  rw [e, wrap8]
  omega
theorem ior_add {i acc m : Nat} (h : acc < 2 ^ i) (h2 : acc + m * 2 ^ i < 18446744073709551616) : ior .u64 (acc : Int) ((m * 2 ^ i : Nat) : Int) = ((acc + m * 2 ^ i : Nat) : Int) := by
  have e : (BitVec.ofInt 64 (acc : Int) ||| BitVec.ofInt 64 ((m * 2 ^ i : Nat) : Int)).toNat = acc + m * 2 ^ i := by
    rw [BitVec.toNat_or, BitVec.ofInt_natCast, BitVec.ofInt_natCast, BitVec.toNat_ofNat, BitVec.toNat_ofNat, Nat.mod_eq_of_lt (by omega), Nat.mod_eq_of_lt (by omega)]
    have := Nat.shiftLeft_add_eq_or_of_lt h m
    rw [Nat.shiftLeft_eq] at this
    rw [Nat.or_comm, ← this]; omega
  unfold ior
  show IntKind.wrap .u64 ((BitVec.ofInt 64 (acc : Int) ||| BitVec.ofInt 64 ((m * 2 ^ i : Nat) : Int)).toNat : Int) = _
  rw [e, wrap_u64 h2]
theorem pow128 (i : Nat) : (128 : Nat) ^ i = 2 ^ (7 * i) := by rw [Nat.pow_mul]
theorem get_bound {i acc x : Nat} (h9 : i ≤ 9) (ha : acc < 128 ^ i) (hx : i = 9 → x ≤ 1) : acc + x % 128 * 128 ^ i < 18446744073709551616 := by
  have hm : x % 128 ≤ 127 := by omega
  rcases Nat.lt_or_ge i 9 with h | h
  · have h2 : x % 128 * 128 ^ i ≤ 127 * 128 ^ i := Nat.mul_le_mul_right _ hm
    have h3 : 128 ^ i ≤ 128 ^ 8 := Nat.pow_le_pow_right (by omega) (by omega)
    omega
  · have : i = 9 := by omega
    subst this
    have h2 : x % 128 * 128 ^ 9 ≤ 1 * 128 ^ 9 := Nat.mul_le_mul_right _ (by have := hx rfl; omega)
    omega
theorem get_next {i acc x : Nat} (ha : acc < 128 ^ i) : acc + x % 128 * 128 ^ i < 128 ^ (i + 1) := by
  have hm : x % 128 ≤ 127 := by omega
  have h2 : x % 128 * 128 ^ i ≤ 127 * 128 ^ i := Nat.mul_le_mul_right _ hm
  rw [Nat.pow_succ]
  omega
end Go.AM.R1
open Go Go.AM
namespace Go.AM.R1

theorem tmod128' (x : Nat) : ((x : Nat) : Int).tmod 128 = ((x % 128 : Nat) : Int) := by rw [Int.tmod_eq_emod_of_nonneg (by omega)]; omega
end Go.AM.R1
open Go Go.AM
namespace Go.AM.R1

/-! ### What is put is got, and what is got was put -/
theorem get_put_gen (r : List Nat) : ∀ (d m i acc : Nat), m < 128 ^ (d + 1) → i ≤ 9 → (i = 0 ∨ m ≠ 0) → acc + m * 128 ^ i < 18446744073709551616 → getGo i acc (putN m ++ r) = (acc + m * 128 ^ i, i + (putN m).length, 0)
  | 0, m, i, acc, hm, h9, h0, hb => by
    rw [putN_small (by omega)]
    simp only [List.cons_append, List.nil_append, getGo, List.length_cons, List.length_nil]
    have c1 : ¬ (i = 9 ∧ 1 < m) := by
      rintro ⟨rfl, h⟩
      have : 2 * 128 ^ 9 ≤ m * 128 ^ 9 := Nat.mul_le_mul_right _ h
      omega
    rw [if_neg c1, if_neg (by omega), if_pos (by omega), Nat.mod_eq_of_lt (by omega)]
  | d + 1, m, i, acc, hm, h9, h0, hb => by
    rcases Nat.lt_or_ge m 128 with h | h
    · exact get_put_gen r 0 m i acc (by omega) h9 h0 hb
    · rw [putN_big h]
      simp only [List.cons_append, getGo, List.length_cons]
      have hi : i < 9 := by
        rcases Nat.lt_or_ge i 9 with h2 | h2
        · exact h2
        · have : i = 9 := by omega
          subst this
          have : 128 * 128 ^ 9 ≤ m * 128 ^ 9 := Nat.mul_le_mul_right _ h
          omega
      rw [if_neg (by omega), if_neg (by omega), if_neg (by omega)]
      have e : acc + (m % 128 + 128) % 128 * 128 ^ i + m / 128 * 128 ^ (i + 1) = acc + m * 128 ^ i := by
        rw [Nat.pow_succ, show (m % 128 + 128) % 128 = m % 128 from by omega]
        have h1 : m / 128 * (128 ^ i * 128) = (128 * (m / 128)) * 128 ^ i := by
          rw [Nat.mul_comm (128 ^ i) 128, ← Nat.mul_assoc, Nat.mul_comm (m / 128) 128]
        rw [h1, Nat.add_assoc, ← Nat.add_mul, Nat.mod_add_div]
      have ih := get_put_gen r d (m / 128) (i + 1) (acc + (m % 128 + 128) % 128 * 128 ^ i) (by rw [Nat.pow_succ] at hm; omega) (by omega) (.inr (by omega)) (by rw [e]; exact hb)
      rw [ih, e]
      congr 2; omega
theorem get_put {n : Nat} (h : n < 18446744073709551616) (r : List Nat) : getN (putN n ++ r) = (n, (putN n).length, 0) := by
  have := get_put_gen r 9 n 0 0 (by omega) (by omega) (.inl rfl) (by simpa using h)
  simpa [getN] using this
theorem put_get_gen : ∀ (b : List Nat) (i acc n k : Nat), (∀ c ∈ b, c < 256) → i ≤ 9 → acc < 128 ^ i → getGo i acc b = (n, k, 0) →
    ∃ m, b = putN m ++ b.drop (k - i) ∧ n = acc + m * 128 ^ i ∧ k = i + (putN m).length ∧ (0 < i → m ≠ 0) ∧ n < 18446744073709551616
  | [], i, acc, n, k, _, _, _, h => by simp [getGo] at h
  | x :: r, i, acc, n, k, hb, h9, ha, h => by
    have hx := hb x (by simp)
    rw [getGo] at h
    split at h
    · simp at h
    · rename_i c1
      split at h
      · simp at h
      · rename_i c2
        have hbd := get_bound (x := x) h9 ha (by omega)
        split at h
        · rename_i c3
          simp only [Prod.mk.injEq] at h
          obtain ⟨h1, h2, -⟩ := h
          refine ⟨x, ?_, ?_, ?_, ?_, ?_⟩
          · rw [putN_small c3, ← h2, show i + 1 - i = 1 from by omega]; rfl
          · rw [← h1, Nat.mod_eq_of_lt c3]
          · rw [putN_small c3, ← h2]; rfl
          · omega
          · rw [← h1]; exact hbd
        · rename_i c3
          have hi : i < 9 := by omega
          obtain ⟨m, e1, e2, e3, e4, e5⟩ := put_get_gen r (i + 1) _ n k (fun c hc => hb c (by simp [hc])) (by omega) (get_next ha) h
          have hm := e4 (by omega)
          have hk : i + 1 ≤ k := by omega
          refine ⟨x % 128 + m * 128, ?_, ?_, ?_, ?_, e5⟩
          · rw [putN_big (by omega), show (x % 128 + m * 128) % 128 + 128 = x from by omega, show (x % 128 + m * 128) / 128 = m from by omega, show k - i = (k - (i + 1)) + 1 from by omega]
            simp only [List.cons_append, List.drop_succ_cons]
            rw [← e1]
          · rw [e2, Nat.pow_succ, Nat.add_mul, Nat.mul_assoc m 128, Nat.mul_comm 128 (128 ^ i)]; omega
          · rw [putN_big (by omega), show (x % 128 + m * 128) / 128 = m from by omega, List.length_cons]; omega
          · omega
theorem put_get {b : List Nat} {n k : Nat} (hb : ∀ c ∈ b, c < 256) (h : getN b = (n, k, 0)) : b = putN n ++ b.drop k ∧ k = (putN n).length ∧ n < 18446744073709551616 := by
  obtain ⟨m, e1, e2, e3, -, e5⟩ := put_get_gen b 0 0 n k hb (by omega) (by simp) h
  simp at e2 e3 e1
  subst e2
  exact ⟨by simpa using e1, e3, e5⟩
theorem getGo_bad : ∀ (b : List Nat) (i acc : Nat), (getGo i acc b).2.2 ≠ 0 → (getGo i acc b).1 = 0 ∧ (getGo i acc b).2.1 = 0
  | [], _, _, _ => ⟨rfl, rfl⟩
  | x :: r, i, acc, h => by
    rw [getGo] at h ⊢
    split
    · exact ⟨rfl, rfl⟩
    · rename_i c1
      rw [if_neg c1] at h
      split
      · exact ⟨rfl, rfl⟩
      · rename_i c2
        rw [if_neg c2] at h
        split
        · rename_i c3
          rw [if_pos c3] at h; simp at h
        · rename_i c3
          rw [if_neg c3] at h
          exact getGo_bad r _ _ h
/-- The numbers of bytes. -/
def allGo : Nat → List Nat → Nat → List Nat → List Nat × Nat × Int
  | 0, _, _, acc => (acc, 0, 0)
  | d + 1, b, p, acc => if b.length ≤ p then (acc, 0, 0) else if (getN (b.drop p)).2.2 = 0 then allGo d b (p + (getN (b.drop p)).2.1) (acc ++ [(getN (b.drop p)).1]) else ([], p, (getN (b.drop p)).2.2)
def allN (b : List Nat) : List Nat × Nat × Int := allGo b.length b 0 []
theorem get_ok {b : List Nat} (hb : ∀ c ∈ b, c < 256) (h : (getN b).2.2 = 0) : b = putN (getN b).1 ++ b.drop (getN b).2.1 ∧ (getN b).2.1 = (putN (getN b).1).length ∧ (getN b).1 < 18446744073709551616 :=
  put_get hb (by rw [← h])
theorem all_ok : ∀ (d : Nat) (b : List Nat) (p : Nat) (acc l : List Nat) (q : Nat), (∀ c ∈ b, c < 256) → b.length ≤ p + d → allGo d b p acc = (l, q, 0) → ∃ l', l = acc ++ l' ∧ b.drop p = bytesN l' ∧ (∀ n ∈ l', n < 18446744073709551616) ∧ q = 0
  | 0, b, p, acc, l, q, hb, hd, h => by
    simp only [allGo, Prod.mk.injEq] at h
    exact ⟨[], by simp [h.1], by rw [List.drop_eq_nil_of_le (by omega)]; rfl, by simp, h.2.1.symm⟩
  | d + 1, b, p, acc, l, q, hb, hd, h => by
    rw [allGo] at h
    split at h
    · simp only [Prod.mk.injEq] at h
      exact ⟨[], by simp [h.1], by rw [List.drop_eq_nil_of_le (by omega)]; rfl, by simp, h.2.1.symm⟩
    · split at h
      · rename_i h1 h2
        obtain ⟨e1, e2, e3⟩ := get_ok (fun c hc => hb c (List.mem_of_mem_drop hc)) h2
        have hpos := List.length_pos_iff.2 (putN_pos (getN (b.drop p)).1)
        obtain ⟨l', f1, f2, f3, f4⟩ := all_ok d b _ _ l q hb (by omega) h
        refine ⟨(getN (b.drop p)).1 :: l', by rw [f1]; simp, ?_, ?_, f4⟩
        · rw [show bytesN ((getN (b.drop p)).1 :: l') = putN (getN (b.drop p)).1 ++ bytesN l' from rfl, ← f2, ← List.drop_drop]
          exact e1
        · intro n hn
          rcases List.mem_cons.1 hn with rfl | hn
          · exact e3
          · exact f3 n hn
      · rename_i h1 h2
        simp only [Prod.mk.injEq] at h
        exact absurd h.2.2 h2
theorem all_bytes : ∀ (l' : List Nat) (d : Nat) (b : List Nat) (p : Nat) (acc : List Nat), b.drop p = bytesN l' → (∀ n ∈ l', n < 18446744073709551616) → b.length ≤ p + d → allGo d b p acc = (acc ++ l', 0, 0)
  | [], d, b, p, acc, h, _, hd => by
    have hl : b.length ≤ p := by
      have := congrArg List.length h
      simp [bytesN] at this; omega
    cases d with
    | zero => simp [allGo]
    | succ d => rw [allGo, if_pos hl]; simp
  | n :: l', d, b, p, acc, h, hn, hd => by
    have h' : b.drop p = putN n ++ bytesN l' := h
    have hg := get_put (hn n (by simp)) (bytesN l')
    rw [← h'] at hg
    have hpos := List.length_pos_iff.2 (putN_pos n)
    have hlen := congrArg List.length h'
    simp at hlen
    cases d with
    | zero => omega
    | succ d =>
      rw [allGo, if_neg (by omega), hg, if_pos rfl]
      rw [all_bytes l' d b (p + (putN n).length) (acc ++ [n]) (by rw [← List.drop_drop, h', List.drop_left]) (fun m hm => hn m (by simp [hm])) (by omega)]
      simp
theorem bytesN_inj {l m : List Nat} (hl : ∀ n ∈ l, n < 18446744073709551616) (hm : ∀ n ∈ m, n < 18446744073709551616) (h : bytesN l = bytesN m) : l = m := by
  have h1 := all_bytes l (bytesN l).length (bytesN l) 0 [] rfl hl (by omega)
  have h2 := all_bytes m (bytesN l).length (bytesN l) 0 [] (by simpa using h) hm (by omega)
  rw [h1] at h2
  simpa using h2
end Go.AM.R1
open Go Go.AM
namespace Go.AM.R1

theorem take_allB (b : List Nat) : List.take b.length (List.map encB b) = List.map encB b := List.take_of_length_le (by simp)
theorem bytesOf_map : ∀ l : List Nat, bytesOf (l.map encB) = some (l.map UInt8.ofNat)
  | [] => rfl
  | c :: l => by
    rw [List.map_cons, encB, bytesOf, bytesOf_map l]
    simp
theorem ofNat_inj {a b : Nat} (ha : a < 256) (hb : b < 256) (h : UInt8.ofNat a = UInt8.ofNat b) : a = b := by
  have := congrArg UInt8.toNat h
  simp at this
  omega
theorem map_ofNat_inj : ∀ {l m : List Nat}, (∀ c ∈ l, c < 256) → (∀ c ∈ m, c < 256) → l.map UInt8.ofNat = m.map UInt8.ofNat → l = m
  | [], [], _, _, _ => rfl
  | [], _ :: _, _, _, h => by simp at h
  | _ :: _, [], _, _, h => by simp at h
  | a :: l, b :: m, hl, hm, h => by
    simp only [List.map_cons, List.cons.injEq] at h
    rw [ofNat_inj (hl a (by simp)) (hm b (by simp)) h.1, map_ofNat_inj (fun c hc => hl c (by simp [hc])) (fun c hc => hm c (by simp [hc])) h.2]
theorem tail_length' (s : Nat) : (tailN s).length = 4 := rfl
theorem tail_byte (s : Nat) : ∀ c ∈ tailN s, c < 256 := by
  intro c hc
  simp [tailN] at hc
  omega
/-- Is there a sum behind, that is right? -/
def openE (b : List Nat) : Int := if b.length < 4 then 13 else if b.drop (b.length - 4) = tailN (crc (b.take (b.length - 4))).toNat then 0 else 18
theorem seal_take (b : List Nat) (h : ¬ b.length < 4) : openE b = 0 ↔ sealB (b.take (b.length - 4)) = b := by
  unfold openE sealB
  rw [if_neg h]
  constructor
  · intro e
    split at e
    · rename_i hq
      rw [← hq, List.take_append_drop]
    · omega
  · intro e
    rw [if_pos]
    have h2 := congrArg (List.drop (b.length - 4)) e
    rw [List.drop_append] at h2
    have hlt : (b.take (b.length - 4)).length = b.length - 4 := by simp
    rw [hlt, Nat.sub_self, List.drop_zero, List.drop_eq_nil_of_le (by omega), List.nil_append] at h2
    exact h2.symm
theorem sealB_length (l : List Nat) : (sealB l).length = l.length + 4 := by simp [sealB, tail_length']
end Go.AM.R1
open Go Go.AM
namespace Go.AM.R1

def sizeB (b : List Nat) : Int × Int := if (getN b).2.2 ≠ 0 then (0, (getN b).2.2) else if 65536 < (getN b).1 then (0, 12) else (((getN b).2.1 + (getN b).1 + 4 : Nat), 0)
theorem get_k_le {b : List Nat} (hb : ∀ c ∈ b, c < 256) (h : (getN b).2.2 = 0) : 1 ≤ (getN b).2.1 ∧ (getN b).2.1 ≤ 10 ∧ (getN b).2.1 ≤ b.length := by
  obtain ⟨e1, e2, e3⟩ := get_ok hb h
  have hpos := List.length_pos_iff.2 (putN_pos (getN b).1)
  have h10 := putN_len64 e3
  have hl := congrArg List.length e1
  simp at hl
  omega
end Go.AM.R1
open Go Go.AM
namespace Go.AM.R1

/-- What the walk through the numbers ends with: all, or the error at a place. -/
def numGo : Nat → List Nat → Nat → List Nat → List Nat × Nat × Int
  | 0, _, _, acc => (acc, 0, 0)
  | d + 1, b, p, acc => if b.length ≤ p then (acc, 0, 0) else if (getN (b.drop p)).2.2 = 0 then numGo d b (p + (getN (b.drop p)).2.1) (acc ++ [(getN (b.drop p)).1]) else (acc, p, (getN (b.drop p)).2.2)
theorem num_all : ∀ (d : Nat) (b : List Nat) (p : Nat) (acc : List Nat), allGo d b p acc = if (numGo d b p acc).2.2 = 0 then ((numGo d b p acc).1, 0, 0) else ([], (numGo d b p acc).2.1, (numGo d b p acc).2.2)
  | 0, b, p, acc => by simp [allGo, numGo]
  | d + 1, b, p, acc => by
    rw [allGo, numGo]
    by_cases h : b.length ≤ p
    · simp [h]
    · rw [if_neg h, if_neg h]
      by_cases h2 : (getN (b.drop p)).2.2 = 0
      · rw [if_pos h2, if_pos h2, num_all d]
      · rw [if_neg h2, if_neg h2]; simp [h2]
end Go.AM.R1
open Go Go.AM
namespace Go.AM.R1

/-! ### The block of numbers -/
def nextB (most : Nat) : List Nat × Bool → Nat × (List Nat × Bool)
  | ([], _) => (0, [], false)
  | (x :: r, q) => if most < x then (0, x :: r, false) else (x, r, q)
theorem nextB_le (most : Nat) (s : List Nat × Bool) : (nextB most s).1 ≤ most := by
  obtain ⟨l, q⟩ := s
  cases l with
  | nil => simp [nextB]
  | cons x r => rw [nextB]; split <;> simp; omega
def inLp : Nat → List Nat × Bool → Int → List Run → (List Nat × Bool) × List Run
  | 0, s, _, out => (s, out)
  | n + 1, s, last, out =>
    inLp n (nextB 4294967295 (nextB 1073741824 s).2).2 (ixor .u32 ((nextB 4294967295 (nextB 1073741824 s).2).1 : Nat) last)
      (out ++ [⟨((nextB 1073741824 s).1 : Nat), if ixor .u32 ((nextB 4294967295 (nextB 1073741824 s).2).1 : Nat) last = 4294967295 then 1 else 0, ixor .u32 ((nextB 4294967295 (nextB 1073741824 s).2).1 : Nat) last⟩])
/-- The heap of the numbers' walk. -/
def insH (nl fu : Bool) (s : List Nat × Bool) (first : Int) (out : List Run) : Heap :=
  [.box [.imm nl fu true (s.1.map encU)], .box [.lit (.int .i64 0), nilS], .box [.lit (.bool s.2)], .box [.lit (.int .i64 first), resV 6 (out.map encRun)]] ++ resH [.dead, .dead] (out.map encRun)
/-- What the numbers' walk makes of numbers. -/
def insA (l : List Nat) : Nat × (List Nat × Bool) := nextB 1073741824 (l, true)
def insC (l : List Nat) : Nat × (List Nat × Bool) := nextB 4096 (insA l).2
def insR (l : List Nat) : (List Nat × Bool) × List Run := inLp (insC l).1 (insC l).2 4294967295 []
def insOk (l : List Nat) : Bool := (insR l).1.2 && decide ((insR l).1.1 = []) && decide (chkB (insA l).1 (insR l).2 = 0)
def resHl (lk : Bool) (rows : List (List AVal)) : Heap := if rows = [] then [] else [.arr true lk false 3 rows]
def insL (l : List Nat) : Bool := (insR l).1.2 && decide ((insR l).1.1 = [])
end Go.AM.R1
open Go Go.AM
namespace Go.AM.R1

def ofLp : List Nat → Int → List Run → Bool × List Run
  | n :: d :: r, last, out => if 1073741824 < n ∨ 4294967295 < d then (false, out) else ofLp r (ixor .u32 last (d : Nat)) (out ++ [⟨(n : Nat), if ixor .u32 last (d : Nat) = 4294967295 then 1 else 0, ixor .u32 last (d : Nat)⟩])
  | _, _, out => (true, out)
def ofH (first : Int) (out : List Run) : Heap := [.box [.lit (.int .i64 0), nilS], .box [.lit (.int .i64 first), resV 4 (out.map encRun)]] ++ resH [.dead, .dead] (out.map encRun)
def ofR : List Nat → Int × List Run
  | a :: c :: r => if (a :: c :: r).length % 2 ≠ 0 ∨ 1073741824 < a then (-1, []) else if (ofLp r 4294967295 []).1 = true then (((a : Nat) : Int), (ofLp r 4294967295 []).2) else (-1, (ofLp r 4294967295 []).2)
  | _ => (-1, [])
end Go.AM.R1
open Go Go.AM
namespace Go.AM.R1

/-! ### Which numbers are a block's -/
theorem ixor_nat {x y : Int} (hx : 0 ≤ x ∧ x ≤ 4294967295) (hy : 0 ≤ y ∧ y ≤ 4294967295) : ixor .u32 x y = ((BitVec.ofNat 32 x.toNat ^^^ BitVec.ofNat 32 y.toNat).toNat : Int) := by
  rw [← ixor_bv]
  congr 1
  · rw [BitVec.toNat_ofNat, Nat.mod_eq_of_lt (by omega)]; omega
  · rw [BitVec.toNat_ofNat, Nat.mod_eq_of_lt (by omega)]; omega
theorem ixor_comm {x y : Int} (hx : 0 ≤ x ∧ x ≤ 4294967295) (hy : 0 ≤ y ∧ y ≤ 4294967295) : ixor .u32 x y = ixor .u32 y x := by
  rw [ixor_nat hx hy, ixor_nat hy hx, BitVec.xor_comm]
theorem ixor_cancel {x y : Int} (hx : 0 ≤ x ∧ x ≤ 4294967295) (hy : 0 ≤ y ∧ y ≤ 4294967295) : ixor .u32 (ixor .u32 x y) y = x := by
  rw [ixor_nat (ixor_range x y) hy, ixor_nat hx hy]
  have e : (((BitVec.ofNat 32 x.toNat ^^^ BitVec.ofNat 32 y.toNat).toNat : Int)).toNat = (BitVec.ofNat 32 x.toNat ^^^ BitVec.ofNat 32 y.toNat).toNat := by omega
  rw [e, BitVec.ofNat_toNat, BitVec.setWidth_eq, BitVec.xor_assoc, BitVec.xor_self, BitVec.xor_zero, BitVec.toNat_ofNat, Nat.mod_eq_of_lt (by omega)]
  omega
def busOf (d : Int) : Int := if d = 4294967295 then 1 else 0
theorem inLp_true : ∀ (n : Nat) (s : List Nat × Bool) (last : Int) (out : List Run), (0 ≤ last ∧ last ≤ 4294967295) → (inLp n s last out).1.2 = true →
    s.2 = true ∧ ∃ R, (inLp n s last out).2 = out ++ R ∧ R.length = n ∧ s.1 = runN last R ++ (inLp n s last out).1.1 ∧ ∀ r ∈ R, 0 ≤ r.Drive ∧ r.Drive ≤ 4294967295
  | 0, s, last, out, _, h => ⟨h, [], by simp [inLp], rfl, by simp [inLp, runN], by simp⟩
  | n + 1, s, last, out, hl, h => by
    rw [inLp] at h ⊢
    obtain ⟨L, q⟩ := s
    obtain ⟨h1, R, e1, e2, e3, e4⟩ := inLp_true n _ _ _ (ixor_range _ _) h
    cases L with
    | nil => simp [nextB] at h1
    | cons x L =>
      by_cases c1 : 1073741824 < x
      · exfalso
        simp only [nextB, if_pos c1] at h1
        split at h1 <;> simp at h1
      · simp only [nextB, if_neg c1] at h1 e1 e2 e3 ⊢
        cases L with
        | nil => simp [nextB] at h1
        | cons y L =>
          by_cases c2 : 4294967295 < y
          · simp [nextB, c2] at h1
          · simp only [nextB, if_neg c2] at h1 e1 e2 e3 ⊢
            refine ⟨h1, ⟨(x : Nat), if ixor .u32 (y : Nat) last = 4294967295 then 1 else 0, ixor .u32 (y : Nat) last⟩ :: R, by rw [e1]; simp, by simp [e2], ?_, ?_⟩
            · simp only [runN, List.cons_append]
              rw [ixor_cancel ⟨by omega, by omega⟩ hl]
              simp only [Int.toNat_natCast]
              rw [← e3]
            · intro r hr
              rcases List.mem_cons.1 hr with rfl | hr
              · exact ixor_range _ _
              · exact e4 r hr
theorem ins_good {l : List Nat} (h : insOk l = true) : chkB (insA l).1 (insR l).2 = 0 ∧ numsN (insA l).1 (insR l).2 = l ∧ (∀ r ∈ (insR l).2, 0 ≤ r.Drive ∧ r.Drive ≤ 4294967295) := by
  simp only [insOk, Bool.and_eq_true, decide_eq_true_eq] at h
  obtain ⟨⟨h1, h2⟩, h3⟩ := h
  obtain ⟨g1, R, e1, e2, e3, e4⟩ := inLp_true (insC l).1 (insC l).2 4294967295 [] (by omega) h1
  rw [show inLp (insC l).1 (insC l).2 4294967295 [] = insR l from rfl] at e1 e3
  rw [List.nil_append] at e1
  rw [h2, List.append_nil] at e3
  refine ⟨h3, ?_, fun r hr => e4 r (by rw [e1] at hr; exact hr)⟩
  rw [e1, numsN, e2]
  unfold insC insA at e3 g1 ⊢
  cases l with
  | nil => simp [nextB] at g1
  | cons x l =>
    by_cases c1 : 1073741824 < x
    · exfalso
      simp only [nextB, if_pos c1] at g1
      split at g1 <;> simp at g1
    · simp only [nextB, if_neg c1] at e3 g1 ⊢
      cases l with
      | nil => simp [nextB] at g1
      | cons y l =>
        by_cases c2 : 4096 < y
        · simp [nextB, c2] at g1
        · simp only [nextB, if_neg c2] at e3 g1 ⊢
          rw [← e3]; rfl
theorem inLp_nums : ∀ (R : List Run) (last : Int) (out : List Run), (0 ≤ last ∧ last ≤ 4294967295) → (∀ r ∈ R, right r = true ∧ 0 ≤ r.Drive ∧ r.Drive ≤ 4294967295) → inLp R.length (runN last R, true) last out = (([], true), out ++ R)
  | [], last, out, _, _ => by simp [inLp, runN]
  | r :: R, last, out, hl, h => by
    obtain ⟨hr, hd⟩ := h r (by simp)
    have hN := right_N hr
    have hx := ixor_range r.Drive last
    rw [List.length_cons, inLp, runN]
    have c1 : ¬ 1073741824 < r.N.toNat := by omega
    have c2 : ¬ 4294967295 < (ixor .u32 r.Drive last).toNat := by omega
    have e4 : (((ixor .u32 r.Drive last).toNat : Nat) : Int) = ixor .u32 r.Drive last := by omega
    have e5 : ((r.N.toNat : Nat) : Int) = r.N := by omega
    simp only [nextB, if_neg c1, if_neg c2, e4, e5, ixor_cancel hd hl]
    have hb : (if r.Drive = 4294967295 then (1 : Int) else 0) = r.Bus := by
      simp only [right, Bool.and_eq_true, decide_eq_true_eq] at hr
      exact hr.2.symm
    rw [hb, inLp_nums R r.Drive _ hd fun x hx => h x (by simp [hx])]
    simp
theorem chk_all {l : List Run} (h : chk l = 0) : ∀ r ∈ l, right r = true := fun r hr => by
  unfold chk at h
  cases ha : l.all right with
  | false => rw [ha] at h; simp at h
  | true => exact List.all_eq_true.1 ha r hr
theorem ins_nums {f : Int} {R : List Run} (hc : chkB f R = 0) (hd : ∀ r ∈ R, 0 ≤ r.Drive ∧ r.Drive ≤ 4294967295) :
    ((insA (numsN f R)).1 : Int) = f ∧ (insR (numsN f R)).2 = R ∧ insOk (numsN f R) = true ∧ insL (numsN f R) = true := by
  obtain ⟨h1, h2, h3, h4, h5, h6⟩ := chkB_ok hc
  have hall := chk_all h4
  have c1 : ¬ 1073741824 < f.toNat := by omega
  have c2 : ¬ 4096 < R.length := by omega
  have eA : insA (numsN f R) = (f.toNat, (R.length :: runN 4294967295 R, true)) := by unfold insA numsN; rw [nextB, if_neg c1]
  have eC : insC (numsN f R) = (R.length, (runN 4294967295 R, true)) := by unfold insC; rw [eA, nextB, if_neg c2]
  have eR : insR (numsN f R) = (([], true), R) := by
    unfold insR; rw [eC]
    have := inLp_nums R 4294967295 [] (by omega) fun r hr => ⟨hall r hr, hd r hr⟩
    simpa using this
  have ef : ((f.toNat : Nat) : Int) = f := by omega
  refine ⟨by rw [eA]; exact ef, by rw [eR], ?_, ?_⟩
  · unfold insOk
    rw [eR, eA]
    simp [ef, hc]
  · unfold insL
    rw [eR]; rfl
theorem ofLp_nums : ∀ (R : List Run) (last : Int) (out : List Run), (0 ≤ last ∧ last ≤ 4294967295) → (∀ r ∈ R, right r = true ∧ 0 ≤ r.Drive ∧ r.Drive ≤ 4294967295) → ofLp (runN last R) last out = (true, out ++ R)
  | [], last, out, _, _ => by simp [ofLp, runN]
  | r :: R, last, out, hl, h => by
    obtain ⟨hr, hd⟩ := h r (by simp)
    have hN := right_N hr
    have hx := ixor_range r.Drive last
    rw [runN, ofLp, if_neg (by omega)]
    have e4 : (((ixor .u32 r.Drive last).toNat : Nat) : Int) = ixor .u32 r.Drive last := by omega
    have e5 : ((r.N.toNat : Nat) : Int) = r.N := by omega
    rw [e4, e5, ixor_comm hl hx, ixor_cancel hd hl]
    have hb : (if r.Drive = 4294967295 then (1 : Int) else 0) = r.Bus := by
      simp only [right, Bool.and_eq_true, decide_eq_true_eq] at hr
      exact hr.2.symm
    rw [hb, ofLp_nums R r.Drive _ hd fun x hx => h x (by simp [hx])]
    simp
theorem of_nums {f : Int} {R : List Run} (hc : chkB f R = 0) (hd : ∀ r ∈ R, 0 ≤ r.Drive ∧ r.Drive ≤ 4294967295) : ofR (numsN f R) = (f, R) := by
  obtain ⟨h1, h2, h3, h4, h5, h6⟩ := chkB_ok hc
  have hall := chk_all h4
  have hl := runN_length R 4294967295
  unfold numsN
  rw [ofR, if_neg (by simp [hl]; omega), ofLp_nums R 4294967295 [] (by omega) fun r hr => ⟨hall r hr, hd r hr⟩, if_pos rfl]
  simp; omega
theorem ofLp_drive : ∀ (d : Nat) (l : List Nat) (last : Int) (out : List Run), l.length ≤ d → (∀ r ∈ out, (0 ≤ r.Drive ∧ r.Drive ≤ 4294967295) ∧ 0 ≤ r.N ∧ r.N ≤ 1073741824) → ∀ r ∈ (ofLp l last out).2, (0 ≤ r.Drive ∧ r.Drive ≤ 4294967295) ∧ 0 ≤ r.N ∧ r.N ≤ 1073741824
  | _, [], _, _, _, h => h
  | _, [_], _, _, _, h => h
  | 0, _ :: _ :: _, _, _, hl, _ => by simp at hl
  | d + 1, n :: y :: l, last, out, hl, h => by
    rw [ofLp]
    split
    · exact h
    · refine ofLp_drive d l _ _ (by simp at hl; omega) fun r hr => ?_
      rcases List.mem_append.1 hr with hr | hr
      · exact h r hr
      · simp at hr; subst hr; exact ⟨ixor_range _ _, by simp, by simp; omega⟩
theorem of_drive (l : List Nat) : ∀ r ∈ (ofR l).2, (0 ≤ r.Drive ∧ r.Drive ≤ 4294967295) ∧ 0 ≤ r.N ∧ r.N ≤ 1073741824 := by
  match l with
  | [] => simp [ofR]
  | [_] => simp [ofR]
  | a :: c :: r =>
    rw [ofR]
    split
    · simp
    · split
      · exact ofLp_drive r.length r _ _ (by omega) (by simp)
      · exact ofLp_drive r.length r _ _ (by omega) (by simp)
theorem ofLp_length : ∀ (d : Nat) (l : List Nat) (last : Int) (out : List Run), l.length ≤ d → (ofLp l last out).2.length ≤ out.length + l.length
  | _, [], _, _, _ => by simp [ofLp]
  | _, [_], _, _, _ => by simp [ofLp]
  | 0, _ :: _ :: _, _, _, hl => by simp at hl
  | d + 1, n :: y :: l, last, out, hl => by
    rw [ofLp]
    split
    · simp
    · have := ofLp_length d l (ixor .u32 last (y : Nat)) (out ++ [⟨(n : Nat), if ixor .u32 last (y : Nat) = 4294967295 then 1 else 0, ixor .u32 last (y : Nat)⟩]) (by simp at hl; omega)
      simp at this ⊢; omega
theorem of_length (l : List Nat) : (ofR l).2.length ≤ l.length := by
  match l with
  | [] => simp [ofR]
  | [_] => simp [ofR]
  | a :: c :: r =>
    rw [ofR]
    have := ofLp_length r.length r 4294967295 [] (by omega)
    split
    · simp
    · split <;> simp at this ⊢ <;> omega
/-- The two ways to a block agree. -/
theorem of_ins (l : List Nat) : (chkB (ofR l).1 (ofR l).2 = 0 ∧ numsN (ofR l).1 (ofR l).2 = l) ↔ insOk l = true := by
  constructor
  · rintro ⟨h1, h2⟩
    have := ins_nums h1 fun r hr => (of_drive l r hr).1
    rw [h2] at this
    exact this.2.2.1
  · intro h
    obtain ⟨h1, h2, h3⟩ := ins_good h
    have := of_nums h1 h3
    rw [h2] at this
    rw [this]
    exact ⟨h1, h2⟩
theorem of_ins_eq {l : List Nat} (h : insOk l = true) : ofR l = (((insA l).1 : Int), (insR l).2) := by
  obtain ⟨h1, h2, h3⟩ := ins_good h
  have := of_nums h1 h3
  rwa [h2] at this
theorem ins_locked {l : List Nat} (h : insOk l = true) : insL l = true := by
  obtain ⟨h1, h2, h3⟩ := ins_good h
  have := (ins_nums h1 h3).2.2.2
  rwa [h2] at this
end Go.AM.R1
open Go Go.AM
namespace Go.AM.R1

/-! ### Get -/
theorem size_ok {b : List Nat} (hb : ∀ c ∈ b, c < 256) (h : (sizeB b).2 = 0) :
    (getN b).2.2 = 0 ∧ (getN b).1 ≤ 65536 ∧ sizeB b = ((((getN b).2.1 + (getN b).1 + 4 : Nat) : Int), 0) ∧ 1 ≤ (getN b).2.1 ∧ (getN b).2.1 ≤ 10 := by
  unfold sizeB at h ⊢
  split at h
  · rename_i h1; simp at h; exact absurd h h1
  · rename_i h1
    have h1' : (getN b).2.2 = 0 := by simpa using h1
    split at h
    · simp at h
    · rename_i h2
      have hk := get_k_le hb h1'
      exact ⟨h1', by omega, by rw [if_neg h1, if_neg h2], hk.1, hk.2.1⟩
/-- What the whole of a block, without its sum, begins with. -/
theorem get_whole {b : List Nat} (hb : ∀ c ∈ b, c < 256) (h : (getN b).2.2 = 0) (m : Nat) (hm : (getN b).2.1 ≤ m) : getN (b.take m) = ((getN b).1, (getN b).2.1, 0) := by
  obtain ⟨e1, e2, e3⟩ := get_ok hb h
  have : b.take m = putN (getN b).1 ++ (b.drop (getN b).2.1).take (m - (getN b).2.1) := by
    conv => lhs; rw [e1]
    rw [List.take_append, List.take_of_length_le (by omega), ← e2]
  rw [this, get_put e3, ← e2]
def getB (b : List Nat) : (Int × List Run) × Int × Int :=
  if (sizeB b).2 ≠ 0 then ((0, []), 0, (sizeB b).2)
  else if (b.length : Int) < (sizeB b).1 then ((0, []), 0, 13)
  else if openE (b.take (sizeB b).1.toNat) ≠ 0 then ((0, []), 0, openE (b.take (sizeB b).1.toNat))
  else if (allN ((b.take ((sizeB b).1.toNat - 4)).drop (getN b).2.1)).2.2 = 0 ∧ insOk (allN ((b.take ((sizeB b).1.toNat - 4)).drop (getN b).2.1)).1 = true then
    (((insA (allN ((b.take ((sizeB b).1.toNat - 4)).drop (getN b).2.1)).1).1, (insR (allN ((b.take ((sizeB b).1.toNat - 4)).drop (getN b).2.1)).1).2), (sizeB b).1, 0)
  else ((0, []), 0, 11)
end Go.AM.R1
open Go Go.AM
namespace Go.AM.R1

theorem sealB_inj {x y : List Nat} (h : sealB x = sealB y) : x = y := by
  have hl := congrArg List.length h
  rw [sealB_length, sealB_length] at hl
  exact (List.append_inj h (by omega)).1
theorem wholeB_inj {l m : List Nat} (hl : ∀ n ∈ l, n < 18446744073709551616) (hm : ∀ n ∈ m, n < 18446744073709551616) (hll : (bytesN l).length < 18446744073709551616) (hml : (bytesN m).length < 18446744073709551616) (h : wholeB l = wholeB m) : l = m := by
  have h1 := sealB_inj h
  have g1 := get_put hll (bytesN l)
  have g2 := get_put hml (bytesN m)
  rw [h1, g2] at g1
  simp only [Prod.mk.injEq] at g1
  rw [g1.1] at h1
  exact bytesN_inj hl hm (List.append_cancel_left h1)
/-- Bytes that open are those of their numbers. -/
theorem whole_take {b : List Nat} (hb : ∀ c ∈ b, c < 256) (h1 : (getN b).2.2 = 0) {n : Nat} (hn : (getN b).2.1 + (getN b).1 + 4 = n) (hle : n ≤ b.length) (h3 : openE (b.take n) = 0)
    (ha : (allN ((b.take (n - 4)).drop (getN b).2.1)).2.2 = 0) : b.take n = wholeB (allN ((b.take (n - 4)).drop (getN b).2.1)).1 ∧ (∀ m ∈ (allN ((b.take (n - 4)).drop (getN b).2.1)).1, m < 18446744073709551616) ∧
      (bytesN (allN ((b.take (n - 4)).drop (getN b).2.1)).1).length = (getN b).1 := by
  have htl : (b.take n).length = n := by simp; omega
  have htt : (b.take n).take (n - 4) = b.take (n - 4) := by rw [List.take_take, Nat.min_eq_left (by omega)]
  have hk := get_k_le hb h1
  have hs := (seal_take (b.take n) (by omega)).1 h3
  rw [htl, htt] at hs
  have hw := get_whole hb h1 (n - 4) (by omega)
  have hwb : ∀ c ∈ b.take (n - 4), c < 256 := fun c hc => hb c (List.mem_of_mem_take hc)
  obtain ⟨e1, e2, e3⟩ := get_ok hwb (by rw [hw])
  rw [hw] at e1 e2 e3
  simp only [] at e1 e2 e3
  have hwl : (b.take (n - 4)).length = n - 4 := by simp; omega
  generalize hwg : b.take (n - 4) = w at *
  obtain ⟨l', f1, f2, f3, f4⟩ := all_ok (w.drop (getN b).2.1).length (w.drop (getN b).2.1) 0 [] (allN (w.drop (getN b).2.1)).1 (allN (w.drop (getN b).2.1)).2.1 (fun c hc => hwb c (List.mem_of_mem_drop hc)) (by omega) (by
    show allN (w.drop (getN b).2.1) = _
    rw [← ha])
  rw [List.nil_append] at f1
  rw [List.drop_zero] at f2
  rw [f1]
  have hbl : (bytesN l').length = (getN b).1 := by rw [← f2, List.length_drop]; omega
  refine ⟨?_, f3, hbl⟩
  rw [← hs, wholeB, hbl, ← f2, ← e1]
theorem nums_lt64 {f : Int} {R : List Run} (hc : chkB f R = 0) : ∀ n ∈ numsN f R, n < 18446744073709551616 := fun n hn => by
  obtain ⟨h1, h2, h3, h4, h5, h6⟩ := chkB_ok hc
  have := nums_lt h1 h3 (chk_right h4).1 n hn
  omega
theorem nums_bytes {f : Int} {R : List Run} (hc : chkB f R = 0) : (bytesN (numsN f R)).length ≤ 82000 := by
  obtain ⟨h1, h2, h3, h4, h5, h6⟩ := chkB_ok hc
  exact inside_len h1 h3 (chk_right h4).1
theorem wholeB_byte (l : List Nat) (hl : ∀ n ∈ l, n < 18446744073709551616) (hll : (bytesN l).length < 18446744073709551616) : ∀ c ∈ wholeB l, c < 256 := by
  intro c hc
  simp only [wholeB, sealB, List.mem_append] at hc
  rcases hc with (hc | hc) | hc
  · exact putN_byte 9 _ (by omega) c hc
  · exact bytes_byte l hl c hc
  · exact tail_byte _ c hc
theorem allN_length : ∀ (d : Nat) (b : List Nat) (p : Nat) (acc : List Nat), (∀ c ∈ b, c < 256) → acc.length ≤ p → p ≤ b.length → (allGo d b p acc).1.length ≤ b.length
  | 0, b, p, acc, _, h, hp => by simp [allGo]; omega
  | d + 1, b, p, acc, hb, h, hp => by
    rw [allGo]
    split
    · simp; omega
    · split
      · rename_i h1 h2
        have hk := get_k_le (fun c hc => hb c (List.mem_of_mem_drop hc)) h2
        simp at hk
        exact allN_length d b _ _ hb (by simp; omega) (by omega)
      · simp
end Go.AM.R1
open Go Go.AM
namespace Go.AM.R1

/-! ### A block that is put is got, and what is got was put -/
theorem bytes_len5 (l : List Nat) (h : ∀ n ∈ l, n < 4294967296) : (bytesN l).length ≤ 5 * l.length := by
  induction l with
  | nil => simp [bytesN]
  | cons n l ih =>
    have h1 := putN_length 4 n (by have := h n (by simp); omega)
    have h2 := ih fun m hm => h m (by simp [hm])
    simp only [bytesN, List.flatMap_cons, List.length_append, List.length_cons] at h2 ⊢
    omega
theorem inside_65536 {f : Int} {R : List Run} (hc : chkB f R = 0) : (bytesN (numsN f R)).length ≤ 41000 := by
  obtain ⟨h1, h2, h3, h4, h5, h6⟩ := chkB_ok hc
  have := bytes_len5 (numsN f R) (nums_lt h1 h3 (chk_right h4).1)
  have e : (numsN f R).length = 2 * R.length + 2 := by simp only [numsN, List.length_cons, runN_length]
  omega
theorem whole_len (l : List Nat) : (wholeB l).length = (putN (bytesN l).length).length + (bytesN l).length + 4 := whole_length l
theorem size_put {l : List Nat} (hl : (bytesN l).length ≤ 65536) (r : List Nat) : getN (wholeB l ++ r) = ((bytesN l).length, (putN (bytesN l).length).length, 0) ∧ sizeB (wholeB l ++ r) = (((wholeB l).length : Int), 0) := by
  have e : wholeB l ++ r = putN (bytesN l).length ++ (bytesN l ++ (tailN (crc (putN (bytesN l).length ++ bytesN l)).toNat ++ r)) := by
    simp [wholeB, sealB]
  have hg : getN (wholeB l ++ r) = ((bytesN l).length, (putN (bytesN l).length).length, 0) := by rw [e]; exact get_put (by omega) _
  refine ⟨hg, ?_⟩
  unfold sizeB
  rw [hg, if_neg (by simp), if_neg (by simp; omega), whole_len]
theorem get_of_put {f : Int} {R : List Run} (hc : chkB f R = 0) (hd : ∀ r ∈ R, 0 ≤ r.Drive ∧ r.Drive ≤ 4294967295) (r : List Nat) :
    getB (wholeB (numsN f R) ++ r) = ((f, R), ((wholeB (numsN f R)).length : Int), 0) := by
  have hlen := inside_65536 hc
  obtain ⟨hg, hs⟩ := size_put (l := numsN f R) (by omega) r
  have hn64 := nums_lt64 hc
  have hwl := whole_len (numsN f R)
  have hW4 : (wholeB (numsN f R)).take ((wholeB (numsN f R)).length - 4) = putN (bytesN (numsN f R)).length ++ bytesN (numsN f R) := by
    rw [whole_len]
    unfold wholeB sealB
    rw [List.take_append_of_le_length (by simp <;> omega), List.take_of_length_le (by simp)]
  have hT : (wholeB (numsN f R) ++ r).take (wholeB (numsN f R)).length = wholeB (numsN f R) := by rw [List.take_append_of_le_length (by omega), List.take_length]
  have hO : openE (wholeB (numsN f R)) = 0 := by
    rw [seal_take _ (by omega), hW4]; rfl
  have hT4 : (wholeB (numsN f R) ++ r).take ((wholeB (numsN f R)).length - 4) = putN (bytesN (numsN f R)).length ++ bytesN (numsN f R) := by
    rw [List.take_append_of_le_length (by omega), hW4]
  have hA : allN (bytesN (numsN f R)) = (numsN f R, 0, 0) := by
    have := all_bytes (numsN f R) (bytesN (numsN f R)).length (bytesN (numsN f R)) 0 [] rfl hn64 (by omega)
    simpa [allN] using this
  obtain ⟨i1, i2, i3, i4⟩ := ins_nums hc hd
  unfold getB
  rw [hs, if_neg (by simp), if_neg (by simp; omega)]
  simp only [Int.toNat_natCast]
  rw [hT, if_neg (by simp [hO]), hT4, hg]
  simp only []
  rw [List.drop_left, hA]
  simp only []
  rw [if_pos ⟨trivial, i3⟩, i1, i2]
/-- What is got. -/
theorem put_of_get {b : List Nat} (hb : ∀ c ∈ b, c < 256) (h : (getB b).2.2 = 0) :
    ∃ (f : Int) (R : List Run) (n : Nat), getB b = ((f, R), (n : Int), 0) ∧ chkB f R = 0 ∧ (∀ r ∈ R, 0 ≤ r.Drive ∧ r.Drive ≤ 4294967295) ∧ b.take n = wholeB (numsN f R) ∧ 1 ≤ n ∧ n ≤ b.length := by
  unfold getB at h
  split at h
  · rename_i h1; simp at h; exact absurd h h1
  · rename_i h1
    have h1' : (sizeB b).2 = 0 := by simpa using h1
    obtain ⟨g1, g2, g3, g4, g5⟩ := size_ok hb h1'
    split at h
    · simp at h
    · rename_i h2
      split at h
      · rename_i h3; simp at h; exact absurd h h3
      · rename_i h3
        split at h
        · rename_i h4
          rw [g3] at h2 h3 h4
          simp only [Int.toNat_natCast] at h2 h3 h4
          have hle : (getN b).2.1 + (getN b).1 + 4 ≤ b.length := by omega
          have h3' : openE (b.take ((getN b).2.1 + (getN b).1 + 4)) = 0 := by simpa using h3
          obtain ⟨w1, w2, w3⟩ := whole_take hb g1 rfl hle h3' h4.1
          obtain ⟨i1, i2, i3⟩ := ins_good h4.2
          refine ⟨_, _, (getN b).2.1 + (getN b).1 + 4, ?_, i1, i3, ?_, by omega, hle⟩
          · unfold getB
            rw [g3, if_neg (by simp)]
            simp only [Int.toNat_natCast]
            rw [if_neg h2, if_neg h3, if_pos h4]
          · rw [w1, i2]
        · simp at h
theorem get_bad {b : List Nat} (h : (getB b).2.2 ≠ 0) : (getB b).1 = (0, []) ∧ (getB b).2.1 = 0 := by
  unfold getB at h ⊢
  split
  · exact ⟨rfl, rfl⟩
  · rename_i h1
    rw [if_neg h1] at h
    split
    · exact ⟨rfl, rfl⟩
    · rename_i h2
      rw [if_neg h2] at h
      split
      · exact ⟨rfl, rfl⟩
      · rename_i h3
        rw [if_neg h3] at h
        split
        · rename_i h4
          rw [if_pos h4] at h; simp at h
        · exact ⟨rfl, rfl⟩
theorem chkB_Ok {f : Int} {R : List Run} (hc : chkB f R = 0) : ∀ r ∈ R, r.Ok := fun r hr => by
  have := (chk_right (chkB_ok hc).2.2.2.1).1 r hr
  exact ⟨by omega, by omega⟩
end Go.AM.R1
open Go Go.AM
namespace Go.AM.R1

/-! ### What the sum sees -/
theorem xor_mod2 (x y : BitVec 32) : (x ^^^ y).toNat % 2 = (x.toNat % 2 + y.toNat % 2) % 2 := by
  rw [BitVec.toNat_xor]
  have h := Nat.xor_mod_two_pow (a := x.toNat) (b := y.toNat) (n := 1)
  simp only [Nat.pow_one] at h
  rw [h]
  rcases Nat.mod_two_eq_zero_or_one x.toNat with h1 | h1 <;> rcases Nat.mod_two_eq_zero_or_one y.toNat with h2 | h2 <;> rw [h1, h2] <;> rfl
theorem step_xor (x y : BitVec 32) : stepB (x ^^^ y) = stepB x ^^^ stepB y := by
  have h := xor_mod2 x y
  have hs : (x ^^^ y) >>> 1 = (x >>> 1) ^^^ (y >>> 1) := by
    apply BitVec.eq_of_getLsbD_eq
    intro i hi
    simp
  unfold stepB
  rw [hs]
  rcases Nat.mod_two_eq_zero_or_one x.toNat with h1 | h1 <;> rcases Nat.mod_two_eq_zero_or_one y.toNat with h2 | h2 <;> rw [h1, h2] at h
  · rw [if_neg (by omega), if_neg (by omega), if_neg (by omega)]; simp
  · rw [if_pos (by omega), if_neg (by omega), if_pos (by omega)]; simp [BitVec.xor_assoc]
  · rw [if_pos (by omega), if_pos (by omega), if_neg (by omega)]
    simp only [BitVec.xor_zero]
    rw [BitVec.xor_assoc, BitVec.xor_comm (y >>> 1), ← BitVec.xor_assoc]
  · rw [if_neg (by omega), if_pos (by omega), if_pos (by omega)]
    simp only [BitVec.xor_zero]
    rw [BitVec.xor_assoc, BitVec.xor_comm 3988292384#32 (_ ^^^ _), BitVec.xor_assoc, BitVec.xor_self, BitVec.xor_zero]
theorem step_zero {x : BitVec 32} (h : stepB x = 0#32) : x = 0#32 := by
  unfold stepB at h
  rcases Nat.mod_two_eq_zero_or_one x.toNat with h1 | h1
  · rw [if_neg (by omega), BitVec.xor_zero] at h
    have h2 := congrArg BitVec.toNat h
    rw [BitVec.toNat_ushiftRight, Nat.shiftRight_eq_div_pow] at h2
    apply BitVec.eq_of_toNat_eq
    simp at h2 ⊢
    omega
  · rw [if_pos h1] at h
    exfalso
    have h2 : x >>> 1 = 3988292384#32 := by
      have := congrArg (· ^^^ 3988292384#32) h
      simpa [BitVec.xor_assoc] using this
    have h3 := congrArg BitVec.toNat h2
    rw [BitVec.toNat_ushiftRight, Nat.shiftRight_eq_div_pow] at h3
    have := x.isLt
    simp at h3
    omega
theorem step_inj {x y : BitVec 32} (h : stepB x = stepB y) : x = y := by
  have h2 : stepB (x ^^^ y) = 0#32 := by rw [step_xor, h, BitVec.xor_self]
  have h3 := step_zero h2
  have := congrArg (· ^^^ y) h3
  simpa [BitVec.xor_assoc] using this
theorem steps_inj : ∀ (n : Nat) {x y : BitVec 32}, steps n x = steps n y → x = y
  | 0, _, _, h => h
  | n + 1, _, _, h => step_inj (steps_inj n h)
def bitV (b : Bool) : BitVec 32 := if b then 1#32 else 0#32
def crcBits (x : BitVec 32) (l : List Bool) : BitVec 32 := l.foldl (fun x b => stepB (x ^^^ bitV b)) x
def ofBits : List Bool → Nat
  | [] => 0
  | b :: l => b.toNat + 2 * ofBits l
theorem ofBits_lt : ∀ l : List Bool, ofBits l < 2 ^ l.length
  | [] => by simp [ofBits]
  | b :: l => by
    have := ofBits_lt l
    have hb : b.toNat ≤ 1 := Bool.toNat_le b
    rw [ofBits, List.length_cons, Nat.pow_succ]; omega
theorem ofBits_inj : ∀ {l m : List Bool}, l.length = m.length → ofBits l = ofBits m → l = m
  | [], [], _, _ => rfl
  | [], _ :: _, h, _ => by simp at h
  | _ :: _, [], h, _ => by simp at h
  | a :: l, b :: m, h, e => by
    rw [ofBits, ofBits] at e
    have ha : a.toNat ≤ 1 := Bool.toNat_le a
    have hb : b.toNat ≤ 1 := Bool.toNat_le b
    have hab : a.toNat = b.toNat := by omega
    have : a = b := by cases a <;> cases b <;> simp_all
    have h2 : ofBits l = ofBits m := by omega
    rw [this, ofBits_inj (l := l) (m := m) (by simpa using h) h2]
theorem step_shift (y : Nat) (hy : y < 2147483648) : stepB (BitVec.ofNat 32 (2 * y)) = BitVec.ofNat 32 y := by
  unfold stepB
  have h1 : (BitVec.ofNat 32 (2 * y)).toNat = 2 * y := by rw [BitVec.toNat_ofNat, Nat.mod_eq_of_lt (by omega)]
  rw [h1, if_neg (by omega), BitVec.xor_zero]
  apply BitVec.eq_of_toNat_eq
  rw [BitVec.toNat_ushiftRight, h1, Nat.shiftRight_eq_div_pow, BitVec.toNat_ofNat, Nat.mod_eq_of_lt (by omega)]
  omega
theorem ofNat_split (b : Bool) (y : Nat) (hy : y < 2147483648) : BitVec.ofNat 32 (b.toNat + 2 * y) = bitV b ^^^ BitVec.ofNat 32 (2 * y) := by
  cases b with
  | false => simp [bitV]
  | true =>
    apply BitVec.eq_of_getLsbD_eq
    intro i hi
    simp only [bitV, if_true, BitVec.getLsbD_xor, BitVec.getLsbD_ofNat, hi, decide_true, Bool.true_and]
    rw [show Bool.toNat true + 2 * y = 2 * y + 1 from by simp; omega]
    cases i with
    | zero => simp [Nat.testBit_zero]
    | succ i =>
      rw [Nat.testBit_succ, Nat.testBit_succ, Nat.testBit_succ]
      rw [show (2 * y + 1) / 2 = y from by omega, show 2 * y / 2 = y from by omega, show 1 / 2 = 0 from rfl]
      simp
theorem crcBits_steps : ∀ (l : List Bool) (x : BitVec 32), l.length ≤ 32 → crcBits x l = steps l.length (x ^^^ BitVec.ofNat 32 (ofBits l))
  | [], x, _ => by simp [crcBits, steps, ofBits]
  | b :: l, x, h => by
    simp at h
    have hlt := ofBits_lt l
    have hp : 2 ^ l.length ≤ 2 ^ 31 := Nat.pow_le_pow_right (by omega) (by omega)
    rw [show crcBits x (b :: l) = crcBits (stepB (x ^^^ bitV b)) l from rfl, crcBits_steps l _ (by omega), List.length_cons, ofBits, steps]
    congr 1
    rw [ofNat_split b _ (by omega), ← BitVec.xor_assoc, step_xor (x ^^^ bitV b), step_shift _ (by omega)]
theorem crcBits_append (x : BitVec 32) (l m : List Bool) : crcBits x (l ++ m) = crcBits (crcBits x l) m := by simp [crcBits]
theorem crcBits_inj : ∀ (l : List Bool) {x y : BitVec 32}, crcBits x l = crcBits y l → x = y
  | [], _, _, h => h
  | b :: l, x, y, h => by
    have h2 := step_inj (crcBits_inj l (x := stepB (x ^^^ bitV b)) (y := stepB (y ^^^ bitV b)) h)
    have := congrArg (· ^^^ bitV b) h2
    simpa [BitVec.xor_assoc] using this
/-- Up to 32 bits side by side, that are turned, are seen. -/
theorem crc_burst {A B B' C : List Bool} (hl : B.length = B'.length) (h32 : B.length ≤ 32) (hne : B ≠ B') (x : BitVec 32) : crcBits x (A ++ B ++ C) ≠ crcBits x (A ++ B' ++ C) := by
  intro h
  rw [crcBits_append, crcBits_append, crcBits_append, crcBits_append] at h
  have h2 := crcBits_inj C h
  rw [crcBits_steps B _ h32, crcBits_steps B' _ (by omega), hl] at h2
  have h3 := steps_inj _ h2
  have h4 : BitVec.ofNat 32 (ofBits B) = BitVec.ofNat 32 (ofBits B') := by
    have := congrArg (crcBits x A ^^^ ·) h3
    simpa [← BitVec.xor_assoc] using this
  have b1 := ofBits_lt B
  have b2 := ofBits_lt B'
  have hp : 2 ^ B.length ≤ 2 ^ 32 := Nat.pow_le_pow_right (by omega) h32
  have hp' : 2 ^ B'.length ≤ 2 ^ 32 := Nat.pow_le_pow_right (by omega) (by omega)
  have h5 := congrArg BitVec.toNat h4
  rw [BitVec.toNat_ofNat, BitVec.toNat_ofNat, Nat.mod_eq_of_lt (by omega), Nat.mod_eq_of_lt (by omega)] at h5
  exact hne (ofBits_inj hl h5)
/-- The bits of bytes, the lowest first. -/
def bits8 (c : Nat) : List Bool := (List.range 8).map c.testBit
def bitsL (l : List Nat) : List Bool := l.flatMap bits8
theorem ofBits_range : ∀ (n c : Nat), ofBits ((List.range n).map c.testBit) = c % 2 ^ n
  | 0, c => by simp [ofBits, Nat.mod_one]
  | n + 1, c => by
    rw [List.range_succ_eq_map, List.map_cons, List.map_map, ofBits]
    have h : (List.range n).map (c.testBit ∘ Nat.succ) = (List.range n).map (c / 2).testBit := by
      apply List.map_congr_left
      intro i _
      simp [Nat.testBit_succ]
    rw [h, ofBits_range n (c / 2), Nat.pow_succ, Nat.mul_comm (2 ^ n) 2, Nat.mod_mul, Nat.testBit_zero]
    have : (decide (c % 2 = 1)).toNat = c % 2 := by
      rcases Nat.mod_two_eq_zero_or_one c with h | h <;> rw [h] <;> rfl
    rw [this]
theorem on_bits (x : BitVec 32) (c : Nat) (hc : c < 256) : onB x c = crcBits x (bits8 c) := by
  rw [crcBits_steps _ _ (by simp [bits8]), bits8, ofBits_range, Nat.mod_eq_of_lt (by omega)]
  simp [onB]
theorem crcGo_bits : ∀ (l : List Nat) (x : BitVec 32), (∀ c ∈ l, c < 256) → crcGo x l = crcBits x (bitsL l)
  | [], _, _ => rfl
  | c :: l, x, h => by
    rw [show crcGo x (c :: l) = crcGo (onB x c) l from rfl, show bitsL (c :: l) = bits8 c ++ bitsL l from rfl, crcBits_append, on_bits x c (h c (by simp)), crcGo_bits l _ fun d hd => h d (by simp [hd])]

/-! ### Sealed bytes -/
theorem bits_tail (s : Nat) (hs : s < 4294967296) : ofBits (bitsL (tailN s)) = s := by
  have h : bitsL (tailN s) = (List.range 32).map s.testBit := by
    simp only [bitsL, tailN, List.flatMap_cons, List.flatMap_nil, List.append_nil, bits8]
    have e : List.range 32 = List.range 8 ++ ((List.range 8).map (· + 8) ++ ((List.range 8).map (· + 16) ++ (List.range 8).map (· + 24))) := by decide
    rw [e, List.map_append, List.map_append, List.map_append, List.map_map, List.map_map, List.map_map]
    congr 1
    · apply List.map_congr_left
      intro i hi
      simp only [List.mem_range] at hi
      rw [show (256 : Nat) = 2 ^ 8 from rfl, Nat.testBit_mod_two_pow]
      simp [hi]
    · congr 1
      · apply List.map_congr_left
        intro i hi
        simp only [List.mem_range] at hi
        rw [show (256 : Nat) = 2 ^ 8 from rfl, Nat.testBit_mod_two_pow, Nat.testBit_div_two_pow]
        simp [hi, Nat.add_comm]
      · congr 1
        · apply List.map_congr_left
          intro i hi
          simp only [List.mem_range] at hi
          rw [show (65536 : Nat) = 2 ^ 16 from rfl, show (256 : Nat) = 2 ^ 8 from rfl, Nat.testBit_mod_two_pow, Nat.testBit_div_two_pow]
          simp [hi, Nat.add_comm]
        · apply List.map_congr_left
          intro i hi
          simp only [List.mem_range] at hi
          rw [show (16777216 : Nat) = 2 ^ 24 from rfl, show (256 : Nat) = 2 ^ 8 from rfl, Nat.testBit_mod_two_pow, Nat.testBit_div_two_pow]
          simp [hi, Nat.add_comm]
  rw [h, ofBits_range, Nat.mod_eq_of_lt (by omega)]
theorem bitsL_append (l m : List Nat) : bitsL (l ++ m) = bitsL l ++ bitsL m := by simp [bitsL]
/-- What the register has behind bytes and their sum. -/
theorem crc_sealed (l : List Nat) (hl : ∀ c ∈ l, c < 256) : crcBits 4294967295#32 (bitsL (sealB l)) = steps 32 4294967295#32 := by
  rw [sealB, bitsL_append, crcBits_append, ← crcGo_bits l _ hl]
  have hlt := (crc l).isLt
  rw [crcBits_steps _ _ (by simp [bitsL, bits8, tailN]), bits_tail _ hlt, BitVec.ofNat_toNat, BitVec.setWidth_eq]
  rw [show (bitsL (tailN (crc l).toNat)).length = 32 from by simp [bitsL, bits8, tailN]]
  unfold crc
  rw [← BitVec.xor_assoc, BitVec.xor_self, BitVec.zero_xor]
/-- Two rows of bytes, both with right sums, that differ in up to 32 bits side by side, are one. -/
theorem sealed_burst {P w : List Nat} (hP : ∀ c ∈ P, c < 256) (hw : ∀ c ∈ w, c < 256) (hP4 : ¬ P.length < 4) (hw4 : ¬ w.length < 4) (hoP : openE P = 0) (how : openE w = 0)
    {A B B' C : List Bool} (eP : bitsL P = A ++ B ++ C) (ew : bitsL w = A ++ B' ++ C) (hl : B.length = B'.length) (h32 : B.length ≤ 32) : B = B' := by
  apply Classical.byContradiction
  intro hne
  have sP := (seal_take P hP4).1 hoP
  have sw := (seal_take w hw4).1 how
  have cP := crc_sealed (P.take (P.length - 4)) fun c hc => hP c (List.mem_of_mem_take hc)
  have cw := crc_sealed (w.take (w.length - 4)) fun c hc => hw c (List.mem_of_mem_take hc)
  rw [sP, eP] at cP
  rw [sw, ew] at cw
  exact crc_burst hl h32 hne 4294967295#32 (cP.trans cw.symm)
end Go.AM.R1
open Go Go.AM
namespace Go.AM.R1

/-! ### Bits, turned one by one -/
theorem bits8_length (c : Nat) : (bits8 c).length = 8 := by simp [bits8]
theorem bitsL_length : ∀ l : List Nat, (bitsL l).length = 8 * l.length
  | [] => rfl
  | c :: l => by rw [show bitsL (c :: l) = bits8 c ++ bitsL l from rfl, List.length_append, bits8_length, bitsL_length l, List.length_cons]; omega
theorem bits8_flip (c b : Nat) (hb : b < 8) : bits8 (c ^^^ 2 ^ b) = (bits8 c).set b (!c.testBit b) := by
  apply List.ext_getElem?
  intro i
  rw [List.getElem?_set]
  simp only [bits8, List.getElem?_map, List.length_map, List.length_range]
  by_cases h : b = i
  · subst h
    rw [if_pos rfl, if_pos hb, List.getElem?_range hb]
    simp [Nat.testBit_xor, Nat.testBit_two_pow_self]
  · rw [if_neg h]
    by_cases hi : i < 8
    · rw [List.getElem?_range hi]
      simp [Nat.testBit_xor, Nat.testBit_two_pow_of_ne h]
    · rw [List.getElem?_eq_none (by simp; omega)]; rfl
theorem split_at (w : List Nat) (q : Nat) (h : q < w.length) : w = w.take q ++ (w[q] :: w.drop (q + 1)) := by
  rw [← List.drop_eq_getElem_cons h, List.take_append_drop]
theorem bitsL_flip (w : List Nat) (q b : Nat) (h : q < w.length) (hb : b < 8) (v : Bool) (hv : v = !w[q].testBit b) : bitsL (w.set q (w[q] ^^^ 2 ^ b)) = (bitsL w).set (8 * q + b) v := by
  have e1 : w.set q (w[q] ^^^ 2 ^ b) = w.take q ++ ((w[q] ^^^ 2 ^ b) :: w.drop (q + 1)) := by rw [List.set_eq_take_append_cons_drop, if_pos h]
  have e2 : bitsL w = bitsL (w.take q) ++ (bits8 w[q] ++ bitsL (w.drop (q + 1))) := by
    conv => lhs; rw [split_at w q h]
    rw [bitsL_append]; rfl
  have hl : (bitsL (w.take q)).length = 8 * q := by rw [bitsL_length, List.length_take, Nat.min_eq_left (by omega)]
  rw [e1, bitsL_append, e2, List.set_append_right _ _ (by omega), hl, show 8 * q + b - 8 * q = b from by omega, List.set_append_left _ _ (by rw [bits8_length]; exact hb), hv, ← bits8_flip _ _ hb]
  rfl
theorem bitsL_get (w : List Nat) (q b : Nat) (h : q < w.length) (hb : b < 8) : (bitsL w)[8 * q + b]? = some (w[q].testBit b) := by
  have e2 : bitsL w = bitsL (w.take q) ++ (bits8 w[q] ++ bitsL (w.drop (q + 1))) := by
    conv => lhs; rw [split_at w q h]
    rw [bitsL_append]; rfl
  have hl : (bitsL (w.take q)).length = 8 * q := by rw [bitsL_length, List.length_take, Nat.min_eq_left (by omega)]
  rw [e2, List.getElem?_append_right (by omega), hl, show 8 * q + b - 8 * q = b from by omega, List.getElem?_append_left (by rw [bits8_length]; exact hb)]
  simp [bits8, List.getElem?_range hb]
/-- Bytes of which some bits were turned, of those from a place on. -/
structure Inv (P : List Nat) (head fr t i : Nat) (w : List Nat) (turned : Bool) : Prop where
  len : w.length = P.length
  byte : ∀ c ∈ w, c < 256
  front : w.take head = P.take head
  win : ∃ B, bitsL w = (bitsL P).take (8 * head + fr) ++ B ++ (bitsL P).drop (8 * head + fr + t) ∧ B.length = t ∧
    (turned = true → ∃ j, j < i ∧ B[j]? ≠ (((bitsL P).drop (8 * head + fr)).take t)[j]?) ∧ ∀ j, i ≤ j → B[j]? = (((bitsL P).drop (8 * head + fr)).take t)[j]?
  same : turned = false → w = P
theorem inv_start (P : List Nat) (hP : ∀ c ∈ P, c < 256) (head fr t : Nat) (h : 8 * head + fr + t ≤ 8 * P.length) : Inv P head fr t 0 P false := by
  refine ⟨rfl, hP, rfl, ⟨((bitsL P).drop (8 * head + fr)).take t, ?_, ?_, by simp, fun _ _ => rfl⟩, fun _ => rfl⟩
  · generalize 8 * head + fr = g
    rw [List.append_assoc, show (bitsL P).drop (g + t) = ((bitsL P).drop g).drop t from by rw [List.drop_drop], List.take_append_drop, List.take_append_drop]
  · rw [List.length_take, List.length_drop, bitsL_length]; omega
theorem inv_skip {P : List Nat} {head fr t i : Nat} {w : List Nat} {turned : Bool} (h : Inv P head fr t i w turned) : Inv P head fr t (i + 1) w turned := by
  obtain ⟨h1, h2, h3, ⟨B, e1, e2, e3, e4⟩, h5⟩ := h
  exact ⟨h1, h2, h3, ⟨B, e1, e2, fun ht => by obtain ⟨j, hj, hn⟩ := e3 ht; exact ⟨j, by omega, hn⟩, fun j hj => e4 j (by omega)⟩, h5⟩
theorem inv_flip {P : List Nat} {head fr t i : Nat} {w : List Nat} {turned : Bool} (h : Inv P head fr t i w turned) (hi : i < t) (hle : 8 * head + fr + t ≤ 8 * P.length) (hq : head + (fr + i) / 8 < w.length) :
    Inv P head fr t (i + 1) (w.set (head + (fr + i) / 8) (w[head + (fr + i) / 8] ^^^ 2 ^ ((fr + i) % 8))) true := by
  obtain ⟨h1, h2, h3, ⟨B, e1, e2, e3, e4⟩, h5⟩ := h
  have hb : (fr + i) % 8 < 8 := by omega
  have hg : 8 * (head + (fr + i) / 8) + (fr + i) % 8 = 8 * head + fr + i := by omega
  have hsl : ((bitsL P).take (8 * head + fr)).length = 8 * head + fr := by rw [List.length_take, bitsL_length]; omega
  have hget := bitsL_get w _ _ hq hb
  rw [hg, e1, List.append_assoc, List.getElem?_append_right (by omega), hsl, show 8 * head + fr + i - (8 * head + fr) = i from by omega, List.getElem?_append_left (by omega)] at hget
  have hset := bitsL_flip w _ _ hq hb _ rfl
  rw [hg, e1, List.append_assoc, List.set_append_right _ _ (by omega), hsl, show 8 * head + fr + i - (8 * head + fr) = i from by omega, List.set_append_left _ _ (by omega)] at hset
  generalize hv : w[head + (fr + i) / 8].testBit ((fr + i) % 8) = v at hget hset
  refine ⟨by simp [h1], ?_, ?_, ⟨B.set i (!v), ?_, by simp [e2], fun _ => ?_, fun j hj => ?_⟩, by simp⟩
  · intro c hc
    rcases List.mem_or_eq_of_mem_set hc with hc | rfl
    · exact h2 c hc
    · have := h2 _ (List.getElem_mem hq)
      have h8 : 2 ^ ((fr + i) % 8) < 2 ^ 8 := Nat.pow_lt_pow_right (by omega) hb
      exact Nat.xor_lt_two_pow (n := 8) (by omega) (by omega)
  · rw [List.take_set_of_le (by omega), h3]
  · rw [hset, List.append_assoc]
  · by_cases hj : ∃ j, j < i ∧ B[j]? ≠ (((bitsL P).drop (8 * head + fr)).take t)[j]?
    · obtain ⟨j, hj1, hj2⟩ := hj
      refine ⟨j, by omega, ?_⟩
      rw [List.getElem?_set_ne (by omega)]; exact hj2
    · refine ⟨i, by omega, ?_⟩
      rw [← e4 i (by omega), hget, List.getElem?_set_self (by omega)]
      cases v <;> simp
  · rw [List.getElem?_set_ne (by omega)]; exact e4 j (by omega)
end Go.AM.R1
open Go Go.AM
namespace Go.AM.R1
/-! ### An element of an array that is a value -/
section
variable (c : Callee) (ρ : Opd → AVal) (H : Heap)
def idxVG (ag : Bool) (len sz : Nat) (H : Heap) : AVal → AVal → Option (AVal × Heap)
  | .agg cs, .lit (.int _ n) => if 0 ≤ n then (if n.toNat < len then pairK H (get1 ag sz (cs.drop (n.toNat * sz))) else none) else none
  | _, _ => none
theorem aop_idxV (ag len sz x i) : aop c ρ H (.idxV ag len sz x i) = idxVG ag len sz H (ρ x) (ρ i) := by
  simp only [aop]
  generalize ρ i = vi
  generalize ρ x = vx
  cases vi with
  | lit v =>
    cases v with
    | int k n =>
      by_cases h : 0 ≤ n
      · simp only [asNat, h, if_true, Option.bind_some]
        cases vx with
        | agg cs =>
          simp only [idxVG, h, if_true]
          split
          · exact map_pair _ _
          · rfl
        | _ => rfl
      · simp only [asNat, h, if_false, Option.bind_none]
        cases vx <;> simp [idxVG, h]
    | _ => cases vx <;> rfl
  | _ => cases vx <;> rfl
theorem idxVG_agg (ag len sz cs k n) : idxVG ag len sz H (.agg cs) (.lit (.int k n)) = if 0 ≤ n then (if n.toNat < len then pairK H (get1 ag sz (cs.drop (n.toNat * sz))) else none) else none := rfl
end
/-! ### Levels -/
def lv (b : Bool) : Int := if b then 1 else 0
def encLv (b : Bool) : List AVal := [.lit (.int .i64 (lv b))]
theorem lv_nat (b : Bool) : lv b = (b.toNat : Int) := by cases b <;> rfl
theorem rowsLv (m : List Bool) : rowsOk 1 (m.map encLv) = true := by
  simp [rowsOk, encLv]
theorem take_allLv (m : List Bool) : List.take m.length (m.map encLv) = m.map encLv := List.take_of_length_le (by simp)
theorem blevel_spec (b : Bool) : call E (.func (.func 135) [] []) [.lit (.int .i64 (lv b))] [] = some (.lit (.bool true), []) := by
  rw [call_func E E135]
  cases b <;> simp [go_sem, ir135, lv]
theorem chk1_spec (b : Bool) : call E (.func (.func 134) [] []) [.lit (.int .i64 (lv b))] [] = some (.lit (.bool false), []) := by
  rw [call_func E E134]
  simp [go_sem, ir134, blevel_spec]
theorem idx_loop (m : List Bool) (hl : m.length ≤ 1099511627775) (nl fu : Bool) (k : List Item) (R : Option (AVal × Heap)) (hk : ∀ τ, finK 0 [.tmp 4] (run E 0 k τ []) = R) :
    ∀ (d i : Nat), i + d = m.length →
   finK 0 [.tmp 4] (run E 0 (.code L133_0 :: .inLoop [0, 1, 7, 8] L133_0 :: .inBlock 0 :: k) [(0, .imm nl fu true (m.map encLv)), (1, .func (.func 134) [] []), (7, .lit (.int .i64 m.length)), (8, .lit (.int .i64 i))] []) = R := by
  intro d
  induction d with
  | zero =>
    intro i hi
    have : i = m.length := by omega
    subst this
    simp [go_sem, run_codeL E L133_0.eq_1]
    exact hk _
  | succ d ih =>
    intro i hi
    have hlt : i < m.length := by omega
    have w := wrapIdx (i := i) (by omega)
    have ih2 := ih (i + 1) (by omega)
    simp at ih2 w
    simp [go_sem, run_codeL E L133_0.eq_1, hlt, List.getElem?_eq_getElem hlt, encLv, chk1_spec, w, purse_eq]
    rw [run_inLoop']
    simp [go_sem, purse_eq]
    exact ih2
theorem check_lv (m : List Bool) (hl : m.length ≤ 1099511627775) (nl fu : Bool) : call E (.func (.func 97) [] []) [.imm nl fu true (m.map encLv)] [] = some (.lit (.int .i64 (-1)), []) := by
  rw [call_func E E97]
  have h : call E (.func (.func 133) [] []) [.imm nl fu true (m.map encLv), .func (.func 134) [] []] [] = some (.lit (.int .i64 (-1)), []) := by
    rw [call_func E E133]
    have h := fun k hk => idx_loop m hl nl fu k (some (.lit (.int .i64 (-1)), [])) hk m.length 0 (by omega)
    simp at h
    simp [go_sem, ir133, purse_eq]
    rw [run_inLoop']
    simp [go_sem, purse_eq]
    refine h _ ?_
    intro τ
    simp [go_sem]
  simp [go_sem, ir97, h, purse_eq]
/-! ### The number of levels -/
def valGo (n : Nat) : List Bool → Nat
  | [] => n
  | b :: l => valGo (2 * n + b.toNat) l
def valB (l : List Bool) : Nat := valGo 0 l
theorem valGo_lt : ∀ (l : List Bool) (n : Nat), valGo n l < (n + 1) * 2 ^ l.length
  | [], n => by simp [valGo]
  | b :: l, n => by
    have := valGo_lt l (2 * n + b.toNat)
    have hb : b.toNat ≤ 1 := by cases b <;> decide
    rw [valGo, List.length_cons, Nat.pow_succ]
    have : (2 * n + b.toNat + 1) * 2 ^ l.length ≤ (2 * (n + 1)) * 2 ^ l.length := Nat.mul_le_mul_right _ (by omega)
    have e : (2 * (n + 1)) * 2 ^ l.length = (n + 1) * (2 ^ l.length * 2) := by rw [Nat.mul_comm 2 (n + 1), Nat.mul_assoc, Nat.mul_comm 2]
    omega
theorem valB_lt (l : List Bool) : valB l < 2 ^ l.length := by
  have := valGo_lt l 0
  simpa [valB] using this
theorem ior_bit {n : Nat} (b : Bool) (h : 2 * n + 1 < 18446744073709551616) : ior .u64 ((2 * n : Nat) : Int) ((b.toNat : Nat) : Int) = ((2 * n + b.toNat : Nat) : Int) := by
  have hb : b.toNat < 2 ^ 1 := by cases b <;> decide
  have e : (BitVec.ofInt 64 ((2 * n : Nat) : Int) ||| BitVec.ofInt 64 ((b.toNat : Nat) : Int)).toNat = 2 * n + b.toNat := by
    rw [BitVec.toNat_or, BitVec.ofInt_natCast, BitVec.ofInt_natCast, BitVec.toNat_ofNat, BitVec.toNat_ofNat, Nat.mod_eq_of_lt (by omega), Nat.mod_eq_of_lt (by omega)]
    have := Nat.two_pow_add_eq_or_of_lt hb n
    simpa using this.symm
  unfold ior
  show IntKind.wrap .u64 ((BitVec.ofInt 64 ((2 * n : Nat) : Int) ||| BitVec.ofInt 64 ((b.toNat : Nat) : Int)).toNat : Int) = _
  rw [e, wrap_u64 (by omega)]
theorem val_loop (m : List Bool) (hl : m.length ≤ 64) (nl fu : Bool) (k : List Item) (R : Nat → Option (AVal × Heap)) (hk : ∀ (τ : Tmps) (n : Nat), lk 4 τ = .lit (.int .u64 (n : Int)) → finK 0 [.tmp 2, .tmp 3] (run E 0 k τ []) = R n) :
    ∀ (d i : Nat) (n : Nat), i + d = m.length → n < 2 ^ i →
   finK 0 [.tmp 2, .tmp 3] (run E 0 (.code L147_0 :: .inLoop [4, 15, 16, 17] L147_0 :: .inBlock 1 :: k) [(4, .lit (.int .u64 n)), (15, .imm nl fu true (m.map encLv)), (16, .lit (.int .i64 m.length)), (17, .lit (.int .i64 i))] []) = R (valGo n (m.drop i)) := by
  intro d
  induction d with
  | zero =>
    intro i n hi hn
    have : i = m.length := by omega
    subst this
    simp [go_sem, run_codeL E L147_0.eq_1, valGo]
    exact hk _ _ rfl
  | succ d ih =>
    intro i n hi hn
    have hlt : i < m.length := by omega
    have w := wrapIdx (i := i) (by omega)
    have hb : m[i].toNat ≤ 1 := by cases m[i] <;> decide
    have hp : 2 ^ (i + 1) ≤ 2 ^ 64 := Nat.pow_le_pow_right (by omega) (by omega)
    have hp2 : 2 ^ (i + 1) = 2 * 2 ^ i := by rw [Nat.pow_succ, Nat.mul_comm]
    have w1 : IntKind.wrap .u64 ((n : Int) * 2) = ((2 * n : Nat) : Int) := by rw [show (n : Int) * 2 = ((2 * n : Nat) : Int) from by omega, wrap_u64 (by omega)]
    have w2 : IntKind.wrap .u64 (lv m[i]) = ((m[i].toNat : Nat) : Int) := by rw [lv_nat, wrap_u64 (by omega)]
    have w3 := ior_bit (n := n) m[i] (by omega)
    rw [List.drop_eq_getElem_cons hlt, valGo]
    have ih2 := ih (i + 1) (2 * n + m[i].toNat) (by omega) (by omega)
    generalize R _ = Q at ih2 ⊢
    generalize 2 * n + m[i].toNat = n2 at *
    generalize 2 * n = n1 at *
    simp at ih2 w
    simp [go_sem, run_codeL E L147_0.eq_1, hlt, List.getElem?_eq_getElem hlt, encLv, w, w1, w2, w3, purse_eq]
    rw [run_inLoop']
    simp [go_sem, purse_eq]
    exact ih2
theorem value_spec (m : List Bool) (hl : m.length ≤ 64) (nl fu : Bool) : call E (.func (.func 147) [] []) [.imm nl fu true (m.map encLv)] [] = some (.tup [.lit (.int .u64 (valB m)), .lit (.int .i64 0)], []) := by
  rw [call_func E E147]
  have hc := check_lv m (by omega) nl fu
  have h64 : ¬ ((64 : Int) < m.length) := by omega
  have h := fun k hk => val_loop m hl nl fu k (fun n => some (.tup [.lit (.int .u64 n), .lit (.int .i64 0)], [])) hk m.length 0 0 (by omega) (by simp)
  simp at h
  simp [go_sem, ir147, hc, h64, purse_eq]
  rw [run_inLoop']
  simp [go_sem, purse_eq]
  refine h _ ?_
  intro τ n t4
  simp [go_sem, t4]
theorem fvalue_spec (m : List Bool) (hl : m.length ≤ 62) (nl fu : Bool) : call E (.func (.func 117) [] []) [.imm nl fu true (m.map encLv)] [] = some (.lit (.int .i64 (valB m)), []) := by
  rw [call_func E E117]
  have h := value_spec m (by omega) nl fu
  have hb := valB_lt m
  have hp : 2 ^ m.length ≤ 2 ^ 62 := Nat.pow_le_pow_right (by omega) hl
  have w : IntKind.wrap .i64 (valB m : Int) = valB m := wrap64 (by omega) (by omega)
  simp [go_sem, ir117, h, w, purse_eq]
end Go.AM.R1
open Go Go.AM
namespace Go.AM.R1
/-! ### The sum of 15 bits -/
theorem iand_i64_nat {x y : Nat} (hx : x < 9223372036854775808) (hy : y < 9223372036854775808) : iand .i64 (x : Int) (y : Int) = ((x &&& y : Nat) : Int) := by
  have e : (BitVec.ofInt 64 (x : Int) &&& BitVec.ofInt 64 (y : Int)).toNat = x &&& y := by
    rw [BitVec.toNat_and, BitVec.ofInt_natCast, BitVec.ofInt_natCast, BitVec.toNat_ofNat, BitVec.toNat_ofNat, Nat.mod_eq_of_lt (by omega), Nat.mod_eq_of_lt (by omega)]
  have hl : x &&& y ≤ x := Nat.and_le_left
  unfold iand
  show IntKind.wrap .i64 ((BitVec.ofInt 64 (x : Int) &&& BitVec.ofInt 64 (y : Int)).toNat : Int) = _
  rw [e, wrap64 (by omega) (by omega)]
theorem ixor_i64_nat {x y : Nat} (hx : x < 4611686018427387904) (hy : y < 4611686018427387904) : ixor .i64 (x : Int) (y : Int) = ((x ^^^ y : Nat) : Int) := by
  have e : (BitVec.ofInt 64 (x : Int) ^^^ BitVec.ofInt 64 (y : Int)).toNat = x ^^^ y := by
    rw [BitVec.toNat_xor, BitVec.ofInt_natCast, BitVec.ofInt_natCast, BitVec.toNat_ofNat, BitVec.toNat_ofNat, Nat.mod_eq_of_lt (by omega), Nat.mod_eq_of_lt (by omega)]
  have hl : x ^^^ y < 2 ^ 62 := Nat.xor_lt_two_pow (by omega) (by omega)
  unfold ixor
  show IntKind.wrap .i64 ((BitVec.ofInt 64 (x : Int) ^^^ BitVec.ofInt 64 (y : Int)).toNat : Int) = _
  rw [e, wrap64 (by omega) (by omega)]
theorem and_16384 {s : Nat} (h : s < 32768) : (s &&& 16384 = 0) ↔ s < 16384 := by
  constructor
  · intro e
    apply Classical.byContradiction
    intro q
    have h1 : s.testBit 14 = true := by
      rw [Nat.testBit_eq_decide_div_mod_eq]; simp; omega
    have h2 : (s &&& 16384).testBit 14 = true := by rw [Nat.testBit_and, h1]; decide
    rw [e] at h2
    simp at h2
  · intro q
    apply Nat.eq_of_testBit_eq
    intro i
    rw [Nat.testBit_and, show 16384 = 2 ^ 14 from rfl, Nat.testBit_two_pow]
    by_cases h : 14 = i
    · subst h
      rw [Nat.testBit_lt_two_pow (show s < 2 ^ 14 by omega)]; simp
    · simp [h]
def c15Step (s : Nat) (b : Bool) : Nat := if decide (16384 ≤ s) != b then (2 * s % 32768) ^^^ 17817 else 2 * s % 32768
theorem c15Step_lt (s : Nat) (b : Bool) : c15Step s b < 32768 := by
  unfold c15Step
  split
  · exact Nat.xor_lt_two_pow (n := 15) (by omega) (by omega)
  · omega
theorem cstep_spec (s : Nat) (h : s < 32768) (b : Bool) : call E (.func (.func 129) [] []) [.lit (.int .i64 s), .lit (.int .i64 (lv b))] [] = some (.lit (.int .i64 (c15Step s b)), []) := by
  rw [call_func E E129]
  have w1 : IntKind.wrap .i64 ((s : Int) * 2) = ((2 * s : Nat) : Int) := by rw [wrap64 (by omega) (by omega)]; omega
  have a1 : iand .i64 ((2 * s : Nat) : Int) 32767 = ((2 * s % 32768 : Nat) : Int) := by
    rw [show (32767 : Int) = ((32767 : Nat) : Int) from rfl, iand_i64_nat (by omega) (by omega), show 32767 = 2 ^ 15 - 1 from rfl, Nat.and_two_pow_sub_one_eq_mod]
  have a2 : iand .i64 (s : Int) 16384 = ((s &&& 16384 : Nat) : Int) := by
    rw [show (16384 : Int) = ((16384 : Nat) : Int) from rfl, iand_i64_nat (by omega) (by omega)]
  have a3 : ixor .i64 ((2 * s % 32768 : Nat) : Int) 17817 = ((2 * s % 32768 ^^^ 17817 : Nat) : Int) := by
    rw [show (17817 : Int) = ((17817 : Nat) : Int) from rfl, ixor_i64_nat (by omega) (by omega)]
  have hm := and_16384 h
  unfold c15Step
  by_cases hs : s < 16384
  · have e0 := hm.2 hs
    have hs' : ¬ 16384 ≤ s := by omega
    rw [e0] at a2
    generalize 2 * s % 32768 = m at *
    generalize m ^^^ 17817 = m2 at *
    generalize 2 * s = s2 at *
    simp at a2
    cases b <;> simp [go_sem, ir129, lv, w1, a1, a2, a3, hs']
  · have e0 : ¬ (s &&& 16384 = 0) := fun e => hs (hm.1 e)
    have hs' : 16384 ≤ s := by omega
    generalize s &&& 16384 = t at *
    generalize 2 * s % 32768 = m at *
    generalize m ^^^ 17817 = m2 at *
    generalize 2 * s = s2 at *
    cases b <;> simp [go_sem, ir129, lv, w1, a1, a2, a3, hs', e0]
def c15Go (s : Nat) : List Bool → Nat
  | [] => s
  | b :: l => c15Go (c15Step s b) l
def c15L (l : List Bool) : Nat := c15Go 0 l
theorem c15Go_lt : ∀ (l : List Bool) (s : Nat), s < 32768 → c15Go s l < 32768
  | [], s, h => h
  | b :: l, s, _ => c15Go_lt l _ (c15Step_lt s b)
theorem c15L_lt (l : List Bool) : c15L l < 32768 := c15Go_lt l 0 (by omega)
theorem con_spec (s : Nat) (h : s < 32768) (b : Bool) : call E (.func (.func 128) [] [.ptr 0 0]) [.lit (.int .i64 (lv b))] [.box [.lit (.int .i64 s)]] = some (.tup [], [.box [.lit (.int .i64 (c15Step s b))]]) := by
  rw [call_func E E128]
  simp [go_sem, ir128, cstep_spec s h b, purse_eq, List.range_succ]
theorem csum_loop (m : List Bool) (hl : m.length ≤ 1000000) (nl fu : Bool) (k : List Item) (R : Nat → Option (AVal × Heap))
    (hk : ∀ (τ : Tmps) (s : Nat), lk 4 τ = .ptr 0 0 → finK 0 [.tmp 2, .tmp 3] (run E 0 k τ [.box [.lit (.int .i64 (s : Int))]]) = R s) :
    ∀ (d i : Nat) (s : Nat), i + d = m.length → s < 32768 →
   finK 0 [.tmp 2, .tmp 3] (run E 0 (.code L93_0 :: .inLoop [0, 4, 5, 12, 13] L93_0 :: .inBlock 0 :: k) [(0, .imm nl fu true (m.map encLv)), (4, .ptr 0 0), (5, .func (.func 128) [] [.ptr 0 0]), (12, .lit (.int .i64 m.length)), (13, .lit (.int .i64 i))] [.box [.lit (.int .i64 s)]]) = R (c15Go s (m.drop i)) := by
  intro d
  induction d with
  | zero =>
    intro i s hi hs
    have : i = m.length := by omega
    subst this
    simp [go_sem, run_codeL E L93_0.eq_1, c15Go]
    exact hk _ _ rfl
  | succ d ih =>
    intro i s hi hs
    have hlt : i < m.length := by omega
    have w := wrapIdx (i := i) (by omega)
    rw [List.drop_eq_getElem_cons hlt, c15Go]
    have ih2 := ih (i + 1) (c15Step s m[i]) (by omega) (c15Step_lt _ _)
    have hc := con_spec s hs m[i]
    generalize R _ = Q at ih2 ⊢
    generalize c15Step s m[i] = s2 at *
    simp at ih2 w
    simp [go_sem, run_codeL E L93_0.eq_1, hlt, List.getElem?_eq_getElem hlt, encLv, w, hc, purse_eq, List.range_succ]
    rw [run_inLoop']
    simp [go_sem, purse_eq, List.range_succ]
    exact ih2
theorem csum_spec (m : List Bool) (hl : m.length ≤ 1000000) (nl fu : Bool) : call E (.func (.func 93) [] []) [.imm nl fu true (m.map encLv)] [] = some (.tup [.lit (.int .i64 (c15L m)), .lit (.int .i64 0)], []) := by
  rw [call_func E E93]
  have hc := check_lv m (by omega) nl fu
  have h := fun k hk => csum_loop m hl nl fu k (fun n => some (.tup [.lit (.int .i64 n), .lit (.int .i64 0)], [])) hk m.length 0 0 (by omega) (by omega)
  simp at h
  simp [go_sem, ir93, hc, purse_eq, List.range_succ]
  rw [run_inLoop']
  simp [go_sem, purse_eq, List.range_succ]
  refine h _ ?_
  intro τ s t4
  simp [go_sem, t4, purse_eq, List.range_succ]
/-! ### The lowest bits of a number -/
def bitsOf : Nat → Nat → List Bool
  | 0, _ => []
  | w + 1, n => decide (n / 2 ^ w % 2 = 1) :: bitsOf w n
theorem bitsOf_length : ∀ w n, (bitsOf w n).length = w
  | 0, _ => rfl
  | w + 1, n => by rw [bitsOf, List.length_cons, bitsOf_length w]
theorem bof_loop (n w : Nat) (hn : n < 18446744073709551616) (hw : w ≤ 64) (k : List Item) (R : Option (AVal × Heap))
    (hk : ∀ τ, lk 6 τ = .own 0 w 1 0 w → finK 0 [.tmp 4, .tmp 5] (run E 0 k τ [.arr true false false 1 ((bitsOf w n).map encLv)]) = R) :
    ∀ (d i : Nat), i + d = w →
   finK 0 [.tmp 4, .tmp 5] (run E 0 (.code L127_0 :: .inLoop [0, 1, 6, 16, 17] L127_0 :: .inBlock 0 :: k) [(0, .lit (.int .u64 n)), (1, .lit (.int .i64 w)), (6, .own 0 w 1 0 w), (16, .lit (.int .i64 w)), (17, .lit (.int .i64 i))] [.arr true false false 1 ((List.replicate (w - i) false ++ bitsOf i n).map encLv)]) = R := by
  intro d
  induction d with
  | zero =>
    intro i hi
    have : i = w := by omega
    subst this
    simp [go_sem, run_codeL E L127_0.eq_1]
    exact hk _ rfl
  | succ d ih =>
    intro i hi
    have hlt : i < w := by omega
    have w1 := wrapIdx (i := i) (by omega)
    have w2 : IntKind.wrap .i64 ((w : Int) - 1) = (w : Int) - 1 := wrap64 (by omega) (by omega)
    have w3 : IntKind.wrap .i64 ((w : Int) - 1 - (i : Int)) = ((w - 1 - i : Nat) : Int) := by rw [wrap64 (by omega) (by omega)]; omega
    have hmin : min i 64 = i := by omega
    have hp : (0 : Int) < 2 ^ i := Int.pow_pos (by omega)
    have hfd : (n : Int).fdiv (2 ^ i) = ((n / 2 ^ i : Nat) : Int) := by rw [Int.fdiv_eq_ediv_of_nonneg _ (by omega)]; simp
    have hlt64 : n / 2 ^ i < 18446744073709551616 := Nat.lt_of_le_of_lt (Nat.div_le_self _ _) hn
    have a1 : iand .u64 ((n / 2 ^ i : Nat) : Int) 1 = ((n / 2 ^ i % 2 : Nat) : Int) := by
      have e : (BitVec.ofInt 64 ((n / 2 ^ i : Nat) : Int) &&& BitVec.ofInt 64 1).toNat = n / 2 ^ i % 2 := by
        rw [BitVec.toNat_and, BitVec.ofInt_natCast, BitVec.toNat_ofNat, BitVec.toNat_ofInt, show ((1 : Int) % ((2 ^ 64 : Nat) : Int)).toNat = 1 from by decide, Nat.mod_eq_of_lt (by omega), Nat.and_one_is_mod]
      unfold iand
      show IntKind.wrap .u64 ((BitVec.ofInt 64 ((n / 2 ^ i : Nat) : Int) &&& BitVec.ofInt 64 1).toNat : Int) = _
      rw [e, wrap_u64 (by omega)]
    have w4 : IntKind.wrap .i64 ((n / 2 ^ i % 2 : Nat) : Int) = lv (decide (n / 2 ^ i % 2 = 1)) := by
      rw [wrap64 (by omega) (by omega)]
      unfold lv
      by_cases h : n / 2 ^ i % 2 = 1
      · simp [h]
      · have : n / 2 ^ i % 2 = 0 := by omega
        simp [this]
    have hlt0 : ¬ (i : Int) < 0 := by omega
    have hset : ((List.replicate (w - i) false ++ bitsOf i n).map encLv).set (w - 1 - i) [.lit (.int .i64 (lv (decide (n / 2 ^ i % 2 = 1))))] = (List.replicate (w - (i + 1)) false ++ bitsOf (i + 1) n).map encLv := by
      rw [show ([.lit (.int .i64 (lv (decide (n / 2 ^ i % 2 = 1))))] : List AVal) = encLv (decide (n / 2 ^ i % 2 = 1)) from rfl, ← List.map_set]
      congr 1
      rw [show w - i = (w - (i + 1)) + 1 from by omega, List.replicate_succ', List.append_assoc, show w - 1 - i = w - (i + 1) from by omega, List.set_append_right _ _ (by simp)]
      simp [bitsOf]
    have hlen : ((List.replicate (w - i) false ++ bitsOf i n).map encLv).length = w := by simp [bitsOf_length]; omega
    have hel : ∀ h : w - 1 - i < ((List.replicate (w - i) false ++ bitsOf i n).map encLv).length, (((List.replicate (w - i) false ++ bitsOf i n).map encLv)[w - 1 - i]'h).length = 1 := by
      intro h; rw [List.getElem_map]; rfl
    have ih2 := ih (i + 1) (by omega)
    rw [← hset] at ih2
    have hj : w - 1 - i < w := by omega
    generalize (List.replicate (w - i) false ++ bitsOf i n).map encLv = B at *
    generalize w - 1 - i = j at *
    generalize decide (n / 2 ^ i % 2 = 1) = bb at *
    generalize n / 2 ^ i % 2 = r at *
    generalize n / 2 ^ i = q at *
    have hjB : j < B.length := by omega
    have hBj : B[j]? = some (B[j]) := List.getElem?_eq_getElem hjB
    have he := hel hjB
    have htl : B[j].tail = [] := List.eq_nil_of_length_eq_zero (by rw [List.length_tail, he])
    simp at ih2 w1
    simp [go_sem, run_codeL E L127_0.eq_1, hlt, w1, w2, w3, hmin, hfd, a1, w4, hlt0, hj, hlen, hBj, hjB, he, htl, purse_eq, List.range_succ]
    rw [run_inLoop']
    simp [go_sem, purse_eq, List.range_succ]
    exact ih2
theorem bof_spec (n w : Nat) (hn : n < 18446744073709551616) (hw : w ≤ 64) : call E (.func (.func 127) [] []) [.lit (.int .u64 n), .lit (.int .i64 w)] [] = some (.tup [.own 0 w 1 0 w, .lit (.int .i64 0)], [.arr true false false 1 ((bitsOf w n).map encLv)]) := by
  rw [call_func E E127]
  have h0 : ¬ (w : Int) < 0 := by omega
  have h64 : ¬ (64 : Int) < w := by omega
  have hb1 : (w : Int) ≤ 70368744177664 := by omega
  have hb2 : (w : Int) * 8 ≤ 70368744177664 := by omega
  have h := fun k hk => bof_loop n w hn hw k (some (.tup [.own 0 w 1 0 w, .lit (.int .i64 0)], [.arr true false false 1 ((bitsOf w n).map encLv)])) hk w 0 (by omega)
  have hr : ((List.replicate (w - 0) false ++ bitsOf 0 n).map encLv) = List.replicate w [.lit (.int .i64 0)] := by simp [bitsOf, encLv, lv]
  rw [hr] at h
  simp at h
  simp [go_sem, ir127, h0, h64, hb1, hb2, purse_eq, List.range_succ]
  rw [run_inLoop']
  simp [go_sem, purse_eq, List.range_succ]
  refine h _ ?_
  intro τ t6
  simp [go_sem, t6, purse_eq, List.range_succ]
theorem cbits_spec (s : Nat) (h : s < 32768) : call E (.func (.func 94) [] []) [.lit (.int .i64 s)] [] = some (.tup [.own 0 15 1 0 15, .lit (.int .i64 0)], [.arr true false false 1 ((bitsOf 15 s).map encLv)]) := by
  rw [call_func E E94]
  have hm : call E (.func (.func 130) [] []) [.lit (.int .i64 s)] [] = some (.lit (.bool true), []) := by
    rw [call_func E E130]
    have h1 : (s : Int) ≤ 32767 := by omega
    have h1' : s ≤ 32767 := by omega
    simp [go_sem, ir130, h1, h1']
  have w := wrap_u64 (n := s) (by omega)
  have ho := bof_spec s 15 (by omega) (by omega)
  simp at ho
  simp [go_sem, ir94, hm, w, ho, purse_eq, List.range_succ]
/-! ### Equal rows -/
theorem eq_loop (l m : List Bool) (hll : l.length = m.length) (hl : l.length ≤ 1000000) (n1 f1 n2 f2 : Bool) (k : List Item) (R : Bool → Option (AVal × Heap))
    (hk : ∀ τ, finK 0 [.tmp 4] (run E 0 k τ []) = R true) (hR : R false = some (.lit (.bool false), [])) :
    ∀ (d i : Nat), i + d = l.length →
   finK 0 [.tmp 4] (run E 0 (.code L159_0 :: .inLoop [0, 1, 12, 13] L159_0 :: .inBlock 0 :: k) [(0, .imm n1 f1 true (l.map encLv)), (1, .imm n2 f2 true (m.map encLv)), (12, .lit (.int .i64 l.length)), (13, .lit (.int .i64 i))] []) = R (decide (l.drop i = m.drop i)) := by
  intro d
  induction d with
  | zero =>
    intro i hi
    have : i = l.length := by omega
    subst this
    have e : decide (l.drop l.length = m.drop l.length) = true := by rw [decide_eq_true_eq, List.drop_length, hll, List.drop_length]
    rw [e]
    simp [go_sem, run_codeL E L159_0.eq_1]
    exact hk _
  | succ d ih =>
    intro i hi
    have hlt : i < l.length := by omega
    have hlt2 : i < m.length := by omega
    have w := wrapIdx (i := i) (by omega)
    rw [List.drop_eq_getElem_cons hlt, List.drop_eq_getElem_cons hlt2]
    by_cases h : l[i] = m[i]
    · have e : decide (l[i] :: l.drop (i + 1) = m[i] :: m.drop (i + 1)) = decide (l.drop (i + 1) = m.drop (i + 1)) := decide_eq_decide.2 ⟨fun q => (List.cons.inj q).2, fun q => by rw [h, q]⟩
      rw [e]
      have ih2 := ih (i + 1) (by omega)
      generalize R (decide (l.drop (i + 1) = m.drop (i + 1))) = Q at ih2 ⊢
      simp at ih2 w
      simp [go_sem, run_codeL E L159_0.eq_1, hlt, hlt2, List.getElem?_eq_getElem hlt, List.getElem?_eq_getElem hlt2, encLv, h, w, purse_eq]
      rw [run_inLoop']
      simp [go_sem, purse_eq]
      exact ih2
    · have e : decide (l[i] :: l.drop (i + 1) = m[i] :: m.drop (i + 1)) = false := decide_eq_false (fun q => h (List.cons.inj q).1)
      rw [e, hR]
      have hne : ¬ lv l[i] = lv m[i] := by intro q; apply h; cases hx : l[i] <;> cases hy : m[i] <;> simp [hx, hy, lv] at q ⊢
      simp [go_sem, run_codeL E L159_0.eq_1, hlt, hlt2, List.getElem?_eq_getElem hlt, List.getElem?_eq_getElem hlt2, encLv, hne, w, purse_eq]
theorem sequal_spec (l m : List Bool) (hll : l.length = m.length) (hl : l.length ≤ 1000000) (n1 f1 n2 f2 : Bool) : call E (.func (.func 159) [] []) [.imm n1 f1 true (l.map encLv), .imm n2 f2 true (m.map encLv)] [] = some (.lit (.bool (decide (l = m))), []) := by
  rw [call_func E E159]
  have h := fun k hk => eq_loop l m hll hl n1 f1 n2 f2 k (fun b => some (.lit (.bool b), [])) hk rfl l.length 0 (by omega)
  simp at h
  simp [go_sem, ir159, hll, purse_eq]
  rw [run_inLoop']
  simp [go_sem, purse_eq]
  rw [hll] at h
  refine h _ ?_
  intro τ
  simp [go_sem]
/-- Is the sum at the end of levels theirs? -/
def rightC (m : List Bool) : Bool := decide (m.drop (m.length - 15) = bitsOf 15 (c15L (m.take (m.length - 15))))
theorem cright_spec (m : List Bool) (h15 : 15 ≤ m.length) (hl : m.length ≤ 1000000) (nl fu : Bool) : call E (.func (.func 146) [] []) [.imm nl fu true (m.map encLv)] [] = some (.lit (.bool (rightC m)), []) := by
  rw [call_func E E146]
  have hc := check_lv m (by omega) nl fu
  have w : IntKind.wrap .i64 ((m.length : Int) - 15) = ((m.length - 15 : Nat) : Int) := by rw [wrap64 (by omega) (by omega)]; omega
  have hr := rowsLv m
  have hS := csum_spec (m.take (m.length - 15)) (by simp; omega) nl
  have hB := cbits_spec (c15L (m.take (m.length - 15))) (c15L_lt _)
  have hE := fun f1 f2 => sequal_spec (m.drop (m.length - 15)) (bitsOf 15 (c15L (m.take (m.length - 15)))) (by rw [bitsOf_length, List.length_drop]; omega) (by simp; omega) nl f1 false f2
  rw [List.map_take] at hS
  rw [List.map_drop] at hE
  unfold rightC
  have h0 : ¬ ((m.length - 15 : Nat) : Int) < 0 := by omega
  have hle : m.length - 15 ≤ m.length := by omega
  have hE2 := hE
  generalize decide (m.drop (m.length - 15) = bitsOf 15 (c15L (m.take (m.length - 15)))) = D at *
  generalize c15L (m.take (m.length - 15)) = s at *
  generalize m.length - 15 = j at *
  have hE1 := hE fu false
  have hcw : cutE ((bitsOf 15 s).map encLv) 0 15 = (bitsOf 15 s).map encLv := cutE_whole (by simp [bitsOf_length])
  simp [go_sem, ir146, hc, w, hr, hle, h0, take_allLv, bitsOf_length, hcw, hS, hB, hE1, purse_eq, List.range_succ]
end Go.AM.R1
open Go Go.AM
namespace Go.AM.R1
/-! ### Fields -/
def extF (m : List Bool) : Bool := (m[13]?).getD false
def dataF (m : List Bool) : Nat := if extF m = true then 39 else 19
def ctrlF (m : List Bool) : Nat := if extF m = true then 33 else 14
def rtrF (m : List Bool) : Bool := (m[if extF m = true then 32 else 12]?).getD false
def sizeF (m : List Bool) : Nat := min (valB ((m.take (dataF m)).drop (dataF m - 4))) 8
def sumF (m : List Bool) : Nat := if rtrF m = true then dataF m else dataF m + 8 * sizeF m
def encHead (e r : Bool) (c d s : Nat) : List AVal := [.lit (.bool e), .lit (.bool r), .lit (.int .i64 c), .lit (.int .i64 d), .lit (.int .i64 s)]
/-- Arithmetic that is decided on the way. -/
theorem ltT {a b : Int} (h : a < b) : (a < b) = True := eq_true h
theorem ltF {a b : Int} (h : b ≤ a) : (a < b) = False := eq_false (by omega)
theorem leT {a b : Int} (h : a ≤ b) : (a ≤ b) = True := eq_true h
theorem leF {a b : Int} (h : b < a) : (a ≤ b) = False := eq_false (by omega)
theorem nltT {a b : Nat} (h : a < b) : (a < b) = True := eq_true h
theorem nltF {a b : Nat} (h : b ≤ a) : (a < b) = False := eq_false (by omega)
theorem nleT {a b : Nat} (h : a ≤ b) : (a ≤ b) = True := eq_true h
theorem nleF {a b : Nat} (h : b < a) : (a ≤ b) = False := eq_false (by omega)
theorem sumF_ge (m : List Bool) : dataF m ≤ sumF m ∧ sumF m ≤ dataF m + 64 ∧ (dataF m = 19 ∨ dataF m = 39) := by
  unfold sumF sizeF
  have : dataF m = 19 ∨ dataF m = 39 := by unfold dataF; split <;> omega
  split <;> omega
theorem read1 (m : List Bool) (h : m.length ≤ 13) (nl fu : Bool) : call E (.func (.func 116) [] []) [.imm nl fu true (m.map encLv)] [] = some (.tup [.agg (encHead false false 0 0 0), .lit (.bool false)], []) := by
  rw [call_func E E116]
  have h1 : (m.length : Int) ≤ 13 := by omega
  simp [go_sem, ir116, h1, encHead, purse_eq, List.range_succ]
theorem read2 (m : List Bool) (h : 14 ≤ m.length) (h2 : m.length < dataF m) (nl fu : Bool) : call E (.func (.func 116) [] []) [.imm nl fu true (m.map encLv)] [] = some (.tup [.agg (encHead (extF m) false (ctrlF m) (dataF m) 0), .lit (.bool false)], []) := by
  rw [call_func E E116]
  have h1 : ¬ (m.length : Int) ≤ 13 := by omega
  have h13 : 13 < m.length := by omega
  have e : extF m = m[13] := by unfold extF; rw [List.getElem?_eq_getElem h13]; rfl
  unfold dataF at h2
  unfold ctrlF dataF
  rw [e] at h2 ⊢
  cases hx : m[13]
  · have h3 : (m.length : Int) < 19 := by simp [hx] at h2; omega
    simp [go_sem, ir116, h1, h3, List.getElem?_eq_getElem h13, encLv, hx, lv, encHead, purse_eq, List.range_succ]
  · have h3 : (m.length : Int) < 39 := by simp [hx] at h2; omega
    simp [go_sem, ir116, h1, h3, List.getElem?_eq_getElem h13, encLv, hx, lv, encHead, purse_eq, List.range_succ]
theorem read3 (m : List Bool) (h : dataF m ≤ m.length) (hl : m.length ≤ 1000000) (nl fu : Bool) : call E (.func (.func 116) [] []) [.imm nl fu true (m.map encLv)] [] = some (.tup [.agg (encHead (extF m) (rtrF m) (ctrlF m) (dataF m) (sizeF m)), .lit (.bool true)], []) := by
  rw [call_func E E116]
  have hd : dataF m = 19 ∨ dataF m = 39 := by unfold dataF; split <;> omega
  have h1 : ¬ (m.length : Int) ≤ 13 := by omega
  have h13 : 13 < m.length := by omega
  have e : extF m = m[13] := by unfold extF; rw [List.getElem?_eq_getElem h13]; rfl
  have hr := rowsLv m
  have hv := fun fu => value_spec ((m.take (dataF m)).drop (dataF m - 4)) (by simp; omega) nl fu
  have hvb := valB_lt ((m.take (dataF m)).drop (dataF m - 4))
  rw [show ((m.take (dataF m)).drop (dataF m - 4)).length = 4 from by simp; omega] at hvb
  rw [List.map_drop, List.map_take] at hv
  have w : IntKind.wrap .i64 (valB ((m.take (dataF m)).drop (dataF m - 4)) : Int) = valB ((m.take (dataF m)).drop (dataF m - 4)) := wrap64 (by omega) (by omega)
  have hs : (if (8 : Int) < (valB ((m.take (dataF m)).drop (dataF m - 4)) : Int) then (8 : Int) else (valB ((m.take (dataF m)).drop (dataF m - 4)) : Int)) = (sizeF m : Int) := by
    unfold sizeF; split <;> omega
  have hs2 : (if 8 < valB ((m.take (dataF m)).drop (dataF m - 4)) then (8 : Int) else (valB ((m.take (dataF m)).drop (dataF m - 4)) : Int)) = (sizeF m : Int) := by
    unfold sizeF; split <;> omega
  have hF1 := hv (fu && decide (dataF m = m.length))
  generalize valB ((m.take (dataF m)).drop (dataF m - 4)) = v at *
  generalize sizeF m = z at *
  unfold rtrF ctrlF
  have hx : extF m = true ↔ dataF m = 39 := by unfold dataF; split <;> simp_all
  cases hxx : m[13]
  · have hd19 : dataF m = 19 := by rcases hd with q | q; exact q; rw [e, hxx] at hx; simp at hx; omega
    have h3 : ¬ (m.length : Int) < 19 := by omega
    have h12 : 12 < m.length := by omega
    have h19 : 19 ≤ m.length := by omega
    rw [hd19] at hF1
    have e' : extF m = false := by rw [e, hxx]
    rw [e', hd19]
    have ws : IntKind.wrap .i64 15 = 15 := rfl
    simp [go_sem, ir116, h1, h3, List.getElem?_eq_getElem h13, List.getElem?_eq_getElem h12, encLv, hxx, lv, encHead, hr, h19, ws, hF1, w, hs, hs2, purse_eq, List.range_succ]
  · have hd39 : dataF m = 39 := by rw [e, hxx] at hx; simpa using hx
    have h3 : ¬ (m.length : Int) < 39 := by omega
    have h32 : 32 < m.length := by omega
    have h39 : 39 ≤ m.length := by omega
    rw [hd39] at hF1
    have e' : extF m = true := by rw [e, hxx]
    rw [e', hd39]
    have ws : IntKind.wrap .i64 35 = 35 := rfl
    simp [go_sem, ir116, h1, h3, List.getElem?_eq_getElem h13, List.getElem?_eq_getElem h32, encLv, hxx, lv, encHead, hr, h39, ws, hF1, w, hs, hs2, purse_eq, List.range_succ]
theorem hsum_spec (e r : Bool) (c d s : Nat) (hd : d ≤ 1000) (hs : s ≤ 8) : call E (.func (.func 145) [] []) [.agg (encHead e r c d s)] [] = some (.lit (.int .i64 ((if r = true then d else d + 8 * s : Nat))), []) := by
  rw [call_func E E145]
  have w1 : IntKind.wrap .i64 (8 * (s : Int)) = 8 * s := wrap64 (by omega) (by omega)
  have w2 : IntKind.wrap .i64 ((d : Int) + 8 * (s : Int)) = d + 8 * s := wrap64 (by omega) (by omega)
  cases r <;> simp [go_sem, ir145, encHead, w1, w2, purse_eq, List.range_succ]
/-- The field of the next level, and which one of it. -/
def nextF (m : List Bool) : Nat × Nat :=
  if m.length = 0 then (0, 0)
  else if m.length ≤ 13 ∨ extF m = true ∧ m.length ≤ 32 then (1, m.length - 1)
  else if m.length < dataF m then (2, m.length - ctrlF m)
  else if m.length < sumF m then (3, m.length - dataF m)
  else if m.length < sumF m + 15 then (4, m.length - sumF m)
  else if m.length < sumF m + 16 then (5, 0)
  else if m.length < sumF m + 17 then (6, 0)
  else if m.length < sumF m + 18 then (7, 0)
  else if m.length < sumF m + 25 then (8, m.length - (sumF m + 18))
  else (9, 0)
theorem next_small (m : List Bool) (h : m.length < dataF m) (nl fu : Bool) : call E (.func (.func 113) [] []) [.imm nl fu true (m.map encLv)] [] = some (.tup [.lit (.int .i64 (nextF m).1), .lit (.int .i64 (nextF m).2), .lit (.int .i64 0)], []) := by
  rw [call_func E E113]
  have hd : dataF m = 19 ∨ dataF m = 39 := by unfold dataF; split <;> omega
  have hc := check_lv m (by omega) nl fu
  by_cases h0 : m.length = 0
  · have hr := read1 m (by omega) nl fu
    have hn : nextF m = (0, 0) := by unfold nextF; rw [if_pos h0]
    have h0' : (m.length : Int) = 0 := by omega
    have hm : m = [] := List.length_eq_zero_iff.1 h0
    subst hm
    rw [hn]
    simp [encHead] at hr hc
    simp [go_sem, ir113, hc, hr, purse_eq, List.range_succ]
  · have h0' : ¬ (m.length : Int) = 0 := by omega
    have hmn : m ≠ [] := by intro q; subst q; simp at h0
    by_cases h13 : m.length ≤ 13
    · have hr := read1 m h13 nl fu
      have hn : nextF m = (1, m.length - 1) := by unfold nextF; rw [if_neg h0, if_pos (.inl h13)]
      rw [hn]
      have h13' : (m.length : Int) ≤ 13 := by omega
      have w : IntKind.wrap .i64 ((m.length : Int) - 1) = ((m.length - 1 : Nat) : Int) := by rw [wrap64 (by omega) (by omega)]; omega
      simp [encHead] at hr
      simp [go_sem, ir113, hc, hr, hmn, h0, h13', w, purse_eq, List.range_succ]
    · have hr := read2 m (by omega) h nl fu
      have h13' : ¬ (m.length : Int) ≤ 13 := by omega
      by_cases h32 : extF m = true ∧ m.length ≤ 32
      · have hn : nextF m = (1, m.length - 1) := by unfold nextF; rw [if_neg h0, if_pos (.inr h32)]
        rw [hn]
        have h32' : (m.length : Int) ≤ 32 := by omega
        have w : IntKind.wrap .i64 ((m.length : Int) - 1) = ((m.length - 1 : Nat) : Int) := by rw [wrap64 (by omega) (by omega)]; omega
        simp [encHead, h32.1] at hr
        simp [go_sem, ir113, hc, hr, hmn, h0, h13', h32', w, purse_eq, List.range_succ]
      · have hn : nextF m = (2, m.length - ctrlF m) := by unfold nextF; rw [if_neg h0, if_neg (by rintro (q | q); exact h13 q; exact h32 q), if_pos h]
        rw [hn]
        have hcl : ctrlF m ≤ m.length := by
          unfold ctrlF; split
          · rename_i q; have : ¬ m.length ≤ 32 := fun q2 => h32 ⟨q, q2⟩; omega
          · omega
        have w : IntKind.wrap .i64 ((m.length : Int) - (ctrlF m : Int)) = ((m.length - ctrlF m : Nat) : Int) := by rw [wrap64 (by omega) (by omega)]; omega
        cases hx : extF m
        · simp [encHead, hx] at hr
          simp [go_sem, ir113, hc, hr, hmn, h0, h13', w, purse_eq, List.range_succ]
        · have h32' : ¬ (m.length : Int) ≤ 32 := by have : ¬ m.length ≤ 32 := fun q2 => h32 ⟨hx, q2⟩; omega
          simp [encHead, hx] at hr
          simp [go_sem, ir113, hc, hr, hmn, h0, h13', h32', w, purse_eq, List.range_succ]
set_option maxHeartbeats 4000000 in
theorem next_whole (m : List Bool) (h : dataF m ≤ m.length) (hl : m.length ≤ sumF m + 25) (nl fu : Bool) : call E (.func (.func 113) [] []) [.imm nl fu true (m.map encLv)] [] = some (.tup [.lit (.int .i64 (nextF m).1), .lit (.int .i64 (nextF m).2), .lit (.int .i64 0)], []) := by
  rw [call_func E E113]
  obtain ⟨s1, s2, hd⟩ := sumF_ge m
  have hc := check_lv m (by omega) nl fu
  have hr := read3 m h (by omega) nl fu
  have hS := hsum_spec (extF m) (rtrF m) (ctrlF m) (dataF m) (sizeF m) (by omega) (by unfold sizeF; omega)
  rw [show (if rtrF m = true then dataF m else dataF m + 8 * sizeF m) = sumF m from rfl] at hS
  have h0 : ¬ m.length = 0 := by omega
  have hmn : m ≠ [] := by intro q; subst q; simp at h0
  have h13 : ¬ (m.length : Int) ≤ 13 := by omega
  have hx32 : ¬ (extF m = true ∧ m.length ≤ 32) := by
    rintro ⟨q1, q2⟩
    have : dataF m = 39 := by unfold dataF; rw [if_pos q1]
    omega
  have hn : nextF m = if m.length < sumF m then (3, m.length - dataF m)
      else if m.length < sumF m + 15 then (4, m.length - sumF m)
      else if m.length < sumF m + 16 then (5, 0) else if m.length < sumF m + 17 then (6, 0) else if m.length < sumF m + 18 then (7, 0)
      else if m.length < sumF m + 25 then (8, m.length - (sumF m + 18)) else (9, 0) := by
    unfold nextF
    rw [if_neg h0, if_neg (by rintro (q | q); omega; exact hx32 q), if_neg (by omega)]
  rw [hn]
  clear hn
  have hx32' : extF m = true → ¬ (m.length : Int) ≤ 32 := fun q1 q2 => hx32 ⟨q1, by omega⟩
  clear hx32
  generalize extF m = e at *
  generalize rtrF m = r at *
  generalize ctrlF m = c at *
  generalize dataF m = d at *
  generalize sizeF m = z at *
  generalize sumF m = s at *
  have w0 : IntKind.wrap .i64 ((s : Int) - (d : Int)) = s - d := wrap64 (by omega) (by omega)
  have w1 : IntKind.wrap .i64 (d : Int) = d := wrap64 (by omega) (by omega)
  have w2 : IntKind.wrap .i64 ((d : Int) + ((s : Int) - (d : Int))) = s := by rw [wrap64 (by omega) (by omega)]; omega
  have w3 : IntKind.wrap .i64 (s : Int) = s := wrap64 (by omega) (by omega)
  have w4 : IntKind.wrap .i64 ((s : Int) + 15) = s + 15 := wrap64 (by omega) (by omega)
  have w5 : IntKind.wrap .i64 ((s : Int) + 15 + 1) = s + 16 := by rw [wrap64 (by omega) (by omega)]; omega
  have w6 : IntKind.wrap .i64 ((s : Int) + 16 + 1) = s + 17 := by rw [wrap64 (by omega) (by omega)]; omega
  have w7 : IntKind.wrap .i64 ((s : Int) + 17 + 1) = s + 18 := by rw [wrap64 (by omega) (by omega)]; omega
  have w8 : IntKind.wrap .i64 ((s : Int) + 18 + 7) = s + 25 := by rw [wrap64 (by omega) (by omega)]; omega
  have v3 : IntKind.wrap .i64 ((m.length : Int) - (d : Int)) = ((m.length - d : Nat) : Int) := by rw [wrap64 (by omega) (by omega)]; omega
  simp [encHead] at hr hS
  have q1 : IntKind.wrap .i64 1 = 1 := rfl
  have q2 : IntKind.wrap .i64 2 = 2 := rfl
  have q3 : IntKind.wrap .i64 3 = 3 := rfl
  have q4 : IntKind.wrap .i64 4 = 4 := rfl
  have q5 : IntKind.wrap .i64 5 = 5 := rfl
  have q6 : IntKind.wrap .i64 6 = 6 := rfl
  have q7 : IntKind.wrap .i64 7 = 7 := rfl
  have q8 : IntKind.wrap .i64 8 = 8 := rfl
  have q9 : IntKind.wrap .i64 9 = 9 := rfl
  have g0 : ¬ m.length < d := by omega
  have g9 : ¬ (s : Int) + 25 < (m.length : Int) := by omega
  have vv : IntKind.wrap .i64 0 = 0 := rfl
  by_cases c1 : m.length < s
  · simp only [if_pos c1]
    cases e
    · simp [go_sem, ir113, run_codeL E L113_0.eq_1, aop_idxV, idxVG_agg, run_inLoop', hc, hr, hS, hmn, h0, g0, q1, q2, q3, q4, q5, q6, q7, q8, q9, g9, c1, h13, w0, w1, w2, w3, w4, w5, w6, w7, w8, v3, vv, purse_eq, List.range_succ]
    · have h32 := hx32' rfl
      simp [go_sem, ir113, run_codeL E L113_0.eq_1, aop_idxV, idxVG_agg, run_inLoop', hc, hr, hS, hmn, h0, g0, q1, q2, q3, q4, q5, q6, q7, q8, q9, g9, c1, h13, h32, w0, w1, w2, w3, w4, w5, w6, w7, w8, v3, vv, purse_eq, List.range_succ]
  · simp only [if_neg c1]
    by_cases c2 : m.length < s + 15
    · simp only [if_pos c2]
      have d2 : (m.length : Int) < (s : Int) + 15 := by omega
      have vv : IntKind.wrap .i64 ((m.length : Int) - (s : Int)) = ((m.length - s : Nat) : Int) := by rw [wrap64 (by omega) (by omega)]; omega
      cases e
      · simp [go_sem, ir113, run_codeL E L113_0.eq_1, aop_idxV, idxVG_agg, run_inLoop', hc, hr, hS, hmn, h0, g0, q1, q2, q3, q4, q5, q6, q7, q8, q9, g9, c1, d2, h13, w0, w1, w2, w3, w4, w5, w6, w7, w8, v3, vv, purse_eq, List.range_succ]
      · have h32 := hx32' rfl
        simp [go_sem, ir113, run_codeL E L113_0.eq_1, aop_idxV, idxVG_agg, run_inLoop', hc, hr, hS, hmn, h0, g0, q1, q2, q3, q4, q5, q6, q7, q8, q9, g9, c1, d2, h13, h32, w0, w1, w2, w3, w4, w5, w6, w7, w8, v3, vv, purse_eq, List.range_succ]
    · simp only [if_neg c2]
      have d2 : ¬ (m.length : Int) < (s : Int) + 15 := by omega
      by_cases c3 : m.length < s + 16
      · simp only [if_pos c3]
        have d3 : (m.length : Int) < (s : Int) + 16 := by omega
        have vv : IntKind.wrap .i64 ((m.length : Int) - ((s : Int) + 15)) = 0 := by rw [wrap64 (by omega) (by omega)]; omega
        cases e
        · simp [go_sem, ir113, run_codeL E L113_0.eq_1, aop_idxV, idxVG_agg, run_inLoop', hc, hr, hS, hmn, h0, g0, q1, q2, q3, q4, q5, q6, q7, q8, q9, g9, c1, d2, d3, h13, w0, w1, w2, w3, w4, w5, w6, w7, w8, v3, vv, purse_eq, List.range_succ]
        · have h32 := hx32' rfl
          simp [go_sem, ir113, run_codeL E L113_0.eq_1, aop_idxV, idxVG_agg, run_inLoop', hc, hr, hS, hmn, h0, g0, q1, q2, q3, q4, q5, q6, q7, q8, q9, g9, c1, d2, d3, h13, h32, w0, w1, w2, w3, w4, w5, w6, w7, w8, v3, vv, purse_eq, List.range_succ]
      · simp only [if_neg c3]
        have d3 : ¬ (m.length : Int) < (s : Int) + 16 := by omega
        by_cases c4 : m.length < s + 17
        · simp only [if_pos c4]
          have d4 : (m.length : Int) < (s : Int) + 17 := by omega
          have vv : IntKind.wrap .i64 ((m.length : Int) - ((s : Int) + 16)) = 0 := by rw [wrap64 (by omega) (by omega)]; omega
          cases e
          · simp [go_sem, ir113, run_codeL E L113_0.eq_1, aop_idxV, idxVG_agg, run_inLoop', hc, hr, hS, hmn, h0, g0, q1, q2, q3, q4, q5, q6, q7, q8, q9, g9, c1, d2, d3, d4, h13, w0, w1, w2, w3, w4, w5, w6, w7, w8, v3, vv, purse_eq, List.range_succ]
          · have h32 := hx32' rfl
            simp [go_sem, ir113, run_codeL E L113_0.eq_1, aop_idxV, idxVG_agg, run_inLoop', hc, hr, hS, hmn, h0, g0, q1, q2, q3, q4, q5, q6, q7, q8, q9, g9, c1, d2, d3, d4, h13, h32, w0, w1, w2, w3, w4, w5, w6, w7, w8, v3, vv, purse_eq, List.range_succ]
        · simp only [if_neg c4]
          have d4 : ¬ (m.length : Int) < (s : Int) + 17 := by omega
          by_cases c5 : m.length < s + 18
          · simp only [if_pos c5]
            have d5 : (m.length : Int) < (s : Int) + 18 := by omega
            have vv : IntKind.wrap .i64 ((m.length : Int) - ((s : Int) + 17)) = 0 := by rw [wrap64 (by omega) (by omega)]; omega
            cases e
            · simp [go_sem, ir113, run_codeL E L113_0.eq_1, aop_idxV, idxVG_agg, run_inLoop', hc, hr, hS, hmn, h0, g0, q1, q2, q3, q4, q5, q6, q7, q8, q9, g9, c1, d2, d3, d4, d5, h13, w0, w1, w2, w3, w4, w5, w6, w7, w8, v3, vv, purse_eq, List.range_succ]
            · have h32 := hx32' rfl
              simp [go_sem, ir113, run_codeL E L113_0.eq_1, aop_idxV, idxVG_agg, run_inLoop', hc, hr, hS, hmn, h0, g0, q1, q2, q3, q4, q5, q6, q7, q8, q9, g9, c1, d2, d3, d4, d5, h13, h32, w0, w1, w2, w3, w4, w5, w6, w7, w8, v3, vv, purse_eq, List.range_succ]
          · simp only [if_neg c5]
            have d5 : ¬ (m.length : Int) < (s : Int) + 18 := by omega
            by_cases c6 : m.length < s + 25
            · simp only [if_pos c6]
              have d6 : (m.length : Int) < (s : Int) + 25 := by omega
              have vv : IntKind.wrap .i64 ((m.length : Int) - ((s : Int) + 18)) = ((m.length - (s + 18) : Nat) : Int) := by rw [wrap64 (by omega) (by omega)]; omega
              cases e
              · simp [go_sem, ir113, run_codeL E L113_0.eq_1, aop_idxV, idxVG_agg, run_inLoop', hc, hr, hS, hmn, h0, g0, q1, q2, q3, q4, q5, q6, q7, q8, q9, g9, c1, d2, d3, d4, d5, d6, h13, w0, w1, w2, w3, w4, w5, w6, w7, w8, v3, vv, purse_eq, List.range_succ]
              · have h32 := hx32' rfl
                simp [go_sem, ir113, run_codeL E L113_0.eq_1, aop_idxV, idxVG_agg, run_inLoop', hc, hr, hS, hmn, h0, g0, q1, q2, q3, q4, q5, q6, q7, q8, q9, g9, c1, d2, d3, d4, d5, d6, h13, h32, w0, w1, w2, w3, w4, w5, w6, w7, w8, v3, vv, purse_eq, List.range_succ]
            · simp only [if_neg c6]
              have d6 : ¬ (m.length : Int) < (s : Int) + 25 := by omega
              cases e
              · simp [go_sem, ir113, run_codeL E L113_0.eq_1, aop_idxV, idxVG_agg, run_inLoop', hc, hr, hS, hmn, h0, g0, q1, q2, q3, q4, q5, q6, q7, q8, q9, g9, c1, d2, d3, d4, d5, d6, h13, w0, w1, w2, w3, w4, w5, w6, w7, w8, v3, vv, purse_eq, List.range_succ]
              · have h32 := hx32' rfl
                simp [go_sem, ir113, run_codeL E L113_0.eq_1, aop_idxV, idxVG_agg, run_inLoop', hc, hr, hS, hmn, h0, g0, q1, q2, q3, q4, q5, q6, q7, q8, q9, g9, c1, d2, d3, d4, d5, d6, h13, h32, w0, w1, w2, w3, w4, w5, w6, w7, w8, v3, vv, purse_eq, List.range_succ]
end Go.AM.R1
open Go Go.AM
namespace Go.AM.R1
/-! ### Frames -/
structure Fr where
  id : Int
  ext : Bool
  rtr : Bool
  len : Int
  d0 : Nat
  d1 : Nat
  d2 : Nat
  d3 : Nat
  d4 : Nat
  d5 : Nat
  d6 : Nat
  d7 : Nat
  deriving DecidableEq
def u8v (c : Nat) : AVal := .lit (.int .u8 (c : Int))
def encFr (f : Fr) : List AVal := [.lit (.int .i64 f.id), .lit (.bool f.ext), .lit (.bool f.rtr), .lit (.int .i64 f.len), u8v f.d0, u8v f.d1, u8v f.d2, u8v f.d3, u8v f.d4, u8v f.d5, u8v f.d6, u8v f.d7]
def Fr.zero : Fr := ⟨0, false, false, 0, 0, 0, 0, 0, 0, 0, 0, 0⟩
theorem ahead_spec (m : List Bool) (h : dataF m ≤ m.length) (hl : m.length ≤ 1000000) (nl fu : Bool) : call E (.func (.func 115) [] []) [.imm nl fu true (m.map encLv)] [] = some (.tup [.lit (.int .i64 (sumF m)), .lit (.int .i64 0)], []) := by
  rw [call_func E E115]
  obtain ⟨s1, s2, hd⟩ := sumF_ge m
  have hc := check_lv m (by omega) nl fu
  have hr := read3 m h hl nl fu
  have hS := hsum_spec (extF m) (rtrF m) (ctrlF m) (dataF m) (sizeF m) (by omega) (by unfold sizeF; omega)
  rw [show (if rtrF m = true then dataF m else dataF m + 8 * sizeF m) = sumF m from rfl] at hS
  simp [encHead] at hr hS
  simp [go_sem, ir115, hc, hr, hS, purse_eq, List.range_succ]
/-- Is the sum in levels that of those ahead? -/
def rightF (m : List Bool) : Bool := decide ((m.take (sumF m + 15)).drop (sumF m) = bitsOf 15 (c15L (m.take (sumF m))))
theorem fright_spec (m : List Bool) (h : dataF m ≤ m.length) (h2 : sumF m + 15 ≤ m.length) (hl : m.length ≤ 1000000) (nl fu : Bool) : call E (.func (.func 114) [] []) [.imm nl fu true (m.map encLv)] [] = some (.tup [.lit (.bool (rightF m)), .lit (.int .i64 0)], []) := by
  rw [call_func E E114]
  have hA := ahead_spec m h hl nl fu
  obtain ⟨s1, s2, hd⟩ := sumF_ge m
  have w : IntKind.wrap .i64 ((sumF m : Int) + 15) = ((sumF m + 15 : Nat) : Int) := by rw [wrap64 (by omega) (by omega)]; omega
  have hR := cright_spec (m.take (sumF m + 15)) (by simp; omega) (by simp; omega) nl
  have e : rightC (m.take (sumF m + 15)) = rightF m := by
    unfold rightC rightF
    rw [show (m.take (sumF m + 15)).length - 15 = sumF m from by simp; omega, List.take_take, Nat.min_eq_left (by omega)]
  rw [e, List.map_take] at hR
  have hr := rowsLv m
  generalize rightF m = b at *
  have hlt : ¬ ((m.length : Int) < ((sumF m + 15 : Nat) : Int)) := by omega
  have hlt2 : ¬ (m.length < sumF m + 15) := by omega
  generalize sumF m + 15 = q at *
  simp [go_sem, ir114, hA, w, hlt2, hr, h2, hR, purse_eq, List.range_succ]
def byteF (m : List Bool) (j : Nat) : Nat := if j < (sumF m - dataF m) / 8 then valB ((m.take (dataF m + 8 * (j + 1))).drop (dataF m + 8 * j)) else 0
def idF (m : List Bool) : Nat := if extF m = true then valB ((m.take 12).drop 1) * 262144 + valB ((m.take 32).drop 14) else valB ((m.take 12).drop 1)
def frameOf (m : List Bool) : Fr := ⟨idF m, extF m, rtrF m, sizeF m, byteF m 0, byteF m 1, byteF m 2, byteF m 3, byteF m 4, byteF m 5, byteF m 6, byteF m 7⟩
theorem ior_i64_add {x y : Nat} (hx : x < 2048) (hy : y < 2 ^ 18) : ior .i64 ((x * 262144 : Nat) : Int) (y : Int) = ((x * 262144 + y : Nat) : Int) := by
  have e : (BitVec.ofInt 64 ((x * 262144 : Nat) : Int) ||| BitVec.ofInt 64 (y : Int)).toNat = x * 262144 + y := by
    rw [BitVec.toNat_or, BitVec.ofInt_natCast, BitVec.ofInt_natCast, BitVec.toNat_ofNat, BitVec.toNat_ofNat, Nat.mod_eq_of_lt (by omega), Nat.mod_eq_of_lt (by omega)]
    have := Nat.two_pow_add_eq_or_of_lt hy x
    rw [show (2 : Nat) ^ 18 = 262144 from rfl] at this
    rw [Nat.mul_comm x, ← this]
  unfold ior
  show IntKind.wrap .i64 ((BitVec.ofInt 64 ((x * 262144 : Nat) : Int) ||| BitVec.ofInt 64 (y : Int)).toNat : Int) = _
  rw [e, wrap64 (by omega) (by omega)]
/-- The cells of a frame whose first bytes are told. -/
def cellsF (m : List Bool) (a b c d : AVal) (i : Nat) : List AVal := a :: b :: c :: d :: (List.range 8).map fun j => u8v (if j < i then valB ((m.take (dataF m + 8 * (j + 1))).drop (dataF m + 8 * j)) else 0)
theorem cellsF_length (m a b c d i) : (cellsF m a b c d i).length = 12 := by simp [cellsF]
theorem cellsF_set (m : List Bool) (a b c d : AVal) (i : Nat) (hi : i < 8) : (cellsF m a b c d i).set (4 + i) (u8v (valB ((m.take (dataF m + 8 * (i + 1))).drop (dataF m + 8 * i)))) = cellsF m a b c d (i + 1) := by
  apply List.ext_getElem
  · simp [cellsF]
  · intro n h1 h2
    rw [List.getElem_set]
    match n, h1, h2 with
    | 0, _, _ => rw [if_neg (by omega)]; rfl
    | 1, _, _ => rw [if_neg (by omega)]; rfl
    | 2, _, _ => rw [if_neg (by omega)]; rfl
    | 3, _, _ => rw [if_neg (by omega)]; rfl
    | n + 4, h1, h2 =>
      simp only [cellsF, List.getElem_cons_succ, List.getElem_map, List.getElem_range]
      by_cases hn : 4 + i = n + 4
      · have : n = i := by omega
        subst this
        rw [if_pos hn, if_pos (by omega)]
      · rw [if_neg hn]
        by_cases q : n < i
        · rw [if_pos q, if_pos (by omega)]
        · rw [if_neg q, if_neg (by omega)]
theorem cellsF_refs (m : List Bool) (a b c d : AVal) (i : Nat) (ha : refsL [a, b, c, d] = []) : refsL (cellsF m a b c d i) = [] := by
  unfold cellsF
  have : ∀ l : List Nat, refsL (l.map fun j => u8v (if j < i then valB ((m.take (dataF m + 8 * (j + 1))).drop (dataF m + 8 * j)) else 0)) = [] := by
    intro l; induction l with
    | nil => rfl
    | cons x l ihl => rw [List.map_cons, refsL, ihl]; rfl
  simp only [refsL, List.append_nil, List.append_eq_nil_iff] at ha ⊢
  exact ⟨ha.1, ha.2.1, ha.2.2.1, ha.2.2.2, this _⟩
theorem cellsF_ren (m : List Bool) (a b c d : AVal) (i : Nat) (ha : ∀ f, renL f [a, b, c, d] = [a, b, c, d]) (f : Nat → Nat) : renL f (cellsF m a b c d i) = cellsF m a b c d i := by
  unfold cellsF
  have : ∀ l : List Nat, renL f (l.map fun j => u8v (if j < i then valB ((m.take (dataF m + 8 * (j + 1))).drop (dataF m + 8 * j)) else 0)) = l.map fun j => u8v (if j < i then valB ((m.take (dataF m + 8 * (j + 1))).drop (dataF m + 8 * j)) else 0) := by
    intro l; induction l with
    | nil => rfl
    | cons x l ihl => rw [List.map_cons, renL, ihl]; rfl
  have h := ha f
  simp only [renL, List.cons.injEq, and_true] at h ⊢
  exact ⟨h.1, h.2.1, h.2.2.1, h.2.2.2, this _⟩
theorem frame_loop (m : List Bool) (nb : Nat) (hnb : nb ≤ 8) (hd : dataF m ≤ 39) (hm : dataF m + 8 * nb ≤ m.length) (hl : m.length ≤ 1000000) (nl fu : Bool) (e r : Bool) (cc z : Nat) (Z : List AVal) (a b c d : AVal) (k : List Item) (R : List AVal → Option (AVal × Heap))
    (hk : ∀ τ cs, cs.length = 12 → refsL cs = [] → (∀ f, renL f cs = cs) → lk 2 τ = .ptr 0 0 → lk 8 τ = .ptr 2 0 → finK 0 [.cell 2 true 12, .tmp 3] (run E 0 k τ [.box Z, .box (encHead e r cc (dataF m) z), .box cs]) = R cs) (hZ : refsL Z = []) (ha : refsL [a, b, c, d] = []) (hra : ∀ f, renL f [a, b, c, d] = [a, b, c, d]) :
    ∀ (q i : Nat), i + q = nb →
   finK 0 [.cell 2 true 12, .tmp 3] (run E 0 (.code L88_0 :: .inLoop [0, 2, 6, 8, 61, 62] L88_0 :: .inBlock 1 :: k) [(0, .imm nl fu true (m.map encLv)), (2, .ptr 0 0), (6, .ptr 1 0), (8, .ptr 2 0), (61, .lit (.int .i64 nb)), (62, .lit (.int .i64 i))] [.box Z, .box (encHead e r cc (dataF m) z), .box (cellsF m a b c d i)]) = R (cellsF m a b c d nb) := by
  intro q
  induction q with
  | zero =>
    intro i hi
    have : i = nb := by omega
    subst this
    simp [go_sem, run_codeL E L88_0.eq_1]
    exact hk _ _ (cellsF_length ..) (cellsF_refs _ _ _ _ _ _ ha) (cellsF_ren _ _ _ _ _ _ hra) rfl rfl
  | succ q ih =>
    intro i hi
    have hlt : i < nb := by omega
    have w := wrapIdx (i := i) (by omega)
    have ih2 := ih (i + 1) (by omega)
    rw [← cellsF_set m a b c d i (by omega)] at ih2
    have hcl := cellsF_length m a b c d i
    have hv := fvalue_spec ((m.take (dataF m + 8 * (i + 1))).drop (dataF m + 8 * i)) (by simp; omega) nl
    have hvb := valB_lt ((m.take (dataF m + 8 * (i + 1))).drop (dataF m + 8 * i))
    rw [show ((m.take (dataF m + 8 * (i + 1))).drop (dataF m + 8 * i)).length = 8 from by simp; omega] at hvb
    rw [List.map_drop, List.map_take] at hv
    have hr := rowsLv m
    have h1 : dataF m + 8 * i ≤ dataF m + 8 * (i + 1) := by omega
    have h2 : dataF m + 8 * (i + 1) ≤ m.length := by omega
    have w1 : IntKind.wrap .i64 (8 * (i : Int)) = 8 * i := wrap64 (by omega) (by omega)
    have w2 : IntKind.wrap .i64 ((dataF m : Int) + 8 * (i : Int)) = ((dataF m + 8 * i : Nat) : Int) := by rw [wrap64 (by omega) (by omega)]; omega
    have w3 : IntKind.wrap .i64 (8 * ((i : Int) + 1)) = 8 * ((i : Int) + 1) := wrap64 (by omega) (by omega)
    have w4 : IntKind.wrap .i64 ((dataF m : Int) + 8 * ((i : Int) + 1)) = ((dataF m + 8 * (i + 1) : Nat) : Int) := by rw [wrap64 (by omega) (by omega)]; omega
    have hrc := cellsF_refs m a b c d i ha
    generalize valB ((m.take (dataF m + 8 * (i + 1))).drop (dataF m + 8 * i)) = v at *
    have w5 : IntKind.wrap .u8 (v : Int) = (v : Int) := by rw [wrap8, Nat.mod_eq_of_lt (by omega)]
    generalize cellsF m a b c d nb = Cn at *
    generalize cellsF m a b c d i = cs at *
    have hi8 : i < 8 := by omega
    have hov : List.take (4 + i) cs ++ u8v v :: List.drop (4 + i + 1) cs = cs.set (4 + i) (u8v v) := by
      rw [List.set_eq_take_append_cons_drop, if_pos (by omega)]
    have hle12 : 4 + i + 1 ≤ 12 := by omega
    have hrs : refsL (cs.set (4 + i) (u8v v)) = [] := by
      have : ∀ (l : List AVal) (n : Nat), refsL l = [] → refsL (l.set n (u8v v)) = [] := by
        intro l; induction l with
        | nil => intro n _; rfl
        | cons x l ihl =>
          intro n hx
          rw [refsL, List.append_eq_nil_iff] at hx
          cases n with
          | zero => rw [List.set_cons_zero, refsL, hx.2]; rfl
          | succ n => rw [List.set_cons_succ, refsL, ihl n hx.2, hx.1]; rfl
      exact this _ _ hrc
    generalize dataF m + 8 * (i + 1) = hi1 at *
    generalize dataF m + 8 * i = lo1 at *
    simp [encHead] at ih2 w
    simp [encHead] at hk
    simp only [u8v] at hov hrs ih2
    simp [go_sem, run_codeL E L88_0.eq_1, hlt, encHead, w, w1, w2, w3, w4, w5, hr, h1, h2, hv, hi8, hcl, hov, hle12, hZ, purse_eq, List.range_succ]
    rw [run_inLoop']
    simp [go_sem, purse_eq, List.range_succ, hZ, hrs]
    exact ih2
theorem fframe_spec (m : List Bool) (h : dataF m ≤ m.length) (h2 : sumF m ≤ m.length) (h0 : m[0]? = some false) (hl : m.length ≤ 1000000) (nl fu : Bool) : call E (.func (.func 88) [] []) [.imm nl fu true (m.map encLv)] [] = some (.tup [.agg (encFr (frameOf m)), .lit (.int .i64 0)], []) := by
  rw [call_func E E88]
  obtain ⟨s1, s2, hd⟩ := sumF_ge m
  have hA := ahead_spec m h hl nl fu
  have hR := read3 m h hl nl fu
  have hr := rowsLv m
  have hlt : ¬ ((m.length : Int) < (sumF m : Int)) := by omega
  have hlt2 : ¬ (m.length < sumF m) := by omega
  have h0l : 0 < m.length := by omega
  have h0g : m[0]'h0l = false := by rw [List.getElem?_eq_getElem h0l] at h0; exact Option.some.inj h0
  have h12 : 12 ≤ m.length := by omega
  have hv1 := fun fu => fvalue_spec ((m.take 12).drop 1) (by simp; omega) nl fu
  have hb1 := valB_lt ((m.take 12).drop 1)
  rw [show ((m.take 12).drop 1).length = 11 from by simp; omega] at hb1
  rw [List.map_drop, List.map_take] at hv1
  have w1 : IntKind.wrap .i64 ((sumF m : Int) - (dataF m : Int)) = ((sumF m - dataF m : Nat) : Int) := by rw [wrap64 (by omega) (by omega)]; omega
  have w2 : IntKind.wrap .i64 ((((sumF m - dataF m : Nat) : Int)).tdiv 8) = (((sumF m - dataF m) / 8 : Nat) : Int) := by
    rw [Int.tdiv_eq_ediv_of_nonneg (by omega), wrap64 (by omega) (by omega)]; omega
  have w2' : IntKind.wrap .i64 (((sumF m - dataF m : Nat) : Int) / 8) = (((sumF m - dataF m) / 8 : Nat) : Int) := by
    rw [wrap64 (by omega) (by omega)]; omega
  have hx : extF m = true ↔ dataF m = 39 := by unfold dataF; split <;> simp_all
  have hFo : ∀ a, encFr (frameOf m) = a → a = cellsF m (.lit (.int .i64 (idF m))) (.lit (.bool (extF m))) (.lit (.bool (rtrF m))) (.lit (.int .i64 (sizeF m))) ((sumF m - dataF m) / 8) := fun a ha => by rw [← ha]; rfl
  have hE := hFo _ rfl
  rw [hE]
  clear hFo hE
  have hloop := fun a => frame_loop m ((sumF m - dataF m) / 8) (by omega) (by omega) (by omega) hl nl fu (extF m) (rtrF m) (ctrlF m) (sizeF m) (encFr Fr.zero) a (.lit (.bool (extF m))) (.lit (.bool (rtrF m))) (.lit (.int .i64 (sizeF m)))
  have wq0 : IntKind.wrap .u8 0 = 0 := rfl
  have hc0 : ∀ a b c d, cellsF m a b c d 0 = [a, b, c, d, u8v 0, u8v 0, u8v 0, u8v 0, u8v 0, u8v 0, u8v 0, u8v 0] := by
    intro a b c d
    simp [cellsF, List.range_succ]
  have hcl := cellsF_length m (.lit (.int .i64 (idF m))) (.lit (.bool (extF m))) (.lit (.bool (rtrF m))) (.lit (.int .i64 (sizeF m))) ((sumF m - dataF m) / 8)
  by_cases hxx : extF m = true
  · have h39 := hx.1 hxx
    have h32 : 32 ≤ m.length := by omega
    have hv2 := fun fu => fvalue_spec ((m.take 32).drop 14) (by simp; omega) nl fu
    have hb2 := valB_lt ((m.take 32).drop 14)
    rw [show ((m.take 32).drop 14).length = 18 from by simp; omega] at hb2
    rw [List.map_drop, List.map_take] at hv2
    have w3 : IntKind.wrap .i64 ((valB ((m.take 12).drop 1) : Int) * 262144) = ((valB ((m.take 12).drop 1) * 262144 : Nat) : Int) := by rw [wrap64 (by omega) (by omega)]; omega
    have ho := ior_i64_add (x := valB ((m.take 12).drop 1)) (y := valB ((m.take 32).drop 14)) (by omega) hb2
    have hid : idF m = valB ((m.take 12).drop 1) * 262144 + valB ((m.take 32).drop 14) := by unfold idF; rw [if_pos hxx]
    rw [hid] at hcl ⊢
    have hloop := fun k hk => hloop (.lit (.int .i64 ((valB ((m.take 12).drop 1) * 262144 + valB ((m.take 32).drop 14) : Nat) : Int))) k (fun cs => some (.tup [.agg cs, .lit (.int .i64 0)], [])) hk rfl rfl (fun _ => rfl) ((sumF m - dataF m) / 8) 0 (by omega)
    simp only [hc0] at hloop
    generalize valB ((m.take 12).drop 1) * 262144 + valB ((m.take 32).drop 14) = idv at *
    generalize valB ((m.take 12).drop 1) * 262144 = idu at *
    generalize valB ((m.take 12).drop 1) = ida at *
    generalize valB ((m.take 32).drop 14) = idb at *
    generalize (sumF m - dataF m) / 8 = nb at *
    generalize sumF m - dataF m = sd at *
    simp only [encFr, Fr.zero, encHead, hxx, u8v] at hR hloop ⊢
    simp [hxx] at hloop
    simp only [List.drop_one] at hv1
    simp [go_sem, ir88, hA, hR, hr, hlt2, hxx, h32, h0, h0g, encLv, lv, h12, hv1, w1, w2, w2', hv2, w3, ho,  purse_eq, List.range_succ]
    rw [run_inLoop']
    simp [go_sem, purse_eq, List.range_succ]
    refine hloop _ ?_
    intro τ cs hcs hrcs hrn t2 t8
    have htk : List.take 12 cs = cs := List.take_of_length_le (by omega)
    simp [go_sem, t2, t8, hcs, hrcs, htk, hrn, purse_eq, List.range_succ]
  · have hid : idF m = valB ((m.take 12).drop 1) := by unfold idF; rw [if_neg hxx]
    have hxx : extF m = false := by simpa using hxx
    rw [hid] at hcl ⊢
    have hloop := fun k hk => hloop (.lit (.int .i64 (valB ((m.take 12).drop 1) : Int))) k (fun cs => some (.tup [.agg cs, .lit (.int .i64 0)], [])) hk rfl rfl (fun _ => rfl) ((sumF m - dataF m) / 8) 0 (by omega)
    simp only [hc0] at hloop
    generalize valB ((m.take 12).drop 1) = ida at *
    generalize (sumF m - dataF m) / 8 = nb at *
    generalize sumF m - dataF m = sd at *
    simp only [encFr, Fr.zero, encHead, hxx, u8v] at hR hloop ⊢
    simp [hxx] at hloop
    simp only [List.drop_one] at hv1
    simp [go_sem, ir88, hA, hR, hr, hlt2, hxx, h0, h0g, encLv, lv, h12, hv1, w1, w2, w2',  purse_eq, List.range_succ]
    rw [run_inLoop']
    simp [go_sem, purse_eq, List.range_succ]
    refine hloop _ ?_
    intro τ cs hcs hrcs hrn t2 t8
    have htk : List.take 12 cs = cs := List.take_of_length_le (by omega)
    simp [go_sem, t2, t8, hcs, hrcs, htk, hrn, purse_eq, List.range_succ]
end Go.AM.R1
open Go Go.AM
namespace Go.AM.R1
/-! ### A watcher -/
structure Wt where
  raw : List Bool
  last : Bool
  run : Nat
  acked : Bool
  tick : Nat
  ones : Nat
  on : Bool
  frm : Nat
def Wt.cells (w : Wt) (rv : AVal) : List AVal := [rv, .lit (.int .i64 (lv w.last)), .lit (.int .i64 w.run), .lit (.bool w.acked), .lit (.int .i64 w.tick), .lit (.int .i64 w.ones), .lit (.bool w.on), .lit (.int .i64 w.frm)]
def wH (lk : Bool) (w : Wt) : Heap := if w.raw = [] then [.box (w.cells nilS)] else [.box (w.cells (.own 1 w.raw.length 1 0 w.raw.length)), .arr true lk false 1 (w.raw.map encLv)]
/-- What a level is to a frame, and the taker behind it. -/
def takeP (w : Wt) (b : Bool) : Nat × Wt :=
  if w.run = 5 then (if b = w.last then (1, w) else (0, { w with last := b, run := 1 }))
  else
    let kind := (nextF w.raw).1
    let w1 := if 4 < kind then { w with run := 0 } else if 0 < w.run ∧ b = w.last then { w with run := w.run + 1 } else { w with last := b, run := 1 }
    if kind = 6 then (0, { w1 with acked := !b, raw := w.raw ++ [b] })
    else if (kind = 5 ∧ rightF w.raw = false) ∨ (4 < kind ∧ b = false) then (1, w1)
    else if kind = 8 ∧ (nextF w.raw).2 = 5 then (2, w1)
    else (0, { w1 with raw := w.raw ++ [b] })
def RawOk (m : List Bool) : Prop := m.length ≤ 1000 ∧ (dataF m ≤ m.length → m.length ≤ sumF m + 25)
theorem fnext_spec (m : List Bool) (h : RawOk m) (nl fu : Bool) : call E (.func (.func 113) [] []) [.imm nl fu true (m.map encLv)] [] = some (.tup [.lit (.int .i64 (nextF m).1), .lit (.int .i64 (nextF m).2), .lit (.int .i64 0)], []) := by
  rcases Nat.lt_or_ge m.length (dataF m) with q | q
  · exact next_small m q nl fu
  · exact next_whole m q (h.2 q) nl fu
theorem nextF_five {m : List Bool} (h : (nextF m).1 = 5) : dataF m ≤ m.length ∧ m.length = sumF m + 15 := by
  unfold nextF at h
  split at h; · simp at h
  split at h; · simp at h
  split at h; · simp at h
  split at h; · simp at h
  split at h; · simp at h
  split at h
  · have := (sumF_ge m).1; omega
  split at h; · simp at h
  split at h; · simp at h
  split at h; · simp at h
  simp at h
theorem nextF_le (m : List Bool) : (nextF m).1 ≤ 9 := by
  unfold nextF
  repeat (first | split | omega)
set_option maxHeartbeats 4000000 in
theorem take_nil (w : Wt) (hw : w.raw = []) (hr : w.run ≤ 5) (b lk : Bool) :
    call E (.func (.func 87) [] []) [.ptr 0 0, .lit (.int .i64 (lv b))] (wH lk w) = some (.lit (.int .i64 (takeP w b).1), wH false (takeP w b).2) := by
  rw [call_func E E87]
  obtain ⟨raw, last, run, acked, tick, ones, on, frm⟩ := w
  simp only [] at hw hr
  subst hw
  have hN := fnext_spec [] ⟨by simp, by simp [dataF]⟩ true true
  rw [show nextF [] = (0, 0) from rfl] at hN
  simp at hN
  have w1 : IntKind.wrap .i64 ((run : Int) + 1) = run + 1 := wrap64 (by omega) (by omega)
  by_cases h5 : run = 5
  · subst h5
    cases b <;> cases last <;> simp [go_sem, ir87, takeP, wH, Wt.cells, nilS, lv, purse_eq, List.range_succ]
  · by_cases h0 : run = 0
    · subst h0
      cases b <;> simp [go_sem, ir87, takeP, wH, Wt.cells, nilS, lv, hN, show nextF [] = (0, 0) from rfl, encLv, rowsOk, purse_eq, List.range_succ]
    · have h0' : 0 < run := by omega
      have h5i : ¬ (run : Int) = 5 := by omega
      have h0i : (0 : Int) < run := by omega
      cases b <;> cases last <;> simp [go_sem, ir87, takeP, wH, Wt.cells, nilS, lv, hN, show nextF [] = (0, 0) from rfl, h5, h5i, h0, h0', h0i, w1, encLv, rowsOk, purse_eq, List.range_succ]
set_option maxHeartbeats 16000000 in
theorem take_own (w : Wt) (hraw : w.raw ≠ []) (hok : RawOk w.raw) (hr : w.run ≤ 5) (b lk : Bool) : ∃ lk',
    call E (.func (.func 87) [] []) [.ptr 0 0, .lit (.int .i64 (lv b))] (wH lk w) = some (.lit (.int .i64 (takeP w b).1), wH lk' (takeP w b).2) := by
  rw [call_func E E87]
  obtain ⟨raw, last, run, acked, tick, ones, on, frm⟩ := w
  simp only [] at hraw hok hr
  have w1 : IntKind.wrap .i64 ((run : Int) + 1) = run + 1 := wrap64 (by omega) (by omega)
  have hbb : ¬ (70368744177664 < (raw.length + 1) * 8) := by have := hok.1; omega
  have hrl := rowsLv raw
  by_cases h5 : run = 5
  · subst h5
    refine ⟨lk, ?_⟩
    cases b <;> cases last <;> simp [go_sem, ir87, takeP, wH, Wt.cells, nilS, lv, hraw, purse_eq, List.range_succ]
  · have h5i : ¬ (run : Int) = 5 := by omega
    have hN := fun f => fnext_spec raw hok false f
    have hN1 := hN false
    have hfive := @nextF_five raw
    have h9 := nextF_le raw
    have hR := fun (h : (nextF raw).1 = 5) => fright_spec raw (hfive h).1 (by have := (hfive h).2; omega) (by have := hok.1; omega) false
    refine ⟨true, ?_⟩
    unfold takeP
    simp only [if_neg h5]
    generalize nextF raw = nx at *
    obtain ⟨kind, k⟩ := nx
    simp only [] at hN1 hfive h9 hR ⊢
    clear hN hfive
    have hra : raw ++ [b] ≠ [] := by simp
    by_cases k4 : 4 < kind
    · have k4i : (4 : Int) < kind := by omega
      by_cases k6 : kind = 6
      · subst k6
        cases b <;> simp [go_sem, ir87, wH, Wt.cells, nilS, lv, hN1, hraw, h5i, hbb, hrl, encLv, rowsOk, purse_eq, List.range_succ]
      · have k6i : ¬ (kind : Int) = 6 := by omega
        by_cases k5 : kind = 5
        · subst k5
          have hR := hR rfl
          have hR1 := hR false
          clear hR
          generalize rightF raw = rt at *
          cases rt <;> cases b <;> simp [go_sem, ir87, wH, Wt.cells, nilS, lv, hN1, hR1, hraw, h5i, hbb, hrl, encLv, rowsOk, purse_eq, List.range_succ]
        · have k5i : ¬ (kind : Int) = 5 := by omega
          clear hR
          by_cases k8 : kind = 8
          · subst k8
            by_cases kk : k = 5
            · subst kk
              cases b <;> simp [go_sem, ir87, wH, Wt.cells, nilS, lv, hN1, hraw, h5i, hbb, hrl, encLv, rowsOk, purse_eq, List.range_succ]
            · have kki : ¬ (k : Int) = 5 := by omega
              cases b <;> simp [go_sem, ir87, wH, Wt.cells, nilS, lv, hN1, hraw, h5i, kk, kki, hbb, hrl, encLv, rowsOk, purse_eq, List.range_succ]
          · have k8i : ¬ (kind : Int) = 8 := by omega
            cases b <;> simp [go_sem, ir87, wH, Wt.cells, nilS, lv, hN1, hraw, h5i, k4, k4i, k5, k5i, k6, k6i, k8, k8i, hbb, hrl, encLv, rowsOk, purse_eq, List.range_succ]
    · have k4i : ¬ (4 : Int) < kind := by omega
      have k5i : ¬ (kind : Int) = 5 := by omega
      have k6i : ¬ (kind : Int) = 6 := by omega
      have k8i : ¬ (kind : Int) = 8 := by omega
      have k5 : ¬ kind = 5 := by omega
      have k6 : ¬ kind = 6 := by omega
      have k8 : ¬ kind = 8 := by omega
      clear hR
      by_cases h0 : run = 0
      · subst h0
        cases b <;> simp [go_sem, ir87, wH, Wt.cells, nilS, lv, hN1, hraw, k4, k4i, k5, k5i, k6, k6i, k8, k8i, hbb, hrl, encLv, rowsOk, purse_eq, List.range_succ]
      · have h0' : 0 < run := by omega
        have h0i : (0 : Int) < run := by omega
        cases b <;> cases last <;> simp [go_sem, ir87, wH, Wt.cells, nilS, lv, hN1, hraw, h5i, h0, h0', h0i, w1, k4, k4i, k5, k5i, k6, k6i, k8, k8i, hbb, hrl, encLv, rowsOk, purse_eq, List.range_succ]
end Go.AM.R1
open Go Go.AM
namespace Go.AM.R1
structure Sg where
  kind : Nat
  frm : Nat
  to : Nat
  frame : Fr
  acked : Bool
  deriving DecidableEq
def encSg (s : Sg) : List AVal := [.lit (.int .i64 s.kind), .lit (.int .i64 s.frm), .lit (.int .i64 s.to), .lit (.int .i64 s.frame.id), .lit (.bool s.frame.ext), .lit (.bool s.frame.rtr), .lit (.int .i64 s.frame.len), u8v s.frame.d0, u8v s.frame.d1, u8v s.frame.d2, u8v s.frame.d3, u8v s.frame.d4, u8v s.frame.d5, u8v s.frame.d6, u8v s.frame.d7, .lit (.bool s.acked)]
def startP (w : Wt) (b : Bool) : Wt := if w.on = false ∧ b = false ∧ 10 ≤ w.ones then { w with on := true, frm := w.tick, raw := [], last := false, run := 0, acked := false } else w
def countP (w : Wt) (b : Bool) : Wt := { w with ones := if b = true then w.ones + 1 else 0, tick := w.tick + 1 }
def endP (r : Nat × Wt) : Option Sg × Wt :=
  if r.1 = 0 then (none, r.2)
  else if r.1 = 2 then (some ⟨1, r.2.frm, r.2.tick, frameOf r.2.raw, r.2.acked⟩, { r.2 with on := false })
  else (some ⟨2, r.2.frm, r.2.tick, Fr.zero, false⟩, { r.2 with on := false })
def seeP (w : Wt) (b : Bool) : Option Sg × Wt :=
  if (startP w b).on = false then (none, countP (startP w b) b) else endP (takeP (countP (startP w b) b) b)
structure WOk (w : Wt) : Prop where
  run : w.run ≤ 5
  tick : w.tick ≤ 1000000
  ones : w.ones ≤ 1000000
  raw : w.on = true → w.raw ≠ [] ∧ w.raw[0]? = some false ∧ RawOk w.raw
/-- Nothing is on, and nothing begins. -/
theorem see_A (w : Wt) (h : WOk w) (b lk : Bool) (hon : w.on = false) (hst : ¬ (b = false ∧ 10 ≤ w.ones)) :
    call E (.func (.func 48) [] []) [.ptr 0 0, .lit (.int .i64 (lv b))] (wH lk w) = some (.tup [nilS, .lit (.int .i64 0)], wH lk (seeP w b).2) := by
  rw [call_func E E48]
  obtain ⟨h1, h2, h3, h4⟩ := h
  obtain ⟨raw, last, run, acked, tick, ones, on, frm⟩ := w
  simp only [] at h1 h2 h3 hon hst
  subst hon
  have w1 : IntKind.wrap .i64 ((ones : Int) + 1) = ones + 1 := wrap64 (by omega) (by omega)
  have w2 : IntKind.wrap .i64 ((tick : Int) + 1) = tick + 1 := wrap64 (by omega) (by omega)
  by_cases hr : raw = []
  · cases b
    · have ho : ¬ 10 ≤ ones := fun q => hst ⟨rfl, q⟩
      have hoi : ¬ (10 : Int) ≤ ones := by omega
      simp [go_sem, ir48, seeP, startP, countP, endP, wH, Wt.cells, nilS, lv, hr, ho, hoi, w1, w2, purse_eq, List.range_succ]
    · simp [go_sem, ir48, seeP, startP, countP, endP, wH, Wt.cells, nilS, lv, hr, w1, w2, purse_eq, List.range_succ]
  · cases b
    · have ho : ¬ 10 ≤ ones := fun q => hst ⟨rfl, q⟩
      have hoi : ¬ (10 : Int) ≤ ones := by omega
      simp [go_sem, ir48, seeP, startP, countP, endP, wH, Wt.cells, nilS, lv, hr, ho, hoi, w1, w2, purse_eq, List.range_succ]
    · simp [go_sem, ir48, seeP, startP, countP, endP, wH, Wt.cells, nilS, lv, hr, w1, w2, purse_eq, List.range_succ]
/-- A frame begins. -/
theorem see_B (w : Wt) (h : WOk w) (lk : Bool) (hon : w.on = false) (hst : 10 ≤ w.ones) :
    call E (.func (.func 48) [] []) [.ptr 0 0, .lit (.int .i64 (lv false))] (wH lk w) = some (.tup [nilS, .lit (.int .i64 0)], if w.raw = [] then wH false (seeP w false).2 else [.box ((seeP w false).2.cells (.own 2 1 1 0 1)), .arr true lk false 1 (w.raw.map encLv), .arr true false false 1 [encLv false]]) := by
  rw [call_func E E48]
  obtain ⟨h1, h2, h3, h4⟩ := h
  obtain ⟨raw, last, run, acked, tick, ones, on, frm⟩ := w
  simp only [] at h1 h2 h3 hon hst
  subst hon
  have w1 : IntKind.wrap .i64 ((ones : Int) + 1) = ones + 1 := wrap64 (by omega) (by omega)
  have w2 : IntKind.wrap .i64 ((tick : Int) + 1) = tick + 1 := wrap64 (by omega) (by omega)
  have hoi : (10 : Int) ≤ ones := by omega
  have hT := take_nil ⟨[], false, 0, false, tick + 1, 0, true, tick⟩ rfl (by simp) false false
  simp [takeP, wH, Wt.cells, nilS, lv, show nextF [] = (0, 0) from rfl] at hT
  by_cases hr : raw = []
  · simp [go_sem, ir48, seeP, startP, countP, endP, takeP, show nextF [] = (0, 0) from rfl, wH, Wt.cells, nilS, lv, hr, hst, hoi, w1, w2, hT, purse_eq, List.range_succ]
  · simp [go_sem, ir48, seeP, startP, countP, endP, takeP, show nextF [] = (0, 0) from rfl, wH, Wt.cells, nilS, lv, hr, hst, hoi, w1, w2, hT, purse_eq, List.range_succ]
theorem nextF_eight {m : List Bool} (h : (nextF m).1 = 8) : dataF m ≤ m.length ∧ sumF m + 18 ≤ m.length ∧ (nextF m).2 = m.length - (sumF m + 18) := by
  unfold nextF at h ⊢
  split at h; · simp at h
  split at h; · simp at h
  split at h; · simp at h
  split at h; · simp at h
  split at h; · simp at h
  split at h; · simp at h
  split at h; · simp at h
  split at h; · simp at h
  split at h
  · rename_i q1 q2 q3 q4 q5 q6 q7 q8 q9
    rw [if_neg q1, if_neg q2, if_neg q3, if_neg q4, if_neg q5, if_neg q6, if_neg q7, if_neg q8, if_pos q9]
    exact ⟨by omega, by omega, rfl⟩
  · simp at h
theorem takeP_two {w : Wt} {b : Bool} (h : (takeP w b).1 = 2) : (takeP w b).2.raw = w.raw ∧ dataF w.raw ≤ w.raw.length ∧ w.raw.length = sumF w.raw + 23 := by
  unfold takeP at h ⊢
  split at h
  · split at h <;> simp at h
  · rename_i q1
    simp only [if_neg q1]
    simp only [] at h
    split at h; · simp at h
    split at h; · simp at h
    rename_i q2 q3
    rw [if_neg q2, if_neg q3]
    split at h
    · rename_i q4
      rw [if_pos q4]
      have := nextF_eight q4.1
      refine ⟨?_, this.1, by omega⟩
      simp only []
      split
      · rfl
      · split <;> rfl
    · simp at h
theorem takeP_raw (w : Wt) (b : Bool) (h : w.raw ≠ []) : (takeP w b).2.raw ≠ [] := by
  unfold takeP
  split
  · split <;> exact h
  · simp only []
    split
    · simp
    · split
      · split
        · exact h
        · split <;> exact h
      · split
        · split
          · exact h
          · split <;> exact h
        · simp
theorem takeP_le (w : Wt) (b : Bool) : (takeP w b).1 = 0 ∨ (takeP w b).1 = 1 ∨ (takeP w b).1 = 2 := by
  unfold takeP
  split
  · split <;> simp
  · simp only []
    split
    · simp
    · split
      · simp
      · split <;> simp
theorem takeP_keep (w : Wt) (b : Bool) : (takeP w b).2.frm = w.frm ∧ (takeP w b).2.tick = w.tick ∧ (takeP w b).2.on = w.on ∧ (takeP w b).2.ones = w.ones := by
  have h1 : ∀ (c d : Prop) [Decidable c] [Decidable d] (x y z : Wt), (x.frm = w.frm ∧ x.tick = w.tick ∧ x.on = w.on ∧ x.ones = w.ones) → (y.frm = w.frm ∧ y.tick = w.tick ∧ y.on = w.on ∧ y.ones = w.ones) → (z.frm = w.frm ∧ z.tick = w.tick ∧ z.on = w.on ∧ z.ones = w.ones) →
      ((if c then x else if d then y else z).frm = w.frm ∧ (if c then x else if d then y else z).tick = w.tick ∧ (if c then x else if d then y else z).on = w.on ∧ (if c then x else if d then y else z).ones = w.ones) := by
    intro c d _ _ x y z hx hy hz
    split
    · exact hx
    · split
      · exact hy
      · exact hz
  unfold takeP
  split
  · split <;> exact ⟨rfl, rfl, rfl, rfl⟩
  · simp only []
    split
    · exact h1 _ _ _ _ _ ⟨rfl, rfl, rfl, rfl⟩ ⟨rfl, rfl, rfl, rfl⟩ ⟨rfl, rfl, rfl, rfl⟩
    · split
      · exact h1 _ _ _ _ _ ⟨rfl, rfl, rfl, rfl⟩ ⟨rfl, rfl, rfl, rfl⟩ ⟨rfl, rfl, rfl, rfl⟩
      · split
        · exact h1 _ _ _ _ _ ⟨rfl, rfl, rfl, rfl⟩ ⟨rfl, rfl, rfl, rfl⟩ ⟨rfl, rfl, rfl, rfl⟩
        · exact h1 _ _ _ _ _ ⟨rfl, rfl, rfl, rfl⟩ ⟨rfl, rfl, rfl, rfl⟩ ⟨rfl, rfl, rfl, rfl⟩
/-- A frame is on. -/
theorem see_C (w : Wt) (h : WOk w) (b lk : Bool) (hon : w.on = true) : ∃ lk',
    call E (.func (.func 48) [] []) [.ptr 0 0, .lit (.int .i64 (lv b))] (wH lk w) = some (.tup [match (seeP w b).1 with | none => nilS | some _ => .own 2 1 16 0 1, .lit (.int .i64 0)], wH lk' (seeP w b).2 ++ match (seeP w b).1 with | none => [] | some s => [.arr true false true 16 [encSg s]]) := by
  obtain ⟨h1, h2, h3, h4⟩ := h
  obtain ⟨hr, hr0, hok⟩ := h4 hon
  have hst : startP w b = w := by unfold startP; rw [if_neg (by rw [hon]; simp)]
  have hse : seeP w b = endP (takeP (countP w b) b) := by unfold seeP; rw [hst, if_neg (by rw [hon]; simp)]
  obtain ⟨lk', hT⟩ := take_own (countP w b) hr hok h1 b lk
  have htwo := @takeP_two (countP w b) b
  have htr := takeP_raw (countP w b) b hr
  have htl := takeP_le (countP w b) b
  have hkp := takeP_keep (countP w b) b
  have hfr := fun (q : (takeP (countP w b) b).1 = 2) fu => fframe_spec (takeP (countP w b) b).2.raw (by rw [(htwo q).1]; exact (htwo q).2.1) (by rw [(htwo q).1]; have := (htwo q).2.2; omega) (by rw [(htwo q).1]; exact hr0) (by rw [(htwo q).1]; have := hok.1; exact Nat.le_trans this (by omega)) false fu
  rw [hse]
  have hwc : (countP w b) = countP w b := rfl
  clear htwo hse hst
  have w1 : IntKind.wrap .i64 ((w.ones : Int) + 1) = w.ones + 1 := wrap64 (by omega) (by omega)
  have w2 : IntKind.wrap .i64 ((w.tick : Int) + 1) = w.tick + 1 := wrap64 (by omega) (by omega)
  have hcr : (countP w b).raw = w.raw := rfl
  rw [show wH lk (countP w b) = [.box ((countP w b).cells (.own 1 w.raw.length 1 0 w.raw.length)), .arr true lk false 1 (w.raw.map encLv)] from by unfold wH; rw [if_neg (by rw [hcr]; exact hr), hcr]] at hT
  rw [show wH lk w = [.box (w.cells (.own 1 w.raw.length 1 0 w.raw.length)), .arr true lk false 1 (w.raw.map encLv)] from by unfold wH; rw [if_neg hr]]
  generalize takeP (countP w b) b = t at *
  obtain ⟨e, w3⟩ := t
  simp only [] at hT htr htl hfr hkp
  rw [show wH lk' w3 = [.box (w3.cells (.own 1 w3.raw.length 1 0 w3.raw.length)), .arr true lk' false 1 (w3.raw.map encLv)] from by unfold wH; rw [if_neg htr]] at hT
  obtain ⟨raw, last, run, acked, tick, ones, on, frm⟩ := w
  obtain ⟨raw3, last3, run3, acked3, tick3, ones3, on3, frm3⟩ := w3
  simp only [] at h1 h2 h3 hon hr w1 w2 htr hT hfr
  subst hon
  obtain ⟨p1, p2, p3, p4⟩ := hkp
  simp only [countP] at p1 p2 p3 p4
  subst p1 p2 p3 p4
  rw [call_func E E48]
  simp only [endP]
  rcases htl with rfl | rfl | rfl
  · refine ⟨lk', ?_⟩
    cases b <;> simp [countP, Wt.cells, nilS, lv] at hT <;> simp [go_sem, ir48, wH, Wt.cells, nilS, lv, w1, w2, hT, htr, purse_eq, List.range_succ]
  · refine ⟨lk', ?_⟩
    cases b <;> simp [countP, Wt.cells, nilS, lv] at hT <;> simp [go_sem, ir48, wH, Wt.cells, nilS, lv, w1, w2, hT, htr, encSg, Fr.zero, u8v, purse_eq, List.range_succ]
  · have hfr := hfr rfl
    have hfr1 := hfr false
    refine ⟨true, ?_⟩
    simp [encFr, u8v] at hfr1
    cases b <;> simp [countP, Wt.cells, nilS, lv] at hT <;> simp [go_sem, ir48, wH, Wt.cells, nilS, lv, w1, w2, hT, htr, hfr1, encSg, u8v, purse_eq, List.range_succ]
end Go.AM.R1
