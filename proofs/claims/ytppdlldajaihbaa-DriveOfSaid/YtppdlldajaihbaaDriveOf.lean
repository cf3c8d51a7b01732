/- The law DriveOf of package magnetolaw22 returns true for every input, and its arguments read as before. -/
import Derived.Test.YtppdlldajaihbaaRows
import Derived.Test.YtppdlldajaihbaaAm3
import Derived.ProofKit
set_option linter.unusedVariables false
set_option linter.unusedSimpArgs false
open Go Go.AM Go.Proofs
namespace Go.AM.R1
/- magnetolaw22.DriveOf -/
def ir7 : IFn := ⟨(.seq (.reg [⟨none, some 6, .copy (.c (.lit (.bool false)))⟩] [] []) (.seq (.seq (.reg [⟨none, some 11, .copy (.t 0)⟩, ⟨none, some 12, .call 41 [(.t 11)]⟩, ⟨none, some 13, .un .not (.t 12)⟩] [] []) (.cond (.t 13) (.seq (.reg [⟨none, some 14, .call 33 []⟩, ⟨none, some 6, .copy (.t 14)⟩] [] []) .ret) .skip)) (.seq (.reg [⟨none, some 16, .copy (.t 0)⟩, ⟨none, some 17, .copy (.t 1)⟩, ⟨none, some 18, .copy (.t 2)⟩, ⟨none, some 19, .call 42 [(.t 16), (.t 17), (.t 18)]⟩, ⟨none, some 15, .copy (.t 19)⟩, ⟨none, some 20, .extract (.t 15) 0⟩, ⟨none, some 21, .extract (.t 15) 1⟩, ⟨none, some 7, .alloc [(.lit (.int .i64 0)), (.lit (.int .i64 0)), nilS]⟩, ⟨none, none, .store 3 (.t 7) (.t 20)⟩, ⟨none, some 8, .copy (.t 21)⟩] [] []) (.seq (.reg [⟨none, some 23, .copy (.t 0)⟩, ⟨none, some 24, .copy (.t 1)⟩, ⟨none, some 25, .call 43 [(.t 23), (.t 24)]⟩, ⟨none, some 22, .copy (.t 25)⟩, ⟨none, some 26, .extract (.t 22) 0⟩, ⟨none, some 27, .extract (.t 22) 1⟩, ⟨none, some 9, .copy (.t 26)⟩, ⟨none, some 10, .copy (.t 27)⟩] [] []) (.seq (.seq (.reg [⟨none, some 28, .copy (.t 10)⟩, ⟨none, some 29, .bin .neq (.t 28) (.c (.lit (.int .i64 0)))⟩] [] []) (.cond (.t 29) (.seq (.reg [⟨none, some 30, .load true 3 (.t 7)⟩, ⟨none, some 31, .build [(.lit (.int .i64 0)), (.lit (.int .i64 0)), nilS] []⟩, ⟨none, some 32, .call 44 [(.t 30), (.t 31)]⟩, ⟨none, some 33, .copy (.t 32)⟩, ⟨some (33, true), some 34, .copy (.t 8)⟩, ⟨some (33, true), some 35, .copy (.t 10)⟩, ⟨some (33, true), some 36, .bin .eql (.t 34) (.t 35)⟩, ⟨none, some 37, .pick (.t 33) (.t 36) (.c (.lit (.bool false)))⟩, ⟨none, some 38, .copy (.t 37)⟩, ⟨some (38, true), some 39, .call 33 []⟩, ⟨none, some 40, .pick (.t 38) (.t 39) (.c (.lit (.bool false)))⟩, ⟨none, some 6, .copy (.t 40)⟩] [] []) .ret) .skip)) (.seq (.seq (.reg [⟨none, some 41, .copy (.t 2)⟩, ⟨none, some 42, .bin .lss (.t 41) (.c (.lit (.int .i64 0)))⟩, ⟨none, some 43, .copy (.t 42)⟩, ⟨some (43, false), some 44, .copy (.t 2)⟩, ⟨some (43, false), some 45, .copy (.t 9)⟩, ⟨some (43, false), some 46, .len (.t 45)⟩, ⟨some (43, false), some 47, .bin .gtr (.t 44) (.t 46)⟩, ⟨none, some 48, .pick (.t 43) (.c (.lit (.bool true))) (.t 47)⟩] [] []) (.cond (.t 48) (.seq (.reg [⟨none, some 49, .load true 3 (.t 7)⟩, ⟨none, some 50, .build [(.lit (.int .i64 0)), (.lit (.int .i64 0)), nilS] []⟩, ⟨none, some 51, .call 44 [(.t 49), (.t 50)]⟩, ⟨none, some 52, .copy (.t 51)⟩, ⟨some (52, true), some 53, .copy (.t 8)⟩, ⟨some (52, true), some 54, .bin .eql (.t 53) (.c (.lit (.int .i64 10)))⟩, ⟨none, some 55, .pick (.t 52) (.t 54) (.c (.lit (.bool false)))⟩, ⟨none, some 56, .copy (.t 55)⟩, ⟨some (56, true), some 57, .call 33 []⟩, ⟨none, some 58, .pick (.t 56) (.t 57) (.c (.lit (.bool false)))⟩, ⟨none, some 6, .copy (.t 58)⟩] [] []) .ret) .skip)) (.seq (.reg [⟨none, some 59, .copy (.t 8)⟩, ⟨none, some 60, .bin .eql (.t 59) (.c (.lit (.int .i64 0)))⟩, ⟨none, some 61, .copy (.t 60)⟩, ⟨some (61, true), some 62, .load true 3 (.t 7)⟩, ⟨some (61, true), some 63, .copy (.t 1)⟩, ⟨some (61, true), some 64, .copy (.t 2)⟩, ⟨some (61, true), some 65, .copy (.t 9)⟩, ⟨some (61, true), some 66, .copy (.t 2)⟩, ⟨some (61, true), some 67, .slice 1 (.t 65) (some (.t 66)) none none⟩, ⟨some (61, true), some 68, .call 45 [(.t 67)]⟩, ⟨some (61, true), some 69, .build [(.lit (.int .i64 0)), (.lit (.int .i64 0)), nilS] [(0, 1, (.t 63)), (1, 1, (.t 64)), (2, 1, (.t 68))]⟩, ⟨some (61, true), some 70, .call 44 [(.t 62), (.t 69)]⟩, ⟨none, some 71, .pick (.t 61) (.t 70) (.c (.lit (.bool false)))⟩, ⟨none, some 72, .copy (.t 71)⟩, ⟨some (72, true), some 73, .call 33 []⟩, ⟨none, some 74, .pick (.t 72) (.t 73) (.c (.lit (.bool false)))⟩, ⟨none, some 6, .copy (.t 74)⟩] [(3, 9)] []) .ret))))))), [.tmp 6]⟩
/- magnetolaw22.awake -/
def ir33 : IFn := ⟨(.seq (.reg [⟨none, some 0, .copy (.c (.lit (.bool false)))⟩] [] []) (.seq (.reg [⟨none, some 6, .build [(.lit (.int .i64 0)), (.lit (.int .i64 0)), (.lit (.int .u32 0))] [(0, 1, (.c (.lit (.int .i64 2)))), (1, 1, (.c (.lit (.int .i64 1)))), (2, 1, (.c (.lit (.int .u32 4294967295))))]⟩, ⟨none, some 7, .build [(.lit (.int .i64 0)), (.lit (.int .i64 0)), (.lit (.int .u32 0))] [(0, 1, (.c (.lit (.int .i64 3)))), (2, 1, (.c (.lit (.int .u32 4294967293))))]⟩, ⟨none, some 8, .mkSlice true 3 [(.lit (.int .i64 0)), (.lit (.int .i64 0)), (.lit (.int .u32 0))] 2 [(0, (.t 6)), (1, (.t 7))]⟩, ⟨none, some 9, .call 42 [(.t 8), (.c (.lit (.int .i64 1))), (.c (.lit (.int .i64 1)))]⟩, ⟨none, some 5, .copy (.t 9)⟩, ⟨none, some 10, .extract (.t 5) 0⟩, ⟨none, some 11, .extract (.t 5) 1⟩, ⟨none, some 1, .alloc [(.lit (.int .i64 0)), (.lit (.int .i64 0)), nilS]⟩, ⟨none, none, .store 3 (.t 1) (.t 10)⟩, ⟨none, some 2, .copy (.t 11)⟩] [] []) (.seq (.reg [⟨none, some 13, .build [(.lit (.int .i64 0)), (.lit (.bool false)), (.lit (.bool false)), (.lit (.int .i64 0)), (.lit (.int .u8 0)), (.lit (.int .u8 0)), (.lit (.int .u8 0)), (.lit (.int .u8 0)), (.lit (.int .u8 0)), (.lit (.int .u8 0)), (.lit (.int .u8 0)), (.lit (.int .u8 0))] []⟩, ⟨none, some 14, .call 46 [(.c (.lit (.int .i64 3))), (.c (.lit (.int .i64 10))), (.t 13)]⟩, ⟨none, some 12, .copy (.t 14)⟩, ⟨none, some 15, .extract (.t 12) 0⟩, ⟨none, some 16, .extract (.t 12) 1⟩, ⟨none, some 3, .alloc [(.lit (.int .i64 0)), (.lit (.int .i64 0)), nilS]⟩, ⟨none, none, .store 3 (.t 3) (.t 15)⟩, ⟨none, some 4, .copy (.t 16)⟩] [] []) (.seq (.reg [⟨none, some 17, .copy (.t 2)⟩, ⟨none, some 18, .bin .eql (.t 17) (.c (.lit (.int .i64 0)))⟩, ⟨none, some 19, .copy (.t 18)⟩, ⟨some (19, true), some 20, .load true 3 (.t 1)⟩, ⟨some (19, true), some 21, .build [(.lit (.int .i64 0)), (.lit (.int .i64 0)), (.lit (.int .u32 0))] [(0, 1, (.c (.lit (.int .i64 1)))), (1, 1, (.c (.lit (.int .i64 1))))]⟩, ⟨some (19, true), some 22, .build [(.lit (.int .i64 0)), (.lit (.int .i64 0)), (.lit (.int .u32 0))] [(0, 1, (.c (.lit (.int .i64 3))))]⟩, ⟨some (19, true), some 23, .mkSlice true 3 [(.lit (.int .i64 0)), (.lit (.int .i64 0)), (.lit (.int .u32 0))] 2 [(0, (.t 21)), (1, (.t 22))]⟩, ⟨some (19, true), some 24, .build [(.lit (.int .i64 0)), (.lit (.int .i64 0)), nilS] [(0, 1, (.c (.lit (.int .i64 1)))), (1, 1, (.c (.lit (.int .i64 1)))), (2, 1, (.t 23))]⟩, ⟨some (19, true), some 25, .call 44 [(.t 20), (.t 24)]⟩, ⟨none, some 26, .pick (.t 19) (.t 25) (.c (.lit (.bool false)))⟩, ⟨none, some 27, .copy (.t 26)⟩, ⟨some (27, true), some 28, .load true 3 (.t 1)⟩, ⟨some (27, true), some 29, .call 39 [(.t 28)]⟩, ⟨some (27, true), some 30, .bin .eql (.t 29) (.c (.lit (.int .i64 5)))⟩, ⟨none, some 31, .pick (.t 27) (.t 30) (.c (.lit (.bool false)))⟩, ⟨none, some 32, .copy (.t 31)⟩, ⟨some (32, true), some 33, .load true 3 (.t 1)⟩, ⟨some (32, true), some 34, .call 37 [(.t 33), (.c (.lit (.int .i64 1)))]⟩, ⟨some (32, true), some 35, .bin .eql (.t 34) (.c (.lit (.int .i64 1)))⟩, ⟨none, some 36, .pick (.t 32) (.t 35) (.c (.lit (.bool false)))⟩, ⟨none, some 37, .copy (.t 36)⟩, ⟨some (37, true), some 38, .load true 3 (.t 1)⟩, ⟨some (37, true), some 39, .call 37 [(.t 38), (.c (.lit (.int .i64 2)))]⟩, ⟨some (37, true), some 40, .bin .eql (.t 39) (.c (.lit (.int .i64 0)))⟩, ⟨none, some 41, .pick (.t 37) (.t 40) (.c (.lit (.bool false)))⟩, ⟨none, some 42, .copy (.t 41)⟩, ⟨some (42, true), some 43, .load true 3 (.t 1)⟩, ⟨some (42, true), some 44, .call 37 [(.t 43), (.c (.lit (.int .i64 5)))]⟩, ⟨some (42, true), some 45, .bin .eql (.t 44) (.c (.lit (.int .i64 1)))⟩, ⟨none, some 46, .pick (.t 42) (.t 45) (.c (.lit (.bool false)))⟩, ⟨none, some 47, .copy (.t 46)⟩, ⟨some (47, true), some 48, .copy (.t 4)⟩, ⟨some (47, true), some 49, .bin .eql (.t 48) (.c (.lit (.int .i64 0)))⟩, ⟨none, some 50, .pick (.t 47) (.t 49) (.c (.lit (.bool false)))⟩, ⟨none, some 51, .copy (.t 50)⟩, ⟨some (51, true), some 52, .load true 3 (.t 3)⟩, ⟨some (51, true), some 53, .call 39 [(.t 52)]⟩, ⟨some (51, true), some 54, .bin .eql (.t 53) (.c (.lit (.int .i64 60)))⟩, ⟨none, some 55, .pick (.t 51) (.t 54) (.c (.lit (.bool false)))⟩, ⟨none, some 0, .copy (.t 55)⟩] [] []) .ret)))), [.tmp 0]⟩
/- drive.Check -/
def L35_0 : ICode := (.seq (.reg [⟨none, some 23, .bin .lss (.t 22) (.t 21)⟩] [] []) (.seq (.cond (.t 23) .skip (.exit 0)) (.seq (.block 1 (.seq (.reg [⟨none, some 24, .idxS 3 (.t 20) (.t 22)⟩, ⟨none, some 25, .load true 3 (.t 24)⟩, ⟨none, some 6, .alloc [(.lit (.int .i64 0)), (.lit (.int .i64 0)), (.lit (.int .u32 0))]⟩, ⟨none, none, .store 3 (.t 6) (.t 25)⟩] [] []) (.seq (.seq (.reg [⟨none, some 26, .fieldA 0 (.t 6)⟩, ⟨none, some 27, .load false 1 (.t 26)⟩, ⟨none, some 28, .copy (.t 4)⟩, ⟨none, some 29, .bin .gtr (.t 27) (.t 28)⟩] [] []) (.cond (.t 29) (.seq (.reg [⟨none, some 2, .copy (.c (.lit (.int .i64 12)))⟩] [] []) .ret) .skip)) (.reg [⟨none, some 30, .copy (.t 4)⟩, ⟨none, some 31, .fieldA 0 (.t 6)⟩, ⟨none, some 32, .load false 1 (.t 31)⟩, ⟨none, some 33, .bin .sub (.t 30) (.t 32)⟩, ⟨none, some 4, .copy (.t 33)⟩] [] [])))) (.reg [⟨none, some 34, .bin .add (.t 22) (.c (.lit (.int .i64 1)))⟩, ⟨none, some 22, .copy (.t 34)⟩] [] []))))
def ir35 : IFn := ⟨(.seq (.reg [⟨none, some 1, .box 3 (.t 0)⟩, ⟨none, some 2, .copy (.c (.lit (.int .i64 0)))⟩] [] []) (.seq (.reg [⟨none, some 3, .copy (.c (.func (.func 94) [] []))⟩] [] []) (.seq (.seq (.reg [⟨none, some 7, .fieldA 0 (.t 1)⟩, ⟨none, some 8, .load false 1 (.t 7)⟩, ⟨none, some 9, .fieldA 1 (.t 1)⟩, ⟨none, some 10, .load false 1 (.t 9)⟩, ⟨none, some 11, .call 96 [(.t 8), (.t 10)]⟩, ⟨none, some 12, .un .not (.t 11)⟩, ⟨none, some 13, .copy (.t 12)⟩, ⟨some (13, false), some 14, .fieldA 2 (.t 1)⟩, ⟨some (13, false), some 15, .load false 1 (.t 14)⟩, ⟨some (13, false), some 16, .copy (.t 3)⟩, ⟨some (13, false), some 17, .call 97 [(.t 15), (.t 16)]⟩, ⟨none, some 18, .pick (.t 13) (.c (.lit (.bool true))) (.t 17)⟩] [] []) (.cond (.t 18) (.seq (.reg [⟨none, some 2, .copy (.c (.lit (.int .i64 10)))⟩] [] []) .ret) .skip)) (.seq (.reg [⟨none, some 4, .copy (.c (.lit (.int .i64 1073741824)))⟩] [] []) (.seq (.seq (.reg [⟨none, some 19, .fieldA 2 (.t 1)⟩, ⟨none, some 20, .load false 1 (.t 19)⟩, ⟨none, some 21, .len (.t 20)⟩, ⟨none, some 22, .copy (.c (.lit (.int .i64 0)))⟩] [] []) (.block 0 (.loop [4, 20, 21, 22] L35_0))) (.seq (.reg [⟨none, some 2, .copy (.c (.lit (.int .i64 0)))⟩] [] []) .ret)))))), [.tmp 2]⟩
/- drive.Script).At -/
def L37_0 : ICode := (.seq (.reg [⟨none, some 24, .bin .lss (.t 23) (.t 22)⟩] [] []) (.seq (.cond (.t 24) .skip (.exit 0)) (.seq (.block 1 (.seq (.reg [⟨none, some 25, .idxS 3 (.t 21) (.t 23)⟩, ⟨none, some 26, .load true 3 (.t 25)⟩, ⟨none, some 6, .alloc [(.lit (.int .i64 0)), (.lit (.int .i64 0)), (.lit (.int .u32 0))]⟩, ⟨none, none, .store 3 (.t 6) (.t 26)⟩] [] []) (.seq (.seq (.reg [⟨none, some 27, .copy (.t 1)⟩, ⟨none, some 28, .fieldA 0 (.t 6)⟩, ⟨none, some 29, .load false 1 (.t 28)⟩, ⟨none, some 30, .bin .lss (.t 27) (.t 29)⟩] [] []) (.cond (.t 30) (.seq (.reg [⟨none, some 31, .fieldA 1 (.t 6)⟩, ⟨none, some 32, .load false 1 (.t 31)⟩, ⟨none, some 4, .copy (.t 32)⟩] [] []) .ret) .skip)) (.reg [⟨none, some 33, .copy (.t 1)⟩, ⟨none, some 34, .fieldA 0 (.t 6)⟩, ⟨none, some 35, .load false 1 (.t 34)⟩, ⟨none, some 36, .bin .sub (.t 33) (.t 35)⟩, ⟨none, some 1, .copy (.t 36)⟩] [] [])))) (.reg [⟨none, some 37, .bin .add (.t 23) (.c (.lit (.int .i64 1)))⟩, ⟨none, some 23, .copy (.t 37)⟩] [] []))))
def ir37 : IFn := ⟨(.seq (.reg [⟨none, some 2, .box 3 (.t 0)⟩, ⟨none, some 4, .copy (.c (.lit (.int .i64 0)))⟩] [] []) (.seq (.seq (.reg [⟨none, some 7, .load true 3 (.t 2)⟩, ⟨none, some 8, .call 35 [(.t 7)]⟩, ⟨none, some 9, .bin .neq (.t 8) (.c (.lit (.int .i64 0)))⟩, ⟨none, some 10, .copy (.t 9)⟩, ⟨some (10, false), some 11, .copy (.t 1)⟩, ⟨some (10, false), some 12, .fieldA 1 (.t 2)⟩, ⟨some (10, false), some 13, .load false 1 (.t 12)⟩, ⟨some (10, false), some 14, .bin .lss (.t 11) (.t 13)⟩, ⟨none, some 15, .pick (.t 10) (.c (.lit (.bool true))) (.t 14)⟩] [] []) (.cond (.t 15) (.seq (.reg [⟨none, some 4, .copy (.c (.lit (.int .i64 1)))⟩] [] []) .ret) .skip)) (.seq (.reg [⟨none, some 16, .copy (.t 1)⟩, ⟨none, some 17, .fieldA 1 (.t 2)⟩, ⟨none, some 18, .load false 1 (.t 17)⟩, ⟨none, some 19, .bin .sub (.t 16) (.t 18)⟩, ⟨none, some 1, .copy (.t 19)⟩] [] []) (.seq (.seq (.reg [⟨none, some 20, .fieldA 2 (.t 2)⟩, ⟨none, some 21, .load false 1 (.t 20)⟩, ⟨none, some 22, .len (.t 21)⟩, ⟨none, some 23, .copy (.c (.lit (.int .i64 0)))⟩] [] []) (.block 0 (.loop [1, 21, 22, 23] L37_0))) (.seq (.reg [⟨none, some 4, .copy (.c (.lit (.int .i64 1)))⟩] [] []) .ret))))), [.tmp 4]⟩
/- drive.Script).Ends -/
def L39_0 : ICode := (.seq (.reg [⟨none, some 15, .bin .lss (.t 14) (.t 13)⟩] [] []) (.seq (.cond (.t 15) .skip (.exit 0)) (.seq (.block 1 (.seq (.reg [⟨none, some 16, .idxS 3 (.t 12) (.t 14)⟩, ⟨none, some 17, .load true 3 (.t 16)⟩, ⟨none, some 5, .alloc [(.lit (.int .i64 0)), (.lit (.int .i64 0)), (.lit (.int .u32 0))]⟩, ⟨none, none, .store 3 (.t 5) (.t 17)⟩] [] []) (.reg [⟨none, some 18, .copy (.t 3)⟩, ⟨none, some 19, .fieldA 0 (.t 5)⟩, ⟨none, some 20, .load false 1 (.t 19)⟩, ⟨none, some 21, .bin .add (.t 18) (.t 20)⟩, ⟨none, some 3, .copy (.t 21)⟩] [] []))) (.reg [⟨none, some 22, .bin .add (.t 14) (.c (.lit (.int .i64 1)))⟩, ⟨none, some 14, .copy (.t 22)⟩] [] []))))
def ir39 : IFn := ⟨(.seq (.reg [⟨none, some 1, .box 3 (.t 0)⟩, ⟨none, some 2, .copy (.c (.lit (.int .i64 0)))⟩] [] []) (.seq (.seq (.reg [⟨none, some 6, .load true 3 (.t 1)⟩, ⟨none, some 7, .call 35 [(.t 6)]⟩, ⟨none, some 8, .bin .neq (.t 7) (.c (.lit (.int .i64 0)))⟩] [] []) (.cond (.t 8) (.seq (.reg [⟨none, some 2, .copy (.c (.lit (.int .i64 0)))⟩] [] []) .ret) .skip)) (.seq (.reg [⟨none, some 9, .fieldA 1 (.t 1)⟩, ⟨none, some 10, .load false 1 (.t 9)⟩, ⟨none, some 3, .copy (.t 10)⟩] [] []) (.seq (.seq (.reg [⟨none, some 11, .fieldA 2 (.t 1)⟩, ⟨none, some 12, .load false 1 (.t 11)⟩, ⟨none, some 13, .len (.t 12)⟩, ⟨none, some 14, .copy (.c (.lit (.int .i64 0)))⟩] [] []) (.block 0 (.loop [3, 12, 13, 14] L39_0))) (.seq (.reg [⟨none, some 23, .copy (.t 3)⟩, ⟨none, some 2, .copy (.t 23)⟩] [] []) .ret))))), [.tmp 2]⟩
/- magnetolaw22.Small -/
def L41_0 : ICode := (.seq (.seq (.reg [⟨none, some 5, .copy (.t 4)⟩, ⟨none, some 6, .copy (.t 0)⟩, ⟨none, some 7, .len (.t 6)⟩, ⟨none, some 8, .bin .lss (.t 5) (.t 7)⟩, ⟨none, some 9, .copy (.t 8)⟩, ⟨some (9, true), some 10, .copy (.t 4)⟩, ⟨some (9, true), some 11, .bin .lss (.t 10) (.c (.lit (.int .i64 61)))⟩, ⟨none, some 12, .pick (.t 9) (.t 11) (.c (.lit (.bool false)))⟩] [] []) (.cond (.t 12) .skip (.exit 0))) (.seq (.block 1 (.seq (.seq (.reg [⟨none, some 15, .copy (.t 0)⟩, ⟨none, some 16, .copy (.t 4)⟩, ⟨none, some 17, .idxS 3 (.t 15) (.t 16)⟩, ⟨none, some 18, .fieldA 0 (.t 17)⟩, ⟨none, some 19, .load false 1 (.t 18)⟩, ⟨none, some 20, .bin .gtr (.t 19) (.c (.lit (.int .i64 2000)))⟩, ⟨none, some 21, .copy (.t 20)⟩, ⟨some (21, true), some 22, .copy (.t 0)⟩, ⟨some (21, true), some 23, .copy (.t 4)⟩, ⟨some (21, true), some 24, .idxS 3 (.t 22) (.t 23)⟩, ⟨some (21, true), some 25, .fieldA 0 (.t 24)⟩, ⟨some (21, true), some 26, .load false 1 (.t 25)⟩, ⟨some (21, true), some 27, .bin .leq (.t 26) (.c (.lit (.int .i64 1073741824)))⟩, ⟨none, some 28, .pick (.t 21) (.t 27) (.c (.lit (.bool false)))⟩] [] []) (.cond (.t 28) (.seq (.reg [⟨none, some 2, .copy (.c (.lit (.bool false)))⟩] [] []) .ret) .skip)) (.seq (.reg [⟨none, some 29, .copy (.t 0)⟩, ⟨none, some 30, .copy (.t 4)⟩, ⟨none, some 31, .idxS 3 (.t 29) (.t 30)⟩, ⟨none, some 32, .fieldA 0 (.t 31)⟩, ⟨none, some 33, .load false 1 (.t 32)⟩, ⟨none, some 34, .bin .gtr (.t 33) (.c (.lit (.int .i64 0)))⟩, ⟨none, some 35, .copy (.t 34)⟩, ⟨some (35, true), some 36, .copy (.t 0)⟩, ⟨some (35, true), some 37, .copy (.t 4)⟩, ⟨some (35, true), some 38, .idxS 3 (.t 36) (.t 37)⟩, ⟨some (35, true), some 39, .fieldA 0 (.t 38)⟩, ⟨some (35, true), some 40, .load false 1 (.t 39)⟩, ⟨some (35, true), some 41, .bin .leq (.t 40) (.c (.lit (.int .i64 2000)))⟩, ⟨none, some 42, .pick (.t 35) (.t 41) (.c (.lit (.bool false)))⟩] [] []) (.cond (.t 42) (.reg [⟨none, some 43, .copy (.t 3)⟩, ⟨none, some 44, .copy (.t 0)⟩, ⟨none, some 45, .copy (.t 4)⟩, ⟨none, some 46, .idxS 3 (.t 44) (.t 45)⟩, ⟨none, some 47, .fieldA 0 (.t 46)⟩, ⟨none, some 48, .load false 1 (.t 47)⟩, ⟨none, some 49, .bin .add (.t 43) (.t 48)⟩, ⟨none, some 3, .copy (.t 49)⟩] [] []) .skip)))) (.reg [⟨none, some 13, .copy (.t 4)⟩, ⟨none, some 14, .bin .add (.t 13) (.c (.lit (.int .i64 1)))⟩, ⟨none, some 4, .copy (.t 14)⟩] [] [])))
def ir41 : IFn := ⟨(.seq (.reg [⟨none, some 2, .copy (.c (.lit (.bool false)))⟩] [] []) (.seq (.reg [⟨none, some 3, .copy (.c (.lit (.int .i64 0)))⟩] [] []) (.seq (.seq (.reg [⟨none, some 4, .copy (.c (.lit (.int .i64 0)))⟩] [] []) (.block 0 (.loop [0, 3, 4] L41_0))) (.seq (.reg [⟨none, some 50, .copy (.t 0)⟩, ⟨none, some 51, .len (.t 50)⟩, ⟨none, some 52, .bin .leq (.t 51) (.c (.lit (.int .i64 60)))⟩, ⟨none, some 53, .copy (.t 52)⟩, ⟨some (53, true), some 54, .copy (.t 3)⟩, ⟨some (53, true), some 55, .bin .leq (.t 54) (.c (.lit (.int .i64 2000)))⟩, ⟨none, some 56, .pick (.t 53) (.t 55) (.c (.lit (.bool false)))⟩, ⟨none, some 2, .copy (.t 56)⟩] [] []) .ret)))), [.tmp 2]⟩
/- drive.Of -/
def ir42 : IFn := ⟨(.seq (.reg [⟨none, some 6, .alloc [(.lit (.int .i64 0)), (.lit (.int .i64 0)), nilS]⟩, ⟨none, some 7, .copy (.c (.lit (.int .i64 0)))⟩] [] []) (.seq (.reg [⟨none, some 11, .copy (.t 0)⟩, ⟨none, some 12, .copy (.t 1)⟩, ⟨none, some 13, .call 43 [(.t 11), (.t 12)]⟩, ⟨none, some 10, .copy (.t 13)⟩, ⟨none, some 14, .extract (.t 10) 0⟩, ⟨none, some 15, .extract (.t 10) 1⟩, ⟨none, some 8, .copy (.t 14)⟩, ⟨none, some 9, .copy (.t 15)⟩] [] []) (.seq (.seq (.reg [⟨none, some 16, .copy (.t 9)⟩, ⟨none, some 17, .bin .neq (.t 16) (.c (.lit (.int .i64 0)))⟩] [] []) (.cond (.t 17) (.seq (.reg [⟨none, some 18, .build [(.lit (.int .i64 0)), (.lit (.int .i64 0)), nilS] []⟩, ⟨none, some 19, .copy (.t 9)⟩, ⟨none, none, .store 3 (.t 6) (.t 18)⟩, ⟨none, some 7, .copy (.t 19)⟩] [] []) .ret) .skip)) (.seq (.seq (.reg [⟨none, some 20, .copy (.t 2)⟩, ⟨none, some 21, .copy (.t 8)⟩, ⟨none, some 22, .len (.t 21)⟩, ⟨none, some 23, .call 95 [(.t 20), (.c (.lit (.int .i64 0))), (.t 22)]⟩, ⟨none, some 24, .un .not (.t 23)⟩] [] []) (.cond (.t 24) (.seq (.reg [⟨none, some 25, .build [(.lit (.int .i64 0)), (.lit (.int .i64 0)), nilS] []⟩, ⟨none, none, .store 3 (.t 6) (.t 25)⟩, ⟨none, some 7, .copy (.c (.lit (.int .i64 10)))⟩] [] []) .ret) .skip)) (.seq (.reg [⟨none, some 26, .copy (.t 1)⟩, ⟨none, some 27, .copy (.t 2)⟩, ⟨none, some 28, .copy (.t 8)⟩, ⟨none, some 29, .copy (.t 2)⟩, ⟨none, some 30, .slice 1 (.t 28) (some (.t 29)) none none⟩, ⟨none, some 31, .call 98 [(.t 30)]⟩, ⟨none, some 32, .build [(.lit (.int .i64 0)), (.lit (.int .i64 0)), nilS] [(0, 1, (.t 26)), (1, 1, (.t 27)), (2, 1, (.t 31))]⟩, ⟨none, none, .store 3 (.t 6) (.t 32)⟩, ⟨none, some 7, .copy (.c (.lit (.int .i64 0)))⟩] [] []) .ret))))), [.cell 6 true 3, .tmp 7]⟩
/- tap.Node -/
def ir43 : IFn := ⟨(.seq (.reg [⟨none, some 3, .box 1 (.t 1)⟩, ⟨none, some 4, .copy (.c nilS)⟩, ⟨none, some 5, .copy (.c (.lit (.int .i64 0)))⟩] [] []) (.seq (.seq (.reg [⟨none, some 7, .copy (.t 0)⟩, ⟨none, some 8, .call 99 [(.t 7)]⟩, ⟨none, some 6, .copy (.t 8)⟩] [] []) (.seq (.reg [⟨none, some 9, .copy (.t 6)⟩, ⟨none, some 10, .bin .neq (.t 9) (.c (.lit (.int .i64 0)))⟩] [] []) (.cond (.t 10) (.seq (.reg [⟨none, some 11, .copy (.t 6)⟩, ⟨none, some 4, .copy (.c nilS)⟩, ⟨none, some 5, .copy (.t 11)⟩] [] []) .ret) .skip))) (.seq (.seq (.reg [⟨none, some 12, .load false 1 (.t 3)⟩, ⟨none, some 13, .bin .lss (.t 12) (.c (.lit (.int .i64 0)))⟩, ⟨none, some 14, .copy (.t 13)⟩, ⟨some (14, false), some 15, .load false 1 (.t 3)⟩, ⟨some (14, false), some 16, .bin .geq (.t 15) (.c (.lit (.int .i64 32)))⟩, ⟨none, some 17, .pick (.t 14) (.c (.lit (.bool true))) (.t 16)⟩] [] []) (.cond (.t 17) (.seq (.reg [⟨none, some 4, .copy (.c nilS)⟩, ⟨none, some 5, .copy (.c (.lit (.int .i64 10)))⟩] [] []) .ret) .skip)) (.seq (.reg [⟨none, some 18, .copy (.t 0)⟩, ⟨none, some 19, .mkFunc (.func 101) [] [(.t 3)]⟩, ⟨none, some 20, .call 100 [(.t 18), (.t 19)]⟩, ⟨none, some 21, .extract (.t 20) 0⟩, ⟨none, some 22, .extract (.t 20) 1⟩, ⟨none, some 4, .copy (.t 21)⟩, ⟨none, some 5, .copy (.t 22)⟩] [] []) .ret)))), [.tmp 4, .tmp 5]⟩
/- magnetolaw22.same -/
def ir44 : IFn := ⟨(.seq (.reg [⟨none, some 2, .box 3 (.t 0)⟩, ⟨none, some 3, .box 3 (.t 1)⟩, ⟨none, some 4, .copy (.c (.lit (.bool false)))⟩] [] []) (.seq (.reg [⟨none, some 5, .fieldA 0 (.t 2)⟩, ⟨none, some 6, .load false 1 (.t 5)⟩, ⟨none, some 7, .fieldA 0 (.t 3)⟩, ⟨none, some 8, .load false 1 (.t 7)⟩, ⟨none, some 9, .bin .eql (.t 6) (.t 8)⟩, ⟨none, some 10, .copy (.t 9)⟩, ⟨some (10, true), some 11, .fieldA 1 (.t 2)⟩, ⟨some (10, true), some 12, .load false 1 (.t 11)⟩, ⟨some (10, true), some 13, .fieldA 1 (.t 3)⟩, ⟨some (10, true), some 14, .load false 1 (.t 13)⟩, ⟨some (10, true), some 15, .bin .eql (.t 12) (.t 14)⟩, ⟨none, some 16, .pick (.t 10) (.t 15) (.c (.lit (.bool false)))⟩, ⟨none, some 17, .copy (.t 16)⟩, ⟨some (17, true), some 18, .fieldA 2 (.t 2)⟩, ⟨some (17, true), some 19, .load false 1 (.t 18)⟩, ⟨some (17, true), some 20, .fieldA 2 (.t 3)⟩, ⟨some (17, true), some 21, .load false 1 (.t 20)⟩, ⟨some (17, true), some 22, .call 102 [(.t 19), (.t 21)]⟩, ⟨none, some 23, .pick (.t 17) (.t 22) (.c (.lit (.bool false)))⟩, ⟨none, some 4, .copy (.t 23)⟩] [] []) .ret)), [.tmp 4]⟩
/- magnetoref22.Rows -/
def L45_0 : ICode := (.seq (.seq (.reg [⟨none, some 5, .copy (.t 4)⟩, ⟨none, some 6, .copy (.t 0)⟩, ⟨none, some 7, .len (.t 6)⟩, ⟨none, some 8, .bin .lss (.t 5) (.t 7)⟩] [] []) (.cond (.t 8) .skip (.exit 0))) (.seq (.block 1 (.seq (.reg [⟨none, some 11, .copy (.t 4)⟩, ⟨none, some 12, .bin .gtr (.t 11) (.c (.lit (.int .i64 0)))⟩, ⟨none, some 13, .copy (.t 12)⟩, ⟨some (13, true), some 14, .copy (.t 0)⟩, ⟨some (13, true), some 15, .copy (.t 4)⟩, ⟨some (13, true), some 16, .idxS 1 (.t 14) (.t 15)⟩, ⟨some (13, true), some 17, .load false 1 (.t 16)⟩, ⟨some (13, true), some 18, .copy (.t 0)⟩, ⟨some (13, true), some 19, .copy (.t 4)⟩, ⟨some (13, true), some 20, .bin .sub (.t 19) (.c (.lit (.int .i64 1)))⟩, ⟨some (13, true), some 21, .idxS 1 (.t 18) (.t 20)⟩, ⟨some (13, true), some 22, .load false 1 (.t 21)⟩, ⟨some (13, true), some 23, .bin .eql (.t 17) (.t 22)⟩, ⟨none, some 24, .pick (.t 13) (.t 23) (.c (.lit (.bool false)))⟩] [] []) (.cond (.t 24) (.reg [⟨none, some 25, .copy (.t 3)⟩, ⟨none, some 26, .copy (.t 3)⟩, ⟨none, some 27, .len (.t 26)⟩, ⟨none, some 28, .bin .sub (.t 27) (.c (.lit (.int .i64 1)))⟩, ⟨none, some 29, .idxS 3 (.t 25) (.t 28)⟩, ⟨none, some 30, .fieldA 0 (.t 29)⟩, ⟨none, some 31, .load false 1 (.t 30)⟩, ⟨none, some 32, .bin .add (.t 31) (.c (.lit (.int .i64 1)))⟩, ⟨none, some 33, .idxS 3 (.t 25) (.t 28)⟩, ⟨none, some 34, .fieldA 0 (.t 33)⟩, ⟨none, none, .store 1 (.t 34) (.t 32)⟩] [] []) (.reg [⟨none, some 35, .copy (.t 3)⟩, ⟨none, some 36, .copy (.t 0)⟩, ⟨none, some 37, .copy (.t 4)⟩, ⟨none, some 38, .idxS 1 (.t 36) (.t 37)⟩, ⟨none, some 39, .load false 1 (.t 38)⟩, ⟨none, some 40, .build [(.lit (.int .i64 0)), (.lit (.int .i64 0)), (.lit (.int .u32 0))] [(0, 1, (.c (.lit (.int .i64 1)))), (1, 1, (.t 39))]⟩, ⟨none, some 41, .mkSlice true 3 [(.lit (.int .i64 0)), (.lit (.int .i64 0)), (.lit (.int .u32 0))] 1 [(0, (.t 40))]⟩, ⟨none, some 42, .append true 3 24 (.t 35) (.t 41)⟩, ⟨none, some 3, .copy (.t 42)⟩] [] [])))) (.reg [⟨none, some 9, .copy (.t 4)⟩, ⟨none, some 10, .bin .add (.t 9) (.c (.lit (.int .i64 1)))⟩, ⟨none, some 4, .copy (.t 10)⟩] [] [])))
def ir45 : IFn := ⟨(.seq (.reg [⟨none, some 2, .copy (.c nilS)⟩] [] []) (.seq (.reg [⟨none, some 3, .copy (.c nilS)⟩] [] []) (.seq (.seq (.reg [⟨none, some 4, .copy (.c (.lit (.int .i64 0)))⟩] [] []) (.block 0 (.loop [0, 3, 4] L45_0))) (.seq (.reg [⟨none, some 43, .copy (.t 3)⟩, ⟨none, some 2, .copy (.t 43)⟩] [] []) .ret)))), [.tmp 2]⟩
/- drive.Frame -/
def ir46 : IFn := ⟨(.seq (.reg [⟨none, some 5, .box 12 (.t 2)⟩, ⟨none, some 6, .alloc [(.lit (.int .i64 0)), (.lit (.int .i64 0)), nilS]⟩, ⟨none, some 7, .copy (.c (.lit (.int .i64 0)))⟩] [] []) (.seq (.seq (.reg [⟨none, some 10, .copy (.t 0)⟩, ⟨none, some 11, .copy (.t 1)⟩, ⟨none, some 12, .call 96 [(.t 10), (.t 11)]⟩, ⟨none, some 13, .un .not (.t 12)⟩] [] []) (.cond (.t 13) (.seq (.reg [⟨none, some 14, .build [(.lit (.int .i64 0)), (.lit (.int .i64 0)), nilS] []⟩, ⟨none, none, .store 3 (.t 6) (.t 14)⟩, ⟨none, some 7, .copy (.c (.lit (.int .i64 10)))⟩] [] []) .ret) .skip)) (.seq (.reg [⟨none, some 16, .load true 12 (.t 5)⟩, ⟨none, some 17, .call 47 [(.t 16), (.c (.lit (.bool false)))]⟩, ⟨none, some 15, .copy (.t 17)⟩, ⟨none, some 18, .extract (.t 15) 0⟩, ⟨none, some 19, .extract (.t 15) 1⟩, ⟨none, some 8, .copy (.t 18)⟩, ⟨none, some 9, .copy (.t 19)⟩] [] []) (.seq (.seq (.reg [⟨none, some 20, .copy (.t 9)⟩, ⟨none, some 21, .bin .neq (.t 20) (.c (.lit (.int .i64 0)))⟩] [] []) (.cond (.t 21) (.seq (.reg [⟨none, some 22, .build [(.lit (.int .i64 0)), (.lit (.int .i64 0)), nilS] []⟩, ⟨none, some 23, .copy (.t 9)⟩, ⟨none, none, .store 3 (.t 6) (.t 22)⟩, ⟨none, some 7, .copy (.t 23)⟩] [] []) .ret) .skip)) (.seq (.reg [⟨none, some 24, .copy (.t 0)⟩, ⟨none, some 25, .copy (.t 1)⟩, ⟨none, some 26, .copy (.t 8)⟩, ⟨none, some 27, .call 98 [(.t 26)]⟩, ⟨none, some 28, .build [(.lit (.int .i64 0)), (.lit (.int .i64 0)), nilS] [(0, 1, (.t 24)), (1, 1, (.t 25)), (2, 1, (.t 27))]⟩, ⟨none, none, .store 3 (.t 6) (.t 28)⟩, ⟨none, some 7, .copy (.c (.lit (.int .i64 0)))⟩] [] []) .ret))))), [.cell 6 true 3, .tmp 7]⟩
/- codec.Encode -/
def ir47 : IFn := ⟨(.seq (.reg [⟨none, some 2, .box 12 (.t 0)⟩, ⟨none, some 4, .copy (.c nilS)⟩, ⟨none, some 5, .copy (.c (.lit (.int .i64 0)))⟩] [] []) (.seq (.reg [⟨none, some 11, .load true 12 (.t 2)⟩, ⟨none, some 12, .call 103 [(.t 11)]⟩, ⟨none, some 10, .copy (.t 12)⟩, ⟨none, some 13, .extract (.t 10) 0⟩, ⟨none, some 14, .extract (.t 10) 1⟩, ⟨none, some 6, .copy (.t 13)⟩, ⟨none, some 7, .copy (.t 14)⟩] [] []) (.seq (.seq (.reg [⟨none, some 15, .copy (.t 7)⟩, ⟨none, some 16, .bin .neq (.t 15) (.c (.lit (.int .i64 0)))⟩] [] []) (.cond (.t 16) (.seq (.reg [⟨none, some 17, .copy (.t 7)⟩, ⟨none, some 4, .copy (.c nilS)⟩, ⟨none, some 5, .copy (.t 17)⟩] [] []) .ret) .skip)) (.seq (.reg [⟨none, some 18, .copy (.t 6)⟩, ⟨none, some 19, .len (.t 18)⟩, ⟨none, some 20, .bin .sub (.t 19) (.c (.lit (.int .i64 10)))⟩, ⟨none, some 8, .copy (.t 20)⟩] [] []) (.seq (.reg [⟨none, some 21, .copy (.t 6)⟩, ⟨none, some 22, .copy (.t 8)⟩, ⟨none, some 23, .slice 1 (.t 21) none (some (.t 22)) none⟩, ⟨none, some 24, .call 104 [(.t 23)]⟩, ⟨none, some 25, .copy (.t 6)⟩, ⟨none, some 26, .copy (.t 8)⟩, ⟨none, some 27, .slice 1 (.t 25) (some (.t 26)) none none⟩, ⟨none, some 28, .append true 1 8 (.t 24) (.t 27)⟩, ⟨none, some 9, .copy (.t 28)⟩] [] []) (.seq (.seq (.reg [⟨none, some 29, .copy (.t 1)⟩] [] []) (.cond (.t 29) (.reg [⟨none, some 30, .copy (.t 9)⟩, ⟨none, some 31, .copy (.t 9)⟩, ⟨none, some 32, .len (.t 31)⟩, ⟨none, some 33, .bin .sub (.t 32) (.c (.lit (.int .i64 10)))⟩, ⟨none, some 34, .bin .add (.t 33) (.c (.lit (.int .i64 1)))⟩, ⟨none, some 35, .idxS 1 (.t 30) (.t 34)⟩, ⟨none, none, .store 1 (.t 35) (.c (.lit (.int .i64 0)))⟩] [] []) .skip)) (.seq (.reg [⟨none, some 36, .copy (.t 9)⟩, ⟨none, some 4, .copy (.t 36)⟩, ⟨none, some 5, .copy (.c (.lit (.int .i64 0)))⟩] [] []) .ret))))))), [.tmp 4, .tmp 5]⟩
/- tap.Ticks -/
def L49_0 : ICode := (.seq (.reg [⟨none, some 10, .bin .lss (.t 9) (.t 8)⟩] [] []) (.seq (.cond (.t 10) .skip (.exit 0)) (.seq (.block 1 (.seq (.reg [⟨none, some 11, .idxS 3 (.t 7) (.t 9)⟩, ⟨none, some 12, .load true 3 (.t 11)⟩, ⟨none, some 6, .alloc [(.lit (.int .i64 0)), (.lit (.int .i64 0)), (.lit (.int .u32 0))]⟩, ⟨none, none, .store 3 (.t 6) (.t 12)⟩] [] []) (.seq (.seq (.reg [⟨none, some 13, .load true 3 (.t 6)⟩, ⟨none, some 14, .call 106 [(.t 13)]⟩, ⟨none, some 15, .un .not (.t 14)⟩] [] []) (.cond (.t 15) (.seq (.reg [⟨none, some 2, .copy (.c (.lit (.int .i64 0)))⟩, ⟨none, some 3, .copy (.c (.lit (.int .i64 10)))⟩] [] []) .ret) .skip)) (.reg [⟨none, some 16, .copy (.t 4)⟩, ⟨none, some 17, .fieldA 0 (.t 6)⟩, ⟨none, some 18, .load false 1 (.t 17)⟩, ⟨none, some 19, .bin .add (.t 16) (.t 18)⟩, ⟨none, some 20, .minI (.t 19) [(.c (.lit (.int .i64 1073741825)))]⟩, ⟨none, some 4, .copy (.t 20)⟩] [] [])))) (.reg [⟨none, some 21, .bin .add (.t 9) (.c (.lit (.int .i64 1)))⟩, ⟨none, some 9, .copy (.t 21)⟩] [] []))))
def ir49 : IFn := ⟨(.seq (.reg [⟨none, some 2, .copy (.c (.lit (.int .i64 0)))⟩, ⟨none, some 3, .copy (.c (.lit (.int .i64 0)))⟩] [] []) (.seq (.reg [⟨none, some 4, .copy (.c (.lit (.int .i64 0)))⟩] [] []) (.seq (.seq (.reg [⟨none, some 7, .copy (.t 0)⟩, ⟨none, some 8, .len (.t 7)⟩, ⟨none, some 9, .copy (.c (.lit (.int .i64 0)))⟩] [] []) (.block 0 (.loop [4, 7, 8, 9] L49_0))) (.seq (.seq (.reg [⟨none, some 22, .copy (.t 4)⟩, ⟨none, some 23, .bin .gtr (.t 22) (.c (.lit (.int .i64 1073741824)))⟩] [] []) (.cond (.t 23) (.seq (.reg [⟨none, some 2, .copy (.c (.lit (.int .i64 0)))⟩, ⟨none, some 3, .copy (.c (.lit (.int .i64 12)))⟩] [] []) .ret) .skip)) (.seq (.reg [⟨none, some 24, .copy (.t 4)⟩, ⟨none, some 2, .copy (.t 24)⟩, ⟨none, some 3, .copy (.c (.lit (.int .i64 0)))⟩] [] []) .ret))))), [.tmp 2, .tmp 3]⟩
/- drive.Check$1 -/
def ir94 : IFn := ⟨(.seq (.reg [⟨none, some 1, .box 3 (.t 0)⟩, ⟨none, some 2, .copy (.c (.lit (.bool false)))⟩] [] []) (.seq (.reg [⟨none, some 3, .fieldA 0 (.t 1)⟩, ⟨none, some 4, .load false 1 (.t 3)⟩, ⟨none, some 5, .call 95 [(.t 4), (.c (.lit (.int .i64 1))), (.c (.lit (.int .i64 1073741824)))]⟩, ⟨none, some 6, .un .not (.t 5)⟩, ⟨none, some 7, .copy (.t 6)⟩, ⟨some (7, false), some 8, .fieldA 1 (.t 1)⟩, ⟨some (7, false), some 9, .load false 1 (.t 8)⟩, ⟨some (7, false), some 10, .call 95 [(.t 9), (.c (.lit (.int .i64 0))), (.c (.lit (.int .i64 1)))]⟩, ⟨some (7, false), some 11, .un .not (.t 10)⟩, ⟨none, some 12, .pick (.t 7) (.c (.lit (.bool true))) (.t 11)⟩, ⟨none, some 2, .copy (.t 12)⟩] [] []) .ret)), [.tmp 2]⟩
/- drive.fits -/
def ir95 : IFn := ⟨(.seq (.reg [⟨none, some 6, .copy (.c (.lit (.bool false)))⟩] [] []) (.seq (.reg [⟨none, some 7, .copy (.t 0)⟩, ⟨none, some 8, .copy (.t 1)⟩, ⟨none, some 9, .bin .geq (.t 7) (.t 8)⟩, ⟨none, some 10, .copy (.t 9)⟩, ⟨some (10, true), some 11, .copy (.t 0)⟩, ⟨some (10, true), some 12, .copy (.t 2)⟩, ⟨some (10, true), some 13, .bin .leq (.t 11) (.t 12)⟩, ⟨none, some 14, .pick (.t 10) (.t 13) (.c (.lit (.bool false)))⟩, ⟨none, some 6, .copy (.t 14)⟩] [] []) .ret)), [.tmp 6]⟩
/- drive.place -/
def ir96 : IFn := ⟨(.seq (.reg [⟨none, some 4, .copy (.c (.lit (.bool false)))⟩] [] []) (.seq (.reg [⟨none, some 5, .copy (.t 0)⟩, ⟨none, some 6, .call 95 [(.t 5), (.c (.lit (.int .i64 0))), (.c (.lit (.int .i64 31)))]⟩, ⟨none, some 7, .copy (.t 6)⟩, ⟨some (7, true), some 8, .copy (.t 1)⟩, ⟨some (7, true), some 9, .call 95 [(.t 8), (.c (.lit (.int .i64 0))), (.c (.lit (.int .i64 1073741824)))]⟩, ⟨none, some 10, .pick (.t 7) (.t 9) (.c (.lit (.bool false)))⟩, ⟨none, some 4, .copy (.t 10)⟩] [] []) .ret)), [.tmp 4]⟩
/- api.Run] -/
def ir97 : IFn := ⟨(.seq (.reg [⟨none, some 4, .copy (.c (.lit (.bool false)))⟩] [] []) (.seq (.reg [⟨none, some 5, .copy (.t 0)⟩, ⟨none, some 6, .copy (.t 1)⟩, ⟨none, some 7, .call 135 [(.t 5), (.t 6)]⟩, ⟨none, some 8, .bin .geq (.t 7) (.c (.lit (.int .i64 0)))⟩, ⟨none, some 4, .copy (.t 8)⟩] [] []) .ret)), [.tmp 4]⟩
/- drive.rows -/
def L98_0 : ICode := (.seq (.reg [⟨none, some 10, .bin .lss (.t 9) (.t 8)⟩] [] []) (.seq (.cond (.t 10) .skip (.exit 0)) (.seq (.block 1 (.seq (.reg [⟨none, some 11, .idxS 1 (.t 7) (.t 9)⟩, ⟨none, some 12, .load false 1 (.t 11)⟩, ⟨none, some 5, .copy (.t 12)⟩] [] []) (.seq (.seq (.reg [⟨none, some 13, .copy (.t 3)⟩, ⟨none, some 14, .len (.t 13)⟩, ⟨none, some 6, .copy (.t 14)⟩] [] []) (.seq (.reg [⟨none, some 15, .copy (.t 6)⟩, ⟨none, some 16, .bin .gtr (.t 15) (.c (.lit (.int .i64 0)))⟩, ⟨none, some 17, .copy (.t 16)⟩, ⟨some (17, true), some 18, .copy (.t 3)⟩, ⟨some (17, true), some 19, .copy (.t 6)⟩, ⟨some (17, true), some 20, .bin .sub (.t 19) (.c (.lit (.int .i64 1)))⟩, ⟨some (17, true), some 21, .idxS 3 (.t 18) (.t 20)⟩, ⟨some (17, true), some 22, .fieldA 1 (.t 21)⟩, ⟨some (17, true), some 23, .load false 1 (.t 22)⟩, ⟨some (17, true), some 24, .copy (.t 5)⟩, ⟨some (17, true), some 25, .bin .eql (.t 23) (.t 24)⟩, ⟨none, some 26, .pick (.t 17) (.t 25) (.c (.lit (.bool false)))⟩] [] []) (.cond (.t 26) (.seq (.reg [⟨none, some 27, .copy (.t 3)⟩, ⟨none, some 28, .copy (.t 6)⟩, ⟨none, some 29, .bin .sub (.t 28) (.c (.lit (.int .i64 1)))⟩, ⟨none, some 30, .idxS 3 (.t 27) (.t 29)⟩, ⟨none, some 31, .fieldA 0 (.t 30)⟩, ⟨none, some 32, .load false 1 (.t 31)⟩, ⟨none, some 33, .bin .add (.t 32) (.c (.lit (.int .i64 1)))⟩, ⟨none, some 34, .idxS 3 (.t 27) (.t 29)⟩, ⟨none, some 35, .fieldA 0 (.t 34)⟩, ⟨none, none, .store 1 (.t 35) (.t 33)⟩] [] []) (.exit 1)) .skip))) (.reg [⟨none, some 36, .copy (.t 3)⟩, ⟨none, some 37, .copy (.t 5)⟩, ⟨none, some 38, .build [(.lit (.int .i64 0)), (.lit (.int .i64 0)), (.lit (.int .u32 0))] [(0, 1, (.c (.lit (.int .i64 1)))), (1, 1, (.t 37))]⟩, ⟨none, some 39, .mkSlice true 3 [(.lit (.int .i64 0)), (.lit (.int .i64 0)), (.lit (.int .u32 0))] 1 [(0, (.t 38))]⟩, ⟨none, some 40, .append true 3 24 (.t 36) (.t 39)⟩, ⟨none, some 3, .copy (.t 40)⟩] [] [])))) (.reg [⟨none, some 41, .bin .add (.t 9) (.c (.lit (.int .i64 1)))⟩, ⟨none, some 9, .copy (.t 41)⟩] [] []))))
def ir98 : IFn := ⟨(.seq (.reg [⟨none, some 2, .copy (.c nilS)⟩] [] []) (.seq (.reg [⟨none, some 3, .copy (.c nilS)⟩] [] []) (.seq (.seq (.reg [⟨none, some 7, .copy (.t 0)⟩, ⟨none, some 8, .len (.t 7)⟩, ⟨none, some 9, .copy (.c (.lit (.int .i64 0)))⟩] [] []) (.block 0 (.loop [3, 7, 8, 9] L98_0))) (.seq (.reg [⟨none, some 42, .copy (.t 3)⟩, ⟨none, some 2, .copy (.t 42)⟩] [] []) .ret)))), [.tmp 2]⟩
/- tap.Check -/
def ir99 : IFn := ⟨(.seq (.reg [⟨none, some 2, .copy (.c (.lit (.int .i64 0)))⟩] [] []) (.seq (.reg [⟨none, some 6, .copy (.t 0)⟩, ⟨none, some 7, .call 49 [(.t 6)]⟩, ⟨none, some 5, .copy (.t 7)⟩, ⟨none, some 8, .extract (.t 5) 0⟩, ⟨none, some 9, .extract (.t 5) 1⟩, ⟨none, some 3, .copy (.t 8)⟩, ⟨none, some 4, .copy (.t 9)⟩] [] []) (.seq (.reg [⟨none, some 10, .copy (.t 4)⟩, ⟨none, some 2, .copy (.t 10)⟩] [] []) .ret))), [.tmp 2]⟩
/- tap.levels -/
def A100_0 : ICode := (.reg [⟨none, some 10, .alloc [(.lit (.int .i64 0)), (.lit (.int .i64 0)), (.lit (.int .u32 0))]⟩, ⟨none, none, .store 3 (.t 10) (.t 28)⟩] [] [])
def B100_0 : ICode := (.block 2 (.reg [⟨none, some 29, .load false 1 (.t 8)⟩, ⟨none, some 30, .load false 1 (.t 3)⟩, ⟨none, some 31, .load true 3 (.t 10)⟩, ⟨none, some 32, .callV (.t 30) [(.t 31)]⟩, ⟨none, some 33, .mkSlice true 1 [(.lit (.int .i64 0))] 1 [(0, (.t 32))]⟩, ⟨none, some 34, .append true 1 8 (.t 29) (.t 33)⟩, ⟨none, none, .store 1 (.t 8) (.t 34)⟩] [(0, 3), (0, 4)] []))
def ir100 : IFn := ⟨(.seq (.reg [⟨none, some 3, .box 1 (.t 1)⟩, ⟨none, some 4, .copy (.c nilS)⟩, ⟨none, some 5, .copy (.c (.lit (.int .i64 0)))⟩] [] []) (.seq (.reg [⟨none, some 12, .copy (.t 0)⟩, ⟨none, some 13, .call 49 [(.t 12)]⟩, ⟨none, some 11, .copy (.t 13)⟩, ⟨none, some 14, .extract (.t 11) 0⟩, ⟨none, some 15, .extract (.t 11) 1⟩, ⟨none, some 6, .copy (.t 14)⟩, ⟨none, some 7, .copy (.t 15)⟩] [] []) (.seq (.block 0 (.seq (.reg [⟨none, some 17, .copy (.t 7)⟩, ⟨none, some 18, .bin .neq (.t 17) (.c (.lit (.int .i64 0)))⟩, ⟨none, some 16, .copy (.t 18)⟩] [] []) (.cond (.t 16) (.seq (.reg [⟨none, some 19, .copy (.t 7)⟩, ⟨none, some 4, .copy (.c nilS)⟩, ⟨none, some 5, .copy (.t 19)⟩] [] []) .ret) (.seq (.reg [⟨none, some 21, .copy (.t 6)⟩, ⟨none, some 22, .bin .gtr (.t 21) (.c (.lit (.int .i64 1048576)))⟩, ⟨none, some 20, .copy (.t 22)⟩] [] []) (.cond (.t 20) (.seq (.reg [⟨none, some 4, .copy (.c nilS)⟩, ⟨none, some 5, .copy (.c (.lit (.int .i64 12)))⟩] [] []) .ret) .skip))))) (.seq (.reg [⟨none, some 23, .copy (.t 6)⟩, ⟨none, some 24, .make true 1 8 [(.lit (.int .i64 0))] (.c (.lit (.int .i64 0))) (.t 23)⟩, ⟨none, some 8, .alloc [nilS]⟩, ⟨none, none, .store 1 (.t 8) (.t 24)⟩] [] []) (.seq (.seq (.reg [⟨none, some 25, .copy (.t 0)⟩, ⟨none, some 26, .call 136 [(.t 25)]⟩] [] []) (.block 1 (.range (.t 26) [3, 8] [27, 28] A100_0 B100_0))) (.seq (.reg [⟨none, some 35, .load false 1 (.t 8)⟩, ⟨none, some 4, .copy (.t 35)⟩, ⟨none, some 5, .copy (.c (.lit (.int .i64 0)))⟩] [] []) .ret)))))), [.tmp 4, .tmp 5]⟩
/- tap.Node$1 -/
def ir101 : IFn := ⟨(.seq (.reg [⟨none, some 2, .box 3 (.t 0)⟩, ⟨none, some 3, .copy (.c (.lit (.int .i64 0)))⟩] [] []) (.seq (.reg [⟨none, some 4, .fieldA 2 (.t 2)⟩, ⟨none, some 5, .load false 1 (.t 4)⟩, ⟨none, some 6, .load false 1 (.t 1)⟩, ⟨none, some 7, .bin .shr (.t 5) (.t 6)⟩, ⟨none, some 8, .bin .and (.t 7) (.c (.lit (.int .u32 1)))⟩, ⟨none, some 9, .toInt .i64 (.t 8)⟩, ⟨none, some 3, .copy (.t 9)⟩] [] []) .ret)), [.tmp 3]⟩
/- magnetolaw11.Runs -/
def L102_0 : ICode := (.seq (.seq (.reg [⟨none, some 11, .copy (.t 5)⟩, ⟨none, some 12, .copy (.t 0)⟩, ⟨none, some 13, .len (.t 12)⟩, ⟨none, some 14, .bin .lss (.t 11) (.t 13)⟩] [] []) (.cond (.t 14) .skip (.exit 0))) (.seq (.block 1 (.seq (.reg [⟨none, some 17, .copy (.t 0)⟩, ⟨none, some 18, .copy (.t 5)⟩, ⟨none, some 19, .idxS 3 (.t 17) (.t 18)⟩, ⟨none, some 20, .load true 3 (.t 19)⟩, ⟨none, some 21, .copy (.t 1)⟩, ⟨none, some 22, .copy (.t 5)⟩, ⟨none, some 23, .idxS 3 (.t 21) (.t 22)⟩, ⟨none, some 24, .load true 3 (.t 23)⟩, ⟨none, some 25, .eqA true [(0, .i), (1, .i), (2, .i)] (.t 20) (.t 24)⟩] [] []) (.cond (.t 25) (.seq (.reg [⟨none, some 4, .copy (.c (.lit (.bool false)))⟩] [] []) .ret) .skip))) (.reg [⟨none, some 15, .copy (.t 5)⟩, ⟨none, some 16, .bin .add (.t 15) (.c (.lit (.int .i64 1)))⟩, ⟨none, some 5, .copy (.t 16)⟩] [] [])))
def ir102 : IFn := ⟨(.seq (.reg [⟨none, some 4, .copy (.c (.lit (.bool false)))⟩] [] []) (.seq (.seq (.reg [⟨none, some 6, .copy (.t 0)⟩, ⟨none, some 7, .len (.t 6)⟩, ⟨none, some 8, .copy (.t 1)⟩, ⟨none, some 9, .len (.t 8)⟩, ⟨none, some 10, .bin .neq (.t 7) (.t 9)⟩] [] []) (.cond (.t 10) (.seq (.reg [⟨none, some 4, .copy (.c (.lit (.bool false)))⟩] [] []) .ret) .skip)) (.seq (.seq (.reg [⟨none, some 5, .copy (.c (.lit (.int .i64 0)))⟩] [] []) (.block 0 (.loop [0, 1, 5] L102_0))) (.seq (.reg [⟨none, some 4, .copy (.c (.lit (.bool true)))⟩] [] []) .ret)))), [.tmp 4]⟩
/- field.All -/
def ir103 : IFn := ⟨(.seq (.reg [⟨none, some 1, .box 12 (.t 0)⟩, ⟨none, some 2, .copy (.c nilS)⟩, ⟨none, some 3, .copy (.c (.lit (.int .i64 0)))⟩] [] []) (.seq (.reg [⟨none, some 9, .load true 12 (.t 1)⟩, ⟨none, some 10, .call 137 [(.t 9)]⟩, ⟨none, some 8, .copy (.t 10)⟩, ⟨none, some 11, .extract (.t 8) 0⟩, ⟨none, some 12, .extract (.t 8) 1⟩, ⟨none, some 4, .copy (.t 11)⟩, ⟨none, some 5, .copy (.t 12)⟩] [] []) (.seq (.seq (.reg [⟨none, some 13, .copy (.t 5)⟩, ⟨none, some 14, .bin .neq (.t 13) (.c (.lit (.int .i64 0)))⟩] [] []) (.cond (.t 14) (.seq (.reg [⟨none, some 15, .copy (.t 5)⟩, ⟨none, some 2, .copy (.c nilS)⟩, ⟨none, some 3, .copy (.t 15)⟩] [] []) .ret) .skip)) (.seq (.reg [⟨none, some 17, .copy (.t 4)⟩, ⟨none, some 18, .call 138 [(.t 17)]⟩, ⟨none, some 16, .copy (.t 18)⟩, ⟨none, some 19, .extract (.t 16) 0⟩, ⟨none, some 20, .extract (.t 16) 1⟩, ⟨none, some 6, .copy (.t 19)⟩, ⟨none, some 5, .copy (.t 20)⟩] [] []) (.seq (.seq (.reg [⟨none, some 21, .copy (.t 5)⟩, ⟨none, some 22, .bin .neq (.t 21) (.c (.lit (.int .i64 0)))⟩] [] []) (.cond (.t 22) (.seq (.reg [⟨none, some 23, .copy (.t 5)⟩, ⟨none, some 2, .copy (.c nilS)⟩, ⟨none, some 3, .copy (.t 23)⟩] [] []) .ret) .skip)) (.seq (.reg [⟨none, some 25, .copy (.t 6)⟩, ⟨none, some 26, .call 139 [(.t 25)]⟩, ⟨none, some 24, .copy (.t 26)⟩, ⟨none, some 27, .extract (.t 24) 0⟩, ⟨none, some 28, .extract (.t 24) 1⟩, ⟨none, some 7, .copy (.t 27)⟩, ⟨none, some 5, .copy (.t 28)⟩] [] []) (.seq (.seq (.reg [⟨none, some 29, .copy (.t 5)⟩, ⟨none, some 30, .bin .neq (.t 29) (.c (.lit (.int .i64 0)))⟩] [] []) (.cond (.t 30) (.seq (.reg [⟨none, some 31, .copy (.t 5)⟩, ⟨none, some 2, .copy (.c nilS)⟩, ⟨none, some 3, .copy (.t 31)⟩] [] []) .ret) .skip)) (.seq (.reg [⟨none, some 32, .copy (.t 4)⟩, ⟨none, some 33, .copy (.t 7)⟩, ⟨none, some 34, .mkSlice true 1 [(.lit (.int .i64 0))] 1 [(0, (.c (.lit (.int .i64 1))))]⟩, ⟨none, some 35, .call 141 [(.t 34), (.c (.lit (.int .i64 10)))]⟩, ⟨none, some 36, .mkSlice true 1 [nilS] 3 [(0, (.t 32)), (1, (.t 33)), (2, (.t 35))]⟩, ⟨none, some 37, .call 140 [(.t 36)]⟩, ⟨none, some 2, .copy (.t 37)⟩, ⟨none, some 3, .copy (.c (.lit (.int .i64 0)))⟩] [] []) .ret)))))))), [.tmp 2, .tmp 3]⟩
/- stuff.Add -/
def L104_0 : ICode := (.seq (.reg [⟨none, some 22, .bin .lss (.t 21) (.t 20)⟩] [] []) (.seq (.cond (.t 22) .skip (.exit 0)) (.seq (.block 1 (.seq (.reg [⟨none, some 23, .idxS 1 (.t 19) (.t 21)⟩, ⟨none, some 24, .load false 1 (.t 23)⟩, ⟨none, some 7, .copy (.t 24)⟩] [] []) (.seq (.reg [⟨none, some 25, .copy (.t 5)⟩, ⟨none, some 26, .copy (.t 7)⟩, ⟨none, some 27, .callV (.t 25) [(.t 26)]⟩] [] []) (.cond (.t 27) (.reg [⟨none, some 28, .copy (.t 5)⟩, ⟨none, some 29, .copy (.t 7)⟩, ⟨none, some 30, .call 144 [(.t 29)]⟩, ⟨none, some 31, .callV (.t 28) [(.t 30)]⟩] [] []) .skip)))) (.reg [⟨none, some 32, .bin .add (.t 21) (.c (.lit (.int .i64 1)))⟩, ⟨none, some 21, .copy (.t 32)⟩] [] []))))
def ir104 : IFn := ⟨(.seq (.reg [⟨none, some 2, .copy (.c nilS)⟩] [] []) (.seq (.seq (.reg [⟨none, some 8, .copy (.t 0)⟩, ⟨none, some 9, .call 142 [(.t 8)]⟩, ⟨none, some 10, .bin .geq (.t 9) (.c (.lit (.int .i64 0)))⟩] [] []) (.cond (.t 10) (.seq (.reg [⟨none, some 2, .copy (.c nilS)⟩] [] []) .ret) .skip)) (.seq (.reg [⟨none, some 11, .copy (.t 0)⟩, ⟨none, some 12, .len (.t 11)⟩, ⟨none, some 13, .copy (.t 0)⟩, ⟨none, some 14, .len (.t 13)⟩, ⟨none, some 15, .bin .quo (.t 14) (.c (.lit (.int .i64 4)))⟩, ⟨none, some 16, .bin .add (.t 12) (.t 15)⟩, ⟨none, some 17, .make true 1 8 [(.lit (.int .i64 0))] (.c (.lit (.int .i64 0))) (.t 16)⟩, ⟨none, some 3, .alloc [nilS]⟩, ⟨none, none, .store 1 (.t 3) (.t 17)⟩] [] []) (.seq (.reg [⟨none, some 4, .alloc [(.lit (.int .i64 0))]⟩, ⟨none, none, .store 1 (.t 4) (.c (.lit (.int .i64 0)))⟩] [] []) (.seq (.reg [⟨none, some 18, .mkFunc (.func 143) [] [(.t 3), (.t 4)]⟩, ⟨none, some 5, .copy (.t 18)⟩] [] []) (.seq (.seq (.reg [⟨none, some 19, .copy (.t 0)⟩, ⟨none, some 20, .len (.t 19)⟩, ⟨none, some 21, .copy (.c (.lit (.int .i64 0)))⟩] [] []) (.block 0 (.loop [3, 5, 19, 20, 21] L104_0))) (.seq (.reg [⟨none, some 33, .load false 1 (.t 3)⟩, ⟨none, some 2, .copy (.t 33)⟩] [] []) .ret))))))), [.tmp 2]⟩
/- tap.right -/
def ir106 : IFn := ⟨(.seq (.reg [⟨none, some 1, .box 3 (.t 0)⟩, ⟨none, some 2, .copy (.c (.lit (.bool false)))⟩] [] []) (.seq (.reg [⟨none, some 3, .copy (.c (.lit (.int .i64 0)))⟩] [] []) (.seq (.seq (.reg [⟨none, some 4, .fieldA 2 (.t 1)⟩, ⟨none, some 5, .load false 1 (.t 4)⟩, ⟨none, some 6, .bin .eql (.t 5) (.c (.lit (.int .u32 4294967295)))⟩] [] []) (.cond (.t 6) (.reg [⟨none, some 3, .copy (.c (.lit (.int .i64 1)))⟩] [] []) .skip)) (.seq (.reg [⟨none, some 7, .fieldA 0 (.t 1)⟩, ⟨none, some 8, .load false 1 (.t 7)⟩, ⟨none, some 9, .bin .geq (.t 8) (.c (.lit (.int .i64 1)))⟩, ⟨none, some 10, .copy (.t 9)⟩, ⟨some (10, true), some 11, .fieldA 0 (.t 1)⟩, ⟨some (10, true), some 12, .load false 1 (.t 11)⟩, ⟨some (10, true), some 13, .bin .leq (.t 12) (.c (.lit (.int .i64 1073741824)))⟩, ⟨none, some 14, .pick (.t 10) (.t 13) (.c (.lit (.bool false)))⟩, ⟨none, some 15, .copy (.t 14)⟩, ⟨some (15, true), some 16, .fieldA 1 (.t 1)⟩, ⟨some (15, true), some 17, .load false 1 (.t 16)⟩, ⟨some (15, true), some 18, .copy (.t 3)⟩, ⟨some (15, true), some 19, .bin .eql (.t 17) (.t 18)⟩, ⟨none, some 20, .pick (.t 15) (.t 19) (.c (.lit (.bool false)))⟩, ⟨none, some 2, .copy (.t 20)⟩] [] []) .ret)))), [.tmp 2]⟩
/- api.Run] -/
def L135_0 : ICode := (.seq (.reg [⟨none, some 9, .bin .lss (.t 8) (.t 7)⟩] [] []) (.seq (.cond (.t 9) .skip (.exit 0)) (.seq (.block 1 (.seq (.reg [⟨none, some 10, .copy (.t 8)⟩, ⟨none, some 5, .copy (.t 10)⟩] [] []) (.seq (.reg [⟨none, some 11, .copy (.t 1)⟩, ⟨none, some 12, .copy (.t 0)⟩, ⟨none, some 13, .copy (.t 5)⟩, ⟨none, some 14, .idxS 3 (.t 12) (.t 13)⟩, ⟨none, some 15, .load true 3 (.t 14)⟩, ⟨none, some 16, .callV (.t 11) [(.t 15)]⟩] [] []) (.cond (.t 16) (.seq (.reg [⟨none, some 17, .copy (.t 5)⟩, ⟨none, some 4, .copy (.t 17)⟩] [] []) .ret) .skip)))) (.reg [⟨none, some 18, .bin .add (.t 8) (.c (.lit (.int .i64 1)))⟩, ⟨none, some 8, .copy (.t 18)⟩] [] []))))
def ir135 : IFn := ⟨(.seq (.reg [⟨none, some 4, .copy (.c (.lit (.int .i64 0)))⟩] [] []) (.seq (.seq (.reg [⟨none, some 6, .copy (.t 0)⟩, ⟨none, some 7, .len (.t 6)⟩, ⟨none, some 8, .copy (.c (.lit (.int .i64 0)))⟩] [] []) (.block 0 (.loop [0, 1, 7, 8] L135_0))) (.seq (.reg [⟨none, some 4, .copy (.c (.lit (.int .i64 (-1))))⟩] [] []) .ret))), [.tmp 4]⟩
/- tap.Each -/
def ir136 : IFn := ⟨(.seq (.reg [⟨none, some 1, .box 1 (.t 0)⟩, ⟨none, some 2, .copy (.c (.lit .nilFunc))⟩] [] []) (.seq (.reg [⟨none, some 3, .mkFunc (.func 157) [] [(.t 1)]⟩, ⟨none, some 2, .copy (.t 3)⟩] [] []) .ret)), [.tmp 2]⟩
/- field.Bits -/
def L137_0 : ICode := (.seq (.reg [⟨none, some 42, .bin .lss (.t 41) (.t 40)⟩] [] []) (.seq (.cond (.t 42) .skip (.exit 0)) (.seq (.block 1 (.seq (.reg [⟨none, some 43, .idxS 1 (.t 39) (.t 41)⟩, ⟨none, some 44, .load false 1 (.t 43)⟩, ⟨none, some 11, .copy (.t 44)⟩] [] []) (.reg [⟨none, some 45, .copy (.t 8)⟩, ⟨none, some 46, .copy (.t 11)⟩, ⟨none, some 47, .toInt .u64 (.t 46)⟩, ⟨none, some 48, .callV (.t 45) [(.t 47), (.c (.lit (.int .i64 8)))]⟩] [] []))) (.reg [⟨none, some 49, .bin .add (.t 41) (.c (.lit (.int .i64 1)))⟩, ⟨none, some 41, .copy (.t 49)⟩] [] []))))
def ir137 : IFn := ⟨(.seq (.reg [⟨none, some 1, .box 12 (.t 0)⟩, ⟨none, some 2, .copy (.c nilS)⟩, ⟨none, some 3, .copy (.c (.lit (.int .i64 0)))⟩] [] []) (.seq (.reg [⟨none, some 13, .load true 12 (.t 1)⟩, ⟨none, some 14, .call 158 [(.t 13)]⟩, ⟨none, some 12, .copy (.t 14)⟩, ⟨none, some 15, .extract (.t 12) 0⟩, ⟨none, some 16, .extract (.t 12) 1⟩, ⟨none, some 4, .copy (.t 15)⟩, ⟨none, some 5, .copy (.t 16)⟩] [] []) (.seq (.seq (.reg [⟨none, some 17, .copy (.t 5)⟩, ⟨none, some 18, .bin .neq (.t 17) (.c (.lit (.int .i64 0)))⟩] [] []) (.cond (.t 18) (.seq (.reg [⟨none, some 19, .copy (.t 5)⟩, ⟨none, some 2, .copy (.c nilS)⟩, ⟨none, some 3, .copy (.t 19)⟩] [] []) .ret) .skip)) (.seq (.reg [⟨none, some 20, .mkSlice true 1 [(.lit (.int .i64 0))] 1 [(0, (.c (.lit (.int .i64 0))))]⟩, ⟨none, some 21, .copy (.t 4)⟩, ⟨none, some 22, .append true 1 8 (.t 20) (.t 21)⟩, ⟨none, some 6, .alloc [nilS]⟩, ⟨none, none, .store 1 (.t 6) (.t 22)⟩] [] []) (.seq (.reg [⟨none, some 7, .alloc [(.lit (.int .i64 0))]⟩, ⟨none, none, .store 1 (.t 7) (.c (.lit (.int .i64 0)))⟩] [] []) (.seq (.reg [⟨none, some 23, .mkFunc (.func 159) [] [(.t 7), (.t 6)]⟩, ⟨none, some 8, .copy (.t 23)⟩] [] []) (.seq (.reg [⟨none, some 9, .copy (.c (.lit (.int .i64 1)))⟩] [] []) (.seq (.seq (.reg [⟨none, some 24, .fieldA 1 (.t 1)⟩, ⟨none, some 25, .load false 1 (.t 24)⟩] [] []) (.cond (.t 25) (.reg [⟨none, some 9, .copy (.c (.lit (.int .i64 2)))⟩] [] []) .skip)) (.seq (.reg [⟨none, some 26, .copy (.t 8)⟩, ⟨none, some 27, .fieldA 3 (.t 1)⟩, ⟨none, some 28, .load false 1 (.t 27)⟩, ⟨none, some 29, .toInt .u64 (.t 28)⟩, ⟨none, some 30, .copy (.t 9)⟩, ⟨none, some 31, .bin .add (.t 30) (.c (.lit (.int .i64 4)))⟩, ⟨none, some 32, .callV (.t 26) [(.t 29), (.t 31)]⟩] [] []) (.seq (.seq (.reg [⟨none, some 33, .fieldA 2 (.t 1)⟩, ⟨none, some 34, .load false 1 (.t 33)⟩, ⟨none, some 35, .un .not (.t 34)⟩] [] []) (.cond (.t 35) (.seq (.reg [⟨none, some 36, .fieldA 4 (.t 1)⟩, ⟨none, some 37, .fieldA 3 (.t 1)⟩, ⟨none, some 38, .load false 1 (.t 37)⟩, ⟨none, some 39, .sliceArr 8 1 (.t 36) none (some (.t 38))⟩, ⟨none, some 40, .len (.t 39)⟩, ⟨none, some 41, .copy (.c (.lit (.int .i64 0)))⟩] [] []) (.block 0 (.loop [6, 7, 8, 39, 40, 41] L137_0))) .skip)) (.seq (.seq (.reg [⟨none, some 50, .load false 1 (.t 7)⟩, ⟨none, some 51, .bin .neq (.t 50) (.c (.lit (.int .i64 0)))⟩] [] []) (.cond (.t 51) (.seq (.reg [⟨none, some 52, .load false 1 (.t 7)⟩, ⟨none, some 2, .copy (.c nilS)⟩, ⟨none, some 3, .copy (.t 52)⟩] [] []) .ret) .skip)) (.seq (.reg [⟨none, some 53, .load false 1 (.t 6)⟩, ⟨none, some 2, .copy (.t 53)⟩, ⟨none, some 3, .copy (.c (.lit (.int .i64 0)))⟩] [] []) .ret)))))))))))), [.tmp 2, .tmp 3]⟩
/- crc15.Sum -/
def L138_0 : ICode := (.seq (.reg [⟨none, some 14, .bin .lss (.t 13) (.t 12)⟩] [] []) (.seq (.cond (.t 14) .skip (.exit 0)) (.seq (.block 1 (.seq (.reg [⟨none, some 15, .copy (.t 13)⟩, ⟨none, some 6, .copy (.t 15)⟩] [] []) (.reg [⟨none, some 16, .copy (.t 5)⟩, ⟨none, some 17, .copy (.t 0)⟩, ⟨none, some 18, .copy (.t 6)⟩, ⟨none, some 19, .idxS 1 (.t 17) (.t 18)⟩, ⟨none, some 20, .load false 1 (.t 19)⟩, ⟨none, some 21, .callV (.t 16) [(.t 20)]⟩] [] []))) (.reg [⟨none, some 22, .bin .add (.t 13) (.c (.lit (.int .i64 1)))⟩, ⟨none, some 13, .copy (.t 22)⟩] [] []))))
def ir138 : IFn := ⟨(.seq (.reg [⟨none, some 2, .copy (.c (.lit (.int .i64 0)))⟩, ⟨none, some 3, .copy (.c (.lit (.int .i64 0)))⟩] [] []) (.seq (.seq (.reg [⟨none, some 7, .copy (.t 0)⟩, ⟨none, some 8, .call 142 [(.t 7)]⟩, ⟨none, some 9, .bin .geq (.t 8) (.c (.lit (.int .i64 0)))⟩] [] []) (.cond (.t 9) (.seq (.reg [⟨none, some 2, .copy (.c (.lit (.int .i64 0)))⟩, ⟨none, some 3, .copy (.c (.lit (.int .i64 10)))⟩] [] []) .ret) .skip)) (.seq (.reg [⟨none, some 4, .alloc [(.lit (.int .i64 0))]⟩, ⟨none, none, .store 1 (.t 4) (.c (.lit (.int .i64 0)))⟩] [] []) (.seq (.reg [⟨none, some 10, .mkFunc (.func 161) [] [(.t 4)]⟩, ⟨none, some 5, .copy (.t 10)⟩] [] []) (.seq (.seq (.reg [⟨none, some 11, .copy (.t 0)⟩, ⟨none, some 12, .len (.t 11)⟩, ⟨none, some 13, .copy (.c (.lit (.int .i64 0)))⟩] [] []) (.block 0 (.loop [0, 4, 5, 12, 13] L138_0))) (.seq (.reg [⟨none, some 23, .load false 1 (.t 4)⟩, ⟨none, some 2, .copy (.t 23)⟩, ⟨none, some 3, .copy (.c (.lit (.int .i64 0)))⟩] [] []) .ret)))))), [.tmp 2, .tmp 3]⟩
/- crc15.Bits -/
def ir139 : IFn := ⟨(.seq (.reg [⟨none, some 2, .copy (.c nilS)⟩, ⟨none, some 3, .copy (.c (.lit (.int .i64 0)))⟩] [] []) (.seq (.seq (.reg [⟨none, some 4, .copy (.t 0)⟩, ⟨none, some 5, .call 163 [(.t 4)]⟩, ⟨none, some 6, .un .not (.t 5)⟩] [] []) (.cond (.t 6) (.seq (.reg [⟨none, some 2, .copy (.c nilS)⟩, ⟨none, some 3, .copy (.c (.lit (.int .i64 10)))⟩] [] []) .ret) .skip)) (.seq (.reg [⟨none, some 7, .copy (.t 0)⟩, ⟨none, some 8, .toInt .u64 (.t 7)⟩, ⟨none, some 9, .call 160 [(.t 8), (.c (.lit (.int .i64 15)))]⟩, ⟨none, some 10, .extract (.t 9) 0⟩, ⟨none, some 11, .extract (.t 9) 1⟩, ⟨none, some 2, .copy (.t 10)⟩, ⟨none, some 3, .copy (.t 11)⟩] [] []) .ret))), [.tmp 2, .tmp 3]⟩
/- slices.Concat[[]int,int] -/
def L140_0 : ICode := (.seq (.reg [⟨none, some 12, .bin .lss (.t 11) (.t 10)⟩] [] []) (.seq (.cond (.t 12) .skip (.exit 0)) (.seq (.block 1 (.seq (.reg [⟨none, some 13, .idxS 1 (.t 9) (.t 11)⟩, ⟨none, some 14, .load false 1 (.t 13)⟩, ⟨none, some 5, .copy (.t 14)⟩] [] []) (.seq (.reg [⟨none, some 15, .copy (.t 3)⟩, ⟨none, some 16, .copy (.t 5)⟩, ⟨none, some 17, .len (.t 16)⟩, ⟨none, some 18, .bin .add (.t 15) (.t 17)⟩, ⟨none, some 3, .copy (.t 18)⟩] [] []) (.seq (.reg [⟨none, some 19, .copy (.t 3)⟩, ⟨none, some 20, .bin .lss (.t 19) (.c (.lit (.int .i64 0)))⟩] [] []) (.cond (.t 20) (.reg [⟨none, some 21, .mkIface 9 (.c (.lit (.string ⟨#[108, 101, 110, 32, 111, 117, 116, 32, 111, 102, 32, 114, 97, 110, 103, 101]⟩)))⟩, ⟨none, none, .fail⟩] [] []) .skip))))) (.reg [⟨none, some 22, .bin .add (.t 11) (.c (.lit (.int .i64 1)))⟩, ⟨none, some 11, .copy (.t 22)⟩] [] []))))
def L140_1 : ICode := (.seq (.reg [⟨none, some 28, .bin .lss (.t 27) (.t 26)⟩] [] []) (.seq (.cond (.t 28) .skip (.exit 2)) (.seq (.block 3 (.seq (.reg [⟨none, some 29, .idxS 1 (.t 25) (.t 27)⟩, ⟨none, some 30, .load false 1 (.t 29)⟩, ⟨none, some 8, .copy (.t 30)⟩] [] []) (.reg [⟨none, some 31, .copy (.t 6)⟩, ⟨none, some 32, .copy (.t 8)⟩, ⟨none, some 33, .append true 1 8 (.t 31) (.t 32)⟩, ⟨none, some 6, .copy (.t 33)⟩] [] []))) (.reg [⟨none, some 34, .bin .add (.t 27) (.c (.lit (.int .i64 1)))⟩, ⟨none, some 27, .copy (.t 34)⟩] [] []))))
def ir140 : IFn := ⟨(.seq (.reg [⟨none, some 2, .copy (.c nilS)⟩] [] []) (.seq (.reg [⟨none, some 3, .copy (.c (.lit (.int .i64 0)))⟩] [] []) (.seq (.seq (.reg [⟨none, some 9, .copy (.t 0)⟩, ⟨none, some 10, .len (.t 9)⟩, ⟨none, some 11, .copy (.c (.lit (.int .i64 0)))⟩] [] []) (.block 0 (.loop [0, 3, 9, 10, 11] L140_0))) (.seq (.reg [⟨none, some 23, .copy (.t 3)⟩, ⟨none, some 24, .call 164 [(.c nilS), (.t 23)]⟩, ⟨none, some 6, .copy (.t 24)⟩] [] []) (.seq (.seq (.reg [⟨none, some 25, .copy (.t 0)⟩, ⟨none, some 26, .len (.t 25)⟩, ⟨none, some 27, .copy (.c (.lit (.int .i64 0)))⟩] [] []) (.block 2 (.loop [6, 25, 26, 27] L140_1))) (.seq (.reg [⟨none, some 35, .copy (.t 6)⟩, ⟨none, some 2, .copy (.t 35)⟩] [] []) .ret)))))), [.tmp 2]⟩
/- slices.Repeat[[]int,int] -/
def L141_0 : ICode := (.seq (.seq (.reg [⟨none, some 34, .copy (.t 8)⟩, ⟨none, some 35, .copy (.t 7)⟩, ⟨none, some 36, .len (.t 35)⟩, ⟨none, some 37, .bin .lss (.t 34) (.t 36)⟩] [] []) (.cond (.t 37) .skip (.exit 0))) (.block 1 (.reg [⟨none, some 38, .copy (.t 8)⟩, ⟨none, some 39, .copy (.t 7)⟩, ⟨none, some 40, .copy (.t 8)⟩, ⟨none, some 41, .slice 1 (.t 39) (some (.t 40)) none none⟩, ⟨none, some 42, .copy (.t 7)⟩, ⟨none, some 43, .copy (.t 8)⟩, ⟨none, some 44, .slice 1 (.t 42) none (some (.t 43)) none⟩, ⟨none, some 45, .copyS 1 (.t 41) (.t 44)⟩, ⟨none, some 46, .bin .add (.t 38) (.t 45)⟩, ⟨none, some 8, .copy (.t 46)⟩] [] [])))
def ir141 : IFn := ⟨(.seq (.reg [⟨none, some 4, .copy (.c nilS)⟩] [] []) (.seq (.seq (.reg [⟨none, some 9, .copy (.t 1)⟩, ⟨none, some 10, .bin .lss (.t 9) (.c (.lit (.int .i64 0)))⟩] [] []) (.cond (.t 10) (.reg [⟨none, some 11, .mkIface 9 (.c (.lit (.string ⟨#[99, 97, 110, 110, 111, 116, 32, 98, 101, 32, 110, 101, 103, 97, 116, 105, 118, 101]⟩)))⟩, ⟨none, none, .fail⟩] [] []) .skip)) (.seq (.reg [⟨none, some 13, .copy (.t 0)⟩, ⟨none, some 14, .len (.t 13)⟩, ⟨none, some 15, .toInt .u64 (.t 14)⟩, ⟨none, some 16, .copy (.t 1)⟩, ⟨none, some 17, .toInt .u64 (.t 16)⟩, ⟨none, some 18, .call 165 [(.t 15), (.t 17)]⟩, ⟨none, some 12, .copy (.t 18)⟩, ⟨none, some 19, .extract (.t 12) 0⟩, ⟨none, some 20, .extract (.t 12) 1⟩, ⟨none, some 5, .copy (.t 19)⟩, ⟨none, some 6, .copy (.t 20)⟩] [] []) (.seq (.seq (.reg [⟨none, some 21, .copy (.t 5)⟩, ⟨none, some 22, .bin .gtr (.t 21) (.c (.lit (.int .u64 0)))⟩, ⟨none, some 23, .copy (.t 22)⟩, ⟨some (23, false), some 24, .copy (.t 6)⟩, ⟨some (23, false), some 25, .bin .gtr (.t 24) (.c (.lit (.int .u64 9223372036854775807)))⟩, ⟨none, some 26, .pick (.t 23) (.c (.lit (.bool true))) (.t 25)⟩] [] []) (.cond (.t 26) (.reg [⟨none, some 27, .mkIface 9 (.c (.lit (.string ⟨#[116, 104, 101, 32, 114, 101, 115, 117, 108, 116, 32, 111, 102, 32, 40, 108, 101, 110, 40, 120, 41, 32, 42, 32, 99, 111, 117, 110, 116, 41, 32, 111, 118, 101, 114, 102, 108, 111, 119, 115]⟩)))⟩, ⟨none, none, .fail⟩] [] []) .skip)) (.seq (.reg [⟨none, some 28, .copy (.t 6)⟩, ⟨none, some 29, .toInt .i64 (.t 28)⟩, ⟨none, some 30, .make true 1 8 [(.lit (.int .i64 0))] (.t 29) (.t 29)⟩, ⟨none, some 7, .copy (.t 30)⟩] [] []) (.seq (.reg [⟨none, some 31, .copy (.t 7)⟩, ⟨none, some 32, .copy (.t 0)⟩, ⟨none, some 33, .copyS 1 (.t 31) (.t 32)⟩, ⟨none, some 8, .copy (.t 33)⟩] [] []) (.seq (.block 0 (.loop [7, 8] L141_0)) (.seq (.reg [⟨none, some 47, .copy (.t 7)⟩, ⟨none, some 4, .copy (.t 47)⟩] [] []) .ret)))))))), [.tmp 4]⟩
/- bits.Check -/
def ir142 : IFn := ⟨(.seq (.reg [⟨none, some 2, .copy (.c (.lit (.int .i64 0)))⟩] [] []) (.seq (.reg [⟨none, some 3, .copy (.t 0)⟩, ⟨none, some 4, .call 166 [(.t 3), (.c (.func (.func 167) [] []))]⟩, ⟨none, some 2, .copy (.t 4)⟩] [] []) .ret)), [.tmp 2]⟩
/- stuff.Add$1 -/
def ir143 : IFn := ⟨(.seq (.reg [⟨none, some 4, .copy (.c (.lit (.bool false)))⟩] [] []) (.seq (.seq (.reg [⟨none, some 5, .load false 1 (.t 1)⟩, ⟨none, some 6, .len (.t 5)⟩, ⟨none, some 7, .bin .gtr (.t 6) (.c (.lit (.int .i64 0)))⟩, ⟨none, some 8, .copy (.t 7)⟩, ⟨some (8, true), some 9, .load false 1 (.t 1)⟩, ⟨some (8, true), some 10, .load false 1 (.t 1)⟩, ⟨some (8, true), some 11, .len (.t 10)⟩, ⟨some (8, true), some 12, .bin .sub (.t 11) (.c (.lit (.int .i64 1)))⟩, ⟨some (8, true), some 13, .idxS 1 (.t 9) (.t 12)⟩, ⟨some (8, true), some 14, .load false 1 (.t 13)⟩, ⟨some (8, true), some 15, .copy (.t 0)⟩, ⟨some (8, true), some 16, .bin .eql (.t 14) (.t 15)⟩, ⟨none, some 17, .pick (.t 8) (.t 16) (.c (.lit (.bool false)))⟩] [] []) (.cond (.t 17) (.reg [⟨none, some 18, .load false 1 (.t 2)⟩, ⟨none, some 19, .bin .add (.t 18) (.c (.lit (.int .i64 1)))⟩, ⟨none, none, .store 1 (.t 2) (.t 19)⟩] [] []) (.reg [⟨none, none, .store 1 (.t 2) (.c (.lit (.int .i64 1)))⟩] [] []))) (.seq (.reg [⟨none, some 20, .load false 1 (.t 1)⟩, ⟨none, some 21, .copy (.t 0)⟩, ⟨none, some 22, .mkSlice true 1 [(.lit (.int .i64 0))] 1 [(0, (.t 21))]⟩, ⟨none, some 23, .append true 1 8 (.t 20) (.t 22)⟩, ⟨none, none, .store 1 (.t 1) (.t 23)⟩] [] []) (.seq (.reg [⟨none, some 24, .load false 1 (.t 2)⟩, ⟨none, some 25, .bin .eql (.t 24) (.c (.lit (.int .i64 5)))⟩, ⟨none, some 4, .copy (.t 25)⟩] [] []) .ret)))), [.tmp 4]⟩
/- stuff.other -/
def ir144 : IFn := ⟨(.seq (.reg [⟨none, some 2, .copy (.c (.lit (.int .i64 0)))⟩] [] []) (.seq (.reg [⟨none, some 3, .copy (.t 0)⟩, ⟨none, some 4, .bin .sub (.c (.lit (.int .i64 1))) (.t 3)⟩, ⟨none, some 2, .copy (.t 4)⟩] [] []) .ret)), [.tmp 2]⟩
/- tap.Each$1 -/
def L157_1 : ICode := (.seq (.reg [⟨none, some 18, .bin .lss (.t 17) (.t 16)⟩] [] []) (.seq (.cond (.t 18) .skip (.exit 2)) (.seq (.block 3 (.seq (.seq (.reg [⟨none, some 19, .copy (.t 0)⟩, ⟨none, some 20, .copy (.t 3)⟩, ⟨none, some 21, .fieldA 1 (.t 5)⟩, ⟨none, some 22, .load false 1 (.t 21)⟩, ⟨none, some 23, .fieldA 2 (.t 5)⟩, ⟨none, some 24, .load false 1 (.t 23)⟩, ⟨none, some 25, .build [(.lit (.int .i64 0)), (.lit (.int .i64 0)), (.lit (.int .u32 0))] [(0, 1, (.c (.lit (.int .i64 1)))), (1, 1, (.t 22)), (2, 1, (.t 24))]⟩, ⟨none, some 26, .callV (.t 19) [(.t 20), (.t 25)]⟩, ⟨none, some 27, .un .not (.t 26)⟩] [] []) (.cond (.t 27) .ret .skip)) (.reg [⟨none, some 28, .copy (.t 3)⟩, ⟨none, some 29, .bin .add (.t 28) (.c (.lit (.int .i64 1)))⟩, ⟨none, some 3, .copy (.t 29)⟩] [] []))) (.reg [⟨none, some 30, .bin .add (.t 17) (.c (.lit (.int .i64 1)))⟩, ⟨none, some 17, .copy (.t 30)⟩] [] []))))
def L157_0 : ICode := (.seq (.reg [⟨none, some 12, .bin .lss (.t 11) (.t 10)⟩] [] []) (.seq (.cond (.t 12) .skip (.exit 0)) (.seq (.block 1 (.seq (.reg [⟨none, some 13, .idxS 3 (.t 9) (.t 11)⟩, ⟨none, some 14, .load true 3 (.t 13)⟩, ⟨none, some 5, .alloc [(.lit (.int .i64 0)), (.lit (.int .i64 0)), (.lit (.int .u32 0))]⟩, ⟨none, none, .store 3 (.t 5) (.t 14)⟩] [] []) (.seq (.reg [⟨none, some 15, .fieldA 0 (.t 5)⟩, ⟨none, some 16, .load false 1 (.t 15)⟩, ⟨none, some 17, .copy (.c (.lit (.int .i64 0)))⟩] [] []) (.block 2 (.loop [0, 3, 5, 9, 10, 11, 16, 17] L157_1))))) (.reg [⟨none, some 31, .bin .add (.t 11) (.c (.lit (.int .i64 1)))⟩, ⟨none, some 11, .copy (.t 31)⟩] [] []))))
def ir157 : IFn := ⟨(.seq (.seq (.reg [⟨none, some 6, .load false 1 (.t 1)⟩, ⟨none, some 7, .call 99 [(.t 6)]⟩, ⟨none, some 8, .bin .neq (.t 7) (.c (.lit (.int .i64 0)))⟩] [] []) (.cond (.t 8) .ret .skip)) (.seq (.reg [⟨none, some 3, .copy (.c (.lit (.int .i64 0)))⟩] [] []) (.seq (.reg [⟨none, some 9, .load false 1 (.t 1)⟩, ⟨none, some 10, .len (.t 9)⟩, ⟨none, some 11, .copy (.c (.lit (.int .i64 0)))⟩] [] []) (.block 0 (.loop [0, 3, 9, 10, 11] L157_0))))), []⟩
/- frame.Arb -/
def ir158 : IFn := ⟨(.seq (.reg [⟨none, some 1, .box 12 (.t 0)⟩, ⟨none, some 2, .copy (.c nilS)⟩, ⟨none, some 3, .copy (.c (.lit (.int .i64 0)))⟩] [] []) (.seq (.seq (.reg [⟨none, some 10, .load true 12 (.t 1)⟩, ⟨none, some 11, .call 172 [(.t 10)]⟩, ⟨none, some 4, .copy (.t 11)⟩] [] []) (.seq (.reg [⟨none, some 12, .copy (.t 4)⟩, ⟨none, some 13, .bin .neq (.t 12) (.c (.lit (.int .i64 0)))⟩] [] []) (.cond (.t 13) (.seq (.reg [⟨none, some 14, .copy (.t 4)⟩, ⟨none, some 2, .copy (.c nilS)⟩, ⟨none, some 3, .copy (.t 14)⟩] [] []) .ret) .skip))) (.seq (.seq (.reg [⟨none, some 15, .fieldA 1 (.t 1)⟩, ⟨none, some 16, .load false 1 (.t 15)⟩, ⟨none, some 17, .un .not (.t 16)⟩] [] []) (.cond (.t 17) (.seq (.reg [⟨none, some 19, .fieldA 0 (.t 1)⟩, ⟨none, some 20, .load false 1 (.t 19)⟩, ⟨none, some 21, .toInt .u64 (.t 20)⟩, ⟨none, some 22, .call 160 [(.t 21), (.c (.lit (.int .i64 11)))]⟩, ⟨none, some 18, .copy (.t 22)⟩, ⟨none, some 23, .extract (.t 18) 0⟩, ⟨none, some 24, .extract (.t 18) 1⟩, ⟨none, some 5, .copy (.t 23)⟩, ⟨none, some 6, .copy (.t 24)⟩] [] []) (.seq (.reg [⟨none, some 25, .copy (.t 5)⟩, ⟨none, some 26, .fieldA 2 (.t 1)⟩, ⟨none, some 27, .load false 1 (.t 26)⟩, ⟨none, some 28, .call 173 [(.t 27)]⟩, ⟨none, some 29, .mkSlice true 1 [(.lit (.int .i64 0))] 2 [(0, (.t 28)), (1, (.c (.lit (.int .i64 0))))]⟩, ⟨none, some 30, .append true 1 8 (.t 25) (.t 29)⟩, ⟨none, some 31, .copy (.t 6)⟩, ⟨none, some 2, .copy (.t 30)⟩, ⟨none, some 3, .copy (.t 31)⟩] [] []) .ret)) .skip)) (.seq (.reg [⟨none, some 33, .fieldA 0 (.t 1)⟩, ⟨none, some 34, .load false 1 (.t 33)⟩, ⟨none, some 35, .toInt .u64 (.t 34)⟩, ⟨none, some 36, .bin .shr (.t 35) (.c (.lit (.int .u64 18)))⟩, ⟨none, some 37, .call 160 [(.t 36), (.c (.lit (.int .i64 11)))]⟩, ⟨none, some 32, .copy (.t 37)⟩, ⟨none, some 38, .extract (.t 32) 0⟩, ⟨none, some 39, .extract (.t 32) 1⟩, ⟨none, some 7, .copy (.t 38)⟩, ⟨none, some 8, .copy (.t 39)⟩] [] []) (.seq (.seq (.reg [⟨none, some 40, .copy (.t 8)⟩, ⟨none, some 41, .bin .neq (.t 40) (.c (.lit (.int .i64 0)))⟩] [] []) (.cond (.t 41) (.seq (.reg [⟨none, some 42, .copy (.t 8)⟩, ⟨none, some 2, .copy (.c nilS)⟩, ⟨none, some 3, .copy (.t 42)⟩] [] []) .ret) .skip)) (.seq (.reg [⟨none, some 44, .fieldA 0 (.t 1)⟩, ⟨none, some 45, .load false 1 (.t 44)⟩, ⟨none, some 46, .toInt .u64 (.t 45)⟩, ⟨none, some 47, .call 160 [(.t 46), (.c (.lit (.int .i64 18)))]⟩, ⟨none, some 43, .copy (.t 47)⟩, ⟨none, some 48, .extract (.t 43) 0⟩, ⟨none, some 49, .extract (.t 43) 1⟩, ⟨none, some 9, .copy (.t 48)⟩, ⟨none, some 8, .copy (.t 49)⟩] [] []) (.seq (.reg [⟨none, some 50, .copy (.t 7)⟩, ⟨none, some 51, .mkSlice true 1 [(.lit (.int .i64 0))] 2 [(0, (.c (.lit (.int .i64 1)))), (1, (.c (.lit (.int .i64 1))))]⟩, ⟨none, some 52, .copy (.t 9)⟩, ⟨none, some 53, .fieldA 2 (.t 1)⟩, ⟨none, some 54, .load false 1 (.t 53)⟩, ⟨none, some 55, .call 173 [(.t 54)]⟩, ⟨none, some 56, .mkSlice true 1 [(.lit (.int .i64 0))] 1 [(0, (.t 55))]⟩, ⟨none, some 57, .mkSlice true 1 [nilS] 4 [(0, (.t 50)), (1, (.t 51)), (2, (.t 52)), (3, (.t 56))]⟩, ⟨none, some 58, .call 140 [(.t 57)]⟩, ⟨none, some 59, .copy (.t 8)⟩, ⟨none, some 2, .copy (.t 58)⟩, ⟨none, some 3, .copy (.t 59)⟩] [] []) .ret))))))), [.tmp 2, .tmp 3]⟩
/- field.Bits$1 -/
def ir159 : IFn := ⟨(.seq (.reg [⟨none, some 9, .copy (.t 0)⟩, ⟨none, some 10, .copy (.t 1)⟩, ⟨none, some 11, .call 160 [(.t 9), (.t 10)]⟩, ⟨none, some 8, .copy (.t 11)⟩, ⟨none, some 12, .extract (.t 8) 0⟩, ⟨none, some 13, .extract (.t 8) 1⟩, ⟨none, some 6, .copy (.t 12)⟩, ⟨none, some 7, .copy (.t 13)⟩] [] []) (.seq (.seq (.reg [⟨none, some 14, .copy (.t 7)⟩, ⟨none, some 15, .bin .neq (.t 14) (.c (.lit (.int .i64 0)))⟩] [] []) (.cond (.t 15) (.reg [⟨none, some 16, .copy (.t 7)⟩, ⟨none, none, .store 1 (.t 2) (.t 16)⟩] [] []) .skip)) (.reg [⟨none, some 17, .load false 1 (.t 3)⟩, ⟨none, some 18, .copy (.t 6)⟩, ⟨none, some 19, .append true 1 8 (.t 17) (.t 18)⟩, ⟨none, none, .store 1 (.t 3) (.t 19)⟩] [] []))), []⟩
/- bits.Of -/
def L160_0 : ICode := (.seq (.reg [⟨none, some 18, .bin .lss (.t 17) (.t 16)⟩] [] []) (.seq (.cond (.t 18) .skip (.exit 0)) (.seq (.block 1 (.seq (.reg [⟨none, some 19, .copy (.t 17)⟩, ⟨none, some 7, .copy (.t 19)⟩] [] []) (.reg [⟨none, some 20, .copy (.t 6)⟩, ⟨none, some 21, .copy (.t 1)⟩, ⟨none, some 22, .bin .sub (.t 21) (.c (.lit (.int .i64 1)))⟩, ⟨none, some 23, .copy (.t 7)⟩, ⟨none, some 24, .bin .sub (.t 22) (.t 23)⟩, ⟨none, some 25, .copy (.t 0)⟩, ⟨none, some 26, .copy (.t 7)⟩, ⟨none, some 27, .bin .shr (.t 25) (.t 26)⟩, ⟨none, some 28, .bin .and (.t 27) (.c (.lit (.int .u64 1)))⟩, ⟨none, some 29, .toInt .i64 (.t 28)⟩, ⟨none, some 30, .idxS 1 (.t 20) (.t 24)⟩, ⟨none, none, .store 1 (.t 30) (.t 29)⟩] [] []))) (.reg [⟨none, some 31, .bin .add (.t 17) (.c (.lit (.int .i64 1)))⟩, ⟨none, some 17, .copy (.t 31)⟩] [] []))))
def ir160 : IFn := ⟨(.seq (.reg [⟨none, some 4, .copy (.c nilS)⟩, ⟨none, some 5, .copy (.c (.lit (.int .i64 0)))⟩] [] []) (.seq (.seq (.reg [⟨none, some 8, .copy (.t 1)⟩, ⟨none, some 9, .bin .lss (.t 8) (.c (.lit (.int .i64 0)))⟩, ⟨none, some 10, .copy (.t 9)⟩, ⟨some (10, false), some 11, .copy (.t 1)⟩, ⟨some (10, false), some 12, .bin .gtr (.t 11) (.c (.lit (.int .i64 64)))⟩, ⟨none, some 13, .pick (.t 10) (.c (.lit (.bool true))) (.t 12)⟩] [] []) (.cond (.t 13) (.seq (.reg [⟨none, some 4, .copy (.c nilS)⟩, ⟨none, some 5, .copy (.c (.lit (.int .i64 10)))⟩] [] []) .ret) .skip)) (.seq (.reg [⟨none, some 14, .copy (.t 1)⟩, ⟨none, some 15, .make true 1 8 [(.lit (.int .i64 0))] (.t 14) (.t 14)⟩, ⟨none, some 6, .copy (.t 15)⟩] [] []) (.seq (.seq (.reg [⟨none, some 16, .copy (.t 1)⟩, ⟨none, some 17, .copy (.c (.lit (.int .i64 0)))⟩] [] []) (.block 0 (.loop [0, 1, 6, 16, 17] L160_0))) (.seq (.reg [⟨none, some 32, .copy (.t 6)⟩, ⟨none, some 4, .copy (.t 32)⟩, ⟨none, some 5, .copy (.c (.lit (.int .i64 0)))⟩] [] []) .ret))))), [.tmp 4, .tmp 5]⟩
/- crc15.Sum$1 -/
def ir161 : IFn := ⟨(.reg [⟨none, some 3, .load false 1 (.t 1)⟩, ⟨none, some 4, .copy (.t 0)⟩, ⟨none, some 5, .call 162 [(.t 3), (.t 4)]⟩, ⟨none, none, .store 1 (.t 1) (.t 5)⟩] [] []), []⟩
/- crc15.step -/
def ir162 : IFn := ⟨(.seq (.reg [⟨none, some 4, .copy (.c (.lit (.int .i64 0)))⟩] [] []) (.seq (.reg [⟨none, some 6, .copy (.t 0)⟩, ⟨none, some 7, .bin .shl (.t 6) (.c (.lit (.int .u64 1)))⟩, ⟨none, some 8, .bin .and (.t 7) (.c (.lit (.int .i64 32767)))⟩, ⟨none, some 5, .copy (.t 8)⟩] [] []) (.seq (.seq (.reg [⟨none, some 9, .copy (.t 0)⟩, ⟨none, some 10, .bin .and (.t 9) (.c (.lit (.int .i64 16384)))⟩, ⟨none, some 11, .bin .neq (.t 10) (.c (.lit (.int .i64 0)))⟩, ⟨none, some 12, .copy (.t 1)⟩, ⟨none, some 13, .bin .eql (.t 12) (.c (.lit (.int .i64 1)))⟩, ⟨none, some 14, .eqB true (.t 11) (.t 13)⟩] [] []) (.cond (.t 14) (.reg [⟨none, some 15, .copy (.t 5)⟩, ⟨none, some 16, .bin .xor (.t 15) (.c (.lit (.int .i64 17817)))⟩, ⟨none, some 5, .copy (.t 16)⟩] [] []) .skip)) (.seq (.reg [⟨none, some 17, .copy (.t 5)⟩, ⟨none, some 4, .copy (.t 17)⟩] [] []) .ret)))), [.tmp 4]⟩
/- crc15.may -/
def ir163 : IFn := ⟨(.seq (.reg [⟨none, some 2, .copy (.c (.lit (.bool false)))⟩] [] []) (.seq (.reg [⟨none, some 3, .copy (.t 0)⟩, ⟨none, some 4, .bin .geq (.t 3) (.c (.lit (.int .i64 0)))⟩, ⟨none, some 5, .copy (.t 4)⟩, ⟨some (5, true), some 6, .copy (.t 0)⟩, ⟨some (5, true), some 7, .bin .leq (.t 6) (.c (.lit (.int .i64 32767)))⟩, ⟨none, some 8, .pick (.t 5) (.t 7) (.c (.lit (.bool false)))⟩, ⟨none, some 2, .copy (.t 8)⟩] [] []) .ret)), [.tmp 2]⟩
/- slices.Grow[[]int,int] -/
def ir164 : IFn := ⟨(.seq (.reg [⟨none, some 4, .copy (.c nilS)⟩] [] []) (.seq (.seq (.reg [⟨none, some 5, .copy (.t 1)⟩, ⟨none, some 6, .bin .lss (.t 5) (.c (.lit (.int .i64 0)))⟩] [] []) (.cond (.t 6) (.reg [⟨none, some 7, .mkIface 9 (.c (.lit (.string ⟨#[99, 97, 110, 110, 111, 116, 32, 98, 101, 32, 110, 101, 103, 97, 116, 105, 118, 101]⟩)))⟩, ⟨none, none, .fail⟩] [] []) .skip)) (.seq (.seq (.reg [⟨none, some 8, .copy (.t 1)⟩, ⟨none, some 9, .copy (.t 0)⟩, ⟨none, some 10, .cap (.t 9)⟩, ⟨none, some 11, .copy (.t 0)⟩, ⟨none, some 12, .len (.t 11)⟩, ⟨none, some 13, .bin .sub (.t 10) (.t 12)⟩, ⟨none, some 14, .bin .sub (.t 8) (.t 13)⟩, ⟨none, some 1, .copy (.t 14)⟩] [] []) (.seq (.reg [⟨none, some 15, .copy (.t 1)⟩, ⟨none, some 16, .bin .gtr (.t 15) (.c (.lit (.int .i64 0)))⟩] [] []) (.cond (.t 16) (.reg [⟨none, some 17, .copy (.t 0)⟩, ⟨none, some 18, .copy (.t 0)⟩, ⟨none, some 19, .cap (.t 18)⟩, ⟨none, some 20, .slice 1 (.t 17) none (some (.t 19)) none⟩, ⟨none, some 21, .copy (.t 1)⟩, ⟨none, some 22, .appendZ true 1 8 [(.lit (.int .i64 0))] (.t 20) (.t 21)⟩, ⟨none, some 23, .copy (.t 0)⟩, ⟨none, some 24, .len (.t 23)⟩, ⟨none, some 25, .slice 1 (.t 22) none (some (.t 24)) none⟩, ⟨none, some 0, .copy (.t 25)⟩] [] []) .skip))) (.seq (.reg [⟨none, some 26, .copy (.t 0)⟩, ⟨none, some 4, .copy (.t 26)⟩] [] []) .ret)))), [.tmp 4]⟩
/- bits.Mul -/
def ir165 : IFn := ⟨(.seq (.reg [⟨none, some 4, .copy (.c (.lit (.int .u64 0)))⟩, ⟨none, some 5, .copy (.c (.lit (.int .u64 0)))⟩] [] []) (.seq (.cond (.c (.lit (.bool false))) (.seq (.reg [⟨none, some 11, .copy (.t 0)⟩, ⟨none, some 12, .toInt .u32 (.t 11)⟩, ⟨none, some 13, .copy (.t 1)⟩, ⟨none, some 14, .toInt .u32 (.t 13)⟩, ⟨none, some 15, .call 174 [(.t 12), (.t 14)]⟩, ⟨none, some 10, .copy (.t 15)⟩, ⟨none, some 16, .extract (.t 10) 0⟩, ⟨none, some 17, .extract (.t 10) 1⟩, ⟨none, some 6, .copy (.t 16)⟩, ⟨none, some 7, .copy (.t 17)⟩] [] []) (.seq (.reg [⟨none, some 18, .copy (.t 6)⟩, ⟨none, some 19, .toInt .u64 (.t 18)⟩, ⟨none, some 20, .copy (.t 7)⟩, ⟨none, some 21, .toInt .u64 (.t 20)⟩, ⟨none, some 4, .copy (.t 19)⟩, ⟨none, some 5, .copy (.t 21)⟩] [] []) .ret)) .skip) (.seq (.reg [⟨none, some 23, .copy (.t 0)⟩, ⟨none, some 24, .copy (.t 1)⟩, ⟨none, some 25, .call 175 [(.t 23), (.t 24)]⟩, ⟨none, some 22, .copy (.t 25)⟩, ⟨none, some 26, .extract (.t 22) 0⟩, ⟨none, some 27, .extract (.t 22) 1⟩, ⟨none, some 8, .copy (.t 26)⟩, ⟨none, some 9, .copy (.t 27)⟩] [] []) (.seq (.reg [⟨none, some 28, .copy (.t 8)⟩, ⟨none, some 29, .copy (.t 9)⟩, ⟨none, some 4, .copy (.t 28)⟩, ⟨none, some 5, .copy (.t 29)⟩] [] []) .ret)))), [.tmp 4, .tmp 5]⟩
/- slices.IndexFunc[[]int,int] -/
def L166_0 : ICode := (.seq (.reg [⟨none, some 9, .bin .lss (.t 8) (.t 7)⟩] [] []) (.seq (.cond (.t 9) .skip (.exit 0)) (.seq (.block 1 (.seq (.reg [⟨none, some 10, .copy (.t 8)⟩, ⟨none, some 5, .copy (.t 10)⟩] [] []) (.seq (.reg [⟨none, some 11, .copy (.t 1)⟩, ⟨none, some 12, .copy (.t 0)⟩, ⟨none, some 13, .copy (.t 5)⟩, ⟨none, some 14, .idxS 1 (.t 12) (.t 13)⟩, ⟨none, some 15, .load false 1 (.t 14)⟩, ⟨none, some 16, .callV (.t 11) [(.t 15)]⟩] [] []) (.cond (.t 16) (.seq (.reg [⟨none, some 17, .copy (.t 5)⟩, ⟨none, some 4, .copy (.t 17)⟩] [] []) .ret) .skip)))) (.reg [⟨none, some 18, .bin .add (.t 8) (.c (.lit (.int .i64 1)))⟩, ⟨none, some 8, .copy (.t 18)⟩] [] []))))
def ir166 : IFn := ⟨(.seq (.reg [⟨none, some 4, .copy (.c (.lit (.int .i64 0)))⟩] [] []) (.seq (.seq (.reg [⟨none, some 6, .copy (.t 0)⟩, ⟨none, some 7, .len (.t 6)⟩, ⟨none, some 8, .copy (.c (.lit (.int .i64 0)))⟩] [] []) (.block 0 (.loop [0, 1, 7, 8] L166_0))) (.seq (.reg [⟨none, some 4, .copy (.c (.lit (.int .i64 (-1))))⟩] [] []) .ret))), [.tmp 4]⟩
/- bits.Check$1 -/
def ir167 : IFn := ⟨(.seq (.reg [⟨none, some 2, .copy (.c (.lit (.bool false)))⟩] [] []) (.seq (.reg [⟨none, some 3, .copy (.t 0)⟩, ⟨none, some 4, .call 168 [(.t 3)]⟩, ⟨none, some 5, .un .not (.t 4)⟩, ⟨none, some 2, .copy (.t 5)⟩] [] []) .ret)), [.tmp 2]⟩
/- bits.level -/
def ir168 : IFn := ⟨(.seq (.reg [⟨none, some 2, .copy (.c (.lit (.bool false)))⟩] [] []) (.seq (.reg [⟨none, some 3, .copy (.t 0)⟩, ⟨none, some 4, .bin .eql (.t 3) (.c (.lit (.int .i64 0)))⟩, ⟨none, some 5, .copy (.t 4)⟩, ⟨some (5, false), some 6, .copy (.t 0)⟩, ⟨some (5, false), some 7, .bin .eql (.t 6) (.c (.lit (.int .i64 1)))⟩, ⟨none, some 8, .pick (.t 5) (.c (.lit (.bool true))) (.t 7)⟩, ⟨none, some 2, .copy (.t 8)⟩] [] []) .ret)), [.tmp 2]⟩
/- frame.Check -/
def ir172 : IFn := ⟨(.seq (.reg [⟨none, some 1, .box 12 (.t 0)⟩, ⟨none, some 2, .copy (.c (.lit (.int .i64 0)))⟩] [] []) (.seq (.reg [⟨none, some 3, .copy (.c (.lit (.int .i64 2047)))⟩] [] []) (.seq (.seq (.reg [⟨none, some 5, .fieldA 1 (.t 1)⟩, ⟨none, some 6, .load false 1 (.t 5)⟩] [] []) (.cond (.t 6) (.reg [⟨none, some 3, .copy (.c (.lit (.int .i64 536870911)))⟩] [] []) .skip)) (.seq (.reg [⟨none, some 7, .fieldA 3 (.t 1)⟩, ⟨none, some 8, .load false 1 (.t 7)⟩, ⟨none, some 4, .copy (.t 8)⟩] [] []) (.seq (.seq (.reg [⟨none, some 9, .fieldA 2 (.t 1)⟩, ⟨none, some 10, .load false 1 (.t 9)⟩] [] []) (.cond (.t 10) (.reg [⟨none, some 4, .copy (.c (.lit (.int .i64 0)))⟩] [] []) .skip)) (.seq (.block 0 (.seq (.seq (.reg [⟨none, some 12, .fieldA 0 (.t 1)⟩, ⟨none, some 13, .load false 1 (.t 12)⟩, ⟨none, some 14, .bin .lss (.t 13) (.c (.lit (.int .i64 0)))⟩, ⟨none, some 15, .copy (.t 14)⟩, ⟨some (15, false), some 16, .fieldA 0 (.t 1)⟩, ⟨some (15, false), some 17, .load false 1 (.t 16)⟩, ⟨some (15, false), some 18, .copy (.t 3)⟩, ⟨some (15, false), some 19, .bin .gtr (.t 17) (.t 18)⟩, ⟨none, some 20, .pick (.t 15) (.c (.lit (.bool true))) (.t 19)⟩, ⟨none, some 11, .copy (.t 20)⟩] [] []) (.cond (.t 11) .skip (.reg [⟨none, some 21, .fieldA 3 (.t 1)⟩, ⟨none, some 22, .load false 1 (.t 21)⟩, ⟨none, some 23, .bin .lss (.t 22) (.c (.lit (.int .i64 0)))⟩, ⟨none, some 24, .copy (.t 23)⟩, ⟨some (24, false), some 25, .fieldA 3 (.t 1)⟩, ⟨some (24, false), some 26, .load false 1 (.t 25)⟩, ⟨some (24, false), some 27, .bin .gtr (.t 26) (.c (.lit (.int .i64 8)))⟩, ⟨none, some 28, .pick (.t 24) (.c (.lit (.bool true))) (.t 27)⟩, ⟨none, some 11, .copy (.t 28)⟩] [] []))) (.cond (.t 11) (.seq (.reg [⟨none, some 2, .copy (.c (.lit (.int .i64 14)))⟩] [] []) .ret) (.seq (.reg [⟨none, some 30, .mkSlice true 1 [(.lit (.int .u8 0))] 1 [(0, (.c (.lit (.int .u8 0))))]⟩, ⟨none, some 31, .fieldA 4 (.t 1)⟩, ⟨none, some 32, .copy (.t 4)⟩, ⟨none, some 33, .sliceArr 8 1 (.t 31) (some (.t 32)) none⟩, ⟨none, some 34, .append true 1 1 (.t 30) (.t 33)⟩, ⟨none, some 35, .call 177 [(.t 34)]⟩, ⟨none, some 36, .bin .gtr (.t 35) (.c (.lit (.int .u8 0)))⟩, ⟨none, some 29, .copy (.t 36)⟩] [] []) (.cond (.t 29) (.seq (.reg [⟨none, some 2, .copy (.c (.lit (.int .i64 14)))⟩] [] []) .ret) .skip))))) (.seq (.reg [⟨none, some 2, .copy (.c (.lit (.int .i64 0)))⟩] [] []) .ret))))))), [.tmp 2]⟩
/- frame.level -/
def ir173 : IFn := ⟨(.seq (.reg [⟨none, some 2, .copy (.c (.lit (.int .i64 0)))⟩] [] []) (.seq (.seq (.reg [⟨none, some 3, .copy (.t 0)⟩] [] []) (.cond (.t 3) (.seq (.reg [⟨none, some 2, .copy (.c (.lit (.int .i64 1)))⟩] [] []) .ret) .skip)) (.seq (.reg [⟨none, some 2, .copy (.c (.lit (.int .i64 0)))⟩] [] []) .ret))), [.tmp 2]⟩
/- bits.Mul32 -/
def ir174 : IFn := ⟨(.seq (.reg [⟨none, some 4, .copy (.c (.lit (.int .u32 0)))⟩, ⟨none, some 5, .copy (.c (.lit (.int .u32 0)))⟩] [] []) (.seq (.reg [⟨none, some 7, .copy (.t 0)⟩, ⟨none, some 8, .toInt .u64 (.t 7)⟩, ⟨none, some 9, .copy (.t 1)⟩, ⟨none, some 10, .toInt .u64 (.t 9)⟩, ⟨none, some 11, .bin .mul (.t 8) (.t 10)⟩, ⟨none, some 6, .copy (.t 11)⟩] [] []) (.seq (.reg [⟨none, some 12, .copy (.t 6)⟩, ⟨none, some 13, .bin .shr (.t 12) (.c (.lit (.int .u64 32)))⟩, ⟨none, some 14, .toInt .u32 (.t 13)⟩, ⟨none, some 15, .copy (.t 6)⟩, ⟨none, some 16, .toInt .u32 (.t 15)⟩, ⟨none, some 4, .copy (.t 14)⟩, ⟨none, some 5, .copy (.t 16)⟩] [] []) .ret))), [.tmp 4, .tmp 5]⟩
/- bits.Mul64 -/
def ir175 : IFn := ⟨(.seq (.reg [⟨none, some 4, .copy (.c (.lit (.int .u64 0)))⟩, ⟨none, some 5, .copy (.c (.lit (.int .u64 0)))⟩] [] []) (.seq (.reg [⟨none, some 14, .copy (.t 0)⟩, ⟨none, some 15, .bin .and (.t 14) (.c (.lit (.int .u64 4294967295)))⟩, ⟨none, some 6, .copy (.t 15)⟩] [] []) (.seq (.reg [⟨none, some 16, .copy (.t 0)⟩, ⟨none, some 17, .bin .shr (.t 16) (.c (.lit (.int .u64 32)))⟩, ⟨none, some 7, .copy (.t 17)⟩] [] []) (.seq (.reg [⟨none, some 18, .copy (.t 1)⟩, ⟨none, some 19, .bin .and (.t 18) (.c (.lit (.int .u64 4294967295)))⟩, ⟨none, some 8, .copy (.t 19)⟩] [] []) (.seq (.reg [⟨none, some 20, .copy (.t 1)⟩, ⟨none, some 21, .bin .shr (.t 20) (.c (.lit (.int .u64 32)))⟩, ⟨none, some 9, .copy (.t 21)⟩] [] []) (.seq (.reg [⟨none, some 22, .copy (.t 6)⟩, ⟨none, some 23, .copy (.t 8)⟩, ⟨none, some 24, .bin .mul (.t 22) (.t 23)⟩, ⟨none, some 10, .copy (.t 24)⟩] [] []) (.seq (.reg [⟨none, some 25, .copy (.t 7)⟩, ⟨none, some 26, .copy (.t 8)⟩, ⟨none, some 27, .bin .mul (.t 25) (.t 26)⟩, ⟨none, some 28, .copy (.t 10)⟩, ⟨none, some 29, .bin .shr (.t 28) (.c (.lit (.int .u64 32)))⟩, ⟨none, some 30, .bin .add (.t 27) (.t 29)⟩, ⟨none, some 11, .copy (.t 30)⟩] [] []) (.seq (.reg [⟨none, some 31, .copy (.t 11)⟩, ⟨none, some 32, .bin .and (.t 31) (.c (.lit (.int .u64 4294967295)))⟩, ⟨none, some 12, .copy (.t 32)⟩] [] []) (.seq (.reg [⟨none, some 33, .copy (.t 11)⟩, ⟨none, some 34, .bin .shr (.t 33) (.c (.lit (.int .u64 32)))⟩, ⟨none, some 13, .copy (.t 34)⟩] [] []) (.seq (.reg [⟨none, some 35, .copy (.t 12)⟩, ⟨none, some 36, .copy (.t 6)⟩, ⟨none, some 37, .copy (.t 9)⟩, ⟨none, some 38, .bin .mul (.t 36) (.t 37)⟩, ⟨none, some 39, .bin .add (.t 35) (.t 38)⟩, ⟨none, some 12, .copy (.t 39)⟩] [] []) (.seq (.reg [⟨none, some 40, .copy (.t 7)⟩, ⟨none, some 41, .copy (.t 9)⟩, ⟨none, some 42, .bin .mul (.t 40) (.t 41)⟩, ⟨none, some 43, .copy (.t 13)⟩, ⟨none, some 44, .bin .add (.t 42) (.t 43)⟩, ⟨none, some 45, .copy (.t 12)⟩, ⟨none, some 46, .bin .shr (.t 45) (.c (.lit (.int .u64 32)))⟩, ⟨none, some 47, .bin .add (.t 44) (.t 46)⟩, ⟨none, some 4, .copy (.t 47)⟩] [] []) (.seq (.reg [⟨none, some 48, .copy (.t 0)⟩, ⟨none, some 49, .copy (.t 1)⟩, ⟨none, some 50, .bin .mul (.t 48) (.t 49)⟩, ⟨none, some 5, .copy (.t 50)⟩] [] []) .ret)))))))))))), [.tmp 4, .tmp 5]⟩
/- slices.Max[[]byte,byte] -/
def L177_0 : ICode := (.seq (.seq (.reg [⟨none, some 12, .copy (.t 4)⟩, ⟨none, some 13, .copy (.t 0)⟩, ⟨none, some 14, .len (.t 13)⟩, ⟨none, some 15, .bin .lss (.t 12) (.t 14)⟩] [] []) (.cond (.t 15) .skip (.exit 0))) (.seq (.block 1 (.reg [⟨none, some 18, .copy (.t 3)⟩, ⟨none, some 19, .copy (.t 0)⟩, ⟨none, some 20, .copy (.t 4)⟩, ⟨none, some 21, .idxS 1 (.t 19) (.t 20)⟩, ⟨none, some 22, .load false 1 (.t 21)⟩, ⟨none, some 23, .maxI (.t 18) [(.t 22)]⟩, ⟨none, some 3, .copy (.t 23)⟩] [] [])) (.reg [⟨none, some 16, .copy (.t 4)⟩, ⟨none, some 17, .bin .add (.t 16) (.c (.lit (.int .i64 1)))⟩, ⟨none, some 4, .copy (.t 17)⟩] [] [])))
def ir177 : IFn := ⟨(.seq (.reg [⟨none, some 2, .copy (.c (.lit (.int .u8 0)))⟩] [] []) (.seq (.seq (.reg [⟨none, some 5, .copy (.t 0)⟩, ⟨none, some 6, .len (.t 5)⟩, ⟨none, some 7, .bin .lss (.t 6) (.c (.lit (.int .i64 1)))⟩] [] []) (.cond (.t 7) (.reg [⟨none, some 8, .mkIface 9 (.c (.lit (.string ⟨#[115, 108, 105, 99, 101, 115, 46, 77, 97, 120, 58, 32, 101, 109, 112, 116, 121, 32, 108, 105, 115, 116]⟩)))⟩, ⟨none, none, .fail⟩] [] []) .skip)) (.seq (.reg [⟨none, some 9, .copy (.t 0)⟩, ⟨none, some 10, .idxS 1 (.t 9) (.c (.lit (.int .i64 0)))⟩, ⟨none, some 11, .load false 1 (.t 10)⟩, ⟨none, some 3, .copy (.t 11)⟩] [] []) (.seq (.seq (.reg [⟨none, some 4, .copy (.c (.lit (.int .i64 1)))⟩] [] []) (.block 0 (.loop [0, 3, 4] L177_0))) (.seq (.reg [⟨none, some 24, .copy (.t 3)⟩, ⟨none, some 2, .copy (.t 24)⟩] [] []) .ret))))), [.tmp 2]⟩
def lives : Nat → List (List Nat)
  | 35 => [[4, 20, 21, 22]]
  | 37 => [[1, 21, 22, 23]]
  | 39 => [[3, 12, 13, 14]]
  | 41 => [[0, 3, 4]]
  | 45 => [[0, 3, 4]]
  | 49 => [[4, 7, 8, 9]]
  | 98 => [[3, 7, 8, 9]]
  | 100 => [[3, 8]]
  | 102 => [[0, 1, 5]]
  | 104 => [[3, 5, 19, 20, 21]]
  | 135 => [[0, 1, 7, 8]]
  | 137 => [[6, 7, 8, 39, 40, 41]]
  | 138 => [[0, 4, 5, 12, 13]]
  | 140 => [[0, 3, 9, 10, 11], [6, 25, 26, 27]]
  | 141 => [[7, 8]]
  | 157 => [[0, 3, 9, 10, 11], [0, 3, 5, 9, 10, 11, 16, 17]]
  | 160 => [[0, 1, 6, 16, 17]]
  | 166 => [[0, 1, 7, 8]]
  | 177 => [[0, 3, 4]]
  | _ => []
theorem K7 : compF Try.prog (lives 7) 7 = some ir7 := by kernel_rfl
theorem K33 : compF Try.prog (lives 33) 33 = some ir33 := by kernel_rfl
theorem K35 : compF Try.prog (lives 35) 35 = some ir35 := by kernel_rfl
theorem K37 : compF Try.prog (lives 37) 37 = some ir37 := by kernel_rfl
theorem K39 : compF Try.prog (lives 39) 39 = some ir39 := by kernel_rfl
theorem K41 : compF Try.prog (lives 41) 41 = some ir41 := by kernel_rfl
theorem K42 : compF Try.prog (lives 42) 42 = some ir42 := by kernel_rfl
theorem K43 : compF Try.prog (lives 43) 43 = some ir43 := by kernel_rfl
theorem K44 : compF Try.prog (lives 44) 44 = some ir44 := by kernel_rfl
theorem K45 : compF Try.prog (lives 45) 45 = some ir45 := by kernel_rfl
theorem K46 : compF Try.prog (lives 46) 46 = some ir46 := by kernel_rfl
theorem K47 : compF Try.prog (lives 47) 47 = some ir47 := by kernel_rfl
theorem K49 : compF Try.prog (lives 49) 49 = some ir49 := by kernel_rfl
theorem K94 : compF Try.prog (lives 94) 94 = some ir94 := by kernel_rfl
theorem K95 : compF Try.prog (lives 95) 95 = some ir95 := by kernel_rfl
theorem K96 : compF Try.prog (lives 96) 96 = some ir96 := by kernel_rfl
theorem K97 : compF Try.prog (lives 97) 97 = some ir97 := by kernel_rfl
theorem K98 : compF Try.prog (lives 98) 98 = some ir98 := by kernel_rfl
theorem K99 : compF Try.prog (lives 99) 99 = some ir99 := by kernel_rfl
theorem K100 : compF Try.prog (lives 100) 100 = some ir100 := by kernel_rfl
theorem K101 : compF Try.prog (lives 101) 101 = some ir101 := by kernel_rfl
theorem K102 : compF Try.prog (lives 102) 102 = some ir102 := by kernel_rfl
theorem K103 : compF Try.prog (lives 103) 103 = some ir103 := by kernel_rfl
theorem K104 : compF Try.prog (lives 104) 104 = some ir104 := by kernel_rfl
theorem K106 : compF Try.prog (lives 106) 106 = some ir106 := by kernel_rfl
theorem K135 : compF Try.prog (lives 135) 135 = some ir135 := by kernel_rfl
theorem K136 : compF Try.prog (lives 136) 136 = some ir136 := by kernel_rfl
theorem K137 : compF Try.prog (lives 137) 137 = some ir137 := by kernel_rfl
theorem K138 : compF Try.prog (lives 138) 138 = some ir138 := by kernel_rfl
theorem K139 : compF Try.prog (lives 139) 139 = some ir139 := by kernel_rfl
theorem K140 : compF Try.prog (lives 140) 140 = some ir140 := by kernel_rfl
theorem K141 : compF Try.prog (lives 141) 141 = some ir141 := by kernel_rfl
theorem K142 : compF Try.prog (lives 142) 142 = some ir142 := by kernel_rfl
theorem K143 : compF Try.prog (lives 143) 143 = some ir143 := by kernel_rfl
theorem K144 : compF Try.prog (lives 144) 144 = some ir144 := by kernel_rfl
theorem K157 : compF Try.prog (lives 157) 157 = some ir157 := by kernel_rfl
theorem K158 : compF Try.prog (lives 158) 158 = some ir158 := by kernel_rfl
theorem K159 : compF Try.prog (lives 159) 159 = some ir159 := by kernel_rfl
theorem K160 : compF Try.prog (lives 160) 160 = some ir160 := by kernel_rfl
theorem K161 : compF Try.prog (lives 161) 161 = some ir161 := by kernel_rfl
theorem K162 : compF Try.prog (lives 162) 162 = some ir162 := by kernel_rfl
theorem K163 : compF Try.prog (lives 163) 163 = some ir163 := by kernel_rfl
theorem K164 : compF Try.prog (lives 164) 164 = some ir164 := by kernel_rfl
theorem K165 : compF Try.prog (lives 165) 165 = some ir165 := by kernel_rfl
theorem K166 : compF Try.prog (lives 166) 166 = some ir166 := by kernel_rfl
theorem K167 : compF Try.prog (lives 167) 167 = some ir167 := by kernel_rfl
theorem K168 : compF Try.prog (lives 168) 168 = some ir168 := by kernel_rfl
theorem K172 : compF Try.prog (lives 172) 172 = some ir172 := by kernel_rfl
theorem K173 : compF Try.prog (lives 173) 173 = some ir173 := by kernel_rfl
theorem K174 : compF Try.prog (lives 174) 174 = some ir174 := by kernel_rfl
theorem K175 : compF Try.prog (lives 175) 175 = some ir175 := by kernel_rfl
theorem K177 : compF Try.prog (lives 177) 177 = some ir177 := by kernel_rfl
/-- The functions that are gone through. -/
def tab : List (Nat × IFn) := [(7, ir7), (33, ir33), (35, ir35), (37, ir37), (39, ir39), (41, ir41), (42, ir42), (43, ir43), (44, ir44), (45, ir45), (46, ir46), (47, ir47), (49, ir49), (94, ir94), (95, ir95), (96, ir96), (97, ir97), (98, ir98), (99, ir99), (100, ir100), (101, ir101), (102, ir102), (103, ir103), (104, ir104), (106, ir106), (135, ir135), (136, ir136), (137, ir137), (138, ir138), (139, ir139), (140, ir140), (141, ir141), (142, ir142), (143, ir143), (144, ir144), (157, ir157), (158, ir158), (159, ir159), (160, ir160), (161, ir161), (162, ir162), (163, ir163), (164, ir164), (165, ir165), (166, ir166), (167, ir167), (168, ir168), (172, ir172), (173, ir173), (174, ir174), (175, ir175), (177, ir177)]
def E (f : Nat) : Option IFn := tab.lookup f
theorem E7 : E 7 = some ir7 := rfl
theorem E33 : E 33 = some ir33 := rfl
theorem E35 : E 35 = some ir35 := rfl
theorem E37 : E 37 = some ir37 := rfl
theorem E39 : E 39 = some ir39 := rfl
theorem E41 : E 41 = some ir41 := rfl
theorem E42 : E 42 = some ir42 := rfl
theorem E43 : E 43 = some ir43 := rfl
theorem E44 : E 44 = some ir44 := rfl
theorem E45 : E 45 = some ir45 := rfl
theorem E46 : E 46 = some ir46 := rfl
theorem E47 : E 47 = some ir47 := rfl
theorem E49 : E 49 = some ir49 := rfl
theorem E94 : E 94 = some ir94 := rfl
theorem E95 : E 95 = some ir95 := rfl
theorem E96 : E 96 = some ir96 := rfl
theorem E97 : E 97 = some ir97 := rfl
theorem E98 : E 98 = some ir98 := rfl
theorem E99 : E 99 = some ir99 := rfl
theorem E100 : E 100 = some ir100 := rfl
theorem E101 : E 101 = some ir101 := rfl
theorem E102 : E 102 = some ir102 := rfl
theorem E103 : E 103 = some ir103 := rfl
theorem E104 : E 104 = some ir104 := rfl
theorem E106 : E 106 = some ir106 := rfl
theorem E135 : E 135 = some ir135 := rfl
theorem E136 : E 136 = some ir136 := rfl
theorem E137 : E 137 = some ir137 := rfl
theorem E138 : E 138 = some ir138 := rfl
theorem E139 : E 139 = some ir139 := rfl
theorem E140 : E 140 = some ir140 := rfl
theorem E141 : E 141 = some ir141 := rfl
theorem E142 : E 142 = some ir142 := rfl
theorem E143 : E 143 = some ir143 := rfl
theorem E144 : E 144 = some ir144 := rfl
theorem E157 : E 157 = some ir157 := rfl
theorem E158 : E 158 = some ir158 := rfl
theorem E159 : E 159 = some ir159 := rfl
theorem E160 : E 160 = some ir160 := rfl
theorem E161 : E 161 = some ir161 := rfl
theorem E162 : E 162 = some ir162 := rfl
theorem E163 : E 163 = some ir163 := rfl
theorem E164 : E 164 = some ir164 := rfl
theorem E165 : E 165 = some ir165 := rfl
theorem E166 : E 166 = some ir166 := rfl
theorem E167 : E 167 = some ir167 := rfl
theorem E168 : E 168 = some ir168 := rfl
theorem E172 : E 172 = some ir172 := rfl
theorem E173 : E 173 = some ir173 := rfl
theorem E174 : E 174 = some ir174 := rfl
theorem E175 : E 175 = some ir175 := rfl
theorem E177 : E 177 = some ir177 := rfl
set_option maxRecDepth 100000 in
theorem tab_ok : ∀ p ∈ tab, ∃ ls, compF Try.prog ls p.1 = some p.2 := by
  simp only [tab, List.forall_mem_cons]
  exact ⟨⟨_, K7⟩, ⟨_, K33⟩, ⟨_, K35⟩, ⟨_, K37⟩, ⟨_, K39⟩, ⟨_, K41⟩, ⟨_, K42⟩, ⟨_, K43⟩, ⟨_, K44⟩, ⟨_, K45⟩, ⟨_, K46⟩, ⟨_, K47⟩, ⟨_, K49⟩, ⟨_, K94⟩, ⟨_, K95⟩, ⟨_, K96⟩, ⟨_, K97⟩, ⟨_, K98⟩, ⟨_, K99⟩, ⟨_, K100⟩, ⟨_, K101⟩, ⟨_, K102⟩, ⟨_, K103⟩, ⟨_, K104⟩, ⟨_, K106⟩, ⟨_, K135⟩, ⟨_, K136⟩, ⟨_, K137⟩, ⟨_, K138⟩, ⟨_, K139⟩, ⟨_, K140⟩, ⟨_, K141⟩, ⟨_, K142⟩, ⟨_, K143⟩, ⟨_, K144⟩, ⟨_, K157⟩, ⟨_, K158⟩, ⟨_, K159⟩, ⟨_, K160⟩, ⟨_, K161⟩, ⟨_, K162⟩, ⟨_, K163⟩, ⟨_, K164⟩, ⟨_, K165⟩, ⟨_, K166⟩, ⟨_, K167⟩, ⟨_, K168⟩, ⟨_, K172⟩, ⟨_, K173⟩, ⟨_, K174⟩, ⟨_, K175⟩, ⟨_, K177⟩, fun _ h => by cases h⟩
theorem lookup_mem {α : Type} {f : Nat} {x : α} : ∀ {l : List (Nat × α)}, l.lookup f = some x → (f, x) ∈ l
  | [], h => by simp at h
  | (g, y) :: r, h => by
    rw [List.lookup_cons] at h
    by_cases hg : f = g
    · subst hg; simp at h; simp [h]
    · rw [show (f == g) = false from by simpa using hg] at h; exact List.mem_cons_of_mem _ (lookup_mem h)
set_option maxRecDepth 100000 in
theorem hE (f : Nat) (fn : IFn) (h : E f = some fn) : ∃ ls, compF Try.prog ls f = some fn := tab_ok _ (lookup_mem h)
end Go.AM.R1
open Go Go.AM
namespace Go.AM.R1

theorem wrap64 {x : Int} (h1 : -9223372036854775808 ≤ x) (h2 : x ≤ 9223372036854775807) : IntKind.wrap .i64 x = x := by
  simp [IntKind.wrap, IntKind.bits, IntKind.signed]; omega
theorem wrapIdx {i : Nat} (h : i < 1099511627776) : IntKind.wrap .i64 ((i : Int) + 1) = ((i + 1 : Nat) : Int) := by
  rw [wrap64 (by omega) (by omega)]; omega

structure Run where
  N : Int
  Bus : Int
  Drive : Int
  deriving DecidableEq

def encRun (r : Run) : List AVal := [.lit (.int .i64 r.N), .lit (.int .i64 r.Bus), .lit (.int .u32 r.Drive)]
structure Run.Ok (r : Run) : Prop where
  n1 : -9223372036854775808 ≤ r.N
  n2 : r.N ≤ 9223372036854775807

def right (r : Run) : Bool := decide (1 ≤ r.N) && decide (r.N ≤ 1073741824) && decide (r.Bus = if r.Drive = 4294967295 then 1 else 0)

theorem right_spec (r : Run) : call E (.func (.func 106) [] []) [.agg (encRun r)] [] = some (vbool (right r), []) := by
  rw [call_func E E106]
  by_cases h1 : r.Drive = 4294967295 <;> by_cases h2 : 1 ≤ r.N <;> by_cases h3 : r.N ≤ 1073741824 <;>
  simp [go_sem, ir106, encRun, right, *]

def ticksGo (acc : Int) : List Run → Int × Int
  | [] => if 1073741824 < acc then (0, 12) else (acc, 0)
  | r :: l => if right r then ticksGo (if 1073741825 < acc + r.N then 1073741825 else acc + r.N) l else (0, 10)
theorem ticks_loop (l : List Run) (hl : l.length ≤ 1099511627775) (hl2 : ∀ r ∈ l, r.Ok) (nl fu : Bool) (k : List Item)
    (hk : ∀ (acc : Int) τ, lk 4 τ = .lit (.int .i64 acc) → finK 0 [.tmp 2, .tmp 3] (run E 0 k τ []) = some (.tup [.lit (.int .i64 (ticksGo acc []).1), .lit (.int .i64 (ticksGo acc []).2)], [])) :
    ∀ (d i : Nat) (acc : Int), i + d = l.length → 0 ≤ acc → acc ≤ 1073741825 →
   finK 0 [.tmp 2, .tmp 3] (run E 0 (.code L49_0 :: .inLoop [4, 7, 8, 9] L49_0 :: .inBlock 0 :: k) [(4, .lit (.int .i64 acc)), (7, .imm nl fu true (l.map encRun)), (8, .lit (.int .i64 l.length)), (9, .lit (.int .i64 i))] [])
   = some (.tup [.lit (.int .i64 (ticksGo acc (l.drop i)).1), .lit (.int .i64 (ticksGo acc (l.drop i)).2)], []) := by
  intro d
  induction d with
  | zero =>
    intro i acc hi h0 h1
    have : i = l.length := by omega
    subst this
    simp [go_sem, run_codeL E L49_0.eq_1]
    exact hk _ _ rfl
  | succ d ih =>
    intro i acc hi h0 h1
    have hlt : i < l.length := by omega
    have hr := hl2 _ (List.getElem_mem hlt)
    rw [List.drop_eq_getElem_cons hlt, ticksGo]
    have hs := right_spec l[i]
    simp only [encRun] at hs
    cases hrt : right l[i] with
    | false =>
      simp [go_sem, run_codeL E L49_0.eq_1, hlt, List.getElem?_eq_getElem hlt, encRun, hs, hrt]
    | true =>
      have hN : 1 ≤ l[i].N ∧ l[i].N ≤ 1073741824 := by simp [right] at hrt; omega
      have w1 : IntKind.wrap .i64 (acc + l[i].N) = acc + l[i].N := wrap64 (by omega) (by omega)
      have w2 := wrapIdx (i := i) (by omega)
      simp [go_sem, run_codeL E L49_0.eq_1, hlt, List.getElem?_eq_getElem hlt, encRun, hs, hrt, w1, w2]
      rw [run_inLoop']
      simp [go_sem, purse_eq]
      exact ih (i + 1) _ (by omega) (by omega) (by omega)
def ticks (l : List Run) : Int × Int := ticksGo 0 l
theorem ticks_spec (l : List Run) (hl : l.length ≤ 1099511627775) (hl2 : ∀ r ∈ l, r.Ok) (nl fu : Bool) :
    call E (.func (.func 49) [] []) [.imm nl fu true (l.map encRun)] [] = some (.tup [.lit (.int .i64 (ticks l).1), .lit (.int .i64 (ticks l).2)], []) := by
  rw [call_func E E49]
  simp [go_sem, ir49]
  rw [run_inLoop']
  simp [go_sem, purse_eq]
  refine ticks_loop l hl hl2 nl fu _ ?_ l.length 0 0 (by omega) (by omega) (by omega)
  intro acc τ h
  by_cases h1 : 1073741824 < acc <;> simp [go_sem, ticksGo, h, h1]
theorem check_spec (l : List Run) (hl : l.length ≤ 1099511627775) (hl2 : ∀ r ∈ l, r.Ok) (nl fu : Bool) :
    call E (.func (.func 99) [] []) [.imm nl fu true (l.map encRun)] [] = some (.lit (.int .i64 (ticks l).2), []) := by
  rw [call_func E E99]
  simp [go_sem, ir99, ticks_spec l hl hl2]
end Go.AM.R1
open Go Go.AM
namespace Go.AM.R1

/-- How many ticks of a run are within. -/
def part (at_ from_ to n : Int) : Int := (if to < at_ + n then to else at_ + n) - (if from_ > at_ then from_ else at_)
def betweenGo (from_ to : Int) : Int → List Run → List Run
  | _, [] => []
  | at_, r :: l => (if 0 < part at_ from_ to r.N then [⟨part at_ from_ to r.N, r.Bus, r.Drive⟩] else []) ++ betweenGo from_ to (at_ + r.N) l
/-- A row that was laid, as it is handed back. -/
def resV (i : Nat) (rows : List (List AVal)) : AVal := if rows = [] then nilS else .own i rows.length 3 0 rows.length
def resH (H : Heap) (rows : List (List AVal)) : Heap := if rows = [] then [] else H ++ [.arr true false false 3 rows]

def sumN : List Run → Int
  | [] => 0
  | r :: l => r.N + sumN l
/-- How runs are wrong. -/
def chk (l : List Run) : Int := if l.all right = true then (if 1073741824 < sumN l then 12 else 0) else 10
theorem right_N {r : Run} (h : right r = true) : 1 ≤ r.N ∧ r.N ≤ 1073741824 := by
  simp [right] at h; omega
theorem sumN_nonneg : ∀ {l : List Run}, l.all right = true → 0 ≤ sumN l
  | [], _ => by simp [sumN]
  | r :: l, h => by
    simp only [List.all_cons, Bool.and_eq_true] at h
    have := right_N h.1; have := sumN_nonneg h.2
    simp only [sumN]; omega
theorem ticksGo_eq : ∀ (l : List Run) (acc : Int), 0 ≤ acc → acc ≤ 1073741825 → ticksGo acc l = if l.all right = true then (if 1073741824 < acc + sumN l then (0, 12) else (acc + sumN l, 0)) else (0, 10)
  | [], acc, _, _ => by simp [ticksGo, sumN]
  | r :: l, acc, h0, h1 => by
    rw [ticksGo, List.all_cons]
    cases hr : right r with
    | false => simp
    | true =>
      have hN := right_N hr
      rw [if_pos rfl, ticksGo_eq l _ (by split <;> omega) (by split <;> omega)]
      rw [Bool.true_and, show sumN (r :: l) = r.N + sumN l from rfl]
      cases ha : l.all right with
      | false => simp
      | true =>
        have := sumN_nonneg ha
        simp only [if_true]
        by_cases hq : 1073741825 < acc + r.N
        · rw [if_pos hq, if_pos (show _ by omega), if_pos (show _ by omega)]
        · rw [if_neg hq, Int.add_assoc]
theorem ticks_eq (l : List Run) : ticks l = (if chk l = 0 then sumN l else 0, chk l) := by
  unfold ticks
  rw [ticksGo_eq l 0 (by omega) (by omega)]
  unfold chk
  cases l.all right
  · rfl
  · by_cases h : 1073741824 < sumN l
    · simp [h]
    · simp [h]

end Go.AM.R1
open Go Go.AM
namespace Go.AM.R1

def zeroRun : Run := ⟨0, 0, 0⟩
/-- What there is at a tick. -/
def pick : Int → List Run → Option Run
  | _, [] => none
  | t, r :: l => if t < r.N then some ⟨1, r.Bus, r.Drive⟩ else pick (t - r.N) l
theorem pick_some : ∀ {l : List Run} {t : Int}, 0 ≤ t → t < sumN l → ∃ r, pick t l = some r
  | [], t, h0, h => by simp [sumN] at h; omega
  | r :: l, t, h0, h => by
    rw [pick]
    by_cases hq : t < r.N
    · exact ⟨_, if_pos hq⟩
    · rw [if_neg hq]
      rw [show sumN (r :: l) = r.N + sumN l from rfl] at h
      exact pick_some (by omega) (by omega)
theorem between_one : ∀ (l : List Run) (at_ t : Int), (∀ r ∈ l, 1 ≤ r.N) → betweenGo t (t + 1) at_ l = if t < at_ then [] else (pick (t - at_) l).toList
  | [], at_, t, _ => by simp [betweenGo, pick]
  | r :: l, at_, t, h => by
    have hr := h r (by simp)
    rw [betweenGo, between_one l _ t fun x hx => h x (by simp [hx]), pick]
    by_cases h1 : t < at_
    · have hp : ¬ 0 < part at_ t (t + 1) r.N := by unfold part; split <;> split <;> omega
      rw [if_pos h1, if_neg hp, if_pos (by omega)]; rfl
    · rw [if_neg h1]
      by_cases h2 : t < at_ + r.N
      · have hp : part at_ t (t + 1) r.N = 1 := by unfold part; split <;> split <;> omega
        rw [hp, if_pos h2, if_pos (show t - at_ < r.N by omega)]; rfl
      · have hp : ¬ 0 < part at_ t (t + 1) r.N := by unfold part; split <;> split <;> omega
        rw [if_neg h2, if_neg hp, if_neg (show ¬ t - at_ < r.N by omega), show t - (at_ + r.N) = t - at_ - r.N from by omega]; rfl

def atRun (l : List Run) (t : Int) : Run × Int :=
  if chk l ≠ 0 then (zeroRun, chk l) else if t < 0 ∨ sumN l ≤ t then (zeroRun, 10) else ((pick t l).getD zeroRun, 0)
theorem chk_right {l : List Run} (h : chk l = 0) : (∀ r ∈ l, 1 ≤ r.N ∧ r.N ≤ 1073741824) ∧ 0 ≤ sumN l ∧ sumN l ≤ 1073741824 := by
  unfold chk at h
  cases ha : l.all right with
  | false => rw [ha] at h; simp at h
  | true =>
    rw [ha, if_pos rfl] at h
    refine ⟨fun r hr => right_N (List.all_eq_true.1 ha r hr), sumN_nonneg ha, ?_⟩
    by_cases hq : 1073741824 < sumN l
    · rw [if_pos hq] at h; omega
    · omega
end Go.AM.R1
open Go Go.AM
namespace Go.AM.R1

/-! ### Few, Same, alike -/
def posSum : List Run → Int
  | [] => 0
  | r :: l => (if 0 < r.N then r.N else 0) + posSum l
theorem posSum_nonneg : ∀ l : List Run, 0 ≤ posSum l
  | [] => by simp [posSum]
  | r :: l => by have := posSum_nonneg l; simp only [posSum]; split <;> omega
def fewGo (left : Int) : List Run → Bool
  | [] => true
  | r :: l => if left < r.N then false else fewGo (if 0 < r.N then left - r.N else left) l
theorem fewGo_spec : ∀ (l : List Run) (left : Int), 0 ≤ left → (fewGo left l = true ↔ posSum l ≤ left)
  | [], left, h => by simp [fewGo, posSum, h]
  | r :: l, left, h => by
    have := posSum_nonneg l
    rw [fewGo, show posSum (r :: l) = (if 0 < r.N then r.N else 0) + posSum l from rfl]
    by_cases h1 : left < r.N
    · rw [if_pos h1, if_pos (by omega)]; constructor
      · intro h; cases h
      · intro h; omega
    · rw [if_neg h1, fewGo_spec l _ (by split <;> omega)]
      by_cases h2 : 0 < r.N
      · rw [if_pos h2, if_pos h2]; omega
      · rw [if_neg h2, if_neg h2]; omega
def few (l : List Run) : Bool := fewGo 3000 (l.take 61) && decide (l.length ≤ 60)
theorem few_true {l : List Run} (h : few l = true) : l.length ≤ 60 ∧ posSum l ≤ 3000 := by
  simp only [few, Bool.and_eq_true, decide_eq_true_eq] at h
  obtain ⟨h1, h2⟩ := h
  rw [List.take_of_length_le (by omega), fewGo_spec _ _ (by omega)] at h1
  exact ⟨h2, h1⟩

theorem encRun_inj {a b : Run} (h : encRun a = encRun b) : a = b := by
  cases a; cases b
  simp [encRun] at h
  simp [h]
def alike (a b : Run) : Bool := decide (a.Bus = b.Bus) && decide (a.Drive = b.Drive)
end Go.AM.R1
open Go Go.AM
namespace Go.AM.R1

/-! ### Join -/
def push (out : List Run) (r : Run) : List Run :=
  match out.getLast? with
  | none => [r]
  | some x => if alike x r = true then out.dropLast ++ [⟨x.N + r.N, x.Bus, x.Drive⟩] else out ++ [r]
theorem push_nil (r : Run) : push [] r = [r] := rfl
theorem push_snoc (o : List Run) (x r : Run) : push (o ++ [x]) r = if alike x r = true then o ++ [⟨x.N + r.N, x.Bus, x.Drive⟩] else o ++ [x, r] := by
  simp [push]
def joinGo (n : Int) (out : List Run) : List Run → List Run
  | [] => out
  | r :: l => if r.N < 1 then joinGo n out l else if 4611686018427387904 - n < r.N then [] else joinGo (n + r.N) (push out r) l
theorem snoc_cases {α : Type} (l : List α) : l = [] ∨ ∃ o x, l = o ++ [x] := by
  rcases List.eq_nil_or_concat l with h | ⟨o, x, h⟩
  · exact .inl h
  · exact .inr ⟨o, x, by simpa using h⟩
theorem get_snoc {o : List Run} {x : Run} : (o.map encRun ++ [encRun x])[o.length]? = some (encRun x) := by
  rw [List.getElem?_append_right (by simp)]; simp
theorem set_snoc {o : List Run} {x : List AVal} {v : List AVal} : (o.map encRun ++ [x]).set o.length v = o.map encRun ++ [v] := by
  rw [List.set_append_right _ _ (by simp)]; simp
end Go.AM.R1
open Go Go.AM
namespace Go.AM.R1

/-- Joined runs, of up to 2^62 ticks. -/
def joined (out : List Run) : List Run → List Run
  | [] => out
  | r :: l => if r.N < 1 then joined out l else joined (push out r) l
theorem joinGo_eq : ∀ (l : List Run) (n : Int) (out : List Run), n + posSum l ≤ 4611686018427387904 → joinGo n out l = joined out l
  | [], _, _, _ => rfl
  | r :: l, n, out, h => by
    have h0 := posSum_nonneg l
    rw [show posSum (r :: l) = (if 0 < r.N then r.N else 0) + posSum l from rfl] at h
    rw [joinGo, joined]
    by_cases hq : r.N < 1
    · rw [if_pos hq, if_pos hq]; rw [if_neg (by omega)] at h; exact joinGo_eq l n out (by omega)
    · rw [if_neg hq, if_neg hq]; rw [if_pos (by omega)] at h
      rw [if_neg (by omega)]; exact joinGo_eq l _ _ (by omega)
theorem joinGo_big : ∀ (l : List Run) (n : Int) (out : List Run), 4611686018427387904 < n + posSum l → n ≤ 4611686018427387904 → joinGo n out l = []
  | [], n, _, h, h2 => by simp [posSum] at h; omega
  | r :: l, n, out, h, h2 => by
    rw [show posSum (r :: l) = (if 0 < r.N then r.N else 0) + posSum l from rfl] at h
    rw [joinGo]
    by_cases hq : r.N < 1
    · rw [if_pos hq]; rw [if_neg (by omega)] at h; exact joinGo_big l n out (by omega) h2
    · rw [if_neg hq]; rw [if_pos (by omega)] at h
      by_cases hm : 4611686018427387904 - n < r.N
      · rw [if_pos hm]
      · rw [if_neg hm]; exact joinGo_big l _ _ (by omega) (by omega)

theorem isEmpty_snoc {α : Type} (o : List α) (x : α) (r : List α) : (o ++ x :: r).isEmpty = false := by cases o <;> rfl
/-! ### The ticks, one by one -/
def expand (l : List Run) : List Run := l.flatMap fun r => List.replicate r.N.toNat ⟨1, r.Bus, r.Drive⟩
end Go.AM.R1
open Go Go.AM
namespace Go.AM.R1

/-! ### The plain law of cutting -/
theorem push_push (out : List Run) (n m b d : Int) : push (push out ⟨n, b, d⟩) ⟨m, b, d⟩ = push out ⟨n + m, b, d⟩ := by
  rcases snoc_cases out with rfl | ⟨o, x, rfl⟩
  · simp [push, alike]
  · rw [push_snoc, push_snoc]
    by_cases h : alike x ⟨n, b, d⟩ = true
    · have h' : alike x ⟨n + m, b, d⟩ = true := h
      rw [if_pos h, if_pos h', push_snoc, if_pos (by exact h), Int.add_assoc]
    · have h' : ¬ alike x ⟨n + m, b, d⟩ = true := h
      rw [if_neg h, if_neg h', show o ++ [x, ⟨n, b, d⟩] = (o ++ [x]) ++ [⟨n, b, d⟩] from by simp, push_snoc, if_pos (by simp [alike])]
      simp
theorem joined_append : ∀ (l m out : List Run), joined out (l ++ m) = joined (joined out l) m
  | [], _, _ => rfl
  | r :: l, m, out => by
    rw [List.cons_append, joined, joined]
    split
    · exact joined_append l m out
    · exact joined_append l m _
theorem joined_replicate (out : List Run) (b d : Int) : ∀ n : Nat, joined out (List.replicate (n + 1) ⟨1, b, d⟩) = push out ⟨n + 1, b, d⟩
  | 0 => by simp [joined]
  | n + 1 => by
    rw [List.replicate_succ', joined_append, joined_replicate out b d n, joined, if_neg (by simp), push_push]
    simp [joined]
theorem joined_expand : ∀ (l out : List Run), joined out (expand l) = joined out l
  | [], _ => rfl
  | r :: l, out => by
    rw [show expand (r :: l) = List.replicate r.N.toNat ⟨1, r.Bus, r.Drive⟩ ++ expand l from rfl, joined_append, joined]
    by_cases h : r.N < 1
    · rw [if_pos h, show r.N.toNat = 0 from by omega]
      exact joined_expand l out
    · rw [if_neg h, show r.N.toNat = (r.N.toNat - 1) + 1 from by omega, joined_replicate, joined_expand l _]
      rw [show (((r.N.toNat - 1 : Nat) : Int) + 1) = r.N from by omega]
theorem expand_cons (r : Run) (l : List Run) : expand (r :: l) = List.replicate r.N.toNat ⟨1, r.Bus, r.Drive⟩ ++ expand l := rfl
theorem expand_append (l m : List Run) : expand (l ++ m) = expand l ++ expand m := by simp [expand]
theorem expand_between (a b : Int) : ∀ (l : List Run) (c : Int), (∀ r ∈ l, 0 ≤ r.N) → expand (betweenGo a b c l) = ((expand l).take (b - c).toNat).drop (a - c).toNat
  | [], c, _ => by simp [betweenGo, expand]
  | r :: l, c, h => by
    have hr := h r (by simp)
    have ih := expand_between a b l (c + r.N) fun x hx => h x (by simp [hx])
    rw [betweenGo, expand_append, ih, expand_cons, List.take_append, List.drop_append]
    congr 1
    · rw [List.take_replicate, List.drop_replicate]
      by_cases hp : 0 < part c a b r.N
      · rw [if_pos hp, expand_cons, show expand [] = [] from rfl, List.append_nil]
        congr 1
        revert hp
        unfold part
        split <;> split <;> intro hp <;> simp only [] <;> omega
      · rw [if_neg hp, show min (b - c).toNat r.N.toNat - (a - c).toNat = 0 from by revert hp; unfold part; split <;> split <;> intro hp <;> omega]
        rfl
    · simp only [List.length_take, List.length_replicate]
      rw [show (b - (c + r.N)).toNat = (b - c).toNat - r.N.toNat from by omega]
      by_cases hq : (b - c).toNat ≤ r.N.toNat
      · rw [show (b - c).toNat - r.N.toNat = 0 from by omega]; simp
      · congr 1; omega
theorem cut_law (l : List Run) (h : ∀ r ∈ l, 0 ≤ r.N) (a b : Int) : joined [] (betweenGo a b 0 l) = joined [] (((expand l).take b.toNat).drop a.toNat) := by
  have := expand_between a b l 0 h
  rw [Int.sub_zero, Int.sub_zero] at this
  rw [← this, joined_expand]
theorem expand_length : ∀ l : List Run, (∀ r ∈ l, 0 ≤ r.N) → ((expand l).length : Int) = sumN l
  | [], _ => by simp [expand, sumN]
  | r :: l, h => by
    have hr := h r (by simp)
    have ih := expand_length l fun x hx => h x (by simp [hx])
    rw [expand_cons, show sumN (r :: l) = r.N + sumN l from rfl, List.length_append, List.length_replicate]
    omega
theorem between_mem (a b : Int) : ∀ (l : List Run) (c : Int), (∀ r ∈ l, 0 ≤ r.N ∧ r.N ≤ 1073741824) → ∀ r ∈ betweenGo a b c l, 1 ≤ r.N ∧ r.N ≤ 1073741824
  | [], _, _, r, hr => by simp [betweenGo] at hr
  | x :: l, c, h, r, hr => by
    have hx := h x (by simp)
    rw [betweenGo, List.mem_append] at hr
    rcases hr with hr | hr
    · split at hr
      · rename_i hp
        simp at hr
        subst hr
        refine ⟨by simp; omega, ?_⟩
        simp only [part]
        split <;> split <;> omega
      · cases hr
    · exact between_mem a b l _ (fun y hy => h y (by simp [hy])) r hr
theorem between_length (a b : Int) : ∀ (l : List Run) (c : Int), (betweenGo a b c l).length ≤ l.length
  | [], _ => by simp [betweenGo]
  | x :: l, c => by
    have := between_length a b l (c + x.N)
    rw [betweenGo]
    split <;> simp <;> omega
theorem posSum_le : ∀ (l : List Run) (M : Int), 0 ≤ M → (∀ r ∈ l, r.N ≤ M) → posSum l ≤ M * l.length
  | [], M, _, _ => by simp [posSum]
  | r :: l, M, h0, h => by
    have hr := h r (by simp)
    have ih := posSum_le l M h0 fun x hx => h x (by simp [hx])
    rw [show posSum (r :: l) = (if 0 < r.N then r.N else 0) + posSum l from rfl, List.length_cons]
    have : M * ((l.length + 1 : Nat) : Int) = M * l.length + M := by rw [Int.natCast_add, Int.mul_add]; simp
    split <;> omega
theorem posSum_of_right : ∀ (l : List Run), (∀ r ∈ l, 0 ≤ r.N) → posSum l = sumN l
  | [], _ => rfl
  | r :: l, h => by
    have hr := h r (by simp)
    rw [show posSum (r :: l) = (if 0 < r.N then r.N else 0) + posSum l from rfl, posSum_of_right l fun x hx => h x (by simp [hx]), show sumN (r :: l) = r.N + sumN l from rfl]
    split <;> omega
def cutRuns (l : List Run) (a b : Int) : List Run × Int :=
  if chk l ≠ 0 then ([], chk l) else if a < 0 ∨ b < a ∨ sumN l < b then ([], 10) else (joined [] (betweenGo a b 0 l), 0)
theorem sum_le_pos : ∀ l : List Run, sumN l ≤ posSum l
  | [] => by simp [posSum, sumN]
  | r :: l => by
    have := sum_le_pos l
    rw [show posSum (r :: l) = (if 0 < r.N then r.N else 0) + posSum l from rfl, show sumN (r :: l) = r.N + sumN l from rfl]
    split <;> omega
theorem same_joins (l : List Run) (hl : l.length ≤ 1048576) (hl2 : ∀ r ∈ l, r.Ok) (hs : posSum l ≤ 4611686018427387904) : joinGo 0 [] l = joined [] l := joinGo_eq _ _ _ (by omega)
theorem push_length (out : List Run) (r : Run) : (push out r).length ≤ out.length + 1 := by
  rcases snoc_cases out with rfl | ⟨o, x, rfl⟩
  · simp [push]
  · rw [push_snoc]; split <;> simp
theorem joined_length : ∀ (l out : List Run), (joined out l).length ≤ out.length + l.length
  | [], out => by simp [joined]
  | r :: l, out => by
    rw [joined]
    split
    · have := joined_length l out; simp; omega
    · have := joined_length l (push out r); have := push_length out r; simp; omega
theorem expand_mem {l : List Run} {r : Run} (h : r ∈ expand l) : r.N = 1 := by
  simp only [expand, List.mem_flatMap, List.mem_replicate] at h
  obtain ⟨_, _, _, rfl⟩ := h
  rfl
end Go.AM.R1
open Go Go.AM
namespace Go.AM.R1

/-- A row of numbers. -/
def encI (n : Int) : List AVal := [.lit (.int .i64 n)]
theorem each_spec (nl fu : Bool) (rows : List (List AVal)) : call E (.func (.func 136) [] []) [.imm nl fu true rows] [] = some (.func (.func 157) [] [.ptr 0 0], [.box [.imm nl fu true rows]]) := by
  rw [call_func E E136]
  simp [go_sem, ir136, purse_eq]
/-- Levels, tick by tick; or why there are none. -/
def levelsV (l : List Run) (f : Run → Int) : AVal :=
  if chk l ≠ 0 then .tup [nilS, .lit (.int .i64 (chk l))] else if 1048576 < sumN l then .tup [nilS, .lit (.int .i64 12)] else .tup [.own 0 (expand l).length 1 0 (expand l).length, .lit (.int .i64 0)]
def levelsH (l : List Run) (f : Run → Int) : Heap :=
  if chk l ≠ 0 then [] else if 1048576 < sumN l then [] else [.arr true false false 1 ((expand l).map fun r => encI (f r))]
end Go.AM.R1
open Go Go.AM
namespace Go.AM.R1
/-- What a node drives. -/
def nodeLv (node : Int) (r : Run) : Int := r.Drive / (2 : Int) ^ node.toNat % 2
theorem and_one32 {x : Int} (h0 : 0 ≤ x) (h1 : x ≤ 4294967295) : ((BitVec.ofInt 32 x &&& 1#32).toNat : Int) = x % 2 := by
  rw [BitVec.toNat_and, BitVec.toNat_ofInt]
  have : (x % ((2 ^ 32 : Nat) : Int)).toNat = x.toNat := by
    rw [Int.emod_eq_of_lt h0 (by simp; omega)]
  rw [this, show (1#32 : BitVec 32).toNat = 1 from rfl, Nat.and_one_is_mod]
  omega
theorem iand_one {x : Int} (h0 : 0 ≤ x) (h1 : x ≤ 4294967295) : iand .u32 x 1 = x % 2 := by
  have h6 := and_one32 h0 h1
  have h7 : IntKind.wrap .u32 (x % 2) = x % 2 := by simp [IntKind.wrap, IntKind.bits, IntKind.signed]; omega
  unfold iand
  erw [h6, h7]
theorem node1_spec (node : Int) (hnode : 0 ≤ node ∧ node ≤ 31) (r : Run) (hr : 0 ≤ r.Drive ∧ r.Drive ≤ 4294967295) :
    call E (.func (.func 101) [] [.ptr 0 0]) [.agg (encRun r)] [.box [.lit (.int .i64 node)]] = some (.lit (.int .i64 (nodeLv node r)), [.box [.lit (.int .i64 node)]]) := by
  rw [call_func E E101]
  have hp : (0 : Int) < 2 ^ node.toNat := Int.pow_pos (by omega)
  have h1 : r.Drive.fdiv (2 ^ node.toNat) = r.Drive / 2 ^ node.toNat := by rw [Int.fdiv_eq_ediv_of_nonneg _ (by omega)]
  have h2 : 0 ≤ r.Drive / (2 : Int) ^ node.toNat := Int.ediv_nonneg hr.1 (by omega)
  have h3 : r.Drive / (2 : Int) ^ node.toNat ≤ 4294967295 := Int.le_trans (Int.ediv_le_self _ hr.1) hr.2
  have h4 : min node.toNat 32 = node.toNat := by omega
  have h5 : ¬ node < 0 := by omega
  have h6 := iand_one h2 h3
  have h8 : IntKind.wrap .i64 (r.Drive / (2 : Int) ^ node.toNat % 2) = r.Drive / (2 : Int) ^ node.toNat % 2 := wrap64 (by omega) (by omega)
  simp [go_sem, ir101, encRun, purse_eq, h5, h4, h1, h6, h8, nodeLv]
theorem nodeY (node : Int) (hnode : 0 ≤ node ∧ node ≤ 31) (i : Int) (r : Run) (hr0 : 0 ≤ r.Drive ∧ r.Drive ≤ 4294967295) (out : List Int) (hlen : out.length ≤ 2097152) :
    call E (.yld 0) [.lit (.int .i64 i), .agg (encRun r)] [.loop 0 none [(3, .ptr 1 0), (8, .ptr 3 0)] [27, 28] A100_0 B100_0, .box [.func (.func 101) [] [.ptr 2 0]], .box [.lit (.int .i64 node)], .box [.own 4 out.length 1 0 out.length], .arr true false false 1 (out.map encI)]
      = some (.lit (.bool true), [.loop 0 none [(3, .ptr 1 0), (8, .ptr 3 0)] [27, 28] A100_0 B100_0, .box [.func (.func 101) [] [.ptr 2 0]], .box [.lit (.int .i64 node)], .box [.own 4 (out.length + 1) 1 0 (out.length + 1)], .arr true false false 1 ((out ++ [nodeLv node r]).map encI)]) := by
  have hs := node1_spec node hnode r hr0
  simp only [encRun] at hs
  have hb : ¬ ((out.length + 1) * 8 > 70368744177664) := by omega
  simp [go_sem, run_codeL E A100_0.eq_1, run_codeL E B100_0.eq_1, encRun, hs, encI, purse_eq, List.range_succ, hb]

/-- The heap that the walk through the ticks has. -/
def nodeH (node : Int) (nl fu : Bool) (l : List Run) (out : List Int) : Heap :=
  [.box [.imm nl fu true (l.map encRun)], .loop 0 none [(3, .ptr 2 0), (8, .ptr 4 0)] [27, 28] A100_0 B100_0, .box [.func (.func 101) [] [.ptr 3 0]], .box [.lit (.int .i64 node)], .box [.own 5 out.length 1 0 out.length], .arr true false false 1 (out.map encI)]
theorem nodeE_in (node : Int) (hnode : 0 ≤ node ∧ node ≤ 31) (l : List Run) (hdr : ∀ r ∈ l, 0 ≤ r.Drive ∧ r.Drive ≤ 4294967295) (nl fu : Bool) (i : Nat) (hlt : i < l.length) (k : List Item) (R : Option (AVal × Heap)) (out0 : List Int)
    (hN : 0 ≤ l[i].N) (hs : (out0.length : Int) + l[i].N ≤ 1048576)
    (hk : ∀ τ (out : List Int), out = out0 ++ List.replicate l[i].N.toNat (nodeLv node l[i]) → lk 0 τ = .yld 1 → lk 3 τ = .lit (.int .i64 out.length) → lk 9 τ = .imm nl fu true (l.map encRun) → lk 10 τ = .lit (.int .i64 l.length) → lk 11 τ = .lit (.int .i64 i) →
      finK 6 [] (run E 6 k τ (nodeH node nl fu l out ++ [.box (encRun l[i])])) = R) :
    ∀ (d j : Nat) (out : List Int), (j + d : Int) = l[i].N → out = out0 ++ List.replicate j (nodeLv node l[i]) →
   finK 6 [] (run E 6 (.code L157_1 :: .inLoop [0, 3, 5, 9, 10, 11, 16, 17] L157_1 :: .inBlock 2 :: k)
     [(0, .yld 1), (3, .lit (.int .i64 out.length)), (5, .ptr 6 0), (9, .imm nl fu true (l.map encRun)), (10, .lit (.int .i64 l.length)), (11, .lit (.int .i64 i)), (16, .lit (.int .i64 l[i].N)), (17, .lit (.int .i64 j))]
     (nodeH node nl fu l out ++ [.box (encRun l[i])])) = R := by
  intro d
  induction d with
  | zero =>
    intro j out hj ho
    have hj' : ¬ (j : Int) < l[i].N := by omega
    simp [go_sem, run_codeL E L157_1.eq_1, hj']
    exact hk _ out (by rw [ho]; congr 2; omega) rfl rfl rfl rfl rfl
  | succ d ih =>
    intro j out hj ho
    have hj' : (j : Int) < l[i].N := by omega
    have w2 := wrapIdx (i := j) (by omega)
    have hlo : out.length = out0.length + j := by rw [ho]; simp
    have w3 := wrapIdx (i := out.length) (by omega)
    have hY := nodeY node hnode out.length ⟨1, l[i].Bus, l[i].Drive⟩ (hdr l[i] (List.getElem_mem hlt)) out (by omega)
    simp only [encRun] at hY
    have ih2 := ih (j + 1) (out ++ [nodeLv node l[i]]) (by omega) (by rw [ho, List.append_assoc, List.replicate_succ'])
    simp [nodeH, encRun] at ih2
    simp [go_sem, run_codeL E L157_1.eq_1, hj', w2, w3, nodeH, encRun, purse_eq, hY]
    rw [run_inLoop']
    simp [go_sem, purse_eq, List.range_succ]
    exact ih2

theorem nodeE_loop (node : Int) (hnode : 0 ≤ node ∧ node ≤ 31) (l : List Run) (hdr : ∀ r ∈ l, 0 ≤ r.Drive ∧ r.Drive ≤ 4294967295) (hl : l.length ≤ 1048576) (hN : ∀ r ∈ l, 0 ≤ r.N) (nl fu : Bool) (k : List Item) (R : List Int → Option (AVal × Heap))
    (hk : ∀ (out : List Int) τ, finK 6 [] (run E 6 k τ (nodeH node nl fu l out)) = R out) :
    ∀ (d i : Nat) (out : List Int), i + d = l.length → (out.length : Int) + sumN (l.drop i) ≤ 1048576 →
   finK 6 [] (run E 6 (.code L157_0 :: .inLoop [0, 3, 9, 10, 11] L157_0 :: .inBlock 0 :: k)
     [(0, .yld 1), (3, .lit (.int .i64 out.length)), (9, .imm nl fu true (l.map encRun)), (10, .lit (.int .i64 l.length)), (11, .lit (.int .i64 i))]
     (nodeH node nl fu l out)) = R (out ++ (expand (l.drop i)).map (nodeLv node)) := by
  intro d
  induction d with
  | zero =>
    intro i out hi h0
    have : i = l.length := by omega
    subst this
    simp [go_sem, run_codeL E L157_0.eq_1, expand]
    exact hk out _
  | succ d ih =>
    intro i out hi h0
    have hlt : i < l.length := by omega
    have hn := hN _ (List.getElem_mem hlt)
    have w2 := wrapIdx (i := i) (by omega)
    have hs0 : ∀ m : List Run, (∀ r ∈ m, 0 ≤ r.N) → 0 ≤ sumN m := by
      intro m; induction m with
      | nil => intro _; simp [sumN]
      | cons x xs ih => intro h; have := h x (by simp); have := ih fun r hr => h r (by simp [hr]); simp only [sumN]; omega
    have hs1 := hs0 (l.drop (i + 1)) fun r hr => hN r (List.mem_of_mem_drop hr)
    rw [List.drop_eq_getElem_cons hlt, show sumN (l[i] :: l.drop (i + 1)) = l[i].N + sumN (l.drop (i + 1)) from rfl] at h0
    rw [List.drop_eq_getElem_cons hlt, expand_cons, List.map_append, List.map_replicate, ← List.append_assoc]
    have hin := nodeE_in node hnode l hdr nl fu i hlt (.inBlock 1 :: .code (.reg [⟨none, some 31, .bin .add (.t 11) (.c (.lit (.int .i64 1)))⟩, ⟨none, some 11, .copy (.t 31)⟩] [] []) :: .inLoop [0, 3, 9, 10, 11] L157_0 :: .inBlock 0 :: k) (R (out ++ List.replicate l[i].N.toNat (nodeLv node l[i]) ++ (expand (l.drop (i + 1))).map (nodeLv node))) out hn (by omega) ?_ l[i].N.toNat 0 out (by omega) (by simp)
    · simp [nodeH, encRun] at hin
      simp [go_sem, run_codeL E L157_0.eq_1, hlt, List.getElem?_eq_getElem hlt, encRun, nodeH, purse_eq]
      rw [run_inLoop']
      simp [go_sem, purse_eq, List.range_succ]
      exact hin
    · intro τ out' ho h1 h3 h9 h10 h11
      have hlo : (out'.length : Int) = out.length + l[i].N := by rw [ho]; simp; omega
      have ih2 := ih (i + 1) out' (by omega) (by omega)
      rw [← ho]
      simp [nodeH, encRun] at ih2
      simp [go_sem, h1, h3, h9, h10, h11, w2, nodeH, encRun]
      rw [run_inLoop']
      simp [go_sem, purse_eq, h1, h3, h9, h10, h11, List.range_succ]
      exact ih2
theorem nodeE_spec (node : Int) (hnode : 0 ≤ node ∧ node ≤ 31) (l : List Run) (hdr : ∀ r ∈ l, 0 ≤ r.Drive ∧ r.Drive ≤ 4294967295) (hl : l.length ≤ 1048576) (hl2 : ∀ r ∈ l, r.Ok) (hc : chk l = 0) (hs : sumN l ≤ 1048576) (nl fu : Bool) :
    call E (.func (.func 157) [] [.ptr 0 0]) [.yld 1] (nodeH node nl fu l []) = some (.tup [], nodeH node nl fu l ((expand l).map (nodeLv node))) := by
  rw [call_func E E157]
  have hC := check_spec l (by omega) hl2 nl fu
  rw [ticks_eq] at hC
  simp [hc] at hC
  obtain ⟨hN, -, -⟩ := chk_right hc
  have h := nodeE_loop node hnode l hdr hl (fun r hr => by have := hN r hr; omega) nl fu [] (fun out => some (.tup [], nodeH node nl fu l out)) ?_ l.length 0 [] (by omega) (by simpa using hs)
  · simp [nodeH] at h
    simp [go_sem, ir157, nodeH, hC, purse_eq]
    rw [run_inLoop']
    simp [go_sem, purse_eq, List.range_succ]
    exact h
  · intro out τ
    simp [go_sem, nodeH, purse_eq, List.range_succ]
/-- Levels, tick by tick; or why there are none. -/
def levelsV1 (l : List Run) : AVal :=
  if chk l ≠ 0 then .tup [nilS, .lit (.int .i64 (chk l))] else if 1048576 < sumN l then .tup [nilS, .lit (.int .i64 12)] else .tup [.own 1 (expand l).length 1 0 (expand l).length, .lit (.int .i64 0)]
theorem levelsNode_spec (node : Int) (hnode : 0 ≤ node ∧ node ≤ 31) (l : List Run) (hdr : ∀ r ∈ l, 0 ≤ r.Drive ∧ r.Drive ≤ 4294967295) (hl : l.length ≤ 1048576) (hl2 : ∀ r ∈ l, r.Ok) (nl fu : Bool) :
    call E (.func (.func 100) [] []) [.imm nl fu true (l.map encRun), .func (.func 101) [] [.ptr 0 0]] [.box [.lit (.int .i64 node)]] = some (levelsV1 l, .box [.lit (.int .i64 node)] :: levelsH l (nodeLv node)) := by
  rw [call_func E E100]
  have hT := ticks_spec l (by omega) hl2 nl fu
  rw [ticks_eq] at hT
  by_cases h : chk l = 0
  · rw [h, if_pos rfl] at hT
    obtain ⟨hN, h0, h1⟩ := chk_right h
    by_cases h2 : 1048576 < sumN l
    · simp [go_sem, ir100, hT, h, h2, levelsV1, levelsH]
    · have hE := nodeE_spec node hnode l hdr hl hl2 h (by omega) nl fu
      have hA := each_spec nl fu (l.map encRun)
      simp [nodeH] at hE
      have h3 : sumN l * 8 ≤ 70368744177664 := by omega
      have h4 : sumN l ≤ 70368744177664 := by omega
      simp [go_sem, ir100, hT, h, h2, levelsV1, levelsH, hA, h0, h3, h4, purse_eq, hE]
  · rw [if_neg h] at hT
    simp [go_sem, ir100, hT, h, levelsV1, levelsH]
end Go.AM.R1
open Go Go.AM
namespace Go.AM.R1

def nodeV (l : List Run) (node : Int) : AVal :=
  if chk l ≠ 0 then .tup [nilS, .lit (.int .i64 (chk l))] else if node < 0 ∨ 32 ≤ node then .tup [nilS, .lit (.int .i64 10)] else levelsV l (nodeLv node)
def nodeHp (l : List Run) (node : Int) : Heap :=
  if chk l ≠ 0 then [] else if node < 0 ∨ 32 ≤ node then [] else levelsH l (nodeLv node)
theorem node_spec (node : Int) (l : List Run) (hdr : ∀ r ∈ l, 0 ≤ r.Drive ∧ r.Drive ≤ 4294967295) (hl : l.length ≤ 1048576) (hl2 : ∀ r ∈ l, r.Ok) (nl fu : Bool) :
    call E (.func (.func 43) [] []) [.imm nl fu true (l.map encRun), .lit (.int .i64 node)] [] = some (nodeV l node, nodeHp l node) := by
  rw [call_func E E43]
  have hC := check_spec l (by omega) hl2 nl fu
  rw [ticks_eq] at hC
  unfold nodeV nodeHp
  by_cases h : chk l = 0
  · by_cases h1 : node < 0
    · simp [h] at hC
      simp [go_sem, ir43, hC, h, h1]
    · by_cases h3 : 32 ≤ node
      · simp [h] at hC
        simp [go_sem, ir43, hC, h, h1, h3]
      · have hL := levelsNode_spec node (by omega) l hdr hl hl2 nl fu
        unfold levelsV1 levelsH at hL
        unfold levelsV levelsH
        simp [h] at hC
        by_cases h2 : 1048576 < sumN l
        · simp [h, h2] at hL
          simp [go_sem, ir43, hC, hL, h, h1, h2, h3, purse_eq]
        · simp [h, h2] at hL
          simp [go_sem, ir43, hC, hL, h, h1, h2, h3, purse_eq]
  · simp at hC
    simp [go_sem, ir43, hC, h]

theorem encI_inj {a b : Int} (h : encI a = encI b) : a = b := by simpa [encI] using h
end Go.AM.R1
open Go Go.AM
namespace Go.AM.R1

/-! ### The law TapWired -/
/-- What the nodes up to one drive, put together. -/
def gather (d : Int) : Nat → Int
  | 0 => 0
  | n + 1 => gather d n + (if d / 2 ^ n % 2 = 0 then 0 else 2 ^ n)
theorem gather_nat (m : Nat) : ∀ n : Nat, gather (m : Int) n = ((m % 2 ^ n : Nat) : Int)
  | 0 => by simp [gather, Nat.mod_one]
  | n + 1 => by
    rw [gather, gather_nat m n, Nat.mod_pow_succ]
    have e : (m : Int) / 2 ^ n % 2 = ((m / 2 ^ n % 2 : Nat) : Int) := by simp
    rw [e]
    have h2 : m / 2 ^ n % 2 = 0 ∨ m / 2 ^ n % 2 = 1 := by omega
    rcases h2 with h2 | h2
    · rw [h2]; simp
    · rw [h2]; simp
theorem gather_bound (d : Int) (h : 0 ≤ d) (n : Nat) : 0 ≤ gather d n ∧ gather d n < 2 ^ n := by
  obtain ⟨m, rfl⟩ := Int.eq_ofNat_of_zero_le h
  rw [gather_nat]
  have := Nat.mod_lt m (Nat.pow_pos (n := n) (show 0 < 2 by omega))
  constructor
  · omega
  · have e : ((2 : Int) ^ n) = ((2 ^ n : Nat) : Int) := by simp
    rw [e]; omega
theorem gather_32 (d : Int) (h : 0 ≤ d ∧ d ≤ 4294967295) : gather d 32 = d := by
  obtain ⟨m, rfl⟩ := Int.eq_ofNat_of_zero_le h.1
  rw [gather_nat, Nat.mod_eq_of_lt (by omega)]
def wireN (d : Int) : Nat → Int
  | 0 => 1
  | n + 1 => if d / 2 ^ n % 2 = 0 then 0 else wireN d n
theorem wireN_eq (d : Int) (h : 0 ≤ d) : ∀ n : Nat, wireN d n = if gather d n = 2 ^ n - 1 then 1 else 0
  | 0 => by simp [wireN, gather]
  | n + 1 => by
    have hb := gather_bound d h n
    rw [wireN, gather, wireN_eq d h n, Int.pow_succ]
    generalize (2 : Int) ^ n = p at hb
    generalize gather d n = g at hb
    by_cases hq : d / p % 2 = 0
    · rw [if_pos hq, if_pos hq, if_neg (by omega)]
    · rw [if_neg hq, if_neg hq]
      by_cases hg : g = p - 1
      · rw [if_pos hg, if_pos (by omega)]
      · rw [if_neg hg, if_neg (by omega)]
theorem wire_32 (d : Int) (h : 0 ≤ d ∧ d ≤ 4294967295) : wireN d 32 = if d = 4294967295 then 1 else 0 := by
  rw [wireN_eq d h.1, gather_32 d h]
  rfl
theorem pick_expand : ∀ (l : List Run) (t : Int), 0 ≤ t → (∀ r ∈ l, 0 ≤ r.N) → pick t l = (expand l)[t.toNat]?
  | [], _, _, _ => by simp [pick, expand]
  | r :: l, t, ht, h => by
    have hr := h r (by simp)
    rw [pick, expand_cons]
    by_cases hq : t < r.N
    · rw [if_pos hq, List.getElem?_append_left (by simp; omega), List.getElem?_replicate, if_pos (by omega)]
    · rw [if_neg hq, List.getElem?_append_right (by simp; omega), List.length_replicate, pick_expand l _ (by omega) fun x hx => h x (by simp [hx])]
      congr 1; omega
theorem expand_right {l : List Run} (h : ∀ r ∈ l, right r = true) {r : Run} (hr : r ∈ expand l) : r.Bus = if r.Drive = 4294967295 then 1 else 0 := by
  simp only [expand, List.mem_flatMap, List.mem_replicate] at hr
  obtain ⟨x, hx, _, rfl⟩ := hr
  have := h x hx
  simp only [right, Bool.and_eq_true, decide_eq_true_eq] at this
  exact this.2
theorem expand_drive {l : List Run} (h : ∀ r ∈ l, 0 ≤ r.Drive ∧ r.Drive ≤ 4294967295) {r : Run} (hr : r ∈ expand l) : 0 ≤ r.Drive ∧ r.Drive ≤ 4294967295 := by
  simp only [expand, List.mem_flatMap, List.mem_replicate] at hr
  obtain ⟨x, hx, _, rfl⟩ := hr
  exact h x hx
end Go.AM.R1
open Go Go.AM
namespace Go.AM.R1

/-! ### The law TapJoins -/
theorem expand_push (out : List Run) (r : Run) (hr : 0 ≤ r.N) (ho : ∀ x ∈ out, 0 ≤ x.N) : expand (push out r) = expand out ++ expand [r] := by
  rcases snoc_cases out with rfl | ⟨o, x, rfl⟩
  · simp [push, expand]
  · rw [push_snoc]
    by_cases h : alike x r = true
    · rw [if_pos h]
      have hx := ho x (by simp)
      simp only [alike, Bool.and_eq_true, decide_eq_true_eq] at h
      rw [expand_append, expand_append, List.append_assoc]
      congr 1
      simp only [expand, List.flatMap_cons, List.flatMap_nil, List.append_nil]
      rw [← h.1, ← h.2, List.replicate_append_replicate]
      congr 1
      omega
    · rw [if_neg h, show o ++ [x, r] = (o ++ [x]) ++ [r] from by simp, expand_append]
theorem push_mem_nonneg {out : List Run} {r : Run} (hr : 0 ≤ r.N) (ho : ∀ x ∈ out, 0 ≤ x.N) : ∀ x ∈ push out r, 0 ≤ x.N := by
  intro y hy
  rcases snoc_cases out with rfl | ⟨o, x, rfl⟩
  · simp [push] at hy; subst hy; exact hr
  · have hx := ho x (by simp)
    rw [push_snoc] at hy
    split at hy
    · simp at hy
      rcases hy with hy | rfl
      · exact ho y (by simp [hy])
      · simp; omega
    · simp at hy
      rcases hy with hy | rfl | rfl
      · exact ho y (by simp [hy])
      · exact hx
      · exact hr
theorem expand_joined : ∀ (l out : List Run), (∀ x ∈ out, 0 ≤ x.N) → expand (joined out l) = expand out ++ expand l
  | [], out, _ => by simp [joined, expand]
  | r :: l, out, ho => by
    rw [joined]
    by_cases h : r.N < 1
    · rw [if_pos h, expand_joined l out ho, expand_cons, show r.N.toNat = 0 from by omega]
      simp
    · rw [if_neg h, expand_joined l _ (push_mem_nonneg (by omega) ho), expand_push out r (by omega) ho]
      simp [expand]
theorem joined_self (l : List Run) : joined [] (joined [] l) = joined [] l := by
  rw [← joined_expand (joined [] l), expand_joined l [] (by simp)]
  simp only [expand, List.flatMap_nil, List.nil_append]
  exact joined_expand l []
/-- No two side by side are alike, and each has ticks. -/
def Tidy (l : List Run) : Prop := (∀ x ∈ l, 1 ≤ x.N) ∧ ∀ i (h : i + 1 < l.length), alike l[i] l[i + 1] = false
theorem tidy_push {out : List Run} {r : Run} (hr : 1 ≤ r.N) (ho : Tidy out) : Tidy (push out r) := by
  rcases snoc_cases out with rfl | ⟨o, x, rfl⟩
  · rw [push_nil]
    refine ⟨by simpa using hr, fun i h => ?_⟩
    simp at h
  · obtain ⟨h1, h2⟩ := ho
    have hx := h1 x (by simp)
    rw [push_snoc]
    by_cases h : alike x r = true
    · rw [if_pos h]
      refine ⟨fun y hy => ?_, fun i hi => ?_⟩
      · simp at hy
        rcases hy with hy | rfl
        · exact h1 y (by simp [hy])
        · simp; omega
      · have := h2 i (by simpa using hi)
        simp at hi
        by_cases hio : i + 1 < o.length
        · rw [List.getElem_append_left (by omega), List.getElem_append_left (by omega)] at this ⊢
          exact this
        · have hi' : i + 1 = o.length := by omega
          rw [List.getElem_append_left (by omega), List.getElem_append_right (by omega)] at this ⊢
          simpa [hi', alike] using this
    · rw [if_neg h, show o ++ [x, r] = (o ++ [x]) ++ [r] from by simp]
      refine ⟨fun y hy => ?_, fun i hi => ?_⟩
      · simp at hy
        rcases hy with hy | rfl | rfl
        · exact h1 y (by simp [hy])
        · exact hx
        · exact hr
      · simp at hi
        by_cases hio : i + 1 < (o ++ [x]).length
        · rw [List.getElem_append_left (by omega), List.getElem_append_left hio]
          exact h2 i hio
        · simp at hio
          have hi' : i = o.length := by omega
          subst hi'
          have hfalse : alike x r = false := by simpa using h
          rw [List.getElem_append_left (by simp), List.getElem_append_right (by simp)]
          simpa using hfalse
theorem tidy_joined : ∀ (l out : List Run), Tidy out → Tidy (joined out l)
  | [], _, h => h
  | r :: l, out, h => by
    rw [joined]
    split
    · exact tidy_joined l out h
    · exact tidy_joined l _ (tidy_push (by omega) h)
theorem joined_mem : ∀ (l out : List Run) (P : Run → Prop), (∀ r ∈ l, 1 ≤ r.N → P r) → (∀ x r, P x → P r → alike x r = true → P ⟨x.N + r.N, x.Bus, x.Drive⟩) → (∀ x ∈ out, P x) → ∀ y ∈ joined out l, P y
  | [], _, _, _, _, h => h
  | r :: l, out, P, hl, hp, h => by
    rw [joined]
    split
    · exact joined_mem l out P (fun x hx => hl x (by simp [hx])) hp h
    · refine joined_mem l _ P (fun x hx => hl x (by simp [hx])) hp fun y hy => ?_
      have hr := hl r (by simp) (by omega)
      rcases snoc_cases out with rfl | ⟨o, x, rfl⟩
      · simp [push] at hy; subst hy; exact hr
      · have hx := h x (by simp)
        rw [push_snoc] at hy
        split at hy
        · rename_i ha
          simp at hy
          rcases hy with hy | rfl
          · exact h y (by simp [hy])
          · exact hp x r hx hr ha
        · simp at hy
          rcases hy with hy | rfl | rfl
          · exact h y (by simp [hy])
          · exact hx
          · exact hr
theorem le_sum : ∀ {l : List Run}, (∀ r ∈ l, 0 ≤ r.N) → ∀ r ∈ l, r.N ≤ sumN l
  | x :: l, h, r, hr => by
    have hx := h x (by simp)
    have hn : ∀ m : List Run, (∀ r ∈ m, 0 ≤ r.N) → 0 ≤ sumN m := by
      intro m; induction m with
      | nil => intro _; simp [sumN]
      | cons x xs ih => intro h; have := h x (by simp); have := ih fun r hr => h r (by simp [hr]); simp only [sumN]; omega
    have := hn l fun r hr => h r (by simp [hr])
    rw [show sumN (x :: l) = x.N + sumN l from rfl]
    rcases List.mem_cons.1 hr with rfl | hr
    · omega
    · have := le_sum (fun r hr => h r (by simp [hr])) r hr; omega
/-- Joined runs are as right as the runs. -/
theorem joined_chk {l : List Run} (h : chk l = 0) : chk (joined [] l) = 0 ∧ sumN (joined [] l) = sumN l ∧ expand (joined [] l) = expand l := by
  obtain ⟨hN, h0, h1⟩ := chk_right h
  have hN' : ∀ r ∈ l, 0 ≤ r.N := fun r hr => by have := hN r hr; omega
  have hex : expand (joined [] l) = expand l := by rw [expand_joined l [] (by simp)]; simp [expand]
  have hJ1 : ∀ r ∈ joined [] l, 1 ≤ r.N := (tidy_joined l [] ⟨by simp, by simp⟩).1
  have hJ' : ∀ r ∈ joined [] l, 0 ≤ r.N := fun r hr => by have := hJ1 r hr; omega
  have hs : sumN (joined [] l) = sumN l := by rw [← expand_length _ hJ', ← expand_length _ hN', hex]
  refine ⟨?_, hs, hex⟩
  have hb := joined_mem l [] (fun r => r.Bus = if r.Drive = 4294967295 then 1 else 0) (fun r hr _ => by
    have h7 := h
    unfold chk at h7
    cases ha : l.all right with
    | false => rw [ha] at h7; simp at h7
    | true =>
      have := List.all_eq_true.1 ha r hr
      simp only [right, Bool.and_eq_true, decide_eq_true_eq] at this
      exact this.2) (fun x r hx _ _ => hx) (by simp)
  have hall : (joined [] l).all right = true := by
    rw [List.all_eq_true]
    intro r hr
    have h2 := hJ1 r hr
    have h3 := le_sum hJ' r hr
    simp only [right, Bool.and_eq_true, decide_eq_true_eq]
    exact ⟨⟨h2, by omega⟩, hb r hr⟩
  unfold chk
  rw [if_pos hall, if_neg (by omega)]
theorem joined_cuts (l : List Run) (h : ∀ r ∈ l, 0 ≤ r.N) (a : Int) (h0 : 0 ≤ a) (h1 : a ≤ sumN l) :
    joined [] (joined [] (betweenGo 0 a 0 l) ++ joined [] (betweenGo a (sumN l) 0 l)) = joined [] l := by
  rw [← joined_expand (_ ++ _), expand_append, expand_joined _ [] (by simp), expand_joined _ [] (by simp)]
  have e1 := expand_between 0 a l 0 h
  have e2 := expand_between a (sumN l) l 0 h
  have hl := expand_length l h
  rw [e1, e2]
  simp only [expand, List.flatMap_nil, List.nil_append]
  rw [show (fun r : Run => List.replicate r.N.toNat (⟨1, r.Bus, r.Drive⟩ : Run)) = fun r => List.replicate r.N.toNat ⟨1, r.Bus, r.Drive⟩ from rfl]
  have hx : List.flatMap (fun r : Run => List.replicate r.N.toNat (⟨1, r.Bus, r.Drive⟩ : Run)) l = expand l := rfl
  rw [hx, List.take_of_length_le (show (expand l).length ≤ (sumN l - 0).toNat by omega)]
  simp only [Int.sub_zero, Int.zero_sub, Int.neg_zero, Int.toNat_zero, List.drop_zero, List.take_append_drop]
  exact joined_expand l []

end Go.AM.R1
open Go Go.AM
namespace Go.AM.R1

/-! ### Bytes, and the bytes of numbers -/
def encB (n : Nat) : List AVal := [.lit (.int .u8 n)]
/-- The bytes of a number. -/
def putN (n : Nat) : List Nat := if h : 128 ≤ n then (n % 128 + 128) :: putN (n / 128) else [n]
termination_by n
decreasing_by omega
theorem putN_big {n : Nat} (h : 128 ≤ n) : putN n = (n % 128 + 128) :: putN (n / 128) := by rw [putN, dif_pos h]
theorem putN_small {n : Nat} (h : n < 128) : putN n = [n] := by rw [putN, dif_neg (by omega)]
theorem wrap8 (n : Nat) : IntKind.wrap .u8 (n : Int) = ((n % 256 : Nat) : Int) := by
  simp [IntKind.wrap, IntKind.bits, IntKind.signed]
theorem wrap_u64 {n : Nat} (h : n < 18446744073709551616) : IntKind.wrap .u64 (n : Int) = (n : Int) := by
  simp [IntKind.wrap, IntKind.bits, IntKind.signed]; omega
theorem or128 : ∀ m : Nat, m < 256 → m ||| 128 = m % 128 + 128 := by decide +kernel
theorem ior_128 (n : Nat) : ior .u8 ((n % 256 : Nat) : Int) 128 = ((n % 128 + 128 : Nat) : Int) := by
  have e : (BitVec.ofInt 8 ((n % 256 : Nat) : Int) ||| BitVec.ofInt 8 128).toNat = n % 128 + 128 := by
    rw [BitVec.toNat_or, BitVec.toNat_ofInt, BitVec.toNat_ofInt]
    have h1 : (((n % 256 : Nat) : Int) % ((2 ^ 8 : Nat) : Int)).toNat = n % 256 := by simp; omega
    have h2 : ((128 : Int) % ((2 ^ 8 : Nat) : Int)).toNat = 128 := by decide
    rw [h1, h2, or128 _ (by omega)]
    omega
  unfold ior
  show IntKind.wrap .u8 ((BitVec.ofInt 8 ((n % 256 : Nat) : Int) ||| BitVec.ofInt 8 128).toNat : Int) = _
  rw [e, wrap8]
  have : n % 128 + 128 < 256 := by omega
  omega
theorem fdiv128 (n : Nat) : (n : Int).fdiv 128 = ((n / 128 : Nat) : Int) := by
  rw [Int.fdiv_eq_ediv_of_nonneg _ (by omega)]; omega
theorem tdiv128 (n : Nat) : (n : Int).tdiv 128 = ((n / 128 : Nat) : Int) := by
  rw [Int.tdiv_eq_ediv_of_nonneg (by omega)]; omega
theorem tmod128 (n : Nat) : (n : Int).tmod 128 = ((n % 128 : Nat) : Int) := by
  rw [Int.tmod_eq_emod_of_nonneg (by omega)]; omega
theorem rowsB (l : List Nat) : rowsOk 1 (l.map encB) = true := rowsOk_map (f := encB) (fun _ => rfl) l

end Go.AM.R1
open Go Go.AM
namespace Go.AM.R1

/-! ### The sum of bytes -/
def stepB (x : BitVec 32) : BitVec 32 := (x >>> 1) ^^^ (if x.toNat % 2 = 1 then 3988292384#32 else 0#32)
def steps : Nat → BitVec 32 → BitVec 32
  | 0, x => x
  | n + 1, x => steps n (stepB x)
def onB (x : BitVec 32) (c : Nat) : BitVec 32 := steps 8 (x ^^^ BitVec.ofNat 32 c)
def crcGo (x : BitVec 32) (l : List Nat) : BitVec 32 := l.foldl onB x
def crc (l : List Nat) : BitVec 32 := crcGo 4294967295#32 l ^^^ 4294967295#32

theorem wrap32bv (x : BitVec 32) : IntKind.wrap .u32 (x.toNat : Int) = (x.toNat : Int) := by
  have := x.isLt
  simp [IntKind.wrap, IntKind.bits, IntKind.signed]; omega
theorem ofInt_toNat (x : BitVec 32) : BitVec.ofInt 32 (x.toNat : Int) = x := by
  rw [BitVec.ofInt_natCast, BitVec.ofNat_toNat, BitVec.setWidth_eq]
theorem ixor_bv (x y : BitVec 32) : ixor .u32 (x.toNat : Int) (y.toNat : Int) = ((x ^^^ y).toNat : Int) := by
  unfold ixor
  show IntKind.wrap .u32 ((BitVec.ofInt 32 (x.toNat : Int) ^^^ BitVec.ofInt 32 (y.toNat : Int)).toNat : Int) = _
  rw [ofInt_toNat, ofInt_toNat, wrap32bv]
theorem shr1_bv (x : BitVec 32) : (x.toNat : Int).fdiv 2 = ((x >>> 1).toNat : Int) := by
  rw [Int.fdiv_eq_ediv_of_nonneg _ (by omega), BitVec.toNat_ushiftRight, Nat.shiftRight_eq_div_pow]
  omega
theorem tdiv2_bv (x : BitVec 32) : (x.toNat : Int).tdiv 2 = ((x >>> 1).toNat : Int) := by
  rw [Int.tdiv_eq_ediv_of_nonneg (by omega), BitVec.toNat_ushiftRight, Nat.shiftRight_eq_div_pow]
  omega
theorem step_bv (x : BitVec 32) : ixor .u32 ((x >>> 1).toNat : Int) (IntKind.wrap .u32 ((x.toNat : Int) % 2 * 3988292384)) = ((stepB x).toNat : Int) := by
  have h : x.toNat % 2 = 0 ∨ x.toNat % 2 = 1 := by omega
  unfold stepB
  rcases h with h | h
  · rw [if_neg (by omega), ← ixor_bv]
    congr 1
    have : (x.toNat : Int) % 2 = 0 := by omega
    rw [this]; rfl
  · rw [if_pos h, ← ixor_bv]
    congr 1
    have : (x.toNat : Int) % 2 = 1 := by omega
    rw [this]; rfl
theorem iand1_bv (x : BitVec 32) : iand .u32 (x.toNat : Int) 1 = (x.toNat : Int) % 2 := iand_one (by omega) (by have := x.isLt; omega)

theorem step_if (x : BitVec 32) : ((stepB x).toNat : Int) = if x.toNat % 2 = 1 then ixor .u32 ((x >>> 1).toNat : Int) 3988292384 else ((x >>> 1).toNat : Int) := by
  unfold stepB
  by_cases h : x.toNat % 2 = 1
  · rw [if_pos h, if_pos h, ← ixor_bv]; rfl
  · rw [if_neg h, if_neg h]; simp
end Go.AM.R1
open Go Go.AM
namespace Go.AM.R1

/-! ### Sealing -/
def tailN (s : Nat) : List Nat := [s % 256, s / 256 % 256, s / 65536 % 256, s / 16777216 % 256]
theorem shr_nat (s m : Nat) : (s : Int).fdiv ((2 : Int) ^ m) = ((s / 2 ^ m : Nat) : Int) := by
  rw [Int.fdiv_eq_ediv_of_nonneg _ (Int.le_of_lt (Int.pow_pos (by omega)))]
  simp
/-- Bytes, with their sum behind them. -/
def sealB (l : List Nat) : List Nat := l ++ tailN (crc l).toNat
end Go.AM.R1
open Go Go.AM
namespace Go.AM.R1
/-! ### Which blocks are right -/
/-- Are there two runs side by side with the same drivers? -/
def dup : List Run → Bool
  | a :: b :: l => decide (a.Drive = b.Drive) || dup (b :: l)
  | _ => false
theorem dup_cons (l : List Run) (i : Nat) (h : i + 1 < l.length) : dup (l.drop i) = (decide (l[i].Drive = l[i + 1].Drive) || dup (l.drop (i + 1))) := by
  rw [List.drop_eq_getElem_cons (show i < l.length by omega), List.drop_eq_getElem_cons h, dup]
theorem dup_end (l : List Run) (i : Nat) (h : l.length ≤ i + 1) : dup (l.drop i) = false := by
  rcases Nat.lt_or_ge i l.length with h2 | h2
  · rw [List.drop_eq_getElem_cons h2, List.drop_eq_nil_of_le (by omega)]; rfl
  · rw [List.drop_eq_nil_of_le h2]; rfl
def chkB (first : Int) (l : List Run) : Int :=
  if first < 0 ∨ 1073741824 < first then 10 else if l = [] then 16 else if 4096 < l.length then 12 else if chk l ≠ 0 then chk l else if dup l = true then 11 else if 1073741824 < first + sumN l then 12 else 0
def encBlk (first : Int) (l : List Run) (nl fu : Bool) : List AVal := [.lit (.int .i64 first), .imm nl fu true (l.map encRun)]
end Go.AM.R1
open Go Go.AM
namespace Go.AM.R1

/-! ### The bytes of a block -/
theorem ixor_range (x y : Int) : 0 ≤ ixor .u32 x y ∧ ixor .u32 x y ≤ 4294967295 := by
  unfold ixor
  generalize ((BitVec.ofInt IntKind.u32.bits x ^^^ BitVec.ofInt IntKind.u32.bits y).toNat : Int) = z
  simp [IntKind.wrap, IntKind.bits, IntKind.signed]; omega
theorem putN_pos (n : Nat) : putN n ≠ [] := by
  rcases Nat.lt_or_ge n 128 with h | h
  · rw [putN_small h]; simp
  · rw [putN_big h]; simp
theorem putN_length : ∀ (d n : Nat), n < 128 ^ (d + 1) → (putN n).length ≤ d + 1
  | 0, n, h => by rw [putN_small (by omega)]; simp
  | d + 1, n, h => by
    rcases Nat.lt_or_ge n 128 with h2 | h2
    · rw [putN_small h2]; simp
    · rw [putN_big h2, List.length_cons]
      have := putN_length d (n / 128) (by rw [Nat.pow_succ] at h; omega)
      omega
theorem putN_len64 {n : Nat} (h : n < 18446744073709551616) : (putN n).length ≤ 10 := putN_length 9 n (by omega)
theorem putN_byte : ∀ (d n : Nat), n < 128 ^ (d + 1) → ∀ c ∈ putN n, c < 256
  | 0, n, h => by rw [putN_small (by omega)]; simp; omega
  | d + 1, n, h => by
    rcases Nat.lt_or_ge n 128 with h2 | h2
    · rw [putN_small h2]; simp; omega
    · rw [putN_big h2]
      have := putN_byte d (n / 128) (by rw [Nat.pow_succ] at h; omega)
      intro c hc
      rcases List.mem_cons.1 hc with rfl | hc
      · omega
      · exact this c hc
/-- The inside as it is laid: a place with its bytes. -/
def inH (I : List Nat) : Heap := if I = [] then [.box [nilS]] else [.box [.own 1 I.length 1 0 I.length], .arr true false false 1 (I.map encB)]
/-- The numbers of a block's runs. -/
def runN (last : Int) : List Run → List Nat
  | [] => []
  | r :: l => r.N.toNat :: (ixor .u32 r.Drive last).toNat :: runN r.Drive l
def numsN (first : Int) (l : List Run) : List Nat := first.toNat :: l.length :: runN 4294967295 l
def bytesN (l : List Nat) : List Nat := l.flatMap putN
def insideB (first : Int) (l : List Run) : List Nat := bytesN (numsN first l)
/-- The bytes of numbers, as an inside. -/
def wholeB (l : List Nat) : List Nat := sealB (putN (bytesN l).length ++ bytesN l)
theorem chkB_ok {first : Int} {l : List Run} (h : chkB first l = 0) : (0 ≤ first ∧ first ≤ 1073741824) ∧ l ≠ [] ∧ l.length ≤ 4096 ∧ chk l = 0 ∧ dup l = false ∧ first + sumN l ≤ 1073741824 := by
  unfold chkB at h
  split at h
  · omega
  · split at h
    · omega
    · split at h
      · omega
      · split at h
        · rename_i h5; exact absurd h h5
        · split at h
          · omega
          · split at h
            · omega
            · rename_i h1 h2 h3 h4 h5 h6
              exact ⟨by omega, h2, by omega, by simpa using h4, by simpa using h5, by omega⟩
theorem bytes_len (l : List Nat) (h : ∀ n ∈ l, n < 18446744073709551616) : (bytesN l).length ≤ 10 * l.length := by
  induction l with
  | nil => simp [bytesN]
  | cons n l ih =>
    have h1 := putN_len64 (h n (by simp))
    have h2 := ih fun m hm => h m (by simp [hm])
    simp only [bytesN, List.flatMap_cons, List.length_append, List.length_cons] at h2 ⊢
    omega
theorem bytes_byte (l : List Nat) (h : ∀ n ∈ l, n < 18446744073709551616) : ∀ c ∈ bytesN l, c < 256 := by
  intro c hc
  simp only [bytesN, List.mem_flatMap] at hc
  obtain ⟨n, hn, hc⟩ := hc
  exact putN_byte 9 n (by have := h n hn; omega) c hc
theorem runN_lt : ∀ (l : List Run) (last : Int), (∀ r ∈ l, 1 ≤ r.N ∧ r.N ≤ 1073741824) → ∀ n ∈ runN last l, n < 4294967296
  | [], _, _, n, hn => by simp [runN] at hn
  | r :: l, last, h, n, hn => by
    have hr := h r (by simp)
    have hx := ixor_range r.Drive last
    simp only [runN, List.mem_cons] at hn
    rcases hn with rfl | rfl | hn
    · omega
    · omega
    · exact runN_lt l _ (fun x hx => h x (by simp [hx])) n hn
theorem runN_length : ∀ (l : List Run) (last : Int), (runN last l).length = 2 * l.length
  | [], _ => rfl
  | r :: l, last => by simp only [runN, List.length_cons, runN_length l]; omega
theorem nums_lt {first : Int} {l : List Run} (hf : 0 ≤ first ∧ first ≤ 1073741824) (hl : l.length ≤ 4096) (h : ∀ r ∈ l, 1 ≤ r.N ∧ r.N ≤ 1073741824) : ∀ n ∈ numsN first l, n < 4294967296 := by
  intro n hn
  simp only [numsN, List.mem_cons] at hn
  rcases hn with rfl | rfl | hn
  · omega
  · omega
  · exact runN_lt l _ h n hn
theorem inside_len {first : Int} {l : List Run} (hf : 0 ≤ first ∧ first ≤ 1073741824) (hl : l.length ≤ 4096) (h : ∀ r ∈ l, 1 ≤ r.N ∧ r.N ≤ 1073741824) : (insideB first l).length ≤ 82000 := by
  have := bytes_len (numsN first l) fun n hn => by have := nums_lt hf hl h n hn; omega
  have e : (numsN first l).length = 2 * l.length + 2 := by simp only [numsN, List.length_cons, runN_length]
  unfold insideB
  omega
end Go.AM.R1
open Go Go.AM
namespace Go.AM.R1

def encU (n : Nat) : List AVal := [.lit (.int .u64 n)]
theorem rowsU (l : List Nat) : rowsOk 1 (l.map encU) = true := rowsOk_map (f := encU) (fun _ => rfl) l
theorem tail_length (s : Nat) : (tailN s).length = 4 := rfl
theorem whole_length (l : List Nat) : (wholeB l).length = (putN (bytesN l).length).length + (bytesN l).length + 4 := by
  simp [wholeB, sealB, tail_length]; omega
end Go.AM.R1
open Go Go.AM Go.Proofs
namespace Go.AM.R1

section
variable {H : Type} {P : Program}
theorem decV_int {n : Nat} {t : TypeId} {ik : IntKind} (hu : P.underlying t = some (.int ik)) {d : DataW H} {a : AVal} (h : DecV P (n + 1) t d a) :
    ∃ v, d = .lit (.int ik v) ∧ (Lit.int ik v).wf = true ∧ a = .lit (.int ik v) := by
  unfold DecV at h
  rw [if_neg (by simp [isAggT, hu])] at h
  simp only [Dec, hu] at h
  obtain ⟨v, h1, h2, h3⟩ := h
  exact ⟨v, h1, h2, by simpa using h3⟩
theorem all2_forall {α β : Type} {R : α → β → Prop} {Q : β → Prop} (h : ∀ a b, R a b → Q b) : ∀ {l : List α} {m : List β}, All2 R l m → ∀ b ∈ m, Q b
  | [], [], _, b, hb => by cases hb
  | [], _ :: _, h', _, _ => h'.elim
  | _ :: _, [], h', _, _ => h'.elim
  | a :: r, c :: s, h', b, hb => by
    rcases List.mem_cons.1 hb with rfl | hb
    · exact h _ _ h'.1
    · exact all2_forall h h'.2 b hb
theorem all2_length {α β : Type} {R : α → β → Prop} : ∀ {l : List α} {m : List β}, All2 R l m → l.length = m.length
  | [], [], _ => rfl
  | [], _ :: _, h' => h'.elim
  | _ :: _, [], h' => h'.elim
  | a :: r, c :: s, h' => by simp [all2_length h'.2]
/-- Rows that are all of a form. -/
theorem rows_map {α : Type} (f : α → List AVal) (Q : α → Prop) : ∀ {rows : List (List AVal)}, (∀ r ∈ rows, ∃ x, r = f x ∧ Q x) → ∃ l : List α, rows = l.map f ∧ ∀ x ∈ l, Q x
  | [], _ => ⟨[], rfl, by simp⟩
  | r :: s, h => by
    obtain ⟨x, hx, hq⟩ := h r (by simp)
    obtain ⟨l, hl, hl2⟩ := rows_map f Q (rows := s) fun y hy => h y (by simp [hy])
    exact ⟨x :: l, by rw [hx, hl]; rfl, fun y hy => by rcases List.mem_cons.1 hy with rfl | hy <;> simp_all⟩

theorem wf64 {v : Int} (h : (Lit.int .i64 v).wf = true) : -9223372036854775808 ≤ v ∧ v ≤ 9223372036854775807 := by
  simpa [Lit.wf, IntKind.min, IntKind.max, IntKind.signed, IntKind.bits] using h
theorem wfu32 {v : Int} (h : (Lit.int .u32 v).wf = true) : 0 ≤ v ∧ v ≤ 4294967295 := by
  simpa [Lit.wf, IntKind.min, IntKind.max, IntKind.signed, IntKind.bits] using h

theorem fieldsR_cons {α β : Type} {R : TypeId → α → β → Prop} {f : Field} {fs : List Field} : ∀ {l : List α} {m : List β}, FieldsR R (f :: fs) l m → ∃ a r b s, l = a :: r ∧ m = b :: s ∧ R f.type a b ∧ FieldsR R fs r s
  | [], _, h => h.elim
  | _ :: _, [], h => h.elim
  | a :: r, b :: s, h => ⟨a, r, b, s, rfl, rfl, h.1, h.2⟩
theorem fieldsR_nil {α β : Type} {R : TypeId → α → β → Prop} : ∀ {l : List α} {m : List β}, FieldsR R [] l m → l = [] ∧ m = []
  | [], [], _ => ⟨rfl, rfl⟩
  | [], _ :: _, h => h.elim
  | _ :: _, _, h => h.elim
theorem decArgs_cons {k : Nat} {t : TypeId} {ts : List TypeId} : ∀ {ds : List (DataW H)} {cs : List AVal}, DecArgs P k (t :: ts) ds cs → ∃ d r b s, ds = d :: r ∧ cs = b :: s ∧ DecV P k t d b ∧ DecArgs P k ts r s
  | [], _, h => h.elim
  | _ :: _, [], h => h.elim
  | d :: r, b :: s, h => ⟨d, r, b, s, rfl, rfl, h.1, h.2⟩
theorem decArgs_nil {k : Nat} : ∀ {ds : List (DataW H)} {cs : List AVal}, DecArgs P k [] ds cs → ds = [] ∧ cs = []
  | [], [], _ => ⟨rfl, rfl⟩
  | [], _ :: _, h => h.elim
  | _ :: _, _, h => h.elim
structure IsRun (P : Program) (t : TypeId) where
  f1 : Field
  f2 : Field
  f3 : Field
  hu : P.underlying t = some (.struct #[f1, f2, f3])
  h1 : P.underlying f1.type = some (.int .i64)
  h2 : P.underlying f2.type = some (.int .i64)
  h3 : P.underlying f3.type = some (.int .u32)
def Run.Fit (r : Run) : Prop := (-9223372036854775808 ≤ r.N ∧ r.N ≤ 9223372036854775807) ∧ (-9223372036854775808 ≤ r.Bus ∧ r.Bus ≤ 9223372036854775807) ∧ (0 ≤ r.Drive ∧ r.Drive ≤ 4294967295)
theorem dec_run {n : Nat} {t : TypeId} (i : IsRun P t) {d : DataW H} {cs : List AVal} (h : Dec P (n + 2) t d cs) : ∃ r : Run, cs = encRun r ∧ r.Fit := by
  simp only [Dec, i.hu] at h
  obtain ⟨parts, ass, -, rfl, hf⟩ := h
  obtain ⟨p1, ps1, a1, as1, rfl, rfl, r1, hf⟩ := fieldsR_cons hf
  obtain ⟨p2, ps2, a2, as2, rfl, rfl, r2, hf⟩ := fieldsR_cons hf
  obtain ⟨p3, ps3, a3, as3, rfl, rfl, r3, hf⟩ := fieldsR_cons hf
  obtain ⟨rfl, rfl⟩ := fieldsR_nil hf
  simp only [Dec, i.h1, i.h2, i.h3] at r1 r2 r3
  obtain ⟨v1, -, w1, rfl⟩ := r1
  obtain ⟨v2, -, w2, rfl⟩ := r2
  obtain ⟨v3, -, w3, rfl⟩ := r3
  exact ⟨⟨v1, v2, v3⟩, rfl, wf64 w1, wf64 w2, wfu32 w3⟩
theorem dec_runs {n : Nat} {t e : TypeId} (hu : P.underlying t = some (.slice e)) (i : IsRun P e) {d : DataW H} {a : AVal} (h : DecV P (n + 3) t d a) :
    ∃ (nl fu : Bool) (l : List Run), a = .imm nl fu true (l.map encRun) ∧ ∀ r ∈ l, r.Fit := by
  unfold DecV at h
  rw [if_neg (by simp [isAggT, hu])] at h
  rw [Dec, hu] at h
  rcases h with ⟨-, h⟩ | ⟨elems, spare, rows, -, h, h2⟩
  · exact ⟨true, true, [], by simpa [nilS] using h, by simp⟩
  · obtain ⟨l, rfl, hl⟩ := rows_map encRun Run.Fit (all2_forall (Q := fun b => ∃ r : Run, b = encRun r ∧ r.Fit) (fun a b hab => dec_run i hab) h2)
    exact ⟨false, false, l, by simpa using h, hl⟩
theorem all2_flat {α : Type} (f : α → List AVal) (Q : α → Prop) {R : DataW H → List AVal → Prop} (h : ∀ d a, R d a → ∃ x, a = f x ∧ Q x) :
    ∀ {ds : List (DataW H)} {ass : List (List AVal)}, All2 R ds ass → ∃ l : List α, l.length = ds.length ∧ ass = l.map f ∧ ∀ x ∈ l, Q x
  | [], [], _ => ⟨[], rfl, rfl, by simp⟩
  | [], _ :: _, h' => h'.elim
  | _ :: _, [], h' => h'.elim
  | d :: ds, a :: ass, h' => by
    obtain ⟨x, hx, hq⟩ := h _ _ h'.1
    obtain ⟨l, h1, h2, h3⟩ := all2_flat f Q h h'.2
    exact ⟨x :: l, by simp [h1], by rw [hx, h2]; rfl, fun y hy => by rcases List.mem_cons.1 hy with rfl | hy <;> simp_all⟩
theorem decV_ints {n m : Nat} {t e : TypeId} {ik : IntKind} (hu : P.underlying t = some (.array m e)) (he : P.underlying e = some (.int ik)) {d : DataW H} {a : AVal} (h : DecV P (n + 2) t d a) :
    ∃ l : List Int, l.length = m ∧ a = .agg (l.map fun v => .lit (.int ik v)) ∧ ∀ v ∈ l, (Lit.int ik v).wf = true := by
  unfold DecV at h
  rw [if_pos (by simp [isAggT, hu])] at h
  obtain ⟨cs, rfl, h⟩ := h
  rw [Dec, hu] at h
  obtain ⟨parts, ass, -, rfl, hm, h2⟩ := h
  obtain ⟨l, h3, rfl, h5⟩ := all2_flat (fun v => [AVal.lit (.int ik v)]) (fun v => (Lit.int ik v).wf = true) (fun d a hda => by
    simp only [Dec, he] at hda
    obtain ⟨v, -, hw, rfl⟩ := hda
    exact ⟨v, rfl, hw⟩) h2
  refine ⟨l, by omega, ?_, h5⟩
  congr 1
  clear h5 h3 h2
  induction l with
  | nil => rfl
  | cons x r ih => simp [ih]
end
end Go.AM.R1
open Go Go.AM Go.Proofs
namespace Go.AM.R1
section
variable {H : Type} {P : Program}
theorem dec_runs' {n : Nat} {t e : TypeId} (hu : P.underlying t = some (.slice e)) (i : IsRun P e) {d : DataW H} {cs : List AVal} (h : Dec P (n + 3) t d cs) :
    ∃ (nl fu : Bool) (l : List Run), cs = [.imm nl fu true (l.map encRun)] ∧ ∀ r ∈ l, r.Fit := by
  rw [Dec, hu] at h
  rcases h with ⟨-, h⟩ | ⟨elems, spare, rows, -, h, h2⟩
  · exact ⟨true, true, [], by simpa [nilS] using h, by simp⟩
  · obtain ⟨l, rfl, hl⟩ := rows_map encRun Run.Fit (all2_forall (Q := fun b => ∃ r : Run, b = encRun r ∧ r.Fit) (fun a b hab => dec_run i hab) h2)
    exact ⟨false, false, l, h, hl⟩
theorem decV_block {n : Nat} {t e : TypeId} {f1 f2 : Field} (hu : P.underlying t = some (.struct #[f1, f2])) (h1 : P.underlying f1.type = some (.int .i64)) (h2 : P.underlying f2.type = some (.slice e)) (i : IsRun P e)
    {d : DataW H} {a : AVal} (h : DecV P (n + 4) t d a) : ∃ (first : Int) (nl fu : Bool) (l : List Run), a = .agg (encBlk first l nl fu) ∧ (Lit.int .i64 first).wf = true ∧ ∀ r ∈ l, r.Fit := by
  unfold DecV at h
  rw [if_pos (by simp [isAggT, hu])] at h
  obtain ⟨cs, rfl, h⟩ := h
  rw [Dec, hu] at h
  obtain ⟨parts, ass, -, rfl, hf⟩ := h
  obtain ⟨p1, ps1, a1, as1, rfl, rfl, r1, hf⟩ := fieldsR_cons hf
  obtain ⟨p2, ps2, a2, as2, rfl, rfl, r2, hf⟩ := fieldsR_cons hf
  obtain ⟨rfl, rfl⟩ := fieldsR_nil hf
  simp only [Dec, h1] at r1
  obtain ⟨v1, -, w1, rfl⟩ := r1
  obtain ⟨nl, fu, l, rfl, hl⟩ := dec_runs' h2 i r2
  exact ⟨v1, nl, fu, l, rfl, w1, hl⟩
/-- Bytes. -/
theorem decV_bytes {n : Nat} {t e : TypeId} (hu : P.underlying t = some (.slice e)) (he : P.underlying e = some (.int .u8)) {d : DataW H} {a : AVal} (h : DecV P (n + 2) t d a) :
    ∃ (nl fu : Bool) (l : List Nat), a = .imm nl fu true (l.map encB) ∧ (nl = false ∨ l = []) ∧ ∀ c ∈ l, c < 256 := by
  unfold DecV at h
  rw [if_neg (by simp [isAggT, hu])] at h
  rw [Dec, hu] at h
  rcases h with ⟨-, h⟩ | ⟨elems, spare, rows, -, h, h2⟩
  · exact ⟨true, true, [], by simpa [nilS] using h, .inr rfl, by simp⟩
  · obtain ⟨l, rfl, hl⟩ := rows_map encB (fun c => c < 256) (all2_forall (Q := fun b => ∃ c : Nat, b = encB c ∧ c < 256) (fun a b hab => by
      simp only [Dec, he] at hab
      obtain ⟨v, -, hw, rfl⟩ := hab
      have hv : 0 ≤ v ∧ v ≤ 255 := by simpa [Lit.wf, IntKind.min, IntKind.max, IntKind.signed, IntKind.bits] using hw
      refine ⟨v.toNat, ?_, by omega⟩
      unfold encB
      rw [show ((v.toNat : Nat) : Int) = v from by omega]) h2)
    exact ⟨false, false, l, by simpa using h, .inl rfl, hl⟩
end
end Go.AM.R1
open Go Go.AM
namespace Go.AM.R1

/-! ### Scripts -/
def encScr (node first : Int) (l : List Run) (nl fu : Bool) : List AVal := [.lit (.int .i64 node), .lit (.int .i64 first), .imm nl fu true (l.map encRun)]
def okR (r : Run) : Bool := decide (1 ≤ r.N) && decide (r.N ≤ 1073741824) && (decide (0 ≤ r.Bus) && decide (r.Bus ≤ 1))
def okP (node first : Int) : Bool := decide (0 ≤ node) && decide (node ≤ 31) && (decide (0 ≤ first) && decide (first ≤ 1073741824))
/-- How a script is wrong. -/
def chkS (node first : Int) (l : List Run) : Int := if okP node first = true ∧ l.all okR = true then (if 1073741824 < sumN l then 12 else 0) else 10
theorem okR_N {r : Run} (h : okR r = true) : (1 ≤ r.N ∧ r.N ≤ 1073741824) ∧ (0 ≤ r.Bus ∧ r.Bus ≤ 1) := by
  simp [okR] at h; omega
theorem fits_spec (n lo hi : Int) : call E (.func (.func 95) [] []) [.lit (.int .i64 n), .lit (.int .i64 lo), .lit (.int .i64 hi)] [] = some (.lit (.bool (decide (lo ≤ n) && decide (n ≤ hi))), []) := by
  rw [call_func E E95]
  by_cases h : lo ≤ n <;> simp [go_sem, ir95, h]
theorem place_spec (node first : Int) : call E (.func (.func 96) [] []) [.lit (.int .i64 node), .lit (.int .i64 first)] [] = some (.lit (.bool (okP node first)), []) := by
  rw [call_func E E96]
  have h1 := fits_spec node 0 31
  have h2 := fits_spec first 0 1073741824
  unfold okP
  generalize (decide (0 ≤ node) && decide (node ≤ 31)) = a at *
  generalize (decide (0 ≤ first) && decide (first ≤ 1073741824)) = b at *
  cases a <;> simp [go_sem, ir96, h1, h2]
theorem wrongR_spec (r : Run) : call E (.func (.func 94) [] []) [.agg (encRun r)] [] = some (.lit (.bool (!okR r)), []) := by
  rw [call_func E E94]
  have h1 := fits_spec r.N 1 1073741824
  have h2 := fits_spec r.Bus 0 1
  unfold okR
  generalize (decide (1 ≤ r.N) && decide (r.N ≤ 1073741824)) = a at *
  generalize (decide (0 ≤ r.Bus) && decide (r.Bus ≤ 1)) = b at *
  cases a <;> simp [go_sem, ir94, encRun, h1, h2]
/-- The place of the first one that is so. -/
def findI {α : Type} (p : α → Bool) : Nat → List α → Int
  | _, [] => -1
  | i, r :: l => if p r = true then (i : Int) else findI p (i + 1) l
theorem findI_ge {α : Type} (p : α → Bool) : ∀ (l : List α) (i : Nat), (decide ((0 : Int) ≤ findI p i l)) = l.any p
  | [], i => by simp [findI]
  | r :: l, i => by
    rw [findI, List.any_cons]
    cases hp : p r with
    | true => simp
    | false => simp [findI_ge p l]
theorem idxF_loop (id : Nat) (p : Run → Bool) (l : List Run) (hl : l.length ≤ 1099511627775) (hp : ∀ r : Run, call E (.func (.func id) [] []) [.agg (encRun r)] [] = some (.lit (.bool (p r)), [])) (nl fu : Bool) :
    ∀ (d i : Nat), i + d = l.length →
   finK 0 [.tmp 4] (run E 0 (.code L135_0 :: .inLoop [0, 1, 7, 8] L135_0 :: .inBlock 0 :: [.code (.seq (.reg [⟨none, some 4, .copy (.c (.lit (.int .i64 (-1))))⟩] [] []) .ret)])
     [(0, .imm nl fu true (l.map encRun)), (1, .func (.func id) [] []), (7, .lit (.int .i64 l.length)), (8, .lit (.int .i64 i))] []) = some (.lit (.int .i64 (findI p i (l.drop i))), []) := by
  intro d
  induction d with
  | zero =>
    intro i hi
    have : i = l.length := by omega
    subst this
    simp [go_sem, run_codeL E L135_0.eq_1, findI]
  | succ d ih =>
    intro i hi
    have hlt : i < l.length := by omega
    have w2 := wrapIdx (i := i) (by omega)
    have hs := hp l[i]
    simp only [encRun] at hs
    rw [List.drop_eq_getElem_cons hlt, findI]
    cases hrt : p l[i] with
    | true => simp [go_sem, run_codeL E L135_0.eq_1, hlt, List.getElem?_eq_getElem hlt, encRun, hs, hrt]
    | false =>
      simp [go_sem, run_codeL E L135_0.eq_1, hlt, List.getElem?_eq_getElem hlt, encRun, hs, hrt, w2]
      rw [run_inLoop']
      simp [go_sem, purse_eq]
      exact ih (i + 1) (by omega)
theorem idxF_spec (id : Nat) (p : Run → Bool) (l : List Run) (hl : l.length ≤ 1099511627775) (hp : ∀ r : Run, call E (.func (.func id) [] []) [.agg (encRun r)] [] = some (.lit (.bool (p r)), [])) (nl fu : Bool) :
    call E (.func (.func 135) [] []) [.imm nl fu true (l.map encRun), .func (.func id) [] []] [] = some (.lit (.int .i64 (findI p 0 l)), []) := by
  rw [call_func E E135]
  simp [go_sem, ir135]
  rw [run_inLoop']
  simp [go_sem, purse_eq]
  have := idxF_loop id p l hl hp nl fu l.length 0 (by omega)
  simpa using this
theorem contF_spec (id : Nat) (p : Run → Bool) (l : List Run) (hl : l.length ≤ 1099511627775) (hp : ∀ r : Run, call E (.func (.func id) [] []) [.agg (encRun r)] [] = some (.lit (.bool (p r)), [])) (nl fu : Bool) :
    call E (.func (.func 97) [] []) [.imm nl fu true (l.map encRun), .func (.func id) [] []] [] = some (.lit (.bool (l.any p)), []) := by
  rw [call_func E E97]
  have := idxF_spec id p l hl hp nl fu
  have h2 := findI_ge p l 0
  simp [go_sem, ir97, this, h2]
theorem scheck_loop (l : List Run) (hl : l.length ≤ 1048576) (hN : ∀ r ∈ l, 1 ≤ r.N ∧ r.N ≤ 1073741824) (nl fu : Bool) (k : List Item) (R : Int → Option (AVal × Heap))
    (hk : ∀ τ, finK 0 [.tmp 2] (run E 0 k τ []) = R 0) (hn : R 12 = some (.lit (.int .i64 12), [])) :
    ∀ (d i : Nat) (left : Int), i + d = l.length → 0 ≤ left → left ≤ 1073741824 →
   finK 0 [.tmp 2] (run E 0 (.code L35_0 :: .inLoop [4, 20, 21, 22] L35_0 :: .inBlock 0 :: k) [(4, .lit (.int .i64 left)), (20, .imm nl fu true (l.map encRun)), (21, .lit (.int .i64 l.length)), (22, .lit (.int .i64 i))] []) = R (if left < sumN (l.drop i) then 12 else 0) := by
  intro d
  induction d with
  | zero =>
    intro i left hi h0 h1
    have : i = l.length := by omega
    subst this
    simp [go_sem, run_codeL E L35_0.eq_1, sumN, Int.not_lt.2 h0]
    exact hk _
  | succ d ih =>
    intro i left hi h0 h1
    have hlt : i < l.length := by omega
    have w2 := wrapIdx (i := i) (by omega)
    have hn' := hN _ (List.getElem_mem hlt)
    rw [List.drop_eq_getElem_cons hlt, sumN]
    have hs : 0 ≤ sumN (l.drop (i + 1)) := by
      have : ∀ m : List Run, (∀ r ∈ m, 1 ≤ r.N ∧ r.N ≤ 1073741824) → 0 ≤ sumN m := by
        intro m; induction m with
        | nil => intro _; simp [sumN]
        | cons x xs ih => intro h; have := h x (by simp); have := ih fun r hr => h r (by simp [hr]); simp only [sumN]; omega
      exact this _ fun r hr => hN r (List.mem_of_mem_drop hr)
    by_cases hq : left < l[i].N
    · rw [if_pos (by omega), hn]
      simp [go_sem, run_codeL E L35_0.eq_1, hlt, List.getElem?_eq_getElem hlt, encRun, hq]
    · have w1 : IntKind.wrap .i64 (left - l[i].N) = left - l[i].N := wrap64 (by omega) (by omega)
      simp [go_sem, run_codeL E L35_0.eq_1, hlt, List.getElem?_eq_getElem hlt, encRun, hq, w1, w2]
      rw [run_inLoop']
      simp [go_sem, purse_eq]
      have := ih (i + 1) (left - l[i].N) (by omega) (by omega) (by omega)
      simp only [Int.natCast_add, Int.natCast_one] at this
      rw [this]
      congr 1
      split <;> split <;> first | rfl | omega
theorem any_not {α : Type} (p : α → Bool) (l : List α) : (l.any fun x => !p x) = !(l.all p) := by
  induction l with
  | nil => rfl
  | cons x r ih => simp [List.any_cons, List.all_cons, ih, Bool.not_and]
theorem scheck_spec (node first : Int) (l : List Run) (hl : l.length ≤ 1048576) (nl fu : Bool) :
    call E (.func (.func 35) [] []) [.agg (encScr node first l nl fu)] [] = some (.lit (.int .i64 (chkS node first l)), []) := by
  rw [call_func E E35]
  have hP := place_spec node first
  have hC := contF_spec 94 (fun r => !okR r) l (by omega) wrongR_spec nl fu
  rw [any_not] at hC
  unfold chkS
  cases ho : okP node first with
  | false => simp [go_sem, ir35, encScr, hP, ho]
  | true =>
    cases ha : l.all okR with
    | false =>
      rw [ha] at hC
      simp [go_sem, ir35, encScr, hP, ho, hC]
    | true =>
      rw [ha] at hC
      have hN : ∀ r ∈ l, 1 ≤ r.N ∧ r.N ≤ 1073741824 := fun r hr => (okR_N (List.all_eq_true.1 ha r hr)).1
      simp [go_sem, ir35, encScr, hP, ho, hC]
      rw [run_inLoop']
      simp [go_sem, purse_eq]
      have := scheck_loop l hl hN nl fu [.code (.seq (.reg [⟨none, some 2, .copy (.c (.lit (.int .i64 0)))⟩] [] []) .ret)] (fun n => some (.lit (.int .i64 n), [])) ?_ rfl l.length 0 1073741824 (by omega) (by omega) (by omega)
      · simpa using this
      · intro τ; simp [go_sem]
end Go.AM.R1
open Go Go.AM Go.Proofs
namespace Go.AM.R1
section
variable {H : Type} {P : Program}
structure IsScr (P : Program) (t : TypeId) where
  f1 : Field
  f2 : Field
  f3 : Field
  e : TypeId
  hu : P.underlying t = some (.struct #[f1, f2, f3])
  h1 : P.underlying f1.type = some (.int .i64)
  h2 : P.underlying f2.type = some (.int .i64)
  h3 : P.underlying f3.type = some (.slice e)
  i : IsRun P e
structure Scr where
  node : Int
  first : Int
  runs : List Run
  nl : Bool
  fu : Bool
def encS (s : Scr) : List AVal := encScr s.node s.first s.runs s.nl s.fu
def Scr.Fit (s : Scr) : Prop := (-9223372036854775808 ≤ s.node ∧ s.node ≤ 9223372036854775807) ∧ (-9223372036854775808 ≤ s.first ∧ s.first ≤ 9223372036854775807) ∧ ∀ r ∈ s.runs, r.Fit
theorem dec_scr {n : Nat} {t : TypeId} (i : IsScr P t) {d : DataW H} {cs : List AVal} (h : Dec P (n + 4) t d cs) : ∃ s : Scr, cs = encS s ∧ s.Fit := by
  rw [Dec, i.hu] at h
  obtain ⟨parts, ass, -, rfl, hf⟩ := h
  obtain ⟨p1, ps1, a1, as1, rfl, rfl, r1, hf⟩ := fieldsR_cons hf
  obtain ⟨p2, ps2, a2, as2, rfl, rfl, r2, hf⟩ := fieldsR_cons hf
  obtain ⟨p3, ps3, a3, as3, rfl, rfl, r3, hf⟩ := fieldsR_cons hf
  obtain ⟨rfl, rfl⟩ := fieldsR_nil hf
  simp only [Dec, i.h1, i.h2] at r1 r2
  obtain ⟨v1, -, w1, rfl⟩ := r1
  obtain ⟨v2, -, w2, rfl⟩ := r2
  obtain ⟨nl, fu, l, rfl, hl⟩ := dec_runs' i.h3 i.i r3
  exact ⟨⟨v1, v2, l, nl, fu⟩, rfl, wf64 w1, wf64 w2, hl⟩
theorem decV_scr {n : Nat} {t : TypeId} (i : IsScr P t) {d : DataW H} {a : AVal} (h : DecV P (n + 4) t d a) : ∃ s : Scr, a = .agg (encS s) ∧ s.Fit := by
  unfold DecV at h
  rw [if_pos (by simp [isAggT, i.hu])] at h
  obtain ⟨cs, rfl, h⟩ := h
  obtain ⟨s, rfl, hs⟩ := dec_scr i h
  exact ⟨s, rfl, hs⟩
/-- Rows of scripts. -/
theorem decV_scrs {n : Nat} {t e : TypeId} (hu : P.underlying t = some (.slice e)) (i : IsScr P e) {d : DataW H} {a : AVal} (h : DecV P (n + 5) t d a) :
    ∃ (nl fu : Bool) (l : List Scr), a = .imm nl fu true (l.map encS) ∧ ∀ r ∈ l, r.Fit := by
  unfold DecV at h
  rw [if_neg (by simp [isAggT, hu])] at h
  rw [Dec, hu] at h
  rcases h with ⟨-, h⟩ | ⟨elems, spare, rows, -, h, h2⟩
  · exact ⟨true, true, [], by simpa [nilS] using h, by simp⟩
  · obtain ⟨l, rfl, hl⟩ := rows_map encS Scr.Fit (all2_forall (Q := fun b => ∃ r : Scr, b = encS r ∧ r.Fit) (fun a b hab => dec_scr i hab) h2)
    exact ⟨false, false, l, by simpa using h, hl⟩
end
end Go.AM.R1
open Go Go.AM
namespace Go.AM.R1

theorem okN_of_chk {node first : Int} {l : List Run} (h : chkS node first l = 0) : (0 ≤ node ∧ node ≤ 31) ∧ (0 ≤ first ∧ first ≤ 1073741824) ∧ (∀ r ∈ l, (1 ≤ r.N ∧ r.N ≤ 1073741824) ∧ (0 ≤ r.Bus ∧ r.Bus ≤ 1)) ∧ sumN l ≤ 1073741824 := by
  unfold chkS at h
  split at h
  · rename_i h1
    have hp := h1.1
    simp [okP] at hp
    refine ⟨by omega, by omega, fun r hr => okR_N (List.all_eq_true.1 h1.2 r hr), ?_⟩
    split at h
    · omega
    · omega
  · omega
theorem sumN_pos : ∀ {l : List Run}, (∀ r ∈ l, 1 ≤ r.N) → 0 ≤ sumN l
  | [], _ => by simp [sumN]
  | r :: l, h => by
    have := h r (by simp); have := sumN_pos (l := l) fun x hx => h x (by simp [hx])
    simp only [sumN]; omega
/-- The level of runs at a tick; 1 beyond. -/
def busAt : Int → List Run → Int
  | _, [] => 1
  | t, r :: l => if t < r.N then r.Bus else busAt (t - r.N) l
def atS (node first : Int) (l : List Run) (tick : Int) : Int := if chkS node first l ≠ 0 ∨ tick < first then 1 else busAt (tick - first) l
def endsS (node first : Int) (l : List Run) : Int := if chkS node first l ≠ 0 then 0 else first + sumN l
theorem sat_loop (l : List Run) (hl : l.length ≤ 1048576) (hN : ∀ r ∈ l, 1 ≤ r.N ∧ r.N ≤ 1073741824) (nl fu : Bool) :
    ∀ (d i : Nat) (t : Int), i + d = l.length → 0 ≤ t → t ≤ 9223372036854775807 →
   finK 0 [.tmp 4] (run E 0 (.code L37_0 :: .inLoop [1, 21, 22, 23] L37_0 :: .inBlock 0 :: [.code (.seq (.reg [⟨none, some 4, .copy (.c (.lit (.int .i64 1)))⟩] [] []) .ret)]) [(1, .lit (.int .i64 t)), (21, .imm nl fu true (l.map encRun)), (22, .lit (.int .i64 l.length)), (23, .lit (.int .i64 i))] []) = some (.lit (.int .i64 (busAt t (l.drop i))), []) := by
  intro d
  induction d with
  | zero =>
    intro i t hi h0 h1
    have : i = l.length := by omega
    subst this
    simp [go_sem, run_codeL E L37_0.eq_1, busAt]
  | succ d ih =>
    intro i t hi h0 h1
    have hlt : i < l.length := by omega
    have w2 := wrapIdx (i := i) (by omega)
    have hn' := hN _ (List.getElem_mem hlt)
    rw [List.drop_eq_getElem_cons hlt, busAt]
    by_cases hq : t < l[i].N
    · simp [go_sem, run_codeL E L37_0.eq_1, hlt, List.getElem?_eq_getElem hlt, encRun, hq]
    · have w1 : IntKind.wrap .i64 (t - l[i].N) = t - l[i].N := wrap64 (by omega) (by omega)
      simp [go_sem, run_codeL E L37_0.eq_1, hlt, List.getElem?_eq_getElem hlt, encRun, hq, w1, w2]
      rw [run_inLoop']
      simp [go_sem, purse_eq]
      exact ih (i + 1) (t - l[i].N) (by omega) (by omega) (by omega)
theorem sat_spec (node first : Int) (l : List Run) (hl : l.length ≤ 1048576) (nl fu : Bool) (tick : Int) (ht : -9223372036854775808 ≤ tick ∧ tick ≤ 9223372036854775807) :
    call E (.func (.func 37) [] []) [.agg (encScr node first l nl fu), .lit (.int .i64 tick)] [] = some (.lit (.int .i64 (atS node first l tick)), []) := by
  rw [call_func E E37]
  have hC := scheck_spec node first l hl nl fu
  simp only [encScr] at hC
  unfold atS
  by_cases hc : chkS node first l = 0
  · obtain ⟨h1, h2, h3, h4⟩ := okN_of_chk hc
    by_cases hq : tick < first
    · simp [go_sem, ir37, encScr, hC, hc, hq]
    · have w1 : IntKind.wrap .i64 (tick - first) = tick - first := wrap64 (by omega) (by omega)
      simp [go_sem, ir37, encScr, hC, hc, hq, w1]
      rw [run_inLoop']
      simp [go_sem, purse_eq]
      have := sat_loop l hl (fun r hr => (h3 r hr).1) nl fu l.length 0 (tick - first) (by omega) (by omega) (by omega)
      simpa using this
  · simp [go_sem, ir37, encScr, hC, hc]
theorem sends_loop (l : List Run) (hl : l.length ≤ 1048576) (hN : ∀ r ∈ l, 1 ≤ r.N ∧ r.N ≤ 1073741824) (nl fu : Bool) :
    ∀ (d i : Nat) (n : Int), i + d = l.length → 0 ≤ n → n ≤ 1073741824 * (i + 1) →
   finK 0 [.tmp 2] (run E 0 (.code L39_0 :: .inLoop [3, 12, 13, 14] L39_0 :: .inBlock 0 :: [.code (.seq (.reg [⟨none, some 23, .copy (.t 3)⟩, ⟨none, some 2, .copy (.t 23)⟩] [] []) .ret)]) [(3, .lit (.int .i64 n)), (12, .imm nl fu true (l.map encRun)), (13, .lit (.int .i64 l.length)), (14, .lit (.int .i64 i))] []) = some (.lit (.int .i64 (n + sumN (l.drop i))), []) := by
  intro d
  induction d with
  | zero =>
    intro i n hi h0 h1
    have : i = l.length := by omega
    subst this
    simp [go_sem, run_codeL E L39_0.eq_1, sumN]
  | succ d ih =>
    intro i n hi h0 h1
    have hlt : i < l.length := by omega
    have w2 := wrapIdx (i := i) (by omega)
    have hn' := hN _ (List.getElem_mem hlt)
    have w1 : IntKind.wrap .i64 (n + l[i].N) = n + l[i].N := wrap64 (by omega) (by omega)
    rw [List.drop_eq_getElem_cons hlt, sumN]
    simp [go_sem, run_codeL E L39_0.eq_1, hlt, List.getElem?_eq_getElem hlt, encRun, w1, w2]
    rw [run_inLoop']
    simp [go_sem, purse_eq]
    have := ih (i + 1) (n + l[i].N) (by omega) (by omega) (by omega)
    simp only [Int.natCast_add, Int.natCast_one] at this
    rw [this, Int.add_assoc]
theorem sends_spec (node first : Int) (l : List Run) (hl : l.length ≤ 1048576) (nl fu : Bool) :
    call E (.func (.func 39) [] []) [.agg (encScr node first l nl fu)] [] = some (.lit (.int .i64 (endsS node first l)), []) := by
  rw [call_func E E39]
  have hC := scheck_spec node first l hl nl fu
  simp only [encScr] at hC
  unfold endsS
  by_cases hc : chkS node first l = 0
  · obtain ⟨h1, h2, h3, h4⟩ := okN_of_chk hc
    simp [go_sem, ir39, encScr, hC, hc]
    rw [run_inLoop']
    simp [go_sem, purse_eq]
    have := sends_loop l hl (fun r hr => (h3 r hr).1) nl fu l.length 0 first (by omega) (by omega) (by omega)
    simpa using this
  · simp [go_sem, ir39, encScr, hC, hc]

end Go.AM.R1
open Go Go.AM
namespace Go.AM.R1
end Go.AM.R1
open Go Go.AM
namespace Go.AM.R1

/-! ### Masks -/
theorem iand_bv (x y : BitVec 32) : iand .u32 (x.toNat : Int) (y.toNat : Int) = ((x &&& y).toNat : Int) := by
  unfold iand
  show IntKind.wrap .u32 ((BitVec.ofInt 32 (x.toNat : Int) &&& BitVec.ofInt 32 (y.toNat : Int)).toNat : Int) = _
  rw [ofInt_toNat, ofInt_toNat, wrap32bv]
theorem ior_bv (x y : BitVec 32) : ior .u32 (x.toNat : Int) (y.toNat : Int) = ((x ||| y).toNat : Int) := by
  unfold ior
  show IntKind.wrap .u32 ((BitVec.ofInt 32 (x.toNat : Int) ||| BitVec.ofInt 32 (y.toNat : Int)).toNat : Int) = _
  rw [ofInt_toNat, ofInt_toNat, wrap32bv]
theorem iandNot_bv (x y : BitVec 32) : iandNot .u32 (x.toNat : Int) (y.toNat : Int) = ((x &&& ~~~y).toNat : Int) := by
  unfold iandNot
  show IntKind.wrap .u32 ((BitVec.ofInt 32 (x.toNat : Int) &&& ~~~BitVec.ofInt 32 (y.toNat : Int)).toNat : Int) = _
  rw [ofInt_toNat, ofInt_toNat, wrap32bv]
abbrev bitB (n : Nat) : BitVec 32 := BitVec.twoPow 32 n
theorem bitB_nat {n : Nat} (h : n ≤ 31) : (bitB n).toNat = 2 ^ n := by
  rw [BitVec.toNat_twoPow, Nat.mod_eq_of_lt (Nat.pow_lt_pow_right (by omega) (by omega))]
theorem shl_bit {node : Int} (h : 0 ≤ node ∧ node ≤ 31) : IntKind.wrap .u32 (2 ^ (min node.toNat 32)) = ((bitB node.toNat).toNat : Int) := by
  have hn : node.toNat ≤ 31 := by omega
  rw [← wrap32bv, bitB_nat hn, Nat.min_eq_left (by omega)]
  congr 1
theorem and_bit (m : BitVec 32) {n : Nat} (h : n ≤ 31) : (((m &&& bitB n).toNat : Int) = 0) ↔ m.getLsbD n = false := by
  rw [BitVec.and_twoPow]
  cases hm : m.getLsbD n with
  | false => simp
  | true =>
    have := bitB_nat h
    have h2 := Nat.pow_pos (n := n) (show 0 < 2 by omega)
    simp only [if_true]
    constructor
    · intro e
      have e2 : (bitB n).toNat = 0 := Int.natCast_eq_zero.1 e
      omega
    · intro e; cases e
theorem quo_bit (m : BitVec 32) {n : Nat} (h : n ≤ 31) : ((m.toNat : Int).tdiv ((bitB n).toNat : Int)).tmod 2 = 1 ↔ m.getLsbD n = true := by
  rw [bitB_nat h, Int.tdiv_eq_ediv_of_nonneg (by omega)]
  rw [show (m.toNat : Int) / ((2 ^ n : Nat) : Int) = ((m.toNat / 2 ^ n : Nat) : Int) from rfl]
  rw [Int.tmod_eq_emod_of_nonneg (Int.natCast_nonneg _)]
  unfold BitVec.getLsbD
  rw [Nat.testBit_eq_decide_div_mod_eq, decide_eq_true_iff]
  generalize m.toNat / 2 ^ n = q
  omega
theorem and_bit0 {m : BitVec 32} {n : Nat} (h : m.getLsbD n = false) : m &&& bitB n = 0#32 := by
  rw [BitVec.and_twoPow, h]; simp
theorem wrap32add (x y : BitVec 32) : IntKind.wrap .u32 ((x.toNat : Int) + (y.toNat : Int)) = ((x + y).toNat : Int) := by
  have := x.isLt; have := y.isLt
  rw [BitVec.toNat_add]
  simp [IntKind.wrap, IntKind.bits, IntKind.signed]
theorem wrap32sub (x y : BitVec 32) : IntKind.wrap .u32 ((x.toNat : Int) - (y.toNat : Int)) = ((x - y).toNat : Int) := by
  have := x.isLt; have := y.isLt
  rw [BitVec.toNat_sub]
  simp [IntKind.wrap, IntKind.bits, IntKind.signed]
  omega
theorem add_bit {m : BitVec 32} {n : Nat} (h : m.getLsbD n = false) : m + bitB n = m ||| bitB n :=
  BitVec.add_eq_or_of_and_eq_zero m (bitB n) (and_bit0 h)
theorem sub_bit {d : BitVec 32} {n : Nat} (h : d.getLsbD n = true) : d - bitB n = d &&& ~~~bitB n := by
  have h1 : (d &&& ~~~bitB n) + bitB n = d := by
    rw [BitVec.add_eq_or_of_and_eq_zero _ _ (by rw [BitVec.and_assoc]; simp)]
    ext i hi
    simp only [BitVec.getElem_or, BitVec.getElem_and, BitVec.getElem_not, BitVec.getElem_twoPow]
    by_cases hin : i = n
    · subst hin
      rw [BitVec.getLsbD_eq_getElem hi] at h
      simp [h]
    · have : ¬ n = i := fun e => hin e.symm
      simp [hin]
  have h2 : d - bitB n = (d &&& ~~~bitB n) + bitB n - bitB n := by rw [h1]
  rw [h2, BitVec.add_sub_cancel]

def badS : List Scr → Int
  | [] => 0
  | s :: l => if chkS s.node s.first s.runs ≠ 0 then chkS s.node s.first s.runs else badS l
def atSc (s : Scr) (tick : Int) : Int := atS s.node s.first s.runs tick
def maskGo (tick : Int) : BitVec 32 → BitVec 32 → List Scr → (BitVec 32 × BitVec 32) × Int
  | m, d, [] => ((m, d), 0)
  | m, d, s :: l => if m.getLsbD s.node.toNat = true then ((0#32, 0#32), 23) else maskGo tick (m ||| bitB s.node.toNat) (if atSc s tick = 0 then d &&& ~~~bitB s.node.toNat else d) l
def maskS (tick : Int) (l : List Scr) : (BitVec 32 × BitVec 32) × Int := if badS l ≠ 0 then ((0#32, 0#32), badS l) else maskGo tick 0#32 4294967295#32 l
theorem badS_zero : ∀ {l : List Scr}, badS l = 0 → ∀ s ∈ l, chkS s.node s.first s.runs = 0
  | [], _, s, hs => by cases hs
  | s :: l, h, x, hx => by
    rw [badS] at h
    split at h
    · exact absurd h (by assumption)
    · rename_i hz
      rcases List.mem_cons.1 hx with rfl | hx
      · simpa using hz
      · exact badS_zero h x hx
def encM (r : (BitVec 32 × BitVec 32) × Int) : AVal := .tup [.lit (.int .u32 (r.1.1.toNat : Int)), .lit (.int .u32 (r.1.2.toNat : Int)), .lit (.int .i64 r.2)]
end Go.AM.R1
open Go Go.AM
namespace Go.AM.R1
end Go.AM.R1
open Go Go.AM
namespace Go.AM.R1

/-! ### Levels as runs -/
def pushL (out : List Run) (x : Int) : List Run :=
  match out.getLast? with
  | none => [⟨1, x, 0⟩]
  | some r => if r.Bus = x then out.dropLast ++ [⟨r.N + 1, r.Bus, r.Drive⟩] else out ++ [⟨1, x, 0⟩]
theorem pushL_nil (x : Int) : pushL [] x = [⟨1, x, 0⟩] := rfl
theorem pushL_snoc (o : List Run) (r : Run) (x : Int) : pushL (o ++ [r]) x = if r.Bus = x then o ++ [⟨r.N + 1, r.Bus, r.Drive⟩] else o ++ [r, ⟨1, x, 0⟩] := by
  simp [pushL]
def rowsA : List Run → List Int → List Run := List.foldl pushL
theorem rows_loop (l : List Int) (hl : l.length ≤ 1048576) (nl fu : Bool) (k : List Item) (R : List Run → Option (AVal × Heap))
    (hk : ∀ (out : List Run) τ, lk 3 τ = resV 1 (out.map encRun) → finK 0 [.tmp 2] (run E 0 k τ (resH [.dead] (out.map encRun))) = R out) :
    ∀ (d i : Nat) (out : List Run), i + d = l.length → out.length ≤ i → (∀ x ∈ out, 1 ≤ x.N ∧ x.N ≤ i) →
   finK 0 [.tmp 2] (run E 0 (.code L98_0 :: .inLoop [3, 7, 8, 9] L98_0 :: .inBlock 0 :: k)
     [(3, resV 1 (out.map encRun)), (7, .imm nl fu true (l.map encI)), (8, .lit (.int .i64 l.length)), (9, .lit (.int .i64 i))]
     (resH [.dead] (out.map encRun)))
   = R (rowsA out (l.drop i)) := by
  intro d
  induction d with
  | zero =>
    intro i out hi h4 h5
    have : i = l.length := by omega
    subst this
    simp [go_sem, run_codeL E L98_0.eq_1, rowsA]
    exact hk out _ rfl
  | succ d ih =>
    intro i out hi h4 h5
    have hlt : i < l.length := by omega
    have w2 := wrapIdx (i := i) (by omega)
    rw [List.drop_eq_getElem_cons hlt, rowsA, List.foldl_cons]
    rcases snoc_cases out with rfl | ⟨o, x, rfl⟩
    · have ih2 := ih (i + 1) (pushL [] l[i]) (by omega) (by simp [pushL]) (by
        intro y hy; simp [pushL_nil] at hy; subst hy; simp; omega)
      rw [rowsA] at ih2
      generalize R _ = Q at ih2 ⊢
      rw [pushL_nil] at ih2
      simp [resV, resH, encRun, nilS] at ih2
      simp [go_sem, run_codeL E L98_0.eq_1, hlt, List.getElem?_eq_getElem hlt, encRun, encI, w2, resV, resH, purse_eq, nilS]
      rw [run_inLoop']
      simp [go_sem, purse_eq]
      simpa [encI] using ih2
    · have hx := h5 x (by simp)
      simp at h4
      have ih2 := ih (i + 1) (pushL (o ++ [x]) l[i]) (by omega) (by
        rw [pushL_snoc]; split <;> simp <;> omega) (by
        intro y hy
        rw [pushL_snoc] at hy
        split at hy
        · simp at hy
          rcases hy with hy | rfl
          · have := h5 y (by simp [hy]); omega
          · simp; omega
        · simp at hy
          rcases hy with hy | rfl | rfl
          · have := h5 y (by simp [hy]); omega
          · omega
          · simp; omega)
      rw [rowsA] at ih2
      generalize R _ = Q at ih2 ⊢
      have wl : IntKind.wrap .i64 (o.length : Int) = o.length := wrap64 (by omega) (by omega)
      have wl1 : IntKind.wrap .i64 ((o.length : Int) + 1 - 1) = o.length := by rw [show (o.length : Int) + 1 - 1 = o.length by omega]; exact wl
      have wx : IntKind.wrap .i64 (x.N + 1) = x.N + 1 := wrap64 (by omega) (by omega)
      have hg := get_snoc (o := o) (x := x)
      simp only [encRun] at hg
      have hb : ¬ ((o.length + 1 + 1) * 24 > 70368744177664) := by omega
      rw [pushL_snoc] at ih2
      by_cases ha : x.Bus = l[i]
      · rw [if_pos ha] at ih2
        simp [resV, resH, encRun] at ih2
        simp [go_sem, run_codeL E L98_0.eq_1, hlt, List.getElem?_eq_getElem hlt, encRun, encI, w2, wl, wl1, wx, resV, resH, purse_eq, hg, ha, set_snoc]
        rw [run_inLoop']
        simp [go_sem, purse_eq]
        simpa [encI, ha] using ih2
      · rw [if_neg ha] at ih2
        simp [resV, resH, encRun] at ih2
        simp [go_sem, run_codeL E L98_0.eq_1, hlt, List.getElem?_eq_getElem hlt, encRun, encI, w2, wl, wl1, wx, resV, resH, purse_eq, hg, ha, hb]
        rw [run_inLoop']
        simp [go_sem, purse_eq]
        simpa [encI] using ih2
theorem rows_spec (l : List Int) (hl : l.length ≤ 1048576) (nl fu : Bool) :
    call E (.func (.func 98) [] []) [.imm nl fu true (l.map encI)] [] = some (resV 0 ((rowsA [] l).map encRun), resH [] ((rowsA [] l).map encRun)) := by
  rw [call_func E E98]
  simp [go_sem, ir98, purse_eq]
  rw [run_inLoop']
  simp [go_sem, purse_eq]
  have h := rows_loop l hl nl fu [.code (.seq (.reg [⟨none, some 42, .copy (.t 3)⟩, ⟨none, some 2, .copy (.t 42)⟩] [] []) .ret)] (fun out => some (resV 0 (out.map encRun), resH [] (out.map encRun))) ?_ l.length 0 [] (by omega) (by simp) (by simp)
  · simpa [resV, resH, nilS] using h
  · intro out τ h
    cases out with
    | nil => simp [go_sem, h, resV, resH, nilS]
    | cons x xs => simp [go_sem, h, resV, resH, purse_eq]
theorem rrows_loop (l : List Int) (hl : l.length ≤ 1048576) (nl fu : Bool) (k : List Item) (R : List Run → Option (AVal × Heap))
    (hk : ∀ (out : List Run) τ, lk 3 τ = resV 1 (out.map encRun) → finK 0 [.tmp 2] (run E 0 k τ (resH [.dead] (out.map encRun))) = R out) :
    ∀ (d i : Nat) (out : List Run), i + d = l.length → out.length ≤ i → (∀ x ∈ out, 1 ≤ x.N ∧ x.N ≤ i) → (out = [] → i = 0) → (∀ o x, out = o ++ [x] → 0 < i ∧ l[i - 1]? = some x.Bus) →
   finK 0 [.tmp 2] (run E 0 (.code L45_0 :: .inLoop [0, 3, 4] L45_0 :: .inBlock 0 :: k)
     [(0, .imm nl fu true (l.map encI)), (3, resV 1 (out.map encRun)), (4, .lit (.int .i64 i))]
     (resH [.dead] (out.map encRun)))
   = R (rowsA out (l.drop i)) := by
  intro d
  induction d with
  | zero =>
    intro i out hi h4 h5 h6 h7
    have : i = l.length := by omega
    subst this
    simp [go_sem, run_codeL E L45_0.eq_1, rowsA]
    exact hk out _ rfl
  | succ d ih =>
    intro i out hi h4 h5 h6 h7
    have hlt : i < l.length := by omega
    have w2 := wrapIdx (i := i) (by omega)
    rw [List.drop_eq_getElem_cons hlt, rowsA, List.foldl_cons]
    rcases snoc_cases out with rfl | ⟨o, x, rfl⟩
    · have w1' : IntKind.wrap .i64 1 = 1 := rfl
      have hi0 := h6 rfl
      subst hi0
      have ih2 := ih 1 (pushL [] l[0]) (by omega) (by simp [pushL]) (by
        intro y hy; simp [pushL_nil] at hy; subst hy; simp) (by simp [pushL]) (by
        intro o x e
        rw [pushL_nil] at e
        have e2 := congrArg List.getLast? e
        simp at e2
        rw [← e2]; simp [hlt])
      rw [rowsA] at ih2
      generalize R _ = Q at ih2 ⊢
      rw [pushL_nil] at ih2
      simp [resV, resH, encRun, nilS] at ih2
      simp [go_sem, run_codeL E L45_0.eq_1, hlt, List.getElem?_eq_getElem hlt, encRun, encI, w2, w1', resV, resH, purse_eq, nilS]
      rw [run_inLoop']
      simp [go_sem, purse_eq]
      simpa [encI] using ih2
    · have hx := h5 x (by simp)
      simp at h4
      obtain ⟨hi0, hlast⟩ := h7 o x rfl
      have ih2 := ih (i + 1) (pushL (o ++ [x]) l[i]) (by omega) (by
        rw [pushL_snoc]; split <;> simp <;> omega) (by
        intro y hy
        rw [pushL_snoc] at hy
        split at hy
        · simp at hy
          rcases hy with hy | rfl
          · have := h5 y (by simp [hy]); omega
          · simp; omega
        · simp at hy
          rcases hy with hy | rfl | rfl
          · have := h5 y (by simp [hy]); omega
          · omega
          · simp; omega) (by rw [pushL_snoc]; split <;> simp) (by
        intro o' x' e
        rw [pushL_snoc] at e
        refine ⟨by omega, ?_⟩
        rw [show i + 1 - 1 = i by omega, List.getElem?_eq_getElem hlt]
        split at e
        · rename_i hh
          have e2 := congrArg List.getLast? e
          simp at e2
          rw [← e2, hh]
        · have e2 := congrArg List.getLast? e
          simp at e2
          rw [← e2])
      rw [rowsA] at ih2
      generalize R _ = Q at ih2 ⊢
      have wl : IntKind.wrap .i64 (o.length : Int) = o.length := wrap64 (by omega) (by omega)
      have wl1 : IntKind.wrap .i64 ((o.length : Int) + 1 - 1) = o.length := by rw [show (o.length : Int) + 1 - 1 = o.length by omega]; exact wl
      have wx : IntKind.wrap .i64 (x.N + 1) = x.N + 1 := wrap64 (by omega) (by omega)
      have wi : IntKind.wrap .i64 ((i : Int) - 1) = (i : Int) - 1 := wrap64 (by omega) (by omega)
      have hi1 : ((i : Int) - 1).toNat = i - 1 := by omega
      have hi2 : (0 : Int) < i := by omega
      have hg := get_snoc (o := o) (x := x)
      simp only [encRun] at hg
      have hb : ¬ ((o.length + 1 + 1) * 24 > 70368744177664) := by omega
      have hi3 : (0 : Int) ≤ (i : Int) - 1 := by omega
      have hi4 : (1 : Int) ≤ (i : Int) := by omega
      rw [pushL_snoc] at ih2
      by_cases ha : x.Bus = l[i]
      · rw [if_pos ha] at ih2
        simp [resV, resH, encRun] at ih2
        simp [go_sem, run_codeL E L45_0.eq_1, hlt, List.getElem?_eq_getElem hlt, encRun, encI, w2, wl, wl1, wx, wi, hi0, hi1, hi2, hi3, hi4, hlast, resV, resH, purse_eq, hg, ha, set_snoc]
        rw [run_inLoop']
        simp [go_sem, purse_eq]
        simpa [encI, ha] using ih2
      · rw [if_neg ha] at ih2
        have ha' : ¬ l[i] = x.Bus := fun e => ha e.symm
        simp [resV, resH, encRun] at ih2
        simp [go_sem, run_codeL E L45_0.eq_1, hlt, List.getElem?_eq_getElem hlt, encRun, encI, w2, wl, wl1, wx, wi, hi0, hi1, hi2, hi3, hi4, hlast, resV, resH, purse_eq, hg, ha, ha', hb]
        rw [run_inLoop']
        simp [go_sem, purse_eq]
        simpa [encI] using ih2
theorem rrows_spec (l : List Int) (hl : l.length ≤ 1048576) (nl fu : Bool) :
    call E (.func (.func 45) [] []) [.imm nl fu true (l.map encI)] [] = some (resV 0 ((rowsA [] l).map encRun), resH [] ((rowsA [] l).map encRun)) := by
  rw [call_func E E45]
  simp [go_sem, ir45, purse_eq]
  rw [run_inLoop']
  simp [go_sem, purse_eq]
  have h := rrows_loop l hl nl fu [.code (.seq (.reg [⟨none, some 43, .copy (.t 3)⟩, ⟨none, some 2, .copy (.t 43)⟩] [] []) .ret)] (fun out => some (resV 0 (out.map encRun), resH [] (out.map encRun))) ?_ l.length 0 [] (by omega) (by simp) (by simp) (by simp) (by simp)
  · simpa [resV, resH, nilS] using h
  · intro out τ h
    cases out with
    | nil => simp [go_sem, h, resV, resH, nilS]
    | cons x xs => simp [go_sem, h, resV, resH, purse_eq]
end Go.AM.R1
open Go Go.AM
namespace Go.AM.R1
/-! ### The script of a node in runs -/
def nodeE (l : List Run) (node : Int) : Int := if chk l ≠ 0 then chk l else if node < 0 ∨ 32 ≤ node then 10 else if 1048576 < sumN l then 12 else 0
def nodeLs (l : List Run) (node : Int) : List Int := (expand l).map (nodeLv node)
theorem nodeV_eq (l : List Run) (node : Int) : nodeV l node = if nodeE l node ≠ 0 then .tup [nilS, .lit (.int .i64 (nodeE l node))] else .tup [.own 0 (nodeLs l node).length 1 0 (nodeLs l node).length, .lit (.int .i64 0)] := by
  unfold nodeV nodeE nodeLs levelsV
  by_cases h : chk l = 0
  · by_cases h1 : node < 0 ∨ 32 ≤ node
    · simp [h, h1]
    · by_cases h2 : 1048576 < sumN l <;> simp [h, h1, h2]
  · simp [h]
theorem nodeHp_eq (l : List Run) (node : Int) : nodeHp l node = if nodeE l node ≠ 0 then [] else [.arr true false false 1 ((nodeLs l node).map encI)] := by
  unfold nodeHp nodeE nodeLs levelsH
  by_cases h : chk l = 0
  · by_cases h1 : node < 0 ∨ 32 ≤ node
    · simp [h, h1]
    · by_cases h2 : 1048576 < sumN l
      · simp [h, h1, h2]
      · simp [h, h1, h2]
  · simp [h]
theorem nodeLs_len {l : List Run} {node : Int} (h : nodeE l node = 0) : (nodeLs l node).length ≤ 1048576 := by
  unfold nodeE at h
  split at h
  · rename_i h1; exact absurd h h1
  · rename_i h1
    split at h
    · omega
    · split at h
      · omega
      · rename_i h3
        obtain ⟨hN, h0, h1'⟩ := chk_right (l := l) (by simpa using h1)
        unfold nodeLs
        rw [List.length_map]
        have := expand_length l (fun r hr => by have := hN r hr; omega)
        omega
def dofE (l : List Run) (node first : Int) : Int := if nodeE l node ≠ 0 then nodeE l node else if first < 0 ∨ (nodeLs l node).length < first then 10 else 0
def dofR (l : List Run) (node first : Int) : List Run := rowsA [] ((nodeLs l node).drop first.toNat)
theorem dof_bad (l : List Run) (hdr : ∀ r ∈ l, 0 ≤ r.Drive ∧ r.Drive ≤ 4294967295) (hl : l.length ≤ 1048576) (hl2 : ∀ r ∈ l, r.Ok) (nl fu : Bool) (node first : Int) (h : dofE l node first ≠ 0) :
    call E (.func (.func 42) [] []) [.imm nl fu true (l.map encRun), .lit (.int .i64 node), .lit (.int .i64 first)] [] = some (.tup [.agg (encScr 0 0 [] true true), .lit (.int .i64 (dofE l node first))], []) := by
  rw [call_func E E42]
  have hN := node_spec node l hdr hl hl2 nl fu
  rw [nodeV_eq, nodeHp_eq] at hN
  unfold dofE at h ⊢
  by_cases h1 : nodeE l node = 0
  · simp only [h1, ne_eq, not_true_eq_false, if_false, if_true] at h hN ⊢
    have hlen := nodeLs_len h1
    have hF := fits_spec first 0 ((nodeLs l node).length : Int)
    by_cases h2 : first < 0 ∨ (nodeLs l node).length < first
    · have hb : (decide (0 ≤ first) && decide (first ≤ ((nodeLs l node).length : Int))) = false := by
        simp; omega
      rw [hb] at hF
      rw [if_pos h2] at h ⊢
      generalize nodeLs l node = L at *
      simp [go_sem, ir42, hN, hF, nilS, encScr, purse_eq]
    · rw [if_neg h2] at h; exact absurd rfl h
  · simp only [h1, ne_eq, not_false_eq_true, if_true] at h hN ⊢
    simp [nilS] at hN
    simp [go_sem, ir42, hN, nilS, encScr, h1]
theorem dof_spec (l : List Run) (hdr : ∀ r ∈ l, 0 ≤ r.Drive ∧ r.Drive ≤ 4294967295) (hl : l.length ≤ 1048576) (hl2 : ∀ r ∈ l, r.Ok) (nl fu : Bool) (node first : Int) (h : dofE l node first = 0) :
    call E (.func (.func 42) [] []) [.imm nl fu true (l.map encRun), .lit (.int .i64 node), .lit (.int .i64 first)] [] = some (.tup [.agg [.lit (.int .i64 node), .lit (.int .i64 first), resV 0 ((dofR l node first).map encRun)], .lit (.int .i64 0)], resH [] ((dofR l node first).map encRun)) := by
  rw [call_func E E42]
  have hN := node_spec node l hdr hl hl2 nl fu
  rw [nodeV_eq, nodeHp_eq] at hN
  unfold dofE at h
  by_cases h1 : nodeE l node = 0
  · simp only [h1, ne_eq, not_true_eq_false, if_false, if_true] at h hN ⊢
    have hlen := nodeLs_len h1
    have hF := fits_spec first 0 ((nodeLs l node).length : Int)
    by_cases h2 : first < 0 ∨ (nodeLs l node).length < first
    · rw [if_pos h2] at h; cases h
    · have hb : (decide (0 ≤ first) && decide (first ≤ ((nodeLs l node).length : Int))) = true := by
        simp; omega
      rw [hb] at hF
      have hR := rows_spec ((nodeLs l node).drop first.toNat) (by simp; omega) false false
      have hR2 := rows_spec ((nodeLs l node).drop first.toNat) (by simp; omega) false true
      unfold dofR
      have hce : cutE ((nodeLs l node).map encI) first.toNat ((nodeLs l node).length - first.toNat) = ((nodeLs l node).drop first.toNat).map encI := by
        unfold cutE
        rw [List.take_of_length_le (by simp; omega), List.map_drop]
      have hi0 : 0 ≤ first := by omega
      have hi1 : first.toNat ≤ (nodeLs l node).length := by omega
      generalize nodeLs l node = L at *
      generalize rowsA [] (L.drop first.toNat) = Q at *
      generalize hfj : first.toNat = j at *
      cases Q with
      | nil =>
        simp [resV, resH, nilS] at hR hR2
        simp [go_sem, ir42, hN, hF, nilS, encScr, purse_eq, hi0, hi1, hfj, hce, hR, hR2, resV, resH]
      | cons x xs =>
        simp [resV, resH] at hR hR2
        simp [go_sem, ir42, hN, hF, nilS, encScr, purse_eq, hi0, hi1, hfj, hce, hR, hR2, resV, resH]
  · simp only [h1, ne_eq, not_false_eq_true, if_true] at h
end Go.AM.R1
open Go Go.AM
namespace Go.AM.R1
theorem runs_loop (l m : List Run) (hlm : l.length = m.length) (hl : l.length ≤ 1099511627775) (nl fu nl' fu' : Bool) :
    ∀ (d i : Nat), i + d = l.length →
   finK 0 [.tmp 4] (run E 0 (.code L102_0 :: .inLoop [0, 1, 5] L102_0 :: .inBlock 0 :: [.code (.seq (.reg [⟨none, some 4, .copy (.c (.lit (.bool true)))⟩] [] []) .ret)]) [(0, .imm nl fu true (l.map encRun)), (1, .imm nl' fu' true (m.map encRun)), (5, .lit (.int .i64 i))] [])
   = some (.lit (.bool (decide (l.drop i = m.drop i))), []) := by
  intro d
  induction d with
  | zero =>
    intro i hi
    rw [List.drop_eq_nil_of_le (by omega), List.drop_eq_nil_of_le (by omega)]
    have : ¬ i < l.length := by omega
    simp [go_sem, run_codeL E L102_0.eq_1, this]
  | succ d ih =>
    intro i hi
    have hlt : i < l.length := by omega
    have hlt' : i < m.length := by omega
    have w2 := wrapIdx (i := i) (by omega)
    rw [List.drop_eq_getElem_cons hlt, List.drop_eq_getElem_cons hlt']
    by_cases h : l[i] = m[i]
    · rw [decide_eq_decide.2 (show (l[i] :: l.drop (i + 1) = m[i] :: m.drop (i + 1)) ↔ l.drop (i + 1) = m.drop (i + 1) from ⟨fun e => (List.cons.inj e).2, fun e => by rw [h, e]⟩)]
      simp [go_sem, run_codeL E L102_0.eq_1, hlt, List.getElem?_eq_getElem hlt, List.getElem?_eq_getElem hlt', encRun, h, w2]
      rw [run_inLoop']
      simp [go_sem, purse_eq]
      have := ih (i + 1) (by omega)
      simpa [encRun] using this
    · rw [decide_eq_false (show ¬ (l[i] :: l.drop (i + 1) = m[i] :: m.drop (i + 1)) from fun e => h (List.cons.inj e).1)]
      have h' : ¬ (l[i].N = m[i].N ∧ l[i].Bus = m[i].Bus ∧ l[i].Drive = m[i].Drive) := fun e => h (by
        cases hx : l[i]; cases hy : m[i]; rw [hx, hy] at e; simp at e; simp [e])
      by_cases h1 : l[i].N = m[i].N
      · by_cases h2 : l[i].Bus = m[i].Bus
        · have h3 : ¬ l[i].Drive = m[i].Drive := fun e => h' ⟨h1, h2, e⟩
          simp [go_sem, run_codeL E L102_0.eq_1, hlt, List.getElem?_eq_getElem hlt, List.getElem?_eq_getElem hlt', encRun, h1, h2, h3, w2]
        · simp [go_sem, run_codeL E L102_0.eq_1, hlt, List.getElem?_eq_getElem hlt, List.getElem?_eq_getElem hlt', encRun, h1, h2, w2]
      · simp [go_sem, run_codeL E L102_0.eq_1, hlt, List.getElem?_eq_getElem hlt, List.getElem?_eq_getElem hlt', encRun, h1, w2]
theorem runsEq_spec (l m : List Run) (hl : l.length ≤ 1099511627775) (nl fu nl' fu' : Bool) :
    call E (.func (.func 102) [] []) [.imm nl fu true (l.map encRun), .imm nl' fu' true (m.map encRun)] [] = some (.lit (.bool (decide (l = m))), []) := by
  rw [call_func E E102]
  by_cases hlm : l.length = m.length
  · simp [go_sem, ir102, hlm]
    rw [run_inLoop']
    simp [go_sem, purse_eq]
    have := runs_loop l m hlm hl nl fu nl' fu' l.length 0 (by omega)
    simpa using this
  · have : ¬ (l.length : Int) = m.length := by omega
    have h2 : ¬ l = m := fun h => hlm (by rw [h])
    simp [go_sem, ir102, hlm, this, h2]
theorem same22_spec (n1 f1 : Int) (l : List Run) (nl fu : Bool) (n2 f2 : Int) (m : List Run) (nl' fu' : Bool) (hl : l.length ≤ 1099511627775) :
    call E (.func (.func 44) [] []) [.agg (encScr n1 f1 l nl fu), .agg (encScr n2 f2 m nl' fu')] [] = some (.lit (.bool (decide (n1 = n2 ∧ f1 = f2 ∧ l = m))), []) := by
  rw [call_func E E44]
  have hR := runsEq_spec l m hl nl fu nl' fu'
  by_cases h1 : n1 = n2
  · by_cases h2 : f1 = f2
    · simp [go_sem, ir44, encScr, h1, h2, hR]
    · simp [go_sem, ir44, encScr, h1, h2]
  · simp [go_sem, ir44, encScr, h1]
theorem small_loop (l : List Run) (nl fu : Bool) :
    ∀ (d i : Nat) (n : Int), i + d = 61 → 0 ≤ n → n ≤ 2000 * i → i ≤ l.length →
   ∃ b, finK 0 [.tmp 2] (run E 0 (.code L41_0 :: .inLoop [0, 3, 4] L41_0 :: .inBlock 0 :: [.code (.seq (.reg [⟨none, some 50, .copy (.t 0)⟩, ⟨none, some 51, .len (.t 50)⟩, ⟨none, some 52, .bin .leq (.t 51) (.c (.lit (.int .i64 60)))⟩, ⟨none, some 53, .copy (.t 52)⟩, ⟨some (53, true), some 54, .copy (.t 3)⟩, ⟨some (53, true), some 55, .bin .leq (.t 54) (.c (.lit (.int .i64 2000)))⟩, ⟨none, some 56, .pick (.t 53) (.t 55) (.c (.lit (.bool false)))⟩, ⟨none, some 2, .copy (.t 56)⟩] [] []) .ret)]) [(0, .imm nl fu true (l.map encRun)), (3, .lit (.int .i64 n)), (4, .lit (.int .i64 i))] [])
   = some (.lit (.bool b), []) ∧ (b = true → l.length ≤ 60) := by
  intro d
  induction d with
  | zero =>
    intro i n hi h0 h1 h2
    have : i = 61 := by omega
    subst this
    have h60 : ¬ (l.length : Int) ≤ 60 := by omega
    refine ⟨false, ?_, by simp⟩
    by_cases h3 : (61 : Int) < l.length
    · simp [go_sem, run_codeL E L41_0.eq_1, h3, h60]
    · simp [go_sem, run_codeL E L41_0.eq_1, h3, h60]
  | succ d ih =>
    intro i n hi h0 h1 h2
    by_cases hlt : i < l.length
    · have w2 := wrapIdx (i := i) (by omega)
      have h61 : (i : Int) < 61 := by omega
      by_cases c1 : 2000 < l[i].N
      · by_cases c2 : l[i].N ≤ 1073741824
        · refine ⟨false, ?_, by simp⟩
          simp [go_sem, run_codeL E L41_0.eq_1, hlt, List.getElem?_eq_getElem hlt, encRun, h61, c1, c2]
        · have c3 : 0 < l[i].N := by omega
          have c4 : ¬ l[i].N ≤ 2000 := by omega
          obtain ⟨b, hb, hb2⟩ := ih (i + 1) n (by omega) h0 (by omega) (by omega)
          refine ⟨b, ?_, hb2⟩
          simp [go_sem, run_codeL E L41_0.eq_1, hlt, List.getElem?_eq_getElem hlt, encRun, h61, c1, c2, c3, c4, w2]
          rw [run_inLoop']
          simp [go_sem, purse_eq]
          simpa [encRun] using hb
      · by_cases c3 : 0 < l[i].N
        · have c4 : l[i].N ≤ 2000 := by omega
          have w1 : IntKind.wrap .i64 (n + l[i].N) = n + l[i].N := wrap64 (by omega) (by omega)
          obtain ⟨b, hb, hb2⟩ := ih (i + 1) (n + l[i].N) (by omega) (by omega) (by omega) (by omega)
          refine ⟨b, ?_, hb2⟩
          simp [go_sem, run_codeL E L41_0.eq_1, hlt, List.getElem?_eq_getElem hlt, encRun, h61, c1, c3, c4, w1, w2]
          rw [run_inLoop']
          simp [go_sem, purse_eq]
          simpa [encRun] using hb
        · obtain ⟨b, hb, hb2⟩ := ih (i + 1) n (by omega) h0 (by omega) (by omega)
          refine ⟨b, ?_, hb2⟩
          simp [go_sem, run_codeL E L41_0.eq_1, hlt, List.getElem?_eq_getElem hlt, encRun, h61, c1, c3, w2]
          rw [run_inLoop']
          simp [go_sem, purse_eq]
          simpa [encRun] using hb
    · have h60 : (l.length : Int) ≤ 60 := by omega
      have hlt' : ¬ (i : Int) < l.length := by omega
      refine ⟨decide (n ≤ 2000), ?_, fun _ => by omega⟩
      simp [go_sem, run_codeL E L41_0.eq_1, hlt, hlt', h60]
theorem small_spec (l : List Run) (nl fu : Bool) : ∃ b, call E (.func (.func 41) [] []) [.imm nl fu true (l.map encRun)] [] = some (.lit (.bool b), []) ∧ (b = true → l.length ≤ 60) := by
  obtain ⟨b, hb, hb2⟩ := small_loop l nl fu 61 0 0 (by omega) (by omega) (by omega) (by omega)
  refine ⟨b, ?_, hb2⟩
  rw [call_func E E41]
  simp [go_sem, ir41]
  rw [run_inLoop']
  simp [go_sem, purse_eq]
  simpa using hb
end Go.AM.R1
open Go Go.AM Go.Proofs
namespace Go.AM.R1
theorem awake22 : call E (.func (.func 33) [] []) [] [] = some (.lit (.bool true), []) :=
  (call_iff E).2 ⟨3000, by kernel_rfl⟩
end Go.AM.R1
open Go Go.AM Go.Proofs
namespace Go.AM.R1
theorem rowsA_length : ∀ (l : List Int) (out : List Run), (rowsA out l).length ≤ out.length + l.length
  | [], out => by simp [rowsA]
  | x :: l, out => by
    have ih := rowsA_length l (pushL out x)
    have h : (pushL out x).length ≤ out.length + 1 := by
      rcases snoc_cases out with rfl | ⟨o, r, rfl⟩
      · simp [pushL]
      · rw [pushL_snoc]; split <;> simp
    rw [rowsA] at ih ⊢
    rw [List.foldl_cons, List.length_cons]
    omega
theorem driveOf_spec (l : List Run) (hr : ∀ r ∈ l, ((-9223372036854775808 ≤ r.N ∧ r.N ≤ 9223372036854775807) ∧ (0 ≤ r.Drive ∧ r.Drive ≤ 4294967295))) (nl fu : Bool) (node first : Int) (hn : -9223372036854775808 ≤ node ∧ node ≤ 9223372036854775807) (hf : -9223372036854775808 ≤ first ∧ first ≤ 9223372036854775807) :
    call E (.func (.func 7) [] []) [.imm nl fu true (l.map encRun), .lit (.int .i64 node), .lit (.int .i64 first)] [] = some (.lit (.bool true), []) := by
  rw [call_func E E7]
  obtain ⟨b, hS, hb⟩ := small_spec l nl fu
  cases b with
  | false => simp [go_sem, ir7, hS, awake22]
  | true =>
    have hl := hb rfl
    have hok : ∀ r ∈ l, r.Ok := fun r h => ⟨(hr r h).1.1, (hr r h).1.2⟩
    have hdr : ∀ r ∈ l, 0 ≤ r.Drive ∧ r.Drive ≤ 4294967295 := fun r h => (hr r h).2
    have hN := node_spec node l hdr (by omega) hok nl fu
    rw [nodeV_eq, nodeHp_eq] at hN
    have s0 := same22_spec 0 0 [] true true 0 0 [] true true (by simp)
    by_cases h1 : nodeE l node = 0
    · simp only [h1, ne_eq, not_true_eq_false, if_false, if_true] at hN
      have hlen := nodeLs_len h1
      by_cases h2 : first < 0 ∨ (nodeLs l node).length < first
      · have hO := dof_bad l hdr (by omega) hok nl fu node first (by unfold dofE; rw [if_neg (by simp [h1]), if_pos h2]; omega)
        rw [show dofE l node first = 10 by unfold dofE; rw [if_neg (by simp [h1]), if_pos h2]] at hO
        generalize nodeLs l node = L at *
        simp [encScr, nilS] at hO s0
        rcases h2 with h2 | h2
        · simp [go_sem, ir7, hS, hN, hO, nilS, purse_eq, h2, s0, awake22]
        · by_cases h3 : first < 0
          · simp [go_sem, ir7, hS, hN, hO, nilS, purse_eq, h3, s0, awake22]
          · simp [go_sem, ir7, hS, hN, hO, nilS, purse_eq, h2, h3, s0, awake22]
      · have hO := dof_spec l hdr (by omega) hok nl fu node first (by unfold dofE; rw [if_neg (by simp [h1]), if_neg h2])
        have hR := rrows_spec ((nodeLs l node).drop first.toNat) (by simp; omega) false false
        have hR2 := rrows_spec ((nodeLs l node).drop first.toNat) (by simp; omega) false true
        have hce : cutE ((nodeLs l node).map encI) first.toNat ((nodeLs l node).length - first.toNat) = ((nodeLs l node).drop first.toNat).map encI := by
          unfold cutE
          rw [List.take_of_length_le (by simp; omega), List.map_drop]
        have hi0 : 0 ≤ first := by omega
        have hi0' : ¬ first < 0 := by omega
        have hi1 : first.toNat ≤ (nodeLs l node).length := by omega
        have hi2 : ¬ ((nodeLs l node).length : Int) < first := by omega
        unfold dofR at hO
        generalize nodeLs l node = L at *
        generalize hQ : rowsA [] (L.drop first.toNat) = Q at *
        have hQl : Q.length ≤ 1048576 := by rw [← hQ]; have := rowsA_length (L.drop first.toNat) []; simp at this; omega
        generalize hfj : first.toNat = j at *
        have s1 := fun a b c d => same22_spec node first Q a b node first Q c d (by omega)
        cases Q with
        | nil =>
          simp [resV, resH, nilS, encScr] at hR hR2 hO s1
          simp [go_sem, ir7, hS, hN, hO, nilS, purse_eq, hi0, hi0', hi1, hi2, hfj, hce, hR, hR2, s1, awake22]
        | cons x xs =>
          simp [resV, resH, encScr] at hR hR2 hO s1
          simp [go_sem, ir7, hS, hN, hO, nilS, purse_eq, hi0, hi0', hi1, hi2, hfj, hce, hR, hR2, s1, awake22]
    · have hO := dof_bad l hdr (by omega) hok nl fu node first (by unfold dofE; rw [if_pos h1]; exact h1)
      rw [show dofE l node first = nodeE l node by unfold dofE; rw [if_pos h1]] at hO
      simp only [h1, ne_eq, not_false_eq_true, if_true] at hN
      simp [encScr, nilS] at hO hN s0
      simp [go_sem, ir7, hS, hN, hO, nilS, purse_eq, h1, s0, awake22]
end Go.AM.R1
open Go Go.AM Go.AM.R1 Go.Proofs
namespace Go.Proofs.Ytppdlldajaihbaa
open Go.ChangeShapes Go.WideShapes Go.ChangeAt Go.RowKit
namespace driveOf
theorem own : ownKnob Try.prog.godebug = none := by kernel_rfl
theorem laidOut : laidOutB Try.prog = true := by kernel_rfl
theorem mixed : Try.prog.follows .mixedOrders = true := by kernel_rfl
set_option maxRecDepth 100000 in
theorem contract (H : Type) (enc : TypeId × Value → H) (W : World) (base : Nat) (args : Array Value) (ds gs : List (DataW H)) (before : List MemPlace)
    (hval : ∀ (j : Nat) t v, Try.f7.params[j]? = some t → args[j]? = some v → Value.okWide Try.prog W .any base t v)
    (hW : DataW.Whole enc Try.prog Try.f7.params.toList Rows.driveOfSpec.vars false W args.toList ds gs before) :
    Calls Try.prog 7 args W fun e W' => ∃ v, e = .returned v ∧ Rows.driveOfSpec.post enc Try.prog Try.f7 false true false false W args v W' := by
  refine law_contract (id := 7) (f := Try.f7) (s := Rows.driveOfSpec) (k := 6) (nargs := 3) (base := base) (ds := ds) (gs := gs) (before := before) mixed R1.hE laidOut ?e1 ?e2 (tb := 4) ?e3 Try.underlying4 ?e4 ?e5 ?e7 ?e8 ?e6
  case e7 => exact hval
  case e8 => exact hW
  case e1 => rfl
  case e3 => kernel_rfl
  case e4 => rw [Try.params7]; rfl
  · rw [Try.params7]; decide +kernel
  · intro ds h
    match ds, h with
    | [d1, d2, d3], _ => rfl
  · intro cs hA
    rw [Try.params7] at hA
    obtain ⟨d1, r1, a1, s1, rfl, rfl, h1, hA⟩ := decArgs_cons hA
    obtain ⟨d2, r2, a2, s2, rfl, rfl, h2, hA⟩ := decArgs_cons hA
    obtain ⟨d3, r3, a3, s3, rfl, rfl, h3, hA⟩ := decArgs_cons hA
    obtain ⟨rfl, rfl⟩ := decArgs_nil hA
    obtain ⟨nl, fu, l, rfl, hl⟩ := dec_runs (n := 3) Try.underlying49 ⟨_, _, _, Try.underlying56, Try.underlying3, Try.underlying3, Try.underlying54⟩ h1
    obtain ⟨node, -, hw, rfl⟩ := decV_int (n := 5) Try.underlying3 h2
    obtain ⟨first, -, hw2, rfl⟩ := decV_int (n := 5) Try.underlying3 h3
    obtain ⟨n, hn⟩ := (call_iff R1.E).1 (driveOf_spec l (fun r hr => ⟨(hl r hr).1, (hl r hr).2.2⟩) nl fu node first (wf64 hw) (wf64 hw2))
    exact ⟨n, _, hn⟩

set_option maxRecDepth 100000 in
theorem lifted (os : Os) (started : os.Started) (H : Type) (enc : TypeId × Value → H) :
    ReturnsInHanded {} Try.checked os 7 .any (Rows.driveOfSpec.pre6 enc Try.prog Try.f7 Rows.driveOfRow.domain false) (Rows.driveOfSpec.post enc Try.prog Try.f7 false true false false) := by
  refine returnsInHanded_of_change (C := Try.checked) own started (by kernel_rfl) Try.func7
    (ChangeSpec.witness6 (enc := enc) (C := Try.checked) false ⟨#[], #[.slice none 0 0, .int .i64 0, .int .i64 0], []⟩ 8 (by kernel_rfl) (by kernel_rfl) (by kernel_rfl) (by kernel_rfl)) ?_
  intro W base args ds gs before hval hW _ _
  exact contract H enc W base args ds gs before hval hW

theorem proved : Rows.DriveOfSaid :=
  OpenClaim.holds_of_wide 7 Try.f7 rfl rfl rfl rfl rfl rfl rfl ⟨rfl, rfl, rfl, rfl, rfl⟩ rfl rfl rfl rfl rfl (by kernel_rfl) Try.func7 (by kernel_rfl)
    (of_decide_eq_true (by kernel_rfl)) (by unfold Func.isWrapper; first | (rw [if_pos (by decide +kernel)]; kernel_rfl) | (rw [if_neg (by decide +kernel)]; exact ⟨rfl, rfl⟩))
    (fun os started H enc _ => lifted os started H enc)
end driveOf
theorem driveOfProved : Rows.DriveOfSaid := driveOf.proved
end Go.Proofs.Ytppdlldajaihbaa
