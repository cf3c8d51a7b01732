/- The law DriveAll of package magnetolaw22 returns true for every input, and its arguments read as before. -/
import Derived.Test.YtefpgafgpanpfaaGreatRows
import Derived.Test.YtefpgafgpanpfaaGreatAm3
import Derived.Laws.Strings
set_option linter.unusedVariables false
set_option linter.unusedSimpArgs false
set_option maxHeartbeats 16000000
open List (range_succ getElem?_eq_getElem mem_of_mem_drop getElem?_append_left mem_cons_of_mem mem_cons map_cons length_append map_append)
open Go Go.AM Go.Proofs
namespace Go.AM.R1
/- magnetolaw22.DriveAll -/
abbrev Ix (d:Nat) (o:IOp):IOper:=⟨none,some d,o⟩
abbrev Iy (d s:Nat):IOper:=⟨none,some d,.copy (.t s)⟩
abbrev Iw (o:IOp):IOper:=⟨none,none,o⟩
abbrev Iv (g:Nat) (b:Bool) (d:Nat) (o:IOp):IOper:=⟨some (g,b),some d,o⟩
abbrev Ik (n:Int):AVal:=.lit (.int .i64 n)
abbrev It:AVal:=.lit (.bool true)
abbrev If:AVal:=.lit (.bool false)
def L8_1:ICode:=(.seq (.seq (.reg [Iy 117 16,Ix 118 (.fieldA 1 (.t 4)),Ix 119 (.load false 1 (.t 118)),Ix 120 (.bin .lss (.t 117) (.t 119))] [] []) (.cond (.t 120) .skip (.exit 2))) (.seq (.block 3 (.seq (.reg [Ix 123 (.load true 3 (.t 14)),Iy 124 16,Ix 125 (.call 39 [(.t 123),(.t 124)]),Ix 126 (.load true 3 (.t 12)),Iy 127 16,Ix 128 (.call 39 [(.t 126),(.t 127)]),Ix 129 (.bin .neq (.t 125) (.t 128))] [(3,2)] []) (.cond (.t 129) (.seq (.reg [Ix 6 (.copy (.c If))] [] []) .ret) .skip))) (.reg [Iy 121 16,Ix 122 (.bin .add (.t 121) (.c (Ik 1))),Iy 16 122] [] [])))
def L8_0:ICode:=(.seq (.seq (.reg [Iy 61 11,Ix 62 (.fieldA 0 (.t 4)),Ix 63 (.load false 1 (.t 62)),Ix 64 (.bin .lss (.t 61) (.t 63))] [] []) (.cond (.t 64) .skip (.exit 0))) (.seq (.block 1 (.seq (.reg [Iy 68 7,Iy 69 11,Ix 70 (.call 37 [(.t 68),(.t 69),(.c (Ik 0))]),Iy 67 70,Ix 71 (.extract (.t 67) 0),Ix 72 (.extract (.t 67) 1),Ix 12 (.alloc [(Ik 0),(Ik 0),nilS]),Iw (.store 3 (.t 12) (.t 71)),Iy 13 72] [] []) (.seq (.seq (.reg [Iy 73 13,Ix 74 (.bin .neq (.t 73) (.c (Ik 0))),Iy 75 74,Iv 75 false 76 (.load true 3 (.t 12)),Iv 75 false 77 (.call 38 [(.t 76)]),Iv 75 false 78 (.fieldA 1 (.t 4)),Iv 75 false 79 (.load false 1 (.t 78)),Iv 75 false 80 (.bin .neq (.t 77) (.t 79)),Ix 81 (.pick (.t 75) (.c It) (.t 80))] [(6,4)] []) (.cond (.t 81) (.seq (.reg [Ix 6 (.copy (.c If))] [] []) .ret) .skip)) (.seq (.reg [Iy 82 10,Ix 83 (.load true 3 (.t 12)),Ix 84 (.mkSlice true 3 [(Ik 0),(Ik 0),nilS] 1 [(0,(.t 83))]),Ix 85 (.append true 3 40 (.t 82) (.t 84)),Iy 10 85] [] []) (.seq (.seq (.reg [Iy 86 2,Ix 87 (.bin .lss (.t 86) (.c (Ik 0))),Iy 88 87,Iv 88 false 89 (.copy (.t 2)),Iv 88 false 90 (.fieldA 1 (.t 4)),Iv 88 false 91 (.load false 1 (.t 90)),Iv 88 false 92 (.bin .gtr (.t 89) (.t 91)),Ix 93 (.pick (.t 88) (.c It) (.t 92))] [] []) (.cond (.t 93) (.exit 1) .skip)) (.seq (.reg [Iy 95 7,Iy 96 11,Iy 97 2,Ix 98 (.call 37 [(.t 95),(.t 96),(.t 97)]),Iy 94 98,Ix 99 (.extract (.t 94) 0),Ix 100 (.extract (.t 94) 1),Ix 14 (.alloc [(Ik 0),(Ik 0),nilS]),Iw (.store 3 (.t 14) (.t 99)),Iy 15 100] [] []) (.seq (.seq (.reg [Iy 101 15,Ix 102 (.bin .neq (.t 101) (.c (Ik 0))),Iy 103 102,Iv 103 false 104 (.fieldA 1 (.t 14)),Iv 103 false 105 (.load false 1 (.t 104)),Iv 103 false 106 (.copy (.t 2)),Iv 103 false 107 (.bin .neq (.t 105) (.t 106)),Ix 108 (.pick (.t 103) (.c It) (.t 107)),Iy 109 108,Iv 109 false 110 (.load true 3 (.t 14)),Iv 109 false 111 (.call 38 [(.t 110)]),Iv 109 false 112 (.fieldA 1 (.t 4)),Iv 109 false 113 (.load false 1 (.t 112)),Iv 109 false 114 (.bin .neq (.t 111) (.t 113)),Ix 115 (.pick (.t 109) (.c It) (.t 114))] [(12,10)] []) (.cond (.t 115) (.seq (.reg [Ix 6 (.copy (.c If))] [] []) .ret) .skip)) (.seq (.reg [Iy 116 2,Iy 16 116] [] []) (.block 2 (.loop [1000000,2,4,7,10,11,12,14,16] L8_1)))))))))) (.reg [Iy 65 11,Ix 66 (.bin .add (.t 65) (.c (Ik 1))),Iy 11 66] [] [])))
def L8_2:ICode:=(.seq (.seq (.reg [Iy 130 17,Ix 131 (.fieldA 1 (.t 4)),Ix 132 (.load false 1 (.t 131)),Ix 133 (.bin .lss (.t 130) (.t 132))] [] []) (.cond (.t 133) .skip (.exit 4))) (.seq (.block 5 (.seq (.reg [Iy 137 17,Iy 138 10,Ix 139 (.call 40 [(.t 137),(.t 138)]),Iy 136 139,Ix 140 (.extract (.t 136) 0),Ix 141 (.extract (.t 136) 1),Ix 142 (.extract (.t 136) 2),Iy 18 140,Iy 19 141,Iy 20 142] [] []) (.seq (.reg [Iy 144 7,Iy 145 17,Ix 146 (.call 41 [(.t 144),(.t 145)]),Iy 143 146,Ix 147 (.extract (.t 143) 0),Ix 148 (.extract (.t 143) 1),Ix 21 (.alloc [(Ik 0),(Ik 0),(.lit (.int .u32 0))]),Iw (.store 3 (.t 21) (.t 147)),Iy 22 148] [] []) (.seq (.reg [Iy 149 20,Ix 150 (.bin .neq (.t 149) (.c (Ik 0))),Iy 151 150,Iv 151 false 152 (.copy (.t 22)),Iv 151 false 153 (.bin .neq (.t 152) (.c (Ik 0))),Ix 154 (.pick (.t 151) (.c It) (.t 153)),Iy 155 154,Iv 155 false 156 (.copy (.t 19)),Iv 155 false 157 (.fieldA 2 (.t 21)),Iv 155 false 158 (.load false 1 (.t 157)),Iv 155 false 159 (.bin .neq (.t 156) (.t 158)),Ix 160 (.pick (.t 155) (.c It) (.t 159)),Iy 161 160,Iv 161 false 162 (.copy (.t 18)),Iv 161 false 163 (.fieldA 0 (.t 4)),Iv 161 false 164 (.load false 1 (.t 163)),Iv 161 false 165 (.bin .shl (.c (.lit (.int .u32 1))) (.t 164)),Iv 161 false 166 (.bin .sub (.t 165) (.c (.lit (.int .u32 1)))),Iv 161 false 167 (.bin .neq (.t 162) (.t 166)),Ix 168 (.pick (.t 161) (.c It) (.t 167)),Iy 169 168,Iv 169 false 170 (.fieldA 1 (.t 21)),Iv 169 false 171 (.load false 1 (.t 170)),Iv 169 false 172 (.bin .eql (.t 171) (.c (Ik 1))),Iv 169 false 173 (.copy (.t 19)),Iv 169 false 174 (.bin .eql (.t 173) (.c (.lit (.int .u32 4294967295)))),Iv 169 false 175 (.eqB true (.t 172) (.t 174)),Ix 176 (.pick (.t 169) (.c It) (.t 175))] [] []) (.cond (.t 176) (.seq (.reg [Ix 6 (.copy (.c If))] [] []) .ret) .skip))))) (.reg [Iy 134 17,Ix 135 (.bin .add (.t 134) (.c (Ik 1))),Iy 17 135] [] [])))
def ir8:IFn:=⟨(.seq (.reg [Ix 4 (.box 2 (.t 1)),Ix 6 (.copy (.c If))] [] []) (.seq (.seq (.reg [Iy 23 0,Ix 24 (.len (.t 23)),Ix 25 (.bin .gtr (.t 24) (.c (Ik 30))),Iy 26 25,Iv 26 false 27 (.fieldA 0 (.t 4)),Iv 26 false 28 (.load false 1 (.t 27)),Iv 26 false 29 (.bin .gtr (.t 28) (.c (Ik 6))),Ix 30 (.pick (.t 26) (.c It) (.t 29)),Iy 31 30,Iv 31 false 32 (.fieldA 1 (.t 4)),Iv 31 false 33 (.load false 1 (.t 32)),Iv 31 false 34 (.bin .lss (.t 33) (.c (Ik 0))),Ix 35 (.pick (.t 31) (.c It) (.t 34)),Iy 36 35,Iv 36 false 37 (.fieldA 1 (.t 4)),Iv 36 false 38 (.load false 1 (.t 37)),Iv 36 false 39 (.bin .gtr (.t 38) (.c (Ik 200))),Ix 40 (.pick (.t 36) (.c It) (.t 39)),Iy 41 40,Iv 41 false 42 (.fieldA 0 (.t 4)),Iv 41 false 43 (.load false 1 (.t 42)),Iv 41 false 44 (.copy (.t 0)),Iv 41 false 45 (.call 15 [(.t 43),(.t 44)]),Iv 41 false 46 (.bin .neq (.t 45) (.c (Ik 0))),Ix 47 (.pick (.t 41) (.c It) (.t 46))] [] []) (.cond (.t 47) (.seq (.reg [Ix 48 (.call 36 []),Iy 6 48] [] []) .ret) .skip)) (.seq (.reg [Ix 50 (.fieldA 0 (.t 4)),Ix 51 (.load false 1 (.t 50)),Ix 52 (.fieldA 1 (.t 4)),Ix 53 (.load false 1 (.t 52)),Iy 54 0,Ix 55 (.call 17 [(.t 51),(.t 53),(.t 54)]),Iy 49 55,Ix 56 (.extract (.t 49) 0),Ix 57 (.extract (.t 49) 1),Ix 58 (.extract (.t 49) 2),Iy 7 56,Iy 8 57,Iy 9 58] [] []) (.seq (.seq (.reg [Iy 59 9,Ix 60 (.bin .neq (.t 59) (.c (Ik 0)))] [] []) (.cond (.t 60) (.seq (.reg [Ix 6 (.copy (.c If))] [] []) .ret) .skip)) (.seq (.reg [Ix 10 (.copy (.c nilS))] [] []) (.seq (.seq (.reg [Ix 11 (.copy (.c (Ik 0)))] [] []) (.block 0 (.loop [1000000,2,4,7,10,11] L8_0))) (.seq (.seq (.reg [Ix 17 (.copy (.c (Ik 0)))] [] []) (.block 4 (.loop [1000000,4,7,10,17] L8_2))) (.seq (.reg [Ix 177 (.call 36 []),Iy 6 177] [] []) .ret)))))))),[.tmp 6]⟩
/- bus.Bus).Step -/
def ir9:IFn:=⟨(.seq (.reg [Ix 4 (.alloc [(Ik 0),(Ik 0),(.lit (.int .u32 0))]),Ix 5 (.copy (.c nilS)),Ix 6 (.copy (.c (Ik 0)))] [] []) (.seq (.reg [Iy 7 0,Iy 8 1,Ix 9 (.call 42 [(.t 7),(.t 8),(.c (.lit (.int .u32 0))),(.c (.lit (.int .u32 0)))]),Ix 10 (.extract (.t 9) 0),Ix 11 (.extract (.t 9) 1),Ix 12 (.extract (.t 9) 2),Iw (.store 3 (.t 4) (.t 10)),Iy 5 11,Iy 6 12] [] []) .ret)),[.cell 4 true 3,.tmp 5,.tmp 6]⟩
/- bus.Bus).Put -/
def ir11:IFn:=⟨(.seq (.reg [Ix 5 (.box 12 (.t 2)),Ix 6 (.copy (.c (Ik 0)))] [] []) (.seq (.seq (.reg [Iy 8 0,Iy 9 1,Ix 10 (.call 43 [(.t 8),(.t 9)]),Iy 7 10] [] []) (.seq (.reg [Iy 11 7,Ix 12 (.bin .neq (.t 11) (.c (Ik 0)))] [] []) (.cond (.t 12) (.seq (.reg [Iy 13 7,Iy 6 13] [] []) .ret) .skip))) (.seq (.reg [Iy 14 0,Ix 15 (.nilCheck (.t 14)),Ix 16 (.fieldA 0 (.t 15)),Ix 17 (.load false 1 (.t 16)),Iy 18 1,Ix 19 (.idxS 1 (.t 17) (.t 18)),Ix 20 (.load false 1 (.t 19)),Ix 21 (.load true 12 (.t 5)),Ix 22 (.call 45 [(.t 20),(.t 21)]),Iy 6 22] [] []) .ret))),[.tmp 6]⟩
/- bus.Check -/
def L15_0:ICode:=(.seq (.reg [Ix 17 (.bin .lss (.t 16) (.t 15))] [] []) (.seq (.cond (.t 17) .skip (.exit 0)) (.seq (.block 1 (.seq (.reg [Ix 18 (.idxS 15 (.t 14) (.t 16)),Ix 19 (.load true 15 (.t 18)),Ix 6 (.alloc [(Ik 0),(Ik 0),If,(Ik 0),If,If,(Ik 0),(.lit (.int .u8 0)),(.lit (.int .u8 0)),(.lit (.int .u8 0)),(.lit (.int .u8 0)),(.lit (.int .u8 0)),(.lit (.int .u8 0)),(.lit (.int .u8 0)),(.lit (.int .u8 0))]),Iw (.store 15 (.t 6) (.t 19))] [] []) (.seq (.seq (.reg [Ix 20 (.fieldA 0 (.t 6)),Ix 21 (.load false 1 (.t 20)),Ix 22 (.bin .lss (.t 21) (.c (Ik 0))),Iy 23 22,Iv 23 false 24 (.fieldA 1 (.t 6)),Iv 23 false 25 (.load false 1 (.t 24)),Iv 23 false 26 (.bin .lss (.t 25) (.c (Ik 0))),Ix 27 (.pick (.t 23) (.c It) (.t 26)),Iy 28 27,Iv 28 false 29 (.fieldA 1 (.t 6)),Iv 28 false 30 (.load false 1 (.t 29)),Iv 28 false 31 (.copy (.t 0)),Iv 28 false 32 (.bin .geq (.t 30) (.t 31)),Ix 33 (.pick (.t 28) (.c It) (.t 32))] [] []) (.cond (.t 33) (.seq (.reg [Ix 4 (.copy (.c (Ik 10)))] [] []) .ret) .skip)) (.seq (.reg [Ix 34 (.fieldA 3 (.t 6)),Ix 35 (.load true 12 (.t 34)),Ix 36 (.call 24 [(.t 35)]),Iy 7 36] [] []) (.seq (.reg [Ix 37 (.fieldA 2 (.t 6)),Ix 38 (.load false 1 (.t 37)),Ix 39 (.un .not (.t 38)),Iy 40 39,Iv 40 true 41 (.copy (.t 7)),Iv 40 true 42 (.bin .neq (.t 41) (.c (Ik 0))),Ix 43 (.pick (.t 40) (.t 42) (.c If))] [] []) (.cond (.t 43) (.seq (.reg [Iy 44 7,Iy 4 44] [] []) .ret) .skip)))))) (.reg [Ix 45 (.bin .add (.t 16) (.c (Ik 1))),Iy 16 45] [] []))))
def ir15:IFn:=⟨(.seq (.reg [Ix 4 (.copy (.c (Ik 0)))] [] []) (.seq (.seq (.reg [Iy 8 0,Ix 9 (.bin .lss (.t 8) (.c (Ik 1))),Iy 10 9,Iv 10 false 11 (.copy (.t 0)),Iv 10 false 12 (.bin .gtr (.t 11) (.c (Ik 32))),Ix 13 (.pick (.t 10) (.c It) (.t 12))] [] []) (.cond (.t 13) (.seq (.reg [Ix 4 (.copy (.c (Ik 10)))] [] []) .ret) .skip)) (.seq (.seq (.reg [Iy 14 1,Ix 15 (.len (.t 14)),Ix 16 (.copy (.c (Ik 0)))] [] []) (.block 0 (.loop [0,14,15,16] L15_0))) (.seq (.reg [Ix 4 (.copy (.c (Ik 0)))] [] []) .ret)))),[.tmp 4]⟩
/- bus.Play -/
def L17_0:ICode:=(.seq (.reg [Ix 48 (.bin .lss (.t 47) (.t 46))] [] []) (.seq (.cond (.t 48) .skip (.exit 0)) (.seq (.block 1 (.seq (.reg [Ix 49 (.idxS 15 (.t 45) (.t 47)),Ix 50 (.load true 15 (.t 49)),Ix 14 (.alloc [(Ik 0),(Ik 0),If,(Ik 0),If,If,(Ik 0),(.lit (.int .u8 0)),(.lit (.int .u8 0)),(.lit (.int .u8 0)),(.lit (.int .u8 0)),(.lit (.int .u8 0)),(.lit (.int .u8 0)),(.lit (.int .u8 0)),(.lit (.int .u8 0))]),Iw (.store 15 (.t 14) (.t 50))] [] []) (.reg [Iy 51 12,Ix 52 (.fieldA 0 (.t 14)),Ix 53 (.load false 1 (.t 52)),Iy 54 12,Ix 55 (.fieldA 0 (.t 14)),Ix 56 (.load false 1 (.t 55)),Ix 57 (.mapGet nilS (.t 54) (.t 56)),Ix 58 (.load true 15 (.t 14)),Ix 59 (.mkSlice true 15 [(Ik 0),(Ik 0),If,(Ik 0),If,If,(Ik 0),(.lit (.int .u8 0)),(.lit (.int .u8 0)),(.lit (.int .u8 0)),(.lit (.int .u8 0)),(.lit (.int .u8 0)),(.lit (.int .u8 0)),(.lit (.int .u8 0)),(.lit (.int .u8 0))] 1 [(0,(.t 58))]),Ix 60 (.append true 15 56 (.t 57) (.t 59)),Iw (.mapSet (.t 51) (.t 53) (.t 60))] [(2,8),(2,9),(5,8),(6,8)] []))) (.reg [Ix 61 (.bin .add (.t 47) (.c (Ik 1))),Iy 47 61] [] []))))
def L17_2:ICode:=(.seq (.reg [Ix 71 (.bin .lss (.t 70) (.t 69))] [] []) (.seq (.cond (.t 71) .skip (.exit 4)) (.seq (.block 5 (.seq (.reg [Ix 72 (.idxS 15 (.t 68) (.t 70)),Ix 73 (.load true 15 (.t 72)),Ix 20 (.alloc [(Ik 0),(Ik 0),If,(Ik 0),If,If,(Ik 0),(.lit (.int .u8 0)),(.lit (.int .u8 0)),(.lit (.int .u8 0)),(.lit (.int .u8 0)),(.lit (.int .u8 0)),(.lit (.int .u8 0)),(.lit (.int .u8 0)),(.lit (.int .u8 0))]),Iw (.store 15 (.t 20) (.t 73))] [] []) (.seq (.reg [Ix 74 (.fieldA 2 (.t 20)),Ix 75 (.load false 1 (.t 74))] [] []) (.cond (.t 75) (.reg [Iy 76 18,Ix 77 (.fieldA 1 (.t 20)),Ix 78 (.load false 1 (.t 77)),Ix 79 (.bin .shl (.c (.lit (.int .u32 1))) (.t 78)),Ix 80 (.bin .or (.t 76) (.t 79)),Iy 18 80] [] []) (.reg [Iy 81 10,Ix 82 (.fieldA 1 (.t 20)),Ix 83 (.load false 1 (.t 82)),Ix 84 (.fieldA 3 (.t 20)),Ix 85 (.load true 12 (.t 84)),Ix 86 (.call 11 [(.t 81),(.t 83),(.t 85)])] [] []))))) (.reg [Ix 87 (.bin .add (.t 70) (.c (Ik 1))),Iy 70 87] [] []))))
def L17_1:ICode:=(.seq (.reg [Ix 64 (.bin .lss (.t 63) (.t 62))] [] []) (.seq (.cond (.t 64) .skip (.exit 2)) (.seq (.block 3 (.seq (.reg [Iy 65 63,Iy 17 65] [] []) (.seq (.reg [Ix 18 (.copy (.c (.lit (.int .u32 0))))] [] []) (.seq (.seq (.reg [Iy 66 12,Iy 67 17,Ix 68 (.mapGet nilS (.t 66) (.t 67)),Ix 69 (.len (.t 68)),Ix 70 (.copy (.c (Ik 0)))] [] []) (.block 4 (.loop [10,12,15,16,18,62,63,68,69,70] L17_2))) (.seq (.reg [Iy 89 10,Iy 90 18,Ix 91 (.call 9 [(.t 89),(.t 90)]),Iy 88 91,Ix 92 (.extract (.t 88) 0),Ix 93 (.extract (.t 88) 1),Ix 94 (.extract (.t 88) 2),Ix 21 (.alloc [(Ik 0),(Ik 0),(.lit (.int .u32 0))]),Iw (.store 3 (.t 21) (.t 92)),Iy 22 93,Iy 23 94] [] []) (.seq (.seq (.reg [Iy 95 23,Ix 96 (.bin .neq (.t 95) (.c (Ik 0)))] [] []) (.cond (.t 96) (.seq (.reg [Iy 97 23,Ix 6 (.copy (.c nilS)),Ix 7 (.copy (.c nilS)),Iy 8 97] [] []) .ret) .skip)) (.seq (.reg [Iy 98 15,Ix 99 (.load true 3 (.t 21)),Ix 100 (.callR 48 [(.t 98),(.t 99)]),Iy 15 100] [] []) (.reg [Iy 101 16,Iy 102 22,Ix 103 (.append true 15 56 (.t 101) (.t 102)),Iy 16 103] [] [])))))))) (.reg [Ix 104 (.bin .add (.t 63) (.c (Ik 1))),Iy 63 104] [] []))))
def ir17:IFn:=⟨(.seq (.reg [Ix 6 (.copy (.c nilS)),Ix 7 (.copy (.c nilS)),Ix 8 (.copy (.c (Ik 0)))] [] []) (.seq (.seq (.reg [Iy 24 0,Iy 25 2,Ix 26 (.call 15 [(.t 24),(.t 25)]),Iy 9 26] [] []) (.seq (.reg [Iy 27 9,Ix 28 (.bin .neq (.t 27) (.c (Ik 0)))] [] []) (.cond (.t 28) (.seq (.reg [Iy 29 9,Ix 6 (.copy (.c nilS)),Ix 7 (.copy (.c nilS)),Iy 8 29] [] []) .ret) .skip))) (.seq (.seq (.reg [Iy 30 1,Ix 31 (.bin .lss (.t 30) (.c (Ik 0))),Iy 32 31,Iv 32 false 33 (.copy (.t 1)),Iv 32 false 34 (.bin .gtr (.t 33) (.c (Ik 1048576))),Ix 35 (.pick (.t 32) (.c It) (.t 34))] [] []) (.cond (.t 35) (.seq (.reg [Ix 6 (.copy (.c nilS)),Ix 7 (.copy (.c nilS)),Ix 8 (.copy (.c (Ik 10)))] [] []) .ret) .skip)) (.seq (.reg [Iy 37 0,Ix 38 (.call 18 [(.t 37)]),Iy 36 38,Ix 39 (.extract (.t 36) 0),Ix 40 (.extract (.t 36) 1),Iy 10 39,Iy 11 40] [] []) (.seq (.seq (.reg [Iy 41 11,Ix 42 (.bin .neq (.t 41) (.c (Ik 0)))] [] []) (.cond (.t 42) (.seq (.reg [Iy 43 11,Ix 6 (.copy (.c nilS)),Ix 7 (.copy (.c nilS)),Iy 8 43] [] []) .ret) .skip)) (.seq (.reg [Ix 44 (.mapNew),Iy 12 44] [] []) (.seq (.seq (.reg [Iy 45 2,Ix 46 (.len (.t 45)),Ix 47 (.copy (.c (Ik 0)))] [] []) (.block 0 (.loop [1,10,12,45,46,47] L17_0))) (.seq (.reg [Ix 15 (.copy (.c nilS))] [] []) (.seq (.reg [Ix 16 (.copy (.c nilS))] [] []) (.seq (.seq (.reg [Iy 62 1,Ix 63 (.copy (.c (Ik 0)))] [] []) (.block 2 (.loop [10,12,15,16,62,63] L17_1))) (.seq (.reg [Iy 105 15,Iy 106 16,Iy 6 105,Iy 7 106,Ix 8 (.copy (.c (Ik 0)))] [] []) .ret))))))))))),[.tmp 6,.tmp 7,.tmp 8]⟩
/- bus.New -/
def L18_0:ICode:=(.seq (.reg [Ix 15 (.bin .lss (.t 14) (.t 13))] [] []) (.seq (.cond (.t 15) .skip (.exit 0)) (.seq (.block 1 (.reg [Iy 16 4,Iy 17 4,Ix 18 (.nilCheck (.t 17)),Ix 19 (.fieldA 0 (.t 18)),Ix 20 (.load false 1 (.t 19)),Ix 21 (.call 49 []),Ix 22 (.mkSlice false 1 [(.lit (.pointer none))] 1 [(0,(.t 21))]),Ix 23 (.append false 1 8 (.t 20) (.t 22)),Ix 24 (.nilCheck (.t 16)),Ix 25 (.fieldA 0 (.t 24)),Iw (.store 1 (.t 25) (.t 23))] [(4,5),(4,6)] [])) (.reg [Ix 26 (.bin .add (.t 14) (.c (Ik 1))),Iy 14 26] [] []))))
def ir18:IFn:=⟨(.seq (.reg [Ix 2 (.copy (.c (.lit (.pointer none)))),Ix 3 (.copy (.c (Ik 0)))] [] []) (.seq (.seq (.reg [Iy 5 0,Ix 6 (.bin .lss (.t 5) (.c (Ik 1))),Iy 7 6,Iv 7 false 8 (.copy (.t 0)),Iv 7 false 9 (.bin .gtr (.t 8) (.c (Ik 32))),Ix 10 (.pick (.t 7) (.c It) (.t 9))] [] []) (.cond (.t 10) (.seq (.reg [Ix 2 (.copy (.c (.lit (.pointer none)))),Ix 3 (.copy (.c (Ik 10)))] [] []) .ret) .skip)) (.seq (.reg [Ix 11 (.build [nilS,(Ik 0)] []),Ix 12 (.box 2 (.t 11)),Iy 4 12] [] []) (.seq (.seq (.reg [Iy 13 0,Ix 14 (.copy (.c (Ik 0)))] [] []) (.block 0 (.loop [4,13,14] L18_0))) (.seq (.reg [Iy 27 4,Iy 2 27,Ix 3 (.copy (.c (Ik 0)))] [] []) .ret))))),[.tmp 2,.tmp 3]⟩
/- magnetolaw11.Runs -/
def L19_0:ICode:=(.seq (.seq (.reg [Iy 11 5,Iy 12 0,Ix 13 (.len (.t 12)),Ix 14 (.bin .lss (.t 11) (.t 13))] [] []) (.cond (.t 14) .skip (.exit 0))) (.seq (.block 1 (.seq (.reg [Iy 17 0,Iy 18 5,Ix 19 (.idxS 3 (.t 17) (.t 18)),Ix 20 (.load true 3 (.t 19)),Iy 21 1,Iy 22 5,Ix 23 (.idxS 3 (.t 21) (.t 22)),Ix 24 (.load true 3 (.t 23)),Ix 25 (.eqA true [(0,.i),(1,.i),(2,.i)] (.t 20) (.t 24))] [] []) (.cond (.t 25) (.seq (.reg [Ix 4 (.copy (.c If))] [] []) .ret) .skip))) (.reg [Iy 15 5,Ix 16 (.bin .add (.t 15) (.c (Ik 1))),Iy 5 16] [] [])))
def ir19:IFn:=⟨(.seq (.reg [Ix 4 (.copy (.c If))] [] []) (.seq (.seq (.reg [Iy 6 0,Ix 7 (.len (.t 6)),Iy 8 1,Ix 9 (.len (.t 8)),Ix 10 (.bin .neq (.t 7) (.t 9))] [] []) (.cond (.t 10) (.seq (.reg [Ix 4 (.copy (.c If))] [] []) .ret) .skip)) (.seq (.seq (.reg [Ix 5 (.copy (.c (Ik 0)))] [] []) (.block 0 (.loop [0,1,5] L19_0))) (.seq (.reg [Ix 4 (.copy (.c It))] [] []) .ret)))),[.tmp 4]⟩
/- frame.Check -/
def ir24:IFn:=⟨(.seq (.reg [Ix 1 (.box 12 (.t 0)),Ix 2 (.copy (.c (Ik 0)))] [] []) (.seq (.reg [Ix 3 (.copy (.c (Ik 2047)))] [] []) (.seq (.seq (.reg [Ix 5 (.fieldA 1 (.t 1)),Ix 6 (.load false 1 (.t 5))] [] []) (.cond (.t 6) (.reg [Ix 3 (.copy (.c (Ik 536870911)))] [] []) .skip)) (.seq (.reg [Ix 7 (.fieldA 3 (.t 1)),Ix 8 (.load false 1 (.t 7)),Iy 4 8] [] []) (.seq (.seq (.reg [Ix 9 (.fieldA 2 (.t 1)),Ix 10 (.load false 1 (.t 9))] [] []) (.cond (.t 10) (.reg [Ix 4 (.copy (.c (Ik 0)))] [] []) .skip)) (.seq (.block 0 (.seq (.seq (.reg [Ix 12 (.fieldA 0 (.t 1)),Ix 13 (.load false 1 (.t 12)),Ix 14 (.bin .lss (.t 13) (.c (Ik 0))),Iy 15 14,Iv 15 false 16 (.fieldA 0 (.t 1)),Iv 15 false 17 (.load false 1 (.t 16)),Iv 15 false 18 (.copy (.t 3)),Iv 15 false 19 (.bin .gtr (.t 17) (.t 18)),Ix 20 (.pick (.t 15) (.c It) (.t 19)),Iy 11 20] [] []) (.cond (.t 11) .skip (.reg [Ix 21 (.fieldA 3 (.t 1)),Ix 22 (.load false 1 (.t 21)),Ix 23 (.bin .lss (.t 22) (.c (Ik 0))),Iy 24 23,Iv 24 false 25 (.fieldA 3 (.t 1)),Iv 24 false 26 (.load false 1 (.t 25)),Iv 24 false 27 (.bin .gtr (.t 26) (.c (Ik 8))),Ix 28 (.pick (.t 24) (.c It) (.t 27)),Iy 11 28] [] []))) (.cond (.t 11) (.seq (.reg [Ix 2 (.copy (.c (Ik 14)))] [] []) .ret) (.seq (.reg [Ix 30 (.mkSlice true 1 [(.lit (.int .u8 0))] 1 [(0,(.c (.lit (.int .u8 0))))]),Ix 31 (.fieldA 4 (.t 1)),Iy 32 4,Ix 33 (.sliceArr 8 1 (.t 31) (some (.t 32)) none),Ix 34 (.append true 1 1 (.t 30) (.t 33)),Ix 35 (.call 53 [(.t 34)]),Ix 36 (.bin .gtr (.t 35) (.c (.lit (.int .u8 0)))),Iy 29 36] [] []) (.cond (.t 29) (.seq (.reg [Ix 2 (.copy (.c (Ik 14)))] [] []) .ret) .skip))))) (.seq (.reg [Ix 2 (.copy (.c (Ik 0)))] [] []) .ret))))))),[.tmp 2]⟩
/- frame.Less -/
def ir26:IFn:=⟨(.seq (.reg [Ix 2 (.box 12 (.t 0)),Ix 3 (.box 12 (.t 1)),Ix 4 (.copy (.c If))] [] []) (.seq (.reg [Ix 8 (.load true 12 (.t 2)),Ix 9 (.load true 12 (.t 3)),Ix 10 (.call 54 [(.t 8),(.t 9)]),Iy 7 10,Ix 11 (.extract (.t 7) 0),Ix 12 (.extract (.t 7) 1),Iy 5 11,Iy 6 12] [] []) (.seq (.reg [Iy 13 6,Iy 14 13,Iv 14 true 15 (.copy (.t 5)),Iv 14 true 16 (.bin .lss (.t 15) (.c (Ik 0))),Ix 17 (.pick (.t 14) (.t 16) (.c If)),Iy 4 17] [] []) .ret))),[.tmp 4]⟩
/- count.State -/
def ir31:IFn:=⟨(.seq (.reg [Ix 1 (.box 3 (.t 0)),Ix 2 (.copy (.c (Ik 0)))] [] []) (.seq (.block 0 (.seq (.reg [Ix 4 (.fieldA 2 (.t 1)),Ix 5 (.load false 1 (.t 4)),Iy 3 5] [] []) (.cond (.t 3) (.seq (.reg [Ix 2 (.copy (.c (Ik 2)))] [] []) .ret) (.seq (.reg [Ix 7 (.fieldA 0 (.t 1)),Ix 8 (.load false 1 (.t 7)),Ix 9 (.bin .gtr (.t 8) (.c (Ik 127))),Iy 10 9,Iv 10 false 11 (.fieldA 1 (.t 1)),Iv 10 false 12 (.load false 1 (.t 11)),Iv 10 false 13 (.bin .gtr (.t 12) (.c (Ik 127))),Ix 14 (.pick (.t 10) (.c It) (.t 13)),Iy 6 14] [] []) (.cond (.t 6) (.seq (.reg [Ix 2 (.copy (.c (Ik 1)))] [] []) .ret) .skip))))) (.seq (.reg [Ix 2 (.copy (.c (Ik 0)))] [] []) .ret))),[.tmp 2]⟩
/- magnetolaw22.awake -/
def ir36:IFn:=⟨(.seq (.reg [Ix 0 (.copy (.c If))] [] []) (.seq (.reg [Ix 6 (.build [(Ik 0),(Ik 0),(.lit (.int .u32 0))] [(0,1,(.c (Ik 2))),(1,1,(.c (Ik 1))),(2,1,(.c (.lit (.int .u32 4294967295))))]),Ix 7 (.build [(Ik 0),(Ik 0),(.lit (.int .u32 0))] [(0,1,(.c (Ik 3))),(2,1,(.c (.lit (.int .u32 4294967293))))]),Ix 8 (.mkSlice true 3 [(Ik 0),(Ik 0),(.lit (.int .u32 0))] 2 [(0,(.t 6)),(1,(.t 7))]),Ix 9 (.call 37 [(.t 8),(.c (Ik 1)),(.c (Ik 1))]),Iy 5 9,Ix 10 (.extract (.t 5) 0),Ix 11 (.extract (.t 5) 1),Ix 1 (.alloc [(Ik 0),(Ik 0),nilS]),Iw (.store 3 (.t 1) (.t 10)),Iy 2 11] [] []) (.seq (.reg [Ix 13 (.build [(Ik 0),If,If,(Ik 0),(.lit (.int .u8 0)),(.lit (.int .u8 0)),(.lit (.int .u8 0)),(.lit (.int .u8 0)),(.lit (.int .u8 0)),(.lit (.int .u8 0)),(.lit (.int .u8 0)),(.lit (.int .u8 0))] []),Ix 14 (.call 60 [(.c (Ik 3)),(.c (Ik 10)),(.t 13)]),Iy 12 14,Ix 15 (.extract (.t 12) 0),Ix 16 (.extract (.t 12) 1),Ix 3 (.alloc [(Ik 0),(Ik 0),nilS]),Iw (.store 3 (.t 3) (.t 15)),Iy 4 16] [] []) (.seq (.reg [Iy 17 2,Ix 18 (.bin .eql (.t 17) (.c (Ik 0))),Iy 19 18,Iv 19 true 20 (.load true 3 (.t 1)),Iv 19 true 21 (.build [(Ik 0),(Ik 0),(.lit (.int .u32 0))] [(0,1,(.c (Ik 1))),(1,1,(.c (Ik 1)))]),Iv 19 true 22 (.build [(Ik 0),(Ik 0),(.lit (.int .u32 0))] [(0,1,(.c (Ik 3)))]),Iv 19 true 23 (.mkSlice true 3 [(Ik 0),(Ik 0),(.lit (.int .u32 0))] 2 [(0,(.t 21)),(1,(.t 22))]),Iv 19 true 24 (.build [(Ik 0),(Ik 0),nilS] [(0,1,(.c (Ik 1))),(1,1,(.c (Ik 1))),(2,1,(.t 23))]),Iv 19 true 25 (.call 61 [(.t 20),(.t 24)]),Ix 26 (.pick (.t 19) (.t 25) (.c If)),Iy 27 26,Iv 27 true 28 (.load true 3 (.t 1)),Iv 27 true 29 (.call 38 [(.t 28)]),Iv 27 true 30 (.bin .eql (.t 29) (.c (Ik 5))),Ix 31 (.pick (.t 27) (.t 30) (.c If)),Iy 32 31,Iv 32 true 33 (.load true 3 (.t 1)),Iv 32 true 34 (.call 39 [(.t 33),(.c (Ik 1))]),Iv 32 true 35 (.bin .eql (.t 34) (.c (Ik 1))),Ix 36 (.pick (.t 32) (.t 35) (.c If)),Iy 37 36,Iv 37 true 38 (.load true 3 (.t 1)),Iv 37 true 39 (.call 39 [(.t 38),(.c (Ik 2))]),Iv 37 true 40 (.bin .eql (.t 39) (.c (Ik 0))),Ix 41 (.pick (.t 37) (.t 40) (.c If)),Iy 42 41,Iv 42 true 43 (.load true 3 (.t 1)),Iv 42 true 44 (.call 39 [(.t 43),(.c (Ik 5))]),Iv 42 true 45 (.bin .eql (.t 44) (.c (Ik 1))),Ix 46 (.pick (.t 42) (.t 45) (.c If)),Iy 47 46,Iv 47 true 48 (.copy (.t 4)),Iv 47 true 49 (.bin .eql (.t 48) (.c (Ik 0))),Ix 50 (.pick (.t 47) (.t 49) (.c If)),Iy 51 50,Iv 51 true 52 (.load true 3 (.t 3)),Iv 51 true 53 (.call 38 [(.t 52)]),Iv 51 true 54 (.bin .eql (.t 53) (.c (Ik 60))),Ix 55 (.pick (.t 51) (.t 54) (.c If)),Iy 0 55] [] []) .ret)))),[.tmp 0]⟩
/- drive.Of -/
def ir37:IFn:=⟨(.seq (.reg [Ix 6 (.alloc [(Ik 0),(Ik 0),nilS]),Ix 7 (.copy (.c (Ik 0)))] [] []) (.seq (.reg [Iy 11 0,Iy 12 1,Ix 13 (.call 62 [(.t 11),(.t 12)]),Iy 10 13,Ix 14 (.extract (.t 10) 0),Ix 15 (.extract (.t 10) 1),Iy 8 14,Iy 9 15] [] []) (.seq (.seq (.reg [Iy 16 9,Ix 17 (.bin .neq (.t 16) (.c (Ik 0)))] [] []) (.cond (.t 17) (.seq (.reg [Ix 18 (.build [(Ik 0),(Ik 0),nilS] []),Iy 19 9,Iw (.store 3 (.t 6) (.t 18)),Iy 7 19] [] []) .ret) .skip)) (.seq (.seq (.reg [Iy 20 2,Iy 21 8,Ix 22 (.len (.t 21)),Ix 23 (.call 63 [(.t 20),(.c (Ik 0)),(.t 22)]),Ix 24 (.un .not (.t 23))] [] []) (.cond (.t 24) (.seq (.reg [Ix 25 (.build [(Ik 0),(Ik 0),nilS] []),Iw (.store 3 (.t 6) (.t 25)),Ix 7 (.copy (.c (Ik 10)))] [] []) .ret) .skip)) (.seq (.reg [Iy 26 1,Iy 27 2,Iy 28 8,Iy 29 2,Ix 30 (.slice 1 (.t 28) (some (.t 29)) none none),Ix 31 (.call 64 [(.t 30)]),Ix 32 (.build [(Ik 0),(Ik 0),nilS] [(0,1,(.t 26)),(1,1,(.t 27)),(2,1,(.t 31))]),Iw (.store 3 (.t 6) (.t 32)),Ix 7 (.copy (.c (Ik 0)))] [] []) .ret))))),[.cell 6 true 3,.tmp 7]⟩
/- drive.Script).Ends -/
def L38_0:ICode:=(.seq (.reg [Ix 15 (.bin .lss (.t 14) (.t 13))] [] []) (.seq (.cond (.t 15) .skip (.exit 0)) (.seq (.block 1 (.seq (.reg [Ix 16 (.idxS 3 (.t 12) (.t 14)),Ix 17 (.load true 3 (.t 16)),Ix 5 (.alloc [(Ik 0),(Ik 0),(.lit (.int .u32 0))]),Iw (.store 3 (.t 5) (.t 17))] [] []) (.reg [Iy 18 3,Ix 19 (.fieldA 0 (.t 5)),Ix 20 (.load false 1 (.t 19)),Ix 21 (.bin .add (.t 18) (.t 20)),Iy 3 21] [] []))) (.reg [Ix 22 (.bin .add (.t 14) (.c (Ik 1))),Iy 14 22] [] []))))
def ir38:IFn:=⟨(.seq (.reg [Ix 1 (.box 3 (.t 0)),Ix 2 (.copy (.c (Ik 0)))] [] []) (.seq (.seq (.reg [Ix 6 (.load true 3 (.t 1)),Ix 7 (.call 65 [(.t 6)]),Ix 8 (.bin .neq (.t 7) (.c (Ik 0)))] [] []) (.cond (.t 8) (.seq (.reg [Ix 2 (.copy (.c (Ik 0)))] [] []) .ret) .skip)) (.seq (.reg [Ix 9 (.fieldA 1 (.t 1)),Ix 10 (.load false 1 (.t 9)),Iy 3 10] [] []) (.seq (.seq (.reg [Ix 11 (.fieldA 2 (.t 1)),Ix 12 (.load false 1 (.t 11)),Ix 13 (.len (.t 12)),Ix 14 (.copy (.c (Ik 0)))] [] []) (.block 0 (.loop [3,12,13,14] L38_0))) (.seq (.reg [Iy 23 3,Iy 2 23] [] []) .ret))))),[.tmp 2]⟩
/- drive.Script).At -/
def L39_0:ICode:=(.seq (.reg [Ix 24 (.bin .lss (.t 23) (.t 22))] [] []) (.seq (.cond (.t 24) .skip (.exit 0)) (.seq (.block 1 (.seq (.reg [Ix 25 (.idxS 3 (.t 21) (.t 23)),Ix 26 (.load true 3 (.t 25)),Ix 6 (.alloc [(Ik 0),(Ik 0),(.lit (.int .u32 0))]),Iw (.store 3 (.t 6) (.t 26))] [] []) (.seq (.seq (.reg [Iy 27 1,Ix 28 (.fieldA 0 (.t 6)),Ix 29 (.load false 1 (.t 28)),Ix 30 (.bin .lss (.t 27) (.t 29))] [] []) (.cond (.t 30) (.seq (.reg [Ix 31 (.fieldA 1 (.t 6)),Ix 32 (.load false 1 (.t 31)),Iy 4 32] [] []) .ret) .skip)) (.reg [Iy 33 1,Ix 34 (.fieldA 0 (.t 6)),Ix 35 (.load false 1 (.t 34)),Ix 36 (.bin .sub (.t 33) (.t 35)),Iy 1 36] [] [])))) (.reg [Ix 37 (.bin .add (.t 23) (.c (Ik 1))),Iy 23 37] [] []))))
def ir39:IFn:=⟨(.seq (.reg [Ix 2 (.box 3 (.t 0)),Ix 4 (.copy (.c (Ik 0)))] [] []) (.seq (.seq (.reg [Ix 7 (.load true 3 (.t 2)),Ix 8 (.call 65 [(.t 7)]),Ix 9 (.bin .neq (.t 8) (.c (Ik 0))),Iy 10 9,Iv 10 false 11 (.copy (.t 1)),Iv 10 false 12 (.fieldA 1 (.t 2)),Iv 10 false 13 (.load false 1 (.t 12)),Iv 10 false 14 (.bin .lss (.t 11) (.t 13)),Ix 15 (.pick (.t 10) (.c It) (.t 14))] [] []) (.cond (.t 15) (.seq (.reg [Ix 4 (.copy (.c (Ik 1)))] [] []) .ret) .skip)) (.seq (.reg [Iy 16 1,Ix 17 (.fieldA 1 (.t 2)),Ix 18 (.load false 1 (.t 17)),Ix 19 (.bin .sub (.t 16) (.t 18)),Iy 1 19] [] []) (.seq (.seq (.reg [Ix 20 (.fieldA 2 (.t 2)),Ix 21 (.load false 1 (.t 20)),Ix 22 (.len (.t 21)),Ix 23 (.copy (.c (Ik 0)))] [] []) (.block 0 (.loop [1,21,22,23] L39_0))) (.seq (.reg [Ix 4 (.copy (.c (Ik 1)))] [] []) .ret))))),[.tmp 4]⟩
/- drive.Mask -/
def L40_0:ICode:=(.seq (.reg [Ix 18 (.bin .lss (.t 17) (.t 16))] [] []) (.seq (.cond (.t 18) .skip (.exit 0)) (.seq (.block 1 (.seq (.reg [Ix 19 (.idxS 3 (.t 15) (.t 17)),Ix 20 (.load true 3 (.t 19)),Ix 8 (.alloc [(Ik 0),(Ik 0),nilS]),Iw (.store 3 (.t 8) (.t 20))] [] []) (.seq (.reg [Ix 21 (.load true 3 (.t 8)),Ix 22 (.call 65 [(.t 21)]),Iy 9 22] [] []) (.seq (.reg [Iy 23 9,Ix 24 (.bin .neq (.t 23) (.c (Ik 0)))] [] []) (.cond (.t 24) (.seq (.reg [Iy 25 9,Ix 4 (.copy (.c (.lit (.int .u32 0)))),Ix 5 (.copy (.c (.lit (.int .u32 0)))),Iy 6 25] [] []) .ret) .skip))))) (.reg [Ix 26 (.bin .add (.t 17) (.c (Ik 1))),Iy 17 26] [] []))))
def L40_1:ICode:=(.seq (.reg [Ix 30 (.bin .lss (.t 29) (.t 28))] [] []) (.seq (.cond (.t 30) .skip (.exit 2)) (.seq (.block 3 (.seq (.reg [Ix 31 (.idxS 3 (.t 27) (.t 29)),Ix 32 (.load true 3 (.t 31)),Ix 13 (.alloc [(Ik 0),(Ik 0),nilS]),Iw (.store 3 (.t 13) (.t 32))] [] []) (.seq (.reg [Ix 33 (.fieldA 0 (.t 13)),Ix 34 (.load false 1 (.t 33)),Ix 35 (.bin .shl (.c (.lit (.int .u32 1))) (.t 34)),Iy 14 35] [] []) (.seq (.seq (.reg [Iy 36 10,Iy 37 14,Ix 38 (.bin .and (.t 36) (.t 37)),Ix 39 (.bin .neq (.t 38) (.c (.lit (.int .u32 0))))] [] []) (.cond (.t 39) (.seq (.reg [Ix 4 (.copy (.c (.lit (.int .u32 0)))),Ix 5 (.copy (.c (.lit (.int .u32 0)))),Ix 6 (.copy (.c (Ik 23)))] [] []) .ret) .skip)) (.seq (.reg [Iy 40 10,Iy 41 14,Ix 42 (.bin .or (.t 40) (.t 41)),Iy 10 42] [] []) (.seq (.reg [Ix 43 (.load true 3 (.t 13)),Iy 44 0,Ix 45 (.call 66 [(.t 43),(.t 44),(.c (.func (.func 39) [] []))]),Ix 46 (.bin .eql (.t 45) (.c (Ik 0)))] [] []) (.cond (.t 46) (.reg [Iy 47 11,Iy 48 14,Ix 49 (.bin .andNot (.t 47) (.t 48)),Iy 11 49] [] []) .skip))))))) (.reg [Ix 50 (.bin .add (.t 29) (.c (Ik 1))),Iy 29 50] [] []))))
def ir40:IFn:=⟨(.seq (.reg [Ix 4 (.copy (.c (.lit (.int .u32 0)))),Ix 5 (.copy (.c (.lit (.int .u32 0)))),Ix 6 (.copy (.c (Ik 0)))] [] []) (.seq (.seq (.reg [Iy 15 1,Ix 16 (.len (.t 15)),Ix 17 (.copy (.c (Ik 0)))] [] []) (.block 0 (.loop [0,1,15,16,17] L40_0))) (.seq (.reg [Ix 10 (.copy (.c (.lit (.int .u32 0)))),Ix 11 (.copy (.c (.lit (.int .u32 4294967295))))] [] []) (.seq (.seq (.reg [Iy 27 1,Ix 28 (.len (.t 27)),Ix 29 (.copy (.c (Ik 0)))] [] []) (.block 2 (.loop [0,10,11,27,28,29] L40_1))) (.seq (.reg [Iy 51 10,Iy 52 11,Iy 4 51,Iy 5 52,Ix 6 (.copy (.c (Ik 0)))] [] []) .ret))))),[.tmp 4,.tmp 5,.tmp 6]⟩
/- tap.At -/
def ir41:IFn:=⟨(.seq (.reg [Ix 4 (.alloc [(Ik 0),(Ik 0),(.lit (.int .u32 0))]),Ix 5 (.copy (.c (Ik 0)))] [] []) (.seq (.reg [Iy 10 0,Ix 11 (.call 67 [(.t 10)]),Iy 9 11,Ix 12 (.extract (.t 9) 0),Ix 13 (.extract (.t 9) 1),Iy 6 12,Iy 7 13] [] []) (.seq (.block 0 (.seq (.reg [Iy 15 7,Ix 16 (.bin .neq (.t 15) (.c (Ik 0))),Iy 14 16] [] []) (.cond (.t 14) (.seq (.reg [Ix 17 (.build [(Ik 0),(Ik 0),(.lit (.int .u32 0))] []),Iy 18 7,Iw (.store 3 (.t 4) (.t 17)),Iy 5 18] [] []) .ret) (.seq (.reg [Iy 20 1,Ix 21 (.bin .lss (.t 20) (.c (Ik 0))),Iy 22 21,Iv 22 false 23 (.copy (.t 1)),Iv 22 false 24 (.copy (.t 6)),Iv 22 false 25 (.bin .geq (.t 23) (.t 24)),Ix 26 (.pick (.t 22) (.c It) (.t 25)),Iy 19 26] [] []) (.cond (.t 19) (.seq (.reg [Ix 27 (.build [(Ik 0),(Ik 0),(.lit (.int .u32 0))] []),Iw (.store 3 (.t 4) (.t 27)),Ix 5 (.copy (.c (Ik 10)))] [] []) .ret) .skip))))) (.seq (.reg [Iy 28 0,Iy 29 1,Iy 30 1,Ix 31 (.bin .add (.t 30) (.c (Ik 1))),Ix 32 (.call 68 [(.t 28),(.t 29),(.t 31)]),Iy 8 32] [] []) (.seq (.reg [Iy 33 8,Ix 34 (.idxS 3 (.t 33) (.c (Ik 0))),Ix 35 (.load true 3 (.t 34)),Iw (.store 3 (.t 4) (.t 35)),Ix 5 (.copy (.c (Ik 0)))] [] []) .ret))))),[.cell 4 true 3,.tmp 5]⟩
/- bus.Bus).Force -/
def L42_0:ICode:=(.seq (.reg [Ix 44 (.bin .lss (.t 43) (.t 42))] [] []) (.seq (.cond (.t 44) .skip (.exit 0)) (.seq (.block 1 (.seq (.reg [Iy 45 43,Ix 46 (.idxS 1 (.t 41) (.t 43)),Ix 47 (.load false 1 (.t 46)),Iy 12 45,Iy 13 47] [] []) (.seq (.reg [Iy 48 13,Ix 49 (.call 69 [(.t 48)]),Ix 50 (.bin .eql (.t 49) (.c (Ik 0))),Iy 14 50] [] []) (.seq (.seq (.reg [Iy 51 2,Iy 52 12,Ix 53 (.call 70 [(.t 51),(.t 52)])] [] []) (.cond (.t 53) (.reg [Iy 54 3,Iy 55 12,Ix 56 (.call 70 [(.t 54),(.t 55)]),Ix 57 (.un .not (.t 56)),Iy 14 57] [] []) .skip)) (.seq (.reg [Iy 58 14] [] []) (.cond (.t 58) (.reg [Iy 59 11,Iy 60 12,Ix 61 (.bin .shl (.c (.lit (.int .u32 1))) (.t 60)),Ix 62 (.bin .andNot (.t 59) (.t 61)),Iy 11 62] [] []) .skip)))))) (.reg [Ix 63 (.bin .add (.t 43) (.c (Ik 1))),Iy 43 63] [] []))))
def L42_2:ICode:=(.seq (.reg [Ix 106 (.bin .lss (.t 105) (.t 104))] [] []) (.seq (.cond (.t 106) .skip (.exit 4)) (.seq (.block 5 (.seq (.reg [Ix 107 (.idxS 15 (.t 103) (.t 105)),Ix 108 (.load true 15 (.t 107)),Ix 22 (.alloc [(Ik 0),(Ik 0),(Ik 0),(Ik 0),If,If,(Ik 0),(.lit (.int .u8 0)),(.lit (.int .u8 0)),(.lit (.int .u8 0)),(.lit (.int .u8 0)),(.lit (.int .u8 0)),(.lit (.int .u8 0)),(.lit (.int .u8 0)),(.lit (.int .u8 0))]),Iw (.store 15 (.t 22) (.t 108))] [] []) (.seq (.reg [Iy 109 0,Ix 110 (.nilCheck (.t 109)),Ix 111 (.fieldA 1 (.t 110)),Ix 112 (.load false 1 (.t 111)),Iy 113 17,Ix 114 (.fieldA 0 (.t 22)),Iw (.store 1 (.t 114) (.t 112)),Ix 115 (.fieldA 1 (.t 22)),Iw (.store 1 (.t 115) (.t 113))] [] []) (.reg [Iy 116 16,Ix 117 (.load true 15 (.t 22)),Ix 118 (.mkSlice true 15 [(Ik 0),(Ik 0),(Ik 0),(Ik 0),If,If,(Ik 0),(.lit (.int .u8 0)),(.lit (.int .u8 0)),(.lit (.int .u8 0)),(.lit (.int .u8 0)),(.lit (.int .u8 0)),(.lit (.int .u8 0)),(.lit (.int .u8 0)),(.lit (.int .u8 0))] 1 [(0,(.t 117))]),Ix 119 (.append true 15 56 (.t 116) (.t 118)),Iy 16 119] [] [])))) (.reg [Ix 120 (.bin .add (.t 105) (.c (Ik 1))),Iy 105 120] [] []))))
def L42_1:ICode:=(.seq (.reg [Ix 75 (.bin .lss (.t 74) (.t 73))] [] []) (.seq (.cond (.t 75) .skip (.exit 2)) (.seq (.block 3 (.seq (.reg [Iy 76 74,Iy 17 76] [] []) (.seq (.seq (.reg [Iy 77 2,Iy 78 17,Ix 79 (.call 70 [(.t 77),(.t 78)])] [] []) (.cond (.t 79) (.exit 3) .skip)) (.seq (.reg [Ix 80 (.fieldA 1 (.t 15)),Ix 81 (.load false 1 (.t 80)),Iy 18 81] [] []) (.seq (.seq (.reg [Iy 82 1,Iy 83 17,Ix 84 (.call 70 [(.t 82),(.t 83)])] [] []) (.cond (.t 84) (.reg [Iy 85 18,Ix 86 (.bin .sub (.c (Ik 1)) (.t 85)),Iy 18 86] [] []) .skip)) (.seq (.reg [Iy 88 0,Ix 89 (.nilCheck (.t 88)),Ix 90 (.fieldA 0 (.t 89)),Ix 91 (.load false 1 (.t 90)),Iy 92 17,Ix 93 (.idxS 1 (.t 91) (.t 92)),Ix 94 (.load false 1 (.t 93)),Iy 95 18,Ix 96 (.call 71 [(.t 94),(.t 95)]),Iy 87 96,Ix 97 (.extract (.t 87) 0),Ix 98 (.extract (.t 87) 1),Iy 19 97,Iy 20 98] [] []) (.seq (.seq (.reg [Iy 99 20,Ix 100 (.bin .neq (.t 99) (.c (Ik 0)))] [] []) (.cond (.t 100) (.seq (.reg [Ix 101 (.build [(Ik 0),(Ik 0),(.lit (.int .u32 0))] []),Iy 102 20,Iw (.store 3 (.t 8) (.t 101)),Ix 9 (.copy (.c nilS)),Iy 10 102] [] []) .ret) .skip)) (.seq (.reg [Iy 103 19,Ix 104 (.len (.t 103)),Ix 105 (.copy (.c (Ik 0)))] [] []) (.block 4 (.loop [0,1,2,8,15,16,17,73,74,103,104,105] L42_2)))))))))) (.reg [Ix 121 (.bin .add (.t 74) (.c (Ik 1))),Iy 74 121] [] []))))
def ir42:IFn:=⟨(.seq (.reg [Ix 8 (.alloc [(Ik 0),(Ik 0),(.lit (.int .u32 0))]),Ix 9 (.copy (.c nilS)),Ix 10 (.copy (.c (Ik 0)))] [] []) (.seq (.seq (.reg [Iy 23 0,Ix 24 (.isNil false .ptr (.t 23))] [] []) (.cond (.t 24) (.seq (.reg [Ix 25 (.build [(Ik 0),(Ik 0),(.lit (.int .u32 0))] []),Iw (.store 3 (.t 8) (.t 25)),Ix 9 (.copy (.c nilS)),Ix 10 (.copy (.c (Ik 2)))] [] []) .ret) .skip)) (.seq (.seq (.reg [Iy 26 1,Iy 27 2,Ix 28 (.bin .or (.t 26) (.t 27)),Ix 29 (.toInt .u64 (.t 28)),Iy 30 0,Ix 31 (.nilCheck (.t 30)),Ix 32 (.fieldA 0 (.t 31)),Ix 33 (.load false 1 (.t 32)),Ix 34 (.len (.t 33)),Ix 35 (.bin .shr (.t 29) (.t 34)),Ix 36 (.bin .neq (.t 35) (.c (.lit (.int .u64 0))))] [] []) (.cond (.t 36) (.seq (.reg [Ix 37 (.build [(Ik 0),(Ik 0),(.lit (.int .u32 0))] []),Iw (.store 3 (.t 8) (.t 37)),Ix 9 (.copy (.c nilS)),Ix 10 (.copy (.c (Ik 10)))] [] []) .ret) .skip)) (.seq (.reg [Ix 11 (.copy (.c (.lit (.int .u32 4294967295))))] [] []) (.seq (.seq (.reg [Iy 38 0,Ix 39 (.nilCheck (.t 38)),Ix 40 (.fieldA 0 (.t 39)),Ix 41 (.load false 1 (.t 40)),Ix 42 (.len (.t 41)),Ix 43 (.copy (.c (Ik 0)))] [] []) (.block 0 (.loop [0,1,2,3,8,11,41,42,43] L42_0))) (.seq (.reg [Iy 64 11,Ix 65 (.build [(Ik 0),(Ik 0),(.lit (.int .u32 0))] [(0,1,(.c (Ik 1))),(1,1,(.c (Ik 1))),(2,1,(.t 64))]),Ix 15 (.alloc [(Ik 0),(Ik 0),(.lit (.int .u32 0))]),Iw (.store 3 (.t 15) (.t 65))] [] []) (.seq (.seq (.reg [Iy 66 11,Ix 67 (.bin .neq (.t 66) (.c (.lit (.int .u32 4294967295))))] [] []) (.cond (.t 67) (.reg [Ix 68 (.fieldA 1 (.t 15)),Iw (.store 1 (.t 68) (.c (Ik 0)))] [] []) .skip)) (.seq (.reg [Ix 16 (.copy (.c nilS))] [] []) (.seq (.seq (.reg [Iy 69 0,Ix 70 (.nilCheck (.t 69)),Ix 71 (.fieldA 0 (.t 70)),Ix 72 (.load false 1 (.t 71)),Ix 73 (.len (.t 72)),Ix 74 (.copy (.c (Ik 0)))] [] []) (.block 2 (.loop [0,1,2,8,15,16,73,74] L42_1))) (.seq (.reg [Iy 122 0,Ix 123 (.nilCheck (.t 122)),Ix 124 (.fieldA 1 (.t 123)),Ix 125 (.load false 1 (.t 124)),Ix 126 (.bin .add (.t 125) (.c (Ik 1))),Ix 127 (.nilCheck (.t 122)),Ix 128 (.fieldA 1 (.t 127)),Iw (.store 1 (.t 128) (.t 126))] [] []) (.seq (.reg [Ix 129 (.load true 3 (.t 15)),Iy 130 16,Iw (.store 3 (.t 8) (.t 129)),Iy 9 130,Ix 10 (.copy (.c (Ik 0)))] [] []) .ret))))))))))),[.cell 8 true 3,.tmp 9,.tmp 10]⟩
/- bus.Bus).look -/
def ir43:IFn:=⟨(.seq (.reg [Ix 4 (.copy (.c (Ik 0)))] [] []) (.seq (.block 0 (.seq (.reg [Iy 6 0,Ix 7 (.isNil false .ptr (.t 6)),Iy 5 7] [] []) (.cond (.t 5) (.seq (.reg [Ix 4 (.copy (.c (Ik 2)))] [] []) .ret) (.seq (.reg [Iy 9 1,Ix 10 (.bin .lss (.t 9) (.c (Ik 0))),Iy 11 10,Iv 11 false 12 (.copy (.t 1)),Iv 11 false 13 (.copy (.t 0)),Iv 11 false 14 (.nilCheck (.t 13)),Iv 11 false 15 (.fieldA 0 (.t 14)),Iv 11 false 16 (.load false 1 (.t 15)),Iv 11 false 17 (.len (.t 16)),Iv 11 false 18 (.bin .geq (.t 12) (.t 17)),Ix 19 (.pick (.t 11) (.c It) (.t 18)),Iy 8 19] [] []) (.cond (.t 8) (.seq (.reg [Ix 4 (.copy (.c (Ik 10)))] [] []) .ret) .skip))))) (.seq (.reg [Ix 4 (.copy (.c (Ik 0)))] [] []) .ret))),[.tmp 4]⟩
/- ctl.Node).Put -/
def ir45:IFn:=⟨(.seq (.reg [Ix 3 (.box 12 (.t 1)),Ix 4 (.copy (.c (Ik 0)))] [] []) (.seq (.seq (.reg [Iy 5 0,Ix 6 (.isNil false .ptr (.t 5))] [] []) (.cond (.t 6) (.seq (.reg [Ix 4 (.copy (.c (Ik 2)))] [] []) .ret) .skip)) (.seq (.reg [Iy 7 0,Ix 8 (.nilCheck (.t 7)),Ix 9 (.fieldA 3 (.t 8)),Ix 10 (.load false 1 (.t 9)),Ix 11 (.load true 12 (.t 3)),Ix 12 (.call 73 [(.t 10),(.t 11)]),Iy 4 12] [] []) .ret))),[.tmp 4]⟩
/- codec.Encode -/
def ir47:IFn:=⟨(.seq (.reg [Ix 2 (.box 12 (.t 0)),Ix 4 (.copy (.c nilS)),Ix 5 (.copy (.c (Ik 0)))] [] []) (.seq (.reg [Ix 11 (.load true 12 (.t 2)),Ix 12 (.call 51 [(.t 11)]),Iy 10 12,Ix 13 (.extract (.t 10) 0),Ix 14 (.extract (.t 10) 1),Iy 6 13,Iy 7 14] [] []) (.seq (.seq (.reg [Iy 15 7,Ix 16 (.bin .neq (.t 15) (.c (Ik 0)))] [] []) (.cond (.t 16) (.seq (.reg [Iy 17 7,Ix 4 (.copy (.c nilS)),Iy 5 17] [] []) .ret) .skip)) (.seq (.reg [Iy 18 6,Ix 19 (.len (.t 18)),Ix 20 (.bin .sub (.t 19) (.c (Ik 10))),Iy 8 20] [] []) (.seq (.reg [Iy 21 6,Iy 22 8,Ix 23 (.slice 1 (.t 21) none (some (.t 22)) none),Ix 24 (.call 76 [(.t 23)]),Iy 25 6,Iy 26 8,Ix 27 (.slice 1 (.t 25) (some (.t 26)) none none),Ix 28 (.append true 1 8 (.t 24) (.t 27)),Iy 9 28] [] []) (.seq (.seq (.reg [Iy 29 1] [] []) (.cond (.t 29) (.reg [Iy 30 9,Iy 31 9,Ix 32 (.len (.t 31)),Ix 33 (.bin .sub (.t 32) (.c (Ik 10))),Ix 34 (.bin .add (.t 33) (.c (Ik 1))),Ix 35 (.idxS 1 (.t 30) (.t 34)),Iw (.store 1 (.t 35) (.c (Ik 0)))] [] []) .skip)) (.seq (.reg [Iy 36 9,Iy 4 36,Ix 5 (.copy (.c (Ik 0)))] [] []) .ret))))))),[.tmp 4,.tmp 5]⟩
/- bus.join -/
def ir48:IFn:=⟨(.seq (.reg [Ix 3 (.box 3 (.t 1)),Ix 4 (.copy (.c nilS))] [] []) (.seq (.seq (.reg [Iy 6 0,Ix 7 (.len (.t 6)),Iy 5 7] [] []) (.seq (.reg [Iy 8 5,Ix 9 (.bin .gtr (.t 8) (.c (Ik 0))),Iy 10 9,Iv 10 true 11 (.copy (.t 0)),Iv 10 true 12 (.copy (.t 5)),Iv 10 true 13 (.bin .sub (.t 12) (.c (Ik 1))),Iv 10 true 14 (.idxS 3 (.t 11) (.t 13)),Iv 10 true 15 (.fieldA 1 (.t 14)),Iv 10 true 16 (.load false 1 (.t 15)),Iv 10 true 17 (.fieldA 1 (.t 3)),Iv 10 true 18 (.load false 1 (.t 17)),Iv 10 true 19 (.bin .eql (.t 16) (.t 18)),Ix 20 (.pick (.t 10) (.t 19) (.c If)),Iy 21 20,Iv 21 true 22 (.copy (.t 0)),Iv 21 true 23 (.copy (.t 5)),Iv 21 true 24 (.bin .sub (.t 23) (.c (Ik 1))),Iv 21 true 25 (.idxS 3 (.t 22) (.t 24)),Iv 21 true 26 (.fieldA 2 (.t 25)),Iv 21 true 27 (.load false 1 (.t 26)),Iv 21 true 28 (.fieldA 2 (.t 3)),Iv 21 true 29 (.load false 1 (.t 28)),Iv 21 true 30 (.bin .eql (.t 27) (.t 29)),Ix 31 (.pick (.t 21) (.t 30) (.c If))] [] []) (.cond (.t 31) (.seq (.reg [Iy 32 0,Iy 33 5,Ix 34 (.bin .sub (.t 33) (.c (Ik 1))),Ix 35 (.idxS 3 (.t 32) (.t 34)),Ix 36 (.fieldA 0 (.t 35)),Ix 37 (.load false 1 (.t 36)),Ix 38 (.fieldA 0 (.t 3)),Ix 39 (.load false 1 (.t 38)),Ix 40 (.bin .add (.t 37) (.t 39)),Ix 41 (.idxS 3 (.t 32) (.t 34)),Ix 42 (.fieldA 0 (.t 41)),Iw (.store 1 (.t 42) (.t 40))] [] []) (.seq (.reg [Iy 43 0,Iy 4 43] [] []) .ret)) .skip))) (.seq (.reg [Iy 44 0,Ix 45 (.load true 3 (.t 3)),Ix 46 (.mkSlice true 3 [(Ik 0),(Ik 0),(.lit (.int .u32 0))] 1 [(0,(.t 45))]),Ix 47 (.append true 3 24 (.t 44) (.t 46)),Iy 4 47] [] []) .ret))),[.tmp 4]⟩
/- ctl.New -/
def ir49:IFn:=⟨(.seq (.reg [Ix 0 (.copy (.c (.lit (.pointer none))))] [] []) (.seq (.reg [Ix 4 (.call 77 [(.c (Ik 16))]),Iy 3 4,Ix 5 (.extract (.t 3) 0),Ix 6 (.extract (.t 3) 1),Iy 1 5,Iy 2 6] [] []) (.seq (.reg [Iy 7 1,Ix 8 (.build [nilS,(Ik 0),(Ik 0),(.lit (.pointer none)),(Ik 0),(Ik 0),(Ik 0),If,If,If,If,(Ik 0),(Ik 0),If,(Ik 0),If,If,(Ik 0),(.lit (.int .u8 0)),(.lit (.int .u8 0)),(.lit (.int .u8 0)),(.lit (.int .u8 0)),(.lit (.int .u8 0)),(.lit (.int .u8 0)),(.lit (.int .u8 0)),(.lit (.int .u8 0)),nilS] [(3,1,(.t 7))]),Ix 9 (.box 27 (.t 8)),Iy 0 9] [] []) .ret))),[.tmp 0]⟩
/- field.All -/
def ir51:IFn:=⟨(.seq (.reg [Ix 1 (.box 12 (.t 0)),Ix 2 (.copy (.c nilS)),Ix 3 (.copy (.c (Ik 0)))] [] []) (.seq (.reg [Ix 9 (.load true 12 (.t 1)),Ix 10 (.call 78 [(.t 9)]),Iy 8 10,Ix 11 (.extract (.t 8) 0),Ix 12 (.extract (.t 8) 1),Iy 4 11,Iy 5 12] [] []) (.seq (.seq (.reg [Iy 13 5,Ix 14 (.bin .neq (.t 13) (.c (Ik 0)))] [] []) (.cond (.t 14) (.seq (.reg [Iy 15 5,Ix 2 (.copy (.c nilS)),Iy 3 15] [] []) .ret) .skip)) (.seq (.reg [Iy 17 4,Ix 18 (.call 79 [(.t 17)]),Iy 16 18,Ix 19 (.extract (.t 16) 0),Ix 20 (.extract (.t 16) 1),Iy 6 19,Iy 5 20] [] []) (.seq (.seq (.reg [Iy 21 5,Ix 22 (.bin .neq (.t 21) (.c (Ik 0)))] [] []) (.cond (.t 22) (.seq (.reg [Iy 23 5,Ix 2 (.copy (.c nilS)),Iy 3 23] [] []) .ret) .skip)) (.seq (.reg [Iy 25 6,Ix 26 (.call 80 [(.t 25)]),Iy 24 26,Ix 27 (.extract (.t 24) 0),Ix 28 (.extract (.t 24) 1),Iy 7 27,Iy 5 28] [] []) (.seq (.seq (.reg [Iy 29 5,Ix 30 (.bin .neq (.t 29) (.c (Ik 0)))] [] []) (.cond (.t 30) (.seq (.reg [Iy 31 5,Ix 2 (.copy (.c nilS)),Iy 3 31] [] []) .ret) .skip)) (.seq (.reg [Iy 32 4,Iy 33 7,Ix 34 (.mkSlice true 1 [(Ik 0)] 1 [(0,(.c (Ik 1)))]),Ix 35 (.call 82 [(.t 34),(.c (Ik 10))]),Ix 36 (.mkSlice true 1 [nilS] 3 [(0,(.t 32)),(1,(.t 33)),(2,(.t 35))]),Ix 37 (.call 81 [(.t 36)]),Iy 2 37,Ix 3 (.copy (.c (Ik 0)))] [] []) .ret)))))))),[.tmp 2,.tmp 3]⟩
/- slices.Max[[]byte,byte] -/
def L53_0:ICode:=(.seq (.seq (.reg [Iy 12 4,Iy 13 0,Ix 14 (.len (.t 13)),Ix 15 (.bin .lss (.t 12) (.t 14))] [] []) (.cond (.t 15) .skip (.exit 0))) (.seq (.block 1 (.reg [Iy 18 3,Iy 19 0,Iy 20 4,Ix 21 (.idxS 1 (.t 19) (.t 20)),Ix 22 (.load false 1 (.t 21)),Ix 23 (.maxI (.t 18) [(.t 22)]),Iy 3 23] [] [])) (.reg [Iy 16 4,Ix 17 (.bin .add (.t 16) (.c (Ik 1))),Iy 4 17] [] [])))
def ir53:IFn:=⟨(.seq (.reg [Ix 2 (.copy (.c (.lit (.int .u8 0))))] [] []) (.seq (.seq (.reg [Iy 5 0,Ix 6 (.len (.t 5)),Ix 7 (.bin .lss (.t 6) (.c (Ik 1)))] [] []) (.cond (.t 7) (.reg [⟨none,some 8,.mkIface 9 (.c (.lit (.string ⟨#[115,108,105,99,101,115,46,77,97,120,58,32,101,109,112,116,121,32,108,105,115,116]⟩)))⟩,Iw (.fail)] [] []) .skip)) (.seq (.reg [Iy 9 0,Ix 10 (.idxS 1 (.t 9) (.c (Ik 0))),Ix 11 (.load false 1 (.t 10)),Iy 3 11] [] []) (.seq (.seq (.reg [Ix 4 (.copy (.c (Ik 1)))] [] []) (.block 0 (.loop [0,3,4] L53_0))) (.seq (.reg [Iy 24 3,Iy 2 24] [] []) .ret))))),[.tmp 2]⟩
/- frame.compare -/
def ir54:IFn:=⟨(.seq (.reg [Ix 2 (.box 12 (.t 0)),Ix 3 (.box 12 (.t 1)),Ix 4 (.copy (.c (Ik 0))),Ix 5 (.copy (.c If))] [] []) (.seq (.reg [Ix 11 (.load true 12 (.t 2)),Ix 12 (.call 83 [(.t 11)]),Iy 10 12,Ix 13 (.extract (.t 10) 0),Ix 14 (.extract (.t 10) 1),Iy 6 13,Iy 7 14] [] []) (.seq (.reg [Ix 16 (.load true 12 (.t 3)),Ix 17 (.call 83 [(.t 16)]),Iy 15 17,Ix 18 (.extract (.t 15) 0),Ix 19 (.extract (.t 15) 1),Iy 8 18,Iy 9 19] [] []) (.seq (.reg [Iy 20 6,Iy 21 8,Ix 22 (.call 84 [(.t 20),(.t 21)]),Iy 23 7,Ix 24 (.bin .eql (.t 23) (.c (Ik 0))),Iy 25 24,Iv 25 true 26 (.copy (.t 9)),Iv 25 true 27 (.bin .eql (.t 26) (.c (Ik 0))),Ix 28 (.pick (.t 25) (.t 27) (.c If)),Iy 4 22,Iy 5 28] [] []) .ret)))),[.tmp 4,.tmp 5]⟩
/- field.Frame -/
def L57_0:ICode:=(.seq (.reg [Ix 63 (.bin .lss (.t 62) (.t 61))] [] []) (.seq (.cond (.t 63) .skip (.exit 1)) (.seq (.block 2 (.seq (.reg [Iy 64 62,Iy 9 64] [] []) (.reg [Iy 65 9,Iy 66 0,Ix 67 (.fieldA 3 (.t 6)),Ix 68 (.load false 1 (.t 67)),Iy 69 9,Ix 70 (.bin .mul (.c (Ik 8)) (.t 69)),Ix 71 (.bin .add (.t 68) (.t 70)),Ix 72 (.fieldA 3 (.t 6)),Ix 73 (.load false 1 (.t 72)),Iy 74 9,Ix 75 (.bin .add (.t 74) (.c (Ik 1))),Ix 76 (.bin .mul (.c (Ik 8)) (.t 75)),Ix 77 (.bin .add (.t 73) (.t 76)),Ix 78 (.slice 1 (.t 66) (some (.t 71)) (some (.t 77)) none),Ix 79 (.call 89 [(.t 78)]),Ix 80 (.toInt .u8 (.t 79)),Ix 81 (.fieldA 4 (.t 8)),Ix 82 (.idxA 8 1 (.t 81) (.t 65)),Iw (.store 1 (.t 82) (.t 80))] [] []))) (.reg [Ix 83 (.bin .add (.t 62) (.c (Ik 1))),Iy 62 83] [] []))))
def ir57:IFn:=⟨(.seq (.reg [Ix 2 (.alloc [(Ik 0),If,If,(Ik 0),(.lit (.int .u8 0)),(.lit (.int .u8 0)),(.lit (.int .u8 0)),(.lit (.int .u8 0)),(.lit (.int .u8 0)),(.lit (.int .u8 0)),(.lit (.int .u8 0)),(.lit (.int .u8 0))]),Ix 3 (.copy (.c (Ik 0)))] [] []) (.seq (.reg [Iy 11 0,Ix 12 (.call 87 [(.t 11)]),Iy 10 12,Ix 13 (.extract (.t 10) 0),Ix 14 (.extract (.t 10) 1),Iy 4 13,Iy 5 14] [] []) (.seq (.block 0 (.seq (.reg [Iy 16 5,Ix 17 (.bin .neq (.t 16) (.c (Ik 0))),Iy 15 17] [] []) (.cond (.t 15) (.seq (.reg [Ix 18 (.build [(Ik 0),If,If,(Ik 0),(.lit (.int .u8 0)),(.lit (.int .u8 0)),(.lit (.int .u8 0)),(.lit (.int .u8 0)),(.lit (.int .u8 0)),(.lit (.int .u8 0)),(.lit (.int .u8 0)),(.lit (.int .u8 0))] []),Iy 19 5,Iw (.store 12 (.t 2) (.t 18)),Iy 3 19] [] []) .ret) (.seq (.reg [Iy 21 0,Ix 22 (.len (.t 21)),Iy 23 4,Ix 24 (.bin .lss (.t 22) (.t 23)),Iy 20 24] [] []) (.cond (.t 20) (.seq (.reg [Ix 25 (.build [(Ik 0),If,If,(Ik 0),(.lit (.int .u8 0)),(.lit (.int .u8 0)),(.lit (.int .u8 0)),(.lit (.int .u8 0)),(.lit (.int .u8 0)),(.lit (.int .u8 0)),(.lit (.int .u8 0)),(.lit (.int .u8 0))] []),Iw (.store 12 (.t 2) (.t 25)),Ix 3 (.copy (.c (Ik 13)))] [] []) .ret) (.seq (.reg [Iy 27 0,Ix 28 (.idxS 1 (.t 27) (.c (Ik 0))),Ix 29 (.load false 1 (.t 28)),Ix 30 (.bin .neq (.t 29) (.c (Ik 0))),Iy 26 30] [] []) (.cond (.t 26) (.seq (.reg [Ix 31 (.build [(Ik 0),If,If,(Ik 0),(.lit (.int .u8 0)),(.lit (.int .u8 0)),(.lit (.int .u8 0)),(.lit (.int .u8 0)),(.lit (.int .u8 0)),(.lit (.int .u8 0)),(.lit (.int .u8 0)),(.lit (.int .u8 0))] []),Iw (.store 12 (.t 2) (.t 31)),Ix 3 (.copy (.c (Ik 11)))] [] []) .ret) .skip))))))) (.seq (.reg [Iy 33 0,Ix 34 (.call 88 [(.t 33)]),Iy 32 34,Ix 35 (.extract (.t 32) 0),Ix 36 (.extract (.t 32) 1),Ix 6 (.alloc [If,If,(Ik 0),(Ik 0),(Ik 0)]),Iw (.store 5 (.t 6) (.t 35)),Iy 7 36] [] []) (.seq (.reg [Iy 37 0,Ix 38 (.slice 1 (.t 37) (some (.c (Ik 1))) (some (.c (Ik 12))) none),Ix 39 (.call 89 [(.t 38)]),Ix 40 (.fieldA 0 (.t 6)),Ix 41 (.load false 1 (.t 40)),Ix 42 (.fieldA 1 (.t 6)),Ix 43 (.load false 1 (.t 42)),Ix 44 (.fieldA 4 (.t 6)),Ix 45 (.load false 1 (.t 44)),Ix 46 (.build [(Ik 0),If,If,(Ik 0),(.lit (.int .u8 0)),(.lit (.int .u8 0)),(.lit (.int .u8 0)),(.lit (.int .u8 0)),(.lit (.int .u8 0)),(.lit (.int .u8 0)),(.lit (.int .u8 0)),(.lit (.int .u8 0))] [(0,1,(.t 39)),(1,1,(.t 41)),(2,1,(.t 43)),(3,1,(.t 45))]),Ix 8 (.alloc [(Ik 0),If,If,(Ik 0),(.lit (.int .u8 0)),(.lit (.int .u8 0)),(.lit (.int .u8 0)),(.lit (.int .u8 0)),(.lit (.int .u8 0)),(.lit (.int .u8 0)),(.lit (.int .u8 0)),(.lit (.int .u8 0))]),Iw (.store 12 (.t 8) (.t 46))] [(4,2),(4,10),(6,2),(6,10),(8,2),(8,10)] []) (.seq (.seq (.reg [Ix 47 (.fieldA 0 (.t 6)),Ix 48 (.load false 1 (.t 47))] [] []) (.cond (.t 48) (.reg [Ix 49 (.fieldA 0 (.t 8)),Ix 50 (.load false 1 (.t 49)),Ix 51 (.bin .shl (.t 50) (.c (.lit (.int .u64 18)))),Iy 52 0,Ix 53 (.slice 1 (.t 52) (some (.c (Ik 14))) (some (.c (Ik 32))) none),Ix 54 (.call 89 [(.t 53)]),Ix 55 (.bin .or (.t 51) (.t 54)),Ix 56 (.fieldA 0 (.t 8)),Iw (.store 1 (.t 56) (.t 55))] [(1,5)] []) .skip)) (.seq (.seq (.reg [Iy 57 4,Ix 58 (.fieldA 3 (.t 6)),Ix 59 (.load false 1 (.t 58)),Ix 60 (.bin .sub (.t 57) (.t 59)),Ix 61 (.bin .quo (.t 60) (.c (Ik 8))),Ix 62 (.copy (.c (Ik 0)))] [] []) (.block 1 (.loop [0,2,6,8,61,62] L57_0))) (.seq (.reg [Ix 84 (.load true 12 (.t 8)),Iw (.store 12 (.t 2) (.t 84)),Ix 3 (.copy (.c (Ik 0)))] [] []) .ret)))))))),[.cell 2 true 12,.tmp 3]⟩
/- tap.levels -/
def A58_0:ICode:=(.reg [Ix 10 (.alloc [(Ik 0),(Ik 0),(.lit (.int .u32 0))]),Iw (.store 3 (.t 10) (.t 28))] [] [])
def B58_0:ICode:=(.block 2 (.reg [Ix 29 (.load false 1 (.t 8)),Ix 30 (.load false 1 (.t 3)),Ix 31 (.load true 3 (.t 10)),Ix 32 (.callV (.t 30) [(.t 31)]),Ix 33 (.mkSlice true 1 [(Ik 0)] 1 [(0,(.t 32))]),Ix 34 (.append true 1 8 (.t 29) (.t 33)),Iw (.store 1 (.t 8) (.t 34))] [(0,3),(0,4)] []))
def ir58:IFn:=⟨(.seq (.reg [Ix 3 (.box 1 (.t 1)),Ix 4 (.copy (.c nilS)),Ix 5 (.copy (.c (Ik 0)))] [] []) (.seq (.reg [Iy 12 0,Ix 13 (.call 67 [(.t 12)]),Iy 11 13,Ix 14 (.extract (.t 11) 0),Ix 15 (.extract (.t 11) 1),Iy 6 14,Iy 7 15] [] []) (.seq (.block 0 (.seq (.reg [Iy 17 7,Ix 18 (.bin .neq (.t 17) (.c (Ik 0))),Iy 16 18] [] []) (.cond (.t 16) (.seq (.reg [Iy 19 7,Ix 4 (.copy (.c nilS)),Iy 5 19] [] []) .ret) (.seq (.reg [Iy 21 6,Ix 22 (.bin .gtr (.t 21) (.c (Ik 1048576))),Iy 20 22] [] []) (.cond (.t 20) (.seq (.reg [Ix 4 (.copy (.c nilS)),Ix 5 (.copy (.c (Ik 12)))] [] []) .ret) .skip))))) (.seq (.reg [Iy 23 6,Ix 24 (.make true 1 8 [(Ik 0)] (.c (Ik 0)) (.t 23)),Ix 8 (.alloc [nilS]),Iw (.store 1 (.t 8) (.t 24))] [] []) (.seq (.seq (.reg [Iy 25 0,Ix 26 (.call 90 [(.t 25)])] [] []) (.block 1 (.range (.t 26) [3,8] [27,28] A58_0 B58_0))) (.seq (.reg [Ix 35 (.load false 1 (.t 8)),Iy 4 35,Ix 5 (.copy (.c (Ik 0)))] [] []) .ret)))))),[.tmp 4,.tmp 5]⟩
/- drive.Frame -/
def ir60:IFn:=⟨(.seq (.reg [Ix 5 (.box 12 (.t 2)),Ix 6 (.alloc [(Ik 0),(Ik 0),nilS]),Ix 7 (.copy (.c (Ik 0)))] [] []) (.seq (.seq (.reg [Iy 10 0,Iy 11 1,Ix 12 (.call 91 [(.t 10),(.t 11)]),Ix 13 (.un .not (.t 12))] [] []) (.cond (.t 13) (.seq (.reg [Ix 14 (.build [(Ik 0),(Ik 0),nilS] []),Iw (.store 3 (.t 6) (.t 14)),Ix 7 (.copy (.c (Ik 10)))] [] []) .ret) .skip)) (.seq (.reg [Ix 16 (.load true 12 (.t 5)),Ix 17 (.call 47 [(.t 16),(.c If)]),Iy 15 17,Ix 18 (.extract (.t 15) 0),Ix 19 (.extract (.t 15) 1),Iy 8 18,Iy 9 19] [] []) (.seq (.seq (.reg [Iy 20 9,Ix 21 (.bin .neq (.t 20) (.c (Ik 0)))] [] []) (.cond (.t 21) (.seq (.reg [Ix 22 (.build [(Ik 0),(Ik 0),nilS] []),Iy 23 9,Iw (.store 3 (.t 6) (.t 22)),Iy 7 23] [] []) .ret) .skip)) (.seq (.reg [Iy 24 0,Iy 25 1,Iy 26 8,Ix 27 (.call 64 [(.t 26)]),Ix 28 (.build [(Ik 0),(Ik 0),nilS] [(0,1,(.t 24)),(1,1,(.t 25)),(2,1,(.t 27))]),Iw (.store 3 (.t 6) (.t 28)),Ix 7 (.copy (.c (Ik 0)))] [] []) .ret))))),[.cell 6 true 3,.tmp 7]⟩
/- magnetolaw22.same -/
def ir61:IFn:=⟨(.seq (.reg [Ix 2 (.box 3 (.t 0)),Ix 3 (.box 3 (.t 1)),Ix 4 (.copy (.c If))] [] []) (.seq (.reg [Ix 5 (.fieldA 0 (.t 2)),Ix 6 (.load false 1 (.t 5)),Ix 7 (.fieldA 0 (.t 3)),Ix 8 (.load false 1 (.t 7)),Ix 9 (.bin .eql (.t 6) (.t 8)),Iy 10 9,Iv 10 true 11 (.fieldA 1 (.t 2)),Iv 10 true 12 (.load false 1 (.t 11)),Iv 10 true 13 (.fieldA 1 (.t 3)),Iv 10 true 14 (.load false 1 (.t 13)),Iv 10 true 15 (.bin .eql (.t 12) (.t 14)),Ix 16 (.pick (.t 10) (.t 15) (.c If)),Iy 17 16,Iv 17 true 18 (.fieldA 2 (.t 2)),Iv 17 true 19 (.load false 1 (.t 18)),Iv 17 true 20 (.fieldA 2 (.t 3)),Iv 17 true 21 (.load false 1 (.t 20)),Iv 17 true 22 (.call 19 [(.t 19),(.t 21)]),Ix 23 (.pick (.t 17) (.t 22) (.c If)),Iy 4 23] [] []) .ret)),[.tmp 4]⟩
/- tap.Node -/
def ir62:IFn:=⟨(.seq (.reg [Ix 3 (.box 1 (.t 1)),Ix 4 (.copy (.c nilS)),Ix 5 (.copy (.c (Ik 0)))] [] []) (.seq (.seq (.reg [Iy 7 0,Ix 8 (.call 92 [(.t 7)]),Iy 6 8] [] []) (.seq (.reg [Iy 9 6,Ix 10 (.bin .neq (.t 9) (.c (Ik 0)))] [] []) (.cond (.t 10) (.seq (.reg [Iy 11 6,Ix 4 (.copy (.c nilS)),Iy 5 11] [] []) .ret) .skip))) (.seq (.seq (.reg [Ix 12 (.load false 1 (.t 3)),Ix 13 (.bin .lss (.t 12) (.c (Ik 0))),Iy 14 13,Iv 14 false 15 (.load false 1 (.t 3)),Iv 14 false 16 (.bin .geq (.t 15) (.c (Ik 32))),Ix 17 (.pick (.t 14) (.c It) (.t 16))] [] []) (.cond (.t 17) (.seq (.reg [Ix 4 (.copy (.c nilS)),Ix 5 (.copy (.c (Ik 10)))] [] []) .ret) .skip)) (.seq (.reg [Iy 18 0,Ix 19 (.mkFunc (.func 93) [] [(.t 3)]),Ix 20 (.call 58 [(.t 18),(.t 19)]),Ix 21 (.extract (.t 20) 0),Ix 22 (.extract (.t 20) 1),Iy 4 21,Iy 5 22] [] []) .ret)))),[.tmp 4,.tmp 5]⟩
/- drive.fits -/
def ir63:IFn:=⟨(.seq (.reg [Ix 6 (.copy (.c If))] [] []) (.seq (.reg [Iy 7 0,Iy 8 1,Ix 9 (.bin .geq (.t 7) (.t 8)),Iy 10 9,Iv 10 true 11 (.copy (.t 0)),Iv 10 true 12 (.copy (.t 2)),Iv 10 true 13 (.bin .leq (.t 11) (.t 12)),Ix 14 (.pick (.t 10) (.t 13) (.c If)),Iy 6 14] [] []) .ret)),[.tmp 6]⟩
/- drive.rows -/
def L64_0:ICode:=(.seq (.reg [Ix 10 (.bin .lss (.t 9) (.t 8))] [] []) (.seq (.cond (.t 10) .skip (.exit 0)) (.seq (.block 1 (.seq (.reg [Ix 11 (.idxS 1 (.t 7) (.t 9)),Ix 12 (.load false 1 (.t 11)),Iy 5 12] [] []) (.seq (.seq (.reg [Iy 13 3,Ix 14 (.len (.t 13)),Iy 6 14] [] []) (.seq (.reg [Iy 15 6,Ix 16 (.bin .gtr (.t 15) (.c (Ik 0))),Iy 17 16,Iv 17 true 18 (.copy (.t 3)),Iv 17 true 19 (.copy (.t 6)),Iv 17 true 20 (.bin .sub (.t 19) (.c (Ik 1))),Iv 17 true 21 (.idxS 3 (.t 18) (.t 20)),Iv 17 true 22 (.fieldA 1 (.t 21)),Iv 17 true 23 (.load false 1 (.t 22)),Iv 17 true 24 (.copy (.t 5)),Iv 17 true 25 (.bin .eql (.t 23) (.t 24)),Ix 26 (.pick (.t 17) (.t 25) (.c If))] [] []) (.cond (.t 26) (.seq (.reg [Iy 27 3,Iy 28 6,Ix 29 (.bin .sub (.t 28) (.c (Ik 1))),Ix 30 (.idxS 3 (.t 27) (.t 29)),Ix 31 (.fieldA 0 (.t 30)),Ix 32 (.load false 1 (.t 31)),Ix 33 (.bin .add (.t 32) (.c (Ik 1))),Ix 34 (.idxS 3 (.t 27) (.t 29)),Ix 35 (.fieldA 0 (.t 34)),Iw (.store 1 (.t 35) (.t 33))] [] []) (.exit 1)) .skip))) (.reg [Iy 36 3,Iy 37 5,Ix 38 (.build [(Ik 0),(Ik 0),(.lit (.int .u32 0))] [(0,1,(.c (Ik 1))),(1,1,(.t 37))]),Ix 39 (.mkSlice true 3 [(Ik 0),(Ik 0),(.lit (.int .u32 0))] 1 [(0,(.t 38))]),Ix 40 (.append true 3 24 (.t 36) (.t 39)),Iy 3 40] [] [])))) (.reg [Ix 41 (.bin .add (.t 9) (.c (Ik 1))),Iy 9 41] [] []))))
def ir64:IFn:=⟨(.seq (.reg [Ix 2 (.copy (.c nilS))] [] []) (.seq (.reg [Ix 3 (.copy (.c nilS))] [] []) (.seq (.seq (.reg [Iy 7 0,Ix 8 (.len (.t 7)),Ix 9 (.copy (.c (Ik 0)))] [] []) (.block 0 (.loop [3,7,8,9] L64_0))) (.seq (.reg [Iy 42 3,Iy 2 42] [] []) .ret)))),[.tmp 2]⟩
/- drive.Check -/
def L65_0:ICode:=(.seq (.reg [Ix 23 (.bin .lss (.t 22) (.t 21))] [] []) (.seq (.cond (.t 23) .skip (.exit 0)) (.seq (.block 1 (.seq (.reg [Ix 24 (.idxS 3 (.t 20) (.t 22)),Ix 25 (.load true 3 (.t 24)),Ix 6 (.alloc [(Ik 0),(Ik 0),(.lit (.int .u32 0))]),Iw (.store 3 (.t 6) (.t 25))] [] []) (.seq (.seq (.reg [Ix 26 (.fieldA 0 (.t 6)),Ix 27 (.load false 1 (.t 26)),Iy 28 4,Ix 29 (.bin .gtr (.t 27) (.t 28))] [] []) (.cond (.t 29) (.seq (.reg [Ix 2 (.copy (.c (Ik 12)))] [] []) .ret) .skip)) (.reg [Iy 30 4,Ix 31 (.fieldA 0 (.t 6)),Ix 32 (.load false 1 (.t 31)),Ix 33 (.bin .sub (.t 30) (.t 32)),Iy 4 33] [] [])))) (.reg [Ix 34 (.bin .add (.t 22) (.c (Ik 1))),Iy 22 34] [] []))))
def ir65:IFn:=⟨(.seq (.reg [Ix 1 (.box 3 (.t 0)),Ix 2 (.copy (.c (Ik 0)))] [] []) (.seq (.reg [Ix 3 (.copy (.c (.func (.func 94) [] [])))] [] []) (.seq (.seq (.reg [Ix 7 (.fieldA 0 (.t 1)),Ix 8 (.load false 1 (.t 7)),Ix 9 (.fieldA 1 (.t 1)),Ix 10 (.load false 1 (.t 9)),Ix 11 (.call 91 [(.t 8),(.t 10)]),Ix 12 (.un .not (.t 11)),Iy 13 12,Iv 13 false 14 (.fieldA 2 (.t 1)),Iv 13 false 15 (.load false 1 (.t 14)),Iv 13 false 16 (.copy (.t 3)),Iv 13 false 17 (.call 95 [(.t 15),(.t 16)]),Ix 18 (.pick (.t 13) (.c It) (.t 17))] [] []) (.cond (.t 18) (.seq (.reg [Ix 2 (.copy (.c (Ik 10)))] [] []) .ret) .skip)) (.seq (.reg [Ix 4 (.copy (.c (Ik 1073741824)))] [] []) (.seq (.seq (.reg [Ix 19 (.fieldA 2 (.t 1)),Ix 20 (.load false 1 (.t 19)),Ix 21 (.len (.t 20)),Ix 22 (.copy (.c (Ik 0)))] [] []) (.block 0 (.loop [4,20,21,22] L65_0))) (.seq (.reg [Ix 2 (.copy (.c (Ik 0)))] [] []) .ret)))))),[.tmp 2]⟩
/- drive.level -/
def ir66:IFn:=⟨(.seq (.reg [Ix 3 (.box 3 (.t 0)),Ix 6 (.copy (.c (Ik 0)))] [] []) (.seq (.reg [Iy 7 2,Ix 8 (.load true 3 (.t 3)),Iy 9 1,Ix 10 (.callV (.t 7) [(.t 8),(.t 9)]),Iy 6 10] [] []) .ret)),[.tmp 6]⟩
/- tap.Ticks -/
def L67_0:ICode:=(.seq (.reg [Ix 10 (.bin .lss (.t 9) (.t 8))] [] []) (.seq (.cond (.t 10) .skip (.exit 0)) (.seq (.block 1 (.seq (.reg [Ix 11 (.idxS 3 (.t 7) (.t 9)),Ix 12 (.load true 3 (.t 11)),Ix 6 (.alloc [(Ik 0),(Ik 0),(.lit (.int .u32 0))]),Iw (.store 3 (.t 6) (.t 12))] [] []) (.seq (.seq (.reg [Ix 13 (.load true 3 (.t 6)),Ix 14 (.call 96 [(.t 13)]),Ix 15 (.un .not (.t 14))] [] []) (.cond (.t 15) (.seq (.reg [Ix 2 (.copy (.c (Ik 0))),Ix 3 (.copy (.c (Ik 10)))] [] []) .ret) .skip)) (.reg [Iy 16 4,Ix 17 (.fieldA 0 (.t 6)),Ix 18 (.load false 1 (.t 17)),Ix 19 (.bin .add (.t 16) (.t 18)),Ix 20 (.minI (.t 19) [(.c (Ik 1073741825))]),Iy 4 20] [] [])))) (.reg [Ix 21 (.bin .add (.t 9) (.c (Ik 1))),Iy 9 21] [] []))))
def ir67:IFn:=⟨(.seq (.reg [Ix 2 (.copy (.c (Ik 0))),Ix 3 (.copy (.c (Ik 0)))] [] []) (.seq (.reg [Ix 4 (.copy (.c (Ik 0)))] [] []) (.seq (.seq (.reg [Iy 7 0,Ix 8 (.len (.t 7)),Ix 9 (.copy (.c (Ik 0)))] [] []) (.block 0 (.loop [4,7,8,9] L67_0))) (.seq (.seq (.reg [Iy 22 4,Ix 23 (.bin .gtr (.t 22) (.c (Ik 1073741824)))] [] []) (.cond (.t 23) (.seq (.reg [Ix 2 (.copy (.c (Ik 0))),Ix 3 (.copy (.c (Ik 12)))] [] []) .ret) .skip)) (.seq (.reg [Iy 24 4,Iy 2 24,Ix 3 (.copy (.c (Ik 0)))] [] []) .ret))))),[.tmp 2,.tmp 3]⟩
/- tap.between -/
def L68_0:ICode:=(.seq (.reg [Ix 17 (.bin .lss (.t 16) (.t 15))] [] []) (.seq (.cond (.t 17) .skip (.exit 0)) (.seq (.block 1 (.seq (.reg [Ix 18 (.idxS 3 (.t 14) (.t 16)),Ix 19 (.load true 3 (.t 18)),Ix 11 (.alloc [(Ik 0),(Ik 0),(.lit (.int .u32 0))]),Iw (.store 3 (.t 11) (.t 19))] [] []) (.seq (.seq (.reg [Iy 20 9,Ix 21 (.fieldA 0 (.t 11)),Ix 22 (.load false 1 (.t 21)),Ix 23 (.callV (.t 20) [(.t 22)]),Iy 12 23] [] []) (.seq (.reg [Iy 24 12,Ix 25 (.bin .gtr (.t 24) (.c (Ik 0)))] [] []) (.cond (.t 25) (.reg [Iy 26 7,Iy 27 12,Ix 28 (.fieldA 1 (.t 11)),Ix 29 (.load false 1 (.t 28)),Ix 30 (.fieldA 2 (.t 11)),Ix 31 (.load false 1 (.t 30)),Ix 32 (.build [(Ik 0),(Ik 0),(.lit (.int .u32 0))] [(0,1,(.t 27)),(1,1,(.t 29)),(2,1,(.t 31))]),Ix 33 (.mkSlice true 3 [(Ik 0),(Ik 0),(.lit (.int .u32 0))] 1 [(0,(.t 32))]),Ix 34 (.append true 3 24 (.t 26) (.t 33)),Iy 7 34] [] []) .skip))) (.reg [Ix 35 (.load false 1 (.t 8)),Ix 36 (.fieldA 0 (.t 11)),Ix 37 (.load false 1 (.t 36)),Ix 38 (.bin .add (.t 35) (.t 37)),Iw (.store 1 (.t 8) (.t 38))] [] [])))) (.reg [Ix 39 (.bin .add (.t 16) (.c (Ik 1))),Iy 16 39] [] []))))
def ir68:IFn:=⟨(.seq (.reg [Ix 4 (.box 1 (.t 1)),Ix 5 (.box 1 (.t 2)),Ix 6 (.copy (.c nilS))] [] []) (.seq (.reg [Ix 7 (.copy (.c nilS))] [] []) (.seq (.reg [Ix 8 (.alloc [(Ik 0)]),Iw (.store 1 (.t 8) (.c (Ik 0)))] [] []) (.seq (.reg [Ix 13 (.mkFunc (.func 97) [] [(.t 8),(.t 5),(.t 4)]),Iy 9 13] [] []) (.seq (.seq (.reg [Iy 14 0,Ix 15 (.len (.t 14)),Ix 16 (.copy (.c (Ik 0)))] [] []) (.block 0 (.loop [7,8,9,14,15,16] L68_0))) (.seq (.reg [Iy 40 7,Iy 6 40] [] []) .ret)))))),[.tmp 6]⟩
/- ctl.Node).Drive -/
def ir69:IFn:=⟨(.seq (.reg [Ix 2 (.copy (.c (Ik 0)))] [] []) (.seq (.seq (.reg [Iy 4 0,Ix 5 (.isNil false .ptr (.t 4))] [] []) (.cond (.t 5) (.seq (.reg [Ix 2 (.copy (.c (Ik 1)))] [] []) .ret) .skip)) (.seq (.reg [Ix 3 (.copy (.c If))] [] []) (.seq (.seq (.reg [Iy 6 0,Ix 7 (.nilCheck (.t 6)),Ix 8 (.fieldA 4 (.t 7)),Ix 9 (.load false 1 (.t 8))] [] []) (.block 0 (.seq (.reg [Ix 11 (.bin .eql (.t 9) (.c (Ik 1))),Iy 10 11] [] []) (.cond (.t 10) (.reg [Iy 12 0,Ix 13 (.call 98 [(.t 12)]),Iy 3 13] [] []) (.seq (.seq (.reg [Ix 15 (.bin .eql (.t 9) (.c (Ik 3))),Iy 14 15] [] []) (.cond (.t 14) .skip (.reg [Ix 16 (.bin .eql (.t 9) (.c (Ik 5))),Iy 14 16] [] []))) (.cond (.t 14) (.reg [Ix 3 (.copy (.c It))] [] []) (.seq (.reg [Ix 18 (.bin .eql (.t 9) (.c (Ik 2))),Iy 17 18] [] []) (.cond (.t 17) (.reg [Iy 19 0,Ix 20 (.call 99 [(.t 19)]),Ix 21 (.bin .eql (.t 20) (.c (Ik 0))),Iy 3 21] [] []) .skip)))))))) (.seq (.seq (.reg [Iy 22 3] [] []) (.cond (.t 22) (.seq (.reg [Ix 2 (.copy (.c (Ik 0)))] [] []) .ret) .skip)) (.seq (.reg [Ix 2 (.copy (.c (Ik 1)))] [] []) .ret)))))),[.tmp 2]⟩
/- bus.has -/
def ir70:IFn:=⟨(.seq (.reg [Ix 4 (.copy (.c If))] [] []) (.seq (.reg [Iy 5 0,Iy 6 1,Ix 7 (.bin .shr (.t 5) (.t 6)),Ix 8 (.bin .and (.t 7) (.c (.lit (.int .u32 1)))),Ix 9 (.bin .eql (.t 8) (.c (.lit (.int .u32 1)))),Iy 4 9] [] []) .ret)),[.tmp 4]⟩
/- ctl.Node).Step -/
def L71_0:ICode:=(.seq (.reg [Ix 34 (.bin .lss (.t 33) (.t 32))] [] []) (.seq (.cond (.t 34) .skip (.exit 1)) (.seq (.block 2 (.seq (.reg [Ix 35 (.idxS 1 (.t 31) (.t 33)),Ix 36 (.load false 1 (.t 35)),Iy 9 36] [] []) (.seq (.reg [Iy 37 9,Ix 38 (.build [(Ik 0),(Ik 0),(Ik 0),(Ik 0),If,If,(Ik 0),(.lit (.int .u8 0)),(.lit (.int .u8 0)),(.lit (.int .u8 0)),(.lit (.int .u8 0)),(.lit (.int .u8 0)),(.lit (.int .u8 0)),(.lit (.int .u8 0)),(.lit (.int .u8 0))] [(2,1,(.t 37))]),Ix 10 (.alloc [(Ik 0),(Ik 0),(Ik 0),(Ik 0),If,If,(Ik 0),(.lit (.int .u8 0)),(.lit (.int .u8 0)),(.lit (.int .u8 0)),(.lit (.int .u8 0)),(.lit (.int .u8 0)),(.lit (.int .u8 0)),(.lit (.int .u8 0)),(.lit (.int .u8 0))]),Iw (.store 15 (.t 10) (.t 38))] [] []) (.seq (.seq (.reg [Iy 39 9,Ix 40 (.bin .eql (.t 39) (.c (Ik 1))),Iy 41 40,Iv 41 false 42 (.copy (.t 9)),Iv 41 false 43 (.bin .eql (.t 42) (.c (Ik 2))),Ix 44 (.pick (.t 41) (.c It) (.t 43))] [] []) (.cond (.t 44) (.reg [Ix 45 (.fieldA 1 (.t 6)),Ix 46 (.load true 12 (.t 45)),Ix 47 (.fieldA 3 (.t 10)),Iw (.store 12 (.t 47) (.t 46))] [] []) .skip)) (.reg [Iy 48 7,Ix 49 (.load true 15 (.t 10)),Ix 50 (.mkSlice true 15 [(Ik 0),(Ik 0),(Ik 0),(Ik 0),If,If,(Ik 0),(.lit (.int .u8 0)),(.lit (.int .u8 0)),(.lit (.int .u8 0)),(.lit (.int .u8 0)),(.lit (.int .u8 0)),(.lit (.int .u8 0)),(.lit (.int .u8 0)),(.lit (.int .u8 0))] 1 [(0,(.t 49))]),Ix 51 (.append true 15 56 (.t 48) (.t 50)),Iy 7 51] [] []))))) (.reg [Ix 52 (.bin .add (.t 33) (.c (Ik 1))),Iy 33 52] [] []))))
def ir71:IFn:=⟨(.seq (.reg [Ix 4 (.copy (.c nilS)),Ix 5 (.copy (.c (Ik 0)))] [] []) (.seq (.block 0 (.seq (.reg [Iy 12 0,Ix 13 (.isNil false .ptr (.t 12)),Iy 11 13] [] []) (.cond (.t 11) (.seq (.reg [Ix 4 (.copy (.c nilS)),Ix 5 (.copy (.c (Ik 2)))] [] []) .ret) (.seq (.reg [Iy 15 1,Ix 16 (.bin .neq (.t 15) (.c (Ik 0))),Iy 17 16,Iv 17 true 18 (.copy (.t 1)),Iv 17 true 19 (.bin .neq (.t 18) (.c (Ik 1))),Ix 20 (.pick (.t 17) (.t 19) (.c If)),Iy 14 20] [] []) (.cond (.t 14) (.seq (.reg [Ix 4 (.copy (.c nilS)),Ix 5 (.copy (.c (Ik 10)))] [] []) .ret) .skip))))) (.seq (.reg [Ix 6 (.alloc [nilS,(Ik 0),If,If,(Ik 0),(.lit (.int .u8 0)),(.lit (.int .u8 0)),(.lit (.int .u8 0)),(.lit (.int .u8 0)),(.lit (.int .u8 0)),(.lit (.int .u8 0)),(.lit (.int .u8 0)),(.lit (.int .u8 0))])] [] []) (.seq (.reg [Ix 21 (.call 100 []),Iy 22 0,Ix 23 (.nilCheck (.t 22)),Ix 24 (.fieldA 4 (.t 23)),Ix 25 (.load false 1 (.t 24)),Ix 26 (.idxV false 11 1 (.t 21) (.t 25)),Iy 27 0,Iy 28 1,Ix 29 (.callV (.t 26) [(.t 27),(.t 6),(.t 28)])] [(4,0)] []) (.seq (.reg [Ix 7 (.copy (.c nilS))] [] []) (.seq (.seq (.reg [Ix 30 (.fieldA 0 (.t 6)),Ix 31 (.load false 1 (.t 30)),Ix 32 (.len (.t 31)),Ix 33 (.copy (.c (Ik 0)))] [] []) (.block 1 (.loop [6,7,31,32,33] L71_0))) (.seq (.reg [Iy 53 7,Iy 4 53,Ix 5 (.copy (.c (Ik 0)))] [] []) .ret))))))),[.tmp 4,.tmp 5]⟩
/- queue.Queue).Len -/
def ir72:IFn:=⟨(.seq (.reg [Ix 2 (.copy (.c (Ik 0)))] [] []) (.seq (.seq (.reg [Iy 3 0,Ix 4 (.isNil false .ptr (.t 3))] [] []) (.cond (.t 4) (.seq (.reg [Ix 2 (.copy (.c (Ik 0)))] [] []) .ret) .skip)) (.seq (.reg [Iy 5 0,Ix 6 (.nilCheck (.t 5)),Ix 7 (.fieldA 0 (.t 6)),Ix 8 (.call 101 [(.t 7)]),Iy 2 8] [] []) .ret))),[.tmp 2]⟩
/- queue.Queue).Put -/
def ir73:IFn:=⟨(.seq (.reg [Ix 3 (.box 12 (.t 1)),Ix 4 (.copy (.c (Ik 0)))] [] []) (.seq (.seq (.reg [Iy 6 0,Ix 7 (.isNil false .ptr (.t 6))] [] []) (.cond (.t 7) (.seq (.reg [Ix 4 (.copy (.c (Ik 2)))] [] []) .ret) .skip)) (.seq (.seq (.reg [Ix 8 (.load true 12 (.t 3)),Ix 9 (.call 24 [(.t 8)]),Iy 5 9] [] []) (.seq (.reg [Iy 10 5,Ix 11 (.bin .neq (.t 10) (.c (Ik 0)))] [] []) (.cond (.t 11) (.seq (.reg [Iy 12 5,Iy 4 12] [] []) .ret) .skip))) (.seq (.seq (.reg [Iy 13 0,Ix 14 (.nilCheck (.t 13)),Ix 15 (.fieldA 0 (.t 14)),Ix 16 (.call 101 [(.t 15)]),Iy 17 0,Ix 18 (.nilCheck (.t 17)),Ix 19 (.fieldA 1 (.t 18)),Ix 20 (.load false 1 (.t 19)),Ix 21 (.bin .geq (.t 16) (.t 20))] [(7,3)] []) (.cond (.t 21) (.seq (.reg [Ix 4 (.copy (.c (Ik 15)))] [] []) .ret) .skip)) (.seq (.reg [Iy 22 0,Ix 23 (.nilCheck (.t 22)),Ix 24 (.fieldA 0 (.t 23)),Ix 25 (.load true 12 (.t 3)),Ix 26 (.call 102 [(.t 24),(.t 25)])] [] []) (.seq (.reg [Ix 4 (.copy (.c (Ik 0)))] [] []) .ret)))))),[.tmp 4]⟩
/- stuff.Add -/
def L76_0:ICode:=(.seq (.reg [Ix 22 (.bin .lss (.t 21) (.t 20))] [] []) (.seq (.cond (.t 22) .skip (.exit 0)) (.seq (.block 1 (.seq (.reg [Ix 23 (.idxS 1 (.t 19) (.t 21)),Ix 24 (.load false 1 (.t 23)),Iy 7 24] [] []) (.seq (.reg [Iy 25 5,Iy 26 7,Ix 27 (.callV (.t 25) [(.t 26)])] [] []) (.cond (.t 27) (.reg [Iy 28 5,Iy 29 7,Ix 30 (.call 106 [(.t 29)]),Ix 31 (.callV (.t 28) [(.t 30)])] [] []) .skip)))) (.reg [Ix 32 (.bin .add (.t 21) (.c (Ik 1))),Iy 21 32] [] []))))
def ir76:IFn:=⟨(.seq (.reg [Ix 2 (.copy (.c nilS))] [] []) (.seq (.seq (.reg [Iy 8 0,Ix 9 (.call 104 [(.t 8)]),Ix 10 (.bin .geq (.t 9) (.c (Ik 0)))] [] []) (.cond (.t 10) (.seq (.reg [Ix 2 (.copy (.c nilS))] [] []) .ret) .skip)) (.seq (.reg [Iy 11 0,Ix 12 (.len (.t 11)),Iy 13 0,Ix 14 (.len (.t 13)),Ix 15 (.bin .quo (.t 14) (.c (Ik 4))),Ix 16 (.bin .add (.t 12) (.t 15)),Ix 17 (.make true 1 8 [(Ik 0)] (.c (Ik 0)) (.t 16)),Ix 3 (.alloc [nilS]),Iw (.store 1 (.t 3) (.t 17))] [] []) (.seq (.reg [Ix 4 (.alloc [(Ik 0)]),Iw (.store 1 (.t 4) (.c (Ik 0)))] [] []) (.seq (.reg [Ix 18 (.mkFunc (.func 105) [] [(.t 3),(.t 4)]),Iy 5 18] [] []) (.seq (.seq (.reg [Iy 19 0,Ix 20 (.len (.t 19)),Ix 21 (.copy (.c (Ik 0)))] [] []) (.block 0 (.loop [3,5,19,20,21] L76_0))) (.seq (.reg [Ix 33 (.load false 1 (.t 3)),Iy 2 33] [] []) .ret))))))),[.tmp 2]⟩
/- queue.New -/
def ir77:IFn:=⟨(.seq (.reg [Ix 2 (.copy (.c (.lit (.pointer none)))),Ix 3 (.copy (.c (Ik 0)))] [] []) (.seq (.seq (.reg [Iy 4 0,Ix 5 (.bin .lss (.t 4) (.c (Ik 1))),Iy 6 5,Iv 6 false 7 (.copy (.t 0)),Iv 6 false 8 (.bin .gtr (.t 7) (.c (Ik 16))),Ix 9 (.pick (.t 6) (.c It) (.t 8))] [] []) (.cond (.t 9) (.seq (.reg [Ix 2 (.copy (.c (.lit (.pointer none)))),Ix 3 (.copy (.c (Ik 10)))] [] []) .ret) .skip)) (.seq (.reg [Iy 10 0,Ix 11 (.build [nilS,(Ik 0)] [(1,1,(.t 10))]),Ix 12 (.box 2 (.t 11)),Iy 2 12,Ix 3 (.copy (.c (Ik 0)))] [] []) .ret))),[.tmp 2,.tmp 3]⟩
/- field.Bits -/
def L78_0:ICode:=(.seq (.reg [Ix 42 (.bin .lss (.t 41) (.t 40))] [] []) (.seq (.cond (.t 42) .skip (.exit 0)) (.seq (.block 1 (.seq (.reg [Ix 43 (.idxS 1 (.t 39) (.t 41)),Ix 44 (.load false 1 (.t 43)),Iy 11 44] [] []) (.reg [Iy 45 8,Iy 46 11,Ix 47 (.toInt .u64 (.t 46)),Ix 48 (.callV (.t 45) [(.t 47),(.c (Ik 8))])] [] []))) (.reg [Ix 49 (.bin .add (.t 41) (.c (Ik 1))),Iy 41 49] [] []))))
def ir78:IFn:=⟨(.seq (.reg [Ix 1 (.box 12 (.t 0)),Ix 2 (.copy (.c nilS)),Ix 3 (.copy (.c (Ik 0)))] [] []) (.seq (.reg [Ix 13 (.load true 12 (.t 1)),Ix 14 (.call 83 [(.t 13)]),Iy 12 14,Ix 15 (.extract (.t 12) 0),Ix 16 (.extract (.t 12) 1),Iy 4 15,Iy 5 16] [] []) (.seq (.seq (.reg [Iy 17 5,Ix 18 (.bin .neq (.t 17) (.c (Ik 0)))] [] []) (.cond (.t 18) (.seq (.reg [Iy 19 5,Ix 2 (.copy (.c nilS)),Iy 3 19] [] []) .ret) .skip)) (.seq (.reg [Ix 20 (.mkSlice true 1 [(Ik 0)] 1 [(0,(.c (Ik 0)))]),Iy 21 4,Ix 22 (.append true 1 8 (.t 20) (.t 21)),Ix 6 (.alloc [nilS]),Iw (.store 1 (.t 6) (.t 22))] [] []) (.seq (.reg [Ix 7 (.alloc [(Ik 0)]),Iw (.store 1 (.t 7) (.c (Ik 0)))] [] []) (.seq (.reg [Ix 23 (.mkFunc (.func 107) [] [(.t 7),(.t 6)]),Iy 8 23] [] []) (.seq (.reg [Ix 9 (.copy (.c (Ik 1)))] [] []) (.seq (.seq (.reg [Ix 24 (.fieldA 1 (.t 1)),Ix 25 (.load false 1 (.t 24))] [] []) (.cond (.t 25) (.reg [Ix 9 (.copy (.c (Ik 2)))] [] []) .skip)) (.seq (.reg [Iy 26 8,Ix 27 (.fieldA 3 (.t 1)),Ix 28 (.load false 1 (.t 27)),Ix 29 (.toInt .u64 (.t 28)),Iy 30 9,Ix 31 (.bin .add (.t 30) (.c (Ik 4))),Ix 32 (.callV (.t 26) [(.t 29),(.t 31)])] [] []) (.seq (.seq (.reg [Ix 33 (.fieldA 2 (.t 1)),Ix 34 (.load false 1 (.t 33)),Ix 35 (.un .not (.t 34))] [] []) (.cond (.t 35) (.seq (.reg [Ix 36 (.fieldA 4 (.t 1)),Ix 37 (.fieldA 3 (.t 1)),Ix 38 (.load false 1 (.t 37)),Ix 39 (.sliceArr 8 1 (.t 36) none (some (.t 38))),Ix 40 (.len (.t 39)),Ix 41 (.copy (.c (Ik 0)))] [] []) (.block 0 (.loop [6,7,8,39,40,41] L78_0))) .skip)) (.seq (.seq (.reg [Ix 50 (.load false 1 (.t 7)),Ix 51 (.bin .neq (.t 50) (.c (Ik 0)))] [] []) (.cond (.t 51) (.seq (.reg [Ix 52 (.load false 1 (.t 7)),Ix 2 (.copy (.c nilS)),Iy 3 52] [] []) .ret) .skip)) (.seq (.reg [Ix 53 (.load false 1 (.t 6)),Iy 2 53,Ix 3 (.copy (.c (Ik 0)))] [] []) .ret)))))))))))),[.tmp 2,.tmp 3]⟩
/- crc15.Sum -/
def L79_0:ICode:=(.seq (.reg [Ix 14 (.bin .lss (.t 13) (.t 12))] [] []) (.seq (.cond (.t 14) .skip (.exit 0)) (.seq (.block 1 (.seq (.reg [Iy 15 13,Iy 6 15] [] []) (.reg [Iy 16 5,Iy 17 0,Iy 18 6,Ix 19 (.idxS 1 (.t 17) (.t 18)),Ix 20 (.load false 1 (.t 19)),Ix 21 (.callV (.t 16) [(.t 20)])] [] []))) (.reg [Ix 22 (.bin .add (.t 13) (.c (Ik 1))),Iy 13 22] [] []))))
def ir79:IFn:=⟨(.seq (.reg [Ix 2 (.copy (.c (Ik 0))),Ix 3 (.copy (.c (Ik 0)))] [] []) (.seq (.seq (.reg [Iy 7 0,Ix 8 (.call 104 [(.t 7)]),Ix 9 (.bin .geq (.t 8) (.c (Ik 0)))] [] []) (.cond (.t 9) (.seq (.reg [Ix 2 (.copy (.c (Ik 0))),Ix 3 (.copy (.c (Ik 10)))] [] []) .ret) .skip)) (.seq (.reg [Ix 4 (.alloc [(Ik 0)]),Iw (.store 1 (.t 4) (.c (Ik 0)))] [] []) (.seq (.reg [Ix 10 (.mkFunc (.func 109) [] [(.t 4)]),Iy 5 10] [] []) (.seq (.seq (.reg [Iy 11 0,Ix 12 (.len (.t 11)),Ix 13 (.copy (.c (Ik 0)))] [] []) (.block 0 (.loop [0,4,5,12,13] L79_0))) (.seq (.reg [Ix 23 (.load false 1 (.t 4)),Iy 2 23,Ix 3 (.copy (.c (Ik 0)))] [] []) .ret)))))),[.tmp 2,.tmp 3]⟩
/- crc15.Bits -/
def ir80:IFn:=⟨(.seq (.reg [Ix 2 (.copy (.c nilS)),Ix 3 (.copy (.c (Ik 0)))] [] []) (.seq (.seq (.reg [Iy 4 0,Ix 5 (.call 111 [(.t 4)]),Ix 6 (.un .not (.t 5))] [] []) (.cond (.t 6) (.seq (.reg [Ix 2 (.copy (.c nilS)),Ix 3 (.copy (.c (Ik 10)))] [] []) .ret) .skip)) (.seq (.reg [Iy 7 0,Ix 8 (.toInt .u64 (.t 7)),Ix 9 (.call 108 [(.t 8),(.c (Ik 15))]),Ix 10 (.extract (.t 9) 0),Ix 11 (.extract (.t 9) 1),Iy 2 10,Iy 3 11] [] []) .ret))),[.tmp 2,.tmp 3]⟩
/- slices.Concat[[]int,int] -/
def L81_0:ICode:=(.seq (.reg [Ix 12 (.bin .lss (.t 11) (.t 10))] [] []) (.seq (.cond (.t 12) .skip (.exit 0)) (.seq (.block 1 (.seq (.reg [Ix 13 (.idxS 1 (.t 9) (.t 11)),Ix 14 (.load false 1 (.t 13)),Iy 5 14] [] []) (.seq (.reg [Iy 15 3,Iy 16 5,Ix 17 (.len (.t 16)),Ix 18 (.bin .add (.t 15) (.t 17)),Iy 3 18] [] []) (.seq (.reg [Iy 19 3,Ix 20 (.bin .lss (.t 19) (.c (Ik 0)))] [] []) (.cond (.t 20) (.reg [⟨none,some 21,.mkIface 9 (.c (.lit (.string ⟨#[108,101,110,32,111,117,116,32,111,102,32,114,97,110,103,101]⟩)))⟩,Iw (.fail)] [] []) .skip))))) (.reg [Ix 22 (.bin .add (.t 11) (.c (Ik 1))),Iy 11 22] [] []))))
def L81_1:ICode:=(.seq (.reg [Ix 28 (.bin .lss (.t 27) (.t 26))] [] []) (.seq (.cond (.t 28) .skip (.exit 2)) (.seq (.block 3 (.seq (.reg [Ix 29 (.idxS 1 (.t 25) (.t 27)),Ix 30 (.load false 1 (.t 29)),Iy 8 30] [] []) (.reg [Iy 31 6,Iy 32 8,Ix 33 (.append true 1 8 (.t 31) (.t 32)),Iy 6 33] [] []))) (.reg [Ix 34 (.bin .add (.t 27) (.c (Ik 1))),Iy 27 34] [] []))))
def ir81:IFn:=⟨(.seq (.reg [Ix 2 (.copy (.c nilS))] [] []) (.seq (.reg [Ix 3 (.copy (.c (Ik 0)))] [] []) (.seq (.seq (.reg [Iy 9 0,Ix 10 (.len (.t 9)),Ix 11 (.copy (.c (Ik 0)))] [] []) (.block 0 (.loop [0,3,9,10,11] L81_0))) (.seq (.reg [Iy 23 3,Ix 24 (.call 112 [(.c nilS),(.t 23)]),Iy 6 24] [] []) (.seq (.seq (.reg [Iy 25 0,Ix 26 (.len (.t 25)),Ix 27 (.copy (.c (Ik 0)))] [] []) (.block 2 (.loop [6,25,26,27] L81_1))) (.seq (.reg [Iy 35 6,Iy 2 35] [] []) .ret)))))),[.tmp 2]⟩
/- slices.Repeat[[]int,int] -/
def L82_0:ICode:=(.seq (.seq (.reg [Iy 34 8,Iy 35 7,Ix 36 (.len (.t 35)),Ix 37 (.bin .lss (.t 34) (.t 36))] [] []) (.cond (.t 37) .skip (.exit 0))) (.block 1 (.reg [Iy 38 8,Iy 39 7,Iy 40 8,Ix 41 (.slice 1 (.t 39) (some (.t 40)) none none),Iy 42 7,Iy 43 8,Ix 44 (.slice 1 (.t 42) none (some (.t 43)) none),Ix 45 (.copyS 1 (.t 41) (.t 44)),Ix 46 (.bin .add (.t 38) (.t 45)),Iy 8 46] [] [])))
def ir82:IFn:=⟨(.seq (.reg [Ix 4 (.copy (.c nilS))] [] []) (.seq (.seq (.reg [Iy 9 1,Ix 10 (.bin .lss (.t 9) (.c (Ik 0)))] [] []) (.cond (.t 10) (.reg [⟨none,some 11,.mkIface 9 (.c (.lit (.string ⟨#[99,97,110,110,111,116,32,98,101,32,110,101,103,97,116,105,118,101]⟩)))⟩,Iw (.fail)] [] []) .skip)) (.seq (.reg [Iy 13 0,Ix 14 (.len (.t 13)),Ix 15 (.toInt .u64 (.t 14)),Iy 16 1,Ix 17 (.toInt .u64 (.t 16)),Ix 18 (.call 113 [(.t 15),(.t 17)]),Iy 12 18,Ix 19 (.extract (.t 12) 0),Ix 20 (.extract (.t 12) 1),Iy 5 19,Iy 6 20] [] []) (.seq (.seq (.reg [Iy 21 5,Ix 22 (.bin .gtr (.t 21) (.c (.lit (.int .u64 0)))),Iy 23 22,Iv 23 false 24 (.copy (.t 6)),Iv 23 false 25 (.bin .gtr (.t 24) (.c (.lit (.int .u64 9223372036854775807)))),Ix 26 (.pick (.t 23) (.c It) (.t 25))] [] []) (.cond (.t 26) (.reg [⟨none,some 27,.mkIface 9 (.c (.lit (.string ⟨#[116,104,101,32,114,101,115,117,108,116,32,111,102,32,40,108,101,110,40,120,41,32,42,32,99,111,117,110,116,41,32,111,118,101,114,102,108,111,119,115]⟩)))⟩,Iw (.fail)] [] []) .skip)) (.seq (.reg [Iy 28 6,Ix 29 (.toInt .i64 (.t 28)),Ix 30 (.make true 1 8 [(Ik 0)] (.t 29) (.t 29)),Iy 7 30] [] []) (.seq (.reg [Iy 31 7,Iy 32 0,Ix 33 (.copyS 1 (.t 31) (.t 32)),Iy 8 33] [] []) (.seq (.block 0 (.loop [7,8] L82_0)) (.seq (.reg [Iy 47 7,Iy 4 47] [] []) .ret)))))))),[.tmp 4]⟩
/- frame.Arb -/
def ir83:IFn:=⟨(.seq (.reg [Ix 1 (.box 12 (.t 0)),Ix 2 (.copy (.c nilS)),Ix 3 (.copy (.c (Ik 0)))] [] []) (.seq (.seq (.reg [Ix 10 (.load true 12 (.t 1)),Ix 11 (.call 24 [(.t 10)]),Iy 4 11] [] []) (.seq (.reg [Iy 12 4,Ix 13 (.bin .neq (.t 12) (.c (Ik 0)))] [] []) (.cond (.t 13) (.seq (.reg [Iy 14 4,Ix 2 (.copy (.c nilS)),Iy 3 14] [] []) .ret) .skip))) (.seq (.seq (.reg [Ix 15 (.fieldA 1 (.t 1)),Ix 16 (.load false 1 (.t 15)),Ix 17 (.un .not (.t 16))] [] []) (.cond (.t 17) (.seq (.reg [Ix 19 (.fieldA 0 (.t 1)),Ix 20 (.load false 1 (.t 19)),Ix 21 (.toInt .u64 (.t 20)),Ix 22 (.call 108 [(.t 21),(.c (Ik 11))]),Iy 18 22,Ix 23 (.extract (.t 18) 0),Ix 24 (.extract (.t 18) 1),Iy 5 23,Iy 6 24] [] []) (.seq (.reg [Iy 25 5,Ix 26 (.fieldA 2 (.t 1)),Ix 27 (.load false 1 (.t 26)),Ix 28 (.call 114 [(.t 27)]),Ix 29 (.mkSlice true 1 [(Ik 0)] 2 [(0,(.t 28)),(1,(.c (Ik 0)))]),Ix 30 (.append true 1 8 (.t 25) (.t 29)),Iy 31 6,Iy 2 30,Iy 3 31] [] []) .ret)) .skip)) (.seq (.reg [Ix 33 (.fieldA 0 (.t 1)),Ix 34 (.load false 1 (.t 33)),Ix 35 (.toInt .u64 (.t 34)),Ix 36 (.bin .shr (.t 35) (.c (.lit (.int .u64 18)))),Ix 37 (.call 108 [(.t 36),(.c (Ik 11))]),Iy 32 37,Ix 38 (.extract (.t 32) 0),Ix 39 (.extract (.t 32) 1),Iy 7 38,Iy 8 39] [] []) (.seq (.seq (.reg [Iy 40 8,Ix 41 (.bin .neq (.t 40) (.c (Ik 0)))] [] []) (.cond (.t 41) (.seq (.reg [Iy 42 8,Ix 2 (.copy (.c nilS)),Iy 3 42] [] []) .ret) .skip)) (.seq (.reg [Ix 44 (.fieldA 0 (.t 1)),Ix 45 (.load false 1 (.t 44)),Ix 46 (.toInt .u64 (.t 45)),Ix 47 (.call 108 [(.t 46),(.c (Ik 18))]),Iy 43 47,Ix 48 (.extract (.t 43) 0),Ix 49 (.extract (.t 43) 1),Iy 9 48,Iy 8 49] [] []) (.seq (.reg [Iy 50 7,Ix 51 (.mkSlice true 1 [(Ik 0)] 2 [(0,(.c (Ik 1))),(1,(.c (Ik 1)))]),Iy 52 9,Ix 53 (.fieldA 2 (.t 1)),Ix 54 (.load false 1 (.t 53)),Ix 55 (.call 114 [(.t 54)]),Ix 56 (.mkSlice true 1 [(Ik 0)] 1 [(0,(.t 55))]),Ix 57 (.mkSlice true 1 [nilS] 4 [(0,(.t 50)),(1,(.t 51)),(2,(.t 52)),(3,(.t 56))]),Ix 58 (.call 81 [(.t 57)]),Iy 59 8,Iy 2 58,Iy 3 59] [] []) .ret))))))),[.tmp 2,.tmp 3]⟩
/- slices.Compare[[]int,int] -/
def L84_0:ICode:=(.seq (.reg [Ix 12 (.bin .lss (.t 11) (.t 10))] [] []) (.seq (.cond (.t 12) .skip (.exit 0)) (.seq (.block 1 (.seq (.reg [Iy 13 11,Ix 14 (.idxS 1 (.t 9) (.t 11)),Ix 15 (.load false 1 (.t 14)),Iy 5 13,Iy 6 15] [] []) (.seq (.seq (.reg [Iy 16 5,Iy 17 1,Ix 18 (.len (.t 17)),Ix 19 (.bin .geq (.t 16) (.t 18))] [] []) (.cond (.t 19) (.seq (.reg [Ix 4 (.copy (.c (Ik 1)))] [] []) .ret) .skip)) (.seq (.reg [Iy 20 1,Iy 21 5,Ix 22 (.idxS 1 (.t 20) (.t 21)),Ix 23 (.load false 1 (.t 22)),Iy 7 23] [] []) (.seq (.reg [Iy 24 6,Iy 25 7,Ix 26 (.call 115 [(.t 24),(.t 25)]),Iy 8 26] [] []) (.seq (.reg [Iy 27 8,Ix 28 (.bin .neq (.t 27) (.c (Ik 0)))] [] []) (.cond (.t 28) (.seq (.reg [Iy 29 8,Iy 4 29] [] []) .ret) .skip))))))) (.reg [Ix 30 (.bin .add (.t 11) (.c (Ik 1))),Iy 11 30] [] []))))
def ir84:IFn:=⟨(.seq (.reg [Ix 4 (.copy (.c (Ik 0)))] [] []) (.seq (.seq (.reg [Iy 9 0,Ix 10 (.len (.t 9)),Ix 11 (.copy (.c (Ik 0)))] [] []) (.block 0 (.loop [0,1,9,10,11] L84_0))) (.seq (.seq (.reg [Iy 31 0,Ix 32 (.len (.t 31)),Iy 33 1,Ix 34 (.len (.t 33)),Ix 35 (.bin .lss (.t 32) (.t 34))] [] []) (.cond (.t 35) (.seq (.reg [Ix 4 (.copy (.c (.lit (.int .i64 (-1)))))] [] []) .ret) .skip)) (.seq (.reg [Ix 4 (.copy (.c (Ik 0)))] [] []) .ret)))),[.tmp 4]⟩
/- field.Next -/
def L85_0:ICode:=(.seq (.reg [Ix 53 (.bin .lss (.t 52) (.c (Ik 9)))] [] []) (.seq (.cond (.t 53) .skip (.exit 1)) (.seq (.block 2 (.seq (.reg [Iy 54 52,Ix 55 (.idxV false 9 1 (.t 51) (.t 52)),Iy 9 54,Iy 10 55] [] []) (.seq (.seq (.reg [Iy 56 5,Iy 57 8,Iy 58 10,Ix 59 (.bin .add (.t 57) (.t 58)),Ix 60 (.bin .lss (.t 56) (.t 59))] [] []) (.cond (.t 60) (.seq (.reg [Iy 61 9,Iy 62 5,Iy 63 8,Ix 64 (.bin .sub (.t 62) (.t 63)),Iy 2 61,Iy 3 64,Ix 4 (.copy (.c (Ik 0)))] [] []) .ret) .skip)) (.reg [Iy 65 8,Iy 66 10,Ix 67 (.bin .add (.t 65) (.t 66)),Iy 8 67] [] [])))) (.reg [Ix 68 (.bin .add (.t 52) (.c (Ik 1))),Iy 52 68] [] []))))
def ir85:IFn:=⟨(.seq (.reg [Ix 2 (.copy (.c (Ik 0))),Ix 3 (.copy (.c (Ik 0))),Ix 4 (.copy (.c (Ik 0)))] [] []) (.seq (.reg [Iy 11 0,Ix 12 (.len (.t 11)),Iy 5 12] [] []) (.seq (.seq (.reg [Iy 13 0,Ix 14 (.call 104 [(.t 13)]),Ix 15 (.bin .geq (.t 14) (.c (Ik 0)))] [] []) (.cond (.t 15) (.seq (.reg [Ix 2 (.copy (.c (Ik 0))),Ix 3 (.copy (.c (Ik 0))),Ix 4 (.copy (.c (Ik 10)))] [] []) .ret) .skip)) (.seq (.reg [Iy 17 0,Ix 18 (.call 88 [(.t 17)]),Iy 16 18,Ix 19 (.extract (.t 16) 0),Ix 20 (.extract (.t 16) 1),Ix 6 (.alloc [If,If,(Ik 0),(Ik 0),(Ik 0)]),Iw (.store 5 (.t 6) (.t 19)),Iy 7 20] [] []) (.seq (.block 0 (.seq (.reg [Iy 22 5,Ix 23 (.bin .eql (.t 22) (.c (Ik 0))),Iy 21 23] [] []) (.cond (.t 21) (.seq (.reg [Ix 2 (.copy (.c (Ik 0))),Ix 3 (.copy (.c (Ik 0))),Ix 4 (.copy (.c (Ik 0)))] [] []) .ret) (.seq (.reg [Iy 25 5,Ix 26 (.bin .leq (.t 25) (.c (Ik 13))),Iy 27 26,Iv 27 false 28 (.fieldA 0 (.t 6)),Iv 27 false 29 (.load false 1 (.t 28)),Iv 27 false 30 (.copy (.t 29)),Iv 30 true 31 (.copy (.t 5)),Iv 30 true 32 (.bin .leq (.t 31) (.c (Ik 32))),Iv 27 false 33 (.pick (.t 30) (.t 32) (.c If)),Ix 34 (.pick (.t 27) (.c It) (.t 33)),Iy 24 34] [] []) (.cond (.t 24) (.seq (.reg [Iy 35 5,Ix 36 (.bin .sub (.t 35) (.c (Ik 1))),Ix 2 (.copy (.c (Ik 1))),Iy 3 36,Ix 4 (.copy (.c (Ik 0)))] [] []) .ret) (.seq (.reg [Iy 38 7,Ix 39 (.un .not (.t 38)),Iy 37 39] [] []) (.cond (.t 37) (.seq (.reg [Iy 40 5,Ix 41 (.fieldA 2 (.t 6)),Ix 42 (.load false 1 (.t 41)),Ix 43 (.bin .sub (.t 40) (.t 42)),Ix 2 (.copy (.c (Ik 2))),Iy 3 43,Ix 4 (.copy (.c (Ik 0)))] [] []) .ret) .skip))))))) (.seq (.reg [Ix 44 (.fieldA 3 (.t 6)),Ix 45 (.load false 1 (.t 44)),Iy 8 45] [] []) (.seq (.seq (.reg [Ix 46 (.load true 5 (.t 6)),Ix 47 (.call 116 [(.t 46)]),Ix 48 (.fieldA 3 (.t 6)),Ix 49 (.load false 1 (.t 48)),Ix 50 (.bin .sub (.t 47) (.t 49)),Ix 51 (.build [(Ik 0),(Ik 0),(Ik 0),(Ik 0),(Ik 0),(Ik 0),(Ik 0),(Ik 0),(Ik 0)] [(3,1,(.t 50)),(4,1,(.c (Ik 15))),(5,1,(.c (Ik 1))),(6,1,(.c (Ik 1))),(7,1,(.c (Ik 1))),(8,1,(.c (Ik 7)))]),Ix 52 (.copy (.c (Ik 0)))] [(3,1)] []) (.block 1 (.loop [5,8,51,52] L85_0))) (.seq (.seq (.reg [Iy 69 5,Iy 70 8,Ix 71 (.bin .gtr (.t 69) (.t 70))] [] []) (.cond (.t 71) (.seq (.reg [Ix 2 (.copy (.c (Ik 0))),Ix 3 (.copy (.c (Ik 0))),Ix 4 (.copy (.c (Ik 12)))] [] []) .ret) .skip)) (.seq (.reg [Ix 2 (.copy (.c (Ik 9))),Ix 3 (.copy (.c (Ik 0))),Ix 4 (.copy (.c (Ik 0)))] [] []) .ret))))))))),[.tmp 2,.tmp 3,.tmp 4]⟩
/- field.Right -/
def ir86:IFn:=⟨(.seq (.reg [Ix 2 (.copy (.c If)),Ix 3 (.copy (.c (Ik 0)))] [] []) (.seq (.reg [Iy 7 0,Ix 8 (.call 87 [(.t 7)]),Iy 6 8,Ix 9 (.extract (.t 6) 0),Ix 10 (.extract (.t 6) 1),Iy 4 9,Iy 5 10] [] []) (.seq (.block 0 (.seq (.reg [Iy 12 5,Ix 13 (.bin .neq (.t 12) (.c (Ik 0))),Iy 11 13] [] []) (.cond (.t 11) (.seq (.reg [Iy 14 5,Ix 2 (.copy (.c If)),Iy 3 14] [] []) .ret) (.seq (.reg [Iy 16 0,Ix 17 (.len (.t 16)),Iy 18 4,Ix 19 (.bin .add (.t 18) (.c (Ik 15))),Ix 20 (.bin .lss (.t 17) (.t 19)),Iy 15 20] [] []) (.cond (.t 15) (.seq (.reg [Ix 2 (.copy (.c If)),Ix 3 (.copy (.c (Ik 13)))] [] []) .ret) .skip))))) (.seq (.reg [Iy 21 0,Iy 22 4,Ix 23 (.bin .add (.t 22) (.c (Ik 15))),Ix 24 (.slice 1 (.t 21) none (some (.t 23)) none),Ix 25 (.call 117 [(.t 24)]),Iy 2 25,Ix 3 (.copy (.c (Ik 0)))] [] []) .ret)))),[.tmp 2,.tmp 3]⟩
/- field.Ahead -/
def ir87:IFn:=⟨(.seq (.reg [Ix 2 (.copy (.c (Ik 0))),Ix 3 (.copy (.c (Ik 0)))] [] []) (.seq (.seq (.reg [Iy 6 0,Ix 7 (.call 104 [(.t 6)]),Ix 8 (.bin .geq (.t 7) (.c (Ik 0)))] [] []) (.cond (.t 8) (.seq (.reg [Ix 2 (.copy (.c (Ik 0))),Ix 3 (.copy (.c (Ik 10)))] [] []) .ret) .skip)) (.seq (.reg [Iy 10 0,Ix 11 (.call 88 [(.t 10)]),Iy 9 11,Ix 12 (.extract (.t 9) 0),Ix 13 (.extract (.t 9) 1),Ix 4 (.alloc [If,If,(Ik 0),(Ik 0),(Ik 0)]),Iw (.store 5 (.t 4) (.t 12)),Iy 5 13] [] []) (.seq (.seq (.reg [Iy 14 5,Ix 15 (.un .not (.t 14))] [] []) (.cond (.t 15) (.seq (.reg [Ix 2 (.copy (.c (Ik 0))),Ix 3 (.copy (.c (Ik 13)))] [] []) .ret) .skip)) (.seq (.reg [Ix 16 (.load true 5 (.t 4)),Ix 17 (.call 116 [(.t 16)]),Iy 2 17,Ix 3 (.copy (.c (Ik 0)))] [] []) .ret))))),[.tmp 2,.tmp 3]⟩
/- field.read -/
def ir88:IFn:=⟨(.seq (.reg [Ix 2 (.alloc [If,If,(Ik 0),(Ik 0),(Ik 0)]),Ix 3 (.copy (.c If))] [] []) (.seq (.seq (.reg [Iy 8 0,Ix 9 (.len (.t 8)),Ix 10 (.bin .leq (.t 9) (.c (Ik 13)))] [] []) (.cond (.t 10) (.seq (.reg [Ix 11 (.build [If,If,(Ik 0),(Ik 0),(Ik 0)] []),Iw (.store 5 (.t 2) (.t 11)),Ix 3 (.copy (.c If))] [] []) .ret) .skip)) (.seq (.reg [Iy 12 0,Ix 13 (.idxS 1 (.t 12) (.c (Ik 13))),Ix 14 (.load false 1 (.t 13)),Ix 15 (.bin .eql (.t 14) (.c (Ik 1))),Ix 16 (.build [If,If,(Ik 0),(Ik 0),(Ik 0)] [(0,1,(.t 15)),(2,1,(.c (Ik 14))),(3,1,(.c (Ik 19)))]),Ix 4 (.alloc [If,If,(Ik 0),(Ik 0),(Ik 0)]),Iw (.store 5 (.t 4) (.t 16))] [] []) (.seq (.reg [Ix 5 (.copy (.c (Ik 12)))] [] []) (.seq (.seq (.reg [Ix 17 (.fieldA 0 (.t 4)),Ix 18 (.load false 1 (.t 17))] [] []) (.cond (.t 18) (.reg [Ix 5 (.copy (.c (Ik 32))),Ix 19 (.fieldA 2 (.t 4)),Iw (.store 1 (.t 19) (.c (Ik 33))),Ix 20 (.fieldA 3 (.t 4)),Iw (.store 1 (.t 20) (.c (Ik 39)))] [] []) .skip)) (.seq (.seq (.reg [Iy 21 0,Ix 22 (.len (.t 21)),Ix 23 (.fieldA 3 (.t 4)),Ix 24 (.load false 1 (.t 23)),Ix 25 (.bin .lss (.t 22) (.t 24))] [] []) (.cond (.t 25) (.seq (.reg [Ix 26 (.load true 5 (.t 4)),Iw (.store 5 (.t 2) (.t 26)),Ix 3 (.copy (.c If))] [] []) .ret) .skip)) (.seq (.reg [Iy 27 0,Iy 28 5,Ix 29 (.idxS 1 (.t 27) (.t 28)),Ix 30 (.load false 1 (.t 29)),Ix 31 (.bin .eql (.t 30) (.c (Ik 1))),Ix 32 (.fieldA 1 (.t 4)),Iw (.store 1 (.t 32) (.t 31))] [] []) (.seq (.reg [Iy 34 0,Ix 35 (.fieldA 3 (.t 4)),Ix 36 (.load false 1 (.t 35)),Ix 37 (.bin .sub (.t 36) (.c (Ik 4))),Ix 38 (.fieldA 3 (.t 4)),Ix 39 (.load false 1 (.t 38)),Ix 40 (.slice 1 (.t 34) (some (.t 37)) (some (.t 39)) none),Ix 41 (.call 118 [(.t 40)]),Iy 33 41,Ix 42 (.extract (.t 33) 0),Ix 43 (.extract (.t 33) 1),Iy 6 42,Iy 7 43] [] []) (.seq (.reg [Iy 44 6,Ix 45 (.toInt .i64 (.t 44)),Ix 46 (.minI (.t 45) [(.c (Ik 8))]),Ix 47 (.fieldA 4 (.t 4)),Iw (.store 1 (.t 47) (.t 46))] [] []) (.seq (.reg [Ix 48 (.load true 5 (.t 4)),Iw (.store 5 (.t 2) (.t 48)),Ix 3 (.copy (.c It))] [] []) .ret)))))))))),[.cell 2 true 5,.tmp 3]⟩
/- field.value -/
def ir89:IFn:=⟨(.seq (.reg [Ix 2 (.copy (.c (Ik 0)))] [] []) (.seq (.reg [Iy 6 0,Ix 7 (.call 118 [(.t 6)]),Iy 5 7,Ix 8 (.extract (.t 5) 0),Ix 9 (.extract (.t 5) 1),Iy 3 8,Iy 4 9] [] []) (.seq (.reg [Iy 10 3,Ix 11 (.toInt .i64 (.t 10)),Iy 2 11] [] []) .ret))),[.tmp 2]⟩
/- tap.Each -/
def ir90:IFn:=⟨(.seq (.reg [Ix 1 (.box 1 (.t 0)),Ix 2 (.copy (.c (.lit .nilFunc)))] [] []) (.seq (.reg [Ix 3 (.mkFunc (.func 119) [] [(.t 1)]),Iy 2 3] [] []) .ret)),[.tmp 2]⟩
/- drive.place -/
def ir91:IFn:=⟨(.seq (.reg [Ix 4 (.copy (.c If))] [] []) (.seq (.reg [Iy 5 0,Ix 6 (.call 63 [(.t 5),(.c (Ik 0)),(.c (Ik 31))]),Iy 7 6,Iv 7 true 8 (.copy (.t 1)),Iv 7 true 9 (.call 63 [(.t 8),(.c (Ik 0)),(.c (Ik 1073741824))]),Ix 10 (.pick (.t 7) (.t 9) (.c If)),Iy 4 10] [] []) .ret)),[.tmp 4]⟩
/- tap.Check -/
def ir92:IFn:=⟨(.seq (.reg [Ix 2 (.copy (.c (Ik 0)))] [] []) (.seq (.reg [Iy 6 0,Ix 7 (.call 67 [(.t 6)]),Iy 5 7,Ix 8 (.extract (.t 5) 0),Ix 9 (.extract (.t 5) 1),Iy 3 8,Iy 4 9] [] []) (.seq (.reg [Iy 10 4,Iy 2 10] [] []) .ret))),[.tmp 2]⟩
/- tap.Node$1 -/
def ir93:IFn:=⟨(.seq (.reg [Ix 2 (.box 3 (.t 0)),Ix 3 (.copy (.c (Ik 0)))] [] []) (.seq (.reg [Ix 4 (.fieldA 2 (.t 2)),Ix 5 (.load false 1 (.t 4)),Ix 6 (.load false 1 (.t 1)),Ix 7 (.bin .shr (.t 5) (.t 6)),Ix 8 (.bin .and (.t 7) (.c (.lit (.int .u32 1)))),Ix 9 (.toInt .i64 (.t 8)),Iy 3 9] [] []) .ret)),[.tmp 3]⟩
/- drive.Check$1 -/
def ir94:IFn:=⟨(.seq (.reg [Ix 1 (.box 3 (.t 0)),Ix 2 (.copy (.c If))] [] []) (.seq (.reg [Ix 3 (.fieldA 0 (.t 1)),Ix 4 (.load false 1 (.t 3)),Ix 5 (.call 63 [(.t 4),(.c (Ik 1)),(.c (Ik 1073741824))]),Ix 6 (.un .not (.t 5)),Iy 7 6,Iv 7 false 8 (.fieldA 1 (.t 1)),Iv 7 false 9 (.load false 1 (.t 8)),Iv 7 false 10 (.call 63 [(.t 9),(.c (Ik 0)),(.c (Ik 1))]),Iv 7 false 11 (.un .not (.t 10)),Ix 12 (.pick (.t 7) (.c It) (.t 11)),Iy 2 12] [] []) .ret)),[.tmp 2]⟩
/- api.Run] -/
def ir95:IFn:=⟨(.seq (.reg [Ix 4 (.copy (.c If))] [] []) (.seq (.reg [Iy 5 0,Iy 6 1,Ix 7 (.call 120 [(.t 5),(.t 6)]),Ix 8 (.bin .geq (.t 7) (.c (Ik 0))),Iy 4 8] [] []) .ret)),[.tmp 4]⟩
/- tap.right -/
def ir96:IFn:=⟨(.seq (.reg [Ix 1 (.box 3 (.t 0)),Ix 2 (.copy (.c If))] [] []) (.seq (.reg [Ix 3 (.copy (.c (Ik 0)))] [] []) (.seq (.seq (.reg [Ix 4 (.fieldA 2 (.t 1)),Ix 5 (.load false 1 (.t 4)),Ix 6 (.bin .eql (.t 5) (.c (.lit (.int .u32 4294967295))))] [] []) (.cond (.t 6) (.reg [Ix 3 (.copy (.c (Ik 1)))] [] []) .skip)) (.seq (.reg [Ix 7 (.fieldA 0 (.t 1)),Ix 8 (.load false 1 (.t 7)),Ix 9 (.bin .geq (.t 8) (.c (Ik 1))),Iy 10 9,Iv 10 true 11 (.fieldA 0 (.t 1)),Iv 10 true 12 (.load false 1 (.t 11)),Iv 10 true 13 (.bin .leq (.t 12) (.c (Ik 1073741824))),Ix 14 (.pick (.t 10) (.t 13) (.c If)),Iy 15 14,Iv 15 true 16 (.fieldA 1 (.t 1)),Iv 15 true 17 (.load false 1 (.t 16)),Iv 15 true 18 (.copy (.t 3)),Iv 15 true 19 (.bin .eql (.t 17) (.t 18)),Ix 20 (.pick (.t 15) (.t 19) (.c If)),Iy 2 20] [] []) .ret)))),[.tmp 2]⟩
/- tap.between$1 -/
def ir97:IFn:=⟨(.seq (.reg [Ix 5 (.copy (.c (Ik 0)))] [] []) (.seq (.reg [Ix 6 (.load false 1 (.t 1)),Iy 7 0,Ix 8 (.bin .add (.t 6) (.t 7)),Ix 9 (.load false 1 (.t 2)),Ix 10 (.minI (.t 8) [(.t 9)]),Ix 11 (.load false 1 (.t 1)),Ix 12 (.load false 1 (.t 3)),Ix 13 (.maxI (.t 11) [(.t 12)]),Ix 14 (.bin .sub (.t 10) (.t 13)),Iy 5 14] [] []) .ret)),[.tmp 5]⟩
/- ctl.Node).pending -/
def ir98:IFn:=⟨(.seq (.reg [Ix 2 (.copy (.c If))] [] []) (.seq (.reg [Iy 3 0,Ix 4 (.nilCheck (.t 3)),Ix 5 (.fieldA 3 (.t 4)),Ix 6 (.load false 1 (.t 5)),Ix 7 (.call 72 [(.t 6)]),Ix 8 (.bin .gtr (.t 7) (.c (Ik 0))),Iy 2 8] [] []) .ret)),[.tmp 2]⟩
/- ctl.Node).frame -/
def ir99:IFn:=⟨(.seq (.reg [Ix 2 (.copy (.c (Ik 0)))] [] []) (.seq (.reg [Iy 7 0,Ix 8 (.nilCheck (.t 7)),Ix 9 (.fieldA 0 (.t 8)),Ix 10 (.call 121 [(.t 9)]),Iy 6 10,Ix 11 (.extract (.t 6) 0),Ix 12 (.extract (.t 6) 1),Ix 13 (.extract (.t 6) 2),Iy 3 11,Iy 4 12,Iy 5 13] [] []) (.seq (.block 0 (.seq (.reg [Iy 15 0,Ix 16 (.nilCheck (.t 15)),Ix 17 (.fieldA 8 (.t 16)),Ix 18 (.load false 1 (.t 17)),Iy 19 18,Iv 19 true 20 (.copy (.t 5)),Ix 21 (.pick (.t 19) (.t 20) (.c If)),Iy 14 21] [] []) (.cond (.t 14) (.seq (.reg [Iy 22 0,Ix 23 (.nilCheck (.t 22)),Ix 24 (.fieldA 0 (.t 23)),Ix 25 (.fieldA 1 (.t 24)),Ix 26 (.load false 1 (.t 25)),Ix 27 (.bin .sub (.c (Ik 1)) (.t 26)),Iy 2 27] [] []) .ret) (.seq (.reg [Iy 29 0,Ix 30 (.nilCheck (.t 29)),Ix 31 (.fieldA 8 (.t 30)),Ix 32 (.load false 1 (.t 31)),Iy 28 32] [] []) (.cond (.t 28) (.seq (.reg [Iy 33 0,Ix 34 (.nilCheck (.t 33)),Ix 35 (.fieldA 26 (.t 34)),Ix 36 (.load false 1 (.t 35)),Iy 37 0,Ix 38 (.nilCheck (.t 37)),Ix 39 (.fieldA 0 (.t 38)),Ix 40 (.fieldA 0 (.t 39)),Ix 41 (.load false 1 (.t 40)),Ix 42 (.len (.t 41)),Ix 43 (.idxS 1 (.t 36) (.t 42)),Ix 44 (.load false 1 (.t 43)),Iy 2 44] [] []) .ret) (.seq (.reg [Iy 46 3,Ix 47 (.bin .eql (.t 46) (.c (Ik 6))),Iy 48 47,Iv 48 true 49 (.copy (.t 0)),Iv 48 true 50 (.nilCheck (.t 49)),Iv 48 true 51 (.fieldA 0 (.t 50)),Iv 48 true 52 (.call 122 [(.t 51)]),Ix 53 (.pick (.t 48) (.t 52) (.c If)),Iy 45 53] [] []) (.cond (.t 45) (.seq (.reg [Ix 2 (.copy (.c (Ik 0)))] [] []) .ret) .skip))))))) (.seq (.reg [Ix 2 (.copy (.c (Ik 1)))] [] []) .ret)))),[.tmp 2]⟩
/- ctl.steps -/
def ir100:IFn:=⟨(.seq (.reg [Ix 0 (.alloc [(.lit .nilFunc),(.lit .nilFunc),(.lit .nilFunc),(.lit .nilFunc),(.lit .nilFunc),(.lit .nilFunc),(.lit .nilFunc),(.lit .nilFunc),(.lit .nilFunc),(.lit .nilFunc),(.lit .nilFunc)])] [] []) (.seq (.reg [Ix 1 (.build [(.lit .nilFunc),(.lit .nilFunc),(.lit .nilFunc),(.lit .nilFunc),(.lit .nilFunc),(.lit .nilFunc),(.lit .nilFunc),(.lit .nilFunc),(.lit .nilFunc),(.lit .nilFunc),(.lit .nilFunc)] [(0,1,(.c (.func (.func 123) [] []))),(1,1,(.c (.func (.func 124) [] []))),(2,1,(.c (.func (.func 125) [] []))),(3,1,(.c (.func (.func 126) [] []))),(4,1,(.c (.func (.func 127) [] []))),(5,1,(.c (.func (.func 126) [] []))),(6,1,(.c (.func (.func 128) [] []))),(7,1,(.c (.func (.func 129) [] []))),(8,1,(.c (.func (.func 130) [] []))),(9,1,(.c (.func (.func 131) [] []))),(10,1,(.c (.func (.func 132) [] [])))]),Iw (.store 11 (.t 0) (.t 1))] [] []) .ret)),[.cell 0 true 11]⟩
/- queue.row).size -/
def ir101:IFn:=⟨(.seq (.reg [Ix 2 (.copy (.c (Ik 0)))] [] []) (.seq (.reg [Iy 3 0,Ix 4 (.nilCheck (.t 3)),Ix 5 (.fieldA 0 (.t 4)),Ix 6 (.load false 1 (.t 5)),Ix 7 (.len (.t 6)),Iy 2 7] [] []) .ret)),[.tmp 2]⟩
/- queue.row).put -/
def ir102:IFn:=⟨(.seq (.reg [Ix 3 (.box 12 (.t 1))] [] []) (.seq (.reg [Ix 6 (.mkFunc (.func 133) [] [(.t 3)]),Iy 4 6] [] []) (.seq (.reg [Iy 7 0,Ix 8 (.nilCheck (.t 7)),Ix 9 (.fieldA 0 (.t 8)),Ix 10 (.load false 1 (.t 9)),Iy 11 4,Ix 12 (.callU 134 [(.t 10),(.t 11)]),Iy 5 12] [] []) (.seq (.seq (.reg [Iy 13 5,Ix 14 (.bin .lss (.t 13) (.c (Ik 0)))] [] []) (.cond (.t 14) (.reg [Iy 15 0,Ix 16 (.nilCheck (.t 15)),Ix 17 (.fieldA 0 (.t 16)),Ix 18 (.load false 1 (.t 17)),Ix 19 (.len (.t 18)),Iy 5 19] [] []) .skip)) (.reg [Iy 20 0,Iy 21 0,Ix 22 (.nilCheck (.t 21)),Ix 23 (.fieldA 0 (.t 22)),Ix 24 (.load false 1 (.t 23)),Iy 25 5,Ix 26 (.load true 12 (.t 3)),Ix 27 (.mkSlice true 12 [(Ik 0),If,If,(Ik 0),(.lit (.int .u8 0)),(.lit (.int .u8 0)),(.lit (.int .u8 0)),(.lit (.int .u8 0)),(.lit (.int .u8 0)),(.lit (.int .u8 0)),(.lit (.int .u8 0)),(.lit (.int .u8 0))] 1 [(0,(.t 26))]),Ix 28 (.callL .ins true 12 32 135 [(.t 24),(.t 25),(.t 27)]),Ix 29 (.nilCheck (.t 20)),Ix 30 (.fieldA 0 (.t 29)),Iw (.store 1 (.t 30) (.t 28))] [(4,7)] []))))),[]⟩
/- bits.Check -/
def ir104:IFn:=⟨(.seq (.reg [Ix 2 (.copy (.c (Ik 0)))] [] []) (.seq (.reg [Iy 3 0,Ix 4 (.call 136 [(.t 3),(.c (.func (.func 137) [] []))]),Iy 2 4] [] []) .ret)),[.tmp 2]⟩
/- stuff.Add$1 -/
def ir105:IFn:=⟨(.seq (.reg [Ix 4 (.copy (.c If))] [] []) (.seq (.seq (.reg [Ix 5 (.load false 1 (.t 1)),Ix 6 (.len (.t 5)),Ix 7 (.bin .gtr (.t 6) (.c (Ik 0))),Iy 8 7,Iv 8 true 9 (.load false 1 (.t 1)),Iv 8 true 10 (.load false 1 (.t 1)),Iv 8 true 11 (.len (.t 10)),Iv 8 true 12 (.bin .sub (.t 11) (.c (Ik 1))),Iv 8 true 13 (.idxS 1 (.t 9) (.t 12)),Iv 8 true 14 (.load false 1 (.t 13)),Iv 8 true 15 (.copy (.t 0)),Iv 8 true 16 (.bin .eql (.t 14) (.t 15)),Ix 17 (.pick (.t 8) (.t 16) (.c If))] [] []) (.cond (.t 17) (.reg [Ix 18 (.load false 1 (.t 2)),Ix 19 (.bin .add (.t 18) (.c (Ik 1))),Iw (.store 1 (.t 2) (.t 19))] [] []) (.reg [Iw (.store 1 (.t 2) (.c (Ik 1)))] [] []))) (.seq (.reg [Ix 20 (.load false 1 (.t 1)),Iy 21 0,Ix 22 (.mkSlice true 1 [(Ik 0)] 1 [(0,(.t 21))]),Ix 23 (.append true 1 8 (.t 20) (.t 22)),Iw (.store 1 (.t 1) (.t 23))] [] []) (.seq (.reg [Ix 24 (.load false 1 (.t 2)),Ix 25 (.bin .eql (.t 24) (.c (Ik 5))),Iy 4 25] [] []) .ret)))),[.tmp 4]⟩
/- stuff.other -/
def ir106:IFn:=⟨(.seq (.reg [Ix 2 (.copy (.c (Ik 0)))] [] []) (.seq (.reg [Iy 3 0,Ix 4 (.bin .sub (.c (Ik 1)) (.t 3)),Iy 2 4] [] []) .ret)),[.tmp 2]⟩
/- field.Bits$1 -/
def ir107:IFn:=⟨(.seq (.reg [Iy 9 0,Iy 10 1,Ix 11 (.call 108 [(.t 9),(.t 10)]),Iy 8 11,Ix 12 (.extract (.t 8) 0),Ix 13 (.extract (.t 8) 1),Iy 6 12,Iy 7 13] [] []) (.seq (.seq (.reg [Iy 14 7,Ix 15 (.bin .neq (.t 14) (.c (Ik 0)))] [] []) (.cond (.t 15) (.reg [Iy 16 7,Iw (.store 1 (.t 2) (.t 16))] [] []) .skip)) (.reg [Ix 17 (.load false 1 (.t 3)),Iy 18 6,Ix 19 (.append true 1 8 (.t 17) (.t 18)),Iw (.store 1 (.t 3) (.t 19))] [] []))),[]⟩
/- bits.Of -/
def L108_0:ICode:=(.seq (.reg [Ix 18 (.bin .lss (.t 17) (.t 16))] [] []) (.seq (.cond (.t 18) .skip (.exit 0)) (.seq (.block 1 (.seq (.reg [Iy 19 17,Iy 7 19] [] []) (.reg [Iy 20 6,Iy 21 1,Ix 22 (.bin .sub (.t 21) (.c (Ik 1))),Iy 23 7,Ix 24 (.bin .sub (.t 22) (.t 23)),Iy 25 0,Iy 26 7,Ix 27 (.bin .shr (.t 25) (.t 26)),Ix 28 (.bin .and (.t 27) (.c (.lit (.int .u64 1)))),Ix 29 (.toInt .i64 (.t 28)),Ix 30 (.idxS 1 (.t 20) (.t 24)),Iw (.store 1 (.t 30) (.t 29))] [] []))) (.reg [Ix 31 (.bin .add (.t 17) (.c (Ik 1))),Iy 17 31] [] []))))
def ir108:IFn:=⟨(.seq (.reg [Ix 4 (.copy (.c nilS)),Ix 5 (.copy (.c (Ik 0)))] [] []) (.seq (.seq (.reg [Iy 8 1,Ix 9 (.bin .lss (.t 8) (.c (Ik 0))),Iy 10 9,Iv 10 false 11 (.copy (.t 1)),Iv 10 false 12 (.bin .gtr (.t 11) (.c (Ik 64))),Ix 13 (.pick (.t 10) (.c It) (.t 12))] [] []) (.cond (.t 13) (.seq (.reg [Ix 4 (.copy (.c nilS)),Ix 5 (.copy (.c (Ik 10)))] [] []) .ret) .skip)) (.seq (.reg [Iy 14 1,Ix 15 (.make true 1 8 [(Ik 0)] (.t 14) (.t 14)),Iy 6 15] [] []) (.seq (.seq (.reg [Iy 16 1,Ix 17 (.copy (.c (Ik 0)))] [] []) (.block 0 (.loop [0,1,6,16,17] L108_0))) (.seq (.reg [Iy 32 6,Iy 4 32,Ix 5 (.copy (.c (Ik 0)))] [] []) .ret))))),[.tmp 4,.tmp 5]⟩
/- crc15.Sum$1 -/
def ir109:IFn:=⟨(.reg [Ix 3 (.load false 1 (.t 1)),Iy 4 0,Ix 5 (.call 110 [(.t 3),(.t 4)]),Iw (.store 1 (.t 1) (.t 5))] [] []),[]⟩
/- crc15.step -/
def ir110:IFn:=⟨(.seq (.reg [Ix 4 (.copy (.c (Ik 0)))] [] []) (.seq (.reg [Iy 6 0,Ix 7 (.bin .shl (.t 6) (.c (.lit (.int .u64 1)))),Ix 8 (.bin .and (.t 7) (.c (Ik 32767))),Iy 5 8] [] []) (.seq (.seq (.reg [Iy 9 0,Ix 10 (.bin .and (.t 9) (.c (Ik 16384))),Ix 11 (.bin .neq (.t 10) (.c (Ik 0))),Iy 12 1,Ix 13 (.bin .eql (.t 12) (.c (Ik 1))),Ix 14 (.eqB true (.t 11) (.t 13))] [] []) (.cond (.t 14) (.reg [Iy 15 5,Ix 16 (.bin .xor (.t 15) (.c (Ik 17817))),Iy 5 16] [] []) .skip)) (.seq (.reg [Iy 17 5,Iy 4 17] [] []) .ret)))),[.tmp 4]⟩
/- crc15.may -/
def ir111:IFn:=⟨(.seq (.reg [Ix 2 (.copy (.c If))] [] []) (.seq (.reg [Iy 3 0,Ix 4 (.bin .geq (.t 3) (.c (Ik 0))),Iy 5 4,Iv 5 true 6 (.copy (.t 0)),Iv 5 true 7 (.bin .leq (.t 6) (.c (Ik 32767))),Ix 8 (.pick (.t 5) (.t 7) (.c If)),Iy 2 8] [] []) .ret)),[.tmp 2]⟩
/- slices.Grow[[]int,int] -/
def ir112:IFn:=⟨(.seq (.reg [Ix 4 (.copy (.c nilS))] [] []) (.seq (.seq (.reg [Iy 5 1,Ix 6 (.bin .lss (.t 5) (.c (Ik 0)))] [] []) (.cond (.t 6) (.reg [⟨none,some 7,.mkIface 9 (.c (.lit (.string ⟨#[99,97,110,110,111,116,32,98,101,32,110,101,103,97,116,105,118,101]⟩)))⟩,Iw (.fail)] [] []) .skip)) (.seq (.seq (.reg [Iy 8 1,Iy 9 0,Ix 10 (.cap (.t 9)),Iy 11 0,Ix 12 (.len (.t 11)),Ix 13 (.bin .sub (.t 10) (.t 12)),Ix 14 (.bin .sub (.t 8) (.t 13)),Iy 1 14] [] []) (.seq (.reg [Iy 15 1,Ix 16 (.bin .gtr (.t 15) (.c (Ik 0)))] [] []) (.cond (.t 16) (.reg [Iy 17 0,Iy 18 0,Ix 19 (.cap (.t 18)),Ix 20 (.slice 1 (.t 17) none (some (.t 19)) none),Iy 21 1,Ix 22 (.appendZ true 1 8 [(Ik 0)] (.t 20) (.t 21)),Iy 23 0,Ix 24 (.len (.t 23)),Ix 25 (.slice 1 (.t 22) none (some (.t 24)) none),Iy 0 25] [] []) .skip))) (.seq (.reg [Iy 26 0,Iy 4 26] [] []) .ret)))),[.tmp 4]⟩
/- bits.Mul -/
def ir113:IFn:=⟨(.seq (.reg [Ix 4 (.copy (.c (.lit (.int .u64 0)))),Ix 5 (.copy (.c (.lit (.int .u64 0))))] [] []) (.seq (.cond (.c If) (.seq (.reg [Iy 11 0,Ix 12 (.toInt .u32 (.t 11)),Iy 13 1,Ix 14 (.toInt .u32 (.t 13)),Ix 15 (.call 139 [(.t 12),(.t 14)]),Iy 10 15,Ix 16 (.extract (.t 10) 0),Ix 17 (.extract (.t 10) 1),Iy 6 16,Iy 7 17] [] []) (.seq (.reg [Iy 18 6,Ix 19 (.toInt .u64 (.t 18)),Iy 20 7,Ix 21 (.toInt .u64 (.t 20)),Iy 4 19,Iy 5 21] [] []) .ret)) .skip) (.seq (.reg [Iy 23 0,Iy 24 1,Ix 25 (.call 140 [(.t 23),(.t 24)]),Iy 22 25,Ix 26 (.extract (.t 22) 0),Ix 27 (.extract (.t 22) 1),Iy 8 26,Iy 9 27] [] []) (.seq (.reg [Iy 28 8,Iy 29 9,Iy 4 28,Iy 5 29] [] []) .ret)))),[.tmp 4,.tmp 5]⟩
/- frame.level -/
def ir114:IFn:=⟨(.seq (.reg [Ix 2 (.copy (.c (Ik 0)))] [] []) (.seq (.seq (.reg [Iy 3 0] [] []) (.cond (.t 3) (.seq (.reg [Ix 2 (.copy (.c (Ik 1)))] [] []) .ret) .skip)) (.seq (.reg [Ix 2 (.copy (.c (Ik 0)))] [] []) .ret))),[.tmp 2]⟩
/- cmp.Compare[int] -/
def ir115:IFn:=⟨(.seq (.reg [Ix 4 (.copy (.c (Ik 0)))] [] []) (.seq (.reg [Iy 7 0,Ix 8 (.call 141 [(.t 7)]),Iy 5 8] [] []) (.seq (.reg [Iy 9 1,Ix 10 (.call 141 [(.t 9)]),Iy 6 10] [] []) (.seq (.seq (.reg [Iy 11 5] [] []) (.cond (.t 11) (.seq (.seq (.reg [Iy 12 6] [] []) (.cond (.t 12) (.seq (.reg [Ix 4 (.copy (.c (Ik 0)))] [] []) .ret) .skip)) (.seq (.reg [Ix 4 (.copy (.c (.lit (.int .i64 (-1)))))] [] []) .ret)) .skip)) (.seq (.seq (.reg [Iy 13 6] [] []) (.cond (.t 13) (.seq (.reg [Ix 4 (.copy (.c (Ik 1)))] [] []) .ret) .skip)) (.seq (.seq (.reg [Iy 14 0,Iy 15 1,Ix 16 (.bin .lss (.t 14) (.t 15))] [] []) (.cond (.t 16) (.seq (.reg [Ix 4 (.copy (.c (.lit (.int .i64 (-1)))))] [] []) .ret) .skip)) (.seq (.seq (.reg [Iy 17 0,Iy 18 1,Ix 19 (.bin .gtr (.t 17) (.t 18))] [] []) (.cond (.t 19) (.seq (.reg [Ix 4 (.copy (.c (Ik 1)))] [] []) .ret) .skip)) (.seq (.reg [Ix 4 (.copy (.c (Ik 0)))] [] []) .ret)))))))),[.tmp 4]⟩
/- field.head).sum -/
def ir116:IFn:=⟨(.seq (.reg [Ix 1 (.box 5 (.t 0)),Ix 2 (.copy (.c (Ik 0)))] [] []) (.seq (.seq (.reg [Ix 3 (.fieldA 1 (.t 1)),Ix 4 (.load false 1 (.t 3))] [] []) (.cond (.t 4) (.seq (.reg [Ix 5 (.fieldA 3 (.t 1)),Ix 6 (.load false 1 (.t 5)),Iy 2 6] [] []) .ret) .skip)) (.seq (.reg [Ix 7 (.fieldA 3 (.t 1)),Ix 8 (.load false 1 (.t 7)),Ix 9 (.fieldA 4 (.t 1)),Ix 10 (.load false 1 (.t 9)),Ix 11 (.bin .mul (.c (Ik 8)) (.t 10)),Ix 12 (.bin .add (.t 8) (.t 11)),Iy 2 12] [] []) .ret))),[.tmp 2]⟩
/- crc15.Right -/
def ir117:IFn:=⟨(.seq (.reg [Ix 2 (.copy (.c If))] [] []) (.seq (.reg [Iy 8 0,Ix 9 (.len (.t 8)),Ix 10 (.bin .sub (.t 9) (.c (Ik 15))),Iy 3 10] [] []) (.seq (.seq (.reg [Iy 11 3,Ix 12 (.bin .lss (.t 11) (.c (Ik 0))),Iy 13 12,Iv 13 false 14 (.copy (.t 0)),Iv 13 false 15 (.call 104 [(.t 14)]),Iv 13 false 16 (.bin .geq (.t 15) (.c (Ik 0))),Ix 17 (.pick (.t 13) (.c It) (.t 16))] [] []) (.cond (.t 17) (.seq (.reg [Ix 2 (.copy (.c If))] [] []) .ret) .skip)) (.seq (.reg [Iy 19 0,Iy 20 3,Ix 21 (.slice 1 (.t 19) none (some (.t 20)) none),Ix 22 (.call 79 [(.t 21)]),Iy 18 22,Ix 23 (.extract (.t 18) 0),Ix 24 (.extract (.t 18) 1),Iy 4 23,Iy 5 24] [] []) (.seq (.reg [Iy 26 4,Ix 27 (.call 80 [(.t 26)]),Iy 25 27,Ix 28 (.extract (.t 25) 0),Ix 29 (.extract (.t 25) 1),Iy 6 28,Iy 7 29] [] []) (.seq (.reg [Iy 30 0,Iy 31 3,Ix 32 (.slice 1 (.t 30) (some (.t 31)) none none),Iy 33 6,Ix 34 (.call 142 [(.t 32),(.t 33)]),Iy 2 34] [] []) .ret)))))),[.tmp 2]⟩
/- bits.Value -/
def L118_0:ICode:=(.seq (.reg [Ix 18 (.bin .lss (.t 17) (.t 16))] [] []) (.seq (.cond (.t 18) .skip (.exit 1)) (.seq (.block 2 (.seq (.reg [Ix 19 (.idxS 1 (.t 15) (.t 17)),Ix 20 (.load false 1 (.t 19)),Iy 6 20] [] []) (.reg [Iy 21 4,Ix 22 (.bin .shl (.t 21) (.c (.lit (.int .u64 1)))),Iy 23 6,Ix 24 (.toInt .u64 (.t 23)),Ix 25 (.bin .or (.t 22) (.t 24)),Iy 4 25] [] []))) (.reg [Ix 26 (.bin .add (.t 17) (.c (Ik 1))),Iy 17 26] [] []))))
def ir118:IFn:=⟨(.seq (.reg [Ix 2 (.copy (.c (.lit (.int .u64 0)))),Ix 3 (.copy (.c (Ik 0)))] [] []) (.seq (.block 0 (.seq (.reg [Iy 8 0,Ix 9 (.len (.t 8)),Ix 10 (.bin .gtr (.t 9) (.c (Ik 64))),Iy 7 10] [] []) (.cond (.t 7) (.seq (.reg [Ix 2 (.copy (.c (.lit (.int .u64 0)))),Ix 3 (.copy (.c (Ik 12)))] [] []) .ret) (.seq (.reg [Iy 12 0,Ix 13 (.call 104 [(.t 12)]),Ix 14 (.bin .geq (.t 13) (.c (Ik 0))),Iy 11 14] [] []) (.cond (.t 11) (.seq (.reg [Ix 2 (.copy (.c (.lit (.int .u64 0)))),Ix 3 (.copy (.c (Ik 10)))] [] []) .ret) .skip))))) (.seq (.reg [Ix 4 (.copy (.c (.lit (.int .u64 0))))] [] []) (.seq (.seq (.reg [Iy 15 0,Ix 16 (.len (.t 15)),Ix 17 (.copy (.c (Ik 0)))] [] []) (.block 1 (.loop [4,15,16,17] L118_0))) (.seq (.reg [Iy 27 4,Iy 2 27,Ix 3 (.copy (.c (Ik 0)))] [] []) .ret))))),[.tmp 2,.tmp 3]⟩
/- tap.Each$1 -/
def L119_1:ICode:=(.seq (.reg [Ix 18 (.bin .lss (.t 17) (.t 16))] [] []) (.seq (.cond (.t 18) .skip (.exit 2)) (.seq (.block 3 (.seq (.seq (.reg [Iy 19 0,Iy 20 3,Ix 21 (.fieldA 1 (.t 5)),Ix 22 (.load false 1 (.t 21)),Ix 23 (.fieldA 2 (.t 5)),Ix 24 (.load false 1 (.t 23)),Ix 25 (.build [(Ik 0),(Ik 0),(.lit (.int .u32 0))] [(0,1,(.c (Ik 1))),(1,1,(.t 22)),(2,1,(.t 24))]),Ix 26 (.callV (.t 19) [(.t 20),(.t 25)]),Ix 27 (.un .not (.t 26))] [] []) (.cond (.t 27) .ret .skip)) (.reg [Iy 28 3,Ix 29 (.bin .add (.t 28) (.c (Ik 1))),Iy 3 29] [] []))) (.reg [Ix 30 (.bin .add (.t 17) (.c (Ik 1))),Iy 17 30] [] []))))
def L119_0:ICode:=(.seq (.reg [Ix 12 (.bin .lss (.t 11) (.t 10))] [] []) (.seq (.cond (.t 12) .skip (.exit 0)) (.seq (.block 1 (.seq (.reg [Ix 13 (.idxS 3 (.t 9) (.t 11)),Ix 14 (.load true 3 (.t 13)),Ix 5 (.alloc [(Ik 0),(Ik 0),(.lit (.int .u32 0))]),Iw (.store 3 (.t 5) (.t 14))] [] []) (.seq (.reg [Ix 15 (.fieldA 0 (.t 5)),Ix 16 (.load false 1 (.t 15)),Ix 17 (.copy (.c (Ik 0)))] [] []) (.block 2 (.loop [0,3,5,9,10,11,16,17] L119_1))))) (.reg [Ix 31 (.bin .add (.t 11) (.c (Ik 1))),Iy 11 31] [] []))))
def ir119:IFn:=⟨(.seq (.seq (.reg [Ix 6 (.load false 1 (.t 1)),Ix 7 (.call 92 [(.t 6)]),Ix 8 (.bin .neq (.t 7) (.c (Ik 0)))] [] []) (.cond (.t 8) .ret .skip)) (.seq (.reg [Ix 3 (.copy (.c (Ik 0)))] [] []) (.seq (.reg [Ix 9 (.load false 1 (.t 1)),Ix 10 (.len (.t 9)),Ix 11 (.copy (.c (Ik 0)))] [] []) (.block 0 (.loop [0,3,9,10,11] L119_0))))),[]⟩
/- api.Run] -/
def L120_0:ICode:=(.seq (.reg [Ix 9 (.bin .lss (.t 8) (.t 7))] [] []) (.seq (.cond (.t 9) .skip (.exit 0)) (.seq (.block 1 (.seq (.reg [Iy 10 8,Iy 5 10] [] []) (.seq (.reg [Iy 11 1,Iy 12 0,Iy 13 5,Ix 14 (.idxS 3 (.t 12) (.t 13)),Ix 15 (.load true 3 (.t 14)),Ix 16 (.callV (.t 11) [(.t 15)])] [] []) (.cond (.t 16) (.seq (.reg [Iy 17 5,Iy 4 17] [] []) .ret) .skip)))) (.reg [Ix 18 (.bin .add (.t 8) (.c (Ik 1))),Iy 8 18] [] []))))
def ir120:IFn:=⟨(.seq (.reg [Ix 4 (.copy (.c (Ik 0)))] [] []) (.seq (.seq (.reg [Iy 6 0,Ix 7 (.len (.t 6)),Ix 8 (.copy (.c (Ik 0)))] [] []) (.block 0 (.loop [0,1,7,8] L120_0))) (.seq (.reg [Ix 4 (.copy (.c (.lit (.int .i64 (-1)))))] [] []) .ret))),[.tmp 4]⟩
/- ctl.reader).next -/
def ir121:IFn:=⟨(.seq (.reg [Ix 2 (.copy (.c (Ik 0))),Ix 3 (.copy (.c (Ik 0))),Ix 4 (.copy (.c If))] [] []) (.seq (.reg [Iy 6 0,Ix 7 (.nilCheck (.t 6)),Ix 8 (.fieldA 0 (.t 7)),Ix 9 (.load false 1 (.t 8)),Ix 10 (.call 85 [(.t 9)]),Iy 5 10,Ix 11 (.extract (.t 5) 0),Ix 12 (.extract (.t 5) 1),Ix 13 (.extract (.t 5) 2),Iy 2 11,Iy 3 12] [] []) (.seq (.reg [Iy 14 2,Iy 15 3,Iy 16 0,Ix 17 (.nilCheck (.t 16)),Ix 18 (.fieldA 2 (.t 17)),Ix 19 (.load false 1 (.t 18)),Ix 20 (.bin .eql (.t 19) (.c (Ik 5))),Iy 2 14,Iy 3 15,Iy 4 20] [] []) .ret))),[.tmp 2,.tmp 3,.tmp 4]⟩
/- ctl.reader).right -/
def ir122:IFn:=⟨(.seq (.reg [Ix 2 (.copy (.c If))] [] []) (.seq (.reg [Iy 6 0,Ix 7 (.nilCheck (.t 6)),Ix 8 (.fieldA 0 (.t 7)),Ix 9 (.load false 1 (.t 8)),Ix 10 (.call 86 [(.t 9)]),Iy 5 10,Ix 11 (.extract (.t 5) 0),Ix 12 (.extract (.t 5) 1),Iy 3 11,Iy 4 12] [] []) (.seq (.reg [Iy 13 3,Iy 14 13,Iv 14 true 15 (.copy (.t 4)),Iv 14 true 16 (.bin .eql (.t 15) (.c (Ik 0))),Ix 17 (.pick (.t 14) (.t 16) (.c If)),Iy 2 17] [] []) .ret))),[.tmp 2]⟩
/- ctl.Node).joining -/
def ir123:IFn:=⟨(.seq (.seq (.reg [Iy 6 0,Ix 7 (.nilCheck (.t 6)),Ix 8 (.fieldA 5 (.t 7)),Ix 9 (.load false 1 (.t 8)),Ix 10 (.bin .add (.t 9) (.c (Ik 1))),Ix 11 (.nilCheck (.t 6)),Ix 12 (.fieldA 5 (.t 11)),Iw (.store 1 (.t 12) (.t 10))] [] []) (.seq (.reg [Iy 13 2,Ix 14 (.bin .eql (.t 13) (.c (Ik 0)))] [] []) (.cond (.t 14) (.reg [Iy 15 0,Ix 16 (.nilCheck (.t 15)),Ix 17 (.fieldA 5 (.t 16)),Iw (.store 1 (.t 17) (.c (Ik 0)))] [] []) .skip))) (.seq (.reg [Iy 18 0,Ix 19 (.nilCheck (.t 18)),Ix 20 (.fieldA 5 (.t 19)),Ix 21 (.load false 1 (.t 20)),Ix 22 (.bin .eql (.t 21) (.c (Ik 11)))] [] []) (.cond (.t 22) (.reg [Iy 23 0,Ix 24 (.call 143 [(.t 23),(.c (Ik 1))])] [] []) .skip))),[]⟩
/- ctl.Node).idle -/
def ir124:IFn:=⟨(.block 0 (.seq (.reg [Iy 7 2,Ix 8 (.bin .eql (.t 7) (.c (Ik 0))),Iy 6 8] [] []) (.cond (.t 6) (.reg [Iy 9 0,Iy 10 0,Ix 11 (.call 98 [(.t 10)]),Ix 12 (.call 144 [(.t 9),(.t 11)])] [] []) (.seq (.reg [Iy 14 0,Ix 15 (.call 98 [(.t 14)]),Iy 13 15] [] []) (.cond (.t 13) (.seq (.reg [Iy 16 0,Ix 17 (.nilCheck (.t 16)),Ix 18 (.fieldA 7 (.t 17)),Iw (.store 1 (.t 18) (.c It))] [] []) (.reg [Iy 19 0,Iy 20 1,Ix 21 (.call 145 [(.t 19),(.t 20),(.c (Ik 4)),(.c It)])] [] [])) .skip))))),[]⟩
/- ctl.Node).inFrame -/
def ir125:IFn:=⟨(.seq (.reg [Iy 12 0,Ix 13 (.nilCheck (.t 12)),Ix 14 (.fieldA 0 (.t 13)),Ix 15 (.call 121 [(.t 14)]),Iy 11 15,Ix 16 (.extract (.t 11) 0),Ix 17 (.extract (.t 11) 1),Ix 18 (.extract (.t 11) 2),Iy 6 16,Iy 7 17,Iy 8 18] [] []) (.seq (.reg [Iy 19 0,Ix 20 (.call 99 [(.t 19)]),Iy 9 20] [] []) (.seq (.block 0 (.seq (.reg [Iy 22 0,Ix 23 (.nilCheck (.t 22)),Ix 24 (.fieldA 8 (.t 23)),Ix 25 (.load false 1 (.t 24)),Iy 26 25,Iv 26 true 27 (.copy (.t 2)),Iv 26 true 28 (.copy (.t 9)),Iv 26 true 29 (.bin .neq (.t 27) (.t 28)),Ix 30 (.pick (.t 26) (.t 29) (.c If)),Iy 21 30] [] []) (.cond (.t 21) (.seq (.reg [Iy 31 0,Iy 32 1,Iy 33 2,Ix 34 (.call 146 [(.t 31),(.t 32),(.t 33)]),Ix 35 (.un .not (.t 34))] [] []) (.cond (.t 35) .ret .skip)) (.seq (.reg [Iy 37 2,Iy 38 9,Ix 39 (.bin .neq (.t 37) (.t 38)),Iy 40 39,Iv 40 true 41 (.copy (.t 9)),Iv 40 true 42 (.bin .eql (.t 41) (.c (Ik 0))),Ix 43 (.pick (.t 40) (.t 42) (.c If)),Iy 36 43] [] []) (.cond (.t 36) (.seq (.reg [Iy 44 0,Iy 45 1,Ix 46 (.call 145 [(.t 44),(.t 45),(.c (Ik 4)),(.c It)])] [] []) .ret) .skip))))) (.seq (.block 1 (.seq (.reg [Iy 48 6,Ix 49 (.bin .leq (.t 48) (.c (Ik 4))),Iy 50 49,Iv 50 false 51 (.copy (.t 8)),Ix 52 (.pick (.t 50) (.c It) (.t 51)),Iy 47 52] [] []) (.cond (.t 47) .skip (.seq (.reg [Iy 54 6,Ix 55 (.bin .eql (.t 54) (.c (Ik 6))),Iy 53 55] [] []) (.cond (.t 53) (.seq (.reg [Iy 56 0,Ix 57 (.nilCheck (.t 56)),Ix 58 (.fieldA 8 (.t 57)),Ix 59 (.load false 1 (.t 58)),Iy 60 59,Iv 60 true 61 (.copy (.t 2)),Iv 60 true 62 (.bin .eql (.t 61) (.c (Ik 1))),Ix 63 (.pick (.t 60) (.t 62) (.c If))] [] []) (.cond (.t 63) (.seq (.reg [Iy 64 0,Ix 65 (.nilCheck (.t 64)),Ix 66 (.fieldA 11 (.t 65)),Ix 67 (.load true 3 (.t 66)),Ix 68 (.call 31 [(.t 67)]),Ix 69 (.bin .eql (.t 68) (.c (Ik 1))),Iy 10 69] [] []) (.seq (.reg [Iy 70 0,Iy 71 1,Iy 72 10,Ix 73 (.un .not (.t 72)),Ix 74 (.call 145 [(.t 70),(.t 71),(.c (Ik 8)),(.t 73)])] [] []) (.seq (.reg [Iy 75 0,Iy 76 10,Ix 77 (.nilCheck (.t 75)),Ix 78 (.fieldA 9 (.t 77)),Iw (.store 1 (.t 78) (.t 76))] [] []) .ret))) .skip)) (.seq (.reg [Iy 80 6,Ix 81 (.bin .eql (.t 80) (.c (Ik 8))),Iy 82 81,Iv 82 true 83 (.copy (.t 7)),Iv 82 true 84 (.bin .eql (.t 83) (.c (Ik 6))),Ix 85 (.pick (.t 82) (.t 84) (.c If)),Iy 86 85,Iv 86 true 87 (.copy (.t 2)),Iv 86 true 88 (.bin .eql (.t 87) (.c (Ik 0))),Ix 89 (.pick (.t 86) (.t 88) (.c If)),Iy 79 89] [] []) (.cond (.t 79) (.seq (.reg [Iy 90 0,Iy 91 1,Ix 92 (.call 147 [(.t 90),(.t 91)])] [] []) .ret) (.seq (.reg [Iy 94 2,Ix 95 (.bin .eql (.t 94) (.c (Ik 0))),Iy 93 95] [] []) (.cond (.t 93) (.seq (.reg [Iy 96 0,Iy 97 1,Ix 98 (.call 145 [(.t 96),(.t 97),(.c (Ik 7)),(.c It)])] [] []) .ret) (.seq (.reg [Iy 100 6,Ix 101 (.bin .eql (.t 100) (.c (Ik 7))),Iy 102 101,Iv 102 true 103 (.copy (.t 0)),Iv 102 true 104 (.nilCheck (.t 103)),Iv 102 true 105 (.fieldA 8 (.t 104)),Iv 102 true 106 (.load false 1 (.t 105)),Iv 102 true 107 (.un .not (.t 106)),Ix 108 (.pick (.t 102) (.t 107) (.c If)),Iy 109 108,Iv 109 true 110 (.copy (.t 0)),Iv 109 true 111 (.nilCheck (.t 110)),Iv 109 true 112 (.fieldA 0 (.t 111)),Iv 109 true 113 (.call 122 [(.t 112)]),Iv 109 true 114 (.un .not (.t 113)),Ix 115 (.pick (.t 109) (.t 114) (.c If)),Iy 99 115] [] []) (.cond (.t 99) (.seq (.reg [Iy 116 0,Iy 117 1,Ix 118 (.call 145 [(.t 116),(.t 117),(.c (Ik 6)),(.c It)])] [] []) .ret) .skip))))))))))) (.seq (.seq (.reg [Iy 119 0,Ix 120 (.nilCheck (.t 119)),Ix 121 (.fieldA 0 (.t 120)),Iy 122 2,Ix 123 (.call 148 [(.t 121),(.t 122)]),Ix 124 (.un .not (.t 123))] [] []) (.cond (.t 124) (.seq (.reg [Iy 125 0,Iy 126 1,Ix 127 (.call 145 [(.t 125),(.t 126),(.c (Ik 5)),(.c It)])] [] []) .ret) .skip)) (.seq (.reg [Iy 128 6,Ix 129 (.bin .eql (.t 128) (.c (Ik 8)))] [] []) (.cond (.t 129) (.reg [Iy 130 0,Iy 131 1,Iy 132 7,Ix 133 (.call 149 [(.t 130),(.t 131),(.t 132)])] [] []) .skip))))))),[]⟩
/- ctl.Node).dominantFlag -/
def ir126:IFn:=⟨(.seq (.seq (.reg [Iy 6 2,Ix 7 (.bin .eql (.t 6) (.c (Ik 1)))] [] []) (.cond (.t 7) (.seq (.reg [Iy 8 1,Ix 9 (.call 150 [(.t 8),(.c (Ik 4))])] [] []) (.seq (.reg [Iy 10 0,Iy 11 1,Ix 12 (.call 151 [(.t 10),(.t 11),(.c (Ik 8))]),Ix 13 (.un .not (.t 12))] [] []) (.cond (.t 13) .ret .skip))) .skip)) (.seq (.reg [Iy 14 0,Ix 15 (.nilCheck (.t 14)),Ix 16 (.fieldA 5 (.t 15)),Ix 17 (.load false 1 (.t 16)),Ix 18 (.bin .add (.t 17) (.c (Ik 1))),Ix 19 (.nilCheck (.t 14)),Ix 20 (.fieldA 5 (.t 19)),Iw (.store 1 (.t 20) (.t 18))] [] []) (.seq (.reg [Iy 21 0,Ix 22 (.nilCheck (.t 21)),Ix 23 (.fieldA 5 (.t 22)),Ix 24 (.load false 1 (.t 23)),Ix 25 (.bin .eql (.t 24) (.c (Ik 6)))] [] []) (.cond (.t 25) (.reg [Iy 26 0,Ix 27 (.call 143 [(.t 26),(.c (Ik 6))])] [] []) .skip)))),[]⟩
/- ctl.Node).passiveFlag -/
def ir127:IFn:=⟨(.seq (.seq (.reg [Iy 6 0,Ix 7 (.nilCheck (.t 6)),Ix 8 (.fieldA 5 (.t 7)),Ix 9 (.load false 1 (.t 8)),Ix 10 (.bin .gtr (.t 9) (.c (Ik 0))),Iy 11 10,Iv 11 true 12 (.copy (.t 2)),Iv 11 true 13 (.copy (.t 0)),Iv 11 true 14 (.nilCheck (.t 13)),Iv 11 true 15 (.fieldA 0 (.t 14)),Iv 11 true 16 (.fieldA 1 (.t 15)),Iv 11 true 17 (.load false 1 (.t 16)),Iv 11 true 18 (.bin .neq (.t 12) (.t 17)),Ix 19 (.pick (.t 11) (.t 18) (.c If))] [] []) (.cond (.t 19) (.reg [Iy 20 0,Ix 21 (.nilCheck (.t 20)),Ix 22 (.fieldA 5 (.t 21)),Iw (.store 1 (.t 22) (.c (Ik 0)))] [] []) .skip)) (.seq (.reg [Iy 23 0,Ix 24 (.nilCheck (.t 23)),Ix 25 (.fieldA 5 (.t 24)),Ix 26 (.load false 1 (.t 25)),Ix 27 (.bin .add (.t 26) (.c (Ik 1))),Ix 28 (.nilCheck (.t 23)),Ix 29 (.fieldA 5 (.t 28)),Iw (.store 1 (.t 29) (.t 27))] [] []) (.seq (.reg [Iy 30 0,Iy 31 2,Ix 32 (.nilCheck (.t 30)),Ix 33 (.fieldA 0 (.t 32)),Ix 34 (.fieldA 1 (.t 33)),Iw (.store 1 (.t 34) (.t 31))] [] []) (.seq (.seq (.reg [Iy 35 0,Ix 36 (.nilCheck (.t 35)),Ix 37 (.fieldA 9 (.t 36)),Ix 38 (.load false 1 (.t 37)),Iy 39 38,Iv 39 true 40 (.copy (.t 2)),Iv 39 true 41 (.bin .eql (.t 40) (.c (Ik 0))),Ix 42 (.pick (.t 39) (.t 41) (.c If))] [] []) (.cond (.t 42) (.seq (.reg [Iy 43 0,Ix 44 (.nilCheck (.t 43)),Ix 45 (.fieldA 9 (.t 44)),Iw (.store 1 (.t 45) (.c If))] [] []) (.seq (.reg [Iy 46 0,Iy 47 1,Ix 48 (.call 151 [(.t 46),(.t 47),(.c (Ik 8))]),Ix 49 (.un .not (.t 48))] [] []) (.cond (.t 49) .ret .skip))) .skip)) (.seq (.reg [Iy 50 0,Ix 51 (.nilCheck (.t 50)),Ix 52 (.fieldA 5 (.t 51)),Ix 53 (.load false 1 (.t 52)),Ix 54 (.bin .eql (.t 53) (.c (Ik 6)))] [] []) (.cond (.t 54) (.reg [Iy 55 0,Ix 56 (.call 143 [(.t 55),(.c (Ik 6))])] [] []) .skip)))))),[]⟩
/- ctl.Node).waiting -/
def ir128:IFn:=⟨(.seq (.seq (.reg [Iy 6 2,Ix 7 (.bin .eql (.t 6) (.c (Ik 1)))] [] []) (.cond (.t 7) (.seq (.reg [Iy 8 0,Ix 9 (.call 143 [(.t 8),(.c (Ik 7))])] [] []) (.seq (.reg [Iy 10 0,Ix 11 (.nilCheck (.t 10)),Ix 12 (.fieldA 5 (.t 11)),Iw (.store 1 (.t 12) (.c (Ik 1)))] [] []) .ret)) .skip)) (.seq (.reg [Iy 13 0,Ix 14 (.nilCheck (.t 13)),Ix 15 (.fieldA 5 (.t 14)),Ix 16 (.load false 1 (.t 15)),Ix 17 (.bin .add (.t 16) (.c (Ik 1))),Ix 18 (.nilCheck (.t 13)),Ix 19 (.fieldA 5 (.t 18)),Iw (.store 1 (.t 19) (.t 17))] [] []) (.seq (.seq (.reg [Iy 20 0,Ix 21 (.nilCheck (.t 20)),Ix 22 (.fieldA 5 (.t 21)),Ix 23 (.load false 1 (.t 22)),Ix 24 (.bin .eql (.t 23) (.c (Ik 1))),Iy 25 24,Iv 25 true 26 (.copy (.t 0)),Iv 25 true 27 (.nilCheck (.t 26)),Iv 25 true 28 (.fieldA 10 (.t 27)),Iv 25 true 29 (.load false 1 (.t 28)),Ix 30 (.pick (.t 25) (.t 29) (.c If)),Iy 31 30,Iv 31 true 32 (.copy (.t 0)),Iv 31 true 33 (.nilCheck (.t 32)),Iv 31 true 34 (.fieldA 7 (.t 33)),Iv 31 true 35 (.load false 1 (.t 34)),Iv 31 true 36 (.un .not (.t 35)),Ix 37 (.pick (.t 31) (.t 36) (.c If))] [] []) (.cond (.t 37) (.reg [Iy 38 0,Iy 39 1,Ix 40 (.call 151 [(.t 38),(.t 39),(.c (Ik 8))])] [] []) .skip)) (.seq (.reg [Iy 41 0,Ix 42 (.nilCheck (.t 41)),Ix 43 (.fieldA 5 (.t 42)),Ix 44 (.load false 1 (.t 43)),Ix 45 (.bin .rem (.t 44) (.c (Ik 8))),Ix 46 (.bin .eql (.t 45) (.c (Ik 0)))] [] []) (.cond (.t 46) (.reg [Iy 47 0,Iy 48 1,Ix 49 (.call 151 [(.t 47),(.t 48),(.c (Ik 8))])] [] []) .skip))))),[]⟩
/- ctl.Node).closing -/
def ir129:IFn:=⟨(.block 0 (.seq (.reg [Iy 10 2,Ix 11 (.bin .eql (.t 10) (.c (Ik 1))),Iy 9 11] [] []) (.cond (.t 9) (.seq (.reg [Iy 12 0,Ix 13 (.nilCheck (.t 12)),Ix 14 (.fieldA 5 (.t 13)),Ix 15 (.load false 1 (.t 14)),Ix 16 (.bin .add (.t 15) (.c (Ik 1))),Ix 17 (.nilCheck (.t 12)),Ix 18 (.fieldA 5 (.t 17)),Iw (.store 1 (.t 18) (.t 16))] [] []) (.seq (.reg [Iy 19 0,Ix 20 (.nilCheck (.t 19)),Ix 21 (.fieldA 5 (.t 20)),Ix 22 (.load false 1 (.t 21)),Ix 23 (.bin .eql (.t 22) (.c (Ik 8)))] [] []) (.cond (.t 23) (.reg [Iy 24 0,Ix 25 (.call 143 [(.t 24),(.c (Ik 8))])] [] []) .skip))) (.seq (.reg [Iy 27 0,Ix 28 (.nilCheck (.t 27)),Ix 29 (.fieldA 5 (.t 28)),Ix 30 (.load false 1 (.t 29)),Ix 31 (.bin .eql (.t 30) (.c (Ik 7))),Iy 26 31] [] []) (.cond (.t 26) (.reg [Iy 32 0,Iy 33 1,Ix 34 (.call 147 [(.t 32),(.t 33)])] [] []) (.reg [Iy 6 0,Iy 7 1,Ix 8 (.call 145 [(.t 6),(.t 7),(.c (Ik 7)),(.c It)])] [] [])))))),[]⟩
/- ctl.Node).pause -/
def ir130:IFn:=⟨(.block 0 (.seq (.reg [Iy 25 2,Ix 26 (.bin .eql (.t 25) (.c (Ik 0))),Iy 27 26,Iv 27 true 28 (.copy (.t 0)),Iv 27 true 29 (.nilCheck (.t 28)),Iv 27 true 30 (.fieldA 5 (.t 29)),Iv 27 true 31 (.load false 1 (.t 30)),Iv 27 true 32 (.bin .lss (.t 31) (.c (Ik 2))),Ix 33 (.pick (.t 27) (.t 32) (.c If)),Iy 24 33] [] []) (.cond (.t 24) (.reg [Iy 34 0,Iy 35 1,Ix 36 (.call 147 [(.t 34),(.t 35)])] [] []) (.seq (.reg [Iy 38 2,Ix 39 (.bin .eql (.t 38) (.c (Ik 0))),Iy 37 39] [] []) (.cond (.t 37) (.reg [Iy 40 0,Iy 41 0,Ix 42 (.call 98 [(.t 41)]),Iy 43 42,Iv 43 true 44 (.copy (.t 0)),Iv 43 true 45 (.call 152 [(.t 44)]),Iv 43 true 46 (.un .not (.t 45)),Ix 47 (.pick (.t 43) (.t 46) (.c If)),Ix 48 (.call 144 [(.t 40),(.t 47)])] [] []) (.seq (.reg [Iy 6 0,Ix 7 (.nilCheck (.t 6)),Ix 8 (.fieldA 5 (.t 7)),Ix 9 (.load false 1 (.t 8)),Ix 10 (.bin .add (.t 9) (.c (Ik 1))),Ix 11 (.nilCheck (.t 6)),Ix 12 (.fieldA 5 (.t 11)),Iw (.store 1 (.t 12) (.t 10))] [] []) (.seq (.seq (.reg [Iy 13 0,Ix 14 (.nilCheck (.t 13)),Ix 15 (.fieldA 5 (.t 14)),Ix 16 (.load false 1 (.t 15)),Ix 17 (.bin .lss (.t 16) (.c (Ik 3)))] [] []) (.cond (.t 17) .ret .skip)) (.seq (.reg [Iy 18 0,Ix 19 (.call 152 [(.t 18)])] [] []) (.cond (.t 19) (.reg [Iy 20 0,Ix 21 (.call 143 [(.t 20),(.c (Ik 9))])] [] []) (.reg [Iy 22 0,Ix 23 (.call 143 [(.t 22),(.c (Ik 1))])] [] [])))))))))),[]⟩
/- ctl.Node).suspend -/
def ir131:IFn:=⟨(.seq (.seq (.reg [Iy 6 2,Ix 7 (.bin .eql (.t 6) (.c (Ik 0)))] [] []) (.cond (.t 7) (.seq (.reg [Iy 8 0,Ix 9 (.call 144 [(.t 8),(.c If)])] [] []) .ret) .skip)) (.seq (.reg [Iy 10 0,Ix 11 (.nilCheck (.t 10)),Ix 12 (.fieldA 5 (.t 11)),Ix 13 (.load false 1 (.t 12)),Ix 14 (.bin .add (.t 13) (.c (Ik 1))),Ix 15 (.nilCheck (.t 10)),Ix 16 (.fieldA 5 (.t 15)),Iw (.store 1 (.t 16) (.t 14))] [] []) (.seq (.reg [Iy 17 0,Ix 18 (.nilCheck (.t 17)),Ix 19 (.fieldA 5 (.t 18)),Ix 20 (.load false 1 (.t 19)),Ix 21 (.bin .eql (.t 20) (.c (Ik 8)))] [] []) (.cond (.t 21) (.reg [Iy 22 0,Ix 23 (.call 143 [(.t 22),(.c (Ik 1))])] [] []) .skip)))),[]⟩
/- ctl.Node).busOff -/
def ir132:IFn:=⟨(.seq (.seq (.reg [Iy 6 0,Ix 7 (.nilCheck (.t 6)),Ix 8 (.fieldA 5 (.t 7)),Ix 9 (.load false 1 (.t 8)),Ix 10 (.bin .add (.t 9) (.c (Ik 1))),Ix 11 (.nilCheck (.t 6)),Ix 12 (.fieldA 5 (.t 11)),Iw (.store 1 (.t 12) (.t 10))] [] []) (.seq (.reg [Iy 13 2,Ix 14 (.bin .eql (.t 13) (.c (Ik 0)))] [] []) (.cond (.t 14) (.reg [Iy 15 0,Ix 16 (.nilCheck (.t 15)),Ix 17 (.fieldA 5 (.t 16)),Iw (.store 1 (.t 17) (.c (Ik 0)))] [] []) .skip))) (.seq (.seq (.reg [Iy 18 0,Ix 19 (.nilCheck (.t 18)),Ix 20 (.fieldA 5 (.t 19)),Ix 21 (.load false 1 (.t 20)),Ix 22 (.bin .eql (.t 21) (.c (Ik 11)))] [] []) (.cond (.t 22) (.seq (.reg [Iy 23 0,Ix 24 (.nilCheck (.t 23)),Ix 25 (.fieldA 5 (.t 24)),Iw (.store 1 (.t 25) (.c (Ik 0)))] [] []) (.reg [Iy 26 0,Ix 27 (.nilCheck (.t 26)),Ix 28 (.fieldA 6 (.t 27)),Ix 29 (.load false 1 (.t 28)),Ix 30 (.bin .add (.t 29) (.c (Ik 1))),Ix 31 (.nilCheck (.t 26)),Ix 32 (.fieldA 6 (.t 31)),Iw (.store 1 (.t 32) (.t 30))] [] [])) .skip)) (.seq (.reg [Iy 33 0,Ix 34 (.nilCheck (.t 33)),Ix 35 (.fieldA 6 (.t 34)),Ix 36 (.load false 1 (.t 35)),Ix 37 (.bin .eql (.t 36) (.c (Ik 128)))] [] []) (.cond (.t 37) (.seq (.reg [Iy 38 0,Iy 39 0,Ix 40 (.nilCheck (.t 39)),Ix 41 (.fieldA 11 (.t 40)),Ix 42 (.load true 3 (.t 41)),Ix 43 (.call 153 [(.t 42)]),Ix 44 (.nilCheck (.t 38)),Ix 45 (.fieldA 11 (.t 44)),Iw (.store 3 (.t 45) (.t 43))] [] []) (.seq (.reg [Iy 46 0,Ix 47 (.nilCheck (.t 46)),Ix 48 (.fieldA 7 (.t 47)),Iw (.store 1 (.t 48) (.c If))] [] []) (.seq (.reg [Iy 49 0,Ix 50 (.call 143 [(.t 49),(.c (Ik 1))])] [] []) (.reg [Iy 51 1,Ix 52 (.call 150 [(.t 51),(.c (Ik 11))])] [] [])))) .skip)))),[]⟩
/- queue.row).put$1 -/
def ir133:IFn:=⟨(.seq (.reg [Ix 2 (.box 12 (.t 0)),Ix 3 (.copy (.c If))] [] []) (.seq (.reg [Ix 4 (.load true 12 (.t 1)),Ix 5 (.load true 12 (.t 2)),Ix 6 (.call 26 [(.t 4),(.t 5)]),Iy 3 6] [] []) .ret)),[.tmp 3]⟩
/- api.Frame] -/
def L134_0:ICode:=(.seq (.reg [Ix 9 (.bin .lss (.t 8) (.t 7))] [] []) (.seq (.cond (.t 9) .skip (.exit 0)) (.seq (.block 1 (.seq (.reg [Iy 10 8,Iy 5 10] [] []) (.seq (.reg [Iy 11 1,Iy 12 0,Iy 13 5,Ix 14 (.idxS 12 (.t 12) (.t 13)),Ix 15 (.load true 12 (.t 14)),Ix 16 (.callV (.t 11) [(.t 15)])] [] []) (.cond (.t 16) (.seq (.reg [Iy 17 5,Iy 4 17] [] []) .ret) .skip)))) (.reg [Ix 18 (.bin .add (.t 8) (.c (Ik 1))),Iy 8 18] [] []))))
def ir134:IFn:=⟨(.seq (.reg [Ix 4 (.copy (.c (Ik 0)))] [] []) (.seq (.seq (.reg [Iy 6 0,Ix 7 (.len (.t 6)),Ix 8 (.copy (.c (Ik 0)))] [] []) (.block 0 (.loop [0,1,7,8] L134_0))) (.seq (.reg [Ix 4 (.copy (.c (.lit (.int .i64 (-1)))))] [] []) .ret))),[.tmp 4]⟩
/- slices.IndexFunc[[]int,int] -/
def L136_0:ICode:=(.seq (.reg [Ix 9 (.bin .lss (.t 8) (.t 7))] [] []) (.seq (.cond (.t 9) .skip (.exit 0)) (.seq (.block 1 (.seq (.reg [Iy 10 8,Iy 5 10] [] []) (.seq (.reg [Iy 11 1,Iy 12 0,Iy 13 5,Ix 14 (.idxS 1 (.t 12) (.t 13)),Ix 15 (.load false 1 (.t 14)),Ix 16 (.callV (.t 11) [(.t 15)])] [] []) (.cond (.t 16) (.seq (.reg [Iy 17 5,Iy 4 17] [] []) .ret) .skip)))) (.reg [Ix 18 (.bin .add (.t 8) (.c (Ik 1))),Iy 8 18] [] []))))
def ir136:IFn:=⟨(.seq (.reg [Ix 4 (.copy (.c (Ik 0)))] [] []) (.seq (.seq (.reg [Iy 6 0,Ix 7 (.len (.t 6)),Ix 8 (.copy (.c (Ik 0)))] [] []) (.block 0 (.loop [0,1,7,8] L136_0))) (.seq (.reg [Ix 4 (.copy (.c (.lit (.int .i64 (-1)))))] [] []) .ret))),[.tmp 4]⟩
/- bits.Check$1 -/
def ir137:IFn:=⟨(.seq (.reg [Ix 2 (.copy (.c If))] [] []) (.seq (.reg [Iy 3 0,Ix 4 (.call 138 [(.t 3)]),Ix 5 (.un .not (.t 4)),Iy 2 5] [] []) .ret)),[.tmp 2]⟩
/- bits.level -/
def ir138:IFn:=⟨(.seq (.reg [Ix 2 (.copy (.c If))] [] []) (.seq (.reg [Iy 3 0,Ix 4 (.bin .eql (.t 3) (.c (Ik 0))),Iy 5 4,Iv 5 false 6 (.copy (.t 0)),Iv 5 false 7 (.bin .eql (.t 6) (.c (Ik 1))),Ix 8 (.pick (.t 5) (.c It) (.t 7)),Iy 2 8] [] []) .ret)),[.tmp 2]⟩
/- bits.Mul32 -/
def ir139:IFn:=⟨(.seq (.reg [Ix 4 (.copy (.c (.lit (.int .u32 0)))),Ix 5 (.copy (.c (.lit (.int .u32 0))))] [] []) (.seq (.reg [Iy 7 0,Ix 8 (.toInt .u64 (.t 7)),Iy 9 1,Ix 10 (.toInt .u64 (.t 9)),Ix 11 (.bin .mul (.t 8) (.t 10)),Iy 6 11] [] []) (.seq (.reg [Iy 12 6,Ix 13 (.bin .shr (.t 12) (.c (.lit (.int .u64 32)))),Ix 14 (.toInt .u32 (.t 13)),Iy 15 6,Ix 16 (.toInt .u32 (.t 15)),Iy 4 14,Iy 5 16] [] []) .ret))),[.tmp 4,.tmp 5]⟩
/- bits.Mul64 -/
def ir140:IFn:=⟨(.seq (.reg [Ix 4 (.copy (.c (.lit (.int .u64 0)))),Ix 5 (.copy (.c (.lit (.int .u64 0))))] [] []) (.seq (.reg [Iy 14 0,Ix 15 (.bin .and (.t 14) (.c (.lit (.int .u64 4294967295)))),Iy 6 15] [] []) (.seq (.reg [Iy 16 0,Ix 17 (.bin .shr (.t 16) (.c (.lit (.int .u64 32)))),Iy 7 17] [] []) (.seq (.reg [Iy 18 1,Ix 19 (.bin .and (.t 18) (.c (.lit (.int .u64 4294967295)))),Iy 8 19] [] []) (.seq (.reg [Iy 20 1,Ix 21 (.bin .shr (.t 20) (.c (.lit (.int .u64 32)))),Iy 9 21] [] []) (.seq (.reg [Iy 22 6,Iy 23 8,Ix 24 (.bin .mul (.t 22) (.t 23)),Iy 10 24] [] []) (.seq (.reg [Iy 25 7,Iy 26 8,Ix 27 (.bin .mul (.t 25) (.t 26)),Iy 28 10,Ix 29 (.bin .shr (.t 28) (.c (.lit (.int .u64 32)))),Ix 30 (.bin .add (.t 27) (.t 29)),Iy 11 30] [] []) (.seq (.reg [Iy 31 11,Ix 32 (.bin .and (.t 31) (.c (.lit (.int .u64 4294967295)))),Iy 12 32] [] []) (.seq (.reg [Iy 33 11,Ix 34 (.bin .shr (.t 33) (.c (.lit (.int .u64 32)))),Iy 13 34] [] []) (.seq (.reg [Iy 35 12,Iy 36 6,Iy 37 9,Ix 38 (.bin .mul (.t 36) (.t 37)),Ix 39 (.bin .add (.t 35) (.t 38)),Iy 12 39] [] []) (.seq (.reg [Iy 40 7,Iy 41 9,Ix 42 (.bin .mul (.t 40) (.t 41)),Iy 43 13,Ix 44 (.bin .add (.t 42) (.t 43)),Iy 45 12,Ix 46 (.bin .shr (.t 45) (.c (.lit (.int .u64 32)))),Ix 47 (.bin .add (.t 44) (.t 46)),Iy 4 47] [] []) (.seq (.reg [Iy 48 0,Iy 49 1,Ix 50 (.bin .mul (.t 48) (.t 49)),Iy 5 50] [] []) .ret)))))))))))),[.tmp 4,.tmp 5]⟩
/- cmp.isNaN[int] -/
def ir141:IFn:=⟨(.seq (.reg [Ix 2 (.copy (.c If))] [] []) (.seq (.reg [Iy 3 0,Iy 4 0,Ix 5 (.bin .neq (.t 3) (.t 4)),Iy 2 5] [] []) .ret)),[.tmp 2]⟩
/- slices.Equal[[]int,int] -/
def L142_0:ICode:=(.seq (.reg [Ix 14 (.bin .lss (.t 13) (.t 12))] [] []) (.seq (.cond (.t 14) .skip (.exit 0)) (.seq (.block 1 (.seq (.reg [Iy 15 13,Iy 5 15] [] []) (.seq (.reg [Iy 16 0,Iy 17 5,Ix 18 (.idxS 1 (.t 16) (.t 17)),Ix 19 (.load false 1 (.t 18)),Iy 20 1,Iy 21 5,Ix 22 (.idxS 1 (.t 20) (.t 21)),Ix 23 (.load false 1 (.t 22)),Ix 24 (.bin .neq (.t 19) (.t 23))] [] []) (.cond (.t 24) (.seq (.reg [Ix 4 (.copy (.c If))] [] []) .ret) .skip)))) (.reg [Ix 25 (.bin .add (.t 13) (.c (Ik 1))),Iy 13 25] [] []))))
def ir142:IFn:=⟨(.seq (.reg [Ix 4 (.copy (.c If))] [] []) (.seq (.seq (.reg [Iy 6 0,Ix 7 (.len (.t 6)),Iy 8 1,Ix 9 (.len (.t 8)),Ix 10 (.bin .neq (.t 7) (.t 9))] [] []) (.cond (.t 10) (.seq (.reg [Ix 4 (.copy (.c If))] [] []) .ret) .skip)) (.seq (.seq (.reg [Iy 11 0,Ix 12 (.len (.t 11)),Ix 13 (.copy (.c (Ik 0)))] [] []) (.block 0 (.loop [0,1,12,13] L142_0))) (.seq (.reg [Ix 4 (.copy (.c It))] [] []) .ret)))),[.tmp 4]⟩
/- ctl.Node).turn -/
def ir143:IFn:=⟨(.reg [Iy 4 0,Iy 5 0,Iy 6 1,Ix 7 (.nilCheck (.t 4)),Ix 8 (.fieldA 4 (.t 7)),Iw (.store 1 (.t 8) (.t 6)),Ix 9 (.nilCheck (.t 5)),Ix 10 (.fieldA 5 (.t 9)),Iw (.store 1 (.t 10) (.c (Ik 0)))] [] []),[]⟩
/- ctl.Node).start -/
def ir144:IFn:=⟨(.seq (.reg [Iy 4 0,Ix 5 (.call 143 [(.t 4),(.c (Ik 2))])] [] []) (.seq (.reg [Iy 6 0,Ix 7 (.build [nilS,(Ik 0),(Ik 0)] []),Ix 8 (.nilCheck (.t 6)),Ix 9 (.fieldA 0 (.t 8)),Iw (.store 3 (.t 9) (.t 7))] [] []) (.seq (.reg [Iy 10 0,Ix 11 (.nilCheck (.t 10)),Ix 12 (.fieldA 0 (.t 11)),Ix 13 (.call 148 [(.t 12),(.c (Ik 0))])] [] []) (.seq (.reg [Iy 14 0,Iy 15 0,Iy 16 1,Iy 17 1,Ix 18 (.nilCheck (.t 14)),Ix 19 (.fieldA 7 (.t 18)),Iw (.store 1 (.t 19) (.t 16)),Ix 20 (.nilCheck (.t 15)),Ix 21 (.fieldA 8 (.t 20)),Iw (.store 1 (.t 21) (.t 17))] [] []) (.seq (.reg [Iy 22 1] [] []) (.cond (.t 22) (.seq (.reg [Iy 24 0,Iy 25 0,Ix 26 (.nilCheck (.t 25)),Ix 27 (.fieldA 3 (.t 26)),Ix 28 (.load false 1 (.t 27)),Ix 29 (.call 156 [(.t 28)]),Iy 23 29,Ix 30 (.extract (.t 23) 0),Ix 31 (.extract (.t 23) 1),Ix 32 (.nilCheck (.t 24)),Ix 33 (.fieldA 14 (.t 32)),Iw (.store 12 (.t 33) (.t 30))] [] []) (.reg [Iy 35 0,Iy 36 0,Ix 37 (.nilCheck (.t 36)),Ix 38 (.fieldA 14 (.t 37)),Ix 39 (.load true 12 (.t 38)),Ix 40 (.call 51 [(.t 39)]),Iy 34 40,Ix 41 (.extract (.t 34) 0),Ix 42 (.extract (.t 34) 1),Ix 43 (.nilCheck (.t 35)),Ix 44 (.fieldA 26 (.t 43)),Iw (.store 1 (.t 44) (.t 41))] [] [])) .skip)))))),[]⟩
/- ctl.Node).fail -/
def ir145:IFn:=⟨(.seq (.reg [Iy 9 1,Iy 10 2,Ix 11 (.call 150 [(.t 9),(.t 10)])] [] []) (.seq (.reg [Iy 12 0,Ix 13 (.nilCheck (.t 12)),Ix 14 (.fieldA 11 (.t 13)),Ix 15 (.load true 3 (.t 14)),Ix 16 (.call 31 [(.t 15)]),Iy 8 16] [] []) (.seq (.seq (.reg [Iy 17 3,Iy 18 17,Iv 18 false 19 (.copy (.t 0)),Iv 18 false 20 (.nilCheck (.t 19)),Iv 18 false 21 (.fieldA 7 (.t 20)),Iv 18 false 22 (.load false 1 (.t 21)),Iv 18 false 23 (.un .not (.t 22)),Ix 24 (.pick (.t 18) (.c It) (.t 23)),Iy 25 24,Iv 25 true 26 (.copy (.t 0)),Iv 25 true 27 (.copy (.t 1)),Iv 25 true 28 (.call 151 [(.t 26),(.t 27),(.c (Ik 1))]),Iv 25 true 29 (.un .not (.t 28)),Ix 30 (.pick (.t 25) (.t 29) (.c If))] [] []) (.cond (.t 30) .ret .skip)) (.seq (.reg [Iy 31 0,Iy 32 0,Ix 33 (.nilCheck (.t 31)),Ix 34 (.fieldA 10 (.t 33)),Iw (.store 1 (.t 34) (.c It)),Ix 35 (.nilCheck (.t 32)),Ix 36 (.fieldA 9 (.t 35)),Iw (.store 1 (.t 36) (.c If))] [] []) (.seq (.reg [Iy 37 8,Ix 38 (.bin .eql (.t 37) (.c (Ik 0)))] [] []) (.cond (.t 38) (.reg [Iy 39 0,Ix 40 (.call 143 [(.t 39),(.c (Ik 3))])] [] []) (.reg [Iy 41 0,Ix 42 (.call 143 [(.t 41),(.c (Ik 4))])] [] []))))))),[]⟩
/- ctl.Node).differs -/
def ir146:IFn:=⟨(.seq (.reg [Ix 6 (.copy (.c If))] [] []) (.seq (.reg [Iy 11 0,Ix 12 (.nilCheck (.t 11)),Ix 13 (.fieldA 0 (.t 12)),Ix 14 (.call 121 [(.t 13)]),Iy 10 14,Ix 15 (.extract (.t 10) 0),Ix 16 (.extract (.t 10) 1),Ix 17 (.extract (.t 10) 2),Iy 7 15,Iy 8 16,Iy 9 17] [] []) (.seq (.block 0 (.seq (.reg [Iy 22 2,Ix 23 (.bin .eql (.t 22) (.c (Ik 0))),Iy 24 23,Iv 24 true 25 (.copy (.t 7)),Iv 24 true 26 (.bin .eql (.t 25) (.c (Ik 1))),Ix 27 (.pick (.t 24) (.t 26) (.c If)),Iy 28 27,Iv 28 true 29 (.copy (.t 9)),Iv 28 true 30 (.un .not (.t 29)),Ix 31 (.pick (.t 28) (.t 30) (.c If)),Iy 21 31] [] []) (.cond (.t 21) (.seq (.reg [Iy 32 0,Iy 33 0,Ix 34 (.nilCheck (.t 32)),Ix 35 (.fieldA 7 (.t 34)),Iw (.store 1 (.t 35) (.c If)),Ix 36 (.nilCheck (.t 33)),Ix 37 (.fieldA 8 (.t 36)),Iw (.store 1 (.t 37) (.c If))] [] []) (.seq (.reg [Iy 38 1,Ix 39 (.call 150 [(.t 38),(.c (Ik 3))])] [] []) (.seq (.reg [Ix 6 (.copy (.c It))] [] []) .ret))) (.seq (.reg [Iy 41 2,Ix 42 (.bin .eql (.t 41) (.c (Ik 0))),Iy 43 42,Iv 43 true 44 (.copy (.t 7)),Iv 43 true 45 (.bin .eql (.t 44) (.c (Ik 1))),Ix 46 (.pick (.t 43) (.t 45) (.c If)),Iy 40 46] [] []) (.cond (.t 40) (.reg [Iy 47 0,Iy 48 1,Ix 49 (.call 145 [(.t 47),(.t 48),(.c (Ik 5)),(.c If)])] [] []) (.seq (.reg [Iy 51 2,Ix 52 (.bin .eql (.t 51) (.c (Ik 0))),Iy 53 52,Iv 53 true 54 (.copy (.t 7)),Iv 53 true 55 (.bin .eql (.t 54) (.c (Ik 6))),Ix 56 (.pick (.t 53) (.t 55) (.c If)),Iy 50 56] [] []) (.cond (.t 50) (.seq (.reg [Ix 6 (.copy (.c It))] [] []) .ret) (.reg [Iy 18 0,Iy 19 1,Ix 20 (.call 145 [(.t 18),(.t 19),(.c (Ik 4)),(.c It)])] [] [])))))))) (.seq (.reg [Ix 6 (.copy (.c If))] [] []) .ret)))),[.tmp 6]⟩
/- ctl.Node).over -/
def ir147:IFn:=⟨(.seq (.reg [Iy 4 1,Ix 5 (.call 150 [(.t 4),(.c (Ik 9))])] [] []) (.seq (.reg [Iy 6 0,Ix 7 (.nilCheck (.t 6)),Ix 8 (.fieldA 10 (.t 7)),Iw (.store 1 (.t 8) (.c If))] [] []) (.reg [Iy 9 0,Ix 10 (.call 143 [(.t 9),(.c (Ik 5))])] [] []))),[]⟩
/- ctl.reader).take -/
def ir148:IFn:=⟨(.seq (.reg [Ix 4 (.copy (.c If))] [] []) (.seq (.reg [Iy 9 0,Ix 10 (.call 121 [(.t 9)]),Iy 8 10,Ix 11 (.extract (.t 8) 0),Ix 12 (.extract (.t 8) 1),Ix 13 (.extract (.t 8) 2),Iy 5 11,Iy 6 12,Iy 7 13] [] []) (.seq (.block 0 (.seq (.reg [Iy 22 7,Iy 23 22,Iv 23 true 24 (.copy (.t 1)),Iv 23 true 25 (.copy (.t 0)),Iv 23 true 26 (.nilCheck (.t 25)),Iv 23 true 27 (.fieldA 1 (.t 26)),Iv 23 true 28 (.load false 1 (.t 27)),Iv 23 true 29 (.bin .eql (.t 24) (.t 28)),Ix 30 (.pick (.t 23) (.t 29) (.c If)),Iy 21 30] [] []) (.cond (.t 21) (.seq (.reg [Ix 4 (.copy (.c If))] [] []) .ret) (.seq (.reg [Iy 32 7,Iy 31 32] [] []) (.cond (.t 31) (.seq (.reg [Iy 33 0,Iy 34 0,Iy 35 1,Ix 36 (.nilCheck (.t 33)),Ix 37 (.fieldA 1 (.t 36)),Iw (.store 1 (.t 37) (.t 35)),Ix 38 (.nilCheck (.t 34)),Ix 39 (.fieldA 2 (.t 38)),Iw (.store 1 (.t 39) (.c (Ik 1)))] [] []) (.seq (.reg [Ix 4 (.copy (.c It))] [] []) .ret)) (.seq (.reg [Iy 41 5,Ix 42 (.bin .gtr (.t 41) (.c (Ik 4))),Iy 40 42] [] []) (.cond (.t 40) (.reg [Iy 43 0,Ix 44 (.nilCheck (.t 43)),Ix 45 (.fieldA 2 (.t 44)),Iw (.store 1 (.t 45) (.c (Ik 0)))] [] []) (.seq (.reg [Iy 47 0,Ix 48 (.nilCheck (.t 47)),Ix 49 (.fieldA 2 (.t 48)),Ix 50 (.load false 1 (.t 49)),Ix 51 (.bin .gtr (.t 50) (.c (Ik 0))),Iy 52 51,Iv 52 true 53 (.copy (.t 1)),Iv 52 true 54 (.copy (.t 0)),Iv 52 true 55 (.nilCheck (.t 54)),Iv 52 true 56 (.fieldA 1 (.t 55)),Iv 52 true 57 (.load false 1 (.t 56)),Iv 52 true 58 (.bin .eql (.t 53) (.t 57)),Ix 59 (.pick (.t 52) (.t 58) (.c If)),Iy 46 59] [] []) (.cond (.t 46) (.reg [Iy 60 0,Ix 61 (.nilCheck (.t 60)),Ix 62 (.fieldA 2 (.t 61)),Ix 63 (.load false 1 (.t 62)),Ix 64 (.bin .add (.t 63) (.c (Ik 1))),Ix 65 (.nilCheck (.t 60)),Ix 66 (.fieldA 2 (.t 65)),Iw (.store 1 (.t 66) (.t 64))] [] []) (.reg [Iy 14 0,Iy 15 0,Iy 16 1,Ix 17 (.nilCheck (.t 14)),Ix 18 (.fieldA 1 (.t 17)),Iw (.store 1 (.t 18) (.t 16)),Ix 19 (.nilCheck (.t 15)),Ix 20 (.fieldA 2 (.t 19)),Iw (.store 1 (.t 20) (.c (Ik 1)))] [] [])))))))))) (.seq (.reg [Iy 67 0,Iy 68 0,Ix 69 (.nilCheck (.t 68)),Ix 70 (.fieldA 0 (.t 69)),Ix 71 (.load false 1 (.t 70)),Iy 72 1,Ix 73 (.mkSlice true 1 [(Ik 0)] 1 [(0,(.t 72))]),Ix 74 (.append true 1 8 (.t 71) (.t 73)),Ix 75 (.nilCheck (.t 67)),Ix 76 (.fieldA 0 (.t 75)),Iw (.store 1 (.t 76) (.t 74))] [] []) (.seq (.reg [Ix 4 (.copy (.c It))] [] []) .ret))))),[.tmp 4]⟩
/- ctl.Node).end -/
def ir149:IFn:=⟨(.block 0 (.seq (.reg [Iy 7 2,Ix 8 (.bin .eql (.t 7) (.c (Ik 5))),Iy 9 8,Iv 9 true 10 (.copy (.t 0)),Iv 9 true 11 (.nilCheck (.t 10)),Iv 9 true 12 (.fieldA 8 (.t 11)),Iv 9 true 13 (.load false 1 (.t 12)),Iv 9 true 14 (.un .not (.t 13)),Ix 15 (.pick (.t 9) (.t 14) (.c If)),Iy 6 15] [] []) (.cond (.t 6) (.seq (.reg [Iy 16 0,Iy 17 0,Ix 18 (.nilCheck (.t 17)),Ix 19 (.fieldA 11 (.t 18)),Ix 20 (.load true 3 (.t 19)),Ix 21 (.call 157 [(.t 20)]),Ix 22 (.nilCheck (.t 16)),Ix 23 (.fieldA 11 (.t 22)),Iw (.store 3 (.t 23) (.t 21))] [] []) (.seq (.reg [Iy 25 1,Iy 26 0,Ix 27 (.nilCheck (.t 26)),Ix 28 (.fieldA 0 (.t 27)),Ix 29 (.fieldA 0 (.t 28)),Ix 30 (.load false 1 (.t 29)),Ix 31 (.call 57 [(.t 30)]),Iy 24 31,Ix 32 (.extract (.t 24) 0),Ix 33 (.extract (.t 24) 1),Ix 34 (.nilCheck (.t 25)),Ix 35 (.fieldA 1 (.t 34)),Iw (.store 12 (.t 35) (.t 32))] [] []) (.reg [Iy 36 1,Ix 37 (.call 150 [(.t 36),(.c (Ik 2))])] [] []))) (.seq (.reg [Iy 39 2,Ix 40 (.bin .eql (.t 39) (.c (Ik 6))),Iy 38 40] [] []) (.cond (.t 38) (.seq (.seq (.reg [Iy 41 0,Ix 42 (.nilCheck (.t 41)),Ix 43 (.fieldA 8 (.t 42)),Ix 44 (.load false 1 (.t 43))] [] []) (.cond (.t 44) (.seq (.reg [Iy 45 0,Iy 46 0,Ix 47 (.nilCheck (.t 46)),Ix 48 (.fieldA 11 (.t 47)),Ix 49 (.load true 3 (.t 48)),Ix 50 (.call 158 [(.t 49)]),Ix 51 (.nilCheck (.t 45)),Ix 52 (.fieldA 11 (.t 51)),Iw (.store 3 (.t 52) (.t 50))] [] []) (.seq (.reg [Iy 53 0,Ix 54 (.nilCheck (.t 53)),Ix 55 (.fieldA 3 (.t 54)),Ix 56 (.load false 1 (.t 55)),Iy 57 0,Ix 58 (.nilCheck (.t 57)),Ix 59 (.fieldA 14 (.t 58)),Ix 60 (.load true 12 (.t 59)),Ix 61 (.call 159 [(.t 56),(.t 60)])] [] []) (.seq (.reg [Iy 62 1,Iy 63 0,Ix 64 (.nilCheck (.t 63)),Ix 65 (.fieldA 14 (.t 64)),Ix 66 (.load true 12 (.t 65)),Ix 67 (.nilCheck (.t 62)),Ix 68 (.fieldA 1 (.t 67)),Iw (.store 12 (.t 68) (.t 66))] [] []) (.reg [Iy 69 1,Ix 70 (.call 150 [(.t 69),(.c (Ik 1))])] [] [])))) .skip)) (.reg [Iy 71 0,Ix 72 (.call 143 [(.t 71),(.c (Ik 8))])] [] [])) .skip))))),[]⟩
/- ctl.told).tell -/
def ir150:IFn:=⟨(.reg [Iy 4 0,Iy 5 0,Ix 6 (.nilCheck (.t 5)),Ix 7 (.fieldA 0 (.t 6)),Ix 8 (.load false 1 (.t 7)),Iy 9 1,Ix 10 (.mkSlice true 1 [(Ik 0)] 1 [(0,(.t 9))]),Ix 11 (.append true 1 8 (.t 8) (.t 10)),Ix 12 (.nilCheck (.t 4)),Ix 13 (.fieldA 0 (.t 12)),Iw (.store 1 (.t 13) (.t 11))] [] []),[]⟩
/- ctl.Node).charge -/
def ir151:IFn:=⟨(.seq (.reg [Ix 6 (.copy (.c If))] [] []) (.seq (.seq (.reg [Iy 7 0,Ix 8 (.nilCheck (.t 7)),Ix 9 (.fieldA 7 (.t 8)),Ix 10 (.load false 1 (.t 9))] [] []) (.cond (.t 10) (.reg [Iy 11 0,Iy 12 0,Ix 13 (.nilCheck (.t 12)),Ix 14 (.fieldA 11 (.t 13)),Ix 15 (.load true 3 (.t 14)),Ix 16 (.call 160 [(.t 15)]),Ix 17 (.nilCheck (.t 11)),Ix 18 (.fieldA 11 (.t 17)),Iw (.store 3 (.t 18) (.t 16))] [] []) (.reg [Iy 19 0,Iy 20 0,Ix 21 (.nilCheck (.t 20)),Ix 22 (.fieldA 11 (.t 21)),Ix 23 (.load true 3 (.t 22)),Iy 24 2,Ix 25 (.call 161 [(.t 23),(.t 24)]),Ix 26 (.nilCheck (.t 19)),Ix 27 (.fieldA 11 (.t 26)),Iw (.store 3 (.t 27) (.t 25))] [] []))) (.seq (.seq (.reg [Iy 28 0,Ix 29 (.nilCheck (.t 28)),Ix 30 (.fieldA 11 (.t 29)),Ix 31 (.load true 3 (.t 30)),Ix 32 (.call 31 [(.t 31)]),Ix 33 (.bin .neq (.t 32) (.c (Ik 2)))] [] []) (.cond (.t 33) (.seq (.reg [Ix 6 (.copy (.c It))] [] []) .ret) .skip)) (.seq (.reg [Iy 34 0,Ix 35 (.call 143 [(.t 34),(.c (Ik 10))])] [] []) (.seq (.reg [Iy 36 0,Ix 37 (.nilCheck (.t 36)),Ix 38 (.fieldA 6 (.t 37)),Iw (.store 1 (.t 38) (.c (Ik 0)))] [] []) (.seq (.reg [Iy 39 1,Ix 40 (.call 150 [(.t 39),(.c (Ik 10))])] [] []) (.seq (.reg [Ix 6 (.copy (.c If))] [] []) .ret))))))),[.tmp 6]⟩
/- ctl.Node).late -/
def ir152:IFn:=⟨(.seq (.reg [Ix 2 (.copy (.c If))] [] []) (.seq (.reg [Iy 3 0,Ix 4 (.nilCheck (.t 3)),Ix 5 (.fieldA 7 (.t 4)),Ix 6 (.load false 1 (.t 5)),Iy 7 6,Iv 7 true 8 (.copy (.t 0)),Iv 7 true 9 (.nilCheck (.t 8)),Iv 7 true 10 (.fieldA 11 (.t 9)),Iv 7 true 11 (.load true 3 (.t 10)),Iv 7 true 12 (.call 31 [(.t 11)]),Iv 7 true 13 (.bin .eql (.t 12) (.c (Ik 1))),Ix 14 (.pick (.t 7) (.t 13) (.c If)),Iy 2 14] [] []) .ret)),[.tmp 2]⟩
/- count.Back -/
def ir153:IFn:=⟨(.seq (.reg [Ix 1 (.box 3 (.t 0)),Ix 2 (.alloc [(Ik 0),(Ik 0),If])] [] []) (.seq (.reg [Ix 3 (.build [(Ik 0),(Ik 0),If] []),Iw (.store 3 (.t 2) (.t 3))] [] []) .ret)),[.cell 2 true 3]⟩
/- queue.Queue).First -/
def ir156:IFn:=⟨(.seq (.reg [Ix 2 (.alloc [(Ik 0),If,If,(Ik 0),(.lit (.int .u8 0)),(.lit (.int .u8 0)),(.lit (.int .u8 0)),(.lit (.int .u8 0)),(.lit (.int .u8 0)),(.lit (.int .u8 0)),(.lit (.int .u8 0)),(.lit (.int .u8 0))]),Ix 3 (.copy (.c If))] [] []) (.seq (.seq (.reg [Iy 4 0,Ix 5 (.isNil false .ptr (.t 4)),Iy 6 5,Iv 6 false 7 (.copy (.t 0)),Iv 6 false 8 (.nilCheck (.t 7)),Iv 6 false 9 (.fieldA 0 (.t 8)),Iv 6 false 10 (.call 101 [(.t 9)]),Iv 6 false 11 (.bin .eql (.t 10) (.c (Ik 0))),Ix 12 (.pick (.t 6) (.c It) (.t 11))] [] []) (.cond (.t 12) (.seq (.reg [Ix 13 (.build [(Ik 0),If,If,(Ik 0),(.lit (.int .u8 0)),(.lit (.int .u8 0)),(.lit (.int .u8 0)),(.lit (.int .u8 0)),(.lit (.int .u8 0)),(.lit (.int .u8 0)),(.lit (.int .u8 0)),(.lit (.int .u8 0))] []),Iw (.store 12 (.t 2) (.t 13)),Ix 3 (.copy (.c If))] [] []) .ret) .skip)) (.seq (.reg [Iy 14 0,Ix 15 (.nilCheck (.t 14)),Ix 16 (.fieldA 0 (.t 15)),Ix 17 (.fieldA 0 (.t 16)),Ix 18 (.load false 1 (.t 17)),Ix 19 (.idxS 12 (.t 18) (.c (Ik 0))),Ix 20 (.load true 12 (.t 19)),Iw (.store 12 (.t 2) (.t 20)),Ix 3 (.copy (.c It))] [] []) .ret))),[.cell 2 true 12,.tmp 3]⟩
/- count.Received -/
def ir157:IFn:=⟨(.seq (.reg [Ix 1 (.box 3 (.t 0)),Ix 2 (.alloc [(Ik 0),(Ik 0),If])] [] []) (.seq (.reg [Ix 4 (.load true 3 (.t 1)),Ix 5 (.build [(Ik 0),(Ik 0),If] [(0,3,(.t 4))]),Ix 6 (.box 3 (.t 5)),Iy 3 6] [] []) (.seq (.reg [Iy 7 3,Iy 8 3,Ix 9 (.mkFunc (.func 164) [(.t 8)] []),Ix 10 (.call 163 [(.t 7),(.t 9)]),Iw (.store 3 (.t 2) (.t 10))] [] []) .ret))),[.cell 2 true 3]⟩
/- count.Sent -/
def ir158:IFn:=⟨(.seq (.reg [Ix 1 (.box 3 (.t 0)),Ix 2 (.alloc [(Ik 0),(Ik 0),If])] [] []) (.seq (.reg [Ix 4 (.load true 3 (.t 1)),Ix 5 (.build [(Ik 0),(Ik 0),If] [(0,3,(.t 4))]),Ix 6 (.box 3 (.t 5)),Iy 3 6] [] []) (.seq (.reg [Iy 7 3,Iy 8 3,Ix 9 (.mkFunc (.func 165) [(.t 8)] []),Ix 10 (.call 163 [(.t 7),(.t 9)]),Iw (.store 3 (.t 2) (.t 10))] [] []) .ret))),[.cell 2 true 3]⟩
/- queue.Queue).Drop -/
def ir159:IFn:=⟨(.seq (.reg [Ix 3 (.box 12 (.t 1)),Ix 4 (.copy (.c (Ik 0)))] [] []) (.seq (.block 0 (.seq (.reg [Iy 6 0,Ix 7 (.isNil false .ptr (.t 6)),Iy 5 7] [] []) (.cond (.t 5) (.seq (.reg [Ix 4 (.copy (.c (Ik 2)))] [] []) .ret) (.seq (.reg [Iy 9 0,Ix 10 (.nilCheck (.t 9)),Ix 11 (.fieldA 0 (.t 10)),Ix 12 (.load true 12 (.t 3)),Ix 13 (.call 166 [(.t 11),(.t 12)]),Ix 14 (.un .not (.t 13)),Iy 8 14] [] []) (.cond (.t 8) (.seq (.reg [Ix 4 (.copy (.c (Ik 16)))] [] []) .ret) .skip))))) (.seq (.reg [Ix 4 (.copy (.c (Ik 0)))] [] []) .ret))),[.tmp 4]⟩
/- count.Tx -/
def ir160:IFn:=⟨(.seq (.reg [Ix 1 (.box 3 (.t 0)),Ix 2 (.alloc [(Ik 0),(Ik 0),If])] [] []) (.seq (.reg [Ix 4 (.load true 3 (.t 1)),Ix 5 (.build [(Ik 0),(Ik 0),If] [(0,3,(.t 4))]),Ix 6 (.box 3 (.t 5)),Iy 3 6] [] []) (.seq (.reg [Iy 7 3,Iy 8 3,Ix 9 (.mkFunc (.func 167) [(.t 8)] []),Ix 10 (.call 163 [(.t 7),(.t 9)]),Iw (.store 3 (.t 2) (.t 10))] [] []) .ret))),[.cell 2 true 3]⟩
/- count.Rx -/
def ir161:IFn:=⟨(.seq (.reg [Ix 2 (.box 3 (.t 0)),Ix 3 (.box 1 (.t 1)),Ix 4 (.alloc [(Ik 0),(Ik 0),If])] [] []) (.seq (.reg [Ix 6 (.load true 3 (.t 2)),Ix 7 (.build [(Ik 0),(Ik 0),If] [(0,3,(.t 6))]),Ix 8 (.box 3 (.t 7)),Ix 5 (.alloc [(.lit (.pointer none))]),Iw (.store 1 (.t 5) (.t 8))] [] []) (.seq (.seq (.reg [Ix 9 (.load false 1 (.t 3)),Ix 10 (.bin .neq (.t 9) (.c (Ik 1))),Iy 11 10,Iv 11 true 12 (.load false 1 (.t 3)),Iv 11 true 13 (.bin .neq (.t 12) (.c (Ik 8))),Ix 14 (.pick (.t 11) (.t 13) (.c If))] [] []) (.cond (.t 14) (.seq (.reg [Ix 15 (.load true 3 (.t 2)),Iw (.store 3 (.t 4) (.t 15))] [] []) .ret) .skip)) (.seq (.reg [Ix 16 (.load false 1 (.t 5)),Ix 17 (.mkFunc (.func 168) [] [(.t 5),(.t 3)]),Ix 18 (.call 163 [(.t 16),(.t 17)]),Iw (.store 3 (.t 4) (.t 18))] [] []) .ret)))),[.cell 4 true 3]⟩
/- count.turn).runs -/
def ir163:IFn:=⟨(.seq (.reg [Ix 4 (.alloc [(Ik 0),(Ik 0),If])] [] []) (.seq (.seq (.reg [Iy 5 0,Ix 6 (.nilCheck (.t 5)),Ix 7 (.fieldA 0 (.t 6)),Ix 8 (.load true 3 (.t 7)),Ix 9 (.call 170 [(.t 8)]),Ix 10 (.bin .eql (.t 9) (.c (Ik 0))),Iy 11 10,Iv 11 true 12 (.copy (.t 0)),Iv 11 true 13 (.nilCheck (.t 12)),Iv 11 true 14 (.fieldA 0 (.t 13)),Iv 11 true 15 (.fieldA 2 (.t 14)),Iv 11 true 16 (.load false 1 (.t 15)),Iv 11 true 17 (.un .not (.t 16)),Ix 18 (.pick (.t 11) (.t 17) (.c If))] [] []) (.cond (.t 18) (.reg [Iy 19 1,Ix 20 (.callV (.t 19) [])] [] []) .skip)) (.seq (.reg [Iy 21 0,Ix 22 (.nilCheck (.t 21)),Ix 23 (.fieldA 0 (.t 22)),Ix 24 (.load true 3 (.t 23)),Iw (.store 3 (.t 4) (.t 24))] [] []) .ret))),[.cell 4 true 3]⟩
/- count.turn).received -/
def ir164:IFn:=⟨(.seq (.seq (.reg [Iy 2 0,Ix 3 (.nilCheck (.t 2)),Ix 4 (.fieldA 0 (.t 3)),Ix 5 (.fieldA 1 (.t 4)),Ix 6 (.load false 1 (.t 5)),Ix 7 (.bin .gtr (.t 6) (.c (Ik 127)))] [] []) (.cond (.t 7) (.seq (.reg [Iy 8 0,Ix 9 (.nilCheck (.t 8)),Ix 10 (.fieldA 0 (.t 9)),Ix 11 (.fieldA 1 (.t 10)),Iw (.store 1 (.t 11) (.c (Ik 119)))] [] []) .ret) .skip)) (.reg [Iy 12 0,Iy 13 0,Ix 14 (.nilCheck (.t 13)),Ix 15 (.fieldA 0 (.t 14)),Ix 16 (.fieldA 1 (.t 15)),Ix 17 (.load false 1 (.t 16)),Ix 18 (.bin .sub (.t 17) (.c (Ik 1))),Ix 19 (.maxI (.t 18) [(.c (Ik 0))]),Ix 20 (.nilCheck (.t 12)),Ix 21 (.fieldA 0 (.t 20)),Ix 22 (.fieldA 1 (.t 21)),Iw (.store 1 (.t 22) (.t 19))] [] [])),[]⟩
/- count.turn).sent -/
def ir165:IFn:=⟨(.reg [Iy 2 0,Iy 3 0,Ix 4 (.nilCheck (.t 3)),Ix 5 (.fieldA 0 (.t 4)),Ix 6 (.fieldA 0 (.t 5)),Ix 7 (.load false 1 (.t 6)),Ix 8 (.bin .sub (.t 7) (.c (Ik 1))),Ix 9 (.maxI (.t 8) [(.c (Ik 0))]),Ix 10 (.nilCheck (.t 2)),Ix 11 (.fieldA 0 (.t 10)),Ix 12 (.fieldA 0 (.t 11)),Iw (.store 1 (.t 12) (.t 9))] [] []),[]⟩
/- queue.row).drop -/
def ir166:IFn:=⟨(.seq (.reg [Ix 3 (.box 12 (.t 1)),Ix 4 (.copy (.c If))] [] []) (.seq (.reg [Iy 6 0,Ix 7 (.nilCheck (.t 6)),Ix 8 (.fieldA 0 (.t 7)),Ix 9 (.load false 1 (.t 8)),Ix 10 (.load true 12 (.t 3)),Ix 11 (.callU 171 [(.t 9),(.t 10)]),Iy 5 11] [] []) (.seq (.seq (.reg [Iy 12 5,Ix 13 (.bin .lss (.t 12) (.c (Ik 0)))] [] []) (.cond (.t 13) (.seq (.reg [Ix 4 (.copy (.c If))] [] []) .ret) .skip)) (.seq (.reg [Iy 14 0,Iy 15 0,Ix 16 (.nilCheck (.t 15)),Ix 17 (.fieldA 0 (.t 16)),Ix 18 (.load false 1 (.t 17)),Iy 19 5,Iy 20 5,Ix 21 (.bin .add (.t 20) (.c (Ik 1))),Ix 22 (.callL .del true 12 32 172 [(.t 18),(.t 19),(.t 21)]),Ix 23 (.nilCheck (.t 14)),Ix 24 (.fieldA 0 (.t 23)),Iw (.store 1 (.t 24) (.t 22))] [] []) (.seq (.reg [Ix 4 (.copy (.c It))] [] []) .ret))))),[.tmp 4]⟩
/- count.turn).tx -/
def ir167:IFn:=⟨(.seq (.reg [Iy 2 0,Ix 3 (.nilCheck (.t 2)),Ix 4 (.fieldA 0 (.t 3)),Ix 5 (.fieldA 0 (.t 4)),Ix 6 (.load false 1 (.t 5)),Ix 7 (.bin .add (.t 6) (.c (Ik 8))),Ix 8 (.nilCheck (.t 2)),Ix 9 (.fieldA 0 (.t 8)),Ix 10 (.fieldA 0 (.t 9)),Iw (.store 1 (.t 10) (.t 7))] [] []) (.seq (.reg [Iy 11 0,Ix 12 (.nilCheck (.t 11)),Ix 13 (.fieldA 0 (.t 12)),Ix 14 (.fieldA 0 (.t 13)),Ix 15 (.load false 1 (.t 14)),Ix 16 (.bin .gtr (.t 15) (.c (Ik 255)))] [] []) (.cond (.t 16) (.reg [Iy 17 0,Iy 18 0,Ix 19 (.nilCheck (.t 17)),Ix 20 (.fieldA 0 (.t 19)),Ix 21 (.fieldA 0 (.t 20)),Iw (.store 1 (.t 21) (.c (Ik 256))),Ix 22 (.nilCheck (.t 18)),Ix 23 (.fieldA 0 (.t 22)),Ix 24 (.fieldA 2 (.t 23)),Iw (.store 1 (.t 24) (.c It))] [] []) .skip))),[]⟩
/- count.Rx$1 -/
def ir168:IFn:=⟨(.reg [Ix 2 (.load false 1 (.t 0)),Ix 3 (.load false 1 (.t 0)),Ix 4 (.nilCheck (.t 3)),Ix 5 (.fieldA 0 (.t 4)),Ix 6 (.fieldA 1 (.t 5)),Ix 7 (.load false 1 (.t 6)),Ix 8 (.load false 1 (.t 1)),Ix 9 (.bin .add (.t 7) (.t 8)),Ix 10 (.minI (.t 9) [(.c (Ik 255))]),Ix 11 (.nilCheck (.t 2)),Ix 12 (.fieldA 0 (.t 11)),Ix 13 (.fieldA 1 (.t 12)),Iw (.store 1 (.t 13) (.t 10))] [] []),[]⟩
/- count.Check -/
def ir170:IFn:=⟨(.seq (.reg [Ix 1 (.box 3 (.t 0)),Ix 2 (.copy (.c (Ik 0)))] [] []) (.seq (.seq (.reg [Ix 3 (.fieldA 1 (.t 1)),Ix 4 (.load false 1 (.t 3)),Ix 5 (.call 173 [(.t 4),(.c (Ik 255))]),Ix 6 (.un .not (.t 5)),Iy 7 6,Iv 7 false 8 (.fieldA 0 (.t 1)),Iv 7 false 9 (.load false 1 (.t 8)),Iv 7 false 10 (.call 173 [(.t 9),(.c (Ik 256))]),Iv 7 false 11 (.un .not (.t 10)),Ix 12 (.pick (.t 7) (.c It) (.t 11)),Iy 13 12,Iv 13 false 14 (.fieldA 2 (.t 1)),Iv 13 false 15 (.load false 1 (.t 14)),Iv 13 false 16 (.fieldA 0 (.t 1)),Iv 13 false 17 (.load false 1 (.t 16)),Iv 13 false 18 (.bin .gtr (.t 17) (.c (Ik 255))),Iv 13 false 19 (.eqB true (.t 15) (.t 18)),Ix 20 (.pick (.t 13) (.c It) (.t 19))] [] []) (.cond (.t 20) (.seq (.reg [Ix 2 (.copy (.c (Ik 10)))] [] []) .ret) .skip)) (.seq (.reg [Ix 2 (.copy (.c (Ik 0)))] [] []) .ret))),[.tmp 2]⟩
/- api.Frame] -/
def L171_0:ICode:=(.seq (.reg [Ix 9 (.bin .lss (.t 8) (.t 7))] [] []) (.seq (.cond (.t 9) .skip (.exit 0)) (.seq (.block 1 (.seq (.reg [Iy 10 8,Iy 5 10] [] []) (.seq (.reg [Ix 11 (.load true 12 (.t 3)),Iy 12 0,Iy 13 5,Ix 14 (.idxS 12 (.t 12) (.t 13)),Ix 15 (.load true 12 (.t 14)),Ix 16 (.eqA false [(0,.i),(1,.b),(2,.b),(3,.i),(4,.i),(5,.i),(6,.i),(7,.i),(8,.i),(9,.i),(10,.i),(11,.i)] (.t 11) (.t 15))] [] []) (.cond (.t 16) (.seq (.reg [Iy 17 5,Iy 4 17] [] []) .ret) .skip)))) (.reg [Ix 18 (.bin .add (.t 8) (.c (Ik 1))),Iy 8 18] [] []))))
def ir171:IFn:=⟨(.seq (.reg [Ix 3 (.box 12 (.t 1)),Ix 4 (.copy (.c (Ik 0)))] [] []) (.seq (.seq (.reg [Iy 6 0,Ix 7 (.len (.t 6)),Ix 8 (.copy (.c (Ik 0)))] [] []) (.block 0 (.loop [0,3,7,8] L171_0))) (.seq (.reg [Ix 4 (.copy (.c (.lit (.int .i64 (-1)))))] [] []) .ret))),[.tmp 4]⟩
/- count.within -/
def ir173:IFn:=⟨(.seq (.reg [Ix 4 (.copy (.c If))] [] []) (.seq (.reg [Iy 5 0,Ix 6 (.bin .geq (.t 5) (.c (Ik 0))),Iy 7 6,Iv 7 true 8 (.copy (.t 0)),Iv 7 true 9 (.copy (.t 1)),Iv 7 true 10 (.bin .leq (.t 8) (.t 9)),Ix 11 (.pick (.t 7) (.t 10) (.c If)),Iy 4 11] [] []) .ret)),[.tmp 4]⟩
def lives:Nat->List (List Nat)
 | 8=>[[1000000,2,4,7,10,11],[1000000,2,4,7,10,11,12,14,16],[1000000,4,7,10,17]]
 | 15=>[[0,14,15,16]]
 | 17=>[[1,10,12,45,46,47],[10,12,15,16,62,63],[10,12,15,16,18,62,63,68,69,70]]
 | 18=>[[4,13,14]]
 | 19=>[[0,1,5]]
 | 38=>[[3,12,13,14]]
 | 39=>[[1,21,22,23]]
 | 40=>[[0,1,15,16,17],[0,10,11,27,28,29]]
 | 42=>[[0,1,2,3,8,11,41,42,43],[0,1,2,8,15,16,73,74],[0,1,2,8,15,16,17,73,74,103,104,105]]
 | 53=>[[0,3,4]]
 | 57=>[[0,2,6,8,61,62]]
 | 58=>[[3,8]]
 | 64=>[[3,7,8,9]]
 | 65=>[[4,20,21,22]]
 | 67=>[[4,7,8,9]]
 | 68=>[[7,8,9,14,15,16]]
 | 71=>[[6,7,31,32,33]]
 | 76=>[[3,5,19,20,21]]
 | 78=>[[6,7,8,39,40,41]]
 | 79=>[[0,4,5,12,13]]
 | 81=>[[0,3,9,10,11],[6,25,26,27]]
 | 82=>[[7,8]]
 | 84=>[[0,1,9,10,11]]
 | 85=>[[5,8,51,52]]
 | 108=>[[0,1,6,16,17]]
 | 118=>[[4,15,16,17]]
 | 119=>[[0,3,9,10,11],[0,3,5,9,10,11,16,17]]
 | 120=>[[0,1,7,8]]
 | 134=>[[0,1,7,8]]
 | 136=>[[0,1,7,8]]
 | 142=>[[0,1,12,13]]
 | 171=>[[0,3,7,8]]
 | _=>[]
theorem K8:compF Tryz.prog (lives 8) 8=some ir8:=by kernel_rfl
theorem K9:compF Tryz.prog (lives 9) 9=some ir9:=by kernel_rfl
theorem K11:compF Tryz.prog (lives 11) 11=some ir11:=by kernel_rfl
theorem K15:compF Tryz.prog (lives 15) 15=some ir15:=by kernel_rfl
theorem K17:compF Tryz.prog (lives 17) 17=some ir17:=by kernel_rfl
theorem K18:compF Tryz.prog (lives 18) 18=some ir18:=by kernel_rfl
theorem K19:compF Tryz.prog (lives 19) 19=some ir19:=by kernel_rfl
theorem K24:compF Tryz.prog (lives 24) 24=some ir24:=by kernel_rfl
theorem K26:compF Tryz.prog (lives 26) 26=some ir26:=by kernel_rfl
theorem K31:compF Tryz.prog (lives 31) 31=some ir31:=by kernel_rfl
theorem K36:compF Tryz.prog (lives 36) 36=some ir36:=by kernel_rfl
theorem K37:compF Tryz.prog (lives 37) 37=some ir37:=by kernel_rfl
theorem K38:compF Tryz.prog (lives 38) 38=some ir38:=by kernel_rfl
theorem K39:compF Tryz.prog (lives 39) 39=some ir39:=by kernel_rfl
theorem K40:compF Tryz.prog (lives 40) 40=some ir40:=by kernel_rfl
theorem K41:compF Tryz.prog (lives 41) 41=some ir41:=by kernel_rfl
theorem K42:compF Tryz.prog (lives 42) 42=some ir42:=by kernel_rfl
theorem K43:compF Tryz.prog (lives 43) 43=some ir43:=by kernel_rfl
theorem K45:compF Tryz.prog (lives 45) 45=some ir45:=by kernel_rfl
theorem K47:compF Tryz.prog (lives 47) 47=some ir47:=by kernel_rfl
theorem K48:compF Tryz.prog (lives 48) 48=some ir48:=by kernel_rfl
theorem K49:compF Tryz.prog (lives 49) 49=some ir49:=by kernel_rfl
theorem K51:compF Tryz.prog (lives 51) 51=some ir51:=by kernel_rfl
theorem K53:compF Tryz.prog (lives 53) 53=some ir53:=by kernel_rfl
theorem K54:compF Tryz.prog (lives 54) 54=some ir54:=by kernel_rfl
theorem K57:compF Tryz.prog (lives 57) 57=some ir57:=by kernel_rfl
theorem K58:compF Tryz.prog (lives 58) 58=some ir58:=by kernel_rfl
theorem K60:compF Tryz.prog (lives 60) 60=some ir60:=by kernel_rfl
theorem K61:compF Tryz.prog (lives 61) 61=some ir61:=by kernel_rfl
theorem K62:compF Tryz.prog (lives 62) 62=some ir62:=by kernel_rfl
theorem K63:compF Tryz.prog (lives 63) 63=some ir63:=by kernel_rfl
theorem K64:compF Tryz.prog (lives 64) 64=some ir64:=by kernel_rfl
theorem K65:compF Tryz.prog (lives 65) 65=some ir65:=by kernel_rfl
theorem K66:compF Tryz.prog (lives 66) 66=some ir66:=by kernel_rfl
theorem K67:compF Tryz.prog (lives 67) 67=some ir67:=by kernel_rfl
theorem K68:compF Tryz.prog (lives 68) 68=some ir68:=by kernel_rfl
theorem K69:compF Tryz.prog (lives 69) 69=some ir69:=by kernel_rfl
theorem K70:compF Tryz.prog (lives 70) 70=some ir70:=by kernel_rfl
theorem K71:compF Tryz.prog (lives 71) 71=some ir71:=by kernel_rfl
theorem K72:compF Tryz.prog (lives 72) 72=some ir72:=by kernel_rfl
theorem K73:compF Tryz.prog (lives 73) 73=some ir73:=by kernel_rfl
theorem K76:compF Tryz.prog (lives 76) 76=some ir76:=by kernel_rfl
theorem K77:compF Tryz.prog (lives 77) 77=some ir77:=by kernel_rfl
theorem K78:compF Tryz.prog (lives 78) 78=some ir78:=by kernel_rfl
theorem K79:compF Tryz.prog (lives 79) 79=some ir79:=by kernel_rfl
theorem K80:compF Tryz.prog (lives 80) 80=some ir80:=by kernel_rfl
theorem K81:compF Tryz.prog (lives 81) 81=some ir81:=by kernel_rfl
theorem K82:compF Tryz.prog (lives 82) 82=some ir82:=by kernel_rfl
theorem K83:compF Tryz.prog (lives 83) 83=some ir83:=by kernel_rfl
theorem K84:compF Tryz.prog (lives 84) 84=some ir84:=by kernel_rfl
theorem K85:compF Tryz.prog (lives 85) 85=some ir85:=by kernel_rfl
theorem K86:compF Tryz.prog (lives 86) 86=some ir86:=by kernel_rfl
theorem K87:compF Tryz.prog (lives 87) 87=some ir87:=by kernel_rfl
theorem K88:compF Tryz.prog (lives 88) 88=some ir88:=by kernel_rfl
theorem K89:compF Tryz.prog (lives 89) 89=some ir89:=by kernel_rfl
theorem K90:compF Tryz.prog (lives 90) 90=some ir90:=by kernel_rfl
theorem K91:compF Tryz.prog (lives 91) 91=some ir91:=by kernel_rfl
theorem K92:compF Tryz.prog (lives 92) 92=some ir92:=by kernel_rfl
theorem K93:compF Tryz.prog (lives 93) 93=some ir93:=by kernel_rfl
theorem K94:compF Tryz.prog (lives 94) 94=some ir94:=by kernel_rfl
theorem K95:compF Tryz.prog (lives 95) 95=some ir95:=by kernel_rfl
theorem K96:compF Tryz.prog (lives 96) 96=some ir96:=by kernel_rfl
theorem K97:compF Tryz.prog (lives 97) 97=some ir97:=by kernel_rfl
theorem K98:compF Tryz.prog (lives 98) 98=some ir98:=by kernel_rfl
theorem K99:compF Tryz.prog (lives 99) 99=some ir99:=by kernel_rfl
theorem K100:compF Tryz.prog (lives 100) 100=some ir100:=by kernel_rfl
theorem K101:compF Tryz.prog (lives 101) 101=some ir101:=by kernel_rfl
theorem K102:compF Tryz.prog (lives 102) 102=some ir102:=by kernel_rfl
theorem K104:compF Tryz.prog (lives 104) 104=some ir104:=by kernel_rfl
theorem K105:compF Tryz.prog (lives 105) 105=some ir105:=by kernel_rfl
theorem K106:compF Tryz.prog (lives 106) 106=some ir106:=by kernel_rfl
theorem K107:compF Tryz.prog (lives 107) 107=some ir107:=by kernel_rfl
theorem K108:compF Tryz.prog (lives 108) 108=some ir108:=by kernel_rfl
theorem K109:compF Tryz.prog (lives 109) 109=some ir109:=by kernel_rfl
theorem K110:compF Tryz.prog (lives 110) 110=some ir110:=by kernel_rfl
theorem K111:compF Tryz.prog (lives 111) 111=some ir111:=by kernel_rfl
theorem K112:compF Tryz.prog (lives 112) 112=some ir112:=by kernel_rfl
theorem K113:compF Tryz.prog (lives 113) 113=some ir113:=by kernel_rfl
theorem K114:compF Tryz.prog (lives 114) 114=some ir114:=by kernel_rfl
theorem K115:compF Tryz.prog (lives 115) 115=some ir115:=by kernel_rfl
theorem K116:compF Tryz.prog (lives 116) 116=some ir116:=by kernel_rfl
theorem K117:compF Tryz.prog (lives 117) 117=some ir117:=by kernel_rfl
theorem K118:compF Tryz.prog (lives 118) 118=some ir118:=by kernel_rfl
theorem K119:compF Tryz.prog (lives 119) 119=some ir119:=by kernel_rfl
theorem K120:compF Tryz.prog (lives 120) 120=some ir120:=by kernel_rfl
theorem K121:compF Tryz.prog (lives 121) 121=some ir121:=by kernel_rfl
theorem K122:compF Tryz.prog (lives 122) 122=some ir122:=by kernel_rfl
theorem K123:compF Tryz.prog (lives 123) 123=some ir123:=by kernel_rfl
theorem K124:compF Tryz.prog (lives 124) 124=some ir124:=by kernel_rfl
theorem K125:compF Tryz.prog (lives 125) 125=some ir125:=by kernel_rfl
theorem K126:compF Tryz.prog (lives 126) 126=some ir126:=by kernel_rfl
theorem K127:compF Tryz.prog (lives 127) 127=some ir127:=by kernel_rfl
theorem K128:compF Tryz.prog (lives 128) 128=some ir128:=by kernel_rfl
theorem K129:compF Tryz.prog (lives 129) 129=some ir129:=by kernel_rfl
theorem K130:compF Tryz.prog (lives 130) 130=some ir130:=by kernel_rfl
theorem K131:compF Tryz.prog (lives 131) 131=some ir131:=by kernel_rfl
theorem K132:compF Tryz.prog (lives 132) 132=some ir132:=by kernel_rfl
theorem K133:compF Tryz.prog (lives 133) 133=some ir133:=by kernel_rfl
theorem K134:compF Tryz.prog (lives 134) 134=some ir134:=by kernel_rfl
theorem K136:compF Tryz.prog (lives 136) 136=some ir136:=by kernel_rfl
theorem K137:compF Tryz.prog (lives 137) 137=some ir137:=by kernel_rfl
theorem K138:compF Tryz.prog (lives 138) 138=some ir138:=by kernel_rfl
theorem K139:compF Tryz.prog (lives 139) 139=some ir139:=by kernel_rfl
theorem K140:compF Tryz.prog (lives 140) 140=some ir140:=by kernel_rfl
theorem K141:compF Tryz.prog (lives 141) 141=some ir141:=by kernel_rfl
theorem K142:compF Tryz.prog (lives 142) 142=some ir142:=by kernel_rfl
theorem K143:compF Tryz.prog (lives 143) 143=some ir143:=by kernel_rfl
theorem K144:compF Tryz.prog (lives 144) 144=some ir144:=by kernel_rfl
theorem K145:compF Tryz.prog (lives 145) 145=some ir145:=by kernel_rfl
theorem K146:compF Tryz.prog (lives 146) 146=some ir146:=by kernel_rfl
theorem K147:compF Tryz.prog (lives 147) 147=some ir147:=by kernel_rfl
theorem K148:compF Tryz.prog (lives 148) 148=some ir148:=by kernel_rfl
theorem K149:compF Tryz.prog (lives 149) 149=some ir149:=by kernel_rfl
theorem K150:compF Tryz.prog (lives 150) 150=some ir150:=by kernel_rfl
theorem K151:compF Tryz.prog (lives 151) 151=some ir151:=by kernel_rfl
theorem K152:compF Tryz.prog (lives 152) 152=some ir152:=by kernel_rfl
theorem K153:compF Tryz.prog (lives 153) 153=some ir153:=by kernel_rfl
theorem K156:compF Tryz.prog (lives 156) 156=some ir156:=by kernel_rfl
theorem K157:compF Tryz.prog (lives 157) 157=some ir157:=by kernel_rfl
theorem K158:compF Tryz.prog (lives 158) 158=some ir158:=by kernel_rfl
theorem K159:compF Tryz.prog (lives 159) 159=some ir159:=by kernel_rfl
theorem K160:compF Tryz.prog (lives 160) 160=some ir160:=by kernel_rfl
theorem K161:compF Tryz.prog (lives 161) 161=some ir161:=by kernel_rfl
theorem K163:compF Tryz.prog (lives 163) 163=some ir163:=by kernel_rfl
theorem K164:compF Tryz.prog (lives 164) 164=some ir164:=by kernel_rfl
theorem K165:compF Tryz.prog (lives 165) 165=some ir165:=by kernel_rfl
theorem K166:compF Tryz.prog (lives 166) 166=some ir166:=by kernel_rfl
theorem K167:compF Tryz.prog (lives 167) 167=some ir167:=by kernel_rfl
theorem K168:compF Tryz.prog (lives 168) 168=some ir168:=by kernel_rfl
theorem K170:compF Tryz.prog (lives 170) 170=some ir170:=by kernel_rfl
theorem K171:compF Tryz.prog (lives 171) 171=some ir171:=by kernel_rfl
theorem K173:compF Tryz.prog (lives 173) 173=some ir173:=by kernel_rfl
/-- The functions that are gone through. -/
def tab:List (Nat × IFn):=[(8,ir8),(9,ir9),(11,ir11),(15,ir15),(17,ir17),(18,ir18),(19,ir19),(24,ir24),(26,ir26),(31,ir31),(36,ir36),(37,ir37),(38,ir38),(39,ir39),(40,ir40),(41,ir41),(42,ir42),(43,ir43),(45,ir45),(47,ir47),(48,ir48),(49,ir49),(51,ir51),(53,ir53),(54,ir54),(57,ir57),(58,ir58),(60,ir60),(61,ir61),(62,ir62),(63,ir63),(64,ir64),(65,ir65),(66,ir66),(67,ir67),(68,ir68),(69,ir69),(70,ir70),(71,ir71),(72,ir72),(73,ir73),(76,ir76),(77,ir77),(78,ir78),(79,ir79),(80,ir80),(81,ir81),(82,ir82),(83,ir83),(84,ir84),(85,ir85),(86,ir86),(87,ir87),(88,ir88),(89,ir89),(90,ir90),(91,ir91),(92,ir92),(93,ir93),(94,ir94),(95,ir95),(96,ir96),(97,ir97),(98,ir98),(99,ir99),(100,ir100),(101,ir101),(102,ir102),(104,ir104),(105,ir105),(106,ir106),(107,ir107),(108,ir108),(109,ir109),(110,ir110),(111,ir111),(112,ir112),(113,ir113),(114,ir114),(115,ir115),(116,ir116),(117,ir117),(118,ir118),(119,ir119),(120,ir120),(121,ir121),(122,ir122),(123,ir123),(124,ir124),(125,ir125),(126,ir126),(127,ir127),(128,ir128),(129,ir129),(130,ir130),(131,ir131),(132,ir132),(133,ir133),(134,ir134),(136,ir136),(137,ir137),(138,ir138),(139,ir139),(140,ir140),(141,ir141),(142,ir142),(143,ir143),(144,ir144),(145,ir145),(146,ir146),(147,ir147),(148,ir148),(149,ir149),(150,ir150),(151,ir151),(152,ir152),(153,ir153),(156,ir156),(157,ir157),(158,ir158),(159,ir159),(160,ir160),(161,ir161),(163,ir163),(164,ir164),(165,ir165),(166,ir166),(167,ir167),(168,ir168),(170,ir170),(171,ir171),(173,ir173)]
def E (f:Nat):Option IFn:=tab.lookup f
theorem E8:E 8=some ir8:=rfl
theorem E9:E 9=some ir9:=rfl
theorem E11:E 11=some ir11:=rfl
theorem E15:E 15=some ir15:=rfl
theorem E17:E 17=some ir17:=rfl
theorem E18:E 18=some ir18:=rfl
theorem E24:E 24=some ir24:=rfl
theorem E26:E 26=some ir26:=rfl
theorem E31:E 31=some ir31:=rfl
theorem E37:E 37=some ir37:=rfl
theorem E38:E 38=some ir38:=rfl
theorem E39:E 39=some ir39:=rfl
theorem E40:E 40=some ir40:=rfl
theorem E41:E 41=some ir41:=rfl
theorem E42:E 42=some ir42:=rfl
theorem E43:E 43=some ir43:=rfl
theorem E45:E 45=some ir45:=rfl
theorem E48:E 48=some ir48:=rfl
theorem E49:E 49=some ir49:=rfl
theorem E51:E 51=some ir51:=rfl
theorem E53:E 53=some ir53:=rfl
theorem E54:E 54=some ir54:=rfl
theorem E57:E 57=some ir57:=rfl
theorem E58:E 58=some ir58:=rfl
theorem E62:E 62=some ir62:=rfl
theorem E63:E 63=some ir63:=rfl
theorem E64:E 64=some ir64:=rfl
theorem E65:E 65=some ir65:=rfl
theorem E66:E 66=some ir66:=rfl
theorem E67:E 67=some ir67:=rfl
theorem E68:E 68=some ir68:=rfl
theorem E69:E 69=some ir69:=rfl
theorem E70:E 70=some ir70:=rfl
theorem E71:E 71=some ir71:=rfl
theorem E72:E 72=some ir72:=rfl
theorem E73:E 73=some ir73:=rfl
theorem E77:E 77=some ir77:=rfl
theorem E78:E 78=some ir78:=rfl
theorem E79:E 79=some ir79:=rfl
theorem E80:E 80=some ir80:=rfl
theorem E81:E 81=some ir81:=rfl
theorem E83:E 83=some ir83:=rfl
theorem E84:E 84=some ir84:=rfl
theorem E85:E 85=some ir85:=rfl
theorem E86:E 86=some ir86:=rfl
theorem E87:E 87=some ir87:=rfl
theorem E88:E 88=some ir88:=rfl
theorem E89:E 89=some ir89:=rfl
theorem E90:E 90=some ir90:=rfl
theorem E91:E 91=some ir91:=rfl
theorem E92:E 92=some ir92:=rfl
theorem E93:E 93=some ir93:=rfl
theorem E94:E 94=some ir94:=rfl
theorem E95:E 95=some ir95:=rfl
theorem E96:E 96=some ir96:=rfl
theorem E97:E 97=some ir97:=rfl
theorem E98:E 98=some ir98:=rfl
theorem E99:E 99=some ir99:=rfl
theorem E100:E 100=some ir100:=rfl
theorem E101:E 101=some ir101:=rfl
theorem E102:E 102=some ir102:=rfl
theorem E104:E 104=some ir104:=rfl
theorem E107:E 107=some ir107:=rfl
theorem E108:E 108=some ir108:=rfl
theorem E109:E 109=some ir109:=rfl
theorem E110:E 110=some ir110:=rfl
theorem E111:E 111=some ir111:=rfl
theorem E112:E 112=some ir112:=rfl
theorem E114:E 114=some ir114:=rfl
theorem E115:E 115=some ir115:=rfl
theorem E116:E 116=some ir116:=rfl
theorem E117:E 117=some ir117:=rfl
theorem E118:E 118=some ir118:=rfl
theorem E119:E 119=some ir119:=rfl
theorem E120:E 120=some ir120:=rfl
theorem E121:E 121=some ir121:=rfl
theorem E122:E 122=some ir122:=rfl
theorem E123:E 123=some ir123:=rfl
theorem E124:E 124=some ir124:=rfl
theorem E125:E 125=some ir125:=rfl
theorem E126:E 126=some ir126:=rfl
theorem E127:E 127=some ir127:=rfl
theorem E128:E 128=some ir128:=rfl
theorem E129:E 129=some ir129:=rfl
theorem E130:E 130=some ir130:=rfl
theorem E131:E 131=some ir131:=rfl
theorem E132:E 132=some ir132:=rfl
theorem E133:E 133=some ir133:=rfl
theorem E134:E 134=some ir134:=rfl
theorem E136:E 136=some ir136:=rfl
theorem E137:E 137=some ir137:=rfl
theorem E138:E 138=some ir138:=rfl
theorem E141:E 141=some ir141:=rfl
theorem E142:E 142=some ir142:=rfl
theorem E143:E 143=some ir143:=rfl
theorem E144:E 144=some ir144:=rfl
theorem E145:E 145=some ir145:=rfl
theorem E146:E 146=some ir146:=rfl
theorem E147:E 147=some ir147:=rfl
theorem E148:E 148=some ir148:=rfl
theorem E149:E 149=some ir149:=rfl
theorem E150:E 150=some ir150:=rfl
theorem E151:E 151=some ir151:=rfl
theorem E152:E 152=some ir152:=rfl
theorem E153:E 153=some ir153:=rfl
theorem E156:E 156=some ir156:=rfl
theorem E157:E 157=some ir157:=rfl
theorem E158:E 158=some ir158:=rfl
theorem E159:E 159=some ir159:=rfl
theorem E160:E 160=some ir160:=rfl
theorem E161:E 161=some ir161:=rfl
theorem E163:E 163=some ir163:=rfl
theorem E164:E 164=some ir164:=rfl
theorem E165:E 165=some ir165:=rfl
theorem E166:E 166=some ir166:=rfl
theorem E167:E 167=some ir167:=rfl
theorem E168:E 168=some ir168:=rfl
theorem E170:E 170=some ir170:=rfl
theorem E171:E 171=some ir171:=rfl
theorem E173:E 173=some ir173:=rfl
set_option maxRecDepth 100000 in
theorem tab_ok:∀ p∈tab,∃ls,compF Tryz.prog ls p.1=some p.2:=by
 simp only [tab,List.forall_mem_cons]
 exact ⟨⟨_,K8⟩,⟨_,K9⟩,⟨_,K11⟩,⟨_,K15⟩,⟨_,K17⟩,⟨_,K18⟩,⟨_,K19⟩,⟨_,K24⟩,⟨_,K26⟩,⟨_,K31⟩,⟨_,K36⟩,⟨_,K37⟩,⟨_,K38⟩,⟨_,K39⟩,⟨_,K40⟩,⟨_,K41⟩,⟨_,K42⟩,⟨_,K43⟩,⟨_,K45⟩,⟨_,K47⟩,⟨_,K48⟩,⟨_,K49⟩,⟨_,K51⟩,⟨_,K53⟩,⟨_,K54⟩,⟨_,K57⟩,⟨_,K58⟩,⟨_,K60⟩,⟨_,K61⟩,⟨_,K62⟩,⟨_,K63⟩,⟨_,K64⟩,⟨_,K65⟩,⟨_,K66⟩,⟨_,K67⟩,⟨_,K68⟩,⟨_,K69⟩,⟨_,K70⟩,⟨_,K71⟩,⟨_,K72⟩,⟨_,K73⟩,⟨_,K76⟩,⟨_,K77⟩,⟨_,K78⟩,⟨_,K79⟩,⟨_,K80⟩,⟨_,K81⟩,⟨_,K82⟩,⟨_,K83⟩,⟨_,K84⟩,⟨_,K85⟩,⟨_,K86⟩,⟨_,K87⟩,⟨_,K88⟩,⟨_,K89⟩,⟨_,K90⟩,⟨_,K91⟩,⟨_,K92⟩,⟨_,K93⟩,⟨_,K94⟩,⟨_,K95⟩,⟨_,K96⟩,⟨_,K97⟩,⟨_,K98⟩,⟨_,K99⟩,⟨_,K100⟩,⟨_,K101⟩,⟨_,K102⟩,⟨_,K104⟩,⟨_,K105⟩,⟨_,K106⟩,⟨_,K107⟩,⟨_,K108⟩,⟨_,K109⟩,⟨_,K110⟩,⟨_,K111⟩,⟨_,K112⟩,⟨_,K113⟩,⟨_,K114⟩,⟨_,K115⟩,⟨_,K116⟩,⟨_,K117⟩,⟨_,K118⟩,⟨_,K119⟩,⟨_,K120⟩,⟨_,K121⟩,⟨_,K122⟩,⟨_,K123⟩,⟨_,K124⟩,⟨_,K125⟩,⟨_,K126⟩,⟨_,K127⟩,⟨_,K128⟩,⟨_,K129⟩,⟨_,K130⟩,⟨_,K131⟩,⟨_,K132⟩,⟨_,K133⟩,⟨_,K134⟩,⟨_,K136⟩,⟨_,K137⟩,⟨_,K138⟩,⟨_,K139⟩,⟨_,K140⟩,⟨_,K141⟩,⟨_,K142⟩,⟨_,K143⟩,⟨_,K144⟩,⟨_,K145⟩,⟨_,K146⟩,⟨_,K147⟩,⟨_,K148⟩,⟨_,K149⟩,⟨_,K150⟩,⟨_,K151⟩,⟨_,K152⟩,⟨_,K153⟩,⟨_,K156⟩,⟨_,K157⟩,⟨_,K158⟩,⟨_,K159⟩,⟨_,K160⟩,⟨_,K161⟩,⟨_,K163⟩,⟨_,K164⟩,⟨_,K165⟩,⟨_,K166⟩,⟨_,K167⟩,⟨_,K168⟩,⟨_,K170⟩,⟨_,K171⟩,⟨_,K173⟩,fun _ h=>by cases h⟩
theorem lookup_mem {α:Type} {f:Nat} {x:α}:∀ {l:List (Nat × α)},l.lookup f=some x->(f,x)∈l
 | [],h=>by simp at h
 | (g,y)::r,h=>by
  rw [List.lookup_cons] at h
  by_cases hg:f=g
  ·subst hg;simp at h;simp [h]
  ·rw [show (f == g)=false from by simpa using hg] at h;exact mem_cons_of_mem _ (lookup_mem h)
set_option maxRecDepth 100000 in
theorem hE (f:Nat) (fn:IFn) (h:E f=some fn):∃ ls,compF Tryz.prog ls f=some fn:=tab_ok _ (lookup_mem h)

theorem wrap64 {x:Int} (h1:-9223372036854775808<=x) (h2:x<=9223372036854775807):IntKind.wrap .i64 x=x:=by
 simp [IntKind.wrap,IntKind.bits,IntKind.signed];omega
theorem wrapIdx {i:Nat} (h:i<9223372036854775807):IntKind.wrap .i64 ((i:Int)+1)=((i+1:Nat):Int):=by
 rw [wrap64 (by omega) (by omega)];omega

structure Run where
 N:Int
 Bus:Int
 Drive:Int
 deriving DecidableEq

def encRun (r:Run):List AVal:=[.lit (.int .i64 r.N),.lit (.int .i64 r.Bus),.lit (.int .u32 r.Drive)]
structure Run.Ok (r:Run):Prop where
 n1:-9223372036854775808<=r.N
 n2:r.N<=9223372036854775807

def right (r:Run):Bool:=decide (1<=r.N) && decide (r.N<=1073741824) && decide (r.Bus=if r.Drive=4294967295 then 1 else 0)

theorem right_spec (r:Run):call E (.func (.func 96) [] []) [.agg (encRun r)] []=some (vbool (right r),[]):=by
 rw [c9f E E96]
 by_cases h1:r.Drive=4294967295<;>by_cases h2:1<=r.N<;>by_cases h3:r.N<=1073741824 <;>
 simp [go_sem,ir96,encRun,right, *]

def ticksGo (acc:Int):List Run->Int × Int
 | []=>if 1073741824<acc then (0,12) else (acc,0)
 | r::l=>if right r then ticksGo (if 1073741825<acc+r.N then 1073741825 else acc+r.N) l else (0,10)
theorem ticks_loop (l:List Run) (hl:l.length<=9223372036854775807) (hl2:∀ r∈l,r.Ok) (nl fu:Bool) (k:List Item)
    (hk:∀ (acc:Int) τ,lk 4 τ=.lit (.int .i64 acc)->finK 0 [.tmp 2,.tmp 3] (run E 0 k τ [])=some (.tup [.lit (.int .i64 (ticksGo acc []).1),.lit (.int .i64 (ticksGo acc []).2)],[])) :
    ∀ (d i:Nat) (acc:Int),i+d=l.length->0<=acc->acc<=1073741825 ->
   finK 0 [.tmp 2,.tmp 3] (run E 0 (.code L67_0::.inLoop [4,7,8,9] L67_0::.inBlock 0::k) [(4,.lit (.int .i64 acc)),(7,.imm nl fu true (l.map encRun)),(8,.lit (.int .i64 l.length)),(9,.lit (.int .i64 i))] [])
   = some (.tup [.lit (.int .i64 (ticksGo acc (l.drop i)).1),.lit (.int .i64 (ticksGo acc (l.drop i)).2)],[]):=by
  intro d
  induction d with
  | zero =>
    intro i acc hi h0 h1
    have:i=l.length:=by omega
    subst this
    simp [go_sem,r9c E L67_0.eq_1]
    exact hk _ _ rfl
  | succ d ih =>
    intro i acc hi h0 h1
    have hlt:i<l.length:=by omega
    have hr:=hl2 _ (List.getElem_mem hlt)
    rw [List.drop_eq_getElem_cons hlt,ticksGo]
    have hs:=right_spec l[i]
    simp only [encRun] at hs
    cases hrt:right l[i] with
    | false =>
      simp [go_sem,r9c E L67_0.eq_1,hlt,getElem?_eq_getElem hlt,encRun,hs,hrt]
    | true =>
      have hN:1<=l[i].N/\l[i].N<=1073741824:=by simp [right] at hrt;omega
      have w1:IntKind.wrap .i64 (acc+l[i].N)=acc+l[i].N:=wrap64 (by omega) (by omega)
      have w2:=wrapIdx (i:=i) (by omega)
      simp [go_sem,r9c E L67_0.eq_1,hlt,getElem?_eq_getElem hlt,encRun,hs,hrt,w1,w2]
      rw [r9l]
      simp [go_sem,p9q]
      exact ih (i+1) _ (by omega) (by omega) (by omega)
def ticks (l:List Run):Int × Int:=ticksGo 0 l
theorem ticks_spec (l:List Run) (hl:l.length<=9223372036854775807) (hl2:∀ r∈l,r.Ok) (nl fu:Bool) :
  call E (.func (.func 67) [] []) [.imm nl fu true (l.map encRun)] []=some (.tup [.lit (.int .i64 (ticks l).1),.lit (.int .i64 (ticks l).2)],[]):=by
 rw [c9f E E67]
 simp [go_sem,ir67]
 rw [r9l]
 simp [go_sem,p9q]
 refine ticks_loop l hl hl2 nl fu _ ?_ l.length 0 0 (by omega) (by omega) (by omega)
 intro acc τ h
 by_cases h1:1073741824<acc<;>simp [go_sem,ticksGo,h,h1]
theorem check_spec (l:List Run) (hl:l.length<=9223372036854775807) (hl2:∀ r∈l,r.Ok) (nl fu:Bool) :
  call E (.func (.func 92) [] []) [.imm nl fu true (l.map encRun)] []=some (.lit (.int .i64 (ticks l).2),[]):=by
 rw [c9f E E92]
 simp [go_sem,ir92,ticks_spec l hl hl2]

def part (at_ from_ to n:Int):Int:=(if to<at_+n then to else at_+n) - (if from_ > at_ then from_ else at_)
theorem part_spec (at_ from_ to n:Int) (h0:0<=at_/\at_<=2251799813685248) (h1:0<=from_/\from_<=1099511627776) (h2:0<=to/\to<=1099511627776) (h3:0<=n/\n<=1099511627776) :
  call E (.func (.func 97) [] [.ptr 0 0,.ptr 1 0,.ptr 2 0]) [.lit (.int .i64 n)] [.box [.lit (.int .i64 at_)],.box [.lit (.int .i64 to)],.box [.lit (.int .i64 from_)]]
   = some (.lit (.int .i64 (part at_ from_ to n)),[.box [.lit (.int .i64 at_)],.box [.lit (.int .i64 to)],.box [.lit (.int .i64 from_)]]):=by
 rw [c9f E E97]
 have w1:IntKind.wrap .i64 (at_+n)=at_+n:=wrap64 (by omega) (by omega)
 have w2:IntKind.wrap .i64 (part at_ from_ to n)=part at_ from_ to n:=by unfold part;apply wrap64<;>split<;>split<;>omega
 unfold part at w2
 simp [go_sem,ir97,p9q,w1,range_succ,part,w2]

def betweenGo (from_ to:Int):Int->List Run->List Run
 | _,[]=>[]
 | at_,r::l=>(if 0<part at_ from_ to r.N then [⟨part at_ from_ to r.N,r.Bus,r.Drive⟩] else [])++betweenGo from_ to (at_+r.N) l
def resV (i:Nat) (rows:List (List AVal)):AVal:=if rows=[] then nilS else .own i rows.length 3 0 rows.length
def resH (H:Heap) (rows:List (List AVal)):Heap:=if rows=[] then [] else H++[.arr true false false 3 rows]

theorem between_loop (l:List Run) (from_ to:Int) (hl:l.length<=1048576) (hl2:∀ r∈l,0<=r.N/\r.N<=1073741824) (h1:0<=from_/\from_<=1073741824) (h2:0<=to/\to<=1073741825) (nl fu:Bool) (k:List Item) (R:List Run->Option (AVal × Heap))
    (hk:∀ (out:List Run) (at_:Int) τ,lk 7 τ=resV 5 (out.map encRun)->finK 0 [.tmp 6] (run E 0 k τ ([.box [.lit (.int .i64 from_)],.box [.lit (.int .i64 to)],.box [.lit (.int .i64 at_)]]++resH [.dead,.dead] (out.map encRun)))=R out) :
    ∀ (d i:Nat) (at_:Int) (out:List Run),i+d=l.length->0<=at_->at_<=1073741824 * i->out.length<=i ->
   finK 0 [.tmp 6] (run E 0 (.code L68_0::.inLoop [7,8,9,14,15,16] L68_0::.inBlock 0::k)
     [(7,resV 5 (out.map encRun)),(8,.ptr 2 0),(9,.func (.func 97) [] [.ptr 2 0,.ptr 1 0,.ptr 0 0]),(14,.imm nl fu true (l.map encRun)),(15,.lit (.int .i64 l.length)),(16,.lit (.int .i64 i))]
     ([.box [.lit (.int .i64 from_)],.box [.lit (.int .i64 to)],.box [.lit (.int .i64 at_)]]++resH [.dead,.dead] (out.map encRun)))
   = R (out++betweenGo from_ to at_ (l.drop i)):=by
  intro d
  induction d with
  | zero =>
    intro i at_ out hi h0 h3 h4
    have:i=l.length:=by omega
    subst this
    simp [go_sem,r9c E L68_0.eq_1,betweenGo]
    exact hk out at_ _ rfl
  | succ d ih =>
    intro i at_ out hi h0 h3 h4
    have hlt:i<l.length:=by omega
    have hr:=hl2 _ (List.getElem_mem hlt)
    have w2:=wrapIdx (i:=i) (by omega)
    have w1:IntKind.wrap .i64 (at_+l[i].N)=at_+l[i].N:=wrap64 (by omega) (by omega)
    have hp:=part_spec at_ from_ to l[i].N (by omega) (by omega) (by omega) (by omega)
    have ih':=ih (i+1) (at_+l[i].N)
    rw [List.drop_eq_getElem_cons hlt,betweenGo]
    by_cases hq:0<part at_ from_ to l[i].N
    · cases out with
      | nil =>
        have ih2:=ih' [⟨part at_ from_ to l[i].N,l[i].Bus,l[i].Drive⟩] (by omega) (by omega) (by omega) (by simp)
        simp [resV,resH,encRun] at ih2
        simp [go_sem,r9c E L68_0.eq_1,hlt,getElem?_eq_getElem hlt,encRun,w1,w2,resV,resH,p9q,hp,hq,nilS]
        rw [r9l]
        simp [go_sem,p9q]
        exact ih2
      | cons x xs =>
        have ih2:=ih' ((x::xs)++[⟨part at_ from_ to l[i].N,l[i].Bus,l[i].Drive⟩]) (by omega) (by omega) (by omega) (by simp at h4 ⊢;omega)
        simp [resV,resH,encRun] at ih2
        simp at h4
        have hb:¬ ((xs.length+1+1) * 24 > 70368744177664):=by omega
        simp [go_sem,r9c E L68_0.eq_1,hlt,getElem?_eq_getElem hlt,encRun,w1,w2,resV,resH,p9q,hp,hq,hb]
        rw [r9l]
        simp [go_sem,p9q]
        exact ih2
    · cases out with
      | nil =>
        have ih2:=ih' [] (by omega) (by omega) (by omega) (by simp)
        simp [resV,resH,encRun] at ih2
        simp [go_sem,r9c E L68_0.eq_1,hlt,getElem?_eq_getElem hlt,encRun,w1,w2,resV,resH,p9q,hp,hq,nilS]
        rw [r9l]
        simp [go_sem,p9q]
        exact ih2
      | cons x xs =>
        have ih2:=ih' (x::xs) (by omega) (by omega) (by omega) (by omega)
        simp [resV,resH,encRun] at ih2
        simp [go_sem,r9c E L68_0.eq_1,hlt,getElem?_eq_getElem hlt,encRun,w1,w2,resV,resH,p9q,hp,hq]
        rw [r9l]
        simp [go_sem,p9q]
        exact ih2

theorem between_spec (l:List Run) (from_ to:Int) (hl:l.length<=1048576) (hl2:∀ r∈l,0<=r.N/\r.N<=1073741824) (h1:0<=from_/\from_<=1073741824) (h2:0<=to/\to<=1073741825) (nl fu:Bool) :
  call E (.func (.func 68) [] []) [.imm nl fu true (l.map encRun),.lit (.int .i64 from_),.lit (.int .i64 to)] []
   = some (resV 0 ((betweenGo from_ to 0 l).map encRun),resH [] ((betweenGo from_ to 0 l).map encRun)):=by
 rw [c9f E E68]
 simp [go_sem,ir68,p9q]
 rw [r9l]
 simp [go_sem,p9q]
 have h:=between_loop l from_ to hl hl2 h1 h2 nl fu [.code (.seq (.reg [⟨none,some 40,.copy (.t 7)⟩,⟨none,some 6,.copy (.t 40)⟩] [] []) .ret)] (fun out=>some (resV 0 (out.map encRun),resH [] (out.map encRun))) ?_ l.length 0 0 [] (by omega) (by omega) (by omega) (by simp)
 ·simpa [resV,resH,nilS] using h
 ·intro out at_ τ h
  cases out with
  | nil=>simp [go_sem,h,resV,resH,nilS]
  | cons x xs=>simp [go_sem,h,resV,resH,p9q]

def sumN:List Run->Int
 | []=>0
 | r::l=>r.N+sumN l
def chk (l:List Run):Int:=if l.all right=true then (if 1073741824<sumN l then 12 else 0) else 10
theorem right_N {r:Run} (h:right r=true):1<=r.N/\r.N<=1073741824:=by
 simp [right] at h;omega
theorem sumN_nonneg:∀ {l:List Run},l.all right=true->0<=sumN l
 | [],_=>by simp [sumN]
 | r::l,h=>by
  simp only [List.all_cons,Bool.and_eq_true] at h
  have:=right_N h.1;have:=sumN_nonneg h.2
  simp only [sumN];omega
theorem ticksGo_eq:∀ (l:List Run) (acc:Int),0<=acc->acc<=1073741825->ticksGo acc l=if l.all right=true then (if 1073741824<acc+sumN l then (0,12) else (acc+sumN l,0)) else (0,10)
 | [],acc,_,_=>by simp [ticksGo,sumN]
 | r :: l,acc,h0,h1=>by
  rw [ticksGo,List.all_cons]
  cases hr:right r with
  | false=>simp
  | true =>
   have hN:=right_N hr
   rw [if_pos rfl,ticksGo_eq l _ (by split<;>omega) (by split<;>omega)]
   rw [Bool.true_and,show sumN (r::l)=r.N+sumN l from rfl]
   cases ha:l.all right with
   | false=>simp
   | true =>
    have:=sumN_nonneg ha
    simp only [if_true]
    by_cases hq:1073741825<acc+r.N
    ·rw [if_pos hq,if_pos (show _ by omega),if_pos (show _ by omega)]
    ·rw [if_neg hq,Int.add_assoc]
theorem ticks_eq (l:List Run):ticks l=(if chk l=0 then sumN l else 0,chk l):=by
 unfold ticks
 rw [ticksGo_eq l 0 (by omega) (by omega)]
 unfold chk
 cases l.all right
 ·rfl
 ·by_cases h:1073741824<sumN l
  ·simp [h]
  ·simp [h]


def zeroRun:Run:=⟨0,0,0⟩
def pick:Int->List Run->Option Run
 | _,[]=>none
 | t,r::l=>if t<r.N then some ⟨1,r.Bus,r.Drive⟩ else pick (t - r.N) l
theorem pick_some:∀ {l:List Run} {t:Int},0<=t->t<sumN l->∃ r,pick t l=some r
 | [],t,h0,h=>by simp [sumN] at h;omega
 | r :: l,t,h0,h=>by
  rw [pick]
  by_cases hq:t<r.N
  ·exact ⟨_,if_pos hq⟩
  ·rw [if_neg hq]
   rw [show sumN (r::l)=r.N+sumN l from rfl] at h
   exact pick_some (by omega) (by omega)
theorem between_one:∀ (l:List Run) (at_ t:Int),(∀ r∈l,1<=r.N)->betweenGo t (t+1) at_ l=if t<at_ then [] else (pick (t - at_) l).toList
 | [],at_,t,_=>by simp [betweenGo,pick]
 | r :: l,at_,t,h=>by
  have hr:=h r (by simp)
  rw [betweenGo,between_one l _ t fun x hx=>h x (by simp [hx]),pick]
  by_cases h1:t<at_
  ·have hp:¬ 0<part at_ t (t+1) r.N:=by unfold part;split<;>split<;>omega
   rw [if_pos h1,if_neg hp,if_pos (by omega)];rfl
  ·rw [if_neg h1]
   by_cases h2:t<at_+r.N
   ·have hp:part at_ t (t+1) r.N=1:=by unfold part;split<;>split<;>omega
    rw [hp,if_pos h2,if_pos (show t - at_<r.N by omega)];rfl
   ·have hp:¬ 0<part at_ t (t+1) r.N:=by unfold part;split<;>split<;>omega
    rw [if_neg h2,if_neg hp,if_neg (show ¬ t - at_<r.N by omega),show t - (at_+r.N)=t - at_ - r.N from by omega];rfl

def atRun (l:List Run) (t:Int):Run × Int :=
 if chk l≠0 then (zeroRun,chk l) else if t<0∨sumN l<=t then (zeroRun,10) else ((pick t l).getD zeroRun,0)
theorem chk_right {l:List Run} (h:chk l=0):(∀ r∈l,1<=r.N/\r.N<=1073741824)/\0<=sumN l/\sumN l<=1073741824:=by
 unfold chk at h
 cases ha:l.all right with
 | false=>rw [ha] at h;simp at h
 | true =>
  rw [ha,if_pos rfl] at h
  refine ⟨fun r hr=>right_N (List.all_eq_true.1 ha r hr),sumN_nonneg ha,?_⟩
  by_cases hq:1073741824<sumN l
  ·rw [if_pos hq] at h;omega
  ·omega
theorem at_spec (l:List Run) (hl:l.length<=1048576) (hl2:∀ r∈l,r.Ok) (t:Int) (ht:-9223372036854775808<=t/\t<=9223372036854775807) (nl fu:Bool) :
  call E (.func (.func 41) [] []) [.imm nl fu true (l.map encRun),.lit (.int .i64 t)] []=some (.tup [.agg (encRun (atRun l t).1),.lit (.int .i64 (atRun l t).2)],[]):=by
 rw [c9f E E41]
 have hT:=ticks_spec l (by omega) hl2 nl fu
 rw [ticks_eq] at hT
 by_cases h:chk l=0
 ·obtain ⟨hN,h0,h1⟩:=chk_right h
  rw [h,if_pos rfl] at hT
  by_cases h2:t<0
  ·simp [go_sem,ir41,hT,atRun,h,h2,encRun,zeroRun]
  ·by_cases h3:sumN l<=t
   ·simp [go_sem,ir41,hT,atRun,h,h2,h3,encRun,zeroRun]
   ·have hB:=between_spec l t (t+1) hl (fun r hr=>⟨by have:=hN r hr;omega,(hN r hr).2⟩) (by omega) (by omega) nl fu
    obtain ⟨r,hr⟩:=pick_some (l:=l) (t:=t) (by omega) (by omega)
    rw [between_one l 0 t fun r hr=>(hN r hr).1,if_neg h2,Int.sub_zero,hr] at hB
    simp [resV,resH,encRun] at hB
    have w1:IntKind.wrap .i64 (t+1)=t+1:=wrap64 (by omega) (by omega)
    simp [go_sem,ir41,hT,atRun,h,h2,h3,encRun,w1,hB,hr]
 ·rw [if_neg h] at hT
  simp [go_sem,ir41,hT,atRun,h,encRun,zeroRun]

def alike (a b:Run):Bool:=decide (a.Bus=b.Bus) && decide (a.Drive=b.Drive)

def push (out:List Run) (r:Run):List Run :=
 match out.getLast? with
 | none=>[r]
 | some x=>if alike x r=true then out.dropLast++[⟨x.N+r.N,x.Bus,x.Drive⟩] else out++[r]
theorem push_nil (r:Run):push [] r=[r]:=rfl
theorem push_snoc (o:List Run) (x r:Run):push (o++[x]) r=if alike x r=true then o++[⟨x.N+r.N,x.Bus,x.Drive⟩] else o++[x,r]:=by
 simp [push]
theorem snoc_cases {α:Type} (l:List α):l=[]∨∃ o x,l=o++[x]:=by
 rcases List.eq_nil_or_concat l with h | ⟨o,x,h⟩
 ·exact .inl h
 ·exact .inr ⟨o,x,by simpa using h⟩
theorem get_snoc {o:List Run} {x:Run}:(o.map encRun++[encRun x])[o.length]?=some (encRun x):=by
 rw [List.getElem?_append_right (by simp)];simp
theorem set_snoc {o:List Run} {x:List AVal} {v:List AVal}:(o.map encRun++[x]).set o.length v=o.map encRun++[v]:=by
 rw [List.set_append_right _ _ (by simp)];simp

def joined (out:List Run):List Run->List Run
 | []=>out
 | r::l=>if r.N<1 then joined out l else joined (push out r) l
def expand (l:List Run):List Run:=l.flatMap fun r=>List.replicate r.N.toNat ⟨1,r.Bus,r.Drive⟩

theorem expand_cons (r:Run) (l:List Run):expand (r::l)=List.replicate r.N.toNat ⟨1,r.Bus,r.Drive⟩++expand l:=rfl
theorem expand_append (l m:List Run):expand (l++m)=expand l++expand m:=by simp [expand]
theorem expand_length:∀ l:List Run,(∀ r∈l,0<=r.N)->((expand l).length:Int)=sumN l
 | [],_=>by simp [expand,sumN]
 | r::l,h=>by
  have hr:=h r (by simp)
  have ih:=expand_length l fun x hx=>h x (by simp [hx])
  rw [expand_cons,show sumN (r::l)=r.N+sumN l from rfl,length_append,List.length_replicate]
  omega
theorem push_length (out:List Run) (r:Run):(push out r).length<=out.length+1:=by
 rcases snoc_cases out with rfl | ⟨o,x,rfl⟩
 ·simp [push]
 ·rw [push_snoc];split<;>simp
theorem joined_length:∀ (l out:List Run),(joined out l).length<=out.length+l.length
 | [],out=>by simp [joined]
 | r::l,out=>by
  rw [joined]
  split
  ·have:=joined_length l out;simp;omega
  ·have:=joined_length l (push out r);have:=push_length out r;simp;omega

def encI (n:Int):List AVal:=[.lit (.int .i64 n)]
theorem each_spec (nl fu:Bool) (rows:List (List AVal)):call E (.func (.func 90) [] []) [.imm nl fu true rows] []=some (.func (.func 119) [] [.ptr 0 0],[.box [.imm nl fu true rows]]):=by
 rw [c9f E E90]
 simp [go_sem,ir90,p9q]
def levelsV (l:List Run) (f:Run->Int):AVal :=
 if chk l≠0 then .tup [nilS,.lit (.int .i64 (chk l))] else if 1048576<sumN l then .tup [nilS,.lit (.int .i64 12)] else .tup [.own 0 (expand l).length 1 0 (expand l).length,.lit (.int .i64 0)]
def levelsH (l:List Run) (f:Run->Int):Heap :=
 if chk l≠0 then [] else if 1048576<sumN l then [] else [.arr true false false 1 ((expand l).map fun r=>encI (f r))]
def nodeLv (node:Int) (r:Run):Int:=r.Drive / (2:Int) ^ node.toNat % 2
theorem and_one32 {x:Int} (h0:0<=x) (h1:x<=4294967295):((BitVec.ofInt 32 x &&& 1#32).toNat:Int)=x % 2:=by
 rw [BitVec.toNat_and,BitVec.toNat_ofInt]
 have:(x % ((2 ^ 32:Nat):Int)).toNat=x.toNat:=by
  rw [Int.emod_eq_of_lt h0 (by simp;omega)]
 rw [this,show (1#32:BitVec 32).toNat=1 from rfl,Nat.and_one_is_mod]
 omega
theorem iand_one {x:Int} (h0:0<=x) (h1:x<=4294967295):iand .u32 x 1=x % 2:=by
 have h6:=and_one32 h0 h1
 have h7:IntKind.wrap .u32 (x % 2)=x % 2:=by simp [IntKind.wrap,IntKind.bits,IntKind.signed];omega
 unfold iand
 erw [h6,h7]
theorem node1_spec (node:Int) (hnode:0<=node/\node<=31) (r:Run) (hr:0<=r.Drive/\r.Drive<=4294967295) :
  call E (.func (.func 93) [] [.ptr 0 0]) [.agg (encRun r)] [.box [.lit (.int .i64 node)]]=some (.lit (.int .i64 (nodeLv node r)),[.box [.lit (.int .i64 node)]]):=by
 rw [c9f E E93]
 have hp:(0:Int)<2 ^ node.toNat:=Int.pow_pos (by omega)
 have h1:r.Drive.fdiv (2 ^ node.toNat)=r.Drive / 2 ^ node.toNat:=by rw [Int.fdiv_eq_ediv_of_nonneg _ (by omega)]
 have h2:0<=r.Drive / (2:Int) ^ node.toNat:=Int.ediv_nonneg hr.1 (by omega)
 have h3:r.Drive / (2:Int) ^ node.toNat<=4294967295:=Int.le_trans (Int.ediv_le_self _ hr.1) hr.2
 have h4:min node.toNat 32=node.toNat:=by omega
 have h5:¬ node<0:=by omega
 have h6:=iand_one h2 h3
 have h8:IntKind.wrap .i64 (r.Drive / (2:Int) ^ node.toNat % 2)=r.Drive / (2:Int) ^ node.toNat % 2:=wrap64 (by omega) (by omega)
 simp [go_sem,ir93,encRun,p9q,h5,h4,h1,h6,h8,nodeLv]
theorem nodeY (node:Int) (hnode:0<=node/\node<=31) (i:Int) (r:Run) (hr0:0<=r.Drive/\r.Drive<=4294967295) (out:List Int) (hlen:out.length<=2097152) :
  call E (.yld 0) [.lit (.int .i64 i),.agg (encRun r)] [.loop 0 none [(3,.ptr 1 0),(8,.ptr 3 0)] [27,28] A58_0 B58_0,.box [.func (.func 93) [] [.ptr 2 0]],.box [.lit (.int .i64 node)],.box [.own 4 out.length 1 0 out.length],.arr true false false 1 (out.map encI)]
   = some (.lit (.bool true),[.loop 0 none [(3,.ptr 1 0),(8,.ptr 3 0)] [27,28] A58_0 B58_0,.box [.func (.func 93) [] [.ptr 2 0]],.box [.lit (.int .i64 node)],.box [.own 4 (out.length+1) 1 0 (out.length+1)],.arr true false false 1 ((out++[nodeLv node r]).map encI)]):=by
 have hs:=node1_spec node hnode r hr0
 simp only [encRun] at hs
 have hb:¬ ((out.length+1) * 8 > 70368744177664):=by omega
 simp [go_sem,r9c E A58_0.eq_1,r9c E B58_0.eq_1,encRun,hs,encI,p9q,range_succ,hb]

def nodeH (node:Int) (nl fu:Bool) (l:List Run) (out:List Int):Heap :=
 [.box [.imm nl fu true (l.map encRun)],.loop 0 none [(3,.ptr 2 0),(8,.ptr 4 0)] [27,28] A58_0 B58_0,.box [.func (.func 93) [] [.ptr 3 0]],.box [.lit (.int .i64 node)],.box [.own 5 out.length 1 0 out.length],.arr true false false 1 (out.map encI)]
theorem nodeE_in (node:Int) (hnode:0<=node/\node<=31) (l:List Run) (hdr:∀ r∈l,0<=r.Drive/\r.Drive<=4294967295) (nl fu:Bool) (i:Nat) (hlt:i<l.length) (k:List Item) (R:Option (AVal × Heap)) (out0:List Int)
    (hN:0<=l[i].N) (hs:(out0.length:Int)+l[i].N<=1048576)
    (hk:∀ τ (out:List Int),out=out0++List.replicate l[i].N.toNat (nodeLv node l[i])->lk 0 τ=.yld 1->lk 3 τ=.lit (.int .i64 out.length)->lk 9 τ=.imm nl fu true (l.map encRun)->lk 10 τ=.lit (.int .i64 l.length)->lk 11 τ=.lit (.int .i64 i) ->
      finK 6 [] (run E 6 k τ (nodeH node nl fu l out++[.box (encRun l[i])]))=R) :
    ∀ (d j:Nat) (out:List Int),(j+d:Int)=l[i].N->out=out0++List.replicate j (nodeLv node l[i]) ->
   finK 6 [] (run E 6 (.code L119_1::.inLoop [0,3,5,9,10,11,16,17] L119_1::.inBlock 2::k)
     [(0,.yld 1),(3,.lit (.int .i64 out.length)),(5,.ptr 6 0),(9,.imm nl fu true (l.map encRun)),(10,.lit (.int .i64 l.length)),(11,.lit (.int .i64 i)),(16,.lit (.int .i64 l[i].N)),(17,.lit (.int .i64 j))]
     (nodeH node nl fu l out++[.box (encRun l[i])]))=R:=by
  intro d
  induction d with
  | zero =>
    intro j out hj ho
    have hj':¬ (j:Int)<l[i].N:=by omega
    simp [go_sem,r9c E L119_1.eq_1,hj']
    exact hk _ out (by rw [ho];congr 2;omega) rfl rfl rfl rfl rfl
  | succ d ih =>
    intro j out hj ho
    have hj':(j:Int)<l[i].N:=by omega
    have w2:=wrapIdx (i:=j) (by omega)
    have hlo:out.length=out0.length+j:=by rw [ho];simp
    have w3:=wrapIdx (i:=out.length) (by omega)
    have hY:=nodeY node hnode out.length ⟨1,l[i].Bus,l[i].Drive⟩ (hdr l[i] (List.getElem_mem hlt)) out (by omega)
    simp only [encRun] at hY
    have ih2:=ih (j+1) (out++[nodeLv node l[i]]) (by omega) (by rw [ho,List.append_assoc,List.replicate_succ'])
    simp [nodeH,encRun] at ih2
    simp [go_sem,r9c E L119_1.eq_1,hj',w2,w3,nodeH,encRun,p9q,hY]
    rw [r9l]
    simp [go_sem,p9q,range_succ]
    exact ih2

theorem nodeE_loop (node:Int) (hnode:0<=node/\node<=31) (l:List Run) (hdr:∀ r∈l,0<=r.Drive/\r.Drive<=4294967295) (hl:l.length<=1048576) (hN:∀ r∈l,0<=r.N) (nl fu:Bool) (k:List Item) (R:List Int->Option (AVal × Heap))
    (hk:∀ (out:List Int) τ,finK 6 [] (run E 6 k τ (nodeH node nl fu l out))=R out) :
    ∀ (d i:Nat) (out:List Int),i+d=l.length->(out.length:Int)+sumN (l.drop i)<=1048576 ->
   finK 6 [] (run E 6 (.code L119_0::.inLoop [0,3,9,10,11] L119_0::.inBlock 0::k)
     [(0,.yld 1),(3,.lit (.int .i64 out.length)),(9,.imm nl fu true (l.map encRun)),(10,.lit (.int .i64 l.length)),(11,.lit (.int .i64 i))]
     (nodeH node nl fu l out))=R (out++(expand (l.drop i)).map (nodeLv node)):=by
  intro d
  induction d with
  | zero =>
    intro i out hi h0
    have:i=l.length:=by omega
    subst this
    simp [go_sem,r9c E L119_0.eq_1,expand]
    exact hk out _
  | succ d ih =>
    intro i out hi h0
    have hlt:i<l.length:=by omega
    have hn:=hN _ (List.getElem_mem hlt)
    have w2:=wrapIdx (i:=i) (by omega)
    have hs0:∀ m:List Run,(∀ r∈m,0<=r.N)->0<=sumN m:=by
      intro m;induction m with
      | nil=>intro _;simp [sumN]
      | cons x xs ih=>intro h;have:=h x (by simp);have:=ih fun r hr=>h r (by simp [hr]);simp only [sumN];omega
    have hs1:=hs0 (l.drop (i+1)) fun r hr=>hN r (mem_of_mem_drop hr)
    rw [List.drop_eq_getElem_cons hlt,show sumN (l[i]::l.drop (i+1))=l[i].N+sumN (l.drop (i+1)) from rfl] at h0
    rw [List.drop_eq_getElem_cons hlt,expand_cons,map_append,List.map_replicate,<- List.append_assoc]
    have hin:=nodeE_in node hnode l hdr nl fu i hlt (.inBlock 1::.code (.reg [⟨none,some 31,.bin .add (.t 11) (.c (.lit (.int .i64 1)))⟩,⟨none,some 11,.copy (.t 31)⟩] [] [])::.inLoop [0,3,9,10,11] L119_0::.inBlock 0::k) (R (out++List.replicate l[i].N.toNat (nodeLv node l[i])++(expand (l.drop (i+1))).map (nodeLv node))) out hn (by omega) ?_ l[i].N.toNat 0 out (by omega) (by simp)
    · simp [nodeH,encRun] at hin
      simp [go_sem,r9c E L119_0.eq_1,hlt,getElem?_eq_getElem hlt,encRun,nodeH,p9q]
      rw [r9l]
      simp [go_sem,p9q,range_succ]
      exact hin
    · intro τ out' ho h1 h3 h9 h10 h11
      have hlo:(out'.length:Int)=out.length+l[i].N:=by rw [ho];simp;omega
      have ih2:=ih (i+1) out' (by omega) (by omega)
      rw [<- ho]
      simp [nodeH,encRun] at ih2
      simp [go_sem,h1,h3,h9,h10,h11,w2,nodeH,encRun]
      rw [r9l]
      simp [go_sem,p9q,h1,h3,h9,h10,h11,range_succ]
      exact ih2
theorem nodeE_spec (node:Int) (hnode:0<=node/\node<=31) (l:List Run) (hdr:∀ r∈l,0<=r.Drive/\r.Drive<=4294967295) (hl:l.length<=1048576) (hl2:∀ r∈l,r.Ok) (hc:chk l=0) (hs:sumN l<=1048576) (nl fu:Bool) :
  call E (.func (.func 119) [] [.ptr 0 0]) [.yld 1] (nodeH node nl fu l [])=some (.tup [],nodeH node nl fu l ((expand l).map (nodeLv node))):=by
 rw [c9f E E119]
 have hC:=check_spec l (by omega) hl2 nl fu
 rw [ticks_eq] at hC
 simp [hc] at hC
 obtain ⟨hN,-,-⟩:=chk_right hc
 have h:=nodeE_loop node hnode l hdr hl (fun r hr=>by have:=hN r hr;omega) nl fu [] (fun out=>some (.tup [],nodeH node nl fu l out)) ?_ l.length 0 [] (by omega) (by simpa using hs)
 ·simp [nodeH] at h
  simp [go_sem,ir119,nodeH,hC,p9q]
  rw [r9l]
  simp [go_sem,p9q,range_succ]
  exact h
 ·intro out τ
  simp [go_sem,nodeH,p9q,range_succ]
def levelsV1 (l:List Run):AVal :=
 if chk l≠0 then .tup [nilS,.lit (.int .i64 (chk l))] else if 1048576<sumN l then .tup [nilS,.lit (.int .i64 12)] else .tup [.own 1 (expand l).length 1 0 (expand l).length,.lit (.int .i64 0)]
theorem levelsNode_spec (node:Int) (hnode:0<=node/\node<=31) (l:List Run) (hdr:∀ r∈l,0<=r.Drive/\r.Drive<=4294967295) (hl:l.length<=1048576) (hl2:∀ r∈l,r.Ok) (nl fu:Bool) :
  call E (.func (.func 58) [] []) [.imm nl fu true (l.map encRun),.func (.func 93) [] [.ptr 0 0]] [.box [.lit (.int .i64 node)]]=some (levelsV1 l,.box [.lit (.int .i64 node)]::levelsH l (nodeLv node)):=by
 rw [c9f E E58]
 have hT:=ticks_spec l (by omega) hl2 nl fu
 rw [ticks_eq] at hT
 by_cases h:chk l=0
 ·rw [h,if_pos rfl] at hT
  obtain ⟨hN,h0,h1⟩:=chk_right h
  by_cases h2:1048576<sumN l
  ·simp [go_sem,ir58,hT,h,h2,levelsV1,levelsH]
  ·have hE:=nodeE_spec node hnode l hdr hl hl2 h (by omega) nl fu
   have hA:=each_spec nl fu (l.map encRun)
   simp [nodeH] at hE
   have h3:sumN l * 8<=70368744177664:=by omega
   have h4:sumN l<=70368744177664:=by omega
   simp [go_sem,ir58,hT,h,h2,levelsV1,levelsH,hA,h0,h3,h4,p9q,hE]
 ·rw [if_neg h] at hT
  simp [go_sem,ir58,hT,h,levelsV1,levelsH]

def nodeV (l:List Run) (node:Int):AVal :=
 if chk l≠0 then .tup [nilS,.lit (.int .i64 (chk l))] else if node<0∨32<=node then .tup [nilS,.lit (.int .i64 10)] else levelsV l (nodeLv node)
def nodeHp (l:List Run) (node:Int):Heap :=
 if chk l≠0 then [] else if node<0∨32<=node then [] else levelsH l (nodeLv node)
theorem node_spec (node:Int) (l:List Run) (hdr:∀ r∈l,0<=r.Drive/\r.Drive<=4294967295) (hl:l.length<=1048576) (hl2:∀ r∈l,r.Ok) (nl fu:Bool) :
  call E (.func (.func 62) [] []) [.imm nl fu true (l.map encRun),.lit (.int .i64 node)] []=some (nodeV l node,nodeHp l node):=by
 rw [c9f E E62]
 have hC:=check_spec l (by omega) hl2 nl fu
 rw [ticks_eq] at hC
 unfold nodeV nodeHp
 by_cases h:chk l=0
 ·by_cases h1:node<0
  ·simp [h] at hC
   simp [go_sem,ir62,hC,h,h1]
  ·by_cases h3:32<=node
   ·simp [h] at hC
    simp [go_sem,ir62,hC,h,h1,h3]
   ·have hL:=levelsNode_spec node (by omega) l hdr hl hl2 nl fu
    unfold levelsV1 levelsH at hL
    unfold levelsV levelsH
    simp [h] at hC
    by_cases h2:1048576<sumN l
    ·simp [h,h2] at hL
     simp [go_sem,ir62,hC,hL,h,h1,h2,h3,p9q]
    ·simp [h,h2] at hL
     simp [go_sem,ir62,hC,hL,h,h1,h2,h3,p9q]
 ·simp at hC
  simp [go_sem,ir62,hC,h]


theorem pick_expand:∀ (l:List Run) (t:Int),0<=t->(∀ r∈l,0<=r.N)->pick t l=(expand l)[t.toNat]?
 | [],_,_,_=>by simp [pick,expand]
 | r :: l,t,ht,h=>by
  have hr:=h r (by simp)
  rw [pick,expand_cons]
  by_cases hq:t<r.N
  ·rw [if_pos hq,getElem?_append_left (by simp;omega),List.getElem?_replicate,if_pos (by omega)]
  ·rw [if_neg hq,List.getElem?_append_right (by simp;omega),List.length_replicate,pick_expand l _ (by omega) fun x hx=>h x (by simp [hx])]
   congr 1;omega

theorem expand_push (out:List Run) (r:Run) (hr:0<=r.N) (ho:∀ x∈out,0<=x.N):expand (push out r)=expand out++expand [r]:=by
 rcases snoc_cases out with rfl | ⟨o,x,rfl⟩
 ·simp [push,expand]
 ·rw [push_snoc]
  by_cases h:alike x r=true
  ·rw [if_pos h]
   have hx:=ho x (by simp)
   simp only [alike,Bool.and_eq_true,decide_eq_true_eq] at h
   rw [expand_append,expand_append,List.append_assoc]
   congr 1
   simp only [expand,List.flatMap_cons,List.flatMap_nil,List.append_nil]
   rw [<- h.1,<- h.2,List.replicate_append_replicate]
   congr 1
   omega
  ·rw [if_neg h,show o++[x,r]=(o++[x])++[r] from by simp,expand_append]
theorem push_mem_nonneg {out:List Run} {r:Run} (hr:0<=r.N) (ho:∀ x∈out,0<=x.N):∀ x∈push out r,0<=x.N:=by
 intro y hy
 rcases snoc_cases out with rfl | ⟨o,x,rfl⟩
 ·simp [push] at hy;subst hy;exact hr
 ·have hx:=ho x (by simp)
  rw [push_snoc] at hy
  split at hy
  ·simp at hy
   rcases hy with hy | rfl
   ·exact ho y (by simp [hy])
   ·simp;omega
  ·simp at hy
   rcases hy with hy | rfl | rfl
   ·exact ho y (by simp [hy])
   ·exact hx
   ·exact hr
theorem expand_joined:∀ (l out:List Run),(∀ x∈out,0<=x.N)->expand (joined out l)=expand out++expand l
 | [],out,_=>by simp [joined,expand]
 | r :: l,out,ho=>by
  rw [joined]
  by_cases h:r.N<1
  ·rw [if_pos h,expand_joined l out ho,expand_cons,show r.N.toNat=0 from by omega]
   simp
  ·rw [if_neg h,expand_joined l _ (push_mem_nonneg (by omega) ho),expand_push out r (by omega) ho]
   simp [expand]
def Tidy (l:List Run):Prop:=(∀ x∈l,1<=x.N)/\∀ i (h:i+1<l.length),alike l[i] l[i+1]=false
theorem tidy_push {out:List Run} {r:Run} (hr:1<=r.N) (ho:Tidy out):Tidy (push out r):=by
 rcases snoc_cases out with rfl | ⟨o,x,rfl⟩
 ·rw [push_nil]
  refine ⟨by simpa using hr,fun i h=>?_⟩
  simp at h
 ·obtain ⟨h1,h2⟩:=ho
  have hx:=h1 x (by simp)
  rw [push_snoc]
  by_cases h:alike x r=true
  ·rw [if_pos h]
   refine ⟨fun y hy=>?_,fun i hi=>?_⟩
   ·simp at hy
    rcases hy with hy | rfl
    ·exact h1 y (by simp [hy])
    ·simp;omega
   ·have:=h2 i (by simpa using hi)
    simp at hi
    by_cases hio:i+1<o.length
    ·rw [List.getElem_append_left (by omega),List.getElem_append_left (by omega)] at this ⊢
     exact this
    ·have hi':i+1=o.length:=by omega
     rw [List.getElem_append_left (by omega),List.getElem_append_right (by omega)] at this ⊢
     simpa [hi',alike] using this
  ·rw [if_neg h,show o++[x,r]=(o++[x])++[r] from by simp]
   refine ⟨fun y hy=>?_,fun i hi=>?_⟩
   ·simp at hy
    rcases hy with hy | rfl | rfl
    ·exact h1 y (by simp [hy])
    ·exact hx
    ·exact hr
   ·simp at hi
    by_cases hio:i+1<(o++[x]).length
    ·rw [List.getElem_append_left (by omega),List.getElem_append_left hio]
     exact h2 i hio
    ·simp at hio
     have hi':i=o.length:=by omega
     subst hi'
     have hfalse:alike x r=false:=by simpa using h
     rw [List.getElem_append_left (by simp),List.getElem_append_right (by simp)]
     simpa using hfalse
theorem tidy_joined:∀ (l out:List Run),Tidy out->Tidy (joined out l)
 | [],_,h=>h
 | r::l,out,h=>by
  rw [joined]
  split
  ·exact tidy_joined l out h
  ·exact tidy_joined l _ (tidy_push (by omega) h)
theorem joined_mem:∀ (l out:List Run) (P:Run->Prop),(∀ r∈l,1<=r.N->P r)->(∀ x r,P x->P r->alike x r=true->P ⟨x.N+r.N,x.Bus,x.Drive⟩)->(∀ x∈out,P x)->∀ y∈joined out l,P y
 | [],_,_,_,_,h=>h
 | r :: l,out,P,hl,hp,h=>by
  rw [joined]
  split
  ·exact joined_mem l out P (fun x hx=>hl x (by simp [hx])) hp h
  ·refine joined_mem l _ P (fun x hx=>hl x (by simp [hx])) hp fun y hy=>?_
   have hr:=hl r (by simp) (by omega)
   rcases snoc_cases out with rfl | ⟨o,x,rfl⟩
   ·simp [push] at hy;subst hy;exact hr
   ·have hx:=h x (by simp)
    rw [push_snoc] at hy
    split at hy
    ·rename_i ha
     simp at hy
     rcases hy with hy | rfl
     ·exact h y (by simp [hy])
     ·exact hp x r hx hr ha
    ·simp at hy
     rcases hy with hy | rfl | rfl
     ·exact h y (by simp [hy])
     ·exact hx
     ·exact hr
theorem le_sum:∀ {l:List Run},(∀ r∈l,0<=r.N)->∀ r∈l,r.N<=sumN l
 | x :: l,h,r,hr=>by
  have hx:=h x (by simp)
  have hn:∀ m:List Run,(∀ r∈m,0<=r.N)->0<=sumN m:=by
   intro m;induction m with
   | nil=>intro _;simp [sumN]
   | cons x xs ih=>intro h;have:=h x (by simp);have:=ih fun r hr=>h r (by simp [hr]);simp only [sumN];omega
  have:=hn l fun r hr=>h r (by simp [hr])
  rw [show sumN (x::l)=x.N+sumN l from rfl]
  rcases mem_cons.1 hr with rfl | hr
  ·omega
  ·have:=le_sum (fun r hr=>h r (by simp [hr])) r hr;omega
theorem joined_chk {l:List Run} (h:chk l=0):chk (joined [] l)=0/\sumN (joined [] l)=sumN l/\expand (joined [] l)=expand l:=by
 obtain ⟨hN,h0,h1⟩:=chk_right h
 have hN':∀ r∈l,0<=r.N:=fun r hr=>by have:=hN r hr;omega
 have hex:expand (joined [] l)=expand l:=by rw [expand_joined l [] (by simp)];simp [expand]
 have hJ1:∀ r∈joined [] l,1<=r.N:=(tidy_joined l [] ⟨by simp,by simp⟩).1
 have hJ':∀ r∈joined [] l,0<=r.N:=fun r hr=>by have:=hJ1 r hr;omega
 have hs:sumN (joined [] l)=sumN l:=by rw [<- expand_length _ hJ',<- expand_length _ hN',hex]
 refine ⟨?_,hs,hex⟩
 have hb:=joined_mem l [] (fun r=>r.Bus=if r.Drive=4294967295 then 1 else 0) (fun r hr _=>by
  have h7:=h
  unfold chk at h7
  cases ha:l.all right with
  | false=>rw [ha] at h7;simp at h7
  | true =>
   have:=List.all_eq_true.1 ha r hr
   simp only [right,Bool.and_eq_true,decide_eq_true_eq] at this
   exact this.2) (fun x r hx _ _=>hx) (by simp)
 have hall:(joined [] l).all right=true:=by
  rw [List.all_eq_true]
  intro r hr
  have h2:=hJ1 r hr
  have h3:=le_sum hJ' r hr
  simp only [right,Bool.and_eq_true,decide_eq_true_eq]
  exact ⟨⟨h2,by omega⟩,hb r hr⟩
 unfold chk
 rw [if_pos hall,if_neg (by omega)]

def encB (n:Nat):List AVal:=[.lit (.int .u8 n)]
theorem wrap8 (n:Nat):IntKind.wrap .u8 (n:Int)=((n % 256:Nat):Int):=by
 simp [IntKind.wrap,IntKind.bits,IntKind.signed]
theorem wrap_u64 {n:Nat} (h:n<18446744073709551616):IntKind.wrap .u64 (n:Int)=(n:Int):=by
 simp [IntKind.wrap,IntKind.bits,IntKind.signed];omega
theorem noImmLL_append:∀ l m:List (List AVal),noImmLL (l++m)=(noImmLL l && noImmLL m)
 | [],m=>rfl
 | a::l,m=>by rw [List.cons_append,noImmLL,noImmLL,noImmLL_append l m,Bool.and_assoc]
theorem noImmLL_take {l:List (List AVal)} (h:noImmLL l=true) (n:Nat):noImmLL (l.take n)=true:=by
 have:=noImmLL_append (l.take n) (l.drop n)
 rw [List.take_append_drop,h] at this
 cases h2:noImmLL (l.take n) with
 | true=>rfl
 | false=>rw [h2] at this;cases this
theorem noImmLL_drop {l:List (List AVal)} (h:noImmLL l=true) (n:Nat):noImmLL (l.drop n)=true:=by
 have:=noImmLL_append (l.take n) (l.drop n)
 rw [List.take_append_drop,h] at this
 cases h2:noImmLL (l.drop n) with
 | true=>rfl
 | false=>rw [h2] at this;simp at this
theorem noImm_encB (l:List Nat):noImmLL (l.map encB)=true:=noImmLL_map (fun _=>rfl) l
attribute [go_sem] noImm_encB noImmLL_append noImmLL_take noImmLL_drop

def stepB (x:BitVec 32):BitVec 32:=(x >>> 1) ^^^ (if x.toNat % 2=1 then 3988292384#32 else 0#32)
def steps:Nat->BitVec 32->BitVec 32
 | 0,x=>x
 | n+1,x=>steps n (stepB x)
theorem wrap32bv (x:BitVec 32):IntKind.wrap .u32 (x.toNat:Int)=(x.toNat:Int):=by
 have:=x.isLt
 simp [IntKind.wrap,IntKind.bits,IntKind.signed];omega
theorem ofInt_toNat (x:BitVec 32):BitVec.ofInt 32 (x.toNat:Int)=x:=by
 rw [BitVec.ofInt_natCast,BitVec.ofNat_toNat,BitVec.setWidth_eq]







theorem ofNat_inj {a b:Nat} (ha:a<256) (hb:b<256) (h:UInt8.ofNat a=UInt8.ofNat b):a=b:=by
 have:=congrArg UInt8.toNat h
 simp at this
 omega









def bits8 (c:Nat):List Bool:=(List.range 8).map c.testBit
def bitsL (l:List Nat):List Bool:=l.flatMap bits8

structure Inv (P:List Nat) (head fr t i:Nat) (w:List Nat) (turned:Bool):Prop where
 len:w.length=P.length
 byte:∀ c∈w,c<256
 front:w.take head=P.take head
 win:∃ B,bitsL w=(bitsL P).take (8 * head+fr)++B++(bitsL P).drop (8 * head+fr+t)/\B.length=t /\
  (turned=true->∃ j,j<i/\B[j]?≠(((bitsL P).drop (8 * head+fr)).take t)[j]?)/\∀ j,i<=j->B[j]?=(((bitsL P).drop (8 * head+fr)).take t)[j]?
 same:turned=false->w=P
section
variable (c:Callee) (ρ:Opd->AVal) (H:Heap)
def idxVG (ag:Bool) (len sz:Nat) (H:Heap):AVal->AVal->Option (AVal × Heap)
 | .agg cs,.lit (.int _ n)=>if 0<=n then (if n.toNat<len then pairK H (get1 ag sz (cs.drop (n.toNat * sz))) else none) else none
 | _,_=>none
theorem aop_idxV (ag len sz x i):aop c ρ H (.idxV ag len sz x i)=idxVG ag len sz H (ρ x) (ρ i):=by
 simp only [aop]
 generalize ρ i=vi
 generalize ρ x=vx
 cases vi with
 | lit v =>
  cases v with
  | int k n =>
   by_cases h:0<=n
   ·simp only [asNat,h,if_true,Option.bind_some]
    cases vx with
    | agg cs =>
     simp only [idxVG,h,if_true]
     split
     ·exact map_pair _ _
     ·rfl
    | _=>rfl
   ·simp only [asNat,h,if_false,Option.bind_none]
    cases vx<;>simp [idxVG,h]
  | _=>cases vx<;>rfl
 | _=>cases vx<;>rfl
theorem idxVG_agg (ag len sz cs k n):idxVG ag len sz H (.agg cs) (.lit (.int k n))=if 0<=n then (if n.toNat<len then pairK H (get1 ag sz (cs.drop (n.toNat * sz))) else none) else none:=rfl
end
def lv (b:Bool):Int:=if b then 1 else 0
def encLv (b:Bool):List AVal:=[.lit (.int .i64 (lv b))]
theorem lv_nat (b:Bool):lv b=(b.toNat:Int):=by cases b<;>rfl
theorem rowsLv (m:List Bool):rowsOk 1 (m.map encLv)=true:=by
 simp [rowsOk,encLv]
theorem take_allLv (m:List Bool):List.take m.length (m.map encLv)=m.map encLv:=List.take_of_length_le (by simp)
theorem blevel_spec (b:Bool):call E (.func (.func 138) [] []) [.lit (.int .i64 (lv b))] []=some (.lit (.bool true),[]):=by
 rw [c9f E E138]
 cases b<;>simp [go_sem,ir138,lv]
theorem chk1_spec (b:Bool):call E (.func (.func 137) [] []) [.lit (.int .i64 (lv b))] []=some (.lit (.bool false),[]):=by
 rw [c9f E E137]
 simp [go_sem,ir137,blevel_spec]
theorem idx_loop (m:List Bool) (hl:m.length<=1099511627775) (nl fu:Bool) (k:List Item) (R:Option (AVal × Heap)) (hk:∀ τ,finK 0 [.tmp 4] (run E 0 k τ [])=R) :
    ∀ (d i:Nat),i+d=m.length ->
   finK 0 [.tmp 4] (run E 0 (.code L136_0::.inLoop [0,1,7,8] L136_0::.inBlock 0::k) [(0,.imm nl fu true (m.map encLv)),(1,.func (.func 137) [] []),(7,.lit (.int .i64 m.length)),(8,.lit (.int .i64 i))] [])=R:=by
  intro d
  induction d with
  | zero =>
    intro i hi
    have:i=m.length:=by omega
    subst this
    simp [go_sem,r9c E L136_0.eq_1]
    exact hk _
  | succ d ih =>
    intro i hi
    have hlt:i<m.length:=by omega
    have w:=wrapIdx (i:=i) (by omega)
    have ih2:=ih (i+1) (by omega)
    simp at ih2 w
    simp [go_sem,r9c E L136_0.eq_1,hlt,getElem?_eq_getElem hlt,encLv,chk1_spec,w,p9q]
    rw [r9l]
    simp [go_sem,p9q]
    exact ih2
theorem check_lv (m:List Bool) (hl:m.length<=1099511627775) (nl fu:Bool):call E (.func (.func 104) [] []) [.imm nl fu true (m.map encLv)] []=some (.lit (.int .i64 (-1)),[]):=by
 rw [c9f E E104]
 have h:call E (.func (.func 136) [] []) [.imm nl fu true (m.map encLv),.func (.func 137) [] []] []=some (.lit (.int .i64 (-1)),[]):=by
  rw [c9f E E136]
  have h:=fun k hk=>idx_loop m hl nl fu k (some (.lit (.int .i64 (-1)),[])) hk m.length 0 (by omega)
  simp at h
  simp [go_sem,ir136,p9q]
  rw [r9l]
  simp [go_sem,p9q]
  refine h _ ?_
  intro τ
  simp [go_sem]
 simp [go_sem,ir104,h,p9q]
def valGo (n:Nat):List Bool->Nat
 | []=>n
 | b::l=>valGo (2 * n+b.toNat) l
def valB (l:List Bool):Nat:=valGo 0 l
theorem valGo_lt:∀ (l:List Bool) (n:Nat),valGo n l<(n+1) * 2 ^ l.length
 | [],n=>by simp [valGo]
 | b::l,n=>by
  have:=valGo_lt l (2 * n+b.toNat)
  have hb:b.toNat<=1:=by cases b<;>decide
  rw [valGo,List.length_cons,Nat.pow_succ]
  have:(2 * n+b.toNat+1) * 2 ^ l.length<=(2 * (n+1)) * 2 ^ l.length:=Nat.mul_le_mul_right _ (by omega)
  have e:(2 * (n+1)) * 2 ^ l.length=(n+1) * (2 ^ l.length * 2):=by rw [Nat.mul_comm 2 (n+1),Nat.mul_assoc,Nat.mul_comm 2]
  omega
theorem valB_lt (l:List Bool):valB l<2 ^ l.length:=by
 have:=valGo_lt l 0
 simpa [valB] using this
theorem ior_bit {n:Nat} (b:Bool) (h:2 * n+1<18446744073709551616):ior .u64 ((2 * n:Nat):Int) ((b.toNat:Nat):Int)=((2 * n+b.toNat:Nat):Int):=by
 have hb:b.toNat<2 ^ 1:=by cases b<;>decide
 have e:(BitVec.ofInt 64 ((2 * n:Nat):Int) ||| BitVec.ofInt 64 ((b.toNat:Nat):Int)).toNat=2 * n+b.toNat:=by
  rw [BitVec.toNat_or,BitVec.ofInt_natCast,BitVec.ofInt_natCast,BitVec.toNat_ofNat,BitVec.toNat_ofNat,Nat.mod_eq_of_lt (by omega),Nat.mod_eq_of_lt (by omega)]
  have:=Nat.two_pow_add_eq_or_of_lt hb n
  simpa using this.symm
 unfold ior
 show IntKind.wrap .u64 ((BitVec.ofInt 64 ((2 * n:Nat):Int) ||| BitVec.ofInt 64 ((b.toNat:Nat):Int)).toNat:Int)=_
 rw [e,wrap_u64 (by omega)]
theorem val_loop (m:List Bool) (hl:m.length<=64) (nl fu:Bool) (k:List Item) (R:Nat->Option (AVal × Heap)) (hk:∀ (τ:Tmps) (n:Nat),lk 4 τ=.lit (.int .u64 (n:Int))->finK 0 [.tmp 2,.tmp 3] (run E 0 k τ [])=R n) :
    ∀ (d i:Nat) (n:Nat),i+d=m.length->n<2 ^ i ->
   finK 0 [.tmp 2,.tmp 3] (run E 0 (.code L118_0::.inLoop [4,15,16,17] L118_0::.inBlock 1::k) [(4,.lit (.int .u64 n)),(15,.imm nl fu true (m.map encLv)),(16,.lit (.int .i64 m.length)),(17,.lit (.int .i64 i))] [])=R (valGo n (m.drop i)):=by
  intro d
  induction d with
  | zero =>
    intro i n hi hn
    have:i=m.length:=by omega
    subst this
    simp [go_sem,r9c E L118_0.eq_1,valGo]
    exact hk _ _ rfl
  | succ d ih =>
    intro i n hi hn
    have hlt:i<m.length:=by omega
    have w:=wrapIdx (i:=i) (by omega)
    have hb:m[i].toNat<=1:=by cases m[i]<;>decide
    have hp:2 ^ (i+1)<=2 ^ 64:=Nat.pow_le_pow_right (by omega) (by omega)
    have hp2:2 ^ (i+1)=2 * 2 ^ i:=by rw [Nat.pow_succ,Nat.mul_comm]
    have w1:IntKind.wrap .u64 ((n:Int) * 2)=((2 * n:Nat):Int):=by rw [show (n:Int) * 2=((2 * n:Nat):Int) from by omega,wrap_u64 (by omega)]
    have w2:IntKind.wrap .u64 (lv m[i])=((m[i].toNat:Nat):Int):=by rw [lv_nat,wrap_u64 (by omega)]
    have w3:=ior_bit (n:=n) m[i] (by omega)
    rw [List.drop_eq_getElem_cons hlt,valGo]
    have ih2:=ih (i+1) (2 * n+m[i].toNat) (by omega) (by omega)
    generalize R _=Q at ih2 ⊢
    generalize 2 * n+m[i].toNat=n2 at *
    generalize 2 * n=n1 at *
    simp at ih2 w
    simp [go_sem,r9c E L118_0.eq_1,hlt,getElem?_eq_getElem hlt,encLv,w,w1,w2,w3,p9q]
    rw [r9l]
    simp [go_sem,p9q]
    exact ih2
theorem value_spec (m:List Bool) (hl:m.length<=64) (nl fu:Bool):call E (.func (.func 118) [] []) [.imm nl fu true (m.map encLv)] []=some (.tup [.lit (.int .u64 (valB m)),.lit (.int .i64 0)],[]):=by
 rw [c9f E E118]
 have hc:=check_lv m (by omega) nl fu
 have h64:¬ ((64:Int)<m.length):=by omega
 have h:=fun k hk=>val_loop m hl nl fu k (fun n=>some (.tup [.lit (.int .u64 n),.lit (.int .i64 0)],[])) hk m.length 0 0 (by omega) (by simp)
 simp at h
 simp [go_sem,ir118,hc,h64,p9q]
 rw [r9l]
 simp [go_sem,p9q]
 refine h _ ?_
 intro τ n t4
 simp [go_sem,t4]
theorem fvalue_spec (m:List Bool) (hl:m.length<=62) (nl fu:Bool):call E (.func (.func 89) [] []) [.imm nl fu true (m.map encLv)] []=some (.lit (.int .i64 (valB m)),[]):=by
 rw [c9f E E89]
 have h:=value_spec m (by omega) nl fu
 have hb:=valB_lt m
 have hp:2 ^ m.length<=2 ^ 62:=Nat.pow_le_pow_right (by omega) hl
 have w:IntKind.wrap .i64 (valB m:Int)=valB m:=wrap64 (by omega) (by omega)
 simp [go_sem,ir89,h,w,p9q]
theorem iand_i64_nat {x y:Nat} (hx:x<9223372036854775808) (hy:y<9223372036854775808):iand .i64 (x:Int) (y:Int)=((x &&& y:Nat):Int):=by
 have e:(BitVec.ofInt 64 (x:Int) &&& BitVec.ofInt 64 (y:Int)).toNat=x &&& y:=by
  rw [BitVec.toNat_and,BitVec.ofInt_natCast,BitVec.ofInt_natCast,BitVec.toNat_ofNat,BitVec.toNat_ofNat,Nat.mod_eq_of_lt (by omega),Nat.mod_eq_of_lt (by omega)]
 have hl:x &&& y<=x:=Nat.and_le_left
 unfold iand
 show IntKind.wrap .i64 ((BitVec.ofInt 64 (x:Int) &&& BitVec.ofInt 64 (y:Int)).toNat:Int)=_
 rw [e,wrap64 (by omega) (by omega)]
theorem ixor_i64_nat {x y:Nat} (hx:x<4611686018427387904) (hy:y<4611686018427387904):ixor .i64 (x:Int) (y:Int)=((x ^^^ y:Nat):Int):=by
 have e:(BitVec.ofInt 64 (x:Int) ^^^ BitVec.ofInt 64 (y:Int)).toNat=x ^^^ y:=by
  rw [BitVec.toNat_xor,BitVec.ofInt_natCast,BitVec.ofInt_natCast,BitVec.toNat_ofNat,BitVec.toNat_ofNat,Nat.mod_eq_of_lt (by omega),Nat.mod_eq_of_lt (by omega)]
 have hl:x ^^^ y<2 ^ 62:=Nat.xor_lt_two_pow (by omega) (by omega)
 unfold ixor
 show IntKind.wrap .i64 ((BitVec.ofInt 64 (x:Int) ^^^ BitVec.ofInt 64 (y:Int)).toNat:Int)=_
 rw [e,wrap64 (by omega) (by omega)]
theorem and_16384 {s:Nat} (h:s<32768):(s &&& 16384=0)↔s<16384:=by
 constructor
 ·intro e
  apply Classical.byContradiction
  intro q
  have h1:s.testBit 14=true:=by
   rw [Nat.testBit_eq_decide_div_mod_eq];simp;omega
  have h2:(s &&& 16384).testBit 14=true:=by rw [Nat.testBit_and,h1];decide
  rw [e] at h2
  simp at h2
 ·intro q
  apply Nat.eq_of_testBit_eq
  intro i
  rw [Nat.testBit_and,show 16384=2 ^ 14 from rfl,Nat.testBit_two_pow]
  by_cases h:14=i
  ·subst h
   rw [Nat.testBit_lt_two_pow (show s<2 ^ 14 by omega)];simp
  ·simp [h]
def c15Step (s:Nat) (b:Bool):Nat:=if decide (16384<=s) != b then (2 * s % 32768) ^^^ 17817 else 2 * s % 32768
theorem c15Step_lt (s:Nat) (b:Bool):c15Step s b<32768:=by
 unfold c15Step
 split
 ·exact Nat.xor_lt_two_pow (n:=15) (by omega) (by omega)
 ·omega
theorem cstep_spec (s:Nat) (h:s<32768) (b:Bool):call E (.func (.func 110) [] []) [.lit (.int .i64 s),.lit (.int .i64 (lv b))] []=some (.lit (.int .i64 (c15Step s b)),[]):=by
 rw [c9f E E110]
 have w1:IntKind.wrap .i64 ((s:Int) * 2)=((2 * s:Nat):Int):=by rw [wrap64 (by omega) (by omega)];omega
 have a1:iand .i64 ((2 * s:Nat):Int) 32767=((2 * s % 32768:Nat):Int):=by
  rw [show (32767:Int)=((32767:Nat):Int) from rfl,iand_i64_nat (by omega) (by omega),show 32767=2 ^ 15 - 1 from rfl,Nat.and_two_pow_sub_one_eq_mod]
 have a2:iand .i64 (s:Int) 16384=((s &&& 16384:Nat):Int):=by
  rw [show (16384:Int)=((16384:Nat):Int) from rfl,iand_i64_nat (by omega) (by omega)]
 have a3:ixor .i64 ((2 * s % 32768:Nat):Int) 17817=((2 * s % 32768 ^^^ 17817:Nat):Int):=by
  rw [show (17817:Int)=((17817:Nat):Int) from rfl,ixor_i64_nat (by omega) (by omega)]
 have hm:=and_16384 h
 unfold c15Step
 by_cases hs:s<16384
 ·have e0:=hm.2 hs
  have hs':¬ 16384<=s:=by omega
  rw [e0] at a2
  generalize 2 * s % 32768=m at *
  generalize m ^^^ 17817=m2 at *
  generalize 2 * s=s2 at *
  simp at a2
  cases b<;>simp [go_sem,ir110,lv,w1,a1,a2,a3,hs']
 ·have e0:¬ (s &&& 16384=0):=fun e=>hs (hm.1 e)
  have hs':16384<=s:=by omega
  generalize s &&& 16384=t at *
  generalize 2 * s % 32768=m at *
  generalize m ^^^ 17817=m2 at *
  generalize 2 * s=s2 at *
  cases b<;>simp [go_sem,ir110,lv,w1,a1,a2,a3,hs',e0]
def c15Go (s:Nat):List Bool->Nat
 | []=>s
 | b::l=>c15Go (c15Step s b) l
def c15L (l:List Bool):Nat:=c15Go 0 l
theorem c15Go_lt:∀ (l:List Bool) (s:Nat),s<32768->c15Go s l<32768
 | [],s,h=>h
 | b::l,s,_=>c15Go_lt l _ (c15Step_lt s b)
theorem c15L_lt (l:List Bool):c15L l<32768:=c15Go_lt l 0 (by omega)
theorem con_spec (s:Nat) (h:s<32768) (b:Bool):call E (.func (.func 109) [] [.ptr 0 0]) [.lit (.int .i64 (lv b))] [.box [.lit (.int .i64 s)]]=some (.tup [],[.box [.lit (.int .i64 (c15Step s b))]]):=by
 rw [c9f E E109]
 simp [go_sem,ir109,cstep_spec s h b,p9q,range_succ]
theorem csum_loop (m:List Bool) (hl:m.length<=1000000) (nl fu:Bool) (k:List Item) (R:Nat->Option (AVal × Heap))
    (hk:∀ (τ:Tmps) (s:Nat),lk 4 τ=.ptr 0 0->finK 0 [.tmp 2,.tmp 3] (run E 0 k τ [.box [.lit (.int .i64 (s:Int))]])=R s) :
    ∀ (d i:Nat) (s:Nat),i+d=m.length->s<32768 ->
   finK 0 [.tmp 2,.tmp 3] (run E 0 (.code L79_0::.inLoop [0,4,5,12,13] L79_0::.inBlock 0::k) [(0,.imm nl fu true (m.map encLv)),(4,.ptr 0 0),(5,.func (.func 109) [] [.ptr 0 0]),(12,.lit (.int .i64 m.length)),(13,.lit (.int .i64 i))] [.box [.lit (.int .i64 s)]])=R (c15Go s (m.drop i)):=by
  intro d
  induction d with
  | zero =>
    intro i s hi hs
    have:i=m.length:=by omega
    subst this
    simp [go_sem,r9c E L79_0.eq_1,c15Go]
    exact hk _ _ rfl
  | succ d ih =>
    intro i s hi hs
    have hlt:i<m.length:=by omega
    have w:=wrapIdx (i:=i) (by omega)
    rw [List.drop_eq_getElem_cons hlt,c15Go]
    have ih2:=ih (i+1) (c15Step s m[i]) (by omega) (c15Step_lt _ _)
    have hc:=con_spec s hs m[i]
    generalize R _=Q at ih2 ⊢
    generalize c15Step s m[i]=s2 at *
    simp at ih2 w
    simp [go_sem,r9c E L79_0.eq_1,hlt,getElem?_eq_getElem hlt,encLv,w,hc,p9q,range_succ]
    rw [r9l]
    simp [go_sem,p9q,range_succ]
    exact ih2
theorem csum_spec (m:List Bool) (hl:m.length<=1000000) (nl fu:Bool):call E (.func (.func 79) [] []) [.imm nl fu true (m.map encLv)] []=some (.tup [.lit (.int .i64 (c15L m)),.lit (.int .i64 0)],[]):=by
 rw [c9f E E79]
 have hc:=check_lv m (by omega) nl fu
 have h:=fun k hk=>csum_loop m hl nl fu k (fun n=>some (.tup [.lit (.int .i64 n),.lit (.int .i64 0)],[])) hk m.length 0 0 (by omega) (by omega)
 simp at h
 simp [go_sem,ir79,hc,p9q,range_succ]
 rw [r9l]
 simp [go_sem,p9q,range_succ]
 refine h _ ?_
 intro τ s t4
 simp [go_sem,t4,p9q,range_succ]
def bitsOf:Nat->Nat->List Bool
 | 0,_=>[]
 | w+1,n=>decide (n / 2 ^ w % 2=1)::bitsOf w n
theorem bitsOf_length:∀ w n,(bitsOf w n).length=w
 | 0,_=>rfl
 | w+1,n=>by rw [bitsOf,List.length_cons,bitsOf_length w]
theorem bof_loop (n w:Nat) (hn:n<18446744073709551616) (hw:w<=64) (k:List Item) (R:Option (AVal × Heap))
    (hk:∀ τ,lk 6 τ=.own 0 w 1 0 w->finK 0 [.tmp 4,.tmp 5] (run E 0 k τ [.arr true false false 1 ((bitsOf w n).map encLv)])=R) :
    ∀ (d i:Nat),i+d=w ->
   finK 0 [.tmp 4,.tmp 5] (run E 0 (.code L108_0::.inLoop [0,1,6,16,17] L108_0::.inBlock 0::k) [(0,.lit (.int .u64 n)),(1,.lit (.int .i64 w)),(6,.own 0 w 1 0 w),(16,.lit (.int .i64 w)),(17,.lit (.int .i64 i))] [.arr true false false 1 ((List.replicate (w - i) false++bitsOf i n).map encLv)])=R:=by
  intro d
  induction d with
  | zero =>
    intro i hi
    have:i=w:=by omega
    subst this
    simp [go_sem,r9c E L108_0.eq_1]
    exact hk _ rfl
  | succ d ih =>
    intro i hi
    have hlt:i<w:=by omega
    have w1:=wrapIdx (i:=i) (by omega)
    have w2:IntKind.wrap .i64 ((w:Int) - 1)=(w:Int) - 1:=wrap64 (by omega) (by omega)
    have w3:IntKind.wrap .i64 ((w:Int) - 1 - (i:Int))=((w - 1 - i:Nat):Int):=by rw [wrap64 (by omega) (by omega)];omega
    have hmin:min i 64=i:=by omega
    have hp:(0:Int)<2 ^ i:=Int.pow_pos (by omega)
    have hfd:(n:Int).fdiv (2 ^ i)=((n / 2 ^ i:Nat):Int):=by rw [Int.fdiv_eq_ediv_of_nonneg _ (by omega)];simp
    have hlt64:n / 2 ^ i<18446744073709551616:=Nat.lt_of_le_of_lt (Nat.div_le_self _ _) hn
    have a1:iand .u64 ((n / 2 ^ i:Nat):Int) 1=((n / 2 ^ i % 2:Nat):Int):=by
      have e:(BitVec.ofInt 64 ((n / 2 ^ i:Nat):Int) &&& BitVec.ofInt 64 1).toNat=n / 2 ^ i % 2:=by
        rw [BitVec.toNat_and,BitVec.ofInt_natCast,BitVec.toNat_ofNat,BitVec.toNat_ofInt,show ((1:Int) % ((2 ^ 64:Nat):Int)).toNat=1 from by decide,Nat.mod_eq_of_lt (by omega),Nat.and_one_is_mod]
      unfold iand
      show IntKind.wrap .u64 ((BitVec.ofInt 64 ((n / 2 ^ i:Nat):Int) &&& BitVec.ofInt 64 1).toNat:Int)=_
      rw [e,wrap_u64 (by omega)]
    have w4:IntKind.wrap .i64 ((n / 2 ^ i % 2:Nat):Int)=lv (decide (n / 2 ^ i % 2=1)):=by
      rw [wrap64 (by omega) (by omega)]
      unfold lv
      by_cases h:n / 2 ^ i % 2=1
      · simp [h]
      · have:n / 2 ^ i % 2=0:=by omega
        simp [this]
    have hlt0:¬ (i:Int)<0:=by omega
    have hset:((List.replicate (w - i) false++bitsOf i n).map encLv).set (w - 1 - i) [.lit (.int .i64 (lv (decide (n / 2 ^ i % 2=1))))]=(List.replicate (w - (i+1)) false++bitsOf (i+1) n).map encLv:=by
      rw [show ([.lit (.int .i64 (lv (decide (n / 2 ^ i % 2=1))))]:List AVal)=encLv (decide (n / 2 ^ i % 2=1)) from rfl,<- List.map_set]
      congr 1
      rw [show w - i=(w - (i+1))+1 from by omega,List.replicate_succ',List.append_assoc,show w - 1 - i=w - (i+1) from by omega,List.set_append_right _ _ (by simp)]
      simp [bitsOf]
    have hlen:((List.replicate (w - i) false++bitsOf i n).map encLv).length=w:=by simp [bitsOf_length];omega
    have hel:∀ h:w - 1 - i<((List.replicate (w - i) false++bitsOf i n).map encLv).length,(((List.replicate (w - i) false++bitsOf i n).map encLv)[w - 1 - i]'h).length=1:=by
      intro h;rw [List.getElem_map];rfl
    have ih2:=ih (i+1) (by omega)
    rw [<- hset] at ih2
    have hj:w - 1 - i<w:=by omega
    generalize (List.replicate (w - i) false++bitsOf i n).map encLv=B at *
    generalize w - 1 - i=j at *
    generalize decide (n / 2 ^ i % 2=1)=bb at *
    generalize n / 2 ^ i % 2=r at *
    generalize n / 2 ^ i=q at *
    have hjB:j<B.length:=by omega
    have hBj:B[j]?=some (B[j]):=getElem?_eq_getElem hjB
    have he:=hel hjB
    have htl:B[j].tail=[]:=List.eq_nil_of_length_eq_zero (by rw [List.length_tail,he])
    simp at ih2 w1
    simp [go_sem,r9c E L108_0.eq_1,hlt,w1,w2,w3,hmin,hfd,a1,w4,hlt0,hj,hlen,hBj,hjB,he,htl,p9q,range_succ]
    rw [r9l]
    simp [go_sem,p9q,range_succ]
    exact ih2
theorem bof_spec (n w:Nat) (hn:n<18446744073709551616) (hw:w<=64):call E (.func (.func 108) [] []) [.lit (.int .u64 n),.lit (.int .i64 w)] []=some (.tup [.own 0 w 1 0 w,.lit (.int .i64 0)],[.arr true false false 1 ((bitsOf w n).map encLv)]):=by
 rw [c9f E E108]
 have h0:¬ (w:Int)<0:=by omega
 have h64:¬ (64:Int)<w:=by omega
 have hb1:(w:Int)<=70368744177664:=by omega
 have hb2:(w:Int) * 8<=70368744177664:=by omega
 have h:=fun k hk=>bof_loop n w hn hw k (some (.tup [.own 0 w 1 0 w,.lit (.int .i64 0)],[.arr true false false 1 ((bitsOf w n).map encLv)])) hk w 0 (by omega)
 have hr:((List.replicate (w - 0) false++bitsOf 0 n).map encLv)=List.replicate w [.lit (.int .i64 0)]:=by simp [bitsOf,encLv,lv]
 rw [hr] at h
 simp at h
 simp [go_sem,ir108,h0,h64,hb1,hb2,p9q,range_succ]
 rw [r9l]
 simp [go_sem,p9q,range_succ]
 refine h _ ?_
 intro τ t6
 simp [go_sem,t6,p9q,range_succ]
theorem cbits_spec (s:Nat) (h:s<32768):call E (.func (.func 80) [] []) [.lit (.int .i64 s)] []=some (.tup [.own 0 15 1 0 15,.lit (.int .i64 0)],[.arr true false false 1 ((bitsOf 15 s).map encLv)]):=by
 rw [c9f E E80]
 have hm:call E (.func (.func 111) [] []) [.lit (.int .i64 s)] []=some (.lit (.bool true),[]):=by
  rw [c9f E E111]
  have h1:(s:Int)<=32767:=by omega
  have h1':s<=32767:=by omega
  simp [go_sem,ir111,h1,h1']
 have w:=wrap_u64 (n:=s) (by omega)
 have ho:=bof_spec s 15 (by omega) (by omega)
 simp at ho
 simp [go_sem,ir80,hm,w,ho,p9q,range_succ]
theorem eq_loop (l m:List Bool) (hll:l.length=m.length) (hl:l.length<=1000000) (n1 f1 n2 f2:Bool) (k:List Item) (R:Bool->Option (AVal × Heap))
    (hk:∀ τ,finK 0 [.tmp 4] (run E 0 k τ [])=R true) (hR:R false=some (.lit (.bool false),[])) :
    ∀ (d i:Nat),i+d=l.length ->
   finK 0 [.tmp 4] (run E 0 (.code L142_0::.inLoop [0,1,12,13] L142_0::.inBlock 0::k) [(0,.imm n1 f1 true (l.map encLv)),(1,.imm n2 f2 true (m.map encLv)),(12,.lit (.int .i64 l.length)),(13,.lit (.int .i64 i))] [])=R (decide (l.drop i=m.drop i)):=by
  intro d
  induction d with
  | zero =>
    intro i hi
    have:i=l.length:=by omega
    subst this
    have e:decide (l.drop l.length=m.drop l.length)=true:=by rw [decide_eq_true_eq,List.drop_length,hll,List.drop_length]
    rw [e]
    simp [go_sem,r9c E L142_0.eq_1]
    exact hk _
  | succ d ih =>
    intro i hi
    have hlt:i<l.length:=by omega
    have hlt2:i<m.length:=by omega
    have w:=wrapIdx (i:=i) (by omega)
    rw [List.drop_eq_getElem_cons hlt,List.drop_eq_getElem_cons hlt2]
    by_cases h:l[i]=m[i]
    · have e:decide (l[i]::l.drop (i+1)=m[i]::m.drop (i+1))=decide (l.drop (i+1)=m.drop (i+1)):=decide_eq_decide.2 ⟨fun q=>(List.cons.inj q).2,fun q=>by rw [h,q]⟩
      rw [e]
      have ih2:=ih (i+1) (by omega)
      generalize R (decide (l.drop (i+1)=m.drop (i+1)))=Q at ih2 ⊢
      simp at ih2 w
      simp [go_sem,r9c E L142_0.eq_1,hlt,hlt2,getElem?_eq_getElem hlt,getElem?_eq_getElem hlt2,encLv,h,w,p9q]
      rw [r9l]
      simp [go_sem,p9q]
      exact ih2
    · have e:decide (l[i]::l.drop (i+1)=m[i]::m.drop (i+1))=false:=decide_eq_false (fun q=>h (List.cons.inj q).1)
      rw [e,hR]
      have hne:¬ lv l[i]=lv m[i]:=by intro q;apply h;cases hx:l[i]<;>cases hy:m[i]<;>simp [hx,hy,lv] at q ⊢
      simp [go_sem,r9c E L142_0.eq_1,hlt,hlt2,getElem?_eq_getElem hlt,getElem?_eq_getElem hlt2,encLv,hne,w,p9q]
theorem sequal_spec (l m:List Bool) (hll:l.length=m.length) (hl:l.length<=1000000) (n1 f1 n2 f2:Bool):call E (.func (.func 142) [] []) [.imm n1 f1 true (l.map encLv),.imm n2 f2 true (m.map encLv)] []=some (.lit (.bool (decide (l=m))),[]):=by
 rw [c9f E E142]
 have h:=fun k hk=>eq_loop l m hll hl n1 f1 n2 f2 k (fun b=>some (.lit (.bool b),[])) hk rfl l.length 0 (by omega)
 simp at h
 simp [go_sem,ir142,hll,p9q]
 rw [r9l]
 simp [go_sem,p9q]
 rw [hll] at h
 refine h _ ?_
 intro τ
 simp [go_sem]
def rightC (m:List Bool):Bool:=decide (m.drop (m.length - 15)=bitsOf 15 (c15L (m.take (m.length - 15))))
theorem cright_spec (m:List Bool) (h15:15<=m.length) (hl:m.length<=1000000) (nl fu:Bool):call E (.func (.func 117) [] []) [.imm nl fu true (m.map encLv)] []=some (.lit (.bool (rightC m)),[]):=by
 rw [c9f E E117]
 have hc:=check_lv m (by omega) nl fu
 have w:IntKind.wrap .i64 ((m.length:Int) - 15)=((m.length - 15:Nat):Int):=by rw [wrap64 (by omega) (by omega)];omega
 have hr:=rowsLv m
 have hS:=csum_spec (m.take (m.length - 15)) (by simp;omega) nl
 have hB:=cbits_spec (c15L (m.take (m.length - 15))) (c15L_lt _)
 have hE:=fun f1 f2=>sequal_spec (m.drop (m.length - 15)) (bitsOf 15 (c15L (m.take (m.length - 15)))) (by rw [bitsOf_length,List.length_drop];omega) (by simp;omega) nl f1 false f2
 rw [List.map_take] at hS
 rw [List.map_drop] at hE
 unfold rightC
 have h0:¬ ((m.length - 15:Nat):Int)<0:=by omega
 have hle:m.length - 15<=m.length:=by omega
 have hE2:=hE
 generalize decide (m.drop (m.length - 15)=bitsOf 15 (c15L (m.take (m.length - 15))))=D at *
 generalize c15L (m.take (m.length - 15))=s at *
 generalize m.length - 15=j at *
 have hE1:=hE fu false
 have hcw:cutE ((bitsOf 15 s).map encLv) 0 15=(bitsOf 15 s).map encLv:=cutE_whole (by simp [bitsOf_length])
 simp [go_sem,ir117,hc,w,hr,hle,h0,take_allLv,bitsOf_length,hcw,hS,hB,hE1,p9q,range_succ]
def extF (m:List Bool):Bool:=(m[13]?).getD false
def dataF (m:List Bool):Nat:=if extF m=true then 39 else 19
def ctrlF (m:List Bool):Nat:=if extF m=true then 33 else 14
def rtrF (m:List Bool):Bool:=(m[if extF m=true then 32 else 12]?).getD false
def sizeF (m:List Bool):Nat:=min (valB ((m.take (dataF m)).drop (dataF m - 4))) 8
def sumF (m:List Bool):Nat:=if rtrF m=true then dataF m else dataF m+8 * sizeF m
def encHead (e r:Bool) (c d s:Nat):List AVal:=[.lit (.bool e),.lit (.bool r),.lit (.int .i64 c),.lit (.int .i64 d),.lit (.int .i64 s)]
theorem sumF_ge (m:List Bool):dataF m<=sumF m/\sumF m<=dataF m+64/\(dataF m=19∨dataF m=39):=by
 unfold sumF sizeF
 have:dataF m=19∨dataF m=39:=by unfold dataF;split<;>omega
 split<;>omega
theorem read1 (m:List Bool) (h:m.length<=13) (nl fu:Bool):call E (.func (.func 88) [] []) [.imm nl fu true (m.map encLv)] []=some (.tup [.agg (encHead false false 0 0 0),.lit (.bool false)],[]):=by
 rw [c9f E E88]
 have h1:(m.length:Int)<=13:=by omega
 simp [go_sem,ir88,h1,encHead,p9q,range_succ]
theorem read2 (m:List Bool) (h:14<=m.length) (h2:m.length<dataF m) (nl fu:Bool):call E (.func (.func 88) [] []) [.imm nl fu true (m.map encLv)] []=some (.tup [.agg (encHead (extF m) false (ctrlF m) (dataF m) 0),.lit (.bool false)],[]):=by
 rw [c9f E E88]
 have h1:¬ (m.length:Int)<=13:=by omega
 have h13:13<m.length:=by omega
 have e:extF m=m[13]:=by unfold extF;rw [getElem?_eq_getElem h13];rfl
 unfold dataF at h2
 unfold ctrlF dataF
 rw [e] at h2 ⊢
 cases hx:m[13]
 ·have h3:(m.length:Int)<19:=by simp [hx] at h2;omega
  simp [go_sem,ir88,h1,h3,getElem?_eq_getElem h13,encLv,hx,lv,encHead,p9q,range_succ]
 ·have h3:(m.length:Int)<39:=by simp [hx] at h2;omega
  simp [go_sem,ir88,h1,h3,getElem?_eq_getElem h13,encLv,hx,lv,encHead,p9q,range_succ]
theorem read3 (m:List Bool) (h:dataF m<=m.length) (hl:m.length<=1000000) (nl fu:Bool):call E (.func (.func 88) [] []) [.imm nl fu true (m.map encLv)] []=some (.tup [.agg (encHead (extF m) (rtrF m) (ctrlF m) (dataF m) (sizeF m)),.lit (.bool true)],[]):=by
 rw [c9f E E88]
 have hd:dataF m=19∨dataF m=39:=by unfold dataF;split<;>omega
 have h1:¬ (m.length:Int)<=13:=by omega
 have h13:13<m.length:=by omega
 have e:extF m=m[13]:=by unfold extF;rw [getElem?_eq_getElem h13];rfl
 have hr:=rowsLv m
 have hv:=fun fu=>value_spec ((m.take (dataF m)).drop (dataF m - 4)) (by simp;omega) nl fu
 have hvb:=valB_lt ((m.take (dataF m)).drop (dataF m - 4))
 rw [show ((m.take (dataF m)).drop (dataF m - 4)).length=4 from by simp;omega] at hvb
 rw [List.map_drop,List.map_take] at hv
 have w:IntKind.wrap .i64 (valB ((m.take (dataF m)).drop (dataF m - 4)):Int)=valB ((m.take (dataF m)).drop (dataF m - 4)):=wrap64 (by omega) (by omega)
 have hs:(if (8:Int)<(valB ((m.take (dataF m)).drop (dataF m - 4)):Int) then (8:Int) else (valB ((m.take (dataF m)).drop (dataF m - 4)):Int))=(sizeF m:Int):=by
  unfold sizeF;split<;>omega
 have hs2:(if 8<valB ((m.take (dataF m)).drop (dataF m - 4)) then (8:Int) else (valB ((m.take (dataF m)).drop (dataF m - 4)):Int))=(sizeF m:Int):=by
  unfold sizeF;split<;>omega
 have hF1:=hv (fu && decide (dataF m=m.length))
 generalize valB ((m.take (dataF m)).drop (dataF m - 4))=v at *
 generalize sizeF m=z at *
 unfold rtrF ctrlF
 have hx:extF m=true↔dataF m=39:=by unfold dataF;split<;>simp_all
 cases hxx:m[13]
 ·have hd19:dataF m=19:=by rcases hd with q | q;exact q;rw [e,hxx] at hx;simp at hx;omega
  have h3:¬ (m.length:Int)<19:=by omega
  have h12:12<m.length:=by omega
  have h19:19<=m.length:=by omega
  rw [hd19] at hF1
  have e':extF m=false:=by rw [e,hxx]
  rw [e',hd19]
  have ws:IntKind.wrap .i64 15=15:=rfl
  simp [go_sem,ir88,h1,h3,getElem?_eq_getElem h13,getElem?_eq_getElem h12,encLv,hxx,lv,encHead,hr,h19,ws,hF1,w,hs,hs2,p9q,range_succ]
 ·have hd39:dataF m=39:=by rw [e,hxx] at hx;simpa using hx
  have h3:¬ (m.length:Int)<39:=by omega
  have h32:32<m.length:=by omega
  have h39:39<=m.length:=by omega
  rw [hd39] at hF1
  have e':extF m=true:=by rw [e,hxx]
  rw [e',hd39]
  have ws:IntKind.wrap .i64 35=35:=rfl
  simp [go_sem,ir88,h1,h3,getElem?_eq_getElem h13,getElem?_eq_getElem h32,encLv,hxx,lv,encHead,hr,h39,ws,hF1,w,hs,hs2,p9q,range_succ]
theorem hsum_spec (e r:Bool) (c d s:Nat) (hd:d<=1000) (hs:s<=8):call E (.func (.func 116) [] []) [.agg (encHead e r c d s)] []=some (.lit (.int .i64 ((if r=true then d else d+8 * s:Nat))),[]):=by
 rw [c9f E E116]
 have w1:IntKind.wrap .i64 (8 * (s:Int))=8 * s:=wrap64 (by omega) (by omega)
 have w2:IntKind.wrap .i64 ((d:Int)+8 * (s:Int))=d+8 * s:=wrap64 (by omega) (by omega)
 cases r<;>simp [go_sem,ir116,encHead,w1,w2,p9q,range_succ]
def nextF (m:List Bool):Nat × Nat :=
 if m.length=0 then (0,0)
 else if m.length<=13∨extF m=true/\m.length<=32 then (1,m.length - 1)
 else if m.length<dataF m then (2,m.length - ctrlF m)
 else if m.length<sumF m then (3,m.length - dataF m)
 else if m.length<sumF m+15 then (4,m.length - sumF m)
 else if m.length<sumF m+16 then (5,0)
 else if m.length<sumF m+17 then (6,0)
 else if m.length<sumF m+18 then (7,0)
 else if m.length<sumF m+25 then (8,m.length - (sumF m+18))
 else (9,0)
theorem next_small (m:List Bool) (h:m.length<dataF m) (nl fu:Bool):call E (.func (.func 85) [] []) [.imm nl fu true (m.map encLv)] []=some (.tup [.lit (.int .i64 (nextF m).1),.lit (.int .i64 (nextF m).2),.lit (.int .i64 0)],[]):=by
 rw [c9f E E85]
 have hd:dataF m=19∨dataF m=39:=by unfold dataF;split<;>omega
 have hc:=check_lv m (by omega) nl fu
 by_cases h0:m.length=0
 ·have hr:=read1 m (by omega) nl fu
  have hn:nextF m=(0,0):=by unfold nextF;rw [if_pos h0]
  have h0':(m.length:Int)=0:=by omega
  have hm:m=[]:=List.length_eq_zero_iff.1 h0
  subst hm
  rw [hn]
  simp [encHead] at hr hc
  simp [go_sem,ir85,hc,hr,p9q,range_succ]
 ·have h0':¬ (m.length:Int)=0:=by omega
  have hmn:m≠[]:=by intro q;subst q;simp at h0
  by_cases h13:m.length<=13
  ·have hr:=read1 m h13 nl fu
   have hn:nextF m=(1,m.length - 1):=by unfold nextF;rw [if_neg h0,if_pos (.inl h13)]
   rw [hn]
   have h13':(m.length:Int)<=13:=by omega
   have w:IntKind.wrap .i64 ((m.length:Int) - 1)=((m.length - 1:Nat):Int):=by rw [wrap64 (by omega) (by omega)];omega
   simp [encHead] at hr
   simp [go_sem,ir85,hc,hr,hmn,h0,h13',w,p9q,range_succ]
  ·have hr:=read2 m (by omega) h nl fu
   have h13':¬ (m.length:Int)<=13:=by omega
   by_cases h32:extF m=true/\m.length<=32
   ·have hn:nextF m=(1,m.length - 1):=by unfold nextF;rw [if_neg h0,if_pos (.inr h32)]
    rw [hn]
    have h32':(m.length:Int)<=32:=by omega
    have w:IntKind.wrap .i64 ((m.length:Int) - 1)=((m.length - 1:Nat):Int):=by rw [wrap64 (by omega) (by omega)];omega
    simp [encHead,h32.1] at hr
    simp [go_sem,ir85,hc,hr,hmn,h0,h13',h32',w,p9q,range_succ]
   ·have hn:nextF m=(2,m.length - ctrlF m):=by unfold nextF;rw [if_neg h0,if_neg (by rintro (q | q);exact h13 q;exact h32 q),if_pos h]
    rw [hn]
    have hcl:ctrlF m<=m.length:=by
     unfold ctrlF;split
     ·rename_i q;have:¬ m.length<=32:=fun q2=>h32 ⟨q,q2⟩;omega
     ·omega
    have w:IntKind.wrap .i64 ((m.length:Int) - (ctrlF m:Int))=((m.length - ctrlF m:Nat):Int):=by rw [wrap64 (by omega) (by omega)];omega
    cases hx:extF m
    ·simp [encHead,hx] at hr
     simp [go_sem,ir85,hc,hr,hmn,h0,h13',w,p9q,range_succ]
    ·have h32':¬ (m.length:Int)<=32:=by have:¬ m.length<=32:=fun q2=>h32 ⟨hx,q2⟩;omega
     simp [encHead,hx] at hr
     simp [go_sem,ir85,hc,hr,hmn,h0,h13',h32',w,p9q,range_succ]
theorem next_whole (m:List Bool) (h:dataF m<=m.length) (hl:m.length<=sumF m+25) (nl fu:Bool):call E (.func (.func 85) [] []) [.imm nl fu true (m.map encLv)] []=some (.tup [.lit (.int .i64 (nextF m).1),.lit (.int .i64 (nextF m).2),.lit (.int .i64 0)],[]):=by
 rw [c9f E E85]
 obtain ⟨s1,s2,hd⟩:=sumF_ge m
 have hc:=check_lv m (by omega) nl fu
 have hr:=read3 m h (by omega) nl fu
 have hS:=hsum_spec (extF m) (rtrF m) (ctrlF m) (dataF m) (sizeF m) (by omega) (by unfold sizeF;omega)
 rw [show (if rtrF m=true then dataF m else dataF m+8 * sizeF m)=sumF m from rfl] at hS
 have h0:¬ m.length=0:=by omega
 have hmn:m≠[]:=by intro q;subst q;simp at h0
 have h13:¬ (m.length:Int)<=13:=by omega
 have hx32:¬ (extF m=true/\m.length<=32):=by
  rintro ⟨q1,q2⟩
  have:dataF m=39:=by unfold dataF;rw [if_pos q1]
  omega
 have hn:nextF m=if m.length<sumF m then (3,m.length - dataF m)
   else if m.length<sumF m+15 then (4,m.length - sumF m)
   else if m.length<sumF m+16 then (5,0) else if m.length<sumF m+17 then (6,0) else if m.length<sumF m+18 then (7,0)
   else if m.length<sumF m+25 then (8,m.length - (sumF m+18)) else (9,0):=by
  unfold nextF
  rw [if_neg h0,if_neg (by rintro (q | q);omega;exact hx32 q),if_neg (by omega)]
 rw [hn]
 clear hn
 have hx32':extF m=true->¬ (m.length:Int)<=32:=fun q1 q2=>hx32 ⟨q1,by omega⟩
 clear hx32
 generalize extF m=e at *
 generalize rtrF m=r at *
 generalize ctrlF m=c at *
 generalize dataF m=d at *
 generalize sizeF m=z at *
 generalize sumF m=s at *
 have w0:IntKind.wrap .i64 ((s:Int) - (d:Int))=s - d:=wrap64 (by omega) (by omega)
 have w1:IntKind.wrap .i64 (d:Int)=d:=wrap64 (by omega) (by omega)
 have w2:IntKind.wrap .i64 ((d:Int)+((s:Int) - (d:Int)))=s:=by rw [wrap64 (by omega) (by omega)];omega
 have w3:IntKind.wrap .i64 (s:Int)=s:=wrap64 (by omega) (by omega)
 have w4:IntKind.wrap .i64 ((s:Int)+15)=s+15:=wrap64 (by omega) (by omega)
 have w5:IntKind.wrap .i64 ((s:Int)+15+1)=s+16:=by rw [wrap64 (by omega) (by omega)];omega
 have w6:IntKind.wrap .i64 ((s:Int)+16+1)=s+17:=by rw [wrap64 (by omega) (by omega)];omega
 have w7:IntKind.wrap .i64 ((s:Int)+17+1)=s+18:=by rw [wrap64 (by omega) (by omega)];omega
 have w8:IntKind.wrap .i64 ((s:Int)+18+7)=s+25:=by rw [wrap64 (by omega) (by omega)];omega
 have v3:IntKind.wrap .i64 ((m.length:Int) - (d:Int))=((m.length - d:Nat):Int):=by rw [wrap64 (by omega) (by omega)];omega
 simp [encHead] at hr hS
 have q1:IntKind.wrap .i64 1=1:=rfl
 have q2:IntKind.wrap .i64 2=2:=rfl
 have q3:IntKind.wrap .i64 3=3:=rfl
 have q4:IntKind.wrap .i64 4=4:=rfl
 have q5:IntKind.wrap .i64 5=5:=rfl
 have q6:IntKind.wrap .i64 6=6:=rfl
 have q7:IntKind.wrap .i64 7=7:=rfl
 have q8:IntKind.wrap .i64 8=8:=rfl
 have q9:IntKind.wrap .i64 9=9:=rfl
 have g0:¬ m.length<d:=by omega
 have g9:¬ (s:Int)+25<(m.length:Int):=by omega
 have vv:IntKind.wrap .i64 0=0:=rfl
 by_cases c1:m.length<s
 ·simp only [if_pos c1]
  cases e
  ·simp [go_sem,ir85,r9c E L85_0.eq_1,aop_idxV,idxVG_agg,r9l,hc,hr,hS,hmn,h0,g0,q1,q2,q3,q4,q5,q6,q7,q8,q9,g9,c1,h13,w0,w1,w2,w3,w4,w5,w6,w7,w8,v3,vv,p9q,range_succ]
  ·have h32:=hx32' rfl
   simp [go_sem,ir85,r9c E L85_0.eq_1,aop_idxV,idxVG_agg,r9l,hc,hr,hS,hmn,h0,g0,q1,q2,q3,q4,q5,q6,q7,q8,q9,g9,c1,h13,h32,w0,w1,w2,w3,w4,w5,w6,w7,w8,v3,vv,p9q,range_succ]
 ·simp only [if_neg c1]
  by_cases c2:m.length<s+15
  ·simp only [if_pos c2]
   have d2:(m.length:Int)<(s:Int)+15:=by omega
   have vv:IntKind.wrap .i64 ((m.length:Int) - (s:Int))=((m.length - s:Nat):Int):=by rw [wrap64 (by omega) (by omega)];omega
   cases e
   ·simp [go_sem,ir85,r9c E L85_0.eq_1,aop_idxV,idxVG_agg,r9l,hc,hr,hS,hmn,h0,g0,q1,q2,q3,q4,q5,q6,q7,q8,q9,g9,c1,d2,h13,w0,w1,w2,w3,w4,w5,w6,w7,w8,v3,vv,p9q,range_succ]
   ·have h32:=hx32' rfl
    simp [go_sem,ir85,r9c E L85_0.eq_1,aop_idxV,idxVG_agg,r9l,hc,hr,hS,hmn,h0,g0,q1,q2,q3,q4,q5,q6,q7,q8,q9,g9,c1,d2,h13,h32,w0,w1,w2,w3,w4,w5,w6,w7,w8,v3,vv,p9q,range_succ]
  ·simp only [if_neg c2]
   have d2:¬ (m.length:Int)<(s:Int)+15:=by omega
   by_cases c3:m.length<s+16
   ·simp only [if_pos c3]
    have d3:(m.length:Int)<(s:Int)+16:=by omega
    have vv:IntKind.wrap .i64 ((m.length:Int) - ((s:Int)+15))=0:=by rw [wrap64 (by omega) (by omega)];omega
    cases e
    ·simp [go_sem,ir85,r9c E L85_0.eq_1,aop_idxV,idxVG_agg,r9l,hc,hr,hS,hmn,h0,g0,q1,q2,q3,q4,q5,q6,q7,q8,q9,g9,c1,d2,d3,h13,w0,w1,w2,w3,w4,w5,w6,w7,w8,v3,vv,p9q,range_succ]
    ·have h32:=hx32' rfl
     simp [go_sem,ir85,r9c E L85_0.eq_1,aop_idxV,idxVG_agg,r9l,hc,hr,hS,hmn,h0,g0,q1,q2,q3,q4,q5,q6,q7,q8,q9,g9,c1,d2,d3,h13,h32,w0,w1,w2,w3,w4,w5,w6,w7,w8,v3,vv,p9q,range_succ]
   ·simp only [if_neg c3]
    have d3:¬ (m.length:Int)<(s:Int)+16:=by omega
    by_cases c4:m.length<s+17
    ·simp only [if_pos c4]
     have d4:(m.length:Int)<(s:Int)+17:=by omega
     have vv:IntKind.wrap .i64 ((m.length:Int) - ((s:Int)+16))=0:=by rw [wrap64 (by omega) (by omega)];omega
     cases e
     ·simp [go_sem,ir85,r9c E L85_0.eq_1,aop_idxV,idxVG_agg,r9l,hc,hr,hS,hmn,h0,g0,q1,q2,q3,q4,q5,q6,q7,q8,q9,g9,c1,d2,d3,d4,h13,w0,w1,w2,w3,w4,w5,w6,w7,w8,v3,vv,p9q,range_succ]
     ·have h32:=hx32' rfl
      simp [go_sem,ir85,r9c E L85_0.eq_1,aop_idxV,idxVG_agg,r9l,hc,hr,hS,hmn,h0,g0,q1,q2,q3,q4,q5,q6,q7,q8,q9,g9,c1,d2,d3,d4,h13,h32,w0,w1,w2,w3,w4,w5,w6,w7,w8,v3,vv,p9q,range_succ]
    ·simp only [if_neg c4]
     have d4:¬ (m.length:Int)<(s:Int)+17:=by omega
     by_cases c5:m.length<s+18
     ·simp only [if_pos c5]
      have d5:(m.length:Int)<(s:Int)+18:=by omega
      have vv:IntKind.wrap .i64 ((m.length:Int) - ((s:Int)+17))=0:=by rw [wrap64 (by omega) (by omega)];omega
      cases e
      ·simp [go_sem,ir85,r9c E L85_0.eq_1,aop_idxV,idxVG_agg,r9l,hc,hr,hS,hmn,h0,g0,q1,q2,q3,q4,q5,q6,q7,q8,q9,g9,c1,d2,d3,d4,d5,h13,w0,w1,w2,w3,w4,w5,w6,w7,w8,v3,vv,p9q,range_succ]
      ·have h32:=hx32' rfl
       simp [go_sem,ir85,r9c E L85_0.eq_1,aop_idxV,idxVG_agg,r9l,hc,hr,hS,hmn,h0,g0,q1,q2,q3,q4,q5,q6,q7,q8,q9,g9,c1,d2,d3,d4,d5,h13,h32,w0,w1,w2,w3,w4,w5,w6,w7,w8,v3,vv,p9q,range_succ]
     ·simp only [if_neg c5]
      have d5:¬ (m.length:Int)<(s:Int)+18:=by omega
      by_cases c6:m.length<s+25
      ·simp only [if_pos c6]
       have d6:(m.length:Int)<(s:Int)+25:=by omega
       have vv:IntKind.wrap .i64 ((m.length:Int) - ((s:Int)+18))=((m.length - (s+18):Nat):Int):=by rw [wrap64 (by omega) (by omega)];omega
       cases e
       ·simp [go_sem,ir85,r9c E L85_0.eq_1,aop_idxV,idxVG_agg,r9l,hc,hr,hS,hmn,h0,g0,q1,q2,q3,q4,q5,q6,q7,q8,q9,g9,c1,d2,d3,d4,d5,d6,h13,w0,w1,w2,w3,w4,w5,w6,w7,w8,v3,vv,p9q,range_succ]
       ·have h32:=hx32' rfl
        simp [go_sem,ir85,r9c E L85_0.eq_1,aop_idxV,idxVG_agg,r9l,hc,hr,hS,hmn,h0,g0,q1,q2,q3,q4,q5,q6,q7,q8,q9,g9,c1,d2,d3,d4,d5,d6,h13,h32,w0,w1,w2,w3,w4,w5,w6,w7,w8,v3,vv,p9q,range_succ]
      ·simp only [if_neg c6]
       have d6:¬ (m.length:Int)<(s:Int)+25:=by omega
       cases e
       ·simp [go_sem,ir85,r9c E L85_0.eq_1,aop_idxV,idxVG_agg,r9l,hc,hr,hS,hmn,h0,g0,q1,q2,q3,q4,q5,q6,q7,q8,q9,g9,c1,d2,d3,d4,d5,d6,h13,w0,w1,w2,w3,w4,w5,w6,w7,w8,v3,vv,p9q,range_succ]
       ·have h32:=hx32' rfl
        simp [go_sem,ir85,r9c E L85_0.eq_1,aop_idxV,idxVG_agg,r9l,hc,hr,hS,hmn,h0,g0,q1,q2,q3,q4,q5,q6,q7,q8,q9,g9,c1,d2,d3,d4,d5,d6,h13,h32,w0,w1,w2,w3,w4,w5,w6,w7,w8,v3,vv,p9q,range_succ]
structure Fr where
 id:Int
 ext:Bool
 rtr:Bool
 len:Int
 d0:Nat
 d1:Nat
 d2:Nat
 d3:Nat
 d4:Nat
 d5:Nat
 d6:Nat
 d7:Nat
 deriving DecidableEq
def u8v (c:Nat):AVal:=.lit (.int .u8 (c:Int))
def encFr (f:Fr):List AVal:=[.lit (.int .i64 f.id),.lit (.bool f.ext),.lit (.bool f.rtr),.lit (.int .i64 f.len),u8v f.d0,u8v f.d1,u8v f.d2,u8v f.d3,u8v f.d4,u8v f.d5,u8v f.d6,u8v f.d7]
def Fr.zero:Fr:=⟨0,false,false,0,0,0,0,0,0,0,0,0⟩
theorem ahead_spec (m:List Bool) (h:dataF m<=m.length) (hl:m.length<=1000000) (nl fu:Bool):call E (.func (.func 87) [] []) [.imm nl fu true (m.map encLv)] []=some (.tup [.lit (.int .i64 (sumF m)),.lit (.int .i64 0)],[]):=by
 rw [c9f E E87]
 obtain ⟨s1,s2,hd⟩:=sumF_ge m
 have hc:=check_lv m (by omega) nl fu
 have hr:=read3 m h hl nl fu
 have hS:=hsum_spec (extF m) (rtrF m) (ctrlF m) (dataF m) (sizeF m) (by omega) (by unfold sizeF;omega)
 rw [show (if rtrF m=true then dataF m else dataF m+8 * sizeF m)=sumF m from rfl] at hS
 simp [encHead] at hr hS
 simp [go_sem,ir87,hc,hr,hS,p9q,range_succ]
def rightF (m:List Bool):Bool:=decide ((m.take (sumF m+15)).drop (sumF m)=bitsOf 15 (c15L (m.take (sumF m))))
theorem fright_spec (m:List Bool) (h:dataF m<=m.length) (h2:sumF m+15<=m.length) (hl:m.length<=1000000) (nl fu:Bool):call E (.func (.func 86) [] []) [.imm nl fu true (m.map encLv)] []=some (.tup [.lit (.bool (rightF m)),.lit (.int .i64 0)],[]):=by
 rw [c9f E E86]
 have hA:=ahead_spec m h hl nl fu
 obtain ⟨s1,s2,hd⟩:=sumF_ge m
 have w:IntKind.wrap .i64 ((sumF m:Int)+15)=((sumF m+15:Nat):Int):=by rw [wrap64 (by omega) (by omega)];omega
 have hR:=cright_spec (m.take (sumF m+15)) (by simp;omega) (by simp;omega) nl
 have e:rightC (m.take (sumF m+15))=rightF m:=by
  unfold rightC rightF
  rw [show (m.take (sumF m+15)).length - 15=sumF m from by simp;omega,List.take_take,Nat.min_eq_left (by omega)]
 rw [e,List.map_take] at hR
 have hr:=rowsLv m
 generalize rightF m=b at *
 have hlt:¬ ((m.length:Int)<((sumF m+15:Nat):Int)):=by omega
 have hlt2:¬ (m.length<sumF m+15):=by omega
 generalize sumF m+15=q at *
 simp [go_sem,ir86,hA,w,hlt2,hr,h2,hR,p9q,range_succ]
def byteF (m:List Bool) (j:Nat):Nat:=if j<(sumF m - dataF m) / 8 then valB ((m.take (dataF m+8 * (j+1))).drop (dataF m+8 * j)) else 0
def idF (m:List Bool):Nat:=if extF m=true then valB ((m.take 12).drop 1) * 262144+valB ((m.take 32).drop 14) else valB ((m.take 12).drop 1)
def frameOf (m:List Bool):Fr:=⟨idF m,extF m,rtrF m,sizeF m,byteF m 0,byteF m 1,byteF m 2,byteF m 3,byteF m 4,byteF m 5,byteF m 6,byteF m 7⟩
theorem ior_i64_add {x y:Nat} (hx:x<2048) (hy:y<2 ^ 18):ior .i64 ((x * 262144:Nat):Int) (y:Int)=((x * 262144+y:Nat):Int):=by
 have e:(BitVec.ofInt 64 ((x * 262144:Nat):Int) ||| BitVec.ofInt 64 (y:Int)).toNat=x * 262144+y:=by
  rw [BitVec.toNat_or,BitVec.ofInt_natCast,BitVec.ofInt_natCast,BitVec.toNat_ofNat,BitVec.toNat_ofNat,Nat.mod_eq_of_lt (by omega),Nat.mod_eq_of_lt (by omega)]
  have:=Nat.two_pow_add_eq_or_of_lt hy x
  rw [show (2:Nat) ^ 18=262144 from rfl] at this
  rw [Nat.mul_comm x,<- this]
 unfold ior
 show IntKind.wrap .i64 ((BitVec.ofInt 64 ((x * 262144:Nat):Int) ||| BitVec.ofInt 64 (y:Int)).toNat:Int)=_
 rw [e,wrap64 (by omega) (by omega)]
def cellsF (m:List Bool) (a b c d:AVal) (i:Nat):List AVal:=a::b::c::d::(List.range 8).map fun j=>u8v (if j<i then valB ((m.take (dataF m+8 * (j+1))).drop (dataF m+8 * j)) else 0)
theorem cellsF_length (m a b c d i):(cellsF m a b c d i).length=12:=by simp [cellsF]
theorem cellsF_set (m:List Bool) (a b c d:AVal) (i:Nat) (hi:i<8):(cellsF m a b c d i).set (4+i) (u8v (valB ((m.take (dataF m+8 * (i+1))).drop (dataF m+8 * i))))=cellsF m a b c d (i+1):=by
 apply List.ext_getElem
 ·simp [cellsF]
 ·intro n h1 h2
  rw [List.getElem_set]
  match n,h1,h2 with
  | 0,_,_=>rw [if_neg (by omega)];rfl
  | 1,_,_=>rw [if_neg (by omega)];rfl
  | 2,_,_=>rw [if_neg (by omega)];rfl
  | 3,_,_=>rw [if_neg (by omega)];rfl
  | n + 4,h1,h2 =>
   simp only [cellsF,List.getElem_cons_succ,List.getElem_map,List.getElem_range]
   by_cases hn:4+i=n+4
   ·have:n=i:=by omega
    subst this
    rw [if_pos hn,if_pos (by omega)]
   ·rw [if_neg hn]
    by_cases q:n<i
    ·rw [if_pos q,if_pos (by omega)]
    ·rw [if_neg q,if_neg (by omega)]
theorem cellsF_refs (m:List Bool) (a b c d:AVal) (i:Nat) (ha:refsL [a,b,c,d]=[]):refsL (cellsF m a b c d i)=[]:=by
 unfold cellsF
 have:∀ l:List Nat,refsL (l.map fun j=>u8v (if j<i then valB ((m.take (dataF m+8 * (j+1))).drop (dataF m+8 * j)) else 0))=[]:=by
  intro l;induction l with
  | nil=>rfl
  | cons x l ihl=>rw [map_cons,refsL,ihl];rfl
 simp only [refsL,List.append_nil,List.append_eq_nil_iff] at ha ⊢
 exact ⟨ha.1,ha.2.1,ha.2.2.1,ha.2.2.2,this _⟩
theorem cellsF_ren (m:List Bool) (a b c d:AVal) (i:Nat) (ha:∀ f,renL f [a,b,c,d]=[a,b,c,d]) (f:Nat->Nat):renL f (cellsF m a b c d i)=cellsF m a b c d i:=by
 unfold cellsF
 have:∀ l:List Nat,renL f (l.map fun j=>u8v (if j<i then valB ((m.take (dataF m+8 * (j+1))).drop (dataF m+8 * j)) else 0))=l.map fun j=>u8v (if j<i then valB ((m.take (dataF m+8 * (j+1))).drop (dataF m+8 * j)) else 0):=by
  intro l;induction l with
  | nil=>rfl
  | cons x l ihl=>rw [map_cons,renL,ihl];rfl
 have h:=ha f
 simp only [renL,List.cons.injEq,and_true] at h ⊢
 exact ⟨h.1,h.2.1,h.2.2.1,h.2.2.2,this _⟩
theorem frame_loop (m:List Bool) (nb:Nat) (hnb:nb<=8) (hd:dataF m<=39) (hm:dataF m+8 * nb<=m.length) (hl:m.length<=1000000) (nl fu:Bool) (e r:Bool) (cc z:Nat) (Z:List AVal) (a b c d:AVal) (k:List Item) (R:List AVal->Option (AVal × Heap))
    (hk:∀ τ cs,cs.length=12->refsL cs=[]->(∀ f,renL f cs=cs)->lk 2 τ=.ptr 0 0->lk 8 τ=.ptr 2 0->finK 0 [.cell 2 true 12,.tmp 3] (run E 0 k τ [.box Z,.box (encHead e r cc (dataF m) z),.box cs])=R cs) (hZ:refsL Z=[]) (ha:refsL [a,b,c,d]=[]) (hra:∀ f,renL f [a,b,c,d]=[a,b,c,d]) :
    ∀ (q i:Nat),i+q=nb ->
   finK 0 [.cell 2 true 12,.tmp 3] (run E 0 (.code L57_0::.inLoop [0,2,6,8,61,62] L57_0::.inBlock 1::k) [(0,.imm nl fu true (m.map encLv)),(2,.ptr 0 0),(6,.ptr 1 0),(8,.ptr 2 0),(61,.lit (.int .i64 nb)),(62,.lit (.int .i64 i))] [.box Z,.box (encHead e r cc (dataF m) z),.box (cellsF m a b c d i)])=R (cellsF m a b c d nb):=by
  intro q
  induction q with
  | zero =>
    intro i hi
    have:i=nb:=by omega
    subst this
    simp [go_sem,r9c E L57_0.eq_1]
    exact hk _ _ (cellsF_length ..) (cellsF_refs _ _ _ _ _ _ ha) (cellsF_ren _ _ _ _ _ _ hra) rfl rfl
  | succ q ih =>
    intro i hi
    have hlt:i<nb:=by omega
    have w:=wrapIdx (i:=i) (by omega)
    have ih2:=ih (i+1) (by omega)
    rw [<- cellsF_set m a b c d i (by omega)] at ih2
    have hcl:=cellsF_length m a b c d i
    have hv:=fvalue_spec ((m.take (dataF m+8 * (i+1))).drop (dataF m+8 * i)) (by simp;omega) nl
    have hvb:=valB_lt ((m.take (dataF m+8 * (i+1))).drop (dataF m+8 * i))
    rw [show ((m.take (dataF m+8 * (i+1))).drop (dataF m+8 * i)).length=8 from by simp;omega] at hvb
    rw [List.map_drop,List.map_take] at hv
    have hr:=rowsLv m
    have h1:dataF m+8 * i<=dataF m+8 * (i+1):=by omega
    have h2:dataF m+8 * (i+1)<=m.length:=by omega
    have w1:IntKind.wrap .i64 (8 * (i:Int))=8 * i:=wrap64 (by omega) (by omega)
    have w2:IntKind.wrap .i64 ((dataF m:Int)+8 * (i:Int))=((dataF m+8 * i:Nat):Int):=by rw [wrap64 (by omega) (by omega)];omega
    have w3:IntKind.wrap .i64 (8 * ((i:Int)+1))=8 * ((i:Int)+1):=wrap64 (by omega) (by omega)
    have w4:IntKind.wrap .i64 ((dataF m:Int)+8 * ((i:Int)+1))=((dataF m+8 * (i+1):Nat):Int):=by rw [wrap64 (by omega) (by omega)];omega
    have hrc:=cellsF_refs m a b c d i ha
    generalize valB ((m.take (dataF m+8 * (i+1))).drop (dataF m+8 * i))=v at *
    have w5:IntKind.wrap .u8 (v:Int)=(v:Int):=by rw [wrap8,Nat.mod_eq_of_lt (by omega)]
    generalize cellsF m a b c d nb=Cn at *
    generalize cellsF m a b c d i=cs at *
    have hi8:i<8:=by omega
    have hov:List.take (4+i) cs++u8v v::List.drop (4+i+1) cs=cs.set (4+i) (u8v v):=by
      rw [List.set_eq_take_append_cons_drop,if_pos (by omega)]
    have hle12:4+i+1<=12:=by omega
    have hrs:refsL (cs.set (4+i) (u8v v))=[]:=by
      have:∀ (l:List AVal) (n:Nat),refsL l=[]->refsL (l.set n (u8v v))=[]:=by
        intro l;induction l with
        | nil=>intro n _;rfl
        | cons x l ihl =>
          intro n hx
          rw [refsL,List.append_eq_nil_iff] at hx
          cases n with
          | zero=>rw [List.set_cons_zero,refsL,hx.2];rfl
          | succ n=>rw [List.set_cons_succ,refsL,ihl n hx.2,hx.1];rfl
      exact this _ _ hrc
    generalize dataF m+8 * (i+1)=hi1 at *
    generalize dataF m+8 * i=lo1 at *
    simp [encHead] at ih2 w
    simp [encHead] at hk
    simp only [u8v] at hov hrs ih2
    simp [go_sem,r9c E L57_0.eq_1,hlt,encHead,w,w1,w2,w3,w4,w5,hr,h1,h2,hv,hi8,hcl,hov,hle12,hZ,p9q,range_succ]
    rw [r9l]
    simp [go_sem,p9q,range_succ,hZ,hrs]
    exact ih2
theorem fframe_spec (m:List Bool) (h:dataF m<=m.length) (h2:sumF m<=m.length) (h0:m[0]?=some false) (hl:m.length<=1000000) (nl fu:Bool):call E (.func (.func 57) [] []) [.imm nl fu true (m.map encLv)] []=some (.tup [.agg (encFr (frameOf m)),.lit (.int .i64 0)],[]):=by
 rw [c9f E E57]
 obtain ⟨s1,s2,hd⟩:=sumF_ge m
 have hA:=ahead_spec m h hl nl fu
 have hR:=read3 m h hl nl fu
 have hr:=rowsLv m
 have hlt:¬ ((m.length:Int)<(sumF m:Int)):=by omega
 have hlt2:¬ (m.length<sumF m):=by omega
 have h0l:0<m.length:=by omega
 have h0g:m[0]'h0l=false:=by rw [getElem?_eq_getElem h0l] at h0;exact Option.some.inj h0
 have h12:12<=m.length:=by omega
 have hv1:=fun fu=>fvalue_spec ((m.take 12).drop 1) (by simp;omega) nl fu
 have hb1:=valB_lt ((m.take 12).drop 1)
 rw [show ((m.take 12).drop 1).length=11 from by simp;omega] at hb1
 rw [List.map_drop,List.map_take] at hv1
 have w1:IntKind.wrap .i64 ((sumF m:Int) - (dataF m:Int))=((sumF m - dataF m:Nat):Int):=by rw [wrap64 (by omega) (by omega)];omega
 have w2:IntKind.wrap .i64 ((((sumF m - dataF m:Nat):Int)).tdiv 8)=(((sumF m - dataF m) / 8:Nat):Int):=by
  rw [Int.tdiv_eq_ediv_of_nonneg (by omega),wrap64 (by omega) (by omega)];omega
 have w2':IntKind.wrap .i64 (((sumF m - dataF m:Nat):Int) / 8)=(((sumF m - dataF m) / 8:Nat):Int):=by
  rw [wrap64 (by omega) (by omega)];omega
 have hx:extF m=true↔dataF m=39:=by unfold dataF;split<;>simp_all
 have hFo:∀ a,encFr (frameOf m)=a->a=cellsF m (.lit (.int .i64 (idF m))) (.lit (.bool (extF m))) (.lit (.bool (rtrF m))) (.lit (.int .i64 (sizeF m))) ((sumF m - dataF m) / 8):=fun a ha=>by rw [<- ha];rfl
 have hE:=hFo _ rfl
 rw [hE]
 clear hFo hE
 have hloop:=fun a=>frame_loop m ((sumF m - dataF m) / 8) (by omega) (by omega) (by omega) hl nl fu (extF m) (rtrF m) (ctrlF m) (sizeF m) (encFr Fr.zero) a (.lit (.bool (extF m))) (.lit (.bool (rtrF m))) (.lit (.int .i64 (sizeF m)))
 have wq0:IntKind.wrap .u8 0=0:=rfl
 have hc0:∀ a b c d,cellsF m a b c d 0=[a,b,c,d,u8v 0,u8v 0,u8v 0,u8v 0,u8v 0,u8v 0,u8v 0,u8v 0]:=by
  intro a b c d
  simp [cellsF,range_succ]
 have hcl:=cellsF_length m (.lit (.int .i64 (idF m))) (.lit (.bool (extF m))) (.lit (.bool (rtrF m))) (.lit (.int .i64 (sizeF m))) ((sumF m - dataF m) / 8)
 by_cases hxx:extF m=true
 ·have h39:=hx.1 hxx
  have h32:32<=m.length:=by omega
  have hv2:=fun fu=>fvalue_spec ((m.take 32).drop 14) (by simp;omega) nl fu
  have hb2:=valB_lt ((m.take 32).drop 14)
  rw [show ((m.take 32).drop 14).length=18 from by simp;omega] at hb2
  rw [List.map_drop,List.map_take] at hv2
  have w3:IntKind.wrap .i64 ((valB ((m.take 12).drop 1):Int) * 262144)=((valB ((m.take 12).drop 1) * 262144:Nat):Int):=by rw [wrap64 (by omega) (by omega)];omega
  have ho:=ior_i64_add (x:=valB ((m.take 12).drop 1)) (y:=valB ((m.take 32).drop 14)) (by omega) hb2
  have hid:idF m=valB ((m.take 12).drop 1) * 262144+valB ((m.take 32).drop 14):=by unfold idF;rw [if_pos hxx]
  rw [hid] at hcl ⊢
  have hloop:=fun k hk=>hloop (.lit (.int .i64 ((valB ((m.take 12).drop 1) * 262144+valB ((m.take 32).drop 14):Nat):Int))) k (fun cs=>some (.tup [.agg cs,.lit (.int .i64 0)],[])) hk rfl rfl (fun _=>rfl) ((sumF m - dataF m) / 8) 0 (by omega)
  simp only [hc0] at hloop
  generalize valB ((m.take 12).drop 1) * 262144+valB ((m.take 32).drop 14)=idv at *
  generalize valB ((m.take 12).drop 1) * 262144=idu at *
  generalize valB ((m.take 12).drop 1)=ida at *
  generalize valB ((m.take 32).drop 14)=idb at *
  generalize (sumF m - dataF m) / 8=nb at *
  generalize sumF m - dataF m=sd at *
  simp only [encFr,Fr.zero,encHead,hxx,u8v] at hR hloop ⊢
  simp [hxx] at hloop
  simp only [List.drop_one] at hv1
  simp [go_sem,ir57,hA,hR,hr,hlt2,hxx,h32,h0,h0g,encLv,lv,h12,hv1,w1,w2,w2',hv2,w3,ho, p9q,range_succ]
  rw [r9l]
  simp [go_sem,p9q,range_succ]
  refine hloop _ ?_
  intro τ cs hcs hrcs hrn t2 t8
  have htk:List.take 12 cs=cs:=List.take_of_length_le (by omega)
  simp [go_sem,t2,t8,hcs,hrcs,htk,hrn,p9q,range_succ]
 ·have hid:idF m=valB ((m.take 12).drop 1):=by unfold idF;rw [if_neg hxx]
  have hxx:extF m=false:=by simpa using hxx
  rw [hid] at hcl ⊢
  have hloop:=fun k hk=>hloop (.lit (.int .i64 (valB ((m.take 12).drop 1):Int))) k (fun cs=>some (.tup [.agg cs,.lit (.int .i64 0)],[])) hk rfl rfl (fun _=>rfl) ((sumF m - dataF m) / 8) 0 (by omega)
  simp only [hc0] at hloop
  generalize valB ((m.take 12).drop 1)=ida at *
  generalize (sumF m - dataF m) / 8=nb at *
  generalize sumF m - dataF m=sd at *
  simp only [encFr,Fr.zero,encHead,hxx,u8v] at hR hloop ⊢
  simp [hxx] at hloop
  simp only [List.drop_one] at hv1
  simp [go_sem,ir57,hA,hR,hr,hlt2,hxx,h0,h0g,encLv,lv,h12,hv1,w1,w2,w2', p9q,range_succ]
  rw [r9l]
  simp [go_sem,p9q,range_succ]
  refine hloop _ ?_
  intro τ cs hcs hrcs hrn t2 t8
  have htk:List.take 12 cs=cs:=List.take_of_length_le (by omega)
  simp [go_sem,t2,t8,hcs,hrcs,htk,hrn,p9q,range_succ]
structure Wt where
 raw:List Bool
 last:Bool
 run:Nat
 acked:Bool
 tick:Nat
 ones:Nat
 on:Bool
 frm:Nat
def Wt.cells (w:Wt) (rv:AVal):List AVal:=[rv,.lit (.int .i64 (lv w.last)),.lit (.int .i64 w.run),.lit (.bool w.acked),.lit (.int .i64 w.tick),.lit (.int .i64 w.ones),.lit (.bool w.on),.lit (.int .i64 w.frm)]
def takeP (w:Wt) (b:Bool):Nat × Wt :=
 if w.run=5 then (if b=w.last then (1,w) else (0,{ w with last:=b,run:=1 }))
 else
  let kind:=(nextF w.raw).1
  let w1:=if 4<kind then { w with run:=0 } else if 0<w.run/\b=w.last then { w with run:=w.run+1 } else { w with last:=b,run:=1 }
  if kind=6 then (0,{ w1 with acked:=!b,raw:=w.raw++[b] })
  else if (kind=5/\rightF w.raw=false)∨(4<kind/\b=false) then (1,w1)
  else if kind=8/\(nextF w.raw).2=5 then (2,w1)
  else (0,{ w1 with raw:=w.raw++[b] })
def RawOk (m:List Bool):Prop:=m.length<=1000/\(dataF m<=m.length->m.length<=sumF m+25)
theorem fnext_spec (m:List Bool) (h:RawOk m) (nl fu:Bool):call E (.func (.func 85) [] []) [.imm nl fu true (m.map encLv)] []=some (.tup [.lit (.int .i64 (nextF m).1),.lit (.int .i64 (nextF m).2),.lit (.int .i64 0)],[]):=by
 rcases Nat.lt_or_ge m.length (dataF m) with q | q
 ·exact next_small m q nl fu
 ·exact next_whole m q (h.2 q) nl fu
theorem nextF_le (m:List Bool):(nextF m).1<=9:=by
 unfold nextF
 repeat (first | split | omega)
structure Sg where
 kind:Nat
 frm:Nat
 to:Nat
 frame:Fr
 acked:Bool
 deriving DecidableEq
def startP (w:Wt) (b:Bool):Wt:=if w.on=false/\b=false/\10<=w.ones then { w with on:=true,frm:=w.tick,raw:=[],last:=false,run:=0,acked:=false } else w
def countP (w:Wt) (b:Bool):Wt:={ w with ones:=if b=true then w.ones+1 else 0,tick:=w.tick+1 }
def endP (r:Nat × Wt):Option Sg × Wt :=
 if r.1=0 then (none,r.2)
 else if r.1=2 then (some ⟨1,r.2.frm,r.2.tick,frameOf r.2.raw,r.2.acked⟩,{ r.2 with on:=false })
 else (some ⟨2,r.2.frm,r.2.tick,Fr.zero,false⟩,{ r.2 with on:=false })
def seeP (w:Wt) (b:Bool):Option Sg × Wt :=
 if (startP w b).on=false then (none,countP (startP w b) b) else endP (takeP (countP (startP w b) b) b)
structure WOk (w:Wt):Prop where
 run:w.run<=5
 tick:w.tick<=1000000
 ones:w.ones<=1000000
 raw:w.on=true->w.raw≠[]/\w.raw[0]?=some false/\RawOk w.raw
theorem takeP_raw (w:Wt) (b:Bool) (h:w.raw≠[]):(takeP w b).2.raw≠[]:=by
 unfold takeP
 split
 ·split<;>exact h
 ·simp only []
  split
  ·simp
  ·split
   ·split
    ·exact h
    ·split<;>exact h
   ·split
    ·split
     ·exact h
     ·split<;>exact h
    ·simp
theorem takeP_keep (w:Wt) (b:Bool):(takeP w b).2.frm=w.frm/\(takeP w b).2.tick=w.tick/\(takeP w b).2.on=w.on/\(takeP w b).2.ones=w.ones:=by
 have h1:∀ (c d:Prop) [Decidable c] [Decidable d] (x y z:Wt),(x.frm=w.frm/\x.tick=w.tick/\x.on=w.on/\x.ones=w.ones)->(y.frm=w.frm/\y.tick=w.tick/\y.on=w.on/\y.ones=w.ones)->(z.frm=w.frm/\z.tick=w.tick/\z.on=w.on/\z.ones=w.ones) ->
   ((if c then x else if d then y else z).frm=w.frm/\(if c then x else if d then y else z).tick=w.tick/\(if c then x else if d then y else z).on=w.on/\(if c then x else if d then y else z).ones=w.ones):=by
  intro c d _ _ x y z hx hy hz
  split
  ·exact hx
  ·split
   ·exact hy
   ·exact hz
 unfold takeP
 split
 ·split<;>exact ⟨rfl,rfl,rfl,rfl⟩
 ·simp only []
  split
  ·exact h1 _ _ _ _ _ ⟨rfl,rfl,rfl,rfl⟩ ⟨rfl,rfl,rfl,rfl⟩ ⟨rfl,rfl,rfl,rfl⟩
  ·split
   ·exact h1 _ _ _ _ _ ⟨rfl,rfl,rfl,rfl⟩ ⟨rfl,rfl,rfl,rfl⟩ ⟨rfl,rfl,rfl,rfl⟩
   ·split
    ·exact h1 _ _ _ _ _ ⟨rfl,rfl,rfl,rfl⟩ ⟨rfl,rfl,rfl,rfl⟩ ⟨rfl,rfl,rfl,rfl⟩
    ·exact h1 _ _ _ _ _ ⟨rfl,rfl,rfl,rfl⟩ ⟨rfl,rfl,rfl,rfl⟩ ⟨rfl,rfl,rfl,rfl⟩
def RawIn (m:List Bool):Prop:=dataF m<=m.length->m.length<=sumF m+23
theorem RawIn.ok {m:List Bool} (h:RawIn m):RawOk m:=by
 have h1:=sumF_ge m
 have h2:dataF m<=m.length->m.length<=sumF m+23:=h
 refine ⟨?_,fun q=>by have:=h2 q;omega⟩
 rcases Nat.lt_or_ge m.length (dataF m) with q | q
 ·omega
 ·have:=h2 q;omega
theorem extF_append {m:List Bool} (h:14<=m.length) (r:List Bool):extF (m++r)=extF m:=by
 unfold extF;rw [getElem?_append_left (by omega)]
theorem dataF_append {m:List Bool} (h:dataF m<=m.length) (r:List Bool):dataF (m++r)=dataF m:=by
 have h1:=sumF_ge m
 unfold dataF;rw [extF_append (by omega)]
theorem sumF_append {m:List Bool} (h:dataF m<=m.length) (r:List Bool):sumF (m++r)=sumF m:=by
 have h1:=sumF_ge m
 have hx:extF (m++r)=extF m:=extF_append (by omega) r
 have hd:=dataF_append h r
 have hd2:extF m=true->dataF m=39:=fun q=>by unfold dataF;rw [if_pos q]
 have hr:rtrF (m++r)=rtrF m:=by
  unfold rtrF;rw [hx,getElem?_append_left (by split;rename_i q;have:=hd2 q;omega;omega)]
 have hs:sizeF (m++r)=sizeF m:=by
  unfold sizeF;rw [hd,List.take_append_of_le_length h]
 unfold sumF;rw [hr,hd,hs]
theorem rawIn_one (b:Bool):RawIn [b]:=by
 intro h
 have:=(sumF_ge [b]).2.2
 simp at h;omega
theorem rawIn_append {m:List Bool} (h:RawIn m) (hn:¬ (dataF m<=m.length/\m.length=sumF m+23)) (b:Bool):RawIn (m++[b]):=by
 intro q
 rcases Nat.lt_or_ge m.length (dataF m) with h1 | h1
 ·have h2:=sumF_ge (m++[b])
  rw [length_append] at q ⊢
  simp only [List.length_singleton] at *
  rcases Nat.lt_or_ge m.length 14 with h3 | h3
  ·have:=(sumF_ge (m++[b])).2.2;omega
  ·have hx:dataF (m++[b])=dataF m:=by unfold dataF;rw [extF_append h3]
   rw [hx] at q h2
   omega
 ·have h2:=h h1
  rw [sumF_append h1]
  simp;omega
theorem nextF_end {m:List Bool} (h:dataF m<=m.length) (h2:m.length=sumF m+23):nextF m=(8,5):=by
 have h3:=sumF_ge m
 unfold nextF
 rw [if_neg (by omega),if_neg (by
  rintro (q | ⟨q1,q2⟩)
  ·omega
  ·have:dataF m=39:=by unfold dataF;rw [if_pos q1]
   omega),if_neg (by omega),if_neg (by omega),if_neg (by omega),if_neg (by omega),if_neg (by omega),if_neg (by omega),if_pos (by omega)]
 congr 1;omega
structure WI (i:Nat) (w:Wt):Prop where
 run:w.run<=5
 tick:w.tick=i
 ones:w.ones<=i
 raw:w.on=true->w.raw≠[]/\w.raw[0]?=some false/\RawIn w.raw
theorem WI.ok {i:Nat} {w:Wt} (h:WI i w) (hi:i<=1000000):WOk w:=by
 obtain ⟨h1,h2,h3,h4⟩:=h
 exact ⟨h1,by omega,by omega,fun q=>⟨(h4 q).1,(h4 q).2.1,(h4 q).2.2.ok⟩⟩
theorem takeP_run (w:Wt) (b:Bool) (h:w.run<=5):(takeP w b).2.run<=5:=by
 have h1:∀ (c d:Prop) [Decidable c] [Decidable d] (x y z:Wt),(c->x.run<=5)->(d->y.run<=5)->z.run<=5->(if c then x else if d then y else z).run<=5:=by
  intro c d _ _ x y z hx hy hz
  split
  ·rename_i q;exact hx q
  ·split
   ·rename_i q;exact hy q
   ·exact hz
 unfold takeP
 split
 ·split
  ·exact h
  ·show 1<=5;omega
 ·rename_i hn
  have:∀ x y z:Wt,x.run=0->y.run=w.run+1->z.run=1->(if 4<(nextF w.raw).1 then x else if 0<w.run/\b=w.last then y else z).run<=5:=fun x y z hx hy hz=>h1 _ _ _ _ _ (fun _=>by omega) (fun _=>by omega) (by omega)
  simp only []
  split
  ·exact this _ _ _ rfl rfl rfl
  ·split
   ·exact this _ _ _ rfl rfl rfl
   ·split
    ·exact this _ _ _ rfl rfl rfl
    ·exact this _ _ _ rfl rfl rfl
theorem takeP_app (w:Wt) (b:Bool):(takeP w b).2.raw=w.raw∨((takeP w b).1=0/\(takeP w b).2.raw=w.raw++[b]/\nextF w.raw≠(8,5)):=by
 have h1:∀ (c d:Prop) [Decidable c] [Decidable d] (x y z:Wt),x.raw=w.raw->y.raw=w.raw->z.raw=w.raw->(if c then x else if d then y else z).raw=w.raw:=by
  intro c d _ _ x y z hx hy hz
  split
  ·exact hx
  ·split
   ·exact hy
   ·exact hz
 unfold takeP
 split
 ·split<;>exact .inl rfl
 ·simp only []
  split
  ·rename_i q
   exact .inr ⟨rfl,rfl,fun e=>by rw [e] at q;simp at q⟩
  ·split
   ·exact .inl (h1 _ _ _ _ _ rfl rfl rfl)
   ·split
    ·exact .inl (h1 _ _ _ _ _ rfl rfl rfl)
    ·rename_i q
     exact .inr ⟨rfl,rfl,fun e=>q ⟨by rw [e],by rw [e]⟩⟩
theorem WI.see {i:Nat} {w:Wt} (h:WI i w) (b:Bool):WI (i+1) (seeP w b).2:=by
 obtain ⟨h1,h2,h3,h4⟩:=h
 by_cases hst:w.on=false/\b=false/\10<=w.ones
 ·have e:startP w b={ w with on:=true,frm:=w.tick,raw:=[],last:=false,run:=0,acked:=false }:=by unfold startP;rw [if_pos hst]
  obtain ⟨q1,q2,q3⟩:=hst
  subst q2
  unfold seeP
  rw [e]
  simp only [countP,endP,takeP,show nextF []=(0,0) from rfl]
  simp
  exact ⟨by simp,by simp [h2],by simp,by intro _;exact ⟨by simp,rfl,rawIn_one false⟩⟩
 ·have e:startP w b=w:=by unfold startP;rw [if_neg hst]
  unfold seeP
  rw [e]
  have ho:(countP w b).ones<=i+1:=by
   unfold countP;simp only [];split<;>omega
  by_cases hon:w.on=false
  ·rw [if_pos hon]
   exact ⟨h1,by show w.tick+1=i+1;omega,ho,fun q=>by have:w.on=true:=q;rw [hon] at this;cases this⟩
  ·rw [if_neg hon]
   have hon:w.on=true:=by simpa using hon
   obtain ⟨r1,r2,r3⟩:=h4 hon
   have hk:=takeP_keep (countP w b) b
   have hr:=takeP_run (countP w b) b h1
   have ha:=takeP_app (countP w b) b
   have hne:=takeP_raw (countP w b) b r1
   have hraw:(takeP (countP w b) b).2.raw[0]?=some false/\RawIn (takeP (countP w b) b).2.raw:=by
    rcases ha with e | ⟨-,e,en⟩
    ·rw [e];exact ⟨r2,r3⟩
    ·rw [e]
     refine ⟨?_,rawIn_append r3 (fun q=>en (nextF_end q.1 q.2)) b⟩
     show (w.raw++[b])[0]?=_
     rw [getElem?_append_left (List.length_pos_iff.2 r1)];exact r2
   have ht:(countP w b).tick=i+1:=by show w.tick+1=i+1;omega
   unfold endP
   split
   ·exact ⟨hr,by rw [hk.2.1];exact ht,by rw [hk.2.2.2];exact ho,fun _=>⟨hne,hraw⟩⟩
   ·split
    ·exact ⟨hr,by show (takeP (countP w b) b).2.tick=_;rw [hk.2.1];exact ht,by show (takeP (countP w b) b).2.ones<=_;rw [hk.2.2.2];exact ho,fun q=>by cases q⟩
    ·exact ⟨hr,by show (takeP (countP w b) b).2.tick=_;rw [hk.2.1];exact ht,by show (takeP (countP w b) b).2.ones<=_;rw [hk.2.2.2];exact ho,fun q=>by cases q⟩
def sgGo (w:Wt):List Bool->List Sg
 | []=>[]
 | b::m=>(match (seeP w b).1 with | none=>[] | some s=>[s])++sgGo (seeP w b).2 m





def appZK (fl:Bool) (sz bytes:Nat) (zero:List AVal) (H:Heap) (s:AVal):AVal->Option (AVal × Heap)
 | .lit (.int .i64 l)=>if 0<=l/\l<=2 ^ 46/\l * bytes<=2 ^ 46 then aadd fl sz bytes H s (flatL zero) (List.replicate l.toNat zero) else none
 | _=>none
theorem aop_appendZ {c:Callee} {ρ:Opd->AVal} {H:Heap} (fl sz b z s n):aop c ρ H (.appendZ fl sz b z s n)=appZK fl sz b z H (ρ s) (ρ n):=by
 unfold aop appZK;rfl
theorem appZK_int (fl:Bool) (sz bytes:Nat) (zero:List AVal) (H:Heap) (s:AVal) (l:Int):appZK fl sz bytes zero H s (.lit (.int .i64 l))=if 0<=l/\l<=2 ^ 46/\l * bytes<=2 ^ 46 then aadd fl sz bytes H s (flatL zero) (List.replicate l.toNat zero) else none:=rfl
def capK (H:Heap):AVal->Option (AVal × Heap)
 | .imm _ true _ es=>some (vint .i64 es.length,H)
 | _=>none
theorem aop_cap {c:Callee} {ρ:Opd->AVal} {H:Heap} (x):aop c ρ H (.cap x)=capK H (ρ x):=by
 unfold aop capK;rfl
theorem capK_imm (H:Heap) (n fl es):capK H (.imm n true fl es)=some (vint .i64 es.length,H):=rfl
def cutK (sz:Nat) (H:Heap) (i len off n lo h m:Nat):Option Entry->Option (AVal × Heap)
 | some (.arr fl lk _ se es)=>if es.length=len/\se=sz/\off=0/\n=len/\lo=0/\h=m/\m<=n then
   some (.own H.length h sz 0 h,H.set i .dead++[.arr fl lk true sz (es.take h)]) else none
 | _=>none
theorem aslice_own_mx (sz:Nat) (H:Heap) (i len so off n lo h m:Nat):aslice sz H (.own i len so off n) lo (some h) (some m)=if so≠sz then none else cutK sz H i len off n lo h m H[i]?:=by
 simp only [aslice]
 split
 ·rfl
 ·cases H[i]? with
  | none=>rfl
  | some e=>cases e<;>rfl
theorem cutK_arr (sz:Nat) (H:Heap) (i len off n lo h m:Nat) (fl lk fu se es):cutK sz H i len off n lo h m (some (.arr fl lk fu se es))=if es.length=len/\se=sz/\off=0/\n=len/\lo=0/\h=m/\m<=n then
   some (.own H.length h sz 0 h,H.set i .dead++[.arr fl lk true sz (es.take h)]) else none:=rfl
attribute [go_sem] aop_appendZ appZK_int aop_cap capK_imm aslice_own_mx cutK_arr

theorem growL_nil (n:Nat) (hn:n<=1000000) (h:n≠0):call E (.func (.func 112) [] []) [nilS,.lit (.int .i64 n)] []
  = some (.own 0 n 1 0 0,[.arr true false false 1 (List.replicate n [.lit (.int .i64 0)])]):=by
 rw [c9f E E112]
 have h0:¬ (n:Int)<0:=by omega
 have w0:IntKind.wrap .i64 0=0:=rfl
 have w1:IntKind.wrap .i64 (n:Int)=n:=wrap64 (by omega) (by omega)
 have h1:0<(n:Int):=by omega
 have h1':0<n:=by omega
 have h2:(n:Int)<=70368744177664:=by omega
 have h3:(n:Int) * 8<=70368744177664:=by omega
 have h4:¬ (70368744177664<n * 8):=by omega
 have hr:rowsOk 1 (List.replicate n [AVal.lit (.int .i64 0)])=true:=by
  simp [rowsOk]
 simp [go_sem,ir112,h,h0,h1,h1',h2,h3,h4,hr,w0,w1,p9q,flatL,flatV]
theorem concatL3 (X Y Z:List Bool) (hX:X≠[]) (hY:Y≠[]) (hZ:Z≠[]) (hl:X.length+Y.length+Z.length<=1000000) (fu xn xf yn yf zn zf:Bool) :
  call E (.func (.func 81) [] []) [.imm false fu true [[.imm xn xf true (X.map encLv)],[.imm yn yf true (Y.map encLv)],[.imm zn zf true (Z.map encLv)]]] []
   = some (.own 0 (X++Y++Z).length 1 0 (X++Y++Z).length,[.arr true false false 1 ((X++Y++Z).map encLv)]):=by
 rw [c9f E E81]
 have pX:=List.length_pos_iff.2 hX
 have pY:=List.length_pos_iff.2 hY
 have pZ:=List.length_pos_iff.2 hZ
 have hG:=growL_nil (X.length+Y.length+Z.length) hl (by omega)
 have wx:IntKind.wrap .i64 (X.length:Int)=X.length:=wrap64 (by omega) (by omega)
 have wxy:IntKind.wrap .i64 ((X.length:Int)+(Y.length:Int))=(X.length:Int)+Y.length:=wrap64 (by omega) (by omega)
 have wxyz:IntKind.wrap .i64 ((X.length:Int)+(Y.length:Int)+(Z.length:Int))=(X.length:Int)+Y.length+Z.length:=wrap64 (by omega) (by omega)
 have w1:IntKind.wrap .i64 1=1:=rfl
 have w2:IntKind.wrap .i64 2=2:=rfl
 have w3:IntKind.wrap .i64 3=3:=rfl
 have h0:¬ (X.length:Int)<0:=by omega
 have h1:¬ (X.length:Int)+(Y.length:Int)<0:=by omega
 have h2:¬ (X.length:Int)+(Y.length:Int)+(Z.length:Int)<0:=by omega
 have rX:=rowsLv X
 have rY:=rowsLv Y
 have rZ:=rowsLv Z
 have b1:¬ (70368744177664<X.length * 8):=by omega
 have b2:¬ (70368744177664<(X.length+Y.length) * 8):=by omega
 have b3:¬ (70368744177664<(X.length+(Y.length+Z.length)) * 8):=by omega
 have hne:¬ (0=X.length+(Y.length+Z.length)):=by omega
 simp [nilS] at hG
 simp [go_sem,ir81,r9c E L81_0.eq_1,r9c E L81_1.eq_1,r9l,hG,wx,wxy,wxyz,w1,w2,w3,h0,h1,h2,rX,rY,rZ,b1,b2,b3,hX,hY,hZ,hne,nilS,p9q,range_succ,Nat.add_assoc]
theorem concatL4 (X Y Z V:List Bool) (hX:X≠[]) (hY:Y≠[]) (hZ:Z≠[]) (hV:V≠[]) (hl:X.length+Y.length+Z.length+V.length<=1000000) (fu xn xf yn yf zn zf vn vf:Bool) :
  call E (.func (.func 81) [] []) [.imm false fu true [[.imm xn xf true (X.map encLv)],[.imm yn yf true (Y.map encLv)],[.imm zn zf true (Z.map encLv)],[.imm vn vf true (V.map encLv)]]] []
   = some (.own 0 (X++Y++Z++V).length 1 0 (X++Y++Z++V).length,[.arr true false false 1 ((X++Y++Z++V).map encLv)]):=by
 rw [c9f E E81]
 have pX:=List.length_pos_iff.2 hX
 have pY:=List.length_pos_iff.2 hY
 have pZ:=List.length_pos_iff.2 hZ
 have pV:=List.length_pos_iff.2 hV
 have hG:=growL_nil (X.length+Y.length+Z.length+V.length) hl (by omega)
 have wx:IntKind.wrap .i64 (X.length:Int)=X.length:=wrap64 (by omega) (by omega)
 have wxy:IntKind.wrap .i64 ((X.length:Int)+(Y.length:Int))=(X.length:Int)+Y.length:=wrap64 (by omega) (by omega)
 have wxyz:IntKind.wrap .i64 ((X.length:Int)+(Y.length:Int)+(Z.length:Int))=(X.length:Int)+Y.length+Z.length:=wrap64 (by omega) (by omega)
 have wv:IntKind.wrap .i64 ((X.length:Int)+(Y.length:Int)+(Z.length:Int)+(V.length:Int))=(X.length:Int)+Y.length+Z.length+V.length:=wrap64 (by omega) (by omega)
 have w1:IntKind.wrap .i64 1=1:=rfl
 have w2:IntKind.wrap .i64 2=2:=rfl
 have w3:IntKind.wrap .i64 3=3:=rfl
 have w4:IntKind.wrap .i64 4=4:=rfl
 have h0:¬ (X.length:Int)<0:=by omega
 have h1:¬ (X.length:Int)+(Y.length:Int)<0:=by omega
 have h2:¬ (X.length:Int)+(Y.length:Int)+(Z.length:Int)<0:=by omega
 have h3:¬ (X.length:Int)+(Y.length:Int)+(Z.length:Int)+(V.length:Int)<0:=by omega
 have rX:=rowsLv X
 have rY:=rowsLv Y
 have rZ:=rowsLv Z
 have rV:=rowsLv V
 have b1:¬ (70368744177664<X.length * 8):=by omega
 have b2:¬ (70368744177664<(X.length+Y.length) * 8):=by omega
 have b3:¬ (70368744177664<(X.length+(Y.length+Z.length)) * 8):=by omega
 have b4:¬ (70368744177664<(X.length+(Y.length+(Z.length+V.length))) * 8):=by omega
 have hne:¬ (0=X.length+(Y.length+(Z.length+V.length))):=by omega
 simp [nilS] at hG
 simp [go_sem,ir81,r9c E L81_0.eq_1,r9c E L81_1.eq_1,r9l,hG,wx,wxy,wxyz,wv,w1,w2,w3,w4,h0,h1,h2,h3,rX,rY,rZ,rV,b1,b2,b3,b4,hX,hY,hZ,hV,hne,nilS,p9q,range_succ,Nat.add_assoc]
def maxL (a:Nat):List Nat->Nat
 | []=>a
 | x::l=>maxL (max a x) l
theorem max_loop (l:List Nat) (hl:l.length<=1000000) (nl fu:Bool) (k:List Item) (R:Nat->Option (AVal × Heap))
    (hk:∀ (τ:Tmps) (a:Nat),lk 3 τ=.lit (.int .u8 (a:Int))->finK 0 [.tmp 2] (run E 0 k τ [])=R a) :
    ∀ (d i a:Nat),i+d=l.length ->
   finK 0 [.tmp 2] (run E 0 (.code L53_0::.inLoop [0,3,4] L53_0::.inBlock 0::k) [(0,.imm nl fu true (l.map encB)),(3,.lit (.int .u8 a)),(4,.lit (.int .i64 i))] [])=R (maxL a (l.drop i)):=by
  intro d
  induction d with
  | zero =>
    intro i a hi
    have:i=l.length:=by omega
    subst this
    simp [go_sem,r9c E L53_0.eq_1,maxL]
    exact hk _ _ rfl
  | succ d ih =>
    intro i a hi
    have hlt:i<l.length:=by omega
    have w:=wrapIdx (i:=i) (by omega)
    rw [List.drop_eq_getElem_cons hlt,maxL]
    have ih2:=ih (i+1) (max a l[i]) (by omega)
    have hm:(if (a:Int)<(l[i]:Int) then (l[i]:Int) else (a:Int))=((max a l[i]:Nat):Int):=by split<;>omega
    have hm2:(if a<l[i] then (l[i]:Int) else (a:Int))=((max a l[i]:Nat):Int):=by split<;>omega
    generalize R _=Q at ih2 ⊢
    generalize max a l[i]=mx at *
    simp at ih2 w
    simp [go_sem,r9c E L53_0.eq_1,hlt,getElem?_eq_getElem hlt,encB,w,hm,hm2,p9q]
    rw [r9l]
    simp [go_sem,p9q]
    exact ih2
theorem max_spec (x:Nat) (l:List Nat) (hl:l.length<=100000) (nl fu:Bool):call E (.func (.func 53) [] []) [.imm nl fu true ((x::l).map encB)] []=some (.lit (.int .u8 (maxL x l)),[]):=by
 rw [c9f E E53]
 have h1:¬ ((l.length:Int)+1<1):=by omega
 have h:=fun k hk=>max_loop (x::l) (by simp;omega) nl fu k (fun n=>some (.lit (.int .u8 n),[])) hk l.length 1 x (by simp;omega)
 simp at h
 simp [go_sem,ir53,h1,encB,p9q]
 rw [r9l]
 simp [go_sem,p9q]
 simp [encB] at h
 refine h _ ?_
 intro τ n t3
 simp [go_sem,t3]
theorem ones10:call E (.func (.func 82) [] []) [.imm false true true [[.lit (.int .i64 1)]],.lit (.int .i64 10)] []=some (.own 0 10 1 0 10,[.arr true false false 1 (List.replicate 10 [.lit (.int .i64 1)])]) :=
 (call_iff E).2 ⟨400,by kernel_rfl⟩
def slArrK (n sz:Nat) (H:Heap):AVal->Option Nat->Option Nat->Option (AVal × Heap)
 | .ptr i k,some l,some h=>if l<=h/\h<=n then some (.asl i (k+l * sz) sz (h - l),H) else none
 | _,_,_=>none
theorem aop_sliceArr {c:Callee} {ρ:Opd->AVal} {H:Heap} (n sz x lo hi):aop c ρ H (.sliceArr n sz x lo hi)=slArrK n sz H (ρ x) (optNat ρ 0 lo) (optNat ρ n hi):=by
 simp only [aop]
 cases optNat ρ 0 lo with
 | none=>cases ρ x<;>rfl
 | some l=>cases optNat ρ n hi with
  | none=>cases ρ x<;>rfl
  | some h=>cases ρ x<;>rfl
theorem slArrK_ptr (n sz:Nat) (H:Heap) (i k l h:Nat):slArrK n sz H (.ptr i k) (some l) (some h)=if l<=h/\h<=n then some (.asl i (k+l * sz) sz (h - l),H) else none:=rfl
def appAslK (fl:Bool) (sz bytes:Nat) (H:Heap) (s:AVal) (k sa n:Nat):Option Entry->Option (AVal × Heap)
 | some (.box cs)=>if k+n * sa<=cs.length then aadd fl sz bytes H s (flatL cs) (chunks (cs.drop k) sa n) else none
 | _=>none
theorem aappend_asl (fl:Bool) (sz bytes:Nat) (H:Heap) (s:AVal) (i k sa n:Nat):aappend fl sz bytes H s (.asl i k sa n)=appAslK fl sz bytes H s k sa n H[i]?:=by
 simp only [aappend,content]
 cases H[i]? with
 | none=>rfl
 | some e=>cases e with
  | box cs =>
   simp only [appAslK]
   split<;>rfl
  | _=>rfl
theorem appAslK_box (fl:Bool) (sz bytes:Nat) (H:Heap) (s:AVal) (k sa n:Nat) (cs):appAslK fl sz bytes H s k sa n (some (.box cs))=if k+n * sa<=cs.length then aadd fl sz bytes H s (flatL cs) (chunks (cs.drop k) sa n) else none:=rfl
attribute [go_sem] aop_sliceArr slArrK_ptr aappend_asl appAslK_box
def Fr.bytes (f:Fr):List Nat:=[f.d0,f.d1,f.d2,f.d3,f.d4,f.d5,f.d6,f.d7]
structure Fr.Ok (f:Fr):Prop where
 id1:-9223372036854775808<=f.id
 id2:f.id<=9223372036854775807
 len1:-9223372036854775808<=f.len
 len2:f.len<=9223372036854775807
 byte:∀ c∈f.bytes,c<256
def checkP (f:Fr):Int :=
 if f.id<0∨(if f.ext=true then 536870911 else 2047)<f.id then 14
 else if f.len<0∨8<f.len then 14
 else if maxL 0 (f.bytes.drop (if f.rtr=true then 0 else f.len.toNat))=0 then 0 else 14
theorem fcheck_spec (f:Fr):call E (.func (.func 24) [] []) [.agg (encFr f)] []=some (.lit (.int .i64 (checkP f)),[]):=by
 rw [c9f E E24]
 obtain ⟨id,ext,rtr,len,d0,d1,d2,d3,d4,d5,d6,d7⟩:=f
 by_cases h1:id<0
 ·have:checkP ⟨id,ext,rtr,len,d0,d1,d2,d3,d4,d5,d6,d7⟩=14:=by unfold checkP;rw [if_pos (.inl h1)]
  rw [this]
  cases ext<;>cases rtr<;>simp [go_sem,ir24,encFr,u8v,h1,p9q,range_succ]
 ·by_cases h2:(if ext=true then 536870911 else 2047)<id
  ·have:checkP ⟨id,ext,rtr,len,d0,d1,d2,d3,d4,d5,d6,d7⟩=14:=by unfold checkP;rw [if_pos (.inr h2)]
   rw [this]
   cases ext<;>cases rtr<;>simp at h2<;>simp [go_sem,ir24,encFr,u8v,h1,h2,p9q,range_succ]
  ·by_cases h3:len<0
   ·have:checkP ⟨id,ext,rtr,len,d0,d1,d2,d3,d4,d5,d6,d7⟩=14:=by unfold checkP;rw [if_neg (by rintro (q | q);exact h1 q;exact h2 q),if_pos (.inl h3)]
    rw [this]
    have h2:¬ (if ext=true then 536870911 else 2047)<id:=h2
    cases ext<;>cases rtr<;>simp at h2<;>(have h2':=Int.not_lt.2 h2)<;>simp [go_sem,ir24,encFr,u8v,h1,h2',h3,p9q,range_succ]
   ·by_cases h4:8<len
    ·have:checkP ⟨id,ext,rtr,len,d0,d1,d2,d3,d4,d5,d6,d7⟩=14:=by unfold checkP;rw [if_neg (by rintro (q | q);exact h1 q;exact h2 q),if_pos (.inr h4)]
     rw [this]
     cases ext<;>cases rtr<;>simp at h2<;>(have h2':=Int.not_lt.2 h2)<;>simp [go_sem,ir24,encFr,u8v,h1,h2',h3,h4,p9q,range_succ]
    ·have hc:checkP ⟨id,ext,rtr,len,d0,d1,d2,d3,d4,d5,d6,d7⟩=if maxL 0 (([d0,d1,d2,d3,d4,d5,d6,d7]:List Nat).drop (if rtr=true then 0 else len.toNat))=0 then 0 else 14:=by unfold checkP;rw [if_neg (by rintro (q | q);exact h1 q;exact h2 q),if_neg (by rintro (q | q);exact h3 q;exact h4 q)];rfl
     rw [hc]
     clear hc
     have hm:=fun (l:List Nat) (hl:l.length<=100000) (fu:Bool)=>max_spec 0 l hl false fu
     cases rtr
     ·have hcase:len=0∨len=1∨len=2∨len=3∨len=4∨len=5∨len=6∨len=7∨len=8:=by omega
      rcases hcase with rfl | rfl | rfl | rfl | rfl | rfl | rfl | rfl | rfl
      ·have hM:=hm (([d0,d1,d2,d3,d4,d5,d6,d7]:List Nat).drop 0) (by simp) false
       simp [encB] at hM
       cases ext<;>simp at h2<;>(have h2':=Int.not_lt.2 h2)<;>simp [go_sem,ir24,encFr,u8v,h1,h2',h3,h4,hM,chunks,rowsOk,p9q,range_succ]<;>(first | done | (generalize maxL 0 _=mx at *;rcases Nat.eq_zero_or_pos mx with hz | hz;(simp [go_sem,hz,p9q]);(have hz':¬ mx=0:=by omega);(simp [go_sem,hz,hz',p9q])))
      ·have hM:=hm (([d0,d1,d2,d3,d4,d5,d6,d7]:List Nat).drop 1) (by simp) false
       simp [encB] at hM
       cases ext<;>simp at h2<;>(have h2':=Int.not_lt.2 h2)<;>simp [go_sem,ir24,encFr,u8v,h1,h2',h3,h4,hM,chunks,rowsOk,p9q,range_succ]<;>(first | done | (generalize maxL 0 _=mx at *;rcases Nat.eq_zero_or_pos mx with hz | hz;(simp [go_sem,hz,p9q]);(have hz':¬ mx=0:=by omega);(simp [go_sem,hz,hz',p9q])))
      ·have hM:=hm (([d0,d1,d2,d3,d4,d5,d6,d7]:List Nat).drop 2) (by simp) false
       simp [encB] at hM
       cases ext<;>simp at h2<;>(have h2':=Int.not_lt.2 h2)<;>simp [go_sem,ir24,encFr,u8v,h1,h2',h3,h4,hM,chunks,rowsOk,p9q,range_succ]<;>(first | done | (generalize maxL 0 _=mx at *;rcases Nat.eq_zero_or_pos mx with hz | hz;(simp [go_sem,hz,p9q]);(have hz':¬ mx=0:=by omega);(simp [go_sem,hz,hz',p9q])))
      ·have hM:=hm (([d0,d1,d2,d3,d4,d5,d6,d7]:List Nat).drop 3) (by simp) false
       simp [encB] at hM
       cases ext<;>simp at h2<;>(have h2':=Int.not_lt.2 h2)<;>simp [go_sem,ir24,encFr,u8v,h1,h2',h3,h4,hM,chunks,rowsOk,p9q,range_succ]<;>(first | done | (generalize maxL 0 _=mx at *;rcases Nat.eq_zero_or_pos mx with hz | hz;(simp [go_sem,hz,p9q]);(have hz':¬ mx=0:=by omega);(simp [go_sem,hz,hz',p9q])))
      ·have hM:=hm (([d0,d1,d2,d3,d4,d5,d6,d7]:List Nat).drop 4) (by simp) false
       simp [encB] at hM
       cases ext<;>simp at h2<;>(have h2':=Int.not_lt.2 h2)<;>simp [go_sem,ir24,encFr,u8v,h1,h2',h3,h4,hM,chunks,rowsOk,p9q,range_succ]<;>(first | done | (generalize maxL 0 _=mx at *;rcases Nat.eq_zero_or_pos mx with hz | hz;(simp [go_sem,hz,p9q]);(have hz':¬ mx=0:=by omega);(simp [go_sem,hz,hz',p9q])))
      ·have hM:=hm (([d0,d1,d2,d3,d4,d5,d6,d7]:List Nat).drop 5) (by simp) false
       simp [encB] at hM
       cases ext<;>simp at h2<;>(have h2':=Int.not_lt.2 h2)<;>simp [go_sem,ir24,encFr,u8v,h1,h2',h3,h4,hM,chunks,rowsOk,p9q,range_succ]<;>(first | done | (generalize maxL 0 _=mx at *;rcases Nat.eq_zero_or_pos mx with hz | hz;(simp [go_sem,hz,p9q]);(have hz':¬ mx=0:=by omega);(simp [go_sem,hz,hz',p9q])))
      ·have hM:=hm (([d0,d1,d2,d3,d4,d5,d6,d7]:List Nat).drop 6) (by simp) false
       simp [encB] at hM
       cases ext<;>simp at h2<;>(have h2':=Int.not_lt.2 h2)<;>simp [go_sem,ir24,encFr,u8v,h1,h2',h3,h4,hM,chunks,rowsOk,p9q,range_succ]<;>(first | done | (generalize maxL 0 _=mx at *;rcases Nat.eq_zero_or_pos mx with hz | hz;(simp [go_sem,hz,p9q]);(have hz':¬ mx=0:=by omega);(simp [go_sem,hz,hz',p9q])))
      ·have hM:=hm (([d0,d1,d2,d3,d4,d5,d6,d7]:List Nat).drop 7) (by simp) false
       simp [encB] at hM
       cases ext<;>simp at h2<;>(have h2':=Int.not_lt.2 h2)<;>simp [go_sem,ir24,encFr,u8v,h1,h2',h3,h4,hM,chunks,rowsOk,p9q,range_succ]<;>(first | done | (generalize maxL 0 _=mx at *;rcases Nat.eq_zero_or_pos mx with hz | hz;(simp [go_sem,hz,p9q]);(have hz':¬ mx=0:=by omega);(simp [go_sem,hz,hz',p9q])))
      ·have hM:=hm (([d0,d1,d2,d3,d4,d5,d6,d7]:List Nat).drop 8) (by simp) true
       simp [encB] at hM
       cases ext<;>simp at h2<;>(have h2':=Int.not_lt.2 h2)<;>simp [go_sem,ir24,encFr,u8v,h1,h2',h3,h4,hM,chunks,rowsOk,p9q,range_succ]<;>(first | done | (generalize maxL 0 _=mx at *;rcases Nat.eq_zero_or_pos mx with hz | hz;(simp [go_sem,hz,p9q]);(have hz':¬ mx=0:=by omega);(simp [go_sem,hz,hz',p9q])))
     ·have hM:=hm (([d0,d1,d2,d3,d4,d5,d6,d7]:List Nat).drop 0) (by simp) false
      simp [encB] at hM
      cases ext<;>simp at h2<;>(have h2':=Int.not_lt.2 h2)<;>simp [go_sem,ir24,encFr,u8v,h1,h2',h3,h4,hM,chunks,rowsOk,p9q,range_succ]<;>(first | done | (generalize maxL 0 _=mx at *;rcases Nat.eq_zero_or_pos mx with hz | hz;(simp [go_sem,hz,p9q]);(have hz':¬ mx=0:=by omega);(simp [go_sem,hz,hz',p9q])))
def arbP (f:Fr):List Bool :=
 if f.ext=true then bitsOf 11 (f.id.toNat / 262144)++[true,true]++bitsOf 18 f.id.toNat++[f.rtr] else bitsOf 11 f.id.toNat++[f.rtr,false]
theorem checkP_ok {f:Fr} (h:checkP f=0):0<=f.id/\f.id<=536870911/\(f.ext=false->f.id<=2047)/\0<=f.len/\f.len<=8/\maxL 0 (f.bytes.drop (if f.rtr=true then 0 else f.len.toNat))=0:=by
 unfold checkP at h
 by_cases h1:f.id<0∨(if f.ext=true then 536870911 else 2047)<f.id
 ·rw [if_pos h1] at h;cases h
 ·rw [if_neg h1] at h
  by_cases h2:f.len<0∨8<f.len
  ·rw [if_pos h2] at h;cases h
  ·rw [if_neg h2] at h
   have a1:¬ f.id<0:=fun q=>h1 (.inl q)
   have a2:¬ (if f.ext=true then 536870911 else 2047)<f.id:=fun q=>h1 (.inr q)
   have a3:¬ f.len<0:=fun q=>h2 (.inl q)
   have a4:¬ 8<f.len:=fun q=>h2 (.inr q)
   refine ⟨by omega,by split at a2<;>omega,?_,by omega,by omega,?_⟩
   ·intro q
    rw [q] at a2
    simp at a2;omega
   ·by_cases h3:maxL 0 (f.bytes.drop (if f.rtr=true then 0 else f.len.toNat))=0
    ·exact h3
    ·rw [if_neg h3] at h;cases h
theorem lvl_spec (b:Bool):call E (.func (.func 114) [] []) [.lit (.bool b)] []=some (.lit (.int .i64 (lv b)),[]):=by
 rw [c9f E E114]
 cases b<;>simp [go_sem,ir114,lv]
theorem farb_err (f:Fr) (h:checkP f≠0):call E (.func (.func 83) [] []) [.agg (encFr f)] []=some (.tup [nilS,.lit (.int .i64 (checkP f))],[]):=by
 rw [c9f E E83]
 have hC:=fcheck_spec f
 generalize checkP f=c at *
 simp [encFr,u8v] at hC
 simp [go_sem,ir83,encFr,u8v,hC,h,nilS,p9q,range_succ]
theorem farb_spec (f:Fr) (h:checkP f=0):call E (.func (.func 83) [] []) [.agg (encFr f)] []=some (.tup [.own 0 (arbP f).length 1 0 (arbP f).length,.lit (.int .i64 0)],[.arr true false false 1 ((arbP f).map encLv)]):=by
 rw [c9f E E83]
 have hC:=fcheck_spec f
 rw [h] at hC
 obtain ⟨c1,c2,c3,c4,c5,c6⟩:=checkP_ok h
 have hl:=lvl_spec f.rtr
 obtain ⟨n,hn⟩:=Int.eq_ofNat_of_zero_le c1
 have wn:IntKind.wrap .u64 (n:Int)=n:=wrap_u64 (by omega)
 cases hx:f.ext
 ·have e:arbP f=bitsOf 11 n++[f.rtr,false]:=by unfold arbP;rw [hx,hn];rfl
  have hb:=bof_spec n 11 (by omega) (by omega)
  have hlen:=bitsOf_length 11 n
  have hr:rowsOk 1 ((bitsOf 11 n).map encLv)=true:=rowsLv _
  rw [e]
  generalize bitsOf 11 n=B at *
  simp [encFr,u8v,hx,hn] at hC hb
  simp [go_sem,ir83,encFr,u8v,hC,hx,hn,hl,wn,hb,hlen,hr,encLv,show lv false=0 from rfl,rowsOk,nilS,p9q,range_succ]
 ·have e:arbP f=bitsOf 11 (n / 262144)++[true,true]++bitsOf 18 n++[f.rtr]:=by unfold arbP;rw [hx,hn];rfl
  have hb:=bof_spec (n / 262144) 11 (by omega) (by omega)
  have hb2:=bof_spec n 18 (by omega) (by omega)
  have hlen:=bitsOf_length 11 (n / 262144)
  have hlen2:=bitsOf_length 18 n
  have hne1:bitsOf 11 (n / 262144)≠[]:=by intro q;rw [q] at hlen;simp at hlen
  have hne2:bitsOf 18 n≠[]:=by intro q;rw [q] at hlen2;simp at hlen2
  have hfd:(n:Int).fdiv 262144=((n / 262144:Nat):Int):=by rw [Int.fdiv_eq_ediv_of_nonneg _ (by omega)];simp
  have hr:rowsOk 1 ((bitsOf 11 (n / 262144)).map encLv)=true:=rowsLv _
  have hr2:rowsOk 1 ((bitsOf 18 n).map encLv)=true:=rowsLv _
  have hCC:=concatL4 (bitsOf 11 (n / 262144)) [true,true] (bitsOf 18 n) [f.rtr] hne1 (by simp) hne2 (by simp) (by simp;omega) true false false false true false false false true
  rw [e]
  generalize bitsOf 11 (n / 262144)=B at *
  generalize bitsOf 18 n=B2 at *
  generalize n / 262144=nq at *
  have c11:cutE (B.map encLv) 0 11=B.map encLv:=cutE_whole (by simp [hlen])
  have c18:cutE (B2.map encLv) 0 18=B2.map encLv:=cutE_whole (by simp [hlen2])
  simp [encFr,u8v,hx,hn] at hC hb hb2
  simp [encLv,hlen,hlen2,show lv true=1 from rfl] at hCC
  simp [go_sem,ir83,encFr,u8v,hC,hx,hn,hl,wn,hfd,hb,hb2,hlen,hlen2,hr,hr2,c11,c18,hCC,encLv,show lv true=1 from rfl,rowsOk,nilS,p9q,range_succ]
end Go.AM.R1
