/-
  The code of the functions that are evaluated, by program (irgen.py) out of the print of the loaded functions; checked against them below. Conditions: none.
-/
import Derived.Test.YtigiopahmiaedaaGreatDoorFwU
import Derived.Test.YtigiopahmiaedaaGreatDoorProg
import Derived.KernelRfl
set_option linter.unusedVariables false
set_option maxRecDepth 100000
namespace Go.Fw.Code_
open Go.Proofs

def z_0 : List AV := [(.int .u8 0), (.int .u16 0), (.bool false), (.int .u8 0), (.int .u8 0), (.int .u32 0), (.int .u32 0), (.rs false 1 [])]
theorem z_0e : z_0 = [(.int .u8 0), (.int .u16 0), (.bool false), (.int .u8 0), (.int .u8 0), (.int .u32 0), (.int .u32 0), (.rs false 1 [])] := (rfl)
def z_1 : List AV := [(.int .u8 0), (.int .u32 0), (.int .u16 0), (.int .u32 0), (.int .u16 0), (.int .u8 0), (.int .u8 0)]
theorem z_1e : z_1 = [(.int .u8 0), (.int .u32 0), (.int .u16 0), (.int .u32 0), (.int .u16 0), (.int .u8 0), (.int .u8 0)] := (rfl)
def z_2 : List AV := [(.rs false 1 []), (.int .i64 0)]
theorem z_2e : z_2 = [(.rs false 1 []), (.int .i64 0)] := (rfl)
def z_3 : List AV := [(.int .u16 0), (.int .u16 0), (.bool false), (.rs false 1 [])]
theorem z_3e : z_3 = [(.int .u16 0), (.int .u16 0), (.bool false), (.rs false 1 [])] := (rfl)
def z_4 : List AV := [(.int .u32 0), (.int .u16 0)]
theorem z_4e : z_4 = [(.int .u32 0), (.int .u16 0)] := (rfl)
def z_5 : List AV := [(.int .u8 0), (.int .u8 0), (.int .u8 0), (.int .u8 0), (.int .u8 0), (.int .u8 0), (.rs false 1 [])]
theorem z_5e : z_5 = [(.int .u8 0), (.int .u8 0), (.int .u8 0), (.int .u8 0), (.int .u8 0), (.int .u8 0), (.rs false 1 [])] := (rfl)
def z_6 : List AV := [(.int .u16 0), (.int .u16 0), (.int .u8 0), (.rs false 1 [])]
theorem z_6e : z_6 = [(.int .u16 0), (.int .u16 0), (.int .u8 0), (.rs false 1 [])] := (rfl)
def z_7 : List AV := [(.int .i64 0), .nili]
theorem z_7e : z_7 = [(.int .i64 0), .nili] := (rfl)
def z_8 : List AV := [(.rs false 1 [])]
theorem z_8e : z_8 = [(.rs false 1 [])] := (rfl)
def z_9 : List AV := [(.int .i64 0), (.int .i64 0)]
theorem z_9e : z_9 = [(.int .i64 0), (.int .i64 0)] := (rfl)
def z_10 : List AV := [(.int .u8 0), (.int .u8 0)]
theorem z_10e : z_10 = [(.int .u8 0), (.int .u8 0)] := (rfl)
attribute [go_sem] z_0e z_1e z_2e z_3e z_4e z_5e z_6e z_7e z_8e z_9e z_10e
/- gosem.cut.init -/
def I2 : Fn_ := ⟨0, 1, [],
  (.ops [⟨some 0, none, .callF false 1 []⟩])⟩
/- vizard/vizardlaw21.TurnReads -/
def I3 : Fn_ := ⟨1, 95, [(2, none)],
  (.seq (.ops [⟨some 1, none, .boxR true 8 26 (.t 0)⟩, ⟨some 2, none, .mov (.c (.bool false))⟩])
  (.seq (.seq (.ops [⟨some 17, none, .callF true 4 []⟩, ⟨some 18, none, .un .not (.t 17)⟩])
  (.cond (.t 18)
  (.seq (.ops [⟨some 2, none, .mov (.c (.bool false))⟩])
  .ret)
  .skip))
  (.seq (.seq (.ops [oF 19 7 1, oL 20 19, ⟨some 21, none, .len (.t 20)⟩, ⟨some 22, none, .bin .gtr (.t 21) (.c (.int .i64 1600))⟩])
  (.cond (.t 22)
  (.seq (.ops [⟨some 2, none, .mov (.c (.bool true))⟩])
  .ret)
  .skip))
  (.seq (.ops [⟨some 23, none, .load true 8 (.t 1)⟩, ⟨some 24, none, .callF true 5 [(.t 23)]⟩, ⟨some 3, none, .alloc true z_0 26⟩, oS 8 3 24])
  (.seq (.ops [⟨some 25, none, .load true 8 (.t 1)⟩, ⟨some 26, none, .callF true 6 [(.t 25)]⟩, ⟨some 4, none, .alloc true z_0 29⟩, oS 8 4 26])
  (.seq (.ops [⟨some 28, none, .load true 8 (.t 3)⟩, ⟨some 29, none, .callF true 7 [(.t 28)]⟩, oM 27 29, oE 30 27 0, oE 31 27 1, ⟨some 5, none, .alloc true z_1 34⟩, oS 7 5 30, oM 6 31])
  (.seq (.ops [⟨some 33, none, .load true 8 (.t 4)⟩, ⟨some 34, none, .callF true 8 [(.t 33)]⟩, oM 32 34, oE 35 32 0, oE 36 32 1, ⟨some 7, none, .alloc true z_1 41⟩, ⟨some 8, none, .alloc true z_2 45⟩, oS 7 7 35, oS 2 8 36])
  (.seq (.ops [⟨some 38, none, .load true 8 (.t 3)⟩, ⟨some 39, none, .callF true 9 [(.t 38)]⟩, oM 37 39, oE 40 37 0, oE 41 37 1, ⟨some 9, none, .alloc true z_1 34⟩, oS 7 9 40, oM 10 41])
  (.seq (.ops [⟨some 43, none, .load true 8 (.t 4)⟩, ⟨some 44, none, .callF true 10 [(.t 43)]⟩, oM 42 44, oE 45 42 0, oE 46 42 1, ⟨some 11, none, .alloc true z_1 41⟩, ⟨some 12, none, .alloc true z_2 45⟩, oS 7 11 45, oS 2 12 46])
  (.seq (.ops [⟨some 48, none, .load true 8 (.t 3)⟩, ⟨some 49, none, .callF true 11 [(.t 48)]⟩, oM 47 49, oE 50 47 0, oE 51 47 1, ⟨some 13, none, .alloc true z_0 26⟩, oS 8 13 50, oM 14 51])
  (.seq (.ops [⟨some 53, none, .load true 8 (.t 4)⟩, ⟨some 54, none, .callF true 12 [(.t 53)]⟩, oM 52 54, oE 55 52 0, oE 56 52 1, ⟨some 15, none, .alloc true z_0 29⟩, oS 8 15 55, oM 16 56])
  (.seq (.ops [oM 57 6, ⟨some 58, none, .load true 2 (.t 8)⟩, ⟨some 59, none, .callF true 13 [(.t 57), (.t 58)]⟩, oM 60 59, ⟨some 61, (some (60, true)), .load true 7 (.t 5)⟩, ⟨some 62, (some (60, true)), .callF true 14 [(.t 61)]⟩, ⟨some 63, (some (60, true)), .load true 7 (.t 7)⟩, ⟨some 64, (some (60, true)), .eqS false [1, 1, 1, 1, 1, 1, 1] (.t 62) (.t 63)⟩, oN 65 60 64, oM 66 65, gM 67 66 true 10, ⟨some 68, (some (66, true)), .load true 2 (.t 12)⟩, ⟨some 69, (some (66, true)), .callF true 13 [(.t 67), (.t 68)]⟩, oN 70 66 69, oM 71 70, ⟨some 72, (some (71, true)), .load true 7 (.t 9)⟩, ⟨some 73, (some (71, true)), .callF true 14 [(.t 72)]⟩, ⟨some 74, (some (71, true)), .load true 7 (.t 11)⟩, ⟨some 75, (some (71, true)), .eqS false [1, 1, 1, 1, 1, 1, 1] (.t 73) (.t 74)⟩, oN 76 71 75, oM 77 76, gM 78 77 true 14, gM 79 77 true 16, ⟨some 80, (some (77, true)), .binB .eql (.t 78) (.t 79)⟩, oN 81 77 80, oM 82 81, ⟨some 83, (some (82, true)), .load true 8 (.t 13)⟩, ⟨some 84, (some (82, true)), .callF true 6 [(.t 83)]⟩, ⟨some 85, (some (82, true)), .load true 8 (.t 15)⟩, ⟨some 86, (some (82, true)), .callF true 15 [(.t 84), (.t 85)]⟩, oN 87 82 86, oM 88 87, gF 89 88 true 7 3, gL 90 88 true 89, gF 91 88 true 7 1, gL 92 88 true 91, ⟨some 93, (some (88, true)), .callF true 16 [(.t 90), (.t 92)]⟩, oN 94 88 93, oM 2 94])
  .ret))))))))))))⟩
/- vizard/vizardlaw21.alive -/
def I4 : Fn_ := ⟨0, 199, [(0, none)],
  (.seq (.ops [⟨some 0, none, .mov (.c (.bool false))⟩])
  (.seq (.ops [⟨some 28, none, .buildR 1 5 [(.c (.int .u8 1)), (.c (.int .u8 2)), (.c (.int .u8 3))]⟩, ⟨some 29, none, .build z_3 [(0, 1, (.c (.int .u16 4000))), (1, 1, (.c (.int .u16 53))), (3, 1, (.t 28))]⟩, ⟨some 1, none, .alloc true z_3 58⟩, oS 4 1 29])
  (.seq (.ops [⟨some 31, none, .load true 4 (.t 1)⟩, ⟨some 32, none, .callF true 17 [(.t 31), (.c (.int .u32 167772162)), (.c (.int .u32 3221225991))]⟩, oM 30 32, oE 33 30 0, oE 34 30 1, oM 2 33, oM 3 34])
  (.seq (.ops [oM 35 2, ⟨some 36, none, .build z_0 [(3, 1, (.c (.int .u8 9))), (4, 1, (.c (.int .u8 17))), (5, 1, (.c (.int .u32 167772162))), (6, 1, (.c (.int .u32 3221225991))), (7, 1, (.t 35))]⟩, ⟨some 4, none, .alloc true z_0 26⟩, oS 8 4 36])
  (.seq (.ops [⟨some 37, none, .build z_4 [(0, 1, (.c (.int .u32 3221225985))), (1, 1, (.c (.int .u16 5000)))]⟩, ⟨some 5, none, .alloc true z_4 32⟩, oS 2 5 37])
  (.seq (.ops [⟨some 39, none, .load true 8 (.t 4)⟩, ⟨some 40, none, .callF true 7 [(.t 39)]⟩, oM 38 40, oE 41 38 0, oE 42 38 1, ⟨some 6, none, .alloc true z_1 34⟩, oS 7 6 41, oM 7 42])
  (.seq (.ops [⟨some 44, none, .load true 8 (.t 4)⟩, ⟨some 45, none, .load true 2 (.t 5)⟩, ⟨some 46, none, .callF true 18 [(.t 44), (.t 45)]⟩, oM 43 46, oE 47 43 0, oE 48 43 1, ⟨some 8, none, .alloc true z_0 26⟩, oS 8 8 47, oM 9 48])
  (.seq (.ops [oF 50 7 8, oL 51 50, ⟨some 52, none, .callF true 19 [(.t 51), (.c (.int .u32 3221225985)), (.c (.int .u32 3221225991))]⟩, oM 49 52, oE 53 49 0, oE 54 49 1, ⟨some 10, none, .alloc true z_3 58⟩, oS 4 10 53, oM 11 54])
  (.seq (.ops [⟨some 55, none, .load true 8 (.t 8)⟩, ⟨some 56, none, .callF true 20 [(.c (.int .u8 11)), (.c (.int .u8 0)), (.t 55)]⟩, ⟨some 12, none, .alloc true z_5 67⟩, oS 7 12 56])
  (.seq (.ops [⟨some 58, none, .load true 7 (.t 12)⟩, ⟨some 59, none, .callF true 21 [(.t 58)]⟩, oM 57 59, oE 60 57 0, oE 61 57 1, oM 13 60, oM 14 61])
  (.seq (.ops [oM 62 13, ⟨some 63, none, .build z_0 [(3, 1, (.c (.int .u8 8))), (4, 1, (.c (.int .u8 1))), (5, 1, (.c (.int .u32 7))), (6, 1, (.c (.int .u32 3221225985))), (7, 1, (.t 62))]⟩, ⟨some 15, none, .alloc true z_0 26⟩, oS 8 15 63])
  (.seq (.ops [⟨some 65, none, .load true 8 (.t 15)⟩, ⟨some 66, none, .callF true 9 [(.t 65)]⟩, oM 64 66, oE 67 64 0, oE 68 64 1, ⟨some 16, none, .alloc true z_1 34⟩, oS 7 16 67, oM 17 68])
  (.seq (.ops [⟨some 70, none, .load true 8 (.t 15)⟩, ⟨some 71, none, .faddr true 1 2 (.t 6)⟩, ⟨some 72, none, .load true 2 (.t 71)⟩, ⟨some 73, none, .callF true 22 [(.t 70), (.t 72)]⟩, oM 69 73, oE 74 69 0, oE 75 69 1, ⟨some 18, none, .alloc true z_0 26⟩, oS 8 18 74, oM 19 75])
  (.seq (.ops [⟨some 77, none, .load true 8 (.t 18)⟩, ⟨some 78, none, .callF true 9 [(.t 77)]⟩, oM 76 78, oE 79 76 0, oE 80 76 1, ⟨some 20, none, .alloc true z_1 34⟩, oS 7 20 79, oM 21 80])
  (.seq (.ops [⟨some 82, none, .load true 8 (.t 15)⟩, ⟨some 83, none, .callF true 7 [(.t 82)]⟩, oM 81 83, oE 84 81 0, oE 85 81 1, ⟨some 22, none, .alloc true z_1 34⟩, oS 7 22 84, oM 23 85])
  (.seq (.ops [⟨some 87, none, .load true 8 (.t 4)⟩, ⟨some 88, none, .callF true 11 [(.t 87)]⟩, oM 86 88, oE 89 86 0, oE 90 86 1, ⟨some 24, none, .alloc true z_0 26⟩, oS 8 24 89, oM 25 90])
  (.seq (.ops [⟨some 92, none, .build z_0 [(3, 1, (.c (.int .u8 1)))]⟩, ⟨some 93, none, .callF true 11 [(.t 92)]⟩, oM 91 93, oE 94 91 0, oE 95 91 1, ⟨some 26, none, .alloc true z_0 26⟩, oS 8 26 94, oM 27 95])
  (.seq (.ops [oM 96 7, ⟨some 97, none, .eqNl true false (.t 96)⟩, oM 98 97, ⟨some 99, (some (98, true)), .faddr true 1 2 (.t 6)⟩, ⟨some 100, (some (98, true)), .load true 2 (.t 99)⟩, ⟨some 101, (some (98, true)), .build z_4 [(0, 1, (.c (.int .u32 167772162))), (1, 1, (.c (.int .u16 4000)))]⟩, ⟨some 102, (some (98, true)), .eqS false [1, 1] (.t 100) (.t 101)⟩, oN 103 98 102, oM 104 103, ⟨some 105, (some (104, true)), .faddr true 3 2 (.t 6)⟩, ⟨some 106, (some (104, true)), .load true 2 (.t 105)⟩, ⟨some 107, (some (104, true)), .build z_4 [(0, 1, (.c (.int .u32 3221225991))), (1, 1, (.c (.int .u16 53)))]⟩, ⟨some 108, (some (104, true)), .eqS false [1, 1] (.t 106) (.t 107)⟩, oN 109 104 108, oM 110 109, gM 111 110 true 9, ⟨some 112, (some (110, true)), .eqNl true false (.t 111)⟩, oN 113 110 112, oM 114 113, gM 115 114 true 11, ⟨some 116, (some (114, true)), .eqNl true false (.t 115)⟩, oN 117 114 116, oM 118 117, gF 119 118 true 0 10, gL 120 118 true 119, ⟨some 121, (some (118, true)), .bin .eql (.t 120) (.c (.int .u16 5000))⟩, oN 122 118 121, oM 123 122, gF 124 123 true 1 10, gL 125 123 true 124, ⟨some 126, (some (123, true)), .bin .eql (.t 125) (.c (.int .u16 53))⟩, oN 127 123 126, oM 128 127, gF 129 128 true 3 10, gL 130 128 true 129, gF 131 128 true 3 1, gL 132 128 true 131, ⟨some 133, (some (128, true)), .callF true 16 [(.t 130), (.t 132)]⟩, oN 134 128 133, oM 135 134, gM 136 135 true 17, ⟨some 137, (some (135, true)), .eqNl true false (.t 136)⟩, oN 138 135 137, oM 139 138, ⟨some 140, (some (139, true)), .faddr true 1 2 (.t 16)⟩, ⟨some 141, (some (139, true)), .load true 2 (.t 140)⟩, ⟨some 142, (some (139, true)), .load true 2 (.t 5)⟩, ⟨some 143, (some (139, true)), .eqS false [1, 1] (.t 141) (.t 142)⟩, oN 144 139 143, oM 145 144, gM 146 145 true 19, ⟨some 147, (some (145, true)), .eqNl true false (.t 146)⟩, oN 148 145 147, oM 149 148, gM 150 149 true 21, ⟨some 151, (some (149, true)), .eqNl true false (.t 150)⟩, oN 152 149 151, oM 153 152, ⟨some 154, (some (153, true)), .faddr true 1 2 (.t 20)⟩, ⟨some 155, (some (153, true)), .load true 2 (.t 154)⟩, ⟨some 156, (some (153, true)), .faddr true 1 2 (.t 6)⟩, ⟨some 157, (some (153, true)), .load true 2 (.t 156)⟩, ⟨some 158, (some (153, true)), .eqS false [1, 1] (.t 155) (.t 157)⟩, oN 159 153 158, oM 160 159, ⟨some 161, (some (160, true)), .faddr true 3 2 (.t 20)⟩, ⟨some 162, (some (160, true)), .load true 2 (.t 161)⟩, ⟨some 163, (some (160, true)), .faddr true 3 2 (.t 6)⟩, ⟨some 164, (some (160, true)), .load true 2 (.t 163)⟩, ⟨some 165, (some (160, true)), .eqS false [1, 1] (.t 162) (.t 164)⟩, oN 166 160 165, oM 167 166, gF 168 167 true 6 18, gL 169 167 true 168, gF 170 167 true 6 15, gL 171 167 true 170, ⟨some 172, (some (167, true)), .bin .eql (.t 169) (.t 171)⟩, oN 173 167 172, oM 174 173, gM 175 174 true 23, ⟨some 176, (some (174, true)), .eqNl true true (.t 175)⟩, oN 177 174 176, oM 178 177, gM 179 178 true 23, ⟨some 180, (some (178, true)), .callF true 23 [(.t 179)]⟩, ⟨some 181, (some (178, true)), .bin .eql (.t 180) (.c (.int .i64 16))⟩, oN 182 178 181, oM 183 182, gM 184 183 true 23, ⟨some 185, (some (183, true)), .callF true 24 [(.t 184), (.c (.int .i64 14))]⟩, oN 186 183 185, oM 187 186, gM 188 187 true 25, oN 189 187 188, oM 190 189, gF 191 190 true 3 24, gL 192 190 true 191, ⟨some 193, (some (190, true)), .bin .eql (.t 192) (.c (.int .u8 8))⟩, oN 194 190 193, oM 195 194, gM 196 195 true 27, ⟨some 197, (some (195, true)), .un .not (.t 196)⟩, oN 198 195 197, oM 0 198])
  .ret))))))))))))))))))⟩
/- vizard/vizardlaw21.own -/
def I5 : Fn_ := ⟨1, 8, [(2, some (true, 8))],
  (.seq (.ops [⟨some 1, none, .box true 26 (.t 0)⟩, ⟨some 2, none, .alloc true z_0 26⟩])
  (.seq (.ops [oF 3 7 1, oL 4 3, ⟨some 5, none, .callF true 25 [(.t 4)]⟩, oF 6 7 1, oS 1 6 5])
  (.seq (.ops [⟨some 7, none, .load true 8 (.t 1)⟩, oS 8 2 7])
  .ret)))⟩
/- vizard/vizardlaw07.Of -/
def I6 : Fn_ := ⟨1, 21, [(2, some (true, 8))],
  (.seq (.ops [⟨some 1, none, .boxR true 8 26 (.t 0)⟩, ⟨some 2, none, .alloc true z_0 29⟩])
  (.seq (.ops [oF 3 0 1, oL 4 3, oF 5 1 1, oL 6 5, oF 7 2 1, oL 8 7, oF 9 3 1, oL 10 9, oF 11 4 1, oL 12 11, oF 13 5 1, oL 14 13, oF 15 6 1, oL 16 15, oF 17 7 1, oL 18 17, ⟨some 19, none, .callF true 25 [(.t 18)]⟩, ⟨some 20, none, .build z_0 [(0, 1, (.t 4)), (1, 1, (.t 6)), (2, 1, (.t 8)), (3, 1, (.t 10)), (4, 1, (.t 12)), (5, 1, (.t 14)), (6, 1, (.t 16)), (7, 1, (.t 19))]⟩, oS 8 2 20])
  .ret))⟩
/- vizard/turn.Read -/
def I7 : Fn_ := ⟨1, 83, [(2, some (true, 7)), (3, none)],
  (.seq (.ops [⟨some 1, none, .boxR true 8 26 (.t 0)⟩, ⟨some 2, none, .alloc true z_1 34⟩, ⟨some 3, none, .mov (.c .nili)⟩])
  (.seq (.seq (.ops [oF 11 4 1, oL 12 11])
  (.block 0 (some [1, 2, 12]) (.seq (.ops [⟨some 14, none, .bin .eql (.t 12) (.c (.int .u8 6))⟩, oM 13 14])
  (.cond (.t 13)
  (.seq (.ops [oF 16 7 1, oL 17 16, oF 18 5 1, oL 19 18, oF 20 6 1, oL 21 20, ⟨some 22, none, .callF true 26 [(.t 17), (.t 19), (.t 21)]⟩, oM 15 22, oE 23 15 0, oE 24 15 1, ⟨some 4, none, .alloc true z_6 74⟩, oS 4 4 23, oM 5 24])
  (.seq (.seq (.ops [oM 25 5, ⟨some 26, none, .eqNl true true (.t 25)⟩])
  (.cond (.t 26)
  (.seq (.ops [⟨some 27, none, .build z_1 []⟩, oM 28 5, oS 7 2 27, oM 3 28])
  .ret)
  .skip))
  (.seq (.ops [⟨some 29, none, .load true 8 (.t 1)⟩, oF 30 0 4, oL 31 30, oF 32 1 4, oL 33 32, ⟨some 34, none, .callF true 27 [(.t 29), (.t 31), (.t 33)]⟩, ⟨some 6, none, .alloc true z_1 34⟩, oS 7 6 34])
  (.seq (.ops [oF 35 2 4, oL 36 35, oF 37 5 6, oS 1 37 36])
  (.seq (.ops [⟨some 38, none, .load true 7 (.t 6)⟩, oS 7 2 38, ⟨some 3, none, .mov (.c .nili)⟩])
  .ret)))))
  (.seq (.ops [⟨some 40, none, .bin .eql (.t 12) (.c (.int .u8 17))⟩, oM 39 40])
  (.cond (.t 39)
  (.seq (.ops [oF 42 7 1, oL 43 42, oF 44 5 1, oL 45 44, oF 46 6 1, oL 47 46, ⟨some 48, none, .callF true 19 [(.t 43), (.t 45), (.t 47)]⟩, oM 41 48, oE 49 41 0, oE 50 41 1, ⟨some 7, none, .alloc true z_3 58⟩, oS 4 7 49, oM 8 50])
  (.seq (.seq (.ops [oM 51 8, ⟨some 52, none, .eqNl true true (.t 51)⟩])
  (.cond (.t 52)
  (.seq (.ops [⟨some 53, none, .build z_1 []⟩, oM 54 8, oS 7 2 53, oM 3 54])
  .ret)
  .skip))
  (.seq (.ops [⟨some 55, none, .load true 8 (.t 1)⟩, oF 56 0 7, oL 57 56, oF 58 1 7, oL 59 58, ⟨some 60, none, .callF true 27 [(.t 55), (.t 57), (.t 59)]⟩, oS 7 2 60, ⟨some 3, none, .mov (.c .nili)⟩])
  .ret)))
  (.seq (.ops [⟨some 62, none, .bin .eql (.t 12) (.c (.int .u8 1))⟩, oM 61 62])
  (.cond (.t 61)
  (.seq (.ops [oF 64 7 1, oL 65 64, ⟨some 66, none, .callF true 28 [(.t 65)]⟩, oM 63 66, oE 67 63 0, oE 68 63 1, ⟨some 9, none, .alloc true z_5 67⟩, oS 7 9 67, oM 10 68])
  (.seq (.seq (.ops [oM 69 10, ⟨some 70, none, .eqNl true true (.t 69)⟩])
  (.cond (.t 70)
  (.seq (.ops [⟨some 71, none, .build z_1 []⟩, oM 72 10, oS 7 2 71, oM 3 72])
  .ret)
  .skip))
  (.seq (.ops [⟨some 73, none, .load true 8 (.t 1)⟩, oF 74 0 9, oL 75 74, ⟨some 76, none, .load true 7 (.t 9)⟩, ⟨some 77, none, .callF true 30 [(.t 76)]⟩, ⟨some 78, none, .callF true 29 [(.t 73), (.t 75), (.t 77)]⟩, oE 79 78 0, oE 80 78 1, oS 7 2 79, oM 3 80])
  .ret)))
  .skip))))))))
  (.seq (.ops [⟨some 81, none, .build z_1 []⟩, ⟨some 82, none, .callF true 31 []⟩, oS 7 2 81, oM 3 82])
  .ret)))⟩
/- vizard/vizardref21.Read -/
def I8 : Fn_ := ⟨1, 94, [(2, some (true, 7)), (3, some (true, 2))],
  (.seq (.ops [⟨some 1, none, .boxR true 8 29 (.t 0)⟩, ⟨some 2, none, .alloc true z_1 41⟩, ⟨some 3, none, .alloc true z_2 45⟩])
  (.seq (.seq (.ops [oF 13 4 1, oL 14 13])
  (.block 0 (some [1, 2, 3, 14]) (.seq (.ops [⟨some 16, none, .bin .eql (.t 14) (.c (.int .u8 6))⟩, oM 15 16])
  (.cond (.t 15)
  (.seq (.ops [oF 18 7 1, oL 19 18, oF 20 5 1, oL 21 20, oF 22 6 1, oL 23 22, ⟨some 24, none, .callF true 32 [(.t 19), (.t 21), (.t 23)]⟩, oM 17 24, oE 25 17 0, oE 26 17 1, ⟨some 4, none, .alloc true z_6 83⟩, ⟨some 5, none, .alloc true z_2 45⟩, oS 4 4 25, oS 2 5 26])
  (.seq (.seq (.ops [oF 27 1 5, oL 28 27, ⟨some 29, none, .bin .neq (.t 28) (.c (.int .i64 0))⟩])
  (.cond (.t 29)
  (.seq (.ops [⟨some 30, none, .build z_1 []⟩, ⟨some 31, none, .loadS 3 true 2 (.t 5)⟩, ⟨none, none, .storeS 0 7 (.t 2) (.t 30)⟩, oS 2 3 31])
  .ret)
  .skip))
  (.seq (.ops [⟨some 32, none, .load true 8 (.t 1)⟩, oF 33 0 4, oL 34 33, oF 35 1 4, oL 36 35, ⟨some 37, none, .callF true 33 [(.t 32), (.t 34), (.t 36)]⟩, ⟨some 6, none, .alloc true z_1 41⟩, oS 7 6 37])
  (.seq (.ops [oF 38 2 4, oL 39 38, oF 40 5 6, oS 1 40 39])
  (.seq (.ops [⟨some 41, none, .load true 7 (.t 6)⟩, ⟨some 42, none, .loadS 3 true 2 (.t 5)⟩, ⟨none, none, .storeS 0 7 (.t 2) (.t 41)⟩, oS 2 3 42])
  .ret)))))
  (.seq (.ops [⟨some 44, none, .bin .eql (.t 14) (.c (.int .u8 17))⟩, oM 43 44])
  (.cond (.t 43)
  (.seq (.ops [oF 46 7 1, oL 47 46, oF 48 5 1, oL 49 48, oF 50 6 1, oL 51 50, ⟨some 52, none, .callF true 34 [(.t 47), (.t 49), (.t 51)]⟩, oM 45 52, oE 53 45 0, oE 54 45 1, ⟨some 7, none, .alloc true z_3 87⟩, ⟨some 8, none, .alloc true z_2 45⟩, oS 4 7 53, oS 2 8 54])
  (.seq (.seq (.ops [oF 55 1 8, oL 56 55, ⟨some 57, none, .bin .neq (.t 56) (.c (.int .i64 0))⟩])
  (.cond (.t 57)
  (.seq (.ops [⟨some 58, none, .build z_1 []⟩, ⟨some 59, none, .loadS 3 true 2 (.t 8)⟩, ⟨none, none, .storeS 0 7 (.t 2) (.t 58)⟩, oS 2 3 59])
  .ret)
  .skip))
  (.seq (.ops [⟨some 60, none, .load true 8 (.t 1)⟩, oF 61 0 7, oL 62 61, oF 63 1 7, oL 64 63, ⟨some 65, none, .callF true 33 [(.t 60), (.t 62), (.t 64)]⟩, ⟨some 66, none, .loadS 3 true 2 (.t 8)⟩, ⟨none, none, .storeS 0 7 (.t 2) (.t 65)⟩, oS 2 3 66])
  .ret)))
  (.seq (.ops [⟨some 68, none, .bin .eql (.t 14) (.c (.int .u8 1))⟩, oM 67 68])
  (.cond (.t 67)
  (.seq (.ops [oF 70 7 1, oL 71 70, ⟨some 72, none, .callF true 35 [(.t 71)]⟩, oM 69 72, oE 73 69 0, oE 74 69 1, ⟨some 9, none, .alloc true z_5 90⟩, ⟨some 10, none, .alloc true z_2 45⟩, oS 7 9 73, oS 2 10 74])
  (.seq (.seq (.ops [oF 75 1 10, oL 76 75, ⟨some 77, none, .bin .neq (.t 76) (.c (.int .i64 0))⟩])
  (.cond (.t 77)
  (.seq (.ops [⟨some 78, none, .build z_1 []⟩, ⟨some 79, none, .loadS 3 true 2 (.t 10)⟩, ⟨none, none, .storeS 0 7 (.t 2) (.t 78)⟩, oS 2 3 79])
  .ret)
  .skip))
  (.seq (.ops [⟨some 81, none, .load true 8 (.t 1)⟩, oF 82 0 9, oL 83 82, ⟨some 84, none, .load true 7 (.t 9)⟩, ⟨some 85, none, .callF true 37 [(.t 84)]⟩, ⟨some 86, none, .callF true 36 [(.t 81), (.t 83), (.t 85)]⟩, oM 80 86, oE 87 80 0, oE 88 80 1, ⟨some 11, none, .alloc true z_1 41⟩, oS 7 11 87, oM 12 88])
  (.seq (.ops [oM 89 12])
  (.cond (.t 89)
  (.seq (.ops [⟨some 90, none, .load true 7 (.t 11)⟩, ⟨some 91, none, .loadS 3 true 2 (.t 10)⟩, ⟨none, none, .storeS 0 7 (.t 2) (.t 90)⟩, oS 2 3 91])
  .ret)
  .skip)))))
  .skip))))))))
  (.seq (.ops [⟨some 92, none, .build z_1 []⟩, ⟨some 93, none, .callF true 38 []⟩, oS 7 2 92, oS 2 3 93])
  .ret)))⟩
/- vizard/turn.Inner -/
def I9 : Fn_ := ⟨1, 21, [(2, some (true, 7)), (3, none)],
  (.seq (.ops [⟨some 1, none, .boxR true 8 26 (.t 0)⟩, ⟨some 2, none, .alloc true z_1 34⟩, ⟨some 3, none, .mov (.c .nili)⟩])
  (.seq (.ops [⟨some 8, none, .load true 8 (.t 1)⟩, ⟨some 9, none, .callF true 39 [(.t 8)]⟩, oM 7 9, oE 10 7 0, oE 11 7 1, oE 12 7 2, ⟨some 4, none, .alloc true z_5 67⟩, ⟨some 5, none, .alloc true z_0 26⟩, oS 7 4 10, oS 8 5 11, oM 6 12])
  (.seq (.seq (.ops [oM 13 6, ⟨some 14, none, .eqNl true true (.t 13)⟩])
  (.cond (.t 14)
  (.seq (.ops [⟨some 15, none, .build z_1 []⟩, oM 16 6, oS 7 2 15, oM 3 16])
  .ret)
  .skip))
  (.seq (.ops [⟨some 17, none, .load true 8 (.t 5)⟩, ⟨some 18, none, .callF true 40 [(.t 17)]⟩, oE 19 18 0, oE 20 18 1, oS 7 2 19, oM 3 20])
  .ret))))⟩
/- vizard/vizardref21.Inner -/
def I10 : Fn_ := ⟨1, 77, [(2, some (true, 7)), (3, some (true, 2))],
  (.seq (.ops [⟨some 1, none, .boxR true 8 29 (.t 0)⟩, ⟨some 2, none, .alloc true z_1 41⟩, ⟨some 3, none, .alloc true z_2 45⟩])
  (.seq (.seq (.ops [oF 9 4 1, oL 10 9, ⟨some 11, none, .bin .neq (.t 10) (.c (.int .u8 1))⟩])
  (.cond (.t 11)
  (.seq (.ops [⟨some 12, none, .build z_1 []⟩, ⟨some 13, none, .callF true 38 []⟩, oS 7 2 12, oS 2 3 13])
  .ret)
  .skip))
  (.seq (.ops [oF 15 7 1, oL 16 15, ⟨some 17, none, .callF true 35 [(.t 16)]⟩, oM 14 17, oE 18 14 0, oE 19 14 1, ⟨some 4, none, .alloc true z_5 90⟩, ⟨some 5, none, .alloc true z_2 45⟩, oS 7 4 18, oS 2 5 19])
  (.seq (.seq (.ops [oF 20 1 5, oL 21 20, ⟨some 22, none, .bin .neq (.t 21) (.c (.int .i64 0))⟩])
  (.cond (.t 22)
  (.seq (.ops [⟨some 23, none, .build z_1 []⟩, ⟨some 24, none, .loadS 3 true 2 (.t 5)⟩, ⟨none, none, .storeS 0 7 (.t 2) (.t 23)⟩, oS 2 3 24])
  .ret)
  .skip))
  (.seq (.ops [⟨some 26, none, .load true 7 (.t 4)⟩, ⟨some 27, none, .callF true 41 [(.t 26)]⟩, oM 25 27, oE 28 25 0, oE 29 25 1, ⟨some 6, none, .alloc true z_0 29⟩, oS 8 6 28, oS 2 5 29])
  (.seq (.seq (.ops [oF 30 1 5, oL 31 30, ⟨some 32, none, .bin .neq (.t 31) (.c (.int .i64 0))⟩])
  (.cond (.t 32)
  (.seq (.ops [⟨some 33, none, .build z_1 []⟩, ⟨some 34, none, .loadS 3 true 2 (.t 5)⟩, ⟨none, none, .storeS 0 7 (.t 2) (.t 33)⟩, oS 2 3 34])
  .ret)
  .skip))
  (.seq (.seq (.ops [oF 35 4 6, oL 36 35, ⟨some 37, none, .bin .eql (.t 36) (.c (.int .u8 6))⟩, oM 38 37, gF 39 38 false 4 6, gL 40 38 false 39, ⟨some 41, (some (38, false)), .bin .eql (.t 40) (.c (.int .u8 17))⟩, oT 42 38 41])
  (.cond (.t 42)
  (.seq (.ops [⟨some 43, none, .load true 8 (.t 6)⟩, oF 44 7 6, oL 45 44, ⟨some 46, none, .callF true 42 [(.t 45)]⟩, ⟨some 47, none, .conv .u16 (.t 46)⟩, oF 48 7 6, oL 49 48, ⟨some 50, none, .slice 1 (.t 49) (some (.c (.int .i64 2))) none⟩, ⟨some 51, none, .callF true 42 [(.t 50)]⟩, ⟨some 52, none, .conv .u16 (.t 51)⟩, ⟨some 53, none, .callF true 33 [(.t 43), (.t 47), (.t 52)]⟩, ⟨some 54, none, .loadS 3 true 2 (.t 5)⟩, ⟨none, none, .storeS 0 7 (.t 2) (.t 53)⟩, oS 2 3 54])
  .ret)
  .skip))
  (.seq (.seq (.ops [oF 55 4 6, oL 56 55, ⟨some 57, none, .bin .eql (.t 56) (.c (.int .u8 1))⟩])
  (.cond (.t 57)
  (.seq (.ops [⟨some 59, none, .load true 8 (.t 6)⟩, oF 60 7 6, oL 61 60, ⟨some 62, none, .iaddr 1 (.t 61) (.c (.int .i64 0))⟩, oL 63 62, oF 64 7 6, oL 65 64, ⟨some 66, none, .slice 1 (.t 65) (some (.c (.int .i64 4))) none⟩, ⟨some 67, none, .callF true 42 [(.t 66)]⟩, ⟨some 68, none, .conv .u16 (.t 67)⟩, ⟨some 69, none, .callF true 36 [(.t 59), (.t 63), (.t 68)]⟩, oM 58 69, oE 70 58 0, oE 71 58 1, ⟨some 7, none, .alloc true z_1 41⟩, oS 7 7 70, oM 8 71])
  (.seq (.ops [oM 72 8])
  (.cond (.t 72)
  (.seq (.ops [⟨some 73, none, .load true 7 (.t 7)⟩, ⟨some 74, none, .loadS 3 true 2 (.t 5)⟩, ⟨none, none, .storeS 0 7 (.t 2) (.t 73)⟩, oS 2 3 74])
  .ret)
  .skip)))
  .skip))
  (.seq (.ops [⟨some 75, none, .build z_1 []⟩, ⟨some 76, none, .callF true 38 []⟩, oS 7 2 75, oS 2 3 76])
  .ret)))))))))⟩
/- vizard/turn.Hop -/
def I11 : Fn_ := ⟨1, 17, [(2, some (true, 8)), (3, none)],
  (.seq (.ops [⟨some 1, none, .box true 26 (.t 0)⟩, ⟨some 2, none, .alloc true z_0 26⟩, ⟨some 3, none, .mov (.c (.bool false))⟩])
  (.seq (.seq (.ops [oF 4 3 1, oL 5 4, ⟨some 6, none, .bin .leq (.t 5) (.c (.int .u8 1))⟩])
  (.cond (.t 6)
  (.seq (.ops [⟨some 7, none, .build z_0 []⟩, oS 8 2 7, ⟨some 3, none, .mov (.c (.bool false))⟩])
  .ret)
  .skip))
  (.seq (.ops [oF 8 3 1, oL 9 8, ⟨some 10, none, .bin .sub (.t 9) (.c (.int .u8 1))⟩, oF 11 3 1, oS 1 11 10])
  (.seq (.ops [oF 12 7 1, oL 13 12, ⟨some 14, none, .callF true 43 [(.t 13)]⟩, oF 15 7 1, oS 1 15 14])
  (.seq (.ops [⟨some 16, none, .load true 8 (.t 1)⟩, oS 8 2 16, ⟨some 3, none, .mov (.c (.bool true))⟩])
  .ret)))))⟩
/- vizard/vizardref21.Hop -/
def I12 : Fn_ := ⟨1, 13, [(2, some (true, 8)), (3, none)],
  (.seq (.ops [⟨some 1, none, .box true 29 (.t 0)⟩, ⟨some 2, none, .alloc true z_0 29⟩, ⟨some 3, none, .mov (.c (.bool false))⟩])
  (.seq (.seq (.ops [oF 4 3 1, oL 5 4, ⟨some 6, none, .bin .lss (.t 5) (.c (.int .u8 2))⟩])
  (.cond (.t 6)
  (.seq (.ops [⟨some 7, none, .build z_0 []⟩, oS 8 2 7, ⟨some 3, none, .mov (.c (.bool false))⟩])
  .ret)
  .skip))
  (.seq (.ops [oF 8 3 1, oL 9 8, ⟨some 10, none, .bin .sub (.t 9) (.c (.int .u8 1))⟩, oF 11 3 1, oS 1 11 10])
  (.seq (.ops [⟨some 12, none, .load true 8 (.t 1)⟩, oS 8 2 12, ⟨some 3, none, .mov (.c (.bool true))⟩])
  .ret))))⟩
/- vizard/vizardlaw05.Is -/
def I13 : Fn_ := ⟨2, 27, [(4, none)],
  (.seq (.ops [⟨some 3, none, .box true 45 (.t 1)⟩, ⟨some 4, none, .mov (.c (.bool false))⟩])
  (.seq (.seq (.ops [oM 5 0, ⟨some 6, none, .eqNl true false (.t 5)⟩])
  (.cond (.t 6)
  (.seq (.ops [oF 7 1 3, oL 8 7, ⟨some 9, none, .bin .eql (.t 8) (.c (.int .i64 0))⟩, oM 4 9])
  .ret)
  .skip))
  (.seq (.ops [oF 10 1 3, oL 11 10, ⟨some 12, none, .bin .neq (.t 11) (.c (.int .i64 0))⟩, oM 13 12, gM 14 13 true 0, ⟨some 15, (some (13, true)), .callF true 44 [(.t 14)]⟩, gF 16 13 true 1 3, gL 17 13 true 16, ⟨some 18, (some (13, true)), .bin .eql (.t 15) (.t 17)⟩, oN 19 13 18, oM 20 19, gM 21 20 true 0, ⟨some 22, (some (20, true)), .callF true 23 [(.t 21)]⟩, ⟨some 23, (some (20, true)), .load true 2 (.t 3)⟩, ⟨some 24, (some (20, true)), .callF true 45 [(.t 23)]⟩, ⟨some 25, (some (20, true)), .bin .eql (.t 22) (.t 24)⟩, oN 26 20 25, oM 4 26])
  .ret)))⟩
/- vizard/vizardlaw21.Ends -/
def I14 : Fn_ := ⟨1, 16, [(2, some (true, 7))],
  (.seq (.ops [⟨some 1, none, .boxR true 7 34 (.t 0)⟩, ⟨some 2, none, .alloc true z_1 41⟩])
  (.seq (.ops [oF 3 0 1, oL 4 3, ⟨some 5, none, .faddr true 1 2 (.t 1)⟩, ⟨some 6, none, .load true 2 (.t 5)⟩, ⟨some 7, none, .callF true 46 [(.t 6)]⟩, ⟨some 8, none, .faddr true 3 2 (.t 1)⟩, ⟨some 9, none, .load true 2 (.t 8)⟩, ⟨some 10, none, .callF true 46 [(.t 9)]⟩, oF 11 5 1, oL 12 11, oF 13 6 1, oL 14 13, ⟨some 15, none, .build z_1 [(0, 1, (.t 4)), (1, 2, (.t 7)), (3, 2, (.t 10)), (5, 1, (.t 12)), (6, 1, (.t 14))]⟩, oS 7 2 15])
  .ret))⟩
/- vizard/vizardref07.Same -/
def I15 : Fn_ := ⟨2, 61, [(4, none)],
  (.seq (.ops [⟨some 2, none, .boxR true 8 29 (.t 0)⟩, ⟨some 3, none, .boxR true 8 29 (.t 1)⟩, ⟨some 4, none, .mov (.c (.bool false))⟩])
  (.seq (.ops [oF 5 0 2, oL 6 5, oF 7 0 3, oL 8 7, ⟨some 9, none, .bin .eql (.t 6) (.t 8)⟩, oM 10 9, gF 11 10 true 1 2, gL 12 10 true 11, gF 13 10 true 1 3, gL 14 10 true 13, ⟨some 15, (some (10, true)), .bin .eql (.t 12) (.t 14)⟩, oN 16 10 15, oM 17 16, gF 18 17 true 2 2, gL 19 17 true 18, gF 20 17 true 2 3, gL 21 17 true 20, ⟨some 22, (some (17, true)), .binB .eql (.t 19) (.t 21)⟩, oN 23 17 22, oM 24 23, gF 25 24 true 3 2, gL 26 24 true 25, gF 27 24 true 3 3, gL 28 24 true 27, ⟨some 29, (some (24, true)), .bin .eql (.t 26) (.t 28)⟩, oN 30 24 29, oM 31 30, gF 32 31 true 4 2, gL 33 31 true 32, gF 34 31 true 4 3, gL 35 31 true 34, ⟨some 36, (some (31, true)), .bin .eql (.t 33) (.t 35)⟩, oN 37 31 36, oM 38 37, gF 39 38 true 5 2, gL 40 38 true 39, gF 41 38 true 5 3, gL 42 38 true 41, ⟨some 43, (some (38, true)), .bin .eql (.t 40) (.t 42)⟩, oN 44 38 43, oM 45 44, gF 46 45 true 6 2, gL 47 45 true 46, gF 48 45 true 6 3, gL 49 45 true 48, ⟨some 50, (some (45, true)), .bin .eql (.t 47) (.t 49)⟩, oN 51 45 50, oM 52 51, gF 53 52 true 7 2, gL 54 52 true 53, ⟨some 55, (some (52, true)), .toStr (.t 54)⟩, gF 56 52 true 7 3, gL 57 52 true 56, ⟨some 58, (some (52, true)), .toStr (.t 57)⟩, ⟨some 59, (some (52, true)), .bin .eql (.t 55) (.t 58)⟩, oN 60 52 59, oM 4 60])
  .ret))⟩
/- vizard/vizardref00.SameBytes -/
def B16_0 : C := (.seq (.seq (.ops [oM 11 5, oM 12 0, ⟨some 13, none, .len (.t 12)⟩, ⟨some 14, none, .bin .lss (.t 11) (.t 13)⟩])
  (.cond (.t 14)
  .skip
  (.exit 0)))
  (.seq (.block 1 (some [0, 1, 5]) (.seq (.ops [oM 17 0, oM 18 5, ⟨some 19, none, .iaddr 1 (.t 17) (.t 18)⟩, oL 20 19, oM 21 1, oM 22 5, ⟨some 23, none, .iaddr 1 (.t 21) (.t 22)⟩, oL 24 23, ⟨some 25, none, .bin .neq (.t 20) (.t 24)⟩])
  (.cond (.t 25)
  (.seq (.ops [⟨some 4, none, .mov (.c (.bool false))⟩])
  .ret)
  .skip)))
  (.ops [oM 15 5, ⟨some 16, none, .bin .add (.t 15) (.c (.int .i64 1))⟩, oM 5 16])))
def L16_0 : C := .loop (some [0, 1, 5]) B16_0
theorem L16_0_eq {E : Env} (x : St) : ev E L16_0 x = andThen (ev E B16_0 (restr (some [0, 1, 5]) x)) (ev E L16_0) := ev_loop _ _ x
theorem L16_0_lp {E : Env} (s : Slots) (h : Heap) : ev E L16_0 ⟨s, h⟩ = lp E L16_0 (pickS s [0, 1, 5]) h := lp_of L16_0_eq s h
theorem L16_0_go {E : Env} (s : Slots) (h : Heap) : lp E L16_0 s h = andThen (ev E B16_0 ⟨pickS s [0, 1, 5], h⟩) (ev E L16_0) := lp_go L16_0_eq s h
noncomputable def T16_0 (E : Env) (o : Out) : Option (AV × Heap) := outR [(4, none)] (andThen (endBlock 0 (some [0, 1, 5]) (o)) (ev E (.seq (.ops [⟨some 4, none, .mov (.c (.bool true))⟩])
  .ret)))
def I16 : Fn_ := ⟨2, 26, [(4, none)],
  (.seq (.ops [⟨some 4, none, .mov (.c (.bool false))⟩])
  (.seq (.seq (.ops [oM 6 0, ⟨some 7, none, .len (.t 6)⟩, oM 8 1, ⟨some 9, none, .len (.t 8)⟩, ⟨some 10, none, .bin .neq (.t 7) (.t 9)⟩])
  (.cond (.t 10)
  (.seq (.ops [⟨some 4, none, .mov (.c (.bool false))⟩])
  .ret)
  .skip))
  (.seq (.seq (.ops [⟨some 5, none, .mov (.c (.int .i64 0))⟩])
  (.block 0 (some [0, 1, 5]) L16_0))
  (.seq (.ops [⟨some 4, none, .mov (.c (.bool true))⟩])
  .ret))))⟩
/- (vizard/udp.Datagram).Bytes -/
def I17 : Fn_ := ⟨3, 61, [(6, none), (7, none)],
  (.seq (.ops [⟨some 3, none, .boxR true 4 58 (.t 0)⟩, ⟨some 6, none, .mov (.c (.rs false 1 []))⟩, ⟨some 7, none, .mov (.c .nili)⟩])
  (.seq (.seq (.ops [oF 15 3 3, oL 16 15, ⟨some 17, none, .len (.t 16)⟩, ⟨some 18, none, .bin .gtr (.t 17) (.c (.int .i64 1472))⟩])
  (.cond (.t 18)
  (.seq (.ops [⟨some 19, none, .callF true 47 [(.c (.int .i64 1)), (.c (.int .i64 11))]⟩, ⟨some 6, none, .mov (.c (.rs false 1 []))⟩, oM 7 19])
  .ret)
  .skip))
  (.seq (.ops [oF 20 3 3, oL 21 20, ⟨some 22, none, .len (.t 21)⟩, ⟨some 23, none, .bin .add (.c (.int .i64 8)) (.t 22)⟩, oM 8 23])
  (.seq (.ops [oF 25 0 3, oL 26 25, ⟨some 27, none, .conv .u64 (.t 26)⟩, oF 28 1 3, oL 29 28, ⟨some 30, none, .conv .u64 (.t 29)⟩, oM 31 8, ⟨some 32, none, .conv .u64 (.t 31)⟩, ⟨some 33, none, .buildR 1 108 [(.t 27), (.t 30), (.t 32), (.c (.int .u64 0))]⟩, ⟨some 34, none, .callF false 48 [(.c (.int .i64 2)), (.t 33)]⟩, oM 24 34, oE 35 24 0, oE 36 24 1, oM 9 35, oM 10 36])
  (.seq (.ops [oM 37 9, oF 38 3 3, oL 39 38, ⟨some 40, none, .append 1 1 5 (.t 37) (.t 39)⟩, oM 11 40])
  (.seq (.seq (.ops [oF 41 2 3, oL 42 41])
  (.cond (.t 42)
  (.seq (.ops [oM 43 11, oM 6 43, ⟨some 7, none, .mov (.c .nili)⟩])
  .ret)
  .skip))
  (.seq (.ops [oM 44 1, oM 45 2, oM 46 8, ⟨some 47, none, .callF true 50 [(.t 44), (.t 45), (.t 46)]⟩, oM 48 11, ⟨some 49, none, .buildSl 1 24 [(.t 47), (.t 48)]⟩, ⟨some 50, none, .callF true 49 [(.t 49)]⟩, oM 12 50])
  (.seq (.seq (.ops [oM 51 12, ⟨some 52, none, .bin .eql (.t 51) (.c (.int .u16 0))⟩])
  (.cond (.t 52)
  (.ops [⟨some 12, none, .mov (.c (.int .u16 65535))⟩])
  .skip))
  (.seq (.ops [oM 54 11, oM 55 12, ⟨some 56, none, .conv .u64 (.t 55)⟩, ⟨some 57, none, .callF false 51 [(.t 54), (.c (.int .i64 6)), (.c (.int .i64 2)), (.t 56)]⟩, oM 53 57, oE 58 53 0, oE 59 53 1, oM 13 58, oM 14 59])
  (.seq (.ops [oM 60 13, oM 6 60, ⟨some 7, none, .mov (.c .nili)⟩])
  .ret))))))))))⟩
/- vizard/turn.Sender -/
def I18 : Fn_ := ⟨2, 48, [(4, some (true, 8)), (5, none)],
  (.seq (.ops [⟨some 2, none, .box true 26 (.t 0)⟩, ⟨some 3, none, .boxR true 2 32 (.t 1)⟩, ⟨some 4, none, .alloc true z_0 26⟩, ⟨some 5, none, .mov (.c .nili)⟩])
  (.seq (.ops [⟨some 9, none, .load true 8 (.t 2)⟩, ⟨some 10, none, .callF true 7 [(.t 9)]⟩, oM 8 10, oE 11 8 0, oE 12 8 1, ⟨some 6, none, .alloc true z_1 34⟩, oS 7 6 11, oM 7 12])
  (.seq (.seq (.ops [oM 13 7, ⟨some 14, none, .eqNl true true (.t 13)⟩])
  (.cond (.t 14)
  (.seq (.ops [⟨some 15, none, .build z_0 []⟩, oM 16 7, oS 8 4 15, oM 5 16])
  .ret)
  .skip))
  (.seq (.block 0 (some [2, 3, 4, 6]) (.seq (.ops [oF 25 0 6, oL 26 25, ⟨some 27, none, .bin .neq (.t 26) (.c (.int .u8 1))⟩, oM 24 27])
  (.cond (.t 24)
  (.ops [⟨some 28, none, .load true 8 (.t 2)⟩, ⟨some 29, none, .faddr true 1 2 (.t 6)⟩, ⟨some 30, none, .load true 2 (.t 29)⟩, ⟨some 31, none, .load true 2 (.t 3)⟩, ⟨some 32, none, .callF true 52 [(.t 28), (.c (.int .i64 0)), (.t 30), (.t 31)]⟩, oF 33 7 2, oS 1 33 32])
  (.seq (.ops [oF 35 6 6, oL 36 35, ⟨some 37, none, .bin .eql (.t 36) (.c (.int .u8 8))⟩, oM 34 37])
  (.cond (.t 34)
  (.ops [oF 38 7 2, oL 39 38, oF 40 1 3, oL 41 40, ⟨some 42, none, .callF true 53 [(.t 39), (.t 41)]⟩, oF 43 7 2, oS 1 43 42])
  (.ops [oF 17 7 2, oL 18 17, ⟨some 19, none, .faddr true 3 2 (.t 6)⟩, oF 20 1 19, oL 21 20, ⟨some 22, none, .callF true 53 [(.t 18), (.t 21)]⟩, oF 23 7 2, oS 1 23 22]))))))
  (.seq (.ops [oF 44 0 3, oL 45 44, oF 46 5 2, oS 1 46 45])
  (.seq (.ops [⟨some 47, none, .load true 8 (.t 2)⟩, oS 8 4 47, ⟨some 5, none, .mov (.c .nili)⟩])
  .ret))))))⟩
/- vizard/udp.Parse -/
def I19 : Fn_ := ⟨3, 64, [(6, some (true, 4)), (7, none)],
  (.seq (.ops [⟨some 6, none, .alloc true z_3 58⟩, ⟨some 7, none, .mov (.c .nili)⟩])
  (.seq (.seq (.ops [oM 10 0, ⟨some 11, none, .len (.t 10)⟩, ⟨some 12, none, .bin .lss (.t 11) (.c (.int .i64 8))⟩])
  (.cond (.t 12)
  (.seq (.ops [⟨some 13, none, .build z_3 []⟩, ⟨some 14, none, .callF true 47 [(.c (.int .i64 1)), (.c (.int .i64 12))]⟩, oS 4 6 13, oM 7 14])
  .ret)
  .skip))
  (.seq (.ops [oM 15 0, ⟨some 16, none, .callF true 54 [(.t 15), (.c (.int .i64 4))]⟩, ⟨some 17, none, .conv .i64 (.t 16)⟩, oM 8 17])
  (.seq (.block 0 (some [0, 1, 2, 6, 8]) (.seq (.ops [oM 19 8, ⟨some 20, none, .bin .lss (.t 19) (.c (.int .i64 8))⟩, oM 18 20])
  (.cond (.t 18)
  (.seq (.ops [⟨some 21, none, .build z_3 []⟩, ⟨some 22, none, .callF true 47 [(.c (.int .i64 1)), (.c (.int .i64 10))]⟩, oS 4 6 21, oM 7 22])
  .ret)
  (.seq (.ops [oM 24 8, oM 25 0, ⟨some 26, none, .len (.t 25)⟩, ⟨some 27, none, .bin .gtr (.t 24) (.t 26)⟩, oM 23 27])
  (.cond (.t 23)
  (.seq (.ops [⟨some 28, none, .build z_3 []⟩, ⟨some 29, none, .callF true 47 [(.c (.int .i64 1)), (.c (.int .i64 12))]⟩, oS 4 6 28, oM 7 29])
  .ret)
  (.seq (.ops [oM 31 8, ⟨some 32, none, .bin .gtr (.t 31) (.c (.int .i64 1480))⟩, oM 30 32])
  (.cond (.t 30)
  (.seq (.ops [⟨some 33, none, .build z_3 []⟩, ⟨some 34, none, .callF true 47 [(.c (.int .i64 1)), (.c (.int .i64 11))]⟩, oS 4 6 33, oM 7 34])
  .ret)
  .skip)))))))
  (.seq (.ops [oM 35 0, oM 36 8, ⟨some 37, none, .slice 1 (.t 35) none (some (.t 36))⟩, oM 0 37])
  (.seq (.ops [oM 38 0, ⟨some 39, none, .callF true 54 [(.t 38), (.c (.int .i64 6))]⟩, ⟨some 40, none, .bin .eql (.t 39) (.c (.int .u16 0))⟩, oM 9 40])
  (.seq (.seq (.ops [oM 41 9, ⟨some 42, none, .un .not (.t 41)⟩, oM 43 42, gM 44 43 true 1, gM 45 43 true 2, gM 46 43 true 8, ⟨some 47, (some (43, true)), .callF true 50 [(.t 44), (.t 45), (.t 46)]⟩, gM 48 43 true 0, ⟨some 49, (some (43, true)), .buildR 1 24 [(.t 47), (.t 48)]⟩, ⟨some 50, (some (43, true)), .callF true 55 [(.t 49)]⟩, ⟨some 51, (some (43, true)), .un .not (.t 50)⟩, oN 52 43 51])
  (.cond (.t 52)
  (.seq (.ops [⟨some 53, none, .build z_3 []⟩, ⟨some 54, none, .callF true 47 [(.c (.int .i64 2)), (.c (.int .i64 13))]⟩, oS 4 6 53, oM 7 54])
  .ret)
  .skip))
  (.seq (.ops [oM 55 0, ⟨some 56, none, .callF true 54 [(.t 55), (.c (.int .i64 0))]⟩, oM 57 0, ⟨some 58, none, .callF true 54 [(.t 57), (.c (.int .i64 2))]⟩, oM 59 9, oM 60 0, ⟨some 61, none, .slice 1 (.t 60) (some (.c (.int .i64 8))) none⟩, ⟨some 62, none, .callF false 43 [(.t 61)]⟩, ⟨some 63, none, .build z_3 [(0, 1, (.t 56)), (1, 1, (.t 58)), (2, 1, (.t 59)), (3, 1, (.t 62))]⟩, oS 4 6 63, ⟨some 7, none, .mov (.c .nili)⟩])
  .ret))))))))⟩
/- vizard/icmp.Error -/
def I20 : Fn_ := ⟨3, 23, [(6, some (true, 7))],
  (.seq (.ops [⟨some 5, none, .boxR true 8 26 (.t 2)⟩, ⟨some 6, none, .alloc true z_5 67⟩])
  (.seq (.ops [⟨some 8, none, .load true 8 (.t 5)⟩, ⟨some 9, none, .callF true 57 [(.t 8)]⟩, oF 10 7 5, oL 11 10, oF 12 7 5, oL 13 12, ⟨some 14, none, .len (.t 13)⟩, ⟨some 15, none, .mm false [(.t 14), (.c (.int .i64 8))]⟩, ⟨some 16, none, .slice 1 (.t 11) none (some (.t 15))⟩, ⟨some 17, none, .buildR 1 24 [(.t 9), (.t 16)]⟩, ⟨some 18, none, .callF true 56 [(.t 17)]⟩, oM 7 18])
  (.seq (.ops [oM 19 0, oM 20 1, oM 21 7, ⟨some 22, none, .build z_5 [(0, 1, (.t 19)), (1, 1, (.t 20)), (6, 1, (.t 21))]⟩, oS 7 6 22])
  .ret)))⟩
/- (vizard/icmp.Message).Bytes -/
def I21 : Fn_ := ⟨1, 33, [(2, none), (3, none)],
  (.seq (.ops [⟨some 1, none, .boxR true 7 67 (.t 0)⟩, ⟨some 2, none, .mov (.c (.rs false 1 []))⟩, ⟨some 3, none, .mov (.c .nili)⟩])
  (.seq (.seq (.ops [oF 7 6 1, oL 8 7, ⟨some 9, none, .len (.t 8)⟩, ⟨some 10, none, .bin .gtr (.t 9) (.c (.int .i64 1472))⟩])
  (.cond (.t 10)
  (.seq (.ops [⟨some 11, none, .callF true 47 [(.c (.int .i64 1)), (.c (.int .i64 11))]⟩, ⟨some 2, none, .mov (.c (.rs false 1 []))⟩, oM 3 11])
  .ret)
  .skip))
  (.seq (.ops [oF 12 0 1, oL 13 12, oF 14 1 1, oL 15 14, ⟨some 16, none, .buildR 1 5 [(.t 13), (.t 15), (.c (.int .u8 0)), (.c (.int .u8 0))]⟩, ⟨some 17, none, .faddr true 2 4 (.t 1)⟩, ⟨some 18, none, .sliceA 4 1 (.t 17) none none⟩, oF 19 6 1, oL 20 19, ⟨some 21, none, .buildR 1 24 [(.t 16), (.t 18), (.t 20)]⟩, ⟨some 22, none, .callF true 56 [(.t 21)]⟩, oM 4 22])
  (.seq (.ops [oM 24 4, oM 25 4, ⟨some 26, none, .buildR 1 24 [(.t 25)]⟩, ⟨some 27, none, .callF true 49 [(.t 26)]⟩, ⟨some 28, none, .conv .u64 (.t 27)⟩, ⟨some 29, none, .callF true 51 [(.t 24), (.c (.int .i64 2)), (.c (.int .i64 2)), (.t 28)]⟩, oM 23 29, oE 30 23 0, oE 31 23 1, oM 5 30, oM 6 31])
  (.seq (.ops [oM 32 5, oM 2 32, ⟨some 3, none, .mov (.c .nili)⟩])
  .ret)))))⟩
/- vizard/turn.InnerSender -/
def I22 : Fn_ := ⟨2, 11, [(4, some (true, 8)), (5, none)],
  (.seq (.ops [⟨some 2, none, .boxR true 8 26 (.t 0)⟩, ⟨some 3, none, .boxR true 2 32 (.t 1)⟩, ⟨some 4, none, .alloc true z_0 26⟩, ⟨some 5, none, .mov (.c .nili)⟩])
  (.seq (.ops [⟨some 6, none, .load true 8 (.t 2)⟩, ⟨some 7, none, .load true 2 (.t 3)⟩, ⟨some 8, none, .callF true 58 [(.t 6), (.t 7), (.c (.int .i64 12)), (.c (.int .i64 20)), (.c (.int .u8 8))]⟩, oE 9 8 0, oE 10 8 1, oS 8 4 9, oM 5 10])
  .ret))⟩
/- vizard/why.Is -/
def I24 : Fn_ := ⟨2, 13, [(4, none)],
  (.seq (.ops [⟨some 4, none, .mov (.c (.bool false))⟩])
  (.seq (.ops [oM 5 0, ⟨some 6, none, .eqNl true true (.t 5)⟩, oM 7 6, gM 8 7 true 0, gM 9 7 true 1, ⟨some 10, (some (7, true)), .mkIf 43 (.t 9)⟩, ⟨some 11, (some (7, true)), .callF false 61 [(.t 8), (.t 10)]⟩, oN 12 7 11, oM 4 12])
  .ret))⟩
/- vizard/vizardref00.Own -/
def I25 : Fn_ := ⟨1, 6, [(2, none)],
  (.seq (.ops [⟨some 2, none, .mov (.c (.rs false 1 []))⟩])
  (.seq (.ops [⟨some 3, none, .buildSl 1 5 []⟩, oM 4 0, ⟨some 5, none, .append 1 1 5 (.t 3) (.t 4)⟩, oM 2 5])
  .ret))⟩
/- vizard/tcp.Parse -/
def I26 : Fn_ := ⟨3, 47, [(6, some (true, 4)), (7, none)],
  (.seq (.ops [⟨some 6, none, .alloc true z_6 74⟩, ⟨some 7, none, .mov (.c .nili)⟩])
  (.seq (.seq (.ops [oM 13 0, ⟨some 14, none, .callF false 62 [(.t 13)]⟩, ⟨some 15, none, .callF false 47 [(.c (.int .i64 1)), (.t 14)]⟩, oM 8 15])
  (.seq (.ops [oM 16 8, ⟨some 17, none, .eqNl true true (.t 16)⟩])
  (.cond (.t 17)
  (.seq (.ops [⟨some 18, none, .build z_6 []⟩, oM 19 8, oS 4 6 18, oM 7 19])
  .ret)
  .skip)))
  (.seq (.seq (.ops [oM 20 0, oM 21 1, oM 22 2, ⟨some 23, none, .callF false 63 [(.t 20), (.t 21), (.t 22)]⟩, ⟨some 24, none, .un .not (.t 23)⟩])
  (.cond (.t 24)
  (.seq (.ops [⟨some 25, none, .build z_6 []⟩, ⟨some 26, none, .callF false 47 [(.c (.int .i64 2)), (.c (.int .i64 13))]⟩, oS 4 6 25, oM 7 26])
  .ret)
  .skip))
  (.seq (.ops [oM 28 0, ⟨some 29, none, .callF false 64 [(.t 28), (.c (.int .i64 0)), (.c (.int .i64 2))]⟩, oM 27 29, oE 30 27 0, oE 31 27 1, oM 9 30, oM 10 31])
  (.seq (.ops [oM 33 0, ⟨some 34, none, .callF false 64 [(.t 33), (.c (.int .i64 2)), (.c (.int .i64 2))]⟩, oM 32 34, oE 35 32 0, oE 36 32 1, oM 11 35, oM 12 36])
  (.seq (.ops [oM 37 9, ⟨some 38, none, .conv .u16 (.t 37)⟩, oM 39 11, ⟨some 40, none, .conv .u16 (.t 39)⟩, oM 41 0, ⟨some 42, none, .iaddrR 1 (.t 41) (.c (.int .i64 13))⟩, ⟨some 43, none, .loadR false 1 (.t 42)⟩, oM 44 0, ⟨some 45, none, .callF false 43 [(.t 44)]⟩, ⟨some 46, none, .build z_6 [(0, 1, (.t 38)), (1, 1, (.t 40)), (2, 1, (.t 43)), (3, 1, (.t 45))]⟩, oS 4 6 46, ⟨some 7, none, .mov (.c .nili)⟩])
  .ret))))))⟩
/- vizard/turn.between -/
def I27 : Fn_ := ⟨3, 18, [(6, some (true, 7))],
  (.seq (.ops [⟨some 3, none, .boxR true 8 26 (.t 0)⟩, ⟨some 6, none, .alloc true z_1 34⟩])
  (.seq (.ops [oF 7 4 3, oL 8 7, oF 9 5 3, oL 10 9, oM 11 1, ⟨some 12, none, .build z_4 [(0, 1, (.t 10)), (1, 1, (.t 11))]⟩, oF 13 6 3, oL 14 13, oM 15 2, ⟨some 16, none, .build z_4 [(0, 1, (.t 14)), (1, 1, (.t 15))]⟩, ⟨some 17, none, .build z_1 [(0, 1, (.t 8)), (1, 2, (.t 12)), (3, 2, (.t 16))]⟩, oS 7 6 17])
  .ret))⟩
/- vizard/icmp.Parse -/
def I28 : Fn_ := ⟨1, 37, [(2, some (true, 7)), (3, none)],
  (.seq (.ops [⟨some 2, none, .alloc true z_5 67⟩, ⟨some 3, none, .mov (.c .nili)⟩])
  (.seq (.block 0 (some [0, 2]) (.seq (.ops [oM 5 0, ⟨some 6, none, .len (.t 5)⟩, ⟨some 7, none, .bin .lss (.t 6) (.c (.int .i64 8))⟩, oM 4 7])
  (.cond (.t 4)
  (.seq (.ops [⟨some 8, none, .build z_5 []⟩, ⟨some 9, none, .callF true 47 [(.c (.int .i64 1)), (.c (.int .i64 12))]⟩, oS 7 2 8, oM 3 9])
  .ret)
  (.seq (.ops [oM 11 0, ⟨some 12, none, .len (.t 11)⟩, ⟨some 13, none, .bin .gtr (.t 12) (.c (.int .i64 1480))⟩, oM 10 13])
  (.cond (.t 10)
  (.seq (.ops [⟨some 14, none, .build z_5 []⟩, ⟨some 15, none, .callF true 47 [(.c (.int .i64 1)), (.c (.int .i64 11))]⟩, oS 7 2 14, oM 3 15])
  .ret)
  (.seq (.ops [oM 17 0, ⟨some 18, none, .buildR 1 24 [(.t 17)]⟩, ⟨some 19, none, .callF true 55 [(.t 18)]⟩, ⟨some 20, none, .un .not (.t 19)⟩, oM 16 20])
  (.cond (.t 16)
  (.seq (.ops [⟨some 21, none, .build z_5 []⟩, ⟨some 22, none, .callF true 47 [(.c (.int .i64 2)), (.c (.int .i64 13))]⟩, oS 7 2 21, oM 3 22])
  .ret)
  .skip)))))))
  (.seq (.ops [oM 23 0, ⟨some 24, none, .iaddr 1 (.t 23) (.c (.int .i64 0))⟩, oL 25 24, oM 26 0, ⟨some 27, none, .iaddr 1 (.t 26) (.c (.int .i64 1))⟩, oL 28 27, oM 29 0, ⟨some 30, none, .slice 1 (.t 29) (some (.c (.int .i64 4))) none⟩, ⟨some 31, none, .s2a 4 1 (.t 30)⟩, ⟨some 32, none, .load true 4 (.t 31)⟩, oM 33 0, ⟨some 34, none, .slice 1 (.t 33) (some (.c (.int .i64 8))) none⟩, ⟨some 35, none, .callF true 43 [(.t 34)]⟩, ⟨some 36, none, .build z_5 [(0, 1, (.t 25)), (1, 1, (.t 28)), (2, 4, (.t 32)), (6, 1, (.t 35))]⟩, oS 7 2 36, ⟨some 3, none, .mov (.c .nili)⟩])
  .ret)))⟩
/- vizard/turn.query -/
def I29 : Fn_ := ⟨3, 25, [(6, some (true, 7)), (7, none)],
  (.seq (.ops [⟨some 3, none, .boxR true 8 26 (.t 0)⟩, ⟨some 6, none, .alloc true z_1 34⟩, ⟨some 7, none, .mov (.c .nili)⟩])
  (.seq (.ops [⟨some 8, none, .alloc true z_1 34⟩])
  (.seq (.seq (.ops [oM 9 1])
  (.block 0 (some [1, 2, 3, 6, 8, 9]) (.seq (.ops [⟨some 13, none, .bin .eql (.t 9) (.c (.int .u8 8))⟩, oM 12 13])
  (.cond (.t 12)
  (.ops [⟨some 14, none, .load true 8 (.t 3)⟩, oM 15 2, ⟨some 16, none, .callF true 27 [(.t 14), (.t 15), (.c (.int .u16 0))]⟩, oS 7 8 16])
  (.seq (.ops [⟨some 18, none, .bin .eql (.t 9) (.c (.int .u8 0))⟩, oM 17 18])
  (.cond (.t 17)
  (.ops [⟨some 19, none, .load true 8 (.t 3)⟩, oM 20 2, ⟨some 21, none, .callF true 27 [(.t 19), (.c (.int .u16 0)), (.t 20)]⟩, oS 7 8 21])
  (.seq (.ops [⟨some 10, none, .build z_1 []⟩, ⟨some 11, none, .callF true 31 []⟩, oS 7 6 10, oM 7 11])
  .ret)))))))
  (.seq (.ops [oM 22 1, oF 23 6 8, oS 1 23 22])
  (.seq (.ops [⟨some 24, none, .load true 7 (.t 8)⟩, oS 7 6 24, ⟨some 7, none, .mov (.c .nili)⟩])
  .ret)))))⟩
/- (vizard/icmp.Message).Mark -/
def I30 : Fn_ := ⟨1, 13, [(2, none)],
  (.seq (.ops [⟨some 1, none, .boxR true 7 67 (.t 0)⟩, ⟨some 2, none, .mov (.c (.int .u16 0))⟩])
  (.seq (.ops [⟨some 6, none, .faddr true 2 4 (.t 1)⟩, ⟨some 7, none, .sliceA 4 1 (.t 6) none none⟩, ⟨some 8, none, .callF true 64 [(.t 7), (.c (.int .i64 0)), (.c (.int .i64 2))]⟩, oM 5 8, oE 9 5 0, oE 10 5 1, oM 3 9, oM 4 10])
  (.seq (.ops [oM 11 3, ⟨some 12, none, .conv .u16 (.t 11)⟩, oM 2 12])
  .ret)))⟩
/- vizard/turn.other -/
def I31 : Fn_ := ⟨0, 2, [(0, none)],
  (.seq (.ops [⟨some 0, none, .mov (.c .nili)⟩])
  (.seq (.ops [⟨some 1, none, .callF true 47 [(.c (.int .i64 16)), (.c (.int .i64 14))]⟩, oM 0 1])
  .ret))⟩
/- vizard/vizardref09.Parse -/
def I32 : Fn_ := ⟨3, 57, [(6, some (true, 4)), (7, some (true, 2))],
  (.seq (.ops [⟨some 6, none, .alloc true z_6 83⟩, ⟨some 7, none, .alloc true z_2 45⟩])
  (.seq (.seq (.ops [oM 9 0, ⟨some 10, none, .len (.t 9)⟩, ⟨some 11, none, .bin .lss (.t 10) (.c (.int .i64 20))⟩])
  (.cond (.t 11)
  (.seq (.ops [⟨some 12, none, .build z_6 []⟩, ⟨some 13, none, .callF false 65 [(.c (.int .i64 1)), (.c (.int .i64 12))]⟩, oS 4 6 12, oS 2 7 13])
  .ret)
  .skip))
  (.seq (.ops [oM 14 0, ⟨some 15, none, .iaddr 1 (.t 14) (.c (.int .i64 12))⟩, oL 16 15, ⟨some 17, none, .bin .quo (.t 16) (.c (.int .u8 16))⟩, ⟨some 18, none, .conv .i64 (.t 17)⟩, ⟨some 19, none, .bin .mul (.t 18) (.c (.int .i64 4))⟩, oM 8 19])
  (.seq (.seq (.ops [oM 20 8, ⟨some 21, none, .bin .lss (.t 20) (.c (.int .i64 20))⟩])
  (.cond (.t 21)
  (.seq (.ops [⟨some 22, none, .build z_6 []⟩, ⟨some 23, none, .callF false 65 [(.c (.int .i64 1)), (.c (.int .i64 10))]⟩, oS 4 6 22, oS 2 7 23])
  .ret)
  .skip))
  (.seq (.seq (.ops [oM 24 8, oM 25 0, ⟨some 26, none, .len (.t 25)⟩, ⟨some 27, none, .bin .gtr (.t 24) (.t 26)⟩])
  (.cond (.t 27)
  (.seq (.ops [⟨some 28, none, .build z_6 []⟩, ⟨some 29, none, .callF false 65 [(.c (.int .i64 1)), (.c (.int .i64 12))]⟩, oS 4 6 28, oS 2 7 29])
  .ret)
  .skip))
  (.seq (.seq (.ops [oM 30 0, ⟨some 31, none, .len (.t 30)⟩, ⟨some 32, none, .bin .gtr (.t 31) (.c (.int .i64 1480))⟩])
  (.cond (.t 32)
  (.seq (.ops [⟨some 33, none, .build z_6 []⟩, ⟨some 34, none, .callF false 65 [(.c (.int .i64 1)), (.c (.int .i64 11))]⟩, oS 4 6 33, oS 2 7 34])
  .ret)
  .skip))
  (.seq (.seq (.ops [oM 35 0, oM 36 1, oM 37 2, ⟨some 38, none, .callF false 66 [(.t 35), (.t 36), (.t 37)]⟩, ⟨some 39, none, .un .not (.t 38)⟩])
  (.cond (.t 39)
  (.seq (.ops [⟨some 40, none, .build z_6 []⟩, ⟨some 41, none, .callF false 65 [(.c (.int .i64 2)), (.c (.int .i64 13))]⟩, oS 4 6 40, oS 2 7 41])
  .ret)
  .skip))
  (.seq (.ops [oM 42 0, ⟨some 43, none, .callF true 42 [(.t 42)]⟩, ⟨some 44, none, .conv .u16 (.t 43)⟩, oM 45 0, ⟨some 46, none, .slice 1 (.t 45) (some (.c (.int .i64 2))) none⟩, ⟨some 47, none, .callF true 42 [(.t 46)]⟩, ⟨some 48, none, .conv .u16 (.t 47)⟩, oM 49 0, ⟨some 50, none, .iaddrR 1 (.t 49) (.c (.int .i64 13))⟩, ⟨some 51, none, .loadC false 1 (.t 50)⟩, ⟨some 52, none, .buildSl 1 5 []⟩, oM 53 0, ⟨some 54, none, .append 1 1 5 (.t 52) (.t 53)⟩, ⟨some 55, none, .build z_6 [(0, 1, (.t 44)), (1, 1, (.t 48)), (2, 1, (.t 51)), (3, 1, (.t 54))]⟩, ⟨some 56, none, .build z_2 []⟩, oS 4 6 55, oS 2 7 56])
  .ret))))))))⟩
/- vizard/vizardref21.ends -/
def I33 : Fn_ := ⟨3, 18, [(6, some (true, 7))],
  (.seq (.ops [⟨some 3, none, .boxR true 8 29 (.t 0)⟩, ⟨some 6, none, .alloc true z_1 41⟩])
  (.seq (.ops [oF 7 4 3, oL 8 7, oF 9 5 3, oL 10 9, oM 11 1, ⟨some 12, none, .build z_4 [(0, 1, (.t 10)), (1, 1, (.t 11))]⟩, oF 13 6 3, oL 14 13, oM 15 2, ⟨some 16, none, .build z_4 [(0, 1, (.t 14)), (1, 1, (.t 15))]⟩, ⟨some 17, none, .build z_1 [(0, 1, (.t 8)), (1, 2, (.t 12)), (3, 2, (.t 16))]⟩, oS 7 6 17])
  .ret))⟩
/- vizard/vizardref08.Parse -/
def I34 : Fn_ := ⟨3, 67, [(6, some (true, 4)), (7, some (true, 2))],
  (.seq (.ops [⟨some 6, none, .alloc true z_3 87⟩, ⟨some 7, none, .alloc true z_2 45⟩])
  (.seq (.seq (.ops [oM 10 0, ⟨some 11, none, .len (.t 10)⟩, ⟨some 12, none, .bin .lss (.t 11) (.c (.int .i64 8))⟩])
  (.cond (.t 12)
  (.seq (.ops [⟨some 13, none, .build z_3 []⟩, ⟨some 14, none, .callF false 65 [(.c (.int .i64 1)), (.c (.int .i64 12))]⟩, oS 4 6 13, oS 2 7 14])
  .ret)
  .skip))
  (.seq (.ops [oM 15 0, ⟨some 16, none, .slice 1 (.t 15) (some (.c (.int .i64 4))) none⟩, ⟨some 17, none, .callF false 42 [(.t 16)]⟩, oM 8 17])
  (.seq (.seq (.ops [oM 18 8, ⟨some 19, none, .bin .lss (.t 18) (.c (.int .i64 8))⟩])
  (.cond (.t 19)
  (.seq (.ops [⟨some 20, none, .build z_3 []⟩, ⟨some 21, none, .callF false 65 [(.c (.int .i64 1)), (.c (.int .i64 10))]⟩, oS 4 6 20, oS 2 7 21])
  .ret)
  .skip))
  (.seq (.seq (.ops [oM 22 8, oM 23 0, ⟨some 24, none, .len (.t 23)⟩, ⟨some 25, none, .bin .gtr (.t 22) (.t 24)⟩])
  (.cond (.t 25)
  (.seq (.ops [⟨some 26, none, .build z_3 []⟩, ⟨some 27, none, .callF false 65 [(.c (.int .i64 1)), (.c (.int .i64 12))]⟩, oS 4 6 26, oS 2 7 27])
  .ret)
  .skip))
  (.seq (.seq (.ops [oM 28 8, ⟨some 29, none, .bin .gtr (.t 28) (.c (.int .i64 1480))⟩])
  (.cond (.t 29)
  (.seq (.ops [⟨some 30, none, .build z_3 []⟩, ⟨some 31, none, .callF false 65 [(.c (.int .i64 1)), (.c (.int .i64 11))]⟩, oS 4 6 30, oS 2 7 31])
  .ret)
  .skip))
  (.seq (.ops [oM 32 0, ⟨some 33, none, .slice 1 (.t 32) (some (.c (.int .i64 6))) none⟩, ⟨some 34, none, .callF false 42 [(.t 33)]⟩, ⟨some 35, none, .bin .eql (.t 34) (.c (.int .i64 0))⟩, oM 9 35])
  (.seq (.seq (.ops [oM 36 9, ⟨some 37, none, .un .not (.t 36)⟩, oM 38 37, gM 39 38 true 1, gM 40 38 true 2, gM 41 38 true 8, ⟨some 42, (some (38, true)), .callF false 68 [(.t 39), (.t 40), (.c (.int .i64 17)), (.t 41)]⟩, gM 43 38 true 0, gM 44 38 true 8, ⟨some 45, (some (38, true)), .sliceR 1 (.t 43) none (some (.t 44))⟩, ⟨some 46, (some (38, true)), .append 1 1 5 (.t 42) (.t 45)⟩, ⟨some 47, (some (38, true)), .callF true 67 [(.t 46)]⟩, ⟨some 48, (some (38, true)), .bin .neq (.t 47) (.c (.int .u16 65535))⟩, oN 49 38 48])
  (.cond (.t 49)
  (.seq (.ops [⟨some 50, none, .build z_3 []⟩, ⟨some 51, none, .callF false 65 [(.c (.int .i64 2)), (.c (.int .i64 13))]⟩, oS 4 6 50, oS 2 7 51])
  .ret)
  .skip))
  (.seq (.ops [oM 52 0, ⟨some 53, none, .callF true 42 [(.t 52)]⟩, ⟨some 54, none, .conv .u16 (.t 53)⟩, oM 55 0, ⟨some 56, none, .slice 1 (.t 55) (some (.c (.int .i64 2))) none⟩, ⟨some 57, none, .callF true 42 [(.t 56)]⟩, ⟨some 58, none, .conv .u16 (.t 57)⟩, oM 59 9, ⟨some 60, none, .buildE⟩, oM 61 0, oM 62 8, ⟨some 63, none, .slice 1 (.t 61) (some (.c (.int .i64 8))) (some (.t 62))⟩, ⟨some 64, none, .appE 1 1 (.t 60) (.t 63)⟩, ⟨some 65, none, .build z_3 [(0, 1, (.t 54)), (1, 1, (.t 58)), (2, 1, (.t 59)), (3, 1, (.t 64))]⟩, ⟨some 66, none, .build z_2 []⟩, oS 4 6 65, oS 2 7 66])
  .ret)))))))))⟩
/- vizard/vizardref10.Parse -/
def B35_0 : C := (.seq (.seq (.ops [oM 32 5, ⟨some 33, none, .bin .lss (.t 32) (.c (.int .i64 4))⟩])
  (.cond (.t 33)
  .skip
  (.exit 0)))
  (.seq (.block 1 (some [0, 2, 3, 4, 5]) (.ops [oM 36 5, oM 37 0, oM 38 5, ⟨some 39, none, .bin .add (.c (.int .i64 4)) (.t 38)⟩, ⟨some 40, none, .iaddr 1 (.t 37) (.t 39)⟩, oL 41 40, ⟨some 42, none, .faddr true 2 4 (.t 4)⟩, ⟨some 43, none, .iaddrA 4 1 false (.t 42) (.t 36)⟩, oS 1 43 41]))
  (.ops [oM 34 5, ⟨some 35, none, .bin .add (.t 34) (.c (.int .i64 1))⟩, oM 5 35])))
def L35_0 : C := .loop (some [0, 2, 3, 4, 5]) B35_0
theorem L35_0_eq {E : Env} (x : St) : ev E L35_0 x = andThen (ev E B35_0 (restr (some [0, 2, 3, 4, 5]) x)) (ev E L35_0) := ev_loop _ _ x
theorem L35_0_lp {E : Env} (s : Slots) (h : Heap) : ev E L35_0 ⟨s, h⟩ = lp E L35_0 (pickS s [0, 2, 3, 4, 5]) h := lp_of L35_0_eq s h
theorem L35_0_go {E : Env} (s : Slots) (h : Heap) : lp E L35_0 s h = andThen (ev E B35_0 ⟨pickS s [0, 2, 3, 4, 5], h⟩) (ev E L35_0) := lp_go L35_0_eq s h
noncomputable def T35_0 (E : Env) (o : Out) : Option (AV × Heap) := outR [(2, some (true, 7)), (3, some (true, 2))] (andThen (endBlock 0 (some [0, 2, 3, 4, 5]) (o)) (ev E (.seq (.ops [⟨some 44, none, .load true 7 (.t 4)⟩, ⟨some 45, none, .build z_2 []⟩, oS 7 2 44, oS 2 3 45])
  .ret)))
def I35 : Fn_ := ⟨1, 46, [(2, some (true, 7)), (3, some (true, 2))],
  (.seq (.ops [⟨some 2, none, .alloc true z_5 90⟩, ⟨some 3, none, .alloc true z_2 45⟩])
  (.seq (.seq (.ops [oM 6 0, ⟨some 7, none, .len (.t 6)⟩, ⟨some 8, none, .bin .lss (.t 7) (.c (.int .i64 8))⟩])
  (.cond (.t 8)
  (.seq (.ops [⟨some 9, none, .build z_5 []⟩, ⟨some 10, none, .callF true 65 [(.c (.int .i64 1)), (.c (.int .i64 12))]⟩, oS 7 2 9, oS 2 3 10])
  .ret)
  .skip))
  (.seq (.seq (.ops [oM 11 0, ⟨some 12, none, .len (.t 11)⟩, ⟨some 13, none, .bin .gtr (.t 12) (.c (.int .i64 1480))⟩])
  (.cond (.t 13)
  (.seq (.ops [⟨some 14, none, .build z_5 []⟩, ⟨some 15, none, .callF true 65 [(.c (.int .i64 1)), (.c (.int .i64 11))]⟩, oS 7 2 14, oS 2 3 15])
  .ret)
  .skip))
  (.seq (.seq (.ops [oM 16 0, ⟨some 17, none, .callF true 67 [(.t 16)]⟩, ⟨some 18, none, .bin .neq (.t 17) (.c (.int .u16 65535))⟩])
  (.cond (.t 18)
  (.seq (.ops [⟨some 19, none, .build z_5 []⟩, ⟨some 20, none, .callF true 65 [(.c (.int .i64 2)), (.c (.int .i64 13))]⟩, oS 7 2 19, oS 2 3 20])
  .ret)
  .skip))
  (.seq (.ops [oM 21 0, ⟨some 22, none, .iaddr 1 (.t 21) (.c (.int .i64 0))⟩, oL 23 22, oM 24 0, ⟨some 25, none, .iaddr 1 (.t 24) (.c (.int .i64 1))⟩, oL 26 25, ⟨some 27, none, .buildE⟩, oM 28 0, ⟨some 29, none, .slice 1 (.t 28) (some (.c (.int .i64 8))) none⟩, ⟨some 30, none, .appE 1 1 (.t 27) (.t 29)⟩, ⟨some 31, none, .build z_5 [(0, 1, (.t 23)), (1, 1, (.t 26)), (6, 1, (.t 30))]⟩, ⟨some 4, none, .alloc true z_5 90⟩, oS 7 4 31])
  (.seq (.seq (.ops [⟨some 5, none, .mov (.c (.int .i64 0))⟩])
  (.block 0 (some [0, 2, 3, 4, 5]) L35_0))
  (.seq (.ops [⟨some 44, none, .load true 7 (.t 4)⟩, ⟨some 45, none, .build z_2 []⟩, oS 7 2 44, oS 2 3 45])
  .ret)))))))⟩
/- vizard/vizardref21.query -/
def I36 : Fn_ := ⟨3, 26, [(6, some (true, 7)), (7, none)],
  (.seq (.ops [⟨some 3, none, .boxR true 8 29 (.t 0)⟩, ⟨some 6, none, .alloc true z_1 41⟩, ⟨some 7, none, .mov (.c (.bool false))⟩])
  (.seq (.ops [⟨some 9, none, .load true 8 (.t 3)⟩, oM 10 2, ⟨some 11, none, .callF true 33 [(.t 9), (.t 10), (.c (.int .u16 0))]⟩, ⟨some 8, none, .alloc true z_1 41⟩, oS 7 8 11])
  (.seq (.seq (.ops [oM 12 1, ⟨some 13, none, .bin .eql (.t 12) (.c (.int .u8 0))⟩])
  (.cond (.t 13)
  (.ops [⟨some 14, none, .load true 8 (.t 3)⟩, oM 15 2, ⟨some 16, none, .callF true 33 [(.t 14), (.c (.int .u16 0)), (.t 15)]⟩, oS 7 8 16])
  .skip))
  (.seq (.ops [oM 17 1, oF 18 6 8, oS 1 18 17])
  (.seq (.ops [⟨some 19, none, .load true 7 (.t 8)⟩, oM 20 1, ⟨some 21, none, .bin .eql (.t 20) (.c (.int .u8 0))⟩, oM 22 21, gM 23 22 false 1, ⟨some 24, (some (22, false)), .bin .eql (.t 23) (.c (.int .u8 8))⟩, oT 25 22 24, oS 7 6 19, oM 7 25])
  .ret)))))⟩
/- vizard/vizardref10.Mark -/
def I37 : Fn_ := ⟨1, 14, [(2, none)],
  (.seq (.ops [⟨some 1, none, .boxR true 7 90 (.t 0)⟩, ⟨some 2, none, .mov (.c (.int .u16 0))⟩])
  (.seq (.ops [⟨some 3, none, .faddr true 2 4 (.t 1)⟩, ⟨some 4, none, .iaddrA 4 1 false (.t 3) (.c (.int .i64 0))⟩, oL 5 4, ⟨some 6, none, .conv .i64 (.t 5)⟩, ⟨some 7, none, .bin .mul (.t 6) (.c (.int .i64 256))⟩, ⟨some 8, none, .faddr true 2 4 (.t 1)⟩, ⟨some 9, none, .iaddrA 4 1 false (.t 8) (.c (.int .i64 1))⟩, oL 10 9, ⟨some 11, none, .conv .i64 (.t 10)⟩, ⟨some 12, none, .bin .add (.t 7) (.t 11)⟩, ⟨some 13, none, .conv .u16 (.t 12)⟩, oM 2 13])
  .ret))⟩
/- vizard/vizardref21.other -/
def I38 : Fn_ := ⟨0, 2, [(0, some (true, 2))],
  (.seq (.ops [⟨some 0, none, .alloc true z_2 45⟩])
  (.seq (.ops [⟨some 1, none, .callF true 65 [(.c (.int .i64 16)), (.c (.int .i64 14))]⟩, oS 2 0 1])
  .ret))⟩
/- vizard/turn.embedded -/
def I39 : Fn_ := ⟨1, 33, [(2, some (true, 7)), (3, some (true, 8)), (4, none)],
  (.seq (.ops [⟨some 1, none, .boxR true 8 26 (.t 0)⟩, ⟨some 2, none, .alloc true z_5 67⟩, ⟨some 3, none, .alloc true z_0 26⟩, ⟨some 4, none, .mov (.c .nili)⟩])
  (.seq (.seq (.ops [oF 8 4 1, oL 9 8, ⟨some 10, none, .bin .neq (.t 9) (.c (.int .u8 1))⟩])
  (.cond (.t 10)
  (.seq (.ops [⟨some 11, none, .build z_5 []⟩, ⟨some 12, none, .build z_0 []⟩, ⟨some 13, none, .callF true 31 []⟩, oS 7 2 11, oS 8 3 12, oM 4 13])
  .ret)
  .skip))
  (.seq (.ops [oF 15 7 1, oL 16 15, ⟨some 17, none, .callF true 28 [(.t 16)]⟩, oM 14 17, oE 18 14 0, oE 19 14 1, ⟨some 5, none, .alloc true z_5 67⟩, oS 7 5 18, oM 6 19])
  (.seq (.seq (.ops [oM 20 6, ⟨some 21, none, .eqNl true true (.t 20)⟩])
  (.cond (.t 21)
  (.seq (.ops [⟨some 22, none, .build z_5 []⟩, ⟨some 23, none, .build z_0 []⟩, oM 24 6, oS 7 2 22, oS 8 3 23, oM 4 24])
  .ret)
  .skip))
  (.seq (.ops [⟨some 26, none, .load true 7 (.t 5)⟩, ⟨some 27, none, .callF true 69 [(.t 26)]⟩, oM 25 27, oE 28 25 0, oE 29 25 1, ⟨some 7, none, .alloc true z_0 26⟩, oS 8 7 28, oM 6 29])
  (.seq (.ops [⟨some 30, none, .load true 7 (.t 5)⟩, ⟨some 31, none, .loadS 3 true 8 (.t 7)⟩, oM 32 6, ⟨none, none, .storeS 0 7 (.t 2) (.t 30)⟩, oS 8 3 31, oM 4 32])
  .ret))))))⟩
/- vizard/turn.innerEnds -/
def I40 : Fn_ := ⟨1, 32, [(2, some (true, 7)), (3, none)],
  (.seq (.ops [⟨some 1, none, .box true 26 (.t 0)⟩, ⟨some 2, none, .alloc true z_1 34⟩, ⟨some 3, none, .mov (.c .nili)⟩])
  (.seq (.ops [⟨some 5, none, .mkFn 70 [(.t 1)]⟩, oM 4 5])
  (.seq (.seq (.ops [oF 6 4 1, oL 7 6])
  (.block 0 (some [1, 2, 4, 7]) (.seq (.block 3 (some [1, 2, 4, 7]) (.seq (.block 2 (some [1, 2, 4, 7]) (.block 1 (some [1, 2, 4, 7]) (.seq (.seq (.seq (.ops [⟨some 9, none, .bin .eql (.t 7) (.c (.int .u8 6))⟩, oM 8 9])
  (.cond (.t 8)
  (.exit 1)
  .skip))
  (.seq (.seq (.ops [⟨some 11, none, .bin .eql (.t 7) (.c (.int .u8 17))⟩, oM 10 11])
  (.cond (.t 10)
  (.exit 2)
  .skip))
  (.seq (.ops [⟨some 13, none, .bin .eql (.t 7) (.c (.int .u8 1))⟩, oM 12 13])
  (.cond (.t 12)
  (.exit 3)
  .skip))))
  (.exit 0))))
  (.seq (.seq (.ops [⟨some 14, none, .load true 8 (.t 1)⟩, oM 15 4, ⟨some 16, none, .callV true (.t 15) [(.c (.int .i64 0))]⟩, oM 17 4, ⟨some 18, none, .callV true (.t 17) [(.c (.int .i64 2))]⟩, ⟨some 19, none, .callF true 27 [(.t 14), (.t 16), (.t 18)]⟩, oS 7 2 19, ⟨some 3, none, .mov (.c .nili)⟩])
  .ret)
  (.exit 0))))
  (.seq (.seq (.ops [⟨some 20, none, .load true 8 (.t 1)⟩, oF 21 7 1, oL 22 21, ⟨some 23, none, .iaddr 1 (.t 22) (.c (.int .i64 0))⟩, oL 24 23, oM 25 4, ⟨some 26, none, .callV true (.t 25) [(.c (.int .i64 4))]⟩, ⟨some 27, none, .callF true 29 [(.t 20), (.t 24), (.t 26)]⟩, oE 28 27 0, oE 29 27 1, oS 7 2 28, oM 3 29])
  .ret)
  (.exit 0)))))
  (.seq (.ops [⟨some 30, none, .build z_1 []⟩, ⟨some 31, none, .callF true 31 []⟩, oS 7 2 30, oM 3 31])
  .ret))))⟩
/- vizard/vizardref10.Inner -/
def I41 : Fn_ := ⟨1, 34, [(2, some (true, 8)), (3, some (true, 2))],
  (.seq (.ops [⟨some 1, none, .boxR true 7 90 (.t 0)⟩, ⟨some 2, none, .alloc true z_0 29⟩, ⟨some 3, none, .alloc true z_2 45⟩])
  (.seq (.seq (.ops [⟨some 6, none, .load true 7 (.t 1)⟩, ⟨some 7, none, .callF true 71 [(.t 6)]⟩, ⟨some 8, none, .bin .neq (.t 7) (.c (.int .i64 1))⟩])
  (.cond (.t 8)
  (.seq (.ops [⟨some 9, none, .build z_0 []⟩, ⟨some 10, none, .callF true 65 [(.c (.int .i64 16)), (.c (.int .i64 14))]⟩, oS 8 2 9, oS 2 3 10])
  .ret)
  .skip))
  (.seq (.ops [oF 12 6 1, oL 13 12, ⟨some 14, none, .callF true 72 [(.t 13)]⟩, oM 11 14, oE 15 11 0, oE 16 11 1, ⟨some 4, none, .alloc true z_0 29⟩, ⟨some 5, none, .alloc true z_2 45⟩, oS 8 4 15, oS 2 5 16])
  (.seq (.seq (.ops [oF 17 1 5, oL 18 17, ⟨some 19, none, .bin .eql (.t 18) (.c (.int .i64 0))⟩, oM 20 19, gF 21 20 true 7 4, gL 22 20 true 21, ⟨some 23, (some (20, true)), .len (.t 22)⟩, ⟨some 24, (some (20, true)), .bin .lss (.t 23) (.c (.int .i64 8))⟩, oN 25 20 24])
  (.cond (.t 25)
  (.ops [⟨some 26, none, .callF true 65 [(.c (.int .i64 1)), (.c (.int .i64 12))]⟩, oS 2 5 26])
  .skip))
  (.seq (.seq (.ops [oF 27 1 5, oL 28 27, ⟨some 29, none, .bin .neq (.t 28) (.c (.int .i64 0))⟩])
  (.cond (.t 29)
  (.seq (.ops [⟨some 30, none, .build z_0 []⟩, ⟨some 31, none, .loadS 3 true 2 (.t 5)⟩, ⟨none, none, .storeS 0 8 (.t 2) (.t 30)⟩, oS 2 3 31])
  .ret)
  .skip))
  (.seq (.ops [⟨some 32, none, .load true 8 (.t 4)⟩, ⟨some 33, none, .loadS 3 true 2 (.t 5)⟩, ⟨none, none, .storeS 0 8 (.t 2) (.t 32)⟩, oS 2 3 33])
  .ret))))))⟩
/- vizard/vizardref08.Num -/
def I42 : Fn_ := ⟨1, 13, [(2, none)],
  (.seq (.ops [⟨some 2, none, .mov (.c (.int .i64 0))⟩])
  (.seq (.ops [oM 3 0, ⟨some 4, none, .iaddr 1 (.t 3) (.c (.int .i64 0))⟩, oL 5 4, ⟨some 6, none, .conv .i64 (.t 5)⟩, ⟨some 7, none, .bin .mul (.t 6) (.c (.int .i64 256))⟩, oM 8 0, ⟨some 9, none, .iaddr 1 (.t 8) (.c (.int .i64 1))⟩, oL 10 9, ⟨some 11, none, .conv .i64 (.t 10)⟩, ⟨some 12, none, .bin .add (.t 7) (.t 11)⟩, oM 2 12])
  .ret))⟩
/- slices.Clone[[]byte,byte] -/
def I43 : Fn_ := ⟨1, 8, [(2, none)],
  (.seq (.ops [⟨some 2, none, .mov (.c (.rs false 1 []))⟩])
  (.seq (.seq (.ops [oM 3 0, ⟨some 4, none, .eqNil false (.t 3)⟩])
  (.cond (.t 4)
  (.seq (.ops [⟨some 2, none, .mov (.c (.rs false 1 []))⟩])
  .ret)
  .skip))
  (.seq (.ops [⟨some 5, none, .buildSl 1 5 []⟩, oM 6 0, ⟨some 7, none, .append 1 1 5 (.t 5) (.t 6)⟩, oM 2 7])
  .ret)))⟩
/- vizard/vizardref02.Reason -/
def I45 : Fn_ := ⟨1, 14, [(2, none)],
  (.seq (.ops [⟨some 1, none, .box true 45 (.t 0)⟩, ⟨some 2, none, .mov (.c (.int .i64 0))⟩])
  (.seq (.seq (.ops [oF 3 0 1, oL 4 3, ⟨some 5, none, .len (.t 4)⟩, ⟨some 6, none, .bin .gtr (.t 5) (.c (.int .i64 0))⟩])
  (.cond (.t 6)
  (.seq (.ops [oF 7 0 1, oL 8 7, ⟨some 9, none, .iaddr 1 (.t 8) (.c (.int .i64 0))⟩, oL 10 9, oM 2 10])
  .ret)
  .skip))
  (.seq (.ops [oF 11 1 1, oL 12 11, ⟨some 13, none, .callF false 73 [(.t 12)]⟩, oM 2 13])
  .ret)))⟩
/- vizard/vizardlaw20.Of -/
def I46 : Fn_ := ⟨1, 8, [(2, some (true, 2))],
  (.seq (.ops [⟨some 1, none, .box true 32 (.t 0)⟩, ⟨some 2, none, .alloc true z_4 39⟩])
  (.seq (.ops [oF 3 0 1, oL 4 3, oF 5 1 1, oL 6 5, ⟨some 7, none, .build z_4 [(0, 1, (.t 4)), (1, 1, (.t 6))]⟩, oS 2 2 7])
  .ret))⟩
/- vizard/why.Fault -/
def I47 : Fn_ := ⟨2, 18, [(4, none)],
  (.seq (.ops [⟨some 4, none, .mov (.c .nili)⟩])
  (.seq (.seq (.ops [oM 5 1, ⟨some 6, none, .bin .eql (.t 5) (.c (.int .i64 0))⟩, oM 7 6, gM 8 7 false 0, ⟨some 9, (some (7, false)), .callF false 74 [(.t 8)]⟩, ⟨some 10, (some (7, false)), .un .not (.t 9)⟩, oT 11 7 10])
  (.cond (.t 11)
  (.seq (.ops [⟨some 4, none, .mov (.c .nili)⟩])
  .ret)
  .skip))
  (.seq (.ops [oM 12 0, oM 13 1, ⟨some 14, none, .mkIf 43 (.t 13)⟩, ⟨some 15, none, .build z_7 [(0, 1, (.t 12)), (1, 1, (.t 14))]⟩, ⟨some 16, none, .box true 123 (.t 15)⟩, ⟨some 17, none, .mkIf 119 (.t 16)⟩, oM 4 17])
  .ret)))⟩
/- vizard/word.Row -/
def B48_0 : C := (.seq (.ops [⟨some 17, none, .bin .lss (.t 16) (.t 15)⟩])
  (.seq (.cond (.t 17)
  .skip
  (.exit 0))
  (.seq (.block 1 (some [0, 6, 14, 15, 16]) (.seq (.ops [⟨some 18, none, .iaddr 1 (.t 14) (.t 16)⟩, oL 19 18, oM 8 19])
  (.seq (.ops [oM 21 8, oM 22 0, ⟨some 23, none, .callF false 76 [(.t 21), (.t 22)]⟩, oM 20 23, oE 24 20 0, oE 25 20 1, oM 9 24, oM 10 25])
  (.seq (.seq (.ops [oM 26 10, ⟨some 27, none, .bin .neq (.t 26) (.c (.int .i64 0))⟩])
  (.cond (.t 27)
  (.seq (.ops [oM 28 10, ⟨some 4, none, .mov (.c (.rs false 1 []))⟩, oM 5 28])
  .ret)
  .skip))
  (.ops [oM 29 6, oM 30 9, ⟨some 31, none, .append 1 1 5 (.t 29) (.t 30)⟩, oM 6 31])))))
  (.ops [⟨some 32, none, .bin .add (.t 16) (.c (.int .i64 1))⟩, oM 16 32]))))
def L48_0 : C := .loop (some [0, 6, 14, 15, 16]) B48_0
theorem L48_0_eq {E : Env} (x : St) : ev E L48_0 x = andThen (ev E B48_0 (restr (some [0, 6, 14, 15, 16]) x)) (ev E L48_0) := ev_loop _ _ x
theorem L48_0_lp {E : Env} (s : Slots) (h : Heap) : ev E L48_0 ⟨s, h⟩ = lp E L48_0 (pickS s [0, 6, 14, 15, 16]) h := lp_of L48_0_eq s h
theorem L48_0_go {E : Env} (s : Slots) (h : Heap) : lp E L48_0 s h = andThen (ev E B48_0 ⟨pickS s [0, 6, 14, 15, 16], h⟩) (ev E L48_0) := lp_go L48_0_eq s h
noncomputable def T48_0 (E : Env) (o : Out) : Option (AV × Heap) := outR [(4, none), (5, none)] (andThen (endBlock 0 (some [0, 6, 14, 15, 16]) (o)) (ev E (.seq (.ops [oM 33 6, oM 4 33, ⟨some 5, none, .mov (.c (.int .i64 0))⟩])
  .ret)))
def I48 : Fn_ := ⟨2, 34, [(4, none), (5, none)],
  (.seq (.ops [⟨some 4, none, .mov (.c (.rs false 1 []))⟩, ⟨some 5, none, .mov (.c (.int .i64 0))⟩])
  (.seq (.seq (.ops [oM 11 0, ⟨some 12, none, .callF false 75 [(.t 11)]⟩, ⟨some 13, none, .un .not (.t 12)⟩])
  (.cond (.t 13)
  (.seq (.ops [⟨some 4, none, .mov (.c (.rs false 1 []))⟩, ⟨some 5, none, .mov (.c (.int .i64 11))⟩])
  .ret)
  .skip))
  (.seq (.ops [⟨some 6, none, .nilrow 1 5⟩])
  (.seq (.seq (.ops [oM 14 1, ⟨some 15, none, .len (.t 14)⟩, ⟨some 16, none, .mov (.c (.int .i64 0))⟩])
  (.block 0 (some [0, 6, 14, 15, 16]) L48_0))
  (.seq (.ops [oM 33 6, oM 4 33, ⟨some 5, none, .mov (.c (.int .i64 0))⟩])
  .ret)))))⟩
/- vizard/sum.Of -/
def I49 : Fn_ := ⟨1, 6, [(2, none)],
  (.seq (.ops [⟨some 2, none, .mov (.c (.int .u16 0))⟩])
  (.seq (.ops [oM 3 0, ⟨some 4, none, .callF false 77 [(.t 3)]⟩, ⟨some 5, none, .un .xor (.t 4)⟩, oM 2 5])
  .ret))⟩
/- vizard/udp.ends -/
def I50 : Fn_ := ⟨3, 30, [(6, none)],
  (.seq (.ops [⟨some 6, none, .mov (.c (.rs false 1 []))⟩])
  (.seq (.ops [oM 12 0, ⟨some 13, none, .conv .u64 (.t 12)⟩, oM 14 1, ⟨some 15, none, .conv .u64 (.t 14)⟩, ⟨some 16, none, .buildR 1 108 [(.t 13), (.t 15)]⟩, ⟨some 17, none, .callF false 48 [(.c (.int .i64 4)), (.t 16)]⟩, oM 11 17, oE 18 11 0, oE 19 11 1, oM 7 18, oM 8 19])
  (.seq (.ops [oM 21 2, ⟨some 22, none, .conv .u64 (.t 21)⟩, ⟨some 23, none, .buildR 1 108 [(.c (.int .u64 17)), (.t 22)]⟩, ⟨some 24, none, .callF true 48 [(.c (.int .i64 2)), (.t 23)]⟩, oM 20 24, oE 25 20 0, oE 26 20 1, oM 9 25, oM 10 26])
  (.seq (.ops [oM 27 7, oM 28 9, ⟨some 29, none, .append 1 1 5 (.t 27) (.t 28)⟩, oM 6 29])
  .ret))))⟩
/- vizard/word.Lay -/
def I51 : Fn_ := ⟨4, 27, [(8, none), (9, none)],
  (.seq (.ops [⟨some 8, none, .mov (.c (.rs false 1 []))⟩, ⟨some 9, none, .mov (.c (.int .i64 0))⟩])
  (.seq (.ops [oM 13 3, oM 14 2, ⟨some 15, none, .callF false 76 [(.t 13), (.t 14)]⟩, oM 12 15, oE 16 12 0, oE 17 12 1, oM 10 16, oM 11 17])
  (.seq (.seq (.ops [oM 18 11, ⟨some 19, none, .bin .neq (.t 18) (.c (.int .i64 0))⟩])
  (.cond (.t 19)
  (.seq (.ops [oM 20 11, ⟨some 8, none, .mov (.c (.rs false 1 []))⟩, oM 9 20])
  .ret)
  .skip))
  (.seq (.ops [oM 21 0, oM 22 1, oM 23 10, ⟨some 24, none, .callF false 78 [(.t 21), (.t 22), (.t 23)]⟩, oE 25 24 0, oE 26 24 1, oM 8 25, oM 9 26])
  .ret))))⟩
/- vizard/turn.carried -/
def I52 : Fn_ := ⟨4, 59, [(8, none)],
  (.seq (.ops [⟨some 4, none, .boxR true 8 26 (.t 0)⟩, ⟨some 6, none, .boxR true 2 32 (.t 2)⟩, ⟨some 7, none, .boxR true 2 32 (.t 3)⟩, ⟨some 8, none, .mov (.c (.rs false 1 []))⟩])
  (.seq (.ops [oF 15 7 4, oL 16 15, oM 17 1, oF 18 1 7, oL 19 18, ⟨some 20, none, .callF true 79 [(.t 16), (.t 17), (.t 19)]⟩, oM 9 20])
  (.seq (.seq (.ops [oF 21 4 4, oL 22 21, ⟨some 23, none, .bin .eql (.t 22) (.c (.int .u8 6))⟩])
  (.cond (.t 23)
  (.seq (.ops [oM 24 9, oM 25 9, ⟨some 26, none, .load true 2 (.t 6)⟩, ⟨some 27, none, .callF true 81 [(.t 26)]⟩, ⟨some 28, none, .load true 2 (.t 7)⟩, ⟨some 29, none, .callF true 81 [(.t 28)]⟩, ⟨some 30, none, .callF true 80 [(.t 25), (.c (.int .i64 16)), (.t 27), (.t 29)]⟩, ⟨some 31, none, .callF true 79 [(.t 24), (.c (.int .i64 16)), (.t 30)]⟩, oM 8 31])
  .ret)
  .skip))
  (.seq (.ops [oM 33 9, ⟨some 34, none, .callF true 64 [(.t 33), (.c (.int .i64 4)), (.c (.int .i64 2))]⟩, oM 32 34, oE 35 32 0, oE 36 32 1, oM 10 35, oM 11 36])
  (.seq (.ops [oM 37 9, oM 38 10, ⟨some 39, none, .slice 1 (.t 37) none (some (.t 38))⟩, oM 9 39])
  (.seq (.seq (.ops [oM 41 9, ⟨some 42, none, .callF true 64 [(.t 41), (.c (.int .i64 6)), (.c (.int .i64 2))]⟩, oM 40 42, oE 43 40 0, oE 44 40 1, oM 12 43, oM 13 44])
  (.seq (.ops [oM 45 12, ⟨some 46, none, .bin .eql (.t 45) (.c (.int .u64 0))⟩])
  (.cond (.t 46)
  (.seq (.ops [oM 47 9, oM 8 47])
  .ret)
  .skip)))
  (.seq (.ops [oM 48 9, ⟨some 49, none, .load true 2 (.t 6)⟩, ⟨some 50, none, .callF true 81 [(.t 49)]⟩, ⟨some 51, none, .load true 2 (.t 7)⟩, ⟨some 52, none, .callF true 81 [(.t 51)]⟩, ⟨some 53, none, .callF true 80 [(.t 48), (.c (.int .i64 6)), (.t 50), (.t 52)]⟩, oM 14 53])
  (.seq (.seq (.ops [oM 54 14, ⟨some 55, none, .bin .eql (.t 54) (.c (.int .u16 0))⟩])
  (.cond (.t 55)
  (.ops [⟨some 14, none, .mov (.c (.int .u16 65535))⟩])
  .skip))
  (.seq (.ops [oM 56 9, oM 57 14, ⟨some 58, none, .callF true 79 [(.t 56), (.c (.int .i64 6)), (.t 57)]⟩, oM 8 58])
  .ret)))))))))⟩
/- vizard/turn.marked -/
def I53 : Fn_ := ⟨2, 22, [(4, none)],
  (.seq (.ops [⟨some 4, none, .mov (.c (.rs false 1 []))⟩])
  (.seq (.ops [oM 10 0, ⟨some 11, none, .callF true 28 [(.t 10)]⟩, oM 9 11, oE 12 9 0, oE 13 9 1, ⟨some 5, none, .alloc true z_5 67⟩, oS 7 5 12, oM 6 13])
  (.seq (.ops [⟨some 15, none, .load true 7 (.t 5)⟩, oM 16 1, ⟨some 17, none, .callF true 82 [(.t 15), (.t 16)]⟩, ⟨some 18, none, .callF true 21 [(.t 17)]⟩, oM 14 18, oE 19 14 0, oE 20 14 1, oM 7 19, oM 8 20])
  (.seq (.ops [oM 21 7, oM 4 21])
  .ret))))⟩
/- vizard/udp.two -/
def I54 : Fn_ := ⟨2, 15, [(4, none)],
  (.seq (.ops [⟨some 4, none, .mov (.c (.int .u16 0))⟩])
  (.seq (.ops [oM 8 0, oM 9 1, ⟨some 10, none, .callF true 64 [(.t 8), (.t 9), (.c (.int .i64 2))]⟩, oM 7 10, oE 11 7 0, oE 12 7 1, oM 5 11, oM 6 12])
  (.seq (.ops [oM 13 5, ⟨some 14, none, .conv .u16 (.t 13)⟩, oM 4 14])
  .ret)))⟩
/- vizard/sum.Right -/
def I55 : Fn_ := ⟨1, 6, [(2, none)],
  (.seq (.ops [⟨some 2, none, .mov (.c (.bool false))⟩])
  (.seq (.ops [oM 3 0, ⟨some 4, none, .callF false 77 [(.t 3)]⟩, ⟨some 5, none, .bin .eql (.t 4) (.c (.int .u16 65535))⟩, oM 2 5])
  .ret))⟩
/- slices.Concat[[]byte,byte] -/
def B56_0 : C := (.seq (.ops [⟨some 12, none, .bin .lss (.t 11) (.t 10)⟩])
  (.seq (.cond (.t 12)
  .skip
  (.exit 0))
  (.seq (.block 1 (some [0, 3, 9, 10, 11]) (.seq (.ops [⟨some 13, none, .iaddr 1 (.t 9) (.t 11)⟩, oL 14 13, oM 5 14])
  (.seq (.ops [oM 15 3, oM 16 5, ⟨some 17, none, .len (.t 16)⟩, ⟨some 18, none, .bin .add (.t 15) (.t 17)⟩, oM 3 18])
  (.seq (.ops [oM 19 3, ⟨some 20, none, .bin .lss (.t 19) (.c (.int .i64 0))⟩])
  (.cond (.t 20)
  (.ops [⟨some 21, none, .mkIf 9 (.c (.str ⟨#[108, 101, 110, 32, 111, 117, 116, 32, 111, 102, 32, 114, 97, 110, 103, 101]⟩))⟩, ⟨none, none, .fail⟩])
  .skip)))))
  (.ops [⟨some 22, none, .bin .add (.t 11) (.c (.int .i64 1))⟩, oM 11 22]))))
def L56_0 : C := .loop (some [0, 3, 9, 10, 11]) B56_0
theorem L56_0_eq {E : Env} (x : St) : ev E L56_0 x = andThen (ev E B56_0 (restr (some [0, 3, 9, 10, 11]) x)) (ev E L56_0) := ev_loop _ _ x
theorem L56_0_lp {E : Env} (s : Slots) (h : Heap) : ev E L56_0 ⟨s, h⟩ = lp E L56_0 (pickS s [0, 3, 9, 10, 11]) h := lp_of L56_0_eq s h
theorem L56_0_go {E : Env} (s : Slots) (h : Heap) : lp E L56_0 s h = andThen (ev E B56_0 ⟨pickS s [0, 3, 9, 10, 11], h⟩) (ev E L56_0) := lp_go L56_0_eq s h
def B56_1 : C := (.seq (.ops [⟨some 28, none, .bin .lss (.t 27) (.t 26)⟩])
  (.seq (.cond (.t 28)
  .skip
  (.exit 2))
  (.seq (.block 3 (some [6, 25, 26, 27]) (.seq (.ops [⟨some 29, none, .iaddr 1 (.t 25) (.t 27)⟩, oL 30 29, oM 8 30])
  (.ops [oM 31 6, oM 32 8, ⟨some 33, none, .append 1 1 5 (.t 31) (.t 32)⟩, oM 6 33])))
  (.ops [⟨some 34, none, .bin .add (.t 27) (.c (.int .i64 1))⟩, oM 27 34]))))
def L56_1 : C := .loop (some [6, 25, 26, 27]) B56_1
theorem L56_1_eq {E : Env} (x : St) : ev E L56_1 x = andThen (ev E B56_1 (restr (some [6, 25, 26, 27]) x)) (ev E L56_1) := ev_loop _ _ x
theorem L56_1_lp {E : Env} (s : Slots) (h : Heap) : ev E L56_1 ⟨s, h⟩ = lp E L56_1 (pickS s [6, 25, 26, 27]) h := lp_of L56_1_eq s h
theorem L56_1_go {E : Env} (s : Slots) (h : Heap) : lp E L56_1 s h = andThen (ev E B56_1 ⟨pickS s [6, 25, 26, 27], h⟩) (ev E L56_1) := lp_go L56_1_eq s h
noncomputable def T56_1 (E : Env) (o : Out) : Option (AV × Heap) := outR [(2, none)] (andThen (endBlock 2 (some [6, 25, 26, 27]) (o)) (ev E (.seq (.ops [oM 35 6, oM 2 35])
  .ret)))
noncomputable def T56_0 (E : Env) (o : Out) : Option (AV × Heap) := outR [(2, none)] (andThen (endBlock 0 (some [0, 3, 9, 10, 11]) (o)) (ev E (.seq (.ops [oM 23 3, ⟨some 24, none, .callF false 83 [(.c .nils), (.t 23)]⟩, oM 6 24])
  (.seq (.seq (.ops [oM 25 0, ⟨some 26, none, .len (.t 25)⟩, ⟨some 27, none, .mov (.c (.int .i64 0))⟩])
  (.block 2 (some [6, 25, 26, 27]) L56_1))
  (.seq (.ops [oM 35 6, oM 2 35])
  .ret)))))
def I56 : Fn_ := ⟨1, 36, [(2, none)],
  (.seq (.ops [⟨some 2, none, .mov (.c (.rs false 1 []))⟩])
  (.seq (.ops [⟨some 3, none, .mov (.c (.int .i64 0))⟩])
  (.seq (.seq (.ops [oM 9 0, ⟨some 10, none, .len (.t 9)⟩, ⟨some 11, none, .mov (.c (.int .i64 0))⟩])
  (.block 0 (some [0, 3, 9, 10, 11]) L56_0))
  (.seq (.ops [oM 23 3, ⟨some 24, none, .callF false 83 [(.c .nils), (.t 23)]⟩, oM 6 24])
  (.seq (.seq (.ops [oM 25 0, ⟨some 26, none, .len (.t 25)⟩, ⟨some 27, none, .mov (.c (.int .i64 0))⟩])
  (.block 2 (some [6, 25, 26, 27]) L56_1))
  (.seq (.ops [oM 35 6, oM 2 35])
  .ret))))))⟩
/- (vizard/inet.Packet).Head -/
def I57 : Fn_ := ⟨1, 64, [(2, none)],
  (.seq (.ops [⟨some 1, none, .boxR true 8 26 (.t 0)⟩, ⟨some 2, none, .mov (.c (.rs false 1 []))⟩])
  (.seq (.ops [oF 12 7 1, oL 13 12, ⟨some 14, none, .len (.t 13)⟩, ⟨some 15, none, .bin .add (.c (.int .i64 20)) (.t 14)⟩, oM 3 15])
  (.seq (.seq (.ops [oM 16 3, ⟨some 17, none, .bin .gtr (.t 16) (.c (.int .i64 65535))⟩])
  (.cond (.t 17)
  (.seq (.ops [⟨some 2, none, .mov (.c (.rs false 1 []))⟩])
  .ret)
  .skip))
  (.seq (.ops [⟨some 4, none, .mov (.c (.int .u64 0))⟩])
  (.seq (.seq (.ops [oF 18 2 1, oL 19 18])
  (.cond (.t 19)
  (.ops [⟨some 4, none, .mov (.c (.int .u64 16384))⟩])
  .skip))
  (.seq (.ops [oM 21 3, ⟨some 22, none, .conv .u64 (.t 21)⟩, oF 23 1 1, oL 24 23, ⟨some 25, none, .conv .u64 (.t 24)⟩, oM 26 4, ⟨some 27, none, .buildR 1 108 [(.t 22), (.t 25), (.t 26)]⟩, ⟨some 28, none, .callF true 48 [(.c (.int .i64 2)), (.t 27)]⟩, oM 20 28, oE 29 20 0, oE 30 20 1, oM 5 29, oM 6 30])
  (.seq (.ops [oF 32 5 1, oL 33 32, ⟨some 34, none, .conv .u64 (.t 33)⟩, oF 35 6 1, oL 36 35, ⟨some 37, none, .conv .u64 (.t 36)⟩, ⟨some 38, none, .buildR 1 108 [(.t 34), (.t 37)]⟩, ⟨some 39, none, .callF true 48 [(.c (.int .i64 4)), (.t 38)]⟩, oM 31 39, oE 40 31 0, oE 41 31 1, oM 7 40, oM 8 41])
  (.seq (.ops [oF 42 0 1, oL 43 42, ⟨some 44, none, .buildR 1 5 [(.c (.int .u8 69)), (.t 43)]⟩, oM 45 5, oF 46 3 1, oL 47 46, oF 48 4 1, oL 49 48, ⟨some 50, none, .buildR 1 5 [(.t 47), (.t 49), (.c (.int .u8 0)), (.c (.int .u8 0))]⟩, oM 51 7, ⟨some 52, none, .buildR 1 24 [(.t 44), (.t 45), (.t 50), (.t 51)]⟩, ⟨some 53, none, .callF true 56 [(.t 52)]⟩, oM 9 53])
  (.seq (.ops [oM 55 9, oM 56 9, ⟨some 57, none, .buildR 1 24 [(.t 56)]⟩, ⟨some 58, none, .callF true 49 [(.t 57)]⟩, ⟨some 59, none, .conv .u64 (.t 58)⟩, ⟨some 60, none, .callF false 51 [(.t 55), (.c (.int .i64 10)), (.c (.int .i64 2)), (.t 59)]⟩, oM 54 60, oE 61 54 0, oE 62 54 1, oM 10 61, oM 11 62])
  (.seq (.ops [oM 63 10, oM 2 63])
  .ret))))))))))⟩
/- vizard/turn.inner -/
def I58 : Fn_ := ⟨5, 109, [(10, some (true, 8)), (11, none)],
  (.seq (.ops [⟨some 5, none, .box true 26 (.t 0)⟩, ⟨some 6, none, .boxR true 2 32 (.t 1)⟩, ⟨some 10, none, .alloc true z_0 26⟩, ⟨some 11, none, .mov (.c .nili)⟩])
  (.seq (.ops [⟨some 22, none, .load true 8 (.t 5)⟩, ⟨some 23, none, .callF true 39 [(.t 22)]⟩, oM 21 23, oE 24 21 0, oE 25 21 1, oE 26 21 2, ⟨some 12, none, .alloc true z_5 67⟩, ⟨some 13, none, .alloc true z_0 26⟩, oS 7 12 24, oS 8 13 25, oM 14 26])
  (.seq (.seq (.ops [oM 27 14, ⟨some 28, none, .eqNl true true (.t 27)⟩])
  (.cond (.t 28)
  (.seq (.ops [⟨some 29, none, .build z_0 []⟩, oM 30 14, oS 8 10 29, oM 11 30])
  .ret)
  .skip))
  (.seq (.ops [⟨some 32, none, .load true 8 (.t 13)⟩, ⟨some 33, none, .callF true 40 [(.t 32)]⟩, oM 31 33, oE 34 31 0, oE 35 31 1, ⟨some 15, none, .alloc true z_1 34⟩, oS 7 15 34, oM 14 35])
  (.seq (.seq (.ops [oM 36 14, ⟨some 37, none, .eqNl true true (.t 36)⟩])
  (.cond (.t 37)
  (.seq (.ops [⟨some 38, none, .build z_0 []⟩, oM 39 14, oS 8 10 38, oM 11 39])
  .ret)
  .skip))
  (.seq (.ops [oF 40 6 12, oL 41 40, ⟨some 42, none, .build z_8 [(0, 1, (.t 41))]⟩, ⟨some 16, none, .alloc true z_8 149⟩, oS 1 16 42])
  (.seq (.ops [⟨some 43, none, .load true 2 (.t 6)⟩, ⟨some 44, none, .callF true 81 [(.t 43)]⟩, oF 45 0 15, oL 46 45, ⟨some 47, none, .callF true 84 [(.t 16), (.t 46)]⟩, oM 17 44, oM 18 47])
  (.seq (.ops [oM 48 2, oM 49 17, ⟨some 50, none, .sliceR 1 (.t 49) none (some (.c (.int .i64 4)))⟩, ⟨some 51, none, .buildSl 1 3 [(.c (.int .i64 10))]⟩, oM 52 18, ⟨some 53, none, .appF 1 8 3 (.t 51) (.t 52)⟩, ⟨some 54, none, .callM 85 [(.t 16), (.t 48), (.t 50), (.t 53)]⟩])
  (.seq (.block 0 (some [3, 4, 5, 10, 12, 15, 16, 17, 18]) (.seq (.ops [oF 56 0 15, oL 57 56, ⟨some 58, none, .bin .neq (.t 57) (.c (.int .u8 1))⟩, oM 55 58])
  (.cond (.t 55)
  (.ops [oM 59 3, oM 60 17, ⟨some 61, none, .slice 1 (.t 60) (some (.c (.int .i64 4))) none⟩, oM 62 18, ⟨some 63, none, .callM 85 [(.t 16), (.t 59), (.t 61), (.t 62)]⟩])
  (.seq (.ops [oF 65 6 15, oL 66 65, oM 67 4, ⟨some 68, none, .bin .eql (.t 66) (.t 67)⟩, oM 64 68])
  (.cond (.t 64)
  (.ops [oM 69 17, ⟨some 70, none, .slice 1 (.t 69) (some (.c (.int .i64 4))) none⟩, ⟨some 71, none, .buildR 1 3 [(.c (.int .i64 22))]⟩, ⟨some 72, none, .callM 85 [(.t 16), (.c (.int .i64 24)), (.t 70), (.t 71)]⟩])
  .skip)))))
  (.seq (.seq (.ops [oF 73 0 15, oL 74 73, ⟨some 75, none, .bin .eql (.t 74) (.c (.int .u8 17))⟩, oM 76 75, gM 77 76 true 18, ⟨some 78, (some (76, true)), .len (.t 77)⟩, ⟨some 79, (some (76, true)), .bin .gtr (.t 78) (.c (.int .i64 0))⟩, oN 80 76 79])
  (.cond (.t 80)
  (.seq (.ops [oF 82 0 16, oL 83 82, oM 84 18, ⟨some 85, none, .iaddr 1 (.t 84) (.c (.int .i64 0))⟩, oL 86 85, ⟨some 87, none, .callF true 64 [(.t 83), (.t 86), (.c (.int .i64 2))]⟩, oM 81 87, oE 88 81 0, oE 89 81 1, oM 19 88, oM 20 89])
  (.seq (.ops [oM 90 19, ⟨some 91, none, .bin .eql (.t 90) (.c (.int .u64 0))⟩])
  (.cond (.t 91)
  (.ops [oF 92 0 16, oL 93 92, oM 94 18, ⟨some 95, none, .iaddr 1 (.t 94) (.c (.int .i64 0))⟩, oL 96 95, ⟨some 97, none, .callF true 79 [(.t 93), (.t 96), (.c (.int .u16 65535))]⟩, oF 98 0 16, oS 1 98 97])
  .skip)))
  .skip))
  (.seq (.ops [oF 99 0 16, oL 100 99, oF 101 6 12, oS 1 101 100])
  (.seq (.ops [⟨some 103, none, .load true 7 (.t 12)⟩, ⟨some 104, none, .callF true 21 [(.t 103)]⟩, oM 102 104, oE 105 102 0, oE 106 102 1, oF 107 7 5, oS 1 107 105])
  (.seq (.ops [⟨some 108, none, .load true 8 (.t 5)⟩, oS 8 10 108, ⟨some 11, none, .mov (.c .nili)⟩])
  .ret)))))))))))))⟩
/- vizard/why.Of -/
def I60 : Fn_ := ⟨1, 22, [(2, none)],
  (.seq (.ops [⟨some 2, none, .mov (.c (.int .i64 0))⟩])
  (.seq (.seq (.ops [oM 3 0])
  (.block 0 (some [3]) (.seq (.ops [⟨some 5, none, .bin .eql (.t 3) (.c (.int .i64 0))⟩, oM 4 5])
  (.cond (.t 4)
  (.seq (.ops [⟨some 2, none, .mov (.c (.int .i64 0))⟩])
  .ret)
  (.seq (.ops [⟨some 7, none, .bin .eql (.t 3) (.c (.int .i64 13))⟩, oM 6 7])
  (.cond (.t 6)
  (.seq (.ops [⟨some 2, none, .mov (.c (.int .i64 2))⟩])
  .ret)
  (.seq (.ops [⟨some 9, none, .bin .eql (.t 3) (.c (.int .i64 15))⟩, oM 8 9])
  (.cond (.t 8)
  (.seq (.ops [⟨some 2, none, .mov (.c (.int .i64 3))⟩])
  .ret)
  (.seq (.ops [⟨some 11, none, .bin .eql (.t 3) (.c (.int .i64 21))⟩, oM 10 11])
  (.cond (.t 10)
  (.seq (.ops [⟨some 2, none, .mov (.c (.int .i64 4))⟩])
  .ret)
  (.seq (.ops [⟨some 13, none, .bin .eql (.t 3) (.c (.int .i64 20))⟩, oM 12 13])
  (.cond (.t 12)
  (.seq (.ops [⟨some 2, none, .mov (.c (.int .i64 5))⟩])
  .ret)
  (.seq (.ops [⟨some 15, none, .bin .eql (.t 3) (.c (.int .i64 18))⟩, oM 14 15])
  (.cond (.t 14)
  (.seq (.ops [⟨some 2, none, .mov (.c (.int .i64 11))⟩])
  .ret)
  (.seq (.ops [⟨some 17, none, .bin .eql (.t 3) (.c (.int .i64 19))⟩, oM 16 17])
  (.cond (.t 16)
  (.seq (.ops [⟨some 2, none, .mov (.c (.int .i64 9))⟩])
  .ret)
  (.seq (.ops [⟨some 19, none, .bin .eql (.t 3) (.c (.int .i64 14))⟩, oM 18 19])
  (.cond (.t 18)
  (.seq (.ops [⟨some 2, none, .mov (.c (.int .i64 16))⟩])
  .ret)
  (.seq (.ops [⟨some 21, none, .bin .eql (.t 3) (.c (.int .i64 22))⟩, oM 20 21])
  (.cond (.t 20)
  (.seq (.ops [⟨some 2, none, .mov (.c (.int .i64 19))⟩])
  .ret)
  .skip))))))))))))))))))))
  (.seq (.ops [⟨some 2, none, .mov (.c (.int .i64 1))⟩])
  .ret)))⟩
/- vizard/tcp.form -/
def I62 : Fn_ := ⟨1, 25, [(2, none)],
  (.seq (.ops [⟨some 2, none, .mov (.c (.int .i64 0))⟩])
  (.seq (.seq (.ops [oM 4 0, ⟨some 5, none, .len (.t 4)⟩, ⟨some 6, none, .bin .lss (.t 5) (.c (.int .i64 20))⟩])
  (.cond (.t 6)
  (.seq (.ops [⟨some 2, none, .mov (.c (.int .i64 12))⟩])
  .ret)
  .skip))
  (.seq (.ops [oM 7 0, ⟨some 8, none, .iaddr 1 (.t 7) (.c (.int .i64 12))⟩, oL 9 8, ⟨some 10, none, .bin .shr (.t 9) (.c (.int .u64 4))⟩, ⟨some 11, none, .conv .i64 (.t 10)⟩, ⟨some 12, none, .bin .mul (.t 11) (.c (.int .i64 4))⟩, oM 3 12])
  (.seq (.block 0 (some [0, 3]) (.seq (.ops [oM 14 3, ⟨some 15, none, .bin .lss (.t 14) (.c (.int .i64 20))⟩, oM 13 15])
  (.cond (.t 13)
  (.seq (.ops [⟨some 2, none, .mov (.c (.int .i64 10))⟩])
  .ret)
  (.seq (.ops [oM 17 3, oM 18 0, ⟨some 19, none, .len (.t 18)⟩, ⟨some 20, none, .bin .gtr (.t 17) (.t 19)⟩, oM 16 20])
  (.cond (.t 16)
  (.seq (.ops [⟨some 2, none, .mov (.c (.int .i64 12))⟩])
  .ret)
  (.seq (.ops [oM 22 0, ⟨some 23, none, .len (.t 22)⟩, ⟨some 24, none, .bin .gtr (.t 23) (.c (.int .i64 1480))⟩, oM 21 24])
  (.cond (.t 21)
  (.seq (.ops [⟨some 2, none, .mov (.c (.int .i64 11))⟩])
  .ret)
  .skip)))))))
  (.seq (.ops [⟨some 2, none, .mov (.c (.int .i64 0))⟩])
  .ret)))))⟩
/- vizard/tcp.Sums -/
def I63 : Fn_ := ⟨3, 15, [(6, none)],
  (.seq (.ops [⟨some 6, none, .mov (.c (.bool false))⟩])
  (.seq (.ops [oM 7 1, oM 8 2, oM 9 0, ⟨some 10, none, .len (.t 9)⟩, ⟨some 11, none, .callF false 92 [(.t 7), (.t 8), (.t 10)]⟩, oM 12 0, ⟨some 13, none, .buildR 1 24 [(.t 11), (.t 12)]⟩, ⟨some 14, none, .callF false 55 [(.t 13)]⟩, oM 6 14])
  .ret))⟩
/- vizard/word.At -/
def B64_0 : C := (.seq (.ops [⟨some 31, none, .bin .lss (.t 30) (.t 29)⟩])
  (.seq (.cond (.t 31)
  .skip
  (.exit 0))
  (.seq (.block 1 (some [9, 28, 29, 30]) (.seq (.ops [⟨some 32, none, .iaddr 1 (.t 28) (.t 30)⟩, oL 33 32, oM 11 33])
  (.ops [oM 34 9, ⟨some 35, none, .bin .shl (.t 34) (.c (.int .u64 8))⟩, oM 36 11, ⟨some 37, none, .conv .u64 (.t 36)⟩, ⟨some 38, none, .bin .or (.t 35) (.t 37)⟩, oM 9 38])))
  (.ops [⟨some 39, none, .bin .add (.t 30) (.c (.int .i64 1))⟩, oM 30 39]))))
def L64_0 : C := .loop (some [9, 28, 29, 30]) B64_0
theorem L64_0_eq {E : Env} (x : St) : ev E L64_0 x = andThen (ev E B64_0 (restr (some [9, 28, 29, 30]) x)) (ev E L64_0) := ev_loop _ _ x
theorem L64_0_lp {E : Env} (s : Slots) (h : Heap) : ev E L64_0 ⟨s, h⟩ = lp E L64_0 (pickS s [9, 28, 29, 30]) h := lp_of L64_0_eq s h
theorem L64_0_go {E : Env} (s : Slots) (h : Heap) : lp E L64_0 s h = andThen (ev E B64_0 ⟨pickS s [9, 28, 29, 30], h⟩) (ev E L64_0) := lp_go L64_0_eq s h
noncomputable def T64_0 (E : Env) (o : Out) : Option (AV × Heap) := outR [(6, none), (7, none)] (andThen (endBlock 0 (some [9, 28, 29, 30]) (o)) (ev E (.seq (.ops [oM 40 9, oM 6 40, ⟨some 7, none, .mov (.c (.int .i64 0))⟩])
  .ret)))
def I64 : Fn_ := ⟨3, 41, [(6, none), (7, none)],
  (.seq (.ops [⟨some 6, none, .mov (.c (.int .u64 0))⟩, ⟨some 7, none, .mov (.c (.int .i64 0))⟩])
  (.seq (.seq (.ops [oM 12 2, ⟨some 13, none, .callF false 75 [(.t 12)]⟩, ⟨some 14, none, .un .not (.t 13)⟩])
  (.cond (.t 14)
  (.seq (.ops [⟨some 6, none, .mov (.c (.int .u64 0))⟩, ⟨some 7, none, .mov (.c (.int .i64 11))⟩])
  .ret)
  .skip))
  (.seq (.seq (.ops [oM 15 0, ⟨some 16, none, .len (.t 15)⟩, oM 17 1, oM 18 2, ⟨some 19, none, .callF false 93 [(.t 16), (.t 17), (.t 18)]⟩, oM 8 19])
  (.seq (.ops [oM 20 8, ⟨some 21, none, .bin .neq (.t 20) (.c (.int .i64 0))⟩])
  (.cond (.t 21)
  (.seq (.ops [oM 22 8, ⟨some 6, none, .mov (.c (.int .u64 0))⟩, oM 7 22])
  .ret)
  .skip)))
  (.seq (.ops [⟨some 9, none, .mov (.c (.int .u64 0))⟩])
  (.seq (.seq (.ops [oM 23 0, oM 24 1, oM 25 1, oM 26 2, ⟨some 27, none, .bin .add (.t 25) (.t 26)⟩, ⟨some 28, none, .slice 1 (.t 23) (some (.t 24)) (some (.t 27))⟩, ⟨some 29, none, .len (.t 28)⟩, ⟨some 30, none, .mov (.c (.int .i64 0))⟩])
  (.block 0 (some [9, 28, 29, 30]) L64_0))
  (.seq (.ops [oM 40 9, oM 6 40, ⟨some 7, none, .mov (.c (.int .i64 0))⟩])
  .ret))))))⟩
/- vizard/vizardref02.New -/
def I65 : Fn_ := ⟨2, 17, [(4, some (true, 2))],
  (.seq (.ops [⟨some 4, none, .alloc true z_2 45⟩])
  (.seq (.seq (.ops [oM 5 1, ⟨some 6, none, .bin .eql (.t 5) (.c (.int .i64 0))⟩, oM 7 6, gM 8 7 false 0, ⟨some 9, (some (7, false)), .callF false 94 [(.t 8)]⟩, ⟨some 10, (some (7, false)), .bin .eql (.t 9) (.c (.str ⟨#[]⟩))⟩, oT 11 7 10])
  (.cond (.t 11)
  (.seq (.ops [⟨some 12, none, .build z_2 []⟩, oS 2 4 12])
  .ret)
  .skip))
  (.seq (.ops [oM 13 0, ⟨some 14, none, .buildR 1 3 [(.t 13)]⟩, oM 15 1, ⟨some 16, none, .build z_2 [(0, 1, (.t 14)), (1, 1, (.t 15))]⟩, oS 2 4 16])
  .ret)))⟩
/- vizard/vizardref09.Sums -/
def I66 : Fn_ := ⟨3, 16, [(6, none)],
  (.seq (.ops [⟨some 6, none, .mov (.c (.bool false))⟩])
  (.seq (.ops [oM 7 1, oM 8 2, oM 9 0, ⟨some 10, none, .len (.t 9)⟩, ⟨some 11, none, .callF false 68 [(.t 7), (.t 8), (.c (.int .i64 6)), (.t 10)]⟩, oM 12 0, ⟨some 13, none, .append 1 1 5 (.t 11) (.t 12)⟩, ⟨some 14, none, .callF false 67 [(.t 13)]⟩, ⟨some 15, none, .bin .eql (.t 14) (.c (.int .u16 65535))⟩, oM 6 15])
  .ret))⟩
/- vizard/vizardref03.Total -/
def B67_0 : C := (.seq (.seq (.ops [oM 6 4, oM 7 0, ⟨some 8, none, .len (.t 7)⟩, ⟨some 9, none, .bin .lss (.t 6) (.t 8)⟩])
  (.cond (.t 9)
  .skip
  (.exit 0)))
  (.seq (.block 1 (some [0, 3, 4]) (.seq (.ops [oM 12 0, oM 13 4, ⟨some 14, none, .iaddr 1 (.t 12) (.t 13)⟩, oL 15 14, ⟨some 16, none, .conv .i64 (.t 15)⟩, ⟨some 17, none, .bin .mul (.t 16) (.c (.int .i64 256))⟩, oM 5 17])
  (.seq (.seq (.ops [oM 18 4, ⟨some 19, none, .bin .add (.t 18) (.c (.int .i64 1))⟩, oM 20 0, ⟨some 21, none, .len (.t 20)⟩, ⟨some 22, none, .bin .lss (.t 19) (.t 21)⟩])
  (.cond (.t 22)
  (.ops [oM 23 5, oM 24 0, oM 25 4, ⟨some 26, none, .bin .add (.t 25) (.c (.int .i64 1))⟩, ⟨some 27, none, .iaddr 1 (.t 24) (.t 26)⟩, oL 28 27, ⟨some 29, none, .conv .i64 (.t 28)⟩, ⟨some 30, none, .bin .add (.t 23) (.t 29)⟩, oM 5 30])
  .skip))
  (.ops [oM 31 3, oM 32 5, ⟨some 33, none, .conv .u16 (.t 32)⟩, ⟨some 34, none, .callF false 95 [(.t 31), (.t 33)]⟩, oM 3 34]))))
  (.ops [oM 10 4, ⟨some 11, none, .bin .add (.t 10) (.c (.int .i64 2))⟩, oM 4 11])))
def L67_0 : C := .loop (some [0, 3, 4]) B67_0
theorem L67_0_eq {E : Env} (x : St) : ev E L67_0 x = andThen (ev E B67_0 (restr (some [0, 3, 4]) x)) (ev E L67_0) := ev_loop _ _ x
theorem L67_0_lp {E : Env} (s : Slots) (h : Heap) : ev E L67_0 ⟨s, h⟩ = lp E L67_0 (pickS s [0, 3, 4]) h := lp_of L67_0_eq s h
theorem L67_0_go {E : Env} (s : Slots) (h : Heap) : lp E L67_0 s h = andThen (ev E B67_0 ⟨pickS s [0, 3, 4], h⟩) (ev E L67_0) := lp_go L67_0_eq s h
noncomputable def T67_0 (E : Env) (o : Out) : Option (AV × Heap) := outR [(2, none)] (andThen (endBlock 0 (some [0, 3, 4]) (o)) (ev E (.seq (.ops [oM 35 3, oM 2 35])
  .ret)))
def I67 : Fn_ := ⟨1, 36, [(2, none)],
  (.seq (.ops [⟨some 2, none, .mov (.c (.int .u16 0))⟩])
  (.seq (.ops [⟨some 3, none, .mov (.c (.int .u16 0))⟩])
  (.seq (.seq (.ops [⟨some 4, none, .mov (.c (.int .i64 0))⟩])
  (.block 0 (some [0, 3, 4]) L67_0))
  (.seq (.ops [oM 35 3, oM 2 35])
  .ret))))⟩
/- vizard/vizardref08.Ends -/
def I68 : Fn_ := ⟨4, 22, [(8, none)],
  (.seq (.ops [⟨some 8, none, .mov (.c (.rs false 1 []))⟩])
  (.seq (.ops [oM 10 0, ⟨some 11, none, .callF false 96 [(.t 10)]⟩, oM 12 1, ⟨some 13, none, .callF false 96 [(.t 12)]⟩, ⟨some 14, none, .append 1 1 5 (.t 11) (.t 13)⟩, oM 9 14])
  (.seq (.ops [oM 15 9, oM 16 2, ⟨some 17, none, .callF false 97 [(.t 16)]⟩, ⟨some 18, none, .append 1 1 5 (.t 15) (.t 17)⟩, oM 19 3, ⟨some 20, none, .callF false 97 [(.t 19)]⟩, ⟨some 21, none, .append 1 1 5 (.t 18) (.t 20)⟩, oM 8 21])
  .ret)))⟩
/- (vizard/icmp.Message).Inner -/
def I69 : Fn_ := ⟨1, 30, [(2, some (true, 8)), (3, none)],
  (.seq (.ops [⟨some 1, none, .boxR true 7 67 (.t 0)⟩, ⟨some 2, none, .alloc true z_0 26⟩, ⟨some 3, none, .mov (.c .nili)⟩])
  (.seq (.seq (.ops [⟨some 6, none, .load true 7 (.t 1)⟩, ⟨some 7, none, .callF true 98 [(.t 6)]⟩, ⟨some 8, none, .bin .neq (.t 7) (.c (.int .i64 1))⟩])
  (.cond (.t 8)
  (.seq (.ops [⟨some 9, none, .build z_0 []⟩, ⟨some 10, none, .callF true 47 [(.c (.int .i64 16)), (.c (.int .i64 14))]⟩, oS 8 2 9, oM 3 10])
  .ret)
  .skip))
  (.seq (.ops [oF 12 6 1, oL 13 12, ⟨some 14, none, .callF true 99 [(.t 13)]⟩, oM 11 14, oE 15 11 0, oE 16 11 1, ⟨some 4, none, .alloc true z_0 26⟩, oS 8 4 15, oM 5 16])
  (.seq (.block 0 (some [2, 4, 5]) (.seq (.ops [oM 18 5, ⟨some 19, none, .eqNl true true (.t 18)⟩, oM 17 19])
  (.cond (.t 17)
  (.seq (.ops [⟨some 20, none, .build z_0 []⟩, oM 21 5, oS 8 2 20, oM 3 21])
  .ret)
  (.seq (.ops [oF 23 7 4, oL 24 23, ⟨some 25, none, .len (.t 24)⟩, ⟨some 26, none, .bin .lss (.t 25) (.c (.int .i64 8))⟩, oM 22 26])
  (.cond (.t 22)
  (.seq (.ops [⟨some 27, none, .build z_0 []⟩, ⟨some 28, none, .callF true 47 [(.c (.int .i64 1)), (.c (.int .i64 12))]⟩, oS 8 2 27, oM 3 28])
  .ret)
  .skip)))))
  (.seq (.ops [⟨some 29, none, .load true 8 (.t 4)⟩, oS 8 2 29, ⟨some 3, none, .mov (.c .nili)⟩])
  .ret)))))⟩
/- vizard/turn.innerEnds$1 -/
def I70 : Fn_ := ⟨2, 15, [(3, none)],
  (.seq (.ops [⟨some 3, none, .mov (.c (.int .u16 0))⟩])
  (.seq (.ops [oF 7 7 1, oL 8 7, oM 9 0, ⟨some 10, none, .callF true 64 [(.t 8), (.t 9), (.c (.int .i64 2))]⟩, oM 6 10, oE 11 6 0, oE 12 6 1, oM 4 11, oM 5 12])
  (.seq (.ops [oM 13 4, ⟨some 14, none, .conv .u16 (.t 13)⟩, oM 3 14])
  .ret)))⟩
/- vizard/vizardref10.Class -/
def I71 : Fn_ := ⟨1, 29, [(2, none)],
  (.seq (.ops [⟨some 1, none, .boxR true 7 90 (.t 0)⟩, ⟨some 2, none, .mov (.c (.int .i64 0))⟩])
  (.seq (.seq (.ops [oF 3 0 1, oL 4 3, ⟨some 5, none, .bin .eql (.t 4) (.c (.int .u8 3))⟩, oM 6 5, gF 7 6 false 0 1, gL 8 6 false 7, ⟨some 9, (some (6, false)), .bin .eql (.t 8) (.c (.int .u8 4))⟩, oT 10 6 9, oM 11 10, gF 12 11 false 0 1, gL 13 11 false 12, ⟨some 14, (some (11, false)), .bin .eql (.t 13) (.c (.int .u8 11))⟩, oT 15 11 14, oM 16 15, gF 17 16 false 0 1, gL 18 16 false 17, ⟨some 19, (some (16, false)), .bin .eql (.t 18) (.c (.int .u8 12))⟩, oT 20 16 19])
  (.cond (.t 20)
  (.seq (.ops [⟨some 2, none, .mov (.c (.int .i64 1))⟩])
  .ret)
  .skip))
  (.seq (.seq (.ops [oF 21 0 1, oL 22 21, ⟨some 23, none, .bin .eql (.t 22) (.c (.int .u8 8))⟩, oM 24 23, gF 25 24 false 0 1, gL 26 24 false 25, ⟨some 27, (some (24, false)), .bin .eql (.t 26) (.c (.int .u8 0))⟩, oT 28 24 27])
  (.cond (.t 28)
  (.seq (.ops [⟨some 2, none, .mov (.c (.int .i64 2))⟩])
  .ret)
  .skip))
  (.seq (.ops [⟨some 2, none, .mov (.c (.int .i64 0))⟩])
  .ret))))⟩
/- vizard/vizardref07.Peek -/
def I72 : Fn_ := ⟨1, 8, [(2, some (true, 8)), (3, some (true, 2))],
  (.seq (.ops [⟨some 2, none, .alloc true z_0 29⟩, ⟨some 3, none, .alloc true z_2 45⟩])
  (.seq (.ops [oM 4 0, ⟨some 5, none, .callF false 100 [(.t 4), (.c (.bool false))]⟩, oE 6 5 0, oE 7 5 1, oS 8 2 6, oS 2 3 7])
  .ret))⟩
/- vizard/vizardref02.Of -/
def I73 : Fn_ := ⟨1, 22, [(2, none)],
  (.seq (.ops [⟨some 2, none, .mov (.c (.int .i64 0))⟩])
  (.seq (.seq (.ops [oM 3 0])
  (.block 0 (some [3]) (.seq (.ops [⟨some 5, none, .bin .eql (.t 3) (.c (.int .i64 0))⟩, oM 4 5])
  (.cond (.t 4)
  (.seq (.ops [⟨some 2, none, .mov (.c (.int .i64 0))⟩])
  .ret)
  (.seq (.ops [⟨some 7, none, .bin .eql (.t 3) (.c (.int .i64 13))⟩, oM 6 7])
  (.cond (.t 6)
  (.seq (.ops [⟨some 2, none, .mov (.c (.int .i64 2))⟩])
  .ret)
  (.seq (.ops [⟨some 9, none, .bin .eql (.t 3) (.c (.int .i64 15))⟩, oM 8 9])
  (.cond (.t 8)
  (.seq (.ops [⟨some 2, none, .mov (.c (.int .i64 3))⟩])
  .ret)
  (.seq (.ops [⟨some 11, none, .bin .eql (.t 3) (.c (.int .i64 21))⟩, oM 10 11])
  (.cond (.t 10)
  (.seq (.ops [⟨some 2, none, .mov (.c (.int .i64 4))⟩])
  .ret)
  (.seq (.ops [⟨some 13, none, .bin .eql (.t 3) (.c (.int .i64 20))⟩, oM 12 13])
  (.cond (.t 12)
  (.seq (.ops [⟨some 2, none, .mov (.c (.int .i64 5))⟩])
  .ret)
  (.seq (.ops [⟨some 15, none, .bin .eql (.t 3) (.c (.int .i64 18))⟩, oM 14 15])
  (.cond (.t 14)
  (.seq (.ops [⟨some 2, none, .mov (.c (.int .i64 11))⟩])
  .ret)
  (.seq (.ops [⟨some 17, none, .bin .eql (.t 3) (.c (.int .i64 19))⟩, oM 16 17])
  (.cond (.t 16)
  (.seq (.ops [⟨some 2, none, .mov (.c (.int .i64 9))⟩])
  .ret)
  (.seq (.ops [⟨some 19, none, .bin .eql (.t 3) (.c (.int .i64 14))⟩, oM 18 19])
  (.cond (.t 18)
  (.seq (.ops [⟨some 2, none, .mov (.c (.int .i64 16))⟩])
  .ret)
  (.seq (.ops [⟨some 21, none, .bin .eql (.t 3) (.c (.int .i64 22))⟩, oM 20 21])
  (.cond (.t 20)
  (.seq (.ops [⟨some 2, none, .mov (.c (.int .i64 19))⟩])
  .ret)
  .skip))))))))))))))))))))
  (.seq (.ops [⟨some 2, none, .mov (.c (.int .i64 1))⟩])
  .ret)))⟩
/- vizard/why.known -/
def I74 : Fn_ := ⟨1, 9, [(2, none)],
  (.seq (.ops [⟨some 2, none, .mov (.c (.bool false))⟩])
  (.seq (.ops [oM 3 0, ⟨some 4, none, .bin .geq (.t 3) (.c (.int .i64 1))⟩, oM 5 4, gM 6 5 true 0, ⟨some 7, (some (5, true)), .bin .lss (.t 6) (.c (.int .i64 20))⟩, oN 8 5 7, oM 2 8])
  .ret))⟩
/- vizard/word.sized -/
def I75 : Fn_ := ⟨1, 9, [(2, none)],
  (.seq (.ops [⟨some 2, none, .mov (.c (.bool false))⟩])
  (.seq (.ops [oM 3 0, ⟨some 4, none, .bin .geq (.t 3) (.c (.int .i64 1))⟩, oM 5 4, gM 6 5 true 0, ⟨some 7, (some (5, true)), .bin .leq (.t 6) (.c (.int .i64 8))⟩, oN 8 5 7, oM 2 8])
  .ret))⟩
/- vizard/word.number -/
def B76_0 : C := (.seq (.seq (.ops [oM 25 7, ⟨some 26, none, .bin .geq (.t 25) (.c (.int .i64 0))⟩])
  (.cond (.t 26)
  .skip
  (.exit 0)))
  (.seq (.block 1 (some [0, 6, 7]) (.ops [oM 29 6, oM 30 0, oM 31 7, ⟨some 32, none, .bin .shr (.t 30) (.t 31)⟩, ⟨some 33, none, .conv .u8 (.t 32)⟩, ⟨some 34, none, .buildR 1 5 [(.t 33)]⟩, ⟨some 35, none, .append 1 1 5 (.t 29) (.t 34)⟩, oM 6 35]))
  (.ops [oM 27 7, ⟨some 28, none, .bin .sub (.t 27) (.c (.int .i64 8))⟩, oM 7 28])))
def L76_0 : C := .loop (some [0, 6, 7]) B76_0
theorem L76_0_eq {E : Env} (x : St) : ev E L76_0 x = andThen (ev E B76_0 (restr (some [0, 6, 7]) x)) (ev E L76_0) := ev_loop _ _ x
theorem L76_0_lp {E : Env} (s : Slots) (h : Heap) : ev E L76_0 ⟨s, h⟩ = lp E L76_0 (pickS s [0, 6, 7]) h := lp_of L76_0_eq s h
theorem L76_0_go {E : Env} (s : Slots) (h : Heap) : lp E L76_0 s h = andThen (ev E B76_0 ⟨pickS s [0, 6, 7], h⟩) (ev E L76_0) := lp_go L76_0_eq s h
noncomputable def T76_0 (E : Env) (o : Out) : Option (AV × Heap) := outR [(4, none), (5, none)] (andThen (endBlock 0 (some [0, 6, 7]) (o)) (ev E (.seq (.ops [oM 36 6, oM 4 36, ⟨some 5, none, .mov (.c (.int .i64 0))⟩])
  .ret)))
def I76 : Fn_ := ⟨2, 37, [(4, none), (5, none)],
  (.seq (.ops [⟨some 4, none, .mov (.c (.rs false 1 []))⟩, ⟨some 5, none, .mov (.c (.int .i64 0))⟩])
  (.seq (.seq (.ops [oM 8 1, ⟨some 9, none, .callF false 75 [(.t 8)]⟩, ⟨some 10, none, .un .not (.t 9)⟩, oM 11 10, gM 12 11 false 1, ⟨some 13, (some (11, false)), .bin .lss (.t 12) (.c (.int .i64 8))⟩, gM 14 11 false 13, gM 15 14 true 0, gM 16 14 true 1, ⟨some 17, (some (14, true)), .bin .mul (.c (.int .i64 8)) (.t 16)⟩, ⟨some 18, (some (14, true)), .bin .shr (.t 15) (.t 17)⟩, ⟨some 19, (some (14, true)), .bin .neq (.t 18) (.c (.int .u64 0))⟩, ⟨some 20, (some (11, false)), .pick (.t 14) (.t 19) (.c (.bool false))⟩, oT 21 11 20])
  (.cond (.t 21)
  (.seq (.ops [⟨some 4, none, .mov (.c (.rs false 1 []))⟩, ⟨some 5, none, .mov (.c (.int .i64 11))⟩])
  .ret)
  .skip))
  (.seq (.ops [⟨some 6, none, .nilrow 1 5⟩])
  (.seq (.seq (.ops [oM 22 1, ⟨some 23, none, .bin .sub (.t 22) (.c (.int .i64 1))⟩, ⟨some 24, none, .bin .mul (.c (.int .i64 8)) (.t 23)⟩, oM 7 24])
  (.block 0 (some [0, 6, 7]) L76_0))
  (.seq (.ops [oM 36 6, oM 4 36, ⟨some 5, none, .mov (.c (.int .i64 0))⟩])
  .ret)))))⟩
/- vizard/word.Patch -/
def I78 : Fn_ := ⟨3, 27, [(6, none), (7, none)],
  (.seq (.ops [⟨some 6, none, .mov (.c (.rs false 1 []))⟩, ⟨some 7, none, .mov (.c (.int .i64 0))⟩])
  (.seq (.seq (.ops [oM 10 0, ⟨some 11, none, .len (.t 10)⟩, oM 12 1, oM 13 2, ⟨some 14, none, .len (.t 13)⟩, ⟨some 15, none, .callF false 93 [(.t 11), (.t 12), (.t 14)]⟩, oM 8 15])
  (.seq (.ops [oM 16 8, ⟨some 17, none, .bin .neq (.t 16) (.c (.int .i64 0))⟩])
  (.cond (.t 17)
  (.seq (.ops [oM 18 8, ⟨some 6, none, .mov (.c (.rs false 1 []))⟩, oM 7 18])
  .ret)
  .skip)))
  (.seq (.ops [oM 19 0, ⟨some 20, none, .callF false 43 [(.t 19)]⟩, oM 9 20])
  (.seq (.ops [oM 21 9, oM 22 1, ⟨some 23, none, .slice 1 (.t 21) (some (.t 22)) none⟩, oM 24 2, ⟨some 25, none, .copy 1 (.t 23) (.t 24)⟩])
  (.seq (.ops [oM 26 9, oM 6 26, ⟨some 7, none, .mov (.c (.int .i64 0))⟩])
  .ret)))))⟩
/- vizard/turn.lay -/
def I79 : Fn_ := ⟨3, 18, [(6, none)],
  (.seq (.ops [⟨some 6, none, .mov (.c (.rs false 1 []))⟩])
  (.seq (.ops [oM 10 0, oM 11 1, oM 12 2, ⟨some 13, none, .conv .u64 (.t 12)⟩, ⟨some 14, none, .callF true 51 [(.t 10), (.t 11), (.c (.int .i64 2)), (.t 13)]⟩, oM 9 14, oE 15 9 0, oE 16 9 1, oM 7 15, oM 8 16])
  (.seq (.ops [oM 17 7, oM 6 17])
  .ret)))⟩
/- vizard/turn.patched -/
def I80 : Fn_ := ⟨4, 30, [(8, none)],
  (.seq (.ops [⟨some 8, none, .mov (.c (.int .u16 0))⟩])
  (.seq (.ops [oM 14 0, oM 15 1, ⟨some 16, none, .callF true 64 [(.t 14), (.t 15), (.c (.int .i64 2))]⟩, oM 13 16, oE 17 13 0, oE 18 13 1, oM 9 17, oM 10 18])
  (.seq (.ops [oM 20 9, ⟨some 21, none, .conv .u16 (.t 20)⟩, oM 22 2, oM 23 3, ⟨some 24, none, .callF true 104 [(.t 21), (.t 22), (.t 23)]⟩, oM 19 24, oE 25 19 0, oE 26 19 1, oM 11 25, oM 12 26])
  (.seq (.seq (.ops [oM 27 11, ⟨some 28, none, .bin .eql (.t 27) (.c (.int .u16 65535))⟩])
  (.cond (.t 28)
  (.seq (.ops [⟨some 8, none, .mov (.c (.int .u16 0))⟩])
  .ret)
  .skip))
  (.seq (.ops [oM 29 11, oM 8 29])
  .ret)))))⟩
/- vizard/turn.row -/
def I81 : Fn_ := ⟨1, 26, [(2, none)],
  (.seq (.ops [⟨some 1, none, .boxR true 2 32 (.t 0)⟩, ⟨some 2, none, .mov (.c (.rs false 1 []))⟩])
  (.seq (.ops [oF 8 0 1, oL 9 8, ⟨some 10, none, .conv .u64 (.t 9)⟩, ⟨some 11, none, .buildR 1 108 [(.t 10)]⟩, ⟨some 12, none, .callF false 48 [(.c (.int .i64 4)), (.t 11)]⟩, oM 7 12, oE 13 7 0, oE 14 7 1, oM 3 13, oM 4 14])
  (.seq (.ops [oF 16 1 1, oL 17 16, ⟨some 18, none, .conv .u64 (.t 17)⟩, ⟨some 19, none, .buildR 1 108 [(.t 18)]⟩, ⟨some 20, none, .callF true 48 [(.c (.int .i64 2)), (.t 19)]⟩, oM 15 20, oE 21 15 0, oE 22 15 1, oM 5 21, oM 6 22])
  (.seq (.ops [oM 23 3, oM 24 5, ⟨some 25, none, .append 1 1 5 (.t 23) (.t 24)⟩, oM 2 25])
  .ret))))⟩
/- (vizard/icmp.Message).Marked -/
def I82 : Fn_ := ⟨2, 26, [(4, some (true, 7))],
  (.seq (.ops [⟨some 2, none, .boxR true 7 67 (.t 0)⟩, ⟨some 4, none, .alloc true z_5 67⟩])
  (.seq (.ops [⟨some 8, none, .faddr true 2 4 (.t 2)⟩, ⟨some 9, none, .sliceA 4 1 (.t 8) none none⟩, oM 10 1, ⟨some 11, none, .conv .u64 (.t 10)⟩, ⟨some 12, none, .callF true 51 [(.t 9), (.c (.int .i64 0)), (.c (.int .i64 2)), (.t 11)]⟩, oM 7 12, oE 13 7 0, oE 14 7 1, oM 5 13, oM 6 14])
  (.seq (.ops [oF 15 0 2, oL 16 15, oF 17 1 2, oL 18 17, oM 19 5, ⟨some 20, none, .s2a 4 1 (.t 19)⟩, ⟨some 21, none, .load true 4 (.t 20)⟩, oF 22 6 2, oL 23 22, ⟨some 24, none, .callF true 43 [(.t 23)]⟩, ⟨some 25, none, .build z_5 [(0, 1, (.t 16)), (1, 1, (.t 18)), (2, 4, (.t 21)), (6, 1, (.t 24))]⟩, oS 7 4 25])
  .ret)))⟩
/- slices.Grow[[]byte,byte] -/
def I83 : Fn_ := ⟨2, 27, [(4, none)],
  (.seq (.ops [⟨some 4, none, .mov (.c (.rs false 1 []))⟩])
  (.seq (.seq (.ops [oM 5 1, ⟨some 6, none, .bin .lss (.t 5) (.c (.int .i64 0))⟩])
  (.cond (.t 6)
  (.ops [⟨some 7, none, .mkIf 9 (.c (.str ⟨#[99, 97, 110, 110, 111, 116, 32, 98, 101, 32, 110, 101, 103, 97, 116, 105, 118, 101]⟩))⟩, ⟨none, none, .fail⟩])
  .skip))
  (.seq (.seq (.ops [oM 8 1, oM 9 0, ⟨some 10, none, .capNil (.t 9)⟩, oM 11 0, ⟨some 12, none, .len (.t 11)⟩, ⟨some 13, none, .bin .sub (.t 10) (.t 12)⟩, ⟨some 14, none, .bin .sub (.t 8) (.t 13)⟩, oM 1 14])
  (.seq (.ops [oM 15 1, ⟨some 16, none, .bin .gtr (.t 15) (.c (.int .i64 0))⟩])
  (.cond (.t 16)
  (.ops [oM 17 0, oM 18 0, ⟨some 19, none, .capNil (.t 18)⟩, ⟨some 20, none, .trunc 1 (.t 17) (.t 19)⟩, oM 21 1, ⟨some 22, none, .appMk 1 1 5 [(.int .u8 0)] (.t 20) (.t 21)⟩, oM 23 0, ⟨some 24, none, .len (.t 23)⟩, ⟨some 25, none, .trunc 1 (.t 22) (.t 24)⟩, oM 0 25])
  .skip)))
  (.seq (.ops [oM 26 0, oM 4 26])
  .ret))))⟩
/- (*vizard/turn.patch).sums -/
def I84 : Fn_ := ⟨2, 28, [(4, none)],
  (.seq (.ops [⟨some 4, none, .mov (.c (.rs false 1 []))⟩])
  (.seq (.seq (.ops [oM 7 1])
  (.block 0 (some [0, 7]) (.seq (.ops [⟨some 9, none, .bin .eql (.t 7) (.c (.int .u8 6))⟩, oM 8 9])
  (.cond (.t 8)
  (.seq (.ops [⟨some 10, none, .buildR 1 3 [(.c (.int .i64 36))]⟩, oM 4 10])
  .ret)
  (.seq (.ops [⟨some 12, none, .bin .eql (.t 7) (.c (.int .u8 17))⟩, oM 11 12])
  (.cond (.t 11)
  (.seq (.ops [oM 14 0, ⟨some 15, none, .nilChk (.t 14)⟩, oF 16 0 15, oL 17 16, ⟨some 18, none, .callF true 64 [(.t 17), (.c (.int .i64 26)), (.c (.int .i64 2))]⟩, oM 13 18, oE 19 13 0, oE 20 13 1, oM 5 19, oM 6 20])
  (.seq (.ops [oM 21 6, ⟨some 22, none, .bin .eql (.t 21) (.c (.int .i64 0))⟩, oM 23 22, gM 24 23 true 5, ⟨some 25, (some (23, true)), .bin .neq (.t 24) (.c (.int .u64 0))⟩, oN 26 23 25])
  (.cond (.t 26)
  (.seq (.ops [⟨some 27, none, .buildR 1 3 [(.c (.int .i64 26))]⟩, oM 4 27])
  .ret)
  .skip)))
  .skip))))))
  (.seq (.ops [⟨some 4, none, .mov (.c (.rs false 1 []))⟩])
  .ret)))⟩
/- (*vizard/turn.patch).at -/
def B85_0 : C := (.seq (.ops [⟨some 42, none, .bin .lss (.t 41) (.t 40)⟩])
  (.seq (.cond (.t 42)
  .skip
  (.exit 0))
  (.seq (.block 1 (some [0, 2, 8, 39, 40, 41]) (.seq (.ops [⟨some 43, none, .iaddr 1 (.t 39) (.t 41)⟩, oL 44 43, oM 10 44])
  (.seq (.ops [oM 46 0, ⟨some 47, none, .nilChk (.t 46)⟩, oF 48 0 47, oL 49 48, oM 50 10, ⟨some 51, none, .callF true 64 [(.t 49), (.t 50), (.c (.int .i64 2))]⟩, oM 45 51, oE 52 45 0, oE 53 45 1, oM 11 52, oM 12 53])
  (.seq (.ops [oM 54 12, ⟨some 55, none, .bin .eql (.t 54) (.c (.int .i64 0))⟩])
  (.cond (.t 55)
  (.seq (.ops [oM 57 11, ⟨some 58, none, .conv .u16 (.t 57)⟩, oM 59 8, oM 60 2, ⟨some 61, none, .callF true 104 [(.t 58), (.t 59), (.t 60)]⟩, oM 56 61, oE 62 56 0, oE 63 56 1, oM 13 62, oM 14 63])
  (.ops [oM 64 0, oM 65 0, ⟨some 66, none, .nilChk (.t 65)⟩, oF 67 0 66, oL 68 67, oM 69 10, oM 70 13, ⟨some 71, none, .callF true 79 [(.t 68), (.t 69), (.t 70)]⟩, ⟨some 72, none, .nilChk (.t 64)⟩, oF 73 0 72, oS 1 73 71]))
  .skip)))))
  (.ops [⟨some 74, none, .bin .add (.t 41) (.c (.int .i64 1))⟩, oM 41 74]))))
def L85_0 : C := .loop (some [0, 2, 8, 39, 40, 41]) B85_0
theorem L85_0_eq {E : Env} (x : St) : ev E L85_0 x = andThen (ev E B85_0 (restr (some [0, 2, 8, 39, 40, 41]) x)) (ev E L85_0) := ev_loop _ _ x
theorem L85_0_lp {E : Env} (s : Slots) (h : Heap) : ev E L85_0 ⟨s, h⟩ = lp E L85_0 (pickS s [0, 2, 8, 39, 40, 41]) h := lp_of L85_0_eq s h
theorem L85_0_go {E : Env} (s : Slots) (h : Heap) : lp E L85_0 s h = andThen (ev E B85_0 ⟨pickS s [0, 2, 8, 39, 40, 41], h⟩) (ev E L85_0) := lp_go L85_0_eq s h
noncomputable def T85_0 (E : Env) (o : Out) : Option (AV × Heap) := outR [] (endBlock 0 (some [0, 2, 8, 39, 40, 41]) (o))
def I85 : Fn_ := ⟨4, 75, [],
  (.seq (.ops [oM 15 0, ⟨some 16, none, .nilChk (.t 15)⟩, oF 17 0 16, oL 18 17, oM 19 1, oM 20 1, oM 21 2, ⟨some 22, none, .len (.t 21)⟩, ⟨some 23, none, .bin .add (.t 20) (.t 22)⟩, ⟨some 24, none, .slice 1 (.t 18) (some (.t 19)) (some (.t 23))⟩, ⟨some 25, none, .callF true 43 [(.t 24)]⟩, oM 8 25])
  (.seq (.ops [oM 27 0, oM 28 0, ⟨some 29, none, .nilChk (.t 28)⟩, oF 30 0 29, oL 31 30, oM 32 1, oM 33 2, ⟨some 34, none, .callF true 78 [(.t 31), (.t 32), (.t 33)]⟩, oM 26 34, oE 35 26 0, oE 36 26 1, ⟨some 37, none, .nilChk (.t 27)⟩, oF 38 0 37, oS 1 38 35])
  (.seq (.ops [oM 39 3, ⟨some 40, none, .len (.t 39)⟩, ⟨some 41, none, .mov (.c (.int .i64 0))⟩])
  (.block 0 (some [0, 2, 8, 39, 40, 41]) L85_0))))⟩
/- vizard/tcp.ends -/
def I92 : Fn_ := ⟨3, 31, [(6, none)],
  (.seq (.ops [⟨some 6, none, .mov (.c (.rs false 1 []))⟩])
  (.seq (.ops [oM 12 0, ⟨some 13, none, .conv .u64 (.t 12)⟩, oM 14 1, ⟨some 15, none, .conv .u64 (.t 14)⟩, ⟨some 16, none, .buildR 1 108 [(.t 13), (.t 15)]⟩, ⟨some 17, none, .callF false 48 [(.c (.int .i64 4)), (.t 16)]⟩, oM 11 17, oE 18 11 0, oE 19 11 1, oM 7 18, oM 8 19])
  (.seq (.ops [oM 21 2, ⟨some 22, none, .conv .u16 (.t 21)⟩, ⟨some 23, none, .conv .u64 (.t 22)⟩, ⟨some 24, none, .buildR 1 108 [(.c (.int .u64 6)), (.t 23)]⟩, ⟨some 25, none, .callF false 48 [(.c (.int .i64 2)), (.t 24)]⟩, oM 20 25, oE 26 20 0, oE 27 20 1, oM 9 26, oM 10 27])
  (.seq (.ops [oM 28 7, oM 29 9, ⟨some 30, none, .append 1 1 5 (.t 28) (.t 29)⟩, oM 6 30])
  .ret))))⟩
/- vizard/word.span -/
def I93 : Fn_ := ⟨3, 21, [(6, none)],
  (.seq (.ops [⟨some 6, none, .mov (.c (.int .i64 0))⟩])
  (.seq (.block 0 (some [0, 1, 2]) (.seq (.ops [oM 8 1, ⟨some 9, none, .bin .lss (.t 8) (.c (.int .i64 0))⟩, oM 7 9])
  (.cond (.t 7)
  (.seq (.ops [⟨some 6, none, .mov (.c (.int .i64 11))⟩])
  .ret)
  (.seq (.ops [oM 11 1, oM 12 0, ⟨some 13, none, .bin .gtr (.t 11) (.t 12)⟩, oM 14 13, gM 15 14 false 2, gM 16 14 false 0, gM 17 14 false 1, ⟨some 18, (some (14, false)), .bin .sub (.t 16) (.t 17)⟩, ⟨some 19, (some (14, false)), .bin .gtr (.t 15) (.t 18)⟩, oT 20 14 19, oM 10 20])
  (.cond (.t 10)
  (.seq (.ops [⟨some 6, none, .mov (.c (.int .i64 12))⟩])
  .ret)
  .skip)))))
  (.seq (.ops [⟨some 6, none, .mov (.c (.int .i64 0))⟩])
  .ret)))⟩
/- vizard/vizardref02.Word -/
def I94 : Fn_ := ⟨1, 13, [(2, none)],
  (.seq (.ops [⟨some 2, none, .mov (.c (.str ⟨#[]⟩))⟩])
  (.seq (.seq (.ops [oM 3 0, ⟨some 4, none, .bin .lss (.t 3) (.c (.int .i64 1))⟩, oM 5 4, gM 6 5 false 0, ⟨some 7, (some (5, false)), .bin .gtr (.t 6) (.c (.int .i64 19))⟩, oT 8 5 7])
  (.cond (.t 8)
  (.seq (.ops [⟨some 2, none, .mov (.c (.str ⟨#[]⟩))⟩])
  .ret)
  .skip))
  (.seq (.ops [⟨some 9, none, .callF false 107 []⟩, oM 10 0, ⟨some 11, none, .iaddr 1 (.t 9) (.t 10)⟩, oL 12 11, oM 2 12])
  .ret)))⟩
/- vizard/vizardref03.Add -/
def I95 : Fn_ := ⟨2, 17, [(4, none)],
  (.seq (.ops [⟨some 4, none, .mov (.c (.int .u16 0))⟩])
  (.seq (.ops [oM 6 0, ⟨some 7, none, .conv .i64 (.t 6)⟩, oM 8 1, ⟨some 9, none, .conv .i64 (.t 8)⟩, ⟨some 10, none, .bin .add (.t 7) (.t 9)⟩, oM 5 10])
  (.seq (.seq (.ops [oM 11 5, ⟨some 12, none, .bin .gtr (.t 11) (.c (.int .i64 65535))⟩])
  (.cond (.t 12)
  (.ops [oM 13 5, ⟨some 14, none, .bin .sub (.t 13) (.c (.int .i64 65535))⟩, oM 5 14])
  .skip))
  (.seq (.ops [oM 15 5, ⟨some 16, none, .conv .u16 (.t 15)⟩, oM 4 16])
  .ret))))⟩
/- vizard/vizardref06.Four -/
def I96 : Fn_ := ⟨1, 18, [(2, none)],
  (.seq (.ops [⟨some 2, none, .mov (.c (.rs false 1 []))⟩])
  (.seq (.ops [oM 3 0, ⟨some 4, none, .bin .quo (.t 3) (.c (.int .u32 16777216))⟩, ⟨some 5, none, .conv .u8 (.t 4)⟩, oM 6 0, ⟨some 7, none, .bin .quo (.t 6) (.c (.int .u32 65536))⟩, ⟨some 8, none, .bin .rem (.t 7) (.c (.int .u32 256))⟩, ⟨some 9, none, .conv .u8 (.t 8)⟩, oM 10 0, ⟨some 11, none, .bin .quo (.t 10) (.c (.int .u32 256))⟩, ⟨some 12, none, .bin .rem (.t 11) (.c (.int .u32 256))⟩, ⟨some 13, none, .conv .u8 (.t 12)⟩, oM 14 0, ⟨some 15, none, .bin .rem (.t 14) (.c (.int .u32 256))⟩, ⟨some 16, none, .conv .u8 (.t 15)⟩, ⟨some 17, none, .buildSl 1 5 [(.t 5), (.t 9), (.t 13), (.t 16)]⟩, oM 2 17])
  .ret))⟩
/- vizard/vizardref07.Two -/
def I97 : Fn_ := ⟨1, 11, [(2, none)],
  (.seq (.ops [⟨some 2, none, .mov (.c (.rs false 1 []))⟩])
  (.seq (.ops [oM 3 0, ⟨some 4, none, .bin .quo (.t 3) (.c (.int .i64 256))⟩, ⟨some 5, none, .bin .rem (.t 4) (.c (.int .i64 256))⟩, ⟨some 6, none, .conv .u8 (.t 5)⟩, oM 7 0, ⟨some 8, none, .bin .rem (.t 7) (.c (.int .i64 256))⟩, ⟨some 9, none, .conv .u8 (.t 8)⟩, ⟨some 10, none, .buildSl 1 5 [(.t 6), (.t 9)]⟩, oM 2 10])
  .ret))⟩
/- (vizard/icmp.Message).Class -/
def I98 : Fn_ := ⟨1, 14, [(2, none)],
  (.seq (.ops [⟨some 1, none, .boxR true 7 67 (.t 0)⟩, ⟨some 2, none, .mov (.c (.int .i64 0))⟩])
  (.seq (.seq (.ops [oF 3 0 1, oL 4 3])
  (.block 0 (some [4]) (.seq (.block 3 (some [4]) (.seq (.block 2 (some [4]) (.block 1 (some [4]) (.seq (.seq (.seq (.seq (.ops [⟨some 6, none, .bin .eql (.t 4) (.c (.int .u8 3))⟩, oM 5 6])
  (.cond (.t 5)
  .skip
  (.ops [⟨some 7, none, .bin .eql (.t 4) (.c (.int .u8 11))⟩, oM 5 7])))
  (.cond (.t 5)
  (.exit 1)
  .skip))
  (.seq (.seq (.seq (.ops [⟨some 9, none, .bin .eql (.t 4) (.c (.int .u8 4))⟩, oM 8 9])
  (.cond (.t 8)
  .skip
  (.ops [⟨some 10, none, .bin .eql (.t 4) (.c (.int .u8 12))⟩, oM 8 10])))
  (.cond (.t 8)
  (.exit 2)
  .skip))
  (.seq (.seq (.ops [⟨some 12, none, .bin .eql (.t 4) (.c (.int .u8 8))⟩, oM 11 12])
  (.cond (.t 11)
  .skip
  (.ops [⟨some 13, none, .bin .eql (.t 4) (.c (.int .u8 0))⟩, oM 11 13])))
  (.cond (.t 11)
  (.exit 3)
  .skip))))
  (.exit 0))))
  (.seq (.seq (.ops [⟨some 2, none, .mov (.c (.int .i64 1))⟩])
  .ret)
  (.exit 0))))
  (.seq (.seq (.ops [⟨some 2, none, .mov (.c (.int .i64 2))⟩])
  .ret)
  (.exit 0)))))
  (.seq (.ops [⟨some 2, none, .mov (.c (.int .i64 0))⟩])
  .ret)))⟩
/- vizard/inet.Peek -/
def I99 : Fn_ := ⟨1, 20, [(2, some (true, 8)), (3, none)],
  (.seq (.ops [⟨some 2, none, .alloc true z_0 26⟩, ⟨some 3, none, .mov (.c .nili)⟩])
  (.seq (.ops [oM 7 0, ⟨some 8, none, .callF true 108 [(.t 7), (.c (.fn 109 []))]⟩, oM 6 8, oE 9 6 0, oE 10 6 1, ⟨some 4, none, .alloc true z_9 200⟩, oS 2 4 9, oM 5 10])
  (.seq (.seq (.ops [oM 11 5, ⟨some 12, none, .eqNl true true (.t 11)⟩])
  (.cond (.t 12)
  (.seq (.ops [⟨some 13, none, .build z_0 []⟩, oM 14 5, oS 8 2 13, oM 3 14])
  .ret)
  .skip))
  (.seq (.ops [oM 15 0, ⟨some 16, none, .load true 2 (.t 4)⟩, ⟨some 17, none, .callF true 110 [(.t 15), (.t 16)]⟩, oE 18 17 0, oE 19 17 1, oS 8 2 18, oM 3 19])
  .ret))))⟩
/- vizard/vizardref07.parse -/
def I100 : Fn_ := ⟨2, 134, [(4, some (true, 8)), (5, some (true, 2))],
  (.seq (.ops [⟨some 4, none, .alloc true z_0 29⟩, ⟨some 5, none, .alloc true z_2 45⟩])
  (.seq (.seq (.ops [oM 10 0, ⟨some 11, none, .len (.t 10)⟩, ⟨some 12, none, .bin .lss (.t 11) (.c (.int .i64 20))⟩])
  (.cond (.t 12)
  (.seq (.ops [⟨some 13, none, .build z_0 []⟩, ⟨some 14, none, .callF false 65 [(.c (.int .i64 1)), (.c (.int .i64 12))]⟩, oS 8 4 13, oS 2 5 14])
  .ret)
  .skip))
  (.seq (.seq (.ops [oM 15 0, ⟨some 16, none, .iaddr 1 (.t 15) (.c (.int .i64 0))⟩, oL 17 16, ⟨some 18, none, .bin .quo (.t 17) (.c (.int .u8 16))⟩, ⟨some 19, none, .bin .neq (.t 18) (.c (.int .u8 4))⟩])
  (.cond (.t 19)
  (.seq (.ops [⟨some 20, none, .build z_0 []⟩, ⟨some 21, none, .callF false 65 [(.c (.int .i64 3)), (.c (.int .i64 15))]⟩, oS 8 4 20, oS 2 5 21])
  .ret)
  .skip))
  (.seq (.ops [oM 22 0, ⟨some 23, none, .iaddr 1 (.t 22) (.c (.int .i64 0))⟩, oL 24 23, ⟨some 25, none, .bin .rem (.t 24) (.c (.int .u8 16))⟩, ⟨some 26, none, .conv .i64 (.t 25)⟩, ⟨some 27, none, .bin .mul (.t 26) (.c (.int .i64 4))⟩, oM 6 27])
  (.seq (.seq (.ops [oM 28 6, ⟨some 29, none, .bin .lss (.t 28) (.c (.int .i64 20))⟩])
  (.cond (.t 29)
  (.seq (.ops [⟨some 30, none, .build z_0 []⟩, ⟨some 31, none, .callF false 65 [(.c (.int .i64 1)), (.c (.int .i64 10))]⟩, oS 8 4 30, oS 2 5 31])
  .ret)
  .skip))
  (.seq (.ops [oM 32 0, ⟨some 33, none, .iaddr 1 (.t 32) (.c (.int .i64 2))⟩, oL 34 33, ⟨some 35, none, .conv .i64 (.t 34)⟩, ⟨some 36, none, .bin .mul (.t 35) (.c (.int .i64 256))⟩, oM 37 0, ⟨some 38, none, .iaddr 1 (.t 37) (.c (.int .i64 3))⟩, oL 39 38, ⟨some 40, none, .conv .i64 (.t 39)⟩, ⟨some 41, none, .bin .add (.t 36) (.t 40)⟩, oM 7 41])
  (.seq (.seq (.ops [oM 42 0, ⟨some 43, none, .len (.t 42)⟩, oM 44 6, ⟨some 45, none, .bin .lss (.t 43) (.t 44)⟩, oM 46 45, gM 47 46 false 1, gM 48 46 false 47, gM 49 48 true 0, ⟨some 50, (some (48, true)), .len (.t 49)⟩, gM 51 48 true 7, ⟨some 52, (some (48, true)), .bin .lss (.t 50) (.t 51)⟩, ⟨some 53, (some (46, false)), .pick (.t 48) (.t 52) (.c (.bool false))⟩, oT 54 46 53])
  (.cond (.t 54)
  (.seq (.ops [⟨some 55, none, .build z_0 []⟩, ⟨some 56, none, .callF false 65 [(.c (.int .i64 1)), (.c (.int .i64 12))]⟩, oS 8 4 55, oS 2 5 56])
  .ret)
  .skip))
  (.seq (.seq (.ops [oM 57 7, oM 58 6, ⟨some 59, none, .bin .lss (.t 57) (.t 58)⟩])
  (.cond (.t 59)
  (.seq (.ops [⟨some 60, none, .build z_0 []⟩, ⟨some 61, none, .callF false 65 [(.c (.int .i64 1)), (.c (.int .i64 10))]⟩, oS 8 4 60, oS 2 5 61])
  .ret)
  .skip))
  (.seq (.seq (.ops [oM 62 1, oM 63 62, gM 64 63 true 0, gM 65 63 true 6, ⟨some 66, (some (63, true)), .slice 1 (.t 64) none (some (.t 65))⟩, ⟨some 67, (some (63, true)), .callF false 67 [(.t 66)]⟩, ⟨some 68, (some (63, true)), .bin .neq (.t 67) (.c (.int .u16 65535))⟩, oN 69 63 68])
  (.cond (.t 69)
  (.seq (.ops [⟨some 70, none, .build z_0 []⟩, ⟨some 71, none, .callF false 65 [(.c (.int .i64 2)), (.c (.int .i64 13))]⟩, oS 8 4 70, oS 2 5 71])
  .ret)
  .skip))
  (.seq (.seq (.ops [oM 72 6, ⟨some 73, none, .bin .gtr (.t 72) (.c (.int .i64 20))⟩])
  (.cond (.t 73)
  (.seq (.ops [⟨some 74, none, .build z_0 []⟩, ⟨some 75, none, .callF false 65 [(.c (.int .i64 4)), (.c (.int .i64 21))]⟩, oS 8 4 74, oS 2 5 75])
  .ret)
  .skip))
  (.seq (.ops [oM 76 0, ⟨some 77, none, .iaddr 1 (.t 76) (.c (.int .i64 6))⟩, oL 78 77, ⟨some 79, none, .conv .i64 (.t 78)⟩, ⟨some 80, none, .bin .mul (.t 79) (.c (.int .i64 256))⟩, oM 81 0, ⟨some 82, none, .iaddr 1 (.t 81) (.c (.int .i64 7))⟩, oL 83 82, ⟨some 84, none, .conv .i64 (.t 83)⟩, ⟨some 85, none, .bin .add (.t 80) (.t 84)⟩, oM 8 85])
  (.seq (.seq (.ops [oM 86 8, ⟨some 87, none, .bin .neq (.t 86) (.c (.int .i64 0))⟩, oM 88 87, gM 89 88 true 8, ⟨some 90, (some (88, true)), .bin .neq (.t 89) (.c (.int .i64 16384))⟩, oN 91 88 90])
  (.cond (.t 91)
  (.seq (.ops [⟨some 92, none, .build z_0 []⟩, ⟨some 93, none, .callF false 65 [(.c (.int .i64 5)), (.c (.int .i64 20))]⟩, oS 8 4 92, oS 2 5 93])
  .ret)
  .skip))
  (.seq (.ops [⟨some 94, none, .buildSl 1 5 []⟩, oM 95 0, oM 96 6, oM 97 7, oM 98 0, ⟨some 99, none, .len (.t 98)⟩, ⟨some 100, none, .mm false [(.t 97), (.t 99)]⟩, ⟨some 101, none, .slice 1 (.t 95) (some (.t 96)) (some (.t 100))⟩, ⟨some 102, none, .append 1 1 5 (.t 94) (.t 101)⟩, oM 9 102])
  (.seq (.ops [oM 103 0, ⟨some 104, none, .iaddr 1 (.t 103) (.c (.int .i64 1))⟩, oL 105 104, oM 106 0, ⟨some 107, none, .iaddr 1 (.t 106) (.c (.int .i64 4))⟩, oL 108 107, ⟨some 109, none, .conv .i64 (.t 108)⟩, ⟨some 110, none, .bin .mul (.t 109) (.c (.int .i64 256))⟩, oM 111 0, ⟨some 112, none, .iaddr 1 (.t 111) (.c (.int .i64 5))⟩, oL 113 112, ⟨some 114, none, .conv .i64 (.t 113)⟩, ⟨some 115, none, .bin .add (.t 110) (.t 114)⟩, ⟨some 116, none, .conv .u16 (.t 115)⟩, oM 117 8, ⟨some 118, none, .bin .neq (.t 117) (.c (.int .i64 0))⟩, oM 119 0, ⟨some 120, none, .iaddr 1 (.t 119) (.c (.int .i64 8))⟩, oL 121 120, oM 122 0, ⟨some 123, none, .iaddr 1 (.t 122) (.c (.int .i64 9))⟩, oL 124 123, oM 125 0, ⟨some 126, none, .slice 1 (.t 125) (some (.c (.int .i64 12))) none⟩, ⟨some 127, none, .callF true 111 [(.t 126)]⟩, oM 128 0, ⟨some 129, none, .slice 1 (.t 128) (some (.c (.int .i64 16))) none⟩, ⟨some 130, none, .callF true 111 [(.t 129)]⟩, oM 131 9, ⟨some 132, none, .build z_0 [(0, 1, (.t 105)), (1, 1, (.t 116)), (2, 1, (.t 118)), (3, 1, (.t 121)), (4, 1, (.t 124)), (5, 1, (.t 127)), (6, 1, (.t 130)), (7, 1, (.t 131))]⟩, ⟨some 133, none, .build z_2 []⟩, oS 8 4 132, oS 2 5 133])
  .ret))))))))))))))⟩
/- vizard/sum.number -/
def I102 : Fn_ := ⟨1, 15, [(2, none)],
  (.seq (.ops [⟨some 2, none, .mov (.c (.int .u16 0))⟩])
  (.seq (.ops [⟨some 3, none, .alloc true z_10 207⟩])
  (.seq (.ops [⟨some 4, none, .sliceA 2 1 (.t 3) none none⟩, oM 5 0, ⟨some 6, none, .copy 1 (.t 4) (.t 5)⟩])
  (.seq (.ops [⟨some 7, none, .iaddrA 2 1 false (.t 3) (.c (.int .i64 0))⟩, oL 8 7, ⟨some 9, none, .conv .u16 (.t 8)⟩, ⟨some 10, none, .bin .shl (.t 9) (.c (.int .u64 8))⟩, ⟨some 11, none, .iaddrA 2 1 false (.t 3) (.c (.int .i64 1))⟩, oL 12 11, ⟨some 13, none, .conv .u16 (.t 12)⟩, ⟨some 14, none, .bin .or (.t 10) (.t 13)⟩, oM 2 14])
  .ret))))⟩
/- vizard/sum.fold -/
def B103_0 : C := (.seq (.seq (.ops [oM 3 0, ⟨some 4, none, .bin .gtr (.t 3) (.c (.int .u64 65535))⟩])
  (.cond (.t 4)
  .skip
  (.exit 0)))
  (.block 1 (some [0]) (.ops [oM 5 0, ⟨some 6, none, .bin .and (.t 5) (.c (.int .u64 65535))⟩, oM 7 0, ⟨some 8, none, .bin .shr (.t 7) (.c (.int .u64 16))⟩, ⟨some 9, none, .bin .add (.t 6) (.t 8)⟩, oM 0 9])))
def L103_0 : C := .loop (some [0]) B103_0
theorem L103_0_eq {E : Env} (x : St) : ev E L103_0 x = andThen (ev E B103_0 (restr (some [0]) x)) (ev E L103_0) := ev_loop _ _ x
theorem L103_0_lp {E : Env} (s : Slots) (h : Heap) : ev E L103_0 ⟨s, h⟩ = lp E L103_0 (pickS s [0]) h := lp_of L103_0_eq s h
theorem L103_0_go {E : Env} (s : Slots) (h : Heap) : lp E L103_0 s h = andThen (ev E B103_0 ⟨pickS s [0], h⟩) (ev E L103_0) := lp_go L103_0_eq s h
noncomputable def T103_0 (E : Env) (o : Out) : Option (AV × Heap) := outR [(2, none)] (andThen (endBlock 0 (some [0]) (o)) (ev E (.seq (.ops [oM 10 0, ⟨some 11, none, .conv .u16 (.t 10)⟩, oM 2 11])
  .ret)))
def I103 : Fn_ := ⟨1, 12, [(2, none)],
  (.seq (.ops [⟨some 2, none, .mov (.c (.int .u16 0))⟩])
  (.seq (.block 0 (some [0]) L103_0)
  (.seq (.ops [oM 10 0, ⟨some 11, none, .conv .u16 (.t 10)⟩, oM 2 11])
  .ret)))⟩
/- vizard/sum.Patch -/
def B104_0 : C := (.seq (.seq (.ops [oM 19 1, ⟨some 20, none, .len (.t 19)⟩, ⟨some 21, none, .bin .gtr (.t 20) (.c (.int .i64 0))⟩])
  (.cond (.t 21)
  .skip
  (.exit 0)))
  (.seq (.block 1 (some [0, 1, 2]) (.ops [oM 26 0, oM 27 1, ⟨some 28, none, .slice 1 (.t 27) none (some (.c (.int .i64 2)))⟩, ⟨some 29, none, .callF true 102 [(.t 28)]⟩, oM 30 2, ⟨some 31, none, .slice 1 (.t 30) none (some (.c (.int .i64 2)))⟩, ⟨some 32, none, .callF true 102 [(.t 31)]⟩, ⟨some 33, none, .callF true 113 [(.t 26), (.t 29), (.t 32)]⟩, oM 0 33]))
  (.ops [oM 22 1, ⟨some 23, none, .slice 1 (.t 22) (some (.c (.int .i64 2))) none⟩, oM 24 2, ⟨some 25, none, .slice 1 (.t 24) (some (.c (.int .i64 2))) none⟩, oM 1 23, oM 2 25])))
def L104_0 : C := .loop (some [0, 1, 2]) B104_0
theorem L104_0_eq {E : Env} (x : St) : ev E L104_0 x = andThen (ev E B104_0 (restr (some [0, 1, 2]) x)) (ev E L104_0) := ev_loop _ _ x
theorem L104_0_lp {E : Env} (s : Slots) (h : Heap) : ev E L104_0 ⟨s, h⟩ = lp E L104_0 (pickS s [0, 1, 2]) h := lp_of L104_0_eq s h
theorem L104_0_go {E : Env} (s : Slots) (h : Heap) : lp E L104_0 s h = andThen (ev E B104_0 ⟨pickS s [0, 1, 2], h⟩) (ev E L104_0) := lp_go L104_0_eq s h
noncomputable def T104_0 (E : Env) (o : Out) : Option (AV × Heap) := outR [(6, none), (7, none)] (andThen (endBlock 0 (some [0, 1, 2]) (o)) (ev E (.seq (.ops [oM 34 0, oM 6 34, ⟨some 7, none, .mov (.c (.int .i64 0))⟩])
  .ret)))
def I104 : Fn_ := ⟨3, 35, [(6, none), (7, none)],
  (.seq (.ops [⟨some 6, none, .mov (.c (.int .u16 0))⟩, ⟨some 7, none, .mov (.c (.int .i64 0))⟩])
  (.seq (.seq (.ops [oM 8 1, ⟨some 9, none, .len (.t 8)⟩, oM 10 2, ⟨some 11, none, .len (.t 10)⟩, ⟨some 12, none, .bin .neq (.t 9) (.t 11)⟩, oM 13 12, gM 14 13 false 1, ⟨some 15, (some (13, false)), .len (.t 14)⟩, ⟨some 16, (some (13, false)), .bin .rem (.t 15) (.c (.int .i64 2))⟩, ⟨some 17, (some (13, false)), .bin .neq (.t 16) (.c (.int .i64 0))⟩, oT 18 13 17])
  (.cond (.t 18)
  (.seq (.ops [⟨some 6, none, .mov (.c (.int .u16 0))⟩, ⟨some 7, none, .mov (.c (.int .i64 11))⟩])
  .ret)
  .skip))
  (.seq (.block 0 (some [0, 1, 2]) L104_0)
  (.seq (.ops [oM 34 0, oM 6 34, ⟨some 7, none, .mov (.c (.int .i64 0))⟩])
  .ret))))⟩
/- vizard/vizardref02.words -/
def I107 : Fn_ := ⟨0, 2, [(0, none)],
  (.seq (.ops [⟨some 0, none, .mov (.c (.rs false 1 []))⟩])
  (.seq (.ops [⟨some 1, none, .buildR 1 9 [(.c (.str ⟨#[]⟩)), (.c (.str ⟨#[102, 111, 114, 109]⟩)), (.c (.str ⟨#[115, 117, 109]⟩)), (.c (.str ⟨#[118, 101, 114, 115, 105, 111, 110]⟩)), (.c (.str ⟨#[111, 112, 116, 105, 111, 110]⟩)), (.c (.str ⟨#[102, 114, 97, 103]⟩)), (.c (.str ⟨#[116, 116, 108]⟩)), (.c (.str ⟨#[114, 111, 117, 116, 101]⟩)), (.c (.str ⟨#[102, 105, 108, 116, 101, 114]⟩)), (.c (.str ⟨#[115, 116, 97, 116, 101]⟩)), (.c (.str ⟨#[112, 111, 114, 116, 115]⟩)), (.c (.str ⟨#[102, 117, 108, 108]⟩)), (.c (.str ⟨#[119, 97, 105, 116]⟩)), (.c (.str ⟨#[98, 117, 102, 102, 101, 114]⟩)), (.c (.str ⟨#[114, 105, 110, 103]⟩)), (.c (.str ⟨#[104, 111, 115, 116]⟩)), (.c (.str ⟨#[107, 105, 110, 100]⟩)), (.c (.str ⟨#[108, 111, 99, 97, 108]⟩)), (.c (.str ⟨#[115, 101, 108, 102]⟩)), (.c (.str ⟨#[111, 108, 100]⟩))]⟩, oM 0 1])
  .ret))⟩
/- vizard/inet.measure -/
def I108 : Fn_ := ⟨2, 53, [(4, some (true, 2)), (5, none)],
  (.seq (.ops [⟨some 4, none, .alloc true z_9 200⟩, ⟨some 5, none, .mov (.c .nili)⟩])
  (.seq (.seq (.ops [oM 7 0, ⟨some 8, none, .len (.t 7)⟩, ⟨some 9, none, .bin .lss (.t 8) (.c (.int .i64 20))⟩])
  (.cond (.t 9)
  (.seq (.ops [⟨some 10, none, .build z_9 []⟩, ⟨some 11, none, .callF true 47 [(.c (.int .i64 1)), (.c (.int .i64 12))]⟩, oS 2 4 10, oM 5 11])
  .ret)
  .skip))
  (.seq (.ops [oM 12 0, ⟨some 13, none, .iaddr 1 (.t 12) (.c (.int .i64 0))⟩, oL 14 13, ⟨some 15, none, .bin .and (.t 14) (.c (.int .u8 15))⟩, ⟨some 16, none, .conv .i64 (.t 15)⟩, ⟨some 17, none, .bin .mul (.t 16) (.c (.int .i64 4))⟩, oM 18 0, ⟨some 19, none, .callF true 114 [(.t 18), (.c (.int .i64 2))]⟩, ⟨some 20, none, .build z_9 [(0, 1, (.t 17)), (1, 1, (.t 19))]⟩, ⟨some 6, none, .alloc true z_9 200⟩, oS 2 6 20])
  (.seq (.block 0 (some [0, 1, 4, 6]) (.seq (.ops [oM 22 0, ⟨some 23, none, .iaddr 1 (.t 22) (.c (.int .i64 0))⟩, oL 24 23, ⟨some 25, none, .bin .shr (.t 24) (.c (.int .u64 4))⟩, ⟨some 26, none, .bin .neq (.t 25) (.c (.int .u8 4))⟩, oM 21 26])
  (.cond (.t 21)
  (.seq (.ops [⟨some 27, none, .load true 2 (.t 6)⟩, ⟨some 28, none, .callF true 47 [(.c (.int .i64 3)), (.c (.int .i64 15))]⟩, oS 2 4 27, oM 5 28])
  .ret)
  (.seq (.ops [oF 30 0 6, oL 31 30, ⟨some 32, none, .bin .lss (.t 31) (.c (.int .i64 20))⟩, oM 29 32])
  (.cond (.t 29)
  (.seq (.ops [⟨some 33, none, .load true 2 (.t 6)⟩, ⟨some 34, none, .callF true 47 [(.c (.int .i64 1)), (.c (.int .i64 10))]⟩, oS 2 4 33, oM 5 34])
  .ret)
  (.seq (.ops [oM 36 0, ⟨some 37, none, .len (.t 36)⟩, oM 38 1, ⟨some 39, none, .load true 2 (.t 6)⟩, ⟨some 40, none, .callV true (.t 38) [(.t 39)]⟩, ⟨some 41, none, .bin .lss (.t 37) (.t 40)⟩, oM 35 41])
  (.cond (.t 35)
  (.seq (.ops [⟨some 42, none, .load true 2 (.t 6)⟩, ⟨some 43, none, .callF true 47 [(.c (.int .i64 1)), (.c (.int .i64 12))]⟩, oS 2 4 42, oM 5 43])
  .ret)
  (.seq (.ops [oF 45 1 6, oL 46 45, oF 47 0 6, oL 48 47, ⟨some 49, none, .bin .lss (.t 46) (.t 48)⟩, oM 44 49])
  (.cond (.t 44)
  (.seq (.ops [⟨some 50, none, .load true 2 (.t 6)⟩, ⟨some 51, none, .callF true 47 [(.c (.int .i64 1)), (.c (.int .i64 10))]⟩, oS 2 4 50, oM 5 51])
  .ret)
  .skip)))))))))
  (.seq (.ops [⟨some 52, none, .load true 2 (.t 6)⟩, oS 2 4 52, ⟨some 5, none, .mov (.c .nili)⟩])
  .ret)))))⟩
/- vizard/inet.Peek$1 -/
def I109 : Fn_ := ⟨1, 5, [(2, none)],
  (.seq (.ops [⟨some 1, none, .box true 200 (.t 0)⟩, ⟨some 2, none, .mov (.c (.int .i64 0))⟩])
  (.seq (.ops [oF 3 0 1, oL 4 3, oM 2 4])
  .ret))⟩
/- vizard/inet.read -/
def I110 : Fn_ := ⟨2, 50, [(4, some (true, 8)), (5, none)],
  (.seq (.ops [⟨some 3, none, .box true 200 (.t 1)⟩, ⟨some 4, none, .alloc true z_0 26⟩, ⟨some 5, none, .mov (.c .nili)⟩])
  (.seq (.ops [oM 7 0, ⟨some 8, none, .callF true 114 [(.t 7), (.c (.int .i64 6))]⟩, oM 6 8])
  (.seq (.block 0 (some [0, 3, 4, 6]) (.seq (.ops [oF 10 0 3, oL 11 10, ⟨some 12, none, .bin .gtr (.t 11) (.c (.int .i64 20))⟩, oM 9 12])
  (.cond (.t 9)
  (.seq (.ops [⟨some 13, none, .build z_0 []⟩, ⟨some 14, none, .callF true 47 [(.c (.int .i64 4)), (.c (.int .i64 21))]⟩, oS 8 4 13, oM 5 14])
  .ret)
  (.seq (.ops [oM 16 6, ⟨some 17, none, .bin .andNot (.t 16) (.c (.int .i64 16384))⟩, ⟨some 18, none, .bin .neq (.t 17) (.c (.int .i64 0))⟩, oM 15 18])
  (.cond (.t 15)
  (.seq (.ops [⟨some 19, none, .build z_0 []⟩, ⟨some 20, none, .callF true 47 [(.c (.int .i64 5)), (.c (.int .i64 20))]⟩, oS 8 4 19, oM 5 20])
  .ret)
  .skip)))))
  (.seq (.ops [oM 21 0, ⟨some 22, none, .iaddr 1 (.t 21) (.c (.int .i64 1))⟩, oL 23 22, oM 24 0, ⟨some 25, none, .callF true 114 [(.t 24), (.c (.int .i64 4))]⟩, ⟨some 26, none, .conv .u16 (.t 25)⟩, oM 27 6, ⟨some 28, none, .bin .neq (.t 27) (.c (.int .i64 0))⟩, oM 29 0, ⟨some 30, none, .iaddr 1 (.t 29) (.c (.int .i64 8))⟩, oL 31 30, oM 32 0, ⟨some 33, none, .iaddr 1 (.t 32) (.c (.int .i64 9))⟩, oL 34 33, oM 35 0, ⟨some 36, none, .callF true 115 [(.t 35), (.c (.int .i64 12))]⟩, oM 37 0, ⟨some 38, none, .callF true 115 [(.t 37), (.c (.int .i64 16))]⟩, oM 39 0, oF 40 0 3, oL 41 40, oF 42 1 3, oL 43 42, oM 44 0, ⟨some 45, none, .len (.t 44)⟩, ⟨some 46, none, .mm false [(.t 43), (.t 45)]⟩, ⟨some 47, none, .slice 1 (.t 39) (some (.t 41)) (some (.t 46))⟩, ⟨some 48, none, .callF true 43 [(.t 47)]⟩, ⟨some 49, none, .build z_0 [(0, 1, (.t 23)), (1, 1, (.t 26)), (2, 1, (.t 28)), (3, 1, (.t 31)), (4, 1, (.t 34)), (5, 1, (.t 36)), (6, 1, (.t 38)), (7, 1, (.t 48))]⟩, oS 8 4 49, ⟨some 5, none, .mov (.c .nili)⟩])
  .ret))))⟩
/- vizard/vizardref06.Num -/
def I111 : Fn_ := ⟨1, 25, [(2, none)],
  (.seq (.ops [⟨some 2, none, .mov (.c (.int .u32 0))⟩])
  (.seq (.ops [oM 3 0, ⟨some 4, none, .iaddr 1 (.t 3) (.c (.int .i64 0))⟩, oL 5 4, ⟨some 6, none, .conv .u32 (.t 5)⟩, ⟨some 7, none, .bin .mul (.t 6) (.c (.int .u32 16777216))⟩, oM 8 0, ⟨some 9, none, .iaddr 1 (.t 8) (.c (.int .i64 1))⟩, oL 10 9, ⟨some 11, none, .conv .u32 (.t 10)⟩, ⟨some 12, none, .bin .mul (.t 11) (.c (.int .u32 65536))⟩, ⟨some 13, none, .bin .add (.t 7) (.t 12)⟩, oM 14 0, ⟨some 15, none, .iaddr 1 (.t 14) (.c (.int .i64 2))⟩, oL 16 15, ⟨some 17, none, .conv .u32 (.t 16)⟩, ⟨some 18, none, .bin .mul (.t 17) (.c (.int .u32 256))⟩, ⟨some 19, none, .bin .add (.t 13) (.t 18)⟩, oM 20 0, ⟨some 21, none, .iaddr 1 (.t 20) (.c (.int .i64 3))⟩, oL 22 21, ⟨some 23, none, .conv .u32 (.t 22)⟩, ⟨some 24, none, .bin .add (.t 19) (.t 23)⟩, oM 2 24])
  .ret))⟩
/- vizard/sum.Turn -/
def I113 : Fn_ := ⟨3, 19, [(6, none)],
  (.seq (.ops [⟨some 6, none, .mov (.c (.int .u16 0))⟩])
  (.seq (.ops [oM 7 0, ⟨some 8, none, .un .xor (.t 7)⟩, ⟨some 9, none, .conv .u64 (.t 8)⟩, oM 10 1, ⟨some 11, none, .un .xor (.t 10)⟩, ⟨some 12, none, .conv .u64 (.t 11)⟩, ⟨some 13, none, .bin .add (.t 9) (.t 12)⟩, oM 14 2, ⟨some 15, none, .conv .u64 (.t 14)⟩, ⟨some 16, none, .bin .add (.t 13) (.t 15)⟩, ⟨some 17, none, .callF false 103 [(.t 16)]⟩, ⟨some 18, none, .un .xor (.t 17)⟩, oM 6 18])
  .ret))⟩
/- vizard/inet.two -/
def I114 : Fn_ := ⟨2, 15, [(4, none)],
  (.seq (.ops [⟨some 4, none, .mov (.c (.int .i64 0))⟩])
  (.seq (.ops [oM 8 0, oM 9 1, ⟨some 10, none, .callF true 64 [(.t 8), (.t 9), (.c (.int .i64 2))]⟩, oM 7 10, oE 11 7 0, oE 12 7 1, oM 5 11, oM 6 12])
  (.seq (.ops [oM 13 5, ⟨some 14, none, .conv .i64 (.t 13)⟩, oM 4 14])
  .ret)))⟩
/- vizard/inet.four -/
def I115 : Fn_ := ⟨2, 15, [(4, none)],
  (.seq (.ops [⟨some 4, none, .mov (.c (.int .u32 0))⟩])
  (.seq (.ops [oM 8 0, oM 9 1, ⟨some 10, none, .callF true 64 [(.t 8), (.t 9), (.c (.int .i64 4))]⟩, oM 7 10, oE 11 7 0, oE 12 7 1, oM 5 11, oM 6 12])
  (.seq (.ops [oM 13 5, ⟨some 14, none, .conv .u32 (.t 13)⟩, oM 4 14])
  .ret)))⟩
/- (*vizard/why.fault).Unwrap -/
def I136 : Fn_ := ⟨1, 7, [(2, none)],
  (.seq (.ops [⟨some 2, none, .mov (.c .nili)⟩])
  (.seq (.ops [oM 3 0, ⟨some 4, none, .nilChk (.t 3)⟩, oF 5 1 4, oL 6 5, oM 2 6])
  .ret))⟩

def fns : FuncId → Option Fn_
  | 2 => some I2
  | 3 => some I3
  | 4 => some I4
  | 5 => some I5
  | 6 => some I6
  | 7 => some I7
  | 8 => some I8
  | 9 => some I9
  | 10 => some I10
  | 11 => some I11
  | 12 => some I12
  | 13 => some I13
  | 14 => some I14
  | 15 => some I15
  | 16 => some I16
  | 17 => some I17
  | 18 => some I18
  | 19 => some I19
  | 20 => some I20
  | 21 => some I21
  | 22 => some I22
  | 24 => some I24
  | 25 => some I25
  | 26 => some I26
  | 27 => some I27
  | 28 => some I28
  | 29 => some I29
  | 30 => some I30
  | 31 => some I31
  | 32 => some I32
  | 33 => some I33
  | 34 => some I34
  | 35 => some I35
  | 36 => some I36
  | 37 => some I37
  | 38 => some I38
  | 39 => some I39
  | 40 => some I40
  | 41 => some I41
  | 42 => some I42
  | 43 => some I43
  | 45 => some I45
  | 46 => some I46
  | 47 => some I47
  | 48 => some I48
  | 49 => some I49
  | 50 => some I50
  | 51 => some I51
  | 52 => some I52
  | 53 => some I53
  | 54 => some I54
  | 55 => some I55
  | 56 => some I56
  | 57 => some I57
  | 58 => some I58
  | 60 => some I60
  | 62 => some I62
  | 63 => some I63
  | 64 => some I64
  | 65 => some I65
  | 66 => some I66
  | 67 => some I67
  | 68 => some I68
  | 69 => some I69
  | 70 => some I70
  | 71 => some I71
  | 72 => some I72
  | 73 => some I73
  | 74 => some I74
  | 75 => some I75
  | 76 => some I76
  | 78 => some I78
  | 79 => some I79
  | 80 => some I80
  | 81 => some I81
  | 82 => some I82
  | 83 => some I83
  | 84 => some I84
  | 85 => some I85
  | 92 => some I92
  | 93 => some I93
  | 94 => some I94
  | 95 => some I95
  | 96 => some I96
  | 97 => some I97
  | 98 => some I98
  | 99 => some I99
  | 100 => some I100
  | 102 => some I102
  | 103 => some I103
  | 104 => some I104
  | 107 => some I107
  | 108 => some I108
  | 109 => some I109
  | 110 => some I110
  | 111 => some I111
  | 113 => some I113
  | 114 => some I114
  | 115 => some I115
  | 136 => some I136
  | _ => none

def keep : FuncId → Bool
  | 17 => true
  | 25 => true
  | 43 => true
  | 48 => true
  | 51 => true
  | 56 => true
  | 57 => true
  | 68 => true
  | 78 => true
  | 83 => true
  | 96 => true
  | 97 => true
  | _ => false

theorem chk2 : chkFn Tryz.prog Tryz.f2 I2 = true := by kernel_rfl
theorem chk3 : chkFn Tryz.prog Tryz.f3 I3 = true := by kernel_rfl
theorem chk4 : chkFn Tryz.prog Tryz.f4 I4 = true := by kernel_rfl
theorem chk5 : chkFn Tryz.prog Tryz.f5 I5 = true := by kernel_rfl
theorem chk6 : chkFn Tryz.prog Tryz.f6 I6 = true := by kernel_rfl
theorem chk7 : chkFn Tryz.prog Tryz.f7 I7 = true := by kernel_rfl
theorem chk8 : chkFn Tryz.prog Tryz.f8 I8 = true := by kernel_rfl
theorem chk9 : chkFn Tryz.prog Tryz.f9 I9 = true := by kernel_rfl
theorem chk10 : chkFn Tryz.prog Tryz.f10 I10 = true := by kernel_rfl
theorem chk11 : chkFn Tryz.prog Tryz.f11 I11 = true := by kernel_rfl
theorem chk12 : chkFn Tryz.prog Tryz.f12 I12 = true := by kernel_rfl
theorem chk13 : chkFn Tryz.prog Tryz.f13 I13 = true := by kernel_rfl
theorem chk14 : chkFn Tryz.prog Tryz.f14 I14 = true := by kernel_rfl
theorem chk15 : chkFn Tryz.prog Tryz.f15 I15 = true := by kernel_rfl
theorem chk16 : chkFn Tryz.prog Tryz.f16 I16 = true := by kernel_rfl
theorem chk17 : chkFn Tryz.prog Tryz.f17 I17 = true := by kernel_rfl
theorem chk18 : chkFn Tryz.prog Tryz.f18 I18 = true := by kernel_rfl
theorem chk19 : chkFn Tryz.prog Tryz.f19 I19 = true := by kernel_rfl
theorem chk20 : chkFn Tryz.prog Tryz.f20 I20 = true := by kernel_rfl
theorem chk21 : chkFn Tryz.prog Tryz.f21 I21 = true := by kernel_rfl
theorem chk22 : chkFn Tryz.prog Tryz.f22 I22 = true := by kernel_rfl
theorem chk24 : chkFn Tryz.prog Tryz.f24 I24 = true := by kernel_rfl
theorem chk25 : chkFn Tryz.prog Tryz.f25 I25 = true := by kernel_rfl
theorem chk26 : chkFn Tryz.prog Tryz.f26 I26 = true := by kernel_rfl
theorem chk27 : chkFn Tryz.prog Tryz.f27 I27 = true := by kernel_rfl
theorem chk28 : chkFn Tryz.prog Tryz.f28 I28 = true := by kernel_rfl
theorem chk29 : chkFn Tryz.prog Tryz.f29 I29 = true := by kernel_rfl
theorem chk30 : chkFn Tryz.prog Tryz.f30 I30 = true := by kernel_rfl
theorem chk31 : chkFn Tryz.prog Tryz.f31 I31 = true := by kernel_rfl
theorem chk32 : chkFn Tryz.prog Tryz.f32 I32 = true := by kernel_rfl
theorem chk33 : chkFn Tryz.prog Tryz.f33 I33 = true := by kernel_rfl
theorem chk34 : chkFn Tryz.prog Tryz.f34 I34 = true := by kernel_rfl
theorem chk35 : chkFn Tryz.prog Tryz.f35 I35 = true := by kernel_rfl
theorem chk36 : chkFn Tryz.prog Tryz.f36 I36 = true := by kernel_rfl
theorem chk37 : chkFn Tryz.prog Tryz.f37 I37 = true := by kernel_rfl
theorem chk38 : chkFn Tryz.prog Tryz.f38 I38 = true := by kernel_rfl
theorem chk39 : chkFn Tryz.prog Tryz.f39 I39 = true := by kernel_rfl
theorem chk40 : chkFn Tryz.prog Tryz.f40 I40 = true := by kernel_rfl
theorem chk41 : chkFn Tryz.prog Tryz.f41 I41 = true := by kernel_rfl
theorem chk42 : chkFn Tryz.prog Tryz.f42 I42 = true := by kernel_rfl
theorem chk43 : chkFn Tryz.prog Tryz.f43 I43 = true := by kernel_rfl
theorem chk45 : chkFn Tryz.prog Tryz.f45 I45 = true := by kernel_rfl
theorem chk46 : chkFn Tryz.prog Tryz.f46 I46 = true := by kernel_rfl
theorem chk47 : chkFn Tryz.prog Tryz.f47 I47 = true := by kernel_rfl
theorem chk48 : chkFn Tryz.prog Tryz.f48 I48 = true := by kernel_rfl
theorem chk49 : chkFn Tryz.prog Tryz.f49 I49 = true := by kernel_rfl
theorem chk50 : chkFn Tryz.prog Tryz.f50 I50 = true := by kernel_rfl
theorem chk51 : chkFn Tryz.prog Tryz.f51 I51 = true := by kernel_rfl
theorem chk52 : chkFn Tryz.prog Tryz.f52 I52 = true := by kernel_rfl
theorem chk53 : chkFn Tryz.prog Tryz.f53 I53 = true := by kernel_rfl
theorem chk54 : chkFn Tryz.prog Tryz.f54 I54 = true := by kernel_rfl
theorem chk55 : chkFn Tryz.prog Tryz.f55 I55 = true := by kernel_rfl
theorem chk56 : chkFn Tryz.prog Tryz.f56 I56 = true := by kernel_rfl
theorem chk57 : chkFn Tryz.prog Tryz.f57 I57 = true := by kernel_rfl
theorem chk58 : chkFn Tryz.prog Tryz.f58 I58 = true := by kernel_rfl
theorem chk60 : chkFn Tryz.prog Tryz.f60 I60 = true := by kernel_rfl
theorem chk62 : chkFn Tryz.prog Tryz.f62 I62 = true := by kernel_rfl
theorem chk63 : chkFn Tryz.prog Tryz.f63 I63 = true := by kernel_rfl
theorem chk64 : chkFn Tryz.prog Tryz.f64 I64 = true := by kernel_rfl
theorem chk65 : chkFn Tryz.prog Tryz.f65 I65 = true := by kernel_rfl
theorem chk66 : chkFn Tryz.prog Tryz.f66 I66 = true := by kernel_rfl
theorem chk67 : chkFn Tryz.prog Tryz.f67 I67 = true := by kernel_rfl
theorem chk68 : chkFn Tryz.prog Tryz.f68 I68 = true := by kernel_rfl
theorem chk69 : chkFn Tryz.prog Tryz.f69 I69 = true := by kernel_rfl
theorem chk70 : chkFn Tryz.prog Tryz.f70 I70 = true := by kernel_rfl
theorem chk71 : chkFn Tryz.prog Tryz.f71 I71 = true := by kernel_rfl
theorem chk72 : chkFn Tryz.prog Tryz.f72 I72 = true := by kernel_rfl
theorem chk73 : chkFn Tryz.prog Tryz.f73 I73 = true := by kernel_rfl
theorem chk74 : chkFn Tryz.prog Tryz.f74 I74 = true := by kernel_rfl
theorem chk75 : chkFn Tryz.prog Tryz.f75 I75 = true := by kernel_rfl
theorem chk76 : chkFn Tryz.prog Tryz.f76 I76 = true := by kernel_rfl
theorem chk78 : chkFn Tryz.prog Tryz.f78 I78 = true := by kernel_rfl
theorem chk79 : chkFn Tryz.prog Tryz.f79 I79 = true := by kernel_rfl
theorem chk80 : chkFn Tryz.prog Tryz.f80 I80 = true := by kernel_rfl
theorem chk81 : chkFn Tryz.prog Tryz.f81 I81 = true := by kernel_rfl
theorem chk82 : chkFn Tryz.prog Tryz.f82 I82 = true := by kernel_rfl
theorem chk83 : chkFn Tryz.prog Tryz.f83 I83 = true := by kernel_rfl
theorem chk84 : chkFn Tryz.prog Tryz.f84 I84 = true := by kernel_rfl
theorem chk85 : chkFn Tryz.prog Tryz.f85 I85 = true := by kernel_rfl
theorem chk92 : chkFn Tryz.prog Tryz.f92 I92 = true := by kernel_rfl
theorem chk93 : chkFn Tryz.prog Tryz.f93 I93 = true := by kernel_rfl
theorem chk94 : chkFn Tryz.prog Tryz.f94 I94 = true := by kernel_rfl
theorem chk95 : chkFn Tryz.prog Tryz.f95 I95 = true := by kernel_rfl
theorem chk96 : chkFn Tryz.prog Tryz.f96 I96 = true := by kernel_rfl
theorem chk97 : chkFn Tryz.prog Tryz.f97 I97 = true := by kernel_rfl
theorem chk98 : chkFn Tryz.prog Tryz.f98 I98 = true := by kernel_rfl
theorem chk99 : chkFn Tryz.prog Tryz.f99 I99 = true := by kernel_rfl
theorem chk100 : chkFn Tryz.prog Tryz.f100 I100 = true := by kernel_rfl
theorem chk102 : chkFn Tryz.prog Tryz.f102 I102 = true := by kernel_rfl
theorem chk103 : chkFn Tryz.prog Tryz.f103 I103 = true := by kernel_rfl
theorem chk104 : chkFn Tryz.prog Tryz.f104 I104 = true := by kernel_rfl
theorem chk107 : chkFn Tryz.prog Tryz.f107 I107 = true := by kernel_rfl
theorem chk108 : chkFn Tryz.prog Tryz.f108 I108 = true := by kernel_rfl
theorem chk109 : chkFn Tryz.prog Tryz.f109 I109 = true := by kernel_rfl
theorem chk110 : chkFn Tryz.prog Tryz.f110 I110 = true := by kernel_rfl
theorem chk111 : chkFn Tryz.prog Tryz.f111 I111 = true := by kernel_rfl
theorem chk113 : chkFn Tryz.prog Tryz.f113 I113 = true := by kernel_rfl
theorem chk114 : chkFn Tryz.prog Tryz.f114 I114 = true := by kernel_rfl
theorem chk115 : chkFn Tryz.prog Tryz.f115 I115 = true := by kernel_rfl
theorem chk136 : chkFn Tryz.prog Tryz.f136 I136 = true := by kernel_rfl

theorem fns_ok : ∀ f fn, fns f = some fn → ∃ func, Tryz.prog.funcs[f]? = some func ∧ chkFn Tryz.prog func fn = true := by
  intro f fn h
  unfold fns at h
  split at h
  · cases h; exact ⟨Tryz.f2, Tryz.func2, chk2⟩
  · cases h; exact ⟨Tryz.f3, Tryz.func3, chk3⟩
  · cases h; exact ⟨Tryz.f4, Tryz.func4, chk4⟩
  · cases h; exact ⟨Tryz.f5, Tryz.func5, chk5⟩
  · cases h; exact ⟨Tryz.f6, Tryz.func6, chk6⟩
  · cases h; exact ⟨Tryz.f7, Tryz.func7, chk7⟩
  · cases h; exact ⟨Tryz.f8, Tryz.func8, chk8⟩
  · cases h; exact ⟨Tryz.f9, Tryz.func9, chk9⟩
  · cases h; exact ⟨Tryz.f10, Tryz.func10, chk10⟩
  · cases h; exact ⟨Tryz.f11, Tryz.func11, chk11⟩
  · cases h; exact ⟨Tryz.f12, Tryz.func12, chk12⟩
  · cases h; exact ⟨Tryz.f13, Tryz.func13, chk13⟩
  · cases h; exact ⟨Tryz.f14, Tryz.func14, chk14⟩
  · cases h; exact ⟨Tryz.f15, Tryz.func15, chk15⟩
  · cases h; exact ⟨Tryz.f16, Tryz.func16, chk16⟩
  · cases h; exact ⟨Tryz.f17, Tryz.func17, chk17⟩
  · cases h; exact ⟨Tryz.f18, Tryz.func18, chk18⟩
  · cases h; exact ⟨Tryz.f19, Tryz.func19, chk19⟩
  · cases h; exact ⟨Tryz.f20, Tryz.func20, chk20⟩
  · cases h; exact ⟨Tryz.f21, Tryz.func21, chk21⟩
  · cases h; exact ⟨Tryz.f22, Tryz.func22, chk22⟩
  · cases h; exact ⟨Tryz.f24, Tryz.func24, chk24⟩
  · cases h; exact ⟨Tryz.f25, Tryz.func25, chk25⟩
  · cases h; exact ⟨Tryz.f26, Tryz.func26, chk26⟩
  · cases h; exact ⟨Tryz.f27, Tryz.func27, chk27⟩
  · cases h; exact ⟨Tryz.f28, Tryz.func28, chk28⟩
  · cases h; exact ⟨Tryz.f29, Tryz.func29, chk29⟩
  · cases h; exact ⟨Tryz.f30, Tryz.func30, chk30⟩
  · cases h; exact ⟨Tryz.f31, Tryz.func31, chk31⟩
  · cases h; exact ⟨Tryz.f32, Tryz.func32, chk32⟩
  · cases h; exact ⟨Tryz.f33, Tryz.func33, chk33⟩
  · cases h; exact ⟨Tryz.f34, Tryz.func34, chk34⟩
  · cases h; exact ⟨Tryz.f35, Tryz.func35, chk35⟩
  · cases h; exact ⟨Tryz.f36, Tryz.func36, chk36⟩
  · cases h; exact ⟨Tryz.f37, Tryz.func37, chk37⟩
  · cases h; exact ⟨Tryz.f38, Tryz.func38, chk38⟩
  · cases h; exact ⟨Tryz.f39, Tryz.func39, chk39⟩
  · cases h; exact ⟨Tryz.f40, Tryz.func40, chk40⟩
  · cases h; exact ⟨Tryz.f41, Tryz.func41, chk41⟩
  · cases h; exact ⟨Tryz.f42, Tryz.func42, chk42⟩
  · cases h; exact ⟨Tryz.f43, Tryz.func43, chk43⟩
  · cases h; exact ⟨Tryz.f45, Tryz.func45, chk45⟩
  · cases h; exact ⟨Tryz.f46, Tryz.func46, chk46⟩
  · cases h; exact ⟨Tryz.f47, Tryz.func47, chk47⟩
  · cases h; exact ⟨Tryz.f48, Tryz.func48, chk48⟩
  · cases h; exact ⟨Tryz.f49, Tryz.func49, chk49⟩
  · cases h; exact ⟨Tryz.f50, Tryz.func50, chk50⟩
  · cases h; exact ⟨Tryz.f51, Tryz.func51, chk51⟩
  · cases h; exact ⟨Tryz.f52, Tryz.func52, chk52⟩
  · cases h; exact ⟨Tryz.f53, Tryz.func53, chk53⟩
  · cases h; exact ⟨Tryz.f54, Tryz.func54, chk54⟩
  · cases h; exact ⟨Tryz.f55, Tryz.func55, chk55⟩
  · cases h; exact ⟨Tryz.f56, Tryz.func56, chk56⟩
  · cases h; exact ⟨Tryz.f57, Tryz.func57, chk57⟩
  · cases h; exact ⟨Tryz.f58, Tryz.func58, chk58⟩
  · cases h; exact ⟨Tryz.f60, Tryz.func60, chk60⟩
  · cases h; exact ⟨Tryz.f62, Tryz.func62, chk62⟩
  · cases h; exact ⟨Tryz.f63, Tryz.func63, chk63⟩
  · cases h; exact ⟨Tryz.f64, Tryz.func64, chk64⟩
  · cases h; exact ⟨Tryz.f65, Tryz.func65, chk65⟩
  · cases h; exact ⟨Tryz.f66, Tryz.func66, chk66⟩
  · cases h; exact ⟨Tryz.f67, Tryz.func67, chk67⟩
  · cases h; exact ⟨Tryz.f68, Tryz.func68, chk68⟩
  · cases h; exact ⟨Tryz.f69, Tryz.func69, chk69⟩
  · cases h; exact ⟨Tryz.f70, Tryz.func70, chk70⟩
  · cases h; exact ⟨Tryz.f71, Tryz.func71, chk71⟩
  · cases h; exact ⟨Tryz.f72, Tryz.func72, chk72⟩
  · cases h; exact ⟨Tryz.f73, Tryz.func73, chk73⟩
  · cases h; exact ⟨Tryz.f74, Tryz.func74, chk74⟩
  · cases h; exact ⟨Tryz.f75, Tryz.func75, chk75⟩
  · cases h; exact ⟨Tryz.f76, Tryz.func76, chk76⟩
  · cases h; exact ⟨Tryz.f78, Tryz.func78, chk78⟩
  · cases h; exact ⟨Tryz.f79, Tryz.func79, chk79⟩
  · cases h; exact ⟨Tryz.f80, Tryz.func80, chk80⟩
  · cases h; exact ⟨Tryz.f81, Tryz.func81, chk81⟩
  · cases h; exact ⟨Tryz.f82, Tryz.func82, chk82⟩
  · cases h; exact ⟨Tryz.f83, Tryz.func83, chk83⟩
  · cases h; exact ⟨Tryz.f84, Tryz.func84, chk84⟩
  · cases h; exact ⟨Tryz.f85, Tryz.func85, chk85⟩
  · cases h; exact ⟨Tryz.f92, Tryz.func92, chk92⟩
  · cases h; exact ⟨Tryz.f93, Tryz.func93, chk93⟩
  · cases h; exact ⟨Tryz.f94, Tryz.func94, chk94⟩
  · cases h; exact ⟨Tryz.f95, Tryz.func95, chk95⟩
  · cases h; exact ⟨Tryz.f96, Tryz.func96, chk96⟩
  · cases h; exact ⟨Tryz.f97, Tryz.func97, chk97⟩
  · cases h; exact ⟨Tryz.f98, Tryz.func98, chk98⟩
  · cases h; exact ⟨Tryz.f99, Tryz.func99, chk99⟩
  · cases h; exact ⟨Tryz.f100, Tryz.func100, chk100⟩
  · cases h; exact ⟨Tryz.f102, Tryz.func102, chk102⟩
  · cases h; exact ⟨Tryz.f103, Tryz.func103, chk103⟩
  · cases h; exact ⟨Tryz.f104, Tryz.func104, chk104⟩
  · cases h; exact ⟨Tryz.f107, Tryz.func107, chk107⟩
  · cases h; exact ⟨Tryz.f108, Tryz.func108, chk108⟩
  · cases h; exact ⟨Tryz.f109, Tryz.func109, chk109⟩
  · cases h; exact ⟨Tryz.f110, Tryz.func110, chk110⟩
  · cases h; exact ⟨Tryz.f111, Tryz.func111, chk111⟩
  · cases h; exact ⟨Tryz.f113, Tryz.func113, chk113⟩
  · cases h; exact ⟨Tryz.f114, Tryz.func114, chk114⟩
  · cases h; exact ⟨Tryz.f115, Tryz.func115, chk115⟩
  · cases h; exact ⟨Tryz.f136, Tryz.func136, chk136⟩
  · cases h

end Go.Fw.Code_
