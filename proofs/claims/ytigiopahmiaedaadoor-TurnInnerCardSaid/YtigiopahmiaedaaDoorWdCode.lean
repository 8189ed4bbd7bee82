/-
  The code of the functions that are evaluated, by program (irgen.py) out of the print of the loaded functions; checked against them below. Conditions: none.
-/
import Derived.Test.YtigiopahmiaedaaDoorFwU
import Derived.Test.YtigiopahmiaedaaDoorProg
import Derived.KernelRfl
set_option linter.unusedVariables false
set_option maxRecDepth 100000
namespace Go.Fw.Code_
open Go.Proofs

def z_0 : List AV := [(.int .u8 0), (.int .u16 0), (.bool false), (.int .u8 0), (.int .u8 0), (.int .u32 0), (.int .u32 0), (.rs false 1 [])]
theorem z_0e : z_0 = [(.int .u8 0), (.int .u16 0), (.bool false), (.int .u8 0), (.int .u8 0), (.int .u32 0), (.int .u32 0), (.rs false 1 [])] := (rfl)
def z_1 : List AV := [(.int .i64 0), (.int .i64 0), (.int .u8 0), (.int .u16 0), (.bool false), (.int .u8 0), (.int .u8 0), (.int .u32 0), (.int .u32 0), (.rs false 1 [])]
theorem z_1e : z_1 = [(.int .i64 0), (.int .i64 0), (.int .u8 0), (.int .u16 0), (.bool false), (.int .u8 0), (.int .u8 0), (.int .u32 0), (.int .u32 0), (.rs false 1 [])] := (rfl)
def z_2 : List AV := [(.int .u8 0), (.int .u8 0), (.int .u8 0), (.int .u8 0), (.int .u8 0), (.int .u8 0), (.rs false 1 [])]
theorem z_2e : z_2 = [(.int .u8 0), (.int .u8 0), (.int .u8 0), (.int .u8 0), (.int .u8 0), (.int .u8 0), (.rs false 1 [])] := (rfl)
def z_3 : List AV := [(.int .u16 0), (.int .u16 0), (.bool false), (.rs false 1 [])]
theorem z_3e : z_3 = [(.int .u16 0), (.int .u16 0), (.bool false), (.rs false 1 [])] := (rfl)
def z_4 : List AV := [(.int .u8 0), (.int .u32 0), (.int .u16 0), (.int .u32 0), (.int .u16 0), (.int .u8 0), (.int .u8 0)]
theorem z_4e : z_4 = [(.int .u8 0), (.int .u32 0), (.int .u16 0), (.int .u32 0), (.int .u16 0), (.int .u8 0), (.int .u8 0)] := (rfl)
def z_5 : List AV := [(.int .u8 0), (.int .u8 0), (.int .u8 0), (.int .u8 0)]
theorem z_5e : z_5 = [(.int .u8 0), (.int .u8 0), (.int .u8 0), (.int .u8 0)] := (rfl)
def z_6 : List AV := [(.rs false 1 []), (.int .i64 0)]
theorem z_6e : z_6 = [(.rs false 1 []), (.int .i64 0)] := (rfl)
def z_7 : List AV := [(.int .u32 0), (.int .u16 0)]
theorem z_7e : z_7 = [(.int .u32 0), (.int .u16 0)] := (rfl)
def z_8 : List AV := [(.int .i64 0), .nili]
theorem z_8e : z_8 = [(.int .i64 0), .nili] := (rfl)
def z_9 : List AV := [(.int .u8 0), (.int .u16 0), (.bool false), (.int .u8 0), (.int .u8 0), (.int .u32 0), (.int .u32 0)]
theorem z_9e : z_9 = [(.int .u8 0), (.int .u16 0), (.bool false), (.int .u8 0), (.int .u8 0), (.int .u32 0), (.int .u32 0)] := (rfl)
def z_10 : List AV := [(.int .i64 0), (.int .i64 0)]
theorem z_10e : z_10 = [(.int .i64 0), (.int .i64 0)] := (rfl)
def z_11 : List AV := [(.int .u16 0), (.int .u16 0), (.int .u8 0), (.rs false 1 [])]
theorem z_11e : z_11 = [(.int .u16 0), (.int .u16 0), (.int .u8 0), (.rs false 1 [])] := (rfl)
def z_12 : List AV := [(.rs false 1 [])]
theorem z_12e : z_12 = [(.rs false 1 [])] := (rfl)
def z_13 : List AV := [(.int .u8 0), (.int .u8 0)]
theorem z_13e : z_13 = [(.int .u8 0), (.int .u8 0)] := (rfl)
attribute [go_sem] z_0e z_1e z_2e z_3e z_4e z_5e z_6e z_7e z_8e z_9e z_10e z_11e z_12e z_13e
/- gosem.cut.init -/
def I2 : Fn_ := ⟨0, 1, [],
  (.ops [⟨some 0, none, .callF false 1 []⟩])⟩
/- vizard/vizardlaw17.AnswerErrors -/
def I3 : Fn_ := ⟨4, 56, [(8, none)],
  (.seq (.ops [⟨some 7, none, .boxR true 8 26 (.t 3)⟩, ⟨some 8, none, .mov (.c (.bool false))⟩])
  (.seq (.seq (.ops [⟨some 14, none, .callF true 9 []⟩, ⟨some 15, none, .un .not (.t 14)⟩])
  (.cond (.t 15)
  (.seq (.ops [⟨some 8, none, .mov (.c (.bool false))⟩])
  .ret)
  .skip))
  (.seq (.seq (.ops [⟨some 16, none, .load true 8 (.t 7)⟩, ⟨some 17, none, .callF true 10 [(.t 16)]⟩])
  (.cond (.t 17)
  (.seq (.ops [⟨some 8, none, .mov (.c (.bool true))⟩])
  .ret)
  .skip))
  (.seq (.ops [⟨some 18, none, .load true 8 (.t 7)⟩, ⟨some 9, none, .alloc true z_0 26⟩, oS 8 9 18])
  (.seq (.ops [oF 19 7 7, oL 20 19, ⟨some 21, none, .callF true 11 [(.t 20)]⟩, oF 22 7 9, oS 1 22 21])
  (.seq (.ops [oM 24 0, oM 25 1, oM 26 2, ⟨some 27, none, .load true 8 (.t 9)⟩, ⟨some 28, none, .callF true 12 [(.t 24), (.t 25), (.t 26), (.t 27)]⟩, oM 23 28, oE 29 23 0, oE 30 23 1, ⟨some 10, none, .alloc true z_0 26⟩, oS 8 10 29, oM 11 30])
  (.seq (.ops [oM 32 0, oM 33 1, oM 34 2, ⟨some 35, none, .load true 8 (.t 7)⟩, ⟨some 36, none, .callF true 14 [(.t 35)]⟩, ⟨some 37, none, .callF true 13 [(.t 32), (.t 33), (.t 34), (.t 36)]⟩, oM 31 37, oE 38 31 0, oE 39 31 1, ⟨some 12, none, .alloc true z_0 32⟩, oS 8 12 38, oM 13 39])
  (.seq (.ops [oM 40 11, oM 41 13, ⟨some 42, none, .binB .eql (.t 40) (.t 41)⟩, oM 43 42, ⟨some 44, (some (43, true)), .load true 8 (.t 10)⟩, ⟨some 45, (some (43, true)), .callF true 14 [(.t 44)]⟩, ⟨some 46, (some (43, true)), .load true 8 (.t 12)⟩, ⟨some 47, (some (43, true)), .callF true 15 [(.t 45), (.t 46)]⟩, oN 48 43 47, oM 49 48, gF 50 49 true 7 9, gL 51 49 true 50, gF 52 49 true 7 7, gL 53 49 true 52, ⟨some 54, (some (49, true)), .callF true 16 [(.t 51), (.t 53)]⟩, oN 55 49 54, oM 8 55])
  .ret))))))))⟩
/- vizard/vizardlaw17.AnswerLocal -/
def I4 : Fn_ := ⟨3, 55, [(6, none)],
  (.seq (.ops [⟨some 5, none, .boxR true 8 26 (.t 2)⟩, ⟨some 6, none, .mov (.c (.bool false))⟩])
  (.seq (.seq (.ops [⟨some 10, none, .callF true 9 []⟩, ⟨some 11, none, .un .not (.t 10)⟩])
  (.cond (.t 11)
  (.seq (.ops [⟨some 6, none, .mov (.c (.bool false))⟩])
  .ret)
  .skip))
  (.seq (.seq (.ops [⟨some 12, none, .load true 8 (.t 5)⟩, ⟨some 13, none, .callF true 10 [(.t 12)]⟩])
  (.cond (.t 13)
  (.seq (.ops [⟨some 6, none, .mov (.c (.bool true))⟩])
  .ret)
  .skip))
  (.seq (.ops [⟨some 14, none, .load true 8 (.t 5)⟩, ⟨some 7, none, .alloc true z_0 26⟩, oS 8 7 14])
  (.seq (.ops [oF 15 7 5, oL 16 15, ⟨some 17, none, .callF true 11 [(.t 16)]⟩, oF 18 7 7, oS 1 18 17])
  (.seq (.ops [oM 19 0, oM 20 1, ⟨some 21, none, .load true 8 (.t 7)⟩, ⟨some 22, none, .callF true 17 [(.t 19), (.t 20), (.t 21)]⟩, ⟨some 8, none, .alloc true z_1 40⟩, oS 10 8 22])
  (.seq (.ops [oM 23 0, oM 24 1, ⟨some 25, none, .load true 8 (.t 5)⟩, ⟨some 26, none, .callF true 14 [(.t 25)]⟩, ⟨some 27, none, .callF true 18 [(.t 23), (.t 24), (.t 26)]⟩, ⟨some 9, none, .alloc true z_1 43⟩, oS 10 9 27])
  (.seq (.ops [oF 28 0 8, oL 29 28, oF 30 0 9, oL 31 30, ⟨some 32, none, .bin .eql (.t 29) (.t 31)⟩, oM 33 32, gF 34 33 true 1 8, gL 35 33 true 34, gF 36 33 true 1 9, gL 37 33 true 36, ⟨some 38, (some (33, true)), .bin .eql (.t 35) (.t 37)⟩, oN 39 33 38, oM 40 39, ⟨some 41, (some (40, true)), .faddr true 2 8 (.t 8)⟩, ⟨some 42, (some (40, true)), .load true 8 (.t 41)⟩, ⟨some 43, (some (40, true)), .callF true 14 [(.t 42)]⟩, ⟨some 44, (some (40, true)), .faddr true 2 8 (.t 9)⟩, ⟨some 45, (some (40, true)), .load true 8 (.t 44)⟩, ⟨some 46, (some (40, true)), .callF true 15 [(.t 43), (.t 45)]⟩, oN 47 40 46, oM 48 47, gF 49 48 true 7 7, gL 50 48 true 49, gF 51 48 true 7 5, gL 52 48 true 51, ⟨some 53, (some (48, true)), .callF true 16 [(.t 50), (.t 52)]⟩, oN 54 48 53, oM 6 54])
  .ret))))))))⟩
/- vizard/vizardlaw17.AnswerEchoes -/
def I5 : Fn_ := ⟨6, 102, [(12, none)],
  (.seq (.ops [⟨some 10, none, .boxR true 4 46 (.t 4)⟩, ⟨some 12, none, .mov (.c (.bool false))⟩])
  (.seq (.seq (.ops [⟨some 19, none, .callF true 9 []⟩, ⟨some 20, none, .un .not (.t 19)⟩])
  (.cond (.t 20)
  (.seq (.ops [⟨some 12, none, .mov (.c (.bool false))⟩])
  .ret)
  .skip))
  (.seq (.seq (.ops [oM 21 5, ⟨some 22, none, .len (.t 21)⟩, ⟨some 23, none, .bin .gtr (.t 22) (.c (.int .i64 1472))⟩])
  (.cond (.t 23)
  (.seq (.ops [⟨some 12, none, .mov (.c (.bool true))⟩])
  .ret)
  .skip))
  (.seq (.ops [⟨some 24, none, .load true 4 (.t 10)⟩, oM 25 5, ⟨some 26, none, .build z_2 [(0, 1, (.c (.int .u8 8))), (2, 4, (.t 24)), (6, 1, (.t 25))]⟩, ⟨some 13, none, .alloc true z_2 48⟩, oS 7 13 26])
  (.seq (.ops [⟨some 28, none, .load true 7 (.t 13)⟩, ⟨some 29, none, .callF true 19 [(.t 28)]⟩, oM 27 29, oE 30 27 0, oE 31 27 1, oM 14 30, oM 15 31])
  (.seq (.seq (.ops [oM 32 15, ⟨some 33, none, .eqNl true true (.t 32)⟩])
  (.cond (.t 33)
  (.seq (.ops [⟨some 12, none, .mov (.c (.bool false))⟩])
  .ret)
  .skip))
  (.seq (.ops [oM 34 0, oM 35 1, oM 36 2, oM 37 3, oM 38 14, ⟨some 39, none, .build z_0 [(3, 1, (.c (.int .u8 3))), (4, 1, (.c (.int .u8 1))), (5, 1, (.t 36)), (6, 1, (.t 37)), (7, 1, (.t 38))]⟩, ⟨some 40, none, .callF true 17 [(.t 34), (.t 35), (.t 39)]⟩, ⟨some 16, none, .alloc true z_1 40⟩, oS 10 16 40])
  (.seq (.seq (.ops [oM 41 3, oM 42 1, ⟨some 43, none, .bin .neq (.t 41) (.t 42)⟩])
  (.cond (.t 43)
  (.seq (.ops [oF 44 0 16, oL 45 44, ⟨some 46, none, .bin .eql (.t 45) (.c (.int .i64 0))⟩, oM 47 46, gF 48 47 true 1 16, gL 49 47 true 48, ⟨some 50, (some (47, true)), .bin .eql (.t 49) (.c (.int .i64 17))⟩, oN 51 47 50, oM 12 51])
  .ret)
  .skip))
  (.seq (.ops [⟨some 53, none, .faddr true 2 8 (.t 16)⟩, oF 54 7 53, oL 55 54, ⟨some 56, none, .callF true 20 [(.t 55)]⟩, oM 52 56, oE 57 52 0, oE 58 52 1, ⟨some 17, none, .alloc true z_2 48⟩, oS 7 17 57, oM 18 58])
  (.seq (.ops [oF 59 0 16, oL 60 59, ⟨some 61, none, .bin .eql (.t 60) (.c (.int .i64 1))⟩, oM 62 61, gM 63 62 true 18, ⟨some 64, (some (62, true)), .eqNl true false (.t 63)⟩, oN 65 62 64, oM 66 65, gF 67 66 true 0 17, gL 68 66 true 67, ⟨some 69, (some (66, true)), .bin .eql (.t 68) (.c (.int .u8 0))⟩, oN 70 66 69, oM 71 70, gF 72 71 true 1 17, gL 73 71 true 72, ⟨some 74, (some (71, true)), .bin .eql (.t 73) (.c (.int .u8 0))⟩, oN 75 71 74, oM 76 75, ⟨some 77, (some (76, true)), .faddr true 2 4 (.t 17)⟩, ⟨some 78, (some (76, true)), .load true 4 (.t 77)⟩, ⟨some 79, (some (76, true)), .load true 4 (.t 10)⟩, ⟨some 80, (some (76, true)), .eqS false [1, 1, 1, 1] (.t 78) (.t 79)⟩, oN 81 76 80, oM 82 81, gF 83 82 true 6 17, gL 84 82 true 83, gM 85 82 true 5, ⟨some 86, (some (82, true)), .callF true 16 [(.t 84), (.t 85)]⟩, oN 87 82 86, oM 88 87, ⟨some 89, (some (88, true)), .faddr true 2 8 (.t 16)⟩, gF 90 88 true 5 89, gL 91 88 true 90, gM 92 88 true 1, ⟨some 93, (some (88, true)), .bin .eql (.t 91) (.t 92)⟩, oN 94 88 93, oM 95 94, ⟨some 96, (some (95, true)), .faddr true 2 8 (.t 16)⟩, gF 97 95 true 6 96, gL 98 95 true 97, gM 99 95 true 2, ⟨some 100, (some (95, true)), .bin .eql (.t 98) (.t 99)⟩, oN 101 95 100, oM 12 101])
  .ret))))))))))⟩
/- vizard/vizardlaw17.AnswerOnce -/
def I6 : Fn_ := ⟨5, 132, [(10, none)],
  (.seq (.ops [⟨some 9, none, .boxR true 8 26 (.t 4)⟩, ⟨some 10, none, .mov (.c (.bool false))⟩])
  (.seq (.seq (.ops [⟨some 18, none, .callF true 9 []⟩, ⟨some 19, none, .un .not (.t 18)⟩])
  (.cond (.t 19)
  (.seq (.ops [⟨some 10, none, .mov (.c (.bool false))⟩])
  .ret)
  .skip))
  (.seq (.seq (.ops [⟨some 20, none, .load true 8 (.t 9)⟩, ⟨some 21, none, .callF true 10 [(.t 20)]⟩])
  (.cond (.t 21)
  (.seq (.ops [⟨some 10, none, .mov (.c (.bool true))⟩])
  .ret)
  .skip))
  (.seq (.ops [oM 22 0, oM 23 1, ⟨some 24, none, .load true 8 (.t 9)⟩, ⟨some 25, none, .callF true 17 [(.t 22), (.t 23), (.t 24)]⟩, ⟨some 11, none, .alloc true z_1 40⟩, oS 10 11 25])
  (.seq (.seq (.ops [oF 26 0 11, oL 27 26, ⟨some 28, none, .bin .eql (.t 27) (.c (.int .i64 1))⟩, oM 29 28, ⟨some 30, (some (29, true)), .faddr true 2 8 (.t 11)⟩, gF 31 29 true 5 30, gL 32 29 true 31, gM 33 29 true 1, ⟨some 34, (some (29, true)), .bin .neq (.t 32) (.t 33)⟩, gM 35 29 true 34, ⟨some 36, (some (35, false)), .faddr true 2 8 (.t 11)⟩, gF 37 35 false 6 36, gL 38 35 false 37, gF 39 35 false 5 9, gL 40 35 false 39, ⟨some 41, (some (35, false)), .bin .neq (.t 38) (.t 40)⟩, ⟨some 42, (some (29, true)), .pick (.t 35) (.c (.bool true)) (.t 41)⟩, gM 43 29 true 42, ⟨some 44, (some (43, false)), .faddr true 2 8 (.t 11)⟩, gF 45 43 false 4 44, gL 46 43 false 45, ⟨some 47, (some (43, false)), .bin .neq (.t 46) (.c (.int .u8 1))⟩, ⟨some 48, (some (29, true)), .pick (.t 43) (.c (.bool true)) (.t 47)⟩, gM 49 29 true 48, gF 50 49 false 1 11, gL 51 49 false 50, ⟨some 52, (some (49, false)), .bin .neq (.t 51) (.c (.int .i64 0))⟩, ⟨some 53, (some (29, true)), .pick (.t 49) (.c (.bool true)) (.t 52)⟩, oN 54 29 53, oM 55 54, gF 56 55 false 0 11, gL 57 55 false 56, ⟨some 58, (some (55, false)), .bin .eql (.t 57) (.c (.int .i64 0))⟩, gM 59 55 false 58, gF 60 59 true 1 11, gL 61 59 true 60, ⟨some 62, (some (59, true)), .bin .eql (.t 61) (.c (.int .i64 0))⟩, ⟨some 63, (some (55, false)), .pick (.t 59) (.t 62) (.c (.bool false))⟩, oT 64 55 63])
  (.cond (.t 64)
  (.seq (.ops [⟨some 10, none, .mov (.c (.bool false))⟩])
  .ret)
  .skip))
  (.seq (.ops [oM 66 1, oM 67 2, oM 68 3, ⟨some 69, none, .load true 8 (.t 9)⟩, ⟨some 70, none, .callF true 12 [(.t 66), (.t 67), (.t 68), (.t 69)]⟩, oM 65 70, oE 71 65 0, oE 72 65 1, ⟨some 12, none, .alloc true z_0 26⟩, oS 8 12 71, oM 13 72])
  (.seq (.seq (.ops [oM 73 13, ⟨some 74, none, .un .not (.t 73)⟩])
  (.cond (.t 74)
  (.seq (.ops [⟨some 75, none, .load true 8 (.t 12)⟩, ⟨some 76, none, .build z_0 []⟩, ⟨some 77, none, .callF true 21 [(.t 75), (.t 76)]⟩, oM 10 77])
  .ret)
  .skip))
  (.seq (.ops [oF 79 7 12, oL 80 79, ⟨some 81, none, .callF true 20 [(.t 80)]⟩, oM 78 81, oE 82 78 0, oE 83 78 1, ⟨some 14, none, .alloc true z_2 48⟩, oS 7 14 82, oM 15 83])
  (.seq (.seq (.ops [oM 84 15, ⟨some 85, none, .eqNl true true (.t 84)⟩, oM 86 85, gF 87 86 false 5 12, gL 88 86 false 87, gM 89 86 false 1, ⟨some 90, (some (86, false)), .bin .neq (.t 88) (.t 89)⟩, oT 91 86 90, oM 92 91, gF 93 92 false 6 12, gL 94 92 false 93, gF 95 92 false 5 9, gL 96 92 false 95, ⟨some 97, (some (92, false)), .bin .neq (.t 94) (.t 96)⟩, oT 98 92 97, oM 99 98, gF 100 99 false 0 14, gL 101 99 false 100, gM 102 99 false 2, ⟨some 103, (some (99, false)), .bin .neq (.t 101) (.t 102)⟩, oT 104 99 103, oM 105 104, gF 106 105 false 1 14, gL 107 105 false 106, gM 108 105 false 3, ⟨some 109, (some (105, false)), .bin .neq (.t 107) (.t 108)⟩, oT 110 105 109, oM 111 110, gF 112 111 false 6 12, gL 113 111 false 112, ⟨some 114, (some (111, false)), .callF true 22 [(.t 113)]⟩, ⟨some 115, (some (111, false)), .un .not (.t 114)⟩, oT 116 111 115])
  (.cond (.t 116)
  (.seq (.ops [⟨some 10, none, .mov (.c (.bool false))⟩])
  .ret)
  .skip))
  (.seq (.ops [oM 118 1, oM 119 2, oM 120 3, ⟨some 121, none, .load true 8 (.t 12)⟩, ⟨some 122, none, .callF true 12 [(.t 118), (.t 119), (.t 120), (.t 121)]⟩, oM 117 122, oE 123 117 0, oE 124 117 1, ⟨some 16, none, .alloc true z_0 26⟩, oS 8 16 123, oM 17 124])
  (.seq (.ops [⟨some 125, none, .load true 7 (.t 14)⟩, ⟨some 126, none, .callF true 23 [(.t 125)]⟩, ⟨some 127, none, .bin .neq (.t 126) (.c (.int .i64 1))⟩, oM 128 127, gM 129 128 false 17, ⟨some 130, (some (128, false)), .un .not (.t 129)⟩, oT 131 128 130, oM 10 131])
  .ret)))))))))))⟩
/- vizard/vizardlaw17.AnswerPorts -/
def I7 : Fn_ := ⟨6, 121, [(12, none)],
  (.seq (.ops [⟨some 12, none, .mov (.c (.bool false))⟩])
  (.seq (.seq (.ops [⟨some 20, none, .callF true 9 []⟩, ⟨some 21, none, .un .not (.t 20)⟩])
  (.cond (.t 21)
  (.seq (.ops [⟨some 12, none, .mov (.c (.bool false))⟩])
  .ret)
  .skip))
  (.seq (.seq (.ops [oM 22 5, ⟨some 23, none, .len (.t 22)⟩, ⟨some 24, none, .bin .gtr (.t 23) (.c (.int .i64 1000))⟩])
  (.cond (.t 24)
  (.seq (.ops [⟨some 12, none, .mov (.c (.bool true))⟩])
  .ret)
  .skip))
  (.seq (.ops [oM 26 3, oM 27 4, oM 28 5, ⟨some 29, none, .build z_3 [(0, 1, (.t 26)), (1, 1, (.t 27)), (3, 1, (.t 28))]⟩, oM 30 2, oM 31 1, ⟨some 32, none, .callF true 24 [(.t 29), (.t 30), (.t 31)]⟩, oM 25 32, oE 33 25 0, oE 34 25 1, oM 13 33, oM 14 34])
  (.seq (.ops [oM 35 0, oM 36 1, oM 37 2, oM 38 1, oM 39 13, ⟨some 40, none, .build z_0 [(3, 1, (.c (.int .u8 3))), (4, 1, (.c (.int .u8 17))), (5, 1, (.t 37)), (6, 1, (.t 38)), (7, 1, (.t 39))]⟩, ⟨some 41, none, .callF true 17 [(.t 35), (.t 36), (.t 40)]⟩, ⟨some 15, none, .alloc true z_1 40⟩, oS 10 15 41])
  (.seq (.seq (.ops [oM 42 14, ⟨some 43, none, .eqNl true true (.t 42)⟩])
  (.cond (.t 43)
  (.seq (.ops [⟨some 12, none, .mov (.c (.bool false))⟩])
  .ret)
  .skip))
  (.seq (.seq (.ops [oM 44 0, ⟨some 45, none, .bin .eql (.t 44) (.c (.int .i64 0))⟩, oM 46 45, gM 47 46 true 4, ⟨some 48, (some (46, true)), .bin .eql (.t 47) (.c (.int .u16 67))⟩, oN 49 46 48])
  (.cond (.t 49)
  (.seq (.ops [oF 50 0 15, oL 51 50, ⟨some 52, none, .bin .eql (.t 51) (.c (.int .i64 2))⟩, oM 12 52])
  .ret)
  .skip))
  (.seq (.seq (.ops [oM 53 2, ⟨some 54, none, .callF true 22 [(.t 53)]⟩, ⟨some 55, none, .un .not (.t 54)⟩, oM 56 55, gM 57 56 false 1, ⟨some 58, (some (56, false)), .callF true 22 [(.t 57)]⟩, ⟨some 59, (some (56, false)), .un .not (.t 58)⟩, oT 60 56 59])
  (.cond (.t 60)
  (.seq (.ops [oF 61 0 15, oL 62 61, ⟨some 63, none, .bin .eql (.t 62) (.c (.int .i64 0))⟩, oM 64 63, gF 65 64 true 1 15, gL 66 64 true 65, ⟨some 67, (some (64, true)), .bin .eql (.t 66) (.c (.int .i64 17))⟩, oN 68 64 67, oM 12 68])
  .ret)
  .skip))
  (.seq (.ops [⟨some 70, none, .faddr true 2 8 (.t 15)⟩, oF 71 7 70, oL 72 71, ⟨some 73, none, .callF true 20 [(.t 72)]⟩, oM 69 73, oE 74 69 0, oE 75 69 1, ⟨some 16, none, .alloc true z_2 48⟩, oS 7 16 74, oM 17 75])
  (.seq (.ops [⟨some 77, none, .load true 7 (.t 16)⟩, ⟨some 78, none, .callF true 25 [(.t 77)]⟩, oM 76 78, oE 79 76 0, oE 80 76 1, ⟨some 18, none, .alloc true z_0 26⟩, oS 8 18 79, oM 19 80])
  (.seq (.ops [oF 81 0 15, oL 82 81, ⟨some 83, none, .bin .eql (.t 82) (.c (.int .i64 1))⟩, oM 84 83, gM 85 84 true 17, ⟨some 86, (some (84, true)), .eqNl true false (.t 85)⟩, oN 87 84 86, oM 88 87, gM 89 88 true 19, ⟨some 90, (some (88, true)), .eqNl true false (.t 89)⟩, oN 91 88 90, oM 92 91, gF 93 92 true 0 16, gL 94 92 true 93, ⟨some 95, (some (92, true)), .bin .eql (.t 94) (.c (.int .u8 3))⟩, oN 96 92 95, oM 97 96, gF 98 97 true 1 16, gL 99 97 true 98, ⟨some 100, (some (97, true)), .bin .eql (.t 99) (.c (.int .u8 3))⟩, oN 101 97 100, oM 102 101, gF 103 102 true 5 18, gL 104 102 true 103, gM 105 102 true 2, ⟨some 106, (some (102, true)), .bin .eql (.t 104) (.t 105)⟩, oN 107 102 106, oM 108 107, gF 109 108 true 6 18, gL 110 108 true 109, gM 111 108 true 1, ⟨some 112, (some (108, true)), .bin .eql (.t 110) (.t 111)⟩, oN 113 108 112, oM 114 113, gF 115 114 true 7 18, gL 116 114 true 115, gM 117 114 true 13, ⟨some 118, (some (114, true)), .slice 1 (.t 117) none (some (.c (.int .i64 8)))⟩, ⟨some 119, (some (114, true)), .callF true 16 [(.t 116), (.t 118)]⟩, oN 120 114 119, oM 12 120])
  .ret)))))))))))⟩
/- vizard/vizardlaw21.TurnInner -/
def I8 : Fn_ := ⟨3, 171, [(6, none)],
  (.seq (.ops [⟨some 3, none, .boxR true 8 26 (.t 0)⟩, ⟨some 4, none, .boxR true 2 67 (.t 1)⟩, ⟨some 6, none, .mov (.c (.bool false))⟩])
  (.seq (.seq (.ops [⟨some 14, none, .callF true 26 []⟩, ⟨some 15, none, .un .not (.t 14)⟩])
  (.cond (.t 15)
  (.seq (.ops [⟨some 6, none, .mov (.c (.bool false))⟩])
  .ret)
  .skip))
  (.seq (.ops [⟨some 17, none, .load true 8 (.t 3)⟩, ⟨some 18, none, .callF true 27 [(.t 17)]⟩, oM 16 18, oE 19 16 0, oE 20 16 1, ⟨some 7, none, .alloc true z_4 69⟩, oS 7 7 19, oM 8 20])
  (.seq (.seq (.ops [oF 21 7 3, oL 22 21, ⟨some 23, none, .len (.t 22)⟩, ⟨some 24, none, .bin .gtr (.t 23) (.c (.int .i64 1600))⟩, oM 25 24, gM 26 25 false 8, ⟨some 27, (some (25, false)), .eqNl true true (.t 26)⟩, oT 28 25 27])
  (.cond (.t 28)
  (.seq (.ops [⟨some 6, none, .mov (.c (.bool true))⟩])
  .ret)
  .skip))
  (.seq (.ops [⟨some 30, none, .load true 8 (.t 3)⟩, ⟨some 31, none, .load true 2 (.t 4)⟩, ⟨some 32, none, .callF true 28 [(.t 30), (.t 31)]⟩, oM 29 32, oE 33 29 0, oE 34 29 1, ⟨some 9, none, .alloc true z_0 26⟩, oS 8 9 33, oM 10 34])
  (.seq (.seq (.ops [oM 35 2])
  (.cond (.t 35)
  (.ops [⟨some 37, none, .load true 8 (.t 3)⟩, ⟨some 38, none, .load true 2 (.t 4)⟩, ⟨some 39, none, .callF true 29 [(.t 37), (.t 38)]⟩, oM 36 39, oE 40 36 0, oE 41 36 1, oS 8 9 40, oM 10 41])
  .skip))
  (.seq (.ops [⟨some 43, none, .load true 8 (.t 9)⟩, ⟨some 44, none, .callF true 27 [(.t 43)]⟩, oM 42 44, oE 45 42 0, oE 46 42 1, ⟨some 11, none, .alloc true z_4 69⟩, oS 7 11 45, oM 12 46])
  (.seq (.seq (.ops [oM 47 10, ⟨some 48, none, .eqNl true true (.t 47)⟩, oM 49 48, gM 50 49 false 12, ⟨some 51, (some (49, false)), .eqNl true true (.t 50)⟩, oT 52 49 51, oM 53 52, gF 54 53 false 5 9, gL 55 53 false 54, gF 56 53 false 5 3, gL 57 53 false 56, ⟨some 58, (some (53, false)), .bin .neq (.t 55) (.t 57)⟩, oT 59 53 58, oM 60 59, gF 61 60 false 6 9, gL 62 60 false 61, gF 63 60 false 6 3, gL 64 60 false 63, ⟨some 65, (some (60, false)), .bin .neq (.t 62) (.t 64)⟩, oT 66 60 65, oM 67 66, gF 68 67 false 7 9, gL 69 67 false 68, ⟨some 70, (some (67, false)), .len (.t 69)⟩, gF 71 67 false 7 3, gL 72 67 false 71, ⟨some 73, (some (67, false)), .len (.t 72)⟩, ⟨some 74, (some (67, false)), .bin .neq (.t 70) (.t 73)⟩, oT 75 67 74, oM 76 75, gF 77 76 false 7 9, gL 78 76 false 77, ⟨some 79, (some (76, false)), .buildR 1 24 [(.t 78)]⟩, ⟨some 80, (some (76, false)), .callF true 30 [(.t 79)]⟩, ⟨some 81, (some (76, false)), .un .not (.t 80)⟩, oT 82 76 81, oM 83 82, gF 84 83 false 0 11, gL 85 83 false 84, gF 86 83 false 0 7, gL 87 83 false 86, ⟨some 88, (some (83, false)), .bin .neq (.t 85) (.t 87)⟩, oT 89 83 88, oM 90 89, gF 91 90 false 6 11, gL 92 90 false 91, gF 93 90 false 6 7, gL 94 90 false 93, ⟨some 95, (some (90, false)), .bin .neq (.t 92) (.t 94)⟩, oT 96 90 95])
  (.cond (.t 96)
  (.seq (.ops [⟨some 6, none, .mov (.c (.bool false))⟩])
  .ret)
  .skip))
  (.seq (.seq (.ops [oF 97 7 3, oL 98 97, ⟨some 99, none, .slice 1 (.t 98) (some (.c (.int .i64 8))) (some (.c (.int .i64 28)))⟩, ⟨some 100, none, .buildR 1 24 [(.t 99)]⟩, ⟨some 101, none, .callF true 30 [(.t 100)]⟩, oM 102 101, gF 103 102 true 7 9, gL 104 102 true 103, ⟨some 105, (some (102, true)), .slice 1 (.t 104) (some (.c (.int .i64 8))) (some (.c (.int .i64 28)))⟩, ⟨some 106, (some (102, true)), .buildR 1 24 [(.t 105)]⟩, ⟨some 107, (some (102, true)), .callF true 30 [(.t 106)]⟩, ⟨some 108, (some (102, true)), .un .not (.t 107)⟩, oN 109 102 108])
  (.cond (.t 109)
  (.seq (.ops [⟨some 6, none, .mov (.c (.bool false))⟩])
  .ret)
  .skip))
  (.seq (.ops [oF 110 0 7, oL 111 110, ⟨some 112, none, .bin .neq (.t 111) (.c (.int .u8 1))⟩, oM 113 112, gM 114 113 false 2, gF 115 113 false 6 7, gL 116 113 false 115, ⟨some 117, (some (113, false)), .bin .eql (.t 116) (.c (.int .u8 8))⟩, ⟨some 118, (some (113, false)), .binB .eql (.t 114) (.t 117)⟩, oT 119 113 118, oM 13 119])
  (.seq (.seq (.ops [oM 120 2])
  (.cond (.t 120)
  (.seq (.ops [⟨some 121, none, .faddr true 3 2 (.t 11)⟩, ⟨some 122, none, .load true 2 (.t 121)⟩, ⟨some 123, none, .faddr true 3 2 (.t 7)⟩, ⟨some 124, none, .load true 2 (.t 123)⟩, ⟨some 125, none, .eqS false [1, 1] (.t 122) (.t 124)⟩, oM 126 125, ⟨some 127, (some (126, true)), .faddr true 1 2 (.t 11)⟩, gF 128 126 true 0 127, gL 129 126 true 128, gF 130 126 true 0 4, gL 131 126 true 130, ⟨some 132, (some (126, true)), .bin .eql (.t 129) (.t 131)⟩, oN 133 126 132, oM 134 133, gM 135 134 true 13, ⟨some 136, (some (134, true)), .un .not (.t 135)⟩, gM 137 134 true 136, ⟨some 138, (some (137, false)), .faddr true 1 2 (.t 11)⟩, gF 139 137 false 1 138, gL 140 137 false 139, gF 141 137 false 1 4, gL 142 137 false 141, ⟨some 143, (some (137, false)), .bin .eql (.t 140) (.t 142)⟩, ⟨some 144, (some (134, true)), .pick (.t 137) (.c (.bool true)) (.t 143)⟩, oN 145 134 144, oM 6 145])
  .ret)
  .skip))
  (.seq (.ops [⟨some 146, none, .faddr true 1 2 (.t 11)⟩, ⟨some 147, none, .load true 2 (.t 146)⟩, ⟨some 148, none, .faddr true 1 2 (.t 7)⟩, ⟨some 149, none, .load true 2 (.t 148)⟩, ⟨some 150, none, .eqS false [1, 1] (.t 147) (.t 149)⟩, oM 151 150, ⟨some 152, (some (151, true)), .faddr true 3 2 (.t 11)⟩, gF 153 151 true 0 152, gL 154 151 true 153, gF 155 151 true 0 4, gL 156 151 true 155, ⟨some 157, (some (151, true)), .bin .eql (.t 154) (.t 156)⟩, oN 158 151 157, oM 159 158, gM 160 159 true 13, ⟨some 161, (some (159, true)), .un .not (.t 160)⟩, gM 162 159 true 161, ⟨some 163, (some (162, false)), .faddr true 3 2 (.t 11)⟩, gF 164 162 false 1 163, gL 165 162 false 164, gF 166 162 false 1 4, gL 167 162 false 166, ⟨some 168, (some (162, false)), .bin .eql (.t 165) (.t 167)⟩, ⟨some 169, (some (159, true)), .pick (.t 162) (.c (.bool true)) (.t 168)⟩, oN 170 159 169, oM 6 170])
  .ret))))))))))))⟩
/- vizard/vizardlaw17.alive -/
def I9 : Fn_ := ⟨0, 145, [(0, none)],
  (.seq (.ops [⟨some 0, none, .mov (.c (.bool false))⟩])
  (.seq (.ops [⟨some 20, none, .build z_5 [(0, 1, (.c (.int .u8 1))), (1, 1, (.c (.int .u8 2))), (2, 1, (.c (.int .u8 3))), (3, 1, (.c (.int .u8 4)))]⟩, ⟨some 21, none, .buildR 1 5 [(.c (.int .u8 9))]⟩, ⟨some 22, none, .build z_2 [(0, 1, (.c (.int .u8 8))), (2, 4, (.t 20)), (6, 1, (.t 21))]⟩, ⟨some 1, none, .alloc true z_2 48⟩, oS 7 1 22])
  (.seq (.ops [⟨some 24, none, .load true 7 (.t 1)⟩, ⟨some 25, none, .callF true 19 [(.t 24)]⟩, oM 23 25, oE 26 23 0, oE 27 23 1, oM 2 26, oM 3 27])
  (.seq (.ops [oM 28 2, ⟨some 29, none, .build z_0 [(3, 1, (.c (.int .u8 9))), (4, 1, (.c (.int .u8 1))), (5, 1, (.c (.int .u32 167772162))), (6, 1, (.c (.int .u32 167772161))), (7, 1, (.t 28))]⟩, ⟨some 4, none, .alloc true z_0 26⟩, oS 8 4 29])
  (.seq (.ops [⟨some 30, none, .load true 8 (.t 4)⟩, ⟨some 31, none, .callF true 17 [(.c (.int .i64 0)), (.c (.int .u32 167772161)), (.t 30)]⟩, ⟨some 5, none, .alloc true z_1 40⟩, oS 10 5 31])
  (.seq (.ops [⟨some 33, none, .faddr true 2 8 (.t 5)⟩, oF 34 7 33, oL 35 34, ⟨some 36, none, .callF true 20 [(.t 35)]⟩, oM 32 36, oE 37 32 0, oE 38 32 1, ⟨some 6, none, .alloc true z_2 48⟩, oS 7 6 37, oM 7 38])
  (.seq (.ops [⟨some 40, none, .build z_3 [(0, 1, (.c (.int .u16 5))), (1, 1, (.c (.int .u16 6)))]⟩, ⟨some 41, none, .callF true 24 [(.t 40), (.c (.int .u32 167772162)), (.c (.int .u32 167772161))]⟩, oM 39 41, oE 42 39 0, oE 43 39 1, oM 8 42, oM 9 43])
  (.seq (.ops [oM 44 8, ⟨some 45, none, .build z_0 [(4, 1, (.c (.int .u8 17))), (5, 1, (.c (.int .u32 167772162))), (6, 1, (.c (.int .u32 167772161))), (7, 1, (.t 44))]⟩, ⟨some 10, none, .alloc true z_0 26⟩, oS 8 10 45])
  (.seq (.ops [⟨some 46, none, .load true 8 (.t 10)⟩, ⟨some 47, none, .callF true 17 [(.c (.int .i64 0)), (.c (.int .u32 167772161)), (.t 46)]⟩, ⟨some 11, none, .alloc true z_1 40⟩, oS 10 11 47])
  (.seq (.ops [⟨some 49, none, .build z_3 [(0, 1, (.c (.int .u16 68))), (1, 1, (.c (.int .u16 67)))]⟩, ⟨some 50, none, .callF true 24 [(.t 49), (.c (.int .u32 167772162)), (.c (.int .u32 167772161))]⟩, oM 48 50, oE 51 48 0, oE 52 48 1, oM 12 51, oM 13 52])
  (.seq (.ops [oM 53 12, oF 54 7 10, oS 1 54 53])
  (.seq (.ops [⟨some 55, none, .load true 8 (.t 10)⟩, ⟨some 56, none, .callF true 17 [(.c (.int .i64 0)), (.c (.int .u32 167772161)), (.t 55)]⟩, ⟨some 14, none, .alloc true z_1 40⟩, oS 10 14 56])
  (.seq (.ops [⟨some 57, none, .build z_0 [(4, 1, (.c (.int .u8 6)))]⟩, ⟨some 58, none, .callF true 17 [(.c (.int .i64 1)), (.c (.int .u32 167772161)), (.t 57)]⟩, ⟨some 15, none, .alloc true z_1 40⟩, oS 10 15 58])
  (.seq (.ops [⟨some 60, none, .load true 8 (.t 4)⟩, ⟨some 61, none, .callF true 12 [(.c (.int .u32 1)), (.c (.int .u8 11)), (.c (.int .u8 0)), (.t 60)]⟩, oM 59 61, oE 62 59 0, oE 63 59 1, ⟨some 16, none, .alloc true z_0 26⟩, oS 8 16 62, oM 17 63])
  (.seq (.ops [⟨some 65, none, .faddr true 2 8 (.t 11)⟩, ⟨some 66, none, .load true 8 (.t 65)⟩, ⟨some 67, none, .callF true 12 [(.c (.int .u32 1)), (.c (.int .u8 11)), (.c (.int .u8 0)), (.t 66)]⟩, oM 64 67, oE 68 64 0, oE 69 64 1, ⟨some 18, none, .alloc true z_0 26⟩, oS 8 18 68, oM 19 69])
  (.seq (.ops [oF 70 0 5, oL 71 70, ⟨some 72, none, .bin .eql (.t 71) (.c (.int .i64 1))⟩, oM 73 72, gM 74 73 true 7, ⟨some 75, (some (73, true)), .eqNl true false (.t 74)⟩, oN 76 73 75, oM 77 76, gF 78 77 true 0 6, gL 79 77 true 78, ⟨some 80, (some (77, true)), .bin .eql (.t 79) (.c (.int .u8 0))⟩, oN 81 77 80, oM 82 81, ⟨some 83, (some (82, true)), .faddr true 2 4 (.t 6)⟩, ⟨some 84, (some (82, true)), .load true 4 (.t 83)⟩, ⟨some 85, (some (82, true)), .faddr true 2 4 (.t 1)⟩, ⟨some 86, (some (82, true)), .load true 4 (.t 85)⟩, ⟨some 87, (some (82, true)), .eqS false [1, 1, 1, 1] (.t 84) (.t 86)⟩, oN 88 82 87, oM 89 88, gF 90 89 true 6 6, gL 91 89 true 90, gF 92 89 true 6 1, gL 93 89 true 92, ⟨some 94, (some (89, true)), .callF true 16 [(.t 91), (.t 93)]⟩, oN 95 89 94, oM 96 95, ⟨some 97, (some (96, true)), .faddr true 2 8 (.t 5)⟩, gF 98 96 true 3 97, gL 99 96 true 98, ⟨some 100, (some (96, true)), .bin .eql (.t 99) (.c (.int .u8 64))⟩, oN 101 96 100, oM 102 101, ⟨some 103, (some (102, true)), .faddr true 2 8 (.t 5)⟩, gF 104 102 true 6 103, gL 105 102 true 104, ⟨some 106, (some (102, true)), .bin .eql (.t 105) (.c (.int .u32 167772162))⟩, oN 107 102 106, oM 108 107, gF 109 108 true 0 11, gL 110 108 true 109, ⟨some 111, (some (108, true)), .bin .eql (.t 110) (.c (.int .i64 1))⟩, oN 112 108 111, oM 113 112, gF 114 113 true 0 14, gL 115 113 true 114, ⟨some 116, (some (113, true)), .bin .eql (.t 115) (.c (.int .i64 2))⟩, oN 117 113 116, oM 118 117, gF 119 118 true 0 15, gL 120 118 true 119, ⟨some 121, (some (118, true)), .bin .eql (.t 120) (.c (.int .i64 0))⟩, oN 122 118 121, oM 123 122, gF 124 123 true 1 15, gL 125 123 true 124, ⟨some 126, (some (123, true)), .bin .eql (.t 125) (.c (.int .i64 17))⟩, oN 127 123 126, oM 128 127, gM 129 128 true 17, oN 130 128 129, oM 131 130, gF 132 131 true 5 16, gL 133 131 true 132, ⟨some 134, (some (131, true)), .bin .eql (.t 133) (.c (.int .u32 1))⟩, oN 135 131 134, oM 136 135, gF 137 136 true 6 16, gL 138 136 true 137, ⟨some 139, (some (136, true)), .bin .eql (.t 138) (.c (.int .u32 167772162))⟩, oN 140 136 139, oM 141 140, gM 142 141 true 19, ⟨some 143, (some (141, true)), .un .not (.t 142)⟩, oN 144 141 143, oM 0 144])
  .ret))))))))))))))))⟩
/- vizard/vizardlaw17.great -/
def I10 : Fn_ := ⟨1, 7, [(2, none)],
  (.seq (.ops [⟨some 1, none, .boxR true 8 26 (.t 0)⟩, ⟨some 2, none, .mov (.c (.bool false))⟩])
  (.seq (.ops [oF 3 7 1, oL 4 3, ⟨some 5, none, .len (.t 4)⟩, ⟨some 6, none, .bin .gtr (.t 5) (.c (.int .i64 1500))⟩, oM 2 6])
  .ret))⟩
/- vizard/vizardref00.Own -/
def I11 : Fn_ := ⟨1, 6, [(2, none)],
  (.seq (.ops [⟨some 2, none, .mov (.c (.rs false 1 []))⟩])
  (.seq (.ops [⟨some 3, none, .buildSl 1 5 []⟩, oM 4 0, ⟨some 5, none, .append 1 1 5 (.t 3) (.t 4)⟩, oM 2 5])
  .ret))⟩
/- vizard/answer.Error -/
def I12 : Fn_ := ⟨4, 22, [(8, some (true, 8)), (9, none)],
  (.seq (.ops [⟨some 7, none, .boxR true 8 26 (.t 3)⟩, ⟨some 8, none, .alloc true z_0 26⟩, ⟨some 9, none, .mov (.c (.bool false))⟩])
  (.seq (.seq (.ops [⟨some 10, none, .load true 8 (.t 7)⟩, ⟨some 11, none, .callF true 31 [(.t 10)]⟩, ⟨some 12, none, .un .not (.t 11)⟩])
  (.cond (.t 12)
  (.seq (.ops [⟨some 13, none, .build z_0 []⟩, oS 8 8 13, ⟨some 9, none, .mov (.c (.bool false))⟩])
  .ret)
  .skip))
  (.seq (.ops [oM 14 0, oF 15 5 7, oL 16 15, oM 17 1, oM 18 2, ⟨some 19, none, .load true 8 (.t 7)⟩, ⟨some 20, none, .callF true 33 [(.t 17), (.t 18), (.t 19)]⟩, ⟨some 21, none, .callF true 32 [(.t 14), (.t 16), (.t 20)]⟩, oS 8 8 21, ⟨some 9, none, .mov (.c (.bool true))⟩])
  .ret)))⟩
/- vizard/vizardref17.Error -/
def I13 : Fn_ := ⟨4, 49, [(8, some (true, 8)), (9, none)],
  (.seq (.ops [⟨some 7, none, .boxR true 8 32 (.t 3)⟩, ⟨some 8, none, .alloc true z_0 32⟩, ⟨some 9, none, .mov (.c (.bool false))⟩])
  (.seq (.seq (.ops [oF 12 5 7, oL 13 12, ⟨some 14, none, .callF true 34 [(.t 13)]⟩, ⟨some 15, none, .un .not (.t 14)⟩, oM 16 15, gF 17 16 false 6 7, gL 18 16 false 17, ⟨some 19, (some (16, false)), .callF true 34 [(.t 18)]⟩, ⟨some 20, (some (16, false)), .un .not (.t 19)⟩, oT 21 16 20])
  (.cond (.t 21)
  (.seq (.ops [⟨some 22, none, .build z_0 []⟩, oS 8 8 22, ⟨some 9, none, .mov (.c (.bool false))⟩])
  .ret)
  .skip))
  (.seq (.seq (.ops [oF 23 4 7, oL 24 23, ⟨some 25, none, .bin .eql (.t 24) (.c (.int .u8 1))⟩])
  (.cond (.t 25)
  (.seq (.ops [oF 27 7 7, oL 28 27, ⟨some 29, none, .callF true 35 [(.t 28)]⟩, oM 26 29, oE 30 26 0, oE 31 26 1, ⟨some 10, none, .alloc true z_2 77⟩, ⟨some 11, none, .alloc true z_6 81⟩, oS 7 10 30, oS 2 11 31])
  (.seq (.ops [oF 32 1 11, oL 33 32, ⟨some 34, none, .bin .neq (.t 33) (.c (.int .i64 0))⟩, oM 35 34, ⟨some 36, (some (35, false)), .load true 7 (.t 10)⟩, ⟨some 37, (some (35, false)), .callF true 36 [(.t 36)]⟩, ⟨some 38, (some (35, false)), .bin .eql (.t 37) (.c (.int .i64 1))⟩, oT 39 35 38])
  (.cond (.t 39)
  (.seq (.ops [⟨some 40, none, .build z_0 []⟩, oS 8 8 40, ⟨some 9, none, .mov (.c (.bool false))⟩])
  .ret)
  .skip)))
  .skip))
  (.seq (.ops [oM 41 0, oF 42 5 7, oL 43 42, oM 44 1, oM 45 2, ⟨some 46, none, .load true 8 (.t 7)⟩, ⟨some 47, none, .callF true 38 [(.t 44), (.t 45), (.t 46)]⟩, ⟨some 48, none, .callF true 37 [(.t 41), (.t 43), (.t 47)]⟩, oS 8 8 48, ⟨some 9, none, .mov (.c (.bool true))⟩])
  .ret))))⟩
/- vizard/vizardlaw07.Of -/
def I14 : Fn_ := ⟨1, 21, [(2, some (true, 8))],
  (.seq (.ops [⟨some 1, none, .boxR true 8 26 (.t 0)⟩, ⟨some 2, none, .alloc true z_0 32⟩])
  (.seq (.ops [oF 3 0 1, oL 4 3, oF 5 1 1, oL 6 5, oF 7 2 1, oL 8 7, oF 9 3 1, oL 10 9, oF 11 4 1, oL 12 11, oF 13 5 1, oL 14 13, oF 15 6 1, oL 16 15, oF 17 7 1, oL 18 17, ⟨some 19, none, .callF true 11 [(.t 18)]⟩, ⟨some 20, none, .build z_0 [(0, 1, (.t 4)), (1, 1, (.t 6)), (2, 1, (.t 8)), (3, 1, (.t 10)), (4, 1, (.t 12)), (5, 1, (.t 14)), (6, 1, (.t 16)), (7, 1, (.t 19))]⟩, oS 8 2 20])
  .ret))⟩
/- vizard/vizardref07.Same -/
def I15 : Fn_ := ⟨2, 61, [(4, none)],
  (.seq (.ops [⟨some 2, none, .boxR true 8 32 (.t 0)⟩, ⟨some 3, none, .boxR true 8 32 (.t 1)⟩, ⟨some 4, none, .mov (.c (.bool false))⟩])
  (.seq (.ops [oF 5 0 2, oL 6 5, oF 7 0 3, oL 8 7, ⟨some 9, none, .bin .eql (.t 6) (.t 8)⟩, oM 10 9, gF 11 10 true 1 2, gL 12 10 true 11, gF 13 10 true 1 3, gL 14 10 true 13, ⟨some 15, (some (10, true)), .bin .eql (.t 12) (.t 14)⟩, oN 16 10 15, oM 17 16, gF 18 17 true 2 2, gL 19 17 true 18, gF 20 17 true 2 3, gL 21 17 true 20, ⟨some 22, (some (17, true)), .binB .eql (.t 19) (.t 21)⟩, oN 23 17 22, oM 24 23, gF 25 24 true 3 2, gL 26 24 true 25, gF 27 24 true 3 3, gL 28 24 true 27, ⟨some 29, (some (24, true)), .bin .eql (.t 26) (.t 28)⟩, oN 30 24 29, oM 31 30, gF 32 31 true 4 2, gL 33 31 true 32, gF 34 31 true 4 3, gL 35 31 true 34, ⟨some 36, (some (31, true)), .bin .eql (.t 33) (.t 35)⟩, oN 37 31 36, oM 38 37, gF 39 38 true 5 2, gL 40 38 true 39, gF 41 38 true 5 3, gL 42 38 true 41, ⟨some 43, (some (38, true)), .bin .eql (.t 40) (.t 42)⟩, oN 44 38 43, oM 45 44, gF 46 45 true 6 2, gL 47 45 true 46, gF 48 45 true 6 3, gL 49 45 true 48, ⟨some 50, (some (45, true)), .bin .eql (.t 47) (.t 49)⟩, oN 51 45 50, oM 52 51, gF 53 52 true 7 2, gL 54 52 true 53, ⟨some 55, (some (52, true)), .toStr (.t 54)⟩, gF 56 52 true 7 3, gL 57 52 true 56, ⟨some 58, (some (52, true)), .toStr (.t 57)⟩, ⟨some 59, (some (52, true)), .bin .eql (.t 55) (.t 58)⟩, oN 60 52 59, oM 4 60])
  .ret))⟩
/- vizard/vizardref00.SameBytes -/
def B16_0 : C := (.seq (.seq (.ops [oM 11 5, oM 12 0, ⟨some 13, none, .len (.t 12)⟩, ⟨some 14, none, .bin .lss (.t 11) (.t 13)⟩])
  (.cond (.t 14)
  .skip
  (.exit 0)))
  (.seq (.block 1 (some [0, 1, 5]) (.seq (.ops [oM 17 0, oM 18 5, ⟨some 19, none, .iaddr 1 (.t 17) (.t 18)⟩, oL 20 19, oM 21 1, oM 22 5, ⟨some 23, none, .iaddr 1 (.t 21) (.t 22)⟩, oL 24 23, ⟨some 25, none, .bin .neq (.t 20) (.t 24)⟩])
  (.cond (.t 25)
  (.seq (.ops [⟨some 4, none, .mov (.c (.bool false))⟩])
  .ret)
  .skip)))
  (.ops [oM 15 5, ⟨some 16, none, .bin .add (.t 15) (.c (.int .i64 1))⟩, oM 5 16])))
def L16_0 : C := .loop (some [0, 1, 5]) B16_0
theorem L16_0_eq {E : Env} (x : St) : ev E L16_0 x = andThen (ev E B16_0 (restr (some [0, 1, 5]) x)) (ev E L16_0) := ev_loop _ _ x
theorem L16_0_lp {E : Env} (s : Slots) (h : Heap) : ev E L16_0 ⟨s, h⟩ = lp E L16_0 (pickS s [0, 1, 5]) h := lp_of L16_0_eq s h
theorem L16_0_go {E : Env} (s : Slots) (h : Heap) : lp E L16_0 s h = andThen (ev E B16_0 ⟨pickS s [0, 1, 5], h⟩) (ev E L16_0) := lp_go L16_0_eq s h
noncomputable def T16_0 (E : Env) (o : Out) : Option (AV × Heap) := outR [(4, none)] (andThen (endBlock 0 (some [0, 1, 5]) (o)) (ev E (.seq (.ops [⟨some 4, none, .mov (.c (.bool true))⟩])
  .ret)))
def I16 : Fn_ := ⟨2, 26, [(4, none)],
  (.seq (.ops [⟨some 4, none, .mov (.c (.bool false))⟩])
  (.seq (.seq (.ops [oM 6 0, ⟨some 7, none, .len (.t 6)⟩, oM 8 1, ⟨some 9, none, .len (.t 8)⟩, ⟨some 10, none, .bin .neq (.t 7) (.t 9)⟩])
  (.cond (.t 10)
  (.seq (.ops [⟨some 4, none, .mov (.c (.bool false))⟩])
  .ret)
  .skip))
  (.seq (.seq (.ops [⟨some 5, none, .mov (.c (.int .i64 0))⟩])
  (.block 0 (some [0, 1, 5]) L16_0))
  (.seq (.ops [⟨some 4, none, .mov (.c (.bool true))⟩])
  .ret))))⟩
/- vizard/answer.Local -/
def I17 : Fn_ := ⟨3, 21, [(6, some (true, 10))],
  (.seq (.ops [⟨some 5, none, .boxR true 8 26 (.t 2)⟩, ⟨some 6, none, .alloc true z_1 40⟩])
  (.seq (.seq (.ops [oF 7 4 5, oL 8 7])
  (.block 0 (some [0, 1, 5, 6, 8]) (.seq (.ops [⟨some 10, none, .bin .eql (.t 8) (.c (.int .u8 1))⟩, oM 9 10])
  (.cond (.t 9)
  (.seq (.ops [oM 11 1, ⟨some 12, none, .load true 8 (.t 5)⟩, ⟨some 13, none, .callF true 39 [(.t 11), (.t 12)]⟩, oS 10 6 13])
  .ret)
  (.seq (.ops [⟨some 15, none, .bin .eql (.t 8) (.c (.int .u8 17))⟩, oM 14 15])
  (.cond (.t 14)
  (.seq (.ops [oM 16 0, oM 17 1, ⟨some 18, none, .load true 8 (.t 5)⟩, ⟨some 19, none, .callF true 40 [(.t 16), (.t 17), (.t 18)]⟩, oS 10 6 19])
  .ret)
  .skip))))))
  (.seq (.ops [⟨some 20, none, .callF true 41 [(.c (.int .i64 17))]⟩, oS 10 6 20])
  .ret)))⟩
/- vizard/vizardref17.Local -/
def I18 : Fn_ := ⟨3, 90, [(6, some (true, 10))],
  (.seq (.ops [⟨some 5, none, .boxR true 8 32 (.t 2)⟩, ⟨some 6, none, .alloc true z_1 43⟩])
  (.seq (.seq (.ops [oF 13 4 5, oL 14 13, ⟨some 15, none, .bin .eql (.t 14) (.c (.int .u8 1))⟩])
  (.cond (.t 15)
  (.seq (.ops [oF 17 7 5, oL 18 17, ⟨some 19, none, .callF true 35 [(.t 18)]⟩, oM 16 19, oE 20 16 0, oE 21 16 1, ⟨some 7, none, .alloc true z_2 77⟩, ⟨some 8, none, .alloc true z_6 81⟩, oS 7 7 20, oS 2 8 21])
  (.seq (.seq (.ops [oF 22 1 8, oL 23 22, ⟨some 24, none, .bin .neq (.t 23) (.c (.int .i64 0))⟩])
  (.cond (.t 24)
  (.seq (.ops [⟨some 25, none, .load true 2 (.t 8)⟩, ⟨some 26, none, .callF true 42 [(.t 25)]⟩, ⟨some 27, none, .build z_1 [(1, 1, (.t 26))]⟩, oS 10 6 27])
  .ret)
  .skip))
  (.seq (.ops [oF 28 0 7, oL 29 28, ⟨some 30, none, .bin .eql (.t 29) (.c (.int .u8 8))⟩, oM 31 30, gF 32 31 true 1 7, gL 33 31 true 32, ⟨some 34, (some (31, true)), .bin .eql (.t 33) (.c (.int .u8 0))⟩, oN 35 31 34, oM 36 35, gF 37 36 true 6 5, gL 38 36 true 37, gM 39 36 true 1, ⟨some 40, (some (36, true)), .bin .eql (.t 38) (.t 39)⟩, oN 41 36 40])
  (.cond (.t 41)
  (.seq (.ops [oF 42 0 7, ⟨none, none, .store 1 (.t 42) (.c (.int .u8 0))⟩])
  (.seq (.ops [oM 43 1, oF 44 5 5, oL 45 44, ⟨some 46, none, .load true 7 (.t 7)⟩, ⟨some 47, none, .callF true 37 [(.t 43), (.t 45), (.t 46)]⟩, ⟨some 48, none, .build z_1 [(0, 1, (.c (.int .i64 1))), (2, 8, (.t 47))]⟩, oS 10 6 48])
  .ret))
  .skip))))
  .skip))
  (.seq (.seq (.ops [oF 49 4 5, oL 50 49, ⟨some 51, none, .bin .eql (.t 50) (.c (.int .u8 17))⟩])
  (.cond (.t 51)
  (.seq (.ops [oF 53 7 5, oL 54 53, oF 55 5 5, oL 56 55, oF 57 6 5, oL 58 57, ⟨some 59, none, .callF true 43 [(.t 54), (.t 56), (.t 58)]⟩, oM 52 59, oE 60 52 0, oE 61 52 1, ⟨some 9, none, .alloc true z_3 90⟩, ⟨some 10, none, .alloc true z_6 81⟩, oS 4 9 60, oS 2 10 61])
  (.seq (.seq (.ops [oF 62 1 10, oL 63 62, ⟨some 64, none, .bin .neq (.t 63) (.c (.int .i64 0))⟩])
  (.cond (.t 64)
  (.seq (.ops [⟨some 65, none, .load true 2 (.t 10)⟩, ⟨some 66, none, .callF true 42 [(.t 65)]⟩, ⟨some 67, none, .build z_1 [(1, 1, (.t 66))]⟩, oS 10 6 67])
  .ret)
  .skip))
  (.seq (.seq (.ops [oM 68 0, ⟨some 69, none, .bin .eql (.t 68) (.c (.int .i64 0))⟩, oM 70 69, gF 71 70 true 1 9, gL 72 70 true 71, ⟨some 73, (some (70, true)), .bin .eql (.t 72) (.c (.int .u16 67))⟩, oN 74 70 73])
  (.cond (.t 74)
  (.seq (.ops [⟨some 75, none, .build z_1 [(0, 1, (.c (.int .i64 2)))]⟩, oS 10 6 75])
  .ret)
  .skip))
  (.seq (.ops [oF 76 6 5, oL 77 76, oM 78 1, ⟨some 79, none, .bin .eql (.t 77) (.t 78)⟩])
  (.cond (.t 79)
  (.seq (.ops [oM 81 1, ⟨some 82, none, .load true 8 (.t 5)⟩, ⟨some 83, none, .callF true 13 [(.t 81), (.c (.int .u8 3)), (.c (.int .u8 3)), (.t 82)]⟩, oM 80 83, oE 84 80 0, oE 85 80 1, ⟨some 11, none, .alloc true z_0 32⟩, oS 8 11 84, oM 12 85])
  (.seq (.ops [oM 86 12])
  (.cond (.t 86)
  (.seq (.ops [⟨some 87, none, .load true 8 (.t 11)⟩, ⟨some 88, none, .build z_1 [(0, 1, (.c (.int .i64 1))), (2, 8, (.t 87))]⟩, oS 10 6 88])
  .ret)
  .skip)))
  .skip)))))
  .skip))
  (.seq (.ops [⟨some 89, none, .build z_1 [(1, 1, (.c (.int .i64 17)))]⟩, oS 10 6 89])
  .ret))))⟩
/- (vizard/icmp.Message).Bytes -/
def I19 : Fn_ := ⟨1, 33, [(2, none), (3, none)],
  (.seq (.ops [⟨some 1, none, .boxR true 7 48 (.t 0)⟩, ⟨some 2, none, .mov (.c (.rs false 1 []))⟩, ⟨some 3, none, .mov (.c .nili)⟩])
  (.seq (.seq (.ops [oF 7 6 1, oL 8 7, ⟨some 9, none, .len (.t 8)⟩, ⟨some 10, none, .bin .gtr (.t 9) (.c (.int .i64 1472))⟩])
  (.cond (.t 10)
  (.seq (.ops [⟨some 11, none, .callF true 44 [(.c (.int .i64 1)), (.c (.int .i64 11))]⟩, ⟨some 2, none, .mov (.c (.rs false 1 []))⟩, oM 3 11])
  .ret)
  .skip))
  (.seq (.ops [oF 12 0 1, oL 13 12, oF 14 1 1, oL 15 14, ⟨some 16, none, .buildR 1 5 [(.t 13), (.t 15), (.c (.int .u8 0)), (.c (.int .u8 0))]⟩, ⟨some 17, none, .faddr true 2 4 (.t 1)⟩, ⟨some 18, none, .sliceA 4 1 (.t 17) none none⟩, oF 19 6 1, oL 20 19, ⟨some 21, none, .buildR 1 24 [(.t 16), (.t 18), (.t 20)]⟩, ⟨some 22, none, .callF true 45 [(.t 21)]⟩, oM 4 22])
  (.seq (.ops [oM 24 4, oM 25 4, ⟨some 26, none, .buildR 1 24 [(.t 25)]⟩, ⟨some 27, none, .callF true 47 [(.t 26)]⟩, ⟨some 28, none, .conv .u64 (.t 27)⟩, ⟨some 29, none, .callF true 46 [(.t 24), (.c (.int .i64 2)), (.c (.int .i64 2)), (.t 28)]⟩, oM 23 29, oE 30 23 0, oE 31 23 1, oM 5 30, oM 6 31])
  (.seq (.ops [oM 32 5, oM 2 32, ⟨some 3, none, .mov (.c .nili)⟩])
  .ret)))))⟩
/- vizard/icmp.Parse -/
def I20 : Fn_ := ⟨1, 37, [(2, some (true, 7)), (3, none)],
  (.seq (.ops [⟨some 2, none, .alloc true z_2 48⟩, ⟨some 3, none, .mov (.c .nili)⟩])
  (.seq (.block 0 (some [0, 2]) (.seq (.ops [oM 5 0, ⟨some 6, none, .len (.t 5)⟩, ⟨some 7, none, .bin .lss (.t 6) (.c (.int .i64 8))⟩, oM 4 7])
  (.cond (.t 4)
  (.seq (.ops [⟨some 8, none, .build z_2 []⟩, ⟨some 9, none, .callF true 44 [(.c (.int .i64 1)), (.c (.int .i64 12))]⟩, oS 7 2 8, oM 3 9])
  .ret)
  (.seq (.ops [oM 11 0, ⟨some 12, none, .len (.t 11)⟩, ⟨some 13, none, .bin .gtr (.t 12) (.c (.int .i64 1480))⟩, oM 10 13])
  (.cond (.t 10)
  (.seq (.ops [⟨some 14, none, .build z_2 []⟩, ⟨some 15, none, .callF true 44 [(.c (.int .i64 1)), (.c (.int .i64 11))]⟩, oS 7 2 14, oM 3 15])
  .ret)
  (.seq (.ops [oM 17 0, ⟨some 18, none, .buildR 1 24 [(.t 17)]⟩, ⟨some 19, none, .callF true 30 [(.t 18)]⟩, ⟨some 20, none, .un .not (.t 19)⟩, oM 16 20])
  (.cond (.t 16)
  (.seq (.ops [⟨some 21, none, .build z_2 []⟩, ⟨some 22, none, .callF true 44 [(.c (.int .i64 2)), (.c (.int .i64 13))]⟩, oS 7 2 21, oM 3 22])
  .ret)
  .skip)))))))
  (.seq (.ops [oM 23 0, ⟨some 24, none, .iaddr 1 (.t 23) (.c (.int .i64 0))⟩, oL 25 24, oM 26 0, ⟨some 27, none, .iaddr 1 (.t 26) (.c (.int .i64 1))⟩, oL 28 27, oM 29 0, ⟨some 30, none, .slice 1 (.t 29) (some (.c (.int .i64 4))) none⟩, ⟨some 31, none, .s2a 4 1 (.t 30)⟩, ⟨some 32, none, .load true 4 (.t 31)⟩, oM 33 0, ⟨some 34, none, .slice 1 (.t 33) (some (.c (.int .i64 8))) none⟩, ⟨some 35, none, .callF true 48 [(.t 34)]⟩, ⟨some 36, none, .build z_2 [(0, 1, (.t 25)), (1, 1, (.t 28)), (2, 4, (.t 32)), (6, 1, (.t 35))]⟩, oS 7 2 36, ⟨some 3, none, .mov (.c .nili)⟩])
  .ret)))⟩
/- vizard/inet.Same -/
def I21 : Fn_ := ⟨2, 17, [(4, none)],
  (.seq (.ops [⟨some 2, none, .box true 26 (.t 0)⟩, ⟨some 3, none, .box true 26 (.t 1)⟩, ⟨some 4, none, .mov (.c (.bool false))⟩])
  (.seq (.ops [⟨some 5, none, .load true 8 (.t 2)⟩, ⟨some 6, none, .callF true 49 [(.t 5)]⟩, ⟨some 7, none, .load true 8 (.t 3)⟩, ⟨some 8, none, .callF true 49 [(.t 7)]⟩, ⟨some 9, none, .eqS false [1, 1, 0, 1, 1, 1, 1] (.t 6) (.t 8)⟩, oM 10 9, gF 11 10 true 7 2, gL 12 10 true 11, gF 13 10 true 7 3, gL 14 10 true 13, ⟨some 15, (some (10, true)), .callF true 50 [(.t 12), (.t 14)]⟩, oN 16 10 15, oM 4 16])
  .ret))⟩
/- vizard/place.Single -/
def I22 : Fn_ := ⟨1, 16, [(2, none)],
  (.seq (.ops [⟨some 2, none, .mov (.c (.bool false))⟩])
  (.seq (.ops [oM 4 0, ⟨some 5, none, .bin .shr (.t 4) (.c (.int .u64 24))⟩, oM 3 5])
  (.seq (.ops [oM 6 3, ⟨some 7, none, .bin .geq (.t 6) (.c (.int .u32 1))⟩, oM 8 7, gM 9 8 true 3, ⟨some 10, (some (8, true)), .bin .leq (.t 9) (.c (.int .u32 223))⟩, oN 11 8 10, oM 12 11, gM 13 12 true 3, ⟨some 14, (some (12, true)), .bin .neq (.t 13) (.c (.int .u32 127))⟩, oN 15 12 14, oM 2 15])
  .ret)))⟩
/- (vizard/icmp.Message).Class -/
def I23 : Fn_ := ⟨1, 14, [(2, none)],
  (.seq (.ops [⟨some 1, none, .boxR true 7 48 (.t 0)⟩, ⟨some 2, none, .mov (.c (.int .i64 0))⟩])
  (.seq (.seq (.ops [oF 3 0 1, oL 4 3])
  (.block 0 (some [4]) (.seq (.block 3 (some [4]) (.seq (.block 2 (some [4]) (.block 1 (some [4]) (.seq (.seq (.seq (.seq (.ops [⟨some 6, none, .bin .eql (.t 4) (.c (.int .u8 3))⟩, oM 5 6])
  (.cond (.t 5)
  .skip
  (.ops [⟨some 7, none, .bin .eql (.t 4) (.c (.int .u8 11))⟩, oM 5 7])))
  (.cond (.t 5)
  (.exit 1)
  .skip))
  (.seq (.seq (.seq (.ops [⟨some 9, none, .bin .eql (.t 4) (.c (.int .u8 4))⟩, oM 8 9])
  (.cond (.t 8)
  .skip
  (.ops [⟨some 10, none, .bin .eql (.t 4) (.c (.int .u8 12))⟩, oM 8 10])))
  (.cond (.t 8)
  (.exit 2)
  .skip))
  (.seq (.seq (.ops [⟨some 12, none, .bin .eql (.t 4) (.c (.int .u8 8))⟩, oM 11 12])
  (.cond (.t 11)
  .skip
  (.ops [⟨some 13, none, .bin .eql (.t 4) (.c (.int .u8 0))⟩, oM 11 13])))
  (.cond (.t 11)
  (.exit 3)
  .skip))))
  (.exit 0))))
  (.seq (.seq (.ops [⟨some 2, none, .mov (.c (.int .i64 1))⟩])
  .ret)
  (.exit 0))))
  (.seq (.seq (.ops [⟨some 2, none, .mov (.c (.int .i64 2))⟩])
  .ret)
  (.exit 0)))))
  (.seq (.ops [⟨some 2, none, .mov (.c (.int .i64 0))⟩])
  .ret)))⟩
/- (vizard/udp.Datagram).Bytes -/
def I24 : Fn_ := ⟨3, 61, [(6, none), (7, none)],
  (.seq (.ops [⟨some 3, none, .boxR true 4 61 (.t 0)⟩, ⟨some 6, none, .mov (.c (.rs false 1 []))⟩, ⟨some 7, none, .mov (.c .nili)⟩])
  (.seq (.seq (.ops [oF 15 3 3, oL 16 15, ⟨some 17, none, .len (.t 16)⟩, ⟨some 18, none, .bin .gtr (.t 17) (.c (.int .i64 1472))⟩])
  (.cond (.t 18)
  (.seq (.ops [⟨some 19, none, .callF true 44 [(.c (.int .i64 1)), (.c (.int .i64 11))]⟩, ⟨some 6, none, .mov (.c (.rs false 1 []))⟩, oM 7 19])
  .ret)
  .skip))
  (.seq (.ops [oF 20 3 3, oL 21 20, ⟨some 22, none, .len (.t 21)⟩, ⟨some 23, none, .bin .add (.c (.int .i64 8)) (.t 22)⟩, oM 8 23])
  (.seq (.ops [oF 25 0 3, oL 26 25, ⟨some 27, none, .conv .u64 (.t 26)⟩, oF 28 1 3, oL 29 28, ⟨some 30, none, .conv .u64 (.t 29)⟩, oM 31 8, ⟨some 32, none, .conv .u64 (.t 31)⟩, ⟨some 33, none, .buildR 1 97 [(.t 27), (.t 30), (.t 32), (.c (.int .u64 0))]⟩, ⟨some 34, none, .callF false 51 [(.c (.int .i64 2)), (.t 33)]⟩, oM 24 34, oE 35 24 0, oE 36 24 1, oM 9 35, oM 10 36])
  (.seq (.ops [oM 37 9, oF 38 3 3, oL 39 38, ⟨some 40, none, .append 1 1 5 (.t 37) (.t 39)⟩, oM 11 40])
  (.seq (.seq (.ops [oF 41 2 3, oL 42 41])
  (.cond (.t 42)
  (.seq (.ops [oM 43 11, oM 6 43, ⟨some 7, none, .mov (.c .nili)⟩])
  .ret)
  .skip))
  (.seq (.ops [oM 44 1, oM 45 2, oM 46 8, ⟨some 47, none, .callF true 52 [(.t 44), (.t 45), (.t 46)]⟩, oM 48 11, ⟨some 49, none, .buildSl 1 24 [(.t 47), (.t 48)]⟩, ⟨some 50, none, .callF true 47 [(.t 49)]⟩, oM 12 50])
  (.seq (.seq (.ops [oM 51 12, ⟨some 52, none, .bin .eql (.t 51) (.c (.int .u16 0))⟩])
  (.cond (.t 52)
  (.ops [⟨some 12, none, .mov (.c (.int .u16 65535))⟩])
  .skip))
  (.seq (.ops [oM 54 11, oM 55 12, ⟨some 56, none, .conv .u64 (.t 55)⟩, ⟨some 57, none, .callF false 46 [(.t 54), (.c (.int .i64 6)), (.c (.int .i64 2)), (.t 56)]⟩, oM 53 57, oE 58 53 0, oE 59 53 1, oM 13 58, oM 14 59])
  (.seq (.ops [oM 60 13, oM 6 60, ⟨some 7, none, .mov (.c .nili)⟩])
  .ret))))))))))⟩
/- (vizard/icmp.Message).Inner -/
def I25 : Fn_ := ⟨1, 30, [(2, some (true, 8)), (3, none)],
  (.seq (.ops [⟨some 1, none, .boxR true 7 48 (.t 0)⟩, ⟨some 2, none, .alloc true z_0 26⟩, ⟨some 3, none, .mov (.c .nili)⟩])
  (.seq (.seq (.ops [⟨some 6, none, .load true 7 (.t 1)⟩, ⟨some 7, none, .callF true 23 [(.t 6)]⟩, ⟨some 8, none, .bin .neq (.t 7) (.c (.int .i64 1))⟩])
  (.cond (.t 8)
  (.seq (.ops [⟨some 9, none, .build z_0 []⟩, ⟨some 10, none, .callF true 44 [(.c (.int .i64 16)), (.c (.int .i64 14))]⟩, oS 8 2 9, oM 3 10])
  .ret)
  .skip))
  (.seq (.ops [oF 12 6 1, oL 13 12, ⟨some 14, none, .callF true 53 [(.t 13)]⟩, oM 11 14, oE 15 11 0, oE 16 11 1, ⟨some 4, none, .alloc true z_0 26⟩, oS 8 4 15, oM 5 16])
  (.seq (.block 0 (some [2, 4, 5]) (.seq (.ops [oM 18 5, ⟨some 19, none, .eqNl true true (.t 18)⟩, oM 17 19])
  (.cond (.t 17)
  (.seq (.ops [⟨some 20, none, .build z_0 []⟩, oM 21 5, oS 8 2 20, oM 3 21])
  .ret)
  (.seq (.ops [oF 23 7 4, oL 24 23, ⟨some 25, none, .len (.t 24)⟩, ⟨some 26, none, .bin .lss (.t 25) (.c (.int .i64 8))⟩, oM 22 26])
  (.cond (.t 22)
  (.seq (.ops [⟨some 27, none, .build z_0 []⟩, ⟨some 28, none, .callF true 44 [(.c (.int .i64 1)), (.c (.int .i64 12))]⟩, oS 8 2 27, oM 3 28])
  .ret)
  .skip)))))
  (.seq (.ops [⟨some 29, none, .load true 8 (.t 4)⟩, oS 8 2 29, ⟨some 3, none, .mov (.c .nili)⟩])
  .ret)))))⟩
/- vizard/vizardlaw21.alive -/
def I26 : Fn_ := ⟨0, 199, [(0, none)],
  (.seq (.ops [⟨some 0, none, .mov (.c (.bool false))⟩])
  (.seq (.ops [⟨some 28, none, .buildR 1 5 [(.c (.int .u8 1)), (.c (.int .u8 2)), (.c (.int .u8 3))]⟩, ⟨some 29, none, .build z_3 [(0, 1, (.c (.int .u16 4000))), (1, 1, (.c (.int .u16 53))), (3, 1, (.t 28))]⟩, ⟨some 1, none, .alloc true z_3 61⟩, oS 4 1 29])
  (.seq (.ops [⟨some 31, none, .load true 4 (.t 1)⟩, ⟨some 32, none, .callF true 24 [(.t 31), (.c (.int .u32 167772162)), (.c (.int .u32 3221225991))]⟩, oM 30 32, oE 33 30 0, oE 34 30 1, oM 2 33, oM 3 34])
  (.seq (.ops [oM 35 2, ⟨some 36, none, .build z_0 [(3, 1, (.c (.int .u8 9))), (4, 1, (.c (.int .u8 17))), (5, 1, (.c (.int .u32 167772162))), (6, 1, (.c (.int .u32 3221225991))), (7, 1, (.t 35))]⟩, ⟨some 4, none, .alloc true z_0 26⟩, oS 8 4 36])
  (.seq (.ops [⟨some 37, none, .build z_7 [(0, 1, (.c (.int .u32 3221225985))), (1, 1, (.c (.int .u16 5000)))]⟩, ⟨some 5, none, .alloc true z_7 67⟩, oS 2 5 37])
  (.seq (.ops [⟨some 39, none, .load true 8 (.t 4)⟩, ⟨some 40, none, .callF true 54 [(.t 39)]⟩, oM 38 40, oE 41 38 0, oE 42 38 1, ⟨some 6, none, .alloc true z_4 69⟩, oS 7 6 41, oM 7 42])
  (.seq (.ops [⟨some 44, none, .load true 8 (.t 4)⟩, ⟨some 45, none, .load true 2 (.t 5)⟩, ⟨some 46, none, .callF true 55 [(.t 44), (.t 45)]⟩, oM 43 46, oE 47 43 0, oE 48 43 1, ⟨some 8, none, .alloc true z_0 26⟩, oS 8 8 47, oM 9 48])
  (.seq (.ops [oF 50 7 8, oL 51 50, ⟨some 52, none, .callF true 56 [(.t 51), (.c (.int .u32 3221225985)), (.c (.int .u32 3221225991))]⟩, oM 49 52, oE 53 49 0, oE 54 49 1, ⟨some 10, none, .alloc true z_3 61⟩, oS 4 10 53, oM 11 54])
  (.seq (.ops [⟨some 55, none, .load true 8 (.t 8)⟩, ⟨some 56, none, .callF true 33 [(.c (.int .u8 11)), (.c (.int .u8 0)), (.t 55)]⟩, ⟨some 12, none, .alloc true z_2 48⟩, oS 7 12 56])
  (.seq (.ops [⟨some 58, none, .load true 7 (.t 12)⟩, ⟨some 59, none, .callF true 19 [(.t 58)]⟩, oM 57 59, oE 60 57 0, oE 61 57 1, oM 13 60, oM 14 61])
  (.seq (.ops [oM 62 13, ⟨some 63, none, .build z_0 [(3, 1, (.c (.int .u8 8))), (4, 1, (.c (.int .u8 1))), (5, 1, (.c (.int .u32 7))), (6, 1, (.c (.int .u32 3221225985))), (7, 1, (.t 62))]⟩, ⟨some 15, none, .alloc true z_0 26⟩, oS 8 15 63])
  (.seq (.ops [⟨some 65, none, .load true 8 (.t 15)⟩, ⟨some 66, none, .callF true 27 [(.t 65)]⟩, oM 64 66, oE 67 64 0, oE 68 64 1, ⟨some 16, none, .alloc true z_4 69⟩, oS 7 16 67, oM 17 68])
  (.seq (.ops [⟨some 70, none, .load true 8 (.t 15)⟩, ⟨some 71, none, .faddr true 1 2 (.t 6)⟩, ⟨some 72, none, .load true 2 (.t 71)⟩, ⟨some 73, none, .callF true 29 [(.t 70), (.t 72)]⟩, oM 69 73, oE 74 69 0, oE 75 69 1, ⟨some 18, none, .alloc true z_0 26⟩, oS 8 18 74, oM 19 75])
  (.seq (.ops [⟨some 77, none, .load true 8 (.t 18)⟩, ⟨some 78, none, .callF true 27 [(.t 77)]⟩, oM 76 78, oE 79 76 0, oE 80 76 1, ⟨some 20, none, .alloc true z_4 69⟩, oS 7 20 79, oM 21 80])
  (.seq (.ops [⟨some 82, none, .load true 8 (.t 15)⟩, ⟨some 83, none, .callF true 54 [(.t 82)]⟩, oM 81 83, oE 84 81 0, oE 85 81 1, ⟨some 22, none, .alloc true z_4 69⟩, oS 7 22 84, oM 23 85])
  (.seq (.ops [⟨some 87, none, .load true 8 (.t 4)⟩, ⟨some 88, none, .callF true 57 [(.t 87)]⟩, oM 86 88, oE 89 86 0, oE 90 86 1, ⟨some 24, none, .alloc true z_0 26⟩, oS 8 24 89, oM 25 90])
  (.seq (.ops [⟨some 92, none, .build z_0 [(3, 1, (.c (.int .u8 1)))]⟩, ⟨some 93, none, .callF true 57 [(.t 92)]⟩, oM 91 93, oE 94 91 0, oE 95 91 1, ⟨some 26, none, .alloc true z_0 26⟩, oS 8 26 94, oM 27 95])
  (.seq (.ops [oM 96 7, ⟨some 97, none, .eqNl true false (.t 96)⟩, oM 98 97, ⟨some 99, (some (98, true)), .faddr true 1 2 (.t 6)⟩, ⟨some 100, (some (98, true)), .load true 2 (.t 99)⟩, ⟨some 101, (some (98, true)), .build z_7 [(0, 1, (.c (.int .u32 167772162))), (1, 1, (.c (.int .u16 4000)))]⟩, ⟨some 102, (some (98, true)), .eqS false [1, 1] (.t 100) (.t 101)⟩, oN 103 98 102, oM 104 103, ⟨some 105, (some (104, true)), .faddr true 3 2 (.t 6)⟩, ⟨some 106, (some (104, true)), .load true 2 (.t 105)⟩, ⟨some 107, (some (104, true)), .build z_7 [(0, 1, (.c (.int .u32 3221225991))), (1, 1, (.c (.int .u16 53)))]⟩, ⟨some 108, (some (104, true)), .eqS false [1, 1] (.t 106) (.t 107)⟩, oN 109 104 108, oM 110 109, gM 111 110 true 9, ⟨some 112, (some (110, true)), .eqNl true false (.t 111)⟩, oN 113 110 112, oM 114 113, gM 115 114 true 11, ⟨some 116, (some (114, true)), .eqNl true false (.t 115)⟩, oN 117 114 116, oM 118 117, gF 119 118 true 0 10, gL 120 118 true 119, ⟨some 121, (some (118, true)), .bin .eql (.t 120) (.c (.int .u16 5000))⟩, oN 122 118 121, oM 123 122, gF 124 123 true 1 10, gL 125 123 true 124, ⟨some 126, (some (123, true)), .bin .eql (.t 125) (.c (.int .u16 53))⟩, oN 127 123 126, oM 128 127, gF 129 128 true 3 10, gL 130 128 true 129, gF 131 128 true 3 1, gL 132 128 true 131, ⟨some 133, (some (128, true)), .callF true 16 [(.t 130), (.t 132)]⟩, oN 134 128 133, oM 135 134, gM 136 135 true 17, ⟨some 137, (some (135, true)), .eqNl true false (.t 136)⟩, oN 138 135 137, oM 139 138, ⟨some 140, (some (139, true)), .faddr true 1 2 (.t 16)⟩, ⟨some 141, (some (139, true)), .load true 2 (.t 140)⟩, ⟨some 142, (some (139, true)), .load true 2 (.t 5)⟩, ⟨some 143, (some (139, true)), .eqS false [1, 1] (.t 141) (.t 142)⟩, oN 144 139 143, oM 145 144, gM 146 145 true 19, ⟨some 147, (some (145, true)), .eqNl true false (.t 146)⟩, oN 148 145 147, oM 149 148, gM 150 149 true 21, ⟨some 151, (some (149, true)), .eqNl true false (.t 150)⟩, oN 152 149 151, oM 153 152, ⟨some 154, (some (153, true)), .faddr true 1 2 (.t 20)⟩, ⟨some 155, (some (153, true)), .load true 2 (.t 154)⟩, ⟨some 156, (some (153, true)), .faddr true 1 2 (.t 6)⟩, ⟨some 157, (some (153, true)), .load true 2 (.t 156)⟩, ⟨some 158, (some (153, true)), .eqS false [1, 1] (.t 155) (.t 157)⟩, oN 159 153 158, oM 160 159, ⟨some 161, (some (160, true)), .faddr true 3 2 (.t 20)⟩, ⟨some 162, (some (160, true)), .load true 2 (.t 161)⟩, ⟨some 163, (some (160, true)), .faddr true 3 2 (.t 6)⟩, ⟨some 164, (some (160, true)), .load true 2 (.t 163)⟩, ⟨some 165, (some (160, true)), .eqS false [1, 1] (.t 162) (.t 164)⟩, oN 166 160 165, oM 167 166, gF 168 167 true 6 18, gL 169 167 true 168, gF 170 167 true 6 15, gL 171 167 true 170, ⟨some 172, (some (167, true)), .bin .eql (.t 169) (.t 171)⟩, oN 173 167 172, oM 174 173, gM 175 174 true 23, ⟨some 176, (some (174, true)), .eqNl true true (.t 175)⟩, oN 177 174 176, oM 178 177, gM 179 178 true 23, ⟨some 180, (some (178, true)), .callF true 58 [(.t 179)]⟩, ⟨some 181, (some (178, true)), .bin .eql (.t 180) (.c (.int .i64 16))⟩, oN 182 178 181, oM 183 182, gM 184 183 true 23, ⟨some 185, (some (183, true)), .callF true 59 [(.t 184), (.c (.int .i64 14))]⟩, oN 186 183 185, oM 187 186, gM 188 187 true 25, oN 189 187 188, oM 190 189, gF 191 190 true 3 24, gL 192 190 true 191, ⟨some 193, (some (190, true)), .bin .eql (.t 192) (.c (.int .u8 8))⟩, oN 194 190 193, oM 195 194, gM 196 195 true 27, ⟨some 197, (some (195, true)), .un .not (.t 196)⟩, oN 198 195 197, oM 0 198])
  .ret))))))))))))))))))⟩
/- vizard/turn.Inner -/
def I27 : Fn_ := ⟨1, 21, [(2, some (true, 7)), (3, none)],
  (.seq (.ops [⟨some 1, none, .boxR true 8 26 (.t 0)⟩, ⟨some 2, none, .alloc true z_4 69⟩, ⟨some 3, none, .mov (.c .nili)⟩])
  (.seq (.ops [⟨some 8, none, .load true 8 (.t 1)⟩, ⟨some 9, none, .callF true 60 [(.t 8)]⟩, oM 7 9, oE 10 7 0, oE 11 7 1, oE 12 7 2, ⟨some 4, none, .alloc true z_2 48⟩, ⟨some 5, none, .alloc true z_0 26⟩, oS 7 4 10, oS 8 5 11, oM 6 12])
  (.seq (.seq (.ops [oM 13 6, ⟨some 14, none, .eqNl true true (.t 13)⟩])
  (.cond (.t 14)
  (.seq (.ops [⟨some 15, none, .build z_4 []⟩, oM 16 6, oS 7 2 15, oM 3 16])
  .ret)
  .skip))
  (.seq (.ops [⟨some 17, none, .load true 8 (.t 5)⟩, ⟨some 18, none, .callF true 61 [(.t 17)]⟩, oE 19 18 0, oE 20 18 1, oS 7 2 19, oM 3 20])
  .ret))))⟩
/- vizard/turn.InnerReceiver -/
def I28 : Fn_ := ⟨2, 11, [(4, some (true, 8)), (5, none)],
  (.seq (.ops [⟨some 2, none, .boxR true 8 26 (.t 0)⟩, ⟨some 3, none, .boxR true 2 67 (.t 1)⟩, ⟨some 4, none, .alloc true z_0 26⟩, ⟨some 5, none, .mov (.c .nili)⟩])
  (.seq (.ops [⟨some 6, none, .load true 8 (.t 2)⟩, ⟨some 7, none, .load true 2 (.t 3)⟩, ⟨some 8, none, .callF true 62 [(.t 6), (.t 7), (.c (.int .i64 16)), (.c (.int .i64 22)), (.c (.int .u8 0))]⟩, oE 9 8 0, oE 10 8 1, oS 8 4 9, oM 5 10])
  .ret))⟩
/- vizard/turn.InnerSender -/
def I29 : Fn_ := ⟨2, 11, [(4, some (true, 8)), (5, none)],
  (.seq (.ops [⟨some 2, none, .boxR true 8 26 (.t 0)⟩, ⟨some 3, none, .boxR true 2 67 (.t 1)⟩, ⟨some 4, none, .alloc true z_0 26⟩, ⟨some 5, none, .mov (.c .nili)⟩])
  (.seq (.ops [⟨some 6, none, .load true 8 (.t 2)⟩, ⟨some 7, none, .load true 2 (.t 3)⟩, ⟨some 8, none, .callF true 62 [(.t 6), (.t 7), (.c (.int .i64 12)), (.c (.int .i64 20)), (.c (.int .u8 8))]⟩, oE 9 8 0, oE 10 8 1, oS 8 4 9, oM 5 10])
  .ret))⟩
/- vizard/sum.Right -/
def I30 : Fn_ := ⟨1, 6, [(2, none)],
  (.seq (.ops [⟨some 2, none, .mov (.c (.bool false))⟩])
  (.seq (.ops [oM 3 0, ⟨some 4, none, .callF false 63 [(.t 3)]⟩, ⟨some 5, none, .bin .eql (.t 4) (.c (.int .u16 65535))⟩, oM 2 5])
  .ret))⟩
/- vizard/answer.blamed -/
def I31 : Fn_ := ⟨1, 31, [(2, none)],
  (.seq (.ops [⟨some 1, none, .boxR true 8 26 (.t 0)⟩, ⟨some 2, none, .mov (.c (.bool false))⟩])
  (.seq (.seq (.ops [oF 5 5 1, oL 6 5, ⟨some 7, none, .callF true 22 [(.t 6)]⟩, ⟨some 8, none, .un .not (.t 7)⟩, oM 9 8, gF 10 9 false 6 1, gL 11 9 false 10, ⟨some 12, (some (9, false)), .callF true 22 [(.t 11)]⟩, ⟨some 13, (some (9, false)), .un .not (.t 12)⟩, oT 14 9 13])
  (.cond (.t 14)
  (.seq (.ops [⟨some 2, none, .mov (.c (.bool false))⟩])
  .ret)
  .skip))
  (.seq (.seq (.ops [oF 15 4 1, oL 16 15, ⟨some 17, none, .bin .neq (.t 16) (.c (.int .u8 1))⟩])
  (.cond (.t 17)
  (.seq (.ops [⟨some 2, none, .mov (.c (.bool true))⟩])
  .ret)
  .skip))
  (.seq (.ops [oF 19 7 1, oL 20 19, ⟨some 21, none, .callF true 20 [(.t 20)]⟩, oM 18 21, oE 22 18 0, oE 23 18 1, ⟨some 3, none, .alloc true z_2 48⟩, oS 7 3 22, oM 4 23])
  (.seq (.ops [oM 24 4, ⟨some 25, none, .eqNl true false (.t 24)⟩, oM 26 25, ⟨some 27, (some (26, true)), .load true 7 (.t 3)⟩, ⟨some 28, (some (26, true)), .callF true 23 [(.t 27)]⟩, ⟨some 29, (some (26, true)), .bin .neq (.t 28) (.c (.int .i64 1))⟩, oN 30 26 29, oM 2 30])
  .ret)))))⟩
/- vizard/answer.packet -/
def I32 : Fn_ := ⟨3, 18, [(6, some (true, 8))],
  (.seq (.ops [⟨some 5, none, .boxR true 7 48 (.t 2)⟩, ⟨some 6, none, .alloc true z_0 26⟩])
  (.seq (.ops [⟨some 10, none, .load true 7 (.t 5)⟩, ⟨some 11, none, .callF true 19 [(.t 10)]⟩, oM 9 11, oE 12 9 0, oE 13 9 1, oM 7 12, oM 8 13])
  (.seq (.ops [oM 14 0, oM 15 1, oM 16 7, ⟨some 17, none, .build z_0 [(3, 1, (.c (.int .u8 64))), (4, 1, (.c (.int .u8 1))), (5, 1, (.t 14)), (6, 1, (.t 15)), (7, 1, (.t 16))]⟩, oS 8 6 17])
  .ret)))⟩
/- vizard/icmp.Error -/
def I33 : Fn_ := ⟨3, 23, [(6, some (true, 7))],
  (.seq (.ops [⟨some 5, none, .boxR true 8 26 (.t 2)⟩, ⟨some 6, none, .alloc true z_2 48⟩])
  (.seq (.ops [⟨some 8, none, .load true 8 (.t 5)⟩, ⟨some 9, none, .callF true 64 [(.t 8)]⟩, oF 10 7 5, oL 11 10, oF 12 7 5, oL 13 12, ⟨some 14, none, .len (.t 13)⟩, ⟨some 15, none, .mm false [(.t 14), (.c (.int .i64 8))]⟩, ⟨some 16, none, .slice 1 (.t 11) none (some (.t 15))⟩, ⟨some 17, none, .buildR 1 24 [(.t 9), (.t 16)]⟩, ⟨some 18, none, .callF true 45 [(.t 17)]⟩, oM 7 18])
  (.seq (.ops [oM 19 0, oM 20 1, oM 21 7, ⟨some 22, none, .build z_2 [(0, 1, (.t 19)), (1, 1, (.t 20)), (6, 1, (.t 21))]⟩, oS 7 6 22])
  .ret)))⟩
/- vizard/vizardref04.Single -/
def I34 : Fn_ := ⟨1, 16, [(2, none)],
  (.seq (.ops [⟨some 2, none, .mov (.c (.bool false))⟩])
  (.seq (.ops [oM 4 0, ⟨some 5, none, .bin .quo (.t 4) (.c (.int .u32 16777216))⟩, oM 3 5])
  (.seq (.ops [oM 6 3, ⟨some 7, none, .bin .geq (.t 6) (.c (.int .u32 1))⟩, oM 8 7, gM 9 8 true 3, ⟨some 10, (some (8, true)), .bin .leq (.t 9) (.c (.int .u32 223))⟩, oN 11 8 10, oM 12 11, gM 13 12 true 3, ⟨some 14, (some (12, true)), .bin .neq (.t 13) (.c (.int .u32 127))⟩, oN 15 12 14, oM 2 15])
  .ret)))⟩
/- vizard/vizardref10.Parse -/
def B35_0 : C := (.seq (.seq (.ops [oM 32 5, ⟨some 33, none, .bin .lss (.t 32) (.c (.int .i64 4))⟩])
  (.cond (.t 33)
  .skip
  (.exit 0)))
  (.seq (.block 1 (some [0, 2, 3, 4, 5]) (.ops [oM 36 5, oM 37 0, oM 38 5, ⟨some 39, none, .bin .add (.c (.int .i64 4)) (.t 38)⟩, ⟨some 40, none, .iaddr 1 (.t 37) (.t 39)⟩, oL 41 40, ⟨some 42, none, .faddr true 2 4 (.t 4)⟩, ⟨some 43, none, .iaddrA 4 1 false (.t 42) (.t 36)⟩, oS 1 43 41]))
  (.ops [oM 34 5, ⟨some 35, none, .bin .add (.t 34) (.c (.int .i64 1))⟩, oM 5 35])))
def L35_0 : C := .loop (some [0, 2, 3, 4, 5]) B35_0
theorem L35_0_eq {E : Env} (x : St) : ev E L35_0 x = andThen (ev E B35_0 (restr (some [0, 2, 3, 4, 5]) x)) (ev E L35_0) := ev_loop _ _ x
theorem L35_0_lp {E : Env} (s : Slots) (h : Heap) : ev E L35_0 ⟨s, h⟩ = lp E L35_0 (pickS s [0, 2, 3, 4, 5]) h := lp_of L35_0_eq s h
theorem L35_0_go {E : Env} (s : Slots) (h : Heap) : lp E L35_0 s h = andThen (ev E B35_0 ⟨pickS s [0, 2, 3, 4, 5], h⟩) (ev E L35_0) := lp_go L35_0_eq s h
noncomputable def T35_0 (E : Env) (o : Out) : Option (AV × Heap) := outR [(2, some (true, 7)), (3, some (true, 2))] (andThen (endBlock 0 (some [0, 2, 3, 4, 5]) (o)) (ev E (.seq (.ops [⟨some 44, none, .load true 7 (.t 4)⟩, ⟨some 45, none, .build z_6 []⟩, oS 7 2 44, oS 2 3 45])
  .ret)))
def I35 : Fn_ := ⟨1, 46, [(2, some (true, 7)), (3, some (true, 2))],
  (.seq (.ops [⟨some 2, none, .alloc true z_2 77⟩, ⟨some 3, none, .alloc true z_6 81⟩])
  (.seq (.seq (.ops [oM 6 0, ⟨some 7, none, .len (.t 6)⟩, ⟨some 8, none, .bin .lss (.t 7) (.c (.int .i64 8))⟩])
  (.cond (.t 8)
  (.seq (.ops [⟨some 9, none, .build z_2 []⟩, ⟨some 10, none, .callF true 65 [(.c (.int .i64 1)), (.c (.int .i64 12))]⟩, oS 7 2 9, oS 2 3 10])
  .ret)
  .skip))
  (.seq (.seq (.ops [oM 11 0, ⟨some 12, none, .len (.t 11)⟩, ⟨some 13, none, .bin .gtr (.t 12) (.c (.int .i64 1480))⟩])
  (.cond (.t 13)
  (.seq (.ops [⟨some 14, none, .build z_2 []⟩, ⟨some 15, none, .callF true 65 [(.c (.int .i64 1)), (.c (.int .i64 11))]⟩, oS 7 2 14, oS 2 3 15])
  .ret)
  .skip))
  (.seq (.seq (.ops [oM 16 0, ⟨some 17, none, .callF true 66 [(.t 16)]⟩, ⟨some 18, none, .bin .neq (.t 17) (.c (.int .u16 65535))⟩])
  (.cond (.t 18)
  (.seq (.ops [⟨some 19, none, .build z_2 []⟩, ⟨some 20, none, .callF true 65 [(.c (.int .i64 2)), (.c (.int .i64 13))]⟩, oS 7 2 19, oS 2 3 20])
  .ret)
  .skip))
  (.seq (.ops [oM 21 0, ⟨some 22, none, .iaddr 1 (.t 21) (.c (.int .i64 0))⟩, oL 23 22, oM 24 0, ⟨some 25, none, .iaddr 1 (.t 24) (.c (.int .i64 1))⟩, oL 26 25, ⟨some 27, none, .buildE⟩, oM 28 0, ⟨some 29, none, .slice 1 (.t 28) (some (.c (.int .i64 8))) none⟩, ⟨some 30, none, .appE 1 1 (.t 27) (.t 29)⟩, ⟨some 31, none, .build z_2 [(0, 1, (.t 23)), (1, 1, (.t 26)), (6, 1, (.t 30))]⟩, ⟨some 4, none, .alloc true z_2 77⟩, oS 7 4 31])
  (.seq (.seq (.ops [⟨some 5, none, .mov (.c (.int .i64 0))⟩])
  (.block 0 (some [0, 2, 3, 4, 5]) L35_0))
  (.seq (.ops [⟨some 44, none, .load true 7 (.t 4)⟩, ⟨some 45, none, .build z_6 []⟩, oS 7 2 44, oS 2 3 45])
  .ret)))))))⟩
/- vizard/vizardref10.Class -/
def I36 : Fn_ := ⟨1, 29, [(2, none)],
  (.seq (.ops [⟨some 1, none, .boxR true 7 77 (.t 0)⟩, ⟨some 2, none, .mov (.c (.int .i64 0))⟩])
  (.seq (.seq (.ops [oF 3 0 1, oL 4 3, ⟨some 5, none, .bin .eql (.t 4) (.c (.int .u8 3))⟩, oM 6 5, gF 7 6 false 0 1, gL 8 6 false 7, ⟨some 9, (some (6, false)), .bin .eql (.t 8) (.c (.int .u8 4))⟩, oT 10 6 9, oM 11 10, gF 12 11 false 0 1, gL 13 11 false 12, ⟨some 14, (some (11, false)), .bin .eql (.t 13) (.c (.int .u8 11))⟩, oT 15 11 14, oM 16 15, gF 17 16 false 0 1, gL 18 16 false 17, ⟨some 19, (some (16, false)), .bin .eql (.t 18) (.c (.int .u8 12))⟩, oT 20 16 19])
  (.cond (.t 20)
  (.seq (.ops [⟨some 2, none, .mov (.c (.int .i64 1))⟩])
  .ret)
  .skip))
  (.seq (.seq (.ops [oF 21 0 1, oL 22 21, ⟨some 23, none, .bin .eql (.t 22) (.c (.int .u8 8))⟩, oM 24 23, gF 25 24 false 0 1, gL 26 24 false 25, ⟨some 27, (some (24, false)), .bin .eql (.t 26) (.c (.int .u8 0))⟩, oT 28 24 27])
  (.cond (.t 28)
  (.seq (.ops [⟨some 2, none, .mov (.c (.int .i64 2))⟩])
  .ret)
  .skip))
  (.seq (.ops [⟨some 2, none, .mov (.c (.int .i64 0))⟩])
  .ret))))⟩
/- vizard/vizardref17.made -/
def I37 : Fn_ := ⟨3, 18, [(6, some (true, 8))],
  (.seq (.ops [⟨some 5, none, .boxR true 7 77 (.t 2)⟩, ⟨some 6, none, .alloc true z_0 32⟩])
  (.seq (.ops [⟨some 10, none, .load true 7 (.t 5)⟩, ⟨some 11, none, .callF true 67 [(.t 10)]⟩, oM 9 11, oE 12 9 0, oE 13 9 1, ⟨some 8, none, .alloc true z_6 81⟩, oM 7 12, oS 2 8 13])
  (.seq (.ops [oM 14 0, oM 15 1, oM 16 7, ⟨some 17, none, .build z_0 [(3, 1, (.c (.int .u8 64))), (4, 1, (.c (.int .u8 1))), (5, 1, (.t 14)), (6, 1, (.t 15)), (7, 1, (.t 16))]⟩, oS 8 6 17])
  .ret)))⟩
/- vizard/vizardref10.Error -/
def I38 : Fn_ := ⟨3, 22, [(6, some (true, 7))],
  (.seq (.ops [⟨some 5, none, .boxR true 8 32 (.t 2)⟩, ⟨some 6, none, .alloc true z_2 77⟩])
  (.seq (.ops [⟨some 8, none, .load true 8 (.t 5)⟩, ⟨some 9, none, .callF false 68 [(.t 8)]⟩, oF 10 7 5, ⟨some 11, none, .loadR false 1 (.t 10)⟩, oF 12 7 5, ⟨some 13, none, .loadR false 1 (.t 12)⟩, ⟨some 14, none, .lenR (.t 13)⟩, ⟨some 15, none, .mm false [(.t 14), (.c (.int .i64 8))]⟩, ⟨some 16, none, .sliceR 1 (.t 11) none (some (.t 15))⟩, ⟨some 17, none, .append 1 1 5 (.t 9) (.t 16)⟩, oM 7 17])
  (.seq (.ops [oM 18 0, oM 19 1, oM 20 7, ⟨some 21, none, .build z_2 [(0, 1, (.t 18)), (1, 1, (.t 19)), (6, 1, (.t 20))]⟩, oS 7 6 21])
  .ret)))⟩
/- vizard/answer.echo -/
def I39 : Fn_ := ⟨2, 42, [(4, some (true, 10))],
  (.seq (.ops [⟨some 3, none, .boxR true 8 26 (.t 1)⟩, ⟨some 4, none, .alloc true z_1 40⟩])
  (.seq (.ops [oF 8 7 3, oL 9 8, ⟨some 10, none, .callF true 20 [(.t 9)]⟩, oM 7 10, oE 11 7 0, oE 12 7 1, ⟨some 5, none, .alloc true z_2 48⟩, oS 7 5 11, oM 6 12])
  (.seq (.block 0 (some [0, 3, 4, 5, 6]) (.seq (.ops [oM 14 6, ⟨some 15, none, .eqNl true true (.t 14)⟩, oM 13 15])
  (.cond (.t 13)
  (.seq (.ops [oM 16 6, ⟨some 17, none, .callF true 58 [(.t 16)]⟩, ⟨some 18, none, .callF true 41 [(.t 17)]⟩, oS 10 4 18])
  .ret)
  (.seq (.ops [oF 20 0 5, oL 21 20, ⟨some 22, none, .bin .neq (.t 21) (.c (.int .u8 8))⟩, oM 23 22, gF 24 23 false 1 5, gL 25 23 false 24, ⟨some 26, (some (23, false)), .bin .neq (.t 25) (.c (.int .u8 0))⟩, oT 27 23 26, oM 28 27, gF 29 28 false 6 3, gL 30 28 false 29, gM 31 28 false 0, ⟨some 32, (some (28, false)), .bin .neq (.t 30) (.t 31)⟩, oT 33 28 32, oM 19 33])
  (.cond (.t 19)
  (.seq (.ops [⟨some 34, none, .callF true 41 [(.c (.int .i64 17))]⟩, oS 10 4 34])
  .ret)
  .skip)))))
  (.seq (.ops [oF 35 0 5, ⟨none, none, .store 1 (.t 35) (.c (.int .u8 0))⟩])
  (.seq (.ops [oM 36 0, oF 37 5 3, oL 38 37, ⟨some 39, none, .load true 7 (.t 5)⟩, ⟨some 40, none, .callF true 32 [(.t 36), (.t 38), (.t 39)]⟩, ⟨some 41, none, .build z_1 [(0, 1, (.c (.int .i64 1))), (2, 8, (.t 40))]⟩, oS 10 4 41])
  .ret)))))⟩
/- vizard/answer.port -/
def I40 : Fn_ := ⟨3, 53, [(6, some (true, 10))],
  (.seq (.ops [⟨some 5, none, .boxR true 8 26 (.t 2)⟩, ⟨some 6, none, .alloc true z_1 40⟩])
  (.seq (.ops [oF 12 7 5, oL 13 12, oF 14 5 5, oL 15 14, oF 16 6 5, oL 17 16, ⟨some 18, none, .callF true 56 [(.t 13), (.t 15), (.t 17)]⟩, oM 11 18, oE 19 11 0, oE 20 11 1, ⟨some 7, none, .alloc true z_3 61⟩, oS 4 7 19, oM 8 20])
  (.seq (.block 0 (some [0, 1, 5, 6, 7, 8]) (.seq (.ops [oM 22 8, ⟨some 23, none, .eqNl true true (.t 22)⟩, oM 21 23])
  (.cond (.t 21)
  (.seq (.ops [oM 24 8, ⟨some 25, none, .callF true 58 [(.t 24)]⟩, ⟨some 26, none, .callF true 41 [(.t 25)]⟩, oS 10 6 26])
  .ret)
  (.seq (.ops [oM 28 0, ⟨some 29, none, .bin .eql (.t 28) (.c (.int .i64 0))⟩, oM 30 29, gF 31 30 true 1 7, gL 32 30 true 31, ⟨some 33, (some (30, true)), .bin .eql (.t 32) (.c (.int .u16 67))⟩, oN 34 30 33, oM 27 34])
  (.cond (.t 27)
  (.seq (.ops [⟨some 35, none, .build z_1 [(0, 1, (.c (.int .i64 2)))]⟩, oS 10 6 35])
  .ret)
  (.seq (.ops [oF 37 6 5, oL 38 37, oM 39 1, ⟨some 40, none, .bin .neq (.t 38) (.t 39)⟩, oM 36 40])
  (.cond (.t 36)
  (.seq (.ops [⟨some 41, none, .callF true 41 [(.c (.int .i64 17))]⟩, oS 10 6 41])
  .ret)
  .skip)))))))
  (.seq (.ops [oM 43 1, ⟨some 44, none, .load true 8 (.t 5)⟩, ⟨some 45, none, .callF true 12 [(.t 43), (.c (.int .u8 3)), (.c (.int .u8 3)), (.t 44)]⟩, oM 42 45, oE 46 42 0, oE 47 42 1, ⟨some 9, none, .alloc true z_0 26⟩, oS 8 9 46, oM 10 47])
  (.seq (.seq (.ops [oM 48 10, ⟨some 49, none, .un .not (.t 48)⟩])
  (.cond (.t 49)
  (.seq (.ops [⟨some 50, none, .callF true 41 [(.c (.int .i64 17))]⟩, oS 10 6 50])
  .ret)
  .skip))
  (.seq (.ops [⟨some 51, none, .load true 8 (.t 9)⟩, ⟨some 52, none, .build z_1 [(0, 1, (.c (.int .i64 1))), (2, 8, (.t 51))]⟩, oS 10 6 52])
  .ret))))))⟩
/- vizard/answer.none -/
def I41 : Fn_ := ⟨1, 5, [(2, some (true, 10))],
  (.seq (.ops [⟨some 2, none, .alloc true z_1 40⟩])
  (.seq (.ops [oM 3 0, ⟨some 4, none, .build z_1 [(0, 1, (.c (.int .i64 0))), (1, 1, (.t 3))]⟩, oS 10 2 4])
  .ret))⟩
/- vizard/vizardref02.Reason -/
def I42 : Fn_ := ⟨1, 14, [(2, none)],
  (.seq (.ops [⟨some 1, none, .box true 81 (.t 0)⟩, ⟨some 2, none, .mov (.c (.int .i64 0))⟩])
  (.seq (.seq (.ops [oF 3 0 1, oL 4 3, ⟨some 5, none, .len (.t 4)⟩, ⟨some 6, none, .bin .gtr (.t 5) (.c (.int .i64 0))⟩])
  (.cond (.t 6)
  (.seq (.ops [oF 7 0 1, oL 8 7, ⟨some 9, none, .iaddr 1 (.t 8) (.c (.int .i64 0))⟩, oL 10 9, oM 2 10])
  .ret)
  .skip))
  (.seq (.ops [oF 11 1 1, oL 12 11, ⟨some 13, none, .callF false 69 [(.t 12)]⟩, oM 2 13])
  .ret)))⟩
/- vizard/vizardref08.Parse -/
def I43 : Fn_ := ⟨3, 67, [(6, some (true, 4)), (7, some (true, 2))],
  (.seq (.ops [⟨some 6, none, .alloc true z_3 90⟩, ⟨some 7, none, .alloc true z_6 81⟩])
  (.seq (.seq (.ops [oM 10 0, ⟨some 11, none, .len (.t 10)⟩, ⟨some 12, none, .bin .lss (.t 11) (.c (.int .i64 8))⟩])
  (.cond (.t 12)
  (.seq (.ops [⟨some 13, none, .build z_3 []⟩, ⟨some 14, none, .callF false 65 [(.c (.int .i64 1)), (.c (.int .i64 12))]⟩, oS 4 6 13, oS 2 7 14])
  .ret)
  .skip))
  (.seq (.ops [oM 15 0, ⟨some 16, none, .slice 1 (.t 15) (some (.c (.int .i64 4))) none⟩, ⟨some 17, none, .callF false 70 [(.t 16)]⟩, oM 8 17])
  (.seq (.seq (.ops [oM 18 8, ⟨some 19, none, .bin .lss (.t 18) (.c (.int .i64 8))⟩])
  (.cond (.t 19)
  (.seq (.ops [⟨some 20, none, .build z_3 []⟩, ⟨some 21, none, .callF false 65 [(.c (.int .i64 1)), (.c (.int .i64 10))]⟩, oS 4 6 20, oS 2 7 21])
  .ret)
  .skip))
  (.seq (.seq (.ops [oM 22 8, oM 23 0, ⟨some 24, none, .len (.t 23)⟩, ⟨some 25, none, .bin .gtr (.t 22) (.t 24)⟩])
  (.cond (.t 25)
  (.seq (.ops [⟨some 26, none, .build z_3 []⟩, ⟨some 27, none, .callF false 65 [(.c (.int .i64 1)), (.c (.int .i64 12))]⟩, oS 4 6 26, oS 2 7 27])
  .ret)
  .skip))
  (.seq (.seq (.ops [oM 28 8, ⟨some 29, none, .bin .gtr (.t 28) (.c (.int .i64 1480))⟩])
  (.cond (.t 29)
  (.seq (.ops [⟨some 30, none, .build z_3 []⟩, ⟨some 31, none, .callF false 65 [(.c (.int .i64 1)), (.c (.int .i64 11))]⟩, oS 4 6 30, oS 2 7 31])
  .ret)
  .skip))
  (.seq (.ops [oM 32 0, ⟨some 33, none, .slice 1 (.t 32) (some (.c (.int .i64 6))) none⟩, ⟨some 34, none, .callF false 70 [(.t 33)]⟩, ⟨some 35, none, .bin .eql (.t 34) (.c (.int .i64 0))⟩, oM 9 35])
  (.seq (.seq (.ops [oM 36 9, ⟨some 37, none, .un .not (.t 36)⟩, oM 38 37, gM 39 38 true 1, gM 40 38 true 2, gM 41 38 true 8, ⟨some 42, (some (38, true)), .callF false 71 [(.t 39), (.t 40), (.c (.int .i64 17)), (.t 41)]⟩, gM 43 38 true 0, gM 44 38 true 8, ⟨some 45, (some (38, true)), .sliceR 1 (.t 43) none (some (.t 44))⟩, ⟨some 46, (some (38, true)), .append 1 1 5 (.t 42) (.t 45)⟩, ⟨some 47, (some (38, true)), .callF true 66 [(.t 46)]⟩, ⟨some 48, (some (38, true)), .bin .neq (.t 47) (.c (.int .u16 65535))⟩, oN 49 38 48])
  (.cond (.t 49)
  (.seq (.ops [⟨some 50, none, .build z_3 []⟩, ⟨some 51, none, .callF false 65 [(.c (.int .i64 2)), (.c (.int .i64 13))]⟩, oS 4 6 50, oS 2 7 51])
  .ret)
  .skip))
  (.seq (.ops [oM 52 0, ⟨some 53, none, .callF true 70 [(.t 52)]⟩, ⟨some 54, none, .conv .u16 (.t 53)⟩, oM 55 0, ⟨some 56, none, .slice 1 (.t 55) (some (.c (.int .i64 2))) none⟩, ⟨some 57, none, .callF true 70 [(.t 56)]⟩, ⟨some 58, none, .conv .u16 (.t 57)⟩, oM 59 9, ⟨some 60, none, .buildE⟩, oM 61 0, oM 62 8, ⟨some 63, none, .slice 1 (.t 61) (some (.c (.int .i64 8))) (some (.t 62))⟩, ⟨some 64, none, .appE 1 1 (.t 60) (.t 63)⟩, ⟨some 65, none, .build z_3 [(0, 1, (.t 54)), (1, 1, (.t 58)), (2, 1, (.t 59)), (3, 1, (.t 64))]⟩, ⟨some 66, none, .build z_6 []⟩, oS 4 6 65, oS 2 7 66])
  .ret)))))))))⟩
/- vizard/why.Fault -/
def I44 : Fn_ := ⟨2, 18, [(4, none)],
  (.seq (.ops [⟨some 4, none, .mov (.c .nili)⟩])
  (.seq (.seq (.ops [oM 5 1, ⟨some 6, none, .bin .eql (.t 5) (.c (.int .i64 0))⟩, oM 7 6, gM 8 7 false 0, ⟨some 9, (some (7, false)), .callF false 72 [(.t 8)]⟩, ⟨some 10, (some (7, false)), .un .not (.t 9)⟩, oT 11 7 10])
  (.cond (.t 11)
  (.seq (.ops [⟨some 4, none, .mov (.c .nili)⟩])
  .ret)
  .skip))
  (.seq (.ops [oM 12 0, oM 13 1, ⟨some 14, none, .mkIf 79 (.t 13)⟩, ⟨some 15, none, .build z_8 [(0, 1, (.t 12)), (1, 1, (.t 14))]⟩, ⟨some 16, none, .box true 127 (.t 15)⟩, ⟨some 17, none, .mkIf 125 (.t 16)⟩, oM 4 17])
  .ret)))⟩
/- slices.Concat[[]byte,byte] -/
def B45_0 : C := (.seq (.ops [⟨some 12, none, .bin .lss (.t 11) (.t 10)⟩])
  (.seq (.cond (.t 12)
  .skip
  (.exit 0))
  (.seq (.block 1 (some [0, 3, 9, 10, 11]) (.seq (.ops [⟨some 13, none, .iaddr 1 (.t 9) (.t 11)⟩, oL 14 13, oM 5 14])
  (.seq (.ops [oM 15 3, oM 16 5, ⟨some 17, none, .len (.t 16)⟩, ⟨some 18, none, .bin .add (.t 15) (.t 17)⟩, oM 3 18])
  (.seq (.ops [oM 19 3, ⟨some 20, none, .bin .lss (.t 19) (.c (.int .i64 0))⟩])
  (.cond (.t 20)
  (.ops [⟨some 21, none, .mkIf 9 (.c (.str ⟨#[108, 101, 110, 32, 111, 117, 116, 32, 111, 102, 32, 114, 97, 110, 103, 101]⟩))⟩, ⟨none, none, .fail⟩])
  .skip)))))
  (.ops [⟨some 22, none, .bin .add (.t 11) (.c (.int .i64 1))⟩, oM 11 22]))))
def L45_0 : C := .loop (some [0, 3, 9, 10, 11]) B45_0
theorem L45_0_eq {E : Env} (x : St) : ev E L45_0 x = andThen (ev E B45_0 (restr (some [0, 3, 9, 10, 11]) x)) (ev E L45_0) := ev_loop _ _ x
theorem L45_0_lp {E : Env} (s : Slots) (h : Heap) : ev E L45_0 ⟨s, h⟩ = lp E L45_0 (pickS s [0, 3, 9, 10, 11]) h := lp_of L45_0_eq s h
theorem L45_0_go {E : Env} (s : Slots) (h : Heap) : lp E L45_0 s h = andThen (ev E B45_0 ⟨pickS s [0, 3, 9, 10, 11], h⟩) (ev E L45_0) := lp_go L45_0_eq s h
def B45_1 : C := (.seq (.ops [⟨some 28, none, .bin .lss (.t 27) (.t 26)⟩])
  (.seq (.cond (.t 28)
  .skip
  (.exit 2))
  (.seq (.block 3 (some [6, 25, 26, 27]) (.seq (.ops [⟨some 29, none, .iaddr 1 (.t 25) (.t 27)⟩, oL 30 29, oM 8 30])
  (.ops [oM 31 6, oM 32 8, ⟨some 33, none, .append 1 1 5 (.t 31) (.t 32)⟩, oM 6 33])))
  (.ops [⟨some 34, none, .bin .add (.t 27) (.c (.int .i64 1))⟩, oM 27 34]))))
def L45_1 : C := .loop (some [6, 25, 26, 27]) B45_1
theorem L45_1_eq {E : Env} (x : St) : ev E L45_1 x = andThen (ev E B45_1 (restr (some [6, 25, 26, 27]) x)) (ev E L45_1) := ev_loop _ _ x
theorem L45_1_lp {E : Env} (s : Slots) (h : Heap) : ev E L45_1 ⟨s, h⟩ = lp E L45_1 (pickS s [6, 25, 26, 27]) h := lp_of L45_1_eq s h
theorem L45_1_go {E : Env} (s : Slots) (h : Heap) : lp E L45_1 s h = andThen (ev E B45_1 ⟨pickS s [6, 25, 26, 27], h⟩) (ev E L45_1) := lp_go L45_1_eq s h
noncomputable def T45_1 (E : Env) (o : Out) : Option (AV × Heap) := outR [(2, none)] (andThen (endBlock 2 (some [6, 25, 26, 27]) (o)) (ev E (.seq (.ops [oM 35 6, oM 2 35])
  .ret)))
noncomputable def T45_0 (E : Env) (o : Out) : Option (AV × Heap) := outR [(2, none)] (andThen (endBlock 0 (some [0, 3, 9, 10, 11]) (o)) (ev E (.seq (.ops [oM 23 3, ⟨some 24, none, .callF false 73 [(.c .nils), (.t 23)]⟩, oM 6 24])
  (.seq (.seq (.ops [oM 25 0, ⟨some 26, none, .len (.t 25)⟩, ⟨some 27, none, .mov (.c (.int .i64 0))⟩])
  (.block 2 (some [6, 25, 26, 27]) L45_1))
  (.seq (.ops [oM 35 6, oM 2 35])
  .ret)))))
def I45 : Fn_ := ⟨1, 36, [(2, none)],
  (.seq (.ops [⟨some 2, none, .mov (.c (.rs false 1 []))⟩])
  (.seq (.ops [⟨some 3, none, .mov (.c (.int .i64 0))⟩])
  (.seq (.seq (.ops [oM 9 0, ⟨some 10, none, .len (.t 9)⟩, ⟨some 11, none, .mov (.c (.int .i64 0))⟩])
  (.block 0 (some [0, 3, 9, 10, 11]) L45_0))
  (.seq (.ops [oM 23 3, ⟨some 24, none, .callF false 73 [(.c .nils), (.t 23)]⟩, oM 6 24])
  (.seq (.seq (.ops [oM 25 0, ⟨some 26, none, .len (.t 25)⟩, ⟨some 27, none, .mov (.c (.int .i64 0))⟩])
  (.block 2 (some [6, 25, 26, 27]) L45_1))
  (.seq (.ops [oM 35 6, oM 2 35])
  .ret))))))⟩
/- vizard/word.Lay -/
def I46 : Fn_ := ⟨4, 27, [(8, none), (9, none)],
  (.seq (.ops [⟨some 8, none, .mov (.c (.rs false 1 []))⟩, ⟨some 9, none, .mov (.c (.int .i64 0))⟩])
  (.seq (.ops [oM 13 3, oM 14 2, ⟨some 15, none, .callF false 74 [(.t 13), (.t 14)]⟩, oM 12 15, oE 16 12 0, oE 17 12 1, oM 10 16, oM 11 17])
  (.seq (.seq (.ops [oM 18 11, ⟨some 19, none, .bin .neq (.t 18) (.c (.int .i64 0))⟩])
  (.cond (.t 19)
  (.seq (.ops [oM 20 11, ⟨some 8, none, .mov (.c (.rs false 1 []))⟩, oM 9 20])
  .ret)
  .skip))
  (.seq (.ops [oM 21 0, oM 22 1, oM 23 10, ⟨some 24, none, .callF false 75 [(.t 21), (.t 22), (.t 23)]⟩, oE 25 24 0, oE 26 24 1, oM 8 25, oM 9 26])
  .ret))))⟩
/- vizard/sum.Of -/
def I47 : Fn_ := ⟨1, 6, [(2, none)],
  (.seq (.ops [⟨some 2, none, .mov (.c (.int .u16 0))⟩])
  (.seq (.ops [oM 3 0, ⟨some 4, none, .callF false 63 [(.t 3)]⟩, ⟨some 5, none, .un .xor (.t 4)⟩, oM 2 5])
  .ret))⟩
/- slices.Clone[[]byte,byte] -/
def I48 : Fn_ := ⟨1, 8, [(2, none)],
  (.seq (.ops [⟨some 2, none, .mov (.c (.rs false 1 []))⟩])
  (.seq (.seq (.ops [oM 3 0, ⟨some 4, none, .eqNil false (.t 3)⟩])
  (.cond (.t 4)
  (.seq (.ops [⟨some 2, none, .mov (.c (.rs false 1 []))⟩])
  .ret)
  .skip))
  (.seq (.ops [⟨some 5, none, .buildSl 1 5 []⟩, oM 6 0, ⟨some 7, none, .append 1 1 5 (.t 5) (.t 6)⟩, oM 2 7])
  .ret)))⟩
/- (vizard/inet.Packet).bare -/
def I49 : Fn_ := ⟨1, 18, [(2, some (true, 7))],
  (.seq (.ops [⟨some 1, none, .boxR true 8 26 (.t 0)⟩, ⟨some 2, none, .alloc true z_9 100⟩])
  (.seq (.ops [oF 3 0 1, oL 4 3, oF 5 1 1, oL 6 5, oF 7 2 1, oL 8 7, oF 9 3 1, oL 10 9, oF 11 4 1, oL 12 11, oF 13 5 1, oL 14 13, oF 15 6 1, oL 16 15, ⟨some 17, none, .build z_9 [(0, 1, (.t 4)), (1, 1, (.t 6)), (2, 1, (.t 8)), (3, 1, (.t 10)), (4, 1, (.t 12)), (5, 1, (.t 14)), (6, 1, (.t 16))]⟩, oS 7 2 17])
  .ret))⟩
/- bytes.Equal -/
def I50 : Fn_ := ⟨2, 10, [(4, none)],
  (.seq (.ops [⟨some 4, none, .mov (.c (.bool false))⟩])
  (.seq (.ops [oM 5 0, ⟨some 6, none, .toStr (.t 5)⟩, oM 7 1, ⟨some 8, none, .toStr (.t 7)⟩, ⟨some 9, none, .bin .eql (.t 6) (.t 8)⟩, oM 4 9])
  .ret))⟩
/- vizard/word.Row -/
def B51_0 : C := (.seq (.ops [⟨some 17, none, .bin .lss (.t 16) (.t 15)⟩])
  (.seq (.cond (.t 17)
  .skip
  (.exit 0))
  (.seq (.block 1 (some [0, 6, 14, 15, 16]) (.seq (.ops [⟨some 18, none, .iaddr 1 (.t 14) (.t 16)⟩, oL 19 18, oM 8 19])
  (.seq (.ops [oM 21 8, oM 22 0, ⟨some 23, none, .callF false 74 [(.t 21), (.t 22)]⟩, oM 20 23, oE 24 20 0, oE 25 20 1, oM 9 24, oM 10 25])
  (.seq (.seq (.ops [oM 26 10, ⟨some 27, none, .bin .neq (.t 26) (.c (.int .i64 0))⟩])
  (.cond (.t 27)
  (.seq (.ops [oM 28 10, ⟨some 4, none, .mov (.c (.rs false 1 []))⟩, oM 5 28])
  .ret)
  .skip))
  (.ops [oM 29 6, oM 30 9, ⟨some 31, none, .append 1 1 5 (.t 29) (.t 30)⟩, oM 6 31])))))
  (.ops [⟨some 32, none, .bin .add (.t 16) (.c (.int .i64 1))⟩, oM 16 32]))))
def L51_0 : C := .loop (some [0, 6, 14, 15, 16]) B51_0
theorem L51_0_eq {E : Env} (x : St) : ev E L51_0 x = andThen (ev E B51_0 (restr (some [0, 6, 14, 15, 16]) x)) (ev E L51_0) := ev_loop _ _ x
theorem L51_0_lp {E : Env} (s : Slots) (h : Heap) : ev E L51_0 ⟨s, h⟩ = lp E L51_0 (pickS s [0, 6, 14, 15, 16]) h := lp_of L51_0_eq s h
theorem L51_0_go {E : Env} (s : Slots) (h : Heap) : lp E L51_0 s h = andThen (ev E B51_0 ⟨pickS s [0, 6, 14, 15, 16], h⟩) (ev E L51_0) := lp_go L51_0_eq s h
noncomputable def T51_0 (E : Env) (o : Out) : Option (AV × Heap) := outR [(4, none), (5, none)] (andThen (endBlock 0 (some [0, 6, 14, 15, 16]) (o)) (ev E (.seq (.ops [oM 33 6, oM 4 33, ⟨some 5, none, .mov (.c (.int .i64 0))⟩])
  .ret)))
def I51 : Fn_ := ⟨2, 34, [(4, none), (5, none)],
  (.seq (.ops [⟨some 4, none, .mov (.c (.rs false 1 []))⟩, ⟨some 5, none, .mov (.c (.int .i64 0))⟩])
  (.seq (.seq (.ops [oM 11 0, ⟨some 12, none, .callF false 76 [(.t 11)]⟩, ⟨some 13, none, .un .not (.t 12)⟩])
  (.cond (.t 13)
  (.seq (.ops [⟨some 4, none, .mov (.c (.rs false 1 []))⟩, ⟨some 5, none, .mov (.c (.int .i64 11))⟩])
  .ret)
  .skip))
  (.seq (.ops [⟨some 6, none, .nilrow 1 5⟩])
  (.seq (.seq (.ops [oM 14 1, ⟨some 15, none, .len (.t 14)⟩, ⟨some 16, none, .mov (.c (.int .i64 0))⟩])
  (.block 0 (some [0, 6, 14, 15, 16]) L51_0))
  (.seq (.ops [oM 33 6, oM 4 33, ⟨some 5, none, .mov (.c (.int .i64 0))⟩])
  .ret)))))⟩
/- vizard/udp.ends -/
def I52 : Fn_ := ⟨3, 30, [(6, none)],
  (.seq (.ops [⟨some 6, none, .mov (.c (.rs false 1 []))⟩])
  (.seq (.ops [oM 12 0, ⟨some 13, none, .conv .u64 (.t 12)⟩, oM 14 1, ⟨some 15, none, .conv .u64 (.t 14)⟩, ⟨some 16, none, .buildR 1 97 [(.t 13), (.t 15)]⟩, ⟨some 17, none, .callF false 51 [(.c (.int .i64 4)), (.t 16)]⟩, oM 11 17, oE 18 11 0, oE 19 11 1, oM 7 18, oM 8 19])
  (.seq (.ops [oM 21 2, ⟨some 22, none, .conv .u64 (.t 21)⟩, ⟨some 23, none, .buildR 1 97 [(.c (.int .u64 17)), (.t 22)]⟩, ⟨some 24, none, .callF true 51 [(.c (.int .i64 2)), (.t 23)]⟩, oM 20 24, oE 25 20 0, oE 26 20 1, oM 9 25, oM 10 26])
  (.seq (.ops [oM 27 7, oM 28 9, ⟨some 29, none, .append 1 1 5 (.t 27) (.t 28)⟩, oM 6 29])
  .ret))))⟩
/- vizard/inet.Peek -/
def I53 : Fn_ := ⟨1, 20, [(2, some (true, 8)), (3, none)],
  (.seq (.ops [⟨some 2, none, .alloc true z_0 26⟩, ⟨some 3, none, .mov (.c .nili)⟩])
  (.seq (.ops [oM 7 0, ⟨some 8, none, .callF true 77 [(.t 7), (.c (.fn 78 []))]⟩, oM 6 8, oE 9 6 0, oE 10 6 1, ⟨some 4, none, .alloc true z_10 133⟩, oS 2 4 9, oM 5 10])
  (.seq (.seq (.ops [oM 11 5, ⟨some 12, none, .eqNl true true (.t 11)⟩])
  (.cond (.t 12)
  (.seq (.ops [⟨some 13, none, .build z_0 []⟩, oM 14 5, oS 8 2 13, oM 3 14])
  .ret)
  .skip))
  (.seq (.ops [oM 15 0, ⟨some 16, none, .load true 2 (.t 4)⟩, ⟨some 17, none, .callF true 79 [(.t 15), (.t 16)]⟩, oE 18 17 0, oE 19 17 1, oS 8 2 18, oM 3 19])
  .ret))))⟩
/- vizard/turn.Read -/
def I54 : Fn_ := ⟨1, 83, [(2, some (true, 7)), (3, none)],
  (.seq (.ops [⟨some 1, none, .boxR true 8 26 (.t 0)⟩, ⟨some 2, none, .alloc true z_4 69⟩, ⟨some 3, none, .mov (.c .nili)⟩])
  (.seq (.seq (.ops [oF 11 4 1, oL 12 11])
  (.block 0 (some [1, 2, 12]) (.seq (.ops [⟨some 14, none, .bin .eql (.t 12) (.c (.int .u8 6))⟩, oM 13 14])
  (.cond (.t 13)
  (.seq (.ops [oF 16 7 1, oL 17 16, oF 18 5 1, oL 19 18, oF 20 6 1, oL 21 20, ⟨some 22, none, .callF true 80 [(.t 17), (.t 19), (.t 21)]⟩, oM 15 22, oE 23 15 0, oE 24 15 1, ⟨some 4, none, .alloc true z_11 139⟩, oS 4 4 23, oM 5 24])
  (.seq (.seq (.ops [oM 25 5, ⟨some 26, none, .eqNl true true (.t 25)⟩])
  (.cond (.t 26)
  (.seq (.ops [⟨some 27, none, .build z_4 []⟩, oM 28 5, oS 7 2 27, oM 3 28])
  .ret)
  .skip))
  (.seq (.ops [⟨some 29, none, .load true 8 (.t 1)⟩, oF 30 0 4, oL 31 30, oF 32 1 4, oL 33 32, ⟨some 34, none, .callF true 81 [(.t 29), (.t 31), (.t 33)]⟩, ⟨some 6, none, .alloc true z_4 69⟩, oS 7 6 34])
  (.seq (.ops [oF 35 2 4, oL 36 35, oF 37 5 6, oS 1 37 36])
  (.seq (.ops [⟨some 38, none, .load true 7 (.t 6)⟩, oS 7 2 38, ⟨some 3, none, .mov (.c .nili)⟩])
  .ret)))))
  (.seq (.ops [⟨some 40, none, .bin .eql (.t 12) (.c (.int .u8 17))⟩, oM 39 40])
  (.cond (.t 39)
  (.seq (.ops [oF 42 7 1, oL 43 42, oF 44 5 1, oL 45 44, oF 46 6 1, oL 47 46, ⟨some 48, none, .callF true 56 [(.t 43), (.t 45), (.t 47)]⟩, oM 41 48, oE 49 41 0, oE 50 41 1, ⟨some 7, none, .alloc true z_3 61⟩, oS 4 7 49, oM 8 50])
  (.seq (.seq (.ops [oM 51 8, ⟨some 52, none, .eqNl true true (.t 51)⟩])
  (.cond (.t 52)
  (.seq (.ops [⟨some 53, none, .build z_4 []⟩, oM 54 8, oS 7 2 53, oM 3 54])
  .ret)
  .skip))
  (.seq (.ops [⟨some 55, none, .load true 8 (.t 1)⟩, oF 56 0 7, oL 57 56, oF 58 1 7, oL 59 58, ⟨some 60, none, .callF true 81 [(.t 55), (.t 57), (.t 59)]⟩, oS 7 2 60, ⟨some 3, none, .mov (.c .nili)⟩])
  .ret)))
  (.seq (.ops [⟨some 62, none, .bin .eql (.t 12) (.c (.int .u8 1))⟩, oM 61 62])
  (.cond (.t 61)
  (.seq (.ops [oF 64 7 1, oL 65 64, ⟨some 66, none, .callF true 20 [(.t 65)]⟩, oM 63 66, oE 67 63 0, oE 68 63 1, ⟨some 9, none, .alloc true z_2 48⟩, oS 7 9 67, oM 10 68])
  (.seq (.seq (.ops [oM 69 10, ⟨some 70, none, .eqNl true true (.t 69)⟩])
  (.cond (.t 70)
  (.seq (.ops [⟨some 71, none, .build z_4 []⟩, oM 72 10, oS 7 2 71, oM 3 72])
  .ret)
  .skip))
  (.seq (.ops [⟨some 73, none, .load true 8 (.t 1)⟩, oF 74 0 9, oL 75 74, ⟨some 76, none, .load true 7 (.t 9)⟩, ⟨some 77, none, .callF true 83 [(.t 76)]⟩, ⟨some 78, none, .callF true 82 [(.t 73), (.t 75), (.t 77)]⟩, oE 79 78 0, oE 80 78 1, oS 7 2 79, oM 3 80])
  .ret)))
  .skip))))))))
  (.seq (.ops [⟨some 81, none, .build z_4 []⟩, ⟨some 82, none, .callF true 84 []⟩, oS 7 2 81, oM 3 82])
  .ret)))⟩
/- vizard/turn.Sender -/
def I55 : Fn_ := ⟨2, 48, [(4, some (true, 8)), (5, none)],
  (.seq (.ops [⟨some 2, none, .box true 26 (.t 0)⟩, ⟨some 3, none, .boxR true 2 67 (.t 1)⟩, ⟨some 4, none, .alloc true z_0 26⟩, ⟨some 5, none, .mov (.c .nili)⟩])
  (.seq (.ops [⟨some 9, none, .load true 8 (.t 2)⟩, ⟨some 10, none, .callF true 54 [(.t 9)]⟩, oM 8 10, oE 11 8 0, oE 12 8 1, ⟨some 6, none, .alloc true z_4 69⟩, oS 7 6 11, oM 7 12])
  (.seq (.seq (.ops [oM 13 7, ⟨some 14, none, .eqNl true true (.t 13)⟩])
  (.cond (.t 14)
  (.seq (.ops [⟨some 15, none, .build z_0 []⟩, oM 16 7, oS 8 4 15, oM 5 16])
  .ret)
  .skip))
  (.seq (.block 0 (some [2, 3, 4, 6]) (.seq (.ops [oF 25 0 6, oL 26 25, ⟨some 27, none, .bin .neq (.t 26) (.c (.int .u8 1))⟩, oM 24 27])
  (.cond (.t 24)
  (.ops [⟨some 28, none, .load true 8 (.t 2)⟩, ⟨some 29, none, .faddr true 1 2 (.t 6)⟩, ⟨some 30, none, .load true 2 (.t 29)⟩, ⟨some 31, none, .load true 2 (.t 3)⟩, ⟨some 32, none, .callF true 85 [(.t 28), (.c (.int .i64 0)), (.t 30), (.t 31)]⟩, oF 33 7 2, oS 1 33 32])
  (.seq (.ops [oF 35 6 6, oL 36 35, ⟨some 37, none, .bin .eql (.t 36) (.c (.int .u8 8))⟩, oM 34 37])
  (.cond (.t 34)
  (.ops [oF 38 7 2, oL 39 38, oF 40 1 3, oL 41 40, ⟨some 42, none, .callF true 86 [(.t 39), (.t 41)]⟩, oF 43 7 2, oS 1 43 42])
  (.ops [oF 17 7 2, oL 18 17, ⟨some 19, none, .faddr true 3 2 (.t 6)⟩, oF 20 1 19, oL 21 20, ⟨some 22, none, .callF true 86 [(.t 18), (.t 21)]⟩, oF 23 7 2, oS 1 23 22]))))))
  (.seq (.ops [oF 44 0 3, oL 45 44, oF 46 5 2, oS 1 46 45])
  (.seq (.ops [⟨some 47, none, .load true 8 (.t 2)⟩, oS 8 4 47, ⟨some 5, none, .mov (.c .nili)⟩])
  .ret))))))⟩
/- vizard/udp.Parse -/
def I56 : Fn_ := ⟨3, 64, [(6, some (true, 4)), (7, none)],
  (.seq (.ops [⟨some 6, none, .alloc true z_3 61⟩, ⟨some 7, none, .mov (.c .nili)⟩])
  (.seq (.seq (.ops [oM 10 0, ⟨some 11, none, .len (.t 10)⟩, ⟨some 12, none, .bin .lss (.t 11) (.c (.int .i64 8))⟩])
  (.cond (.t 12)
  (.seq (.ops [⟨some 13, none, .build z_3 []⟩, ⟨some 14, none, .callF true 44 [(.c (.int .i64 1)), (.c (.int .i64 12))]⟩, oS 4 6 13, oM 7 14])
  .ret)
  .skip))
  (.seq (.ops [oM 15 0, ⟨some 16, none, .callF true 87 [(.t 15), (.c (.int .i64 4))]⟩, ⟨some 17, none, .conv .i64 (.t 16)⟩, oM 8 17])
  (.seq (.block 0 (some [0, 1, 2, 6, 8]) (.seq (.ops [oM 19 8, ⟨some 20, none, .bin .lss (.t 19) (.c (.int .i64 8))⟩, oM 18 20])
  (.cond (.t 18)
  (.seq (.ops [⟨some 21, none, .build z_3 []⟩, ⟨some 22, none, .callF true 44 [(.c (.int .i64 1)), (.c (.int .i64 10))]⟩, oS 4 6 21, oM 7 22])
  .ret)
  (.seq (.ops [oM 24 8, oM 25 0, ⟨some 26, none, .len (.t 25)⟩, ⟨some 27, none, .bin .gtr (.t 24) (.t 26)⟩, oM 23 27])
  (.cond (.t 23)
  (.seq (.ops [⟨some 28, none, .build z_3 []⟩, ⟨some 29, none, .callF true 44 [(.c (.int .i64 1)), (.c (.int .i64 12))]⟩, oS 4 6 28, oM 7 29])
  .ret)
  (.seq (.ops [oM 31 8, ⟨some 32, none, .bin .gtr (.t 31) (.c (.int .i64 1480))⟩, oM 30 32])
  (.cond (.t 30)
  (.seq (.ops [⟨some 33, none, .build z_3 []⟩, ⟨some 34, none, .callF true 44 [(.c (.int .i64 1)), (.c (.int .i64 11))]⟩, oS 4 6 33, oM 7 34])
  .ret)
  .skip)))))))
  (.seq (.ops [oM 35 0, oM 36 8, ⟨some 37, none, .slice 1 (.t 35) none (some (.t 36))⟩, oM 0 37])
  (.seq (.ops [oM 38 0, ⟨some 39, none, .callF true 87 [(.t 38), (.c (.int .i64 6))]⟩, ⟨some 40, none, .bin .eql (.t 39) (.c (.int .u16 0))⟩, oM 9 40])
  (.seq (.seq (.ops [oM 41 9, ⟨some 42, none, .un .not (.t 41)⟩, oM 43 42, gM 44 43 true 1, gM 45 43 true 2, gM 46 43 true 8, ⟨some 47, (some (43, true)), .callF true 52 [(.t 44), (.t 45), (.t 46)]⟩, gM 48 43 true 0, ⟨some 49, (some (43, true)), .buildR 1 24 [(.t 47), (.t 48)]⟩, ⟨some 50, (some (43, true)), .callF true 30 [(.t 49)]⟩, ⟨some 51, (some (43, true)), .un .not (.t 50)⟩, oN 52 43 51])
  (.cond (.t 52)
  (.seq (.ops [⟨some 53, none, .build z_3 []⟩, ⟨some 54, none, .callF true 44 [(.c (.int .i64 2)), (.c (.int .i64 13))]⟩, oS 4 6 53, oM 7 54])
  .ret)
  .skip))
  (.seq (.ops [oM 55 0, ⟨some 56, none, .callF true 87 [(.t 55), (.c (.int .i64 0))]⟩, oM 57 0, ⟨some 58, none, .callF true 87 [(.t 57), (.c (.int .i64 2))]⟩, oM 59 9, oM 60 0, ⟨some 61, none, .slice 1 (.t 60) (some (.c (.int .i64 8))) none⟩, ⟨some 62, none, .callF false 48 [(.t 61)]⟩, ⟨some 63, none, .build z_3 [(0, 1, (.t 56)), (1, 1, (.t 58)), (2, 1, (.t 59)), (3, 1, (.t 62))]⟩, oS 4 6 63, ⟨some 7, none, .mov (.c .nili)⟩])
  .ret))))))))⟩
/- vizard/turn.Hop -/
def I57 : Fn_ := ⟨1, 17, [(2, some (true, 8)), (3, none)],
  (.seq (.ops [⟨some 1, none, .box true 26 (.t 0)⟩, ⟨some 2, none, .alloc true z_0 26⟩, ⟨some 3, none, .mov (.c (.bool false))⟩])
  (.seq (.seq (.ops [oF 4 3 1, oL 5 4, ⟨some 6, none, .bin .leq (.t 5) (.c (.int .u8 1))⟩])
  (.cond (.t 6)
  (.seq (.ops [⟨some 7, none, .build z_0 []⟩, oS 8 2 7, ⟨some 3, none, .mov (.c (.bool false))⟩])
  .ret)
  .skip))
  (.seq (.ops [oF 8 3 1, oL 9 8, ⟨some 10, none, .bin .sub (.t 9) (.c (.int .u8 1))⟩, oF 11 3 1, oS 1 11 10])
  (.seq (.ops [oF 12 7 1, oL 13 12, ⟨some 14, none, .callF true 48 [(.t 13)]⟩, oF 15 7 1, oS 1 15 14])
  (.seq (.ops [⟨some 16, none, .load true 8 (.t 1)⟩, oS 8 2 16, ⟨some 3, none, .mov (.c (.bool true))⟩])
  .ret)))))⟩
/- vizard/why.Is -/
def I59 : Fn_ := ⟨2, 13, [(4, none)],
  (.seq (.ops [⟨some 4, none, .mov (.c (.bool false))⟩])
  (.seq (.ops [oM 5 0, ⟨some 6, none, .eqNl true true (.t 5)⟩, oM 7 6, gM 8 7 true 0, gM 9 7 true 1, ⟨some 10, (some (7, true)), .mkIf 79 (.t 9)⟩, ⟨some 11, (some (7, true)), .callF false 91 [(.t 8), (.t 10)]⟩, oN 12 7 11, oM 4 12])
  .ret))⟩
/- vizard/turn.embedded -/
def I60 : Fn_ := ⟨1, 33, [(2, some (true, 7)), (3, some (true, 8)), (4, none)],
  (.seq (.ops [⟨some 1, none, .boxR true 8 26 (.t 0)⟩, ⟨some 2, none, .alloc true z_2 48⟩, ⟨some 3, none, .alloc true z_0 26⟩, ⟨some 4, none, .mov (.c .nili)⟩])
  (.seq (.seq (.ops [oF 8 4 1, oL 9 8, ⟨some 10, none, .bin .neq (.t 9) (.c (.int .u8 1))⟩])
  (.cond (.t 10)
  (.seq (.ops [⟨some 11, none, .build z_2 []⟩, ⟨some 12, none, .build z_0 []⟩, ⟨some 13, none, .callF true 84 []⟩, oS 7 2 11, oS 8 3 12, oM 4 13])
  .ret)
  .skip))
  (.seq (.ops [oF 15 7 1, oL 16 15, ⟨some 17, none, .callF true 20 [(.t 16)]⟩, oM 14 17, oE 18 14 0, oE 19 14 1, ⟨some 5, none, .alloc true z_2 48⟩, oS 7 5 18, oM 6 19])
  (.seq (.seq (.ops [oM 20 6, ⟨some 21, none, .eqNl true true (.t 20)⟩])
  (.cond (.t 21)
  (.seq (.ops [⟨some 22, none, .build z_2 []⟩, ⟨some 23, none, .build z_0 []⟩, oM 24 6, oS 7 2 22, oS 8 3 23, oM 4 24])
  .ret)
  .skip))
  (.seq (.ops [⟨some 26, none, .load true 7 (.t 5)⟩, ⟨some 27, none, .callF true 25 [(.t 26)]⟩, oM 25 27, oE 28 25 0, oE 29 25 1, ⟨some 7, none, .alloc true z_0 26⟩, oS 8 7 28, oM 6 29])
  (.seq (.ops [⟨some 30, none, .load true 7 (.t 5)⟩, ⟨some 31, none, .loadS 3 true 8 (.t 7)⟩, oM 32 6, ⟨none, none, .storeS 0 7 (.t 2) (.t 30)⟩, oS 8 3 31, oM 4 32])
  .ret))))))⟩
/- vizard/turn.innerEnds -/
def I61 : Fn_ := ⟨1, 32, [(2, some (true, 7)), (3, none)],
  (.seq (.ops [⟨some 1, none, .box true 26 (.t 0)⟩, ⟨some 2, none, .alloc true z_4 69⟩, ⟨some 3, none, .mov (.c .nili)⟩])
  (.seq (.ops [⟨some 5, none, .mkFn 92 [(.t 1)]⟩, oM 4 5])
  (.seq (.seq (.ops [oF 6 4 1, oL 7 6])
  (.block 0 (some [1, 2, 4, 7]) (.seq (.block 3 (some [1, 2, 4, 7]) (.seq (.block 2 (some [1, 2, 4, 7]) (.block 1 (some [1, 2, 4, 7]) (.seq (.seq (.seq (.ops [⟨some 9, none, .bin .eql (.t 7) (.c (.int .u8 6))⟩, oM 8 9])
  (.cond (.t 8)
  (.exit 1)
  .skip))
  (.seq (.seq (.ops [⟨some 11, none, .bin .eql (.t 7) (.c (.int .u8 17))⟩, oM 10 11])
  (.cond (.t 10)
  (.exit 2)
  .skip))
  (.seq (.ops [⟨some 13, none, .bin .eql (.t 7) (.c (.int .u8 1))⟩, oM 12 13])
  (.cond (.t 12)
  (.exit 3)
  .skip))))
  (.exit 0))))
  (.seq (.seq (.ops [⟨some 14, none, .load true 8 (.t 1)⟩, oM 15 4, ⟨some 16, none, .callV true (.t 15) [(.c (.int .i64 0))]⟩, oM 17 4, ⟨some 18, none, .callV true (.t 17) [(.c (.int .i64 2))]⟩, ⟨some 19, none, .callF true 81 [(.t 14), (.t 16), (.t 18)]⟩, oS 7 2 19, ⟨some 3, none, .mov (.c .nili)⟩])
  .ret)
  (.exit 0))))
  (.seq (.seq (.ops [⟨some 20, none, .load true 8 (.t 1)⟩, oF 21 7 1, oL 22 21, ⟨some 23, none, .iaddr 1 (.t 22) (.c (.int .i64 0))⟩, oL 24 23, oM 25 4, ⟨some 26, none, .callV true (.t 25) [(.c (.int .i64 4))]⟩, ⟨some 27, none, .callF true 82 [(.t 20), (.t 24), (.t 26)]⟩, oE 28 27 0, oE 29 27 1, oS 7 2 28, oM 3 29])
  .ret)
  (.exit 0)))))
  (.seq (.ops [⟨some 30, none, .build z_4 []⟩, ⟨some 31, none, .callF true 84 []⟩, oS 7 2 30, oM 3 31])
  .ret))))⟩
/- vizard/turn.inner -/
def I62 : Fn_ := ⟨5, 109, [(10, some (true, 8)), (11, none)],
  (.seq (.ops [⟨some 5, none, .box true 26 (.t 0)⟩, ⟨some 6, none, .boxR true 2 67 (.t 1)⟩, ⟨some 10, none, .alloc true z_0 26⟩, ⟨some 11, none, .mov (.c .nili)⟩])
  (.seq (.ops [⟨some 22, none, .load true 8 (.t 5)⟩, ⟨some 23, none, .callF true 60 [(.t 22)]⟩, oM 21 23, oE 24 21 0, oE 25 21 1, oE 26 21 2, ⟨some 12, none, .alloc true z_2 48⟩, ⟨some 13, none, .alloc true z_0 26⟩, oS 7 12 24, oS 8 13 25, oM 14 26])
  (.seq (.seq (.ops [oM 27 14, ⟨some 28, none, .eqNl true true (.t 27)⟩])
  (.cond (.t 28)
  (.seq (.ops [⟨some 29, none, .build z_0 []⟩, oM 30 14, oS 8 10 29, oM 11 30])
  .ret)
  .skip))
  (.seq (.ops [⟨some 32, none, .load true 8 (.t 13)⟩, ⟨some 33, none, .callF true 61 [(.t 32)]⟩, oM 31 33, oE 34 31 0, oE 35 31 1, ⟨some 15, none, .alloc true z_4 69⟩, oS 7 15 34, oM 14 35])
  (.seq (.seq (.ops [oM 36 14, ⟨some 37, none, .eqNl true true (.t 36)⟩])
  (.cond (.t 37)
  (.seq (.ops [⟨some 38, none, .build z_0 []⟩, oM 39 14, oS 8 10 38, oM 11 39])
  .ret)
  .skip))
  (.seq (.ops [oF 40 6 12, oL 41 40, ⟨some 42, none, .build z_12 [(0, 1, (.t 41))]⟩, ⟨some 16, none, .alloc true z_12 157⟩, oS 1 16 42])
  (.seq (.ops [⟨some 43, none, .load true 2 (.t 6)⟩, ⟨some 44, none, .callF true 94 [(.t 43)]⟩, oF 45 0 15, oL 46 45, ⟨some 47, none, .callF true 95 [(.t 16), (.t 46)]⟩, oM 17 44, oM 18 47])
  (.seq (.ops [oM 48 2, oM 49 17, ⟨some 50, none, .sliceR 1 (.t 49) none (some (.c (.int .i64 4)))⟩, ⟨some 51, none, .buildSl 1 3 [(.c (.int .i64 10))]⟩, oM 52 18, ⟨some 53, none, .appF 1 8 3 (.t 51) (.t 52)⟩, ⟨some 54, none, .callM 96 [(.t 16), (.t 48), (.t 50), (.t 53)]⟩])
  (.seq (.block 0 (some [3, 4, 5, 10, 12, 15, 16, 17, 18]) (.seq (.ops [oF 56 0 15, oL 57 56, ⟨some 58, none, .bin .neq (.t 57) (.c (.int .u8 1))⟩, oM 55 58])
  (.cond (.t 55)
  (.ops [oM 59 3, oM 60 17, ⟨some 61, none, .slice 1 (.t 60) (some (.c (.int .i64 4))) none⟩, oM 62 18, ⟨some 63, none, .callM 96 [(.t 16), (.t 59), (.t 61), (.t 62)]⟩])
  (.seq (.ops [oF 65 6 15, oL 66 65, oM 67 4, ⟨some 68, none, .bin .eql (.t 66) (.t 67)⟩, oM 64 68])
  (.cond (.t 64)
  (.ops [oM 69 17, ⟨some 70, none, .slice 1 (.t 69) (some (.c (.int .i64 4))) none⟩, ⟨some 71, none, .buildR 1 3 [(.c (.int .i64 22))]⟩, ⟨some 72, none, .callM 96 [(.t 16), (.c (.int .i64 24)), (.t 70), (.t 71)]⟩])
  .skip)))))
  (.seq (.seq (.ops [oF 73 0 15, oL 74 73, ⟨some 75, none, .bin .eql (.t 74) (.c (.int .u8 17))⟩, oM 76 75, gM 77 76 true 18, ⟨some 78, (some (76, true)), .len (.t 77)⟩, ⟨some 79, (some (76, true)), .bin .gtr (.t 78) (.c (.int .i64 0))⟩, oN 80 76 79])
  (.cond (.t 80)
  (.seq (.ops [oF 82 0 16, oL 83 82, oM 84 18, ⟨some 85, none, .iaddr 1 (.t 84) (.c (.int .i64 0))⟩, oL 86 85, ⟨some 87, none, .callF true 93 [(.t 83), (.t 86), (.c (.int .i64 2))]⟩, oM 81 87, oE 88 81 0, oE 89 81 1, oM 19 88, oM 20 89])
  (.seq (.ops [oM 90 19, ⟨some 91, none, .bin .eql (.t 90) (.c (.int .u64 0))⟩])
  (.cond (.t 91)
  (.ops [oF 92 0 16, oL 93 92, oM 94 18, ⟨some 95, none, .iaddr 1 (.t 94) (.c (.int .i64 0))⟩, oL 96 95, ⟨some 97, none, .callF true 97 [(.t 93), (.t 96), (.c (.int .u16 65535))]⟩, oF 98 0 16, oS 1 98 97])
  .skip)))
  .skip))
  (.seq (.ops [oF 99 0 16, oL 100 99, oF 101 6 12, oS 1 101 100])
  (.seq (.ops [⟨some 103, none, .load true 7 (.t 12)⟩, ⟨some 104, none, .callF true 19 [(.t 103)]⟩, oM 102 104, oE 105 102 0, oE 106 102 1, oF 107 7 5, oS 1 107 105])
  (.seq (.ops [⟨some 108, none, .load true 8 (.t 5)⟩, oS 8 10 108, ⟨some 11, none, .mov (.c .nili)⟩])
  .ret)))))))))))))⟩
/- (vizard/inet.Packet).Head -/
def I64 : Fn_ := ⟨1, 64, [(2, none)],
  (.seq (.ops [⟨some 1, none, .boxR true 8 26 (.t 0)⟩, ⟨some 2, none, .mov (.c (.rs false 1 []))⟩])
  (.seq (.ops [oF 12 7 1, oL 13 12, ⟨some 14, none, .len (.t 13)⟩, ⟨some 15, none, .bin .add (.c (.int .i64 20)) (.t 14)⟩, oM 3 15])
  (.seq (.seq (.ops [oM 16 3, ⟨some 17, none, .bin .gtr (.t 16) (.c (.int .i64 65535))⟩])
  (.cond (.t 17)
  (.seq (.ops [⟨some 2, none, .mov (.c (.rs false 1 []))⟩])
  .ret)
  .skip))
  (.seq (.ops [⟨some 4, none, .mov (.c (.int .u64 0))⟩])
  (.seq (.seq (.ops [oF 18 2 1, oL 19 18])
  (.cond (.t 19)
  (.ops [⟨some 4, none, .mov (.c (.int .u64 16384))⟩])
  .skip))
  (.seq (.ops [oM 21 3, ⟨some 22, none, .conv .u64 (.t 21)⟩, oF 23 1 1, oL 24 23, ⟨some 25, none, .conv .u64 (.t 24)⟩, oM 26 4, ⟨some 27, none, .buildR 1 97 [(.t 22), (.t 25), (.t 26)]⟩, ⟨some 28, none, .callF true 51 [(.c (.int .i64 2)), (.t 27)]⟩, oM 20 28, oE 29 20 0, oE 30 20 1, oM 5 29, oM 6 30])
  (.seq (.ops [oF 32 5 1, oL 33 32, ⟨some 34, none, .conv .u64 (.t 33)⟩, oF 35 6 1, oL 36 35, ⟨some 37, none, .conv .u64 (.t 36)⟩, ⟨some 38, none, .buildR 1 97 [(.t 34), (.t 37)]⟩, ⟨some 39, none, .callF true 51 [(.c (.int .i64 4)), (.t 38)]⟩, oM 31 39, oE 40 31 0, oE 41 31 1, oM 7 40, oM 8 41])
  (.seq (.ops [oF 42 0 1, oL 43 42, ⟨some 44, none, .buildR 1 5 [(.c (.int .u8 69)), (.t 43)]⟩, oM 45 5, oF 46 3 1, oL 47 46, oF 48 4 1, oL 49 48, ⟨some 50, none, .buildR 1 5 [(.t 47), (.t 49), (.c (.int .u8 0)), (.c (.int .u8 0))]⟩, oM 51 7, ⟨some 52, none, .buildR 1 24 [(.t 44), (.t 45), (.t 50), (.t 51)]⟩, ⟨some 53, none, .callF true 45 [(.t 52)]⟩, oM 9 53])
  (.seq (.ops [oM 55 9, oM 56 9, ⟨some 57, none, .buildR 1 24 [(.t 56)]⟩, ⟨some 58, none, .callF true 47 [(.t 57)]⟩, ⟨some 59, none, .conv .u64 (.t 58)⟩, ⟨some 60, none, .callF false 46 [(.t 55), (.c (.int .i64 10)), (.c (.int .i64 2)), (.t 59)]⟩, oM 54 60, oE 61 54 0, oE 62 54 1, oM 10 61, oM 11 62])
  (.seq (.ops [oM 63 10, oM 2 63])
  .ret))))))))))⟩
/- vizard/vizardref02.New -/
def I65 : Fn_ := ⟨2, 17, [(4, some (true, 2))],
  (.seq (.ops [⟨some 4, none, .alloc true z_6 81⟩])
  (.seq (.seq (.ops [oM 5 1, ⟨some 6, none, .bin .eql (.t 5) (.c (.int .i64 0))⟩, oM 7 6, gM 8 7 false 0, ⟨some 9, (some (7, false)), .callF false 101 [(.t 8)]⟩, ⟨some 10, (some (7, false)), .bin .eql (.t 9) (.c (.str ⟨#[]⟩))⟩, oT 11 7 10])
  (.cond (.t 11)
  (.seq (.ops [⟨some 12, none, .build z_6 []⟩, oS 2 4 12])
  .ret)
  .skip))
  (.seq (.ops [oM 13 0, ⟨some 14, none, .buildR 1 3 [(.t 13)]⟩, oM 15 1, ⟨some 16, none, .build z_6 [(0, 1, (.t 14)), (1, 1, (.t 15))]⟩, oS 2 4 16])
  .ret)))⟩
/- vizard/vizardref03.Total -/
def B66_0 : C := (.seq (.seq (.ops [oM 6 4, oM 7 0, ⟨some 8, none, .len (.t 7)⟩, ⟨some 9, none, .bin .lss (.t 6) (.t 8)⟩])
  (.cond (.t 9)
  .skip
  (.exit 0)))
  (.seq (.block 1 (some [0, 3, 4]) (.seq (.ops [oM 12 0, oM 13 4, ⟨some 14, none, .iaddr 1 (.t 12) (.t 13)⟩, oL 15 14, ⟨some 16, none, .conv .i64 (.t 15)⟩, ⟨some 17, none, .bin .mul (.t 16) (.c (.int .i64 256))⟩, oM 5 17])
  (.seq (.seq (.ops [oM 18 4, ⟨some 19, none, .bin .add (.t 18) (.c (.int .i64 1))⟩, oM 20 0, ⟨some 21, none, .len (.t 20)⟩, ⟨some 22, none, .bin .lss (.t 19) (.t 21)⟩])
  (.cond (.t 22)
  (.ops [oM 23 5, oM 24 0, oM 25 4, ⟨some 26, none, .bin .add (.t 25) (.c (.int .i64 1))⟩, ⟨some 27, none, .iaddr 1 (.t 24) (.t 26)⟩, oL 28 27, ⟨some 29, none, .conv .i64 (.t 28)⟩, ⟨some 30, none, .bin .add (.t 23) (.t 29)⟩, oM 5 30])
  .skip))
  (.ops [oM 31 3, oM 32 5, ⟨some 33, none, .conv .u16 (.t 32)⟩, ⟨some 34, none, .callF false 102 [(.t 31), (.t 33)]⟩, oM 3 34]))))
  (.ops [oM 10 4, ⟨some 11, none, .bin .add (.t 10) (.c (.int .i64 2))⟩, oM 4 11])))
def L66_0 : C := .loop (some [0, 3, 4]) B66_0
theorem L66_0_eq {E : Env} (x : St) : ev E L66_0 x = andThen (ev E B66_0 (restr (some [0, 3, 4]) x)) (ev E L66_0) := ev_loop _ _ x
theorem L66_0_lp {E : Env} (s : Slots) (h : Heap) : ev E L66_0 ⟨s, h⟩ = lp E L66_0 (pickS s [0, 3, 4]) h := lp_of L66_0_eq s h
theorem L66_0_go {E : Env} (s : Slots) (h : Heap) : lp E L66_0 s h = andThen (ev E B66_0 ⟨pickS s [0, 3, 4], h⟩) (ev E L66_0) := lp_go L66_0_eq s h
noncomputable def T66_0 (E : Env) (o : Out) : Option (AV × Heap) := outR [(2, none)] (andThen (endBlock 0 (some [0, 3, 4]) (o)) (ev E (.seq (.ops [oM 35 3, oM 2 35])
  .ret)))
def I66 : Fn_ := ⟨1, 36, [(2, none)],
  (.seq (.ops [⟨some 2, none, .mov (.c (.int .u16 0))⟩])
  (.seq (.ops [⟨some 3, none, .mov (.c (.int .u16 0))⟩])
  (.seq (.seq (.ops [⟨some 4, none, .mov (.c (.int .i64 0))⟩])
  (.block 0 (some [0, 3, 4]) L66_0))
  (.seq (.ops [oM 35 3, oM 2 35])
  .ret))))⟩
/- vizard/vizardref10.Bytes -/
def I67 : Fn_ := ⟨1, 37, [(2, none), (3, some (true, 2))],
  (.seq (.ops [⟨some 1, none, .boxR true 7 77 (.t 0)⟩, ⟨some 2, none, .mov (.c (.rs false 1 []))⟩, ⟨some 3, none, .alloc true z_6 81⟩])
  (.seq (.seq (.ops [oF 6 6 1, oL 7 6, ⟨some 8, none, .len (.t 7)⟩, ⟨some 9, none, .bin .gtr (.t 8) (.c (.int .i64 1472))⟩])
  (.cond (.t 9)
  (.seq (.ops [⟨some 10, none, .callF true 65 [(.c (.int .i64 1)), (.c (.int .i64 11))]⟩, ⟨some 2, none, .mov (.c (.rs false 1 []))⟩, oS 2 3 10])
  .ret)
  .skip))
  (.seq (.ops [oF 11 0 1, oL 12 11, oF 13 1 1, oL 14 13, ⟨some 15, none, .buildSl 1 5 [(.t 12), (.t 14), (.c (.int .u8 0)), (.c (.int .u8 0))]⟩, ⟨some 16, none, .faddr true 2 4 (.t 1)⟩, ⟨some 17, none, .sliceAR 4 1 (.t 16) none none⟩, ⟨some 18, none, .append 1 1 5 (.t 15) (.t 17)⟩, oM 4 18])
  (.seq (.ops [oM 19 4, oF 20 6 1, oL 21 20, ⟨some 22, none, .append 1 1 5 (.t 19) (.t 21)⟩, oM 4 22])
  (.seq (.ops [oM 23 4, ⟨some 24, none, .callF true 103 [(.t 23)]⟩, oM 5 24])
  (.seq (.ops [oM 25 4, oM 26 5, ⟨some 27, none, .bin .quo (.t 26) (.c (.int .u16 256))⟩, ⟨some 28, none, .conv .u8 (.t 27)⟩, ⟨some 29, none, .iaddr 1 (.t 25) (.c (.int .i64 2))⟩, oS 1 29 28])
  (.seq (.ops [oM 30 4, oM 31 5, ⟨some 32, none, .bin .rem (.t 31) (.c (.int .u16 256))⟩, ⟨some 33, none, .conv .u8 (.t 32)⟩, ⟨some 34, none, .iaddr 1 (.t 30) (.c (.int .i64 3))⟩, oS 1 34 33])
  (.seq (.ops [oM 35 4, ⟨some 36, none, .build z_6 []⟩, oM 2 35, oS 2 3 36])
  .ret))))))))⟩
/- vizard/vizardref07.Head -/
def I68 : Fn_ := ⟨1, 58, [(2, none)],
  (.seq (.ops [⟨some 1, none, .boxR true 8 32 (.t 0)⟩, ⟨some 2, none, .mov (.c (.rs false 1 []))⟩])
  (.seq (.seq (.ops [oF 7 7 1, oL 8 7, ⟨some 9, none, .len (.t 8)⟩, ⟨some 10, none, .bin .gtr (.t 9) (.c (.int .i64 65515))⟩])
  (.cond (.t 10)
  (.seq (.ops [⟨some 2, none, .mov (.c (.rs false 1 []))⟩])
  .ret)
  .skip))
  (.seq (.ops [oF 11 0 1, oL 12 11, ⟨some 13, none, .buildSl 1 5 [(.c (.int .u8 69)), (.t 12)]⟩, oF 14 7 1, ⟨some 15, none, .loadR false 1 (.t 14)⟩, ⟨some 16, none, .lenR (.t 15)⟩, ⟨some 17, none, .bin .add (.c (.int .i64 20)) (.t 16)⟩, ⟨some 18, none, .callP 104 [(.t 17)]⟩, ⟨some 19, none, .append 1 1 5 (.t 13) (.t 18)⟩, oM 3 19])
  (.seq (.ops [oM 20 3, oF 21 1 1, oL 22 21, ⟨some 23, none, .conv .i64 (.t 22)⟩, ⟨some 24, none, .callF false 104 [(.t 23)]⟩, ⟨some 25, none, .append 1 1 5 (.t 20) (.t 24)⟩, oM 3 25])
  (.seq (.ops [⟨some 4, none, .mov (.c (.int .i64 0))⟩])
  (.seq (.seq (.ops [oF 26 2 1, oL 27 26])
  (.cond (.t 27)
  (.ops [⟨some 4, none, .mov (.c (.int .i64 16384))⟩])
  .skip))
  (.seq (.ops [oM 28 3, oM 29 4, ⟨some 30, none, .callF true 104 [(.t 29)]⟩, ⟨some 31, none, .append 1 1 5 (.t 28) (.t 30)⟩, oF 32 3 1, ⟨some 33, none, .loadC false 1 (.t 32)⟩, oF 34 4 1, ⟨some 35, none, .loadC false 1 (.t 34)⟩, ⟨some 36, none, .buildR 1 5 [(.t 33), (.t 35)]⟩, ⟨some 37, none, .append 1 1 5 (.t 31) (.t 36)⟩, oM 3 37])
  (.seq (.ops [oF 38 5 1, oL 39 38, ⟨some 40, none, .callF false 105 [(.t 39)]⟩, oF 41 6 1, ⟨some 42, none, .loadR false 1 (.t 41)⟩, ⟨some 43, none, .callF true 105 [(.t 42)]⟩, ⟨some 44, none, .append 1 1 5 (.t 40) (.t 43)⟩, oM 5 44])
  (.seq (.ops [⟨some 45, none, .buildSl 1 5 []⟩, oM 46 3, ⟨some 47, none, .append 1 1 5 (.t 45) (.t 46)⟩, oM 48 5, ⟨some 49, none, .append 1 1 5 (.t 47) (.t 48)⟩, ⟨some 50, none, .callF false 103 [(.t 49)]⟩, oM 6 50])
  (.seq (.ops [oM 51 3, oM 52 6, ⟨some 53, none, .conv .i64 (.t 52)⟩, ⟨some 54, none, .callF false 104 [(.t 53)]⟩, ⟨some 55, none, .append 1 1 5 (.t 51) (.t 54)⟩, oM 56 5, ⟨some 57, none, .append 1 1 5 (.t 55) (.t 56)⟩, oM 2 57])
  .ret))))))))))⟩
/- vizard/vizardref02.Of -/
def I69 : Fn_ := ⟨1, 22, [(2, none)],
  (.seq (.ops [⟨some 2, none, .mov (.c (.int .i64 0))⟩])
  (.seq (.seq (.ops [oM 3 0])
  (.block 0 (some [3]) (.seq (.ops [⟨some 5, none, .bin .eql (.t 3) (.c (.int .i64 0))⟩, oM 4 5])
  (.cond (.t 4)
  (.seq (.ops [⟨some 2, none, .mov (.c (.int .i64 0))⟩])
  .ret)
  (.seq (.ops [⟨some 7, none, .bin .eql (.t 3) (.c (.int .i64 13))⟩, oM 6 7])
  (.cond (.t 6)
  (.seq (.ops [⟨some 2, none, .mov (.c (.int .i64 2))⟩])
  .ret)
  (.seq (.ops [⟨some 9, none, .bin .eql (.t 3) (.c (.int .i64 15))⟩, oM 8 9])
  (.cond (.t 8)
  (.seq (.ops [⟨some 2, none, .mov (.c (.int .i64 3))⟩])
  .ret)
  (.seq (.ops [⟨some 11, none, .bin .eql (.t 3) (.c (.int .i64 21))⟩, oM 10 11])
  (.cond (.t 10)
  (.seq (.ops [⟨some 2, none, .mov (.c (.int .i64 4))⟩])
  .ret)
  (.seq (.ops [⟨some 13, none, .bin .eql (.t 3) (.c (.int .i64 20))⟩, oM 12 13])
  (.cond (.t 12)
  (.seq (.ops [⟨some 2, none, .mov (.c (.int .i64 5))⟩])
  .ret)
  (.seq (.ops [⟨some 15, none, .bin .eql (.t 3) (.c (.int .i64 18))⟩, oM 14 15])
  (.cond (.t 14)
  (.seq (.ops [⟨some 2, none, .mov (.c (.int .i64 11))⟩])
  .ret)
  (.seq (.ops [⟨some 17, none, .bin .eql (.t 3) (.c (.int .i64 19))⟩, oM 16 17])
  (.cond (.t 16)
  (.seq (.ops [⟨some 2, none, .mov (.c (.int .i64 9))⟩])
  .ret)
  (.seq (.ops [⟨some 19, none, .bin .eql (.t 3) (.c (.int .i64 14))⟩, oM 18 19])
  (.cond (.t 18)
  (.seq (.ops [⟨some 2, none, .mov (.c (.int .i64 16))⟩])
  .ret)
  (.seq (.ops [⟨some 21, none, .bin .eql (.t 3) (.c (.int .i64 22))⟩, oM 20 21])
  (.cond (.t 20)
  (.seq (.ops [⟨some 2, none, .mov (.c (.int .i64 19))⟩])
  .ret)
  .skip))))))))))))))))))))
  (.seq (.ops [⟨some 2, none, .mov (.c (.int .i64 1))⟩])
  .ret)))⟩
/- vizard/vizardref08.Num -/
def I70 : Fn_ := ⟨1, 13, [(2, none)],
  (.seq (.ops [⟨some 2, none, .mov (.c (.int .i64 0))⟩])
  (.seq (.ops [oM 3 0, ⟨some 4, none, .iaddr 1 (.t 3) (.c (.int .i64 0))⟩, oL 5 4, ⟨some 6, none, .conv .i64 (.t 5)⟩, ⟨some 7, none, .bin .mul (.t 6) (.c (.int .i64 256))⟩, oM 8 0, ⟨some 9, none, .iaddr 1 (.t 8) (.c (.int .i64 1))⟩, oL 10 9, ⟨some 11, none, .conv .i64 (.t 10)⟩, ⟨some 12, none, .bin .add (.t 7) (.t 11)⟩, oM 2 12])
  .ret))⟩
/- vizard/vizardref08.Ends -/
def I71 : Fn_ := ⟨4, 22, [(8, none)],
  (.seq (.ops [⟨some 8, none, .mov (.c (.rs false 1 []))⟩])
  (.seq (.ops [oM 10 0, ⟨some 11, none, .callF false 105 [(.t 10)]⟩, oM 12 1, ⟨some 13, none, .callF false 105 [(.t 12)]⟩, ⟨some 14, none, .append 1 1 5 (.t 11) (.t 13)⟩, oM 9 14])
  (.seq (.ops [oM 15 9, oM 16 2, ⟨some 17, none, .callF false 104 [(.t 16)]⟩, ⟨some 18, none, .append 1 1 5 (.t 15) (.t 17)⟩, oM 19 3, ⟨some 20, none, .callF false 104 [(.t 19)]⟩, ⟨some 21, none, .append 1 1 5 (.t 18) (.t 20)⟩, oM 8 21])
  .ret)))⟩
/- vizard/why.known -/
def I72 : Fn_ := ⟨1, 9, [(2, none)],
  (.seq (.ops [⟨some 2, none, .mov (.c (.bool false))⟩])
  (.seq (.ops [oM 3 0, ⟨some 4, none, .bin .geq (.t 3) (.c (.int .i64 1))⟩, oM 5 4, gM 6 5 true 0, ⟨some 7, (some (5, true)), .bin .lss (.t 6) (.c (.int .i64 20))⟩, oN 8 5 7, oM 2 8])
  .ret))⟩
/- slices.Grow[[]byte,byte] -/
def I73 : Fn_ := ⟨2, 27, [(4, none)],
  (.seq (.ops [⟨some 4, none, .mov (.c (.rs false 1 []))⟩])
  (.seq (.seq (.ops [oM 5 1, ⟨some 6, none, .bin .lss (.t 5) (.c (.int .i64 0))⟩])
  (.cond (.t 6)
  (.ops [⟨some 7, none, .mkIf 9 (.c (.str ⟨#[99, 97, 110, 110, 111, 116, 32, 98, 101, 32, 110, 101, 103, 97, 116, 105, 118, 101]⟩))⟩, ⟨none, none, .fail⟩])
  .skip))
  (.seq (.seq (.ops [oM 8 1, oM 9 0, ⟨some 10, none, .capNil (.t 9)⟩, oM 11 0, ⟨some 12, none, .len (.t 11)⟩, ⟨some 13, none, .bin .sub (.t 10) (.t 12)⟩, ⟨some 14, none, .bin .sub (.t 8) (.t 13)⟩, oM 1 14])
  (.seq (.ops [oM 15 1, ⟨some 16, none, .bin .gtr (.t 15) (.c (.int .i64 0))⟩])
  (.cond (.t 16)
  (.ops [oM 17 0, oM 18 0, ⟨some 19, none, .capNil (.t 18)⟩, ⟨some 20, none, .trunc 1 (.t 17) (.t 19)⟩, oM 21 1, ⟨some 22, none, .appMk 1 1 5 [(.int .u8 0)] (.t 20) (.t 21)⟩, oM 23 0, ⟨some 24, none, .len (.t 23)⟩, ⟨some 25, none, .trunc 1 (.t 22) (.t 24)⟩, oM 0 25])
  .skip)))
  (.seq (.ops [oM 26 0, oM 4 26])
  .ret))))⟩
/- vizard/word.number -/
def B74_0 : C := (.seq (.seq (.ops [oM 25 7, ⟨some 26, none, .bin .geq (.t 25) (.c (.int .i64 0))⟩])
  (.cond (.t 26)
  .skip
  (.exit 0)))
  (.seq (.block 1 (some [0, 6, 7]) (.ops [oM 29 6, oM 30 0, oM 31 7, ⟨some 32, none, .bin .shr (.t 30) (.t 31)⟩, ⟨some 33, none, .conv .u8 (.t 32)⟩, ⟨some 34, none, .buildR 1 5 [(.t 33)]⟩, ⟨some 35, none, .append 1 1 5 (.t 29) (.t 34)⟩, oM 6 35]))
  (.ops [oM 27 7, ⟨some 28, none, .bin .sub (.t 27) (.c (.int .i64 8))⟩, oM 7 28])))
def L74_0 : C := .loop (some [0, 6, 7]) B74_0
theorem L74_0_eq {E : Env} (x : St) : ev E L74_0 x = andThen (ev E B74_0 (restr (some [0, 6, 7]) x)) (ev E L74_0) := ev_loop _ _ x
theorem L74_0_lp {E : Env} (s : Slots) (h : Heap) : ev E L74_0 ⟨s, h⟩ = lp E L74_0 (pickS s [0, 6, 7]) h := lp_of L74_0_eq s h
theorem L74_0_go {E : Env} (s : Slots) (h : Heap) : lp E L74_0 s h = andThen (ev E B74_0 ⟨pickS s [0, 6, 7], h⟩) (ev E L74_0) := lp_go L74_0_eq s h
noncomputable def T74_0 (E : Env) (o : Out) : Option (AV × Heap) := outR [(4, none), (5, none)] (andThen (endBlock 0 (some [0, 6, 7]) (o)) (ev E (.seq (.ops [oM 36 6, oM 4 36, ⟨some 5, none, .mov (.c (.int .i64 0))⟩])
  .ret)))
def I74 : Fn_ := ⟨2, 37, [(4, none), (5, none)],
  (.seq (.ops [⟨some 4, none, .mov (.c (.rs false 1 []))⟩, ⟨some 5, none, .mov (.c (.int .i64 0))⟩])
  (.seq (.seq (.ops [oM 8 1, ⟨some 9, none, .callF false 76 [(.t 8)]⟩, ⟨some 10, none, .un .not (.t 9)⟩, oM 11 10, gM 12 11 false 1, ⟨some 13, (some (11, false)), .bin .lss (.t 12) (.c (.int .i64 8))⟩, gM 14 11 false 13, gM 15 14 true 0, gM 16 14 true 1, ⟨some 17, (some (14, true)), .bin .mul (.c (.int .i64 8)) (.t 16)⟩, ⟨some 18, (some (14, true)), .bin .shr (.t 15) (.t 17)⟩, ⟨some 19, (some (14, true)), .bin .neq (.t 18) (.c (.int .u64 0))⟩, ⟨some 20, (some (11, false)), .pick (.t 14) (.t 19) (.c (.bool false))⟩, oT 21 11 20])
  (.cond (.t 21)
  (.seq (.ops [⟨some 4, none, .mov (.c (.rs false 1 []))⟩, ⟨some 5, none, .mov (.c (.int .i64 11))⟩])
  .ret)
  .skip))
  (.seq (.ops [⟨some 6, none, .nilrow 1 5⟩])
  (.seq (.seq (.ops [oM 22 1, ⟨some 23, none, .bin .sub (.t 22) (.c (.int .i64 1))⟩, ⟨some 24, none, .bin .mul (.c (.int .i64 8)) (.t 23)⟩, oM 7 24])
  (.block 0 (some [0, 6, 7]) L74_0))
  (.seq (.ops [oM 36 6, oM 4 36, ⟨some 5, none, .mov (.c (.int .i64 0))⟩])
  .ret)))))⟩
/- vizard/word.Patch -/
def I75 : Fn_ := ⟨3, 27, [(6, none), (7, none)],
  (.seq (.ops [⟨some 6, none, .mov (.c (.rs false 1 []))⟩, ⟨some 7, none, .mov (.c (.int .i64 0))⟩])
  (.seq (.seq (.ops [oM 10 0, ⟨some 11, none, .len (.t 10)⟩, oM 12 1, oM 13 2, ⟨some 14, none, .len (.t 13)⟩, ⟨some 15, none, .callF false 106 [(.t 11), (.t 12), (.t 14)]⟩, oM 8 15])
  (.seq (.ops [oM 16 8, ⟨some 17, none, .bin .neq (.t 16) (.c (.int .i64 0))⟩])
  (.cond (.t 17)
  (.seq (.ops [oM 18 8, ⟨some 6, none, .mov (.c (.rs false 1 []))⟩, oM 7 18])
  .ret)
  .skip)))
  (.seq (.ops [oM 19 0, ⟨some 20, none, .callF false 48 [(.t 19)]⟩, oM 9 20])
  (.seq (.ops [oM 21 9, oM 22 1, ⟨some 23, none, .slice 1 (.t 21) (some (.t 22)) none⟩, oM 24 2, ⟨some 25, none, .copy 1 (.t 23) (.t 24)⟩])
  (.seq (.ops [oM 26 9, oM 6 26, ⟨some 7, none, .mov (.c (.int .i64 0))⟩])
  .ret)))))⟩
/- vizard/word.sized -/
def I76 : Fn_ := ⟨1, 9, [(2, none)],
  (.seq (.ops [⟨some 2, none, .mov (.c (.bool false))⟩])
  (.seq (.ops [oM 3 0, ⟨some 4, none, .bin .geq (.t 3) (.c (.int .i64 1))⟩, oM 5 4, gM 6 5 true 0, ⟨some 7, (some (5, true)), .bin .leq (.t 6) (.c (.int .i64 8))⟩, oN 8 5 7, oM 2 8])
  .ret))⟩
/- vizard/inet.measure -/
def I77 : Fn_ := ⟨2, 53, [(4, some (true, 2)), (5, none)],
  (.seq (.ops [⟨some 4, none, .alloc true z_10 133⟩, ⟨some 5, none, .mov (.c .nili)⟩])
  (.seq (.seq (.ops [oM 7 0, ⟨some 8, none, .len (.t 7)⟩, ⟨some 9, none, .bin .lss (.t 8) (.c (.int .i64 20))⟩])
  (.cond (.t 9)
  (.seq (.ops [⟨some 10, none, .build z_10 []⟩, ⟨some 11, none, .callF true 44 [(.c (.int .i64 1)), (.c (.int .i64 12))]⟩, oS 2 4 10, oM 5 11])
  .ret)
  .skip))
  (.seq (.ops [oM 12 0, ⟨some 13, none, .iaddr 1 (.t 12) (.c (.int .i64 0))⟩, oL 14 13, ⟨some 15, none, .bin .and (.t 14) (.c (.int .u8 15))⟩, ⟨some 16, none, .conv .i64 (.t 15)⟩, ⟨some 17, none, .bin .mul (.t 16) (.c (.int .i64 4))⟩, oM 18 0, ⟨some 19, none, .callF true 107 [(.t 18), (.c (.int .i64 2))]⟩, ⟨some 20, none, .build z_10 [(0, 1, (.t 17)), (1, 1, (.t 19))]⟩, ⟨some 6, none, .alloc true z_10 133⟩, oS 2 6 20])
  (.seq (.block 0 (some [0, 1, 4, 6]) (.seq (.ops [oM 22 0, ⟨some 23, none, .iaddr 1 (.t 22) (.c (.int .i64 0))⟩, oL 24 23, ⟨some 25, none, .bin .shr (.t 24) (.c (.int .u64 4))⟩, ⟨some 26, none, .bin .neq (.t 25) (.c (.int .u8 4))⟩, oM 21 26])
  (.cond (.t 21)
  (.seq (.ops [⟨some 27, none, .load true 2 (.t 6)⟩, ⟨some 28, none, .callF true 44 [(.c (.int .i64 3)), (.c (.int .i64 15))]⟩, oS 2 4 27, oM 5 28])
  .ret)
  (.seq (.ops [oF 30 0 6, oL 31 30, ⟨some 32, none, .bin .lss (.t 31) (.c (.int .i64 20))⟩, oM 29 32])
  (.cond (.t 29)
  (.seq (.ops [⟨some 33, none, .load true 2 (.t 6)⟩, ⟨some 34, none, .callF true 44 [(.c (.int .i64 1)), (.c (.int .i64 10))]⟩, oS 2 4 33, oM 5 34])
  .ret)
  (.seq (.ops [oM 36 0, ⟨some 37, none, .len (.t 36)⟩, oM 38 1, ⟨some 39, none, .load true 2 (.t 6)⟩, ⟨some 40, none, .callV true (.t 38) [(.t 39)]⟩, ⟨some 41, none, .bin .lss (.t 37) (.t 40)⟩, oM 35 41])
  (.cond (.t 35)
  (.seq (.ops [⟨some 42, none, .load true 2 (.t 6)⟩, ⟨some 43, none, .callF true 44 [(.c (.int .i64 1)), (.c (.int .i64 12))]⟩, oS 2 4 42, oM 5 43])
  .ret)
  (.seq (.ops [oF 45 1 6, oL 46 45, oF 47 0 6, oL 48 47, ⟨some 49, none, .bin .lss (.t 46) (.t 48)⟩, oM 44 49])
  (.cond (.t 44)
  (.seq (.ops [⟨some 50, none, .load true 2 (.t 6)⟩, ⟨some 51, none, .callF true 44 [(.c (.int .i64 1)), (.c (.int .i64 10))]⟩, oS 2 4 50, oM 5 51])
  .ret)
  .skip)))))))))
  (.seq (.ops [⟨some 52, none, .load true 2 (.t 6)⟩, oS 2 4 52, ⟨some 5, none, .mov (.c .nili)⟩])
  .ret)))))⟩
/- vizard/inet.Peek$1 -/
def I78 : Fn_ := ⟨1, 5, [(2, none)],
  (.seq (.ops [⟨some 1, none, .box true 133 (.t 0)⟩, ⟨some 2, none, .mov (.c (.int .i64 0))⟩])
  (.seq (.ops [oF 3 0 1, oL 4 3, oM 2 4])
  .ret))⟩
/- vizard/inet.read -/
def I79 : Fn_ := ⟨2, 50, [(4, some (true, 8)), (5, none)],
  (.seq (.ops [⟨some 3, none, .box true 133 (.t 1)⟩, ⟨some 4, none, .alloc true z_0 26⟩, ⟨some 5, none, .mov (.c .nili)⟩])
  (.seq (.ops [oM 7 0, ⟨some 8, none, .callF true 107 [(.t 7), (.c (.int .i64 6))]⟩, oM 6 8])
  (.seq (.block 0 (some [0, 3, 4, 6]) (.seq (.ops [oF 10 0 3, oL 11 10, ⟨some 12, none, .bin .gtr (.t 11) (.c (.int .i64 20))⟩, oM 9 12])
  (.cond (.t 9)
  (.seq (.ops [⟨some 13, none, .build z_0 []⟩, ⟨some 14, none, .callF true 44 [(.c (.int .i64 4)), (.c (.int .i64 21))]⟩, oS 8 4 13, oM 5 14])
  .ret)
  (.seq (.ops [oM 16 6, ⟨some 17, none, .bin .andNot (.t 16) (.c (.int .i64 16384))⟩, ⟨some 18, none, .bin .neq (.t 17) (.c (.int .i64 0))⟩, oM 15 18])
  (.cond (.t 15)
  (.seq (.ops [⟨some 19, none, .build z_0 []⟩, ⟨some 20, none, .callF true 44 [(.c (.int .i64 5)), (.c (.int .i64 20))]⟩, oS 8 4 19, oM 5 20])
  .ret)
  .skip)))))
  (.seq (.ops [oM 21 0, ⟨some 22, none, .iaddr 1 (.t 21) (.c (.int .i64 1))⟩, oL 23 22, oM 24 0, ⟨some 25, none, .callF true 107 [(.t 24), (.c (.int .i64 4))]⟩, ⟨some 26, none, .conv .u16 (.t 25)⟩, oM 27 6, ⟨some 28, none, .bin .neq (.t 27) (.c (.int .i64 0))⟩, oM 29 0, ⟨some 30, none, .iaddr 1 (.t 29) (.c (.int .i64 8))⟩, oL 31 30, oM 32 0, ⟨some 33, none, .iaddr 1 (.t 32) (.c (.int .i64 9))⟩, oL 34 33, oM 35 0, ⟨some 36, none, .callF true 108 [(.t 35), (.c (.int .i64 12))]⟩, oM 37 0, ⟨some 38, none, .callF true 108 [(.t 37), (.c (.int .i64 16))]⟩, oM 39 0, oF 40 0 3, oL 41 40, oF 42 1 3, oL 43 42, oM 44 0, ⟨some 45, none, .len (.t 44)⟩, ⟨some 46, none, .mm false [(.t 43), (.t 45)]⟩, ⟨some 47, none, .slice 1 (.t 39) (some (.t 41)) (some (.t 46))⟩, ⟨some 48, none, .callF true 48 [(.t 47)]⟩, ⟨some 49, none, .build z_0 [(0, 1, (.t 23)), (1, 1, (.t 26)), (2, 1, (.t 28)), (3, 1, (.t 31)), (4, 1, (.t 34)), (5, 1, (.t 36)), (6, 1, (.t 38)), (7, 1, (.t 48))]⟩, oS 8 4 49, ⟨some 5, none, .mov (.c .nili)⟩])
  .ret))))⟩
/- vizard/tcp.Parse -/
def I80 : Fn_ := ⟨3, 47, [(6, some (true, 4)), (7, none)],
  (.seq (.ops [⟨some 6, none, .alloc true z_11 139⟩, ⟨some 7, none, .mov (.c .nili)⟩])
  (.seq (.seq (.ops [oM 13 0, ⟨some 14, none, .callF false 109 [(.t 13)]⟩, ⟨some 15, none, .callF false 44 [(.c (.int .i64 1)), (.t 14)]⟩, oM 8 15])
  (.seq (.ops [oM 16 8, ⟨some 17, none, .eqNl true true (.t 16)⟩])
  (.cond (.t 17)
  (.seq (.ops [⟨some 18, none, .build z_11 []⟩, oM 19 8, oS 4 6 18, oM 7 19])
  .ret)
  .skip)))
  (.seq (.seq (.ops [oM 20 0, oM 21 1, oM 22 2, ⟨some 23, none, .callF false 110 [(.t 20), (.t 21), (.t 22)]⟩, ⟨some 24, none, .un .not (.t 23)⟩])
  (.cond (.t 24)
  (.seq (.ops [⟨some 25, none, .build z_11 []⟩, ⟨some 26, none, .callF false 44 [(.c (.int .i64 2)), (.c (.int .i64 13))]⟩, oS 4 6 25, oM 7 26])
  .ret)
  .skip))
  (.seq (.ops [oM 28 0, ⟨some 29, none, .callF false 93 [(.t 28), (.c (.int .i64 0)), (.c (.int .i64 2))]⟩, oM 27 29, oE 30 27 0, oE 31 27 1, oM 9 30, oM 10 31])
  (.seq (.ops [oM 33 0, ⟨some 34, none, .callF false 93 [(.t 33), (.c (.int .i64 2)), (.c (.int .i64 2))]⟩, oM 32 34, oE 35 32 0, oE 36 32 1, oM 11 35, oM 12 36])
  (.seq (.ops [oM 37 9, ⟨some 38, none, .conv .u16 (.t 37)⟩, oM 39 11, ⟨some 40, none, .conv .u16 (.t 39)⟩, oM 41 0, ⟨some 42, none, .iaddrR 1 (.t 41) (.c (.int .i64 13))⟩, ⟨some 43, none, .loadR false 1 (.t 42)⟩, oM 44 0, ⟨some 45, none, .callF false 48 [(.t 44)]⟩, ⟨some 46, none, .build z_11 [(0, 1, (.t 38)), (1, 1, (.t 40)), (2, 1, (.t 43)), (3, 1, (.t 45))]⟩, oS 4 6 46, ⟨some 7, none, .mov (.c .nili)⟩])
  .ret))))))⟩
/- vizard/turn.between -/
def I81 : Fn_ := ⟨3, 18, [(6, some (true, 7))],
  (.seq (.ops [⟨some 3, none, .boxR true 8 26 (.t 0)⟩, ⟨some 6, none, .alloc true z_4 69⟩])
  (.seq (.ops [oF 7 4 3, oL 8 7, oF 9 5 3, oL 10 9, oM 11 1, ⟨some 12, none, .build z_7 [(0, 1, (.t 10)), (1, 1, (.t 11))]⟩, oF 13 6 3, oL 14 13, oM 15 2, ⟨some 16, none, .build z_7 [(0, 1, (.t 14)), (1, 1, (.t 15))]⟩, ⟨some 17, none, .build z_4 [(0, 1, (.t 8)), (1, 2, (.t 12)), (3, 2, (.t 16))]⟩, oS 7 6 17])
  .ret))⟩
/- vizard/turn.query -/
def I82 : Fn_ := ⟨3, 25, [(6, some (true, 7)), (7, none)],
  (.seq (.ops [⟨some 3, none, .boxR true 8 26 (.t 0)⟩, ⟨some 6, none, .alloc true z_4 69⟩, ⟨some 7, none, .mov (.c .nili)⟩])
  (.seq (.ops [⟨some 8, none, .alloc true z_4 69⟩])
  (.seq (.seq (.ops [oM 9 1])
  (.block 0 (some [1, 2, 3, 6, 8, 9]) (.seq (.ops [⟨some 13, none, .bin .eql (.t 9) (.c (.int .u8 8))⟩, oM 12 13])
  (.cond (.t 12)
  (.ops [⟨some 14, none, .load true 8 (.t 3)⟩, oM 15 2, ⟨some 16, none, .callF true 81 [(.t 14), (.t 15), (.c (.int .u16 0))]⟩, oS 7 8 16])
  (.seq (.ops [⟨some 18, none, .bin .eql (.t 9) (.c (.int .u8 0))⟩, oM 17 18])
  (.cond (.t 17)
  (.ops [⟨some 19, none, .load true 8 (.t 3)⟩, oM 20 2, ⟨some 21, none, .callF true 81 [(.t 19), (.c (.int .u16 0)), (.t 20)]⟩, oS 7 8 21])
  (.seq (.ops [⟨some 10, none, .build z_4 []⟩, ⟨some 11, none, .callF true 84 []⟩, oS 7 6 10, oM 7 11])
  .ret)))))))
  (.seq (.ops [oM 22 1, oF 23 6 8, oS 1 23 22])
  (.seq (.ops [⟨some 24, none, .load true 7 (.t 8)⟩, oS 7 6 24, ⟨some 7, none, .mov (.c .nili)⟩])
  .ret)))))⟩
/- (vizard/icmp.Message).Mark -/
def I83 : Fn_ := ⟨1, 13, [(2, none)],
  (.seq (.ops [⟨some 1, none, .boxR true 7 48 (.t 0)⟩, ⟨some 2, none, .mov (.c (.int .u16 0))⟩])
  (.seq (.ops [⟨some 6, none, .faddr true 2 4 (.t 1)⟩, ⟨some 7, none, .sliceA 4 1 (.t 6) none none⟩, ⟨some 8, none, .callF true 93 [(.t 7), (.c (.int .i64 0)), (.c (.int .i64 2))]⟩, oM 5 8, oE 9 5 0, oE 10 5 1, oM 3 9, oM 4 10])
  (.seq (.ops [oM 11 3, ⟨some 12, none, .conv .u16 (.t 11)⟩, oM 2 12])
  .ret)))⟩
/- vizard/turn.other -/
def I84 : Fn_ := ⟨0, 2, [(0, none)],
  (.seq (.ops [⟨some 0, none, .mov (.c .nili)⟩])
  (.seq (.ops [⟨some 1, none, .callF true 44 [(.c (.int .i64 16)), (.c (.int .i64 14))]⟩, oM 0 1])
  .ret))⟩
/- vizard/turn.carried -/
def I85 : Fn_ := ⟨4, 59, [(8, none)],
  (.seq (.ops [⟨some 4, none, .boxR true 8 26 (.t 0)⟩, ⟨some 6, none, .boxR true 2 67 (.t 2)⟩, ⟨some 7, none, .boxR true 2 67 (.t 3)⟩, ⟨some 8, none, .mov (.c (.rs false 1 []))⟩])
  (.seq (.ops [oF 15 7 4, oL 16 15, oM 17 1, oF 18 1 7, oL 19 18, ⟨some 20, none, .callF true 97 [(.t 16), (.t 17), (.t 19)]⟩, oM 9 20])
  (.seq (.seq (.ops [oF 21 4 4, oL 22 21, ⟨some 23, none, .bin .eql (.t 22) (.c (.int .u8 6))⟩])
  (.cond (.t 23)
  (.seq (.ops [oM 24 9, oM 25 9, ⟨some 26, none, .load true 2 (.t 6)⟩, ⟨some 27, none, .callF true 94 [(.t 26)]⟩, ⟨some 28, none, .load true 2 (.t 7)⟩, ⟨some 29, none, .callF true 94 [(.t 28)]⟩, ⟨some 30, none, .callF true 111 [(.t 25), (.c (.int .i64 16)), (.t 27), (.t 29)]⟩, ⟨some 31, none, .callF true 97 [(.t 24), (.c (.int .i64 16)), (.t 30)]⟩, oM 8 31])
  .ret)
  .skip))
  (.seq (.ops [oM 33 9, ⟨some 34, none, .callF true 93 [(.t 33), (.c (.int .i64 4)), (.c (.int .i64 2))]⟩, oM 32 34, oE 35 32 0, oE 36 32 1, oM 10 35, oM 11 36])
  (.seq (.ops [oM 37 9, oM 38 10, ⟨some 39, none, .slice 1 (.t 37) none (some (.t 38))⟩, oM 9 39])
  (.seq (.seq (.ops [oM 41 9, ⟨some 42, none, .callF true 93 [(.t 41), (.c (.int .i64 6)), (.c (.int .i64 2))]⟩, oM 40 42, oE 43 40 0, oE 44 40 1, oM 12 43, oM 13 44])
  (.seq (.ops [oM 45 12, ⟨some 46, none, .bin .eql (.t 45) (.c (.int .u64 0))⟩])
  (.cond (.t 46)
  (.seq (.ops [oM 47 9, oM 8 47])
  .ret)
  .skip)))
  (.seq (.ops [oM 48 9, ⟨some 49, none, .load true 2 (.t 6)⟩, ⟨some 50, none, .callF true 94 [(.t 49)]⟩, ⟨some 51, none, .load true 2 (.t 7)⟩, ⟨some 52, none, .callF true 94 [(.t 51)]⟩, ⟨some 53, none, .callF true 111 [(.t 48), (.c (.int .i64 6)), (.t 50), (.t 52)]⟩, oM 14 53])
  (.seq (.seq (.ops [oM 54 14, ⟨some 55, none, .bin .eql (.t 54) (.c (.int .u16 0))⟩])
  (.cond (.t 55)
  (.ops [⟨some 14, none, .mov (.c (.int .u16 65535))⟩])
  .skip))
  (.seq (.ops [oM 56 9, oM 57 14, ⟨some 58, none, .callF true 97 [(.t 56), (.c (.int .i64 6)), (.t 57)]⟩, oM 8 58])
  .ret)))))))))⟩
/- vizard/turn.marked -/
def I86 : Fn_ := ⟨2, 22, [(4, none)],
  (.seq (.ops [⟨some 4, none, .mov (.c (.rs false 1 []))⟩])
  (.seq (.ops [oM 10 0, ⟨some 11, none, .callF true 20 [(.t 10)]⟩, oM 9 11, oE 12 9 0, oE 13 9 1, ⟨some 5, none, .alloc true z_2 48⟩, oS 7 5 12, oM 6 13])
  (.seq (.ops [⟨some 15, none, .load true 7 (.t 5)⟩, oM 16 1, ⟨some 17, none, .callF true 112 [(.t 15), (.t 16)]⟩, ⟨some 18, none, .callF true 19 [(.t 17)]⟩, oM 14 18, oE 19 14 0, oE 20 14 1, oM 7 19, oM 8 20])
  (.seq (.ops [oM 21 7, oM 4 21])
  .ret))))⟩
/- vizard/udp.two -/
def I87 : Fn_ := ⟨2, 15, [(4, none)],
  (.seq (.ops [⟨some 4, none, .mov (.c (.int .u16 0))⟩])
  (.seq (.ops [oM 8 0, oM 9 1, ⟨some 10, none, .callF true 93 [(.t 8), (.t 9), (.c (.int .i64 2))]⟩, oM 7 10, oE 11 7 0, oE 12 7 1, oM 5 11, oM 6 12])
  (.seq (.ops [oM 13 5, ⟨some 14, none, .conv .u16 (.t 13)⟩, oM 4 14])
  .ret)))⟩
/- vizard/why.Of -/
def I89 : Fn_ := ⟨1, 22, [(2, none)],
  (.seq (.ops [⟨some 2, none, .mov (.c (.int .i64 0))⟩])
  (.seq (.seq (.ops [oM 3 0])
  (.block 0 (some [3]) (.seq (.ops [⟨some 5, none, .bin .eql (.t 3) (.c (.int .i64 0))⟩, oM 4 5])
  (.cond (.t 4)
  (.seq (.ops [⟨some 2, none, .mov (.c (.int .i64 0))⟩])
  .ret)
  (.seq (.ops [⟨some 7, none, .bin .eql (.t 3) (.c (.int .i64 13))⟩, oM 6 7])
  (.cond (.t 6)
  (.seq (.ops [⟨some 2, none, .mov (.c (.int .i64 2))⟩])
  .ret)
  (.seq (.ops [⟨some 9, none, .bin .eql (.t 3) (.c (.int .i64 15))⟩, oM 8 9])
  (.cond (.t 8)
  (.seq (.ops [⟨some 2, none, .mov (.c (.int .i64 3))⟩])
  .ret)
  (.seq (.ops [⟨some 11, none, .bin .eql (.t 3) (.c (.int .i64 21))⟩, oM 10 11])
  (.cond (.t 10)
  (.seq (.ops [⟨some 2, none, .mov (.c (.int .i64 4))⟩])
  .ret)
  (.seq (.ops [⟨some 13, none, .bin .eql (.t 3) (.c (.int .i64 20))⟩, oM 12 13])
  (.cond (.t 12)
  (.seq (.ops [⟨some 2, none, .mov (.c (.int .i64 5))⟩])
  .ret)
  (.seq (.ops [⟨some 15, none, .bin .eql (.t 3) (.c (.int .i64 18))⟩, oM 14 15])
  (.cond (.t 14)
  (.seq (.ops [⟨some 2, none, .mov (.c (.int .i64 11))⟩])
  .ret)
  (.seq (.ops [⟨some 17, none, .bin .eql (.t 3) (.c (.int .i64 19))⟩, oM 16 17])
  (.cond (.t 16)
  (.seq (.ops [⟨some 2, none, .mov (.c (.int .i64 9))⟩])
  .ret)
  (.seq (.ops [⟨some 19, none, .bin .eql (.t 3) (.c (.int .i64 14))⟩, oM 18 19])
  (.cond (.t 18)
  (.seq (.ops [⟨some 2, none, .mov (.c (.int .i64 16))⟩])
  .ret)
  (.seq (.ops [⟨some 21, none, .bin .eql (.t 3) (.c (.int .i64 22))⟩, oM 20 21])
  (.cond (.t 20)
  (.seq (.ops [⟨some 2, none, .mov (.c (.int .i64 19))⟩])
  .ret)
  .skip))))))))))))))))))))
  (.seq (.ops [⟨some 2, none, .mov (.c (.int .i64 1))⟩])
  .ret)))⟩
/- vizard/turn.innerEnds$1 -/
def I92 : Fn_ := ⟨2, 15, [(3, none)],
  (.seq (.ops [⟨some 3, none, .mov (.c (.int .u16 0))⟩])
  (.seq (.ops [oF 7 7 1, oL 8 7, oM 9 0, ⟨some 10, none, .callF true 93 [(.t 8), (.t 9), (.c (.int .i64 2))]⟩, oM 6 10, oE 11 6 0, oE 12 6 1, oM 4 11, oM 5 12])
  (.seq (.ops [oM 13 4, ⟨some 14, none, .conv .u16 (.t 13)⟩, oM 3 14])
  .ret)))⟩
/- vizard/word.At -/
def B93_0 : C := (.seq (.ops [⟨some 31, none, .bin .lss (.t 30) (.t 29)⟩])
  (.seq (.cond (.t 31)
  .skip
  (.exit 0))
  (.seq (.block 1 (some [9, 28, 29, 30]) (.seq (.ops [⟨some 32, none, .iaddr 1 (.t 28) (.t 30)⟩, oL 33 32, oM 11 33])
  (.ops [oM 34 9, ⟨some 35, none, .bin .shl (.t 34) (.c (.int .u64 8))⟩, oM 36 11, ⟨some 37, none, .conv .u64 (.t 36)⟩, ⟨some 38, none, .bin .or (.t 35) (.t 37)⟩, oM 9 38])))
  (.ops [⟨some 39, none, .bin .add (.t 30) (.c (.int .i64 1))⟩, oM 30 39]))))
def L93_0 : C := .loop (some [9, 28, 29, 30]) B93_0
theorem L93_0_eq {E : Env} (x : St) : ev E L93_0 x = andThen (ev E B93_0 (restr (some [9, 28, 29, 30]) x)) (ev E L93_0) := ev_loop _ _ x
theorem L93_0_lp {E : Env} (s : Slots) (h : Heap) : ev E L93_0 ⟨s, h⟩ = lp E L93_0 (pickS s [9, 28, 29, 30]) h := lp_of L93_0_eq s h
theorem L93_0_go {E : Env} (s : Slots) (h : Heap) : lp E L93_0 s h = andThen (ev E B93_0 ⟨pickS s [9, 28, 29, 30], h⟩) (ev E L93_0) := lp_go L93_0_eq s h
noncomputable def T93_0 (E : Env) (o : Out) : Option (AV × Heap) := outR [(6, none), (7, none)] (andThen (endBlock 0 (some [9, 28, 29, 30]) (o)) (ev E (.seq (.ops [oM 40 9, oM 6 40, ⟨some 7, none, .mov (.c (.int .i64 0))⟩])
  .ret)))
def I93 : Fn_ := ⟨3, 41, [(6, none), (7, none)],
  (.seq (.ops [⟨some 6, none, .mov (.c (.int .u64 0))⟩, ⟨some 7, none, .mov (.c (.int .i64 0))⟩])
  (.seq (.seq (.ops [oM 12 2, ⟨some 13, none, .callF false 76 [(.t 12)]⟩, ⟨some 14, none, .un .not (.t 13)⟩])
  (.cond (.t 14)
  (.seq (.ops [⟨some 6, none, .mov (.c (.int .u64 0))⟩, ⟨some 7, none, .mov (.c (.int .i64 11))⟩])
  .ret)
  .skip))
  (.seq (.seq (.ops [oM 15 0, ⟨some 16, none, .len (.t 15)⟩, oM 17 1, oM 18 2, ⟨some 19, none, .callF false 106 [(.t 16), (.t 17), (.t 18)]⟩, oM 8 19])
  (.seq (.ops [oM 20 8, ⟨some 21, none, .bin .neq (.t 20) (.c (.int .i64 0))⟩])
  (.cond (.t 21)
  (.seq (.ops [oM 22 8, ⟨some 6, none, .mov (.c (.int .u64 0))⟩, oM 7 22])
  .ret)
  .skip)))
  (.seq (.ops [⟨some 9, none, .mov (.c (.int .u64 0))⟩])
  (.seq (.seq (.ops [oM 23 0, oM 24 1, oM 25 1, oM 26 2, ⟨some 27, none, .bin .add (.t 25) (.t 26)⟩, ⟨some 28, none, .slice 1 (.t 23) (some (.t 24)) (some (.t 27))⟩, ⟨some 29, none, .len (.t 28)⟩, ⟨some 30, none, .mov (.c (.int .i64 0))⟩])
  (.block 0 (some [9, 28, 29, 30]) L93_0))
  (.seq (.ops [oM 40 9, oM 6 40, ⟨some 7, none, .mov (.c (.int .i64 0))⟩])
  .ret))))))⟩
/- vizard/turn.row -/
def I94 : Fn_ := ⟨1, 26, [(2, none)],
  (.seq (.ops [⟨some 1, none, .boxR true 2 67 (.t 0)⟩, ⟨some 2, none, .mov (.c (.rs false 1 []))⟩])
  (.seq (.ops [oF 8 0 1, oL 9 8, ⟨some 10, none, .conv .u64 (.t 9)⟩, ⟨some 11, none, .buildR 1 97 [(.t 10)]⟩, ⟨some 12, none, .callF false 51 [(.c (.int .i64 4)), (.t 11)]⟩, oM 7 12, oE 13 7 0, oE 14 7 1, oM 3 13, oM 4 14])
  (.seq (.ops [oF 16 1 1, oL 17 16, ⟨some 18, none, .conv .u64 (.t 17)⟩, ⟨some 19, none, .buildR 1 97 [(.t 18)]⟩, ⟨some 20, none, .callF true 51 [(.c (.int .i64 2)), (.t 19)]⟩, oM 15 20, oE 21 15 0, oE 22 15 1, oM 5 21, oM 6 22])
  (.seq (.ops [oM 23 3, oM 24 5, ⟨some 25, none, .append 1 1 5 (.t 23) (.t 24)⟩, oM 2 25])
  .ret))))⟩
/- (*vizard/turn.patch).sums -/
def I95 : Fn_ := ⟨2, 28, [(4, none)],
  (.seq (.ops [⟨some 4, none, .mov (.c (.rs false 1 []))⟩])
  (.seq (.seq (.ops [oM 7 1])
  (.block 0 (some [0, 7]) (.seq (.ops [⟨some 9, none, .bin .eql (.t 7) (.c (.int .u8 6))⟩, oM 8 9])
  (.cond (.t 8)
  (.seq (.ops [⟨some 10, none, .buildR 1 3 [(.c (.int .i64 36))]⟩, oM 4 10])
  .ret)
  (.seq (.ops [⟨some 12, none, .bin .eql (.t 7) (.c (.int .u8 17))⟩, oM 11 12])
  (.cond (.t 11)
  (.seq (.ops [oM 14 0, ⟨some 15, none, .nilChk (.t 14)⟩, oF 16 0 15, oL 17 16, ⟨some 18, none, .callF true 93 [(.t 17), (.c (.int .i64 26)), (.c (.int .i64 2))]⟩, oM 13 18, oE 19 13 0, oE 20 13 1, oM 5 19, oM 6 20])
  (.seq (.ops [oM 21 6, ⟨some 22, none, .bin .eql (.t 21) (.c (.int .i64 0))⟩, oM 23 22, gM 24 23 true 5, ⟨some 25, (some (23, true)), .bin .neq (.t 24) (.c (.int .u64 0))⟩, oN 26 23 25])
  (.cond (.t 26)
  (.seq (.ops [⟨some 27, none, .buildR 1 3 [(.c (.int .i64 26))]⟩, oM 4 27])
  .ret)
  .skip)))
  .skip))))))
  (.seq (.ops [⟨some 4, none, .mov (.c (.rs false 1 []))⟩])
  .ret)))⟩
/- (*vizard/turn.patch).at -/
def B96_0 : C := (.seq (.ops [⟨some 42, none, .bin .lss (.t 41) (.t 40)⟩])
  (.seq (.cond (.t 42)
  .skip
  (.exit 0))
  (.seq (.block 1 (some [0, 2, 8, 39, 40, 41]) (.seq (.ops [⟨some 43, none, .iaddr 1 (.t 39) (.t 41)⟩, oL 44 43, oM 10 44])
  (.seq (.ops [oM 46 0, ⟨some 47, none, .nilChk (.t 46)⟩, oF 48 0 47, oL 49 48, oM 50 10, ⟨some 51, none, .callF true 93 [(.t 49), (.t 50), (.c (.int .i64 2))]⟩, oM 45 51, oE 52 45 0, oE 53 45 1, oM 11 52, oM 12 53])
  (.seq (.ops [oM 54 12, ⟨some 55, none, .bin .eql (.t 54) (.c (.int .i64 0))⟩])
  (.cond (.t 55)
  (.seq (.ops [oM 57 11, ⟨some 58, none, .conv .u16 (.t 57)⟩, oM 59 8, oM 60 2, ⟨some 61, none, .callF true 119 [(.t 58), (.t 59), (.t 60)]⟩, oM 56 61, oE 62 56 0, oE 63 56 1, oM 13 62, oM 14 63])
  (.ops [oM 64 0, oM 65 0, ⟨some 66, none, .nilChk (.t 65)⟩, oF 67 0 66, oL 68 67, oM 69 10, oM 70 13, ⟨some 71, none, .callF true 97 [(.t 68), (.t 69), (.t 70)]⟩, ⟨some 72, none, .nilChk (.t 64)⟩, oF 73 0 72, oS 1 73 71]))
  .skip)))))
  (.ops [⟨some 74, none, .bin .add (.t 41) (.c (.int .i64 1))⟩, oM 41 74]))))
def L96_0 : C := .loop (some [0, 2, 8, 39, 40, 41]) B96_0
theorem L96_0_eq {E : Env} (x : St) : ev E L96_0 x = andThen (ev E B96_0 (restr (some [0, 2, 8, 39, 40, 41]) x)) (ev E L96_0) := ev_loop _ _ x
theorem L96_0_lp {E : Env} (s : Slots) (h : Heap) : ev E L96_0 ⟨s, h⟩ = lp E L96_0 (pickS s [0, 2, 8, 39, 40, 41]) h := lp_of L96_0_eq s h
theorem L96_0_go {E : Env} (s : Slots) (h : Heap) : lp E L96_0 s h = andThen (ev E B96_0 ⟨pickS s [0, 2, 8, 39, 40, 41], h⟩) (ev E L96_0) := lp_go L96_0_eq s h
noncomputable def T96_0 (E : Env) (o : Out) : Option (AV × Heap) := outR [] (endBlock 0 (some [0, 2, 8, 39, 40, 41]) (o))
def I96 : Fn_ := ⟨4, 75, [],
  (.seq (.ops [oM 15 0, ⟨some 16, none, .nilChk (.t 15)⟩, oF 17 0 16, oL 18 17, oM 19 1, oM 20 1, oM 21 2, ⟨some 22, none, .len (.t 21)⟩, ⟨some 23, none, .bin .add (.t 20) (.t 22)⟩, ⟨some 24, none, .slice 1 (.t 18) (some (.t 19)) (some (.t 23))⟩, ⟨some 25, none, .callF true 48 [(.t 24)]⟩, oM 8 25])
  (.seq (.ops [oM 27 0, oM 28 0, ⟨some 29, none, .nilChk (.t 28)⟩, oF 30 0 29, oL 31 30, oM 32 1, oM 33 2, ⟨some 34, none, .callF true 75 [(.t 31), (.t 32), (.t 33)]⟩, oM 26 34, oE 35 26 0, oE 36 26 1, ⟨some 37, none, .nilChk (.t 27)⟩, oF 38 0 37, oS 1 38 35])
  (.seq (.ops [oM 39 3, ⟨some 40, none, .len (.t 39)⟩, ⟨some 41, none, .mov (.c (.int .i64 0))⟩])
  (.block 0 (some [0, 2, 8, 39, 40, 41]) L96_0))))⟩
/- vizard/turn.lay -/
def I97 : Fn_ := ⟨3, 18, [(6, none)],
  (.seq (.ops [⟨some 6, none, .mov (.c (.rs false 1 []))⟩])
  (.seq (.ops [oM 10 0, oM 11 1, oM 12 2, ⟨some 13, none, .conv .u64 (.t 12)⟩, ⟨some 14, none, .callF true 46 [(.t 10), (.t 11), (.c (.int .i64 2)), (.t 13)]⟩, oM 9 14, oE 15 9 0, oE 16 9 1, oM 7 15, oM 8 16])
  (.seq (.ops [oM 17 7, oM 6 17])
  .ret)))⟩
/- vizard/sum.number -/
def I99 : Fn_ := ⟨1, 15, [(2, none)],
  (.seq (.ops [⟨some 2, none, .mov (.c (.int .u16 0))⟩])
  (.seq (.ops [⟨some 3, none, .alloc true z_13 196⟩])
  (.seq (.ops [⟨some 4, none, .sliceA 2 1 (.t 3) none none⟩, oM 5 0, ⟨some 6, none, .copy 1 (.t 4) (.t 5)⟩])
  (.seq (.ops [⟨some 7, none, .iaddrA 2 1 false (.t 3) (.c (.int .i64 0))⟩, oL 8 7, ⟨some 9, none, .conv .u16 (.t 8)⟩, ⟨some 10, none, .bin .shl (.t 9) (.c (.int .u64 8))⟩, ⟨some 11, none, .iaddrA 2 1 false (.t 3) (.c (.int .i64 1))⟩, oL 12 11, ⟨some 13, none, .conv .u16 (.t 12)⟩, ⟨some 14, none, .bin .or (.t 10) (.t 13)⟩, oM 2 14])
  .ret))))⟩
/- vizard/sum.fold -/
def B100_0 : C := (.seq (.seq (.ops [oM 3 0, ⟨some 4, none, .bin .gtr (.t 3) (.c (.int .u64 65535))⟩])
  (.cond (.t 4)
  .skip
  (.exit 0)))
  (.block 1 (some [0]) (.ops [oM 5 0, ⟨some 6, none, .bin .and (.t 5) (.c (.int .u64 65535))⟩, oM 7 0, ⟨some 8, none, .bin .shr (.t 7) (.c (.int .u64 16))⟩, ⟨some 9, none, .bin .add (.t 6) (.t 8)⟩, oM 0 9])))
def L100_0 : C := .loop (some [0]) B100_0
theorem L100_0_eq {E : Env} (x : St) : ev E L100_0 x = andThen (ev E B100_0 (restr (some [0]) x)) (ev E L100_0) := ev_loop _ _ x
theorem L100_0_lp {E : Env} (s : Slots) (h : Heap) : ev E L100_0 ⟨s, h⟩ = lp E L100_0 (pickS s [0]) h := lp_of L100_0_eq s h
theorem L100_0_go {E : Env} (s : Slots) (h : Heap) : lp E L100_0 s h = andThen (ev E B100_0 ⟨pickS s [0], h⟩) (ev E L100_0) := lp_go L100_0_eq s h
noncomputable def T100_0 (E : Env) (o : Out) : Option (AV × Heap) := outR [(2, none)] (andThen (endBlock 0 (some [0]) (o)) (ev E (.seq (.ops [oM 10 0, ⟨some 11, none, .conv .u16 (.t 10)⟩, oM 2 11])
  .ret)))
def I100 : Fn_ := ⟨1, 12, [(2, none)],
  (.seq (.ops [⟨some 2, none, .mov (.c (.int .u16 0))⟩])
  (.seq (.block 0 (some [0]) L100_0)
  (.seq (.ops [oM 10 0, ⟨some 11, none, .conv .u16 (.t 10)⟩, oM 2 11])
  .ret)))⟩
/- vizard/vizardref02.Word -/
def I101 : Fn_ := ⟨1, 13, [(2, none)],
  (.seq (.ops [⟨some 2, none, .mov (.c (.str ⟨#[]⟩))⟩])
  (.seq (.seq (.ops [oM 3 0, ⟨some 4, none, .bin .lss (.t 3) (.c (.int .i64 1))⟩, oM 5 4, gM 6 5 false 0, ⟨some 7, (some (5, false)), .bin .gtr (.t 6) (.c (.int .i64 19))⟩, oT 8 5 7])
  (.cond (.t 8)
  (.seq (.ops [⟨some 2, none, .mov (.c (.str ⟨#[]⟩))⟩])
  .ret)
  .skip))
  (.seq (.ops [⟨some 9, none, .callF false 121 []⟩, oM 10 0, ⟨some 11, none, .iaddr 1 (.t 9) (.t 10)⟩, oL 12 11, oM 2 12])
  .ret)))⟩
/- vizard/vizardref03.Add -/
def I102 : Fn_ := ⟨2, 17, [(4, none)],
  (.seq (.ops [⟨some 4, none, .mov (.c (.int .u16 0))⟩])
  (.seq (.ops [oM 6 0, ⟨some 7, none, .conv .i64 (.t 6)⟩, oM 8 1, ⟨some 9, none, .conv .i64 (.t 8)⟩, ⟨some 10, none, .bin .add (.t 7) (.t 9)⟩, oM 5 10])
  (.seq (.seq (.ops [oM 11 5, ⟨some 12, none, .bin .gtr (.t 11) (.c (.int .i64 65535))⟩])
  (.cond (.t 12)
  (.ops [oM 13 5, ⟨some 14, none, .bin .sub (.t 13) (.c (.int .i64 65535))⟩, oM 5 14])
  .skip))
  (.seq (.ops [oM 15 5, ⟨some 16, none, .conv .u16 (.t 15)⟩, oM 4 16])
  .ret))))⟩
/- vizard/vizardref03.Of -/
def I103 : Fn_ := ⟨1, 6, [(2, none)],
  (.seq (.ops [⟨some 2, none, .mov (.c (.int .u16 0))⟩])
  (.seq (.ops [oM 3 0, ⟨some 4, none, .callF false 66 [(.t 3)]⟩, ⟨some 5, none, .bin .sub (.c (.int .u16 65535)) (.t 4)⟩, oM 2 5])
  .ret))⟩
/- vizard/vizardref07.Two -/
def I104 : Fn_ := ⟨1, 11, [(2, none)],
  (.seq (.ops [⟨some 2, none, .mov (.c (.rs false 1 []))⟩])
  (.seq (.ops [oM 3 0, ⟨some 4, none, .bin .quo (.t 3) (.c (.int .i64 256))⟩, ⟨some 5, none, .bin .rem (.t 4) (.c (.int .i64 256))⟩, ⟨some 6, none, .conv .u8 (.t 5)⟩, oM 7 0, ⟨some 8, none, .bin .rem (.t 7) (.c (.int .i64 256))⟩, ⟨some 9, none, .conv .u8 (.t 8)⟩, ⟨some 10, none, .buildSl 1 5 [(.t 6), (.t 9)]⟩, oM 2 10])
  .ret))⟩
/- vizard/vizardref06.Four -/
def I105 : Fn_ := ⟨1, 18, [(2, none)],
  (.seq (.ops [⟨some 2, none, .mov (.c (.rs false 1 []))⟩])
  (.seq (.ops [oM 3 0, ⟨some 4, none, .bin .quo (.t 3) (.c (.int .u32 16777216))⟩, ⟨some 5, none, .conv .u8 (.t 4)⟩, oM 6 0, ⟨some 7, none, .bin .quo (.t 6) (.c (.int .u32 65536))⟩, ⟨some 8, none, .bin .rem (.t 7) (.c (.int .u32 256))⟩, ⟨some 9, none, .conv .u8 (.t 8)⟩, oM 10 0, ⟨some 11, none, .bin .quo (.t 10) (.c (.int .u32 256))⟩, ⟨some 12, none, .bin .rem (.t 11) (.c (.int .u32 256))⟩, ⟨some 13, none, .conv .u8 (.t 12)⟩, oM 14 0, ⟨some 15, none, .bin .rem (.t 14) (.c (.int .u32 256))⟩, ⟨some 16, none, .conv .u8 (.t 15)⟩, ⟨some 17, none, .buildSl 1 5 [(.t 5), (.t 9), (.t 13), (.t 16)]⟩, oM 2 17])
  .ret))⟩
/- vizard/word.span -/
def I106 : Fn_ := ⟨3, 21, [(6, none)],
  (.seq (.ops [⟨some 6, none, .mov (.c (.int .i64 0))⟩])
  (.seq (.block 0 (some [0, 1, 2]) (.seq (.ops [oM 8 1, ⟨some 9, none, .bin .lss (.t 8) (.c (.int .i64 0))⟩, oM 7 9])
  (.cond (.t 7)
  (.seq (.ops [⟨some 6, none, .mov (.c (.int .i64 11))⟩])
  .ret)
  (.seq (.ops [oM 11 1, oM 12 0, ⟨some 13, none, .bin .gtr (.t 11) (.t 12)⟩, oM 14 13, gM 15 14 false 2, gM 16 14 false 0, gM 17 14 false 1, ⟨some 18, (some (14, false)), .bin .sub (.t 16) (.t 17)⟩, ⟨some 19, (some (14, false)), .bin .gtr (.t 15) (.t 18)⟩, oT 20 14 19, oM 10 20])
  (.cond (.t 10)
  (.seq (.ops [⟨some 6, none, .mov (.c (.int .i64 12))⟩])
  .ret)
  .skip)))))
  (.seq (.ops [⟨some 6, none, .mov (.c (.int .i64 0))⟩])
  .ret)))⟩
/- vizard/inet.two -/
def I107 : Fn_ := ⟨2, 15, [(4, none)],
  (.seq (.ops [⟨some 4, none, .mov (.c (.int .i64 0))⟩])
  (.seq (.ops [oM 8 0, oM 9 1, ⟨some 10, none, .callF true 93 [(.t 8), (.t 9), (.c (.int .i64 2))]⟩, oM 7 10, oE 11 7 0, oE 12 7 1, oM 5 11, oM 6 12])
  (.seq (.ops [oM 13 5, ⟨some 14, none, .conv .i64 (.t 13)⟩, oM 4 14])
  .ret)))⟩
/- vizard/inet.four -/
def I108 : Fn_ := ⟨2, 15, [(4, none)],
  (.seq (.ops [⟨some 4, none, .mov (.c (.int .u32 0))⟩])
  (.seq (.ops [oM 8 0, oM 9 1, ⟨some 10, none, .callF true 93 [(.t 8), (.t 9), (.c (.int .i64 4))]⟩, oM 7 10, oE 11 7 0, oE 12 7 1, oM 5 11, oM 6 12])
  (.seq (.ops [oM 13 5, ⟨some 14, none, .conv .u32 (.t 13)⟩, oM 4 14])
  .ret)))⟩
/- vizard/tcp.form -/
def I109 : Fn_ := ⟨1, 25, [(2, none)],
  (.seq (.ops [⟨some 2, none, .mov (.c (.int .i64 0))⟩])
  (.seq (.seq (.ops [oM 4 0, ⟨some 5, none, .len (.t 4)⟩, ⟨some 6, none, .bin .lss (.t 5) (.c (.int .i64 20))⟩])
  (.cond (.t 6)
  (.seq (.ops [⟨some 2, none, .mov (.c (.int .i64 12))⟩])
  .ret)
  .skip))
  (.seq (.ops [oM 7 0, ⟨some 8, none, .iaddr 1 (.t 7) (.c (.int .i64 12))⟩, oL 9 8, ⟨some 10, none, .bin .shr (.t 9) (.c (.int .u64 4))⟩, ⟨some 11, none, .conv .i64 (.t 10)⟩, ⟨some 12, none, .bin .mul (.t 11) (.c (.int .i64 4))⟩, oM 3 12])
  (.seq (.block 0 (some [0, 3]) (.seq (.ops [oM 14 3, ⟨some 15, none, .bin .lss (.t 14) (.c (.int .i64 20))⟩, oM 13 15])
  (.cond (.t 13)
  (.seq (.ops [⟨some 2, none, .mov (.c (.int .i64 10))⟩])
  .ret)
  (.seq (.ops [oM 17 3, oM 18 0, ⟨some 19, none, .len (.t 18)⟩, ⟨some 20, none, .bin .gtr (.t 17) (.t 19)⟩, oM 16 20])
  (.cond (.t 16)
  (.seq (.ops [⟨some 2, none, .mov (.c (.int .i64 12))⟩])
  .ret)
  (.seq (.ops [oM 22 0, ⟨some 23, none, .len (.t 22)⟩, ⟨some 24, none, .bin .gtr (.t 23) (.c (.int .i64 1480))⟩, oM 21 24])
  (.cond (.t 21)
  (.seq (.ops [⟨some 2, none, .mov (.c (.int .i64 11))⟩])
  .ret)
  .skip)))))))
  (.seq (.ops [⟨some 2, none, .mov (.c (.int .i64 0))⟩])
  .ret)))))⟩
/- vizard/tcp.Sums -/
def I110 : Fn_ := ⟨3, 15, [(6, none)],
  (.seq (.ops [⟨some 6, none, .mov (.c (.bool false))⟩])
  (.seq (.ops [oM 7 1, oM 8 2, oM 9 0, ⟨some 10, none, .len (.t 9)⟩, ⟨some 11, none, .callF false 122 [(.t 7), (.t 8), (.t 10)]⟩, oM 12 0, ⟨some 13, none, .buildR 1 24 [(.t 11), (.t 12)]⟩, ⟨some 14, none, .callF false 30 [(.t 13)]⟩, oM 6 14])
  .ret))⟩
/- vizard/turn.patched -/
def I111 : Fn_ := ⟨4, 30, [(8, none)],
  (.seq (.ops [⟨some 8, none, .mov (.c (.int .u16 0))⟩])
  (.seq (.ops [oM 14 0, oM 15 1, ⟨some 16, none, .callF true 93 [(.t 14), (.t 15), (.c (.int .i64 2))]⟩, oM 13 16, oE 17 13 0, oE 18 13 1, oM 9 17, oM 10 18])
  (.seq (.ops [oM 20 9, ⟨some 21, none, .conv .u16 (.t 20)⟩, oM 22 2, oM 23 3, ⟨some 24, none, .callF true 119 [(.t 21), (.t 22), (.t 23)]⟩, oM 19 24, oE 25 19 0, oE 26 19 1, oM 11 25, oM 12 26])
  (.seq (.seq (.ops [oM 27 11, ⟨some 28, none, .bin .eql (.t 27) (.c (.int .u16 65535))⟩])
  (.cond (.t 28)
  (.seq (.ops [⟨some 8, none, .mov (.c (.int .u16 0))⟩])
  .ret)
  .skip))
  (.seq (.ops [oM 29 11, oM 8 29])
  .ret)))))⟩
/- (vizard/icmp.Message).Marked -/
def I112 : Fn_ := ⟨2, 26, [(4, some (true, 7))],
  (.seq (.ops [⟨some 2, none, .boxR true 7 48 (.t 0)⟩, ⟨some 4, none, .alloc true z_2 48⟩])
  (.seq (.ops [⟨some 8, none, .faddr true 2 4 (.t 2)⟩, ⟨some 9, none, .sliceA 4 1 (.t 8) none none⟩, oM 10 1, ⟨some 11, none, .conv .u64 (.t 10)⟩, ⟨some 12, none, .callF true 46 [(.t 9), (.c (.int .i64 0)), (.c (.int .i64 2)), (.t 11)]⟩, oM 7 12, oE 13 7 0, oE 14 7 1, oM 5 13, oM 6 14])
  (.seq (.ops [oF 15 0 2, oL 16 15, oF 17 1 2, oL 18 17, oM 19 5, ⟨some 20, none, .s2a 4 1 (.t 19)⟩, ⟨some 21, none, .load true 4 (.t 20)⟩, oF 22 6 2, oL 23 22, ⟨some 24, none, .callF true 48 [(.t 23)]⟩, ⟨some 25, none, .build z_2 [(0, 1, (.t 16)), (1, 1, (.t 18)), (2, 4, (.t 21)), (6, 1, (.t 24))]⟩, oS 7 4 25])
  .ret)))⟩
/- vizard/sum.Patch -/
def B119_0 : C := (.seq (.seq (.ops [oM 19 1, ⟨some 20, none, .len (.t 19)⟩, ⟨some 21, none, .bin .gtr (.t 20) (.c (.int .i64 0))⟩])
  (.cond (.t 21)
  .skip
  (.exit 0)))
  (.seq (.block 1 (some [0, 1, 2]) (.ops [oM 26 0, oM 27 1, ⟨some 28, none, .slice 1 (.t 27) none (some (.c (.int .i64 2)))⟩, ⟨some 29, none, .callF true 99 [(.t 28)]⟩, oM 30 2, ⟨some 31, none, .slice 1 (.t 30) none (some (.c (.int .i64 2)))⟩, ⟨some 32, none, .callF true 99 [(.t 31)]⟩, ⟨some 33, none, .callF true 125 [(.t 26), (.t 29), (.t 32)]⟩, oM 0 33]))
  (.ops [oM 22 1, ⟨some 23, none, .slice 1 (.t 22) (some (.c (.int .i64 2))) none⟩, oM 24 2, ⟨some 25, none, .slice 1 (.t 24) (some (.c (.int .i64 2))) none⟩, oM 1 23, oM 2 25])))
def L119_0 : C := .loop (some [0, 1, 2]) B119_0
theorem L119_0_eq {E : Env} (x : St) : ev E L119_0 x = andThen (ev E B119_0 (restr (some [0, 1, 2]) x)) (ev E L119_0) := ev_loop _ _ x
theorem L119_0_lp {E : Env} (s : Slots) (h : Heap) : ev E L119_0 ⟨s, h⟩ = lp E L119_0 (pickS s [0, 1, 2]) h := lp_of L119_0_eq s h
theorem L119_0_go {E : Env} (s : Slots) (h : Heap) : lp E L119_0 s h = andThen (ev E B119_0 ⟨pickS s [0, 1, 2], h⟩) (ev E L119_0) := lp_go L119_0_eq s h
noncomputable def T119_0 (E : Env) (o : Out) : Option (AV × Heap) := outR [(6, none), (7, none)] (andThen (endBlock 0 (some [0, 1, 2]) (o)) (ev E (.seq (.ops [oM 34 0, oM 6 34, ⟨some 7, none, .mov (.c (.int .i64 0))⟩])
  .ret)))
def I119 : Fn_ := ⟨3, 35, [(6, none), (7, none)],
  (.seq (.ops [⟨some 6, none, .mov (.c (.int .u16 0))⟩, ⟨some 7, none, .mov (.c (.int .i64 0))⟩])
  (.seq (.seq (.ops [oM 8 1, ⟨some 9, none, .len (.t 8)⟩, oM 10 2, ⟨some 11, none, .len (.t 10)⟩, ⟨some 12, none, .bin .neq (.t 9) (.t 11)⟩, oM 13 12, gM 14 13 false 1, ⟨some 15, (some (13, false)), .len (.t 14)⟩, ⟨some 16, (some (13, false)), .bin .rem (.t 15) (.c (.int .i64 2))⟩, ⟨some 17, (some (13, false)), .bin .neq (.t 16) (.c (.int .i64 0))⟩, oT 18 13 17])
  (.cond (.t 18)
  (.seq (.ops [⟨some 6, none, .mov (.c (.int .u16 0))⟩, ⟨some 7, none, .mov (.c (.int .i64 11))⟩])
  .ret)
  .skip))
  (.seq (.block 0 (some [0, 1, 2]) L119_0)
  (.seq (.ops [oM 34 0, oM 6 34, ⟨some 7, none, .mov (.c (.int .i64 0))⟩])
  .ret))))⟩
/- vizard/vizardref02.words -/
def I121 : Fn_ := ⟨0, 2, [(0, none)],
  (.seq (.ops [⟨some 0, none, .mov (.c (.rs false 1 []))⟩])
  (.seq (.ops [⟨some 1, none, .buildR 1 9 [(.c (.str ⟨#[]⟩)), (.c (.str ⟨#[102, 111, 114, 109]⟩)), (.c (.str ⟨#[115, 117, 109]⟩)), (.c (.str ⟨#[118, 101, 114, 115, 105, 111, 110]⟩)), (.c (.str ⟨#[111, 112, 116, 105, 111, 110]⟩)), (.c (.str ⟨#[102, 114, 97, 103]⟩)), (.c (.str ⟨#[116, 116, 108]⟩)), (.c (.str ⟨#[114, 111, 117, 116, 101]⟩)), (.c (.str ⟨#[102, 105, 108, 116, 101, 114]⟩)), (.c (.str ⟨#[115, 116, 97, 116, 101]⟩)), (.c (.str ⟨#[112, 111, 114, 116, 115]⟩)), (.c (.str ⟨#[102, 117, 108, 108]⟩)), (.c (.str ⟨#[119, 97, 105, 116]⟩)), (.c (.str ⟨#[98, 117, 102, 102, 101, 114]⟩)), (.c (.str ⟨#[114, 105, 110, 103]⟩)), (.c (.str ⟨#[104, 111, 115, 116]⟩)), (.c (.str ⟨#[107, 105, 110, 100]⟩)), (.c (.str ⟨#[108, 111, 99, 97, 108]⟩)), (.c (.str ⟨#[115, 101, 108, 102]⟩)), (.c (.str ⟨#[111, 108, 100]⟩))]⟩, oM 0 1])
  .ret))⟩
/- vizard/tcp.ends -/
def I122 : Fn_ := ⟨3, 31, [(6, none)],
  (.seq (.ops [⟨some 6, none, .mov (.c (.rs false 1 []))⟩])
  (.seq (.ops [oM 12 0, ⟨some 13, none, .conv .u64 (.t 12)⟩, oM 14 1, ⟨some 15, none, .conv .u64 (.t 14)⟩, ⟨some 16, none, .buildR 1 97 [(.t 13), (.t 15)]⟩, ⟨some 17, none, .callF false 51 [(.c (.int .i64 4)), (.t 16)]⟩, oM 11 17, oE 18 11 0, oE 19 11 1, oM 7 18, oM 8 19])
  (.seq (.ops [oM 21 2, ⟨some 22, none, .conv .u16 (.t 21)⟩, ⟨some 23, none, .conv .u64 (.t 22)⟩, ⟨some 24, none, .buildR 1 97 [(.c (.int .u64 6)), (.t 23)]⟩, ⟨some 25, none, .callF false 51 [(.c (.int .i64 2)), (.t 24)]⟩, oM 20 25, oE 26 20 0, oE 27 20 1, oM 9 26, oM 10 27])
  (.seq (.ops [oM 28 7, oM 29 9, ⟨some 30, none, .append 1 1 5 (.t 28) (.t 29)⟩, oM 6 30])
  .ret))))⟩
/- vizard/sum.Turn -/
def I125 : Fn_ := ⟨3, 19, [(6, none)],
  (.seq (.ops [⟨some 6, none, .mov (.c (.int .u16 0))⟩])
  (.seq (.ops [oM 7 0, ⟨some 8, none, .un .xor (.t 7)⟩, ⟨some 9, none, .conv .u64 (.t 8)⟩, oM 10 1, ⟨some 11, none, .un .xor (.t 10)⟩, ⟨some 12, none, .conv .u64 (.t 11)⟩, ⟨some 13, none, .bin .add (.t 9) (.t 12)⟩, oM 14 2, ⟨some 15, none, .conv .u64 (.t 14)⟩, ⟨some 16, none, .bin .add (.t 13) (.t 15)⟩, ⟨some 17, none, .callF false 100 [(.t 16)]⟩, ⟨some 18, none, .un .xor (.t 17)⟩, oM 6 18])
  .ret))⟩
/- (*vizard/why.fault).Unwrap -/
def I145 : Fn_ := ⟨1, 7, [(2, none)],
  (.seq (.ops [⟨some 2, none, .mov (.c .nili)⟩])
  (.seq (.ops [oM 3 0, ⟨some 4, none, .nilChk (.t 3)⟩, oF 5 1 4, oL 6 5, oM 2 6])
  .ret))⟩

def fns : FuncId → Option Fn_
  | 2 => some I2
  | 3 => some I3
  | 4 => some I4
  | 5 => some I5
  | 6 => some I6
  | 7 => some I7
  | 8 => some I8
  | 9 => some I9
  | 10 => some I10
  | 11 => some I11
  | 12 => some I12
  | 13 => some I13
  | 14 => some I14
  | 15 => some I15
  | 16 => some I16
  | 17 => some I17
  | 18 => some I18
  | 19 => some I19
  | 20 => some I20
  | 21 => some I21
  | 22 => some I22
  | 23 => some I23
  | 24 => some I24
  | 25 => some I25
  | 26 => some I26
  | 27 => some I27
  | 28 => some I28
  | 29 => some I29
  | 30 => some I30
  | 31 => some I31
  | 32 => some I32
  | 33 => some I33
  | 34 => some I34
  | 35 => some I35
  | 36 => some I36
  | 37 => some I37
  | 38 => some I38
  | 39 => some I39
  | 40 => some I40
  | 41 => some I41
  | 42 => some I42
  | 43 => some I43
  | 44 => some I44
  | 45 => some I45
  | 46 => some I46
  | 47 => some I47
  | 48 => some I48
  | 49 => some I49
  | 50 => some I50
  | 51 => some I51
  | 52 => some I52
  | 53 => some I53
  | 54 => some I54
  | 55 => some I55
  | 56 => some I56
  | 57 => some I57
  | 59 => some I59
  | 60 => some I60
  | 61 => some I61
  | 62 => some I62
  | 64 => some I64
  | 65 => some I65
  | 66 => some I66
  | 67 => some I67
  | 68 => some I68
  | 69 => some I69
  | 70 => some I70
  | 71 => some I71
  | 72 => some I72
  | 73 => some I73
  | 74 => some I74
  | 75 => some I75
  | 76 => some I76
  | 77 => some I77
  | 78 => some I78
  | 79 => some I79
  | 80 => some I80
  | 81 => some I81
  | 82 => some I82
  | 83 => some I83
  | 84 => some I84
  | 85 => some I85
  | 86 => some I86
  | 87 => some I87
  | 89 => some I89
  | 92 => some I92
  | 93 => some I93
  | 94 => some I94
  | 95 => some I95
  | 96 => some I96
  | 97 => some I97
  | 99 => some I99
  | 100 => some I100
  | 101 => some I101
  | 102 => some I102
  | 103 => some I103
  | 104 => some I104
  | 105 => some I105
  | 106 => some I106
  | 107 => some I107
  | 108 => some I108
  | 109 => some I109
  | 110 => some I110
  | 111 => some I111
  | 112 => some I112
  | 119 => some I119
  | 121 => some I121
  | 122 => some I122
  | 125 => some I125
  | 145 => some I145
  | _ => none

def keep : FuncId → Bool
  | 11 => true
  | 24 => true
  | 45 => true
  | 46 => true
  | 48 => true
  | 51 => true
  | 64 => true
  | 68 => true
  | 71 => true
  | 73 => true
  | 75 => true
  | 104 => true
  | 105 => true
  | _ => false

theorem chk2 : chkFn Tryd.prog Tryd.f2 I2 = true := by kernel_rfl
theorem chk3 : chkFn Tryd.prog Tryd.f3 I3 = true := by kernel_rfl
theorem chk4 : chkFn Tryd.prog Tryd.f4 I4 = true := by kernel_rfl
theorem chk5 : chkFn Tryd.prog Tryd.f5 I5 = true := by kernel_rfl
theorem chk6 : chkFn Tryd.prog Tryd.f6 I6 = true := by kernel_rfl
theorem chk7 : chkFn Tryd.prog Tryd.f7 I7 = true := by kernel_rfl
theorem chk8 : chkFn Tryd.prog Tryd.f8 I8 = true := by kernel_rfl
theorem chk9 : chkFn Tryd.prog Tryd.f9 I9 = true := by kernel_rfl
theorem chk10 : chkFn Tryd.prog Tryd.f10 I10 = true := by kernel_rfl
theorem chk11 : chkFn Tryd.prog Tryd.f11 I11 = true := by kernel_rfl
theorem chk12 : chkFn Tryd.prog Tryd.f12 I12 = true := by kernel_rfl
theorem chk13 : chkFn Tryd.prog Tryd.f13 I13 = true := by kernel_rfl
theorem chk14 : chkFn Tryd.prog Tryd.f14 I14 = true := by kernel_rfl
theorem chk15 : chkFn Tryd.prog Tryd.f15 I15 = true := by kernel_rfl
theorem chk16 : chkFn Tryd.prog Tryd.f16 I16 = true := by kernel_rfl
theorem chk17 : chkFn Tryd.prog Tryd.f17 I17 = true := by kernel_rfl
theorem chk18 : chkFn Tryd.prog Tryd.f18 I18 = true := by kernel_rfl
theorem chk19 : chkFn Tryd.prog Tryd.f19 I19 = true := by kernel_rfl
theorem chk20 : chkFn Tryd.prog Tryd.f20 I20 = true := by kernel_rfl
theorem chk21 : chkFn Tryd.prog Tryd.f21 I21 = true := by kernel_rfl
theorem chk22 : chkFn Tryd.prog Tryd.f22 I22 = true := by kernel_rfl
theorem chk23 : chkFn Tryd.prog Tryd.f23 I23 = true := by kernel_rfl
theorem chk24 : chkFn Tryd.prog Tryd.f24 I24 = true := by kernel_rfl
theorem chk25 : chkFn Tryd.prog Tryd.f25 I25 = true := by kernel_rfl
theorem chk26 : chkFn Tryd.prog Tryd.f26 I26 = true := by kernel_rfl
theorem chk27 : chkFn Tryd.prog Tryd.f27 I27 = true := by kernel_rfl
theorem chk28 : chkFn Tryd.prog Tryd.f28 I28 = true := by kernel_rfl
theorem chk29 : chkFn Tryd.prog Tryd.f29 I29 = true := by kernel_rfl
theorem chk30 : chkFn Tryd.prog Tryd.f30 I30 = true := by kernel_rfl
theorem chk31 : chkFn Tryd.prog Tryd.f31 I31 = true := by kernel_rfl
theorem chk32 : chkFn Tryd.prog Tryd.f32 I32 = true := by kernel_rfl
theorem chk33 : chkFn Tryd.prog Tryd.f33 I33 = true := by kernel_rfl
theorem chk34 : chkFn Tryd.prog Tryd.f34 I34 = true := by kernel_rfl
theorem chk35 : chkFn Tryd.prog Tryd.f35 I35 = true := by kernel_rfl
theorem chk36 : chkFn Tryd.prog Tryd.f36 I36 = true := by kernel_rfl
theorem chk37 : chkFn Tryd.prog Tryd.f37 I37 = true := by kernel_rfl
theorem chk38 : chkFn Tryd.prog Tryd.f38 I38 = true := by kernel_rfl
theorem chk39 : chkFn Tryd.prog Tryd.f39 I39 = true := by kernel_rfl
theorem chk40 : chkFn Tryd.prog Tryd.f40 I40 = true := by kernel_rfl
theorem chk41 : chkFn Tryd.prog Tryd.f41 I41 = true := by kernel_rfl
theorem chk42 : chkFn Tryd.prog Tryd.f42 I42 = true := by kernel_rfl
theorem chk43 : chkFn Tryd.prog Tryd.f43 I43 = true := by kernel_rfl
theorem chk44 : chkFn Tryd.prog Tryd.f44 I44 = true := by kernel_rfl
theorem chk45 : chkFn Tryd.prog Tryd.f45 I45 = true := by kernel_rfl
theorem chk46 : chkFn Tryd.prog Tryd.f46 I46 = true := by kernel_rfl
theorem chk47 : chkFn Tryd.prog Tryd.f47 I47 = true := by kernel_rfl
theorem chk48 : chkFn Tryd.prog Tryd.f48 I48 = true := by kernel_rfl
theorem chk49 : chkFn Tryd.prog Tryd.f49 I49 = true := by kernel_rfl
theorem chk50 : chkFn Tryd.prog Tryd.f50 I50 = true := by kernel_rfl
theorem chk51 : chkFn Tryd.prog Tryd.f51 I51 = true := by kernel_rfl
theorem chk52 : chkFn Tryd.prog Tryd.f52 I52 = true := by kernel_rfl
theorem chk53 : chkFn Tryd.prog Tryd.f53 I53 = true := by kernel_rfl
theorem chk54 : chkFn Tryd.prog Tryd.f54 I54 = true := by kernel_rfl
theorem chk55 : chkFn Tryd.prog Tryd.f55 I55 = true := by kernel_rfl
theorem chk56 : chkFn Tryd.prog Tryd.f56 I56 = true := by kernel_rfl
theorem chk57 : chkFn Tryd.prog Tryd.f57 I57 = true := by kernel_rfl
theorem chk59 : chkFn Tryd.prog Tryd.f59 I59 = true := by kernel_rfl
theorem chk60 : chkFn Tryd.prog Tryd.f60 I60 = true := by kernel_rfl
theorem chk61 : chkFn Tryd.prog Tryd.f61 I61 = true := by kernel_rfl
theorem chk62 : chkFn Tryd.prog Tryd.f62 I62 = true := by kernel_rfl
theorem chk64 : chkFn Tryd.prog Tryd.f64 I64 = true := by kernel_rfl
theorem chk65 : chkFn Tryd.prog Tryd.f65 I65 = true := by kernel_rfl
theorem chk66 : chkFn Tryd.prog Tryd.f66 I66 = true := by kernel_rfl
theorem chk67 : chkFn Tryd.prog Tryd.f67 I67 = true := by kernel_rfl
theorem chk68 : chkFn Tryd.prog Tryd.f68 I68 = true := by kernel_rfl
theorem chk69 : chkFn Tryd.prog Tryd.f69 I69 = true := by kernel_rfl
theorem chk70 : chkFn Tryd.prog Tryd.f70 I70 = true := by kernel_rfl
theorem chk71 : chkFn Tryd.prog Tryd.f71 I71 = true := by kernel_rfl
theorem chk72 : chkFn Tryd.prog Tryd.f72 I72 = true := by kernel_rfl
theorem chk73 : chkFn Tryd.prog Tryd.f73 I73 = true := by kernel_rfl
theorem chk74 : chkFn Tryd.prog Tryd.f74 I74 = true := by kernel_rfl
theorem chk75 : chkFn Tryd.prog Tryd.f75 I75 = true := by kernel_rfl
theorem chk76 : chkFn Tryd.prog Tryd.f76 I76 = true := by kernel_rfl
theorem chk77 : chkFn Tryd.prog Tryd.f77 I77 = true := by kernel_rfl
theorem chk78 : chkFn Tryd.prog Tryd.f78 I78 = true := by kernel_rfl
theorem chk79 : chkFn Tryd.prog Tryd.f79 I79 = true := by kernel_rfl
theorem chk80 : chkFn Tryd.prog Tryd.f80 I80 = true := by kernel_rfl
theorem chk81 : chkFn Tryd.prog Tryd.f81 I81 = true := by kernel_rfl
theorem chk82 : chkFn Tryd.prog Tryd.f82 I82 = true := by kernel_rfl
theorem chk83 : chkFn Tryd.prog Tryd.f83 I83 = true := by kernel_rfl
theorem chk84 : chkFn Tryd.prog Tryd.f84 I84 = true := by kernel_rfl
theorem chk85 : chkFn Tryd.prog Tryd.f85 I85 = true := by kernel_rfl
theorem chk86 : chkFn Tryd.prog Tryd.f86 I86 = true := by kernel_rfl
theorem chk87 : chkFn Tryd.prog Tryd.f87 I87 = true := by kernel_rfl
theorem chk89 : chkFn Tryd.prog Tryd.f89 I89 = true := by kernel_rfl
theorem chk92 : chkFn Tryd.prog Tryd.f92 I92 = true := by kernel_rfl
theorem chk93 : chkFn Tryd.prog Tryd.f93 I93 = true := by kernel_rfl
theorem chk94 : chkFn Tryd.prog Tryd.f94 I94 = true := by kernel_rfl
theorem chk95 : chkFn Tryd.prog Tryd.f95 I95 = true := by kernel_rfl
theorem chk96 : chkFn Tryd.prog Tryd.f96 I96 = true := by kernel_rfl
theorem chk97 : chkFn Tryd.prog Tryd.f97 I97 = true := by kernel_rfl
theorem chk99 : chkFn Tryd.prog Tryd.f99 I99 = true := by kernel_rfl
theorem chk100 : chkFn Tryd.prog Tryd.f100 I100 = true := by kernel_rfl
theorem chk101 : chkFn Tryd.prog Tryd.f101 I101 = true := by kernel_rfl
theorem chk102 : chkFn Tryd.prog Tryd.f102 I102 = true := by kernel_rfl
theorem chk103 : chkFn Tryd.prog Tryd.f103 I103 = true := by kernel_rfl
theorem chk104 : chkFn Tryd.prog Tryd.f104 I104 = true := by kernel_rfl
theorem chk105 : chkFn Tryd.prog Tryd.f105 I105 = true := by kernel_rfl
theorem chk106 : chkFn Tryd.prog Tryd.f106 I106 = true := by kernel_rfl
theorem chk107 : chkFn Tryd.prog Tryd.f107 I107 = true := by kernel_rfl
theorem chk108 : chkFn Tryd.prog Tryd.f108 I108 = true := by kernel_rfl
theorem chk109 : chkFn Tryd.prog Tryd.f109 I109 = true := by kernel_rfl
theorem chk110 : chkFn Tryd.prog Tryd.f110 I110 = true := by kernel_rfl
theorem chk111 : chkFn Tryd.prog Tryd.f111 I111 = true := by kernel_rfl
theorem chk112 : chkFn Tryd.prog Tryd.f112 I112 = true := by kernel_rfl
theorem chk119 : chkFn Tryd.prog Tryd.f119 I119 = true := by kernel_rfl
theorem chk121 : chkFn Tryd.prog Tryd.f121 I121 = true := by kernel_rfl
theorem chk122 : chkFn Tryd.prog Tryd.f122 I122 = true := by kernel_rfl
theorem chk125 : chkFn Tryd.prog Tryd.f125 I125 = true := by kernel_rfl
theorem chk145 : chkFn Tryd.prog Tryd.f145 I145 = true := by kernel_rfl

theorem fns_ok : ∀ f fn, fns f = some fn → ∃ func, Tryd.prog.funcs[f]? = some func ∧ chkFn Tryd.prog func fn = true := by
  intro f fn h
  unfold fns at h
  split at h
  · cases h; exact ⟨Tryd.f2, Tryd.func2, chk2⟩
  · cases h; exact ⟨Tryd.f3, Tryd.func3, chk3⟩
  · cases h; exact ⟨Tryd.f4, Tryd.func4, chk4⟩
  · cases h; exact ⟨Tryd.f5, Tryd.func5, chk5⟩
  · cases h; exact ⟨Tryd.f6, Tryd.func6, chk6⟩
  · cases h; exact ⟨Tryd.f7, Tryd.func7, chk7⟩
  · cases h; exact ⟨Tryd.f8, Tryd.func8, chk8⟩
  · cases h; exact ⟨Tryd.f9, Tryd.func9, chk9⟩
  · cases h; exact ⟨Tryd.f10, Tryd.func10, chk10⟩
  · cases h; exact ⟨Tryd.f11, Tryd.func11, chk11⟩
  · cases h; exact ⟨Tryd.f12, Tryd.func12, chk12⟩
  · cases h; exact ⟨Tryd.f13, Tryd.func13, chk13⟩
  · cases h; exact ⟨Tryd.f14, Tryd.func14, chk14⟩
  · cases h; exact ⟨Tryd.f15, Tryd.func15, chk15⟩
  · cases h; exact ⟨Tryd.f16, Tryd.func16, chk16⟩
  · cases h; exact ⟨Tryd.f17, Tryd.func17, chk17⟩
  · cases h; exact ⟨Tryd.f18, Tryd.func18, chk18⟩
  · cases h; exact ⟨Tryd.f19, Tryd.func19, chk19⟩
  · cases h; exact ⟨Tryd.f20, Tryd.func20, chk20⟩
  · cases h; exact ⟨Tryd.f21, Tryd.func21, chk21⟩
  · cases h; exact ⟨Tryd.f22, Tryd.func22, chk22⟩
  · cases h; exact ⟨Tryd.f23, Tryd.func23, chk23⟩
  · cases h; exact ⟨Tryd.f24, Tryd.func24, chk24⟩
  · cases h; exact ⟨Tryd.f25, Tryd.func25, chk25⟩
  · cases h; exact ⟨Tryd.f26, Tryd.func26, chk26⟩
  · cases h; exact ⟨Tryd.f27, Tryd.func27, chk27⟩
  · cases h; exact ⟨Tryd.f28, Tryd.func28, chk28⟩
  · cases h; exact ⟨Tryd.f29, Tryd.func29, chk29⟩
  · cases h; exact ⟨Tryd.f30, Tryd.func30, chk30⟩
  · cases h; exact ⟨Tryd.f31, Tryd.func31, chk31⟩
  · cases h; exact ⟨Tryd.f32, Tryd.func32, chk32⟩
  · cases h; exact ⟨Tryd.f33, Tryd.func33, chk33⟩
  · cases h; exact ⟨Tryd.f34, Tryd.func34, chk34⟩
  · cases h; exact ⟨Tryd.f35, Tryd.func35, chk35⟩
  · cases h; exact ⟨Tryd.f36, Tryd.func36, chk36⟩
  · cases h; exact ⟨Tryd.f37, Tryd.func37, chk37⟩
  · cases h; exact ⟨Tryd.f38, Tryd.func38, chk38⟩
  · cases h; exact ⟨Tryd.f39, Tryd.func39, chk39⟩
  · cases h; exact ⟨Tryd.f40, Tryd.func40, chk40⟩
  · cases h; exact ⟨Tryd.f41, Tryd.func41, chk41⟩
  · cases h; exact ⟨Tryd.f42, Tryd.func42, chk42⟩
  · cases h; exact ⟨Tryd.f43, Tryd.func43, chk43⟩
  · cases h; exact ⟨Tryd.f44, Tryd.func44, chk44⟩
  · cases h; exact ⟨Tryd.f45, Tryd.func45, chk45⟩
  · cases h; exact ⟨Tryd.f46, Tryd.func46, chk46⟩
  · cases h; exact ⟨Tryd.f47, Tryd.func47, chk47⟩
  · cases h; exact ⟨Tryd.f48, Tryd.func48, chk48⟩
  · cases h; exact ⟨Tryd.f49, Tryd.func49, chk49⟩
  · cases h; exact ⟨Tryd.f50, Tryd.func50, chk50⟩
  · cases h; exact ⟨Tryd.f51, Tryd.func51, chk51⟩
  · cases h; exact ⟨Tryd.f52, Tryd.func52, chk52⟩
  · cases h; exact ⟨Tryd.f53, Tryd.func53, chk53⟩
  · cases h; exact ⟨Tryd.f54, Tryd.func54, chk54⟩
  · cases h; exact ⟨Tryd.f55, Tryd.func55, chk55⟩
  · cases h; exact ⟨Tryd.f56, Tryd.func56, chk56⟩
  · cases h; exact ⟨Tryd.f57, Tryd.func57, chk57⟩
  · cases h; exact ⟨Tryd.f59, Tryd.func59, chk59⟩
  · cases h; exact ⟨Tryd.f60, Tryd.func60, chk60⟩
  · cases h; exact ⟨Tryd.f61, Tryd.func61, chk61⟩
  · cases h; exact ⟨Tryd.f62, Tryd.func62, chk62⟩
  · cases h; exact ⟨Tryd.f64, Tryd.func64, chk64⟩
  · cases h; exact ⟨Tryd.f65, Tryd.func65, chk65⟩
  · cases h; exact ⟨Tryd.f66, Tryd.func66, chk66⟩
  · cases h; exact ⟨Tryd.f67, Tryd.func67, chk67⟩
  · cases h; exact ⟨Tryd.f68, Tryd.func68, chk68⟩
  · cases h; exact ⟨Tryd.f69, Tryd.func69, chk69⟩
  · cases h; exact ⟨Tryd.f70, Tryd.func70, chk70⟩
  · cases h; exact ⟨Tryd.f71, Tryd.func71, chk71⟩
  · cases h; exact ⟨Tryd.f72, Tryd.func72, chk72⟩
  · cases h; exact ⟨Tryd.f73, Tryd.func73, chk73⟩
  · cases h; exact ⟨Tryd.f74, Tryd.func74, chk74⟩
  · cases h; exact ⟨Tryd.f75, Tryd.func75, chk75⟩
  · cases h; exact ⟨Tryd.f76, Tryd.func76, chk76⟩
  · cases h; exact ⟨Tryd.f77, Tryd.func77, chk77⟩
  · cases h; exact ⟨Tryd.f78, Tryd.func78, chk78⟩
  · cases h; exact ⟨Tryd.f79, Tryd.func79, chk79⟩
  · cases h; exact ⟨Tryd.f80, Tryd.func80, chk80⟩
  · cases h; exact ⟨Tryd.f81, Tryd.func81, chk81⟩
  · cases h; exact ⟨Tryd.f82, Tryd.func82, chk82⟩
  · cases h; exact ⟨Tryd.f83, Tryd.func83, chk83⟩
  · cases h; exact ⟨Tryd.f84, Tryd.func84, chk84⟩
  · cases h; exact ⟨Tryd.f85, Tryd.func85, chk85⟩
  · cases h; exact ⟨Tryd.f86, Tryd.func86, chk86⟩
  · cases h; exact ⟨Tryd.f87, Tryd.func87, chk87⟩
  · cases h; exact ⟨Tryd.f89, Tryd.func89, chk89⟩
  · cases h; exact ⟨Tryd.f92, Tryd.func92, chk92⟩
  · cases h; exact ⟨Tryd.f93, Tryd.func93, chk93⟩
  · cases h; exact ⟨Tryd.f94, Tryd.func94, chk94⟩
  · cases h; exact ⟨Tryd.f95, Tryd.func95, chk95⟩
  · cases h; exact ⟨Tryd.f96, Tryd.func96, chk96⟩
  · cases h; exact ⟨Tryd.f97, Tryd.func97, chk97⟩
  · cases h; exact ⟨Tryd.f99, Tryd.func99, chk99⟩
  · cases h; exact ⟨Tryd.f100, Tryd.func100, chk100⟩
  · cases h; exact ⟨Tryd.f101, Tryd.func101, chk101⟩
  · cases h; exact ⟨Tryd.f102, Tryd.func102, chk102⟩
  · cases h; exact ⟨Tryd.f103, Tryd.func103, chk103⟩
  · cases h; exact ⟨Tryd.f104, Tryd.func104, chk104⟩
  · cases h; exact ⟨Tryd.f105, Tryd.func105, chk105⟩
  · cases h; exact ⟨Tryd.f106, Tryd.func106, chk106⟩
  · cases h; exact ⟨Tryd.f107, Tryd.func107, chk107⟩
  · cases h; exact ⟨Tryd.f108, Tryd.func108, chk108⟩
  · cases h; exact ⟨Tryd.f109, Tryd.func109, chk109⟩
  · cases h; exact ⟨Tryd.f110, Tryd.func110, chk110⟩
  · cases h; exact ⟨Tryd.f111, Tryd.func111, chk111⟩
  · cases h; exact ⟨Tryd.f112, Tryd.func112, chk112⟩
  · cases h; exact ⟨Tryd.f119, Tryd.func119, chk119⟩
  · cases h; exact ⟨Tryd.f121, Tryd.func121, chk121⟩
  · cases h; exact ⟨Tryd.f122, Tryd.func122, chk122⟩
  · cases h; exact ⟨Tryd.f125, Tryd.func125, chk125⟩
  · cases h; exact ⟨Tryd.f145, Tryd.func145, chk145⟩
  · cases h

end Go.Fw.Code_
