/-
  The code of the functions that are evaluated, by program (irgen.py) out of the print of the loaded functions; checked against them below. Conditions: none.
-/
import Derived.Test.YtijjehobflgalaaFwU
import Derived.Test.YtijjehobflgalaaProg
import Derived.KernelRfl
set_option linter.unusedVariables false
set_option maxRecDepth 100000
namespace Go.Fw.Code_
open Go.Proofs

def z_0 : List AV := [(.int .u8 0), (.rs false 1 [])]
theorem z_0e : z_0 = [(.int .u8 0), (.rs false 1 [])] := (rfl)
attribute [go_sem] z_0e
/- gosem.cut.init -/
def I2 : Fn_ := ⟨0, 1, [],
  (.ops [⟨some 0, none, .callF false 1 []⟩])⟩
/- vizard/vizardlaw23.OptionParses -/
def B3_0 : C := (.seq (.seq (.ops [oM 43 9, oM 44 4, oM 45 8, ⟨some 46, none, .iaddr 2 (.t 44) (.t 45)⟩, oF 47 1 46, oL 48 47, ⟨some 49, none, .len (.t 48)⟩, ⟨some 50, none, .bin .lss (.t 43) (.t 49)⟩])
  (.cond (.t 50)
  .skip
  (.exit 2)))
  (.seq (.block 3 (some [0, 3, 4, 8, 9]) (.ops [oM 53 4, oM 54 8, ⟨some 55, none, .iaddr 2 (.t 53) (.t 54)⟩, oF 56 1 55, oL 57 56, oM 58 9, ⟨some 59, none, .iaddr 1 (.t 57) (.t 58)⟩, oL 60 59, ⟨some 61, none, .bin .add (.t 60) (.c (.int .u8 1))⟩, ⟨some 62, none, .iaddr 1 (.t 57) (.t 58)⟩, oS 1 62 61]))
  (.ops [oM 51 9, ⟨some 52, none, .bin .add (.t 51) (.c (.int .i64 1))⟩, oM 9 52])))
def L3_0 : C := .loop (some [0, 3, 4, 8, 9]) B3_0
theorem L3_0_eq {E : Env} (x : St) : ev E L3_0 x = andThen (ev E B3_0 (restr (some [0, 3, 4, 8, 9]) x)) (ev E L3_0) := ev_loop _ _ x
theorem L3_0_lp {E : Env} (s : Slots) (h : Heap) : ev E L3_0 ⟨s, h⟩ = lp E L3_0 (pickS s [0, 3, 4, 8, 9]) h := lp_of L3_0_eq s h
theorem L3_0_go {E : Env} (s : Slots) (h : Heap) : lp E L3_0 s h = andThen (ev E B3_0 ⟨pickS s [0, 3, 4, 8, 9], h⟩) (ev E L3_0) := lp_go L3_0_eq s h
def B3_1 : C := (.seq (.seq (.ops [oM 37 8, oM 38 4, ⟨some 39, none, .len (.t 38)⟩, ⟨some 40, none, .bin .lss (.t 37) (.t 39)⟩])
  (.cond (.t 40)
  .skip
  (.exit 0)))
  (.seq (.block 1 (some [0, 3, 4, 8]) (.seq (.ops [⟨some 9, none, .mov (.c (.int .i64 0))⟩])
  (.block 2 (some [0, 3, 4, 8, 9]) L3_0)))
  (.ops [oM 41 8, ⟨some 42, none, .bin .add (.t 41) (.c (.int .i64 1))⟩, oM 8 42])))
def L3_1 : C := .loop (some [0, 3, 4, 8]) B3_1
theorem L3_1_eq {E : Env} (x : St) : ev E L3_1 x = andThen (ev E B3_1 (restr (some [0, 3, 4, 8]) x)) (ev E L3_1) := ev_loop _ _ x
theorem L3_1_lp {E : Env} (s : Slots) (h : Heap) : ev E L3_1 ⟨s, h⟩ = lp E L3_1 (pickS s [0, 3, 4, 8]) h := lp_of L3_1_eq s h
theorem L3_1_go {E : Env} (s : Slots) (h : Heap) : lp E L3_1 s h = andThen (ev E B3_1 ⟨pickS s [0, 3, 4, 8], h⟩) (ev E L3_1) := lp_go L3_1_eq s h
noncomputable def T3_1 (E : Env) (o : Out) : Option (AV × Heap) := outR [(2, none)] (andThen (endBlock 0 (some [0, 3, 4, 8]) (o)) (ev E (.seq (.ops [oM 63 3, oM 64 0, ⟨some 65, none, .callF true 10 [(.t 63), (.t 64)]⟩, oM 2 65])
  .ret)))
noncomputable def T3_0 (E : Env) (o : Out) : Option (AV × Heap) := T3_1 E (andThen (andThen (endBlock 1 (some [0, 3, 4, 8]) (endBlock 2 (some [0, 3, 4, 8, 9]) (o))) (ev E (.ops [oM 41 8, ⟨some 42, none, .bin .add (.t 41) (.c (.int .i64 1))⟩, oM 8 42]))) (ev E L3_1))
def I3 : Fn_ := ⟨1, 66, [(2, none)],
  (.seq (.ops [⟨some 2, none, .mov (.c (.bool false))⟩])
  (.seq (.seq (.ops [⟨some 10, none, .callF true 4 []⟩, ⟨some 11, none, .un .not (.t 10)⟩])
  (.cond (.t 11)
  (.seq (.ops [⟨some 2, none, .mov (.c (.bool false))⟩])
  .ret)
  .skip))
  (.seq (.seq (.ops [oM 12 0, ⟨some 13, none, .len (.t 12)⟩, ⟨some 14, none, .bin .gtr (.t 13) (.c (.int .i64 3000))⟩])
  (.cond (.t 14)
  (.seq (.ops [⟨some 2, none, .mov (.c (.bool true))⟩])
  .ret)
  .skip))
  (.seq (.ops [oM 15 0, ⟨some 16, none, .callF true 5 [(.t 15)]⟩, oM 3 16])
  (.seq (.ops [oM 18 3, ⟨some 19, none, .callM 6 [(.t 18)]⟩, oM 17 19, oE 20 17 0, oE 21 17 1, oM 4 20, oM 5 21])
  (.seq (.ops [oM 23 0, ⟨some 24, none, .callF true 7 [(.t 23)]⟩, oM 22 24, oE 25 22 0, oE 26 22 1, oM 6 25, oM 7 26])
  (.seq (.seq (.ops [oM 27 5, oM 28 7, ⟨some 29, none, .bin .neq (.t 27) (.t 28)⟩, oM 30 29, gM 31 30 false 4, ⟨some 32, (some (30, false)), .callF true 9 [(.t 31)]⟩, gM 33 30 false 6, ⟨some 34, (some (30, false)), .callF true 8 [(.t 32), (.t 33)]⟩, ⟨some 35, (some (30, false)), .un .not (.t 34)⟩, oT 36 30 35])
  (.cond (.t 36)
  (.seq (.ops [⟨some 2, none, .mov (.c (.bool false))⟩])
  .ret)
  .skip))
  (.seq (.seq (.ops [⟨some 8, none, .mov (.c (.int .i64 0))⟩])
  (.block 0 (some [0, 3, 4, 8]) L3_1))
  (.seq (.ops [oM 63 3, oM 64 0, ⟨some 65, none, .callF true 10 [(.t 63), (.t 64)]⟩, oM 2 65])
  .ret)))))))))⟩
/- vizard/vizardlaw23.alive -/
def I4 : Fn_ := ⟨0, 130, [(0, none)],
  (.seq (.ops [⟨some 0, none, .mov (.c (.bool false))⟩])
  (.seq (.ops [⟨some 20, none, .buildR 1 5 [(.c (.int .u8 53)), (.c (.int .u8 1)), (.c (.int .u8 1)), (.c (.int .u8 0)), (.c (.int .u8 54)), (.c (.int .u8 4)), (.c (.int .u8 10)), (.c (.int .u8 0)), (.c (.int .u8 0)), (.c (.int .u8 1)), (.c (.int .u8 255)), (.c (.int .u8 9))]⟩, ⟨some 21, none, .callF true 6 [(.t 20)]⟩, oM 19 21, oE 22 19 0, oE 23 19 1, oM 1 22, oM 2 23])
  (.seq (.ops [⟨some 25, none, .buildR 1 5 [(.c (.int .u8 53)), (.c (.int .u8 1)), (.c (.int .u8 1))]⟩, ⟨some 26, none, .callF true 6 [(.t 25)]⟩, oM 24 26, oE 27 24 0, oE 28 24 1, oM 3 27, oM 4 28])
  (.seq (.ops [oM 30 1, ⟨some 31, none, .callF true 11 [(.t 30)]⟩, oM 29 31, oE 32 29 0, oE 33 29 1, oM 5 32, oM 6 33])
  (.seq (.ops [⟨some 35, none, .build z_0 []⟩, ⟨some 36, none, .buildR 2 35 [(.t 35)]⟩, ⟨some 37, none, .callF true 11 [(.t 36)]⟩, oM 34 37, oE 38 34 0, oE 39 34 1, oM 7 38, oM 8 39])
  (.seq (.ops [⟨some 41, none, .mkSl 1 1 5 [(.int .u8 0)] (.c (.int .i64 256))⟩, ⟨some 42, none, .build z_0 [(0, 1, (.c (.int .u8 1))), (1, 1, (.t 41))]⟩, ⟨some 43, none, .buildSl 2 35 [(.t 42)]⟩, ⟨some 44, none, .callF true 11 [(.t 43)]⟩, oM 40 44, oE 45 40 0, oE 46 40 1, oM 9 45, oM 10 46])
  (.seq (.ops [oM 48 1, ⟨some 49, none, .callF true 12 [(.t 48), (.c (.int .u8 54))]⟩, oM 47 49, oE 50 47 0, oE 51 47 1, oM 11 50, oM 12 51])
  (.seq (.ops [oM 53 1, ⟨some 54, none, .callF true 12 [(.t 53), (.c (.int .u8 51))]⟩, oM 52 54, oE 55 52 0, oE 56 52 1, oM 13 55, oM 14 56])
  (.seq (.ops [oM 58 1, ⟨some 59, none, .callF true 13 [(.t 58), (.c (.int .u8 54)), (.c (.int .i64 4))]⟩, oM 57 59, oE 60 57 0, oE 61 57 1, oM 15 60, oM 16 61])
  (.seq (.ops [oM 63 1, ⟨some 64, none, .callF true 13 [(.t 63), (.c (.int .u8 54)), (.c (.int .i64 1))]⟩, oM 62 64, oE 65 62 0, oE 66 62 1, oM 17 65, oM 18 66])
  (.seq (.ops [oM 67 2, ⟨some 68, none, .bin .eql (.t 67) (.c (.int .i64 0))⟩, oM 69 68, gM 70 69 true 1, ⟨some 71, (some (69, true)), .len (.t 70)⟩, ⟨some 72, (some (69, true)), .bin .eql (.t 71) (.c (.int .i64 2))⟩, oN 73 69 72, oM 74 73, gM 75 74 true 4, ⟨some 76, (some (74, true)), .bin .eql (.t 75) (.c (.int .i64 12))⟩, oN 77 74 76, oM 78 77, gM 79 78 true 6, ⟨some 80, (some (78, true)), .bin .eql (.t 79) (.c (.int .i64 0))⟩, oN 81 78 80, oM 82 81, gM 83 82 true 8, ⟨some 84, (some (82, true)), .bin .eql (.t 83) (.c (.int .i64 10))⟩, oN 85 82 84, oM 86 85, gM 87 86 true 10, ⟨some 88, (some (86, true)), .bin .eql (.t 87) (.c (.int .i64 11))⟩, oN 89 86 88, oM 90 89, gM 91 90 true 5, ⟨some 92, (some (90, true)), .buildR 1 5 [(.c (.int .u8 53)), (.c (.int .u8 1)), (.c (.int .u8 1)), (.c (.int .u8 54)), (.c (.int .u8 4)), (.c (.int .u8 10)), (.c (.int .u8 0)), (.c (.int .u8 0)), (.c (.int .u8 1)), (.c (.int .u8 255))]⟩, ⟨some 93, (some (90, true)), .callF true 10 [(.t 91), (.t 92)]⟩, oN 94 90 93, oM 95 94, gM 96 95 true 12, oN 97 95 96, oM 98 97, gM 99 98 true 11, ⟨some 100, (some (98, true)), .len (.t 99)⟩, ⟨some 101, (some (98, true)), .bin .eql (.t 100) (.c (.int .i64 4))⟩, oN 102 98 101, oM 103 102, gM 104 103 true 14, ⟨some 105, (some (103, true)), .un .not (.t 104)⟩, oN 106 103 105, oM 107 106, gM 108 107 true 16, oN 109 107 108, oM 110 109, gM 111 110 true 15, ⟨some 112, (some (110, true)), .bin .eql (.t 111) (.c (.int .u32 167772161))⟩, oN 113 110 112, oM 114 113, gM 115 114 true 18, ⟨some 116, (some (114, true)), .un .not (.t 115)⟩, oN 117 114 116, oM 118 117, gM 119 118 true 1, ⟨some 120, (some (118, true)), .callF true 15 [(.c (.int .u8 53)), (.c (.int .u8 1))]⟩, ⟨some 121, (some (118, true)), .callF true 16 [(.c (.int .u8 54)), (.c (.int .u32 167772161))]⟩, ⟨some 122, (some (118, true)), .buildR 2 35 [(.t 120), (.t 121)]⟩, ⟨some 123, (some (118, true)), .callF true 14 [(.t 119), (.t 122)]⟩, oN 124 118 123, oM 125 124, gM 126 125 true 1, ⟨some 127, (some (125, true)), .callF true 14 [(.t 126), (.c (.rs false 2 []))]⟩, ⟨some 128, (some (125, true)), .un .not (.t 127)⟩, oN 129 125 128, oM 0 129])
  .ret)))))))))))⟩
/- vizard/vizardref00.Own -/
def I5 : Fn_ := ⟨1, 6, [(2, none)],
  (.seq (.ops [⟨some 2, none, .mov (.c (.rs false 1 []))⟩])
  (.seq (.ops [⟨some 3, none, .buildSl 1 5 []⟩, oM 4 0, ⟨some 5, none, .append 1 1 5 (.t 3) (.t 4)⟩, oM 2 5])
  .ret))⟩
/- vizard/option.Parse -/
def B6_0 : C := (.seq (.seq (.ops [oM 8 0, ⟨some 9, none, .len (.t 8)⟩, ⟨some 10, none, .bin .gtr (.t 9) (.c (.int .i64 0))⟩])
  (.cond (.t 10)
  .skip
  (.exit 0)))
  (.block 1 (some [0, 4]) (.seq (.seq (.ops [oM 11 0, ⟨some 12, none, .iaddr 1 (.t 11) (.c (.int .i64 0))⟩, oL 13 12])
  (.block 2 (some [0, 4, 13]) (.seq (.ops [⟨some 15, none, .bin .eql (.t 13) (.c (.int .u8 255))⟩, oM 14 15])
  (.cond (.t 14)
  (.seq (.ops [oM 16 4, oM 2 16, ⟨some 3, none, .mov (.c (.int .i64 0))⟩])
  .ret)
  (.seq (.ops [⟨some 18, none, .bin .eql (.t 13) (.c (.int .u8 0))⟩, oM 17 18])
  (.cond (.t 17)
  (.seq (.ops [oM 19 0, ⟨some 20, none, .slice 1 (.t 19) (some (.c (.int .i64 1))) none⟩, oM 0 20])
  (.exit 1))
  .skip))))))
  (.seq (.ops [oM 22 0, ⟨some 23, none, .callM 17 [(.t 22)]⟩, oM 21 23, oE 24 21 0, oE 25 21 1, oE 26 21 2, ⟨some 5, none, .alloc true z_0 35⟩, oS 2 5 24, oM 6 25, oM 7 26])
  (.seq (.seq (.ops [oM 27 7, ⟨some 28, none, .bin .neq (.t 27) (.c (.int .i64 0))⟩])
  (.cond (.t 28)
  (.seq (.ops [oM 29 7, ⟨some 2, none, .mov (.c (.rs false 2 []))⟩, oM 3 29])
  .ret)
  .skip))
  (.ops [oM 30 4, ⟨some 31, none, .load true 2 (.t 5)⟩, ⟨some 32, none, .buildSl 2 35 [(.t 31)]⟩, ⟨some 33, none, .append 2 32 35 (.t 30) (.t 32)⟩, oM 34 6, oM 4 33, oM 0 34]))))))
def L6_0 : C := .loop (some [0, 4]) B6_0
theorem L6_0_eq {E : Env} (x : St) : ev E L6_0 x = andThen (ev E B6_0 (restr (some [0, 4]) x)) (ev E L6_0) := ev_loop _ _ x
theorem L6_0_lp {E : Env} (s : Slots) (h : Heap) : ev E L6_0 ⟨s, h⟩ = lp E L6_0 (pickS s [0, 4]) h := lp_of L6_0_eq s h
theorem L6_0_go {E : Env} (s : Slots) (h : Heap) : lp E L6_0 s h = andThen (ev E B6_0 ⟨pickS s [0, 4], h⟩) (ev E L6_0) := lp_go L6_0_eq s h
noncomputable def T6_0 (E : Env) (o : Out) : Option (AV × Heap) := outR [(2, none), (3, none)] (andThen (endBlock 0 (some [0, 4]) (o)) (ev E (.seq (.ops [⟨some 2, none, .mov (.c (.rs false 2 []))⟩, ⟨some 3, none, .mov (.c (.int .i64 12))⟩])
  .ret)))
def I6 : Fn_ := ⟨1, 35, [(2, none), (3, none)],
  (.seq (.ops [⟨some 2, none, .mov (.c (.rs false 2 []))⟩, ⟨some 3, none, .mov (.c (.int .i64 0))⟩])
  (.seq (.ops [⟨some 4, none, .nilrow 2 35⟩])
  (.seq (.block 0 (some [0, 4]) L6_0)
  (.seq (.ops [⟨some 2, none, .mov (.c (.rs false 2 []))⟩, ⟨some 3, none, .mov (.c (.int .i64 12))⟩])
  .ret))))⟩
/- vizard/vizardref23.Parse -/
def B7_0 : C := (.seq (.seq (.ops [oM 8 5, oM 9 0, ⟨some 10, none, .len (.t 9)⟩, ⟨some 11, none, .bin .lss (.t 8) (.t 10)⟩])
  (.cond (.t 11)
  .skip
  (.exit 0)))
  (.block 1 (some [0, 4, 5]) (.seq (.seq (.ops [oM 12 0, oM 13 5, ⟨some 14, none, .iaddr 1 (.t 12) (.t 13)⟩, oL 15 14, ⟨some 16, none, .bin .eql (.t 15) (.c (.int .u8 255))⟩])
  (.cond (.t 16)
  (.seq (.ops [oM 17 4, oM 2 17, ⟨some 3, none, .mov (.c (.int .i64 0))⟩])
  .ret)
  .skip))
  (.seq (.seq (.ops [oM 18 0, oM 19 5, ⟨some 20, none, .iaddr 1 (.t 18) (.t 19)⟩, oL 21 20, ⟨some 22, none, .bin .eql (.t 21) (.c (.int .u8 0))⟩])
  (.cond (.t 22)
  (.seq (.ops [oM 23 5, ⟨some 24, none, .bin .add (.t 23) (.c (.int .i64 1))⟩, oM 5 24])
  (.exit 1))
  .skip))
  (.seq (.seq (.ops [oM 25 5, ⟨some 26, none, .bin .add (.t 25) (.c (.int .i64 1))⟩, oM 27 0, ⟨some 28, none, .len (.t 27)⟩, ⟨some 29, none, .bin .geq (.t 26) (.t 28)⟩, oM 30 29, gM 31 30 false 5, ⟨some 32, (some (30, false)), .bin .add (.t 31) (.c (.int .i64 2))⟩, gM 33 30 false 0, gM 34 30 false 5, ⟨some 35, (some (30, false)), .bin .add (.t 34) (.c (.int .i64 1))⟩, ⟨some 36, (some (30, false)), .iaddr 1 (.t 33) (.t 35)⟩, gL 37 30 false 36, ⟨some 38, (some (30, false)), .conv .i64 (.t 37)⟩, ⟨some 39, (some (30, false)), .bin .add (.t 32) (.t 38)⟩, gM 40 30 false 0, ⟨some 41, (some (30, false)), .len (.t 40)⟩, ⟨some 42, (some (30, false)), .bin .gtr (.t 39) (.t 41)⟩, oT 43 30 42])
  (.cond (.t 43)
  (.seq (.ops [⟨some 2, none, .mov (.c (.rs false 2 []))⟩, ⟨some 3, none, .mov (.c (.int .i64 12))⟩])
  .ret)
  .skip))
  (.seq (.ops [oM 44 0, oM 45 5, ⟨some 46, none, .bin .add (.t 45) (.c (.int .i64 1))⟩, ⟨some 47, none, .iaddr 1 (.t 44) (.t 46)⟩, oL 48 47, ⟨some 49, none, .conv .i64 (.t 48)⟩, oM 6 49])
  (.seq (.ops [oM 50 4, oM 51 0, oM 52 5, ⟨some 53, none, .iaddrR 1 (.t 51) (.t 52)⟩, ⟨some 54, none, .loadC false 1 (.t 53)⟩, ⟨some 55, none, .buildSl 1 5 []⟩, oM 56 0, oM 57 5, ⟨some 58, none, .bin .add (.t 57) (.c (.int .i64 2))⟩, oM 59 5, ⟨some 60, none, .bin .add (.t 59) (.c (.int .i64 2))⟩, oM 61 6, ⟨some 62, none, .bin .add (.t 60) (.t 61)⟩, ⟨some 63, none, .sliceR 1 (.t 56) (some (.t 58)) (some (.t 62))⟩, ⟨some 64, none, .appF 1 1 5 (.t 55) (.t 63)⟩, ⟨some 65, none, .build z_0 [(0, 1, (.t 54)), (1, 1, (.t 64))]⟩, ⟨some 66, none, .buildR 2 50 [(.t 65)]⟩, ⟨some 67, none, .append 2 32 50 (.t 50) (.t 66)⟩, oM 4 67])
  (.ops [oM 68 5, oM 69 6, ⟨some 70, none, .bin .add (.c (.int .i64 2)) (.t 69)⟩, ⟨some 71, none, .bin .add (.t 68) (.t 70)⟩, oM 5 71]))))))))
def L7_0 : C := .loop (some [0, 4, 5]) B7_0
theorem L7_0_eq {E : Env} (x : St) : ev E L7_0 x = andThen (ev E B7_0 (restr (some [0, 4, 5]) x)) (ev E L7_0) := ev_loop _ _ x
theorem L7_0_lp {E : Env} (s : Slots) (h : Heap) : ev E L7_0 ⟨s, h⟩ = lp E L7_0 (pickS s [0, 4, 5]) h := lp_of L7_0_eq s h
theorem L7_0_go {E : Env} (s : Slots) (h : Heap) : lp E L7_0 s h = andThen (ev E B7_0 ⟨pickS s [0, 4, 5], h⟩) (ev E L7_0) := lp_go L7_0_eq s h
noncomputable def T7_0 (E : Env) (o : Out) : Option (AV × Heap) := outR [(2, none), (3, none)] (andThen (endBlock 0 (some [0, 4, 5]) (o)) (ev E (.seq (.ops [⟨some 2, none, .mov (.c (.rs false 2 []))⟩, ⟨some 3, none, .mov (.c (.int .i64 12))⟩])
  .ret)))
def I7 : Fn_ := ⟨1, 72, [(2, none), (3, none)],
  (.seq (.ops [⟨some 2, none, .mov (.c (.rs false 2 []))⟩, ⟨some 3, none, .mov (.c (.int .i64 0))⟩])
  (.seq (.ops [⟨some 7, none, .buildSl 2 50 []⟩, oM 4 7])
  (.seq (.ops [⟨some 5, none, .mov (.c (.int .i64 0))⟩])
  (.seq (.block 0 (some [0, 4, 5]) L7_0)
  (.seq (.ops [⟨some 2, none, .mov (.c (.rs false 2 []))⟩, ⟨some 3, none, .mov (.c (.int .i64 12))⟩])
  .ret)))))⟩
/- vizard/vizardref23.Same -/
def B8_0 : C := (.seq (.seq (.ops [oM 11 5, oM 12 0, ⟨some 13, none, .len (.t 12)⟩, ⟨some 14, none, .bin .lss (.t 11) (.t 13)⟩])
  (.cond (.t 14)
  .skip
  (.exit 0)))
  (.seq (.block 1 (some [0, 1, 5]) (.seq (.ops [oM 17 0, oM 18 5, ⟨some 19, none, .iaddr 2 (.t 17) (.t 18)⟩, oF 20 0 19, oL 21 20, oM 22 1, oM 23 5, ⟨some 24, none, .iaddr 2 (.t 22) (.t 23)⟩, oF 25 0 24, oL 26 25, ⟨some 27, none, .bin .neq (.t 21) (.t 26)⟩, oM 28 27, gM 29 28 false 0, gM 30 28 false 5, ⟨some 31, (some (28, false)), .iaddr 2 (.t 29) (.t 30)⟩, gF 32 28 false 1 31, gL 33 28 false 32, ⟨some 34, (some (28, false)), .toStr (.t 33)⟩, gM 35 28 false 1, gM 36 28 false 5, ⟨some 37, (some (28, false)), .iaddr 2 (.t 35) (.t 36)⟩, gF 38 28 false 1 37, gL 39 28 false 38, ⟨some 40, (some (28, false)), .toStr (.t 39)⟩, ⟨some 41, (some (28, false)), .bin .neq (.t 34) (.t 40)⟩, oT 42 28 41])
  (.cond (.t 42)
  (.seq (.ops [⟨some 4, none, .mov (.c (.bool false))⟩])
  .ret)
  .skip)))
  (.ops [oM 15 5, ⟨some 16, none, .bin .add (.t 15) (.c (.int .i64 1))⟩, oM 5 16])))
def L8_0 : C := .loop (some [0, 1, 5]) B8_0
theorem L8_0_eq {E : Env} (x : St) : ev E L8_0 x = andThen (ev E B8_0 (restr (some [0, 1, 5]) x)) (ev E L8_0) := ev_loop _ _ x
theorem L8_0_lp {E : Env} (s : Slots) (h : Heap) : ev E L8_0 ⟨s, h⟩ = lp E L8_0 (pickS s [0, 1, 5]) h := lp_of L8_0_eq s h
theorem L8_0_go {E : Env} (s : Slots) (h : Heap) : lp E L8_0 s h = andThen (ev E B8_0 ⟨pickS s [0, 1, 5], h⟩) (ev E L8_0) := lp_go L8_0_eq s h
noncomputable def T8_0 (E : Env) (o : Out) : Option (AV × Heap) := outR [(4, none)] (andThen (endBlock 0 (some [0, 1, 5]) (o)) (ev E (.seq (.ops [⟨some 4, none, .mov (.c (.bool true))⟩])
  .ret)))
def I8 : Fn_ := ⟨2, 43, [(4, none)],
  (.seq (.ops [⟨some 4, none, .mov (.c (.bool false))⟩])
  (.seq (.seq (.ops [oM 6 0, ⟨some 7, none, .len (.t 6)⟩, oM 8 1, ⟨some 9, none, .len (.t 8)⟩, ⟨some 10, none, .bin .neq (.t 7) (.t 9)⟩])
  (.cond (.t 10)
  (.seq (.ops [⟨some 4, none, .mov (.c (.bool false))⟩])
  .ret)
  .skip))
  (.seq (.seq (.ops [⟨some 5, none, .mov (.c (.int .i64 0))⟩])
  (.block 0 (some [0, 1, 5]) L8_0))
  (.seq (.ops [⟨some 4, none, .mov (.c (.bool true))⟩])
  .ret))))⟩
/- vizard/vizardlaw23.Of -/
def B9_0 : C := (.seq (.seq (.ops [oM 6 4, oM 7 0, ⟨some 8, none, .len (.t 7)⟩, ⟨some 9, none, .bin .lss (.t 6) (.t 8)⟩])
  (.cond (.t 9)
  .skip
  (.exit 0)))
  (.seq (.block 1 (some [0, 3, 4]) (.ops [oM 12 3, oM 13 0, oM 14 4, ⟨some 15, none, .iaddr 2 (.t 13) (.t 14)⟩, oF 16 0 15, oL 17 16, oM 18 0, oM 19 4, ⟨some 20, none, .iaddr 2 (.t 18) (.t 19)⟩, oF 21 1 20, oL 22 21, ⟨some 23, none, .callF true 5 [(.t 22)]⟩, ⟨some 24, none, .build z_0 [(0, 1, (.t 17)), (1, 1, (.t 23))]⟩, ⟨some 25, none, .buildR 2 50 [(.t 24)]⟩, ⟨some 26, none, .append 2 32 50 (.t 12) (.t 25)⟩, oM 3 26]))
  (.ops [oM 10 4, ⟨some 11, none, .bin .add (.t 10) (.c (.int .i64 1))⟩, oM 4 11])))
def L9_0 : C := .loop (some [0, 3, 4]) B9_0
theorem L9_0_eq {E : Env} (x : St) : ev E L9_0 x = andThen (ev E B9_0 (restr (some [0, 3, 4]) x)) (ev E L9_0) := ev_loop _ _ x
theorem L9_0_lp {E : Env} (s : Slots) (h : Heap) : ev E L9_0 ⟨s, h⟩ = lp E L9_0 (pickS s [0, 3, 4]) h := lp_of L9_0_eq s h
theorem L9_0_go {E : Env} (s : Slots) (h : Heap) : lp E L9_0 s h = andThen (ev E B9_0 ⟨pickS s [0, 3, 4], h⟩) (ev E L9_0) := lp_go L9_0_eq s h
noncomputable def T9_0 (E : Env) (o : Out) : Option (AV × Heap) := outR [(2, none)] (andThen (endBlock 0 (some [0, 3, 4]) (o)) (ev E (.seq (.ops [oM 27 3, oM 2 27])
  .ret)))
def I9 : Fn_ := ⟨1, 28, [(2, none)],
  (.seq (.ops [⟨some 2, none, .mov (.c (.rs false 2 []))⟩])
  (.seq (.ops [⟨some 5, none, .buildSl 2 50 []⟩, oM 3 5])
  (.seq (.seq (.ops [⟨some 4, none, .mov (.c (.int .i64 0))⟩])
  (.block 0 (some [0, 3, 4]) L9_0))
  (.seq (.ops [oM 27 3, oM 2 27])
  .ret))))⟩
/- vizard/vizardref00.SameBytes -/
def B10_0 : C := (.seq (.seq (.ops [oM 11 5, oM 12 0, ⟨some 13, none, .len (.t 12)⟩, ⟨some 14, none, .bin .lss (.t 11) (.t 13)⟩])
  (.cond (.t 14)
  .skip
  (.exit 0)))
  (.seq (.block 1 (some [0, 1, 5]) (.seq (.ops [oM 17 0, oM 18 5, ⟨some 19, none, .iaddr 1 (.t 17) (.t 18)⟩, oL 20 19, oM 21 1, oM 22 5, ⟨some 23, none, .iaddr 1 (.t 21) (.t 22)⟩, oL 24 23, ⟨some 25, none, .bin .neq (.t 20) (.t 24)⟩])
  (.cond (.t 25)
  (.seq (.ops [⟨some 4, none, .mov (.c (.bool false))⟩])
  .ret)
  .skip)))
  (.ops [oM 15 5, ⟨some 16, none, .bin .add (.t 15) (.c (.int .i64 1))⟩, oM 5 16])))
def L10_0 : C := .loop (some [0, 1, 5]) B10_0
theorem L10_0_eq {E : Env} (x : St) : ev E L10_0 x = andThen (ev E B10_0 (restr (some [0, 1, 5]) x)) (ev E L10_0) := ev_loop _ _ x
theorem L10_0_lp {E : Env} (s : Slots) (h : Heap) : ev E L10_0 ⟨s, h⟩ = lp E L10_0 (pickS s [0, 1, 5]) h := lp_of L10_0_eq s h
theorem L10_0_go {E : Env} (s : Slots) (h : Heap) : lp E L10_0 s h = andThen (ev E B10_0 ⟨pickS s [0, 1, 5], h⟩) (ev E L10_0) := lp_go L10_0_eq s h
noncomputable def T10_0 (E : Env) (o : Out) : Option (AV × Heap) := outR [(4, none)] (andThen (endBlock 0 (some [0, 1, 5]) (o)) (ev E (.seq (.ops [⟨some 4, none, .mov (.c (.bool true))⟩])
  .ret)))
def I10 : Fn_ := ⟨2, 26, [(4, none)],
  (.seq (.ops [⟨some 4, none, .mov (.c (.bool false))⟩])
  (.seq (.seq (.ops [oM 6 0, ⟨some 7, none, .len (.t 6)⟩, oM 8 1, ⟨some 9, none, .len (.t 8)⟩, ⟨some 10, none, .bin .neq (.t 7) (.t 9)⟩])
  (.cond (.t 10)
  (.seq (.ops [⟨some 4, none, .mov (.c (.bool false))⟩])
  .ret)
  .skip))
  (.seq (.seq (.ops [⟨some 5, none, .mov (.c (.int .i64 0))⟩])
  (.block 0 (some [0, 1, 5]) L10_0))
  (.seq (.ops [⟨some 4, none, .mov (.c (.bool true))⟩])
  .ret))))⟩
/- vizard/option.Bytes -/
def B11_0 : C := (.seq (.ops [⟨some 10, none, .bin .lss (.t 9) (.t 8)⟩])
  (.seq (.cond (.t 10)
  .skip
  (.exit 0))
  (.seq (.block 1 (some [4, 7, 8, 9]) (.seq (.ops [⟨some 11, none, .iaddr 2 (.t 7) (.t 9)⟩, ⟨some 12, none, .load true 2 (.t 11)⟩, ⟨some 6, none, .alloc true z_0 35⟩, oS 2 6 12])
  (.seq (.block 2 (some [4, 6, 7, 8, 9]) (.seq (.ops [oF 14 0 6, oL 15 14, ⟨some 16, none, .bin .eql (.t 15) (.c (.int .u8 0))⟩, oM 17 16, gF 18 17 false 0 6, gL 19 17 false 18, ⟨some 20, (some (17, false)), .bin .eql (.t 19) (.c (.int .u8 255))⟩, oT 21 17 20, oM 13 21])
  (.cond (.t 13)
  (.seq (.ops [⟨some 2, none, .mov (.c (.rs false 1 []))⟩, ⟨some 3, none, .mov (.c (.int .i64 10))⟩])
  .ret)
  (.seq (.ops [oF 23 1 6, oL 24 23, ⟨some 25, none, .len (.t 24)⟩, ⟨some 26, none, .bin .gtr (.t 25) (.c (.int .i64 255))⟩, oM 22 26])
  (.cond (.t 22)
  (.seq (.ops [⟨some 2, none, .mov (.c (.rs false 1 []))⟩, ⟨some 3, none, .mov (.c (.int .i64 11))⟩])
  .ret)
  .skip)))))
  (.ops [oM 27 4, oF 28 0 6, oL 29 28, oF 30 1 6, oL 31 30, ⟨some 32, none, .len (.t 31)⟩, ⟨some 33, none, .conv .u8 (.t 32)⟩, ⟨some 34, none, .buildR 1 5 [(.t 29), (.t 33)]⟩, ⟨some 35, none, .append 1 1 5 (.t 27) (.t 34)⟩, oF 36 1 6, ⟨some 37, none, .loadC false 1 (.t 36)⟩, ⟨some 38, none, .append 1 1 5 (.t 35) (.t 37)⟩, oM 4 38]))))
  (.ops [⟨some 39, none, .bin .add (.t 9) (.c (.int .i64 1))⟩, oM 9 39]))))
def L11_0 : C := .loop (some [4, 7, 8, 9]) B11_0
theorem L11_0_eq {E : Env} (x : St) : ev E L11_0 x = andThen (ev E B11_0 (restr (some [4, 7, 8, 9]) x)) (ev E L11_0) := ev_loop _ _ x
theorem L11_0_lp {E : Env} (s : Slots) (h : Heap) : ev E L11_0 ⟨s, h⟩ = lp E L11_0 (pickS s [4, 7, 8, 9]) h := lp_of L11_0_eq s h
theorem L11_0_go {E : Env} (s : Slots) (h : Heap) : lp E L11_0 s h = andThen (ev E B11_0 ⟨pickS s [4, 7, 8, 9], h⟩) (ev E L11_0) := lp_go L11_0_eq s h
noncomputable def T11_0 (E : Env) (o : Out) : Option (AV × Heap) := outR [(2, none), (3, none)] (andThen (endBlock 0 (some [4, 7, 8, 9]) (o)) (ev E (.seq (.ops [oM 40 4, ⟨some 41, none, .buildR 1 5 [(.c (.int .u8 255))]⟩, ⟨some 42, none, .append 1 1 5 (.t 40) (.t 41)⟩, oM 2 42, ⟨some 3, none, .mov (.c (.int .i64 0))⟩])
  .ret)))
def I11 : Fn_ := ⟨1, 43, [(2, none), (3, none)],
  (.seq (.ops [⟨some 2, none, .mov (.c (.rs false 1 []))⟩, ⟨some 3, none, .mov (.c (.int .i64 0))⟩])
  (.seq (.ops [⟨some 4, none, .nilrow 1 5⟩])
  (.seq (.seq (.ops [oM 7 0, ⟨some 8, none, .len (.t 7)⟩, ⟨some 9, none, .mov (.c (.int .i64 0))⟩])
  (.block 0 (some [4, 7, 8, 9]) L11_0))
  (.seq (.ops [oM 40 4, ⟨some 41, none, .buildR 1 5 [(.c (.int .u8 255))]⟩, ⟨some 42, none, .append 1 1 5 (.t 40) (.t 41)⟩, oM 2 42, ⟨some 3, none, .mov (.c (.int .i64 0))⟩])
  .ret))))⟩
/- vizard/option.Find -/
def I12 : Fn_ := ⟨2, 18, [(4, none), (5, none)],
  (.seq (.ops [⟨some 3, none, .box false 5 (.t 1)⟩, ⟨some 4, none, .mov (.c (.rs false 1 []))⟩, ⟨some 5, none, .mov (.c (.bool false))⟩])
  (.seq (.ops [oM 7 0, ⟨some 8, none, .mkFn 19 [(.t 3)]⟩, ⟨some 9, none, .callF false 18 [(.t 7), (.t 8)]⟩, oM 6 9])
  (.seq (.seq (.ops [oM 10 6, ⟨some 11, none, .bin .lss (.t 10) (.c (.int .i64 0))⟩])
  (.cond (.t 11)
  (.seq (.ops [⟨some 4, none, .mov (.c (.rs false 1 []))⟩, ⟨some 5, none, .mov (.c (.bool false))⟩])
  .ret)
  .skip))
  (.seq (.ops [oM 12 0, oM 13 6, ⟨some 14, none, .iaddr 2 (.t 12) (.t 13)⟩, oF 15 1 14, oL 16 15, ⟨some 17, none, .callF false 20 [(.t 16)]⟩, oM 4 17, ⟨some 5, none, .mov (.c (.bool true))⟩])
  .ret))))⟩
/- vizard/option.Number -/
def I13 : Fn_ := ⟨3, 40, [(6, none), (7, none)],
  (.seq (.ops [⟨some 6, none, .mov (.c (.int .u32 0))⟩, ⟨some 7, none, .mov (.c (.bool false))⟩])
  (.seq (.ops [oM 13 0, oM 14 1, ⟨some 15, none, .callF false 12 [(.t 13), (.t 14)]⟩, oM 12 15, oE 16 12 0, oE 17 12 1, oM 8 16, oM 9 17])
  (.seq (.seq (.ops [oM 18 9, ⟨some 19, none, .un .not (.t 18)⟩, oM 20 19, gM 21 20 false 2, ⟨some 22, (some (20, false)), .bin .gtr (.t 21) (.c (.int .i64 4))⟩, oT 23 20 22, oM 24 23, gM 25 24 false 8, ⟨some 26, (some (24, false)), .len (.t 25)⟩, gM 27 24 false 2, ⟨some 28, (some (24, false)), .bin .neq (.t 26) (.t 27)⟩, oT 29 24 28])
  (.cond (.t 29)
  (.seq (.ops [⟨some 6, none, .mov (.c (.int .u32 0))⟩, ⟨some 7, none, .mov (.c (.bool false))⟩])
  .ret)
  .skip))
  (.seq (.ops [oM 31 8, oM 32 2, ⟨some 33, none, .callF false 21 [(.t 31), (.c (.int .i64 0)), (.t 32)]⟩, oM 30 33, oE 34 30 0, oE 35 30 1, oM 10 34, oM 11 35])
  (.seq (.ops [oM 36 10, ⟨some 37, none, .conv .u32 (.t 36)⟩, oM 38 11, ⟨some 39, none, .bin .eql (.t 38) (.c (.int .i64 0))⟩, oM 6 37, oM 7 39])
  .ret)))))⟩
/- vizard/option.Same -/
def I14 : Fn_ := ⟨2, 8, [(4, none)],
  (.seq (.ops [⟨some 4, none, .mov (.c (.bool false))⟩])
  (.seq (.ops [oM 5 0, oM 6 1, ⟨some 7, none, .callF false 22 [(.t 5), (.t 6), (.c (.fn 23 []))]⟩, oM 4 7])
  .ret))⟩
/- vizard/option.One -/
def I15 : Fn_ := ⟨2, 9, [(4, some (true, 2))],
  (.seq (.ops [⟨some 4, none, .alloc true z_0 35⟩])
  (.seq (.ops [oM 5 0, oM 6 1, ⟨some 7, none, .buildR 1 5 [(.t 6)]⟩, ⟨some 8, none, .build z_0 [(0, 1, (.t 5)), (1, 1, (.t 7))]⟩, oS 2 4 8])
  .ret))⟩
/- vizard/option.Ip -/
def I16 : Fn_ := ⟨2, 17, [(4, some (true, 2))],
  (.seq (.ops [⟨some 4, none, .alloc true z_0 35⟩])
  (.seq (.ops [oM 8 1, ⟨some 9, none, .conv .u64 (.t 8)⟩, ⟨some 10, none, .buildR 1 53 [(.t 9)]⟩, ⟨some 11, none, .callF false 25 [(.c (.int .i64 4)), (.t 10)]⟩, oM 7 11, oE 12 7 0, oE 13 7 1, oM 5 12, oM 6 13])
  (.seq (.ops [oM 14 0, oM 15 5, ⟨some 16, none, .build z_0 [(0, 1, (.t 14)), (1, 1, (.t 15))]⟩, oS 2 4 16])
  .ret)))⟩
/- vizard/option.take -/
def I17 : Fn_ := ⟨1, 38, [(2, some (true, 2)), (3, none), (4, none)],
  (.seq (.ops [⟨some 2, none, .alloc true z_0 35⟩, ⟨some 3, none, .mov (.c (.rs false 1 []))⟩, ⟨some 4, none, .mov (.c (.int .i64 0))⟩])
  (.seq (.ops [oM 9 0, ⟨some 10, none, .callF false 21 [(.t 9), (.c (.int .i64 1)), (.c (.int .i64 1))]⟩, oM 8 10, oE 11 8 0, oE 12 8 1, oM 5 11, oM 6 12])
  (.seq (.seq (.ops [oM 13 6, ⟨some 14, none, .bin .neq (.t 13) (.c (.int .i64 0))⟩])
  (.cond (.t 14)
  (.seq (.ops [⟨some 15, none, .build z_0 []⟩, oM 16 6, oS 2 2 15, ⟨some 3, none, .mov (.c (.rs false 1 []))⟩, oM 4 16])
  .ret)
  .skip))
  (.seq (.ops [oM 18 0, oM 19 5, ⟨some 20, none, .conv .i64 (.t 19)⟩, ⟨some 21, none, .bin .add (.c (.int .i64 2)) (.t 20)⟩, ⟨some 22, none, .callF false 26 [(.t 18), (.c (.int .i64 2)), (.t 21)]⟩, oM 17 22, oE 23 17 0, oE 24 17 1, oM 7 23, oM 6 24])
  (.seq (.seq (.ops [oM 25 6, ⟨some 26, none, .bin .neq (.t 25) (.c (.int .i64 0))⟩])
  (.cond (.t 26)
  (.seq (.ops [⟨some 27, none, .build z_0 []⟩, oM 28 6, oS 2 2 27, ⟨some 3, none, .mov (.c (.rs false 1 []))⟩, oM 4 28])
  .ret)
  .skip))
  (.seq (.ops [oM 29 0, ⟨some 30, none, .iaddr 1 (.t 29) (.c (.int .i64 0))⟩, oL 31 30, oM 32 7, ⟨some 33, none, .build z_0 [(0, 1, (.t 31)), (1, 1, (.t 32))]⟩, oM 34 0, oM 35 5, ⟨some 36, none, .bin .add (.c (.int .u64 2)) (.t 35)⟩, ⟨some 37, none, .sliceR 1 (.t 34) (some (.t 36)) none⟩, oS 2 2 33, oM 3 37, ⟨some 4, none, .mov (.c (.int .i64 0))⟩])
  .ret))))))⟩
/- slices.IndexFunc[[]vizard/option.Option,vizard/option.Option] -/
def B18_0 : C := (.seq (.ops [⟨some 9, none, .bin .lss (.t 8) (.t 7)⟩])
  (.seq (.cond (.t 9)
  .skip
  (.exit 0))
  (.seq (.block 1 (some [0, 1, 7, 8]) (.seq (.ops [oM 10 8, oM 5 10])
  (.seq (.ops [oM 11 1, oM 12 0, oM 13 5, ⟨some 14, none, .iaddr 2 (.t 12) (.t 13)⟩, ⟨some 15, none, .load true 2 (.t 14)⟩, ⟨some 16, none, .callV false (.t 11) [(.t 15)]⟩])
  (.cond (.t 16)
  (.seq (.ops [oM 17 5, oM 4 17])
  .ret)
  .skip))))
  (.ops [⟨some 18, none, .bin .add (.t 8) (.c (.int .i64 1))⟩, oM 8 18]))))
def L18_0 : C := .loop (some [0, 1, 7, 8]) B18_0
theorem L18_0_eq {E : Env} (x : St) : ev E L18_0 x = andThen (ev E B18_0 (restr (some [0, 1, 7, 8]) x)) (ev E L18_0) := ev_loop _ _ x
theorem L18_0_lp {E : Env} (s : Slots) (h : Heap) : ev E L18_0 ⟨s, h⟩ = lp E L18_0 (pickS s [0, 1, 7, 8]) h := lp_of L18_0_eq s h
theorem L18_0_go {E : Env} (s : Slots) (h : Heap) : lp E L18_0 s h = andThen (ev E B18_0 ⟨pickS s [0, 1, 7, 8], h⟩) (ev E L18_0) := lp_go L18_0_eq s h
noncomputable def T18_0 (E : Env) (o : Out) : Option (AV × Heap) := outR [(4, none)] (andThen (endBlock 0 (some [0, 1, 7, 8]) (o)) (ev E (.seq (.ops [⟨some 4, none, .mov (.c (.int .i64 (-1)))⟩])
  .ret)))
def I18 : Fn_ := ⟨2, 19, [(4, none)],
  (.seq (.ops [⟨some 4, none, .mov (.c (.int .i64 0))⟩])
  (.seq (.seq (.ops [oM 6 0, ⟨some 7, none, .len (.t 6)⟩, ⟨some 8, none, .mov (.c (.int .i64 0))⟩])
  (.block 0 (some [0, 1, 7, 8]) L18_0))
  (.seq (.ops [⟨some 4, none, .mov (.c (.int .i64 (-1)))⟩])
  .ret)))⟩
/- vizard/option.Find$1 -/
def I19 : Fn_ := ⟨2, 8, [(3, none)],
  (.seq (.ops [⟨some 2, none, .box true 35 (.t 0)⟩, ⟨some 3, none, .mov (.c (.bool false))⟩])
  (.seq (.ops [oF 4 0 2, oL 5 4, oL 6 1, ⟨some 7, none, .bin .eql (.t 5) (.t 6)⟩, oM 3 7])
  .ret))⟩
/- slices.Clone[[]byte,byte] -/
def I20 : Fn_ := ⟨1, 8, [(2, none)],
  (.seq (.ops [⟨some 2, none, .mov (.c (.rs false 1 []))⟩])
  (.seq (.seq (.ops [oM 3 0, ⟨some 4, none, .eqNil false (.t 3)⟩])
  (.cond (.t 4)
  (.seq (.ops [⟨some 2, none, .mov (.c (.rs false 1 []))⟩])
  .ret)
  .skip))
  (.seq (.ops [⟨some 5, none, .buildSl 1 5 []⟩, oM 6 0, ⟨some 7, none, .append 1 1 5 (.t 5) (.t 6)⟩, oM 2 7])
  .ret)))⟩
/- vizard/word.At -/
def B21_0 : C := (.seq (.ops [⟨some 31, none, .bin .lss (.t 30) (.t 29)⟩])
  (.seq (.cond (.t 31)
  .skip
  (.exit 0))
  (.seq (.block 1 (some [9, 28, 29, 30]) (.seq (.ops [⟨some 32, none, .iaddr 1 (.t 28) (.t 30)⟩, oL 33 32, oM 11 33])
  (.ops [oM 34 9, ⟨some 35, none, .bin .shl (.t 34) (.c (.int .u64 8))⟩, oM 36 11, ⟨some 37, none, .conv .u64 (.t 36)⟩, ⟨some 38, none, .bin .or (.t 35) (.t 37)⟩, oM 9 38])))
  (.ops [⟨some 39, none, .bin .add (.t 30) (.c (.int .i64 1))⟩, oM 30 39]))))
def L21_0 : C := .loop (some [9, 28, 29, 30]) B21_0
theorem L21_0_eq {E : Env} (x : St) : ev E L21_0 x = andThen (ev E B21_0 (restr (some [9, 28, 29, 30]) x)) (ev E L21_0) := ev_loop _ _ x
theorem L21_0_lp {E : Env} (s : Slots) (h : Heap) : ev E L21_0 ⟨s, h⟩ = lp E L21_0 (pickS s [9, 28, 29, 30]) h := lp_of L21_0_eq s h
theorem L21_0_go {E : Env} (s : Slots) (h : Heap) : lp E L21_0 s h = andThen (ev E B21_0 ⟨pickS s [9, 28, 29, 30], h⟩) (ev E L21_0) := lp_go L21_0_eq s h
noncomputable def T21_0 (E : Env) (o : Out) : Option (AV × Heap) := outR [(6, none), (7, none)] (andThen (endBlock 0 (some [9, 28, 29, 30]) (o)) (ev E (.seq (.ops [oM 40 9, oM 6 40, ⟨some 7, none, .mov (.c (.int .i64 0))⟩])
  .ret)))
def I21 : Fn_ := ⟨3, 41, [(6, none), (7, none)],
  (.seq (.ops [⟨some 6, none, .mov (.c (.int .u64 0))⟩, ⟨some 7, none, .mov (.c (.int .i64 0))⟩])
  (.seq (.seq (.ops [oM 12 2, ⟨some 13, none, .callF false 27 [(.t 12)]⟩, ⟨some 14, none, .un .not (.t 13)⟩])
  (.cond (.t 14)
  (.seq (.ops [⟨some 6, none, .mov (.c (.int .u64 0))⟩, ⟨some 7, none, .mov (.c (.int .i64 11))⟩])
  .ret)
  .skip))
  (.seq (.seq (.ops [oM 15 0, ⟨some 16, none, .len (.t 15)⟩, oM 17 1, oM 18 2, ⟨some 19, none, .callF false 28 [(.t 16), (.t 17), (.t 18)]⟩, oM 8 19])
  (.seq (.ops [oM 20 8, ⟨some 21, none, .bin .neq (.t 20) (.c (.int .i64 0))⟩])
  (.cond (.t 21)
  (.seq (.ops [oM 22 8, ⟨some 6, none, .mov (.c (.int .u64 0))⟩, oM 7 22])
  .ret)
  .skip)))
  (.seq (.ops [⟨some 9, none, .mov (.c (.int .u64 0))⟩])
  (.seq (.seq (.ops [oM 23 0, oM 24 1, oM 25 1, oM 26 2, ⟨some 27, none, .bin .add (.t 25) (.t 26)⟩, ⟨some 28, none, .slice 1 (.t 23) (some (.t 24)) (some (.t 27))⟩, ⟨some 29, none, .len (.t 28)⟩, ⟨some 30, none, .mov (.c (.int .i64 0))⟩])
  (.block 0 (some [9, 28, 29, 30]) L21_0))
  (.seq (.ops [oM 40 9, oM 6 40, ⟨some 7, none, .mov (.c (.int .i64 0))⟩])
  .ret))))))⟩
/- slices.EqualFunc[[]vizard/option.Option,[]vizard/option.Option,vizard/option.Option,vizard/option.Option] -/
def B22_0 : C := (.seq (.ops [⟨some 18, none, .bin .lss (.t 17) (.t 16)⟩])
  (.seq (.cond (.t 18)
  .skip
  (.exit 0))
  (.seq (.block 1 (some [1, 2, 15, 16, 17]) (.seq (.ops [oM 19 17, ⟨some 20, none, .iaddr 2 (.t 15) (.t 17)⟩, ⟨some 21, none, .load true 2 (.t 20)⟩, ⟨some 8, none, .alloc true z_0 35⟩, oM 7 19, oS 2 8 21])
  (.seq (.ops [oM 22 1, oM 23 7, ⟨some 24, none, .iaddr 2 (.t 22) (.t 23)⟩, ⟨some 25, none, .load true 2 (.t 24)⟩, ⟨some 9, none, .alloc true z_0 35⟩, oS 2 9 25])
  (.seq (.ops [oM 26 2, ⟨some 27, none, .load true 2 (.t 8)⟩, ⟨some 28, none, .load true 2 (.t 9)⟩, ⟨some 29, none, .callV false (.t 26) [(.t 27), (.t 28)]⟩, ⟨some 30, none, .un .not (.t 29)⟩])
  (.cond (.t 30)
  (.seq (.ops [⟨some 6, none, .mov (.c (.bool false))⟩])
  .ret)
  .skip)))))
  (.ops [⟨some 31, none, .bin .add (.t 17) (.c (.int .i64 1))⟩, oM 17 31]))))
def L22_0 : C := .loop (some [1, 2, 15, 16, 17]) B22_0
theorem L22_0_eq {E : Env} (x : St) : ev E L22_0 x = andThen (ev E B22_0 (restr (some [1, 2, 15, 16, 17]) x)) (ev E L22_0) := ev_loop _ _ x
theorem L22_0_lp {E : Env} (s : Slots) (h : Heap) : ev E L22_0 ⟨s, h⟩ = lp E L22_0 (pickS s [1, 2, 15, 16, 17]) h := lp_of L22_0_eq s h
theorem L22_0_go {E : Env} (s : Slots) (h : Heap) : lp E L22_0 s h = andThen (ev E B22_0 ⟨pickS s [1, 2, 15, 16, 17], h⟩) (ev E L22_0) := lp_go L22_0_eq s h
noncomputable def T22_0 (E : Env) (o : Out) : Option (AV × Heap) := outR [(6, none)] (andThen (endBlock 0 (some [1, 2, 15, 16, 17]) (o)) (ev E (.seq (.ops [⟨some 6, none, .mov (.c (.bool true))⟩])
  .ret)))
def I22 : Fn_ := ⟨3, 32, [(6, none)],
  (.seq (.ops [⟨some 6, none, .mov (.c (.bool false))⟩])
  (.seq (.seq (.ops [oM 10 0, ⟨some 11, none, .len (.t 10)⟩, oM 12 1, ⟨some 13, none, .len (.t 12)⟩, ⟨some 14, none, .bin .neq (.t 11) (.t 13)⟩])
  (.cond (.t 14)
  (.seq (.ops [⟨some 6, none, .mov (.c (.bool false))⟩])
  .ret)
  .skip))
  (.seq (.seq (.ops [oM 15 0, ⟨some 16, none, .len (.t 15)⟩, ⟨some 17, none, .mov (.c (.int .i64 0))⟩])
  (.block 0 (some [1, 2, 15, 16, 17]) L22_0))
  (.seq (.ops [⟨some 6, none, .mov (.c (.bool true))⟩])
  .ret))))⟩
/- vizard/option.Same$1 -/
def I23 : Fn_ := ⟨2, 17, [(4, none)],
  (.seq (.ops [⟨some 2, none, .box true 35 (.t 0)⟩, ⟨some 3, none, .box true 35 (.t 1)⟩, ⟨some 4, none, .mov (.c (.bool false))⟩])
  (.seq (.ops [oF 5 0 2, oL 6 5, oF 7 0 3, oL 8 7, ⟨some 9, none, .bin .eql (.t 6) (.t 8)⟩, oM 10 9, gF 11 10 true 1 2, gL 12 10 true 11, gF 13 10 true 1 3, gL 14 10 true 13, ⟨some 15, (some (10, true)), .callF false 24 [(.t 12), (.t 14)]⟩, oN 16 10 15, oM 4 16])
  .ret))⟩
/- bytes.Equal -/
def I24 : Fn_ := ⟨2, 10, [(4, none)],
  (.seq (.ops [⟨some 4, none, .mov (.c (.bool false))⟩])
  (.seq (.ops [oM 5 0, ⟨some 6, none, .toStr (.t 5)⟩, oM 7 1, ⟨some 8, none, .toStr (.t 7)⟩, ⟨some 9, none, .bin .eql (.t 6) (.t 8)⟩, oM 4 9])
  .ret))⟩
/- vizard/word.Row -/
def B25_0 : C := (.seq (.ops [⟨some 17, none, .bin .lss (.t 16) (.t 15)⟩])
  (.seq (.cond (.t 17)
  .skip
  (.exit 0))
  (.seq (.block 1 (some [0, 6, 14, 15, 16]) (.seq (.ops [⟨some 18, none, .iaddr 1 (.t 14) (.t 16)⟩, oL 19 18, oM 8 19])
  (.seq (.ops [oM 21 8, oM 22 0, ⟨some 23, none, .callF false 29 [(.t 21), (.t 22)]⟩, oM 20 23, oE 24 20 0, oE 25 20 1, oM 9 24, oM 10 25])
  (.seq (.seq (.ops [oM 26 10, ⟨some 27, none, .bin .neq (.t 26) (.c (.int .i64 0))⟩])
  (.cond (.t 27)
  (.seq (.ops [oM 28 10, ⟨some 4, none, .mov (.c (.rs false 1 []))⟩, oM 5 28])
  .ret)
  .skip))
  (.ops [oM 29 6, oM 30 9, ⟨some 31, none, .append 1 1 5 (.t 29) (.t 30)⟩, oM 6 31])))))
  (.ops [⟨some 32, none, .bin .add (.t 16) (.c (.int .i64 1))⟩, oM 16 32]))))
def L25_0 : C := .loop (some [0, 6, 14, 15, 16]) B25_0
theorem L25_0_eq {E : Env} (x : St) : ev E L25_0 x = andThen (ev E B25_0 (restr (some [0, 6, 14, 15, 16]) x)) (ev E L25_0) := ev_loop _ _ x
theorem L25_0_lp {E : Env} (s : Slots) (h : Heap) : ev E L25_0 ⟨s, h⟩ = lp E L25_0 (pickS s [0, 6, 14, 15, 16]) h := lp_of L25_0_eq s h
theorem L25_0_go {E : Env} (s : Slots) (h : Heap) : lp E L25_0 s h = andThen (ev E B25_0 ⟨pickS s [0, 6, 14, 15, 16], h⟩) (ev E L25_0) := lp_go L25_0_eq s h
noncomputable def T25_0 (E : Env) (o : Out) : Option (AV × Heap) := outR [(4, none), (5, none)] (andThen (endBlock 0 (some [0, 6, 14, 15, 16]) (o)) (ev E (.seq (.ops [oM 33 6, oM 4 33, ⟨some 5, none, .mov (.c (.int .i64 0))⟩])
  .ret)))
def I25 : Fn_ := ⟨2, 34, [(4, none), (5, none)],
  (.seq (.ops [⟨some 4, none, .mov (.c (.rs false 1 []))⟩, ⟨some 5, none, .mov (.c (.int .i64 0))⟩])
  (.seq (.seq (.ops [oM 11 0, ⟨some 12, none, .callF false 27 [(.t 11)]⟩, ⟨some 13, none, .un .not (.t 12)⟩])
  (.cond (.t 13)
  (.seq (.ops [⟨some 4, none, .mov (.c (.rs false 1 []))⟩, ⟨some 5, none, .mov (.c (.int .i64 11))⟩])
  .ret)
  .skip))
  (.seq (.ops [⟨some 6, none, .nilrow 1 5⟩])
  (.seq (.seq (.ops [oM 14 1, ⟨some 15, none, .len (.t 14)⟩, ⟨some 16, none, .mov (.c (.int .i64 0))⟩])
  (.block 0 (some [0, 6, 14, 15, 16]) L25_0))
  (.seq (.ops [oM 33 6, oM 4 33, ⟨some 5, none, .mov (.c (.int .i64 0))⟩])
  .ret)))))⟩
/- vizard/word.Cut -/
def I26 : Fn_ := ⟨3, 26, [(6, none), (7, none)],
  (.seq (.ops [⟨some 6, none, .mov (.c (.rs false 1 []))⟩, ⟨some 7, none, .mov (.c (.int .i64 0))⟩])
  (.seq (.block 0 (some [0, 1, 2]) (.seq (.ops [oM 9 1, ⟨some 10, none, .bin .lss (.t 9) (.c (.int .i64 0))⟩, oM 11 10, gM 12 11 false 2, gM 13 11 false 1, ⟨some 14, (some (11, false)), .bin .lss (.t 12) (.t 13)⟩, oT 15 11 14, oM 8 15])
  (.cond (.t 8)
  (.seq (.ops [⟨some 6, none, .mov (.c (.rs false 1 []))⟩, ⟨some 7, none, .mov (.c (.int .i64 11))⟩])
  .ret)
  (.seq (.ops [oM 17 2, oM 18 0, ⟨some 19, none, .len (.t 18)⟩, ⟨some 20, none, .bin .gtr (.t 17) (.t 19)⟩, oM 16 20])
  (.cond (.t 16)
  (.seq (.ops [⟨some 6, none, .mov (.c (.rs false 1 []))⟩, ⟨some 7, none, .mov (.c (.int .i64 12))⟩])
  .ret)
  .skip)))))
  (.seq (.ops [oM 21 0, oM 22 1, oM 23 2, ⟨some 24, none, .slice 1 (.t 21) (some (.t 22)) (some (.t 23))⟩, ⟨some 25, none, .callF false 20 [(.t 24)]⟩, oM 6 25, ⟨some 7, none, .mov (.c (.int .i64 0))⟩])
  .ret)))⟩
/- vizard/word.sized -/
def I27 : Fn_ := ⟨1, 9, [(2, none)],
  (.seq (.ops [⟨some 2, none, .mov (.c (.bool false))⟩])
  (.seq (.ops [oM 3 0, ⟨some 4, none, .bin .geq (.t 3) (.c (.int .i64 1))⟩, oM 5 4, gM 6 5 true 0, ⟨some 7, (some (5, true)), .bin .leq (.t 6) (.c (.int .i64 8))⟩, oN 8 5 7, oM 2 8])
  .ret))⟩
/- vizard/word.span -/
def I28 : Fn_ := ⟨3, 21, [(6, none)],
  (.seq (.ops [⟨some 6, none, .mov (.c (.int .i64 0))⟩])
  (.seq (.block 0 (some [0, 1, 2]) (.seq (.ops [oM 8 1, ⟨some 9, none, .bin .lss (.t 8) (.c (.int .i64 0))⟩, oM 7 9])
  (.cond (.t 7)
  (.seq (.ops [⟨some 6, none, .mov (.c (.int .i64 11))⟩])
  .ret)
  (.seq (.ops [oM 11 1, oM 12 0, ⟨some 13, none, .bin .gtr (.t 11) (.t 12)⟩, oM 14 13, gM 15 14 false 2, gM 16 14 false 0, gM 17 14 false 1, ⟨some 18, (some (14, false)), .bin .sub (.t 16) (.t 17)⟩, ⟨some 19, (some (14, false)), .bin .gtr (.t 15) (.t 18)⟩, oT 20 14 19, oM 10 20])
  (.cond (.t 10)
  (.seq (.ops [⟨some 6, none, .mov (.c (.int .i64 12))⟩])
  .ret)
  .skip)))))
  (.seq (.ops [⟨some 6, none, .mov (.c (.int .i64 0))⟩])
  .ret)))⟩
/- vizard/word.number -/
def B29_0 : C := (.seq (.seq (.ops [oM 25 7, ⟨some 26, none, .bin .geq (.t 25) (.c (.int .i64 0))⟩])
  (.cond (.t 26)
  .skip
  (.exit 0)))
  (.seq (.block 1 (some [0, 6, 7]) (.ops [oM 29 6, oM 30 0, oM 31 7, ⟨some 32, none, .bin .shr (.t 30) (.t 31)⟩, ⟨some 33, none, .conv .u8 (.t 32)⟩, ⟨some 34, none, .buildR 1 5 [(.t 33)]⟩, ⟨some 35, none, .append 1 1 5 (.t 29) (.t 34)⟩, oM 6 35]))
  (.ops [oM 27 7, ⟨some 28, none, .bin .sub (.t 27) (.c (.int .i64 8))⟩, oM 7 28])))
def L29_0 : C := .loop (some [0, 6, 7]) B29_0
theorem L29_0_eq {E : Env} (x : St) : ev E L29_0 x = andThen (ev E B29_0 (restr (some [0, 6, 7]) x)) (ev E L29_0) := ev_loop _ _ x
theorem L29_0_lp {E : Env} (s : Slots) (h : Heap) : ev E L29_0 ⟨s, h⟩ = lp E L29_0 (pickS s [0, 6, 7]) h := lp_of L29_0_eq s h
theorem L29_0_go {E : Env} (s : Slots) (h : Heap) : lp E L29_0 s h = andThen (ev E B29_0 ⟨pickS s [0, 6, 7], h⟩) (ev E L29_0) := lp_go L29_0_eq s h
noncomputable def T29_0 (E : Env) (o : Out) : Option (AV × Heap) := outR [(4, none), (5, none)] (andThen (endBlock 0 (some [0, 6, 7]) (o)) (ev E (.seq (.ops [oM 36 6, oM 4 36, ⟨some 5, none, .mov (.c (.int .i64 0))⟩])
  .ret)))
def I29 : Fn_ := ⟨2, 37, [(4, none), (5, none)],
  (.seq (.ops [⟨some 4, none, .mov (.c (.rs false 1 []))⟩, ⟨some 5, none, .mov (.c (.int .i64 0))⟩])
  (.seq (.seq (.ops [oM 8 1, ⟨some 9, none, .callF false 27 [(.t 8)]⟩, ⟨some 10, none, .un .not (.t 9)⟩, oM 11 10, gM 12 11 false 1, ⟨some 13, (some (11, false)), .bin .lss (.t 12) (.c (.int .i64 8))⟩, gM 14 11 false 13, gM 15 14 true 0, gM 16 14 true 1, ⟨some 17, (some (14, true)), .bin .mul (.c (.int .i64 8)) (.t 16)⟩, ⟨some 18, (some (14, true)), .bin .shr (.t 15) (.t 17)⟩, ⟨some 19, (some (14, true)), .bin .neq (.t 18) (.c (.int .u64 0))⟩, ⟨some 20, (some (11, false)), .pick (.t 14) (.t 19) (.c (.bool false))⟩, oT 21 11 20])
  (.cond (.t 21)
  (.seq (.ops [⟨some 4, none, .mov (.c (.rs false 1 []))⟩, ⟨some 5, none, .mov (.c (.int .i64 11))⟩])
  .ret)
  .skip))
  (.seq (.ops [⟨some 6, none, .nilrow 1 5⟩])
  (.seq (.seq (.ops [oM 22 1, ⟨some 23, none, .bin .sub (.t 22) (.c (.int .i64 1))⟩, ⟨some 24, none, .bin .mul (.c (.int .i64 8)) (.t 23)⟩, oM 7 24])
  (.block 0 (some [0, 6, 7]) L29_0))
  (.seq (.ops [oM 36 6, oM 4 36, ⟨some 5, none, .mov (.c (.int .i64 0))⟩])
  .ret)))))⟩

def fns : FuncId → Option Fn_
  | 2 => some I2
  | 3 => some I3
  | 4 => some I4
  | 5 => some I5
  | 6 => some I6
  | 7 => some I7
  | 8 => some I8
  | 9 => some I9
  | 10 => some I10
  | 11 => some I11
  | 12 => some I12
  | 13 => some I13
  | 14 => some I14
  | 15 => some I15
  | 16 => some I16
  | 17 => some I17
  | 18 => some I18
  | 19 => some I19
  | 20 => some I20
  | 21 => some I21
  | 22 => some I22
  | 23 => some I23
  | 24 => some I24
  | 25 => some I25
  | 26 => some I26
  | 27 => some I27
  | 28 => some I28
  | 29 => some I29
  | _ => none

def keep : FuncId → Bool
  | 5 => true
  | 20 => true
  | 26 => true
  | _ => false

theorem chk2 : chkFn Try.prog Try.f2 I2 = true := by kernel_rfl
theorem chk3 : chkFn Try.prog Try.f3 I3 = true := by kernel_rfl
theorem chk4 : chkFn Try.prog Try.f4 I4 = true := by kernel_rfl
theorem chk5 : chkFn Try.prog Try.f5 I5 = true := by kernel_rfl
theorem chk6 : chkFn Try.prog Try.f6 I6 = true := by kernel_rfl
theorem chk7 : chkFn Try.prog Try.f7 I7 = true := by kernel_rfl
theorem chk8 : chkFn Try.prog Try.f8 I8 = true := by kernel_rfl
theorem chk9 : chkFn Try.prog Try.f9 I9 = true := by kernel_rfl
theorem chk10 : chkFn Try.prog Try.f10 I10 = true := by kernel_rfl
theorem chk11 : chkFn Try.prog Try.f11 I11 = true := by kernel_rfl
theorem chk12 : chkFn Try.prog Try.f12 I12 = true := by kernel_rfl
theorem chk13 : chkFn Try.prog Try.f13 I13 = true := by kernel_rfl
theorem chk14 : chkFn Try.prog Try.f14 I14 = true := by kernel_rfl
theorem chk15 : chkFn Try.prog Try.f15 I15 = true := by kernel_rfl
theorem chk16 : chkFn Try.prog Try.f16 I16 = true := by kernel_rfl
theorem chk17 : chkFn Try.prog Try.f17 I17 = true := by kernel_rfl
theorem chk18 : chkFn Try.prog Try.f18 I18 = true := by kernel_rfl
theorem chk19 : chkFn Try.prog Try.f19 I19 = true := by kernel_rfl
theorem chk20 : chkFn Try.prog Try.f20 I20 = true := by kernel_rfl
theorem chk21 : chkFn Try.prog Try.f21 I21 = true := by kernel_rfl
theorem chk22 : chkFn Try.prog Try.f22 I22 = true := by kernel_rfl
theorem chk23 : chkFn Try.prog Try.f23 I23 = true := by kernel_rfl
theorem chk24 : chkFn Try.prog Try.f24 I24 = true := by kernel_rfl
theorem chk25 : chkFn Try.prog Try.f25 I25 = true := by kernel_rfl
theorem chk26 : chkFn Try.prog Try.f26 I26 = true := by kernel_rfl
theorem chk27 : chkFn Try.prog Try.f27 I27 = true := by kernel_rfl
theorem chk28 : chkFn Try.prog Try.f28 I28 = true := by kernel_rfl
theorem chk29 : chkFn Try.prog Try.f29 I29 = true := by kernel_rfl

theorem fns_ok : ∀ f fn, fns f = some fn → ∃ func, Try.prog.funcs[f]? = some func ∧ chkFn Try.prog func fn = true := by
  intro f fn h
  unfold fns at h
  split at h
  · cases h; exact ⟨Try.f2, Try.func2, chk2⟩
  · cases h; exact ⟨Try.f3, Try.func3, chk3⟩
  · cases h; exact ⟨Try.f4, Try.func4, chk4⟩
  · cases h; exact ⟨Try.f5, Try.func5, chk5⟩
  · cases h; exact ⟨Try.f6, Try.func6, chk6⟩
  · cases h; exact ⟨Try.f7, Try.func7, chk7⟩
  · cases h; exact ⟨Try.f8, Try.func8, chk8⟩
  · cases h; exact ⟨Try.f9, Try.func9, chk9⟩
  · cases h; exact ⟨Try.f10, Try.func10, chk10⟩
  · cases h; exact ⟨Try.f11, Try.func11, chk11⟩
  · cases h; exact ⟨Try.f12, Try.func12, chk12⟩
  · cases h; exact ⟨Try.f13, Try.func13, chk13⟩
  · cases h; exact ⟨Try.f14, Try.func14, chk14⟩
  · cases h; exact ⟨Try.f15, Try.func15, chk15⟩
  · cases h; exact ⟨Try.f16, Try.func16, chk16⟩
  · cases h; exact ⟨Try.f17, Try.func17, chk17⟩
  · cases h; exact ⟨Try.f18, Try.func18, chk18⟩
  · cases h; exact ⟨Try.f19, Try.func19, chk19⟩
  · cases h; exact ⟨Try.f20, Try.func20, chk20⟩
  · cases h; exact ⟨Try.f21, Try.func21, chk21⟩
  · cases h; exact ⟨Try.f22, Try.func22, chk22⟩
  · cases h; exact ⟨Try.f23, Try.func23, chk23⟩
  · cases h; exact ⟨Try.f24, Try.func24, chk24⟩
  · cases h; exact ⟨Try.f25, Try.func25, chk25⟩
  · cases h; exact ⟨Try.f26, Try.func26, chk26⟩
  · cases h; exact ⟨Try.f27, Try.func27, chk27⟩
  · cases h; exact ⟨Try.f28, Try.func28, chk28⟩
  · cases h; exact ⟨Try.f29, Try.func29, chk29⟩
  · cases h

end Go.Fw.Code_
