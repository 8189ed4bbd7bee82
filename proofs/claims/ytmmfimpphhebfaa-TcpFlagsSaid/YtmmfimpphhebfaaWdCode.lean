/-
  The code of the functions that are evaluated, by program (irgen.py) out of the print of the loaded functions; checked against them below. Conditions: none.
-/
import Derived.Test.YtmmfimpphhebfaaFwU
import Derived.Test.YtmmfimpphhebfaaProg
import Derived.KernelRfl
set_option linter.unusedVariables false
set_option maxRecDepth 100000
namespace Go.Fw.Code_
open Go.Proofs

/- gosem.cut.init -/
def I2 : Fn_ := ⟨0, 1, [],
  (.ops [⟨some 0, none, .callF false 1 []⟩])⟩
/- vizard/vizardlaw09.TcpSpoilt -/
def I3 : Fn_ := ⟨5, 81, [(10, none)],
  (.seq (.ops [⟨some 10, none, .mov (.c (.bool false))⟩])
  (.seq (.seq (.ops [⟨some 16, none, .callF false 5 []⟩, ⟨some 17, none, .un .not (.t 16)⟩])
  (.cond (.t 17)
  (.seq (.ops [⟨some 10, none, .mov (.c (.bool false))⟩])
  .ret)
  .skip))
  (.seq (.ops [⟨some 19, none, .mov (.t 0)⟩, ⟨some 20, none, .mov (.t 1)⟩, ⟨some 21, none, .mov (.t 2)⟩, ⟨some 22, none, .callF false 6 [(.t 19), (.t 20), (.t 21)]⟩, ⟨some 18, none, .mov (.t 22)⟩, ⟨some 23, none, .ext (.t 18) 0⟩, ⟨some 24, none, .ext (.t 18) 1⟩, ⟨some 11, none, .alloc true [(.int .u16 0), (.int .u16 0), (.int .u8 0), (.rs false 1 [])] 27⟩, ⟨none, none, .store 4 (.t 11) (.t 23)⟩, ⟨some 12, none, .mov (.t 24)⟩])
  (.seq (.seq (.ops [⟨some 25, none, .mov (.t 0)⟩, ⟨some 26, none, .len (.t 25)⟩, ⟨some 27, none, .bin .gtr (.t 26) (.c (.int .i64 3000))⟩, ⟨some 28, none, .mov (.t 27)⟩, ⟨some 29, (some (28, false)), .mov (.t 12)⟩, ⟨some 30, (some (28, false)), .eqNl true true (.t 29)⟩, ⟨some 31, none, .pick (.t 28) (.c (.bool true)) (.t 30)⟩, ⟨some 32, none, .mov (.t 31)⟩, ⟨some 33, (some (32, false)), .mov (.t 3)⟩, ⟨some 34, (some (32, false)), .bin .lss (.t 33) (.c (.int .i64 0))⟩, ⟨some 35, none, .pick (.t 32) (.c (.bool true)) (.t 34)⟩, ⟨some 36, none, .mov (.t 35)⟩, ⟨some 37, (some (36, false)), .mov (.t 3)⟩, ⟨some 38, (some (36, false)), .mov (.t 0)⟩, ⟨some 39, (some (36, false)), .len (.t 38)⟩, ⟨some 40, (some (36, false)), .bin .geq (.t 37) (.t 39)⟩, ⟨some 41, none, .pick (.t 36) (.c (.bool true)) (.t 40)⟩, ⟨some 42, none, .mov (.t 41)⟩, ⟨some 43, (some (42, false)), .mov (.t 4)⟩, ⟨some 44, (some (42, false)), .bin .eql (.t 43) (.c (.int .u8 0))⟩, ⟨some 45, none, .pick (.t 42) (.c (.bool true)) (.t 44)⟩])
  (.cond (.t 45)
  (.seq (.ops [⟨some 10, none, .mov (.c (.bool true))⟩])
  .ret)
  .skip))
  (.seq (.ops [⟨some 46, none, .load true 4 (.t 11)⟩, ⟨some 47, none, .callF false 7 [(.t 46)]⟩, ⟨some 13, none, .mov (.t 47)⟩])
  (.seq (.seq (.ops [⟨some 48, none, .mov (.t 13)⟩, ⟨some 49, none, .mov (.t 0)⟩, ⟨some 50, none, .callF false 8 [(.t 48), (.t 49)]⟩, ⟨some 51, none, .un .not (.t 50)⟩])
  (.cond (.t 51)
  (.seq (.ops [⟨some 10, none, .mov (.c (.bool false))⟩])
  .ret)
  .skip))
  (.seq (.ops [⟨some 52, none, .mov (.t 13)⟩, ⟨some 53, none, .mov (.t 3)⟩, ⟨some 54, none, .iaddr 1 (.t 52) (.t 53)⟩, ⟨some 55, none, .load false 1 (.t 54)⟩, ⟨some 56, none, .mov (.t 4)⟩, ⟨some 57, none, .bin .add (.t 55) (.t 56)⟩, ⟨some 58, none, .iaddr 1 (.t 52) (.t 53)⟩, ⟨none, none, .store 1 (.t 58) (.t 57)⟩])
  (.seq (.ops [⟨some 60, none, .mov (.t 13)⟩, ⟨some 61, none, .mov (.t 1)⟩, ⟨some 62, none, .mov (.t 2)⟩, ⟨some 63, none, .callF false 6 [(.t 60), (.t 61), (.t 62)]⟩, ⟨some 59, none, .mov (.t 63)⟩, ⟨some 64, none, .ext (.t 59) 0⟩, ⟨some 65, none, .ext (.t 59) 1⟩, ⟨some 14, none, .alloc true [(.int .u16 0), (.int .u16 0), (.int .u8 0), (.rs false 1 [])] 27⟩, ⟨none, none, .store 4 (.t 14) (.t 64)⟩, ⟨some 15, none, .mov (.t 65)⟩])
  (.seq (.ops [⟨some 66, none, .mov (.t 15)⟩, ⟨some 67, none, .eqNl true true (.t 66)⟩, ⟨some 68, none, .mov (.t 67)⟩, ⟨some 69, (some (68, true)), .mov (.t 13)⟩, ⟨some 70, (some (68, true)), .mov (.t 1)⟩, ⟨some 71, (some (68, true)), .mov (.t 2)⟩, ⟨some 72, (some (68, true)), .callF false 9 [(.t 69), (.t 70), (.t 71)]⟩, ⟨some 73, (some (68, true)), .un .not (.t 72)⟩, ⟨some 74, none, .pick (.t 68) (.t 73) (.c (.bool false))⟩, ⟨some 75, none, .mov (.t 74)⟩, ⟨some 76, (some (75, true)), .mov (.t 0)⟩, ⟨some 77, (some (75, true)), .mov (.t 1)⟩, ⟨some 78, (some (75, true)), .mov (.t 2)⟩, ⟨some 79, (some (75, true)), .callF false 9 [(.t 76), (.t 77), (.t 78)]⟩, ⟨some 80, none, .pick (.t 75) (.t 79) (.c (.bool false))⟩, ⟨some 10, none, .mov (.t 80)⟩])
  .ret)))))))))⟩
/- vizard/vizardlaw09.TcpFlags -/
def I4 : Fn_ := ⟨6, 86, [(12, none)],
  (.seq (.ops [⟨some 12, none, .mov (.c (.bool false))⟩])
  (.seq (.seq (.ops [⟨some 15, none, .callF false 5 []⟩, ⟨some 16, none, .un .not (.t 15)⟩])
  (.cond (.t 16)
  (.seq (.ops [⟨some 12, none, .mov (.c (.bool false))⟩])
  .ret)
  .skip))
  (.seq (.seq (.ops [⟨some 17, none, .mov (.t 3)⟩, ⟨some 18, none, .len (.t 17)⟩, ⟨some 19, none, .bin .gtr (.t 18) (.c (.int .i64 1460))⟩])
  (.cond (.t 19)
  (.seq (.ops [⟨some 12, none, .mov (.c (.bool true))⟩])
  .ret)
  .skip))
  (.seq (.ops [⟨some 21, none, .mov (.t 0)⟩, ⟨some 22, none, .mov (.t 3)⟩, ⟨some 23, none, .mov (.t 4)⟩, ⟨some 24, none, .mov (.t 5)⟩, ⟨some 25, none, .callF false 10 [(.c (.int .u16 1)), (.c (.int .u16 2)), (.t 21), (.t 22), (.t 23), (.t 24)]⟩, ⟨some 20, none, .mov (.t 25)⟩, ⟨some 26, none, .ext (.t 20) 0⟩, ⟨some 27, none, .ext (.t 20) 1⟩, ⟨some 13, none, .alloc true [(.int .u16 0), (.int .u16 0), (.int .u8 0), (.rs false 1 [])] 27⟩, ⟨none, none, .store 4 (.t 13) (.t 26)⟩, ⟨some 14, none, .mov (.t 27)⟩])
  (.seq (.seq (.ops [⟨some 28, none, .mov (.t 14)⟩, ⟨some 29, none, .eqNl true true (.t 28)⟩, ⟨some 30, none, .mov (.t 29)⟩, ⟨some 31, (some (30, false)), .faddr false 3 1 (.t 13)⟩, ⟨some 32, (some (30, false)), .load false 1 (.t 31)⟩, ⟨some 33, (some (30, false)), .len (.t 32)⟩, ⟨some 34, (some (30, false)), .mov (.t 3)⟩, ⟨some 35, (some (30, false)), .len (.t 34)⟩, ⟨some 36, (some (30, false)), .bin .add (.c (.int .i64 20)) (.t 35)⟩, ⟨some 37, (some (30, false)), .bin .neq (.t 33) (.t 36)⟩, ⟨some 38, none, .pick (.t 30) (.c (.bool true)) (.t 37)⟩, ⟨some 39, none, .mov (.t 38)⟩, ⟨some 40, (some (39, false)), .faddr false 3 1 (.t 13)⟩, ⟨some 41, (some (39, false)), .load false 1 (.t 40)⟩, ⟨some 42, (some (39, false)), .slice 1 (.t 41) (some (.c (.int .i64 20))) none⟩, ⟨some 43, (some (39, false)), .mov (.t 3)⟩, ⟨some 44, (some (39, false)), .callF false 8 [(.t 42), (.t 43)]⟩, ⟨some 45, (some (39, false)), .un .not (.t 44)⟩, ⟨some 46, none, .pick (.t 39) (.c (.bool true)) (.t 45)⟩])
  (.cond (.t 46)
  (.seq (.ops [⟨some 12, none, .mov (.c (.bool false))⟩])
  .ret)
  .skip))
  (.seq (.ops [⟨some 47, none, .load true 4 (.t 13)⟩, ⟨some 48, none, .mov (.t 1)⟩, ⟨some 49, none, .mov (.t 2)⟩, ⟨some 50, none, .bin .or (.t 48) (.t 49)⟩, ⟨some 51, none, .callF true 11 [(.t 47), (.t 50)]⟩, ⟨some 52, none, .load true 4 (.t 13)⟩, ⟨some 53, none, .mov (.t 1)⟩, ⟨some 54, none, .callF true 11 [(.t 52), (.t 53)]⟩, ⟨some 55, none, .mov (.t 54)⟩, ⟨some 56, (some (55, true)), .load true 4 (.t 13)⟩, ⟨some 57, (some (55, true)), .mov (.t 2)⟩, ⟨some 58, (some (55, true)), .callF true 11 [(.t 56), (.t 57)]⟩, ⟨some 59, none, .pick (.t 55) (.t 58) (.c (.bool false))⟩, ⟨some 60, none, .binB .eql (.t 51) (.t 59)⟩, ⟨some 61, none, .mov (.t 60)⟩, ⟨some 62, (some (61, true)), .load true 4 (.t 13)⟩, ⟨some 63, (some (61, true)), .callF true 11 [(.t 62), (.c (.int .u8 0))]⟩, ⟨some 64, none, .pick (.t 61) (.t 63) (.c (.bool false))⟩, ⟨some 65, none, .mov (.t 64)⟩, ⟨some 66, (some (65, true)), .load true 4 (.t 13)⟩, ⟨some 67, (some (65, true)), .mov (.t 0)⟩, ⟨some 68, (some (65, true)), .callF true 11 [(.t 66), (.t 67)]⟩, ⟨some 69, none, .pick (.t 65) (.t 68) (.c (.bool false))⟩, ⟨some 70, none, .mov (.t 69)⟩, ⟨some 71, (some (70, true)), .load true 4 (.t 13)⟩, ⟨some 72, (some (70, true)), .mov (.t 1)⟩, ⟨some 73, (some (70, true)), .callF true 11 [(.t 71), (.t 72)]⟩, ⟨some 74, (some (70, true)), .mov (.t 1)⟩, ⟨some 75, (some (70, true)), .mov (.t 0)⟩, ⟨some 76, (some (70, true)), .bin .andNot (.t 74) (.t 75)⟩, ⟨some 77, (some (70, true)), .bin .eql (.t 76) (.c (.int .u8 0))⟩, ⟨some 78, (some (70, true)), .binB .eql (.t 73) (.t 77)⟩, ⟨some 79, none, .pick (.t 70) (.t 78) (.c (.bool false))⟩, ⟨some 80, none, .mov (.t 79)⟩, ⟨some 81, (some (80, true)), .faddr false 2 1 (.t 13)⟩, ⟨some 82, (some (80, true)), .load false 1 (.t 81)⟩, ⟨some 83, (some (80, true)), .mov (.t 0)⟩, ⟨some 84, (some (80, true)), .bin .eql (.t 82) (.t 83)⟩, ⟨some 85, none, .pick (.t 80) (.t 84) (.c (.bool false))⟩, ⟨some 12, none, .mov (.t 85)⟩])
  .ret))))))⟩
/- vizard/vizardlaw09.alive -/
def I5 : Fn_ := ⟨0, 115, [(0, none)],
  (.seq (.ops [⟨some 0, none, .mov (.c (.bool false))⟩])
  (.seq (.ops [⟨some 12, none, .buildR 1 5 [(.c (.int .u8 1)), (.c (.int .u8 2)), (.c (.int .u8 3))]⟩, ⟨some 13, none, .callF false 10 [(.c (.int .u16 80)), (.c (.int .u16 1024)), (.c (.int .u8 18)), (.t 12), (.c (.int .u32 1)), (.c (.int .u32 2))]⟩, ⟨some 11, none, .mov (.t 13)⟩, ⟨some 14, none, .ext (.t 11) 0⟩, ⟨some 15, none, .ext (.t 11) 1⟩, ⟨some 1, none, .alloc true [(.int .u16 0), (.int .u16 0), (.int .u8 0), (.rs false 1 [])] 27⟩, ⟨none, none, .store 4 (.t 1) (.t 14)⟩, ⟨some 2, none, .mov (.t 15)⟩])
  (.seq (.ops [⟨some 17, none, .load true 4 (.t 1)⟩, ⟨some 18, none, .callF false 7 [(.t 17)]⟩, ⟨some 19, none, .callF false 6 [(.t 18), (.c (.int .u32 1)), (.c (.int .u32 2))]⟩, ⟨some 16, none, .mov (.t 19)⟩, ⟨some 20, none, .ext (.t 16) 0⟩, ⟨some 21, none, .ext (.t 16) 1⟩, ⟨some 3, none, .alloc true [(.int .u16 0), (.int .u16 0), (.int .u8 0), (.rs false 1 [])] 27⟩, ⟨none, none, .store 4 (.t 3) (.t 20)⟩, ⟨some 4, none, .mov (.t 21)⟩])
  (.seq (.ops [⟨some 23, none, .load true 4 (.t 1)⟩, ⟨some 24, none, .callF false 7 [(.t 23)]⟩, ⟨some 25, none, .callF false 6 [(.t 24), (.c (.int .u32 1)), (.c (.int .u32 3))]⟩, ⟨some 22, none, .mov (.t 25)⟩, ⟨some 26, none, .ext (.t 22) 0⟩, ⟨some 27, none, .ext (.t 22) 1⟩, ⟨some 5, none, .alloc true [(.int .u16 0), (.int .u16 0), (.int .u8 0), (.rs false 1 [])] 27⟩, ⟨none, none, .store 4 (.t 5) (.t 26)⟩, ⟨some 6, none, .mov (.t 27)⟩])
  (.seq (.ops [⟨some 29, none, .callF false 6 [(.c (.rs false 1 [])), (.c (.int .u32 1)), (.c (.int .u32 2))]⟩, ⟨some 28, none, .mov (.t 29)⟩, ⟨some 30, none, .ext (.t 28) 0⟩, ⟨some 31, none, .ext (.t 28) 1⟩, ⟨some 7, none, .alloc true [(.int .u16 0), (.int .u16 0), (.int .u8 0), (.rs false 1 [])] 27⟩, ⟨none, none, .store 4 (.t 7) (.t 30)⟩, ⟨some 8, none, .mov (.t 31)⟩])
  (.seq (.ops [⟨some 33, none, .mkSl 1 1 5 [(.int .u8 0)] (.c (.int .i64 1461))⟩, ⟨some 34, none, .callF false 10 [(.c (.int .u16 80)), (.c (.int .u16 1024)), (.c (.int .u8 0)), (.t 33), (.c (.int .u32 1)), (.c (.int .u32 2))]⟩, ⟨some 32, none, .mov (.t 34)⟩, ⟨some 35, none, .ext (.t 32) 0⟩, ⟨some 36, none, .ext (.t 32) 1⟩, ⟨some 9, none, .alloc true [(.int .u16 0), (.int .u16 0), (.int .u8 0), (.rs false 1 [])] 27⟩, ⟨none, none, .store 4 (.t 9) (.t 35)⟩, ⟨some 10, none, .mov (.t 36)⟩])
  (.seq (.ops [⟨some 37, none, .mov (.t 2)⟩, ⟨some 38, none, .eqNl true false (.t 37)⟩, ⟨some 39, none, .mov (.t 38)⟩, ⟨some 40, (some (39, true)), .mov (.t 4)⟩, ⟨some 41, (some (39, true)), .eqNl true false (.t 40)⟩, ⟨some 42, none, .pick (.t 39) (.t 41) (.c (.bool false))⟩, ⟨some 43, none, .mov (.t 42)⟩, ⟨some 44, (some (43, true)), .mov (.t 6)⟩, ⟨some 45, (some (43, true)), .eqNl true true (.t 44)⟩, ⟨some 46, none, .pick (.t 43) (.t 45) (.c (.bool false))⟩, ⟨some 47, none, .mov (.t 46)⟩, ⟨some 48, (some (47, true)), .mov (.t 6)⟩, ⟨some 49, (some (47, true)), .callF false 12 [(.t 48), (.c (.int .i64 13))]⟩, ⟨some 50, none, .pick (.t 47) (.t 49) (.c (.bool false))⟩, ⟨some 51, none, .mov (.t 50)⟩, ⟨some 52, (some (51, true)), .mov (.t 8)⟩, ⟨some 53, (some (51, true)), .eqNl true true (.t 52)⟩, ⟨some 54, none, .pick (.t 51) (.t 53) (.c (.bool false))⟩, ⟨some 55, none, .mov (.t 54)⟩, ⟨some 56, (some (55, true)), .mov (.t 8)⟩, ⟨some 57, (some (55, true)), .callF false 12 [(.t 56), (.c (.int .i64 12))]⟩, ⟨some 58, none, .pick (.t 55) (.t 57) (.c (.bool false))⟩, ⟨some 59, none, .mov (.t 58)⟩, ⟨some 60, (some (59, true)), .mov (.t 10)⟩, ⟨some 61, (some (59, true)), .eqNl true true (.t 60)⟩, ⟨some 62, none, .pick (.t 59) (.t 61) (.c (.bool false))⟩, ⟨some 63, none, .mov (.t 62)⟩, ⟨some 64, (some (63, true)), .mov (.t 10)⟩, ⟨some 65, (some (63, true)), .callF false 12 [(.t 64), (.c (.int .i64 11))]⟩, ⟨some 66, none, .pick (.t 63) (.t 65) (.c (.bool false))⟩, ⟨some 67, none, .mov (.t 66)⟩, ⟨some 68, (some (67, true)), .faddr false 3 1 (.t 1)⟩, ⟨some 69, (some (67, true)), .load false 1 (.t 68)⟩, ⟨some 70, (some (67, true)), .len (.t 69)⟩, ⟨some 71, (some (67, true)), .bin .eql (.t 70) (.c (.int .i64 23))⟩, ⟨some 72, none, .pick (.t 67) (.t 71) (.c (.bool false))⟩, ⟨some 73, none, .mov (.t 72)⟩, ⟨some 74, (some (73, true)), .faddr false 3 1 (.t 1)⟩, ⟨some 75, (some (73, true)), .load false 1 (.t 74)⟩, ⟨some 76, (some (73, true)), .iaddr 1 (.t 75) (.c (.int .i64 12))⟩, ⟨some 77, (some (73, true)), .load false 1 (.t 76)⟩, ⟨some 78, (some (73, true)), .bin .eql (.t 77) (.c (.int .u8 80))⟩, ⟨some 79, none, .pick (.t 73) (.t 78) (.c (.bool false))⟩, ⟨some 80, none, .mov (.t 79)⟩, ⟨some 81, (some (80, true)), .faddr false 0 1 (.t 3)⟩, ⟨some 82, (some (80, true)), .load false 1 (.t 81)⟩, ⟨some 83, (some (80, true)), .bin .eql (.t 82) (.c (.int .u16 80))⟩, ⟨some 84, none, .pick (.t 80) (.t 83) (.c (.bool false))⟩, ⟨some 85, none, .mov (.t 84)⟩, ⟨some 86, (some (85, true)), .faddr false 1 1 (.t 3)⟩, ⟨some 87, (some (85, true)), .load false 1 (.t 86)⟩, ⟨some 88, (some (85, true)), .bin .eql (.t 87) (.c (.int .u16 1024))⟩, ⟨some 89, none, .pick (.t 85) (.t 88) (.c (.bool false))⟩, ⟨some 90, none, .mov (.t 89)⟩, ⟨some 91, (some (90, true)), .load true 4 (.t 3)⟩, ⟨some 92, (some (90, true)), .callF false 11 [(.t 91), (.c (.int .u8 2))]⟩, ⟨some 93, none, .pick (.t 90) (.t 92) (.c (.bool false))⟩, ⟨some 94, none, .mov (.t 93)⟩, ⟨some 95, (some (94, true)), .load true 4 (.t 3)⟩, ⟨some 96, (some (94, true)), .callF false 11 [(.t 95), (.c (.int .u8 18))]⟩, ⟨some 97, none, .pick (.t 94) (.t 96) (.c (.bool false))⟩, ⟨some 98, none, .mov (.t 97)⟩, ⟨some 99, (some (98, true)), .load true 4 (.t 3)⟩, ⟨some 100, (some (98, true)), .callF false 11 [(.t 99), (.c (.int .u8 6))]⟩, ⟨some 101, (some (98, true)), .un .not (.t 100)⟩, ⟨some 102, none, .pick (.t 98) (.t 101) (.c (.bool false))⟩, ⟨some 103, none, .mov (.t 102)⟩, ⟨some 104, (some (103, true)), .faddr false 3 1 (.t 3)⟩, ⟨some 105, (some (103, true)), .load false 1 (.t 104)⟩, ⟨some 106, (some (103, true)), .faddr false 3 1 (.t 1)⟩, ⟨some 107, (some (103, true)), .load false 1 (.t 106)⟩, ⟨some 108, (some (103, true)), .callF false 8 [(.t 105), (.t 107)]⟩, ⟨some 109, none, .pick (.t 103) (.t 108) (.c (.bool false))⟩, ⟨some 110, none, .mov (.t 109)⟩, ⟨some 111, (some (110, true)), .faddr false 3 1 (.t 1)⟩, ⟨some 112, (some (110, true)), .load false 1 (.t 111)⟩, ⟨some 113, (some (110, true)), .callF false 9 [(.t 112), (.c (.int .u32 2)), (.c (.int .u32 1))]⟩, ⟨some 114, none, .pick (.t 110) (.t 113) (.c (.bool false))⟩, ⟨some 0, none, .mov (.t 114)⟩])
  .ret)))))))⟩
/- vizard/tcp.Parse -/
def I6 : Fn_ := ⟨3, 47, [(6, some (true, 4)), (7, none)],
  (.seq (.ops [⟨some 6, none, .alloc true [(.int .u16 0), (.int .u16 0), (.int .u8 0), (.rs false 1 [])] 27⟩, ⟨some 7, none, .mov (.c .nili)⟩])
  (.seq (.seq (.ops [⟨some 13, none, .mov (.t 0)⟩, ⟨some 14, none, .callF false 14 [(.t 13)]⟩, ⟨some 15, none, .callF false 13 [(.c (.int .i64 1)), (.t 14)]⟩, ⟨some 8, none, .mov (.t 15)⟩])
  (.seq (.ops [⟨some 16, none, .mov (.t 8)⟩, ⟨some 17, none, .eqNl true true (.t 16)⟩])
  (.cond (.t 17)
  (.seq (.ops [⟨some 18, none, .build [(.int .u16 0), (.int .u16 0), (.int .u8 0), (.rs false 1 [])] []⟩, ⟨some 19, none, .mov (.t 8)⟩, ⟨none, none, .store 4 (.t 6) (.t 18)⟩, ⟨some 7, none, .mov (.t 19)⟩])
  .ret)
  .skip)))
  (.seq (.seq (.ops [⟨some 20, none, .mov (.t 0)⟩, ⟨some 21, none, .mov (.t 1)⟩, ⟨some 22, none, .mov (.t 2)⟩, ⟨some 23, none, .callF false 9 [(.t 20), (.t 21), (.t 22)]⟩, ⟨some 24, none, .un .not (.t 23)⟩])
  (.cond (.t 24)
  (.seq (.ops [⟨some 25, none, .build [(.int .u16 0), (.int .u16 0), (.int .u8 0), (.rs false 1 [])] []⟩, ⟨some 26, none, .callF false 13 [(.c (.int .i64 2)), (.c (.int .i64 13))]⟩, ⟨none, none, .store 4 (.t 6) (.t 25)⟩, ⟨some 7, none, .mov (.t 26)⟩])
  .ret)
  .skip))
  (.seq (.ops [⟨some 28, none, .mov (.t 0)⟩, ⟨some 29, none, .callF false 15 [(.t 28), (.c (.int .i64 0)), (.c (.int .i64 2))]⟩, ⟨some 27, none, .mov (.t 29)⟩, ⟨some 30, none, .ext (.t 27) 0⟩, ⟨some 31, none, .ext (.t 27) 1⟩, ⟨some 9, none, .mov (.t 30)⟩, ⟨some 10, none, .mov (.t 31)⟩])
  (.seq (.ops [⟨some 33, none, .mov (.t 0)⟩, ⟨some 34, none, .callF false 15 [(.t 33), (.c (.int .i64 2)), (.c (.int .i64 2))]⟩, ⟨some 32, none, .mov (.t 34)⟩, ⟨some 35, none, .ext (.t 32) 0⟩, ⟨some 36, none, .ext (.t 32) 1⟩, ⟨some 11, none, .mov (.t 35)⟩, ⟨some 12, none, .mov (.t 36)⟩])
  (.seq (.ops [⟨some 37, none, .mov (.t 9)⟩, ⟨some 38, none, .conv .u16 (.t 37)⟩, ⟨some 39, none, .mov (.t 11)⟩, ⟨some 40, none, .conv .u16 (.t 39)⟩, ⟨some 41, none, .mov (.t 0)⟩, ⟨some 42, none, .iaddr 1 (.t 41) (.c (.int .i64 13))⟩, ⟨some 43, none, .load false 1 (.t 42)⟩, ⟨some 44, none, .mov (.t 0)⟩, ⟨some 45, none, .callF true 16 [(.t 44)]⟩, ⟨some 46, none, .build [(.int .u16 0), (.int .u16 0), (.int .u8 0), (.rs false 1 [])] [(0, 1, (.t 38)), (1, 1, (.t 40)), (2, 1, (.t 43)), (3, 1, (.t 45))]⟩, ⟨none, none, .store 4 (.t 6) (.t 46)⟩, ⟨some 7, none, .mov (.c .nili)⟩])
  .ret))))))⟩
/- (vizard/tcp.Segment).Bytes -/
def I7 : Fn_ := ⟨1, 6, [(2, none)],
  (.seq (.ops [⟨some 1, none, .box true 27 (.t 0)⟩, ⟨some 2, none, .mov (.c (.rs false 1 []))⟩])
  (.seq (.ops [⟨some 3, none, .faddr false 3 1 (.t 1)⟩, ⟨some 4, none, .load false 1 (.t 3)⟩, ⟨some 5, none, .callF false 16 [(.t 4)]⟩, ⟨some 2, none, .mov (.t 5)⟩])
  .ret))⟩
/- vizard/vizardref00.SameBytes -/
def B8_0 : C := (.seq (.seq (.ops [⟨some 11, none, .mov (.t 5)⟩, ⟨some 12, none, .mov (.t 0)⟩, ⟨some 13, none, .len (.t 12)⟩, ⟨some 14, none, .bin .lss (.t 11) (.t 13)⟩])
  (.cond (.t 14)
  .skip
  (.exit 0)))
  (.seq (.block 1 (some [0, 1, 5]) (.seq (.ops [⟨some 17, none, .mov (.t 0)⟩, ⟨some 18, none, .mov (.t 5)⟩, ⟨some 19, none, .iaddr 1 (.t 17) (.t 18)⟩, ⟨some 20, none, .load false 1 (.t 19)⟩, ⟨some 21, none, .mov (.t 1)⟩, ⟨some 22, none, .mov (.t 5)⟩, ⟨some 23, none, .iaddr 1 (.t 21) (.t 22)⟩, ⟨some 24, none, .load false 1 (.t 23)⟩, ⟨some 25, none, .bin .neq (.t 20) (.t 24)⟩])
  (.cond (.t 25)
  (.seq (.ops [⟨some 4, none, .mov (.c (.bool false))⟩])
  .ret)
  .skip)))
  (.ops [⟨some 15, none, .mov (.t 5)⟩, ⟨some 16, none, .bin .add (.t 15) (.c (.int .i64 1))⟩, ⟨some 5, none, .mov (.t 16)⟩])))
def L8_0 : C := .loop (some [0, 1, 5]) B8_0
theorem L8_0_eq {E : Env} (x : St) : ev E L8_0 x = andThen (ev E B8_0 (restr (some [0, 1, 5]) x)) (ev E L8_0) := ev_loop _ _ x
theorem L8_0_lp {E : Env} (s : Slots) (h : Heap) : ev E L8_0 ⟨s, h⟩ = lp E L8_0 (pickS s [0, 1, 5]) h := lp_of L8_0_eq s h
theorem L8_0_go {E : Env} (s : Slots) (h : Heap) : lp E L8_0 s h = andThen (ev E B8_0 ⟨pickS s [0, 1, 5], h⟩) (ev E L8_0) := lp_go L8_0_eq s h
noncomputable def T8_0 (E : Env) (o : Out) : Option (AV × Heap) := outR [(4, none)] (andThen (endBlock 0 (some [0, 1, 5]) (o)) (ev E (.seq (.ops [⟨some 4, none, .mov (.c (.bool true))⟩])
  .ret)))
def I8 : Fn_ := ⟨2, 26, [(4, none)],
  (.seq (.ops [⟨some 4, none, .mov (.c (.bool false))⟩])
  (.seq (.seq (.ops [⟨some 6, none, .mov (.t 0)⟩, ⟨some 7, none, .len (.t 6)⟩, ⟨some 8, none, .mov (.t 1)⟩, ⟨some 9, none, .len (.t 8)⟩, ⟨some 10, none, .bin .neq (.t 7) (.t 9)⟩])
  (.cond (.t 10)
  (.seq (.ops [⟨some 4, none, .mov (.c (.bool false))⟩])
  .ret)
  .skip))
  (.seq (.seq (.ops [⟨some 5, none, .mov (.c (.int .i64 0))⟩])
  (.block 0 (some [0, 1, 5]) L8_0))
  (.seq (.ops [⟨some 4, none, .mov (.c (.bool true))⟩])
  .ret))))⟩
/- vizard/tcp.Sums -/
def I9 : Fn_ := ⟨3, 15, [(6, none)],
  (.seq (.ops [⟨some 6, none, .mov (.c (.bool false))⟩])
  (.seq (.ops [⟨some 7, none, .mov (.t 1)⟩, ⟨some 8, none, .mov (.t 2)⟩, ⟨some 9, none, .mov (.t 0)⟩, ⟨some 10, none, .len (.t 9)⟩, ⟨some 11, none, .callF false 18 [(.t 7), (.t 8), (.t 10)]⟩, ⟨some 12, none, .mov (.t 0)⟩, ⟨some 13, none, .buildR 1 22 [(.t 11), (.t 12)]⟩, ⟨some 14, none, .callF false 17 [(.t 13)]⟩, ⟨some 6, none, .mov (.t 14)⟩])
  .ret))⟩
/- vizard/tcp.Make -/
def I10 : Fn_ := ⟨6, 66, [(12, some (true, 4)), (13, none)],
  (.seq (.ops [⟨some 12, none, .alloc true [(.int .u16 0), (.int .u16 0), (.int .u8 0), (.rs false 1 [])] 27⟩, ⟨some 13, none, .mov (.c .nili)⟩])
  (.seq (.seq (.ops [⟨some 18, none, .mov (.t 3)⟩, ⟨some 19, none, .len (.t 18)⟩, ⟨some 20, none, .bin .gtr (.t 19) (.c (.int .i64 1460))⟩])
  (.cond (.t 20)
  (.seq (.ops [⟨some 21, none, .build [(.int .u16 0), (.int .u16 0), (.int .u8 0), (.rs false 1 [])] []⟩, ⟨some 22, none, .callF false 13 [(.c (.int .i64 1)), (.c (.int .i64 11))]⟩, ⟨none, none, .store 4 (.t 12) (.t 21)⟩, ⟨some 13, none, .mov (.t 22)⟩])
  .ret)
  .skip))
  (.seq (.ops [⟨some 24, none, .mov (.t 0)⟩, ⟨some 25, none, .conv .u64 (.t 24)⟩, ⟨some 26, none, .mov (.t 1)⟩, ⟨some 27, none, .conv .u64 (.t 26)⟩, ⟨some 28, none, .buildR 1 43 [(.t 25), (.t 27)]⟩, ⟨some 29, none, .callF false 19 [(.c (.int .i64 2)), (.t 28)]⟩, ⟨some 23, none, .mov (.t 29)⟩, ⟨some 30, none, .ext (.t 23) 0⟩, ⟨some 31, none, .ext (.t 23) 1⟩, ⟨some 14, none, .mov (.t 30)⟩, ⟨some 15, none, .mov (.t 31)⟩])
  (.seq (.ops [⟨some 32, none, .mov (.t 14)⟩, ⟨some 33, none, .mov (.t 14)⟩, ⟨some 34, none, .len (.t 33)⟩, ⟨some 35, none, .bin .sub (.c (.int .i64 20)) (.t 34)⟩, ⟨some 36, none, .mkSl 1 1 5 [(.int .u8 0)] (.t 35)⟩, ⟨some 37, none, .buildSl 1 22 [(.t 32), (.t 36)]⟩, ⟨some 38, none, .callF false 20 [(.t 37)]⟩, ⟨some 16, none, .mov (.t 38)⟩])
  (.seq (.ops [⟨some 39, none, .mov (.t 16)⟩, ⟨some 40, none, .mov (.t 16)⟩, ⟨some 41, none, .mov (.t 2)⟩, ⟨some 42, none, .iaddr 1 (.t 39) (.c (.int .i64 12))⟩, ⟨none, none, .store 1 (.t 42) (.c (.int .u8 80))⟩, ⟨some 43, none, .iaddr 1 (.t 40) (.c (.int .i64 13))⟩, ⟨none, none, .store 1 (.t 43) (.t 41)⟩])
  (.seq (.ops [⟨some 44, none, .mov (.t 16)⟩, ⟨some 45, none, .mov (.t 3)⟩, ⟨some 46, none, .append 1 1 5 (.t 44) (.t 45)⟩, ⟨some 17, none, .mov (.t 46)⟩])
  (.seq (.ops [⟨some 48, none, .mov (.t 17)⟩, ⟨some 49, none, .mov (.t 4)⟩, ⟨some 50, none, .mov (.t 5)⟩, ⟨some 51, none, .mov (.t 17)⟩, ⟨some 52, none, .len (.t 51)⟩, ⟨some 53, none, .callF false 18 [(.t 49), (.t 50), (.t 52)]⟩, ⟨some 54, none, .mov (.t 17)⟩, ⟨some 55, none, .buildSl 1 22 [(.t 53), (.t 54)]⟩, ⟨some 56, none, .callF false 22 [(.t 55)]⟩, ⟨some 57, none, .conv .u64 (.t 56)⟩, ⟨some 58, none, .callF false 21 [(.t 48), (.c (.int .i64 16)), (.c (.int .i64 2)), (.t 57)]⟩, ⟨some 47, none, .mov (.t 58)⟩, ⟨some 59, none, .ext (.t 47) 0⟩, ⟨some 60, none, .ext (.t 47) 1⟩, ⟨some 17, none, .mov (.t 59)⟩])
  (.seq (.ops [⟨some 61, none, .mov (.t 0)⟩, ⟨some 62, none, .mov (.t 1)⟩, ⟨some 63, none, .mov (.t 2)⟩, ⟨some 64, none, .mov (.t 17)⟩, ⟨some 65, none, .build [(.int .u16 0), (.int .u16 0), (.int .u8 0), (.rs false 1 [])] [(0, 1, (.t 61)), (1, 1, (.t 62)), (2, 1, (.t 63)), (3, 1, (.t 64))]⟩, ⟨none, none, .store 4 (.t 12) (.t 65)⟩, ⟨some 13, none, .mov (.c .nili)⟩])
  .ret))))))))⟩
/- (vizard/tcp.Segment).Has -/
def I11 : Fn_ := ⟨2, 11, [(4, none)],
  (.seq (.ops [⟨some 2, none, .box true 27 (.t 0)⟩, ⟨some 4, none, .mov (.c (.bool false))⟩])
  (.seq (.ops [⟨some 5, none, .faddr false 2 1 (.t 2)⟩, ⟨some 6, none, .load false 1 (.t 5)⟩, ⟨some 7, none, .mov (.t 1)⟩, ⟨some 8, none, .bin .and (.t 6) (.t 7)⟩, ⟨some 9, none, .mov (.t 1)⟩, ⟨some 10, none, .bin .eql (.t 8) (.t 9)⟩, ⟨some 4, none, .mov (.t 10)⟩])
  .ret))⟩
/- vizard/why.Is -/
def I12 : Fn_ := ⟨2, 13, [(4, none)],
  (.seq (.ops [⟨some 4, none, .mov (.c (.bool false))⟩])
  (.seq (.ops [⟨some 5, none, .mov (.t 0)⟩, ⟨some 6, none, .eqNl true true (.t 5)⟩, ⟨some 7, none, .mov (.t 6)⟩, ⟨some 8, (some (7, true)), .mov (.t 0)⟩, ⟨some 9, (some (7, true)), .mov (.t 1)⟩, ⟨some 10, (some (7, true)), .mkIf 40 (.t 9)⟩, ⟨some 11, (some (7, true)), .callF false 23 [(.t 8), (.t 10)]⟩, ⟨some 12, none, .pick (.t 7) (.t 11) (.c (.bool false))⟩, ⟨some 4, none, .mov (.t 12)⟩])
  .ret))⟩
/- vizard/why.Fault -/
def I13 : Fn_ := ⟨2, 18, [(4, none)],
  (.seq (.ops [⟨some 4, none, .mov (.c .nili)⟩])
  (.seq (.seq (.ops [⟨some 5, none, .mov (.t 1)⟩, ⟨some 6, none, .bin .eql (.t 5) (.c (.int .i64 0))⟩, ⟨some 7, none, .mov (.t 6)⟩, ⟨some 8, (some (7, false)), .mov (.t 0)⟩, ⟨some 9, (some (7, false)), .callF false 24 [(.t 8)]⟩, ⟨some 10, (some (7, false)), .un .not (.t 9)⟩, ⟨some 11, none, .pick (.t 7) (.c (.bool true)) (.t 10)⟩])
  (.cond (.t 11)
  (.seq (.ops [⟨some 4, none, .mov (.c .nili)⟩])
  .ret)
  .skip))
  (.seq (.ops [⟨some 12, none, .mov (.t 0)⟩, ⟨some 13, none, .mov (.t 1)⟩, ⟨some 14, none, .mkIf 40 (.t 13)⟩, ⟨some 15, none, .build [(.int .i64 0), .nili] [(0, 1, (.t 12)), (1, 1, (.t 14))]⟩, ⟨some 16, none, .box true 58 (.t 15)⟩, ⟨some 17, none, .mkIf 56 (.t 16)⟩, ⟨some 4, none, .mov (.t 17)⟩])
  .ret)))⟩
/- vizard/tcp.form -/
def I14 : Fn_ := ⟨1, 25, [(2, none)],
  (.seq (.ops [⟨some 2, none, .mov (.c (.int .i64 0))⟩])
  (.seq (.seq (.ops [⟨some 4, none, .mov (.t 0)⟩, ⟨some 5, none, .len (.t 4)⟩, ⟨some 6, none, .bin .lss (.t 5) (.c (.int .i64 20))⟩])
  (.cond (.t 6)
  (.seq (.ops [⟨some 2, none, .mov (.c (.int .i64 12))⟩])
  .ret)
  .skip))
  (.seq (.ops [⟨some 7, none, .mov (.t 0)⟩, ⟨some 8, none, .iaddr 1 (.t 7) (.c (.int .i64 12))⟩, ⟨some 9, none, .load false 1 (.t 8)⟩, ⟨some 10, none, .bin .shr (.t 9) (.c (.int .u64 4))⟩, ⟨some 11, none, .conv .i64 (.t 10)⟩, ⟨some 12, none, .bin .mul (.t 11) (.c (.int .i64 4))⟩, ⟨some 3, none, .mov (.t 12)⟩])
  (.seq (.block 0 (some [0, 3]) (.seq (.ops [⟨some 14, none, .mov (.t 3)⟩, ⟨some 15, none, .bin .lss (.t 14) (.c (.int .i64 20))⟩, ⟨some 13, none, .mov (.t 15)⟩])
  (.cond (.t 13)
  (.seq (.ops [⟨some 2, none, .mov (.c (.int .i64 10))⟩])
  .ret)
  (.seq (.ops [⟨some 17, none, .mov (.t 3)⟩, ⟨some 18, none, .mov (.t 0)⟩, ⟨some 19, none, .len (.t 18)⟩, ⟨some 20, none, .bin .gtr (.t 17) (.t 19)⟩, ⟨some 16, none, .mov (.t 20)⟩])
  (.cond (.t 16)
  (.seq (.ops [⟨some 2, none, .mov (.c (.int .i64 12))⟩])
  .ret)
  (.seq (.ops [⟨some 22, none, .mov (.t 0)⟩, ⟨some 23, none, .len (.t 22)⟩, ⟨some 24, none, .bin .gtr (.t 23) (.c (.int .i64 1480))⟩, ⟨some 21, none, .mov (.t 24)⟩])
  (.cond (.t 21)
  (.seq (.ops [⟨some 2, none, .mov (.c (.int .i64 11))⟩])
  .ret)
  .skip)))))))
  (.seq (.ops [⟨some 2, none, .mov (.c (.int .i64 0))⟩])
  .ret)))))⟩
/- vizard/word.At -/
def B15_0 : C := (.seq (.ops [⟨some 31, none, .bin .lss (.t 30) (.t 29)⟩])
  (.seq (.cond (.t 31)
  .skip
  (.exit 0))
  (.seq (.block 1 (some [9, 28, 29, 30]) (.seq (.ops [⟨some 32, none, .iaddr 1 (.t 28) (.t 30)⟩, ⟨some 33, none, .load false 1 (.t 32)⟩, ⟨some 11, none, .mov (.t 33)⟩])
  (.ops [⟨some 34, none, .mov (.t 9)⟩, ⟨some 35, none, .bin .shl (.t 34) (.c (.int .u64 8))⟩, ⟨some 36, none, .mov (.t 11)⟩, ⟨some 37, none, .conv .u64 (.t 36)⟩, ⟨some 38, none, .bin .or (.t 35) (.t 37)⟩, ⟨some 9, none, .mov (.t 38)⟩])))
  (.ops [⟨some 39, none, .bin .add (.t 30) (.c (.int .i64 1))⟩, ⟨some 30, none, .mov (.t 39)⟩]))))
def L15_0 : C := .loop (some [9, 28, 29, 30]) B15_0
theorem L15_0_eq {E : Env} (x : St) : ev E L15_0 x = andThen (ev E B15_0 (restr (some [9, 28, 29, 30]) x)) (ev E L15_0) := ev_loop _ _ x
theorem L15_0_lp {E : Env} (s : Slots) (h : Heap) : ev E L15_0 ⟨s, h⟩ = lp E L15_0 (pickS s [9, 28, 29, 30]) h := lp_of L15_0_eq s h
theorem L15_0_go {E : Env} (s : Slots) (h : Heap) : lp E L15_0 s h = andThen (ev E B15_0 ⟨pickS s [9, 28, 29, 30], h⟩) (ev E L15_0) := lp_go L15_0_eq s h
noncomputable def T15_0 (E : Env) (o : Out) : Option (AV × Heap) := outR [(6, none), (7, none)] (andThen (endBlock 0 (some [9, 28, 29, 30]) (o)) (ev E (.seq (.ops [⟨some 40, none, .mov (.t 9)⟩, ⟨some 6, none, .mov (.t 40)⟩, ⟨some 7, none, .mov (.c (.int .i64 0))⟩])
  .ret)))
def I15 : Fn_ := ⟨3, 41, [(6, none), (7, none)],
  (.seq (.ops [⟨some 6, none, .mov (.c (.int .u64 0))⟩, ⟨some 7, none, .mov (.c (.int .i64 0))⟩])
  (.seq (.seq (.ops [⟨some 12, none, .mov (.t 2)⟩, ⟨some 13, none, .callF false 25 [(.t 12)]⟩, ⟨some 14, none, .un .not (.t 13)⟩])
  (.cond (.t 14)
  (.seq (.ops [⟨some 6, none, .mov (.c (.int .u64 0))⟩, ⟨some 7, none, .mov (.c (.int .i64 11))⟩])
  .ret)
  .skip))
  (.seq (.seq (.ops [⟨some 15, none, .mov (.t 0)⟩, ⟨some 16, none, .len (.t 15)⟩, ⟨some 17, none, .mov (.t 1)⟩, ⟨some 18, none, .mov (.t 2)⟩, ⟨some 19, none, .callF false 26 [(.t 16), (.t 17), (.t 18)]⟩, ⟨some 8, none, .mov (.t 19)⟩])
  (.seq (.ops [⟨some 20, none, .mov (.t 8)⟩, ⟨some 21, none, .bin .neq (.t 20) (.c (.int .i64 0))⟩])
  (.cond (.t 21)
  (.seq (.ops [⟨some 22, none, .mov (.t 8)⟩, ⟨some 6, none, .mov (.c (.int .u64 0))⟩, ⟨some 7, none, .mov (.t 22)⟩])
  .ret)
  .skip)))
  (.seq (.ops [⟨some 9, none, .mov (.c (.int .u64 0))⟩])
  (.seq (.seq (.ops [⟨some 23, none, .mov (.t 0)⟩, ⟨some 24, none, .mov (.t 1)⟩, ⟨some 25, none, .mov (.t 1)⟩, ⟨some 26, none, .mov (.t 2)⟩, ⟨some 27, none, .bin .add (.t 25) (.t 26)⟩, ⟨some 28, none, .slice 1 (.t 23) (some (.t 24)) (some (.t 27))⟩, ⟨some 29, none, .len (.t 28)⟩, ⟨some 30, none, .mov (.c (.int .i64 0))⟩])
  (.block 0 (some [9, 28, 29, 30]) L15_0))
  (.seq (.ops [⟨some 40, none, .mov (.t 9)⟩, ⟨some 6, none, .mov (.t 40)⟩, ⟨some 7, none, .mov (.c (.int .i64 0))⟩])
  .ret))))))⟩
/- slices.Clone[[]byte,byte] -/
def I16 : Fn_ := ⟨1, 8, [(2, none)],
  (.seq (.ops [⟨some 2, none, .mov (.c (.rs false 1 []))⟩])
  (.seq (.seq (.ops [⟨some 3, none, .mov (.t 0)⟩, ⟨some 4, none, .eqNil false (.t 3)⟩])
  (.cond (.t 4)
  (.seq (.ops [⟨some 2, none, .mov (.c (.rs false 1 []))⟩])
  .ret)
  .skip))
  (.seq (.ops [⟨some 5, none, .buildSl 1 5 []⟩, ⟨some 6, none, .mov (.t 0)⟩, ⟨some 7, none, .append 1 1 5 (.t 5) (.t 6)⟩, ⟨some 2, none, .mov (.t 7)⟩])
  .ret)))⟩
/- vizard/sum.Right -/
def I17 : Fn_ := ⟨1, 6, [(2, none)],
  (.seq (.ops [⟨some 2, none, .mov (.c (.bool false))⟩])
  (.seq (.ops [⟨some 3, none, .mov (.t 0)⟩, ⟨some 4, none, .callF false 27 [(.t 3)]⟩, ⟨some 5, none, .bin .eql (.t 4) (.c (.int .u16 65535))⟩, ⟨some 2, none, .mov (.t 5)⟩])
  .ret))⟩
/- vizard/tcp.ends -/
def I18 : Fn_ := ⟨3, 31, [(6, none)],
  (.seq (.ops [⟨some 6, none, .mov (.c (.rs false 1 []))⟩])
  (.seq (.ops [⟨some 12, none, .mov (.t 0)⟩, ⟨some 13, none, .conv .u64 (.t 12)⟩, ⟨some 14, none, .mov (.t 1)⟩, ⟨some 15, none, .conv .u64 (.t 14)⟩, ⟨some 16, none, .buildR 1 43 [(.t 13), (.t 15)]⟩, ⟨some 17, none, .callF false 19 [(.c (.int .i64 4)), (.t 16)]⟩, ⟨some 11, none, .mov (.t 17)⟩, ⟨some 18, none, .ext (.t 11) 0⟩, ⟨some 19, none, .ext (.t 11) 1⟩, ⟨some 7, none, .mov (.t 18)⟩, ⟨some 8, none, .mov (.t 19)⟩])
  (.seq (.ops [⟨some 21, none, .mov (.t 2)⟩, ⟨some 22, none, .conv .u16 (.t 21)⟩, ⟨some 23, none, .conv .u64 (.t 22)⟩, ⟨some 24, none, .buildR 1 43 [(.c (.int .u64 6)), (.t 23)]⟩, ⟨some 25, none, .callF false 19 [(.c (.int .i64 2)), (.t 24)]⟩, ⟨some 20, none, .mov (.t 25)⟩, ⟨some 26, none, .ext (.t 20) 0⟩, ⟨some 27, none, .ext (.t 20) 1⟩, ⟨some 9, none, .mov (.t 26)⟩, ⟨some 10, none, .mov (.t 27)⟩])
  (.seq (.ops [⟨some 28, none, .mov (.t 7)⟩, ⟨some 29, none, .mov (.t 9)⟩, ⟨some 30, none, .append 1 1 5 (.t 28) (.t 29)⟩, ⟨some 6, none, .mov (.t 30)⟩])
  .ret))))⟩
/- vizard/word.Row -/
def B19_0 : C := (.seq (.ops [⟨some 17, none, .bin .lss (.t 16) (.t 15)⟩])
  (.seq (.cond (.t 17)
  .skip
  (.exit 0))
  (.seq (.block 1 (some [0, 6, 14, 15, 16]) (.seq (.ops [⟨some 18, none, .iaddr 1 (.t 14) (.t 16)⟩, ⟨some 19, none, .load false 1 (.t 18)⟩, ⟨some 8, none, .mov (.t 19)⟩])
  (.seq (.ops [⟨some 21, none, .mov (.t 8)⟩, ⟨some 22, none, .mov (.t 0)⟩, ⟨some 23, none, .callF false 28 [(.t 21), (.t 22)]⟩, ⟨some 20, none, .mov (.t 23)⟩, ⟨some 24, none, .ext (.t 20) 0⟩, ⟨some 25, none, .ext (.t 20) 1⟩, ⟨some 9, none, .mov (.t 24)⟩, ⟨some 10, none, .mov (.t 25)⟩])
  (.seq (.seq (.ops [⟨some 26, none, .mov (.t 10)⟩, ⟨some 27, none, .bin .neq (.t 26) (.c (.int .i64 0))⟩])
  (.cond (.t 27)
  (.seq (.ops [⟨some 28, none, .mov (.t 10)⟩, ⟨some 4, none, .mov (.c (.rs false 1 []))⟩, ⟨some 5, none, .mov (.t 28)⟩])
  .ret)
  .skip))
  (.ops [⟨some 29, none, .mov (.t 6)⟩, ⟨some 30, none, .mov (.t 9)⟩, ⟨some 31, none, .append 1 1 5 (.t 29) (.t 30)⟩, ⟨some 6, none, .mov (.t 31)⟩])))))
  (.ops [⟨some 32, none, .bin .add (.t 16) (.c (.int .i64 1))⟩, ⟨some 16, none, .mov (.t 32)⟩]))))
def L19_0 : C := .loop (some [0, 6, 14, 15, 16]) B19_0
theorem L19_0_eq {E : Env} (x : St) : ev E L19_0 x = andThen (ev E B19_0 (restr (some [0, 6, 14, 15, 16]) x)) (ev E L19_0) := ev_loop _ _ x
theorem L19_0_lp {E : Env} (s : Slots) (h : Heap) : ev E L19_0 ⟨s, h⟩ = lp E L19_0 (pickS s [0, 6, 14, 15, 16]) h := lp_of L19_0_eq s h
theorem L19_0_go {E : Env} (s : Slots) (h : Heap) : lp E L19_0 s h = andThen (ev E B19_0 ⟨pickS s [0, 6, 14, 15, 16], h⟩) (ev E L19_0) := lp_go L19_0_eq s h
noncomputable def T19_0 (E : Env) (o : Out) : Option (AV × Heap) := outR [(4, none), (5, none)] (andThen (endBlock 0 (some [0, 6, 14, 15, 16]) (o)) (ev E (.seq (.ops [⟨some 33, none, .mov (.t 6)⟩, ⟨some 4, none, .mov (.t 33)⟩, ⟨some 5, none, .mov (.c (.int .i64 0))⟩])
  .ret)))
def I19 : Fn_ := ⟨2, 34, [(4, none), (5, none)],
  (.seq (.ops [⟨some 4, none, .mov (.c (.rs false 1 []))⟩, ⟨some 5, none, .mov (.c (.int .i64 0))⟩])
  (.seq (.seq (.ops [⟨some 11, none, .mov (.t 0)⟩, ⟨some 12, none, .callF false 25 [(.t 11)]⟩, ⟨some 13, none, .un .not (.t 12)⟩])
  (.cond (.t 13)
  (.seq (.ops [⟨some 4, none, .mov (.c (.rs false 1 []))⟩, ⟨some 5, none, .mov (.c (.int .i64 11))⟩])
  .ret)
  .skip))
  (.seq (.ops [⟨some 6, none, .nilrow 1 5⟩])
  (.seq (.seq (.ops [⟨some 14, none, .mov (.t 1)⟩, ⟨some 15, none, .len (.t 14)⟩, ⟨some 16, none, .mov (.c (.int .i64 0))⟩])
  (.block 0 (some [0, 6, 14, 15, 16]) L19_0))
  (.seq (.ops [⟨some 33, none, .mov (.t 6)⟩, ⟨some 4, none, .mov (.t 33)⟩, ⟨some 5, none, .mov (.c (.int .i64 0))⟩])
  .ret)))))⟩
/- slices.Concat[[]byte,byte] -/
def B20_0 : C := (.seq (.ops [⟨some 12, none, .bin .lss (.t 11) (.t 10)⟩])
  (.seq (.cond (.t 12)
  .skip
  (.exit 0))
  (.seq (.block 1 (some [0, 3, 9, 10, 11]) (.seq (.ops [⟨some 13, none, .iaddr 1 (.t 9) (.t 11)⟩, ⟨some 14, none, .load false 1 (.t 13)⟩, ⟨some 5, none, .mov (.t 14)⟩])
  (.seq (.ops [⟨some 15, none, .mov (.t 3)⟩, ⟨some 16, none, .mov (.t 5)⟩, ⟨some 17, none, .len (.t 16)⟩, ⟨some 18, none, .bin .add (.t 15) (.t 17)⟩, ⟨some 3, none, .mov (.t 18)⟩])
  (.seq (.ops [⟨some 19, none, .mov (.t 3)⟩, ⟨some 20, none, .bin .lss (.t 19) (.c (.int .i64 0))⟩])
  (.cond (.t 20)
  (.ops [⟨some 21, none, .mkIf 9 (.c (.str ⟨#[108, 101, 110, 32, 111, 117, 116, 32, 111, 102, 32, 114, 97, 110, 103, 101]⟩))⟩, ⟨none, none, .fail⟩])
  .skip)))))
  (.ops [⟨some 22, none, .bin .add (.t 11) (.c (.int .i64 1))⟩, ⟨some 11, none, .mov (.t 22)⟩]))))
def L20_0 : C := .loop (some [0, 3, 9, 10, 11]) B20_0
theorem L20_0_eq {E : Env} (x : St) : ev E L20_0 x = andThen (ev E B20_0 (restr (some [0, 3, 9, 10, 11]) x)) (ev E L20_0) := ev_loop _ _ x
theorem L20_0_lp {E : Env} (s : Slots) (h : Heap) : ev E L20_0 ⟨s, h⟩ = lp E L20_0 (pickS s [0, 3, 9, 10, 11]) h := lp_of L20_0_eq s h
theorem L20_0_go {E : Env} (s : Slots) (h : Heap) : lp E L20_0 s h = andThen (ev E B20_0 ⟨pickS s [0, 3, 9, 10, 11], h⟩) (ev E L20_0) := lp_go L20_0_eq s h
def B20_1 : C := (.seq (.ops [⟨some 28, none, .bin .lss (.t 27) (.t 26)⟩])
  (.seq (.cond (.t 28)
  .skip
  (.exit 2))
  (.seq (.block 3 (some [6, 25, 26, 27]) (.seq (.ops [⟨some 29, none, .iaddr 1 (.t 25) (.t 27)⟩, ⟨some 30, none, .load false 1 (.t 29)⟩, ⟨some 8, none, .mov (.t 30)⟩])
  (.ops [⟨some 31, none, .mov (.t 6)⟩, ⟨some 32, none, .mov (.t 8)⟩, ⟨some 33, none, .append 1 1 5 (.t 31) (.t 32)⟩, ⟨some 6, none, .mov (.t 33)⟩])))
  (.ops [⟨some 34, none, .bin .add (.t 27) (.c (.int .i64 1))⟩, ⟨some 27, none, .mov (.t 34)⟩]))))
def L20_1 : C := .loop (some [6, 25, 26, 27]) B20_1
theorem L20_1_eq {E : Env} (x : St) : ev E L20_1 x = andThen (ev E B20_1 (restr (some [6, 25, 26, 27]) x)) (ev E L20_1) := ev_loop _ _ x
theorem L20_1_lp {E : Env} (s : Slots) (h : Heap) : ev E L20_1 ⟨s, h⟩ = lp E L20_1 (pickS s [6, 25, 26, 27]) h := lp_of L20_1_eq s h
theorem L20_1_go {E : Env} (s : Slots) (h : Heap) : lp E L20_1 s h = andThen (ev E B20_1 ⟨pickS s [6, 25, 26, 27], h⟩) (ev E L20_1) := lp_go L20_1_eq s h
noncomputable def T20_1 (E : Env) (o : Out) : Option (AV × Heap) := outR [(2, none)] (andThen (endBlock 2 (some [6, 25, 26, 27]) (o)) (ev E (.seq (.ops [⟨some 35, none, .mov (.t 6)⟩, ⟨some 2, none, .mov (.t 35)⟩])
  .ret)))
noncomputable def T20_0 (E : Env) (o : Out) : Option (AV × Heap) := outR [(2, none)] (andThen (endBlock 0 (some [0, 3, 9, 10, 11]) (o)) (ev E (.seq (.ops [⟨some 23, none, .mov (.t 3)⟩, ⟨some 24, none, .callF false 29 [(.c .nils), (.t 23)]⟩, ⟨some 6, none, .mov (.t 24)⟩])
  (.seq (.seq (.ops [⟨some 25, none, .mov (.t 0)⟩, ⟨some 26, none, .len (.t 25)⟩, ⟨some 27, none, .mov (.c (.int .i64 0))⟩])
  (.block 2 (some [6, 25, 26, 27]) L20_1))
  (.seq (.ops [⟨some 35, none, .mov (.t 6)⟩, ⟨some 2, none, .mov (.t 35)⟩])
  .ret)))))
def I20 : Fn_ := ⟨1, 36, [(2, none)],
  (.seq (.ops [⟨some 2, none, .mov (.c (.rs false 1 []))⟩])
  (.seq (.ops [⟨some 3, none, .mov (.c (.int .i64 0))⟩])
  (.seq (.seq (.ops [⟨some 9, none, .mov (.t 0)⟩, ⟨some 10, none, .len (.t 9)⟩, ⟨some 11, none, .mov (.c (.int .i64 0))⟩])
  (.block 0 (some [0, 3, 9, 10, 11]) L20_0))
  (.seq (.ops [⟨some 23, none, .mov (.t 3)⟩, ⟨some 24, none, .callF false 29 [(.c .nils), (.t 23)]⟩, ⟨some 6, none, .mov (.t 24)⟩])
  (.seq (.seq (.ops [⟨some 25, none, .mov (.t 0)⟩, ⟨some 26, none, .len (.t 25)⟩, ⟨some 27, none, .mov (.c (.int .i64 0))⟩])
  (.block 2 (some [6, 25, 26, 27]) L20_1))
  (.seq (.ops [⟨some 35, none, .mov (.t 6)⟩, ⟨some 2, none, .mov (.t 35)⟩])
  .ret))))))⟩
/- vizard/word.Lay -/
def I21 : Fn_ := ⟨4, 27, [(8, none), (9, none)],
  (.seq (.ops [⟨some 8, none, .mov (.c (.rs false 1 []))⟩, ⟨some 9, none, .mov (.c (.int .i64 0))⟩])
  (.seq (.ops [⟨some 13, none, .mov (.t 3)⟩, ⟨some 14, none, .mov (.t 2)⟩, ⟨some 15, none, .callF false 28 [(.t 13), (.t 14)]⟩, ⟨some 12, none, .mov (.t 15)⟩, ⟨some 16, none, .ext (.t 12) 0⟩, ⟨some 17, none, .ext (.t 12) 1⟩, ⟨some 10, none, .mov (.t 16)⟩, ⟨some 11, none, .mov (.t 17)⟩])
  (.seq (.seq (.ops [⟨some 18, none, .mov (.t 11)⟩, ⟨some 19, none, .bin .neq (.t 18) (.c (.int .i64 0))⟩])
  (.cond (.t 19)
  (.seq (.ops [⟨some 20, none, .mov (.t 11)⟩, ⟨some 8, none, .mov (.c (.rs false 1 []))⟩, ⟨some 9, none, .mov (.t 20)⟩])
  .ret)
  .skip))
  (.seq (.ops [⟨some 21, none, .mov (.t 0)⟩, ⟨some 22, none, .mov (.t 1)⟩, ⟨some 23, none, .mov (.t 10)⟩, ⟨some 24, none, .callF false 30 [(.t 21), (.t 22), (.t 23)]⟩, ⟨some 25, none, .ext (.t 24) 0⟩, ⟨some 26, none, .ext (.t 24) 1⟩, ⟨some 8, none, .mov (.t 25)⟩, ⟨some 9, none, .mov (.t 26)⟩])
  .ret))))⟩
/- vizard/sum.Of -/
def I22 : Fn_ := ⟨1, 6, [(2, none)],
  (.seq (.ops [⟨some 2, none, .mov (.c (.int .u16 0))⟩])
  (.seq (.ops [⟨some 3, none, .mov (.t 0)⟩, ⟨some 4, none, .callF false 27 [(.t 3)]⟩, ⟨some 5, none, .un .xor (.t 4)⟩, ⟨some 2, none, .mov (.t 5)⟩])
  .ret))⟩
/- vizard/why.known -/
def I24 : Fn_ := ⟨1, 9, [(2, none)],
  (.seq (.ops [⟨some 2, none, .mov (.c (.bool false))⟩])
  (.seq (.ops [⟨some 3, none, .mov (.t 0)⟩, ⟨some 4, none, .bin .geq (.t 3) (.c (.int .i64 1))⟩, ⟨some 5, none, .mov (.t 4)⟩, ⟨some 6, (some (5, true)), .mov (.t 0)⟩, ⟨some 7, (some (5, true)), .bin .lss (.t 6) (.c (.int .i64 20))⟩, ⟨some 8, none, .pick (.t 5) (.t 7) (.c (.bool false))⟩, ⟨some 2, none, .mov (.t 8)⟩])
  .ret))⟩
/- vizard/word.sized -/
def I25 : Fn_ := ⟨1, 9, [(2, none)],
  (.seq (.ops [⟨some 2, none, .mov (.c (.bool false))⟩])
  (.seq (.ops [⟨some 3, none, .mov (.t 0)⟩, ⟨some 4, none, .bin .geq (.t 3) (.c (.int .i64 1))⟩, ⟨some 5, none, .mov (.t 4)⟩, ⟨some 6, (some (5, true)), .mov (.t 0)⟩, ⟨some 7, (some (5, true)), .bin .leq (.t 6) (.c (.int .i64 8))⟩, ⟨some 8, none, .pick (.t 5) (.t 7) (.c (.bool false))⟩, ⟨some 2, none, .mov (.t 8)⟩])
  .ret))⟩
/- vizard/word.span -/
def I26 : Fn_ := ⟨3, 21, [(6, none)],
  (.seq (.ops [⟨some 6, none, .mov (.c (.int .i64 0))⟩])
  (.seq (.block 0 (some [0, 1, 2]) (.seq (.ops [⟨some 8, none, .mov (.t 1)⟩, ⟨some 9, none, .bin .lss (.t 8) (.c (.int .i64 0))⟩, ⟨some 7, none, .mov (.t 9)⟩])
  (.cond (.t 7)
  (.seq (.ops [⟨some 6, none, .mov (.c (.int .i64 11))⟩])
  .ret)
  (.seq (.ops [⟨some 11, none, .mov (.t 1)⟩, ⟨some 12, none, .mov (.t 0)⟩, ⟨some 13, none, .bin .gtr (.t 11) (.t 12)⟩, ⟨some 14, none, .mov (.t 13)⟩, ⟨some 15, (some (14, false)), .mov (.t 2)⟩, ⟨some 16, (some (14, false)), .mov (.t 0)⟩, ⟨some 17, (some (14, false)), .mov (.t 1)⟩, ⟨some 18, (some (14, false)), .bin .sub (.t 16) (.t 17)⟩, ⟨some 19, (some (14, false)), .bin .gtr (.t 15) (.t 18)⟩, ⟨some 20, none, .pick (.t 14) (.c (.bool true)) (.t 19)⟩, ⟨some 10, none, .mov (.t 20)⟩])
  (.cond (.t 10)
  (.seq (.ops [⟨some 6, none, .mov (.c (.int .i64 12))⟩])
  .ret)
  .skip)))))
  (.seq (.ops [⟨some 6, none, .mov (.c (.int .i64 0))⟩])
  .ret)))⟩
/- vizard/word.number -/
def B28_0 : C := (.seq (.seq (.ops [⟨some 25, none, .mov (.t 7)⟩, ⟨some 26, none, .bin .geq (.t 25) (.c (.int .i64 0))⟩])
  (.cond (.t 26)
  .skip
  (.exit 0)))
  (.seq (.block 1 (some [0, 6, 7]) (.ops [⟨some 29, none, .mov (.t 6)⟩, ⟨some 30, none, .mov (.t 0)⟩, ⟨some 31, none, .mov (.t 7)⟩, ⟨some 32, none, .bin .shr (.t 30) (.t 31)⟩, ⟨some 33, none, .conv .u8 (.t 32)⟩, ⟨some 34, none, .buildR 1 5 [(.t 33)]⟩, ⟨some 35, none, .append 1 1 5 (.t 29) (.t 34)⟩, ⟨some 6, none, .mov (.t 35)⟩]))
  (.ops [⟨some 27, none, .mov (.t 7)⟩, ⟨some 28, none, .bin .sub (.t 27) (.c (.int .i64 8))⟩, ⟨some 7, none, .mov (.t 28)⟩])))
def L28_0 : C := .loop (some [0, 6, 7]) B28_0
theorem L28_0_eq {E : Env} (x : St) : ev E L28_0 x = andThen (ev E B28_0 (restr (some [0, 6, 7]) x)) (ev E L28_0) := ev_loop _ _ x
theorem L28_0_lp {E : Env} (s : Slots) (h : Heap) : ev E L28_0 ⟨s, h⟩ = lp E L28_0 (pickS s [0, 6, 7]) h := lp_of L28_0_eq s h
theorem L28_0_go {E : Env} (s : Slots) (h : Heap) : lp E L28_0 s h = andThen (ev E B28_0 ⟨pickS s [0, 6, 7], h⟩) (ev E L28_0) := lp_go L28_0_eq s h
noncomputable def T28_0 (E : Env) (o : Out) : Option (AV × Heap) := outR [(4, none), (5, none)] (andThen (endBlock 0 (some [0, 6, 7]) (o)) (ev E (.seq (.ops [⟨some 36, none, .mov (.t 6)⟩, ⟨some 4, none, .mov (.t 36)⟩, ⟨some 5, none, .mov (.c (.int .i64 0))⟩])
  .ret)))
def I28 : Fn_ := ⟨2, 37, [(4, none), (5, none)],
  (.seq (.ops [⟨some 4, none, .mov (.c (.rs false 1 []))⟩, ⟨some 5, none, .mov (.c (.int .i64 0))⟩])
  (.seq (.seq (.ops [⟨some 8, none, .mov (.t 1)⟩, ⟨some 9, none, .callF false 25 [(.t 8)]⟩, ⟨some 10, none, .un .not (.t 9)⟩, ⟨some 11, none, .mov (.t 10)⟩, ⟨some 12, (some (11, false)), .mov (.t 1)⟩, ⟨some 13, (some (11, false)), .bin .lss (.t 12) (.c (.int .i64 8))⟩, ⟨some 14, (some (11, false)), .mov (.t 13)⟩, ⟨some 15, (some (14, true)), .mov (.t 0)⟩, ⟨some 16, (some (14, true)), .mov (.t 1)⟩, ⟨some 17, (some (14, true)), .bin .mul (.c (.int .i64 8)) (.t 16)⟩, ⟨some 18, (some (14, true)), .bin .shr (.t 15) (.t 17)⟩, ⟨some 19, (some (14, true)), .bin .neq (.t 18) (.c (.int .u64 0))⟩, ⟨some 20, (some (11, false)), .pick (.t 14) (.t 19) (.c (.bool false))⟩, ⟨some 21, none, .pick (.t 11) (.c (.bool true)) (.t 20)⟩])
  (.cond (.t 21)
  (.seq (.ops [⟨some 4, none, .mov (.c (.rs false 1 []))⟩, ⟨some 5, none, .mov (.c (.int .i64 11))⟩])
  .ret)
  .skip))
  (.seq (.ops [⟨some 6, none, .nilrow 1 5⟩])
  (.seq (.seq (.ops [⟨some 22, none, .mov (.t 1)⟩, ⟨some 23, none, .bin .sub (.t 22) (.c (.int .i64 1))⟩, ⟨some 24, none, .bin .mul (.c (.int .i64 8)) (.t 23)⟩, ⟨some 7, none, .mov (.t 24)⟩])
  (.block 0 (some [0, 6, 7]) L28_0))
  (.seq (.ops [⟨some 36, none, .mov (.t 6)⟩, ⟨some 4, none, .mov (.t 36)⟩, ⟨some 5, none, .mov (.c (.int .i64 0))⟩])
  .ret)))))⟩
/- slices.Grow[[]byte,byte] -/
def I29 : Fn_ := ⟨2, 27, [(4, none)],
  (.seq (.ops [⟨some 4, none, .mov (.c (.rs false 1 []))⟩])
  (.seq (.seq (.ops [⟨some 5, none, .mov (.t 1)⟩, ⟨some 6, none, .bin .lss (.t 5) (.c (.int .i64 0))⟩])
  (.cond (.t 6)
  (.ops [⟨some 7, none, .mkIf 9 (.c (.str ⟨#[99, 97, 110, 110, 111, 116, 32, 98, 101, 32, 110, 101, 103, 97, 116, 105, 118, 101]⟩))⟩, ⟨none, none, .fail⟩])
  .skip))
  (.seq (.seq (.ops [⟨some 8, none, .mov (.t 1)⟩, ⟨some 9, none, .mov (.t 0)⟩, ⟨some 10, none, .capNil (.t 9)⟩, ⟨some 11, none, .mov (.t 0)⟩, ⟨some 12, none, .len (.t 11)⟩, ⟨some 13, none, .bin .sub (.t 10) (.t 12)⟩, ⟨some 14, none, .bin .sub (.t 8) (.t 13)⟩, ⟨some 1, none, .mov (.t 14)⟩])
  (.seq (.ops [⟨some 15, none, .mov (.t 1)⟩, ⟨some 16, none, .bin .gtr (.t 15) (.c (.int .i64 0))⟩])
  (.cond (.t 16)
  (.ops [⟨some 17, none, .mov (.t 0)⟩, ⟨some 18, none, .mov (.t 0)⟩, ⟨some 19, none, .capNil (.t 18)⟩, ⟨some 20, none, .trunc 1 (.t 17) (.t 19)⟩, ⟨some 21, none, .mov (.t 1)⟩, ⟨some 22, none, .appMk 1 1 5 [(.int .u8 0)] (.t 20) (.t 21)⟩, ⟨some 23, none, .mov (.t 0)⟩, ⟨some 24, none, .len (.t 23)⟩, ⟨some 25, none, .trunc 1 (.t 22) (.t 24)⟩, ⟨some 0, none, .mov (.t 25)⟩])
  .skip)))
  (.seq (.ops [⟨some 26, none, .mov (.t 0)⟩, ⟨some 4, none, .mov (.t 26)⟩])
  .ret))))⟩
/- vizard/word.Patch -/
def I30 : Fn_ := ⟨3, 27, [(6, none), (7, none)],
  (.seq (.ops [⟨some 6, none, .mov (.c (.rs false 1 []))⟩, ⟨some 7, none, .mov (.c (.int .i64 0))⟩])
  (.seq (.seq (.ops [⟨some 10, none, .mov (.t 0)⟩, ⟨some 11, none, .len (.t 10)⟩, ⟨some 12, none, .mov (.t 1)⟩, ⟨some 13, none, .mov (.t 2)⟩, ⟨some 14, none, .len (.t 13)⟩, ⟨some 15, none, .callF false 26 [(.t 11), (.t 12), (.t 14)]⟩, ⟨some 8, none, .mov (.t 15)⟩])
  (.seq (.ops [⟨some 16, none, .mov (.t 8)⟩, ⟨some 17, none, .bin .neq (.t 16) (.c (.int .i64 0))⟩])
  (.cond (.t 17)
  (.seq (.ops [⟨some 18, none, .mov (.t 8)⟩, ⟨some 6, none, .mov (.c (.rs false 1 []))⟩, ⟨some 7, none, .mov (.t 18)⟩])
  .ret)
  .skip)))
  (.seq (.ops [⟨some 19, none, .mov (.t 0)⟩, ⟨some 20, none, .callF false 16 [(.t 19)]⟩, ⟨some 9, none, .mov (.t 20)⟩])
  (.seq (.ops [⟨some 21, none, .mov (.t 9)⟩, ⟨some 22, none, .mov (.t 1)⟩, ⟨some 23, none, .slice 1 (.t 21) (some (.t 22)) none⟩, ⟨some 24, none, .mov (.t 2)⟩, ⟨some 25, none, .copy 1 (.t 23) (.t 24)⟩])
  (.seq (.ops [⟨some 26, none, .mov (.t 9)⟩, ⟨some 6, none, .mov (.t 26)⟩, ⟨some 7, none, .mov (.c (.int .i64 0))⟩])
  .ret)))))⟩
/- vizard/sum.number -/
def I34 : Fn_ := ⟨1, 15, [(2, none)],
  (.seq (.ops [⟨some 2, none, .mov (.c (.int .u16 0))⟩])
  (.seq (.ops [⟨some 3, none, .alloc true [(.int .u8 0), (.int .u8 0)] 87⟩])
  (.seq (.ops [⟨some 4, none, .sliceA 2 1 (.t 3) none none⟩, ⟨some 5, none, .mov (.t 0)⟩, ⟨some 6, none, .copy 1 (.t 4) (.t 5)⟩])
  (.seq (.ops [⟨some 7, none, .iaddrA 2 1 false (.t 3) (.c (.int .i64 0))⟩, ⟨some 8, none, .load false 1 (.t 7)⟩, ⟨some 9, none, .conv .u16 (.t 8)⟩, ⟨some 10, none, .bin .shl (.t 9) (.c (.int .u64 8))⟩, ⟨some 11, none, .iaddrA 2 1 false (.t 3) (.c (.int .i64 1))⟩, ⟨some 12, none, .load false 1 (.t 11)⟩, ⟨some 13, none, .conv .u16 (.t 12)⟩, ⟨some 14, none, .bin .or (.t 10) (.t 13)⟩, ⟨some 2, none, .mov (.t 14)⟩])
  .ret))))⟩
/- vizard/sum.fold -/
def B35_0 : C := (.seq (.seq (.ops [⟨some 3, none, .mov (.t 0)⟩, ⟨some 4, none, .bin .gtr (.t 3) (.c (.int .u64 65535))⟩])
  (.cond (.t 4)
  .skip
  (.exit 0)))
  (.block 1 (some [0]) (.ops [⟨some 5, none, .mov (.t 0)⟩, ⟨some 6, none, .bin .and (.t 5) (.c (.int .u64 65535))⟩, ⟨some 7, none, .mov (.t 0)⟩, ⟨some 8, none, .bin .shr (.t 7) (.c (.int .u64 16))⟩, ⟨some 9, none, .bin .add (.t 6) (.t 8)⟩, ⟨some 0, none, .mov (.t 9)⟩])))
def L35_0 : C := .loop (some [0]) B35_0
theorem L35_0_eq {E : Env} (x : St) : ev E L35_0 x = andThen (ev E B35_0 (restr (some [0]) x)) (ev E L35_0) := ev_loop _ _ x
theorem L35_0_lp {E : Env} (s : Slots) (h : Heap) : ev E L35_0 ⟨s, h⟩ = lp E L35_0 (pickS s [0]) h := lp_of L35_0_eq s h
theorem L35_0_go {E : Env} (s : Slots) (h : Heap) : lp E L35_0 s h = andThen (ev E B35_0 ⟨pickS s [0], h⟩) (ev E L35_0) := lp_go L35_0_eq s h
noncomputable def T35_0 (E : Env) (o : Out) : Option (AV × Heap) := outR [(2, none)] (andThen (endBlock 0 (some [0]) (o)) (ev E (.seq (.ops [⟨some 10, none, .mov (.t 0)⟩, ⟨some 11, none, .conv .u16 (.t 10)⟩, ⟨some 2, none, .mov (.t 11)⟩])
  .ret)))
def I35 : Fn_ := ⟨1, 12, [(2, none)],
  (.seq (.ops [⟨some 2, none, .mov (.c (.int .u16 0))⟩])
  (.seq (.block 0 (some [0]) L35_0)
  (.seq (.ops [⟨some 10, none, .mov (.t 0)⟩, ⟨some 11, none, .conv .u16 (.t 10)⟩, ⟨some 2, none, .mov (.t 11)⟩])
  .ret)))⟩
/- (*vizard/why.fault).Unwrap -/
def I54 : Fn_ := ⟨1, 7, [(2, none)],
  (.seq (.ops [⟨some 2, none, .mov (.c .nili)⟩])
  (.seq (.ops [⟨some 3, none, .mov (.t 0)⟩, ⟨some 4, none, .nilChk (.t 3)⟩, ⟨some 5, none, .faddr false 1 1 (.t 4)⟩, ⟨some 6, none, .load false 1 (.t 5)⟩, ⟨some 2, none, .mov (.t 6)⟩])
  .ret))⟩

def fns : FuncId → Option Fn_
  | 2 => some I2
  | 3 => some I3
  | 4 => some I4
  | 5 => some I5
  | 6 => some I6
  | 7 => some I7
  | 8 => some I8
  | 9 => some I9
  | 10 => some I10
  | 11 => some I11
  | 12 => some I12
  | 13 => some I13
  | 14 => some I14
  | 15 => some I15
  | 16 => some I16
  | 17 => some I17
  | 18 => some I18
  | 19 => some I19
  | 20 => some I20
  | 21 => some I21
  | 22 => some I22
  | 24 => some I24
  | 25 => some I25
  | 26 => some I26
  | 28 => some I28
  | 29 => some I29
  | 30 => some I30
  | 34 => some I34
  | 35 => some I35
  | 54 => some I54
  | _ => none

def keep : FuncId → Bool
  | 7 => true
  | 16 => true
  | 19 => true
  | 20 => true
  | 29 => true
  | _ => false

theorem chk2 : chkFn Try.prog Try.f2 I2 = true := by kernel_rfl
theorem chk3 : chkFn Try.prog Try.f3 I3 = true := by kernel_rfl
theorem chk4 : chkFn Try.prog Try.f4 I4 = true := by kernel_rfl
theorem chk5 : chkFn Try.prog Try.f5 I5 = true := by kernel_rfl
theorem chk6 : chkFn Try.prog Try.f6 I6 = true := by kernel_rfl
theorem chk7 : chkFn Try.prog Try.f7 I7 = true := by kernel_rfl
theorem chk8 : chkFn Try.prog Try.f8 I8 = true := by kernel_rfl
theorem chk9 : chkFn Try.prog Try.f9 I9 = true := by kernel_rfl
theorem chk10 : chkFn Try.prog Try.f10 I10 = true := by kernel_rfl
theorem chk11 : chkFn Try.prog Try.f11 I11 = true := by kernel_rfl
theorem chk12 : chkFn Try.prog Try.f12 I12 = true := by kernel_rfl
theorem chk13 : chkFn Try.prog Try.f13 I13 = true := by kernel_rfl
theorem chk14 : chkFn Try.prog Try.f14 I14 = true := by kernel_rfl
theorem chk15 : chkFn Try.prog Try.f15 I15 = true := by kernel_rfl
theorem chk16 : chkFn Try.prog Try.f16 I16 = true := by kernel_rfl
theorem chk17 : chkFn Try.prog Try.f17 I17 = true := by kernel_rfl
theorem chk18 : chkFn Try.prog Try.f18 I18 = true := by kernel_rfl
theorem chk19 : chkFn Try.prog Try.f19 I19 = true := by kernel_rfl
theorem chk20 : chkFn Try.prog Try.f20 I20 = true := by kernel_rfl
theorem chk21 : chkFn Try.prog Try.f21 I21 = true := by kernel_rfl
theorem chk22 : chkFn Try.prog Try.f22 I22 = true := by kernel_rfl
theorem chk24 : chkFn Try.prog Try.f24 I24 = true := by kernel_rfl
theorem chk25 : chkFn Try.prog Try.f25 I25 = true := by kernel_rfl
theorem chk26 : chkFn Try.prog Try.f26 I26 = true := by kernel_rfl
theorem chk28 : chkFn Try.prog Try.f28 I28 = true := by kernel_rfl
theorem chk29 : chkFn Try.prog Try.f29 I29 = true := by kernel_rfl
theorem chk30 : chkFn Try.prog Try.f30 I30 = true := by kernel_rfl
theorem chk34 : chkFn Try.prog Try.f34 I34 = true := by kernel_rfl
theorem chk35 : chkFn Try.prog Try.f35 I35 = true := by kernel_rfl
theorem chk54 : chkFn Try.prog Try.f54 I54 = true := by kernel_rfl

theorem fns_ok : ∀ f fn, fns f = some fn → ∃ func, Try.prog.funcs[f]? = some func ∧ chkFn Try.prog func fn = true := by
  intro f fn h
  unfold fns at h
  split at h
  · cases h; exact ⟨Try.f2, Try.func2, chk2⟩
  · cases h; exact ⟨Try.f3, Try.func3, chk3⟩
  · cases h; exact ⟨Try.f4, Try.func4, chk4⟩
  · cases h; exact ⟨Try.f5, Try.func5, chk5⟩
  · cases h; exact ⟨Try.f6, Try.func6, chk6⟩
  · cases h; exact ⟨Try.f7, Try.func7, chk7⟩
  · cases h; exact ⟨Try.f8, Try.func8, chk8⟩
  · cases h; exact ⟨Try.f9, Try.func9, chk9⟩
  · cases h; exact ⟨Try.f10, Try.func10, chk10⟩
  · cases h; exact ⟨Try.f11, Try.func11, chk11⟩
  · cases h; exact ⟨Try.f12, Try.func12, chk12⟩
  · cases h; exact ⟨Try.f13, Try.func13, chk13⟩
  · cases h; exact ⟨Try.f14, Try.func14, chk14⟩
  · cases h; exact ⟨Try.f15, Try.func15, chk15⟩
  · cases h; exact ⟨Try.f16, Try.func16, chk16⟩
  · cases h; exact ⟨Try.f17, Try.func17, chk17⟩
  · cases h; exact ⟨Try.f18, Try.func18, chk18⟩
  · cases h; exact ⟨Try.f19, Try.func19, chk19⟩
  · cases h; exact ⟨Try.f20, Try.func20, chk20⟩
  · cases h; exact ⟨Try.f21, Try.func21, chk21⟩
  · cases h; exact ⟨Try.f22, Try.func22, chk22⟩
  · cases h; exact ⟨Try.f24, Try.func24, chk24⟩
  · cases h; exact ⟨Try.f25, Try.func25, chk25⟩
  · cases h; exact ⟨Try.f26, Try.func26, chk26⟩
  · cases h; exact ⟨Try.f28, Try.func28, chk28⟩
  · cases h; exact ⟨Try.f29, Try.func29, chk29⟩
  · cases h; exact ⟨Try.f30, Try.func30, chk30⟩
  · cases h; exact ⟨Try.f34, Try.func34, chk34⟩
  · cases h; exact ⟨Try.f35, Try.func35, chk35⟩
  · cases h; exact ⟨Try.f54, Try.func54, chk54⟩
  · cases h

end Go.Fw.Code_
