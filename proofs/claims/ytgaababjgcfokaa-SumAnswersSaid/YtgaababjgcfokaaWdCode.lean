/-
  The code of the functions that are evaluated, by program (irgen.py) out of the print of the loaded functions; checked against them below. Conditions: none.
-/
import Derived.Test.YtgaababjgcfokaaFwQ
import Derived.Test.YtgaababjgcfokaaProg
import Derived.KernelRfl
set_option linter.unusedVariables false
set_option maxRecDepth 100000
namespace Go.Fw.Code_
open Go.Proofs

/- gosem.cut.init -/
def I2 : Fn_ := ⟨0, 1, [],
  (.ops [⟨some 0, none, .callF false 1 []⟩])⟩
/- vizard/vizardlaw03.SumAnswers -/
def I3 : Fn_ := ⟨6, 98, [(12, none)],
  (.seq (.ops [⟨some 12, none, .mov (.c (.bool false))⟩])
  (.seq (.seq (.ops [⟨some 18, none, .callF false 13 []⟩, ⟨some 19, none, .un .not (.t 18)⟩])
  (.cond (.t 19)
  (.seq (.ops [⟨some 12, none, .mov (.c (.bool false))⟩])
  .ret)
  .skip))
  (.seq (.seq (.ops [⟨some 20, none, .mov (.t 0)⟩, ⟨some 21, none, .callF false 14 [(.t 20), (.c (.int .i64 3000))]⟩, ⟨some 22, none, .mov (.t 21)⟩, ⟨some 23, (some (22, false)), .mov (.t 4)⟩, ⟨some 24, (some (22, false)), .len (.t 23)⟩, ⟨some 25, (some (22, false)), .bin .gtr (.t 24) (.c (.int .i64 3000))⟩, ⟨some 26, none, .pick (.t 22) (.c (.bool true)) (.t 25)⟩, ⟨some 27, none, .mov (.t 26)⟩, ⟨some 28, (some (27, false)), .mov (.t 5)⟩, ⟨some 29, (some (27, false)), .len (.t 28)⟩, ⟨some 30, (some (27, false)), .bin .gtr (.t 29) (.c (.int .i64 3000))⟩, ⟨some 31, none, .pick (.t 27) (.c (.bool true)) (.t 30)⟩])
  (.cond (.t 31)
  (.seq (.ops [⟨some 12, none, .mov (.c (.bool true))⟩])
  .ret)
  .skip))
  (.seq (.ops [⟨some 32, none, .mov (.t 0)⟩, ⟨some 33, none, .callF false 15 [(.t 32)]⟩, ⟨some 13, none, .mov (.t 33)⟩])
  (.seq (.ops [⟨some 35, none, .mov (.t 1)⟩, ⟨some 36, none, .mov (.t 4)⟩, ⟨some 37, none, .mov (.t 5)⟩, ⟨some 38, none, .callF false 16 [(.t 35), (.t 36), (.t 37)]⟩, ⟨some 34, none, .mov (.t 38)⟩, ⟨some 39, none, .ext (.t 34) 0⟩, ⟨some 40, none, .ext (.t 34) 1⟩, ⟨some 14, none, .mov (.t 39)⟩, ⟨some 15, none, .mov (.t 40)⟩])
  (.seq (.ops [⟨some 42, none, .mov (.t 1)⟩, ⟨some 43, none, .mov (.t 4)⟩, ⟨some 44, none, .mov (.t 5)⟩, ⟨some 45, none, .callF false 17 [(.t 42), (.t 43), (.t 44)]⟩, ⟨some 41, none, .mov (.t 45)⟩, ⟨some 46, none, .ext (.t 41) 0⟩, ⟨some 47, none, .ext (.t 41) 1⟩, ⟨some 16, none, .mov (.t 46)⟩, ⟨some 17, none, .mov (.t 47)⟩])
  (.seq (.ops [⟨some 48, none, .mov (.t 1)⟩, ⟨some 49, none, .mov (.t 2)⟩, ⟨some 50, none, .callF false 18 [(.t 48), (.t 49)]⟩, ⟨some 51, none, .mov (.t 1)⟩, ⟨some 52, none, .mov (.t 2)⟩, ⟨some 53, none, .callF false 19 [(.t 51), (.t 52)]⟩, ⟨some 54, none, .bin .eql (.t 50) (.t 53)⟩, ⟨some 55, none, .mov (.t 54)⟩, ⟨some 56, (some (55, true)), .mov (.t 1)⟩, ⟨some 57, (some (55, true)), .mov (.t 2)⟩, ⟨some 58, (some (55, true)), .mov (.t 3)⟩, ⟨some 59, (some (55, true)), .callF false 20 [(.t 56), (.t 57), (.t 58)]⟩, ⟨some 60, (some (55, true)), .mov (.t 1)⟩, ⟨some 61, (some (55, true)), .mov (.t 2)⟩, ⟨some 62, (some (55, true)), .mov (.t 3)⟩, ⟨some 63, (some (55, true)), .callF false 21 [(.t 60), (.t 61), (.t 62)]⟩, ⟨some 64, (some (55, true)), .bin .eql (.t 59) (.t 63)⟩, ⟨some 65, none, .pick (.t 55) (.t 64) (.c (.bool false))⟩, ⟨some 66, none, .mov (.t 65)⟩, ⟨some 67, (some (66, true)), .mov (.t 0)⟩, ⟨some 68, (some (66, true)), .callF false 22 [(.t 67)]⟩, ⟨some 69, (some (66, true)), .mov (.t 13)⟩, ⟨some 70, (some (66, true)), .callF false 23 [(.t 69)]⟩, ⟨some 71, (some (66, true)), .bin .eql (.t 68) (.t 70)⟩, ⟨some 72, none, .pick (.t 66) (.t 71) (.c (.bool false))⟩, ⟨some 73, none, .mov (.t 72)⟩, ⟨some 74, (some (73, true)), .mov (.t 0)⟩, ⟨some 75, (some (73, true)), .callF false 24 [(.t 74)]⟩, ⟨some 76, (some (73, true)), .mov (.t 13)⟩, ⟨some 77, (some (73, true)), .callF false 25 [(.t 76)]⟩, ⟨some 78, (some (73, true)), .bin .eql (.t 75) (.t 77)⟩, ⟨some 79, none, .pick (.t 73) (.t 78) (.c (.bool false))⟩, ⟨some 80, none, .mov (.t 79)⟩, ⟨some 81, (some (80, true)), .mov (.t 0)⟩, ⟨some 82, (some (80, true)), .callF false 26 [(.t 81)]⟩, ⟨some 83, (some (80, true)), .mov (.t 13)⟩, ⟨some 84, (some (80, true)), .callF false 23 [(.t 83)]⟩, ⟨some 85, (some (80, true)), .bin .eql (.t 84) (.c (.int .u16 65535))⟩, ⟨some 86, (some (80, true)), .binB .eql (.t 82) (.t 85)⟩, ⟨some 87, none, .pick (.t 80) (.t 86) (.c (.bool false))⟩, ⟨some 88, none, .mov (.t 87)⟩, ⟨some 89, (some (88, true)), .mov (.t 14)⟩, ⟨some 90, (some (88, true)), .mov (.t 16)⟩, ⟨some 91, (some (88, true)), .bin .eql (.t 89) (.t 90)⟩, ⟨some 92, none, .pick (.t 88) (.t 91) (.c (.bool false))⟩, ⟨some 93, none, .mov (.t 92)⟩, ⟨some 94, (some (93, true)), .mov (.t 15)⟩, ⟨some 95, (some (93, true)), .mov (.t 17)⟩, ⟨some 96, (some (93, true)), .bin .eql (.t 94) (.t 95)⟩, ⟨some 97, none, .pick (.t 93) (.t 96) (.c (.bool false))⟩, ⟨some 12, none, .mov (.t 97)⟩])
  .ret)))))))⟩
/- vizard/vizardlaw03.SumPatch -/
def B4_0 : C := (.seq (.seq (.ops [⟨some 48, none, .mov (.t 8)⟩, ⟨some 49, none, .mov (.t 2)⟩, ⟨some 50, none, .len (.t 49)⟩, ⟨some 51, none, .bin .lss (.t 48) (.t 50)⟩])
  (.cond (.t 51)
  .skip
  (.exit 0)))
  (.seq (.block 1 (some [0, 1, 2, 7, 8]) (.ops [⟨some 54, none, .mov (.t 7)⟩, ⟨some 55, none, .mov (.t 1)⟩, ⟨some 56, none, .mov (.t 8)⟩, ⟨some 57, none, .bin .add (.t 55) (.t 56)⟩, ⟨some 58, none, .mov (.t 2)⟩, ⟨some 59, none, .mov (.t 8)⟩, ⟨some 60, none, .iaddr 1 (.t 58) (.t 59)⟩, ⟨some 61, none, .load false 1 (.t 60)⟩, ⟨some 62, none, .iaddr 1 (.t 54) (.t 57)⟩, ⟨none, none, .store 1 (.t 62) (.t 61)⟩]))
  (.ops [⟨some 52, none, .mov (.t 8)⟩, ⟨some 53, none, .bin .add (.t 52) (.c (.int .i64 1))⟩, ⟨some 8, none, .mov (.t 53)⟩])))
def L4_0 : C := .loop (some [0, 1, 2, 7, 8]) B4_0
theorem L4_0_eq {E : Env} (x : St) : ev E L4_0 x = andThen (ev E B4_0 (restr (some [0, 1, 2, 7, 8]) x)) (ev E L4_0) := ev_loop _ _ x
def I4 : Fn_ := ⟨3, 93, [(6, none)],
  (.seq (.ops [⟨some 6, none, .mov (.c (.bool false))⟩])
  (.seq (.seq (.ops [⟨some 11, none, .callF false 13 []⟩, ⟨some 12, none, .un .not (.t 11)⟩])
  (.cond (.t 12)
  (.seq (.ops [⟨some 6, none, .mov (.c (.bool false))⟩])
  .ret)
  .skip))
  (.seq (.seq (.ops [⟨some 13, none, .mov (.t 0)⟩, ⟨some 14, none, .len (.t 13)⟩, ⟨some 15, none, .bin .gtr (.t 14) (.c (.int .i64 3000))⟩, ⟨some 16, none, .mov (.t 15)⟩, ⟨some 17, (some (16, false)), .mov (.t 1)⟩, ⟨some 18, (some (16, false)), .bin .lss (.t 17) (.c (.int .i64 0))⟩, ⟨some 19, none, .pick (.t 16) (.c (.bool true)) (.t 18)⟩, ⟨some 20, none, .mov (.t 19)⟩, ⟨some 21, (some (20, false)), .mov (.t 1)⟩, ⟨some 22, (some (20, false)), .bin .rem (.t 21) (.c (.int .i64 2))⟩, ⟨some 23, (some (20, false)), .bin .eql (.t 22) (.c (.int .i64 1))⟩, ⟨some 24, none, .pick (.t 20) (.c (.bool true)) (.t 23)⟩, ⟨some 25, none, .mov (.t 24)⟩, ⟨some 26, (some (25, false)), .mov (.t 1)⟩, ⟨some 27, (some (25, false)), .mov (.t 0)⟩, ⟨some 28, (some (25, false)), .len (.t 27)⟩, ⟨some 29, (some (25, false)), .bin .gtr (.t 26) (.t 28)⟩, ⟨some 30, none, .pick (.t 25) (.c (.bool true)) (.t 29)⟩, ⟨some 31, none, .mov (.t 30)⟩, ⟨some 32, (some (31, false)), .mov (.t 2)⟩, ⟨some 33, (some (31, false)), .len (.t 32)⟩, ⟨some 34, (some (31, false)), .bin .rem (.t 33) (.c (.int .i64 2))⟩, ⟨some 35, (some (31, false)), .bin .eql (.t 34) (.c (.int .i64 1))⟩, ⟨some 36, none, .pick (.t 31) (.c (.bool true)) (.t 35)⟩, ⟨some 37, none, .mov (.t 36)⟩, ⟨some 38, (some (37, false)), .mov (.t 2)⟩, ⟨some 39, (some (37, false)), .len (.t 38)⟩, ⟨some 40, (some (37, false)), .mov (.t 0)⟩, ⟨some 41, (some (37, false)), .len (.t 40)⟩, ⟨some 42, (some (37, false)), .mov (.t 1)⟩, ⟨some 43, (some (37, false)), .bin .sub (.t 41) (.t 42)⟩, ⟨some 44, (some (37, false)), .bin .gtr (.t 39) (.t 43)⟩, ⟨some 45, none, .pick (.t 37) (.c (.bool true)) (.t 44)⟩])
  (.cond (.t 45)
  (.seq (.ops [⟨some 6, none, .mov (.c (.bool true))⟩])
  .ret)
  .skip))
  (.seq (.ops [⟨some 46, none, .mov (.t 0)⟩, ⟨some 47, none, .callF false 27 [(.t 46)]⟩, ⟨some 7, none, .mov (.t 47)⟩])
  (.seq (.seq (.ops [⟨some 8, none, .mov (.c (.int .i64 0))⟩])
  (.block 0 (some [0, 1, 2, 7, 8]) L4_0))
  (.seq (.seq (.ops [⟨some 63, none, .mov (.t 0)⟩, ⟨some 64, none, .callF false 28 [(.t 63)]⟩, ⟨some 65, none, .mov (.t 64)⟩, ⟨some 66, (some (65, false)), .mov (.t 7)⟩, ⟨some 67, (some (65, false)), .callF false 28 [(.t 66)]⟩, ⟨some 68, none, .pick (.t 65) (.c (.bool true)) (.t 67)⟩])
  (.cond (.t 68)
  (.seq (.ops [⟨some 6, none, .mov (.c (.bool true))⟩])
  .ret)
  .skip))
  (.seq (.ops [⟨some 70, none, .mov (.t 0)⟩, ⟨some 71, none, .buildR 1 24 [(.t 70)]⟩, ⟨some 72, none, .callF true 24 [(.t 71)]⟩, ⟨some 73, none, .mov (.t 0)⟩, ⟨some 74, none, .mov (.t 1)⟩, ⟨some 75, none, .mov (.t 1)⟩, ⟨some 76, none, .mov (.t 2)⟩, ⟨some 77, none, .len (.t 76)⟩, ⟨some 78, none, .bin .add (.t 75) (.t 77)⟩, ⟨some 79, none, .slice 1 (.t 73) (some (.t 74)) (some (.t 78))⟩, ⟨some 80, none, .mov (.t 2)⟩, ⟨some 81, none, .callF true 16 [(.t 72), (.t 79), (.t 80)]⟩, ⟨some 69, none, .mov (.t 81)⟩, ⟨some 82, none, .ext (.t 69) 0⟩, ⟨some 83, none, .ext (.t 69) 1⟩, ⟨some 9, none, .mov (.t 82)⟩, ⟨some 10, none, .mov (.t 83)⟩])
  (.seq (.ops [⟨some 84, none, .mov (.t 10)⟩, ⟨some 85, none, .bin .eql (.t 84) (.c (.int .i64 0))⟩, ⟨some 86, none, .mov (.t 85)⟩, ⟨some 87, (some (86, true)), .mov (.t 9)⟩, ⟨some 88, (some (86, true)), .mov (.t 7)⟩, ⟨some 89, (some (86, true)), .buildSl 1 24 [(.t 88)]⟩, ⟨some 90, (some (86, true)), .callF false 24 [(.t 89)]⟩, ⟨some 91, (some (86, true)), .bin .eql (.t 87) (.t 90)⟩, ⟨some 92, none, .pick (.t 86) (.t 91) (.c (.bool false))⟩, ⟨some 6, none, .mov (.t 92)⟩])
  .ret))))))))⟩
/- vizard/vizardlaw03.SumOwn -/
def I5 : Fn_ := ⟨4, 94, [(8, none)],
  (.seq (.ops [⟨some 8, none, .mov (.c (.bool false))⟩])
  (.seq (.seq (.ops [⟨some 11, none, .callF false 13 []⟩, ⟨some 12, none, .un .not (.t 11)⟩])
  (.cond (.t 12)
  (.seq (.ops [⟨some 8, none, .mov (.c (.bool false))⟩])
  .ret)
  .skip))
  (.seq (.seq (.ops [⟨some 13, none, .mov (.t 0)⟩, ⟨some 14, none, .len (.t 13)⟩, ⟨some 15, none, .bin .gtr (.t 14) (.c (.int .i64 3000))⟩, ⟨some 16, none, .mov (.t 15)⟩, ⟨some 17, (some (16, false)), .mov (.t 0)⟩, ⟨some 18, (some (16, false)), .len (.t 17)⟩, ⟨some 19, (some (16, false)), .bin .lss (.t 18) (.c (.int .i64 2))⟩, ⟨some 20, none, .pick (.t 16) (.c (.bool true)) (.t 19)⟩, ⟨some 21, none, .mov (.t 20)⟩, ⟨some 22, (some (21, false)), .mov (.t 1)⟩, ⟨some 23, (some (21, false)), .bin .lss (.t 22) (.c (.int .i64 0))⟩, ⟨some 24, none, .pick (.t 21) (.c (.bool true)) (.t 23)⟩, ⟨some 25, none, .mov (.t 24)⟩, ⟨some 26, (some (25, false)), .mov (.t 1)⟩, ⟨some 27, (some (25, false)), .bin .rem (.t 26) (.c (.int .i64 2))⟩, ⟨some 28, (some (25, false)), .bin .eql (.t 27) (.c (.int .i64 1))⟩, ⟨some 29, none, .pick (.t 25) (.c (.bool true)) (.t 28)⟩, ⟨some 30, none, .mov (.t 29)⟩, ⟨some 31, (some (30, false)), .mov (.t 1)⟩, ⟨some 32, (some (30, false)), .mov (.t 0)⟩, ⟨some 33, (some (30, false)), .len (.t 32)⟩, ⟨some 34, (some (30, false)), .bin .sub (.t 33) (.c (.int .i64 2))⟩, ⟨some 35, (some (30, false)), .bin .gtr (.t 31) (.t 34)⟩, ⟨some 36, none, .pick (.t 30) (.c (.bool true)) (.t 35)⟩])
  (.cond (.t 36)
  (.seq (.ops [⟨some 8, none, .mov (.c (.bool true))⟩])
  .ret)
  .skip))
  (.seq (.ops [⟨some 37, none, .mov (.t 0)⟩, ⟨some 38, none, .callF false 27 [(.t 37)]⟩, ⟨some 9, none, .mov (.t 38)⟩])
  (.seq (.ops [⟨some 39, none, .mov (.t 9)⟩, ⟨some 40, none, .mov (.t 1)⟩, ⟨some 41, none, .iaddr 1 (.t 39) (.t 40)⟩, ⟨none, none, .store 1 (.t 41) (.c (.int .u8 0))⟩])
  (.seq (.ops [⟨some 42, none, .mov (.t 9)⟩, ⟨some 43, none, .mov (.t 1)⟩, ⟨some 44, none, .bin .add (.t 43) (.c (.int .i64 1))⟩, ⟨some 45, none, .iaddr 1 (.t 42) (.t 44)⟩, ⟨none, none, .store 1 (.t 45) (.c (.int .u8 0))⟩])
  (.seq (.ops [⟨some 46, none, .mov (.t 9)⟩, ⟨some 47, none, .buildSl 1 24 [(.t 46)]⟩, ⟨some 48, none, .callF false 24 [(.t 47)]⟩, ⟨some 10, none, .mov (.t 48)⟩])
  (.seq (.ops [⟨some 49, none, .mov (.t 9)⟩, ⟨some 50, none, .mov (.t 1)⟩, ⟨some 51, none, .mov (.t 10)⟩, ⟨some 52, none, .bin .shr (.t 51) (.c (.int .u64 8))⟩, ⟨some 53, none, .conv .u8 (.t 52)⟩, ⟨some 54, none, .iaddr 1 (.t 49) (.t 50)⟩, ⟨none, none, .store 1 (.t 54) (.t 53)⟩])
  (.seq (.ops [⟨some 55, none, .mov (.t 9)⟩, ⟨some 56, none, .mov (.t 1)⟩, ⟨some 57, none, .bin .add (.t 56) (.c (.int .i64 1))⟩, ⟨some 58, none, .mov (.t 10)⟩, ⟨some 59, none, .conv .u8 (.t 58)⟩, ⟨some 60, none, .iaddr 1 (.t 55) (.t 57)⟩, ⟨none, none, .store 1 (.t 60) (.t 59)⟩])
  (.seq (.seq (.ops [⟨some 61, none, .mov (.t 9)⟩, ⟨some 62, none, .buildSl 1 24 [(.t 61)]⟩, ⟨some 63, none, .callF false 26 [(.t 62)]⟩, ⟨some 64, none, .un .not (.t 63)⟩, ⟨some 65, none, .mov (.t 64)⟩, ⟨some 66, (some (65, false)), .mov (.t 9)⟩, ⟨some 67, (some (65, false)), .buildSl 1 24 [(.t 66)]⟩, ⟨some 68, (some (65, false)), .callF false 22 [(.t 67)]⟩, ⟨some 69, (some (65, false)), .bin .neq (.t 68) (.c (.int .u16 65535))⟩, ⟨some 70, none, .pick (.t 65) (.c (.bool true)) (.t 69)⟩])
  (.cond (.t 70)
  (.seq (.ops [⟨some 8, none, .mov (.c (.bool false))⟩])
  .ret)
  .skip))
  (.seq (.seq (.ops [⟨some 71, none, .mov (.t 2)⟩, ⟨some 72, none, .bin .lss (.t 71) (.c (.int .i64 0))⟩, ⟨some 73, none, .mov (.t 72)⟩, ⟨some 74, (some (73, false)), .mov (.t 2)⟩, ⟨some 75, (some (73, false)), .mov (.t 9)⟩, ⟨some 76, (some (73, false)), .len (.t 75)⟩, ⟨some 77, (some (73, false)), .bin .geq (.t 74) (.t 76)⟩, ⟨some 78, none, .pick (.t 73) (.c (.bool true)) (.t 77)⟩, ⟨some 79, none, .mov (.t 78)⟩, ⟨some 80, (some (79, false)), .mov (.t 3)⟩, ⟨some 81, (some (79, false)), .bin .eql (.t 80) (.c (.int .u8 0))⟩, ⟨some 82, none, .pick (.t 79) (.c (.bool true)) (.t 81)⟩])
  (.cond (.t 82)
  (.seq (.ops [⟨some 8, none, .mov (.c (.bool true))⟩])
  .ret)
  .skip))
  (.seq (.ops [⟨some 83, none, .mov (.t 9)⟩, ⟨some 84, none, .mov (.t 2)⟩, ⟨some 85, none, .iaddr 1 (.t 83) (.t 84)⟩, ⟨some 86, none, .load false 1 (.t 85)⟩, ⟨some 87, none, .mov (.t 3)⟩, ⟨some 88, none, .bin .add (.t 86) (.t 87)⟩, ⟨some 89, none, .iaddr 1 (.t 83) (.t 84)⟩, ⟨none, none, .store 1 (.t 89) (.t 88)⟩])
  (.seq (.ops [⟨some 90, none, .mov (.t 9)⟩, ⟨some 91, none, .buildSl 1 24 [(.t 90)]⟩, ⟨some 92, none, .callF false 26 [(.t 91)]⟩, ⟨some 93, none, .un .not (.t 92)⟩, ⟨some 8, none, .mov (.t 93)⟩])
  .ret)))))))))))))⟩
/- vizard/vizardlaw03.SumOrder -/
def I6 : Fn_ := ⟨2, 84, [(4, none)],
  (.seq (.ops [⟨some 4, none, .mov (.c (.bool false))⟩])
  (.seq (.seq (.ops [⟨some 7, none, .callF false 13 []⟩, ⟨some 8, none, .un .not (.t 7)⟩])
  (.cond (.t 8)
  (.seq (.ops [⟨some 4, none, .mov (.c (.bool false))⟩])
  .ret)
  .skip))
  (.seq (.seq (.ops [⟨some 9, none, .mov (.t 0)⟩, ⟨some 10, none, .len (.t 9)⟩, ⟨some 11, none, .bin .gtr (.t 10) (.c (.int .i64 3000))⟩, ⟨some 12, none, .mov (.t 11)⟩, ⟨some 13, (some (12, false)), .mov (.t 1)⟩, ⟨some 14, (some (12, false)), .len (.t 13)⟩, ⟨some 15, (some (12, false)), .bin .gtr (.t 14) (.c (.int .i64 3000))⟩, ⟨some 16, none, .pick (.t 12) (.c (.bool true)) (.t 15)⟩, ⟨some 17, none, .mov (.t 16)⟩, ⟨some 18, (some (17, false)), .mov (.t 0)⟩, ⟨some 19, (some (17, false)), .len (.t 18)⟩, ⟨some 20, (some (17, false)), .bin .rem (.t 19) (.c (.int .i64 2))⟩, ⟨some 21, (some (17, false)), .bin .eql (.t 20) (.c (.int .i64 1))⟩, ⟨some 22, none, .pick (.t 17) (.c (.bool true)) (.t 21)⟩])
  (.cond (.t 22)
  (.seq (.ops [⟨some 4, none, .mov (.c (.bool true))⟩])
  .ret)
  .skip))
  (.seq (.ops [⟨some 23, none, .mov (.t 0)⟩, ⟨some 24, none, .mov (.t 1)⟩, ⟨some 25, none, .buildR 1 24 [(.t 23), (.t 24)]⟩, ⟨some 26, none, .callF false 22 [(.t 25)]⟩, ⟨some 5, none, .mov (.t 26)⟩])
  (.seq (.ops [⟨some 27, none, .mov (.t 0)⟩, ⟨some 28, none, .buildR 1 24 [(.t 27)]⟩, ⟨some 29, none, .callF false 22 [(.t 28)]⟩, ⟨some 30, none, .mov (.t 1)⟩, ⟨some 31, none, .buildR 1 24 [(.t 30)]⟩, ⟨some 32, none, .callF false 22 [(.t 31)]⟩, ⟨some 33, none, .callF false 18 [(.t 29), (.t 32)]⟩, ⟨some 6, none, .mov (.t 33)⟩])
  (.seq (.seq (.ops [⟨some 34, none, .mov (.t 5)⟩, ⟨some 35, none, .mov (.t 6)⟩, ⟨some 36, none, .bin .neq (.t 34) (.t 35)⟩, ⟨some 37, none, .mov (.t 36)⟩, ⟨some 38, (some (37, false)), .mov (.t 1)⟩, ⟨some 39, (some (37, false)), .len (.t 38)⟩, ⟨some 40, (some (37, false)), .bin .rem (.t 39) (.c (.int .i64 2))⟩, ⟨some 41, (some (37, false)), .bin .eql (.t 40) (.c (.int .i64 0))⟩, ⟨some 42, (some (37, false)), .mov (.t 41)⟩, ⟨some 43, (some (42, true)), .mov (.t 5)⟩, ⟨some 44, (some (42, true)), .mov (.t 1)⟩, ⟨some 45, (some (42, true)), .mov (.t 0)⟩, ⟨some 46, (some (42, true)), .buildR 1 24 [(.t 44), (.t 45)]⟩, ⟨some 47, (some (42, true)), .callF false 22 [(.t 46)]⟩, ⟨some 48, (some (42, true)), .bin .neq (.t 43) (.t 47)⟩, ⟨some 49, (some (37, false)), .pick (.t 42) (.t 48) (.c (.bool false))⟩, ⟨some 50, none, .pick (.t 37) (.c (.bool true)) (.t 49)⟩])
  (.cond (.t 50)
  (.seq (.ops [⟨some 4, none, .mov (.c (.bool false))⟩])
  .ret)
  .skip))
  (.seq (.ops [⟨some 51, none, .mov (.t 1)⟩, ⟨some 52, none, .buildR 1 24 [(.t 51), (.c (.rs false 1 []))]⟩, ⟨some 53, none, .callF false 22 [(.t 52)]⟩, ⟨some 54, none, .mov (.t 1)⟩, ⟨some 55, none, .buildR 1 24 [(.t 54)]⟩, ⟨some 56, none, .callF false 22 [(.t 55)]⟩, ⟨some 57, none, .bin .eql (.t 53) (.t 56)⟩, ⟨some 58, none, .mov (.t 57)⟩, ⟨some 59, (some (58, true)), .mov (.t 1)⟩, ⟨some 60, (some (58, true)), .buildR 1 24 [(.t 59)]⟩, ⟨some 61, (some (58, true)), .callF false 24 [(.t 60)]⟩, ⟨some 62, (some (58, true)), .mov (.t 1)⟩, ⟨some 63, (some (58, true)), .buildR 1 24 [(.t 62)]⟩, ⟨some 64, (some (58, true)), .callF false 22 [(.t 63)]⟩, ⟨some 65, (some (58, true)), .bin .sub (.c (.int .u16 65535)) (.t 64)⟩, ⟨some 66, (some (58, true)), .bin .eql (.t 61) (.t 65)⟩, ⟨some 67, none, .pick (.t 58) (.t 66) (.c (.bool false))⟩, ⟨some 68, none, .mov (.t 67)⟩, ⟨some 69, (some (68, true)), .mov (.t 1)⟩, ⟨some 70, (some (68, true)), .len (.t 69)⟩, ⟨some 71, (some (68, true)), .bin .rem (.t 70) (.c (.int .i64 2))⟩, ⟨some 72, (some (68, true)), .bin .eql (.t 71) (.c (.int .i64 0))⟩, ⟨some 73, (some (68, true)), .mov (.t 72)⟩, ⟨some 74, (some (73, false)), .mov (.t 1)⟩, ⟨some 75, (some (73, false)), .buildR 1 24 [(.t 74)]⟩, ⟨some 76, (some (73, false)), .callF false 22 [(.t 75)]⟩, ⟨some 77, (some (73, false)), .mov (.t 1)⟩, ⟨some 78, (some (73, false)), .buildR 1 5 [(.c (.int .u8 0))]⟩, ⟨some 79, (some (73, false)), .buildR 1 24 [(.t 77), (.t 78)]⟩, ⟨some 80, (some (73, false)), .callF false 22 [(.t 79)]⟩, ⟨some 81, (some (73, false)), .bin .eql (.t 76) (.t 80)⟩, ⟨some 82, (some (68, true)), .pick (.t 73) (.c (.bool true)) (.t 81)⟩, ⟨some 83, none, .pick (.t 68) (.t 82) (.c (.bool false))⟩, ⟨some 4, none, .mov (.t 83)⟩])
  .ret)))))))⟩
/- vizard/vizardlaw03.SumParts -/
def I7 : Fn_ := ⟨4, 131, [(8, none)],
  (.seq (.ops [⟨some 8, none, .mov (.c (.bool false))⟩])
  (.seq (.seq (.ops [⟨some 18, none, .callF false 13 []⟩, ⟨some 19, none, .un .not (.t 18)⟩])
  (.cond (.t 19)
  (.seq (.ops [⟨some 8, none, .mov (.c (.bool false))⟩])
  .ret)
  .skip))
  (.seq (.seq (.ops [⟨some 20, none, .mov (.t 1)⟩, ⟨some 21, none, .len (.t 20)⟩, ⟨some 22, none, .bin .gtr (.t 21) (.c (.int .i64 300))⟩, ⟨some 23, none, .mov (.t 22)⟩, ⟨some 24, (some (23, false)), .mov (.t 1)⟩, ⟨some 25, (some (23, false)), .len (.t 24)⟩, ⟨some 26, (some (23, false)), .mov (.t 2)⟩, ⟨some 27, (some (23, false)), .len (.t 26)⟩, ⟨some 28, (some (23, false)), .bin .neq (.t 25) (.t 27)⟩, ⟨some 29, none, .pick (.t 23) (.c (.bool true)) (.t 28)⟩, ⟨some 30, none, .mov (.t 29)⟩, ⟨some 31, (some (30, false)), .mov (.t 1)⟩, ⟨some 32, (some (30, false)), .len (.t 31)⟩, ⟨some 33, (some (30, false)), .bin .rem (.t 32) (.c (.int .i64 2))⟩, ⟨some 34, (some (30, false)), .bin .eql (.t 33) (.c (.int .i64 1))⟩, ⟨some 35, none, .pick (.t 30) (.c (.bool true)) (.t 34)⟩, ⟨some 36, none, .mov (.t 35)⟩, ⟨some 37, (some (36, false)), .mov (.t 3)⟩, ⟨some 38, (some (36, false)), .bin .lss (.t 37) (.c (.int .i64 0))⟩, ⟨some 39, none, .pick (.t 36) (.c (.bool true)) (.t 38)⟩, ⟨some 40, none, .mov (.t 39)⟩, ⟨some 41, (some (40, false)), .mov (.t 3)⟩, ⟨some 42, (some (40, false)), .bin .rem (.t 41) (.c (.int .i64 2))⟩, ⟨some 43, (some (40, false)), .bin .eql (.t 42) (.c (.int .i64 1))⟩, ⟨some 44, none, .pick (.t 40) (.c (.bool true)) (.t 43)⟩, ⟨some 45, none, .mov (.t 44)⟩, ⟨some 46, (some (45, false)), .mov (.t 3)⟩, ⟨some 47, (some (45, false)), .mov (.t 1)⟩, ⟨some 48, (some (45, false)), .len (.t 47)⟩, ⟨some 49, (some (45, false)), .bin .gtr (.t 46) (.t 48)⟩, ⟨some 50, none, .pick (.t 45) (.c (.bool true)) (.t 49)⟩])
  (.cond (.t 50)
  (.seq (.ops [⟨some 8, none, .mov (.c (.bool true))⟩])
  .ret)
  .skip))
  (.seq (.ops [⟨some 52, none, .mov (.t 0)⟩, ⟨some 53, none, .mov (.t 1)⟩, ⟨some 54, none, .mov (.t 2)⟩, ⟨some 55, none, .callF false 16 [(.t 52), (.t 53), (.t 54)]⟩, ⟨some 51, none, .mov (.t 55)⟩, ⟨some 56, none, .ext (.t 51) 0⟩, ⟨some 57, none, .ext (.t 51) 1⟩, ⟨some 9, none, .mov (.t 56)⟩, ⟨some 10, none, .mov (.t 57)⟩])
  (.seq (.ops [⟨some 59, none, .mov (.t 0)⟩, ⟨some 60, none, .mov (.t 1)⟩, ⟨some 61, none, .mov (.t 3)⟩, ⟨some 62, none, .slice 1 (.t 60) none (some (.t 61))⟩, ⟨some 63, none, .mov (.t 2)⟩, ⟨some 64, none, .mov (.t 3)⟩, ⟨some 65, none, .slice 1 (.t 63) none (some (.t 64))⟩, ⟨some 66, none, .callF true 16 [(.t 59), (.t 62), (.t 65)]⟩, ⟨some 58, none, .mov (.t 66)⟩, ⟨some 67, none, .ext (.t 58) 0⟩, ⟨some 68, none, .ext (.t 58) 1⟩, ⟨some 11, none, .mov (.t 67)⟩, ⟨some 12, none, .mov (.t 68)⟩])
  (.seq (.ops [⟨some 70, none, .mov (.t 11)⟩, ⟨some 71, none, .mov (.t 1)⟩, ⟨some 72, none, .mov (.t 3)⟩, ⟨some 73, none, .slice 1 (.t 71) (some (.t 72)) none⟩, ⟨some 74, none, .mov (.t 2)⟩, ⟨some 75, none, .mov (.t 3)⟩, ⟨some 76, none, .slice 1 (.t 74) (some (.t 75)) none⟩, ⟨some 77, none, .callF true 16 [(.t 70), (.t 73), (.t 76)]⟩, ⟨some 69, none, .mov (.t 77)⟩, ⟨some 78, none, .ext (.t 69) 0⟩, ⟨some 79, none, .ext (.t 69) 1⟩, ⟨some 13, none, .mov (.t 78)⟩, ⟨some 14, none, .mov (.t 79)⟩])
  (.seq (.ops [⟨some 81, none, .mov (.t 9)⟩, ⟨some 82, none, .mov (.t 2)⟩, ⟨some 83, none, .mov (.t 1)⟩, ⟨some 84, none, .callF false 16 [(.t 81), (.t 82), (.t 83)]⟩, ⟨some 80, none, .mov (.t 84)⟩, ⟨some 85, none, .ext (.t 80) 0⟩, ⟨some 86, none, .ext (.t 80) 1⟩, ⟨some 15, none, .mov (.t 85)⟩, ⟨some 16, none, .mov (.t 86)⟩])
  (.seq (.seq (.ops [⟨some 87, none, .mov (.t 10)⟩, ⟨some 88, none, .bin .neq (.t 87) (.c (.int .i64 0))⟩, ⟨some 89, none, .mov (.t 88)⟩, ⟨some 90, (some (89, false)), .mov (.t 12)⟩, ⟨some 91, (some (89, false)), .bin .neq (.t 90) (.c (.int .i64 0))⟩, ⟨some 92, none, .pick (.t 89) (.c (.bool true)) (.t 91)⟩, ⟨some 93, none, .mov (.t 92)⟩, ⟨some 94, (some (93, false)), .mov (.t 14)⟩, ⟨some 95, (some (93, false)), .bin .neq (.t 94) (.c (.int .i64 0))⟩, ⟨some 96, none, .pick (.t 93) (.c (.bool true)) (.t 95)⟩, ⟨some 97, none, .mov (.t 96)⟩, ⟨some 98, (some (97, false)), .mov (.t 16)⟩, ⟨some 99, (some (97, false)), .bin .neq (.t 98) (.c (.int .i64 0))⟩, ⟨some 100, none, .pick (.t 97) (.c (.bool true)) (.t 99)⟩, ⟨some 101, none, .mov (.t 100)⟩, ⟨some 102, (some (101, false)), .mov (.t 9)⟩, ⟨some 103, (some (101, false)), .mov (.t 13)⟩, ⟨some 104, (some (101, false)), .bin .neq (.t 102) (.t 103)⟩, ⟨some 105, none, .pick (.t 101) (.c (.bool true)) (.t 104)⟩])
  (.cond (.t 105)
  (.seq (.ops [⟨some 8, none, .mov (.c (.bool false))⟩])
  .ret)
  .skip))
  (.seq (.ops [⟨some 106, none, .mov (.t 15)⟩, ⟨some 107, none, .mov (.t 0)⟩, ⟨some 108, none, .bin .eql (.t 106) (.t 107)⟩, ⟨some 109, none, .mov (.t 108)⟩, ⟨some 110, (some (109, false)), .mov (.t 15)⟩, ⟨some 111, (some (109, false)), .bin .rem (.t 110) (.c (.int .u16 65535))⟩, ⟨some 112, (some (109, false)), .mov (.t 0)⟩, ⟨some 113, (some (109, false)), .bin .rem (.t 112) (.c (.int .u16 65535))⟩, ⟨some 114, (some (109, false)), .bin .eql (.t 111) (.t 113)⟩, ⟨some 115, none, .pick (.t 109) (.c (.bool true)) (.t 114)⟩, ⟨some 17, none, .mov (.t 115)⟩])
  (.seq (.ops [⟨some 116, none, .mov (.t 17)⟩, ⟨some 117, none, .mov (.t 116)⟩, ⟨some 118, (some (117, true)), .mov (.t 0)⟩, ⟨some 119, (some (117, true)), .callF false 18 [(.t 118), (.c (.int .u16 0))]⟩, ⟨some 120, (some (117, true)), .mov (.t 0)⟩, ⟨some 121, (some (117, true)), .bin .eql (.t 119) (.t 120)⟩, ⟨some 122, none, .pick (.t 117) (.t 121) (.c (.bool false))⟩, ⟨some 123, none, .mov (.t 122)⟩, ⟨some 124, (some (123, true)), .mov (.t 0)⟩, ⟨some 125, (some (123, true)), .callF false 20 [(.t 124), (.c (.int .u16 7)), (.c (.int .u16 7))]⟩, ⟨some 126, (some (123, true)), .bin .rem (.t 125) (.c (.int .u16 65535))⟩, ⟨some 127, (some (123, true)), .mov (.t 0)⟩, ⟨some 128, (some (123, true)), .bin .rem (.t 127) (.c (.int .u16 65535))⟩, ⟨some 129, (some (123, true)), .bin .eql (.t 126) (.t 128)⟩, ⟨some 130, none, .pick (.t 123) (.t 129) (.c (.bool false))⟩, ⟨some 8, none, .mov (.t 130)⟩])
  .ret))))))))))⟩
/- vizard/vizardlaw01.WordReads -/
def I8 : Fn_ := ⟨4, 76, [(8, none)],
  (.seq (.ops [⟨some 8, none, .mov (.c (.bool false))⟩])
  (.seq (.seq (.ops [⟨some 18, none, .callF false 29 []⟩, ⟨some 19, none, .un .not (.t 18)⟩])
  (.cond (.t 19)
  (.seq (.ops [⟨some 8, none, .mov (.c (.bool false))⟩])
  .ret)
  .skip))
  (.seq (.seq (.ops [⟨some 20, none, .mov (.t 0)⟩, ⟨some 21, none, .len (.t 20)⟩, ⟨some 22, none, .bin .gtr (.t 21) (.c (.int .i64 3000))⟩])
  (.cond (.t 22)
  (.seq (.ops [⟨some 8, none, .mov (.c (.bool true))⟩])
  .ret)
  .skip))
  (.seq (.ops [⟨some 23, none, .mov (.t 0)⟩, ⟨some 24, none, .callF false 27 [(.t 23)]⟩, ⟨some 9, none, .mov (.t 24)⟩])
  (.seq (.ops [⟨some 26, none, .mov (.t 9)⟩, ⟨some 27, none, .mov (.t 1)⟩, ⟨some 28, none, .mov (.t 2)⟩, ⟨some 29, none, .callF false 30 [(.t 26), (.t 27), (.t 28)]⟩, ⟨some 25, none, .mov (.t 29)⟩, ⟨some 30, none, .ext (.t 25) 0⟩, ⟨some 31, none, .ext (.t 25) 1⟩, ⟨some 10, none, .mov (.t 30)⟩, ⟨some 11, none, .mov (.t 31)⟩])
  (.seq (.ops [⟨some 33, none, .mov (.t 0)⟩, ⟨some 34, none, .mov (.t 1)⟩, ⟨some 35, none, .mov (.t 2)⟩, ⟨some 36, none, .callF false 31 [(.t 33), (.t 34), (.t 35)]⟩, ⟨some 32, none, .mov (.t 36)⟩, ⟨some 37, none, .ext (.t 32) 0⟩, ⟨some 38, none, .ext (.t 32) 1⟩, ⟨some 12, none, .mov (.t 37)⟩, ⟨some 13, none, .mov (.t 38)⟩])
  (.seq (.ops [⟨some 40, none, .mov (.t 9)⟩, ⟨some 41, none, .mov (.t 1)⟩, ⟨some 42, none, .mov (.t 3)⟩, ⟨some 43, none, .callF false 32 [(.t 40), (.t 41), (.t 42)]⟩, ⟨some 39, none, .mov (.t 43)⟩, ⟨some 44, none, .ext (.t 39) 0⟩, ⟨some 45, none, .ext (.t 39) 1⟩, ⟨some 14, none, .mov (.t 44)⟩, ⟨some 15, none, .mov (.t 45)⟩])
  (.seq (.ops [⟨some 47, none, .mov (.t 0)⟩, ⟨some 48, none, .mov (.t 1)⟩, ⟨some 49, none, .mov (.t 3)⟩, ⟨some 50, none, .callF false 33 [(.t 47), (.t 48), (.t 49)]⟩, ⟨some 46, none, .mov (.t 50)⟩, ⟨some 51, none, .ext (.t 46) 0⟩, ⟨some 52, none, .ext (.t 46) 1⟩, ⟨some 16, none, .mov (.t 51)⟩, ⟨some 17, none, .mov (.t 52)⟩])
  (.seq (.ops [⟨some 53, none, .mov (.t 10)⟩, ⟨some 54, none, .mov (.t 12)⟩, ⟨some 55, none, .bin .eql (.t 53) (.t 54)⟩, ⟨some 56, none, .mov (.t 55)⟩, ⟨some 57, (some (56, true)), .mov (.t 11)⟩, ⟨some 58, (some (56, true)), .mov (.t 13)⟩, ⟨some 59, (some (56, true)), .bin .eql (.t 57) (.t 58)⟩, ⟨some 60, none, .pick (.t 56) (.t 59) (.c (.bool false))⟩, ⟨some 61, none, .mov (.t 60)⟩, ⟨some 62, (some (61, true)), .mov (.t 14)⟩, ⟨some 63, (some (61, true)), .mov (.t 16)⟩, ⟨some 64, (some (61, true)), .callF false 34 [(.t 62), (.t 63)]⟩, ⟨some 65, none, .pick (.t 61) (.t 64) (.c (.bool false))⟩, ⟨some 66, none, .mov (.t 65)⟩, ⟨some 67, (some (66, true)), .mov (.t 15)⟩, ⟨some 68, (some (66, true)), .mov (.t 17)⟩, ⟨some 69, (some (66, true)), .bin .eql (.t 67) (.t 68)⟩, ⟨some 70, none, .pick (.t 66) (.t 69) (.c (.bool false))⟩, ⟨some 71, none, .mov (.t 70)⟩, ⟨some 72, (some (71, true)), .mov (.t 9)⟩, ⟨some 73, (some (71, true)), .mov (.t 0)⟩, ⟨some 74, (some (71, true)), .callF false 34 [(.t 72), (.t 73)]⟩, ⟨some 75, none, .pick (.t 71) (.t 74) (.c (.bool false))⟩, ⟨some 8, none, .mov (.t 75)⟩])
  .ret)))))))))⟩
/- vizard/vizardlaw01.WordLays -/
def I9 : Fn_ := ⟨6, 118, [(12, none)],
  (.seq (.ops [⟨some 12, none, .mov (.c (.bool false))⟩])
  (.seq (.seq (.ops [⟨some 26, none, .callF false 29 []⟩, ⟨some 27, none, .un .not (.t 26)⟩])
  (.cond (.t 27)
  (.seq (.ops [⟨some 12, none, .mov (.c (.bool false))⟩])
  .ret)
  .skip))
  (.seq (.seq (.ops [⟨some 28, none, .mov (.t 0)⟩, ⟨some 29, none, .len (.t 28)⟩, ⟨some 30, none, .bin .gtr (.t 29) (.c (.int .i64 3000))⟩, ⟨some 31, none, .mov (.t 30)⟩, ⟨some 32, (some (31, false)), .mov (.t 4)⟩, ⟨some 33, (some (31, false)), .len (.t 32)⟩, ⟨some 34, (some (31, false)), .bin .gtr (.t 33) (.c (.int .i64 300))⟩, ⟨some 35, none, .pick (.t 31) (.c (.bool true)) (.t 34)⟩, ⟨some 36, none, .mov (.t 35)⟩, ⟨some 37, (some (36, false)), .mov (.t 5)⟩, ⟨some 38, (some (36, false)), .len (.t 37)⟩, ⟨some 39, (some (36, false)), .bin .gtr (.t 38) (.c (.int .i64 3000))⟩, ⟨some 40, none, .pick (.t 36) (.c (.bool true)) (.t 39)⟩])
  (.cond (.t 40)
  (.seq (.ops [⟨some 12, none, .mov (.c (.bool true))⟩])
  .ret)
  .skip))
  (.seq (.ops [⟨some 41, none, .mov (.t 0)⟩, ⟨some 42, none, .callF false 27 [(.t 41)]⟩, ⟨some 13, none, .mov (.t 42)⟩])
  (.seq (.ops [⟨some 44, none, .mov (.t 13)⟩, ⟨some 45, none, .mov (.t 1)⟩, ⟨some 46, none, .mov (.t 2)⟩, ⟨some 47, none, .mov (.t 3)⟩, ⟨some 48, none, .callF false 35 [(.t 44), (.t 45), (.t 46), (.t 47)]⟩, ⟨some 43, none, .mov (.t 48)⟩, ⟨some 49, none, .ext (.t 43) 0⟩, ⟨some 50, none, .ext (.t 43) 1⟩, ⟨some 14, none, .mov (.t 49)⟩, ⟨some 15, none, .mov (.t 50)⟩])
  (.seq (.ops [⟨some 52, none, .mov (.t 0)⟩, ⟨some 53, none, .mov (.t 1)⟩, ⟨some 54, none, .mov (.t 2)⟩, ⟨some 55, none, .mov (.t 3)⟩, ⟨some 56, none, .callF false 36 [(.t 52), (.t 53), (.t 54), (.t 55)]⟩, ⟨some 51, none, .mov (.t 56)⟩, ⟨some 57, none, .ext (.t 51) 0⟩, ⟨some 58, none, .ext (.t 51) 1⟩, ⟨some 16, none, .mov (.t 57)⟩, ⟨some 17, none, .mov (.t 58)⟩])
  (.seq (.ops [⟨some 60, none, .mov (.t 2)⟩, ⟨some 61, none, .mov (.t 4)⟩, ⟨some 62, none, .callF false 37 [(.t 60), (.t 61)]⟩, ⟨some 59, none, .mov (.t 62)⟩, ⟨some 63, none, .ext (.t 59) 0⟩, ⟨some 64, none, .ext (.t 59) 1⟩, ⟨some 18, none, .mov (.t 63)⟩, ⟨some 19, none, .mov (.t 64)⟩])
  (.seq (.ops [⟨some 66, none, .mov (.t 2)⟩, ⟨some 67, none, .mov (.t 4)⟩, ⟨some 68, none, .callF false 38 [(.t 66), (.t 67)]⟩, ⟨some 65, none, .mov (.t 68)⟩, ⟨some 69, none, .ext (.t 65) 0⟩, ⟨some 70, none, .ext (.t 65) 1⟩, ⟨some 20, none, .mov (.t 69)⟩, ⟨some 21, none, .mov (.t 70)⟩])
  (.seq (.ops [⟨some 72, none, .mov (.t 13)⟩, ⟨some 73, none, .mov (.t 1)⟩, ⟨some 74, none, .mov (.t 5)⟩, ⟨some 75, none, .callF false 39 [(.t 72), (.t 73), (.t 74)]⟩, ⟨some 71, none, .mov (.t 75)⟩, ⟨some 76, none, .ext (.t 71) 0⟩, ⟨some 77, none, .ext (.t 71) 1⟩, ⟨some 22, none, .mov (.t 76)⟩, ⟨some 23, none, .mov (.t 77)⟩])
  (.seq (.ops [⟨some 79, none, .mov (.t 0)⟩, ⟨some 80, none, .mov (.t 1)⟩, ⟨some 81, none, .mov (.t 5)⟩, ⟨some 82, none, .callF false 40 [(.t 79), (.t 80), (.t 81)]⟩, ⟨some 78, none, .mov (.t 82)⟩, ⟨some 83, none, .ext (.t 78) 0⟩, ⟨some 84, none, .ext (.t 78) 1⟩, ⟨some 24, none, .mov (.t 83)⟩, ⟨some 25, none, .mov (.t 84)⟩])
  (.seq (.ops [⟨some 85, none, .mov (.t 15)⟩, ⟨some 86, none, .mov (.t 17)⟩, ⟨some 87, none, .bin .eql (.t 85) (.t 86)⟩, ⟨some 88, none, .mov (.t 87)⟩, ⟨some 89, (some (88, true)), .mov (.t 14)⟩, ⟨some 90, (some (88, true)), .mov (.t 16)⟩, ⟨some 91, (some (88, true)), .callF false 34 [(.t 89), (.t 90)]⟩, ⟨some 92, none, .pick (.t 88) (.t 91) (.c (.bool false))⟩, ⟨some 93, none, .mov (.t 92)⟩, ⟨some 94, (some (93, true)), .mov (.t 19)⟩, ⟨some 95, (some (93, true)), .mov (.t 21)⟩, ⟨some 96, (some (93, true)), .bin .eql (.t 94) (.t 95)⟩, ⟨some 97, none, .pick (.t 93) (.t 96) (.c (.bool false))⟩, ⟨some 98, none, .mov (.t 97)⟩, ⟨some 99, (some (98, true)), .mov (.t 18)⟩, ⟨some 100, (some (98, true)), .mov (.t 20)⟩, ⟨some 101, (some (98, true)), .callF false 34 [(.t 99), (.t 100)]⟩, ⟨some 102, none, .pick (.t 98) (.t 101) (.c (.bool false))⟩, ⟨some 103, none, .mov (.t 102)⟩, ⟨some 104, (some (103, true)), .mov (.t 23)⟩, ⟨some 105, (some (103, true)), .mov (.t 25)⟩, ⟨some 106, (some (103, true)), .bin .eql (.t 104) (.t 105)⟩, ⟨some 107, none, .pick (.t 103) (.t 106) (.c (.bool false))⟩, ⟨some 108, none, .mov (.t 107)⟩, ⟨some 109, (some (108, true)), .mov (.t 22)⟩, ⟨some 110, (some (108, true)), .mov (.t 24)⟩, ⟨some 111, (some (108, true)), .callF false 34 [(.t 109), (.t 110)]⟩, ⟨some 112, none, .pick (.t 108) (.t 111) (.c (.bool false))⟩, ⟨some 113, none, .mov (.t 112)⟩, ⟨some 114, (some (113, true)), .mov (.t 13)⟩, ⟨some 115, (some (113, true)), .mov (.t 0)⟩, ⟨some 116, (some (113, true)), .callF false 34 [(.t 114), (.t 115)]⟩, ⟨some 117, none, .pick (.t 113) (.t 116) (.c (.bool false))⟩, ⟨some 12, none, .mov (.t 117)⟩])
  .ret)))))))))))⟩
/- vizard/vizardlaw01.WordBack -/
def B10_0 : C := (.seq (.seq (.ops [⟨some 102, none, .mov (.t 18)⟩, ⟨some 103, none, .mov (.t 9)⟩, ⟨some 104, none, .len (.t 103)⟩, ⟨some 105, none, .bin .lss (.t 102) (.t 104)⟩])
  (.cond (.t 105)
  .skip
  (.exit 0)))
  (.seq (.block 1 (some [0, 9, 17, 18]) (.ops [⟨some 108, none, .mov (.t 9)⟩, ⟨some 109, none, .mov (.t 18)⟩, ⟨some 110, none, .iaddr 1 (.t 108) (.t 109)⟩, ⟨some 111, none, .load false 1 (.t 110)⟩, ⟨some 112, none, .bin .add (.t 111) (.c (.int .u8 1))⟩, ⟨some 113, none, .iaddr 1 (.t 108) (.t 109)⟩, ⟨none, none, .store 1 (.t 113) (.t 112)⟩]))
  (.ops [⟨some 106, none, .mov (.t 18)⟩, ⟨some 107, none, .bin .add (.t 106) (.c (.int .i64 1))⟩, ⟨some 18, none, .mov (.t 107)⟩])))
def L10_0 : C := .loop (some [0, 9, 17, 18]) B10_0
theorem L10_0_eq {E : Env} (x : St) : ev E L10_0 x = andThen (ev E B10_0 (restr (some [0, 9, 17, 18]) x)) (ev E L10_0) := ev_loop _ _ x
def I10 : Fn_ := ⟨4, 117, [(8, none)],
  (.seq (.ops [⟨some 8, none, .mov (.c (.bool false))⟩])
  (.seq (.seq (.ops [⟨some 19, none, .callF false 29 []⟩, ⟨some 20, none, .un .not (.t 19)⟩])
  (.cond (.t 20)
  (.seq (.ops [⟨some 8, none, .mov (.c (.bool false))⟩])
  .ret)
  .skip))
  (.seq (.seq (.ops [⟨some 21, none, .mov (.t 0)⟩, ⟨some 22, none, .len (.t 21)⟩, ⟨some 23, none, .bin .gtr (.t 22) (.c (.int .i64 3000))⟩])
  (.cond (.t 23)
  (.seq (.ops [⟨some 8, none, .mov (.c (.bool true))⟩])
  .ret)
  .skip))
  (.seq (.ops [⟨some 25, none, .mov (.t 0)⟩, ⟨some 26, none, .mov (.t 1)⟩, ⟨some 27, none, .mov (.t 2)⟩, ⟨some 28, none, .mov (.t 3)⟩, ⟨some 29, none, .callF false 35 [(.t 25), (.t 26), (.t 27), (.t 28)]⟩, ⟨some 24, none, .mov (.t 29)⟩, ⟨some 30, none, .ext (.t 24) 0⟩, ⟨some 31, none, .ext (.t 24) 1⟩, ⟨some 9, none, .mov (.t 30)⟩, ⟨some 10, none, .mov (.t 31)⟩])
  (.seq (.seq (.ops [⟨some 32, none, .mov (.t 10)⟩, ⟨some 33, none, .bin .neq (.t 32) (.c (.int .i64 0))⟩])
  (.cond (.t 33)
  (.seq (.ops [⟨some 34, none, .mov (.t 9)⟩, ⟨some 35, none, .len (.t 34)⟩, ⟨some 36, none, .bin .eql (.t 35) (.c (.int .i64 0))⟩, ⟨some 8, none, .mov (.t 36)⟩])
  .ret)
  .skip))
  (.seq (.ops [⟨some 38, none, .mov (.t 9)⟩, ⟨some 39, none, .mov (.t 1)⟩, ⟨some 40, none, .mov (.t 2)⟩, ⟨some 41, none, .callF false 30 [(.t 38), (.t 39), (.t 40)]⟩, ⟨some 37, none, .mov (.t 41)⟩, ⟨some 42, none, .ext (.t 37) 0⟩, ⟨some 43, none, .ext (.t 37) 1⟩, ⟨some 11, none, .mov (.t 42)⟩, ⟨some 12, none, .mov (.t 43)⟩])
  (.seq (.ops [⟨some 45, none, .mov (.t 9)⟩, ⟨some 46, none, .mov (.t 1)⟩, ⟨some 47, none, .callF false 32 [(.t 45), (.c (.int .i64 0)), (.t 46)]⟩, ⟨some 44, none, .mov (.t 47)⟩, ⟨some 48, none, .ext (.t 44) 0⟩, ⟨some 49, none, .ext (.t 44) 1⟩, ⟨some 13, none, .mov (.t 48)⟩, ⟨some 14, none, .mov (.t 49)⟩])
  (.seq (.ops [⟨some 51, none, .mov (.t 9)⟩, ⟨some 52, none, .mov (.t 1)⟩, ⟨some 53, none, .mov (.t 2)⟩, ⟨some 54, none, .bin .add (.t 52) (.t 53)⟩, ⟨some 55, none, .mov (.t 9)⟩, ⟨some 56, none, .len (.t 55)⟩, ⟨some 57, none, .callF false 32 [(.t 51), (.t 54), (.t 56)]⟩, ⟨some 50, none, .mov (.t 57)⟩, ⟨some 58, none, .ext (.t 50) 0⟩, ⟨some 59, none, .ext (.t 50) 1⟩, ⟨some 15, none, .mov (.t 58)⟩, ⟨some 16, none, .mov (.t 59)⟩])
  (.seq (.seq (.ops [⟨some 60, none, .mov (.t 12)⟩, ⟨some 61, none, .bin .neq (.t 60) (.c (.int .i64 0))⟩, ⟨some 62, none, .mov (.t 61)⟩, ⟨some 63, (some (62, false)), .mov (.t 14)⟩, ⟨some 64, (some (62, false)), .bin .neq (.t 63) (.c (.int .i64 0))⟩, ⟨some 65, none, .pick (.t 62) (.c (.bool true)) (.t 64)⟩, ⟨some 66, none, .mov (.t 65)⟩, ⟨some 67, (some (66, false)), .mov (.t 16)⟩, ⟨some 68, (some (66, false)), .bin .neq (.t 67) (.c (.int .i64 0))⟩, ⟨some 69, none, .pick (.t 66) (.c (.bool true)) (.t 68)⟩, ⟨some 70, none, .mov (.t 69)⟩, ⟨some 71, (some (70, false)), .mov (.t 11)⟩, ⟨some 72, (some (70, false)), .mov (.t 3)⟩, ⟨some 73, (some (70, false)), .bin .neq (.t 71) (.t 72)⟩, ⟨some 74, none, .pick (.t 70) (.c (.bool true)) (.t 73)⟩, ⟨some 75, none, .mov (.t 74)⟩, ⟨some 76, (some (75, false)), .mov (.t 9)⟩, ⟨some 77, (some (75, false)), .len (.t 76)⟩, ⟨some 78, (some (75, false)), .mov (.t 0)⟩, ⟨some 79, (some (75, false)), .len (.t 78)⟩, ⟨some 80, (some (75, false)), .bin .neq (.t 77) (.t 79)⟩, ⟨some 81, none, .pick (.t 75) (.c (.bool true)) (.t 80)⟩, ⟨some 82, none, .mov (.t 81)⟩, ⟨some 83, (some (82, false)), .mov (.t 13)⟩, ⟨some 84, (some (82, false)), .mov (.t 0)⟩, ⟨some 85, (some (82, false)), .mov (.t 1)⟩, ⟨some 86, (some (82, false)), .slice 1 (.t 84) none (some (.t 85))⟩, ⟨some 87, (some (82, false)), .callF false 34 [(.t 83), (.t 86)]⟩, ⟨some 88, (some (82, false)), .un .not (.t 87)⟩, ⟨some 89, none, .pick (.t 82) (.c (.bool true)) (.t 88)⟩, ⟨some 90, none, .mov (.t 89)⟩, ⟨some 91, (some (90, false)), .mov (.t 15)⟩, ⟨some 92, (some (90, false)), .mov (.t 0)⟩, ⟨some 93, (some (90, false)), .mov (.t 1)⟩, ⟨some 94, (some (90, false)), .mov (.t 2)⟩, ⟨some 95, (some (90, false)), .bin .add (.t 93) (.t 94)⟩, ⟨some 96, (some (90, false)), .slice 1 (.t 92) (some (.t 95)) none⟩, ⟨some 97, (some (90, false)), .callF false 34 [(.t 91), (.t 96)]⟩, ⟨some 98, (some (90, false)), .un .not (.t 97)⟩, ⟨some 99, none, .pick (.t 90) (.c (.bool true)) (.t 98)⟩])
  (.cond (.t 99)
  (.seq (.ops [⟨some 8, none, .mov (.c (.bool false))⟩])
  .ret)
  .skip))
  (.seq (.ops [⟨some 100, none, .mov (.t 0)⟩, ⟨some 101, none, .callF false 27 [(.t 100)]⟩, ⟨some 17, none, .mov (.t 101)⟩])
  (.seq (.seq (.ops [⟨some 18, none, .mov (.c (.int .i64 0))⟩])
  (.block 0 (some [0, 9, 17, 18]) L10_0))
  (.seq (.ops [⟨some 114, none, .mov (.t 0)⟩, ⟨some 115, none, .mov (.t 17)⟩, ⟨some 116, none, .callF false 34 [(.t 114), (.t 115)]⟩, ⟨some 8, none, .mov (.t 116)⟩])
  .ret))))))))))))⟩
/- vizard/vizardlaw01.WordRows -/
def B11_0 : C := (.seq (.seq (.ops [⟨some 42, none, .mov (.t 9)⟩, ⟨some 43, none, .mov (.t 1)⟩, ⟨some 44, none, .len (.t 43)⟩, ⟨some 45, none, .bin .lss (.t 42) (.t 44)⟩])
  (.cond (.t 45)
  .skip
  (.exit 0)))
  (.seq (.block 1 (some [0, 1, 2, 7, 9]) (.seq (.ops [⟨some 49, none, .mov (.t 7)⟩, ⟨some 50, none, .mov (.t 9)⟩, ⟨some 51, none, .mov (.t 0)⟩, ⟨some 52, none, .bin .mul (.t 50) (.t 51)⟩, ⟨some 53, none, .mov (.t 0)⟩, ⟨some 54, none, .callF false 30 [(.t 49), (.t 52), (.t 53)]⟩, ⟨some 48, none, .mov (.t 54)⟩, ⟨some 55, none, .ext (.t 48) 0⟩, ⟨some 56, none, .ext (.t 48) 1⟩, ⟨some 10, none, .mov (.t 55)⟩, ⟨some 11, none, .mov (.t 56)⟩])
  (.seq (.ops [⟨some 57, none, .mov (.t 11)⟩, ⟨some 58, none, .bin .neq (.t 57) (.c (.int .i64 0))⟩, ⟨some 59, none, .mov (.t 58)⟩, ⟨some 60, (some (59, false)), .mov (.t 10)⟩, ⟨some 61, (some (59, false)), .mov (.t 1)⟩, ⟨some 62, (some (59, false)), .mov (.t 9)⟩, ⟨some 63, (some (59, false)), .iaddr 1 (.t 61) (.t 62)⟩, ⟨some 64, (some (59, false)), .load false 1 (.t 63)⟩, ⟨some 65, (some (59, false)), .bin .neq (.t 60) (.t 64)⟩, ⟨some 66, none, .pick (.t 59) (.c (.bool true)) (.t 65)⟩])
  (.cond (.t 66)
  (.seq (.ops [⟨some 6, none, .mov (.c (.bool false))⟩])
  .ret)
  .skip))))
  (.ops [⟨some 46, none, .mov (.t 9)⟩, ⟨some 47, none, .bin .add (.t 46) (.c (.int .i64 1))⟩, ⟨some 9, none, .mov (.t 47)⟩])))
def L11_0 : C := .loop (some [0, 1, 2, 7, 9]) B11_0
theorem L11_0_eq {E : Env} (x : St) : ev E L11_0 x = andThen (ev E B11_0 (restr (some [0, 1, 2, 7, 9]) x)) (ev E L11_0) := ev_loop _ _ x
def I11 : Fn_ := ⟨3, 105, [(6, none)],
  (.seq (.ops [⟨some 6, none, .mov (.c (.bool false))⟩])
  (.seq (.seq (.ops [⟨some 16, none, .callF false 29 []⟩, ⟨some 17, none, .un .not (.t 16)⟩])
  (.cond (.t 17)
  (.seq (.ops [⟨some 6, none, .mov (.c (.bool false))⟩])
  .ret)
  .skip))
  (.seq (.seq (.ops [⟨some 18, none, .mov (.t 1)⟩, ⟨some 19, none, .len (.t 18)⟩, ⟨some 20, none, .bin .gtr (.t 19) (.c (.int .i64 300))⟩, ⟨some 21, none, .mov (.t 20)⟩, ⟨some 22, (some (21, false)), .mov (.t 2)⟩, ⟨some 23, (some (21, false)), .bin .lss (.t 22) (.c (.int .i64 0))⟩, ⟨some 24, none, .pick (.t 21) (.c (.bool true)) (.t 23)⟩, ⟨some 25, none, .mov (.t 24)⟩, ⟨some 26, (some (25, false)), .mov (.t 2)⟩, ⟨some 27, (some (25, false)), .mov (.t 1)⟩, ⟨some 28, (some (25, false)), .len (.t 27)⟩, ⟨some 29, (some (25, false)), .bin .gtr (.t 26) (.t 28)⟩, ⟨some 30, none, .pick (.t 25) (.c (.bool true)) (.t 29)⟩])
  (.cond (.t 30)
  (.seq (.ops [⟨some 6, none, .mov (.c (.bool true))⟩])
  .ret)
  .skip))
  (.seq (.ops [⟨some 32, none, .mov (.t 0)⟩, ⟨some 33, none, .mov (.t 1)⟩, ⟨some 34, none, .callF false 37 [(.t 32), (.t 33)]⟩, ⟨some 31, none, .mov (.t 34)⟩, ⟨some 35, none, .ext (.t 31) 0⟩, ⟨some 36, none, .ext (.t 31) 1⟩, ⟨some 7, none, .mov (.t 35)⟩, ⟨some 8, none, .mov (.t 36)⟩])
  (.seq (.seq (.ops [⟨some 37, none, .mov (.t 8)⟩, ⟨some 38, none, .bin .neq (.t 37) (.c (.int .i64 0))⟩])
  (.cond (.t 38)
  (.seq (.ops [⟨some 39, none, .mov (.t 7)⟩, ⟨some 40, none, .len (.t 39)⟩, ⟨some 41, none, .bin .eql (.t 40) (.c (.int .i64 0))⟩, ⟨some 6, none, .mov (.t 41)⟩])
  .ret)
  .skip))
  (.seq (.seq (.ops [⟨some 9, none, .mov (.c (.int .i64 0))⟩])
  (.block 0 (some [0, 1, 2, 7, 9]) L11_0))
  (.seq (.ops [⟨some 68, none, .mov (.t 0)⟩, ⟨some 69, none, .mov (.t 1)⟩, ⟨some 70, none, .mov (.t 2)⟩, ⟨some 71, none, .slice 1 (.t 69) none (some (.t 70))⟩, ⟨some 72, none, .callF false 37 [(.t 68), (.t 71)]⟩, ⟨some 67, none, .mov (.t 72)⟩, ⟨some 73, none, .ext (.t 67) 0⟩, ⟨some 74, none, .ext (.t 67) 1⟩, ⟨some 12, none, .mov (.t 73)⟩, ⟨some 13, none, .mov (.t 74)⟩])
  (.seq (.ops [⟨some 76, none, .mov (.t 0)⟩, ⟨some 77, none, .mov (.t 1)⟩, ⟨some 78, none, .mov (.t 2)⟩, ⟨some 79, none, .slice 1 (.t 77) (some (.t 78)) none⟩, ⟨some 80, none, .callF false 37 [(.t 76), (.t 79)]⟩, ⟨some 75, none, .mov (.t 80)⟩, ⟨some 81, none, .ext (.t 75) 0⟩, ⟨some 82, none, .ext (.t 75) 1⟩, ⟨some 14, none, .mov (.t 81)⟩, ⟨some 15, none, .mov (.t 82)⟩])
  (.seq (.ops [⟨some 83, none, .mov (.t 13)⟩, ⟨some 84, none, .bin .eql (.t 83) (.c (.int .i64 0))⟩, ⟨some 85, none, .mov (.t 84)⟩, ⟨some 86, (some (85, true)), .mov (.t 15)⟩, ⟨some 87, (some (85, true)), .bin .eql (.t 86) (.c (.int .i64 0))⟩, ⟨some 88, none, .pick (.t 85) (.t 87) (.c (.bool false))⟩, ⟨some 89, none, .mov (.t 88)⟩, ⟨some 90, (some (89, true)), .mov (.t 7)⟩, ⟨some 91, (some (89, true)), .len (.t 90)⟩, ⟨some 92, (some (89, true)), .mov (.t 0)⟩, ⟨some 93, (some (89, true)), .mov (.t 1)⟩, ⟨some 94, (some (89, true)), .len (.t 93)⟩, ⟨some 95, (some (89, true)), .bin .mul (.t 92) (.t 94)⟩, ⟨some 96, (some (89, true)), .bin .eql (.t 91) (.t 95)⟩, ⟨some 97, none, .pick (.t 89) (.t 96) (.c (.bool false))⟩, ⟨some 98, none, .mov (.t 97)⟩, ⟨some 99, (some (98, true)), .mov (.t 12)⟩, ⟨some 100, (some (98, true)), .mov (.t 14)⟩, ⟨some 101, (some (98, true)), .append 1 1 5 (.t 99) (.t 100)⟩, ⟨some 102, (some (98, true)), .mov (.t 7)⟩, ⟨some 103, (some (98, true)), .callF false 34 [(.t 101), (.t 102)]⟩, ⟨some 104, none, .pick (.t 98) (.t 103) (.c (.bool false))⟩, ⟨some 6, none, .mov (.t 104)⟩])
  .ret)))))))))⟩
/- vizard/vizardlaw01.WordPatches -/
def I12 : Fn_ := ⟨4, 153, [(8, none)],
  (.seq (.ops [⟨some 8, none, .mov (.c (.bool false))⟩])
  (.seq (.seq (.ops [⟨some 22, none, .callF false 29 []⟩, ⟨some 23, none, .un .not (.t 22)⟩])
  (.cond (.t 23)
  (.seq (.ops [⟨some 8, none, .mov (.c (.bool false))⟩])
  .ret)
  .skip))
  (.seq (.seq (.ops [⟨some 24, none, .mov (.t 0)⟩, ⟨some 25, none, .len (.t 24)⟩, ⟨some 26, none, .bin .gtr (.t 25) (.c (.int .i64 3000))⟩, ⟨some 27, none, .mov (.t 26)⟩, ⟨some 28, (some (27, false)), .mov (.t 2)⟩, ⟨some 29, (some (27, false)), .len (.t 28)⟩, ⟨some 30, (some (27, false)), .bin .gtr (.t 29) (.c (.int .i64 300))⟩, ⟨some 31, none, .pick (.t 27) (.c (.bool true)) (.t 30)⟩, ⟨some 32, none, .mov (.t 31)⟩, ⟨some 33, (some (32, false)), .mov (.t 3)⟩, ⟨some 34, (some (32, false)), .len (.t 33)⟩, ⟨some 35, (some (32, false)), .mov (.t 2)⟩, ⟨some 36, (some (32, false)), .len (.t 35)⟩, ⟨some 37, (some (32, false)), .bin .neq (.t 34) (.t 36)⟩, ⟨some 38, none, .pick (.t 32) (.c (.bool true)) (.t 37)⟩])
  (.cond (.t 38)
  (.seq (.ops [⟨some 8, none, .mov (.c (.bool true))⟩])
  .ret)
  .skip))
  (.seq (.ops [⟨some 40, none, .mov (.t 0)⟩, ⟨some 41, none, .mov (.t 1)⟩, ⟨some 42, none, .mov (.t 2)⟩, ⟨some 43, none, .callF false 39 [(.t 40), (.t 41), (.t 42)]⟩, ⟨some 39, none, .mov (.t 43)⟩, ⟨some 44, none, .ext (.t 39) 0⟩, ⟨some 45, none, .ext (.t 39) 1⟩, ⟨some 9, none, .mov (.t 44)⟩, ⟨some 10, none, .mov (.t 45)⟩])
  (.seq (.seq (.ops [⟨some 46, none, .mov (.t 10)⟩, ⟨some 47, none, .bin .neq (.t 46) (.c (.int .i64 0))⟩])
  (.cond (.t 47)
  (.seq (.ops [⟨some 48, none, .mov (.t 9)⟩, ⟨some 49, none, .len (.t 48)⟩, ⟨some 50, none, .bin .eql (.t 49) (.c (.int .i64 0))⟩, ⟨some 51, none, .mov (.t 50)⟩, ⟨some 52, (some (51, true)), .mov (.t 1)⟩, ⟨some 53, (some (51, true)), .bin .lss (.t 52) (.c (.int .i64 0))⟩, ⟨some 54, (some (51, true)), .mov (.t 53)⟩, ⟨some 55, (some (54, false)), .mov (.t 1)⟩, ⟨some 56, (some (54, false)), .mov (.t 0)⟩, ⟨some 57, (some (54, false)), .len (.t 56)⟩, ⟨some 58, (some (54, false)), .bin .gtr (.t 55) (.t 57)⟩, ⟨some 59, (some (51, true)), .pick (.t 54) (.c (.bool true)) (.t 58)⟩, ⟨some 60, (some (51, true)), .mov (.t 59)⟩, ⟨some 61, (some (60, false)), .mov (.t 2)⟩, ⟨some 62, (some (60, false)), .len (.t 61)⟩, ⟨some 63, (some (60, false)), .mov (.t 0)⟩, ⟨some 64, (some (60, false)), .len (.t 63)⟩, ⟨some 65, (some (60, false)), .mov (.t 1)⟩, ⟨some 66, (some (60, false)), .bin .sub (.t 64) (.t 65)⟩, ⟨some 67, (some (60, false)), .bin .gtr (.t 62) (.t 66)⟩, ⟨some 68, (some (51, true)), .pick (.t 60) (.c (.bool true)) (.t 67)⟩, ⟨some 69, none, .pick (.t 51) (.t 68) (.c (.bool false))⟩, ⟨some 8, none, .mov (.t 69)⟩])
  .ret)
  .skip))
  (.seq (.ops [⟨some 71, none, .mov (.t 9)⟩, ⟨some 72, none, .mov (.t 1)⟩, ⟨some 73, none, .mov (.t 3)⟩, ⟨some 74, none, .callF false 39 [(.t 71), (.t 72), (.t 73)]⟩, ⟨some 70, none, .mov (.t 74)⟩, ⟨some 75, none, .ext (.t 70) 0⟩, ⟨some 76, none, .ext (.t 70) 1⟩, ⟨some 11, none, .mov (.t 75)⟩, ⟨some 12, none, .mov (.t 76)⟩])
  (.seq (.ops [⟨some 78, none, .mov (.t 0)⟩, ⟨some 79, none, .mov (.t 1)⟩, ⟨some 80, none, .mov (.t 3)⟩, ⟨some 81, none, .callF false 39 [(.t 78), (.t 79), (.t 80)]⟩, ⟨some 77, none, .mov (.t 81)⟩, ⟨some 82, none, .ext (.t 77) 0⟩, ⟨some 83, none, .ext (.t 77) 1⟩, ⟨some 13, none, .mov (.t 82)⟩, ⟨some 14, none, .mov (.t 83)⟩])
  (.seq (.ops [⟨some 85, none, .mov (.t 0)⟩, ⟨some 86, none, .mov (.t 1)⟩, ⟨some 87, none, .mov (.t 0)⟩, ⟨some 88, none, .mov (.t 1)⟩, ⟨some 89, none, .mov (.t 1)⟩, ⟨some 90, none, .mov (.t 2)⟩, ⟨some 91, none, .len (.t 90)⟩, ⟨some 92, none, .bin .add (.t 89) (.t 91)⟩, ⟨some 93, none, .slice 1 (.t 87) (some (.t 88)) (some (.t 92))⟩, ⟨some 94, none, .callF false 39 [(.t 85), (.t 86), (.t 93)]⟩, ⟨some 84, none, .mov (.t 94)⟩, ⟨some 95, none, .ext (.t 84) 0⟩, ⟨some 96, none, .ext (.t 84) 1⟩, ⟨some 15, none, .mov (.t 95)⟩, ⟨some 16, none, .mov (.t 96)⟩])
  (.seq (.seq (.ops [⟨some 97, none, .mov (.t 12)⟩, ⟨some 98, none, .bin .neq (.t 97) (.c (.int .i64 0))⟩, ⟨some 99, none, .mov (.t 98)⟩, ⟨some 100, (some (99, false)), .mov (.t 14)⟩, ⟨some 101, (some (99, false)), .bin .neq (.t 100) (.c (.int .i64 0))⟩, ⟨some 102, none, .pick (.t 99) (.c (.bool true)) (.t 101)⟩, ⟨some 103, none, .mov (.t 102)⟩, ⟨some 104, (some (103, false)), .mov (.t 16)⟩, ⟨some 105, (some (103, false)), .bin .neq (.t 104) (.c (.int .i64 0))⟩, ⟨some 106, none, .pick (.t 103) (.c (.bool true)) (.t 105)⟩, ⟨some 107, none, .mov (.t 106)⟩, ⟨some 108, (some (107, false)), .mov (.t 11)⟩, ⟨some 109, (some (107, false)), .mov (.t 13)⟩, ⟨some 110, (some (107, false)), .callF false 34 [(.t 108), (.t 109)]⟩, ⟨some 111, (some (107, false)), .un .not (.t 110)⟩, ⟨some 112, none, .pick (.t 107) (.c (.bool true)) (.t 111)⟩, ⟨some 113, none, .mov (.t 112)⟩, ⟨some 114, (some (113, false)), .mov (.t 15)⟩, ⟨some 115, (some (113, false)), .mov (.t 0)⟩, ⟨some 116, (some (113, false)), .callF false 34 [(.t 114), (.t 115)]⟩, ⟨some 117, (some (113, false)), .un .not (.t 116)⟩, ⟨some 118, none, .pick (.t 113) (.c (.bool true)) (.t 117)⟩])
  (.cond (.t 118)
  (.seq (.ops [⟨some 8, none, .mov (.c (.bool false))⟩])
  .ret)
  .skip))
  (.seq (.ops [⟨some 119, none, .mov (.t 2)⟩, ⟨some 120, none, .len (.t 119)⟩, ⟨some 121, none, .bin .quo (.t 120) (.c (.int .i64 2))⟩, ⟨some 17, none, .mov (.t 121)⟩])
  (.seq (.ops [⟨some 123, none, .mov (.t 0)⟩, ⟨some 124, none, .mov (.t 1)⟩, ⟨some 125, none, .mov (.t 2)⟩, ⟨some 126, none, .mov (.t 17)⟩, ⟨some 127, none, .slice 1 (.t 125) none (some (.t 126))⟩, ⟨some 128, none, .callF false 39 [(.t 123), (.t 124), (.t 127)]⟩, ⟨some 122, none, .mov (.t 128)⟩, ⟨some 129, none, .ext (.t 122) 0⟩, ⟨some 130, none, .ext (.t 122) 1⟩, ⟨some 18, none, .mov (.t 129)⟩, ⟨some 19, none, .mov (.t 130)⟩])
  (.seq (.ops [⟨some 132, none, .mov (.t 18)⟩, ⟨some 133, none, .mov (.t 1)⟩, ⟨some 134, none, .mov (.t 17)⟩, ⟨some 135, none, .bin .add (.t 133) (.t 134)⟩, ⟨some 136, none, .mov (.t 2)⟩, ⟨some 137, none, .mov (.t 17)⟩, ⟨some 138, none, .slice 1 (.t 136) (some (.t 137)) none⟩, ⟨some 139, none, .callF false 39 [(.t 132), (.t 135), (.t 138)]⟩, ⟨some 131, none, .mov (.t 139)⟩, ⟨some 140, none, .ext (.t 131) 0⟩, ⟨some 141, none, .ext (.t 131) 1⟩, ⟨some 20, none, .mov (.t 140)⟩, ⟨some 21, none, .mov (.t 141)⟩])
  (.seq (.ops [⟨some 142, none, .mov (.t 19)⟩, ⟨some 143, none, .bin .eql (.t 142) (.c (.int .i64 0))⟩, ⟨some 144, none, .mov (.t 143)⟩, ⟨some 145, (some (144, true)), .mov (.t 21)⟩, ⟨some 146, (some (144, true)), .bin .eql (.t 145) (.c (.int .i64 0))⟩, ⟨some 147, none, .pick (.t 144) (.t 146) (.c (.bool false))⟩, ⟨some 148, none, .mov (.t 147)⟩, ⟨some 149, (some (148, true)), .mov (.t 20)⟩, ⟨some 150, (some (148, true)), .mov (.t 9)⟩, ⟨some 151, (some (148, true)), .callF false 34 [(.t 149), (.t 150)]⟩, ⟨some 152, none, .pick (.t 148) (.t 151) (.c (.bool false))⟩, ⟨some 8, none, .mov (.t 152)⟩])
  .ret)))))))))))))⟩
/- vizard/vizardlaw03.alive -/
def I13 : Fn_ := ⟨0, 64, [(0, none)],
  (.seq (.ops [⟨some 0, none, .mov (.c (.bool false))⟩])
  (.seq (.ops [⟨some 6, none, .buildR 1 5 [(.c (.int .u8 0)), (.c (.int .u8 1)), (.c (.int .u8 242)), (.c (.int .u8 3)), (.c (.int .u8 244)), (.c (.int .u8 245)), (.c (.int .u8 246)), (.c (.int .u8 247))]⟩, ⟨some 1, none, .mov (.t 6)⟩])
  (.seq (.ops [⟨some 8, none, .buildR 1 5 [(.c (.int .u8 0)), (.c (.int .u8 1))]⟩, ⟨some 9, none, .buildR 1 5 [(.c (.int .u8 0)), (.c (.int .u8 2))]⟩, ⟨some 10, none, .callF false 16 [(.c (.int .u16 8717)), (.t 8), (.t 9)]⟩, ⟨some 7, none, .mov (.t 10)⟩, ⟨some 11, none, .ext (.t 7) 0⟩, ⟨some 12, none, .ext (.t 7) 1⟩, ⟨some 2, none, .mov (.t 11)⟩, ⟨some 3, none, .mov (.t 12)⟩])
  (.seq (.ops [⟨some 14, none, .buildR 1 5 [(.c (.int .u8 1))]⟩, ⟨some 15, none, .buildR 1 5 [(.c (.int .u8 2))]⟩, ⟨some 16, none, .callF false 16 [(.c (.int .u16 1)), (.t 14), (.t 15)]⟩, ⟨some 13, none, .mov (.t 16)⟩, ⟨some 17, none, .ext (.t 13) 0⟩, ⟨some 18, none, .ext (.t 13) 1⟩, ⟨some 4, none, .mov (.t 17)⟩, ⟨some 5, none, .mov (.t 18)⟩])
  (.seq (.ops [⟨some 19, none, .mov (.t 1)⟩, ⟨some 20, none, .buildR 1 24 [(.t 19)]⟩, ⟨some 21, none, .callF true 22 [(.t 20)]⟩, ⟨some 22, none, .bin .eql (.t 21) (.c (.int .u16 56818))⟩, ⟨some 23, none, .mov (.t 22)⟩, ⟨some 24, (some (23, true)), .mov (.t 1)⟩, ⟨some 25, (some (23, true)), .slice 1 (.t 24) none (some (.c (.int .i64 3)))⟩, ⟨some 26, (some (23, true)), .mov (.t 1)⟩, ⟨some 27, (some (23, true)), .slice 1 (.t 26) (some (.c (.int .i64 3))) none⟩, ⟨some 28, (some (23, true)), .buildR 1 24 [(.t 25), (.t 27)]⟩, ⟨some 29, (some (23, true)), .callF true 24 [(.t 28)]⟩, ⟨some 30, (some (23, true)), .bin .eql (.t 29) (.c (.int .u16 8717))⟩, ⟨some 31, none, .pick (.t 23) (.t 30) (.c (.bool false))⟩, ⟨some 32, none, .mov (.t 31)⟩, ⟨some 33, (some (32, true)), .mov (.t 1)⟩, ⟨some 34, (some (32, true)), .buildR 1 5 [(.c (.int .u8 34)), (.c (.int .u8 13))]⟩, ⟨some 35, (some (32, true)), .buildR 1 24 [(.t 33), (.t 34)]⟩, ⟨some 36, (some (32, true)), .callF true 26 [(.t 35)]⟩, ⟨some 37, none, .pick (.t 32) (.t 36) (.c (.bool false))⟩, ⟨some 38, none, .mov (.t 37)⟩, ⟨some 39, (some (38, true)), .mov (.t 1)⟩, ⟨some 40, (some (38, true)), .buildR 1 24 [(.t 39)]⟩, ⟨some 41, (some (38, true)), .callF true 26 [(.t 40)]⟩, ⟨some 42, (some (38, true)), .un .not (.t 41)⟩, ⟨some 43, none, .pick (.t 38) (.t 42) (.c (.bool false))⟩, ⟨some 44, none, .mov (.t 43)⟩, ⟨some 45, (some (44, true)), .callF true 18 [(.c (.int .u16 65535)), (.c (.int .u16 2))]⟩, ⟨some 46, (some (44, true)), .bin .eql (.t 45) (.c (.int .u16 2))⟩, ⟨some 47, none, .pick (.t 44) (.t 46) (.c (.bool false))⟩, ⟨some 48, none, .mov (.t 47)⟩, ⟨some 49, (some (48, true)), .callF true 20 [(.c (.int .u16 8717)), (.c (.int .u16 1)), (.c (.int .u16 2))]⟩, ⟨some 50, (some (48, true)), .bin .eql (.t 49) (.c (.int .u16 8716))⟩, ⟨some 51, none, .pick (.t 48) (.t 50) (.c (.bool false))⟩, ⟨some 52, none, .mov (.t 51)⟩, ⟨some 53, (some (52, true)), .mov (.t 3)⟩, ⟨some 54, (some (52, true)), .bin .eql (.t 53) (.c (.int .i64 0))⟩, ⟨some 55, none, .pick (.t 52) (.t 54) (.c (.bool false))⟩, ⟨some 56, none, .mov (.t 55)⟩, ⟨some 57, (some (56, true)), .mov (.t 2)⟩, ⟨some 58, (some (56, true)), .bin .eql (.t 57) (.c (.int .u16 8716))⟩, ⟨some 59, none, .pick (.t 56) (.t 58) (.c (.bool false))⟩, ⟨some 60, none, .mov (.t 59)⟩, ⟨some 61, (some (60, true)), .mov (.t 5)⟩, ⟨some 62, (some (60, true)), .bin .eql (.t 61) (.c (.int .i64 11))⟩, ⟨some 63, none, .pick (.t 60) (.t 62) (.c (.bool false))⟩, ⟨some 0, none, .mov (.t 63)⟩])
  .ret)))))⟩
/- vizard/vizardref00.Long -/
def B14_0 : C := (.seq (.seq (.ops [⟨some 11, none, .mov (.t 6)⟩, ⟨some 12, none, .mov (.t 0)⟩, ⟨some 13, none, .len (.t 12)⟩, ⟨some 14, none, .bin .lss (.t 11) (.t 13)⟩])
  (.cond (.t 14)
  .skip
  (.exit 0)))
  (.seq (.block 1 (some [0, 1, 5, 6]) (.seq (.seq (.ops [⟨some 17, none, .mov (.t 0)⟩, ⟨some 18, none, .mov (.t 6)⟩, ⟨some 19, none, .iaddr 1 (.t 17) (.t 18)⟩, ⟨some 20, none, .load false 1 (.t 19)⟩, ⟨some 21, none, .len (.t 20)⟩, ⟨some 22, none, .mov (.t 1)⟩, ⟨some 23, none, .bin .gtr (.t 21) (.t 22)⟩])
  (.cond (.t 23)
  (.seq (.ops [⟨some 4, none, .mov (.c (.bool true))⟩])
  .ret)
  .skip))
  (.seq (.ops [⟨some 24, none, .mov (.t 5)⟩, ⟨some 25, none, .mov (.t 0)⟩, ⟨some 26, none, .mov (.t 6)⟩, ⟨some 27, none, .iaddr 1 (.t 25) (.t 26)⟩, ⟨some 28, none, .load false 1 (.t 27)⟩, ⟨some 29, none, .len (.t 28)⟩, ⟨some 30, none, .bin .add (.t 24) (.t 29)⟩, ⟨some 5, none, .mov (.t 30)⟩])
  (.seq (.ops [⟨some 31, none, .mov (.t 5)⟩, ⟨some 32, none, .mov (.t 1)⟩, ⟨some 33, none, .bin .gtr (.t 31) (.t 32)⟩])
  (.cond (.t 33)
  (.seq (.ops [⟨some 4, none, .mov (.c (.bool true))⟩])
  .ret)
  .skip)))))
  (.ops [⟨some 15, none, .mov (.t 6)⟩, ⟨some 16, none, .bin .add (.t 15) (.c (.int .i64 1))⟩, ⟨some 6, none, .mov (.t 16)⟩])))
def L14_0 : C := .loop (some [0, 1, 5, 6]) B14_0
theorem L14_0_eq {E : Env} (x : St) : ev E L14_0 x = andThen (ev E B14_0 (restr (some [0, 1, 5, 6]) x)) (ev E L14_0) := ev_loop _ _ x
def I14 : Fn_ := ⟨2, 34, [(4, none)],
  (.seq (.ops [⟨some 4, none, .mov (.c (.bool false))⟩])
  (.seq (.seq (.ops [⟨some 7, none, .mov (.t 0)⟩, ⟨some 8, none, .len (.t 7)⟩, ⟨some 9, none, .mov (.t 1)⟩, ⟨some 10, none, .bin .gtr (.t 8) (.t 9)⟩])
  (.cond (.t 10)
  (.seq (.ops [⟨some 4, none, .mov (.c (.bool true))⟩])
  .ret)
  .skip))
  (.seq (.ops [⟨some 5, none, .mov (.c (.int .i64 0))⟩])
  (.seq (.seq (.ops [⟨some 6, none, .mov (.c (.int .i64 0))⟩])
  (.block 0 (some [0, 1, 5, 6]) L14_0))
  (.seq (.ops [⟨some 4, none, .mov (.c (.bool false))⟩])
  .ret)))))⟩
/- vizard/vizardlaw03.join -/
def B15_0 : C := (.seq (.seq (.ops [⟨some 6, none, .mov (.t 4)⟩, ⟨some 7, none, .mov (.t 0)⟩, ⟨some 8, none, .len (.t 7)⟩, ⟨some 9, none, .bin .lss (.t 6) (.t 8)⟩])
  (.cond (.t 9)
  .skip
  (.exit 0)))
  (.seq (.block 1 (some [0, 3, 4]) (.ops [⟨some 12, none, .mov (.t 3)⟩, ⟨some 13, none, .mov (.t 0)⟩, ⟨some 14, none, .mov (.t 4)⟩, ⟨some 15, none, .iaddr 1 (.t 13) (.t 14)⟩, ⟨some 16, none, .load false 1 (.t 15)⟩, ⟨some 17, none, .append 1 1 5 (.t 12) (.t 16)⟩, ⟨some 3, none, .mov (.t 17)⟩]))
  (.ops [⟨some 10, none, .mov (.t 4)⟩, ⟨some 11, none, .bin .add (.t 10) (.c (.int .i64 1))⟩, ⟨some 4, none, .mov (.t 11)⟩])))
def L15_0 : C := .loop (some [0, 3, 4]) B15_0
theorem L15_0_eq {E : Env} (x : St) : ev E L15_0 x = andThen (ev E B15_0 (restr (some [0, 3, 4]) x)) (ev E L15_0) := ev_loop _ _ x
def I15 : Fn_ := ⟨1, 19, [(2, none)],
  (.seq (.ops [⟨some 2, none, .mov (.c (.rs false 1 []))⟩])
  (.seq (.ops [⟨some 5, none, .buildSl 1 5 []⟩, ⟨some 3, none, .mov (.t 5)⟩])
  (.seq (.seq (.ops [⟨some 4, none, .mov (.c (.int .i64 0))⟩])
  (.block 0 (some [0, 3, 4]) L15_0))
  (.seq (.ops [⟨some 18, none, .mov (.t 3)⟩, ⟨some 2, none, .mov (.t 18)⟩])
  .ret))))⟩
/- vizard/sum.Patch -/
def B16_0 : C := (.seq (.seq (.ops [⟨some 19, none, .mov (.t 1)⟩, ⟨some 20, none, .len (.t 19)⟩, ⟨some 21, none, .bin .gtr (.t 20) (.c (.int .i64 0))⟩])
  (.cond (.t 21)
  .skip
  (.exit 0)))
  (.seq (.block 1 (some [0, 1, 2]) (.ops [⟨some 26, none, .mov (.t 0)⟩, ⟨some 27, none, .mov (.t 1)⟩, ⟨some 28, none, .slice 1 (.t 27) none (some (.c (.int .i64 2)))⟩, ⟨some 29, none, .callF true 41 [(.t 28)]⟩, ⟨some 30, none, .mov (.t 2)⟩, ⟨some 31, none, .slice 1 (.t 30) none (some (.c (.int .i64 2)))⟩, ⟨some 32, none, .callF true 41 [(.t 31)]⟩, ⟨some 33, none, .callF true 20 [(.t 26), (.t 29), (.t 32)]⟩, ⟨some 0, none, .mov (.t 33)⟩]))
  (.ops [⟨some 22, none, .mov (.t 1)⟩, ⟨some 23, none, .slice 1 (.t 22) (some (.c (.int .i64 2))) none⟩, ⟨some 24, none, .mov (.t 2)⟩, ⟨some 25, none, .slice 1 (.t 24) (some (.c (.int .i64 2))) none⟩, ⟨some 1, none, .mov (.t 23)⟩, ⟨some 2, none, .mov (.t 25)⟩])))
def L16_0 : C := .loop (some [0, 1, 2]) B16_0
theorem L16_0_eq {E : Env} (x : St) : ev E L16_0 x = andThen (ev E B16_0 (restr (some [0, 1, 2]) x)) (ev E L16_0) := ev_loop _ _ x
def I16 : Fn_ := ⟨3, 35, [(6, none), (7, none)],
  (.seq (.ops [⟨some 6, none, .mov (.c (.int .u16 0))⟩, ⟨some 7, none, .mov (.c (.int .i64 0))⟩])
  (.seq (.seq (.ops [⟨some 8, none, .mov (.t 1)⟩, ⟨some 9, none, .len (.t 8)⟩, ⟨some 10, none, .mov (.t 2)⟩, ⟨some 11, none, .len (.t 10)⟩, ⟨some 12, none, .bin .neq (.t 9) (.t 11)⟩, ⟨some 13, none, .mov (.t 12)⟩, ⟨some 14, (some (13, false)), .mov (.t 1)⟩, ⟨some 15, (some (13, false)), .len (.t 14)⟩, ⟨some 16, (some (13, false)), .bin .rem (.t 15) (.c (.int .i64 2))⟩, ⟨some 17, (some (13, false)), .bin .neq (.t 16) (.c (.int .i64 0))⟩, ⟨some 18, none, .pick (.t 13) (.c (.bool true)) (.t 17)⟩])
  (.cond (.t 18)
  (.seq (.ops [⟨some 6, none, .mov (.c (.int .u16 0))⟩, ⟨some 7, none, .mov (.c (.int .i64 11))⟩])
  .ret)
  .skip))
  (.seq (.block 0 (some [0, 1, 2]) L16_0)
  (.seq (.ops [⟨some 34, none, .mov (.t 0)⟩, ⟨some 6, none, .mov (.t 34)⟩, ⟨some 7, none, .mov (.c (.int .i64 0))⟩])
  .ret))))⟩
/- vizard/vizardref03.Patch -/
def B17_0 : C := (.seq (.seq (.ops [⟨some 20, none, .mov (.t 8)⟩, ⟨some 21, none, .mov (.t 1)⟩, ⟨some 22, none, .len (.t 21)⟩, ⟨some 23, none, .bin .lss (.t 20) (.t 22)⟩])
  (.cond (.t 23)
  .skip
  (.exit 0)))
  (.seq (.block 1 (some [0, 1, 2, 8]) (.ops [⟨some 26, none, .mov (.t 0)⟩, ⟨some 27, none, .mov (.t 1)⟩, ⟨some 28, none, .mov (.t 8)⟩, ⟨some 29, none, .iaddr 1 (.t 27) (.t 28)⟩, ⟨some 30, none, .load false 1 (.t 29)⟩, ⟨some 31, none, .conv .i64 (.t 30)⟩, ⟨some 32, none, .bin .mul (.t 31) (.c (.int .i64 256))⟩, ⟨some 33, none, .mov (.t 1)⟩, ⟨some 34, none, .mov (.t 8)⟩, ⟨some 35, none, .bin .add (.t 34) (.c (.int .i64 1))⟩, ⟨some 36, none, .iaddr 1 (.t 33) (.t 35)⟩, ⟨some 37, none, .load false 1 (.t 36)⟩, ⟨some 38, none, .conv .i64 (.t 37)⟩, ⟨some 39, none, .bin .add (.t 32) (.t 38)⟩, ⟨some 40, none, .conv .u16 (.t 39)⟩, ⟨some 41, none, .mov (.t 2)⟩, ⟨some 42, none, .mov (.t 8)⟩, ⟨some 43, none, .iaddr 1 (.t 41) (.t 42)⟩, ⟨some 44, none, .load false 1 (.t 43)⟩, ⟨some 45, none, .conv .i64 (.t 44)⟩, ⟨some 46, none, .bin .mul (.t 45) (.c (.int .i64 256))⟩, ⟨some 47, none, .mov (.t 2)⟩, ⟨some 48, none, .mov (.t 8)⟩, ⟨some 49, none, .bin .add (.t 48) (.c (.int .i64 1))⟩, ⟨some 50, none, .iaddr 1 (.t 47) (.t 49)⟩, ⟨some 51, none, .load false 1 (.t 50)⟩, ⟨some 52, none, .conv .i64 (.t 51)⟩, ⟨some 53, none, .bin .add (.t 46) (.t 52)⟩, ⟨some 54, none, .conv .u16 (.t 53)⟩, ⟨some 55, none, .callF true 21 [(.t 26), (.t 40), (.t 54)]⟩, ⟨some 0, none, .mov (.t 55)⟩]))
  (.ops [⟨some 24, none, .mov (.t 8)⟩, ⟨some 25, none, .bin .add (.t 24) (.c (.int .i64 2))⟩, ⟨some 8, none, .mov (.t 25)⟩])))
def L17_0 : C := .loop (some [0, 1, 2, 8]) B17_0
theorem L17_0_eq {E : Env} (x : St) : ev E L17_0 x = andThen (ev E B17_0 (restr (some [0, 1, 2, 8]) x)) (ev E L17_0) := ev_loop _ _ x
def I17 : Fn_ := ⟨3, 57, [(6, none), (7, none)],
  (.seq (.ops [⟨some 6, none, .mov (.c (.int .u16 0))⟩, ⟨some 7, none, .mov (.c (.int .i64 0))⟩])
  (.seq (.seq (.ops [⟨some 9, none, .mov (.t 1)⟩, ⟨some 10, none, .len (.t 9)⟩, ⟨some 11, none, .mov (.t 2)⟩, ⟨some 12, none, .len (.t 11)⟩, ⟨some 13, none, .bin .neq (.t 10) (.t 12)⟩, ⟨some 14, none, .mov (.t 13)⟩, ⟨some 15, (some (14, false)), .mov (.t 1)⟩, ⟨some 16, (some (14, false)), .len (.t 15)⟩, ⟨some 17, (some (14, false)), .bin .rem (.t 16) (.c (.int .i64 2))⟩, ⟨some 18, (some (14, false)), .bin .eql (.t 17) (.c (.int .i64 1))⟩, ⟨some 19, none, .pick (.t 14) (.c (.bool true)) (.t 18)⟩])
  (.cond (.t 19)
  (.seq (.ops [⟨some 6, none, .mov (.c (.int .u16 0))⟩, ⟨some 7, none, .mov (.c (.int .i64 11))⟩])
  .ret)
  .skip))
  (.seq (.seq (.ops [⟨some 8, none, .mov (.c (.int .i64 0))⟩])
  (.block 0 (some [0, 1, 2, 8]) L17_0))
  (.seq (.ops [⟨some 56, none, .mov (.t 0)⟩, ⟨some 6, none, .mov (.t 56)⟩, ⟨some 7, none, .mov (.c (.int .i64 0))⟩])
  .ret))))⟩
/- vizard/sum.Add -/
def I18 : Fn_ := ⟨2, 11, [(4, none)],
  (.seq (.ops [⟨some 4, none, .mov (.c (.int .u16 0))⟩])
  (.seq (.ops [⟨some 5, none, .mov (.t 0)⟩, ⟨some 6, none, .conv .u64 (.t 5)⟩, ⟨some 7, none, .mov (.t 1)⟩, ⟨some 8, none, .conv .u64 (.t 7)⟩, ⟨some 9, none, .bin .add (.t 6) (.t 8)⟩, ⟨some 10, none, .callF false 42 [(.t 9)]⟩, ⟨some 4, none, .mov (.t 10)⟩])
  .ret))⟩
/- vizard/vizardref03.Add -/
def I19 : Fn_ := ⟨2, 17, [(4, none)],
  (.seq (.ops [⟨some 4, none, .mov (.c (.int .u16 0))⟩])
  (.seq (.ops [⟨some 6, none, .mov (.t 0)⟩, ⟨some 7, none, .conv .i64 (.t 6)⟩, ⟨some 8, none, .mov (.t 1)⟩, ⟨some 9, none, .conv .i64 (.t 8)⟩, ⟨some 10, none, .bin .add (.t 7) (.t 9)⟩, ⟨some 5, none, .mov (.t 10)⟩])
  (.seq (.seq (.ops [⟨some 11, none, .mov (.t 5)⟩, ⟨some 12, none, .bin .gtr (.t 11) (.c (.int .i64 65535))⟩])
  (.cond (.t 12)
  (.ops [⟨some 13, none, .mov (.t 5)⟩, ⟨some 14, none, .bin .sub (.t 13) (.c (.int .i64 65535))⟩, ⟨some 5, none, .mov (.t 14)⟩])
  .skip))
  (.seq (.ops [⟨some 15, none, .mov (.t 5)⟩, ⟨some 16, none, .conv .u16 (.t 15)⟩, ⟨some 4, none, .mov (.t 16)⟩])
  .ret))))⟩
/- vizard/sum.Turn -/
def I20 : Fn_ := ⟨3, 19, [(6, none)],
  (.seq (.ops [⟨some 6, none, .mov (.c (.int .u16 0))⟩])
  (.seq (.ops [⟨some 7, none, .mov (.t 0)⟩, ⟨some 8, none, .un .xor (.t 7)⟩, ⟨some 9, none, .conv .u64 (.t 8)⟩, ⟨some 10, none, .mov (.t 1)⟩, ⟨some 11, none, .un .xor (.t 10)⟩, ⟨some 12, none, .conv .u64 (.t 11)⟩, ⟨some 13, none, .bin .add (.t 9) (.t 12)⟩, ⟨some 14, none, .mov (.t 2)⟩, ⟨some 15, none, .conv .u64 (.t 14)⟩, ⟨some 16, none, .bin .add (.t 13) (.t 15)⟩, ⟨some 17, none, .callF false 42 [(.t 16)]⟩, ⟨some 18, none, .un .xor (.t 17)⟩, ⟨some 6, none, .mov (.t 18)⟩])
  .ret))⟩
/- vizard/vizardref03.Turn -/
def I21 : Fn_ := ⟨3, 15, [(6, none)],
  (.seq (.ops [⟨some 6, none, .mov (.c (.int .u16 0))⟩])
  (.seq (.ops [⟨some 7, none, .mov (.t 0)⟩, ⟨some 8, none, .bin .sub (.c (.int .u16 65535)) (.t 7)⟩, ⟨some 9, none, .mov (.t 1)⟩, ⟨some 10, none, .bin .sub (.c (.int .u16 65535)) (.t 9)⟩, ⟨some 11, none, .callF false 19 [(.t 8), (.t 10)]⟩, ⟨some 12, none, .mov (.t 2)⟩, ⟨some 13, none, .callF false 19 [(.t 11), (.t 12)]⟩, ⟨some 14, none, .bin .sub (.c (.int .u16 65535)) (.t 13)⟩, ⟨some 6, none, .mov (.t 14)⟩])
  .ret))⟩
/- vizard/vizardref03.Total -/
def B23_0 : C := (.seq (.seq (.ops [⟨some 6, none, .mov (.t 4)⟩, ⟨some 7, none, .mov (.t 0)⟩, ⟨some 8, none, .len (.t 7)⟩, ⟨some 9, none, .bin .lss (.t 6) (.t 8)⟩])
  (.cond (.t 9)
  .skip
  (.exit 0)))
  (.seq (.block 1 (some [0, 3, 4]) (.seq (.ops [⟨some 12, none, .mov (.t 0)⟩, ⟨some 13, none, .mov (.t 4)⟩, ⟨some 14, none, .iaddr 1 (.t 12) (.t 13)⟩, ⟨some 15, none, .load false 1 (.t 14)⟩, ⟨some 16, none, .conv .i64 (.t 15)⟩, ⟨some 17, none, .bin .mul (.t 16) (.c (.int .i64 256))⟩, ⟨some 5, none, .mov (.t 17)⟩])
  (.seq (.seq (.ops [⟨some 18, none, .mov (.t 4)⟩, ⟨some 19, none, .bin .add (.t 18) (.c (.int .i64 1))⟩, ⟨some 20, none, .mov (.t 0)⟩, ⟨some 21, none, .len (.t 20)⟩, ⟨some 22, none, .bin .lss (.t 19) (.t 21)⟩])
  (.cond (.t 22)
  (.ops [⟨some 23, none, .mov (.t 5)⟩, ⟨some 24, none, .mov (.t 0)⟩, ⟨some 25, none, .mov (.t 4)⟩, ⟨some 26, none, .bin .add (.t 25) (.c (.int .i64 1))⟩, ⟨some 27, none, .iaddr 1 (.t 24) (.t 26)⟩, ⟨some 28, none, .load false 1 (.t 27)⟩, ⟨some 29, none, .conv .i64 (.t 28)⟩, ⟨some 30, none, .bin .add (.t 23) (.t 29)⟩, ⟨some 5, none, .mov (.t 30)⟩])
  .skip))
  (.ops [⟨some 31, none, .mov (.t 3)⟩, ⟨some 32, none, .mov (.t 5)⟩, ⟨some 33, none, .conv .u16 (.t 32)⟩, ⟨some 34, none, .callF false 19 [(.t 31), (.t 33)]⟩, ⟨some 3, none, .mov (.t 34)⟩]))))
  (.ops [⟨some 10, none, .mov (.t 4)⟩, ⟨some 11, none, .bin .add (.t 10) (.c (.int .i64 2))⟩, ⟨some 4, none, .mov (.t 11)⟩])))
def L23_0 : C := .loop (some [0, 3, 4]) B23_0
theorem L23_0_eq {E : Env} (x : St) : ev E L23_0 x = andThen (ev E B23_0 (restr (some [0, 3, 4]) x)) (ev E L23_0) := ev_loop _ _ x
def I23 : Fn_ := ⟨1, 36, [(2, none)],
  (.seq (.ops [⟨some 2, none, .mov (.c (.int .u16 0))⟩])
  (.seq (.ops [⟨some 3, none, .mov (.c (.int .u16 0))⟩])
  (.seq (.seq (.ops [⟨some 4, none, .mov (.c (.int .i64 0))⟩])
  (.block 0 (some [0, 3, 4]) L23_0))
  (.seq (.ops [⟨some 35, none, .mov (.t 3)⟩, ⟨some 2, none, .mov (.t 35)⟩])
  .ret))))⟩
/- vizard/sum.Of -/
def I24 : Fn_ := ⟨1, 6, [(2, none)],
  (.seq (.ops [⟨some 2, none, .mov (.c (.int .u16 0))⟩])
  (.seq (.ops [⟨some 3, none, .mov (.t 0)⟩, ⟨some 4, none, .callF false 22 [(.t 3)]⟩, ⟨some 5, none, .un .xor (.t 4)⟩, ⟨some 2, none, .mov (.t 5)⟩])
  .ret))⟩
/- vizard/vizardref03.Of -/
def I25 : Fn_ := ⟨1, 6, [(2, none)],
  (.seq (.ops [⟨some 2, none, .mov (.c (.int .u16 0))⟩])
  (.seq (.ops [⟨some 3, none, .mov (.t 0)⟩, ⟨some 4, none, .callF false 23 [(.t 3)]⟩, ⟨some 5, none, .bin .sub (.c (.int .u16 65535)) (.t 4)⟩, ⟨some 2, none, .mov (.t 5)⟩])
  .ret))⟩
/- vizard/sum.Right -/
def I26 : Fn_ := ⟨1, 6, [(2, none)],
  (.seq (.ops [⟨some 2, none, .mov (.c (.bool false))⟩])
  (.seq (.ops [⟨some 3, none, .mov (.t 0)⟩, ⟨some 4, none, .callF false 22 [(.t 3)]⟩, ⟨some 5, none, .bin .eql (.t 4) (.c (.int .u16 65535))⟩, ⟨some 2, none, .mov (.t 5)⟩])
  .ret))⟩
/- vizard/vizardref00.Own -/
def I27 : Fn_ := ⟨1, 6, [(2, none)],
  (.seq (.ops [⟨some 2, none, .mov (.c (.rs false 1 []))⟩])
  (.seq (.ops [⟨some 3, none, .buildSl 1 5 []⟩, ⟨some 4, none, .mov (.t 0)⟩, ⟨some 5, none, .append 1 1 5 (.t 3) (.t 4)⟩, ⟨some 2, none, .mov (.t 5)⟩])
  .ret))⟩
/- vizard/vizardlaw03.zero -/
def B28_0 : C := (.seq (.seq (.ops [⟨some 4, none, .mov (.t 3)⟩, ⟨some 5, none, .mov (.t 0)⟩, ⟨some 6, none, .len (.t 5)⟩, ⟨some 7, none, .bin .lss (.t 4) (.t 6)⟩])
  (.cond (.t 7)
  .skip
  (.exit 0)))
  (.seq (.block 1 (some [0, 3]) (.seq (.ops [⟨some 10, none, .mov (.t 0)⟩, ⟨some 11, none, .mov (.t 3)⟩, ⟨some 12, none, .iaddr 1 (.t 10) (.t 11)⟩, ⟨some 13, none, .load false 1 (.t 12)⟩, ⟨some 14, none, .bin .neq (.t 13) (.c (.int .u8 0))⟩])
  (.cond (.t 14)
  (.seq (.ops [⟨some 2, none, .mov (.c (.bool false))⟩])
  .ret)
  .skip)))
  (.ops [⟨some 8, none, .mov (.t 3)⟩, ⟨some 9, none, .bin .add (.t 8) (.c (.int .i64 1))⟩, ⟨some 3, none, .mov (.t 9)⟩])))
def L28_0 : C := .loop (some [0, 3]) B28_0
theorem L28_0_eq {E : Env} (x : St) : ev E L28_0 x = andThen (ev E B28_0 (restr (some [0, 3]) x)) (ev E L28_0) := ev_loop _ _ x
def I28 : Fn_ := ⟨1, 15, [(2, none)],
  (.seq (.ops [⟨some 2, none, .mov (.c (.bool false))⟩])
  (.seq (.seq (.ops [⟨some 3, none, .mov (.c (.int .i64 0))⟩])
  (.block 0 (some [0, 3]) L28_0))
  (.seq (.ops [⟨some 2, none, .mov (.c (.bool true))⟩])
  .ret)))⟩
/- vizard/vizardlaw01.alive -/
def I29 : Fn_ := ⟨0, 126, [(0, none)],
  (.seq (.ops [⟨some 0, none, .mov (.c (.bool false))⟩])
  (.seq (.ops [⟨some 20, none, .buildR 1 5 [(.c (.int .u8 1)), (.c (.int .u8 2)), (.c (.int .u8 3))]⟩, ⟨some 1, none, .mov (.t 20)⟩])
  (.seq (.ops [⟨some 22, none, .mov (.t 1)⟩, ⟨some 23, none, .callF false 30 [(.t 22), (.c (.int .i64 1)), (.c (.int .i64 2))]⟩, ⟨some 21, none, .mov (.t 23)⟩, ⟨some 24, none, .ext (.t 21) 0⟩, ⟨some 25, none, .ext (.t 21) 1⟩, ⟨some 2, none, .mov (.t 24)⟩, ⟨some 3, none, .mov (.t 25)⟩])
  (.seq (.ops [⟨some 27, none, .mov (.t 1)⟩, ⟨some 28, none, .callF false 30 [(.t 27), (.c (.int .i64 2)), (.c (.int .i64 2))]⟩, ⟨some 26, none, .mov (.t 28)⟩, ⟨some 29, none, .ext (.t 26) 0⟩, ⟨some 30, none, .ext (.t 26) 1⟩, ⟨some 4, none, .mov (.t 29)⟩, ⟨some 5, none, .mov (.t 30)⟩])
  (.seq (.ops [⟨some 32, none, .mov (.t 1)⟩, ⟨some 33, none, .callF false 35 [(.t 32), (.c (.int .i64 0)), (.c (.int .i64 2)), (.c (.int .u64 515))]⟩, ⟨some 31, none, .mov (.t 33)⟩, ⟨some 34, none, .ext (.t 31) 0⟩, ⟨some 35, none, .ext (.t 31) 1⟩, ⟨some 6, none, .mov (.t 34)⟩, ⟨some 7, none, .mov (.t 35)⟩])
  (.seq (.ops [⟨some 37, none, .mov (.t 1)⟩, ⟨some 38, none, .callF false 35 [(.t 37), (.c (.int .i64 0)), (.c (.int .i64 1)), (.c (.int .u64 256))]⟩, ⟨some 36, none, .mov (.t 38)⟩, ⟨some 39, none, .ext (.t 36) 0⟩, ⟨some 40, none, .ext (.t 36) 1⟩, ⟨some 8, none, .mov (.t 39)⟩, ⟨some 9, none, .mov (.t 40)⟩])
  (.seq (.ops [⟨some 42, none, .mov (.t 1)⟩, ⟨some 43, none, .callF false 32 [(.t 42), (.c (.int .i64 1)), (.c (.int .i64 3))]⟩, ⟨some 41, none, .mov (.t 43)⟩, ⟨some 44, none, .ext (.t 41) 0⟩, ⟨some 45, none, .ext (.t 41) 1⟩, ⟨some 10, none, .mov (.t 44)⟩, ⟨some 11, none, .mov (.t 45)⟩])
  (.seq (.ops [⟨some 47, none, .mov (.t 1)⟩, ⟨some 48, none, .callF false 32 [(.t 47), (.c (.int .i64 2)), (.c (.int .i64 1))]⟩, ⟨some 46, none, .mov (.t 48)⟩, ⟨some 49, none, .ext (.t 46) 0⟩, ⟨some 50, none, .ext (.t 46) 1⟩, ⟨some 12, none, .mov (.t 49)⟩, ⟨some 13, none, .mov (.t 50)⟩])
  (.seq (.ops [⟨some 52, none, .buildR 1 44 [(.c (.int .u64 1)), (.c (.int .u64 258))]⟩, ⟨some 53, none, .callF false 37 [(.c (.int .i64 2)), (.t 52)]⟩, ⟨some 51, none, .mov (.t 53)⟩, ⟨some 54, none, .ext (.t 51) 0⟩, ⟨some 55, none, .ext (.t 51) 1⟩, ⟨some 14, none, .mov (.t 54)⟩, ⟨some 15, none, .mov (.t 55)⟩])
  (.seq (.ops [⟨some 57, none, .mov (.t 1)⟩, ⟨some 58, none, .buildR 1 5 [(.c (.int .u8 9))]⟩, ⟨some 59, none, .callF false 39 [(.t 57), (.c (.int .i64 2)), (.t 58)]⟩, ⟨some 56, none, .mov (.t 59)⟩, ⟨some 60, none, .ext (.t 56) 0⟩, ⟨some 61, none, .ext (.t 56) 1⟩, ⟨some 16, none, .mov (.t 60)⟩, ⟨some 17, none, .mov (.t 61)⟩])
  (.seq (.ops [⟨some 63, none, .mov (.t 1)⟩, ⟨some 64, none, .buildR 1 5 [(.c (.int .u8 9))]⟩, ⟨some 65, none, .callF false 39 [(.t 63), (.c (.int .i64 3)), (.t 64)]⟩, ⟨some 62, none, .mov (.t 65)⟩, ⟨some 66, none, .ext (.t 62) 0⟩, ⟨some 67, none, .ext (.t 62) 1⟩, ⟨some 18, none, .mov (.t 66)⟩, ⟨some 19, none, .mov (.t 67)⟩])
  (.seq (.ops [⟨some 68, none, .mov (.t 3)⟩, ⟨some 69, none, .bin .eql (.t 68) (.c (.int .i64 0))⟩, ⟨some 70, none, .mov (.t 69)⟩, ⟨some 71, (some (70, true)), .mov (.t 2)⟩, ⟨some 72, (some (70, true)), .bin .eql (.t 71) (.c (.int .u64 515))⟩, ⟨some 73, none, .pick (.t 70) (.t 72) (.c (.bool false))⟩, ⟨some 74, none, .mov (.t 73)⟩, ⟨some 75, (some (74, true)), .mov (.t 5)⟩, ⟨some 76, (some (74, true)), .bin .eql (.t 75) (.c (.int .i64 12))⟩, ⟨some 77, none, .pick (.t 74) (.t 76) (.c (.bool false))⟩, ⟨some 78, none, .mov (.t 77)⟩, ⟨some 79, (some (78, true)), .mov (.t 7)⟩, ⟨some 80, (some (78, true)), .bin .eql (.t 79) (.c (.int .i64 0))⟩, ⟨some 81, none, .pick (.t 78) (.t 80) (.c (.bool false))⟩, ⟨some 82, none, .mov (.t 81)⟩, ⟨some 83, (some (82, true)), .mov (.t 9)⟩, ⟨some 84, (some (82, true)), .bin .eql (.t 83) (.c (.int .i64 11))⟩, ⟨some 85, none, .pick (.t 82) (.t 84) (.c (.bool false))⟩, ⟨some 86, none, .mov (.t 85)⟩, ⟨some 87, (some (86, true)), .mov (.t 11)⟩, ⟨some 88, (some (86, true)), .bin .eql (.t 87) (.c (.int .i64 0))⟩, ⟨some 89, none, .pick (.t 86) (.t 88) (.c (.bool false))⟩, ⟨some 90, none, .mov (.t 89)⟩, ⟨some 91, (some (90, true)), .mov (.t 13)⟩, ⟨some 92, (some (90, true)), .bin .eql (.t 91) (.c (.int .i64 11))⟩, ⟨some 93, none, .pick (.t 90) (.t 92) (.c (.bool false))⟩, ⟨some 94, none, .mov (.t 93)⟩, ⟨some 95, (some (94, true)), .mov (.t 15)⟩, ⟨some 96, (some (94, true)), .bin .eql (.t 95) (.c (.int .i64 0))⟩, ⟨some 97, none, .pick (.t 94) (.t 96) (.c (.bool false))⟩, ⟨some 98, none, .mov (.t 97)⟩, ⟨some 99, (some (98, true)), .mov (.t 17)⟩, ⟨some 100, (some (98, true)), .bin .eql (.t 99) (.c (.int .i64 0))⟩, ⟨some 101, none, .pick (.t 98) (.t 100) (.c (.bool false))⟩, ⟨some 102, none, .mov (.t 101)⟩, ⟨some 103, (some (102, true)), .mov (.t 19)⟩, ⟨some 104, (some (102, true)), .bin .eql (.t 103) (.c (.int .i64 12))⟩, ⟨some 105, none, .pick (.t 102) (.t 104) (.c (.bool false))⟩, ⟨some 106, none, .mov (.t 105)⟩, ⟨some 107, (some (106, true)), .mov (.t 6)⟩, ⟨some 108, (some (106, true)), .buildR 1 5 [(.c (.int .u8 2)), (.c (.int .u8 3)), (.c (.int .u8 3))]⟩, ⟨some 109, (some (106, true)), .callF false 34 [(.t 107), (.t 108)]⟩, ⟨some 110, none, .pick (.t 106) (.t 109) (.c (.bool false))⟩, ⟨some 111, none, .mov (.t 110)⟩, ⟨some 112, (some (111, true)), .mov (.t 10)⟩, ⟨some 113, (some (111, true)), .buildR 1 5 [(.c (.int .u8 2)), (.c (.int .u8 3))]⟩, ⟨some 114, (some (111, true)), .callF false 34 [(.t 112), (.t 113)]⟩, ⟨some 115, none, .pick (.t 111) (.t 114) (.c (.bool false))⟩, ⟨some 116, none, .mov (.t 115)⟩, ⟨some 117, (some (116, true)), .mov (.t 14)⟩, ⟨some 118, (some (116, true)), .buildR 1 5 [(.c (.int .u8 0)), (.c (.int .u8 1)), (.c (.int .u8 1)), (.c (.int .u8 2))]⟩, ⟨some 119, (some (116, true)), .callF false 34 [(.t 117), (.t 118)]⟩, ⟨some 120, none, .pick (.t 116) (.t 119) (.c (.bool false))⟩, ⟨some 121, none, .mov (.t 120)⟩, ⟨some 122, (some (121, true)), .mov (.t 16)⟩, ⟨some 123, (some (121, true)), .buildR 1 5 [(.c (.int .u8 1)), (.c (.int .u8 2)), (.c (.int .u8 9))]⟩, ⟨some 124, (some (121, true)), .callF false 34 [(.t 122), (.t 123)]⟩, ⟨some 125, none, .pick (.t 121) (.t 124) (.c (.bool false))⟩, ⟨some 0, none, .mov (.t 125)⟩])
  .ret))))))))))))⟩
/- vizard/word.At -/
def B30_0 : C := (.seq (.ops [⟨some 31, none, .bin .lss (.t 30) (.t 29)⟩])
  (.seq (.cond (.t 31)
  .skip
  (.exit 0))
  (.seq (.block 1 (some [9, 28, 29, 30]) (.seq (.ops [⟨some 32, none, .iaddr 1 (.t 28) (.t 30)⟩, ⟨some 33, none, .load false 1 (.t 32)⟩, ⟨some 11, none, .mov (.t 33)⟩])
  (.ops [⟨some 34, none, .mov (.t 9)⟩, ⟨some 35, none, .bin .shl (.t 34) (.c (.int .u64 8))⟩, ⟨some 36, none, .mov (.t 11)⟩, ⟨some 37, none, .conv .u64 (.t 36)⟩, ⟨some 38, none, .bin .or (.t 35) (.t 37)⟩, ⟨some 9, none, .mov (.t 38)⟩])))
  (.ops [⟨some 39, none, .bin .add (.t 30) (.c (.int .i64 1))⟩, ⟨some 30, none, .mov (.t 39)⟩]))))
def L30_0 : C := .loop (some [9, 28, 29, 30]) B30_0
theorem L30_0_eq {E : Env} (x : St) : ev E L30_0 x = andThen (ev E B30_0 (restr (some [9, 28, 29, 30]) x)) (ev E L30_0) := ev_loop _ _ x
def I30 : Fn_ := ⟨3, 41, [(6, none), (7, none)],
  (.seq (.ops [⟨some 6, none, .mov (.c (.int .u64 0))⟩, ⟨some 7, none, .mov (.c (.int .i64 0))⟩])
  (.seq (.seq (.ops [⟨some 12, none, .mov (.t 2)⟩, ⟨some 13, none, .callF false 45 [(.t 12)]⟩, ⟨some 14, none, .un .not (.t 13)⟩])
  (.cond (.t 14)
  (.seq (.ops [⟨some 6, none, .mov (.c (.int .u64 0))⟩, ⟨some 7, none, .mov (.c (.int .i64 11))⟩])
  .ret)
  .skip))
  (.seq (.seq (.ops [⟨some 15, none, .mov (.t 0)⟩, ⟨some 16, none, .len (.t 15)⟩, ⟨some 17, none, .mov (.t 1)⟩, ⟨some 18, none, .mov (.t 2)⟩, ⟨some 19, none, .callF false 46 [(.t 16), (.t 17), (.t 18)]⟩, ⟨some 8, none, .mov (.t 19)⟩])
  (.seq (.ops [⟨some 20, none, .mov (.t 8)⟩, ⟨some 21, none, .bin .neq (.t 20) (.c (.int .i64 0))⟩])
  (.cond (.t 21)
  (.seq (.ops [⟨some 22, none, .mov (.t 8)⟩, ⟨some 6, none, .mov (.c (.int .u64 0))⟩, ⟨some 7, none, .mov (.t 22)⟩])
  .ret)
  .skip)))
  (.seq (.ops [⟨some 9, none, .mov (.c (.int .u64 0))⟩])
  (.seq (.seq (.ops [⟨some 23, none, .mov (.t 0)⟩, ⟨some 24, none, .mov (.t 1)⟩, ⟨some 25, none, .mov (.t 1)⟩, ⟨some 26, none, .mov (.t 2)⟩, ⟨some 27, none, .bin .add (.t 25) (.t 26)⟩, ⟨some 28, none, .slice 1 (.t 23) (some (.t 24)) (some (.t 27))⟩, ⟨some 29, none, .len (.t 28)⟩, ⟨some 30, none, .mov (.c (.int .i64 0))⟩])
  (.block 0 (some [9, 28, 29, 30]) L30_0))
  (.seq (.ops [⟨some 40, none, .mov (.t 9)⟩, ⟨some 6, none, .mov (.t 40)⟩, ⟨some 7, none, .mov (.c (.int .i64 0))⟩])
  .ret))))))⟩
/- vizard/vizardref01.At -/
def B31_0 : C := (.seq (.seq (.ops [⟨some 32, none, .mov (.t 9)⟩, ⟨some 33, none, .mov (.t 2)⟩, ⟨some 34, none, .bin .lss (.t 32) (.t 33)⟩])
  (.cond (.t 34)
  .skip
  (.exit 0)))
  (.seq (.block 1 (some [0, 1, 2, 8, 9]) (.ops [⟨some 37, none, .mov (.t 8)⟩, ⟨some 38, none, .bin .mul (.t 37) (.c (.int .u64 256))⟩, ⟨some 39, none, .mov (.t 0)⟩, ⟨some 40, none, .mov (.t 1)⟩, ⟨some 41, none, .mov (.t 9)⟩, ⟨some 42, none, .bin .add (.t 40) (.t 41)⟩, ⟨some 43, none, .iaddr 1 (.t 39) (.t 42)⟩, ⟨some 44, none, .load false 1 (.t 43)⟩, ⟨some 45, none, .conv .u64 (.t 44)⟩, ⟨some 46, none, .bin .add (.t 38) (.t 45)⟩, ⟨some 8, none, .mov (.t 46)⟩]))
  (.ops [⟨some 35, none, .mov (.t 9)⟩, ⟨some 36, none, .bin .add (.t 35) (.c (.int .i64 1))⟩, ⟨some 9, none, .mov (.t 36)⟩])))
def L31_0 : C := .loop (some [0, 1, 2, 8, 9]) B31_0
theorem L31_0_eq {E : Env} (x : St) : ev E L31_0 x = andThen (ev E B31_0 (restr (some [0, 1, 2, 8, 9]) x)) (ev E L31_0) := ev_loop _ _ x
def I31 : Fn_ := ⟨3, 48, [(6, none), (7, none)],
  (.seq (.ops [⟨some 6, none, .mov (.c (.int .u64 0))⟩, ⟨some 7, none, .mov (.c (.int .i64 0))⟩])
  (.seq (.seq (.ops [⟨some 10, none, .mov (.t 2)⟩, ⟨some 11, none, .bin .lss (.t 10) (.c (.int .i64 1))⟩, ⟨some 12, none, .mov (.t 11)⟩, ⟨some 13, (some (12, false)), .mov (.t 2)⟩, ⟨some 14, (some (12, false)), .bin .gtr (.t 13) (.c (.int .i64 8))⟩, ⟨some 15, none, .pick (.t 12) (.c (.bool true)) (.t 14)⟩, ⟨some 16, none, .mov (.t 15)⟩, ⟨some 17, (some (16, false)), .mov (.t 1)⟩, ⟨some 18, (some (16, false)), .bin .lss (.t 17) (.c (.int .i64 0))⟩, ⟨some 19, none, .pick (.t 16) (.c (.bool true)) (.t 18)⟩])
  (.cond (.t 19)
  (.seq (.ops [⟨some 6, none, .mov (.c (.int .u64 0))⟩, ⟨some 7, none, .mov (.c (.int .i64 11))⟩])
  .ret)
  .skip))
  (.seq (.seq (.ops [⟨some 20, none, .mov (.t 1)⟩, ⟨some 21, none, .mov (.t 0)⟩, ⟨some 22, none, .len (.t 21)⟩, ⟨some 23, none, .bin .gtr (.t 20) (.t 22)⟩, ⟨some 24, none, .mov (.t 23)⟩, ⟨some 25, (some (24, false)), .mov (.t 0)⟩, ⟨some 26, (some (24, false)), .len (.t 25)⟩, ⟨some 27, (some (24, false)), .mov (.t 1)⟩, ⟨some 28, (some (24, false)), .bin .sub (.t 26) (.t 27)⟩, ⟨some 29, (some (24, false)), .mov (.t 2)⟩, ⟨some 30, (some (24, false)), .bin .lss (.t 28) (.t 29)⟩, ⟨some 31, none, .pick (.t 24) (.c (.bool true)) (.t 30)⟩])
  (.cond (.t 31)
  (.seq (.ops [⟨some 6, none, .mov (.c (.int .u64 0))⟩, ⟨some 7, none, .mov (.c (.int .i64 12))⟩])
  .ret)
  .skip))
  (.seq (.ops [⟨some 8, none, .mov (.c (.int .u64 0))⟩])
  (.seq (.seq (.ops [⟨some 9, none, .mov (.c (.int .i64 0))⟩])
  (.block 0 (some [0, 1, 2, 8, 9]) L31_0))
  (.seq (.ops [⟨some 47, none, .mov (.t 8)⟩, ⟨some 6, none, .mov (.t 47)⟩, ⟨some 7, none, .mov (.c (.int .i64 0))⟩])
  .ret))))))⟩
/- vizard/word.Cut -/
def I32 : Fn_ := ⟨3, 26, [(6, none), (7, none)],
  (.seq (.ops [⟨some 6, none, .mov (.c (.rs false 1 []))⟩, ⟨some 7, none, .mov (.c (.int .i64 0))⟩])
  (.seq (.block 0 (some [0, 1, 2]) (.seq (.ops [⟨some 9, none, .mov (.t 1)⟩, ⟨some 10, none, .bin .lss (.t 9) (.c (.int .i64 0))⟩, ⟨some 11, none, .mov (.t 10)⟩, ⟨some 12, (some (11, false)), .mov (.t 2)⟩, ⟨some 13, (some (11, false)), .mov (.t 1)⟩, ⟨some 14, (some (11, false)), .bin .lss (.t 12) (.t 13)⟩, ⟨some 15, none, .pick (.t 11) (.c (.bool true)) (.t 14)⟩, ⟨some 8, none, .mov (.t 15)⟩])
  (.cond (.t 8)
  (.seq (.ops [⟨some 6, none, .mov (.c (.rs false 1 []))⟩, ⟨some 7, none, .mov (.c (.int .i64 11))⟩])
  .ret)
  (.seq (.ops [⟨some 17, none, .mov (.t 2)⟩, ⟨some 18, none, .mov (.t 0)⟩, ⟨some 19, none, .len (.t 18)⟩, ⟨some 20, none, .bin .gtr (.t 17) (.t 19)⟩, ⟨some 16, none, .mov (.t 20)⟩])
  (.cond (.t 16)
  (.seq (.ops [⟨some 6, none, .mov (.c (.rs false 1 []))⟩, ⟨some 7, none, .mov (.c (.int .i64 12))⟩])
  .ret)
  .skip)))))
  (.seq (.ops [⟨some 21, none, .mov (.t 0)⟩, ⟨some 22, none, .mov (.t 1)⟩, ⟨some 23, none, .mov (.t 2)⟩, ⟨some 24, none, .slice 1 (.t 21) (some (.t 22)) (some (.t 23))⟩, ⟨some 25, none, .callF false 47 [(.t 24)]⟩, ⟨some 6, none, .mov (.t 25)⟩, ⟨some 7, none, .mov (.c (.int .i64 0))⟩])
  .ret)))⟩
/- vizard/vizardref01.Cut -/
def I33 : Fn_ := ⟨3, 25, [(6, none), (7, none)],
  (.seq (.ops [⟨some 6, none, .mov (.c (.rs false 1 []))⟩, ⟨some 7, none, .mov (.c (.int .i64 0))⟩])
  (.seq (.seq (.ops [⟨some 8, none, .mov (.t 1)⟩, ⟨some 9, none, .bin .lss (.t 8) (.c (.int .i64 0))⟩, ⟨some 10, none, .mov (.t 9)⟩, ⟨some 11, (some (10, false)), .mov (.t 2)⟩, ⟨some 12, (some (10, false)), .mov (.t 1)⟩, ⟨some 13, (some (10, false)), .bin .lss (.t 11) (.t 12)⟩, ⟨some 14, none, .pick (.t 10) (.c (.bool true)) (.t 13)⟩])
  (.cond (.t 14)
  (.seq (.ops [⟨some 6, none, .mov (.c (.rs false 1 []))⟩, ⟨some 7, none, .mov (.c (.int .i64 11))⟩])
  .ret)
  .skip))
  (.seq (.seq (.ops [⟨some 15, none, .mov (.t 2)⟩, ⟨some 16, none, .mov (.t 0)⟩, ⟨some 17, none, .len (.t 16)⟩, ⟨some 18, none, .bin .gtr (.t 15) (.t 17)⟩])
  (.cond (.t 18)
  (.seq (.ops [⟨some 6, none, .mov (.c (.rs false 1 []))⟩, ⟨some 7, none, .mov (.c (.int .i64 12))⟩])
  .ret)
  .skip))
  (.seq (.ops [⟨some 19, none, .buildSl 1 5 []⟩, ⟨some 20, none, .mov (.t 0)⟩, ⟨some 21, none, .mov (.t 1)⟩, ⟨some 22, none, .mov (.t 2)⟩, ⟨some 23, none, .slice 1 (.t 20) (some (.t 21)) (some (.t 22))⟩, ⟨some 24, none, .append 1 1 5 (.t 19) (.t 23)⟩, ⟨some 6, none, .mov (.t 24)⟩, ⟨some 7, none, .mov (.c (.int .i64 0))⟩])
  .ret))))⟩
/- vizard/vizardref00.SameBytes -/
def B34_0 : C := (.seq (.seq (.ops [⟨some 11, none, .mov (.t 5)⟩, ⟨some 12, none, .mov (.t 0)⟩, ⟨some 13, none, .len (.t 12)⟩, ⟨some 14, none, .bin .lss (.t 11) (.t 13)⟩])
  (.cond (.t 14)
  .skip
  (.exit 0)))
  (.seq (.block 1 (some [0, 1, 5]) (.seq (.ops [⟨some 17, none, .mov (.t 0)⟩, ⟨some 18, none, .mov (.t 5)⟩, ⟨some 19, none, .iaddr 1 (.t 17) (.t 18)⟩, ⟨some 20, none, .load false 1 (.t 19)⟩, ⟨some 21, none, .mov (.t 1)⟩, ⟨some 22, none, .mov (.t 5)⟩, ⟨some 23, none, .iaddr 1 (.t 21) (.t 22)⟩, ⟨some 24, none, .load false 1 (.t 23)⟩, ⟨some 25, none, .bin .neq (.t 20) (.t 24)⟩])
  (.cond (.t 25)
  (.seq (.ops [⟨some 4, none, .mov (.c (.bool false))⟩])
  .ret)
  .skip)))
  (.ops [⟨some 15, none, .mov (.t 5)⟩, ⟨some 16, none, .bin .add (.t 15) (.c (.int .i64 1))⟩, ⟨some 5, none, .mov (.t 16)⟩])))
def L34_0 : C := .loop (some [0, 1, 5]) B34_0
theorem L34_0_eq {E : Env} (x : St) : ev E L34_0 x = andThen (ev E B34_0 (restr (some [0, 1, 5]) x)) (ev E L34_0) := ev_loop _ _ x
def I34 : Fn_ := ⟨2, 26, [(4, none)],
  (.seq (.ops [⟨some 4, none, .mov (.c (.bool false))⟩])
  (.seq (.seq (.ops [⟨some 6, none, .mov (.t 0)⟩, ⟨some 7, none, .len (.t 6)⟩, ⟨some 8, none, .mov (.t 1)⟩, ⟨some 9, none, .len (.t 8)⟩, ⟨some 10, none, .bin .neq (.t 7) (.t 9)⟩])
  (.cond (.t 10)
  (.seq (.ops [⟨some 4, none, .mov (.c (.bool false))⟩])
  .ret)
  .skip))
  (.seq (.seq (.ops [⟨some 5, none, .mov (.c (.int .i64 0))⟩])
  (.block 0 (some [0, 1, 5]) L34_0))
  (.seq (.ops [⟨some 4, none, .mov (.c (.bool true))⟩])
  .ret))))⟩
/- vizard/word.Lay -/
def I35 : Fn_ := ⟨4, 27, [(8, none), (9, none)],
  (.seq (.ops [⟨some 8, none, .mov (.c (.rs false 1 []))⟩, ⟨some 9, none, .mov (.c (.int .i64 0))⟩])
  (.seq (.ops [⟨some 13, none, .mov (.t 3)⟩, ⟨some 14, none, .mov (.t 2)⟩, ⟨some 15, none, .callF false 48 [(.t 13), (.t 14)]⟩, ⟨some 12, none, .mov (.t 15)⟩, ⟨some 16, none, .ext (.t 12) 0⟩, ⟨some 17, none, .ext (.t 12) 1⟩, ⟨some 10, none, .mov (.t 16)⟩, ⟨some 11, none, .mov (.t 17)⟩])
  (.seq (.seq (.ops [⟨some 18, none, .mov (.t 11)⟩, ⟨some 19, none, .bin .neq (.t 18) (.c (.int .i64 0))⟩])
  (.cond (.t 19)
  (.seq (.ops [⟨some 20, none, .mov (.t 11)⟩, ⟨some 8, none, .mov (.c (.rs false 1 []))⟩, ⟨some 9, none, .mov (.t 20)⟩])
  .ret)
  .skip))
  (.seq (.ops [⟨some 21, none, .mov (.t 0)⟩, ⟨some 22, none, .mov (.t 1)⟩, ⟨some 23, none, .mov (.t 10)⟩, ⟨some 24, none, .callF false 39 [(.t 21), (.t 22), (.t 23)]⟩, ⟨some 25, none, .ext (.t 24) 0⟩, ⟨some 26, none, .ext (.t 24) 1⟩, ⟨some 8, none, .mov (.t 25)⟩, ⟨some 9, none, .mov (.t 26)⟩])
  .ret))))⟩
/- vizard/vizardref01.Lay -/
def I36 : Fn_ := ⟨4, 32, [(8, none), (9, none)],
  (.seq (.ops [⟨some 8, none, .mov (.c (.rs false 1 []))⟩, ⟨some 9, none, .mov (.c (.int .i64 0))⟩])
  (.seq (.seq (.ops [⟨some 12, none, .mov (.t 2)⟩, ⟨some 13, none, .bin .lss (.t 12) (.c (.int .i64 1))⟩, ⟨some 14, none, .mov (.t 13)⟩, ⟨some 15, (some (14, false)), .mov (.t 2)⟩, ⟨some 16, (some (14, false)), .bin .gtr (.t 15) (.c (.int .i64 8))⟩, ⟨some 17, none, .pick (.t 14) (.c (.bool true)) (.t 16)⟩])
  (.cond (.t 17)
  (.seq (.ops [⟨some 8, none, .mov (.c (.rs false 1 []))⟩, ⟨some 9, none, .mov (.c (.int .i64 11))⟩])
  .ret)
  .skip))
  (.seq (.ops [⟨some 19, none, .mov (.t 3)⟩, ⟨some 20, none, .mov (.t 2)⟩, ⟨some 21, none, .callF false 49 [(.t 19), (.t 20)]⟩, ⟨some 18, none, .mov (.t 21)⟩, ⟨some 22, none, .ext (.t 18) 0⟩, ⟨some 23, none, .ext (.t 18) 1⟩, ⟨some 10, none, .mov (.t 22)⟩, ⟨some 11, none, .mov (.t 23)⟩])
  (.seq (.seq (.ops [⟨some 24, none, .mov (.t 11)⟩, ⟨some 25, none, .un .not (.t 24)⟩])
  (.cond (.t 25)
  (.seq (.ops [⟨some 8, none, .mov (.c (.rs false 1 []))⟩, ⟨some 9, none, .mov (.c (.int .i64 11))⟩])
  .ret)
  .skip))
  (.seq (.ops [⟨some 26, none, .mov (.t 0)⟩, ⟨some 27, none, .mov (.t 1)⟩, ⟨some 28, none, .mov (.t 10)⟩, ⟨some 29, none, .callF false 40 [(.t 26), (.t 27), (.t 28)]⟩, ⟨some 30, none, .ext (.t 29) 0⟩, ⟨some 31, none, .ext (.t 29) 1⟩, ⟨some 8, none, .mov (.t 30)⟩, ⟨some 9, none, .mov (.t 31)⟩])
  .ret)))))⟩
/- vizard/word.Row -/
def B37_0 : C := (.seq (.ops [⟨some 17, none, .bin .lss (.t 16) (.t 15)⟩])
  (.seq (.cond (.t 17)
  .skip
  (.exit 0))
  (.seq (.block 1 (some [0, 6, 14, 15, 16]) (.seq (.ops [⟨some 18, none, .iaddr 1 (.t 14) (.t 16)⟩, ⟨some 19, none, .load false 1 (.t 18)⟩, ⟨some 8, none, .mov (.t 19)⟩])
  (.seq (.ops [⟨some 21, none, .mov (.t 8)⟩, ⟨some 22, none, .mov (.t 0)⟩, ⟨some 23, none, .callF false 48 [(.t 21), (.t 22)]⟩, ⟨some 20, none, .mov (.t 23)⟩, ⟨some 24, none, .ext (.t 20) 0⟩, ⟨some 25, none, .ext (.t 20) 1⟩, ⟨some 9, none, .mov (.t 24)⟩, ⟨some 10, none, .mov (.t 25)⟩])
  (.seq (.seq (.ops [⟨some 26, none, .mov (.t 10)⟩, ⟨some 27, none, .bin .neq (.t 26) (.c (.int .i64 0))⟩])
  (.cond (.t 27)
  (.seq (.ops [⟨some 28, none, .mov (.t 10)⟩, ⟨some 4, none, .mov (.c (.rs false 1 []))⟩, ⟨some 5, none, .mov (.t 28)⟩])
  .ret)
  .skip))
  (.ops [⟨some 29, none, .mov (.t 6)⟩, ⟨some 30, none, .mov (.t 9)⟩, ⟨some 31, none, .append 1 1 5 (.t 29) (.t 30)⟩, ⟨some 6, none, .mov (.t 31)⟩])))))
  (.ops [⟨some 32, none, .bin .add (.t 16) (.c (.int .i64 1))⟩, ⟨some 16, none, .mov (.t 32)⟩]))))
def L37_0 : C := .loop (some [0, 6, 14, 15, 16]) B37_0
theorem L37_0_eq {E : Env} (x : St) : ev E L37_0 x = andThen (ev E B37_0 (restr (some [0, 6, 14, 15, 16]) x)) (ev E L37_0) := ev_loop _ _ x
def I37 : Fn_ := ⟨2, 34, [(4, none), (5, none)],
  (.seq (.ops [⟨some 4, none, .mov (.c (.rs false 1 []))⟩, ⟨some 5, none, .mov (.c (.int .i64 0))⟩])
  (.seq (.seq (.ops [⟨some 11, none, .mov (.t 0)⟩, ⟨some 12, none, .callF false 45 [(.t 11)]⟩, ⟨some 13, none, .un .not (.t 12)⟩])
  (.cond (.t 13)
  (.seq (.ops [⟨some 4, none, .mov (.c (.rs false 1 []))⟩, ⟨some 5, none, .mov (.c (.int .i64 11))⟩])
  .ret)
  .skip))
  (.seq (.ops [⟨some 6, none, .nilrow 1 5⟩])
  (.seq (.seq (.ops [⟨some 14, none, .mov (.t 1)⟩, ⟨some 15, none, .len (.t 14)⟩, ⟨some 16, none, .mov (.c (.int .i64 0))⟩])
  (.block 0 (some [0, 6, 14, 15, 16]) L37_0))
  (.seq (.ops [⟨some 33, none, .mov (.t 6)⟩, ⟨some 4, none, .mov (.t 33)⟩, ⟨some 5, none, .mov (.c (.int .i64 0))⟩])
  .ret)))))⟩
/- vizard/vizardref01.Row -/
def B38_0 : C := (.seq (.seq (.ops [⟨some 17, none, .mov (.t 7)⟩, ⟨some 18, none, .mov (.t 1)⟩, ⟨some 19, none, .len (.t 18)⟩, ⟨some 20, none, .bin .lss (.t 17) (.t 19)⟩])
  (.cond (.t 20)
  .skip
  (.exit 0)))
  (.seq (.block 1 (some [0, 1, 6, 7]) (.seq (.ops [⟨some 24, none, .mov (.t 1)⟩, ⟨some 25, none, .mov (.t 7)⟩, ⟨some 26, none, .iaddr 1 (.t 24) (.t 25)⟩, ⟨some 27, none, .load false 1 (.t 26)⟩, ⟨some 28, none, .mov (.t 0)⟩, ⟨some 29, none, .callF false 49 [(.t 27), (.t 28)]⟩, ⟨some 23, none, .mov (.t 29)⟩, ⟨some 30, none, .ext (.t 23) 0⟩, ⟨some 31, none, .ext (.t 23) 1⟩, ⟨some 8, none, .mov (.t 30)⟩, ⟨some 9, none, .mov (.t 31)⟩])
  (.seq (.seq (.ops [⟨some 32, none, .mov (.t 9)⟩, ⟨some 33, none, .un .not (.t 32)⟩])
  (.cond (.t 33)
  (.seq (.ops [⟨some 4, none, .mov (.c (.rs false 1 []))⟩, ⟨some 5, none, .mov (.c (.int .i64 11))⟩])
  .ret)
  .skip))
  (.ops [⟨some 34, none, .mov (.t 6)⟩, ⟨some 35, none, .mov (.t 8)⟩, ⟨some 36, none, .append 1 1 5 (.t 34) (.t 35)⟩, ⟨some 6, none, .mov (.t 36)⟩]))))
  (.ops [⟨some 21, none, .mov (.t 7)⟩, ⟨some 22, none, .bin .add (.t 21) (.c (.int .i64 1))⟩, ⟨some 7, none, .mov (.t 22)⟩])))
def L38_0 : C := .loop (some [0, 1, 6, 7]) B38_0
theorem L38_0_eq {E : Env} (x : St) : ev E L38_0 x = andThen (ev E B38_0 (restr (some [0, 1, 6, 7]) x)) (ev E L38_0) := ev_loop _ _ x
def I38 : Fn_ := ⟨2, 38, [(4, none), (5, none)],
  (.seq (.ops [⟨some 4, none, .mov (.c (.rs false 1 []))⟩, ⟨some 5, none, .mov (.c (.int .i64 0))⟩])
  (.seq (.seq (.ops [⟨some 10, none, .mov (.t 0)⟩, ⟨some 11, none, .bin .lss (.t 10) (.c (.int .i64 1))⟩, ⟨some 12, none, .mov (.t 11)⟩, ⟨some 13, (some (12, false)), .mov (.t 0)⟩, ⟨some 14, (some (12, false)), .bin .gtr (.t 13) (.c (.int .i64 8))⟩, ⟨some 15, none, .pick (.t 12) (.c (.bool true)) (.t 14)⟩])
  (.cond (.t 15)
  (.seq (.ops [⟨some 4, none, .mov (.c (.rs false 1 []))⟩, ⟨some 5, none, .mov (.c (.int .i64 11))⟩])
  .ret)
  .skip))
  (.seq (.ops [⟨some 16, none, .buildSl 1 5 []⟩, ⟨some 6, none, .mov (.t 16)⟩])
  (.seq (.seq (.ops [⟨some 7, none, .mov (.c (.int .i64 0))⟩])
  (.block 0 (some [0, 1, 6, 7]) L38_0))
  (.seq (.ops [⟨some 37, none, .mov (.t 6)⟩, ⟨some 4, none, .mov (.t 37)⟩, ⟨some 5, none, .mov (.c (.int .i64 0))⟩])
  .ret)))))⟩
/- vizard/word.Patch -/
def I39 : Fn_ := ⟨3, 27, [(6, none), (7, none)],
  (.seq (.ops [⟨some 6, none, .mov (.c (.rs false 1 []))⟩, ⟨some 7, none, .mov (.c (.int .i64 0))⟩])
  (.seq (.seq (.ops [⟨some 10, none, .mov (.t 0)⟩, ⟨some 11, none, .len (.t 10)⟩, ⟨some 12, none, .mov (.t 1)⟩, ⟨some 13, none, .mov (.t 2)⟩, ⟨some 14, none, .len (.t 13)⟩, ⟨some 15, none, .callF false 46 [(.t 11), (.t 12), (.t 14)]⟩, ⟨some 8, none, .mov (.t 15)⟩])
  (.seq (.ops [⟨some 16, none, .mov (.t 8)⟩, ⟨some 17, none, .bin .neq (.t 16) (.c (.int .i64 0))⟩])
  (.cond (.t 17)
  (.seq (.ops [⟨some 18, none, .mov (.t 8)⟩, ⟨some 6, none, .mov (.c (.rs false 1 []))⟩, ⟨some 7, none, .mov (.t 18)⟩])
  .ret)
  .skip)))
  (.seq (.ops [⟨some 19, none, .mov (.t 0)⟩, ⟨some 20, none, .callF false 47 [(.t 19)]⟩, ⟨some 9, none, .mov (.t 20)⟩])
  (.seq (.ops [⟨some 21, none, .mov (.t 9)⟩, ⟨some 22, none, .mov (.t 1)⟩, ⟨some 23, none, .slice 1 (.t 21) (some (.t 22)) none⟩, ⟨some 24, none, .mov (.t 2)⟩, ⟨some 25, none, .copy 1 (.t 23) (.t 24)⟩])
  (.seq (.ops [⟨some 26, none, .mov (.t 9)⟩, ⟨some 6, none, .mov (.t 26)⟩, ⟨some 7, none, .mov (.c (.int .i64 0))⟩])
  .ret)))))⟩
/- vizard/vizardref01.Patch -/
def B40_0 : C := (.seq (.seq (.ops [⟨some 28, none, .mov (.t 9)⟩, ⟨some 29, none, .mov (.t 2)⟩, ⟨some 30, none, .len (.t 29)⟩, ⟨some 31, none, .bin .lss (.t 28) (.t 30)⟩])
  (.cond (.t 31)
  .skip
  (.exit 0)))
  (.seq (.block 1 (some [1, 2, 8, 9]) (.ops [⟨some 34, none, .mov (.t 8)⟩, ⟨some 35, none, .mov (.t 1)⟩, ⟨some 36, none, .mov (.t 9)⟩, ⟨some 37, none, .bin .add (.t 35) (.t 36)⟩, ⟨some 38, none, .mov (.t 2)⟩, ⟨some 39, none, .mov (.t 9)⟩, ⟨some 40, none, .iaddr 1 (.t 38) (.t 39)⟩, ⟨some 41, none, .load false 1 (.t 40)⟩, ⟨some 42, none, .iaddr 1 (.t 34) (.t 37)⟩, ⟨none, none, .store 1 (.t 42) (.t 41)⟩]))
  (.ops [⟨some 32, none, .mov (.t 9)⟩, ⟨some 33, none, .bin .add (.t 32) (.c (.int .i64 1))⟩, ⟨some 9, none, .mov (.t 33)⟩])))
def L40_0 : C := .loop (some [1, 2, 8, 9]) B40_0
theorem L40_0_eq {E : Env} (x : St) : ev E L40_0 x = andThen (ev E B40_0 (restr (some [1, 2, 8, 9]) x)) (ev E L40_0) := ev_loop _ _ x
def I40 : Fn_ := ⟨3, 44, [(6, none), (7, none)],
  (.seq (.ops [⟨some 6, none, .mov (.c (.rs false 1 []))⟩, ⟨some 7, none, .mov (.c (.int .i64 0))⟩])
  (.seq (.seq (.ops [⟨some 10, none, .mov (.t 1)⟩, ⟨some 11, none, .bin .lss (.t 10) (.c (.int .i64 0))⟩])
  (.cond (.t 11)
  (.seq (.ops [⟨some 6, none, .mov (.c (.rs false 1 []))⟩, ⟨some 7, none, .mov (.c (.int .i64 11))⟩])
  .ret)
  .skip))
  (.seq (.seq (.ops [⟨some 12, none, .mov (.t 1)⟩, ⟨some 13, none, .mov (.t 0)⟩, ⟨some 14, none, .len (.t 13)⟩, ⟨some 15, none, .bin .gtr (.t 12) (.t 14)⟩, ⟨some 16, none, .mov (.t 15)⟩, ⟨some 17, (some (16, false)), .mov (.t 0)⟩, ⟨some 18, (some (16, false)), .len (.t 17)⟩, ⟨some 19, (some (16, false)), .mov (.t 1)⟩, ⟨some 20, (some (16, false)), .bin .sub (.t 18) (.t 19)⟩, ⟨some 21, (some (16, false)), .mov (.t 2)⟩, ⟨some 22, (some (16, false)), .len (.t 21)⟩, ⟨some 23, (some (16, false)), .bin .lss (.t 20) (.t 22)⟩, ⟨some 24, none, .pick (.t 16) (.c (.bool true)) (.t 23)⟩])
  (.cond (.t 24)
  (.seq (.ops [⟨some 6, none, .mov (.c (.rs false 1 []))⟩, ⟨some 7, none, .mov (.c (.int .i64 12))⟩])
  .ret)
  .skip))
  (.seq (.ops [⟨some 25, none, .buildSl 1 5 []⟩, ⟨some 26, none, .mov (.t 0)⟩, ⟨some 27, none, .append 1 1 5 (.t 25) (.t 26)⟩, ⟨some 8, none, .mov (.t 27)⟩])
  (.seq (.seq (.ops [⟨some 9, none, .mov (.c (.int .i64 0))⟩])
  (.block 0 (some [1, 2, 8, 9]) L40_0))
  (.seq (.ops [⟨some 43, none, .mov (.t 8)⟩, ⟨some 6, none, .mov (.t 43)⟩, ⟨some 7, none, .mov (.c (.int .i64 0))⟩])
  .ret))))))⟩
/- vizard/sum.number -/
def I41 : Fn_ := ⟨1, 15, [(2, none)],
  (.seq (.ops [⟨some 2, none, .mov (.c (.int .u16 0))⟩])
  (.seq (.ops [⟨some 3, none, .alloc true [(.int .u8 0), (.int .u8 0)] 69⟩])
  (.seq (.ops [⟨some 4, none, .sliceA 2 1 (.t 3) none none⟩, ⟨some 5, none, .mov (.t 0)⟩, ⟨some 6, none, .copy 1 (.t 4) (.t 5)⟩])
  (.seq (.ops [⟨some 7, none, .iaddrA 2 1 false (.t 3) (.c (.int .i64 0))⟩, ⟨some 8, none, .load false 1 (.t 7)⟩, ⟨some 9, none, .conv .u16 (.t 8)⟩, ⟨some 10, none, .bin .shl (.t 9) (.c (.int .u64 8))⟩, ⟨some 11, none, .iaddrA 2 1 false (.t 3) (.c (.int .i64 1))⟩, ⟨some 12, none, .load false 1 (.t 11)⟩, ⟨some 13, none, .conv .u16 (.t 12)⟩, ⟨some 14, none, .bin .or (.t 10) (.t 13)⟩, ⟨some 2, none, .mov (.t 14)⟩])
  .ret))))⟩
/- vizard/sum.fold -/
def B42_0 : C := (.seq (.seq (.ops [⟨some 3, none, .mov (.t 0)⟩, ⟨some 4, none, .bin .gtr (.t 3) (.c (.int .u64 65535))⟩])
  (.cond (.t 4)
  .skip
  (.exit 0)))
  (.block 1 (some [0]) (.ops [⟨some 5, none, .mov (.t 0)⟩, ⟨some 6, none, .bin .and (.t 5) (.c (.int .u64 65535))⟩, ⟨some 7, none, .mov (.t 0)⟩, ⟨some 8, none, .bin .shr (.t 7) (.c (.int .u64 16))⟩, ⟨some 9, none, .bin .add (.t 6) (.t 8)⟩, ⟨some 0, none, .mov (.t 9)⟩])))
def L42_0 : C := .loop (some [0]) B42_0
theorem L42_0_eq {E : Env} (x : St) : ev E L42_0 x = andThen (ev E B42_0 (restr (some [0]) x)) (ev E L42_0) := ev_loop _ _ x
def I42 : Fn_ := ⟨1, 12, [(2, none)],
  (.seq (.ops [⟨some 2, none, .mov (.c (.int .u16 0))⟩])
  (.seq (.block 0 (some [0]) L42_0)
  (.seq (.ops [⟨some 10, none, .mov (.t 0)⟩, ⟨some 11, none, .conv .u16 (.t 10)⟩, ⟨some 2, none, .mov (.t 11)⟩])
  .ret)))⟩
/- slices.Chunk[[]byte,byte] -/
def I43 : Fn_ := ⟨2, 9, [(4, none)],
  (.seq (.ops [⟨some 2, none, .box false 24 (.t 0)⟩, ⟨some 3, none, .box false 3 (.t 1)⟩, ⟨some 4, none, .mov (.c .nilf)⟩])
  (.seq (.seq (.ops [⟨some 5, none, .load false 1 (.t 3)⟩, ⟨some 6, none, .bin .lss (.t 5) (.c (.int .i64 1))⟩])
  (.cond (.t 6)
  (.ops [⟨some 7, none, .mkIf 9 (.c (.str ⟨#[99, 97, 110, 110, 111, 116, 32, 98, 101, 32, 108, 101, 115, 115, 32, 116, 104, 97, 110, 32, 49]⟩))⟩, ⟨none, none, .fail⟩])
  .skip))
  (.seq (.ops [⟨some 8, none, .mkFn 50 [(.t 2), (.t 3)]⟩, ⟨some 4, none, .mov (.t 8)⟩])
  .ret)))⟩
/- slices.Concat[[]byte,byte] -/
def B44_0 : C := (.seq (.ops [⟨some 12, none, .bin .lss (.t 11) (.t 10)⟩])
  (.seq (.cond (.t 12)
  .skip
  (.exit 0))
  (.seq (.block 1 (some [0, 3, 9, 10, 11]) (.seq (.ops [⟨some 13, none, .iaddr 1 (.t 9) (.t 11)⟩, ⟨some 14, none, .load false 1 (.t 13)⟩, ⟨some 5, none, .mov (.t 14)⟩])
  (.seq (.ops [⟨some 15, none, .mov (.t 3)⟩, ⟨some 16, none, .mov (.t 5)⟩, ⟨some 17, none, .len (.t 16)⟩, ⟨some 18, none, .bin .add (.t 15) (.t 17)⟩, ⟨some 3, none, .mov (.t 18)⟩])
  (.seq (.ops [⟨some 19, none, .mov (.t 3)⟩, ⟨some 20, none, .bin .lss (.t 19) (.c (.int .i64 0))⟩])
  (.cond (.t 20)
  (.ops [⟨some 21, none, .mkIf 9 (.c (.str ⟨#[108, 101, 110, 32, 111, 117, 116, 32, 111, 102, 32, 114, 97, 110, 103, 101]⟩))⟩, ⟨none, none, .fail⟩])
  .skip)))))
  (.ops [⟨some 22, none, .bin .add (.t 11) (.c (.int .i64 1))⟩, ⟨some 11, none, .mov (.t 22)⟩]))))
def L44_0 : C := .loop (some [0, 3, 9, 10, 11]) B44_0
theorem L44_0_eq {E : Env} (x : St) : ev E L44_0 x = andThen (ev E B44_0 (restr (some [0, 3, 9, 10, 11]) x)) (ev E L44_0) := ev_loop _ _ x
def B44_1 : C := (.seq (.ops [⟨some 28, none, .bin .lss (.t 27) (.t 26)⟩])
  (.seq (.cond (.t 28)
  .skip
  (.exit 2))
  (.seq (.block 3 (some [6, 25, 26, 27]) (.seq (.ops [⟨some 29, none, .iaddr 1 (.t 25) (.t 27)⟩, ⟨some 30, none, .load false 1 (.t 29)⟩, ⟨some 8, none, .mov (.t 30)⟩])
  (.ops [⟨some 31, none, .mov (.t 6)⟩, ⟨some 32, none, .mov (.t 8)⟩, ⟨some 33, none, .append 1 1 5 (.t 31) (.t 32)⟩, ⟨some 6, none, .mov (.t 33)⟩])))
  (.ops [⟨some 34, none, .bin .add (.t 27) (.c (.int .i64 1))⟩, ⟨some 27, none, .mov (.t 34)⟩]))))
def L44_1 : C := .loop (some [6, 25, 26, 27]) B44_1
theorem L44_1_eq {E : Env} (x : St) : ev E L44_1 x = andThen (ev E B44_1 (restr (some [6, 25, 26, 27]) x)) (ev E L44_1) := ev_loop _ _ x
def I44 : Fn_ := ⟨1, 36, [(2, none)],
  (.seq (.ops [⟨some 2, none, .mov (.c (.rs false 1 []))⟩])
  (.seq (.ops [⟨some 3, none, .mov (.c (.int .i64 0))⟩])
  (.seq (.seq (.ops [⟨some 9, none, .mov (.t 0)⟩, ⟨some 10, none, .len (.t 9)⟩, ⟨some 11, none, .mov (.c (.int .i64 0))⟩])
  (.block 0 (some [0, 3, 9, 10, 11]) L44_0))
  (.seq (.ops [⟨some 23, none, .mov (.t 3)⟩, ⟨some 24, none, .callF false 51 [(.c .nils), (.t 23)]⟩, ⟨some 6, none, .mov (.t 24)⟩])
  (.seq (.seq (.ops [⟨some 25, none, .mov (.t 0)⟩, ⟨some 26, none, .len (.t 25)⟩, ⟨some 27, none, .mov (.c (.int .i64 0))⟩])
  (.block 2 (some [6, 25, 26, 27]) L44_1))
  (.seq (.ops [⟨some 35, none, .mov (.t 6)⟩, ⟨some 2, none, .mov (.t 35)⟩])
  .ret))))))⟩
/- vizard/word.sized -/
def I45 : Fn_ := ⟨1, 9, [(2, none)],
  (.seq (.ops [⟨some 2, none, .mov (.c (.bool false))⟩])
  (.seq (.ops [⟨some 3, none, .mov (.t 0)⟩, ⟨some 4, none, .bin .geq (.t 3) (.c (.int .i64 1))⟩, ⟨some 5, none, .mov (.t 4)⟩, ⟨some 6, (some (5, true)), .mov (.t 0)⟩, ⟨some 7, (some (5, true)), .bin .leq (.t 6) (.c (.int .i64 8))⟩, ⟨some 8, none, .pick (.t 5) (.t 7) (.c (.bool false))⟩, ⟨some 2, none, .mov (.t 8)⟩])
  .ret))⟩
/- vizard/word.span -/
def I46 : Fn_ := ⟨3, 21, [(6, none)],
  (.seq (.ops [⟨some 6, none, .mov (.c (.int .i64 0))⟩])
  (.seq (.block 0 (some [0, 1, 2]) (.seq (.ops [⟨some 8, none, .mov (.t 1)⟩, ⟨some 9, none, .bin .lss (.t 8) (.c (.int .i64 0))⟩, ⟨some 7, none, .mov (.t 9)⟩])
  (.cond (.t 7)
  (.seq (.ops [⟨some 6, none, .mov (.c (.int .i64 11))⟩])
  .ret)
  (.seq (.ops [⟨some 11, none, .mov (.t 1)⟩, ⟨some 12, none, .mov (.t 0)⟩, ⟨some 13, none, .bin .gtr (.t 11) (.t 12)⟩, ⟨some 14, none, .mov (.t 13)⟩, ⟨some 15, (some (14, false)), .mov (.t 2)⟩, ⟨some 16, (some (14, false)), .mov (.t 0)⟩, ⟨some 17, (some (14, false)), .mov (.t 1)⟩, ⟨some 18, (some (14, false)), .bin .sub (.t 16) (.t 17)⟩, ⟨some 19, (some (14, false)), .bin .gtr (.t 15) (.t 18)⟩, ⟨some 20, none, .pick (.t 14) (.c (.bool true)) (.t 19)⟩, ⟨some 10, none, .mov (.t 20)⟩])
  (.cond (.t 10)
  (.seq (.ops [⟨some 6, none, .mov (.c (.int .i64 12))⟩])
  .ret)
  .skip)))))
  (.seq (.ops [⟨some 6, none, .mov (.c (.int .i64 0))⟩])
  .ret)))⟩
/- slices.Clone[[]byte,byte] -/
def I47 : Fn_ := ⟨1, 8, [(2, none)],
  (.seq (.ops [⟨some 2, none, .mov (.c (.rs false 1 []))⟩])
  (.seq (.seq (.ops [⟨some 3, none, .mov (.t 0)⟩, ⟨some 4, none, .eqNil false (.t 3)⟩])
  (.cond (.t 4)
  (.seq (.ops [⟨some 2, none, .mov (.c (.rs false 1 []))⟩])
  .ret)
  .skip))
  (.seq (.ops [⟨some 5, none, .buildSl 1 5 []⟩, ⟨some 6, none, .mov (.t 0)⟩, ⟨some 7, none, .append 1 1 5 (.t 5) (.t 6)⟩, ⟨some 2, none, .mov (.t 7)⟩])
  .ret)))⟩
/- vizard/word.number -/
def B48_0 : C := (.seq (.seq (.ops [⟨some 25, none, .mov (.t 7)⟩, ⟨some 26, none, .bin .geq (.t 25) (.c (.int .i64 0))⟩])
  (.cond (.t 26)
  .skip
  (.exit 0)))
  (.seq (.block 1 (some [0, 6, 7]) (.ops [⟨some 29, none, .mov (.t 6)⟩, ⟨some 30, none, .mov (.t 0)⟩, ⟨some 31, none, .mov (.t 7)⟩, ⟨some 32, none, .bin .shr (.t 30) (.t 31)⟩, ⟨some 33, none, .conv .u8 (.t 32)⟩, ⟨some 34, none, .buildR 1 5 [(.t 33)]⟩, ⟨some 35, none, .append 1 1 5 (.t 29) (.t 34)⟩, ⟨some 6, none, .mov (.t 35)⟩]))
  (.ops [⟨some 27, none, .mov (.t 7)⟩, ⟨some 28, none, .bin .sub (.t 27) (.c (.int .i64 8))⟩, ⟨some 7, none, .mov (.t 28)⟩])))
def L48_0 : C := .loop (some [0, 6, 7]) B48_0
theorem L48_0_eq {E : Env} (x : St) : ev E L48_0 x = andThen (ev E B48_0 (restr (some [0, 6, 7]) x)) (ev E L48_0) := ev_loop _ _ x
def I48 : Fn_ := ⟨2, 37, [(4, none), (5, none)],
  (.seq (.ops [⟨some 4, none, .mov (.c (.rs false 1 []))⟩, ⟨some 5, none, .mov (.c (.int .i64 0))⟩])
  (.seq (.seq (.ops [⟨some 8, none, .mov (.t 1)⟩, ⟨some 9, none, .callF false 45 [(.t 8)]⟩, ⟨some 10, none, .un .not (.t 9)⟩, ⟨some 11, none, .mov (.t 10)⟩, ⟨some 12, (some (11, false)), .mov (.t 1)⟩, ⟨some 13, (some (11, false)), .bin .lss (.t 12) (.c (.int .i64 8))⟩, ⟨some 14, (some (11, false)), .mov (.t 13)⟩, ⟨some 15, (some (14, true)), .mov (.t 0)⟩, ⟨some 16, (some (14, true)), .mov (.t 1)⟩, ⟨some 17, (some (14, true)), .bin .mul (.c (.int .i64 8)) (.t 16)⟩, ⟨some 18, (some (14, true)), .bin .shr (.t 15) (.t 17)⟩, ⟨some 19, (some (14, true)), .bin .neq (.t 18) (.c (.int .u64 0))⟩, ⟨some 20, (some (11, false)), .pick (.t 14) (.t 19) (.c (.bool false))⟩, ⟨some 21, none, .pick (.t 11) (.c (.bool true)) (.t 20)⟩])
  (.cond (.t 21)
  (.seq (.ops [⟨some 4, none, .mov (.c (.rs false 1 []))⟩, ⟨some 5, none, .mov (.c (.int .i64 11))⟩])
  .ret)
  .skip))
  (.seq (.ops [⟨some 6, none, .nilrow 1 5⟩])
  (.seq (.seq (.ops [⟨some 22, none, .mov (.t 1)⟩, ⟨some 23, none, .bin .sub (.t 22) (.c (.int .i64 1))⟩, ⟨some 24, none, .bin .mul (.c (.int .i64 8)) (.t 23)⟩, ⟨some 7, none, .mov (.t 24)⟩])
  (.block 0 (some [0, 6, 7]) L48_0))
  (.seq (.ops [⟨some 36, none, .mov (.t 6)⟩, ⟨some 4, none, .mov (.t 36)⟩, ⟨some 5, none, .mov (.c (.int .i64 0))⟩])
  .ret)))))⟩
/- vizard/vizardref01.bytes -/
def B49_0 : C := (.seq (.seq (.ops [⟨some 12, none, .mov (.t 7)⟩, ⟨some 13, none, .bin .geq (.t 12) (.c (.int .i64 0))⟩])
  (.cond (.t 13)
  .skip
  (.exit 0)))
  (.seq (.block 1 (some [0, 6, 7]) (.seq (.ops [⟨some 16, none, .mov (.t 6)⟩, ⟨some 17, none, .mov (.t 7)⟩, ⟨some 18, none, .mov (.t 0)⟩, ⟨some 19, none, .bin .rem (.t 18) (.c (.int .u64 256))⟩, ⟨some 20, none, .conv .u8 (.t 19)⟩, ⟨some 21, none, .iaddr 1 (.t 16) (.t 17)⟩, ⟨none, none, .store 1 (.t 21) (.t 20)⟩])
  (.ops [⟨some 22, none, .mov (.t 0)⟩, ⟨some 23, none, .bin .quo (.t 22) (.c (.int .u64 256))⟩, ⟨some 0, none, .mov (.t 23)⟩])))
  (.ops [⟨some 14, none, .mov (.t 7)⟩, ⟨some 15, none, .bin .sub (.t 14) (.c (.int .i64 1))⟩, ⟨some 7, none, .mov (.t 15)⟩])))
def L49_0 : C := .loop (some [0, 6, 7]) B49_0
theorem L49_0_eq {E : Env} (x : St) : ev E L49_0 x = andThen (ev E B49_0 (restr (some [0, 6, 7]) x)) (ev E L49_0) := ev_loop _ _ x
def I49 : Fn_ := ⟨2, 27, [(4, none), (5, none)],
  (.seq (.ops [⟨some 4, none, .mov (.c (.rs false 1 []))⟩, ⟨some 5, none, .mov (.c (.bool false))⟩])
  (.seq (.ops [⟨some 8, none, .mov (.t 1)⟩, ⟨some 9, none, .mkSl 1 1 5 [(.int .u8 0)] (.t 8)⟩, ⟨some 6, none, .mov (.t 9)⟩])
  (.seq (.seq (.ops [⟨some 10, none, .mov (.t 1)⟩, ⟨some 11, none, .bin .sub (.t 10) (.c (.int .i64 1))⟩, ⟨some 7, none, .mov (.t 11)⟩])
  (.block 0 (some [0, 6, 7]) L49_0))
  (.seq (.ops [⟨some 24, none, .mov (.t 6)⟩, ⟨some 25, none, .mov (.t 0)⟩, ⟨some 26, none, .bin .eql (.t 25) (.c (.int .u64 0))⟩, ⟨some 4, none, .mov (.t 24)⟩, ⟨some 5, none, .mov (.t 26)⟩])
  .ret))))⟩

def fns : FuncId → Option Fn_
  | 2 => some I2
  | 3 => some I3
  | 4 => some I4
  | 5 => some I5
  | 6 => some I6
  | 7 => some I7
  | 8 => some I8
  | 9 => some I9
  | 10 => some I10
  | 11 => some I11
  | 12 => some I12
  | 13 => some I13
  | 14 => some I14
  | 15 => some I15
  | 16 => some I16
  | 17 => some I17
  | 18 => some I18
  | 19 => some I19
  | 20 => some I20
  | 21 => some I21
  | 23 => some I23
  | 24 => some I24
  | 25 => some I25
  | 26 => some I26
  | 27 => some I27
  | 28 => some I28
  | 29 => some I29
  | 30 => some I30
  | 31 => some I31
  | 32 => some I32
  | 33 => some I33
  | 34 => some I34
  | 35 => some I35
  | 36 => some I36
  | 37 => some I37
  | 38 => some I38
  | 39 => some I39
  | 40 => some I40
  | 41 => some I41
  | 42 => some I42
  | 43 => some I43
  | 44 => some I44
  | 45 => some I45
  | 46 => some I46
  | 47 => some I47
  | 48 => some I48
  | 49 => some I49
  | _ => none

def keep : FuncId → Bool
  | 27 => true
  | 35 => true
  | 37 => true
  | 39 => true
  | 47 => true
  | 51 => true
  | _ => false

theorem chk2 : chkFn Try.prog Try.f2 I2 = true := by kernel_rfl
theorem chk3 : chkFn Try.prog Try.f3 I3 = true := by kernel_rfl
theorem chk4 : chkFn Try.prog Try.f4 I4 = true := by kernel_rfl
theorem chk5 : chkFn Try.prog Try.f5 I5 = true := by kernel_rfl
theorem chk6 : chkFn Try.prog Try.f6 I6 = true := by kernel_rfl
theorem chk7 : chkFn Try.prog Try.f7 I7 = true := by kernel_rfl
theorem chk8 : chkFn Try.prog Try.f8 I8 = true := by kernel_rfl
theorem chk9 : chkFn Try.prog Try.f9 I9 = true := by kernel_rfl
theorem chk10 : chkFn Try.prog Try.f10 I10 = true := by kernel_rfl
theorem chk11 : chkFn Try.prog Try.f11 I11 = true := by kernel_rfl
theorem chk12 : chkFn Try.prog Try.f12 I12 = true := by kernel_rfl
theorem chk13 : chkFn Try.prog Try.f13 I13 = true := by kernel_rfl
theorem chk14 : chkFn Try.prog Try.f14 I14 = true := by kernel_rfl
theorem chk15 : chkFn Try.prog Try.f15 I15 = true := by kernel_rfl
theorem chk16 : chkFn Try.prog Try.f16 I16 = true := by kernel_rfl
theorem chk17 : chkFn Try.prog Try.f17 I17 = true := by kernel_rfl
theorem chk18 : chkFn Try.prog Try.f18 I18 = true := by kernel_rfl
theorem chk19 : chkFn Try.prog Try.f19 I19 = true := by kernel_rfl
theorem chk20 : chkFn Try.prog Try.f20 I20 = true := by kernel_rfl
theorem chk21 : chkFn Try.prog Try.f21 I21 = true := by kernel_rfl
theorem chk23 : chkFn Try.prog Try.f23 I23 = true := by kernel_rfl
theorem chk24 : chkFn Try.prog Try.f24 I24 = true := by kernel_rfl
theorem chk25 : chkFn Try.prog Try.f25 I25 = true := by kernel_rfl
theorem chk26 : chkFn Try.prog Try.f26 I26 = true := by kernel_rfl
theorem chk27 : chkFn Try.prog Try.f27 I27 = true := by kernel_rfl
theorem chk28 : chkFn Try.prog Try.f28 I28 = true := by kernel_rfl
theorem chk29 : chkFn Try.prog Try.f29 I29 = true := by kernel_rfl
theorem chk30 : chkFn Try.prog Try.f30 I30 = true := by kernel_rfl
theorem chk31 : chkFn Try.prog Try.f31 I31 = true := by kernel_rfl
theorem chk32 : chkFn Try.prog Try.f32 I32 = true := by kernel_rfl
theorem chk33 : chkFn Try.prog Try.f33 I33 = true := by kernel_rfl
theorem chk34 : chkFn Try.prog Try.f34 I34 = true := by kernel_rfl
theorem chk35 : chkFn Try.prog Try.f35 I35 = true := by kernel_rfl
theorem chk36 : chkFn Try.prog Try.f36 I36 = true := by kernel_rfl
theorem chk37 : chkFn Try.prog Try.f37 I37 = true := by kernel_rfl
theorem chk38 : chkFn Try.prog Try.f38 I38 = true := by kernel_rfl
theorem chk39 : chkFn Try.prog Try.f39 I39 = true := by kernel_rfl
theorem chk40 : chkFn Try.prog Try.f40 I40 = true := by kernel_rfl
theorem chk41 : chkFn Try.prog Try.f41 I41 = true := by kernel_rfl
theorem chk42 : chkFn Try.prog Try.f42 I42 = true := by kernel_rfl
theorem chk43 : chkFn Try.prog Try.f43 I43 = true := by kernel_rfl
theorem chk44 : chkFn Try.prog Try.f44 I44 = true := by kernel_rfl
theorem chk45 : chkFn Try.prog Try.f45 I45 = true := by kernel_rfl
theorem chk46 : chkFn Try.prog Try.f46 I46 = true := by kernel_rfl
theorem chk47 : chkFn Try.prog Try.f47 I47 = true := by kernel_rfl
theorem chk48 : chkFn Try.prog Try.f48 I48 = true := by kernel_rfl
theorem chk49 : chkFn Try.prog Try.f49 I49 = true := by kernel_rfl

theorem fns_ok : ∀ f fn, fns f = some fn → ∃ func, Try.prog.funcs[f]? = some func ∧ chkFn Try.prog func fn = true := by
  intro f fn h
  unfold fns at h
  split at h
  · cases h; exact ⟨Try.f2, Try.func2, chk2⟩
  · cases h; exact ⟨Try.f3, Try.func3, chk3⟩
  · cases h; exact ⟨Try.f4, Try.func4, chk4⟩
  · cases h; exact ⟨Try.f5, Try.func5, chk5⟩
  · cases h; exact ⟨Try.f6, Try.func6, chk6⟩
  · cases h; exact ⟨Try.f7, Try.func7, chk7⟩
  · cases h; exact ⟨Try.f8, Try.func8, chk8⟩
  · cases h; exact ⟨Try.f9, Try.func9, chk9⟩
  · cases h; exact ⟨Try.f10, Try.func10, chk10⟩
  · cases h; exact ⟨Try.f11, Try.func11, chk11⟩
  · cases h; exact ⟨Try.f12, Try.func12, chk12⟩
  · cases h; exact ⟨Try.f13, Try.func13, chk13⟩
  · cases h; exact ⟨Try.f14, Try.func14, chk14⟩
  · cases h; exact ⟨Try.f15, Try.func15, chk15⟩
  · cases h; exact ⟨Try.f16, Try.func16, chk16⟩
  · cases h; exact ⟨Try.f17, Try.func17, chk17⟩
  · cases h; exact ⟨Try.f18, Try.func18, chk18⟩
  · cases h; exact ⟨Try.f19, Try.func19, chk19⟩
  · cases h; exact ⟨Try.f20, Try.func20, chk20⟩
  · cases h; exact ⟨Try.f21, Try.func21, chk21⟩
  · cases h; exact ⟨Try.f23, Try.func23, chk23⟩
  · cases h; exact ⟨Try.f24, Try.func24, chk24⟩
  · cases h; exact ⟨Try.f25, Try.func25, chk25⟩
  · cases h; exact ⟨Try.f26, Try.func26, chk26⟩
  · cases h; exact ⟨Try.f27, Try.func27, chk27⟩
  · cases h; exact ⟨Try.f28, Try.func28, chk28⟩
  · cases h; exact ⟨Try.f29, Try.func29, chk29⟩
  · cases h; exact ⟨Try.f30, Try.func30, chk30⟩
  · cases h; exact ⟨Try.f31, Try.func31, chk31⟩
  · cases h; exact ⟨Try.f32, Try.func32, chk32⟩
  · cases h; exact ⟨Try.f33, Try.func33, chk33⟩
  · cases h; exact ⟨Try.f34, Try.func34, chk34⟩
  · cases h; exact ⟨Try.f35, Try.func35, chk35⟩
  · cases h; exact ⟨Try.f36, Try.func36, chk36⟩
  · cases h; exact ⟨Try.f37, Try.func37, chk37⟩
  · cases h; exact ⟨Try.f38, Try.func38, chk38⟩
  · cases h; exact ⟨Try.f39, Try.func39, chk39⟩
  · cases h; exact ⟨Try.f40, Try.func40, chk40⟩
  · cases h; exact ⟨Try.f41, Try.func41, chk41⟩
  · cases h; exact ⟨Try.f42, Try.func42, chk42⟩
  · cases h; exact ⟨Try.f43, Try.func43, chk43⟩
  · cases h; exact ⟨Try.f44, Try.func44, chk44⟩
  · cases h; exact ⟨Try.f45, Try.func45, chk45⟩
  · cases h; exact ⟨Try.f46, Try.func46, chk46⟩
  · cases h; exact ⟨Try.f47, Try.func47, chk47⟩
  · cases h; exact ⟨Try.f48, Try.func48, chk48⟩
  · cases h; exact ⟨Try.f49, Try.func49, chk49⟩
  · cases h

end Go.Fw.Code_
