/-
  The code of the functions that are evaluated, by program (irgen.py) out of the print of the loaded functions; checked against them below. Conditions: none.
-/
import Derived.Test.YtbbkmdibmmcjnaaFwQ
import Derived.Test.YtbbkmdibmmcjnaaProg
import Derived.KernelRfl
set_option linter.unusedVariables false
set_option maxRecDepth 100000
namespace Go.Fw.Code_
open Go.Proofs

/-- vizard/vizardlaw16.RouteWays -/
def I3 : Fn_ := ⟨4, 96, [(8, none)],
  (.seq (.ops [⟨some 4, none, .box true 26 (.t 0)⟩, ⟨some 8, none, .mov (.c (.bool false))⟩])
  (.seq (.seq (.ops [⟨some 17, none, .callF false 7 []⟩, ⟨some 18, none, .un .not (.t 17)⟩])
  (.cond (.t 18)
  (.seq (.ops [⟨some 8, none, .mov (.c (.bool false))⟩])
  .ret)
  .skip))
  (.seq (.ops [⟨some 19, none, .load true 5 (.t 4)⟩, ⟨some 20, none, .callF false 8 [(.t 19)]⟩, ⟨some 9, none, .alloc true [(.int .u32 0), (.int .i64 0), (.int .u32 0), (.int .i64 0), (.int .u32 0)] 30⟩, ⟨none, none, .store 5 (.t 9) (.t 20)⟩])
  (.seq (.ops [⟨some 21, none, .load true 5 (.t 4)⟩, ⟨some 22, none, .mov (.t 1)⟩, ⟨some 23, none, .mov (.t 2)⟩, ⟨some 24, none, .mov (.t 3)⟩, ⟨some 25, none, .callF false 9 [(.t 21), (.t 22), (.t 23), (.t 24)]⟩, ⟨some 10, none, .alloc true [(.int .i64 0), (.int .i64 0), (.int .u32 0)] 33⟩, ⟨none, none, .store 3 (.t 10) (.t 25)⟩])
  (.seq (.ops [⟨some 26, none, .load true 5 (.t 9)⟩, ⟨some 27, none, .mov (.t 1)⟩, ⟨some 28, none, .mov (.t 2)⟩, ⟨some 29, none, .mov (.t 3)⟩, ⟨some 30, none, .callF false 10 [(.t 26), (.t 27), (.t 28), (.t 29)]⟩, ⟨some 11, none, .alloc true [(.int .i64 0), (.int .i64 0), (.int .u32 0)] 35⟩, ⟨none, none, .store 3 (.t 11) (.t 30)⟩])
  (.seq (.ops [⟨some 32, none, .load true 5 (.t 4)⟩, ⟨some 33, none, .mov (.t 3)⟩, ⟨some 34, none, .callF false 11 [(.t 32), (.t 33)]⟩, ⟨some 31, none, .mov (.t 34)⟩, ⟨some 35, none, .ext (.t 31) 0⟩, ⟨some 36, none, .ext (.t 31) 1⟩, ⟨some 12, none, .mov (.t 35)⟩, ⟨some 13, none, .mov (.t 36)⟩])
  (.seq (.ops [⟨some 38, none, .load true 5 (.t 9)⟩, ⟨some 39, none, .mov (.t 3)⟩, ⟨some 40, none, .callF false 12 [(.t 38), (.t 39)]⟩, ⟨some 37, none, .mov (.t 40)⟩, ⟨some 41, none, .ext (.t 37) 0⟩, ⟨some 42, none, .ext (.t 37) 1⟩, ⟨some 14, none, .mov (.t 41)⟩, ⟨some 15, none, .mov (.t 42)⟩])
  (.seq (.ops [⟨some 16, none, .mov (.c (.int .u32 0))⟩])
  (.seq (.seq (.ops [⟨some 43, none, .mov (.t 1)⟩, ⟨some 44, none, .bin .eql (.t 43) (.c (.int .i64 0))⟩])
  (.cond (.t 44)
  (.ops [⟨some 45, none, .faddr true 0 2 (.t 4)⟩, ⟨some 46, none, .faddr false 0 1 (.t 45)⟩, ⟨some 47, none, .load false 1 (.t 46)⟩, ⟨some 16, none, .mov (.t 47)⟩])
  .skip))
  (.seq (.seq (.ops [⟨some 48, none, .mov (.t 1)⟩, ⟨some 49, none, .bin .eql (.t 48) (.c (.int .i64 1))⟩])
  (.cond (.t 49)
  (.ops [⟨some 50, none, .faddr true 2 2 (.t 4)⟩, ⟨some 51, none, .faddr false 0 1 (.t 50)⟩, ⟨some 52, none, .load false 1 (.t 51)⟩, ⟨some 16, none, .mov (.t 52)⟩])
  .skip))
  (.seq (.ops [⟨some 53, none, .load true 5 (.t 4)⟩, ⟨some 54, none, .callF true 13 [(.t 53)]⟩, ⟨some 55, none, .load true 5 (.t 9)⟩, ⟨some 56, none, .callF true 14 [(.t 55)]⟩, ⟨some 57, none, .binB .eql (.t 54) (.t 56)⟩, ⟨some 58, none, .mov (.t 57)⟩, ⟨some 59, (some (58, true)), .faddr false 0 1 (.t 10)⟩, ⟨some 60, (some (58, true)), .load false 1 (.t 59)⟩, ⟨some 61, (some (58, true)), .faddr false 0 1 (.t 11)⟩, ⟨some 62, (some (58, true)), .load false 1 (.t 61)⟩, ⟨some 63, (some (58, true)), .bin .eql (.t 60) (.t 62)⟩, ⟨some 64, none, .pick (.t 58) (.t 63) (.c (.bool false))⟩, ⟨some 65, none, .mov (.t 64)⟩, ⟨some 66, (some (65, true)), .faddr false 1 1 (.t 10)⟩, ⟨some 67, (some (65, true)), .load false 1 (.t 66)⟩, ⟨some 68, (some (65, true)), .faddr false 1 1 (.t 11)⟩, ⟨some 69, (some (65, true)), .load false 1 (.t 68)⟩, ⟨some 70, (some (65, true)), .bin .eql (.t 67) (.t 69)⟩, ⟨some 71, none, .pick (.t 65) (.t 70) (.c (.bool false))⟩, ⟨some 72, none, .mov (.t 71)⟩, ⟨some 73, (some (72, true)), .faddr false 2 1 (.t 10)⟩, ⟨some 74, (some (72, true)), .load false 1 (.t 73)⟩, ⟨some 75, (some (72, true)), .faddr false 2 1 (.t 11)⟩, ⟨some 76, (some (72, true)), .load false 1 (.t 75)⟩, ⟨some 77, (some (72, true)), .bin .eql (.t 74) (.t 76)⟩, ⟨some 78, none, .pick (.t 72) (.t 77) (.c (.bool false))⟩, ⟨some 79, none, .mov (.t 78)⟩, ⟨some 80, (some (79, true)), .mov (.t 12)⟩, ⟨some 81, (some (79, true)), .mov (.t 14)⟩, ⟨some 82, (some (79, true)), .bin .eql (.t 80) (.t 81)⟩, ⟨some 83, none, .pick (.t 79) (.t 82) (.c (.bool false))⟩, ⟨some 84, none, .mov (.t 83)⟩, ⟨some 85, (some (84, true)), .mov (.t 13)⟩, ⟨some 86, (some (84, true)), .mov (.t 15)⟩, ⟨some 87, (some (84, true)), .binB .eql (.t 85) (.t 86)⟩, ⟨some 88, none, .pick (.t 84) (.t 87) (.c (.bool false))⟩, ⟨some 89, none, .mov (.t 88)⟩, ⟨some 90, (some (89, true)), .load true 5 (.t 4)⟩, ⟨some 91, (some (89, true)), .mov (.t 1)⟩, ⟨some 92, (some (89, true)), .callF true 15 [(.t 90), (.t 91)]⟩, ⟨some 93, (some (89, true)), .mov (.t 16)⟩, ⟨some 94, (some (89, true)), .bin .eql (.t 92) (.t 93)⟩, ⟨some 95, none, .pick (.t 89) (.t 94) (.c (.bool false))⟩, ⟨some 8, none, .mov (.t 95)⟩])
  .ret)))))))))))⟩
/-- vizard/vizardlaw16.RouteApart -/
def I4 : Fn_ := ⟨3, 142, [(6, none)],
  (.seq (.ops [⟨some 3, none, .box true 26 (.t 0)⟩, ⟨some 6, none, .mov (.c (.bool false))⟩])
  (.seq (.seq (.ops [⟨some 9, none, .callF false 7 []⟩, ⟨some 10, none, .un .not (.t 9)⟩])
  (.cond (.t 10)
  (.seq (.ops [⟨some 6, none, .mov (.c (.bool false))⟩])
  .ret)
  .skip))
  (.seq (.ops [⟨some 11, none, .load true 5 (.t 3)⟩, ⟨some 12, none, .mov (.t 1)⟩, ⟨some 13, none, .mov (.t 2)⟩, ⟨some 14, none, .callF false 9 [(.t 11), (.c (.int .i64 0)), (.t 12), (.t 13)]⟩, ⟨some 7, none, .alloc true [(.int .i64 0), (.int .i64 0), (.int .u32 0)] 33⟩, ⟨none, none, .store 3 (.t 7) (.t 14)⟩])
  (.seq (.ops [⟨some 15, none, .load true 5 (.t 3)⟩, ⟨some 16, none, .mov (.t 1)⟩, ⟨some 17, none, .mov (.t 2)⟩, ⟨some 18, none, .callF false 9 [(.t 15), (.c (.int .i64 1)), (.t 16), (.t 17)]⟩, ⟨some 8, none, .alloc true [(.int .i64 0), (.int .i64 0), (.int .u32 0)] 33⟩, ⟨none, none, .store 3 (.t 8) (.t 18)⟩])
  (.seq (.seq (.ops [⟨some 19, none, .load true 5 (.t 3)⟩, ⟨some 20, none, .callF false 13 [(.t 19)]⟩, ⟨some 21, none, .un .not (.t 20)⟩])
  (.cond (.t 21)
  (.seq (.ops [⟨some 22, none, .faddr false 0 1 (.t 7)⟩, ⟨some 23, none, .load false 1 (.t 22)⟩, ⟨some 24, none, .bin .eql (.t 23) (.c (.int .i64 0))⟩, ⟨some 25, none, .mov (.t 24)⟩, ⟨some 26, (some (25, true)), .faddr false 0 1 (.t 8)⟩, ⟨some 27, (some (25, true)), .load false 1 (.t 26)⟩, ⟨some 28, (some (25, true)), .bin .eql (.t 27) (.c (.int .i64 0))⟩, ⟨some 29, none, .pick (.t 25) (.t 28) (.c (.bool false))⟩, ⟨some 30, none, .mov (.t 29)⟩, ⟨some 31, (some (30, true)), .faddr false 1 1 (.t 7)⟩, ⟨some 32, (some (30, true)), .load false 1 (.t 31)⟩, ⟨some 33, (some (30, true)), .bin .eql (.t 32) (.c (.int .i64 7))⟩, ⟨some 34, none, .pick (.t 30) (.t 33) (.c (.bool false))⟩, ⟨some 6, none, .mov (.t 34)⟩])
  .ret)
  .skip))
  (.seq (.seq (.ops [⟨some 35, none, .faddr false 0 1 (.t 7)⟩, ⟨some 36, none, .load false 1 (.t 35)⟩])
  (.block 0 (some [1, 2, 3, 7, 8, 36]) (.seq (.ops [⟨some 38, none, .bin .eql (.t 36) (.c (.int .i64 3))⟩, ⟨some 37, none, .mov (.t 38)⟩])
  (.cond (.t 37)
  (.seq (.ops [⟨some 39, none, .faddr true 2 2 (.t 3)⟩, ⟨some 40, none, .load true 2 (.t 39)⟩, ⟨some 41, none, .faddr false 2 1 (.t 7)⟩, ⟨some 42, none, .load false 1 (.t 41)⟩, ⟨some 43, none, .callF false 16 [(.t 40), (.t 42)]⟩, ⟨some 44, none, .un .not (.t 43)⟩, ⟨some 45, none, .mov (.t 44)⟩, ⟨some 46, (some (45, false)), .faddr false 2 1 (.t 7)⟩, ⟨some 47, (some (45, false)), .load false 1 (.t 46)⟩, ⟨some 48, (some (45, false)), .faddr true 2 2 (.t 3)⟩, ⟨some 49, (some (45, false)), .faddr false 0 1 (.t 48)⟩, ⟨some 50, (some (45, false)), .load false 1 (.t 49)⟩, ⟨some 51, (some (45, false)), .bin .eql (.t 47) (.t 50)⟩, ⟨some 52, none, .pick (.t 45) (.c (.bool true)) (.t 51)⟩, ⟨some 53, none, .mov (.t 52)⟩, ⟨some 54, (some (53, false)), .faddr true 0 2 (.t 3)⟩, ⟨some 55, (some (53, false)), .load true 2 (.t 54)⟩, ⟨some 56, (some (53, false)), .mov (.t 2)⟩, ⟨some 57, (some (53, false)), .callF false 17 [(.t 55), (.t 56)]⟩, ⟨some 58, none, .pick (.t 53) (.c (.bool true)) (.t 57)⟩, ⟨some 59, none, .mov (.t 58)⟩, ⟨some 60, (some (59, false)), .mov (.t 2)⟩, ⟨some 61, (some (59, false)), .faddr true 2 2 (.t 3)⟩, ⟨some 62, (some (59, false)), .faddr false 0 1 (.t 61)⟩, ⟨some 63, (some (59, false)), .load false 1 (.t 62)⟩, ⟨some 64, (some (59, false)), .bin .eql (.t 60) (.t 63)⟩, ⟨some 65, none, .pick (.t 59) (.c (.bool true)) (.t 64)⟩, ⟨some 66, none, .mov (.t 65)⟩, ⟨some 67, (some (66, false)), .faddr true 0 2 (.t 3)⟩, ⟨some 68, (some (66, false)), .load true 2 (.t 67)⟩, ⟨some 69, (some (66, false)), .mov (.t 1)⟩, ⟨some 70, (some (66, false)), .callF false 16 [(.t 68), (.t 69)]⟩, ⟨some 71, (some (66, false)), .un .not (.t 70)⟩, ⟨some 72, none, .pick (.t 66) (.c (.bool true)) (.t 71)⟩, ⟨some 73, none, .mov (.t 72)⟩, ⟨some 74, (some (73, false)), .mov (.t 1)⟩, ⟨some 75, (some (73, false)), .faddr true 0 2 (.t 3)⟩, ⟨some 76, (some (73, false)), .faddr false 0 1 (.t 75)⟩, ⟨some 77, (some (73, false)), .load false 1 (.t 76)⟩, ⟨some 78, (some (73, false)), .bin .eql (.t 74) (.t 77)⟩, ⟨some 79, none, .pick (.t 73) (.c (.bool true)) (.t 78)⟩, ⟨some 80, none, .mov (.t 79)⟩, ⟨some 81, (some (80, false)), .mov (.t 2)⟩, ⟨some 82, (some (80, false)), .callF false 18 [(.t 81)]⟩, ⟨some 83, (some (80, false)), .un .not (.t 82)⟩, ⟨some 84, none, .pick (.t 80) (.c (.bool true)) (.t 83)⟩])
  (.cond (.t 84)
  (.seq (.ops [⟨some 6, none, .mov (.c (.bool false))⟩])
  .ret)
  .skip))
  (.seq (.ops [⟨some 86, none, .bin .eql (.t 36) (.c (.int .i64 2))⟩, ⟨some 85, none, .mov (.t 86)⟩])
  (.cond (.t 85)
  (.seq (.ops [⟨some 87, none, .mov (.t 2)⟩, ⟨some 88, none, .faddr true 2 2 (.t 3)⟩, ⟨some 89, none, .faddr false 0 1 (.t 88)⟩, ⟨some 90, none, .load false 1 (.t 89)⟩, ⟨some 91, none, .bin .neq (.t 87) (.t 90)⟩, ⟨some 92, none, .mov (.t 91)⟩, ⟨some 93, (some (92, false)), .faddr true 0 2 (.t 3)⟩, ⟨some 94, (some (92, false)), .load true 2 (.t 93)⟩, ⟨some 95, (some (92, false)), .mov (.t 1)⟩, ⟨some 96, (some (92, false)), .callF false 16 [(.t 94), (.t 95)]⟩, ⟨some 97, (some (92, false)), .un .not (.t 96)⟩, ⟨some 98, none, .pick (.t 92) (.c (.bool true)) (.t 97)⟩])
  (.cond (.t 98)
  (.seq (.ops [⟨some 6, none, .mov (.c (.bool false))⟩])
  .ret)
  .skip))
  (.seq (.ops [⟨some 100, none, .bin .eql (.t 36) (.c (.int .i64 1))⟩, ⟨some 99, none, .mov (.t 100)⟩])
  (.cond (.t 99)
  (.seq (.ops [⟨some 101, none, .mov (.t 2)⟩, ⟨some 102, none, .faddr true 0 2 (.t 3)⟩, ⟨some 103, none, .faddr false 0 1 (.t 102)⟩, ⟨some 104, none, .load false 1 (.t 103)⟩, ⟨some 105, none, .bin .neq (.t 101) (.t 104)⟩, ⟨some 106, none, .mov (.t 105)⟩, ⟨some 107, (some (106, true)), .mov (.t 2)⟩, ⟨some 108, (some (106, true)), .bin .neq (.t 107) (.c (.int .u32 4294967295))⟩, ⟨some 109, none, .pick (.t 106) (.t 108) (.c (.bool false))⟩])
  (.cond (.t 109)
  (.seq (.ops [⟨some 6, none, .mov (.c (.bool false))⟩])
  .ret)
  .skip))
  (.seq (.ops [⟨some 111, none, .bin .eql (.t 36) (.c (.int .i64 0))⟩, ⟨some 110, none, .mov (.t 111)⟩])
  (.cond (.t 110)
  (.seq (.ops [⟨some 112, none, .faddr false 1 1 (.t 7)⟩, ⟨some 113, none, .load false 1 (.t 112)⟩, ⟨some 114, none, .bin .eql (.t 113) (.c (.int .i64 0))⟩])
  (.cond (.t 114)
  (.seq (.ops [⟨some 6, none, .mov (.c (.bool false))⟩])
  .ret)
  .skip))
  (.seq (.ops [⟨some 6, none, .mov (.c (.bool false))⟩])
  .ret)))))))))))
  (.seq (.seq (.ops [⟨some 115, none, .faddr false 0 1 (.t 8)⟩, ⟨some 116, none, .load false 1 (.t 115)⟩, ⟨some 117, none, .bin .eql (.t 116) (.c (.int .i64 4))⟩])
  (.cond (.t 117)
  (.seq (.ops [⟨some 118, none, .mov (.t 2)⟩, ⟨some 119, none, .faddr true 2 2 (.t 3)⟩, ⟨some 120, none, .faddr false 0 1 (.t 119)⟩, ⟨some 121, none, .load false 1 (.t 120)⟩, ⟨some 122, none, .bin .eql (.t 118) (.t 121)⟩, ⟨some 123, none, .mov (.t 122)⟩, ⟨some 124, (some (123, true)), .faddr true 0 2 (.t 3)⟩, ⟨some 125, (some (123, true)), .load true 2 (.t 124)⟩, ⟨some 126, (some (123, true)), .mov (.t 1)⟩, ⟨some 127, (some (123, true)), .callF false 17 [(.t 125), (.t 126)]⟩, ⟨some 128, (some (123, true)), .un .not (.t 127)⟩, ⟨some 129, none, .pick (.t 123) (.t 128) (.c (.bool false))⟩, ⟨some 130, none, .mov (.t 129)⟩, ⟨some 131, (some (130, true)), .mov (.t 1)⟩, ⟨some 132, (some (130, true)), .callF false 18 [(.t 131)]⟩, ⟨some 133, none, .pick (.t 130) (.t 132) (.c (.bool false))⟩, ⟨some 6, none, .mov (.t 133)⟩])
  .ret)
  .skip))
  (.seq (.ops [⟨some 134, none, .faddr false 0 1 (.t 8)⟩, ⟨some 135, none, .load false 1 (.t 134)⟩, ⟨some 136, none, .bin .eql (.t 135) (.c (.int .i64 0))⟩, ⟨some 137, none, .mov (.t 136)⟩, ⟨some 138, (some (137, true)), .faddr false 1 1 (.t 8)⟩, ⟨some 139, (some (137, true)), .load false 1 (.t 138)⟩, ⟨some 140, (some (137, true)), .bin .eql (.t 139) (.c (.int .i64 15))⟩, ⟨some 141, none, .pick (.t 137) (.t 140) (.c (.bool false))⟩, ⟨some 6, none, .mov (.t 141)⟩])
  .ret))))))))⟩
/-- vizard/vizardlaw16.RouteSides -/
def I5 : Fn_ := ⟨3, 107, [(6, none)],
  (.seq (.ops [⟨some 3, none, .box true 26 (.t 0)⟩, ⟨some 6, none, .mov (.c (.bool false))⟩])
  (.seq (.seq (.ops [⟨some 15, none, .callF false 7 []⟩, ⟨some 16, none, .un .not (.t 15)⟩])
  (.cond (.t 16)
  (.seq (.ops [⟨some 6, none, .mov (.c (.bool false))⟩])
  .ret)
  .skip))
  (.seq (.ops [⟨some 18, none, .load true 5 (.t 3)⟩, ⟨some 19, none, .mov (.t 2)⟩, ⟨some 20, none, .callF false 11 [(.t 18), (.t 19)]⟩, ⟨some 17, none, .mov (.t 20)⟩, ⟨some 21, none, .ext (.t 17) 0⟩, ⟨some 22, none, .ext (.t 17) 1⟩, ⟨some 7, none, .mov (.t 21)⟩, ⟨some 8, none, .mov (.t 22)⟩])
  (.seq (.seq (.ops [⟨some 23, none, .load true 5 (.t 3)⟩, ⟨some 24, none, .callF false 13 [(.t 23)]⟩, ⟨some 25, none, .un .not (.t 24)⟩])
  (.cond (.t 25)
  (.seq (.ops [⟨some 26, none, .mov (.t 8)⟩, ⟨some 27, none, .un .not (.t 26)⟩, ⟨some 28, none, .mov (.t 27)⟩, ⟨some 29, (some (28, true)), .mov (.t 7)⟩, ⟨some 30, (some (28, true)), .bin .eql (.t 29) (.c (.int .i64 0))⟩, ⟨some 31, none, .pick (.t 28) (.t 30) (.c (.bool false))⟩, ⟨some 6, none, .mov (.t 31)⟩])
  .ret)
  .skip))
  (.seq (.seq (.ops [⟨some 32, none, .mov (.t 8)⟩, ⟨some 33, none, .mov (.t 32)⟩, ⟨some 34, (some (33, true)), .mov (.t 7)⟩, ⟨some 35, (some (33, true)), .bin .eql (.t 34) (.c (.int .i64 0))⟩, ⟨some 36, (some (33, true)), .faddr true 0 2 (.t 3)⟩, ⟨some 37, (some (33, true)), .load true 2 (.t 36)⟩, ⟨some 38, (some (33, true)), .mov (.t 2)⟩, ⟨some 39, (some (33, true)), .callF false 17 [(.t 37), (.t 38)]⟩, ⟨some 40, (some (33, true)), .binB .neq (.t 35) (.t 39)⟩, ⟨some 41, none, .pick (.t 33) (.t 40) (.c (.bool false))⟩, ⟨some 42, none, .mov (.t 41)⟩, ⟨some 43, (some (42, false)), .mov (.t 8)⟩, ⟨some 44, (some (42, false)), .un .not (.t 43)⟩, ⟨some 45, (some (42, false)), .mov (.t 44)⟩, ⟨some 46, (some (45, true)), .faddr true 0 2 (.t 3)⟩, ⟨some 47, (some (45, true)), .load true 2 (.t 46)⟩, ⟨some 48, (some (45, true)), .mov (.t 2)⟩, ⟨some 49, (some (45, true)), .callF false 17 [(.t 47), (.t 48)]⟩, ⟨some 50, (some (45, true)), .mov (.t 49)⟩, ⟨some 51, (some (50, false)), .faddr true 2 2 (.t 3)⟩, ⟨some 52, (some (50, false)), .load true 2 (.t 51)⟩, ⟨some 53, (some (50, false)), .mov (.t 2)⟩, ⟨some 54, (some (50, false)), .callF false 17 [(.t 52), (.t 53)]⟩, ⟨some 55, (some (45, true)), .pick (.t 50) (.c (.bool true)) (.t 54)⟩, ⟨some 56, (some (42, false)), .pick (.t 45) (.t 55) (.c (.bool false))⟩, ⟨some 57, none, .pick (.t 42) (.c (.bool true)) (.t 56)⟩])
  (.cond (.t 57)
  (.seq (.ops [⟨some 6, none, .mov (.c (.bool false))⟩])
  .ret)
  .skip))
  (.seq (.ops [⟨some 59, none, .load true 5 (.t 3)⟩, ⟨some 60, none, .load true 5 (.t 3)⟩, ⟨some 61, none, .callF true 15 [(.t 60), (.c (.int .i64 0))]⟩, ⟨some 62, none, .callF true 11 [(.t 59), (.t 61)]⟩, ⟨some 58, none, .mov (.t 62)⟩, ⟨some 63, none, .ext (.t 58) 0⟩, ⟨some 64, none, .ext (.t 58) 1⟩, ⟨some 9, none, .mov (.t 63)⟩, ⟨some 10, none, .mov (.t 64)⟩])
  (.seq (.ops [⟨some 66, none, .load true 5 (.t 3)⟩, ⟨some 67, none, .load true 5 (.t 3)⟩, ⟨some 68, none, .callF true 15 [(.t 67), (.c (.int .i64 1))]⟩, ⟨some 69, none, .callF true 11 [(.t 66), (.t 68)]⟩, ⟨some 65, none, .mov (.t 69)⟩, ⟨some 70, none, .ext (.t 65) 0⟩, ⟨some 71, none, .ext (.t 65) 1⟩, ⟨some 11, none, .mov (.t 70)⟩, ⟨some 12, none, .mov (.t 71)⟩])
  (.seq (.seq (.ops [⟨some 72, none, .mov (.t 10)⟩, ⟨some 73, none, .un .not (.t 72)⟩, ⟨some 74, none, .mov (.t 73)⟩, ⟨some 75, (some (74, false)), .mov (.t 12)⟩, ⟨some 76, (some (74, false)), .un .not (.t 75)⟩, ⟨some 77, none, .pick (.t 74) (.c (.bool true)) (.t 76)⟩, ⟨some 78, none, .mov (.t 77)⟩, ⟨some 79, (some (78, false)), .mov (.t 9)⟩, ⟨some 80, (some (78, false)), .bin .neq (.t 79) (.c (.int .i64 0))⟩, ⟨some 81, none, .pick (.t 78) (.c (.bool true)) (.t 80)⟩, ⟨some 82, none, .mov (.t 81)⟩, ⟨some 83, (some (82, false)), .mov (.t 11)⟩, ⟨some 84, (some (82, false)), .bin .neq (.t 83) (.c (.int .i64 1))⟩, ⟨some 85, none, .pick (.t 82) (.c (.bool true)) (.t 84)⟩])
  (.cond (.t 85)
  (.seq (.ops [⟨some 6, none, .mov (.c (.bool false))⟩])
  .ret)
  .skip))
  (.seq (.ops [⟨some 86, none, .load true 5 (.t 3)⟩, ⟨some 13, none, .alloc true [(.int .u32 0), (.int .i64 0), (.int .u32 0), (.int .i64 0), (.int .u32 0)] 26⟩, ⟨none, none, .store 5 (.t 13) (.t 86)⟩])
  (.seq (.ops [⟨some 87, none, .faddr false 4 1 (.t 13)⟩, ⟨none, none, .store 1 (.t 87) (.c (.int .u32 0))⟩])
  (.seq (.ops [⟨some 88, none, .load true 5 (.t 13)⟩, ⟨some 89, none, .mov (.t 1)⟩, ⟨some 90, none, .mov (.t 2)⟩, ⟨some 91, none, .callF false 9 [(.t 88), (.c (.int .i64 0)), (.t 89), (.t 90)]⟩, ⟨some 14, none, .alloc true [(.int .i64 0), (.int .i64 0), (.int .u32 0)] 33⟩, ⟨none, none, .store 3 (.t 14) (.t 91)⟩])
  (.seq (.ops [⟨some 92, none, .faddr false 0 1 (.t 14)⟩, ⟨some 93, none, .load false 1 (.t 92)⟩, ⟨some 94, none, .bin .neq (.t 93) (.c (.int .i64 3))⟩, ⟨some 95, none, .mov (.t 94)⟩, ⟨some 96, (some (95, false)), .faddr true 2 2 (.t 3)⟩, ⟨some 97, (some (95, false)), .load true 2 (.t 96)⟩, ⟨some 98, (some (95, false)), .mov (.t 2)⟩, ⟨some 99, (some (95, false)), .callF false 16 [(.t 97), (.t 98)]⟩, ⟨some 100, (some (95, false)), .mov (.t 99)⟩, ⟨some 101, (some (100, true)), .faddr false 2 1 (.t 14)⟩, ⟨some 102, (some (100, true)), .load false 1 (.t 101)⟩, ⟨some 103, (some (100, true)), .mov (.t 2)⟩, ⟨some 104, (some (100, true)), .bin .eql (.t 102) (.t 103)⟩, ⟨some 105, (some (95, false)), .pick (.t 100) (.t 104) (.c (.bool false))⟩, ⟨some 106, none, .pick (.t 95) (.c (.bool true)) (.t 105)⟩, ⟨some 6, none, .mov (.t 106)⟩])
  .ret))))))))))))⟩
/-- vizard/vizardlaw16.RouteNext -/
def I6 : Fn_ := ⟨4, 95, [(8, none)],
  (.seq (.ops [⟨some 4, none, .box true 26 (.t 0)⟩, ⟨some 8, none, .mov (.c (.bool false))⟩])
  (.seq (.seq (.ops [⟨some 13, none, .callF false 7 []⟩, ⟨some 14, none, .un .not (.t 13)⟩])
  (.cond (.t 14)
  (.seq (.ops [⟨some 8, none, .mov (.c (.bool false))⟩])
  .ret)
  .skip))
  (.seq (.ops [⟨some 15, none, .load true 5 (.t 4)⟩, ⟨some 16, none, .mov (.t 1)⟩, ⟨some 17, none, .mov (.t 3)⟩, ⟨some 18, none, .callF false 9 [(.t 15), (.c (.int .i64 0)), (.t 16), (.t 17)]⟩, ⟨some 9, none, .alloc true [(.int .i64 0), (.int .i64 0), (.int .u32 0)] 33⟩, ⟨none, none, .store 3 (.t 9) (.t 18)⟩])
  (.seq (.ops [⟨some 19, none, .load true 5 (.t 4)⟩, ⟨some 20, none, .mov (.t 2)⟩, ⟨some 21, none, .mov (.t 3)⟩, ⟨some 22, none, .callF false 9 [(.t 19), (.c (.int .i64 0)), (.t 20), (.t 21)]⟩, ⟨some 10, none, .alloc true [(.int .i64 0), (.int .i64 0), (.int .u32 0)] 33⟩, ⟨none, none, .store 3 (.t 10) (.t 22)⟩])
  (.seq (.ops [⟨some 23, none, .faddr true 0 2 (.t 4)⟩, ⟨some 24, none, .load true 2 (.t 23)⟩, ⟨some 25, none, .mov (.t 1)⟩, ⟨some 26, none, .callF false 16 [(.t 24), (.t 25)]⟩, ⟨some 27, none, .mov (.t 26)⟩, ⟨some 28, (some (27, true)), .faddr true 0 2 (.t 4)⟩, ⟨some 29, (some (27, true)), .load true 2 (.t 28)⟩, ⟨some 30, (some (27, true)), .mov (.t 2)⟩, ⟨some 31, (some (27, true)), .callF false 16 [(.t 29), (.t 30)]⟩, ⟨some 32, none, .pick (.t 27) (.t 31) (.c (.bool false))⟩, ⟨some 33, none, .mov (.t 32)⟩, ⟨some 34, (some (33, true)), .mov (.t 1)⟩, ⟨some 35, (some (33, true)), .faddr true 0 2 (.t 4)⟩, ⟨some 36, (some (33, true)), .faddr false 0 1 (.t 35)⟩, ⟨some 37, (some (33, true)), .load false 1 (.t 36)⟩, ⟨some 38, (some (33, true)), .bin .neq (.t 34) (.t 37)⟩, ⟨some 39, none, .pick (.t 33) (.t 38) (.c (.bool false))⟩, ⟨some 40, none, .mov (.t 39)⟩, ⟨some 41, (some (40, true)), .mov (.t 2)⟩, ⟨some 42, (some (40, true)), .faddr true 0 2 (.t 4)⟩, ⟨some 43, (some (40, true)), .faddr false 0 1 (.t 42)⟩, ⟨some 44, (some (40, true)), .load false 1 (.t 43)⟩, ⟨some 45, (some (40, true)), .bin .neq (.t 41) (.t 44)⟩, ⟨some 46, none, .pick (.t 40) (.t 45) (.c (.bool false))⟩, ⟨some 11, none, .mov (.t 46)⟩])
  (.seq (.seq (.ops [⟨some 47, none, .load true 5 (.t 4)⟩, ⟨some 48, none, .callF false 13 [(.t 47)]⟩, ⟨some 49, none, .mov (.t 48)⟩, ⟨some 50, (some (49, true)), .mov (.t 11)⟩, ⟨some 51, none, .pick (.t 49) (.t 50) (.c (.bool false))⟩, ⟨some 52, none, .mov (.t 51)⟩, ⟨some 53, (some (52, true)), .load true 3 (.t 9)⟩, ⟨some 54, (some (52, true)), .load true 3 (.t 10)⟩, ⟨some 55, (some (52, true)), .eqS true [1, 1, 1] (.t 53) (.t 54)⟩, ⟨some 56, none, .pick (.t 52) (.t 55) (.c (.bool false))⟩])
  (.cond (.t 56)
  (.seq (.ops [⟨some 8, none, .mov (.c (.bool false))⟩])
  .ret)
  .skip))
  (.seq (.seq (.ops [⟨some 57, none, .faddr false 0 1 (.t 9)⟩, ⟨some 58, none, .load false 1 (.t 57)⟩, ⟨some 59, none, .bin .neq (.t 58) (.c (.int .i64 3))⟩])
  (.cond (.t 59)
  (.seq (.ops [⟨some 60, none, .faddr false 2 1 (.t 9)⟩, ⟨some 61, none, .load false 1 (.t 60)⟩, ⟨some 62, none, .bin .eql (.t 61) (.c (.int .u32 0))⟩, ⟨some 8, none, .mov (.t 62)⟩])
  .ret)
  .skip))
  (.seq (.ops [⟨some 63, none, .faddr true 2 2 (.t 4)⟩, ⟨some 64, none, .load true 2 (.t 63)⟩, ⟨some 65, none, .mov (.t 3)⟩, ⟨some 66, none, .callF false 16 [(.t 64), (.t 65)]⟩, ⟨some 12, none, .mov (.t 66)⟩])
  (.seq (.ops [⟨some 67, none, .faddr false 1 1 (.t 9)⟩, ⟨some 68, none, .load false 1 (.t 67)⟩, ⟨some 69, none, .bin .eql (.t 68) (.c (.int .i64 0))⟩, ⟨some 70, none, .mov (.t 69)⟩, ⟨some 71, (some (70, true)), .mov (.t 12)⟩, ⟨some 72, (some (70, true)), .mov (.t 71)⟩, ⟨some 73, (some (72, true)), .faddr false 2 1 (.t 9)⟩, ⟨some 74, (some (72, true)), .load false 1 (.t 73)⟩, ⟨some 75, (some (72, true)), .mov (.t 3)⟩, ⟨some 76, (some (72, true)), .bin .eql (.t 74) (.t 75)⟩, ⟨some 77, (some (70, true)), .pick (.t 72) (.t 76) (.c (.bool false))⟩, ⟨some 78, (some (70, true)), .mov (.t 77)⟩, ⟨some 79, (some (78, false)), .mov (.t 12)⟩, ⟨some 80, (some (78, false)), .un .not (.t 79)⟩, ⟨some 81, (some (78, false)), .mov (.t 80)⟩, ⟨some 82, (some (81, true)), .faddr false 2 1 (.t 9)⟩, ⟨some 83, (some (81, true)), .load false 1 (.t 82)⟩, ⟨some 84, (some (81, true)), .faddr false 4 1 (.t 4)⟩, ⟨some 85, (some (81, true)), .load false 1 (.t 84)⟩, ⟨some 86, (some (81, true)), .bin .eql (.t 83) (.t 85)⟩, ⟨some 87, (some (78, false)), .pick (.t 81) (.t 86) (.c (.bool false))⟩, ⟨some 88, (some (78, false)), .mov (.t 87)⟩, ⟨some 89, (some (88, true)), .faddr false 4 1 (.t 4)⟩, ⟨some 90, (some (88, true)), .load false 1 (.t 89)⟩, ⟨some 91, (some (88, true)), .bin .neq (.t 90) (.c (.int .u32 0))⟩, ⟨some 92, (some (78, false)), .pick (.t 88) (.t 91) (.c (.bool false))⟩, ⟨some 93, (some (70, true)), .pick (.t 78) (.c (.bool true)) (.t 92)⟩, ⟨some 94, none, .pick (.t 70) (.t 93) (.c (.bool false))⟩, ⟨some 8, none, .mov (.t 94)⟩])
  .ret)))))))))⟩
/-- vizard/vizardlaw16.alive -/
def I7 : Fn_ := ⟨0, 70, [(0, none)],
  (.seq (.ops [⟨some 0, none, .mov (.c (.bool false))⟩])
  (.seq (.ops [⟨some 6, none, .callF false 19 []⟩, ⟨some 1, none, .alloc true [(.int .u32 0), (.int .i64 0), (.int .u32 0), (.int .i64 0), (.int .u32 0)] 26⟩, ⟨none, none, .store 5 (.t 1) (.t 6)⟩])
  (.seq (.ops [⟨some 8, none, .load true 5 (.t 1)⟩, ⟨some 9, none, .callF false 11 [(.t 8), (.c (.int .u32 3221225991))]⟩, ⟨some 7, none, .mov (.t 9)⟩, ⟨some 10, none, .ext (.t 7) 0⟩, ⟨some 11, none, .ext (.t 7) 1⟩, ⟨some 2, none, .mov (.t 10)⟩, ⟨some 3, none, .mov (.t 11)⟩])
  (.seq (.ops [⟨some 13, none, .load true 5 (.t 1)⟩, ⟨some 14, none, .callF false 11 [(.t 13), (.c (.int .u32 3325256711))]⟩, ⟨some 12, none, .mov (.t 14)⟩, ⟨some 15, none, .ext (.t 12) 0⟩, ⟨some 16, none, .ext (.t 12) 1⟩, ⟨some 4, none, .mov (.t 15)⟩, ⟨some 5, none, .mov (.t 16)⟩])
  (.seq (.ops [⟨some 17, none, .load true 5 (.t 1)⟩, ⟨some 18, none, .callF false 13 [(.t 17)]⟩, ⟨some 19, none, .mov (.t 18)⟩, ⟨some 20, (some (19, true)), .load true 5 (.t 1)⟩, ⟨some 21, (some (19, true)), .callF false 9 [(.t 20), (.c (.int .i64 0)), (.c (.int .u32 167772162)), (.c (.int .u32 3325256711))]⟩, ⟨some 22, (some (19, true)), .build [(.int .i64 0), (.int .i64 0), (.int .u32 0)] [(0, 1, (.c (.int .i64 3))), (2, 1, (.c (.int .u32 3221226238)))]⟩, ⟨some 23, (some (19, true)), .eqS false [1, 1, 1] (.t 21) (.t 22)⟩, ⟨some 24, none, .pick (.t 19) (.t 23) (.c (.bool false))⟩, ⟨some 25, none, .mov (.t 24)⟩, ⟨some 26, (some (25, true)), .load true 5 (.t 1)⟩, ⟨some 27, (some (25, true)), .callF false 9 [(.t 26), (.c (.int .i64 0)), (.c (.int .u32 167772162)), (.c (.int .u32 3221225985))]⟩, ⟨some 28, (some (25, true)), .field false 0 1 (.t 27)⟩, ⟨some 29, (some (25, true)), .bin .eql (.t 28) (.c (.int .i64 2))⟩, ⟨some 30, none, .pick (.t 25) (.t 29) (.c (.bool false))⟩, ⟨some 31, none, .mov (.t 30)⟩, ⟨some 32, (some (31, true)), .load true 5 (.t 1)⟩, ⟨some 33, (some (31, true)), .callF false 9 [(.t 32), (.c (.int .i64 1)), (.c (.int .u32 3325256711)), (.c (.int .u32 3221225985))]⟩, ⟨some 34, (some (31, true)), .field false 0 1 (.t 33)⟩, ⟨some 35, (some (31, true)), .bin .eql (.t 34) (.c (.int .i64 4))⟩, ⟨some 36, none, .pick (.t 31) (.t 35) (.c (.bool false))⟩, ⟨some 37, none, .mov (.t 36)⟩, ⟨some 38, (some (37, true)), .load true 5 (.t 1)⟩, ⟨some 39, (some (37, true)), .callF false 9 [(.t 38), (.c (.int .i64 0)), (.c (.int .u32 0)), (.c (.int .u32 4294967295))]⟩, ⟨some 40, (some (37, true)), .field false 0 1 (.t 39)⟩, ⟨some 41, (some (37, true)), .bin .eql (.t 40) (.c (.int .i64 1))⟩, ⟨some 42, none, .pick (.t 37) (.t 41) (.c (.bool false))⟩, ⟨some 43, none, .mov (.t 42)⟩, ⟨some 44, (some (43, true)), .load true 5 (.t 1)⟩, ⟨some 45, (some (43, true)), .callF false 9 [(.t 44), (.c (.int .i64 0)), (.c (.int .u32 167772162)), (.c (.int .u32 167772163))]⟩, ⟨some 46, (some (43, true)), .field false 1 1 (.t 45)⟩, ⟨some 47, (some (43, true)), .bin .eql (.t 46) (.c (.int .i64 18))⟩, ⟨some 48, none, .pick (.t 43) (.t 47) (.c (.bool false))⟩, ⟨some 49, none, .mov (.t 48)⟩, ⟨some 50, (some (49, true)), .mov (.t 3)⟩, ⟨some 51, none, .pick (.t 49) (.t 50) (.c (.bool false))⟩, ⟨some 52, none, .mov (.t 51)⟩, ⟨some 53, (some (52, true)), .mov (.t 2)⟩, ⟨some 54, (some (52, true)), .bin .eql (.t 53) (.c (.int .i64 1))⟩, ⟨some 55, none, .pick (.t 52) (.t 54) (.c (.bool false))⟩, ⟨some 56, none, .mov (.t 55)⟩, ⟨some 57, (some (56, true)), .mov (.t 5)⟩, ⟨some 58, (some (56, true)), .un .not (.t 57)⟩, ⟨some 59, none, .pick (.t 56) (.t 58) (.c (.bool false))⟩, ⟨some 60, none, .mov (.t 59)⟩, ⟨some 61, (some (60, true)), .load true 5 (.t 1)⟩, ⟨some 62, (some (60, true)), .callF false 15 [(.t 61), (.c (.int .i64 0))]⟩, ⟨some 63, (some (60, true)), .bin .eql (.t 62) (.c (.int .u32 167772161))⟩, ⟨some 64, none, .pick (.t 60) (.t 63) (.c (.bool false))⟩, ⟨some 65, none, .mov (.t 64)⟩, ⟨some 66, (some (65, true)), .load true 5 (.t 1)⟩, ⟨some 67, (some (65, true)), .callF false 15 [(.t 66), (.c (.int .i64 2))]⟩, ⟨some 68, (some (65, true)), .bin .eql (.t 67) (.c (.int .u32 0))⟩, ⟨some 69, none, .pick (.t 65) (.t 68) (.c (.bool false))⟩, ⟨some 0, none, .mov (.t 69)⟩])
  .ret)))))⟩
/-- vizard/vizardlaw16.Of -/
def I8 : Fn_ := ⟨1, 12, [(2, some (true, 5))],
  (.seq (.ops [⟨some 1, none, .box true 26 (.t 0)⟩, ⟨some 2, none, .alloc true [(.int .u32 0), (.int .i64 0), (.int .u32 0), (.int .i64 0), (.int .u32 0)] 30⟩])
  (.seq (.ops [⟨some 3, none, .faddr true 0 2 (.t 1)⟩, ⟨some 4, none, .load true 2 (.t 3)⟩, ⟨some 5, none, .callF true 20 [(.t 4)]⟩, ⟨some 6, none, .faddr true 2 2 (.t 1)⟩, ⟨some 7, none, .load true 2 (.t 6)⟩, ⟨some 8, none, .callF true 20 [(.t 7)]⟩, ⟨some 9, none, .faddr false 4 1 (.t 1)⟩, ⟨some 10, none, .load false 1 (.t 9)⟩, ⟨some 11, none, .build [(.int .u32 0), (.int .i64 0), (.int .u32 0), (.int .i64 0), (.int .u32 0)] [(0, 2, (.t 5)), (2, 2, (.t 8)), (4, 1, (.t 10))]⟩, ⟨none, none, .store 5 (.t 2) (.t 11)⟩])
  .ret))⟩
/-- (vizard/route.Map).Way -/
def I9 : Fn_ := ⟨4, 80, [(8, some (true, 3))],
  (.seq (.ops [⟨some 4, none, .box true 26 (.t 0)⟩, ⟨some 8, none, .alloc true [(.int .i64 0), (.int .i64 0), (.int .u32 0)] 33⟩])
  (.seq (.ops [⟨some 10, none, .mov (.t 1)⟩, ⟨some 11, none, .bin .eql (.t 10) (.c (.int .i64 0))⟩, ⟨some 12, none, .mov (.t 11)⟩, ⟨some 13, (some (12, false)), .mov (.t 1)⟩, ⟨some 14, (some (12, false)), .bin .eql (.t 13) (.c (.int .i64 1))⟩, ⟨some 15, none, .pick (.t 12) (.c (.bool true)) (.t 14)⟩, ⟨some 9, none, .mov (.t 15)⟩])
  (.seq (.block 0 (some [1, 2, 3, 4, 8, 9]) (.seq (.ops [⟨some 17, none, .load true 5 (.t 4)⟩, ⟨some 18, none, .callF false 13 [(.t 17)]⟩, ⟨some 19, none, .un .not (.t 18)⟩, ⟨some 20, none, .mov (.t 19)⟩, ⟨some 21, (some (20, false)), .mov (.t 9)⟩, ⟨some 22, (some (20, false)), .un .not (.t 21)⟩, ⟨some 23, none, .pick (.t 20) (.c (.bool true)) (.t 22)⟩, ⟨some 16, none, .mov (.t 23)⟩])
  (.cond (.t 16)
  (.seq (.ops [⟨some 24, none, .callF false 21 [(.c (.int .i64 7))]⟩, ⟨none, none, .store 3 (.t 8) (.t 24)⟩])
  .ret)
  (.seq (.ops [⟨some 26, none, .mov (.t 1)⟩, ⟨some 27, none, .bin .eql (.t 26) (.c (.int .i64 1))⟩, ⟨some 28, none, .mov (.t 27)⟩, ⟨some 29, (some (28, true)), .load true 5 (.t 4)⟩, ⟨some 30, (some (28, true)), .mov (.t 2)⟩, ⟨some 31, (some (28, true)), .callF false 22 [(.t 29), (.t 30)]⟩, ⟨some 32, (some (28, true)), .un .not (.t 31)⟩, ⟨some 33, (some (28, true)), .mov (.t 32)⟩, ⟨some 34, (some (33, false)), .mov (.t 3)⟩, ⟨some 35, (some (33, false)), .faddr true 2 2 (.t 4)⟩, ⟨some 36, (some (33, false)), .faddr false 0 1 (.t 35)⟩, ⟨some 37, (some (33, false)), .load false 1 (.t 36)⟩, ⟨some 38, (some (33, false)), .bin .neq (.t 34) (.t 37)⟩, ⟨some 39, (some (28, true)), .pick (.t 33) (.c (.bool true)) (.t 38)⟩, ⟨some 40, none, .pick (.t 28) (.t 39) (.c (.bool false))⟩, ⟨some 25, none, .mov (.t 40)⟩])
  (.cond (.t 25)
  (.seq (.ops [⟨some 41, none, .callF false 21 [(.c (.int .i64 15))]⟩, ⟨none, none, .store 3 (.t 8) (.t 41)⟩])
  .ret)
  (.seq (.ops [⟨some 43, none, .mov (.t 1)⟩, ⟨some 44, none, .bin .eql (.t 43) (.c (.int .i64 1))⟩, ⟨some 42, none, .mov (.t 44)⟩])
  (.cond (.t 42)
  (.seq (.ops [⟨some 45, none, .build [(.int .i64 0), (.int .i64 0), (.int .u32 0)] [(0, 1, (.c (.int .i64 4)))]⟩, ⟨none, none, .store 3 (.t 8) (.t 45)⟩])
  .ret)
  (.seq (.ops [⟨some 47, none, .load true 5 (.t 4)⟩, ⟨some 48, none, .mov (.t 2)⟩, ⟨some 49, none, .mov (.t 3)⟩, ⟨some 50, none, .callF false 23 [(.t 47), (.t 48), (.t 49)]⟩, ⟨some 51, none, .un .not (.t 50)⟩, ⟨some 46, none, .mov (.t 51)⟩])
  (.cond (.t 46)
  (.seq (.ops [⟨some 52, none, .callF false 21 [(.c (.int .i64 15))]⟩, ⟨none, none, .store 3 (.t 8) (.t 52)⟩])
  .ret)
  (.seq (.ops [⟨some 54, none, .mov (.t 3)⟩, ⟨some 55, none, .faddr true 0 2 (.t 4)⟩, ⟨some 56, none, .faddr false 0 1 (.t 55)⟩, ⟨some 57, none, .load false 1 (.t 56)⟩, ⟨some 58, none, .bin .eql (.t 54) (.t 57)⟩, ⟨some 59, none, .mov (.t 58)⟩, ⟨some 60, (some (59, false)), .mov (.t 3)⟩, ⟨some 61, (some (59, false)), .bin .eql (.t 60) (.c (.int .u32 4294967295))⟩, ⟨some 62, none, .pick (.t 59) (.c (.bool true)) (.t 61)⟩, ⟨some 53, none, .mov (.t 62)⟩])
  (.cond (.t 53)
  (.seq (.ops [⟨some 63, none, .build [(.int .i64 0), (.int .i64 0), (.int .u32 0)] [(0, 1, (.c (.int .i64 1)))]⟩, ⟨none, none, .store 3 (.t 8) (.t 63)⟩])
  .ret)
  (.seq (.ops [⟨some 65, none, .mov (.t 3)⟩, ⟨some 66, none, .faddr true 2 2 (.t 4)⟩, ⟨some 67, none, .faddr false 0 1 (.t 66)⟩, ⟨some 68, none, .load false 1 (.t 67)⟩, ⟨some 69, none, .bin .eql (.t 65) (.t 68)⟩, ⟨some 64, none, .mov (.t 69)⟩])
  (.cond (.t 64)
  (.seq (.ops [⟨some 70, none, .build [(.int .i64 0), (.int .i64 0), (.int .u32 0)] [(0, 1, (.c (.int .i64 2)))]⟩, ⟨none, none, .store 3 (.t 8) (.t 70)⟩])
  .ret)
  (.seq (.ops [⟨some 72, none, .faddr true 0 2 (.t 4)⟩, ⟨some 73, none, .load true 2 (.t 72)⟩, ⟨some 74, none, .mov (.t 3)⟩, ⟨some 75, none, .callF false 17 [(.t 73), (.t 74)]⟩, ⟨some 71, none, .mov (.t 75)⟩])
  (.cond (.t 71)
  (.seq (.ops [⟨some 76, none, .callF false 21 [(.c (.int .i64 18))]⟩, ⟨none, none, .store 3 (.t 8) (.t 76)⟩])
  .ret)
  .skip)))))))))))))))
  (.seq (.ops [⟨some 77, none, .load true 5 (.t 4)⟩, ⟨some 78, none, .mov (.t 3)⟩, ⟨some 79, none, .callF false 24 [(.t 77), (.t 78)]⟩, ⟨none, none, .store 3 (.t 8) (.t 79)⟩])
  .ret))))⟩
/-- vizard/vizardref16.To -/
def I10 : Fn_ := ⟨4, 112, [(8, some (true, 3))],
  (.seq (.ops [⟨some 4, none, .box true 30 (.t 0)⟩, ⟨some 8, none, .alloc true [(.int .i64 0), (.int .i64 0), (.int .u32 0)] 35⟩])
  (.seq (.seq (.ops [⟨some 9, none, .load true 5 (.t 4)⟩, ⟨some 10, none, .callF false 14 [(.t 9)]⟩, ⟨some 11, none, .un .not (.t 10)⟩, ⟨some 12, none, .mov (.t 11)⟩, ⟨some 13, (some (12, false)), .mov (.t 1)⟩, ⟨some 14, (some (12, false)), .bin .lss (.t 13) (.c (.int .i64 0))⟩, ⟨some 15, none, .pick (.t 12) (.c (.bool true)) (.t 14)⟩, ⟨some 16, none, .mov (.t 15)⟩, ⟨some 17, (some (16, false)), .mov (.t 1)⟩, ⟨some 18, (some (16, false)), .bin .gtr (.t 17) (.c (.int .i64 1))⟩, ⟨some 19, none, .pick (.t 16) (.c (.bool true)) (.t 18)⟩])
  (.cond (.t 19)
  (.seq (.ops [⟨some 20, none, .callF false 25 [(.c (.int .i64 7))]⟩, ⟨none, none, .store 3 (.t 8) (.t 20)⟩])
  .ret)
  .skip))
  (.seq (.seq (.ops [⟨some 21, none, .mov (.t 1)⟩, ⟨some 22, none, .bin .eql (.t 21) (.c (.int .i64 1))⟩])
  (.cond (.t 22)
  (.seq (.seq (.ops [⟨some 23, none, .mov (.t 2)⟩, ⟨some 24, none, .callF false 26 [(.t 23)]⟩, ⟨some 25, none, .un .not (.t 24)⟩, ⟨some 26, none, .mov (.t 25)⟩, ⟨some 27, (some (26, false)), .faddr true 0 2 (.t 4)⟩, ⟨some 28, (some (26, false)), .load true 2 (.t 27)⟩, ⟨some 29, (some (26, false)), .mov (.t 2)⟩, ⟨some 30, (some (26, false)), .callF false 27 [(.t 28), (.t 29)]⟩, ⟨some 31, none, .pick (.t 26) (.c (.bool true)) (.t 30)⟩, ⟨some 32, none, .mov (.t 31)⟩, ⟨some 33, (some (32, false)), .mov (.t 2)⟩, ⟨some 34, (some (32, false)), .faddr true 2 2 (.t 4)⟩, ⟨some 35, (some (32, false)), .faddr false 0 1 (.t 34)⟩, ⟨some 36, (some (32, false)), .load false 1 (.t 35)⟩, ⟨some 37, (some (32, false)), .bin .eql (.t 33) (.t 36)⟩, ⟨some 38, none, .pick (.t 32) (.c (.bool true)) (.t 37)⟩, ⟨some 39, none, .mov (.t 38)⟩, ⟨some 40, (some (39, false)), .mov (.t 3)⟩, ⟨some 41, (some (39, false)), .faddr true 2 2 (.t 4)⟩, ⟨some 42, (some (39, false)), .faddr false 0 1 (.t 41)⟩, ⟨some 43, (some (39, false)), .load false 1 (.t 42)⟩, ⟨some 44, (some (39, false)), .bin .neq (.t 40) (.t 43)⟩, ⟨some 45, none, .pick (.t 39) (.c (.bool true)) (.t 44)⟩])
  (.cond (.t 45)
  (.seq (.ops [⟨some 46, none, .callF false 25 [(.c (.int .i64 15))]⟩, ⟨none, none, .store 3 (.t 8) (.t 46)⟩])
  .ret)
  .skip))
  (.seq (.ops [⟨some 47, none, .build [(.int .i64 0), (.int .i64 0), (.int .u32 0)] [(0, 1, (.c (.int .i64 4)))]⟩, ⟨none, none, .store 3 (.t 8) (.t 47)⟩])
  .ret))
  .skip))
  (.seq (.seq (.ops [⟨some 48, none, .mov (.t 2)⟩, ⟨some 49, none, .bin .eql (.t 48) (.c (.int .u32 0))⟩, ⟨some 50, none, .mov (.t 49)⟩, ⟨some 51, (some (50, true)), .mov (.t 3)⟩, ⟨some 52, (some (50, true)), .bin .eql (.t 51) (.c (.int .u32 4294967295))⟩, ⟨some 53, none, .pick (.t 50) (.t 52) (.c (.bool false))⟩])
  (.cond (.t 53)
  (.seq (.ops [⟨some 54, none, .build [(.int .i64 0), (.int .i64 0), (.int .u32 0)] [(0, 1, (.c (.int .i64 1)))]⟩, ⟨none, none, .store 3 (.t 8) (.t 54)⟩])
  .ret)
  .skip))
  (.seq (.seq (.ops [⟨some 55, none, .faddr true 0 2 (.t 4)⟩, ⟨some 56, none, .load true 2 (.t 55)⟩, ⟨some 57, none, .mov (.t 2)⟩, ⟨some 58, none, .callF false 28 [(.t 56), (.t 57)]⟩, ⟨some 59, none, .un .not (.t 58)⟩, ⟨some 60, none, .mov (.t 59)⟩, ⟨some 61, (some (60, false)), .mov (.t 2)⟩, ⟨some 62, (some (60, false)), .faddr true 0 2 (.t 4)⟩, ⟨some 63, (some (60, false)), .faddr false 0 1 (.t 62)⟩, ⟨some 64, (some (60, false)), .load false 1 (.t 63)⟩, ⟨some 65, (some (60, false)), .bin .eql (.t 61) (.t 64)⟩, ⟨some 66, none, .pick (.t 60) (.c (.bool true)) (.t 65)⟩])
  (.cond (.t 66)
  (.seq (.ops [⟨some 67, none, .callF false 25 [(.c (.int .i64 15))]⟩, ⟨none, none, .store 3 (.t 8) (.t 67)⟩])
  .ret)
  .skip))
  (.seq (.seq (.ops [⟨some 68, none, .mov (.t 3)⟩, ⟨some 69, none, .faddr true 0 2 (.t 4)⟩, ⟨some 70, none, .faddr false 0 1 (.t 69)⟩, ⟨some 71, none, .load false 1 (.t 70)⟩, ⟨some 72, none, .bin .eql (.t 68) (.t 71)⟩, ⟨some 73, none, .mov (.t 72)⟩, ⟨some 74, (some (73, false)), .mov (.t 3)⟩, ⟨some 75, (some (73, false)), .bin .eql (.t 74) (.c (.int .u32 4294967295))⟩, ⟨some 76, none, .pick (.t 73) (.c (.bool true)) (.t 75)⟩])
  (.cond (.t 76)
  (.seq (.ops [⟨some 77, none, .build [(.int .i64 0), (.int .i64 0), (.int .u32 0)] [(0, 1, (.c (.int .i64 1)))]⟩, ⟨none, none, .store 3 (.t 8) (.t 77)⟩])
  .ret)
  .skip))
  (.seq (.seq (.ops [⟨some 78, none, .mov (.t 3)⟩, ⟨some 79, none, .faddr true 2 2 (.t 4)⟩, ⟨some 80, none, .faddr false 0 1 (.t 79)⟩, ⟨some 81, none, .load false 1 (.t 80)⟩, ⟨some 82, none, .bin .eql (.t 78) (.t 81)⟩])
  (.cond (.t 82)
  (.seq (.ops [⟨some 83, none, .build [(.int .i64 0), (.int .i64 0), (.int .u32 0)] [(0, 1, (.c (.int .i64 2)))]⟩, ⟨none, none, .store 3 (.t 8) (.t 83)⟩])
  .ret)
  .skip))
  (.seq (.seq (.ops [⟨some 84, none, .faddr true 0 2 (.t 4)⟩, ⟨some 85, none, .load true 2 (.t 84)⟩, ⟨some 86, none, .mov (.t 3)⟩, ⟨some 87, none, .callF false 27 [(.t 85), (.t 86)]⟩])
  (.cond (.t 87)
  (.seq (.ops [⟨some 88, none, .callF false 25 [(.c (.int .i64 18))]⟩, ⟨none, none, .store 3 (.t 8) (.t 88)⟩])
  .ret)
  .skip))
  (.seq (.seq (.ops [⟨some 89, none, .mov (.t 3)⟩, ⟨some 90, none, .callF false 26 [(.t 89)]⟩, ⟨some 91, none, .un .not (.t 90)⟩])
  (.cond (.t 91)
  (.seq (.ops [⟨some 92, none, .callF false 25 [(.c (.int .i64 7))]⟩, ⟨none, none, .store 3 (.t 8) (.t 92)⟩])
  .ret)
  .skip))
  (.seq (.seq (.ops [⟨some 93, none, .faddr true 2 2 (.t 4)⟩, ⟨some 94, none, .load true 2 (.t 93)⟩, ⟨some 95, none, .mov (.t 3)⟩, ⟨some 96, none, .callF false 28 [(.t 94), (.t 95)]⟩])
  (.cond (.t 96)
  (.seq (.ops [⟨some 97, none, .mov (.t 3)⟩, ⟨some 98, none, .build [(.int .i64 0), (.int .i64 0), (.int .u32 0)] [(0, 1, (.c (.int .i64 3))), (2, 1, (.t 97))]⟩, ⟨none, none, .store 3 (.t 8) (.t 98)⟩])
  .ret)
  .skip))
  (.seq (.seq (.ops [⟨some 99, none, .faddr true 2 2 (.t 4)⟩, ⟨some 100, none, .load true 2 (.t 99)⟩, ⟨some 101, none, .mov (.t 3)⟩, ⟨some 102, none, .callF false 27 [(.t 100), (.t 101)]⟩, ⟨some 103, none, .mov (.t 102)⟩, ⟨some 104, (some (103, false)), .faddr false 4 1 (.t 4)⟩, ⟨some 105, (some (103, false)), .load false 1 (.t 104)⟩, ⟨some 106, (some (103, false)), .bin .eql (.t 105) (.c (.int .u32 0))⟩, ⟨some 107, none, .pick (.t 103) (.c (.bool true)) (.t 106)⟩])
  (.cond (.t 107)
  (.seq (.ops [⟨some 108, none, .callF false 25 [(.c (.int .i64 7))]⟩, ⟨none, none, .store 3 (.t 8) (.t 108)⟩])
  .ret)
  .skip))
  (.seq (.ops [⟨some 109, none, .faddr false 4 1 (.t 4)⟩, ⟨some 110, none, .load false 1 (.t 109)⟩, ⟨some 111, none, .build [(.int .i64 0), (.int .i64 0), (.int .u32 0)] [(0, 1, (.c (.int .i64 3))), (2, 1, (.t 110))]⟩, ⟨none, none, .store 3 (.t 8) (.t 111)⟩])
  .ret))))))))))))⟩
/-- (vizard/route.Map).Side -/
def I11 : Fn_ := ⟨2, 20, [(4, none), (5, none)],
  (.seq (.ops [⟨some 2, none, .box true 26 (.t 0)⟩, ⟨some 4, none, .mov (.c (.int .i64 0))⟩, ⟨some 5, none, .mov (.c (.bool false))⟩])
  (.seq (.block 0 (some [1, 2]) (.seq (.ops [⟨some 7, none, .load true 5 (.t 2)⟩, ⟨some 8, none, .callF false 13 [(.t 7)]⟩, ⟨some 9, none, .un .not (.t 8)⟩, ⟨some 6, none, .mov (.t 9)⟩])
  (.cond (.t 6)
  (.seq (.ops [⟨some 4, none, .mov (.c (.int .i64 0))⟩, ⟨some 5, none, .mov (.c (.bool false))⟩])
  .ret)
  (.seq (.ops [⟨some 11, none, .faddr true 0 2 (.t 2)⟩, ⟨some 12, none, .load true 2 (.t 11)⟩, ⟨some 13, none, .mov (.t 1)⟩, ⟨some 14, none, .callF false 17 [(.t 12), (.t 13)]⟩, ⟨some 10, none, .mov (.t 14)⟩])
  (.cond (.t 10)
  (.seq (.ops [⟨some 4, none, .mov (.c (.int .i64 0))⟩, ⟨some 5, none, .mov (.c (.bool true))⟩])
  .ret)
  (.seq (.ops [⟨some 16, none, .faddr true 2 2 (.t 2)⟩, ⟨some 17, none, .load true 2 (.t 16)⟩, ⟨some 18, none, .mov (.t 1)⟩, ⟨some 19, none, .callF false 17 [(.t 17), (.t 18)]⟩, ⟨some 15, none, .mov (.t 19)⟩])
  (.cond (.t 15)
  (.seq (.ops [⟨some 4, none, .mov (.c (.int .i64 1))⟩, ⟨some 5, none, .mov (.c (.bool true))⟩])
  .ret)
  .skip)))))))
  (.seq (.ops [⟨some 4, none, .mov (.c (.int .i64 0))⟩, ⟨some 5, none, .mov (.c (.bool false))⟩])
  .ret)))⟩
/-- vizard/vizardref16.Side -/
def I12 : Fn_ := ⟨2, 22, [(4, none), (5, none)],
  (.seq (.ops [⟨some 2, none, .box true 30 (.t 0)⟩, ⟨some 4, none, .mov (.c (.int .i64 0))⟩, ⟨some 5, none, .mov (.c (.bool false))⟩])
  (.seq (.seq (.ops [⟨some 6, none, .load true 5 (.t 2)⟩, ⟨some 7, none, .callF false 14 [(.t 6)]⟩, ⟨some 8, none, .mov (.t 7)⟩, ⟨some 9, (some (8, true)), .faddr true 0 2 (.t 2)⟩, ⟨some 10, (some (8, true)), .load true 2 (.t 9)⟩, ⟨some 11, (some (8, true)), .mov (.t 1)⟩, ⟨some 12, (some (8, true)), .callF false 27 [(.t 10), (.t 11)]⟩, ⟨some 13, none, .pick (.t 8) (.t 12) (.c (.bool false))⟩])
  (.cond (.t 13)
  (.seq (.ops [⟨some 4, none, .mov (.c (.int .i64 0))⟩, ⟨some 5, none, .mov (.c (.bool true))⟩])
  .ret)
  .skip))
  (.seq (.seq (.ops [⟨some 14, none, .load true 5 (.t 2)⟩, ⟨some 15, none, .callF false 14 [(.t 14)]⟩, ⟨some 16, none, .mov (.t 15)⟩, ⟨some 17, (some (16, true)), .faddr true 2 2 (.t 2)⟩, ⟨some 18, (some (16, true)), .load true 2 (.t 17)⟩, ⟨some 19, (some (16, true)), .mov (.t 1)⟩, ⟨some 20, (some (16, true)), .callF false 27 [(.t 18), (.t 19)]⟩, ⟨some 21, none, .pick (.t 16) (.t 20) (.c (.bool false))⟩])
  (.cond (.t 21)
  (.seq (.ops [⟨some 4, none, .mov (.c (.int .i64 1))⟩, ⟨some 5, none, .mov (.c (.bool true))⟩])
  .ret)
  .skip))
  (.seq (.ops [⟨some 4, none, .mov (.c (.int .i64 0))⟩, ⟨some 5, none, .mov (.c (.bool false))⟩])
  .ret))))⟩
/-- (vizard/route.Map).Right -/
def I13 : Fn_ := ⟨1, 30, [(2, none)],
  (.seq (.ops [⟨some 1, none, .box true 26 (.t 0)⟩, ⟨some 2, none, .mov (.c (.bool false))⟩])
  (.seq (.ops [⟨some 4, none, .faddr false 4 1 (.t 1)⟩, ⟨some 5, none, .load false 1 (.t 4)⟩, ⟨some 6, none, .bin .eql (.t 5) (.c (.int .u32 0))⟩, ⟨some 7, none, .mov (.t 6)⟩, ⟨some 8, (some (7, false)), .faddr true 2 2 (.t 1)⟩, ⟨some 9, (some (7, false)), .load true 2 (.t 8)⟩, ⟨some 10, (some (7, false)), .faddr false 4 1 (.t 1)⟩, ⟨some 11, (some (7, false)), .load false 1 (.t 10)⟩, ⟨some 12, (some (7, false)), .callF false 16 [(.t 9), (.t 11)]⟩, ⟨some 13, (some (7, false)), .mov (.t 12)⟩, ⟨some 14, (some (13, true)), .faddr false 4 1 (.t 1)⟩, ⟨some 15, (some (13, true)), .load false 1 (.t 14)⟩, ⟨some 16, (some (13, true)), .faddr true 2 2 (.t 1)⟩, ⟨some 17, (some (13, true)), .faddr false 0 1 (.t 16)⟩, ⟨some 18, (some (13, true)), .load false 1 (.t 17)⟩, ⟨some 19, (some (13, true)), .bin .neq (.t 15) (.t 18)⟩, ⟨some 20, (some (7, false)), .pick (.t 13) (.t 19) (.c (.bool false))⟩, ⟨some 21, none, .pick (.t 7) (.c (.bool true)) (.t 20)⟩, ⟨some 3, none, .mov (.t 21)⟩])
  (.seq (.ops [⟨some 22, none, .faddr true 0 2 (.t 1)⟩, ⟨some 23, none, .load true 2 (.t 22)⟩, ⟨some 24, none, .faddr true 2 2 (.t 1)⟩, ⟨some 25, none, .load true 2 (.t 24)⟩, ⟨some 26, none, .callF false 29 [(.t 23), (.t 25)]⟩, ⟨some 27, none, .mov (.t 26)⟩, ⟨some 28, (some (27, true)), .mov (.t 3)⟩, ⟨some 29, none, .pick (.t 27) (.t 28) (.c (.bool false))⟩, ⟨some 2, none, .mov (.t 29)⟩])
  .ret)))⟩
/-- vizard/vizardref16.Right -/
def I14 : Fn_ := ⟨1, 27, [(2, none)],
  (.seq (.ops [⟨some 1, none, .box true 30 (.t 0)⟩, ⟨some 2, none, .mov (.c (.bool false))⟩])
  (.seq (.seq (.ops [⟨some 3, none, .faddr true 0 2 (.t 1)⟩, ⟨some 4, none, .load true 2 (.t 3)⟩, ⟨some 5, none, .faddr true 2 2 (.t 1)⟩, ⟨some 6, none, .load true 2 (.t 5)⟩, ⟨some 7, none, .callF false 30 [(.t 4), (.t 6)]⟩, ⟨some 8, none, .un .not (.t 7)⟩])
  (.cond (.t 8)
  (.seq (.ops [⟨some 2, none, .mov (.c (.bool false))⟩])
  .ret)
  .skip))
  (.seq (.ops [⟨some 9, none, .faddr false 4 1 (.t 1)⟩, ⟨some 10, none, .load false 1 (.t 9)⟩, ⟨some 11, none, .bin .eql (.t 10) (.c (.int .u32 0))⟩, ⟨some 12, none, .mov (.t 11)⟩, ⟨some 13, (some (12, false)), .faddr true 2 2 (.t 1)⟩, ⟨some 14, (some (12, false)), .load true 2 (.t 13)⟩, ⟨some 15, (some (12, false)), .faddr false 4 1 (.t 1)⟩, ⟨some 16, (some (12, false)), .load false 1 (.t 15)⟩, ⟨some 17, (some (12, false)), .callF false 28 [(.t 14), (.t 16)]⟩, ⟨some 18, (some (12, false)), .mov (.t 17)⟩, ⟨some 19, (some (18, true)), .faddr false 4 1 (.t 1)⟩, ⟨some 20, (some (18, true)), .load false 1 (.t 19)⟩, ⟨some 21, (some (18, true)), .faddr true 2 2 (.t 1)⟩, ⟨some 22, (some (18, true)), .faddr false 0 1 (.t 21)⟩, ⟨some 23, (some (18, true)), .load false 1 (.t 22)⟩, ⟨some 24, (some (18, true)), .bin .neq (.t 20) (.t 23)⟩, ⟨some 25, (some (12, false)), .pick (.t 18) (.t 24) (.c (.bool false))⟩, ⟨some 26, none, .pick (.t 12) (.c (.bool true)) (.t 25)⟩, ⟨some 2, none, .mov (.t 26)⟩])
  .ret)))⟩
/-- (vizard/route.Map).Own -/
def I15 : Fn_ := ⟨2, 16, [(4, none)],
  (.seq (.ops [⟨some 2, none, .box true 26 (.t 0)⟩, ⟨some 4, none, .mov (.c (.int .u32 0))⟩])
  (.seq (.seq (.ops [⟨some 5, none, .mov (.t 1)⟩])
  (.block 0 (some [2, 5]) (.seq (.ops [⟨some 7, none, .bin .eql (.t 5) (.c (.int .i64 0))⟩, ⟨some 6, none, .mov (.t 7)⟩])
  (.cond (.t 6)
  (.seq (.ops [⟨some 8, none, .faddr true 0 2 (.t 2)⟩, ⟨some 9, none, .faddr false 0 1 (.t 8)⟩, ⟨some 10, none, .load false 1 (.t 9)⟩, ⟨some 4, none, .mov (.t 10)⟩])
  .ret)
  (.seq (.ops [⟨some 12, none, .bin .eql (.t 5) (.c (.int .i64 1))⟩, ⟨some 11, none, .mov (.t 12)⟩])
  (.cond (.t 11)
  (.seq (.ops [⟨some 13, none, .faddr true 2 2 (.t 2)⟩, ⟨some 14, none, .faddr false 0 1 (.t 13)⟩, ⟨some 15, none, .load false 1 (.t 14)⟩, ⟨some 4, none, .mov (.t 15)⟩])
  .ret)
  .skip))))))
  (.seq (.ops [⟨some 4, none, .mov (.c (.int .u32 0))⟩])
  .ret)))⟩
/-- (vizard/place.Net).Host -/
def I16 : Fn_ := ⟨2, 20, [(4, none)],
  (.seq (.ops [⟨some 2, none, .box true 24 (.t 0)⟩, ⟨some 4, none, .mov (.c (.bool false))⟩])
  (.seq (.ops [⟨some 5, none, .load true 2 (.t 2)⟩, ⟨some 6, none, .mov (.t 1)⟩, ⟨some 7, none, .callF false 17 [(.t 5), (.t 6)]⟩, ⟨some 8, none, .mov (.t 7)⟩, ⟨some 9, (some (8, true)), .mov (.t 1)⟩, ⟨some 10, (some (8, true)), .load true 2 (.t 2)⟩, ⟨some 11, (some (8, true)), .callF false 31 [(.t 10)]⟩, ⟨some 12, (some (8, true)), .bin .neq (.t 9) (.t 11)⟩, ⟨some 13, none, .pick (.t 8) (.t 12) (.c (.bool false))⟩, ⟨some 14, none, .mov (.t 13)⟩, ⟨some 15, (some (14, true)), .mov (.t 1)⟩, ⟨some 16, (some (14, true)), .load true 2 (.t 2)⟩, ⟨some 17, (some (14, true)), .callF false 32 [(.t 16)]⟩, ⟨some 18, (some (14, true)), .bin .neq (.t 15) (.t 17)⟩, ⟨some 19, none, .pick (.t 14) (.t 18) (.c (.bool false))⟩, ⟨some 4, none, .mov (.t 19)⟩])
  .ret))⟩
/-- (vizard/place.Net).Has -/
def I17 : Fn_ := ⟨2, 16, [(4, none)],
  (.seq (.ops [⟨some 2, none, .box true 24 (.t 0)⟩, ⟨some 4, none, .mov (.c (.bool false))⟩])
  (.seq (.ops [⟨some 5, none, .load true 2 (.t 2)⟩, ⟨some 6, none, .callF true 33 [(.t 5)]⟩, ⟨some 7, none, .mov (.t 6)⟩, ⟨some 8, (some (7, true)), .mov (.t 1)⟩, ⟨some 9, (some (7, true)), .load true 2 (.t 2)⟩, ⟨some 10, (some (7, true)), .callF true 34 [(.t 9)]⟩, ⟨some 11, (some (7, true)), .bin .and (.t 8) (.t 10)⟩, ⟨some 12, (some (7, true)), .load true 2 (.t 2)⟩, ⟨some 13, (some (7, true)), .callF true 31 [(.t 12)]⟩, ⟨some 14, (some (7, true)), .bin .eql (.t 11) (.t 13)⟩, ⟨some 15, none, .pick (.t 7) (.t 14) (.c (.bool false))⟩, ⟨some 4, none, .mov (.t 15)⟩])
  .ret))⟩
/-- vizard/place.Single -/
def I18 : Fn_ := ⟨1, 16, [(2, none)],
  (.seq (.ops [⟨some 2, none, .mov (.c (.bool false))⟩])
  (.seq (.ops [⟨some 4, none, .mov (.t 0)⟩, ⟨some 5, none, .bin .shr (.t 4) (.c (.int .u64 24))⟩, ⟨some 3, none, .mov (.t 5)⟩])
  (.seq (.ops [⟨some 6, none, .mov (.t 3)⟩, ⟨some 7, none, .bin .geq (.t 6) (.c (.int .u32 1))⟩, ⟨some 8, none, .mov (.t 7)⟩, ⟨some 9, (some (8, true)), .mov (.t 3)⟩, ⟨some 10, (some (8, true)), .bin .leq (.t 9) (.c (.int .u32 223))⟩, ⟨some 11, none, .pick (.t 8) (.t 10) (.c (.bool false))⟩, ⟨some 12, none, .mov (.t 11)⟩, ⟨some 13, (some (12, true)), .mov (.t 3)⟩, ⟨some 14, (some (12, true)), .bin .neq (.t 13) (.c (.int .u32 127))⟩, ⟨some 15, none, .pick (.t 12) (.t 14) (.c (.bool false))⟩, ⟨some 2, none, .mov (.t 15)⟩])
  .ret)))⟩
/-- vizard/vizardlaw16.Small -/
def I19 : Fn_ := ⟨0, 4, [(0, some (true, 5))],
  (.seq (.ops [⟨some 0, none, .alloc true [(.int .u32 0), (.int .i64 0), (.int .u32 0), (.int .i64 0), (.int .u32 0)] 26⟩])
  (.seq (.ops [⟨some 1, none, .build [(.int .u32 0), (.int .i64 0)] [(0, 1, (.c (.int .u32 167772161))), (1, 1, (.c (.int .i64 24)))]⟩, ⟨some 2, none, .build [(.int .u32 0), (.int .i64 0)] [(0, 1, (.c (.int .u32 3221225985))), (1, 1, (.c (.int .i64 24)))]⟩, ⟨some 3, none, .build [(.int .u32 0), (.int .i64 0), (.int .u32 0), (.int .i64 0), (.int .u32 0)] [(0, 2, (.t 1)), (2, 2, (.t 2)), (4, 1, (.c (.int .u32 3221226238)))]⟩, ⟨none, none, .store 5 (.t 0) (.t 3)⟩])
  .ret))⟩
/-- vizard/vizardlaw04.Of -/
def I20 : Fn_ := ⟨1, 8, [(2, some (true, 2))],
  (.seq (.ops [⟨some 1, none, .box true 24 (.t 0)⟩, ⟨some 2, none, .alloc true [(.int .u32 0), (.int .i64 0)] 28⟩])
  (.seq (.ops [⟨some 3, none, .faddr false 0 1 (.t 1)⟩, ⟨some 4, none, .load false 1 (.t 3)⟩, ⟨some 5, none, .faddr false 1 1 (.t 1)⟩, ⟨some 6, none, .load false 1 (.t 5)⟩, ⟨some 7, none, .build [(.int .u32 0), (.int .i64 0)] [(0, 1, (.t 4)), (1, 1, (.t 6))]⟩, ⟨none, none, .store 2 (.t 2) (.t 7)⟩])
  .ret))⟩
/-- vizard/route.none -/
def I21 : Fn_ := ⟨1, 5, [(2, some (true, 3))],
  (.seq (.ops [⟨some 2, none, .alloc true [(.int .i64 0), (.int .i64 0), (.int .u32 0)] 33⟩])
  (.seq (.ops [⟨some 3, none, .mov (.t 0)⟩, ⟨some 4, none, .build [(.int .i64 0), (.int .i64 0), (.int .u32 0)] [(0, 1, (.c (.int .i64 0))), (1, 1, (.t 3))]⟩, ⟨none, none, .store 3 (.t 2) (.t 4)⟩])
  .ret))⟩
/-- (vizard/route.Map).outside -/
def I22 : Fn_ := ⟨2, 21, [(4, none)],
  (.seq (.ops [⟨some 2, none, .box true 26 (.t 0)⟩, ⟨some 4, none, .mov (.c (.bool false))⟩])
  (.seq (.ops [⟨some 5, none, .mov (.t 1)⟩, ⟨some 6, none, .callF false 18 [(.t 5)]⟩, ⟨some 7, none, .mov (.t 6)⟩, ⟨some 8, (some (7, true)), .faddr true 0 2 (.t 2)⟩, ⟨some 9, (some (7, true)), .load true 2 (.t 8)⟩, ⟨some 10, (some (7, true)), .mov (.t 1)⟩, ⟨some 11, (some (7, true)), .callF false 17 [(.t 9), (.t 10)]⟩, ⟨some 12, (some (7, true)), .un .not (.t 11)⟩, ⟨some 13, none, .pick (.t 7) (.t 12) (.c (.bool false))⟩, ⟨some 14, none, .mov (.t 13)⟩, ⟨some 15, (some (14, true)), .mov (.t 1)⟩, ⟨some 16, (some (14, true)), .faddr true 2 2 (.t 2)⟩, ⟨some 17, (some (14, true)), .faddr false 0 1 (.t 16)⟩, ⟨some 18, (some (14, true)), .load false 1 (.t 17)⟩, ⟨some 19, (some (14, true)), .bin .neq (.t 15) (.t 18)⟩, ⟨some 20, none, .pick (.t 14) (.t 19) (.c (.bool false))⟩, ⟨some 4, none, .mov (.t 20)⟩])
  .ret))⟩
/-- (vizard/route.Map).inside -/
def I23 : Fn_ := ⟨3, 26, [(6, none)],
  (.seq (.ops [⟨some 3, none, .box true 26 (.t 0)⟩, ⟨some 6, none, .mov (.c (.bool false))⟩])
  (.seq (.ops [⟨some 7, none, .mov (.t 1)⟩, ⟨some 8, none, .bin .eql (.t 7) (.c (.int .u32 0))⟩, ⟨some 9, none, .mov (.t 8)⟩, ⟨some 10, (some (9, true)), .mov (.t 2)⟩, ⟨some 11, (some (9, true)), .bin .eql (.t 10) (.c (.int .u32 4294967295))⟩, ⟨some 12, none, .pick (.t 9) (.t 11) (.c (.bool false))⟩, ⟨some 13, none, .mov (.t 12)⟩, ⟨some 14, (some (13, false)), .faddr true 0 2 (.t 3)⟩, ⟨some 15, (some (13, false)), .load true 2 (.t 14)⟩, ⟨some 16, (some (13, false)), .mov (.t 1)⟩, ⟨some 17, (some (13, false)), .callF false 16 [(.t 15), (.t 16)]⟩, ⟨some 18, (some (13, false)), .mov (.t 17)⟩, ⟨some 19, (some (18, true)), .mov (.t 1)⟩, ⟨some 20, (some (18, true)), .faddr true 0 2 (.t 3)⟩, ⟨some 21, (some (18, true)), .faddr false 0 1 (.t 20)⟩, ⟨some 22, (some (18, true)), .load false 1 (.t 21)⟩, ⟨some 23, (some (18, true)), .bin .neq (.t 19) (.t 22)⟩, ⟨some 24, (some (13, false)), .pick (.t 18) (.t 23) (.c (.bool false))⟩, ⟨some 25, none, .pick (.t 13) (.c (.bool true)) (.t 24)⟩, ⟨some 6, none, .mov (.t 25)⟩])
  .ret))⟩
/-- (vizard/route.Map).beyond -/
def I24 : Fn_ := ⟨2, 31, [(4, some (true, 3))],
  (.seq (.ops [⟨some 2, none, .box true 26 (.t 0)⟩, ⟨some 4, none, .alloc true [(.int .i64 0), (.int .i64 0), (.int .u32 0)] 33⟩])
  (.seq (.block 0 (some [1, 2, 4]) (.seq (.ops [⟨some 6, none, .mov (.t 1)⟩, ⟨some 7, none, .callF false 18 [(.t 6)]⟩, ⟨some 8, none, .un .not (.t 7)⟩, ⟨some 5, none, .mov (.t 8)⟩])
  (.cond (.t 5)
  (.seq (.ops [⟨some 9, none, .callF false 21 [(.c (.int .i64 7))]⟩, ⟨none, none, .store 3 (.t 4) (.t 9)⟩])
  .ret)
  (.seq (.ops [⟨some 11, none, .faddr true 2 2 (.t 2)⟩, ⟨some 12, none, .load true 2 (.t 11)⟩, ⟨some 13, none, .mov (.t 1)⟩, ⟨some 14, none, .callF false 16 [(.t 12), (.t 13)]⟩, ⟨some 10, none, .mov (.t 14)⟩])
  (.cond (.t 10)
  (.seq (.ops [⟨some 15, none, .mov (.t 1)⟩, ⟨some 16, none, .build [(.int .i64 0), (.int .i64 0), (.int .u32 0)] [(0, 1, (.c (.int .i64 3))), (2, 1, (.t 15))]⟩, ⟨none, none, .store 3 (.t 4) (.t 16)⟩])
  .ret)
  (.seq (.ops [⟨some 18, none, .faddr true 2 2 (.t 2)⟩, ⟨some 19, none, .load true 2 (.t 18)⟩, ⟨some 20, none, .mov (.t 1)⟩, ⟨some 21, none, .callF false 17 [(.t 19), (.t 20)]⟩, ⟨some 22, none, .mov (.t 21)⟩, ⟨some 23, (some (22, false)), .faddr false 4 1 (.t 2)⟩, ⟨some 24, (some (22, false)), .load false 1 (.t 23)⟩, ⟨some 25, (some (22, false)), .bin .eql (.t 24) (.c (.int .u32 0))⟩, ⟨some 26, none, .pick (.t 22) (.c (.bool true)) (.t 25)⟩, ⟨some 17, none, .mov (.t 26)⟩])
  (.cond (.t 17)
  (.seq (.ops [⟨some 27, none, .callF false 21 [(.c (.int .i64 7))]⟩, ⟨none, none, .store 3 (.t 4) (.t 27)⟩])
  .ret)
  .skip)))))))
  (.seq (.ops [⟨some 28, none, .faddr false 4 1 (.t 2)⟩, ⟨some 29, none, .load false 1 (.t 28)⟩, ⟨some 30, none, .build [(.int .i64 0), (.int .i64 0), (.int .u32 0)] [(0, 1, (.c (.int .i64 3))), (2, 1, (.t 29))]⟩, ⟨none, none, .store 3 (.t 4) (.t 30)⟩])
  .ret)))⟩
/-- vizard/vizardref16.none -/
def I25 : Fn_ := ⟨1, 5, [(2, some (true, 3))],
  (.seq (.ops [⟨some 2, none, .alloc true [(.int .i64 0), (.int .i64 0), (.int .u32 0)] 35⟩])
  (.seq (.ops [⟨some 3, none, .mov (.t 0)⟩, ⟨some 4, none, .build [(.int .i64 0), (.int .i64 0), (.int .u32 0)] [(1, 1, (.t 3))]⟩, ⟨none, none, .store 3 (.t 2) (.t 4)⟩])
  .ret))⟩
/-- vizard/vizardref04.Single -/
def I26 : Fn_ := ⟨1, 16, [(2, none)],
  (.seq (.ops [⟨some 2, none, .mov (.c (.bool false))⟩])
  (.seq (.ops [⟨some 4, none, .mov (.t 0)⟩, ⟨some 5, none, .bin .quo (.t 4) (.c (.int .u32 16777216))⟩, ⟨some 3, none, .mov (.t 5)⟩])
  (.seq (.ops [⟨some 6, none, .mov (.t 3)⟩, ⟨some 7, none, .bin .geq (.t 6) (.c (.int .u32 1))⟩, ⟨some 8, none, .mov (.t 7)⟩, ⟨some 9, (some (8, true)), .mov (.t 3)⟩, ⟨some 10, (some (8, true)), .bin .leq (.t 9) (.c (.int .u32 223))⟩, ⟨some 11, none, .pick (.t 8) (.t 10) (.c (.bool false))⟩, ⟨some 12, none, .mov (.t 11)⟩, ⟨some 13, (some (12, true)), .mov (.t 3)⟩, ⟨some 14, (some (12, true)), .bin .neq (.t 13) (.c (.int .u32 127))⟩, ⟨some 15, none, .pick (.t 12) (.t 14) (.c (.bool false))⟩, ⟨some 2, none, .mov (.t 15)⟩])
  .ret)))⟩
/-- vizard/vizardref04.Has -/
def I27 : Fn_ := ⟨2, 19, [(4, none)],
  (.seq (.ops [⟨some 2, none, .box true 28 (.t 0)⟩, ⟨some 4, none, .mov (.c (.bool false))⟩])
  (.seq (.ops [⟨some 5, none, .load true 2 (.t 2)⟩, ⟨some 6, none, .callF false 35 [(.t 5)]⟩, ⟨some 7, none, .mov (.t 6)⟩, ⟨some 8, (some (7, true)), .mov (.t 1)⟩, ⟨some 9, (some (7, true)), .load true 2 (.t 2)⟩, ⟨some 10, (some (7, true)), .callF false 36 [(.t 9)]⟩, ⟨some 11, (some (7, true)), .bin .geq (.t 8) (.t 10)⟩, ⟨some 12, none, .pick (.t 7) (.t 11) (.c (.bool false))⟩, ⟨some 13, none, .mov (.t 12)⟩, ⟨some 14, (some (13, true)), .mov (.t 1)⟩, ⟨some 15, (some (13, true)), .load true 2 (.t 2)⟩, ⟨some 16, (some (13, true)), .callF false 37 [(.t 15)]⟩, ⟨some 17, (some (13, true)), .bin .leq (.t 14) (.t 16)⟩, ⟨some 18, none, .pick (.t 13) (.t 17) (.c (.bool false))⟩, ⟨some 4, none, .mov (.t 18)⟩])
  .ret))⟩
/-- vizard/vizardref04.Host -/
def I28 : Fn_ := ⟨2, 20, [(4, none)],
  (.seq (.ops [⟨some 2, none, .box true 28 (.t 0)⟩, ⟨some 4, none, .mov (.c (.bool false))⟩])
  (.seq (.ops [⟨some 5, none, .load true 2 (.t 2)⟩, ⟨some 6, none, .mov (.t 1)⟩, ⟨some 7, none, .callF false 27 [(.t 5), (.t 6)]⟩, ⟨some 8, none, .mov (.t 7)⟩, ⟨some 9, (some (8, true)), .mov (.t 1)⟩, ⟨some 10, (some (8, true)), .load true 2 (.t 2)⟩, ⟨some 11, (some (8, true)), .callF false 36 [(.t 10)]⟩, ⟨some 12, (some (8, true)), .bin .neq (.t 9) (.t 11)⟩, ⟨some 13, none, .pick (.t 8) (.t 12) (.c (.bool false))⟩, ⟨some 14, none, .mov (.t 13)⟩, ⟨some 15, (some (14, true)), .mov (.t 1)⟩, ⟨some 16, (some (14, true)), .load true 2 (.t 2)⟩, ⟨some 17, (some (14, true)), .callF false 37 [(.t 16)]⟩, ⟨some 18, (some (14, true)), .bin .neq (.t 15) (.t 17)⟩, ⟨some 19, none, .pick (.t 14) (.t 18) (.c (.bool false))⟩, ⟨some 4, none, .mov (.t 19)⟩])
  .ret))⟩
/-- vizard/place.Apart -/
def I29 : Fn_ := ⟨2, 25, [(4, none)],
  (.seq (.ops [⟨some 2, none, .box true 24 (.t 0)⟩, ⟨some 3, none, .box true 24 (.t 1)⟩, ⟨some 4, none, .mov (.c (.bool false))⟩])
  (.seq (.ops [⟨some 5, none, .load true 2 (.t 2)⟩, ⟨some 6, none, .callF true 38 [(.t 5)]⟩, ⟨some 7, none, .mov (.t 6)⟩, ⟨some 8, (some (7, true)), .load true 2 (.t 3)⟩, ⟨some 9, (some (7, true)), .callF true 38 [(.t 8)]⟩, ⟨some 10, none, .pick (.t 7) (.t 9) (.c (.bool false))⟩, ⟨some 11, none, .mov (.t 10)⟩, ⟨some 12, (some (11, true)), .load true 2 (.t 2)⟩, ⟨some 13, (some (11, true)), .load true 2 (.t 3)⟩, ⟨some 14, (some (11, true)), .callF true 31 [(.t 13)]⟩, ⟨some 15, (some (11, true)), .callF true 17 [(.t 12), (.t 14)]⟩, ⟨some 16, (some (11, true)), .un .not (.t 15)⟩, ⟨some 17, none, .pick (.t 11) (.t 16) (.c (.bool false))⟩, ⟨some 18, none, .mov (.t 17)⟩, ⟨some 19, (some (18, true)), .load true 2 (.t 3)⟩, ⟨some 20, (some (18, true)), .load true 2 (.t 2)⟩, ⟨some 21, (some (18, true)), .callF true 31 [(.t 20)]⟩, ⟨some 22, (some (18, true)), .callF true 17 [(.t 19), (.t 21)]⟩, ⟨some 23, (some (18, true)), .un .not (.t 22)⟩, ⟨some 24, none, .pick (.t 18) (.t 23) (.c (.bool false))⟩, ⟨some 4, none, .mov (.t 24)⟩])
  .ret))⟩
/-- vizard/vizardref04.Apart -/
def I30 : Fn_ := ⟨2, 25, [(4, none)],
  (.seq (.ops [⟨some 2, none, .box true 28 (.t 0)⟩, ⟨some 3, none, .box true 28 (.t 1)⟩, ⟨some 4, none, .mov (.c (.bool false))⟩])
  (.seq (.ops [⟨some 5, none, .load true 2 (.t 2)⟩, ⟨some 6, none, .callF true 39 [(.t 5)]⟩, ⟨some 7, none, .mov (.t 6)⟩, ⟨some 8, (some (7, true)), .load true 2 (.t 3)⟩, ⟨some 9, (some (7, true)), .callF true 39 [(.t 8)]⟩, ⟨some 10, none, .pick (.t 7) (.t 9) (.c (.bool false))⟩, ⟨some 11, none, .mov (.t 10)⟩, ⟨some 12, (some (11, true)), .load true 2 (.t 2)⟩, ⟨some 13, (some (11, true)), .callF true 37 [(.t 12)]⟩, ⟨some 14, (some (11, true)), .load true 2 (.t 3)⟩, ⟨some 15, (some (11, true)), .callF true 36 [(.t 14)]⟩, ⟨some 16, (some (11, true)), .bin .lss (.t 13) (.t 15)⟩, ⟨some 17, (some (11, true)), .mov (.t 16)⟩, ⟨some 18, (some (17, false)), .load true 2 (.t 3)⟩, ⟨some 19, (some (17, false)), .callF true 37 [(.t 18)]⟩, ⟨some 20, (some (17, false)), .load true 2 (.t 2)⟩, ⟨some 21, (some (17, false)), .callF true 36 [(.t 20)]⟩, ⟨some 22, (some (17, false)), .bin .lss (.t 19) (.t 21)⟩, ⟨some 23, (some (11, true)), .pick (.t 17) (.c (.bool true)) (.t 22)⟩, ⟨some 24, none, .pick (.t 11) (.t 23) (.c (.bool false))⟩, ⟨some 4, none, .mov (.t 24)⟩])
  .ret))⟩
/-- (vizard/place.Net).Base -/
def I31 : Fn_ := ⟨1, 8, [(2, none)],
  (.seq (.ops [⟨some 1, none, .box true 24 (.t 0)⟩, ⟨some 2, none, .mov (.c (.int .u32 0))⟩])
  (.seq (.ops [⟨some 3, none, .faddr false 0 1 (.t 1)⟩, ⟨some 4, none, .load false 1 (.t 3)⟩, ⟨some 5, none, .load true 2 (.t 1)⟩, ⟨some 6, none, .callF true 34 [(.t 5)]⟩, ⟨some 7, none, .bin .and (.t 4) (.t 6)⟩, ⟨some 2, none, .mov (.t 7)⟩])
  .ret))⟩
/-- (vizard/place.Net).Last -/
def I32 : Fn_ := ⟨1, 12, [(2, none)],
  (.seq (.ops [⟨some 1, none, .box true 24 (.t 0)⟩, ⟨some 2, none, .mov (.c (.int .u32 0))⟩])
  (.seq (.seq (.ops [⟨some 3, none, .load true 2 (.t 1)⟩, ⟨some 4, none, .callF false 33 [(.t 3)]⟩, ⟨some 5, none, .un .not (.t 4)⟩])
  (.cond (.t 5)
  (.seq (.ops [⟨some 2, none, .mov (.c (.int .u32 0))⟩])
  .ret)
  .skip))
  (.seq (.ops [⟨some 6, none, .faddr false 0 1 (.t 1)⟩, ⟨some 7, none, .load false 1 (.t 6)⟩, ⟨some 8, none, .load true 2 (.t 1)⟩, ⟨some 9, none, .callF true 34 [(.t 8)]⟩, ⟨some 10, none, .un .xor (.t 9)⟩, ⟨some 11, none, .bin .or (.t 7) (.t 10)⟩, ⟨some 2, none, .mov (.t 11)⟩])
  .ret)))⟩
/-- (vizard/place.Net).bounded -/
def I33 : Fn_ := ⟨1, 11, [(2, none)],
  (.seq (.ops [⟨some 1, none, .box true 24 (.t 0)⟩, ⟨some 2, none, .mov (.c (.bool false))⟩])
  (.seq (.ops [⟨some 3, none, .faddr false 1 1 (.t 1)⟩, ⟨some 4, none, .load false 1 (.t 3)⟩, ⟨some 5, none, .bin .geq (.t 4) (.c (.int .i64 8))⟩, ⟨some 6, none, .mov (.t 5)⟩, ⟨some 7, (some (6, true)), .faddr false 1 1 (.t 1)⟩, ⟨some 8, (some (6, true)), .load false 1 (.t 7)⟩, ⟨some 9, (some (6, true)), .bin .leq (.t 8) (.c (.int .i64 30))⟩, ⟨some 10, none, .pick (.t 6) (.t 9) (.c (.bool false))⟩, ⟨some 2, none, .mov (.t 10)⟩])
  .ret))⟩
/-- (vizard/place.Net).Mask -/
def I34 : Fn_ := ⟨1, 10, [(2, none)],
  (.seq (.ops [⟨some 1, none, .box true 24 (.t 0)⟩, ⟨some 2, none, .mov (.c (.int .u32 0))⟩])
  (.seq (.seq (.ops [⟨some 3, none, .load true 2 (.t 1)⟩, ⟨some 4, none, .callF false 33 [(.t 3)]⟩, ⟨some 5, none, .un .not (.t 4)⟩])
  (.cond (.t 5)
  (.seq (.ops [⟨some 2, none, .mov (.c (.int .u32 0))⟩])
  .ret)
  .skip))
  (.seq (.ops [⟨some 6, none, .faddr false 1 1 (.t 1)⟩, ⟨some 7, none, .load false 1 (.t 6)⟩, ⟨some 8, none, .bin .sub (.c (.int .i64 32)) (.t 7)⟩, ⟨some 9, none, .bin .shl (.c (.int .u32 4294967295)) (.t 8)⟩, ⟨some 2, none, .mov (.t 9)⟩])
  .ret)))⟩
/-- vizard/vizardref04.bounds -/
def I35 : Fn_ := ⟨1, 11, [(2, none)],
  (.seq (.ops [⟨some 1, none, .box true 28 (.t 0)⟩, ⟨some 2, none, .mov (.c (.bool false))⟩])
  (.seq (.ops [⟨some 3, none, .faddr false 1 1 (.t 1)⟩, ⟨some 4, none, .load false 1 (.t 3)⟩, ⟨some 5, none, .bin .geq (.t 4) (.c (.int .i64 8))⟩, ⟨some 6, none, .mov (.t 5)⟩, ⟨some 7, (some (6, true)), .faddr false 1 1 (.t 1)⟩, ⟨some 8, (some (6, true)), .load false 1 (.t 7)⟩, ⟨some 9, (some (6, true)), .bin .leq (.t 8) (.c (.int .i64 30))⟩, ⟨some 10, none, .pick (.t 6) (.t 9) (.c (.bool false))⟩, ⟨some 2, none, .mov (.t 10)⟩])
  .ret))⟩
/-- vizard/vizardref04.Base -/
def I36 : Fn_ := ⟨1, 16, [(2, none)],
  (.seq (.ops [⟨some 1, none, .box true 28 (.t 0)⟩, ⟨some 2, none, .mov (.c (.int .u32 0))⟩])
  (.seq (.seq (.ops [⟨some 3, none, .load true 2 (.t 1)⟩, ⟨some 4, none, .callF false 35 [(.t 3)]⟩, ⟨some 5, none, .un .not (.t 4)⟩])
  (.cond (.t 5)
  (.seq (.ops [⟨some 2, none, .mov (.c (.int .u32 0))⟩])
  .ret)
  .skip))
  (.seq (.ops [⟨some 6, none, .faddr false 0 1 (.t 1)⟩, ⟨some 7, none, .load false 1 (.t 6)⟩, ⟨some 8, none, .conv .u64 (.t 7)⟩, ⟨some 9, none, .load true 2 (.t 1)⟩, ⟨some 10, none, .callF true 40 [(.t 9)]⟩, ⟨some 11, none, .bin .quo (.t 8) (.t 10)⟩, ⟨some 12, none, .load true 2 (.t 1)⟩, ⟨some 13, none, .callF true 40 [(.t 12)]⟩, ⟨some 14, none, .bin .mul (.t 11) (.t 13)⟩, ⟨some 15, none, .conv .u32 (.t 14)⟩, ⟨some 2, none, .mov (.t 15)⟩])
  .ret)))⟩
/-- vizard/vizardref04.Last -/
def I37 : Fn_ := ⟨1, 14, [(2, none)],
  (.seq (.ops [⟨some 1, none, .box true 28 (.t 0)⟩, ⟨some 2, none, .mov (.c (.int .u32 0))⟩])
  (.seq (.seq (.ops [⟨some 3, none, .load true 2 (.t 1)⟩, ⟨some 4, none, .callF false 35 [(.t 3)]⟩, ⟨some 5, none, .un .not (.t 4)⟩])
  (.cond (.t 5)
  (.seq (.ops [⟨some 2, none, .mov (.c (.int .u32 0))⟩])
  .ret)
  .skip))
  (.seq (.ops [⟨some 6, none, .load true 2 (.t 1)⟩, ⟨some 7, none, .callF true 36 [(.t 6)]⟩, ⟨some 8, none, .conv .u64 (.t 7)⟩, ⟨some 9, none, .load true 2 (.t 1)⟩, ⟨some 10, none, .callF true 40 [(.t 9)]⟩, ⟨some 11, none, .bin .add (.t 8) (.t 10)⟩, ⟨some 12, none, .bin .sub (.t 11) (.c (.int .u64 1))⟩, ⟨some 13, none, .conv .u32 (.t 12)⟩, ⟨some 2, none, .mov (.t 13)⟩])
  .ret)))⟩
/-- (vizard/place.Net).Right -/
def I38 : Fn_ := ⟨1, 12, [(2, none)],
  (.seq (.ops [⟨some 1, none, .box true 24 (.t 0)⟩, ⟨some 2, none, .mov (.c (.bool false))⟩])
  (.seq (.ops [⟨some 3, none, .load true 2 (.t 1)⟩, ⟨some 4, none, .faddr false 0 1 (.t 1)⟩, ⟨some 5, none, .load false 1 (.t 4)⟩, ⟨some 6, none, .callF false 16 [(.t 3), (.t 5)]⟩, ⟨some 7, none, .mov (.t 6)⟩, ⟨some 8, (some (7, true)), .faddr false 0 1 (.t 1)⟩, ⟨some 9, (some (7, true)), .load false 1 (.t 8)⟩, ⟨some 10, (some (7, true)), .callF false 18 [(.t 9)]⟩, ⟨some 11, none, .pick (.t 7) (.t 10) (.c (.bool false))⟩, ⟨some 2, none, .mov (.t 11)⟩])
  .ret))⟩
/-- vizard/vizardref04.Right -/
def I39 : Fn_ := ⟨1, 16, [(2, none)],
  (.seq (.ops [⟨some 1, none, .box true 28 (.t 0)⟩, ⟨some 2, none, .mov (.c (.bool false))⟩])
  (.seq (.ops [⟨some 3, none, .load true 2 (.t 1)⟩, ⟨some 4, none, .callF false 35 [(.t 3)]⟩, ⟨some 5, none, .mov (.t 4)⟩, ⟨some 6, (some (5, true)), .load true 2 (.t 1)⟩, ⟨some 7, (some (5, true)), .faddr false 0 1 (.t 1)⟩, ⟨some 8, (some (5, true)), .load false 1 (.t 7)⟩, ⟨some 9, (some (5, true)), .callF false 28 [(.t 6), (.t 8)]⟩, ⟨some 10, none, .pick (.t 5) (.t 9) (.c (.bool false))⟩, ⟨some 11, none, .mov (.t 10)⟩, ⟨some 12, (some (11, true)), .faddr false 0 1 (.t 1)⟩, ⟨some 13, (some (11, true)), .load false 1 (.t 12)⟩, ⟨some 14, (some (11, true)), .callF false 26 [(.t 13)]⟩, ⟨some 15, none, .pick (.t 11) (.t 14) (.c (.bool false))⟩, ⟨some 2, none, .mov (.t 15)⟩])
  .ret))⟩
/-- vizard/vizardref04.size -/
def I40 : Fn_ := ⟨1, 14, [(2, none)],
  (.seq (.ops [⟨some 1, none, .box true 28 (.t 0)⟩, ⟨some 2, none, .mov (.c (.int .u64 0))⟩])
  (.seq (.ops [⟨some 3, none, .mov (.c (.int .u64 1))⟩])
  (.seq (.seq (.ops [⟨some 5, none, .faddr false 1 1 (.t 1)⟩, ⟨some 6, none, .load false 1 (.t 5)⟩, ⟨some 4, none, .mov (.t 6)⟩])
  (.block 0 (some [3, 4]) (.loop (some [3, 4]) (.seq (.seq (.ops [⟨some 7, none, .mov (.t 4)⟩, ⟨some 8, none, .bin .lss (.t 7) (.c (.int .i64 32))⟩])
  (.cond (.t 8)
  .skip
  (.exit 0)))
  (.seq (.block 1 (some [3, 4]) (.ops [⟨some 11, none, .mov (.t 3)⟩, ⟨some 12, none, .bin .mul (.t 11) (.c (.int .u64 2))⟩, ⟨some 3, none, .mov (.t 12)⟩]))
  (.ops [⟨some 9, none, .mov (.t 4)⟩, ⟨some 10, none, .bin .add (.t 9) (.c (.int .i64 1))⟩, ⟨some 4, none, .mov (.t 10)⟩]))))))
  (.seq (.ops [⟨some 13, none, .mov (.t 3)⟩, ⟨some 2, none, .mov (.t 13)⟩])
  .ret))))⟩

def fns : FuncId → Option Fn_
  | 3 => some I3
  | 4 => some I4
  | 5 => some I5
  | 6 => some I6
  | 7 => some I7
  | 8 => some I8
  | 9 => some I9
  | 10 => some I10
  | 11 => some I11
  | 12 => some I12
  | 13 => some I13
  | 14 => some I14
  | 15 => some I15
  | 16 => some I16
  | 17 => some I17
  | 18 => some I18
  | 19 => some I19
  | 20 => some I20
  | 21 => some I21
  | 22 => some I22
  | 23 => some I23
  | 24 => some I24
  | 25 => some I25
  | 26 => some I26
  | 27 => some I27
  | 28 => some I28
  | 29 => some I29
  | 30 => some I30
  | 31 => some I31
  | 32 => some I32
  | 33 => some I33
  | 34 => some I34
  | 35 => some I35
  | 36 => some I36
  | 37 => some I37
  | 38 => some I38
  | 39 => some I39
  | 40 => some I40
  | _ => none

def keep : FuncId → Bool
  | _ => false

theorem chk3 : chkFn Try.prog Try.f3 I3 = true := by kernel_rfl
theorem chk4 : chkFn Try.prog Try.f4 I4 = true := by kernel_rfl
theorem chk5 : chkFn Try.prog Try.f5 I5 = true := by kernel_rfl
theorem chk6 : chkFn Try.prog Try.f6 I6 = true := by kernel_rfl
theorem chk7 : chkFn Try.prog Try.f7 I7 = true := by kernel_rfl
theorem chk8 : chkFn Try.prog Try.f8 I8 = true := by kernel_rfl
theorem chk9 : chkFn Try.prog Try.f9 I9 = true := by kernel_rfl
theorem chk10 : chkFn Try.prog Try.f10 I10 = true := by kernel_rfl
theorem chk11 : chkFn Try.prog Try.f11 I11 = true := by kernel_rfl
theorem chk12 : chkFn Try.prog Try.f12 I12 = true := by kernel_rfl
theorem chk13 : chkFn Try.prog Try.f13 I13 = true := by kernel_rfl
theorem chk14 : chkFn Try.prog Try.f14 I14 = true := by kernel_rfl
theorem chk15 : chkFn Try.prog Try.f15 I15 = true := by kernel_rfl
theorem chk16 : chkFn Try.prog Try.f16 I16 = true := by kernel_rfl
theorem chk17 : chkFn Try.prog Try.f17 I17 = true := by kernel_rfl
theorem chk18 : chkFn Try.prog Try.f18 I18 = true := by kernel_rfl
theorem chk19 : chkFn Try.prog Try.f19 I19 = true := by kernel_rfl
theorem chk20 : chkFn Try.prog Try.f20 I20 = true := by kernel_rfl
theorem chk21 : chkFn Try.prog Try.f21 I21 = true := by kernel_rfl
theorem chk22 : chkFn Try.prog Try.f22 I22 = true := by kernel_rfl
theorem chk23 : chkFn Try.prog Try.f23 I23 = true := by kernel_rfl
theorem chk24 : chkFn Try.prog Try.f24 I24 = true := by kernel_rfl
theorem chk25 : chkFn Try.prog Try.f25 I25 = true := by kernel_rfl
theorem chk26 : chkFn Try.prog Try.f26 I26 = true := by kernel_rfl
theorem chk27 : chkFn Try.prog Try.f27 I27 = true := by kernel_rfl
theorem chk28 : chkFn Try.prog Try.f28 I28 = true := by kernel_rfl
theorem chk29 : chkFn Try.prog Try.f29 I29 = true := by kernel_rfl
theorem chk30 : chkFn Try.prog Try.f30 I30 = true := by kernel_rfl
theorem chk31 : chkFn Try.prog Try.f31 I31 = true := by kernel_rfl
theorem chk32 : chkFn Try.prog Try.f32 I32 = true := by kernel_rfl
theorem chk33 : chkFn Try.prog Try.f33 I33 = true := by kernel_rfl
theorem chk34 : chkFn Try.prog Try.f34 I34 = true := by kernel_rfl
theorem chk35 : chkFn Try.prog Try.f35 I35 = true := by kernel_rfl
theorem chk36 : chkFn Try.prog Try.f36 I36 = true := by kernel_rfl
theorem chk37 : chkFn Try.prog Try.f37 I37 = true := by kernel_rfl
theorem chk38 : chkFn Try.prog Try.f38 I38 = true := by kernel_rfl
theorem chk39 : chkFn Try.prog Try.f39 I39 = true := by kernel_rfl
theorem chk40 : chkFn Try.prog Try.f40 I40 = true := by kernel_rfl

theorem fns_ok : ∀ f fn, fns f = some fn → ∃ func, Try.prog.funcs[f]? = some func ∧ chkFn Try.prog func fn = true := by
  intro f fn h
  unfold fns at h
  split at h
  · cases h; exact ⟨Try.f3, Try.func3, chk3⟩
  · cases h; exact ⟨Try.f4, Try.func4, chk4⟩
  · cases h; exact ⟨Try.f5, Try.func5, chk5⟩
  · cases h; exact ⟨Try.f6, Try.func6, chk6⟩
  · cases h; exact ⟨Try.f7, Try.func7, chk7⟩
  · cases h; exact ⟨Try.f8, Try.func8, chk8⟩
  · cases h; exact ⟨Try.f9, Try.func9, chk9⟩
  · cases h; exact ⟨Try.f10, Try.func10, chk10⟩
  · cases h; exact ⟨Try.f11, Try.func11, chk11⟩
  · cases h; exact ⟨Try.f12, Try.func12, chk12⟩
  · cases h; exact ⟨Try.f13, Try.func13, chk13⟩
  · cases h; exact ⟨Try.f14, Try.func14, chk14⟩
  · cases h; exact ⟨Try.f15, Try.func15, chk15⟩
  · cases h; exact ⟨Try.f16, Try.func16, chk16⟩
  · cases h; exact ⟨Try.f17, Try.func17, chk17⟩
  · cases h; exact ⟨Try.f18, Try.func18, chk18⟩
  · cases h; exact ⟨Try.f19, Try.func19, chk19⟩
  · cases h; exact ⟨Try.f20, Try.func20, chk20⟩
  · cases h; exact ⟨Try.f21, Try.func21, chk21⟩
  · cases h; exact ⟨Try.f22, Try.func22, chk22⟩
  · cases h; exact ⟨Try.f23, Try.func23, chk23⟩
  · cases h; exact ⟨Try.f24, Try.func24, chk24⟩
  · cases h; exact ⟨Try.f25, Try.func25, chk25⟩
  · cases h; exact ⟨Try.f26, Try.func26, chk26⟩
  · cases h; exact ⟨Try.f27, Try.func27, chk27⟩
  · cases h; exact ⟨Try.f28, Try.func28, chk28⟩
  · cases h; exact ⟨Try.f29, Try.func29, chk29⟩
  · cases h; exact ⟨Try.f30, Try.func30, chk30⟩
  · cases h; exact ⟨Try.f31, Try.func31, chk31⟩
  · cases h; exact ⟨Try.f32, Try.func32, chk32⟩
  · cases h; exact ⟨Try.f33, Try.func33, chk33⟩
  · cases h; exact ⟨Try.f34, Try.func34, chk34⟩
  · cases h; exact ⟨Try.f35, Try.func35, chk35⟩
  · cases h; exact ⟨Try.f36, Try.func36, chk36⟩
  · cases h; exact ⟨Try.f37, Try.func37, chk37⟩
  · cases h; exact ⟨Try.f38, Try.func38, chk38⟩
  · cases h; exact ⟨Try.f39, Try.func39, chk39⟩
  · cases h; exact ⟨Try.f40, Try.func40, chk40⟩
  · cases h

end Go.Fw.Code_
