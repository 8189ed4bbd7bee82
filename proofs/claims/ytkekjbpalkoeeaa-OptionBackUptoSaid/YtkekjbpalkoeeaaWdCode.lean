/-
  The code of the functions that are evaluated, by program (irgen.py) out of the print of the loaded functions; checked against them below. Conditions: none.
-/
import Derived.Test.YtkekjbpalkoeeaaFwU
import Derived.Test.YtkekjbpalkoeeaaProg
import Derived.KernelRfl
set_option linter.unusedVariables false
set_option maxRecDepth 100000
namespace Go.Fw.Code_
open Go.Proofs

/- gosem.cut.init -/
def I2 : Fn_ := ⟨0, 1, [],
  (.ops [⟨some 0, none, .callF false 1 []⟩])⟩
/- vizard/vizardlaw23.OptionParses -/
def B3_0 : C := (.seq (.seq (.ops [⟨some 43, none, .mov (.t 9)⟩, ⟨some 44, none, .mov (.t 4)⟩, ⟨some 45, none, .mov (.t 8)⟩, ⟨some 46, none, .iaddr 2 (.t 44) (.t 45)⟩, ⟨some 47, none, .faddr false 1 1 (.t 46)⟩, ⟨some 48, none, .load false 1 (.t 47)⟩, ⟨some 49, none, .len (.t 48)⟩, ⟨some 50, none, .bin .lss (.t 43) (.t 49)⟩])
  (.cond (.t 50)
  .skip
  (.exit 2)))
  (.seq (.block 3 (some [0, 3, 4, 8, 9]) (.ops [⟨some 53, none, .mov (.t 4)⟩, ⟨some 54, none, .mov (.t 8)⟩, ⟨some 55, none, .iaddr 2 (.t 53) (.t 54)⟩, ⟨some 56, none, .faddr false 1 1 (.t 55)⟩, ⟨some 57, none, .load false 1 (.t 56)⟩, ⟨some 58, none, .mov (.t 9)⟩, ⟨some 59, none, .iaddr 1 (.t 57) (.t 58)⟩, ⟨some 60, none, .load false 1 (.t 59)⟩, ⟨some 61, none, .bin .add (.t 60) (.c (.int .u8 1))⟩, ⟨some 62, none, .iaddr 1 (.t 57) (.t 58)⟩, ⟨none, none, .store 1 (.t 62) (.t 61)⟩]))
  (.ops [⟨some 51, none, .mov (.t 9)⟩, ⟨some 52, none, .bin .add (.t 51) (.c (.int .i64 1))⟩, ⟨some 9, none, .mov (.t 52)⟩])))
def L3_0 : C := .loop (some [0, 3, 4, 8, 9]) B3_0
theorem L3_0_eq {E : Env} (x : St) : ev E L3_0 x = andThen (ev E B3_0 (restr (some [0, 3, 4, 8, 9]) x)) (ev E L3_0) := ev_loop _ _ x
theorem L3_0_lp {E : Env} (s : Slots) (h : Heap) : ev E L3_0 ⟨s, h⟩ = lp E L3_0 (pickS s [0, 3, 4, 8, 9]) h := lp_of L3_0_eq s h
theorem L3_0_go {E : Env} (s : Slots) (h : Heap) : lp E L3_0 s h = andThen (ev E B3_0 ⟨pickS s [0, 3, 4, 8, 9], h⟩) (ev E L3_0) := lp_go L3_0_eq s h
def B3_1 : C := (.seq (.seq (.ops [⟨some 37, none, .mov (.t 8)⟩, ⟨some 38, none, .mov (.t 4)⟩, ⟨some 39, none, .len (.t 38)⟩, ⟨some 40, none, .bin .lss (.t 37) (.t 39)⟩])
  (.cond (.t 40)
  .skip
  (.exit 0)))
  (.seq (.block 1 (some [0, 3, 4, 8]) (.seq (.ops [⟨some 9, none, .mov (.c (.int .i64 0))⟩])
  (.block 2 (some [0, 3, 4, 8, 9]) L3_0)))
  (.ops [⟨some 41, none, .mov (.t 8)⟩, ⟨some 42, none, .bin .add (.t 41) (.c (.int .i64 1))⟩, ⟨some 8, none, .mov (.t 42)⟩])))
def L3_1 : C := .loop (some [0, 3, 4, 8]) B3_1
theorem L3_1_eq {E : Env} (x : St) : ev E L3_1 x = andThen (ev E B3_1 (restr (some [0, 3, 4, 8]) x)) (ev E L3_1) := ev_loop _ _ x
theorem L3_1_lp {E : Env} (s : Slots) (h : Heap) : ev E L3_1 ⟨s, h⟩ = lp E L3_1 (pickS s [0, 3, 4, 8]) h := lp_of L3_1_eq s h
theorem L3_1_go {E : Env} (s : Slots) (h : Heap) : lp E L3_1 s h = andThen (ev E B3_1 ⟨pickS s [0, 3, 4, 8], h⟩) (ev E L3_1) := lp_go L3_1_eq s h
noncomputable def T3_1 (E : Env) (o : Out) : Option (AV × Heap) := outR [(2, none)] (andThen (endBlock 0 (some [0, 3, 4, 8]) (o)) (ev E (.seq (.ops [⟨some 63, none, .mov (.t 3)⟩, ⟨some 64, none, .mov (.t 0)⟩, ⟨some 65, none, .callF false 26 [(.t 63), (.t 64)]⟩, ⟨some 2, none, .mov (.t 65)⟩])
  .ret)))
noncomputable def T3_0 (E : Env) (o : Out) : Option (AV × Heap) := T3_1 E (andThen (andThen (endBlock 1 (some [0, 3, 4, 8]) (endBlock 2 (some [0, 3, 4, 8, 9]) (o))) (ev E (.ops [⟨some 41, none, .mov (.t 8)⟩, ⟨some 42, none, .bin .add (.t 41) (.c (.int .i64 1))⟩, ⟨some 8, none, .mov (.t 42)⟩]))) (ev E L3_1))
def I3 : Fn_ := ⟨1, 66, [(2, none)],
  (.seq (.ops [⟨some 2, none, .mov (.c (.bool false))⟩])
  (.seq (.seq (.ops [⟨some 10, none, .callF false 20 []⟩, ⟨some 11, none, .un .not (.t 10)⟩])
  (.cond (.t 11)
  (.seq (.ops [⟨some 2, none, .mov (.c (.bool false))⟩])
  .ret)
  .skip))
  (.seq (.seq (.ops [⟨some 12, none, .mov (.t 0)⟩, ⟨some 13, none, .len (.t 12)⟩, ⟨some 14, none, .bin .gtr (.t 13) (.c (.int .i64 3000))⟩])
  (.cond (.t 14)
  (.seq (.ops [⟨some 2, none, .mov (.c (.bool true))⟩])
  .ret)
  .skip))
  (.seq (.ops [⟨some 15, none, .mov (.t 0)⟩, ⟨some 16, none, .callF false 21 [(.t 15)]⟩, ⟨some 3, none, .mov (.t 16)⟩])
  (.seq (.ops [⟨some 18, none, .mov (.t 3)⟩, ⟨some 19, none, .callF false 22 [(.t 18)]⟩, ⟨some 17, none, .mov (.t 19)⟩, ⟨some 20, none, .ext (.t 17) 0⟩, ⟨some 21, none, .ext (.t 17) 1⟩, ⟨some 4, none, .mov (.t 20)⟩, ⟨some 5, none, .mov (.t 21)⟩])
  (.seq (.ops [⟨some 23, none, .mov (.t 0)⟩, ⟨some 24, none, .callF false 23 [(.t 23)]⟩, ⟨some 22, none, .mov (.t 24)⟩, ⟨some 25, none, .ext (.t 22) 0⟩, ⟨some 26, none, .ext (.t 22) 1⟩, ⟨some 6, none, .mov (.t 25)⟩, ⟨some 7, none, .mov (.t 26)⟩])
  (.seq (.seq (.ops [⟨some 27, none, .mov (.t 5)⟩, ⟨some 28, none, .mov (.t 7)⟩, ⟨some 29, none, .bin .neq (.t 27) (.t 28)⟩, ⟨some 30, none, .mov (.t 29)⟩, ⟨some 31, (some (30, false)), .mov (.t 4)⟩, ⟨some 32, (some (30, false)), .callF false 25 [(.t 31)]⟩, ⟨some 33, (some (30, false)), .mov (.t 6)⟩, ⟨some 34, (some (30, false)), .callF false 24 [(.t 32), (.t 33)]⟩, ⟨some 35, (some (30, false)), .un .not (.t 34)⟩, ⟨some 36, none, .pick (.t 30) (.c (.bool true)) (.t 35)⟩])
  (.cond (.t 36)
  (.seq (.ops [⟨some 2, none, .mov (.c (.bool false))⟩])
  .ret)
  .skip))
  (.seq (.seq (.ops [⟨some 8, none, .mov (.c (.int .i64 0))⟩])
  (.block 0 (some [0, 3, 4, 8]) L3_1))
  (.seq (.ops [⟨some 63, none, .mov (.t 3)⟩, ⟨some 64, none, .mov (.t 0)⟩, ⟨some 65, none, .callF false 26 [(.t 63), (.t 64)]⟩, ⟨some 2, none, .mov (.t 65)⟩])
  .ret)))))))))⟩
/- vizard/vizardlaw23.OptionWrites -/
def I4 : Fn_ := ⟨6, 129, [(12, none)],
  (.seq (.ops [⟨some 12, none, .mov (.c (.bool false))⟩])
  (.seq (.seq (.ops [⟨some 25, none, .callF false 20 []⟩, ⟨some 26, none, .un .not (.t 25)⟩])
  (.cond (.t 26)
  (.seq (.ops [⟨some 12, none, .mov (.c (.bool false))⟩])
  .ret)
  .skip))
  (.seq (.seq (.ops [⟨some 27, none, .mov (.t 0)⟩, ⟨some 28, none, .callF false 27 [(.t 27)]⟩, ⟨some 29, none, .mov (.t 28)⟩, ⟨some 30, (some (29, false)), .mov (.t 1)⟩, ⟨some 31, (some (29, false)), .callF false 27 [(.t 30)]⟩, ⟨some 32, none, .pick (.t 29) (.c (.bool true)) (.t 31)⟩])
  (.cond (.t 32)
  (.seq (.ops [⟨some 12, none, .mov (.c (.bool true))⟩])
  .ret)
  .skip))
  (.seq (.ops [⟨some 34, none, .mov (.t 0)⟩, ⟨some 35, none, .callF false 28 [(.t 34)]⟩, ⟨some 33, none, .mov (.t 35)⟩, ⟨some 36, none, .ext (.t 33) 0⟩, ⟨some 37, none, .ext (.t 33) 1⟩, ⟨some 13, none, .mov (.t 36)⟩, ⟨some 14, none, .mov (.t 37)⟩])
  (.seq (.ops [⟨some 39, none, .mov (.t 0)⟩, ⟨some 40, none, .callF false 25 [(.t 39)]⟩, ⟨some 41, none, .callF false 29 [(.t 40)]⟩, ⟨some 38, none, .mov (.t 41)⟩, ⟨some 42, none, .ext (.t 38) 0⟩, ⟨some 43, none, .ext (.t 38) 1⟩, ⟨some 15, none, .mov (.t 42)⟩, ⟨some 16, none, .mov (.t 43)⟩])
  (.seq (.ops [⟨some 45, none, .mov (.t 0)⟩, ⟨some 46, none, .mov (.t 2)⟩, ⟨some 47, none, .callF false 30 [(.t 45), (.t 46)]⟩, ⟨some 44, none, .mov (.t 47)⟩, ⟨some 48, none, .ext (.t 44) 0⟩, ⟨some 49, none, .ext (.t 44) 1⟩, ⟨some 17, none, .mov (.t 48)⟩, ⟨some 18, none, .mov (.t 49)⟩])
  (.seq (.ops [⟨some 51, none, .mov (.t 0)⟩, ⟨some 52, none, .callF false 25 [(.t 51)]⟩, ⟨some 53, none, .mov (.t 2)⟩, ⟨some 54, none, .callF false 31 [(.t 52), (.t 53)]⟩, ⟨some 50, none, .mov (.t 54)⟩, ⟨some 55, none, .ext (.t 50) 0⟩, ⟨some 56, none, .ext (.t 50) 1⟩, ⟨some 19, none, .mov (.t 55)⟩, ⟨some 20, none, .mov (.t 56)⟩])
  (.seq (.ops [⟨some 58, none, .mov (.t 0)⟩, ⟨some 59, none, .mov (.t 2)⟩, ⟨some 60, none, .mov (.t 5)⟩, ⟨some 61, none, .callF false 32 [(.t 58), (.t 59), (.t 60)]⟩, ⟨some 57, none, .mov (.t 61)⟩, ⟨some 62, none, .ext (.t 57) 0⟩, ⟨some 63, none, .ext (.t 57) 1⟩, ⟨some 21, none, .mov (.t 62)⟩, ⟨some 22, none, .mov (.t 63)⟩])
  (.seq (.ops [⟨some 65, none, .mov (.t 0)⟩, ⟨some 66, none, .callF false 25 [(.t 65)]⟩, ⟨some 67, none, .mov (.t 2)⟩, ⟨some 68, none, .mov (.t 5)⟩, ⟨some 69, none, .callF false 33 [(.t 66), (.t 67), (.t 68)]⟩, ⟨some 64, none, .mov (.t 69)⟩, ⟨some 70, none, .ext (.t 64) 0⟩, ⟨some 71, none, .ext (.t 64) 1⟩, ⟨some 23, none, .mov (.t 70)⟩, ⟨some 24, none, .mov (.t 71)⟩])
  (.seq (.ops [⟨some 72, none, .mov (.t 14)⟩, ⟨some 73, none, .mov (.t 16)⟩, ⟨some 74, none, .bin .eql (.t 72) (.t 73)⟩, ⟨some 75, none, .mov (.t 74)⟩, ⟨some 76, (some (75, true)), .mov (.t 13)⟩, ⟨some 77, (some (75, true)), .mov (.t 15)⟩, ⟨some 78, (some (75, true)), .callF false 26 [(.t 76), (.t 77)]⟩, ⟨some 79, none, .pick (.t 75) (.t 78) (.c (.bool false))⟩, ⟨some 80, none, .mov (.t 79)⟩, ⟨some 81, (some (80, true)), .mov (.t 17)⟩, ⟨some 82, (some (80, true)), .mov (.t 19)⟩, ⟨some 83, (some (80, true)), .callF false 26 [(.t 81), (.t 82)]⟩, ⟨some 84, none, .pick (.t 80) (.t 83) (.c (.bool false))⟩, ⟨some 85, none, .mov (.t 84)⟩, ⟨some 86, (some (85, true)), .mov (.t 18)⟩, ⟨some 87, (some (85, true)), .mov (.t 20)⟩, ⟨some 88, (some (85, true)), .binB .eql (.t 86) (.t 87)⟩, ⟨some 89, none, .pick (.t 85) (.t 88) (.c (.bool false))⟩, ⟨some 90, none, .mov (.t 89)⟩, ⟨some 91, (some (90, true)), .mov (.t 21)⟩, ⟨some 92, (some (90, true)), .mov (.t 23)⟩, ⟨some 93, (some (90, true)), .bin .eql (.t 91) (.t 92)⟩, ⟨some 94, none, .pick (.t 90) (.t 93) (.c (.bool false))⟩, ⟨some 95, none, .mov (.t 94)⟩, ⟨some 96, (some (95, true)), .mov (.t 22)⟩, ⟨some 97, (some (95, true)), .mov (.t 24)⟩, ⟨some 98, (some (95, true)), .binB .eql (.t 96) (.t 97)⟩, ⟨some 99, none, .pick (.t 95) (.t 98) (.c (.bool false))⟩, ⟨some 100, none, .mov (.t 99)⟩, ⟨some 101, (some (100, true)), .mov (.t 0)⟩, ⟨some 102, (some (100, true)), .mov (.t 1)⟩, ⟨some 103, (some (100, true)), .callF false 34 [(.t 101), (.t 102)]⟩, ⟨some 104, (some (100, true)), .mov (.t 0)⟩, ⟨some 105, (some (100, true)), .callF false 25 [(.t 104)]⟩, ⟨some 106, (some (100, true)), .mov (.t 1)⟩, ⟨some 107, (some (100, true)), .callF false 25 [(.t 106)]⟩, ⟨some 108, (some (100, true)), .callF false 24 [(.t 105), (.t 107)]⟩, ⟨some 109, (some (100, true)), .binB .eql (.t 103) (.t 108)⟩, ⟨some 110, none, .pick (.t 100) (.t 109) (.c (.bool false))⟩, ⟨some 111, none, .mov (.t 110)⟩, ⟨some 112, (some (111, true)), .mov (.t 2)⟩, ⟨some 113, (some (111, true)), .mov (.t 4)⟩, ⟨some 114, (some (111, true)), .callF false 35 [(.t 112), (.t 113)]⟩, ⟨some 115, (some (111, true)), .mov (.t 2)⟩, ⟨some 116, (some (111, true)), .mov (.t 3)⟩, ⟨some 117, (some (111, true)), .callF false 36 [(.t 115), (.t 116)]⟩, ⟨some 118, (some (111, true)), .buildR 2 35 [(.t 114), (.t 117)]⟩, ⟨some 119, (some (111, true)), .callF false 25 [(.t 118)]⟩, ⟨some 120, (some (111, true)), .mov (.t 2)⟩, ⟨some 121, (some (111, true)), .mov (.t 4)⟩, ⟨some 122, (some (111, true)), .callF false 37 [(.t 120), (.t 121)]⟩, ⟨some 123, (some (111, true)), .mov (.t 2)⟩, ⟨some 124, (some (111, true)), .mov (.t 3)⟩, ⟨some 125, (some (111, true)), .callF false 38 [(.t 123), (.t 124)]⟩, ⟨some 126, (some (111, true)), .buildR 2 52 [(.t 122), (.t 125)]⟩, ⟨some 127, (some (111, true)), .callF false 24 [(.t 119), (.t 126)]⟩, ⟨some 128, none, .pick (.t 111) (.t 127) (.c (.bool false))⟩, ⟨some 12, none, .mov (.t 128)⟩])
  .ret))))))))))⟩
/- vizard/vizardlaw23.OptionBack -/
def I5 : Fn_ := ⟨4, 78, [(8, none)],
  (.seq (.ops [⟨some 8, none, .mov (.c (.bool false))⟩])
  (.seq (.seq (.ops [⟨some 16, none, .callF false 20 []⟩, ⟨some 17, none, .un .not (.t 16)⟩])
  (.cond (.t 17)
  (.seq (.ops [⟨some 8, none, .mov (.c (.bool false))⟩])
  .ret)
  .skip))
  (.seq (.ops [⟨some 19, none, .mov (.t 0)⟩, ⟨some 20, none, .callF false 28 [(.t 19)]⟩, ⟨some 18, none, .mov (.t 20)⟩, ⟨some 21, none, .ext (.t 18) 0⟩, ⟨some 22, none, .ext (.t 18) 1⟩, ⟨some 9, none, .mov (.t 21)⟩, ⟨some 10, none, .mov (.t 22)⟩])
  (.seq (.seq (.ops [⟨some 23, none, .mov (.t 0)⟩, ⟨some 24, none, .callF false 27 [(.t 23)]⟩, ⟨some 25, none, .mov (.t 24)⟩, ⟨some 26, (some (25, false)), .mov (.t 10)⟩, ⟨some 27, (some (25, false)), .bin .neq (.t 26) (.c (.int .i64 0))⟩, ⟨some 28, none, .pick (.t 25) (.c (.bool true)) (.t 27)⟩, ⟨some 29, none, .mov (.t 28)⟩, ⟨some 30, (some (29, false)), .mov (.t 2)⟩, ⟨some 31, (some (29, false)), .len (.t 30)⟩, ⟨some 32, (some (29, false)), .bin .gtr (.t 31) (.c (.int .i64 300))⟩, ⟨some 33, none, .pick (.t 29) (.c (.bool true)) (.t 32)⟩])
  (.cond (.t 33)
  (.seq (.ops [⟨some 8, none, .mov (.c (.bool true))⟩])
  .ret)
  .skip))
  (.seq (.ops [⟨some 34, none, .mov (.t 1)⟩, ⟨some 35, none, .bin .rem (.t 34) (.c (.int .u8 9))⟩, ⟨some 36, none, .conv .i64 (.t 35)⟩, ⟨some 37, none, .mkSl 1 1 5 [(.int .u8 0)] (.t 36)⟩, ⟨some 11, none, .mov (.t 37)⟩])
  (.seq (.ops [⟨some 38, none, .mov (.t 11)⟩, ⟨some 39, none, .mov (.t 9)⟩, ⟨some 40, none, .append 1 1 5 (.t 38) (.t 39)⟩, ⟨some 41, none, .mov (.t 2)⟩, ⟨some 42, none, .append 1 1 5 (.t 40) (.t 41)⟩, ⟨some 11, none, .mov (.t 42)⟩])
  (.seq (.ops [⟨some 44, none, .mov (.t 11)⟩, ⟨some 45, none, .callF false 22 [(.t 44)]⟩, ⟨some 43, none, .mov (.t 45)⟩, ⟨some 46, none, .ext (.t 43) 0⟩, ⟨some 47, none, .ext (.t 43) 1⟩, ⟨some 12, none, .mov (.t 46)⟩, ⟨some 13, none, .mov (.t 47)⟩])
  (.seq (.seq (.ops [⟨some 48, none, .mov (.t 13)⟩, ⟨some 49, none, .bin .neq (.t 48) (.c (.int .i64 0))⟩, ⟨some 50, none, .mov (.t 49)⟩, ⟨some 51, (some (50, false)), .mov (.t 12)⟩, ⟨some 52, (some (50, false)), .mov (.t 0)⟩, ⟨some 53, (some (50, false)), .callF false 34 [(.t 51), (.t 52)]⟩, ⟨some 54, (some (50, false)), .un .not (.t 53)⟩, ⟨some 55, none, .pick (.t 50) (.c (.bool true)) (.t 54)⟩])
  (.cond (.t 55)
  (.seq (.ops [⟨some 8, none, .mov (.c (.bool false))⟩])
  .ret)
  .skip))
  (.seq (.seq (.ops [⟨some 56, none, .mov (.t 3)⟩, ⟨some 57, none, .bin .lss (.t 56) (.c (.int .i64 0))⟩, ⟨some 58, none, .mov (.t 57)⟩, ⟨some 59, (some (58, false)), .mov (.t 3)⟩, ⟨some 60, (some (58, false)), .mov (.t 9)⟩, ⟨some 61, (some (58, false)), .len (.t 60)⟩, ⟨some 62, (some (58, false)), .bin .geq (.t 59) (.t 61)⟩, ⟨some 63, none, .pick (.t 58) (.c (.bool true)) (.t 62)⟩])
  (.cond (.t 63)
  (.seq (.ops [⟨some 8, none, .mov (.c (.bool true))⟩])
  .ret)
  .skip))
  (.seq (.ops [⟨some 65, none, .mov (.t 9)⟩, ⟨some 66, none, .mov (.t 3)⟩, ⟨some 67, none, .slice 1 (.t 65) none (some (.t 66))⟩, ⟨some 68, none, .callF false 22 [(.t 67)]⟩, ⟨some 64, none, .mov (.t 68)⟩, ⟨some 69, none, .ext (.t 64) 0⟩, ⟨some 70, none, .ext (.t 64) 1⟩, ⟨some 14, none, .mov (.t 69)⟩, ⟨some 15, none, .mov (.t 70)⟩])
  (.seq (.ops [⟨some 71, none, .mov (.t 15)⟩, ⟨some 72, none, .bin .eql (.t 71) (.c (.int .i64 12))⟩, ⟨some 73, none, .mov (.t 72)⟩, ⟨some 74, (some (73, true)), .mov (.t 14)⟩, ⟨some 75, (some (73, true)), .len (.t 74)⟩, ⟨some 76, (some (73, true)), .bin .eql (.t 75) (.c (.int .i64 0))⟩, ⟨some 77, none, .pick (.t 73) (.t 76) (.c (.bool false))⟩, ⟨some 8, none, .mov (.t 77)⟩])
  .ret)))))))))))⟩
/- vizard/vizardlaw23.OptionFinds -/
def I6 : Fn_ := ⟨5, 111, [(10, none)],
  (.seq (.ops [⟨some 10, none, .mov (.c (.bool false))⟩])
  (.seq (.seq (.ops [⟨some 20, none, .callF false 20 []⟩, ⟨some 21, none, .un .not (.t 20)⟩])
  (.cond (.t 21)
  (.seq (.ops [⟨some 10, none, .mov (.c (.bool false))⟩])
  .ret)
  .skip))
  (.seq (.seq (.ops [⟨some 22, none, .mov (.t 0)⟩, ⟨some 23, none, .callF false 27 [(.t 22)]⟩, ⟨some 24, none, .mov (.t 23)⟩, ⟨some 25, (some (24, false)), .mov (.t 1)⟩, ⟨some 26, (some (24, false)), .callF false 27 [(.t 25)]⟩, ⟨some 27, none, .pick (.t 24) (.c (.bool true)) (.t 26)⟩, ⟨some 28, none, .mov (.t 27)⟩, ⟨some 29, (some (28, false)), .mov (.t 3)⟩, ⟨some 30, (some (28, false)), .len (.t 29)⟩, ⟨some 31, (some (28, false)), .bin .gtr (.t 30) (.c (.int .i64 300))⟩, ⟨some 32, none, .pick (.t 28) (.c (.bool true)) (.t 31)⟩, ⟨some 33, none, .mov (.t 32)⟩, ⟨some 34, (some (33, false)), .mov (.t 4)⟩, ⟨some 35, (some (33, false)), .len (.t 34)⟩, ⟨some 36, (some (33, false)), .bin .gtr (.t 35) (.c (.int .i64 300))⟩, ⟨some 37, none, .pick (.t 33) (.c (.bool true)) (.t 36)⟩])
  (.cond (.t 37)
  (.seq (.ops [⟨some 10, none, .mov (.c (.bool true))⟩])
  .ret)
  .skip))
  (.seq (.ops [⟨some 39, none, .mov (.t 0)⟩, ⟨some 40, none, .mov (.t 2)⟩, ⟨some 41, none, .callF false 30 [(.t 39), (.t 40)]⟩, ⟨some 38, none, .mov (.t 41)⟩, ⟨some 42, none, .ext (.t 38) 0⟩, ⟨some 43, none, .ext (.t 38) 1⟩, ⟨some 11, none, .mov (.t 42)⟩, ⟨some 12, none, .mov (.t 43)⟩])
  (.seq (.ops [⟨some 44, none, .buildSl 2 35 []⟩, ⟨some 45, none, .mov (.t 0)⟩, ⟨some 46, none, .append 2 32 35 (.t 44) (.t 45)⟩, ⟨some 47, none, .mov (.t 2)⟩, ⟨some 48, none, .mov (.t 3)⟩, ⟨some 49, none, .build [(.int .u8 0), (.rs false 1 [])] [(0, 1, (.t 47)), (1, 1, (.t 48))]⟩, ⟨some 50, none, .mov (.t 2)⟩, ⟨some 51, none, .mov (.t 4)⟩, ⟨some 52, none, .build [(.int .u8 0), (.rs false 1 [])] [(0, 1, (.t 50)), (1, 1, (.t 51))]⟩, ⟨some 53, none, .buildR 2 35 [(.t 49), (.t 52)]⟩, ⟨some 54, none, .append 2 32 35 (.t 46) (.t 53)⟩, ⟨some 13, none, .mov (.t 54)⟩])
  (.seq (.ops [⟨some 55, none, .mov (.t 13)⟩, ⟨some 56, none, .mov (.t 1)⟩, ⟨some 57, none, .append 2 32 35 (.t 55) (.t 56)⟩, ⟨some 13, none, .mov (.t 57)⟩])
  (.seq (.ops [⟨some 59, none, .mov (.t 13)⟩, ⟨some 60, none, .mov (.t 2)⟩, ⟨some 61, none, .callF false 30 [(.t 59), (.t 60)]⟩, ⟨some 58, none, .mov (.t 61)⟩, ⟨some 62, none, .ext (.t 58) 0⟩, ⟨some 63, none, .ext (.t 58) 1⟩, ⟨some 14, none, .mov (.t 62)⟩, ⟨some 15, none, .mov (.t 63)⟩])
  (.seq (.ops [⟨some 65, none, .mov (.t 0)⟩, ⟨some 66, none, .mov (.t 2)⟩, ⟨some 67, none, .callF false 30 [(.t 65), (.t 66)]⟩, ⟨some 64, none, .mov (.t 67)⟩, ⟨some 68, none, .ext (.t 64) 0⟩, ⟨some 69, none, .ext (.t 64) 1⟩, ⟨some 16, none, .mov (.t 68)⟩, ⟨some 17, none, .mov (.t 69)⟩])
  (.seq (.seq (.ops [⟨some 70, none, .mov (.t 15)⟩, ⟨some 71, none, .un .not (.t 70)⟩, ⟨some 72, none, .mov (.t 71)⟩, ⟨some 73, (some (72, false)), .mov (.t 12)⟩, ⟨some 74, (some (72, false)), .mov (.t 17)⟩, ⟨some 75, (some (72, false)), .binB .neq (.t 73) (.t 74)⟩, ⟨some 76, none, .pick (.t 72) (.c (.bool true)) (.t 75)⟩])
  (.cond (.t 76)
  (.seq (.ops [⟨some 10, none, .mov (.c (.bool false))⟩])
  .ret)
  .skip))
  (.seq (.seq (.ops [⟨some 77, none, .mov (.t 12)⟩])
  (.cond (.t 77)
  (.seq (.ops [⟨some 78, none, .mov (.t 14)⟩, ⟨some 79, none, .mov (.t 16)⟩, ⟨some 80, none, .callF false 26 [(.t 78), (.t 79)]⟩, ⟨some 10, none, .mov (.t 80)⟩])
  .ret)
  .skip))
  (.seq (.ops [⟨some 82, none, .mov (.t 13)⟩, ⟨some 83, none, .mov (.t 2)⟩, ⟨some 84, none, .mov (.t 3)⟩, ⟨some 85, none, .len (.t 84)⟩, ⟨some 86, none, .callF false 32 [(.t 82), (.t 83), (.t 85)]⟩, ⟨some 81, none, .mov (.t 86)⟩, ⟨some 87, none, .ext (.t 81) 0⟩, ⟨some 88, none, .ext (.t 81) 1⟩, ⟨some 18, none, .mov (.t 87)⟩, ⟨some 19, none, .mov (.t 88)⟩])
  (.seq (.ops [⟨some 89, none, .mov (.t 14)⟩, ⟨some 90, none, .mov (.t 3)⟩, ⟨some 91, none, .callF false 26 [(.t 89), (.t 90)]⟩, ⟨some 92, none, .mov (.t 91)⟩, ⟨some 93, (some (92, true)), .mov (.t 19)⟩, ⟨some 94, (some (92, true)), .mov (.t 3)⟩, ⟨some 95, (some (92, true)), .len (.t 94)⟩, ⟨some 96, (some (92, true)), .bin .geq (.t 95) (.c (.int .i64 1))⟩, ⟨some 97, (some (92, true)), .mov (.t 96)⟩, ⟨some 98, (some (97, true)), .mov (.t 3)⟩, ⟨some 99, (some (97, true)), .len (.t 98)⟩, ⟨some 100, (some (97, true)), .bin .leq (.t 99) (.c (.int .i64 4))⟩, ⟨some 101, (some (92, true)), .pick (.t 97) (.t 100) (.c (.bool false))⟩, ⟨some 102, (some (92, true)), .binB .eql (.t 93) (.t 101)⟩, ⟨some 103, none, .pick (.t 92) (.t 102) (.c (.bool false))⟩, ⟨some 104, none, .mov (.t 103)⟩, ⟨some 105, (some (104, true)), .mov (.t 19)⟩, ⟨some 106, (some (104, true)), .mov (.t 105)⟩, ⟨some 107, (some (106, false)), .mov (.t 18)⟩, ⟨some 108, (some (106, false)), .bin .eql (.t 107) (.c (.int .u32 0))⟩, ⟨some 109, (some (104, true)), .pick (.t 106) (.c (.bool true)) (.t 108)⟩, ⟨some 110, none, .pick (.t 104) (.t 109) (.c (.bool false))⟩, ⟨some 10, none, .mov (.t 110)⟩])
  .ret))))))))))))⟩
/- vizard/vizardlaw24.BootParses -/
def I7 : Fn_ := ⟨1, 39, [(2, none)],
  (.seq (.ops [⟨some 2, none, .mov (.c (.bool false))⟩])
  (.seq (.seq (.ops [⟨some 8, none, .callF false 39 []⟩, ⟨some 9, none, .un .not (.t 8)⟩])
  (.cond (.t 9)
  (.seq (.ops [⟨some 2, none, .mov (.c (.bool false))⟩])
  .ret)
  .skip))
  (.seq (.seq (.ops [⟨some 10, none, .mov (.t 0)⟩, ⟨some 11, none, .len (.t 10)⟩, ⟨some 12, none, .bin .gtr (.t 11) (.c (.int .i64 3000))⟩])
  (.cond (.t 12)
  (.seq (.ops [⟨some 2, none, .mov (.c (.bool true))⟩])
  .ret)
  .skip))
  (.seq (.ops [⟨some 13, none, .mov (.t 0)⟩, ⟨some 14, none, .callF false 21 [(.t 13)]⟩, ⟨some 3, none, .mov (.t 14)⟩])
  (.seq (.ops [⟨some 16, none, .mov (.t 3)⟩, ⟨some 17, none, .callF false 40 [(.t 16)]⟩, ⟨some 15, none, .mov (.t 17)⟩, ⟨some 18, none, .ext (.t 15) 0⟩, ⟨some 19, none, .ext (.t 15) 1⟩, ⟨some 4, none, .alloc true [(.int .u8 0), (.int .u32 0), (.int .u16 0), (.bool false), (.int .u32 0), (.int .u32 0), (.int .u32 0), (.int .u32 0), (.int .u8 0), (.int .u8 0), (.int .u8 0), (.int .u8 0), (.int .u8 0), (.int .u8 0), (.rs false 2 [])] 62⟩, ⟨none, none, .store 15 (.t 4) (.t 18)⟩, ⟨some 5, none, .mov (.t 19)⟩])
  (.seq (.ops [⟨some 21, none, .mov (.t 0)⟩, ⟨some 22, none, .callF false 41 [(.t 21)]⟩, ⟨some 20, none, .mov (.t 22)⟩, ⟨some 23, none, .ext (.t 20) 0⟩, ⟨some 24, none, .ext (.t 20) 1⟩, ⟨some 6, none, .alloc true [(.int .u8 0), (.int .u32 0), (.int .u16 0), (.bool false), (.int .u32 0), (.int .u32 0), (.int .u32 0), (.int .u32 0), (.int .u8 0), (.int .u8 0), (.int .u8 0), (.int .u8 0), (.int .u8 0), (.int .u8 0), (.rs false 2 [])] 66⟩, ⟨none, none, .store 15 (.t 6) (.t 23)⟩, ⟨some 7, none, .mov (.t 24)⟩])
  (.seq (.ops [⟨some 25, none, .mov (.t 5)⟩, ⟨some 26, none, .mov (.t 7)⟩, ⟨some 27, none, .bin .eql (.t 25) (.t 26)⟩, ⟨some 28, none, .mov (.t 27)⟩, ⟨some 29, (some (28, true)), .load true 15 (.t 4)⟩, ⟨some 30, (some (28, true)), .callF true 43 [(.t 29)]⟩, ⟨some 31, (some (28, true)), .load true 15 (.t 6)⟩, ⟨some 32, (some (28, true)), .callF true 42 [(.t 30), (.t 31)]⟩, ⟨some 33, none, .pick (.t 28) (.t 32) (.c (.bool false))⟩, ⟨some 34, none, .mov (.t 33)⟩, ⟨some 35, (some (34, true)), .mov (.t 3)⟩, ⟨some 36, (some (34, true)), .mov (.t 0)⟩, ⟨some 37, (some (34, true)), .callF true 26 [(.t 35), (.t 36)]⟩, ⟨some 38, none, .pick (.t 34) (.t 37) (.c (.bool false))⟩, ⟨some 2, none, .mov (.t 38)⟩])
  .ret)))))))⟩
/- vizard/vizardlaw24.BootWrites -/
def I8 : Fn_ := ⟨2, 86, [(4, none)],
  (.seq (.ops [⟨some 2, none, .boxR true 15 62 (.t 0)⟩, ⟨some 3, none, .boxR true 15 62 (.t 1)⟩, ⟨some 4, none, .mov (.c (.bool false))⟩])
  (.seq (.seq (.ops [⟨some 11, none, .callF false 39 []⟩, ⟨some 12, none, .un .not (.t 11)⟩])
  (.cond (.t 12)
  (.seq (.ops [⟨some 4, none, .mov (.c (.bool false))⟩])
  .ret)
  .skip))
  (.seq (.seq (.ops [⟨some 13, none, .load true 15 (.t 2)⟩, ⟨some 14, none, .callF false 44 [(.t 13)]⟩, ⟨some 15, none, .mov (.t 14)⟩, ⟨some 16, (some (15, false)), .load true 15 (.t 3)⟩, ⟨some 17, (some (15, false)), .callF false 44 [(.t 16)]⟩, ⟨some 18, none, .pick (.t 15) (.c (.bool true)) (.t 17)⟩])
  (.cond (.t 18)
  (.seq (.ops [⟨some 4, none, .mov (.c (.bool true))⟩])
  .ret)
  .skip))
  (.seq (.ops [⟨some 20, none, .load true 15 (.t 2)⟩, ⟨some 21, none, .callF false 45 [(.t 20)]⟩, ⟨some 19, none, .mov (.t 21)⟩, ⟨some 22, none, .ext (.t 19) 0⟩, ⟨some 23, none, .ext (.t 19) 1⟩, ⟨some 5, none, .mov (.t 22)⟩, ⟨some 6, none, .mov (.t 23)⟩])
  (.seq (.ops [⟨some 25, none, .load true 15 (.t 2)⟩, ⟨some 26, none, .callF false 43 [(.t 25)]⟩, ⟨some 27, none, .callF false 46 [(.t 26)]⟩, ⟨some 24, none, .mov (.t 27)⟩, ⟨some 28, none, .ext (.t 24) 0⟩, ⟨some 29, none, .ext (.t 24) 1⟩, ⟨some 7, none, .mov (.t 28)⟩, ⟨some 8, none, .mov (.t 29)⟩])
  (.seq (.seq (.ops [⟨some 30, none, .mov (.t 6)⟩, ⟨some 31, none, .mov (.t 8)⟩, ⟨some 32, none, .bin .neq (.t 30) (.t 31)⟩, ⟨some 33, none, .mov (.t 32)⟩, ⟨some 34, (some (33, false)), .mov (.t 5)⟩, ⟨some 35, (some (33, false)), .mov (.t 7)⟩, ⟨some 36, (some (33, false)), .callF true 26 [(.t 34), (.t 35)]⟩, ⟨some 37, (some (33, false)), .un .not (.t 36)⟩, ⟨some 38, none, .pick (.t 33) (.c (.bool true)) (.t 37)⟩, ⟨some 39, none, .mov (.t 38)⟩, ⟨some 40, (some (39, false)), .load true 15 (.t 2)⟩, ⟨some 41, (some (39, false)), .callF true 47 [(.t 40)]⟩, ⟨some 42, (some (39, false)), .load true 15 (.t 2)⟩, ⟨some 43, (some (39, false)), .callF true 43 [(.t 42)]⟩, ⟨some 44, (some (39, false)), .callF true 48 [(.t 43)]⟩, ⟨some 45, (some (39, false)), .bin .neq (.t 41) (.t 44)⟩, ⟨some 46, none, .pick (.t 39) (.c (.bool true)) (.t 45)⟩, ⟨some 47, none, .mov (.t 46)⟩, ⟨some 48, (some (47, false)), .load true 15 (.t 2)⟩, ⟨some 49, (some (47, false)), .callF true 49 [(.t 48)]⟩, ⟨some 50, (some (47, false)), .load true 15 (.t 2)⟩, ⟨some 51, (some (47, false)), .callF true 43 [(.t 50)]⟩, ⟨some 52, (some (47, false)), .callF true 50 [(.t 51)]⟩, ⟨some 53, (some (47, false)), .bin .neq (.t 49) (.t 52)⟩, ⟨some 54, none, .pick (.t 47) (.c (.bool true)) (.t 53)⟩, ⟨some 55, none, .mov (.t 54)⟩, ⟨some 56, (some (55, false)), .load true 15 (.t 2)⟩, ⟨some 57, (some (55, false)), .load true 15 (.t 3)⟩, ⟨some 58, (some (55, false)), .callF true 51 [(.t 56), (.t 57)]⟩, ⟨some 59, (some (55, false)), .load true 15 (.t 2)⟩, ⟨some 60, (some (55, false)), .callF true 43 [(.t 59)]⟩, ⟨some 61, (some (55, false)), .load true 15 (.t 3)⟩, ⟨some 62, (some (55, false)), .callF true 43 [(.t 61)]⟩, ⟨some 63, (some (55, false)), .callF true 42 [(.t 60), (.t 62)]⟩, ⟨some 64, (some (55, false)), .binB .neq (.t 58) (.t 63)⟩, ⟨some 65, none, .pick (.t 55) (.c (.bool true)) (.t 64)⟩])
  (.cond (.t 65)
  (.seq (.ops [⟨some 4, none, .mov (.c (.bool false))⟩])
  .ret)
  .skip))
  (.seq (.seq (.ops [⟨some 66, none, .mov (.t 6)⟩, ⟨some 67, none, .bin .neq (.t 66) (.c (.int .i64 0))⟩])
  (.cond (.t 67)
  (.seq (.ops [⟨some 68, none, .mov (.t 5)⟩, ⟨some 69, none, .len (.t 68)⟩, ⟨some 70, none, .bin .eql (.t 69) (.c (.int .i64 0))⟩, ⟨some 4, none, .mov (.t 70)⟩])
  .ret)
  .skip))
  (.seq (.ops [⟨some 72, none, .mov (.t 5)⟩, ⟨some 73, none, .callF false 21 [(.t 72)]⟩, ⟨some 74, none, .buildR 1 5 [(.c (.int .u8 1)), (.c (.int .u8 2)), (.c (.int .u8 3))]⟩, ⟨some 75, none, .append 1 1 5 (.t 73) (.t 74)⟩, ⟨some 76, none, .callF false 40 [(.t 75)]⟩, ⟨some 71, none, .mov (.t 76)⟩, ⟨some 77, none, .ext (.t 71) 0⟩, ⟨some 78, none, .ext (.t 71) 1⟩, ⟨some 9, none, .alloc true [(.int .u8 0), (.int .u32 0), (.int .u16 0), (.bool false), (.int .u32 0), (.int .u32 0), (.int .u32 0), (.int .u32 0), (.int .u8 0), (.int .u8 0), (.int .u8 0), (.int .u8 0), (.int .u8 0), (.int .u8 0), (.rs false 2 [])] 62⟩, ⟨none, none, .store 15 (.t 9) (.t 77)⟩, ⟨some 10, none, .mov (.t 78)⟩])
  (.seq (.ops [⟨some 79, none, .mov (.t 10)⟩, ⟨some 80, none, .bin .eql (.t 79) (.c (.int .i64 0))⟩, ⟨some 81, none, .mov (.t 80)⟩, ⟨some 82, (some (81, true)), .load true 15 (.t 9)⟩, ⟨some 83, (some (81, true)), .load true 15 (.t 2)⟩, ⟨some 84, (some (81, true)), .callF false 51 [(.t 82), (.t 83)]⟩, ⟨some 85, none, .pick (.t 81) (.t 84) (.c (.bool false))⟩, ⟨some 4, none, .mov (.t 85)⟩])
  .ret)))))))))⟩
/- vizard/vizardlaw24.BootAnswers -/
def I9 : Fn_ := ⟨5, 86, [(10, none)],
  (.seq (.ops [⟨some 5, none, .boxR true 15 62 (.t 0)⟩, ⟨some 10, none, .mov (.c (.bool false))⟩])
  (.seq (.seq (.ops [⟨some 14, none, .callF false 39 []⟩, ⟨some 15, none, .un .not (.t 14)⟩])
  (.cond (.t 15)
  (.seq (.ops [⟨some 10, none, .mov (.c (.bool false))⟩])
  .ret)
  .skip))
  (.seq (.seq (.ops [⟨some 16, none, .load true 15 (.t 5)⟩, ⟨some 17, none, .callF false 44 [(.t 16)]⟩, ⟨some 18, none, .mov (.t 17)⟩, ⟨some 19, (some (18, false)), .mov (.t 4)⟩, ⟨some 20, (some (18, false)), .build [(.int .u8 0), (.int .u32 0), (.int .u16 0), (.bool false), (.int .u32 0), (.int .u32 0), (.int .u32 0), (.int .u32 0), (.int .u8 0), (.int .u8 0), (.int .u8 0), (.int .u8 0), (.int .u8 0), (.int .u8 0), (.rs false 2 [])] [(14, 1, (.t 19))]⟩, ⟨some 21, (some (18, false)), .callF false 44 [(.t 20)]⟩, ⟨some 22, none, .pick (.t 18) (.c (.bool true)) (.t 21)⟩])
  (.cond (.t 22)
  (.seq (.ops [⟨some 10, none, .mov (.c (.bool true))⟩])
  .ret)
  .skip))
  (.seq (.ops [⟨some 23, none, .load true 15 (.t 5)⟩, ⟨some 24, none, .mov (.t 1)⟩, ⟨some 25, none, .mov (.t 2)⟩, ⟨some 26, none, .mov (.t 3)⟩, ⟨some 27, none, .mov (.t 4)⟩, ⟨some 28, none, .callF false 52 [(.t 23), (.t 24), (.t 25), (.t 26), (.t 27)]⟩, ⟨some 11, none, .alloc true [(.int .u8 0), (.int .u32 0), (.int .u16 0), (.bool false), (.int .u32 0), (.int .u32 0), (.int .u32 0), (.int .u32 0), (.int .u8 0), (.int .u8 0), (.int .u8 0), (.int .u8 0), (.int .u8 0), (.int .u8 0), (.rs false 2 [])] 62⟩, ⟨none, none, .store 15 (.t 11) (.t 28)⟩])
  (.seq (.seq (.ops [⟨some 29, none, .load true 15 (.t 11)⟩, ⟨some 30, none, .callF true 43 [(.t 29)]⟩, ⟨some 31, none, .load true 15 (.t 5)⟩, ⟨some 32, none, .callF true 43 [(.t 31)]⟩, ⟨some 33, none, .mov (.t 1)⟩, ⟨some 34, none, .mov (.t 2)⟩, ⟨some 35, none, .mov (.t 3)⟩, ⟨some 36, none, .mov (.t 4)⟩, ⟨some 37, none, .callF true 25 [(.t 36)]⟩, ⟨some 38, none, .callF true 53 [(.t 32), (.t 33), (.t 34), (.t 35), (.t 37)]⟩, ⟨some 39, none, .callF true 42 [(.t 30), (.t 38)]⟩, ⟨some 40, none, .un .not (.t 39)⟩])
  (.cond (.t 40)
  (.seq (.ops [⟨some 10, none, .mov (.c (.bool false))⟩])
  .ret)
  .skip))
  (.seq (.ops [⟨some 42, none, .faddr false 14 1 (.t 11)⟩, ⟨some 43, none, .load false 1 (.t 42)⟩, ⟨some 44, none, .callF false 32 [(.t 43), (.c (.int .u8 54)), (.c (.int .i64 4))]⟩, ⟨some 41, none, .mov (.t 44)⟩, ⟨some 45, none, .ext (.t 41) 0⟩, ⟨some 46, none, .ext (.t 41) 1⟩, ⟨some 12, none, .mov (.t 45)⟩, ⟨some 13, none, .mov (.t 46)⟩])
  (.seq (.ops [⟨some 47, none, .mov (.t 13)⟩, ⟨some 48, none, .mov (.t 47)⟩, ⟨some 49, (some (48, true)), .mov (.t 12)⟩, ⟨some 50, (some (48, true)), .mov (.t 3)⟩, ⟨some 51, (some (48, true)), .bin .eql (.t 49) (.t 50)⟩, ⟨some 52, none, .pick (.t 48) (.t 51) (.c (.bool false))⟩, ⟨some 53, none, .mov (.t 52)⟩, ⟨some 54, (some (53, true)), .load true 15 (.t 11)⟩, ⟨some 55, (some (53, true)), .callF false 47 [(.t 54)]⟩, ⟨some 56, (some (53, true)), .mov (.t 1)⟩, ⟨some 57, (some (53, true)), .conv .u8 (.t 56)⟩, ⟨some 58, (some (53, true)), .conv .i64 (.t 57)⟩, ⟨some 59, (some (53, true)), .bin .eql (.t 55) (.t 58)⟩, ⟨some 60, none, .pick (.t 53) (.t 59) (.c (.bool false))⟩, ⟨some 61, none, .mov (.t 60)⟩, ⟨some 62, (some (61, true)), .faddr false 1 1 (.t 11)⟩, ⟨some 63, (some (61, true)), .load false 1 (.t 62)⟩, ⟨some 64, (some (61, true)), .faddr false 1 1 (.t 5)⟩, ⟨some 65, (some (61, true)), .load false 1 (.t 64)⟩, ⟨some 66, (some (61, true)), .bin .eql (.t 63) (.t 65)⟩, ⟨some 67, none, .pick (.t 61) (.t 66) (.c (.bool false))⟩, ⟨some 68, none, .mov (.t 67)⟩, ⟨some 69, (some (68, true)), .faddr true 8 6 (.t 11)⟩, ⟨some 70, (some (68, true)), .load true 6 (.t 69)⟩, ⟨some 71, (some (68, true)), .faddr true 8 6 (.t 5)⟩, ⟨some 72, (some (68, true)), .load true 6 (.t 71)⟩, ⟨some 73, (some (68, true)), .eqS false [1, 1, 1, 1, 1, 1] (.t 70) (.t 72)⟩, ⟨some 74, none, .pick (.t 68) (.t 73) (.c (.bool false))⟩, ⟨some 75, none, .mov (.t 74)⟩, ⟨some 76, (some (75, true)), .faddr false 5 1 (.t 11)⟩, ⟨some 77, (some (75, true)), .load false 1 (.t 76)⟩, ⟨some 78, (some (75, true)), .mov (.t 2)⟩, ⟨some 79, (some (75, true)), .bin .eql (.t 77) (.t 78)⟩, ⟨some 80, none, .pick (.t 75) (.t 79) (.c (.bool false))⟩, ⟨some 81, none, .mov (.t 80)⟩, ⟨some 82, (some (81, true)), .faddr false 0 1 (.t 11)⟩, ⟨some 83, (some (81, true)), .load false 1 (.t 82)⟩, ⟨some 84, (some (81, true)), .bin .eql (.t 83) (.c (.int .u8 2))⟩, ⟨some 85, none, .pick (.t 81) (.t 84) (.c (.bool false))⟩, ⟨some 10, none, .mov (.t 85)⟩])
  .ret)))))))⟩
/- vizard/vizardlaw24.BootClients -/
def I10 : Fn_ := ⟨4, 73, [(8, none)],
  (.seq (.ops [⟨some 4, none, .boxR true 15 62 (.t 0)⟩, ⟨some 5, none, .boxR true 6 60 (.t 1)⟩, ⟨some 6, none, .boxR true 6 60 (.t 2)⟩, ⟨some 8, none, .mov (.c (.bool false))⟩])
  (.seq (.seq (.ops [⟨some 12, none, .callF false 39 []⟩, ⟨some 13, none, .un .not (.t 12)⟩])
  (.cond (.t 13)
  (.seq (.ops [⟨some 8, none, .mov (.c (.bool false))⟩])
  .ret)
  .skip))
  (.seq (.seq (.ops [⟨some 14, none, .load true 15 (.t 4)⟩, ⟨some 15, none, .callF false 44 [(.t 14)]⟩, ⟨some 16, none, .mov (.t 15)⟩, ⟨some 17, (some (16, false)), .mov (.t 3)⟩, ⟨some 18, (some (16, false)), .len (.t 17)⟩, ⟨some 19, (some (16, false)), .bin .gtr (.t 18) (.c (.int .i64 300))⟩, ⟨some 20, none, .pick (.t 16) (.c (.bool true)) (.t 19)⟩])
  (.cond (.t 20)
  (.seq (.ops [⟨some 8, none, .mov (.c (.bool true))⟩])
  .ret)
  .skip))
  (.seq (.ops [⟨some 21, none, .load true 15 (.t 4)⟩, ⟨some 9, none, .alloc true [(.int .u8 0), (.int .u32 0), (.int .u16 0), (.bool false), (.int .u32 0), (.int .u32 0), (.int .u32 0), (.int .u32 0), (.int .u8 0), (.int .u8 0), (.int .u8 0), (.int .u8 0), (.int .u8 0), (.int .u8 0), (.rs false 2 [])] 62⟩, ⟨none, none, .store 15 (.t 9) (.t 21)⟩])
  (.seq (.ops [⟨some 22, none, .load true 15 (.t 4)⟩, ⟨some 10, none, .alloc true [(.int .u8 0), (.int .u32 0), (.int .u16 0), (.bool false), (.int .u32 0), (.int .u32 0), (.int .u32 0), (.int .u32 0), (.int .u8 0), (.int .u8 0), (.int .u8 0), (.int .u8 0), (.int .u8 0), (.int .u8 0), (.rs false 2 [])] 62⟩, ⟨none, none, .store 15 (.t 10) (.t 22)⟩])
  (.seq (.ops [⟨some 23, none, .load true 6 (.t 5)⟩, ⟨some 24, none, .faddr true 8 6 (.t 9)⟩, ⟨none, none, .store 6 (.t 24) (.t 23)⟩])
  (.seq (.ops [⟨some 25, none, .load true 6 (.t 6)⟩, ⟨some 26, none, .faddr true 8 6 (.t 10)⟩, ⟨none, none, .store 6 (.t 26) (.t 25)⟩])
  (.seq (.ops [⟨some 27, none, .faddr false 14 1 (.t 9)⟩, ⟨none, none, .store 1 (.t 27) (.c (.rs false 2 []))⟩])
  (.seq (.ops [⟨some 28, none, .callF false 36 [(.c (.int .u8 53)), (.c (.int .u8 1))]⟩, ⟨some 29, none, .build [(.int .u8 0), (.rs false 1 [])] [(0, 1, (.c (.int .u8 61)))]⟩, ⟨some 30, none, .buildR 2 35 [(.t 28), (.t 29)]⟩, ⟨some 31, none, .faddr false 14 1 (.t 10)⟩, ⟨none, none, .store 1 (.t 31) (.t 30)⟩])
  (.seq (.ops [⟨some 32, none, .load true 15 (.t 4)⟩, ⟨some 11, none, .alloc true [(.int .u8 0), (.int .u32 0), (.int .u16 0), (.bool false), (.int .u32 0), (.int .u32 0), (.int .u32 0), (.int .u32 0), (.int .u8 0), (.int .u8 0), (.int .u8 0), (.int .u8 0), (.int .u8 0), (.int .u8 0), (.rs false 2 [])] 62⟩, ⟨none, none, .store 15 (.t 11) (.t 32)⟩])
  (.seq (.ops [⟨some 33, none, .mov (.t 3)⟩, ⟨some 34, none, .build [(.int .u8 0), (.rs false 1 [])] [(0, 1, (.c (.int .u8 61))), (1, 1, (.t 33))]⟩, ⟨some 35, none, .buildR 2 35 [(.t 34)]⟩, ⟨some 36, none, .faddr false 14 1 (.t 11)⟩, ⟨none, none, .store 1 (.t 36) (.t 35)⟩])
  (.seq (.seq (.ops [⟨some 37, none, .load true 15 (.t 9)⟩, ⟨some 38, none, .callF true 49 [(.t 37)]⟩, ⟨some 39, none, .load true 15 (.t 10)⟩, ⟨some 40, none, .callF true 49 [(.t 39)]⟩, ⟨some 41, none, .bin .eql (.t 38) (.t 40)⟩, ⟨some 42, none, .load true 6 (.t 5)⟩, ⟨some 43, none, .load true 6 (.t 6)⟩, ⟨some 44, none, .eqS false [1, 1, 1, 1, 1, 1] (.t 42) (.t 43)⟩, ⟨some 45, none, .binB .neq (.t 41) (.t 44)⟩, ⟨some 46, none, .mov (.t 45)⟩, ⟨some 47, (some (46, false)), .load true 15 (.t 9)⟩, ⟨some 48, (some (46, false)), .callF true 49 [(.t 47)]⟩, ⟨some 49, (some (46, false)), .lenS (.t 48)⟩, ⟨some 50, (some (46, false)), .bin .neq (.t 49) (.c (.int .i64 7))⟩, ⟨some 51, none, .pick (.t 46) (.c (.bool true)) (.t 50)⟩])
  (.cond (.t 51)
  (.seq (.ops [⟨some 8, none, .mov (.c (.bool false))⟩])
  .ret)
  .skip))
  (.seq (.ops [⟨some 52, none, .mov (.t 3)⟩, ⟨some 53, none, .len (.t 52)⟩, ⟨some 54, none, .bin .eql (.t 53) (.c (.int .i64 0))⟩, ⟨some 55, none, .mov (.t 54)⟩, ⟨some 56, (some (55, true)), .load true 15 (.t 11)⟩, ⟨some 57, (some (55, true)), .callF true 49 [(.t 56)]⟩, ⟨some 58, (some (55, true)), .lenS (.t 57)⟩, ⟨some 59, (some (55, true)), .bin .eql (.t 58) (.c (.int .i64 7))⟩, ⟨some 60, none, .pick (.t 55) (.t 59) (.c (.bool false))⟩, ⟨some 61, none, .mov (.t 60)⟩, ⟨some 62, (some (61, false)), .mov (.t 3)⟩, ⟨some 63, (some (61, false)), .len (.t 62)⟩, ⟨some 64, (some (61, false)), .bin .gtr (.t 63) (.c (.int .i64 0))⟩, ⟨some 65, (some (61, false)), .mov (.t 64)⟩, ⟨some 66, (some (65, true)), .load true 15 (.t 11)⟩, ⟨some 67, (some (65, true)), .callF true 49 [(.t 66)]⟩, ⟨some 68, (some (65, true)), .mov (.t 3)⟩, ⟨some 69, (some (65, true)), .toStr (.t 68)⟩, ⟨some 70, (some (65, true)), .bin .eql (.t 67) (.t 69)⟩, ⟨some 71, (some (61, false)), .pick (.t 65) (.t 70) (.c (.bool false))⟩, ⟨some 72, none, .pick (.t 61) (.c (.bool true)) (.t 71)⟩, ⟨some 8, none, .mov (.t 72)⟩])
  .ret)))))))))))))⟩
/- vizard/vizardlaw24.BootSizes -/
def I11 : Fn_ := ⟨5, 114, [(10, none)],
  (.seq (.ops [⟨some 5, none, .boxR true 15 62 (.t 0)⟩, ⟨some 10, none, .mov (.c (.bool false))⟩])
  (.seq (.seq (.ops [⟨some 22, none, .callF false 39 []⟩, ⟨some 23, none, .un .not (.t 22)⟩])
  (.cond (.t 23)
  (.seq (.ops [⟨some 10, none, .mov (.c (.bool false))⟩])
  .ret)
  .skip))
  (.seq (.seq (.ops [⟨some 24, none, .load true 15 (.t 5)⟩, ⟨some 25, none, .callF false 44 [(.t 24)]⟩])
  (.cond (.t 25)
  (.seq (.ops [⟨some 10, none, .mov (.c (.bool true))⟩])
  .ret)
  .skip))
  (.seq (.ops [⟨some 27, none, .faddr false 14 1 (.t 5)⟩, ⟨some 28, none, .load false 1 (.t 27)⟩, ⟨some 29, none, .callF false 28 [(.t 28)]⟩, ⟨some 26, none, .mov (.t 29)⟩, ⟨some 30, none, .ext (.t 26) 0⟩, ⟨some 31, none, .ext (.t 26) 1⟩, ⟨some 11, none, .mov (.t 30)⟩, ⟨some 12, none, .mov (.t 31)⟩])
  (.seq (.ops [⟨some 33, none, .load true 15 (.t 5)⟩, ⟨some 34, none, .callF false 45 [(.t 33)]⟩, ⟨some 32, none, .mov (.t 34)⟩, ⟨some 35, none, .ext (.t 32) 0⟩, ⟨some 36, none, .ext (.t 32) 1⟩, ⟨some 13, none, .mov (.t 35)⟩, ⟨some 14, none, .mov (.t 36)⟩])
  (.seq (.seq (.ops [⟨some 37, none, .mov (.t 14)⟩, ⟨some 38, none, .bin .eql (.t 37) (.c (.int .i64 0))⟩, ⟨some 39, none, .mov (.t 38)⟩, ⟨some 40, (some (39, true)), .mov (.t 12)⟩, ⟨some 41, (some (39, true)), .bin .neq (.t 40) (.c (.int .i64 0))⟩, ⟨some 42, (some (39, true)), .mov (.t 41)⟩, ⟨some 43, (some (42, false)), .mov (.t 13)⟩, ⟨some 44, (some (42, false)), .len (.t 43)⟩, ⟨some 45, (some (42, false)), .mov (.t 11)⟩, ⟨some 46, (some (42, false)), .len (.t 45)⟩, ⟨some 47, (some (42, false)), .bin .add (.c (.int .i64 240)) (.t 46)⟩, ⟨some 48, (some (42, false)), .bin .neq (.t 44) (.t 47)⟩, ⟨some 49, (some (39, true)), .pick (.t 42) (.c (.bool true)) (.t 48)⟩, ⟨some 50, (some (39, true)), .mov (.t 49)⟩, ⟨some 51, (some (50, false)), .mov (.t 13)⟩, ⟨some 52, (some (50, false)), .slice 1 (.t 51) (some (.c (.int .i64 240))) none⟩, ⟨some 53, (some (50, false)), .mov (.t 11)⟩, ⟨some 54, (some (50, false)), .callF false 26 [(.t 52), (.t 53)]⟩, ⟨some 55, (some (50, false)), .un .not (.t 54)⟩, ⟨some 56, (some (39, true)), .pick (.t 50) (.c (.bool true)) (.t 55)⟩, ⟨some 57, none, .pick (.t 39) (.t 56) (.c (.bool false))⟩])
  (.cond (.t 57)
  (.seq (.ops [⟨some 10, none, .mov (.c (.bool false))⟩])
  .ret)
  .skip))
  (.seq (.ops [⟨some 58, none, .load true 15 (.t 5)⟩, ⟨some 59, none, .mov (.t 1)⟩, ⟨some 60, none, .conv .i64 (.t 59)⟩, ⟨some 61, none, .mov (.t 2)⟩, ⟨some 62, none, .mov (.t 3)⟩, ⟨some 63, none, .mov (.t 4)⟩, ⟨some 64, none, .callF true 35 [(.c (.int .u8 1)), (.t 63)]⟩, ⟨some 65, none, .buildR 2 35 [(.t 64)]⟩, ⟨some 66, none, .callF true 52 [(.t 58), (.t 60), (.t 61), (.t 62), (.t 65)]⟩, ⟨some 15, none, .alloc true [(.int .u8 0), (.int .u32 0), (.int .u16 0), (.bool false), (.int .u32 0), (.int .u32 0), (.int .u32 0), (.int .u32 0), (.int .u8 0), (.int .u8 0), (.int .u8 0), (.int .u8 0), (.int .u8 0), (.int .u8 0), (.rs false 2 [])] 62⟩, ⟨none, none, .store 15 (.t 15) (.t 66)⟩])
  (.seq (.ops [⟨some 68, none, .load true 15 (.t 15)⟩, ⟨some 69, none, .callF false 45 [(.t 68)]⟩, ⟨some 67, none, .mov (.t 69)⟩, ⟨some 70, none, .ext (.t 67) 0⟩, ⟨some 71, none, .ext (.t 67) 1⟩, ⟨some 16, none, .mov (.t 70)⟩, ⟨some 17, none, .mov (.t 71)⟩])
  (.seq (.ops [⟨some 73, none, .mov (.t 16)⟩, ⟨some 74, none, .callF false 40 [(.t 73)]⟩, ⟨some 72, none, .mov (.t 74)⟩, ⟨some 75, none, .ext (.t 72) 0⟩, ⟨some 76, none, .ext (.t 72) 1⟩, ⟨some 18, none, .alloc true [(.int .u8 0), (.int .u32 0), (.int .u16 0), (.bool false), (.int .u32 0), (.int .u32 0), (.int .u32 0), (.int .u32 0), (.int .u8 0), (.int .u8 0), (.int .u8 0), (.int .u8 0), (.int .u8 0), (.int .u8 0), (.rs false 2 [])] 62⟩, ⟨none, none, .store 15 (.t 18) (.t 75)⟩, ⟨some 19, none, .mov (.t 76)⟩])
  (.seq (.ops [⟨some 78, none, .faddr false 14 1 (.t 18)⟩, ⟨some 79, none, .load false 1 (.t 78)⟩, ⟨some 80, none, .callF false 32 [(.t 79), (.c (.int .u8 1)), (.c (.int .i64 4))]⟩, ⟨some 77, none, .mov (.t 80)⟩, ⟨some 81, none, .ext (.t 77) 0⟩, ⟨some 82, none, .ext (.t 77) 1⟩, ⟨some 20, none, .mov (.t 81)⟩, ⟨some 21, none, .mov (.t 82)⟩])
  (.seq (.ops [⟨some 83, none, .mov (.t 17)⟩, ⟨some 84, none, .bin .eql (.t 83) (.c (.int .i64 0))⟩, ⟨some 85, none, .mov (.t 84)⟩, ⟨some 86, (some (85, true)), .mov (.t 19)⟩, ⟨some 87, (some (85, true)), .bin .eql (.t 86) (.c (.int .i64 0))⟩, ⟨some 88, none, .pick (.t 85) (.t 87) (.c (.bool false))⟩, ⟨some 89, none, .mov (.t 88)⟩, ⟨some 90, (some (89, true)), .load true 15 (.t 18)⟩, ⟨some 91, (some (89, true)), .load true 15 (.t 15)⟩, ⟨some 92, (some (89, true)), .callF false 51 [(.t 90), (.t 91)]⟩, ⟨some 93, none, .pick (.t 89) (.t 92) (.c (.bool false))⟩, ⟨some 94, none, .mov (.t 93)⟩, ⟨some 95, (some (94, true)), .mov (.t 16)⟩, ⟨some 96, (some (94, true)), .len (.t 95)⟩, ⟨some 97, (some (94, true)), .bin .eql (.t 96) (.c (.int .i64 256))⟩, ⟨some 98, none, .pick (.t 94) (.t 97) (.c (.bool false))⟩, ⟨some 99, none, .mov (.t 98)⟩, ⟨some 100, (some (99, true)), .mov (.t 21)⟩, ⟨some 101, none, .pick (.t 99) (.t 100) (.c (.bool false))⟩, ⟨some 102, none, .mov (.t 101)⟩, ⟨some 103, (some (102, true)), .mov (.t 20)⟩, ⟨some 104, (some (102, true)), .mov (.t 4)⟩, ⟨some 105, (some (102, true)), .bin .eql (.t 103) (.t 104)⟩, ⟨some 106, none, .pick (.t 102) (.t 105) (.c (.bool false))⟩, ⟨some 107, none, .mov (.t 106)⟩, ⟨some 108, (some (107, true)), .load true 15 (.t 18)⟩, ⟨some 109, (some (107, true)), .callF false 47 [(.t 108)]⟩, ⟨some 110, (some (107, true)), .mov (.t 1)⟩, ⟨some 111, (some (107, true)), .conv .i64 (.t 110)⟩, ⟨some 112, (some (107, true)), .bin .eql (.t 109) (.t 111)⟩, ⟨some 113, none, .pick (.t 107) (.t 112) (.c (.bool false))⟩, ⟨some 10, none, .mov (.t 113)⟩])
  .ret)))))))))))⟩
/- vizard/vizardlaw23.alive -/
def I20 : Fn_ := ⟨0, 130, [(0, none)],
  (.seq (.ops [⟨some 0, none, .mov (.c (.bool false))⟩])
  (.seq (.ops [⟨some 20, none, .buildR 1 5 [(.c (.int .u8 53)), (.c (.int .u8 1)), (.c (.int .u8 1)), (.c (.int .u8 0)), (.c (.int .u8 54)), (.c (.int .u8 4)), (.c (.int .u8 10)), (.c (.int .u8 0)), (.c (.int .u8 0)), (.c (.int .u8 1)), (.c (.int .u8 255)), (.c (.int .u8 9))]⟩, ⟨some 21, none, .callF false 22 [(.t 20)]⟩, ⟨some 19, none, .mov (.t 21)⟩, ⟨some 22, none, .ext (.t 19) 0⟩, ⟨some 23, none, .ext (.t 19) 1⟩, ⟨some 1, none, .mov (.t 22)⟩, ⟨some 2, none, .mov (.t 23)⟩])
  (.seq (.ops [⟨some 25, none, .buildR 1 5 [(.c (.int .u8 53)), (.c (.int .u8 1)), (.c (.int .u8 1))]⟩, ⟨some 26, none, .callF false 22 [(.t 25)]⟩, ⟨some 24, none, .mov (.t 26)⟩, ⟨some 27, none, .ext (.t 24) 0⟩, ⟨some 28, none, .ext (.t 24) 1⟩, ⟨some 3, none, .mov (.t 27)⟩, ⟨some 4, none, .mov (.t 28)⟩])
  (.seq (.ops [⟨some 30, none, .mov (.t 1)⟩, ⟨some 31, none, .callF false 28 [(.t 30)]⟩, ⟨some 29, none, .mov (.t 31)⟩, ⟨some 32, none, .ext (.t 29) 0⟩, ⟨some 33, none, .ext (.t 29) 1⟩, ⟨some 5, none, .mov (.t 32)⟩, ⟨some 6, none, .mov (.t 33)⟩])
  (.seq (.ops [⟨some 35, none, .build [(.int .u8 0), (.rs false 1 [])] []⟩, ⟨some 36, none, .buildR 2 35 [(.t 35)]⟩, ⟨some 37, none, .callF false 28 [(.t 36)]⟩, ⟨some 34, none, .mov (.t 37)⟩, ⟨some 38, none, .ext (.t 34) 0⟩, ⟨some 39, none, .ext (.t 34) 1⟩, ⟨some 7, none, .mov (.t 38)⟩, ⟨some 8, none, .mov (.t 39)⟩])
  (.seq (.ops [⟨some 41, none, .mkSl 1 1 5 [(.int .u8 0)] (.c (.int .i64 256))⟩, ⟨some 42, none, .build [(.int .u8 0), (.rs false 1 [])] [(0, 1, (.c (.int .u8 1))), (1, 1, (.t 41))]⟩, ⟨some 43, none, .buildSl 2 35 [(.t 42)]⟩, ⟨some 44, none, .callF false 28 [(.t 43)]⟩, ⟨some 40, none, .mov (.t 44)⟩, ⟨some 45, none, .ext (.t 40) 0⟩, ⟨some 46, none, .ext (.t 40) 1⟩, ⟨some 9, none, .mov (.t 45)⟩, ⟨some 10, none, .mov (.t 46)⟩])
  (.seq (.ops [⟨some 48, none, .mov (.t 1)⟩, ⟨some 49, none, .callF false 30 [(.t 48), (.c (.int .u8 54))]⟩, ⟨some 47, none, .mov (.t 49)⟩, ⟨some 50, none, .ext (.t 47) 0⟩, ⟨some 51, none, .ext (.t 47) 1⟩, ⟨some 11, none, .mov (.t 50)⟩, ⟨some 12, none, .mov (.t 51)⟩])
  (.seq (.ops [⟨some 53, none, .mov (.t 1)⟩, ⟨some 54, none, .callF false 30 [(.t 53), (.c (.int .u8 51))]⟩, ⟨some 52, none, .mov (.t 54)⟩, ⟨some 55, none, .ext (.t 52) 0⟩, ⟨some 56, none, .ext (.t 52) 1⟩, ⟨some 13, none, .mov (.t 55)⟩, ⟨some 14, none, .mov (.t 56)⟩])
  (.seq (.ops [⟨some 58, none, .mov (.t 1)⟩, ⟨some 59, none, .callF false 32 [(.t 58), (.c (.int .u8 54)), (.c (.int .i64 4))]⟩, ⟨some 57, none, .mov (.t 59)⟩, ⟨some 60, none, .ext (.t 57) 0⟩, ⟨some 61, none, .ext (.t 57) 1⟩, ⟨some 15, none, .mov (.t 60)⟩, ⟨some 16, none, .mov (.t 61)⟩])
  (.seq (.ops [⟨some 63, none, .mov (.t 1)⟩, ⟨some 64, none, .callF false 32 [(.t 63), (.c (.int .u8 54)), (.c (.int .i64 1))]⟩, ⟨some 62, none, .mov (.t 64)⟩, ⟨some 65, none, .ext (.t 62) 0⟩, ⟨some 66, none, .ext (.t 62) 1⟩, ⟨some 17, none, .mov (.t 65)⟩, ⟨some 18, none, .mov (.t 66)⟩])
  (.seq (.ops [⟨some 67, none, .mov (.t 2)⟩, ⟨some 68, none, .bin .eql (.t 67) (.c (.int .i64 0))⟩, ⟨some 69, none, .mov (.t 68)⟩, ⟨some 70, (some (69, true)), .mov (.t 1)⟩, ⟨some 71, (some (69, true)), .len (.t 70)⟩, ⟨some 72, (some (69, true)), .bin .eql (.t 71) (.c (.int .i64 2))⟩, ⟨some 73, none, .pick (.t 69) (.t 72) (.c (.bool false))⟩, ⟨some 74, none, .mov (.t 73)⟩, ⟨some 75, (some (74, true)), .mov (.t 4)⟩, ⟨some 76, (some (74, true)), .bin .eql (.t 75) (.c (.int .i64 12))⟩, ⟨some 77, none, .pick (.t 74) (.t 76) (.c (.bool false))⟩, ⟨some 78, none, .mov (.t 77)⟩, ⟨some 79, (some (78, true)), .mov (.t 6)⟩, ⟨some 80, (some (78, true)), .bin .eql (.t 79) (.c (.int .i64 0))⟩, ⟨some 81, none, .pick (.t 78) (.t 80) (.c (.bool false))⟩, ⟨some 82, none, .mov (.t 81)⟩, ⟨some 83, (some (82, true)), .mov (.t 8)⟩, ⟨some 84, (some (82, true)), .bin .eql (.t 83) (.c (.int .i64 10))⟩, ⟨some 85, none, .pick (.t 82) (.t 84) (.c (.bool false))⟩, ⟨some 86, none, .mov (.t 85)⟩, ⟨some 87, (some (86, true)), .mov (.t 10)⟩, ⟨some 88, (some (86, true)), .bin .eql (.t 87) (.c (.int .i64 11))⟩, ⟨some 89, none, .pick (.t 86) (.t 88) (.c (.bool false))⟩, ⟨some 90, none, .mov (.t 89)⟩, ⟨some 91, (some (90, true)), .mov (.t 5)⟩, ⟨some 92, (some (90, true)), .buildR 1 5 [(.c (.int .u8 53)), (.c (.int .u8 1)), (.c (.int .u8 1)), (.c (.int .u8 54)), (.c (.int .u8 4)), (.c (.int .u8 10)), (.c (.int .u8 0)), (.c (.int .u8 0)), (.c (.int .u8 1)), (.c (.int .u8 255))]⟩, ⟨some 93, (some (90, true)), .callF false 26 [(.t 91), (.t 92)]⟩, ⟨some 94, none, .pick (.t 90) (.t 93) (.c (.bool false))⟩, ⟨some 95, none, .mov (.t 94)⟩, ⟨some 96, (some (95, true)), .mov (.t 12)⟩, ⟨some 97, none, .pick (.t 95) (.t 96) (.c (.bool false))⟩, ⟨some 98, none, .mov (.t 97)⟩, ⟨some 99, (some (98, true)), .mov (.t 11)⟩, ⟨some 100, (some (98, true)), .len (.t 99)⟩, ⟨some 101, (some (98, true)), .bin .eql (.t 100) (.c (.int .i64 4))⟩, ⟨some 102, none, .pick (.t 98) (.t 101) (.c (.bool false))⟩, ⟨some 103, none, .mov (.t 102)⟩, ⟨some 104, (some (103, true)), .mov (.t 14)⟩, ⟨some 105, (some (103, true)), .un .not (.t 104)⟩, ⟨some 106, none, .pick (.t 103) (.t 105) (.c (.bool false))⟩, ⟨some 107, none, .mov (.t 106)⟩, ⟨some 108, (some (107, true)), .mov (.t 16)⟩, ⟨some 109, none, .pick (.t 107) (.t 108) (.c (.bool false))⟩, ⟨some 110, none, .mov (.t 109)⟩, ⟨some 111, (some (110, true)), .mov (.t 15)⟩, ⟨some 112, (some (110, true)), .bin .eql (.t 111) (.c (.int .u32 167772161))⟩, ⟨some 113, none, .pick (.t 110) (.t 112) (.c (.bool false))⟩, ⟨some 114, none, .mov (.t 113)⟩, ⟨some 115, (some (114, true)), .mov (.t 18)⟩, ⟨some 116, (some (114, true)), .un .not (.t 115)⟩, ⟨some 117, none, .pick (.t 114) (.t 116) (.c (.bool false))⟩, ⟨some 118, none, .mov (.t 117)⟩, ⟨some 119, (some (118, true)), .mov (.t 1)⟩, ⟨some 120, (some (118, true)), .callF false 36 [(.c (.int .u8 53)), (.c (.int .u8 1))]⟩, ⟨some 121, (some (118, true)), .callF false 35 [(.c (.int .u8 54)), (.c (.int .u32 167772161))]⟩, ⟨some 122, (some (118, true)), .buildR 2 35 [(.t 120), (.t 121)]⟩, ⟨some 123, (some (118, true)), .callF false 34 [(.t 119), (.t 122)]⟩, ⟨some 124, none, .pick (.t 118) (.t 123) (.c (.bool false))⟩, ⟨some 125, none, .mov (.t 124)⟩, ⟨some 126, (some (125, true)), .mov (.t 1)⟩, ⟨some 127, (some (125, true)), .callF false 34 [(.t 126), (.c (.rs false 2 []))]⟩, ⟨some 128, (some (125, true)), .un .not (.t 127)⟩, ⟨some 129, none, .pick (.t 125) (.t 128) (.c (.bool false))⟩, ⟨some 0, none, .mov (.t 129)⟩])
  .ret)))))))))))⟩
/- vizard/vizardref00.Own -/
def I21 : Fn_ := ⟨1, 6, [(2, none)],
  (.seq (.ops [⟨some 2, none, .mov (.c (.rs false 1 []))⟩])
  (.seq (.ops [⟨some 3, none, .buildSl 1 5 []⟩, ⟨some 4, none, .mov (.t 0)⟩, ⟨some 5, none, .append 1 1 5 (.t 3) (.t 4)⟩, ⟨some 2, none, .mov (.t 5)⟩])
  .ret))⟩
/- vizard/option.Parse -/
def B22_0 : C := (.seq (.seq (.ops [⟨some 8, none, .mov (.t 0)⟩, ⟨some 9, none, .len (.t 8)⟩, ⟨some 10, none, .bin .gtr (.t 9) (.c (.int .i64 0))⟩])
  (.cond (.t 10)
  .skip
  (.exit 0)))
  (.block 1 (some [0, 4]) (.seq (.seq (.ops [⟨some 11, none, .mov (.t 0)⟩, ⟨some 12, none, .iaddr 1 (.t 11) (.c (.int .i64 0))⟩, ⟨some 13, none, .load false 1 (.t 12)⟩])
  (.block 2 (some [0, 4, 13]) (.seq (.ops [⟨some 15, none, .bin .eql (.t 13) (.c (.int .u8 255))⟩, ⟨some 14, none, .mov (.t 15)⟩])
  (.cond (.t 14)
  (.seq (.ops [⟨some 16, none, .mov (.t 4)⟩, ⟨some 2, none, .mov (.t 16)⟩, ⟨some 3, none, .mov (.c (.int .i64 0))⟩])
  .ret)
  (.seq (.ops [⟨some 18, none, .bin .eql (.t 13) (.c (.int .u8 0))⟩, ⟨some 17, none, .mov (.t 18)⟩])
  (.cond (.t 17)
  (.seq (.ops [⟨some 19, none, .mov (.t 0)⟩, ⟨some 20, none, .slice 1 (.t 19) (some (.c (.int .i64 1))) none⟩, ⟨some 0, none, .mov (.t 20)⟩])
  (.exit 1))
  .skip))))))
  (.seq (.ops [⟨some 22, none, .mov (.t 0)⟩, ⟨some 23, none, .callF false 78 [(.t 22)]⟩, ⟨some 21, none, .mov (.t 23)⟩, ⟨some 24, none, .ext (.t 21) 0⟩, ⟨some 25, none, .ext (.t 21) 1⟩, ⟨some 26, none, .ext (.t 21) 2⟩, ⟨some 5, none, .alloc true [(.int .u8 0), (.rs false 1 [])] 35⟩, ⟨none, none, .store 2 (.t 5) (.t 24)⟩, ⟨some 6, none, .mov (.t 25)⟩, ⟨some 7, none, .mov (.t 26)⟩])
  (.seq (.seq (.ops [⟨some 27, none, .mov (.t 7)⟩, ⟨some 28, none, .bin .neq (.t 27) (.c (.int .i64 0))⟩])
  (.cond (.t 28)
  (.seq (.ops [⟨some 29, none, .mov (.t 7)⟩, ⟨some 2, none, .mov (.c (.rs false 2 []))⟩, ⟨some 3, none, .mov (.t 29)⟩])
  .ret)
  .skip))
  (.ops [⟨some 30, none, .mov (.t 4)⟩, ⟨some 31, none, .load true 2 (.t 5)⟩, ⟨some 32, none, .buildR 2 35 [(.t 31)]⟩, ⟨some 33, none, .append 2 32 35 (.t 30) (.t 32)⟩, ⟨some 34, none, .mov (.t 6)⟩, ⟨some 4, none, .mov (.t 33)⟩, ⟨some 0, none, .mov (.t 34)⟩]))))))
def L22_0 : C := .loop (some [0, 4]) B22_0
theorem L22_0_eq {E : Env} (x : St) : ev E L22_0 x = andThen (ev E B22_0 (restr (some [0, 4]) x)) (ev E L22_0) := ev_loop _ _ x
theorem L22_0_lp {E : Env} (s : Slots) (h : Heap) : ev E L22_0 ⟨s, h⟩ = lp E L22_0 (pickS s [0, 4]) h := lp_of L22_0_eq s h
theorem L22_0_go {E : Env} (s : Slots) (h : Heap) : lp E L22_0 s h = andThen (ev E B22_0 ⟨pickS s [0, 4], h⟩) (ev E L22_0) := lp_go L22_0_eq s h
noncomputable def T22_0 (E : Env) (o : Out) : Option (AV × Heap) := outR [(2, none), (3, none)] (andThen (endBlock 0 (some [0, 4]) (o)) (ev E (.seq (.ops [⟨some 2, none, .mov (.c (.rs false 2 []))⟩, ⟨some 3, none, .mov (.c (.int .i64 12))⟩])
  .ret)))
def I22 : Fn_ := ⟨1, 35, [(2, none), (3, none)],
  (.seq (.ops [⟨some 2, none, .mov (.c (.rs false 2 []))⟩, ⟨some 3, none, .mov (.c (.int .i64 0))⟩])
  (.seq (.ops [⟨some 4, none, .nilrow 2 35⟩])
  (.seq (.block 0 (some [0, 4]) L22_0)
  (.seq (.ops [⟨some 2, none, .mov (.c (.rs false 2 []))⟩, ⟨some 3, none, .mov (.c (.int .i64 12))⟩])
  .ret))))⟩
/- vizard/vizardref23.Parse -/
def B23_0 : C := (.seq (.seq (.ops [⟨some 8, none, .mov (.t 5)⟩, ⟨some 9, none, .mov (.t 0)⟩, ⟨some 10, none, .len (.t 9)⟩, ⟨some 11, none, .bin .lss (.t 8) (.t 10)⟩])
  (.cond (.t 11)
  .skip
  (.exit 0)))
  (.block 1 (some [0, 4, 5]) (.seq (.seq (.ops [⟨some 12, none, .mov (.t 0)⟩, ⟨some 13, none, .mov (.t 5)⟩, ⟨some 14, none, .iaddr 1 (.t 12) (.t 13)⟩, ⟨some 15, none, .load false 1 (.t 14)⟩, ⟨some 16, none, .bin .eql (.t 15) (.c (.int .u8 255))⟩])
  (.cond (.t 16)
  (.seq (.ops [⟨some 17, none, .mov (.t 4)⟩, ⟨some 2, none, .mov (.t 17)⟩, ⟨some 3, none, .mov (.c (.int .i64 0))⟩])
  .ret)
  .skip))
  (.seq (.seq (.ops [⟨some 18, none, .mov (.t 0)⟩, ⟨some 19, none, .mov (.t 5)⟩, ⟨some 20, none, .iaddr 1 (.t 18) (.t 19)⟩, ⟨some 21, none, .load false 1 (.t 20)⟩, ⟨some 22, none, .bin .eql (.t 21) (.c (.int .u8 0))⟩])
  (.cond (.t 22)
  (.seq (.ops [⟨some 23, none, .mov (.t 5)⟩, ⟨some 24, none, .bin .add (.t 23) (.c (.int .i64 1))⟩, ⟨some 5, none, .mov (.t 24)⟩])
  (.exit 1))
  .skip))
  (.seq (.seq (.ops [⟨some 25, none, .mov (.t 5)⟩, ⟨some 26, none, .bin .add (.t 25) (.c (.int .i64 1))⟩, ⟨some 27, none, .mov (.t 0)⟩, ⟨some 28, none, .len (.t 27)⟩, ⟨some 29, none, .bin .geq (.t 26) (.t 28)⟩, ⟨some 30, none, .mov (.t 29)⟩, ⟨some 31, (some (30, false)), .mov (.t 5)⟩, ⟨some 32, (some (30, false)), .bin .add (.t 31) (.c (.int .i64 2))⟩, ⟨some 33, (some (30, false)), .mov (.t 0)⟩, ⟨some 34, (some (30, false)), .mov (.t 5)⟩, ⟨some 35, (some (30, false)), .bin .add (.t 34) (.c (.int .i64 1))⟩, ⟨some 36, (some (30, false)), .iaddr 1 (.t 33) (.t 35)⟩, ⟨some 37, (some (30, false)), .load false 1 (.t 36)⟩, ⟨some 38, (some (30, false)), .conv .i64 (.t 37)⟩, ⟨some 39, (some (30, false)), .bin .add (.t 32) (.t 38)⟩, ⟨some 40, (some (30, false)), .mov (.t 0)⟩, ⟨some 41, (some (30, false)), .len (.t 40)⟩, ⟨some 42, (some (30, false)), .bin .gtr (.t 39) (.t 41)⟩, ⟨some 43, none, .pick (.t 30) (.c (.bool true)) (.t 42)⟩])
  (.cond (.t 43)
  (.seq (.ops [⟨some 2, none, .mov (.c (.rs false 2 []))⟩, ⟨some 3, none, .mov (.c (.int .i64 12))⟩])
  .ret)
  .skip))
  (.seq (.ops [⟨some 44, none, .mov (.t 0)⟩, ⟨some 45, none, .mov (.t 5)⟩, ⟨some 46, none, .bin .add (.t 45) (.c (.int .i64 1))⟩, ⟨some 47, none, .iaddr 1 (.t 44) (.t 46)⟩, ⟨some 48, none, .load false 1 (.t 47)⟩, ⟨some 49, none, .conv .i64 (.t 48)⟩, ⟨some 6, none, .mov (.t 49)⟩])
  (.seq (.ops [⟨some 50, none, .mov (.t 4)⟩, ⟨some 51, none, .mov (.t 0)⟩, ⟨some 52, none, .mov (.t 5)⟩, ⟨some 53, none, .iaddrR 1 (.t 51) (.t 52)⟩, ⟨some 54, none, .loadC false 1 (.t 53)⟩, ⟨some 55, none, .buildSl 1 5 []⟩, ⟨some 56, none, .mov (.t 0)⟩, ⟨some 57, none, .mov (.t 5)⟩, ⟨some 58, none, .bin .add (.t 57) (.c (.int .i64 2))⟩, ⟨some 59, none, .mov (.t 5)⟩, ⟨some 60, none, .bin .add (.t 59) (.c (.int .i64 2))⟩, ⟨some 61, none, .mov (.t 6)⟩, ⟨some 62, none, .bin .add (.t 60) (.t 61)⟩, ⟨some 63, none, .sliceR 1 (.t 56) (some (.t 58)) (some (.t 62))⟩, ⟨some 64, none, .appF 1 1 5 (.t 55) (.t 63)⟩, ⟨some 65, none, .build [(.int .u8 0), (.rs false 1 [])] [(0, 1, (.t 54)), (1, 1, (.t 64))]⟩, ⟨some 66, none, .buildR 2 52 [(.t 65)]⟩, ⟨some 67, none, .append 2 32 52 (.t 50) (.t 66)⟩, ⟨some 4, none, .mov (.t 67)⟩])
  (.ops [⟨some 68, none, .mov (.t 5)⟩, ⟨some 69, none, .mov (.t 6)⟩, ⟨some 70, none, .bin .add (.c (.int .i64 2)) (.t 69)⟩, ⟨some 71, none, .bin .add (.t 68) (.t 70)⟩, ⟨some 5, none, .mov (.t 71)⟩]))))))))
def L23_0 : C := .loop (some [0, 4, 5]) B23_0
theorem L23_0_eq {E : Env} (x : St) : ev E L23_0 x = andThen (ev E B23_0 (restr (some [0, 4, 5]) x)) (ev E L23_0) := ev_loop _ _ x
theorem L23_0_lp {E : Env} (s : Slots) (h : Heap) : ev E L23_0 ⟨s, h⟩ = lp E L23_0 (pickS s [0, 4, 5]) h := lp_of L23_0_eq s h
theorem L23_0_go {E : Env} (s : Slots) (h : Heap) : lp E L23_0 s h = andThen (ev E B23_0 ⟨pickS s [0, 4, 5], h⟩) (ev E L23_0) := lp_go L23_0_eq s h
noncomputable def T23_0 (E : Env) (o : Out) : Option (AV × Heap) := outR [(2, none), (3, none)] (andThen (endBlock 0 (some [0, 4, 5]) (o)) (ev E (.seq (.ops [⟨some 2, none, .mov (.c (.rs false 2 []))⟩, ⟨some 3, none, .mov (.c (.int .i64 12))⟩])
  .ret)))
def I23 : Fn_ := ⟨1, 72, [(2, none), (3, none)],
  (.seq (.ops [⟨some 2, none, .mov (.c (.rs false 2 []))⟩, ⟨some 3, none, .mov (.c (.int .i64 0))⟩])
  (.seq (.ops [⟨some 7, none, .buildSl 2 52 []⟩, ⟨some 4, none, .mov (.t 7)⟩])
  (.seq (.ops [⟨some 5, none, .mov (.c (.int .i64 0))⟩])
  (.seq (.block 0 (some [0, 4, 5]) L23_0)
  (.seq (.ops [⟨some 2, none, .mov (.c (.rs false 2 []))⟩, ⟨some 3, none, .mov (.c (.int .i64 12))⟩])
  .ret)))))⟩
/- vizard/vizardref23.Same -/
def B24_0 : C := (.seq (.seq (.ops [⟨some 11, none, .mov (.t 5)⟩, ⟨some 12, none, .mov (.t 0)⟩, ⟨some 13, none, .len (.t 12)⟩, ⟨some 14, none, .bin .lss (.t 11) (.t 13)⟩])
  (.cond (.t 14)
  .skip
  (.exit 0)))
  (.seq (.block 1 (some [0, 1, 5]) (.seq (.ops [⟨some 17, none, .mov (.t 0)⟩, ⟨some 18, none, .mov (.t 5)⟩, ⟨some 19, none, .iaddr 2 (.t 17) (.t 18)⟩, ⟨some 20, none, .faddr false 0 1 (.t 19)⟩, ⟨some 21, none, .load false 1 (.t 20)⟩, ⟨some 22, none, .mov (.t 1)⟩, ⟨some 23, none, .mov (.t 5)⟩, ⟨some 24, none, .iaddr 2 (.t 22) (.t 23)⟩, ⟨some 25, none, .faddr false 0 1 (.t 24)⟩, ⟨some 26, none, .load false 1 (.t 25)⟩, ⟨some 27, none, .bin .neq (.t 21) (.t 26)⟩, ⟨some 28, none, .mov (.t 27)⟩, ⟨some 29, (some (28, false)), .mov (.t 0)⟩, ⟨some 30, (some (28, false)), .mov (.t 5)⟩, ⟨some 31, (some (28, false)), .iaddr 2 (.t 29) (.t 30)⟩, ⟨some 32, (some (28, false)), .faddr false 1 1 (.t 31)⟩, ⟨some 33, (some (28, false)), .load false 1 (.t 32)⟩, ⟨some 34, (some (28, false)), .toStr (.t 33)⟩, ⟨some 35, (some (28, false)), .mov (.t 1)⟩, ⟨some 36, (some (28, false)), .mov (.t 5)⟩, ⟨some 37, (some (28, false)), .iaddr 2 (.t 35) (.t 36)⟩, ⟨some 38, (some (28, false)), .faddr false 1 1 (.t 37)⟩, ⟨some 39, (some (28, false)), .load false 1 (.t 38)⟩, ⟨some 40, (some (28, false)), .toStr (.t 39)⟩, ⟨some 41, (some (28, false)), .bin .neq (.t 34) (.t 40)⟩, ⟨some 42, none, .pick (.t 28) (.c (.bool true)) (.t 41)⟩])
  (.cond (.t 42)
  (.seq (.ops [⟨some 4, none, .mov (.c (.bool false))⟩])
  .ret)
  .skip)))
  (.ops [⟨some 15, none, .mov (.t 5)⟩, ⟨some 16, none, .bin .add (.t 15) (.c (.int .i64 1))⟩, ⟨some 5, none, .mov (.t 16)⟩])))
def L24_0 : C := .loop (some [0, 1, 5]) B24_0
theorem L24_0_eq {E : Env} (x : St) : ev E L24_0 x = andThen (ev E B24_0 (restr (some [0, 1, 5]) x)) (ev E L24_0) := ev_loop _ _ x
theorem L24_0_lp {E : Env} (s : Slots) (h : Heap) : ev E L24_0 ⟨s, h⟩ = lp E L24_0 (pickS s [0, 1, 5]) h := lp_of L24_0_eq s h
theorem L24_0_go {E : Env} (s : Slots) (h : Heap) : lp E L24_0 s h = andThen (ev E B24_0 ⟨pickS s [0, 1, 5], h⟩) (ev E L24_0) := lp_go L24_0_eq s h
noncomputable def T24_0 (E : Env) (o : Out) : Option (AV × Heap) := outR [(4, none)] (andThen (endBlock 0 (some [0, 1, 5]) (o)) (ev E (.seq (.ops [⟨some 4, none, .mov (.c (.bool true))⟩])
  .ret)))
def I24 : Fn_ := ⟨2, 43, [(4, none)],
  (.seq (.ops [⟨some 4, none, .mov (.c (.bool false))⟩])
  (.seq (.seq (.ops [⟨some 6, none, .mov (.t 0)⟩, ⟨some 7, none, .len (.t 6)⟩, ⟨some 8, none, .mov (.t 1)⟩, ⟨some 9, none, .len (.t 8)⟩, ⟨some 10, none, .bin .neq (.t 7) (.t 9)⟩])
  (.cond (.t 10)
  (.seq (.ops [⟨some 4, none, .mov (.c (.bool false))⟩])
  .ret)
  .skip))
  (.seq (.seq (.ops [⟨some 5, none, .mov (.c (.int .i64 0))⟩])
  (.block 0 (some [0, 1, 5]) L24_0))
  (.seq (.ops [⟨some 4, none, .mov (.c (.bool true))⟩])
  .ret))))⟩
/- vizard/vizardlaw23.Of -/
def B25_0 : C := (.seq (.seq (.ops [⟨some 6, none, .mov (.t 4)⟩, ⟨some 7, none, .mov (.t 0)⟩, ⟨some 8, none, .len (.t 7)⟩, ⟨some 9, none, .bin .lss (.t 6) (.t 8)⟩])
  (.cond (.t 9)
  .skip
  (.exit 0)))
  (.seq (.block 1 (some [0, 3, 4]) (.ops [⟨some 12, none, .mov (.t 3)⟩, ⟨some 13, none, .mov (.t 0)⟩, ⟨some 14, none, .mov (.t 4)⟩, ⟨some 15, none, .iaddr 2 (.t 13) (.t 14)⟩, ⟨some 16, none, .faddr false 0 1 (.t 15)⟩, ⟨some 17, none, .load false 1 (.t 16)⟩, ⟨some 18, none, .mov (.t 0)⟩, ⟨some 19, none, .mov (.t 4)⟩, ⟨some 20, none, .iaddr 2 (.t 18) (.t 19)⟩, ⟨some 21, none, .faddr false 1 1 (.t 20)⟩, ⟨some 22, none, .load false 1 (.t 21)⟩, ⟨some 23, none, .callF true 21 [(.t 22)]⟩, ⟨some 24, none, .build [(.int .u8 0), (.rs false 1 [])] [(0, 1, (.t 17)), (1, 1, (.t 23))]⟩, ⟨some 25, none, .buildR 2 52 [(.t 24)]⟩, ⟨some 26, none, .append 2 32 52 (.t 12) (.t 25)⟩, ⟨some 3, none, .mov (.t 26)⟩]))
  (.ops [⟨some 10, none, .mov (.t 4)⟩, ⟨some 11, none, .bin .add (.t 10) (.c (.int .i64 1))⟩, ⟨some 4, none, .mov (.t 11)⟩])))
def L25_0 : C := .loop (some [0, 3, 4]) B25_0
theorem L25_0_eq {E : Env} (x : St) : ev E L25_0 x = andThen (ev E B25_0 (restr (some [0, 3, 4]) x)) (ev E L25_0) := ev_loop _ _ x
theorem L25_0_lp {E : Env} (s : Slots) (h : Heap) : ev E L25_0 ⟨s, h⟩ = lp E L25_0 (pickS s [0, 3, 4]) h := lp_of L25_0_eq s h
theorem L25_0_go {E : Env} (s : Slots) (h : Heap) : lp E L25_0 s h = andThen (ev E B25_0 ⟨pickS s [0, 3, 4], h⟩) (ev E L25_0) := lp_go L25_0_eq s h
noncomputable def T25_0 (E : Env) (o : Out) : Option (AV × Heap) := outR [(2, none)] (andThen (endBlock 0 (some [0, 3, 4]) (o)) (ev E (.seq (.ops [⟨some 27, none, .mov (.t 3)⟩, ⟨some 2, none, .mov (.t 27)⟩])
  .ret)))
def I25 : Fn_ := ⟨1, 28, [(2, none)],
  (.seq (.ops [⟨some 2, none, .mov (.c (.rs false 2 []))⟩])
  (.seq (.ops [⟨some 5, none, .buildSl 2 52 []⟩, ⟨some 3, none, .mov (.t 5)⟩])
  (.seq (.seq (.ops [⟨some 4, none, .mov (.c (.int .i64 0))⟩])
  (.block 0 (some [0, 3, 4]) L25_0))
  (.seq (.ops [⟨some 27, none, .mov (.t 3)⟩, ⟨some 2, none, .mov (.t 27)⟩])
  .ret))))⟩
/- vizard/vizardref00.SameBytes -/
def B26_0 : C := (.seq (.seq (.ops [⟨some 11, none, .mov (.t 5)⟩, ⟨some 12, none, .mov (.t 0)⟩, ⟨some 13, none, .len (.t 12)⟩, ⟨some 14, none, .bin .lss (.t 11) (.t 13)⟩])
  (.cond (.t 14)
  .skip
  (.exit 0)))
  (.seq (.block 1 (some [0, 1, 5]) (.seq (.ops [⟨some 17, none, .mov (.t 0)⟩, ⟨some 18, none, .mov (.t 5)⟩, ⟨some 19, none, .iaddr 1 (.t 17) (.t 18)⟩, ⟨some 20, none, .load false 1 (.t 19)⟩, ⟨some 21, none, .mov (.t 1)⟩, ⟨some 22, none, .mov (.t 5)⟩, ⟨some 23, none, .iaddr 1 (.t 21) (.t 22)⟩, ⟨some 24, none, .load false 1 (.t 23)⟩, ⟨some 25, none, .bin .neq (.t 20) (.t 24)⟩])
  (.cond (.t 25)
  (.seq (.ops [⟨some 4, none, .mov (.c (.bool false))⟩])
  .ret)
  .skip)))
  (.ops [⟨some 15, none, .mov (.t 5)⟩, ⟨some 16, none, .bin .add (.t 15) (.c (.int .i64 1))⟩, ⟨some 5, none, .mov (.t 16)⟩])))
def L26_0 : C := .loop (some [0, 1, 5]) B26_0
theorem L26_0_eq {E : Env} (x : St) : ev E L26_0 x = andThen (ev E B26_0 (restr (some [0, 1, 5]) x)) (ev E L26_0) := ev_loop _ _ x
theorem L26_0_lp {E : Env} (s : Slots) (h : Heap) : ev E L26_0 ⟨s, h⟩ = lp E L26_0 (pickS s [0, 1, 5]) h := lp_of L26_0_eq s h
theorem L26_0_go {E : Env} (s : Slots) (h : Heap) : lp E L26_0 s h = andThen (ev E B26_0 ⟨pickS s [0, 1, 5], h⟩) (ev E L26_0) := lp_go L26_0_eq s h
noncomputable def T26_0 (E : Env) (o : Out) : Option (AV × Heap) := outR [(4, none)] (andThen (endBlock 0 (some [0, 1, 5]) (o)) (ev E (.seq (.ops [⟨some 4, none, .mov (.c (.bool true))⟩])
  .ret)))
def I26 : Fn_ := ⟨2, 26, [(4, none)],
  (.seq (.ops [⟨some 4, none, .mov (.c (.bool false))⟩])
  (.seq (.seq (.ops [⟨some 6, none, .mov (.t 0)⟩, ⟨some 7, none, .len (.t 6)⟩, ⟨some 8, none, .mov (.t 1)⟩, ⟨some 9, none, .len (.t 8)⟩, ⟨some 10, none, .bin .neq (.t 7) (.t 9)⟩])
  (.cond (.t 10)
  (.seq (.ops [⟨some 4, none, .mov (.c (.bool false))⟩])
  .ret)
  .skip))
  (.seq (.seq (.ops [⟨some 5, none, .mov (.c (.int .i64 0))⟩])
  (.block 0 (some [0, 1, 5]) L26_0))
  (.seq (.ops [⟨some 4, none, .mov (.c (.bool true))⟩])
  .ret))))⟩
/- vizard/vizardlaw23.great -/
def B27_0 : C := (.seq (.seq (.ops [⟨some 7, none, .mov (.t 3)⟩, ⟨some 8, none, .mov (.t 0)⟩, ⟨some 9, none, .len (.t 8)⟩, ⟨some 10, none, .bin .lss (.t 7) (.t 9)⟩])
  (.cond (.t 10)
  .skip
  (.exit 0)))
  (.seq (.block 1 (some [0, 3]) (.seq (.ops [⟨some 13, none, .mov (.t 0)⟩, ⟨some 14, none, .mov (.t 3)⟩, ⟨some 15, none, .iaddr 2 (.t 13) (.t 14)⟩, ⟨some 16, none, .faddr false 1 1 (.t 15)⟩, ⟨some 17, none, .load false 1 (.t 16)⟩, ⟨some 18, none, .len (.t 17)⟩, ⟨some 19, none, .bin .gtr (.t 18) (.c (.int .i64 300))⟩])
  (.cond (.t 19)
  (.seq (.ops [⟨some 2, none, .mov (.c (.bool true))⟩])
  .ret)
  .skip)))
  (.ops [⟨some 11, none, .mov (.t 3)⟩, ⟨some 12, none, .bin .add (.t 11) (.c (.int .i64 1))⟩, ⟨some 3, none, .mov (.t 12)⟩])))
def L27_0 : C := .loop (some [0, 3]) B27_0
theorem L27_0_eq {E : Env} (x : St) : ev E L27_0 x = andThen (ev E B27_0 (restr (some [0, 3]) x)) (ev E L27_0) := ev_loop _ _ x
theorem L27_0_lp {E : Env} (s : Slots) (h : Heap) : ev E L27_0 ⟨s, h⟩ = lp E L27_0 (pickS s [0, 3]) h := lp_of L27_0_eq s h
theorem L27_0_go {E : Env} (s : Slots) (h : Heap) : lp E L27_0 s h = andThen (ev E B27_0 ⟨pickS s [0, 3], h⟩) (ev E L27_0) := lp_go L27_0_eq s h
noncomputable def T27_0 (E : Env) (o : Out) : Option (AV × Heap) := outR [(2, none)] (andThen (endBlock 0 (some [0, 3]) (o)) (ev E (.seq (.ops [⟨some 2, none, .mov (.c (.bool false))⟩])
  .ret)))
def I27 : Fn_ := ⟨1, 20, [(2, none)],
  (.seq (.ops [⟨some 2, none, .mov (.c (.bool false))⟩])
  (.seq (.seq (.ops [⟨some 4, none, .mov (.t 0)⟩, ⟨some 5, none, .len (.t 4)⟩, ⟨some 6, none, .bin .gtr (.t 5) (.c (.int .i64 60))⟩])
  (.cond (.t 6)
  (.seq (.ops [⟨some 2, none, .mov (.c (.bool true))⟩])
  .ret)
  .skip))
  (.seq (.seq (.ops [⟨some 3, none, .mov (.c (.int .i64 0))⟩])
  (.block 0 (some [0, 3]) L27_0))
  (.seq (.ops [⟨some 2, none, .mov (.c (.bool false))⟩])
  .ret))))⟩
/- vizard/option.Bytes -/
def B28_0 : C := (.seq (.ops [⟨some 10, none, .bin .lss (.t 9) (.t 8)⟩])
  (.seq (.cond (.t 10)
  .skip
  (.exit 0))
  (.seq (.block 1 (some [4, 7, 8, 9]) (.seq (.ops [⟨some 11, none, .iaddr 2 (.t 7) (.t 9)⟩, ⟨some 12, none, .load true 2 (.t 11)⟩, ⟨some 6, none, .alloc true [(.int .u8 0), (.rs false 1 [])] 35⟩, ⟨none, none, .store 2 (.t 6) (.t 12)⟩])
  (.seq (.block 2 (some [4, 6, 7, 8, 9]) (.seq (.ops [⟨some 14, none, .faddr false 0 1 (.t 6)⟩, ⟨some 15, none, .load false 1 (.t 14)⟩, ⟨some 16, none, .bin .eql (.t 15) (.c (.int .u8 0))⟩, ⟨some 17, none, .mov (.t 16)⟩, ⟨some 18, (some (17, false)), .faddr false 0 1 (.t 6)⟩, ⟨some 19, (some (17, false)), .load false 1 (.t 18)⟩, ⟨some 20, (some (17, false)), .bin .eql (.t 19) (.c (.int .u8 255))⟩, ⟨some 21, none, .pick (.t 17) (.c (.bool true)) (.t 20)⟩, ⟨some 13, none, .mov (.t 21)⟩])
  (.cond (.t 13)
  (.seq (.ops [⟨some 2, none, .mov (.c (.rs false 1 []))⟩, ⟨some 3, none, .mov (.c (.int .i64 10))⟩])
  .ret)
  (.seq (.ops [⟨some 23, none, .faddr false 1 1 (.t 6)⟩, ⟨some 24, none, .load false 1 (.t 23)⟩, ⟨some 25, none, .len (.t 24)⟩, ⟨some 26, none, .bin .gtr (.t 25) (.c (.int .i64 255))⟩, ⟨some 22, none, .mov (.t 26)⟩])
  (.cond (.t 22)
  (.seq (.ops [⟨some 2, none, .mov (.c (.rs false 1 []))⟩, ⟨some 3, none, .mov (.c (.int .i64 11))⟩])
  .ret)
  .skip)))))
  (.ops [⟨some 27, none, .mov (.t 4)⟩, ⟨some 28, none, .faddr false 0 1 (.t 6)⟩, ⟨some 29, none, .load false 1 (.t 28)⟩, ⟨some 30, none, .faddr false 1 1 (.t 6)⟩, ⟨some 31, none, .load false 1 (.t 30)⟩, ⟨some 32, none, .len (.t 31)⟩, ⟨some 33, none, .conv .u8 (.t 32)⟩, ⟨some 34, none, .buildR 1 5 [(.t 29), (.t 33)]⟩, ⟨some 35, none, .append 1 1 5 (.t 27) (.t 34)⟩, ⟨some 36, none, .faddr false 1 1 (.t 6)⟩, ⟨some 37, none, .loadC false 1 (.t 36)⟩, ⟨some 38, none, .append 1 1 5 (.t 35) (.t 37)⟩, ⟨some 4, none, .mov (.t 38)⟩]))))
  (.ops [⟨some 39, none, .bin .add (.t 9) (.c (.int .i64 1))⟩, ⟨some 9, none, .mov (.t 39)⟩]))))
def L28_0 : C := .loop (some [4, 7, 8, 9]) B28_0
theorem L28_0_eq {E : Env} (x : St) : ev E L28_0 x = andThen (ev E B28_0 (restr (some [4, 7, 8, 9]) x)) (ev E L28_0) := ev_loop _ _ x
theorem L28_0_lp {E : Env} (s : Slots) (h : Heap) : ev E L28_0 ⟨s, h⟩ = lp E L28_0 (pickS s [4, 7, 8, 9]) h := lp_of L28_0_eq s h
theorem L28_0_go {E : Env} (s : Slots) (h : Heap) : lp E L28_0 s h = andThen (ev E B28_0 ⟨pickS s [4, 7, 8, 9], h⟩) (ev E L28_0) := lp_go L28_0_eq s h
noncomputable def T28_0 (E : Env) (o : Out) : Option (AV × Heap) := outR [(2, none), (3, none)] (andThen (endBlock 0 (some [4, 7, 8, 9]) (o)) (ev E (.seq (.ops [⟨some 40, none, .mov (.t 4)⟩, ⟨some 41, none, .buildR 1 5 [(.c (.int .u8 255))]⟩, ⟨some 42, none, .append 1 1 5 (.t 40) (.t 41)⟩, ⟨some 2, none, .mov (.t 42)⟩, ⟨some 3, none, .mov (.c (.int .i64 0))⟩])
  .ret)))
def I28 : Fn_ := ⟨1, 43, [(2, none), (3, none)],
  (.seq (.ops [⟨some 2, none, .mov (.c (.rs false 1 []))⟩, ⟨some 3, none, .mov (.c (.int .i64 0))⟩])
  (.seq (.ops [⟨some 4, none, .nilrow 1 5⟩])
  (.seq (.seq (.ops [⟨some 7, none, .mov (.t 0)⟩, ⟨some 8, none, .len (.t 7)⟩, ⟨some 9, none, .mov (.c (.int .i64 0))⟩])
  (.block 0 (some [4, 7, 8, 9]) L28_0))
  (.seq (.ops [⟨some 40, none, .mov (.t 4)⟩, ⟨some 41, none, .buildR 1 5 [(.c (.int .u8 255))]⟩, ⟨some 42, none, .append 1 1 5 (.t 40) (.t 41)⟩, ⟨some 2, none, .mov (.t 42)⟩, ⟨some 3, none, .mov (.c (.int .i64 0))⟩])
  .ret))))⟩
/- vizard/vizardref23.Bytes -/
def B29_0 : C := (.seq (.seq (.ops [⟨some 8, none, .mov (.t 5)⟩, ⟨some 9, none, .mov (.t 0)⟩, ⟨some 10, none, .len (.t 9)⟩, ⟨some 11, none, .bin .lss (.t 8) (.t 10)⟩])
  (.cond (.t 11)
  .skip
  (.exit 0)))
  (.seq (.block 1 (some [0, 4, 5]) (.seq (.ops [⟨some 14, none, .mov (.t 0)⟩, ⟨some 15, none, .mov (.t 5)⟩, ⟨some 16, none, .iaddr 2 (.t 14) (.t 15)⟩, ⟨some 17, none, .load true 2 (.t 16)⟩, ⟨some 6, none, .alloc true [(.int .u8 0), (.rs false 1 [])] 52⟩, ⟨none, none, .store 2 (.t 6) (.t 17)⟩])
  (.seq (.seq (.ops [⟨some 18, none, .faddr false 0 1 (.t 6)⟩, ⟨some 19, none, .load false 1 (.t 18)⟩, ⟨some 20, none, .bin .eql (.t 19) (.c (.int .u8 0))⟩, ⟨some 21, none, .mov (.t 20)⟩, ⟨some 22, (some (21, false)), .faddr false 0 1 (.t 6)⟩, ⟨some 23, (some (21, false)), .load false 1 (.t 22)⟩, ⟨some 24, (some (21, false)), .bin .eql (.t 23) (.c (.int .u8 255))⟩, ⟨some 25, none, .pick (.t 21) (.c (.bool true)) (.t 24)⟩])
  (.cond (.t 25)
  (.seq (.ops [⟨some 2, none, .mov (.c (.rs false 1 []))⟩, ⟨some 3, none, .mov (.c (.int .i64 10))⟩])
  .ret)
  .skip))
  (.seq (.seq (.ops [⟨some 26, none, .faddr false 1 1 (.t 6)⟩, ⟨some 27, none, .load false 1 (.t 26)⟩, ⟨some 28, none, .len (.t 27)⟩, ⟨some 29, none, .bin .gtr (.t 28) (.c (.int .i64 255))⟩])
  (.cond (.t 29)
  (.seq (.ops [⟨some 2, none, .mov (.c (.rs false 1 []))⟩, ⟨some 3, none, .mov (.c (.int .i64 11))⟩])
  .ret)
  .skip))
  (.ops [⟨some 30, none, .mov (.t 4)⟩, ⟨some 31, none, .faddr false 0 1 (.t 6)⟩, ⟨some 32, none, .load false 1 (.t 31)⟩, ⟨some 33, none, .faddr false 1 1 (.t 6)⟩, ⟨some 34, none, .load false 1 (.t 33)⟩, ⟨some 35, none, .len (.t 34)⟩, ⟨some 36, none, .conv .u8 (.t 35)⟩, ⟨some 37, none, .buildR 1 5 [(.t 32), (.t 36)]⟩, ⟨some 38, none, .append 1 1 5 (.t 30) (.t 37)⟩, ⟨some 39, none, .faddr false 1 1 (.t 6)⟩, ⟨some 40, none, .loadC false 1 (.t 39)⟩, ⟨some 41, none, .append 1 1 5 (.t 38) (.t 40)⟩, ⟨some 4, none, .mov (.t 41)⟩])))))
  (.ops [⟨some 12, none, .mov (.t 5)⟩, ⟨some 13, none, .bin .add (.t 12) (.c (.int .i64 1))⟩, ⟨some 5, none, .mov (.t 13)⟩])))
def L29_0 : C := .loop (some [0, 4, 5]) B29_0
theorem L29_0_eq {E : Env} (x : St) : ev E L29_0 x = andThen (ev E B29_0 (restr (some [0, 4, 5]) x)) (ev E L29_0) := ev_loop _ _ x
theorem L29_0_lp {E : Env} (s : Slots) (h : Heap) : ev E L29_0 ⟨s, h⟩ = lp E L29_0 (pickS s [0, 4, 5]) h := lp_of L29_0_eq s h
theorem L29_0_go {E : Env} (s : Slots) (h : Heap) : lp E L29_0 s h = andThen (ev E B29_0 ⟨pickS s [0, 4, 5], h⟩) (ev E L29_0) := lp_go L29_0_eq s h
noncomputable def T29_0 (E : Env) (o : Out) : Option (AV × Heap) := outR [(2, none), (3, none)] (andThen (endBlock 0 (some [0, 4, 5]) (o)) (ev E (.seq (.ops [⟨some 42, none, .mov (.t 4)⟩, ⟨some 43, none, .buildR 1 5 [(.c (.int .u8 255))]⟩, ⟨some 44, none, .append 1 1 5 (.t 42) (.t 43)⟩, ⟨some 2, none, .mov (.t 44)⟩, ⟨some 3, none, .mov (.c (.int .i64 0))⟩])
  .ret)))
def I29 : Fn_ := ⟨1, 45, [(2, none), (3, none)],
  (.seq (.ops [⟨some 2, none, .mov (.c (.rs false 1 []))⟩, ⟨some 3, none, .mov (.c (.int .i64 0))⟩])
  (.seq (.ops [⟨some 7, none, .buildSl 1 5 []⟩, ⟨some 4, none, .mov (.t 7)⟩])
  (.seq (.seq (.ops [⟨some 5, none, .mov (.c (.int .i64 0))⟩])
  (.block 0 (some [0, 4, 5]) L29_0))
  (.seq (.ops [⟨some 42, none, .mov (.t 4)⟩, ⟨some 43, none, .buildR 1 5 [(.c (.int .u8 255))]⟩, ⟨some 44, none, .append 1 1 5 (.t 42) (.t 43)⟩, ⟨some 2, none, .mov (.t 44)⟩, ⟨some 3, none, .mov (.c (.int .i64 0))⟩])
  .ret))))⟩
/- vizard/option.Find -/
def I30 : Fn_ := ⟨2, 18, [(4, none), (5, none)],
  (.seq (.ops [⟨some 3, none, .box false 5 (.t 1)⟩, ⟨some 4, none, .mov (.c (.rs false 1 []))⟩, ⟨some 5, none, .mov (.c (.bool false))⟩])
  (.seq (.ops [⟨some 7, none, .mov (.t 0)⟩, ⟨some 8, none, .mkFn 80 [(.t 3)]⟩, ⟨some 9, none, .callF false 79 [(.t 7), (.t 8)]⟩, ⟨some 6, none, .mov (.t 9)⟩])
  (.seq (.seq (.ops [⟨some 10, none, .mov (.t 6)⟩, ⟨some 11, none, .bin .lss (.t 10) (.c (.int .i64 0))⟩])
  (.cond (.t 11)
  (.seq (.ops [⟨some 4, none, .mov (.c (.rs false 1 []))⟩, ⟨some 5, none, .mov (.c (.bool false))⟩])
  .ret)
  .skip))
  (.seq (.ops [⟨some 12, none, .mov (.t 0)⟩, ⟨some 13, none, .mov (.t 6)⟩, ⟨some 14, none, .iaddr 2 (.t 12) (.t 13)⟩, ⟨some 15, none, .faddr false 1 1 (.t 14)⟩, ⟨some 16, none, .load false 1 (.t 15)⟩, ⟨some 17, none, .callF false 81 [(.t 16)]⟩, ⟨some 4, none, .mov (.t 17)⟩, ⟨some 5, none, .mov (.c (.bool true))⟩])
  .ret))))⟩
/- vizard/vizardref23.Find -/
def B31_0 : C := (.seq (.seq (.ops [⟨some 7, none, .mov (.t 6)⟩, ⟨some 8, none, .mov (.t 0)⟩, ⟨some 9, none, .len (.t 8)⟩, ⟨some 10, none, .bin .lss (.t 7) (.t 9)⟩])
  (.cond (.t 10)
  .skip
  (.exit 0)))
  (.seq (.block 1 (some [0, 1, 6]) (.seq (.ops [⟨some 13, none, .mov (.t 0)⟩, ⟨some 14, none, .mov (.t 6)⟩, ⟨some 15, none, .iaddr 2 (.t 13) (.t 14)⟩, ⟨some 16, none, .faddr false 0 1 (.t 15)⟩, ⟨some 17, none, .load false 1 (.t 16)⟩, ⟨some 18, none, .mov (.t 1)⟩, ⟨some 19, none, .bin .eql (.t 17) (.t 18)⟩])
  (.cond (.t 19)
  (.seq (.ops [⟨some 20, none, .buildSl 1 5 []⟩, ⟨some 21, none, .mov (.t 0)⟩, ⟨some 22, none, .mov (.t 6)⟩, ⟨some 23, none, .iaddr 2 (.t 21) (.t 22)⟩, ⟨some 24, none, .faddr false 1 1 (.t 23)⟩, ⟨some 25, none, .load false 1 (.t 24)⟩, ⟨some 26, none, .append 1 1 5 (.t 20) (.t 25)⟩, ⟨some 4, none, .mov (.t 26)⟩, ⟨some 5, none, .mov (.c (.bool true))⟩])
  .ret)
  .skip)))
  (.ops [⟨some 11, none, .mov (.t 6)⟩, ⟨some 12, none, .bin .add (.t 11) (.c (.int .i64 1))⟩, ⟨some 6, none, .mov (.t 12)⟩])))
def L31_0 : C := .loop (some [0, 1, 6]) B31_0
theorem L31_0_eq {E : Env} (x : St) : ev E L31_0 x = andThen (ev E B31_0 (restr (some [0, 1, 6]) x)) (ev E L31_0) := ev_loop _ _ x
theorem L31_0_lp {E : Env} (s : Slots) (h : Heap) : ev E L31_0 ⟨s, h⟩ = lp E L31_0 (pickS s [0, 1, 6]) h := lp_of L31_0_eq s h
theorem L31_0_go {E : Env} (s : Slots) (h : Heap) : lp E L31_0 s h = andThen (ev E B31_0 ⟨pickS s [0, 1, 6], h⟩) (ev E L31_0) := lp_go L31_0_eq s h
noncomputable def T31_0 (E : Env) (o : Out) : Option (AV × Heap) := outR [(4, none), (5, none)] (andThen (endBlock 0 (some [0, 1, 6]) (o)) (ev E (.seq (.ops [⟨some 4, none, .mov (.c (.rs false 1 []))⟩, ⟨some 5, none, .mov (.c (.bool false))⟩])
  .ret)))
def I31 : Fn_ := ⟨2, 27, [(4, none), (5, none)],
  (.seq (.ops [⟨some 4, none, .mov (.c (.rs false 1 []))⟩, ⟨some 5, none, .mov (.c (.bool false))⟩])
  (.seq (.seq (.ops [⟨some 6, none, .mov (.c (.int .i64 0))⟩])
  (.block 0 (some [0, 1, 6]) L31_0))
  (.seq (.ops [⟨some 4, none, .mov (.c (.rs false 1 []))⟩, ⟨some 5, none, .mov (.c (.bool false))⟩])
  .ret)))⟩
/- vizard/option.Number -/
def I32 : Fn_ := ⟨3, 40, [(6, none), (7, none)],
  (.seq (.ops [⟨some 6, none, .mov (.c (.int .u32 0))⟩, ⟨some 7, none, .mov (.c (.bool false))⟩])
  (.seq (.ops [⟨some 13, none, .mov (.t 0)⟩, ⟨some 14, none, .mov (.t 1)⟩, ⟨some 15, none, .callF false 30 [(.t 13), (.t 14)]⟩, ⟨some 12, none, .mov (.t 15)⟩, ⟨some 16, none, .ext (.t 12) 0⟩, ⟨some 17, none, .ext (.t 12) 1⟩, ⟨some 8, none, .mov (.t 16)⟩, ⟨some 9, none, .mov (.t 17)⟩])
  (.seq (.seq (.ops [⟨some 18, none, .mov (.t 9)⟩, ⟨some 19, none, .un .not (.t 18)⟩, ⟨some 20, none, .mov (.t 19)⟩, ⟨some 21, (some (20, false)), .mov (.t 2)⟩, ⟨some 22, (some (20, false)), .bin .gtr (.t 21) (.c (.int .i64 4))⟩, ⟨some 23, none, .pick (.t 20) (.c (.bool true)) (.t 22)⟩, ⟨some 24, none, .mov (.t 23)⟩, ⟨some 25, (some (24, false)), .mov (.t 8)⟩, ⟨some 26, (some (24, false)), .len (.t 25)⟩, ⟨some 27, (some (24, false)), .mov (.t 2)⟩, ⟨some 28, (some (24, false)), .bin .neq (.t 26) (.t 27)⟩, ⟨some 29, none, .pick (.t 24) (.c (.bool true)) (.t 28)⟩])
  (.cond (.t 29)
  (.seq (.ops [⟨some 6, none, .mov (.c (.int .u32 0))⟩, ⟨some 7, none, .mov (.c (.bool false))⟩])
  .ret)
  .skip))
  (.seq (.ops [⟨some 31, none, .mov (.t 8)⟩, ⟨some 32, none, .mov (.t 2)⟩, ⟨some 33, none, .callF false 82 [(.t 31), (.c (.int .i64 0)), (.t 32)]⟩, ⟨some 30, none, .mov (.t 33)⟩, ⟨some 34, none, .ext (.t 30) 0⟩, ⟨some 35, none, .ext (.t 30) 1⟩, ⟨some 10, none, .mov (.t 34)⟩, ⟨some 11, none, .mov (.t 35)⟩])
  (.seq (.ops [⟨some 36, none, .mov (.t 10)⟩, ⟨some 37, none, .conv .u32 (.t 36)⟩, ⟨some 38, none, .mov (.t 11)⟩, ⟨some 39, none, .bin .eql (.t 38) (.c (.int .i64 0))⟩, ⟨some 6, none, .mov (.t 37)⟩, ⟨some 7, none, .mov (.t 39)⟩])
  .ret)))))⟩
/- vizard/vizardref23.Number -/
def B33_0 : C := (.seq (.seq (.ops [⟨some 34, none, .mov (.t 11)⟩, ⟨some 35, none, .mov (.t 2)⟩, ⟨some 36, none, .bin .lss (.t 34) (.t 35)⟩])
  (.cond (.t 36)
  .skip
  (.exit 0)))
  (.seq (.block 1 (some [2, 8, 10, 11]) (.ops [⟨some 39, none, .mov (.t 10)⟩, ⟨some 40, none, .bin .mul (.t 39) (.c (.int .u32 256))⟩, ⟨some 41, none, .mov (.t 8)⟩, ⟨some 42, none, .mov (.t 11)⟩, ⟨some 43, none, .iaddr 1 (.t 41) (.t 42)⟩, ⟨some 44, none, .load false 1 (.t 43)⟩, ⟨some 45, none, .conv .u32 (.t 44)⟩, ⟨some 46, none, .bin .add (.t 40) (.t 45)⟩, ⟨some 10, none, .mov (.t 46)⟩]))
  (.ops [⟨some 37, none, .mov (.t 11)⟩, ⟨some 38, none, .bin .add (.t 37) (.c (.int .i64 1))⟩, ⟨some 11, none, .mov (.t 38)⟩])))
def L33_0 : C := .loop (some [2, 8, 10, 11]) B33_0
theorem L33_0_eq {E : Env} (x : St) : ev E L33_0 x = andThen (ev E B33_0 (restr (some [2, 8, 10, 11]) x)) (ev E L33_0) := ev_loop _ _ x
theorem L33_0_lp {E : Env} (s : Slots) (h : Heap) : ev E L33_0 ⟨s, h⟩ = lp E L33_0 (pickS s [2, 8, 10, 11]) h := lp_of L33_0_eq s h
theorem L33_0_go {E : Env} (s : Slots) (h : Heap) : lp E L33_0 s h = andThen (ev E B33_0 ⟨pickS s [2, 8, 10, 11], h⟩) (ev E L33_0) := lp_go L33_0_eq s h
noncomputable def T33_0 (E : Env) (o : Out) : Option (AV × Heap) := outR [(6, none), (7, none)] (andThen (endBlock 0 (some [2, 8, 10, 11]) (o)) (ev E (.seq (.ops [⟨some 47, none, .mov (.t 10)⟩, ⟨some 6, none, .mov (.t 47)⟩, ⟨some 7, none, .mov (.c (.bool true))⟩])
  .ret)))
def I33 : Fn_ := ⟨3, 48, [(6, none), (7, none)],
  (.seq (.ops [⟨some 6, none, .mov (.c (.int .u32 0))⟩, ⟨some 7, none, .mov (.c (.bool false))⟩])
  (.seq (.ops [⟨some 13, none, .mov (.t 0)⟩, ⟨some 14, none, .mov (.t 1)⟩, ⟨some 15, none, .callF false 31 [(.t 13), (.t 14)]⟩, ⟨some 12, none, .mov (.t 15)⟩, ⟨some 16, none, .ext (.t 12) 0⟩, ⟨some 17, none, .ext (.t 12) 1⟩, ⟨some 8, none, .mov (.t 16)⟩, ⟨some 9, none, .mov (.t 17)⟩])
  (.seq (.seq (.ops [⟨some 18, none, .mov (.t 9)⟩, ⟨some 19, none, .un .not (.t 18)⟩, ⟨some 20, none, .mov (.t 19)⟩, ⟨some 21, (some (20, false)), .mov (.t 8)⟩, ⟨some 22, (some (20, false)), .len (.t 21)⟩, ⟨some 23, (some (20, false)), .mov (.t 2)⟩, ⟨some 24, (some (20, false)), .bin .neq (.t 22) (.t 23)⟩, ⟨some 25, none, .pick (.t 20) (.c (.bool true)) (.t 24)⟩, ⟨some 26, none, .mov (.t 25)⟩, ⟨some 27, (some (26, false)), .mov (.t 2)⟩, ⟨some 28, (some (26, false)), .bin .lss (.t 27) (.c (.int .i64 1))⟩, ⟨some 29, none, .pick (.t 26) (.c (.bool true)) (.t 28)⟩, ⟨some 30, none, .mov (.t 29)⟩, ⟨some 31, (some (30, false)), .mov (.t 2)⟩, ⟨some 32, (some (30, false)), .bin .gtr (.t 31) (.c (.int .i64 4))⟩, ⟨some 33, none, .pick (.t 30) (.c (.bool true)) (.t 32)⟩])
  (.cond (.t 33)
  (.seq (.ops [⟨some 6, none, .mov (.c (.int .u32 0))⟩, ⟨some 7, none, .mov (.c (.bool false))⟩])
  .ret)
  .skip))
  (.seq (.ops [⟨some 10, none, .mov (.c (.int .u32 0))⟩])
  (.seq (.seq (.ops [⟨some 11, none, .mov (.c (.int .i64 0))⟩])
  (.block 0 (some [2, 8, 10, 11]) L33_0))
  (.seq (.ops [⟨some 47, none, .mov (.t 10)⟩, ⟨some 6, none, .mov (.t 47)⟩, ⟨some 7, none, .mov (.c (.bool true))⟩])
  .ret))))))⟩
/- vizard/option.Same -/
def I34 : Fn_ := ⟨2, 8, [(4, none)],
  (.seq (.ops [⟨some 4, none, .mov (.c (.bool false))⟩])
  (.seq (.ops [⟨some 5, none, .mov (.t 0)⟩, ⟨some 6, none, .mov (.t 1)⟩, ⟨some 7, none, .callF false 83 [(.t 5), (.t 6), (.c (.fn 84 []))]⟩, ⟨some 4, none, .mov (.t 7)⟩])
  .ret))⟩
/- vizard/option.Ip -/
def I35 : Fn_ := ⟨2, 17, [(4, some (true, 2))],
  (.seq (.ops [⟨some 4, none, .alloc true [(.int .u8 0), (.rs false 1 [])] 35⟩])
  (.seq (.ops [⟨some 8, none, .mov (.t 1)⟩, ⟨some 9, none, .conv .u64 (.t 8)⟩, ⟨some 10, none, .buildR 1 86 [(.t 9)]⟩, ⟨some 11, none, .callF false 86 [(.c (.int .i64 4)), (.t 10)]⟩, ⟨some 7, none, .mov (.t 11)⟩, ⟨some 12, none, .ext (.t 7) 0⟩, ⟨some 13, none, .ext (.t 7) 1⟩, ⟨some 5, none, .mov (.t 12)⟩, ⟨some 6, none, .mov (.t 13)⟩])
  (.seq (.ops [⟨some 14, none, .mov (.t 0)⟩, ⟨some 15, none, .mov (.t 5)⟩, ⟨some 16, none, .build [(.int .u8 0), (.rs false 1 [])] [(0, 1, (.t 14)), (1, 1, (.t 15))]⟩, ⟨none, none, .store 2 (.t 4) (.t 16)⟩])
  .ret)))⟩
/- vizard/option.One -/
def I36 : Fn_ := ⟨2, 9, [(4, some (true, 2))],
  (.seq (.ops [⟨some 4, none, .alloc true [(.int .u8 0), (.rs false 1 [])] 35⟩])
  (.seq (.ops [⟨some 5, none, .mov (.t 0)⟩, ⟨some 6, none, .mov (.t 1)⟩, ⟨some 7, none, .buildR 1 5 [(.t 6)]⟩, ⟨some 8, none, .build [(.int .u8 0), (.rs false 1 [])] [(0, 1, (.t 5)), (1, 1, (.t 7))]⟩, ⟨none, none, .store 2 (.t 4) (.t 8)⟩])
  .ret))⟩
/- vizard/vizardref23.Ip -/
def I37 : Fn_ := ⟨2, 9, [(4, some (true, 2))],
  (.seq (.ops [⟨some 4, none, .alloc true [(.int .u8 0), (.rs false 1 [])] 52⟩])
  (.seq (.ops [⟨some 5, none, .mov (.t 0)⟩, ⟨some 6, none, .mov (.t 1)⟩, ⟨some 7, none, .callF false 87 [(.t 6)]⟩, ⟨some 8, none, .build [(.int .u8 0), (.rs false 1 [])] [(0, 1, (.t 5)), (1, 1, (.t 7))]⟩, ⟨none, none, .store 2 (.t 4) (.t 8)⟩])
  .ret))⟩
/- vizard/vizardref23.One -/
def I38 : Fn_ := ⟨2, 9, [(4, some (true, 2))],
  (.seq (.ops [⟨some 4, none, .alloc true [(.int .u8 0), (.rs false 1 [])] 52⟩])
  (.seq (.ops [⟨some 5, none, .mov (.t 0)⟩, ⟨some 6, none, .mov (.t 1)⟩, ⟨some 7, none, .buildR 1 5 [(.t 6)]⟩, ⟨some 8, none, .build [(.int .u8 0), (.rs false 1 [])] [(0, 1, (.t 5)), (1, 1, (.t 7))]⟩, ⟨none, none, .store 2 (.t 4) (.t 8)⟩])
  .ret))⟩
/- vizard/vizardlaw24.alive -/
def I39 : Fn_ := ⟨0, 132, [(0, none)],
  (.seq (.ops [⟨some 0, none, .mov (.c (.bool false))⟩])
  (.seq (.ops [⟨some 12, none, .build [(.int .u8 0), (.int .u8 0), (.int .u8 0), (.int .u8 0), (.int .u8 0), (.int .u8 0)] [(0, 1, (.c (.int .u8 2)))]⟩, ⟨some 13, none, .callF false 36 [(.c (.int .u8 53)), (.c (.int .u8 3))]⟩, ⟨some 14, none, .buildR 2 35 [(.t 13)]⟩, ⟨some 15, none, .build [(.int .u8 0), (.int .u32 0), (.int .u16 0), (.bool false), (.int .u32 0), (.int .u32 0), (.int .u32 0), (.int .u32 0), (.int .u8 0), (.int .u8 0), (.int .u8 0), (.int .u8 0), (.int .u8 0), (.int .u8 0), (.rs false 2 [])] [(0, 1, (.c (.int .u8 1))), (1, 1, (.c (.int .u32 7))), (3, 1, (.c (.bool true))), (4, 1, (.c (.int .u32 5))), (8, 6, (.t 12)), (14, 1, (.t 14))]⟩, ⟨some 1, none, .alloc true [(.int .u8 0), (.int .u32 0), (.int .u16 0), (.bool false), (.int .u32 0), (.int .u32 0), (.int .u32 0), (.int .u32 0), (.int .u8 0), (.int .u8 0), (.int .u8 0), (.int .u8 0), (.int .u8 0), (.int .u8 0), (.rs false 2 [])] 62⟩, ⟨none, none, .store 15 (.t 1) (.t 15)⟩])
  (.seq (.ops [⟨some 17, none, .load true 15 (.t 1)⟩, ⟨some 18, none, .callF false 45 [(.t 17)]⟩, ⟨some 16, none, .mov (.t 18)⟩, ⟨some 19, none, .ext (.t 16) 0⟩, ⟨some 20, none, .ext (.t 16) 1⟩, ⟨some 2, none, .mov (.t 19)⟩, ⟨some 3, none, .mov (.t 20)⟩])
  (.seq (.ops [⟨some 22, none, .mov (.t 2)⟩, ⟨some 23, none, .callF false 40 [(.t 22)]⟩, ⟨some 21, none, .mov (.t 23)⟩, ⟨some 24, none, .ext (.t 21) 0⟩, ⟨some 25, none, .ext (.t 21) 1⟩, ⟨some 4, none, .alloc true [(.int .u8 0), (.int .u32 0), (.int .u16 0), (.bool false), (.int .u32 0), (.int .u32 0), (.int .u32 0), (.int .u32 0), (.int .u8 0), (.int .u8 0), (.int .u8 0), (.int .u8 0), (.int .u8 0), (.int .u8 0), (.rs false 2 [])] 62⟩, ⟨none, none, .store 15 (.t 4) (.t 24)⟩, ⟨some 5, none, .mov (.t 25)⟩])
  (.seq (.ops [⟨some 27, none, .mov (.t 2)⟩, ⟨some 28, none, .mov (.t 2)⟩, ⟨some 29, none, .len (.t 28)⟩, ⟨some 30, none, .mm false [(.t 29), (.c (.int .i64 239))]⟩, ⟨some 31, none, .slice 1 (.t 27) none (some (.t 30))⟩, ⟨some 32, none, .callF false 40 [(.t 31)]⟩, ⟨some 26, none, .mov (.t 32)⟩, ⟨some 33, none, .ext (.t 26) 0⟩, ⟨some 34, none, .ext (.t 26) 1⟩, ⟨some 6, none, .alloc true [(.int .u8 0), (.int .u32 0), (.int .u16 0), (.bool false), (.int .u32 0), (.int .u32 0), (.int .u32 0), (.int .u32 0), (.int .u8 0), (.int .u8 0), (.int .u8 0), (.int .u8 0), (.int .u8 0), (.int .u8 0), (.rs false 2 [])] 62⟩, ⟨none, none, .store 15 (.t 6) (.t 33)⟩, ⟨some 7, none, .mov (.t 34)⟩])
  (.seq (.ops [⟨some 36, none, .build [(.int .u8 0), (.int .u32 0), (.int .u16 0), (.bool false), (.int .u32 0), (.int .u32 0), (.int .u32 0), (.int .u32 0), (.int .u8 0), (.int .u8 0), (.int .u8 0), (.int .u8 0), (.int .u8 0), (.int .u8 0), (.rs false 2 [])] []⟩, ⟨some 37, none, .callF false 45 [(.t 36)]⟩, ⟨some 35, none, .mov (.t 37)⟩, ⟨some 38, none, .ext (.t 35) 0⟩, ⟨some 39, none, .ext (.t 35) 1⟩, ⟨some 8, none, .mov (.t 38)⟩, ⟨some 9, none, .mov (.t 39)⟩])
  (.seq (.ops [⟨some 40, none, .load true 15 (.t 1)⟩, ⟨some 41, none, .callF true 35 [(.c (.int .u8 1)), (.c (.int .u32 3))]⟩, ⟨some 42, none, .buildR 2 35 [(.t 41)]⟩, ⟨some 43, none, .callF true 52 [(.t 40), (.c (.int .i64 5)), (.c (.int .u32 9)), (.c (.int .u32 1)), (.t 42)]⟩, ⟨some 10, none, .alloc true [(.int .u8 0), (.int .u32 0), (.int .u16 0), (.bool false), (.int .u32 0), (.int .u32 0), (.int .u32 0), (.int .u32 0), (.int .u8 0), (.int .u8 0), (.int .u8 0), (.int .u8 0), (.int .u8 0), (.int .u8 0), (.rs false 2 [])] 62⟩, ⟨none, none, .store 15 (.t 10) (.t 43)⟩])
  (.seq (.ops [⟨some 44, none, .load true 15 (.t 1)⟩, ⟨some 45, none, .callF false 52 [(.t 44), (.c (.int .i64 6)), (.c (.int .u32 0)), (.c (.int .u32 1)), (.c (.rs false 2 []))]⟩, ⟨some 11, none, .alloc true [(.int .u8 0), (.int .u32 0), (.int .u16 0), (.bool false), (.int .u32 0), (.int .u32 0), (.int .u32 0), (.int .u32 0), (.int .u8 0), (.int .u8 0), (.int .u8 0), (.int .u8 0), (.int .u8 0), (.int .u8 0), (.rs false 2 [])] 62⟩, ⟨none, none, .store 15 (.t 11) (.t 45)⟩])
  (.seq (.ops [⟨some 46, none, .mov (.t 3)⟩, ⟨some 47, none, .bin .eql (.t 46) (.c (.int .i64 0))⟩, ⟨some 48, none, .mov (.t 47)⟩, ⟨some 49, (some (48, true)), .mov (.t 2)⟩, ⟨some 50, (some (48, true)), .len (.t 49)⟩, ⟨some 51, (some (48, true)), .bin .eql (.t 50) (.c (.int .i64 244))⟩, ⟨some 52, none, .pick (.t 48) (.t 51) (.c (.bool false))⟩, ⟨some 53, none, .mov (.t 52)⟩, ⟨some 54, (some (53, true)), .mov (.t 5)⟩, ⟨some 55, (some (53, true)), .bin .eql (.t 54) (.c (.int .i64 0))⟩, ⟨some 56, none, .pick (.t 53) (.t 55) (.c (.bool false))⟩, ⟨some 57, none, .mov (.t 56)⟩, ⟨some 58, (some (57, true)), .mov (.t 7)⟩, ⟨some 59, (some (57, true)), .bin .eql (.t 58) (.c (.int .i64 12))⟩, ⟨some 60, none, .pick (.t 57) (.t 59) (.c (.bool false))⟩, ⟨some 61, none, .mov (.t 60)⟩, ⟨some 62, (some (61, true)), .mov (.t 9)⟩, ⟨some 63, (some (61, true)), .bin .eql (.t 62) (.c (.int .i64 14))⟩, ⟨some 64, none, .pick (.t 61) (.t 63) (.c (.bool false))⟩, ⟨some 65, none, .mov (.t 64)⟩, ⟨some 66, (some (65, true)), .load true 15 (.t 4)⟩, ⟨some 67, (some (65, true)), .load true 15 (.t 1)⟩, ⟨some 68, (some (65, true)), .callF false 51 [(.t 66), (.t 67)]⟩, ⟨some 69, none, .pick (.t 65) (.t 68) (.c (.bool false))⟩, ⟨some 70, none, .mov (.t 69)⟩, ⟨some 71, (some (70, true)), .load true 15 (.t 1)⟩, ⟨some 72, (some (70, true)), .callF false 47 [(.t 71)]⟩, ⟨some 73, (some (70, true)), .bin .eql (.t 72) (.c (.int .i64 3))⟩, ⟨some 74, none, .pick (.t 70) (.t 73) (.c (.bool false))⟩, ⟨some 75, none, .mov (.t 74)⟩, ⟨some 76, (some (75, true)), .load true 15 (.t 1)⟩, ⟨some 77, (some (75, true)), .callF false 49 [(.t 76)]⟩, ⟨some 78, (some (75, true)), .bin .eql (.t 77) (.c (.str ⟨#[1, 2, 0, 0, 0, 0, 0]⟩))⟩, ⟨some 79, none, .pick (.t 75) (.t 78) (.c (.bool false))⟩, ⟨some 80, none, .mov (.t 79)⟩, ⟨some 81, (some (80, true)), .faddr false 0 1 (.t 10)⟩, ⟨some 82, (some (80, true)), .load false 1 (.t 81)⟩, ⟨some 83, (some (80, true)), .bin .eql (.t 82) (.c (.int .u8 2))⟩, ⟨some 84, none, .pick (.t 80) (.t 83) (.c (.bool false))⟩, ⟨some 85, none, .mov (.t 84)⟩, ⟨some 86, (some (85, true)), .load true 15 (.t 10)⟩, ⟨some 87, (some (85, true)), .callF false 47 [(.t 86)]⟩, ⟨some 88, (some (85, true)), .bin .eql (.t 87) (.c (.int .i64 5))⟩, ⟨some 89, none, .pick (.t 85) (.t 88) (.c (.bool false))⟩, ⟨some 90, none, .mov (.t 89)⟩, ⟨some 91, (some (90, true)), .faddr false 5 1 (.t 10)⟩, ⟨some 92, (some (90, true)), .load false 1 (.t 91)⟩, ⟨some 93, (some (90, true)), .bin .eql (.t 92) (.c (.int .u32 9))⟩, ⟨some 94, none, .pick (.t 90) (.t 93) (.c (.bool false))⟩, ⟨some 95, none, .mov (.t 94)⟩, ⟨some 96, (some (95, true)), .faddr false 4 1 (.t 10)⟩, ⟨some 97, (some (95, true)), .load false 1 (.t 96)⟩, ⟨some 98, (some (95, true)), .bin .eql (.t 97) (.c (.int .u32 5))⟩, ⟨some 99, none, .pick (.t 95) (.t 98) (.c (.bool false))⟩, ⟨some 100, none, .mov (.t 99)⟩, ⟨some 101, (some (100, true)), .faddr false 14 1 (.t 10)⟩, ⟨some 102, (some (100, true)), .load false 1 (.t 101)⟩, ⟨some 103, (some (100, true)), .len (.t 102)⟩, ⟨some 104, (some (100, true)), .bin .eql (.t 103) (.c (.int .i64 3))⟩, ⟨some 105, none, .pick (.t 100) (.t 104) (.c (.bool false))⟩, ⟨some 106, none, .mov (.t 105)⟩, ⟨some 107, (some (106, true)), .faddr false 1 1 (.t 10)⟩, ⟨some 108, (some (106, true)), .load false 1 (.t 107)⟩, ⟨some 109, (some (106, true)), .bin .eql (.t 108) (.c (.int .u32 7))⟩, ⟨some 110, none, .pick (.t 106) (.t 109) (.c (.bool false))⟩, ⟨some 111, none, .mov (.t 110)⟩, ⟨some 112, (some (111, true)), .faddr false 3 1 (.t 10)⟩, ⟨some 113, (some (111, true)), .load false 1 (.t 112)⟩, ⟨some 114, none, .pick (.t 111) (.t 113) (.c (.bool false))⟩, ⟨some 115, none, .mov (.t 114)⟩, ⟨some 116, (some (115, true)), .faddr false 4 1 (.t 11)⟩, ⟨some 117, (some (115, true)), .load false 1 (.t 116)⟩, ⟨some 118, (some (115, true)), .bin .eql (.t 117) (.c (.int .u32 0))⟩, ⟨some 119, none, .pick (.t 115) (.t 118) (.c (.bool false))⟩, ⟨some 120, none, .mov (.t 119)⟩, ⟨some 121, (some (120, true)), .faddr false 14 1 (.t 11)⟩, ⟨some 122, (some (120, true)), .load false 1 (.t 121)⟩, ⟨some 123, (some (120, true)), .len (.t 122)⟩, ⟨some 124, (some (120, true)), .bin .eql (.t 123) (.c (.int .i64 2))⟩, ⟨some 125, none, .pick (.t 120) (.t 124) (.c (.bool false))⟩, ⟨some 126, none, .mov (.t 125)⟩, ⟨some 127, (some (126, true)), .load true 15 (.t 10)⟩, ⟨some 128, (some (126, true)), .load true 15 (.t 11)⟩, ⟨some 129, (some (126, true)), .callF false 51 [(.t 127), (.t 128)]⟩, ⟨some 130, (some (126, true)), .un .not (.t 129)⟩, ⟨some 131, none, .pick (.t 126) (.t 130) (.c (.bool false))⟩, ⟨some 0, none, .mov (.t 131)⟩])
  .ret)))))))))⟩
/- vizard/boot.Parse -/
def I40 : Fn_ := ⟨1, 81, [(2, some (true, 15)), (3, none)],
  (.seq (.ops [⟨some 2, none, .alloc true [(.int .u8 0), (.int .u32 0), (.int .u16 0), (.bool false), (.int .u32 0), (.int .u32 0), (.int .u32 0), (.int .u32 0), (.int .u8 0), (.int .u8 0), (.int .u8 0), (.int .u8 0), (.int .u8 0), (.int .u8 0), (.rs false 2 [])] 62⟩, ⟨some 3, none, .mov (.c (.int .i64 0))⟩])
  (.seq (.block 0 (some [0, 2]) (.seq (.ops [⟨some 9, none, .mov (.t 0)⟩, ⟨some 10, none, .len (.t 9)⟩, ⟨some 11, none, .bin .lss (.t 10) (.c (.int .i64 240))⟩, ⟨some 8, none, .mov (.t 11)⟩])
  (.cond (.t 8)
  (.seq (.ops [⟨some 12, none, .build [(.int .u8 0), (.int .u32 0), (.int .u16 0), (.bool false), (.int .u32 0), (.int .u32 0), (.int .u32 0), (.int .u32 0), (.int .u8 0), (.int .u8 0), (.int .u8 0), (.int .u8 0), (.int .u8 0), (.int .u8 0), (.rs false 2 [])] []⟩, ⟨none, none, .store 15 (.t 2) (.t 12)⟩, ⟨some 3, none, .mov (.c (.int .i64 12))⟩])
  .ret)
  (.seq (.ops [⟨some 14, none, .mov (.t 0)⟩, ⟨some 15, none, .iaddr 1 (.t 14) (.c (.int .i64 0))⟩, ⟨some 16, none, .load false 1 (.t 15)⟩, ⟨some 17, none, .callF false 88 [(.t 16)]⟩, ⟨some 18, none, .un .not (.t 17)⟩, ⟨some 19, none, .mov (.t 18)⟩, ⟨some 20, (some (19, false)), .mov (.t 0)⟩, ⟨some 21, (some (19, false)), .iaddr 1 (.t 20) (.c (.int .i64 1))⟩, ⟨some 22, (some (19, false)), .load false 1 (.t 21)⟩, ⟨some 23, (some (19, false)), .bin .neq (.t 22) (.c (.int .u8 1))⟩, ⟨some 24, none, .pick (.t 19) (.c (.bool true)) (.t 23)⟩, ⟨some 25, none, .mov (.t 24)⟩, ⟨some 26, (some (25, false)), .mov (.t 0)⟩, ⟨some 27, (some (25, false)), .iaddr 1 (.t 26) (.c (.int .i64 2))⟩, ⟨some 28, (some (25, false)), .load false 1 (.t 27)⟩, ⟨some 29, (some (25, false)), .bin .neq (.t 28) (.c (.int .u8 6))⟩, ⟨some 30, none, .pick (.t 25) (.c (.bool true)) (.t 29)⟩, ⟨some 13, none, .mov (.t 30)⟩])
  (.cond (.t 13)
  (.seq (.ops [⟨some 31, none, .build [(.int .u8 0), (.int .u32 0), (.int .u16 0), (.bool false), (.int .u32 0), (.int .u32 0), (.int .u32 0), (.int .u32 0), (.int .u8 0), (.int .u8 0), (.int .u8 0), (.int .u8 0), (.int .u8 0), (.int .u8 0), (.rs false 2 [])] []⟩, ⟨none, none, .store 15 (.t 2) (.t 31)⟩, ⟨some 3, none, .mov (.c (.int .i64 14))⟩])
  .ret)
  (.seq (.ops [⟨some 33, none, .mov (.t 0)⟩, ⟨some 34, none, .slice 1 (.t 33) (some (.c (.int .i64 236))) none⟩, ⟨some 35, none, .buildSl 1 5 [(.c (.int .u8 99)), (.c (.int .u8 130)), (.c (.int .u8 83)), (.c (.int .u8 99))]⟩, ⟨some 36, none, .frz (.t 35)⟩, ⟨some 37, none, .callF false 89 [(.t 34), (.t 36)]⟩, ⟨some 38, none, .un .not (.t 37)⟩, ⟨some 32, none, .mov (.t 38)⟩])
  (.cond (.t 32)
  (.seq (.ops [⟨some 39, none, .build [(.int .u8 0), (.int .u32 0), (.int .u16 0), (.bool false), (.int .u32 0), (.int .u32 0), (.int .u32 0), (.int .u32 0), (.int .u8 0), (.int .u8 0), (.int .u8 0), (.int .u8 0), (.int .u8 0), (.int .u8 0), (.rs false 2 [])] []⟩, ⟨none, none, .store 15 (.t 2) (.t 39)⟩, ⟨some 3, none, .mov (.c (.int .i64 10))⟩])
  .ret)
  .skip)))))))
  (.seq (.ops [⟨some 41, none, .mov (.t 0)⟩, ⟨some 42, none, .slice 1 (.t 41) (some (.c (.int .i64 240))) none⟩, ⟨some 43, none, .callF false 22 [(.t 42)]⟩, ⟨some 40, none, .mov (.t 43)⟩, ⟨some 44, none, .ext (.t 40) 0⟩, ⟨some 45, none, .ext (.t 40) 1⟩, ⟨some 4, none, .mov (.t 44)⟩, ⟨some 5, none, .mov (.t 45)⟩])
  (.seq (.seq (.ops [⟨some 46, none, .mov (.t 5)⟩, ⟨some 47, none, .bin .neq (.t 46) (.c (.int .i64 0))⟩])
  (.cond (.t 47)
  (.seq (.ops [⟨some 48, none, .build [(.int .u8 0), (.int .u32 0), (.int .u16 0), (.bool false), (.int .u32 0), (.int .u32 0), (.int .u32 0), (.int .u32 0), (.int .u8 0), (.int .u8 0), (.int .u8 0), (.int .u8 0), (.int .u8 0), (.int .u8 0), (.rs false 2 [])] []⟩, ⟨some 49, none, .mov (.t 5)⟩, ⟨none, none, .store 15 (.t 2) (.t 48)⟩, ⟨some 3, none, .mov (.t 49)⟩])
  .ret)
  .skip))
  (.seq (.ops [⟨some 51, none, .mov (.t 0)⟩, ⟨some 52, none, .callF false 82 [(.t 51), (.c (.int .i64 8)), (.c (.int .i64 2))]⟩, ⟨some 50, none, .mov (.t 52)⟩, ⟨some 53, none, .ext (.t 50) 0⟩, ⟨some 54, none, .ext (.t 50) 1⟩, ⟨some 6, none, .mov (.t 53)⟩, ⟨some 7, none, .mov (.t 54)⟩])
  (.seq (.ops [⟨some 55, none, .mov (.t 0)⟩, ⟨some 56, none, .iaddr 1 (.t 55) (.c (.int .i64 0))⟩, ⟨some 57, none, .load false 1 (.t 56)⟩, ⟨some 58, none, .mov (.t 0)⟩, ⟨some 59, none, .callF true 90 [(.t 58), (.c (.int .i64 4))]⟩, ⟨some 60, none, .mov (.t 6)⟩, ⟨some 61, none, .conv .u16 (.t 60)⟩, ⟨some 62, none, .mov (.t 0)⟩, ⟨some 63, none, .iaddr 1 (.t 62) (.c (.int .i64 10))⟩, ⟨some 64, none, .load false 1 (.t 63)⟩, ⟨some 65, none, .bin .and (.t 64) (.c (.int .u8 128))⟩, ⟨some 66, none, .bin .neq (.t 65) (.c (.int .u8 0))⟩, ⟨some 67, none, .mov (.t 0)⟩, ⟨some 68, none, .callF true 90 [(.t 67), (.c (.int .i64 12))]⟩, ⟨some 69, none, .mov (.t 0)⟩, ⟨some 70, none, .callF true 90 [(.t 69), (.c (.int .i64 16))]⟩, ⟨some 71, none, .mov (.t 0)⟩, ⟨some 72, none, .callF true 90 [(.t 71), (.c (.int .i64 20))]⟩, ⟨some 73, none, .mov (.t 0)⟩, ⟨some 74, none, .callF true 90 [(.t 73), (.c (.int .i64 24))]⟩, ⟨some 75, none, .mov (.t 0)⟩, ⟨some 76, none, .slice 1 (.t 75) (some (.c (.int .i64 28))) none⟩, ⟨some 77, none, .s2a 6 1 (.t 76)⟩, ⟨some 78, none, .load true 6 (.t 77)⟩, ⟨some 79, none, .mov (.t 4)⟩, ⟨some 80, none, .build [(.int .u8 0), (.int .u32 0), (.int .u16 0), (.bool false), (.int .u32 0), (.int .u32 0), (.int .u32 0), (.int .u32 0), (.int .u8 0), (.int .u8 0), (.int .u8 0), (.int .u8 0), (.int .u8 0), (.int .u8 0), (.rs false 2 [])] [(0, 1, (.t 57)), (1, 1, (.t 59)), (2, 1, (.t 61)), (3, 1, (.t 66)), (4, 1, (.t 68)), (5, 1, (.t 70)), (6, 1, (.t 72)), (7, 1, (.t 74)), (8, 6, (.t 78)), (14, 1, (.t 79))]⟩, ⟨none, none, .store 15 (.t 2) (.t 80)⟩, ⟨some 3, none, .mov (.c (.int .i64 0))⟩])
  .ret))))))⟩
/- vizard/vizardref24.Parse -/
def B41_0 : C := (.seq (.seq (.ops [⟨some 96, none, .mov (.t 7)⟩, ⟨some 97, none, .bin .lss (.t 96) (.c (.int .i64 6))⟩])
  (.cond (.t 97)
  .skip
  (.exit 0)))
  (.seq (.block 1 (some [0, 2, 6, 7]) (.ops [⟨some 100, none, .mov (.t 7)⟩, ⟨some 101, none, .mov (.t 0)⟩, ⟨some 102, none, .mov (.t 7)⟩, ⟨some 103, none, .bin .add (.c (.int .i64 28)) (.t 102)⟩, ⟨some 104, none, .iaddr 1 (.t 101) (.t 103)⟩, ⟨some 105, none, .load false 1 (.t 104)⟩, ⟨some 106, none, .faddr true 8 6 (.t 6)⟩, ⟨some 107, none, .iaddrA 6 1 false (.t 106) (.t 100)⟩, ⟨none, none, .store 1 (.t 107) (.t 105)⟩]))
  (.ops [⟨some 98, none, .mov (.t 7)⟩, ⟨some 99, none, .bin .add (.t 98) (.c (.int .i64 1))⟩, ⟨some 7, none, .mov (.t 99)⟩])))
def L41_0 : C := .loop (some [0, 2, 6, 7]) B41_0
theorem L41_0_eq {E : Env} (x : St) : ev E L41_0 x = andThen (ev E B41_0 (restr (some [0, 2, 6, 7]) x)) (ev E L41_0) := ev_loop _ _ x
theorem L41_0_lp {E : Env} (s : Slots) (h : Heap) : ev E L41_0 ⟨s, h⟩ = lp E L41_0 (pickS s [0, 2, 6, 7]) h := lp_of L41_0_eq s h
theorem L41_0_go {E : Env} (s : Slots) (h : Heap) : lp E L41_0 s h = andThen (ev E B41_0 ⟨pickS s [0, 2, 6, 7], h⟩) (ev E L41_0) := lp_go L41_0_eq s h
noncomputable def T41_0 (E : Env) (o : Out) : Option (AV × Heap) := outR [(2, some (true, 15)), (3, none)] (andThen (endBlock 0 (some [0, 2, 6, 7]) (o)) (ev E (.seq (.ops [⟨some 108, none, .load true 15 (.t 6)⟩, ⟨none, none, .store 15 (.t 2) (.t 108)⟩, ⟨some 3, none, .mov (.c (.int .i64 0))⟩])
  .ret)))
def I41 : Fn_ := ⟨1, 109, [(2, some (true, 15)), (3, none)],
  (.seq (.ops [⟨some 2, none, .alloc true [(.int .u8 0), (.int .u32 0), (.int .u16 0), (.bool false), (.int .u32 0), (.int .u32 0), (.int .u32 0), (.int .u32 0), (.int .u8 0), (.int .u8 0), (.int .u8 0), (.int .u8 0), (.int .u8 0), (.int .u8 0), (.rs false 2 [])] 66⟩, ⟨some 3, none, .mov (.c (.int .i64 0))⟩])
  (.seq (.seq (.ops [⟨some 8, none, .mov (.t 0)⟩, ⟨some 9, none, .len (.t 8)⟩, ⟨some 10, none, .bin .lss (.t 9) (.c (.int .i64 240))⟩])
  (.cond (.t 10)
  (.seq (.ops [⟨some 11, none, .build [(.int .u8 0), (.int .u32 0), (.int .u16 0), (.bool false), (.int .u32 0), (.int .u32 0), (.int .u32 0), (.int .u32 0), (.int .u8 0), (.int .u8 0), (.int .u8 0), (.int .u8 0), (.int .u8 0), (.int .u8 0), (.rs false 2 [])] []⟩, ⟨none, none, .store 15 (.t 2) (.t 11)⟩, ⟨some 3, none, .mov (.c (.int .i64 12))⟩])
  .ret)
  .skip))
  (.seq (.seq (.ops [⟨some 12, none, .mov (.t 0)⟩, ⟨some 13, none, .iaddr 1 (.t 12) (.c (.int .i64 0))⟩, ⟨some 14, none, .load false 1 (.t 13)⟩, ⟨some 15, none, .bin .lss (.t 14) (.c (.int .u8 1))⟩, ⟨some 16, none, .mov (.t 15)⟩, ⟨some 17, (some (16, false)), .mov (.t 0)⟩, ⟨some 18, (some (16, false)), .iaddr 1 (.t 17) (.c (.int .i64 0))⟩, ⟨some 19, (some (16, false)), .load false 1 (.t 18)⟩, ⟨some 20, (some (16, false)), .bin .gtr (.t 19) (.c (.int .u8 2))⟩, ⟨some 21, none, .pick (.t 16) (.c (.bool true)) (.t 20)⟩, ⟨some 22, none, .mov (.t 21)⟩, ⟨some 23, (some (22, false)), .mov (.t 0)⟩, ⟨some 24, (some (22, false)), .iaddr 1 (.t 23) (.c (.int .i64 1))⟩, ⟨some 25, (some (22, false)), .load false 1 (.t 24)⟩, ⟨some 26, (some (22, false)), .bin .neq (.t 25) (.c (.int .u8 1))⟩, ⟨some 27, none, .pick (.t 22) (.c (.bool true)) (.t 26)⟩, ⟨some 28, none, .mov (.t 27)⟩, ⟨some 29, (some (28, false)), .mov (.t 0)⟩, ⟨some 30, (some (28, false)), .iaddr 1 (.t 29) (.c (.int .i64 2))⟩, ⟨some 31, (some (28, false)), .load false 1 (.t 30)⟩, ⟨some 32, (some (28, false)), .bin .neq (.t 31) (.c (.int .u8 6))⟩, ⟨some 33, none, .pick (.t 28) (.c (.bool true)) (.t 32)⟩])
  (.cond (.t 33)
  (.seq (.ops [⟨some 34, none, .build [(.int .u8 0), (.int .u32 0), (.int .u16 0), (.bool false), (.int .u32 0), (.int .u32 0), (.int .u32 0), (.int .u32 0), (.int .u8 0), (.int .u8 0), (.int .u8 0), (.int .u8 0), (.int .u8 0), (.int .u8 0), (.rs false 2 [])] []⟩, ⟨none, none, .store 15 (.t 2) (.t 34)⟩, ⟨some 3, none, .mov (.c (.int .i64 14))⟩])
  .ret)
  .skip))
  (.seq (.seq (.ops [⟨some 35, none, .mov (.t 0)⟩, ⟨some 36, none, .iaddr 1 (.t 35) (.c (.int .i64 236))⟩, ⟨some 37, none, .load false 1 (.t 36)⟩, ⟨some 38, none, .bin .neq (.t 37) (.c (.int .u8 99))⟩, ⟨some 39, none, .mov (.t 38)⟩, ⟨some 40, (some (39, false)), .mov (.t 0)⟩, ⟨some 41, (some (39, false)), .iaddr 1 (.t 40) (.c (.int .i64 237))⟩, ⟨some 42, (some (39, false)), .load false 1 (.t 41)⟩, ⟨some 43, (some (39, false)), .bin .neq (.t 42) (.c (.int .u8 130))⟩, ⟨some 44, none, .pick (.t 39) (.c (.bool true)) (.t 43)⟩, ⟨some 45, none, .mov (.t 44)⟩, ⟨some 46, (some (45, false)), .mov (.t 0)⟩, ⟨some 47, (some (45, false)), .iaddr 1 (.t 46) (.c (.int .i64 238))⟩, ⟨some 48, (some (45, false)), .load false 1 (.t 47)⟩, ⟨some 49, (some (45, false)), .bin .neq (.t 48) (.c (.int .u8 83))⟩, ⟨some 50, none, .pick (.t 45) (.c (.bool true)) (.t 49)⟩, ⟨some 51, none, .mov (.t 50)⟩, ⟨some 52, (some (51, false)), .mov (.t 0)⟩, ⟨some 53, (some (51, false)), .iaddr 1 (.t 52) (.c (.int .i64 239))⟩, ⟨some 54, (some (51, false)), .load false 1 (.t 53)⟩, ⟨some 55, (some (51, false)), .bin .neq (.t 54) (.c (.int .u8 99))⟩, ⟨some 56, none, .pick (.t 51) (.c (.bool true)) (.t 55)⟩])
  (.cond (.t 56)
  (.seq (.ops [⟨some 57, none, .build [(.int .u8 0), (.int .u32 0), (.int .u16 0), (.bool false), (.int .u32 0), (.int .u32 0), (.int .u32 0), (.int .u32 0), (.int .u8 0), (.int .u8 0), (.int .u8 0), (.int .u8 0), (.int .u8 0), (.int .u8 0), (.rs false 2 [])] []⟩, ⟨none, none, .store 15 (.t 2) (.t 57)⟩, ⟨some 3, none, .mov (.c (.int .i64 10))⟩])
  .ret)
  .skip))
  (.seq (.ops [⟨some 59, none, .mov (.t 0)⟩, ⟨some 60, none, .slice 1 (.t 59) (some (.c (.int .i64 240))) none⟩, ⟨some 61, none, .callF false 23 [(.t 60)]⟩, ⟨some 58, none, .mov (.t 61)⟩, ⟨some 62, none, .ext (.t 58) 0⟩, ⟨some 63, none, .ext (.t 58) 1⟩, ⟨some 4, none, .mov (.t 62)⟩, ⟨some 5, none, .mov (.t 63)⟩])
  (.seq (.seq (.ops [⟨some 64, none, .mov (.t 5)⟩, ⟨some 65, none, .bin .neq (.t 64) (.c (.int .i64 0))⟩])
  (.cond (.t 65)
  (.seq (.ops [⟨some 66, none, .build [(.int .u8 0), (.int .u32 0), (.int .u16 0), (.bool false), (.int .u32 0), (.int .u32 0), (.int .u32 0), (.int .u32 0), (.int .u8 0), (.int .u8 0), (.int .u8 0), (.int .u8 0), (.int .u8 0), (.int .u8 0), (.rs false 2 [])] []⟩, ⟨some 67, none, .mov (.t 5)⟩, ⟨none, none, .store 15 (.t 2) (.t 66)⟩, ⟨some 3, none, .mov (.t 67)⟩])
  .ret)
  .skip))
  (.seq (.ops [⟨some 68, none, .mov (.t 0)⟩, ⟨some 69, none, .iaddr 1 (.t 68) (.c (.int .i64 0))⟩, ⟨some 70, none, .load false 1 (.t 69)⟩, ⟨some 71, none, .mov (.t 0)⟩, ⟨some 72, none, .slice 1 (.t 71) (some (.c (.int .i64 4))) none⟩, ⟨some 73, none, .callF true 91 [(.t 72)]⟩, ⟨some 74, none, .mov (.t 0)⟩, ⟨some 75, none, .slice 1 (.t 74) (some (.c (.int .i64 8))) none⟩, ⟨some 76, none, .callF true 92 [(.t 75)]⟩, ⟨some 77, none, .conv .u16 (.t 76)⟩, ⟨some 78, none, .mov (.t 0)⟩, ⟨some 79, none, .iaddr 1 (.t 78) (.c (.int .i64 10))⟩, ⟨some 80, none, .load false 1 (.t 79)⟩, ⟨some 81, none, .bin .geq (.t 80) (.c (.int .u8 128))⟩, ⟨some 82, none, .mov (.t 0)⟩, ⟨some 83, none, .slice 1 (.t 82) (some (.c (.int .i64 12))) none⟩, ⟨some 84, none, .callF true 91 [(.t 83)]⟩, ⟨some 85, none, .mov (.t 0)⟩, ⟨some 86, none, .slice 1 (.t 85) (some (.c (.int .i64 16))) none⟩, ⟨some 87, none, .callF true 91 [(.t 86)]⟩, ⟨some 88, none, .mov (.t 0)⟩, ⟨some 89, none, .slice 1 (.t 88) (some (.c (.int .i64 20))) none⟩, ⟨some 90, none, .callF true 91 [(.t 89)]⟩, ⟨some 91, none, .mov (.t 0)⟩, ⟨some 92, none, .slice 1 (.t 91) (some (.c (.int .i64 24))) none⟩, ⟨some 93, none, .callF true 91 [(.t 92)]⟩, ⟨some 94, none, .mov (.t 4)⟩, ⟨some 95, none, .build [(.int .u8 0), (.int .u32 0), (.int .u16 0), (.bool false), (.int .u32 0), (.int .u32 0), (.int .u32 0), (.int .u32 0), (.int .u8 0), (.int .u8 0), (.int .u8 0), (.int .u8 0), (.int .u8 0), (.int .u8 0), (.rs false 2 [])] [(0, 1, (.t 70)), (1, 1, (.t 73)), (2, 1, (.t 77)), (3, 1, (.t 81)), (4, 1, (.t 84)), (5, 1, (.t 87)), (6, 1, (.t 90)), (7, 1, (.t 93)), (14, 1, (.t 94))]⟩, ⟨some 6, none, .alloc true [(.int .u8 0), (.int .u32 0), (.int .u16 0), (.bool false), (.int .u32 0), (.int .u32 0), (.int .u32 0), (.int .u32 0), (.int .u8 0), (.int .u8 0), (.int .u8 0), (.int .u8 0), (.int .u8 0), (.int .u8 0), (.rs false 2 [])] 66⟩, ⟨none, none, .store 15 (.t 6) (.t 95)⟩])
  (.seq (.seq (.ops [⟨some 7, none, .mov (.c (.int .i64 0))⟩])
  (.block 0 (some [0, 2, 6, 7]) L41_0))
  (.seq (.ops [⟨some 108, none, .load true 15 (.t 6)⟩, ⟨none, none, .store 15 (.t 2) (.t 108)⟩, ⟨some 3, none, .mov (.c (.int .i64 0))⟩])
  .ret)))))))))⟩
/- vizard/vizardref24.Same -/
def I42 : Fn_ := ⟨2, 73, [(4, none)],
  (.seq (.ops [⟨some 2, none, .boxR true 15 66 (.t 0)⟩, ⟨some 3, none, .boxR true 15 66 (.t 1)⟩, ⟨some 4, none, .mov (.c (.bool false))⟩])
  (.seq (.ops [⟨some 5, none, .faddr false 0 1 (.t 2)⟩, ⟨some 6, none, .load false 1 (.t 5)⟩, ⟨some 7, none, .faddr false 0 1 (.t 3)⟩, ⟨some 8, none, .load false 1 (.t 7)⟩, ⟨some 9, none, .bin .eql (.t 6) (.t 8)⟩, ⟨some 10, none, .mov (.t 9)⟩, ⟨some 11, (some (10, true)), .faddr false 1 1 (.t 2)⟩, ⟨some 12, (some (10, true)), .load false 1 (.t 11)⟩, ⟨some 13, (some (10, true)), .faddr false 1 1 (.t 3)⟩, ⟨some 14, (some (10, true)), .load false 1 (.t 13)⟩, ⟨some 15, (some (10, true)), .bin .eql (.t 12) (.t 14)⟩, ⟨some 16, none, .pick (.t 10) (.t 15) (.c (.bool false))⟩, ⟨some 17, none, .mov (.t 16)⟩, ⟨some 18, (some (17, true)), .faddr false 2 1 (.t 2)⟩, ⟨some 19, (some (17, true)), .load false 1 (.t 18)⟩, ⟨some 20, (some (17, true)), .faddr false 2 1 (.t 3)⟩, ⟨some 21, (some (17, true)), .load false 1 (.t 20)⟩, ⟨some 22, (some (17, true)), .bin .eql (.t 19) (.t 21)⟩, ⟨some 23, none, .pick (.t 17) (.t 22) (.c (.bool false))⟩, ⟨some 24, none, .mov (.t 23)⟩, ⟨some 25, (some (24, true)), .faddr false 3 1 (.t 2)⟩, ⟨some 26, (some (24, true)), .load false 1 (.t 25)⟩, ⟨some 27, (some (24, true)), .faddr false 3 1 (.t 3)⟩, ⟨some 28, (some (24, true)), .load false 1 (.t 27)⟩, ⟨some 29, (some (24, true)), .binB .eql (.t 26) (.t 28)⟩, ⟨some 30, none, .pick (.t 24) (.t 29) (.c (.bool false))⟩, ⟨some 31, none, .mov (.t 30)⟩, ⟨some 32, (some (31, true)), .faddr false 4 1 (.t 2)⟩, ⟨some 33, (some (31, true)), .load false 1 (.t 32)⟩, ⟨some 34, (some (31, true)), .faddr false 4 1 (.t 3)⟩, ⟨some 35, (some (31, true)), .load false 1 (.t 34)⟩, ⟨some 36, (some (31, true)), .bin .eql (.t 33) (.t 35)⟩, ⟨some 37, none, .pick (.t 31) (.t 36) (.c (.bool false))⟩, ⟨some 38, none, .mov (.t 37)⟩, ⟨some 39, (some (38, true)), .faddr false 5 1 (.t 2)⟩, ⟨some 40, (some (38, true)), .load false 1 (.t 39)⟩, ⟨some 41, (some (38, true)), .faddr false 5 1 (.t 3)⟩, ⟨some 42, (some (38, true)), .load false 1 (.t 41)⟩, ⟨some 43, (some (38, true)), .bin .eql (.t 40) (.t 42)⟩, ⟨some 44, none, .pick (.t 38) (.t 43) (.c (.bool false))⟩, ⟨some 45, none, .mov (.t 44)⟩, ⟨some 46, (some (45, true)), .faddr false 6 1 (.t 2)⟩, ⟨some 47, (some (45, true)), .load false 1 (.t 46)⟩, ⟨some 48, (some (45, true)), .faddr false 6 1 (.t 3)⟩, ⟨some 49, (some (45, true)), .load false 1 (.t 48)⟩, ⟨some 50, (some (45, true)), .bin .eql (.t 47) (.t 49)⟩, ⟨some 51, none, .pick (.t 45) (.t 50) (.c (.bool false))⟩, ⟨some 52, none, .mov (.t 51)⟩, ⟨some 53, (some (52, true)), .faddr false 7 1 (.t 2)⟩, ⟨some 54, (some (52, true)), .load false 1 (.t 53)⟩, ⟨some 55, (some (52, true)), .faddr false 7 1 (.t 3)⟩, ⟨some 56, (some (52, true)), .load false 1 (.t 55)⟩, ⟨some 57, (some (52, true)), .bin .eql (.t 54) (.t 56)⟩, ⟨some 58, none, .pick (.t 52) (.t 57) (.c (.bool false))⟩, ⟨some 59, none, .mov (.t 58)⟩, ⟨some 60, (some (59, true)), .faddr true 8 6 (.t 2)⟩, ⟨some 61, (some (59, true)), .load true 6 (.t 60)⟩, ⟨some 62, (some (59, true)), .faddr true 8 6 (.t 3)⟩, ⟨some 63, (some (59, true)), .load true 6 (.t 62)⟩, ⟨some 64, (some (59, true)), .eqS false [1, 1, 1, 1, 1, 1] (.t 61) (.t 63)⟩, ⟨some 65, none, .pick (.t 59) (.t 64) (.c (.bool false))⟩, ⟨some 66, none, .mov (.t 65)⟩, ⟨some 67, (some (66, true)), .faddr false 14 1 (.t 2)⟩, ⟨some 68, (some (66, true)), .load false 1 (.t 67)⟩, ⟨some 69, (some (66, true)), .faddr false 14 1 (.t 3)⟩, ⟨some 70, (some (66, true)), .load false 1 (.t 69)⟩, ⟨some 71, (some (66, true)), .callF false 24 [(.t 68), (.t 70)]⟩, ⟨some 72, none, .pick (.t 66) (.t 71) (.c (.bool false))⟩, ⟨some 4, none, .mov (.t 72)⟩])
  .ret))⟩
/- vizard/vizardlaw24.Of -/
def I43 : Fn_ := ⟨1, 25, [(2, some (true, 15))],
  (.seq (.ops [⟨some 1, none, .boxR true 15 62 (.t 0)⟩, ⟨some 2, none, .alloc true [(.int .u8 0), (.int .u32 0), (.int .u16 0), (.bool false), (.int .u32 0), (.int .u32 0), (.int .u32 0), (.int .u32 0), (.int .u8 0), (.int .u8 0), (.int .u8 0), (.int .u8 0), (.int .u8 0), (.int .u8 0), (.rs false 2 [])] 66⟩])
  (.seq (.ops [⟨some 3, none, .faddr false 0 1 (.t 1)⟩, ⟨some 4, none, .load false 1 (.t 3)⟩, ⟨some 5, none, .faddr false 1 1 (.t 1)⟩, ⟨some 6, none, .load false 1 (.t 5)⟩, ⟨some 7, none, .faddr false 2 1 (.t 1)⟩, ⟨some 8, none, .load false 1 (.t 7)⟩, ⟨some 9, none, .faddr false 3 1 (.t 1)⟩, ⟨some 10, none, .load false 1 (.t 9)⟩, ⟨some 11, none, .faddr false 4 1 (.t 1)⟩, ⟨some 12, none, .load false 1 (.t 11)⟩, ⟨some 13, none, .faddr false 5 1 (.t 1)⟩, ⟨some 14, none, .load false 1 (.t 13)⟩, ⟨some 15, none, .faddr false 6 1 (.t 1)⟩, ⟨some 16, none, .load false 1 (.t 15)⟩, ⟨some 17, none, .faddr false 7 1 (.t 1)⟩, ⟨some 18, none, .load false 1 (.t 17)⟩, ⟨some 19, none, .faddr true 8 6 (.t 1)⟩, ⟨some 20, none, .load true 6 (.t 19)⟩, ⟨some 21, none, .faddr false 14 1 (.t 1)⟩, ⟨some 22, none, .load false 1 (.t 21)⟩, ⟨some 23, none, .callF true 25 [(.t 22)]⟩, ⟨some 24, none, .build [(.int .u8 0), (.int .u32 0), (.int .u16 0), (.bool false), (.int .u32 0), (.int .u32 0), (.int .u32 0), (.int .u32 0), (.int .u8 0), (.int .u8 0), (.int .u8 0), (.int .u8 0), (.int .u8 0), (.int .u8 0), (.rs false 2 [])] [(0, 1, (.t 4)), (1, 1, (.t 6)), (2, 1, (.t 8)), (3, 1, (.t 10)), (4, 1, (.t 12)), (5, 1, (.t 14)), (6, 1, (.t 16)), (7, 1, (.t 18)), (8, 6, (.t 20)), (14, 1, (.t 23))]⟩, ⟨none, none, .store 15 (.t 2) (.t 24)⟩])
  .ret))⟩
/- vizard/vizardlaw24.great -/
def B44_0 : C := (.seq (.seq (.ops [⟨some 8, none, .mov (.t 3)⟩, ⟨some 9, none, .faddr false 14 1 (.t 1)⟩, ⟨some 10, none, .load false 1 (.t 9)⟩, ⟨some 11, none, .len (.t 10)⟩, ⟨some 12, none, .bin .lss (.t 8) (.t 11)⟩])
  (.cond (.t 12)
  .skip
  (.exit 0)))
  (.seq (.block 1 (some [1, 3]) (.seq (.ops [⟨some 15, none, .faddr false 14 1 (.t 1)⟩, ⟨some 16, none, .load false 1 (.t 15)⟩, ⟨some 17, none, .mov (.t 3)⟩, ⟨some 18, none, .iaddr 2 (.t 16) (.t 17)⟩, ⟨some 19, none, .faddr false 1 1 (.t 18)⟩, ⟨some 20, none, .load false 1 (.t 19)⟩, ⟨some 21, none, .len (.t 20)⟩, ⟨some 22, none, .bin .gtr (.t 21) (.c (.int .i64 300))⟩])
  (.cond (.t 22)
  (.seq (.ops [⟨some 2, none, .mov (.c (.bool true))⟩])
  .ret)
  .skip)))
  (.ops [⟨some 13, none, .mov (.t 3)⟩, ⟨some 14, none, .bin .add (.t 13) (.c (.int .i64 1))⟩, ⟨some 3, none, .mov (.t 14)⟩])))
def L44_0 : C := .loop (some [1, 3]) B44_0
theorem L44_0_eq {E : Env} (x : St) : ev E L44_0 x = andThen (ev E B44_0 (restr (some [1, 3]) x)) (ev E L44_0) := ev_loop _ _ x
theorem L44_0_lp {E : Env} (s : Slots) (h : Heap) : ev E L44_0 ⟨s, h⟩ = lp E L44_0 (pickS s [1, 3]) h := lp_of L44_0_eq s h
theorem L44_0_go {E : Env} (s : Slots) (h : Heap) : lp E L44_0 s h = andThen (ev E B44_0 ⟨pickS s [1, 3], h⟩) (ev E L44_0) := lp_go L44_0_eq s h
noncomputable def T44_0 (E : Env) (o : Out) : Option (AV × Heap) := outR [(2, none)] (andThen (endBlock 0 (some [1, 3]) (o)) (ev E (.seq (.ops [⟨some 2, none, .mov (.c (.bool false))⟩])
  .ret)))
def I44 : Fn_ := ⟨1, 23, [(2, none)],
  (.seq (.ops [⟨some 1, none, .boxR true 15 62 (.t 0)⟩, ⟨some 2, none, .mov (.c (.bool false))⟩])
  (.seq (.seq (.ops [⟨some 4, none, .faddr false 14 1 (.t 1)⟩, ⟨some 5, none, .load false 1 (.t 4)⟩, ⟨some 6, none, .len (.t 5)⟩, ⟨some 7, none, .bin .gtr (.t 6) (.c (.int .i64 40))⟩])
  (.cond (.t 7)
  (.seq (.ops [⟨some 2, none, .mov (.c (.bool true))⟩])
  .ret)
  .skip))
  (.seq (.seq (.ops [⟨some 3, none, .mov (.c (.int .i64 0))⟩])
  (.block 0 (some [1, 3]) L44_0))
  (.seq (.ops [⟨some 2, none, .mov (.c (.bool false))⟩])
  .ret))))⟩
/- (vizard/boot.Message).Bytes -/
def I45 : Fn_ := ⟨1, 92, [(2, none), (3, none)],
  (.seq (.ops [⟨some 1, none, .boxR true 15 62 (.t 0)⟩, ⟨some 2, none, .mov (.c (.rs false 1 []))⟩, ⟨some 3, none, .mov (.c (.int .i64 0))⟩])
  (.seq (.seq (.ops [⟨some 14, none, .faddr false 0 1 (.t 1)⟩, ⟨some 15, none, .load false 1 (.t 14)⟩, ⟨some 16, none, .callF false 88 [(.t 15)]⟩, ⟨some 17, none, .un .not (.t 16)⟩])
  (.cond (.t 17)
  (.seq (.ops [⟨some 2, none, .mov (.c (.rs false 1 []))⟩, ⟨some 3, none, .mov (.c (.int .i64 14))⟩])
  .ret)
  .skip))
  (.seq (.ops [⟨some 19, none, .faddr false 14 1 (.t 1)⟩, ⟨some 20, none, .load false 1 (.t 19)⟩, ⟨some 21, none, .callF false 28 [(.t 20)]⟩, ⟨some 18, none, .mov (.t 21)⟩, ⟨some 22, none, .ext (.t 18) 0⟩, ⟨some 23, none, .ext (.t 18) 1⟩, ⟨some 4, none, .mov (.t 22)⟩, ⟨some 5, none, .mov (.t 23)⟩])
  (.seq (.block 0 (some [1, 4, 5]) (.seq (.ops [⟨some 25, none, .mov (.t 5)⟩, ⟨some 26, none, .bin .neq (.t 25) (.c (.int .i64 0))⟩, ⟨some 24, none, .mov (.t 26)⟩])
  (.cond (.t 24)
  (.seq (.ops [⟨some 27, none, .mov (.t 5)⟩, ⟨some 2, none, .mov (.c (.rs false 1 []))⟩, ⟨some 3, none, .mov (.t 27)⟩])
  .ret)
  (.seq (.ops [⟨some 29, none, .mov (.t 4)⟩, ⟨some 30, none, .len (.t 29)⟩, ⟨some 31, none, .bin .add (.c (.int .i64 240)) (.t 30)⟩, ⟨some 32, none, .bin .gtr (.t 31) (.c (.int .i64 1472))⟩, ⟨some 28, none, .mov (.t 32)⟩])
  (.cond (.t 28)
  (.seq (.ops [⟨some 2, none, .mov (.c (.rs false 1 []))⟩, ⟨some 3, none, .mov (.c (.int .i64 11))⟩])
  .ret)
  .skip)))))
  (.seq (.ops [⟨some 34, none, .faddr false 1 1 (.t 1)⟩, ⟨some 35, none, .load false 1 (.t 34)⟩, ⟨some 36, none, .conv .u64 (.t 35)⟩, ⟨some 37, none, .buildR 1 86 [(.t 36)]⟩, ⟨some 38, none, .callF false 86 [(.c (.int .i64 4)), (.t 37)]⟩, ⟨some 33, none, .mov (.t 38)⟩, ⟨some 39, none, .ext (.t 33) 0⟩, ⟨some 40, none, .ext (.t 33) 1⟩, ⟨some 6, none, .mov (.t 39)⟩, ⟨some 7, none, .mov (.t 40)⟩])
  (.seq (.ops [⟨some 42, none, .faddr false 2 1 (.t 1)⟩, ⟨some 43, none, .load false 1 (.t 42)⟩, ⟨some 44, none, .conv .u64 (.t 43)⟩, ⟨some 45, none, .buildR 1 86 [(.t 44)]⟩, ⟨some 46, none, .callF false 86 [(.c (.int .i64 2)), (.t 45)]⟩, ⟨some 41, none, .mov (.t 46)⟩, ⟨some 47, none, .ext (.t 41) 0⟩, ⟨some 48, none, .ext (.t 41) 1⟩, ⟨some 8, none, .mov (.t 47)⟩, ⟨some 9, none, .mov (.t 48)⟩])
  (.seq (.ops [⟨some 50, none, .faddr false 4 1 (.t 1)⟩, ⟨some 51, none, .load false 1 (.t 50)⟩, ⟨some 52, none, .conv .u64 (.t 51)⟩, ⟨some 53, none, .faddr false 5 1 (.t 1)⟩, ⟨some 54, none, .load false 1 (.t 53)⟩, ⟨some 55, none, .conv .u64 (.t 54)⟩, ⟨some 56, none, .faddr false 6 1 (.t 1)⟩, ⟨some 57, none, .load false 1 (.t 56)⟩, ⟨some 58, none, .conv .u64 (.t 57)⟩, ⟨some 59, none, .faddr false 7 1 (.t 1)⟩, ⟨some 60, none, .load false 1 (.t 59)⟩, ⟨some 61, none, .conv .u64 (.t 60)⟩, ⟨some 62, none, .buildR 1 86 [(.t 52), (.t 55), (.t 58), (.t 61)]⟩, ⟨some 63, none, .callF false 86 [(.c (.int .i64 4)), (.t 62)]⟩, ⟨some 49, none, .mov (.t 63)⟩, ⟨some 64, none, .ext (.t 49) 0⟩, ⟨some 65, none, .ext (.t 49) 1⟩, ⟨some 10, none, .mov (.t 64)⟩, ⟨some 11, none, .mov (.t 65)⟩])
  (.seq (.ops [⟨some 66, none, .buildSl 1 5 [(.c (.int .u8 0)), (.c (.int .u8 0))]⟩, ⟨some 12, none, .mov (.t 66)⟩])
  (.seq (.seq (.ops [⟨some 67, none, .faddr false 3 1 (.t 1)⟩, ⟨some 68, none, .load false 1 (.t 67)⟩])
  (.cond (.t 68)
  (.ops [⟨some 69, none, .mov (.t 12)⟩, ⟨some 70, none, .iaddr 1 (.t 69) (.c (.int .i64 0))⟩, ⟨none, none, .store 1 (.t 70) (.c (.int .u8 128))⟩])
  .skip))
  (.seq (.ops [⟨some 71, none, .faddr false 0 1 (.t 1)⟩, ⟨some 72, none, .load false 1 (.t 71)⟩, ⟨some 73, none, .buildR 1 5 [(.t 72), (.c (.int .u8 1)), (.c (.int .u8 6)), (.c (.int .u8 0))]⟩, ⟨some 74, none, .mov (.t 6)⟩, ⟨some 75, none, .mov (.t 8)⟩, ⟨some 76, none, .mov (.t 12)⟩, ⟨some 77, none, .mov (.t 10)⟩, ⟨some 78, none, .faddr true 8 6 (.t 1)⟩, ⟨some 79, none, .sliceA 6 1 (.t 78) none none⟩, ⟨some 80, none, .buildSl 1 22 [(.t 73), (.t 74), (.t 75), (.t 76), (.t 77), (.t 79)]⟩, ⟨some 81, none, .callF true 93 [(.t 80)]⟩, ⟨some 13, none, .mov (.t 81)⟩])
  (.seq (.ops [⟨some 82, none, .mov (.t 13)⟩, ⟨some 83, none, .mov (.t 13)⟩, ⟨some 84, none, .len (.t 83)⟩, ⟨some 85, none, .bin .sub (.c (.int .i64 236)) (.t 84)⟩, ⟨some 86, none, .mkSl 1 1 5 [(.int .u8 0)] (.t 85)⟩, ⟨some 87, none, .buildSl 1 5 [(.c (.int .u8 99)), (.c (.int .u8 130)), (.c (.int .u8 83)), (.c (.int .u8 99))]⟩, ⟨some 88, none, .frz (.t 87)⟩, ⟨some 89, none, .mov (.t 4)⟩, ⟨some 90, none, .buildSl 1 22 [(.t 82), (.t 86), (.t 88), (.t 89)]⟩, ⟨some 91, none, .callF false 93 [(.t 90)]⟩, ⟨some 2, none, .mov (.t 91)⟩, ⟨some 3, none, .mov (.c (.int .i64 0))⟩])
  .ret)))))))))))⟩
/- vizard/vizardref24.Bytes -/
def B46_0 : C := (.seq (.seq (.ops [⟨some 60, none, .mov (.t 8)⟩, ⟨some 61, none, .bin .lss (.t 60) (.c (.int .i64 4))⟩])
  (.cond (.t 61)
  .skip
  (.exit 0)))
  (.seq (.block 1 (some [1, 4, 6, 7, 8]) (.ops [⟨some 64, none, .mov (.t 6)⟩, ⟨some 65, none, .mov (.t 8)⟩, ⟨some 66, none, .iaddrA 4 1 false (.t 7) (.t 65)⟩, ⟨some 67, none, .load false 1 (.t 66)⟩, ⟨some 68, none, .callF false 87 [(.t 67)]⟩, ⟨some 69, none, .append 1 1 5 (.t 64) (.t 68)⟩, ⟨some 6, none, .mov (.t 69)⟩]))
  (.ops [⟨some 62, none, .mov (.t 8)⟩, ⟨some 63, none, .bin .add (.t 62) (.c (.int .i64 1))⟩, ⟨some 8, none, .mov (.t 63)⟩])))
def L46_0 : C := .loop (some [1, 4, 6, 7, 8]) B46_0
theorem L46_0_eq {E : Env} (x : St) : ev E L46_0 x = andThen (ev E B46_0 (restr (some [1, 4, 6, 7, 8]) x)) (ev E L46_0) := ev_loop _ _ x
theorem L46_0_lp {E : Env} (s : Slots) (h : Heap) : ev E L46_0 ⟨s, h⟩ = lp E L46_0 (pickS s [1, 4, 6, 7, 8]) h := lp_of L46_0_eq s h
theorem L46_0_go {E : Env} (s : Slots) (h : Heap) : lp E L46_0 s h = andThen (ev E B46_0 ⟨pickS s [1, 4, 6, 7, 8], h⟩) (ev E L46_0) := lp_go L46_0_eq s h
noncomputable def T46_0 (E : Env) (o : Out) : Option (AV × Heap) := outR [(2, none), (3, none)] (andThen (endBlock 0 (some [1, 4, 6, 7, 8]) (o)) (ev E (.seq (.ops [⟨some 70, none, .mov (.t 6)⟩, ⟨some 71, none, .faddr true 8 6 (.t 1)⟩, ⟨some 72, none, .sliceA 6 1 (.t 71) none none⟩, ⟨some 73, none, .append 1 1 5 (.t 70) (.t 72)⟩, ⟨some 6, none, .mov (.t 73)⟩])
  (.seq (.ops [⟨some 74, none, .mov (.t 6)⟩, ⟨some 75, none, .appMk 1 1 5 [(.int .u8 0)] (.t 74) (.c (.int .i64 202))⟩, ⟨some 6, none, .mov (.t 75)⟩])
  (.seq (.ops [⟨some 76, none, .mov (.t 6)⟩, ⟨some 77, none, .buildR 1 5 [(.c (.int .u8 99)), (.c (.int .u8 130)), (.c (.int .u8 83)), (.c (.int .u8 99))]⟩, ⟨some 78, none, .append 1 1 5 (.t 76) (.t 77)⟩, ⟨some 6, none, .mov (.t 78)⟩])
  (.seq (.ops [⟨some 79, none, .mov (.t 6)⟩, ⟨some 80, none, .mov (.t 4)⟩, ⟨some 81, none, .append 1 1 5 (.t 79) (.t 80)⟩, ⟨some 2, none, .mov (.t 81)⟩, ⟨some 3, none, .mov (.c (.int .i64 0))⟩])
  .ret))))))
def I46 : Fn_ := ⟨1, 82, [(2, none), (3, none)],
  (.seq (.ops [⟨some 1, none, .boxR true 15 66 (.t 0)⟩, ⟨some 2, none, .mov (.c (.rs false 1 []))⟩, ⟨some 3, none, .mov (.c (.int .i64 0))⟩])
  (.seq (.seq (.ops [⟨some 9, none, .faddr false 0 1 (.t 1)⟩, ⟨some 10, none, .load false 1 (.t 9)⟩, ⟨some 11, none, .bin .lss (.t 10) (.c (.int .u8 1))⟩, ⟨some 12, none, .mov (.t 11)⟩, ⟨some 13, (some (12, false)), .faddr false 0 1 (.t 1)⟩, ⟨some 14, (some (12, false)), .load false 1 (.t 13)⟩, ⟨some 15, (some (12, false)), .bin .gtr (.t 14) (.c (.int .u8 2))⟩, ⟨some 16, none, .pick (.t 12) (.c (.bool true)) (.t 15)⟩])
  (.cond (.t 16)
  (.seq (.ops [⟨some 2, none, .mov (.c (.rs false 1 []))⟩, ⟨some 3, none, .mov (.c (.int .i64 14))⟩])
  .ret)
  .skip))
  (.seq (.ops [⟨some 18, none, .faddr false 14 1 (.t 1)⟩, ⟨some 19, none, .load false 1 (.t 18)⟩, ⟨some 20, none, .callF false 29 [(.t 19)]⟩, ⟨some 17, none, .mov (.t 20)⟩, ⟨some 21, none, .ext (.t 17) 0⟩, ⟨some 22, none, .ext (.t 17) 1⟩, ⟨some 4, none, .mov (.t 21)⟩, ⟨some 5, none, .mov (.t 22)⟩])
  (.seq (.seq (.ops [⟨some 23, none, .mov (.t 5)⟩, ⟨some 24, none, .bin .neq (.t 23) (.c (.int .i64 0))⟩])
  (.cond (.t 24)
  (.seq (.ops [⟨some 25, none, .mov (.t 5)⟩, ⟨some 2, none, .mov (.c (.rs false 1 []))⟩, ⟨some 3, none, .mov (.t 25)⟩])
  .ret)
  .skip))
  (.seq (.seq (.ops [⟨some 26, none, .mov (.t 4)⟩, ⟨some 27, none, .len (.t 26)⟩, ⟨some 28, none, .bin .add (.c (.int .i64 240)) (.t 27)⟩, ⟨some 29, none, .bin .gtr (.t 28) (.c (.int .i64 1472))⟩])
  (.cond (.t 29)
  (.seq (.ops [⟨some 2, none, .mov (.c (.rs false 1 []))⟩, ⟨some 3, none, .mov (.c (.int .i64 11))⟩])
  .ret)
  .skip))
  (.seq (.ops [⟨some 30, none, .faddr false 0 1 (.t 1)⟩, ⟨some 31, none, .load false 1 (.t 30)⟩, ⟨some 32, none, .buildSl 1 5 [(.t 31), (.c (.int .u8 1)), (.c (.int .u8 6)), (.c (.int .u8 0))]⟩, ⟨some 33, none, .faddr false 1 1 (.t 1)⟩, ⟨some 34, none, .loadR false 1 (.t 33)⟩, ⟨some 35, none, .callP 87 [(.t 34)]⟩, ⟨some 36, none, .append 1 1 5 (.t 32) (.t 35)⟩, ⟨some 6, none, .mov (.t 36)⟩])
  (.seq (.ops [⟨some 37, none, .mov (.t 6)⟩, ⟨some 38, none, .faddr false 2 1 (.t 1)⟩, ⟨some 39, none, .load false 1 (.t 38)⟩, ⟨some 40, none, .conv .i64 (.t 39)⟩, ⟨some 41, none, .callF false 94 [(.t 40)]⟩, ⟨some 42, none, .append 1 1 5 (.t 37) (.t 41)⟩, ⟨some 6, none, .mov (.t 42)⟩])
  (.seq (.seq (.ops [⟨some 43, none, .faddr false 3 1 (.t 1)⟩, ⟨some 44, none, .load false 1 (.t 43)⟩])
  (.cond (.t 44)
  (.ops [⟨some 45, none, .mov (.t 6)⟩, ⟨some 46, none, .buildR 1 5 [(.c (.int .u8 128)), (.c (.int .u8 0))]⟩, ⟨some 47, none, .append 1 1 5 (.t 45) (.t 46)⟩, ⟨some 6, none, .mov (.t 47)⟩])
  (.ops [⟨some 48, none, .mov (.t 6)⟩, ⟨some 49, none, .buildR 1 5 [(.c (.int .u8 0)), (.c (.int .u8 0))]⟩, ⟨some 50, none, .append 1 1 5 (.t 48) (.t 49)⟩, ⟨some 6, none, .mov (.t 50)⟩])))
  (.seq (.ops [⟨some 51, none, .faddr false 4 1 (.t 1)⟩, ⟨some 52, none, .load false 1 (.t 51)⟩, ⟨some 53, none, .faddr false 5 1 (.t 1)⟩, ⟨some 54, none, .load false 1 (.t 53)⟩, ⟨some 55, none, .faddr false 6 1 (.t 1)⟩, ⟨some 56, none, .load false 1 (.t 55)⟩, ⟨some 57, none, .faddr false 7 1 (.t 1)⟩, ⟨some 58, none, .load false 1 (.t 57)⟩, ⟨some 59, none, .build [(.int .u32 0), (.int .u32 0), (.int .u32 0), (.int .u32 0)] [(0, 1, (.t 52)), (1, 1, (.t 54)), (2, 1, (.t 56)), (3, 1, (.t 58))]⟩, ⟨some 7, none, .alloc true [(.int .u32 0), (.int .u32 0), (.int .u32 0), (.int .u32 0)] 151⟩, ⟨none, none, .store 4 (.t 7) (.t 59)⟩])
  (.seq (.seq (.ops [⟨some 8, none, .mov (.c (.int .i64 0))⟩])
  (.block 0 (some [1, 4, 6, 7, 8]) L46_0))
  (.seq (.ops [⟨some 70, none, .mov (.t 6)⟩, ⟨some 71, none, .faddr true 8 6 (.t 1)⟩, ⟨some 72, none, .sliceA 6 1 (.t 71) none none⟩, ⟨some 73, none, .append 1 1 5 (.t 70) (.t 72)⟩, ⟨some 6, none, .mov (.t 73)⟩])
  (.seq (.ops [⟨some 74, none, .mov (.t 6)⟩, ⟨some 75, none, .appMk 1 1 5 [(.int .u8 0)] (.t 74) (.c (.int .i64 202))⟩, ⟨some 6, none, .mov (.t 75)⟩])
  (.seq (.ops [⟨some 76, none, .mov (.t 6)⟩, ⟨some 77, none, .buildR 1 5 [(.c (.int .u8 99)), (.c (.int .u8 130)), (.c (.int .u8 83)), (.c (.int .u8 99))]⟩, ⟨some 78, none, .append 1 1 5 (.t 76) (.t 77)⟩, ⟨some 6, none, .mov (.t 78)⟩])
  (.seq (.ops [⟨some 79, none, .mov (.t 6)⟩, ⟨some 80, none, .mov (.t 4)⟩, ⟨some 81, none, .append 1 1 5 (.t 79) (.t 80)⟩, ⟨some 2, none, .mov (.t 81)⟩, ⟨some 3, none, .mov (.c (.int .i64 0))⟩])
  .ret))))))))))))))⟩
/- (vizard/boot.Message).Kind -/
def I47 : Fn_ := ⟨1, 13, [(2, none)],
  (.seq (.ops [⟨some 1, none, .boxR true 15 62 (.t 0)⟩, ⟨some 2, none, .mov (.c (.int .i64 0))⟩])
  (.seq (.ops [⟨some 6, none, .faddr false 14 1 (.t 1)⟩, ⟨some 7, none, .load false 1 (.t 6)⟩, ⟨some 8, none, .callF false 32 [(.t 7), (.c (.int .u8 53)), (.c (.int .i64 1))]⟩, ⟨some 5, none, .mov (.t 8)⟩, ⟨some 9, none, .ext (.t 5) 0⟩, ⟨some 10, none, .ext (.t 5) 1⟩, ⟨some 3, none, .mov (.t 9)⟩, ⟨some 4, none, .mov (.t 10)⟩])
  (.seq (.ops [⟨some 11, none, .mov (.t 3)⟩, ⟨some 12, none, .conv .i64 (.t 11)⟩, ⟨some 2, none, .mov (.t 12)⟩])
  .ret)))⟩
/- vizard/vizardref24.Kind -/
def I48 : Fn_ := ⟨1, 13, [(2, none)],
  (.seq (.ops [⟨some 1, none, .boxR true 15 66 (.t 0)⟩, ⟨some 2, none, .mov (.c (.int .i64 0))⟩])
  (.seq (.ops [⟨some 6, none, .faddr false 14 1 (.t 1)⟩, ⟨some 7, none, .load false 1 (.t 6)⟩, ⟨some 8, none, .callF false 33 [(.t 7), (.c (.int .u8 53)), (.c (.int .i64 1))]⟩, ⟨some 5, none, .mov (.t 8)⟩, ⟨some 9, none, .ext (.t 5) 0⟩, ⟨some 10, none, .ext (.t 5) 1⟩, ⟨some 3, none, .mov (.t 9)⟩, ⟨some 4, none, .mov (.t 10)⟩])
  (.seq (.ops [⟨some 11, none, .mov (.t 3)⟩, ⟨some 12, none, .conv .i64 (.t 11)⟩, ⟨some 2, none, .mov (.t 12)⟩])
  .ret)))⟩
/- (vizard/boot.Message).Client -/
def I49 : Fn_ := ⟨1, 25, [(2, none)],
  (.seq (.ops [⟨some 1, none, .boxR true 15 62 (.t 0)⟩, ⟨some 2, none, .mov (.c (.str ⟨#[]⟩))⟩])
  (.seq (.seq (.ops [⟨some 6, none, .faddr false 14 1 (.t 1)⟩, ⟨some 7, none, .load false 1 (.t 6)⟩, ⟨some 8, none, .callF false 30 [(.t 7), (.c (.int .u8 61))]⟩, ⟨some 5, none, .mov (.t 8)⟩, ⟨some 9, none, .ext (.t 5) 0⟩, ⟨some 10, none, .ext (.t 5) 1⟩, ⟨some 3, none, .mov (.t 9)⟩, ⟨some 4, none, .mov (.t 10)⟩])
  (.seq (.ops [⟨some 11, none, .mov (.t 4)⟩, ⟨some 12, none, .mov (.t 11)⟩, ⟨some 13, (some (12, true)), .mov (.t 3)⟩, ⟨some 14, (some (12, true)), .len (.t 13)⟩, ⟨some 15, (some (12, true)), .bin .gtr (.t 14) (.c (.int .i64 0))⟩, ⟨some 16, none, .pick (.t 12) (.t 15) (.c (.bool false))⟩])
  (.cond (.t 16)
  (.seq (.ops [⟨some 17, none, .mov (.t 3)⟩, ⟨some 18, none, .toStr (.t 17)⟩, ⟨some 2, none, .mov (.t 18)⟩])
  .ret)
  .skip)))
  (.seq (.ops [⟨some 19, none, .buildR 1 5 [(.c (.int .u8 1))]⟩, ⟨some 20, none, .toStr (.t 19)⟩, ⟨some 21, none, .faddr true 8 6 (.t 1)⟩, ⟨some 22, none, .sliceA 6 1 (.t 21) none none⟩, ⟨some 23, none, .toStr (.t 22)⟩, ⟨some 24, none, .bin .add (.t 20) (.t 23)⟩, ⟨some 2, none, .mov (.t 24)⟩])
  .ret)))⟩
/- vizard/vizardref24.Client -/
def I50 : Fn_ := ⟨1, 23, [(2, none)],
  (.seq (.ops [⟨some 1, none, .boxR true 15 66 (.t 0)⟩, ⟨some 2, none, .mov (.c (.str ⟨#[]⟩))⟩])
  (.seq (.ops [⟨some 6, none, .faddr false 14 1 (.t 1)⟩, ⟨some 7, none, .load false 1 (.t 6)⟩, ⟨some 8, none, .callF false 31 [(.t 7), (.c (.int .u8 61))]⟩, ⟨some 5, none, .mov (.t 8)⟩, ⟨some 9, none, .ext (.t 5) 0⟩, ⟨some 10, none, .ext (.t 5) 1⟩, ⟨some 3, none, .mov (.t 9)⟩, ⟨some 4, none, .mov (.t 10)⟩])
  (.seq (.seq (.ops [⟨some 11, none, .mov (.t 4)⟩, ⟨some 12, none, .mov (.t 11)⟩, ⟨some 13, (some (12, true)), .mov (.t 3)⟩, ⟨some 14, (some (12, true)), .len (.t 13)⟩, ⟨some 15, (some (12, true)), .bin .gtr (.t 14) (.c (.int .i64 0))⟩, ⟨some 16, none, .pick (.t 12) (.t 15) (.c (.bool false))⟩])
  (.cond (.t 16)
  (.seq (.ops [⟨some 17, none, .mov (.t 3)⟩, ⟨some 18, none, .toStr (.t 17)⟩, ⟨some 2, none, .mov (.t 18)⟩])
  .ret)
  .skip))
  (.seq (.ops [⟨some 19, none, .faddr true 8 6 (.t 1)⟩, ⟨some 20, none, .sliceA 6 1 (.t 19) none none⟩, ⟨some 21, none, .toStr (.t 20)⟩, ⟨some 22, none, .bin .add (.c (.str ⟨#[1]⟩)) (.t 21)⟩, ⟨some 2, none, .mov (.t 22)⟩])
  .ret))))⟩
/- vizard/boot.Same -/
def I51 : Fn_ := ⟨2, 17, [(4, none)],
  (.seq (.ops [⟨some 2, none, .boxR true 15 62 (.t 0)⟩, ⟨some 3, none, .boxR true 15 62 (.t 1)⟩, ⟨some 4, none, .mov (.c (.bool false))⟩])
  (.seq (.ops [⟨some 5, none, .load true 15 (.t 2)⟩, ⟨some 6, none, .callF true 95 [(.t 5)]⟩, ⟨some 7, none, .load true 15 (.t 3)⟩, ⟨some 8, none, .callF true 95 [(.t 7)]⟩, ⟨some 9, none, .eqS false [1, 1, 1, 0, 1, 1, 1, 1, 1, 1, 1, 1, 1, 1] (.t 6) (.t 8)⟩, ⟨some 10, none, .mov (.t 9)⟩, ⟨some 11, (some (10, true)), .faddr false 14 1 (.t 2)⟩, ⟨some 12, (some (10, true)), .load false 1 (.t 11)⟩, ⟨some 13, (some (10, true)), .faddr false 14 1 (.t 3)⟩, ⟨some 14, (some (10, true)), .load false 1 (.t 13)⟩, ⟨some 15, (some (10, true)), .callF true 34 [(.t 12), (.t 14)]⟩, ⟨some 16, none, .pick (.t 10) (.t 15) (.c (.bool false))⟩, ⟨some 4, none, .mov (.t 16)⟩])
  .ret))⟩
/- (vizard/boot.Message).Answer -/
def B52_0 : C := (.seq (.ops [⟨some 42, none, .bin .lss (.t 41) (.t 40)⟩])
  (.seq (.cond (.t 42)
  .skip
  (.exit 0))
  (.seq (.block 1 (some [10, 11, 39, 40, 41]) (.seq (.ops [⟨some 43, none, .iaddr 2 (.t 39) (.t 41)⟩, ⟨some 44, none, .load true 2 (.t 43)⟩, ⟨some 13, none, .alloc true [(.int .u8 0), .nils] 35⟩, ⟨none, none, .store 2 (.t 13) (.t 44)⟩])
  (.ops [⟨some 45, none, .faddr false 14 1 (.t 11)⟩, ⟨some 46, none, .load false 1 (.t 45)⟩, ⟨some 47, none, .faddr false 0 1 (.t 13)⟩, ⟨some 48, none, .load false 1 (.t 47)⟩, ⟨some 49, none, .faddr false 1 1 (.t 13)⟩, ⟨some 50, none, .load false 1 (.t 49)⟩, ⟨some 51, none, .callF true 81 [(.t 50)]⟩, ⟨some 52, none, .build [(.int .u8 0), .nils] [(0, 1, (.t 48)), (1, 1, (.t 51))]⟩, ⟨some 53, none, .buildR 2 35 [(.t 52)]⟩, ⟨some 54, none, .append 2 32 35 (.t 46) (.t 53)⟩, ⟨some 55, none, .faddr false 14 1 (.t 11)⟩, ⟨none, none, .store 1 (.t 55) (.t 54)⟩])))
  (.ops [⟨some 56, none, .bin .add (.t 41) (.c (.int .i64 1))⟩, ⟨some 41, none, .mov (.t 56)⟩]))))
def L52_0 : C := .loop (some [10, 11, 39, 40, 41]) B52_0
theorem L52_0_eq {E : Env} (x : St) : ev E L52_0 x = andThen (ev E B52_0 (restr (some [10, 11, 39, 40, 41]) x)) (ev E L52_0) := ev_loop _ _ x
theorem L52_0_lp {E : Env} (s : Slots) (h : Heap) : ev E L52_0 ⟨s, h⟩ = lp E L52_0 (pickS s [10, 11, 39, 40, 41]) h := lp_of L52_0_eq s h
theorem L52_0_go {E : Env} (s : Slots) (h : Heap) : lp E L52_0 s h = andThen (ev E B52_0 ⟨pickS s [10, 11, 39, 40, 41], h⟩) (ev E L52_0) := lp_go L52_0_eq s h
noncomputable def T52_0 (E : Env) (o : Out) : Option (AV × Heap) := outR [(10, some (true, 15))] (andThen (endBlock 0 (some [10, 11, 39, 40, 41]) (o)) (ev E (.seq (.ops [⟨some 57, none, .load true 15 (.t 11)⟩, ⟨none, none, .store 15 (.t 10) (.t 57)⟩])
  .ret)))
def I52 : Fn_ := ⟨5, 58, [(10, some (true, 15))],
  (.seq (.ops [⟨some 5, none, .boxR true 15 62 (.t 0)⟩, ⟨some 10, none, .alloc true [(.int .u8 0), (.int .u32 0), (.int .u16 0), (.bool false), (.int .u32 0), (.int .u32 0), (.int .u32 0), (.int .u32 0), (.int .u8 0), (.int .u8 0), (.int .u8 0), (.int .u8 0), (.int .u8 0), (.int .u8 0), .nils] 62⟩])
  (.seq (.ops [⟨some 14, none, .faddr false 1 1 (.t 5)⟩, ⟨some 15, none, .load false 1 (.t 14)⟩, ⟨some 16, none, .faddr false 3 1 (.t 5)⟩, ⟨some 17, none, .load false 1 (.t 16)⟩, ⟨some 18, none, .faddr false 4 1 (.t 5)⟩, ⟨some 19, none, .load false 1 (.t 18)⟩, ⟨some 20, none, .mov (.t 2)⟩, ⟨some 21, none, .faddr false 7 1 (.t 5)⟩, ⟨some 22, none, .load false 1 (.t 21)⟩, ⟨some 23, none, .faddr true 8 6 (.t 5)⟩, ⟨some 24, none, .load true 6 (.t 23)⟩, ⟨some 25, none, .build [(.int .u8 0), (.int .u32 0), (.int .u16 0), (.bool false), (.int .u32 0), (.int .u32 0), (.int .u32 0), (.int .u32 0), (.int .u8 0), (.int .u8 0), (.int .u8 0), (.int .u8 0), (.int .u8 0), (.int .u8 0), .nils] [(0, 1, (.c (.int .u8 2))), (1, 1, (.t 15)), (3, 1, (.t 17)), (4, 1, (.t 19)), (5, 1, (.t 20)), (7, 1, (.t 22)), (8, 6, (.t 24))]⟩, ⟨some 11, none, .alloc true [(.int .u8 0), (.int .u32 0), (.int .u16 0), (.bool false), (.int .u32 0), (.int .u32 0), (.int .u32 0), (.int .u32 0), (.int .u8 0), (.int .u8 0), (.int .u8 0), (.int .u8 0), (.int .u8 0), (.int .u8 0), .nils] 62⟩, ⟨none, none, .store 15 (.t 11) (.t 25)⟩])
  (.seq (.seq (.ops [⟨some 26, none, .mov (.t 1)⟩, ⟨some 27, none, .bin .eql (.t 26) (.c (.int .i64 6))⟩])
  (.cond (.t 27)
  (.ops [⟨some 28, none, .faddr false 4 1 (.t 11)⟩, ⟨none, none, .store 1 (.t 28) (.c (.int .u32 0))⟩])
  .skip))
  (.seq (.ops [⟨some 29, none, .faddr false 14 1 (.t 11)⟩, ⟨some 30, none, .load false 1 (.t 29)⟩, ⟨some 31, none, .mov (.t 1)⟩, ⟨some 32, none, .conv .u8 (.t 31)⟩, ⟨some 33, none, .callF true 36 [(.c (.int .u8 53)), (.t 32)]⟩, ⟨some 34, none, .mov (.t 3)⟩, ⟨some 35, none, .callF true 35 [(.c (.int .u8 54)), (.t 34)]⟩, ⟨some 36, none, .buildR 2 35 [(.t 33), (.t 35)]⟩, ⟨some 37, none, .append 2 32 35 (.t 30) (.t 36)⟩, ⟨some 38, none, .faddr false 14 1 (.t 11)⟩, ⟨none, none, .store 1 (.t 38) (.t 37)⟩])
  (.seq (.seq (.ops [⟨some 39, none, .mov (.t 4)⟩, ⟨some 40, none, .len (.t 39)⟩, ⟨some 41, none, .mov (.c (.int .i64 0))⟩])
  (.block 0 (some [10, 11, 39, 40, 41]) L52_0))
  (.seq (.ops [⟨some 57, none, .load true 15 (.t 11)⟩, ⟨none, none, .store 15 (.t 10) (.t 57)⟩])
  .ret))))))⟩
/- vizard/vizardref24.Answer -/
def I53 : Fn_ := ⟨5, 39, [(10, some (true, 15))],
  (.seq (.ops [⟨some 5, none, .boxR true 15 66 (.t 0)⟩, ⟨some 10, none, .alloc true [(.int .u8 0), (.int .u32 0), (.int .u16 0), (.bool false), (.int .u32 0), (.int .u32 0), (.int .u32 0), (.int .u32 0), (.int .u8 0), (.int .u8 0), (.int .u8 0), (.int .u8 0), (.int .u8 0), (.int .u8 0), (.rs false 2 [])] 66⟩])
  (.seq (.ops [⟨some 12, none, .faddr false 1 1 (.t 5)⟩, ⟨some 13, none, .load false 1 (.t 12)⟩, ⟨some 14, none, .faddr false 3 1 (.t 5)⟩, ⟨some 15, none, .load false 1 (.t 14)⟩, ⟨some 16, none, .faddr false 4 1 (.t 5)⟩, ⟨some 17, none, .load false 1 (.t 16)⟩, ⟨some 18, none, .mov (.t 2)⟩, ⟨some 19, none, .faddr false 7 1 (.t 5)⟩, ⟨some 20, none, .load false 1 (.t 19)⟩, ⟨some 21, none, .faddr true 8 6 (.t 5)⟩, ⟨some 22, none, .load true 6 (.t 21)⟩, ⟨some 23, none, .build [(.int .u8 0), (.int .u32 0), (.int .u16 0), (.bool false), (.int .u32 0), (.int .u32 0), (.int .u32 0), (.int .u32 0), (.int .u8 0), (.int .u8 0), (.int .u8 0), (.int .u8 0), (.int .u8 0), (.int .u8 0), (.rs false 2 [])] [(0, 1, (.c (.int .u8 2))), (1, 1, (.t 13)), (3, 1, (.t 15)), (4, 1, (.t 17)), (5, 1, (.t 18)), (7, 1, (.t 20)), (8, 6, (.t 22))]⟩, ⟨some 11, none, .alloc true [(.int .u8 0), (.int .u32 0), (.int .u16 0), (.bool false), (.int .u32 0), (.int .u32 0), (.int .u32 0), (.int .u32 0), (.int .u8 0), (.int .u8 0), (.int .u8 0), (.int .u8 0), (.int .u8 0), (.int .u8 0), (.rs false 2 [])] 66⟩, ⟨none, none, .store 15 (.t 11) (.t 23)⟩])
  (.seq (.seq (.ops [⟨some 24, none, .mov (.t 1)⟩, ⟨some 25, none, .bin .eql (.t 24) (.c (.int .i64 6))⟩])
  (.cond (.t 25)
  (.ops [⟨some 26, none, .faddr false 4 1 (.t 11)⟩, ⟨none, none, .store 1 (.t 26) (.c (.int .u32 0))⟩])
  .skip))
  (.seq (.ops [⟨some 27, none, .mov (.t 1)⟩, ⟨some 28, none, .conv .u64 (.t 27)⟩, ⟨some 29, none, .bin .rem (.t 28) (.c (.int .u64 256))⟩, ⟨some 30, none, .conv .u8 (.t 29)⟩, ⟨some 31, none, .callF false 38 [(.c (.int .u8 53)), (.t 30)]⟩, ⟨some 32, none, .mov (.t 3)⟩, ⟨some 33, none, .callF false 37 [(.c (.int .u8 54)), (.t 32)]⟩, ⟨some 34, none, .buildSl 2 52 [(.t 31), (.t 33)]⟩, ⟨some 35, none, .mov (.t 4)⟩, ⟨some 36, none, .append 2 32 52 (.t 34) (.t 35)⟩, ⟨some 37, none, .faddr false 14 1 (.t 11)⟩, ⟨none, none, .store 1 (.t 37) (.t 36)⟩])
  (.seq (.ops [⟨some 38, none, .load true 15 (.t 11)⟩, ⟨none, none, .store 15 (.t 10) (.t 38)⟩])
  .ret)))))⟩
/- vizard/option.take -/
def I78 : Fn_ := ⟨1, 38, [(2, some (true, 2)), (3, none), (4, none)],
  (.seq (.ops [⟨some 2, none, .alloc true [(.int .u8 0), (.rs false 1 [])] 35⟩, ⟨some 3, none, .mov (.c (.rs false 1 []))⟩, ⟨some 4, none, .mov (.c (.int .i64 0))⟩])
  (.seq (.ops [⟨some 9, none, .mov (.t 0)⟩, ⟨some 10, none, .callF false 82 [(.t 9), (.c (.int .i64 1)), (.c (.int .i64 1))]⟩, ⟨some 8, none, .mov (.t 10)⟩, ⟨some 11, none, .ext (.t 8) 0⟩, ⟨some 12, none, .ext (.t 8) 1⟩, ⟨some 5, none, .mov (.t 11)⟩, ⟨some 6, none, .mov (.t 12)⟩])
  (.seq (.seq (.ops [⟨some 13, none, .mov (.t 6)⟩, ⟨some 14, none, .bin .neq (.t 13) (.c (.int .i64 0))⟩])
  (.cond (.t 14)
  (.seq (.ops [⟨some 15, none, .build [(.int .u8 0), (.rs false 1 [])] []⟩, ⟨some 16, none, .mov (.t 6)⟩, ⟨none, none, .store 2 (.t 2) (.t 15)⟩, ⟨some 3, none, .mov (.c (.rs false 1 []))⟩, ⟨some 4, none, .mov (.t 16)⟩])
  .ret)
  .skip))
  (.seq (.ops [⟨some 18, none, .mov (.t 0)⟩, ⟨some 19, none, .mov (.t 5)⟩, ⟨some 20, none, .conv .i64 (.t 19)⟩, ⟨some 21, none, .bin .add (.c (.int .i64 2)) (.t 20)⟩, ⟨some 22, none, .callF false 125 [(.t 18), (.c (.int .i64 2)), (.t 21)]⟩, ⟨some 17, none, .mov (.t 22)⟩, ⟨some 23, none, .ext (.t 17) 0⟩, ⟨some 24, none, .ext (.t 17) 1⟩, ⟨some 7, none, .mov (.t 23)⟩, ⟨some 6, none, .mov (.t 24)⟩])
  (.seq (.seq (.ops [⟨some 25, none, .mov (.t 6)⟩, ⟨some 26, none, .bin .neq (.t 25) (.c (.int .i64 0))⟩])
  (.cond (.t 26)
  (.seq (.ops [⟨some 27, none, .build [(.int .u8 0), (.rs false 1 [])] []⟩, ⟨some 28, none, .mov (.t 6)⟩, ⟨none, none, .store 2 (.t 2) (.t 27)⟩, ⟨some 3, none, .mov (.c (.rs false 1 []))⟩, ⟨some 4, none, .mov (.t 28)⟩])
  .ret)
  .skip))
  (.seq (.ops [⟨some 29, none, .mov (.t 0)⟩, ⟨some 30, none, .iaddr 1 (.t 29) (.c (.int .i64 0))⟩, ⟨some 31, none, .load false 1 (.t 30)⟩, ⟨some 32, none, .mov (.t 7)⟩, ⟨some 33, none, .build [(.int .u8 0), (.rs false 1 [])] [(0, 1, (.t 31)), (1, 1, (.t 32))]⟩, ⟨some 34, none, .mov (.t 0)⟩, ⟨some 35, none, .mov (.t 5)⟩, ⟨some 36, none, .bin .add (.c (.int .u64 2)) (.t 35)⟩, ⟨some 37, none, .sliceR 1 (.t 34) (some (.t 36)) none⟩, ⟨none, none, .store 2 (.t 2) (.t 33)⟩, ⟨some 3, none, .mov (.t 37)⟩, ⟨some 4, none, .mov (.c (.int .i64 0))⟩])
  .ret))))))⟩
/- slices.IndexFunc[[]vizard/option.Option,vizard/option.Option] -/
def B79_0 : C := (.seq (.ops [⟨some 9, none, .bin .lss (.t 8) (.t 7)⟩])
  (.seq (.cond (.t 9)
  .skip
  (.exit 0))
  (.seq (.block 1 (some [0, 1, 7, 8]) (.seq (.ops [⟨some 10, none, .mov (.t 8)⟩, ⟨some 5, none, .mov (.t 10)⟩])
  (.seq (.ops [⟨some 11, none, .mov (.t 1)⟩, ⟨some 12, none, .mov (.t 0)⟩, ⟨some 13, none, .mov (.t 5)⟩, ⟨some 14, none, .iaddr 2 (.t 12) (.t 13)⟩, ⟨some 15, none, .load true 2 (.t 14)⟩, ⟨some 16, none, .callV false (.t 11) [(.t 15)]⟩])
  (.cond (.t 16)
  (.seq (.ops [⟨some 17, none, .mov (.t 5)⟩, ⟨some 4, none, .mov (.t 17)⟩])
  .ret)
  .skip))))
  (.ops [⟨some 18, none, .bin .add (.t 8) (.c (.int .i64 1))⟩, ⟨some 8, none, .mov (.t 18)⟩]))))
def L79_0 : C := .loop (some [0, 1, 7, 8]) B79_0
theorem L79_0_eq {E : Env} (x : St) : ev E L79_0 x = andThen (ev E B79_0 (restr (some [0, 1, 7, 8]) x)) (ev E L79_0) := ev_loop _ _ x
theorem L79_0_lp {E : Env} (s : Slots) (h : Heap) : ev E L79_0 ⟨s, h⟩ = lp E L79_0 (pickS s [0, 1, 7, 8]) h := lp_of L79_0_eq s h
theorem L79_0_go {E : Env} (s : Slots) (h : Heap) : lp E L79_0 s h = andThen (ev E B79_0 ⟨pickS s [0, 1, 7, 8], h⟩) (ev E L79_0) := lp_go L79_0_eq s h
noncomputable def T79_0 (E : Env) (o : Out) : Option (AV × Heap) := outR [(4, none)] (andThen (endBlock 0 (some [0, 1, 7, 8]) (o)) (ev E (.seq (.ops [⟨some 4, none, .mov (.c (.int .i64 (-1)))⟩])
  .ret)))
def I79 : Fn_ := ⟨2, 19, [(4, none)],
  (.seq (.ops [⟨some 4, none, .mov (.c (.int .i64 0))⟩])
  (.seq (.seq (.ops [⟨some 6, none, .mov (.t 0)⟩, ⟨some 7, none, .len (.t 6)⟩, ⟨some 8, none, .mov (.c (.int .i64 0))⟩])
  (.block 0 (some [0, 1, 7, 8]) L79_0))
  (.seq (.ops [⟨some 4, none, .mov (.c (.int .i64 (-1)))⟩])
  .ret)))⟩
/- vizard/option.Find$1 -/
def I80 : Fn_ := ⟨2, 8, [(3, none)],
  (.seq (.ops [⟨some 2, none, .box true 35 (.t 0)⟩, ⟨some 3, none, .mov (.c (.bool false))⟩])
  (.seq (.ops [⟨some 4, none, .faddr false 0 1 (.t 2)⟩, ⟨some 5, none, .load false 1 (.t 4)⟩, ⟨some 6, none, .load false 1 (.t 1)⟩, ⟨some 7, none, .bin .eql (.t 5) (.t 6)⟩, ⟨some 3, none, .mov (.t 7)⟩])
  .ret))⟩
/- slices.Clone[[]byte,byte] -/
def I81 : Fn_ := ⟨1, 8, [(2, none)],
  (.seq (.ops [⟨some 2, none, .mov (.c (.rs false 1 []))⟩])
  (.seq (.seq (.ops [⟨some 3, none, .mov (.t 0)⟩, ⟨some 4, none, .eqNil false (.t 3)⟩])
  (.cond (.t 4)
  (.seq (.ops [⟨some 2, none, .mov (.c (.rs false 1 []))⟩])
  .ret)
  .skip))
  (.seq (.ops [⟨some 5, none, .buildSl 1 5 []⟩, ⟨some 6, none, .mov (.t 0)⟩, ⟨some 7, none, .append 1 1 5 (.t 5) (.t 6)⟩, ⟨some 2, none, .mov (.t 7)⟩])
  .ret)))⟩
/- vizard/word.At -/
def B82_0 : C := (.seq (.ops [⟨some 31, none, .bin .lss (.t 30) (.t 29)⟩])
  (.seq (.cond (.t 31)
  .skip
  (.exit 0))
  (.seq (.block 1 (some [9, 28, 29, 30]) (.seq (.ops [⟨some 32, none, .iaddr 1 (.t 28) (.t 30)⟩, ⟨some 33, none, .load false 1 (.t 32)⟩, ⟨some 11, none, .mov (.t 33)⟩])
  (.ops [⟨some 34, none, .mov (.t 9)⟩, ⟨some 35, none, .bin .shl (.t 34) (.c (.int .u64 8))⟩, ⟨some 36, none, .mov (.t 11)⟩, ⟨some 37, none, .conv .u64 (.t 36)⟩, ⟨some 38, none, .bin .or (.t 35) (.t 37)⟩, ⟨some 9, none, .mov (.t 38)⟩])))
  (.ops [⟨some 39, none, .bin .add (.t 30) (.c (.int .i64 1))⟩, ⟨some 30, none, .mov (.t 39)⟩]))))
def L82_0 : C := .loop (some [9, 28, 29, 30]) B82_0
theorem L82_0_eq {E : Env} (x : St) : ev E L82_0 x = andThen (ev E B82_0 (restr (some [9, 28, 29, 30]) x)) (ev E L82_0) := ev_loop _ _ x
theorem L82_0_lp {E : Env} (s : Slots) (h : Heap) : ev E L82_0 ⟨s, h⟩ = lp E L82_0 (pickS s [9, 28, 29, 30]) h := lp_of L82_0_eq s h
theorem L82_0_go {E : Env} (s : Slots) (h : Heap) : lp E L82_0 s h = andThen (ev E B82_0 ⟨pickS s [9, 28, 29, 30], h⟩) (ev E L82_0) := lp_go L82_0_eq s h
noncomputable def T82_0 (E : Env) (o : Out) : Option (AV × Heap) := outR [(6, none), (7, none)] (andThen (endBlock 0 (some [9, 28, 29, 30]) (o)) (ev E (.seq (.ops [⟨some 40, none, .mov (.t 9)⟩, ⟨some 6, none, .mov (.t 40)⟩, ⟨some 7, none, .mov (.c (.int .i64 0))⟩])
  .ret)))
def I82 : Fn_ := ⟨3, 41, [(6, none), (7, none)],
  (.seq (.ops [⟨some 6, none, .mov (.c (.int .u64 0))⟩, ⟨some 7, none, .mov (.c (.int .i64 0))⟩])
  (.seq (.seq (.ops [⟨some 12, none, .mov (.t 2)⟩, ⟨some 13, none, .callF false 126 [(.t 12)]⟩, ⟨some 14, none, .un .not (.t 13)⟩])
  (.cond (.t 14)
  (.seq (.ops [⟨some 6, none, .mov (.c (.int .u64 0))⟩, ⟨some 7, none, .mov (.c (.int .i64 11))⟩])
  .ret)
  .skip))
  (.seq (.seq (.ops [⟨some 15, none, .mov (.t 0)⟩, ⟨some 16, none, .len (.t 15)⟩, ⟨some 17, none, .mov (.t 1)⟩, ⟨some 18, none, .mov (.t 2)⟩, ⟨some 19, none, .callF false 127 [(.t 16), (.t 17), (.t 18)]⟩, ⟨some 8, none, .mov (.t 19)⟩])
  (.seq (.ops [⟨some 20, none, .mov (.t 8)⟩, ⟨some 21, none, .bin .neq (.t 20) (.c (.int .i64 0))⟩])
  (.cond (.t 21)
  (.seq (.ops [⟨some 22, none, .mov (.t 8)⟩, ⟨some 6, none, .mov (.c (.int .u64 0))⟩, ⟨some 7, none, .mov (.t 22)⟩])
  .ret)
  .skip)))
  (.seq (.ops [⟨some 9, none, .mov (.c (.int .u64 0))⟩])
  (.seq (.seq (.ops [⟨some 23, none, .mov (.t 0)⟩, ⟨some 24, none, .mov (.t 1)⟩, ⟨some 25, none, .mov (.t 1)⟩, ⟨some 26, none, .mov (.t 2)⟩, ⟨some 27, none, .bin .add (.t 25) (.t 26)⟩, ⟨some 28, none, .slice 1 (.t 23) (some (.t 24)) (some (.t 27))⟩, ⟨some 29, none, .len (.t 28)⟩, ⟨some 30, none, .mov (.c (.int .i64 0))⟩])
  (.block 0 (some [9, 28, 29, 30]) L82_0))
  (.seq (.ops [⟨some 40, none, .mov (.t 9)⟩, ⟨some 6, none, .mov (.t 40)⟩, ⟨some 7, none, .mov (.c (.int .i64 0))⟩])
  .ret))))))⟩
/- slices.EqualFunc[[]vizard/option.Option,[]vizard/option.Option,vizard/option.Option,vizard/option.Option] -/
def B83_0 : C := (.seq (.ops [⟨some 18, none, .bin .lss (.t 17) (.t 16)⟩])
  (.seq (.cond (.t 18)
  .skip
  (.exit 0))
  (.seq (.block 1 (some [1, 2, 15, 16, 17]) (.seq (.ops [⟨some 19, none, .mov (.t 17)⟩, ⟨some 20, none, .iaddr 2 (.t 15) (.t 17)⟩, ⟨some 21, none, .load true 2 (.t 20)⟩, ⟨some 8, none, .alloc true [(.int .u8 0), (.rs false 1 [])] 35⟩, ⟨some 7, none, .mov (.t 19)⟩, ⟨none, none, .store 2 (.t 8) (.t 21)⟩])
  (.seq (.ops [⟨some 22, none, .mov (.t 1)⟩, ⟨some 23, none, .mov (.t 7)⟩, ⟨some 24, none, .iaddr 2 (.t 22) (.t 23)⟩, ⟨some 25, none, .load true 2 (.t 24)⟩, ⟨some 9, none, .alloc true [(.int .u8 0), (.rs false 1 [])] 35⟩, ⟨none, none, .store 2 (.t 9) (.t 25)⟩])
  (.seq (.ops [⟨some 26, none, .mov (.t 2)⟩, ⟨some 27, none, .load true 2 (.t 8)⟩, ⟨some 28, none, .load true 2 (.t 9)⟩, ⟨some 29, none, .callV false (.t 26) [(.t 27), (.t 28)]⟩, ⟨some 30, none, .un .not (.t 29)⟩])
  (.cond (.t 30)
  (.seq (.ops [⟨some 6, none, .mov (.c (.bool false))⟩])
  .ret)
  .skip)))))
  (.ops [⟨some 31, none, .bin .add (.t 17) (.c (.int .i64 1))⟩, ⟨some 17, none, .mov (.t 31)⟩]))))
def L83_0 : C := .loop (some [1, 2, 15, 16, 17]) B83_0
theorem L83_0_eq {E : Env} (x : St) : ev E L83_0 x = andThen (ev E B83_0 (restr (some [1, 2, 15, 16, 17]) x)) (ev E L83_0) := ev_loop _ _ x
theorem L83_0_lp {E : Env} (s : Slots) (h : Heap) : ev E L83_0 ⟨s, h⟩ = lp E L83_0 (pickS s [1, 2, 15, 16, 17]) h := lp_of L83_0_eq s h
theorem L83_0_go {E : Env} (s : Slots) (h : Heap) : lp E L83_0 s h = andThen (ev E B83_0 ⟨pickS s [1, 2, 15, 16, 17], h⟩) (ev E L83_0) := lp_go L83_0_eq s h
noncomputable def T83_0 (E : Env) (o : Out) : Option (AV × Heap) := outR [(6, none)] (andThen (endBlock 0 (some [1, 2, 15, 16, 17]) (o)) (ev E (.seq (.ops [⟨some 6, none, .mov (.c (.bool true))⟩])
  .ret)))
def I83 : Fn_ := ⟨3, 32, [(6, none)],
  (.seq (.ops [⟨some 6, none, .mov (.c (.bool false))⟩])
  (.seq (.seq (.ops [⟨some 10, none, .mov (.t 0)⟩, ⟨some 11, none, .len (.t 10)⟩, ⟨some 12, none, .mov (.t 1)⟩, ⟨some 13, none, .len (.t 12)⟩, ⟨some 14, none, .bin .neq (.t 11) (.t 13)⟩])
  (.cond (.t 14)
  (.seq (.ops [⟨some 6, none, .mov (.c (.bool false))⟩])
  .ret)
  .skip))
  (.seq (.seq (.ops [⟨some 15, none, .mov (.t 0)⟩, ⟨some 16, none, .len (.t 15)⟩, ⟨some 17, none, .mov (.c (.int .i64 0))⟩])
  (.block 0 (some [1, 2, 15, 16, 17]) L83_0))
  (.seq (.ops [⟨some 6, none, .mov (.c (.bool true))⟩])
  .ret))))⟩
/- vizard/option.Same$1 -/
def I84 : Fn_ := ⟨2, 17, [(4, none)],
  (.seq (.ops [⟨some 2, none, .box true 35 (.t 0)⟩, ⟨some 3, none, .box true 35 (.t 1)⟩, ⟨some 4, none, .mov (.c (.bool false))⟩])
  (.seq (.ops [⟨some 5, none, .faddr false 0 1 (.t 2)⟩, ⟨some 6, none, .load false 1 (.t 5)⟩, ⟨some 7, none, .faddr false 0 1 (.t 3)⟩, ⟨some 8, none, .load false 1 (.t 7)⟩, ⟨some 9, none, .bin .eql (.t 6) (.t 8)⟩, ⟨some 10, none, .mov (.t 9)⟩, ⟨some 11, (some (10, true)), .faddr false 1 1 (.t 2)⟩, ⟨some 12, (some (10, true)), .load false 1 (.t 11)⟩, ⟨some 13, (some (10, true)), .faddr false 1 1 (.t 3)⟩, ⟨some 14, (some (10, true)), .load false 1 (.t 13)⟩, ⟨some 15, (some (10, true)), .callF false 85 [(.t 12), (.t 14)]⟩, ⟨some 16, none, .pick (.t 10) (.t 15) (.c (.bool false))⟩, ⟨some 4, none, .mov (.t 16)⟩])
  .ret))⟩
/- bytes.Equal -/
def I85 : Fn_ := ⟨2, 10, [(4, none)],
  (.seq (.ops [⟨some 4, none, .mov (.c (.bool false))⟩])
  (.seq (.ops [⟨some 5, none, .mov (.t 0)⟩, ⟨some 6, none, .toStr (.t 5)⟩, ⟨some 7, none, .mov (.t 1)⟩, ⟨some 8, none, .toStr (.t 7)⟩, ⟨some 9, none, .bin .eql (.t 6) (.t 8)⟩, ⟨some 4, none, .mov (.t 9)⟩])
  .ret))⟩
/- vizard/word.Row -/
def B86_0 : C := (.seq (.ops [⟨some 17, none, .bin .lss (.t 16) (.t 15)⟩])
  (.seq (.cond (.t 17)
  .skip
  (.exit 0))
  (.seq (.block 1 (some [0, 6, 14, 15, 16]) (.seq (.ops [⟨some 18, none, .iaddr 1 (.t 14) (.t 16)⟩, ⟨some 19, none, .load false 1 (.t 18)⟩, ⟨some 8, none, .mov (.t 19)⟩])
  (.seq (.ops [⟨some 21, none, .mov (.t 8)⟩, ⟨some 22, none, .mov (.t 0)⟩, ⟨some 23, none, .callF false 128 [(.t 21), (.t 22)]⟩, ⟨some 20, none, .mov (.t 23)⟩, ⟨some 24, none, .ext (.t 20) 0⟩, ⟨some 25, none, .ext (.t 20) 1⟩, ⟨some 9, none, .mov (.t 24)⟩, ⟨some 10, none, .mov (.t 25)⟩])
  (.seq (.seq (.ops [⟨some 26, none, .mov (.t 10)⟩, ⟨some 27, none, .bin .neq (.t 26) (.c (.int .i64 0))⟩])
  (.cond (.t 27)
  (.seq (.ops [⟨some 28, none, .mov (.t 10)⟩, ⟨some 4, none, .mov (.c (.rs false 1 []))⟩, ⟨some 5, none, .mov (.t 28)⟩])
  .ret)
  .skip))
  (.ops [⟨some 29, none, .mov (.t 6)⟩, ⟨some 30, none, .mov (.t 9)⟩, ⟨some 31, none, .append 1 1 5 (.t 29) (.t 30)⟩, ⟨some 6, none, .mov (.t 31)⟩])))))
  (.ops [⟨some 32, none, .bin .add (.t 16) (.c (.int .i64 1))⟩, ⟨some 16, none, .mov (.t 32)⟩]))))
def L86_0 : C := .loop (some [0, 6, 14, 15, 16]) B86_0
theorem L86_0_eq {E : Env} (x : St) : ev E L86_0 x = andThen (ev E B86_0 (restr (some [0, 6, 14, 15, 16]) x)) (ev E L86_0) := ev_loop _ _ x
theorem L86_0_lp {E : Env} (s : Slots) (h : Heap) : ev E L86_0 ⟨s, h⟩ = lp E L86_0 (pickS s [0, 6, 14, 15, 16]) h := lp_of L86_0_eq s h
theorem L86_0_go {E : Env} (s : Slots) (h : Heap) : lp E L86_0 s h = andThen (ev E B86_0 ⟨pickS s [0, 6, 14, 15, 16], h⟩) (ev E L86_0) := lp_go L86_0_eq s h
noncomputable def T86_0 (E : Env) (o : Out) : Option (AV × Heap) := outR [(4, none), (5, none)] (andThen (endBlock 0 (some [0, 6, 14, 15, 16]) (o)) (ev E (.seq (.ops [⟨some 33, none, .mov (.t 6)⟩, ⟨some 4, none, .mov (.t 33)⟩, ⟨some 5, none, .mov (.c (.int .i64 0))⟩])
  .ret)))
def I86 : Fn_ := ⟨2, 34, [(4, none), (5, none)],
  (.seq (.ops [⟨some 4, none, .mov (.c (.rs false 1 []))⟩, ⟨some 5, none, .mov (.c (.int .i64 0))⟩])
  (.seq (.seq (.ops [⟨some 11, none, .mov (.t 0)⟩, ⟨some 12, none, .callF false 126 [(.t 11)]⟩, ⟨some 13, none, .un .not (.t 12)⟩])
  (.cond (.t 13)
  (.seq (.ops [⟨some 4, none, .mov (.c (.rs false 1 []))⟩, ⟨some 5, none, .mov (.c (.int .i64 11))⟩])
  .ret)
  .skip))
  (.seq (.ops [⟨some 6, none, .nilrow 1 5⟩])
  (.seq (.seq (.ops [⟨some 14, none, .mov (.t 1)⟩, ⟨some 15, none, .len (.t 14)⟩, ⟨some 16, none, .mov (.c (.int .i64 0))⟩])
  (.block 0 (some [0, 6, 14, 15, 16]) L86_0))
  (.seq (.ops [⟨some 33, none, .mov (.t 6)⟩, ⟨some 4, none, .mov (.t 33)⟩, ⟨some 5, none, .mov (.c (.int .i64 0))⟩])
  .ret)))))⟩
/- vizard/vizardref06.Four -/
def I87 : Fn_ := ⟨1, 18, [(2, none)],
  (.seq (.ops [⟨some 2, none, .mov (.c (.rs false 1 []))⟩])
  (.seq (.ops [⟨some 3, none, .mov (.t 0)⟩, ⟨some 4, none, .bin .quo (.t 3) (.c (.int .u32 16777216))⟩, ⟨some 5, none, .conv .u8 (.t 4)⟩, ⟨some 6, none, .mov (.t 0)⟩, ⟨some 7, none, .bin .quo (.t 6) (.c (.int .u32 65536))⟩, ⟨some 8, none, .bin .rem (.t 7) (.c (.int .u32 256))⟩, ⟨some 9, none, .conv .u8 (.t 8)⟩, ⟨some 10, none, .mov (.t 0)⟩, ⟨some 11, none, .bin .quo (.t 10) (.c (.int .u32 256))⟩, ⟨some 12, none, .bin .rem (.t 11) (.c (.int .u32 256))⟩, ⟨some 13, none, .conv .u8 (.t 12)⟩, ⟨some 14, none, .mov (.t 0)⟩, ⟨some 15, none, .bin .rem (.t 14) (.c (.int .u32 256))⟩, ⟨some 16, none, .conv .u8 (.t 15)⟩, ⟨some 17, none, .buildR 1 5 [(.t 5), (.t 9), (.t 13), (.t 16)]⟩, ⟨some 2, none, .mov (.t 17)⟩])
  .ret))⟩
/- vizard/boot.known -/
def I88 : Fn_ := ⟨1, 9, [(2, none)],
  (.seq (.ops [⟨some 2, none, .mov (.c (.bool false))⟩])
  (.seq (.ops [⟨some 3, none, .mov (.t 0)⟩, ⟨some 4, none, .bin .eql (.t 3) (.c (.int .u8 1))⟩, ⟨some 5, none, .mov (.t 4)⟩, ⟨some 6, (some (5, false)), .mov (.t 0)⟩, ⟨some 7, (some (5, false)), .bin .eql (.t 6) (.c (.int .u8 2))⟩, ⟨some 8, none, .pick (.t 5) (.c (.bool true)) (.t 7)⟩, ⟨some 2, none, .mov (.t 8)⟩])
  .ret))⟩
/- bytes.HasPrefix -/
def I89 : Fn_ := ⟨2, 18, [(4, none)],
  (.seq (.ops [⟨some 4, none, .mov (.c (.bool false))⟩])
  (.seq (.ops [⟨some 5, none, .mov (.t 0)⟩, ⟨some 6, none, .len (.t 5)⟩, ⟨some 7, none, .mov (.t 1)⟩, ⟨some 8, none, .len (.t 7)⟩, ⟨some 9, none, .bin .geq (.t 6) (.t 8)⟩, ⟨some 10, none, .mov (.t 9)⟩, ⟨some 11, (some (10, true)), .mov (.t 0)⟩, ⟨some 12, (some (10, true)), .mov (.t 1)⟩, ⟨some 13, (some (10, true)), .len (.t 12)⟩, ⟨some 14, (some (10, true)), .slice 1 (.t 11) none (some (.t 13))⟩, ⟨some 15, (some (10, true)), .mov (.t 1)⟩, ⟨some 16, (some (10, true)), .callF false 85 [(.t 14), (.t 15)]⟩, ⟨some 17, none, .pick (.t 10) (.t 16) (.c (.bool false))⟩, ⟨some 4, none, .mov (.t 17)⟩])
  .ret))⟩
/- vizard/boot.four -/
def I90 : Fn_ := ⟨2, 15, [(4, none)],
  (.seq (.ops [⟨some 4, none, .mov (.c (.int .u32 0))⟩])
  (.seq (.ops [⟨some 8, none, .mov (.t 0)⟩, ⟨some 9, none, .mov (.t 1)⟩, ⟨some 10, none, .callF false 82 [(.t 8), (.t 9), (.c (.int .i64 4))]⟩, ⟨some 7, none, .mov (.t 10)⟩, ⟨some 11, none, .ext (.t 7) 0⟩, ⟨some 12, none, .ext (.t 7) 1⟩, ⟨some 5, none, .mov (.t 11)⟩, ⟨some 6, none, .mov (.t 12)⟩])
  (.seq (.ops [⟨some 13, none, .mov (.t 5)⟩, ⟨some 14, none, .conv .u32 (.t 13)⟩, ⟨some 4, none, .mov (.t 14)⟩])
  .ret)))⟩
/- vizard/vizardref06.Num -/
def I91 : Fn_ := ⟨1, 25, [(2, none)],
  (.seq (.ops [⟨some 2, none, .mov (.c (.int .u32 0))⟩])
  (.seq (.ops [⟨some 3, none, .mov (.t 0)⟩, ⟨some 4, none, .iaddr 1 (.t 3) (.c (.int .i64 0))⟩, ⟨some 5, none, .load false 1 (.t 4)⟩, ⟨some 6, none, .conv .u32 (.t 5)⟩, ⟨some 7, none, .bin .mul (.t 6) (.c (.int .u32 16777216))⟩, ⟨some 8, none, .mov (.t 0)⟩, ⟨some 9, none, .iaddr 1 (.t 8) (.c (.int .i64 1))⟩, ⟨some 10, none, .load false 1 (.t 9)⟩, ⟨some 11, none, .conv .u32 (.t 10)⟩, ⟨some 12, none, .bin .mul (.t 11) (.c (.int .u32 65536))⟩, ⟨some 13, none, .bin .add (.t 7) (.t 12)⟩, ⟨some 14, none, .mov (.t 0)⟩, ⟨some 15, none, .iaddr 1 (.t 14) (.c (.int .i64 2))⟩, ⟨some 16, none, .load false 1 (.t 15)⟩, ⟨some 17, none, .conv .u32 (.t 16)⟩, ⟨some 18, none, .bin .mul (.t 17) (.c (.int .u32 256))⟩, ⟨some 19, none, .bin .add (.t 13) (.t 18)⟩, ⟨some 20, none, .mov (.t 0)⟩, ⟨some 21, none, .iaddr 1 (.t 20) (.c (.int .i64 3))⟩, ⟨some 22, none, .load false 1 (.t 21)⟩, ⟨some 23, none, .conv .u32 (.t 22)⟩, ⟨some 24, none, .bin .add (.t 19) (.t 23)⟩, ⟨some 2, none, .mov (.t 24)⟩])
  .ret))⟩
/- vizard/vizardref08.Num -/
def I92 : Fn_ := ⟨1, 13, [(2, none)],
  (.seq (.ops [⟨some 2, none, .mov (.c (.int .i64 0))⟩])
  (.seq (.ops [⟨some 3, none, .mov (.t 0)⟩, ⟨some 4, none, .iaddr 1 (.t 3) (.c (.int .i64 0))⟩, ⟨some 5, none, .load false 1 (.t 4)⟩, ⟨some 6, none, .conv .i64 (.t 5)⟩, ⟨some 7, none, .bin .mul (.t 6) (.c (.int .i64 256))⟩, ⟨some 8, none, .mov (.t 0)⟩, ⟨some 9, none, .iaddr 1 (.t 8) (.c (.int .i64 1))⟩, ⟨some 10, none, .load false 1 (.t 9)⟩, ⟨some 11, none, .conv .i64 (.t 10)⟩, ⟨some 12, none, .bin .add (.t 7) (.t 11)⟩, ⟨some 2, none, .mov (.t 12)⟩])
  .ret))⟩
/- slices.Concat[[]byte,byte] -/
def B93_0 : C := (.seq (.ops [⟨some 12, none, .bin .lss (.t 11) (.t 10)⟩])
  (.seq (.cond (.t 12)
  .skip
  (.exit 0))
  (.seq (.block 1 (some [0, 3, 9, 10, 11]) (.seq (.ops [⟨some 13, none, .iaddr 1 (.t 9) (.t 11)⟩, ⟨some 14, none, .load false 1 (.t 13)⟩, ⟨some 5, none, .mov (.t 14)⟩])
  (.seq (.ops [⟨some 15, none, .mov (.t 3)⟩, ⟨some 16, none, .mov (.t 5)⟩, ⟨some 17, none, .len (.t 16)⟩, ⟨some 18, none, .bin .add (.t 15) (.t 17)⟩, ⟨some 3, none, .mov (.t 18)⟩])
  (.seq (.ops [⟨some 19, none, .mov (.t 3)⟩, ⟨some 20, none, .bin .lss (.t 19) (.c (.int .i64 0))⟩])
  (.cond (.t 20)
  (.ops [⟨some 21, none, .mkIf 9 (.c (.str ⟨#[108, 101, 110, 32, 111, 117, 116, 32, 111, 102, 32, 114, 97, 110, 103, 101]⟩))⟩, ⟨none, none, .fail⟩])
  .skip)))))
  (.ops [⟨some 22, none, .bin .add (.t 11) (.c (.int .i64 1))⟩, ⟨some 11, none, .mov (.t 22)⟩]))))
def L93_0 : C := .loop (some [0, 3, 9, 10, 11]) B93_0
theorem L93_0_eq {E : Env} (x : St) : ev E L93_0 x = andThen (ev E B93_0 (restr (some [0, 3, 9, 10, 11]) x)) (ev E L93_0) := ev_loop _ _ x
theorem L93_0_lp {E : Env} (s : Slots) (h : Heap) : ev E L93_0 ⟨s, h⟩ = lp E L93_0 (pickS s [0, 3, 9, 10, 11]) h := lp_of L93_0_eq s h
theorem L93_0_go {E : Env} (s : Slots) (h : Heap) : lp E L93_0 s h = andThen (ev E B93_0 ⟨pickS s [0, 3, 9, 10, 11], h⟩) (ev E L93_0) := lp_go L93_0_eq s h
def B93_1 : C := (.seq (.ops [⟨some 28, none, .bin .lss (.t 27) (.t 26)⟩])
  (.seq (.cond (.t 28)
  .skip
  (.exit 2))
  (.seq (.block 3 (some [6, 25, 26, 27]) (.seq (.ops [⟨some 29, none, .iaddr 1 (.t 25) (.t 27)⟩, ⟨some 30, none, .load false 1 (.t 29)⟩, ⟨some 8, none, .mov (.t 30)⟩])
  (.ops [⟨some 31, none, .mov (.t 6)⟩, ⟨some 32, none, .mov (.t 8)⟩, ⟨some 33, none, .append 1 1 5 (.t 31) (.t 32)⟩, ⟨some 6, none, .mov (.t 33)⟩])))
  (.ops [⟨some 34, none, .bin .add (.t 27) (.c (.int .i64 1))⟩, ⟨some 27, none, .mov (.t 34)⟩]))))
def L93_1 : C := .loop (some [6, 25, 26, 27]) B93_1
theorem L93_1_eq {E : Env} (x : St) : ev E L93_1 x = andThen (ev E B93_1 (restr (some [6, 25, 26, 27]) x)) (ev E L93_1) := ev_loop _ _ x
theorem L93_1_lp {E : Env} (s : Slots) (h : Heap) : ev E L93_1 ⟨s, h⟩ = lp E L93_1 (pickS s [6, 25, 26, 27]) h := lp_of L93_1_eq s h
theorem L93_1_go {E : Env} (s : Slots) (h : Heap) : lp E L93_1 s h = andThen (ev E B93_1 ⟨pickS s [6, 25, 26, 27], h⟩) (ev E L93_1) := lp_go L93_1_eq s h
noncomputable def T93_1 (E : Env) (o : Out) : Option (AV × Heap) := outR [(2, none)] (andThen (endBlock 2 (some [6, 25, 26, 27]) (o)) (ev E (.seq (.ops [⟨some 35, none, .mov (.t 6)⟩, ⟨some 2, none, .mov (.t 35)⟩])
  .ret)))
noncomputable def T93_0 (E : Env) (o : Out) : Option (AV × Heap) := outR [(2, none)] (andThen (endBlock 0 (some [0, 3, 9, 10, 11]) (o)) (ev E (.seq (.ops [⟨some 23, none, .mov (.t 3)⟩, ⟨some 24, none, .callF false 129 [(.c .nils), (.t 23)]⟩, ⟨some 6, none, .mov (.t 24)⟩])
  (.seq (.seq (.ops [⟨some 25, none, .mov (.t 0)⟩, ⟨some 26, none, .len (.t 25)⟩, ⟨some 27, none, .mov (.c (.int .i64 0))⟩])
  (.block 2 (some [6, 25, 26, 27]) L93_1))
  (.seq (.ops [⟨some 35, none, .mov (.t 6)⟩, ⟨some 2, none, .mov (.t 35)⟩])
  .ret)))))
def I93 : Fn_ := ⟨1, 36, [(2, none)],
  (.seq (.ops [⟨some 2, none, .mov (.c (.rs false 1 []))⟩])
  (.seq (.ops [⟨some 3, none, .mov (.c (.int .i64 0))⟩])
  (.seq (.seq (.ops [⟨some 9, none, .mov (.t 0)⟩, ⟨some 10, none, .len (.t 9)⟩, ⟨some 11, none, .mov (.c (.int .i64 0))⟩])
  (.block 0 (some [0, 3, 9, 10, 11]) L93_0))
  (.seq (.ops [⟨some 23, none, .mov (.t 3)⟩, ⟨some 24, none, .callF false 129 [(.c .nils), (.t 23)]⟩, ⟨some 6, none, .mov (.t 24)⟩])
  (.seq (.seq (.ops [⟨some 25, none, .mov (.t 0)⟩, ⟨some 26, none, .len (.t 25)⟩, ⟨some 27, none, .mov (.c (.int .i64 0))⟩])
  (.block 2 (some [6, 25, 26, 27]) L93_1))
  (.seq (.ops [⟨some 35, none, .mov (.t 6)⟩, ⟨some 2, none, .mov (.t 35)⟩])
  .ret))))))⟩
/- vizard/vizardref07.Two -/
def I94 : Fn_ := ⟨1, 11, [(2, none)],
  (.seq (.ops [⟨some 2, none, .mov (.c (.rs false 1 []))⟩])
  (.seq (.ops [⟨some 3, none, .mov (.t 0)⟩, ⟨some 4, none, .bin .quo (.t 3) (.c (.int .i64 256))⟩, ⟨some 5, none, .bin .rem (.t 4) (.c (.int .i64 256))⟩, ⟨some 6, none, .conv .u8 (.t 5)⟩, ⟨some 7, none, .mov (.t 0)⟩, ⟨some 8, none, .bin .rem (.t 7) (.c (.int .i64 256))⟩, ⟨some 9, none, .conv .u8 (.t 8)⟩, ⟨some 10, none, .buildR 1 5 [(.t 6), (.t 9)]⟩, ⟨some 2, none, .mov (.t 10)⟩])
  .ret))⟩
/- (vizard/boot.Message).head -/
def I95 : Fn_ := ⟨1, 22, [(2, some (true, 14))],
  (.seq (.ops [⟨some 1, none, .boxR true 15 62 (.t 0)⟩, ⟨some 2, none, .alloc true [(.int .u8 0), (.int .u32 0), (.int .u16 0), (.bool false), (.int .u32 0), (.int .u32 0), (.int .u32 0), (.int .u32 0), (.int .u8 0), (.int .u8 0), (.int .u8 0), (.int .u8 0), (.int .u8 0), (.int .u8 0)] 153⟩])
  (.seq (.ops [⟨some 3, none, .faddr false 0 1 (.t 1)⟩, ⟨some 4, none, .load false 1 (.t 3)⟩, ⟨some 5, none, .faddr false 1 1 (.t 1)⟩, ⟨some 6, none, .load false 1 (.t 5)⟩, ⟨some 7, none, .faddr false 2 1 (.t 1)⟩, ⟨some 8, none, .load false 1 (.t 7)⟩, ⟨some 9, none, .faddr false 3 1 (.t 1)⟩, ⟨some 10, none, .load false 1 (.t 9)⟩, ⟨some 11, none, .faddr false 4 1 (.t 1)⟩, ⟨some 12, none, .load false 1 (.t 11)⟩, ⟨some 13, none, .faddr false 5 1 (.t 1)⟩, ⟨some 14, none, .load false 1 (.t 13)⟩, ⟨some 15, none, .faddr false 6 1 (.t 1)⟩, ⟨some 16, none, .load false 1 (.t 15)⟩, ⟨some 17, none, .faddr false 7 1 (.t 1)⟩, ⟨some 18, none, .load false 1 (.t 17)⟩, ⟨some 19, none, .faddr true 8 6 (.t 1)⟩, ⟨some 20, none, .load true 6 (.t 19)⟩, ⟨some 21, none, .build [(.int .u8 0), (.int .u32 0), (.int .u16 0), (.bool false), (.int .u32 0), (.int .u32 0), (.int .u32 0), (.int .u32 0), (.int .u8 0), (.int .u8 0), (.int .u8 0), (.int .u8 0), (.int .u8 0), (.int .u8 0)] [(0, 1, (.t 4)), (1, 1, (.t 6)), (2, 1, (.t 8)), (3, 1, (.t 10)), (4, 1, (.t 12)), (5, 1, (.t 14)), (6, 1, (.t 16)), (7, 1, (.t 18)), (8, 6, (.t 20))]⟩, ⟨none, none, .store 14 (.t 2) (.t 21)⟩])
  .ret))⟩
/- vizard/place.All -/
def B113_0 : C := (.seq (.ops [⟨some 4, none, .bin .lss (.t 3) (.c (.int .i64 6))⟩])
  (.seq (.cond (.t 4)
  .skip
  (.exit 0))
  (.seq (.block 1 (some [0, 1, 3]) (.seq (.ops [⟨some 5, none, .mov (.t 3)⟩, ⟨some 2, none, .mov (.t 5)⟩])
  (.ops [⟨some 6, none, .mov (.t 2)⟩, ⟨some 7, none, .iaddrA 6 1 false (.t 1) (.t 6)⟩, ⟨none, none, .store 1 (.t 7) (.c (.int .u8 255))⟩])))
  (.ops [⟨some 8, none, .bin .add (.t 3) (.c (.int .i64 1))⟩, ⟨some 3, none, .mov (.t 8)⟩]))))
def L113_0 : C := .loop (some [0, 1, 3]) B113_0
theorem L113_0_eq {E : Env} (x : St) : ev E L113_0 x = andThen (ev E B113_0 (restr (some [0, 1, 3]) x)) (ev E L113_0) := ev_loop _ _ x
theorem L113_0_lp {E : Env} (s : Slots) (h : Heap) : ev E L113_0 ⟨s, h⟩ = lp E L113_0 (pickS s [0, 1, 3]) h := lp_of L113_0_eq s h
theorem L113_0_go {E : Env} (s : Slots) (h : Heap) : lp E L113_0 s h = andThen (ev E B113_0 ⟨pickS s [0, 1, 3], h⟩) (ev E L113_0) := lp_go L113_0_eq s h
noncomputable def T113_0 (E : Env) (o : Out) : Option (AV × Heap) := outR [(0, some (true, 6))] (andThen (endBlock 0 (some [0, 1, 3]) (o)) (ev E (.seq (.ops [⟨some 9, none, .load true 6 (.t 1)⟩, ⟨none, none, .store 6 (.t 0) (.t 9)⟩])
  .ret)))
def I113 : Fn_ := ⟨0, 10, [(0, some (true, 6))],
  (.seq (.ops [⟨some 0, none, .alloc true [(.int .u8 0), (.int .u8 0), (.int .u8 0), (.int .u8 0), (.int .u8 0), (.int .u8 0)] 60⟩])
  (.seq (.ops [⟨some 1, none, .alloc true [(.int .u8 0), (.int .u8 0), (.int .u8 0), (.int .u8 0), (.int .u8 0), (.int .u8 0)] 60⟩])
  (.seq (.seq (.ops [⟨some 3, none, .mov (.c (.int .i64 0))⟩])
  (.block 0 (some [0, 1, 3]) L113_0))
  (.seq (.ops [⟨some 9, none, .load true 6 (.t 1)⟩, ⟨none, none, .store 6 (.t 0) (.t 9)⟩])
  .ret))))⟩
/- vizard/word.Cut -/
def I125 : Fn_ := ⟨3, 26, [(6, none), (7, none)],
  (.seq (.ops [⟨some 6, none, .mov (.c (.rs false 1 []))⟩, ⟨some 7, none, .mov (.c (.int .i64 0))⟩])
  (.seq (.block 0 (some [0, 1, 2]) (.seq (.ops [⟨some 9, none, .mov (.t 1)⟩, ⟨some 10, none, .bin .lss (.t 9) (.c (.int .i64 0))⟩, ⟨some 11, none, .mov (.t 10)⟩, ⟨some 12, (some (11, false)), .mov (.t 2)⟩, ⟨some 13, (some (11, false)), .mov (.t 1)⟩, ⟨some 14, (some (11, false)), .bin .lss (.t 12) (.t 13)⟩, ⟨some 15, none, .pick (.t 11) (.c (.bool true)) (.t 14)⟩, ⟨some 8, none, .mov (.t 15)⟩])
  (.cond (.t 8)
  (.seq (.ops [⟨some 6, none, .mov (.c (.rs false 1 []))⟩, ⟨some 7, none, .mov (.c (.int .i64 11))⟩])
  .ret)
  (.seq (.ops [⟨some 17, none, .mov (.t 2)⟩, ⟨some 18, none, .mov (.t 0)⟩, ⟨some 19, none, .len (.t 18)⟩, ⟨some 20, none, .bin .gtr (.t 17) (.t 19)⟩, ⟨some 16, none, .mov (.t 20)⟩])
  (.cond (.t 16)
  (.seq (.ops [⟨some 6, none, .mov (.c (.rs false 1 []))⟩, ⟨some 7, none, .mov (.c (.int .i64 12))⟩])
  .ret)
  .skip)))))
  (.seq (.ops [⟨some 21, none, .mov (.t 0)⟩, ⟨some 22, none, .mov (.t 1)⟩, ⟨some 23, none, .mov (.t 2)⟩, ⟨some 24, none, .slice 1 (.t 21) (some (.t 22)) (some (.t 23))⟩, ⟨some 25, none, .callF false 81 [(.t 24)]⟩, ⟨some 6, none, .mov (.t 25)⟩, ⟨some 7, none, .mov (.c (.int .i64 0))⟩])
  .ret)))⟩
/- vizard/word.sized -/
def I126 : Fn_ := ⟨1, 9, [(2, none)],
  (.seq (.ops [⟨some 2, none, .mov (.c (.bool false))⟩])
  (.seq (.ops [⟨some 3, none, .mov (.t 0)⟩, ⟨some 4, none, .bin .geq (.t 3) (.c (.int .i64 1))⟩, ⟨some 5, none, .mov (.t 4)⟩, ⟨some 6, (some (5, true)), .mov (.t 0)⟩, ⟨some 7, (some (5, true)), .bin .leq (.t 6) (.c (.int .i64 8))⟩, ⟨some 8, none, .pick (.t 5) (.t 7) (.c (.bool false))⟩, ⟨some 2, none, .mov (.t 8)⟩])
  .ret))⟩
/- vizard/word.span -/
def I127 : Fn_ := ⟨3, 21, [(6, none)],
  (.seq (.ops [⟨some 6, none, .mov (.c (.int .i64 0))⟩])
  (.seq (.block 0 (some [0, 1, 2]) (.seq (.ops [⟨some 8, none, .mov (.t 1)⟩, ⟨some 9, none, .bin .lss (.t 8) (.c (.int .i64 0))⟩, ⟨some 7, none, .mov (.t 9)⟩])
  (.cond (.t 7)
  (.seq (.ops [⟨some 6, none, .mov (.c (.int .i64 11))⟩])
  .ret)
  (.seq (.ops [⟨some 11, none, .mov (.t 1)⟩, ⟨some 12, none, .mov (.t 0)⟩, ⟨some 13, none, .bin .gtr (.t 11) (.t 12)⟩, ⟨some 14, none, .mov (.t 13)⟩, ⟨some 15, (some (14, false)), .mov (.t 2)⟩, ⟨some 16, (some (14, false)), .mov (.t 0)⟩, ⟨some 17, (some (14, false)), .mov (.t 1)⟩, ⟨some 18, (some (14, false)), .bin .sub (.t 16) (.t 17)⟩, ⟨some 19, (some (14, false)), .bin .gtr (.t 15) (.t 18)⟩, ⟨some 20, none, .pick (.t 14) (.c (.bool true)) (.t 19)⟩, ⟨some 10, none, .mov (.t 20)⟩])
  (.cond (.t 10)
  (.seq (.ops [⟨some 6, none, .mov (.c (.int .i64 12))⟩])
  .ret)
  .skip)))))
  (.seq (.ops [⟨some 6, none, .mov (.c (.int .i64 0))⟩])
  .ret)))⟩
/- vizard/word.number -/
def B128_0 : C := (.seq (.seq (.ops [⟨some 25, none, .mov (.t 7)⟩, ⟨some 26, none, .bin .geq (.t 25) (.c (.int .i64 0))⟩])
  (.cond (.t 26)
  .skip
  (.exit 0)))
  (.seq (.block 1 (some [0, 6, 7]) (.ops [⟨some 29, none, .mov (.t 6)⟩, ⟨some 30, none, .mov (.t 0)⟩, ⟨some 31, none, .mov (.t 7)⟩, ⟨some 32, none, .bin .shr (.t 30) (.t 31)⟩, ⟨some 33, none, .conv .u8 (.t 32)⟩, ⟨some 34, none, .buildR 1 5 [(.t 33)]⟩, ⟨some 35, none, .append 1 1 5 (.t 29) (.t 34)⟩, ⟨some 6, none, .mov (.t 35)⟩]))
  (.ops [⟨some 27, none, .mov (.t 7)⟩, ⟨some 28, none, .bin .sub (.t 27) (.c (.int .i64 8))⟩, ⟨some 7, none, .mov (.t 28)⟩])))
def L128_0 : C := .loop (some [0, 6, 7]) B128_0
theorem L128_0_eq {E : Env} (x : St) : ev E L128_0 x = andThen (ev E B128_0 (restr (some [0, 6, 7]) x)) (ev E L128_0) := ev_loop _ _ x
theorem L128_0_lp {E : Env} (s : Slots) (h : Heap) : ev E L128_0 ⟨s, h⟩ = lp E L128_0 (pickS s [0, 6, 7]) h := lp_of L128_0_eq s h
theorem L128_0_go {E : Env} (s : Slots) (h : Heap) : lp E L128_0 s h = andThen (ev E B128_0 ⟨pickS s [0, 6, 7], h⟩) (ev E L128_0) := lp_go L128_0_eq s h
noncomputable def T128_0 (E : Env) (o : Out) : Option (AV × Heap) := outR [(4, none), (5, none)] (andThen (endBlock 0 (some [0, 6, 7]) (o)) (ev E (.seq (.ops [⟨some 36, none, .mov (.t 6)⟩, ⟨some 4, none, .mov (.t 36)⟩, ⟨some 5, none, .mov (.c (.int .i64 0))⟩])
  .ret)))
def I128 : Fn_ := ⟨2, 37, [(4, none), (5, none)],
  (.seq (.ops [⟨some 4, none, .mov (.c (.rs false 1 []))⟩, ⟨some 5, none, .mov (.c (.int .i64 0))⟩])
  (.seq (.seq (.ops [⟨some 8, none, .mov (.t 1)⟩, ⟨some 9, none, .callF false 126 [(.t 8)]⟩, ⟨some 10, none, .un .not (.t 9)⟩, ⟨some 11, none, .mov (.t 10)⟩, ⟨some 12, (some (11, false)), .mov (.t 1)⟩, ⟨some 13, (some (11, false)), .bin .lss (.t 12) (.c (.int .i64 8))⟩, ⟨some 14, (some (11, false)), .mov (.t 13)⟩, ⟨some 15, (some (14, true)), .mov (.t 0)⟩, ⟨some 16, (some (14, true)), .mov (.t 1)⟩, ⟨some 17, (some (14, true)), .bin .mul (.c (.int .i64 8)) (.t 16)⟩, ⟨some 18, (some (14, true)), .bin .shr (.t 15) (.t 17)⟩, ⟨some 19, (some (14, true)), .bin .neq (.t 18) (.c (.int .u64 0))⟩, ⟨some 20, (some (11, false)), .pick (.t 14) (.t 19) (.c (.bool false))⟩, ⟨some 21, none, .pick (.t 11) (.c (.bool true)) (.t 20)⟩])
  (.cond (.t 21)
  (.seq (.ops [⟨some 4, none, .mov (.c (.rs false 1 []))⟩, ⟨some 5, none, .mov (.c (.int .i64 11))⟩])
  .ret)
  .skip))
  (.seq (.ops [⟨some 6, none, .nilrow 1 5⟩])
  (.seq (.seq (.ops [⟨some 22, none, .mov (.t 1)⟩, ⟨some 23, none, .bin .sub (.t 22) (.c (.int .i64 1))⟩, ⟨some 24, none, .bin .mul (.c (.int .i64 8)) (.t 23)⟩, ⟨some 7, none, .mov (.t 24)⟩])
  (.block 0 (some [0, 6, 7]) L128_0))
  (.seq (.ops [⟨some 36, none, .mov (.t 6)⟩, ⟨some 4, none, .mov (.t 36)⟩, ⟨some 5, none, .mov (.c (.int .i64 0))⟩])
  .ret)))))⟩
/- slices.Grow[[]byte,byte] -/
def I129 : Fn_ := ⟨2, 27, [(4, none)],
  (.seq (.ops [⟨some 4, none, .mov (.c (.rs false 1 []))⟩])
  (.seq (.seq (.ops [⟨some 5, none, .mov (.t 1)⟩, ⟨some 6, none, .bin .lss (.t 5) (.c (.int .i64 0))⟩])
  (.cond (.t 6)
  (.ops [⟨some 7, none, .mkIf 9 (.c (.str ⟨#[99, 97, 110, 110, 111, 116, 32, 98, 101, 32, 110, 101, 103, 97, 116, 105, 118, 101]⟩))⟩, ⟨none, none, .fail⟩])
  .skip))
  (.seq (.seq (.ops [⟨some 8, none, .mov (.t 1)⟩, ⟨some 9, none, .mov (.t 0)⟩, ⟨some 10, none, .capNil (.t 9)⟩, ⟨some 11, none, .mov (.t 0)⟩, ⟨some 12, none, .len (.t 11)⟩, ⟨some 13, none, .bin .sub (.t 10) (.t 12)⟩, ⟨some 14, none, .bin .sub (.t 8) (.t 13)⟩, ⟨some 1, none, .mov (.t 14)⟩])
  (.seq (.ops [⟨some 15, none, .mov (.t 1)⟩, ⟨some 16, none, .bin .gtr (.t 15) (.c (.int .i64 0))⟩])
  (.cond (.t 16)
  (.ops [⟨some 17, none, .mov (.t 0)⟩, ⟨some 18, none, .mov (.t 0)⟩, ⟨some 19, none, .capNil (.t 18)⟩, ⟨some 20, none, .trunc 1 (.t 17) (.t 19)⟩, ⟨some 21, none, .mov (.t 1)⟩, ⟨some 22, none, .appMk 1 1 5 [(.int .u8 0)] (.t 20) (.t 21)⟩, ⟨some 23, none, .mov (.t 0)⟩, ⟨some 24, none, .len (.t 23)⟩, ⟨some 25, none, .trunc 1 (.t 22) (.t 24)⟩, ⟨some 0, none, .mov (.t 25)⟩])
  .skip)))
  (.seq (.ops [⟨some 26, none, .mov (.t 0)⟩, ⟨some 4, none, .mov (.t 26)⟩])
  .ret))))⟩
/- vizard/place.Single -/
def I139 : Fn_ := ⟨1, 16, [(2, none)],
  (.seq (.ops [⟨some 2, none, .mov (.c (.bool false))⟩])
  (.seq (.ops [⟨some 4, none, .mov (.t 0)⟩, ⟨some 5, none, .bin .shr (.t 4) (.c (.int .u64 24))⟩, ⟨some 3, none, .mov (.t 5)⟩])
  (.seq (.ops [⟨some 6, none, .mov (.t 3)⟩, ⟨some 7, none, .bin .geq (.t 6) (.c (.int .u32 1))⟩, ⟨some 8, none, .mov (.t 7)⟩, ⟨some 9, (some (8, true)), .mov (.t 3)⟩, ⟨some 10, (some (8, true)), .bin .leq (.t 9) (.c (.int .u32 223))⟩, ⟨some 11, none, .pick (.t 8) (.t 10) (.c (.bool false))⟩, ⟨some 12, none, .mov (.t 11)⟩, ⟨some 13, (some (12, true)), .mov (.t 3)⟩, ⟨some 14, (some (12, true)), .bin .neq (.t 13) (.c (.int .u32 127))⟩, ⟨some 15, none, .pick (.t 12) (.t 14) (.c (.bool false))⟩, ⟨some 2, none, .mov (.t 15)⟩])
  .ret)))⟩
/- cmp.Less[string] -/
def I161 : Fn_ := ⟨2, 17, [(4, none)],
  (.seq (.ops [⟨some 4, none, .mov (.c (.bool false))⟩])
  (.seq (.ops [⟨some 5, none, .mov (.t 0)⟩, ⟨some 6, none, .callF false 180 [(.t 5)]⟩, ⟨some 7, none, .mov (.t 6)⟩, ⟨some 8, (some (7, true)), .mov (.t 1)⟩, ⟨some 9, (some (7, true)), .callF false 180 [(.t 8)]⟩, ⟨some 10, (some (7, true)), .un .not (.t 9)⟩, ⟨some 11, none, .pick (.t 7) (.t 10) (.c (.bool false))⟩, ⟨some 12, none, .mov (.t 11)⟩, ⟨some 13, (some (12, false)), .mov (.t 0)⟩, ⟨some 14, (some (12, false)), .mov (.t 1)⟩, ⟨some 15, (some (12, false)), .bin .lss (.t 13) (.t 14)⟩, ⟨some 16, none, .pick (.t 12) (.c (.bool true)) (.t 15)⟩, ⟨some 4, none, .mov (.t 16)⟩])
  .ret))⟩
/- cmp.Less[uint32] -/
def I172 : Fn_ := ⟨2, 17, [(4, none)],
  (.seq (.ops [⟨some 4, none, .mov (.c (.bool false))⟩])
  (.seq (.ops [⟨some 5, none, .mov (.t 0)⟩, ⟨some 6, none, .callF false 184 [(.t 5)]⟩, ⟨some 7, none, .mov (.t 6)⟩, ⟨some 8, (some (7, true)), .mov (.t 1)⟩, ⟨some 9, (some (7, true)), .callF false 184 [(.t 8)]⟩, ⟨some 10, (some (7, true)), .un .not (.t 9)⟩, ⟨some 11, none, .pick (.t 7) (.t 10) (.c (.bool false))⟩, ⟨some 12, none, .mov (.t 11)⟩, ⟨some 13, (some (12, false)), .mov (.t 0)⟩, ⟨some 14, (some (12, false)), .mov (.t 1)⟩, ⟨some 15, (some (12, false)), .bin .lss (.t 13) (.t 14)⟩, ⟨some 16, none, .pick (.t 12) (.c (.bool true)) (.t 15)⟩, ⟨some 4, none, .mov (.t 16)⟩])
  .ret))⟩
/- cmp.isNaN[string] -/
def I180 : Fn_ := ⟨1, 6, [(2, none)],
  (.seq (.ops [⟨some 2, none, .mov (.c (.bool false))⟩])
  (.seq (.ops [⟨some 3, none, .mov (.t 0)⟩, ⟨some 4, none, .mov (.t 0)⟩, ⟨some 5, none, .bin .neq (.t 3) (.t 4)⟩, ⟨some 2, none, .mov (.t 5)⟩])
  .ret))⟩
/- cmp.isNaN[uint32] -/
def I184 : Fn_ := ⟨1, 6, [(2, none)],
  (.seq (.ops [⟨some 2, none, .mov (.c (.bool false))⟩])
  (.seq (.ops [⟨some 3, none, .mov (.t 0)⟩, ⟨some 4, none, .mov (.t 0)⟩, ⟨some 5, none, .bin .neq (.t 3) (.t 4)⟩, ⟨some 2, none, .mov (.t 5)⟩])
  .ret))⟩

def fns : FuncId → Option Fn_
  | 2 => some I2
  | 3 => some I3
  | 4 => some I4
  | 5 => some I5
  | 6 => some I6
  | 7 => some I7
  | 8 => some I8
  | 9 => some I9
  | 10 => some I10
  | 11 => some I11
  | 20 => some I20
  | 21 => some I21
  | 22 => some I22
  | 23 => some I23
  | 24 => some I24
  | 25 => some I25
  | 26 => some I26
  | 27 => some I27
  | 28 => some I28
  | 29 => some I29
  | 30 => some I30
  | 31 => some I31
  | 32 => some I32
  | 33 => some I33
  | 34 => some I34
  | 35 => some I35
  | 36 => some I36
  | 37 => some I37
  | 38 => some I38
  | 39 => some I39
  | 40 => some I40
  | 41 => some I41
  | 42 => some I42
  | 43 => some I43
  | 44 => some I44
  | 45 => some I45
  | 46 => some I46
  | 47 => some I47
  | 48 => some I48
  | 49 => some I49
  | 50 => some I50
  | 51 => some I51
  | 52 => some I52
  | 53 => some I53
  | 78 => some I78
  | 79 => some I79
  | 80 => some I80
  | 81 => some I81
  | 82 => some I82
  | 83 => some I83
  | 84 => some I84
  | 85 => some I85
  | 86 => some I86
  | 87 => some I87
  | 88 => some I88
  | 89 => some I89
  | 90 => some I90
  | 91 => some I91
  | 92 => some I92
  | 93 => some I93
  | 94 => some I94
  | 95 => some I95
  | 113 => some I113
  | 125 => some I125
  | 126 => some I126
  | 127 => some I127
  | 128 => some I128
  | 129 => some I129
  | 139 => some I139
  | 161 => some I161
  | 172 => some I172
  | 180 => some I180
  | 184 => some I184
  | _ => none

def keep : FuncId → Bool
  | 21 => true
  | 81 => true
  | 129 => true
  | _ => false

theorem chk2 : chkFn Try.prog Try.f2 I2 = true := by kernel_rfl
theorem chk3 : chkFn Try.prog Try.f3 I3 = true := by kernel_rfl
theorem chk4 : chkFn Try.prog Try.f4 I4 = true := by kernel_rfl
theorem chk5 : chkFn Try.prog Try.f5 I5 = true := by kernel_rfl
theorem chk6 : chkFn Try.prog Try.f6 I6 = true := by kernel_rfl
theorem chk7 : chkFn Try.prog Try.f7 I7 = true := by kernel_rfl
theorem chk8 : chkFn Try.prog Try.f8 I8 = true := by kernel_rfl
theorem chk9 : chkFn Try.prog Try.f9 I9 = true := by kernel_rfl
theorem chk10 : chkFn Try.prog Try.f10 I10 = true := by kernel_rfl
theorem chk11 : chkFn Try.prog Try.f11 I11 = true := by kernel_rfl
theorem chk20 : chkFn Try.prog Try.f20 I20 = true := by kernel_rfl
theorem chk21 : chkFn Try.prog Try.f21 I21 = true := by kernel_rfl
theorem chk22 : chkFn Try.prog Try.f22 I22 = true := by kernel_rfl
theorem chk23 : chkFn Try.prog Try.f23 I23 = true := by kernel_rfl
theorem chk24 : chkFn Try.prog Try.f24 I24 = true := by kernel_rfl
theorem chk25 : chkFn Try.prog Try.f25 I25 = true := by kernel_rfl
theorem chk26 : chkFn Try.prog Try.f26 I26 = true := by kernel_rfl
theorem chk27 : chkFn Try.prog Try.f27 I27 = true := by kernel_rfl
theorem chk28 : chkFn Try.prog Try.f28 I28 = true := by kernel_rfl
theorem chk29 : chkFn Try.prog Try.f29 I29 = true := by kernel_rfl
theorem chk30 : chkFn Try.prog Try.f30 I30 = true := by kernel_rfl
theorem chk31 : chkFn Try.prog Try.f31 I31 = true := by kernel_rfl
theorem chk32 : chkFn Try.prog Try.f32 I32 = true := by kernel_rfl
theorem chk33 : chkFn Try.prog Try.f33 I33 = true := by kernel_rfl
theorem chk34 : chkFn Try.prog Try.f34 I34 = true := by kernel_rfl
theorem chk35 : chkFn Try.prog Try.f35 I35 = true := by kernel_rfl
theorem chk36 : chkFn Try.prog Try.f36 I36 = true := by kernel_rfl
theorem chk37 : chkFn Try.prog Try.f37 I37 = true := by kernel_rfl
theorem chk38 : chkFn Try.prog Try.f38 I38 = true := by kernel_rfl
theorem chk39 : chkFn Try.prog Try.f39 I39 = true := by kernel_rfl
theorem chk40 : chkFn Try.prog Try.f40 I40 = true := by kernel_rfl
theorem chk41 : chkFn Try.prog Try.f41 I41 = true := by kernel_rfl
theorem chk42 : chkFn Try.prog Try.f42 I42 = true := by kernel_rfl
theorem chk43 : chkFn Try.prog Try.f43 I43 = true := by kernel_rfl
theorem chk44 : chkFn Try.prog Try.f44 I44 = true := by kernel_rfl
theorem chk45 : chkFn Try.prog Try.f45 I45 = true := by kernel_rfl
theorem chk46 : chkFn Try.prog Try.f46 I46 = true := by kernel_rfl
theorem chk47 : chkFn Try.prog Try.f47 I47 = true := by kernel_rfl
theorem chk48 : chkFn Try.prog Try.f48 I48 = true := by kernel_rfl
theorem chk49 : chkFn Try.prog Try.f49 I49 = true := by kernel_rfl
theorem chk50 : chkFn Try.prog Try.f50 I50 = true := by kernel_rfl
theorem chk51 : chkFn Try.prog Try.f51 I51 = true := by kernel_rfl
theorem chk52 : chkFn Try.prog Try.f52 I52 = true := by kernel_rfl
theorem chk53 : chkFn Try.prog Try.f53 I53 = true := by kernel_rfl
theorem chk78 : chkFn Try.prog Try.f78 I78 = true := by kernel_rfl
theorem chk79 : chkFn Try.prog Try.f79 I79 = true := by kernel_rfl
theorem chk80 : chkFn Try.prog Try.f80 I80 = true := by kernel_rfl
theorem chk81 : chkFn Try.prog Try.f81 I81 = true := by kernel_rfl
theorem chk82 : chkFn Try.prog Try.f82 I82 = true := by kernel_rfl
theorem chk83 : chkFn Try.prog Try.f83 I83 = true := by kernel_rfl
theorem chk84 : chkFn Try.prog Try.f84 I84 = true := by kernel_rfl
theorem chk85 : chkFn Try.prog Try.f85 I85 = true := by kernel_rfl
theorem chk86 : chkFn Try.prog Try.f86 I86 = true := by kernel_rfl
theorem chk87 : chkFn Try.prog Try.f87 I87 = true := by kernel_rfl
theorem chk88 : chkFn Try.prog Try.f88 I88 = true := by kernel_rfl
theorem chk89 : chkFn Try.prog Try.f89 I89 = true := by kernel_rfl
theorem chk90 : chkFn Try.prog Try.f90 I90 = true := by kernel_rfl
theorem chk91 : chkFn Try.prog Try.f91 I91 = true := by kernel_rfl
theorem chk92 : chkFn Try.prog Try.f92 I92 = true := by kernel_rfl
theorem chk93 : chkFn Try.prog Try.f93 I93 = true := by kernel_rfl
theorem chk94 : chkFn Try.prog Try.f94 I94 = true := by kernel_rfl
theorem chk95 : chkFn Try.prog Try.f95 I95 = true := by kernel_rfl
theorem chk113 : chkFn Try.prog Try.f113 I113 = true := by kernel_rfl
theorem chk125 : chkFn Try.prog Try.f125 I125 = true := by kernel_rfl
theorem chk126 : chkFn Try.prog Try.f126 I126 = true := by kernel_rfl
theorem chk127 : chkFn Try.prog Try.f127 I127 = true := by kernel_rfl
theorem chk128 : chkFn Try.prog Try.f128 I128 = true := by kernel_rfl
theorem chk129 : chkFn Try.prog Try.f129 I129 = true := by kernel_rfl
theorem chk139 : chkFn Try.prog Try.f139 I139 = true := by kernel_rfl
theorem chk161 : chkFn Try.prog Try.f161 I161 = true := by kernel_rfl
theorem chk172 : chkFn Try.prog Try.f172 I172 = true := by kernel_rfl
theorem chk180 : chkFn Try.prog Try.f180 I180 = true := by kernel_rfl
theorem chk184 : chkFn Try.prog Try.f184 I184 = true := by kernel_rfl

theorem fns_ok : ∀ f fn, fns f = some fn → ∃ func, Try.prog.funcs[f]? = some func ∧ chkFn Try.prog func fn = true := by
  intro f fn h
  unfold fns at h
  split at h
  · cases h; exact ⟨Try.f2, Try.func2, chk2⟩
  · cases h; exact ⟨Try.f3, Try.func3, chk3⟩
  · cases h; exact ⟨Try.f4, Try.func4, chk4⟩
  · cases h; exact ⟨Try.f5, Try.func5, chk5⟩
  · cases h; exact ⟨Try.f6, Try.func6, chk6⟩
  · cases h; exact ⟨Try.f7, Try.func7, chk7⟩
  · cases h; exact ⟨Try.f8, Try.func8, chk8⟩
  · cases h; exact ⟨Try.f9, Try.func9, chk9⟩
  · cases h; exact ⟨Try.f10, Try.func10, chk10⟩
  · cases h; exact ⟨Try.f11, Try.func11, chk11⟩
  · cases h; exact ⟨Try.f20, Try.func20, chk20⟩
  · cases h; exact ⟨Try.f21, Try.func21, chk21⟩
  · cases h; exact ⟨Try.f22, Try.func22, chk22⟩
  · cases h; exact ⟨Try.f23, Try.func23, chk23⟩
  · cases h; exact ⟨Try.f24, Try.func24, chk24⟩
  · cases h; exact ⟨Try.f25, Try.func25, chk25⟩
  · cases h; exact ⟨Try.f26, Try.func26, chk26⟩
  · cases h; exact ⟨Try.f27, Try.func27, chk27⟩
  · cases h; exact ⟨Try.f28, Try.func28, chk28⟩
  · cases h; exact ⟨Try.f29, Try.func29, chk29⟩
  · cases h; exact ⟨Try.f30, Try.func30, chk30⟩
  · cases h; exact ⟨Try.f31, Try.func31, chk31⟩
  · cases h; exact ⟨Try.f32, Try.func32, chk32⟩
  · cases h; exact ⟨Try.f33, Try.func33, chk33⟩
  · cases h; exact ⟨Try.f34, Try.func34, chk34⟩
  · cases h; exact ⟨Try.f35, Try.func35, chk35⟩
  · cases h; exact ⟨Try.f36, Try.func36, chk36⟩
  · cases h; exact ⟨Try.f37, Try.func37, chk37⟩
  · cases h; exact ⟨Try.f38, Try.func38, chk38⟩
  · cases h; exact ⟨Try.f39, Try.func39, chk39⟩
  · cases h; exact ⟨Try.f40, Try.func40, chk40⟩
  · cases h; exact ⟨Try.f41, Try.func41, chk41⟩
  · cases h; exact ⟨Try.f42, Try.func42, chk42⟩
  · cases h; exact ⟨Try.f43, Try.func43, chk43⟩
  · cases h; exact ⟨Try.f44, Try.func44, chk44⟩
  · cases h; exact ⟨Try.f45, Try.func45, chk45⟩
  · cases h; exact ⟨Try.f46, Try.func46, chk46⟩
  · cases h; exact ⟨Try.f47, Try.func47, chk47⟩
  · cases h; exact ⟨Try.f48, Try.func48, chk48⟩
  · cases h; exact ⟨Try.f49, Try.func49, chk49⟩
  · cases h; exact ⟨Try.f50, Try.func50, chk50⟩
  · cases h; exact ⟨Try.f51, Try.func51, chk51⟩
  · cases h; exact ⟨Try.f52, Try.func52, chk52⟩
  · cases h; exact ⟨Try.f53, Try.func53, chk53⟩
  · cases h; exact ⟨Try.f78, Try.func78, chk78⟩
  · cases h; exact ⟨Try.f79, Try.func79, chk79⟩
  · cases h; exact ⟨Try.f80, Try.func80, chk80⟩
  · cases h; exact ⟨Try.f81, Try.func81, chk81⟩
  · cases h; exact ⟨Try.f82, Try.func82, chk82⟩
  · cases h; exact ⟨Try.f83, Try.func83, chk83⟩
  · cases h; exact ⟨Try.f84, Try.func84, chk84⟩
  · cases h; exact ⟨Try.f85, Try.func85, chk85⟩
  · cases h; exact ⟨Try.f86, Try.func86, chk86⟩
  · cases h; exact ⟨Try.f87, Try.func87, chk87⟩
  · cases h; exact ⟨Try.f88, Try.func88, chk88⟩
  · cases h; exact ⟨Try.f89, Try.func89, chk89⟩
  · cases h; exact ⟨Try.f90, Try.func90, chk90⟩
  · cases h; exact ⟨Try.f91, Try.func91, chk91⟩
  · cases h; exact ⟨Try.f92, Try.func92, chk92⟩
  · cases h; exact ⟨Try.f93, Try.func93, chk93⟩
  · cases h; exact ⟨Try.f94, Try.func94, chk94⟩
  · cases h; exact ⟨Try.f95, Try.func95, chk95⟩
  · cases h; exact ⟨Try.f113, Try.func113, chk113⟩
  · cases h; exact ⟨Try.f125, Try.func125, chk125⟩
  · cases h; exact ⟨Try.f126, Try.func126, chk126⟩
  · cases h; exact ⟨Try.f127, Try.func127, chk127⟩
  · cases h; exact ⟨Try.f128, Try.func128, chk128⟩
  · cases h; exact ⟨Try.f129, Try.func129, chk129⟩
  · cases h; exact ⟨Try.f139, Try.func139, chk139⟩
  · cases h; exact ⟨Try.f161, Try.func161, chk161⟩
  · cases h; exact ⟨Try.f172, Try.func172, chk172⟩
  · cases h; exact ⟨Try.f180, Try.func180, chk180⟩
  · cases h; exact ⟨Try.f184, Try.func184, chk184⟩
  · cases h

end Go.Fw.Code_
