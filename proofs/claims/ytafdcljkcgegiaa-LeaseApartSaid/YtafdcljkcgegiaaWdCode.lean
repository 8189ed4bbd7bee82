/-
  The code of the functions that are evaluated, by program (irgen.py) out of the print of the loaded functions; checked against them below. Conditions: none.
-/
import Derived.Test.YtafdcljkcgegiaaFwU
import Derived.Test.YtafdcljkcgegiaaProg
import Derived.KernelRfl
set_option linter.unusedVariables false
set_option maxRecDepth 100000
namespace Go.Fw.Code_
open Go.Proofs

def z_0 : List AV := [(.int .i64 0), (.str ⟨#[]⟩), (.int .u32 0), (.int .u64 0), (.int .u64 0), (.bool false)]
theorem z_0e : z_0 = [(.int .i64 0), (.str ⟨#[]⟩), (.int .u32 0), (.int .u64 0), (.int .u64 0), (.bool false)] := (rfl)
def z_1 : List AV := [(.int .u32 0), (.int .u32 0), (.rs false 1 []), (.rs false 4 []), (.rs false 2 [])]
theorem z_1e : z_1 = [(.int .u32 0), (.int .u32 0), (.rs false 1 []), (.rs false 4 []), (.rs false 2 [])] := (rfl)
def z_2 : List AV := [(.int .u32 0), (.bool false), (.int .u64 0)]
theorem z_2e : z_2 = [(.int .u32 0), (.bool false), (.int .u64 0)] := (rfl)
def z_3 : List AV := [(.int .u32 0), (.int .u32 0), .nilm, .nilm, .nilm]
theorem z_3e : z_3 = [(.int .u32 0), (.int .u32 0), .nilm, .nilm, .nilm] := (rfl)
def z_4 : List AV := [(.int .u32 0), (.int .u64 0)]
theorem z_4e : z_4 = [(.int .u32 0), (.int .u64 0)] := (rfl)
attribute [go_sem] z_0e z_1e z_2e z_3e z_4e
/- gosem.cut.init -/
def I2 : Fn_ := ⟨0, 1, [],
  (.ops [⟨some 0, none, .callF false 1 []⟩])⟩
/- vizard/vizardlaw25.LeaseCalls -/
def B3_0 : C := (.seq (.seq (.ops [oM 66 16, oM 67 11, ⟨some 68, none, .len (.t 67)⟩, ⟨some 69, none, .bin .lss (.t 66) (.t 68)⟩])
  (.cond (.t 69)
  .skip
  (.exit 0)))
  (.seq (.block 1 (some [3, 9, 11, 12, 14, 16]) (.ops [oM 72 11, oM 73 16, ⟨some 74, none, .iaddr 1 (.t 72) (.t 73)⟩, oL 75 74, ⟨some 76, none, .bin .add (.t 75) (.c (.int .u32 1))⟩, ⟨some 77, none, .iaddr 1 (.t 72) (.t 73)⟩, oS 1 77 76]))
  (.ops [oM 70 16, ⟨some 71, none, .bin .add (.t 70) (.c (.int .i64 1))⟩, oM 16 71])))
def L3_0 : C := .loop (some [3, 9, 11, 12, 14, 16]) B3_0
theorem L3_0_eq {E : Env} (x : St) : ev E L3_0 x = andThen (ev E B3_0 (restr (some [3, 9, 11, 12, 14, 16]) x)) (ev E L3_0) := ev_loop _ _ x
theorem L3_0_lp {E : Env} (s : Slots) (h : Heap) : ev E L3_0 ⟨s, h⟩ = lp E L3_0 (pickS s [3, 9, 11, 12, 14, 16]) h := lp_of L3_0_eq s h
theorem L3_0_go {E : Env} (s : Slots) (h : Heap) : lp E L3_0 s h = andThen (ev E B3_0 ⟨pickS s [3, 9, 11, 12, 14, 16], h⟩) (ev E L3_0) := lp_go L3_0_eq s h
def B3_1 : C := (.seq (.seq (.ops [oM 78 17, oM 79 3, ⟨some 80, none, .len (.t 79)⟩, ⟨some 81, none, .bin .lss (.t 78) (.t 80)⟩])
  (.cond (.t 81)
  .skip
  (.exit 2)))
  (.seq (.block 3 (some [3, 9, 12, 14, 17]) (.seq (.ops [oM 84 12, oM 85 14, oM 86 3, oM 87 17, ⟨some 88, none, .iaddr 6 (.t 86) (.t 87)⟩, ⟨some 89, none, .load true 6 (.t 88)⟩, ⟨some 90, none, .callM 11 [(.t 84), (.t 85), (.t 89)]⟩, ⟨some 91, none, .un .not (.t 90)⟩, oM 92 91, gM 93 92 false 12, gM 94 92 false 14, ⟨some 95, (some (92, false)), .callF false 12 [(.t 93), (.t 94)]⟩, ⟨some 96, (some (92, false)), .un .not (.t 95)⟩, oT 97 92 96])
  (.cond (.t 97)
  (.seq (.ops [⟨some 10, none, .mov (.c (.bool false))⟩])
  .ret)
  .skip)))
  (.ops [oM 82 17, ⟨some 83, none, .bin .add (.t 82) (.c (.int .i64 1))⟩, oM 17 83])))
def L3_1 : C := .loop (some [3, 9, 12, 14, 17]) B3_1
theorem L3_1_eq {E : Env} (x : St) : ev E L3_1 x = andThen (ev E B3_1 (restr (some [3, 9, 12, 14, 17]) x)) (ev E L3_1) := ev_loop _ _ x
theorem L3_1_lp {E : Env} (s : Slots) (h : Heap) : ev E L3_1 ⟨s, h⟩ = lp E L3_1 (pickS s [3, 9, 12, 14, 17]) h := lp_of L3_1_eq s h
theorem L3_1_go {E : Env} (s : Slots) (h : Heap) : lp E L3_1 s h = andThen (ev E B3_1 ⟨pickS s [3, 9, 12, 14, 17], h⟩) (ev E L3_1) := lp_go L3_1_eq s h
noncomputable def T3_1 (E : Env) (o : Out) : Option (AV × Heap) := outR [(10, none)] (andThen (endBlock 2 (some [3, 9, 12, 14, 17]) (o)) (ev E (.seq (.ops [oM 98 12, ⟨some 99, none, .callM 13 [(.t 98)]⟩, oM 18 99])
  (.seq (.ops [oM 100 18, ⟨some 101, none, .eqNl false true (.t 100)⟩, oM 102 101, gM 103 102 true 12, gF 104 102 true 2 9, gL 105 102 true 104, gF 106 102 true 3 9, gL 107 102 true 106, ⟨some 108, (some (102, true)), .callF true 14 [(.t 103), (.t 105), (.t 107)]⟩, gM 109 102 true 14, gF 110 102 true 2 9, gL 111 102 true 110, gF 112 102 true 3 9, gL 113 102 true 112, ⟨some 114, (some (102, true)), .callF true 15 [(.t 109), (.t 111), (.t 113)]⟩, ⟨some 115, (some (102, true)), .binB .eql (.t 108) (.t 114)⟩, oN 116 102 115, oM 117 116, gM 118 117 true 18, gM 119 117 true 14, ⟨some 120, (some (117, true)), .callM 16 [(.t 119)]⟩, ⟨some 121, (some (117, true)), .loadR true 6 (.t 9)⟩, ⟨some 122, (some (117, true)), .callM 11 [(.t 118), (.t 120), (.t 121)]⟩, oN 123 117 122, oM 124 123, gM 125 124 true 12, gM 126 124 true 14, ⟨some 127, (some (124, true)), .callF true 12 [(.t 125), (.t 126)]⟩, oN 128 124 127, oM 10 128])
  .ret))))
noncomputable def T3_0 (E : Env) (o : Out) : Option (AV × Heap) := outR [(10, none)] (andThen (endBlock 0 (some [3, 9, 11, 12, 14, 16]) (o)) (ev E (.seq (.seq (.ops [⟨some 17, none, .mov (.c (.int .i64 0))⟩])
  (.block 2 (some [3, 9, 12, 14, 17]) L3_1))
  (.seq (.ops [oM 98 12, ⟨some 99, none, .callM 13 [(.t 98)]⟩, oM 18 99])
  (.seq (.ops [oM 100 18, ⟨some 101, none, .eqNl false true (.t 100)⟩, oM 102 101, gM 103 102 true 12, gF 104 102 true 2 9, gL 105 102 true 104, gF 106 102 true 3 9, gL 107 102 true 106, ⟨some 108, (some (102, true)), .callF true 14 [(.t 103), (.t 105), (.t 107)]⟩, gM 109 102 true 14, gF 110 102 true 2 9, gL 111 102 true 110, gF 112 102 true 3 9, gL 113 102 true 112, ⟨some 114, (some (102, true)), .callF true 15 [(.t 109), (.t 111), (.t 113)]⟩, ⟨some 115, (some (102, true)), .binB .eql (.t 108) (.t 114)⟩, oN 116 102 115, oM 117 116, gM 118 117 true 18, gM 119 117 true 14, ⟨some 120, (some (117, true)), .callM 16 [(.t 119)]⟩, ⟨some 121, (some (117, true)), .loadR true 6 (.t 9)⟩, ⟨some 122, (some (117, true)), .callM 11 [(.t 118), (.t 120), (.t 121)]⟩, oN 123 117 122, oM 124 123, gM 125 124 true 12, gM 126 124 true 14, ⟨some 127, (some (124, true)), .callF true 12 [(.t 125), (.t 126)]⟩, oN 128 124 127, oM 10 128])
  .ret)))))
def I3 : Fn_ := ⟨5, 129, [(10, none)],
  (.seq (.ops [⟨some 9, none, .box true 27 (.t 4)⟩, ⟨some 10, none, .mov (.c (.bool false))⟩])
  (.seq (.seq (.ops [⟨some 19, none, .callF false 7 []⟩, ⟨some 20, none, .un .not (.t 19)⟩])
  (.cond (.t 20)
  (.seq (.ops [⟨some 10, none, .mov (.c (.bool false))⟩])
  .ret)
  .skip))
  (.seq (.seq (.ops [oM 21 3, ⟨some 22, none, .callF false 8 [(.t 21)]⟩, oM 23 22, ⟨some 24, (some (23, false)), .load true 6 (.t 9)⟩, ⟨some 25, (some (23, false)), .buildR 6 27 [(.t 24)]⟩, ⟨some 26, (some (23, false)), .callF false 8 [(.t 25)]⟩, oT 27 23 26, oM 28 27, gM 29 28 false 2, ⟨some 30, (some (28, false)), .len (.t 29)⟩, ⟨some 31, (some (28, false)), .bin .gtr (.t 30) (.c (.int .i64 20))⟩, oT 32 28 31])
  (.cond (.t 32)
  (.seq (.ops [⟨some 10, none, .mov (.c (.bool true))⟩])
  .ret)
  .skip))
  (.seq (.ops [⟨some 33, none, .buildSl 1 22 []⟩, oM 34 2, ⟨some 35, none, .append 1 4 22 (.t 33) (.t 34)⟩, oM 11 35])
  (.seq (.ops [oM 37 0, oM 38 1, oM 39 11, ⟨some 40, none, .callM 9 [(.t 37), (.t 38), (.t 39)]⟩, oM 36 40, oE 41 36 0, oE 42 36 1, oM 12 41, oM 13 42])
  (.seq (.ops [oM 44 0, oM 45 1, oM 46 2, ⟨some 47, none, .callM 10 [(.t 44), (.t 45), (.t 46)]⟩, oM 43 47, oE 48 43 0, oE 49 43 1, oM 14 48, oM 15 49])
  (.seq (.seq (.ops [oM 50 13, oM 51 15, ⟨some 52, none, .bin .neq (.t 50) (.t 51)⟩, oM 53 52, gM 54 53 false 12, ⟨some 55, (some (53, false)), .eqNl false false (.t 54)⟩, gM 56 53 false 14, ⟨some 57, (some (53, false)), .eqNl false false (.t 56)⟩, ⟨some 58, (some (53, false)), .binB .neq (.t 55) (.t 57)⟩, oT 59 53 58])
  (.cond (.t 59)
  (.seq (.ops [⟨some 10, none, .mov (.c (.bool false))⟩])
  .ret)
  .skip))
  (.seq (.seq (.ops [oM 60 12, ⟨some 61, none, .eqNl false false (.t 60)⟩, oM 62 61, gM 63 62 false 14, ⟨some 64, (some (62, false)), .eqNl false false (.t 63)⟩, oT 65 62 64])
  (.cond (.t 65)
  (.seq (.ops [⟨some 10, none, .mov (.c (.bool true))⟩])
  .ret)
  .skip))
  (.seq (.seq (.ops [⟨some 16, none, .mov (.c (.int .i64 0))⟩])
  (.block 0 (some [3, 9, 11, 12, 14, 16]) L3_0))
  (.seq (.seq (.ops [⟨some 17, none, .mov (.c (.int .i64 0))⟩])
  (.block 2 (some [3, 9, 12, 14, 17]) L3_1))
  (.seq (.ops [oM 98 12, ⟨some 99, none, .callM 13 [(.t 98)]⟩, oM 18 99])
  (.seq (.ops [oM 100 18, ⟨some 101, none, .eqNl false true (.t 100)⟩, oM 102 101, gM 103 102 true 12, gF 104 102 true 2 9, gL 105 102 true 104, gF 106 102 true 3 9, gL 107 102 true 106, ⟨some 108, (some (102, true)), .callF true 14 [(.t 103), (.t 105), (.t 107)]⟩, gM 109 102 true 14, gF 110 102 true 2 9, gL 111 102 true 110, gF 112 102 true 3 9, gL 113 102 true 112, ⟨some 114, (some (102, true)), .callF true 15 [(.t 109), (.t 111), (.t 113)]⟩, ⟨some 115, (some (102, true)), .binB .eql (.t 108) (.t 114)⟩, oN 116 102 115, oM 117 116, gM 118 117 true 18, gM 119 117 true 14, ⟨some 120, (some (117, true)), .callM 16 [(.t 119)]⟩, ⟨some 121, (some (117, true)), .loadR true 6 (.t 9)⟩, ⟨some 122, (some (117, true)), .callM 11 [(.t 118), (.t 120), (.t 121)]⟩, oN 123 117 122, oM 124 123, gM 125 124 true 12, gM 126 124 true 14, ⟨some 127, (some (124, true)), .callF true 12 [(.t 125), (.t 126)]⟩, oN 128 124 127, oM 10 128])
  .ret))))))))))))⟩
/- vizard/vizardlaw25.LeaseApart -/
def B4_0 : C := (.seq (.seq (.ops [oM 44 12, oM 45 3, ⟨some 46, none, .len (.t 45)⟩, ⟨some 47, none, .bin .lss (.t 44) (.t 46)⟩])
  (.cond (.t 47)
  .skip
  (.exit 0)))
  (.seq (.block 1 (some [0, 1, 2, 3, 9, 11, 12]) (.seq (.ops [oM 50 3, oM 51 12, ⟨some 52, none, .iaddr 6 (.t 50) (.t 51)⟩, ⟨some 53, none, .load true 6 (.t 52)⟩, ⟨some 13, none, .alloc true z_0 27⟩, oS 6 13 53])
  (.seq (.ops [oM 54 11, oF 55 3 13, oL 56 55, ⟨some 57, none, .mm false [(.t 56), (.c (.int .u64 2305843009213693952))]⟩, ⟨some 58, none, .mm true [(.t 54), (.t 57)]⟩, oM 11 58])
  (.seq (.ops [oM 59 11, oF 60 3 13, oS 1 60 59])
  (.seq (.ops [oM 61 9, ⟨some 62, none, .callM 13 [(.t 61)]⟩, oM 14 62])
  (.seq (.ops [oM 63 9, ⟨some 64, none, .build z_1 []⟩, ⟨some 65, none, .box true 46 (.t 64)⟩, ⟨some 66, none, .load true 6 (.t 13)⟩, ⟨some 67, none, .callM 11 [(.t 63), (.t 65), (.t 66)]⟩])
  (.seq (.seq (.ops [oM 68 14, ⟨some 69, none, .eqNl false false (.t 68)⟩, oM 70 69, gM 71 70 false 9, gM 72 70 false 11, gM 73 70 false 0, gM 74 70 false 0, gM 75 70 false 1, ⟨some 76, (some (70, false)), .conv .u32 (.t 75)⟩, ⟨some 77, (some (70, false)), .bin .add (.t 74) (.t 76)⟩, gM 78 70 false 2, ⟨some 79, (some (70, false)), .callF false 17 [(.t 71), (.t 72), (.t 73), (.t 77), (.t 78)]⟩, ⟨some 80, (some (70, false)), .un .not (.t 79)⟩, oT 81 70 80])
  (.cond (.t 81)
  (.seq (.ops [⟨some 8, none, .mov (.c (.bool false))⟩])
  .ret)
  .skip))
  (.seq (.ops [oM 83 9, oF 84 1 13, oL 85 84, oM 86 11, ⟨some 87, none, .callF false 18 [(.t 83), (.t 85), (.t 86)]⟩, oM 82 87, oE 88 82 0, oE 89 82 1, ⟨some 15, none, .alloc true z_2 49⟩, oS 3 15 88, oM 16 89])
  (.seq (.ops [oM 91 14, oF 92 1 13, oL 93 92, oM 94 11, ⟨some 95, none, .callF false 18 [(.t 91), (.t 93), (.t 94)]⟩, oM 90 95, oE 96 90 0, oE 97 90 1, ⟨some 17, none, .alloc true z_2 49⟩, oS 3 17 96, oM 18 97])
  (.seq (.ops [oF 98 0 13, oL 99 98, ⟨some 100, none, .bin .eql (.t 99) (.c (.int .i64 0))⟩, oM 101 100, gM 102 101 true 16, oN 103 101 102, oM 104 103, gM 105 104 true 18, ⟨some 106, (some (104, true)), .un .not (.t 105)⟩, oN 107 104 106, oM 108 107, gM 109 108 true 14, gF 110 108 true 0 15, gL 111 108 true 110, gM 112 108 true 11, ⟨some 113, (some (108, true)), .callF false 14 [(.t 109), (.t 111), (.t 112)]⟩, ⟨some 114, (some (108, true)), .un .not (.t 113)⟩, oN 115 108 114])
  (.cond (.t 115)
  (.seq (.ops [⟨some 8, none, .mov (.c (.bool false))⟩])
  .ret)
  .skip)))))))))))
  (.ops [oM 48 12, ⟨some 49, none, .bin .add (.t 48) (.c (.int .i64 1))⟩, oM 12 49])))
def L4_0 : C := .loop (some [0, 1, 2, 3, 9, 11, 12]) B4_0
theorem L4_0_eq {E : Env} (x : St) : ev E L4_0 x = andThen (ev E B4_0 (restr (some [0, 1, 2, 3, 9, 11, 12]) x)) (ev E L4_0) := ev_loop _ _ x
theorem L4_0_lp {E : Env} (s : Slots) (h : Heap) : ev E L4_0 ⟨s, h⟩ = lp E L4_0 (pickS s [0, 1, 2, 3, 9, 11, 12]) h := lp_of L4_0_eq s h
theorem L4_0_go {E : Env} (s : Slots) (h : Heap) : lp E L4_0 s h = andThen (ev E B4_0 ⟨pickS s [0, 1, 2, 3, 9, 11, 12], h⟩) (ev E L4_0) := lp_go L4_0_eq s h
noncomputable def T4_0 (E : Env) (o : Out) : Option (AV × Heap) := outR [(8, none)] (andThen (endBlock 0 (some [0, 1, 2, 3, 9, 11, 12]) (o)) (ev E (.seq (.ops [⟨some 8, none, .mov (.c (.bool true))⟩])
  .ret)))
def I4 : Fn_ := ⟨4, 116, [(8, none)],
  (.seq (.ops [⟨some 8, none, .mov (.c (.bool false))⟩])
  (.seq (.seq (.ops [⟨some 19, none, .callF false 7 []⟩, ⟨some 20, none, .un .not (.t 19)⟩])
  (.cond (.t 20)
  (.seq (.ops [⟨some 8, none, .mov (.c (.bool false))⟩])
  .ret)
  .skip))
  (.seq (.seq (.ops [oM 21 3, ⟨some 22, none, .callF false 8 [(.t 21)]⟩, oM 23 22, gM 24 23 false 0, ⟨some 25, (some (23, false)), .bin .gtr (.t 24) (.c (.int .u32 2147483648))⟩, oT 26 23 25])
  (.cond (.t 26)
  (.seq (.ops [⟨some 8, none, .mov (.c (.bool true))⟩])
  .ret)
  .skip))
  (.seq (.ops [oM 28 0, oM 29 0, oM 30 1, ⟨some 31, none, .conv .u32 (.t 30)⟩, ⟨some 32, none, .bin .add (.t 29) (.t 31)⟩, oM 33 2, ⟨some 34, none, .buildR 1 22 [(.t 33)]⟩, ⟨some 35, none, .callM 9 [(.t 28), (.t 32), (.t 34)]⟩, oM 27 35, oE 36 27 0, oE 37 27 1, oM 9 36, oM 10 37])
  (.seq (.seq (.ops [oM 38 9, ⟨some 39, none, .eqNl false false (.t 38)⟩, oM 40 39, gM 41 40 false 10, ⟨some 42, (some (40, false)), .bin .neq (.t 41) (.c (.int .i64 0))⟩, oT 43 40 42])
  (.cond (.t 43)
  (.seq (.ops [⟨some 8, none, .mov (.c (.bool false))⟩])
  .ret)
  .skip))
  (.seq (.ops [⟨some 11, none, .mov (.c (.int .u64 0))⟩])
  (.seq (.seq (.ops [⟨some 12, none, .mov (.c (.int .i64 0))⟩])
  (.block 0 (some [0, 1, 2, 3, 9, 11, 12]) L4_0))
  (.seq (.ops [⟨some 8, none, .mov (.c (.bool true))⟩])
  .ret))))))))⟩
/- vizard/vizardlaw25.LeaseStays -/
def B5_0 : C := (.seq (.seq (.ops [oM 73 19, oM 74 2, ⟨some 75, none, .len (.t 74)⟩, ⟨some 76, none, .bin .lss (.t 73) (.t 75)⟩])
  (.cond (.t 76)
  .skip
  (.exit 0)))
  (.seq (.block 1 (some [2, 3, 4, 5, 6, 7, 17, 19]) (.ops [oM 79 17, ⟨some 80, none, .build z_1 []⟩, ⟨some 81, none, .box true 46 (.t 80)⟩, oM 82 2, oM 83 19, ⟨some 84, none, .iaddr 6 (.t 82) (.t 83)⟩, ⟨some 85, none, .load true 6 (.t 84)⟩, ⟨some 86, none, .callM 11 [(.t 79), (.t 81), (.t 85)]⟩]))
  (.ops [oM 77 19, ⟨some 78, none, .bin .add (.t 77) (.c (.int .i64 1))⟩, oM 19 78])))
def L5_0 : C := .loop (some [2, 3, 4, 5, 6, 7, 17, 19]) B5_0
theorem L5_0_eq {E : Env} (x : St) : ev E L5_0 x = andThen (ev E B5_0 (restr (some [2, 3, 4, 5, 6, 7, 17, 19]) x)) (ev E L5_0) := ev_loop _ _ x
theorem L5_0_lp {E : Env} (s : Slots) (h : Heap) : ev E L5_0 ⟨s, h⟩ = lp E L5_0 (pickS s [2, 3, 4, 5, 6, 7, 17, 19]) h := lp_of L5_0_eq s h
theorem L5_0_go {E : Env} (s : Slots) (h : Heap) : lp E L5_0 s h = andThen (ev E B5_0 ⟨pickS s [2, 3, 4, 5, 6, 7, 17, 19], h⟩) (ev E L5_0) := lp_go L5_0_eq s h
noncomputable def T5_0 (E : Env) (o : Out) : Option (AV × Heap) := outR [(16, none)] (andThen (endBlock 0 (some [2, 3, 4, 5, 6, 7, 17, 19]) (o)) (ev E (.seq (.ops [oM 88 17, oM 89 3, oM 90 4, oM 91 5, oM 92 5, oM 93 6, ⟨some 94, none, .conv .u64 (.t 93)⟩, ⟨some 95, none, .bin .add (.t 92) (.t 94)⟩, ⟨some 96, none, .callM 19 [(.t 88), (.t 89), (.t 90), (.t 91), (.t 95)]⟩, oM 87 96, oE 97 87 0, oE 98 87 1, oM 20 97, oM 21 98])
  (.seq (.seq (.ops [oM 99 21, ⟨some 100, none, .bin .neq (.t 99) (.c (.int .i64 0))⟩])
  (.cond (.t 100)
  (.seq (.ops [oM 101 21, ⟨some 102, none, .bin .eql (.t 101) (.c (.int .i64 18))⟩, oM 103 102, gM 104 103 true 20, ⟨some 105, (some (103, true)), .bin .eql (.t 104) (.c (.int .u32 0))⟩, oN 106 103 105, oM 16 106])
  .ret)
  .skip))
  (.seq (.ops [oM 108 17, oM 109 3, oM 110 4, ⟨some 111, none, .bin .add (.t 110) (.c (.int .u32 1))⟩, oM 112 5, oM 113 5, oM 114 6, ⟨some 115, none, .conv .u64 (.t 114)⟩, ⟨some 116, none, .bin .add (.t 113) (.t 115)⟩, ⟨some 117, none, .callM 19 [(.t 108), (.t 109), (.t 111), (.t 112), (.t 116)]⟩, oM 107 117, oE 118 107 0, oE 119 107 1, oM 22 118, oM 23 119])
  (.seq (.seq (.ops [oM 120 23, ⟨some 121, none, .bin .neq (.t 120) (.c (.int .i64 0))⟩, oM 122 121, gM 123 122 false 22, gM 124 122 false 20, ⟨some 125, (some (122, false)), .bin .neq (.t 123) (.t 124)⟩, oT 126 122 125, oM 127 126, gM 128 127 false 17, gM 129 127 false 3, gM 130 127 false 20, gM 131 127 false 5, gM 132 127 false 5, gM 133 127 false 6, ⟨some 134, (some (127, false)), .conv .u64 (.t 133)⟩, ⟨some 135, (some (127, false)), .bin .add (.t 132) (.t 134)⟩, ⟨some 136, (some (127, false)), .callM 20 [(.t 128), (.t 129), (.t 130), (.t 131), (.t 135)]⟩, ⟨some 137, (some (127, false)), .bin .neq (.t 136) (.c (.int .i64 0))⟩, oT 138 127 137])
  (.cond (.t 138)
  (.seq (.ops [⟨some 16, none, .mov (.c (.bool false))⟩])
  .ret)
  .skip))
  (.seq (.ops [oM 140 17, oM 141 3, oM 142 4, ⟨some 143, none, .bin .add (.t 142) (.c (.int .u32 2))⟩, oM 144 5, oM 145 5, ⟨some 146, none, .callM 19 [(.t 140), (.t 141), (.t 143), (.t 144), (.t 145)]⟩, oM 139 146, oE 147 139 0, oE 148 139 1, oM 24 147, oM 25 148])
  (.seq (.ops [oM 150 17, oM 151 3, oM 152 5, ⟨some 153, none, .callF false 18 [(.t 150), (.t 151), (.t 152)]⟩, oM 149 153, oE 154 149 0, oE 155 149 1, ⟨some 26, none, .alloc true z_2 49⟩, oS 3 26 154, oM 27 155])
  (.seq (.seq (.ops [oM 156 25, ⟨some 157, none, .bin .neq (.t 156) (.c (.int .i64 0))⟩, oM 158 157, gM 159 158 false 24, gM 160 158 false 20, ⟨some 161, (some (158, false)), .bin .neq (.t 159) (.t 160)⟩, oT 162 158 161, oM 163 162, gM 164 163 false 27, ⟨some 165, (some (163, false)), .un .not (.t 164)⟩, oT 166 163 165, oM 167 166, gF 168 167 false 1 26, gL 169 167 false 168, ⟨some 170, (some (167, false)), .un .not (.t 169)⟩, oT 171 167 170, oM 172 171, gF 173 172 false 2 26, gL 174 172 false 173, gM 175 172 false 5, gM 176 172 false 6, ⟨some 177, (some (172, false)), .conv .u64 (.t 176)⟩, ⟨some 178, (some (172, false)), .bin .add (.t 175) (.t 177)⟩, ⟨some 179, (some (172, false)), .bin .neq (.t 174) (.t 178)⟩, oT 180 172 179])
  (.cond (.t 180)
  (.seq (.ops [⟨some 16, none, .mov (.c (.bool false))⟩])
  .ret)
  .skip))
  (.seq (.ops [oM 182 17, oM 183 3, oM 184 5, oM 185 7, ⟨some 186, none, .conv .u64 (.t 185)⟩, ⟨some 187, none, .bin .add (.t 184) (.t 186)⟩, ⟨some 188, none, .callF false 18 [(.t 182), (.t 183), (.t 187)]⟩, oM 181 188, oE 189 181 0, oE 190 181 1, ⟨some 28, none, .alloc true z_2 49⟩, oS 3 28 189, oM 29 190])
  (.seq (.seq (.ops [oM 191 29, oM 192 7, oM 193 6, ⟨some 194, none, .bin .lss (.t 192) (.t 193)⟩, ⟨some 195, none, .binB .neq (.t 191) (.t 194)⟩, oM 196 195, gM 197 196 false 17, gM 198 196 false 3, gM 199 196 false 20, gM 200 196 false 5, gM 201 196 false 5, gM 202 196 false 6, ⟨some 203, (some (196, false)), .conv .u64 (.t 202)⟩, ⟨some 204, (some (196, false)), .bin .add (.t 201) (.t 203)⟩, ⟨some 205, (some (196, false)), .callM 21 [(.t 197), (.t 198), (.t 199), (.t 200), (.t 204)]⟩, ⟨some 206, (some (196, false)), .bin .neq (.t 205) (.c (.int .i64 0))⟩, oT 207 196 206])
  (.cond (.t 207)
  (.seq (.ops [⟨some 16, none, .mov (.c (.bool false))⟩])
  .ret)
  .skip))
  (.seq (.ops [oM 209 17, oM 210 3, oM 211 5, ⟨some 212, none, .callF false 18 [(.t 209), (.t 210), (.t 211)]⟩, oM 208 212, oE 213 208 0, oE 214 208 1, ⟨some 30, none, .alloc true z_2 49⟩, oS 3 30 213, oM 31 214])
  (.seq (.ops [oM 215 31, ⟨some 216, none, .un .not (.t 215)⟩, oM 217 216, gM 218 217 true 17, gM 219 217 true 20, gM 220 217 true 5, ⟨some 221, (some (217, true)), .callF false 14 [(.t 218), (.t 219), (.t 220)]⟩, ⟨some 222, (some (217, true)), .un .not (.t 221)⟩, oN 223 217 222, oM 224 223, gM 225 224 true 17, gM 226 224 true 20, gM 227 224 true 5, gM 228 224 true 6, ⟨some 229, (some (224, true)), .conv .u64 (.t 228)⟩, ⟨some 230, (some (224, true)), .bin .add (.t 227) (.t 229)⟩, ⟨some 231, (some (224, true)), .bin .sub (.t 230) (.c (.int .u64 1))⟩, ⟨some 232, (some (224, true)), .callF false 14 [(.t 225), (.t 226), (.t 231)]⟩, ⟨some 233, (some (224, true)), .un .not (.t 232)⟩, oN 234 224 233, oM 16 234])
  .ret)))))))))))))
def I5 : Fn_ := ⟨8, 235, [(16, none)],
  (.seq (.ops [⟨some 16, none, .mov (.c (.bool false))⟩])
  (.seq (.seq (.ops [⟨some 32, none, .callF false 7 []⟩, ⟨some 33, none, .un .not (.t 32)⟩])
  (.cond (.t 33)
  (.seq (.ops [⟨some 16, none, .mov (.c (.bool false))⟩])
  .ret)
  .skip))
  (.seq (.seq (.ops [oM 34 2, ⟨some 35, none, .callF false 8 [(.t 34)]⟩, oM 36 35, gM 37 36 false 0, ⟨some 38, (some (36, false)), .bin .gtr (.t 37) (.c (.int .u32 2147483648))⟩, oT 39 36 38, oM 40 39, gM 41 40 false 3, ⟨some 42, (some (40, false)), .lenS (.t 41)⟩, ⟨some 43, (some (40, false)), .bin .lss (.t 42) (.c (.int .i64 1))⟩, oT 44 40 43, oM 45 44, gM 46 45 false 3, ⟨some 47, (some (45, false)), .lenS (.t 46)⟩, ⟨some 48, (some (45, false)), .bin .gtr (.t 47) (.c (.int .i64 255))⟩, oT 49 45 48, oM 50 49, gM 51 50 false 5, ⟨some 52, (some (50, false)), .bin .gtr (.t 51) (.c (.int .u64 1152921504606846976))⟩, oT 53 50 52, oM 54 53, gM 55 54 false 6, ⟨some 56, (some (54, false)), .bin .lss (.t 55) (.c (.int .u32 1))⟩, oT 57 54 56])
  (.cond (.t 57)
  (.seq (.ops [⟨some 16, none, .mov (.c (.bool true))⟩])
  .ret)
  .skip))
  (.seq (.ops [oM 59 0, oM 60 0, oM 61 1, ⟨some 62, none, .conv .u32 (.t 61)⟩, ⟨some 63, none, .bin .add (.t 60) (.t 62)⟩, ⟨some 64, none, .callM 9 [(.t 59), (.t 63), (.c .nils)]⟩, oM 58 64, oE 65 58 0, oE 66 58 1, oM 17 65, oM 18 66])
  (.seq (.seq (.ops [oM 67 17, ⟨some 68, none, .eqNl false false (.t 67)⟩, oM 69 68, gM 70 69 false 18, ⟨some 71, (some (69, false)), .bin .neq (.t 70) (.c (.int .i64 0))⟩, oT 72 69 71])
  (.cond (.t 72)
  (.seq (.ops [⟨some 16, none, .mov (.c (.bool false))⟩])
  .ret)
  .skip))
  (.seq (.seq (.ops [⟨some 19, none, .mov (.c (.int .i64 0))⟩])
  (.block 0 (some [2, 3, 4, 5, 6, 7, 17, 19]) L5_0))
  (.seq (.ops [oM 88 17, oM 89 3, oM 90 4, oM 91 5, oM 92 5, oM 93 6, ⟨some 94, none, .conv .u64 (.t 93)⟩, ⟨some 95, none, .bin .add (.t 92) (.t 94)⟩, ⟨some 96, none, .callM 19 [(.t 88), (.t 89), (.t 90), (.t 91), (.t 95)]⟩, oM 87 96, oE 97 87 0, oE 98 87 1, oM 20 97, oM 21 98])
  (.seq (.seq (.ops [oM 99 21, ⟨some 100, none, .bin .neq (.t 99) (.c (.int .i64 0))⟩])
  (.cond (.t 100)
  (.seq (.ops [oM 101 21, ⟨some 102, none, .bin .eql (.t 101) (.c (.int .i64 18))⟩, oM 103 102, gM 104 103 true 20, ⟨some 105, (some (103, true)), .bin .eql (.t 104) (.c (.int .u32 0))⟩, oN 106 103 105, oM 16 106])
  .ret)
  .skip))
  (.seq (.ops [oM 108 17, oM 109 3, oM 110 4, ⟨some 111, none, .bin .add (.t 110) (.c (.int .u32 1))⟩, oM 112 5, oM 113 5, oM 114 6, ⟨some 115, none, .conv .u64 (.t 114)⟩, ⟨some 116, none, .bin .add (.t 113) (.t 115)⟩, ⟨some 117, none, .callM 19 [(.t 108), (.t 109), (.t 111), (.t 112), (.t 116)]⟩, oM 107 117, oE 118 107 0, oE 119 107 1, oM 22 118, oM 23 119])
  (.seq (.seq (.ops [oM 120 23, ⟨some 121, none, .bin .neq (.t 120) (.c (.int .i64 0))⟩, oM 122 121, gM 123 122 false 22, gM 124 122 false 20, ⟨some 125, (some (122, false)), .bin .neq (.t 123) (.t 124)⟩, oT 126 122 125, oM 127 126, gM 128 127 false 17, gM 129 127 false 3, gM 130 127 false 20, gM 131 127 false 5, gM 132 127 false 5, gM 133 127 false 6, ⟨some 134, (some (127, false)), .conv .u64 (.t 133)⟩, ⟨some 135, (some (127, false)), .bin .add (.t 132) (.t 134)⟩, ⟨some 136, (some (127, false)), .callM 20 [(.t 128), (.t 129), (.t 130), (.t 131), (.t 135)]⟩, ⟨some 137, (some (127, false)), .bin .neq (.t 136) (.c (.int .i64 0))⟩, oT 138 127 137])
  (.cond (.t 138)
  (.seq (.ops [⟨some 16, none, .mov (.c (.bool false))⟩])
  .ret)
  .skip))
  (.seq (.ops [oM 140 17, oM 141 3, oM 142 4, ⟨some 143, none, .bin .add (.t 142) (.c (.int .u32 2))⟩, oM 144 5, oM 145 5, ⟨some 146, none, .callM 19 [(.t 140), (.t 141), (.t 143), (.t 144), (.t 145)]⟩, oM 139 146, oE 147 139 0, oE 148 139 1, oM 24 147, oM 25 148])
  (.seq (.ops [oM 150 17, oM 151 3, oM 152 5, ⟨some 153, none, .callF false 18 [(.t 150), (.t 151), (.t 152)]⟩, oM 149 153, oE 154 149 0, oE 155 149 1, ⟨some 26, none, .alloc true z_2 49⟩, oS 3 26 154, oM 27 155])
  (.seq (.seq (.ops [oM 156 25, ⟨some 157, none, .bin .neq (.t 156) (.c (.int .i64 0))⟩, oM 158 157, gM 159 158 false 24, gM 160 158 false 20, ⟨some 161, (some (158, false)), .bin .neq (.t 159) (.t 160)⟩, oT 162 158 161, oM 163 162, gM 164 163 false 27, ⟨some 165, (some (163, false)), .un .not (.t 164)⟩, oT 166 163 165, oM 167 166, gF 168 167 false 1 26, gL 169 167 false 168, ⟨some 170, (some (167, false)), .un .not (.t 169)⟩, oT 171 167 170, oM 172 171, gF 173 172 false 2 26, gL 174 172 false 173, gM 175 172 false 5, gM 176 172 false 6, ⟨some 177, (some (172, false)), .conv .u64 (.t 176)⟩, ⟨some 178, (some (172, false)), .bin .add (.t 175) (.t 177)⟩, ⟨some 179, (some (172, false)), .bin .neq (.t 174) (.t 178)⟩, oT 180 172 179])
  (.cond (.t 180)
  (.seq (.ops [⟨some 16, none, .mov (.c (.bool false))⟩])
  .ret)
  .skip))
  (.seq (.ops [oM 182 17, oM 183 3, oM 184 5, oM 185 7, ⟨some 186, none, .conv .u64 (.t 185)⟩, ⟨some 187, none, .bin .add (.t 184) (.t 186)⟩, ⟨some 188, none, .callF false 18 [(.t 182), (.t 183), (.t 187)]⟩, oM 181 188, oE 189 181 0, oE 190 181 1, ⟨some 28, none, .alloc true z_2 49⟩, oS 3 28 189, oM 29 190])
  (.seq (.seq (.ops [oM 191 29, oM 192 7, oM 193 6, ⟨some 194, none, .bin .lss (.t 192) (.t 193)⟩, ⟨some 195, none, .binB .neq (.t 191) (.t 194)⟩, oM 196 195, gM 197 196 false 17, gM 198 196 false 3, gM 199 196 false 20, gM 200 196 false 5, gM 201 196 false 5, gM 202 196 false 6, ⟨some 203, (some (196, false)), .conv .u64 (.t 202)⟩, ⟨some 204, (some (196, false)), .bin .add (.t 201) (.t 203)⟩, ⟨some 205, (some (196, false)), .callM 21 [(.t 197), (.t 198), (.t 199), (.t 200), (.t 204)]⟩, ⟨some 206, (some (196, false)), .bin .neq (.t 205) (.c (.int .i64 0))⟩, oT 207 196 206])
  (.cond (.t 207)
  (.seq (.ops [⟨some 16, none, .mov (.c (.bool false))⟩])
  .ret)
  .skip))
  (.seq (.ops [oM 209 17, oM 210 3, oM 211 5, ⟨some 212, none, .callF false 18 [(.t 209), (.t 210), (.t 211)]⟩, oM 208 212, oE 213 208 0, oE 214 208 1, ⟨some 30, none, .alloc true z_2 49⟩, oS 3 30 213, oM 31 214])
  (.seq (.ops [oM 215 31, ⟨some 216, none, .un .not (.t 215)⟩, oM 217 216, gM 218 217 true 17, gM 219 217 true 20, gM 220 217 true 5, ⟨some 221, (some (217, true)), .callF false 14 [(.t 218), (.t 219), (.t 220)]⟩, ⟨some 222, (some (217, true)), .un .not (.t 221)⟩, oN 223 217 222, oM 224 223, gM 225 224 true 17, gM 226 224 true 20, gM 227 224 true 5, gM 228 224 true 6, ⟨some 229, (some (224, true)), .conv .u64 (.t 228)⟩, ⟨some 230, (some (224, true)), .bin .add (.t 227) (.t 229)⟩, ⟨some 231, (some (224, true)), .bin .sub (.t 230) (.c (.int .u64 1))⟩, ⟨some 232, (some (224, true)), .callF false 14 [(.t 225), (.t 226), (.t 231)]⟩, ⟨some 233, (some (224, true)), .un .not (.t 232)⟩, oN 234 224 233, oM 16 234])
  .ret)))))))))))))))))⟩
/- vizard/vizardlaw25.LeaseFull -/
def B6_0 : C := (.seq (.seq (.ops [oM 74 15, oM 75 11, ⟨some 76, none, .bin .lss (.t 74) (.t 75)⟩])
  (.cond (.t 76)
  .skip
  (.exit 0)))
  (.seq (.block 1 (some [2, 3, 4, 11, 12, 14, 15]) (.seq (.ops [⟨some 16, none, .mov (.c (.int .u32 0))⟩])
  (.seq (.seq (.ops [oM 79 15, oM 80 3, ⟨some 81, none, .len (.t 80)⟩, ⟨some 82, none, .bin .lss (.t 79) (.t 81)⟩])
  (.cond (.t 82)
  (.ops [oM 83 3, oM 84 15, ⟨some 85, none, .iaddr 1 (.t 83) (.t 84)⟩, oL 86 85, oM 16 86])
  .skip))
  (.seq (.ops [oM 88 12, oM 89 15, ⟨some 90, none, .bin .add (.t 89) (.c (.int .i64 1))⟩, ⟨some 91, none, .conv .u8 (.t 90)⟩, ⟨some 92, none, .buildR 1 5 [(.t 91)]⟩, ⟨some 93, none, .toStr (.t 92)⟩, oM 94 16, oM 95 4, oM 96 4, ⟨some 97, none, .bin .add (.t 96) (.c (.int .u64 9))⟩, ⟨some 98, none, .callM 19 [(.t 88), (.t 93), (.t 94), (.t 95), (.t 97)]⟩, oM 87 98, oE 99 87 0, oE 100 87 1, oM 17 99, oM 18 100])
  (.seq (.seq (.ops [oM 101 18, ⟨some 102, none, .bin .neq (.t 101) (.c (.int .i64 0))⟩, oM 103 102, gM 104 103 false 14, gM 105 103 false 17, ⟨some 106, (some (103, false)), .look false (.int .u32) ⟨false, [.b false]⟩ (.t 104) (.t 105)⟩, oT 107 103 106, oM 108 107, gM 109 108 false 17, gM 110 108 false 2, ⟨some 111, (some (108, false)), .bin .eql (.t 109) (.t 110)⟩, oT 112 108 111])
  (.cond (.t 112)
  (.seq (.ops [⟨some 10, none, .mov (.c (.bool false))⟩])
  .ret)
  .skip))
  (.ops [oM 113 14, oM 114 17, ⟨none, none, .mapUpd (.int .u32) (.t 113) (.t 114) (.c (.bool true))⟩]))))))
  (.ops [oM 77 15, ⟨some 78, none, .bin .add (.t 77) (.c (.int .i64 1))⟩, oM 15 78])))
def L6_0 : C := .loop (some [2, 3, 4, 11, 12, 14, 15]) B6_0
theorem L6_0_eq {E : Env} (x : St) : ev E L6_0 x = andThen (ev E B6_0 (restr (some [2, 3, 4, 11, 12, 14, 15]) x)) (ev E L6_0) := ev_loop _ _ x
theorem L6_0_lp {E : Env} (s : Slots) (h : Heap) : ev E L6_0 ⟨s, h⟩ = lp E L6_0 (pickS s [2, 3, 4, 11, 12, 14, 15]) h := lp_of L6_0_eq s h
theorem L6_0_go {E : Env} (s : Slots) (h : Heap) : lp E L6_0 s h = andThen (ev E B6_0 ⟨pickS s [2, 3, 4, 11, 12, 14, 15], h⟩) (ev E L6_0) := lp_go L6_0_eq s h
noncomputable def T6_0 (E : Env) (o : Out) : Option (AV × Heap) := outR [(10, none)] (andThen (endBlock 0 (some [2, 3, 4, 11, 12, 14, 15]) (o)) (ev E (.seq (.ops [oM 116 12, oM 117 4, oM 118 4, ⟨some 119, none, .bin .add (.t 118) (.c (.int .u64 9))⟩, ⟨some 120, none, .callM 19 [(.t 116), (.c (.str ⟨#[122]⟩)), (.c (.int .u32 0)), (.t 117), (.t 119)]⟩, oM 115 120, oE 121 115 0, oE 122 115 1, oM 19 121, oM 20 122])
  (.seq (.seq (.ops [oM 123 20, ⟨some 124, none, .bin .neq (.t 123) (.c (.int .i64 18))⟩, oM 125 124, gM 126 125 false 12, ⟨some 127, (some (125, false)), .callF false 22 [(.t 126)]⟩, gM 128 125 false 11, ⟨some 129, (some (125, false)), .bin .neq (.t 127) (.t 128)⟩, oT 130 125 129])
  (.cond (.t 130)
  (.seq (.ops [⟨some 10, none, .mov (.c (.bool false))⟩])
  .ret)
  .skip))
  (.seq (.seq (.ops [oM 131 11, ⟨some 132, none, .bin .eql (.t 131) (.c (.int .i64 0))⟩])
  (.cond (.t 132)
  (.seq (.ops [⟨some 10, none, .mov (.c (.bool true))⟩])
  .ret)
  .skip))
  (.seq (.ops [oM 134 12, oM 135 4, ⟨some 136, none, .callF false 18 [(.t 134), (.c (.str ⟨#[1]⟩)), (.t 135)]⟩, oM 133 136, oE 137 133 0, oE 138 133 1, ⟨some 21, none, .alloc true z_2 49⟩, oS 3 21 137, oM 22 138])
  (.seq (.seq (.ops [oM 139 12, ⟨some 140, none, .callM 23 [(.t 139), (.c (.str ⟨#[1]⟩)), (.c (.bool false))]⟩, ⟨some 141, none, .un .not (.t 140)⟩])
  (.cond (.t 141)
  (.seq (.ops [⟨some 10, none, .mov (.c (.bool false))⟩])
  .ret)
  .skip))
  (.seq (.ops [oM 143 12, oM 144 4, oM 145 4, ⟨some 146, none, .bin .add (.t 145) (.c (.int .u64 9))⟩, ⟨some 147, none, .callM 19 [(.t 143), (.c (.str ⟨#[122]⟩)), (.c (.int .u32 0)), (.t 144), (.t 146)]⟩, oM 142 147, oE 148 142 0, oE 149 142 1, oM 23 148, oM 24 149])
  (.seq (.ops [oM 150 24, ⟨some 151, none, .bin .eql (.t 150) (.c (.int .i64 0))⟩, oM 152 151, gM 153 152 true 23, gF 154 152 true 0 21, gL 155 152 true 154, ⟨some 156, (some (152, true)), .bin .eql (.t 153) (.t 155)⟩, oN 157 152 156, oM 10 157])
  .ret)))))))))
def I6 : Fn_ := ⟨5, 158, [(10, none)],
  (.seq (.ops [⟨some 10, none, .mov (.c (.bool false))⟩])
  (.seq (.seq (.ops [⟨some 25, none, .callF false 7 []⟩, ⟨some 26, none, .un .not (.t 25)⟩])
  (.cond (.t 26)
  (.seq (.ops [⟨some 10, none, .mov (.c (.bool false))⟩])
  .ret)
  .skip))
  (.seq (.seq (.ops [oM 27 0, ⟨some 28, none, .bin .gtr (.t 27) (.c (.int .u32 2147483648))⟩, oM 29 28, gM 30 29 false 3, ⟨some 31, (some (29, false)), .len (.t 30)⟩, ⟨some 32, (some (29, false)), .bin .gtr (.t 31) (.c (.int .i64 300))⟩, oT 33 29 32, oM 34 33, gM 35 34 false 4, ⟨some 36, (some (34, false)), .bin .gtr (.t 35) (.c (.int .u64 1152921504606846976))⟩, oT 37 34 36])
  (.cond (.t 37)
  (.seq (.ops [⟨some 10, none, .mov (.c (.bool true))⟩])
  .ret)
  .skip))
  (.seq (.ops [oM 38 1, ⟨some 39, none, .bin .rem (.t 38) (.c (.int .u8 12))⟩, ⟨some 40, none, .conv .i64 (.t 39)⟩, ⟨some 41, none, .bin .add (.t 40) (.c (.int .i64 1))⟩, oM 11 41])
  (.seq (.ops [oM 43 0, oM 44 0, oM 45 11, ⟨some 46, none, .conv .u32 (.t 45)⟩, ⟨some 47, none, .bin .add (.t 44) (.t 46)⟩, ⟨some 48, none, .bin .sub (.t 47) (.c (.int .u32 1))⟩, oM 49 2, ⟨some 50, none, .buildR 1 22 [(.t 49)]⟩, ⟨some 51, none, .callM 9 [(.t 43), (.t 48), (.t 50)]⟩, oM 42 51, oE 52 42 0, oE 53 42 1, oM 12 52, oM 13 53])
  (.seq (.seq (.ops [oM 54 12, ⟨some 55, none, .eqNl false false (.t 54)⟩, oM 56 55, gM 57 56 false 13, ⟨some 58, (some (56, false)), .bin .neq (.t 57) (.c (.int .i64 0))⟩, oT 59 56 58])
  (.cond (.t 59)
  (.seq (.ops [⟨some 10, none, .mov (.c (.bool false))⟩])
  .ret)
  .skip))
  (.seq (.seq (.ops [oM 60 2, oM 61 0, ⟨some 62, none, .bin .geq (.t 60) (.t 61)⟩, oM 63 62, gM 64 63 true 2, gM 65 63 true 0, gM 66 63 true 11, ⟨some 67, (some (63, true)), .conv .u32 (.t 66)⟩, ⟨some 68, (some (63, true)), .bin .add (.t 65) (.t 67)⟩, ⟨some 69, (some (63, true)), .bin .lss (.t 64) (.t 68)⟩, oN 70 63 69])
  (.cond (.t 70)
  (.ops [oM 71 11, ⟨some 72, none, .bin .sub (.t 71) (.c (.int .i64 1))⟩, oM 11 72])
  .skip))
  (.seq (.ops [⟨some 73, none, .mkMap (.int .u32)⟩, oM 14 73])
  (.seq (.seq (.ops [⟨some 15, none, .mov (.c (.int .i64 0))⟩])
  (.block 0 (some [2, 3, 4, 11, 12, 14, 15]) L6_0))
  (.seq (.ops [oM 116 12, oM 117 4, oM 118 4, ⟨some 119, none, .bin .add (.t 118) (.c (.int .u64 9))⟩, ⟨some 120, none, .callM 19 [(.t 116), (.c (.str ⟨#[122]⟩)), (.c (.int .u32 0)), (.t 117), (.t 119)]⟩, oM 115 120, oE 121 115 0, oE 122 115 1, oM 19 121, oM 20 122])
  (.seq (.seq (.ops [oM 123 20, ⟨some 124, none, .bin .neq (.t 123) (.c (.int .i64 18))⟩, oM 125 124, gM 126 125 false 12, ⟨some 127, (some (125, false)), .callF false 22 [(.t 126)]⟩, gM 128 125 false 11, ⟨some 129, (some (125, false)), .bin .neq (.t 127) (.t 128)⟩, oT 130 125 129])
  (.cond (.t 130)
  (.seq (.ops [⟨some 10, none, .mov (.c (.bool false))⟩])
  .ret)
  .skip))
  (.seq (.seq (.ops [oM 131 11, ⟨some 132, none, .bin .eql (.t 131) (.c (.int .i64 0))⟩])
  (.cond (.t 132)
  (.seq (.ops [⟨some 10, none, .mov (.c (.bool true))⟩])
  .ret)
  .skip))
  (.seq (.ops [oM 134 12, oM 135 4, ⟨some 136, none, .callF false 18 [(.t 134), (.c (.str ⟨#[1]⟩)), (.t 135)]⟩, oM 133 136, oE 137 133 0, oE 138 133 1, ⟨some 21, none, .alloc true z_2 49⟩, oS 3 21 137, oM 22 138])
  (.seq (.seq (.ops [oM 139 12, ⟨some 140, none, .callM 23 [(.t 139), (.c (.str ⟨#[1]⟩)), (.c (.bool false))]⟩, ⟨some 141, none, .un .not (.t 140)⟩])
  (.cond (.t 141)
  (.seq (.ops [⟨some 10, none, .mov (.c (.bool false))⟩])
  .ret)
  .skip))
  (.seq (.ops [oM 143 12, oM 144 4, oM 145 4, ⟨some 146, none, .bin .add (.t 145) (.c (.int .u64 9))⟩, ⟨some 147, none, .callM 19 [(.t 143), (.c (.str ⟨#[122]⟩)), (.c (.int .u32 0)), (.t 144), (.t 146)]⟩, oM 142 147, oE 148 142 0, oE 149 142 1, oM 23 148, oM 24 149])
  (.seq (.ops [oM 150 24, ⟨some 151, none, .bin .eql (.t 150) (.c (.int .i64 0))⟩, oM 152 151, gM 153 152 true 23, gF 154 152 true 0 21, gL 155 152 true 154, ⟨some 156, (some (152, true)), .bin .eql (.t 153) (.t 155)⟩, oN 157 152 156, oM 10 157])
  .ret))))))))))))))))⟩
/- vizard/vizardlaw25.alive -/
def A7_r0 : C := (.seq (.ops [oM 27 100])
  (.ops [⟨some 28, none, .alloc true z_2 49⟩, oS 3 28 101]))
def R7_r0 : C := (.block 1 (some [0, 26, 27, 28]) (.seq (.seq (.ops [oL 102 26, ⟨some 103, none, .bin .eql (.t 102) (.c (.int .i64 0))⟩, oM 104 103, gM 105 104 true 27, ⟨some 106, (some (104, true)), .bin .neq (.t 105) (.c (.str ⟨#[97]⟩))⟩, gM 107 104 true 106, ⟨some 108, (some (107, false)), .load true 3 (.t 28)⟩, ⟨some 109, (some (107, false)), .build z_2 [(0, 1, (.c (.int .u32 10))), (1, 1, (.c (.bool true))), (2, 1, (.c (.int .u64 200)))]⟩, ⟨some 110, (some (107, false)), .eqS true [1, 0, 1] (.t 108) (.t 109)⟩, ⟨some 111, (some (104, true)), .pick (.t 107) (.c (.bool true)) (.t 110)⟩, oN 112 104 111])
  (.cond (.t 112)
  (.seq (.ops [⟨none, none, .store 1 (.t 0) (.c (.bool false))⟩])
  .ret)
  .skip))
  (.ops [oL 113 26, ⟨some 114, none, .bin .add (.t 113) (.c (.int .i64 1))⟩, oS 1 26 114])))
noncomputable def T7_r0 (E : Env) (o : Out) : Option (AV × Heap) := outR [(0, some (false, 1))] (andThen (endBlock 0 (some [0, 1, 5, 6, 7, 8, 10, 12, 13, 14, 15, 16, 18, 19, 20, 21, 22, 23, 24, 25, 26, 99]) (o)) (ev E (.seq (.ops [oM 115 6, ⟨some 116, none, .bin .eql (.t 115) (.c (.int .i64 0))⟩, oM 117 116, gM 118 117 true 5, ⟨some 119, (some (117, true)), .bin .eql (.t 118) (.c (.int .u32 10))⟩, oN 120 117 119, oM 121 120, gM 122 121 true 8, ⟨some 123, (some (121, true)), .bin .eql (.t 122) (.c (.int .i64 0))⟩, oN 124 121 123, oM 125 124, gM 126 125 true 7, ⟨some 127, (some (125, true)), .bin .eql (.t 126) (.c (.int .u32 12))⟩, oN 128 125 127, oM 129 128, gM 130 129 true 10, ⟨some 131, (some (129, true)), .bin .eql (.t 130) (.c (.int .i64 18))⟩, oN 132 129 131, oM 133 132, gM 134 133 true 12, ⟨some 135, (some (133, true)), .bin .eql (.t 134) (.c (.int .i64 10))⟩, oN 136 133 135, oM 137 136, gM 138 137 true 13, ⟨some 139, (some (137, true)), .bin .eql (.t 138) (.c (.int .i64 0))⟩, oN 140 137 139, oM 141 140, gM 142 141 true 14, ⟨some 143, (some (141, true)), .bin .eql (.t 142) (.c (.int .i64 17))⟩, oN 144 141 143, oM 145 144, gM 146 145 true 16, oN 147 145 146, oM 148 147, gF 149 148 true 1 15, gL 150 148 true 149, oN 151 148 150, oM 152 151, gM 153 152 true 18, ⟨some 154, (some (152, true)), .un .not (.t 153)⟩, oN 155 152 154, oM 156 155, gM 157 156 true 20, ⟨some 158, (some (156, true)), .bin .eql (.t 157) (.c (.int .i64 0))⟩, oN 159 156 158, oM 160 159, gM 161 160 true 21, ⟨some 162, (some (160, true)), .un .not (.t 161)⟩, oN 163 160 162, oM 164 163, gM 165 164 true 22, oN 166 164 165, oM 167 166, gM 168 167 true 23, ⟨some 169, (some (167, true)), .un .not (.t 168)⟩, oN 170 167 169, oM 171 170, gM 172 171 true 24, oN 173 171 172, oM 174 173, gM 175 174 true 25, ⟨some 176, (some (174, true)), .bin .eql (.t 175) (.c (.int .i64 1))⟩, oN 177 174 176, oM 178 177, gL 179 178 true 26, ⟨some 180, (some (178, true)), .bin .eql (.t 179) (.c (.int .i64 2))⟩, oN 181 178 180, oM 182 181, gM 183 182 true 19, ⟨some 184, (some (182, true)), .callF false 22 [(.t 183)]⟩, ⟨some 185, (some (182, true)), .bin .eql (.t 184) (.c (.int .i64 2))⟩, oN 186 182 185, oM 187 186, gM 188 187 true 1, ⟨some 189, (some (187, true)), .callF false 22 [(.t 188)]⟩, ⟨some 190, (some (187, true)), .bin .eql (.t 189) (.c (.int .i64 0))⟩, oN 191 187 190, oM 192 191, gM 193 192 true 1, ⟨some 194, (some (192, true)), .callF false 26 [(.t 193)]⟩, ⟨some 195, (some (192, true)), .len (.t 194)⟩, ⟨some 196, (some (192, true)), .bin .eql (.t 195) (.c (.int .i64 0))⟩, oN 197 192 196, oS 1 0 197])
  .ret)))
def I7 : Fn_ := ⟨0, 198, [(0, some (false, 1))],
  (.seq (.ops [⟨some 0, none, .alloc false [(.bool false)] 4⟩])
  (.seq (.ops [⟨some 30, none, .buildR 1 22 [(.c (.int .u32 11))]⟩, ⟨some 31, none, .callM 9 [(.c (.int .u32 10)), (.c (.int .u32 12)), (.t 30)]⟩, oM 29 31, oE 32 29 0, oE 33 29 1, oM 1 32, oM 2 33])
  (.seq (.ops [⟨some 35, none, .callM 9 [(.c (.int .u32 10)), (.c (.int .u32 9)), (.c .nils)]⟩, oM 34 35, oE 36 34 0, oE 37 34 1, oM 3 36, oM 4 37])
  (.seq (.seq (.ops [oM 38 1, ⟨some 39, none, .eqNl false false (.t 38)⟩, oM 40 39, gM 41 40 false 2, ⟨some 42, (some (40, false)), .bin .neq (.t 41) (.c (.int .i64 0))⟩, oT 43 40 42, oM 44 43, gM 45 44 false 4, ⟨some 46, (some (44, false)), .bin .neq (.t 45) (.c (.int .i64 11))⟩, oT 47 44 46])
  (.cond (.t 47)
  (.seq (.ops [⟨none, none, .store 1 (.t 0) (.c (.bool false))⟩])
  .ret)
  .skip))
  (.seq (.ops [oM 49 1, ⟨some 50, none, .callM 19 [(.t 49), (.c (.str ⟨#[97]⟩)), (.c (.int .u32 0)), (.c (.int .u64 100)), (.c (.int .u64 110))]⟩, oM 48 50, oE 51 48 0, oE 52 48 1, oM 5 51, oM 6 52])
  (.seq (.ops [oM 54 1, ⟨some 55, none, .callM 19 [(.t 54), (.c (.str ⟨#[98]⟩)), (.c (.int .u32 10)), (.c (.int .u64 100)), (.c (.int .u64 110))]⟩, oM 53 55, oE 56 53 0, oE 57 53 1, oM 7 56, oM 8 57])
  (.seq (.ops [oM 59 1, ⟨some 60, none, .callM 19 [(.t 59), (.c (.str ⟨#[99]⟩)), (.c (.int .u32 10)), (.c (.int .u64 100)), (.c (.int .u64 110))]⟩, oM 58 60, oE 61 58 0, oE 62 58 1, oM 9 61, oM 10 62])
  (.seq (.ops [oM 64 1, ⟨some 65, none, .callM 19 [(.t 64), (.c (.str ⟨#[]⟩)), (.c (.int .u32 10)), (.c (.int .u64 100)), (.c (.int .u64 110))]⟩, oM 63 65, oE 66 63 0, oE 67 63 1, oM 11 66, oM 12 67])
  (.seq (.ops [oM 68 1, ⟨some 69, none, .callM 20 [(.t 68), (.c (.str ⟨#[97]⟩)), (.c (.int .u32 10)), (.c (.int .u64 101)), (.c (.int .u64 200))]⟩, oM 13 69])
  (.seq (.ops [oM 70 1, ⟨some 71, none, .callM 20 [(.t 70), (.c (.str ⟨#[98]⟩)), (.c (.int .u32 10)), (.c (.int .u64 101)), (.c (.int .u64 200))]⟩, oM 14 71])
  (.seq (.ops [oM 73 1, ⟨some 74, none, .callF false 18 [(.t 73), (.c (.str ⟨#[97]⟩)), (.c (.int .u64 199))]⟩, oM 72 74, oE 75 72 0, oE 76 72 1, ⟨some 15, none, .alloc true z_2 49⟩, oS 3 15 75, oM 16 76])
  (.seq (.ops [oM 78 1, ⟨some 79, none, .callF false 18 [(.t 78), (.c (.str ⟨#[97]⟩)), (.c (.int .u64 200))]⟩, oM 77 79, oE 80 77 0, oE 81 77 1, ⟨some 17, none, .alloc true z_2 49⟩, oS 3 17 80, oM 18 81])
  (.seq (.ops [oM 82 1, ⟨some 83, none, .callM 13 [(.t 82)]⟩, oM 19 83])
  (.seq (.ops [oM 84 1, ⟨some 85, none, .callM 21 [(.t 84), (.c (.str ⟨#[97]⟩)), (.c (.int .u32 10)), (.c (.int .u64 150)), (.c (.int .u64 300))]⟩, oM 20 85])
  (.seq (.ops [oM 86 1, ⟨some 87, none, .callF false 14 [(.t 86), (.c (.int .u32 10)), (.c (.int .u64 299))]⟩, oM 21 87])
  (.seq (.ops [oM 88 1, ⟨some 89, none, .callF false 14 [(.t 88), (.c (.int .u32 10)), (.c (.int .u64 300))]⟩, oM 22 89])
  (.seq (.ops [oM 90 1, ⟨some 91, none, .callM 23 [(.t 90), (.c (.str ⟨#[98]⟩)), (.c (.bool true))]⟩, oM 23 91])
  (.seq (.ops [oM 92 1, ⟨some 93, none, .callM 23 [(.t 92), (.c (.str ⟨#[98]⟩)), (.c (.bool false))]⟩, oM 24 93])
  (.seq (.ops [oM 94 1, ⟨some 95, none, .callM 24 [(.t 94), (.c (.int .u64 300))]⟩, oM 25 95])
  (.seq (.seq (.ops [oM 96 19, ⟨some 97, none, .eqNl false false (.t 96)⟩])
  (.cond (.t 97)
  (.seq (.ops [⟨none, none, .store 1 (.t 0) (.c (.bool false))⟩])
  .ret)
  .skip))
  (.seq (.ops [⟨some 26, none, .alloc false [(.int .i64 0)] 3⟩, ⟨none, none, .store 1 (.t 26) (.c (.int .i64 0))⟩])
  (.seq (.seq (.ops [oM 98 19, ⟨some 99, none, .callM 25 [(.t 98)]⟩])
  (.block 0 (some [0, 1, 5, 6, 7, 8, 10, 12, 13, 14, 15, 16, 18, 19, 20, 21, 22, 23, 24, 25, 26, 99]) (.rangeF (.t 99) [100, 101] A7_r0 R7_r0)))
  (.seq (.ops [oM 115 6, ⟨some 116, none, .bin .eql (.t 115) (.c (.int .i64 0))⟩, oM 117 116, gM 118 117 true 5, ⟨some 119, (some (117, true)), .bin .eql (.t 118) (.c (.int .u32 10))⟩, oN 120 117 119, oM 121 120, gM 122 121 true 8, ⟨some 123, (some (121, true)), .bin .eql (.t 122) (.c (.int .i64 0))⟩, oN 124 121 123, oM 125 124, gM 126 125 true 7, ⟨some 127, (some (125, true)), .bin .eql (.t 126) (.c (.int .u32 12))⟩, oN 128 125 127, oM 129 128, gM 130 129 true 10, ⟨some 131, (some (129, true)), .bin .eql (.t 130) (.c (.int .i64 18))⟩, oN 132 129 131, oM 133 132, gM 134 133 true 12, ⟨some 135, (some (133, true)), .bin .eql (.t 134) (.c (.int .i64 10))⟩, oN 136 133 135, oM 137 136, gM 138 137 true 13, ⟨some 139, (some (137, true)), .bin .eql (.t 138) (.c (.int .i64 0))⟩, oN 140 137 139, oM 141 140, gM 142 141 true 14, ⟨some 143, (some (141, true)), .bin .eql (.t 142) (.c (.int .i64 17))⟩, oN 144 141 143, oM 145 144, gM 146 145 true 16, oN 147 145 146, oM 148 147, gF 149 148 true 1 15, gL 150 148 true 149, oN 151 148 150, oM 152 151, gM 153 152 true 18, ⟨some 154, (some (152, true)), .un .not (.t 153)⟩, oN 155 152 154, oM 156 155, gM 157 156 true 20, ⟨some 158, (some (156, true)), .bin .eql (.t 157) (.c (.int .i64 0))⟩, oN 159 156 158, oM 160 159, gM 161 160 true 21, ⟨some 162, (some (160, true)), .un .not (.t 161)⟩, oN 163 160 162, oM 164 163, gM 165 164 true 22, oN 166 164 165, oM 167 166, gM 168 167 true 23, ⟨some 169, (some (167, true)), .un .not (.t 168)⟩, oN 170 167 169, oM 171 170, gM 172 171 true 24, oN 173 171 172, oM 174 173, gM 175 174 true 25, ⟨some 176, (some (174, true)), .bin .eql (.t 175) (.c (.int .i64 1))⟩, oN 177 174 176, oM 178 177, gL 179 178 true 26, ⟨some 180, (some (178, true)), .bin .eql (.t 179) (.c (.int .i64 2))⟩, oN 181 178 180, oM 182 181, gM 183 182 true 19, ⟨some 184, (some (182, true)), .callF false 22 [(.t 183)]⟩, ⟨some 185, (some (182, true)), .bin .eql (.t 184) (.c (.int .i64 2))⟩, oN 186 182 185, oM 187 186, gM 188 187 true 1, ⟨some 189, (some (187, true)), .callF false 22 [(.t 188)]⟩, ⟨some 190, (some (187, true)), .bin .eql (.t 189) (.c (.int .i64 0))⟩, oN 191 187 190, oM 192 191, gM 193 192 true 1, ⟨some 194, (some (192, true)), .callF false 26 [(.t 193)]⟩, ⟨some 195, (some (192, true)), .len (.t 194)⟩, ⟨some 196, (some (192, true)), .bin .eql (.t 195) (.c (.int .i64 0))⟩, oN 197 192 196, oS 1 0 197])
  .ret)))))))))))))))))))))))⟩
/- vizard/vizardlaw25.great -/
def B8_0 : C := (.seq (.seq (.ops [oM 7 3, oM 8 0, ⟨some 9, none, .len (.t 8)⟩, ⟨some 10, none, .bin .lss (.t 7) (.t 9)⟩])
  (.cond (.t 10)
  .skip
  (.exit 0)))
  (.seq (.block 1 (some [0, 3]) (.seq (.ops [oM 13 0, oM 14 3, ⟨some 15, none, .iaddr 6 (.t 13) (.t 14)⟩, oF 16 1 15, oL 17 16, ⟨some 18, none, .lenS (.t 17)⟩, ⟨some 19, none, .bin .gtr (.t 18) (.c (.int .i64 300))⟩])
  (.cond (.t 19)
  (.seq (.ops [⟨some 2, none, .mov (.c (.bool true))⟩])
  .ret)
  .skip)))
  (.ops [oM 11 3, ⟨some 12, none, .bin .add (.t 11) (.c (.int .i64 1))⟩, oM 3 12])))
def L8_0 : C := .loop (some [0, 3]) B8_0
theorem L8_0_eq {E : Env} (x : St) : ev E L8_0 x = andThen (ev E B8_0 (restr (some [0, 3]) x)) (ev E L8_0) := ev_loop _ _ x
theorem L8_0_lp {E : Env} (s : Slots) (h : Heap) : ev E L8_0 ⟨s, h⟩ = lp E L8_0 (pickS s [0, 3]) h := lp_of L8_0_eq s h
theorem L8_0_go {E : Env} (s : Slots) (h : Heap) : lp E L8_0 s h = andThen (ev E B8_0 ⟨pickS s [0, 3], h⟩) (ev E L8_0) := lp_go L8_0_eq s h
noncomputable def T8_0 (E : Env) (o : Out) : Option (AV × Heap) := outR [(2, none)] (andThen (endBlock 0 (some [0, 3]) (o)) (ev E (.seq (.ops [⟨some 2, none, .mov (.c (.bool false))⟩])
  .ret)))
def I8 : Fn_ := ⟨1, 20, [(2, none)],
  (.seq (.ops [⟨some 2, none, .mov (.c (.bool false))⟩])
  (.seq (.seq (.ops [oM 4 0, ⟨some 5, none, .len (.t 4)⟩, ⟨some 6, none, .bin .gtr (.t 5) (.c (.int .i64 100))⟩])
  (.cond (.t 6)
  (.seq (.ops [⟨some 2, none, .mov (.c (.bool true))⟩])
  .ret)
  .skip))
  (.seq (.seq (.ops [⟨some 3, none, .mov (.c (.int .i64 0))⟩])
  (.block 0 (some [0, 3]) L8_0))
  (.seq (.ops [⟨some 2, none, .mov (.c (.bool false))⟩])
  .ret))))⟩
/- vizard/lease.New -/
def B9_0 : C := (.seq (.ops [⟨some 30, none, .bin .lss (.t 29) (.t 28)⟩])
  (.seq (.cond (.t 30)
  .skip
  (.exit 0))
  (.seq (.block 1 (some [8, 27, 28, 29]) (.seq (.ops [⟨some 31, none, .iaddr 1 (.t 27) (.t 29)⟩, oL 32 31, oM 10 32])
  (.ops [oM 33 8, ⟨some 34, none, .nilChk (.t 33)⟩, oF 35 2 34, oL 36 35, oM 37 10, ⟨none, none, .mapUpd (.int .u32) (.t 36) (.t 37) (.c (.bool true))⟩])))
  (.ops [⟨some 38, none, .bin .add (.t 29) (.c (.int .i64 1))⟩, oM 29 38]))))
def L9_0 : C := .loop (some [8, 27, 28, 29]) B9_0
theorem L9_0_eq {E : Env} (x : St) : ev E L9_0 x = andThen (ev E B9_0 (restr (some [8, 27, 28, 29]) x)) (ev E L9_0) := ev_loop _ _ x
theorem L9_0_lp {E : Env} (s : Slots) (h : Heap) : ev E L9_0 ⟨s, h⟩ = lp E L9_0 (pickS s [8, 27, 28, 29]) h := lp_of L9_0_eq s h
theorem L9_0_go {E : Env} (s : Slots) (h : Heap) : lp E L9_0 s h = andThen (ev E B9_0 ⟨pickS s [8, 27, 28, 29], h⟩) (ev E L9_0) := lp_go L9_0_eq s h
noncomputable def T9_0 (E : Env) (o : Out) : Option (AV × Heap) := outR [(6, none), (7, none)] (andThen (endBlock 0 (some [8, 27, 28, 29]) (o)) (ev E (.seq (.ops [oM 39 8, oM 6 39, ⟨some 7, none, .mov (.c (.int .i64 0))⟩])
  .ret)))
def I9 : Fn_ := ⟨3, 40, [(6, none), (7, none)],
  (.seq (.ops [⟨some 6, none, .mov (.c .nilp)⟩, ⟨some 7, none, .mov (.c (.int .i64 0))⟩])
  (.seq (.seq (.ops [oM 11 1, oM 12 0, ⟨some 13, none, .bin .lss (.t 11) (.t 12)⟩, oM 14 13, gM 15 14 false 1, gM 16 14 false 0, ⟨some 17, (some (14, false)), .bin .sub (.t 15) (.t 16)⟩, ⟨some 18, (some (14, false)), .bin .geq (.t 17) (.c (.int .u32 256))⟩, oT 19 14 18])
  (.cond (.t 19)
  (.seq (.ops [⟨some 6, none, .mov (.c .nilp)⟩, ⟨some 7, none, .mov (.c (.int .i64 11))⟩])
  .ret)
  .skip))
  (.seq (.ops [oM 20 0, oM 21 1, ⟨some 22, none, .mkMap (.int .u32)⟩, ⟨some 23, none, .mkMap .str⟩, ⟨some 24, none, .mkMap (.int .u32)⟩, ⟨some 25, none, .build z_3 [(0, 1, (.t 20)), (1, 1, (.t 21)), (2, 1, (.t 22)), (3, 1, (.t 23)), (4, 1, (.t 24))]⟩, ⟨some 26, none, .box true 69 (.t 25)⟩, oM 8 26])
  (.seq (.seq (.ops [oM 27 2, ⟨some 28, none, .len (.t 27)⟩, ⟨some 29, none, .mov (.c (.int .i64 0))⟩])
  (.block 0 (some [8, 27, 28, 29]) L9_0))
  (.seq (.ops [oM 39 8, oM 6 39, ⟨some 7, none, .mov (.c (.int .i64 0))⟩])
  .ret)))))⟩
/- vizard/vizardref25.New -/
def I10 : Fn_ := ⟨3, 24, [(6, none), (7, none)],
  (.seq (.ops [⟨some 6, none, .mov (.c .nilp)⟩, ⟨some 7, none, .mov (.c (.int .i64 0))⟩])
  (.seq (.seq (.ops [oM 8 1, oM 9 0, ⟨some 10, none, .bin .lss (.t 8) (.t 9)⟩, oM 11 10, gM 12 11 false 1, gM 13 11 false 0, ⟨some 14, (some (11, false)), .bin .sub (.t 12) (.t 13)⟩, ⟨some 15, (some (11, false)), .bin .gtr (.t 14) (.c (.int .u32 255))⟩, oT 16 11 15])
  (.cond (.t 16)
  (.seq (.ops [⟨some 6, none, .mov (.c .nilp)⟩, ⟨some 7, none, .mov (.c (.int .i64 11))⟩])
  .ret)
  .skip))
  (.seq (.ops [oM 17 0, oM 18 1, ⟨some 19, none, .buildSl 1 22 []⟩, oM 20 2, ⟨some 21, none, .append 1 4 22 (.t 19) (.t 20)⟩, ⟨some 22, none, .build z_1 [(0, 1, (.t 17)), (1, 1, (.t 18)), (2, 1, (.t 21))]⟩, ⟨some 23, none, .box true 46 (.t 22)⟩, oM 6 23, ⟨some 7, none, .mov (.c (.int .i64 0))⟩])
  .ret)))⟩
/- vizard/vizardlaw25.Do -/
def I11 : Fn_ := ⟨3, 169, [(6, none)],
  (.seq (.ops [⟨some 5, none, .boxR true 6 27 (.t 2)⟩, ⟨some 6, none, .mov (.c (.bool false))⟩])
  (.seq (.seq (.ops [oF 15 0 5, oL 16 15])
  (.block 0 (some [0, 1, 5, 16]) (.seq (.ops [⟨some 18, none, .bin .eql (.t 16) (.c (.int .i64 0))⟩, oM 17 18])
  (.cond (.t 17)
  (.seq (.ops [oM 20 0, oF 21 1 5, oL 22 21, oF 23 2 5, oL 24 23, oF 25 3 5, oL 26 25, oF 27 4 5, oL 28 27, ⟨some 29, none, .callM 19 [(.t 20), (.t 22), (.t 24), (.t 26), (.t 28)]⟩, oM 19 29, oE 30 19 0, oE 31 19 1, oM 7 30, oM 8 31])
  (.seq (.ops [oM 33 1, oF 34 1 5, oL 35 34, oF 36 2 5, oL 37 36, oF 38 3 5, oL 39 38, oF 40 4 5, oL 41 40, ⟨some 42, none, .callM 27 [(.t 33), (.t 35), (.t 37), (.t 39), (.t 41)]⟩, oM 32 42, oE 43 32 0, oE 44 32 1, oM 9 43, oM 10 44])
  (.seq (.ops [oM 45 7, oM 46 9, ⟨some 47, none, .bin .eql (.t 45) (.t 46)⟩, oM 48 47, gM 49 48 true 8, gM 50 48 true 10, ⟨some 51, (some (48, true)), .bin .eql (.t 49) (.t 50)⟩, oN 52 48 51, oM 6 52])
  .ret)))
  (.seq (.ops [⟨some 54, none, .bin .eql (.t 16) (.c (.int .i64 1))⟩, oM 53 54])
  (.cond (.t 53)
  (.seq (.ops [oM 55 0, oF 56 1 5, oL 57 56, oF 58 2 5, oL 59 58, oF 60 3 5, oL 61 60, oF 62 4 5, oL 63 62, ⟨some 64, none, .callM 20 [(.t 55), (.t 57), (.t 59), (.t 61), (.t 63)]⟩, oM 65 1, oF 66 1 5, ⟨some 67, none, .loadR false 1 (.t 66)⟩, oF 68 2 5, ⟨some 69, none, .loadR false 1 (.t 68)⟩, oF 70 3 5, ⟨some 71, none, .loadR false 1 (.t 70)⟩, oF 72 4 5, ⟨some 73, none, .loadR false 1 (.t 72)⟩, ⟨some 74, none, .callM 28 [(.t 65), (.t 67), (.t 69), (.t 71), (.t 73)]⟩, ⟨some 75, none, .bin .eql (.t 64) (.t 74)⟩, oM 6 75])
  .ret)
  (.seq (.ops [⟨some 77, none, .bin .eql (.t 16) (.c (.int .i64 2))⟩, oM 76 77])
  (.cond (.t 76)
  (.seq (.ops [oM 78 0, oF 79 1 5, oL 80 79, oF 81 5 5, oL 82 81, ⟨some 83, none, .callM 23 [(.t 78), (.t 80), (.t 82)]⟩, oM 84 1, oF 85 1 5, ⟨some 86, none, .loadR false 1 (.t 85)⟩, oF 87 5 5, ⟨some 88, none, .loadR false 1 (.t 87)⟩, ⟨some 89, none, .callM 29 [(.t 84), (.t 86), (.t 88)]⟩, ⟨some 90, none, .binB .eql (.t 83) (.t 89)⟩, oM 6 90])
  .ret)
  (.seq (.ops [⟨some 92, none, .bin .eql (.t 16) (.c (.int .i64 3))⟩, oM 91 92])
  (.cond (.t 91)
  (.seq (.ops [oM 93 0, oF 94 1 5, oL 95 94, oF 96 2 5, oL 97 96, oF 98 3 5, oL 99 98, oF 100 4 5, oL 101 100, ⟨some 102, none, .callM 21 [(.t 93), (.t 95), (.t 97), (.t 99), (.t 101)]⟩, oM 103 1, oF 104 1 5, ⟨some 105, none, .loadR false 1 (.t 104)⟩, oF 106 2 5, ⟨some 107, none, .loadR false 1 (.t 106)⟩, oF 108 3 5, ⟨some 109, none, .loadR false 1 (.t 108)⟩, oF 110 4 5, ⟨some 111, none, .loadR false 1 (.t 110)⟩, ⟨some 112, none, .callM 30 [(.t 103), (.t 105), (.t 107), (.t 109), (.t 111)]⟩, ⟨some 113, none, .bin .eql (.t 102) (.t 112)⟩, oM 6 113])
  .ret)
  (.seq (.ops [⟨some 115, none, .bin .eql (.t 16) (.c (.int .i64 4))⟩, oM 114 115])
  (.cond (.t 114)
  (.seq (.ops [oM 116 0, oF 117 3 5, oL 118 117, ⟨some 119, none, .callM 24 [(.t 116), (.t 118)]⟩, oM 120 1, oF 121 3 5, ⟨some 122, none, .loadR false 1 (.t 121)⟩, ⟨some 123, none, .callM 31 [(.t 120), (.t 122)]⟩, ⟨some 124, none, .bin .eql (.t 119) (.t 123)⟩, oM 6 124])
  .ret)
  (.seq (.ops [⟨some 126, none, .bin .eql (.t 16) (.c (.int .i64 5))⟩, oM 125 126])
  (.cond (.t 125)
  (.seq (.ops [oM 128 0, oF 129 1 5, oL 130 129, oF 131 3 5, oL 132 131, ⟨some 133, none, .callF false 18 [(.t 128), (.t 130), (.t 132)]⟩, oM 127 133, oE 134 127 0, oE 135 127 1, ⟨some 11, none, .alloc true z_2 49⟩, oS 3 11 134, oM 12 135])
  (.seq (.ops [oM 137 1, oF 138 1 5, oL 139 138, oF 140 3 5, oL 141 140, ⟨some 142, none, .callF false 32 [(.t 137), (.t 139), (.t 141)]⟩, oM 136 142, oE 143 136 0, oE 144 136 1, ⟨some 13, none, .alloc true [(.str ⟨#[]⟩), (.int .u32 0), (.bool false), (.int .u64 0)] 71⟩, oS 4 13 143, oM 14 144])
  (.seq (.ops [oM 145 12, oM 146 14, ⟨some 147, none, .binB .eql (.t 145) (.t 146)⟩, oM 148 147, gF 149 148 true 0 11, gL 150 148 true 149, gF 151 148 true 1 13, gL 152 148 true 151, ⟨some 153, (some (148, true)), .bin .eql (.t 150) (.t 152)⟩, oN 154 148 153, oM 155 154, gF 156 155 true 1 11, gL 157 155 true 156, gF 158 155 true 2 13, gL 159 155 true 158, ⟨some 160, (some (155, true)), .binB .eql (.t 157) (.t 159)⟩, oN 161 155 160, oM 162 161, gF 163 162 true 2 11, gL 164 162 true 163, gF 165 162 true 3 13, gL 166 162 true 165, ⟨some 167, (some (162, true)), .bin .eql (.t 164) (.t 166)⟩, oN 168 162 167, oM 6 168])
  .ret)))
  .skip))))))))))))))
  (.seq (.ops [⟨some 6, none, .mov (.c (.bool true))⟩])
  .ret)))⟩
/- vizard/vizardlaw25.Agree -/
def A12_r0 : C := (.seq (.ops [oM 8 51])
  (.ops [⟨some 9, none, .alloc true z_2 49⟩, oS 3 9 52]))
def R12_r0 : C := (.block 3 (some [3, 4, 7, 8, 9]) (.seq (.seq (.ops [oL 53 7, oL 54 3, ⟨some 55, none, .nilChk (.t 54)⟩, oF 56 3 55, oL 57 56, ⟨some 58, none, .len (.t 57)⟩, ⟨some 59, none, .bin .geq (.t 53) (.t 58)⟩, oM 60 59, gM 61 60 false 8, gL 62 60 false 3, ⟨some 63, (some (60, false)), .nilChk (.t 62)⟩, gF 64 60 false 3 63, gL 65 60 false 64, gL 66 60 false 7, ⟨some 67, (some (60, false)), .iaddr 4 (.t 65) (.t 66)⟩, gF 68 60 false 0 67, gL 69 60 false 68, ⟨some 70, (some (60, false)), .bin .neq (.t 61) (.t 69)⟩, oT 71 60 70, oM 72 71, gF 73 72 false 0 9, gL 74 72 false 73, gL 75 72 false 3, ⟨some 76, (some (72, false)), .nilChk (.t 75)⟩, gF 77 72 false 3 76, gL 78 72 false 77, gL 79 72 false 7, ⟨some 80, (some (72, false)), .iaddr 4 (.t 78) (.t 79)⟩, gF 81 72 false 1 80, gL 82 72 false 81, ⟨some 83, (some (72, false)), .bin .neq (.t 74) (.t 82)⟩, oT 84 72 83, oM 85 84, gF 86 85 false 1 9, gL 87 85 false 86, gL 88 85 false 3, ⟨some 89, (some (85, false)), .nilChk (.t 88)⟩, gF 90 85 false 3 89, gL 91 85 false 90, gL 92 85 false 7, ⟨some 93, (some (85, false)), .iaddr 4 (.t 91) (.t 92)⟩, gF 94 85 false 2 93, gL 95 85 false 94, ⟨some 96, (some (85, false)), .binB .neq (.t 87) (.t 95)⟩, oT 97 85 96, oM 98 97, gF 99 98 false 2 9, gL 100 98 false 99, gL 101 98 false 3, ⟨some 102, (some (98, false)), .nilChk (.t 101)⟩, gF 103 98 false 3 102, gL 104 98 false 103, gL 105 98 false 7, ⟨some 106, (some (98, false)), .iaddr 4 (.t 104) (.t 105)⟩, gF 107 98 false 3 106, gL 108 98 false 107, ⟨some 109, (some (98, false)), .bin .neq (.t 100) (.t 108)⟩, oT 110 98 109])
  (.cond (.t 110)
  (.seq (.ops [⟨none, none, .store 1 (.t 4) (.c (.bool false))⟩])
  .ret)
  .skip))
  (.ops [oL 111 7, ⟨some 112, none, .bin .add (.t 111) (.c (.int .i64 1))⟩, oS 1 7 112])))
def B12_0 : C := (.seq (.seq (.ops [oM 30 6, oM 31 5, ⟨some 32, none, .len (.t 31)⟩, ⟨some 33, none, .bin .lss (.t 30) (.t 32)⟩])
  (.cond (.t 33)
  .skip
  (.exit 0)))
  (.seq (.block 1 (some [0, 3, 4, 5, 6]) (.seq (.ops [oM 36 5, oM 37 6, ⟨some 38, none, .iaddr 1 (.t 36) (.t 37)⟩, oL 39 38, oL 40 3, ⟨some 41, none, .nilChk (.t 40)⟩, oF 42 4 41, oL 43 42, oM 44 6, ⟨some 45, none, .iaddr 2 (.t 43) (.t 44)⟩, oF 46 0 45, oL 47 46, ⟨some 48, none, .bin .neq (.t 39) (.t 47)⟩])
  (.cond (.t 48)
  (.seq (.ops [⟨none, none, .store 1 (.t 4) (.c (.bool false))⟩])
  .ret)
  .skip)))
  (.ops [oM 34 6, ⟨some 35, none, .bin .add (.t 34) (.c (.int .i64 1))⟩, oM 6 35])))
def L12_0 : C := .loop (some [0, 3, 4, 5, 6]) B12_0
theorem L12_0_eq {E : Env} (x : St) : ev E L12_0 x = andThen (ev E B12_0 (restr (some [0, 3, 4, 5, 6]) x)) (ev E L12_0) := ev_loop _ _ x
theorem L12_0_lp {E : Env} (s : Slots) (h : Heap) : ev E L12_0 ⟨s, h⟩ = lp E L12_0 (pickS s [0, 3, 4, 5, 6]) h := lp_of L12_0_eq s h
theorem L12_0_go {E : Env} (s : Slots) (h : Heap) : lp E L12_0 s h = andThen (ev E B12_0 ⟨pickS s [0, 3, 4, 5, 6], h⟩) (ev E L12_0) := lp_go L12_0_eq s h
noncomputable def T12_r0 (E : Env) (o : Out) : Option (AV × Heap) := outR [(4, some (false, 1))] (andThen (endBlock 2 (some [3, 4, 7, 50]) (o)) (ev E (.seq (.ops [oL 113 7, oL 114 3, ⟨some 115, none, .nilChk (.t 114)⟩, oF 116 3 115, oL 117 116, ⟨some 118, none, .len (.t 117)⟩, ⟨some 119, none, .bin .eql (.t 113) (.t 118)⟩, oS 1 4 119])
  .ret)))
noncomputable def T12_0 (E : Env) (o : Out) : Option (AV × Heap) := outR [(4, some (false, 1))] (andThen (endBlock 0 (some [0, 3, 4, 5, 6]) (o)) (ev E (.seq (.ops [⟨some 7, none, .alloc false [(.int .i64 0)] 3⟩, ⟨none, none, .store 1 (.t 7) (.c (.int .i64 0))⟩])
  (.seq (.seq (.ops [oM 49 0, ⟨some 50, none, .callM 25 [(.t 49)]⟩])
  (.block 2 (some [3, 4, 7, 50]) (.rangeF (.t 50) [51, 52] A12_r0 R12_r0)))
  (.seq (.ops [oL 113 7, oL 114 3, ⟨some 115, none, .nilChk (.t 114)⟩, oF 116 3 115, oL 117 116, ⟨some 118, none, .len (.t 117)⟩, ⟨some 119, none, .bin .eql (.t 113) (.t 118)⟩, oS 1 4 119])
  .ret)))))
def I12 : Fn_ := ⟨2, 120, [(4, some (false, 1))],
  (.seq (.ops [⟨some 3, none, .box false 34 (.t 1)⟩, ⟨some 4, none, .alloc false [(.bool false)] 4⟩])
  (.seq (.ops [oM 10 0, ⟨some 11, none, .callF false 26 [(.t 10)]⟩, oM 5 11])
  (.seq (.seq (.ops [oM 12 0, ⟨some 13, none, .callF true 22 [(.t 12)]⟩, oL 14 3, ⟨some 15, none, .nilChk (.t 14)⟩, oF 16 3 15, oL 17 16, ⟨some 18, none, .len (.t 17)⟩, ⟨some 19, none, .bin .neq (.t 13) (.t 18)⟩, oM 20 19, gM 21 20 false 5, ⟨some 22, (some (20, false)), .len (.t 21)⟩, gL 23 20 false 3, ⟨some 24, (some (20, false)), .nilChk (.t 23)⟩, gF 25 20 false 4 24, gL 26 20 false 25, ⟨some 27, (some (20, false)), .len (.t 26)⟩, ⟨some 28, (some (20, false)), .bin .neq (.t 22) (.t 27)⟩, oT 29 20 28])
  (.cond (.t 29)
  (.seq (.ops [⟨none, none, .store 1 (.t 4) (.c (.bool false))⟩])
  .ret)
  .skip))
  (.seq (.seq (.ops [⟨some 6, none, .mov (.c (.int .i64 0))⟩])
  (.block 0 (some [0, 3, 4, 5, 6]) L12_0))
  (.seq (.ops [⟨some 7, none, .alloc false [(.int .i64 0)] 3⟩, ⟨none, none, .store 1 (.t 7) (.c (.int .i64 0))⟩])
  (.seq (.seq (.ops [oM 49 0, ⟨some 50, none, .callM 25 [(.t 49)]⟩])
  (.block 2 (some [3, 4, 7, 50]) (.rangeF (.t 50) [51, 52] A12_r0 R12_r0)))
  (.seq (.ops [oL 113 7, oL 114 3, ⟨some 115, none, .nilChk (.t 114)⟩, oF 116 3 115, oL 117 116, ⟨some 118, none, .len (.t 117)⟩, ⟨some 119, none, .bin .eql (.t 113) (.t 118)⟩, oS 1 4 119])
  .ret)))))))⟩
/- (*vizard/lease.Book).Clone -/
def I13 : Fn_ := ⟨1, 27, [(2, none)],
  (.seq (.ops [⟨some 2, none, .mov (.c .nilp)⟩])
  (.seq (.ops [oM 3 0, ⟨some 4, none, .nilChk (.t 3)⟩, oF 5 0 4, oL 6 5, oM 7 0, ⟨some 8, none, .nilChk (.t 7)⟩, oF 9 1 8, oL 10 9, oM 11 0, ⟨some 12, none, .nilChk (.t 11)⟩, oF 13 2 12, oL 14 13, oM 15 0, ⟨some 16, none, .nilChk (.t 15)⟩, oF 17 3 16, oL 18 17, ⟨some 19, none, .callF true 33 [(.t 18)]⟩, oM 20 0, ⟨some 21, none, .nilChk (.t 20)⟩, oF 22 4 21, oL 23 22, ⟨some 24, none, .callF true 34 [(.t 23)]⟩, ⟨some 25, none, .build z_3 [(0, 1, (.t 6)), (1, 1, (.t 10)), (2, 1, (.t 14)), (3, 1, (.t 19)), (4, 1, (.t 24))]⟩, ⟨some 26, none, .box true 69 (.t 25)⟩, oM 2 26])
  .ret))⟩
/- (*vizard/vizardref25.Book).Free -/
def B15_0 : C := (.seq (.seq (.ops [oM 24 7, oM 25 0, ⟨some 26, none, .nilChk (.t 25)⟩, oF 27 2 26, oL 28 27, ⟨some 29, none, .len (.t 28)⟩, ⟨some 30, none, .bin .lss (.t 24) (.t 29)⟩])
  (.cond (.t 30)
  .skip
  (.exit 0)))
  (.seq (.block 1 (some [0, 1, 2, 7]) (.seq (.ops [oM 33 0, ⟨some 34, none, .nilChk (.t 33)⟩, oF 35 2 34, oL 36 35, oM 37 7, ⟨some 38, none, .iaddr 1 (.t 36) (.t 37)⟩, oL 39 38, oM 40 1, ⟨some 41, none, .bin .eql (.t 39) (.t 40)⟩])
  (.cond (.t 41)
  (.seq (.ops [⟨some 6, none, .mov (.c (.bool false))⟩])
  .ret)
  .skip)))
  (.ops [oM 31 7, ⟨some 32, none, .bin .add (.t 31) (.c (.int .i64 1))⟩, oM 7 32])))
def L15_0 : C := .loop (some [0, 1, 2, 7]) B15_0
theorem L15_0_eq {E : Env} (x : St) : ev E L15_0 x = andThen (ev E B15_0 (restr (some [0, 1, 2, 7]) x)) (ev E L15_0) := ev_loop _ _ x
theorem L15_0_lp {E : Env} (s : Slots) (h : Heap) : ev E L15_0 ⟨s, h⟩ = lp E L15_0 (pickS s [0, 1, 2, 7]) h := lp_of L15_0_eq s h
theorem L15_0_go {E : Env} (s : Slots) (h : Heap) : lp E L15_0 s h = andThen (ev E B15_0 ⟨pickS s [0, 1, 2, 7], h⟩) (ev E L15_0) := lp_go L15_0_eq s h
def B15_1 : C := (.seq (.seq (.ops [oM 42 8, oM 43 0, ⟨some 44, none, .nilChk (.t 43)⟩, oF 45 3 44, oL 46 45, ⟨some 47, none, .len (.t 46)⟩, ⟨some 48, none, .bin .lss (.t 42) (.t 47)⟩])
  (.cond (.t 48)
  .skip
  (.exit 2)))
  (.seq (.block 3 (some [0, 1, 2, 8]) (.seq (.ops [oM 51 0, ⟨some 52, none, .nilChk (.t 51)⟩, oF 53 3 52, oL 54 53, oM 55 8, ⟨some 56, none, .iaddr 4 (.t 54) (.t 55)⟩, oF 57 1 56, oL 58 57, oM 59 1, ⟨some 60, none, .bin .eql (.t 58) (.t 59)⟩, oM 61 60, gM 62 61 true 0, ⟨some 63, (some (61, true)), .nilChk (.t 62)⟩, gF 64 61 true 3 63, gL 65 61 true 64, gM 66 61 true 8, ⟨some 67, (some (61, true)), .iaddr 4 (.t 65) (.t 66)⟩, gF 68 61 true 3 67, gL 69 61 true 68, gM 70 61 true 2, ⟨some 71, (some (61, true)), .callF true 37 [(.t 70)]⟩, ⟨some 72, (some (61, true)), .bin .gtr (.t 69) (.t 71)⟩, oN 73 61 72])
  (.cond (.t 73)
  (.seq (.ops [⟨some 6, none, .mov (.c (.bool false))⟩])
  .ret)
  .skip)))
  (.ops [oM 49 8, ⟨some 50, none, .bin .add (.t 49) (.c (.int .i64 1))⟩, oM 8 50])))
def L15_1 : C := .loop (some [0, 1, 2, 8]) B15_1
theorem L15_1_eq {E : Env} (x : St) : ev E L15_1 x = andThen (ev E B15_1 (restr (some [0, 1, 2, 8]) x)) (ev E L15_1) := ev_loop _ _ x
theorem L15_1_lp {E : Env} (s : Slots) (h : Heap) : ev E L15_1 ⟨s, h⟩ = lp E L15_1 (pickS s [0, 1, 2, 8]) h := lp_of L15_1_eq s h
theorem L15_1_go {E : Env} (s : Slots) (h : Heap) : lp E L15_1 s h = andThen (ev E B15_1 ⟨pickS s [0, 1, 2, 8], h⟩) (ev E L15_1) := lp_go L15_1_eq s h
def B15_2 : C := (.seq (.seq (.ops [oM 74 9, oM 75 0, ⟨some 76, none, .nilChk (.t 75)⟩, oF 77 4 76, oL 78 77, ⟨some 79, none, .len (.t 78)⟩, ⟨some 80, none, .bin .lss (.t 74) (.t 79)⟩])
  (.cond (.t 80)
  .skip
  (.exit 4)))
  (.seq (.block 5 (some [0, 1, 2, 9]) (.seq (.ops [oM 83 0, ⟨some 84, none, .nilChk (.t 83)⟩, oF 85 4 84, oL 86 85, oM 87 9, ⟨some 88, none, .iaddr 2 (.t 86) (.t 87)⟩, oF 89 0 88, oL 90 89, oM 91 1, ⟨some 92, none, .bin .eql (.t 90) (.t 91)⟩, oM 93 92, gM 94 93 true 0, ⟨some 95, (some (93, true)), .nilChk (.t 94)⟩, gF 96 93 true 4 95, gL 97 93 true 96, gM 98 93 true 9, ⟨some 99, (some (93, true)), .iaddr 2 (.t 97) (.t 98)⟩, gF 100 93 true 1 99, gL 101 93 true 100, gM 102 93 true 2, ⟨some 103, (some (93, true)), .callF true 37 [(.t 102)]⟩, ⟨some 104, (some (93, true)), .bin .gtr (.t 101) (.t 103)⟩, oN 105 93 104])
  (.cond (.t 105)
  (.seq (.ops [⟨some 6, none, .mov (.c (.bool false))⟩])
  .ret)
  .skip)))
  (.ops [oM 81 9, ⟨some 82, none, .bin .add (.t 81) (.c (.int .i64 1))⟩, oM 9 82])))
def L15_2 : C := .loop (some [0, 1, 2, 9]) B15_2
theorem L15_2_eq {E : Env} (x : St) : ev E L15_2 x = andThen (ev E B15_2 (restr (some [0, 1, 2, 9]) x)) (ev E L15_2) := ev_loop _ _ x
theorem L15_2_lp {E : Env} (s : Slots) (h : Heap) : ev E L15_2 ⟨s, h⟩ = lp E L15_2 (pickS s [0, 1, 2, 9]) h := lp_of L15_2_eq s h
theorem L15_2_go {E : Env} (s : Slots) (h : Heap) : lp E L15_2 s h = andThen (ev E B15_2 ⟨pickS s [0, 1, 2, 9], h⟩) (ev E L15_2) := lp_go L15_2_eq s h
noncomputable def T15_2 (E : Env) (o : Out) : Option (AV × Heap) := outR [(6, none)] (andThen (endBlock 4 (some [0, 1, 2, 9]) (o)) (ev E (.seq (.ops [⟨some 6, none, .mov (.c (.bool true))⟩])
  .ret)))
noncomputable def T15_1 (E : Env) (o : Out) : Option (AV × Heap) := outR [(6, none)] (andThen (endBlock 2 (some [0, 1, 2, 8]) (o)) (ev E (.seq (.seq (.ops [⟨some 9, none, .mov (.c (.int .i64 0))⟩])
  (.block 4 (some [0, 1, 2, 9]) L15_2))
  (.seq (.ops [⟨some 6, none, .mov (.c (.bool true))⟩])
  .ret))))
noncomputable def T15_0 (E : Env) (o : Out) : Option (AV × Heap) := outR [(6, none)] (andThen (endBlock 0 (some [0, 1, 2, 7]) (o)) (ev E (.seq (.seq (.ops [⟨some 8, none, .mov (.c (.int .i64 0))⟩])
  (.block 2 (some [0, 1, 2, 8]) L15_1))
  (.seq (.seq (.ops [⟨some 9, none, .mov (.c (.int .i64 0))⟩])
  (.block 4 (some [0, 1, 2, 9]) L15_2))
  (.seq (.ops [⟨some 6, none, .mov (.c (.bool true))⟩])
  .ret)))))
def I15 : Fn_ := ⟨3, 106, [(6, none)],
  (.seq (.ops [⟨some 6, none, .mov (.c (.bool false))⟩])
  (.seq (.seq (.ops [oM 10 1, oM 11 0, ⟨some 12, none, .nilChk (.t 11)⟩, oF 13 0 12, oL 14 13, ⟨some 15, none, .bin .lss (.t 10) (.t 14)⟩, oM 16 15, gM 17 16 false 1, gM 18 16 false 0, ⟨some 19, (some (16, false)), .nilChk (.t 18)⟩, gF 20 16 false 1 19, gL 21 16 false 20, ⟨some 22, (some (16, false)), .bin .gtr (.t 17) (.t 21)⟩, oT 23 16 22])
  (.cond (.t 23)
  (.seq (.ops [⟨some 6, none, .mov (.c (.bool false))⟩])
  .ret)
  .skip))
  (.seq (.seq (.ops [⟨some 7, none, .mov (.c (.int .i64 0))⟩])
  (.block 0 (some [0, 1, 2, 7]) L15_0))
  (.seq (.seq (.ops [⟨some 8, none, .mov (.c (.int .i64 0))⟩])
  (.block 2 (some [0, 1, 2, 8]) L15_1))
  (.seq (.seq (.ops [⟨some 9, none, .mov (.c (.int .i64 0))⟩])
  (.block 4 (some [0, 1, 2, 9]) L15_2))
  (.seq (.ops [⟨some 6, none, .mov (.c (.bool true))⟩])
  .ret))))))⟩
/- (*vizard/vizardref25.Book).Copy -/
def I16 : Fn_ := ⟨1, 21, [(2, none)],
  (.seq (.ops [⟨some 2, none, .mov (.c .nilp)⟩])
  (.seq (.ops [oM 4 0, ⟨some 5, none, .nilChk (.t 4)⟩, ⟨some 6, none, .load true 5 (.t 5)⟩, ⟨some 3, none, .alloc true z_1 46⟩, oS 5 3 6])
  (.seq (.ops [⟨some 7, none, .buildSl 4 71 []⟩, oM 8 0, ⟨some 9, none, .nilChk (.t 8)⟩, oF 10 3 9, oL 11 10, ⟨some 12, none, .append 4 32 71 (.t 7) (.t 11)⟩, oF 13 3 3, oS 1 13 12])
  (.seq (.ops [⟨some 14, none, .buildSl 2 75 []⟩, oM 15 0, ⟨some 16, none, .nilChk (.t 15)⟩, oF 17 4 16, oL 18 17, ⟨some 19, none, .append 2 16 75 (.t 14) (.t 18)⟩, oF 20 4 3, oS 1 20 19])
  (.seq (.ops [oM 2 3])
  .ret)))))⟩
/- vizard/vizardlaw25.apart -/
def A17_r0 : C := (.ops [⟨some 13, none, .alloc true z_2 49⟩, oS 3 13 18])
def R17_r0 : C := (.block 1 (some [5, 6, 7, 8, 9, 10, 11, 13]) (.seq (.seq (.ops [oF 19 2 13, oL 20 19, oL 21 6, ⟨some 22, none, .bin .leq (.t 20) (.t 21)⟩])
  (.cond (.t 22)
  (.exit 1)
  .skip))
  (.seq (.seq (.ops [oL 23 11, oF 24 0 13, oL 25 24, ⟨some 26, none, .look false (.int .u32) ⟨false, [.b false]⟩ (.t 23) (.t 25)⟩, oM 27 26, gF 28 27 false 0 13, gL 29 27 false 28, gL 30 27 false 7, ⟨some 31, (some (27, false)), .bin .lss (.t 29) (.t 30)⟩, oT 32 27 31, oM 33 32, gF 34 33 false 0 13, gL 35 33 false 34, gL 36 33 false 8, ⟨some 37, (some (33, false)), .bin .gtr (.t 35) (.t 36)⟩, oT 38 33 37, oM 39 38, gF 40 39 false 0 13, gL 41 39 false 40, gL 42 39 false 9, ⟨some 43, (some (39, false)), .bin .eql (.t 41) (.t 42)⟩, oT 44 39 43, oM 45 44, gL 46 45 false 5, gF 47 45 false 0 13, gL 48 45 false 47, gL 49 45 false 6, ⟨some 50, (some (45, false)), .callF false 14 [(.t 46), (.t 48), (.t 49)]⟩, oT 51 45 50])
  (.cond (.t 51)
  (.seq (.ops [⟨none, none, .store 1 (.t 10) (.c (.bool false))⟩])
  .ret)
  .skip))
  (.ops [oL 52 11, oF 53 0 13, oL 54 53, ⟨none, none, .mapUpd (.int .u32) (.t 52) (.t 54) (.c (.bool true))⟩]))))
noncomputable def T17_r0 (E : Env) (o : Out) : Option (AV × Heap) := outR [(10, some (false, 1))] (andThen (endBlock 0 (some [5, 6, 7, 8, 9, 10, 11, 16]) (o)) (ev E (.seq (.ops [⟨none, none, .store 1 (.t 10) (.c (.bool true))⟩])
  .ret)))
def I17 : Fn_ := ⟨5, 55, [(10, some (false, 1))],
  (.seq (.ops [⟨some 5, none, .box false 30 (.t 0)⟩, ⟨some 6, none, .box false 25 (.t 1)⟩, ⟨some 7, none, .box false 22 (.t 2)⟩, ⟨some 8, none, .box false 22 (.t 3)⟩, ⟨some 9, none, .box false 22 (.t 4)⟩, ⟨some 10, none, .alloc false [(.bool false)] 4⟩])
  (.seq (.ops [⟨some 14, none, .mkMap (.int .u32)⟩, ⟨some 11, none, .alloc false [.nilm] 57⟩, oS 1 11 14])
  (.seq (.seq (.ops [oL 15 5, ⟨some 16, none, .callM 25 [(.t 15)]⟩])
  (.block 0 (some [5, 6, 7, 8, 9, 10, 11, 16]) (.rangeF (.t 16) [17, 18] A17_r0 R17_r0)))
  (.seq (.ops [⟨none, none, .store 1 (.t 10) (.c (.bool true))⟩])
  .ret))))⟩
/- (*vizard/lease.Book).Of -/
def I18 : Fn_ := ⟨3, 29, [(6, some (true, 3)), (7, none)],
  (.seq (.ops [⟨some 6, none, .alloc true z_2 49⟩, ⟨some 7, none, .mov (.c (.bool false))⟩])
  (.seq (.ops [oM 11 0, ⟨some 12, none, .nilChk (.t 11)⟩, oF 13 3 12, oL 14 13, oM 15 1, ⟨some 16, none, .look true .str ⟨true, [.i .u32 0, .b false, .i .u64 0]⟩ (.t 14) (.t 15)⟩, oM 10 16, oE 17 10 0, oE 18 10 1, ⟨some 8, none, .alloc true z_2 49⟩, oS 3 8 17, oM 9 18])
  (.seq (.seq (.ops [oM 19 9, ⟨some 20, none, .un .not (.t 19)⟩, oM 21 20, ⟨some 22, (some (21, false)), .load true 3 (.t 8)⟩, gM 23 21 false 2, ⟨some 24, (some (21, false)), .callF true 35 [(.t 23)]⟩, ⟨some 25, (some (21, false)), .callF true 36 [(.t 22), (.t 24)]⟩, oT 26 21 25])
  (.cond (.t 26)
  (.seq (.ops [⟨some 27, none, .build z_2 []⟩, oS 3 6 27, ⟨some 7, none, .mov (.c (.bool false))⟩])
  .ret)
  .skip))
  (.seq (.ops [⟨some 28, none, .load true 3 (.t 8)⟩, oS 3 6 28, ⟨some 7, none, .mov (.c (.bool true))⟩])
  .ret))))⟩
/- (*vizard/lease.Book).Offer -/
def I19 : Fn_ := ⟨5, 57, [(10, none), (11, none)],
  (.seq (.ops [⟨some 10, none, .mov (.c (.int .u32 0))⟩, ⟨some 11, none, .mov (.c (.int .i64 0))⟩])
  (.seq (.seq (.ops [oM 16 1, ⟨some 17, none, .bin .eql (.t 16) (.c (.str ⟨#[]⟩))⟩, oM 18 17, gM 19 18 false 1, ⟨some 20, (some (18, false)), .lenS (.t 19)⟩, ⟨some 21, (some (18, false)), .bin .gtr (.t 20) (.c (.int .i64 255))⟩, oT 22 18 21])
  (.cond (.t 22)
  (.seq (.ops [⟨some 10, none, .mov (.c (.int .u32 0))⟩, ⟨some 11, none, .mov (.c (.int .i64 10))⟩])
  .ret)
  .skip))
  (.seq (.ops [oM 24 0, oM 25 1, oM 26 3, ⟨some 27, none, .callF false 18 [(.t 24), (.t 25), (.t 26)]⟩, oM 23 27, oE 28 23 0, oE 29 23 1, ⟨some 12, none, .alloc true z_2 49⟩, oS 3 12 28, oM 13 29])
  (.seq (.seq (.ops [oM 30 13, ⟨some 31, none, .un .not (.t 30)⟩])
  (.cond (.t 31)
  (.seq (.ops [oM 33 0, oM 34 2, oM 35 3, ⟨some 36, none, .callF false 38 [(.t 33), (.t 34), (.t 35)]⟩, oM 32 36, oE 37 32 0, oE 38 32 1, oM 14 37, oM 15 38])
  (.seq (.seq (.ops [oM 39 15, ⟨some 40, none, .un .not (.t 39)⟩])
  (.cond (.t 40)
  (.seq (.ops [⟨some 10, none, .mov (.c (.int .u32 0))⟩, ⟨some 11, none, .mov (.c (.int .i64 18))⟩])
  .ret)
  .skip))
  (.ops [oM 41 14, ⟨some 42, none, .build z_2 [(0, 1, (.t 41))]⟩, oS 3 12 42])))
  .skip))
  (.seq (.seq (.ops [oF 43 1 12, oL 44 43, ⟨some 45, none, .un .not (.t 44)⟩])
  (.cond (.t 45)
  (.seq (.ops [oM 46 4, ⟨some 47, none, .callF false 35 [(.t 46)]⟩, oF 48 2 12, oS 1 48 47])
  (.ops [oM 49 0, ⟨some 50, none, .nilChk (.t 49)⟩, oF 51 3 50, oL 52 51, oM 53 1, ⟨some 54, none, .load true 3 (.t 12)⟩, ⟨none, none, .mapUpd .str (.t 52) (.t 53) (.t 54)⟩]))
  .skip))
  (.seq (.ops [oF 55 0 12, oL 56 55, oM 10 56, ⟨some 11, none, .mov (.c (.int .i64 0))⟩])
  .ret))))))⟩
/- (*vizard/lease.Book).Firm -/
def I20 : Fn_ := ⟨5, 37, [(10, none)],
  (.seq (.ops [⟨some 10, none, .mov (.c (.int .i64 0))⟩])
  (.seq (.ops [oM 14 0, oM 15 1, oM 16 3, ⟨some 17, none, .callF false 18 [(.t 14), (.t 15), (.t 16)]⟩, oM 13 17, oE 18 13 0, oE 19 13 1, ⟨some 11, none, .alloc true z_2 49⟩, oS 3 11 18, oM 12 19])
  (.seq (.seq (.ops [oM 20 12, ⟨some 21, none, .un .not (.t 20)⟩, oM 22 21, gF 23 22 false 0 11, gL 24 22 false 23, gM 25 22 false 2, ⟨some 26, (some (22, false)), .bin .neq (.t 24) (.t 25)⟩, oT 27 22 26])
  (.cond (.t 27)
  (.seq (.ops [⟨some 10, none, .mov (.c (.int .i64 17))⟩])
  .ret)
  .skip))
  (.seq (.ops [oM 28 0, ⟨some 29, none, .nilChk (.t 28)⟩, oF 30 3 29, oL 31 30, oM 32 1, oM 33 2, oM 34 4, ⟨some 35, none, .callF true 35 [(.t 34)]⟩, ⟨some 36, none, .build z_2 [(0, 1, (.t 33)), (1, 1, (.c (.bool true))), (2, 1, (.t 35))]⟩, ⟨none, none, .mapUpd .str (.t 31) (.t 32) (.t 36)⟩])
  (.seq (.ops [⟨some 10, none, .mov (.c (.int .i64 0))⟩])
  .ret)))))⟩
/- (*vizard/lease.Book).Rest -/
def I21 : Fn_ := ⟨5, 40, [(10, none)],
  (.seq (.ops [⟨some 10, none, .mov (.c (.int .i64 0))⟩])
  (.seq (.ops [oM 14 0, oM 15 1, oM 16 3, ⟨some 17, none, .callF false 18 [(.t 14), (.t 15), (.t 16)]⟩, oM 13 17, oE 18 13 0, oE 19 13 1, ⟨some 11, none, .alloc true z_2 49⟩, oS 3 11 18, oM 12 19])
  (.seq (.seq (.ops [oM 20 12, ⟨some 21, none, .un .not (.t 20)⟩, oM 22 21, gF 23 22 false 0 11, gL 24 22 false 23, gM 25 22 false 2, ⟨some 26, (some (22, false)), .bin .neq (.t 24) (.t 25)⟩, oT 27 22 26])
  (.cond (.t 27)
  (.seq (.ops [⟨some 10, none, .mov (.c (.int .i64 17))⟩])
  .ret)
  .skip))
  (.seq (.ops [oM 28 0, ⟨some 29, none, .nilChk (.t 28)⟩, oF 30 3 29, oL 31 30, oM 32 1, ⟨none, none, .mdel .str (.t 31) (.t 32)⟩])
  (.seq (.ops [oM 33 0, ⟨some 34, none, .nilChk (.t 33)⟩, oF 35 4 34, oL 36 35, oM 37 2, oM 38 4, ⟨some 39, none, .callF true 35 [(.t 38)]⟩, ⟨none, none, .mapUpd (.int .u32) (.t 36) (.t 37) (.t 39)⟩])
  (.seq (.ops [⟨some 10, none, .mov (.c (.int .i64 0))⟩])
  .ret))))))⟩
/- (*vizard/lease.Book).Len -/
def I22 : Fn_ := ⟨1, 8, [(2, none)],
  (.seq (.ops [⟨some 2, none, .mov (.c (.int .i64 0))⟩])
  (.seq (.ops [oM 3 0, ⟨some 4, none, .nilChk (.t 3)⟩, oF 5 3 4, oL 6 5, ⟨some 7, none, .mlen .str (.t 6)⟩, oM 2 7])
  .ret))⟩
/- (*vizard/lease.Book).Drop -/
def I23 : Fn_ := ⟨3, 31, [(6, none)],
  (.seq (.ops [⟨some 6, none, .mov (.c (.bool false))⟩])
  (.seq (.ops [oM 10 0, ⟨some 11, none, .nilChk (.t 10)⟩, oF 12 3 11, oL 13 12, oM 14 1, ⟨some 15, none, .look true .str ⟨true, [.i .u32 0, .b false, .i .u64 0]⟩ (.t 13) (.t 14)⟩, oM 9 15, oE 16 9 0, oE 17 9 1, ⟨some 7, none, .alloc true z_2 49⟩, oS 3 7 16, oM 8 17])
  (.seq (.seq (.ops [oM 18 8, ⟨some 19, none, .un .not (.t 18)⟩, oM 20 19, gF 21 20 false 1 7, gL 22 20 false 21, gM 23 20 false 2, ⟨some 24, (some (20, false)), .binB .neq (.t 22) (.t 23)⟩, oT 25 20 24])
  (.cond (.t 25)
  (.seq (.ops [⟨some 6, none, .mov (.c (.bool false))⟩])
  .ret)
  .skip))
  (.seq (.ops [oM 26 0, ⟨some 27, none, .nilChk (.t 26)⟩, oF 28 3 27, oL 29 28, oM 30 1, ⟨none, none, .mdel .str (.t 29) (.t 30)⟩])
  (.seq (.ops [⟨some 6, none, .mov (.c (.bool true))⟩])
  .ret)))))⟩
/- (*vizard/lease.Book).Sweep -/
def I24 : Fn_ := ⟨2, 44, [(4, none)],
  (.seq (.ops [⟨some 3, none, .box false 25 (.t 1)⟩, ⟨some 4, none, .mov (.c (.int .i64 0))⟩])
  (.seq (.ops [oL 6 3, ⟨some 7, none, .callF false 35 [(.t 6)]⟩, oS 1 3 7])
  (.seq (.ops [oM 8 0, ⟨some 9, none, .nilChk (.t 8)⟩, oF 10 3 9, oL 11 10, ⟨some 12, none, .mlen .str (.t 11)⟩, oM 13 0, ⟨some 14, none, .nilChk (.t 13)⟩, oF 15 4 14, oL 16 15, ⟨some 17, none, .mlen (.int .u32) (.t 16)⟩, ⟨some 18, none, .bin .add (.t 12) (.t 17)⟩, oM 5 18])
  (.seq (.ops [oM 19 0, ⟨some 20, none, .nilChk (.t 19)⟩, oF 21 3 20, oL 22 21, ⟨some 23, none, .mkFn 40 [(.t 3)]⟩, ⟨some 24, none, .callM 39 [(.t 22), (.t 23)]⟩])
  (.seq (.ops [oM 25 0, ⟨some 26, none, .nilChk (.t 25)⟩, oF 27 4 26, oL 28 27, ⟨some 29, none, .mkFn 42 [(.t 3)]⟩, ⟨some 30, none, .callM 41 [(.t 28), (.t 29)]⟩])
  (.seq (.ops [oM 31 5, oM 32 0, ⟨some 33, none, .nilChk (.t 32)⟩, oF 34 3 33, oL 35 34, ⟨some 36, none, .mlen .str (.t 35)⟩, ⟨some 37, none, .bin .sub (.t 31) (.t 36)⟩, oM 38 0, ⟨some 39, none, .nilChk (.t 38)⟩, oF 40 4 39, oL 41 40, ⟨some 42, none, .mlen (.int .u32) (.t 41)⟩, ⟨some 43, none, .bin .sub (.t 37) (.t 42)⟩, oM 4 43])
  .ret))))))⟩
/- (*vizard/lease.Book).Loans -/
def I25 : Fn_ := ⟨1, 4, [(2, none)],
  (.seq (.ops [⟨some 1, none, .box false 30 (.t 0)⟩, ⟨some 2, none, .mov (.c .nilf)⟩])
  (.seq (.ops [⟨some 3, none, .mkFn 43 [(.t 1)]⟩, oM 2 3])
  .ret))⟩
/- (*vizard/lease.Book).Rests -/
def I26 : Fn_ := ⟨1, 9, [(2, none)],
  (.seq (.ops [⟨some 2, none, .mov (.c (.rs false 1 []))⟩])
  (.seq (.ops [oM 3 0, ⟨some 4, none, .nilChk (.t 3)⟩, oF 5 4 4, oL 6 5, ⟨some 7, none, .callF false 47 [(.t 6)]⟩, ⟨some 8, none, .callF false 46 [(.t 7)]⟩, oM 2 8])
  .ret))⟩
/- (*vizard/vizardref25.Book).Offer -/
def B27_0 : C := (.seq (.seq (.ops [oM 54 16, oM 55 0, ⟨some 56, none, .nilChk (.t 55)⟩, oF 57 1 56, oL 58 57, ⟨some 59, none, .conv .u64 (.t 58)⟩, ⟨some 60, none, .bin .leq (.t 54) (.t 59)⟩, oM 61 60, gM 62 61 true 15, ⟨some 63, (some (61, true)), .un .not (.t 62)⟩, oN 64 61 63])
  (.cond (.t 64)
  .skip
  (.exit 0)))
  (.seq (.block 1 (some [0, 1, 3, 4, 14, 15, 16]) (.seq (.ops [oM 67 16, ⟨some 68, none, .conv .u32 (.t 67)⟩, oM 14 68])
  (.ops [oM 69 0, oM 70 14, oM 71 3, ⟨some 72, none, .callF false 15 [(.t 69), (.t 70), (.t 71)]⟩, oM 15 72])))
  (.ops [oM 65 16, ⟨some 66, none, .bin .add (.t 65) (.c (.int .u64 1))⟩, oM 16 66])))
def L27_0 : C := .loop (some [0, 1, 3, 4, 14, 15, 16]) B27_0
theorem L27_0_eq {E : Env} (x : St) : ev E L27_0 x = andThen (ev E B27_0 (restr (some [0, 1, 3, 4, 14, 15, 16]) x)) (ev E L27_0) := ev_loop _ _ x
theorem L27_0_lp {E : Env} (s : Slots) (h : Heap) : ev E L27_0 ⟨s, h⟩ = lp E L27_0 (pickS s [0, 1, 3, 4, 14, 15, 16]) h := lp_of L27_0_eq s h
theorem L27_0_go {E : Env} (s : Slots) (h : Heap) : lp E L27_0 s h = andThen (ev E B27_0 ⟨pickS s [0, 1, 3, 4, 14, 15, 16], h⟩) (ev E L27_0) := lp_go L27_0_eq s h
noncomputable def T27_0 (E : Env) (o : Out) : Option (AV × Heap) := outR [(10, none), (11, none)] (andThen (endBlock 0 (some [0, 1, 3, 4, 14, 15, 16]) (o)) (ev E (.seq (.seq (.ops [oM 73 15, ⟨some 74, none, .un .not (.t 73)⟩])
  (.cond (.t 74)
  (.seq (.ops [⟨some 10, none, .mov (.c (.int .u32 0))⟩, ⟨some 11, none, .mov (.c (.int .i64 18))⟩])
  .ret)
  .skip))
  (.seq (.ops [oM 75 0, oM 76 1, oM 77 14, oM 78 4, ⟨some 79, none, .callF false 37 [(.t 78)]⟩, ⟨some 80, none, .build [(.str ⟨#[]⟩), (.int .u32 0), (.bool false), (.int .u64 0)] [(0, 1, (.t 76)), (1, 1, (.t 77)), (3, 1, (.t 79))]⟩, ⟨some 81, none, .callM 48 [(.t 75), (.t 80)]⟩])
  (.seq (.ops [oM 82 14, oM 10 82, ⟨some 11, none, .mov (.c (.int .i64 0))⟩])
  .ret)))))
def I27 : Fn_ := ⟨5, 83, [(10, none), (11, none)],
  (.seq (.ops [⟨some 10, none, .mov (.c (.int .u32 0))⟩, ⟨some 11, none, .mov (.c (.int .i64 0))⟩])
  (.seq (.seq (.ops [oM 17 1, ⟨some 18, none, .lenS (.t 17)⟩, ⟨some 19, none, .bin .lss (.t 18) (.c (.int .i64 1))⟩, oM 20 19, gM 21 20 false 1, ⟨some 22, (some (20, false)), .lenS (.t 21)⟩, ⟨some 23, (some (20, false)), .bin .gtr (.t 22) (.c (.int .i64 255))⟩, oT 24 20 23])
  (.cond (.t 24)
  (.seq (.ops [⟨some 10, none, .mov (.c (.int .u32 0))⟩, ⟨some 11, none, .mov (.c (.int .i64 10))⟩])
  .ret)
  .skip))
  (.seq (.ops [oM 26 0, oM 27 1, oM 28 3, ⟨some 29, none, .callF false 32 [(.t 26), (.t 27), (.t 28)]⟩, oM 25 29, oE 30 25 0, oE 31 25 1, ⟨some 12, none, .alloc true [(.str ⟨#[]⟩), (.int .u32 0), (.bool false), (.int .u64 0)] 71⟩, oS 4 12 30, oM 13 31])
  (.seq (.seq (.ops [oM 32 13])
  (.cond (.t 32)
  (.seq (.seq (.ops [oF 33 2 12, oL 34 33, ⟨some 35, none, .un .not (.t 34)⟩])
  (.cond (.t 35)
  (.seq (.ops [oM 36 4, ⟨some 37, none, .callF false 37 [(.t 36)]⟩, oF 38 3 12, oS 1 38 37])
  (.ops [oM 39 0, ⟨some 40, none, .load true 4 (.t 12)⟩, ⟨some 41, none, .callM 48 [(.t 39), (.t 40)]⟩]))
  .skip))
  (.seq (.ops [oF 42 1 12, oL 43 42, oM 10 43, ⟨some 11, none, .mov (.c (.int .i64 0))⟩])
  .ret))
  .skip))
  (.seq (.ops [oM 44 2, oM 14 44])
  (.seq (.ops [oM 45 0, oM 46 2, oM 47 3, ⟨some 48, none, .callF false 15 [(.t 45), (.t 46), (.t 47)]⟩, oM 15 48])
  (.seq (.seq (.ops [oM 49 0, ⟨some 50, none, .nilChk (.t 49)⟩, oF 51 0 50, oL 52 51, ⟨some 53, none, .conv .u64 (.t 52)⟩, oM 16 53])
  (.block 0 (some [0, 1, 3, 4, 14, 15, 16]) L27_0))
  (.seq (.seq (.ops [oM 73 15, ⟨some 74, none, .un .not (.t 73)⟩])
  (.cond (.t 74)
  (.seq (.ops [⟨some 10, none, .mov (.c (.int .u32 0))⟩, ⟨some 11, none, .mov (.c (.int .i64 18))⟩])
  .ret)
  .skip))
  (.seq (.ops [oM 75 0, oM 76 1, oM 77 14, oM 78 4, ⟨some 79, none, .callF false 37 [(.t 78)]⟩, ⟨some 80, none, .build [(.str ⟨#[]⟩), (.int .u32 0), (.bool false), (.int .u64 0)] [(0, 1, (.t 76)), (1, 1, (.t 77)), (3, 1, (.t 79))]⟩, ⟨some 81, none, .callM 48 [(.t 75), (.t 80)]⟩])
  (.seq (.ops [oM 82 14, oM 10 82, ⟨some 11, none, .mov (.c (.int .i64 0))⟩])
  .ret))))))))))⟩
/- (*vizard/vizardref25.Book).Firm -/
def I28 : Fn_ := ⟨5, 35, [(10, none)],
  (.seq (.ops [⟨some 10, none, .mov (.c (.int .i64 0))⟩])
  (.seq (.ops [oM 14 0, oM 15 1, oM 16 3, ⟨some 17, none, .callF false 32 [(.t 14), (.t 15), (.t 16)]⟩, oM 13 17, oE 18 13 0, oE 19 13 1, ⟨some 11, none, .alloc true [(.str ⟨#[]⟩), (.int .u32 0), (.bool false), (.int .u64 0)] 71⟩, oS 4 11 18, oM 12 19])
  (.seq (.seq (.ops [oM 20 12, ⟨some 21, none, .un .not (.t 20)⟩, oM 22 21, gF 23 22 false 1 11, gL 24 22 false 23, gM 25 22 false 2, ⟨some 26, (some (22, false)), .bin .neq (.t 24) (.t 25)⟩, oT 27 22 26])
  (.cond (.t 27)
  (.seq (.ops [⟨some 10, none, .mov (.c (.int .i64 17))⟩])
  .ret)
  .skip))
  (.seq (.ops [oF 28 2 11, ⟨none, none, .store 1 (.t 28) (.c (.bool true))⟩])
  (.seq (.ops [oM 29 4, ⟨some 30, none, .callF false 37 [(.t 29)]⟩, oF 31 3 11, oS 1 31 30])
  (.seq (.ops [oM 32 0, ⟨some 33, none, .load true 4 (.t 11)⟩, ⟨some 34, none, .callM 48 [(.t 32), (.t 33)]⟩])
  (.seq (.ops [⟨some 10, none, .mov (.c (.int .i64 0))⟩])
  .ret)))))))⟩
/- (*vizard/vizardref25.Book).Drop -/
def I29 : Fn_ := ⟨3, 28, [(6, none)],
  (.seq (.ops [⟨some 6, none, .mov (.c (.bool false))⟩])
  (.seq (.ops [oM 8 0, oM 9 1, ⟨some 10, none, .callF false 49 [(.t 8), (.t 9)]⟩, oM 7 10])
  (.seq (.seq (.ops [oM 11 7, ⟨some 12, none, .bin .lss (.t 11) (.c (.int .i64 0))⟩, oM 13 12, gM 14 13 false 0, ⟨some 15, (some (13, false)), .nilChk (.t 14)⟩, gF 16 13 false 3 15, gL 17 13 false 16, gM 18 13 false 7, ⟨some 19, (some (13, false)), .iaddr 4 (.t 17) (.t 18)⟩, gF 20 13 false 2 19, gL 21 13 false 20, gM 22 13 false 2, ⟨some 23, (some (13, false)), .binB .neq (.t 21) (.t 22)⟩, oT 24 13 23])
  (.cond (.t 24)
  (.seq (.ops [⟨some 6, none, .mov (.c (.bool false))⟩])
  .ret)
  .skip))
  (.seq (.ops [oM 25 0, oM 26 7, ⟨some 27, none, .callM 50 [(.t 25), (.t 26)]⟩])
  (.seq (.ops [⟨some 6, none, .mov (.c (.bool true))⟩])
  .ret)))))⟩
/- (*vizard/vizardref25.Book).Rest -/
def B30_0 : C := (.seq (.seq (.ops [oM 42 16, oM 43 0, ⟨some 44, none, .nilChk (.t 43)⟩, oF 45 4 44, oL 46 45, ⟨some 47, none, .len (.t 46)⟩, ⟨some 48, none, .bin .lss (.t 42) (.t 47)⟩])
  (.cond (.t 48)
  .skip
  (.exit 0)))
  (.seq (.block 1 (some [0, 2, 13, 14, 15, 16]) (.seq (.seq (.ops [oM 51 0, ⟨some 52, none, .nilChk (.t 51)⟩, oF 53 4 52, oL 54 53, oM 55 16, ⟨some 56, none, .iaddr 2 (.t 54) (.t 55)⟩, oF 57 0 56, oL 58 57, oM 59 2, ⟨some 60, none, .bin .eql (.t 58) (.t 59)⟩])
  (.cond (.t 60)
  (.exit 1)
  .skip))
  (.seq (.seq (.ops [oM 61 15, ⟨some 62, none, .un .not (.t 61)⟩, oM 63 62, gM 64 63 true 2, gM 65 63 true 0, ⟨some 66, (some (63, true)), .nilChk (.t 65)⟩, gF 67 63 true 4 66, gL 68 63 true 67, gM 69 63 true 16, ⟨some 70, (some (63, true)), .iaddr 2 (.t 68) (.t 69)⟩, gF 71 63 true 0 70, gL 72 63 true 71, ⟨some 73, (some (63, true)), .bin .lss (.t 64) (.t 72)⟩, oN 74 63 73])
  (.cond (.t 74)
  (.seq (.ops [oM 75 14, ⟨some 76, none, .load true 2 (.t 13)⟩, ⟨some 77, none, .buildR 2 75 [(.t 76)]⟩, ⟨some 78, none, .append 2 16 75 (.t 75) (.t 77)⟩, oM 14 78])
  (.ops [⟨some 15, none, .mov (.c (.bool true))⟩]))
  .skip))
  (.ops [oM 79 14, oM 80 0, ⟨some 81, none, .nilChk (.t 80)⟩, oF 82 4 81, oL 83 82, oM 84 16, ⟨some 85, none, .iaddr 2 (.t 83) (.t 84)⟩, ⟨some 86, none, .load true 2 (.t 85)⟩, ⟨some 87, none, .buildR 2 75 [(.t 86)]⟩, ⟨some 88, none, .append 2 16 75 (.t 79) (.t 87)⟩, oM 14 88]))))
  (.ops [oM 49 16, ⟨some 50, none, .bin .add (.t 49) (.c (.int .i64 1))⟩, oM 16 50])))
def L30_0 : C := .loop (some [0, 2, 13, 14, 15, 16]) B30_0
theorem L30_0_eq {E : Env} (x : St) : ev E L30_0 x = andThen (ev E B30_0 (restr (some [0, 2, 13, 14, 15, 16]) x)) (ev E L30_0) := ev_loop _ _ x
theorem L30_0_lp {E : Env} (s : Slots) (h : Heap) : ev E L30_0 ⟨s, h⟩ = lp E L30_0 (pickS s [0, 2, 13, 14, 15, 16]) h := lp_of L30_0_eq s h
theorem L30_0_go {E : Env} (s : Slots) (h : Heap) : lp E L30_0 s h = andThen (ev E B30_0 ⟨pickS s [0, 2, 13, 14, 15, 16], h⟩) (ev E L30_0) := lp_go L30_0_eq s h
noncomputable def T30_0 (E : Env) (o : Out) : Option (AV × Heap) := outR [(10, none)] (andThen (endBlock 0 (some [0, 2, 13, 14, 15, 16]) (o)) (ev E (.seq (.seq (.ops [oM 89 15, ⟨some 90, none, .un .not (.t 89)⟩])
  (.cond (.t 90)
  (.ops [oM 91 14, ⟨some 92, none, .load true 2 (.t 13)⟩, ⟨some 93, none, .buildR 2 75 [(.t 92)]⟩, ⟨some 94, none, .append 2 16 75 (.t 91) (.t 93)⟩, oM 14 94])
  .skip))
  (.seq (.ops [oM 95 0, oM 96 14, ⟨some 97, none, .nilChk (.t 95)⟩, oF 98 4 97, oS 1 98 96])
  (.seq (.ops [⟨some 10, none, .mov (.c (.int .i64 0))⟩])
  .ret)))))
def I30 : Fn_ := ⟨5, 99, [(10, none)],
  (.seq (.ops [⟨some 10, none, .mov (.c (.int .i64 0))⟩])
  (.seq (.ops [oM 18 0, oM 19 1, oM 20 3, ⟨some 21, none, .callF false 32 [(.t 18), (.t 19), (.t 20)]⟩, oM 17 21, oE 22 17 0, oE 23 17 1, ⟨some 11, none, .alloc true [(.str ⟨#[]⟩), (.int .u32 0), (.bool false), (.int .u64 0)] 71⟩, oS 4 11 22, oM 12 23])
  (.seq (.seq (.ops [oM 24 12, ⟨some 25, none, .un .not (.t 24)⟩, oM 26 25, gF 27 26 false 1 11, gL 28 26 false 27, gM 29 26 false 2, ⟨some 30, (some (26, false)), .bin .neq (.t 28) (.t 29)⟩, oT 31 26 30])
  (.cond (.t 31)
  (.seq (.ops [⟨some 10, none, .mov (.c (.int .i64 17))⟩])
  .ret)
  .skip))
  (.seq (.ops [oM 32 0, oM 33 0, oM 34 1, ⟨some 35, none, .callF false 49 [(.t 33), (.t 34)]⟩, ⟨some 36, none, .callM 50 [(.t 32), (.t 35)]⟩])
  (.seq (.ops [oM 37 2, oM 38 4, ⟨some 39, none, .callF false 37 [(.t 38)]⟩, ⟨some 40, none, .build z_4 [(0, 1, (.t 37)), (1, 1, (.t 39))]⟩, ⟨some 13, none, .alloc true z_4 75⟩, oS 2 13 40])
  (.seq (.ops [⟨some 41, none, .buildSl 2 75 []⟩, oM 14 41])
  (.seq (.ops [⟨some 15, none, .mov (.c (.bool false))⟩])
  (.seq (.seq (.ops [⟨some 16, none, .mov (.c (.int .i64 0))⟩])
  (.block 0 (some [0, 2, 13, 14, 15, 16]) L30_0))
  (.seq (.seq (.ops [oM 89 15, ⟨some 90, none, .un .not (.t 89)⟩])
  (.cond (.t 90)
  (.ops [oM 91 14, ⟨some 92, none, .load true 2 (.t 13)⟩, ⟨some 93, none, .buildR 2 75 [(.t 92)]⟩, ⟨some 94, none, .append 2 16 75 (.t 91) (.t 93)⟩, oM 14 94])
  .skip))
  (.seq (.ops [oM 95 0, oM 96 14, ⟨some 97, none, .nilChk (.t 95)⟩, oF 98 4 97, oS 1 98 96])
  (.seq (.ops [⟨some 10, none, .mov (.c (.int .i64 0))⟩])
  .ret)))))))))))⟩
/- (*vizard/vizardref25.Book).Sweep -/
def B31_0 : C := (.seq (.seq (.ops [oM 11 7, oM 12 0, ⟨some 13, none, .nilChk (.t 12)⟩, oF 14 3 13, oL 15 14, ⟨some 16, none, .len (.t 15)⟩, ⟨some 17, none, .bin .lss (.t 11) (.t 16)⟩])
  (.cond (.t 17)
  .skip
  (.exit 0)))
  (.seq (.block 1 (some [0, 1, 5, 6, 7]) (.seq (.ops [oM 20 0, ⟨some 21, none, .nilChk (.t 20)⟩, oF 22 3 21, oL 23 22, oM 24 7, ⟨some 25, none, .iaddr 4 (.t 23) (.t 24)⟩, oF 26 3 25, oL 27 26, oM 28 1, ⟨some 29, none, .callF true 37 [(.t 28)]⟩, ⟨some 30, none, .bin .gtr (.t 27) (.t 29)⟩])
  (.cond (.t 30)
  (.ops [oM 31 6, oM 32 0, ⟨some 33, none, .nilChk (.t 32)⟩, oF 34 3 33, oL 35 34, oM 36 7, ⟨some 37, none, .iaddr 4 (.t 35) (.t 36)⟩, ⟨some 38, none, .load true 4 (.t 37)⟩, ⟨some 39, none, .buildR 4 71 [(.t 38)]⟩, ⟨some 40, none, .append 4 32 71 (.t 31) (.t 39)⟩, oM 6 40])
  (.ops [oM 41 5, ⟨some 42, none, .bin .add (.t 41) (.c (.int .i64 1))⟩, oM 5 42]))))
  (.ops [oM 18 7, ⟨some 19, none, .bin .add (.t 18) (.c (.int .i64 1))⟩, oM 7 19])))
def L31_0 : C := .loop (some [0, 1, 5, 6, 7]) B31_0
theorem L31_0_eq {E : Env} (x : St) : ev E L31_0 x = andThen (ev E B31_0 (restr (some [0, 1, 5, 6, 7]) x)) (ev E L31_0) := ev_loop _ _ x
theorem L31_0_lp {E : Env} (s : Slots) (h : Heap) : ev E L31_0 ⟨s, h⟩ = lp E L31_0 (pickS s [0, 1, 5, 6, 7]) h := lp_of L31_0_eq s h
theorem L31_0_go {E : Env} (s : Slots) (h : Heap) : lp E L31_0 s h = andThen (ev E B31_0 ⟨pickS s [0, 1, 5, 6, 7], h⟩) (ev E L31_0) := lp_go L31_0_eq s h
def B31_1 : C := (.seq (.seq (.ops [oM 44 9, oM 45 0, ⟨some 46, none, .nilChk (.t 45)⟩, oF 47 4 46, oL 48 47, ⟨some 49, none, .len (.t 48)⟩, ⟨some 50, none, .bin .lss (.t 44) (.t 49)⟩])
  (.cond (.t 50)
  .skip
  (.exit 2)))
  (.seq (.block 3 (some [0, 1, 5, 6, 8, 9]) (.seq (.ops [oM 53 0, ⟨some 54, none, .nilChk (.t 53)⟩, oF 55 4 54, oL 56 55, oM 57 9, ⟨some 58, none, .iaddr 2 (.t 56) (.t 57)⟩, oF 59 1 58, oL 60 59, oM 61 1, ⟨some 62, none, .callF true 37 [(.t 61)]⟩, ⟨some 63, none, .bin .gtr (.t 60) (.t 62)⟩])
  (.cond (.t 63)
  (.ops [oM 64 8, oM 65 0, ⟨some 66, none, .nilChk (.t 65)⟩, oF 67 4 66, oL 68 67, oM 69 9, ⟨some 70, none, .iaddr 2 (.t 68) (.t 69)⟩, ⟨some 71, none, .load true 2 (.t 70)⟩, ⟨some 72, none, .buildR 2 75 [(.t 71)]⟩, ⟨some 73, none, .append 2 16 75 (.t 64) (.t 72)⟩, oM 8 73])
  (.ops [oM 74 5, ⟨some 75, none, .bin .add (.t 74) (.c (.int .i64 1))⟩, oM 5 75]))))
  (.ops [oM 51 9, ⟨some 52, none, .bin .add (.t 51) (.c (.int .i64 1))⟩, oM 9 52])))
def L31_1 : C := .loop (some [0, 1, 5, 6, 8, 9]) B31_1
theorem L31_1_eq {E : Env} (x : St) : ev E L31_1 x = andThen (ev E B31_1 (restr (some [0, 1, 5, 6, 8, 9]) x)) (ev E L31_1) := ev_loop _ _ x
theorem L31_1_lp {E : Env} (s : Slots) (h : Heap) : ev E L31_1 ⟨s, h⟩ = lp E L31_1 (pickS s [0, 1, 5, 6, 8, 9]) h := lp_of L31_1_eq s h
theorem L31_1_go {E : Env} (s : Slots) (h : Heap) : lp E L31_1 s h = andThen (ev E B31_1 ⟨pickS s [0, 1, 5, 6, 8, 9], h⟩) (ev E L31_1) := lp_go L31_1_eq s h
noncomputable def T31_1 (E : Env) (o : Out) : Option (AV × Heap) := outR [(4, none)] (andThen (endBlock 2 (some [0, 1, 5, 6, 8, 9]) (o)) (ev E (.seq (.ops [oM 76 0, oM 77 6, ⟨some 78, none, .nilChk (.t 76)⟩, oF 79 3 78, oS 1 79 77])
  (.seq (.ops [oM 80 0, oM 81 8, ⟨some 82, none, .nilChk (.t 80)⟩, oF 83 4 82, oS 1 83 81])
  (.seq (.ops [oM 84 5, oM 4 84])
  .ret)))))
noncomputable def T31_0 (E : Env) (o : Out) : Option (AV × Heap) := outR [(4, none)] (andThen (endBlock 0 (some [0, 1, 5, 6, 7]) (o)) (ev E (.seq (.ops [⟨some 43, none, .buildSl 2 75 []⟩, oM 8 43])
  (.seq (.seq (.ops [⟨some 9, none, .mov (.c (.int .i64 0))⟩])
  (.block 2 (some [0, 1, 5, 6, 8, 9]) L31_1))
  (.seq (.ops [oM 76 0, oM 77 6, ⟨some 78, none, .nilChk (.t 76)⟩, oF 79 3 78, oS 1 79 77])
  (.seq (.ops [oM 80 0, oM 81 8, ⟨some 82, none, .nilChk (.t 80)⟩, oF 83 4 82, oS 1 83 81])
  (.seq (.ops [oM 84 5, oM 4 84])
  .ret)))))))
def I31 : Fn_ := ⟨2, 85, [(4, none)],
  (.seq (.ops [⟨some 4, none, .mov (.c (.int .i64 0))⟩])
  (.seq (.ops [⟨some 5, none, .mov (.c (.int .i64 0))⟩])
  (.seq (.ops [⟨some 10, none, .buildSl 4 71 []⟩, oM 6 10])
  (.seq (.seq (.ops [⟨some 7, none, .mov (.c (.int .i64 0))⟩])
  (.block 0 (some [0, 1, 5, 6, 7]) L31_0))
  (.seq (.ops [⟨some 43, none, .buildSl 2 75 []⟩, oM 8 43])
  (.seq (.seq (.ops [⟨some 9, none, .mov (.c (.int .i64 0))⟩])
  (.block 2 (some [0, 1, 5, 6, 8, 9]) L31_1))
  (.seq (.ops [oM 76 0, oM 77 6, ⟨some 78, none, .nilChk (.t 76)⟩, oF 79 3 78, oS 1 79 77])
  (.seq (.ops [oM 80 0, oM 81 8, ⟨some 82, none, .nilChk (.t 80)⟩, oF 83 4 82, oS 1 83 81])
  (.seq (.ops [oM 84 5, oM 4 84])
  .ret)))))))))⟩
/- (*vizard/vizardref25.Book).Of -/
def I32 : Fn_ := ⟨3, 35, [(6, some (true, 4)), (7, none)],
  (.seq (.ops [⟨some 6, none, .alloc true [(.str ⟨#[]⟩), (.int .u32 0), (.bool false), (.int .u64 0)] 71⟩, ⟨some 7, none, .mov (.c (.bool false))⟩])
  (.seq (.ops [oM 9 0, oM 10 1, ⟨some 11, none, .callF false 49 [(.t 9), (.t 10)]⟩, oM 8 11])
  (.seq (.seq (.ops [oM 12 8, ⟨some 13, none, .bin .lss (.t 12) (.c (.int .i64 0))⟩, oM 14 13, gM 15 14 false 0, ⟨some 16, (some (14, false)), .nilChk (.t 15)⟩, gF 17 14 false 3 16, gL 18 14 false 17, gM 19 14 false 8, ⟨some 20, (some (14, false)), .iaddr 4 (.t 18) (.t 19)⟩, gF 21 14 false 3 20, gL 22 14 false 21, gM 23 14 false 2, ⟨some 24, (some (14, false)), .callF true 37 [(.t 23)]⟩, ⟨some 25, (some (14, false)), .bin .leq (.t 22) (.t 24)⟩, oT 26 14 25])
  (.cond (.t 26)
  (.seq (.ops [⟨some 27, none, .build [(.str ⟨#[]⟩), (.int .u32 0), (.bool false), (.int .u64 0)] []⟩, oS 4 6 27, ⟨some 7, none, .mov (.c (.bool false))⟩])
  .ret)
  .skip))
  (.seq (.ops [oM 28 0, ⟨some 29, none, .nilChk (.t 28)⟩, oF 30 3 29, oL 31 30, oM 32 8, ⟨some 33, none, .iaddr 4 (.t 31) (.t 32)⟩, ⟨some 34, none, .load true 4 (.t 33)⟩, oS 4 6 34, ⟨some 7, none, .mov (.c (.bool true))⟩])
  .ret))))⟩
/- vizard/lease.bound -/
def I35 : Fn_ := ⟨1, 5, [(2, none)],
  (.seq (.ops [⟨some 2, none, .mov (.c (.int .u64 0))⟩])
  (.seq (.ops [oM 3 0, ⟨some 4, none, .mm false [(.t 3), (.c (.int .u64 2305843009213693952))]⟩, oM 2 4])
  .ret))⟩
/- (vizard/lease.Loan).over -/
def I36 : Fn_ := ⟨2, 9, [(4, none)],
  (.seq (.ops [⟨some 2, none, .box true 49 (.t 0)⟩, ⟨some 4, none, .mov (.c (.bool false))⟩])
  (.seq (.ops [oF 5 2 2, oL 6 5, oM 7 1, ⟨some 8, none, .bin .leq (.t 6) (.t 7)⟩, oM 4 8])
  .ret))⟩
/- vizard/vizardref25.time -/
def I37 : Fn_ := ⟨1, 5, [(2, none)],
  (.seq (.ops [⟨some 2, none, .mov (.c (.int .u64 0))⟩])
  (.seq (.ops [oM 3 0, ⟨some 4, none, .mm false [(.t 3), (.c (.int .u64 2305843009213693952))]⟩, oM 2 4])
  .ret))⟩
/- (*vizard/lease.Book).find -/
def B38_0 : C := (.seq (.ops [⟨some 26, none, .bin .lss (.t 25) (.t 24)⟩])
  (.seq (.cond (.t 26)
  .skip
  (.exit 0))
  (.seq (.block 1 (some [0, 2, 24, 25]) (.seq (.ops [oM 27 25, oM 8 27])
  (.seq (.ops [oM 28 0, ⟨some 29, none, .nilChk (.t 28)⟩, oF 30 0 29, oL 31 30, oM 32 8, ⟨some 33, none, .bin .add (.t 31) (.t 32)⟩, oM 9 33])
  (.seq (.ops [oM 34 0, oM 35 9, oM 36 2, ⟨some 37, none, .callF false 14 [(.t 34), (.t 35), (.t 36)]⟩])
  (.cond (.t 37)
  (.seq (.ops [oM 38 9, oM 6 38, ⟨some 7, none, .mov (.c (.bool true))⟩])
  .ret)
  .skip)))))
  (.ops [⟨some 39, none, .bin .add (.t 25) (.c (.int .u32 1))⟩, oM 25 39]))))
def L38_0 : C := .loop (some [0, 2, 24, 25]) B38_0
theorem L38_0_eq {E : Env} (x : St) : ev E L38_0 x = andThen (ev E B38_0 (restr (some [0, 2, 24, 25]) x)) (ev E L38_0) := ev_loop _ _ x
theorem L38_0_lp {E : Env} (s : Slots) (h : Heap) : ev E L38_0 ⟨s, h⟩ = lp E L38_0 (pickS s [0, 2, 24, 25]) h := lp_of L38_0_eq s h
theorem L38_0_go {E : Env} (s : Slots) (h : Heap) : lp E L38_0 s h = andThen (ev E B38_0 ⟨pickS s [0, 2, 24, 25], h⟩) (ev E L38_0) := lp_go L38_0_eq s h
noncomputable def T38_0 (E : Env) (o : Out) : Option (AV × Heap) := outR [(6, none), (7, none)] (andThen (endBlock 0 (some [0, 2, 24, 25]) (o)) (ev E (.seq (.ops [⟨some 6, none, .mov (.c (.int .u32 0))⟩, ⟨some 7, none, .mov (.c (.bool false))⟩])
  .ret)))
def I38 : Fn_ := ⟨3, 40, [(6, none), (7, none)],
  (.seq (.ops [⟨some 6, none, .mov (.c (.int .u32 0))⟩, ⟨some 7, none, .mov (.c (.bool false))⟩])
  (.seq (.seq (.ops [oM 10 0, oM 11 1, oM 12 2, ⟨some 13, none, .callF false 14 [(.t 10), (.t 11), (.t 12)]⟩])
  (.cond (.t 13)
  (.seq (.ops [oM 14 1, oM 6 14, ⟨some 7, none, .mov (.c (.bool true))⟩])
  .ret)
  .skip))
  (.seq (.seq (.ops [oM 15 0, ⟨some 16, none, .nilChk (.t 15)⟩, oF 17 1 16, oL 18 17, oM 19 0, ⟨some 20, none, .nilChk (.t 19)⟩, oF 21 0 20, oL 22 21, ⟨some 23, none, .bin .sub (.t 18) (.t 22)⟩, ⟨some 24, none, .bin .add (.t 23) (.c (.int .u32 1))⟩, ⟨some 25, none, .mov (.c (.int .u32 0))⟩])
  (.block 0 (some [0, 2, 24, 25]) L38_0))
  (.seq (.ops [⟨some 6, none, .mov (.c (.int .u32 0))⟩, ⟨some 7, none, .mov (.c (.bool false))⟩])
  .ret))))⟩
/- (*vizard/lease.Book).Sweep$1 -/
def I40 : Fn_ := ⟨3, 9, [(5, none)],
  (.seq (.ops [⟨some 4, none, .box true 49 (.t 1)⟩, ⟨some 5, none, .mov (.c (.bool false))⟩])
  (.seq (.ops [⟨some 6, none, .load true 3 (.t 4)⟩, oL 7 2, ⟨some 8, none, .callF false 36 [(.t 6), (.t 7)]⟩, oM 5 8])
  .ret))⟩
/- (*vizard/lease.Book).Sweep$2 -/
def I42 : Fn_ := ⟨3, 9, [(5, none)],
  (.seq (.ops [⟨some 5, none, .mov (.c (.bool false))⟩])
  (.seq (.ops [oM 6 1, oL 7 2, ⟨some 8, none, .bin .leq (.t 6) (.t 7)⟩, oM 5 8])
  .ret))⟩
/- (*vizard/lease.Book).Loans$1 -/
def B43_0 : C := (.seq (.ops [⟨some 16, none, .bin .lss (.t 15) (.t 14)⟩])
  (.seq (.cond (.t 16)
  .skip
  (.exit 0))
  (.seq (.block 1 (some [0, 3, 13, 14, 15]) (.seq (.ops [⟨some 17, none, .iaddr 1 (.t 13) (.t 15)⟩, oL 18 17, oM 5 18])
  (.seq (.ops [oM 19 0, oM 20 5, oM 21 3, oM 22 5, ⟨some 23, none, .look false .str ⟨true, [.i .u32 0, .b false, .i .u64 0]⟩ (.t 21) (.t 22)⟩, ⟨some 24, none, .callV false (.t 19) [(.t 20), (.t 23)]⟩, ⟨some 25, none, .un .not (.t 24)⟩])
  (.cond (.t 25)
  .ret
  .skip))))
  (.ops [⟨some 26, none, .bin .add (.t 15) (.c (.int .i64 1))⟩, oM 15 26]))))
def L43_0 : C := .loop (some [0, 3, 13, 14, 15]) B43_0
theorem L43_0_eq {E : Env} (x : St) : ev E L43_0 x = andThen (ev E B43_0 (restr (some [0, 3, 13, 14, 15]) x)) (ev E L43_0) := ev_loop _ _ x
theorem L43_0_lp {E : Env} (s : Slots) (h : Heap) : ev E L43_0 ⟨s, h⟩ = lp E L43_0 (pickS s [0, 3, 13, 14, 15]) h := lp_of L43_0_eq s h
theorem L43_0_go {E : Env} (s : Slots) (h : Heap) : lp E L43_0 s h = andThen (ev E B43_0 ⟨pickS s [0, 3, 13, 14, 15], h⟩) (ev E L43_0) := lp_go L43_0_eq s h
noncomputable def T43_0 (E : Env) (o : Out) : Option (AV × Heap) := outR [] (endBlock 0 (some [0, 3, 13, 14, 15]) (o))
def I43 : Fn_ := ⟨2, 27, [],
  (.seq (.ops [oL 6 1, ⟨some 7, none, .nilChk (.t 6)⟩, oF 8 3 7, oL 9 8, ⟨some 10, none, .callF false 33 [(.t 9)]⟩, oM 3 10])
  (.seq (.ops [oM 11 3, ⟨some 12, none, .callF false 45 [(.t 11)]⟩, ⟨some 13, none, .callF false 44 [(.t 12)]⟩, ⟨some 14, none, .len (.t 13)⟩, ⟨some 15, none, .mov (.c (.int .i64 0))⟩])
  (.block 0 (some [0, 3, 13, 14, 15]) L43_0)))⟩
/- slices.Sorted[string] -/
def I44 : Fn_ := ⟨1, 9, [(2, none)],
  (.seq (.ops [⟨some 2, none, .mov (.c (.rs false 1 []))⟩])
  (.seq (.ops [oM 4 0, ⟨some 5, none, .callF false 52 [(.t 4)]⟩, oM 3 5])
  (.seq (.ops [oM 6 3, ⟨some 7, none, .callF false 53 [(.t 6)]⟩])
  (.seq (.ops [oM 8 3, oM 2 8])
  .ret))))⟩
/- maps.Keys[map[string]vizard/lease.Loan,string,vizard/lease.Loan] -/
def I45 : Fn_ := ⟨1, 4, [(2, none)],
  (.seq (.ops [⟨some 1, none, .box false 66 (.t 0)⟩, ⟨some 2, none, .mov (.c .nilf)⟩])
  (.seq (.ops [⟨some 3, none, .mkFn 54 [(.t 1)]⟩, oM 2 3])
  .ret))⟩
/- slices.Sorted[uint32] -/
def I46 : Fn_ := ⟨1, 9, [(2, none)],
  (.seq (.ops [⟨some 2, none, .mov (.c (.rs false 1 []))⟩])
  (.seq (.ops [oM 4 0, ⟨some 5, none, .callF false 55 [(.t 4)]⟩, oM 3 5])
  (.seq (.ops [oM 6 3, ⟨some 7, none, .callF false 56 [(.t 6)]⟩])
  (.seq (.ops [oM 8 3, oM 2 8])
  .ret))))⟩
/- maps.Keys[map[uint32]uint64,uint32,uint64] -/
def I47 : Fn_ := ⟨1, 4, [(2, none)],
  (.seq (.ops [⟨some 1, none, .box false 67 (.t 0)⟩, ⟨some 2, none, .mov (.c .nilf)⟩])
  (.seq (.ops [⟨some 3, none, .mkFn 57 [(.t 1)]⟩, oM 2 3])
  .ret))⟩
/- (*vizard/vizardref25.Book).put -/
def B48_0 : C := (.seq (.seq (.ops [oM 18 7, oM 19 0, ⟨some 20, none, .nilChk (.t 19)⟩, oF 21 3 20, oL 22 21, ⟨some 23, none, .len (.t 22)⟩, ⟨some 24, none, .bin .lss (.t 18) (.t 23)⟩])
  (.cond (.t 24)
  .skip
  (.exit 0)))
  (.seq (.block 1 (some [0, 3, 5, 6, 7]) (.seq (.seq (.ops [oM 27 6, ⟨some 28, none, .un .not (.t 27)⟩, oM 29 28, gF 30 29 true 0 3, gL 31 29 true 30, gM 32 29 true 0, ⟨some 33, (some (29, true)), .nilChk (.t 32)⟩, gF 34 29 true 3 33, gL 35 29 true 34, gM 36 29 true 7, ⟨some 37, (some (29, true)), .iaddr 4 (.t 35) (.t 36)⟩, gF 38 29 true 0 37, gL 39 29 true 38, ⟨some 40, (some (29, true)), .bin .lss (.t 31) (.t 39)⟩, oN 41 29 40])
  (.cond (.t 41)
  (.seq (.ops [oM 42 5, ⟨some 43, none, .load true 4 (.t 3)⟩, ⟨some 44, none, .buildR 4 71 [(.t 43)]⟩, ⟨some 45, none, .append 4 32 71 (.t 42) (.t 44)⟩, oM 5 45])
  (.ops [⟨some 6, none, .mov (.c (.bool true))⟩]))
  .skip))
  (.ops [oM 46 5, oM 47 0, ⟨some 48, none, .nilChk (.t 47)⟩, oF 49 3 48, oL 50 49, oM 51 7, ⟨some 52, none, .iaddr 4 (.t 50) (.t 51)⟩, ⟨some 53, none, .load true 4 (.t 52)⟩, ⟨some 54, none, .buildR 4 71 [(.t 53)]⟩, ⟨some 55, none, .append 4 32 71 (.t 46) (.t 54)⟩, oM 5 55])))
  (.ops [oM 25 7, ⟨some 26, none, .bin .add (.t 25) (.c (.int .i64 1))⟩, oM 7 26])))
def L48_0 : C := .loop (some [0, 3, 5, 6, 7]) B48_0
theorem L48_0_eq {E : Env} (x : St) : ev E L48_0 x = andThen (ev E B48_0 (restr (some [0, 3, 5, 6, 7]) x)) (ev E L48_0) := ev_loop _ _ x
theorem L48_0_lp {E : Env} (s : Slots) (h : Heap) : ev E L48_0 ⟨s, h⟩ = lp E L48_0 (pickS s [0, 3, 5, 6, 7]) h := lp_of L48_0_eq s h
theorem L48_0_go {E : Env} (s : Slots) (h : Heap) : lp E L48_0 s h = andThen (ev E B48_0 ⟨pickS s [0, 3, 5, 6, 7], h⟩) (ev E L48_0) := lp_go L48_0_eq s h
noncomputable def T48_0 (E : Env) (o : Out) : Option (AV × Heap) := outR [] (andThen (endBlock 0 (some [0, 3, 5, 6, 7]) (o)) (ev E (.seq (.seq (.ops [oM 56 6, ⟨some 57, none, .un .not (.t 56)⟩])
  (.cond (.t 57)
  (.ops [oM 58 5, ⟨some 59, none, .load true 4 (.t 3)⟩, ⟨some 60, none, .buildR 4 71 [(.t 59)]⟩, ⟨some 61, none, .append 4 32 71 (.t 58) (.t 60)⟩, oM 5 61])
  .skip))
  (.ops [oM 62 0, oM 63 5, ⟨some 64, none, .nilChk (.t 62)⟩, oF 65 3 64, oS 1 65 63]))))
def I48 : Fn_ := ⟨2, 66, [],
  (.seq (.ops [⟨some 3, none, .box true 71 (.t 1)⟩])
  (.seq (.ops [oM 8 0, oF 9 0 3, oL 10 9, ⟨some 11, none, .callF false 49 [(.t 8), (.t 10)]⟩, oM 4 11])
  (.seq (.seq (.ops [oM 12 4, ⟨some 13, none, .bin .geq (.t 12) (.c (.int .i64 0))⟩])
  (.cond (.t 13)
  (.ops [oM 14 0, oM 15 4, ⟨some 16, none, .callM 50 [(.t 14), (.t 15)]⟩])
  .skip))
  (.seq (.ops [⟨some 17, none, .buildSl 4 71 []⟩, oM 5 17])
  (.seq (.ops [⟨some 6, none, .mov (.c (.bool false))⟩])
  (.seq (.seq (.ops [⟨some 7, none, .mov (.c (.int .i64 0))⟩])
  (.block 0 (some [0, 3, 5, 6, 7]) L48_0))
  (.seq (.seq (.ops [oM 56 6, ⟨some 57, none, .un .not (.t 56)⟩])
  (.cond (.t 57)
  (.ops [oM 58 5, ⟨some 59, none, .load true 4 (.t 3)⟩, ⟨some 60, none, .buildR 4 71 [(.t 59)]⟩, ⟨some 61, none, .append 4 32 71 (.t 58) (.t 60)⟩, oM 5 61])
  .skip))
  (.ops [oM 62 0, oM 63 5, ⟨some 64, none, .nilChk (.t 62)⟩, oF 65 3 64, oS 1 65 63]))))))))⟩
/- (*vizard/vizardref25.Book).find -/
def B49_0 : C := (.seq (.seq (.ops [oM 6 5, oM 7 0, ⟨some 8, none, .nilChk (.t 7)⟩, oF 9 3 8, oL 10 9, ⟨some 11, none, .len (.t 10)⟩, ⟨some 12, none, .bin .lss (.t 6) (.t 11)⟩])
  (.cond (.t 12)
  .skip
  (.exit 0)))
  (.seq (.block 1 (some [0, 1, 5]) (.seq (.ops [oM 15 0, ⟨some 16, none, .nilChk (.t 15)⟩, oF 17 3 16, oL 18 17, oM 19 5, ⟨some 20, none, .iaddr 4 (.t 18) (.t 19)⟩, oF 21 0 20, oL 22 21, oM 23 1, ⟨some 24, none, .bin .eql (.t 22) (.t 23)⟩])
  (.cond (.t 24)
  (.seq (.ops [oM 25 5, oM 4 25])
  .ret)
  .skip)))
  (.ops [oM 13 5, ⟨some 14, none, .bin .add (.t 13) (.c (.int .i64 1))⟩, oM 5 14])))
def L49_0 : C := .loop (some [0, 1, 5]) B49_0
theorem L49_0_eq {E : Env} (x : St) : ev E L49_0 x = andThen (ev E B49_0 (restr (some [0, 1, 5]) x)) (ev E L49_0) := ev_loop _ _ x
theorem L49_0_lp {E : Env} (s : Slots) (h : Heap) : ev E L49_0 ⟨s, h⟩ = lp E L49_0 (pickS s [0, 1, 5]) h := lp_of L49_0_eq s h
theorem L49_0_go {E : Env} (s : Slots) (h : Heap) : lp E L49_0 s h = andThen (ev E B49_0 ⟨pickS s [0, 1, 5], h⟩) (ev E L49_0) := lp_go L49_0_eq s h
noncomputable def T49_0 (E : Env) (o : Out) : Option (AV × Heap) := outR [(4, none)] (andThen (endBlock 0 (some [0, 1, 5]) (o)) (ev E (.seq (.ops [⟨some 4, none, .mov (.c (.int .i64 (-1)))⟩])
  .ret)))
def I49 : Fn_ := ⟨2, 26, [(4, none)],
  (.seq (.ops [⟨some 4, none, .mov (.c (.int .i64 0))⟩])
  (.seq (.seq (.ops [⟨some 5, none, .mov (.c (.int .i64 0))⟩])
  (.block 0 (some [0, 1, 5]) L49_0))
  (.seq (.ops [⟨some 4, none, .mov (.c (.int .i64 (-1)))⟩])
  .ret)))⟩
/- (*vizard/vizardref25.Book).cut -/
def I50 : Fn_ := ⟨2, 23, [],
  (.ops [oM 4 0, ⟨some 5, none, .buildR 4 71 []⟩, oM 6 0, ⟨some 7, none, .nilChk (.t 6)⟩, oF 8 3 7, oL 9 8, oM 10 1, ⟨some 11, none, .slice 4 (.t 9) none (some (.t 10))⟩, ⟨some 12, none, .append 4 32 71 (.t 5) (.t 11)⟩, oM 13 0, ⟨some 14, none, .nilChk (.t 13)⟩, oF 15 3 14, ⟨some 16, none, .loadC false 1 (.t 15)⟩, oM 17 1, ⟨some 18, none, .bin .add (.t 17) (.c (.int .i64 1))⟩, ⟨some 19, none, .sliceR 4 (.t 16) (some (.t 18)) none⟩, ⟨some 20, none, .append 4 32 71 (.t 12) (.t 19)⟩, ⟨some 21, none, .nilChk (.t 4)⟩, oF 22 3 21, oS 1 22 20])⟩
/- slices.Collect[string] -/
def I52 : Fn_ := ⟨1, 5, [(2, none)],
  (.seq (.ops [⟨some 2, none, .mov (.c (.rs false 1 []))⟩])
  (.seq (.ops [oM 3 0, ⟨some 4, none, .callF false 58 [(.c (.rs false 1 [])), (.t 3)]⟩, oM 2 4])
  .ret))⟩
/- slices.Sort[[]string,string] -/
def I53 : Fn_ := ⟨1, 11, [],
  (.seq (.ops [oM 3 0, ⟨some 4, none, .len (.t 3)⟩, oM 2 4])
  (.ops [oM 5 0, oM 6 2, oM 7 2, ⟨some 8, none, .conv .u64 (.t 7)⟩, ⟨some 9, none, .callF false 60 [(.t 8)]⟩, ⟨some 10, none, .callF false 59 [(.t 5), (.c (.int .i64 0)), (.t 6), (.t 9)]⟩]))⟩
/- slices.Collect[uint32] -/
def I55 : Fn_ := ⟨1, 5, [(2, none)],
  (.seq (.ops [⟨some 2, none, .mov (.c (.rs false 1 []))⟩])
  (.seq (.ops [oM 3 0, ⟨some 4, none, .callF false 61 [(.c (.rs false 1 [])), (.t 3)]⟩, oM 2 4])
  .ret))⟩
/- slices.Sort[[]uint32,uint32] -/
def I56 : Fn_ := ⟨1, 11, [],
  (.seq (.ops [oM 3 0, ⟨some 4, none, .len (.t 3)⟩, oM 2 4])
  (.ops [oM 5 0, oM 6 2, oM 7 2, ⟨some 8, none, .conv .u64 (.t 7)⟩, ⟨some 9, none, .callF false 60 [(.t 8)]⟩, ⟨some 10, none, .callF false 62 [(.t 5), (.c (.int .i64 0)), (.t 6), (.t 9)]⟩]))⟩
/- slices.AppendSeq[[]string,string] -/
def A58_r0 : C := (.ops [oM 5 7])
def R58_r0 : C := (.block 1 (some [2, 5]) (.ops [oL 8 2, oM 9 5, ⟨some 10, none, .buildR 1 9 [(.t 9)]⟩, ⟨some 11, none, .append 1 16 9 (.t 8) (.t 10)⟩, oS 1 2 11]))
noncomputable def T58_r0 (E : Env) (o : Out) : Option (AV × Heap) := outR [(4, none)] (andThen (endBlock 0 (some [2, 6]) (o)) (ev E (.seq (.ops [oL 12 2, oM 4 12])
  .ret)))
def I58 : Fn_ := ⟨2, 13, [(4, none)],
  (.seq (.ops [⟨some 2, none, .box false 85 (.t 0)⟩, ⟨some 4, none, .mov (.c (.rs false 1 []))⟩])
  (.seq (.seq (.ops [oM 6 1])
  (.block 0 (some [2, 6]) (.rangeF (.t 6) [7] A58_r0 R58_r0)))
  (.seq (.ops [oL 12 2, oM 4 12])
  .ret)))⟩
/- slices.pdqsortOrdered[string] -/
def B59_0 : C := (.block 1 (some [0, 1, 2, 3, 8, 9]) (.seq (.ops [oM 19 2, oM 20 1, ⟨some 21, none, .bin .sub (.t 19) (.t 20)⟩, oM 10 21])
  (.seq (.seq (.ops [oM 22 10, ⟨some 23, none, .bin .leq (.t 22) (.c (.int .i64 12))⟩])
  (.cond (.t 23)
  (.seq (.ops [oM 24 0, oM 25 1, oM 26 2, ⟨some 27, none, .callF false 63 [(.t 24), (.t 25), (.t 26)]⟩])
  .ret)
  .skip))
  (.seq (.seq (.ops [oM 28 3, ⟨some 29, none, .bin .eql (.t 28) (.c (.int .i64 0))⟩])
  (.cond (.t 29)
  (.seq (.ops [oM 30 0, oM 31 1, oM 32 2, ⟨some 33, none, .callF false 64 [(.t 30), (.t 31), (.t 32)]⟩])
  .ret)
  .skip))
  (.seq (.seq (.ops [oM 34 8, ⟨some 35, none, .un .not (.t 34)⟩])
  (.cond (.t 35)
  (.seq (.ops [oM 36 0, oM 37 1, oM 38 2, ⟨some 39, none, .callF false 65 [(.t 36), (.t 37), (.t 38)]⟩])
  (.ops [oM 40 3, ⟨some 41, none, .bin .sub (.t 40) (.c (.int .i64 1))⟩, oM 3 41]))
  .skip))
  (.seq (.ops [oM 43 0, oM 44 1, oM 45 2, ⟨some 46, none, .callF false 66 [(.t 43), (.t 44), (.t 45)]⟩, oM 42 46, oE 47 42 0, oE 48 42 1, oM 11 47, oM 12 48])
  (.seq (.seq (.ops [oM 49 12, ⟨some 50, none, .bin .eql (.t 49) (.c (.int .i64 2))⟩])
  (.cond (.t 50)
  (.seq (.ops [oM 51 0, oM 52 1, oM 53 2, ⟨some 54, none, .callF false 67 [(.t 51), (.t 52), (.t 53)]⟩])
  (.seq (.ops [oM 55 2, ⟨some 56, none, .bin .sub (.t 55) (.c (.int .i64 1))⟩, oM 57 11, oM 58 1, ⟨some 59, none, .bin .sub (.t 57) (.t 58)⟩, ⟨some 60, none, .bin .sub (.t 56) (.t 59)⟩, oM 11 60])
  (.ops [⟨some 12, none, .mov (.c (.int .i64 1))⟩])))
  .skip))
  (.seq (.seq (.ops [oM 61 8, oM 62 61, gM 63 62 true 9, oN 64 62 63, oM 65 64, gM 66 65 true 12, ⟨some 67, (some (65, true)), .bin .eql (.t 66) (.c (.int .i64 1))⟩, oN 68 65 67])
  (.cond (.t 68)
  (.seq (.ops [oM 69 0, oM 70 1, oM 71 2, ⟨some 72, none, .callF false 68 [(.t 69), (.t 70), (.t 71)]⟩])
  (.cond (.t 72)
  .ret
  .skip))
  .skip))
  (.seq (.seq (.ops [oM 73 1, ⟨some 74, none, .bin .gtr (.t 73) (.c (.int .i64 0))⟩, oM 75 74, gM 76 75 true 0, gM 77 75 true 1, ⟨some 78, (some (75, true)), .bin .sub (.t 77) (.c (.int .i64 1))⟩, ⟨some 79, (some (75, true)), .iaddr 1 (.t 76) (.t 78)⟩, gL 80 75 true 79, gM 81 75 true 0, gM 82 75 true 11, ⟨some 83, (some (75, true)), .iaddr 1 (.t 81) (.t 82)⟩, gL 84 75 true 83, ⟨some 85, (some (75, true)), .callF true 69 [(.t 80), (.t 84)]⟩, ⟨some 86, (some (75, true)), .un .not (.t 85)⟩, oN 87 75 86])
  (.cond (.t 87)
  (.seq (.ops [oM 88 0, oM 89 1, oM 90 2, oM 91 11, ⟨some 92, none, .callF false 70 [(.t 88), (.t 89), (.t 90), (.t 91)]⟩, oM 13 92])
  (.seq (.ops [oM 93 13, oM 1 93])
  (.exit 1)))
  .skip))
  (.seq (.ops [oM 95 0, oM 96 1, oM 97 2, oM 98 11, ⟨some 99, none, .callF false 71 [(.t 95), (.t 96), (.t 97), (.t 98)]⟩, oM 94 99, oE 100 94 0, oE 101 94 1, oM 14 100, oM 15 101])
  (.seq (.ops [oM 102 15, oM 9 102])
  (.seq (.ops [oM 103 14, oM 104 1, ⟨some 105, none, .bin .sub (.t 103) (.t 104)⟩, oM 106 2, oM 107 14, ⟨some 108, none, .bin .sub (.t 106) (.t 107)⟩, oM 16 105, oM 17 108])
  (.seq (.ops [oM 109 10, ⟨some 110, none, .bin .quo (.t 109) (.c (.int .i64 8))⟩, oM 18 110])
  (.seq (.ops [oM 111 16, oM 112 17, ⟨some 113, none, .bin .lss (.t 111) (.t 112)⟩])
  (.cond (.t 113)
  (.seq (.ops [oM 114 16, oM 115 18, ⟨some 116, none, .bin .geq (.t 114) (.t 115)⟩, oM 8 116])
  (.seq (.ops [oM 117 0, oM 118 1, oM 119 14, oM 120 3, ⟨some 121, none, .callF false 59 [(.t 117), (.t 118), (.t 119), (.t 120)]⟩])
  (.ops [oM 122 14, ⟨some 123, none, .bin .add (.t 122) (.c (.int .i64 1))⟩, oM 1 123])))
  (.seq (.ops [oM 124 17, oM 125 18, ⟨some 126, none, .bin .geq (.t 124) (.t 125)⟩, oM 8 126])
  (.seq (.ops [oM 127 0, oM 128 14, ⟨some 129, none, .bin .add (.t 128) (.c (.int .i64 1))⟩, oM 130 2, oM 131 3, ⟨some 132, none, .callF false 59 [(.t 127), (.t 129), (.t 130), (.t 131)]⟩])
  (.ops [oM 133 14, oM 2 133]))))))))))))))))))
def L59_0 : C := .loop (some [0, 1, 2, 3, 8, 9]) B59_0
theorem L59_0_eq {E : Env} (x : St) : ev E L59_0 x = andThen (ev E B59_0 (restr (some [0, 1, 2, 3, 8, 9]) x)) (ev E L59_0) := ev_loop _ _ x
theorem L59_0_lp {E : Env} (s : Slots) (h : Heap) : ev E L59_0 ⟨s, h⟩ = lp E L59_0 (pickS s [0, 1, 2, 3, 8, 9]) h := lp_of L59_0_eq s h
theorem L59_0_go {E : Env} (s : Slots) (h : Heap) : lp E L59_0 s h = andThen (ev E B59_0 ⟨pickS s [0, 1, 2, 3, 8, 9], h⟩) (ev E L59_0) := lp_go L59_0_eq s h
noncomputable def T59_0 (E : Env) (o : Out) : Option (AV × Heap) := outR [] (endBlock 0 (some [0, 1, 2, 3, 8, 9]) (o))
def I59 : Fn_ := ⟨4, 134, [],
  (.seq (.ops [⟨some 8, none, .mov (.c (.bool true))⟩])
  (.seq (.ops [⟨some 9, none, .mov (.c (.bool true))⟩])
  (.block 0 (some [0, 1, 2, 3, 8, 9]) L59_0)))⟩
/- math/bits.Len -/
def I60 : Fn_ := ⟨1, 8, [(2, none)],
  (.seq (.ops [⟨some 2, none, .mov (.c (.int .i64 0))⟩])
  (.seq (.cond (.c (.bool false))
  (.seq (.ops [oM 3 0, ⟨some 4, none, .conv .u32 (.t 3)⟩, ⟨some 5, none, .callF false 72 [(.t 4)]⟩, oM 2 5])
  .ret)
  .skip)
  (.seq (.ops [oM 6 0, ⟨some 7, none, .callF false 73 [(.t 6)]⟩, oM 2 7])
  .ret)))⟩
/- slices.AppendSeq[[]uint32,uint32] -/
def A61_r0 : C := (.ops [oM 5 7])
def R61_r0 : C := (.block 1 (some [2, 5]) (.ops [oL 8 2, oM 9 5, ⟨some 10, none, .buildR 1 22 [(.t 9)]⟩, ⟨some 11, none, .append 1 4 22 (.t 8) (.t 10)⟩, oS 1 2 11]))
noncomputable def T61_r0 (E : Env) (o : Out) : Option (AV × Heap) := outR [(4, none)] (andThen (endBlock 0 (some [2, 6]) (o)) (ev E (.seq (.ops [oL 12 2, oM 4 12])
  .ret)))
def I61 : Fn_ := ⟨2, 13, [(4, none)],
  (.seq (.ops [⟨some 2, none, .box false 23 (.t 0)⟩, ⟨some 4, none, .mov (.c (.rs false 1 []))⟩])
  (.seq (.seq (.ops [oM 6 1])
  (.block 0 (some [2, 6]) (.rangeF (.t 6) [7] A61_r0 R61_r0)))
  (.seq (.ops [oL 12 2, oM 4 12])
  .ret)))⟩
/- slices.pdqsortOrdered[uint32] -/
def B62_0 : C := (.block 1 (some [0, 1, 2, 3, 8, 9]) (.seq (.ops [oM 19 2, oM 20 1, ⟨some 21, none, .bin .sub (.t 19) (.t 20)⟩, oM 10 21])
  (.seq (.seq (.ops [oM 22 10, ⟨some 23, none, .bin .leq (.t 22) (.c (.int .i64 12))⟩])
  (.cond (.t 23)
  (.seq (.ops [oM 24 0, oM 25 1, oM 26 2, ⟨some 27, none, .callF false 74 [(.t 24), (.t 25), (.t 26)]⟩])
  .ret)
  .skip))
  (.seq (.seq (.ops [oM 28 3, ⟨some 29, none, .bin .eql (.t 28) (.c (.int .i64 0))⟩])
  (.cond (.t 29)
  (.seq (.ops [oM 30 0, oM 31 1, oM 32 2, ⟨some 33, none, .callF false 75 [(.t 30), (.t 31), (.t 32)]⟩])
  .ret)
  .skip))
  (.seq (.seq (.ops [oM 34 8, ⟨some 35, none, .un .not (.t 34)⟩])
  (.cond (.t 35)
  (.seq (.ops [oM 36 0, oM 37 1, oM 38 2, ⟨some 39, none, .callF false 76 [(.t 36), (.t 37), (.t 38)]⟩])
  (.ops [oM 40 3, ⟨some 41, none, .bin .sub (.t 40) (.c (.int .i64 1))⟩, oM 3 41]))
  .skip))
  (.seq (.ops [oM 43 0, oM 44 1, oM 45 2, ⟨some 46, none, .callF false 77 [(.t 43), (.t 44), (.t 45)]⟩, oM 42 46, oE 47 42 0, oE 48 42 1, oM 11 47, oM 12 48])
  (.seq (.seq (.ops [oM 49 12, ⟨some 50, none, .bin .eql (.t 49) (.c (.int .i64 2))⟩])
  (.cond (.t 50)
  (.seq (.ops [oM 51 0, oM 52 1, oM 53 2, ⟨some 54, none, .callF false 78 [(.t 51), (.t 52), (.t 53)]⟩])
  (.seq (.ops [oM 55 2, ⟨some 56, none, .bin .sub (.t 55) (.c (.int .i64 1))⟩, oM 57 11, oM 58 1, ⟨some 59, none, .bin .sub (.t 57) (.t 58)⟩, ⟨some 60, none, .bin .sub (.t 56) (.t 59)⟩, oM 11 60])
  (.ops [⟨some 12, none, .mov (.c (.int .i64 1))⟩])))
  .skip))
  (.seq (.seq (.ops [oM 61 8, oM 62 61, gM 63 62 true 9, oN 64 62 63, oM 65 64, gM 66 65 true 12, ⟨some 67, (some (65, true)), .bin .eql (.t 66) (.c (.int .i64 1))⟩, oN 68 65 67])
  (.cond (.t 68)
  (.seq (.ops [oM 69 0, oM 70 1, oM 71 2, ⟨some 72, none, .callF false 79 [(.t 69), (.t 70), (.t 71)]⟩])
  (.cond (.t 72)
  .ret
  .skip))
  .skip))
  (.seq (.seq (.ops [oM 73 1, ⟨some 74, none, .bin .gtr (.t 73) (.c (.int .i64 0))⟩, oM 75 74, gM 76 75 true 0, gM 77 75 true 1, ⟨some 78, (some (75, true)), .bin .sub (.t 77) (.c (.int .i64 1))⟩, ⟨some 79, (some (75, true)), .iaddr 1 (.t 76) (.t 78)⟩, gL 80 75 true 79, gM 81 75 true 0, gM 82 75 true 11, ⟨some 83, (some (75, true)), .iaddr 1 (.t 81) (.t 82)⟩, gL 84 75 true 83, ⟨some 85, (some (75, true)), .callF true 80 [(.t 80), (.t 84)]⟩, ⟨some 86, (some (75, true)), .un .not (.t 85)⟩, oN 87 75 86])
  (.cond (.t 87)
  (.seq (.ops [oM 88 0, oM 89 1, oM 90 2, oM 91 11, ⟨some 92, none, .callF false 81 [(.t 88), (.t 89), (.t 90), (.t 91)]⟩, oM 13 92])
  (.seq (.ops [oM 93 13, oM 1 93])
  (.exit 1)))
  .skip))
  (.seq (.ops [oM 95 0, oM 96 1, oM 97 2, oM 98 11, ⟨some 99, none, .callF false 82 [(.t 95), (.t 96), (.t 97), (.t 98)]⟩, oM 94 99, oE 100 94 0, oE 101 94 1, oM 14 100, oM 15 101])
  (.seq (.ops [oM 102 15, oM 9 102])
  (.seq (.ops [oM 103 14, oM 104 1, ⟨some 105, none, .bin .sub (.t 103) (.t 104)⟩, oM 106 2, oM 107 14, ⟨some 108, none, .bin .sub (.t 106) (.t 107)⟩, oM 16 105, oM 17 108])
  (.seq (.ops [oM 109 10, ⟨some 110, none, .bin .quo (.t 109) (.c (.int .i64 8))⟩, oM 18 110])
  (.seq (.ops [oM 111 16, oM 112 17, ⟨some 113, none, .bin .lss (.t 111) (.t 112)⟩])
  (.cond (.t 113)
  (.seq (.ops [oM 114 16, oM 115 18, ⟨some 116, none, .bin .geq (.t 114) (.t 115)⟩, oM 8 116])
  (.seq (.ops [oM 117 0, oM 118 1, oM 119 14, oM 120 3, ⟨some 121, none, .callF false 62 [(.t 117), (.t 118), (.t 119), (.t 120)]⟩])
  (.ops [oM 122 14, ⟨some 123, none, .bin .add (.t 122) (.c (.int .i64 1))⟩, oM 1 123])))
  (.seq (.ops [oM 124 17, oM 125 18, ⟨some 126, none, .bin .geq (.t 124) (.t 125)⟩, oM 8 126])
  (.seq (.ops [oM 127 0, oM 128 14, ⟨some 129, none, .bin .add (.t 128) (.c (.int .i64 1))⟩, oM 130 2, oM 131 3, ⟨some 132, none, .callF false 62 [(.t 127), (.t 129), (.t 130), (.t 131)]⟩])
  (.ops [oM 133 14, oM 2 133]))))))))))))))))))
def L62_0 : C := .loop (some [0, 1, 2, 3, 8, 9]) B62_0
theorem L62_0_eq {E : Env} (x : St) : ev E L62_0 x = andThen (ev E B62_0 (restr (some [0, 1, 2, 3, 8, 9]) x)) (ev E L62_0) := ev_loop _ _ x
theorem L62_0_lp {E : Env} (s : Slots) (h : Heap) : ev E L62_0 ⟨s, h⟩ = lp E L62_0 (pickS s [0, 1, 2, 3, 8, 9]) h := lp_of L62_0_eq s h
theorem L62_0_go {E : Env} (s : Slots) (h : Heap) : lp E L62_0 s h = andThen (ev E B62_0 ⟨pickS s [0, 1, 2, 3, 8, 9], h⟩) (ev E L62_0) := lp_go L62_0_eq s h
noncomputable def T62_0 (E : Env) (o : Out) : Option (AV × Heap) := outR [] (endBlock 0 (some [0, 1, 2, 3, 8, 9]) (o))
def I62 : Fn_ := ⟨4, 134, [],
  (.seq (.ops [⟨some 8, none, .mov (.c (.bool true))⟩])
  (.seq (.ops [⟨some 9, none, .mov (.c (.bool true))⟩])
  (.block 0 (some [0, 1, 2, 3, 8, 9]) L62_0)))⟩
/- slices.insertionSortOrdered[string] -/
def B63_0 : C := (.seq (.seq (.ops [oM 16 7, oM 17 1, ⟨some 18, none, .bin .gtr (.t 16) (.t 17)⟩, oM 19 18, gM 20 19 true 0, gM 21 19 true 7, ⟨some 22, (some (19, true)), .iaddr 1 (.t 20) (.t 21)⟩, gL 23 19 true 22, gM 24 19 true 0, gM 25 19 true 7, ⟨some 26, (some (19, true)), .bin .sub (.t 25) (.c (.int .i64 1))⟩, ⟨some 27, (some (19, true)), .iaddr 1 (.t 24) (.t 26)⟩, gL 28 19 true 27, ⟨some 29, (some (19, true)), .callF true 69 [(.t 23), (.t 28)]⟩, oN 30 19 29])
  (.cond (.t 30)
  .skip
  (.exit 2)))
  (.seq (.block 3 (some [0, 1, 2, 6, 7]) (.ops [oM 33 0, oM 34 7, oM 35 0, oM 36 7, ⟨some 37, none, .bin .sub (.t 36) (.c (.int .i64 1))⟩, oM 38 0, oM 39 7, ⟨some 40, none, .bin .sub (.t 39) (.c (.int .i64 1))⟩, ⟨some 41, none, .iaddr 1 (.t 38) (.t 40)⟩, oL 42 41, oM 43 0, oM 44 7, ⟨some 45, none, .iaddr 1 (.t 43) (.t 44)⟩, oL 46 45, ⟨some 47, none, .iaddr 1 (.t 33) (.t 34)⟩, oS 1 47 42, ⟨some 48, none, .iaddr 1 (.t 35) (.t 37)⟩, oS 1 48 46]))
  (.ops [oM 31 7, ⟨some 32, none, .bin .sub (.t 31) (.c (.int .i64 1))⟩, oM 7 32])))
def L63_0 : C := .loop (some [0, 1, 2, 6, 7]) B63_0
theorem L63_0_eq {E : Env} (x : St) : ev E L63_0 x = andThen (ev E B63_0 (restr (some [0, 1, 2, 6, 7]) x)) (ev E L63_0) := ev_loop _ _ x
theorem L63_0_lp {E : Env} (s : Slots) (h : Heap) : ev E L63_0 ⟨s, h⟩ = lp E L63_0 (pickS s [0, 1, 2, 6, 7]) h := lp_of L63_0_eq s h
theorem L63_0_go {E : Env} (s : Slots) (h : Heap) : lp E L63_0 s h = andThen (ev E B63_0 ⟨pickS s [0, 1, 2, 6, 7], h⟩) (ev E L63_0) := lp_go L63_0_eq s h
def B63_1 : C := (.seq (.seq (.ops [oM 10 6, oM 11 2, ⟨some 12, none, .bin .lss (.t 10) (.t 11)⟩])
  (.cond (.t 12)
  .skip
  (.exit 0)))
  (.seq (.block 1 (some [0, 1, 2, 6]) (.seq (.ops [oM 15 6, oM 7 15])
  (.block 2 (some [0, 1, 2, 6, 7]) L63_0)))
  (.ops [oM 13 6, ⟨some 14, none, .bin .add (.t 13) (.c (.int .i64 1))⟩, oM 6 14])))
def L63_1 : C := .loop (some [0, 1, 2, 6]) B63_1
theorem L63_1_eq {E : Env} (x : St) : ev E L63_1 x = andThen (ev E B63_1 (restr (some [0, 1, 2, 6]) x)) (ev E L63_1) := ev_loop _ _ x
theorem L63_1_lp {E : Env} (s : Slots) (h : Heap) : ev E L63_1 ⟨s, h⟩ = lp E L63_1 (pickS s [0, 1, 2, 6]) h := lp_of L63_1_eq s h
theorem L63_1_go {E : Env} (s : Slots) (h : Heap) : lp E L63_1 s h = andThen (ev E B63_1 ⟨pickS s [0, 1, 2, 6], h⟩) (ev E L63_1) := lp_go L63_1_eq s h
noncomputable def T63_1 (E : Env) (o : Out) : Option (AV × Heap) := outR [] (endBlock 0 (some [0, 1, 2, 6]) (o))
noncomputable def T63_0 (E : Env) (o : Out) : Option (AV × Heap) := T63_1 E (andThen (andThen (endBlock 1 (some [0, 1, 2, 6]) (endBlock 2 (some [0, 1, 2, 6, 7]) (o))) (ev E (.ops [oM 13 6, ⟨some 14, none, .bin .add (.t 13) (.c (.int .i64 1))⟩, oM 6 14]))) (ev E L63_1))
def I63 : Fn_ := ⟨3, 49, [],
  (.seq (.ops [oM 8 1, ⟨some 9, none, .bin .add (.t 8) (.c (.int .i64 1))⟩, oM 6 9])
  (.block 0 (some [0, 1, 2, 6]) L63_1))⟩
/- slices.heapSortOrdered[string] -/
def B64_0 : C := (.seq (.seq (.ops [oM 18 9, ⟨some 19, none, .bin .geq (.t 18) (.c (.int .i64 0))⟩])
  (.cond (.t 19)
  .skip
  (.exit 0)))
  (.seq (.block 1 (some [0, 6, 7, 8, 9]) (.ops [oM 22 0, oM 23 9, oM 24 8, oM 25 6, ⟨some 26, none, .callF false 83 [(.t 22), (.t 23), (.t 24), (.t 25)]⟩]))
  (.ops [oM 20 9, ⟨some 21, none, .bin .sub (.t 20) (.c (.int .i64 1))⟩, oM 9 21])))
def L64_0 : C := .loop (some [0, 6, 7, 8, 9]) B64_0
theorem L64_0_eq {E : Env} (x : St) : ev E L64_0 x = andThen (ev E B64_0 (restr (some [0, 6, 7, 8, 9]) x)) (ev E L64_0) := ev_loop _ _ x
theorem L64_0_lp {E : Env} (s : Slots) (h : Heap) : ev E L64_0 ⟨s, h⟩ = lp E L64_0 (pickS s [0, 6, 7, 8, 9]) h := lp_of L64_0_eq s h
theorem L64_0_go {E : Env} (s : Slots) (h : Heap) : lp E L64_0 s h = andThen (ev E B64_0 ⟨pickS s [0, 6, 7, 8, 9], h⟩) (ev E L64_0) := lp_go L64_0_eq s h
def B64_1 : C := (.seq (.seq (.ops [oM 29 10, ⟨some 30, none, .bin .geq (.t 29) (.c (.int .i64 0))⟩])
  (.cond (.t 30)
  .skip
  (.exit 2)))
  (.seq (.block 3 (some [0, 6, 7, 10]) (.seq (.ops [oM 33 0, oM 34 6, oM 35 0, oM 36 6, oM 37 10, ⟨some 38, none, .bin .add (.t 36) (.t 37)⟩, oM 39 0, oM 40 6, oM 41 10, ⟨some 42, none, .bin .add (.t 40) (.t 41)⟩, ⟨some 43, none, .iaddr 1 (.t 39) (.t 42)⟩, oL 44 43, oM 45 0, oM 46 6, ⟨some 47, none, .iaddr 1 (.t 45) (.t 46)⟩, oL 48 47, ⟨some 49, none, .iaddr 1 (.t 33) (.t 34)⟩, oS 1 49 44, ⟨some 50, none, .iaddr 1 (.t 35) (.t 38)⟩, oS 1 50 48])
  (.ops [oM 51 0, oM 52 7, oM 53 10, oM 54 6, ⟨some 55, none, .callF false 83 [(.t 51), (.t 52), (.t 53), (.t 54)]⟩])))
  (.ops [oM 31 10, ⟨some 32, none, .bin .sub (.t 31) (.c (.int .i64 1))⟩, oM 10 32])))
def L64_1 : C := .loop (some [0, 6, 7, 10]) B64_1
theorem L64_1_eq {E : Env} (x : St) : ev E L64_1 x = andThen (ev E B64_1 (restr (some [0, 6, 7, 10]) x)) (ev E L64_1) := ev_loop _ _ x
theorem L64_1_lp {E : Env} (s : Slots) (h : Heap) : ev E L64_1 ⟨s, h⟩ = lp E L64_1 (pickS s [0, 6, 7, 10]) h := lp_of L64_1_eq s h
theorem L64_1_go {E : Env} (s : Slots) (h : Heap) : lp E L64_1 s h = andThen (ev E B64_1 ⟨pickS s [0, 6, 7, 10], h⟩) (ev E L64_1) := lp_go L64_1_eq s h
noncomputable def T64_1 (E : Env) (o : Out) : Option (AV × Heap) := outR [] (endBlock 2 (some [0, 6, 7, 10]) (o))
noncomputable def T64_0 (E : Env) (o : Out) : Option (AV × Heap) := outR [] (andThen (endBlock 0 (some [0, 6, 7, 8, 9]) (o)) (ev E (.seq (.ops [oM 27 8, ⟨some 28, none, .bin .sub (.t 27) (.c (.int .i64 1))⟩, oM 10 28])
  (.block 2 (some [0, 6, 7, 10]) L64_1))))
def I64 : Fn_ := ⟨3, 56, [],
  (.seq (.ops [oM 11 1, oM 6 11])
  (.seq (.ops [⟨some 7, none, .mov (.c (.int .i64 0))⟩])
  (.seq (.ops [oM 12 2, oM 13 1, ⟨some 14, none, .bin .sub (.t 12) (.t 13)⟩, oM 8 14])
  (.seq (.seq (.ops [oM 15 8, ⟨some 16, none, .bin .sub (.t 15) (.c (.int .i64 1))⟩, ⟨some 17, none, .bin .quo (.t 16) (.c (.int .i64 2))⟩, oM 9 17])
  (.block 0 (some [0, 6, 7, 8, 9]) L64_0))
  (.seq (.ops [oM 27 8, ⟨some 28, none, .bin .sub (.t 27) (.c (.int .i64 1))⟩, oM 10 28])
  (.block 2 (some [0, 6, 7, 10]) L64_1))))))⟩
/- slices.breakPatternsOrdered[string] -/
def B65_0 : C := (.seq (.seq (.ops [oM 26 9, oM 27 1, oM 28 6, ⟨some 29, none, .bin .quo (.t 28) (.c (.int .i64 4))⟩, ⟨some 30, none, .bin .mul (.t 29) (.c (.int .i64 2))⟩, ⟨some 31, none, .bin .add (.t 27) (.t 30)⟩, ⟨some 32, none, .bin .add (.t 31) (.c (.int .i64 1))⟩, ⟨some 33, none, .bin .leq (.t 26) (.t 32)⟩])
  (.cond (.t 33)
  .skip
  (.exit 0)))
  (.seq (.block 1 (some [0, 1, 6, 7, 8, 9]) (.seq (.ops [⟨some 36, none, .callF false 85 [(.t 7)]⟩, oM 37 8, ⟨some 38, none, .bin .sub (.t 37) (.c (.int .u64 1))⟩, ⟨some 39, none, .bin .and (.t 36) (.t 38)⟩, ⟨some 40, none, .conv .i64 (.t 39)⟩, oM 10 40])
  (.seq (.seq (.ops [oM 41 10, oM 42 6, ⟨some 43, none, .bin .geq (.t 41) (.t 42)⟩])
  (.cond (.t 43)
  (.ops [oM 44 10, oM 45 6, ⟨some 46, none, .bin .sub (.t 44) (.t 45)⟩, oM 10 46])
  .skip))
  (.ops [oM 47 0, oM 48 9, oM 49 0, oM 50 1, oM 51 10, ⟨some 52, none, .bin .add (.t 50) (.t 51)⟩, oM 53 0, oM 54 1, oM 55 10, ⟨some 56, none, .bin .add (.t 54) (.t 55)⟩, ⟨some 57, none, .iaddr 1 (.t 53) (.t 56)⟩, oL 58 57, oM 59 0, oM 60 9, ⟨some 61, none, .iaddr 1 (.t 59) (.t 60)⟩, oL 62 61, ⟨some 63, none, .iaddr 1 (.t 47) (.t 48)⟩, oS 1 63 58, ⟨some 64, none, .iaddr 1 (.t 49) (.t 52)⟩, oS 1 64 62]))))
  (.ops [oM 34 9, ⟨some 35, none, .bin .add (.t 34) (.c (.int .i64 1))⟩, oM 9 35])))
def L65_0 : C := .loop (some [0, 1, 6, 7, 8, 9]) B65_0
theorem L65_0_eq {E : Env} (x : St) : ev E L65_0 x = andThen (ev E B65_0 (restr (some [0, 1, 6, 7, 8, 9]) x)) (ev E L65_0) := ev_loop _ _ x
theorem L65_0_lp {E : Env} (s : Slots) (h : Heap) : ev E L65_0 ⟨s, h⟩ = lp E L65_0 (pickS s [0, 1, 6, 7, 8, 9]) h := lp_of L65_0_eq s h
theorem L65_0_go {E : Env} (s : Slots) (h : Heap) : lp E L65_0 s h = andThen (ev E B65_0 ⟨pickS s [0, 1, 6, 7, 8, 9], h⟩) (ev E L65_0) := lp_go L65_0_eq s h
noncomputable def T65_0 (E : Env) (o : Out) : Option (AV × Heap) := outR [] (endBlock 0 (some [0, 1, 6, 7, 8, 9]) (o))
def I65 : Fn_ := ⟨3, 65, [],
  (.seq (.ops [oM 11 2, oM 12 1, ⟨some 13, none, .bin .sub (.t 11) (.t 12)⟩, oM 6 13])
  (.seq (.ops [oM 14 6, ⟨some 15, none, .bin .geq (.t 14) (.c (.int .i64 8))⟩])
  (.cond (.t 15)
  (.seq (.ops [oM 16 6, ⟨some 17, none, .conv .u64 (.t 16)⟩, ⟨some 7, none, .alloc false [(.int .u64 0)] 124⟩, oS 1 7 17])
  (.seq (.ops [oM 18 6, ⟨some 19, none, .callF false 84 [(.t 18)]⟩, oM 8 19])
  (.seq (.ops [oM 20 1, oM 21 6, ⟨some 22, none, .bin .quo (.t 21) (.c (.int .i64 4))⟩, ⟨some 23, none, .bin .mul (.t 22) (.c (.int .i64 2))⟩, ⟨some 24, none, .bin .add (.t 20) (.t 23)⟩, ⟨some 25, none, .bin .sub (.t 24) (.c (.int .i64 1))⟩, oM 9 25])
  (.block 0 (some [0, 1, 6, 7, 8, 9]) L65_0))))
  .skip)))⟩
/- slices.choosePivotOrdered[string] -/
def I66 : Fn_ := ⟨3, 57, [(6, none), (7, none)],
  (.seq (.ops [⟨some 6, none, .mov (.c (.int .i64 0))⟩, ⟨some 7, none, .mov (.c (.int .i64 0))⟩])
  (.seq (.ops [oM 13 2, oM 14 1, ⟨some 15, none, .bin .sub (.t 13) (.t 14)⟩, oM 8 15])
  (.seq (.ops [⟨some 9, none, .alloc false [(.int .i64 0)] 3⟩])
  (.seq (.ops [oM 16 1, oM 17 8, ⟨some 18, none, .bin .quo (.t 17) (.c (.int .i64 4))⟩, ⟨some 19, none, .bin .mul (.t 18) (.c (.int .i64 1))⟩, ⟨some 20, none, .bin .add (.t 16) (.t 19)⟩, oM 10 20])
  (.seq (.ops [oM 21 1, oM 22 8, ⟨some 23, none, .bin .quo (.t 22) (.c (.int .i64 4))⟩, ⟨some 24, none, .bin .mul (.t 23) (.c (.int .i64 2))⟩, ⟨some 25, none, .bin .add (.t 21) (.t 24)⟩, oM 11 25])
  (.seq (.ops [oM 26 1, oM 27 8, ⟨some 28, none, .bin .quo (.t 27) (.c (.int .i64 4))⟩, ⟨some 29, none, .bin .mul (.t 28) (.c (.int .i64 3))⟩, ⟨some 30, none, .bin .add (.t 26) (.t 29)⟩, oM 12 30])
  (.seq (.seq (.ops [oM 31 8, ⟨some 32, none, .bin .geq (.t 31) (.c (.int .i64 8))⟩])
  (.cond (.t 32)
  (.seq (.seq (.ops [oM 33 8, ⟨some 34, none, .bin .geq (.t 33) (.c (.int .i64 50))⟩])
  (.cond (.t 34)
  (.seq (.ops [oM 35 0, oM 36 10, ⟨some 37, none, .callF false 86 [(.t 35), (.t 36), (.t 9)]⟩, oM 10 37])
  (.seq (.ops [oM 38 0, oM 39 11, ⟨some 40, none, .callF false 86 [(.t 38), (.t 39), (.t 9)]⟩, oM 11 40])
  (.ops [oM 41 0, oM 42 12, ⟨some 43, none, .callF false 86 [(.t 41), (.t 42), (.t 9)]⟩, oM 12 43])))
  .skip))
  (.ops [oM 44 0, oM 45 10, oM 46 11, oM 47 12, ⟨some 48, none, .callF false 87 [(.t 44), (.t 45), (.t 46), (.t 47), (.t 9)]⟩, oM 11 48]))
  .skip))
  (.seq (.ops [oL 49 9])
  (.block 0 (some [6, 7, 11, 49]) (.seq (.ops [⟨some 52, none, .bin .eql (.t 49) (.c (.int .i64 0))⟩, oM 51 52])
  (.cond (.t 51)
  (.seq (.ops [oM 53 11, oM 6 53, ⟨some 7, none, .mov (.c (.int .i64 1))⟩])
  .ret)
  (.seq (.ops [⟨some 55, none, .bin .eql (.t 49) (.c (.int .i64 12))⟩, oM 54 55])
  (.cond (.t 54)
  (.seq (.ops [oM 56 11, oM 6 56, ⟨some 7, none, .mov (.c (.int .i64 2))⟩])
  .ret)
  (.seq (.ops [oM 50 11, oM 6 50, ⟨some 7, none, .mov (.c (.int .i64 0))⟩])
  .ret))))))))))))))⟩
/- slices.reverseRangeOrdered[string] -/
def B67_0 : C := (.seq (.seq (.ops [oM 11 6, oM 12 7, ⟨some 13, none, .bin .lss (.t 11) (.t 12)⟩])
  (.cond (.t 13)
  .skip
  (.exit 0)))
  (.block 1 (some [0, 6, 7]) (.seq (.ops [oM 14 0, oM 15 6, oM 16 0, oM 17 7, oM 18 0, oM 19 7, ⟨some 20, none, .iaddr 1 (.t 18) (.t 19)⟩, oL 21 20, oM 22 0, oM 23 6, ⟨some 24, none, .iaddr 1 (.t 22) (.t 23)⟩, oL 25 24, ⟨some 26, none, .iaddr 1 (.t 14) (.t 15)⟩, oS 1 26 21, ⟨some 27, none, .iaddr 1 (.t 16) (.t 17)⟩, oS 1 27 25])
  (.seq (.ops [oM 28 6, ⟨some 29, none, .bin .add (.t 28) (.c (.int .i64 1))⟩, oM 6 29])
  (.ops [oM 30 7, ⟨some 31, none, .bin .sub (.t 30) (.c (.int .i64 1))⟩, oM 7 31])))))
def L67_0 : C := .loop (some [0, 6, 7]) B67_0
theorem L67_0_eq {E : Env} (x : St) : ev E L67_0 x = andThen (ev E B67_0 (restr (some [0, 6, 7]) x)) (ev E L67_0) := ev_loop _ _ x
theorem L67_0_lp {E : Env} (s : Slots) (h : Heap) : ev E L67_0 ⟨s, h⟩ = lp E L67_0 (pickS s [0, 6, 7]) h := lp_of L67_0_eq s h
theorem L67_0_go {E : Env} (s : Slots) (h : Heap) : lp E L67_0 s h = andThen (ev E B67_0 ⟨pickS s [0, 6, 7], h⟩) (ev E L67_0) := lp_go L67_0_eq s h
noncomputable def T67_0 (E : Env) (o : Out) : Option (AV × Heap) := outR [] (endBlock 0 (some [0, 6, 7]) (o))
def I67 : Fn_ := ⟨3, 32, [],
  (.seq (.ops [oM 8 1, oM 6 8])
  (.seq (.ops [oM 9 2, ⟨some 10, none, .bin .sub (.t 9) (.c (.int .i64 1))⟩, oM 7 10])
  (.block 0 (some [0, 6, 7]) L67_0)))⟩
/- slices.partialInsertionSortOrdered[string] -/
def B68_0 : C := (.seq (.seq (.ops [oM 17 7, oM 18 2, ⟨some 19, none, .bin .lss (.t 17) (.t 18)⟩, oM 20 19, gM 21 20 true 0, gM 22 20 true 7, ⟨some 23, (some (20, true)), .iaddr 1 (.t 21) (.t 22)⟩, gL 24 20 true 23, gM 25 20 true 0, gM 26 20 true 7, ⟨some 27, (some (20, true)), .bin .sub (.t 26) (.c (.int .i64 1))⟩, ⟨some 28, (some (20, true)), .iaddr 1 (.t 25) (.t 27)⟩, gL 29 20 true 28, ⟨some 30, (some (20, true)), .callF true 69 [(.t 24), (.t 29)]⟩, ⟨some 31, (some (20, true)), .un .not (.t 30)⟩, oN 32 20 31])
  (.cond (.t 32)
  .skip
  (.exit 2)))
  (.block 3 (some [0, 1, 2, 7, 8]) (.ops [oM 33 7, ⟨some 34, none, .bin .add (.t 33) (.c (.int .i64 1))⟩, oM 7 34])))
def L68_0 : C := .loop (some [0, 1, 2, 7, 8]) B68_0
theorem L68_0_eq {E : Env} (x : St) : ev E L68_0 x = andThen (ev E B68_0 (restr (some [0, 1, 2, 7, 8]) x)) (ev E L68_0) := ev_loop _ _ x
theorem L68_0_lp {E : Env} (s : Slots) (h : Heap) : ev E L68_0 ⟨s, h⟩ = lp E L68_0 (pickS s [0, 1, 2, 7, 8]) h := lp_of L68_0_eq s h
theorem L68_0_go {E : Env} (s : Slots) (h : Heap) : lp E L68_0 s h = andThen (ev E B68_0 ⟨pickS s [0, 1, 2, 7, 8], h⟩) (ev E L68_0) := lp_go L68_0_eq s h
def B68_1 : C := (.seq (.seq (.ops [oM 64 9, ⟨some 65, none, .bin .geq (.t 64) (.c (.int .i64 1))⟩])
  (.cond (.t 65)
  .skip
  (.exit 4)))
  (.seq (.block 5 (some [0, 1, 2, 7, 8, 9]) (.seq (.seq (.ops [oM 68 0, oM 69 9, ⟨some 70, none, .iaddr 1 (.t 68) (.t 69)⟩, oL 71 70, oM 72 0, oM 73 9, ⟨some 74, none, .bin .sub (.t 73) (.c (.int .i64 1))⟩, ⟨some 75, none, .iaddr 1 (.t 72) (.t 74)⟩, oL 76 75, ⟨some 77, none, .callF true 69 [(.t 71), (.t 76)]⟩, ⟨some 78, none, .un .not (.t 77)⟩])
  (.cond (.t 78)
  (.exit 4)
  .skip))
  (.ops [oM 79 0, oM 80 9, oM 81 0, oM 82 9, ⟨some 83, none, .bin .sub (.t 82) (.c (.int .i64 1))⟩, oM 84 0, oM 85 9, ⟨some 86, none, .bin .sub (.t 85) (.c (.int .i64 1))⟩, ⟨some 87, none, .iaddr 1 (.t 84) (.t 86)⟩, oL 88 87, oM 89 0, oM 90 9, ⟨some 91, none, .iaddr 1 (.t 89) (.t 90)⟩, oL 92 91, ⟨some 93, none, .iaddr 1 (.t 79) (.t 80)⟩, oS 1 93 88, ⟨some 94, none, .iaddr 1 (.t 81) (.t 83)⟩, oS 1 94 92])))
  (.ops [oM 66 9, ⟨some 67, none, .bin .sub (.t 66) (.c (.int .i64 1))⟩, oM 9 67])))
def L68_1 : C := .loop (some [0, 1, 2, 7, 8, 9]) B68_1
theorem L68_1_eq {E : Env} (x : St) : ev E L68_1 x = andThen (ev E B68_1 (restr (some [0, 1, 2, 7, 8, 9]) x)) (ev E L68_1) := ev_loop _ _ x
theorem L68_1_lp {E : Env} (s : Slots) (h : Heap) : ev E L68_1 ⟨s, h⟩ = lp E L68_1 (pickS s [0, 1, 2, 7, 8, 9]) h := lp_of L68_1_eq s h
theorem L68_1_go {E : Env} (s : Slots) (h : Heap) : lp E L68_1 s h = andThen (ev E B68_1 ⟨pickS s [0, 1, 2, 7, 8, 9], h⟩) (ev E L68_1) := lp_go L68_1_eq s h
def B68_2 : C := (.seq (.seq (.ops [oM 101 10, oM 102 2, ⟨some 103, none, .bin .lss (.t 101) (.t 102)⟩])
  (.cond (.t 103)
  .skip
  (.exit 6)))
  (.seq (.block 7 (some [0, 1, 2, 7, 8, 10]) (.seq (.seq (.ops [oM 106 0, oM 107 10, ⟨some 108, none, .iaddr 1 (.t 106) (.t 107)⟩, oL 109 108, oM 110 0, oM 111 10, ⟨some 112, none, .bin .sub (.t 111) (.c (.int .i64 1))⟩, ⟨some 113, none, .iaddr 1 (.t 110) (.t 112)⟩, oL 114 113, ⟨some 115, none, .callF true 69 [(.t 109), (.t 114)]⟩, ⟨some 116, none, .un .not (.t 115)⟩])
  (.cond (.t 116)
  (.exit 6)
  .skip))
  (.ops [oM 117 0, oM 118 10, oM 119 0, oM 120 10, ⟨some 121, none, .bin .sub (.t 120) (.c (.int .i64 1))⟩, oM 122 0, oM 123 10, ⟨some 124, none, .bin .sub (.t 123) (.c (.int .i64 1))⟩, ⟨some 125, none, .iaddr 1 (.t 122) (.t 124)⟩, oL 126 125, oM 127 0, oM 128 10, ⟨some 129, none, .iaddr 1 (.t 127) (.t 128)⟩, oL 130 129, ⟨some 131, none, .iaddr 1 (.t 117) (.t 118)⟩, oS 1 131 126, ⟨some 132, none, .iaddr 1 (.t 119) (.t 121)⟩, oS 1 132 130])))
  (.ops [oM 104 10, ⟨some 105, none, .bin .add (.t 104) (.c (.int .i64 1))⟩, oM 10 105])))
def L68_2 : C := .loop (some [0, 1, 2, 7, 8, 10]) B68_2
theorem L68_2_eq {E : Env} (x : St) : ev E L68_2 x = andThen (ev E B68_2 (restr (some [0, 1, 2, 7, 8, 10]) x)) (ev E L68_2) := ev_loop _ _ x
theorem L68_2_lp {E : Env} (s : Slots) (h : Heap) : ev E L68_2 ⟨s, h⟩ = lp E L68_2 (pickS s [0, 1, 2, 7, 8, 10]) h := lp_of L68_2_eq s h
theorem L68_2_go {E : Env} (s : Slots) (h : Heap) : lp E L68_2 s h = andThen (ev E B68_2 ⟨pickS s [0, 1, 2, 7, 8, 10], h⟩) (ev E L68_2) := lp_go L68_2_eq s h
def B68_3 : C := (.seq (.seq (.ops [oM 13 8, ⟨some 14, none, .bin .lss (.t 13) (.c (.int .i64 5))⟩])
  (.cond (.t 14)
  .skip
  (.exit 0)))
  (.seq (.block 1 (some [0, 1, 2, 7, 8]) (.seq (.block 2 (some [0, 1, 2, 7, 8]) L68_0)
  (.seq (.seq (.ops [oM 35 7, oM 36 2, ⟨some 37, none, .bin .eql (.t 35) (.t 36)⟩])
  (.cond (.t 37)
  (.seq (.ops [⟨some 6, none, .mov (.c (.bool true))⟩])
  .ret)
  .skip))
  (.seq (.seq (.ops [oM 38 2, oM 39 1, ⟨some 40, none, .bin .sub (.t 38) (.t 39)⟩, ⟨some 41, none, .bin .lss (.t 40) (.c (.int .i64 50))⟩])
  (.cond (.t 41)
  (.seq (.ops [⟨some 6, none, .mov (.c (.bool false))⟩])
  .ret)
  .skip))
  (.seq (.ops [oM 42 0, oM 43 7, oM 44 0, oM 45 7, ⟨some 46, none, .bin .sub (.t 45) (.c (.int .i64 1))⟩, oM 47 0, oM 48 7, ⟨some 49, none, .bin .sub (.t 48) (.c (.int .i64 1))⟩, ⟨some 50, none, .iaddr 1 (.t 47) (.t 49)⟩, oL 51 50, oM 52 0, oM 53 7, ⟨some 54, none, .iaddr 1 (.t 52) (.t 53)⟩, oL 55 54, ⟨some 56, none, .iaddr 1 (.t 42) (.t 43)⟩, oS 1 56 51, ⟨some 57, none, .iaddr 1 (.t 44) (.t 46)⟩, oS 1 57 55])
  (.seq (.seq (.ops [oM 58 7, oM 59 1, ⟨some 60, none, .bin .sub (.t 58) (.t 59)⟩, ⟨some 61, none, .bin .geq (.t 60) (.c (.int .i64 2))⟩])
  (.cond (.t 61)
  (.seq (.ops [oM 62 7, ⟨some 63, none, .bin .sub (.t 62) (.c (.int .i64 1))⟩, oM 9 63])
  (.block 4 (some [0, 1, 2, 7, 8, 9]) L68_1))
  .skip))
  (.seq (.ops [oM 95 2, oM 96 7, ⟨some 97, none, .bin .sub (.t 95) (.t 96)⟩, ⟨some 98, none, .bin .geq (.t 97) (.c (.int .i64 2))⟩])
  (.cond (.t 98)
  (.seq (.ops [oM 99 7, ⟨some 100, none, .bin .add (.t 99) (.c (.int .i64 1))⟩, oM 10 100])
  (.block 6 (some [0, 1, 2, 7, 8, 10]) L68_2))
  .skip))))))))
  (.ops [oM 15 8, ⟨some 16, none, .bin .add (.t 15) (.c (.int .i64 1))⟩, oM 8 16])))
def L68_3 : C := .loop (some [0, 1, 2, 7, 8]) B68_3
theorem L68_3_eq {E : Env} (x : St) : ev E L68_3 x = andThen (ev E B68_3 (restr (some [0, 1, 2, 7, 8]) x)) (ev E L68_3) := ev_loop _ _ x
theorem L68_3_lp {E : Env} (s : Slots) (h : Heap) : ev E L68_3 ⟨s, h⟩ = lp E L68_3 (pickS s [0, 1, 2, 7, 8]) h := lp_of L68_3_eq s h
theorem L68_3_go {E : Env} (s : Slots) (h : Heap) : lp E L68_3 s h = andThen (ev E B68_3 ⟨pickS s [0, 1, 2, 7, 8], h⟩) (ev E L68_3) := lp_go L68_3_eq s h
noncomputable def T68_3 (E : Env) (o : Out) : Option (AV × Heap) := outR [(6, none)] (andThen (endBlock 0 (some [0, 1, 2, 7, 8]) (o)) (ev E (.seq (.ops [⟨some 6, none, .mov (.c (.bool false))⟩])
  .ret)))
noncomputable def T68_2 (E : Env) (o : Out) : Option (AV × Heap) := T68_3 E (andThen (andThen (endBlock 1 (some [0, 1, 2, 7, 8]) (endBlock 6 (some [0, 1, 2, 7, 8, 10]) (o))) (ev E (.ops [oM 15 8, ⟨some 16, none, .bin .add (.t 15) (.c (.int .i64 1))⟩, oM 8 16]))) (ev E L68_3))
noncomputable def T68_1 (E : Env) (o : Out) : Option (AV × Heap) := T68_3 E (andThen (andThen (endBlock 1 (some [0, 1, 2, 7, 8]) (andThen (endBlock 4 (some [0, 1, 2, 7, 8, 9]) (o)) (ev E (.seq (.ops [oM 95 2, oM 96 7, ⟨some 97, none, .bin .sub (.t 95) (.t 96)⟩, ⟨some 98, none, .bin .geq (.t 97) (.c (.int .i64 2))⟩])
  (.cond (.t 98)
  (.seq (.ops [oM 99 7, ⟨some 100, none, .bin .add (.t 99) (.c (.int .i64 1))⟩, oM 10 100])
  (.block 6 (some [0, 1, 2, 7, 8, 10]) L68_2))
  .skip))))) (ev E (.ops [oM 15 8, ⟨some 16, none, .bin .add (.t 15) (.c (.int .i64 1))⟩, oM 8 16]))) (ev E L68_3))
noncomputable def T68_0 (E : Env) (o : Out) : Option (AV × Heap) := T68_3 E (andThen (andThen (endBlock 1 (some [0, 1, 2, 7, 8]) (andThen (endBlock 2 (some [0, 1, 2, 7, 8]) (o)) (ev E (.seq (.seq (.ops [oM 35 7, oM 36 2, ⟨some 37, none, .bin .eql (.t 35) (.t 36)⟩])
  (.cond (.t 37)
  (.seq (.ops [⟨some 6, none, .mov (.c (.bool true))⟩])
  .ret)
  .skip))
  (.seq (.seq (.ops [oM 38 2, oM 39 1, ⟨some 40, none, .bin .sub (.t 38) (.t 39)⟩, ⟨some 41, none, .bin .lss (.t 40) (.c (.int .i64 50))⟩])
  (.cond (.t 41)
  (.seq (.ops [⟨some 6, none, .mov (.c (.bool false))⟩])
  .ret)
  .skip))
  (.seq (.ops [oM 42 0, oM 43 7, oM 44 0, oM 45 7, ⟨some 46, none, .bin .sub (.t 45) (.c (.int .i64 1))⟩, oM 47 0, oM 48 7, ⟨some 49, none, .bin .sub (.t 48) (.c (.int .i64 1))⟩, ⟨some 50, none, .iaddr 1 (.t 47) (.t 49)⟩, oL 51 50, oM 52 0, oM 53 7, ⟨some 54, none, .iaddr 1 (.t 52) (.t 53)⟩, oL 55 54, ⟨some 56, none, .iaddr 1 (.t 42) (.t 43)⟩, oS 1 56 51, ⟨some 57, none, .iaddr 1 (.t 44) (.t 46)⟩, oS 1 57 55])
  (.seq (.seq (.ops [oM 58 7, oM 59 1, ⟨some 60, none, .bin .sub (.t 58) (.t 59)⟩, ⟨some 61, none, .bin .geq (.t 60) (.c (.int .i64 2))⟩])
  (.cond (.t 61)
  (.seq (.ops [oM 62 7, ⟨some 63, none, .bin .sub (.t 62) (.c (.int .i64 1))⟩, oM 9 63])
  (.block 4 (some [0, 1, 2, 7, 8, 9]) L68_1))
  .skip))
  (.seq (.ops [oM 95 2, oM 96 7, ⟨some 97, none, .bin .sub (.t 95) (.t 96)⟩, ⟨some 98, none, .bin .geq (.t 97) (.c (.int .i64 2))⟩])
  (.cond (.t 98)
  (.seq (.ops [oM 99 7, ⟨some 100, none, .bin .add (.t 99) (.c (.int .i64 1))⟩, oM 10 100])
  (.block 6 (some [0, 1, 2, 7, 8, 10]) L68_2))
  .skip))))))))) (ev E (.ops [oM 15 8, ⟨some 16, none, .bin .add (.t 15) (.c (.int .i64 1))⟩, oM 8 16]))) (ev E L68_3))
def I68 : Fn_ := ⟨3, 133, [(6, none)],
  (.seq (.ops [⟨some 6, none, .mov (.c (.bool false))⟩])
  (.seq (.ops [oM 11 1, ⟨some 12, none, .bin .add (.t 11) (.c (.int .i64 1))⟩, oM 7 12])
  (.seq (.seq (.ops [⟨some 8, none, .mov (.c (.int .i64 0))⟩])
  (.block 0 (some [0, 1, 2, 7, 8]) L68_3))
  (.seq (.ops [⟨some 6, none, .mov (.c (.bool false))⟩])
  .ret))))⟩
/- cmp.Less[string] -/
def I69 : Fn_ := ⟨2, 17, [(4, none)],
  (.seq (.ops [⟨some 4, none, .mov (.c (.bool false))⟩])
  (.seq (.ops [oM 5 0, ⟨some 6, none, .callF false 88 [(.t 5)]⟩, oM 7 6, gM 8 7 true 1, ⟨some 9, (some (7, true)), .callF false 88 [(.t 8)]⟩, ⟨some 10, (some (7, true)), .un .not (.t 9)⟩, oN 11 7 10, oM 12 11, gM 13 12 false 0, gM 14 12 false 1, ⟨some 15, (some (12, false)), .bin .lss (.t 13) (.t 14)⟩, oT 16 12 15, oM 4 16])
  .ret))⟩
/- slices.partitionEqualOrdered[string] -/
def B70_0 : C := (.seq (.seq (.ops [oM 29 9, oM 30 10, ⟨some 31, none, .bin .leq (.t 29) (.t 30)⟩, oM 32 31, gM 33 32 true 0, gM 34 32 true 1, ⟨some 35, (some (32, true)), .iaddr 1 (.t 33) (.t 34)⟩, gL 36 32 true 35, gM 37 32 true 0, gM 38 32 true 9, ⟨some 39, (some (32, true)), .iaddr 1 (.t 37) (.t 38)⟩, gL 40 32 true 39, ⟨some 41, (some (32, true)), .callF true 69 [(.t 36), (.t 40)]⟩, ⟨some 42, (some (32, true)), .un .not (.t 41)⟩, oN 43 32 42])
  (.cond (.t 43)
  .skip
  (.exit 2)))
  (.block 3 (some [0, 1, 9, 10]) (.ops [oM 44 9, ⟨some 45, none, .bin .add (.t 44) (.c (.int .i64 1))⟩, oM 9 45])))
def L70_0 : C := .loop (some [0, 1, 9, 10]) B70_0
theorem L70_0_eq {E : Env} (x : St) : ev E L70_0 x = andThen (ev E B70_0 (restr (some [0, 1, 9, 10]) x)) (ev E L70_0) := ev_loop _ _ x
theorem L70_0_lp {E : Env} (s : Slots) (h : Heap) : ev E L70_0 ⟨s, h⟩ = lp E L70_0 (pickS s [0, 1, 9, 10]) h := lp_of L70_0_eq s h
theorem L70_0_go {E : Env} (s : Slots) (h : Heap) : lp E L70_0 s h = andThen (ev E B70_0 ⟨pickS s [0, 1, 9, 10], h⟩) (ev E L70_0) := lp_go L70_0_eq s h
def B70_1 : C := (.seq (.seq (.ops [oM 46 9, oM 47 10, ⟨some 48, none, .bin .leq (.t 46) (.t 47)⟩, oM 49 48, gM 50 49 true 0, gM 51 49 true 1, ⟨some 52, (some (49, true)), .iaddr 1 (.t 50) (.t 51)⟩, gL 53 49 true 52, gM 54 49 true 0, gM 55 49 true 10, ⟨some 56, (some (49, true)), .iaddr 1 (.t 54) (.t 55)⟩, gL 57 49 true 56, ⟨some 58, (some (49, true)), .callF true 69 [(.t 53), (.t 57)]⟩, oN 59 49 58])
  (.cond (.t 59)
  .skip
  (.exit 4)))
  (.block 5 (some [0, 1, 9, 10]) (.ops [oM 60 10, ⟨some 61, none, .bin .sub (.t 60) (.c (.int .i64 1))⟩, oM 10 61])))
def L70_1 : C := .loop (some [0, 1, 9, 10]) B70_1
theorem L70_1_eq {E : Env} (x : St) : ev E L70_1 x = andThen (ev E B70_1 (restr (some [0, 1, 9, 10]) x)) (ev E L70_1) := ev_loop _ _ x
theorem L70_1_lp {E : Env} (s : Slots) (h : Heap) : ev E L70_1 ⟨s, h⟩ = lp E L70_1 (pickS s [0, 1, 9, 10]) h := lp_of L70_1_eq s h
theorem L70_1_go {E : Env} (s : Slots) (h : Heap) : lp E L70_1 s h = andThen (ev E B70_1 ⟨pickS s [0, 1, 9, 10], h⟩) (ev E L70_1) := lp_go L70_1_eq s h
def B70_2 : C := (.block 1 (some [0, 1, 9, 10]) (.seq (.block 2 (some [0, 1, 9, 10]) L70_0)
  (.seq (.block 4 (some [0, 1, 9, 10]) L70_1)
  (.seq (.seq (.ops [oM 62 9, oM 63 10, ⟨some 64, none, .bin .gtr (.t 62) (.t 63)⟩])
  (.cond (.t 64)
  (.exit 0)
  .skip))
  (.seq (.ops [oM 65 0, oM 66 9, oM 67 0, oM 68 10, oM 69 0, oM 70 10, ⟨some 71, none, .iaddr 1 (.t 69) (.t 70)⟩, oL 72 71, oM 73 0, oM 74 9, ⟨some 75, none, .iaddr 1 (.t 73) (.t 74)⟩, oL 76 75, ⟨some 77, none, .iaddr 1 (.t 65) (.t 66)⟩, oS 1 77 72, ⟨some 78, none, .iaddr 1 (.t 67) (.t 68)⟩, oS 1 78 76])
  (.seq (.ops [oM 79 9, ⟨some 80, none, .bin .add (.t 79) (.c (.int .i64 1))⟩, oM 9 80])
  (.ops [oM 81 10, ⟨some 82, none, .bin .sub (.t 81) (.c (.int .i64 1))⟩, oM 10 82])))))))
def L70_2 : C := .loop (some [0, 1, 9, 10]) B70_2
theorem L70_2_eq {E : Env} (x : St) : ev E L70_2 x = andThen (ev E B70_2 (restr (some [0, 1, 9, 10]) x)) (ev E L70_2) := ev_loop _ _ x
theorem L70_2_lp {E : Env} (s : Slots) (h : Heap) : ev E L70_2 ⟨s, h⟩ = lp E L70_2 (pickS s [0, 1, 9, 10]) h := lp_of L70_2_eq s h
theorem L70_2_go {E : Env} (s : Slots) (h : Heap) : lp E L70_2 s h = andThen (ev E B70_2 ⟨pickS s [0, 1, 9, 10], h⟩) (ev E L70_2) := lp_go L70_2_eq s h
noncomputable def T70_2 (E : Env) (o : Out) : Option (AV × Heap) := outR [(8, none)] (andThen (endBlock 0 (some [0, 1, 9, 10]) (o)) (ev E (.seq (.ops [oM 83 9, oM 8 83])
  .ret)))
noncomputable def T70_1 (E : Env) (o : Out) : Option (AV × Heap) := T70_2 E (andThen (endBlock 1 (some [0, 1, 9, 10]) (andThen (endBlock 4 (some [0, 1, 9, 10]) (o)) (ev E (.seq (.seq (.ops [oM 62 9, oM 63 10, ⟨some 64, none, .bin .gtr (.t 62) (.t 63)⟩])
  (.cond (.t 64)
  (.exit 0)
  .skip))
  (.seq (.ops [oM 65 0, oM 66 9, oM 67 0, oM 68 10, oM 69 0, oM 70 10, ⟨some 71, none, .iaddr 1 (.t 69) (.t 70)⟩, oL 72 71, oM 73 0, oM 74 9, ⟨some 75, none, .iaddr 1 (.t 73) (.t 74)⟩, oL 76 75, ⟨some 77, none, .iaddr 1 (.t 65) (.t 66)⟩, oS 1 77 72, ⟨some 78, none, .iaddr 1 (.t 67) (.t 68)⟩, oS 1 78 76])
  (.seq (.ops [oM 79 9, ⟨some 80, none, .bin .add (.t 79) (.c (.int .i64 1))⟩, oM 9 80])
  (.ops [oM 81 10, ⟨some 82, none, .bin .sub (.t 81) (.c (.int .i64 1))⟩, oM 10 82]))))))) (ev E L70_2))
noncomputable def T70_0 (E : Env) (o : Out) : Option (AV × Heap) := T70_2 E (andThen (endBlock 1 (some [0, 1, 9, 10]) (andThen (endBlock 2 (some [0, 1, 9, 10]) (o)) (ev E (.seq (.block 4 (some [0, 1, 9, 10]) L70_1)
  (.seq (.seq (.ops [oM 62 9, oM 63 10, ⟨some 64, none, .bin .gtr (.t 62) (.t 63)⟩])
  (.cond (.t 64)
  (.exit 0)
  .skip))
  (.seq (.ops [oM 65 0, oM 66 9, oM 67 0, oM 68 10, oM 69 0, oM 70 10, ⟨some 71, none, .iaddr 1 (.t 69) (.t 70)⟩, oL 72 71, oM 73 0, oM 74 9, ⟨some 75, none, .iaddr 1 (.t 73) (.t 74)⟩, oL 76 75, ⟨some 77, none, .iaddr 1 (.t 65) (.t 66)⟩, oS 1 77 72, ⟨some 78, none, .iaddr 1 (.t 67) (.t 68)⟩, oS 1 78 76])
  (.seq (.ops [oM 79 9, ⟨some 80, none, .bin .add (.t 79) (.c (.int .i64 1))⟩, oM 9 80])
  (.ops [oM 81 10, ⟨some 82, none, .bin .sub (.t 81) (.c (.int .i64 1))⟩, oM 10 82])))))))) (ev E L70_2))
def I70 : Fn_ := ⟨4, 84, [(8, none)],
  (.seq (.ops [⟨some 8, none, .mov (.c (.int .i64 0))⟩])
  (.seq (.ops [oM 11 0, oM 12 1, oM 13 0, oM 14 3, oM 15 0, oM 16 3, ⟨some 17, none, .iaddr 1 (.t 15) (.t 16)⟩, oL 18 17, oM 19 0, oM 20 1, ⟨some 21, none, .iaddr 1 (.t 19) (.t 20)⟩, oL 22 21, ⟨some 23, none, .iaddr 1 (.t 11) (.t 12)⟩, oS 1 23 18, ⟨some 24, none, .iaddr 1 (.t 13) (.t 14)⟩, oS 1 24 22])
  (.seq (.ops [oM 25 1, ⟨some 26, none, .bin .add (.t 25) (.c (.int .i64 1))⟩, oM 27 2, ⟨some 28, none, .bin .sub (.t 27) (.c (.int .i64 1))⟩, oM 9 26, oM 10 28])
  (.seq (.block 0 (some [0, 1, 9, 10]) L70_2)
  (.seq (.ops [oM 83 9, oM 8 83])
  .ret)))))⟩
/- slices.partitionOrdered[string] -/
def B71_0 : C := (.seq (.seq (.ops [oM 30 10, oM 31 11, ⟨some 32, none, .bin .leq (.t 30) (.t 31)⟩, oM 33 32, gM 34 33 true 0, gM 35 33 true 10, ⟨some 36, (some (33, true)), .iaddr 1 (.t 34) (.t 35)⟩, gL 37 33 true 36, gM 38 33 true 0, gM 39 33 true 1, ⟨some 40, (some (33, true)), .iaddr 1 (.t 38) (.t 39)⟩, gL 41 33 true 40, ⟨some 42, (some (33, true)), .callF true 69 [(.t 37), (.t 41)]⟩, oN 43 33 42])
  (.cond (.t 43)
  .skip
  (.exit 0)))
  (.block 1 (some [0, 1, 10, 11]) (.ops [oM 44 10, ⟨some 45, none, .bin .add (.t 44) (.c (.int .i64 1))⟩, oM 10 45])))
def L71_0 : C := .loop (some [0, 1, 10, 11]) B71_0
theorem L71_0_eq {E : Env} (x : St) : ev E L71_0 x = andThen (ev E B71_0 (restr (some [0, 1, 10, 11]) x)) (ev E L71_0) := ev_loop _ _ x
theorem L71_0_lp {E : Env} (s : Slots) (h : Heap) : ev E L71_0 ⟨s, h⟩ = lp E L71_0 (pickS s [0, 1, 10, 11]) h := lp_of L71_0_eq s h
theorem L71_0_go {E : Env} (s : Slots) (h : Heap) : lp E L71_0 s h = andThen (ev E B71_0 ⟨pickS s [0, 1, 10, 11], h⟩) (ev E L71_0) := lp_go L71_0_eq s h
def B71_1 : C := (.seq (.seq (.ops [oM 46 10, oM 47 11, ⟨some 48, none, .bin .leq (.t 46) (.t 47)⟩, oM 49 48, gM 50 49 true 0, gM 51 49 true 11, ⟨some 52, (some (49, true)), .iaddr 1 (.t 50) (.t 51)⟩, gL 53 49 true 52, gM 54 49 true 0, gM 55 49 true 1, ⟨some 56, (some (49, true)), .iaddr 1 (.t 54) (.t 55)⟩, gL 57 49 true 56, ⟨some 58, (some (49, true)), .callF true 69 [(.t 53), (.t 57)]⟩, ⟨some 59, (some (49, true)), .un .not (.t 58)⟩, oN 60 49 59])
  (.cond (.t 60)
  .skip
  (.exit 2)))
  (.block 3 (some [0, 1, 10, 11]) (.ops [oM 61 11, ⟨some 62, none, .bin .sub (.t 61) (.c (.int .i64 1))⟩, oM 11 62])))
def L71_1 : C := .loop (some [0, 1, 10, 11]) B71_1
theorem L71_1_eq {E : Env} (x : St) : ev E L71_1 x = andThen (ev E B71_1 (restr (some [0, 1, 10, 11]) x)) (ev E L71_1) := ev_loop _ _ x
theorem L71_1_lp {E : Env} (s : Slots) (h : Heap) : ev E L71_1 ⟨s, h⟩ = lp E L71_1 (pickS s [0, 1, 10, 11]) h := lp_of L71_1_eq s h
theorem L71_1_go {E : Env} (s : Slots) (h : Heap) : lp E L71_1 s h = andThen (ev E B71_1 ⟨pickS s [0, 1, 10, 11], h⟩) (ev E L71_1) := lp_go L71_1_eq s h
def B71_2 : C := (.seq (.seq (.ops [oM 99 10, oM 100 11, ⟨some 101, none, .bin .leq (.t 99) (.t 100)⟩, oM 102 101, gM 103 102 true 0, gM 104 102 true 10, ⟨some 105, (some (102, true)), .iaddr 1 (.t 103) (.t 104)⟩, gL 106 102 true 105, gM 107 102 true 0, gM 108 102 true 1, ⟨some 109, (some (102, true)), .iaddr 1 (.t 107) (.t 108)⟩, gL 110 102 true 109, ⟨some 111, (some (102, true)), .callF true 69 [(.t 106), (.t 110)]⟩, oN 112 102 111])
  (.cond (.t 112)
  .skip
  (.exit 6)))
  (.block 7 (some [0, 1, 10, 11]) (.ops [oM 113 10, ⟨some 114, none, .bin .add (.t 113) (.c (.int .i64 1))⟩, oM 10 114])))
def L71_2 : C := .loop (some [0, 1, 10, 11]) B71_2
theorem L71_2_eq {E : Env} (x : St) : ev E L71_2 x = andThen (ev E B71_2 (restr (some [0, 1, 10, 11]) x)) (ev E L71_2) := ev_loop _ _ x
theorem L71_2_lp {E : Env} (s : Slots) (h : Heap) : ev E L71_2 ⟨s, h⟩ = lp E L71_2 (pickS s [0, 1, 10, 11]) h := lp_of L71_2_eq s h
theorem L71_2_go {E : Env} (s : Slots) (h : Heap) : lp E L71_2 s h = andThen (ev E B71_2 ⟨pickS s [0, 1, 10, 11], h⟩) (ev E L71_2) := lp_go L71_2_eq s h
def B71_3 : C := (.seq (.seq (.ops [oM 115 10, oM 116 11, ⟨some 117, none, .bin .leq (.t 115) (.t 116)⟩, oM 118 117, gM 119 118 true 0, gM 120 118 true 11, ⟨some 121, (some (118, true)), .iaddr 1 (.t 119) (.t 120)⟩, gL 122 118 true 121, gM 123 118 true 0, gM 124 118 true 1, ⟨some 125, (some (118, true)), .iaddr 1 (.t 123) (.t 124)⟩, gL 126 118 true 125, ⟨some 127, (some (118, true)), .callF true 69 [(.t 122), (.t 126)]⟩, ⟨some 128, (some (118, true)), .un .not (.t 127)⟩, oN 129 118 128])
  (.cond (.t 129)
  .skip
  (.exit 8)))
  (.block 9 (some [0, 1, 10, 11]) (.ops [oM 130 11, ⟨some 131, none, .bin .sub (.t 130) (.c (.int .i64 1))⟩, oM 11 131])))
def L71_3 : C := .loop (some [0, 1, 10, 11]) B71_3
theorem L71_3_eq {E : Env} (x : St) : ev E L71_3 x = andThen (ev E B71_3 (restr (some [0, 1, 10, 11]) x)) (ev E L71_3) := ev_loop _ _ x
theorem L71_3_lp {E : Env} (s : Slots) (h : Heap) : ev E L71_3 ⟨s, h⟩ = lp E L71_3 (pickS s [0, 1, 10, 11]) h := lp_of L71_3_eq s h
theorem L71_3_go {E : Env} (s : Slots) (h : Heap) : lp E L71_3 s h = andThen (ev E B71_3 ⟨pickS s [0, 1, 10, 11], h⟩) (ev E L71_3) := lp_go L71_3_eq s h
def B71_4 : C := (.block 5 (some [0, 1, 10, 11]) (.seq (.block 6 (some [0, 1, 10, 11]) L71_2)
  (.seq (.block 8 (some [0, 1, 10, 11]) L71_3)
  (.seq (.seq (.ops [oM 132 10, oM 133 11, ⟨some 134, none, .bin .gtr (.t 132) (.t 133)⟩])
  (.cond (.t 134)
  (.exit 4)
  .skip))
  (.seq (.ops [oM 135 0, oM 136 10, oM 137 0, oM 138 11, oM 139 0, oM 140 11, ⟨some 141, none, .iaddr 1 (.t 139) (.t 140)⟩, oL 142 141, oM 143 0, oM 144 10, ⟨some 145, none, .iaddr 1 (.t 143) (.t 144)⟩, oL 146 145, ⟨some 147, none, .iaddr 1 (.t 135) (.t 136)⟩, oS 1 147 142, ⟨some 148, none, .iaddr 1 (.t 137) (.t 138)⟩, oS 1 148 146])
  (.seq (.ops [oM 149 10, ⟨some 150, none, .bin .add (.t 149) (.c (.int .i64 1))⟩, oM 10 150])
  (.ops [oM 151 11, ⟨some 152, none, .bin .sub (.t 151) (.c (.int .i64 1))⟩, oM 11 152])))))))
def L71_4 : C := .loop (some [0, 1, 10, 11]) B71_4
theorem L71_4_eq {E : Env} (x : St) : ev E L71_4 x = andThen (ev E B71_4 (restr (some [0, 1, 10, 11]) x)) (ev E L71_4) := ev_loop _ _ x
theorem L71_4_lp {E : Env} (s : Slots) (h : Heap) : ev E L71_4 ⟨s, h⟩ = lp E L71_4 (pickS s [0, 1, 10, 11]) h := lp_of L71_4_eq s h
theorem L71_4_go {E : Env} (s : Slots) (h : Heap) : lp E L71_4 s h = andThen (ev E B71_4 ⟨pickS s [0, 1, 10, 11], h⟩) (ev E L71_4) := lp_go L71_4_eq s h
noncomputable def T71_4 (E : Env) (o : Out) : Option (AV × Heap) := outR [(8, none), (9, none)] (andThen (endBlock 4 (some [0, 1, 10, 11]) (o)) (ev E (.seq (.ops [oM 153 0, oM 154 11, oM 155 0, oM 156 1, oM 157 0, oM 158 1, ⟨some 159, none, .iaddr 1 (.t 157) (.t 158)⟩, oL 160 159, oM 161 0, oM 162 11, ⟨some 163, none, .iaddr 1 (.t 161) (.t 162)⟩, oL 164 163, ⟨some 165, none, .iaddr 1 (.t 153) (.t 154)⟩, oS 1 165 160, ⟨some 166, none, .iaddr 1 (.t 155) (.t 156)⟩, oS 1 166 164])
  (.seq (.ops [oM 167 11, oM 8 167, ⟨some 9, none, .mov (.c (.bool false))⟩])
  .ret))))
noncomputable def T71_3 (E : Env) (o : Out) : Option (AV × Heap) := T71_4 E (andThen (endBlock 5 (some [0, 1, 10, 11]) (andThen (endBlock 8 (some [0, 1, 10, 11]) (o)) (ev E (.seq (.seq (.ops [oM 132 10, oM 133 11, ⟨some 134, none, .bin .gtr (.t 132) (.t 133)⟩])
  (.cond (.t 134)
  (.exit 4)
  .skip))
  (.seq (.ops [oM 135 0, oM 136 10, oM 137 0, oM 138 11, oM 139 0, oM 140 11, ⟨some 141, none, .iaddr 1 (.t 139) (.t 140)⟩, oL 142 141, oM 143 0, oM 144 10, ⟨some 145, none, .iaddr 1 (.t 143) (.t 144)⟩, oL 146 145, ⟨some 147, none, .iaddr 1 (.t 135) (.t 136)⟩, oS 1 147 142, ⟨some 148, none, .iaddr 1 (.t 137) (.t 138)⟩, oS 1 148 146])
  (.seq (.ops [oM 149 10, ⟨some 150, none, .bin .add (.t 149) (.c (.int .i64 1))⟩, oM 10 150])
  (.ops [oM 151 11, ⟨some 152, none, .bin .sub (.t 151) (.c (.int .i64 1))⟩, oM 11 152]))))))) (ev E L71_4))
noncomputable def T71_2 (E : Env) (o : Out) : Option (AV × Heap) := T71_4 E (andThen (endBlock 5 (some [0, 1, 10, 11]) (andThen (endBlock 6 (some [0, 1, 10, 11]) (o)) (ev E (.seq (.block 8 (some [0, 1, 10, 11]) L71_3)
  (.seq (.seq (.ops [oM 132 10, oM 133 11, ⟨some 134, none, .bin .gtr (.t 132) (.t 133)⟩])
  (.cond (.t 134)
  (.exit 4)
  .skip))
  (.seq (.ops [oM 135 0, oM 136 10, oM 137 0, oM 138 11, oM 139 0, oM 140 11, ⟨some 141, none, .iaddr 1 (.t 139) (.t 140)⟩, oL 142 141, oM 143 0, oM 144 10, ⟨some 145, none, .iaddr 1 (.t 143) (.t 144)⟩, oL 146 145, ⟨some 147, none, .iaddr 1 (.t 135) (.t 136)⟩, oS 1 147 142, ⟨some 148, none, .iaddr 1 (.t 137) (.t 138)⟩, oS 1 148 146])
  (.seq (.ops [oM 149 10, ⟨some 150, none, .bin .add (.t 149) (.c (.int .i64 1))⟩, oM 10 150])
  (.ops [oM 151 11, ⟨some 152, none, .bin .sub (.t 151) (.c (.int .i64 1))⟩, oM 11 152])))))))) (ev E L71_4))
noncomputable def T71_1 (E : Env) (o : Out) : Option (AV × Heap) := outR [(8, none), (9, none)] (andThen (endBlock 2 (some [0, 1, 10, 11]) (o)) (ev E (.seq (.seq (.ops [oM 63 10, oM 64 11, ⟨some 65, none, .bin .gtr (.t 63) (.t 64)⟩])
  (.cond (.t 65)
  (.seq (.ops [oM 66 0, oM 67 11, oM 68 0, oM 69 1, oM 70 0, oM 71 1, ⟨some 72, none, .iaddr 1 (.t 70) (.t 71)⟩, oL 73 72, oM 74 0, oM 75 11, ⟨some 76, none, .iaddr 1 (.t 74) (.t 75)⟩, oL 77 76, ⟨some 78, none, .iaddr 1 (.t 66) (.t 67)⟩, oS 1 78 73, ⟨some 79, none, .iaddr 1 (.t 68) (.t 69)⟩, oS 1 79 77])
  (.seq (.ops [oM 80 11, oM 8 80, ⟨some 9, none, .mov (.c (.bool true))⟩])
  .ret))
  .skip))
  (.seq (.ops [oM 81 0, oM 82 10, oM 83 0, oM 84 11, oM 85 0, oM 86 11, ⟨some 87, none, .iaddr 1 (.t 85) (.t 86)⟩, oL 88 87, oM 89 0, oM 90 10, ⟨some 91, none, .iaddr 1 (.t 89) (.t 90)⟩, oL 92 91, ⟨some 93, none, .iaddr 1 (.t 81) (.t 82)⟩, oS 1 93 88, ⟨some 94, none, .iaddr 1 (.t 83) (.t 84)⟩, oS 1 94 92])
  (.seq (.ops [oM 95 10, ⟨some 96, none, .bin .add (.t 95) (.c (.int .i64 1))⟩, oM 10 96])
  (.seq (.ops [oM 97 11, ⟨some 98, none, .bin .sub (.t 97) (.c (.int .i64 1))⟩, oM 11 98])
  (.seq (.block 4 (some [0, 1, 10, 11]) L71_4)
  (.seq (.ops [oM 153 0, oM 154 11, oM 155 0, oM 156 1, oM 157 0, oM 158 1, ⟨some 159, none, .iaddr 1 (.t 157) (.t 158)⟩, oL 160 159, oM 161 0, oM 162 11, ⟨some 163, none, .iaddr 1 (.t 161) (.t 162)⟩, oL 164 163, ⟨some 165, none, .iaddr 1 (.t 153) (.t 154)⟩, oS 1 165 160, ⟨some 166, none, .iaddr 1 (.t 155) (.t 156)⟩, oS 1 166 164])
  (.seq (.ops [oM 167 11, oM 8 167, ⟨some 9, none, .mov (.c (.bool false))⟩])
  .ret)))))))))
noncomputable def T71_0 (E : Env) (o : Out) : Option (AV × Heap) := outR [(8, none), (9, none)] (andThen (endBlock 0 (some [0, 1, 10, 11]) (o)) (ev E (.seq (.block 2 (some [0, 1, 10, 11]) L71_1)
  (.seq (.seq (.ops [oM 63 10, oM 64 11, ⟨some 65, none, .bin .gtr (.t 63) (.t 64)⟩])
  (.cond (.t 65)
  (.seq (.ops [oM 66 0, oM 67 11, oM 68 0, oM 69 1, oM 70 0, oM 71 1, ⟨some 72, none, .iaddr 1 (.t 70) (.t 71)⟩, oL 73 72, oM 74 0, oM 75 11, ⟨some 76, none, .iaddr 1 (.t 74) (.t 75)⟩, oL 77 76, ⟨some 78, none, .iaddr 1 (.t 66) (.t 67)⟩, oS 1 78 73, ⟨some 79, none, .iaddr 1 (.t 68) (.t 69)⟩, oS 1 79 77])
  (.seq (.ops [oM 80 11, oM 8 80, ⟨some 9, none, .mov (.c (.bool true))⟩])
  .ret))
  .skip))
  (.seq (.ops [oM 81 0, oM 82 10, oM 83 0, oM 84 11, oM 85 0, oM 86 11, ⟨some 87, none, .iaddr 1 (.t 85) (.t 86)⟩, oL 88 87, oM 89 0, oM 90 10, ⟨some 91, none, .iaddr 1 (.t 89) (.t 90)⟩, oL 92 91, ⟨some 93, none, .iaddr 1 (.t 81) (.t 82)⟩, oS 1 93 88, ⟨some 94, none, .iaddr 1 (.t 83) (.t 84)⟩, oS 1 94 92])
  (.seq (.ops [oM 95 10, ⟨some 96, none, .bin .add (.t 95) (.c (.int .i64 1))⟩, oM 10 96])
  (.seq (.ops [oM 97 11, ⟨some 98, none, .bin .sub (.t 97) (.c (.int .i64 1))⟩, oM 11 98])
  (.seq (.block 4 (some [0, 1, 10, 11]) L71_4)
  (.seq (.ops [oM 153 0, oM 154 11, oM 155 0, oM 156 1, oM 157 0, oM 158 1, ⟨some 159, none, .iaddr 1 (.t 157) (.t 158)⟩, oL 160 159, oM 161 0, oM 162 11, ⟨some 163, none, .iaddr 1 (.t 161) (.t 162)⟩, oL 164 163, ⟨some 165, none, .iaddr 1 (.t 153) (.t 154)⟩, oS 1 165 160, ⟨some 166, none, .iaddr 1 (.t 155) (.t 156)⟩, oS 1 166 164])
  (.seq (.ops [oM 167 11, oM 8 167, ⟨some 9, none, .mov (.c (.bool false))⟩])
  .ret))))))))))
def I71 : Fn_ := ⟨4, 168, [(8, none), (9, none)],
  (.seq (.ops [⟨some 8, none, .mov (.c (.int .i64 0))⟩, ⟨some 9, none, .mov (.c (.bool false))⟩])
  (.seq (.ops [oM 12 0, oM 13 1, oM 14 0, oM 15 3, oM 16 0, oM 17 3, ⟨some 18, none, .iaddr 1 (.t 16) (.t 17)⟩, oL 19 18, oM 20 0, oM 21 1, ⟨some 22, none, .iaddr 1 (.t 20) (.t 21)⟩, oL 23 22, ⟨some 24, none, .iaddr 1 (.t 12) (.t 13)⟩, oS 1 24 19, ⟨some 25, none, .iaddr 1 (.t 14) (.t 15)⟩, oS 1 25 23])
  (.seq (.ops [oM 26 1, ⟨some 27, none, .bin .add (.t 26) (.c (.int .i64 1))⟩, oM 28 2, ⟨some 29, none, .bin .sub (.t 28) (.c (.int .i64 1))⟩, oM 10 27, oM 11 29])
  (.seq (.block 0 (some [0, 1, 10, 11]) L71_0)
  (.seq (.block 2 (some [0, 1, 10, 11]) L71_1)
  (.seq (.seq (.ops [oM 63 10, oM 64 11, ⟨some 65, none, .bin .gtr (.t 63) (.t 64)⟩])
  (.cond (.t 65)
  (.seq (.ops [oM 66 0, oM 67 11, oM 68 0, oM 69 1, oM 70 0, oM 71 1, ⟨some 72, none, .iaddr 1 (.t 70) (.t 71)⟩, oL 73 72, oM 74 0, oM 75 11, ⟨some 76, none, .iaddr 1 (.t 74) (.t 75)⟩, oL 77 76, ⟨some 78, none, .iaddr 1 (.t 66) (.t 67)⟩, oS 1 78 73, ⟨some 79, none, .iaddr 1 (.t 68) (.t 69)⟩, oS 1 79 77])
  (.seq (.ops [oM 80 11, oM 8 80, ⟨some 9, none, .mov (.c (.bool true))⟩])
  .ret))
  .skip))
  (.seq (.ops [oM 81 0, oM 82 10, oM 83 0, oM 84 11, oM 85 0, oM 86 11, ⟨some 87, none, .iaddr 1 (.t 85) (.t 86)⟩, oL 88 87, oM 89 0, oM 90 10, ⟨some 91, none, .iaddr 1 (.t 89) (.t 90)⟩, oL 92 91, ⟨some 93, none, .iaddr 1 (.t 81) (.t 82)⟩, oS 1 93 88, ⟨some 94, none, .iaddr 1 (.t 83) (.t 84)⟩, oS 1 94 92])
  (.seq (.ops [oM 95 10, ⟨some 96, none, .bin .add (.t 95) (.c (.int .i64 1))⟩, oM 10 96])
  (.seq (.ops [oM 97 11, ⟨some 98, none, .bin .sub (.t 97) (.c (.int .i64 1))⟩, oM 11 98])
  (.seq (.block 4 (some [0, 1, 10, 11]) L71_4)
  (.seq (.ops [oM 153 0, oM 154 11, oM 155 0, oM 156 1, oM 157 0, oM 158 1, ⟨some 159, none, .iaddr 1 (.t 157) (.t 158)⟩, oL 160 159, oM 161 0, oM 162 11, ⟨some 163, none, .iaddr 1 (.t 161) (.t 162)⟩, oL 164 163, ⟨some 165, none, .iaddr 1 (.t 153) (.t 154)⟩, oS 1 165 160, ⟨some 166, none, .iaddr 1 (.t 155) (.t 156)⟩, oS 1 166 164])
  (.seq (.ops [oM 167 11, oM 8 167, ⟨some 9, none, .mov (.c (.bool false))⟩])
  .ret))))))))))))⟩
/- math/bits.Len32 -/
def I72 : Fn_ := ⟨1, 19, [(2, none)],
  (.seq (.ops [⟨some 2, none, .mov (.c (.int .i64 0))⟩])
  (.seq (.seq (.ops [oM 3 0, ⟨some 4, none, .bin .geq (.t 3) (.c (.int .u32 65536))⟩])
  (.cond (.t 4)
  (.seq (.ops [oM 5 0, ⟨some 6, none, .bin .shr (.t 5) (.c (.int .u64 16))⟩, oM 0 6])
  (.ops [⟨some 2, none, .mov (.c (.int .i64 16))⟩]))
  .skip))
  (.seq (.seq (.ops [oM 7 0, ⟨some 8, none, .bin .geq (.t 7) (.c (.int .u32 256))⟩])
  (.cond (.t 8)
  (.seq (.ops [oM 9 0, ⟨some 10, none, .bin .shr (.t 9) (.c (.int .u64 8))⟩, oM 0 10])
  (.ops [oM 11 2, ⟨some 12, none, .bin .add (.t 11) (.c (.int .i64 8))⟩, oM 2 12]))
  .skip))
  (.seq (.ops [oM 13 2, oM 14 0, ⟨some 15, none, .conv .u8 (.t 14)⟩, ⟨some 16, none, .indexS (.c (.str ⟨#[0, 1, 2, 2, 3, 3, 3, 3, 4, 4, 4, 4, 4, 4, 4, 4, 5, 5, 5, 5, 5, 5, 5, 5, 5, 5, 5, 5, 5, 5, 5, 5, 6, 6, 6, 6, 6, 6, 6, 6, 6, 6, 6, 6, 6, 6, 6, 6, 6, 6, 6, 6, 6, 6, 6, 6, 6, 6, 6, 6, 6, 6, 6, 6, 7, 7, 7, 7, 7, 7, 7, 7, 7, 7, 7, 7, 7, 7, 7, 7, 7, 7, 7, 7, 7, 7, 7, 7, 7, 7, 7, 7, 7, 7, 7, 7, 7, 7, 7, 7, 7, 7, 7, 7, 7, 7, 7, 7, 7, 7, 7, 7, 7, 7, 7, 7, 7, 7, 7, 7, 7, 7, 7, 7, 7, 7, 7, 7, 8, 8, 8, 8, 8, 8, 8, 8, 8, 8, 8, 8, 8, 8, 8, 8, 8, 8, 8, 8, 8, 8, 8, 8, 8, 8, 8, 8, 8, 8, 8, 8, 8, 8, 8, 8, 8, 8, 8, 8, 8, 8, 8, 8, 8, 8, 8, 8, 8, 8, 8, 8, 8, 8, 8, 8, 8, 8, 8, 8, 8, 8, 8, 8, 8, 8, 8, 8, 8, 8, 8, 8, 8, 8, 8, 8, 8, 8, 8, 8, 8, 8, 8, 8, 8, 8, 8, 8, 8, 8, 8, 8, 8, 8, 8, 8, 8, 8, 8, 8, 8, 8, 8, 8, 8, 8, 8, 8, 8, 8, 8, 8, 8, 8, 8, 8, 8, 8, 8, 8, 8, 8, 8, 8, 8, 8, 8, 8]⟩)) (.t 15)⟩, ⟨some 17, none, .conv .i64 (.t 16)⟩, ⟨some 18, none, .bin .add (.t 13) (.t 17)⟩, oM 2 18])
  .ret))))⟩
/- math/bits.Len64 -/
def I73 : Fn_ := ⟨1, 25, [(2, none)],
  (.seq (.ops [⟨some 2, none, .mov (.c (.int .i64 0))⟩])
  (.seq (.seq (.ops [oM 3 0, ⟨some 4, none, .bin .geq (.t 3) (.c (.int .u64 4294967296))⟩])
  (.cond (.t 4)
  (.seq (.ops [oM 5 0, ⟨some 6, none, .bin .shr (.t 5) (.c (.int .u64 32))⟩, oM 0 6])
  (.ops [⟨some 2, none, .mov (.c (.int .i64 32))⟩]))
  .skip))
  (.seq (.seq (.ops [oM 7 0, ⟨some 8, none, .bin .geq (.t 7) (.c (.int .u64 65536))⟩])
  (.cond (.t 8)
  (.seq (.ops [oM 9 0, ⟨some 10, none, .bin .shr (.t 9) (.c (.int .u64 16))⟩, oM 0 10])
  (.ops [oM 11 2, ⟨some 12, none, .bin .add (.t 11) (.c (.int .i64 16))⟩, oM 2 12]))
  .skip))
  (.seq (.seq (.ops [oM 13 0, ⟨some 14, none, .bin .geq (.t 13) (.c (.int .u64 256))⟩])
  (.cond (.t 14)
  (.seq (.ops [oM 15 0, ⟨some 16, none, .bin .shr (.t 15) (.c (.int .u64 8))⟩, oM 0 16])
  (.ops [oM 17 2, ⟨some 18, none, .bin .add (.t 17) (.c (.int .i64 8))⟩, oM 2 18]))
  .skip))
  (.seq (.ops [oM 19 2, oM 20 0, ⟨some 21, none, .conv .u8 (.t 20)⟩, ⟨some 22, none, .indexS (.c (.str ⟨#[0, 1, 2, 2, 3, 3, 3, 3, 4, 4, 4, 4, 4, 4, 4, 4, 5, 5, 5, 5, 5, 5, 5, 5, 5, 5, 5, 5, 5, 5, 5, 5, 6, 6, 6, 6, 6, 6, 6, 6, 6, 6, 6, 6, 6, 6, 6, 6, 6, 6, 6, 6, 6, 6, 6, 6, 6, 6, 6, 6, 6, 6, 6, 6, 7, 7, 7, 7, 7, 7, 7, 7, 7, 7, 7, 7, 7, 7, 7, 7, 7, 7, 7, 7, 7, 7, 7, 7, 7, 7, 7, 7, 7, 7, 7, 7, 7, 7, 7, 7, 7, 7, 7, 7, 7, 7, 7, 7, 7, 7, 7, 7, 7, 7, 7, 7, 7, 7, 7, 7, 7, 7, 7, 7, 7, 7, 7, 7, 8, 8, 8, 8, 8, 8, 8, 8, 8, 8, 8, 8, 8, 8, 8, 8, 8, 8, 8, 8, 8, 8, 8, 8, 8, 8, 8, 8, 8, 8, 8, 8, 8, 8, 8, 8, 8, 8, 8, 8, 8, 8, 8, 8, 8, 8, 8, 8, 8, 8, 8, 8, 8, 8, 8, 8, 8, 8, 8, 8, 8, 8, 8, 8, 8, 8, 8, 8, 8, 8, 8, 8, 8, 8, 8, 8, 8, 8, 8, 8, 8, 8, 8, 8, 8, 8, 8, 8, 8, 8, 8, 8, 8, 8, 8, 8, 8, 8, 8, 8, 8, 8, 8, 8, 8, 8, 8, 8, 8, 8, 8, 8, 8, 8, 8, 8, 8, 8, 8, 8, 8, 8, 8, 8, 8, 8, 8, 8]⟩)) (.t 21)⟩, ⟨some 23, none, .conv .i64 (.t 22)⟩, ⟨some 24, none, .bin .add (.t 19) (.t 23)⟩, oM 2 24])
  .ret)))))⟩
/- slices.insertionSortOrdered[uint32] -/
def B74_0 : C := (.seq (.seq (.ops [oM 16 7, oM 17 1, ⟨some 18, none, .bin .gtr (.t 16) (.t 17)⟩, oM 19 18, gM 20 19 true 0, gM 21 19 true 7, ⟨some 22, (some (19, true)), .iaddr 1 (.t 20) (.t 21)⟩, gL 23 19 true 22, gM 24 19 true 0, gM 25 19 true 7, ⟨some 26, (some (19, true)), .bin .sub (.t 25) (.c (.int .i64 1))⟩, ⟨some 27, (some (19, true)), .iaddr 1 (.t 24) (.t 26)⟩, gL 28 19 true 27, ⟨some 29, (some (19, true)), .callF true 80 [(.t 23), (.t 28)]⟩, oN 30 19 29])
  (.cond (.t 30)
  .skip
  (.exit 2)))
  (.seq (.block 3 (some [0, 1, 2, 6, 7]) (.ops [oM 33 0, oM 34 7, oM 35 0, oM 36 7, ⟨some 37, none, .bin .sub (.t 36) (.c (.int .i64 1))⟩, oM 38 0, oM 39 7, ⟨some 40, none, .bin .sub (.t 39) (.c (.int .i64 1))⟩, ⟨some 41, none, .iaddr 1 (.t 38) (.t 40)⟩, oL 42 41, oM 43 0, oM 44 7, ⟨some 45, none, .iaddr 1 (.t 43) (.t 44)⟩, oL 46 45, ⟨some 47, none, .iaddr 1 (.t 33) (.t 34)⟩, oS 1 47 42, ⟨some 48, none, .iaddr 1 (.t 35) (.t 37)⟩, oS 1 48 46]))
  (.ops [oM 31 7, ⟨some 32, none, .bin .sub (.t 31) (.c (.int .i64 1))⟩, oM 7 32])))
def L74_0 : C := .loop (some [0, 1, 2, 6, 7]) B74_0
theorem L74_0_eq {E : Env} (x : St) : ev E L74_0 x = andThen (ev E B74_0 (restr (some [0, 1, 2, 6, 7]) x)) (ev E L74_0) := ev_loop _ _ x
theorem L74_0_lp {E : Env} (s : Slots) (h : Heap) : ev E L74_0 ⟨s, h⟩ = lp E L74_0 (pickS s [0, 1, 2, 6, 7]) h := lp_of L74_0_eq s h
theorem L74_0_go {E : Env} (s : Slots) (h : Heap) : lp E L74_0 s h = andThen (ev E B74_0 ⟨pickS s [0, 1, 2, 6, 7], h⟩) (ev E L74_0) := lp_go L74_0_eq s h
def B74_1 : C := (.seq (.seq (.ops [oM 10 6, oM 11 2, ⟨some 12, none, .bin .lss (.t 10) (.t 11)⟩])
  (.cond (.t 12)
  .skip
  (.exit 0)))
  (.seq (.block 1 (some [0, 1, 2, 6]) (.seq (.ops [oM 15 6, oM 7 15])
  (.block 2 (some [0, 1, 2, 6, 7]) L74_0)))
  (.ops [oM 13 6, ⟨some 14, none, .bin .add (.t 13) (.c (.int .i64 1))⟩, oM 6 14])))
def L74_1 : C := .loop (some [0, 1, 2, 6]) B74_1
theorem L74_1_eq {E : Env} (x : St) : ev E L74_1 x = andThen (ev E B74_1 (restr (some [0, 1, 2, 6]) x)) (ev E L74_1) := ev_loop _ _ x
theorem L74_1_lp {E : Env} (s : Slots) (h : Heap) : ev E L74_1 ⟨s, h⟩ = lp E L74_1 (pickS s [0, 1, 2, 6]) h := lp_of L74_1_eq s h
theorem L74_1_go {E : Env} (s : Slots) (h : Heap) : lp E L74_1 s h = andThen (ev E B74_1 ⟨pickS s [0, 1, 2, 6], h⟩) (ev E L74_1) := lp_go L74_1_eq s h
noncomputable def T74_1 (E : Env) (o : Out) : Option (AV × Heap) := outR [] (endBlock 0 (some [0, 1, 2, 6]) (o))
noncomputable def T74_0 (E : Env) (o : Out) : Option (AV × Heap) := T74_1 E (andThen (andThen (endBlock 1 (some [0, 1, 2, 6]) (endBlock 2 (some [0, 1, 2, 6, 7]) (o))) (ev E (.ops [oM 13 6, ⟨some 14, none, .bin .add (.t 13) (.c (.int .i64 1))⟩, oM 6 14]))) (ev E L74_1))
def I74 : Fn_ := ⟨3, 49, [],
  (.seq (.ops [oM 8 1, ⟨some 9, none, .bin .add (.t 8) (.c (.int .i64 1))⟩, oM 6 9])
  (.block 0 (some [0, 1, 2, 6]) L74_1))⟩
/- slices.heapSortOrdered[uint32] -/
def B75_0 : C := (.seq (.seq (.ops [oM 18 9, ⟨some 19, none, .bin .geq (.t 18) (.c (.int .i64 0))⟩])
  (.cond (.t 19)
  .skip
  (.exit 0)))
  (.seq (.block 1 (some [0, 6, 7, 8, 9]) (.ops [oM 22 0, oM 23 9, oM 24 8, oM 25 6, ⟨some 26, none, .callF false 89 [(.t 22), (.t 23), (.t 24), (.t 25)]⟩]))
  (.ops [oM 20 9, ⟨some 21, none, .bin .sub (.t 20) (.c (.int .i64 1))⟩, oM 9 21])))
def L75_0 : C := .loop (some [0, 6, 7, 8, 9]) B75_0
theorem L75_0_eq {E : Env} (x : St) : ev E L75_0 x = andThen (ev E B75_0 (restr (some [0, 6, 7, 8, 9]) x)) (ev E L75_0) := ev_loop _ _ x
theorem L75_0_lp {E : Env} (s : Slots) (h : Heap) : ev E L75_0 ⟨s, h⟩ = lp E L75_0 (pickS s [0, 6, 7, 8, 9]) h := lp_of L75_0_eq s h
theorem L75_0_go {E : Env} (s : Slots) (h : Heap) : lp E L75_0 s h = andThen (ev E B75_0 ⟨pickS s [0, 6, 7, 8, 9], h⟩) (ev E L75_0) := lp_go L75_0_eq s h
def B75_1 : C := (.seq (.seq (.ops [oM 29 10, ⟨some 30, none, .bin .geq (.t 29) (.c (.int .i64 0))⟩])
  (.cond (.t 30)
  .skip
  (.exit 2)))
  (.seq (.block 3 (some [0, 6, 7, 10]) (.seq (.ops [oM 33 0, oM 34 6, oM 35 0, oM 36 6, oM 37 10, ⟨some 38, none, .bin .add (.t 36) (.t 37)⟩, oM 39 0, oM 40 6, oM 41 10, ⟨some 42, none, .bin .add (.t 40) (.t 41)⟩, ⟨some 43, none, .iaddr 1 (.t 39) (.t 42)⟩, oL 44 43, oM 45 0, oM 46 6, ⟨some 47, none, .iaddr 1 (.t 45) (.t 46)⟩, oL 48 47, ⟨some 49, none, .iaddr 1 (.t 33) (.t 34)⟩, oS 1 49 44, ⟨some 50, none, .iaddr 1 (.t 35) (.t 38)⟩, oS 1 50 48])
  (.ops [oM 51 0, oM 52 7, oM 53 10, oM 54 6, ⟨some 55, none, .callF false 89 [(.t 51), (.t 52), (.t 53), (.t 54)]⟩])))
  (.ops [oM 31 10, ⟨some 32, none, .bin .sub (.t 31) (.c (.int .i64 1))⟩, oM 10 32])))
def L75_1 : C := .loop (some [0, 6, 7, 10]) B75_1
theorem L75_1_eq {E : Env} (x : St) : ev E L75_1 x = andThen (ev E B75_1 (restr (some [0, 6, 7, 10]) x)) (ev E L75_1) := ev_loop _ _ x
theorem L75_1_lp {E : Env} (s : Slots) (h : Heap) : ev E L75_1 ⟨s, h⟩ = lp E L75_1 (pickS s [0, 6, 7, 10]) h := lp_of L75_1_eq s h
theorem L75_1_go {E : Env} (s : Slots) (h : Heap) : lp E L75_1 s h = andThen (ev E B75_1 ⟨pickS s [0, 6, 7, 10], h⟩) (ev E L75_1) := lp_go L75_1_eq s h
noncomputable def T75_1 (E : Env) (o : Out) : Option (AV × Heap) := outR [] (endBlock 2 (some [0, 6, 7, 10]) (o))
noncomputable def T75_0 (E : Env) (o : Out) : Option (AV × Heap) := outR [] (andThen (endBlock 0 (some [0, 6, 7, 8, 9]) (o)) (ev E (.seq (.ops [oM 27 8, ⟨some 28, none, .bin .sub (.t 27) (.c (.int .i64 1))⟩, oM 10 28])
  (.block 2 (some [0, 6, 7, 10]) L75_1))))
def I75 : Fn_ := ⟨3, 56, [],
  (.seq (.ops [oM 11 1, oM 6 11])
  (.seq (.ops [⟨some 7, none, .mov (.c (.int .i64 0))⟩])
  (.seq (.ops [oM 12 2, oM 13 1, ⟨some 14, none, .bin .sub (.t 12) (.t 13)⟩, oM 8 14])
  (.seq (.seq (.ops [oM 15 8, ⟨some 16, none, .bin .sub (.t 15) (.c (.int .i64 1))⟩, ⟨some 17, none, .bin .quo (.t 16) (.c (.int .i64 2))⟩, oM 9 17])
  (.block 0 (some [0, 6, 7, 8, 9]) L75_0))
  (.seq (.ops [oM 27 8, ⟨some 28, none, .bin .sub (.t 27) (.c (.int .i64 1))⟩, oM 10 28])
  (.block 2 (some [0, 6, 7, 10]) L75_1))))))⟩
/- slices.breakPatternsOrdered[uint32] -/
def B76_0 : C := (.seq (.seq (.ops [oM 26 9, oM 27 1, oM 28 6, ⟨some 29, none, .bin .quo (.t 28) (.c (.int .i64 4))⟩, ⟨some 30, none, .bin .mul (.t 29) (.c (.int .i64 2))⟩, ⟨some 31, none, .bin .add (.t 27) (.t 30)⟩, ⟨some 32, none, .bin .add (.t 31) (.c (.int .i64 1))⟩, ⟨some 33, none, .bin .leq (.t 26) (.t 32)⟩])
  (.cond (.t 33)
  .skip
  (.exit 0)))
  (.seq (.block 1 (some [0, 1, 6, 7, 8, 9]) (.seq (.ops [⟨some 36, none, .callF false 85 [(.t 7)]⟩, oM 37 8, ⟨some 38, none, .bin .sub (.t 37) (.c (.int .u64 1))⟩, ⟨some 39, none, .bin .and (.t 36) (.t 38)⟩, ⟨some 40, none, .conv .i64 (.t 39)⟩, oM 10 40])
  (.seq (.seq (.ops [oM 41 10, oM 42 6, ⟨some 43, none, .bin .geq (.t 41) (.t 42)⟩])
  (.cond (.t 43)
  (.ops [oM 44 10, oM 45 6, ⟨some 46, none, .bin .sub (.t 44) (.t 45)⟩, oM 10 46])
  .skip))
  (.ops [oM 47 0, oM 48 9, oM 49 0, oM 50 1, oM 51 10, ⟨some 52, none, .bin .add (.t 50) (.t 51)⟩, oM 53 0, oM 54 1, oM 55 10, ⟨some 56, none, .bin .add (.t 54) (.t 55)⟩, ⟨some 57, none, .iaddr 1 (.t 53) (.t 56)⟩, oL 58 57, oM 59 0, oM 60 9, ⟨some 61, none, .iaddr 1 (.t 59) (.t 60)⟩, oL 62 61, ⟨some 63, none, .iaddr 1 (.t 47) (.t 48)⟩, oS 1 63 58, ⟨some 64, none, .iaddr 1 (.t 49) (.t 52)⟩, oS 1 64 62]))))
  (.ops [oM 34 9, ⟨some 35, none, .bin .add (.t 34) (.c (.int .i64 1))⟩, oM 9 35])))
def L76_0 : C := .loop (some [0, 1, 6, 7, 8, 9]) B76_0
theorem L76_0_eq {E : Env} (x : St) : ev E L76_0 x = andThen (ev E B76_0 (restr (some [0, 1, 6, 7, 8, 9]) x)) (ev E L76_0) := ev_loop _ _ x
theorem L76_0_lp {E : Env} (s : Slots) (h : Heap) : ev E L76_0 ⟨s, h⟩ = lp E L76_0 (pickS s [0, 1, 6, 7, 8, 9]) h := lp_of L76_0_eq s h
theorem L76_0_go {E : Env} (s : Slots) (h : Heap) : lp E L76_0 s h = andThen (ev E B76_0 ⟨pickS s [0, 1, 6, 7, 8, 9], h⟩) (ev E L76_0) := lp_go L76_0_eq s h
noncomputable def T76_0 (E : Env) (o : Out) : Option (AV × Heap) := outR [] (endBlock 0 (some [0, 1, 6, 7, 8, 9]) (o))
def I76 : Fn_ := ⟨3, 65, [],
  (.seq (.ops [oM 11 2, oM 12 1, ⟨some 13, none, .bin .sub (.t 11) (.t 12)⟩, oM 6 13])
  (.seq (.ops [oM 14 6, ⟨some 15, none, .bin .geq (.t 14) (.c (.int .i64 8))⟩])
  (.cond (.t 15)
  (.seq (.ops [oM 16 6, ⟨some 17, none, .conv .u64 (.t 16)⟩, ⟨some 7, none, .alloc false [(.int .u64 0)] 124⟩, oS 1 7 17])
  (.seq (.ops [oM 18 6, ⟨some 19, none, .callF false 84 [(.t 18)]⟩, oM 8 19])
  (.seq (.ops [oM 20 1, oM 21 6, ⟨some 22, none, .bin .quo (.t 21) (.c (.int .i64 4))⟩, ⟨some 23, none, .bin .mul (.t 22) (.c (.int .i64 2))⟩, ⟨some 24, none, .bin .add (.t 20) (.t 23)⟩, ⟨some 25, none, .bin .sub (.t 24) (.c (.int .i64 1))⟩, oM 9 25])
  (.block 0 (some [0, 1, 6, 7, 8, 9]) L76_0))))
  .skip)))⟩
/- slices.choosePivotOrdered[uint32] -/
def I77 : Fn_ := ⟨3, 57, [(6, none), (7, none)],
  (.seq (.ops [⟨some 6, none, .mov (.c (.int .i64 0))⟩, ⟨some 7, none, .mov (.c (.int .i64 0))⟩])
  (.seq (.ops [oM 13 2, oM 14 1, ⟨some 15, none, .bin .sub (.t 13) (.t 14)⟩, oM 8 15])
  (.seq (.ops [⟨some 9, none, .alloc false [(.int .i64 0)] 3⟩])
  (.seq (.ops [oM 16 1, oM 17 8, ⟨some 18, none, .bin .quo (.t 17) (.c (.int .i64 4))⟩, ⟨some 19, none, .bin .mul (.t 18) (.c (.int .i64 1))⟩, ⟨some 20, none, .bin .add (.t 16) (.t 19)⟩, oM 10 20])
  (.seq (.ops [oM 21 1, oM 22 8, ⟨some 23, none, .bin .quo (.t 22) (.c (.int .i64 4))⟩, ⟨some 24, none, .bin .mul (.t 23) (.c (.int .i64 2))⟩, ⟨some 25, none, .bin .add (.t 21) (.t 24)⟩, oM 11 25])
  (.seq (.ops [oM 26 1, oM 27 8, ⟨some 28, none, .bin .quo (.t 27) (.c (.int .i64 4))⟩, ⟨some 29, none, .bin .mul (.t 28) (.c (.int .i64 3))⟩, ⟨some 30, none, .bin .add (.t 26) (.t 29)⟩, oM 12 30])
  (.seq (.seq (.ops [oM 31 8, ⟨some 32, none, .bin .geq (.t 31) (.c (.int .i64 8))⟩])
  (.cond (.t 32)
  (.seq (.seq (.ops [oM 33 8, ⟨some 34, none, .bin .geq (.t 33) (.c (.int .i64 50))⟩])
  (.cond (.t 34)
  (.seq (.ops [oM 35 0, oM 36 10, ⟨some 37, none, .callF false 90 [(.t 35), (.t 36), (.t 9)]⟩, oM 10 37])
  (.seq (.ops [oM 38 0, oM 39 11, ⟨some 40, none, .callF false 90 [(.t 38), (.t 39), (.t 9)]⟩, oM 11 40])
  (.ops [oM 41 0, oM 42 12, ⟨some 43, none, .callF false 90 [(.t 41), (.t 42), (.t 9)]⟩, oM 12 43])))
  .skip))
  (.ops [oM 44 0, oM 45 10, oM 46 11, oM 47 12, ⟨some 48, none, .callF false 91 [(.t 44), (.t 45), (.t 46), (.t 47), (.t 9)]⟩, oM 11 48]))
  .skip))
  (.seq (.ops [oL 49 9])
  (.block 0 (some [6, 7, 11, 49]) (.seq (.ops [⟨some 52, none, .bin .eql (.t 49) (.c (.int .i64 0))⟩, oM 51 52])
  (.cond (.t 51)
  (.seq (.ops [oM 53 11, oM 6 53, ⟨some 7, none, .mov (.c (.int .i64 1))⟩])
  .ret)
  (.seq (.ops [⟨some 55, none, .bin .eql (.t 49) (.c (.int .i64 12))⟩, oM 54 55])
  (.cond (.t 54)
  (.seq (.ops [oM 56 11, oM 6 56, ⟨some 7, none, .mov (.c (.int .i64 2))⟩])
  .ret)
  (.seq (.ops [oM 50 11, oM 6 50, ⟨some 7, none, .mov (.c (.int .i64 0))⟩])
  .ret))))))))))))))⟩
/- slices.reverseRangeOrdered[uint32] -/
def B78_0 : C := (.seq (.seq (.ops [oM 11 6, oM 12 7, ⟨some 13, none, .bin .lss (.t 11) (.t 12)⟩])
  (.cond (.t 13)
  .skip
  (.exit 0)))
  (.block 1 (some [0, 6, 7]) (.seq (.ops [oM 14 0, oM 15 6, oM 16 0, oM 17 7, oM 18 0, oM 19 7, ⟨some 20, none, .iaddr 1 (.t 18) (.t 19)⟩, oL 21 20, oM 22 0, oM 23 6, ⟨some 24, none, .iaddr 1 (.t 22) (.t 23)⟩, oL 25 24, ⟨some 26, none, .iaddr 1 (.t 14) (.t 15)⟩, oS 1 26 21, ⟨some 27, none, .iaddr 1 (.t 16) (.t 17)⟩, oS 1 27 25])
  (.seq (.ops [oM 28 6, ⟨some 29, none, .bin .add (.t 28) (.c (.int .i64 1))⟩, oM 6 29])
  (.ops [oM 30 7, ⟨some 31, none, .bin .sub (.t 30) (.c (.int .i64 1))⟩, oM 7 31])))))
def L78_0 : C := .loop (some [0, 6, 7]) B78_0
theorem L78_0_eq {E : Env} (x : St) : ev E L78_0 x = andThen (ev E B78_0 (restr (some [0, 6, 7]) x)) (ev E L78_0) := ev_loop _ _ x
theorem L78_0_lp {E : Env} (s : Slots) (h : Heap) : ev E L78_0 ⟨s, h⟩ = lp E L78_0 (pickS s [0, 6, 7]) h := lp_of L78_0_eq s h
theorem L78_0_go {E : Env} (s : Slots) (h : Heap) : lp E L78_0 s h = andThen (ev E B78_0 ⟨pickS s [0, 6, 7], h⟩) (ev E L78_0) := lp_go L78_0_eq s h
noncomputable def T78_0 (E : Env) (o : Out) : Option (AV × Heap) := outR [] (endBlock 0 (some [0, 6, 7]) (o))
def I78 : Fn_ := ⟨3, 32, [],
  (.seq (.ops [oM 8 1, oM 6 8])
  (.seq (.ops [oM 9 2, ⟨some 10, none, .bin .sub (.t 9) (.c (.int .i64 1))⟩, oM 7 10])
  (.block 0 (some [0, 6, 7]) L78_0)))⟩
/- slices.partialInsertionSortOrdered[uint32] -/
def B79_0 : C := (.seq (.seq (.ops [oM 17 7, oM 18 2, ⟨some 19, none, .bin .lss (.t 17) (.t 18)⟩, oM 20 19, gM 21 20 true 0, gM 22 20 true 7, ⟨some 23, (some (20, true)), .iaddr 1 (.t 21) (.t 22)⟩, gL 24 20 true 23, gM 25 20 true 0, gM 26 20 true 7, ⟨some 27, (some (20, true)), .bin .sub (.t 26) (.c (.int .i64 1))⟩, ⟨some 28, (some (20, true)), .iaddr 1 (.t 25) (.t 27)⟩, gL 29 20 true 28, ⟨some 30, (some (20, true)), .callF true 80 [(.t 24), (.t 29)]⟩, ⟨some 31, (some (20, true)), .un .not (.t 30)⟩, oN 32 20 31])
  (.cond (.t 32)
  .skip
  (.exit 2)))
  (.block 3 (some [0, 1, 2, 7, 8]) (.ops [oM 33 7, ⟨some 34, none, .bin .add (.t 33) (.c (.int .i64 1))⟩, oM 7 34])))
def L79_0 : C := .loop (some [0, 1, 2, 7, 8]) B79_0
theorem L79_0_eq {E : Env} (x : St) : ev E L79_0 x = andThen (ev E B79_0 (restr (some [0, 1, 2, 7, 8]) x)) (ev E L79_0) := ev_loop _ _ x
theorem L79_0_lp {E : Env} (s : Slots) (h : Heap) : ev E L79_0 ⟨s, h⟩ = lp E L79_0 (pickS s [0, 1, 2, 7, 8]) h := lp_of L79_0_eq s h
theorem L79_0_go {E : Env} (s : Slots) (h : Heap) : lp E L79_0 s h = andThen (ev E B79_0 ⟨pickS s [0, 1, 2, 7, 8], h⟩) (ev E L79_0) := lp_go L79_0_eq s h
def B79_1 : C := (.seq (.seq (.ops [oM 64 9, ⟨some 65, none, .bin .geq (.t 64) (.c (.int .i64 1))⟩])
  (.cond (.t 65)
  .skip
  (.exit 4)))
  (.seq (.block 5 (some [0, 1, 2, 7, 8, 9]) (.seq (.seq (.ops [oM 68 0, oM 69 9, ⟨some 70, none, .iaddr 1 (.t 68) (.t 69)⟩, oL 71 70, oM 72 0, oM 73 9, ⟨some 74, none, .bin .sub (.t 73) (.c (.int .i64 1))⟩, ⟨some 75, none, .iaddr 1 (.t 72) (.t 74)⟩, oL 76 75, ⟨some 77, none, .callF true 80 [(.t 71), (.t 76)]⟩, ⟨some 78, none, .un .not (.t 77)⟩])
  (.cond (.t 78)
  (.exit 4)
  .skip))
  (.ops [oM 79 0, oM 80 9, oM 81 0, oM 82 9, ⟨some 83, none, .bin .sub (.t 82) (.c (.int .i64 1))⟩, oM 84 0, oM 85 9, ⟨some 86, none, .bin .sub (.t 85) (.c (.int .i64 1))⟩, ⟨some 87, none, .iaddr 1 (.t 84) (.t 86)⟩, oL 88 87, oM 89 0, oM 90 9, ⟨some 91, none, .iaddr 1 (.t 89) (.t 90)⟩, oL 92 91, ⟨some 93, none, .iaddr 1 (.t 79) (.t 80)⟩, oS 1 93 88, ⟨some 94, none, .iaddr 1 (.t 81) (.t 83)⟩, oS 1 94 92])))
  (.ops [oM 66 9, ⟨some 67, none, .bin .sub (.t 66) (.c (.int .i64 1))⟩, oM 9 67])))
def L79_1 : C := .loop (some [0, 1, 2, 7, 8, 9]) B79_1
theorem L79_1_eq {E : Env} (x : St) : ev E L79_1 x = andThen (ev E B79_1 (restr (some [0, 1, 2, 7, 8, 9]) x)) (ev E L79_1) := ev_loop _ _ x
theorem L79_1_lp {E : Env} (s : Slots) (h : Heap) : ev E L79_1 ⟨s, h⟩ = lp E L79_1 (pickS s [0, 1, 2, 7, 8, 9]) h := lp_of L79_1_eq s h
theorem L79_1_go {E : Env} (s : Slots) (h : Heap) : lp E L79_1 s h = andThen (ev E B79_1 ⟨pickS s [0, 1, 2, 7, 8, 9], h⟩) (ev E L79_1) := lp_go L79_1_eq s h
def B79_2 : C := (.seq (.seq (.ops [oM 101 10, oM 102 2, ⟨some 103, none, .bin .lss (.t 101) (.t 102)⟩])
  (.cond (.t 103)
  .skip
  (.exit 6)))
  (.seq (.block 7 (some [0, 1, 2, 7, 8, 10]) (.seq (.seq (.ops [oM 106 0, oM 107 10, ⟨some 108, none, .iaddr 1 (.t 106) (.t 107)⟩, oL 109 108, oM 110 0, oM 111 10, ⟨some 112, none, .bin .sub (.t 111) (.c (.int .i64 1))⟩, ⟨some 113, none, .iaddr 1 (.t 110) (.t 112)⟩, oL 114 113, ⟨some 115, none, .callF true 80 [(.t 109), (.t 114)]⟩, ⟨some 116, none, .un .not (.t 115)⟩])
  (.cond (.t 116)
  (.exit 6)
  .skip))
  (.ops [oM 117 0, oM 118 10, oM 119 0, oM 120 10, ⟨some 121, none, .bin .sub (.t 120) (.c (.int .i64 1))⟩, oM 122 0, oM 123 10, ⟨some 124, none, .bin .sub (.t 123) (.c (.int .i64 1))⟩, ⟨some 125, none, .iaddr 1 (.t 122) (.t 124)⟩, oL 126 125, oM 127 0, oM 128 10, ⟨some 129, none, .iaddr 1 (.t 127) (.t 128)⟩, oL 130 129, ⟨some 131, none, .iaddr 1 (.t 117) (.t 118)⟩, oS 1 131 126, ⟨some 132, none, .iaddr 1 (.t 119) (.t 121)⟩, oS 1 132 130])))
  (.ops [oM 104 10, ⟨some 105, none, .bin .add (.t 104) (.c (.int .i64 1))⟩, oM 10 105])))
def L79_2 : C := .loop (some [0, 1, 2, 7, 8, 10]) B79_2
theorem L79_2_eq {E : Env} (x : St) : ev E L79_2 x = andThen (ev E B79_2 (restr (some [0, 1, 2, 7, 8, 10]) x)) (ev E L79_2) := ev_loop _ _ x
theorem L79_2_lp {E : Env} (s : Slots) (h : Heap) : ev E L79_2 ⟨s, h⟩ = lp E L79_2 (pickS s [0, 1, 2, 7, 8, 10]) h := lp_of L79_2_eq s h
theorem L79_2_go {E : Env} (s : Slots) (h : Heap) : lp E L79_2 s h = andThen (ev E B79_2 ⟨pickS s [0, 1, 2, 7, 8, 10], h⟩) (ev E L79_2) := lp_go L79_2_eq s h
def B79_3 : C := (.seq (.seq (.ops [oM 13 8, ⟨some 14, none, .bin .lss (.t 13) (.c (.int .i64 5))⟩])
  (.cond (.t 14)
  .skip
  (.exit 0)))
  (.seq (.block 1 (some [0, 1, 2, 7, 8]) (.seq (.block 2 (some [0, 1, 2, 7, 8]) L79_0)
  (.seq (.seq (.ops [oM 35 7, oM 36 2, ⟨some 37, none, .bin .eql (.t 35) (.t 36)⟩])
  (.cond (.t 37)
  (.seq (.ops [⟨some 6, none, .mov (.c (.bool true))⟩])
  .ret)
  .skip))
  (.seq (.seq (.ops [oM 38 2, oM 39 1, ⟨some 40, none, .bin .sub (.t 38) (.t 39)⟩, ⟨some 41, none, .bin .lss (.t 40) (.c (.int .i64 50))⟩])
  (.cond (.t 41)
  (.seq (.ops [⟨some 6, none, .mov (.c (.bool false))⟩])
  .ret)
  .skip))
  (.seq (.ops [oM 42 0, oM 43 7, oM 44 0, oM 45 7, ⟨some 46, none, .bin .sub (.t 45) (.c (.int .i64 1))⟩, oM 47 0, oM 48 7, ⟨some 49, none, .bin .sub (.t 48) (.c (.int .i64 1))⟩, ⟨some 50, none, .iaddr 1 (.t 47) (.t 49)⟩, oL 51 50, oM 52 0, oM 53 7, ⟨some 54, none, .iaddr 1 (.t 52) (.t 53)⟩, oL 55 54, ⟨some 56, none, .iaddr 1 (.t 42) (.t 43)⟩, oS 1 56 51, ⟨some 57, none, .iaddr 1 (.t 44) (.t 46)⟩, oS 1 57 55])
  (.seq (.seq (.ops [oM 58 7, oM 59 1, ⟨some 60, none, .bin .sub (.t 58) (.t 59)⟩, ⟨some 61, none, .bin .geq (.t 60) (.c (.int .i64 2))⟩])
  (.cond (.t 61)
  (.seq (.ops [oM 62 7, ⟨some 63, none, .bin .sub (.t 62) (.c (.int .i64 1))⟩, oM 9 63])
  (.block 4 (some [0, 1, 2, 7, 8, 9]) L79_1))
  .skip))
  (.seq (.ops [oM 95 2, oM 96 7, ⟨some 97, none, .bin .sub (.t 95) (.t 96)⟩, ⟨some 98, none, .bin .geq (.t 97) (.c (.int .i64 2))⟩])
  (.cond (.t 98)
  (.seq (.ops [oM 99 7, ⟨some 100, none, .bin .add (.t 99) (.c (.int .i64 1))⟩, oM 10 100])
  (.block 6 (some [0, 1, 2, 7, 8, 10]) L79_2))
  .skip))))))))
  (.ops [oM 15 8, ⟨some 16, none, .bin .add (.t 15) (.c (.int .i64 1))⟩, oM 8 16])))
def L79_3 : C := .loop (some [0, 1, 2, 7, 8]) B79_3
theorem L79_3_eq {E : Env} (x : St) : ev E L79_3 x = andThen (ev E B79_3 (restr (some [0, 1, 2, 7, 8]) x)) (ev E L79_3) := ev_loop _ _ x
theorem L79_3_lp {E : Env} (s : Slots) (h : Heap) : ev E L79_3 ⟨s, h⟩ = lp E L79_3 (pickS s [0, 1, 2, 7, 8]) h := lp_of L79_3_eq s h
theorem L79_3_go {E : Env} (s : Slots) (h : Heap) : lp E L79_3 s h = andThen (ev E B79_3 ⟨pickS s [0, 1, 2, 7, 8], h⟩) (ev E L79_3) := lp_go L79_3_eq s h
noncomputable def T79_3 (E : Env) (o : Out) : Option (AV × Heap) := outR [(6, none)] (andThen (endBlock 0 (some [0, 1, 2, 7, 8]) (o)) (ev E (.seq (.ops [⟨some 6, none, .mov (.c (.bool false))⟩])
  .ret)))
noncomputable def T79_2 (E : Env) (o : Out) : Option (AV × Heap) := T79_3 E (andThen (andThen (endBlock 1 (some [0, 1, 2, 7, 8]) (endBlock 6 (some [0, 1, 2, 7, 8, 10]) (o))) (ev E (.ops [oM 15 8, ⟨some 16, none, .bin .add (.t 15) (.c (.int .i64 1))⟩, oM 8 16]))) (ev E L79_3))
noncomputable def T79_1 (E : Env) (o : Out) : Option (AV × Heap) := T79_3 E (andThen (andThen (endBlock 1 (some [0, 1, 2, 7, 8]) (andThen (endBlock 4 (some [0, 1, 2, 7, 8, 9]) (o)) (ev E (.seq (.ops [oM 95 2, oM 96 7, ⟨some 97, none, .bin .sub (.t 95) (.t 96)⟩, ⟨some 98, none, .bin .geq (.t 97) (.c (.int .i64 2))⟩])
  (.cond (.t 98)
  (.seq (.ops [oM 99 7, ⟨some 100, none, .bin .add (.t 99) (.c (.int .i64 1))⟩, oM 10 100])
  (.block 6 (some [0, 1, 2, 7, 8, 10]) L79_2))
  .skip))))) (ev E (.ops [oM 15 8, ⟨some 16, none, .bin .add (.t 15) (.c (.int .i64 1))⟩, oM 8 16]))) (ev E L79_3))
noncomputable def T79_0 (E : Env) (o : Out) : Option (AV × Heap) := T79_3 E (andThen (andThen (endBlock 1 (some [0, 1, 2, 7, 8]) (andThen (endBlock 2 (some [0, 1, 2, 7, 8]) (o)) (ev E (.seq (.seq (.ops [oM 35 7, oM 36 2, ⟨some 37, none, .bin .eql (.t 35) (.t 36)⟩])
  (.cond (.t 37)
  (.seq (.ops [⟨some 6, none, .mov (.c (.bool true))⟩])
  .ret)
  .skip))
  (.seq (.seq (.ops [oM 38 2, oM 39 1, ⟨some 40, none, .bin .sub (.t 38) (.t 39)⟩, ⟨some 41, none, .bin .lss (.t 40) (.c (.int .i64 50))⟩])
  (.cond (.t 41)
  (.seq (.ops [⟨some 6, none, .mov (.c (.bool false))⟩])
  .ret)
  .skip))
  (.seq (.ops [oM 42 0, oM 43 7, oM 44 0, oM 45 7, ⟨some 46, none, .bin .sub (.t 45) (.c (.int .i64 1))⟩, oM 47 0, oM 48 7, ⟨some 49, none, .bin .sub (.t 48) (.c (.int .i64 1))⟩, ⟨some 50, none, .iaddr 1 (.t 47) (.t 49)⟩, oL 51 50, oM 52 0, oM 53 7, ⟨some 54, none, .iaddr 1 (.t 52) (.t 53)⟩, oL 55 54, ⟨some 56, none, .iaddr 1 (.t 42) (.t 43)⟩, oS 1 56 51, ⟨some 57, none, .iaddr 1 (.t 44) (.t 46)⟩, oS 1 57 55])
  (.seq (.seq (.ops [oM 58 7, oM 59 1, ⟨some 60, none, .bin .sub (.t 58) (.t 59)⟩, ⟨some 61, none, .bin .geq (.t 60) (.c (.int .i64 2))⟩])
  (.cond (.t 61)
  (.seq (.ops [oM 62 7, ⟨some 63, none, .bin .sub (.t 62) (.c (.int .i64 1))⟩, oM 9 63])
  (.block 4 (some [0, 1, 2, 7, 8, 9]) L79_1))
  .skip))
  (.seq (.ops [oM 95 2, oM 96 7, ⟨some 97, none, .bin .sub (.t 95) (.t 96)⟩, ⟨some 98, none, .bin .geq (.t 97) (.c (.int .i64 2))⟩])
  (.cond (.t 98)
  (.seq (.ops [oM 99 7, ⟨some 100, none, .bin .add (.t 99) (.c (.int .i64 1))⟩, oM 10 100])
  (.block 6 (some [0, 1, 2, 7, 8, 10]) L79_2))
  .skip))))))))) (ev E (.ops [oM 15 8, ⟨some 16, none, .bin .add (.t 15) (.c (.int .i64 1))⟩, oM 8 16]))) (ev E L79_3))
def I79 : Fn_ := ⟨3, 133, [(6, none)],
  (.seq (.ops [⟨some 6, none, .mov (.c (.bool false))⟩])
  (.seq (.ops [oM 11 1, ⟨some 12, none, .bin .add (.t 11) (.c (.int .i64 1))⟩, oM 7 12])
  (.seq (.seq (.ops [⟨some 8, none, .mov (.c (.int .i64 0))⟩])
  (.block 0 (some [0, 1, 2, 7, 8]) L79_3))
  (.seq (.ops [⟨some 6, none, .mov (.c (.bool false))⟩])
  .ret))))⟩
/- cmp.Less[uint32] -/
def I80 : Fn_ := ⟨2, 17, [(4, none)],
  (.seq (.ops [⟨some 4, none, .mov (.c (.bool false))⟩])
  (.seq (.ops [oM 5 0, ⟨some 6, none, .callF false 92 [(.t 5)]⟩, oM 7 6, gM 8 7 true 1, ⟨some 9, (some (7, true)), .callF false 92 [(.t 8)]⟩, ⟨some 10, (some (7, true)), .un .not (.t 9)⟩, oN 11 7 10, oM 12 11, gM 13 12 false 0, gM 14 12 false 1, ⟨some 15, (some (12, false)), .bin .lss (.t 13) (.t 14)⟩, oT 16 12 15, oM 4 16])
  .ret))⟩
/- slices.partitionEqualOrdered[uint32] -/
def B81_0 : C := (.seq (.seq (.ops [oM 29 9, oM 30 10, ⟨some 31, none, .bin .leq (.t 29) (.t 30)⟩, oM 32 31, gM 33 32 true 0, gM 34 32 true 1, ⟨some 35, (some (32, true)), .iaddr 1 (.t 33) (.t 34)⟩, gL 36 32 true 35, gM 37 32 true 0, gM 38 32 true 9, ⟨some 39, (some (32, true)), .iaddr 1 (.t 37) (.t 38)⟩, gL 40 32 true 39, ⟨some 41, (some (32, true)), .callF true 80 [(.t 36), (.t 40)]⟩, ⟨some 42, (some (32, true)), .un .not (.t 41)⟩, oN 43 32 42])
  (.cond (.t 43)
  .skip
  (.exit 2)))
  (.block 3 (some [0, 1, 9, 10]) (.ops [oM 44 9, ⟨some 45, none, .bin .add (.t 44) (.c (.int .i64 1))⟩, oM 9 45])))
def L81_0 : C := .loop (some [0, 1, 9, 10]) B81_0
theorem L81_0_eq {E : Env} (x : St) : ev E L81_0 x = andThen (ev E B81_0 (restr (some [0, 1, 9, 10]) x)) (ev E L81_0) := ev_loop _ _ x
theorem L81_0_lp {E : Env} (s : Slots) (h : Heap) : ev E L81_0 ⟨s, h⟩ = lp E L81_0 (pickS s [0, 1, 9, 10]) h := lp_of L81_0_eq s h
theorem L81_0_go {E : Env} (s : Slots) (h : Heap) : lp E L81_0 s h = andThen (ev E B81_0 ⟨pickS s [0, 1, 9, 10], h⟩) (ev E L81_0) := lp_go L81_0_eq s h
def B81_1 : C := (.seq (.seq (.ops [oM 46 9, oM 47 10, ⟨some 48, none, .bin .leq (.t 46) (.t 47)⟩, oM 49 48, gM 50 49 true 0, gM 51 49 true 1, ⟨some 52, (some (49, true)), .iaddr 1 (.t 50) (.t 51)⟩, gL 53 49 true 52, gM 54 49 true 0, gM 55 49 true 10, ⟨some 56, (some (49, true)), .iaddr 1 (.t 54) (.t 55)⟩, gL 57 49 true 56, ⟨some 58, (some (49, true)), .callF true 80 [(.t 53), (.t 57)]⟩, oN 59 49 58])
  (.cond (.t 59)
  .skip
  (.exit 4)))
  (.block 5 (some [0, 1, 9, 10]) (.ops [oM 60 10, ⟨some 61, none, .bin .sub (.t 60) (.c (.int .i64 1))⟩, oM 10 61])))
def L81_1 : C := .loop (some [0, 1, 9, 10]) B81_1
theorem L81_1_eq {E : Env} (x : St) : ev E L81_1 x = andThen (ev E B81_1 (restr (some [0, 1, 9, 10]) x)) (ev E L81_1) := ev_loop _ _ x
theorem L81_1_lp {E : Env} (s : Slots) (h : Heap) : ev E L81_1 ⟨s, h⟩ = lp E L81_1 (pickS s [0, 1, 9, 10]) h := lp_of L81_1_eq s h
theorem L81_1_go {E : Env} (s : Slots) (h : Heap) : lp E L81_1 s h = andThen (ev E B81_1 ⟨pickS s [0, 1, 9, 10], h⟩) (ev E L81_1) := lp_go L81_1_eq s h
def B81_2 : C := (.block 1 (some [0, 1, 9, 10]) (.seq (.block 2 (some [0, 1, 9, 10]) L81_0)
  (.seq (.block 4 (some [0, 1, 9, 10]) L81_1)
  (.seq (.seq (.ops [oM 62 9, oM 63 10, ⟨some 64, none, .bin .gtr (.t 62) (.t 63)⟩])
  (.cond (.t 64)
  (.exit 0)
  .skip))
  (.seq (.ops [oM 65 0, oM 66 9, oM 67 0, oM 68 10, oM 69 0, oM 70 10, ⟨some 71, none, .iaddr 1 (.t 69) (.t 70)⟩, oL 72 71, oM 73 0, oM 74 9, ⟨some 75, none, .iaddr 1 (.t 73) (.t 74)⟩, oL 76 75, ⟨some 77, none, .iaddr 1 (.t 65) (.t 66)⟩, oS 1 77 72, ⟨some 78, none, .iaddr 1 (.t 67) (.t 68)⟩, oS 1 78 76])
  (.seq (.ops [oM 79 9, ⟨some 80, none, .bin .add (.t 79) (.c (.int .i64 1))⟩, oM 9 80])
  (.ops [oM 81 10, ⟨some 82, none, .bin .sub (.t 81) (.c (.int .i64 1))⟩, oM 10 82])))))))
def L81_2 : C := .loop (some [0, 1, 9, 10]) B81_2
theorem L81_2_eq {E : Env} (x : St) : ev E L81_2 x = andThen (ev E B81_2 (restr (some [0, 1, 9, 10]) x)) (ev E L81_2) := ev_loop _ _ x
theorem L81_2_lp {E : Env} (s : Slots) (h : Heap) : ev E L81_2 ⟨s, h⟩ = lp E L81_2 (pickS s [0, 1, 9, 10]) h := lp_of L81_2_eq s h
theorem L81_2_go {E : Env} (s : Slots) (h : Heap) : lp E L81_2 s h = andThen (ev E B81_2 ⟨pickS s [0, 1, 9, 10], h⟩) (ev E L81_2) := lp_go L81_2_eq s h
noncomputable def T81_2 (E : Env) (o : Out) : Option (AV × Heap) := outR [(8, none)] (andThen (endBlock 0 (some [0, 1, 9, 10]) (o)) (ev E (.seq (.ops [oM 83 9, oM 8 83])
  .ret)))
noncomputable def T81_1 (E : Env) (o : Out) : Option (AV × Heap) := T81_2 E (andThen (endBlock 1 (some [0, 1, 9, 10]) (andThen (endBlock 4 (some [0, 1, 9, 10]) (o)) (ev E (.seq (.seq (.ops [oM 62 9, oM 63 10, ⟨some 64, none, .bin .gtr (.t 62) (.t 63)⟩])
  (.cond (.t 64)
  (.exit 0)
  .skip))
  (.seq (.ops [oM 65 0, oM 66 9, oM 67 0, oM 68 10, oM 69 0, oM 70 10, ⟨some 71, none, .iaddr 1 (.t 69) (.t 70)⟩, oL 72 71, oM 73 0, oM 74 9, ⟨some 75, none, .iaddr 1 (.t 73) (.t 74)⟩, oL 76 75, ⟨some 77, none, .iaddr 1 (.t 65) (.t 66)⟩, oS 1 77 72, ⟨some 78, none, .iaddr 1 (.t 67) (.t 68)⟩, oS 1 78 76])
  (.seq (.ops [oM 79 9, ⟨some 80, none, .bin .add (.t 79) (.c (.int .i64 1))⟩, oM 9 80])
  (.ops [oM 81 10, ⟨some 82, none, .bin .sub (.t 81) (.c (.int .i64 1))⟩, oM 10 82]))))))) (ev E L81_2))
noncomputable def T81_0 (E : Env) (o : Out) : Option (AV × Heap) := T81_2 E (andThen (endBlock 1 (some [0, 1, 9, 10]) (andThen (endBlock 2 (some [0, 1, 9, 10]) (o)) (ev E (.seq (.block 4 (some [0, 1, 9, 10]) L81_1)
  (.seq (.seq (.ops [oM 62 9, oM 63 10, ⟨some 64, none, .bin .gtr (.t 62) (.t 63)⟩])
  (.cond (.t 64)
  (.exit 0)
  .skip))
  (.seq (.ops [oM 65 0, oM 66 9, oM 67 0, oM 68 10, oM 69 0, oM 70 10, ⟨some 71, none, .iaddr 1 (.t 69) (.t 70)⟩, oL 72 71, oM 73 0, oM 74 9, ⟨some 75, none, .iaddr 1 (.t 73) (.t 74)⟩, oL 76 75, ⟨some 77, none, .iaddr 1 (.t 65) (.t 66)⟩, oS 1 77 72, ⟨some 78, none, .iaddr 1 (.t 67) (.t 68)⟩, oS 1 78 76])
  (.seq (.ops [oM 79 9, ⟨some 80, none, .bin .add (.t 79) (.c (.int .i64 1))⟩, oM 9 80])
  (.ops [oM 81 10, ⟨some 82, none, .bin .sub (.t 81) (.c (.int .i64 1))⟩, oM 10 82])))))))) (ev E L81_2))
def I81 : Fn_ := ⟨4, 84, [(8, none)],
  (.seq (.ops [⟨some 8, none, .mov (.c (.int .i64 0))⟩])
  (.seq (.ops [oM 11 0, oM 12 1, oM 13 0, oM 14 3, oM 15 0, oM 16 3, ⟨some 17, none, .iaddr 1 (.t 15) (.t 16)⟩, oL 18 17, oM 19 0, oM 20 1, ⟨some 21, none, .iaddr 1 (.t 19) (.t 20)⟩, oL 22 21, ⟨some 23, none, .iaddr 1 (.t 11) (.t 12)⟩, oS 1 23 18, ⟨some 24, none, .iaddr 1 (.t 13) (.t 14)⟩, oS 1 24 22])
  (.seq (.ops [oM 25 1, ⟨some 26, none, .bin .add (.t 25) (.c (.int .i64 1))⟩, oM 27 2, ⟨some 28, none, .bin .sub (.t 27) (.c (.int .i64 1))⟩, oM 9 26, oM 10 28])
  (.seq (.block 0 (some [0, 1, 9, 10]) L81_2)
  (.seq (.ops [oM 83 9, oM 8 83])
  .ret)))))⟩
/- slices.partitionOrdered[uint32] -/
def B82_0 : C := (.seq (.seq (.ops [oM 30 10, oM 31 11, ⟨some 32, none, .bin .leq (.t 30) (.t 31)⟩, oM 33 32, gM 34 33 true 0, gM 35 33 true 10, ⟨some 36, (some (33, true)), .iaddr 1 (.t 34) (.t 35)⟩, gL 37 33 true 36, gM 38 33 true 0, gM 39 33 true 1, ⟨some 40, (some (33, true)), .iaddr 1 (.t 38) (.t 39)⟩, gL 41 33 true 40, ⟨some 42, (some (33, true)), .callF true 80 [(.t 37), (.t 41)]⟩, oN 43 33 42])
  (.cond (.t 43)
  .skip
  (.exit 0)))
  (.block 1 (some [0, 1, 10, 11]) (.ops [oM 44 10, ⟨some 45, none, .bin .add (.t 44) (.c (.int .i64 1))⟩, oM 10 45])))
def L82_0 : C := .loop (some [0, 1, 10, 11]) B82_0
theorem L82_0_eq {E : Env} (x : St) : ev E L82_0 x = andThen (ev E B82_0 (restr (some [0, 1, 10, 11]) x)) (ev E L82_0) := ev_loop _ _ x
theorem L82_0_lp {E : Env} (s : Slots) (h : Heap) : ev E L82_0 ⟨s, h⟩ = lp E L82_0 (pickS s [0, 1, 10, 11]) h := lp_of L82_0_eq s h
theorem L82_0_go {E : Env} (s : Slots) (h : Heap) : lp E L82_0 s h = andThen (ev E B82_0 ⟨pickS s [0, 1, 10, 11], h⟩) (ev E L82_0) := lp_go L82_0_eq s h
def B82_1 : C := (.seq (.seq (.ops [oM 46 10, oM 47 11, ⟨some 48, none, .bin .leq (.t 46) (.t 47)⟩, oM 49 48, gM 50 49 true 0, gM 51 49 true 11, ⟨some 52, (some (49, true)), .iaddr 1 (.t 50) (.t 51)⟩, gL 53 49 true 52, gM 54 49 true 0, gM 55 49 true 1, ⟨some 56, (some (49, true)), .iaddr 1 (.t 54) (.t 55)⟩, gL 57 49 true 56, ⟨some 58, (some (49, true)), .callF true 80 [(.t 53), (.t 57)]⟩, ⟨some 59, (some (49, true)), .un .not (.t 58)⟩, oN 60 49 59])
  (.cond (.t 60)
  .skip
  (.exit 2)))
  (.block 3 (some [0, 1, 10, 11]) (.ops [oM 61 11, ⟨some 62, none, .bin .sub (.t 61) (.c (.int .i64 1))⟩, oM 11 62])))
def L82_1 : C := .loop (some [0, 1, 10, 11]) B82_1
theorem L82_1_eq {E : Env} (x : St) : ev E L82_1 x = andThen (ev E B82_1 (restr (some [0, 1, 10, 11]) x)) (ev E L82_1) := ev_loop _ _ x
theorem L82_1_lp {E : Env} (s : Slots) (h : Heap) : ev E L82_1 ⟨s, h⟩ = lp E L82_1 (pickS s [0, 1, 10, 11]) h := lp_of L82_1_eq s h
theorem L82_1_go {E : Env} (s : Slots) (h : Heap) : lp E L82_1 s h = andThen (ev E B82_1 ⟨pickS s [0, 1, 10, 11], h⟩) (ev E L82_1) := lp_go L82_1_eq s h
def B82_2 : C := (.seq (.seq (.ops [oM 99 10, oM 100 11, ⟨some 101, none, .bin .leq (.t 99) (.t 100)⟩, oM 102 101, gM 103 102 true 0, gM 104 102 true 10, ⟨some 105, (some (102, true)), .iaddr 1 (.t 103) (.t 104)⟩, gL 106 102 true 105, gM 107 102 true 0, gM 108 102 true 1, ⟨some 109, (some (102, true)), .iaddr 1 (.t 107) (.t 108)⟩, gL 110 102 true 109, ⟨some 111, (some (102, true)), .callF true 80 [(.t 106), (.t 110)]⟩, oN 112 102 111])
  (.cond (.t 112)
  .skip
  (.exit 6)))
  (.block 7 (some [0, 1, 10, 11]) (.ops [oM 113 10, ⟨some 114, none, .bin .add (.t 113) (.c (.int .i64 1))⟩, oM 10 114])))
def L82_2 : C := .loop (some [0, 1, 10, 11]) B82_2
theorem L82_2_eq {E : Env} (x : St) : ev E L82_2 x = andThen (ev E B82_2 (restr (some [0, 1, 10, 11]) x)) (ev E L82_2) := ev_loop _ _ x
theorem L82_2_lp {E : Env} (s : Slots) (h : Heap) : ev E L82_2 ⟨s, h⟩ = lp E L82_2 (pickS s [0, 1, 10, 11]) h := lp_of L82_2_eq s h
theorem L82_2_go {E : Env} (s : Slots) (h : Heap) : lp E L82_2 s h = andThen (ev E B82_2 ⟨pickS s [0, 1, 10, 11], h⟩) (ev E L82_2) := lp_go L82_2_eq s h
def B82_3 : C := (.seq (.seq (.ops [oM 115 10, oM 116 11, ⟨some 117, none, .bin .leq (.t 115) (.t 116)⟩, oM 118 117, gM 119 118 true 0, gM 120 118 true 11, ⟨some 121, (some (118, true)), .iaddr 1 (.t 119) (.t 120)⟩, gL 122 118 true 121, gM 123 118 true 0, gM 124 118 true 1, ⟨some 125, (some (118, true)), .iaddr 1 (.t 123) (.t 124)⟩, gL 126 118 true 125, ⟨some 127, (some (118, true)), .callF true 80 [(.t 122), (.t 126)]⟩, ⟨some 128, (some (118, true)), .un .not (.t 127)⟩, oN 129 118 128])
  (.cond (.t 129)
  .skip
  (.exit 8)))
  (.block 9 (some [0, 1, 10, 11]) (.ops [oM 130 11, ⟨some 131, none, .bin .sub (.t 130) (.c (.int .i64 1))⟩, oM 11 131])))
def L82_3 : C := .loop (some [0, 1, 10, 11]) B82_3
theorem L82_3_eq {E : Env} (x : St) : ev E L82_3 x = andThen (ev E B82_3 (restr (some [0, 1, 10, 11]) x)) (ev E L82_3) := ev_loop _ _ x
theorem L82_3_lp {E : Env} (s : Slots) (h : Heap) : ev E L82_3 ⟨s, h⟩ = lp E L82_3 (pickS s [0, 1, 10, 11]) h := lp_of L82_3_eq s h
theorem L82_3_go {E : Env} (s : Slots) (h : Heap) : lp E L82_3 s h = andThen (ev E B82_3 ⟨pickS s [0, 1, 10, 11], h⟩) (ev E L82_3) := lp_go L82_3_eq s h
def B82_4 : C := (.block 5 (some [0, 1, 10, 11]) (.seq (.block 6 (some [0, 1, 10, 11]) L82_2)
  (.seq (.block 8 (some [0, 1, 10, 11]) L82_3)
  (.seq (.seq (.ops [oM 132 10, oM 133 11, ⟨some 134, none, .bin .gtr (.t 132) (.t 133)⟩])
  (.cond (.t 134)
  (.exit 4)
  .skip))
  (.seq (.ops [oM 135 0, oM 136 10, oM 137 0, oM 138 11, oM 139 0, oM 140 11, ⟨some 141, none, .iaddr 1 (.t 139) (.t 140)⟩, oL 142 141, oM 143 0, oM 144 10, ⟨some 145, none, .iaddr 1 (.t 143) (.t 144)⟩, oL 146 145, ⟨some 147, none, .iaddr 1 (.t 135) (.t 136)⟩, oS 1 147 142, ⟨some 148, none, .iaddr 1 (.t 137) (.t 138)⟩, oS 1 148 146])
  (.seq (.ops [oM 149 10, ⟨some 150, none, .bin .add (.t 149) (.c (.int .i64 1))⟩, oM 10 150])
  (.ops [oM 151 11, ⟨some 152, none, .bin .sub (.t 151) (.c (.int .i64 1))⟩, oM 11 152])))))))
def L82_4 : C := .loop (some [0, 1, 10, 11]) B82_4
theorem L82_4_eq {E : Env} (x : St) : ev E L82_4 x = andThen (ev E B82_4 (restr (some [0, 1, 10, 11]) x)) (ev E L82_4) := ev_loop _ _ x
theorem L82_4_lp {E : Env} (s : Slots) (h : Heap) : ev E L82_4 ⟨s, h⟩ = lp E L82_4 (pickS s [0, 1, 10, 11]) h := lp_of L82_4_eq s h
theorem L82_4_go {E : Env} (s : Slots) (h : Heap) : lp E L82_4 s h = andThen (ev E B82_4 ⟨pickS s [0, 1, 10, 11], h⟩) (ev E L82_4) := lp_go L82_4_eq s h
noncomputable def T82_4 (E : Env) (o : Out) : Option (AV × Heap) := outR [(8, none), (9, none)] (andThen (endBlock 4 (some [0, 1, 10, 11]) (o)) (ev E (.seq (.ops [oM 153 0, oM 154 11, oM 155 0, oM 156 1, oM 157 0, oM 158 1, ⟨some 159, none, .iaddr 1 (.t 157) (.t 158)⟩, oL 160 159, oM 161 0, oM 162 11, ⟨some 163, none, .iaddr 1 (.t 161) (.t 162)⟩, oL 164 163, ⟨some 165, none, .iaddr 1 (.t 153) (.t 154)⟩, oS 1 165 160, ⟨some 166, none, .iaddr 1 (.t 155) (.t 156)⟩, oS 1 166 164])
  (.seq (.ops [oM 167 11, oM 8 167, ⟨some 9, none, .mov (.c (.bool false))⟩])
  .ret))))
noncomputable def T82_3 (E : Env) (o : Out) : Option (AV × Heap) := T82_4 E (andThen (endBlock 5 (some [0, 1, 10, 11]) (andThen (endBlock 8 (some [0, 1, 10, 11]) (o)) (ev E (.seq (.seq (.ops [oM 132 10, oM 133 11, ⟨some 134, none, .bin .gtr (.t 132) (.t 133)⟩])
  (.cond (.t 134)
  (.exit 4)
  .skip))
  (.seq (.ops [oM 135 0, oM 136 10, oM 137 0, oM 138 11, oM 139 0, oM 140 11, ⟨some 141, none, .iaddr 1 (.t 139) (.t 140)⟩, oL 142 141, oM 143 0, oM 144 10, ⟨some 145, none, .iaddr 1 (.t 143) (.t 144)⟩, oL 146 145, ⟨some 147, none, .iaddr 1 (.t 135) (.t 136)⟩, oS 1 147 142, ⟨some 148, none, .iaddr 1 (.t 137) (.t 138)⟩, oS 1 148 146])
  (.seq (.ops [oM 149 10, ⟨some 150, none, .bin .add (.t 149) (.c (.int .i64 1))⟩, oM 10 150])
  (.ops [oM 151 11, ⟨some 152, none, .bin .sub (.t 151) (.c (.int .i64 1))⟩, oM 11 152]))))))) (ev E L82_4))
noncomputable def T82_2 (E : Env) (o : Out) : Option (AV × Heap) := T82_4 E (andThen (endBlock 5 (some [0, 1, 10, 11]) (andThen (endBlock 6 (some [0, 1, 10, 11]) (o)) (ev E (.seq (.block 8 (some [0, 1, 10, 11]) L82_3)
  (.seq (.seq (.ops [oM 132 10, oM 133 11, ⟨some 134, none, .bin .gtr (.t 132) (.t 133)⟩])
  (.cond (.t 134)
  (.exit 4)
  .skip))
  (.seq (.ops [oM 135 0, oM 136 10, oM 137 0, oM 138 11, oM 139 0, oM 140 11, ⟨some 141, none, .iaddr 1 (.t 139) (.t 140)⟩, oL 142 141, oM 143 0, oM 144 10, ⟨some 145, none, .iaddr 1 (.t 143) (.t 144)⟩, oL 146 145, ⟨some 147, none, .iaddr 1 (.t 135) (.t 136)⟩, oS 1 147 142, ⟨some 148, none, .iaddr 1 (.t 137) (.t 138)⟩, oS 1 148 146])
  (.seq (.ops [oM 149 10, ⟨some 150, none, .bin .add (.t 149) (.c (.int .i64 1))⟩, oM 10 150])
  (.ops [oM 151 11, ⟨some 152, none, .bin .sub (.t 151) (.c (.int .i64 1))⟩, oM 11 152])))))))) (ev E L82_4))
noncomputable def T82_1 (E : Env) (o : Out) : Option (AV × Heap) := outR [(8, none), (9, none)] (andThen (endBlock 2 (some [0, 1, 10, 11]) (o)) (ev E (.seq (.seq (.ops [oM 63 10, oM 64 11, ⟨some 65, none, .bin .gtr (.t 63) (.t 64)⟩])
  (.cond (.t 65)
  (.seq (.ops [oM 66 0, oM 67 11, oM 68 0, oM 69 1, oM 70 0, oM 71 1, ⟨some 72, none, .iaddr 1 (.t 70) (.t 71)⟩, oL 73 72, oM 74 0, oM 75 11, ⟨some 76, none, .iaddr 1 (.t 74) (.t 75)⟩, oL 77 76, ⟨some 78, none, .iaddr 1 (.t 66) (.t 67)⟩, oS 1 78 73, ⟨some 79, none, .iaddr 1 (.t 68) (.t 69)⟩, oS 1 79 77])
  (.seq (.ops [oM 80 11, oM 8 80, ⟨some 9, none, .mov (.c (.bool true))⟩])
  .ret))
  .skip))
  (.seq (.ops [oM 81 0, oM 82 10, oM 83 0, oM 84 11, oM 85 0, oM 86 11, ⟨some 87, none, .iaddr 1 (.t 85) (.t 86)⟩, oL 88 87, oM 89 0, oM 90 10, ⟨some 91, none, .iaddr 1 (.t 89) (.t 90)⟩, oL 92 91, ⟨some 93, none, .iaddr 1 (.t 81) (.t 82)⟩, oS 1 93 88, ⟨some 94, none, .iaddr 1 (.t 83) (.t 84)⟩, oS 1 94 92])
  (.seq (.ops [oM 95 10, ⟨some 96, none, .bin .add (.t 95) (.c (.int .i64 1))⟩, oM 10 96])
  (.seq (.ops [oM 97 11, ⟨some 98, none, .bin .sub (.t 97) (.c (.int .i64 1))⟩, oM 11 98])
  (.seq (.block 4 (some [0, 1, 10, 11]) L82_4)
  (.seq (.ops [oM 153 0, oM 154 11, oM 155 0, oM 156 1, oM 157 0, oM 158 1, ⟨some 159, none, .iaddr 1 (.t 157) (.t 158)⟩, oL 160 159, oM 161 0, oM 162 11, ⟨some 163, none, .iaddr 1 (.t 161) (.t 162)⟩, oL 164 163, ⟨some 165, none, .iaddr 1 (.t 153) (.t 154)⟩, oS 1 165 160, ⟨some 166, none, .iaddr 1 (.t 155) (.t 156)⟩, oS 1 166 164])
  (.seq (.ops [oM 167 11, oM 8 167, ⟨some 9, none, .mov (.c (.bool false))⟩])
  .ret)))))))))
noncomputable def T82_0 (E : Env) (o : Out) : Option (AV × Heap) := outR [(8, none), (9, none)] (andThen (endBlock 0 (some [0, 1, 10, 11]) (o)) (ev E (.seq (.block 2 (some [0, 1, 10, 11]) L82_1)
  (.seq (.seq (.ops [oM 63 10, oM 64 11, ⟨some 65, none, .bin .gtr (.t 63) (.t 64)⟩])
  (.cond (.t 65)
  (.seq (.ops [oM 66 0, oM 67 11, oM 68 0, oM 69 1, oM 70 0, oM 71 1, ⟨some 72, none, .iaddr 1 (.t 70) (.t 71)⟩, oL 73 72, oM 74 0, oM 75 11, ⟨some 76, none, .iaddr 1 (.t 74) (.t 75)⟩, oL 77 76, ⟨some 78, none, .iaddr 1 (.t 66) (.t 67)⟩, oS 1 78 73, ⟨some 79, none, .iaddr 1 (.t 68) (.t 69)⟩, oS 1 79 77])
  (.seq (.ops [oM 80 11, oM 8 80, ⟨some 9, none, .mov (.c (.bool true))⟩])
  .ret))
  .skip))
  (.seq (.ops [oM 81 0, oM 82 10, oM 83 0, oM 84 11, oM 85 0, oM 86 11, ⟨some 87, none, .iaddr 1 (.t 85) (.t 86)⟩, oL 88 87, oM 89 0, oM 90 10, ⟨some 91, none, .iaddr 1 (.t 89) (.t 90)⟩, oL 92 91, ⟨some 93, none, .iaddr 1 (.t 81) (.t 82)⟩, oS 1 93 88, ⟨some 94, none, .iaddr 1 (.t 83) (.t 84)⟩, oS 1 94 92])
  (.seq (.ops [oM 95 10, ⟨some 96, none, .bin .add (.t 95) (.c (.int .i64 1))⟩, oM 10 96])
  (.seq (.ops [oM 97 11, ⟨some 98, none, .bin .sub (.t 97) (.c (.int .i64 1))⟩, oM 11 98])
  (.seq (.block 4 (some [0, 1, 10, 11]) L82_4)
  (.seq (.ops [oM 153 0, oM 154 11, oM 155 0, oM 156 1, oM 157 0, oM 158 1, ⟨some 159, none, .iaddr 1 (.t 157) (.t 158)⟩, oL 160 159, oM 161 0, oM 162 11, ⟨some 163, none, .iaddr 1 (.t 161) (.t 162)⟩, oL 164 163, ⟨some 165, none, .iaddr 1 (.t 153) (.t 154)⟩, oS 1 165 160, ⟨some 166, none, .iaddr 1 (.t 155) (.t 156)⟩, oS 1 166 164])
  (.seq (.ops [oM 167 11, oM 8 167, ⟨some 9, none, .mov (.c (.bool false))⟩])
  .ret))))))))))
def I82 : Fn_ := ⟨4, 168, [(8, none), (9, none)],
  (.seq (.ops [⟨some 8, none, .mov (.c (.int .i64 0))⟩, ⟨some 9, none, .mov (.c (.bool false))⟩])
  (.seq (.ops [oM 12 0, oM 13 1, oM 14 0, oM 15 3, oM 16 0, oM 17 3, ⟨some 18, none, .iaddr 1 (.t 16) (.t 17)⟩, oL 19 18, oM 20 0, oM 21 1, ⟨some 22, none, .iaddr 1 (.t 20) (.t 21)⟩, oL 23 22, ⟨some 24, none, .iaddr 1 (.t 12) (.t 13)⟩, oS 1 24 19, ⟨some 25, none, .iaddr 1 (.t 14) (.t 15)⟩, oS 1 25 23])
  (.seq (.ops [oM 26 1, ⟨some 27, none, .bin .add (.t 26) (.c (.int .i64 1))⟩, oM 28 2, ⟨some 29, none, .bin .sub (.t 28) (.c (.int .i64 1))⟩, oM 10 27, oM 11 29])
  (.seq (.block 0 (some [0, 1, 10, 11]) L82_0)
  (.seq (.block 2 (some [0, 1, 10, 11]) L82_1)
  (.seq (.seq (.ops [oM 63 10, oM 64 11, ⟨some 65, none, .bin .gtr (.t 63) (.t 64)⟩])
  (.cond (.t 65)
  (.seq (.ops [oM 66 0, oM 67 11, oM 68 0, oM 69 1, oM 70 0, oM 71 1, ⟨some 72, none, .iaddr 1 (.t 70) (.t 71)⟩, oL 73 72, oM 74 0, oM 75 11, ⟨some 76, none, .iaddr 1 (.t 74) (.t 75)⟩, oL 77 76, ⟨some 78, none, .iaddr 1 (.t 66) (.t 67)⟩, oS 1 78 73, ⟨some 79, none, .iaddr 1 (.t 68) (.t 69)⟩, oS 1 79 77])
  (.seq (.ops [oM 80 11, oM 8 80, ⟨some 9, none, .mov (.c (.bool true))⟩])
  .ret))
  .skip))
  (.seq (.ops [oM 81 0, oM 82 10, oM 83 0, oM 84 11, oM 85 0, oM 86 11, ⟨some 87, none, .iaddr 1 (.t 85) (.t 86)⟩, oL 88 87, oM 89 0, oM 90 10, ⟨some 91, none, .iaddr 1 (.t 89) (.t 90)⟩, oL 92 91, ⟨some 93, none, .iaddr 1 (.t 81) (.t 82)⟩, oS 1 93 88, ⟨some 94, none, .iaddr 1 (.t 83) (.t 84)⟩, oS 1 94 92])
  (.seq (.ops [oM 95 10, ⟨some 96, none, .bin .add (.t 95) (.c (.int .i64 1))⟩, oM 10 96])
  (.seq (.ops [oM 97 11, ⟨some 98, none, .bin .sub (.t 97) (.c (.int .i64 1))⟩, oM 11 98])
  (.seq (.block 4 (some [0, 1, 10, 11]) L82_4)
  (.seq (.ops [oM 153 0, oM 154 11, oM 155 0, oM 156 1, oM 157 0, oM 158 1, ⟨some 159, none, .iaddr 1 (.t 157) (.t 158)⟩, oL 160 159, oM 161 0, oM 162 11, ⟨some 163, none, .iaddr 1 (.t 161) (.t 162)⟩, oL 164 163, ⟨some 165, none, .iaddr 1 (.t 153) (.t 154)⟩, oS 1 165 160, ⟨some 166, none, .iaddr 1 (.t 155) (.t 156)⟩, oS 1 166 164])
  (.seq (.ops [oM 167 11, oM 8 167, ⟨some 9, none, .mov (.c (.bool false))⟩])
  .ret))))))))))))⟩
/- slices.siftDownOrdered[string] -/
def B83_0 : C := (.block 1 (some [0, 2, 3, 8]) (.seq (.ops [oM 11 8, ⟨some 12, none, .bin .mul (.c (.int .i64 2)) (.t 11)⟩, ⟨some 13, none, .bin .add (.t 12) (.c (.int .i64 1))⟩, oM 9 13])
  (.seq (.seq (.ops [oM 14 9, oM 15 2, ⟨some 16, none, .bin .geq (.t 14) (.t 15)⟩])
  (.cond (.t 16)
  (.exit 0)
  .skip))
  (.seq (.seq (.ops [oM 17 9, ⟨some 18, none, .bin .add (.t 17) (.c (.int .i64 1))⟩, oM 19 2, ⟨some 20, none, .bin .lss (.t 18) (.t 19)⟩, oM 21 20, gM 22 21 true 0, gM 23 21 true 3, gM 24 21 true 9, ⟨some 25, (some (21, true)), .bin .add (.t 23) (.t 24)⟩, ⟨some 26, (some (21, true)), .iaddr 1 (.t 22) (.t 25)⟩, gL 27 21 true 26, gM 28 21 true 0, gM 29 21 true 3, gM 30 21 true 9, ⟨some 31, (some (21, true)), .bin .add (.t 29) (.t 30)⟩, ⟨some 32, (some (21, true)), .bin .add (.t 31) (.c (.int .i64 1))⟩, ⟨some 33, (some (21, true)), .iaddr 1 (.t 28) (.t 32)⟩, gL 34 21 true 33, ⟨some 35, (some (21, true)), .callF true 69 [(.t 27), (.t 34)]⟩, oN 36 21 35])
  (.cond (.t 36)
  (.ops [oM 37 9, ⟨some 38, none, .bin .add (.t 37) (.c (.int .i64 1))⟩, oM 9 38])
  .skip))
  (.seq (.seq (.ops [oM 39 0, oM 40 3, oM 41 8, ⟨some 42, none, .bin .add (.t 40) (.t 41)⟩, ⟨some 43, none, .iaddr 1 (.t 39) (.t 42)⟩, oL 44 43, oM 45 0, oM 46 3, oM 47 9, ⟨some 48, none, .bin .add (.t 46) (.t 47)⟩, ⟨some 49, none, .iaddr 1 (.t 45) (.t 48)⟩, oL 50 49, ⟨some 51, none, .callF true 69 [(.t 44), (.t 50)]⟩, ⟨some 52, none, .un .not (.t 51)⟩])
  (.cond (.t 52)
  .ret
  .skip))
  (.seq (.ops [oM 53 0, oM 54 3, oM 55 8, ⟨some 56, none, .bin .add (.t 54) (.t 55)⟩, oM 57 0, oM 58 3, oM 59 9, ⟨some 60, none, .bin .add (.t 58) (.t 59)⟩, oM 61 0, oM 62 3, oM 63 9, ⟨some 64, none, .bin .add (.t 62) (.t 63)⟩, ⟨some 65, none, .iaddr 1 (.t 61) (.t 64)⟩, oL 66 65, oM 67 0, oM 68 3, oM 69 8, ⟨some 70, none, .bin .add (.t 68) (.t 69)⟩, ⟨some 71, none, .iaddr 1 (.t 67) (.t 70)⟩, oL 72 71, ⟨some 73, none, .iaddr 1 (.t 53) (.t 56)⟩, oS 1 73 66, ⟨some 74, none, .iaddr 1 (.t 57) (.t 60)⟩, oS 1 74 72])
  (.ops [oM 75 9, oM 8 75])))))))
def L83_0 : C := .loop (some [0, 2, 3, 8]) B83_0
theorem L83_0_eq {E : Env} (x : St) : ev E L83_0 x = andThen (ev E B83_0 (restr (some [0, 2, 3, 8]) x)) (ev E L83_0) := ev_loop _ _ x
theorem L83_0_lp {E : Env} (s : Slots) (h : Heap) : ev E L83_0 ⟨s, h⟩ = lp E L83_0 (pickS s [0, 2, 3, 8]) h := lp_of L83_0_eq s h
theorem L83_0_go {E : Env} (s : Slots) (h : Heap) : lp E L83_0 s h = andThen (ev E B83_0 ⟨pickS s [0, 2, 3, 8], h⟩) (ev E L83_0) := lp_go L83_0_eq s h
noncomputable def T83_0 (E : Env) (o : Out) : Option (AV × Heap) := outR [] (endBlock 0 (some [0, 2, 3, 8]) (o))
def I83 : Fn_ := ⟨4, 76, [],
  (.seq (.ops [oM 10 1, oM 8 10])
  (.block 0 (some [0, 2, 3, 8]) L83_0))⟩
/- slices.nextPowerOfTwo -/
def I84 : Fn_ := ⟨1, 7, [(2, none)],
  (.seq (.ops [⟨some 2, none, .mov (.c (.int .u64 0))⟩])
  (.seq (.ops [oM 3 0, ⟨some 4, none, .conv .u64 (.t 3)⟩, ⟨some 5, none, .callF false 60 [(.t 4)]⟩, ⟨some 6, none, .bin .shl (.c (.int .u64 1)) (.t 5)⟩, oM 2 6])
  .ret))⟩
/- (*slices.xorshift).Next -/
def I85 : Fn_ := ⟨1, 33, [(2, none)],
  (.seq (.ops [⟨some 2, none, .mov (.c (.int .u64 0))⟩])
  (.seq (.ops [oM 3 0, ⟨some 4, none, .nilChk (.t 3)⟩, oL 5 4, oM 6 0, ⟨some 7, none, .nilChk (.t 6)⟩, oL 8 7, ⟨some 9, none, .bin .shl (.t 8) (.c (.int .u64 13))⟩, ⟨some 10, none, .bin .xor (.t 5) (.t 9)⟩, ⟨some 11, none, .nilChk (.t 3)⟩, oS 1 11 10])
  (.seq (.ops [oM 12 0, ⟨some 13, none, .nilChk (.t 12)⟩, oL 14 13, oM 15 0, ⟨some 16, none, .nilChk (.t 15)⟩, oL 17 16, ⟨some 18, none, .bin .shr (.t 17) (.c (.int .u64 7))⟩, ⟨some 19, none, .bin .xor (.t 14) (.t 18)⟩, ⟨some 20, none, .nilChk (.t 12)⟩, oS 1 20 19])
  (.seq (.ops [oM 21 0, ⟨some 22, none, .nilChk (.t 21)⟩, oL 23 22, oM 24 0, ⟨some 25, none, .nilChk (.t 24)⟩, oL 26 25, ⟨some 27, none, .bin .shl (.t 26) (.c (.int .u64 17))⟩, ⟨some 28, none, .bin .xor (.t 23) (.t 27)⟩, ⟨some 29, none, .nilChk (.t 21)⟩, oS 1 29 28])
  (.seq (.ops [oM 30 0, ⟨some 31, none, .nilChk (.t 30)⟩, oL 32 31, oM 2 32])
  .ret)))))⟩
/- slices.medianAdjacentOrdered[string] -/
def I86 : Fn_ := ⟨3, 15, [(6, none)],
  (.seq (.ops [⟨some 6, none, .mov (.c (.int .i64 0))⟩])
  (.seq (.ops [oM 7 0, oM 8 1, ⟨some 9, none, .bin .sub (.t 8) (.c (.int .i64 1))⟩, oM 10 1, oM 11 1, ⟨some 12, none, .bin .add (.t 11) (.c (.int .i64 1))⟩, oM 13 2, ⟨some 14, none, .callF false 87 [(.t 7), (.t 9), (.t 10), (.t 12), (.t 13)]⟩, oM 6 14])
  .ret))⟩
/- slices.medianOrdered[string] -/
def I87 : Fn_ := ⟨5, 36, [(10, none)],
  (.seq (.ops [⟨some 10, none, .mov (.c (.int .i64 0))⟩])
  (.seq (.ops [oM 12 0, oM 13 1, oM 14 2, oM 15 4, ⟨some 16, none, .callF false 93 [(.t 12), (.t 13), (.t 14), (.t 15)]⟩, oM 11 16, oE 17 11 0, oE 18 11 1, oM 1 17, oM 2 18])
  (.seq (.ops [oM 20 0, oM 21 2, oM 22 3, oM 23 4, ⟨some 24, none, .callF false 93 [(.t 20), (.t 21), (.t 22), (.t 23)]⟩, oM 19 24, oE 25 19 0, oE 26 19 1, oM 2 25, oM 3 26])
  (.seq (.ops [oM 28 0, oM 29 1, oM 30 2, oM 31 4, ⟨some 32, none, .callF false 93 [(.t 28), (.t 29), (.t 30), (.t 31)]⟩, oM 27 32, oE 33 27 0, oE 34 27 1, oM 1 33, oM 2 34])
  (.seq (.ops [oM 35 2, oM 10 35])
  .ret)))))⟩
/- cmp.isNaN[string] -/
def I88 : Fn_ := ⟨1, 6, [(2, none)],
  (.seq (.ops [⟨some 2, none, .mov (.c (.bool false))⟩])
  (.seq (.ops [oM 3 0, oM 4 0, ⟨some 5, none, .bin .neq (.t 3) (.t 4)⟩, oM 2 5])
  .ret))⟩
/- slices.siftDownOrdered[uint32] -/
def B89_0 : C := (.block 1 (some [0, 2, 3, 8]) (.seq (.ops [oM 11 8, ⟨some 12, none, .bin .mul (.c (.int .i64 2)) (.t 11)⟩, ⟨some 13, none, .bin .add (.t 12) (.c (.int .i64 1))⟩, oM 9 13])
  (.seq (.seq (.ops [oM 14 9, oM 15 2, ⟨some 16, none, .bin .geq (.t 14) (.t 15)⟩])
  (.cond (.t 16)
  (.exit 0)
  .skip))
  (.seq (.seq (.ops [oM 17 9, ⟨some 18, none, .bin .add (.t 17) (.c (.int .i64 1))⟩, oM 19 2, ⟨some 20, none, .bin .lss (.t 18) (.t 19)⟩, oM 21 20, gM 22 21 true 0, gM 23 21 true 3, gM 24 21 true 9, ⟨some 25, (some (21, true)), .bin .add (.t 23) (.t 24)⟩, ⟨some 26, (some (21, true)), .iaddr 1 (.t 22) (.t 25)⟩, gL 27 21 true 26, gM 28 21 true 0, gM 29 21 true 3, gM 30 21 true 9, ⟨some 31, (some (21, true)), .bin .add (.t 29) (.t 30)⟩, ⟨some 32, (some (21, true)), .bin .add (.t 31) (.c (.int .i64 1))⟩, ⟨some 33, (some (21, true)), .iaddr 1 (.t 28) (.t 32)⟩, gL 34 21 true 33, ⟨some 35, (some (21, true)), .callF true 80 [(.t 27), (.t 34)]⟩, oN 36 21 35])
  (.cond (.t 36)
  (.ops [oM 37 9, ⟨some 38, none, .bin .add (.t 37) (.c (.int .i64 1))⟩, oM 9 38])
  .skip))
  (.seq (.seq (.ops [oM 39 0, oM 40 3, oM 41 8, ⟨some 42, none, .bin .add (.t 40) (.t 41)⟩, ⟨some 43, none, .iaddr 1 (.t 39) (.t 42)⟩, oL 44 43, oM 45 0, oM 46 3, oM 47 9, ⟨some 48, none, .bin .add (.t 46) (.t 47)⟩, ⟨some 49, none, .iaddr 1 (.t 45) (.t 48)⟩, oL 50 49, ⟨some 51, none, .callF true 80 [(.t 44), (.t 50)]⟩, ⟨some 52, none, .un .not (.t 51)⟩])
  (.cond (.t 52)
  .ret
  .skip))
  (.seq (.ops [oM 53 0, oM 54 3, oM 55 8, ⟨some 56, none, .bin .add (.t 54) (.t 55)⟩, oM 57 0, oM 58 3, oM 59 9, ⟨some 60, none, .bin .add (.t 58) (.t 59)⟩, oM 61 0, oM 62 3, oM 63 9, ⟨some 64, none, .bin .add (.t 62) (.t 63)⟩, ⟨some 65, none, .iaddr 1 (.t 61) (.t 64)⟩, oL 66 65, oM 67 0, oM 68 3, oM 69 8, ⟨some 70, none, .bin .add (.t 68) (.t 69)⟩, ⟨some 71, none, .iaddr 1 (.t 67) (.t 70)⟩, oL 72 71, ⟨some 73, none, .iaddr 1 (.t 53) (.t 56)⟩, oS 1 73 66, ⟨some 74, none, .iaddr 1 (.t 57) (.t 60)⟩, oS 1 74 72])
  (.ops [oM 75 9, oM 8 75])))))))
def L89_0 : C := .loop (some [0, 2, 3, 8]) B89_0
theorem L89_0_eq {E : Env} (x : St) : ev E L89_0 x = andThen (ev E B89_0 (restr (some [0, 2, 3, 8]) x)) (ev E L89_0) := ev_loop _ _ x
theorem L89_0_lp {E : Env} (s : Slots) (h : Heap) : ev E L89_0 ⟨s, h⟩ = lp E L89_0 (pickS s [0, 2, 3, 8]) h := lp_of L89_0_eq s h
theorem L89_0_go {E : Env} (s : Slots) (h : Heap) : lp E L89_0 s h = andThen (ev E B89_0 ⟨pickS s [0, 2, 3, 8], h⟩) (ev E L89_0) := lp_go L89_0_eq s h
noncomputable def T89_0 (E : Env) (o : Out) : Option (AV × Heap) := outR [] (endBlock 0 (some [0, 2, 3, 8]) (o))
def I89 : Fn_ := ⟨4, 76, [],
  (.seq (.ops [oM 10 1, oM 8 10])
  (.block 0 (some [0, 2, 3, 8]) L89_0))⟩
/- slices.medianAdjacentOrdered[uint32] -/
def I90 : Fn_ := ⟨3, 15, [(6, none)],
  (.seq (.ops [⟨some 6, none, .mov (.c (.int .i64 0))⟩])
  (.seq (.ops [oM 7 0, oM 8 1, ⟨some 9, none, .bin .sub (.t 8) (.c (.int .i64 1))⟩, oM 10 1, oM 11 1, ⟨some 12, none, .bin .add (.t 11) (.c (.int .i64 1))⟩, oM 13 2, ⟨some 14, none, .callF false 91 [(.t 7), (.t 9), (.t 10), (.t 12), (.t 13)]⟩, oM 6 14])
  .ret))⟩
/- slices.medianOrdered[uint32] -/
def I91 : Fn_ := ⟨5, 36, [(10, none)],
  (.seq (.ops [⟨some 10, none, .mov (.c (.int .i64 0))⟩])
  (.seq (.ops [oM 12 0, oM 13 1, oM 14 2, oM 15 4, ⟨some 16, none, .callF false 94 [(.t 12), (.t 13), (.t 14), (.t 15)]⟩, oM 11 16, oE 17 11 0, oE 18 11 1, oM 1 17, oM 2 18])
  (.seq (.ops [oM 20 0, oM 21 2, oM 22 3, oM 23 4, ⟨some 24, none, .callF false 94 [(.t 20), (.t 21), (.t 22), (.t 23)]⟩, oM 19 24, oE 25 19 0, oE 26 19 1, oM 2 25, oM 3 26])
  (.seq (.ops [oM 28 0, oM 29 1, oM 30 2, oM 31 4, ⟨some 32, none, .callF false 94 [(.t 28), (.t 29), (.t 30), (.t 31)]⟩, oM 27 32, oE 33 27 0, oE 34 27 1, oM 1 33, oM 2 34])
  (.seq (.ops [oM 35 2, oM 10 35])
  .ret)))))⟩
/- cmp.isNaN[uint32] -/
def I92 : Fn_ := ⟨1, 6, [(2, none)],
  (.seq (.ops [⟨some 2, none, .mov (.c (.bool false))⟩])
  (.seq (.ops [oM 3 0, oM 4 0, ⟨some 5, none, .bin .neq (.t 3) (.t 4)⟩, oM 2 5])
  .ret))⟩
/- slices.order2Ordered[string] -/
def I93 : Fn_ := ⟨4, 28, [(8, none), (9, none)],
  (.seq (.ops [⟨some 8, none, .mov (.c (.int .i64 0))⟩, ⟨some 9, none, .mov (.c (.int .i64 0))⟩])
  (.seq (.seq (.ops [oM 10 0, oM 11 2, ⟨some 12, none, .iaddr 1 (.t 10) (.t 11)⟩, oL 13 12, oM 14 0, oM 15 1, ⟨some 16, none, .iaddr 1 (.t 14) (.t 15)⟩, oL 17 16, ⟨some 18, none, .callF true 69 [(.t 13), (.t 17)]⟩])
  (.cond (.t 18)
  (.seq (.ops [oM 19 3, ⟨some 20, none, .nilChk (.t 19)⟩, oL 21 20, ⟨some 22, none, .bin .add (.t 21) (.c (.int .i64 1))⟩, ⟨some 23, none, .nilChk (.t 19)⟩, oS 1 23 22])
  (.seq (.ops [oM 24 2, oM 25 1, oM 8 24, oM 9 25])
  .ret))
  .skip))
  (.seq (.ops [oM 26 1, oM 27 2, oM 8 26, oM 9 27])
  .ret)))⟩
/- slices.order2Ordered[uint32] -/
def I94 : Fn_ := ⟨4, 28, [(8, none), (9, none)],
  (.seq (.ops [⟨some 8, none, .mov (.c (.int .i64 0))⟩, ⟨some 9, none, .mov (.c (.int .i64 0))⟩])
  (.seq (.seq (.ops [oM 10 0, oM 11 2, ⟨some 12, none, .iaddr 1 (.t 10) (.t 11)⟩, oL 13 12, oM 14 0, oM 15 1, ⟨some 16, none, .iaddr 1 (.t 14) (.t 15)⟩, oL 17 16, ⟨some 18, none, .callF true 80 [(.t 13), (.t 17)]⟩])
  (.cond (.t 18)
  (.seq (.ops [oM 19 3, ⟨some 20, none, .nilChk (.t 19)⟩, oL 21 20, ⟨some 22, none, .bin .add (.t 21) (.c (.int .i64 1))⟩, ⟨some 23, none, .nilChk (.t 19)⟩, oS 1 23 22])
  (.seq (.ops [oM 24 2, oM 25 1, oM 8 24, oM 9 25])
  .ret))
  .skip))
  (.seq (.ops [oM 26 1, oM 27 2, oM 8 26, oM 9 27])
  .ret)))⟩

def fns : FuncId → Option Fn_
  | 2 => some I2
  | 3 => some I3
  | 4 => some I4
  | 5 => some I5
  | 6 => some I6
  | 7 => some I7
  | 8 => some I8
  | 9 => some I9
  | 10 => some I10
  | 11 => some I11
  | 12 => some I12
  | 13 => some I13
  | 15 => some I15
  | 16 => some I16
  | 17 => some I17
  | 18 => some I18
  | 19 => some I19
  | 20 => some I20
  | 21 => some I21
  | 22 => some I22
  | 23 => some I23
  | 24 => some I24
  | 25 => some I25
  | 26 => some I26
  | 27 => some I27
  | 28 => some I28
  | 29 => some I29
  | 30 => some I30
  | 31 => some I31
  | 32 => some I32
  | 35 => some I35
  | 36 => some I36
  | 37 => some I37
  | 38 => some I38
  | 40 => some I40
  | 42 => some I42
  | 43 => some I43
  | 44 => some I44
  | 45 => some I45
  | 46 => some I46
  | 47 => some I47
  | 48 => some I48
  | 49 => some I49
  | 50 => some I50
  | 52 => some I52
  | 53 => some I53
  | 55 => some I55
  | 56 => some I56
  | 58 => some I58
  | 59 => some I59
  | 60 => some I60
  | 61 => some I61
  | 62 => some I62
  | 63 => some I63
  | 64 => some I64
  | 65 => some I65
  | 66 => some I66
  | 67 => some I67
  | 68 => some I68
  | 69 => some I69
  | 70 => some I70
  | 71 => some I71
  | 72 => some I72
  | 73 => some I73
  | 74 => some I74
  | 75 => some I75
  | 76 => some I76
  | 77 => some I77
  | 78 => some I78
  | 79 => some I79
  | 80 => some I80
  | 81 => some I81
  | 82 => some I82
  | 83 => some I83
  | 84 => some I84
  | 85 => some I85
  | 86 => some I86
  | 87 => some I87
  | 88 => some I88
  | 89 => some I89
  | 90 => some I90
  | 91 => some I91
  | 92 => some I92
  | 93 => some I93
  | 94 => some I94
  | _ => none

def keep : FuncId → Bool
  | _ => false

theorem chk2 : chkFn Try.prog Try.f2 I2 = true := by kernel_rfl
theorem chk3 : chkFn Try.prog Try.f3 I3 = true := by kernel_rfl
theorem chk4 : chkFn Try.prog Try.f4 I4 = true := by kernel_rfl
theorem chk5 : chkFn Try.prog Try.f5 I5 = true := by kernel_rfl
theorem chk6 : chkFn Try.prog Try.f6 I6 = true := by kernel_rfl
theorem chk7 : chkFn Try.prog Try.f7 I7 = true := by kernel_rfl
theorem chk8 : chkFn Try.prog Try.f8 I8 = true := by kernel_rfl
theorem chk9 : chkFn Try.prog Try.f9 I9 = true := by kernel_rfl
theorem chk10 : chkFn Try.prog Try.f10 I10 = true := by kernel_rfl
theorem chk11 : chkFn Try.prog Try.f11 I11 = true := by kernel_rfl
theorem chk12 : chkFn Try.prog Try.f12 I12 = true := by kernel_rfl
theorem chk13 : chkFn Try.prog Try.f13 I13 = true := by kernel_rfl
theorem chk15 : chkFn Try.prog Try.f15 I15 = true := by kernel_rfl
theorem chk16 : chkFn Try.prog Try.f16 I16 = true := by kernel_rfl
theorem chk17 : chkFn Try.prog Try.f17 I17 = true := by kernel_rfl
theorem chk18 : chkFn Try.prog Try.f18 I18 = true := by kernel_rfl
theorem chk19 : chkFn Try.prog Try.f19 I19 = true := by kernel_rfl
theorem chk20 : chkFn Try.prog Try.f20 I20 = true := by kernel_rfl
theorem chk21 : chkFn Try.prog Try.f21 I21 = true := by kernel_rfl
theorem chk22 : chkFn Try.prog Try.f22 I22 = true := by kernel_rfl
theorem chk23 : chkFn Try.prog Try.f23 I23 = true := by kernel_rfl
theorem chk24 : chkFn Try.prog Try.f24 I24 = true := by kernel_rfl
theorem chk25 : chkFn Try.prog Try.f25 I25 = true := by kernel_rfl
theorem chk26 : chkFn Try.prog Try.f26 I26 = true := by kernel_rfl
theorem chk27 : chkFn Try.prog Try.f27 I27 = true := by kernel_rfl
theorem chk28 : chkFn Try.prog Try.f28 I28 = true := by kernel_rfl
theorem chk29 : chkFn Try.prog Try.f29 I29 = true := by kernel_rfl
theorem chk30 : chkFn Try.prog Try.f30 I30 = true := by kernel_rfl
theorem chk31 : chkFn Try.prog Try.f31 I31 = true := by kernel_rfl
theorem chk32 : chkFn Try.prog Try.f32 I32 = true := by kernel_rfl
theorem chk35 : chkFn Try.prog Try.f35 I35 = true := by kernel_rfl
theorem chk36 : chkFn Try.prog Try.f36 I36 = true := by kernel_rfl
theorem chk37 : chkFn Try.prog Try.f37 I37 = true := by kernel_rfl
theorem chk38 : chkFn Try.prog Try.f38 I38 = true := by kernel_rfl
theorem chk40 : chkFn Try.prog Try.f40 I40 = true := by kernel_rfl
theorem chk42 : chkFn Try.prog Try.f42 I42 = true := by kernel_rfl
theorem chk43 : chkFn Try.prog Try.f43 I43 = true := by kernel_rfl
theorem chk44 : chkFn Try.prog Try.f44 I44 = true := by kernel_rfl
theorem chk45 : chkFn Try.prog Try.f45 I45 = true := by kernel_rfl
theorem chk46 : chkFn Try.prog Try.f46 I46 = true := by kernel_rfl
theorem chk47 : chkFn Try.prog Try.f47 I47 = true := by kernel_rfl
theorem chk48 : chkFn Try.prog Try.f48 I48 = true := by kernel_rfl
theorem chk49 : chkFn Try.prog Try.f49 I49 = true := by kernel_rfl
theorem chk50 : chkFn Try.prog Try.f50 I50 = true := by kernel_rfl
theorem chk52 : chkFn Try.prog Try.f52 I52 = true := by kernel_rfl
theorem chk53 : chkFn Try.prog Try.f53 I53 = true := by kernel_rfl
theorem chk55 : chkFn Try.prog Try.f55 I55 = true := by kernel_rfl
theorem chk56 : chkFn Try.prog Try.f56 I56 = true := by kernel_rfl
theorem chk58 : chkFn Try.prog Try.f58 I58 = true := by kernel_rfl
theorem chk59 : chkFn Try.prog Try.f59 I59 = true := by kernel_rfl
theorem chk60 : chkFn Try.prog Try.f60 I60 = true := by kernel_rfl
theorem chk61 : chkFn Try.prog Try.f61 I61 = true := by kernel_rfl
theorem chk62 : chkFn Try.prog Try.f62 I62 = true := by kernel_rfl
theorem chk63 : chkFn Try.prog Try.f63 I63 = true := by kernel_rfl
theorem chk64 : chkFn Try.prog Try.f64 I64 = true := by kernel_rfl
theorem chk65 : chkFn Try.prog Try.f65 I65 = true := by kernel_rfl
theorem chk66 : chkFn Try.prog Try.f66 I66 = true := by kernel_rfl
theorem chk67 : chkFn Try.prog Try.f67 I67 = true := by kernel_rfl
theorem chk68 : chkFn Try.prog Try.f68 I68 = true := by kernel_rfl
theorem chk69 : chkFn Try.prog Try.f69 I69 = true := by kernel_rfl
theorem chk70 : chkFn Try.prog Try.f70 I70 = true := by kernel_rfl
theorem chk71 : chkFn Try.prog Try.f71 I71 = true := by kernel_rfl
theorem chk72 : chkFn Try.prog Try.f72 I72 = true := by kernel_rfl
theorem chk73 : chkFn Try.prog Try.f73 I73 = true := by kernel_rfl
theorem chk74 : chkFn Try.prog Try.f74 I74 = true := by kernel_rfl
theorem chk75 : chkFn Try.prog Try.f75 I75 = true := by kernel_rfl
theorem chk76 : chkFn Try.prog Try.f76 I76 = true := by kernel_rfl
theorem chk77 : chkFn Try.prog Try.f77 I77 = true := by kernel_rfl
theorem chk78 : chkFn Try.prog Try.f78 I78 = true := by kernel_rfl
theorem chk79 : chkFn Try.prog Try.f79 I79 = true := by kernel_rfl
theorem chk80 : chkFn Try.prog Try.f80 I80 = true := by kernel_rfl
theorem chk81 : chkFn Try.prog Try.f81 I81 = true := by kernel_rfl
theorem chk82 : chkFn Try.prog Try.f82 I82 = true := by kernel_rfl
theorem chk83 : chkFn Try.prog Try.f83 I83 = true := by kernel_rfl
theorem chk84 : chkFn Try.prog Try.f84 I84 = true := by kernel_rfl
theorem chk85 : chkFn Try.prog Try.f85 I85 = true := by kernel_rfl
theorem chk86 : chkFn Try.prog Try.f86 I86 = true := by kernel_rfl
theorem chk87 : chkFn Try.prog Try.f87 I87 = true := by kernel_rfl
theorem chk88 : chkFn Try.prog Try.f88 I88 = true := by kernel_rfl
theorem chk89 : chkFn Try.prog Try.f89 I89 = true := by kernel_rfl
theorem chk90 : chkFn Try.prog Try.f90 I90 = true := by kernel_rfl
theorem chk91 : chkFn Try.prog Try.f91 I91 = true := by kernel_rfl
theorem chk92 : chkFn Try.prog Try.f92 I92 = true := by kernel_rfl
theorem chk93 : chkFn Try.prog Try.f93 I93 = true := by kernel_rfl
theorem chk94 : chkFn Try.prog Try.f94 I94 = true := by kernel_rfl

theorem fns_ok : ∀ f fn, fns f = some fn → ∃ func, Try.prog.funcs[f]? = some func ∧ chkFn Try.prog func fn = true := by
  intro f fn h
  unfold fns at h
  split at h
  · cases h; exact ⟨Try.f2, Try.func2, chk2⟩
  · cases h; exact ⟨Try.f3, Try.func3, chk3⟩
  · cases h; exact ⟨Try.f4, Try.func4, chk4⟩
  · cases h; exact ⟨Try.f5, Try.func5, chk5⟩
  · cases h; exact ⟨Try.f6, Try.func6, chk6⟩
  · cases h; exact ⟨Try.f7, Try.func7, chk7⟩
  · cases h; exact ⟨Try.f8, Try.func8, chk8⟩
  · cases h; exact ⟨Try.f9, Try.func9, chk9⟩
  · cases h; exact ⟨Try.f10, Try.func10, chk10⟩
  · cases h; exact ⟨Try.f11, Try.func11, chk11⟩
  · cases h; exact ⟨Try.f12, Try.func12, chk12⟩
  · cases h; exact ⟨Try.f13, Try.func13, chk13⟩
  · cases h; exact ⟨Try.f15, Try.func15, chk15⟩
  · cases h; exact ⟨Try.f16, Try.func16, chk16⟩
  · cases h; exact ⟨Try.f17, Try.func17, chk17⟩
  · cases h; exact ⟨Try.f18, Try.func18, chk18⟩
  · cases h; exact ⟨Try.f19, Try.func19, chk19⟩
  · cases h; exact ⟨Try.f20, Try.func20, chk20⟩
  · cases h; exact ⟨Try.f21, Try.func21, chk21⟩
  · cases h; exact ⟨Try.f22, Try.func22, chk22⟩
  · cases h; exact ⟨Try.f23, Try.func23, chk23⟩
  · cases h; exact ⟨Try.f24, Try.func24, chk24⟩
  · cases h; exact ⟨Try.f25, Try.func25, chk25⟩
  · cases h; exact ⟨Try.f26, Try.func26, chk26⟩
  · cases h; exact ⟨Try.f27, Try.func27, chk27⟩
  · cases h; exact ⟨Try.f28, Try.func28, chk28⟩
  · cases h; exact ⟨Try.f29, Try.func29, chk29⟩
  · cases h; exact ⟨Try.f30, Try.func30, chk30⟩
  · cases h; exact ⟨Try.f31, Try.func31, chk31⟩
  · cases h; exact ⟨Try.f32, Try.func32, chk32⟩
  · cases h; exact ⟨Try.f35, Try.func35, chk35⟩
  · cases h; exact ⟨Try.f36, Try.func36, chk36⟩
  · cases h; exact ⟨Try.f37, Try.func37, chk37⟩
  · cases h; exact ⟨Try.f38, Try.func38, chk38⟩
  · cases h; exact ⟨Try.f40, Try.func40, chk40⟩
  · cases h; exact ⟨Try.f42, Try.func42, chk42⟩
  · cases h; exact ⟨Try.f43, Try.func43, chk43⟩
  · cases h; exact ⟨Try.f44, Try.func44, chk44⟩
  · cases h; exact ⟨Try.f45, Try.func45, chk45⟩
  · cases h; exact ⟨Try.f46, Try.func46, chk46⟩
  · cases h; exact ⟨Try.f47, Try.func47, chk47⟩
  · cases h; exact ⟨Try.f48, Try.func48, chk48⟩
  · cases h; exact ⟨Try.f49, Try.func49, chk49⟩
  · cases h; exact ⟨Try.f50, Try.func50, chk50⟩
  · cases h; exact ⟨Try.f52, Try.func52, chk52⟩
  · cases h; exact ⟨Try.f53, Try.func53, chk53⟩
  · cases h; exact ⟨Try.f55, Try.func55, chk55⟩
  · cases h; exact ⟨Try.f56, Try.func56, chk56⟩
  · cases h; exact ⟨Try.f58, Try.func58, chk58⟩
  · cases h; exact ⟨Try.f59, Try.func59, chk59⟩
  · cases h; exact ⟨Try.f60, Try.func60, chk60⟩
  · cases h; exact ⟨Try.f61, Try.func61, chk61⟩
  · cases h; exact ⟨Try.f62, Try.func62, chk62⟩
  · cases h; exact ⟨Try.f63, Try.func63, chk63⟩
  · cases h; exact ⟨Try.f64, Try.func64, chk64⟩
  · cases h; exact ⟨Try.f65, Try.func65, chk65⟩
  · cases h; exact ⟨Try.f66, Try.func66, chk66⟩
  · cases h; exact ⟨Try.f67, Try.func67, chk67⟩
  · cases h; exact ⟨Try.f68, Try.func68, chk68⟩
  · cases h; exact ⟨Try.f69, Try.func69, chk69⟩
  · cases h; exact ⟨Try.f70, Try.func70, chk70⟩
  · cases h; exact ⟨Try.f71, Try.func71, chk71⟩
  · cases h; exact ⟨Try.f72, Try.func72, chk72⟩
  · cases h; exact ⟨Try.f73, Try.func73, chk73⟩
  · cases h; exact ⟨Try.f74, Try.func74, chk74⟩
  · cases h; exact ⟨Try.f75, Try.func75, chk75⟩
  · cases h; exact ⟨Try.f76, Try.func76, chk76⟩
  · cases h; exact ⟨Try.f77, Try.func77, chk77⟩
  · cases h; exact ⟨Try.f78, Try.func78, chk78⟩
  · cases h; exact ⟨Try.f79, Try.func79, chk79⟩
  · cases h; exact ⟨Try.f80, Try.func80, chk80⟩
  · cases h; exact ⟨Try.f81, Try.func81, chk81⟩
  · cases h; exact ⟨Try.f82, Try.func82, chk82⟩
  · cases h; exact ⟨Try.f83, Try.func83, chk83⟩
  · cases h; exact ⟨Try.f84, Try.func84, chk84⟩
  · cases h; exact ⟨Try.f85, Try.func85, chk85⟩
  · cases h; exact ⟨Try.f86, Try.func86, chk86⟩
  · cases h; exact ⟨Try.f87, Try.func87, chk87⟩
  · cases h; exact ⟨Try.f88, Try.func88, chk88⟩
  · cases h; exact ⟨Try.f89, Try.func89, chk89⟩
  · cases h; exact ⟨Try.f90, Try.func90, chk90⟩
  · cases h; exact ⟨Try.f91, Try.func91, chk91⟩
  · cases h; exact ⟨Try.f92, Try.func92, chk92⟩
  · cases h; exact ⟨Try.f93, Try.func93, chk93⟩
  · cases h; exact ⟨Try.f94, Try.func94, chk94⟩
  · cases h

end Go.Fw.Code_
