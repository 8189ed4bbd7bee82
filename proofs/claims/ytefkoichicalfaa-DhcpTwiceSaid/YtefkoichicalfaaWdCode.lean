/-
  The code of the functions that are evaluated, by program (irgen.py) out of the print of the loaded functions; checked against them below. Conditions: none.
-/
import Derived.Test.YtefkoichicalfaaFwU
import Derived.Test.YtefkoichicalfaaProg
import Derived.KernelRfl
set_option linter.unusedVariables false
set_option maxRecDepth 100000
namespace Go.Fw.Code_
open Go.Proofs

def z_0 : List AV := [(.int .u32 0), (.bool false), (.int .u64 0)]
theorem z_0e : z_0 = [(.int .u32 0), (.bool false), (.int .u64 0)] := (rfl)
def z_1 : List AV := [(.int .u8 0), (.int .u32 0), (.int .u16 0), (.bool false), (.int .u32 0), (.int .u32 0), (.int .u32 0), (.int .u32 0), (.int .u8 0), (.int .u8 0), (.int .u8 0), (.int .u8 0), (.int .u8 0), (.int .u8 0), (.rs false 2 [])]
theorem z_1e : z_1 = [(.int .u8 0), (.int .u32 0), (.int .u16 0), (.bool false), (.int .u32 0), (.int .u32 0), (.int .u32 0), (.int .u32 0), (.int .u8 0), (.int .u8 0), (.int .u8 0), (.int .u8 0), (.int .u8 0), (.int .u8 0), (.rs false 2 [])] := (rfl)
def z_2 : List AV := [(.int .u8 0), (.int .u32 0), (.int .u16 0), (.bool false), (.int .u32 0), (.int .u32 0), (.int .u32 0), (.int .u32 0), (.int .u8 0), (.int .u8 0), (.int .u8 0), (.int .u8 0), (.int .u8 0), (.int .u8 0), (.rs false 2 []), (.int .u64 0), (.bool false)]
theorem z_2e : z_2 = [(.int .u8 0), (.int .u32 0), (.int .u16 0), (.bool false), (.int .u32 0), (.int .u32 0), (.int .u32 0), (.int .u32 0), (.int .u8 0), (.int .u8 0), (.int .u8 0), (.int .u8 0), (.int .u8 0), (.int .u8 0), (.rs false 2 []), (.int .u64 0), (.bool false)] := (rfl)
def z_3 : List AV := [(.int .u32 0), (.int .u32 0), (.int .u32 0), (.int .u32 0), (.int .u32 0), (.int .u32 0), (.int .u32 0)]
theorem z_3e : z_3 = [(.int .u32 0), (.int .u32 0), (.int .u32 0), (.int .u32 0), (.int .u32 0), (.int .u32 0), (.int .u32 0)] := (rfl)
def z_4 : List AV := [(.int .u8 0), (.rs false 1 [])]
theorem z_4e : z_4 = [(.int .u8 0), (.rs false 1 [])] := (rfl)
def z_5 : List AV := [(.int .u8 0), (.int .u8 0), (.int .u8 0), (.int .u8 0), (.int .u8 0), (.int .u8 0)]
theorem z_5e : z_5 = [(.int .u8 0), (.int .u8 0), (.int .u8 0), (.int .u8 0), (.int .u8 0), (.int .u8 0)] := (rfl)
def z_6 : List AV := [(.int .u32 0), (.int .u32 0), (.int .u32 0), (.int .u32 0), (.int .u32 0), (.int .u32 0), (.int .u32 0), .nilp]
theorem z_6e : z_6 = [(.int .u32 0), (.int .u32 0), (.int .u32 0), (.int .u32 0), (.int .u32 0), (.int .u32 0), (.int .u32 0), .nilp] := (rfl)
def z_7 : List AV := [(.int .u8 0), (.int .u32 0), (.int .u16 0), (.bool false), (.int .u32 0), (.int .u32 0), (.int .u32 0), (.int .u32 0), (.int .u8 0), (.int .u8 0), (.int .u8 0), (.int .u8 0), (.int .u8 0), (.int .u8 0), (.rs false 2 []), (.str ⟨#[]⟩), (.int .u32 0), (.int .u32 0), (.bool false), (.bool false), (.bool false), (.int .u64 0)]
theorem z_7e : z_7 = [(.int .u8 0), (.int .u32 0), (.int .u16 0), (.bool false), (.int .u32 0), (.int .u32 0), (.int .u32 0), (.int .u32 0), (.int .u8 0), (.int .u8 0), (.int .u8 0), (.int .u8 0), (.int .u8 0), (.int .u8 0), (.rs false 2 []), (.str ⟨#[]⟩), (.int .u32 0), (.int .u32 0), (.bool false), (.bool false), (.bool false), (.int .u64 0)] := (rfl)
def z_8 : List AV := [(.int .u32 0), (.int .u32 0), .nilm, .nilm, .nilm]
theorem z_8e : z_8 = [(.int .u32 0), (.int .u32 0), .nilm, .nilm, .nilm] := (rfl)
def z_9 : List AV := [(.int .u8 0), (.int .u32 0), (.int .u16 0), (.bool false), (.int .u32 0), (.int .u32 0), (.int .u32 0), (.int .u32 0), (.int .u8 0), (.int .u8 0), (.int .u8 0), (.int .u8 0), (.int .u8 0), (.int .u8 0)]
theorem z_9e : z_9 = [(.int .u8 0), (.int .u32 0), (.int .u16 0), (.bool false), (.int .u32 0), (.int .u32 0), (.int .u32 0), (.int .u32 0), (.int .u8 0), (.int .u8 0), (.int .u8 0), (.int .u8 0), (.int .u8 0), (.int .u8 0)] := (rfl)
def z_10 : List AV := [(.int .u8 0), .nils]
theorem z_10e : z_10 = [(.int .u8 0), .nils] := (rfl)
def z_11 : List AV := [(.int .u8 0), (.int .u32 0), (.int .u16 0), (.bool false), (.int .u32 0), (.int .u32 0), (.int .u32 0), (.int .u32 0), (.int .u8 0), (.int .u8 0), (.int .u8 0), (.int .u8 0), (.int .u8 0), (.int .u8 0), .nils]
theorem z_11e : z_11 = [(.int .u8 0), (.int .u32 0), (.int .u16 0), (.bool false), (.int .u32 0), (.int .u32 0), (.int .u32 0), (.int .u32 0), (.int .u8 0), (.int .u8 0), (.int .u8 0), (.int .u8 0), (.int .u8 0), (.int .u8 0), .nils] := (rfl)
attribute [go_sem] z_0e z_1e z_2e z_3e z_4e z_5e z_6e z_7e z_8e z_9e z_10e z_11e
/- gosem.cut.init -/
def I2 : Fn_ := ⟨0, 1, [],
  (.ops [⟨some 0, none, .callF false 1 []⟩])⟩
/- vizard/vizardlaw26.DhcpOthers -/
def B3_0 : C := (.seq (.seq (.ops [oM 62 11, oM 63 0, ⟨some 64, none, .len (.t 63)⟩, ⟨some 65, none, .bin .lss (.t 62) (.t 64)⟩])
  (.cond (.t 65)
  .skip
  (.exit 0)))
  (.seq (.block 1 (some [0, 2, 3, 5, 9, 11]) (.ops [oM 68 9, oM 69 0, oM 70 11, ⟨some 71, none, .iaddr 17 (.t 69) (.t 70)⟩, ⟨some 72, none, .faddr true 0 15 (.t 71)⟩, ⟨some 73, none, .load true 15 (.t 72)⟩, oM 74 0, oM 75 11, ⟨some 76, none, .iaddr 17 (.t 74) (.t 75)⟩, oF 77 15 76, oL 78 77, ⟨some 79, none, .callM 13 [(.t 68), (.t 73), (.t 78)]⟩]))
  (.ops [oM 66 11, ⟨some 67, none, .bin .add (.t 66) (.c (.int .i64 1))⟩, oM 11 67])))
def L3_0 : C := .loop (some [0, 2, 3, 5, 9, 11]) B3_0
theorem L3_0_eq {E : Env} (x : St) : ev E L3_0 x = andThen (ev E B3_0 (restr (some [0, 2, 3, 5, 9, 11]) x)) (ev E L3_0) := ev_loop _ _ x
theorem L3_0_lp {E : Env} (s : Slots) (h : Heap) : ev E L3_0 ⟨s, h⟩ = lp E L3_0 (pickS s [0, 2, 3, 5, 9, 11]) h := lp_of L3_0_eq s h
theorem L3_0_go {E : Env} (s : Slots) (h : Heap) : lp E L3_0 s h = andThen (ev E B3_0 ⟨pickS s [0, 2, 3, 5, 9, 11], h⟩) (ev E L3_0) := lp_go L3_0_eq s h
noncomputable def T3_0 (E : Env) (o : Out) : Option (AV × Heap) := outR [(8, none)] (andThen (endBlock 0 (some [0, 2, 3, 5, 9, 11]) (o)) (ev E (.seq (.ops [oF 80 0 5, ⟨none, none, .store 1 (.t 80) (.c (.int .u8 1))⟩])
  (.seq (.ops [oF 81 7 5, ⟨none, none, .store 1 (.t 81) (.c (.int .u32 0))⟩])
  (.seq (.ops [⟨some 82, none, .load true 15 (.t 5)⟩, ⟨some 83, none, .callF false 10 [(.t 82)]⟩, oM 12 83])
  (.seq (.ops [⟨some 84, none, .callF true 14 [(.c (.int .u8 53)), (.c (.int .u8 3))]⟩, oM 85 2, ⟨some 86, none, .callF true 15 [(.c (.int .u8 54)), (.t 85)]⟩, ⟨some 87, none, .buildSl 2 49 [(.t 84), (.t 86)]⟩, oF 88 14 5, ⟨some 89, none, .loadC false 1 (.t 88)⟩, ⟨some 90, none, .appF 2 32 49 (.t 87) (.t 89)⟩, oF 91 14 5, oS 1 91 90])
  (.seq (.ops [oM 93 9, ⟨some 94, none, .callQ 12 (.t 93)⟩, oM 95 12, ⟨some 96, none, .callF false 16 [(.t 94), (.t 95), (.c (.int .u64 0))]⟩, oM 92 96, oE 97 92 0, oE 98 92 1, ⟨some 13, none, .alloc true z_0 53⟩, oS 3 13 97, oM 14 98])
  (.seq (.ops [oM 99 9, ⟨some 100, none, .callQ 12 (.t 99)⟩, ⟨some 101, none, .callF false 17 [(.t 100)]⟩, oM 15 101])
  (.seq (.ops [oM 103 9, ⟨some 104, none, .load true 15 (.t 5)⟩, oM 105 3, ⟨some 106, none, .callM 13 [(.t 103), (.t 104), (.t 105)]⟩, oM 102 106, oE 107 102 0, oE 108 102 1, ⟨some 16, none, .alloc true z_1 29⟩, oS 15 16 107, oM 17 108])
  (.seq (.ops [oM 110 9, ⟨some 111, none, .callQ 12 (.t 110)⟩, oM 112 12, ⟨some 113, none, .callF false 16 [(.t 111), (.t 112), (.c (.int .u64 0))]⟩, oM 109 113, oE 114 109 0, oE 115 109 1, ⟨some 18, none, .alloc true z_0 53⟩, oS 3 18 114, oM 19 115])
  (.seq (.seq (.ops [oM 116 17, oM 117 116, ⟨some 118, (some (117, false)), .load true 15 (.t 16)⟩, ⟨some 119, (some (117, false)), .callF false 18 [(.t 118)]⟩, ⟨some 120, (some (117, false)), .bin .neq (.t 119) (.c (.int .i64 0))⟩, oT 121 117 120, oM 122 121, ⟨some 123, (some (122, false)), .load true 15 (.t 5)⟩, ⟨some 124, (some (122, false)), .callF false 10 [(.t 123)]⟩, gM 125 122 false 12, ⟨some 126, (some (122, false)), .bin .neq (.t 124) (.t 125)⟩, oT 127 122 126])
  (.cond (.t 127)
  (.seq (.ops [⟨some 8, none, .mov (.c (.bool false))⟩])
  .ret)
  .skip))
  (.seq (.seq (.ops [oM 128 14, oM 129 128, gF 130 129 true 1 13, gL 131 129 true 130, ⟨some 132, (some (129, true)), .un .not (.t 131)⟩, oN 133 129 132])
  (.cond (.t 133)
  (.seq (.ops [oM 134 19, ⟨some 135, none, .un .not (.t 134)⟩, oM 136 135, gM 137 136 true 9, ⟨some 138, (some (136, true)), .callQ 12 (.t 137)⟩, ⟨some 139, (some (136, true)), .callF false 17 [(.t 138)]⟩, gM 140 136 true 15, ⟨some 141, (some (136, true)), .bin .sub (.t 140) (.c (.int .i64 1))⟩, ⟨some 142, (some (136, true)), .bin .eql (.t 139) (.t 141)⟩, oN 143 136 142, oM 8 143])
  .ret)
  .skip))
  (.seq (.ops [oM 144 19, oM 145 14, ⟨some 146, none, .binB .eql (.t 144) (.t 145)⟩, oM 147 146, ⟨some 148, (some (147, true)), .load true 3 (.t 18)⟩, ⟨some 149, (some (147, true)), .load true 3 (.t 13)⟩, ⟨some 150, (some (147, true)), .eqS false [1, 0, 1] (.t 148) (.t 149)⟩, oN 151 147 150, oM 152 151, gM 153 152 true 9, ⟨some 154, (some (152, true)), .callQ 12 (.t 153)⟩, ⟨some 155, (some (152, true)), .callF false 17 [(.t 154)]⟩, gM 156 152 true 15, ⟨some 157, (some (152, true)), .bin .leq (.t 155) (.t 156)⟩, oN 158 152 157, oM 8 158])
  .ret)))))))))))))
def I3 : Fn_ := ⟨4, 159, [(8, none)],
  (.seq (.ops [⟨some 5, none, .box true 29 (.t 1)⟩, ⟨some 8, none, .mov (.c (.bool false))⟩])
  (.seq (.seq (.ops [⟨some 20, none, .callF false 7 []⟩, ⟨some 21, none, .un .not (.t 20)⟩])
  (.cond (.t 21)
  (.seq (.ops [⟨some 8, none, .mov (.c (.bool false))⟩])
  .ret)
  .skip))
  (.seq (.seq (.ops [oM 22 0, ⟨some 23, none, .callF false 8 [(.t 22)]⟩, oM 24 23, ⟨some 25, (some (24, false)), .load true 15 (.t 5)⟩, ⟨some 26, (some (24, false)), .build z_2 [(0, 15, (.t 25))]⟩, ⟨some 27, (some (24, false)), .buildR 17 34 [(.t 26)]⟩, ⟨some 28, (some (24, false)), .callF false 8 [(.t 27)]⟩, oT 29 24 28, oM 30 29, gM 31 30 false 3, ⟨some 32, (some (30, false)), .bin .gtr (.t 31) (.c (.int .u64 1152921504606846976))⟩, oT 33 30 32, oM 34 33, gM 35 34 false 2, ⟨some 36, (some (34, false)), .callF false 9 []⟩, ⟨some 37, (some (34, false)), .field false 0 1 (.t 36)⟩, ⟨some 38, (some (34, false)), .bin .eql (.t 35) (.t 37)⟩, oT 39 34 38, oM 40 39, ⟨some 41, (some (40, false)), .load true 15 (.t 5)⟩, ⟨some 42, (some (40, false)), .callF false 10 [(.t 41)]⟩, ⟨some 43, (some (40, false)), .lenS (.t 42)⟩, ⟨some 44, (some (40, false)), .bin .gtr (.t 43) (.c (.int .i64 255))⟩, oT 45 40 44])
  (.cond (.t 45)
  (.seq (.ops [⟨some 8, none, .mov (.c (.bool true))⟩])
  .ret)
  .skip))
  (.seq (.ops [⟨some 47, none, .callF false 9 []⟩, ⟨some 48, none, .callM 11 [(.t 47)]⟩, oM 46 48, oE 49 46 0, oE 50 46 1, oM 9 49, oM 10 50])
  (.seq (.seq (.ops [oM 51 9, ⟨some 52, none, .eqNl false false (.t 51)⟩, oM 53 52, gM 54 53 false 10, ⟨some 55, (some (53, false)), .bin .neq (.t 54) (.c (.int .i64 0))⟩, oT 56 53 55, oM 57 56, gM 58 57 false 9, ⟨some 59, (some (57, false)), .callQ 12 (.t 58)⟩, ⟨some 60, (some (57, false)), .eqNl false false (.t 59)⟩, oT 61 57 60])
  (.cond (.t 61)
  (.seq (.ops [⟨some 8, none, .mov (.c (.bool false))⟩])
  .ret)
  .skip))
  (.seq (.seq (.ops [⟨some 11, none, .mov (.c (.int .i64 0))⟩])
  (.block 0 (some [0, 2, 3, 5, 9, 11]) L3_0))
  (.seq (.ops [oF 80 0 5, ⟨none, none, .store 1 (.t 80) (.c (.int .u8 1))⟩])
  (.seq (.ops [oF 81 7 5, ⟨none, none, .store 1 (.t 81) (.c (.int .u32 0))⟩])
  (.seq (.ops [⟨some 82, none, .load true 15 (.t 5)⟩, ⟨some 83, none, .callF false 10 [(.t 82)]⟩, oM 12 83])
  (.seq (.ops [⟨some 84, none, .callF true 14 [(.c (.int .u8 53)), (.c (.int .u8 3))]⟩, oM 85 2, ⟨some 86, none, .callF true 15 [(.c (.int .u8 54)), (.t 85)]⟩, ⟨some 87, none, .buildSl 2 49 [(.t 84), (.t 86)]⟩, oF 88 14 5, ⟨some 89, none, .loadC false 1 (.t 88)⟩, ⟨some 90, none, .appF 2 32 49 (.t 87) (.t 89)⟩, oF 91 14 5, oS 1 91 90])
  (.seq (.ops [oM 93 9, ⟨some 94, none, .callQ 12 (.t 93)⟩, oM 95 12, ⟨some 96, none, .callF false 16 [(.t 94), (.t 95), (.c (.int .u64 0))]⟩, oM 92 96, oE 97 92 0, oE 98 92 1, ⟨some 13, none, .alloc true z_0 53⟩, oS 3 13 97, oM 14 98])
  (.seq (.ops [oM 99 9, ⟨some 100, none, .callQ 12 (.t 99)⟩, ⟨some 101, none, .callF false 17 [(.t 100)]⟩, oM 15 101])
  (.seq (.ops [oM 103 9, ⟨some 104, none, .load true 15 (.t 5)⟩, oM 105 3, ⟨some 106, none, .callM 13 [(.t 103), (.t 104), (.t 105)]⟩, oM 102 106, oE 107 102 0, oE 108 102 1, ⟨some 16, none, .alloc true z_1 29⟩, oS 15 16 107, oM 17 108])
  (.seq (.ops [oM 110 9, ⟨some 111, none, .callQ 12 (.t 110)⟩, oM 112 12, ⟨some 113, none, .callF false 16 [(.t 111), (.t 112), (.c (.int .u64 0))]⟩, oM 109 113, oE 114 109 0, oE 115 109 1, ⟨some 18, none, .alloc true z_0 53⟩, oS 3 18 114, oM 19 115])
  (.seq (.seq (.ops [oM 116 17, oM 117 116, ⟨some 118, (some (117, false)), .load true 15 (.t 16)⟩, ⟨some 119, (some (117, false)), .callF false 18 [(.t 118)]⟩, ⟨some 120, (some (117, false)), .bin .neq (.t 119) (.c (.int .i64 0))⟩, oT 121 117 120, oM 122 121, ⟨some 123, (some (122, false)), .load true 15 (.t 5)⟩, ⟨some 124, (some (122, false)), .callF false 10 [(.t 123)]⟩, gM 125 122 false 12, ⟨some 126, (some (122, false)), .bin .neq (.t 124) (.t 125)⟩, oT 127 122 126])
  (.cond (.t 127)
  (.seq (.ops [⟨some 8, none, .mov (.c (.bool false))⟩])
  .ret)
  .skip))
  (.seq (.seq (.ops [oM 128 14, oM 129 128, gF 130 129 true 1 13, gL 131 129 true 130, ⟨some 132, (some (129, true)), .un .not (.t 131)⟩, oN 133 129 132])
  (.cond (.t 133)
  (.seq (.ops [oM 134 19, ⟨some 135, none, .un .not (.t 134)⟩, oM 136 135, gM 137 136 true 9, ⟨some 138, (some (136, true)), .callQ 12 (.t 137)⟩, ⟨some 139, (some (136, true)), .callF false 17 [(.t 138)]⟩, gM 140 136 true 15, ⟨some 141, (some (136, true)), .bin .sub (.t 140) (.c (.int .i64 1))⟩, ⟨some 142, (some (136, true)), .bin .eql (.t 139) (.t 141)⟩, oN 143 136 142, oM 8 143])
  .ret)
  .skip))
  (.seq (.ops [oM 144 19, oM 145 14, ⟨some 146, none, .binB .eql (.t 144) (.t 145)⟩, oM 147 146, ⟨some 148, (some (147, true)), .load true 3 (.t 18)⟩, ⟨some 149, (some (147, true)), .load true 3 (.t 13)⟩, ⟨some 150, (some (147, true)), .eqS false [1, 0, 1] (.t 148) (.t 149)⟩, oN 151 147 150, oM 152 151, gM 153 152 true 9, ⟨some 154, (some (152, true)), .callQ 12 (.t 153)⟩, ⟨some 155, (some (152, true)), .callF false 17 [(.t 154)]⟩, gM 156 152 true 15, ⟨some 157, (some (152, true)), .bin .leq (.t 155) (.t 156)⟩, oN 158 152 157, oM 8 158])
  .ret)))))))))))))))))⟩
/- vizard/vizardlaw26.DhcpAcks -/
def B4_0 : C := (.seq (.seq (.ops [oM 44 7, oM 45 0, ⟨some 46, none, .len (.t 45)⟩, ⟨some 47, none, .bin .lss (.t 44) (.t 46)⟩])
  (.cond (.t 47)
  .skip
  (.exit 0)))
  (.seq (.block 1 (some [0, 3, 4, 6, 7]) (.seq (.ops [oM 50 6, oM 51 0, oM 52 7, ⟨some 53, none, .iaddr 17 (.t 51) (.t 52)⟩, oF 54 15 53, oL 55 54, ⟨some 56, none, .mm false [(.t 55), (.c (.int .u64 1152921504606846976))]⟩, ⟨some 57, none, .mm true [(.t 50), (.t 56)]⟩, oM 6 57])
  (.seq (.seq (.ops [oM 58 0, oM 59 7, ⟨some 60, none, .iaddr 17 (.t 58) (.t 59)⟩, oF 61 16 60, oL 62 61])
  (.cond (.t 62)
  (.seq (.ops [oM 63 4, ⟨some 64, none, .callQ 12 (.t 63)⟩, oM 65 6, ⟨some 66, none, .callM 19 [(.t 64), (.t 65)]⟩])
  (.exit 1))
  .skip))
  (.seq (.ops [oM 67 0, oM 68 7, ⟨some 69, none, .iaddr 17 (.t 67) (.t 68)⟩, ⟨some 70, none, .faddr true 0 15 (.t 69)⟩, ⟨some 71, none, .load true 15 (.t 70)⟩, ⟨some 8, none, .alloc true z_1 29⟩, oS 15 8 71])
  (.seq (.ops [oM 73 4, ⟨some 74, none, .callQ 12 (.t 73)⟩, ⟨some 75, none, .load true 15 (.t 8)⟩, ⟨some 76, none, .callF true 10 [(.t 75)]⟩, oM 77 6, ⟨some 78, none, .callF true 16 [(.t 74), (.t 76), (.t 77)]⟩, oM 72 78, oE 79 72 0, oE 80 72 1, ⟨some 9, none, .alloc true z_0 53⟩, oS 3 9 79, oM 10 80])
  (.seq (.ops [oM 81 4, ⟨some 82, none, .callQ 12 (.t 81)⟩, ⟨some 83, none, .callA 20 (.t 82)⟩, oM 11 83])
  (.seq (.ops [oM 85 4, ⟨some 86, none, .load true 15 (.t 8)⟩, oM 87 6, ⟨some 88, none, .callM 13 [(.t 85), (.t 86), (.t 87)]⟩, oM 84 88, oE 89 84 0, oE 90 84 1, ⟨some 12, none, .alloc true z_1 29⟩, oS 15 12 89, oM 13 90])
  (.seq (.seq (.ops [oM 91 13, ⟨some 92, none, .un .not (.t 91)⟩])
  (.cond (.t 92)
  (.exit 1)
  .skip))
  (.seq (.ops [oM 94 4, ⟨some 95, none, .callQ 12 (.t 94)⟩, ⟨some 96, none, .load true 15 (.t 8)⟩, ⟨some 97, none, .callF true 10 [(.t 96)]⟩, oM 98 6, ⟨some 99, none, .callF true 16 [(.t 95), (.t 97), (.t 98)]⟩, oM 93 99, oE 100 93 0, oE 101 93 1, ⟨some 14, none, .alloc true z_0 53⟩, oS 3 14 100, oM 15 101])
  (.seq (.ops [oF 103 14 12, oL 104 103, ⟨some 105, none, .callF false 21 [(.t 104), (.c (.int .u8 1)), (.c (.int .i64 4))]⟩, oM 102 105, oE 106 102 0, oE 107 102 1, oM 16 106, oM 17 107])
  (.seq (.ops [oF 109 14 12, oL 110 109, ⟨some 111, none, .callF false 21 [(.t 110), (.c (.int .u8 3)), (.c (.int .i64 4))]⟩, oM 108 111, oE 112 108 0, oE 113 108 1, oM 18 112, oM 19 113])
  (.seq (.ops [oF 115 14 12, oL 116 115, ⟨some 117, none, .callF false 21 [(.t 116), (.c (.int .u8 51)), (.c (.int .i64 4))]⟩, oM 114 117, oE 118 114 0, oE 119 114 1, oM 20 118, oM 21 119])
  (.seq (.ops [oM 120 17, oM 121 120, gM 122 121 true 19, oN 123 121 122, oM 124 123, gM 125 124 true 21, oN 126 124 125, oM 127 126, gM 128 127 true 16, gF 129 127 true 1 3, gL 130 127 true 129, ⟨some 131, (some (127, true)), .bin .eql (.t 128) (.t 130)⟩, oN 132 127 131, oM 133 132, gM 134 133 true 18, gF 135 133 true 0 3, gL 136 133 true 135, ⟨some 137, (some (133, true)), .bin .eql (.t 134) (.t 136)⟩, oN 138 133 137, oM 139 138, gM 140 139 true 20, gF 141 139 true 4 3, gL 142 139 true 141, ⟨some 143, (some (139, true)), .bin .eql (.t 140) (.t 142)⟩, oN 144 139 143, oM 22 144])
  (.seq (.seq (.ops [⟨some 145, none, .load true 15 (.t 12)⟩, ⟨some 146, none, .callF false 18 [(.t 145)]⟩])
  (.block 2 (some [0, 3, 4, 6, 7, 8, 9, 10, 11, 12, 14, 15, 17, 19, 21, 22, 146]) (.seq (.ops [⟨some 148, none, .bin .eql (.t 146) (.c (.int .i64 5))⟩, oM 147 148])
  (.cond (.t 147)
  (.seq (.ops [oM 149 10, ⟨some 150, none, .un .not (.t 149)⟩, oM 151 150, gF 152 151 false 0 9, gL 153 151 false 152, gF 154 151 false 5 12, gL 155 151 false 154, ⟨some 156, (some (151, false)), .bin .neq (.t 153) (.t 155)⟩, oT 157 151 156, oM 158 157, gM 159 158 false 15, ⟨some 160, (some (158, false)), .un .not (.t 159)⟩, oT 161 158 160, oM 162 161, gF 163 162 false 0 14, gL 164 162 false 163, gF 165 162 false 5 12, gL 166 162 false 165, ⟨some 167, (some (162, false)), .bin .neq (.t 164) (.t 166)⟩, oT 168 162 167, oM 169 168, gF 170 169 false 1 14, gL 171 169 false 170, ⟨some 172, (some (169, false)), .un .not (.t 171)⟩, oT 173 169 172, oM 174 173, gF 175 174 false 2 14, gL 176 174 false 175, gM 177 174 false 6, gF 178 174 false 4 3, gL 179 174 false 178, ⟨some 180, (some (174, false)), .conv .u64 (.t 179)⟩, ⟨some 181, (some (174, false)), .bin .add (.t 177) (.t 180)⟩, ⟨some 182, (some (174, false)), .bin .neq (.t 176) (.t 181)⟩, oT 183 174 182, oM 184 183, gM 185 184 false 22, ⟨some 186, (some (184, false)), .un .not (.t 185)⟩, oT 187 184 186])
  (.cond (.t 187)
  (.seq (.ops [⟨some 2, none, .mov (.c (.bool false))⟩])
  .ret)
  .skip))
  (.seq (.ops [⟨some 189, none, .bin .eql (.t 146) (.c (.int .i64 2))⟩, oM 188 189])
  (.cond (.t 188)
  (.seq (.ops [oM 190 15, ⟨some 191, none, .un .not (.t 190)⟩, oM 192 191, gF 193 192 false 0 14, gL 194 192 false 193, gF 195 192 false 5 12, gL 196 192 false 195, ⟨some 197, (some (192, false)), .bin .neq (.t 194) (.t 196)⟩, oT 198 192 197, oM 199 198, gM 200 199 false 22, ⟨some 201, (some (199, false)), .un .not (.t 200)⟩, oT 202 199 201, oM 203 202, gM 204 203 false 10, ⟨some 205, (some (203, false)), .un .not (.t 204)⟩, gM 206 203 false 205, gM 207 206 true 11, ⟨some 208, (some (206, true)), .eqNl false false (.t 207)⟩, gM 209 206 true 208, gM 210 209 false 11, gF 211 209 false 5 12, gL 212 209 false 211, gM 213 209 false 6, ⟨some 214, (some (209, false)), .callF false 22 [(.t 210), (.t 212), (.t 213)]⟩, ⟨some 215, (some (209, false)), .un .not (.t 214)⟩, ⟨some 216, (some (206, true)), .pick (.t 209) (.c (.bool true)) (.t 215)⟩, ⟨some 217, (some (203, false)), .pick (.t 206) (.t 216) (.c (.bool false))⟩, oT 218 203 217, oM 219 218, gM 220 219 false 10, gM 221 219 false 220, gF 222 221 true 0 9, gL 223 221 true 222, gF 224 221 true 5 12, gL 225 221 true 224, ⟨some 226, (some (221, true)), .bin .neq (.t 223) (.t 225)⟩, ⟨some 227, (some (219, false)), .pick (.t 221) (.t 226) (.c (.bool false))⟩, oT 228 219 227])
  (.cond (.t 228)
  (.seq (.ops [⟨some 2, none, .mov (.c (.bool false))⟩])
  .ret)
  .skip))
  (.seq (.ops [⟨some 230, none, .bin .eql (.t 146) (.c (.int .i64 6))⟩, oM 229 230])
  (.cond (.t 229)
  (.seq (.ops [oM 231 17, oM 232 231, gM 233 232 false 19, oT 234 232 233, oM 235 234, gM 236 235 false 21, oT 237 235 236, oM 238 237, gF 239 238 false 5 12, gL 240 238 false 239, ⟨some 241, (some (238, false)), .bin .neq (.t 240) (.c (.int .u32 0))⟩, oT 242 238 241, oM 243 242, gM 244 243 false 15, gM 245 243 false 10, ⟨some 246, (some (243, false)), .binB .neq (.t 244) (.t 245)⟩, oT 247 243 246])
  (.cond (.t 247)
  (.seq (.ops [⟨some 2, none, .mov (.c (.bool false))⟩])
  .ret)
  .skip))
  (.seq (.ops [⟨some 2, none, .mov (.c (.bool false))⟩])
  .ret)))))))))
  (.seq (.ops [oF 248 1 12, oL 249 248, oF 250 1 8, oL 251 250, ⟨some 252, none, .bin .neq (.t 249) (.t 251)⟩, oM 253 252, ⟨some 254, (some (253, false)), .faddr true 8 6 (.t 12)⟩, ⟨some 255, (some (253, false)), .load true 6 (.t 254)⟩, ⟨some 256, (some (253, false)), .faddr true 8 6 (.t 8)⟩, ⟨some 257, (some (253, false)), .load true 6 (.t 256)⟩, ⟨some 258, (some (253, false)), .eqS true [1, 1, 1, 1, 1, 1] (.t 255) (.t 257)⟩, oT 259 253 258, oM 260 259, gF 261 260 false 0 12, gL 262 260 false 261, ⟨some 263, (some (260, false)), .bin .neq (.t 262) (.c (.int .u8 2))⟩, oT 264 260 263, oM 265 264, gF 266 265 false 5 12, gL 267 265 false 266, gF 268 265 false 0 3, gL 269 265 false 268, ⟨some 270, (some (265, false)), .bin .eql (.t 267) (.t 269)⟩, oT 271 265 270])
  (.cond (.t 271)
  (.seq (.ops [⟨some 2, none, .mov (.c (.bool false))⟩])
  .ret)
  .skip))))))))))))))))
  (.ops [oM 48 7, ⟨some 49, none, .bin .add (.t 48) (.c (.int .i64 1))⟩, oM 7 49])))
def L4_0 : C := .loop (some [0, 3, 4, 6, 7]) B4_0
theorem L4_0_eq {E : Env} (x : St) : ev E L4_0 x = andThen (ev E B4_0 (restr (some [0, 3, 4, 6, 7]) x)) (ev E L4_0) := ev_loop _ _ x
theorem L4_0_lp {E : Env} (s : Slots) (h : Heap) : ev E L4_0 ⟨s, h⟩ = lp E L4_0 (pickS s [0, 3, 4, 6, 7]) h := lp_of L4_0_eq s h
theorem L4_0_go {E : Env} (s : Slots) (h : Heap) : lp E L4_0 s h = andThen (ev E B4_0 ⟨pickS s [0, 3, 4, 6, 7], h⟩) (ev E L4_0) := lp_go L4_0_eq s h
noncomputable def T4_0 (E : Env) (o : Out) : Option (AV × Heap) := outR [(2, none)] (andThen (endBlock 0 (some [0, 3, 4, 6, 7]) (o)) (ev E (.seq (.ops [⟨some 2, none, .mov (.c (.bool true))⟩])
  .ret)))
def I4 : Fn_ := ⟨1, 272, [(2, none)],
  (.seq (.ops [⟨some 2, none, .mov (.c (.bool false))⟩])
  (.seq (.seq (.ops [⟨some 23, none, .callF false 7 []⟩, ⟨some 24, none, .un .not (.t 23)⟩])
  (.cond (.t 24)
  (.seq (.ops [⟨some 2, none, .mov (.c (.bool false))⟩])
  .ret)
  .skip))
  (.seq (.seq (.ops [oM 25 0, ⟨some 26, none, .callF false 8 [(.t 25)]⟩])
  (.cond (.t 26)
  (.seq (.ops [⟨some 2, none, .mov (.c (.bool true))⟩])
  .ret)
  .skip))
  (.seq (.ops [⟨some 27, none, .callF false 9 []⟩, ⟨some 3, none, .alloc true z_3 36⟩, oS 7 3 27])
  (.seq (.ops [⟨some 29, none, .load true 7 (.t 3)⟩, ⟨some 30, none, .callM 11 [(.t 29)]⟩, oM 28 30, oE 31 28 0, oE 32 28 1, oM 4 31, oM 5 32])
  (.seq (.seq (.ops [oM 33 4, ⟨some 34, none, .eqNl false false (.t 33)⟩, oM 35 34, gM 36 35 false 5, ⟨some 37, (some (35, false)), .bin .neq (.t 36) (.c (.int .i64 0))⟩, oT 38 35 37, oM 39 38, gM 40 39 false 4, ⟨some 41, (some (39, false)), .callQ 12 (.t 40)⟩, ⟨some 42, (some (39, false)), .eqNl false false (.t 41)⟩, oT 43 39 42])
  (.cond (.t 43)
  (.seq (.ops [⟨some 2, none, .mov (.c (.bool false))⟩])
  .ret)
  .skip))
  (.seq (.ops [⟨some 6, none, .mov (.c (.int .u64 0))⟩])
  (.seq (.seq (.ops [⟨some 7, none, .mov (.c (.int .i64 0))⟩])
  (.block 0 (some [0, 3, 4, 6, 7]) L4_0))
  (.seq (.ops [⟨some 2, none, .mov (.c (.bool true))⟩])
  .ret)))))))))⟩
/- vizard/vizardlaw26.DhcpFull -/
def B5_0 : C := (.seq (.seq (.ops [oM 47 10, oM 48 0, ⟨some 49, none, .len (.t 48)⟩, ⟨some 50, none, .bin .lss (.t 47) (.t 49)⟩])
  (.cond (.t 50)
  .skip
  (.exit 0)))
  (.seq (.block 1 (some [0, 2, 4, 7, 8, 10]) (.ops [oM 53 8, oM 54 0, oM 55 10, ⟨some 56, none, .iaddr 17 (.t 54) (.t 55)⟩, ⟨some 57, none, .faddr true 0 15 (.t 56)⟩, ⟨some 58, none, .load true 15 (.t 57)⟩, oM 59 0, oM 60 10, ⟨some 61, none, .iaddr 17 (.t 59) (.t 60)⟩, oF 62 15 61, oL 63 62, ⟨some 64, none, .callM 13 [(.t 53), (.t 58), (.t 63)]⟩]))
  (.ops [oM 51 10, ⟨some 52, none, .bin .add (.t 51) (.c (.int .i64 1))⟩, oM 10 52])))
def L5_0 : C := .loop (some [0, 2, 4, 7, 8, 10]) B5_0
theorem L5_0_eq {E : Env} (x : St) : ev E L5_0 x = andThen (ev E B5_0 (restr (some [0, 2, 4, 7, 8, 10]) x)) (ev E L5_0) := ev_loop _ _ x
theorem L5_0_lp {E : Env} (s : Slots) (h : Heap) : ev E L5_0 ⟨s, h⟩ = lp E L5_0 (pickS s [0, 2, 4, 7, 8, 10]) h := lp_of L5_0_eq s h
theorem L5_0_go {E : Env} (s : Slots) (h : Heap) : lp E L5_0 s h = andThen (ev E B5_0 ⟨pickS s [0, 2, 4, 7, 8, 10], h⟩) (ev E L5_0) := lp_go L5_0_eq s h
def B5_1 : C := (.seq (.seq (.ops [oM 67 12, oF 68 3 7, oL 69 68, ⟨some 70, none, .bin .leq (.t 67) (.t 69)⟩])
  (.cond (.t 70)
  .skip
  (.exit 2)))
  (.seq (.block 3 (some [2, 4, 7, 8, 11, 12]) (.ops [oM 73 11, oM 74 73, gM 75 74 false 8, ⟨some 76, (some (74, false)), .callQ 12 (.t 75)⟩, gM 77 74 false 12, gM 78 74 false 2, ⟨some 79, (some (74, false)), .callF false 22 [(.t 76), (.t 77), (.t 78)]⟩, oT 80 74 79, oM 11 80]))
  (.ops [oM 71 12, ⟨some 72, none, .bin .add (.t 71) (.c (.int .u32 1))⟩, oM 12 72])))
def L5_1 : C := .loop (some [2, 4, 7, 8, 11, 12]) B5_1
theorem L5_1_eq {E : Env} (x : St) : ev E L5_1 x = andThen (ev E B5_1 (restr (some [2, 4, 7, 8, 11, 12]) x)) (ev E L5_1) := ev_loop _ _ x
theorem L5_1_lp {E : Env} (s : Slots) (h : Heap) : ev E L5_1 ⟨s, h⟩ = lp E L5_1 (pickS s [2, 4, 7, 8, 11, 12]) h := lp_of L5_1_eq s h
theorem L5_1_go {E : Env} (s : Slots) (h : Heap) : lp E L5_1 s h = andThen (ev E B5_1 ⟨pickS s [2, 4, 7, 8, 11, 12], h⟩) (ev E L5_1) := lp_go L5_1_eq s h
noncomputable def T5_1 (E : Env) (o : Out) : Option (AV × Heap) := outR [(6, none)] (andThen (endBlock 2 (some [2, 4, 7, 8, 11, 12]) (o)) (ev E (.seq (.ops [oM 82 8, ⟨some 83, none, .callQ 12 (.t 82)⟩, ⟨some 84, none, .load true 15 (.t 4)⟩, ⟨some 85, none, .callF true 10 [(.t 84)]⟩, oM 86 2, ⟨some 87, none, .callF true 16 [(.t 83), (.t 85), (.t 86)]⟩, oM 81 87, oE 88 81 0, oE 89 81 1, ⟨some 13, none, .alloc true z_0 53⟩, oS 3 13 88, oM 14 89])
  (.seq (.ops [oM 90 8, ⟨some 91, none, .callQ 12 (.t 90)⟩, ⟨some 92, none, .callF false 17 [(.t 91)]⟩, oM 15 92])
  (.seq (.ops [oM 94 8, ⟨some 95, none, .load true 15 (.t 4)⟩, oM 96 2, ⟨some 97, none, .callM 13 [(.t 94), (.t 95), (.t 96)]⟩, oM 93 97, oE 98 93 0, oE 99 93 1, ⟨some 16, none, .alloc true z_1 29⟩, oS 15 16 98, oM 17 99])
  (.seq (.seq (.ops [oF 100 0 4, oL 101 100, ⟨some 102, none, .bin .neq (.t 101) (.c (.int .u8 1))⟩, oM 103 102, gF 104 103 false 7 4, gL 105 103 false 104, ⟨some 106, (some (103, false)), .bin .neq (.t 105) (.c (.int .u32 0))⟩, oT 107 103 106, oM 108 107, ⟨some 109, (some (108, false)), .load true 15 (.t 4)⟩, ⟨some 110, (some (108, false)), .callF false 18 [(.t 109)]⟩, ⟨some 111, (some (108, false)), .bin .lss (.t 110) (.c (.int .i64 1))⟩, oT 112 108 111, oM 113 112, ⟨some 114, (some (113, false)), .load true 15 (.t 4)⟩, ⟨some 115, (some (113, false)), .callF false 18 [(.t 114)]⟩, ⟨some 116, (some (113, false)), .bin .gtr (.t 115) (.c (.int .i64 7))⟩, oT 117 113 116])
  (.cond (.t 117)
  (.seq (.ops [oM 118 17, ⟨some 119, none, .un .not (.t 118)⟩, oM 120 119, gM 121 120 true 8, ⟨some 122, (some (120, true)), .callQ 12 (.t 121)⟩, ⟨some 123, (some (120, true)), .callF false 17 [(.t 122)]⟩, gM 124 120 true 15, ⟨some 125, (some (120, true)), .bin .eql (.t 123) (.t 124)⟩, oN 126 120 125, oM 127 126, ⟨some 128, (some (127, true)), .load true 15 (.t 16)⟩, ⟨some 129, (some (127, true)), .build z_1 []⟩, ⟨some 130, (some (127, true)), .callF false 23 [(.t 128), (.t 129)]⟩, oN 131 127 130, oM 6 131])
  .ret)
  .skip))
  (.seq (.seq (.ops [oM 132 11, oM 133 132, gM 134 133 false 14, oT 135 133 134])
  (.cond (.t 135)
  (.seq (.ops [⟨some 6, none, .mov (.c (.bool true))⟩])
  .ret)
  .skip))
  (.seq (.ops [oF 137 14 4, oL 138 137, ⟨some 139, none, .callF false 21 [(.t 138), (.c (.int .u8 54)), (.c (.int .i64 4))]⟩, oM 136 139, oE 140 136 0, oE 141 136 1, oM 18 140, oM 19 141])
  (.seq (.seq (.ops [⟨some 142, none, .load true 15 (.t 4)⟩, ⟨some 143, none, .callF false 18 [(.t 142)]⟩, ⟨some 144, none, .bin .eql (.t 143) (.c (.int .i64 1))⟩])
  (.cond (.t 144)
  (.seq (.ops [oM 145 17, ⟨some 146, none, .un .not (.t 145)⟩, oM 6 146])
  .ret)
  .skip))
  (.seq (.ops [⟨some 147, none, .load true 15 (.t 4)⟩, ⟨some 148, none, .callF false 18 [(.t 147)]⟩, ⟨some 149, none, .bin .neq (.t 148) (.c (.int .i64 3))⟩, oM 150 149, gM 151 150 false 19, ⟨some 152, (some (150, false)), .un .not (.t 151)⟩, oT 153 150 152, oM 154 153, gM 155 154 false 18, gF 156 154 false 0 7, gL 157 154 false 156, ⟨some 158, (some (154, false)), .bin .neq (.t 155) (.t 157)⟩, oT 159 154 158, oM 160 159, ⟨some 161, (some (160, false)), .load true 15 (.t 4)⟩, ⟨some 162, (some (160, false)), .callF false 10 [(.t 161)]⟩, ⟨some 163, (some (160, false)), .lenS (.t 162)⟩, ⟨some 164, (some (160, false)), .bin .gtr (.t 163) (.c (.int .i64 255))⟩, oT 165 160 164, oM 166 165, gM 167 166 false 17, gM 168 166 false 167, ⟨some 169, (some (168, true)), .load true 15 (.t 16)⟩, ⟨some 170, (some (168, true)), .callF false 18 [(.t 169)]⟩, ⟨some 171, (some (168, true)), .bin .eql (.t 170) (.c (.int .i64 6))⟩, ⟨some 172, (some (166, false)), .pick (.t 168) (.t 171) (.c (.bool false))⟩, oT 173 166 172, oM 6 173])
  .ret))))))))))
noncomputable def T5_0 (E : Env) (o : Out) : Option (AV × Heap) := outR [(6, none)] (andThen (endBlock 0 (some [0, 2, 4, 7, 8, 10]) (o)) (ev E (.seq (.ops [⟨some 11, none, .mov (.c (.bool false))⟩])
  (.seq (.seq (.ops [oF 65 2 7, oL 66 65, oM 12 66])
  (.block 2 (some [2, 4, 7, 8, 11, 12]) L5_1))
  (.seq (.ops [oM 82 8, ⟨some 83, none, .callQ 12 (.t 82)⟩, ⟨some 84, none, .load true 15 (.t 4)⟩, ⟨some 85, none, .callF true 10 [(.t 84)]⟩, oM 86 2, ⟨some 87, none, .callF true 16 [(.t 83), (.t 85), (.t 86)]⟩, oM 81 87, oE 88 81 0, oE 89 81 1, ⟨some 13, none, .alloc true z_0 53⟩, oS 3 13 88, oM 14 89])
  (.seq (.ops [oM 90 8, ⟨some 91, none, .callQ 12 (.t 90)⟩, ⟨some 92, none, .callF false 17 [(.t 91)]⟩, oM 15 92])
  (.seq (.ops [oM 94 8, ⟨some 95, none, .load true 15 (.t 4)⟩, oM 96 2, ⟨some 97, none, .callM 13 [(.t 94), (.t 95), (.t 96)]⟩, oM 93 97, oE 98 93 0, oE 99 93 1, ⟨some 16, none, .alloc true z_1 29⟩, oS 15 16 98, oM 17 99])
  (.seq (.seq (.ops [oF 100 0 4, oL 101 100, ⟨some 102, none, .bin .neq (.t 101) (.c (.int .u8 1))⟩, oM 103 102, gF 104 103 false 7 4, gL 105 103 false 104, ⟨some 106, (some (103, false)), .bin .neq (.t 105) (.c (.int .u32 0))⟩, oT 107 103 106, oM 108 107, ⟨some 109, (some (108, false)), .load true 15 (.t 4)⟩, ⟨some 110, (some (108, false)), .callF false 18 [(.t 109)]⟩, ⟨some 111, (some (108, false)), .bin .lss (.t 110) (.c (.int .i64 1))⟩, oT 112 108 111, oM 113 112, ⟨some 114, (some (113, false)), .load true 15 (.t 4)⟩, ⟨some 115, (some (113, false)), .callF false 18 [(.t 114)]⟩, ⟨some 116, (some (113, false)), .bin .gtr (.t 115) (.c (.int .i64 7))⟩, oT 117 113 116])
  (.cond (.t 117)
  (.seq (.ops [oM 118 17, ⟨some 119, none, .un .not (.t 118)⟩, oM 120 119, gM 121 120 true 8, ⟨some 122, (some (120, true)), .callQ 12 (.t 121)⟩, ⟨some 123, (some (120, true)), .callF false 17 [(.t 122)]⟩, gM 124 120 true 15, ⟨some 125, (some (120, true)), .bin .eql (.t 123) (.t 124)⟩, oN 126 120 125, oM 127 126, ⟨some 128, (some (127, true)), .load true 15 (.t 16)⟩, ⟨some 129, (some (127, true)), .build z_1 []⟩, ⟨some 130, (some (127, true)), .callF false 23 [(.t 128), (.t 129)]⟩, oN 131 127 130, oM 6 131])
  .ret)
  .skip))
  (.seq (.seq (.ops [oM 132 11, oM 133 132, gM 134 133 false 14, oT 135 133 134])
  (.cond (.t 135)
  (.seq (.ops [⟨some 6, none, .mov (.c (.bool true))⟩])
  .ret)
  .skip))
  (.seq (.ops [oF 137 14 4, oL 138 137, ⟨some 139, none, .callF false 21 [(.t 138), (.c (.int .u8 54)), (.c (.int .i64 4))]⟩, oM 136 139, oE 140 136 0, oE 141 136 1, oM 18 140, oM 19 141])
  (.seq (.seq (.ops [⟨some 142, none, .load true 15 (.t 4)⟩, ⟨some 143, none, .callF false 18 [(.t 142)]⟩, ⟨some 144, none, .bin .eql (.t 143) (.c (.int .i64 1))⟩])
  (.cond (.t 144)
  (.seq (.ops [oM 145 17, ⟨some 146, none, .un .not (.t 145)⟩, oM 6 146])
  .ret)
  .skip))
  (.seq (.ops [⟨some 147, none, .load true 15 (.t 4)⟩, ⟨some 148, none, .callF false 18 [(.t 147)]⟩, ⟨some 149, none, .bin .neq (.t 148) (.c (.int .i64 3))⟩, oM 150 149, gM 151 150 false 19, ⟨some 152, (some (150, false)), .un .not (.t 151)⟩, oT 153 150 152, oM 154 153, gM 155 154 false 18, gF 156 154 false 0 7, gL 157 154 false 156, ⟨some 158, (some (154, false)), .bin .neq (.t 155) (.t 157)⟩, oT 159 154 158, oM 160 159, ⟨some 161, (some (160, false)), .load true 15 (.t 4)⟩, ⟨some 162, (some (160, false)), .callF false 10 [(.t 161)]⟩, ⟨some 163, (some (160, false)), .lenS (.t 162)⟩, ⟨some 164, (some (160, false)), .bin .gtr (.t 163) (.c (.int .i64 255))⟩, oT 165 160 164, oM 166 165, gM 167 166 false 17, gM 168 166 false 167, ⟨some 169, (some (168, true)), .load true 15 (.t 16)⟩, ⟨some 170, (some (168, true)), .callF false 18 [(.t 169)]⟩, ⟨some 171, (some (168, true)), .bin .eql (.t 170) (.c (.int .i64 6))⟩, ⟨some 172, (some (166, false)), .pick (.t 168) (.t 171) (.c (.bool false))⟩, oT 173 166 172, oM 6 173])
  .ret))))))))))))
def I5 : Fn_ := ⟨3, 174, [(6, none)],
  (.seq (.ops [⟨some 4, none, .box true 29 (.t 1)⟩, ⟨some 6, none, .mov (.c (.bool false))⟩])
  (.seq (.seq (.ops [⟨some 20, none, .callF false 7 []⟩, ⟨some 21, none, .un .not (.t 20)⟩])
  (.cond (.t 21)
  (.seq (.ops [⟨some 6, none, .mov (.c (.bool false))⟩])
  .ret)
  .skip))
  (.seq (.seq (.ops [oM 22 0, ⟨some 23, none, .callF false 8 [(.t 22)]⟩, oM 24 23, ⟨some 25, (some (24, false)), .load true 15 (.t 4)⟩, ⟨some 26, (some (24, false)), .build z_2 [(0, 15, (.t 25))]⟩, ⟨some 27, (some (24, false)), .buildR 17 34 [(.t 26)]⟩, ⟨some 28, (some (24, false)), .callF false 8 [(.t 27)]⟩, oT 29 24 28])
  (.cond (.t 29)
  (.seq (.ops [⟨some 6, none, .mov (.c (.bool true))⟩])
  .ret)
  .skip))
  (.seq (.ops [⟨some 30, none, .callF false 9 []⟩, ⟨some 7, none, .alloc true z_3 36⟩, oS 7 7 30])
  (.seq (.ops [⟨some 32, none, .load true 7 (.t 7)⟩, ⟨some 33, none, .callM 11 [(.t 32)]⟩, oM 31 33, oE 34 31 0, oE 35 31 1, oM 8 34, oM 9 35])
  (.seq (.seq (.ops [oM 36 8, ⟨some 37, none, .eqNl false false (.t 36)⟩, oM 38 37, gM 39 38 false 9, ⟨some 40, (some (38, false)), .bin .neq (.t 39) (.c (.int .i64 0))⟩, oT 41 38 40, oM 42 41, gM 43 42 false 8, ⟨some 44, (some (42, false)), .callQ 12 (.t 43)⟩, ⟨some 45, (some (42, false)), .eqNl false false (.t 44)⟩, oT 46 42 45])
  (.cond (.t 46)
  (.seq (.ops [⟨some 6, none, .mov (.c (.bool false))⟩])
  .ret)
  .skip))
  (.seq (.seq (.ops [⟨some 10, none, .mov (.c (.int .i64 0))⟩])
  (.block 0 (some [0, 2, 4, 7, 8, 10]) L5_0))
  (.seq (.ops [⟨some 11, none, .mov (.c (.bool false))⟩])
  (.seq (.seq (.ops [oF 65 2 7, oL 66 65, oM 12 66])
  (.block 2 (some [2, 4, 7, 8, 11, 12]) L5_1))
  (.seq (.ops [oM 82 8, ⟨some 83, none, .callQ 12 (.t 82)⟩, ⟨some 84, none, .load true 15 (.t 4)⟩, ⟨some 85, none, .callF true 10 [(.t 84)]⟩, oM 86 2, ⟨some 87, none, .callF true 16 [(.t 83), (.t 85), (.t 86)]⟩, oM 81 87, oE 88 81 0, oE 89 81 1, ⟨some 13, none, .alloc true z_0 53⟩, oS 3 13 88, oM 14 89])
  (.seq (.ops [oM 90 8, ⟨some 91, none, .callQ 12 (.t 90)⟩, ⟨some 92, none, .callF false 17 [(.t 91)]⟩, oM 15 92])
  (.seq (.ops [oM 94 8, ⟨some 95, none, .load true 15 (.t 4)⟩, oM 96 2, ⟨some 97, none, .callM 13 [(.t 94), (.t 95), (.t 96)]⟩, oM 93 97, oE 98 93 0, oE 99 93 1, ⟨some 16, none, .alloc true z_1 29⟩, oS 15 16 98, oM 17 99])
  (.seq (.seq (.ops [oF 100 0 4, oL 101 100, ⟨some 102, none, .bin .neq (.t 101) (.c (.int .u8 1))⟩, oM 103 102, gF 104 103 false 7 4, gL 105 103 false 104, ⟨some 106, (some (103, false)), .bin .neq (.t 105) (.c (.int .u32 0))⟩, oT 107 103 106, oM 108 107, ⟨some 109, (some (108, false)), .load true 15 (.t 4)⟩, ⟨some 110, (some (108, false)), .callF false 18 [(.t 109)]⟩, ⟨some 111, (some (108, false)), .bin .lss (.t 110) (.c (.int .i64 1))⟩, oT 112 108 111, oM 113 112, ⟨some 114, (some (113, false)), .load true 15 (.t 4)⟩, ⟨some 115, (some (113, false)), .callF false 18 [(.t 114)]⟩, ⟨some 116, (some (113, false)), .bin .gtr (.t 115) (.c (.int .i64 7))⟩, oT 117 113 116])
  (.cond (.t 117)
  (.seq (.ops [oM 118 17, ⟨some 119, none, .un .not (.t 118)⟩, oM 120 119, gM 121 120 true 8, ⟨some 122, (some (120, true)), .callQ 12 (.t 121)⟩, ⟨some 123, (some (120, true)), .callF false 17 [(.t 122)]⟩, gM 124 120 true 15, ⟨some 125, (some (120, true)), .bin .eql (.t 123) (.t 124)⟩, oN 126 120 125, oM 127 126, ⟨some 128, (some (127, true)), .load true 15 (.t 16)⟩, ⟨some 129, (some (127, true)), .build z_1 []⟩, ⟨some 130, (some (127, true)), .callF false 23 [(.t 128), (.t 129)]⟩, oN 131 127 130, oM 6 131])
  .ret)
  .skip))
  (.seq (.seq (.ops [oM 132 11, oM 133 132, gM 134 133 false 14, oT 135 133 134])
  (.cond (.t 135)
  (.seq (.ops [⟨some 6, none, .mov (.c (.bool true))⟩])
  .ret)
  .skip))
  (.seq (.ops [oF 137 14 4, oL 138 137, ⟨some 139, none, .callF false 21 [(.t 138), (.c (.int .u8 54)), (.c (.int .i64 4))]⟩, oM 136 139, oE 140 136 0, oE 141 136 1, oM 18 140, oM 19 141])
  (.seq (.seq (.ops [⟨some 142, none, .load true 15 (.t 4)⟩, ⟨some 143, none, .callF false 18 [(.t 142)]⟩, ⟨some 144, none, .bin .eql (.t 143) (.c (.int .i64 1))⟩])
  (.cond (.t 144)
  (.seq (.ops [oM 145 17, ⟨some 146, none, .un .not (.t 145)⟩, oM 6 146])
  .ret)
  .skip))
  (.seq (.ops [⟨some 147, none, .load true 15 (.t 4)⟩, ⟨some 148, none, .callF false 18 [(.t 147)]⟩, ⟨some 149, none, .bin .neq (.t 148) (.c (.int .i64 3))⟩, oM 150 149, gM 151 150 false 19, ⟨some 152, (some (150, false)), .un .not (.t 151)⟩, oT 153 150 152, oM 154 153, gM 155 154 false 18, gF 156 154 false 0 7, gL 157 154 false 156, ⟨some 158, (some (154, false)), .bin .neq (.t 155) (.t 157)⟩, oT 159 154 158, oM 160 159, ⟨some 161, (some (160, false)), .load true 15 (.t 4)⟩, ⟨some 162, (some (160, false)), .callF false 10 [(.t 161)]⟩, ⟨some 163, (some (160, false)), .lenS (.t 162)⟩, ⟨some 164, (some (160, false)), .bin .gtr (.t 163) (.c (.int .i64 255))⟩, oT 165 160 164, oM 166 165, gM 167 166 false 17, gM 168 166 false 167, ⟨some 169, (some (168, true)), .load true 15 (.t 16)⟩, ⟨some 170, (some (168, true)), .callF false 18 [(.t 169)]⟩, ⟨some 171, (some (168, true)), .bin .eql (.t 170) (.c (.int .i64 6))⟩, ⟨some 172, (some (166, false)), .pick (.t 168) (.t 171) (.c (.bool false))⟩, oT 173 166 172, oM 6 173])
  .ret)))))))))))))))))⟩
/- vizard/vizardlaw26.DhcpTwice -/
def B6_0 : C := (.seq (.seq (.ops [oM 46 13, oM 47 0, ⟨some 48, none, .len (.t 47)⟩, ⟨some 49, none, .bin .lss (.t 46) (.t 48)⟩])
  (.cond (.t 49)
  .skip
  (.exit 0)))
  (.seq (.block 1 (some [0, 2, 3, 4, 6, 11, 13]) (.ops [oM 52 11, oM 53 0, oM 54 13, ⟨some 55, none, .iaddr 17 (.t 53) (.t 54)⟩, ⟨some 56, none, .faddr true 0 15 (.t 55)⟩, ⟨some 57, none, .load true 15 (.t 56)⟩, oM 58 0, oM 59 13, ⟨some 60, none, .iaddr 17 (.t 58) (.t 59)⟩, oF 61 15 60, oL 62 61, ⟨some 63, none, .callM 13 [(.t 52), (.t 57), (.t 62)]⟩]))
  (.ops [oM 50 13, ⟨some 51, none, .bin .add (.t 50) (.c (.int .i64 1))⟩, oM 13 51])))
def L6_0 : C := .loop (some [0, 2, 3, 4, 6, 11, 13]) B6_0
theorem L6_0_eq {E : Env} (x : St) : ev E L6_0 x = andThen (ev E B6_0 (restr (some [0, 2, 3, 4, 6, 11, 13]) x)) (ev E L6_0) := ev_loop _ _ x
theorem L6_0_lp {E : Env} (s : Slots) (h : Heap) : ev E L6_0 ⟨s, h⟩ = lp E L6_0 (pickS s [0, 2, 3, 4, 6, 11, 13]) h := lp_of L6_0_eq s h
theorem L6_0_go {E : Env} (s : Slots) (h : Heap) : lp E L6_0 s h = andThen (ev E B6_0 ⟨pickS s [0, 2, 3, 4, 6, 11, 13], h⟩) (ev E L6_0) := lp_go L6_0_eq s h
noncomputable def T6_0 (E : Env) (o : Out) : Option (AV × Heap) := outR [(10, none)] (andThen (endBlock 0 (some [0, 2, 3, 4, 6, 11, 13]) (o)) (ev E (.seq (.ops [⟨some 64, none, .load true 6 (.t 6)⟩, ⟨some 65, none, .callF true 14 [(.c (.int .u8 53)), (.c (.int .u8 1))]⟩, oM 66 2, ⟨some 67, none, .callF true 15 [(.c (.int .u8 50)), (.t 66)]⟩, ⟨some 68, none, .buildR 2 49 [(.t 65), (.t 67)]⟩, ⟨some 69, none, .build z_1 [(0, 1, (.c (.int .u8 1))), (8, 6, (.t 64)), (14, 1, (.t 68))]⟩, ⟨some 14, none, .alloc true z_1 29⟩, oS 15 14 69])
  (.seq (.seq (.ops [oM 70 11, ⟨some 71, none, .callQ 12 (.t 70)⟩, ⟨some 72, none, .eqNl false false (.t 71)⟩])
  (.cond (.t 72)
  (.seq (.ops [⟨some 10, none, .mov (.c (.bool false))⟩])
  .ret)
  .skip))
  (.seq (.ops [oM 74 11, ⟨some 75, none, .callQ 12 (.t 74)⟩, ⟨some 76, none, .load true 15 (.t 14)⟩, ⟨some 77, none, .callF true 10 [(.t 76)]⟩, oM 78 3, ⟨some 79, none, .callF true 16 [(.t 75), (.t 77), (.t 78)]⟩, oM 73 79, oE 80 73 0, oE 81 73 1, ⟨some 15, none, .alloc true z_0 53⟩, oS 3 15 80, oM 16 81])
  (.seq (.seq (.ops [oM 82 16, oM 83 82, gF 84 83 true 1 15, gL 85 83 true 84, oN 86 83 85])
  (.cond (.t 86)
  (.seq (.ops [⟨some 10, none, .mov (.c (.bool true))⟩])
  .ret)
  .skip))
  (.seq (.ops [oM 88 11, ⟨some 89, none, .load true 15 (.t 14)⟩, oM 90 3, ⟨some 91, none, .callM 13 [(.t 88), (.t 89), (.t 90)]⟩, oM 87 91, oE 92 87 0, oE 93 87 1, ⟨some 17, none, .alloc true z_1 29⟩, oS 15 17 92, oM 18 93])
  (.seq (.ops [oM 95 11, ⟨some 96, none, .load true 15 (.t 14)⟩, oM 97 3, ⟨some 98, none, .callM 13 [(.t 95), (.t 96), (.t 97)]⟩, oM 94 98, oE 99 94 0, oE 100 94 1, ⟨some 19, none, .alloc true z_1 29⟩, oS 15 19 99, oM 20 100])
  (.seq (.seq (.ops [oM 101 18, ⟨some 102, none, .un .not (.t 101)⟩])
  (.cond (.t 102)
  (.seq (.ops [oM 103 20, ⟨some 104, none, .un .not (.t 103)⟩, oM 10 104])
  .ret)
  .skip))
  (.seq (.seq (.ops [oM 105 20, ⟨some 106, none, .un .not (.t 105)⟩, oM 107 106, ⟨some 108, (some (107, false)), .load true 15 (.t 17)⟩, ⟨some 109, (some (107, false)), .callF false 18 [(.t 108)]⟩, ⟨some 110, (some (107, false)), .bin .neq (.t 109) (.c (.int .i64 2))⟩, oT 111 107 110, oM 112 111, ⟨some 113, (some (112, false)), .load true 15 (.t 17)⟩, ⟨some 114, (some (112, false)), .load true 15 (.t 19)⟩, ⟨some 115, (some (112, false)), .callF false 23 [(.t 113), (.t 114)]⟩, ⟨some 116, (some (112, false)), .un .not (.t 115)⟩, oT 117 112 116])
  (.cond (.t 117)
  (.seq (.ops [⟨some 10, none, .mov (.c (.bool false))⟩])
  .ret)
  .skip))
  (.seq (.ops [⟨some 118, none, .callF true 14 [(.c (.int .u8 53)), (.c (.int .u8 3))]⟩, ⟨some 119, none, .callF true 9 []⟩, ⟨some 120, none, .field false 0 1 (.t 119)⟩, ⟨some 121, none, .callF true 15 [(.c (.int .u8 54)), (.t 120)]⟩, oF 122 5 17, oL 123 122, ⟨some 124, none, .callF true 15 [(.c (.int .u8 50)), (.t 123)]⟩, ⟨some 125, none, .buildR 2 49 [(.t 118), (.t 121), (.t 124)]⟩, oF 126 14 14, oS 1 126 125])
  (.seq (.ops [oM 128 11, ⟨some 129, none, .load true 15 (.t 14)⟩, oM 130 3, oM 131 4, ⟨some 132, none, .bin .rem (.t 131) (.c (.int .u8 10))⟩, ⟨some 133, none, .conv .u64 (.t 132)⟩, ⟨some 134, none, .bin .add (.t 130) (.t 133)⟩, ⟨some 135, none, .callM 13 [(.t 128), (.t 129), (.t 134)]⟩, oM 127 135, oE 136 127 0, oE 137 127 1, ⟨some 21, none, .alloc true z_1 29⟩, oS 15 21 136, oM 22 137])
  (.seq (.ops [⟨some 138, none, .callF false 14 [(.c (.int .u8 53)), (.c (.int .u8 3))]⟩, ⟨some 139, none, .buildR 2 49 [(.t 138)]⟩, oF 140 14 14, oS 1 140 139])
  (.seq (.ops [oF 141 5 17, oL 142 141, oF 143 4 14, oS 1 143 142])
  (.seq (.ops [oM 145 11, ⟨some 146, none, .load true 15 (.t 14)⟩, oM 147 3, oM 148 4, ⟨some 149, none, .bin .rem (.t 148) (.c (.int .u8 10))⟩, ⟨some 150, none, .conv .u64 (.t 149)⟩, ⟨some 151, none, .bin .add (.t 147) (.t 150)⟩, ⟨some 152, none, .bin .add (.t 151) (.c (.int .u64 99))⟩, ⟨some 153, none, .callM 13 [(.t 145), (.t 146), (.t 152)]⟩, oM 144 153, oE 154 144 0, oE 155 144 1, ⟨some 23, none, .alloc true z_1 29⟩, oS 15 23 154, oM 24 155])
  (.seq (.ops [oM 157 11, ⟨some 158, none, .load true 15 (.t 14)⟩, oM 159 3, oM 160 4, ⟨some 161, none, .bin .rem (.t 160) (.c (.int .u8 10))⟩, ⟨some 162, none, .conv .u64 (.t 161)⟩, ⟨some 163, none, .bin .add (.t 159) (.t 162)⟩, ⟨some 164, none, .bin .add (.t 163) (.c (.int .u64 199))⟩, ⟨some 165, none, .callM 13 [(.t 157), (.t 158), (.t 164)]⟩, oM 156 165, oE 166 156 0, oE 167 156 1, ⟨some 25, none, .alloc true z_1 29⟩, oS 15 25 166, oM 26 167])
  (.seq (.ops [oM 168 22, oM 169 168, ⟨some 170, (some (169, true)), .load true 15 (.t 21)⟩, ⟨some 171, (some (169, true)), .callF false 18 [(.t 170)]⟩, ⟨some 172, (some (169, true)), .bin .eql (.t 171) (.c (.int .i64 5))⟩, oN 173 169 172, oM 174 173, gF 175 174 true 5 21, gL 176 174 true 175, gF 177 174 true 5 17, gL 178 174 true 177, ⟨some 179, (some (174, true)), .bin .eql (.t 176) (.t 178)⟩, oN 180 174 179, oM 181 180, gM 182 181 true 24, oN 183 181 182, oM 184 183, ⟨some 185, (some (184, true)), .load true 15 (.t 23)⟩, ⟨some 186, (some (184, true)), .callF false 18 [(.t 185)]⟩, ⟨some 187, (some (184, true)), .bin .eql (.t 186) (.c (.int .i64 5))⟩, oN 188 184 187, oM 189 188, gF 190 189 true 4 23, gL 191 189 true 190, gF 192 189 true 5 17, gL 193 189 true 192, ⟨some 194, (some (189, true)), .bin .eql (.t 191) (.t 193)⟩, oN 195 189 194, oM 196 195, gM 197 196 true 26, ⟨some 198, (some (196, true)), .un .not (.t 197)⟩, oN 199 196 198, oM 10 199])
  .ret)))))))))))))))))
def I6 : Fn_ := ⟨5, 200, [(10, none)],
  (.seq (.ops [⟨some 6, none, .box true 26 (.t 1)⟩, ⟨some 10, none, .mov (.c (.bool false))⟩])
  (.seq (.seq (.ops [⟨some 27, none, .callF false 7 []⟩, ⟨some 28, none, .un .not (.t 27)⟩])
  (.cond (.t 28)
  (.seq (.ops [⟨some 10, none, .mov (.c (.bool false))⟩])
  .ret)
  .skip))
  (.seq (.seq (.ops [oM 29 0, ⟨some 30, none, .callF false 8 [(.t 29)]⟩, oM 31 30, gM 32 31 false 3, ⟨some 33, (some (31, false)), .bin .gtr (.t 32) (.c (.int .u64 1152921504606846976))⟩, oT 34 31 33])
  (.cond (.t 34)
  (.seq (.ops [⟨some 10, none, .mov (.c (.bool true))⟩])
  .ret)
  .skip))
  (.seq (.ops [⟨some 36, none, .callF false 9 []⟩, ⟨some 37, none, .callM 11 [(.t 36)]⟩, oM 35 37, oE 38 35 0, oE 39 35 1, oM 11 38, oM 12 39])
  (.seq (.seq (.ops [oM 40 11, ⟨some 41, none, .eqNl false false (.t 40)⟩, oM 42 41, gM 43 42 false 12, ⟨some 44, (some (42, false)), .bin .neq (.t 43) (.c (.int .i64 0))⟩, oT 45 42 44])
  (.cond (.t 45)
  (.seq (.ops [⟨some 10, none, .mov (.c (.bool false))⟩])
  .ret)
  .skip))
  (.seq (.seq (.ops [⟨some 13, none, .mov (.c (.int .i64 0))⟩])
  (.block 0 (some [0, 2, 3, 4, 6, 11, 13]) L6_0))
  (.seq (.ops [⟨some 64, none, .load true 6 (.t 6)⟩, ⟨some 65, none, .callF true 14 [(.c (.int .u8 53)), (.c (.int .u8 1))]⟩, oM 66 2, ⟨some 67, none, .callF true 15 [(.c (.int .u8 50)), (.t 66)]⟩, ⟨some 68, none, .buildR 2 49 [(.t 65), (.t 67)]⟩, ⟨some 69, none, .build z_1 [(0, 1, (.c (.int .u8 1))), (8, 6, (.t 64)), (14, 1, (.t 68))]⟩, ⟨some 14, none, .alloc true z_1 29⟩, oS 15 14 69])
  (.seq (.seq (.ops [oM 70 11, ⟨some 71, none, .callQ 12 (.t 70)⟩, ⟨some 72, none, .eqNl false false (.t 71)⟩])
  (.cond (.t 72)
  (.seq (.ops [⟨some 10, none, .mov (.c (.bool false))⟩])
  .ret)
  .skip))
  (.seq (.ops [oM 74 11, ⟨some 75, none, .callQ 12 (.t 74)⟩, ⟨some 76, none, .load true 15 (.t 14)⟩, ⟨some 77, none, .callF true 10 [(.t 76)]⟩, oM 78 3, ⟨some 79, none, .callF true 16 [(.t 75), (.t 77), (.t 78)]⟩, oM 73 79, oE 80 73 0, oE 81 73 1, ⟨some 15, none, .alloc true z_0 53⟩, oS 3 15 80, oM 16 81])
  (.seq (.seq (.ops [oM 82 16, oM 83 82, gF 84 83 true 1 15, gL 85 83 true 84, oN 86 83 85])
  (.cond (.t 86)
  (.seq (.ops [⟨some 10, none, .mov (.c (.bool true))⟩])
  .ret)
  .skip))
  (.seq (.ops [oM 88 11, ⟨some 89, none, .load true 15 (.t 14)⟩, oM 90 3, ⟨some 91, none, .callM 13 [(.t 88), (.t 89), (.t 90)]⟩, oM 87 91, oE 92 87 0, oE 93 87 1, ⟨some 17, none, .alloc true z_1 29⟩, oS 15 17 92, oM 18 93])
  (.seq (.ops [oM 95 11, ⟨some 96, none, .load true 15 (.t 14)⟩, oM 97 3, ⟨some 98, none, .callM 13 [(.t 95), (.t 96), (.t 97)]⟩, oM 94 98, oE 99 94 0, oE 100 94 1, ⟨some 19, none, .alloc true z_1 29⟩, oS 15 19 99, oM 20 100])
  (.seq (.seq (.ops [oM 101 18, ⟨some 102, none, .un .not (.t 101)⟩])
  (.cond (.t 102)
  (.seq (.ops [oM 103 20, ⟨some 104, none, .un .not (.t 103)⟩, oM 10 104])
  .ret)
  .skip))
  (.seq (.seq (.ops [oM 105 20, ⟨some 106, none, .un .not (.t 105)⟩, oM 107 106, ⟨some 108, (some (107, false)), .load true 15 (.t 17)⟩, ⟨some 109, (some (107, false)), .callF false 18 [(.t 108)]⟩, ⟨some 110, (some (107, false)), .bin .neq (.t 109) (.c (.int .i64 2))⟩, oT 111 107 110, oM 112 111, ⟨some 113, (some (112, false)), .load true 15 (.t 17)⟩, ⟨some 114, (some (112, false)), .load true 15 (.t 19)⟩, ⟨some 115, (some (112, false)), .callF false 23 [(.t 113), (.t 114)]⟩, ⟨some 116, (some (112, false)), .un .not (.t 115)⟩, oT 117 112 116])
  (.cond (.t 117)
  (.seq (.ops [⟨some 10, none, .mov (.c (.bool false))⟩])
  .ret)
  .skip))
  (.seq (.ops [⟨some 118, none, .callF true 14 [(.c (.int .u8 53)), (.c (.int .u8 3))]⟩, ⟨some 119, none, .callF true 9 []⟩, ⟨some 120, none, .field false 0 1 (.t 119)⟩, ⟨some 121, none, .callF true 15 [(.c (.int .u8 54)), (.t 120)]⟩, oF 122 5 17, oL 123 122, ⟨some 124, none, .callF true 15 [(.c (.int .u8 50)), (.t 123)]⟩, ⟨some 125, none, .buildR 2 49 [(.t 118), (.t 121), (.t 124)]⟩, oF 126 14 14, oS 1 126 125])
  (.seq (.ops [oM 128 11, ⟨some 129, none, .load true 15 (.t 14)⟩, oM 130 3, oM 131 4, ⟨some 132, none, .bin .rem (.t 131) (.c (.int .u8 10))⟩, ⟨some 133, none, .conv .u64 (.t 132)⟩, ⟨some 134, none, .bin .add (.t 130) (.t 133)⟩, ⟨some 135, none, .callM 13 [(.t 128), (.t 129), (.t 134)]⟩, oM 127 135, oE 136 127 0, oE 137 127 1, ⟨some 21, none, .alloc true z_1 29⟩, oS 15 21 136, oM 22 137])
  (.seq (.ops [⟨some 138, none, .callF false 14 [(.c (.int .u8 53)), (.c (.int .u8 3))]⟩, ⟨some 139, none, .buildR 2 49 [(.t 138)]⟩, oF 140 14 14, oS 1 140 139])
  (.seq (.ops [oF 141 5 17, oL 142 141, oF 143 4 14, oS 1 143 142])
  (.seq (.ops [oM 145 11, ⟨some 146, none, .load true 15 (.t 14)⟩, oM 147 3, oM 148 4, ⟨some 149, none, .bin .rem (.t 148) (.c (.int .u8 10))⟩, ⟨some 150, none, .conv .u64 (.t 149)⟩, ⟨some 151, none, .bin .add (.t 147) (.t 150)⟩, ⟨some 152, none, .bin .add (.t 151) (.c (.int .u64 99))⟩, ⟨some 153, none, .callM 13 [(.t 145), (.t 146), (.t 152)]⟩, oM 144 153, oE 154 144 0, oE 155 144 1, ⟨some 23, none, .alloc true z_1 29⟩, oS 15 23 154, oM 24 155])
  (.seq (.ops [oM 157 11, ⟨some 158, none, .load true 15 (.t 14)⟩, oM 159 3, oM 160 4, ⟨some 161, none, .bin .rem (.t 160) (.c (.int .u8 10))⟩, ⟨some 162, none, .conv .u64 (.t 161)⟩, ⟨some 163, none, .bin .add (.t 159) (.t 162)⟩, ⟨some 164, none, .bin .add (.t 163) (.c (.int .u64 199))⟩, ⟨some 165, none, .callM 13 [(.t 157), (.t 158), (.t 164)]⟩, oM 156 165, oE 166 156 0, oE 167 156 1, ⟨some 25, none, .alloc true z_1 29⟩, oS 15 25 166, oM 26 167])
  (.seq (.ops [oM 168 22, oM 169 168, ⟨some 170, (some (169, true)), .load true 15 (.t 21)⟩, ⟨some 171, (some (169, true)), .callF false 18 [(.t 170)]⟩, ⟨some 172, (some (169, true)), .bin .eql (.t 171) (.c (.int .i64 5))⟩, oN 173 169 172, oM 174 173, gF 175 174 true 5 21, gL 176 174 true 175, gF 177 174 true 5 17, gL 178 174 true 177, ⟨some 179, (some (174, true)), .bin .eql (.t 176) (.t 178)⟩, oN 180 174 179, oM 181 180, gM 182 181 true 24, oN 183 181 182, oM 184 183, ⟨some 185, (some (184, true)), .load true 15 (.t 23)⟩, ⟨some 186, (some (184, true)), .callF false 18 [(.t 185)]⟩, ⟨some 187, (some (184, true)), .bin .eql (.t 186) (.c (.int .i64 5))⟩, oN 188 184 187, oM 189 188, gF 190 189 true 4 23, gL 191 189 true 190, gF 192 189 true 5 17, gL 193 189 true 192, ⟨some 194, (some (189, true)), .bin .eql (.t 191) (.t 193)⟩, oN 195 189 194, oM 196 195, gM 197 196 true 26, ⟨some 198, (some (196, true)), .un .not (.t 197)⟩, oN 199 196 198, oM 10 199])
  .ret)))))))))))))))))))))⟩
/- vizard/vizardlaw26.alive -/
def I7 : Fn_ := ⟨0, 229, [(0, none)],
  (.seq (.ops [⟨some 0, none, .mov (.c (.bool false))⟩])
  (.seq (.ops [⟨some 28, none, .callF false 9 []⟩, ⟨some 29, none, .callM 11 [(.t 28)]⟩, oM 27 29, oE 30 27 0, oE 31 27 1, oM 1 30, oM 2 31])
  (.seq (.ops [⟨some 33, none, .build z_3 []⟩, ⟨some 34, none, .callM 11 [(.t 33)]⟩, oM 32 34, oE 35 32 0, oE 36 32 1, oM 3 35, oM 4 36])
  (.seq (.seq (.ops [oM 37 1, ⟨some 38, none, .eqNl false false (.t 37)⟩, oM 39 38, gM 40 39 false 2, ⟨some 41, (some (39, false)), .bin .neq (.t 40) (.c (.int .i64 0))⟩, oT 42 39 41, oM 43 42, gM 44 43 false 4, ⟨some 45, (some (43, false)), .bin .neq (.t 44) (.c (.int .i64 11))⟩, oT 46 43 45, oM 47 46, gM 48 47 false 1, ⟨some 49, (some (47, false)), .callQ 12 (.t 48)⟩, ⟨some 50, (some (47, false)), .eqNl false false (.t 49)⟩, oT 51 47 50])
  (.cond (.t 51)
  (.seq (.ops [⟨some 0, none, .mov (.c (.bool false))⟩])
  .ret)
  .skip))
  (.seq (.ops [⟨some 52, none, .callF false 15 [(.c (.int .u8 54)), (.c (.int .u32 167772161))]⟩, ⟨some 5, none, .alloc true z_4 49⟩, oS 2 5 52])
  (.seq (.ops [oM 54 1, ⟨some 55, none, .callF false 24 [(.c (.int .u8 1)), (.c (.int .u8 1)), (.c (.rs false 2 []))]⟩, ⟨some 56, none, .callM 13 [(.t 54), (.t 55), (.c (.int .u64 100))]⟩, oM 53 56, oE 57 53 0, oE 58 53 1, ⟨some 6, none, .alloc true z_1 29⟩, oS 15 6 57, oM 7 58])
  (.seq (.alt [oM 60 1, ⟨some 61, none, .load true 2 (.t 5)⟩, ⟨some 62, none, .callF true 15 [(.c (.int .u8 50)), (.c (.int .u32 167772162))]⟩, ⟨some 63, none, .buildR 2 49 [(.t 61), (.t 62)]⟩, ⟨some 64, none, .callF true 24 [(.c (.int .u8 3)), (.c (.int .u8 1)), (.t 63)]⟩, ⟨some 65, none, .callM 13 [(.t 60), (.t 64), (.c (.int .u64 101))]⟩, oM 59 65, oE 66 59 0, oE 67 59 1, ⟨some 8, none, .alloc true z_1 29⟩, oS 15 8 66, oM 9 67] [0, 1, 2, 3, 4] 9 5 [6, 7, 8, 10, 11])
  (.seq (.alt [oM 69 1, ⟨some 70, none, .load true 2 (.t 5)⟩, ⟨some 71, none, .callF true 15 [(.c (.int .u8 50)), (.c (.int .u32 167772163))]⟩, ⟨some 72, none, .buildR 2 49 [(.t 70), (.t 71)]⟩, ⟨some 73, none, .callF true 24 [(.c (.int .u8 3)), (.c (.int .u8 2)), (.t 72)]⟩, ⟨some 74, none, .callM 13 [(.t 69), (.t 73), (.c (.int .u64 101))]⟩, oM 68 74, oE 75 68 0, oE 76 68 1, ⟨some 10, none, .alloc true z_1 29⟩, oS 15 10 75, oM 11 76] [0, 1, 2, 3, 4] 9 5 [6, 7, 8, 10, 11])
  (.seq (.ops [oM 78 1, ⟨some 79, none, .callF false 15 [(.c (.int .u8 50)), (.c (.int .u32 167772163))]⟩, ⟨some 80, none, .buildR 2 49 [(.t 79)]⟩, ⟨some 81, none, .callF false 24 [(.c (.int .u8 3)), (.c (.int .u8 2)), (.t 80)]⟩, ⟨some 82, none, .callM 13 [(.t 78), (.t 81), (.c (.int .u64 101))]⟩, oM 77 82, oE 83 77 0, oE 84 77 1, ⟨some 12, none, .alloc true z_1 29⟩, oS 15 12 83, oM 13 84])
  (.seq (.ops [oF 86 14 8, oL 87 86, ⟨some 88, none, .callF false 21 [(.t 87), (.c (.int .u8 51)), (.c (.int .i64 4))]⟩, oM 85 88, oE 89 85 0, oE 90 85 1, oM 14 89, oM 15 90])
  (.seq (.ops [⟨some 92, none, .load true 15 (.t 8)⟩, ⟨some 93, none, .callF false 25 [(.t 92)]⟩, oM 91 93, oE 94 91 0, oE 95 91 1, ⟨some 17, none, .alloc true z_5 26⟩, oM 16 94, oS 6 17 95])
  (.seq (.ops [⟨some 97, none, .load true 15 (.t 10)⟩, ⟨some 98, none, .callF false 25 [(.t 97)]⟩, oM 96 98, oE 99 96 0, oE 100 96 1, ⟨some 19, none, .alloc true z_5 26⟩, oM 18 99, oS 6 19 100])
  (.seq (.ops [oM 101 1, ⟨some 102, none, .callM 26 [(.t 101)]⟩, oM 20 102])
  (.seq (.alt [oM 104 1, ⟨some 105, none, .load true 2 (.t 5)⟩, ⟨some 106, none, .callF true 15 [(.c (.int .u8 50)), (.c (.int .u32 167772162))]⟩, ⟨some 107, none, .buildR 2 49 [(.t 105), (.t 106)]⟩, ⟨some 108, none, .callF true 24 [(.c (.int .u8 4)), (.c (.int .u8 1)), (.t 107)]⟩, ⟨some 109, none, .callM 13 [(.t 104), (.t 108), (.c (.int .u64 102))]⟩, oM 103 109, oE 110 103 0, oE 111 103 1, ⟨some 21, none, .alloc true z_1 29⟩, oS 15 21 110, oM 22 111] [0, 1, 2, 3, 4] 9 5 [6, 7, 8, 10, 11])
  (.seq (.ops [oM 113 1, ⟨some 114, none, .callF false 24 [(.c (.int .u8 1)), (.c (.int .u8 2)), (.c (.rs false 2 []))]⟩, ⟨some 115, none, .callM 13 [(.t 113), (.t 114), (.c (.int .u64 103))]⟩, oM 112 115, oE 116 112 0, oE 117 112 1, ⟨some 23, none, .alloc true z_1 29⟩, oS 15 23 116, oM 24 117])
  (.seq (.ops [oM 119 1, ⟨some 120, none, .callF false 24 [(.c (.int .u8 1)), (.c (.int .u8 3)), (.c (.rs false 2 []))]⟩, ⟨some 121, none, .callM 13 [(.t 119), (.t 120), (.c (.int .u64 103))]⟩, oM 118 121, oE 122 118 0, oE 123 118 1, ⟨some 25, none, .alloc true z_1 29⟩, oS 15 25 122, oM 26 123])
  (.seq (.ops [oM 124 20, ⟨some 125, none, .eqNl false true (.t 124)⟩, oM 126 125, gM 127 126 true 20, ⟨some 128, (some (126, true)), .callQ 12 (.t 127)⟩, ⟨some 129, (some (126, true)), .eqNl false true (.t 128)⟩, oN 130 126 129, oM 131 130, gM 132 131 true 7, oN 133 131 132, oM 134 133, ⟨some 135, (some (134, true)), .load true 15 (.t 6)⟩, ⟨some 136, (some (134, true)), .callF true 18 [(.t 135)]⟩, ⟨some 137, (some (134, true)), .bin .eql (.t 136) (.c (.int .i64 2))⟩, oN 138 134 137, oM 139 138, gF 140 139 true 5 6, gL 141 139 true 140, ⟨some 142, (some (139, true)), .bin .eql (.t 141) (.c (.int .u32 167772162))⟩, oN 143 139 142, oM 144 143, gM 145 144 true 9, oN 146 144 145, oM 147 146, ⟨some 148, (some (147, true)), .load true 15 (.t 8)⟩, ⟨some 149, (some (147, true)), .callF true 18 [(.t 148)]⟩, ⟨some 150, (some (147, true)), .bin .eql (.t 149) (.c (.int .i64 5))⟩, oN 151 147 150, oM 152 151, gF 153 152 true 5 8, gL 154 152 true 153, ⟨some 155, (some (152, true)), .bin .eql (.t 154) (.c (.int .u32 167772162))⟩, oN 156 152 155, oM 157 156, gM 158 157 true 11, oN 159 157 158, oM 160 159, ⟨some 161, (some (160, true)), .load true 15 (.t 10)⟩, ⟨some 162, (some (160, true)), .callF true 18 [(.t 161)]⟩, ⟨some 163, (some (160, true)), .bin .eql (.t 162) (.c (.int .i64 6))⟩, oN 164 160 163, oM 165 164, gM 166 165 true 13, ⟨some 167, (some (165, true)), .un .not (.t 166)⟩, oN 168 165 167, oM 169 168, gM 170 169 true 15, oN 171 169 170, oM 172 171, gM 173 172 true 14, ⟨some 174, (some (172, true)), .bin .eql (.t 173) (.c (.int .u32 100))⟩, oN 175 172 174, oM 176 175, gM 177 176 true 16, ⟨some 178, (some (176, true)), .bin .eql (.t 177) (.c (.int .u32 167772162))⟩, oN 179 176 178, oM 180 179, ⟨some 181, (some (180, true)), .load true 6 (.t 17)⟩, ⟨some 182, (some (180, true)), .build z_5 [(0, 1, (.c (.int .u8 2))), (1, 1, (.c (.int .u8 1)))]⟩, ⟨some 183, (some (180, true)), .eqS false [1, 1, 1, 1, 1, 1] (.t 181) (.t 182)⟩, oN 184 180 183, oM 185 184, gM 186 185 true 18, ⟨some 187, (some (185, true)), .bin .eql (.t 186) (.c (.int .u32 4294967295))⟩, oN 188 185 187, oM 189 188, ⟨some 190, (some (189, true)), .load true 6 (.t 19)⟩, ⟨some 191, (some (189, true)), .callF true 27 []⟩, ⟨some 192, (some (189, true)), .eqS false [1, 1, 1, 1, 1, 1] (.t 190) (.t 191)⟩, oN 193 189 192, oM 194 193, gM 195 194 true 22, ⟨some 196, (some (194, true)), .un .not (.t 195)⟩, oN 197 194 196, oM 198 197, gM 199 198 true 24, oN 200 198 199, oM 201 200, gF 202 201 true 5 23, gL 203 201 true 202, ⟨some 204, (some (201, true)), .bin .eql (.t 203) (.c (.int .u32 167772163))⟩, oN 205 201 204, oM 206 205, gM 207 206 true 26, ⟨some 208, (some (206, true)), .un .not (.t 207)⟩, oN 209 206 208, oM 210 209, gM 211 210 true 1, ⟨some 212, (some (210, true)), .callQ 12 (.t 211)⟩, ⟨some 213, (some (210, true)), .callF true 28 [(.t 212)]⟩, ⟨some 214, (some (210, true)), .len (.t 213)⟩, ⟨some 215, (some (210, true)), .bin .eql (.t 214) (.c (.int .i64 1))⟩, oN 216 210 215, oM 217 216, gM 218 217 true 20, ⟨some 219, (some (217, true)), .callQ 12 (.t 218)⟩, ⟨some 220, (some (217, true)), .callF true 17 [(.t 219)]⟩, ⟨some 221, (some (217, true)), .bin .eql (.t 220) (.c (.int .i64 1))⟩, oN 222 217 221, oM 223 222, gM 224 223 true 1, ⟨some 225, (some (223, true)), .callF true 29 [(.t 224)]⟩, ⟨some 226, (some (223, true)), .callF true 9 []⟩, ⟨some 227, (some (223, true)), .eqS false [1, 1, 1, 1, 1, 1, 1] (.t 225) (.t 226)⟩, oN 228 223 227, oM 0 228])
  .ret)))))))))))))))))⟩
/- vizard/vizardlaw26.great -/
def B8_0 : C := (.seq (.seq (.ops [oM 22 4, oM 23 0, oM 24 3, ⟨some 25, none, .iaddr 17 (.t 23) (.t 24)⟩, ⟨some 26, none, .faddr true 0 15 (.t 25)⟩, oF 27 14 26, oL 28 27, ⟨some 29, none, .len (.t 28)⟩, ⟨some 30, none, .bin .lss (.t 22) (.t 29)⟩])
  (.cond (.t 30)
  .skip
  (.exit 2)))
  (.seq (.block 3 (some [0, 3, 4]) (.seq (.ops [oM 33 0, oM 34 3, ⟨some 35, none, .iaddr 17 (.t 33) (.t 34)⟩, ⟨some 36, none, .faddr true 0 15 (.t 35)⟩, oF 37 14 36, oL 38 37, oM 39 4, ⟨some 40, none, .iaddr 2 (.t 38) (.t 39)⟩, oF 41 1 40, oL 42 41, ⟨some 43, none, .len (.t 42)⟩, ⟨some 44, none, .bin .gtr (.t 43) (.c (.int .i64 300))⟩])
  (.cond (.t 44)
  (.seq (.ops [⟨some 2, none, .mov (.c (.bool true))⟩])
  .ret)
  .skip)))
  (.ops [oM 31 4, ⟨some 32, none, .bin .add (.t 31) (.c (.int .i64 1))⟩, oM 4 32])))
def L8_0 : C := .loop (some [0, 3, 4]) B8_0
theorem L8_0_eq {E : Env} (x : St) : ev E L8_0 x = andThen (ev E B8_0 (restr (some [0, 3, 4]) x)) (ev E L8_0) := ev_loop _ _ x
theorem L8_0_lp {E : Env} (s : Slots) (h : Heap) : ev E L8_0 ⟨s, h⟩ = lp E L8_0 (pickS s [0, 3, 4]) h := lp_of L8_0_eq s h
theorem L8_0_go {E : Env} (s : Slots) (h : Heap) : lp E L8_0 s h = andThen (ev E B8_0 ⟨pickS s [0, 3, 4], h⟩) (ev E L8_0) := lp_go L8_0_eq s h
def B8_1 : C := (.seq (.seq (.ops [oM 8 3, oM 9 0, ⟨some 10, none, .len (.t 9)⟩, ⟨some 11, none, .bin .lss (.t 8) (.t 10)⟩])
  (.cond (.t 11)
  .skip
  (.exit 0)))
  (.seq (.block 1 (some [0, 3]) (.seq (.seq (.ops [oM 14 0, oM 15 3, ⟨some 16, none, .iaddr 17 (.t 14) (.t 15)⟩, ⟨some 17, none, .faddr true 0 15 (.t 16)⟩, oF 18 14 17, oL 19 18, ⟨some 20, none, .len (.t 19)⟩, ⟨some 21, none, .bin .gtr (.t 20) (.c (.int .i64 40))⟩])
  (.cond (.t 21)
  (.seq (.ops [⟨some 2, none, .mov (.c (.bool true))⟩])
  .ret)
  .skip))
  (.seq (.ops [⟨some 4, none, .mov (.c (.int .i64 0))⟩])
  (.block 2 (some [0, 3, 4]) L8_0))))
  (.ops [oM 12 3, ⟨some 13, none, .bin .add (.t 12) (.c (.int .i64 1))⟩, oM 3 13])))
def L8_1 : C := .loop (some [0, 3]) B8_1
theorem L8_1_eq {E : Env} (x : St) : ev E L8_1 x = andThen (ev E B8_1 (restr (some [0, 3]) x)) (ev E L8_1) := ev_loop _ _ x
theorem L8_1_lp {E : Env} (s : Slots) (h : Heap) : ev E L8_1 ⟨s, h⟩ = lp E L8_1 (pickS s [0, 3]) h := lp_of L8_1_eq s h
theorem L8_1_go {E : Env} (s : Slots) (h : Heap) : lp E L8_1 s h = andThen (ev E B8_1 ⟨pickS s [0, 3], h⟩) (ev E L8_1) := lp_go L8_1_eq s h
noncomputable def T8_1 (E : Env) (o : Out) : Option (AV × Heap) := outR [(2, none)] (andThen (endBlock 0 (some [0, 3]) (o)) (ev E (.seq (.ops [⟨some 2, none, .mov (.c (.bool false))⟩])
  .ret)))
noncomputable def T8_0 (E : Env) (o : Out) : Option (AV × Heap) := T8_1 E (andThen (andThen (endBlock 1 (some [0, 3]) (endBlock 2 (some [0, 3, 4]) (o))) (ev E (.ops [oM 12 3, ⟨some 13, none, .bin .add (.t 12) (.c (.int .i64 1))⟩, oM 3 13]))) (ev E L8_1))
def I8 : Fn_ := ⟨1, 45, [(2, none)],
  (.seq (.ops [⟨some 2, none, .mov (.c (.bool false))⟩])
  (.seq (.seq (.ops [oM 5 0, ⟨some 6, none, .len (.t 5)⟩, ⟨some 7, none, .bin .gtr (.t 6) (.c (.int .i64 60))⟩])
  (.cond (.t 7)
  (.seq (.ops [⟨some 2, none, .mov (.c (.bool true))⟩])
  .ret)
  .skip))
  (.seq (.seq (.ops [⟨some 3, none, .mov (.c (.int .i64 0))⟩])
  (.block 0 (some [0, 3]) L8_1))
  (.seq (.ops [⟨some 2, none, .mov (.c (.bool false))⟩])
  .ret))))⟩
/- vizard/vizardlaw26.Small -/
def I9 : Fn_ := ⟨0, 2, [(0, some (true, 7))],
  (.seq (.ops [⟨some 0, none, .alloc true z_3 36⟩])
  (.seq (.ops [⟨some 1, none, .build z_3 [(0, 1, (.c (.int .u32 167772161))), (1, 1, (.c (.int .u32 4294967040))), (2, 1, (.c (.int .u32 167772161))), (3, 1, (.c (.int .u32 167772163))), (4, 1, (.c (.int .u32 100))), (5, 1, (.c (.int .u32 10))), (6, 1, (.c (.int .u32 50)))]⟩, oS 7 0 1])
  .ret))⟩
/- (vizard/boot.Message).Client -/
def I10 : Fn_ := ⟨1, 25, [(2, none)],
  (.seq (.ops [⟨some 1, none, .boxR true 15 29 (.t 0)⟩, ⟨some 2, none, .mov (.c (.str ⟨#[]⟩))⟩])
  (.seq (.seq (.ops [oF 6 14 1, oL 7 6, ⟨some 8, none, .callF false 30 [(.t 7), (.c (.int .u8 61))]⟩, oM 5 8, oE 9 5 0, oE 10 5 1, oM 3 9, oM 4 10])
  (.seq (.ops [oM 11 4, oM 12 11, gM 13 12 true 3, ⟨some 14, (some (12, true)), .len (.t 13)⟩, ⟨some 15, (some (12, true)), .bin .gtr (.t 14) (.c (.int .i64 0))⟩, oN 16 12 15])
  (.cond (.t 16)
  (.seq (.ops [oM 17 3, ⟨some 18, none, .toStr (.t 17)⟩, oM 2 18])
  .ret)
  .skip)))
  (.seq (.ops [⟨some 19, none, .buildR 1 5 [(.c (.int .u8 1))]⟩, ⟨some 20, none, .toStr (.t 19)⟩, ⟨some 21, none, .faddr true 8 6 (.t 1)⟩, ⟨some 22, none, .sliceA 6 1 (.t 21) none none⟩, ⟨some 23, none, .toStr (.t 22)⟩, ⟨some 24, none, .bin .add (.t 20) (.t 23)⟩, oM 2 24])
  .ret)))⟩
/- vizard/dhcp.New -/
def I11 : Fn_ := ⟨1, 25, [(2, none), (3, none)],
  (.seq (.ops [⟨some 1, none, .box true 36 (.t 0)⟩, ⟨some 2, none, .mov (.c .nilp)⟩, ⟨some 3, none, .mov (.c (.int .i64 0))⟩])
  (.seq (.seq (.ops [⟨some 6, none, .load true 7 (.t 1)⟩, ⟨some 7, none, .callM 31 [(.t 6)]⟩, ⟨some 8, none, .un .not (.t 7)⟩])
  (.cond (.t 8)
  (.seq (.ops [⟨some 2, none, .mov (.c .nilp)⟩, ⟨some 3, none, .mov (.c (.int .i64 11))⟩])
  .ret)
  .skip))
  (.seq (.ops [oF 10 2 1, oL 11 10, oF 12 3 1, oL 13 12, oF 14 0 1, oL 15 14, ⟨some 16, none, .buildR 1 23 [(.t 15)]⟩, ⟨some 17, none, .callM 32 [(.t 11), (.t 13), (.t 16)]⟩, oM 9 17, oE 18 9 0, oE 19 9 1, oM 4 18, oM 5 19])
  (.seq (.ops [⟨some 20, none, .load true 7 (.t 1)⟩, oM 21 4, ⟨some 22, none, .build z_6 [(0, 7, (.t 20)), (7, 1, (.t 21))]⟩, ⟨some 23, none, .box true 77 (.t 22)⟩, oM 24 5, oM 2 23, oM 3 24])
  .ret))))⟩
/- (*vizard/dhcp.Server).Book -/
def I12 : Fn_ := ⟨1, 7, [(2, none)],
  (.seq (.ops [⟨some 2, none, .mov (.c .nilp)⟩])
  (.seq (.ops [oM 3 0, ⟨some 4, none, .nilChk (.t 3)⟩, oF 5 7 4, oL 6 5, oM 2 6])
  .ret))⟩
/- (*vizard/dhcp.Server).Hear -/
def I13 : Fn_ := ⟨3, 56, [(6, some (true, 15)), (7, none)],
  (.seq (.ops [⟨some 4, none, .box true 29 (.t 1)⟩, ⟨some 6, none, .alloc true z_1 29⟩, ⟨some 7, none, .mov (.c (.bool false))⟩])
  (.seq (.ops [oM 9 0, ⟨some 10, none, .load true 15 (.t 4)⟩, oM 11 2, ⟨some 12, none, .callF false 33 [(.t 9), (.t 10), (.t 11)]⟩, ⟨some 8, none, .alloc true z_7 79⟩, oS 22 8 12])
  (.seq (.seq (.ops [oF 13 0 4, oL 14 13, ⟨some 15, none, .bin .neq (.t 14) (.c (.int .u8 1))⟩, oM 16 15, gF 17 16 false 7 4, gL 18 16 false 17, ⟨some 19, (some (16, false)), .bin .neq (.t 18) (.c (.int .u32 0))⟩, oT 20 16 19, oM 21 20, gF 22 21 false 15 8, gL 23 21 false 22, ⟨some 24, (some (21, false)), .lenS (.t 23)⟩, ⟨some 25, (some (21, false)), .bin .gtr (.t 24) (.c (.int .i64 255))⟩, oT 26 21 25])
  (.cond (.t 26)
  (.seq (.ops [⟨some 27, none, .callF false 34 []⟩, oE 28 27 0, oE 29 27 1, oS 15 6 28, oM 7 29])
  .ret)
  .skip))
  (.seq (.seq (.ops [⟨some 30, none, .load true 15 (.t 4)⟩, ⟨some 31, none, .callF false 18 [(.t 30)]⟩])
  (.block 0 (some [0, 6, 8, 31]) (.seq (.block 4 (some [0, 6, 8, 31]) (.block 3 (some [0, 6, 8, 31]) (.seq (.block 2 (some [0, 6, 8, 31]) (.seq (.block 1 (some [0, 6, 8, 31]) (.seq (.seq (.seq (.ops [⟨some 33, none, .bin .eql (.t 31) (.c (.int .i64 1))⟩, oM 32 33])
  (.cond (.t 32)
  (.exit 1)
  .skip))
  (.seq (.seq (.ops [⟨some 35, none, .bin .eql (.t 31) (.c (.int .i64 3))⟩, oM 34 35])
  (.cond (.t 34)
  (.exit 2)
  .skip))
  (.seq (.seq (.ops [⟨some 37, none, .bin .eql (.t 31) (.c (.int .i64 4))⟩, oM 36 37])
  (.cond (.t 36)
  (.exit 3)
  .skip))
  (.seq (.ops [⟨some 39, none, .bin .eql (.t 31) (.c (.int .i64 7))⟩, oM 38 39])
  (.cond (.t 38)
  (.exit 4)
  .skip)))))
  (.exit 0)))
  (.seq (.seq (.ops [oM 40 0, ⟨some 41, none, .load true 22 (.t 8)⟩, ⟨some 42, none, .callM 35 [(.t 40), (.t 41)]⟩, oE 43 42 0, oE 44 42 1, oS 15 6 43, oM 7 44])
  .ret)
  (.exit 0))))
  (.seq (.seq (.ops [oM 45 0, ⟨some 46, none, .load true 22 (.t 8)⟩, ⟨some 47, none, .callM 36 [(.t 45), (.t 46)]⟩, oE 48 47 0, oE 49 47 1, oS 15 6 48, oM 7 49])
  .ret)
  (.exit 0)))))
  (.seq (.ops [oM 50 0, ⟨some 51, none, .load true 22 (.t 8)⟩, ⟨some 52, none, .callM 37 [(.t 50), (.t 51)]⟩])
  (.exit 0)))))
  (.seq (.ops [⟨some 53, none, .callF false 34 []⟩, oE 54 53 0, oE 55 53 1, oS 15 6 54, oM 7 55])
  .ret)))))⟩
/- vizard/option.One -/
def I14 : Fn_ := ⟨2, 9, [(4, some (true, 2))],
  (.seq (.ops [⟨some 4, none, .alloc true z_4 49⟩])
  (.seq (.ops [oM 5 0, oM 6 1, ⟨some 7, none, .buildR 1 5 [(.t 6)]⟩, ⟨some 8, none, .build z_4 [(0, 1, (.t 5)), (1, 1, (.t 7))]⟩, oS 2 4 8])
  .ret))⟩
/- vizard/option.Ip -/
def I15 : Fn_ := ⟨2, 17, [(4, some (true, 2))],
  (.seq (.ops [⟨some 4, none, .alloc true z_4 49⟩])
  (.seq (.ops [oM 8 1, ⟨some 9, none, .conv .u64 (.t 8)⟩, ⟨some 10, none, .buildR 1 30 [(.t 9)]⟩, ⟨some 11, none, .callF false 38 [(.c (.int .i64 4)), (.t 10)]⟩, oM 7 11, oE 12 7 0, oE 13 7 1, oM 5 12, oM 6 13])
  (.seq (.ops [oM 14 0, oM 15 5, ⟨some 16, none, .build z_4 [(0, 1, (.t 14)), (1, 1, (.t 15))]⟩, oS 2 4 16])
  .ret)))⟩
/- (*vizard/lease.Book).Of -/
def I16 : Fn_ := ⟨3, 29, [(6, some (true, 3)), (7, none)],
  (.seq (.ops [⟨some 6, none, .alloc true z_0 53⟩, ⟨some 7, none, .mov (.c (.bool false))⟩])
  (.seq (.ops [oM 11 0, ⟨some 12, none, .nilChk (.t 11)⟩, oF 13 3 12, oL 14 13, oM 15 1, ⟨some 16, none, .look true .str ⟨true, [.i .u32 0, .b false, .i .u64 0]⟩ (.t 14) (.t 15)⟩, oM 10 16, oE 17 10 0, oE 18 10 1, ⟨some 8, none, .alloc true z_0 53⟩, oS 3 8 17, oM 9 18])
  (.seq (.seq (.ops [oM 19 9, ⟨some 20, none, .un .not (.t 19)⟩, oM 21 20, ⟨some 22, (some (21, false)), .load true 3 (.t 8)⟩, gM 23 21 false 2, ⟨some 24, (some (21, false)), .callF true 40 [(.t 23)]⟩, ⟨some 25, (some (21, false)), .callF true 39 [(.t 22), (.t 24)]⟩, oT 26 21 25])
  (.cond (.t 26)
  (.seq (.ops [⟨some 27, none, .build z_0 []⟩, oS 3 6 27, ⟨some 7, none, .mov (.c (.bool false))⟩])
  .ret)
  .skip))
  (.seq (.ops [⟨some 28, none, .load true 3 (.t 8)⟩, oS 3 6 28, ⟨some 7, none, .mov (.c (.bool true))⟩])
  .ret))))⟩
/- (*vizard/lease.Book).Len -/
def I17 : Fn_ := ⟨1, 8, [(2, none)],
  (.seq (.ops [⟨some 2, none, .mov (.c (.int .i64 0))⟩])
  (.seq (.ops [oM 3 0, ⟨some 4, none, .nilChk (.t 3)⟩, oF 5 3 4, oL 6 5, ⟨some 7, none, .mlen .str (.t 6)⟩, oM 2 7])
  .ret))⟩
/- (vizard/boot.Message).Kind -/
def I18 : Fn_ := ⟨1, 13, [(2, none)],
  (.seq (.ops [⟨some 1, none, .boxR true 15 29 (.t 0)⟩, ⟨some 2, none, .mov (.c (.int .i64 0))⟩])
  (.seq (.ops [oF 6 14 1, oL 7 6, ⟨some 8, none, .callF false 21 [(.t 7), (.c (.int .u8 53)), (.c (.int .i64 1))]⟩, oM 5 8, oE 9 5 0, oE 10 5 1, oM 3 9, oM 4 10])
  (.seq (.ops [oM 11 3, ⟨some 12, none, .conv .i64 (.t 11)⟩, oM 2 12])
  .ret)))⟩
/- (*vizard/lease.Book).Sweep -/
def I19 : Fn_ := ⟨2, 44, [(4, none)],
  (.seq (.ops [⟨some 3, none, .box false 30 (.t 1)⟩, ⟨some 4, none, .mov (.c (.int .i64 0))⟩])
  (.seq (.ops [oL 6 3, ⟨some 7, none, .callF false 40 [(.t 6)]⟩, oS 1 3 7])
  (.seq (.ops [oM 8 0, ⟨some 9, none, .nilChk (.t 8)⟩, oF 10 3 9, oL 11 10, ⟨some 12, none, .mlen .str (.t 11)⟩, oM 13 0, ⟨some 14, none, .nilChk (.t 13)⟩, oF 15 4 14, oL 16 15, ⟨some 17, none, .mlen (.int .u32) (.t 16)⟩, ⟨some 18, none, .bin .add (.t 12) (.t 17)⟩, oM 5 18])
  (.seq (.ops [oM 19 0, ⟨some 20, none, .nilChk (.t 19)⟩, oF 21 3 20, oL 22 21, ⟨some 23, none, .mkFn 42 [(.t 3)]⟩, ⟨some 24, none, .callM 41 [(.t 22), (.t 23)]⟩])
  (.seq (.ops [oM 25 0, ⟨some 26, none, .nilChk (.t 25)⟩, oF 27 4 26, oL 28 27, ⟨some 29, none, .mkFn 44 [(.t 3)]⟩, ⟨some 30, none, .callM 43 [(.t 28), (.t 29)]⟩])
  (.seq (.ops [oM 31 5, oM 32 0, ⟨some 33, none, .nilChk (.t 32)⟩, oF 34 3 33, oL 35 34, ⟨some 36, none, .mlen .str (.t 35)⟩, ⟨some 37, none, .bin .sub (.t 31) (.t 36)⟩, oM 38 0, ⟨some 39, none, .nilChk (.t 38)⟩, oF 40 4 39, oL 41 40, ⟨some 42, none, .mlen (.int .u32) (.t 41)⟩, ⟨some 43, none, .bin .sub (.t 37) (.t 42)⟩, oM 4 43])
  .ret))))))⟩
/- (*vizard/lease.Book).Clone -/
def I20 : Fn_ := ⟨1, 27, [(2, none)],
  (.seq (.ops [⟨some 2, none, .mov (.c .nilp)⟩])
  (.seq (.ops [oM 3 0, ⟨some 4, none, .nilChk (.t 3)⟩, oF 5 0 4, oL 6 5, oM 7 0, ⟨some 8, none, .nilChk (.t 7)⟩, oF 9 1 8, oL 10 9, oM 11 0, ⟨some 12, none, .nilChk (.t 11)⟩, oF 13 2 12, oL 14 13, oM 15 0, ⟨some 16, none, .nilChk (.t 15)⟩, oF 17 3 16, oL 18 17, ⟨some 19, none, .callF true 45 [(.t 18)]⟩, oM 20 0, ⟨some 21, none, .nilChk (.t 20)⟩, oF 22 4 21, oL 23 22, ⟨some 24, none, .callF true 46 [(.t 23)]⟩, ⟨some 25, none, .build z_8 [(0, 1, (.t 6)), (1, 1, (.t 10)), (2, 1, (.t 14)), (3, 1, (.t 19)), (4, 1, (.t 24))]⟩, ⟨some 26, none, .box true 90 (.t 25)⟩, oM 2 26])
  .ret))⟩
/- vizard/option.Number -/
def I21 : Fn_ := ⟨3, 40, [(6, none), (7, none)],
  (.seq (.ops [⟨some 6, none, .mov (.c (.int .u32 0))⟩, ⟨some 7, none, .mov (.c (.bool false))⟩])
  (.seq (.ops [oM 13 0, oM 14 1, ⟨some 15, none, .callF false 30 [(.t 13), (.t 14)]⟩, oM 12 15, oE 16 12 0, oE 17 12 1, oM 8 16, oM 9 17])
  (.seq (.seq (.ops [oM 18 9, ⟨some 19, none, .un .not (.t 18)⟩, oM 20 19, gM 21 20 false 2, ⟨some 22, (some (20, false)), .bin .gtr (.t 21) (.c (.int .i64 4))⟩, oT 23 20 22, oM 24 23, gM 25 24 false 8, ⟨some 26, (some (24, false)), .len (.t 25)⟩, gM 27 24 false 2, ⟨some 28, (some (24, false)), .bin .neq (.t 26) (.t 27)⟩, oT 29 24 28])
  (.cond (.t 29)
  (.seq (.ops [⟨some 6, none, .mov (.c (.int .u32 0))⟩, ⟨some 7, none, .mov (.c (.bool false))⟩])
  .ret)
  .skip))
  (.seq (.ops [oM 31 8, oM 32 2, ⟨some 33, none, .callF false 47 [(.t 31), (.c (.int .i64 0)), (.t 32)]⟩, oM 30 33, oE 34 30 0, oE 35 30 1, oM 10 34, oM 11 35])
  (.seq (.ops [oM 36 10, ⟨some 37, none, .conv .u32 (.t 36)⟩, oM 38 11, ⟨some 39, none, .bin .eql (.t 38) (.c (.int .i64 0))⟩, oM 6 37, oM 7 39])
  .ret)))))⟩
/- vizard/boot.Same -/
def I23 : Fn_ := ⟨2, 17, [(4, none)],
  (.seq (.ops [⟨some 2, none, .boxR true 15 29 (.t 0)⟩, ⟨some 3, none, .boxR true 15 29 (.t 1)⟩, ⟨some 4, none, .mov (.c (.bool false))⟩])
  (.seq (.ops [⟨some 5, none, .load true 15 (.t 2)⟩, ⟨some 6, none, .callF true 48 [(.t 5)]⟩, ⟨some 7, none, .load true 15 (.t 3)⟩, ⟨some 8, none, .callF true 48 [(.t 7)]⟩, ⟨some 9, none, .eqS false [1, 1, 1, 0, 1, 1, 1, 1, 1, 1, 1, 1, 1, 1] (.t 6) (.t 8)⟩, oM 10 9, gF 11 10 true 14 2, gL 12 10 true 11, gF 13 10 true 14 3, gL 14 10 true 13, ⟨some 15, (some (10, true)), .callF true 49 [(.t 12), (.t 14)]⟩, oN 16 10 15, oM 4 16])
  .ret))⟩
/- vizard/vizardlaw26.ask -/
def I24 : Fn_ := ⟨3, 15, [(6, some (true, 15))],
  (.seq (.ops [⟨some 6, none, .alloc true z_1 29⟩])
  (.seq (.ops [oM 7 1, ⟨some 8, none, .build z_5 [(0, 1, (.c (.int .u8 2))), (1, 1, (.t 7))]⟩, oM 9 0, ⟨some 10, none, .callF false 14 [(.c (.int .u8 53)), (.t 9)]⟩, ⟨some 11, none, .buildSl 2 49 [(.t 10)]⟩, oM 12 2, ⟨some 13, none, .append 2 32 49 (.t 11) (.t 12)⟩, ⟨some 14, none, .build z_1 [(0, 1, (.c (.int .u8 1))), (8, 6, (.t 8)), (14, 1, (.t 13))]⟩, oS 15 6 14])
  .ret))⟩
/- vizard/dhcp.Where -/
def I25 : Fn_ := ⟨1, 30, [(2, none), (3, some (true, 6))],
  (.seq (.ops [⟨some 1, none, .box true 29 (.t 0)⟩, ⟨some 2, none, .mov (.c (.int .u32 0))⟩, ⟨some 3, none, .alloc true z_5 26⟩])
  (.seq (.block 0 (some [1, 3]) (.seq (.ops [⟨some 5, none, .load true 15 (.t 1)⟩, ⟨some 6, none, .callF false 18 [(.t 5)]⟩, ⟨some 7, none, .bin .eql (.t 6) (.c (.int .i64 6))⟩, oM 8 7, gF 9 8 false 3 1, gL 10 8 false 9, gM 11 8 false 10, gF 12 11 true 4 1, gL 13 11 true 12, ⟨some 14, (some (11, true)), .bin .eql (.t 13) (.c (.int .u32 0))⟩, ⟨some 15, (some (8, false)), .pick (.t 11) (.t 14) (.c (.bool false))⟩, oT 16 8 15, oM 4 16])
  (.cond (.t 4)
  (.seq (.ops [⟨some 17, none, .callF false 27 []⟩, ⟨some 2, none, .mov (.c (.int .u32 4294967295))⟩, oS 6 3 17])
  .ret)
  (.seq (.ops [oF 19 4 1, oL 20 19, ⟨some 21, none, .bin .neq (.t 20) (.c (.int .u32 0))⟩, oM 18 21])
  (.cond (.t 18)
  (.seq (.ops [oF 22 4 1, oL 23 22, ⟨some 24, none, .faddr true 8 6 (.t 1)⟩, ⟨some 25, none, .load true 6 (.t 24)⟩, oM 2 23, oS 6 3 25])
  .ret)
  .skip)))))
  (.seq (.ops [oF 26 5 1, oL 27 26, ⟨some 28, none, .faddr true 8 6 (.t 1)⟩, ⟨some 29, none, .load true 6 (.t 28)⟩, oM 2 27, oS 6 3 29])
  .ret)))⟩
/- (*vizard/dhcp.Server).Clone -/
def I26 : Fn_ := ⟨1, 14, [(2, none)],
  (.seq (.ops [⟨some 2, none, .mov (.c .nilp)⟩])
  (.seq (.ops [oM 3 0, ⟨some 4, none, .nilChk (.t 3)⟩, ⟨some 5, none, .faddr true 0 7 (.t 4)⟩, ⟨some 6, none, .load true 7 (.t 5)⟩, oM 7 0, ⟨some 8, none, .nilChk (.t 7)⟩, oF 9 7 8, oL 10 9, ⟨some 11, none, .callA 20 (.t 10)⟩, ⟨some 12, none, .build z_6 [(0, 7, (.t 6)), (7, 1, (.t 11))]⟩, ⟨some 13, none, .box true 77 (.t 12)⟩, oM 2 13])
  .ret))⟩
/- vizard/place.All -/
def B27_0 : C := (.seq (.ops [⟨some 4, none, .bin .lss (.t 3) (.c (.int .i64 6))⟩])
  (.seq (.cond (.t 4)
  .skip
  (.exit 0))
  (.seq (.block 1 (some [0, 1, 3]) (.seq (.ops [oM 5 3, oM 2 5])
  (.ops [oM 6 2, ⟨some 7, none, .iaddrA 6 1 false (.t 1) (.t 6)⟩, ⟨none, none, .store 1 (.t 7) (.c (.int .u8 255))⟩])))
  (.ops [⟨some 8, none, .bin .add (.t 3) (.c (.int .i64 1))⟩, oM 3 8]))))
def L27_0 : C := .loop (some [0, 1, 3]) B27_0
theorem L27_0_eq {E : Env} (x : St) : ev E L27_0 x = andThen (ev E B27_0 (restr (some [0, 1, 3]) x)) (ev E L27_0) := ev_loop _ _ x
theorem L27_0_lp {E : Env} (s : Slots) (h : Heap) : ev E L27_0 ⟨s, h⟩ = lp E L27_0 (pickS s [0, 1, 3]) h := lp_of L27_0_eq s h
theorem L27_0_go {E : Env} (s : Slots) (h : Heap) : lp E L27_0 s h = andThen (ev E B27_0 ⟨pickS s [0, 1, 3], h⟩) (ev E L27_0) := lp_go L27_0_eq s h
noncomputable def T27_0 (E : Env) (o : Out) : Option (AV × Heap) := outR [(0, some (true, 6))] (andThen (endBlock 0 (some [0, 1, 3]) (o)) (ev E (.seq (.ops [⟨some 9, none, .load true 6 (.t 1)⟩, oS 6 0 9])
  .ret)))
def I27 : Fn_ := ⟨0, 10, [(0, some (true, 6))],
  (.seq (.ops [⟨some 0, none, .alloc true z_5 26⟩])
  (.seq (.ops [⟨some 1, none, .alloc true z_5 26⟩])
  (.seq (.seq (.ops [⟨some 3, none, .mov (.c (.int .i64 0))⟩])
  (.block 0 (some [0, 1, 3]) L27_0))
  (.seq (.ops [⟨some 9, none, .load true 6 (.t 1)⟩, oS 6 0 9])
  .ret))))⟩
/- (*vizard/lease.Book).Rests -/
def I28 : Fn_ := ⟨1, 9, [(2, none)],
  (.seq (.ops [⟨some 2, none, .mov (.c (.rs false 1 []))⟩])
  (.seq (.ops [oM 3 0, ⟨some 4, none, .nilChk (.t 3)⟩, oF 5 4 4, oL 6 5, ⟨some 7, none, .callF false 51 [(.t 6)]⟩, ⟨some 8, none, .callF false 50 [(.t 7)]⟩, oM 2 8])
  .ret))⟩
/- (*vizard/dhcp.Server).Conf -/
def I29 : Fn_ := ⟨1, 7, [(2, some (true, 7))],
  (.seq (.ops [⟨some 2, none, .alloc true z_3 36⟩])
  (.seq (.ops [oM 3 0, ⟨some 4, none, .nilChk (.t 3)⟩, ⟨some 5, none, .faddr true 0 7 (.t 4)⟩, ⟨some 6, none, .load true 7 (.t 5)⟩, oS 7 2 6])
  .ret))⟩
/- vizard/option.Find -/
def I30 : Fn_ := ⟨2, 18, [(4, none), (5, none)],
  (.seq (.ops [⟨some 3, none, .box false 5 (.t 1)⟩, ⟨some 4, none, .mov (.c (.rs false 1 []))⟩, ⟨some 5, none, .mov (.c (.bool false))⟩])
  (.seq (.ops [oM 7 0, ⟨some 8, none, .mkFn 53 [(.t 3)]⟩, ⟨some 9, none, .callF false 52 [(.t 7), (.t 8)]⟩, oM 6 9])
  (.seq (.seq (.ops [oM 10 6, ⟨some 11, none, .bin .lss (.t 10) (.c (.int .i64 0))⟩])
  (.cond (.t 11)
  (.seq (.ops [⟨some 4, none, .mov (.c (.rs false 1 []))⟩, ⟨some 5, none, .mov (.c (.bool false))⟩])
  .ret)
  .skip))
  (.seq (.ops [oM 12 0, oM 13 6, ⟨some 14, none, .iaddr 2 (.t 12) (.t 13)⟩, oF 15 1 14, oL 16 15, ⟨some 17, none, .callF false 54 [(.t 16)]⟩, oM 4 17, ⟨some 5, none, .mov (.c (.bool true))⟩])
  .ret))))⟩
/- (vizard/dhcp.Conf).Right -/
def I31 : Fn_ := ⟨1, 42, [(2, none)],
  (.seq (.ops [⟨some 1, none, .box true 36 (.t 0)⟩, ⟨some 2, none, .mov (.c (.bool false))⟩])
  (.seq (.ops [oF 7 2 1, oL 8 7, oF 9 3 1, oL 10 9, ⟨some 11, none, .callM 32 [(.t 8), (.t 10), (.c .nils)]⟩, oM 6 11, oE 12 6 0, oE 13 6 1, oM 3 12, oM 4 13])
  (.seq (.ops [oF 14 4 1, oL 15 14, oF 16 5 1, oL 17 16, oF 18 6 1, oL 19 18, ⟨some 20, none, .mm false [(.t 15), (.t 17), (.t 19)]⟩, ⟨some 21, none, .bin .geq (.t 20) (.c (.int .u32 1))⟩, oM 22 21, gF 23 22 true 4 1, gL 24 22 true 23, gF 25 22 true 5 1, gL 26 22 true 25, gF 27 22 true 6 1, gL 28 22 true 27, ⟨some 29, (some (22, true)), .mm true [(.t 24), (.t 26), (.t 28)]⟩, ⟨some 30, (some (22, true)), .bin .leq (.t 29) (.c (.int .u32 2147483648))⟩, oN 31 22 30, oM 5 31])
  (.seq (.ops [oM 32 5, oM 33 32, gM 34 33 true 4, ⟨some 35, (some (33, true)), .bin .eql (.t 34) (.c (.int .i64 0))⟩, oN 36 33 35, oM 37 36, gF 38 37 true 0 1, gL 39 37 true 38, ⟨some 40, (some (37, true)), .callF false 55 [(.t 39)]⟩, oN 41 37 40, oM 2 41])
  .ret))))⟩
/- vizard/lease.New -/
def B32_0 : C := (.seq (.ops [⟨some 30, none, .bin .lss (.t 29) (.t 28)⟩])
  (.seq (.cond (.t 30)
  .skip
  (.exit 0))
  (.seq (.block 1 (some [8, 27, 28, 29]) (.seq (.ops [⟨some 31, none, .iaddr 1 (.t 27) (.t 29)⟩, oL 32 31, oM 10 32])
  (.ops [oM 33 8, ⟨some 34, none, .nilChk (.t 33)⟩, oF 35 2 34, oL 36 35, oM 37 10, ⟨none, none, .mapUpd (.int .u32) (.t 36) (.t 37) (.c (.bool true))⟩])))
  (.ops [⟨some 38, none, .bin .add (.t 29) (.c (.int .i64 1))⟩, oM 29 38]))))
def L32_0 : C := .loop (some [8, 27, 28, 29]) B32_0
theorem L32_0_eq {E : Env} (x : St) : ev E L32_0 x = andThen (ev E B32_0 (restr (some [8, 27, 28, 29]) x)) (ev E L32_0) := ev_loop _ _ x
theorem L32_0_lp {E : Env} (s : Slots) (h : Heap) : ev E L32_0 ⟨s, h⟩ = lp E L32_0 (pickS s [8, 27, 28, 29]) h := lp_of L32_0_eq s h
theorem L32_0_go {E : Env} (s : Slots) (h : Heap) : lp E L32_0 s h = andThen (ev E B32_0 ⟨pickS s [8, 27, 28, 29], h⟩) (ev E L32_0) := lp_go L32_0_eq s h
noncomputable def T32_0 (E : Env) (o : Out) : Option (AV × Heap) := outR [(6, none), (7, none)] (andThen (endBlock 0 (some [8, 27, 28, 29]) (o)) (ev E (.seq (.ops [oM 39 8, oM 6 39, ⟨some 7, none, .mov (.c (.int .i64 0))⟩])
  .ret)))
def I32 : Fn_ := ⟨3, 40, [(6, none), (7, none)],
  (.seq (.ops [⟨some 6, none, .mov (.c .nilp)⟩, ⟨some 7, none, .mov (.c (.int .i64 0))⟩])
  (.seq (.seq (.ops [oM 11 1, oM 12 0, ⟨some 13, none, .bin .lss (.t 11) (.t 12)⟩, oM 14 13, gM 15 14 false 1, gM 16 14 false 0, ⟨some 17, (some (14, false)), .bin .sub (.t 15) (.t 16)⟩, ⟨some 18, (some (14, false)), .bin .geq (.t 17) (.c (.int .u32 256))⟩, oT 19 14 18])
  (.cond (.t 19)
  (.seq (.ops [⟨some 6, none, .mov (.c .nilp)⟩, ⟨some 7, none, .mov (.c (.int .i64 11))⟩])
  .ret)
  .skip))
  (.seq (.ops [oM 20 0, oM 21 1, ⟨some 22, none, .mkMap (.int .u32)⟩, ⟨some 23, none, .mkMap .str⟩, ⟨some 24, none, .mkMap (.int .u32)⟩, ⟨some 25, none, .build z_8 [(0, 1, (.t 20)), (1, 1, (.t 21)), (2, 1, (.t 22)), (3, 1, (.t 23)), (4, 1, (.t 24))]⟩, ⟨some 26, none, .box true 90 (.t 25)⟩, oM 8 26])
  (.seq (.seq (.ops [oM 27 2, ⟨some 28, none, .len (.t 27)⟩, ⟨some 29, none, .mov (.c (.int .i64 0))⟩])
  (.block 0 (some [8, 27, 28, 29]) L32_0))
  (.seq (.ops [oM 39 8, oM 6 39, ⟨some 7, none, .mov (.c (.int .i64 0))⟩])
  .ret)))))⟩
/- (*vizard/dhcp.Server).read -/
def I33 : Fn_ := ⟨3, 44, [(6, some (true, 22))],
  (.seq (.ops [⟨some 4, none, .box true 29 (.t 1)⟩, ⟨some 6, none, .alloc true z_7 79⟩])
  (.seq (.ops [⟨some 8, none, .load true 15 (.t 4)⟩, ⟨some 9, none, .load true 15 (.t 4)⟩, ⟨some 10, none, .callF true 10 [(.t 9)]⟩, oM 11 2, ⟨some 12, none, .mm false [(.t 11), (.c (.int .u64 2305843009213693952))]⟩, ⟨some 13, none, .build z_7 [(0, 15, (.t 8)), (15, 1, (.t 10)), (21, 1, (.t 12))]⟩, ⟨some 7, none, .alloc true z_7 79⟩, oS 22 7 13])
  (.seq (.ops [oF 15 14 4, oL 16 15, ⟨some 17, none, .callF false 21 [(.t 16), (.c (.int .u8 50)), (.c (.int .i64 4))]⟩, oM 14 17, oE 18 14 0, oE 19 14 1, oF 20 16 7, oS 1 20 18, oF 21 18 7, oS 1 21 19])
  (.seq (.ops [oF 23 14 4, oL 24 23, ⟨some 25, none, .callF false 21 [(.t 24), (.c (.int .u8 54)), (.c (.int .i64 4))]⟩, oM 22 25, oE 26 22 0, oE 27 22 1, oF 28 17 7, oS 1 28 26, oF 29 19 7, oS 1 29 27])
  (.seq (.ops [oF 30 19 7, oL 31 30, oM 32 31, gF 33 32 true 17 7, gL 34 32 true 33, gM 35 32 true 0, ⟨some 36, (some (32, true)), .nilChk (.t 35)⟩, ⟨some 37, (some (32, true)), .faddr true 0 7 (.t 36)⟩, gF 38 32 true 0 37, gL 39 32 true 38, ⟨some 40, (some (32, true)), .bin .eql (.t 34) (.t 39)⟩, oN 41 32 40, oF 42 20 7, oS 1 42 41])
  (.seq (.ops [⟨some 43, none, .load true 22 (.t 7)⟩, oS 22 6 43])
  .ret))))))⟩
/- vizard/dhcp.nothing -/
def I34 : Fn_ := ⟨0, 3, [(0, some (true, 15)), (1, none)],
  (.seq (.ops [⟨some 0, none, .alloc true z_1 29⟩, ⟨some 1, none, .mov (.c (.bool false))⟩])
  (.seq (.ops [⟨some 2, none, .build z_1 []⟩, oS 15 0 2, ⟨some 1, none, .mov (.c (.bool false))⟩])
  .ret))⟩
/- (*vizard/dhcp.Server).discover -/
def I35 : Fn_ := ⟨2, 40, [(4, some (true, 15)), (5, none)],
  (.seq (.ops [⟨some 3, none, .box true 79 (.t 1)⟩, ⟨some 4, none, .alloc true z_1 29⟩, ⟨some 5, none, .mov (.c (.bool false))⟩])
  (.seq (.ops [oM 9 0, ⟨some 10, none, .nilChk (.t 9)⟩, oF 11 7 10, oL 12 11, oF 13 15 3, oL 14 13, oF 15 16 3, oL 16 15, oF 17 21 3, oL 18 17, ⟨some 19, none, .load true 22 (.t 3)⟩, oM 20 0, ⟨some 21, none, .nilChk (.t 20)⟩, ⟨some 22, none, .faddr true 0 7 (.t 21)⟩, oF 23 5 22, oL 24 23, ⟨some 25, none, .callF true 57 [(.t 19), (.t 24)]⟩, ⟨some 26, none, .callM 56 [(.t 12), (.t 14), (.t 16), (.t 18), (.t 25)]⟩, oM 8 26, oE 27 8 0, oE 28 8 1, oM 6 27, oM 7 28])
  (.seq (.seq (.ops [oM 29 7, ⟨some 30, none, .bin .neq (.t 29) (.c (.int .i64 0))⟩])
  (.cond (.t 30)
  (.seq (.ops [⟨some 31, none, .callF false 34 []⟩, oE 32 31 0, oE 33 31 1, oS 15 4 32, oM 5 33])
  .ret)
  .skip))
  (.seq (.ops [oM 34 0, ⟨some 35, none, .load true 22 (.t 3)⟩, oM 36 6, ⟨some 37, none, .callF false 58 [(.t 34), (.t 35), (.c (.int .i64 2)), (.t 36)]⟩, oE 38 37 0, oE 39 37 1, oS 15 4 38, oM 5 39])
  .ret))))⟩
/- (*vizard/dhcp.Server).want -/
def I36 : Fn_ := ⟨2, 79, [(4, some (true, 15)), (5, none)],
  (.seq (.ops [⟨some 3, none, .box true 79 (.t 1)⟩, ⟨some 4, none, .alloc true z_1 29⟩, ⟨some 5, none, .mov (.c (.bool false))⟩])
  (.seq (.ops [oM 9 0, ⟨some 10, none, .load true 22 (.t 3)⟩, ⟨some 11, none, .callF false 59 [(.t 9), (.t 10)]⟩, oM 8 11, oE 12 8 0, oE 13 8 1, oM 6 12, oM 7 13])
  (.seq (.block 0 (some [0, 3, 4, 7]) (.seq (.ops [oF 15 19 3, oL 16 15, oM 17 16, gF 18 17 true 20 3, gL 19 17 true 18, ⟨some 20, (some (17, true)), .un .not (.t 19)⟩, oN 21 17 20, oM 14 21])
  (.cond (.t 14)
  (.seq (.ops [oM 22 0, ⟨some 23, none, .nilChk (.t 22)⟩, oF 24 7 23, oL 25 24, oF 26 15 3, oL 27 26, ⟨some 28, none, .callM 60 [(.t 25), (.t 27), (.c (.bool false))]⟩])
  (.seq (.ops [⟨some 29, none, .callF false 34 []⟩, oE 30 29 0, oE 31 29 1, oS 15 4 30, oM 5 31])
  .ret))
  (.seq (.ops [oF 33 20 3, oL 34 33, oM 35 34, gF 36 35 true 18 3, gL 37 35 true 36, ⟨some 38, (some (35, true)), .un .not (.t 37)⟩, oN 39 35 38, oM 32 39])
  (.cond (.t 32)
  (.seq (.ops [oM 40 0, ⟨some 41, none, .load true 22 (.t 3)⟩, ⟨some 42, none, .callF false 58 [(.t 40), (.t 41), (.c (.int .i64 6)), (.c (.int .u32 0))]⟩, oE 43 42 0, oE 44 42 1, oS 15 4 43, oM 5 44])
  .ret)
  (.seq (.ops [oF 46 20 3, oL 47 46, oM 45 47])
  (.cond (.t 45)
  (.seq (.ops [oM 48 0, ⟨some 49, none, .load true 22 (.t 3)⟩, oF 50 16 3, oL 51 50, ⟨some 52, none, .callM 61 [(.t 48), (.t 49), (.t 51)]⟩, oE 53 52 0, oE 54 52 1, oS 15 4 53, oM 5 54])
  .ret)
  (.seq (.ops [oM 56 7, ⟨some 57, none, .un .not (.t 56)⟩, oM 55 57])
  (.cond (.t 55)
  (.seq (.ops [⟨some 58, none, .callF false 34 []⟩, oE 59 58 0, oE 60 58 1, oS 15 4 59, oM 5 60])
  .ret)
  (.seq (.ops [oF 62 18 3, oL 63 62, oM 61 63])
  (.cond (.t 61)
  (.seq (.ops [oM 64 0, ⟨some 65, none, .load true 22 (.t 3)⟩, oF 66 16 3, oL 67 66, ⟨some 68, none, .callM 61 [(.t 64), (.t 65), (.t 67)]⟩, oE 69 68 0, oE 70 68 1, oS 15 4 69, oM 5 70])
  .ret)
  .skip)))))))))))
  (.seq (.ops [oM 71 0, ⟨some 72, none, .load true 22 (.t 3)⟩, ⟨some 73, none, .faddr true 0 15 (.t 3)⟩, oF 74 4 73, oL 75 74, ⟨some 76, none, .callM 61 [(.t 71), (.t 72), (.t 75)]⟩, oE 77 76 0, oE 78 76 1, oS 15 4 77, oM 5 78])
  .ret))))⟩
/- (*vizard/dhcp.Server).leave -/
def I37 : Fn_ := ⟨2, 65, [],
  (.seq (.ops [⟨some 3, none, .box true 79 (.t 1)⟩])
  (.seq (.ops [oM 7 0, ⟨some 8, none, .load true 22 (.t 3)⟩, ⟨some 9, none, .callF false 59 [(.t 7), (.t 8)]⟩, oM 6 9, oE 10 6 0, oE 11 6 1, oM 4 10, oM 5 11])
  (.block 0 (some [0, 3, 4, 5]) (.seq (.ops [oF 13 20 3, oL 14 13, ⟨some 15, none, .un .not (.t 14)⟩, oM 12 15])
  (.cond (.t 12)
  .ret
  (.seq (.ops [⟨some 17, none, .faddr true 0 15 (.t 3)⟩, ⟨some 18, none, .load true 15 (.t 17)⟩, ⟨some 19, none, .callF false 18 [(.t 18)]⟩, ⟨some 20, none, .bin .eql (.t 19) (.c (.int .i64 4))⟩, oM 21 20, gF 22 21 true 18 3, gL 23 21 true 22, oN 24 21 23, oM 16 24])
  (.cond (.t 16)
  (.ops [oM 25 0, ⟨some 26, none, .nilChk (.t 25)⟩, oF 27 7 26, oL 28 27, oF 29 15 3, oL 30 29, oF 31 16 3, oL 32 31, oF 33 21 3, oL 34 33, ⟨some 35, none, .load true 22 (.t 3)⟩, oM 36 0, ⟨some 37, none, .nilChk (.t 36)⟩, ⟨some 38, none, .faddr true 0 7 (.t 37)⟩, oF 39 6 38, oL 40 39, ⟨some 41, none, .callF true 57 [(.t 35), (.t 40)]⟩, ⟨some 42, none, .callM 62 [(.t 28), (.t 30), (.t 32), (.t 34), (.t 41)]⟩])
  (.seq (.ops [⟨some 44, none, .faddr true 0 15 (.t 3)⟩, ⟨some 45, none, .load true 15 (.t 44)⟩, ⟨some 46, none, .callF false 18 [(.t 45)]⟩, ⟨some 47, none, .bin .eql (.t 46) (.c (.int .i64 7))⟩, oM 48 47, gM 49 48 true 5, oN 50 48 49, oM 51 50, gM 52 51 true 4, ⟨some 53, (some (51, true)), .faddr true 0 15 (.t 3)⟩, gF 54 51 true 4 53, gL 55 51 true 54, ⟨some 56, (some (51, true)), .bin .eql (.t 52) (.t 55)⟩, oN 57 51 56, oM 43 57])
  (.cond (.t 43)
  (.ops [oM 58 0, ⟨some 59, none, .nilChk (.t 58)⟩, oF 60 7 59, oL 61 60, oF 62 15 3, oL 63 62, ⟨some 64, none, .callM 60 [(.t 61), (.t 63), (.c (.bool true))]⟩])
  .skip)))))))))⟩
/- vizard/word.Row -/
def B38_0 : C := (.seq (.ops [⟨some 17, none, .bin .lss (.t 16) (.t 15)⟩])
  (.seq (.cond (.t 17)
  .skip
  (.exit 0))
  (.seq (.block 1 (some [0, 6, 14, 15, 16]) (.seq (.ops [⟨some 18, none, .iaddr 1 (.t 14) (.t 16)⟩, oL 19 18, oM 8 19])
  (.seq (.ops [oM 21 8, oM 22 0, ⟨some 23, none, .callF false 64 [(.t 21), (.t 22)]⟩, oM 20 23, oE 24 20 0, oE 25 20 1, oM 9 24, oM 10 25])
  (.seq (.seq (.ops [oM 26 10, ⟨some 27, none, .bin .neq (.t 26) (.c (.int .i64 0))⟩])
  (.cond (.t 27)
  (.seq (.ops [oM 28 10, ⟨some 4, none, .mov (.c (.rs false 1 []))⟩, oM 5 28])
  .ret)
  .skip))
  (.ops [oM 29 6, oM 30 9, ⟨some 31, none, .append 1 1 5 (.t 29) (.t 30)⟩, oM 6 31])))))
  (.ops [⟨some 32, none, .bin .add (.t 16) (.c (.int .i64 1))⟩, oM 16 32]))))
def L38_0 : C := .loop (some [0, 6, 14, 15, 16]) B38_0
theorem L38_0_eq {E : Env} (x : St) : ev E L38_0 x = andThen (ev E B38_0 (restr (some [0, 6, 14, 15, 16]) x)) (ev E L38_0) := ev_loop _ _ x
theorem L38_0_lp {E : Env} (s : Slots) (h : Heap) : ev E L38_0 ⟨s, h⟩ = lp E L38_0 (pickS s [0, 6, 14, 15, 16]) h := lp_of L38_0_eq s h
theorem L38_0_go {E : Env} (s : Slots) (h : Heap) : lp E L38_0 s h = andThen (ev E B38_0 ⟨pickS s [0, 6, 14, 15, 16], h⟩) (ev E L38_0) := lp_go L38_0_eq s h
noncomputable def T38_0 (E : Env) (o : Out) : Option (AV × Heap) := outR [(4, none), (5, none)] (andThen (endBlock 0 (some [0, 6, 14, 15, 16]) (o)) (ev E (.seq (.ops [oM 33 6, oM 4 33, ⟨some 5, none, .mov (.c (.int .i64 0))⟩])
  .ret)))
def I38 : Fn_ := ⟨2, 34, [(4, none), (5, none)],
  (.seq (.ops [⟨some 4, none, .mov (.c (.rs false 1 []))⟩, ⟨some 5, none, .mov (.c (.int .i64 0))⟩])
  (.seq (.seq (.ops [oM 11 0, ⟨some 12, none, .callF false 63 [(.t 11)]⟩, ⟨some 13, none, .un .not (.t 12)⟩])
  (.cond (.t 13)
  (.seq (.ops [⟨some 4, none, .mov (.c (.rs false 1 []))⟩, ⟨some 5, none, .mov (.c (.int .i64 11))⟩])
  .ret)
  .skip))
  (.seq (.ops [⟨some 6, none, .nilrow 1 5⟩])
  (.seq (.seq (.ops [oM 14 1, ⟨some 15, none, .len (.t 14)⟩, ⟨some 16, none, .mov (.c (.int .i64 0))⟩])
  (.block 0 (some [0, 6, 14, 15, 16]) L38_0))
  (.seq (.ops [oM 33 6, oM 4 33, ⟨some 5, none, .mov (.c (.int .i64 0))⟩])
  .ret)))))⟩
/- (vizard/lease.Loan).over -/
def I39 : Fn_ := ⟨2, 9, [(4, none)],
  (.seq (.ops [⟨some 2, none, .box true 53 (.t 0)⟩, ⟨some 4, none, .mov (.c (.bool false))⟩])
  (.seq (.ops [oF 5 2 2, oL 6 5, oM 7 1, ⟨some 8, none, .bin .leq (.t 6) (.t 7)⟩, oM 4 8])
  .ret))⟩
/- vizard/lease.bound -/
def I40 : Fn_ := ⟨1, 5, [(2, none)],
  (.seq (.ops [⟨some 2, none, .mov (.c (.int .u64 0))⟩])
  (.seq (.ops [oM 3 0, ⟨some 4, none, .mm false [(.t 3), (.c (.int .u64 2305843009213693952))]⟩, oM 2 4])
  .ret))⟩
/- (*vizard/lease.Book).Sweep$1 -/
def I42 : Fn_ := ⟨3, 9, [(5, none)],
  (.seq (.ops [⟨some 4, none, .box true 53 (.t 1)⟩, ⟨some 5, none, .mov (.c (.bool false))⟩])
  (.seq (.ops [⟨some 6, none, .load true 3 (.t 4)⟩, oL 7 2, ⟨some 8, none, .callF false 39 [(.t 6), (.t 7)]⟩, oM 5 8])
  .ret))⟩
/- (*vizard/lease.Book).Sweep$2 -/
def I44 : Fn_ := ⟨3, 9, [(5, none)],
  (.seq (.ops [⟨some 5, none, .mov (.c (.bool false))⟩])
  (.seq (.ops [oM 6 1, oL 7 2, ⟨some 8, none, .bin .leq (.t 6) (.t 7)⟩, oM 5 8])
  .ret))⟩
/- vizard/word.At -/
def B47_0 : C := (.seq (.ops [⟨some 31, none, .bin .lss (.t 30) (.t 29)⟩])
  (.seq (.cond (.t 31)
  .skip
  (.exit 0))
  (.seq (.block 1 (some [9, 28, 29, 30]) (.seq (.ops [⟨some 32, none, .iaddr 1 (.t 28) (.t 30)⟩, oL 33 32, oM 11 33])
  (.ops [oM 34 9, ⟨some 35, none, .bin .shl (.t 34) (.c (.int .u64 8))⟩, oM 36 11, ⟨some 37, none, .conv .u64 (.t 36)⟩, ⟨some 38, none, .bin .or (.t 35) (.t 37)⟩, oM 9 38])))
  (.ops [⟨some 39, none, .bin .add (.t 30) (.c (.int .i64 1))⟩, oM 30 39]))))
def L47_0 : C := .loop (some [9, 28, 29, 30]) B47_0
theorem L47_0_eq {E : Env} (x : St) : ev E L47_0 x = andThen (ev E B47_0 (restr (some [9, 28, 29, 30]) x)) (ev E L47_0) := ev_loop _ _ x
theorem L47_0_lp {E : Env} (s : Slots) (h : Heap) : ev E L47_0 ⟨s, h⟩ = lp E L47_0 (pickS s [9, 28, 29, 30]) h := lp_of L47_0_eq s h
theorem L47_0_go {E : Env} (s : Slots) (h : Heap) : lp E L47_0 s h = andThen (ev E B47_0 ⟨pickS s [9, 28, 29, 30], h⟩) (ev E L47_0) := lp_go L47_0_eq s h
noncomputable def T47_0 (E : Env) (o : Out) : Option (AV × Heap) := outR [(6, none), (7, none)] (andThen (endBlock 0 (some [9, 28, 29, 30]) (o)) (ev E (.seq (.ops [oM 40 9, oM 6 40, ⟨some 7, none, .mov (.c (.int .i64 0))⟩])
  .ret)))
def I47 : Fn_ := ⟨3, 41, [(6, none), (7, none)],
  (.seq (.ops [⟨some 6, none, .mov (.c (.int .u64 0))⟩, ⟨some 7, none, .mov (.c (.int .i64 0))⟩])
  (.seq (.seq (.ops [oM 12 2, ⟨some 13, none, .callF false 63 [(.t 12)]⟩, ⟨some 14, none, .un .not (.t 13)⟩])
  (.cond (.t 14)
  (.seq (.ops [⟨some 6, none, .mov (.c (.int .u64 0))⟩, ⟨some 7, none, .mov (.c (.int .i64 11))⟩])
  .ret)
  .skip))
  (.seq (.seq (.ops [oM 15 0, ⟨some 16, none, .len (.t 15)⟩, oM 17 1, oM 18 2, ⟨some 19, none, .callF false 66 [(.t 16), (.t 17), (.t 18)]⟩, oM 8 19])
  (.seq (.ops [oM 20 8, ⟨some 21, none, .bin .neq (.t 20) (.c (.int .i64 0))⟩])
  (.cond (.t 21)
  (.seq (.ops [oM 22 8, ⟨some 6, none, .mov (.c (.int .u64 0))⟩, oM 7 22])
  .ret)
  .skip)))
  (.seq (.ops [⟨some 9, none, .mov (.c (.int .u64 0))⟩])
  (.seq (.seq (.ops [oM 23 0, oM 24 1, oM 25 1, oM 26 2, ⟨some 27, none, .bin .add (.t 25) (.t 26)⟩, ⟨some 28, none, .slice 1 (.t 23) (some (.t 24)) (some (.t 27))⟩, ⟨some 29, none, .len (.t 28)⟩, ⟨some 30, none, .mov (.c (.int .i64 0))⟩])
  (.block 0 (some [9, 28, 29, 30]) L47_0))
  (.seq (.ops [oM 40 9, oM 6 40, ⟨some 7, none, .mov (.c (.int .i64 0))⟩])
  .ret))))))⟩
/- (vizard/boot.Message).head -/
def I48 : Fn_ := ⟨1, 22, [(2, some (true, 14))],
  (.seq (.ops [⟨some 1, none, .boxR true 15 29 (.t 0)⟩, ⟨some 2, none, .alloc true z_9 101⟩])
  (.seq (.ops [oF 3 0 1, oL 4 3, oF 5 1 1, oL 6 5, oF 7 2 1, oL 8 7, oF 9 3 1, oL 10 9, oF 11 4 1, oL 12 11, oF 13 5 1, oL 14 13, oF 15 6 1, oL 16 15, oF 17 7 1, oL 18 17, ⟨some 19, none, .faddr true 8 6 (.t 1)⟩, ⟨some 20, none, .load true 6 (.t 19)⟩, ⟨some 21, none, .build z_9 [(0, 1, (.t 4)), (1, 1, (.t 6)), (2, 1, (.t 8)), (3, 1, (.t 10)), (4, 1, (.t 12)), (5, 1, (.t 14)), (6, 1, (.t 16)), (7, 1, (.t 18)), (8, 6, (.t 20))]⟩, oS 14 2 21])
  .ret))⟩
/- vizard/option.Same -/
def I49 : Fn_ := ⟨2, 8, [(4, none)],
  (.seq (.ops [⟨some 4, none, .mov (.c (.bool false))⟩])
  (.seq (.ops [oM 5 0, oM 6 1, ⟨some 7, none, .callF false 67 [(.t 5), (.t 6), (.c (.fn 68 []))]⟩, oM 4 7])
  .ret))⟩
/- slices.Sorted[uint32] -/
def I50 : Fn_ := ⟨1, 9, [(2, none)],
  (.seq (.ops [⟨some 2, none, .mov (.c (.rs false 1 []))⟩])
  (.seq (.ops [oM 4 0, ⟨some 5, none, .callF false 70 [(.t 4)]⟩, oM 3 5])
  (.seq (.ops [oM 6 3, ⟨some 7, none, .callF false 71 [(.t 6)]⟩])
  (.seq (.ops [oM 8 3, oM 2 8])
  .ret))))⟩
/- maps.Keys[map[uint32]uint64,uint32,uint64] -/
def I51 : Fn_ := ⟨1, 4, [(2, none)],
  (.seq (.ops [⟨some 1, none, .box false 88 (.t 0)⟩, ⟨some 2, none, .mov (.c .nilf)⟩])
  (.seq (.ops [⟨some 3, none, .mkFn 72 [(.t 1)]⟩, oM 2 3])
  .ret))⟩
/- slices.IndexFunc[[]vizard/option.Option,vizard/option.Option] -/
def B52_0 : C := (.seq (.ops [⟨some 9, none, .bin .lss (.t 8) (.t 7)⟩])
  (.seq (.cond (.t 9)
  .skip
  (.exit 0))
  (.seq (.block 1 (some [0, 1, 7, 8]) (.seq (.ops [oM 10 8, oM 5 10])
  (.seq (.ops [oM 11 1, oM 12 0, oM 13 5, ⟨some 14, none, .iaddr 2 (.t 12) (.t 13)⟩, ⟨some 15, none, .load true 2 (.t 14)⟩, ⟨some 16, none, .callV false (.t 11) [(.t 15)]⟩])
  (.cond (.t 16)
  (.seq (.ops [oM 17 5, oM 4 17])
  .ret)
  .skip))))
  (.ops [⟨some 18, none, .bin .add (.t 8) (.c (.int .i64 1))⟩, oM 8 18]))))
def L52_0 : C := .loop (some [0, 1, 7, 8]) B52_0
theorem L52_0_eq {E : Env} (x : St) : ev E L52_0 x = andThen (ev E B52_0 (restr (some [0, 1, 7, 8]) x)) (ev E L52_0) := ev_loop _ _ x
theorem L52_0_lp {E : Env} (s : Slots) (h : Heap) : ev E L52_0 ⟨s, h⟩ = lp E L52_0 (pickS s [0, 1, 7, 8]) h := lp_of L52_0_eq s h
theorem L52_0_go {E : Env} (s : Slots) (h : Heap) : lp E L52_0 s h = andThen (ev E B52_0 ⟨pickS s [0, 1, 7, 8], h⟩) (ev E L52_0) := lp_go L52_0_eq s h
noncomputable def T52_0 (E : Env) (o : Out) : Option (AV × Heap) := outR [(4, none)] (andThen (endBlock 0 (some [0, 1, 7, 8]) (o)) (ev E (.seq (.ops [⟨some 4, none, .mov (.c (.int .i64 (-1)))⟩])
  .ret)))
def I52 : Fn_ := ⟨2, 19, [(4, none)],
  (.seq (.ops [⟨some 4, none, .mov (.c (.int .i64 0))⟩])
  (.seq (.seq (.ops [oM 6 0, ⟨some 7, none, .len (.t 6)⟩, ⟨some 8, none, .mov (.c (.int .i64 0))⟩])
  (.block 0 (some [0, 1, 7, 8]) L52_0))
  (.seq (.ops [⟨some 4, none, .mov (.c (.int .i64 (-1)))⟩])
  .ret)))⟩
/- vizard/option.Find$1 -/
def I53 : Fn_ := ⟨2, 8, [(3, none)],
  (.seq (.ops [⟨some 2, none, .box true 49 (.t 0)⟩, ⟨some 3, none, .mov (.c (.bool false))⟩])
  (.seq (.ops [oF 4 0 2, oL 5 4, oL 6 1, ⟨some 7, none, .bin .eql (.t 5) (.t 6)⟩, oM 3 7])
  .ret))⟩
/- slices.Clone[[]byte,byte] -/
def I54 : Fn_ := ⟨1, 8, [(2, none)],
  (.seq (.ops [⟨some 2, none, .mov (.c (.rs false 1 []))⟩])
  (.seq (.seq (.ops [oM 3 0, ⟨some 4, none, .eqNil false (.t 3)⟩])
  (.cond (.t 4)
  (.seq (.ops [⟨some 2, none, .mov (.c (.rs false 1 []))⟩])
  .ret)
  .skip))
  (.seq (.ops [⟨some 5, none, .buildSl 1 5 []⟩, oM 6 0, ⟨some 7, none, .append 1 1 5 (.t 5) (.t 6)⟩, oM 2 7])
  .ret)))⟩
/- vizard/place.Single -/
def I55 : Fn_ := ⟨1, 16, [(2, none)],
  (.seq (.ops [⟨some 2, none, .mov (.c (.bool false))⟩])
  (.seq (.ops [oM 4 0, ⟨some 5, none, .bin .shr (.t 4) (.c (.int .u64 24))⟩, oM 3 5])
  (.seq (.ops [oM 6 3, ⟨some 7, none, .bin .geq (.t 6) (.c (.int .u32 1))⟩, oM 8 7, gM 9 8 true 3, ⟨some 10, (some (8, true)), .bin .leq (.t 9) (.c (.int .u32 223))⟩, oN 11 8 10, oM 12 11, gM 13 12 true 3, ⟨some 14, (some (12, true)), .bin .neq (.t 13) (.c (.int .u32 127))⟩, oN 15 12 14, oM 2 15])
  .ret)))⟩
/- (*vizard/lease.Book).Offer -/
def I56 : Fn_ := ⟨5, 57, [(10, none), (11, none)],
  (.seq (.ops [⟨some 10, none, .mov (.c (.int .u32 0))⟩, ⟨some 11, none, .mov (.c (.int .i64 0))⟩])
  (.seq (.seq (.ops [oM 16 1, ⟨some 17, none, .bin .eql (.t 16) (.c (.str ⟨#[]⟩))⟩, oM 18 17, gM 19 18 false 1, ⟨some 20, (some (18, false)), .lenS (.t 19)⟩, ⟨some 21, (some (18, false)), .bin .gtr (.t 20) (.c (.int .i64 255))⟩, oT 22 18 21])
  (.cond (.t 22)
  (.seq (.ops [⟨some 10, none, .mov (.c (.int .u32 0))⟩, ⟨some 11, none, .mov (.c (.int .i64 10))⟩])
  .ret)
  .skip))
  (.seq (.ops [oM 24 0, oM 25 1, oM 26 3, ⟨some 27, none, .callF false 16 [(.t 24), (.t 25), (.t 26)]⟩, oM 23 27, oE 28 23 0, oE 29 23 1, ⟨some 12, none, .alloc true z_0 53⟩, oS 3 12 28, oM 13 29])
  (.seq (.seq (.ops [oM 30 13, ⟨some 31, none, .un .not (.t 30)⟩])
  (.cond (.t 31)
  (.seq (.ops [oM 33 0, oM 34 2, oM 35 3, ⟨some 36, none, .callF false 73 [(.t 33), (.t 34), (.t 35)]⟩, oM 32 36, oE 37 32 0, oE 38 32 1, oM 14 37, oM 15 38])
  (.seq (.seq (.ops [oM 39 15, ⟨some 40, none, .un .not (.t 39)⟩])
  (.cond (.t 40)
  (.seq (.ops [⟨some 10, none, .mov (.c (.int .u32 0))⟩, ⟨some 11, none, .mov (.c (.int .i64 18))⟩])
  .ret)
  .skip))
  (.ops [oM 41 14, ⟨some 42, none, .build z_0 [(0, 1, (.t 41))]⟩, oS 3 12 42])))
  .skip))
  (.seq (.seq (.ops [oF 43 1 12, oL 44 43, ⟨some 45, none, .un .not (.t 44)⟩])
  (.cond (.t 45)
  (.seq (.ops [oM 46 4, ⟨some 47, none, .callF false 40 [(.t 46)]⟩, oF 48 2 12, oS 1 48 47])
  (.ops [oM 49 0, ⟨some 50, none, .nilChk (.t 49)⟩, oF 51 3 50, oL 52 51, oM 53 1, ⟨some 54, none, .load true 3 (.t 12)⟩, ⟨none, none, .mapUpd .str (.t 52) (.t 53) (.t 54)⟩]))
  .skip))
  (.seq (.ops [oF 55 0 12, oL 56 55, oM 10 56, ⟨some 11, none, .mov (.c (.int .i64 0))⟩])
  .ret))))))⟩
/- (vizard/dhcp.request).after -/
def I57 : Fn_ := ⟨2, 10, [(4, none)],
  (.seq (.ops [⟨some 2, none, .box true 79 (.t 0)⟩, ⟨some 4, none, .mov (.c (.int .u64 0))⟩])
  (.seq (.ops [oF 5 21 2, oL 6 5, oM 7 1, ⟨some 8, none, .conv .u64 (.t 7)⟩, ⟨some 9, none, .bin .add (.t 6) (.t 8)⟩, oM 4 9])
  .ret))⟩
/- (*vizard/dhcp.Server).say -/
def I58 : Fn_ := ⟨4, 43, [(8, some (true, 15)), (9, none)],
  (.seq (.ops [⟨some 5, none, .box true 79 (.t 1)⟩, ⟨some 8, none, .alloc true z_1 29⟩, ⟨some 9, none, .mov (.c (.bool false))⟩])
  (.seq (.seq (.ops [oM 11 2, ⟨some 12, none, .bin .eql (.t 11) (.c (.int .i64 6))⟩])
  (.cond (.t 12)
  (.seq (.ops [⟨some 13, none, .faddr true 0 15 (.t 5)⟩, ⟨some 14, none, .load true 15 (.t 13)⟩, oM 15 2, oM 16 0, ⟨some 17, none, .nilChk (.t 16)⟩, ⟨some 18, none, .faddr true 0 7 (.t 17)⟩, oF 19 0 18, oL 20 19, ⟨some 21, none, .callF true 74 [(.t 14), (.t 15), (.c (.int .u32 0)), (.t 20), (.c (.rs false 2 []))]⟩, oS 15 8 21, ⟨some 9, none, .mov (.c (.bool true))⟩])
  .ret)
  .skip))
  (.seq (.ops [oM 22 0, ⟨some 23, none, .nilChk (.t 22)⟩, ⟨some 24, none, .faddr true 0 7 (.t 23)⟩, ⟨some 25, none, .load true 7 (.t 24)⟩, ⟨some 10, none, .alloc true z_3 36⟩, oS 7 10 25])
  (.seq (.ops [⟨some 26, none, .faddr true 0 15 (.t 5)⟩, ⟨some 27, none, .load true 15 (.t 26)⟩, oM 28 2, oM 29 3, oF 30 0 10, oL 31 30, oF 32 1 10, oL 33 32, ⟨some 34, none, .callF true 15 [(.c (.int .u8 1)), (.t 33)]⟩, oF 35 0 10, oL 36 35, ⟨some 37, none, .callF true 15 [(.c (.int .u8 3)), (.t 36)]⟩, oF 38 4 10, oL 39 38, ⟨some 40, none, .callF true 15 [(.c (.int .u8 51)), (.t 39)]⟩, ⟨some 41, none, .buildR 2 49 [(.t 34), (.t 37), (.t 40)]⟩, ⟨some 42, none, .callF true 74 [(.t 27), (.t 28), (.t 29), (.t 31), (.t 41)]⟩, oS 15 8 42, ⟨some 9, none, .mov (.c (.bool true))⟩])
  .ret))))⟩
/- (*vizard/dhcp.Server).held -/
def I59 : Fn_ := ⟨2, 27, [(4, none), (5, none)],
  (.seq (.ops [⟨some 3, none, .box true 79 (.t 1)⟩, ⟨some 4, none, .mov (.c (.int .u32 0))⟩, ⟨some 5, none, .mov (.c (.bool false))⟩])
  (.seq (.ops [oM 9 0, ⟨some 10, none, .nilChk (.t 9)⟩, oF 11 7 10, oL 12 11, oF 13 15 3, oL 14 13, oF 15 21 3, oL 16 15, ⟨some 17, none, .callF true 16 [(.t 12), (.t 14), (.t 16)]⟩, oM 8 17, oE 18 8 0, oE 19 8 1, ⟨some 6, none, .alloc true z_0 53⟩, oS 3 6 18, oM 7 19])
  (.seq (.ops [oF 20 0 6, oL 21 20, oM 22 7, oM 23 22, gF 24 23 true 1 6, gL 25 23 true 24, oN 26 23 25, oM 4 21, oM 5 26])
  .ret)))⟩
/- (*vizard/lease.Book).Drop -/
def I60 : Fn_ := ⟨3, 31, [(6, none)],
  (.seq (.ops [⟨some 6, none, .mov (.c (.bool false))⟩])
  (.seq (.ops [oM 10 0, ⟨some 11, none, .nilChk (.t 10)⟩, oF 12 3 11, oL 13 12, oM 14 1, ⟨some 15, none, .look true .str ⟨true, [.i .u32 0, .b false, .i .u64 0]⟩ (.t 13) (.t 14)⟩, oM 9 15, oE 16 9 0, oE 17 9 1, ⟨some 7, none, .alloc true z_0 53⟩, oS 3 7 16, oM 8 17])
  (.seq (.seq (.ops [oM 18 8, ⟨some 19, none, .un .not (.t 18)⟩, oM 20 19, gF 21 20 false 1 7, gL 22 20 false 21, gM 23 20 false 2, ⟨some 24, (some (20, false)), .binB .neq (.t 22) (.t 23)⟩, oT 25 20 24])
  (.cond (.t 25)
  (.seq (.ops [⟨some 6, none, .mov (.c (.bool false))⟩])
  .ret)
  .skip))
  (.seq (.ops [oM 26 0, ⟨some 27, none, .nilChk (.t 26)⟩, oF 28 3 27, oL 29 28, oM 30 1, ⟨none, none, .mdel .str (.t 29) (.t 30)⟩])
  (.seq (.ops [⟨some 6, none, .mov (.c (.bool true))⟩])
  .ret)))))⟩
/- (*vizard/dhcp.Server).firm -/
def I61 : Fn_ := ⟨3, 37, [(6, some (true, 15)), (7, none)],
  (.seq (.ops [⟨some 4, none, .box true 79 (.t 1)⟩, ⟨some 6, none, .alloc true z_1 29⟩, ⟨some 7, none, .mov (.c (.bool false))⟩])
  (.seq (.seq (.ops [oM 8 0, ⟨some 9, none, .nilChk (.t 8)⟩, oF 10 7 9, oL 11 10, oF 12 15 4, oL 13 12, oM 14 2, oF 15 21 4, oL 16 15, ⟨some 17, none, .load true 22 (.t 4)⟩, oM 18 0, ⟨some 19, none, .nilChk (.t 18)⟩, ⟨some 20, none, .faddr true 0 7 (.t 19)⟩, oF 21 4 20, oL 22 21, ⟨some 23, none, .callF true 57 [(.t 17), (.t 22)]⟩, ⟨some 24, none, .callM 75 [(.t 11), (.t 13), (.t 14), (.t 16), (.t 23)]⟩, ⟨some 25, none, .bin .neq (.t 24) (.c (.int .i64 0))⟩])
  (.cond (.t 25)
  (.seq (.ops [oM 26 0, ⟨some 27, none, .load true 22 (.t 4)⟩, ⟨some 28, none, .callF false 58 [(.t 26), (.t 27), (.c (.int .i64 6)), (.c (.int .u32 0))]⟩, oE 29 28 0, oE 30 28 1, oS 15 6 29, oM 7 30])
  .ret)
  .skip))
  (.seq (.ops [oM 31 0, ⟨some 32, none, .load true 22 (.t 4)⟩, oM 33 2, ⟨some 34, none, .callF false 58 [(.t 31), (.t 32), (.c (.int .i64 5)), (.t 33)]⟩, oE 35 34 0, oE 36 34 1, oS 15 6 35, oM 7 36])
  .ret)))⟩
/- (*vizard/lease.Book).Rest -/
def I62 : Fn_ := ⟨5, 40, [(10, none)],
  (.seq (.ops [⟨some 10, none, .mov (.c (.int .i64 0))⟩])
  (.seq (.ops [oM 14 0, oM 15 1, oM 16 3, ⟨some 17, none, .callF false 16 [(.t 14), (.t 15), (.t 16)]⟩, oM 13 17, oE 18 13 0, oE 19 13 1, ⟨some 11, none, .alloc true z_0 53⟩, oS 3 11 18, oM 12 19])
  (.seq (.seq (.ops [oM 20 12, ⟨some 21, none, .un .not (.t 20)⟩, oM 22 21, gF 23 22 false 0 11, gL 24 22 false 23, gM 25 22 false 2, ⟨some 26, (some (22, false)), .bin .neq (.t 24) (.t 25)⟩, oT 27 22 26])
  (.cond (.t 27)
  (.seq (.ops [⟨some 10, none, .mov (.c (.int .i64 17))⟩])
  .ret)
  .skip))
  (.seq (.ops [oM 28 0, ⟨some 29, none, .nilChk (.t 28)⟩, oF 30 3 29, oL 31 30, oM 32 1, ⟨none, none, .mdel .str (.t 31) (.t 32)⟩])
  (.seq (.ops [oM 33 0, ⟨some 34, none, .nilChk (.t 33)⟩, oF 35 4 34, oL 36 35, oM 37 2, oM 38 4, ⟨some 39, none, .callF true 40 [(.t 38)]⟩, ⟨none, none, .mapUpd (.int .u32) (.t 36) (.t 37) (.t 39)⟩])
  (.seq (.ops [⟨some 10, none, .mov (.c (.int .i64 0))⟩])
  .ret))))))⟩
/- vizard/word.sized -/
def I63 : Fn_ := ⟨1, 9, [(2, none)],
  (.seq (.ops [⟨some 2, none, .mov (.c (.bool false))⟩])
  (.seq (.ops [oM 3 0, ⟨some 4, none, .bin .geq (.t 3) (.c (.int .i64 1))⟩, oM 5 4, gM 6 5 true 0, ⟨some 7, (some (5, true)), .bin .leq (.t 6) (.c (.int .i64 8))⟩, oN 8 5 7, oM 2 8])
  .ret))⟩
/- vizard/word.number -/
def B64_0 : C := (.seq (.seq (.ops [oM 25 7, ⟨some 26, none, .bin .geq (.t 25) (.c (.int .i64 0))⟩])
  (.cond (.t 26)
  .skip
  (.exit 0)))
  (.seq (.block 1 (some [0, 6, 7]) (.ops [oM 29 6, oM 30 0, oM 31 7, ⟨some 32, none, .bin .shr (.t 30) (.t 31)⟩, ⟨some 33, none, .conv .u8 (.t 32)⟩, ⟨some 34, none, .buildR 1 5 [(.t 33)]⟩, ⟨some 35, none, .append 1 1 5 (.t 29) (.t 34)⟩, oM 6 35]))
  (.ops [oM 27 7, ⟨some 28, none, .bin .sub (.t 27) (.c (.int .i64 8))⟩, oM 7 28])))
def L64_0 : C := .loop (some [0, 6, 7]) B64_0
theorem L64_0_eq {E : Env} (x : St) : ev E L64_0 x = andThen (ev E B64_0 (restr (some [0, 6, 7]) x)) (ev E L64_0) := ev_loop _ _ x
theorem L64_0_lp {E : Env} (s : Slots) (h : Heap) : ev E L64_0 ⟨s, h⟩ = lp E L64_0 (pickS s [0, 6, 7]) h := lp_of L64_0_eq s h
theorem L64_0_go {E : Env} (s : Slots) (h : Heap) : lp E L64_0 s h = andThen (ev E B64_0 ⟨pickS s [0, 6, 7], h⟩) (ev E L64_0) := lp_go L64_0_eq s h
noncomputable def T64_0 (E : Env) (o : Out) : Option (AV × Heap) := outR [(4, none), (5, none)] (andThen (endBlock 0 (some [0, 6, 7]) (o)) (ev E (.seq (.ops [oM 36 6, oM 4 36, ⟨some 5, none, .mov (.c (.int .i64 0))⟩])
  .ret)))
def I64 : Fn_ := ⟨2, 37, [(4, none), (5, none)],
  (.seq (.ops [⟨some 4, none, .mov (.c (.rs false 1 []))⟩, ⟨some 5, none, .mov (.c (.int .i64 0))⟩])
  (.seq (.seq (.ops [oM 8 1, ⟨some 9, none, .callF false 63 [(.t 8)]⟩, ⟨some 10, none, .un .not (.t 9)⟩, oM 11 10, gM 12 11 false 1, ⟨some 13, (some (11, false)), .bin .lss (.t 12) (.c (.int .i64 8))⟩, gM 14 11 false 13, gM 15 14 true 0, gM 16 14 true 1, ⟨some 17, (some (14, true)), .bin .mul (.c (.int .i64 8)) (.t 16)⟩, ⟨some 18, (some (14, true)), .bin .shr (.t 15) (.t 17)⟩, ⟨some 19, (some (14, true)), .bin .neq (.t 18) (.c (.int .u64 0))⟩, ⟨some 20, (some (11, false)), .pick (.t 14) (.t 19) (.c (.bool false))⟩, oT 21 11 20])
  (.cond (.t 21)
  (.seq (.ops [⟨some 4, none, .mov (.c (.rs false 1 []))⟩, ⟨some 5, none, .mov (.c (.int .i64 11))⟩])
  .ret)
  .skip))
  (.seq (.ops [⟨some 6, none, .nilrow 1 5⟩])
  (.seq (.seq (.ops [oM 22 1, ⟨some 23, none, .bin .sub (.t 22) (.c (.int .i64 1))⟩, ⟨some 24, none, .bin .mul (.c (.int .i64 8)) (.t 23)⟩, oM 7 24])
  (.block 0 (some [0, 6, 7]) L64_0))
  (.seq (.ops [oM 36 6, oM 4 36, ⟨some 5, none, .mov (.c (.int .i64 0))⟩])
  .ret)))))⟩
/- vizard/word.span -/
def I66 : Fn_ := ⟨3, 21, [(6, none)],
  (.seq (.ops [⟨some 6, none, .mov (.c (.int .i64 0))⟩])
  (.seq (.block 0 (some [0, 1, 2]) (.seq (.ops [oM 8 1, ⟨some 9, none, .bin .lss (.t 8) (.c (.int .i64 0))⟩, oM 7 9])
  (.cond (.t 7)
  (.seq (.ops [⟨some 6, none, .mov (.c (.int .i64 11))⟩])
  .ret)
  (.seq (.ops [oM 11 1, oM 12 0, ⟨some 13, none, .bin .gtr (.t 11) (.t 12)⟩, oM 14 13, gM 15 14 false 2, gM 16 14 false 0, gM 17 14 false 1, ⟨some 18, (some (14, false)), .bin .sub (.t 16) (.t 17)⟩, ⟨some 19, (some (14, false)), .bin .gtr (.t 15) (.t 18)⟩, oT 20 14 19, oM 10 20])
  (.cond (.t 10)
  (.seq (.ops [⟨some 6, none, .mov (.c (.int .i64 12))⟩])
  .ret)
  .skip)))))
  (.seq (.ops [⟨some 6, none, .mov (.c (.int .i64 0))⟩])
  .ret)))⟩
/- slices.EqualFunc[[]vizard/option.Option,[]vizard/option.Option,vizard/option.Option,vizard/option.Option] -/
def B67_0 : C := (.seq (.ops [⟨some 18, none, .bin .lss (.t 17) (.t 16)⟩])
  (.seq (.cond (.t 18)
  .skip
  (.exit 0))
  (.seq (.block 1 (some [1, 2, 15, 16, 17]) (.seq (.ops [oM 19 17, ⟨some 20, none, .iaddr 2 (.t 15) (.t 17)⟩, ⟨some 21, none, .load true 2 (.t 20)⟩, ⟨some 8, none, .alloc true z_4 49⟩, oM 7 19, oS 2 8 21])
  (.seq (.ops [oM 22 1, oM 23 7, ⟨some 24, none, .iaddr 2 (.t 22) (.t 23)⟩, ⟨some 25, none, .load true 2 (.t 24)⟩, ⟨some 9, none, .alloc true z_4 49⟩, oS 2 9 25])
  (.seq (.ops [oM 26 2, ⟨some 27, none, .load true 2 (.t 8)⟩, ⟨some 28, none, .load true 2 (.t 9)⟩, ⟨some 29, none, .callV false (.t 26) [(.t 27), (.t 28)]⟩, ⟨some 30, none, .un .not (.t 29)⟩])
  (.cond (.t 30)
  (.seq (.ops [⟨some 6, none, .mov (.c (.bool false))⟩])
  .ret)
  .skip)))))
  (.ops [⟨some 31, none, .bin .add (.t 17) (.c (.int .i64 1))⟩, oM 17 31]))))
def L67_0 : C := .loop (some [1, 2, 15, 16, 17]) B67_0
theorem L67_0_eq {E : Env} (x : St) : ev E L67_0 x = andThen (ev E B67_0 (restr (some [1, 2, 15, 16, 17]) x)) (ev E L67_0) := ev_loop _ _ x
theorem L67_0_lp {E : Env} (s : Slots) (h : Heap) : ev E L67_0 ⟨s, h⟩ = lp E L67_0 (pickS s [1, 2, 15, 16, 17]) h := lp_of L67_0_eq s h
theorem L67_0_go {E : Env} (s : Slots) (h : Heap) : lp E L67_0 s h = andThen (ev E B67_0 ⟨pickS s [1, 2, 15, 16, 17], h⟩) (ev E L67_0) := lp_go L67_0_eq s h
noncomputable def T67_0 (E : Env) (o : Out) : Option (AV × Heap) := outR [(6, none)] (andThen (endBlock 0 (some [1, 2, 15, 16, 17]) (o)) (ev E (.seq (.ops [⟨some 6, none, .mov (.c (.bool true))⟩])
  .ret)))
def I67 : Fn_ := ⟨3, 32, [(6, none)],
  (.seq (.ops [⟨some 6, none, .mov (.c (.bool false))⟩])
  (.seq (.seq (.ops [oM 10 0, ⟨some 11, none, .len (.t 10)⟩, oM 12 1, ⟨some 13, none, .len (.t 12)⟩, ⟨some 14, none, .bin .neq (.t 11) (.t 13)⟩])
  (.cond (.t 14)
  (.seq (.ops [⟨some 6, none, .mov (.c (.bool false))⟩])
  .ret)
  .skip))
  (.seq (.seq (.ops [oM 15 0, ⟨some 16, none, .len (.t 15)⟩, ⟨some 17, none, .mov (.c (.int .i64 0))⟩])
  (.block 0 (some [1, 2, 15, 16, 17]) L67_0))
  (.seq (.ops [⟨some 6, none, .mov (.c (.bool true))⟩])
  .ret))))⟩
/- vizard/option.Same$1 -/
def I68 : Fn_ := ⟨2, 17, [(4, none)],
  (.seq (.ops [⟨some 2, none, .box true 49 (.t 0)⟩, ⟨some 3, none, .box true 49 (.t 1)⟩, ⟨some 4, none, .mov (.c (.bool false))⟩])
  (.seq (.ops [oF 5 0 2, oL 6 5, oF 7 0 3, oL 8 7, ⟨some 9, none, .bin .eql (.t 6) (.t 8)⟩, oM 10 9, gF 11 10 true 1 2, gL 12 10 true 11, gF 13 10 true 1 3, gL 14 10 true 13, ⟨some 15, (some (10, true)), .callF false 69 [(.t 12), (.t 14)]⟩, oN 16 10 15, oM 4 16])
  .ret))⟩
/- bytes.Equal -/
def I69 : Fn_ := ⟨2, 10, [(4, none)],
  (.seq (.ops [⟨some 4, none, .mov (.c (.bool false))⟩])
  (.seq (.ops [oM 5 0, ⟨some 6, none, .toStr (.t 5)⟩, oM 7 1, ⟨some 8, none, .toStr (.t 7)⟩, ⟨some 9, none, .bin .eql (.t 6) (.t 8)⟩, oM 4 9])
  .ret))⟩
/- slices.Collect[uint32] -/
def I70 : Fn_ := ⟨1, 5, [(2, none)],
  (.seq (.ops [⟨some 2, none, .mov (.c (.rs false 1 []))⟩])
  (.seq (.ops [oM 3 0, ⟨some 4, none, .callF false 76 [(.c .nils), (.t 3)]⟩, oM 2 4])
  .ret))⟩
/- slices.Sort[[]uint32,uint32] -/
def I71 : Fn_ := ⟨1, 11, [],
  (.seq (.ops [oM 3 0, ⟨some 4, none, .len (.t 3)⟩, oM 2 4])
  (.ops [oM 5 0, oM 6 2, oM 7 2, ⟨some 8, none, .conv .u64 (.t 7)⟩, ⟨some 9, none, .callF false 78 [(.t 8)]⟩, ⟨some 10, none, .callF false 77 [(.t 5), (.c (.int .i64 0)), (.t 6), (.t 9)]⟩]))⟩
/- (*vizard/lease.Book).find -/
def B73_0 : C := (.seq (.ops [⟨some 26, none, .bin .lss (.t 25) (.t 24)⟩])
  (.seq (.cond (.t 26)
  .skip
  (.exit 0))
  (.seq (.block 1 (some [0, 2, 24, 25]) (.seq (.ops [oM 27 25, oM 8 27])
  (.seq (.ops [oM 28 0, ⟨some 29, none, .nilChk (.t 28)⟩, oF 30 0 29, oL 31 30, oM 32 8, ⟨some 33, none, .bin .add (.t 31) (.t 32)⟩, oM 9 33])
  (.seq (.ops [oM 34 0, oM 35 9, oM 36 2, ⟨some 37, none, .callF false 22 [(.t 34), (.t 35), (.t 36)]⟩])
  (.cond (.t 37)
  (.seq (.ops [oM 38 9, oM 6 38, ⟨some 7, none, .mov (.c (.bool true))⟩])
  .ret)
  .skip)))))
  (.ops [⟨some 39, none, .bin .add (.t 25) (.c (.int .u32 1))⟩, oM 25 39]))))
def L73_0 : C := .loop (some [0, 2, 24, 25]) B73_0
theorem L73_0_eq {E : Env} (x : St) : ev E L73_0 x = andThen (ev E B73_0 (restr (some [0, 2, 24, 25]) x)) (ev E L73_0) := ev_loop _ _ x
theorem L73_0_lp {E : Env} (s : Slots) (h : Heap) : ev E L73_0 ⟨s, h⟩ = lp E L73_0 (pickS s [0, 2, 24, 25]) h := lp_of L73_0_eq s h
theorem L73_0_go {E : Env} (s : Slots) (h : Heap) : lp E L73_0 s h = andThen (ev E B73_0 ⟨pickS s [0, 2, 24, 25], h⟩) (ev E L73_0) := lp_go L73_0_eq s h
noncomputable def T73_0 (E : Env) (o : Out) : Option (AV × Heap) := outR [(6, none), (7, none)] (andThen (endBlock 0 (some [0, 2, 24, 25]) (o)) (ev E (.seq (.ops [⟨some 6, none, .mov (.c (.int .u32 0))⟩, ⟨some 7, none, .mov (.c (.bool false))⟩])
  .ret)))
def I73 : Fn_ := ⟨3, 40, [(6, none), (7, none)],
  (.seq (.ops [⟨some 6, none, .mov (.c (.int .u32 0))⟩, ⟨some 7, none, .mov (.c (.bool false))⟩])
  (.seq (.seq (.ops [oM 10 0, oM 11 1, oM 12 2, ⟨some 13, none, .callF false 22 [(.t 10), (.t 11), (.t 12)]⟩])
  (.cond (.t 13)
  (.seq (.ops [oM 14 1, oM 6 14, ⟨some 7, none, .mov (.c (.bool true))⟩])
  .ret)
  .skip))
  (.seq (.seq (.ops [oM 15 0, ⟨some 16, none, .nilChk (.t 15)⟩, oF 17 1 16, oL 18 17, oM 19 0, ⟨some 20, none, .nilChk (.t 19)⟩, oF 21 0 20, oL 22 21, ⟨some 23, none, .bin .sub (.t 18) (.t 22)⟩, ⟨some 24, none, .bin .add (.t 23) (.c (.int .u32 1))⟩, ⟨some 25, none, .mov (.c (.int .u32 0))⟩])
  (.block 0 (some [0, 2, 24, 25]) L73_0))
  (.seq (.ops [⟨some 6, none, .mov (.c (.int .u32 0))⟩, ⟨some 7, none, .mov (.c (.bool false))⟩])
  .ret))))⟩
/- (vizard/boot.Message).Answer -/
def B74_0 : C := (.seq (.ops [⟨some 42, none, .bin .lss (.t 41) (.t 40)⟩])
  (.seq (.cond (.t 42)
  .skip
  (.exit 0))
  (.seq (.block 1 (some [10, 11, 39, 40, 41]) (.seq (.ops [⟨some 43, none, .iaddr 2 (.t 39) (.t 41)⟩, ⟨some 44, none, .load true 2 (.t 43)⟩, ⟨some 13, none, .alloc true z_10 49⟩, oS 2 13 44])
  (.ops [oF 45 14 11, oL 46 45, oF 47 0 13, oL 48 47, oF 49 1 13, oL 50 49, ⟨some 51, none, .callF true 54 [(.t 50)]⟩, ⟨some 52, none, .build z_10 [(0, 1, (.t 48)), (1, 1, (.t 51))]⟩, ⟨some 53, none, .buildR 2 49 [(.t 52)]⟩, ⟨some 54, none, .append 2 32 49 (.t 46) (.t 53)⟩, oF 55 14 11, oS 1 55 54])))
  (.ops [⟨some 56, none, .bin .add (.t 41) (.c (.int .i64 1))⟩, oM 41 56]))))
def L74_0 : C := .loop (some [10, 11, 39, 40, 41]) B74_0
theorem L74_0_eq {E : Env} (x : St) : ev E L74_0 x = andThen (ev E B74_0 (restr (some [10, 11, 39, 40, 41]) x)) (ev E L74_0) := ev_loop _ _ x
theorem L74_0_lp {E : Env} (s : Slots) (h : Heap) : ev E L74_0 ⟨s, h⟩ = lp E L74_0 (pickS s [10, 11, 39, 40, 41]) h := lp_of L74_0_eq s h
theorem L74_0_go {E : Env} (s : Slots) (h : Heap) : lp E L74_0 s h = andThen (ev E B74_0 ⟨pickS s [10, 11, 39, 40, 41], h⟩) (ev E L74_0) := lp_go L74_0_eq s h
noncomputable def T74_0 (E : Env) (o : Out) : Option (AV × Heap) := outR [(10, some (true, 15))] (andThen (endBlock 0 (some [10, 11, 39, 40, 41]) (o)) (ev E (.seq (.ops [⟨some 57, none, .load true 15 (.t 11)⟩, oS 15 10 57])
  .ret)))
def I74 : Fn_ := ⟨5, 58, [(10, some (true, 15))],
  (.seq (.ops [⟨some 5, none, .boxR true 15 29 (.t 0)⟩, ⟨some 10, none, .alloc true z_11 29⟩])
  (.seq (.ops [oF 14 1 5, oL 15 14, oF 16 3 5, oL 17 16, oF 18 4 5, oL 19 18, oM 20 2, oF 21 7 5, oL 22 21, ⟨some 23, none, .faddr true 8 6 (.t 5)⟩, ⟨some 24, none, .load true 6 (.t 23)⟩, ⟨some 25, none, .build z_11 [(0, 1, (.c (.int .u8 2))), (1, 1, (.t 15)), (3, 1, (.t 17)), (4, 1, (.t 19)), (5, 1, (.t 20)), (7, 1, (.t 22)), (8, 6, (.t 24))]⟩, ⟨some 11, none, .alloc true z_11 29⟩, oS 15 11 25])
  (.seq (.seq (.ops [oM 26 1, ⟨some 27, none, .bin .eql (.t 26) (.c (.int .i64 6))⟩])
  (.cond (.t 27)
  (.ops [oF 28 4 11, ⟨none, none, .store 1 (.t 28) (.c (.int .u32 0))⟩])
  .skip))
  (.seq (.ops [oF 29 14 11, oL 30 29, oM 31 1, ⟨some 32, none, .conv .u8 (.t 31)⟩, ⟨some 33, none, .callF true 14 [(.c (.int .u8 53)), (.t 32)]⟩, oM 34 3, ⟨some 35, none, .callF true 15 [(.c (.int .u8 54)), (.t 34)]⟩, ⟨some 36, none, .buildR 2 49 [(.t 33), (.t 35)]⟩, ⟨some 37, none, .append 2 32 49 (.t 30) (.t 36)⟩, oF 38 14 11, oS 1 38 37])
  (.seq (.seq (.ops [oM 39 4, ⟨some 40, none, .len (.t 39)⟩, ⟨some 41, none, .mov (.c (.int .i64 0))⟩])
  (.block 0 (some [10, 11, 39, 40, 41]) L74_0))
  (.seq (.ops [⟨some 57, none, .load true 15 (.t 11)⟩, oS 15 10 57])
  .ret))))))⟩
/- (*vizard/lease.Book).Firm -/
def I75 : Fn_ := ⟨5, 37, [(10, none)],
  (.seq (.ops [⟨some 10, none, .mov (.c (.int .i64 0))⟩])
  (.seq (.ops [oM 14 0, oM 15 1, oM 16 3, ⟨some 17, none, .callF false 16 [(.t 14), (.t 15), (.t 16)]⟩, oM 13 17, oE 18 13 0, oE 19 13 1, ⟨some 11, none, .alloc true z_0 53⟩, oS 3 11 18, oM 12 19])
  (.seq (.seq (.ops [oM 20 12, ⟨some 21, none, .un .not (.t 20)⟩, oM 22 21, gF 23 22 false 0 11, gL 24 22 false 23, gM 25 22 false 2, ⟨some 26, (some (22, false)), .bin .neq (.t 24) (.t 25)⟩, oT 27 22 26])
  (.cond (.t 27)
  (.seq (.ops [⟨some 10, none, .mov (.c (.int .i64 17))⟩])
  .ret)
  .skip))
  (.seq (.ops [oM 28 0, ⟨some 29, none, .nilChk (.t 28)⟩, oF 30 3 29, oL 31 30, oM 32 1, oM 33 2, oM 34 4, ⟨some 35, none, .callF true 40 [(.t 34)]⟩, ⟨some 36, none, .build z_0 [(0, 1, (.t 33)), (1, 1, (.c (.bool true))), (2, 1, (.t 35))]⟩, ⟨none, none, .mapUpd .str (.t 31) (.t 32) (.t 36)⟩])
  (.seq (.ops [⟨some 10, none, .mov (.c (.int .i64 0))⟩])
  .ret)))))⟩
/- slices.AppendSeq[[]uint32,uint32] -/
def A76_r0 : C := (.ops [oM 5 7])
def R76_r0 : C := (.block 1 (some [2, 5]) (.ops [oL 8 2, oM 9 5, ⟨some 10, none, .buildR 1 23 [(.t 9)]⟩, ⟨some 11, none, .append 1 4 23 (.t 8) (.t 10)⟩, oS 1 2 11]))
noncomputable def T76_r0 (E : Env) (o : Out) : Option (AV × Heap) := outR [(4, none)] (andThen (endBlock 0 (some [2, 6]) (o)) (ev E (.seq (.ops [oL 12 2, oM 4 12])
  .ret)))
def I76 : Fn_ := ⟨2, 13, [(4, none)],
  (.seq (.ops [⟨some 2, none, .box false 70 (.t 0)⟩, ⟨some 4, none, .mov (.c (.rs false 1 []))⟩])
  (.seq (.seq (.ops [oM 6 1])
  (.block 0 (some [2, 6]) (.rangeF (.t 6) [7] A76_r0 R76_r0)))
  (.seq (.ops [oL 12 2, oM 4 12])
  .ret)))⟩
/- slices.pdqsortOrdered[uint32] -/
def B77_0 : C := (.block 1 (some [0, 1, 2, 3, 8, 9]) (.seq (.ops [oM 19 2, oM 20 1, ⟨some 21, none, .bin .sub (.t 19) (.t 20)⟩, oM 10 21])
  (.seq (.seq (.ops [oM 22 10, ⟨some 23, none, .bin .leq (.t 22) (.c (.int .i64 12))⟩])
  (.cond (.t 23)
  (.seq (.ops [oM 24 0, oM 25 1, oM 26 2, ⟨some 27, none, .callF false 79 [(.t 24), (.t 25), (.t 26)]⟩])
  .ret)
  .skip))
  (.seq (.seq (.ops [oM 28 3, ⟨some 29, none, .bin .eql (.t 28) (.c (.int .i64 0))⟩])
  (.cond (.t 29)
  (.seq (.ops [oM 30 0, oM 31 1, oM 32 2, ⟨some 33, none, .callF false 80 [(.t 30), (.t 31), (.t 32)]⟩])
  .ret)
  .skip))
  (.seq (.seq (.ops [oM 34 8, ⟨some 35, none, .un .not (.t 34)⟩])
  (.cond (.t 35)
  (.seq (.ops [oM 36 0, oM 37 1, oM 38 2, ⟨some 39, none, .callF false 81 [(.t 36), (.t 37), (.t 38)]⟩])
  (.ops [oM 40 3, ⟨some 41, none, .bin .sub (.t 40) (.c (.int .i64 1))⟩, oM 3 41]))
  .skip))
  (.seq (.ops [oM 43 0, oM 44 1, oM 45 2, ⟨some 46, none, .callF false 82 [(.t 43), (.t 44), (.t 45)]⟩, oM 42 46, oE 47 42 0, oE 48 42 1, oM 11 47, oM 12 48])
  (.seq (.seq (.ops [oM 49 12, ⟨some 50, none, .bin .eql (.t 49) (.c (.int .i64 2))⟩])
  (.cond (.t 50)
  (.seq (.ops [oM 51 0, oM 52 1, oM 53 2, ⟨some 54, none, .callF false 83 [(.t 51), (.t 52), (.t 53)]⟩])
  (.seq (.ops [oM 55 2, ⟨some 56, none, .bin .sub (.t 55) (.c (.int .i64 1))⟩, oM 57 11, oM 58 1, ⟨some 59, none, .bin .sub (.t 57) (.t 58)⟩, ⟨some 60, none, .bin .sub (.t 56) (.t 59)⟩, oM 11 60])
  (.ops [⟨some 12, none, .mov (.c (.int .i64 1))⟩])))
  .skip))
  (.seq (.seq (.ops [oM 61 8, oM 62 61, gM 63 62 true 9, oN 64 62 63, oM 65 64, gM 66 65 true 12, ⟨some 67, (some (65, true)), .bin .eql (.t 66) (.c (.int .i64 1))⟩, oN 68 65 67])
  (.cond (.t 68)
  (.seq (.ops [oM 69 0, oM 70 1, oM 71 2, ⟨some 72, none, .callF false 84 [(.t 69), (.t 70), (.t 71)]⟩])
  (.cond (.t 72)
  .ret
  .skip))
  .skip))
  (.seq (.seq (.ops [oM 73 1, ⟨some 74, none, .bin .gtr (.t 73) (.c (.int .i64 0))⟩, oM 75 74, gM 76 75 true 0, gM 77 75 true 1, ⟨some 78, (some (75, true)), .bin .sub (.t 77) (.c (.int .i64 1))⟩, ⟨some 79, (some (75, true)), .iaddr 1 (.t 76) (.t 78)⟩, gL 80 75 true 79, gM 81 75 true 0, gM 82 75 true 11, ⟨some 83, (some (75, true)), .iaddr 1 (.t 81) (.t 82)⟩, gL 84 75 true 83, ⟨some 85, (some (75, true)), .callF true 85 [(.t 80), (.t 84)]⟩, ⟨some 86, (some (75, true)), .un .not (.t 85)⟩, oN 87 75 86])
  (.cond (.t 87)
  (.seq (.ops [oM 88 0, oM 89 1, oM 90 2, oM 91 11, ⟨some 92, none, .callF false 86 [(.t 88), (.t 89), (.t 90), (.t 91)]⟩, oM 13 92])
  (.seq (.ops [oM 93 13, oM 1 93])
  (.exit 1)))
  .skip))
  (.seq (.ops [oM 95 0, oM 96 1, oM 97 2, oM 98 11, ⟨some 99, none, .callF false 87 [(.t 95), (.t 96), (.t 97), (.t 98)]⟩, oM 94 99, oE 100 94 0, oE 101 94 1, oM 14 100, oM 15 101])
  (.seq (.ops [oM 102 15, oM 9 102])
  (.seq (.ops [oM 103 14, oM 104 1, ⟨some 105, none, .bin .sub (.t 103) (.t 104)⟩, oM 106 2, oM 107 14, ⟨some 108, none, .bin .sub (.t 106) (.t 107)⟩, oM 16 105, oM 17 108])
  (.seq (.ops [oM 109 10, ⟨some 110, none, .bin .quo (.t 109) (.c (.int .i64 8))⟩, oM 18 110])
  (.seq (.ops [oM 111 16, oM 112 17, ⟨some 113, none, .bin .lss (.t 111) (.t 112)⟩])
  (.cond (.t 113)
  (.seq (.ops [oM 114 16, oM 115 18, ⟨some 116, none, .bin .geq (.t 114) (.t 115)⟩, oM 8 116])
  (.seq (.ops [oM 117 0, oM 118 1, oM 119 14, oM 120 3, ⟨some 121, none, .callF false 77 [(.t 117), (.t 118), (.t 119), (.t 120)]⟩])
  (.ops [oM 122 14, ⟨some 123, none, .bin .add (.t 122) (.c (.int .i64 1))⟩, oM 1 123])))
  (.seq (.ops [oM 124 17, oM 125 18, ⟨some 126, none, .bin .geq (.t 124) (.t 125)⟩, oM 8 126])
  (.seq (.ops [oM 127 0, oM 128 14, ⟨some 129, none, .bin .add (.t 128) (.c (.int .i64 1))⟩, oM 130 2, oM 131 3, ⟨some 132, none, .callF false 77 [(.t 127), (.t 129), (.t 130), (.t 131)]⟩])
  (.ops [oM 133 14, oM 2 133]))))))))))))))))))
def L77_0 : C := .loop (some [0, 1, 2, 3, 8, 9]) B77_0
theorem L77_0_eq {E : Env} (x : St) : ev E L77_0 x = andThen (ev E B77_0 (restr (some [0, 1, 2, 3, 8, 9]) x)) (ev E L77_0) := ev_loop _ _ x
theorem L77_0_lp {E : Env} (s : Slots) (h : Heap) : ev E L77_0 ⟨s, h⟩ = lp E L77_0 (pickS s [0, 1, 2, 3, 8, 9]) h := lp_of L77_0_eq s h
theorem L77_0_go {E : Env} (s : Slots) (h : Heap) : lp E L77_0 s h = andThen (ev E B77_0 ⟨pickS s [0, 1, 2, 3, 8, 9], h⟩) (ev E L77_0) := lp_go L77_0_eq s h
noncomputable def T77_0 (E : Env) (o : Out) : Option (AV × Heap) := outR [] (endBlock 0 (some [0, 1, 2, 3, 8, 9]) (o))
def I77 : Fn_ := ⟨4, 134, [],
  (.seq (.ops [⟨some 8, none, .mov (.c (.bool true))⟩])
  (.seq (.ops [⟨some 9, none, .mov (.c (.bool true))⟩])
  (.block 0 (some [0, 1, 2, 3, 8, 9]) L77_0)))⟩
/- math/bits.Len -/
def I78 : Fn_ := ⟨1, 8, [(2, none)],
  (.seq (.ops [⟨some 2, none, .mov (.c (.int .i64 0))⟩])
  (.seq (.cond (.c (.bool false))
  (.seq (.ops [oM 3 0, ⟨some 4, none, .conv .u32 (.t 3)⟩, ⟨some 5, none, .callF false 88 [(.t 4)]⟩, oM 2 5])
  .ret)
  .skip)
  (.seq (.ops [oM 6 0, ⟨some 7, none, .callF false 89 [(.t 6)]⟩, oM 2 7])
  .ret)))⟩
/- slices.insertionSortOrdered[uint32] -/
def B79_0 : C := (.seq (.seq (.ops [oM 16 7, oM 17 1, ⟨some 18, none, .bin .gtr (.t 16) (.t 17)⟩, oM 19 18, gM 20 19 true 0, gM 21 19 true 7, ⟨some 22, (some (19, true)), .iaddr 1 (.t 20) (.t 21)⟩, gL 23 19 true 22, gM 24 19 true 0, gM 25 19 true 7, ⟨some 26, (some (19, true)), .bin .sub (.t 25) (.c (.int .i64 1))⟩, ⟨some 27, (some (19, true)), .iaddr 1 (.t 24) (.t 26)⟩, gL 28 19 true 27, ⟨some 29, (some (19, true)), .callF true 85 [(.t 23), (.t 28)]⟩, oN 30 19 29])
  (.cond (.t 30)
  .skip
  (.exit 2)))
  (.seq (.block 3 (some [0, 1, 2, 6, 7]) (.ops [oM 33 0, oM 34 7, oM 35 0, oM 36 7, ⟨some 37, none, .bin .sub (.t 36) (.c (.int .i64 1))⟩, oM 38 0, oM 39 7, ⟨some 40, none, .bin .sub (.t 39) (.c (.int .i64 1))⟩, ⟨some 41, none, .iaddr 1 (.t 38) (.t 40)⟩, oL 42 41, oM 43 0, oM 44 7, ⟨some 45, none, .iaddr 1 (.t 43) (.t 44)⟩, oL 46 45, ⟨some 47, none, .iaddr 1 (.t 33) (.t 34)⟩, oS 1 47 42, ⟨some 48, none, .iaddr 1 (.t 35) (.t 37)⟩, oS 1 48 46]))
  (.ops [oM 31 7, ⟨some 32, none, .bin .sub (.t 31) (.c (.int .i64 1))⟩, oM 7 32])))
def L79_0 : C := .loop (some [0, 1, 2, 6, 7]) B79_0
theorem L79_0_eq {E : Env} (x : St) : ev E L79_0 x = andThen (ev E B79_0 (restr (some [0, 1, 2, 6, 7]) x)) (ev E L79_0) := ev_loop _ _ x
theorem L79_0_lp {E : Env} (s : Slots) (h : Heap) : ev E L79_0 ⟨s, h⟩ = lp E L79_0 (pickS s [0, 1, 2, 6, 7]) h := lp_of L79_0_eq s h
theorem L79_0_go {E : Env} (s : Slots) (h : Heap) : lp E L79_0 s h = andThen (ev E B79_0 ⟨pickS s [0, 1, 2, 6, 7], h⟩) (ev E L79_0) := lp_go L79_0_eq s h
def B79_1 : C := (.seq (.seq (.ops [oM 10 6, oM 11 2, ⟨some 12, none, .bin .lss (.t 10) (.t 11)⟩])
  (.cond (.t 12)
  .skip
  (.exit 0)))
  (.seq (.block 1 (some [0, 1, 2, 6]) (.seq (.ops [oM 15 6, oM 7 15])
  (.block 2 (some [0, 1, 2, 6, 7]) L79_0)))
  (.ops [oM 13 6, ⟨some 14, none, .bin .add (.t 13) (.c (.int .i64 1))⟩, oM 6 14])))
def L79_1 : C := .loop (some [0, 1, 2, 6]) B79_1
theorem L79_1_eq {E : Env} (x : St) : ev E L79_1 x = andThen (ev E B79_1 (restr (some [0, 1, 2, 6]) x)) (ev E L79_1) := ev_loop _ _ x
theorem L79_1_lp {E : Env} (s : Slots) (h : Heap) : ev E L79_1 ⟨s, h⟩ = lp E L79_1 (pickS s [0, 1, 2, 6]) h := lp_of L79_1_eq s h
theorem L79_1_go {E : Env} (s : Slots) (h : Heap) : lp E L79_1 s h = andThen (ev E B79_1 ⟨pickS s [0, 1, 2, 6], h⟩) (ev E L79_1) := lp_go L79_1_eq s h
noncomputable def T79_1 (E : Env) (o : Out) : Option (AV × Heap) := outR [] (endBlock 0 (some [0, 1, 2, 6]) (o))
noncomputable def T79_0 (E : Env) (o : Out) : Option (AV × Heap) := T79_1 E (andThen (andThen (endBlock 1 (some [0, 1, 2, 6]) (endBlock 2 (some [0, 1, 2, 6, 7]) (o))) (ev E (.ops [oM 13 6, ⟨some 14, none, .bin .add (.t 13) (.c (.int .i64 1))⟩, oM 6 14]))) (ev E L79_1))
def I79 : Fn_ := ⟨3, 49, [],
  (.seq (.ops [oM 8 1, ⟨some 9, none, .bin .add (.t 8) (.c (.int .i64 1))⟩, oM 6 9])
  (.block 0 (some [0, 1, 2, 6]) L79_1))⟩
/- slices.heapSortOrdered[uint32] -/
def B80_0 : C := (.seq (.seq (.ops [oM 18 9, ⟨some 19, none, .bin .geq (.t 18) (.c (.int .i64 0))⟩])
  (.cond (.t 19)
  .skip
  (.exit 0)))
  (.seq (.block 1 (some [0, 6, 7, 8, 9]) (.ops [oM 22 0, oM 23 9, oM 24 8, oM 25 6, ⟨some 26, none, .callF false 90 [(.t 22), (.t 23), (.t 24), (.t 25)]⟩]))
  (.ops [oM 20 9, ⟨some 21, none, .bin .sub (.t 20) (.c (.int .i64 1))⟩, oM 9 21])))
def L80_0 : C := .loop (some [0, 6, 7, 8, 9]) B80_0
theorem L80_0_eq {E : Env} (x : St) : ev E L80_0 x = andThen (ev E B80_0 (restr (some [0, 6, 7, 8, 9]) x)) (ev E L80_0) := ev_loop _ _ x
theorem L80_0_lp {E : Env} (s : Slots) (h : Heap) : ev E L80_0 ⟨s, h⟩ = lp E L80_0 (pickS s [0, 6, 7, 8, 9]) h := lp_of L80_0_eq s h
theorem L80_0_go {E : Env} (s : Slots) (h : Heap) : lp E L80_0 s h = andThen (ev E B80_0 ⟨pickS s [0, 6, 7, 8, 9], h⟩) (ev E L80_0) := lp_go L80_0_eq s h
def B80_1 : C := (.seq (.seq (.ops [oM 29 10, ⟨some 30, none, .bin .geq (.t 29) (.c (.int .i64 0))⟩])
  (.cond (.t 30)
  .skip
  (.exit 2)))
  (.seq (.block 3 (some [0, 6, 7, 10]) (.seq (.ops [oM 33 0, oM 34 6, oM 35 0, oM 36 6, oM 37 10, ⟨some 38, none, .bin .add (.t 36) (.t 37)⟩, oM 39 0, oM 40 6, oM 41 10, ⟨some 42, none, .bin .add (.t 40) (.t 41)⟩, ⟨some 43, none, .iaddr 1 (.t 39) (.t 42)⟩, oL 44 43, oM 45 0, oM 46 6, ⟨some 47, none, .iaddr 1 (.t 45) (.t 46)⟩, oL 48 47, ⟨some 49, none, .iaddr 1 (.t 33) (.t 34)⟩, oS 1 49 44, ⟨some 50, none, .iaddr 1 (.t 35) (.t 38)⟩, oS 1 50 48])
  (.ops [oM 51 0, oM 52 7, oM 53 10, oM 54 6, ⟨some 55, none, .callF false 90 [(.t 51), (.t 52), (.t 53), (.t 54)]⟩])))
  (.ops [oM 31 10, ⟨some 32, none, .bin .sub (.t 31) (.c (.int .i64 1))⟩, oM 10 32])))
def L80_1 : C := .loop (some [0, 6, 7, 10]) B80_1
theorem L80_1_eq {E : Env} (x : St) : ev E L80_1 x = andThen (ev E B80_1 (restr (some [0, 6, 7, 10]) x)) (ev E L80_1) := ev_loop _ _ x
theorem L80_1_lp {E : Env} (s : Slots) (h : Heap) : ev E L80_1 ⟨s, h⟩ = lp E L80_1 (pickS s [0, 6, 7, 10]) h := lp_of L80_1_eq s h
theorem L80_1_go {E : Env} (s : Slots) (h : Heap) : lp E L80_1 s h = andThen (ev E B80_1 ⟨pickS s [0, 6, 7, 10], h⟩) (ev E L80_1) := lp_go L80_1_eq s h
noncomputable def T80_1 (E : Env) (o : Out) : Option (AV × Heap) := outR [] (endBlock 2 (some [0, 6, 7, 10]) (o))
noncomputable def T80_0 (E : Env) (o : Out) : Option (AV × Heap) := outR [] (andThen (endBlock 0 (some [0, 6, 7, 8, 9]) (o)) (ev E (.seq (.ops [oM 27 8, ⟨some 28, none, .bin .sub (.t 27) (.c (.int .i64 1))⟩, oM 10 28])
  (.block 2 (some [0, 6, 7, 10]) L80_1))))
def I80 : Fn_ := ⟨3, 56, [],
  (.seq (.ops [oM 11 1, oM 6 11])
  (.seq (.ops [⟨some 7, none, .mov (.c (.int .i64 0))⟩])
  (.seq (.ops [oM 12 2, oM 13 1, ⟨some 14, none, .bin .sub (.t 12) (.t 13)⟩, oM 8 14])
  (.seq (.seq (.ops [oM 15 8, ⟨some 16, none, .bin .sub (.t 15) (.c (.int .i64 1))⟩, ⟨some 17, none, .bin .quo (.t 16) (.c (.int .i64 2))⟩, oM 9 17])
  (.block 0 (some [0, 6, 7, 8, 9]) L80_0))
  (.seq (.ops [oM 27 8, ⟨some 28, none, .bin .sub (.t 27) (.c (.int .i64 1))⟩, oM 10 28])
  (.block 2 (some [0, 6, 7, 10]) L80_1))))))⟩
/- slices.breakPatternsOrdered[uint32] -/
def B81_0 : C := (.seq (.seq (.ops [oM 26 9, oM 27 1, oM 28 6, ⟨some 29, none, .bin .quo (.t 28) (.c (.int .i64 4))⟩, ⟨some 30, none, .bin .mul (.t 29) (.c (.int .i64 2))⟩, ⟨some 31, none, .bin .add (.t 27) (.t 30)⟩, ⟨some 32, none, .bin .add (.t 31) (.c (.int .i64 1))⟩, ⟨some 33, none, .bin .leq (.t 26) (.t 32)⟩])
  (.cond (.t 33)
  .skip
  (.exit 0)))
  (.seq (.block 1 (some [0, 1, 6, 7, 8, 9]) (.seq (.ops [⟨some 36, none, .callF false 92 [(.t 7)]⟩, oM 37 8, ⟨some 38, none, .bin .sub (.t 37) (.c (.int .u64 1))⟩, ⟨some 39, none, .bin .and (.t 36) (.t 38)⟩, ⟨some 40, none, .conv .i64 (.t 39)⟩, oM 10 40])
  (.seq (.seq (.ops [oM 41 10, oM 42 6, ⟨some 43, none, .bin .geq (.t 41) (.t 42)⟩])
  (.cond (.t 43)
  (.ops [oM 44 10, oM 45 6, ⟨some 46, none, .bin .sub (.t 44) (.t 45)⟩, oM 10 46])
  .skip))
  (.ops [oM 47 0, oM 48 9, oM 49 0, oM 50 1, oM 51 10, ⟨some 52, none, .bin .add (.t 50) (.t 51)⟩, oM 53 0, oM 54 1, oM 55 10, ⟨some 56, none, .bin .add (.t 54) (.t 55)⟩, ⟨some 57, none, .iaddr 1 (.t 53) (.t 56)⟩, oL 58 57, oM 59 0, oM 60 9, ⟨some 61, none, .iaddr 1 (.t 59) (.t 60)⟩, oL 62 61, ⟨some 63, none, .iaddr 1 (.t 47) (.t 48)⟩, oS 1 63 58, ⟨some 64, none, .iaddr 1 (.t 49) (.t 52)⟩, oS 1 64 62]))))
  (.ops [oM 34 9, ⟨some 35, none, .bin .add (.t 34) (.c (.int .i64 1))⟩, oM 9 35])))
def L81_0 : C := .loop (some [0, 1, 6, 7, 8, 9]) B81_0
theorem L81_0_eq {E : Env} (x : St) : ev E L81_0 x = andThen (ev E B81_0 (restr (some [0, 1, 6, 7, 8, 9]) x)) (ev E L81_0) := ev_loop _ _ x
theorem L81_0_lp {E : Env} (s : Slots) (h : Heap) : ev E L81_0 ⟨s, h⟩ = lp E L81_0 (pickS s [0, 1, 6, 7, 8, 9]) h := lp_of L81_0_eq s h
theorem L81_0_go {E : Env} (s : Slots) (h : Heap) : lp E L81_0 s h = andThen (ev E B81_0 ⟨pickS s [0, 1, 6, 7, 8, 9], h⟩) (ev E L81_0) := lp_go L81_0_eq s h
noncomputable def T81_0 (E : Env) (o : Out) : Option (AV × Heap) := outR [] (endBlock 0 (some [0, 1, 6, 7, 8, 9]) (o))
def I81 : Fn_ := ⟨3, 65, [],
  (.seq (.ops [oM 11 2, oM 12 1, ⟨some 13, none, .bin .sub (.t 11) (.t 12)⟩, oM 6 13])
  (.seq (.ops [oM 14 6, ⟨some 15, none, .bin .geq (.t 14) (.c (.int .i64 8))⟩])
  (.cond (.t 15)
  (.seq (.ops [oM 16 6, ⟨some 17, none, .conv .u64 (.t 16)⟩, ⟨some 7, none, .alloc false [(.int .u64 0)] 145⟩, oS 1 7 17])
  (.seq (.ops [oM 18 6, ⟨some 19, none, .callF false 91 [(.t 18)]⟩, oM 8 19])
  (.seq (.ops [oM 20 1, oM 21 6, ⟨some 22, none, .bin .quo (.t 21) (.c (.int .i64 4))⟩, ⟨some 23, none, .bin .mul (.t 22) (.c (.int .i64 2))⟩, ⟨some 24, none, .bin .add (.t 20) (.t 23)⟩, ⟨some 25, none, .bin .sub (.t 24) (.c (.int .i64 1))⟩, oM 9 25])
  (.block 0 (some [0, 1, 6, 7, 8, 9]) L81_0))))
  .skip)))⟩
/- slices.choosePivotOrdered[uint32] -/
def I82 : Fn_ := ⟨3, 57, [(6, none), (7, none)],
  (.seq (.ops [⟨some 6, none, .mov (.c (.int .i64 0))⟩, ⟨some 7, none, .mov (.c (.int .i64 0))⟩])
  (.seq (.ops [oM 13 2, oM 14 1, ⟨some 15, none, .bin .sub (.t 13) (.t 14)⟩, oM 8 15])
  (.seq (.ops [⟨some 9, none, .alloc false [(.int .i64 0)] 3⟩])
  (.seq (.ops [oM 16 1, oM 17 8, ⟨some 18, none, .bin .quo (.t 17) (.c (.int .i64 4))⟩, ⟨some 19, none, .bin .mul (.t 18) (.c (.int .i64 1))⟩, ⟨some 20, none, .bin .add (.t 16) (.t 19)⟩, oM 10 20])
  (.seq (.ops [oM 21 1, oM 22 8, ⟨some 23, none, .bin .quo (.t 22) (.c (.int .i64 4))⟩, ⟨some 24, none, .bin .mul (.t 23) (.c (.int .i64 2))⟩, ⟨some 25, none, .bin .add (.t 21) (.t 24)⟩, oM 11 25])
  (.seq (.ops [oM 26 1, oM 27 8, ⟨some 28, none, .bin .quo (.t 27) (.c (.int .i64 4))⟩, ⟨some 29, none, .bin .mul (.t 28) (.c (.int .i64 3))⟩, ⟨some 30, none, .bin .add (.t 26) (.t 29)⟩, oM 12 30])
  (.seq (.seq (.ops [oM 31 8, ⟨some 32, none, .bin .geq (.t 31) (.c (.int .i64 8))⟩])
  (.cond (.t 32)
  (.seq (.seq (.ops [oM 33 8, ⟨some 34, none, .bin .geq (.t 33) (.c (.int .i64 50))⟩])
  (.cond (.t 34)
  (.seq (.ops [oM 35 0, oM 36 10, ⟨some 37, none, .callF false 93 [(.t 35), (.t 36), (.t 9)]⟩, oM 10 37])
  (.seq (.ops [oM 38 0, oM 39 11, ⟨some 40, none, .callF false 93 [(.t 38), (.t 39), (.t 9)]⟩, oM 11 40])
  (.ops [oM 41 0, oM 42 12, ⟨some 43, none, .callF false 93 [(.t 41), (.t 42), (.t 9)]⟩, oM 12 43])))
  .skip))
  (.ops [oM 44 0, oM 45 10, oM 46 11, oM 47 12, ⟨some 48, none, .callF false 94 [(.t 44), (.t 45), (.t 46), (.t 47), (.t 9)]⟩, oM 11 48]))
  .skip))
  (.seq (.ops [oL 49 9])
  (.block 0 (some [6, 7, 11, 49]) (.seq (.ops [⟨some 52, none, .bin .eql (.t 49) (.c (.int .i64 0))⟩, oM 51 52])
  (.cond (.t 51)
  (.seq (.ops [oM 53 11, oM 6 53, ⟨some 7, none, .mov (.c (.int .i64 1))⟩])
  .ret)
  (.seq (.ops [⟨some 55, none, .bin .eql (.t 49) (.c (.int .i64 12))⟩, oM 54 55])
  (.cond (.t 54)
  (.seq (.ops [oM 56 11, oM 6 56, ⟨some 7, none, .mov (.c (.int .i64 2))⟩])
  .ret)
  (.seq (.ops [oM 50 11, oM 6 50, ⟨some 7, none, .mov (.c (.int .i64 0))⟩])
  .ret))))))))))))))⟩
/- slices.reverseRangeOrdered[uint32] -/
def B83_0 : C := (.seq (.seq (.ops [oM 11 6, oM 12 7, ⟨some 13, none, .bin .lss (.t 11) (.t 12)⟩])
  (.cond (.t 13)
  .skip
  (.exit 0)))
  (.block 1 (some [0, 6, 7]) (.seq (.ops [oM 14 0, oM 15 6, oM 16 0, oM 17 7, oM 18 0, oM 19 7, ⟨some 20, none, .iaddr 1 (.t 18) (.t 19)⟩, oL 21 20, oM 22 0, oM 23 6, ⟨some 24, none, .iaddr 1 (.t 22) (.t 23)⟩, oL 25 24, ⟨some 26, none, .iaddr 1 (.t 14) (.t 15)⟩, oS 1 26 21, ⟨some 27, none, .iaddr 1 (.t 16) (.t 17)⟩, oS 1 27 25])
  (.seq (.ops [oM 28 6, ⟨some 29, none, .bin .add (.t 28) (.c (.int .i64 1))⟩, oM 6 29])
  (.ops [oM 30 7, ⟨some 31, none, .bin .sub (.t 30) (.c (.int .i64 1))⟩, oM 7 31])))))
def L83_0 : C := .loop (some [0, 6, 7]) B83_0
theorem L83_0_eq {E : Env} (x : St) : ev E L83_0 x = andThen (ev E B83_0 (restr (some [0, 6, 7]) x)) (ev E L83_0) := ev_loop _ _ x
theorem L83_0_lp {E : Env} (s : Slots) (h : Heap) : ev E L83_0 ⟨s, h⟩ = lp E L83_0 (pickS s [0, 6, 7]) h := lp_of L83_0_eq s h
theorem L83_0_go {E : Env} (s : Slots) (h : Heap) : lp E L83_0 s h = andThen (ev E B83_0 ⟨pickS s [0, 6, 7], h⟩) (ev E L83_0) := lp_go L83_0_eq s h
noncomputable def T83_0 (E : Env) (o : Out) : Option (AV × Heap) := outR [] (endBlock 0 (some [0, 6, 7]) (o))
def I83 : Fn_ := ⟨3, 32, [],
  (.seq (.ops [oM 8 1, oM 6 8])
  (.seq (.ops [oM 9 2, ⟨some 10, none, .bin .sub (.t 9) (.c (.int .i64 1))⟩, oM 7 10])
  (.block 0 (some [0, 6, 7]) L83_0)))⟩
/- slices.partialInsertionSortOrdered[uint32] -/
def B84_0 : C := (.seq (.seq (.ops [oM 17 7, oM 18 2, ⟨some 19, none, .bin .lss (.t 17) (.t 18)⟩, oM 20 19, gM 21 20 true 0, gM 22 20 true 7, ⟨some 23, (some (20, true)), .iaddr 1 (.t 21) (.t 22)⟩, gL 24 20 true 23, gM 25 20 true 0, gM 26 20 true 7, ⟨some 27, (some (20, true)), .bin .sub (.t 26) (.c (.int .i64 1))⟩, ⟨some 28, (some (20, true)), .iaddr 1 (.t 25) (.t 27)⟩, gL 29 20 true 28, ⟨some 30, (some (20, true)), .callF true 85 [(.t 24), (.t 29)]⟩, ⟨some 31, (some (20, true)), .un .not (.t 30)⟩, oN 32 20 31])
  (.cond (.t 32)
  .skip
  (.exit 2)))
  (.block 3 (some [0, 1, 2, 7, 8]) (.ops [oM 33 7, ⟨some 34, none, .bin .add (.t 33) (.c (.int .i64 1))⟩, oM 7 34])))
def L84_0 : C := .loop (some [0, 1, 2, 7, 8]) B84_0
theorem L84_0_eq {E : Env} (x : St) : ev E L84_0 x = andThen (ev E B84_0 (restr (some [0, 1, 2, 7, 8]) x)) (ev E L84_0) := ev_loop _ _ x
theorem L84_0_lp {E : Env} (s : Slots) (h : Heap) : ev E L84_0 ⟨s, h⟩ = lp E L84_0 (pickS s [0, 1, 2, 7, 8]) h := lp_of L84_0_eq s h
theorem L84_0_go {E : Env} (s : Slots) (h : Heap) : lp E L84_0 s h = andThen (ev E B84_0 ⟨pickS s [0, 1, 2, 7, 8], h⟩) (ev E L84_0) := lp_go L84_0_eq s h
def B84_1 : C := (.seq (.seq (.ops [oM 64 9, ⟨some 65, none, .bin .geq (.t 64) (.c (.int .i64 1))⟩])
  (.cond (.t 65)
  .skip
  (.exit 4)))
  (.seq (.block 5 (some [0, 1, 2, 7, 8, 9]) (.seq (.seq (.ops [oM 68 0, oM 69 9, ⟨some 70, none, .iaddr 1 (.t 68) (.t 69)⟩, oL 71 70, oM 72 0, oM 73 9, ⟨some 74, none, .bin .sub (.t 73) (.c (.int .i64 1))⟩, ⟨some 75, none, .iaddr 1 (.t 72) (.t 74)⟩, oL 76 75, ⟨some 77, none, .callF true 85 [(.t 71), (.t 76)]⟩, ⟨some 78, none, .un .not (.t 77)⟩])
  (.cond (.t 78)
  (.exit 4)
  .skip))
  (.ops [oM 79 0, oM 80 9, oM 81 0, oM 82 9, ⟨some 83, none, .bin .sub (.t 82) (.c (.int .i64 1))⟩, oM 84 0, oM 85 9, ⟨some 86, none, .bin .sub (.t 85) (.c (.int .i64 1))⟩, ⟨some 87, none, .iaddr 1 (.t 84) (.t 86)⟩, oL 88 87, oM 89 0, oM 90 9, ⟨some 91, none, .iaddr 1 (.t 89) (.t 90)⟩, oL 92 91, ⟨some 93, none, .iaddr 1 (.t 79) (.t 80)⟩, oS 1 93 88, ⟨some 94, none, .iaddr 1 (.t 81) (.t 83)⟩, oS 1 94 92])))
  (.ops [oM 66 9, ⟨some 67, none, .bin .sub (.t 66) (.c (.int .i64 1))⟩, oM 9 67])))
def L84_1 : C := .loop (some [0, 1, 2, 7, 8, 9]) B84_1
theorem L84_1_eq {E : Env} (x : St) : ev E L84_1 x = andThen (ev E B84_1 (restr (some [0, 1, 2, 7, 8, 9]) x)) (ev E L84_1) := ev_loop _ _ x
theorem L84_1_lp {E : Env} (s : Slots) (h : Heap) : ev E L84_1 ⟨s, h⟩ = lp E L84_1 (pickS s [0, 1, 2, 7, 8, 9]) h := lp_of L84_1_eq s h
theorem L84_1_go {E : Env} (s : Slots) (h : Heap) : lp E L84_1 s h = andThen (ev E B84_1 ⟨pickS s [0, 1, 2, 7, 8, 9], h⟩) (ev E L84_1) := lp_go L84_1_eq s h
def B84_2 : C := (.seq (.seq (.ops [oM 101 10, oM 102 2, ⟨some 103, none, .bin .lss (.t 101) (.t 102)⟩])
  (.cond (.t 103)
  .skip
  (.exit 6)))
  (.seq (.block 7 (some [0, 1, 2, 7, 8, 10]) (.seq (.seq (.ops [oM 106 0, oM 107 10, ⟨some 108, none, .iaddr 1 (.t 106) (.t 107)⟩, oL 109 108, oM 110 0, oM 111 10, ⟨some 112, none, .bin .sub (.t 111) (.c (.int .i64 1))⟩, ⟨some 113, none, .iaddr 1 (.t 110) (.t 112)⟩, oL 114 113, ⟨some 115, none, .callF true 85 [(.t 109), (.t 114)]⟩, ⟨some 116, none, .un .not (.t 115)⟩])
  (.cond (.t 116)
  (.exit 6)
  .skip))
  (.ops [oM 117 0, oM 118 10, oM 119 0, oM 120 10, ⟨some 121, none, .bin .sub (.t 120) (.c (.int .i64 1))⟩, oM 122 0, oM 123 10, ⟨some 124, none, .bin .sub (.t 123) (.c (.int .i64 1))⟩, ⟨some 125, none, .iaddr 1 (.t 122) (.t 124)⟩, oL 126 125, oM 127 0, oM 128 10, ⟨some 129, none, .iaddr 1 (.t 127) (.t 128)⟩, oL 130 129, ⟨some 131, none, .iaddr 1 (.t 117) (.t 118)⟩, oS 1 131 126, ⟨some 132, none, .iaddr 1 (.t 119) (.t 121)⟩, oS 1 132 130])))
  (.ops [oM 104 10, ⟨some 105, none, .bin .add (.t 104) (.c (.int .i64 1))⟩, oM 10 105])))
def L84_2 : C := .loop (some [0, 1, 2, 7, 8, 10]) B84_2
theorem L84_2_eq {E : Env} (x : St) : ev E L84_2 x = andThen (ev E B84_2 (restr (some [0, 1, 2, 7, 8, 10]) x)) (ev E L84_2) := ev_loop _ _ x
theorem L84_2_lp {E : Env} (s : Slots) (h : Heap) : ev E L84_2 ⟨s, h⟩ = lp E L84_2 (pickS s [0, 1, 2, 7, 8, 10]) h := lp_of L84_2_eq s h
theorem L84_2_go {E : Env} (s : Slots) (h : Heap) : lp E L84_2 s h = andThen (ev E B84_2 ⟨pickS s [0, 1, 2, 7, 8, 10], h⟩) (ev E L84_2) := lp_go L84_2_eq s h
def B84_3 : C := (.seq (.seq (.ops [oM 13 8, ⟨some 14, none, .bin .lss (.t 13) (.c (.int .i64 5))⟩])
  (.cond (.t 14)
  .skip
  (.exit 0)))
  (.seq (.block 1 (some [0, 1, 2, 7, 8]) (.seq (.block 2 (some [0, 1, 2, 7, 8]) L84_0)
  (.seq (.seq (.ops [oM 35 7, oM 36 2, ⟨some 37, none, .bin .eql (.t 35) (.t 36)⟩])
  (.cond (.t 37)
  (.seq (.ops [⟨some 6, none, .mov (.c (.bool true))⟩])
  .ret)
  .skip))
  (.seq (.seq (.ops [oM 38 2, oM 39 1, ⟨some 40, none, .bin .sub (.t 38) (.t 39)⟩, ⟨some 41, none, .bin .lss (.t 40) (.c (.int .i64 50))⟩])
  (.cond (.t 41)
  (.seq (.ops [⟨some 6, none, .mov (.c (.bool false))⟩])
  .ret)
  .skip))
  (.seq (.ops [oM 42 0, oM 43 7, oM 44 0, oM 45 7, ⟨some 46, none, .bin .sub (.t 45) (.c (.int .i64 1))⟩, oM 47 0, oM 48 7, ⟨some 49, none, .bin .sub (.t 48) (.c (.int .i64 1))⟩, ⟨some 50, none, .iaddr 1 (.t 47) (.t 49)⟩, oL 51 50, oM 52 0, oM 53 7, ⟨some 54, none, .iaddr 1 (.t 52) (.t 53)⟩, oL 55 54, ⟨some 56, none, .iaddr 1 (.t 42) (.t 43)⟩, oS 1 56 51, ⟨some 57, none, .iaddr 1 (.t 44) (.t 46)⟩, oS 1 57 55])
  (.seq (.seq (.ops [oM 58 7, oM 59 1, ⟨some 60, none, .bin .sub (.t 58) (.t 59)⟩, ⟨some 61, none, .bin .geq (.t 60) (.c (.int .i64 2))⟩])
  (.cond (.t 61)
  (.seq (.ops [oM 62 7, ⟨some 63, none, .bin .sub (.t 62) (.c (.int .i64 1))⟩, oM 9 63])
  (.block 4 (some [0, 1, 2, 7, 8, 9]) L84_1))
  .skip))
  (.seq (.ops [oM 95 2, oM 96 7, ⟨some 97, none, .bin .sub (.t 95) (.t 96)⟩, ⟨some 98, none, .bin .geq (.t 97) (.c (.int .i64 2))⟩])
  (.cond (.t 98)
  (.seq (.ops [oM 99 7, ⟨some 100, none, .bin .add (.t 99) (.c (.int .i64 1))⟩, oM 10 100])
  (.block 6 (some [0, 1, 2, 7, 8, 10]) L84_2))
  .skip))))))))
  (.ops [oM 15 8, ⟨some 16, none, .bin .add (.t 15) (.c (.int .i64 1))⟩, oM 8 16])))
def L84_3 : C := .loop (some [0, 1, 2, 7, 8]) B84_3
theorem L84_3_eq {E : Env} (x : St) : ev E L84_3 x = andThen (ev E B84_3 (restr (some [0, 1, 2, 7, 8]) x)) (ev E L84_3) := ev_loop _ _ x
theorem L84_3_lp {E : Env} (s : Slots) (h : Heap) : ev E L84_3 ⟨s, h⟩ = lp E L84_3 (pickS s [0, 1, 2, 7, 8]) h := lp_of L84_3_eq s h
theorem L84_3_go {E : Env} (s : Slots) (h : Heap) : lp E L84_3 s h = andThen (ev E B84_3 ⟨pickS s [0, 1, 2, 7, 8], h⟩) (ev E L84_3) := lp_go L84_3_eq s h
noncomputable def T84_3 (E : Env) (o : Out) : Option (AV × Heap) := outR [(6, none)] (andThen (endBlock 0 (some [0, 1, 2, 7, 8]) (o)) (ev E (.seq (.ops [⟨some 6, none, .mov (.c (.bool false))⟩])
  .ret)))
noncomputable def T84_2 (E : Env) (o : Out) : Option (AV × Heap) := T84_3 E (andThen (andThen (endBlock 1 (some [0, 1, 2, 7, 8]) (endBlock 6 (some [0, 1, 2, 7, 8, 10]) (o))) (ev E (.ops [oM 15 8, ⟨some 16, none, .bin .add (.t 15) (.c (.int .i64 1))⟩, oM 8 16]))) (ev E L84_3))
noncomputable def T84_1 (E : Env) (o : Out) : Option (AV × Heap) := T84_3 E (andThen (andThen (endBlock 1 (some [0, 1, 2, 7, 8]) (andThen (endBlock 4 (some [0, 1, 2, 7, 8, 9]) (o)) (ev E (.seq (.ops [oM 95 2, oM 96 7, ⟨some 97, none, .bin .sub (.t 95) (.t 96)⟩, ⟨some 98, none, .bin .geq (.t 97) (.c (.int .i64 2))⟩])
  (.cond (.t 98)
  (.seq (.ops [oM 99 7, ⟨some 100, none, .bin .add (.t 99) (.c (.int .i64 1))⟩, oM 10 100])
  (.block 6 (some [0, 1, 2, 7, 8, 10]) L84_2))
  .skip))))) (ev E (.ops [oM 15 8, ⟨some 16, none, .bin .add (.t 15) (.c (.int .i64 1))⟩, oM 8 16]))) (ev E L84_3))
noncomputable def T84_0 (E : Env) (o : Out) : Option (AV × Heap) := T84_3 E (andThen (andThen (endBlock 1 (some [0, 1, 2, 7, 8]) (andThen (endBlock 2 (some [0, 1, 2, 7, 8]) (o)) (ev E (.seq (.seq (.ops [oM 35 7, oM 36 2, ⟨some 37, none, .bin .eql (.t 35) (.t 36)⟩])
  (.cond (.t 37)
  (.seq (.ops [⟨some 6, none, .mov (.c (.bool true))⟩])
  .ret)
  .skip))
  (.seq (.seq (.ops [oM 38 2, oM 39 1, ⟨some 40, none, .bin .sub (.t 38) (.t 39)⟩, ⟨some 41, none, .bin .lss (.t 40) (.c (.int .i64 50))⟩])
  (.cond (.t 41)
  (.seq (.ops [⟨some 6, none, .mov (.c (.bool false))⟩])
  .ret)
  .skip))
  (.seq (.ops [oM 42 0, oM 43 7, oM 44 0, oM 45 7, ⟨some 46, none, .bin .sub (.t 45) (.c (.int .i64 1))⟩, oM 47 0, oM 48 7, ⟨some 49, none, .bin .sub (.t 48) (.c (.int .i64 1))⟩, ⟨some 50, none, .iaddr 1 (.t 47) (.t 49)⟩, oL 51 50, oM 52 0, oM 53 7, ⟨some 54, none, .iaddr 1 (.t 52) (.t 53)⟩, oL 55 54, ⟨some 56, none, .iaddr 1 (.t 42) (.t 43)⟩, oS 1 56 51, ⟨some 57, none, .iaddr 1 (.t 44) (.t 46)⟩, oS 1 57 55])
  (.seq (.seq (.ops [oM 58 7, oM 59 1, ⟨some 60, none, .bin .sub (.t 58) (.t 59)⟩, ⟨some 61, none, .bin .geq (.t 60) (.c (.int .i64 2))⟩])
  (.cond (.t 61)
  (.seq (.ops [oM 62 7, ⟨some 63, none, .bin .sub (.t 62) (.c (.int .i64 1))⟩, oM 9 63])
  (.block 4 (some [0, 1, 2, 7, 8, 9]) L84_1))
  .skip))
  (.seq (.ops [oM 95 2, oM 96 7, ⟨some 97, none, .bin .sub (.t 95) (.t 96)⟩, ⟨some 98, none, .bin .geq (.t 97) (.c (.int .i64 2))⟩])
  (.cond (.t 98)
  (.seq (.ops [oM 99 7, ⟨some 100, none, .bin .add (.t 99) (.c (.int .i64 1))⟩, oM 10 100])
  (.block 6 (some [0, 1, 2, 7, 8, 10]) L84_2))
  .skip))))))))) (ev E (.ops [oM 15 8, ⟨some 16, none, .bin .add (.t 15) (.c (.int .i64 1))⟩, oM 8 16]))) (ev E L84_3))
def I84 : Fn_ := ⟨3, 133, [(6, none)],
  (.seq (.ops [⟨some 6, none, .mov (.c (.bool false))⟩])
  (.seq (.ops [oM 11 1, ⟨some 12, none, .bin .add (.t 11) (.c (.int .i64 1))⟩, oM 7 12])
  (.seq (.seq (.ops [⟨some 8, none, .mov (.c (.int .i64 0))⟩])
  (.block 0 (some [0, 1, 2, 7, 8]) L84_3))
  (.seq (.ops [⟨some 6, none, .mov (.c (.bool false))⟩])
  .ret))))⟩
/- cmp.Less[uint32] -/
def I85 : Fn_ := ⟨2, 17, [(4, none)],
  (.seq (.ops [⟨some 4, none, .mov (.c (.bool false))⟩])
  (.seq (.ops [oM 5 0, ⟨some 6, none, .callF false 95 [(.t 5)]⟩, oM 7 6, gM 8 7 true 1, ⟨some 9, (some (7, true)), .callF false 95 [(.t 8)]⟩, ⟨some 10, (some (7, true)), .un .not (.t 9)⟩, oN 11 7 10, oM 12 11, gM 13 12 false 0, gM 14 12 false 1, ⟨some 15, (some (12, false)), .bin .lss (.t 13) (.t 14)⟩, oT 16 12 15, oM 4 16])
  .ret))⟩
/- slices.partitionEqualOrdered[uint32] -/
def B86_0 : C := (.seq (.seq (.ops [oM 29 9, oM 30 10, ⟨some 31, none, .bin .leq (.t 29) (.t 30)⟩, oM 32 31, gM 33 32 true 0, gM 34 32 true 1, ⟨some 35, (some (32, true)), .iaddr 1 (.t 33) (.t 34)⟩, gL 36 32 true 35, gM 37 32 true 0, gM 38 32 true 9, ⟨some 39, (some (32, true)), .iaddr 1 (.t 37) (.t 38)⟩, gL 40 32 true 39, ⟨some 41, (some (32, true)), .callF true 85 [(.t 36), (.t 40)]⟩, ⟨some 42, (some (32, true)), .un .not (.t 41)⟩, oN 43 32 42])
  (.cond (.t 43)
  .skip
  (.exit 2)))
  (.block 3 (some [0, 1, 9, 10]) (.ops [oM 44 9, ⟨some 45, none, .bin .add (.t 44) (.c (.int .i64 1))⟩, oM 9 45])))
def L86_0 : C := .loop (some [0, 1, 9, 10]) B86_0
theorem L86_0_eq {E : Env} (x : St) : ev E L86_0 x = andThen (ev E B86_0 (restr (some [0, 1, 9, 10]) x)) (ev E L86_0) := ev_loop _ _ x
theorem L86_0_lp {E : Env} (s : Slots) (h : Heap) : ev E L86_0 ⟨s, h⟩ = lp E L86_0 (pickS s [0, 1, 9, 10]) h := lp_of L86_0_eq s h
theorem L86_0_go {E : Env} (s : Slots) (h : Heap) : lp E L86_0 s h = andThen (ev E B86_0 ⟨pickS s [0, 1, 9, 10], h⟩) (ev E L86_0) := lp_go L86_0_eq s h
def B86_1 : C := (.seq (.seq (.ops [oM 46 9, oM 47 10, ⟨some 48, none, .bin .leq (.t 46) (.t 47)⟩, oM 49 48, gM 50 49 true 0, gM 51 49 true 1, ⟨some 52, (some (49, true)), .iaddr 1 (.t 50) (.t 51)⟩, gL 53 49 true 52, gM 54 49 true 0, gM 55 49 true 10, ⟨some 56, (some (49, true)), .iaddr 1 (.t 54) (.t 55)⟩, gL 57 49 true 56, ⟨some 58, (some (49, true)), .callF true 85 [(.t 53), (.t 57)]⟩, oN 59 49 58])
  (.cond (.t 59)
  .skip
  (.exit 4)))
  (.block 5 (some [0, 1, 9, 10]) (.ops [oM 60 10, ⟨some 61, none, .bin .sub (.t 60) (.c (.int .i64 1))⟩, oM 10 61])))
def L86_1 : C := .loop (some [0, 1, 9, 10]) B86_1
theorem L86_1_eq {E : Env} (x : St) : ev E L86_1 x = andThen (ev E B86_1 (restr (some [0, 1, 9, 10]) x)) (ev E L86_1) := ev_loop _ _ x
theorem L86_1_lp {E : Env} (s : Slots) (h : Heap) : ev E L86_1 ⟨s, h⟩ = lp E L86_1 (pickS s [0, 1, 9, 10]) h := lp_of L86_1_eq s h
theorem L86_1_go {E : Env} (s : Slots) (h : Heap) : lp E L86_1 s h = andThen (ev E B86_1 ⟨pickS s [0, 1, 9, 10], h⟩) (ev E L86_1) := lp_go L86_1_eq s h
def B86_2 : C := (.block 1 (some [0, 1, 9, 10]) (.seq (.block 2 (some [0, 1, 9, 10]) L86_0)
  (.seq (.block 4 (some [0, 1, 9, 10]) L86_1)
  (.seq (.seq (.ops [oM 62 9, oM 63 10, ⟨some 64, none, .bin .gtr (.t 62) (.t 63)⟩])
  (.cond (.t 64)
  (.exit 0)
  .skip))
  (.seq (.ops [oM 65 0, oM 66 9, oM 67 0, oM 68 10, oM 69 0, oM 70 10, ⟨some 71, none, .iaddr 1 (.t 69) (.t 70)⟩, oL 72 71, oM 73 0, oM 74 9, ⟨some 75, none, .iaddr 1 (.t 73) (.t 74)⟩, oL 76 75, ⟨some 77, none, .iaddr 1 (.t 65) (.t 66)⟩, oS 1 77 72, ⟨some 78, none, .iaddr 1 (.t 67) (.t 68)⟩, oS 1 78 76])
  (.seq (.ops [oM 79 9, ⟨some 80, none, .bin .add (.t 79) (.c (.int .i64 1))⟩, oM 9 80])
  (.ops [oM 81 10, ⟨some 82, none, .bin .sub (.t 81) (.c (.int .i64 1))⟩, oM 10 82])))))))
def L86_2 : C := .loop (some [0, 1, 9, 10]) B86_2
theorem L86_2_eq {E : Env} (x : St) : ev E L86_2 x = andThen (ev E B86_2 (restr (some [0, 1, 9, 10]) x)) (ev E L86_2) := ev_loop _ _ x
theorem L86_2_lp {E : Env} (s : Slots) (h : Heap) : ev E L86_2 ⟨s, h⟩ = lp E L86_2 (pickS s [0, 1, 9, 10]) h := lp_of L86_2_eq s h
theorem L86_2_go {E : Env} (s : Slots) (h : Heap) : lp E L86_2 s h = andThen (ev E B86_2 ⟨pickS s [0, 1, 9, 10], h⟩) (ev E L86_2) := lp_go L86_2_eq s h
noncomputable def T86_2 (E : Env) (o : Out) : Option (AV × Heap) := outR [(8, none)] (andThen (endBlock 0 (some [0, 1, 9, 10]) (o)) (ev E (.seq (.ops [oM 83 9, oM 8 83])
  .ret)))
noncomputable def T86_1 (E : Env) (o : Out) : Option (AV × Heap) := T86_2 E (andThen (endBlock 1 (some [0, 1, 9, 10]) (andThen (endBlock 4 (some [0, 1, 9, 10]) (o)) (ev E (.seq (.seq (.ops [oM 62 9, oM 63 10, ⟨some 64, none, .bin .gtr (.t 62) (.t 63)⟩])
  (.cond (.t 64)
  (.exit 0)
  .skip))
  (.seq (.ops [oM 65 0, oM 66 9, oM 67 0, oM 68 10, oM 69 0, oM 70 10, ⟨some 71, none, .iaddr 1 (.t 69) (.t 70)⟩, oL 72 71, oM 73 0, oM 74 9, ⟨some 75, none, .iaddr 1 (.t 73) (.t 74)⟩, oL 76 75, ⟨some 77, none, .iaddr 1 (.t 65) (.t 66)⟩, oS 1 77 72, ⟨some 78, none, .iaddr 1 (.t 67) (.t 68)⟩, oS 1 78 76])
  (.seq (.ops [oM 79 9, ⟨some 80, none, .bin .add (.t 79) (.c (.int .i64 1))⟩, oM 9 80])
  (.ops [oM 81 10, ⟨some 82, none, .bin .sub (.t 81) (.c (.int .i64 1))⟩, oM 10 82]))))))) (ev E L86_2))
noncomputable def T86_0 (E : Env) (o : Out) : Option (AV × Heap) := T86_2 E (andThen (endBlock 1 (some [0, 1, 9, 10]) (andThen (endBlock 2 (some [0, 1, 9, 10]) (o)) (ev E (.seq (.block 4 (some [0, 1, 9, 10]) L86_1)
  (.seq (.seq (.ops [oM 62 9, oM 63 10, ⟨some 64, none, .bin .gtr (.t 62) (.t 63)⟩])
  (.cond (.t 64)
  (.exit 0)
  .skip))
  (.seq (.ops [oM 65 0, oM 66 9, oM 67 0, oM 68 10, oM 69 0, oM 70 10, ⟨some 71, none, .iaddr 1 (.t 69) (.t 70)⟩, oL 72 71, oM 73 0, oM 74 9, ⟨some 75, none, .iaddr 1 (.t 73) (.t 74)⟩, oL 76 75, ⟨some 77, none, .iaddr 1 (.t 65) (.t 66)⟩, oS 1 77 72, ⟨some 78, none, .iaddr 1 (.t 67) (.t 68)⟩, oS 1 78 76])
  (.seq (.ops [oM 79 9, ⟨some 80, none, .bin .add (.t 79) (.c (.int .i64 1))⟩, oM 9 80])
  (.ops [oM 81 10, ⟨some 82, none, .bin .sub (.t 81) (.c (.int .i64 1))⟩, oM 10 82])))))))) (ev E L86_2))
def I86 : Fn_ := ⟨4, 84, [(8, none)],
  (.seq (.ops [⟨some 8, none, .mov (.c (.int .i64 0))⟩])
  (.seq (.ops [oM 11 0, oM 12 1, oM 13 0, oM 14 3, oM 15 0, oM 16 3, ⟨some 17, none, .iaddr 1 (.t 15) (.t 16)⟩, oL 18 17, oM 19 0, oM 20 1, ⟨some 21, none, .iaddr 1 (.t 19) (.t 20)⟩, oL 22 21, ⟨some 23, none, .iaddr 1 (.t 11) (.t 12)⟩, oS 1 23 18, ⟨some 24, none, .iaddr 1 (.t 13) (.t 14)⟩, oS 1 24 22])
  (.seq (.ops [oM 25 1, ⟨some 26, none, .bin .add (.t 25) (.c (.int .i64 1))⟩, oM 27 2, ⟨some 28, none, .bin .sub (.t 27) (.c (.int .i64 1))⟩, oM 9 26, oM 10 28])
  (.seq (.block 0 (some [0, 1, 9, 10]) L86_2)
  (.seq (.ops [oM 83 9, oM 8 83])
  .ret)))))⟩
/- slices.partitionOrdered[uint32] -/
def B87_0 : C := (.seq (.seq (.ops [oM 30 10, oM 31 11, ⟨some 32, none, .bin .leq (.t 30) (.t 31)⟩, oM 33 32, gM 34 33 true 0, gM 35 33 true 10, ⟨some 36, (some (33, true)), .iaddr 1 (.t 34) (.t 35)⟩, gL 37 33 true 36, gM 38 33 true 0, gM 39 33 true 1, ⟨some 40, (some (33, true)), .iaddr 1 (.t 38) (.t 39)⟩, gL 41 33 true 40, ⟨some 42, (some (33, true)), .callF true 85 [(.t 37), (.t 41)]⟩, oN 43 33 42])
  (.cond (.t 43)
  .skip
  (.exit 0)))
  (.block 1 (some [0, 1, 10, 11]) (.ops [oM 44 10, ⟨some 45, none, .bin .add (.t 44) (.c (.int .i64 1))⟩, oM 10 45])))
def L87_0 : C := .loop (some [0, 1, 10, 11]) B87_0
theorem L87_0_eq {E : Env} (x : St) : ev E L87_0 x = andThen (ev E B87_0 (restr (some [0, 1, 10, 11]) x)) (ev E L87_0) := ev_loop _ _ x
theorem L87_0_lp {E : Env} (s : Slots) (h : Heap) : ev E L87_0 ⟨s, h⟩ = lp E L87_0 (pickS s [0, 1, 10, 11]) h := lp_of L87_0_eq s h
theorem L87_0_go {E : Env} (s : Slots) (h : Heap) : lp E L87_0 s h = andThen (ev E B87_0 ⟨pickS s [0, 1, 10, 11], h⟩) (ev E L87_0) := lp_go L87_0_eq s h
def B87_1 : C := (.seq (.seq (.ops [oM 46 10, oM 47 11, ⟨some 48, none, .bin .leq (.t 46) (.t 47)⟩, oM 49 48, gM 50 49 true 0, gM 51 49 true 11, ⟨some 52, (some (49, true)), .iaddr 1 (.t 50) (.t 51)⟩, gL 53 49 true 52, gM 54 49 true 0, gM 55 49 true 1, ⟨some 56, (some (49, true)), .iaddr 1 (.t 54) (.t 55)⟩, gL 57 49 true 56, ⟨some 58, (some (49, true)), .callF true 85 [(.t 53), (.t 57)]⟩, ⟨some 59, (some (49, true)), .un .not (.t 58)⟩, oN 60 49 59])
  (.cond (.t 60)
  .skip
  (.exit 2)))
  (.block 3 (some [0, 1, 10, 11]) (.ops [oM 61 11, ⟨some 62, none, .bin .sub (.t 61) (.c (.int .i64 1))⟩, oM 11 62])))
def L87_1 : C := .loop (some [0, 1, 10, 11]) B87_1
theorem L87_1_eq {E : Env} (x : St) : ev E L87_1 x = andThen (ev E B87_1 (restr (some [0, 1, 10, 11]) x)) (ev E L87_1) := ev_loop _ _ x
theorem L87_1_lp {E : Env} (s : Slots) (h : Heap) : ev E L87_1 ⟨s, h⟩ = lp E L87_1 (pickS s [0, 1, 10, 11]) h := lp_of L87_1_eq s h
theorem L87_1_go {E : Env} (s : Slots) (h : Heap) : lp E L87_1 s h = andThen (ev E B87_1 ⟨pickS s [0, 1, 10, 11], h⟩) (ev E L87_1) := lp_go L87_1_eq s h
def B87_2 : C := (.seq (.seq (.ops [oM 99 10, oM 100 11, ⟨some 101, none, .bin .leq (.t 99) (.t 100)⟩, oM 102 101, gM 103 102 true 0, gM 104 102 true 10, ⟨some 105, (some (102, true)), .iaddr 1 (.t 103) (.t 104)⟩, gL 106 102 true 105, gM 107 102 true 0, gM 108 102 true 1, ⟨some 109, (some (102, true)), .iaddr 1 (.t 107) (.t 108)⟩, gL 110 102 true 109, ⟨some 111, (some (102, true)), .callF true 85 [(.t 106), (.t 110)]⟩, oN 112 102 111])
  (.cond (.t 112)
  .skip
  (.exit 6)))
  (.block 7 (some [0, 1, 10, 11]) (.ops [oM 113 10, ⟨some 114, none, .bin .add (.t 113) (.c (.int .i64 1))⟩, oM 10 114])))
def L87_2 : C := .loop (some [0, 1, 10, 11]) B87_2
theorem L87_2_eq {E : Env} (x : St) : ev E L87_2 x = andThen (ev E B87_2 (restr (some [0, 1, 10, 11]) x)) (ev E L87_2) := ev_loop _ _ x
theorem L87_2_lp {E : Env} (s : Slots) (h : Heap) : ev E L87_2 ⟨s, h⟩ = lp E L87_2 (pickS s [0, 1, 10, 11]) h := lp_of L87_2_eq s h
theorem L87_2_go {E : Env} (s : Slots) (h : Heap) : lp E L87_2 s h = andThen (ev E B87_2 ⟨pickS s [0, 1, 10, 11], h⟩) (ev E L87_2) := lp_go L87_2_eq s h
def B87_3 : C := (.seq (.seq (.ops [oM 115 10, oM 116 11, ⟨some 117, none, .bin .leq (.t 115) (.t 116)⟩, oM 118 117, gM 119 118 true 0, gM 120 118 true 11, ⟨some 121, (some (118, true)), .iaddr 1 (.t 119) (.t 120)⟩, gL 122 118 true 121, gM 123 118 true 0, gM 124 118 true 1, ⟨some 125, (some (118, true)), .iaddr 1 (.t 123) (.t 124)⟩, gL 126 118 true 125, ⟨some 127, (some (118, true)), .callF true 85 [(.t 122), (.t 126)]⟩, ⟨some 128, (some (118, true)), .un .not (.t 127)⟩, oN 129 118 128])
  (.cond (.t 129)
  .skip
  (.exit 8)))
  (.block 9 (some [0, 1, 10, 11]) (.ops [oM 130 11, ⟨some 131, none, .bin .sub (.t 130) (.c (.int .i64 1))⟩, oM 11 131])))
def L87_3 : C := .loop (some [0, 1, 10, 11]) B87_3
theorem L87_3_eq {E : Env} (x : St) : ev E L87_3 x = andThen (ev E B87_3 (restr (some [0, 1, 10, 11]) x)) (ev E L87_3) := ev_loop _ _ x
theorem L87_3_lp {E : Env} (s : Slots) (h : Heap) : ev E L87_3 ⟨s, h⟩ = lp E L87_3 (pickS s [0, 1, 10, 11]) h := lp_of L87_3_eq s h
theorem L87_3_go {E : Env} (s : Slots) (h : Heap) : lp E L87_3 s h = andThen (ev E B87_3 ⟨pickS s [0, 1, 10, 11], h⟩) (ev E L87_3) := lp_go L87_3_eq s h
def B87_4 : C := (.block 5 (some [0, 1, 10, 11]) (.seq (.block 6 (some [0, 1, 10, 11]) L87_2)
  (.seq (.block 8 (some [0, 1, 10, 11]) L87_3)
  (.seq (.seq (.ops [oM 132 10, oM 133 11, ⟨some 134, none, .bin .gtr (.t 132) (.t 133)⟩])
  (.cond (.t 134)
  (.exit 4)
  .skip))
  (.seq (.ops [oM 135 0, oM 136 10, oM 137 0, oM 138 11, oM 139 0, oM 140 11, ⟨some 141, none, .iaddr 1 (.t 139) (.t 140)⟩, oL 142 141, oM 143 0, oM 144 10, ⟨some 145, none, .iaddr 1 (.t 143) (.t 144)⟩, oL 146 145, ⟨some 147, none, .iaddr 1 (.t 135) (.t 136)⟩, oS 1 147 142, ⟨some 148, none, .iaddr 1 (.t 137) (.t 138)⟩, oS 1 148 146])
  (.seq (.ops [oM 149 10, ⟨some 150, none, .bin .add (.t 149) (.c (.int .i64 1))⟩, oM 10 150])
  (.ops [oM 151 11, ⟨some 152, none, .bin .sub (.t 151) (.c (.int .i64 1))⟩, oM 11 152])))))))
def L87_4 : C := .loop (some [0, 1, 10, 11]) B87_4
theorem L87_4_eq {E : Env} (x : St) : ev E L87_4 x = andThen (ev E B87_4 (restr (some [0, 1, 10, 11]) x)) (ev E L87_4) := ev_loop _ _ x
theorem L87_4_lp {E : Env} (s : Slots) (h : Heap) : ev E L87_4 ⟨s, h⟩ = lp E L87_4 (pickS s [0, 1, 10, 11]) h := lp_of L87_4_eq s h
theorem L87_4_go {E : Env} (s : Slots) (h : Heap) : lp E L87_4 s h = andThen (ev E B87_4 ⟨pickS s [0, 1, 10, 11], h⟩) (ev E L87_4) := lp_go L87_4_eq s h
noncomputable def T87_4 (E : Env) (o : Out) : Option (AV × Heap) := outR [(8, none), (9, none)] (andThen (endBlock 4 (some [0, 1, 10, 11]) (o)) (ev E (.seq (.ops [oM 153 0, oM 154 11, oM 155 0, oM 156 1, oM 157 0, oM 158 1, ⟨some 159, none, .iaddr 1 (.t 157) (.t 158)⟩, oL 160 159, oM 161 0, oM 162 11, ⟨some 163, none, .iaddr 1 (.t 161) (.t 162)⟩, oL 164 163, ⟨some 165, none, .iaddr 1 (.t 153) (.t 154)⟩, oS 1 165 160, ⟨some 166, none, .iaddr 1 (.t 155) (.t 156)⟩, oS 1 166 164])
  (.seq (.ops [oM 167 11, oM 8 167, ⟨some 9, none, .mov (.c (.bool false))⟩])
  .ret))))
noncomputable def T87_3 (E : Env) (o : Out) : Option (AV × Heap) := T87_4 E (andThen (endBlock 5 (some [0, 1, 10, 11]) (andThen (endBlock 8 (some [0, 1, 10, 11]) (o)) (ev E (.seq (.seq (.ops [oM 132 10, oM 133 11, ⟨some 134, none, .bin .gtr (.t 132) (.t 133)⟩])
  (.cond (.t 134)
  (.exit 4)
  .skip))
  (.seq (.ops [oM 135 0, oM 136 10, oM 137 0, oM 138 11, oM 139 0, oM 140 11, ⟨some 141, none, .iaddr 1 (.t 139) (.t 140)⟩, oL 142 141, oM 143 0, oM 144 10, ⟨some 145, none, .iaddr 1 (.t 143) (.t 144)⟩, oL 146 145, ⟨some 147, none, .iaddr 1 (.t 135) (.t 136)⟩, oS 1 147 142, ⟨some 148, none, .iaddr 1 (.t 137) (.t 138)⟩, oS 1 148 146])
  (.seq (.ops [oM 149 10, ⟨some 150, none, .bin .add (.t 149) (.c (.int .i64 1))⟩, oM 10 150])
  (.ops [oM 151 11, ⟨some 152, none, .bin .sub (.t 151) (.c (.int .i64 1))⟩, oM 11 152]))))))) (ev E L87_4))
noncomputable def T87_2 (E : Env) (o : Out) : Option (AV × Heap) := T87_4 E (andThen (endBlock 5 (some [0, 1, 10, 11]) (andThen (endBlock 6 (some [0, 1, 10, 11]) (o)) (ev E (.seq (.block 8 (some [0, 1, 10, 11]) L87_3)
  (.seq (.seq (.ops [oM 132 10, oM 133 11, ⟨some 134, none, .bin .gtr (.t 132) (.t 133)⟩])
  (.cond (.t 134)
  (.exit 4)
  .skip))
  (.seq (.ops [oM 135 0, oM 136 10, oM 137 0, oM 138 11, oM 139 0, oM 140 11, ⟨some 141, none, .iaddr 1 (.t 139) (.t 140)⟩, oL 142 141, oM 143 0, oM 144 10, ⟨some 145, none, .iaddr 1 (.t 143) (.t 144)⟩, oL 146 145, ⟨some 147, none, .iaddr 1 (.t 135) (.t 136)⟩, oS 1 147 142, ⟨some 148, none, .iaddr 1 (.t 137) (.t 138)⟩, oS 1 148 146])
  (.seq (.ops [oM 149 10, ⟨some 150, none, .bin .add (.t 149) (.c (.int .i64 1))⟩, oM 10 150])
  (.ops [oM 151 11, ⟨some 152, none, .bin .sub (.t 151) (.c (.int .i64 1))⟩, oM 11 152])))))))) (ev E L87_4))
noncomputable def T87_1 (E : Env) (o : Out) : Option (AV × Heap) := outR [(8, none), (9, none)] (andThen (endBlock 2 (some [0, 1, 10, 11]) (o)) (ev E (.seq (.seq (.ops [oM 63 10, oM 64 11, ⟨some 65, none, .bin .gtr (.t 63) (.t 64)⟩])
  (.cond (.t 65)
  (.seq (.ops [oM 66 0, oM 67 11, oM 68 0, oM 69 1, oM 70 0, oM 71 1, ⟨some 72, none, .iaddr 1 (.t 70) (.t 71)⟩, oL 73 72, oM 74 0, oM 75 11, ⟨some 76, none, .iaddr 1 (.t 74) (.t 75)⟩, oL 77 76, ⟨some 78, none, .iaddr 1 (.t 66) (.t 67)⟩, oS 1 78 73, ⟨some 79, none, .iaddr 1 (.t 68) (.t 69)⟩, oS 1 79 77])
  (.seq (.ops [oM 80 11, oM 8 80, ⟨some 9, none, .mov (.c (.bool true))⟩])
  .ret))
  .skip))
  (.seq (.ops [oM 81 0, oM 82 10, oM 83 0, oM 84 11, oM 85 0, oM 86 11, ⟨some 87, none, .iaddr 1 (.t 85) (.t 86)⟩, oL 88 87, oM 89 0, oM 90 10, ⟨some 91, none, .iaddr 1 (.t 89) (.t 90)⟩, oL 92 91, ⟨some 93, none, .iaddr 1 (.t 81) (.t 82)⟩, oS 1 93 88, ⟨some 94, none, .iaddr 1 (.t 83) (.t 84)⟩, oS 1 94 92])
  (.seq (.ops [oM 95 10, ⟨some 96, none, .bin .add (.t 95) (.c (.int .i64 1))⟩, oM 10 96])
  (.seq (.ops [oM 97 11, ⟨some 98, none, .bin .sub (.t 97) (.c (.int .i64 1))⟩, oM 11 98])
  (.seq (.block 4 (some [0, 1, 10, 11]) L87_4)
  (.seq (.ops [oM 153 0, oM 154 11, oM 155 0, oM 156 1, oM 157 0, oM 158 1, ⟨some 159, none, .iaddr 1 (.t 157) (.t 158)⟩, oL 160 159, oM 161 0, oM 162 11, ⟨some 163, none, .iaddr 1 (.t 161) (.t 162)⟩, oL 164 163, ⟨some 165, none, .iaddr 1 (.t 153) (.t 154)⟩, oS 1 165 160, ⟨some 166, none, .iaddr 1 (.t 155) (.t 156)⟩, oS 1 166 164])
  (.seq (.ops [oM 167 11, oM 8 167, ⟨some 9, none, .mov (.c (.bool false))⟩])
  .ret)))))))))
noncomputable def T87_0 (E : Env) (o : Out) : Option (AV × Heap) := outR [(8, none), (9, none)] (andThen (endBlock 0 (some [0, 1, 10, 11]) (o)) (ev E (.seq (.block 2 (some [0, 1, 10, 11]) L87_1)
  (.seq (.seq (.ops [oM 63 10, oM 64 11, ⟨some 65, none, .bin .gtr (.t 63) (.t 64)⟩])
  (.cond (.t 65)
  (.seq (.ops [oM 66 0, oM 67 11, oM 68 0, oM 69 1, oM 70 0, oM 71 1, ⟨some 72, none, .iaddr 1 (.t 70) (.t 71)⟩, oL 73 72, oM 74 0, oM 75 11, ⟨some 76, none, .iaddr 1 (.t 74) (.t 75)⟩, oL 77 76, ⟨some 78, none, .iaddr 1 (.t 66) (.t 67)⟩, oS 1 78 73, ⟨some 79, none, .iaddr 1 (.t 68) (.t 69)⟩, oS 1 79 77])
  (.seq (.ops [oM 80 11, oM 8 80, ⟨some 9, none, .mov (.c (.bool true))⟩])
  .ret))
  .skip))
  (.seq (.ops [oM 81 0, oM 82 10, oM 83 0, oM 84 11, oM 85 0, oM 86 11, ⟨some 87, none, .iaddr 1 (.t 85) (.t 86)⟩, oL 88 87, oM 89 0, oM 90 10, ⟨some 91, none, .iaddr 1 (.t 89) (.t 90)⟩, oL 92 91, ⟨some 93, none, .iaddr 1 (.t 81) (.t 82)⟩, oS 1 93 88, ⟨some 94, none, .iaddr 1 (.t 83) (.t 84)⟩, oS 1 94 92])
  (.seq (.ops [oM 95 10, ⟨some 96, none, .bin .add (.t 95) (.c (.int .i64 1))⟩, oM 10 96])
  (.seq (.ops [oM 97 11, ⟨some 98, none, .bin .sub (.t 97) (.c (.int .i64 1))⟩, oM 11 98])
  (.seq (.block 4 (some [0, 1, 10, 11]) L87_4)
  (.seq (.ops [oM 153 0, oM 154 11, oM 155 0, oM 156 1, oM 157 0, oM 158 1, ⟨some 159, none, .iaddr 1 (.t 157) (.t 158)⟩, oL 160 159, oM 161 0, oM 162 11, ⟨some 163, none, .iaddr 1 (.t 161) (.t 162)⟩, oL 164 163, ⟨some 165, none, .iaddr 1 (.t 153) (.t 154)⟩, oS 1 165 160, ⟨some 166, none, .iaddr 1 (.t 155) (.t 156)⟩, oS 1 166 164])
  (.seq (.ops [oM 167 11, oM 8 167, ⟨some 9, none, .mov (.c (.bool false))⟩])
  .ret))))))))))
def I87 : Fn_ := ⟨4, 168, [(8, none), (9, none)],
  (.seq (.ops [⟨some 8, none, .mov (.c (.int .i64 0))⟩, ⟨some 9, none, .mov (.c (.bool false))⟩])
  (.seq (.ops [oM 12 0, oM 13 1, oM 14 0, oM 15 3, oM 16 0, oM 17 3, ⟨some 18, none, .iaddr 1 (.t 16) (.t 17)⟩, oL 19 18, oM 20 0, oM 21 1, ⟨some 22, none, .iaddr 1 (.t 20) (.t 21)⟩, oL 23 22, ⟨some 24, none, .iaddr 1 (.t 12) (.t 13)⟩, oS 1 24 19, ⟨some 25, none, .iaddr 1 (.t 14) (.t 15)⟩, oS 1 25 23])
  (.seq (.ops [oM 26 1, ⟨some 27, none, .bin .add (.t 26) (.c (.int .i64 1))⟩, oM 28 2, ⟨some 29, none, .bin .sub (.t 28) (.c (.int .i64 1))⟩, oM 10 27, oM 11 29])
  (.seq (.block 0 (some [0, 1, 10, 11]) L87_0)
  (.seq (.block 2 (some [0, 1, 10, 11]) L87_1)
  (.seq (.seq (.ops [oM 63 10, oM 64 11, ⟨some 65, none, .bin .gtr (.t 63) (.t 64)⟩])
  (.cond (.t 65)
  (.seq (.ops [oM 66 0, oM 67 11, oM 68 0, oM 69 1, oM 70 0, oM 71 1, ⟨some 72, none, .iaddr 1 (.t 70) (.t 71)⟩, oL 73 72, oM 74 0, oM 75 11, ⟨some 76, none, .iaddr 1 (.t 74) (.t 75)⟩, oL 77 76, ⟨some 78, none, .iaddr 1 (.t 66) (.t 67)⟩, oS 1 78 73, ⟨some 79, none, .iaddr 1 (.t 68) (.t 69)⟩, oS 1 79 77])
  (.seq (.ops [oM 80 11, oM 8 80, ⟨some 9, none, .mov (.c (.bool true))⟩])
  .ret))
  .skip))
  (.seq (.ops [oM 81 0, oM 82 10, oM 83 0, oM 84 11, oM 85 0, oM 86 11, ⟨some 87, none, .iaddr 1 (.t 85) (.t 86)⟩, oL 88 87, oM 89 0, oM 90 10, ⟨some 91, none, .iaddr 1 (.t 89) (.t 90)⟩, oL 92 91, ⟨some 93, none, .iaddr 1 (.t 81) (.t 82)⟩, oS 1 93 88, ⟨some 94, none, .iaddr 1 (.t 83) (.t 84)⟩, oS 1 94 92])
  (.seq (.ops [oM 95 10, ⟨some 96, none, .bin .add (.t 95) (.c (.int .i64 1))⟩, oM 10 96])
  (.seq (.ops [oM 97 11, ⟨some 98, none, .bin .sub (.t 97) (.c (.int .i64 1))⟩, oM 11 98])
  (.seq (.block 4 (some [0, 1, 10, 11]) L87_4)
  (.seq (.ops [oM 153 0, oM 154 11, oM 155 0, oM 156 1, oM 157 0, oM 158 1, ⟨some 159, none, .iaddr 1 (.t 157) (.t 158)⟩, oL 160 159, oM 161 0, oM 162 11, ⟨some 163, none, .iaddr 1 (.t 161) (.t 162)⟩, oL 164 163, ⟨some 165, none, .iaddr 1 (.t 153) (.t 154)⟩, oS 1 165 160, ⟨some 166, none, .iaddr 1 (.t 155) (.t 156)⟩, oS 1 166 164])
  (.seq (.ops [oM 167 11, oM 8 167, ⟨some 9, none, .mov (.c (.bool false))⟩])
  .ret))))))))))))⟩
/- math/bits.Len32 -/
def I88 : Fn_ := ⟨1, 19, [(2, none)],
  (.seq (.ops [⟨some 2, none, .mov (.c (.int .i64 0))⟩])
  (.seq (.seq (.ops [oM 3 0, ⟨some 4, none, .bin .geq (.t 3) (.c (.int .u32 65536))⟩])
  (.cond (.t 4)
  (.seq (.ops [oM 5 0, ⟨some 6, none, .bin .shr (.t 5) (.c (.int .u64 16))⟩, oM 0 6])
  (.ops [⟨some 2, none, .mov (.c (.int .i64 16))⟩]))
  .skip))
  (.seq (.seq (.ops [oM 7 0, ⟨some 8, none, .bin .geq (.t 7) (.c (.int .u32 256))⟩])
  (.cond (.t 8)
  (.seq (.ops [oM 9 0, ⟨some 10, none, .bin .shr (.t 9) (.c (.int .u64 8))⟩, oM 0 10])
  (.ops [oM 11 2, ⟨some 12, none, .bin .add (.t 11) (.c (.int .i64 8))⟩, oM 2 12]))
  .skip))
  (.seq (.ops [oM 13 2, oM 14 0, ⟨some 15, none, .conv .u8 (.t 14)⟩, ⟨some 16, none, .indexS (.c (.str ⟨#[0, 1, 2, 2, 3, 3, 3, 3, 4, 4, 4, 4, 4, 4, 4, 4, 5, 5, 5, 5, 5, 5, 5, 5, 5, 5, 5, 5, 5, 5, 5, 5, 6, 6, 6, 6, 6, 6, 6, 6, 6, 6, 6, 6, 6, 6, 6, 6, 6, 6, 6, 6, 6, 6, 6, 6, 6, 6, 6, 6, 6, 6, 6, 6, 7, 7, 7, 7, 7, 7, 7, 7, 7, 7, 7, 7, 7, 7, 7, 7, 7, 7, 7, 7, 7, 7, 7, 7, 7, 7, 7, 7, 7, 7, 7, 7, 7, 7, 7, 7, 7, 7, 7, 7, 7, 7, 7, 7, 7, 7, 7, 7, 7, 7, 7, 7, 7, 7, 7, 7, 7, 7, 7, 7, 7, 7, 7, 7, 8, 8, 8, 8, 8, 8, 8, 8, 8, 8, 8, 8, 8, 8, 8, 8, 8, 8, 8, 8, 8, 8, 8, 8, 8, 8, 8, 8, 8, 8, 8, 8, 8, 8, 8, 8, 8, 8, 8, 8, 8, 8, 8, 8, 8, 8, 8, 8, 8, 8, 8, 8, 8, 8, 8, 8, 8, 8, 8, 8, 8, 8, 8, 8, 8, 8, 8, 8, 8, 8, 8, 8, 8, 8, 8, 8, 8, 8, 8, 8, 8, 8, 8, 8, 8, 8, 8, 8, 8, 8, 8, 8, 8, 8, 8, 8, 8, 8, 8, 8, 8, 8, 8, 8, 8, 8, 8, 8, 8, 8, 8, 8, 8, 8, 8, 8, 8, 8, 8, 8, 8, 8, 8, 8, 8, 8, 8, 8]⟩)) (.t 15)⟩, ⟨some 17, none, .conv .i64 (.t 16)⟩, ⟨some 18, none, .bin .add (.t 13) (.t 17)⟩, oM 2 18])
  .ret))))⟩
/- math/bits.Len64 -/
def I89 : Fn_ := ⟨1, 25, [(2, none)],
  (.seq (.ops [⟨some 2, none, .mov (.c (.int .i64 0))⟩])
  (.seq (.seq (.ops [oM 3 0, ⟨some 4, none, .bin .geq (.t 3) (.c (.int .u64 4294967296))⟩])
  (.cond (.t 4)
  (.seq (.ops [oM 5 0, ⟨some 6, none, .bin .shr (.t 5) (.c (.int .u64 32))⟩, oM 0 6])
  (.ops [⟨some 2, none, .mov (.c (.int .i64 32))⟩]))
  .skip))
  (.seq (.seq (.ops [oM 7 0, ⟨some 8, none, .bin .geq (.t 7) (.c (.int .u64 65536))⟩])
  (.cond (.t 8)
  (.seq (.ops [oM 9 0, ⟨some 10, none, .bin .shr (.t 9) (.c (.int .u64 16))⟩, oM 0 10])
  (.ops [oM 11 2, ⟨some 12, none, .bin .add (.t 11) (.c (.int .i64 16))⟩, oM 2 12]))
  .skip))
  (.seq (.seq (.ops [oM 13 0, ⟨some 14, none, .bin .geq (.t 13) (.c (.int .u64 256))⟩])
  (.cond (.t 14)
  (.seq (.ops [oM 15 0, ⟨some 16, none, .bin .shr (.t 15) (.c (.int .u64 8))⟩, oM 0 16])
  (.ops [oM 17 2, ⟨some 18, none, .bin .add (.t 17) (.c (.int .i64 8))⟩, oM 2 18]))
  .skip))
  (.seq (.ops [oM 19 2, oM 20 0, ⟨some 21, none, .conv .u8 (.t 20)⟩, ⟨some 22, none, .indexS (.c (.str ⟨#[0, 1, 2, 2, 3, 3, 3, 3, 4, 4, 4, 4, 4, 4, 4, 4, 5, 5, 5, 5, 5, 5, 5, 5, 5, 5, 5, 5, 5, 5, 5, 5, 6, 6, 6, 6, 6, 6, 6, 6, 6, 6, 6, 6, 6, 6, 6, 6, 6, 6, 6, 6, 6, 6, 6, 6, 6, 6, 6, 6, 6, 6, 6, 6, 7, 7, 7, 7, 7, 7, 7, 7, 7, 7, 7, 7, 7, 7, 7, 7, 7, 7, 7, 7, 7, 7, 7, 7, 7, 7, 7, 7, 7, 7, 7, 7, 7, 7, 7, 7, 7, 7, 7, 7, 7, 7, 7, 7, 7, 7, 7, 7, 7, 7, 7, 7, 7, 7, 7, 7, 7, 7, 7, 7, 7, 7, 7, 7, 8, 8, 8, 8, 8, 8, 8, 8, 8, 8, 8, 8, 8, 8, 8, 8, 8, 8, 8, 8, 8, 8, 8, 8, 8, 8, 8, 8, 8, 8, 8, 8, 8, 8, 8, 8, 8, 8, 8, 8, 8, 8, 8, 8, 8, 8, 8, 8, 8, 8, 8, 8, 8, 8, 8, 8, 8, 8, 8, 8, 8, 8, 8, 8, 8, 8, 8, 8, 8, 8, 8, 8, 8, 8, 8, 8, 8, 8, 8, 8, 8, 8, 8, 8, 8, 8, 8, 8, 8, 8, 8, 8, 8, 8, 8, 8, 8, 8, 8, 8, 8, 8, 8, 8, 8, 8, 8, 8, 8, 8, 8, 8, 8, 8, 8, 8, 8, 8, 8, 8, 8, 8, 8, 8, 8, 8, 8, 8]⟩)) (.t 21)⟩, ⟨some 23, none, .conv .i64 (.t 22)⟩, ⟨some 24, none, .bin .add (.t 19) (.t 23)⟩, oM 2 24])
  .ret)))))⟩
/- slices.siftDownOrdered[uint32] -/
def B90_0 : C := (.block 1 (some [0, 2, 3, 8]) (.seq (.ops [oM 11 8, ⟨some 12, none, .bin .mul (.c (.int .i64 2)) (.t 11)⟩, ⟨some 13, none, .bin .add (.t 12) (.c (.int .i64 1))⟩, oM 9 13])
  (.seq (.seq (.ops [oM 14 9, oM 15 2, ⟨some 16, none, .bin .geq (.t 14) (.t 15)⟩])
  (.cond (.t 16)
  (.exit 0)
  .skip))
  (.seq (.seq (.ops [oM 17 9, ⟨some 18, none, .bin .add (.t 17) (.c (.int .i64 1))⟩, oM 19 2, ⟨some 20, none, .bin .lss (.t 18) (.t 19)⟩, oM 21 20, gM 22 21 true 0, gM 23 21 true 3, gM 24 21 true 9, ⟨some 25, (some (21, true)), .bin .add (.t 23) (.t 24)⟩, ⟨some 26, (some (21, true)), .iaddr 1 (.t 22) (.t 25)⟩, gL 27 21 true 26, gM 28 21 true 0, gM 29 21 true 3, gM 30 21 true 9, ⟨some 31, (some (21, true)), .bin .add (.t 29) (.t 30)⟩, ⟨some 32, (some (21, true)), .bin .add (.t 31) (.c (.int .i64 1))⟩, ⟨some 33, (some (21, true)), .iaddr 1 (.t 28) (.t 32)⟩, gL 34 21 true 33, ⟨some 35, (some (21, true)), .callF true 85 [(.t 27), (.t 34)]⟩, oN 36 21 35])
  (.cond (.t 36)
  (.ops [oM 37 9, ⟨some 38, none, .bin .add (.t 37) (.c (.int .i64 1))⟩, oM 9 38])
  .skip))
  (.seq (.seq (.ops [oM 39 0, oM 40 3, oM 41 8, ⟨some 42, none, .bin .add (.t 40) (.t 41)⟩, ⟨some 43, none, .iaddr 1 (.t 39) (.t 42)⟩, oL 44 43, oM 45 0, oM 46 3, oM 47 9, ⟨some 48, none, .bin .add (.t 46) (.t 47)⟩, ⟨some 49, none, .iaddr 1 (.t 45) (.t 48)⟩, oL 50 49, ⟨some 51, none, .callF true 85 [(.t 44), (.t 50)]⟩, ⟨some 52, none, .un .not (.t 51)⟩])
  (.cond (.t 52)
  .ret
  .skip))
  (.seq (.ops [oM 53 0, oM 54 3, oM 55 8, ⟨some 56, none, .bin .add (.t 54) (.t 55)⟩, oM 57 0, oM 58 3, oM 59 9, ⟨some 60, none, .bin .add (.t 58) (.t 59)⟩, oM 61 0, oM 62 3, oM 63 9, ⟨some 64, none, .bin .add (.t 62) (.t 63)⟩, ⟨some 65, none, .iaddr 1 (.t 61) (.t 64)⟩, oL 66 65, oM 67 0, oM 68 3, oM 69 8, ⟨some 70, none, .bin .add (.t 68) (.t 69)⟩, ⟨some 71, none, .iaddr 1 (.t 67) (.t 70)⟩, oL 72 71, ⟨some 73, none, .iaddr 1 (.t 53) (.t 56)⟩, oS 1 73 66, ⟨some 74, none, .iaddr 1 (.t 57) (.t 60)⟩, oS 1 74 72])
  (.ops [oM 75 9, oM 8 75])))))))
def L90_0 : C := .loop (some [0, 2, 3, 8]) B90_0
theorem L90_0_eq {E : Env} (x : St) : ev E L90_0 x = andThen (ev E B90_0 (restr (some [0, 2, 3, 8]) x)) (ev E L90_0) := ev_loop _ _ x
theorem L90_0_lp {E : Env} (s : Slots) (h : Heap) : ev E L90_0 ⟨s, h⟩ = lp E L90_0 (pickS s [0, 2, 3, 8]) h := lp_of L90_0_eq s h
theorem L90_0_go {E : Env} (s : Slots) (h : Heap) : lp E L90_0 s h = andThen (ev E B90_0 ⟨pickS s [0, 2, 3, 8], h⟩) (ev E L90_0) := lp_go L90_0_eq s h
noncomputable def T90_0 (E : Env) (o : Out) : Option (AV × Heap) := outR [] (endBlock 0 (some [0, 2, 3, 8]) (o))
def I90 : Fn_ := ⟨4, 76, [],
  (.seq (.ops [oM 10 1, oM 8 10])
  (.block 0 (some [0, 2, 3, 8]) L90_0))⟩
/- slices.nextPowerOfTwo -/
def I91 : Fn_ := ⟨1, 7, [(2, none)],
  (.seq (.ops [⟨some 2, none, .mov (.c (.int .u64 0))⟩])
  (.seq (.ops [oM 3 0, ⟨some 4, none, .conv .u64 (.t 3)⟩, ⟨some 5, none, .callF false 78 [(.t 4)]⟩, ⟨some 6, none, .bin .shl (.c (.int .u64 1)) (.t 5)⟩, oM 2 6])
  .ret))⟩
/- (*slices.xorshift).Next -/
def I92 : Fn_ := ⟨1, 33, [(2, none)],
  (.seq (.ops [⟨some 2, none, .mov (.c (.int .u64 0))⟩])
  (.seq (.ops [oM 3 0, ⟨some 4, none, .nilChk (.t 3)⟩, oL 5 4, oM 6 0, ⟨some 7, none, .nilChk (.t 6)⟩, oL 8 7, ⟨some 9, none, .bin .shl (.t 8) (.c (.int .u64 13))⟩, ⟨some 10, none, .bin .xor (.t 5) (.t 9)⟩, ⟨some 11, none, .nilChk (.t 3)⟩, oS 1 11 10])
  (.seq (.ops [oM 12 0, ⟨some 13, none, .nilChk (.t 12)⟩, oL 14 13, oM 15 0, ⟨some 16, none, .nilChk (.t 15)⟩, oL 17 16, ⟨some 18, none, .bin .shr (.t 17) (.c (.int .u64 7))⟩, ⟨some 19, none, .bin .xor (.t 14) (.t 18)⟩, ⟨some 20, none, .nilChk (.t 12)⟩, oS 1 20 19])
  (.seq (.ops [oM 21 0, ⟨some 22, none, .nilChk (.t 21)⟩, oL 23 22, oM 24 0, ⟨some 25, none, .nilChk (.t 24)⟩, oL 26 25, ⟨some 27, none, .bin .shl (.t 26) (.c (.int .u64 17))⟩, ⟨some 28, none, .bin .xor (.t 23) (.t 27)⟩, ⟨some 29, none, .nilChk (.t 21)⟩, oS 1 29 28])
  (.seq (.ops [oM 30 0, ⟨some 31, none, .nilChk (.t 30)⟩, oL 32 31, oM 2 32])
  .ret)))))⟩
/- slices.medianAdjacentOrdered[uint32] -/
def I93 : Fn_ := ⟨3, 15, [(6, none)],
  (.seq (.ops [⟨some 6, none, .mov (.c (.int .i64 0))⟩])
  (.seq (.ops [oM 7 0, oM 8 1, ⟨some 9, none, .bin .sub (.t 8) (.c (.int .i64 1))⟩, oM 10 1, oM 11 1, ⟨some 12, none, .bin .add (.t 11) (.c (.int .i64 1))⟩, oM 13 2, ⟨some 14, none, .callF false 94 [(.t 7), (.t 9), (.t 10), (.t 12), (.t 13)]⟩, oM 6 14])
  .ret))⟩
/- slices.medianOrdered[uint32] -/
def I94 : Fn_ := ⟨5, 36, [(10, none)],
  (.seq (.ops [⟨some 10, none, .mov (.c (.int .i64 0))⟩])
  (.seq (.ops [oM 12 0, oM 13 1, oM 14 2, oM 15 4, ⟨some 16, none, .callF false 96 [(.t 12), (.t 13), (.t 14), (.t 15)]⟩, oM 11 16, oE 17 11 0, oE 18 11 1, oM 1 17, oM 2 18])
  (.seq (.ops [oM 20 0, oM 21 2, oM 22 3, oM 23 4, ⟨some 24, none, .callF false 96 [(.t 20), (.t 21), (.t 22), (.t 23)]⟩, oM 19 24, oE 25 19 0, oE 26 19 1, oM 2 25, oM 3 26])
  (.seq (.ops [oM 28 0, oM 29 1, oM 30 2, oM 31 4, ⟨some 32, none, .callF false 96 [(.t 28), (.t 29), (.t 30), (.t 31)]⟩, oM 27 32, oE 33 27 0, oE 34 27 1, oM 1 33, oM 2 34])
  (.seq (.ops [oM 35 2, oM 10 35])
  .ret)))))⟩
/- cmp.isNaN[uint32] -/
def I95 : Fn_ := ⟨1, 6, [(2, none)],
  (.seq (.ops [⟨some 2, none, .mov (.c (.bool false))⟩])
  (.seq (.ops [oM 3 0, oM 4 0, ⟨some 5, none, .bin .neq (.t 3) (.t 4)⟩, oM 2 5])
  .ret))⟩
/- slices.order2Ordered[uint32] -/
def I96 : Fn_ := ⟨4, 28, [(8, none), (9, none)],
  (.seq (.ops [⟨some 8, none, .mov (.c (.int .i64 0))⟩, ⟨some 9, none, .mov (.c (.int .i64 0))⟩])
  (.seq (.seq (.ops [oM 10 0, oM 11 2, ⟨some 12, none, .iaddr 1 (.t 10) (.t 11)⟩, oL 13 12, oM 14 0, oM 15 1, ⟨some 16, none, .iaddr 1 (.t 14) (.t 15)⟩, oL 17 16, ⟨some 18, none, .callF true 85 [(.t 13), (.t 17)]⟩])
  (.cond (.t 18)
  (.seq (.ops [oM 19 3, ⟨some 20, none, .nilChk (.t 19)⟩, oL 21 20, ⟨some 22, none, .bin .add (.t 21) (.c (.int .i64 1))⟩, ⟨some 23, none, .nilChk (.t 19)⟩, oS 1 23 22])
  (.seq (.ops [oM 24 2, oM 25 1, oM 8 24, oM 9 25])
  .ret))
  .skip))
  (.seq (.ops [oM 26 1, oM 27 2, oM 8 26, oM 9 27])
  .ret)))⟩

def fns : FuncId → Option Fn_
  | 2 => some I2
  | 3 => some I3
  | 4 => some I4
  | 5 => some I5
  | 6 => some I6
  | 7 => some I7
  | 8 => some I8
  | 9 => some I9
  | 10 => some I10
  | 11 => some I11
  | 12 => some I12
  | 13 => some I13
  | 14 => some I14
  | 15 => some I15
  | 16 => some I16
  | 17 => some I17
  | 18 => some I18
  | 19 => some I19
  | 20 => some I20
  | 21 => some I21
  | 23 => some I23
  | 24 => some I24
  | 25 => some I25
  | 26 => some I26
  | 27 => some I27
  | 28 => some I28
  | 29 => some I29
  | 30 => some I30
  | 31 => some I31
  | 32 => some I32
  | 33 => some I33
  | 34 => some I34
  | 35 => some I35
  | 36 => some I36
  | 37 => some I37
  | 38 => some I38
  | 39 => some I39
  | 40 => some I40
  | 42 => some I42
  | 44 => some I44
  | 47 => some I47
  | 48 => some I48
  | 49 => some I49
  | 50 => some I50
  | 51 => some I51
  | 52 => some I52
  | 53 => some I53
  | 54 => some I54
  | 55 => some I55
  | 56 => some I56
  | 57 => some I57
  | 58 => some I58
  | 59 => some I59
  | 60 => some I60
  | 61 => some I61
  | 62 => some I62
  | 63 => some I63
  | 64 => some I64
  | 66 => some I66
  | 67 => some I67
  | 68 => some I68
  | 69 => some I69
  | 70 => some I70
  | 71 => some I71
  | 73 => some I73
  | 74 => some I74
  | 75 => some I75
  | 76 => some I76
  | 77 => some I77
  | 78 => some I78
  | 79 => some I79
  | 80 => some I80
  | 81 => some I81
  | 82 => some I82
  | 83 => some I83
  | 84 => some I84
  | 85 => some I85
  | 86 => some I86
  | 87 => some I87
  | 88 => some I88
  | 89 => some I89
  | 90 => some I90
  | 91 => some I91
  | 92 => some I92
  | 93 => some I93
  | 94 => some I94
  | 95 => some I95
  | 96 => some I96
  | _ => none

def keep : FuncId → Bool
  | 54 => true
  | _ => false

theorem chk2 : chkFn Try.prog Try.f2 I2 = true := by kernel_rfl
theorem chk3 : chkFn Try.prog Try.f3 I3 = true := by kernel_rfl
theorem chk4 : chkFn Try.prog Try.f4 I4 = true := by kernel_rfl
theorem chk5 : chkFn Try.prog Try.f5 I5 = true := by kernel_rfl
theorem chk6 : chkFn Try.prog Try.f6 I6 = true := by kernel_rfl
theorem chk7 : chkFn Try.prog Try.f7 I7 = true := by kernel_rfl
theorem chk8 : chkFn Try.prog Try.f8 I8 = true := by kernel_rfl
theorem chk9 : chkFn Try.prog Try.f9 I9 = true := by kernel_rfl
theorem chk10 : chkFn Try.prog Try.f10 I10 = true := by kernel_rfl
theorem chk11 : chkFn Try.prog Try.f11 I11 = true := by kernel_rfl
theorem chk12 : chkFn Try.prog Try.f12 I12 = true := by kernel_rfl
theorem chk13 : chkFn Try.prog Try.f13 I13 = true := by kernel_rfl
theorem chk14 : chkFn Try.prog Try.f14 I14 = true := by kernel_rfl
theorem chk15 : chkFn Try.prog Try.f15 I15 = true := by kernel_rfl
theorem chk16 : chkFn Try.prog Try.f16 I16 = true := by kernel_rfl
theorem chk17 : chkFn Try.prog Try.f17 I17 = true := by kernel_rfl
theorem chk18 : chkFn Try.prog Try.f18 I18 = true := by kernel_rfl
theorem chk19 : chkFn Try.prog Try.f19 I19 = true := by kernel_rfl
theorem chk20 : chkFn Try.prog Try.f20 I20 = true := by kernel_rfl
theorem chk21 : chkFn Try.prog Try.f21 I21 = true := by kernel_rfl
theorem chk23 : chkFn Try.prog Try.f23 I23 = true := by kernel_rfl
theorem chk24 : chkFn Try.prog Try.f24 I24 = true := by kernel_rfl
theorem chk25 : chkFn Try.prog Try.f25 I25 = true := by kernel_rfl
theorem chk26 : chkFn Try.prog Try.f26 I26 = true := by kernel_rfl
theorem chk27 : chkFn Try.prog Try.f27 I27 = true := by kernel_rfl
theorem chk28 : chkFn Try.prog Try.f28 I28 = true := by kernel_rfl
theorem chk29 : chkFn Try.prog Try.f29 I29 = true := by kernel_rfl
theorem chk30 : chkFn Try.prog Try.f30 I30 = true := by kernel_rfl
theorem chk31 : chkFn Try.prog Try.f31 I31 = true := by kernel_rfl
theorem chk32 : chkFn Try.prog Try.f32 I32 = true := by kernel_rfl
theorem chk33 : chkFn Try.prog Try.f33 I33 = true := by kernel_rfl
theorem chk34 : chkFn Try.prog Try.f34 I34 = true := by kernel_rfl
theorem chk35 : chkFn Try.prog Try.f35 I35 = true := by kernel_rfl
theorem chk36 : chkFn Try.prog Try.f36 I36 = true := by kernel_rfl
theorem chk37 : chkFn Try.prog Try.f37 I37 = true := by kernel_rfl
theorem chk38 : chkFn Try.prog Try.f38 I38 = true := by kernel_rfl
theorem chk39 : chkFn Try.prog Try.f39 I39 = true := by kernel_rfl
theorem chk40 : chkFn Try.prog Try.f40 I40 = true := by kernel_rfl
theorem chk42 : chkFn Try.prog Try.f42 I42 = true := by kernel_rfl
theorem chk44 : chkFn Try.prog Try.f44 I44 = true := by kernel_rfl
theorem chk47 : chkFn Try.prog Try.f47 I47 = true := by kernel_rfl
theorem chk48 : chkFn Try.prog Try.f48 I48 = true := by kernel_rfl
theorem chk49 : chkFn Try.prog Try.f49 I49 = true := by kernel_rfl
theorem chk50 : chkFn Try.prog Try.f50 I50 = true := by kernel_rfl
theorem chk51 : chkFn Try.prog Try.f51 I51 = true := by kernel_rfl
theorem chk52 : chkFn Try.prog Try.f52 I52 = true := by kernel_rfl
theorem chk53 : chkFn Try.prog Try.f53 I53 = true := by kernel_rfl
theorem chk54 : chkFn Try.prog Try.f54 I54 = true := by kernel_rfl
theorem chk55 : chkFn Try.prog Try.f55 I55 = true := by kernel_rfl
theorem chk56 : chkFn Try.prog Try.f56 I56 = true := by kernel_rfl
theorem chk57 : chkFn Try.prog Try.f57 I57 = true := by kernel_rfl
theorem chk58 : chkFn Try.prog Try.f58 I58 = true := by kernel_rfl
theorem chk59 : chkFn Try.prog Try.f59 I59 = true := by kernel_rfl
theorem chk60 : chkFn Try.prog Try.f60 I60 = true := by kernel_rfl
theorem chk61 : chkFn Try.prog Try.f61 I61 = true := by kernel_rfl
theorem chk62 : chkFn Try.prog Try.f62 I62 = true := by kernel_rfl
theorem chk63 : chkFn Try.prog Try.f63 I63 = true := by kernel_rfl
theorem chk64 : chkFn Try.prog Try.f64 I64 = true := by kernel_rfl
theorem chk66 : chkFn Try.prog Try.f66 I66 = true := by kernel_rfl
theorem chk67 : chkFn Try.prog Try.f67 I67 = true := by kernel_rfl
theorem chk68 : chkFn Try.prog Try.f68 I68 = true := by kernel_rfl
theorem chk69 : chkFn Try.prog Try.f69 I69 = true := by kernel_rfl
theorem chk70 : chkFn Try.prog Try.f70 I70 = true := by kernel_rfl
theorem chk71 : chkFn Try.prog Try.f71 I71 = true := by kernel_rfl
theorem chk73 : chkFn Try.prog Try.f73 I73 = true := by kernel_rfl
theorem chk74 : chkFn Try.prog Try.f74 I74 = true := by kernel_rfl
theorem chk75 : chkFn Try.prog Try.f75 I75 = true := by kernel_rfl
theorem chk76 : chkFn Try.prog Try.f76 I76 = true := by kernel_rfl
theorem chk77 : chkFn Try.prog Try.f77 I77 = true := by kernel_rfl
theorem chk78 : chkFn Try.prog Try.f78 I78 = true := by kernel_rfl
theorem chk79 : chkFn Try.prog Try.f79 I79 = true := by kernel_rfl
theorem chk80 : chkFn Try.prog Try.f80 I80 = true := by kernel_rfl
theorem chk81 : chkFn Try.prog Try.f81 I81 = true := by kernel_rfl
theorem chk82 : chkFn Try.prog Try.f82 I82 = true := by kernel_rfl
theorem chk83 : chkFn Try.prog Try.f83 I83 = true := by kernel_rfl
theorem chk84 : chkFn Try.prog Try.f84 I84 = true := by kernel_rfl
theorem chk85 : chkFn Try.prog Try.f85 I85 = true := by kernel_rfl
theorem chk86 : chkFn Try.prog Try.f86 I86 = true := by kernel_rfl
theorem chk87 : chkFn Try.prog Try.f87 I87 = true := by kernel_rfl
theorem chk88 : chkFn Try.prog Try.f88 I88 = true := by kernel_rfl
theorem chk89 : chkFn Try.prog Try.f89 I89 = true := by kernel_rfl
theorem chk90 : chkFn Try.prog Try.f90 I90 = true := by kernel_rfl
theorem chk91 : chkFn Try.prog Try.f91 I91 = true := by kernel_rfl
theorem chk92 : chkFn Try.prog Try.f92 I92 = true := by kernel_rfl
theorem chk93 : chkFn Try.prog Try.f93 I93 = true := by kernel_rfl
theorem chk94 : chkFn Try.prog Try.f94 I94 = true := by kernel_rfl
theorem chk95 : chkFn Try.prog Try.f95 I95 = true := by kernel_rfl
theorem chk96 : chkFn Try.prog Try.f96 I96 = true := by kernel_rfl

theorem fns_ok : ∀ f fn, fns f = some fn → ∃ func, Try.prog.funcs[f]? = some func ∧ chkFn Try.prog func fn = true := by
  intro f fn h
  unfold fns at h
  split at h
  · cases h; exact ⟨Try.f2, Try.func2, chk2⟩
  · cases h; exact ⟨Try.f3, Try.func3, chk3⟩
  · cases h; exact ⟨Try.f4, Try.func4, chk4⟩
  · cases h; exact ⟨Try.f5, Try.func5, chk5⟩
  · cases h; exact ⟨Try.f6, Try.func6, chk6⟩
  · cases h; exact ⟨Try.f7, Try.func7, chk7⟩
  · cases h; exact ⟨Try.f8, Try.func8, chk8⟩
  · cases h; exact ⟨Try.f9, Try.func9, chk9⟩
  · cases h; exact ⟨Try.f10, Try.func10, chk10⟩
  · cases h; exact ⟨Try.f11, Try.func11, chk11⟩
  · cases h; exact ⟨Try.f12, Try.func12, chk12⟩
  · cases h; exact ⟨Try.f13, Try.func13, chk13⟩
  · cases h; exact ⟨Try.f14, Try.func14, chk14⟩
  · cases h; exact ⟨Try.f15, Try.func15, chk15⟩
  · cases h; exact ⟨Try.f16, Try.func16, chk16⟩
  · cases h; exact ⟨Try.f17, Try.func17, chk17⟩
  · cases h; exact ⟨Try.f18, Try.func18, chk18⟩
  · cases h; exact ⟨Try.f19, Try.func19, chk19⟩
  · cases h; exact ⟨Try.f20, Try.func20, chk20⟩
  · cases h; exact ⟨Try.f21, Try.func21, chk21⟩
  · cases h; exact ⟨Try.f23, Try.func23, chk23⟩
  · cases h; exact ⟨Try.f24, Try.func24, chk24⟩
  · cases h; exact ⟨Try.f25, Try.func25, chk25⟩
  · cases h; exact ⟨Try.f26, Try.func26, chk26⟩
  · cases h; exact ⟨Try.f27, Try.func27, chk27⟩
  · cases h; exact ⟨Try.f28, Try.func28, chk28⟩
  · cases h; exact ⟨Try.f29, Try.func29, chk29⟩
  · cases h; exact ⟨Try.f30, Try.func30, chk30⟩
  · cases h; exact ⟨Try.f31, Try.func31, chk31⟩
  · cases h; exact ⟨Try.f32, Try.func32, chk32⟩
  · cases h; exact ⟨Try.f33, Try.func33, chk33⟩
  · cases h; exact ⟨Try.f34, Try.func34, chk34⟩
  · cases h; exact ⟨Try.f35, Try.func35, chk35⟩
  · cases h; exact ⟨Try.f36, Try.func36, chk36⟩
  · cases h; exact ⟨Try.f37, Try.func37, chk37⟩
  · cases h; exact ⟨Try.f38, Try.func38, chk38⟩
  · cases h; exact ⟨Try.f39, Try.func39, chk39⟩
  · cases h; exact ⟨Try.f40, Try.func40, chk40⟩
  · cases h; exact ⟨Try.f42, Try.func42, chk42⟩
  · cases h; exact ⟨Try.f44, Try.func44, chk44⟩
  · cases h; exact ⟨Try.f47, Try.func47, chk47⟩
  · cases h; exact ⟨Try.f48, Try.func48, chk48⟩
  · cases h; exact ⟨Try.f49, Try.func49, chk49⟩
  · cases h; exact ⟨Try.f50, Try.func50, chk50⟩
  · cases h; exact ⟨Try.f51, Try.func51, chk51⟩
  · cases h; exact ⟨Try.f52, Try.func52, chk52⟩
  · cases h; exact ⟨Try.f53, Try.func53, chk53⟩
  · cases h; exact ⟨Try.f54, Try.func54, chk54⟩
  · cases h; exact ⟨Try.f55, Try.func55, chk55⟩
  · cases h; exact ⟨Try.f56, Try.func56, chk56⟩
  · cases h; exact ⟨Try.f57, Try.func57, chk57⟩
  · cases h; exact ⟨Try.f58, Try.func58, chk58⟩
  · cases h; exact ⟨Try.f59, Try.func59, chk59⟩
  · cases h; exact ⟨Try.f60, Try.func60, chk60⟩
  · cases h; exact ⟨Try.f61, Try.func61, chk61⟩
  · cases h; exact ⟨Try.f62, Try.func62, chk62⟩
  · cases h; exact ⟨Try.f63, Try.func63, chk63⟩
  · cases h; exact ⟨Try.f64, Try.func64, chk64⟩
  · cases h; exact ⟨Try.f66, Try.func66, chk66⟩
  · cases h; exact ⟨Try.f67, Try.func67, chk67⟩
  · cases h; exact ⟨Try.f68, Try.func68, chk68⟩
  · cases h; exact ⟨Try.f69, Try.func69, chk69⟩
  · cases h; exact ⟨Try.f70, Try.func70, chk70⟩
  · cases h; exact ⟨Try.f71, Try.func71, chk71⟩
  · cases h; exact ⟨Try.f73, Try.func73, chk73⟩
  · cases h; exact ⟨Try.f74, Try.func74, chk74⟩
  · cases h; exact ⟨Try.f75, Try.func75, chk75⟩
  · cases h; exact ⟨Try.f76, Try.func76, chk76⟩
  · cases h; exact ⟨Try.f77, Try.func77, chk77⟩
  · cases h; exact ⟨Try.f78, Try.func78, chk78⟩
  · cases h; exact ⟨Try.f79, Try.func79, chk79⟩
  · cases h; exact ⟨Try.f80, Try.func80, chk80⟩
  · cases h; exact ⟨Try.f81, Try.func81, chk81⟩
  · cases h; exact ⟨Try.f82, Try.func82, chk82⟩
  · cases h; exact ⟨Try.f83, Try.func83, chk83⟩
  · cases h; exact ⟨Try.f84, Try.func84, chk84⟩
  · cases h; exact ⟨Try.f85, Try.func85, chk85⟩
  · cases h; exact ⟨Try.f86, Try.func86, chk86⟩
  · cases h; exact ⟨Try.f87, Try.func87, chk87⟩
  · cases h; exact ⟨Try.f88, Try.func88, chk88⟩
  · cases h; exact ⟨Try.f89, Try.func89, chk89⟩
  · cases h; exact ⟨Try.f90, Try.func90, chk90⟩
  · cases h; exact ⟨Try.f91, Try.func91, chk91⟩
  · cases h; exact ⟨Try.f92, Try.func92, chk92⟩
  · cases h; exact ⟨Try.f93, Try.func93, chk93⟩
  · cases h; exact ⟨Try.f94, Try.func94, chk94⟩
  · cases h; exact ⟨Try.f95, Try.func95, chk95⟩
  · cases h; exact ⟨Try.f96, Try.func96, chk96⟩
  · cases h

end Go.Fw.Code_
