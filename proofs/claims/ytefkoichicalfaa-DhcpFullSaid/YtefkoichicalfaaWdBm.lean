/-
  Messages as values; Kind, Client, Answer, Same. Conditions: stated at each.
-/
import Derived.Test.YtefkoichicalfaaWdWrite
import Derived.Test.YtefkoichicalfaaWdNumber
set_option linter.unusedVariables false
set_option linter.unusedSimpArgs false
set_option linter.unusedSectionVars false
namespace Go.Fw.Wd
open Go.Proofs Code_

structure Msg where
  op : UInt8
  xid : UInt32
  secs : UInt16
  wide : Bool
  ci : UInt32
  yi : UInt32
  si : UInt32
  gi : UInt32
  a : UInt8
  b : UInt8
  c : UInt8
  d : UInt8
  e : UInt8
  f : UInt8
  o : List Opt
/-- A message's cells. -/
def encM (m : Msg) : List AV := [.int .u8 (m.op.toNat : Int), .int .u32 (m.xid.toNat : Int), .int .u16 (m.secs.toNat : Int), .bool m.wide, .int .u32 (m.ci.toNat : Int), .int .u32 (m.yi.toNat : Int), .int .u32 (m.si.toNat : Int), .int .u32 (m.gi.toNat : Int),
  .int .u8 (m.a.toNat : Int), .int .u8 (m.b.toNat : Int), .int .u8 (m.c.toNat : Int), .int .u8 (m.d.toNat : Int), .int .u8 (m.e.toNat : Int), .int .u8 (m.f.toNat : Int), opts false m.o]
theorem encM_eq (m : Msg) : encM m = [.int .u8 (m.op.toNat : Int), .int .u32 (m.xid.toNat : Int), .int .u16 (m.secs.toNat : Int), .bool m.wide, .int .u32 (m.ci.toNat : Int), .int .u32 (m.yi.toNat : Int), .int .u32 (m.si.toNat : Int), .int .u32 (m.gi.toNat : Int),
  .int .u8 (m.a.toNat : Int), .int .u8 (m.b.toNat : Int), .int .u8 (m.c.toNat : Int), .int .u8 (m.d.toNat : Int), .int .u8 (m.e.toNat : Int), .int .u8 (m.f.toNat : Int), opts false m.o] := rfl
/-- A message's cells where nothing is laid. -/
def zeroC : List AV := [.int .u8 0, .int .u32 0, .int .u16 0, .bool false, .int .u32 0, .int .u32 0, .int .u32 0, .int .u32 0, .int .u8 0, .int .u8 0, .int .u8 0, .int .u8 0, .int .u8 0, .int .u8 0, .rs false 2 []]
theorem zeroC_eq : zeroC = [.int .u8 0, .int .u32 0, .int .u16 0, .bool false, .int .u32 0, .int .u32 0, .int .u32 0, .int .u32 0, .int .u8 0, .int .u8 0, .int .u8 0, .int .u8 0, .int .u8 0, .int .u8 0, .rs false 2 []] := rfl
def zeroM : Msg := ⟨0, 0, 0, false, 0, 0, 0, 0, 0, 0, 0, 0, 0, 0, []⟩
theorem encM_zero : encM zeroM = zeroC := rfl
/-- A message's cells; g: are its options lent? -/
def encG (g : Bool) (m : Msg) : List AV := [.int .u8 (m.op.toNat : Int), .int .u32 (m.xid.toNat : Int), .int .u16 (m.secs.toNat : Int), .bool m.wide, .int .u32 (m.ci.toNat : Int), .int .u32 (m.yi.toNat : Int), .int .u32 (m.si.toNat : Int), .int .u32 (m.gi.toNat : Int),
  .int .u8 (m.a.toNat : Int), .int .u8 (m.b.toNat : Int), .int .u8 (m.c.toNat : Int), .int .u8 (m.d.toNat : Int), .int .u8 (m.e.toNat : Int), .int .u8 (m.f.toNat : Int), opts g m.o]
theorem encG_eq (g : Bool) (m : Msg) : encG g m = [.int .u8 (m.op.toNat : Int), .int .u32 (m.xid.toNat : Int), .int .u16 (m.secs.toNat : Int), .bool m.wide, .int .u32 (m.ci.toNat : Int), .int .u32 (m.yi.toNat : Int), .int .u32 (m.si.toNat : Int), .int .u32 (m.gi.toNat : Int),
  .int .u8 (m.a.toNat : Int), .int .u8 (m.b.toNat : Int), .int .u8 (m.c.toNat : Int), .int .u8 (m.d.toNat : Int), .int .u8 (m.e.toNat : Int), .int .u8 (m.f.toNat : Int), opts g m.o] := rfl
/-- A message's cells but its options. -/
def headC (m : Msg) : List AV := (encG false m).take 14
theorem headC_pl (m : Msg) : (headC m).all plainN = true := rfl
theorem s48 (g : Bool) (m : Msg) : pcall E 48 [.agg (encG g m)] = some (.agg (headC m), []) := by
  rw [pcall_go (fn := I48) rfl rfl rfl]
  have hk : E.keep 48 = false := rfl
  simp (disch := first | omega | (simp only [List.length_cons, List.length_nil, List.length_append, List.length_map, List.length_set]; omega) | rfl | (simp only [List.length_cons, List.length_nil, List.length_append, List.length_map, List.length_set, List.length_replicate, List.all_cons, List.all_nil, List.all_append, storable, plainB, Bool.and_self]; done)) only [go_sem, reduceCtorEq, ↓reduceIte, reduceDIte, evI_callP, callPK_some, I48, hk, encG_eq, headC]
def headEq (m n : Msg) : Bool := decide (m.op = n.op) && (decide (m.xid = n.xid) && (decide (m.secs = n.secs) && ((m.wide == n.wide) && (decide (m.ci = n.ci) && (decide (m.yi = n.yi) && (decide (m.si = n.si) && (decide (m.gi = n.gi) &&
  (decide (m.a = n.a) && (decide (m.b = n.b) && (decide (m.c = n.c) && (decide (m.d = n.d) && (decide (m.e = n.e) && (decide (m.f = n.f))))))))))))))
theorem u32_neq (a b : UInt32) : (((a.toNat : Nat) : Int) = (b.toNat : Int)) ↔ a = b := by
  rw [← UInt32.toNat_inj]
  omega
theorem u16_neq (a b : UInt16) : (((a.toNat : Nat) : Int) = (b.toNat : Int)) ↔ a = b := by
  rw [← UInt16.toNat_inj]
  omega
theorem s23 (g g' : Bool) (m n : Msg) (hl : m.o.length ≤ 1048576) : pcall E 23 [.agg (encG g m), .agg (encG g' n)] = some (.bool (headEq m n && decide (m.o = n.o)), []) := by
  rw [pcall_go (fn := I23) rfl rfl rfl]
  have hk : E.keep 23 = false := rfl
  have q1 := fun g => s48 g m
  have q2 := fun g => s48 g n
  have q3 := fun g g' => s49 g g' m.o n.o hl
  have pm := headC_pl m
  have pn := headC_pl n
  have q4 : eqCells [1, 1, 1, 0, 1, 1, 1, 1, 1, 1, 1, 1, 1, 1] (headC m) (headC n) = some (headEq m n) := by
    simp only [headC, encG_eq, List.take_succ_cons, List.take_zero, eqCells, eqOne, headEq, by8_neq, u32_neq, u16_neq, and_self, if_true, Option.bind_some, Option.map_some, Bool.and_true]
  simp only [encG_eq] at q1 q2 ⊢
  cases h : headEq m n with
  | false =>
    rw [h] at q4
    simp (disch := first | omega | (simp only [List.length_cons, List.length_nil, List.length_append, List.length_map, List.length_set]; omega) | rfl | (simp only [List.length_cons, List.length_nil, List.length_append, List.length_map, List.length_set, List.length_replicate, List.all_cons, List.all_nil, List.all_append, storable, plainB, Bool.and_self]; done)) only [go_sem, reduceCtorEq, ↓reduceIte, reduceDIte, evI_callP, callPK_some, I23, hk, q1, q2, q4, pm, pn]
  | true =>
    rw [h] at q4
    simp (disch := first | omega | (simp only [List.length_cons, List.length_nil, List.length_append, List.length_map, List.length_set]; omega) | rfl | (simp only [List.length_cons, List.length_nil, List.length_append, List.length_map, List.length_set, List.length_replicate, List.all_cons, List.all_nil, List.all_append, storable, plainB, Bool.and_self]; done)) only [go_sem, reduceCtorEq, ↓reduceIte, reduceDIte, evI_callP, callPK_some, I23, hk, q1, q2, q3, q4, pm, pn]
theorem s18 (g : Bool) (m : Msg) (hl : small m.o) : pcall E 18 [.agg (encG g m)] = some (.int .i64 ((numO m.o 53 1).1 : Int), []) := by
  rw [pcall_go (fn := I18) rfl rfl rfl]
  have hk : E.keep 18 = false := rfl
  have q := fun g => s21 g m.o 53 1 hl
  have hn : (numO m.o 53 1).1 < 4294967296 := by
    unfold numO
    split
    · split
      · rename_i h; exact num_u32 (by omega)
      · show (0 : Nat) < _; omega
    · show (0 : Nat) < _; omega
  have hw : IntKind.i64.wrap ((numO m.o 53 1).1 : Int) = ((numO m.o 53 1).1 : Int) := w64 (by omega) (by omega)
  simp only [numV, encG_eq, show ((UInt8.toNat 53 : Nat) : Int) = 53 from rfl] at q ⊢
  simp (disch := first | omega | (simp only [List.length_cons, List.length_nil, List.length_append, List.length_map, List.length_set]; omega) | rfl | (simp only [List.length_cons, List.length_nil, List.length_append, List.length_map, List.length_set, List.length_replicate, List.all_cons, List.all_nil, List.all_append, storable, plainB, Bool.and_self]; done)) only [go_sem, reduceCtorEq, ↓reduceIte, reduceDIte, evI_callP, callPK_some, I18, hk, q, hw]
def macL (m : Msg) : List UInt8 := [m.a, m.b, m.c, m.d, m.e, m.f]
/-- Who a message is from. -/
def clientL (m : Msg) : List UInt8 :=
  match findO m.o 61 with
  | some d => if d.length = 0 then 1 :: macL m else d
  | none => 1 :: macL m
def clientV (m : Msg) : AV := .str ⟨⟨clientL m⟩⟩
theorem toStr_mac (h : Heap) (a b c d e f : UInt8) : toStrK h (some [.int .u8 (a.toNat : Int), .int .u8 (b.toNat : Int), .int .u8 (c.toNat : Int), .int .u8 (d.toNat : Int), .int .u8 (e.toNat : Int), .int .u8 (f.toNat : Int)]) (some 6) = some (.str ⟨⟨[a, b, c, d, e, f]⟩⟩, h) := toStr_by8 h [a, b, c, d, e, f] 6
theorem toStr_one (h : Heap) : toStrK h (some [.int .u8 1]) (some 1) = some (.str ⟨⟨[1]⟩⟩, h) := toStr_by8 h [1] 1
theorem one_add (a b c d e f : UInt8) : (⟨⟨[1]⟩⟩ : ByteArray) ++ ⟨⟨[a, b, c, d, e, f]⟩⟩ = ⟨⟨[1, a, b, c, d, e, f]⟩⟩ := by
  apply ByteArray.ext
  simp [ByteArray.data_append]
theorem s10 (g : Bool) (m : Msg) (hl : small m.o) : pcall E 10 [.agg (encG g m)] = some (clientV m, []) := by
  rw [pcall_go (fn := I10) rfl rfl rfl]
  have hk : E.keep 10 = false := rfl
  have q := fun g => s30 g m.o 61 hl
  unfold clientV clientL
  cases hf : findO m.o 61 with
  | none =>
    rw [hf] at q
    simp only [findV, encG_eq, macL, show ((UInt8.toNat 61 : Nat) : Int) = 61 from rfl] at q ⊢
    simp (disch := first | omega | (simp only [List.length_cons, List.length_nil, List.length_append, List.length_map, List.length_set]; omega) | rfl | (simp only [List.length_cons, List.length_nil, List.length_append, List.length_map, List.length_set, List.length_replicate, List.all_cons, List.all_nil, List.all_append, storable, plainB, Bool.and_self]; done)) only [go_sem, reduceCtorEq, ↓reduceIte, reduceDIte, evI_callP, callPK_some, I10, hk, q, toStr_mac, toStr_one, one_add]
    rw [if_pos (by show (1 + 6 : Nat) ≤ 9223372036854775807; omega)]
  | some d =>
    rw [hf] at q
    simp only [findV, encG_eq, macL, show ((UInt8.toNat 61 : Nat) : Int) = 61 from rfl] at q ⊢
    have hd := findO_small hl hf
    by_cases hz : d.length = 0
    · have hz' : ¬ (0 : Int) < d.length := by omega
      simp (disch := first | omega | (simp only [List.length_cons, List.length_nil, List.length_append, List.length_map, List.length_set]; omega) | rfl | (simp only [List.length_cons, List.length_nil, List.length_append, List.length_map, List.length_set, List.length_replicate, List.all_cons, List.all_nil, List.all_append, storable, plainB, Bool.and_self]; done)) only [go_sem, reduceCtorEq, ↓reduceIte, reduceDIte, evI_callP, callPK_some, I10, hk, q, toStr_mac, toStr_one, one_add, hz, hz']
      rw [if_pos (by show (1 + 6 : Nat) ≤ 9223372036854775807; omega)]
    · have hz' : (0 : Int) < d.length := by omega
      simp (disch := first | omega | (simp only [List.length_cons, List.length_nil, List.length_append, List.length_map, List.length_set]; omega) | rfl | (simp only [List.length_cons, List.length_nil, List.length_append, List.length_map, List.length_set, List.length_replicate, List.all_cons, List.all_nil, List.all_append, storable, plainB, Bool.and_self]; done)) only [go_sem, reduceCtorEq, ↓reduceIte, reduceDIte, evI_callP, callPK_some, I10, hk, q, hz, hz', toStr_by8, cells_by8]
/-- A number's lowest byte. -/
def kb (k : Int) : UInt8 := UInt8.ofNat (k % 256).toNat
theorem kb_eq (k : Int) : IntKind.u8.wrap k = ((kb k).toNat : Int) := by
  have h0 := Int.emod_nonneg k (show (256 : Int) ≠ 0 by omega)
  have h1 := Int.emod_lt_of_pos k (show (0 : Int) < 256 by omega)
  have e : (kb k).toNat = (k % 256).toNat := UInt8.toNat_ofNat_of_lt' (by show _ < 256; omega)
  rw [e, Int.toNat_of_nonneg h0]
  simp [IntKind.wrap, IntKind.signed, IntKind.bits]
theorem kb_u64 (k : Int) : IntKind.u8.wrap (Int.tmod (IntKind.u64.wrap k) 256) = ((kb k).toNat : Int) := by
  rw [← kb_eq]
  have h : IntKind.u64.wrap k = k % 18446744073709551616 := by simp [IntKind.wrap, IntKind.signed, IntKind.bits]
  rw [h, Int.tmod_eq_emod_of_nonneg (by omega)]
  simp only [IntKind.wrap, IntKind.signed, IntKind.bits]
  simp
def ciA (m : Msg) (kind : Int) : UInt32 := if kind = 6 then 0 else m.ci
/-- An answer. -/
def answerM (m : Msg) (kind : Int) (yi server : UInt32) (l : List Opt) : Msg := ⟨2, m.xid, 0, m.wide, ciA m kind, yi, 0, m.gi, m.a, m.b, m.c, m.d, m.e, m.f, oneO 53 (kb kind) :: ipO 54 server.toNat :: l⟩
def ahd (m : Msg) (c : Int) (yi : UInt32) : List AV := [.int .u8 2, .int .u32 (m.xid.toNat : Int), .int .u16 0, .bool m.wide, .int .u32 c, .int .u32 (yi.toNat : Int), .int .u32 0, .int .u32 (m.gi.toNat : Int),
  .int .u8 (m.a.toNat : Int), .int .u8 (m.b.toNat : Int), .int .u8 (m.c.toNat : Int), .int .u8 (m.d.toNat : Int), .int .u8 (m.e.toNat : Int), .int .u8 (m.f.toNat : Int)]
def zeroN : List AV := [.int .u8 0, .int .u32 0, .int .u16 0, .bool false, .int .u32 0, .int .u32 0, .int .u32 0, .int .u32 0, .int .u8 0, .int .u8 0, .int .u8 0, .int .u8 0, .int .u8 0, .int .u8 0, .nils]
theorem zeroN_eq : zeroN = [.int .u8 0, .int .u32 0, .int .u16 0, .bool false, .int .u32 0, .int .u32 0, .int .u32 0, .int .u32 0, .int .u8 0, .int .u8 0, .int .u8 0, .int .u8 0, .int .u8 0, .int .u8 0, .nils] := rfl
theorem lp74 (g : Bool) (m : Msg) (c : Int) (yi : UInt32) (pre l : List Opt) (hp : pre.length = 2) (hl : small l) : ∀ (n i : Nat), i + n = l.length → ∀ junk : Heap, ∃ h',
    (T74_0 E (lp E L74_0 [(10, .ref 0 0 0), (11, .ref 1 0 0), (39, opts g l), (40, .int .i64 l.length), (41, .int .i64 i)] (.cells true zeroN 29 :: .cells true (ahd m c yi ++ [.sl 2 2 i 0 (2 + i)]) 29 :: rowO i (pre ++ l.take i) 49 :: junk))) =
      some (.agg (ahd m c yi ++ [.sl 2 2 l.length 0 (2 + l.length)]), h') ∧ h'[2]? = some (rowO l.length (pre ++ l) 49)
  | 0, i, hi, junk => by
    have e : i = l.length := by omega
    subst e
    rw [List.take_length, L74_0_go]
    refine ⟨.cells true (ahd m c yi ++ [.sl 2 2 l.length 0 (2 + l.length)]) 29 :: .cells true (ahd m c yi ++ [.sl 2 2 l.length 0 (2 + l.length)]) 29 :: rowO l.length (pre ++ l) 49 :: junk, ?_, rfl⟩
    simp only [ahd, zeroN_eq]
    simp (disch := first | omega | (simp only [List.length_cons, List.length_nil, List.length_append, List.length_map, List.length_set]; omega) | rfl | (simp only [List.length_cons, List.length_nil, List.length_append, List.length_map, List.length_set, List.length_replicate, List.all_cons, List.all_nil, List.all_append, storable, plainB, Bool.and_self]; done)) only [go_sem, reduceCtorEq, ↓reduceIte, reduceDIte, evI_callP, callPK_some, B74_0, T74_0, Int.lt_irrefl]
  | n + 1, i, hi, junk => by
    have g1 : (i : Int) < l.length := by omega
    have hl1 := hl.1
    have hle := hl.2 _ (nth_mem (show i < l.length by omega))
    have ia := fun h => fopt.iaddr h g l .i64 (i : Int) (by omega) (by omega)
    have q := fun g => s54 g (nth l i).2 (by omega)
    have ht : l.take i ++ [nth l i] = l.take (i + 1) := by rw [List.take_succ_eq_append_getElem (by omega), nth_get l i (by omega)]
    have htl : (pre ++ l.take i).length = 2 + i := by rw [List.length_append, List.length_take, hp]; omega
    have hap := fun h => fopt.app1 h 32 49 2 i (2 + i) (pre ++ l.take i) (nth l i) htl (by omega) (by omega)
    rw [List.append_assoc, ht] at hap
    obtain ⟨h', i1, i2⟩ := lp74 g m c yi pre l hp hl n (i + 1) (by omega) (junk ++ [.cells true (encO (nth l i)) 49])
    refine ⟨h', ?_, i2⟩
    rw [L74_0_go, ← i1]
    simp only [Int.toNat_natCast, encO_eq] at ia hap ⊢
    generalize pre ++ l.take i = x at *
    simp only [ahd, zeroN_eq] at *
    simp (disch := first | omega | (simp only [List.length_cons, List.length_nil, List.length_append, List.length_map, List.length_set]; omega) | rfl | (simp only [List.length_cons, List.length_nil, List.length_append, List.length_map, List.length_set, List.length_replicate, List.all_cons, List.all_nil, List.all_append, storable, plainB, Bool.and_self]; done)) only [go_sem, reduceCtorEq, ↓reduceIte, reduceDIte, evI_callP, callPK_some, B74_0, L74_0_lp, g1, ia, q, hap, olen]
    rfl
theorem one_eq (c n : UInt8) : oneO c n = (c, [n]) := rfl
theorem ip_eq (c : UInt8) (n : Nat) : ipO c n = (c, encb 4 n) := rfl
theorem two_opts (a b : Opt) : rcs encO [a, b] = encO a ++ encO b := by simp [rcs]
theorem two_lit (c1 c2 : UInt8) (d1 d2 : List UInt8) : rcs encO [(c1, d1), (c2, d2)] = [.int .u8 (c1.toNat : Int), bs false d1, .int .u8 (c2.toNat : Int), bs false d2] := by simp [rcs, encO]
theorem s74 (g g' : Bool) (m : Msg) (kind : Int) (yi server : UInt32) (l : List Opt) (hl : small l) : pcall E 74 [.agg (encG g m), .int .i64 kind, .int .u32 (yi.toNat : Int), .int .u32 (server.toNat : Int), opts g' l] = some (.agg (encG false (answerM m kind yi server l)), []) := by
  rw [pcall_go (fn := I74) rfl rfl rfl]
  have hk : E.keep 74 = false := rfl
  have hs := server.toNat_lt
  have q1 := s14 53 (kb kind)
  have q2 := s15 54 server.toNat (by omega)
  have hw := kb_eq kind
  obtain ⟨d1, hd1⟩ : ∃ d, d = [kb kind] := ⟨_, rfl⟩
  obtain ⟨d2, hd2⟩ : ∃ d, d = encb 4 server.toNat := ⟨_, rfl⟩
  simp only [one_eq, ip_eq, ← hd1, ← hd2, encO_mk, show ((UInt8.toNat 53 : Nat) : Int) = 53 from rfl, show ((UInt8.toNat 54 : Nat) : Int) = 54 from rfl] at q1 q2
  obtain ⟨h', i1, i2⟩ := lp74 g' m ((ciA m kind).toNat : Int) yi [(53, d1), (54, d2)] l rfl hl l.length 0 (by omega) []
  have hf := fopt.sn false h' 6 2 l.length (2 + l.length) ([(53, d1), (54, d2)] ++ l) 49 i2 (by simp; omega)
  have e : [(53, d1), (54, d2)] ++ l = oneO 53 (kb kind) :: ipO 54 server.toNat :: l := by rw [hd1, hd2]; rfl
  rw [e] at hf
  have fin : (some (AV.agg (ahd m ((ciA m kind).toNat : Int) yi ++ [.sl 2 2 l.length 0 (2 + l.length)]), h')).bind (finish false) = some (.agg (encG false (answerM m kind yi server l)), []) := by
    simp only [ahd, encG_eq, answerM]
    simp (disch := first | omega | (simp only [List.length_cons, List.length_nil, List.length_append, List.length_map, List.length_set]; omega) | rfl | (simp only [List.length_cons, List.length_nil, List.length_append, List.length_map, List.length_set, List.length_replicate, List.all_cons, List.all_nil, List.all_append, storable, plainB, Bool.and_self]; done)) only [go_sem, reduceCtorEq, ↓reduceIte, reduceDIte, evI_callP, callPK_some, hf]
    rfl
  simp only [encG_eq g m]
  by_cases c6 : kind = 6
  · replace c6 := eq_true c6
    simp only [ahd, ciA, c6, if_true, List.take_zero, List.append_nil, rowO, two_lit, show ((UInt8.toNat 53 : Nat) : Int) = 53 from rfl, show ((UInt8.toNat 54 : Nat) : Int) = 54 from rfl] at i1 fin
    simp only [zeroN_eq] at i1
    simp (disch := first | omega | (simp only [List.length_cons, List.length_nil, List.length_append, List.length_map, List.length_set]; omega) | rfl | (simp only [List.length_cons, List.length_nil, List.length_append, List.length_map, List.length_set, List.length_replicate, List.all_cons, List.all_nil, List.all_append, storable, plainB, Bool.and_self]; done)) only [go_sem, reduceCtorEq, ↓reduceIte, reduceDIte, evI_callP, callPK_some, I74, hk, L74_0_lp, olen, q1, q2, hw, c6, appK_nils]
    exact (congrArg (Option.bind · (finish false)) i1).trans fin
  · replace c6 := eq_false c6
    simp only [ahd, ciA, c6, if_false, List.take_zero, List.append_nil, rowO, two_lit, show ((UInt8.toNat 53 : Nat) : Int) = 53 from rfl, show ((UInt8.toNat 54 : Nat) : Int) = 54 from rfl] at i1 fin
    simp only [zeroN_eq] at i1
    simp (disch := first | omega | (simp only [List.length_cons, List.length_nil, List.length_append, List.length_map, List.length_set]; omega) | rfl | (simp only [List.length_cons, List.length_nil, List.length_append, List.length_map, List.length_set, List.length_replicate, List.all_cons, List.all_nil, List.all_append, storable, plainB, Bool.and_self]; done)) only [go_sem, reduceCtorEq, ↓reduceIte, reduceDIte, evI_callP, callPK_some, I74, hk, L74_0_lp, olen, q1, q2, hw, c6, appK_nils]
    exact (congrArg (Option.bind · (finish false)) i1).trans fin
end Go.Fw.Wd
