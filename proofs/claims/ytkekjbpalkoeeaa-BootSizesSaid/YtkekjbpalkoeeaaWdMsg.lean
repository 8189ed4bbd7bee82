/-
  Messages of the boot protocol as values; what Parse answers of bytes, the program's and the document's. Conditions: stated at each.
-/
import Derived.Test.YtkekjbpalkoeeaaWdNums
set_option linter.unusedVariables false
set_option linter.unusedSimpArgs false
namespace Go.Fw.Wd
open Go.Proofs Code_

structure Msg where
  op : UInt8
  xid : UInt32
  secs : UInt16
  wide : Bool
  ci : UInt32
  yi : UInt32
  si : UInt32
  gi : UInt32
  a : UInt8
  b : UInt8
  c : UInt8
  d : UInt8
  e : UInt8
  f : UInt8
  o : List Opt
def i32 (n : UInt32) : AV := .int .u32 (n.toNat : Int)
/-- A message's cells. -/
def encM (m : Msg) : List AV := [.int .u8 (m.op.toNat : Int), .int .u32 (m.xid.toNat : Int), .int .u16 (m.secs.toNat : Int), .bool m.wide, .int .u32 (m.ci.toNat : Int), .int .u32 (m.yi.toNat : Int), .int .u32 (m.si.toNat : Int), .int .u32 (m.gi.toNat : Int),
  .int .u8 (m.a.toNat : Int), .int .u8 (m.b.toNat : Int), .int .u8 (m.c.toNat : Int), .int .u8 (m.d.toNat : Int), .int .u8 (m.e.toNat : Int), .int .u8 (m.f.toNat : Int), opts false m.o]
theorem encM_eq (m : Msg) : encM m = [.int .u8 (m.op.toNat : Int), .int .u32 (m.xid.toNat : Int), .int .u16 (m.secs.toNat : Int), .bool m.wide, .int .u32 (m.ci.toNat : Int), .int .u32 (m.yi.toNat : Int), .int .u32 (m.si.toNat : Int), .int .u32 (m.gi.toNat : Int),
  .int .u8 (m.a.toNat : Int), .int .u8 (m.b.toNat : Int), .int .u8 (m.c.toNat : Int), .int .u8 (m.d.toNat : Int), .int .u8 (m.e.toNat : Int), .int .u8 (m.f.toNat : Int), opts false m.o] := rfl
/-- A message's cells where nothing is laid. -/
def zeroC : List AV := [.int .u8 0, .int .u32 0, .int .u16 0, .bool false, .int .u32 0, .int .u32 0, .int .u32 0, .int .u32 0, .int .u8 0, .int .u8 0, .int .u8 0, .int .u8 0, .int .u8 0, .int .u8 0, .rs false 2 []]
theorem zeroC_eq : zeroC = [.int .u8 0, .int .u32 0, .int .u16 0, .bool false, .int .u32 0, .int .u32 0, .int .u32 0, .int .u32 0, .int .u8 0, .int .u8 0, .int .u8 0, .int .u8 0, .int .u8 0, .int .u8 0, .rs false 2 []] := rfl
def zeroM : Msg := ⟨0, 0, 0, false, 0, 0, 0, 0, 0, 0, 0, 0, 0, 0, []⟩
theorem encM_zero : encM zeroM = zeroC := rfl

def n32 (b : List UInt8) (i : Nat) : UInt32 := UInt32.ofNat (num ((b.drop i).take 4))
theorem n32_toNat (b : List UInt8) (i : Nat) : (n32 b i).toNat = num ((b.drop i).take 4) := by
  have hn := num_lt_of (l := (b.drop i).take 4) (n := 4) (by rw [List.length_take]; omega)
  exact UInt32.toNat_ofNat_of_lt' (by show _ < 4294967296; omega)
def n16 (b : List UInt8) (i : Nat) : UInt16 := UInt16.ofNat (num ((b.drop i).take 2))
theorem n16_toNat (b : List UInt8) (i : Nat) : (n16 b i).toNat = num ((b.drop i).take 2) := by
  have hn := num_lt_of (l := (b.drop i).take 2) (n := 2) (by rw [List.length_take]; omega)
  exact UInt16.toNat_ofNat_of_lt' (by show _ < 65536; omega)
/-- A message out of its bytes, with its options. -/
def msgOf (b : List UInt8) (l : List Opt) : Msg := ⟨nth b 0, n32 b 4, n16 b 8, decide (128 ≤ (nth b 10).toNat), n32 b 12, n32 b 16, n32 b 20, n32 b 24, nth b 28, nth b 29, nth b 30, nth b 31, nth b 32, nth b 33, l⟩
def cookieB : List UInt8 := [99, 130, 83, 99]
/-- What Parse answers. -/
def parseM (b : List UInt8) : Msg × Int :=
  if b.length < 240 then (zeroM, 12)
  else if ¬ (((nth b 0).toNat = 1 ∨ (nth b 0).toNat = 2) ∧ (nth b 1).toNat = 1 ∧ (nth b 2).toNat = 6) then (zeroM, 14)
  else if ¬ ((nth b 236).toNat = 99 ∧ (nth b 237).toNat = 130 ∧ (nth b 238).toNat = 83 ∧ (nth b 239).toNat = 99) then (zeroM, 10)
  else match parseO (b.drop 240) with
    | none => (zeroM, 12)
    | some l => (msgOf b l, 0)
def msgV (p : Msg × Int) : AV := .tup [.agg (encM p.1), .int .i64 p.2]

theorem and128 (b : UInt8) : (bitsI .and .u8 (b.toNat : Int) 128 = 0) ↔ ¬ 128 ≤ b.toNat := by
  have key : ∀ n : Fin 256, (bitsI .and .u8 ((n.val : Nat) : Int) 128 = 0) ↔ ¬ 128 ≤ n.val := by decide +kernel
  exact key ⟨b.toNat, b.toNat_lt⟩
theorem w128 (b : UInt8) : (!decide (bitsI .and .u8 (b.toNat : Int) 128 = 0)) = decide (128 ≤ b.toNat) := by
  rw [Bool.eq_iff_iff, Bool.not_eq_true', decide_eq_false_iff_not, and128, decide_eq_true_eq, Classical.not_not]
theorem cookie_iff {b : List UInt8} (h : 240 ≤ b.length) : (4 ≤ (b.drop 236).length ∧ (b.drop 236).take 4 = cookieB) ↔ ((nth b 236).toNat = 99 ∧ (nth b 237).toNat = 130 ∧ (nth b 238).toNat = 83 ∧ (nth b 239).toNat = 99) := by
  rw [take4 _ (by rw [List.length_drop]; omega), nth_drop b 236 0 (by omega), nth_drop b 236 1 (by omega), nth_drop b 236 2 (by omega), nth_drop b 236 3 (by omega)]
  simp only [cookieB, List.cons.injEq, and_true, List.length_drop, ← UInt8.toNat_inj]
  show (_ ∧ _ = 99 ∧ _ = 130 ∧ _ = 83 ∧ _ = 99) ↔ _
  constructor
  · rintro ⟨_, h⟩; exact h
  · intro h'; exact ⟨by omega, h'⟩
theorem mac6 (b : List UInt8) (h : 34 ≤ b.length) : (b.drop 28).take 6 = [nth b 28, nth b 29, nth b 30, nth b 31, nth b 32, nth b 33] := by
  rw [drop_nth b 28 (by omega), drop_nth b 29 (by omega), drop_nth b 30 (by omega), drop_nth b 31 (by omega), drop_nth b 32 (by omega), drop_nth b 33 (by omega)]
  rfl

theorem s2a_by8 (h : Heap) (g : Bool) (l : List UInt8) (n : Nat) (h0 : 0 < n) (h1 : n ≤ l.length) : s2aK h n 1 (.rs g 1 (l.map by8)) = some (.rp g (.agg ((l.take n).map by8)), h) := by
  have e : ((l.map by8).take n).flatMap cellsOf = (l.take n).map by8 := by rw [← List.map_take, fby.cells]
  simp only [s2aK, e, List.length_map, h0, h1, fby.all_st, and_self, if_true]
theorem frR_by8 (h : Heap) (l ver n : Nat) (vs : List UInt8) (t : TypeId) (hn : vs.length = n) (h0 : 0 < n) : frR h l ver n (some (.row ver 1 (vs.map by8) t)) = some (bs false vs, h.set l .gone) := by
  simp only [frR, h0, List.length_map, hn, plain_by8, and_self, if_true]

theorem s40 (g : Bool) (b : List UInt8) (hb : b.length ≤ 1048576) : pcall E 40 [bs g b] = some (msgV (parseM b), []) := by
  rw [pcall_go (fn := I40) rfl rfl rfl]
  have hk : E.keep 40 = false := rfl
  unfold parseM
  by_cases h : b.length < 240
  · have h' : (b.length : Int) < 240 := by omega
    rw [if_pos h]
    simp (disch := first | omega | (simp only [List.length_cons, List.length_nil, List.length_append, List.length_map, List.length_set]; omega) | rfl | (simp only [List.length_cons, List.length_nil, List.length_append, List.length_map, List.length_set, List.length_replicate, List.all_cons, List.all_nil, List.all_append, storable, plainB, Bool.and_self]; done)) only [go_sem, reduceCtorEq, ↓reduceIte, Nat.reduceEqDiff, Nat.reduceAdd, Nat.reduceSub, Nat.reduceMul, Nat.reduceLeDiff, Nat.reduceLT, Nat.reduceBEq, Nat.reduceBNe, Int.reduceAdd, Int.reduceSub, Int.reduceMul, Int.reduceNeg, Int.reduceEq, Int.reduceNe, Int.reduceLT, Int.reduceLE, Int.reduceToNat, reduceDIte, Nat.reduceSucc, evI_callP, callPK_some, I40, hk, h', msgV, encM_zero, zeroC_eq]
  rw [if_neg h]
  have h' : ¬ (b.length : Int) < 240 := by omega
  have q1 := s88 (nth b 0)
  have e0 : (nth b 0 = 1 ∨ nth b 0 = 2) ↔ ((nth b 0).toNat = 1 ∨ (nth b 0).toNat = 2) := by
    rw [← UInt8.toNat_inj, ← UInt8.toNat_inj]
    exact Iff.rfl
  have hfr : ∀ h, frR h 1 0 4 (some (.row 0 1 [.int .u8 99, .int .u8 130, .int .u8 83, .int .u8 99] 5)) = some (.rs false 1 [.int .u8 99, .int .u8 130, .int .u8 83, .int .u8 99], h.set 1 .gone) := fun h => frR_by8 h 1 0 4 cookieB 5 rfl (by omega)
  have q2 : ∀ g, pcall E 89 [bs g (b.drop 236), .rs false 1 [.int .u8 99, .int .u8 130, .int .u8 83, .int .u8 99]] = some (.bool (decide (4 ≤ (b.drop 236).length ∧ (b.drop 236).take 4 = cookieB)), []) := fun g => s89 g false (b.drop 236) cookieB
  have hc := cookie_iff (b := b) (by omega)
  by_cases c1 : (nth b 0).toNat = 1 ∨ (nth b 0).toNat = 2
  case neg =>
    rw [decide_eq_false (fun hh => c1 (e0.1 hh))] at q1
    rw [if_pos (fun hh => c1 hh.1)]
    simp (disch := first | omega | (simp only [List.length_cons, List.length_nil, List.length_append, List.length_map, List.length_set]; omega) | rfl | (simp only [List.length_cons, List.length_nil, List.length_append, List.length_map, List.length_set, List.length_replicate, List.all_cons, List.all_nil, List.all_append, storable, plainB, Bool.and_self]; done)) only [go_sem, reduceCtorEq, ↓reduceIte, Nat.reduceEqDiff, Nat.reduceAdd, Nat.reduceSub, Nat.reduceMul, Nat.reduceLeDiff, Nat.reduceLT, Nat.reduceBEq, Nat.reduceBNe, Int.reduceAdd, Int.reduceSub, Int.reduceMul, Int.reduceNeg, Int.reduceEq, Int.reduceNe, Int.reduceLT, Int.reduceLE, Int.reduceToNat, reduceDIte, Nat.reduceSucc, evI_callP, callPK_some, I40, hk, h', q1, msgV, encM_zero, zeroC_eq]
  rw [decide_eq_true (e0.2 c1)] at q1
  by_cases c2 : (nth b 1).toNat = 1
  case neg =>
    have c2' : ¬ ((nth b 1).toNat : Int) = 1 := by omega
    rw [if_pos (fun hh => c2 hh.2.1)]
    simp (disch := first | omega | (simp only [List.length_cons, List.length_nil, List.length_append, List.length_map, List.length_set]; omega) | rfl | (simp only [List.length_cons, List.length_nil, List.length_append, List.length_map, List.length_set, List.length_replicate, List.all_cons, List.all_nil, List.all_append, storable, plainB, Bool.and_self]; done)) only [go_sem, reduceCtorEq, ↓reduceIte, Nat.reduceEqDiff, Nat.reduceAdd, Nat.reduceSub, Nat.reduceMul, Nat.reduceLeDiff, Nat.reduceLT, Nat.reduceBEq, Nat.reduceBNe, Int.reduceAdd, Int.reduceSub, Int.reduceMul, Int.reduceNeg, Int.reduceEq, Int.reduceNe, Int.reduceLT, Int.reduceLE, Int.reduceToNat, reduceDIte, Nat.reduceSucc, evI_callP, callPK_some, I40, hk, h', q1, c2', msgV, encM_zero, zeroC_eq]
  have c2' : ((nth b 1).toNat : Int) = 1 := by omega
  by_cases c3 : (nth b 2).toNat = 6
  case neg =>
    have c3' : ¬ ((nth b 2).toNat : Int) = 6 := by omega
    rw [if_pos (fun hh => c3 hh.2.2)]
    simp (disch := first | omega | (simp only [List.length_cons, List.length_nil, List.length_append, List.length_map, List.length_set]; omega) | rfl | (simp only [List.length_cons, List.length_nil, List.length_append, List.length_map, List.length_set, List.length_replicate, List.all_cons, List.all_nil, List.all_append, storable, plainB, Bool.and_self]; done)) only [go_sem, reduceCtorEq, ↓reduceIte, Nat.reduceEqDiff, Nat.reduceAdd, Nat.reduceSub, Nat.reduceMul, Nat.reduceLeDiff, Nat.reduceLT, Nat.reduceBEq, Nat.reduceBNe, Int.reduceAdd, Int.reduceSub, Int.reduceMul, Int.reduceNeg, Int.reduceEq, Int.reduceNe, Int.reduceLT, Int.reduceLE, Int.reduceToNat, reduceDIte, Nat.reduceSucc, evI_callP, callPK_some, I40, hk, h', q1, c2', c3', msgV, encM_zero, zeroC_eq]
  have c3' : ((nth b 2).toNat : Int) = 6 := by omega
  rw [if_neg (fun hh => hh ⟨c1, c2, c3⟩)]
  by_cases c4 : (nth b 236).toNat = 99 ∧ (nth b 237).toNat = 130 ∧ (nth b 238).toNat = 83 ∧ (nth b 239).toNat = 99
  case neg =>
    rw [decide_eq_false (fun hh => c4 (hc.1 hh))] at q2
    rw [if_pos c4]
    simp (disch := first | omega | (simp only [List.length_cons, List.length_nil, List.length_append, List.length_map, List.length_set]; omega) | rfl | (simp only [List.length_cons, List.length_nil, List.length_append, List.length_map, List.length_set, List.length_replicate, List.all_cons, List.all_nil, List.all_append, storable, plainB, Bool.and_self]; done)) only [go_sem, reduceCtorEq, ↓reduceIte, Nat.reduceEqDiff, Nat.reduceAdd, Nat.reduceSub, Nat.reduceMul, Nat.reduceLeDiff, Nat.reduceLT, Nat.reduceBEq, Nat.reduceBNe, Int.reduceAdd, Int.reduceSub, Int.reduceMul, Int.reduceNeg, Int.reduceEq, Int.reduceNe, Int.reduceLT, Int.reduceLE, Int.reduceToNat, reduceDIte, Nat.reduceSucc, evI_callP, callPK_some, I40, hk, h', q1, c2', c3', q2, hfr, msgV, encM_zero, zeroC_eq]
  rw [decide_eq_true (hc.2 c4)] at q2
  rw [if_neg (fun hh => hh c4)]
  have q3 := fun g => s22 g (b.drop 240) (by rw [List.length_drop]; omega)
  cases hp : parseO (b.drop 240) with
  | none =>
    rw [hp] at q3
    simp only [parseR] at q3
    simp (disch := first | omega | (simp only [List.length_cons, List.length_nil, List.length_append, List.length_map, List.length_set]; omega) | rfl | (simp only [List.length_cons, List.length_nil, List.length_append, List.length_map, List.length_set, List.length_replicate, List.all_cons, List.all_nil, List.all_append, storable, plainB, Bool.and_self]; done)) only [go_sem, reduceCtorEq, ↓reduceIte, Nat.reduceEqDiff, Nat.reduceAdd, Nat.reduceSub, Nat.reduceMul, Nat.reduceLeDiff, Nat.reduceLT, Nat.reduceBEq, Nat.reduceBNe, Int.reduceAdd, Int.reduceSub, Int.reduceMul, Int.reduceNeg, Int.reduceEq, Int.reduceNe, Int.reduceLT, Int.reduceLE, Int.reduceToNat, reduceDIte, Nat.reduceSucc, evI_callP, callPK_some, I40, hk, h', q1, c2', c3', q2, hfr, q3, msgV, encM_zero, zeroC_eq]
  | some l =>
    rw [hp] at q3
    simp only [parseR] at q3
    have q4 := fun g => s82 g b (by omega) 8 2 (by constructor <;> omega)
    obtain ⟨e1, e2⟩ := at_ok (b := b) (i := 8) (k := 2) (by omega) (by omega) (by omega)
    simp only [Int.cast_ofNat_Int] at e1 e2
    rw [e1, e2, ← n16_toNat] at q4
    have hn := (n16 b 8).toNat_lt
    have f1 := fun g => s90 g b (by omega) 4 (by omega)
    have f2 := fun g => s90 g b (by omega) 12 (by omega)
    have f3 := fun g => s90 g b (by omega) 16 (by omega)
    have f4 := fun g => s90 g b (by omega) 20 (by omega)
    have f5 := fun g => s90 g b (by omega) 24 (by omega)
    rw [← n32_toNat] at f1 f2 f3 f4 f5
    simp only [Int.cast_ofNat_Int] at f1 f2 f3 f4 f5
    have w := w128 (nth b 10)
    have hs2 : ∀ h g, s2aK h 6 1 (.rs g 1 ((b.drop 28).map by8)) = some (.rp g (.agg [.int .u8 ((nth b 28).toNat : Int), .int .u8 ((nth b 29).toNat : Int), .int .u8 ((nth b 30).toNat : Int), .int .u8 ((nth b 31).toNat : Int), .int .u8 ((nth b 32).toNat : Int), .int .u8 ((nth b 33).toNat : Int)]), h) := by
      intro h g
      rw [s2a_by8 h g (b.drop 28) 6 (by omega) (by rw [List.length_drop]; omega), mac6 b (by omega)]
      rfl
    show _ = some (msgV (msgOf b l, 0), [])
    simp (disch := first | omega | (simp only [List.length_cons, List.length_nil, List.length_append, List.length_map, List.length_set]; omega) | rfl | (simp only [List.length_cons, List.length_nil, List.length_append, List.length_map, List.length_set, List.length_replicate, List.all_cons, List.all_nil, List.all_append, storable, plainB, Bool.and_self]; done)) only [go_sem, reduceCtorEq, ↓reduceIte, Nat.reduceEqDiff, Nat.reduceAdd, Nat.reduceSub, Nat.reduceMul, Nat.reduceLeDiff, Nat.reduceLT, Nat.reduceBEq, Nat.reduceBNe, Int.reduceAdd, Int.reduceSub, Int.reduceMul, Int.reduceNeg, Int.reduceEq, Int.reduceNe, Int.reduceLT, Int.reduceLE, Int.reduceToNat, reduceDIte, Nat.reduceSucc, evI_callP, callPK_some, I40, hk, h', q1, c2', c3', q2, hfr, q3, q4, f1, f2, f3, f4, f5, w, hs2, msgV, encM_eq, msgOf]
end Go.Fw.Wd
