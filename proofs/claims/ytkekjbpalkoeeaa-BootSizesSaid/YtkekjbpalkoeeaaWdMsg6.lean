/-
  The bytes of messages, the document's and the program's. Conditions: stated at each.
-/
import Derived.Test.YtkekjbpalkoeeaaWdMsg3
import Derived.Test.YtkekjbpalkoeeaaWdRow
import Derived.Test.YtkekjbpalkoeeaaWdOlaws
set_option linter.unusedVariables false
set_option linter.unusedSimpArgs false
namespace Go.Fw.Wd
open Go.Proofs Code_

theorem amR_by8 (h : Heap) (t : TypeId) (n : Int) (l ver m : Nat) (vs : List UInt8) (hm : vs.length = m) (h0 : 0 ≤ n) (h1 : m + n.toNat ≤ 140737488355328) :
    amR h 1 1 t [.int .u8 0] n l ver m (some (.row ver 1 (vs.map by8) t)) = some (.sl 1 l (ver + 1) 0 (m + n.toNat), h.set l (.row (ver + 1) 1 ((vs ++ List.replicate n.toNat 0).map by8) t)) := by
  have h2 : (m + n.toNat) * 1 ≤ 140737488355328 := by omega
  have e := rep_by8 0 n.toNat
  simp only [show ((UInt8.toNat 0 : Nat) : Int) = 0 from rfl] at e
  simp only [amR, List.length_map, Nat.mul_one, hm, h0, h1, and_self, if_true, e, List.map_append]
def wideB (w : Bool) : UInt8 := if w then 128 else 0
/-- A message's bytes. -/
def msgB (m : Msg) : List UInt8 := [m.op, 1, 6, 0] ++ encb 4 m.xid.toNat ++ encb 2 m.secs.toNat ++ [wideB m.wide, 0] ++ encb 4 m.ci.toNat ++ encb 4 m.yi.toNat ++ encb 4 m.si.toNat ++ encb 4 m.gi.toNat ++ macL m ++ List.replicate 202 0 ++ cookieB ++ bytesB m.o
def msgE (m : Msg) : Int := if ¬ (m.op.toNat = 1 ∨ m.op.toNat = 2) then 14 else if bytesE m.o ≠ 0 then bytesE m.o else if 1472 < 240 + (bytesB m.o).length then 11 else 0
def msgBV (m : Msg) : AV := .tup [bs false (if msgE m = 0 then msgB m else []), .int .i64 (msgE m)]

theorem msgBV_err {m : Msg} {k : Int} (h : msgE m = k) (hk : k ≠ 0) : msgBV m = .tup [bs false [], .int .i64 k] := by
  unfold msgBV
  rw [h, if_neg hk]
theorem msgBV_ok {m : Msg} (h : msgE m = 0) : msgBV m = .tup [bs false (msgB m), .int .i64 0] := by
  unfold msgBV
  rw [h, if_pos rfl]
theorem msgE_1 {m : Msg} (h : ¬ (m.op.toNat = 1 ∨ m.op.toNat = 2)) : msgE m = 14 := by unfold msgE; rw [if_pos h]
theorem msgE_2 {m : Msg} (h : m.op.toNat = 1 ∨ m.op.toNat = 2) (h2 : bytesE m.o ≠ 0) : msgE m = bytesE m.o := by unfold msgE; rw [if_neg (fun hh => hh h), if_pos h2]
theorem msgE_3 {m : Msg} (h : m.op.toNat = 1 ∨ m.op.toNat = 2) (h2 : bytesE m.o = 0) (h3 : 1472 < 240 + (bytesB m.o).length) : msgE m = 11 := by unfold msgE; rw [if_neg (fun hh => hh h), if_neg (fun hh => hh h2), if_pos h3]
theorem msgE_0 {m : Msg} (h : m.op.toNat = 1 ∨ m.op.toNat = 2) (h2 : bytesE m.o = 0) (h3 : ¬ 1472 < 240 + (bytesB m.o).length) : msgE m = 0 := by unfold msgE; rw [if_neg (fun hh => hh h), if_neg (fun hh => hh h2), if_neg h3]

theorem s46 (g : Bool) (m : Msg) (hl : small m.o) (hb : (optsB m.o).length ≤ 4000000000) : pcall E 46 [.agg (encG g m)] = some (msgBV m, []) := by
  rw [pcall_go (fn := I46) rfl rfl rfl]
  have hk : E.keep 46 = false := rfl
  have q0 := fun g => s29 g m.o hl hb
  have hbl := bytesB_len hb
  simp only [bytesV] at q0
  by_cases c1 : (m.op.toNat : Int) < 1
  · rw [msgBV_err (msgE_1 (by omega)) (by omega)]
    simp only [encG_eq]
    simp (disch := first | omega | (simp only [List.length_cons, List.length_nil, List.length_append, List.length_map, List.length_set]; omega) | rfl | (simp only [List.length_cons, List.length_nil, List.length_append, List.length_map, List.length_set, List.length_replicate, List.all_cons, List.all_nil, List.all_append, storable, plainB, Bool.and_self]; done)) only [go_sem, reduceCtorEq, ↓reduceIte, Nat.reduceEqDiff, Nat.reduceAdd, Nat.reduceSub, Nat.reduceMul, Nat.reduceLeDiff, Nat.reduceLT, Nat.reduceBEq, Nat.reduceBNe, Int.reduceAdd, Int.reduceSub, Int.reduceMul, Int.reduceNeg, Int.reduceEq, Int.reduceNe, Int.reduceLT, Int.reduceLE, Int.reduceToNat, reduceDIte, Nat.reduceSucc, evI_callP, callPK_some, I46, hk, c1, Int.reduceEq]
  by_cases c2 : (2 : Int) < m.op.toNat
  · rw [msgBV_err (msgE_1 (by omega)) (by omega)]
    simp only [encG_eq]
    simp (disch := first | omega | (simp only [List.length_cons, List.length_nil, List.length_append, List.length_map, List.length_set]; omega) | rfl | (simp only [List.length_cons, List.length_nil, List.length_append, List.length_map, List.length_set, List.length_replicate, List.all_cons, List.all_nil, List.all_append, storable, plainB, Bool.and_self]; done)) only [go_sem, reduceCtorEq, ↓reduceIte, Nat.reduceEqDiff, Nat.reduceAdd, Nat.reduceSub, Nat.reduceMul, Nat.reduceLeDiff, Nat.reduceLT, Nat.reduceBEq, Nat.reduceBNe, Int.reduceAdd, Int.reduceSub, Int.reduceMul, Int.reduceNeg, Int.reduceEq, Int.reduceNe, Int.reduceLT, Int.reduceLE, Int.reduceToNat, reduceDIte, Nat.reduceSucc, evI_callP, callPK_some, I46, hk, c1, c2, Int.reduceEq]
  have hop : m.op.toNat = 1 ∨ m.op.toNat = 2 := by omega
  by_cases c3 : bytesE m.o = 0
  case neg =>
    rw [msgBV_err (msgE_2 hop c3) c3]
    simp only [encG_eq]
    simp (disch := first | omega | (simp only [List.length_cons, List.length_nil, List.length_append, List.length_map, List.length_set]; omega) | rfl | (simp only [List.length_cons, List.length_nil, List.length_append, List.length_map, List.length_set, List.length_replicate, List.all_cons, List.all_nil, List.all_append, storable, plainB, Bool.and_self]; done)) only [go_sem, reduceCtorEq, ↓reduceIte, Nat.reduceEqDiff, Nat.reduceAdd, Nat.reduceSub, Nat.reduceMul, Nat.reduceLeDiff, Nat.reduceLT, Nat.reduceBEq, Nat.reduceBNe, Int.reduceAdd, Int.reduceSub, Int.reduceMul, Int.reduceNeg, Int.reduceEq, Int.reduceNe, Int.reduceLT, Int.reduceLE, Int.reduceToNat, reduceDIte, Nat.reduceSucc, evI_callP, callPK_some, I46, hk, c1, c2, c3, q0]
  rw [c3] at q0
  obtain ⟨o, ho⟩ : ∃ x, x = bytesB m.o := ⟨_, rfl⟩
  have m3 := fun h => msgE_3 hop c3 h
  have m0 := fun h => msgE_0 hop c3 h
  rw [← ho] at hbl q0 m3 m0
  have hw0 : IntKind.i64.wrap (240 + (o.length : Int)) = 240 + (o.length : Int) := w64 (by omega) (by omega)
  by_cases c4 : (1472 : Int) < 240 + (o.length : Int)
  · rw [msgBV_err (m3 (by omega)) (by omega)]
    simp only [encG_eq]
    simp (disch := first | omega | (simp only [List.length_cons, List.length_nil, List.length_append, List.length_map, List.length_set]; omega) | rfl | (simp only [List.length_cons, List.length_nil, List.length_append, List.length_map, List.length_set, List.length_replicate, List.all_cons, List.all_nil, List.all_append, storable, plainB, Bool.and_self]; done)) only [go_sem, reduceCtorEq, ↓reduceIte, Nat.reduceEqDiff, Nat.reduceAdd, Nat.reduceSub, Nat.reduceMul, Nat.reduceLeDiff, Nat.reduceLT, Nat.reduceBEq, Nat.reduceBNe, Int.reduceAdd, Int.reduceSub, Int.reduceMul, Int.reduceNeg, Int.reduceEq, Int.reduceNe, Int.reduceLT, Int.reduceLE, Int.reduceToNat, reduceDIte, Nat.reduceSucc, evI_callP, callPK_some, I46, hk, c1, c2, q0, hw0, c4, Int.reduceEq]
  rw [msgBV_ok (m0 (by omega))]
  have n1 := m.xid.toNat_lt
  have n2 := m.secs.toNat_lt
  have n3 := m.ci.toNat_lt
  have n4 := m.yi.toNat_lt
  have n5 := m.si.toNat_lt
  have n6 := m.gi.toNat_lt
  have q1 := s87 m.xid.toNat (by omega)
  have q2 := s94 m.secs.toNat (by omega)
  have q3 := s87 m.ci.toNat (by omega)
  have q4 := s87 m.yi.toNat (by omega)
  have q5 := s87 m.si.toNat (by omega)
  have q6 := s87 m.gi.toNat (by omega)
  have w2 : IntKind.i64.wrap (m.secs.toNat : Int) = (m.secs.toNat : Int) := w64 (by omega) (by omega)
  unfold msgB
  rw [← ho]
  obtain ⟨d1, e1⟩ : ∃ x, x = encb 4 m.xid.toNat := ⟨_, rfl⟩
  obtain ⟨d2, e2⟩ : ∃ x, x = encb 2 m.secs.toNat := ⟨_, rfl⟩
  obtain ⟨d3, e3⟩ : ∃ x, x = encb 4 m.ci.toNat := ⟨_, rfl⟩
  obtain ⟨d4, e4⟩ : ∃ x, x = encb 4 m.yi.toNat := ⟨_, rfl⟩
  obtain ⟨d5, e5⟩ : ∃ x, x = encb 4 m.si.toNat := ⟨_, rfl⟩
  obtain ⟨d6, e6⟩ : ∃ x, x = encb 4 m.gi.toNat := ⟨_, rfl⟩
  have l1 : d1.length = 4 := by rw [e1, encb_length]
  have l2 : d2.length = 2 := by rw [e2, encb_length]
  have l3 : d3.length = 4 := by rw [e3, encb_length]
  have l4 : d4.length = 4 := by rw [e4, encb_length]
  have l5 : d5.length = 4 := by rw [e5, encb_length]
  have l6 : d6.length = 4 := by rw [e6, encb_length]
  rw [← e1] at q1 ⊢
  rw [← e2] at q2 ⊢
  rw [← e3] at q3 ⊢
  rw [← e4] at q4 ⊢
  rw [← e5] at q5 ⊢
  rw [← e6] at q6 ⊢
  obtain ⟨x1, y1⟩ : ∃ x, x = [m.op, 1, 6, 0] ++ d1 := ⟨_, rfl⟩
  obtain ⟨x2, y2⟩ : ∃ x, x = x1 ++ d2 := ⟨_, rfl⟩
  obtain ⟨x3, y3⟩ : ∃ x, x = x2 ++ [wideB m.wide, 0] := ⟨_, rfl⟩
  obtain ⟨x4, y4⟩ : ∃ x, x = x3 ++ d3 := ⟨_, rfl⟩
  obtain ⟨x5, y5⟩ : ∃ x, x = x4 ++ d4 := ⟨_, rfl⟩
  obtain ⟨x6, y6⟩ : ∃ x, x = x5 ++ d5 := ⟨_, rfl⟩
  obtain ⟨x7, y7⟩ : ∃ x, x = x6 ++ d6 := ⟨_, rfl⟩
  obtain ⟨x8, y8⟩ : ∃ x, x = x7 ++ macL m := ⟨_, rfl⟩
  obtain ⟨x9, y9⟩ : ∃ x, x = x8 ++ List.replicate 202 0 := ⟨_, rfl⟩
  obtain ⟨x10, y10⟩ : ∃ x, x = x9 ++ cookieB := ⟨_, rfl⟩
  obtain ⟨x11, y11⟩ : ∃ x, x = x10 ++ o := ⟨_, rfl⟩
  have z1 : x1.length = 8 := by rw [y1, List.length_append, l1]; rfl
  have z2 : x2.length = 10 := by rw [y2, List.length_append, z1, l2]
  have z3 : x3.length = 12 := by rw [y3, List.length_append, z2]; rfl
  have z4 : x4.length = 16 := by rw [y4, List.length_append, z3, l3]
  have z5 : x5.length = 20 := by rw [y5, List.length_append, z4, l4]
  have z6 : x6.length = 24 := by rw [y6, List.length_append, z5, l5]
  have z7 : x7.length = 28 := by rw [y7, List.length_append, z6, l6]
  have z8 : x8.length = 34 := by rw [y8, List.length_append, z7]; rfl
  have z9 : x9.length = 236 := by rw [y9, List.length_append, z8, List.length_replicate]
  have z10 : x10.length = 240 := by rw [y10, List.length_append, z9]; rfl
  have z11 : x11.length = 240 + o.length := by rw [y11, List.length_append, z10]
  rw [← y1, ← y2, ← y3, ← y4, ← y5, ← y6, ← y7, ← y8, ← y9, ← y10, ← y11]
  have a1 : ∀ h, appR h 1 1 5 (d1.map by8) 4 0 0 4 (some (.row 0 1 [.int .u8 (m.op.toNat : Int), .int .u8 1, .int .u8 6, .int .u8 0] 5)) = some (.sl 1 0 1 0 8, h.set 0 (.row 1 1 (x1.map by8) 5)) := fun h => by rw [y1]; exact appR_by8 h 1 5 0 0 4 4 [m.op, 1, 6, 0] d1 rfl (by omega) (by omega)
  have a2 : ∀ h, appR h 1 1 5 (d2.map by8) 2 0 1 8 (some (.row 1 1 (x1.map by8) 5)) = some (.sl 1 0 2 0 10, h.set 0 (.row 2 1 (x2.map by8) 5)) := fun h => by rw [y2]; exact appR_by8 h 1 5 0 1 8 2 x1 d2 z1 (by omega) (by omega)
  have a3 : ∀ h, appR h 1 1 5 [.int .u8 ((wideB m.wide).toNat : Int), .int .u8 0] 2 0 2 10 (some (.row 2 1 (x2.map by8) 5)) = some (.sl 1 0 3 0 12, h.set 0 (.row 3 1 (x3.map by8) 5)) := fun h => by rw [y3]; exact appR_by8 h 1 5 0 2 10 2 x2 [wideB m.wide, 0] z2 (by omega) (by omega)
  have a4 : ∀ h, appR h 1 1 5 (d3.map by8) 4 0 3 12 (some (.row 3 1 (x3.map by8) 5)) = some (.sl 1 0 4 0 16, h.set 0 (.row 4 1 (x4.map by8) 5)) := fun h => by rw [y4]; exact appR_by8 h 1 5 0 3 12 4 x3 d3 z3 (by omega) (by omega)
  have a5 : ∀ h, appR h 1 1 5 (d4.map by8) 4 0 4 16 (some (.row 4 1 (x4.map by8) 5)) = some (.sl 1 0 5 0 20, h.set 0 (.row 5 1 (x5.map by8) 5)) := fun h => by rw [y5]; exact appR_by8 h 1 5 0 4 16 4 x4 d4 z4 (by omega) (by omega)
  have a6 : ∀ h, appR h 1 1 5 (d5.map by8) 4 0 5 20 (some (.row 5 1 (x5.map by8) 5)) = some (.sl 1 0 6 0 24, h.set 0 (.row 6 1 (x6.map by8) 5)) := fun h => by rw [y6]; exact appR_by8 h 1 5 0 5 20 4 x5 d5 z5 (by omega) (by omega)
  have a7 : ∀ h, appR h 1 1 5 (d6.map by8) 4 0 6 24 (some (.row 6 1 (x6.map by8) 5)) = some (.sl 1 0 7 0 28, h.set 0 (.row 7 1 (x7.map by8) 5)) := fun h => by rw [y7]; exact appR_by8 h 1 5 0 6 24 4 x6 d6 z6 (by omega) (by omega)
  have a8 : ∀ h, appR h 1 1 5 [.int .u8 (m.a.toNat : Int), .int .u8 (m.b.toNat : Int), .int .u8 (m.c.toNat : Int), .int .u8 (m.d.toNat : Int), .int .u8 (m.e.toNat : Int), .int .u8 (m.f.toNat : Int)] 6 0 7 28 (some (.row 7 1 (x7.map by8) 5)) = some (.sl 1 0 8 0 34, h.set 0 (.row 8 1 (x8.map by8) 5)) := fun h => by rw [y8]; exact appR_by8 h 1 5 0 7 28 6 x7 (macL m) z7 (by omega) (by omega)
  have a9 : ∀ h, amR h 1 1 5 [.int .u8 0] 202 0 8 34 (some (.row 8 1 (x8.map by8) 5)) = some (.sl 1 0 9 0 236, h.set 0 (.row 9 1 (x9.map by8) 5)) := fun h => by rw [y9]; exact amR_by8 h 5 202 0 8 34 x8 z8 (by omega) (by omega)
  have a10 : ∀ h, appR h 1 1 5 [.int .u8 99, .int .u8 130, .int .u8 83, .int .u8 99] 4 0 9 236 (some (.row 9 1 (x9.map by8) 5)) = some (.sl 1 0 10 0 240, h.set 0 (.row 10 1 (x10.map by8) 5)) := fun h => by rw [y10]; exact appR_by8 h 1 5 0 9 236 4 x9 cookieB z9 (by omega) (by omega)
  have a11 : ∀ h, appR h 1 1 5 (o.map by8) o.length 0 10 240 (some (.row 10 1 (x10.map by8) 5)) = some (.sl 1 0 11 0 (240 + o.length), h.set 0 (.row 11 1 (x11.map by8) 5)) := fun h => by rw [y11]; exact appR_by8 h 1 5 0 10 240 o.length x10 o z10 (by omega) (by omega)
  clear y1 y2 y3 y4 y5 y6 y7 y8 y9 y10 y11 e1 e2 e3 e4 e5 e6
  simp only [encG_eq]
  cases hw : m.wide with
  | true =>
    rw [hw] at a3
    simp only [wideB, if_true, show ((UInt8.toNat 128 : Nat) : Int) = 128 from rfl] at a3
    simp (disch := first | omega | (simp only [List.length_cons, List.length_nil, List.length_append, List.length_map, List.length_set]; omega) | rfl | (simp only [List.length_cons, List.length_nil, List.length_append, List.length_map, List.length_set, List.length_replicate, List.all_cons, List.all_nil, List.all_append, storable, plainB, Bool.and_self]; done)) only [go_sem, reduceCtorEq, ↓reduceIte, Nat.reduceEqDiff, Nat.reduceAdd, Nat.reduceSub, Nat.reduceMul, Nat.reduceLeDiff, Nat.reduceLT, Nat.reduceBEq, Nat.reduceBNe, Int.reduceAdd, Int.reduceSub, Int.reduceMul, Int.reduceNeg, Int.reduceEq, Int.reduceNe, Int.reduceLT, Int.reduceLE, Int.reduceToNat, reduceDIte, Nat.reduceSucc, evI_callP, callPK_some, I46, hk, c1, c2, q0, hw0, c4, q1, q2, q3, q4, q5, q6, w2, l1, l2, l3, l4, l5, l6, a1, a2, a3, a4, a5, a6, a7, a8, a9, a10, a11, hw, L46_0_lp, L46_0_go, B46_0, z11]
  | false =>
    rw [hw] at a3
    simp only [wideB, Bool.false_eq_true, if_false, show ((UInt8.toNat 0 : Nat) : Int) = 0 from rfl] at a3
    simp (disch := first | omega | (simp only [List.length_cons, List.length_nil, List.length_append, List.length_map, List.length_set]; omega) | rfl | (simp only [List.length_cons, List.length_nil, List.length_append, List.length_map, List.length_set, List.length_replicate, List.all_cons, List.all_nil, List.all_append, storable, plainB, Bool.and_self]; done)) only [go_sem, reduceCtorEq, ↓reduceIte, Nat.reduceEqDiff, Nat.reduceAdd, Nat.reduceSub, Nat.reduceMul, Nat.reduceLeDiff, Nat.reduceLT, Nat.reduceBEq, Nat.reduceBNe, Int.reduceAdd, Int.reduceSub, Int.reduceMul, Int.reduceNeg, Int.reduceEq, Int.reduceNe, Int.reduceLT, Int.reduceLE, Int.reduceToNat, reduceDIte, Nat.reduceSucc, evI_callP, callPK_some, I46, hk, c1, c2, q0, hw0, c4, q1, q2, q3, q4, q5, q6, w2, l1, l2, l3, l4, l5, l6, a1, a2, a3, a4, a5, a6, a7, a8, a9, a10, a11, hw, L46_0_lp, L46_0_go, B46_0, z11]

theorem row_1 (n size : Nat) (hs : 1 ≤ size ∧ size ≤ 8) (hn : n < 256 ^ size) (h64 : n < 18446744073709551616) : pcall E 86 [.int .i64 (size : Int), .rs false 1 [.int .u64 (n : Int)]] = some (.tup [bs false (encb size n), .int .i64 0], []) := by
  have e : (UInt64.ofNat n).toNat = n := UInt64.toNat_ofNat_of_lt' h64
  have q := s86 false [UInt64.ofNat n] (by simp) (size : Int)
  have hf : fits size [UInt64.ofNat n] = true := by simp only [fits, List.all_cons, List.all_nil, e, hn, decide_true, Bool.and_true]
  have h1 : rowE (size : Int) [UInt64.ofNat n] = 0 := by
    unfold rowE
    rw [if_pos ⟨by omega, by simpa using hf⟩]
  have h2 : rowB_ (size : Int) [UInt64.ofNat n] = encb size n := by
    unfold rowB_
    rw [if_pos ⟨by omega, by simpa using hf⟩]
    simp [rowb, e]
  have hk : E.keep 86 = false := rfl
  simp only [us, List.map_cons, List.map_nil, u64v, e, h1, h2, hk, kres_f] at q
  exact q
theorem row_4 (a b c d : UInt32) : pcall E 86 [.int .i64 4, .rs false 1 [.int .u64 (a.toNat : Int), .int .u64 (b.toNat : Int), .int .u64 (c.toNat : Int), .int .u64 (d.toNat : Int)]] = some (.tup [bs false (encb 4 a.toNat ++ encb 4 b.toNat ++ encb 4 c.toNat ++ encb 4 d.toNat), .int .i64 0], []) := by
  have h : ∀ x : UInt32, (UInt64.ofNat x.toNat).toNat = x.toNat := fun x => UInt64.toNat_ofNat_of_lt' (by have := x.toNat_lt; show _ < 18446744073709551616; omega)
  have h' : ∀ x : UInt32, x.toNat < 256 ^ 4 := fun x => by have := x.toNat_lt; omega
  have q := s86 false [UInt64.ofNat a.toNat, UInt64.ofNat b.toNat, UInt64.ofNat c.toNat, UInt64.ofNat d.toNat] (by simp) 4
  have hf : fits (Int.toNat 4) [UInt64.ofNat a.toNat, UInt64.ofNat b.toNat, UInt64.ofNat c.toNat, UInt64.ofNat d.toNat] = true := by
    show fits 4 _ = true
    simp only [fits, List.all_cons, List.all_nil, h, h', decide_true, Bool.and_true]
  have h1 : rowE 4 [UInt64.ofNat a.toNat, UInt64.ofNat b.toNat, UInt64.ofNat c.toNat, UInt64.ofNat d.toNat] = 0 := by
    unfold rowE
    rw [if_pos ⟨by omega, hf⟩]
  have h2 : rowB_ 4 [UInt64.ofNat a.toNat, UInt64.ofNat b.toNat, UInt64.ofNat c.toNat, UInt64.ofNat d.toNat] = encb 4 a.toNat ++ encb 4 b.toNat ++ encb 4 c.toNat ++ encb 4 d.toNat := by
    unfold rowB_
    rw [if_pos ⟨by omega, hf⟩]
    show rowb 4 _ = _
    simp only [rowb, List.flatMap_cons, List.flatMap_nil, h, List.append_nil, List.append_assoc]
  have hk : E.keep 86 = false := rfl
  simp only [us, List.map_cons, List.map_nil, u64v, h, h1, h2, hk, kres_f] at q
  exact q

theorem sn6 (g : Bool) (t1 t2 : TypeId) (w : Int) (v0 v1 v2 v4 v5 : List AV) : snR g [.row 0 1 [.int .u8 w, .int .u8 0] t1, .row 0 1 [.rs false 1 v0, .rs false 1 v1, .rs false 1 v2, .sl 1 0 0 0 2, .rs false 1 v4, .rs false 1 v5] t2] 8 1 0 6
    (some (.row 0 1 [.rs false 1 v0, .rs false 1 v1, .rs false 1 v2, .sl 1 0 0 0 2, .rs false 1 v4, .rs false 1 v5] t2)) = some (.rs g 1 [.rs false 1 v0, .rs false 1 v1, .rs false 1 v2, .rs g 1 [.int .u8 w, .int .u8 0], .rs false 1 v4, .rs false 1 v5]) := (rfl)
theorem ia2 (t : TypeId) : iaddrK [.row 0 1 [.int .u8 0, .int .u8 0] t] 1 (.sl 1 0 0 0 2) (.int .i64 0) = some (.ref 0 0 0, [.row 0 1 [.int .u8 0, .int .u8 0] t]) := (rfl)
theorem st2 (t : TypeId) : stR [.row 0 1 [.int .u8 0, .int .u8 0] t] 0 0 0 (.int .u8 128) (some (.row 0 1 [.int .u8 0, .int .u8 0] t)) = some [.row 0 1 [.int .u8 128, .int .u8 0] t] := (rfl)
theorem sn4 (g : Bool) (a b c : AObj) (t2 t4 : TypeId) (v0 v2 v3 : List AV) (z : List UInt8) (lz : z.length = 202) : snR g [a, b, .row 0 1 (z.map by8) t2, c, .row 0 1 [.rs false 1 v0, .sl 1 2 0 0 202, .rs false 1 v2, .rs false 1 v3] t4] 8 4 0 4
    (some (.row 0 1 [.rs false 1 v0, .sl 1 2 0 0 202, .rs false 1 v2, .rs false 1 v3] t4)) = some (.rs g 1 [.rs false 1 v0, .rs g 1 (z.map by8), .rs false 1 v2, .rs false 1 v3]) := by
  have e : sn g [a, b, .row 0 1 (z.map by8) t2, c, .row 0 1 [.rs false 1 v0, .sl 1 2 0 0 202, .rs false 1 v2, .rs false 1 v3] t4] 7 (.sl 1 2 0 0 202) = some (.rs g 1 (z.map by8)) := by
    rw [sn_row]
    exact snR_by8 g _ 7 2 0 202 z t2 lz
  refine (sn_row g [a, b, .row 0 1 (z.map by8) t2, c, .row 0 1 [.rs false 1 v0, .sl 1 2 0 0 202, .rs false 1 v2, .rs false 1 v3] t4] 7 4 0 4).symm.trans ?_
  rw [sn_sl]
  show (snL g _ 7 [.rs false 1 v0, .sl 1 2 0 0 202, .rs false 1 v2, .rs false 1 v3]).map _ = _
  simp only [snL_cons, snL_nil, sn_rs, e, consK_some, Option.map_some]
  rfl
theorem s45 (g : Bool) (m : Msg) (hl : small m.o) (hb : (optsB m.o).length ≤ 4000000000) : pcall E 45 [.agg (encG g m)] = some (msgBV m, []) := by
  rw [pcall_go (fn := I45) rfl rfl rfl]
  have hk : E.keep 45 = false := rfl
  have q0 := fun g => s28 g m.o hl hb
  have hbl := bytesB_len hb
  have qk := s88 m.op
  have e0 : (m.op = 1 ∨ m.op = 2) ↔ (m.op.toNat = 1 ∨ m.op.toNat = 2) := by
    rw [← UInt8.toNat_inj, ← UInt8.toNat_inj]
    exact Iff.rfl
  simp only [bytesV] at q0
  by_cases hop : m.op.toNat = 1 ∨ m.op.toNat = 2
  case neg =>
    rw [msgBV_err (msgE_1 hop) (by omega)]
    rw [decide_eq_false (fun h => hop (e0.1 h))] at qk
    simp only [encG_eq]
    simp (disch := first | omega | (simp only [List.length_cons, List.length_nil, List.length_append, List.length_map, List.length_set]; omega) | rfl | (simp only [List.length_cons, List.length_nil, List.length_append, List.length_map, List.length_set, List.length_replicate, List.all_cons, List.all_nil, List.all_append, storable, plainB, Bool.and_self]; done)) only [go_sem, reduceCtorEq, ↓reduceIte, Nat.reduceEqDiff, Nat.reduceAdd, Nat.reduceSub, Nat.reduceMul, Nat.reduceLeDiff, Nat.reduceLT, Nat.reduceBEq, Nat.reduceBNe, Int.reduceAdd, Int.reduceSub, Int.reduceMul, Int.reduceNeg, Int.reduceEq, Int.reduceNe, Int.reduceLT, Int.reduceLE, Int.reduceToNat, reduceDIte, Nat.reduceSucc, evI_callP, callPK_some, I45, hk, qk]
  rw [decide_eq_true (e0.2 hop)] at qk
  by_cases c3 : bytesE m.o = 0
  case neg =>
    rw [msgBV_err (msgE_2 hop c3) c3]
    simp only [encG_eq]
    simp (disch := first | omega | (simp only [List.length_cons, List.length_nil, List.length_append, List.length_map, List.length_set]; omega) | rfl | (simp only [List.length_cons, List.length_nil, List.length_append, List.length_map, List.length_set, List.length_replicate, List.all_cons, List.all_nil, List.all_append, storable, plainB, Bool.and_self]; done)) only [go_sem, reduceCtorEq, ↓reduceIte, Nat.reduceEqDiff, Nat.reduceAdd, Nat.reduceSub, Nat.reduceMul, Nat.reduceLeDiff, Nat.reduceLT, Nat.reduceBEq, Nat.reduceBNe, Int.reduceAdd, Int.reduceSub, Int.reduceMul, Int.reduceNeg, Int.reduceEq, Int.reduceNe, Int.reduceLT, Int.reduceLE, Int.reduceToNat, reduceDIte, Nat.reduceSucc, evI_callP, callPK_some, I45, hk, qk, c3, q0]
  rw [c3] at q0
  obtain ⟨o, ho⟩ : ∃ x, x = bytesB m.o := ⟨_, rfl⟩
  have m3 := fun h => msgE_3 hop c3 h
  have m0 := fun h => msgE_0 hop c3 h
  rw [← ho] at hbl q0 m3 m0
  have hw0 : IntKind.i64.wrap (240 + (o.length : Int)) = 240 + (o.length : Int) := w64 (by omega) (by omega)
  by_cases c4 : (1472 : Int) < 240 + (o.length : Int)
  · rw [msgBV_err (m3 (by omega)) (by omega)]
    simp only [encG_eq]
    simp (disch := first | omega | (simp only [List.length_cons, List.length_nil, List.length_append, List.length_map, List.length_set]; omega) | rfl | (simp only [List.length_cons, List.length_nil, List.length_append, List.length_map, List.length_set, List.length_replicate, List.all_cons, List.all_nil, List.all_append, storable, plainB, Bool.and_self]; done)) only [go_sem, reduceCtorEq, ↓reduceIte, Nat.reduceEqDiff, Nat.reduceAdd, Nat.reduceSub, Nat.reduceMul, Nat.reduceLeDiff, Nat.reduceLT, Nat.reduceBEq, Nat.reduceBNe, Int.reduceAdd, Int.reduceSub, Int.reduceMul, Int.reduceNeg, Int.reduceEq, Int.reduceNe, Int.reduceLT, Int.reduceLE, Int.reduceToNat, reduceDIte, Nat.reduceSucc, evI_callP, callPK_some, I45, hk, qk, q0, hw0, c4, Int.reduceEq]
  rw [msgBV_ok (m0 (by omega))]
  have n1 := m.xid.toNat_lt
  have n2 := m.secs.toNat_lt
  have n3 := m.ci.toNat_lt
  have n4 := m.yi.toNat_lt
  have n5 := m.si.toNat_lt
  have n6 := m.gi.toNat_lt
  have w1 : IntKind.u64.wrap (m.xid.toNat : Int) = (m.xid.toNat : Int) := wu64 (by omega) (by omega)
  have w2 : IntKind.u64.wrap (m.secs.toNat : Int) = (m.secs.toNat : Int) := wu64 (by omega) (by omega)
  have w3 : IntKind.u64.wrap (m.ci.toNat : Int) = (m.ci.toNat : Int) := wu64 (by omega) (by omega)
  have w4 : IntKind.u64.wrap (m.yi.toNat : Int) = (m.yi.toNat : Int) := wu64 (by omega) (by omega)
  have w5 : IntKind.u64.wrap (m.si.toNat : Int) = (m.si.toNat : Int) := wu64 (by omega) (by omega)
  have w6 : IntKind.u64.wrap (m.gi.toNat : Int) = (m.gi.toNat : Int) := wu64 (by omega) (by omega)
  have q1 := row_1 m.xid.toNat 4 (by omega) (by omega) (by omega)
  have q2 := row_1 m.secs.toNat 2 (by omega) (by omega) (by omega)
  have q3 := row_4 m.ci m.yi m.si m.gi
  simp only [Int.cast_ofNat_Int] at q1 q2
  unfold msgB
  rw [← ho]
  obtain ⟨d1, e1⟩ : ∃ x, x = encb 4 m.xid.toNat := ⟨_, rfl⟩
  obtain ⟨d2, e2⟩ : ∃ x, x = encb 2 m.secs.toNat := ⟨_, rfl⟩
  obtain ⟨d3, e3⟩ : ∃ x, x = encb 4 m.ci.toNat ++ encb 4 m.yi.toNat ++ encb 4 m.si.toNat ++ encb 4 m.gi.toNat := ⟨_, rfl⟩
  have l1 : d1.length = 4 := by rw [e1, encb_length]
  have l2 : d2.length = 2 := by rw [e2, encb_length]
  have l3 : d3.length = 16 := by rw [e3]; simp only [List.length_append, encb_length]
  obtain ⟨z, ez⟩ : ∃ x : List UInt8, x = List.replicate 202 0 := ⟨_, rfl⟩
  have lz : z.length = 202 := by rw [ez, List.length_replicate]
  have mk : ∀ h, mkSlK h 1 1 5 [.int .u8 0] (.int .i64 202) = some (.sl 1 h.length 0 0 202, h ++ [.row 0 1 (z.map by8) 5]) := fun h => by rw [ez]; exact mkSl_by8 h 5 .i64 202 (by omega) (by omega)
  obtain ⟨c1, ec1⟩ : ∃ x, x = [m.op, 1, 6, 0] ++ d1 ++ d2 ++ [wideB m.wide, 0] ++ d3 ++ macL m := ⟨_, rfl⟩
  have lc1 : c1.length = 34 := by rw [ec1]; simp only [List.length_append, l1, l2, l3, macL]; rfl
  have k1 : ∀ g, pcall E 93 [.rs g 1 [.rs false 1 [.int .u8 (m.op.toNat : Int), .int .u8 1, .int .u8 6, .int .u8 0], .rs false 1 (d1.map by8), .rs false 1 (d2.map by8), .rs true 1 [.int .u8 ((wideB m.wide).toNat : Int), .int .u8 0], .rs false 1 (d3.map by8),
      .rs false 1 [.int .u8 (m.a.toNat : Int), .int .u8 (m.b.toNat : Int), .int .u8 (m.c.toNat : Int), .int .u8 (m.d.toNat : Int), .int .u8 (m.e.toNat : Int), .int .u8 (m.f.toNat : Int)]]] = some (bs false c1, []) := fun g => by
    have e : c1 = cat [(false, [m.op, 1, 6, 0]), (false, d1), (false, d2), (true, [wideB m.wide, 0]), (false, d3), (false, macL m)] := by rw [ec1]; simp only [cat, List.flatMap_cons, List.flatMap_nil, List.append_nil, List.append_assoc]
    have := s93 g [(false, [m.op, 1, 6, 0]), (false, d1), (false, d2), (true, [wideB m.wide, 0]), (false, d3), (false, macL m)] (by simp) (by rw [← e, lc1]; omega)
    rw [← e] at this
    exact this
  obtain ⟨c2, ec2⟩ : ∃ x, x = c1 ++ z ++ cookieB ++ o := ⟨_, rfl⟩
  have lc2 : c2.length = 240 + o.length := by rw [ec2]; simp only [List.length_append, lc1, lz, cookieB]; rfl
  have k2 : ∀ g, pcall E 93 [.rs g 1 [.rs false 1 (c1.map by8), .rs true 1 (z.map by8), .rs false 1 [.int .u8 99, .int .u8 130, .int .u8 83, .int .u8 99], .rs false 1 (o.map by8)]] = some (bs false c2, []) := fun g => by
    have e : c2 = cat [(false, c1), (true, z), (false, cookieB), (false, o)] := by rw [ec2]; simp only [cat, List.flatMap_cons, List.flatMap_nil, List.append_nil, List.append_assoc]
    have := s93 g [(false, c1), (true, z), (false, cookieB), (false, o)] (by simp) (by rw [← e, lc2]; omega)
    rw [← e] at this
    exact this
  have efin : [m.op, 1, 6, 0] ++ encb 4 m.xid.toNat ++ encb 2 m.secs.toNat ++ [wideB m.wide, 0] ++ encb 4 m.ci.toNat ++ encb 4 m.yi.toNat ++ encb 4 m.si.toNat ++ encb 4 m.gi.toNat ++ macL m ++ List.replicate 202 0 ++ cookieB ++ o = c2 := by
    rw [ec2, ec1, ez, e1, e2, e3]; simp only [List.append_assoc]
  rw [efin]
  rw [← e1] at q1
  rw [← e2] at q2
  rw [← e3] at q3
  have hfr : ∀ h l, frR h l 0 4 (some (.row 0 1 [.int .u8 99, .int .u8 130, .int .u8 83, .int .u8 99] 5)) = some (.rs false 1 [.int .u8 99, .int .u8 130, .int .u8 83, .int .u8 99], h.set l .gone) := fun h l => frR_by8 h l 0 4 cookieB 5 rfl (by omega)
  clear efin ec1 ec2 e1 e2 e3 ez
  simp only [encG_eq]
  cases hw : m.wide with
  | true =>
    rw [hw] at k1
    simp only [wideB, if_true, show ((UInt8.toNat 128 : Nat) : Int) = 128 from rfl] at k1
    simp (disch := first | omega | (simp only [List.length_cons, List.length_nil, List.length_append, List.length_map, List.length_set]; omega) | rfl | (simp only [List.length_cons, List.length_nil, List.length_append, List.length_map, List.length_set, List.length_replicate, List.all_cons, List.all_nil, List.all_append, storable, plainB, Bool.and_self]; done)) only [go_sem, reduceCtorEq, ↓reduceIte, Nat.reduceEqDiff, Nat.reduceAdd, Nat.reduceSub, Nat.reduceMul, Nat.reduceLeDiff, Nat.reduceLT, Nat.reduceBEq, Nat.reduceBNe, Int.reduceAdd, Int.reduceSub, Int.reduceMul, Int.reduceNeg, Int.reduceEq, Int.reduceNe, Int.reduceLT, Int.reduceLE, Int.reduceToNat, reduceDIte, Nat.reduceSucc, evI_callP, callPK_some, I45, hk, qk, q0, hw0, c4, q1, q2, q3, w1, w2, w3, w4, w5, w6, l1, l2, l3, k1, k2, lc1, lz, mk, hfr, hw, ia2, st2, sn6, sn4]
  | false =>
    rw [hw] at k1
    simp only [wideB, Bool.false_eq_true, if_false, show ((UInt8.toNat 0 : Nat) : Int) = 0 from rfl] at k1
    simp (disch := first | omega | (simp only [List.length_cons, List.length_nil, List.length_append, List.length_map, List.length_set]; omega) | rfl | (simp only [List.length_cons, List.length_nil, List.length_append, List.length_map, List.length_set, List.length_replicate, List.all_cons, List.all_nil, List.all_append, storable, plainB, Bool.and_self]; done)) only [go_sem, reduceCtorEq, ↓reduceIte, Nat.reduceEqDiff, Nat.reduceAdd, Nat.reduceSub, Nat.reduceMul, Nat.reduceLeDiff, Nat.reduceLT, Nat.reduceBEq, Nat.reduceBNe, Int.reduceAdd, Int.reduceSub, Int.reduceMul, Int.reduceNeg, Int.reduceEq, Int.reduceNe, Int.reduceLT, Int.reduceLE, Int.reduceToNat, reduceDIte, Nat.reduceSucc, evI_callP, callPK_some, I45, hk, qk, q0, hw0, c4, q1, q2, q3, w1, w2, w3, w4, w5, w6, l1, l2, l3, k1, k2, lc1, lz, mk, hfr, hw, ia2, st2, sn6, sn4]
end Go.Fw.Wd
