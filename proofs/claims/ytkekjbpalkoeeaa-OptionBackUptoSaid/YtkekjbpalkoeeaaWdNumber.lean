/-
  What Number, Same, Ip, One, Bytes answer of options, the program's and the document's. Conditions: stated at each.
-/
import Derived.Test.YtkekjbpalkoeeaaWdFind
set_option linter.unusedVariables false
set_option linter.unusedSimpArgs false
namespace Go.Fw.Wd
open Go.Proofs Code_

/-- What Number answers. -/
def numO (l : List Opt) (c : UInt8) (size : Int) : Nat × Bool :=
  match findO l c with
  | some d => if (d.length : Int) = size ∧ 1 ≤ size ∧ size ≤ 4 then (num d, true) else (0, false)
  | none => (0, false)
def numV (p : Nat × Bool) : AV := .tup [.int .u32 (p.1 : Int), .bool p.2]
theorem num_u32 {d : List UInt8} (h : d.length ≤ 4) : num d < 4294967296 := num_lt_of (n := 4) h
theorem findO_small {l : List Opt} {c : UInt8} {d : List UInt8} (hl : small l) (h : findO l c = some d) : d.length ≤ 1048576 := by
  rcases idxO_spec c l 0 with ⟨_, h2⟩ | ⟨k, h1, _, h3⟩
  · rw [h2] at h; cases h
  · rw [h3] at h
    injection h with h
    rw [← h]
    exact hl.2 _ (nth_mem h1)
theorem s32 (g : Bool) (l : List Opt) (c : UInt8) (size : Int) (hl : small l) : pcall E 32 [opts g l, .int .u8 (c.toNat : Int), .int .i64 size] = some (numV (numO l c size), []) := by
  rw [pcall_go (fn := I32) rfl rfl rfl]
  have hk : E.keep 32 = false := rfl
  have q := fun g => s30 g l c hl
  unfold numO
  cases hf : findO l c with
  | none =>
    rw [hf] at q
    simp only [findV] at q
    simp (disch := first | omega | (simp only [List.length_cons, List.length_nil, List.length_append, List.length_map, List.length_set]; omega) | rfl | (simp only [List.length_cons, List.length_nil, List.length_append, List.length_map, List.length_set, List.length_replicate, List.all_cons, List.all_nil, List.all_append, storable, plainB, Bool.and_self]; done)) only [go_sem, reduceCtorEq, ↓reduceIte, Nat.reduceEqDiff, Nat.reduceAdd, Nat.reduceSub, Nat.reduceMul, Nat.reduceLeDiff, Nat.reduceLT, Nat.reduceBEq, Nat.reduceBNe, Int.reduceAdd, Int.reduceSub, Int.reduceMul, Int.reduceNeg, Int.reduceEq, Int.reduceNe, Int.reduceLT, Int.reduceLE, Int.reduceToNat, reduceDIte, Nat.reduceSucc, evI_callP, callPK_some, I32, hk, q, numV]
  | some d =>
    rw [hf] at q
    simp only [findV] at q
    have hd := findO_small hl hf
    show _ = some (numV (if (d.length : Int) = size ∧ 1 ≤ size ∧ size ≤ 4 then (num d, true) else (0, false)), [])
    by_cases h4 : 4 < size
    · have : ¬ ((d.length : Int) = size ∧ 1 ≤ size ∧ size ≤ 4) := by omega
      rw [if_neg this]
      simp (disch := first | omega | (simp only [List.length_cons, List.length_nil, List.length_append, List.length_map, List.length_set]; omega) | rfl | (simp only [List.length_cons, List.length_nil, List.length_append, List.length_map, List.length_set, List.length_replicate, List.all_cons, List.all_nil, List.all_append, storable, plainB, Bool.and_self]; done)) only [go_sem, reduceCtorEq, ↓reduceIte, Nat.reduceEqDiff, Nat.reduceAdd, Nat.reduceSub, Nat.reduceMul, Nat.reduceLeDiff, Nat.reduceLT, Nat.reduceBEq, Nat.reduceBNe, Int.reduceAdd, Int.reduceSub, Int.reduceMul, Int.reduceNeg, Int.reduceEq, Int.reduceNe, Int.reduceLT, Int.reduceLE, Int.reduceToNat, reduceDIte, Nat.reduceSucc, evI_callP, callPK_some, I32, hk, q, numV, h4]
    by_cases hs : (d.length : Int) = size
    · have q2 := fun g => s82 g d (by omega) 0 size s64_0
      by_cases h1 : 1 ≤ size
      · have e1 : atE d 0 size = 0 := by
          simp only [atE, spanE]
          rw [if_pos (by omega), if_neg (by omega), if_neg (by omega), if_neg (by omega)]
        have e2 : atN d 0 size = num d := by
          simp only [atE] at e1
          rw [if_pos (by omega)] at e1
          simp only [atN, e1]
          rw [if_pos (by simp; omega)]
          rw [← hs]
          simp
        have hn := num_u32 (d := d) (by omega)
        rw [e1, e2] at q2
        have hc : (d.length : Int) = size ∧ 1 ≤ size ∧ size ≤ 4 := by omega
        rw [if_pos hc]
        have hs' : (d.length : Int) = size := hs
        subst hs
        simp (disch := first | omega | (simp only [List.length_cons, List.length_nil, List.length_append, List.length_map, List.length_set]; omega) | rfl | (simp only [List.length_cons, List.length_nil, List.length_append, List.length_map, List.length_set, List.length_replicate, List.all_cons, List.all_nil, List.all_append, storable, plainB, Bool.and_self]; done)) only [go_sem, reduceCtorEq, ↓reduceIte, Nat.reduceEqDiff, Nat.reduceAdd, Nat.reduceSub, Nat.reduceMul, Nat.reduceLeDiff, Nat.reduceLT, Nat.reduceBEq, Nat.reduceBNe, Int.reduceAdd, Int.reduceSub, Int.reduceMul, Int.reduceNeg, Int.reduceEq, Int.reduceNe, Int.reduceLT, Int.reduceLE, Int.reduceToNat, reduceDIte, Nat.reduceSucc, evI_callP, callPK_some, I32, hk, q, q2, numV, h4]
      · have e1 : atE d 0 size = 11 := by
          simp only [atE]
          rw [if_neg (by omega)]
        have e2 : atN d 0 size = 0 := by
          simp only [atN]
          rw [if_neg (by omega)]
        rw [e1, e2] at q2
        have hc : ¬ ((d.length : Int) = size ∧ 1 ≤ size ∧ size ≤ 4) := by omega
        rw [if_neg hc]
        subst hs
        simp (disch := first | omega | (simp only [List.length_cons, List.length_nil, List.length_append, List.length_map, List.length_set]; omega) | rfl | (simp only [List.length_cons, List.length_nil, List.length_append, List.length_map, List.length_set, List.length_replicate, List.all_cons, List.all_nil, List.all_append, storable, plainB, Bool.and_self]; done)) only [go_sem, reduceCtorEq, ↓reduceIte, Nat.reduceEqDiff, Nat.reduceAdd, Nat.reduceSub, Nat.reduceMul, Nat.reduceLeDiff, Nat.reduceLT, Nat.reduceBEq, Nat.reduceBNe, Int.reduceAdd, Int.reduceSub, Int.reduceMul, Int.reduceNeg, Int.reduceEq, Int.reduceNe, Int.reduceLT, Int.reduceLE, Int.reduceToNat, reduceDIte, Nat.reduceSucc, evI_callP, callPK_some, I32, hk, q, q2, numV, h4]
    · have : ¬ ((d.length : Int) = size ∧ 1 ≤ size ∧ size ≤ 4) := by omega
      rw [if_neg this]
      simp (disch := first | omega | (simp only [List.length_cons, List.length_nil, List.length_append, List.length_map, List.length_set]; omega) | rfl | (simp only [List.length_cons, List.length_nil, List.length_append, List.length_map, List.length_set, List.length_replicate, List.all_cons, List.all_nil, List.all_append, storable, plainB, Bool.and_self]; done)) only [go_sem, reduceCtorEq, ↓reduceIte, Nat.reduceEqDiff, Nat.reduceAdd, Nat.reduceSub, Nat.reduceMul, Nat.reduceLeDiff, Nat.reduceLT, Nat.reduceBEq, Nat.reduceBNe, Int.reduceAdd, Int.reduceSub, Int.reduceMul, Int.reduceNeg, Int.reduceEq, Int.reduceNe, Int.reduceLT, Int.reduceLE, Int.reduceToNat, reduceDIte, Nat.reduceSucc, evI_callP, callPK_some, I32, hk, q, numV, h4, hs]

theorem s33 (g : Bool) (l : List Opt) (c : UInt8) (size : Int) (hl : small l) : pcall E 33 [opts g l, .int .u8 (c.toNat : Int), .int .i64 size] = some (numV (numO l c size), []) := by
  rw [pcall_go (fn := I33) rfl rfl rfl]
  have hk : E.keep 33 = false := rfl
  have q := fun g => s31 g l c hl
  unfold numO
  cases hf : findO l c with
  | none =>
    rw [hf] at q
    simp only [findV] at q
    simp (disch := first | omega | (simp only [List.length_cons, List.length_nil, List.length_append, List.length_map, List.length_set]; omega) | rfl | (simp only [List.length_cons, List.length_nil, List.length_append, List.length_map, List.length_set, List.length_replicate, List.all_cons, List.all_nil, List.all_append, storable, plainB, Bool.and_self]; done)) only [go_sem, reduceCtorEq, ↓reduceIte, Nat.reduceEqDiff, Nat.reduceAdd, Nat.reduceSub, Nat.reduceMul, Nat.reduceLeDiff, Nat.reduceLT, Nat.reduceBEq, Nat.reduceBNe, Int.reduceAdd, Int.reduceSub, Int.reduceMul, Int.reduceNeg, Int.reduceEq, Int.reduceNe, Int.reduceLT, Int.reduceLE, Int.reduceToNat, reduceDIte, Nat.reduceSucc, evI_callP, callPK_some, I33, hk, q, numV]
  | some d =>
    rw [hf] at q
    simp only [findV] at q
    have hd := findO_small hl hf
    show _ = some (numV (if (d.length : Int) = size ∧ 1 ≤ size ∧ size ≤ 4 then (num d, true) else (0, false)), [])
    by_cases hs : (d.length : Int) = size
    · subst hs
      by_cases h1 : (d.length : Int) < 1
      · have : ¬ ((d.length : Int) = d.length ∧ 1 ≤ (d.length : Int) ∧ (d.length : Int) ≤ 4) := by omega
        rw [if_neg this]
        simp (disch := first | omega | (simp only [List.length_cons, List.length_nil, List.length_append, List.length_map, List.length_set]; omega) | rfl | (simp only [List.length_cons, List.length_nil, List.length_append, List.length_map, List.length_set, List.length_replicate, List.all_cons, List.all_nil, List.all_append, storable, plainB, Bool.and_self]; done)) only [go_sem, reduceCtorEq, ↓reduceIte, Nat.reduceEqDiff, Nat.reduceAdd, Nat.reduceSub, Nat.reduceMul, Nat.reduceLeDiff, Nat.reduceLT, Nat.reduceBEq, Nat.reduceBNe, Int.reduceAdd, Int.reduceSub, Int.reduceMul, Int.reduceNeg, Int.reduceEq, Int.reduceNe, Int.reduceLT, Int.reduceLE, Int.reduceToNat, reduceDIte, Nat.reduceSucc, evI_callP, callPK_some, I33, hk, q, numV, h1]
      by_cases h4 : 4 < (d.length : Int)
      · have : ¬ ((d.length : Int) = d.length ∧ 1 ≤ (d.length : Int) ∧ (d.length : Int) ≤ 4) := by omega
        rw [if_neg this]
        simp (disch := first | omega | (simp only [List.length_cons, List.length_nil, List.length_append, List.length_map, List.length_set]; omega) | rfl | (simp only [List.length_cons, List.length_nil, List.length_append, List.length_map, List.length_set, List.length_replicate, List.all_cons, List.all_nil, List.all_append, storable, plainB, Bool.and_self]; done)) only [go_sem, reduceCtorEq, ↓reduceIte, Nat.reduceEqDiff, Nat.reduceAdd, Nat.reduceSub, Nat.reduceMul, Nat.reduceLeDiff, Nat.reduceLT, Nat.reduceBEq, Nat.reduceBNe, Int.reduceAdd, Int.reduceSub, Int.reduceMul, Int.reduceNeg, Int.reduceEq, Int.reduceNe, Int.reduceLT, Int.reduceLE, Int.reduceToNat, reduceDIte, Nat.reduceSucc, evI_callP, callPK_some, I33, hk, q, numV, h1, h4]
      · have : ((d.length : Int) = d.length ∧ 1 ≤ (d.length : Int) ∧ (d.length : Int) ≤ 4) := by omega
        rw [if_pos this]
        have hrun := loop_from (E := E) L33_0_eq d.length (fun i => ⟨[(2, .int .i64 d.length), (8, bs false d), (10, .int .u32 (num (d.take i))), (11, .int .i64 i)], []⟩) rfl (fun i hi => by
          have g1 : (i : Int) < d.length := by omega
          have h3 := num_lt_of (l := d.take i) (n := 3) (by rw [List.length_take]; omega)
          have e4 := num_take_succ d i hi
          have h5 := (nth d i).toNat_lt
          simp (disch := first | omega | (simp only [List.length_cons, List.length_nil, List.length_append, List.length_map, List.length_set]; omega) | rfl | (simp only [List.length_cons, List.length_nil, List.length_append, List.length_map, List.length_set, List.length_replicate, List.all_cons, List.all_nil, List.all_append, storable, plainB, Bool.and_self]; done)) only [go_sem, reduceCtorEq, ↓reduceIte, Nat.reduceEqDiff, Nat.reduceAdd, Nat.reduceSub, Nat.reduceMul, Nat.reduceLeDiff, Nat.reduceLT, Nat.reduceBEq, Nat.reduceBNe, Int.reduceAdd, Int.reduceSub, Int.reduceMul, Int.reduceNeg, Int.reduceEq, Int.reduceNe, Int.reduceLT, Int.reduceLE, Int.reduceToNat, reduceDIte, Nat.reduceSucc, evI_callP, callPK_some, B33_0, g1, wb32, e4])
        simp only [go_sem, reduceCtorEq, ↓reduceIte, Nat.reduceEqDiff, Nat.reduceAdd, Nat.reduceSub, Nat.reduceMul, Nat.reduceLeDiff, Nat.reduceLT, Nat.reduceBEq, Nat.reduceBNe, Int.reduceAdd, Int.reduceSub, Int.reduceMul, Int.reduceNeg, Int.reduceEq, Int.reduceNe, Int.reduceLT, Int.reduceLE, Int.reduceToNat, reduceDIte, Nat.reduceSucc, evI_callP, callPK_some, num_nil, List.take_length] at hrun
        simp (disch := first | omega | (simp only [List.length_cons, List.length_nil, List.length_append, List.length_map, List.length_set]; omega) | rfl | (simp only [List.length_cons, List.length_nil, List.length_append, List.length_map, List.length_set, List.length_replicate, List.all_cons, List.all_nil, List.all_append, storable, plainB, Bool.and_self]; done)) only [go_sem, reduceCtorEq, ↓reduceIte, Nat.reduceEqDiff, Nat.reduceAdd, Nat.reduceSub, Nat.reduceMul, Nat.reduceLeDiff, Nat.reduceLT, Nat.reduceBEq, Nat.reduceBNe, Int.reduceAdd, Int.reduceSub, Int.reduceMul, Int.reduceNeg, Int.reduceEq, Int.reduceNe, Int.reduceLT, Int.reduceLE, Int.reduceToNat, reduceDIte, Nat.reduceSucc, evI_callP, callPK_some, I33, hk, q, numV, h1, h4, hrun, B33_0, Int.lt_irrefl]
    · have : ¬ ((d.length : Int) = size ∧ 1 ≤ size ∧ size ≤ 4) := by omega
      rw [if_neg this]
      simp (disch := first | omega | (simp only [List.length_cons, List.length_nil, List.length_append, List.length_map, List.length_set]; omega) | rfl | (simp only [List.length_cons, List.length_nil, List.length_append, List.length_map, List.length_set, List.length_replicate, List.all_cons, List.all_nil, List.all_append, storable, plainB, Bool.and_self]; done)) only [go_sem, reduceCtorEq, ↓reduceIte, Nat.reduceEqDiff, Nat.reduceAdd, Nat.reduceSub, Nat.reduceMul, Nat.reduceLeDiff, Nat.reduceLT, Nat.reduceBEq, Nat.reduceBNe, Int.reduceAdd, Int.reduceSub, Int.reduceMul, Int.reduceNeg, Int.reduceEq, Int.reduceNe, Int.reduceLT, Int.reduceLE, Int.reduceToNat, reduceDIte, Nat.reduceSucc, evI_callP, callPK_some, I33, hk, q, numV, hs]

/-! ### are two lists the same? -/

theorem s85 (g g' : Bool) (a b : List UInt8) : pcall E 85 [bs g a, bs g' b] = some (.bool (decide (a = b)), []) := by
  rw [pcall_go (fn := I85) rfl rfl rfl]
  have hk : E.keep 85 = false := rfl
  simp (disch := first | omega | (simp only [List.length_cons, List.length_nil, List.length_append, List.length_map, List.length_set]; omega) | rfl | (simp only [List.length_cons, List.length_nil, List.length_append, List.length_map, List.length_set, List.length_replicate, List.all_cons, List.all_nil, List.all_append, storable, plainB, Bool.and_self]; done)) only [go_sem, reduceCtorEq, ↓reduceIte, Nat.reduceEqDiff, Nat.reduceAdd, Nat.reduceSub, Nat.reduceMul, Nat.reduceLeDiff, Nat.reduceLT, Nat.reduceBEq, Nat.reduceBNe, Int.reduceAdd, Int.reduceSub, Int.reduceMul, Int.reduceNeg, Int.reduceEq, Int.reduceNe, Int.reduceLT, Int.reduceLE, Int.reduceToNat, reduceDIte, Nat.reduceSucc, evI_callP, callPK_some, I85, hk]
theorem opt_eq (o p : Opt) : (o = p) ↔ o.1 = p.1 ∧ o.2 = p.2 := Prod.ext_iff
theorem s84 (o p : Opt) : pcall E 84 [.agg (encO o), .agg (encO p)] = some (.bool (decide (o = p)), []) := by
  rw [pcall_go (fn := I84) rfl rfl rfl]
  have hk : E.keep 84 = false := rfl
  have e := nu8 o.1 p.1
  have q := fun g g' => s85 g g' o.2 p.2
  by_cases h : o.1 = p.1
  · have h' : ((o.1.toNat : Int) = p.1.toNat) := by rw [h]
    have e2 : decide (o = p) = decide (o.2 = p.2) := by simp [opt_eq, h]
    simp (disch := first | omega | (simp only [List.length_cons, List.length_nil, List.length_append, List.length_map, List.length_set]; omega) | rfl | (simp only [List.length_cons, List.length_nil, List.length_append, List.length_map, List.length_set, List.length_replicate, List.all_cons, List.all_nil, List.all_append, storable, plainB, Bool.and_self]; done)) only [go_sem, reduceCtorEq, ↓reduceIte, Nat.reduceEqDiff, Nat.reduceAdd, Nat.reduceSub, Nat.reduceMul, Nat.reduceLeDiff, Nat.reduceLT, Nat.reduceBEq, Nat.reduceBNe, Int.reduceAdd, Int.reduceSub, Int.reduceMul, Int.reduceNeg, Int.reduceEq, Int.reduceNe, Int.reduceLT, Int.reduceLE, Int.reduceToNat, reduceDIte, Nat.reduceSucc, evI_callP, callPK_some, I84, hk, encO_eq, h', q, e2]
  · have h' : ¬ ((o.1.toNat : Int) = p.1.toNat) := by rw [e]; exact h
    have e2 : decide (o = p) = false := by simp [opt_eq, h]
    simp (disch := first | omega | (simp only [List.length_cons, List.length_nil, List.length_append, List.length_map, List.length_set]; omega) | rfl | (simp only [List.length_cons, List.length_nil, List.length_append, List.length_map, List.length_set, List.length_replicate, List.all_cons, List.all_nil, List.all_append, storable, plainB, Bool.and_self]; done)) only [go_sem, reduceCtorEq, ↓reduceIte, Nat.reduceEqDiff, Nat.reduceAdd, Nat.reduceSub, Nat.reduceMul, Nat.reduceLeDiff, Nat.reduceLT, Nat.reduceBEq, Nat.reduceBNe, Int.reduceAdd, Int.reduceSub, Int.reduceMul, Int.reduceNeg, Int.reduceEq, Int.reduceNe, Int.reduceLT, Int.reduceLE, Int.reduceToNat, reduceDIte, Nat.reduceSucc, evI_callP, callPK_some, I84, hk, encO_eq, h', q, e2]

def sameO : List Opt → List Opt → Bool
  | o :: l, p :: m => decide (o = p) && sameO l m
  | _, _ => true
theorem sameO_eq : ∀ (l m : List Opt), l.length = m.length → (sameO l m = true ↔ l = m)
  | [], [], _ => by simp [sameO]
  | o :: l, p :: m, h => by
    have := sameO_eq l m (by simpa using h)
    simp [sameO, this]
  | [], _ :: _, h => by simp at h
  | _ :: _, [], h => by simp at h
theorem same_loop (g g' : Bool) (l m : List Opt) (hl : l.length ≤ 1048576) (hm : l.length = m.length) : ∀ (n i : Nat), i + n = l.length → ∀ junk : Heap, ∃ h', (T83_0 E (lp E L83_0 [(1, opts g' m), (2, .fn 84 []), (15, opts g l), (16, .int .i64 l.length), (17, .int .i64 i)] junk)) = some (.bool (sameO (l.drop i) (m.drop i)), h')
  | 0, i, hi, junk => by
    have e : l.drop i = [] := List.drop_of_length_le (by omega)
    have g1 : ¬ (i : Int) < l.length := by omega
    rw [e, L83_0_go]
    refine ⟨junk, ?_⟩
    simp (disch := first | omega | (simp only [List.length_cons, List.length_nil, List.length_append, List.length_map, List.length_set]; omega) | rfl | (simp only [List.length_cons, List.length_nil, List.length_append, List.length_map, List.length_set, List.length_replicate, List.all_cons, List.all_nil, List.all_append, storable, plainB, Bool.and_self]; done)) only [go_sem, reduceCtorEq, ↓reduceIte, Nat.reduceEqDiff, Nat.reduceAdd, Nat.reduceSub, Nat.reduceMul, Nat.reduceLeDiff, Nat.reduceLT, Nat.reduceBEq, Nat.reduceBNe, Int.reduceAdd, Int.reduceSub, Int.reduceMul, Int.reduceNeg, Int.reduceEq, Int.reduceNe, Int.reduceLT, Int.reduceLE, Int.reduceToNat, reduceDIte, Nat.reduceSucc, evI_callP, callPK_some, B83_0, T83_0, g1, sameO]
  | n + 1, i, hi, junk => by
    have g1 : (i : Int) < l.length := by omega
    have hd := drop_nth l i (by omega)
    have hd2 := drop_nth m i (by omega)
    have q := s84 (nth l i) (nth m i)
    have ia := fun h => fopt.iaddr h g l .i64 (i : Int) (by omega) (by omega)
    have ib := fun h => fopt.iaddr h g' m .i64 (i : Int) (by omega) (by omega)
    obtain ⟨h', ih⟩ := same_loop g g' l m hl hm n (i + 1) (by omega) (junk ++ [.cells true (encO (nth l i)) 35, .cells true (encO (nth m i)) 35])
    rw [hd, hd2, sameO, L83_0_go]
    simp only [Int.toNat_natCast, encO_eq] at ia ib q
    by_cases h : nth l i = nth m i
    · rw [decide_eq_true h] at q
      refine ⟨h', ?_⟩
      rw [decide_eq_true h, Bool.true_and, ← ih]
      simp (disch := first | omega | (simp only [List.length_cons, List.length_nil, List.length_append, List.length_map, List.length_set]; omega) | rfl | (simp only [List.length_cons, List.length_nil, List.length_append, List.length_map, List.length_set, List.length_replicate, List.all_cons, List.all_nil, List.all_append, storable, plainB, Bool.and_self]; done)) only [go_sem, reduceCtorEq, ↓reduceIte, Nat.reduceEqDiff, Nat.reduceAdd, Nat.reduceSub, Nat.reduceMul, Nat.reduceLeDiff, Nat.reduceLT, Nat.reduceBEq, Nat.reduceBNe, Int.reduceAdd, Int.reduceSub, Int.reduceMul, Int.reduceNeg, Int.reduceEq, Int.reduceNe, Int.reduceLT, Int.reduceLE, Int.reduceToNat, reduceDIte, Nat.reduceSucc, evI_callP, callPK_some, B83_0, L83_0_lp, g1, ia, ib, q, encO_eq, List.append_assoc]
    · rw [decide_eq_false h] at q
      refine ⟨junk ++ [.cells true (encO (nth l i)) 35, .cells true (encO (nth m i)) 35], ?_⟩
      rw [decide_eq_false h, Bool.false_and]
      simp (disch := first | omega | (simp only [List.length_cons, List.length_nil, List.length_append, List.length_map, List.length_set]; omega) | rfl | (simp only [List.length_cons, List.length_nil, List.length_append, List.length_map, List.length_set, List.length_replicate, List.all_cons, List.all_nil, List.all_append, storable, plainB, Bool.and_self]; done)) only [go_sem, reduceCtorEq, ↓reduceIte, Nat.reduceEqDiff, Nat.reduceAdd, Nat.reduceSub, Nat.reduceMul, Nat.reduceLeDiff, Nat.reduceLT, Nat.reduceBEq, Nat.reduceBNe, Int.reduceAdd, Int.reduceSub, Int.reduceMul, Int.reduceNeg, Int.reduceEq, Int.reduceNe, Int.reduceLT, Int.reduceLE, Int.reduceToNat, reduceDIte, Nat.reduceSucc, evI_callP, callPK_some, B83_0, T83_0, g1, ia, ib, q, encO_eq, List.append_assoc]
theorem s83 (g g' : Bool) (l m : List Opt) (hl : l.length ≤ 1048576) : pcall E 83 [opts g l, opts g' m, .fn 84 []] = some (.bool (decide (l = m)), []) := by
  rw [pcall_go (fn := I83) rfl rfl rfl]
  have hk : E.keep 83 = false := rfl
  by_cases hm : l.length = m.length
  · obtain ⟨h', ih⟩ := same_loop g g' l m hl hm l.length 0 (by omega) []
    rw [List.drop_zero, List.drop_zero, show sameO l m = decide (l = m) from by rw [Bool.eq_iff_iff, sameO_eq l m hm, decide_eq_true_eq]] at ih
    have hm2 : (l.length : Int) = m.length := by omega
    simp (disch := first | omega | (simp only [List.length_cons, List.length_nil, List.length_append, List.length_map, List.length_set]; omega) | rfl | (simp only [List.length_cons, List.length_nil, List.length_append, List.length_map, List.length_set, List.length_replicate, List.all_cons, List.all_nil, List.all_append, storable, plainB, Bool.and_self]; done)) only [go_sem, reduceCtorEq, ↓reduceIte, Nat.reduceEqDiff, Nat.reduceAdd, Nat.reduceSub, Nat.reduceMul, Nat.reduceLeDiff, Nat.reduceLT, Nat.reduceBEq, Nat.reduceBNe, Int.reduceAdd, Int.reduceSub, Int.reduceMul, Int.reduceNeg, Int.reduceEq, Int.reduceNe, Int.reduceLT, Int.reduceLE, Int.reduceToNat, reduceDIte, Nat.reduceSucc, evI_callP, callPK_some, I83, hk, L83_0_lp, olen, hm2]
    rw [hm2] at ih
    exact (congrArg (Option.bind · (finish false)) ih).trans (by simp only [go_sem, reduceCtorEq, ↓reduceIte, Nat.reduceEqDiff, Nat.reduceAdd, Nat.reduceSub, Nat.reduceMul, Nat.reduceLeDiff, Nat.reduceLT, Nat.reduceBEq, Nat.reduceBNe, Int.reduceAdd, Int.reduceSub, Int.reduceMul, Int.reduceNeg, Int.reduceEq, Int.reduceNe, Int.reduceLT, Int.reduceLE, Int.reduceToNat, reduceDIte, Nat.reduceSucc, evI_callP, callPK_some])
  · have hm2 : ¬ (l.length : Int) = m.length := by omega
    have e : decide (l = m) = false := by
      rw [decide_eq_false_iff_not]
      intro h
      exact hm (by rw [h])
    simp (disch := first | omega | (simp only [List.length_cons, List.length_nil, List.length_append, List.length_map, List.length_set]; omega) | rfl | (simp only [List.length_cons, List.length_nil, List.length_append, List.length_map, List.length_set, List.length_replicate, List.all_cons, List.all_nil, List.all_append, storable, plainB, Bool.and_self]; done)) only [go_sem, reduceCtorEq, ↓reduceIte, Nat.reduceEqDiff, Nat.reduceAdd, Nat.reduceSub, Nat.reduceMul, Nat.reduceLeDiff, Nat.reduceLT, Nat.reduceBEq, Nat.reduceBNe, Int.reduceAdd, Int.reduceSub, Int.reduceMul, Int.reduceNeg, Int.reduceEq, Int.reduceNe, Int.reduceLT, Int.reduceLE, Int.reduceToNat, reduceDIte, Nat.reduceSucc, evI_callP, callPK_some, I83, hk, olen, hm2, e]
theorem s34 (g g' : Bool) (l m : List Opt) (hl : l.length ≤ 1048576) : pcall E 34 [opts g l, opts g' m] = some (.bool (decide (l = m)), []) := by
  rw [pcall_go (fn := I34) rfl rfl rfl]
  have hk : E.keep 34 = false := rfl
  have q := fun g g' => s83 g g' l m hl
  simp (disch := first | omega | (simp only [List.length_cons, List.length_nil, List.length_append, List.length_map, List.length_set]; omega) | rfl | (simp only [List.length_cons, List.length_nil, List.length_append, List.length_map, List.length_set, List.length_replicate, List.all_cons, List.all_nil, List.all_append, storable, plainB, Bool.and_self]; done)) only [go_sem, reduceCtorEq, ↓reduceIte, Nat.reduceEqDiff, Nat.reduceAdd, Nat.reduceSub, Nat.reduceMul, Nat.reduceLeDiff, Nat.reduceLT, Nat.reduceBEq, Nat.reduceBNe, Int.reduceAdd, Int.reduceSub, Int.reduceMul, Int.reduceNeg, Int.reduceEq, Int.reduceNe, Int.reduceLT, Int.reduceLE, Int.reduceToNat, reduceDIte, Nat.reduceSucc, evI_callP, callPK_some, I34, hk, q]

theorem same_loop2 (g g' : Bool) (l m : List Opt) (hl : l.length ≤ 1048576) (hm : l.length = m.length) : ∀ (n i : Nat), i + n = l.length → (T24_0 E (lp E L24_0 [(0, opts g l), (1, opts g' m), (5, .int .i64 i)] [])) = some (.bool (sameO (l.drop i) (m.drop i)), [])
  | 0, i, hi => by
    have e : l.drop i = [] := List.drop_of_length_le (by omega)
    have g1 : ¬ (i : Int) < l.length := by omega
    rw [e, L24_0_go]
    simp (disch := first | omega | (simp only [List.length_cons, List.length_nil, List.length_append, List.length_map, List.length_set]; omega) | rfl | (simp only [List.length_cons, List.length_nil, List.length_append, List.length_map, List.length_set, List.length_replicate, List.all_cons, List.all_nil, List.all_append, storable, plainB, Bool.and_self]; done)) only [go_sem, reduceCtorEq, ↓reduceIte, Nat.reduceEqDiff, Nat.reduceAdd, Nat.reduceSub, Nat.reduceMul, Nat.reduceLeDiff, Nat.reduceLT, Nat.reduceBEq, Nat.reduceBNe, Int.reduceAdd, Int.reduceSub, Int.reduceMul, Int.reduceNeg, Int.reduceEq, Int.reduceNe, Int.reduceLT, Int.reduceLE, Int.reduceToNat, reduceDIte, Nat.reduceSucc, evI_callP, callPK_some, B24_0, T24_0, g1, sameO, olen]
  | n + 1, i, hi => by
    have g1 : (i : Int) < l.length := by omega
    have hd := drop_nth l i (by omega)
    have hd2 := drop_nth m i (by omega)
    have ia := fun h => fopt.iaddr h g l .i64 (i : Int) (by omega) (by omega)
    have ib := fun h => fopt.iaddr h g' m .i64 (i : Int) (by omega) (by omega)
    have ih := same_loop2 g g' l m hl hm n (i + 1) (by omega)
    rw [hd, hd2, sameO, L24_0_go]
    simp only [Int.toNat_natCast, encO_eq] at ia ib
    have e := nu8 (nth l i).1 (nth m i).1
    by_cases h : (nth l i).1 = (nth m i).1
    · have h' : (((nth l i).1.toNat : Int) = (nth m i).1.toNat) := by rw [h]
      by_cases h2 : (nth l i).2 = (nth m i).2
      · have e2 : decide (nth l i = nth m i) = true := by simp [opt_eq, h, h2]
        rw [e2, Bool.true_and, ← ih]
        simp (disch := first | omega | (simp only [List.length_cons, List.length_nil, List.length_append, List.length_map, List.length_set]; omega) | rfl | (simp only [List.length_cons, List.length_nil, List.length_append, List.length_map, List.length_set, List.length_replicate, List.all_cons, List.all_nil, List.all_append, storable, plainB, Bool.and_self]; done)) only [go_sem, reduceCtorEq, ↓reduceIte, Nat.reduceEqDiff, Nat.reduceAdd, Nat.reduceSub, Nat.reduceMul, Nat.reduceLeDiff, Nat.reduceLT, Nat.reduceBEq, Nat.reduceBNe, Int.reduceAdd, Int.reduceSub, Int.reduceMul, Int.reduceNeg, Int.reduceEq, Int.reduceNe, Int.reduceLT, Int.reduceLE, Int.reduceToNat, reduceDIte, Nat.reduceSucc, evI_callP, callPK_some, B24_0, L24_0_lp, g1, ia, ib, h', h2, olen]
      · have e2 : decide (nth l i = nth m i) = false := by simp [opt_eq, h, h2]
        rw [e2, Bool.false_and]
        simp (disch := first | omega | (simp only [List.length_cons, List.length_nil, List.length_append, List.length_map, List.length_set]; omega) | rfl | (simp only [List.length_cons, List.length_nil, List.length_append, List.length_map, List.length_set, List.length_replicate, List.all_cons, List.all_nil, List.all_append, storable, plainB, Bool.and_self]; done)) only [go_sem, reduceCtorEq, ↓reduceIte, Nat.reduceEqDiff, Nat.reduceAdd, Nat.reduceSub, Nat.reduceMul, Nat.reduceLeDiff, Nat.reduceLT, Nat.reduceBEq, Nat.reduceBNe, Int.reduceAdd, Int.reduceSub, Int.reduceMul, Int.reduceNeg, Int.reduceEq, Int.reduceNe, Int.reduceLT, Int.reduceLE, Int.reduceToNat, reduceDIte, Nat.reduceSucc, evI_callP, callPK_some, B24_0, T24_0, g1, ia, ib, h', h2, olen]
    · have h' : ¬ (((nth l i).1.toNat : Int) = (nth m i).1.toNat) := by rw [e]; exact h
      have e2 : decide (nth l i = nth m i) = false := by simp [opt_eq, h]
      rw [e2, Bool.false_and]
      simp (disch := first | omega | (simp only [List.length_cons, List.length_nil, List.length_append, List.length_map, List.length_set]; omega) | rfl | (simp only [List.length_cons, List.length_nil, List.length_append, List.length_map, List.length_set, List.length_replicate, List.all_cons, List.all_nil, List.all_append, storable, plainB, Bool.and_self]; done)) only [go_sem, reduceCtorEq, ↓reduceIte, Nat.reduceEqDiff, Nat.reduceAdd, Nat.reduceSub, Nat.reduceMul, Nat.reduceLeDiff, Nat.reduceLT, Nat.reduceBEq, Nat.reduceBNe, Int.reduceAdd, Int.reduceSub, Int.reduceMul, Int.reduceNeg, Int.reduceEq, Int.reduceNe, Int.reduceLT, Int.reduceLE, Int.reduceToNat, reduceDIte, Nat.reduceSucc, evI_callP, callPK_some, B24_0, T24_0, g1, ia, ib, h', olen]
theorem s24 (g g' : Bool) (l m : List Opt) (hl : l.length ≤ 1048576) : pcall E 24 [opts g l, opts g' m] = some (.bool (decide (l = m)), []) := by
  rw [pcall_go (fn := I24) rfl rfl rfl]
  have hk : E.keep 24 = false := rfl
  by_cases hm : l.length = m.length
  · have ih := same_loop2 g g' l m hl hm l.length 0 (by omega)
    rw [List.drop_zero, List.drop_zero, show sameO l m = decide (l = m) from by rw [Bool.eq_iff_iff, sameO_eq l m hm, decide_eq_true_eq]] at ih
    have hm2 : (l.length : Int) = m.length := by omega
    simp (disch := first | omega | (simp only [List.length_cons, List.length_nil, List.length_append, List.length_map, List.length_set]; omega) | rfl | (simp only [List.length_cons, List.length_nil, List.length_append, List.length_map, List.length_set, List.length_replicate, List.all_cons, List.all_nil, List.all_append, storable, plainB, Bool.and_self]; done)) only [go_sem, reduceCtorEq, ↓reduceIte, Nat.reduceEqDiff, Nat.reduceAdd, Nat.reduceSub, Nat.reduceMul, Nat.reduceLeDiff, Nat.reduceLT, Nat.reduceBEq, Nat.reduceBNe, Int.reduceAdd, Int.reduceSub, Int.reduceMul, Int.reduceNeg, Int.reduceEq, Int.reduceNe, Int.reduceLT, Int.reduceLE, Int.reduceToNat, reduceDIte, Nat.reduceSucc, evI_callP, callPK_some, I24, hk, L24_0_lp, olen, hm2]
    exact (congrArg (Option.bind · (finish false)) ih).trans (by simp only [go_sem, reduceCtorEq, ↓reduceIte, Nat.reduceEqDiff, Nat.reduceAdd, Nat.reduceSub, Nat.reduceMul, Nat.reduceLeDiff, Nat.reduceLT, Nat.reduceBEq, Nat.reduceBNe, Int.reduceAdd, Int.reduceSub, Int.reduceMul, Int.reduceNeg, Int.reduceEq, Int.reduceNe, Int.reduceLT, Int.reduceLE, Int.reduceToNat, reduceDIte, Nat.reduceSucc, evI_callP, callPK_some])
  · have hm2 : ¬ (l.length : Int) = m.length := by omega
    have e : decide (l = m) = false := by
      rw [decide_eq_false_iff_not]
      intro h
      exact hm (by rw [h])
    simp (disch := first | omega | (simp only [List.length_cons, List.length_nil, List.length_append, List.length_map, List.length_set]; omega) | rfl | (simp only [List.length_cons, List.length_nil, List.length_append, List.length_map, List.length_set, List.length_replicate, List.all_cons, List.all_nil, List.all_append, storable, plainB, Bool.and_self]; done)) only [go_sem, reduceCtorEq, ↓reduceIte, Nat.reduceEqDiff, Nat.reduceAdd, Nat.reduceSub, Nat.reduceMul, Nat.reduceLeDiff, Nat.reduceLT, Nat.reduceBEq, Nat.reduceBNe, Int.reduceAdd, Int.reduceSub, Int.reduceMul, Int.reduceNeg, Int.reduceEq, Int.reduceNe, Int.reduceLT, Int.reduceLE, Int.reduceToNat, reduceDIte, Nat.reduceSucc, evI_callP, callPK_some, I24, hk, olen, hm2, e]
end Go.Fw.Wd
