/-
  What Number, Same, Ip, One, Bytes answer of options, the program's and the document's. Conditions: stated at each.
-/
import Derived.Test.YtefkoichicalfaaWdFind
set_option linter.unusedVariables false
set_option linter.unusedSimpArgs false
namespace Go.Fw.Wd
open Go.Proofs Code_

/-- What Number answers. -/
def numO (l : List Opt) (c : UInt8) (size : Int) : Nat × Bool :=
  match findO l c with
  | some d => if (d.length : Int) = size ∧ 1 ≤ size ∧ size ≤ 4 then (num d, true) else (0, false)
  | none => (0, false)
def numV (p : Nat × Bool) : AV := .tup [.int .u32 (p.1 : Int), .bool p.2]
theorem num_u32 {d : List UInt8} (h : d.length ≤ 4) : num d < 4294967296 := num_lt_of (n := 4) h
theorem findO_small {l : List Opt} {c : UInt8} {d : List UInt8} (hl : small l) (h : findO l c = some d) : d.length ≤ 1048576 := by
  rcases idxO_spec c l 0 with ⟨_, h2⟩ | ⟨k, h1, _, h3⟩
  · rw [h2] at h; cases h
  · rw [h3] at h
    injection h with h
    rw [← h]
    exact hl.2 _ (nth_mem h1)
theorem s21 (g : Bool) (l : List Opt) (c : UInt8) (size : Int) (hl : small l) : pcall E 21 [opts g l, .int .u8 (c.toNat : Int), .int .i64 size] = some (numV (numO l c size), []) := by
  rw [pcall_go (fn := I21) rfl rfl rfl]
  have hk : E.keep 21 = false := rfl
  have q := fun g => s30 g l c hl
  unfold numO
  cases hf : findO l c with
  | none =>
    rw [hf] at q
    simp only [findV] at q
    simp (disch := first | omega | (simp only [List.length_cons, List.length_nil, List.length_append, List.length_map, List.length_set]; omega) | rfl | (simp only [List.length_cons, List.length_nil, List.length_append, List.length_map, List.length_set, List.length_replicate, List.all_cons, List.all_nil, List.all_append, storable, plainB, Bool.and_self]; done)) only [go_sem, reduceCtorEq, ↓reduceIte, reduceDIte, evI_callP, callPK_some, I21, hk, q, numV]
  | some d =>
    rw [hf] at q
    simp only [findV] at q
    have hd := findO_small hl hf
    show _ = some (numV (if (d.length : Int) = size ∧ 1 ≤ size ∧ size ≤ 4 then (num d, true) else (0, false)), [])
    by_cases h4 : 4 < size
    · have : ¬ ((d.length : Int) = size ∧ 1 ≤ size ∧ size ≤ 4) := by omega
      rw [if_neg this]
      simp (disch := first | omega | (simp only [List.length_cons, List.length_nil, List.length_append, List.length_map, List.length_set]; omega) | rfl | (simp only [List.length_cons, List.length_nil, List.length_append, List.length_map, List.length_set, List.length_replicate, List.all_cons, List.all_nil, List.all_append, storable, plainB, Bool.and_self]; done)) only [go_sem, reduceCtorEq, ↓reduceIte, reduceDIte, evI_callP, callPK_some, I21, hk, q, numV, h4]
    by_cases hs : (d.length : Int) = size
    · have q2 := fun g => s47 g d (by omega) 0 size s64_0
      by_cases h1 : 1 ≤ size
      · have e1 : atE d 0 size = 0 := by
          simp only [atE, spanE]
          rw [if_pos (by omega), if_neg (by omega), if_neg (by omega), if_neg (by omega)]
        have e2 : atN d 0 size = num d := by
          simp only [atE] at e1
          rw [if_pos (by omega)] at e1
          simp only [atN, e1]
          rw [if_pos (by simp; omega)]
          rw [← hs]
          simp
        have hn := num_u32 (d := d) (by omega)
        rw [e1, e2] at q2
        have hc : (d.length : Int) = size ∧ 1 ≤ size ∧ size ≤ 4 := by omega
        rw [if_pos hc]
        have hs' : (d.length : Int) = size := hs
        subst hs
        simp (disch := first | omega | (simp only [List.length_cons, List.length_nil, List.length_append, List.length_map, List.length_set]; omega) | rfl | (simp only [List.length_cons, List.length_nil, List.length_append, List.length_map, List.length_set, List.length_replicate, List.all_cons, List.all_nil, List.all_append, storable, plainB, Bool.and_self]; done)) only [go_sem, reduceCtorEq, ↓reduceIte, reduceDIte, evI_callP, callPK_some, I21, hk, q, q2, numV, h4]
      · have e1 : atE d 0 size = 11 := by
          simp only [atE]
          rw [if_neg (by omega)]
        have e2 : atN d 0 size = 0 := by
          simp only [atN]
          rw [if_neg (by omega)]
        rw [e1, e2] at q2
        have hc : ¬ ((d.length : Int) = size ∧ 1 ≤ size ∧ size ≤ 4) := by omega
        rw [if_neg hc]
        subst hs
        simp (disch := first | omega | (simp only [List.length_cons, List.length_nil, List.length_append, List.length_map, List.length_set]; omega) | rfl | (simp only [List.length_cons, List.length_nil, List.length_append, List.length_map, List.length_set, List.length_replicate, List.all_cons, List.all_nil, List.all_append, storable, plainB, Bool.and_self]; done)) only [go_sem, reduceCtorEq, ↓reduceIte, reduceDIte, evI_callP, callPK_some, I21, hk, q, q2, numV, h4]
    · have : ¬ ((d.length : Int) = size ∧ 1 ≤ size ∧ size ≤ 4) := by omega
      rw [if_neg this]
      simp (disch := first | omega | (simp only [List.length_cons, List.length_nil, List.length_append, List.length_map, List.length_set]; omega) | rfl | (simp only [List.length_cons, List.length_nil, List.length_append, List.length_map, List.length_set, List.length_replicate, List.all_cons, List.all_nil, List.all_append, storable, plainB, Bool.and_self]; done)) only [go_sem, reduceCtorEq, ↓reduceIte, reduceDIte, evI_callP, callPK_some, I21, hk, q, numV, h4, hs]

theorem s69 (g g' : Bool) (a b : List UInt8) : pcall E 69 [bs g a, bs g' b] = some (.bool (decide (a = b)), []) := by
  rw [pcall_go (fn := I69) rfl rfl rfl]
  have hk : E.keep 69 = false := rfl
  simp (disch := first | omega | (simp only [List.length_cons, List.length_nil, List.length_append, List.length_map, List.length_set]; omega) | rfl | (simp only [List.length_cons, List.length_nil, List.length_append, List.length_map, List.length_set, List.length_replicate, List.all_cons, List.all_nil, List.all_append, storable, plainB, Bool.and_self]; done)) only [go_sem, reduceCtorEq, ↓reduceIte, reduceDIte, evI_callP, callPK_some, I69, hk]
theorem opt_eq (o p : Opt) : (o = p) ↔ o.1 = p.1 ∧ o.2 = p.2 := Prod.ext_iff
theorem s68 (o p : Opt) : pcall E 68 [.agg (encO o), .agg (encO p)] = some (.bool (decide (o = p)), []) := by
  rw [pcall_go (fn := I68) rfl rfl rfl]
  have hk : E.keep 68 = false := rfl
  have e := nu8 o.1 p.1
  have q := fun g g' => s69 g g' o.2 p.2
  by_cases h : o.1 = p.1
  · have h' : ((o.1.toNat : Int) = p.1.toNat) := by rw [h]
    have e2 : decide (o = p) = decide (o.2 = p.2) := by simp [opt_eq, h]
    simp (disch := first | omega | (simp only [List.length_cons, List.length_nil, List.length_append, List.length_map, List.length_set]; omega) | rfl | (simp only [List.length_cons, List.length_nil, List.length_append, List.length_map, List.length_set, List.length_replicate, List.all_cons, List.all_nil, List.all_append, storable, plainB, Bool.and_self]; done)) only [go_sem, reduceCtorEq, ↓reduceIte, reduceDIte, evI_callP, callPK_some, I68, hk, encO_eq, h', q, e2]
  · have h' : ¬ ((o.1.toNat : Int) = p.1.toNat) := by rw [e]; exact h
    have e2 : decide (o = p) = false := by simp [opt_eq, h]
    simp (disch := first | omega | (simp only [List.length_cons, List.length_nil, List.length_append, List.length_map, List.length_set]; omega) | rfl | (simp only [List.length_cons, List.length_nil, List.length_append, List.length_map, List.length_set, List.length_replicate, List.all_cons, List.all_nil, List.all_append, storable, plainB, Bool.and_self]; done)) only [go_sem, reduceCtorEq, ↓reduceIte, reduceDIte, evI_callP, callPK_some, I68, hk, encO_eq, h', q, e2]

def sameO : List Opt → List Opt → Bool
  | o :: l, p :: m => decide (o = p) && sameO l m
  | _, _ => true
theorem sameO_eq : ∀ (l m : List Opt), l.length = m.length → (sameO l m = true ↔ l = m)
  | [], [], _ => by simp [sameO]
  | o :: l, p :: m, h => by
    have := sameO_eq l m (by simpa using h)
    simp [sameO, this]
  | [], _ :: _, h => by simp at h
  | _ :: _, [], h => by simp at h
theorem same_loop (g g' : Bool) (l m : List Opt) (hl : l.length ≤ 1048576) (hm : l.length = m.length) : ∀ (n i : Nat), i + n = l.length → ∀ junk : Heap, ∃ h', (T67_0 E (lp E L67_0 [(1, opts g' m), (2, .fn 68 []), (15, opts g l), (16, .int .i64 l.length), (17, .int .i64 i)] junk)) = some (.bool (sameO (l.drop i) (m.drop i)), h')
  | 0, i, hi, junk => by
    have e : l.drop i = [] := List.drop_of_length_le (by omega)
    have g1 : ¬ (i : Int) < l.length := by omega
    rw [e, L67_0_go]
    refine ⟨junk, ?_⟩
    simp (disch := first | omega | (simp only [List.length_cons, List.length_nil, List.length_append, List.length_map, List.length_set]; omega) | rfl | (simp only [List.length_cons, List.length_nil, List.length_append, List.length_map, List.length_set, List.length_replicate, List.all_cons, List.all_nil, List.all_append, storable, plainB, Bool.and_self]; done)) only [go_sem, reduceCtorEq, ↓reduceIte, reduceDIte, evI_callP, callPK_some, B67_0, T67_0, g1, sameO]
  | n + 1, i, hi, junk => by
    have g1 : (i : Int) < l.length := by omega
    have hd := drop_nth l i (by omega)
    have hd2 := drop_nth m i (by omega)
    have q := s68 (nth l i) (nth m i)
    have ia := fun h => fopt.iaddr h g l .i64 (i : Int) (by omega) (by omega)
    have ib := fun h => fopt.iaddr h g' m .i64 (i : Int) (by omega) (by omega)
    obtain ⟨h', ih⟩ := same_loop g g' l m hl hm n (i + 1) (by omega) (junk ++ [.cells true (encO (nth l i)) 49, .cells true (encO (nth m i)) 49])
    rw [hd, hd2, sameO, L67_0_go]
    simp only [Int.toNat_natCast, encO_eq] at ia ib q
    by_cases h : nth l i = nth m i
    · rw [decide_eq_true h] at q
      refine ⟨h', ?_⟩
      rw [decide_eq_true h, Bool.true_and, ← ih]
      simp (disch := first | omega | (simp only [List.length_cons, List.length_nil, List.length_append, List.length_map, List.length_set]; omega) | rfl | (simp only [List.length_cons, List.length_nil, List.length_append, List.length_map, List.length_set, List.length_replicate, List.all_cons, List.all_nil, List.all_append, storable, plainB, Bool.and_self]; done)) only [go_sem, reduceCtorEq, ↓reduceIte, reduceDIte, evI_callP, callPK_some, B67_0, L67_0_lp, g1, ia, ib, q, encO_eq, List.append_assoc]
    · rw [decide_eq_false h] at q
      refine ⟨junk ++ [.cells true (encO (nth l i)) 49, .cells true (encO (nth m i)) 49], ?_⟩
      rw [decide_eq_false h, Bool.false_and]
      simp (disch := first | omega | (simp only [List.length_cons, List.length_nil, List.length_append, List.length_map, List.length_set]; omega) | rfl | (simp only [List.length_cons, List.length_nil, List.length_append, List.length_map, List.length_set, List.length_replicate, List.all_cons, List.all_nil, List.all_append, storable, plainB, Bool.and_self]; done)) only [go_sem, reduceCtorEq, ↓reduceIte, reduceDIte, evI_callP, callPK_some, B67_0, T67_0, g1, ia, ib, q, encO_eq, List.append_assoc]
theorem s67 (g g' : Bool) (l m : List Opt) (hl : l.length ≤ 1048576) : pcall E 67 [opts g l, opts g' m, .fn 68 []] = some (.bool (decide (l = m)), []) := by
  rw [pcall_go (fn := I67) rfl rfl rfl]
  have hk : E.keep 67 = false := rfl
  by_cases hm : l.length = m.length
  · obtain ⟨h', ih⟩ := same_loop g g' l m hl hm l.length 0 (by omega) []
    rw [List.drop_zero, List.drop_zero, show sameO l m = decide (l = m) from by rw [Bool.eq_iff_iff, sameO_eq l m hm, decide_eq_true_eq]] at ih
    have hm2 : (l.length : Int) = m.length := by omega
    simp (disch := first | omega | (simp only [List.length_cons, List.length_nil, List.length_append, List.length_map, List.length_set]; omega) | rfl | (simp only [List.length_cons, List.length_nil, List.length_append, List.length_map, List.length_set, List.length_replicate, List.all_cons, List.all_nil, List.all_append, storable, plainB, Bool.and_self]; done)) only [go_sem, reduceCtorEq, ↓reduceIte, reduceDIte, evI_callP, callPK_some, I67, hk, L67_0_lp, olen, hm2]
    rw [hm2] at ih
    exact (congrArg (Option.bind · (finish false)) ih).trans (by simp only [go_sem, reduceCtorEq, ↓reduceIte, reduceDIte, evI_callP, callPK_some])
  · have hm2 : ¬ (l.length : Int) = m.length := by omega
    have e : decide (l = m) = false := by
      rw [decide_eq_false_iff_not]
      intro h
      exact hm (by rw [h])
    simp (disch := first | omega | (simp only [List.length_cons, List.length_nil, List.length_append, List.length_map, List.length_set]; omega) | rfl | (simp only [List.length_cons, List.length_nil, List.length_append, List.length_map, List.length_set, List.length_replicate, List.all_cons, List.all_nil, List.all_append, storable, plainB, Bool.and_self]; done)) only [go_sem, reduceCtorEq, ↓reduceIte, reduceDIte, evI_callP, callPK_some, I67, hk, olen, hm2, e]
theorem s49 (g g' : Bool) (l m : List Opt) (hl : l.length ≤ 1048576) : pcall E 49 [opts g l, opts g' m] = some (.bool (decide (l = m)), []) := by
  rw [pcall_go (fn := I49) rfl rfl rfl]
  have hk : E.keep 49 = false := rfl
  have q := fun g g' => s67 g g' l m hl
  simp (disch := first | omega | (simp only [List.length_cons, List.length_nil, List.length_append, List.length_map, List.length_set]; omega) | rfl | (simp only [List.length_cons, List.length_nil, List.length_append, List.length_map, List.length_set, List.length_replicate, List.all_cons, List.all_nil, List.all_append, storable, plainB, Bool.and_self]; done)) only [go_sem, reduceCtorEq, ↓reduceIte, reduceDIte, evI_callP, callPK_some, I49, hk, q]

end Go.Fw.Wd
