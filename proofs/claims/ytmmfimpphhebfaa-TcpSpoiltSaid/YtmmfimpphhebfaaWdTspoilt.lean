/-
  With one byte changed a segment's sum isn't right. Conditions: stated at each.
-/
import Derived.Test.YtmmfimpphhebfaaWdTcp
import Derived.Test.YtmmfimpphhebfaaWdTalive
set_option linter.unusedVariables false
set_option linter.unusedSimpArgs false
namespace Go.Fw.Wd
open Go.Proofs Code_

/-- What a byte at a place counts. -/
def wt (i : Nat) : Nat := if i % 2 = 0 then 256 else 1
theorem sumW_set : ∀ (l : List UInt8) (i : Nat) (c : UInt8), i < l.length → sumW (l.set i c) + wt i * (nth l i).toNat = sumW l + wt i * c.toNat
  | [], i, c, h => absurd h (Nat.not_lt_zero _)
  | [a], 0, c, _ => by simp [sumW, wt, nth]; omega
  | [a], i + 1, c, h => by simp at h
  | a :: b :: l, 0, c, _ => by simp [sumW, wt, nth]; omega
  | a :: b :: l, 1, c, _ => by simp [sumW, wt, nth]; omega
  | a :: b :: l, i + 2, c, h => by
    have ih := sumW_set l i c (by simp only [List.length_cons] at h; omega)
    have e1 : wt (i + 2) = wt i := by unfold wt; rw [Nat.add_mod_right]
    have e2 : nth (a :: b :: l) (i + 2) = nth l i := rfl
    rw [e1, e2]
    simp only [List.set_cons_succ, sumW]
    omega
theorem nth_set (l : List UInt8) (i : Nat) (c : UInt8) (h : i < l.length) : nth (l.set i c) i = c := by
  rw [nth_get _ _ (by rw [List.length_set]; exact h), List.getElem_set_self]
theorem nth_set_ne (l : List UInt8) (i j : Nat) (c : UInt8) (hj : j < l.length) (h : i ≠ j) : nth (l.set i c) j = nth l j := by
  rw [nth_get _ _ (by rw [List.length_set]; exact hj), nth_get _ _ hj, List.getElem_set_ne h]
theorem own_other (x : List UInt8) (i : Nat) (hi : i < x.length) (d : UInt8) (hd : ¬ d = 0) (h : foldN (sumW x) = 65535) : ¬ foldN (sumW (x.set i (UInt8.ofNat ((nth x i).toNat + d.toNat)))) = 65535 := by
  have hs := sumW_set x i (UInt8.ofNat ((nth x i).toNat + d.toNat)) hi
  have h1 := (nth x i).toNat_lt
  have h2 := d.toNat_lt
  have h3 : d.toNat ≠ 0 := fun h => hd (UInt8.toNat_inj.1 h)
  have h4 : (UInt8.ofNat ((nth x i).toNat + d.toNat)).toNat = ((nth x i).toNat + d.toNat) % 256 := by simp
  rw [h4] at hs
  have m1 := foldN_mod (sumW x)
  have m2 := foldN_mod (sumW (x.set i (UInt8.ofNat ((nth x i).toNat + d.toNat))))
  intro h5
  rw [h5] at m2
  rw [h] at m1
  generalize sumW (x.set i (UInt8.ofNat ((nth x i).toNat + d.toNat))) = y at *
  generalize sumW x = z at *
  generalize (nth x i).toNat = u at *
  generalize d.toNat = v at *
  have hw : wt i = 256 ∨ wt i = 1 := by unfold wt; split <;> simp
  rcases hw with hw | hw <;> rw [hw] at hs <;> omega
theorem spoilt (e b : List UInt8) (i : Nat) (hi : i < b.length) (d : UInt8) (hd : ¬ d = 0) (h : foldN (sumW (e ++ b)) = 65535) : ¬ foldN (sumW (e ++ b.set i (UInt8.ofNat ((nth b i).toNat + d.toNat)))) = 65535 := by
  have h1 := own_other (e ++ b) (e.length + i) (by rw [List.length_append]; omega) d hd h
  have h2 : nth (e ++ b) (e.length + i) = nth b i := by
    rw [nth_get _ _ (by rw [List.length_append]; omega), nth_get _ _ hi, List.getElem_append_right (by omega)]
    simp
  rw [h2, List.set_append_right _ _ (by omega)] at h1
  simpa using h1
theorem parseT_bad {b : List UInt8} {x y : UInt32} (h : ¬ foldN (sumW (endsB x y b.length ++ b)) = 65535) : ∃ r e, parseT b x y = .tup [.agg (segC 0 0 0 []), faultV r e] := by
  unfold parseT
  by_cases hf : formE b = 0
  · rw [if_pos hf, if_neg h]; exact ⟨_, _, rfl⟩
  · rw [if_neg hf]; exact ⟨_, _, rfl⟩

theorem law3 (b : List UInt8) (x y : UInt32) (at_ : Int) (d : UInt8) : pcall E 3 [bs false b, .int .u32 (x.toNat : Int), .int .u32 (y.toNat : Int), .int .i64 at_, .int .u8 (d.toNat : Int)] = some (.bool true, []) := by
  rw [pcall_go (fn := I3) rfl rfl rfl]
  have hk : E.keep 3 = false := rfl
  have q1 := fun g => s6 g b x y
  have z0 : ((UInt8.toNat 0 : Nat) : Int) = 0 := rfl
  by_cases hbad : ∃ r e, parseT b x y = .tup [.agg (segC 0 0 0 []), faultV r e]
  · obtain ⟨r, e, hp⟩ := hbad
    rw [hp] at q1
    simp only [segC_eq, faultV] at q1
    by_cases h1 : (3000 : Int) < b.length
    · simp (disch := first | omega | (simp only [List.length_cons, List.length_nil, List.length_append, List.length_map, List.length_set]; omega) | rfl | (simp only [List.length_cons, List.length_nil, List.length_append, List.length_map, List.length_set, List.length_replicate, List.all_cons, List.all_nil, List.all_append, storable, plainB, Bool.and_self]; done)) only [go_sem, reduceCtorEq, ↓reduceIte, Nat.reduceEqDiff, Nat.reduceAdd, Nat.reduceSub, Nat.reduceMul, Nat.reduceLeDiff, Nat.reduceLT, Nat.reduceBEq, Nat.reduceBNe, Int.reduceAdd, Int.reduceSub, Int.reduceMul, Int.reduceNeg, Int.reduceEq, Int.reduceNe, Int.reduceLT, Int.reduceLE, Int.reduceToNat, reduceDIte, Nat.reduceSucc, evI_callP, callPK_some, I3, hk, s5, q1, z0, Int.natCast_zero, h1]
    · simp (disch := first | omega | (simp only [List.length_cons, List.length_nil, List.length_append, List.length_map, List.length_set]; omega) | rfl | (simp only [List.length_cons, List.length_nil, List.length_append, List.length_map, List.length_set, List.length_replicate, List.all_cons, List.all_nil, List.all_append, storable, plainB, Bool.and_self]; done)) only [go_sem, reduceCtorEq, ↓reduceIte, Nat.reduceEqDiff, Nat.reduceAdd, Nat.reduceSub, Nat.reduceMul, Nat.reduceLeDiff, Nat.reduceLT, Nat.reduceBEq, Nat.reduceBNe, Int.reduceAdd, Int.reduceSub, Int.reduceMul, Int.reduceNeg, Int.reduceEq, Int.reduceNe, Int.reduceLT, Int.reduceLE, Int.reduceToNat, reduceDIte, Nat.reduceSucc, evI_callP, callPK_some, I3, hk, s5, q1, z0, Int.natCast_zero, h1]
  have hf : formE b = 0 := by
    by_cases h : formE b = 0
    · exact h
    · exact absurd ⟨_, _, by unfold parseT; rw [if_neg h]⟩ hbad
  have hsum : foldN (sumW (endsB x y b.length ++ b)) = 65535 := by
    by_cases h : foldN (sumW (endsB x y b.length ++ b)) = 65535
    · exact h
    · exact absurd (parseT_bad h) hbad
  have hp : parseT b x y = .tup [.agg (segC (num (b.take 2)) (num ((b.drop 2).take 2)) (nth b 13) b), .nili] := by
    unfold parseT
    rw [if_pos hf, if_pos hsum]
  rw [hp] at q1
  obtain ⟨h20, h1480⟩ := form_ok hf
  have h1 : ¬ (3000 : Int) < b.length := by omega
  have q2 := s7 (num (b.take 2)) (num ((b.drop 2).take 2)) (nth b 13) b (by omega)
  generalize num (b.take 2) = p at *
  generalize num ((b.drop 2).take 2) = q at *
  generalize nth b 13 = f at *
  simp only [segC_eq] at q1 q2
  by_cases h2 : at_ < 0
  · simp (disch := first | omega | (simp only [List.length_cons, List.length_nil, List.length_append, List.length_map, List.length_set]; omega) | rfl | (simp only [List.length_cons, List.length_nil, List.length_append, List.length_map, List.length_set, List.length_replicate, List.all_cons, List.all_nil, List.all_append, storable, plainB, Bool.and_self]; done)) only [go_sem, reduceCtorEq, ↓reduceIte, Nat.reduceEqDiff, Nat.reduceAdd, Nat.reduceSub, Nat.reduceMul, Nat.reduceLeDiff, Nat.reduceLT, Nat.reduceBEq, Nat.reduceBNe, Int.reduceAdd, Int.reduceSub, Int.reduceMul, Int.reduceNeg, Int.reduceEq, Int.reduceNe, Int.reduceLT, Int.reduceLE, Int.reduceToNat, reduceDIte, Nat.reduceSucc, evI_callP, callPK_some, I3, hk, s5, q1, h1, h2]
  by_cases h3 : (b.length : Int) ≤ at_
  · simp (disch := first | omega | (simp only [List.length_cons, List.length_nil, List.length_append, List.length_map, List.length_set]; omega) | rfl | (simp only [List.length_cons, List.length_nil, List.length_append, List.length_map, List.length_set, List.length_replicate, List.all_cons, List.all_nil, List.all_append, storable, plainB, Bool.and_self]; done)) only [go_sem, reduceCtorEq, ↓reduceIte, Nat.reduceEqDiff, Nat.reduceAdd, Nat.reduceSub, Nat.reduceMul, Nat.reduceLeDiff, Nat.reduceLT, Nat.reduceBEq, Nat.reduceBNe, Int.reduceAdd, Int.reduceSub, Int.reduceMul, Int.reduceNeg, Int.reduceEq, Int.reduceNe, Int.reduceLT, Int.reduceLE, Int.reduceToNat, reduceDIte, Nat.reduceSucc, evI_callP, callPK_some, I3, hk, s5, q1, h1, h2, h3]
  by_cases h4 : (d.toNat : Int) = 0
  · simp (disch := first | omega | (simp only [List.length_cons, List.length_nil, List.length_append, List.length_map, List.length_set]; omega) | rfl | (simp only [List.length_cons, List.length_nil, List.length_append, List.length_map, List.length_set, List.length_replicate, List.all_cons, List.all_nil, List.all_append, storable, plainB, Bool.and_self]; done)) only [go_sem, reduceCtorEq, ↓reduceIte, Nat.reduceEqDiff, Nat.reduceAdd, Nat.reduceSub, Nat.reduceMul, Nat.reduceLeDiff, Nat.reduceLT, Nat.reduceBEq, Nat.reduceBNe, Int.reduceAdd, Int.reduceSub, Int.reduceMul, Int.reduceNeg, Int.reduceEq, Int.reduceNe, Int.reduceLT, Int.reduceLE, Int.reduceToNat, reduceDIte, Nat.reduceSucc, evI_callP, callPK_some, I3, hk, s5, q1, h1, h2, h3, h4]
  have hd : ¬ d = 0 := fun h => h4 (by rw [h]; rfl)
  obtain ⟨i, rfl⟩ : ∃ i : Nat, at_ = (i : Int) := ⟨at_.toNat, by omega⟩
  have hi : i < b.length := by omega
  obtain ⟨c, hc⟩ : ∃ c, c = b.set i (UInt8.ofNat ((nth b i).toNat + d.toNat)) := ⟨_, rfl⟩
  have hcl : c.length = b.length := by rw [hc, List.length_set]
  have hns : ¬ foldN (sumW (endsB x y c.length ++ c)) = 65535 := by
    rw [hcl, hc]
    exact spoilt _ b i hi d hd hsum
  have q3 := fun g g' => s8 g g' b b (by omega)
  have q4 := fun g => s6 g c x y
  have q5 := fun g => s9 g c x y (by omega)
  have q6 := fun g => s9 g b x y (by omega)
  obtain ⟨r, e, hpc⟩ := parseT_bad hns
  rw [hpc] at q4
  rw [decide_eq_false hns] at q5
  rw [decide_eq_true hsum] at q6
  simp only [segC_eq, faultV] at q4
  have w : IntKind.u8.wrap (((nth b i).toNat : Int) + (d.toNat : Int)) = ((UInt8.ofNat ((nth b i).toNat + d.toNat)).toNat : Int) := by
    have := wrapU8 ((nth b i).toNat + d.toNat)
    rwa [Int.natCast_add] at this
  have ia : ∀ a t l, iaddrK (a :: .row 0 1 (b.map by8) t :: l) 1 (.sl 1 1 0 0 b.length) (.int .i64 (i : Int)) = some (.ref 1 0 i, a :: .row 0 1 (b.map by8) t :: l) := fun a t l => by
    have := iaddrK_sl (a :: .row 0 1 (b.map by8) t :: l) 1 1 0 0 b.length .i64 (i : Int) (by omega) (by omega) rfl
    simpa using this
  have hst : ∀ h t, stR h 1 0 i (.int .u8 ((UInt8.ofNat ((nth b i).toNat + d.toNat)).toNat : Int)) (some (.row 0 1 (b.map by8) t)) = some (h.set 1 (.row 0 1 (c.map by8) t)) := fun h t => by rw [hc]; exact stR_by8 h 1 0 i b _ t hi
  simp (disch := first | omega | (simp only [List.length_cons, List.length_nil, List.length_append, List.length_map, List.length_set]; omega) | rfl | (simp only [List.length_cons, List.length_nil, List.length_append, List.length_map, List.length_set, List.length_replicate, List.all_cons, List.all_nil, List.all_append, storable, plainB, Bool.and_self]; done)) only [go_sem, reduceCtorEq, ↓reduceIte, Nat.reduceEqDiff, Nat.reduceAdd, Nat.reduceSub, Nat.reduceMul, Nat.reduceLeDiff, Nat.reduceLT, Nat.reduceBEq, Nat.reduceBNe, Int.reduceAdd, Int.reduceSub, Int.reduceMul, Int.reduceNeg, Int.reduceEq, Int.reduceNe, Int.reduceLT, Int.reduceLE, Int.reduceToNat, reduceDIte, Nat.reduceSucc, evI_callP, callPK_some, I3, hk, s5, q1, q2, q3, q4, q5, q6, h1, h2, h3, h4, w, hst, hcl, z0, Int.natCast_zero, ia]
end Go.Fw.Wd
