/-
  The law AnswerLocal at the evaluation, and its end. Conditions: stated at each.
-/
import Derived.Test.YtigiopahmiaedaaDoorWdAlaa
set_option linter.unusedVariables false
set_option linter.unusedSimpArgs false
namespace Go.Fw.Wd
open Go.Proofs Code_

theorem loA_len (side : Int) (own : UInt32) (p : Pk) : (loA side own p).2.2.body.length ≤ 1480 := by
  have z : ([] : List UInt8).length ≤ 1480 := by simp
  unfold loA
  split
  · unfold ecA
    split
    · exact z
    · split
      · exact pkM_len _ _ _ (icM_len p.body)
      · exact z
  · split
    · unfold poA
      split
      · exact z
      · split
        · exact z
        · split
          · exact z
          · split
            · exact pkM_len _ _ _ (by have := mgErr_len 3 3 p; omega)
            · exact z
    · exact z
theorem law4 (side : Int) (own : UInt32) (p : Pk) : pcall E 4 [.int .i64 side, .int .u32 (own.toNat : Int), .agg (pkC p)] = some (.bool true, []) := by
  rw [pcall_go (fn := I4) rfl rfl rfl]
  have hk : E.keep 4 = false := rfl
  have q0 := s10 p
  by_cases h1 : (1500 : Int) < p.body.length
  · rw [decide_eq_true h1] at q0
    simp only [pkC_eq] at q0 ⊢
    simp (disch := first | omega | (simp only [List.length_cons, List.length_nil, List.length_append, List.length_map, List.length_set]; omega) | rfl | (simp only [List.length_cons, List.length_nil, List.length_append, List.length_map, List.length_set, List.length_replicate, List.all_cons, List.all_nil, List.all_append, storable, plainB, Bool.and_self]; done)) only [go_sem, reduceCtorEq, ↓reduceIte, reduceDIte, evI_callP, callPK_some, I4, hk, s9, q0]
  rw [decide_eq_false h1] at q0
  have q1 := fun g => s11 g p.body (by omega)
  have q2 := s17 side own p (by omega)
  have q3 := s18 side own p (by omega)
  have o1 := s14 p (by omega)
  have o2 := s14 (loA side own p).2.2 (by have := loA_len side own p; omega)
  have e1 := s15 (loA side own p).2.2 (loA side own p).2.2
  rw [decide_eq_true rfl] at e1
  have qq : ∀ g g', pcall E 16 [bs g p.body, bs g' p.body] = some (.bool true, []) := fun g g' => by rw [s16 g g' p.body p.body (by omega), decide_eq_true rfl]
  rw [an_eq] at q2 q3
  generalize (loA side own p).1 = k at *
  generalize (loA side own p).2.1 = r at *
  generalize (loA side own p).2.2 = x at *
  simp only [pkC_eq] at q0 q2 q3 o1 o2 e1 ⊢
  simp (disch := first | omega | (simp only [List.length_cons, List.length_nil, List.length_append, List.length_map, List.length_set]; omega) | rfl | (simp only [List.length_cons, List.length_nil, List.length_append, List.length_map, List.length_set, List.length_replicate, List.all_cons, List.all_nil, List.all_append, storable, plainB, Bool.and_self]; done)) only [go_sem, reduceCtorEq, ↓reduceIte, reduceDIte, evI_callP, callPK_some, I4, hk, s9, q0, q1, q2, q3, o1, o2, e1, qq, stR_cells]
theorem end4 (xs : List AV) (hl : xs.length = [3, 22, 26].length) (h : ∀ (j : Nat) t x, ([3, 22, 26] : List TypeId)[j]? = some t → xs[j]? = some x → Arg Tryd.prog t x) : pcall E 4 xs = some (.bool true, []) := by
  match xs, hl with
  | [x0, x1, x2], _ =>
    obtain ⟨v0, rfl, _⟩ := int_arg (h 0 _ x0 rfl rfl)
    obtain ⟨v1, rfl⟩ := U32_arg (h 1 _ x1 rfl rfl)
    obtain ⟨v2, rfl⟩ := pkA_arg (h 2 _ x2 rfl rfl)
    exact law4 v0 v1 v2
end Go.Fw.Wd
