/-
  What Patch answers, the program's and the document's. Conditions: stated at each.
-/
import Derived.Test.YtigiopahmiaedaaGreatDoorWdSumt
set_option linter.unusedVariables false
set_option linter.unusedSimpArgs false
namespace Go.Fw.Wd
open Go.Proofs Code_

theorem s104 (g g' : Bool) (a : Nat) (ha : a < 65536) (w n : List UInt8) (hw : w.length ≤ 140737488355328) (hn : n.length ≤ 140737488355328) : pcall E 104 [.int .u16 a, bs g w, bs g' n] = some (.tup [.int .u16 (patN a w n : Nat), .int .i64 (patF w n)], []) := by
  rw [pcall_go (fn := I104) rfl rfl rfl]
  have hk : E.keep 104 = false := rfl
  by_cases h1 : w.length = n.length
  · by_cases h2 : w.length % 2 = 0
    · have hrun := loop_from (E := E) L104_0_eq (w.length / 2) (fun i => ⟨[(0, .int .u16 (patK w n a i : Nat)), (1, bs g (w.drop (2 * i))), (2, bs g' (n.drop (2 * i)))], []⟩) rfl (fun i hi => by
        have g1 : (0 : Int) < (((w.drop (2 * i)).length : Nat) : Int) := by rw [List.length_drop]; omega
        have d1 : w.drop (2 * (i + 1)) = (w.drop (2 * i)).drop 2 := by rw [List.drop_drop]; rfl
        have d2 : n.drop (2 * (i + 1)) = (n.drop (2 * i)).drop 2 := by rw [List.drop_drop]; rfl
        have q1 := fun g => s102 g (chunkB w i) (by simp only [chunkB, List.length_take]; omega)
        have q2 := fun g => s102 g (chunkB n i) (by simp only [chunkB, List.length_take]; omega)
        have q3 := s113 (patK w n a i) (pw w i) (pw n i) (patK_lt w n ha i) (pw_lt _ _) (pw_lt _ _)
        have c1 : chunkB w i = (w.drop (2 * i)).take 2 := rfl
        have c2 : chunkB n i = (n.drop (2 * i)).take 2 := rfl
        have c3 : patK w n a (i + 1) = turnN (patK w n a i) (pw w i) (pw n i) := rfl
        rw [d1, d2, c3]
        rw [c1] at q1
        rw [c2] at q2
        have p1 : pairN ((w.drop (2 * i)).take 2) = pw w i := rfl
        have p2 : pairN ((n.drop (2 * i)).take 2) = pw n i := rfl
        rw [p1] at q1
        rw [p2] at q2
        have l1 : (w.drop (2 * i)).length = (n.drop (2 * i)).length := by rw [List.length_drop, List.length_drop, h1]
        have l2 : 2 ≤ (w.drop (2 * i)).length := by rw [List.length_drop]; omega
        generalize w.drop (2 * i) = x at g1 q1 l1 l2
        generalize n.drop (2 * i) = y at q2 l1
        have s1 := fun h => slice_by_ni h g x .i64 2 (by omega) (by omega)
        have s2 := fun h => slice_by_ni h g' y .i64 2 (by omega) (by omega)
        have s3 := fun h => slice_by_in h g x .i64 2 (by omega) (by omega)
        have s4 := fun h => slice_by_in h g' y .i64 2 (by omega) (by omega)
        have t2 : (2 : Int).toNat = 2 := rfl
        simp only [t2] at s1 s2 s3 s4
        simp (disch := first | omega | (simp only [List.length_cons, List.length_nil, List.length_append, List.length_map, List.length_set]; omega) | rfl | (simp only [List.length_cons, List.length_nil, List.length_append, List.length_map, List.length_set, List.length_replicate, List.all_cons, List.all_nil, List.all_append, storable, plainB, Bool.and_self]; done)) only [go_sem, reduceCtorEq, ↓reduceIte, reduceDIte, evI_callP, callPK_some, B104_0, g1, q1, q2, q3, s1, s2, s3, s4])
      have e0 : 2 * (w.length / 2) = w.length := by omega
      have e1 : w.drop (2 * (w.length / 2)) = [] := by rw [e0]; exact List.drop_length
      have e2 : n.drop (2 * (w.length / 2)) = [] := by rw [e0, h1]; exact List.drop_length
      have e3 : patK w n a 0 = a := rfl
      simp only [e1, e2, e3, Nat.mul_zero, List.drop_zero] at hrun
      simp only [go_sem, reduceCtorEq, ↓reduceIte, reduceDIte, evI_callP, callPK_some] at hrun
      have h1' : (w.length : Int) = n.length := by omega
      have h2' : (n.length : Int).tmod 2 = 0 := by rw [Int.tmod_eq_emod_of_nonneg (by omega)]; omega
      rw [patN_ok a h1 h2, patF_ok h1 h2]
      generalize w.length / 2 = m at hrun
      simp (disch := first | omega | (simp only [List.length_cons, List.length_nil, List.length_append, List.length_map, List.length_set]; omega) | rfl | (simp only [List.length_cons, List.length_nil, List.length_append, List.length_map, List.length_set, List.length_replicate, List.all_cons, List.all_nil, List.all_append, storable, plainB, Bool.and_self]; done)) only [go_sem, reduceCtorEq, ↓reduceIte, reduceDIte, evI_callP, callPK_some, I104, hk, h1', h2', hrun, B104_0, Int.lt_irrefl]
    · have h1' : (w.length : Int) = n.length := by omega
      have h2' : ¬ (n.length : Int).tmod 2 = 0 := by rw [Int.tmod_eq_emod_of_nonneg (by omega)]; omega
      have e1 : patN a w n = 0 := by simp [patN, h2]
      have e2 : patF w n = 11 := by simp [patF, h2]
      rw [e1, e2]
      simp (disch := first | omega | (simp only [List.length_cons, List.length_nil, List.length_append, List.length_map, List.length_set]; omega) | rfl | (simp only [List.length_cons, List.length_nil, List.length_append, List.length_map, List.length_set, List.length_replicate, List.all_cons, List.all_nil, List.all_append, storable, plainB, Bool.and_self]; done)) only [go_sem, reduceCtorEq, ↓reduceIte, reduceDIte, evI_callP, callPK_some, I104, hk, h1', h2']
  · have h1' : ¬ (w.length : Int) = n.length := by omega
    have e1 : patN a w n = 0 := by simp [patN, h1]
    have e2 : patF w n = 11 := by simp [patF, h1]
    rw [e1, e2]
    simp (disch := first | omega | (simp only [List.length_cons, List.length_nil, List.length_append, List.length_map, List.length_set]; omega) | rfl | (simp only [List.length_cons, List.length_nil, List.length_append, List.length_map, List.length_set, List.length_replicate, List.all_cons, List.all_nil, List.all_append, storable, plainB, Bool.and_self]; done)) only [go_sem, reduceCtorEq, ↓reduceIte, reduceDIte, evI_callP, callPK_some, I104, hk, h1']

end Go.Fw.Wd
