/-
  The laws on sums of bytes that are changed. Conditions: stated at each.
-/
import Derived.Test.YtgaababjgcfokaaWdLawm
set_option linter.unusedVariables false
set_option linter.unusedSimpArgs false
namespace Go.Fw.Wd
open Go.Proofs Code_

theorem over_sum (l : List UInt8) (a : Nat) (p : List UInt8) (ha : a % 2 = 0) (hp : p.length % 2 = 0) (h : a + p.length ≤ l.length) : sumW (over l a p) + sumW ((l.drop a).take p.length) = sumW l + sumW p := by
  have h1 : (l.take a).length = a := by rw [List.length_take]; omega
  have h2 : ((l.drop a).take p.length).length = p.length := by rw [List.length_take, List.length_drop]; omega
  have e : l = l.take a ++ ((l.drop a).take p.length ++ l.drop (a + p.length)) := by
    rw [← List.drop_drop, List.take_append_drop, List.take_append_drop]
  have e2 : sumW l = sumW (l.take a) + (sumW ((l.drop a).take p.length) + sumW (l.drop (a + p.length))) := by
    conv => lhs; rw [e]
    rw [sumW_append _ _ (by rw [h1]; exact ha), sumW_append _ _ (by rw [h2]; exact hp)]
  have e3 : sumW (over l a p) = sumW (l.take a) + (sumW p + sumW (l.drop (a + p.length))) := by
    unfold over
    rw [List.append_assoc, sumW_append _ _ (by rw [h1]; exact ha), sumW_append _ _ hp]
  omega
theorem patch_sum (l : List UInt8) (a : Nat) (p : List UInt8) (ha : a % 2 = 0) (hp : p.length % 2 = 0) (h : a + p.length ≤ l.length) (h1 : zeroB l = false) (h2 : zeroB (over l a p) = false) : patN (65535 - foldN (sumW l)) ((l.drop a).take p.length) p = 65535 - foldN (sumW (over l a p)) ∧ patF ((l.drop a).take p.length) p = 0 := by
  have hl : ((l.drop a).take p.length).length = p.length := by rw [List.length_take, List.length_drop]; omega
  have hlt : 65535 - foldN (sumW l) < 65536 := by omega
  obtain ⟨i1, i2⟩ := patN_inv hlt hl (by omega)
  have s1 := zeroB_sum h1
  have s2 := zeroB_sum h2
  have s3 := over_sum l a p ha hp h
  have f1 := foldN_pos s1
  have f2 := foldN_pos s2
  have f3 := foldN_mod (sumW l)
  have f4 := foldN_mod (sumW (over l a p))
  have f5 := foldN_le (sumW l)
  have f6 := foldN_le (sumW (over l a p))
  have b := patN_lt hlt ((l.drop a).take p.length) p
  refine ⟨?_, patF_ok hl (by omega)⟩
  generalize patN (65535 - foldN (sumW l)) ((l.drop a).take p.length) p = x at *
  generalize sumW ((l.drop a).take p.length) = y at *
  generalize sumW (over l a p) = z at *
  generalize sumW l = u at *
  generalize sumW p = v at *
  generalize foldN u = fu at *
  generalize foldN z = fz at *
  have := i2 (by omega)
  omega

theorem of1' (g g' : Bool) (l : List UInt8) (hl : l.length ≤ 140737488355328) : pcall E 24 [.rs g 1 [.rs g' 1 (l.map by8)]] = some (.int .u16 ((65535 - foldN (sumW l) : Nat) : Int), []) := of1 g g' l hl
/-- A row of one row of the run's own, handed on. -/
theorem sn_rows (g : Bool) (x : List UInt8) (n v : Nat) (t t' : TypeId) (hn : x.length = n) : sn g [.row v 1 (x.map by8) t, .row 0 1 [.sl 1 0 v 0 n] t'] 8 (.sl 1 1 0 0 1) = some (.rs g 1 [.rs g 1 (x.map by8)]) := by
  have h0 : sn g [.row v 1 (x.map by8) t, .row 0 1 [.sl 1 0 v 0 n] t'] 7 (.sl 1 0 v 0 n) = some (.rs g 1 (x.map by8)) := by
    rw [sn_row]
    exact snR_by8 g _ 7 0 v n x t hn
  rw [sn_sl]
  simp only [List.getElem?_cons_succ, List.getElem?_cons_zero, Nat.mul_one, List.take_succ_cons, List.take_zero, snL_cons, snL_nil, h0, consK_some, Option.map_some, List.length_singleton, Nat.le_refl, and_self, Nat.lt_irrefl, Nat.zero_lt_one, if_true]
  rfl
theorem sn_one (g : Bool) (x : List UInt8) (n v : Nat) (t : TypeId) (l : List AObj) (hn : x.length = n) : sn g (.row v 1 (x.map by8) t :: l) 8 (.sl 1 0 v 0 n) = some (.rs g 1 (x.map by8)) := by
  rw [sn_row]
  exact snR_by8 g _ 8 0 v n x t hn
theorem law_patch (l p : List UInt8) (at_ : Int) (h1 : S64 at_) : pcall E 4 [bs false l, .int .i64 at_, bs false p] = some (.bool true, []) := by
  rw [pcall_go (fn := I4) rfl rfl rfl]
  have hk : E.keep 4 = false := rfl
  by_cases a1 : (3000 : Int) < l.length
  · simp only [go_sem, reduceCtorEq, ↓reduceIte, Nat.reduceEqDiff, Nat.reduceAdd, Nat.reduceSub, Nat.reduceMul, Nat.reduceLeDiff, Nat.reduceLT, Nat.reduceBEq, Nat.reduceBNe, Int.reduceAdd, Int.reduceSub, Int.reduceMul, Int.reduceNeg, Int.reduceEq, Int.reduceNe, Int.reduceLT, Int.reduceLE, Int.reduceToNat, reduceDIte, Nat.reduceSucc, I4, hk, s13, a1]
  by_cases a2 : at_ < 0
  · simp only [go_sem, reduceCtorEq, ↓reduceIte, Nat.reduceEqDiff, Nat.reduceAdd, Nat.reduceSub, Nat.reduceMul, Nat.reduceLeDiff, Nat.reduceLT, Nat.reduceBEq, Nat.reduceBNe, Int.reduceAdd, Int.reduceSub, Int.reduceMul, Int.reduceNeg, Int.reduceEq, Int.reduceNe, Int.reduceLT, Int.reduceLE, Int.reduceToNat, reduceDIte, Nat.reduceSucc, I4, hk, s13, a1, a2]
  obtain ⟨a, rfl⟩ : ∃ a : Nat, at_ = a := ⟨at_.toNat, by omega⟩
  by_cases a3 : (a : Int).tmod 2 = 1
  · simp only [go_sem, reduceCtorEq, ↓reduceIte, Nat.reduceEqDiff, Nat.reduceAdd, Nat.reduceSub, Nat.reduceMul, Nat.reduceLeDiff, Nat.reduceLT, Nat.reduceBEq, Nat.reduceBNe, Int.reduceAdd, Int.reduceSub, Int.reduceMul, Int.reduceNeg, Int.reduceEq, Int.reduceNe, Int.reduceLT, Int.reduceLE, Int.reduceToNat, reduceDIte, Nat.reduceSucc, I4, hk, s13, a1, a2, a3]
  by_cases a4 : (l.length : Int) < a
  · simp only [go_sem, reduceCtorEq, ↓reduceIte, Nat.reduceEqDiff, Nat.reduceAdd, Nat.reduceSub, Nat.reduceMul, Nat.reduceLeDiff, Nat.reduceLT, Nat.reduceBEq, Nat.reduceBNe, Int.reduceAdd, Int.reduceSub, Int.reduceMul, Int.reduceNeg, Int.reduceEq, Int.reduceNe, Int.reduceLT, Int.reduceLE, Int.reduceToNat, reduceDIte, Nat.reduceSucc, I4, hk, s13, a1, a2, a3, a4]
  by_cases a5 : (p.length : Int).tmod 2 = 1
  · simp only [go_sem, reduceCtorEq, ↓reduceIte, Nat.reduceEqDiff, Nat.reduceAdd, Nat.reduceSub, Nat.reduceMul, Nat.reduceLeDiff, Nat.reduceLT, Nat.reduceBEq, Nat.reduceBNe, Int.reduceAdd, Int.reduceSub, Int.reduceMul, Int.reduceNeg, Int.reduceEq, Int.reduceNe, Int.reduceLT, Int.reduceLE, Int.reduceToNat, reduceDIte, Nat.reduceSucc, I4, hk, s13, a1, a2, a3, a4, a5]
  by_cases a6 : (l.length : Int) - a < p.length
  · simp (disch := first | omega | (simp only [List.length_cons, List.length_nil, List.length_append, List.length_map, List.length_set]; omega) | rfl) only [go_sem, reduceCtorEq, ↓reduceIte, Nat.reduceEqDiff, Nat.reduceAdd, Nat.reduceSub, Nat.reduceMul, Nat.reduceLeDiff, Nat.reduceLT, Nat.reduceBEq, Nat.reduceBNe, Int.reduceAdd, Int.reduceSub, Int.reduceMul, Int.reduceNeg, Int.reduceEq, Int.reduceNe, Int.reduceLT, Int.reduceLE, Int.reduceToNat, reduceDIte, Nat.reduceSucc, I4, hk, s13, a1, a2, a3, a4, a5, a6]
  have ha : a % 2 = 0 := by rw [Int.tmod_eq_emod_of_nonneg (by omega)] at a3; omega
  have hp : p.length % 2 = 0 := by rw [Int.tmod_eq_emod_of_nonneg (by omega)] at a5; omega
  have q5 := s27 false l (by omega)
  have hrun := loop_from (E := E) L4_0_eq p.length (fun i => ⟨[(0, bs false l), (1, .int .i64 a), (2, bs false p), (7, .sl 1 0 0 0 l.length), (8, .int .i64 i)], [.row 0 1 ((over l a (p.take i)).map by8) 5]⟩) rfl (fun i hi => by
      have h1 : (i : Int) < p.length := by omega
      have hw := over_step l a p i hi (by omega)
      have hol := over_len l a (p.take i) (by rw [List.length_take]; omega)
      generalize over l a (p.take i) = w at hw hol
      have hia := iaddrK_sl [.row 0 1 (w.map by8) 5] 1 0 0 0 l.length .i64 ((a : Int) + i) (by omega) (by omega) rfl
      rw [show 0 + ((a : Int) + i).toNat * 1 = a + i by omega] at hia
      have hst := stR_by8 [.row 0 1 (w.map by8) 5] 0 0 (a + i) w (nth p i) 5 (by omega)
      rw [hw] at hst
      simp only [go_sem, reduceCtorEq, ↓reduceIte, Nat.reduceEqDiff, Nat.reduceAdd, Nat.reduceSub, Nat.reduceMul, Nat.reduceLeDiff, Nat.reduceLT, Nat.reduceBEq, Nat.reduceBNe, Int.reduceAdd, Int.reduceSub, Int.reduceMul, Int.reduceNeg, Int.reduceEq, Int.reduceNe, Int.reduceLT, Int.reduceLE, Int.reduceToNat, reduceDIte, Nat.reduceSucc] at hst
      simp (disch := first | omega | (simp only [List.length_cons, List.length_nil, List.length_append, List.length_map, List.length_set]; omega) | rfl) only [go_sem, reduceCtorEq, ↓reduceIte, Nat.reduceEqDiff, Nat.reduceAdd, Nat.reduceSub, Nat.reduceMul, Nat.reduceLeDiff, Nat.reduceLT, Nat.reduceBEq, Nat.reduceBNe, Int.reduceAdd, Int.reduceSub, Int.reduceMul, Int.reduceNeg, Int.reduceEq, Int.reduceNe, Int.reduceLT, Int.reduceLE, Int.reduceToNat, reduceDIte, Nat.reduceSucc, iaddr_by8, B4_0, h1, hia, hst])
  have hol := over_len l a p (by omega)
  have e0 : over l a (p.take 0) = l := by simp [over]
  simp only [e0, List.take_length] at hrun
  simp only [go_sem, reduceCtorEq, ↓reduceIte, Nat.reduceEqDiff, Nat.reduceAdd, Nat.reduceSub, Nat.reduceMul, Nat.reduceLeDiff, Nat.reduceLT, Nat.reduceBEq, Nat.reduceBNe, Int.reduceAdd, Int.reduceSub, Int.reduceMul, Int.reduceNeg, Int.reduceEq, Int.reduceNe, Int.reduceLT, Int.reduceLE, Int.reduceToNat, reduceDIte, Nat.reduceSucc] at hrun
  have q1 := fun g => s28 g l (by omega)
  have q2 := fun g => s28 g (over l a p) (by omega)
  cases z1 : zeroB l with
  | true =>
    rw [z1] at q1
    simp (disch := first | omega | (simp only [List.length_cons, List.length_nil, List.length_append, List.length_map, List.length_set]; omega) | rfl) only [go_sem, reduceCtorEq, ↓reduceIte, Nat.reduceEqDiff, Nat.reduceAdd, Nat.reduceSub, Nat.reduceMul, Nat.reduceLeDiff, Nat.reduceLT, Nat.reduceBEq, Nat.reduceBNe, Int.reduceAdd, Int.reduceSub, Int.reduceMul, Int.reduceNeg, Int.reduceEq, Int.reduceNe, Int.reduceLT, Int.reduceLE, Int.reduceToNat, reduceDIte, Nat.reduceSucc, I4, hk, s13, a1, a2, a3, a4, a5, a6, q5, hrun, B4_0, Int.lt_irrefl, q1]
  | false =>
    rw [z1] at q1
    cases z2 : zeroB (over l a p) with
    | true =>
      rw [z2] at q2
      simp (disch := first | omega | (simp only [List.length_cons, List.length_nil, List.length_append, List.length_map, List.length_set]; omega) | rfl) only [go_sem, reduceCtorEq, ↓reduceIte, Nat.reduceEqDiff, Nat.reduceAdd, Nat.reduceSub, Nat.reduceMul, Nat.reduceLeDiff, Nat.reduceLT, Nat.reduceBEq, Nat.reduceBNe, Int.reduceAdd, Int.reduceSub, Int.reduceMul, Int.reduceNeg, Int.reduceEq, Int.reduceNe, Int.reduceLT, Int.reduceLE, Int.reduceToNat, reduceDIte, Nat.reduceSucc, I4, hk, s13, a1, a2, a3, a4, a5, a6, q5, hrun, B4_0, Int.lt_irrefl, q1, snR_by8, q2, hol]
    | false =>
      rw [z2] at q2
      obtain ⟨t1, t2⟩ := patch_sum l a p ha hp (by omega) z1 z2
      have q3 := fun g g' => of1' g g' l (by omega)
      have q4 := fun g g' => of1' g g' (over l a p) (by omega)
      have q6 := fun g g' => s16 g g' (65535 - foldN (sumW l)) (by omega) ((l.drop a).take p.length) p (by rw [List.length_take]; omega) (by omega)
      rw [t1, t2] at q6
      have s1 := fun h => slice_by_ii h false l .i64 .i64 (a : Int) ((a : Int) + p.length) (by omega) (by omega) (by omega)
      have e1 : ((a : Int) + p.length).toNat - a = p.length := by omega
      simp only [Int.toNat_natCast, e1] at s1
      generalize over l a p = x at *
      generalize (l.drop a).take p.length = y at *
      simp (disch := first | omega | (simp only [List.length_cons, List.length_nil, List.length_append, List.length_map, List.length_set]; omega) | rfl) only [go_sem, reduceCtorEq, ↓reduceIte, Nat.reduceEqDiff, Nat.reduceAdd, Nat.reduceSub, Nat.reduceMul, Nat.reduceLeDiff, Nat.reduceLT, Nat.reduceBEq, Nat.reduceBNe, Int.reduceAdd, Int.reduceSub, Int.reduceMul, Int.reduceNeg, Int.reduceEq, Int.reduceNe, Int.reduceLT, Int.reduceLE, Int.reduceToNat, reduceDIte, Nat.reduceSucc, I4, hk, s13, a1, a2, a3, a4, a5, a6, q5, hrun, B4_0, Int.lt_irrefl, q1, sn_one, sn_rows, q2, hol, q3, q4, q6, s1]
end Go.Fw.Wd
