/-
  The laws on options, as the evaluation answers them. Conditions: stated at each.
-/
import Derived.Test.YtkekjbpalkoeeaaWdWrite
import Derived.KernelRfl
set_option linter.unusedVariables false
set_option linter.unusedSimpArgs false
namespace Go.Fw.Wd
open Go.Proofs Code_

theorem s20 : pcall E 20 [] = some (.bool true, []) := pcall_run 60 (by kernel_rfl)

theorem bytes_len {l : List Opt} (h1 : l.length ≤ 60) (h2 : ∀ o ∈ l, o.2.length ≤ 300) : (optsB l).length ≤ 20000 := by
  have := optsB_len l 300 h2
  omega
theorem bytesB_len {l : List Opt} {n : Nat} (h : (optsB l).length ≤ n) : (bytesB l).length ≤ n + 1 := by
  unfold bytesB
  split
  · simp; omega
  · simp
theorem law4 (l m : List Opt) (c n : UInt8) (ip : Nat) (hip : ip < 4294967296) (size : Int) : pcall E 4 [opts false l, opts false m, .int .u8 (c.toNat : Int), .int .u8 (n.toNat : Int), .int .u32 (ip : Int), .int .i64 size] = some (.bool true, []) := by
  rw [pcall_go (fn := I4) rfl rfl rfl]
  have hk : E.keep 4 = false := rfl
  have gl := fun g => s27 g l
  have gm := fun g => s27 g m
  cases h1 : greatO l with
  | true =>
    rw [h1] at gl
    simp (disch := first | omega | (simp only [List.length_cons, List.length_nil, List.length_append, List.length_map, List.length_set]; omega) | rfl | (simp only [List.length_cons, List.length_nil, List.length_append, List.length_map, List.length_set, List.length_replicate, List.all_cons, List.all_nil, List.all_append, storable, plainB, Bool.and_self]; done)) only [go_sem, reduceCtorEq, ↓reduceIte, Nat.reduceEqDiff, Nat.reduceAdd, Nat.reduceSub, Nat.reduceMul, Nat.reduceLeDiff, Nat.reduceLT, Nat.reduceBEq, Nat.reduceBNe, Int.reduceAdd, Int.reduceSub, Int.reduceMul, Int.reduceNeg, Int.reduceEq, Int.reduceNe, Int.reduceLT, Int.reduceLE, Int.reduceToNat, reduceDIte, Nat.reduceSucc, evI_callP, callPK_some, I4, hk, s20, gl]
  | false =>
  cases h2 : greatO m with
  | true =>
    rw [h1] at gl
    rw [h2] at gm
    simp (disch := first | omega | (simp only [List.length_cons, List.length_nil, List.length_append, List.length_map, List.length_set]; omega) | rfl | (simp only [List.length_cons, List.length_nil, List.length_append, List.length_map, List.length_set, List.length_replicate, List.all_cons, List.all_nil, List.all_append, storable, plainB, Bool.and_self]; done)) only [go_sem, reduceCtorEq, ↓reduceIte, Nat.reduceEqDiff, Nat.reduceAdd, Nat.reduceSub, Nat.reduceMul, Nat.reduceLeDiff, Nat.reduceLT, Nat.reduceBEq, Nat.reduceBNe, Int.reduceAdd, Int.reduceSub, Int.reduceMul, Int.reduceNeg, Int.reduceEq, Int.reduceNe, Int.reduceLT, Int.reduceLE, Int.reduceToNat, reduceDIte, Nat.reduceSucc, evI_callP, callPK_some, I4, hk, s20, gl, gm]
  | false =>
    rw [h1] at gl
    rw [h2] at gm
    obtain ⟨a1, a2, a3⟩ := great_small h1
    obtain ⟨b1, b2, b3⟩ := great_small h2
    have hb := bytes_len a2 a3
    have hbl := bytesB_len hb
    have q1 := fun g => s28 g l a1 (by omega)
    have q2 := fun g => s29 g l a1 (by omega)
    have q3 := fun g => s25 g l a1
    have q4 := fun g => s25 g m b1
    have q5 := fun g => s30 g l c a1
    have q6 := fun g => s31 g l c a1
    have q7 := fun g => s32 g l c size a1
    have q8 := fun g => s33 g l c size a1
    have q9 := fun g g' => s26 g g' (bytesB l) (bytesB l) (by omega)
    have q10 := fun g g' => s34 g g' l m a1.1
    have q11 := fun g g' => s24 g g' l m a1.1
    have q12 := s35 c ip hip
    have q13 := s37 c ip hip
    have q14 := s36 c n
    have q15 := s38 c n
    have q16 := fun g => s25 g [ipO c ip, oneO c n] ⟨by simp, fun o ho => by
      rcases List.mem_cons.1 ho with rfl | ho
      · simp [ipO, encb_length]
      · simp at ho; subst ho; simp [oneO]⟩
    have q17 := fun g g' => s24 g g' [ipO c ip, oneO c n] [ipO c ip, oneO c n] (by simp)
    simp only [bytesV, numV] at q1 q2 q7 q8
    simp only [opts, recs, List.map_cons, List.map_nil, ipO, oneO, encO_mk, bs] at q12 q13 q14 q15 q16 q17
    have k : ∃ d b, findV (findO l c) = .tup [bs false d, .bool b] ∧ d.length ≤ 1048576 := by
      cases hf : findO l c with
      | none => exact ⟨[], false, rfl, by simp⟩
      | some d => exact ⟨d, true, rfl, findO_small a1 hf⟩
    obtain ⟨d, b, k1, k2⟩ := k
    rw [k1] at q5 q6
    have q18 := fun g g' => s26 g g' d d (by omega)
    generalize numO l c size = p at q7 q8
    generalize bytesB l = x at *
    simp (disch := first | omega | (simp only [List.length_cons, List.length_nil, List.length_append, List.length_map, List.length_set]; omega) | rfl | (simp only [List.length_cons, List.length_nil, List.length_append, List.length_map, List.length_set, List.length_replicate, List.all_cons, List.all_nil, List.all_append, storable, plainB, Bool.and_self]; done)) only [go_sem, reduceCtorEq, ↓reduceIte, Nat.reduceEqDiff, Nat.reduceAdd, Nat.reduceSub, Nat.reduceMul, Nat.reduceLeDiff, Nat.reduceLT, Nat.reduceBEq, Nat.reduceBNe, Int.reduceAdd, Int.reduceSub, Int.reduceMul, Int.reduceNeg, Int.reduceEq, Int.reduceNe, Int.reduceLT, Int.reduceLE, Int.reduceToNat, reduceDIte, Nat.reduceSucc, evI_callP, callPK_some, I4, hk, s20, gl, gm, q1, q2, q3, q4, q5, q6, q7, q8, q9, q10, q11, q12, q13, q14, q15, q16, q17, q18]
end Go.Fw.Wd
