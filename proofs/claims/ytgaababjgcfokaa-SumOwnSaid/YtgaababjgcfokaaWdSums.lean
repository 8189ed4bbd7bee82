/-
  What the functions on sums answer, the program's and the document's. Conditions: stated at each.
-/
import Derived.Test.YtgaababjgcfokaaWdSumN
import Derived.Test.YtgaababjgcfokaaWdSame
set_option linter.unusedVariables false
set_option linter.unusedSimpArgs false
namespace Go.Fw.Wd
open Go.Proofs Code_

theorem xor_u16 {n : Int} (h0 : 0 ≤ n) (h1 : n ≤ 65535) : bitsI .xor .u16 65535 n = 65535 - n := by
  show IntKind.u16.wrap ((BitVec.ofInt 16 65535 ^^^ BitVec.ofInt 16 n).toNat : Int) = _
  have e : BitVec.ofInt 16 65535 ^^^ BitVec.ofInt 16 n = ~~~ BitVec.ofInt 16 n := BitVec.allOnes_xor
  have e2 : (BitVec.ofInt 16 n).toNat = n.toNat := by rw [BitVec.toNat_ofInt]; omega
  rw [e, BitVec.toNat_not, e2, wu16 (by omega) (by omega)]
  omega
theorem max_u16 : (if IntKind.u16.signed = true then -1 else IntKind.u16.max) = 65535 := rfl

theorem s18 (a b : Nat) (ha : a < 65536) (hb : b < 65536) : pcall E 18 [.int .u16 a, .int .u16 b] = some (.int .u16 (foldN (a + b) : Nat), []) := by
  rw [pcall_go (fn := I18) rfl rfl rfl]
  have hk : E.keep 18 = false := rfl
  have h := s42 (a + b) (by omega)
  simp only [Int.natCast_add] at h
  simp (disch := first | omega | (simp only [List.length_cons, List.length_nil, List.length_append, List.length_map, List.length_set]; omega) | rfl) only [go_sem, reduceCtorEq, ↓reduceIte, Nat.reduceEqDiff, Nat.reduceAdd, Nat.reduceSub, Nat.reduceMul, Nat.reduceLeDiff, Nat.reduceLT, Nat.reduceBEq, Nat.reduceBNe, Int.reduceAdd, Int.reduceSub, Int.reduceMul, Int.reduceNeg, Int.reduceEq, Int.reduceNe, Int.reduceLT, Int.reduceLE, Int.reduceToNat, reduceDIte, Nat.reduceSucc, I18, hk, h]
theorem s19 (a b : Nat) (ha : a < 65536) (hb : b < 65536) : pcall E 19 [.int .u16 a, .int .u16 b] = some (.int .u16 (foldN (a + b) : Nat), []) := by
  rw [pcall_go (fn := I19) rfl rfl rfl]
  have hk : E.keep 19 = false := rfl
  by_cases h : (65535 : Int) < (a : Int) + b
  · have e : ((foldN (a + b) : Nat) : Int) = (a : Int) + b - 65535 := by unfold foldN; rw [if_neg (by omega)]; omega
    simp (disch := first | omega | (simp only [List.length_cons, List.length_nil, List.length_append, List.length_map, List.length_set]; omega) | rfl) only [go_sem, reduceCtorEq, ↓reduceIte, Nat.reduceEqDiff, Nat.reduceAdd, Nat.reduceSub, Nat.reduceMul, Nat.reduceLeDiff, Nat.reduceLT, Nat.reduceBEq, Nat.reduceBNe, Int.reduceAdd, Int.reduceSub, Int.reduceMul, Int.reduceNeg, Int.reduceEq, Int.reduceNe, Int.reduceLT, Int.reduceLE, Int.reduceToNat, reduceDIte, Nat.reduceSucc, I19, hk, h, e]
  · have e : ((foldN (a + b) : Nat) : Int) = (a : Int) + b := by rw [foldN_small (by omega)]; omega
    simp (disch := first | omega | (simp only [List.length_cons, List.length_nil, List.length_append, List.length_map, List.length_set]; omega) | rfl) only [go_sem, reduceCtorEq, ↓reduceIte, Nat.reduceEqDiff, Nat.reduceAdd, Nat.reduceSub, Nat.reduceMul, Nat.reduceLeDiff, Nat.reduceLT, Nat.reduceBEq, Nat.reduceBNe, Int.reduceAdd, Int.reduceSub, Int.reduceMul, Int.reduceNeg, Int.reduceEq, Int.reduceNe, Int.reduceLT, Int.reduceLE, Int.reduceToNat, reduceDIte, Nat.reduceSucc, I19, hk, h, e]
theorem s20 (a b c : Nat) (ha : a < 65536) (hb : b < 65536) (hc : c < 65536) : pcall E 20 [.int .u16 a, .int .u16 b, .int .u16 c] = some (.int .u16 (turnN a b c : Nat), []) := by
  rw [pcall_go (fn := I20) rfl rfl rfl]
  have hk : E.keep 20 = false := rfl
  have h := s42 ((65535 - a) + (65535 - b) + c) (by omega)
  have e1 : (((65535 - a) + (65535 - b) + c : Nat) : Int) = (65535 - (a : Int)) + (65535 - (b : Int)) + c := by omega
  rw [e1] at h
  have x1 := xor_u16 (n := a) (by omega) (by omega)
  have x2 := xor_u16 (n := b) (by omega) (by omega)
  have hf := foldN_le ((65535 - a) + (65535 - b) + c)
  unfold turnN
  generalize foldN ((65535 - a) + (65535 - b) + c) = f at h hf
  have x3 := xor_u16 (n := f) (by omega) (by omega)
  have e2 : ((65535 - f : Nat) : Int) = 65535 - (f : Int) := by omega
  rw [e2]
  simp (disch := first | omega | (simp only [List.length_cons, List.length_nil, List.length_append, List.length_map, List.length_set]; omega) | rfl) only [go_sem, reduceCtorEq, ↓reduceIte, Nat.reduceEqDiff, Nat.reduceAdd, Nat.reduceSub, Nat.reduceMul, Nat.reduceLeDiff, Nat.reduceLT, Nat.reduceBEq, Nat.reduceBNe, Int.reduceAdd, Int.reduceSub, Int.reduceMul, Int.reduceNeg, Int.reduceEq, Int.reduceNe, Int.reduceLT, Int.reduceLE, Int.reduceToNat, reduceDIte, Nat.reduceSucc, I20, hk, max_u16, x1, x2, x3, h]
theorem s21 (a b c : Nat) (ha : a < 65536) (hb : b < 65536) (hc : c < 65536) : pcall E 21 [.int .u16 a, .int .u16 b, .int .u16 c] = some (.int .u16 (turnN a b c : Nat), []) := by
  rw [pcall_go (fn := I21) rfl rfl rfl]
  have hk : E.keep 21 = false := rfl
  have h := s19 (65535 - a) (65535 - b) (by omega) (by omega)
  have e1 : ((65535 - a : Nat) : Int) = 65535 - (a : Int) := by omega
  have e2 : ((65535 - b : Nat) : Int) = 65535 - (b : Int) := by omega
  have h2 := s19 (foldN ((65535 - a) + (65535 - b))) c (foldN_lt _) hc
  rw [foldN_add] at h2
  rw [e1, e2] at h
  have hf := foldN_le ((65535 - a) + (65535 - b) + c)
  unfold turnN
  generalize foldN ((65535 - a) + (65535 - b) + c) = f at h2 hf
  have hg := foldN_le ((65535 - a) + (65535 - b))
  generalize foldN ((65535 - a) + (65535 - b)) = g at h h2 hg
  have e2 : ((65535 - f : Nat) : Int) = 65535 - (f : Int) := by omega
  rw [e2]
  simp (disch := first | omega | (simp only [List.length_cons, List.length_nil, List.length_append, List.length_map, List.length_set]; omega) | rfl) only [go_sem, reduceCtorEq, ↓reduceIte, Nat.reduceEqDiff, Nat.reduceAdd, Nat.reduceSub, Nat.reduceMul, Nat.reduceLeDiff, Nat.reduceLT, Nat.reduceBEq, Nat.reduceBNe, Int.reduceAdd, Int.reduceSub, Int.reduceMul, Int.reduceNeg, Int.reduceEq, Int.reduceNe, Int.reduceLT, Int.reduceLE, Int.reduceToNat, reduceDIte, Nat.reduceSucc, I21, hk, h, h2]

theorem s24 (g : Bool) (ps : List Part) (h1 : ps.length ≤ 140737488355328) (h2 : (cat ps).length ≤ 140737488355328) : pcall E 24 [.rs g 1 (ps.map encP)] = some (.int .u16 (65535 - foldN (sumW (cat ps)) : Nat), []) := by
  rw [pcall_go (fn := I24) rfl rfl rfl]
  have hk : E.keep 24 = false := rfl
  have h := fun g => s22 g ps h1 h2
  have hf := foldN_le (sumW (cat ps))
  generalize foldN (sumW (cat ps)) = f at h hf
  have x3 := xor_u16 (n := f) (by omega) (by omega)
  have e2 : ((65535 - f : Nat) : Int) = 65535 - (f : Int) := by omega
  rw [e2]
  simp (disch := first | omega | (simp only [List.length_cons, List.length_nil, List.length_append, List.length_map, List.length_set]; omega) | rfl) only [go_sem, reduceCtorEq, ↓reduceIte, Nat.reduceEqDiff, Nat.reduceAdd, Nat.reduceSub, Nat.reduceMul, Nat.reduceLeDiff, Nat.reduceLT, Nat.reduceBEq, Nat.reduceBNe, Int.reduceAdd, Int.reduceSub, Int.reduceMul, Int.reduceNeg, Int.reduceEq, Int.reduceNe, Int.reduceLT, Int.reduceLE, Int.reduceToNat, reduceDIte, Nat.reduceSucc, I24, hk, h, max_u16, x3]
theorem s26 (g : Bool) (ps : List Part) (h1 : ps.length ≤ 140737488355328) (h2 : (cat ps).length ≤ 140737488355328) : pcall E 26 [.rs g 1 (ps.map encP)] = some (.bool (decide (foldN (sumW (cat ps)) = 65535)), []) := by
  rw [pcall_go (fn := I26) rfl rfl rfl]
  have hk : E.keep 26 = false := rfl
  have h := fun g => s22 g ps h1 h2
  have e : decide (((foldN (sumW (cat ps)) : Nat) : Int) = 65535) = decide (foldN (sumW (cat ps)) = 65535) := decide_eq_decide.2 (by omega)
  simp (disch := first | omega | (simp only [List.length_cons, List.length_nil, List.length_append, List.length_map, List.length_set]; omega) | rfl) only [go_sem, reduceCtorEq, ↓reduceIte, Nat.reduceEqDiff, Nat.reduceAdd, Nat.reduceSub, Nat.reduceMul, Nat.reduceLeDiff, Nat.reduceLT, Nat.reduceBEq, Nat.reduceBNe, Int.reduceAdd, Int.reduceSub, Int.reduceMul, Int.reduceNeg, Int.reduceEq, Int.reduceNe, Int.reduceLT, Int.reduceLE, Int.reduceToNat, reduceDIte, Nat.reduceSucc, I26, hk, h, e]
end Go.Fw.Wd
