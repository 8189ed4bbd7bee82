/-
  What the functions on sums answer, the program's and the document's. Conditions: stated at each.
-/
import Derived.Test.YtmmfimpphhebfaaWdSumN
import Derived.Test.YtmmfimpphhebfaaWdSame
set_option linter.unusedVariables false
set_option linter.unusedSimpArgs false
namespace Go.Fw.Wd
open Go.Proofs Code_

theorem xor_u16 {n : Int} (h0 : 0 ≤ n) (h1 : n ≤ 65535) : bitsI .xor .u16 65535 n = 65535 - n := by
  show IntKind.u16.wrap ((BitVec.ofInt 16 65535 ^^^ BitVec.ofInt 16 n).toNat : Int) = _
  have e : BitVec.ofInt 16 65535 ^^^ BitVec.ofInt 16 n = ~~~ BitVec.ofInt 16 n := BitVec.allOnes_xor
  have e2 : (BitVec.ofInt 16 n).toNat = n.toNat := by rw [BitVec.toNat_ofInt]; omega
  rw [e, BitVec.toNat_not, e2, wu16 (by omega) (by omega)]
  omega
theorem max_u16 : (if IntKind.u16.signed = true then -1 else IntKind.u16.max) = 65535 := rfl

theorem s22 (g : Bool) (ps : List Part) (h1 : ps.length ≤ 140737488355328) (h2 : (cat ps).length ≤ 140737488355328) : pcall E 22 [.rs g 1 (ps.map encP)] = some (.int .u16 (65535 - foldN (sumW (cat ps)) : Nat), []) := by
  rw [pcall_go (fn := I22) rfl rfl rfl]
  have hk : E.keep 22 = false := rfl
  have h := fun g => s27 g ps h1 h2
  have hf := foldN_le (sumW (cat ps))
  generalize foldN (sumW (cat ps)) = f at h hf
  have x3 := xor_u16 (n := f) (by omega) (by omega)
  have e2 : ((65535 - f : Nat) : Int) = 65535 - (f : Int) := by omega
  rw [e2]
  simp (disch := first | omega | (simp only [List.length_cons, List.length_nil, List.length_append, List.length_map, List.length_set]; omega) | rfl | (simp only [List.length_cons, List.length_nil, List.length_append, List.length_map, List.length_set, List.length_replicate, List.all_cons, List.all_nil, List.all_append, storable, plainB, Bool.and_self]; done)) only [go_sem, reduceCtorEq, ↓reduceIte, Nat.reduceEqDiff, Nat.reduceAdd, Nat.reduceSub, Nat.reduceMul, Nat.reduceLeDiff, Nat.reduceLT, Nat.reduceBEq, Nat.reduceBNe, Int.reduceAdd, Int.reduceSub, Int.reduceMul, Int.reduceNeg, Int.reduceEq, Int.reduceNe, Int.reduceLT, Int.reduceLE, Int.reduceToNat, reduceDIte, Nat.reduceSucc, evI_callP, callPK_some, I22, hk, h, max_u16, x3]
theorem s17 (g : Bool) (ps : List Part) (h1 : ps.length ≤ 140737488355328) (h2 : (cat ps).length ≤ 140737488355328) : pcall E 17 [.rs g 1 (ps.map encP)] = some (.bool (decide (foldN (sumW (cat ps)) = 65535)), []) := by
  rw [pcall_go (fn := I17) rfl rfl rfl]
  have hk : E.keep 17 = false := rfl
  have h := fun g => s27 g ps h1 h2
  have e : decide (((foldN (sumW (cat ps)) : Nat) : Int) = 65535) = decide (foldN (sumW (cat ps)) = 65535) := decide_eq_decide.2 (by omega)
  simp (disch := first | omega | (simp only [List.length_cons, List.length_nil, List.length_append, List.length_map, List.length_set]; omega) | rfl | (simp only [List.length_cons, List.length_nil, List.length_append, List.length_map, List.length_set, List.length_replicate, List.all_cons, List.all_nil, List.all_append, storable, plainB, Bool.and_self]; done)) only [go_sem, reduceCtorEq, ↓reduceIte, Nat.reduceEqDiff, Nat.reduceAdd, Nat.reduceSub, Nat.reduceMul, Nat.reduceLeDiff, Nat.reduceLT, Nat.reduceBEq, Nat.reduceBNe, Int.reduceAdd, Int.reduceSub, Int.reduceMul, Int.reduceNeg, Int.reduceEq, Int.reduceNe, Int.reduceLT, Int.reduceLE, Int.reduceToNat, reduceDIte, Nat.reduceSucc, evI_callP, callPK_some, I17, hk, h, e]
end Go.Fw.Wd
