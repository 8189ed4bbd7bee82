/-
  Two bytes as a number, and a great total folded. Conditions: stated at each.
-/
import Derived.Test.YtmmfimpphhebfaaWdConc
set_option linter.unusedVariables false
set_option linter.unusedSimpArgs false
namespace Go.Fw.Wd
open Go.Proofs Code_

/-- Two bytes, or one and a nought, as a number. -/
def pairN : List UInt8 → Nat
  | [] => 0
  | [a] => a.toNat * 256
  | a :: b :: _ => a.toNat * 256 + b.toNat
theorem pairN_lt (l : List UInt8) : pairN l < 65536 := by
  match l with
  | [] => decide
  | [a] => have := a.toNat_lt; simp only [pairN]; omega
  | a :: b :: _ => have := a.toNat_lt; have := b.toNat_lt; simp only [pairN]; omega
/-- A great total as a number of 16 bits. -/
def foldN (n : Nat) : Nat := if n = 0 then 0 else (n - 1) % 65535 + 1
theorem foldN_lt (n : Nat) : foldN n < 65536 := by unfold foldN; split <;> omega
theorem foldN_small {n : Nat} (h : n ≤ 65535) : foldN n = n := by unfold foldN; split <;> omega

theorem or16 {a x : Int} (h0 : 0 ≤ a) (h1 : a < 256) (x0 : 0 ≤ x) (x1 : x < 256) : bitsI .or .u16 (a * 256) x = a * 256 + x := by
  show IntKind.u16.wrap ((BitVec.ofInt 16 (a * 256) ||| BitVec.ofInt 16 x).toNat : Int) = _
  have e1 : (BitVec.ofInt 16 (a * 256)).toNat = a.toNat <<< 8 := by
    rw [BitVec.toNat_ofInt, Nat.shiftLeft_eq]
    omega
  have e2 : (BitVec.ofInt 16 x).toNat = x.toNat := by
    rw [BitVec.toNat_ofInt]
    omega
  rw [BitVec.toNat_or, e1, e2, ← Nat.shiftLeft_add_eq_or_of_lt (by omega), Nat.shiftLeft_eq]
  rw [wu16 (by omega) (by omega)]
  omega
theorem shl16 {a : Int} (h0 : 0 ≤ a) (h1 : a < 256) : shiftI .shl .u16 a 8 = some (.int .u16 (a * 256)) := by
  have : ¬ (8 : Int) < 0 := by omega
  have e : IntKind.u16.wrap (a * 2 ^ (min (8 : Int).toNat IntKind.u16.bits)) = a * 256 := by
    show IntKind.u16.wrap (a * 256) = _
    exact wu16 (by omega) (by omega)
  simp only [shiftI, this, if_false, wrapI, e]

section
variable {E : Env}
theorem number_call (hp : E.prim 34 = none) (hf : E.fns 34 = some I34) (hk : E.keep 34 = false) (g : Bool) (l : List UInt8) (hl : l.length ≤ 2) : pcall E 34 [bs g l] = some (.int .u16 (pairN l : Nat), []) := by
  rw [pcall_go (fn := I34) hp hf rfl]
  match l, hl with
  | [], _ =>
    have e1 : shiftI .shl .u16 0 8 = some (.int .u16 0) := rfl
    have e2 : bitsI .or .u16 0 0 = 0 := rfl
    have e3 : cpR [.cells true [.int .u8 0, .int .u8 0] 87] [] 0 0 0 0 2 (some (.cells true [.int .u8 0, .int .u8 0] 87)) = some (.int .i64 0, [.cells true [.int .u8 0, .int .u8 0] 87]) := rfl
    simp (disch := first | omega | (simp only [List.length_cons, List.length_nil, List.length_append, List.length_map, List.length_set]; omega) | rfl | (simp only [List.length_cons, List.length_nil, List.length_append, List.length_map, List.length_set, List.length_replicate, List.all_cons, List.all_nil, List.all_append, storable, plainB, Bool.and_self]; done)) only [go_sem, reduceCtorEq, ↓reduceIte, Nat.reduceEqDiff, Nat.reduceAdd, Nat.reduceSub, Nat.reduceMul, Nat.reduceLeDiff, Nat.reduceLT, Nat.reduceBEq, Nat.reduceBNe, Int.reduceAdd, Int.reduceSub, Int.reduceMul, Int.reduceNeg, Int.reduceEq, Int.reduceNe, Int.reduceLT, Int.reduceLE, Int.reduceToNat, reduceDIte, Nat.reduceSucc, evI_callP, callPK_some, Fw.cellsIn, I34, hk, e1, e2, e3, by8_eq, pairN, Nat.zero_le, Int.le_refl]
  | [a], _ =>
    have ha := a.toNat_lt
    have e1 := shl16 (a := a.toNat) (by omega) (by omega)
    have e2 := or16 (a := a.toNat) (x := 0) (by omega) (by omega) (by omega) (by omega)
    simp only [go_sem, reduceCtorEq, ↓reduceIte, Nat.reduceEqDiff, Nat.reduceAdd, Nat.reduceSub, Nat.reduceMul, Nat.reduceLeDiff, Nat.reduceLT, Nat.reduceBEq, Nat.reduceBNe, Int.reduceAdd, Int.reduceSub, Int.reduceMul, Int.reduceNeg, Int.reduceEq, Int.reduceNe, Int.reduceLT, Int.reduceLE, Int.reduceToNat, reduceDIte, Nat.reduceSucc, evI_callP, callPK_some, Fw.cellsIn, I34, hk, e1, e2, by8_eq, wb16, pairN, Int.add_zero]
  | [a, b], _ =>
    have ha := a.toNat_lt
    have hb := b.toNat_lt
    have e1 := shl16 (a := a.toNat) (by omega) (by omega)
    have e2 := or16 (a := a.toNat) (x := b.toNat) (by omega) (by omega) (by omega) (by omega)
    simp only [go_sem, reduceCtorEq, ↓reduceIte, Nat.reduceEqDiff, Nat.reduceAdd, Nat.reduceSub, Nat.reduceMul, Nat.reduceLeDiff, Nat.reduceLT, Nat.reduceBEq, Nat.reduceBNe, Int.reduceAdd, Int.reduceSub, Int.reduceMul, Int.reduceNeg, Int.reduceEq, Int.reduceNe, Int.reduceLT, Int.reduceLE, Int.reduceToNat, reduceDIte, Nat.reduceSucc, evI_callP, callPK_some, Fw.cellsIn, I34, hk, e1, e2, by8_eq, wb16, pairN]

theorem and_full {n : Int} (h0 : 0 ≤ n) (h1 : n < 18446744073709551616) : bitsI .and .u64 n 65535 = n % 65536 := by
  show IntKind.u64.wrap ((BitVec.ofInt 64 n &&& BitVec.ofInt 64 65535).toNat : Int) = _
  have e1 : (BitVec.ofInt 64 n).toNat = n.toNat := by rw [BitVec.toNat_ofInt]; omega
  have e2 : (BitVec.ofInt 64 65535).toNat = 2 ^ 16 - 1 := rfl
  rw [BitVec.toNat_and, e1, e2, Nat.and_two_pow_sub_one_eq_mod, wu64 (by omega) (by omega)]
  omega
theorem shr_16 {n : Int} (h0 : 0 ≤ n) : shiftI .shr .u64 n 16 = some (.int .u64 (n / 65536)) := by
  have : ¬ (16 : Int) < 0 := by omega
  have e : n.fdiv (2 ^ (min (16 : Int).toNat IntKind.u64.bits)) = n / 65536 := by
    show n.fdiv 65536 = _
    rw [Int.fdiv_eq_ediv_of_nonneg _ (by omega)]
  simp only [shiftI, this, if_false, e]
theorem fold_step {n : Nat} (h : 65535 < n) : foldN (n % 65536 + n / 65536) = foldN n ∧ n % 65536 + n / 65536 < n := by
  refine ⟨?_, by omega⟩
  unfold foldN
  rw [if_neg (by omega), if_neg (by omega)]
  congr 1
  omega

theorem fold_loop : ∀ (n : Nat), n < 18446744073709551616 → ev E L35_0 ⟨[(0, .int .u64 (n : Nat))], []⟩ = some (.exit 0, ⟨[(4, .bool false), (3, .int .u64 (foldN n : Nat)), (0, .int .u64 (foldN n : Nat))], []⟩) := by
  intro n
  induction n using Nat.strongRecOn with
  | _ n ih =>
    intro hn
    rw [L35_0_eq]
    by_cases h : 65535 < n
    · obtain ⟨h1, h2⟩ := fold_step h
      have h3 : (65535 : Int) < n := by omega
      have ih' := ih (n % 65536 + n / 65536) h2 (by omega)
      have e1 := and_full (n := n) (by omega) (by omega)
      have e2 := shr_16 (n := n) (by omega)
      have e3 : ((n % 65536 + n / 65536 : Nat) : Int) = (n : Int) % 65536 + (n : Int) / 65536 := by omega
      rw [e3, h1] at ih'
      have e4 : IntKind.u64.wrap ((n : Int) % 65536 + (n : Int) / 65536) = (n : Int) % 65536 + (n : Int) / 65536 := wu64 (by omega) (by omega)
      rw [L35_0_eq] at ih'
      simp only [go_sem, reduceCtorEq, ↓reduceIte, Nat.reduceEqDiff, Nat.reduceAdd, Nat.reduceSub, Nat.reduceMul, Nat.reduceLeDiff, Nat.reduceLT, Nat.reduceBEq, Nat.reduceBNe, Int.reduceAdd, Int.reduceSub, Int.reduceMul, Int.reduceNeg, Int.reduceEq, Int.reduceNe, Int.reduceLT, Int.reduceLE, Int.reduceToNat, reduceDIte, Nat.reduceSucc, evI_callP, callPK_some] at ih'
      simp only [go_sem, reduceCtorEq, ↓reduceIte, Nat.reduceEqDiff, Nat.reduceAdd, Nat.reduceSub, Nat.reduceMul, Nat.reduceLeDiff, Nat.reduceLT, Nat.reduceBEq, Nat.reduceBNe, Int.reduceAdd, Int.reduceSub, Int.reduceMul, Int.reduceNeg, Int.reduceEq, Int.reduceNe, Int.reduceLT, Int.reduceLE, Int.reduceToNat, reduceDIte, Nat.reduceSucc, evI_callP, callPK_some, B35_0, h3, e1, e2, e4]
      rw [L35_0_eq]
      simp only [go_sem, reduceCtorEq, ↓reduceIte, Nat.reduceEqDiff, Nat.reduceAdd, Nat.reduceSub, Nat.reduceMul, Nat.reduceLeDiff, Nat.reduceLT, Nat.reduceBEq, Nat.reduceBNe, Int.reduceAdd, Int.reduceSub, Int.reduceMul, Int.reduceNeg, Int.reduceEq, Int.reduceNe, Int.reduceLT, Int.reduceLE, Int.reduceToNat, reduceDIte, Nat.reduceSucc, evI_callP, callPK_some]
      simp only [B35_0] at ih'
      simp only [B35_0]
      exact ih'
    · have h3 : ¬ (65535 : Int) < n := by omega
      rw [foldN_small (by omega)]
      simp only [go_sem, reduceCtorEq, ↓reduceIte, Nat.reduceEqDiff, Nat.reduceAdd, Nat.reduceSub, Nat.reduceMul, Nat.reduceLeDiff, Nat.reduceLT, Nat.reduceBEq, Nat.reduceBNe, Int.reduceAdd, Int.reduceSub, Int.reduceMul, Int.reduceNeg, Int.reduceEq, Int.reduceNe, Int.reduceLT, Int.reduceLE, Int.reduceToNat, reduceDIte, Nat.reduceSucc, evI_callP, callPK_some, B35_0, h3]

theorem fold_call (hp : E.prim 35 = none) (hf : E.fns 35 = some I35) (hk : E.keep 35 = false) (n : Nat) (hn : n < 18446744073709551616) : pcall E 35 [.int .u64 n] = some (.int .u16 (foldN n : Nat), []) := by
  rw [pcall_go (fn := I35) hp hf rfl]
  have h := fold_loop (E := E) n hn
  have hl := foldN_lt n
  simp (disch := first | omega | (simp only [List.length_cons, List.length_nil, List.length_append, List.length_map, List.length_set]; omega) | rfl | (simp only [List.length_cons, List.length_nil, List.length_append, List.length_map, List.length_set, List.length_replicate, List.all_cons, List.all_nil, List.all_append, storable, plainB, Bool.and_self]; done)) only [go_sem, reduceCtorEq, ↓reduceIte, Nat.reduceEqDiff, Nat.reduceAdd, Nat.reduceSub, Nat.reduceMul, Nat.reduceLeDiff, Nat.reduceLT, Nat.reduceBEq, Nat.reduceBNe, Int.reduceAdd, Int.reduceSub, Int.reduceMul, Int.reduceNeg, Int.reduceEq, Int.reduceNe, Int.reduceLT, Int.reduceLE, Int.reduceToNat, reduceDIte, Nat.reduceSucc, evI_callP, callPK_some, I35, hk, h]
end
end Go.Fw.Wd
