/-
  What small functions on bytes and numbers answer. Conditions: stated at each.
-/
import Derived.Test.YtkekjbpalkoeeaaWdWrite
import Derived.Test.YtkekjbpalkoeeaaWdConc
set_option linter.unusedVariables false
set_option linter.unusedSimpArgs false
namespace Go.Fw.Wd
open Go.Proofs Code_

theorem s93 (g : Bool) (ps : List Part) (h1 : ps.length ≤ 140737488355328) (h2 : (cat ps).length ≤ 140737488355328) : pcall E 93 [.rs g 1 (ps.map encP)] = some (bs false (cat ps), []) := concat_call rfl rfl rfl g ps h1 h2
theorem num4 (a b c d : UInt8) : num [a, b, c, d] = a.toNat * 16777216 + b.toNat * 65536 + c.toNat * 256 + d.toNat := by simp [num]; omega
theorem num2 (a b : UInt8) : num [a, b] = a.toNat * 256 + b.toNat := by simp [num]
theorem take4 (b : List UInt8) (h : 4 ≤ b.length) : b.take 4 = [nth b 0, nth b 1, nth b 2, nth b 3] := by
  match b, h with
  | a :: b :: c :: d :: r, _ => rfl
theorem take2 (b : List UInt8) (h : 2 ≤ b.length) : b.take 2 = [nth b 0, nth b 1] := by
  match b, h with
  | a :: b :: r, _ => rfl
theorem nth_drop (b : List UInt8) (i j : Nat) (h : i + j < b.length) : nth (b.drop i) j = nth b (i + j) := by
  rw [nth_get _ _ (by rw [List.length_drop]; omega), nth_get _ _ h, List.getElem_drop]
theorem s91 (g : Bool) (b : List UInt8) (h : 4 ≤ b.length) : pcall E 91 [bs g b] = some (.int .u32 (num (b.take 4) : Nat), []) := by
  rw [pcall_go (fn := I91) rfl rfl rfl]
  have hk : E.keep 91 = false := rfl
  have e : ((num (b.take 4) : Nat) : Int) = ((nth b 0).toNat : Int) * 16777216 + ((nth b 1).toNat : Int) * 65536 + ((nth b 2).toNat : Int) * 256 + ((nth b 3).toNat : Int) := by
    rw [take4 b h, num4]
    omega
  have l0 := (nth b 0).toNat_lt
  have l1 := (nth b 1).toNat_lt
  have l2 := (nth b 2).toNat_lt
  have l3 := (nth b 3).toNat_lt
  rw [e]
  simp (disch := first | omega | (simp only [List.length_cons, List.length_nil, List.length_append, List.length_map, List.length_set]; omega) | rfl | (simp only [List.length_cons, List.length_nil, List.length_append, List.length_map, List.length_set, List.length_replicate, List.all_cons, List.all_nil, List.all_append, storable, plainB, Bool.and_self]; done)) only [go_sem, reduceCtorEq, ↓reduceIte, Nat.reduceEqDiff, Nat.reduceAdd, Nat.reduceSub, Nat.reduceMul, Nat.reduceLeDiff, Nat.reduceLT, Nat.reduceBEq, Nat.reduceBNe, Int.reduceAdd, Int.reduceSub, Int.reduceMul, Int.reduceNeg, Int.reduceEq, Int.reduceNe, Int.reduceLT, Int.reduceLE, Int.reduceToNat, reduceDIte, Nat.reduceSucc, evI_callP, callPK_some, I91, hk, wb32]
theorem s92 (g : Bool) (b : List UInt8) (h : 2 ≤ b.length) : pcall E 92 [bs g b] = some (.int .i64 (num (b.take 2) : Nat), []) := by
  rw [pcall_go (fn := I92) rfl rfl rfl]
  have hk : E.keep 92 = false := rfl
  have e : ((num (b.take 2) : Nat) : Int) = ((nth b 0).toNat : Int) * 256 + ((nth b 1).toNat : Int) := by
    rw [take2 b h, num2]
    omega
  have l0 := (nth b 0).toNat_lt
  have l1 := (nth b 1).toNat_lt
  rw [e]
  simp (disch := first | omega | (simp only [List.length_cons, List.length_nil, List.length_append, List.length_map, List.length_set]; omega) | rfl | (simp only [List.length_cons, List.length_nil, List.length_append, List.length_map, List.length_set, List.length_replicate, List.all_cons, List.all_nil, List.all_append, storable, plainB, Bool.and_self]; done)) only [go_sem, reduceCtorEq, ↓reduceIte, Nat.reduceEqDiff, Nat.reduceAdd, Nat.reduceSub, Nat.reduceMul, Nat.reduceLeDiff, Nat.reduceLT, Nat.reduceBEq, Nat.reduceBNe, Int.reduceAdd, Int.reduceSub, Int.reduceMul, Int.reduceNeg, Int.reduceEq, Int.reduceNe, Int.reduceLT, Int.reduceLE, Int.reduceToNat, reduceDIte, Nat.reduceSucc, evI_callP, callPK_some, I92, hk, wbi]
theorem two_eq (n : Nat) : encb 2 n = [UInt8.ofNat (n / 256), UInt8.ofNat n] := by simp [encb]
theorem qi64 (n k : Nat) (hn : n ≤ 9223372036854775807) : IntKind.i64.wrap (Int.tdiv (n : Int) (k : Int)) = ((n / k : Nat) : Int) := by
  have h1 : Int.tdiv (n : Int) (k : Int) = ((n / k : Nat) : Int) := by rw [Int.tdiv_eq_ediv_of_nonneg (by omega), Int.natCast_ediv]
  have h2 : n / k ≤ n := Nat.div_le_self n k
  rw [h1]
  generalize n / k = q at *
  rw [w64 (by omega) (by omega)]
theorem s94 (n : Nat) (hn : n ≤ 9223372036854775807) : pcall E 94 [.int .i64 (n : Int)] = some (bs false (encb 2 n), []) := by
  rw [pcall_go (fn := I94) rfl rfl rfl, two_eq n]
  have hk : E.keep 94 = false := rfl
  have e3 := qi64 n 256 hn
  have e5 := rm (n / 256) 256
  have e6 := rm n 256
  have w3 := wrapU8 (n / 256 % 256)
  have w4 := wrapU8 (n % 256)
  rw [wrapU8_mod] at w3 w4
  simp only [Int.cast_ofNat_Int] at e3 e5 e6
  generalize n / 256 = c at *
  simp (disch := first | omega | (simp only [List.length_cons, List.length_nil, List.length_append, List.length_map, List.length_set]; omega) | rfl | (simp only [List.length_cons, List.length_nil, List.length_append, List.length_map, List.length_set, List.length_replicate, List.all_cons, List.all_nil, List.all_append, storable, plainB, Bool.and_self]; done)) only [go_sem, reduceCtorEq, ↓reduceIte, Nat.reduceEqDiff, Nat.reduceAdd, Nat.reduceSub, Nat.reduceMul, Nat.reduceLeDiff, Nat.reduceLT, Nat.reduceBEq, Nat.reduceBNe, Int.reduceAdd, Int.reduceSub, Int.reduceMul, Int.reduceNeg, Int.reduceEq, Int.reduceNe, Int.reduceLT, Int.reduceLE, Int.reduceToNat, reduceDIte, Nat.reduceSucc, evI_callP, callPK_some, I94, hk, e3, e5, e6, w3, w4, by8_eq]
theorem s88 (n : UInt8) : pcall E 88 [.int .u8 (n.toNat : Int)] = some (.bool (decide (n = 1 ∨ n = 2)), []) := by
  rw [pcall_go (fn := I88) rfl rfl rfl]
  have hk : E.keep 88 = false := rfl
  have e1 : ((n.toNat : Int) = 1) ↔ n = 1 := by
    rw [← UInt8.toNat_inj]
    show _ ↔ n.toNat = 1
    omega
  have e2 : ((n.toNat : Int) = 2) ↔ n = 2 := by
    rw [← UInt8.toNat_inj]
    show _ ↔ n.toNat = 2
    omega
  by_cases h1 : n = 1
  · have h1' := e1.2 h1
    have e : decide (n = 1 ∨ n = 2) = true := by simp [h1]
    simp (disch := first | omega | (simp only [List.length_cons, List.length_nil, List.length_append, List.length_map, List.length_set]; omega) | rfl | (simp only [List.length_cons, List.length_nil, List.length_append, List.length_map, List.length_set, List.length_replicate, List.all_cons, List.all_nil, List.all_append, storable, plainB, Bool.and_self]; done)) only [go_sem, reduceCtorEq, ↓reduceIte, Nat.reduceEqDiff, Nat.reduceAdd, Nat.reduceSub, Nat.reduceMul, Nat.reduceLeDiff, Nat.reduceLT, Nat.reduceBEq, Nat.reduceBNe, Int.reduceAdd, Int.reduceSub, Int.reduceMul, Int.reduceNeg, Int.reduceEq, Int.reduceNe, Int.reduceLT, Int.reduceLE, Int.reduceToNat, reduceDIte, Nat.reduceSucc, evI_callP, callPK_some, I88, hk, h1', e]
  · have h1' : ¬ (n.toNat : Int) = 1 := fun h => h1 (e1.1 h)
    have e : decide (n = 1 ∨ n = 2) = decide ((n.toNat : Int) = 2) := by simp [h1, e2]
    simp (disch := first | omega | (simp only [List.length_cons, List.length_nil, List.length_append, List.length_map, List.length_set]; omega) | rfl | (simp only [List.length_cons, List.length_nil, List.length_append, List.length_map, List.length_set, List.length_replicate, List.all_cons, List.all_nil, List.all_append, storable, plainB, Bool.and_self]; done)) only [go_sem, reduceCtorEq, ↓reduceIte, Nat.reduceEqDiff, Nat.reduceAdd, Nat.reduceSub, Nat.reduceMul, Nat.reduceLeDiff, Nat.reduceLT, Nat.reduceBEq, Nat.reduceBNe, Int.reduceAdd, Int.reduceSub, Int.reduceMul, Int.reduceNeg, Int.reduceEq, Int.reduceNe, Int.reduceLT, Int.reduceLE, Int.reduceToNat, reduceDIte, Nat.reduceSucc, evI_callP, callPK_some, I88, hk, h1', e]
theorem s89 (g g' : Bool) (a p : List UInt8) : pcall E 89 [bs g a, bs g' p] = some (.bool (decide (p.length ≤ a.length ∧ a.take p.length = p)), []) := by
  rw [pcall_go (fn := I89) rfl rfl rfl]
  have hk : E.keep 89 = false := rfl
  by_cases h : p.length ≤ a.length
  · have h' : (p.length : Int) ≤ a.length := by omega
    have q := fun g g' => s85 g g' (a.take p.length) p
    have e : decide (p.length ≤ a.length ∧ a.take p.length = p) = decide (a.take p.length = p) := by simp [h]
    simp (disch := first | omega | (simp only [List.length_cons, List.length_nil, List.length_append, List.length_map, List.length_set]; omega) | rfl | (simp only [List.length_cons, List.length_nil, List.length_append, List.length_map, List.length_set, List.length_replicate, List.all_cons, List.all_nil, List.all_append, storable, plainB, Bool.and_self]; done)) only [go_sem, reduceCtorEq, ↓reduceIte, Nat.reduceEqDiff, Nat.reduceAdd, Nat.reduceSub, Nat.reduceMul, Nat.reduceLeDiff, Nat.reduceLT, Nat.reduceBEq, Nat.reduceBNe, Int.reduceAdd, Int.reduceSub, Int.reduceMul, Int.reduceNeg, Int.reduceEq, Int.reduceNe, Int.reduceLT, Int.reduceLE, Int.reduceToNat, reduceDIte, Nat.reduceSucc, evI_callP, callPK_some, I89, hk, h', q, e]
  · have h' : ¬ (p.length : Int) ≤ a.length := by omega
    have e : decide (p.length ≤ a.length ∧ a.take p.length = p) = false := by simp [h]
    simp (disch := first | omega | (simp only [List.length_cons, List.length_nil, List.length_append, List.length_map, List.length_set]; omega) | rfl | (simp only [List.length_cons, List.length_nil, List.length_append, List.length_map, List.length_set, List.length_replicate, List.all_cons, List.all_nil, List.all_append, storable, plainB, Bool.and_self]; done)) only [go_sem, reduceCtorEq, ↓reduceIte, Nat.reduceEqDiff, Nat.reduceAdd, Nat.reduceSub, Nat.reduceMul, Nat.reduceLeDiff, Nat.reduceLT, Nat.reduceBEq, Nat.reduceBNe, Int.reduceAdd, Int.reduceSub, Int.reduceMul, Int.reduceNeg, Int.reduceEq, Int.reduceNe, Int.reduceLT, Int.reduceLE, Int.reduceToNat, reduceDIte, Nat.reduceSucc, evI_callP, callPK_some, I89, hk, h', e]
theorem at_ok {b : List UInt8} {i k : Nat} (h1 : 1 ≤ k) (h8 : k ≤ 8) (h : i + k ≤ b.length) : atE b i k = 0 ∧ atN b i k = num ((b.drop i).take k) := by
  have e : spanE b.length i k = 0 := by
    simp only [spanE]
    rw [if_neg (by omega), if_neg (by omega), if_neg (by omega)]
  constructor
  · simp only [atE]
    rw [if_pos (by omega), e]
  · simp only [atN]
    rw [if_pos ⟨by omega, e⟩]
    simp
theorem s90 (g : Bool) (b : List UInt8) (hb : b.length ≤ 140737488355328) (i : Nat) (h : i + 4 ≤ b.length) : pcall E 90 [bs g b, .int .i64 (i : Int)] = some (.int .u32 (num ((b.drop i).take 4) : Nat), []) := by
  rw [pcall_go (fn := I90) rfl rfl rfl]
  have hk : E.keep 90 = false := rfl
  have q := fun g => s82 g b hb (i : Int) 4 (by constructor <;> omega)
  obtain ⟨e1, e2⟩ := at_ok (b := b) (i := i) (k := 4) (by omega) (by omega) h
  simp only [Int.cast_ofNat_Int] at e1 e2
  rw [e1, e2] at q
  have hn := num_lt_of (l := (b.drop i).take 4) (n := 4) (by rw [List.length_take]; omega)
  generalize num ((b.drop i).take 4) = n at *
  simp (disch := first | omega | (simp only [List.length_cons, List.length_nil, List.length_append, List.length_map, List.length_set]; omega) | rfl | (simp only [List.length_cons, List.length_nil, List.length_append, List.length_map, List.length_set, List.length_replicate, List.all_cons, List.all_nil, List.all_append, storable, plainB, Bool.and_self]; done)) only [go_sem, reduceCtorEq, ↓reduceIte, Nat.reduceEqDiff, Nat.reduceAdd, Nat.reduceSub, Nat.reduceMul, Nat.reduceLeDiff, Nat.reduceLT, Nat.reduceBEq, Nat.reduceBNe, Int.reduceAdd, Int.reduceSub, Int.reduceMul, Int.reduceNeg, Int.reduceEq, Int.reduceNe, Int.reduceLT, Int.reduceLE, Int.reduceToNat, reduceDIte, Nat.reduceSucc, evI_callP, callPK_some, I90, hk, q]
end Go.Fw.Wd
