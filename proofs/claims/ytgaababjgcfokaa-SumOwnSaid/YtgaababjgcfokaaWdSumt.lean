/-
  What the functions on sums answer that go through rows. Conditions: stated at each.
-/
import Derived.Test.YtgaababjgcfokaaWdSums
set_option linter.unusedVariables false
set_option linter.unusedSimpArgs false
namespace Go.Fw.Wd
open Go.Proofs Code_

theorem s23 (g : Bool) (l : List UInt8) (hl : l.length ≤ 140737488355328) : pcall E 23 [bs g l] = some (.int .u16 (foldN (sumW l) : Nat), []) := by
  rw [pcall_go (fn := I23) rfl rfl rfl]
  have hk : E.keep 23 = false := rfl
  have hrun := loop_from (E := E) L23_0_eq ((l.length + 1) / 2) (fun i => ⟨[(0, bs g l), (3, .int .u16 (foldN (accN l (List.range i)) : Nat)), (4, .int .i64 ((2 * i : Nat) : Int))], []⟩) rfl (fun i hi => by
    have g1 : (2 : Int) * i < l.length := by omega
    have h1 := (nth l (2 * i)).toNat_lt
    have h2 := (nth l (2 * i + 1)).toNat_lt
    have hA := s19 (foldN (accN l (List.range i))) (pw l i) (foldN_lt _) (pw_lt _ _)
    rw [foldN_add, ← accN_pw] at hA
    have e0 : (2 * (i : Int)).toNat = 2 * i := by omega
    have e1 : (2 * (i : Int) + 1).toNat = 2 * i + 1 := by omega
    have e2 : (2 : Int) * (i : Int) + 2 = 2 * (i + 1) := by omega
    have m1 : ((nth l (2 * i)).toNat : Int) * 256 < 65536 := by omega
    by_cases h : (2 : Int) * i + 1 < l.length
    · rw [pw_two l i (by omega)] at hA
      simp only [Int.natCast_add, Int.natCast_mul, Int.cast_ofNat_Int] at hA
      simp (disch := first | omega | (simp only [List.length_cons, List.length_nil, List.length_append, List.length_map, List.length_set]; omega) | rfl) only [go_sem, reduceCtorEq, ↓reduceIte, Nat.reduceEqDiff, Nat.reduceAdd, Nat.reduceSub, Nat.reduceMul, Nat.reduceLeDiff, Nat.reduceLT, Nat.reduceBEq, Nat.reduceBNe, Int.reduceAdd, Int.reduceSub, Int.reduceMul, Int.reduceNeg, Int.reduceEq, Int.reduceNe, Int.reduceLT, Int.reduceLE, Int.reduceToNat, reduceDIte, Nat.reduceSucc, iaddr_by8, B23_0, g1, h, wbi, e0, e1, e2, hA]
    · rw [pw_one l i (by omega)] at hA
      simp only [Int.natCast_mul, Int.cast_ofNat_Int] at hA
      simp (disch := first | omega | (simp only [List.length_cons, List.length_nil, List.length_append, List.length_map, List.length_set]; omega) | rfl) only [go_sem, reduceCtorEq, ↓reduceIte, Nat.reduceEqDiff, Nat.reduceAdd, Nat.reduceSub, Nat.reduceMul, Nat.reduceLeDiff, Nat.reduceLT, Nat.reduceBEq, Nat.reduceBNe, Int.reduceAdd, Int.reduceSub, Int.reduceMul, Int.reduceNeg, Int.reduceEq, Int.reduceNe, Int.reduceLT, Int.reduceLE, Int.reduceToNat, reduceDIte, Nat.reduceSucc, iaddr_by8, B23_0, g1, h, wbi, e0, e1, e2, hA])
  rw [accN_all] at hrun
  have e0 : ((foldN (accN l (List.range 0)) : Nat) : Int) = 0 := rfl
  have ek : ¬ (2 : Int) * (((l.length + 1) / 2 : Nat) : Int) < l.length := by omega
  simp only [e0] at hrun
  simp only [go_sem, reduceCtorEq, ↓reduceIte, Nat.reduceEqDiff, Nat.reduceAdd, Nat.reduceSub, Nat.reduceMul, Nat.reduceLeDiff, Nat.reduceLT, Nat.reduceBEq, Nat.reduceBNe, Int.reduceAdd, Int.reduceSub, Int.reduceMul, Int.reduceNeg, Int.reduceEq, Int.reduceNe, Int.reduceLT, Int.reduceLE, Int.reduceToNat, reduceDIte, Nat.reduceSucc] at hrun
  generalize (l.length + 1) / 2 = n at hrun ek
  simp (disch := first | omega | (simp only [List.length_cons, List.length_nil, List.length_append, List.length_map, List.length_set]; omega) | rfl) only [go_sem, reduceCtorEq, ↓reduceIte, Nat.reduceEqDiff, Nat.reduceAdd, Nat.reduceSub, Nat.reduceMul, Nat.reduceLeDiff, Nat.reduceLT, Nat.reduceBEq, Nat.reduceBNe, Int.reduceAdd, Int.reduceSub, Int.reduceMul, Int.reduceNeg, Int.reduceEq, Int.reduceNe, Int.reduceLT, Int.reduceLE, Int.reduceToNat, reduceDIte, Nat.reduceSucc, I23, hk, hrun, B23_0, ek]
theorem s25 (g : Bool) (l : List UInt8) (hl : l.length ≤ 140737488355328) : pcall E 25 [bs g l] = some (.int .u16 (65535 - foldN (sumW l) : Nat), []) := by
  rw [pcall_go (fn := I25) rfl rfl rfl]
  have hk : E.keep 25 = false := rfl
  have h := fun g => s23 g l hl
  have hf := foldN_le (sumW l)
  generalize foldN (sumW l) = f at h hf
  have e2 : ((65535 - f : Nat) : Int) = 65535 - (f : Int) := by omega
  rw [e2]
  simp (disch := first | omega | (simp only [List.length_cons, List.length_nil, List.length_append, List.length_map, List.length_set]; omega) | rfl) only [go_sem, reduceCtorEq, ↓reduceIte, Nat.reduceEqDiff, Nat.reduceAdd, Nat.reduceSub, Nat.reduceMul, Nat.reduceLeDiff, Nat.reduceLT, Nat.reduceBEq, Nat.reduceBNe, Int.reduceAdd, Int.reduceSub, Int.reduceMul, Int.reduceNeg, Int.reduceEq, Int.reduceNe, Int.reduceLT, Int.reduceLE, Int.reduceToNat, reduceDIte, Nat.reduceSucc, I25, hk, h]

def zeroB (l : List UInt8) : Bool := l.all (· = 0)
theorem zeroB_sum {l : List UInt8} (h : zeroB l = false) : 0 < sumW l := by
  rcases Nat.eq_zero_or_pos (sumW l) with h0 | h0
  · have := sumW_zero l h0
    have h1 : zeroB l = true := List.all_eq_true.2 fun b hb => by simp [this b hb]
    rw [h] at h1
    cases h1
  · exact h0
theorem zero_neq (b : UInt8) : ((b.toNat : Int) = 0) ↔ b = 0 := by rw [← UInt8.toNat_inj]; exact ⟨fun h => by simpa using h, fun h => by simpa using h⟩
theorem s28 (g : Bool) (l : List UInt8) (hl : l.length ≤ 140737488355328) : pcall E 28 [bs g l] = some (.bool (zeroB l), []) := by
  rw [pcall_go (fn := I28) rfl rfl rfl]
  have hk : E.keep 28 = false := rfl
  have hrun : ∀ n, n ≤ l.length → (∀ i, i < n → nth l i = 0) → _ := fun n hn hs =>
    loop_from (E := E) L28_0_eq n (fun i => ⟨[(0, bs g l), (3, .int .i64 i)], []⟩) rfl (fun i hi => by
      have h1 : (i : Int) < l.length := by omega
      have h2 : (((nth l i).toNat : Nat) : Int) = 0 := (zero_neq _).2 (hs i hi)
      simp (disch := first | omega | (simp only [List.length_cons, List.length_nil, List.length_append, List.length_map, List.length_set]; omega) | rfl) only [go_sem, reduceCtorEq, ↓reduceIte, Nat.reduceEqDiff, Nat.reduceAdd, Nat.reduceSub, Nat.reduceMul, Nat.reduceLeDiff, Nat.reduceLT, Nat.reduceBEq, Nat.reduceBNe, Int.reduceAdd, Int.reduceSub, Int.reduceMul, Int.reduceNeg, Int.reduceEq, Int.reduceNe, Int.reduceLT, Int.reduceLE, Int.reduceToNat, reduceDIte, Nat.reduceSucc, iaddr_by8, B28_0, h1, h2])
  rcases first_stop (fun i => decide (nth l i = 0)) l.length with h | ⟨n, hn, h1, h2⟩
  · have he : zeroB l = true := by
      refine List.all_eq_true.2 fun b hb => ?_
      obtain ⟨i, hi, rfl⟩ := List.getElem_of_mem hb
      have := h i hi
      rwa [nth_get l i hi] at this
    have h0 := hrun l.length (Nat.le_refl _) fun i hi => by simpa using h i hi
    simp only [go_sem, reduceCtorEq, ↓reduceIte, Nat.reduceEqDiff, Nat.reduceAdd, Nat.reduceSub, Nat.reduceMul, Nat.reduceLeDiff, Nat.reduceLT, Nat.reduceBEq, Nat.reduceBNe, Int.reduceAdd, Int.reduceSub, Int.reduceMul, Int.reduceNeg, Int.reduceEq, Int.reduceNe, Int.reduceLT, Int.reduceLE, Int.reduceToNat, reduceDIte, Nat.reduceSucc] at h0
    simp (disch := first | omega | (simp only [List.length_cons, List.length_nil, List.length_append, List.length_map, List.length_set]; omega) | rfl) only [go_sem, reduceCtorEq, ↓reduceIte, Nat.reduceEqDiff, Nat.reduceAdd, Nat.reduceSub, Nat.reduceMul, Nat.reduceLeDiff, Nat.reduceLT, Nat.reduceBEq, Nat.reduceBNe, Int.reduceAdd, Int.reduceSub, Int.reduceMul, Int.reduceNeg, Int.reduceEq, Int.reduceNe, Int.reduceLT, Int.reduceLE, Int.reduceToNat, reduceDIte, Nat.reduceSucc, I28, hk, h0, B28_0, he, Int.lt_irrefl]
  · have h3 : ¬ nth l n = 0 := by simpa using h2
    have hne : zeroB l = false := by
      rw [nth_get l n hn] at h3
      exact Bool.eq_false_iff.2 fun h => h3 (by simpa using List.all_eq_true.1 h l[n] (List.getElem_mem hn))
    have h0 := hrun n (by omega) fun i hi => by simpa using h1 i hi
    simp only [go_sem, reduceCtorEq, ↓reduceIte, Nat.reduceEqDiff, Nat.reduceAdd, Nat.reduceSub, Nat.reduceMul, Nat.reduceLeDiff, Nat.reduceLT, Nat.reduceBEq, Nat.reduceBNe, Int.reduceAdd, Int.reduceSub, Int.reduceMul, Int.reduceNeg, Int.reduceEq, Int.reduceNe, Int.reduceLT, Int.reduceLE, Int.reduceToNat, reduceDIte, Nat.reduceSucc] at h0
    have h4 : (n : Int) < l.length := by omega
    have h5 : ¬ (((nth l n).toNat : Nat) : Int) = 0 := fun h => h3 ((zero_neq _).1 h)
    simp (disch := first | omega | (simp only [List.length_cons, List.length_nil, List.length_append, List.length_map, List.length_set]; omega) | rfl) only [go_sem, reduceCtorEq, ↓reduceIte, Nat.reduceEqDiff, Nat.reduceAdd, Nat.reduceSub, Nat.reduceMul, Nat.reduceLeDiff, Nat.reduceLT, Nat.reduceBEq, Nat.reduceBNe, Int.reduceAdd, Int.reduceSub, Int.reduceMul, Int.reduceNeg, Int.reduceEq, Int.reduceNe, Int.reduceLT, Int.reduceLE, Int.reduceToNat, reduceDIte, Nat.reduceSucc, I28, hk, iaddr_by8, h0, B28_0, hne, h4, h5]

theorem s15 (g : Bool) (ps : List Part) (h1 : ps.length ≤ 140737488355328) (h2 : (cat ps).length ≤ 140737488355328) : pcall E 15 [.rs g 1 (ps.map encP)] = some (kone (E.keep 15) 5 (cat ps)) := by
  rw [pcall_go (fn := I15) rfl rfl rfl]
  generalize E.keep 15 = kk
  have hrun := loop_from (E := E) L15_0_eq ps.length (fun i => ⟨[(0, .rs g 1 (ps.map encP)), (3, .sl 1 0 i 0 (cat (ps.take i)).length), (4, .int .i64 i)], [.row i 1 ((cat (ps.take i)).map by8) 5]⟩) rfl (fun i hi => by
    have g1 : (i : Int) < ps.length := by omega
    have e1 := cat_take_succ ps i hi
    have e2 := cat_take_le ps (i + 1)
    rw [← e1] at e2
    rw [← e1]
    simp only [List.length_append] at e2
    simp (disch := first | omega | (simp only [List.length_cons, List.length_nil, List.length_append, List.length_map, List.length_set]; omega) | rfl) only [go_sem, reduceCtorEq, ↓reduceIte, Nat.reduceEqDiff, Nat.reduceAdd, Nat.reduceSub, Nat.reduceMul, Nat.reduceLeDiff, Nat.reduceLT, Nat.reduceBEq, Nat.reduceBNe, Int.reduceAdd, Int.reduceSub, Int.reduceMul, Int.reduceNeg, Int.reduceEq, Int.reduceNe, Int.reduceLT, Int.reduceLE, Int.reduceToNat, reduceDIte, Nat.reduceSucc, B15_0, g1, iaddr_map encP, encP_eq])
  have e0 : cat (ps.take 0) = [] := rfl
  simp only [e0, List.take_length] at hrun
  simp only [go_sem, reduceCtorEq, ↓reduceIte, Nat.reduceEqDiff, Nat.reduceAdd, Nat.reduceSub, Nat.reduceMul, Nat.reduceLeDiff, Nat.reduceLT, Nat.reduceBEq, Nat.reduceBNe, Int.reduceAdd, Int.reduceSub, Int.reduceMul, Int.reduceNeg, Int.reduceEq, Int.reduceNe, Int.reduceLT, Int.reduceLE, Int.reduceToNat, reduceDIte, Nat.reduceSucc] at hrun
  cases kk <;> simp (disch := first | omega | (simp only [List.length_cons, List.length_nil, List.length_append, List.length_map, List.length_set]; omega) | rfl) only [go_sem, reduceCtorEq, ↓reduceIte, Nat.reduceEqDiff, Nat.reduceAdd, Nat.reduceSub, Nat.reduceMul, Nat.reduceLeDiff, Nat.reduceLT, Nat.reduceBEq, Nat.reduceBNe, Int.reduceAdd, Int.reduceSub, Int.reduceMul, Int.reduceNeg, Int.reduceEq, Int.reduceNe, Int.reduceLT, Int.reduceLE, Int.reduceToNat, reduceDIte, Nat.reduceSucc, I15, B15_0, hrun, Int.lt_irrefl, kone_f, kone_t]

/-- Is there more of parts than may be? -/
def longB (ps : List Part) (n : Int) : Bool := decide (n < ps.length) || decide (n < (cat ps).length)
theorem s14 (g : Bool) (ps : List Part) (n : Int) (h1 : ps.length ≤ 140737488355328) (hn : n ≤ 140737488355328) (hp : ∀ p ∈ ps, p.2.length ≤ 140737488355328) : pcall E 14 [.rs g 1 (ps.map encP), .int .i64 n] = some (.bool (longB ps n), []) := by
  rw [pcall_go (fn := I14) rfl rfl rfl]
  have hk : E.keep 14 = false := rfl
  by_cases a : n < (ps.length : Int)
  · have e : longB ps n = true := by simp [longB, a]
    simp (disch := first | omega | (simp only [List.length_cons, List.length_nil, List.length_append, List.length_map, List.length_set]; omega) | rfl) only [go_sem, reduceCtorEq, ↓reduceIte, Nat.reduceEqDiff, Nat.reduceAdd, Nat.reduceSub, Nat.reduceMul, Nat.reduceLeDiff, Nat.reduceLT, Nat.reduceBEq, Nat.reduceBNe, Int.reduceAdd, Int.reduceSub, Int.reduceMul, Int.reduceNeg, Int.reduceEq, Int.reduceNe, Int.reduceLT, Int.reduceLE, Int.reduceToNat, reduceDIte, Nat.reduceSucc, I14, hk, a, e]
  have hrun : ∀ k, k ≤ ps.length → (∀ i, i < k → ((cat (ps.take (i + 1))).length : Int) ≤ n) → _ := fun k hk' hs =>
    loop_from (E := E) L14_0_eq k (fun i => ⟨[(0, .rs g 1 (ps.map encP)), (1, .int .i64 n), (5, .int .i64 ((cat (ps.take i)).length : Nat)), (6, .int .i64 i)], []⟩) rfl (fun i hi => by
      have g1 : (i : Int) < ps.length := by omega
      have e1 := cat_take_succ ps i (by omega)
      have e2 := hs i hi
      rw [← e1] at e2
      rw [← e1]
      simp only [List.length_append, Int.natCast_add] at e2
      have e3 : ¬ n < (nth ps i).2.length := by omega
      have e4 : ¬ n < ((cat (ps.take i)).length : Int) + (nth ps i).2.length := by omega
      simp (disch := first | omega | (simp only [List.length_cons, List.length_nil, List.length_append, List.length_map, List.length_set]; omega) | rfl) only [go_sem, reduceCtorEq, ↓reduceIte, Nat.reduceEqDiff, Nat.reduceAdd, Nat.reduceSub, Nat.reduceMul, Nat.reduceLeDiff, Nat.reduceLT, Nat.reduceBEq, Nat.reduceBNe, Int.reduceAdd, Int.reduceSub, Int.reduceMul, Int.reduceNeg, Int.reduceEq, Int.reduceNe, Int.reduceLT, Int.reduceLE, Int.reduceToNat, reduceDIte, Nat.reduceSucc, B14_0, g1, iaddr_map encP, encP_eq, e3, e4])
  rcases first_stop (fun i => decide (((cat (ps.take (i + 1))).length : Int) ≤ n)) ps.length with h | ⟨k, hk', h1', h2⟩
  · have e : longB ps n = false := by
      have : ¬ n < ((cat ps).length : Int) := by
        match hl : ps.length with
        | 0 =>
          have : ps = [] := List.length_eq_zero_iff.1 hl
          subst this
          simp [cat] at a ⊢
          omega
        | m + 1 =>
          have := h m (by omega)
          rw [List.take_of_length_le (by omega)] at this
          simp at this
          omega
      simp [longB, a, this]
    have h0 := hrun ps.length (Nat.le_refl _) fun i hi => by simpa using h i hi
    have ec : cat (ps.take 0) = [] := rfl
    simp only [ec, List.take_length] at h0
    simp only [go_sem, reduceCtorEq, ↓reduceIte, Nat.reduceEqDiff, Nat.reduceAdd, Nat.reduceSub, Nat.reduceMul, Nat.reduceLeDiff, Nat.reduceLT, Nat.reduceBEq, Nat.reduceBNe, Int.reduceAdd, Int.reduceSub, Int.reduceMul, Int.reduceNeg, Int.reduceEq, Int.reduceNe, Int.reduceLT, Int.reduceLE, Int.reduceToNat, reduceDIte, Nat.reduceSucc] at h0
    simp (disch := first | omega | (simp only [List.length_cons, List.length_nil, List.length_append, List.length_map, List.length_set]; omega) | rfl) only [go_sem, reduceCtorEq, ↓reduceIte, Nat.reduceEqDiff, Nat.reduceAdd, Nat.reduceSub, Nat.reduceMul, Nat.reduceLeDiff, Nat.reduceLT, Nat.reduceBEq, Nat.reduceBNe, Int.reduceAdd, Int.reduceSub, Int.reduceMul, Int.reduceNeg, Int.reduceEq, Int.reduceNe, Int.reduceLT, Int.reduceLE, Int.reduceToNat, reduceDIte, Nat.reduceSucc, I14, hk, a, h0, B14_0, e, Int.lt_irrefl]
  · have h3 : n < ((cat (ps.take (k + 1))).length : Int) := by have h2 := of_decide_eq_false h2; omega
    have e : longB ps n = true := by
      have := cat_take_le ps (k + 1)
      have : n < ((cat ps).length : Int) := by omega
      simp [longB, this]
    have h0 := hrun k (by omega) fun i hi => by simpa using h1' i hi
    have ec : cat (ps.take 0) = [] := rfl
    simp only [ec] at h0
    simp only [go_sem, reduceCtorEq, ↓reduceIte, Nat.reduceEqDiff, Nat.reduceAdd, Nat.reduceSub, Nat.reduceMul, Nat.reduceLeDiff, Nat.reduceLT, Nat.reduceBEq, Nat.reduceBNe, Int.reduceAdd, Int.reduceSub, Int.reduceMul, Int.reduceNeg, Int.reduceEq, Int.reduceNe, Int.reduceLT, Int.reduceLE, Int.reduceToNat, reduceDIte, Nat.reduceSucc] at h0
    have g1 : (k : Int) < ps.length := by omega
    have hpk : (nth ps k).2.length ≤ 140737488355328 := hp _ (by rw [nth_get _ _ hk']; exact List.getElem_mem hk')
    rw [← cat_take_succ ps k hk'] at h3
    have hlk : ((cat (ps.take k)).length : Int) ≤ n ∨ k = 0 := by
      match k with
      | 0 => exact .inr rfl
      | m + 1 => exact .inl (by have := h1' m (by omega); simpa using this)
    have hcl : (cat (ps.take k)).length ≤ 140737488355328 := by
      rcases hlk with h | rfl
      · omega
      · rw [ec]; simp
    simp only [List.length_append, Int.natCast_add] at h3
    by_cases b : n < ((nth ps k).2.length : Int)
    · simp (disch := first | omega | (simp only [List.length_cons, List.length_nil, List.length_append, List.length_map, List.length_set]; omega) | rfl) only [go_sem, reduceCtorEq, ↓reduceIte, Nat.reduceEqDiff, Nat.reduceAdd, Nat.reduceSub, Nat.reduceMul, Nat.reduceLeDiff, Nat.reduceLT, Nat.reduceBEq, Nat.reduceBNe, Int.reduceAdd, Int.reduceSub, Int.reduceMul, Int.reduceNeg, Int.reduceEq, Int.reduceNe, Int.reduceLT, Int.reduceLE, Int.reduceToNat, reduceDIte, Nat.reduceSucc, I14, hk, a, h0, B14_0, e, g1, iaddr_map encP, encP_eq, b]
    · simp (disch := first | omega | (simp only [List.length_cons, List.length_nil, List.length_append, List.length_map, List.length_set]; omega) | rfl) only [go_sem, reduceCtorEq, ↓reduceIte, Nat.reduceEqDiff, Nat.reduceAdd, Nat.reduceSub, Nat.reduceMul, Nat.reduceLeDiff, Nat.reduceLT, Nat.reduceBEq, Nat.reduceBNe, Int.reduceAdd, Int.reduceSub, Int.reduceMul, Int.reduceNeg, Int.reduceEq, Int.reduceNe, Int.reduceLT, Int.reduceLE, Int.reduceToNat, reduceDIte, Nat.reduceSucc, I14, hk, a, h0, B14_0, e, g1, iaddr_map encP, encP_eq, b, h3]
end Go.Fw.Wd
