/-
  The laws on sums, as the evaluation answers them. Conditions: stated at each.
-/
import Derived.Test.YtgaababjgcfokaaWdSump
import Derived.Test.YtgaababjgcfokaaWdPatch
set_option linter.unusedVariables false
set_option linter.unusedSimpArgs false
namespace Go.Fw.Wd
open Go.Proofs Code_

theorem cat1 (g : Bool) (l : List UInt8) : cat [(g, l)] = l := by simp [cat]
theorem cat2 (g g' : Bool) (l m : List UInt8) : cat [(g, l), (g', m)] = l ++ m := by simp [cat]
theorem len1 (l : List UInt8) (hl : l.length ≤ 140737488355328) (g : Bool) : (cat [(g, l)]).length ≤ 140737488355328 := by rw [cat1]; exact hl
theorem len2 (l m : List UInt8) (hl : l.length + m.length ≤ 140737488355328) (g g' : Bool) : (cat [(g, l), (g', m)]).length ≤ 140737488355328 := by rw [cat2, List.length_append]; exact hl
/-- One row, two rows. -/
theorem total1 (g g' : Bool) (l : List UInt8) (hl : l.length ≤ 140737488355328) : pcall E 22 [.rs g 1 [bs g' l]] = some (.int .u16 (foldN (sumW l) : Nat), []) := by
  have := s22 g [(g', l)] (by simp) (len1 l hl g')
  rw [cat1] at this
  exact this
theorem total2 (g g' g'' : Bool) (l m : List UInt8) (hl : l.length + m.length ≤ 140737488355328) : pcall E 22 [.rs g 1 [bs g' l, bs g'' m]] = some (.int .u16 (foldN (sumW (l ++ m)) : Nat), []) := by
  have := s22 g [(g', l), (g'', m)] (by simp) (len2 l m hl g' g'')
  rw [cat2] at this
  exact this
theorem of1 (g g' : Bool) (l : List UInt8) (hl : l.length ≤ 140737488355328) : pcall E 24 [.rs g 1 [bs g' l]] = some (.int .u16 (65535 - foldN (sumW l) : Nat), []) := by
  have := s24 g [(g', l)] (by simp) (len1 l hl g')
  rw [cat1] at this
  exact this
theorem right1 (g g' : Bool) (l : List UInt8) (hl : l.length ≤ 140737488355328) : pcall E 26 [.rs g 1 [bs g' l]] = some (.bool (decide (foldN (sumW l) = 65535)), []) := by
  have := s26 g [(g', l)] (by simp) (len1 l hl g')
  rw [cat1] at this
  exact this

theorem law_answers (ps : List Part) (hp : ∀ p ∈ ps, p.2.length ≤ 140737488355328) (h0 : ps.length ≤ 140737488355328) (a b c : Nat) (ha : a < 65536) (hb : b < 65536) (hc : c < 65536) (w n : List UInt8) : pcall E 3 [.rs false 1 (ps.map encP), .int .u16 a, .int .u16 b, .int .u16 c, bs false w, bs false n] = some (.bool true, []) := by
  rw [pcall_go (fn := I3) rfl rfl rfl]
  have hk : E.keep 3 = false := rfl
  have hL := fun g => s14 g ps 3000 h0 (by omega) hp
  cases hlb : longB ps 3000 with
  | true =>
    rw [hlb] at hL
    simp only [go_sem, reduceCtorEq, ↓reduceIte, Nat.reduceEqDiff, Nat.reduceAdd, Nat.reduceSub, Nat.reduceMul, Nat.reduceLeDiff, Nat.reduceLT, Nat.reduceBEq, Nat.reduceBNe, Int.reduceAdd, Int.reduceSub, Int.reduceMul, Int.reduceNeg, Int.reduceEq, Int.reduceNe, Int.reduceLT, Int.reduceLE, Int.reduceToNat, reduceDIte, Nat.reduceSucc, I3, hk, s13, hL]
  | false =>
    rw [hlb] at hL
    have hcl : (cat ps).length ≤ 140737488355328 := by
      have := hlb
      simp [longB] at this
      omega
    by_cases hl1 : (3000 : Int) < w.length
    · simp only [go_sem, reduceCtorEq, ↓reduceIte, Nat.reduceEqDiff, Nat.reduceAdd, Nat.reduceSub, Nat.reduceMul, Nat.reduceLeDiff, Nat.reduceLT, Nat.reduceBEq, Nat.reduceBNe, Int.reduceAdd, Int.reduceSub, Int.reduceMul, Int.reduceNeg, Int.reduceEq, Int.reduceNe, Int.reduceLT, Int.reduceLE, Int.reduceToNat, reduceDIte, Nat.reduceSucc, I3, hk, s13, hL, hl1]
    by_cases hl2 : (3000 : Int) < n.length
    · simp only [go_sem, reduceCtorEq, ↓reduceIte, Nat.reduceEqDiff, Nat.reduceAdd, Nat.reduceSub, Nat.reduceMul, Nat.reduceLeDiff, Nat.reduceLT, Nat.reduceBEq, Nat.reduceBNe, Int.reduceAdd, Int.reduceSub, Int.reduceMul, Int.reduceNeg, Int.reduceEq, Int.reduceNe, Int.reduceLT, Int.reduceLE, Int.reduceToNat, reduceDIte, Nat.reduceSucc, I3, hk, s13, hL, hl1, hl2]
    have q1 := fun g => s15 g ps h0 hcl
    have q2 := fun g g' => s16 g g' a ha w n (by omega) (by omega)
    have q3 := fun g g' => s17 g g' a ha w n (by omega) (by omega)
    have q4 := s18 a b ha hb
    have q5 := s19 a b ha hb
    have q6 := s20 a b c ha hb hc
    have q7 := s21 a b c ha hb hc
    have q8 := fun g => s22 g ps h0 hcl
    have q9 := fun g => s24 g ps h0 hcl
    have q10 := fun g => s26 g ps h0 hcl
    have q11 := fun g => s23 g (cat ps) hcl
    have q12 := fun g => s25 g (cat ps) hcl
    have k1 : E.keep 15 = false := rfl
    simp only [k1, kone_f] at q1
    have e : decide (((foldN (sumW (cat ps)) : Nat) : Int) = 65535) = decide (foldN (sumW (cat ps)) = 65535) := decide_eq_decide.2 (by omega)
    simp (disch := first | omega | (simp only [List.length_cons, List.length_nil, List.length_append, List.length_map, List.length_set]; omega) | rfl) only [go_sem, reduceCtorEq, ↓reduceIte, Nat.reduceEqDiff, Nat.reduceAdd, Nat.reduceSub, Nat.reduceMul, Nat.reduceLeDiff, Nat.reduceLT, Nat.reduceBEq, Nat.reduceBNe, Int.reduceAdd, Int.reduceSub, Int.reduceMul, Int.reduceNeg, Int.reduceEq, Int.reduceNe, Int.reduceLT, Int.reduceLE, Int.reduceToNat, reduceDIte, Nat.reduceSucc, I3, hk, s13, hL, hl1, hl2, q1, q2, q3, q4, q5, q6, q7, q8, q9, q10, q11, q12, e]

theorem law_order (l m : List UInt8) : pcall E 6 [bs false l, bs false m] = some (.bool true, []) := by
  rw [pcall_go (fn := I6) rfl rfl rfl]
  have hk : E.keep 6 = false := rfl
  by_cases hl1 : (3000 : Int) < l.length
  · simp only [go_sem, reduceCtorEq, ↓reduceIte, Nat.reduceEqDiff, Nat.reduceAdd, Nat.reduceSub, Nat.reduceMul, Nat.reduceLeDiff, Nat.reduceLT, Nat.reduceBEq, Nat.reduceBNe, Int.reduceAdd, Int.reduceSub, Int.reduceMul, Int.reduceNeg, Int.reduceEq, Int.reduceNe, Int.reduceLT, Int.reduceLE, Int.reduceToNat, reduceDIte, Nat.reduceSucc, I6, hk, s13, hl1]
  by_cases hl2 : (3000 : Int) < m.length
  · simp only [go_sem, reduceCtorEq, ↓reduceIte, Nat.reduceEqDiff, Nat.reduceAdd, Nat.reduceSub, Nat.reduceMul, Nat.reduceLeDiff, Nat.reduceLT, Nat.reduceBEq, Nat.reduceBNe, Int.reduceAdd, Int.reduceSub, Int.reduceMul, Int.reduceNeg, Int.reduceEq, Int.reduceNe, Int.reduceLT, Int.reduceLE, Int.reduceToNat, reduceDIte, Nat.reduceSucc, I6, hk, s13, hl1, hl2]
  by_cases h2 : l.length % 2 = 0
  · have h2' : ¬ (l.length : Int).tmod 2 = 1 := by rw [Int.tmod_eq_emod_of_nonneg (by omega)]; omega
    have q1 := fun g g' g'' => total2 g g' g'' l m (by omega)
    have q2 := fun g g' => total1 g g' l (by omega)
    have q3 := fun g g' => total1 g g' m (by omega)
    have q4 := s18 (foldN (sumW l)) (foldN (sumW m)) (foldN_lt _) (foldN_lt _)
    have e4 : foldN (foldN (sumW l) + foldN (sumW m)) = foldN (sumW (l ++ m)) := by rw [foldN_add, Nat.add_comm, foldN_add, Nat.add_comm, sumW_append l m h2]
    rw [e4] at q4
    have q5 := fun g g' => of1 g g' m (by omega)
    have e5 : ((65535 - foldN (sumW m) : Nat) : Int) = 65535 - ((foldN (sumW m) : Nat) : Int) := by have := foldN_le (sumW m); omega
    have q7 := fun g g' g'' => total2 g g' g'' m [] (by simp; omega)
    simp only [List.append_nil, bs, List.map_nil] at q7
    have hf := foldN_le (sumW m)
    by_cases h3 : m.length % 2 = 0
    · have h3' : (m.length : Int).tmod 2 = 0 := by rw [Int.tmod_eq_emod_of_nonneg (by omega)]; omega
      have q6 := fun g g' g'' => total2 g g' g'' m l (by omega)
      have e6 : sumW (m ++ l) = sumW (l ++ m) := by rw [sumW_append l m h2, sumW_append m l h3, Nat.add_comm]
      rw [e6] at q6
      simp (disch := first | omega | (simp only [List.length_cons, List.length_nil, List.length_append, List.length_map, List.length_set]; omega) | rfl) only [go_sem, reduceCtorEq, ↓reduceIte, Nat.reduceEqDiff, Nat.reduceAdd, Nat.reduceSub, Nat.reduceMul, Nat.reduceLeDiff, Nat.reduceLT, Nat.reduceBEq, Nat.reduceBNe, Int.reduceAdd, Int.reduceSub, Int.reduceMul, Int.reduceNeg, Int.reduceEq, Int.reduceNe, Int.reduceLT, Int.reduceLE, Int.reduceToNat, reduceDIte, Nat.reduceSucc, I6, hk, s13, hl1, hl2, h2', h3', q1, q2, q3, q4, q5, q6, q7, e5]
    · have h3' : ¬ (m.length : Int).tmod 2 = 0 := by rw [Int.tmod_eq_emod_of_nonneg (by omega)]; omega
      have q6 := fun g g' g'' => total2 g g' g'' m [0] (by simp; omega)
      have e6 : sumW (m ++ [0]) = sumW m := by
        have key : ∀ x : List UInt8, x.length % 2 = 1 → sumW (x ++ [0]) = sumW x := by
          intro x
          induction x using sumW.induct with
          | case1 => intro h; simp at h
          | case2 a => intro _; simp [sumW]
          | case3 a b x ih =>
            intro h
            have := ih (by simp only [List.length_cons] at h; omega)
            simp only [List.cons_append, sumW, this]
        exact key m (by omega)
      rw [e6] at q6
      simp only [bs, List.map_cons, List.map_nil, by8_eq, show ((0 : UInt8).toNat : Int) = 0 from rfl] at q6
      simp (disch := first | omega | (simp only [List.length_cons, List.length_nil, List.length_append, List.length_map, List.length_set]; omega) | rfl) only [go_sem, reduceCtorEq, ↓reduceIte, Nat.reduceEqDiff, Nat.reduceAdd, Nat.reduceSub, Nat.reduceMul, Nat.reduceLeDiff, Nat.reduceLT, Nat.reduceBEq, Nat.reduceBNe, Int.reduceAdd, Int.reduceSub, Int.reduceMul, Int.reduceNeg, Int.reduceEq, Int.reduceNe, Int.reduceLT, Int.reduceLE, Int.reduceToNat, reduceDIte, Nat.reduceSucc, I6, hk, s13, hl1, hl2, h2', h3', q1, q2, q3, q4, q5, q6, q7, e5]
  · have h2' : (l.length : Int).tmod 2 = 1 := by rw [Int.tmod_eq_emod_of_nonneg (by omega)]; omega
    simp only [go_sem, reduceCtorEq, ↓reduceIte, Nat.reduceEqDiff, Nat.reduceAdd, Nat.reduceSub, Nat.reduceMul, Nat.reduceLeDiff, Nat.reduceLT, Nat.reduceBEq, Nat.reduceBNe, Int.reduceAdd, Int.reduceSub, Int.reduceMul, Int.reduceNeg, Int.reduceEq, Int.reduceNe, Int.reduceLT, Int.reduceLE, Int.reduceToNat, reduceDIte, Nat.reduceSucc, I6, hk, s13, hl1, hl2, h2']

theorem law_parts (a : Nat) (ha : a < 65536) (w n : List UInt8) (cut : Int) : pcall E 7 [.int .u16 a, bs false w, bs false n, .int .i64 cut] = some (.bool true, []) := by
  rw [pcall_go (fn := I7) rfl rfl rfl]
  have hk : E.keep 7 = false := rfl
  by_cases hl1 : (300 : Int) < w.length
  · simp only [go_sem, reduceCtorEq, ↓reduceIte, Nat.reduceEqDiff, Nat.reduceAdd, Nat.reduceSub, Nat.reduceMul, Nat.reduceLeDiff, Nat.reduceLT, Nat.reduceBEq, Nat.reduceBNe, Int.reduceAdd, Int.reduceSub, Int.reduceMul, Int.reduceNeg, Int.reduceEq, Int.reduceNe, Int.reduceLT, Int.reduceLE, Int.reduceToNat, reduceDIte, Nat.reduceSucc, I7, hk, s13, hl1]
  by_cases h1 : w.length = n.length
  · have h1' : (w.length : Int) = n.length := by omega
    by_cases h2 : w.length % 2 = 0
    · have h2' : ¬ (n.length : Int).tmod 2 = 1 := by rw [Int.tmod_eq_emod_of_nonneg (by omega)]; omega
      rw [h1'] at hl1
      by_cases c1 : cut < 0
      · simp only [go_sem, reduceCtorEq, ↓reduceIte, Nat.reduceEqDiff, Nat.reduceAdd, Nat.reduceSub, Nat.reduceMul, Nat.reduceLeDiff, Nat.reduceLT, Nat.reduceBEq, Nat.reduceBNe, Int.reduceAdd, Int.reduceSub, Int.reduceMul, Int.reduceNeg, Int.reduceEq, Int.reduceNe, Int.reduceLT, Int.reduceLE, Int.reduceToNat, reduceDIte, Nat.reduceSucc, I7, hk, s13, hl1, h1', h2', c1]
      by_cases c2 : cut.tmod 2 = 1
      · simp only [go_sem, reduceCtorEq, ↓reduceIte, Nat.reduceEqDiff, Nat.reduceAdd, Nat.reduceSub, Nat.reduceMul, Nat.reduceLeDiff, Nat.reduceLT, Nat.reduceBEq, Nat.reduceBNe, Int.reduceAdd, Int.reduceSub, Int.reduceMul, Int.reduceNeg, Int.reduceEq, Int.reduceNe, Int.reduceLT, Int.reduceLE, Int.reduceToNat, reduceDIte, Nat.reduceSucc, I7, hk, s13, hl1, h1', h2', c1, c2]
      by_cases c3 : (n.length : Int) < cut
      · simp only [go_sem, reduceCtorEq, ↓reduceIte, Nat.reduceEqDiff, Nat.reduceAdd, Nat.reduceSub, Nat.reduceMul, Nat.reduceLeDiff, Nat.reduceLT, Nat.reduceBEq, Nat.reduceBNe, Int.reduceAdd, Int.reduceSub, Int.reduceMul, Int.reduceNeg, Int.reduceEq, Int.reduceNe, Int.reduceLT, Int.reduceLE, Int.reduceToNat, reduceDIte, Nat.reduceSucc, I7, hk, s13, hl1, h1', h2', c1, c2, c3]
      obtain ⟨c, rfl⟩ : ∃ c : Nat, cut = ((2 * c : Nat) : Int) := by
        rw [Int.tmod_eq_emod_of_nonneg (by omega)] at c2
        exact ⟨cut.toNat / 2, by omega⟩
      have q1 := fun g g' => s16 g g' a ha w n (by omega) (by omega)
      have lw : (w.take (2 * c)).length = 2 * c := by rw [List.length_take]; omega
      have ln : (n.take (2 * c)).length = 2 * c := by rw [List.length_take]; omega
      have lw' : (w.drop (2 * c)).length = w.length - 2 * c := by rw [List.length_drop]
      have ln' : (n.drop (2 * c)).length = n.length - 2 * c := by rw [List.length_drop]
      have q2 := fun g g' => s16 g g' a ha (w.take (2 * c)) (n.take (2 * c)) (by omega) (by omega)
      have hm : patN a (w.take (2 * c)) (n.take (2 * c)) = patK w n a c := by
        rw [patN_ok _ (by omega) (by omega), lw, patK_take _ _ _ _ _ (by omega)]
        congr 1
        omega
      rw [hm, patF_ok (by omega) (by omega)] at q2
      have q3 := fun g g' => s16 g g' (patK w n a c) (patK_lt w n ha c) (w.drop (2 * c)) (n.drop (2 * c)) (by omega) (by omega)
      have hm2 : patN (patK w n a c) (w.drop (2 * c)) (n.drop (2 * c)) = patN a w n := by
        rw [patN_ok _ (by omega) (by omega), patN_ok _ h1 h2, patK_drop, lw']
        congr 1
        omega
      rw [hm2, patF_ok (by omega) (by omega)] at q3
      have q4 := fun g g' => s16 g g' (patN a w n) (patN_lt ha w n) n w (by omega) (by omega)
      rw [patF_ok h1.symm (by omega)] at q4
      rw [patF_ok h1 h2] at q1
      have i1 := (patN_inv ha h1 h2).1
      have i2 := (patN_inv (patN_lt ha w n) h1.symm (by omega)).1
      have b1 := patN_lt ha w n
      have b2 := patN_lt (patN_lt ha w n) n w
      have q5 := s18 a 0 ha (by omega)
      rw [Nat.add_zero, foldN_small (by omega)] at q5
      simp only [Int.cast_ofNat_Int, Int.natCast_zero] at q5
      have q6 := s20 a 7 7 ha (by omega) (by omega)
      simp only [Int.cast_ofNat_Int] at q6
      have i3 : (65535 - turnN a 7 7) % 65535 = (65535 - a) % 65535 := by
        unfold turnN
        have e1 := foldN_mod (65535 - a + (65535 - 7) + 7)
        have e2 := foldN_le (65535 - a + (65535 - 7) + 7)
        omega
      have b3 := turnN_lt a 7 7
      generalize patK w n a c = x1 at q2 q3
      generalize patN a w n = x2 at q1 q3 q4 i1 i2 b1 b2
      generalize patN x2 n w = x3 at q4 i2 b2
      generalize turnN a 7 7 = x4 at q6 i3 b3
      have e1 : (x3 : Int).tmod 65535 = (a : Int).tmod 65535 := by rw [Int.tmod_eq_emod_of_nonneg (by omega), Int.tmod_eq_emod_of_nonneg (by omega)]; omega
      have e2 : (x4 : Int).tmod 65535 = (a : Int).tmod 65535 := by rw [Int.tmod_eq_emod_of_nonneg (by omega), Int.tmod_eq_emod_of_nonneg (by omega)]; omega
      have s1 := fun h => slice_by_ni h false w .i64 ((2 * c : Nat) : Int) (by omega) (by omega)
      have s2 := fun h => slice_by_ni h false n .i64 ((2 * c : Nat) : Int) (by omega) (by omega)
      have s3 := fun h => slice_by_in h false w .i64 ((2 * c : Nat) : Int) (by omega) (by omega)
      have s4 := fun h => slice_by_in h false n .i64 ((2 * c : Nat) : Int) (by omega) (by omega)
      rw [h1] at s1 s3
      simp only [Int.toNat_natCast] at s1 s2 s3 s4
      generalize 2 * c = cc at *
      by_cases hx : (x3 : Int) = a
      · simp (disch := first | omega | (simp only [List.length_cons, List.length_nil, List.length_append, List.length_map, List.length_set]; omega) | rfl) only [go_sem, reduceCtorEq, ↓reduceIte, Nat.reduceEqDiff, Nat.reduceAdd, Nat.reduceSub, Nat.reduceMul, Nat.reduceLeDiff, Nat.reduceLT, Nat.reduceBEq, Nat.reduceBNe, Int.reduceAdd, Int.reduceSub, Int.reduceMul, Int.reduceNeg, Int.reduceEq, Int.reduceNe, Int.reduceLT, Int.reduceLE, Int.reduceToNat, reduceDIte, Nat.reduceSucc, I7, hk, s13, hl1, h1', h1, h2', c1, c2, c3, q1, q2, q3, q4, q5, q6, s1, s2, s3, s4, e1, e2, hx]
      · simp (disch := first | omega | (simp only [List.length_cons, List.length_nil, List.length_append, List.length_map, List.length_set]; omega) | rfl) only [go_sem, reduceCtorEq, ↓reduceIte, Nat.reduceEqDiff, Nat.reduceAdd, Nat.reduceSub, Nat.reduceMul, Nat.reduceLeDiff, Nat.reduceLT, Nat.reduceBEq, Nat.reduceBNe, Int.reduceAdd, Int.reduceSub, Int.reduceMul, Int.reduceNeg, Int.reduceEq, Int.reduceNe, Int.reduceLT, Int.reduceLE, Int.reduceToNat, reduceDIte, Nat.reduceSucc, I7, hk, s13, hl1, h1', h1, h2', c1, c2, c3, q1, q2, q3, q4, q5, q6, s1, s2, s3, s4, e1, e2, hx]
    · have h2' : (n.length : Int).tmod 2 = 1 := by rw [Int.tmod_eq_emod_of_nonneg (by omega)]; omega
      rw [h1'] at hl1
      simp only [go_sem, reduceCtorEq, ↓reduceIte, Nat.reduceEqDiff, Nat.reduceAdd, Nat.reduceSub, Nat.reduceMul, Nat.reduceLeDiff, Nat.reduceLT, Nat.reduceBEq, Nat.reduceBNe, Int.reduceAdd, Int.reduceSub, Int.reduceMul, Int.reduceNeg, Int.reduceEq, Int.reduceNe, Int.reduceLT, Int.reduceLE, Int.reduceToNat, reduceDIte, Nat.reduceSucc, I7, hk, s13, hl1, h1', h2']
  · have h1' : ¬ (w.length : Int) = n.length := by omega
    simp only [go_sem, reduceCtorEq, ↓reduceIte, Nat.reduceEqDiff, Nat.reduceAdd, Nat.reduceSub, Nat.reduceMul, Nat.reduceLeDiff, Nat.reduceLT, Nat.reduceBEq, Nat.reduceBNe, Int.reduceAdd, Int.reduceSub, Int.reduceMul, Int.reduceNeg, Int.reduceEq, Int.reduceNe, Int.reduceLT, Int.reduceLE, Int.reduceToNat, reduceDIte, Nat.reduceSucc, I7, hk, s13, hl1, h1']
end Go.Fw.Wd
