/-
  The laws on messages at the evaluation, and their ends. Conditions: stated at each.
-/
import Derived.Test.YtmmfimpphhebfaaDoorWdIcmr
import Derived.Test.YtmmfimpphhebfaaDoorWdArgs
set_option linter.unusedVariables false
set_option linter.unusedSimpArgs false
namespace Go.Fw.Wd
open Go.Proofs Code_

theorem s66 : pcall E 66 [] = some (.bool true, []) := pcall_run 100 (by kernel_rfl)
theorem total_two (g g1 g2 : Bool) (l m : List UInt8) (hl : l.length + m.length ≤ 140737488355328) : pcall E 70 [.rs g 1 [.rs g1 1 (l.map by8), .rs g2 1 (m.map by8)]] = some (.int .u16 ((foldN (sumW (l ++ m)) : Nat) : Int), []) := by
  have e : cat [(g1, l), (g2, m)] = l ++ m := by simp [cat]
  have := s70 g [(g1, l), (g2, m)] (by simp) (by rw [e, List.length_append]; omega)
  rw [e] at this
  exact this
/-- A written message is parsed as it was. -/
theorem ic_back (m : Mg) (hb : m.body.length ≤ 1472) : icE (icB m) = (0, 0) ∧ icM (icB m) = m := by
  have hl := icB_len m
  have hs := icB_sum m
  have e : icE (icB m) = (0, 0) := by
    unfold icE
    rw [if_neg (by omega), if_neg (by omega), if_neg (by rw [hs]; simp)]
  refine ⟨e, ?_⟩
  unfold icM
  rw [e]
  obtain ⟨x, y, exy⟩ := encb2 (icS m)
  show icR (icB m) = m
  unfold icB
  rw [exy]
  cases m
  rfl
theorem eq_parts (b : List UInt8) (h : 4 ≤ b.length) : b = nth b 0 :: nth b 1 :: (encb 2 (n2 b 2) ++ b.drop 4) := by
  rcases b with _ | ⟨x, _ | ⟨y, _ | ⟨z, _ | ⟨w, t⟩⟩⟩⟩ <;> simp at h
  have e : encb 2 (n2 (x :: y :: z :: w :: t) 2) = [z, w] := by
    have h2 := n2_nth (x :: y :: z :: w :: t) 2 (by simp)
    rw [two_eq, h2]
    have hz : nth (x :: y :: z :: w :: t) 2 = z := rfl
    have hw : nth (x :: y :: z :: w :: t) (2 + 1) = w := rfl
    rw [hz, hw]
    have l1 := z.toNat_lt
    have l2 := w.toNat_lt
    have a1 : (z.toNat * 256 + w.toNat) / 256 = z.toNat := by omega
    rw [a1]
    congr 1
    · exact UInt8.ofNat_toNat
    · congr 1
      apply UInt8.toNat_inj.1
      rw [UInt8.toNat_ofNat']
      omega
  rw [e]
  rfl
theorem rest_eq (b : List UInt8) (h : 8 ≤ b.length) : b.drop 4 = [nth b 4, nth b 5, nth b 6, nth b 7] ++ b.drop 8 := by
  rw [drop_nth b 4 (by omega), drop_nth b (4 + 1) (by omega), drop_nth b (4 + 1 + 1) (by omega), drop_nth b (4 + 1 + 1 + 1) (by omega)]
  rfl
/-- What is written of a parsed message: its bytes, but where their sum can be told in two ways. -/
theorem ic_again (b : List UInt8) (h : (icE b).2 = 0) : (icB (icR b)).length = b.length ∧ nth (icB (icR b)) 0 = nth b 0 ∧ nth (icB (icR b)) 1 = nth b 1 ∧ (icB (icR b)).drop 4 = b.drop 4 ∧
    (icB (icR b) = b ∨ foldN (sumW ((icB (icR b)).take 2 ++ b.drop 4)) = 0 ∨ foldN (sumW ((icB (icR b)).take 2 ++ b.drop 4)) = 65535) := by
  obtain ⟨h8, h14, hs⟩ := ic_ok h
  have hl := icB_len (icR b)
  have hbl : (icR b).body.length = b.length - 8 := by show (b.drop 8).length = _; rw [List.length_drop]
  have hr := rest_eq b h8
  obtain ⟨x, y, exy⟩ := encb2 (icS (icR b))
  have eB : icB (icR b) = nth b 0 :: nth b 1 :: (encb 2 (icS (icR b)) ++ b.drop 4) := by rw [hr]; rfl
  have et : (icB (icR b)).take 2 = [nth b 0, nth b 1] := by rw [eB]; rfl
  have ed : (icB (icR b)).drop 4 = b.drop 4 := by rw [eB, exy]; rfl
  refine ⟨by omega, by rw [eB]; rfl, by rw [eB]; rfl, ed, ?_⟩
  rw [et]
  have eS : icS (icR b) = 65535 - foldN (sumW [nth b 0, nth b 1] + sumW (b.drop 4)) := by rw [hr]; rfl
  have hb := eq_parts b (by omega)
  have h2 := n2_lt b 2
  have hs' : foldN (sumW [nth b 0, nth b 1] + (n2 b 2 + sumW (b.drop 4))) = 65535 := by
    rw [← hs]
    congr 1
    have e1 : b = [nth b 0, nth b 1] ++ (encb 2 (n2 b 2) ++ b.drop 4) := hb
    have e2 : sumW b = sumW ([nth b 0, nth b 1] ++ (encb 2 (n2 b 2) ++ b.drop 4)) := congrArg sumW e1
    rw [e2, sumW_append _ _ (by simp), sumW_enc2 _ h2]
  rw [sumW_append _ _ (by simp)]
  generalize sumW [nth b 0, nth b 1] = a at *
  generalize sumW (b.drop 4) = z at *
  by_cases hq : foldN (a + z) = 0 ∨ foldN (a + z) = 65535
  · exact .inr hq
  · left
    have : icS (icR b) = n2 b 2 := by
      rw [eS]
      generalize n2 b 2 = n at *
      have e3 : a + (n + z) = (a + z) + n := by omega
      rw [e3] at hs'
      generalize a + z = m at *
      clear eB exy eS hb hr et ed
      by_cases hm : m = 0
      · exact absurd (.inl (by rw [hm]; rfl)) hq
      · have f1 : foldN m = (m - 1) % 65535 + 1 := if_neg hm
        have f2 : foldN (m + n) = (m + n - 1) % 65535 + 1 := if_neg (by omega)
        rw [f1] at hq ⊢
        rw [f2] at hs'
        omega
    rw [eB, this]
    exact hb.symm

theorem law17 (b : List UInt8) : pcall E 17 [bs false b] = some (.bool true, []) := by
  rw [pcall_go (fn := I17) rfl rfl rfl]
  have hk : E.keep 17 = false := rfl
  by_cases h1 : (3000 : Int) < b.length
  · simp (disch := first | omega | (simp only [List.length_cons, List.length_nil, List.length_append, List.length_map, List.length_set]; omega) | rfl | (simp only [List.length_cons, List.length_nil, List.length_append, List.length_map, List.length_set, List.length_replicate, List.all_cons, List.all_nil, List.all_append, storable, plainB, Bool.and_self]; done)) only [go_sem, reduceCtorEq, ↓reduceIte, Nat.reduceEqDiff, Nat.reduceAdd, Nat.reduceSub, Nat.reduceMul, Nat.reduceLeDiff, Nat.reduceLT, Nat.reduceBEq, Nat.reduceBNe, Int.reduceAdd, Int.reduceSub, Int.reduceMul, Int.reduceNeg, Int.reduceEq, Int.reduceNe, Int.reduceLT, Int.reduceLE, Int.reduceToNat, reduceDIte, Nat.reduceSucc, evI_callP, callPK_some, I17, hk, s66, h1]
  have q1 := fun g => s25 g b (by omega)
  have qP := fun g => s65 g b (by omega)
  have qR := fun g => s67 g b (by omega)
  have q3 := is_same (icE b).1 (icE b).2
  have hml : (icM b).body.length ≤ 1048576 := by
    unfold icM
    split
    · show (b.drop 8).length ≤ _; rw [List.length_drop]; omega
    · show ([] : List UInt8).length ≤ _; simp
  have o1 := s69 (icM b) hml
  have e1 := s68 (icM b) (icM b)
  rw [decide_eq_true rfl] at e1
  have qq : ∀ g g', pcall E 31 [bs g b, bs g' b] = some (.bool true, []) := fun g g' => by rw [s31 g g' b b (by omega), decide_eq_true rfl]
  by_cases h : (icE b).2 = 0
  case neg =>
    rw [errV_pos _ h] at qP q3
    rw [faultC_pos _ h] at qR q3
    generalize icM b = m at *
    generalize (icE b).1 = r at *
    generalize (icE b).2 = n at *
    simp only [mgC_eq] at qP qR o1 e1
    simp (disch := first | omega | (simp only [List.length_cons, List.length_nil, List.length_append, List.length_map, List.length_set]; omega) | rfl | (simp only [List.length_cons, List.length_nil, List.length_append, List.length_map, List.length_set, List.length_replicate, List.all_cons, List.all_nil, List.all_append, storable, plainB, Bool.and_self]; done)) only [go_sem, reduceCtorEq, ↓reduceIte, Nat.reduceEqDiff, Nat.reduceAdd, Nat.reduceSub, Nat.reduceMul, Nat.reduceLeDiff, Nat.reduceLT, Nat.reduceBEq, Nat.reduceBNe, Int.reduceAdd, Int.reduceSub, Int.reduceMul, Int.reduceNeg, Int.reduceEq, Int.reduceNe, Int.reduceLT, Int.reduceLE, Int.reduceToNat, reduceDIte, Nat.reduceSucc, evI_callP, callPK_some, I17, hk, s66, h1, q1, qP, qR, q3, o1, e1, qq]
  obtain ⟨a1, a2, a3, a4, a5⟩ := ic_again b h
  have em : icM b = icR b := by unfold icM; rw [if_pos h]
  obtain ⟨h8, h14, _⟩ := ic_ok h
  have hbl : (icR b).body.length = b.length - 8 := by show (b.drop 8).length = _; rw [List.length_drop]
  have qB := s64 (icR b) (by omega)
  rw [em] at qP qR o1 e1
  rw [h, errV_zero] at qP
  rw [h, errV_zero, faultC_zero] at q3
  rw [h, faultC_zero] at qR
  generalize icR b = m at *
  obtain ⟨c, hc⟩ : ∃ c, c = icB m := ⟨_, rfl⟩
  rw [← hc] at a1 a2 a3 a4 a5 qB
  clear hc em
  have qcb : ∀ g g', pcall E 31 [bs g c, bs g' b] = some (.bool (decide (c = b)), []) := fun g g' => s31 g g' c b (by omega)
  obtain ⟨d, hd⟩ : ∃ d, d = b.drop 4 := ⟨_, rfl⟩
  obtain ⟨t, ht⟩ : ∃ t, t = c.take 2 := ⟨_, rfl⟩
  rw [← hd] at a4 a5
  rw [← ht] at a5
  have hdl : d.length = b.length - 4 := by rw [hd, List.length_drop]
  have htl : t.length = 2 := by rw [ht, List.length_take]; omega
  have s1 : ∀ h g, sliceK h 1 (.rs g 1 (c.map by8)) (some b.length) (some (.int .i64 4)) none = some (.rs g 1 (d.map by8), h) := fun h g => by
    rw [← a1, ← a4]; exact slice_by_in h g c .i64 4 (by omega) (by omega)
  have s2 : ∀ h g, sliceK h 1 (.rs g 1 (b.map by8)) (some b.length) (some (.int .i64 4)) none = some (.rs g 1 (d.map by8), h) := fun h g => by
    rw [hd]; exact slice_by_in h g b .i64 4 (by omega) (by omega)
  have s3 : ∀ h g, sliceK h 1 (.rs g 1 (c.map by8)) (some b.length) none (some (.int .i64 2)) = some (.rs g 1 (t.map by8), h) := fun h g => by
    rw [← a1, ht]; exact slice_by_ni h g c .i64 2 (by omega) (by omega)
  have m1 : ∀ g g', pcall E 31 [bs g d, bs g' d] = some (.bool true, []) := fun g g' => by rw [s31 g g' d d (by omega), decide_eq_true rfl]
  have tt := fun g g1 g2 => total_two g g1 g2 t d (by omega)
  have b0 : (0 : Int) < b.length := by omega
  have b1 : (1 : Int) < b.length := by omega
  clear hd ht
  simp only [mgC_eq] at qP qR o1 e1 qB
  by_cases hcb : c = b
  · rw [decide_eq_true hcb] at qcb
    clear a5
    simp (disch := first | omega | (simp only [List.length_cons, List.length_nil, List.length_append, List.length_map, List.length_set]; omega) | rfl | (simp only [List.length_cons, List.length_nil, List.length_append, List.length_map, List.length_set, List.length_replicate, List.all_cons, List.all_nil, List.all_append, storable, plainB, Bool.and_self]; done)) only [go_sem, reduceCtorEq, ↓reduceIte, Nat.reduceEqDiff, Nat.reduceAdd, Nat.reduceSub, Nat.reduceMul, Nat.reduceLeDiff, Nat.reduceLT, Nat.reduceBEq, Nat.reduceBNe, Int.reduceAdd, Int.reduceSub, Int.reduceMul, Int.reduceNeg, Int.reduceEq, Int.reduceNe, Int.reduceLT, Int.reduceLE, Int.reduceToNat, reduceDIte, Nat.reduceSucc, evI_callP, callPK_some, I17, hk, s66, h1, q1, qP, qR, q3, o1, e1, qq, qB, qcb, a1, a2, a3, s1, s2, s3, m1, b0, b1]
  · rw [decide_eq_false hcb] at qcb
    rcases a5 with a5 | a5 | a5
    · exact absurd a5 hcb
    · rw [a5] at tt
      simp only [Int.natCast_zero] at tt
      simp (disch := first | omega | (simp only [List.length_cons, List.length_nil, List.length_append, List.length_map, List.length_set]; omega) | rfl | (simp only [List.length_cons, List.length_nil, List.length_append, List.length_map, List.length_set, List.length_replicate, List.all_cons, List.all_nil, List.all_append, storable, plainB, Bool.and_self]; done)) only [go_sem, reduceCtorEq, ↓reduceIte, Nat.reduceEqDiff, Nat.reduceAdd, Nat.reduceSub, Nat.reduceMul, Nat.reduceLeDiff, Nat.reduceLT, Nat.reduceBEq, Nat.reduceBNe, Int.reduceAdd, Int.reduceSub, Int.reduceMul, Int.reduceNeg, Int.reduceEq, Int.reduceNe, Int.reduceLT, Int.reduceLE, Int.reduceToNat, reduceDIte, Nat.reduceSucc, evI_callP, callPK_some, I17, hk, s66, h1, q1, qP, qR, q3, o1, e1, qq, qB, qcb, a1, a2, a3, s1, s2, s3, m1, b0, b1, tt]
    · rw [a5] at tt
      simp only [Int.cast_ofNat_Int] at tt
      simp (disch := first | omega | (simp only [List.length_cons, List.length_nil, List.length_append, List.length_map, List.length_set]; omega) | rfl | (simp only [List.length_cons, List.length_nil, List.length_append, List.length_map, List.length_set, List.length_replicate, List.all_cons, List.all_nil, List.all_append, storable, plainB, Bool.and_self]; done)) only [go_sem, reduceCtorEq, ↓reduceIte, Nat.reduceEqDiff, Nat.reduceAdd, Nat.reduceSub, Nat.reduceMul, Nat.reduceLeDiff, Nat.reduceLT, Nat.reduceBEq, Nat.reduceBNe, Int.reduceAdd, Int.reduceSub, Int.reduceMul, Int.reduceNeg, Int.reduceEq, Int.reduceNe, Int.reduceLT, Int.reduceLE, Int.reduceToNat, reduceDIte, Nat.reduceSucc, evI_callP, callPK_some, I17, hk, s66, h1, q1, qP, qR, q3, o1, e1, qq, qB, qcb, a1, a2, a3, s1, s2, s3, m1, b0, b1, tt]

theorem law18 (m o : Mg) (k : Nat) (hk6 : k < 65536) : pcall E 18 [.agg (mgC m), .agg (mgC o), .int .u16 (k : Int)] = some (.bool true, []) := by
  rw [pcall_go (fn := I18) rfl rfl rfl]
  have hk : E.keep 18 = false := rfl
  by_cases h1 : (3000 : Int) < m.body.length
  · simp only [mgC_eq]
    simp (disch := first | omega | (simp only [List.length_cons, List.length_nil, List.length_append, List.length_map, List.length_set]; omega) | rfl | (simp only [List.length_cons, List.length_nil, List.length_append, List.length_map, List.length_set, List.length_replicate, List.all_cons, List.all_nil, List.all_append, storable, plainB, Bool.and_self]; done)) only [go_sem, reduceCtorEq, ↓reduceIte, Nat.reduceEqDiff, Nat.reduceAdd, Nat.reduceSub, Nat.reduceMul, Nat.reduceLeDiff, Nat.reduceLT, Nat.reduceBEq, Nat.reduceBNe, Int.reduceAdd, Int.reduceSub, Int.reduceMul, Int.reduceNeg, Int.reduceEq, Int.reduceNe, Int.reduceLT, Int.reduceLE, Int.reduceToNat, reduceDIte, Nat.reduceSucc, evI_callP, callPK_some, I18, hk, s66, h1]
  by_cases h2 : (3000 : Int) < o.body.length
  · simp only [mgC_eq]
    simp (disch := first | omega | (simp only [List.length_cons, List.length_nil, List.length_append, List.length_map, List.length_set]; omega) | rfl | (simp only [List.length_cons, List.length_nil, List.length_append, List.length_map, List.length_set, List.length_replicate, List.all_cons, List.all_nil, List.all_append, storable, plainB, Bool.and_self]; done)) only [go_sem, reduceCtorEq, ↓reduceIte, Nat.reduceEqDiff, Nat.reduceAdd, Nat.reduceSub, Nat.reduceMul, Nat.reduceLeDiff, Nat.reduceLT, Nat.reduceBEq, Nat.reduceBNe, Int.reduceAdd, Int.reduceSub, Int.reduceMul, Int.reduceNeg, Int.reduceEq, Int.reduceNe, Int.reduceLT, Int.reduceLE, Int.reduceToNat, reduceDIte, Nat.reduceSucc, evI_callP, callPK_some, I18, hk, s66, h1, h2]
  have o1 := s69 m (by omega)
  have o2 := s69 o (by omega)
  have o3 := s69 (m.mark k) (by show m.body.length ≤ _; omega)
  have c1 := s72 m
  have c2 := s73 m
  have k1 := s74 m
  have k2 := s75 m
  have d1 := s76 m k hk6 (by omega)
  have d2 := s77 m k hk6 (by omega)
  have e1 := s68 (m.mark k) (m.mark k)
  have e2 := s78 m o
  have e3 := s68 m o
  have e4 := s78 m m
  rw [decide_eq_true rfl] at e1 e4
  generalize m.mark k = mk at *
  generalize decide (m = o) = sm at *
  generalize clsN m.ty = cl at *
  generalize mrkN m = mr at *
  by_cases h4 : 1472 < m.body.length
  · have q1 := ibytes_err m h4
    have q2 := ribytes_err m h4
    have q3 := is_same 1 11
    have q4 : ∀ g g', pcall E 31 [bs g [], bs g' []] = some (.bool true, []) := fun g g' => by rw [s31 g g' [] [] (by simp), decide_eq_true rfl]
    rw [errV_pos _ (by omega)] at q1 q3
    rw [faultC_pos _ (by omega)] at q2 q3
    simp only [mgC_eq, List.map_nil, bs] at q1 q2 q3 q4 o1 o2 o3 c1 c2 k1 k2 d1 d2 e1 e2 e3 e4 ⊢
    simp (disch := first | omega | (simp only [List.length_cons, List.length_nil, List.length_append, List.length_map, List.length_set]; omega) | rfl | (simp only [List.length_cons, List.length_nil, List.length_append, List.length_map, List.length_set, List.length_replicate, List.all_cons, List.all_nil, List.all_append, storable, plainB, Bool.and_self]; done)) only [go_sem, reduceCtorEq, ↓reduceIte, Nat.reduceEqDiff, Nat.reduceAdd, Nat.reduceSub, Nat.reduceMul, Nat.reduceLeDiff, Nat.reduceLT, Nat.reduceBEq, Nat.reduceBNe, Int.reduceAdd, Int.reduceSub, Int.reduceMul, Int.reduceNeg, Int.reduceEq, Int.reduceNe, Int.reduceLT, Int.reduceLE, Int.reduceToNat, reduceDIte, Nat.reduceSucc, evI_callP, callPK_some, I18, hk, s66, h1, h2, q1, q2, q3, q4, o1, o2, o3, c1, c2, k1, k2, d1, d2, e1, e2, e3, e4, bne_self_eq_false]
  have q1 := s64 m (by omega)
  have q2 := s71 m (by omega)
  have q3 := is_same 0 0
  obtain ⟨p1, p2⟩ := ic_back m (by omega)
  have lB := icB_len m
  generalize icB m = B at *
  have q4 : ∀ g g', pcall E 31 [bs g B, bs g' B] = some (.bool true, []) := fun g g' => by rw [s31 g g' B B (by omega), decide_eq_true rfl]
  have q5 := fun g => s65 g B (by omega)
  rw [p1, p2, errV_zero] at q5
  rw [errV_zero, faultC_zero] at q3
  rw [faultC_zero] at q2
  simp only [mgC_eq] at q1 q2 q3 q5 o1 o2 o3 c1 c2 k1 k2 d1 d2 e1 e2 e3 e4 ⊢
  simp (disch := first | omega | (simp only [List.length_cons, List.length_nil, List.length_append, List.length_map, List.length_set]; omega) | rfl | (simp only [List.length_cons, List.length_nil, List.length_append, List.length_map, List.length_set, List.length_replicate, List.all_cons, List.all_nil, List.all_append, storable, plainB, Bool.and_self]; done)) only [go_sem, reduceCtorEq, ↓reduceIte, Nat.reduceEqDiff, Nat.reduceAdd, Nat.reduceSub, Nat.reduceMul, Nat.reduceLeDiff, Nat.reduceLT, Nat.reduceBEq, Nat.reduceBNe, Int.reduceAdd, Int.reduceSub, Int.reduceMul, Int.reduceNeg, Int.reduceEq, Int.reduceNe, Int.reduceLT, Int.reduceLE, Int.reduceToNat, reduceDIte, Nat.reduceSucc, evI_callP, callPK_some, I18, hk, s66, h1, h2, q1, q2, q3, q4, q5, o1, o2, o3, c1, c2, k1, k2, d1, d2, e1, e2, e3, e4, bne_self_eq_false]

theorem pkOf_body (w : Bool) (b : List UInt8) : (pkOf w b).body.length ≤ b.length := by
  unfold pkOf
  split
  · show ((b.take (min (n2 b 2) b.length)).drop 20).length ≤ _
    rw [List.length_drop, List.length_take]
    omega
  · show ([] : List UInt8).length ≤ _
    simp
theorem inP_body (m : Mg) : (inP m).body.length ≤ m.body.length := by
  unfold inP
  split
  · exact pkOf_body false m.body
  · show ([] : List UInt8).length ≤ _
    simp
theorem law19 (m : Mg) (kd cd : UInt8) (p : Pk) : pcall E 19 [.agg (mgC m), .int .u8 (kd.toNat : Int), .int .u8 (cd.toNat : Int), .agg (pkC p)] = some (.bool true, []) := by
  rw [pcall_go (fn := I19) rfl rfl rfl]
  have hk : E.keep 19 = false := rfl
  by_cases h1 : (3000 : Int) < m.body.length
  · simp only [mgC_eq, pkC_eq]
    simp (disch := first | omega | (simp only [List.length_cons, List.length_nil, List.length_append, List.length_map, List.length_set]; omega) | rfl | (simp only [List.length_cons, List.length_nil, List.length_append, List.length_map, List.length_set, List.length_replicate, List.all_cons, List.all_nil, List.all_append, storable, plainB, Bool.and_self]; done)) only [go_sem, reduceCtorEq, ↓reduceIte, Nat.reduceEqDiff, Nat.reduceAdd, Nat.reduceSub, Nat.reduceMul, Nat.reduceLeDiff, Nat.reduceLT, Nat.reduceBEq, Nat.reduceBNe, Int.reduceAdd, Int.reduceSub, Int.reduceMul, Int.reduceNeg, Int.reduceEq, Int.reduceNe, Int.reduceLT, Int.reduceLE, Int.reduceToNat, reduceDIte, Nat.reduceSucc, evI_callP, callPK_some, I19, hk, s66, h1]
  by_cases h2 : (3000 : Int) < p.body.length
  · simp only [mgC_eq, pkC_eq]
    simp (disch := first | omega | (simp only [List.length_cons, List.length_nil, List.length_append, List.length_map, List.length_set]; omega) | rfl | (simp only [List.length_cons, List.length_nil, List.length_append, List.length_map, List.length_set, List.length_replicate, List.all_cons, List.all_nil, List.all_append, storable, plainB, Bool.and_self]; done)) only [go_sem, reduceCtorEq, ↓reduceIte, Nat.reduceEqDiff, Nat.reduceAdd, Nat.reduceSub, Nat.reduceMul, Nat.reduceLeDiff, Nat.reduceLT, Nat.reduceBEq, Nat.reduceBNe, Int.reduceAdd, Int.reduceSub, Int.reduceMul, Int.reduceNeg, Int.reduceEq, Int.reduceNe, Int.reduceLT, Int.reduceLE, Int.reduceToNat, reduceDIte, Nat.reduceSucc, evI_callP, callPK_some, I19, hk, s66, h1, h2]
  have q1 := s79 m (by omega)
  have q2 := s80 m (by omega)
  have q3 := is_same (inE m).1 (inE m).2
  have hib := inP_body m
  have o1 := s69 m (by omega)
  have o2 := s50 (inP m) (by omega)
  have o3 := s50 p (by omega)
  have e1 := s54 (inP m) (inP m)
  have r1 := s81 kd cd p (by omega)
  have r2 := s82 kd cd p (by omega)
  have hml : (mgErr kd cd p).body.length ≤ 1048576 := by
    show (hdB p p.body.length ++ p.body.take 8).length ≤ _
    rw [List.length_append, hdB_len, List.length_take]
    omega
  have o4 := s69 (mgErr kd cd p) hml
  have e2 := s68 (mgErr kd cd p) (mgErr kd cd p)
  rw [decide_eq_true rfl] at e1 e2
  generalize mgErr kd cd p = me at *
  generalize inP m = ip at *
  generalize (inE m).1 = r at *
  generalize (inE m).2 = n at *
  simp only [mgC_eq, pkC_eq] at q1 q2 o1 o2 o3 o4 e1 e2 r1 r2 ⊢
  by_cases hn : n = 0
  · subst hn
    rw [errV_zero] at q1 q3
    rw [faultC_zero] at q2 q3
    simp (disch := first | omega | (simp only [List.length_cons, List.length_nil, List.length_append, List.length_map, List.length_set]; omega) | rfl | (simp only [List.length_cons, List.length_nil, List.length_append, List.length_map, List.length_set, List.length_replicate, List.all_cons, List.all_nil, List.all_append, storable, plainB, Bool.and_self]; done)) only [go_sem, reduceCtorEq, ↓reduceIte, Nat.reduceEqDiff, Nat.reduceAdd, Nat.reduceSub, Nat.reduceMul, Nat.reduceLeDiff, Nat.reduceLT, Nat.reduceBEq, Nat.reduceBNe, Int.reduceAdd, Int.reduceSub, Int.reduceMul, Int.reduceNeg, Int.reduceEq, Int.reduceNe, Int.reduceLT, Int.reduceLE, Int.reduceToNat, reduceDIte, Nat.reduceSucc, evI_callP, callPK_some, I19, hk, s66, h1, h2, q1, q2, q3, o1, o2, o3, o4, e1, e2, r1, r2]
  · rw [errV_pos _ hn] at q1 q3
    rw [faultC_pos _ hn] at q2 q3
    simp (disch := first | omega | (simp only [List.length_cons, List.length_nil, List.length_append, List.length_map, List.length_set]; omega) | rfl | (simp only [List.length_cons, List.length_nil, List.length_append, List.length_map, List.length_set, List.length_replicate, List.all_cons, List.all_nil, List.all_append, storable, plainB, Bool.and_self]; done)) only [go_sem, reduceCtorEq, ↓reduceIte, Nat.reduceEqDiff, Nat.reduceAdd, Nat.reduceSub, Nat.reduceMul, Nat.reduceLeDiff, Nat.reduceLT, Nat.reduceBEq, Nat.reduceBNe, Int.reduceAdd, Int.reduceSub, Int.reduceMul, Int.reduceNeg, Int.reduceEq, Int.reduceNe, Int.reduceLT, Int.reduceLE, Int.reduceToNat, reduceDIte, Nat.reduceSucc, evI_callP, callPK_some, I19, hk, s66, h1, h2, q1, q2, q3, o1, o2, o3, o4, e1, e2, r1, r2]

theorem mrk_mark (m : Mg) (k : Nat) (h : k < 65536) : mrkN (m.mark k) = k := by
  show (UInt8.ofNat (k / 256)).toNat * 256 + (UInt8.ofNat k).toNat = k
  rw [UInt8.toNat_ofNat', UInt8.toNat_ofNat']
  omega
theorem mark_back (m : Mg) (k : Nat) : (m.mark k).mark (mrkN m) = m := by
  have l1 := m.r0.toNat_lt
  have l2 := m.r1.toNat_lt
  have e1 : UInt8.ofNat (mrkN m / 256) = m.r0 := by
    unfold mrkN
    rw [show (m.r0.toNat * 256 + m.r1.toNat) / 256 = m.r0.toNat by omega, UInt8.ofNat_toNat]
  have e2 : UInt8.ofNat (mrkN m) = m.r1 := by
    apply UInt8.toNat_inj.1
    unfold mrkN
    rw [UInt8.toNat_ofNat']
    omega
  show (⟨m.ty, m.co, UInt8.ofNat (mrkN m / 256), UInt8.ofNat (mrkN m), m.r2, m.r3, m.body⟩ : Mg) = m
  rw [e1, e2]
theorem law20 (m : Mg) (k : Nat) (hk6 : k < 65536) : pcall E 20 [.agg (mgC m), .int .u16 (k : Int)] = some (.bool true, []) := by
  rw [pcall_go (fn := I20) rfl rfl rfl]
  have hk : E.keep 20 = false := rfl
  by_cases h1 : (3000 : Int) < m.body.length
  · simp only [mgC_eq]
    simp (disch := first | omega | (simp only [List.length_cons, List.length_nil, List.length_append, List.length_map, List.length_set]; omega) | rfl | (simp only [List.length_cons, List.length_nil, List.length_append, List.length_map, List.length_set, List.length_replicate, List.all_cons, List.all_nil, List.all_append, storable, plainB, Bool.and_self]; done)) only [go_sem, reduceCtorEq, ↓reduceIte, Nat.reduceEqDiff, Nat.reduceAdd, Nat.reduceSub, Nat.reduceMul, Nat.reduceLeDiff, Nat.reduceLT, Nat.reduceBEq, Nat.reduceBNe, Int.reduceAdd, Int.reduceSub, Int.reduceMul, Int.reduceNeg, Int.reduceEq, Int.reduceNe, Int.reduceLT, Int.reduceLE, Int.reduceToNat, reduceDIte, Nat.reduceSucc, evI_callP, callPK_some, I20, hk, s66, h1]
  have d1 := s76 m k hk6 (by omega)
  have d2 := s76 (m.mark k) (mrkN m) (mrkN_lt m) (by show m.body.length ≤ _; omega)
  rw [mark_back] at d2
  have k1 := s74 m
  have k2 := s74 (m.mark k)
  rw [mrk_mark m k hk6] at k2
  have c1 := s72 m
  have c2 := s72 (m.mark k)
  have c3 := s72 ⟨m.ty, 0, 0, 0, 0, 0, []⟩
  have e4 := s78 m m
  rw [decide_eq_true rfl] at e4
  have emg : mgC (m.mark k) = [.int .u8 (m.ty.toNat : Int), .int .u8 (m.co.toNat : Int), .int .u8 ((UInt8.ofNat (k / 256)).toNat : Int), .int .u8 ((UInt8.ofNat k).toNat : Int), .int .u8 (m.r2.toNat : Int), .int .u8 (m.r3.toNat : Int), bs false m.body] := rfl
  have ebr : mgC ⟨m.ty, 0, 0, 0, 0, 0, []⟩ = [.int .u8 (m.ty.toNat : Int), .int .u8 0, .int .u8 0, .int .u8 0, .int .u8 0, .int .u8 0, .rs false 1 []] := rfl
  have ety : (m.mark k).ty = m.ty := rfl
  have qq : ∀ g g', pcall E 31 [bs g m.body, bs g' m.body] = some (.bool true, []) := fun g g' => by rw [s31 g g' m.body m.body (by omega), decide_eq_true rfl]
  rw [ety] at c2
  rw [emg] at d1 d2 k2 c2
  rw [ebr] at c3
  generalize UInt8.ofNat (k / 256) = z1 at *
  generalize UInt8.ofNat k = z2 at *
  generalize mrkN m = mr at *
  generalize clsN m.ty = cl at *
  simp only [mgC_eq] at d1 d2 k1 c1 e4 ⊢
  simp (disch := first | omega | (simp only [List.length_cons, List.length_nil, List.length_append, List.length_map, List.length_set]; omega) | rfl | (simp only [List.length_cons, List.length_nil, List.length_append, List.length_map, List.length_set, List.length_replicate, List.all_cons, List.all_nil, List.all_append, storable, plainB, Bool.and_self]; done)) only [go_sem, reduceCtorEq, ↓reduceIte, Nat.reduceEqDiff, Nat.reduceAdd, Nat.reduceSub, Nat.reduceMul, Nat.reduceLeDiff, Nat.reduceLT, Nat.reduceBEq, Nat.reduceBNe, Int.reduceAdd, Int.reduceSub, Int.reduceMul, Int.reduceNeg, Int.reduceEq, Int.reduceNe, Int.reduceLT, Int.reduceLE, Int.reduceToNat, reduceDIte, Nat.reduceSucc, evI_callP, callPK_some, I20, hk, s66, h1, d1, d2, k1, k2, c1, c2, c3, e4, qq, iaddrA_ref]

/-! ### at arguments as they are read -/

theorem pkA_arg {x : AV} (h : Arg Tryd.prog 69 x) : ∃ p : Pk, x = .agg (pkC p) := by
  obtain ⟨ys, hl, hy, rfl⟩ := h.struct_inv Tryd.underlying69
  match ys, hl with
  | [y0, y1, y2, y3, y4, y5, y6, y7], _ =>
    obtain ⟨a, rfl⟩ := u8_arg (hy 0 _ y0 rfl rfl)
    obtain ⟨b, rfl⟩ := U16_arg (hy 1 _ y1 rfl rfl)
    obtain ⟨c, rfl⟩ := bool_arg (hy 2 _ y2 rfl rfl)
    obtain ⟨d, rfl⟩ := u8_arg (hy 3 _ y3 rfl rfl)
    obtain ⟨e, rfl⟩ := u8_arg (hy 4 _ y4 rfl rfl)
    obtain ⟨f, rfl⟩ := U32_arg (hy 5 _ y5 rfl rfl)
    obtain ⟨g, rfl⟩ := U32_arg (hy 6 _ y6 rfl rfl)
    obtain ⟨l, rfl, _⟩ := bytes_arg (hy 7 _ y7 rfl rfl)
    exact ⟨⟨a, b, c, d, e, f, g, l⟩, rfl⟩
theorem mg_arg {x : AV} (h : Arg Tryd.prog 100 x) : ∃ m : Mg, x = .agg (mgC m) := by
  obtain ⟨ys, hl, hy, rfl⟩ := h.struct_inv Tryd.underlying100
  match ys, hl with
  | [y0, y1, y2, y3], _ =>
    obtain ⟨a, rfl⟩ := u8_arg (hy 0 _ y0 rfl rfl)
    obtain ⟨b, rfl⟩ := u8_arg (hy 1 _ y1 rfl rfl)
    obtain ⟨zs, hzl, hz, rfl⟩ := (hy 2 _ y2 rfl rfl).array_inv Tryd.underlying98
    obtain ⟨l, rfl, _⟩ := bytes_arg (hy 3 _ y3 rfl rfl)
    match zs, hzl with
    | [z0, z1, z2, z3], _ =>
      obtain ⟨c, rfl⟩ := u8_arg (hz z0 (by simp))
      obtain ⟨d, rfl⟩ := u8_arg (hz z1 (by simp))
      obtain ⟨e, rfl⟩ := u8_arg (hz z2 (by simp))
      obtain ⟨f, rfl⟩ := u8_arg (hz z3 (by simp))
      exact ⟨⟨a, b, c, d, e, f, l⟩, rfl⟩
theorem end17 (xs : List AV) (hl : xs.length = [22].length) (h : ∀ (j : Nat) t x, ([22] : List TypeId)[j]? = some t → xs[j]? = some x → Arg Tryd.prog t x) : pcall E 17 xs = some (.bool true, []) := by
  match xs, hl with
  | [x0], _ =>
    obtain ⟨b, rfl, _⟩ := bytes_arg (h 0 _ x0 rfl rfl)
    exact law17 b
theorem end18 (xs : List AV) (hl : xs.length = [100, 100, 26].length) (h : ∀ (j : Nat) t x, ([100, 100, 26] : List TypeId)[j]? = some t → xs[j]? = some x → Arg Tryd.prog t x) : pcall E 18 xs = some (.bool true, []) := by
  match xs, hl with
  | [x0, x1, x2], _ =>
    obtain ⟨m, rfl⟩ := mg_arg (h 0 _ x0 rfl rfl)
    obtain ⟨o, rfl⟩ := mg_arg (h 1 _ x1 rfl rfl)
    obtain ⟨k, rfl, hk⟩ := u16_arg (h 2 _ x2 rfl rfl)
    exact law18 m o k hk
theorem end19 (xs : List AV) (hl : xs.length = [100, 5, 5, 69].length) (h : ∀ (j : Nat) t x, ([100, 5, 5, 69] : List TypeId)[j]? = some t → xs[j]? = some x → Arg Tryd.prog t x) : pcall E 19 xs = some (.bool true, []) := by
  match xs, hl with
  | [x0, x1, x2, x3], _ =>
    obtain ⟨m, rfl⟩ := mg_arg (h 0 _ x0 rfl rfl)
    obtain ⟨a, rfl⟩ := u8_arg (h 1 _ x1 rfl rfl)
    obtain ⟨b, rfl⟩ := u8_arg (h 2 _ x2 rfl rfl)
    obtain ⟨p, rfl⟩ := pkA_arg (h 3 _ x3 rfl rfl)
    exact law19 m a b p
theorem end20 (xs : List AV) (hl : xs.length = [100, 26].length) (h : ∀ (j : Nat) t x, ([100, 26] : List TypeId)[j]? = some t → xs[j]? = some x → Arg Tryd.prog t x) : pcall E 20 xs = some (.bool true, []) := by
  match xs, hl with
  | [x0, x1], _ =>
    obtain ⟨m, rfl⟩ := mg_arg (h 0 _ x0 rfl rfl)
    obtain ⟨k, rfl, hk⟩ := u16_arg (h 1 _ x1 rfl rfl)
    exact law20 m k hk
end Go.Fw.Wd
