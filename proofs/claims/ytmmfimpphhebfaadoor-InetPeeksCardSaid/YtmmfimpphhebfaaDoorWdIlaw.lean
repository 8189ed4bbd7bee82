/-
  The laws on packets at the evaluation. Conditions: stated at each.
-/
import Derived.Test.YtmmfimpphhebfaaDoorWdIparse
set_option linter.unusedVariables false
set_option linter.unusedSimpArgs false
namespace Go.Fw.Wd
open Go.Proofs Code_

theorem s47 : pcall E 47 [] = some (.bool true, []) := pcall_run 100 (by kernel_rfl)
theorem law9 (p o : Pk) (z : List UInt8) : pcall E 9 [.agg (pkC p), .agg (pkC o), bs false z] = some (.bool true, []) := by
  rw [pcall_go (fn := I9) rfl rfl rfl]
  have hk : E.keep 9 = false := rfl
  by_cases h1 : (3000 : Int) < p.body.length
  · simp only [pkC_eq]
    simp (disch := first | omega | (simp only [List.length_cons, List.length_nil, List.length_append, List.length_map, List.length_set]; omega) | rfl | (simp only [List.length_cons, List.length_nil, List.length_append, List.length_map, List.length_set, List.length_replicate, List.all_cons, List.all_nil, List.all_append, storable, plainB, Bool.and_self]; done)) only [go_sem, reduceCtorEq, ↓reduceIte, Nat.reduceEqDiff, Nat.reduceAdd, Nat.reduceSub, Nat.reduceMul, Nat.reduceLeDiff, Nat.reduceLT, Nat.reduceBEq, Nat.reduceBNe, Int.reduceAdd, Int.reduceSub, Int.reduceMul, Int.reduceNeg, Int.reduceEq, Int.reduceNe, Int.reduceLT, Int.reduceLE, Int.reduceToNat, reduceDIte, Nat.reduceSucc, evI_callP, callPK_some, I9, hk, s47, h1]
  by_cases h2 : (3000 : Int) < o.body.length
  · simp only [pkC_eq]
    simp (disch := first | omega | (simp only [List.length_cons, List.length_nil, List.length_append, List.length_map, List.length_set]; omega) | rfl | (simp only [List.length_cons, List.length_nil, List.length_append, List.length_map, List.length_set, List.length_replicate, List.all_cons, List.all_nil, List.all_append, storable, plainB, Bool.and_self]; done)) only [go_sem, reduceCtorEq, ↓reduceIte, Nat.reduceEqDiff, Nat.reduceAdd, Nat.reduceSub, Nat.reduceMul, Nat.reduceLeDiff, Nat.reduceLT, Nat.reduceBEq, Nat.reduceBNe, Int.reduceAdd, Int.reduceSub, Int.reduceMul, Int.reduceNeg, Int.reduceEq, Int.reduceNe, Int.reduceLT, Int.reduceLE, Int.reduceToNat, reduceDIte, Nat.reduceSucc, evI_callP, callPK_some, I9, hk, s47, h1, h2]
  by_cases h3 : (300 : Int) < z.length
  · simp only [pkC_eq]
    simp (disch := first | omega | (simp only [List.length_cons, List.length_nil, List.length_append, List.length_map, List.length_set]; omega) | rfl | (simp only [List.length_cons, List.length_nil, List.length_append, List.length_map, List.length_set, List.length_replicate, List.all_cons, List.all_nil, List.all_append, storable, plainB, Bool.and_self]; done)) only [go_sem, reduceCtorEq, ↓reduceIte, Nat.reduceEqDiff, Nat.reduceAdd, Nat.reduceSub, Nat.reduceMul, Nat.reduceLeDiff, Nat.reduceLT, Nat.reduceBEq, Nat.reduceBNe, Int.reduceAdd, Int.reduceSub, Int.reduceMul, Int.reduceNeg, Int.reduceEq, Int.reduceNe, Int.reduceLT, Int.reduceLE, Int.reduceToNat, reduceDIte, Nat.reduceSucc, evI_callP, callPK_some, I9, hk, s47, h1, h2, h3]
  have o1 := s50 p (by omega)
  have o2 := s50 o (by omega)
  have e1 := s53 p o
  have e2 := s54 p o
  have k1 := s51 p (by omega)
  have k2 := s52 p (by omega)
  have hk1 : E.keep 51 = true := rfl
  have hk2 : E.keep 52 = true := rfl
  have hl := hdB_len p p.body.length
  have hs := hdB_sum p p.body.length
  have hp1 := hd_parse p p.body.length (by omega) (p.body ++ z)
  have hp2 := hd_parse p p.body.length (by omega) p.body
  rw [hk1, kone_t] at k1
  rw [hk2, kone_t] at k2
  generalize decide (p = o) = sm at *
  by_cases h4 : 1480 < p.body.length
  · have q1 := pbytes_err p h4
    have q2 := rpbytes_err p h4
    have q3 := is_same 1 11
    have q4 := fun g g' => s31 g g' [] [] (by simp)
    generalize hdB p p.body.length = H at *
    have q5 := fun g g' => s31 g g' H H (by omega)
    rw [errV_pos _ (by omega)] at q1 q3
    rw [faultC_pos _ (by omega)] at q2 q3
    clear hp1 hp2
    simp only [pkC_eq, List.map_nil, bs] at q1 q2 q3 q4 o1 o2 e1 e2 k1 k2 ⊢
    simp (disch := first | omega | (simp only [List.length_cons, List.length_nil, List.length_append, List.length_map, List.length_set]; omega) | rfl | (simp only [List.length_cons, List.length_nil, List.length_append, List.length_map, List.length_set, List.length_replicate, List.all_cons, List.all_nil, List.all_append, storable, plainB, Bool.and_self]; done)) only [go_sem, reduceCtorEq, ↓reduceIte, Nat.reduceEqDiff, Nat.reduceAdd, Nat.reduceSub, Nat.reduceMul, Nat.reduceLeDiff, Nat.reduceLT, Nat.reduceBEq, Nat.reduceBNe, Int.reduceAdd, Int.reduceSub, Int.reduceMul, Int.reduceNeg, Int.reduceEq, Int.reduceNe, Int.reduceLT, Int.reduceLE, Int.reduceToNat, reduceDIte, Nat.reduceSucc, evI_callP, callPK_some, I9, hk, s47, h1, h2, h3, q1, q2, q3, q4, q5, o1, o2, e1, e2, k1, k2, hl]
  have q1 := s48 p (by omega)
  have q2 := s49 p (by omega)
  have q3 := is_same 0 0
  obtain ⟨_, m1, _, _⟩ := hp1
  obtain ⟨m1, m2⟩ := m1 (by rw [List.length_append]; omega)
  obtain ⟨_, _, m3, m4⟩ := hp2
  rw [List.take_left] at m2
  rw [List.take_length] at m4
  rw [Pk.with_self] at m2 m4
  rw [← List.append_assoc] at m1 m2
  generalize hdB p p.body.length = H at *
  obtain ⟨B, hB⟩ : ∃ B, B = H ++ p.body := ⟨_, rfl⟩
  have lB : B.length = 20 + p.body.length := by rw [hB, List.length_append, hl]
  rw [← hB] at q1 q2 m1 m2 m3 m4
  obtain ⟨w, hw⟩ : ∃ w, w = B ++ z := ⟨_, rfl⟩
  have lw : w.length = 20 + p.body.length + z.length := by rw [hw, List.length_append, lB]
  rw [← hw] at m1 m2
  have a1 : ∀ h i n, n = z.length → appR h 1 1 5 (z.map by8) n i 0 (20 + p.body.length) (some (.row 0 1 (B.map by8) 5)) = some (.sl 1 i 1 0 (20 + p.body.length + z.length), h.set i (.row 1 1 (w.map by8) 5)) := fun h i n hn => by rw [hw, hn]; exact appR_by8 h 1 5 i 0 (20 + p.body.length) z.length B z lB (by omega) (by omega)
  have q4 := fun g g' => s31 g g' B B (by omega)
  have q5 := fun g g' => s31 g g' H H (by omega)
  have q6 := fun g => s25 g B (by omega)
  have q7 := fun g => s55 g w (by omega)
  have q8 := fun g => s56 g B (by omega)
  have q9 := s53 p p
  rw [decide_eq_true rfl] at q9
  have ec : ∀ g, cat [(g, H)] = H := fun g => by simp [cat]
  have qr := fun g g1 => s57 g1 [(g, H)] (by simp) (by rw [ec]; omega)
  simp only [ec, hs, decide_true] at qr
  simp only [List.map_cons, List.map_nil, encP_eq] at qr
  rw [m1, m2] at q7
  rw [m3, m4] at q8
  rw [errV_zero] at q3 q7 q8
  rw [faultC_zero] at q2 q3
  rw [lB] at q6
  clear hw hB
  simp only [pkC_eq] at q1 q2 q7 q8 q9 o1 o2 e1 e2 k1 k2 ⊢
  simp (disch := first | omega | (simp only [List.length_cons, List.length_nil, List.length_append, List.length_map, List.length_set]; omega) | rfl | (simp only [List.length_cons, List.length_nil, List.length_append, List.length_map, List.length_set, List.length_replicate, List.all_cons, List.all_nil, List.all_append, storable, plainB, Bool.and_self]; done)) only [go_sem, reduceCtorEq, ↓reduceIte, Nat.reduceEqDiff, Nat.reduceAdd, Nat.reduceSub, Nat.reduceMul, Nat.reduceLeDiff, Nat.reduceLT, Nat.reduceBEq, Nat.reduceBNe, Int.reduceAdd, Int.reduceSub, Int.reduceMul, Int.reduceNeg, Int.reduceEq, Int.reduceNe, Int.reduceLT, Int.reduceLE, Int.reduceToNat, reduceDIte, Nat.reduceSucc, evI_callP, callPK_some, I9, hk, s47, h1, h2, h3, q1, q2, q3, q4, q5, q6, q7, q8, q9, qr, o1, o2, e1, e2, k1, k2, a1, hl, lB, lw]

theorem law10 (p : Pk) (at_ : Int) (d : UInt8) : pcall E 10 [.agg (pkC p), .int .i64 at_, .int .u8 (d.toNat : Int)] = some (.bool true, []) := by
  rw [pcall_go (fn := I10) rfl rfl rfl]
  have hk : E.keep 10 = false := rfl
  by_cases h1 : 1480 < p.body.length
  · have q1 := pbytes_err p h1
    rw [errV_pos _ (by omega)] at q1
    simp only [pkC_eq, List.map_nil, bs] at q1 ⊢
    simp (disch := first | omega | (simp only [List.length_cons, List.length_nil, List.length_append, List.length_map, List.length_set]; omega) | rfl | (simp only [List.length_cons, List.length_nil, List.length_append, List.length_map, List.length_set, List.length_replicate, List.all_cons, List.all_nil, List.all_append, storable, plainB, Bool.and_self]; done)) only [go_sem, reduceCtorEq, ↓reduceIte, Nat.reduceEqDiff, Nat.reduceAdd, Nat.reduceSub, Nat.reduceMul, Nat.reduceLeDiff, Nat.reduceLT, Nat.reduceBEq, Nat.reduceBNe, Int.reduceAdd, Int.reduceSub, Int.reduceMul, Int.reduceNeg, Int.reduceEq, Int.reduceNe, Int.reduceLT, Int.reduceLE, Int.reduceToNat, reduceDIte, Nat.reduceSucc, evI_callP, callPK_some, I10, hk, s47, q1]
  have q1 := s48 p (by omega)
  have hl := hdB_len p p.body.length
  have hsp := hd_spoilt p p.body.length p.body
  obtain ⟨B, hB⟩ : ∃ B, B = hdB p p.body.length ++ p.body := ⟨_, rfl⟩
  have lB : B.length = 20 + p.body.length := by rw [hB, List.length_append, hl]
  rw [← hB] at q1 hsp
  by_cases h2 : at_ < 0
  · simp only [pkC_eq] at q1 ⊢
    simp (disch := first | omega | (simp only [List.length_cons, List.length_nil, List.length_append, List.length_map, List.length_set]; omega) | rfl | (simp only [List.length_cons, List.length_nil, List.length_append, List.length_map, List.length_set, List.length_replicate, List.all_cons, List.all_nil, List.all_append, storable, plainB, Bool.and_self]; done)) only [go_sem, reduceCtorEq, ↓reduceIte, Nat.reduceEqDiff, Nat.reduceAdd, Nat.reduceSub, Nat.reduceMul, Nat.reduceLeDiff, Nat.reduceLT, Nat.reduceBEq, Nat.reduceBNe, Int.reduceAdd, Int.reduceSub, Int.reduceMul, Int.reduceNeg, Int.reduceEq, Int.reduceNe, Int.reduceLT, Int.reduceLE, Int.reduceToNat, reduceDIte, Nat.reduceSucc, evI_callP, callPK_some, I10, hk, s47, q1, h2]
  by_cases h3 : (19 : Int) < at_
  · simp only [pkC_eq] at q1 ⊢
    simp (disch := first | omega | (simp only [List.length_cons, List.length_nil, List.length_append, List.length_map, List.length_set]; omega) | rfl | (simp only [List.length_cons, List.length_nil, List.length_append, List.length_map, List.length_set, List.length_replicate, List.all_cons, List.all_nil, List.all_append, storable, plainB, Bool.and_self]; done)) only [go_sem, reduceCtorEq, ↓reduceIte, Nat.reduceEqDiff, Nat.reduceAdd, Nat.reduceSub, Nat.reduceMul, Nat.reduceLeDiff, Nat.reduceLT, Nat.reduceBEq, Nat.reduceBNe, Int.reduceAdd, Int.reduceSub, Int.reduceMul, Int.reduceNeg, Int.reduceEq, Int.reduceNe, Int.reduceLT, Int.reduceLE, Int.reduceToNat, reduceDIte, Nat.reduceSucc, evI_callP, callPK_some, I10, hk, s47, q1, h2, h3]
  by_cases h4 : (d.toNat : Int) = 0
  · simp only [pkC_eq] at q1 ⊢
    simp (disch := first | omega | (simp only [List.length_cons, List.length_nil, List.length_append, List.length_map, List.length_set]; omega) | rfl | (simp only [List.length_cons, List.length_nil, List.length_append, List.length_map, List.length_set, List.length_replicate, List.all_cons, List.all_nil, List.all_append, storable, plainB, Bool.and_self]; done)) only [go_sem, reduceCtorEq, ↓reduceIte, Nat.reduceEqDiff, Nat.reduceAdd, Nat.reduceSub, Nat.reduceMul, Nat.reduceLeDiff, Nat.reduceLT, Nat.reduceBEq, Nat.reduceBNe, Int.reduceAdd, Int.reduceSub, Int.reduceMul, Int.reduceNeg, Int.reduceEq, Int.reduceNe, Int.reduceLT, Int.reduceLE, Int.reduceToNat, reduceDIte, Nat.reduceSucc, evI_callP, callPK_some, I10, hk, s47, q1, h2, h3, h4]
  obtain ⟨i, rfl⟩ : ∃ i : Nat, at_ = (i : Int) := ⟨at_.toNat, by omega⟩
  obtain ⟨c, hc⟩ : ∃ c, c = B.set i (UInt8.ofNat ((nth B i).toNat + d.toNat)) := ⟨_, rfl⟩
  have lc : c.length = 20 + p.body.length := by rw [hc, List.length_set, lB]
  have hbad := hsp i (by omega) d (fun h => h4 (by rw [h]; rfl)) c hc
  have qP := fun g => s55 g c (by omega)
  have hz : pkOf true c = Pk.zero := by unfold pkOf; rw [if_neg hbad]
  rw [hz, errV_pos _ hbad] at qP
  have qS := s53 Pk.zero Pk.zero
  rw [decide_eq_true rfl] at qS
  have w : IntKind.u8.wrap (((nth B i).toNat : Int) + (d.toNat : Int)) = ((UInt8.ofNat ((nth B i).toNat + d.toNat)).toNat : Int) := by
    have := wrapU8 ((nth B i).toNat + d.toNat)
    rwa [Int.natCast_add] at this
  have iai : ∀ (v : List UInt8) (t : TypeId) (l : Heap), iaddrK (.row 0 1 (v.map by8) t :: l) 1 (.sl 1 0 0 0 (20 + p.body.length)) (.int .i64 (i : Int)) = some (.ref 0 0 i, .row 0 1 (v.map by8) t :: l) := fun v t l => by
    have := iaddrK_sl (.row 0 1 (v.map by8) t :: l) 1 0 0 0 (20 + p.body.length) .i64 (i : Int) (by omega) (by omega) rfl
    simpa using this
  have hst : ∀ h t, stR h 0 0 i (.int .u8 ((UInt8.ofNat ((nth B i).toNat + d.toNat)).toNat : Int)) (some (.row 0 1 (B.map by8) t)) = some (h.set 0 (.row 0 1 (c.map by8) t)) := fun h t => by rw [hc]; exact stR_by8 h 0 0 i B _ t (by omega)
  have h20 : ¬ (20 : Int) + (p.body.length : Int) < 20 := by omega
  clear hsp hB hc hbad hz
  simp only [pkC_zero] at qP qS
  simp only [pkC_eq] at q1 ⊢
  simp (disch := first | omega | (simp only [List.length_cons, List.length_nil, List.length_append, List.length_map, List.length_set]; omega) | rfl | (simp only [List.length_cons, List.length_nil, List.length_append, List.length_map, List.length_set, List.length_replicate, List.all_cons, List.all_nil, List.all_append, storable, plainB, Bool.and_self]; done)) only [go_sem, reduceCtorEq, ↓reduceIte, Nat.reduceEqDiff, Nat.reduceAdd, Nat.reduceSub, Nat.reduceMul, Nat.reduceLeDiff, Nat.reduceLT, Nat.reduceBEq, Nat.reduceBNe, Int.reduceAdd, Int.reduceSub, Int.reduceMul, Int.reduceNeg, Int.reduceEq, Int.reduceNe, Int.reduceLT, Int.reduceLE, Int.reduceToNat, reduceDIte, Nat.reduceSucc, evI_callP, callPK_some, I10, hk, s47, q1, h2, h3, h4, h20, iai, hst, w, lB, lc, qP, qS]

theorem law11 (p : Pk) (cut : Int) : pcall E 11 [.agg (pkC p), .int .i64 cut] = some (.bool true, []) := by
  rw [pcall_go (fn := I11) rfl rfl rfl]
  have hk : E.keep 11 = false := rfl
  by_cases h1 : 1480 < p.body.length
  · have q1 := pbytes_err p h1
    rw [errV_pos _ (by omega)] at q1
    simp only [pkC_eq, List.map_nil, bs] at q1 ⊢
    simp (disch := first | omega | (simp only [List.length_cons, List.length_nil, List.length_append, List.length_map, List.length_set]; omega) | rfl | (simp only [List.length_cons, List.length_nil, List.length_append, List.length_map, List.length_set, List.length_replicate, List.all_cons, List.all_nil, List.all_append, storable, plainB, Bool.and_self]; done)) only [go_sem, reduceCtorEq, ↓reduceIte, Nat.reduceEqDiff, Nat.reduceAdd, Nat.reduceSub, Nat.reduceMul, Nat.reduceLeDiff, Nat.reduceLT, Nat.reduceBEq, Nat.reduceBNe, Int.reduceAdd, Int.reduceSub, Int.reduceMul, Int.reduceNeg, Int.reduceEq, Int.reduceNe, Int.reduceLT, Int.reduceLE, Int.reduceToNat, reduceDIte, Nat.reduceSucc, evI_callP, callPK_some, I11, hk, s47, q1]
  have q1 := s48 p (by omega)
  have hl := hdB_len p p.body.length
  obtain ⟨B, hB⟩ : ∃ B, B = hdB p p.body.length ++ p.body := ⟨_, rfl⟩
  have lB : B.length = 20 + p.body.length := by rw [hB, List.length_append, hl]
  rw [← hB] at q1
  by_cases h2 : cut < 0
  · simp only [pkC_eq] at q1 ⊢
    simp (disch := first | omega | (simp only [List.length_cons, List.length_nil, List.length_append, List.length_map, List.length_set]; omega) | rfl | (simp only [List.length_cons, List.length_nil, List.length_append, List.length_map, List.length_set, List.length_replicate, List.all_cons, List.all_nil, List.all_append, storable, plainB, Bool.and_self]; done)) only [go_sem, reduceCtorEq, ↓reduceIte, Nat.reduceEqDiff, Nat.reduceAdd, Nat.reduceSub, Nat.reduceMul, Nat.reduceLeDiff, Nat.reduceLT, Nat.reduceBEq, Nat.reduceBNe, Int.reduceAdd, Int.reduceSub, Int.reduceMul, Int.reduceNeg, Int.reduceEq, Int.reduceNe, Int.reduceLT, Int.reduceLE, Int.reduceToNat, reduceDIte, Nat.reduceSucc, evI_callP, callPK_some, I11, hk, s47, q1, h2]
  by_cases h3 : (20 + p.body.length : Int) ≤ cut
  · simp only [pkC_eq] at q1 ⊢
    simp (disch := first | omega | (simp only [List.length_cons, List.length_nil, List.length_append, List.length_map, List.length_set]; omega) | rfl | (simp only [List.length_cons, List.length_nil, List.length_append, List.length_map, List.length_set, List.length_replicate, List.all_cons, List.all_nil, List.all_append, storable, plainB, Bool.and_self]; done)) only [go_sem, reduceCtorEq, ↓reduceIte, Nat.reduceEqDiff, Nat.reduceAdd, Nat.reduceSub, Nat.reduceMul, Nat.reduceLeDiff, Nat.reduceLT, Nat.reduceBEq, Nat.reduceBNe, Int.reduceAdd, Int.reduceSub, Int.reduceMul, Int.reduceNeg, Int.reduceEq, Int.reduceNe, Int.reduceLT, Int.reduceLE, Int.reduceToNat, reduceDIte, Nat.reduceSucc, evI_callP, callPK_some, I11, hk, s47, q1, h2, h3, lB]
  obtain ⟨i, rfl⟩ : ∃ i : Nat, cut = (i : Int) := ⟨cut.toNat, by omega⟩
  obtain ⟨c, hc⟩ : ∃ c, c = B.take i := ⟨_, rfl⟩
  have lc : c.length = i := by rw [hc, List.length_take]; omega
  have hsl : ∀ h g, sliceK h 1 (.rs g 1 (B.map by8)) (some B.length) none (some (.int .i64 (i : Int))) = some (.rs g 1 (c.map by8), h) := fun h g => by
    have := slice_by_ni h g B .i64 (i : Int) (by omega) (by omega)
    rw [Int.toNat_natCast, ← hc] at this
    exact this
  simp only [lB] at hsl
  have qP := fun g => s55 g c (by omega)
  have qK := fun g => s56 g c (by omega)
  have qI := fun g => s46 g 1 12 12
  have e12 : ((12 : Int) == 12) = true := rfl
  by_cases h5 : i < 20
  · have h5' : (i : Int) < 20 := by omega
    have et : pkE true c = (1, 12) := by have : shpE true c = (1, 12) := by { unfold shpE; rw [if_pos (by omega)] }; unfold pkE; rw [this]; rfl
    have ef : pkE false c = (1, 12) := by have : shpE false c = (1, 12) := by { unfold shpE; rw [if_pos (by omega)] }; unfold pkE; rw [this]; rfl
    have zt : pkOf true c = Pk.zero := by unfold pkOf; rw [et]; rfl
    have zf : pkOf false c = Pk.zero := by unfold pkOf; rw [ef]; rfl
    rw [et, zt, errV_pos _ (by omega)] at qP
    rw [ef, zf, errV_pos _ (by omega)] at qK
    simp only [pkC_zero] at qP qK
    simp only [pkC_eq] at q1 ⊢
    clear hc hB et ef zt zf
    simp (disch := first | omega | (simp only [List.length_cons, List.length_nil, List.length_append, List.length_map, List.length_set]; omega) | rfl | (simp only [List.length_cons, List.length_nil, List.length_append, List.length_map, List.length_set, List.length_replicate, List.all_cons, List.all_nil, List.all_append, storable, plainB, Bool.and_self]; done)) only [go_sem, reduceCtorEq, ↓reduceIte, Nat.reduceEqDiff, Nat.reduceAdd, Nat.reduceSub, Nat.reduceMul, Nat.reduceLeDiff, Nat.reduceLT, Nat.reduceBEq, Nat.reduceBNe, Int.reduceAdd, Int.reduceSub, Int.reduceMul, Int.reduceNeg, Int.reduceEq, Int.reduceNe, Int.reduceLT, Int.reduceLE, Int.reduceToNat, reduceDIte, Nat.reduceSucc, evI_callP, callPK_some, I11, hk, s47, q1, h2, h3, h5', lB, hsl, qP, qK, qI, e12]
  · have h5' : ¬ (i : Int) < 20 := by omega
    have hcc : c = hdB p p.body.length ++ p.body.take (i - 20) := by
      rw [hc, hB, List.take_append, hl, List.take_of_length_le (by omega)]
    obtain ⟨m1, _, m3, m4⟩ := hd_parse p p.body.length (by omega) (p.body.take (i - 20))
    have et := m1 (by rw [List.length_take]; omega)
    rw [← hcc] at et m3 m4
    have zt : pkOf true c = Pk.zero := by unfold pkOf; rw [et]; rfl
    rw [List.take_take, Nat.min_eq_right (by omega)] at m4
    rw [et, zt, errV_pos _ (by omega)] at qP
    rw [m3, m4, errV_zero] at qK
    obtain ⟨t, htt⟩ : ∃ t, t = p.body.take (i - 20) := ⟨_, rfl⟩
    rw [← htt] at qK
    have qS := s53 (p.with t) (p.with t)
    rw [decide_eq_true rfl] at qS
    have w : IntKind.i64.wrap ((i : Int) - 20) = ((i - 20 : Nat) : Int) := by rw [w64 (by omega) (by omega)]; omega
    have hsb : ∀ h g, sliceK h 1 (.rs g 1 (p.body.map by8)) (some p.body.length) none (some (.int .i64 ((i - 20 : Nat) : Int))) = some (.rs g 1 (t.map by8), h) := fun h g => by
      have := slice_by_ni h g p.body .i64 ((i - 20 : Nat) : Int) (by omega) (by omega)
      rw [Int.toNat_natCast, ← htt] at this
      exact this
    have pw : pkC (p.with t) = [.int .u8 (p.tos.toNat : Int), .int .u16 (p.id.toNat : Int), .bool p.kp, .int .u8 (p.ttl.toNat : Int), .int .u8 (p.proto.toNat : Int), .int .u32 (p.fr.toNat : Int), .int .u32 (p.to.toNat : Int), bs false t] := rfl
    rw [pw] at qK qS
    simp only [pkC_zero] at qP
    simp only [pkC_eq] at q1 ⊢
    clear hc hB et zt m1 m3 m4 hcc htt pw
    generalize i - 20 = j at *
    simp (disch := first | omega | (simp only [List.length_cons, List.length_nil, List.length_append, List.length_map, List.length_set]; omega) | rfl | (simp only [List.length_cons, List.length_nil, List.length_append, List.length_map, List.length_set, List.length_replicate, List.all_cons, List.all_nil, List.all_append, storable, plainB, Bool.and_self]; done)) only [go_sem, reduceCtorEq, ↓reduceIte, Nat.reduceEqDiff, Nat.reduceAdd, Nat.reduceSub, Nat.reduceMul, Nat.reduceLeDiff, Nat.reduceLT, Nat.reduceBEq, Nat.reduceBNe, Int.reduceAdd, Int.reduceSub, Int.reduceMul, Int.reduceNeg, Int.reduceEq, Int.reduceNe, Int.reduceLT, Int.reduceLE, Int.reduceToNat, reduceDIte, Nat.reduceSucc, evI_callP, callPK_some, I11, hk, s47, q1, h2, h3, h5', lB, hsl, hsb, w, qP, qK, qI, qS, e12, store_rs, stR_cells]

theorem law13 (b : List UInt8) : pcall E 13 [bs false b] = some (.bool true, []) := by
  rw [pcall_go (fn := I13) rfl rfl rfl]
  have hk : E.keep 13 = false := rfl
  by_cases h1 : (3000 : Int) < b.length
  · simp (disch := first | omega | (simp only [List.length_cons, List.length_nil, List.length_append, List.length_map, List.length_set]; omega) | rfl | (simp only [List.length_cons, List.length_nil, List.length_append, List.length_map, List.length_set, List.length_replicate, List.all_cons, List.all_nil, List.all_append, storable, plainB, Bool.and_self]; done)) only [go_sem, reduceCtorEq, ↓reduceIte, Nat.reduceEqDiff, Nat.reduceAdd, Nat.reduceSub, Nat.reduceMul, Nat.reduceLeDiff, Nat.reduceLT, Nat.reduceBEq, Nat.reduceBNe, Int.reduceAdd, Int.reduceSub, Int.reduceMul, Int.reduceNeg, Int.reduceEq, Int.reduceNe, Int.reduceLT, Int.reduceLE, Int.reduceToNat, reduceDIte, Nat.reduceSucc, evI_callP, callPK_some, I13, hk, s47, h1]
  have qP := fun g => s55 g b (by omega)
  have qK := fun g => s56 g b (by omega)
  by_cases h2 : (pkE true b).2 = 0
  · obtain ⟨m1, m2, m3⟩ := pk_peek b h2
    rw [h2, errV_zero] at qP
    rw [m1, errV_zero, ← m2] at qK
    have qS := s53 (pkOf true b) (pkOf true b)
    rw [decide_eq_true rfl] at qS
    generalize pkOf true b = p at *
    have w : IntKind.i64.wrap ((b.length : Int) - 20) = (b.length : Int) - 20 := w64 (by omega) (by omega)
    have hle : (p.body.length : Int) ≤ (b.length : Int) - 20 := by omega
    simp only [pkC_eq] at qP qK qS
    simp (disch := first | omega | (simp only [List.length_cons, List.length_nil, List.length_append, List.length_map, List.length_set]; omega) | rfl | (simp only [List.length_cons, List.length_nil, List.length_append, List.length_map, List.length_set, List.length_replicate, List.all_cons, List.all_nil, List.all_append, storable, plainB, Bool.and_self]; done)) only [go_sem, reduceCtorEq, ↓reduceIte, Nat.reduceEqDiff, Nat.reduceAdd, Nat.reduceSub, Nat.reduceMul, Nat.reduceLeDiff, Nat.reduceLT, Nat.reduceBEq, Nat.reduceBNe, Int.reduceAdd, Int.reduceSub, Int.reduceMul, Int.reduceNeg, Int.reduceEq, Int.reduceNe, Int.reduceLT, Int.reduceLE, Int.reduceToNat, reduceDIte, Nat.reduceSucc, evI_callP, callPK_some, I13, hk, s47, h1, qP, qK, qS, w, hle]
  · have hb := pk_bad b h2
    rw [errV_pos _ h2] at qP
    generalize pkOf true b = p at *
    generalize pkOf false b = p2 at *
    have qI := fun g m => s46 g (pkE true b).1 (pkE true b).2 m
    generalize (pkE true b).1 = r at *
    generalize (pkE true b).2 = n at *
    by_cases h3 : (pkE false b).2 = 0
    · rw [h3, errV_zero] at qK
      simp only [pkC_eq] at qP qK
      rcases hb with hb | hb | hb
      · exact absurd h3 hb
      · subst hb
        have e1 : ((13 : Int) == 13) = true := rfl
        simp (disch := first | omega | (simp only [List.length_cons, List.length_nil, List.length_append, List.length_map, List.length_set]; omega) | rfl | (simp only [List.length_cons, List.length_nil, List.length_append, List.length_map, List.length_set, List.length_replicate, List.all_cons, List.all_nil, List.all_append, storable, plainB, Bool.and_self]; done)) only [go_sem, reduceCtorEq, ↓reduceIte, Nat.reduceEqDiff, Nat.reduceAdd, Nat.reduceSub, Nat.reduceMul, Nat.reduceLeDiff, Nat.reduceLT, Nat.reduceBEq, Nat.reduceBNe, Int.reduceAdd, Int.reduceSub, Int.reduceMul, Int.reduceNeg, Int.reduceEq, Int.reduceNe, Int.reduceLT, Int.reduceLE, Int.reduceToNat, reduceDIte, Nat.reduceSucc, evI_callP, callPK_some, I13, hk, s47, h1, qP, qK, qI, e1]
      · subst hb
        have e1 : ((12 : Int) == 13) = false := rfl
        have e2 : ((12 : Int) == 12) = true := rfl
        simp (disch := first | omega | (simp only [List.length_cons, List.length_nil, List.length_append, List.length_map, List.length_set]; omega) | rfl | (simp only [List.length_cons, List.length_nil, List.length_append, List.length_map, List.length_set, List.length_replicate, List.all_cons, List.all_nil, List.all_append, storable, plainB, Bool.and_self]; done)) only [go_sem, reduceCtorEq, ↓reduceIte, Nat.reduceEqDiff, Nat.reduceAdd, Nat.reduceSub, Nat.reduceMul, Nat.reduceLeDiff, Nat.reduceLT, Nat.reduceBEq, Nat.reduceBNe, Int.reduceAdd, Int.reduceSub, Int.reduceMul, Int.reduceNeg, Int.reduceEq, Int.reduceNe, Int.reduceLT, Int.reduceLE, Int.reduceToNat, reduceDIte, Nat.reduceSucc, evI_callP, callPK_some, I13, hk, s47, h1, qP, qK, qI, e1, e2]
    · rw [errV_pos _ h3] at qK
      generalize (pkE false b).1 = r2 at *
      generalize (pkE false b).2 = n2_ at *
      simp only [pkC_eq] at qP qK
      simp (disch := first | omega | (simp only [List.length_cons, List.length_nil, List.length_append, List.length_map, List.length_set]; omega) | rfl | (simp only [List.length_cons, List.length_nil, List.length_append, List.length_map, List.length_set, List.length_replicate, List.all_cons, List.all_nil, List.all_append, storable, plainB, Bool.and_self]; done)) only [go_sem, reduceCtorEq, ↓reduceIte, Nat.reduceEqDiff, Nat.reduceAdd, Nat.reduceSub, Nat.reduceMul, Nat.reduceLeDiff, Nat.reduceLT, Nat.reduceBEq, Nat.reduceBNe, Int.reduceAdd, Int.reduceSub, Int.reduceMul, Int.reduceNeg, Int.reduceEq, Int.reduceNe, Int.reduceLT, Int.reduceLE, Int.reduceToNat, reduceDIte, Nat.reduceSucc, evI_callP, callPK_some, I13, hk, s47, h1, qP, qK]
end Go.Fw.Wd
