/-
  The laws UdpWrites, UdpSwaps and UdpSpoilt at the evaluation. Conditions: stated at each.
-/
import Derived.Test.YtmmfimpphhebfaaDoorWdUdpc
set_option linter.unusedVariables false
set_option linter.unusedSimpArgs false
namespace Go.Fw.Wd
open Go.Proofs Code_

theorem udpN_bare (p q : Nat) (r : Bool) (body : List UInt8) (x y : UInt32) (hl : 8 ≤ (udpB p q r body x y).length) (hp : p < 65536) (hq : q < 65536) (hb : body.length ≤ 1472) :
    (r = true → nth (udpB p q r body x y) 6 = 0 ∧ nth (udpB p q r body x y) 7 = 0) ∧ (r = false → ¬ (nth (udpB p q r body x y) 6 = 0 ∧ nth (udpB p q r body x y) 7 = 0)) := by
  obtain ⟨_, _, _, h6, _⟩ := udpB_parts p q hp hq r body [] hb x y
  rw [List.append_nil, n2_nth _ _ (by omega)] at h6
  have hz := udpN_zero p q r body x y
  rw [← h6] at hz
  generalize nth (udpB p q r body x y) 6 = a at *
  simp only [Nat.reduceAdd] at hz
  generalize nth (udpB p q r body x y) 7 = b at *
  constructor
  · intro hr
    rw [hr] at hz
    have := of_decide_eq_true hz
    exact ⟨UInt8.toNat_inj.1 (by simp; omega), UInt8.toNat_inj.1 (by simp; omega)⟩
  · rintro hr ⟨rfl, rfl⟩
    rw [hr] at hz
    exact of_decide_eq_false hz rfl

theorem law6 (p q : Nat) (hp : p < 65536) (hq : q < 65536) (r : Bool) (body : List UInt8) (p' q' : Nat) (r' : Bool) (body' : List UInt8) (x y : UInt32) (z : List UInt8) :
    pcall E 6 [.agg (dgC p q r body), .agg (dgC p' q' r' body'), .int .u32 (x.toNat : Int), .int .u32 (y.toNat : Int), bs false z] = some (.bool true, []) := by
  rw [pcall_go (fn := I6) rfl rfl rfl]
  have hk : E.keep 6 = false := rfl
  by_cases h1 : (3000 : Int) < body.length
  · simp only [dgC_eq]
    simp (disch := first | omega | (simp only [List.length_cons, List.length_nil, List.length_append, List.length_map, List.length_set]; omega) | rfl | (simp only [List.length_cons, List.length_nil, List.length_append, List.length_map, List.length_set, List.length_replicate, List.all_cons, List.all_nil, List.all_append, storable, plainB, Bool.and_self]; done)) only [go_sem, reduceCtorEq, ↓reduceIte, Nat.reduceEqDiff, Nat.reduceAdd, Nat.reduceSub, Nat.reduceMul, Nat.reduceLeDiff, Nat.reduceLT, Nat.reduceBEq, Nat.reduceBNe, Int.reduceAdd, Int.reduceSub, Int.reduceMul, Int.reduceNeg, Int.reduceEq, Int.reduceNe, Int.reduceLT, Int.reduceLE, Int.reduceToNat, reduceDIte, Nat.reduceSucc, evI_callP, callPK_some, I6, hk, s38, h1]
  by_cases h2 : (3000 : Int) < body'.length
  · simp only [dgC_eq]
    simp (disch := first | omega | (simp only [List.length_cons, List.length_nil, List.length_append, List.length_map, List.length_set]; omega) | rfl | (simp only [List.length_cons, List.length_nil, List.length_append, List.length_map, List.length_set, List.length_replicate, List.all_cons, List.all_nil, List.all_append, storable, plainB, Bool.and_self]; done)) only [go_sem, reduceCtorEq, ↓reduceIte, Nat.reduceEqDiff, Nat.reduceAdd, Nat.reduceSub, Nat.reduceMul, Nat.reduceLeDiff, Nat.reduceLT, Nat.reduceBEq, Nat.reduceBNe, Int.reduceAdd, Int.reduceSub, Int.reduceMul, Int.reduceNeg, Int.reduceEq, Int.reduceNe, Int.reduceLT, Int.reduceLE, Int.reduceToNat, reduceDIte, Nat.reduceSucc, evI_callP, callPK_some, I6, hk, s38, h1, h2]
  by_cases h3 : (300 : Int) < z.length
  · simp only [dgC_eq]
    simp (disch := first | omega | (simp only [List.length_cons, List.length_nil, List.length_append, List.length_map, List.length_set]; omega) | rfl | (simp only [List.length_cons, List.length_nil, List.length_append, List.length_map, List.length_set, List.length_replicate, List.all_cons, List.all_nil, List.all_append, storable, plainB, Bool.and_self]; done)) only [go_sem, reduceCtorEq, ↓reduceIte, Nat.reduceEqDiff, Nat.reduceAdd, Nat.reduceSub, Nat.reduceMul, Nat.reduceLeDiff, Nat.reduceLT, Nat.reduceBEq, Nat.reduceBNe, Int.reduceAdd, Int.reduceSub, Int.reduceMul, Int.reduceNeg, Int.reduceEq, Int.reduceNe, Int.reduceLT, Int.reduceLE, Int.reduceToNat, reduceDIte, Nat.reduceSucc, evI_callP, callPK_some, I6, hk, s38, h1, h2, h3]
  have o1 := s42 p q r body (by omega)
  have o2 := s42 p' q' r' body' (by omega)
  have e1 := s45 p q r body p' q' r' body'
  have e2 := s41 p q r body p' q' r' body'
  generalize dgSame p q r body p' q' r' body' = sm at *
  by_cases h4 : 1472 < body.length
  · have q1 := bytes_err p q r body h4 x y
    have q2 := rbytes_err p q r body h4 x y
    have q3 := is_same 1 11
    have q4 := fun g g' => s31 g g' [] [] (by simp)
    unfold errV at q1 q3
    unfold faultC at q2 q3
    rw [if_neg (by omega)] at q1 q2
    rw [if_neg (by omega), if_neg (by omega)] at q3
    simp only [faultV, dgC_eq, List.map_nil, bs] at q1 q2 q3 q4 o1 o2 e1 e2 ⊢
    simp (disch := first | omega | (simp only [List.length_cons, List.length_nil, List.length_append, List.length_map, List.length_set]; omega) | rfl | (simp only [List.length_cons, List.length_nil, List.length_append, List.length_map, List.length_set, List.length_replicate, List.all_cons, List.all_nil, List.all_append, storable, plainB, Bool.and_self]; done)) only [go_sem, reduceCtorEq, ↓reduceIte, Nat.reduceEqDiff, Nat.reduceAdd, Nat.reduceSub, Nat.reduceMul, Nat.reduceLeDiff, Nat.reduceLT, Nat.reduceBEq, Nat.reduceBNe, Int.reduceAdd, Int.reduceSub, Int.reduceMul, Int.reduceNeg, Int.reduceEq, Int.reduceNe, Int.reduceLT, Int.reduceLE, Int.reduceToNat, reduceDIte, Nat.reduceSucc, evI_callP, callPK_some, I6, hk, s38, h1, h2, h3, q1, q2, q3, q4, o1, o2, e1, e2]
  have q1 := s43 p q hp hq r body (by omega) x y
  have q2 := s44 p q hp hq r body (by omega) x y
  have q3 := is_same 0 0
  have hl := udpB_len p q r body x y
  obtain ⟨m1, m2⟩ := udpB_parse p q hp hq r body z (by omega) x y x y (.inl ⟨rfl, rfl⟩)
  obtain ⟨m3, m4⟩ := udpB_parse p q hp hq r body [] (by omega) x y y x (.inr ⟨rfl, rfl⟩)
  rw [List.append_nil] at m3 m4
  obtain ⟨k1, k2⟩ := udpN_bare p q r body x y (by omega) hp hq (by omega)
  generalize udpB p q r body x y = B at *
  have q4 := fun g g' => s31 g g' B B (by omega)
  have q5 := fun g => s25 g B (by omega)
  obtain ⟨w, hw⟩ : ∃ w, w = B ++ z := ⟨_, rfl⟩
  have lw : w.length = 8 + body.length + z.length := by rw [hw, List.length_append, hl]
  rw [← hw] at m1 m2
  have a1 : ∀ h i n, n = z.length → appR h 1 1 5 (z.map by8) n i 0 (8 + body.length) (some (.row 0 1 (B.map by8) 5)) = some (.sl 1 i 1 0 (8 + body.length + z.length), h.set i (.row 1 1 (w.map by8) 5)) := fun h i n hn => by rw [hw, hn]; exact appR_by8 h 1 5 i 0 (8 + body.length) z.length B z hl (by omega) (by omega)
  have q6 := fun g => s39 g w (by omega) x y
  have q7 := fun g => s39 g B (by omega) y x
  rw [m1, m2] at q6
  rw [m3, m4] at q7
  have q8 := s45 p q r body p q r body
  rw [dgSame_self] at q8
  have d8 : decide ((8 + body.length : Nat) = 8 + body.length) = true := decide_eq_true rfl
  unfold errV at q3 q6 q7
  unfold faultC at q2 q3
  rw [if_pos rfl] at q2 q6 q7
  rw [if_pos rfl, if_pos rfl] at q3
  simp only [dgC_eq] at q1 q2 q6 q7 q8 o1 o2 e1 e2 ⊢
  have w0 : IntKind.i64.wrap (8 + (body.length : Int)) = 8 + (body.length : Int) := w64 (by omega) (by omega)
  have b6 : (6 : Int) < B.length := by omega
  have b7 : (7 : Int) < B.length := by omega
  rw [hl] at q5
  clear hw
  cases r
  · have k := k2 rfl
    by_cases u : nth B 6 = 0
    · have v : ¬ nth B 7 = 0 := fun v => k ⟨u, v⟩
      have u' : (((nth B 6).toNat : Nat) : Int) = 0 := (zero_neq _).2 u
      have v' : ¬ (((nth B 7).toNat : Nat) : Int) = 0 := fun h => v ((zero_neq _).1 h)
      simp (disch := first | omega | (simp only [List.length_cons, List.length_nil, List.length_append, List.length_map, List.length_set]; omega) | rfl | (simp only [List.length_cons, List.length_nil, List.length_append, List.length_map, List.length_set, List.length_replicate, List.all_cons, List.all_nil, List.all_append, storable, plainB, Bool.and_self]; done)) only [go_sem, reduceCtorEq, ↓reduceIte, Nat.reduceEqDiff, Nat.reduceAdd, Nat.reduceSub, Nat.reduceMul, Nat.reduceLeDiff, Nat.reduceLT, Nat.reduceBEq, Nat.reduceBNe, Int.reduceAdd, Int.reduceSub, Int.reduceMul, Int.reduceNeg, Int.reduceEq, Int.reduceNe, Int.reduceLT, Int.reduceLE, Int.reduceToNat, reduceDIte, Nat.reduceSucc, evI_callP, callPK_some, I6, hk, s38, h1, h2, h3, q1, q2, q3, q4, q5, q6, q7, q8, o1, o2, e1, e2, a1, hl, lw, w0, b6, b7, u', v']
    · have u' : ¬ (((nth B 6).toNat : Nat) : Int) = 0 := fun h => u ((zero_neq _).1 h)
      simp (disch := first | omega | (simp only [List.length_cons, List.length_nil, List.length_append, List.length_map, List.length_set]; omega) | rfl | (simp only [List.length_cons, List.length_nil, List.length_append, List.length_map, List.length_set, List.length_replicate, List.all_cons, List.all_nil, List.all_append, storable, plainB, Bool.and_self]; done)) only [go_sem, reduceCtorEq, ↓reduceIte, Nat.reduceEqDiff, Nat.reduceAdd, Nat.reduceSub, Nat.reduceMul, Nat.reduceLeDiff, Nat.reduceLT, Nat.reduceBEq, Nat.reduceBNe, Int.reduceAdd, Int.reduceSub, Int.reduceMul, Int.reduceNeg, Int.reduceEq, Int.reduceNe, Int.reduceLT, Int.reduceLE, Int.reduceToNat, reduceDIte, Nat.reduceSucc, evI_callP, callPK_some, I6, hk, s38, h1, h2, h3, q1, q2, q3, q4, q5, q6, q7, q8, o1, o2, e1, e2, a1, hl, lw, w0, b6, b7, u']
  · obtain ⟨u, v⟩ := k1 rfl
    have u' : (((nth B 6).toNat : Nat) : Int) = 0 := (zero_neq _).2 u
    have v' : (((nth B 7).toNat : Nat) : Int) = 0 := (zero_neq _).2 v
    simp (disch := first | omega | (simp only [List.length_cons, List.length_nil, List.length_append, List.length_map, List.length_set]; omega) | rfl | (simp only [List.length_cons, List.length_nil, List.length_append, List.length_map, List.length_set, List.length_replicate, List.all_cons, List.all_nil, List.all_append, storable, plainB, Bool.and_self]; done)) only [go_sem, reduceCtorEq, ↓reduceIte, Nat.reduceEqDiff, Nat.reduceAdd, Nat.reduceSub, Nat.reduceMul, Nat.reduceLeDiff, Nat.reduceLT, Nat.reduceBEq, Nat.reduceBNe, Int.reduceAdd, Int.reduceSub, Int.reduceMul, Int.reduceNeg, Int.reduceEq, Int.reduceNe, Int.reduceLT, Int.reduceLE, Int.reduceToNat, reduceDIte, Nat.reduceSucc, evI_callP, callPK_some, I6, hk, s38, h1, h2, h3, q1, q2, q3, q4, q5, q6, q7, q8, o1, o2, e1, e2, a1, hl, lw, w0, b6, b7, u', v']
end Go.Fw.Wd
