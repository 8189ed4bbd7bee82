/-
  The laws on options without the document's answer. Conditions: stated at each.
-/
import Derived.Test.YtkekjbpalkoeeaaWdOlaws
set_option linter.unusedVariables false
set_option linter.unusedSimpArgs false
namespace Go.Fw.Wd
open Go.Proofs Code_

theorem parseO_pads (l : List UInt8) : ∀ k : Nat, parseO (List.replicate k 0 ++ l) = parseO l
  | 0 => rfl
  | k + 1 => by
    rw [List.replicate_succ, List.cons_append, parseO_pad, parseO_pads l k]
theorem parseO_optB (o : Opt) (r : List UInt8) (h0 : o.1 ≠ 0) (h1 : o.1 ≠ 255) (h2 : o.2.length ≤ 255) : parseO (optB o ++ r) = (parseO r).map (o :: ·) := by
  have hl : (UInt8.ofNat o.2.length).toNat = o.2.length := by rw [UInt8.toNat_ofNat_of_lt' (by show o.2.length < 256; omega)]
  have ht : takeO (optB o ++ r) = some (o, r) := by
    show takeO (o.1 :: UInt8.ofNat o.2.length :: (o.2 ++ r)) = _
    rw [takeO_long, hl, if_pos (by simp)]
    simp
  rw [parseO_take (optB o ++ r) o.1 _ rfl h1 h0, ht]
theorem bytesE_cons {o : Opt} {l : List Opt} (h : bytesE (o :: l) = 0) : o.1 ≠ 0 ∧ o.1 ≠ 255 ∧ o.2.length ≤ 255 ∧ bytesE l = 0 := by
  unfold bytesE at h
  split at h
  · omega
  · rename_i h1
    split at h
    · omega
    · rename_i h2
      exact ⟨fun e => h1 (.inl e), fun e => h1 (.inr e), by omega, h⟩
theorem parseO_optsB (r : List UInt8) : ∀ l : List Opt, bytesE l = 0 → parseO (optsB l ++ 255 :: r) = some l
  | [], _ => parseO_end r
  | o :: l, h => by
    obtain ⟨h0, h1, h2, h3⟩ := bytesE_cons h
    have e : optsB (o :: l) ++ 255 :: r = optB o ++ (optsB l ++ 255 :: r) := by simp [optsB]
    rw [e, parseO_optB o _ h0 h1 h2, parseO_optsB r l h3]
    rfl
theorem parseO_cut : ∀ (l : List Opt) (k : Nat), bytesE l = 0 → k < (optsB l).length + 1 → parseO ((optsB l ++ [255]).take k) = none
  | [], k, _, hk => by
    have : k = 0 := by simp [optsB] at hk; omega
    subst this
    rw [List.take_zero, parseO]
  | o :: l, k, h, hk => by
    obtain ⟨h0, h1, h2, h3⟩ := bytesE_cons h
    have hl : (UInt8.ofNat o.2.length).toNat = o.2.length := by rw [UInt8.toNat_ofNat_of_lt' (by show o.2.length < 256; omega)]
    rw [optsB_cons] at hk ⊢
    match k, hk with
    | 0, _ => rw [List.take_zero, parseO]
    | 1, _ =>
      show parseO [o.1] = none
      rw [parseO_take [o.1] o.1 [] rfl h1 h0]
      rfl
    | k + 2, hk =>
      have e : (o.1 :: UInt8.ofNat o.2.length :: (o.2 ++ optsB l) ++ [255]).take (k + 2) = o.1 :: UInt8.ofNat o.2.length :: (o.2 ++ (optsB l ++ [255])).take k := by simp
      rw [e, parseO_take _ o.1 _ rfl h1 h0, takeO_long, hl]
      by_cases hc : o.2.length ≤ k
      · have e2 : (o.2 ++ (optsB l ++ [255])).take k = o.2 ++ (optsB l ++ [255]).take (k - o.2.length) := by rw [List.take_append, List.take_of_length_le hc]
        rw [e2, if_pos (by simp)]
        simp only [List.take_left, List.drop_left]
        rw [parseO_cut l (k - o.2.length) h3 (by simp only [List.length_cons, List.length_append] at hk; omega)]
        rfl
      · rw [if_neg (by rw [List.length_take]; omega)]

theorem law5 (l : List Opt) (hl : small l) (hb : (optsB l).length ≤ 4000000000) (pads : UInt8) (behind : List UInt8) (cut : Int) : pcall E 5 [opts false l, .int .u8 (pads.toNat : Int), bs false behind, .int .i64 cut] = some (.bool true, []) := by
  rw [pcall_go (fn := I5) rfl rfl rfl]
  have hk : E.keep 5 = false := rfl
  have gl := fun g => s27 g l
  have q1 := fun g => s28 g l hl hb
  simp only [bytesV] at q1
  cases h1 : greatO l with
  | true =>
    rw [h1] at gl
    simp (disch := first | omega | (simp only [List.length_cons, List.length_nil, List.length_append, List.length_map, List.length_set]; omega) | rfl | (simp only [List.length_cons, List.length_nil, List.length_append, List.length_map, List.length_set, List.length_replicate, List.all_cons, List.all_nil, List.all_append, storable, plainB, Bool.and_self]; done)) only [go_sem, reduceCtorEq, ↓reduceIte, Nat.reduceEqDiff, Nat.reduceAdd, Nat.reduceSub, Nat.reduceMul, Nat.reduceLeDiff, Nat.reduceLT, Nat.reduceBEq, Nat.reduceBNe, Int.reduceAdd, Int.reduceSub, Int.reduceMul, Int.reduceNeg, Int.reduceEq, Int.reduceNe, Int.reduceLT, Int.reduceLE, Int.reduceToNat, reduceDIte, Nat.reduceSucc, evI_callP, callPK_some, I5, hk, s20, onoG, gl, q1]
  | false =>
  rw [h1] at gl
  by_cases h2 : bytesE l = 0
  · by_cases h3 : (300 : Int) < behind.length
    · simp (disch := first | omega | (simp only [List.length_cons, List.length_nil, List.length_append, List.length_map, List.length_set]; omega) | rfl | (simp only [List.length_cons, List.length_nil, List.length_append, List.length_map, List.length_set, List.length_replicate, List.all_cons, List.all_nil, List.all_append, storable, plainB, Bool.and_self]; done)) only [go_sem, reduceCtorEq, ↓reduceIte, Nat.reduceEqDiff, Nat.reduceAdd, Nat.reduceSub, Nat.reduceMul, Nat.reduceLeDiff, Nat.reduceLT, Nat.reduceBEq, Nat.reduceBNe, Int.reduceAdd, Int.reduceSub, Int.reduceMul, Int.reduceNeg, Int.reduceEq, Int.reduceNe, Int.reduceLT, Int.reduceLE, Int.reduceToNat, reduceDIte, Nat.reduceSucc, evI_callP, callPK_some, I5, hk, s20, onoG, gl, q1, h2, h3]
    obtain ⟨a1, a2, a3⟩ := great_small h1
    have hbl := bytesB_len (bytes_len a2 a3)
    have e0 : bytesB l = optsB l ++ [255] := if_pos h2
    obtain ⟨b, hbb⟩ : ∃ b, b = bytesB l := ⟨_, rfl⟩
    rw [← hbb] at q1 hbl e0
    have hr : Int.tmod (pads.toNat : Int) 9 = ((pads.toNat % 9 : Nat) : Int) := rm pads.toNat 9
    have hk9 : pads.toNat % 9 < 9 := Nat.mod_lt _ (by omega)
    generalize pads.toNat % 9 = k at hr hk9
    have hmk := fun h => mkSl_by8 h 5 .i64 (k : Int) (by omega) (by omega)
    obtain ⟨x0, hx0⟩ : ∃ x0 : List UInt8, x0 = List.replicate k 0 := ⟨_, rfl⟩
    have hx0l : x0.length = k := by rw [hx0]; simp
    simp only [Int.toNat_natCast, ← hx0] at hmk
    obtain ⟨x1, hx1⟩ : ∃ x1, x1 = x0 ++ b := ⟨_, rfl⟩
    have hx1l : x1.length = k + b.length := by rw [hx1]; simp [hx0l]
    obtain ⟨x2, hx2⟩ : ∃ x2, x2 = x1 ++ behind := ⟨_, rfl⟩
    have hx2l : x2.length = k + b.length + behind.length := by rw [hx2]; simp [hx1l]
    have hap1 := fun h => appR_by8 h 1 5 0 0 k b.length x0 b hx0l (by omega) (by omega)
    rw [← hx1] at hap1
    have hap2 := fun h => appR_by8 h 1 5 0 1 (k + b.length) behind.length x1 behind hx1l (by omega) (by omega)
    rw [← hx2] at hap2
    have q2 := fun g => s22 g x2 (by omega)
    have hp : parseO x2 = some l := by
      rw [hx2, hx1, hx0, e0, List.append_assoc, parseO_pads]
      simpa using parseO_optsB behind l h2
    rw [hp] at q2
    simp only [parseR] at q2
    have q3 := fun g g' => s34 g g' l l a1.1
    by_cases h4 : cut < 0
    · simp (disch := first | omega | (simp only [List.length_cons, List.length_nil, List.length_append, List.length_map, List.length_set]; omega) | rfl | (simp only [List.length_cons, List.length_nil, List.length_append, List.length_map, List.length_set, List.length_replicate, List.all_cons, List.all_nil, List.all_append, storable, plainB, Bool.and_self]; done)) only [go_sem, reduceCtorEq, ↓reduceIte, Nat.reduceEqDiff, Nat.reduceAdd, Nat.reduceSub, Nat.reduceMul, Nat.reduceLeDiff, Nat.reduceLT, Nat.reduceBEq, Nat.reduceBNe, Int.reduceAdd, Int.reduceSub, Int.reduceMul, Int.reduceNeg, Int.reduceEq, Int.reduceNe, Int.reduceLT, Int.reduceLE, Int.reduceToNat, reduceDIte, Nat.reduceSucc, evI_callP, callPK_some, I5, hk, s20, onoG, gl, q1, h2, h3, hr, hmk, hap1, hap2, q2, q3, h4]
    by_cases h5 : (b.length : Int) ≤ cut
    · simp (disch := first | omega | (simp only [List.length_cons, List.length_nil, List.length_append, List.length_map, List.length_set]; omega) | rfl | (simp only [List.length_cons, List.length_nil, List.length_append, List.length_map, List.length_set, List.length_replicate, List.all_cons, List.all_nil, List.all_append, storable, plainB, Bool.and_self]; done)) only [go_sem, reduceCtorEq, ↓reduceIte, Nat.reduceEqDiff, Nat.reduceAdd, Nat.reduceSub, Nat.reduceMul, Nat.reduceLeDiff, Nat.reduceLT, Nat.reduceBEq, Nat.reduceBNe, Int.reduceAdd, Int.reduceSub, Int.reduceMul, Int.reduceNeg, Int.reduceEq, Int.reduceNe, Int.reduceLT, Int.reduceLE, Int.reduceToNat, reduceDIte, Nat.reduceSucc, evI_callP, callPK_some, I5, hk, s20, onoG, gl, q1, h2, h3, hr, hmk, hap1, hap2, q2, q3, h4, h5]
    have hc : parseO (b.take cut.toNat) = none := by
      rw [e0]
      refine parseO_cut l cut.toNat h2 ?_
      have : b.length = (optsB l).length + 1 := by rw [e0]; simp
      omega
    have q4 := fun g => s22 g (b.take cut.toNat) (by rw [List.length_take]; omega)
    rw [hc] at q4
    simp only [parseR] at q4
    simp (disch := first | omega | (simp only [List.length_cons, List.length_nil, List.length_append, List.length_map, List.length_set]; omega) | rfl | (simp only [List.length_cons, List.length_nil, List.length_append, List.length_map, List.length_set, List.length_replicate, List.all_cons, List.all_nil, List.all_append, storable, plainB, Bool.and_self]; done)) only [go_sem, reduceCtorEq, ↓reduceIte, Nat.reduceEqDiff, Nat.reduceAdd, Nat.reduceSub, Nat.reduceMul, Nat.reduceLeDiff, Nat.reduceLT, Nat.reduceBEq, Nat.reduceBNe, Int.reduceAdd, Int.reduceSub, Int.reduceMul, Int.reduceNeg, Int.reduceEq, Int.reduceNe, Int.reduceLT, Int.reduceLE, Int.reduceToNat, reduceDIte, Nat.reduceSucc, evI_callP, callPK_some, I5, hk, s20, onoG, gl, q1, h2, h3, hr, hmk, hap1, hap2, q2, q3, h4, h5, q4]
  · simp (disch := first | omega | (simp only [List.length_cons, List.length_nil, List.length_append, List.length_map, List.length_set]; omega) | rfl | (simp only [List.length_cons, List.length_nil, List.length_append, List.length_map, List.length_set, List.length_replicate, List.all_cons, List.all_nil, List.all_append, storable, plainB, Bool.and_self]; done)) only [go_sem, reduceCtorEq, ↓reduceIte, Nat.reduceEqDiff, Nat.reduceAdd, Nat.reduceSub, Nat.reduceMul, Nat.reduceLeDiff, Nat.reduceLT, Nat.reduceBEq, Nat.reduceBNe, Int.reduceAdd, Int.reduceSub, Int.reduceMul, Int.reduceNeg, Int.reduceEq, Int.reduceNe, Int.reduceLT, Int.reduceLE, Int.reduceToNat, reduceDIte, Nat.reduceSucc, evI_callP, callPK_some, I5, hk, s20, onoG, gl, q1, h2]

theorem findO_append (c : UInt8) (l m : List Opt) : findO (l ++ m) c = match findO l c with | some d => some d | none => findO m c := by
  induction l with
  | nil => rfl
  | cons o l ih =>
    by_cases h : o.1 = c
    · simp [findO, h]
    · simp [findO, h, ih]
theorem law6 (l m : List Opt) (c : UInt8) (data later : List UInt8) : pcall E 6 [opts false l, opts false m, .int .u8 (c.toNat : Int), bs false data, bs false later] = some (.bool true, []) := by
  rw [pcall_go (fn := I6) rfl rfl rfl]
  have hk : E.keep 6 = false := rfl
  have gl := fun g => s27 g l
  have gm := fun g => s27 g m
  cases h1 : greatO l with
  | true =>
    rw [h1] at gl
    simp (disch := first | omega | (simp only [List.length_cons, List.length_nil, List.length_append, List.length_map, List.length_set]; omega) | rfl | (simp only [List.length_cons, List.length_nil, List.length_append, List.length_map, List.length_set, List.length_replicate, List.all_cons, List.all_nil, List.all_append, storable, plainB, Bool.and_self]; done)) only [go_sem, reduceCtorEq, ↓reduceIte, Nat.reduceEqDiff, Nat.reduceAdd, Nat.reduceSub, Nat.reduceMul, Nat.reduceLeDiff, Nat.reduceLT, Nat.reduceBEq, Nat.reduceBNe, Int.reduceAdd, Int.reduceSub, Int.reduceMul, Int.reduceNeg, Int.reduceEq, Int.reduceNe, Int.reduceLT, Int.reduceLE, Int.reduceToNat, reduceDIte, Nat.reduceSucc, evI_callP, callPK_some, I6, hk, s20, gl]
  | false =>
  rw [h1] at gl
  cases h2 : greatO m with
  | true =>
    rw [h2] at gm
    simp (disch := first | omega | (simp only [List.length_cons, List.length_nil, List.length_append, List.length_map, List.length_set]; omega) | rfl | (simp only [List.length_cons, List.length_nil, List.length_append, List.length_map, List.length_set, List.length_replicate, List.all_cons, List.all_nil, List.all_append, storable, plainB, Bool.and_self]; done)) only [go_sem, reduceCtorEq, ↓reduceIte, Nat.reduceEqDiff, Nat.reduceAdd, Nat.reduceSub, Nat.reduceMul, Nat.reduceLeDiff, Nat.reduceLT, Nat.reduceBEq, Nat.reduceBNe, Int.reduceAdd, Int.reduceSub, Int.reduceMul, Int.reduceNeg, Int.reduceEq, Int.reduceNe, Int.reduceLT, Int.reduceLE, Int.reduceToNat, reduceDIte, Nat.reduceSucc, evI_callP, callPK_some, I6, hk, s20, onoG, gl, gm]
  | false =>
  rw [h2] at gm
  by_cases h3 : (300 : Int) < data.length
  · simp (disch := first | omega | (simp only [List.length_cons, List.length_nil, List.length_append, List.length_map, List.length_set]; omega) | rfl | (simp only [List.length_cons, List.length_nil, List.length_append, List.length_map, List.length_set, List.length_replicate, List.all_cons, List.all_nil, List.all_append, storable, plainB, Bool.and_self]; done)) only [go_sem, reduceCtorEq, ↓reduceIte, Nat.reduceEqDiff, Nat.reduceAdd, Nat.reduceSub, Nat.reduceMul, Nat.reduceLeDiff, Nat.reduceLT, Nat.reduceBEq, Nat.reduceBNe, Int.reduceAdd, Int.reduceSub, Int.reduceMul, Int.reduceNeg, Int.reduceEq, Int.reduceNe, Int.reduceLT, Int.reduceLE, Int.reduceToNat, reduceDIte, Nat.reduceSucc, evI_callP, callPK_some, I6, hk, s20, onoG, gl, gm, h3]
  by_cases h4 : (300 : Int) < later.length
  · simp (disch := first | omega | (simp only [List.length_cons, List.length_nil, List.length_append, List.length_map, List.length_set]; omega) | rfl | (simp only [List.length_cons, List.length_nil, List.length_append, List.length_map, List.length_set, List.length_replicate, List.all_cons, List.all_nil, List.all_append, storable, plainB, Bool.and_self]; done)) only [go_sem, reduceCtorEq, ↓reduceIte, Nat.reduceEqDiff, Nat.reduceAdd, Nat.reduceSub, Nat.reduceMul, Nat.reduceLeDiff, Nat.reduceLT, Nat.reduceBEq, Nat.reduceBNe, Int.reduceAdd, Int.reduceSub, Int.reduceMul, Int.reduceNeg, Int.reduceEq, Int.reduceNe, Int.reduceLT, Int.reduceLE, Int.reduceToNat, reduceDIte, Nat.reduceSucc, evI_callP, callPK_some, I6, hk, s20, onoG, gl, gm, h3, h4]
  obtain ⟨a1, a2, a3⟩ := great_small h1
  obtain ⟨b1, b2, b3⟩ := great_small h2
  obtain ⟨x1, hx1⟩ : ∃ x1, x1 = l ++ [(c, data), (c, later)] := ⟨_, rfl⟩
  obtain ⟨x2, hx2⟩ : ∃ x2, x2 = x1 ++ m := ⟨_, rfl⟩
  have hx1l : x1.length = l.length + 2 := by rw [hx1]; simp
  have hx2l : x2.length = l.length + 2 + m.length := by rw [hx2]; simp [hx1l]
  have hx2s : small x2 := by
    refine ⟨by omega, fun o ho => ?_⟩
    rw [hx2, hx1] at ho
    simp only [List.mem_append, List.mem_cons, List.not_mem_nil, or_false] at ho
    rcases ho with (ho | rfl | rfl) | ho
    · exact a1.2 o ho
    · show data.length ≤ _; omega
    · show later.length ≤ _; omega
    · exact b1.2 o ho
  have e2 : rcs encO [(c, data), (c, later)] = [.int .u8 (c.toNat : Int), bs false data, .int .u8 (c.toNat : Int), bs false later] := rfl
  have ca := fun h g => fopt.cellsIn h g l
  have cm := fun h g => fopt.cellsIn h g m
  have hap0 := fun h => fopt.app0 h 32 35 0 0 l.length l (by omega) (by omega) rfl
  have hap1 := fun h => fopt.app h 32 35 0 1 l.length 2 l [(c, data), (c, later)] rfl (by omega) (by omega)
  rw [e2, ← hx1] at hap1
  have hap2 := fun h => fopt.app h 32 35 0 2 (l.length + 2) m.length x1 m hx1l (by omega) (by omega)
  rw [← hx2] at hap2
  have hs := fopt.sn true [rowO 3 x2 35] 7 0 3 (l.length + 2 + m.length) x2 35 rfl hx2l
  have q1 := fun g => s30 g l c a1
  have q2 := fun g => s30 g x2 c hx2s
  have q3 := fun g => s32 g x2 c data.length hx2s
  have f2 : findO x2 c = match findO l c with | some d => some d | none => some data := by
    rw [hx2, hx1, List.append_assoc, findO_append]
    cases findO l c with
    | some d => rfl
    | none => simp [findO]
  cases hf : findO l c with
  | some d =>
    rw [hf] at q1 f2
    simp only at f2
    rw [f2] at q2
    simp only [findV] at q1 q2
    have hd := findO_small a1 hf
    have q4 := fun g g' => s26 g g' d d (by omega)
    simp (disch := first | omega | (simp only [List.length_cons, List.length_nil, List.length_append, List.length_map, List.length_set]; omega) | rfl | (simp only [List.length_cons, List.length_nil, List.length_append, List.length_map, List.length_set, List.length_replicate, List.all_cons, List.all_nil, List.all_append, storable, plainB, Bool.and_self]; done)) only [go_sem, reduceCtorEq, ↓reduceIte, Nat.reduceEqDiff, Nat.reduceAdd, Nat.reduceSub, Nat.reduceMul, Nat.reduceLeDiff, Nat.reduceLT, Nat.reduceBEq, Nat.reduceBNe, Int.reduceAdd, Int.reduceSub, Int.reduceMul, Int.reduceNeg, Int.reduceEq, Int.reduceNe, Int.reduceLT, Int.reduceLE, Int.reduceToNat, reduceDIte, Nat.reduceSucc, evI_callP, callPK_some, I6, hk, s20, onoG, gl, gm, h3, h4, q1, q2, q4, olen, ca, cm, hap0, hap1, hap2, hs]
  | none =>
    rw [hf] at q1 f2
    simp only at f2
    rw [f2] at q2
    simp only [findV] at q1 q2
    have q4 := fun g g' => s26 g g' data data (by omega)
    have n1 : numO x2 c data.length = if (data.length : Int) = data.length ∧ 1 ≤ (data.length : Int) ∧ (data.length : Int) ≤ 4 then (num data, true) else (0, false) := by
      unfold numO
      rw [f2]
    by_cases h5 : 1 ≤ (data.length : Int)
    · by_cases h6 : (data.length : Int) ≤ 4
      · rw [n1, if_pos ⟨rfl, h5, h6⟩] at q3
        simp only [numV] at q3
        simp (disch := first | omega | (simp only [List.length_cons, List.length_nil, List.length_append, List.length_map, List.length_set]; omega) | rfl | (simp only [List.length_cons, List.length_nil, List.length_append, List.length_map, List.length_set, List.length_replicate, List.all_cons, List.all_nil, List.all_append, storable, plainB, Bool.and_self]; done)) only [go_sem, reduceCtorEq, ↓reduceIte, Nat.reduceEqDiff, Nat.reduceAdd, Nat.reduceSub, Nat.reduceMul, Nat.reduceLeDiff, Nat.reduceLT, Nat.reduceBEq, Nat.reduceBNe, Int.reduceAdd, Int.reduceSub, Int.reduceMul, Int.reduceNeg, Int.reduceEq, Int.reduceNe, Int.reduceLT, Int.reduceLE, Int.reduceToNat, reduceDIte, Nat.reduceSucc, evI_callP, callPK_some, I6, hk, s20, onoG, gl, gm, h3, h4, q1, q2, q3, q4, olen, ca, cm, hap0, hap1, hap2, hs, h5, h6]
      · rw [n1, if_neg (by omega)] at q3
        simp only [numV] at q3
        simp (disch := first | omega | (simp only [List.length_cons, List.length_nil, List.length_append, List.length_map, List.length_set]; omega) | rfl | (simp only [List.length_cons, List.length_nil, List.length_append, List.length_map, List.length_set, List.length_replicate, List.all_cons, List.all_nil, List.all_append, storable, plainB, Bool.and_self]; done)) only [go_sem, reduceCtorEq, ↓reduceIte, Nat.reduceEqDiff, Nat.reduceAdd, Nat.reduceSub, Nat.reduceMul, Nat.reduceLeDiff, Nat.reduceLT, Nat.reduceBEq, Nat.reduceBNe, Int.reduceAdd, Int.reduceSub, Int.reduceMul, Int.reduceNeg, Int.reduceEq, Int.reduceNe, Int.reduceLT, Int.reduceLE, Int.reduceToNat, reduceDIte, Nat.reduceSucc, evI_callP, callPK_some, I6, hk, s20, onoG, gl, gm, h3, h4, q1, q2, q3, q4, olen, ca, cm, hap0, hap1, hap2, hs, h5, h6]
    · rw [n1, if_neg (by omega)] at q3
      simp only [numV] at q3
      simp (disch := first | omega | (simp only [List.length_cons, List.length_nil, List.length_append, List.length_map, List.length_set]; omega) | rfl | (simp only [List.length_cons, List.length_nil, List.length_append, List.length_map, List.length_set, List.length_replicate, List.all_cons, List.all_nil, List.all_append, storable, plainB, Bool.and_self]; done)) only [go_sem, reduceCtorEq, ↓reduceIte, Nat.reduceEqDiff, Nat.reduceAdd, Nat.reduceSub, Nat.reduceMul, Nat.reduceLeDiff, Nat.reduceLT, Nat.reduceBEq, Nat.reduceBNe, Int.reduceAdd, Int.reduceSub, Int.reduceMul, Int.reduceNeg, Int.reduceEq, Int.reduceNe, Int.reduceLT, Int.reduceLE, Int.reduceToNat, reduceDIte, Nat.reduceSucc, evI_callP, callPK_some, I6, hk, s20, onoG, gl, gm, h3, h4, q1, q2, q3, q4, olen, ca, cm, hap0, hap1, hap2, hs, h5]
end Go.Fw.Wd
