/-
  Parse on the caller's memory; the law UdpParses at the evaluation. Conditions: stated at each.
-/
import Derived.Test.YtmmfimpphhebfaaDoorWdUdpc
set_option linter.unusedVariables false
set_option linter.unusedSimpArgs false
namespace Go.Fw.Wd
open Go.Proofs Code_

/-- A datagram whose body is memory of the run's own. -/
def dgO (p q : Nat) (r : Bool) (k n : Nat) : List AV := [.int .u16 (p : Int), .int .u16 (q : Int), .bool r, .sl 1 k 0 0 n]
theorem dgO_eq (p q : Nat) (r : Bool) (k n : Nat) : dgO p q r k n = [.int .u16 (p : Int), .int .u16 (q : Int), .bool r, .sl 1 k 0 0 n] := rfl
theorem m39 (g : Bool) (b : List UInt8) (hb : b.length ≤ 1048576) (x y : UInt32) (hE : udpE b = 0) (hO : udpOk b x y = true) : hcall E 39 [bs g b, .int .u32 (x.toNat : Int), .int .u32 (y.toNat : Int)] [] =
    some (.tup [.agg (dgO (n2 b 0) (n2 b 2) (decide (n2 b 6 = 0)) 1 (n2 b 4 - 8)), .nili], [.cells true (dgO (n2 b 0) (n2 b 2) (decide (n2 b 6 = 0)) 1 (n2 b 4 - 8)) 51, .row 0 1 (((b.take (n2 b 4)).drop 8).map by8) 5]) := by
  rw [hcall_go (fn := I39) rfl rfl rfl]
  obtain ⟨h8, hbn, h1480⟩ := udpE_ok hE
  have h1' : ¬ (b.length : Int) < 8 := by omega
  have q4 := fun g => s106 g b (by omega) 4 (by omega)
  simp only [Int.cast_ofNat_Int] at q4
  obtain ⟨n, hn⟩ : ∃ n, n = n2 b 4 := ⟨_, rfl⟩
  rw [← hn] at q4 h8 hbn h1480 ⊢
  have w1 : IntKind.i64.wrap (n : Int) = (n : Int) := w64 (by omega) (by omega)
  have h2' : ¬ (n : Int) < 8 := by omega
  have h3' : ¬ (b.length : Int) < (n : Int) := by omega
  have h4' : ¬ (1480 : Int) < (n : Int) := by omega
  unfold udpOk at hO
  rw [← hn] at hO
  obtain ⟨c, hc⟩ : ∃ c, c = b.take n := ⟨_, rfl⟩
  have hcl : c.length = n := by rw [hc, List.length_take]; omega
  have hsl : ∀ h g, sliceK h 1 (.rs g 1 (b.map by8)) (some b.length) none (some (.int .i64 (n : Int))) = some (.rs g 1 (c.map by8), h) := fun h g => by
    have := slice_by_ni h g b .i64 (n : Int) (by omega) (by omega)
    rw [Int.toNat_natCast, ← hc] at this
    exact this
  have c6 : n2 b 6 = n2 c 6 := by rw [hc, n2_take _ _ _ (by omega)]
  have c0 : n2 b 0 = n2 c 0 := by rw [hc, n2_take _ _ _ (by omega)]
  have c2 : n2 b 2 = n2 c 2 := by rw [hc, n2_take _ _ _ (by omega)]
  rw [c6, ← hc] at hO
  rw [c6, c0, c2, ← hc]
  have q6 := fun g => s106 g c (by omega) 6 (by omega)
  have q0 := fun g => s106 g c (by omega) 0 (by omega)
  have q2 := fun g => s106 g c (by omega) 2 (by omega)
  have qe := s107 x y n (by omega)
  have le := endsP_len x y 17 n
  obtain ⟨en, hen⟩ : ∃ e, e = endsP x y 17 n := ⟨_, rfl⟩
  rw [← hen] at qe le hO
  have ec : cat [(false, en), (g, c)] = en ++ c := by simp [cat]
  have qr := fun g1 => s57 g1 [(false, en), (g, c)] (by simp) (by rw [ec, List.length_append]; omega)
  rw [ec] at qr
  simp only [List.map_cons, List.map_nil, encP_eq] at qr
  have qc := fun g => s91 g (c.drop 8) (by rw [List.length_drop]; omega)
  have hs8 : ∀ h g, sliceK h 1 (.rs g 1 (c.map by8)) (some n) (some (.int .i64 8)) none = some (.rs g 1 ((c.drop 8).map by8), h) := fun h g => by
    have := slice_by_in h g c .i64 8 (by omega) (by omega)
    rw [hcl] at this
    exact this
  simp only [Int.cast_ofNat_Int, Int.natCast_zero] at q6 q0 q2
  generalize n2 c 0 = p at *
  generalize n2 c 2 = q at *
  generalize n2 c 6 = s at *
  obtain ⟨d, hd⟩ : ∃ d, d = c.drop 8 := ⟨_, rfl⟩
  rw [← hd] at qc hs8 ⊢
  have hdl : d.length = n - 8 := by rw [hd, List.length_drop, hcl]
  clear hc hd hen c6 c0 c2 hn
  simp only [dgO_eq]
  by_cases h6 : s = 0
  · have h6' : (s : Int) = 0 := by omega
    simp only [h6, decide_true]
    simp only [h6', Int.natCast_zero] at q6
    simp (disch := first | omega | (simp only [List.length_cons, List.length_nil, List.length_append, List.length_map, List.length_set]; omega) | rfl | (simp only [List.length_cons, List.length_nil, List.length_append, List.length_map, List.length_set, List.length_replicate, List.all_cons, List.all_nil, List.all_append, storable, plainB, Bool.and_self]; done)) only [go_sem, reduceCtorEq, ↓reduceIte, Nat.reduceEqDiff, Nat.reduceAdd, Nat.reduceSub, Nat.reduceMul, Nat.reduceLeDiff, Nat.reduceLT, Nat.reduceBEq, Nat.reduceBNe, Int.reduceAdd, Int.reduceSub, Int.reduceMul, Int.reduceNeg, Int.reduceEq, Int.reduceNe, Int.reduceLT, Int.reduceLE, Int.reduceToNat, reduceDIte, Nat.reduceSucc, evI_callP, callPK_some, I39, h1', h2', h3', h4', q4, q6, q0, q2, w1, hsl, hs8, qc, hcl, hdl]
  have h6' : ¬ (s : Int) = 0 := by omega
  have h7 : foldN (sumW (en ++ c)) = 65535 := by simpa [h6] using hO
  rw [decide_eq_true h7] at qr
  simp only [h6, decide_false]
  simp (disch := first | omega | (simp only [List.length_cons, List.length_nil, List.length_append, List.length_map, List.length_set]; omega) | rfl | (simp only [List.length_cons, List.length_nil, List.length_append, List.length_map, List.length_set, List.length_replicate, List.all_cons, List.all_nil, List.all_append, storable, plainB, Bool.and_self]; done)) only [go_sem, reduceCtorEq, ↓reduceIte, Nat.reduceEqDiff, Nat.reduceAdd, Nat.reduceSub, Nat.reduceMul, Nat.reduceLeDiff, Nat.reduceLT, Nat.reduceBEq, Nat.reduceBNe, Int.reduceAdd, Int.reduceSub, Int.reduceMul, Int.reduceNeg, Int.reduceEq, Int.reduceNe, Int.reduceLT, Int.reduceLE, Int.reduceToNat, reduceDIte, Nat.reduceSucc, evI_callP, callPK_some, I39, h1', h2', h3', h4', h6', q4, q6, q0, q2, w1, hsl, hs8, qc, qe, qr, hcl, hdl]
theorem me39 (g : Bool) (b : List UInt8) (hb : b.length ≤ 1048576) (x y : UInt32) (hF : ¬ udpF b x y = 0) : ∃ c, hcall E 39 [bs g b, .int .u32 (x.toNat : Int), .int .u32 (y.toNat : Int)] [] =
    some (.tup [.agg (dgC 0 0 false []), errV (udpR b) (udpF b x y)], [c]) := by
  rw [hcall_go (fn := I39) rfl rfl rfl]
  have f12 := s88 1 12 (by omega) (by omega)
  have f11 := s88 1 11 (by omega) (by omega)
  have f10 := s88 1 10 (by omega) (by omega)
  have f13 := s88 2 13 (by omega) (by omega)
  unfold errV faultV at f12 f11 f10 f13
  simp only [Int.reduceEq, if_false] at f12 f11 f10 f13
  have z0 : ((UInt8.toNat 0 : Nat) : Int) = 0 := rfl
  refine ⟨.cells true (dgC 0 0 false []) 51, ?_⟩
  revert hF
  unfold udpR udpF errV faultV
  intro hF
  by_cases h1 : b.length < 8
  · have h1' : (b.length : Int) < 8 := by omega
    have e : udpE b = 12 := by unfold udpE; rw [if_pos h1]
    simp only [e, Int.reduceEq, if_false, dgC_eq]
    simp (disch := first | omega | (simp only [List.length_cons, List.length_nil, List.length_append, List.length_map, List.length_set]; omega) | rfl | (simp only [List.length_cons, List.length_nil, List.length_append, List.length_map, List.length_set, List.length_replicate, List.all_cons, List.all_nil, List.all_append, storable, plainB, Bool.and_self]; done)) only [go_sem, reduceCtorEq, ↓reduceIte, Nat.reduceEqDiff, Nat.reduceAdd, Nat.reduceSub, Nat.reduceMul, Nat.reduceLeDiff, Nat.reduceLT, Nat.reduceBEq, Nat.reduceBNe, Int.reduceAdd, Int.reduceSub, Int.reduceMul, Int.reduceNeg, Int.reduceEq, Int.reduceNe, Int.reduceLT, Int.reduceLE, Int.reduceToNat, reduceDIte, Nat.reduceSucc, evI_callP, callPK_some, I39, h1', f12, z0, Int.natCast_zero]
  have h1' : ¬ (b.length : Int) < 8 := by omega
  have q4 := fun g => s106 g b (by omega) 4 (by omega)
  have hl4 := n2_lt b 4
  obtain ⟨n, hn⟩ : ∃ n, n = n2 b 4 := ⟨_, rfl⟩
  have w1 : IntKind.i64.wrap (n : Int) = (n : Int) := w64 (by omega) (by omega)
  simp only [Int.cast_ofNat_Int] at q4
  rw [← hn] at q4
  by_cases h2 : n < 8
  · have h2' : (n : Int) < 8 := by omega
    have e : udpE b = 10 := by unfold udpE; rw [if_neg h1, ← hn, if_pos h2]
    simp only [e, Int.reduceEq, if_false, dgC_eq]
    simp (disch := first | omega | (simp only [List.length_cons, List.length_nil, List.length_append, List.length_map, List.length_set]; omega) | rfl | (simp only [List.length_cons, List.length_nil, List.length_append, List.length_map, List.length_set, List.length_replicate, List.all_cons, List.all_nil, List.all_append, storable, plainB, Bool.and_self]; done)) only [go_sem, reduceCtorEq, ↓reduceIte, Nat.reduceEqDiff, Nat.reduceAdd, Nat.reduceSub, Nat.reduceMul, Nat.reduceLeDiff, Nat.reduceLT, Nat.reduceBEq, Nat.reduceBNe, Int.reduceAdd, Int.reduceSub, Int.reduceMul, Int.reduceNeg, Int.reduceEq, Int.reduceNe, Int.reduceLT, Int.reduceLE, Int.reduceToNat, reduceDIte, Nat.reduceSucc, evI_callP, callPK_some, I39, h1', h2', q4, w1, f10, z0, Int.natCast_zero]
  have h2' : ¬ (n : Int) < 8 := by omega
  by_cases h3 : b.length < n
  · have h3' : (b.length : Int) < (n : Int) := by omega
    have e : udpE b = 12 := by unfold udpE; rw [if_neg h1, ← hn, if_neg h2, if_pos h3]
    simp only [e, Int.reduceEq, if_false, dgC_eq]
    simp (disch := first | omega | (simp only [List.length_cons, List.length_nil, List.length_append, List.length_map, List.length_set]; omega) | rfl | (simp only [List.length_cons, List.length_nil, List.length_append, List.length_map, List.length_set, List.length_replicate, List.all_cons, List.all_nil, List.all_append, storable, plainB, Bool.and_self]; done)) only [go_sem, reduceCtorEq, ↓reduceIte, Nat.reduceEqDiff, Nat.reduceAdd, Nat.reduceSub, Nat.reduceMul, Nat.reduceLeDiff, Nat.reduceLT, Nat.reduceBEq, Nat.reduceBNe, Int.reduceAdd, Int.reduceSub, Int.reduceMul, Int.reduceNeg, Int.reduceEq, Int.reduceNe, Int.reduceLT, Int.reduceLE, Int.reduceToNat, reduceDIte, Nat.reduceSucc, evI_callP, callPK_some, I39, h1', h2', h3', q4, w1, f12, z0, Int.natCast_zero]
  have h3' : ¬ (b.length : Int) < (n : Int) := by omega
  by_cases h4 : 1480 < n
  · have h4' : (1480 : Int) < (n : Int) := by omega
    have e : udpE b = 11 := by unfold udpE; rw [if_neg h1, ← hn, if_neg h2, if_neg h3, if_pos h4]
    simp only [e, Int.reduceEq, if_false, dgC_eq]
    simp (disch := first | omega | (simp only [List.length_cons, List.length_nil, List.length_append, List.length_map, List.length_set]; omega) | rfl | (simp only [List.length_cons, List.length_nil, List.length_append, List.length_map, List.length_set, List.length_replicate, List.all_cons, List.all_nil, List.all_append, storable, plainB, Bool.and_self]; done)) only [go_sem, reduceCtorEq, ↓reduceIte, Nat.reduceEqDiff, Nat.reduceAdd, Nat.reduceSub, Nat.reduceMul, Nat.reduceLeDiff, Nat.reduceLT, Nat.reduceBEq, Nat.reduceBNe, Int.reduceAdd, Int.reduceSub, Int.reduceMul, Int.reduceNeg, Int.reduceEq, Int.reduceNe, Int.reduceLT, Int.reduceLE, Int.reduceToNat, reduceDIte, Nat.reduceSucc, evI_callP, callPK_some, I39, h1', h2', h3', h4', q4, w1, f11, z0, Int.natCast_zero]
  have h4' : ¬ (1480 : Int) < (n : Int) := by omega
  have e : udpE b = 0 := by unfold udpE; rw [if_neg h1, ← hn, if_neg h2, if_neg h3, if_neg h4]
  have hok : ¬ udpOk b x y = true := fun hok => hF (by rw [if_pos e, if_pos hok])
  simp only [e, hok, if_true, if_false, Int.reduceEq]
  unfold udpOk at hok
  rw [← hn] at hok
  obtain ⟨c, hc⟩ : ∃ c, c = b.take n := ⟨_, rfl⟩
  have hcl : c.length = n := by rw [hc, List.length_take]; omega
  have hsl : ∀ h g, sliceK h 1 (.rs g 1 (b.map by8)) (some b.length) none (some (.int .i64 (n : Int))) = some (.rs g 1 (c.map by8), h) := fun h g => by
    have := slice_by_ni h g b .i64 (n : Int) (by omega) (by omega)
    rw [Int.toNat_natCast, ← hc] at this
    exact this
  have c6 : n2 b 6 = n2 c 6 := by rw [hc, n2_take _ _ _ (by omega)]
  rw [c6, ← hc] at hok
  have q6 := fun g => s106 g c (by omega) 6 (by omega)
  have qe := s107 x y n (by omega)
  have le := endsP_len x y 17 n
  obtain ⟨en, hen⟩ : ∃ e, e = endsP x y 17 n := ⟨_, rfl⟩
  rw [← hen] at qe le hok
  have ec : cat [(false, en), (g, c)] = en ++ c := by simp [cat]
  have qr := fun g1 => s57 g1 [(false, en), (g, c)] (by simp) (by rw [ec, List.length_append]; omega)
  rw [ec] at qr
  simp only [List.map_cons, List.map_nil, encP_eq] at qr
  simp only [Int.cast_ofNat_Int] at q6
  generalize n2 c 6 = s at *
  have h6 : ¬ s = 0 := fun h => hok (by simp [h])
  have h6' : ¬ (s : Int) = 0 := by omega
  have h7 : ¬ foldN (sumW (en ++ c)) = 65535 := fun h => hok (by simp [h])
  rw [decide_eq_false h7] at qr
  clear hc hen c6 hn
  simp only [dgC_eq]
  simp (disch := first | omega | (simp only [List.length_cons, List.length_nil, List.length_append, List.length_map, List.length_set]; omega) | rfl | (simp only [List.length_cons, List.length_nil, List.length_append, List.length_map, List.length_set, List.length_replicate, List.all_cons, List.all_nil, List.all_append, storable, plainB, Bool.and_self]; done)) only [go_sem, reduceCtorEq, ↓reduceIte, Nat.reduceEqDiff, Nat.reduceAdd, Nat.reduceSub, Nat.reduceMul, Nat.reduceLeDiff, Nat.reduceLT, Nat.reduceBEq, Nat.reduceBNe, Int.reduceAdd, Int.reduceSub, Int.reduceMul, Int.reduceNeg, Int.reduceEq, Int.reduceNe, Int.reduceLT, Int.reduceLE, Int.reduceToNat, reduceDIte, Nat.reduceSucc, evI_callP, callPK_some, I39, h1', h2', h3', h4', h6', q4, q6, w1, hsl, qe, qr, hcl, f13, z0, Int.natCast_zero]

/-! ### the law -/

theorem udp_loop (b : List UInt8) (hb : b.length ≤ 3000) (p q : Nat) (r : Bool) (n : Nat) (c0 c3 c4 : AObj) (t2 : TypeId) : ∀ (k i : Nat) (v : List UInt8), i + k = n → n ≤ 3000 → v.length = n →
    (T5_0 E (lp E L5_0 [(0, bs false b), (7, bs false b), (8, .ref 2 0 0), (12, .int .i64 (i : Int))] [c0, .row 0 1 (v.map by8) 5, .cells true (dgO p q r 1 n) t2, c3, c4])).bind (finish false) = some (.bool true, [])
  | 0, i, v, hi, hn, hv => by
    have g1 : ¬ (i : Int) < (n : Int) := by omega
    have q1 := fun g g' => s31 g g' b b (by omega)
    rw [L5_0_go]
    simp only [dgO_eq]
    simp (disch := first | omega | (simp only [List.length_cons, List.length_nil, List.length_append, List.length_map, List.length_set]; omega) | rfl | (simp only [List.length_cons, List.length_nil, List.length_append, List.length_map, List.length_set, List.length_replicate, List.all_cons, List.all_nil, List.all_append, storable, plainB, Bool.and_self]; done)) only [go_sem, reduceCtorEq, ↓reduceIte, Nat.reduceEqDiff, Nat.reduceAdd, Nat.reduceSub, Nat.reduceMul, Nat.reduceLeDiff, Nat.reduceLT, Nat.reduceBEq, Nat.reduceBNe, Int.reduceAdd, Int.reduceSub, Int.reduceMul, Int.reduceNeg, Int.reduceEq, Int.reduceNe, Int.reduceLT, Int.reduceLE, Int.reduceToNat, reduceDIte, Nat.reduceSucc, evI_callP, callPK_some, B5_0, T5_0, g1, q1]
  | k + 1, i, v, hi, hn, hv => by
    have g1 : (i : Int) < (n : Int) := by omega
    have hlt := (nth v i).toNat_lt
    have w : IntKind.u8.wrap (((nth v i).toNat : Int) + 1) = ((nth v i + UInt8.ofNat 1).toNat : Int) := wrap8_add (nth v i) 1
    have w1 : IntKind.i64.wrap ((i : Int) + 1) = (((i + 1 : Nat)) : Int) := by rw [w64 (by omega) (by omega)]; omega
    have ia : ∀ h, (objCells h 1 0).isSome = true → iaddrK h 1 (.sl 1 1 0 0 n) (.int .i64 (i : Int)) = some (.ref 1 0 i, h) := fun h hs => by
      have := iaddrK_sl h 1 1 0 0 n .i64 (i : Int) (by omega) (by omega) hs
      simpa using this
    have ia2 : ∀ c0 (u : List AV) t l, iaddrK (c0 :: .row 0 1 u t :: l) 1 (.sl 1 1 0 0 n) (.int .i64 (i : Int)) = some (.ref 1 0 i, c0 :: .row 0 1 u t :: l) := fun c0 u t l => ia _ rfl
    obtain ⟨v', hv'⟩ : ∃ v', v' = v.set i (nth v i + UInt8.ofNat 1) := ⟨_, rfl⟩
    have ih := udp_loop b hb p q r n c0 c3 c4 t2 k (i + 1) v' (by omega) hn (by rw [hv', List.length_set, hv])
    have st : ∀ h t, stR h 1 0 i (.int .u8 ((nth v i + UInt8.ofNat 1).toNat : Int)) (some (.row 0 1 (v.map by8) t)) = some (h.set 1 (.row 0 1 (v'.map by8) t)) := fun h t => by rw [hv']; exact stR_by8 h 1 0 i v _ t (by omega)
    rw [L5_0_go, ← ih]
    simp only [dgO_eq]
    clear hv'
    simp (disch := first | omega | (simp only [List.length_cons, List.length_nil, List.length_append, List.length_map, List.length_set]; omega) | rfl | (simp only [List.length_cons, List.length_nil, List.length_append, List.length_map, List.length_set, List.length_replicate, List.all_cons, List.all_nil, List.all_append, storable, plainB, Bool.and_self]; done)) only [go_sem, reduceCtorEq, ↓reduceIte, Nat.reduceEqDiff, Nat.reduceAdd, Nat.reduceSub, Nat.reduceMul, Nat.reduceLeDiff, Nat.reduceLT, Nat.reduceBEq, Nat.reduceBNe, Int.reduceAdd, Int.reduceSub, Int.reduceMul, Int.reduceNeg, Int.reduceEq, Int.reduceNe, Int.reduceLT, Int.reduceLE, Int.reduceToNat, reduceDIte, Nat.reduceSucc, evI_callP, callPK_some, B5_0, L5_0_lp, g1, ia2, w, w1, st]
theorem s42t (p q : Nat) (r : Bool) (body : List UInt8) (hl : body.length ≤ 1048576) : pcall E 42 [.agg [.int .u16 (p : Int), .int .u16 (q : Int), .bool r, .rs true 1 (body.map by8)]] = some (.agg (dgC p q r body), []) := by
  rw [pcall_go (fn := I42) rfl rfl rfl]
  have hk : E.keep 42 = false := rfl
  have q1 := fun g => s25 g body (by omega)
  simp only [dgC_eq]
  simp (disch := first | omega | (simp only [List.length_cons, List.length_nil, List.length_append, List.length_map, List.length_set]; omega) | rfl | (simp only [List.length_cons, List.length_nil, List.length_append, List.length_map, List.length_set, List.length_replicate, List.all_cons, List.all_nil, List.all_append, storable, plainB, Bool.and_self]; done)) only [go_sem, reduceCtorEq, ↓reduceIte, Nat.reduceEqDiff, Nat.reduceAdd, Nat.reduceSub, Nat.reduceMul, Nat.reduceLeDiff, Nat.reduceLT, Nat.reduceBEq, Nat.reduceBNe, Int.reduceAdd, Int.reduceSub, Int.reduceMul, Int.reduceNeg, Int.reduceEq, Int.reduceNe, Int.reduceLT, Int.reduceLE, Int.reduceToNat, reduceDIte, Nat.reduceSucc, evI_callP, callPK_some, I42, hk, q1]
theorem law5 (b : List UInt8) (x y : UInt32) : pcall E 5 [bs false b, .int .u32 (x.toNat : Int), .int .u32 (y.toNat : Int)] = some (.bool true, []) := by
  rw [pcall_go (fn := I5) rfl rfl rfl]
  have hk : E.keep 5 = false := rfl
  by_cases h1 : (3000 : Int) < b.length
  · simp (disch := first | omega | (simp only [List.length_cons, List.length_nil, List.length_append, List.length_map, List.length_set]; omega) | rfl | (simp only [List.length_cons, List.length_nil, List.length_append, List.length_map, List.length_set, List.length_replicate, List.all_cons, List.all_nil, List.all_append, storable, plainB, Bool.and_self]; done)) only [go_sem, reduceCtorEq, ↓reduceIte, Nat.reduceEqDiff, Nat.reduceAdd, Nat.reduceSub, Nat.reduceMul, Nat.reduceLeDiff, Nat.reduceLT, Nat.reduceBEq, Nat.reduceBNe, Int.reduceAdd, Int.reduceSub, Int.reduceMul, Int.reduceNeg, Int.reduceEq, Int.reduceNe, Int.reduceLT, Int.reduceLE, Int.reduceToNat, reduceDIte, Nat.reduceSucc, evI_callP, callPK_some, I5, hk, s38, h1]
  have q1 := fun g => s25 g b (by omega)
  have q2 := fun g => s40 g b (by omega) x y
  have q3 := is_same (udpR b) (udpF b x y)
  have qq := fun g g' => s31 g g' b b (by omega)
  by_cases hF : udpF b x y = 0
  case neg =>
    have hD : udpD b x y = dgC 0 0 false [] := by
      unfold udpD
      rw [if_neg]
      rintro ⟨h2, h3⟩
      exact hF (by unfold udpF; rw [if_pos h2, if_pos h3])
    obtain ⟨c, m1⟩ := me39 false b (by omega) x y hF
    have o1 := s42 0 0 false [] (by simp)
    have e1 := s41 0 0 false [] 0 0 false []
    rw [dgSame_self] at e1
    rw [hD] at q2
    unfold errV at m1 q3
    unfold faultC at q2 q3
    rw [if_neg hF] at m1 q2
    rw [if_neg hF, if_neg hF] at q3
    generalize udpF b x y = f at *
    generalize udpR b = r at *
    simp only [faultV, dgC_eq, List.map_nil, bs, Int.natCast_zero] at m1 q2 q3 o1 e1
    simp (disch := first | omega | (simp only [List.length_cons, List.length_nil, List.length_append, List.length_map, List.length_set]; omega) | rfl | (simp only [List.length_cons, List.length_nil, List.length_append, List.length_map, List.length_set, List.length_replicate, List.all_cons, List.all_nil, List.all_append, storable, plainB, Bool.and_self]; done)) only [go_sem, reduceCtorEq, ↓reduceIte, Nat.reduceEqDiff, Nat.reduceAdd, Nat.reduceSub, Nat.reduceMul, Nat.reduceLeDiff, Nat.reduceLT, Nat.reduceBEq, Nat.reduceBNe, Int.reduceAdd, Int.reduceSub, Int.reduceMul, Int.reduceNeg, Int.reduceEq, Int.reduceNe, Int.reduceLT, Int.reduceLE, Int.reduceToNat, reduceDIte, Nat.reduceSucc, evI_callP, callPK_some, I5, hk, s38, h1, q1, q2, q3, qq, m1, o1, e1, L5_0_lp, L5_0_go, B5_0, Int.lt_irrefl]
  have hE : udpE b = 0 := by
    by_cases h : udpE b = 0
    · exact h
    · unfold udpF at hF; rw [if_neg h] at hF; exact absurd hF h
  have hO : udpOk b x y = true := by
    by_cases h : udpOk b x y = true
    · exact h
    · unfold udpF at hF; rw [if_pos hE, if_neg h] at hF; cases hF
  have m1 := m39 false b (by omega) x y hE hO
  have hD : udpD b x y = dgC (n2 b 0) (n2 b 2) (decide (n2 b 6 = 0)) ((b.take (n2 b 4)).drop 8) := by unfold udpD; rw [if_pos ⟨hE, hO⟩]
  obtain ⟨h8, hbn, h1480⟩ := udpE_ok hE
  have hl : ((b.take (n2 b 4)).drop 8).length = n2 b 4 - 8 := by rw [List.length_drop, List.length_take]; omega
  rw [hD, hF] at q2
  rw [hF] at q3
  have o1 := s42 (n2 b 0) (n2 b 2) (decide (n2 b 6 = 0)) ((b.take (n2 b 4)).drop 8) (by omega)
  have e1 := s41 (n2 b 0) (n2 b 2) (decide (n2 b 6 = 0)) ((b.take (n2 b 4)).drop 8) (n2 b 0) (n2 b 2) (decide (n2 b 6 = 0)) ((b.take (n2 b 4)).drop 8)
  rw [dgSame_self] at e1
  rw [errV_zero, faultC_zero] at q3
  rw [faultC_zero] at q2
  generalize n2 b 0 = p at *
  generalize n2 b 2 = q at *
  generalize decide (n2 b 6 = 0) = r at *
  generalize (b.take (n2 b 4)).drop 8 = d at *
  generalize n2 b 4 = n at *
  have lpf := fun c0 c3 c4 t2 => udp_loop b (by omega) p q r (n - 8) c0 c3 c4 t2 (n - 8) 0 d (by omega) (by omega) hl
  have o2 := s42t p q r d (by omega)
  simp only [dgC_eq, dgO_eq, Int.natCast_zero] at m1 q2 o1 o2 e1 lpf
  simp (disch := first | omega | (simp only [List.length_cons, List.length_nil, List.length_append, List.length_map, List.length_set]; omega) | rfl | (simp only [List.length_cons, List.length_nil, List.length_append, List.length_map, List.length_set, List.length_replicate, List.all_cons, List.all_nil, List.all_append, storable, plainB, Bool.and_self]; done)) only [go_sem, reduceCtorEq, ↓reduceIte, Nat.reduceEqDiff, Nat.reduceAdd, Nat.reduceSub, Nat.reduceMul, Nat.reduceLeDiff, Nat.reduceLT, Nat.reduceBEq, Nat.reduceBNe, Int.reduceAdd, Int.reduceSub, Int.reduceMul, Int.reduceNeg, Int.reduceEq, Int.reduceNe, Int.reduceLT, Int.reduceLE, Int.reduceToNat, reduceDIte, Nat.reduceSucc, evI_callP, callPK_some, I5, hk, s38, h1, q1, q2, q3, qq, m1, o1, o2, e1, L5_0_lp, hl]
  exact lpf _ _ _ _
end Go.Fw.Wd
