/-
  Datagrams: what Parse answers, by the program and by the document. Conditions: stated at each.
-/
import Derived.Test.YtigiopahmiaedaaGreatDoorWdNum2
set_option linter.unusedVariables false
set_option linter.unusedSimpArgs false
namespace Go.Fw.Wd
open Go.Proofs Code_

theorem s54 (g : Bool) (b : List UInt8) (hb : b.length ≤ 140737488355328) (i : Nat) (h : i + 2 ≤ b.length) : pcall E 54 [bs g b, .int .i64 (i : Int)] = some (.int .u16 ((n2 b i : Nat) : Int), []) := by
  rw [pcall_go (fn := I54) rfl rfl rfl]
  have hk : E.keep 54 = false := rfl
  have q := fun g => at2 g b hb i h
  have hl := n2_lt b i
  generalize n2 b i = n at *
  have w1 : IntKind.u16.wrap (n : Int) = (n : Int) := wu16 (by omega) (by omega)
  simp (disch := first | omega | (simp only [List.length_cons, List.length_nil, List.length_append, List.length_map, List.length_set]; omega) | rfl | (simp only [List.length_cons, List.length_nil, List.length_append, List.length_map, List.length_set, List.length_replicate, List.all_cons, List.all_nil, List.all_append, storable, plainB, Bool.and_self]; done)) only [go_sem, reduceCtorEq, ↓reduceIte, reduceDIte, evI_callP, callPK_some, I54, hk, q, w1]
theorem s50 (a b : UInt32) (n : Nat) (hn : n < 65536) : pcall E 50 [.int .u32 (a.toNat : Int), .int .u32 (b.toNat : Int), .int .i64 (n : Int)] = some (bs false (endsP a b 17 n), []) := by
  rw [pcall_go (fn := I50) rfl rfl rfl]
  have hk : E.keep 50 = false := rfl
  have ha := a.toNat_lt
  have hb := b.toNat_lt
  have w1 : IntKind.u64.wrap (a.toNat : Int) = (a.toNat : Int) := wu64 (by omega) (by omega)
  have w2 : IntKind.u64.wrap (b.toNat : Int) = (b.toNat : Int) := wu64 (by omega) (by omega)
  have w3 : IntKind.u64.wrap (n : Int) = (n : Int) := wu64 (by omega) (by omega)
  have q1 := row2 a.toNat b.toNat 4 (by omega) (by omega) (by omega) (by omega) (by omega)
  have q2 := row2 17 n 2 (by omega) (by omega) (by omega) (by omega) (by omega)
  unfold endsP
  obtain ⟨x1, e1⟩ : ∃ x, x = encb 4 a.toNat ++ encb 4 b.toNat := ⟨_, rfl⟩
  obtain ⟨x2, e2⟩ : ∃ x, x = encb 2 17 ++ encb 2 n := ⟨_, rfl⟩
  have l1 : x1.length = 8 := by rw [e1]; simp only [List.length_append, encb_length]
  have l2 : x2.length = 4 := by rw [e2]; simp only [List.length_append, encb_length]
  obtain ⟨x3, e3⟩ : ∃ x, x = x1 ++ x2 := ⟨_, rfl⟩
  have l3 : x3.length = 12 := by rw [e3, List.length_append, l1, l2]
  rw [List.append_assoc (encb 4 a.toNat ++ encb 4 b.toNat), ← e1, ← e2, ← e3]
  rw [← e1, l1] at q1
  rw [← e2, l2] at q2
  have hap : ∀ h, appR h 1 1 5 (x2.map by8) 4 0 0 8 (some (.row 0 1 (x1.map by8) 5)) = some (.sl 1 0 1 0 12, h.set 0 (.row 1 1 (x3.map by8) 5)) := fun h => by rw [e3]; exact appR_by8 h 1 5 0 0 8 4 x1 x2 l1 (by omega) (by omega)
  simp only [Int.cast_ofNat_Int] at q1 q2
  simp (disch := first | omega | (simp only [List.length_cons, List.length_nil, List.length_append, List.length_map, List.length_set]; omega) | rfl | (simp only [List.length_cons, List.length_nil, List.length_append, List.length_map, List.length_set, List.length_replicate, List.all_cons, List.all_nil, List.all_append, storable, plainB, Bool.and_self]; done)) only [go_sem, reduceCtorEq, ↓reduceIte, reduceDIte, evI_callP, callPK_some, I50, hk, w1, w2, w3, q1, q2, hap, l1, l2, l3]

/-- A datagram's cells. -/
def dgC (p q : Nat) (bare : Bool) (body : List UInt8) : List AV := [.int .u16 (p : Int), .int .u16 (q : Int), .bool bare, bs false body]
theorem dgC_eq (p q : Nat) (bare : Bool) (body : List UInt8) : dgC p q bare body = [.int .u16 (p : Int), .int .u16 (q : Int), .bool bare, bs false body] := rfl
/-- The error of a datagram's form. -/
def udpE (b : List UInt8) : Int := if b.length < 8 then 12 else if n2 b 4 < 8 then 10 else if b.length < n2 b 4 then 12 else if 1480 < n2 b 4 then 11 else 0
def udpOk (b : List UInt8) (x y : UInt32) : Bool := decide (n2 b 6 = 0) || decide (foldN (sumW (endsP x y 17 (n2 b 4) ++ b.take (n2 b 4))) = 65535)
/-- What Parse tells: the datagram, the reason, the error. -/
def udpD (b : List UInt8) (x y : UInt32) : List AV := if udpE b = 0 ∧ udpOk b x y = true then dgC (n2 b 0) (n2 b 2) (decide (n2 b 6 = 0)) ((b.take (n2 b 4)).drop 8) else dgC 0 0 false []
def udpR (b : List UInt8) : Int := if udpE b = 0 then 2 else 1
def udpF (b : List UInt8) (x y : UInt32) : Int := if udpE b = 0 then (if udpOk b x y = true then 0 else 13) else udpE b
theorem udpE_ok {b : List UInt8} (h : udpE b = 0) : 8 ≤ n2 b 4 ∧ n2 b 4 ≤ b.length ∧ n2 b 4 ≤ 1480 := by
  unfold udpE at h
  split at h
  · omega
  split at h
  · omega
  split at h
  · omega
  split at h <;> omega

theorem s19 (g : Bool) (b : List UInt8) (hb : b.length ≤ 1048576) (x y : UInt32) : pcall E 19 [bs g b, .int .u32 (x.toNat : Int), .int .u32 (y.toNat : Int)] = some (.tup [.agg (udpD b x y), errV (udpR b) (udpF b x y)], []) := by
  rw [pcall_go (fn := I19) rfl rfl rfl]
  have hk : E.keep 19 = false := rfl
  have f12 := s47 1 12 (by omega) (by omega)
  have f11 := s47 1 11 (by omega) (by omega)
  have f10 := s47 1 10 (by omega) (by omega)
  have f13 := s47 2 13 (by omega) (by omega)
  unfold errV faultV at f12 f11 f10 f13
  simp only [Int.reduceEq, if_false] at f12 f11 f10 f13
  have z0 : ((UInt8.toNat 0 : Nat) : Int) = 0 := rfl
  unfold udpD udpR udpF errV faultV
  by_cases h1 : b.length < 8
  · have h1' : (b.length : Int) < 8 := by omega
    have e : udpE b = 12 := by unfold udpE; rw [if_pos h1]
    simp only [e, Int.reduceEq, if_false, false_and, dgC_eq]
    simp (disch := first | omega | (simp only [List.length_cons, List.length_nil, List.length_append, List.length_map, List.length_set]; omega) | rfl | (simp only [List.length_cons, List.length_nil, List.length_append, List.length_map, List.length_set, List.length_replicate, List.all_cons, List.all_nil, List.all_append, storable, plainB, Bool.and_self]; done)) only [go_sem, reduceCtorEq, ↓reduceIte, reduceDIte, evI_callP, callPK_some, I19, hk, h1', f12, z0, Int.natCast_zero]
  have h1' : ¬ (b.length : Int) < 8 := by omega
  have q4 := fun g => s54 g b (by omega) 4 (by omega)
  have hl4 := n2_lt b 4
  obtain ⟨n, hn⟩ : ∃ n, n = n2 b 4 := ⟨_, rfl⟩
  have w1 : IntKind.i64.wrap (n : Int) = (n : Int) := w64 (by omega) (by omega)
  simp only [Int.cast_ofNat_Int] at q4
  rw [← hn] at q4
  by_cases h2 : n < 8
  · have h2' : (n : Int) < 8 := by omega
    have e : udpE b = 10 := by unfold udpE; rw [if_neg h1, ← hn, if_pos h2]
    simp only [e, Int.reduceEq, if_false, false_and, dgC_eq]
    simp (disch := first | omega | (simp only [List.length_cons, List.length_nil, List.length_append, List.length_map, List.length_set]; omega) | rfl | (simp only [List.length_cons, List.length_nil, List.length_append, List.length_map, List.length_set, List.length_replicate, List.all_cons, List.all_nil, List.all_append, storable, plainB, Bool.and_self]; done)) only [go_sem, reduceCtorEq, ↓reduceIte, reduceDIte, evI_callP, callPK_some, I19, hk, h1', h2', q4, w1, f10, z0, Int.natCast_zero]
  have h2' : ¬ (n : Int) < 8 := by omega
  by_cases h3 : b.length < n
  · have h3' : (b.length : Int) < (n : Int) := by omega
    have e : udpE b = 12 := by unfold udpE; rw [if_neg h1, ← hn, if_neg h2, if_pos h3]
    simp only [e, Int.reduceEq, if_false, false_and, dgC_eq]
    simp (disch := first | omega | (simp only [List.length_cons, List.length_nil, List.length_append, List.length_map, List.length_set]; omega) | rfl | (simp only [List.length_cons, List.length_nil, List.length_append, List.length_map, List.length_set, List.length_replicate, List.all_cons, List.all_nil, List.all_append, storable, plainB, Bool.and_self]; done)) only [go_sem, reduceCtorEq, ↓reduceIte, reduceDIte, evI_callP, callPK_some, I19, hk, h1', h2', h3', q4, w1, f12, z0, Int.natCast_zero]
  have h3' : ¬ (b.length : Int) < (n : Int) := by omega
  by_cases h4 : 1480 < n
  · have h4' : (1480 : Int) < (n : Int) := by omega
    have e : udpE b = 11 := by unfold udpE; rw [if_neg h1, ← hn, if_neg h2, if_neg h3, if_pos h4]
    simp only [e, Int.reduceEq, if_false, false_and, dgC_eq]
    simp (disch := first | omega | (simp only [List.length_cons, List.length_nil, List.length_append, List.length_map, List.length_set]; omega) | rfl | (simp only [List.length_cons, List.length_nil, List.length_append, List.length_map, List.length_set, List.length_replicate, List.all_cons, List.all_nil, List.all_append, storable, plainB, Bool.and_self]; done)) only [go_sem, reduceCtorEq, ↓reduceIte, reduceDIte, evI_callP, callPK_some, I19, hk, h1', h2', h3', h4', q4, w1, f11, z0, Int.natCast_zero]
  have h4' : ¬ (1480 : Int) < (n : Int) := by omega
  have e : udpE b = 0 := by unfold udpE; rw [if_neg h1, ← hn, if_neg h2, if_neg h3, if_neg h4]
  simp only [e, if_true, true_and]
  unfold udpOk
  rw [← hn]
  obtain ⟨c, hc⟩ : ∃ c, c = b.take n := ⟨_, rfl⟩
  have hcl : c.length = n := by rw [hc, List.length_take]; omega
  have hsl : ∀ h g, sliceK h 1 (.rs g 1 (b.map by8)) (some b.length) none (some (.int .i64 (n : Int))) = some (.rs g 1 (c.map by8), h) := fun h g => by
    have := slice_by_ni h g b .i64 (n : Int) (by omega) (by omega)
    rw [Int.toNat_natCast, ← hc] at this
    exact this
  have c6 : n2 b 6 = n2 c 6 := by rw [hc, n2_take _ _ _ (by omega)]
  have c0 : n2 b 0 = n2 c 0 := by rw [hc, n2_take _ _ _ (by omega)]
  have c2 : n2 b 2 = n2 c 2 := by rw [hc, n2_take _ _ _ (by omega)]
  rw [c6, c0, c2, ← hc]
  have q6 := fun g => s54 g c (by omega) 6 (by omega)
  have q0 := fun g => s54 g c (by omega) 0 (by omega)
  have q2 := fun g => s54 g c (by omega) 2 (by omega)
  have qe := s50 x y n (by omega)
  have le := endsP_len x y 17 n
  obtain ⟨en, hen⟩ : ∃ e, e = endsP x y 17 n := ⟨_, rfl⟩
  rw [← hen] at qe le ⊢
  have ec : cat [(false, en), (g, c)] = en ++ c := by simp [cat]
  have qr := fun g1 => s55 g1 [(false, en), (g, c)] (by simp) (by rw [ec, List.length_append]; omega)
  rw [ec] at qr
  simp only [List.map_cons, List.map_nil, encP_eq] at qr
  have qc := fun g => s43 g (c.drop 8) (by rw [List.length_drop]; omega)
  have hs8 : ∀ h g, sliceK h 1 (.rs g 1 (c.map by8)) (some n) (some (.int .i64 8)) none = some (.rs g 1 ((c.drop 8).map by8), h) := fun h g => by
    have := slice_by_in h g c .i64 8 (by omega) (by omega)
    rw [hcl] at this
    exact this
  have hl6 := n2_lt c 6
  simp only [Int.cast_ofNat_Int, Int.natCast_zero] at q6 q0 q2
  generalize n2 c 0 = p at *
  generalize n2 c 2 = q at *
  generalize n2 c 6 = s at *
  obtain ⟨d, hd⟩ : ∃ d, d = c.drop 8 := ⟨_, rfl⟩
  rw [← hd] at qc hs8 ⊢
  have hdl : d.length = n - 8 := by rw [hd, List.length_drop, hcl]
  clear hc hd hen c6 c0 c2 hn
  by_cases h6 : s = 0
  · have h6' : (s : Int) = 0 := by omega
    simp only [h6, decide_true, Bool.true_or, if_true, dgC_eq]
    simp only [h6', Int.natCast_zero] at q6
    simp (disch := first | omega | (simp only [List.length_cons, List.length_nil, List.length_append, List.length_map, List.length_set]; omega) | rfl | (simp only [List.length_cons, List.length_nil, List.length_append, List.length_map, List.length_set, List.length_replicate, List.all_cons, List.all_nil, List.all_append, storable, plainB, Bool.and_self]; done)) only [go_sem, reduceCtorEq, ↓reduceIte, reduceDIte, evI_callP, callPK_some, I19, hk, h1', h2', h3', h4', q4, q6, q0, q2, w1, hsl, hs8, qc, hcl, hdl]
  have h6' : ¬ (s : Int) = 0 := by omega
  by_cases h7 : foldN (sumW (en ++ c)) = 65535
  · rw [decide_eq_true h7] at qr
    simp only [h7, h6, decide_true, decide_false, Bool.or_true, if_true, dgC_eq]
    simp (disch := first | omega | (simp only [List.length_cons, List.length_nil, List.length_append, List.length_map, List.length_set]; omega) | rfl | (simp only [List.length_cons, List.length_nil, List.length_append, List.length_map, List.length_set, List.length_replicate, List.all_cons, List.all_nil, List.all_append, storable, plainB, Bool.and_self]; done)) only [go_sem, reduceCtorEq, ↓reduceIte, reduceDIte, evI_callP, callPK_some, I19, hk, h1', h2', h3', h4', h6', q4, q6, q0, q2, w1, hsl, hs8, qc, qe, qr, hcl, hdl]
  · rw [decide_eq_false h7] at qr
    simp only [h7, h6, decide_true, decide_false, Bool.or_false, Bool.false_eq_true, if_false, Int.reduceEq, dgC_eq]
    simp (disch := first | omega | (simp only [List.length_cons, List.length_nil, List.length_append, List.length_map, List.length_set]; omega) | rfl | (simp only [List.length_cons, List.length_nil, List.length_append, List.length_map, List.length_set, List.length_replicate, List.all_cons, List.all_nil, List.all_append, storable, plainB, Bool.and_self]; done)) only [go_sem, reduceCtorEq, ↓reduceIte, reduceDIte, evI_callP, callPK_some, I19, hk, h1', h2', h3', h4', h6', q4, q6, q0, q2, w1, hsl, hs8, qc, qe, qr, hcl, hdl, f13, z0, Int.natCast_zero]
end Go.Fw.Wd
