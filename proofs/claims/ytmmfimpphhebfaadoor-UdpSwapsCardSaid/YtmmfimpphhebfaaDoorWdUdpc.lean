/-
  Datagrams: their bytes by the document; the laws UdpWrites and UdpSwaps at the evaluation. Conditions: stated at each.
-/
import Derived.Test.YtmmfimpphhebfaaDoorWdUdpb
set_option linter.unusedVariables false
set_option linter.unusedSimpArgs false
namespace Go.Fw.Wd
open Go.Proofs Code_

theorem s38 : pcall E 38 [] = some (.bool true, []) := pcall_run 100 (by kernel_rfl)
theorem rbytes_err (p q : Nat) (r : Bool) (body : List UInt8) (hb : 1472 < body.length) (x y : UInt32) : pcall E 44 [.agg (dgC p q r body), .int .u32 (x.toNat : Int), .int .u32 (y.toNat : Int)] = some (.tup [bs false [], .agg (faultC 1 11)], []) := by
  rw [pcall_go (fn := I44) rfl rfl rfl]
  have hk : E.keep 44 = false := rfl
  have h1 : (1472 : Int) < body.length := by omega
  have q3 := new1 11
  unfold faultC at q3 ⊢
  rw [if_neg (by omega)] at q3 ⊢
  simp only [dgC_eq]
  simp (disch := first | omega | (simp only [List.length_cons, List.length_nil, List.length_append, List.length_map, List.length_set]; omega) | rfl | (simp only [List.length_cons, List.length_nil, List.length_append, List.length_map, List.length_set, List.length_replicate, List.all_cons, List.all_nil, List.all_append, storable, plainB, Bool.and_self]; done)) only [go_sem, reduceCtorEq, ↓reduceIte, Nat.reduceEqDiff, Nat.reduceAdd, Nat.reduceSub, Nat.reduceMul, Nat.reduceLeDiff, Nat.reduceLT, Nat.reduceBEq, Nat.reduceBNe, Int.reduceAdd, Int.reduceSub, Int.reduceMul, Int.reduceNeg, Int.reduceEq, Int.reduceNe, Int.reduceLT, Int.reduceLE, Int.reduceToNat, reduceDIte, Nat.reduceSucc, evI_callP, callPK_some, I44, hk, h1, q3]
theorem s44 (p q : Nat) (hp : p < 65536) (hq : q < 65536) (r : Bool) (body : List UInt8) (hb : body.length ≤ 1472) (x y : UInt32) : pcall E 44 [.agg (dgC p q r body), .int .u32 (x.toNat : Int), .int .u32 (y.toNat : Int)] =
    some (.tup [bs false (udpB p q r body x y), .agg (faultC 0 0)], []) := by
  rw [pcall_go (fn := I44) rfl rfl rfl]
  have hk : E.keep 44 = false := rfl
  have h1 : ¬ (1472 : Int) < body.length := by omega
  have w0 : IntKind.i64.wrap (8 + (body.length : Int)) = 8 + (body.length : Int) := w64 (by omega) (by omega)
  have w1 : IntKind.i64.wrap (p : Int) = (p : Int) := w64 (by omega) (by omega)
  have w2 : IntKind.i64.wrap (q : Int) = (q : Int) := w64 (by omega) (by omega)
  have q1 := s104 p (by omega)
  have q2 := s104 q (by omega)
  have q3 := s104 (8 + body.length) (by omega)
  have hl := udpB_len p q r body x y
  obtain ⟨d1, e1⟩ : ∃ d, d = encb 2 p := ⟨_, rfl⟩
  obtain ⟨d2, e2⟩ : ∃ d, d = encb 2 q := ⟨_, rfl⟩
  obtain ⟨d3, e3⟩ : ∃ d, d = encb 2 (8 + body.length) := ⟨_, rfl⟩
  have l1 : d1.length = 2 := by rw [e1, encb_length]
  have l2 : d2.length = 2 := by rw [e2, encb_length]
  have l3 : d3.length = 2 := by rw [e3, encb_length]
  obtain ⟨x1, y1⟩ : ∃ x, x = d1 ++ d2 := ⟨_, rfl⟩
  obtain ⟨x2, y2⟩ : ∃ x, x = x1 ++ d3 := ⟨_, rfl⟩
  have z1 : x1.length = 4 := by rw [y1, List.length_append, l1, l2]
  have z2 : x2.length = 6 := by rw [y2, List.length_append, z1, l3]
  have hx2 : x2 = udpH p q (8 + body.length) := by rw [y2, y1, e1, e2, e3]; simp only [udpH, List.append_assoc]
  rw [← e1] at q1
  rw [← e2] at q2
  rw [← e3] at q3
  simp only [Int.cast_ofNat_Int, Int.natCast_add] at q3
  have a1 : ∀ h i, appR h 1 1 5 (d2.map by8) 2 i 0 2 (some (.row 0 1 (d1.map by8) 5)) = some (.sl 1 i 1 0 4, h.set i (.row 1 1 (x1.map by8) 5)) := fun h i => by rw [y1]; exact appR_by8 h 1 5 i 0 2 2 d1 d2 l1 (by omega) (by omega)
  have a2 : ∀ h i, appR h 1 1 5 (d3.map by8) 2 i 1 4 (some (.row 1 1 (x1.map by8) 5)) = some (.sl 1 i 2 0 6, h.set i (.row 2 1 (x2.map by8) 5)) := fun h i => by rw [y2]; exact appR_by8 h 1 5 i 1 4 2 x1 d3 z1 (by omega) (by omega)
  have hfin : ∀ (n : Nat) (hn : n < 65536), ∃ d4, encb 2 n = d4 ∧ d4.length = 2 := fun n _ => ⟨_, rfl, encb_length 2 n⟩
  unfold faultC
  rw [if_pos rfl]
  simp only [dgC_eq]
  cases r
  case true =>
    have e : udpB p q true body x y = x2 ++ (encb 2 0 ++ body) := by unfold udpB udpN; rw [if_pos rfl, hx2]
    rw [e] at hl ⊢
    have q4 := s104 0 (by omega)
    obtain ⟨d4, e4⟩ : ∃ d, d = encb 2 0 := ⟨_, rfl⟩
    have l4 : d4.length = 2 := by rw [e4, encb_length]
    rw [← e4] at q4 hl ⊢
    obtain ⟨x3, y3⟩ : ∃ x, x = x2 ++ d4 := ⟨_, rfl⟩
    obtain ⟨x4, y4⟩ : ∃ x, x = x3 ++ body := ⟨_, rfl⟩
    have z3 : x3.length = 8 := by rw [y3, List.length_append, z2, l4]
    have z4 : x4.length = 8 + body.length := by rw [y4, List.length_append, z3]
    rw [← List.append_assoc, ← y3, ← y4]
    have a3 : ∀ h i, appR h 1 1 5 (d4.map by8) 2 i 2 6 (some (.row 2 1 (x2.map by8) 5)) = some (.sl 1 i 3 0 8, h.set i (.row 3 1 (x3.map by8) 5)) := fun h i => by rw [y3]; exact appR_by8 h 1 5 i 2 6 2 x2 d4 z2 (by omega) (by omega)
    have a4 : ∀ h i, appR h 1 1 5 (body.map by8) body.length i 3 8 (some (.row 3 1 (x3.map by8) 5)) = some (.sl 1 i 4 0 (8 + body.length), h.set i (.row 4 1 (x4.map by8) 5)) := fun h i => by rw [y4]; exact appR_by8 h 1 5 i 3 8 body.length x3 body z3 (by omega) (by omega)
    simp only [Int.natCast_zero] at q4
    clear y1 y2 y3 y4 e1 e2 e3 e4 hx2 e
    simp (disch := first | omega | (simp only [List.length_cons, List.length_nil, List.length_append, List.length_map, List.length_set]; omega) | rfl | (simp only [List.length_cons, List.length_nil, List.length_append, List.length_map, List.length_set, List.length_replicate, List.all_cons, List.all_nil, List.all_append, storable, plainB, Bool.and_self]; done)) only [go_sem, reduceCtorEq, ↓reduceIte, Nat.reduceEqDiff, Nat.reduceAdd, Nat.reduceSub, Nat.reduceMul, Nat.reduceLeDiff, Nat.reduceLT, Nat.reduceBEq, Nat.reduceBNe, Int.reduceAdd, Int.reduceSub, Int.reduceMul, Int.reduceNeg, Int.reduceEq, Int.reduceNe, Int.reduceLT, Int.reduceLE, Int.reduceToNat, reduceDIte, Nat.reduceSucc, evI_callP, callPK_some, I44, hk, h1, w0, w1, w2, q1, q2, q3, q4, a1, a2, a3, a4, l1, l2, l3, l4, z4]
  have q5 := s99 x y 17 (8 + body.length) (by omega) (by omega)
  have len_ := endsP_len x y 17 (8 + body.length)
  have hS : udpS p q body x y = 65535 - foldN (sumW (endsP x y 17 (8 + body.length) ++ (x2 ++ (encb 2 0 ++ body)))) := by unfold udpS; rw [hx2]
  have hB : udpB p q false body x y = x2 ++ (encb 2 (if udpS p q body x y = 0 then 65535 else udpS p q body x y) ++ body) := by unfold udpB udpN; rw [if_neg (by simp), hx2]
  rw [hB] at hl ⊢
  have e00 : encb 2 0 = [0, 0] := by rw [two_eq]; rfl
  rw [e00] at hS
  generalize endsP x y 17 (8 + body.length) = en at *
  obtain ⟨u1, v1⟩ : ∃ x, x = en ++ x2 := ⟨_, rfl⟩
  obtain ⟨u2, v2⟩ : ∃ x, x = u1 ++ [0, 0] := ⟨_, rfl⟩
  obtain ⟨u3, v3⟩ : ∃ x, x = u2 ++ body := ⟨_, rfl⟩
  have t1 : u1.length = 18 := by rw [v1, List.length_append, len_, z2]
  have t2 : u2.length = 20 := by rw [v2, List.length_append, t1]; rfl
  have t3 : u3.length = 20 + body.length := by rw [v3, List.length_append, t2]
  have hu : en ++ (x2 ++ ([0, 0] ++ body)) = u3 := by rw [v3, v2, v1]; simp only [List.append_assoc]
  rw [hu] at hS
  have q6 := fun g => s105 g u3 (by omega)
  rw [← hS] at q6
  have b1 : ∀ h i, appR h 1 1 5 (x2.map by8) 6 i 0 12 (some (.row 0 1 (en.map by8) 5)) = some (.sl 1 i 1 0 18, h.set i (.row 1 1 (u1.map by8) 5)) := fun h i => by rw [v1]; exact appR_by8 h 1 5 i 0 12 6 en x2 len_ (by omega) (by omega)
  have b2 : ∀ h i, appR h 1 1 5 [.int .u8 0, .int .u8 0] 2 i 1 18 (some (.row 1 1 (u1.map by8) 5)) = some (.sl 1 i 2 0 20, h.set i (.row 2 1 (u2.map by8) 5)) := fun h i => by rw [v2]; exact appR_by8 h 1 5 i 1 18 2 u1 [0, 0] t1 (by omega) (by omega)
  have b3 : ∀ h i, appR h 1 1 5 (body.map by8) body.length i 2 20 (some (.row 2 1 (u2.map by8) 5)) = some (.sl 1 i 3 0 (20 + body.length), h.set i (.row 3 1 (u3.map by8) 5)) := fun h i => by rw [v3]; exact appR_by8 h 1 5 i 2 20 body.length u2 body t2 (by omega) (by omega)
  have hlt := udpS_lt p q body x y
  simp only [Int.cast_ofNat_Int, Int.natCast_add] at q5
  obtain ⟨n, hn⟩ : ∃ n, n = if udpS p q body x y = 0 then 65535 else udpS p q body x y := ⟨_, rfl⟩
  rw [← hn] at hl ⊢
  have hnl : n < 65536 := by rw [hn]; split <;> omega
  have q4 := s104 n (by omega)
  obtain ⟨d4, e4⟩ : ∃ d, d = encb 2 n := ⟨_, rfl⟩
  have l4 : d4.length = 2 := by rw [e4, encb_length]
  rw [← e4] at q4 hl ⊢
  obtain ⟨x3, y3⟩ : ∃ x, x = x2 ++ d4 := ⟨_, rfl⟩
  obtain ⟨x4, y4⟩ : ∃ x, x = x3 ++ body := ⟨_, rfl⟩
  have z3 : x3.length = 8 := by rw [y3, List.length_append, z2, l4]
  have z4 : x4.length = 8 + body.length := by rw [y4, List.length_append, z3]
  rw [← List.append_assoc, ← y3, ← y4]
  have a3 : ∀ h i, appR h 1 1 5 (d4.map by8) 2 i 2 6 (some (.row 2 1 (x2.map by8) 5)) = some (.sl 1 i 3 0 8, h.set i (.row 3 1 (x3.map by8) 5)) := fun h i => by rw [y3]; exact appR_by8 h 1 5 i 2 6 2 x2 d4 z2 (by omega) (by omega)
  have a4 : ∀ h i, appR h 1 1 5 (body.map by8) body.length i 3 8 (some (.row 3 1 (x3.map by8) 5)) = some (.sl 1 i 4 0 (8 + body.length), h.set i (.row 4 1 (x4.map by8) 5)) := fun h i => by rw [y4]; exact appR_by8 h 1 5 i 3 8 body.length x3 body z3 (by omega) (by omega)
  have w4 : IntKind.i64.wrap (n : Int) = (n : Int) := w64 (by omega) (by omega)
  clear y1 y2 y3 y4 e1 e2 e3 e4 hx2 v1 v2 v3 hu hS hB
  by_cases hz : udpS p q body x y = 0
  · rw [if_pos hz] at hn
    rw [hz] at q6
    subst hn
    simp only [Int.cast_ofNat_Int, Int.natCast_zero] at q4 q6 w4
    simp (disch := first | omega | (simp only [List.length_cons, List.length_nil, List.length_append, List.length_map, List.length_set]; omega) | rfl | (simp only [List.length_cons, List.length_nil, List.length_append, List.length_map, List.length_set, List.length_replicate, List.all_cons, List.all_nil, List.all_append, storable, plainB, Bool.and_self]; done)) only [go_sem, reduceCtorEq, ↓reduceIte, Nat.reduceEqDiff, Nat.reduceAdd, Nat.reduceSub, Nat.reduceMul, Nat.reduceLeDiff, Nat.reduceLT, Nat.reduceBEq, Nat.reduceBNe, Int.reduceAdd, Int.reduceSub, Int.reduceMul, Int.reduceNeg, Int.reduceEq, Int.reduceNe, Int.reduceLT, Int.reduceLE, Int.reduceToNat, reduceDIte, Nat.reduceSucc, evI_callP, callPK_some, I44, hk, h1, w0, w1, w2, w4, q1, q2, q3, q4, q5, q6, a1, a2, a3, a4, b1, b2, b3, l1, l2, l3, l4, z2, z4, t3]
  · rw [if_neg hz] at hn
    rw [← hn] at q6
    have hz' : ¬ (n : Int) = 0 := by omega
    simp (disch := first | omega | (simp only [List.length_cons, List.length_nil, List.length_append, List.length_map, List.length_set]; omega) | rfl | (simp only [List.length_cons, List.length_nil, List.length_append, List.length_map, List.length_set, List.length_replicate, List.all_cons, List.all_nil, List.all_append, storable, plainB, Bool.and_self]; done)) only [go_sem, reduceCtorEq, ↓reduceIte, Nat.reduceEqDiff, Nat.reduceAdd, Nat.reduceSub, Nat.reduceMul, Nat.reduceLeDiff, Nat.reduceLT, Nat.reduceBEq, Nat.reduceBNe, Int.reduceAdd, Int.reduceSub, Int.reduceMul, Int.reduceNeg, Int.reduceEq, Int.reduceNe, Int.reduceLT, Int.reduceLE, Int.reduceToNat, reduceDIte, Nat.reduceSucc, evI_callP, callPK_some, I44, hk, h1, hz', w0, w1, w2, w4, q1, q2, q3, q4, q5, q6, a1, a2, a3, a4, b1, b2, b3, l1, l2, l3, l4, z2, z4, t3]
end Go.Fw.Wd
