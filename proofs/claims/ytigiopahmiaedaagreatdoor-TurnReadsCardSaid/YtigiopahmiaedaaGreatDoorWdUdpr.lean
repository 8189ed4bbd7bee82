/-
  Datagrams: what Parse answers by the document; what is the same. Conditions: stated at each.
-/
import Derived.Test.YtigiopahmiaedaaGreatDoorWdUdp
set_option linter.unusedVariables false
set_option linter.unusedSimpArgs false
namespace Go.Fw.Wd
open Go.Proofs Code_

theorem s34 (g : Bool) (b : List UInt8) (hb : b.length ≤ 1048576) (x y : UInt32) : pcall E 34 [bs g b, .int .u32 (x.toNat : Int), .int .u32 (y.toNat : Int)] = some (.tup [.agg (udpD b x y), .agg (faultC (udpR b) (udpF b x y))], []) := by
  rw [pcall_go (fn := I34) rfl rfl rfl]
  have hk : E.keep 34 = false := rfl
  have f12 := new1 12
  have f11 := new1 11
  have f10 := new1 10
  have f13 := new2 13
  unfold faultC at f12 f11 f10 f13
  simp only [Int.reduceEq, if_false] at f12 f11 f10 f13
  have z0 : ((UInt8.toNat 0 : Nat) : Int) = 0 := rfl
  unfold udpD udpR udpF faultC
  by_cases h1 : b.length < 8
  · have h1' : (b.length : Int) < 8 := by omega
    have e : udpE b = 12 := by unfold udpE; rw [if_pos h1]
    simp only [e, Int.reduceEq, if_false, false_and, dgC_eq]
    simp (disch := first | omega | (simp only [List.length_cons, List.length_nil, List.length_append, List.length_map, List.length_set]; omega) | rfl | (simp only [List.length_cons, List.length_nil, List.length_append, List.length_map, List.length_set, List.length_replicate, List.all_cons, List.all_nil, List.all_append, storable, plainB, Bool.and_self]; done)) only [go_sem, reduceCtorEq, ↓reduceIte, reduceDIte, evI_callP, callPK_some, I34, hk, h1', f12, z0, Int.natCast_zero]
  have h1' : ¬ (b.length : Int) < 8 := by omega
  have q4 := fun g => s42 g (b.drop 4) (by rw [List.length_drop]; omega)
  rw [n2_drop] at q4
  have hl4 := n2_lt b 4
  obtain ⟨n, hn⟩ : ∃ n, n = n2 b 4 := ⟨_, rfl⟩
  simp only [Nat.add_zero] at q4
  rw [← hn] at q4
  have hs4 : ∀ h g, sliceK h 1 (.rs g 1 (b.map by8)) (some b.length) (some (.int .i64 4)) none = some (.rs g 1 ((b.drop 4).map by8), h) := fun h g => slice_by_in h g b .i64 4 (by omega) (by omega)
  by_cases h2 : n < 8
  · have h2' : (n : Int) < 8 := by omega
    have e : udpE b = 10 := by unfold udpE; rw [if_neg h1, ← hn, if_pos h2]
    simp only [e, Int.reduceEq, if_false, false_and, dgC_eq]
    simp (disch := first | omega | (simp only [List.length_cons, List.length_nil, List.length_append, List.length_map, List.length_set]; omega) | rfl | (simp only [List.length_cons, List.length_nil, List.length_append, List.length_map, List.length_set, List.length_replicate, List.all_cons, List.all_nil, List.all_append, storable, plainB, Bool.and_self]; done)) only [go_sem, reduceCtorEq, ↓reduceIte, reduceDIte, evI_callP, callPK_some, I34, hk, h1', h2', q4, hs4, f10, z0, Int.natCast_zero]
  have h2' : ¬ (n : Int) < 8 := by omega
  by_cases h3 : b.length < n
  · have h3' : (b.length : Int) < (n : Int) := by omega
    have e : udpE b = 12 := by unfold udpE; rw [if_neg h1, ← hn, if_neg h2, if_pos h3]
    simp only [e, Int.reduceEq, if_false, false_and, dgC_eq]
    simp (disch := first | omega | (simp only [List.length_cons, List.length_nil, List.length_append, List.length_map, List.length_set]; omega) | rfl | (simp only [List.length_cons, List.length_nil, List.length_append, List.length_map, List.length_set, List.length_replicate, List.all_cons, List.all_nil, List.all_append, storable, plainB, Bool.and_self]; done)) only [go_sem, reduceCtorEq, ↓reduceIte, reduceDIte, evI_callP, callPK_some, I34, hk, h1', h2', h3', q4, hs4, f12, z0, Int.natCast_zero]
  have h3' : ¬ (b.length : Int) < (n : Int) := by omega
  by_cases h4 : 1480 < n
  · have h4' : (1480 : Int) < (n : Int) := by omega
    have e : udpE b = 11 := by unfold udpE; rw [if_neg h1, ← hn, if_neg h2, if_neg h3, if_pos h4]
    simp only [e, Int.reduceEq, if_false, false_and, dgC_eq]
    simp (disch := first | omega | (simp only [List.length_cons, List.length_nil, List.length_append, List.length_map, List.length_set]; omega) | rfl | (simp only [List.length_cons, List.length_nil, List.length_append, List.length_map, List.length_set, List.length_replicate, List.all_cons, List.all_nil, List.all_append, storable, plainB, Bool.and_self]; done)) only [go_sem, reduceCtorEq, ↓reduceIte, reduceDIte, evI_callP, callPK_some, I34, hk, h1', h2', h3', h4', q4, hs4, f11, z0, Int.natCast_zero]
  have h4' : ¬ (1480 : Int) < (n : Int) := by omega
  have e : udpE b = 0 := by unfold udpE; rw [if_neg h1, ← hn, if_neg h2, if_neg h3, if_neg h4]
  simp only [e, if_true, true_and]
  unfold udpOk
  rw [← hn]
  obtain ⟨c, hc⟩ : ∃ c, c = b.take n := ⟨_, rfl⟩
  have hcl : c.length = n := by rw [hc, List.length_take]; omega
  have hsl : ∀ h g, sliceK h 1 (.rs g 1 (b.map by8)) (some b.length) none (some (.int .i64 (n : Int))) = some (.rs g 1 (c.map by8), h) := fun h g => by
    have := slice_by_ni h g b .i64 (n : Int) (by omega) (by omega)
    rw [Int.toNat_natCast, ← hc] at this
    exact this
  have hs6 : ∀ h g, sliceK h 1 (.rs g 1 (b.map by8)) (some b.length) (some (.int .i64 6)) none = some (.rs g 1 ((b.drop 6).map by8), h) := fun h g => slice_by_in h g b .i64 6 (by omega) (by omega)
  have hs2 : ∀ h g, sliceK h 1 (.rs g 1 (b.map by8)) (some b.length) (some (.int .i64 2)) none = some (.rs g 1 ((b.drop 2).map by8), h) := fun h g => slice_by_in h g b .i64 2 (by omega) (by omega)
  have q6 := fun g => s42 g (b.drop 6) (by rw [List.length_drop]; omega)
  have q0 := fun g => s42 g b (by omega)
  have q2 := fun g => s42 g (b.drop 2) (by rw [List.length_drop]; omega)
  rw [n2_drop] at q6 q2
  simp only [Nat.add_zero] at q6 q2
  have qe := s68 x y 17 n (by omega) (by omega)
  have le := endsP_len x y 17 n
  rw [← hc]
  generalize endsP x y 17 n = en at *
  obtain ⟨w, hw⟩ : ∃ w, w = en ++ c := ⟨_, rfl⟩
  have lw : w.length = 12 + n := by rw [hw, List.length_append, le, hcl]
  rw [← hw]
  have qt := fun g => s67 g w (by omega)
  have a1 : ∀ h i, appR h 1 1 5 (c.map by8) n i 0 12 (some (.row 0 1 (en.map by8) 5)) = some (.sl 1 i 1 0 (12 + n), h.set i (.row 1 1 (w.map by8) 5)) := fun h i => by rw [hw]; exact appR_by8 h 1 5 i 0 12 n en c le (by omega) (by omega)
  obtain ⟨d, hd⟩ : ∃ d, d = c.drop 8 := ⟨_, rfl⟩
  have hdl : d.length = n - 8 := by rw [hd, List.length_drop, hcl]
  have hs8 : ∀ h g, sliceK h 1 (.rs g 1 (b.map by8)) (some b.length) (some (.int .i64 8)) (some (.int .i64 (n : Int))) = some (.rs g 1 (d.map by8), h) := fun h g => by
    have := slice_by_ii h g b .i64 .i64 8 (n : Int) (by omega) (by omega) (by omega)
    rw [Int.toNat_natCast, show Int.toNat 8 = 8 from rfl] at this
    rw [this, hd, hc, List.drop_take]
  have hl6 := n2_lt b 6
  have hl0 := n2_lt b 0
  have hl2 := n2_lt b 2
  have e2 : decide (((foldN (sumW w) : Nat) : Int) = 65535) = decide (foldN (sumW w) = 65535) := decide_eq_decide.2 (by omega)
  rw [← hd]
  generalize n2 b 0 = p at *
  generalize n2 b 2 = q at *
  generalize n2 b 6 = s at *
  simp only [Int.cast_ofNat_Int] at qe
  have w1 : IntKind.u16.wrap (p : Int) = (p : Int) := wu16 (by omega) (by omega)
  have w2 : IntKind.u16.wrap (q : Int) = (q : Int) := wu16 (by omega) (by omega)
  clear hc hd hn hw
  by_cases h6 : s = 0
  · have h6' : (s : Int) = 0 := by omega
    simp only [h6, decide_true, Bool.true_or, if_true, dgC_eq]
    simp only [h6', h6, Int.natCast_zero] at q6
    simp (disch := first | omega | (simp only [List.length_cons, List.length_nil, List.length_append, List.length_map, List.length_set]; omega) | rfl | (simp only [List.length_cons, List.length_nil, List.length_append, List.length_map, List.length_set, List.length_replicate, List.all_cons, List.all_nil, List.all_append, storable, plainB, Bool.and_self]; done)) only [go_sem, reduceCtorEq, ↓reduceIte, reduceDIte, evI_callP, callPK_some, I34, hk, h1', h2', h3', h4', q4, q6, q0, q2, hs4, hs6, hs2, hs8, w1, w2, hdl]
  have h6' : ¬ (s : Int) = 0 := by omega
  by_cases h7 : foldN (sumW w) = 65535
  · have h7' : ((foldN (sumW w) : Nat) : Int) = 65535 := by omega
    simp only [h7, h6, decide_true, decide_false, Bool.or_true, if_true, dgC_eq]
    simp (disch := first | omega | (simp only [List.length_cons, List.length_nil, List.length_append, List.length_map, List.length_set]; omega) | rfl | (simp only [List.length_cons, List.length_nil, List.length_append, List.length_map, List.length_set, List.length_replicate, List.all_cons, List.all_nil, List.all_append, storable, plainB, Bool.and_self]; done)) only [go_sem, reduceCtorEq, ↓reduceIte, reduceDIte, evI_callP, callPK_some, I34, hk, h1', h2', h3', h4', h6', h7, q4, q6, q0, q2, qe, qt, a1, hsl, hs4, hs6, hs2, hs8, w1, w2, hdl, hcl, lw]
  · have h7' : ¬ ((foldN (sumW w) : Nat) : Int) = 65535 := by omega
    simp only [h7, h6, decide_true, decide_false, Bool.or_false, Bool.false_eq_true, if_false, Int.reduceEq, dgC_eq]
    simp (disch := first | omega | (simp only [List.length_cons, List.length_nil, List.length_append, List.length_map, List.length_set]; omega) | rfl | (simp only [List.length_cons, List.length_nil, List.length_append, List.length_map, List.length_set, List.length_replicate, List.all_cons, List.all_nil, List.all_append, storable, plainB, Bool.and_self]; done)) only [go_sem, reduceCtorEq, ↓reduceIte, reduceDIte, evI_callP, callPK_some, I34, hk, h1', h2', h3', h4', h6', h7', q4, q6, q0, q2, qe, qt, a1, hsl, hs4, hs6, hs2, hs8, w1, w2, hdl, hcl, lw, f13, z0, Int.natCast_zero]

def dgSame (p q : Nat) (r : Bool) (b : List UInt8) (p' q' : Nat) (r' : Bool) (b' : List UInt8) : Bool := decide (p = p') && (decide (q = q') && (decide (r = r') && decide (b = b')))
theorem dgSame_self (p q : Nat) (r : Bool) (b : List UInt8) : dgSame p q r b p q r b = true := by simp [dgSame]
end Go.Fw.Wd
