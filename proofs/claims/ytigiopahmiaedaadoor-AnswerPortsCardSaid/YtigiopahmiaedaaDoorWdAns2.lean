/-
  What the gateway says itself: a port, any packet; the document's functions. Conditions: stated at each.
-/
import Derived.Test.YtigiopahmiaedaaDoorWdAns
set_option linter.unusedVariables false
set_option linter.unusedSimpArgs false
namespace Go.Fw.Wd
open Go.Proofs Code_

theorem an_eq (x : Int × Int × Pk) : an x = .agg [.int .i64 x.1, .int .i64 x.2.1, .int .u8 (x.2.2.tos.toNat : Int), .int .u16 (x.2.2.id.toNat : Int), .bool x.2.2.kp, .int .u8 (x.2.2.ttl.toNat : Int), .int .u8 (x.2.2.proto.toNat : Int), .int .u32 (x.2.2.fr.toNat : Int), .int .u32 (x.2.2.to.toNat : Int), bs false x.2.2.body] := rfl
theorem udpD_not {b : List UInt8} {x y : UInt32} (h : ¬ udpF b x y = 0) : udpD b x y = dgC 0 0 false [] := by
  unfold udpD
  rw [if_neg]
  rintro ⟨h2, h3⟩
  exact h (by unfold udpF; rw [if_pos h2, if_pos h3])
theorem udpD_ok {b : List UInt8} {x y : UInt32} (h : udpF b x y = 0) : udpD b x y = dgC (n2 b 0) (n2 b 2) (decide (n2 b 6 = 0)) ((b.take (n2 b 4)).drop 8) := by
  have hE : udpE b = 0 := by
    by_cases h' : udpE b = 0
    · exact h'
    · unfold udpF at h; rw [if_neg h'] at h; exact absurd h h'
  have hO : udpOk b x y = true := by
    by_cases h' : udpOk b x y = true
    · exact h'
    · unfold udpF at h; rw [if_pos hE, if_neg h'] at h; cases h
  unfold udpD
  rw [if_pos ⟨hE, hO⟩]
theorem s40 (side : Int) (own : UInt32) (p : Pk) (hb : p.body.length ≤ 65515) : pcall E 40 [.int .i64 side, .int .u32 (own.toNat : Int), .agg (pkC p)] = some (an (poA side own p), []) := by
  rw [pcall_go (fn := I40) rfl rfl rfl]
  have hk : E.keep 40 = false := rfl
  have q1 := fun g => s56 g p.body (by omega) p.fr p.to
  have q2 := fun g => s58 g (udpR p.body) (udpF p.body p.fr p.to)
  have q3 := s41 (udpR p.body)
  have q4 := s41 17
  have q5 := s12 own 3 3 p hb
  have z3 : ((UInt8.toNat 3 : Nat) : Int) = 3 := rfl
  unfold poA
  by_cases h : udpF p.body p.fr p.to = 0
  case neg =>
    rw [if_pos h]
    rw [errV_pos _ h, udpD_not h] at q1
    generalize udpR p.body = r at *
    generalize udpF p.body p.fr p.to = n at *
    simp only [an_zero] at q3 q4 ⊢
    simp only [dgC_eq, List.map_nil, bs, Int.natCast_zero] at q1
    simp only [pkC_eq]
    simp (disch := first | omega | (simp only [List.length_cons, List.length_nil, List.length_append, List.length_map, List.length_set]; omega) | rfl | (simp only [List.length_cons, List.length_nil, List.length_append, List.length_map, List.length_set, List.length_replicate, List.all_cons, List.all_nil, List.all_append, storable, plainB, Bool.and_self]; done)) only [go_sem, reduceCtorEq, ↓reduceIte, reduceDIte, evI_callP, callPK_some, I40, hk, q1, q2, q3]
  rw [if_neg (by simp [h])]
  rw [udpD_ok h, h, errV_zero] at q1
  generalize ((p.body.take (n2 p.body 4)).drop 8) = d at *
  generalize decide (n2 p.body 6 = 0) = r at *
  generalize n2 p.body 0 = x0 at *
  generalize n2 p.body 2 = x2 at *
  simp only [an_zero] at q4
  simp only [dgC_eq] at q1
  by_cases hs : side = 0 ∧ x2 = 67
  · rw [if_pos hs]
    obtain ⟨hs1, hs2⟩ := hs
    have hs2' : (x2 : Int) = 67 := by omega
    subst hs1
    simp only [an_zero, pkC_eq]
    simp (disch := first | omega | (simp only [List.length_cons, List.length_nil, List.length_append, List.length_map, List.length_set]; omega) | rfl | (simp only [List.length_cons, List.length_nil, List.length_append, List.length_map, List.length_set, List.length_replicate, List.all_cons, List.all_nil, List.all_append, storable, plainB, Bool.and_self]; done)) only [go_sem, reduceCtorEq, ↓reduceIte, reduceDIte, evI_callP, callPK_some, I40, hk, q1, hs2']
  rw [if_neg hs]
  have hz : (decide (side = 0) && decide ((x2 : Int) = 67)) = false := by
    by_cases h1 : side = 0
    · have h2 : ¬ (x2 : Int) = 67 := fun c => hs ⟨h1, by omega⟩
      simp [h2]
    · simp [h1]
  by_cases ho : p.to.toNat = own.toNat
  case neg =>
    have ho' : ¬ (p.to.toNat : Int) = (own.toNat : Int) := by omega
    rw [if_pos ho]
    simp only [an_zero, pkC_eq]
    by_cases h1 : side = 0
    · have h2 : ¬ (x2 : Int) = 67 := fun c => hs ⟨h1, by omega⟩
      simp (disch := first | omega | (simp only [List.length_cons, List.length_nil, List.length_append, List.length_map, List.length_set]; omega) | rfl | (simp only [List.length_cons, List.length_nil, List.length_append, List.length_map, List.length_set, List.length_replicate, List.all_cons, List.all_nil, List.all_append, storable, plainB, Bool.and_self]; done)) only [go_sem, reduceCtorEq, ↓reduceIte, reduceDIte, evI_callP, callPK_some, I40, hk, q1, q4, h1, h2, ho']
    · simp (disch := first | omega | (simp only [List.length_cons, List.length_nil, List.length_append, List.length_map, List.length_set]; omega) | rfl | (simp only [List.length_cons, List.length_nil, List.length_append, List.length_map, List.length_set, List.length_replicate, List.all_cons, List.all_nil, List.all_append, storable, plainB, Bool.and_self]; done)) only [go_sem, reduceCtorEq, ↓reduceIte, reduceDIte, evI_callP, callPK_some, I40, hk, q1, q4, h1, ho']
  rw [if_neg (by simp [ho])]
  have ho2 : p.to = own := UInt32.toNat_inj.1 ho
  subst ho2
  unfold erP at q5
  rw [z3] at q5
  cases hbl : blm p
  · rw [hbl] at q5
    simp only [Bool.false_eq_true, if_false, pkC_zero] at q5
    simp only [Bool.false_eq_true, if_false, an_zero]
    simp only [pkC_eq] at q5 ⊢
    by_cases h1 : side = 0
    · have h2 : ¬ (x2 : Int) = 67 := fun c => hs ⟨h1, by omega⟩
      simp (disch := first | omega | (simp only [List.length_cons, List.length_nil, List.length_append, List.length_map, List.length_set]; omega) | rfl | (simp only [List.length_cons, List.length_nil, List.length_append, List.length_map, List.length_set, List.length_replicate, List.all_cons, List.all_nil, List.all_append, storable, plainB, Bool.and_self]; done)) only [go_sem, reduceCtorEq, ↓reduceIte, reduceDIte, evI_callP, callPK_some, I40, hk, q1, q4, q5, h1, h2]
    · simp (disch := first | omega | (simp only [List.length_cons, List.length_nil, List.length_append, List.length_map, List.length_set]; omega) | rfl | (simp only [List.length_cons, List.length_nil, List.length_append, List.length_map, List.length_set, List.length_replicate, List.all_cons, List.all_nil, List.all_append, storable, plainB, Bool.and_self]; done)) only [go_sem, reduceCtorEq, ↓reduceIte, reduceDIte, evI_callP, callPK_some, I40, hk, q1, q4, q5, h1]
  · rw [hbl] at q5
    simp only [if_true] at q5 ⊢
    rw [pkM_eq] at q5
    rw [an_pk]
    generalize icB (mgErr 3 3 p) = B at *
    simp only [pkC_eq] at q5 ⊢
    by_cases h1 : side = 0
    · have h2 : ¬ (x2 : Int) = 67 := fun c => hs ⟨h1, by omega⟩
      simp (disch := first | omega | (simp only [List.length_cons, List.length_nil, List.length_append, List.length_map, List.length_set]; omega) | rfl | (simp only [List.length_cons, List.length_nil, List.length_append, List.length_map, List.length_set, List.length_replicate, List.all_cons, List.all_nil, List.all_append, storable, plainB, Bool.and_self]; done)) only [go_sem, reduceCtorEq, ↓reduceIte, reduceDIte, evI_callP, callPK_some, I40, hk, q1, q4, q5, h1, h2]
    · simp (disch := first | omega | (simp only [List.length_cons, List.length_nil, List.length_append, List.length_map, List.length_set]; omega) | rfl | (simp only [List.length_cons, List.length_nil, List.length_append, List.length_map, List.length_set, List.length_replicate, List.all_cons, List.all_nil, List.all_append, storable, plainB, Bool.and_self]; done)) only [go_sem, reduceCtorEq, ↓reduceIte, reduceDIte, evI_callP, callPK_some, I40, hk, q1, q4, q5, h1]
theorem s17 (side : Int) (own : UInt32) (p : Pk) (hb : p.body.length ≤ 65515) : pcall E 17 [.int .i64 side, .int .u32 (own.toNat : Int), .agg (pkC p)] = some (an (loA side own p), []) := by
  rw [pcall_go (fn := I17) rfl rfl rfl]
  have hk : E.keep 17 = false := rfl
  have q1 := s39 own p (by omega)
  have q2 := s40 side own p hb
  have q3 := s41 17
  unfold loA
  generalize ecA own p = x1 at *
  generalize poA side own p = x2 at *
  simp only [an_zero] at q3
  by_cases h1 : p.proto.toNat = 1
  · have h1' : (p.proto.toNat : Int) = 1 := by omega
    rw [if_pos h1]
    simp only [an_eq, pkC_eq] at q1 ⊢
    simp only [h1'] at q1 ⊢
    simp (disch := first | omega | (simp only [List.length_cons, List.length_nil, List.length_append, List.length_map, List.length_set]; omega) | rfl | (simp only [List.length_cons, List.length_nil, List.length_append, List.length_map, List.length_set, List.length_replicate, List.all_cons, List.all_nil, List.all_append, storable, plainB, Bool.and_self]; done)) only [go_sem, reduceCtorEq, ↓reduceIte, reduceDIte, evI_callP, callPK_some, I17, hk, q1, h1']
  have h1' : ¬ (p.proto.toNat : Int) = 1 := by omega
  rw [if_neg h1]
  by_cases h2 : p.proto.toNat = 17
  · have h2' : (p.proto.toNat : Int) = 17 := by omega
    rw [if_pos h2]
    simp only [an_eq, pkC_eq] at q2 ⊢
    simp only [h2'] at q2 ⊢
    simp (disch := first | omega | (simp only [List.length_cons, List.length_nil, List.length_append, List.length_map, List.length_set]; omega) | rfl | (simp only [List.length_cons, List.length_nil, List.length_append, List.length_map, List.length_set, List.length_replicate, List.all_cons, List.all_nil, List.all_append, storable, plainB, Bool.and_self]; done)) only [go_sem, reduceCtorEq, ↓reduceIte, reduceDIte, evI_callP, callPK_some, I17, hk, q2]
  have h2' : ¬ (p.proto.toNat : Int) = 17 := by omega
  rw [if_neg h2]
  simp only [an_zero, pkC_eq]
  simp (disch := first | omega | (simp only [List.length_cons, List.length_nil, List.length_append, List.length_map, List.length_set]; omega) | rfl | (simp only [List.length_cons, List.length_nil, List.length_append, List.length_map, List.length_set, List.length_replicate, List.all_cons, List.all_nil, List.all_append, storable, plainB, Bool.and_self]; done)) only [go_sem, reduceCtorEq, ↓reduceIte, reduceDIte, evI_callP, callPK_some, I17, hk, q3, h1', h2']

/-! ### by the document -/

theorem q32 (x : UInt32) : IntKind.u32.wrap (Int.tdiv (x.toNat : Int) 16777216) = ((x.toNat / 16777216 : Nat) : Int) := by
  have hlt := x.toNat_lt
  have h1 : Int.tdiv (x.toNat : Int) 16777216 = ((x.toNat / 16777216 : Nat) : Int) := by rw [Int.tdiv_eq_ediv_of_nonneg (by omega), Int.natCast_ediv]; rfl
  rw [h1]
  exact wu32 (by omega) (by omega)
theorem s34 (x : UInt32) : pcall E 34 [.int .u32 (x.toNat : Int)] = some (.bool (sngl x), []) := by
  rw [pcall_go (fn := I34) rfl rfl rfl]
  have hk : E.keep 34 = false := rfl
  have hs := q32 x
  unfold sngl
  generalize x.toNat / 16777216 = m at *
  by_cases h1 : 1 ≤ m
  case neg =>
    have h1' : ¬ (1 : Int) ≤ (m : Int) := by omega
    simp (disch := first | omega | (simp only [List.length_cons, List.length_nil, List.length_append, List.length_map, List.length_set]; omega) | rfl | (simp only [List.length_cons, List.length_nil, List.length_append, List.length_map, List.length_set, List.length_replicate, List.all_cons, List.all_nil, List.all_append, storable, plainB, Bool.and_self]; done)) only [go_sem, reduceCtorEq, ↓reduceIte, reduceDIte, evI_callP, callPK_some, I34, hk, hs, h1, h1', decide_false, Bool.false_and]
  have h1' : (1 : Int) ≤ (m : Int) := by omega
  by_cases h2 : m ≤ 223
  case neg =>
    have h2' : ¬ (m : Int) ≤ 223 := by omega
    simp (disch := first | omega | (simp only [List.length_cons, List.length_nil, List.length_append, List.length_map, List.length_set]; omega) | rfl | (simp only [List.length_cons, List.length_nil, List.length_append, List.length_map, List.length_set, List.length_replicate, List.all_cons, List.all_nil, List.all_append, storable, plainB, Bool.and_self]; done)) only [go_sem, reduceCtorEq, ↓reduceIte, reduceDIte, evI_callP, callPK_some, I34, hk, hs, h1, h1', h2, h2', decide_false, decide_true, Bool.false_and, Bool.true_and]
  have h2' : (m : Int) ≤ 223 := by omega
  by_cases h3 : m = 127
  · have h3' : (m : Int) = 127 := by omega
    simp (disch := first | omega | (simp only [List.length_cons, List.length_nil, List.length_append, List.length_map, List.length_set]; omega) | rfl | (simp only [List.length_cons, List.length_nil, List.length_append, List.length_map, List.length_set, List.length_replicate, List.all_cons, List.all_nil, List.all_append, storable, plainB, Bool.and_self]; done)) only [go_sem, reduceCtorEq, ↓reduceIte, reduceDIte, evI_callP, callPK_some, I34, hk, hs, h1, h1', h2, h2', h3, h3', decide_false, decide_true, Bool.true_and, Bool.not_true]
  · have h3' : ¬ (m : Int) = 127 := by omega
    simp (disch := first | omega | (simp only [List.length_cons, List.length_nil, List.length_append, List.length_map, List.length_set]; omega) | rfl | (simp only [List.length_cons, List.length_nil, List.length_append, List.length_map, List.length_set, List.length_replicate, List.all_cons, List.all_nil, List.all_append, storable, plainB, Bool.and_self]; done)) only [go_sem, reduceCtorEq, ↓reduceIte, reduceDIte, evI_callP, callPK_some, I34, hk, hs, h1, h1', h2, h2', h3, h3', decide_false, decide_true, Bool.true_and, Bool.not_false]
theorem s37 (own to : UInt32) (m : Mg) (hb : m.body.length ≤ 1472) : pcall E 37 [.int .u32 (own.toNat : Int), .int .u32 (to.toNat : Int), .agg (mgC m)] = some (.agg (pkC (pkM own to m)), []) := by
  rw [pcall_go (fn := I37) rfl rfl rfl]
  have hk : E.keep 37 = false := rfl
  have q := s67 m hb
  rw [pkM_eq]
  rw [faultC_zero] at q
  generalize icB m = B at *
  simp only [mgC_eq] at q ⊢
  simp (disch := first | omega | (simp only [List.length_cons, List.length_nil, List.length_append, List.length_map, List.length_set]; omega) | rfl | (simp only [List.length_cons, List.length_nil, List.length_append, List.length_map, List.length_set, List.length_replicate, List.all_cons, List.all_nil, List.all_append, storable, plainB, Bool.and_self]; done)) only [go_sem, reduceCtorEq, ↓reduceIte, reduceDIte, evI_callP, callPK_some, I37, hk, q]
theorem s13 (own : UInt32) (kd cd : UInt8) (p : Pk) (hb : p.body.length ≤ 65515) : pcall E 13 [.int .u32 (own.toNat : Int), .int .u8 (kd.toNat : Int), .int .u8 (cd.toNat : Int), .agg (pkC p)] = some (.tup [.agg (pkC (erP own kd cd p)), .bool (blm p)], []) := by
  rw [pcall_go (fn := I13) rfl rfl rfl]
  have hk : E.keep 13 = false := rfl
  have q1 := s34 p.fr
  have q2 := s34 p.to
  have q3 := fun g => s35 g p.body (by omega)
  have q4 := s36 (icM p.body)
  have q5 := s38 kd cd p hb
  have q6 := s37 own p.fr (mgErr kd cd p) (by have := mgErr_len kd cd p; omega)
  unfold erP blm
  generalize mgErr kd cd p = me at *
  rw [pkM_eq] at q6
  generalize sngl p.fr = s1 at *
  generalize sngl p.to = s2 at *
  cases s1
  case false =>
    simp only [Bool.false_and, Bool.false_eq_true, if_false, pkC_zero]
    simp only [pkC_eq]
    simp (disch := first | omega | (simp only [List.length_cons, List.length_nil, List.length_append, List.length_map, List.length_set]; omega) | rfl | (simp only [List.length_cons, List.length_nil, List.length_append, List.length_map, List.length_set, List.length_replicate, List.all_cons, List.all_nil, List.all_append, storable, plainB, Bool.and_self]; done)) only [go_sem, reduceCtorEq, ↓reduceIte, reduceDIte, evI_callP, callPK_some, I13, hk, q1]
  cases s2
  case false =>
    simp only [Bool.false_and, Bool.true_and, Bool.false_eq_true, if_false, pkC_zero]
    simp only [pkC_eq]
    simp (disch := first | omega | (simp only [List.length_cons, List.length_nil, List.length_append, List.length_map, List.length_set]; omega) | rfl | (simp only [List.length_cons, List.length_nil, List.length_append, List.length_map, List.length_set, List.length_replicate, List.all_cons, List.all_nil, List.all_append, storable, plainB, Bool.and_self]; done)) only [go_sem, reduceCtorEq, ↓reduceIte, reduceDIte, evI_callP, callPK_some, I13, hk, q1, q2]
  simp only [Bool.true_and]
  by_cases hp : p.proto.toNat = 1
  case neg =>
    have hp' : ¬ (p.proto.toNat : Int) = 1 := by omega
    simp only [hp, if_false, if_true, pkM_eq]
    generalize icB me = B at *
    simp only [pkC_eq, mgC_eq] at q5 q6 ⊢
    simp (disch := first | omega | (simp only [List.length_cons, List.length_nil, List.length_append, List.length_map, List.length_set]; omega) | rfl | (simp only [List.length_cons, List.length_nil, List.length_append, List.length_map, List.length_set, List.length_replicate, List.all_cons, List.all_nil, List.all_append, storable, plainB, Bool.and_self]; done)) only [go_sem, reduceCtorEq, ↓reduceIte, reduceDIte, evI_callP, callPK_some, I13, hk, q1, q2, q5, q6, hp']
  have hp' : (p.proto.toNat : Int) = 1 := by omega
  simp only [hp, if_true]
  by_cases h : (icE p.body).2 = 0
  case neg =>
    rw [faultC_pos _ h] at q3
    simp only [h, decide_false, Bool.false_and, Bool.false_eq_true, if_false, pkC_zero]
    generalize icM p.body = m at *
    generalize (icE p.body).1 = r at *
    generalize (icE p.body).2 = n at *
    simp only [mgC_eq] at q3
    simp only [pkC_eq]
    simp (disch := first | omega | (simp only [List.length_cons, List.length_nil, List.length_append, List.length_map, List.length_set]; omega) | rfl | (simp only [List.length_cons, List.length_nil, List.length_append, List.length_map, List.length_set, List.length_replicate, List.all_cons, List.all_nil, List.all_append, storable, plainB, Bool.and_self]; done)) only [go_sem, reduceCtorEq, ↓reduceIte, reduceDIte, evI_callP, callPK_some, I13, hk, q1, q2, q3, hp', h]
  rw [h, faultC_zero] at q3
  generalize icM p.body = m at *
  generalize clsN m.ty = c at *
  by_cases hc : c = 1
  · subst hc
    simp only [h, decide_true, Bool.true_and, Bool.not_true, Bool.false_eq_true, if_false, pkC_zero]
    simp only [mgC_eq] at q3 q4
    simp only [pkC_eq]
    simp (disch := first | omega | (simp only [List.length_cons, List.length_nil, List.length_append, List.length_map, List.length_set]; omega) | rfl | (simp only [List.length_cons, List.length_nil, List.length_append, List.length_map, List.length_set, List.length_replicate, List.all_cons, List.all_nil, List.all_append, storable, plainB, Bool.and_self]; done)) only [go_sem, reduceCtorEq, ↓reduceIte, reduceDIte, evI_callP, callPK_some, I13, hk, q1, q2, q3, q4, hp']
  · simp only [h, hc, decide_true, decide_false, Bool.true_and, Bool.not_false, if_true, pkM_eq]
    generalize icB me = B at *
    simp only [pkC_eq, mgC_eq] at q3 q4 q5 q6 ⊢
    simp only [hp'] at q5 ⊢
    simp (disch := first | omega | (simp only [List.length_cons, List.length_nil, List.length_append, List.length_map, List.length_set]; omega) | rfl | (simp only [List.length_cons, List.length_nil, List.length_append, List.length_map, List.length_set, List.length_replicate, List.all_cons, List.all_nil, List.all_append, storable, plainB, Bool.and_self]; done)) only [go_sem, reduceCtorEq, ↓reduceIte, reduceDIte, evI_callP, callPK_some, I13, hk, q1, q2, q3, q4, q5, q6, hc]
theorem s18 (side : Int) (own : UInt32) (p : Pk) (hb : p.body.length ≤ 65515) : pcall E 18 [.int .i64 side, .int .u32 (own.toNat : Int), .agg (pkC p)] = some (an (loA side own p), []) := by
  rw [pcall_go (fn := I18) rfl rfl rfl]
  have hk : E.keep 18 = false := rfl
  unfold loA
  by_cases h1 : p.proto.toNat = 1
  · have h1' : (p.proto.toNat : Int) = 1 := by omega
    rw [if_pos h1]
    have q1 := fun g => s35 g p.body (by omega)
    have hl := icM_len p.body
    have q5 := s37 own p.fr (icM p.body).rep hl
    unfold ecA
    by_cases h : (icE p.body).2 = 0
    case neg =>
      have q2 := s42 (icE p.body).1 (icE p.body).2 h
      rw [if_pos h]
      rw [faultC_pos _ h] at q1
      generalize icM p.body = m at *
      generalize (icE p.body).1 = r at *
      generalize (icE p.body).2 = n at *
      simp only [mgC_eq] at q1
      simp only [pkC_eq, an_zero]
      simp (disch := first | omega | (simp only [List.length_cons, List.length_nil, List.length_append, List.length_map, List.length_set]; omega) | rfl | (simp only [List.length_cons, List.length_nil, List.length_append, List.length_map, List.length_set, List.length_replicate, List.all_cons, List.all_nil, List.all_append, storable, plainB, Bool.and_self]; done)) only [go_sem, reduceCtorEq, ↓reduceIte, reduceDIte, evI_callP, callPK_some, I18, hk, q1, q2, h1', h]
    rw [if_neg (by simp [h])]
    rw [h, faultC_zero] at q1
    generalize icM p.body = m at *
    by_cases h8 : m.ty.toNat = 8
    case neg =>
      have h8' : ¬ (m.ty.toNat : Int) = 8 := by omega
      rw [if_neg (fun c => h8 c.1)]
      simp only [mgC_eq] at q1
      simp only [pkC_eq, an_zero]
      simp (disch := first | omega | (simp only [List.length_cons, List.length_nil, List.length_append, List.length_map, List.length_set]; omega) | rfl | (simp only [List.length_cons, List.length_nil, List.length_append, List.length_map, List.length_set, List.length_replicate, List.all_cons, List.all_nil, List.all_append, storable, plainB, Bool.and_self]; done)) only [go_sem, reduceCtorEq, ↓reduceIte, reduceDIte, evI_callP, callPK_some, I18, hk, q1, h8', h1']
    have h8' : (m.ty.toNat : Int) = 8 := by omega
    by_cases h0 : m.co.toNat = 0
    case neg =>
      have h0' : ¬ (m.co.toNat : Int) = 0 := by omega
      rw [if_neg (fun c => h0 c.2.1)]
      simp only [mgC_eq] at q1
      simp only [pkC_eq, an_zero]
      simp (disch := first | omega | (simp only [List.length_cons, List.length_nil, List.length_append, List.length_map, List.length_set]; omega) | rfl | (simp only [List.length_cons, List.length_nil, List.length_append, List.length_map, List.length_set, List.length_replicate, List.all_cons, List.all_nil, List.all_append, storable, plainB, Bool.and_self]; done)) only [go_sem, reduceCtorEq, ↓reduceIte, reduceDIte, evI_callP, callPK_some, I18, hk, q1, h8', h0', h1']
    have h0' : (m.co.toNat : Int) = 0 := by omega
    by_cases ho : p.to.toNat = own.toNat
    case neg =>
      have ho' : ¬ (p.to.toNat : Int) = (own.toNat : Int) := by omega
      rw [if_neg (fun c => ho c.2.2)]
      simp only [mgC_eq] at q1
      simp only [pkC_eq, an_zero]
      simp (disch := first | omega | (simp only [List.length_cons, List.length_nil, List.length_append, List.length_map, List.length_set]; omega) | rfl | (simp only [List.length_cons, List.length_nil, List.length_append, List.length_map, List.length_set, List.length_replicate, List.all_cons, List.all_nil, List.all_append, storable, plainB, Bool.and_self]; done)) only [go_sem, reduceCtorEq, ↓reduceIte, reduceDIte, evI_callP, callPK_some, I18, hk, q1, h8', h0', ho', h1']
    rw [if_pos ⟨h8, h0, ho⟩, an_pk]
    have ho2 : p.to = own := UInt32.toNat_inj.1 ho
    subst ho2
    rw [pkM_eq, rep_eq] at q5
    generalize icB m.rep = B at *
    simp only [mgC_eq] at q1
    simp only [pkC_eq]
    simp only [h0'] at q1 q5
    simp (disch := first | omega | (simp only [List.length_cons, List.length_nil, List.length_append, List.length_map, List.length_set]; omega) | rfl | (simp only [List.length_cons, List.length_nil, List.length_append, List.length_map, List.length_set, List.length_replicate, List.all_cons, List.all_nil, List.all_append, storable, plainB, Bool.and_self]; done)) only [go_sem, reduceCtorEq, ↓reduceIte, reduceDIte, evI_callP, callPK_some, I18, hk, q1, q5, h8', h1', stR_cells]
  have h1' : ¬ (p.proto.toNat : Int) = 1 := by omega
  rw [if_neg h1]
  by_cases h2 : p.proto.toNat = 17
  case neg =>
    have h2' : ¬ (p.proto.toNat : Int) = 17 := by omega
    rw [if_neg h2]
    simp only [an_zero, pkC_eq]
    simp (disch := first | omega | (simp only [List.length_cons, List.length_nil, List.length_append, List.length_map, List.length_set]; omega) | rfl | (simp only [List.length_cons, List.length_nil, List.length_append, List.length_map, List.length_set, List.length_replicate, List.all_cons, List.all_nil, List.all_append, storable, plainB, Bool.and_self]; done)) only [go_sem, reduceCtorEq, ↓reduceIte, reduceDIte, evI_callP, callPK_some, I18, hk, h1', h2']
  have h2' : (p.proto.toNat : Int) = 17 := by omega
  rw [if_pos h2]
  clear h1'
  have q1 := fun g => s43 g p.body (by omega) p.fr p.to
  have q5 := s13 own 3 3 p hb
  have z3 : ((UInt8.toNat 3 : Nat) : Int) = 3 := rfl
  unfold poA
  by_cases h : udpF p.body p.fr p.to = 0
  case neg =>
    have q2 := s42 (udpR p.body) (udpF p.body p.fr p.to) h
    rw [if_pos h]
    rw [faultC_pos _ h, udpD_not h] at q1
    generalize udpR p.body = r at *
    generalize udpF p.body p.fr p.to = n at *
    simp only [dgC_eq, List.map_nil, bs, Int.natCast_zero] at q1
    simp only [pkC_eq, an_zero]
    simp (disch := first | omega | (simp only [List.length_cons, List.length_nil, List.length_append, List.length_map, List.length_set]; omega) | rfl | (simp only [List.length_cons, List.length_nil, List.length_append, List.length_map, List.length_set, List.length_replicate, List.all_cons, List.all_nil, List.all_append, storable, plainB, Bool.and_self]; done)) only [go_sem, reduceCtorEq, ↓reduceIte, reduceDIte, evI_callP, callPK_some, I18, hk, q1, q2, h2', h]
  rw [if_neg (by simp [h])]
  rw [udpD_ok h, h, faultC_zero] at q1
  generalize ((p.body.take (n2 p.body 4)).drop 8) = d at *
  generalize decide (n2 p.body 6 = 0) = r at *
  generalize n2 p.body 0 = x0 at *
  generalize n2 p.body 2 = x2 at *
  simp only [dgC_eq] at q1
  by_cases hs : side = 0 ∧ x2 = 67
  · rw [if_pos hs]
    obtain ⟨hs1, hs2⟩ := hs
    have hs2' : (x2 : Int) = 67 := by omega
    subst hs1
    simp only [an_zero, pkC_eq]
    simp (disch := first | omega | (simp only [List.length_cons, List.length_nil, List.length_append, List.length_map, List.length_set]; omega) | rfl | (simp only [List.length_cons, List.length_nil, List.length_append, List.length_map, List.length_set, List.length_replicate, List.all_cons, List.all_nil, List.all_append, storable, plainB, Bool.and_self]; done)) only [go_sem, reduceCtorEq, ↓reduceIte, reduceDIte, evI_callP, callPK_some, I18, hk, q1, h2', hs2']
  rw [if_neg hs]
  by_cases ho : p.to.toNat = own.toNat
  case neg =>
    have ho' : ¬ (p.to.toNat : Int) = (own.toNat : Int) := by omega
    rw [if_pos ho]
    simp only [an_zero, pkC_eq]
    by_cases h1 : side = 0
    · have h2 : ¬ (x2 : Int) = 67 := fun c => hs ⟨h1, by omega⟩
      simp (disch := first | omega | (simp only [List.length_cons, List.length_nil, List.length_append, List.length_map, List.length_set]; omega) | rfl | (simp only [List.length_cons, List.length_nil, List.length_append, List.length_map, List.length_set, List.length_replicate, List.all_cons, List.all_nil, List.all_append, storable, plainB, Bool.and_self]; done)) only [go_sem, reduceCtorEq, ↓reduceIte, reduceDIte, evI_callP, callPK_some, I18, hk, q1, h2', h1, h2, ho']
    · simp (disch := first | omega | (simp only [List.length_cons, List.length_nil, List.length_append, List.length_map, List.length_set]; omega) | rfl | (simp only [List.length_cons, List.length_nil, List.length_append, List.length_map, List.length_set, List.length_replicate, List.all_cons, List.all_nil, List.all_append, storable, plainB, Bool.and_self]; done)) only [go_sem, reduceCtorEq, ↓reduceIte, reduceDIte, evI_callP, callPK_some, I18, hk, q1, h2', h1, ho']
  rw [if_neg (by simp [ho])]
  have ho2 : p.to = own := UInt32.toNat_inj.1 ho
  subst ho2
  unfold erP at q5
  rw [z3] at q5
  cases hbl : blm p
  · rw [hbl] at q5
    simp only [Bool.false_eq_true, if_false, pkC_zero] at q5
    simp only [Bool.false_eq_true, if_false, an_zero]
    simp only [pkC_eq] at q5 ⊢
    simp only [h2'] at q5 ⊢
    by_cases h1 : side = 0
    · have h2 : ¬ (x2 : Int) = 67 := fun c => hs ⟨h1, by omega⟩
      simp (disch := first | omega | (simp only [List.length_cons, List.length_nil, List.length_append, List.length_map, List.length_set]; omega) | rfl | (simp only [List.length_cons, List.length_nil, List.length_append, List.length_map, List.length_set, List.length_replicate, List.all_cons, List.all_nil, List.all_append, storable, plainB, Bool.and_self]; done)) only [go_sem, reduceCtorEq, ↓reduceIte, reduceDIte, evI_callP, callPK_some, I18, hk, q1, q5, h1, h2]
    · simp (disch := first | omega | (simp only [List.length_cons, List.length_nil, List.length_append, List.length_map, List.length_set]; omega) | rfl | (simp only [List.length_cons, List.length_nil, List.length_append, List.length_map, List.length_set, List.length_replicate, List.all_cons, List.all_nil, List.all_append, storable, plainB, Bool.and_self]; done)) only [go_sem, reduceCtorEq, ↓reduceIte, reduceDIte, evI_callP, callPK_some, I18, hk, q1, q5, h1]
  · rw [hbl] at q5
    simp only [if_true] at q5 ⊢
    rw [pkM_eq] at q5
    rw [an_pk]
    generalize icB (mgErr 3 3 p) = B at *
    simp only [pkC_eq] at q5 ⊢
    simp only [h2'] at q5 ⊢
    by_cases h1 : side = 0
    · have h2 : ¬ (x2 : Int) = 67 := fun c => hs ⟨h1, by omega⟩
      simp (disch := first | omega | (simp only [List.length_cons, List.length_nil, List.length_append, List.length_map, List.length_set]; omega) | rfl | (simp only [List.length_cons, List.length_nil, List.length_append, List.length_map, List.length_set, List.length_replicate, List.all_cons, List.all_nil, List.all_append, storable, plainB, Bool.and_self]; done)) only [go_sem, reduceCtorEq, ↓reduceIte, reduceDIte, evI_callP, callPK_some, I18, hk, q1, q5, h1, h2]
    · simp (disch := first | omega | (simp only [List.length_cons, List.length_nil, List.length_append, List.length_map, List.length_set]; omega) | rfl | (simp only [List.length_cons, List.length_nil, List.length_append, List.length_map, List.length_set, List.length_replicate, List.all_cons, List.all_nil, List.all_append, storable, plainB, Bool.and_self]; done)) only [go_sem, reduceCtorEq, ↓reduceIte, reduceDIte, evI_callP, callPK_some, I18, hk, q1, q5, h1]
end Go.Fw.Wd
