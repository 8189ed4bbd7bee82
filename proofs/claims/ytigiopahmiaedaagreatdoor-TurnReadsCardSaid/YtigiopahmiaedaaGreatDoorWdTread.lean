/-
  Read, Inner and Hop, the program's and the document's; the law TurnReads at the evaluation. Conditions: stated at each.
-/
import Derived.Test.YtigiopahmiaedaaGreatDoorWdTurn3
import Derived.Test.YtigiopahmiaedaaGreatDoorWdTpar
import Derived.Test.YtigiopahmiaedaaGreatDoorWdUdpr
import Derived.Test.YtigiopahmiaedaaGreatDoorWdArgs
set_option linter.unusedVariables false
set_option linter.unusedSimpArgs false
namespace Go.Fw.Wd
open Go.Proofs Code_

theorem parseT_eq (b : List UInt8) (x y : UInt32) : parseT b x y = .tup [.agg (tcpD b x y), errV (tcpR b) (tcpE b x y)] := by
  unfold parseT tcpD tcpR tcpE
  by_cases h1 : formE b = 0
  · rw [if_pos h1, if_pos h1, if_pos h1]
    by_cases h2 : foldN (sumW (endsB x y b.length ++ b)) = 65535
    · rw [if_pos h2, if_pos h2, if_pos rfl]
      rfl
    · rw [if_neg h2, if_neg h2, if_neg (by omega)]
      rfl
  · rw [if_neg h1, if_neg h1, if_neg h1, if_neg h1]
    unfold errV
    rw [if_neg h1]
theorem udpD_no {b : List UInt8} {x y : UInt32} (h : ¬ udpF b x y = 0) : udpD b x y = dgC 0 0 false [] := by
  unfold udpD
  rw [if_neg]
  rintro ⟨h2, h3⟩
  exact h (by unfold udpF; rw [if_pos h2, if_pos h3])
theorem udpD_yes {b : List UInt8} {x y : UInt32} (h : udpF b x y = 0) : udpD b x y = dgC (n2 b 0) (n2 b 2) (decide (n2 b 6 = 0)) ((b.take (n2 b 4)).drop 8) := by
  have hE : udpE b = 0 := by
    by_cases h' : udpE b = 0
    · exact h'
    · unfold udpF at h; rw [if_neg h'] at h; exact absurd h h'
  have hO : udpOk b x y = true := by
    by_cases h' : udpOk b x y = true
    · exact h'
    · unfold udpF at h; rw [if_pos hE, if_neg h'] at h; cases h
  unfold udpD
  rw [if_pos ⟨hE, hO⟩]
/-- What Read tells. -/
def rdE (p : Pk) : Int × Int := if p.proto.toNat = 6 then (tcpR p.body, tcpE p.body p.fr p.to) else if p.proto.toNat = 17 then (udpR p.body, udpF p.body p.fr p.to) else if p.proto.toNat = 1 then (if ¬ (icE p.body).2 = 0 then icE p.body else qrE (icM p.body).ty) else (16, 14)
def rdN (p : Pk) : En := if p.proto.toNat = 6 then (if tcpE p.body p.fr p.to = 0 then ⟨p.proto, p.fr, n2 p.body 0, p.to, n2 p.body 2, nth p.body 13, 0⟩ else En.zero) else if p.proto.toNat = 17 then (if udpF p.body p.fr p.to = 0 then btw p (n2 p.body 0) (n2 p.body 2) else En.zero) else if p.proto.toNat = 1 then (if ¬ (icE p.body).2 = 0 then En.zero else qrN p (icM p.body).ty (mrkN (icM p.body))) else En.zero
theorem qrN_no (p : Pk) (k : UInt8) (m : Nat) (h : ¬ (qrE k).2 = 0) : qrN p k m = En.zero := by
  unfold qrE at h
  unfold qrN
  split at h
  · simp at h
  · rw [if_neg (by omega), if_neg (by omega)]
theorem s7 (p : Pk) (hb : p.body.length ≤ 1600) : pcall E 7 [.agg (pkC p)] = some (.tup [.agg (enC (rdN p)), errV (rdE p).1 (rdE p).2], []) := by
  rw [pcall_go (fn := I7) rfl rfl rfl]
  have hk : E.keep 7 = false := rfl
  have fo := s31
  rw [errV_pos _ (by omega)] at fo
  have qb := s27 p (n2 p.body 0) (n2 p.body 2)
  have z0 : ((UInt8.toNat 0 : Nat) : Int) = 0 := rfl
  unfold rdE rdN
  by_cases h6 : p.proto.toNat = 6
  · have h6' : (p.proto.toNat : Int) = 6 := by omega
    have qt := fun g => s26 g p.body p.fr p.to
    simp only [parseT_eq] at qt
    simp only [h6, if_true]
    unfold tcpD at qt
    by_cases h1 : tcpE p.body p.fr p.to = 0
    · rw [h1, errV_zero] at qt ⊢
      simp only [h1, if_true, segC_eq] at qt ⊢
      simp only [enC_eq, pkC_eq, btw, h6', z0] at qt qb ⊢
      generalize n2 p.body 0 = a0 at *
      generalize n2 p.body 2 = a2 at *
      generalize nth p.body 13 = a3 at *
      simp (disch := first | omega | (simp only [List.length_cons, List.length_nil, List.length_append, List.length_map, List.length_set]; omega) | rfl | (simp only [List.length_cons, List.length_nil, List.length_append, List.length_map, List.length_set, List.length_replicate, List.all_cons, List.all_nil, List.all_append, storable, plainB, Bool.and_self]; done)) only [go_sem, reduceCtorEq, ↓reduceIte, reduceDIte, evI_callP, callPK_some, I7, hk, qt, qb, h6']
    · rw [errV_pos _ h1] at qt ⊢
      simp only [h1, if_false, segC_eq, enC_zero] at qt ⊢
      simp only [pkC_eq, h6', z0] at qt ⊢
      generalize tcpE p.body p.fr p.to = n at *
      generalize tcpR p.body = r at *
      simp (disch := first | omega | (simp only [List.length_cons, List.length_nil, List.length_append, List.length_map, List.length_set]; omega) | rfl | (simp only [List.length_cons, List.length_nil, List.length_append, List.length_map, List.length_set, List.length_replicate, List.all_cons, List.all_nil, List.all_append, storable, plainB, Bool.and_self]; done)) only [go_sem, reduceCtorEq, ↓reduceIte, reduceDIte, evI_callP, callPK_some, I7, hk, qt, h6', Int.natCast_zero]
  have h6' : ¬ (p.proto.toNat : Int) = 6 := by omega
  by_cases h17 : p.proto.toNat = 17
  · have h17' : (p.proto.toNat : Int) = 17 := by omega
    have qu := fun g => s19 g p.body (by omega) p.fr p.to
    simp only [h17, Nat.reduceEqDiff, if_true, if_false]
    by_cases h1 : udpF p.body p.fr p.to = 0
    · rw [udpD_yes h1, h1, errV_zero] at qu
      rw [h1, errV_zero]
      simp only [if_true, dgC_eq] at qu ⊢
      simp only [enC_eq, pkC_eq, btw, h17', z0] at qu qb ⊢
      generalize n2 p.body 0 = a0 at *
      generalize n2 p.body 2 = a2 at *
      generalize decide (n2 p.body 6 = 0) = a3 at *
      generalize (p.body.take (n2 p.body 4)).drop 8 = a4 at *
      simp (disch := first | omega | (simp only [List.length_cons, List.length_nil, List.length_append, List.length_map, List.length_set]; omega) | rfl | (simp only [List.length_cons, List.length_nil, List.length_append, List.length_map, List.length_set, List.length_replicate, List.all_cons, List.all_nil, List.all_append, storable, plainB, Bool.and_self]; done)) only [go_sem, reduceCtorEq, ↓reduceIte, reduceDIte, evI_callP, callPK_some, I7, hk, qu, qb, h17']
    · rw [udpD_no h1, errV_pos _ h1] at qu
      rw [errV_pos _ h1]
      simp only [h1, if_false, dgC_eq, enC_zero] at qu ⊢
      simp only [pkC_eq, h17', z0] at qu ⊢
      generalize udpF p.body p.fr p.to = n at *
      generalize udpR p.body = r at *
      simp (disch := first | omega | (simp only [List.length_cons, List.length_nil, List.length_append, List.length_map, List.length_set]; omega) | rfl | (simp only [List.length_cons, List.length_nil, List.length_append, List.length_map, List.length_set, List.length_replicate, List.all_cons, List.all_nil, List.all_append, storable, plainB, Bool.and_self]; done)) only [go_sem, reduceCtorEq, ↓reduceIte, reduceDIte, evI_callP, callPK_some, I7, hk, qu, h17', Int.natCast_zero]
  have h17' : ¬ (p.proto.toNat : Int) = 17 := by omega
  by_cases h1 : p.proto.toNat = 1
  · have h1' : (p.proto.toNat : Int) = 1 := by omega
    have qi := fun g => icp_all g p.body (by omega)
    have qm := s30 (icM p.body)
    have qq := s29 p (icM p.body).ty (mrkN (icM p.body))
    simp only [h1, Nat.reduceEqDiff, if_true, if_false]
    by_cases h2 : (icE p.body).2 = 0
    · rw [h2, errV_zero] at qi
      simp only [h2, not_true, if_false]
      generalize icM p.body = m at *
      generalize qrN p m.ty (mrkN m) = e at *
      generalize mrkN m = k at *
      by_cases h3 : (qrE m.ty).2 = 0
      · rw [h3, errV_zero] at qq ⊢
        simp only [enC_eq, pkC_eq, mgC_eq, h1'] at qq qi qm ⊢
        simp (disch := first | omega | (simp only [List.length_cons, List.length_nil, List.length_append, List.length_map, List.length_set]; omega) | rfl | (simp only [List.length_cons, List.length_nil, List.length_append, List.length_map, List.length_set, List.length_replicate, List.all_cons, List.all_nil, List.all_append, storable, plainB, Bool.and_self]; done)) only [go_sem, reduceCtorEq, ↓reduceIte, reduceDIte, evI_callP, callPK_some, I7, hk, qi, qm, qq, h1']
      · rw [errV_pos _ h3] at qq ⊢
        generalize (qrE m.ty).1 = r at *
        generalize (qrE m.ty).2 = n at *
        simp only [enC_eq, pkC_eq, mgC_eq, h1'] at qq qi qm ⊢
        simp (disch := first | omega | (simp only [List.length_cons, List.length_nil, List.length_append, List.length_map, List.length_set]; omega) | rfl | (simp only [List.length_cons, List.length_nil, List.length_append, List.length_map, List.length_set, List.length_replicate, List.all_cons, List.all_nil, List.all_append, storable, plainB, Bool.and_self]; done)) only [go_sem, reduceCtorEq, ↓reduceIte, reduceDIte, evI_callP, callPK_some, I7, hk, qi, qm, qq, h1']
    · rw [errV_pos _ h2] at qi
      simp only [h2, not_false_eq_true, if_true, enC_zero]
      rw [errV_pos _ h2]
      generalize (icE p.body).1 = r at *
      generalize (icE p.body).2 = n at *
      generalize icM p.body = m at *
      simp only [pkC_eq, mgC_eq, h1'] at qi ⊢
      simp (disch := first | omega | (simp only [List.length_cons, List.length_nil, List.length_append, List.length_map, List.length_set]; omega) | rfl | (simp only [List.length_cons, List.length_nil, List.length_append, List.length_map, List.length_set, List.length_replicate, List.all_cons, List.all_nil, List.all_append, storable, plainB, Bool.and_self]; done)) only [go_sem, reduceCtorEq, ↓reduceIte, reduceDIte, evI_callP, callPK_some, I7, hk, qi, h1']
  have h1' : ¬ (p.proto.toNat : Int) = 1 := by omega
  simp only [h6, h17, h1, if_false, enC_zero]
  rw [errV_pos _ (by omega)]
  simp only [pkC_eq]
  simp (disch := first | omega | (simp only [List.length_cons, List.length_nil, List.length_append, List.length_map, List.length_set]; omega) | rfl | (simp only [List.length_cons, List.length_nil, List.length_append, List.length_map, List.length_set, List.length_replicate, List.all_cons, List.all_nil, List.all_append, storable, plainB, Bool.and_self]; done)) only [go_sem, reduceCtorEq, ↓reduceIte, reduceDIte, evI_callP, callPK_some, I7, hk, fo, h6', h17', h1']

/-! ### the document's -/
theorem s33 (p : Pk) (a b : Nat) : pcall E 33 [.agg (pkC p), .int .u16 (a : Int), .int .u16 (b : Int)] = some (.agg (enC (btw p a b)), []) := by
  rw [pcall_go (fn := I33) rfl rfl rfl]
  have hk : E.keep 33 = false := rfl
  have z0 : ((UInt8.toNat 0 : Nat) : Int) = 0 := rfl
  simp only [pkC_eq, enC_eq, btw, z0]
  simp (disch := first | omega | (simp only [List.length_cons, List.length_nil, List.length_append, List.length_map, List.length_set]; omega) | rfl | (simp only [List.length_cons, List.length_nil, List.length_append, List.length_map, List.length_set, List.length_replicate, List.all_cons, List.all_nil, List.all_append, storable, plainB, Bool.and_self]; done)) only [go_sem, reduceCtorEq, ↓reduceIte, reduceDIte, evI_callP, callPK_some, I33, hk]
theorem s38 : pcall E 38 [] = some (.agg (faultC 16 14), []) := by
  rw [pcall_go (fn := I38) rfl rfl rfl]
  have hk : E.keep 38 = false := rfl
  have q := new16 14
  rw [faultC_pos _ (by omega)] at q ⊢
  simp (disch := first | omega | (simp only [List.length_cons, List.length_nil, List.length_append, List.length_map, List.length_set]; omega) | rfl | (simp only [List.length_cons, List.length_nil, List.length_append, List.length_map, List.length_set, List.length_replicate, List.all_cons, List.all_nil, List.all_append, storable, plainB, Bool.and_self]; done)) only [go_sem, reduceCtorEq, ↓reduceIte, reduceDIte, evI_callP, callPK_some, I38, hk, q]
def rqN (p : Pk) (k : UInt8) (m : Nat) : En := if k.toNat = 0 then ⟨p.proto, p.fr, 0, p.to, m, 0, k⟩ else ⟨p.proto, p.fr, m, p.to, 0, 0, k⟩
theorem rqN_yes (p : Pk) (k : UInt8) (m : Nat) (h : (qrE k).2 = 0) : rqN p k m = qrN p k m := by
  unfold qrE at h
  unfold qrN rqN
  split at h
  · by_cases h0 : k.toNat = 0
    · rw [if_pos h0, if_neg (by omega), if_pos h0]
    · rw [if_neg h0, if_pos (by omega)]
  · simp at h
theorem s36 (p : Pk) (k : UInt8) (m : Nat) : pcall E 36 [.agg (pkC p), .int .u8 (k.toNat : Int), .int .u16 (m : Int)] = some (.tup [.agg (enC (rqN p k m)), .bool (decide ((qrE k).2 = 0))], []) := by
  rw [pcall_go (fn := I36) rfl rfl rfl]
  have hk : E.keep 36 = false := rfl
  have q1 := s33 p m 0
  have q2 := s33 p 0 m
  have z0 : ((UInt8.toNat 0 : Nat) : Int) = 0 := rfl
  simp only [enC_eq, btw, z0, Int.natCast_zero] at q1 q2
  unfold rqN qrE
  by_cases h0 : k.toNat = 0
  · have h0' : (k.toNat : Int) = 0 := by omega
    simp only [h0, or_true, if_true, enC_eq, decide_true]
    simp only [h0', pkC_eq] at q1 q2 ⊢
    simp (disch := first | omega | (simp only [List.length_cons, List.length_nil, List.length_append, List.length_map, List.length_set]; omega) | rfl | (simp only [List.length_cons, List.length_nil, List.length_append, List.length_map, List.length_set, List.length_replicate, List.all_cons, List.all_nil, List.all_append, storable, plainB, Bool.and_self]; done)) only [go_sem, reduceCtorEq, ↓reduceIte, reduceDIte, evI_callP, callPK_some, I36, hk, q1, q2, h0', z0, Int.natCast_zero, Int.cast_ofNat_Int]
  have h0' : ¬ (k.toNat : Int) = 0 := by omega
  by_cases h8 : k.toNat = 8
  · have h8' : (k.toNat : Int) = 8 := by omega
    simp only [h8, Nat.reduceEqDiff, true_or, if_true, if_false, enC_eq, decide_true]
    simp only [h8', pkC_eq] at q1 q2 ⊢
    simp (disch := first | omega | (simp only [List.length_cons, List.length_nil, List.length_append, List.length_map, List.length_set]; omega) | rfl | (simp only [List.length_cons, List.length_nil, List.length_append, List.length_map, List.length_set, List.length_replicate, List.all_cons, List.all_nil, List.all_append, storable, plainB, Bool.and_self]; done)) only [go_sem, reduceCtorEq, ↓reduceIte, reduceDIte, evI_callP, callPK_some, I36, hk, q1, q2, h8', z0, Int.natCast_zero, Int.cast_ofNat_Int]
  have h8' : ¬ (k.toNat : Int) = 8 := by omega
  simp only [h8, h0, or_self, if_false, enC_eq, Int.reduceEq, decide_false]
  simp only [pkC_eq] at q1 q2 ⊢
  simp (disch := first | omega | (simp only [List.length_cons, List.length_nil, List.length_append, List.length_map, List.length_set]; omega) | rfl | (simp only [List.length_cons, List.length_nil, List.length_append, List.length_map, List.length_set, List.length_replicate, List.all_cons, List.all_nil, List.all_append, storable, plainB, Bool.and_self]; done)) only [go_sem, reduceCtorEq, ↓reduceIte, reduceDIte, evI_callP, callPK_some, I36, hk, q1, q2, h0', h8', z0, Int.natCast_zero, Int.cast_ofNat_Int]
theorem s8 (p : Pk) (hb : p.body.length ≤ 1600) : pcall E 8 [.agg (pkC p)] = some (.tup [.agg (enC (rdN p)), .agg (faultC (rdE p).1 (rdE p).2)], []) := by
  rw [pcall_go (fn := I8) rfl rfl rfl]
  have hk : E.keep 8 = false := rfl
  have fo := s38
  rw [faultC_pos _ (by omega)] at fo
  have qb := s33 p (n2 p.body 0) (n2 p.body 2)
  have z0 : ((UInt8.toNat 0 : Nat) : Int) = 0 := rfl
  unfold rdE rdN
  by_cases h6 : p.proto.toNat = 6
  · have h6' : (p.proto.toNat : Int) = 6 := by omega
    have qt := fun g => s32 g p.body (by omega) p.fr p.to
    simp only [h6, if_true]
    unfold tcpD at qt
    by_cases h1 : tcpE p.body p.fr p.to = 0
    · rw [h1, faultC_zero] at qt ⊢
      simp only [h1, if_true, segC_eq] at qt ⊢
      simp only [enC_eq, pkC_eq, btw, h6', z0] at qt qb ⊢
      generalize n2 p.body 0 = a0 at *
      generalize n2 p.body 2 = a2 at *
      generalize nth p.body 13 = a3 at *
      simp (disch := first | omega | (simp only [List.length_cons, List.length_nil, List.length_append, List.length_map, List.length_set]; omega) | rfl | (simp only [List.length_cons, List.length_nil, List.length_append, List.length_map, List.length_set, List.length_replicate, List.all_cons, List.all_nil, List.all_append, storable, plainB, Bool.and_self]; done)) only [go_sem, reduceCtorEq, ↓reduceIte, reduceDIte, evI_callP, callPK_some, I8, hk, qt, qb, h6']
    · rw [faultC_pos _ h1] at qt ⊢
      simp only [h1, if_false, segC_eq, enC_zero] at qt ⊢
      simp only [pkC_eq, h6', z0] at qt ⊢
      generalize tcpE p.body p.fr p.to = n at *
      generalize tcpR p.body = r at *
      simp (disch := first | omega | (simp only [List.length_cons, List.length_nil, List.length_append, List.length_map, List.length_set]; omega) | rfl | (simp only [List.length_cons, List.length_nil, List.length_append, List.length_map, List.length_set, List.length_replicate, List.all_cons, List.all_nil, List.all_append, storable, plainB, Bool.and_self]; done)) only [go_sem, reduceCtorEq, ↓reduceIte, reduceDIte, evI_callP, callPK_some, I8, hk, qt, h6', h1, Int.natCast_zero]
  have h6' : ¬ (p.proto.toNat : Int) = 6 := by omega
  by_cases h17 : p.proto.toNat = 17
  · have h17' : (p.proto.toNat : Int) = 17 := by omega
    have qu := fun g => s34 g p.body (by omega) p.fr p.to
    simp only [h17, Nat.reduceEqDiff, if_true, if_false]
    by_cases h1 : udpF p.body p.fr p.to = 0
    · rw [udpD_yes h1, h1, faultC_zero] at qu
      rw [h1, faultC_zero]
      simp only [if_true, dgC_eq] at qu ⊢
      simp only [enC_eq, pkC_eq, btw, h17', z0] at qu qb ⊢
      generalize n2 p.body 0 = a0 at *
      generalize n2 p.body 2 = a2 at *
      generalize decide (n2 p.body 6 = 0) = a3 at *
      generalize (p.body.take (n2 p.body 4)).drop 8 = a4 at *
      simp (disch := first | omega | (simp only [List.length_cons, List.length_nil, List.length_append, List.length_map, List.length_set]; omega) | rfl | (simp only [List.length_cons, List.length_nil, List.length_append, List.length_map, List.length_set, List.length_replicate, List.all_cons, List.all_nil, List.all_append, storable, plainB, Bool.and_self]; done)) only [go_sem, reduceCtorEq, ↓reduceIte, reduceDIte, evI_callP, callPK_some, I8, hk, qu, qb, h17']
    · rw [udpD_no h1, faultC_pos _ h1] at qu
      rw [faultC_pos _ h1]
      simp only [h1, if_false, dgC_eq, enC_zero] at qu ⊢
      simp only [pkC_eq, h17', z0] at qu ⊢
      generalize udpF p.body p.fr p.to = n at *
      generalize udpR p.body = r at *
      simp (disch := first | omega | (simp only [List.length_cons, List.length_nil, List.length_append, List.length_map, List.length_set]; omega) | rfl | (simp only [List.length_cons, List.length_nil, List.length_append, List.length_map, List.length_set, List.length_replicate, List.all_cons, List.all_nil, List.all_append, storable, plainB, Bool.and_self]; done)) only [go_sem, reduceCtorEq, ↓reduceIte, reduceDIte, evI_callP, callPK_some, I8, hk, qu, h17', h1, Int.natCast_zero]
  have h17' : ¬ (p.proto.toNat : Int) = 17 := by omega
  by_cases h1 : p.proto.toNat = 1
  · have h1' : (p.proto.toNat : Int) = 1 := by omega
    have qi := fun g => s35 g p.body (by omega)
    have qm := s37 (icM p.body)
    have qq := s36 p (icM p.body).ty (mrkN (icM p.body))
    simp only [h1, Nat.reduceEqDiff, if_true, if_false]
    by_cases h2 : (icE p.body).2 = 0
    · rw [h2, faultC_zero] at qi
      simp only [h2, not_true, if_false]
      generalize icM p.body = m at *
      by_cases h3 : (qrE m.ty).2 = 0
      · rw [rqN_yes _ _ _ h3, decide_eq_true h3] at qq
        rw [h3, faultC_zero]
        generalize qrN p m.ty (mrkN m) = e at *
        generalize mrkN m = k at *
        simp only [enC_eq, pkC_eq, mgC_eq, h1'] at qq qi qm ⊢
        simp (disch := first | omega | (simp only [List.length_cons, List.length_nil, List.length_append, List.length_map, List.length_set]; omega) | rfl | (simp only [List.length_cons, List.length_nil, List.length_append, List.length_map, List.length_set, List.length_replicate, List.all_cons, List.all_nil, List.all_append, storable, plainB, Bool.and_self]; done)) only [go_sem, reduceCtorEq, ↓reduceIte, reduceDIte, evI_callP, callPK_some, I8, hk, qi, qm, qq, h1']
      · rw [decide_eq_false h3] at qq
        have e3 : qrE m.ty = (16, 14) := by
          unfold qrE at h3 ⊢
          split at h3
          · simp at h3
          · rename_i hh; rw [if_neg hh]
        rw [qrN_no _ _ _ h3, e3, faultC_pos _ (by omega), enC_zero]
        generalize rqN p m.ty (mrkN m) = e at *
        generalize mrkN m = k at *
        simp only [enC_eq, pkC_eq, mgC_eq, h1'] at qq qi qm ⊢
        simp (disch := first | omega | (simp only [List.length_cons, List.length_nil, List.length_append, List.length_map, List.length_set]; omega) | rfl | (simp only [List.length_cons, List.length_nil, List.length_append, List.length_map, List.length_set, List.length_replicate, List.all_cons, List.all_nil, List.all_append, storable, plainB, Bool.and_self]; done)) only [go_sem, reduceCtorEq, ↓reduceIte, reduceDIte, evI_callP, callPK_some, I8, hk, qi, qm, qq, h1', fo]
    · rw [faultC_pos _ h2] at qi
      simp only [h2, not_false_eq_true, if_true, enC_zero]
      rw [faultC_pos _ h2]
      generalize (icE p.body).1 = r at *
      generalize (icE p.body).2 = n at *
      generalize icM p.body = m at *
      simp only [pkC_eq, mgC_eq, h1'] at qi ⊢
      simp (disch := first | omega | (simp only [List.length_cons, List.length_nil, List.length_append, List.length_map, List.length_set]; omega) | rfl | (simp only [List.length_cons, List.length_nil, List.length_append, List.length_map, List.length_set, List.length_replicate, List.all_cons, List.all_nil, List.all_append, storable, plainB, Bool.and_self]; done)) only [go_sem, reduceCtorEq, ↓reduceIte, reduceDIte, evI_callP, callPK_some, I8, hk, qi, h1', h2]
  have h1' : ¬ (p.proto.toNat : Int) = 1 := by omega
  simp only [h6, h17, h1, if_false, enC_zero]
  rw [faultC_pos _ (by omega)]
  simp only [pkC_eq]
  simp (disch := first | omega | (simp only [List.length_cons, List.length_nil, List.length_append, List.length_map, List.length_set]; omega) | rfl | (simp only [List.length_cons, List.length_nil, List.length_append, List.length_map, List.length_set, List.length_replicate, List.all_cons, List.all_nil, List.all_append, storable, plainB, Bool.and_self]; done)) only [go_sem, reduceCtorEq, ↓reduceIte, reduceDIte, evI_callP, callPK_some, I8, hk, fo, h6', h17', h1']
theorem s10 (p : Pk) (hb : p.body.length ≤ 1600) : pcall E 10 [.agg (pkC p)] = some (.tup [.agg (enC (tnN p)), .agg (faultC (trE p).1 (trE p).2)], []) := by
  rw [pcall_go (fn := I10) rfl rfl rfl]
  have hk : E.keep 10 = false := rfl
  have fo := s38
  rw [faultC_pos _ (by omega)] at fo
  have z0 : ((UInt8.toNat 0 : Nat) : Int) = 0 := rfl
  unfold trE tnN
  by_cases h1 : p.proto.toNat = 1
  case neg =>
    have h1' : ¬ (p.proto.toNat : Int) = 1 := by omega
    have e1 : emE p = (16, 14) := by unfold emE; rw [if_pos h1]
    simp only [e1, Int.reduceEq, not_false_eq_true, if_true, if_false, enC_zero]
    rw [faultC_pos _ (by omega)]
    simp only [pkC_eq]
    simp (disch := first | omega | (simp only [List.length_cons, List.length_nil, List.length_append, List.length_map, List.length_set]; omega) | rfl | (simp only [List.length_cons, List.length_nil, List.length_append, List.length_map, List.length_set, List.length_replicate, List.all_cons, List.all_nil, List.all_append, storable, plainB, Bool.and_self]; done)) only [go_sem, reduceCtorEq, ↓reduceIte, reduceDIte, evI_callP, callPK_some, I10, hk, h1', fo]
  have h1' : (p.proto.toNat : Int) = 1 := by omega
  have qp := fun g => s35 g p.body (by omega)
  by_cases h2 : (icE p.body).2 = 0
  case neg =>
    have e1 : emE p = icE p.body := by unfold emE; rw [if_neg (by omega), if_pos h2]
    rw [e1]
    simp only [h2, not_false_eq_true, if_true, if_false, enC_zero]
    rw [faultC_pos _ h2] at qp ⊢
    generalize (icE p.body).1 = r at *
    generalize (icE p.body).2 = n at *
    generalize icM p.body = m at *
    simp only [pkC_eq, mgC_eq] at qp ⊢
    simp (disch := first | omega | (simp only [List.length_cons, List.length_nil, List.length_append, List.length_map, List.length_set]; omega) | rfl | (simp only [List.length_cons, List.length_nil, List.length_append, List.length_map, List.length_set, List.length_replicate, List.all_cons, List.all_nil, List.all_append, storable, plainB, Bool.and_self]; done)) only [go_sem, reduceCtorEq, ↓reduceIte, reduceDIte, evI_callP, callPK_some, I10, hk, h1', qp, h2]
  have e1 : emE p = inE (icM p.body) := by unfold emE; rw [if_neg (by omega), if_neg (by omega)]
  have qi := s41 (icM p.body) (by have := icM_len2 p.body; omega)
  rw [h2, faultC_zero] at qp
  by_cases h3 : (emE p).2 = 0
  case neg =>
    rw [← e1] at qi
    simp only [h3, not_false_eq_true, if_true, if_false, enC_zero]
    rw [faultC_pos _ h3] at qi ⊢
    generalize (emE p).1 = r at *
    generalize (emE p).2 = n at *
    generalize inP (icM p.body) = q at *
    generalize icM p.body = m at *
    simp only [pkC_eq, mgC_eq] at qp qi ⊢
    simp (disch := first | omega | (simp only [List.length_cons, List.length_nil, List.length_append, List.length_map, List.length_set]; omega) | rfl | (simp only [List.length_cons, List.length_nil, List.length_append, List.length_map, List.length_set, List.length_replicate, List.all_cons, List.all_nil, List.all_append, storable, plainB, Bool.and_self]; done)) only [go_sem, reduceCtorEq, ↓reduceIte, reduceDIte, evI_callP, callPK_some, I10, hk, h1', qp, qi, h3]
  obtain ⟨_, _, _, e4, _, _, e7⟩ := em_ok h3
  obtain ⟨e8, e9⟩ := red_len _ e7
  have e5 : emP p = inP (icM p.body) := by unfold emP; rw [if_neg (by omega), if_neg (by omega)]
  rw [← e4] at e7 e9
  rw [← e1, h3, faultC_zero, ← e5] at qi
  simp only [h3, not_true, if_true, if_false]
  generalize icM p.body = m at *
  have lq : (emP p).body.length ≤ 1600 := by rw [List.length_drop] at e9; omega
  generalize emP p = q at *
  have qb := s33 q (n2 q.body 0) (n2 q.body 2)
  have qq := s36 q (nth q.body 0) (n2 q.body 4)
  have a0 := fun g => s42 g q.body (by omega)
  have a2 := fun g => s42 g (q.body.drop 2) (by rw [List.length_drop]; omega)
  have a4 := fun g => s42 g (q.body.drop 4) (by rw [List.length_drop]; omega)
  simp only [n2_drop, Nat.add_zero] at a2 a4
  have l0 := n2_lt q.body 0
  have l2 := n2_lt q.body 2
  have l4 := n2_lt q.body 4
  have w0 : IntKind.u16.wrap ((n2 q.body 0 : Nat) : Int) = ((n2 q.body 0 : Nat) : Int) := wu16 (by omega) (by omega)
  have w2 : IntKind.u16.wrap ((n2 q.body 2 : Nat) : Int) = ((n2 q.body 2 : Nat) : Int) := wu16 (by omega) (by omega)
  have w4 : IntKind.u16.wrap ((n2 q.body 4 : Nat) : Int) = ((n2 q.body 4 : Nat) : Int) := wu16 (by omega) (by omega)
  have b0 : (0 : Int) < q.body.length := by omega
  have sl2 : ∀ h g, sliceK h 1 (.rs g 1 (q.body.map by8)) (some q.body.length) (some (.int .i64 2)) none = some (.rs g 1 ((q.body.drop 2).map by8), h) := fun h g => slice_by_in h g q.body .i64 2 (by omega) (by omega)
  have sl4 : ∀ h g, sliceK h 1 (.rs g 1 (q.body.map by8)) (some q.body.length) (some (.int .i64 4)) none = some (.rs g 1 ((q.body.drop 4).map by8), h) := fun h g => slice_by_in h g q.body .i64 4 (by omega) (by omega)
  unfold ieN ieE
  clear e4 e5 e7 e8 e9
  by_cases h6 : q.proto.toNat = 6
  · have h6' : (q.proto.toNat : Int) = 6 := by omega
    simp only [h6, true_or, if_true]
    rw [faultC_zero]
    generalize btw q (n2 q.body 0) (n2 q.body 2) = e at *
    generalize n2 q.body 0 = m0 at *
    generalize n2 q.body 2 = m2 at *
    generalize q.body.drop 2 = d2 at *
    simp only [pkC_eq, mgC_eq, enC_eq, h6'] at qp qi qb ⊢
    simp (disch := first | omega | (simp only [List.length_cons, List.length_nil, List.length_append, List.length_map, List.length_set]; omega) | rfl | (simp only [List.length_cons, List.length_nil, List.length_append, List.length_map, List.length_set, List.length_replicate, List.all_cons, List.all_nil, List.all_append, storable, plainB, Bool.and_self]; done)) only [go_sem, reduceCtorEq, ↓reduceIte, reduceDIte, evI_callP, callPK_some, I10, hk, h1', qp, qi, qb, h6', a0, a2, w0, w2, sl2]
  have h6' : ¬ (q.proto.toNat : Int) = 6 := by omega
  by_cases h17 : q.proto.toNat = 17
  · have h17' : (q.proto.toNat : Int) = 17 := by omega
    simp only [h17, or_true, if_true]
    rw [faultC_zero]
    generalize btw q (n2 q.body 0) (n2 q.body 2) = e at *
    generalize n2 q.body 0 = m0 at *
    generalize n2 q.body 2 = m2 at *
    generalize q.body.drop 2 = d2 at *
    simp only [pkC_eq, mgC_eq, enC_eq, h17'] at qp qi qb ⊢
    simp (disch := first | omega | (simp only [List.length_cons, List.length_nil, List.length_append, List.length_map, List.length_set]; omega) | rfl | (simp only [List.length_cons, List.length_nil, List.length_append, List.length_map, List.length_set, List.length_replicate, List.all_cons, List.all_nil, List.all_append, storable, plainB, Bool.and_self]; done)) only [go_sem, reduceCtorEq, ↓reduceIte, reduceDIte, evI_callP, callPK_some, I10, hk, h1', qp, qi, qb, h17', a0, a2, w0, w2, sl2]
  have h17' : ¬ (q.proto.toNat : Int) = 17 := by omega
  by_cases c1 : q.proto.toNat = 1
  · have c1' : (q.proto.toNat : Int) = 1 := by omega
    simp only [c1, Nat.reduceEqDiff, or_false, if_true, if_false]
    by_cases h5 : (qrE (nth q.body 0)).2 = 0
    · rw [rqN_yes _ _ _ h5, decide_eq_true h5] at qq
      rw [h5, faultC_zero]
      generalize qrN q (nth q.body 0) (n2 q.body 4) = e at *
      generalize n2 q.body 4 = m4 at *
      generalize q.body.drop 4 = d4 at *
      simp only [pkC_eq, mgC_eq, enC_eq, c1'] at qp qi qq ⊢
      simp (disch := first | omega | (simp only [List.length_cons, List.length_nil, List.length_append, List.length_map, List.length_set]; omega) | rfl | (simp only [List.length_cons, List.length_nil, List.length_append, List.length_map, List.length_set, List.length_replicate, List.all_cons, List.all_nil, List.all_append, storable, plainB, Bool.and_self]; done)) only [go_sem, reduceCtorEq, ↓reduceIte, reduceDIte, evI_callP, callPK_some, I10, hk, h1', qp, qi, qq, h6', h17', c1', b0, a4, w4, sl4, Int.toNat_zero]
    · rw [decide_eq_false h5] at qq
      have e3 : qrE (nth q.body 0) = (16, 14) := by
        unfold qrE at h5 ⊢
        split at h5
        · simp at h5
        · rename_i hh; rw [if_neg hh]
      rw [qrN_no _ _ _ h5, e3, faultC_pos _ (by omega), enC_zero]
      generalize rqN q (nth q.body 0) (n2 q.body 4) = e at *
      generalize n2 q.body 4 = m4 at *
      generalize q.body.drop 4 = d4 at *
      simp only [pkC_eq, mgC_eq, enC_eq, c1'] at qp qi qq ⊢
      simp (disch := first | omega | (simp only [List.length_cons, List.length_nil, List.length_append, List.length_map, List.length_set]; omega) | rfl | (simp only [List.length_cons, List.length_nil, List.length_append, List.length_map, List.length_set, List.length_replicate, List.all_cons, List.all_nil, List.all_append, storable, plainB, Bool.and_self]; done)) only [go_sem, reduceCtorEq, ↓reduceIte, reduceDIte, evI_callP, callPK_some, I10, hk, h1', qp, qi, qq, h6', h17', c1', b0, a4, w4, sl4, fo, Int.toNat_zero]
  have c1' : ¬ (q.proto.toNat : Int) = 1 := by omega
  simp only [h6, h17, c1, or_self, if_false, enC_zero]
  rw [faultC_pos _ (by omega)]
  simp only [pkC_eq, mgC_eq] at qp qi ⊢
  simp (disch := first | omega | (simp only [List.length_cons, List.length_nil, List.length_append, List.length_map, List.length_set]; omega) | rfl | (simp only [List.length_cons, List.length_nil, List.length_append, List.length_map, List.length_set, List.length_replicate, List.all_cons, List.all_nil, List.all_append, storable, plainB, Bool.and_self]; done)) only [go_sem, reduceCtorEq, ↓reduceIte, reduceDIte, evI_callP, callPK_some, I10, hk, h1', qp, qi, h6', h17', c1', fo]
/-- A packet with a lesser Ttl. -/
def hpP (p : Pk) : Pk := if p.ttl.toNat ≤ 1 then Pk.zero else ⟨p.tos, p.id, p.kp, UInt8.ofNat (p.ttl.toNat - 1), p.proto, p.fr, p.to, p.body⟩
theorem s11 (p : Pk) (hb : p.body.length ≤ 1600) : pcall E 11 [.agg (pkC p)] = some (.tup [.agg (pkC (hpP p)), .bool (decide (¬ p.ttl.toNat ≤ 1))], []) := by
  rw [pcall_go (fn := I11) rfl rfl rfl]
  have hk : E.keep 11 = false := rfl
  have qc := fun g => s43 g p.body (by omega)
  have ht := p.ttl.toNat_lt
  unfold hpP
  by_cases h : p.ttl.toNat ≤ 1
  · have h' : (p.ttl.toNat : Int) ≤ 1 := by omega
    simp only [h, not_true, if_true, decide_false, pkC_zero]
    simp only [pkC_eq]
    simp (disch := first | omega | (simp only [List.length_cons, List.length_nil, List.length_append, List.length_map, List.length_set]; omega) | rfl | (simp only [List.length_cons, List.length_nil, List.length_append, List.length_map, List.length_set, List.length_replicate, List.all_cons, List.all_nil, List.all_append, storable, plainB, Bool.and_self]; done)) only [go_sem, reduceCtorEq, ↓reduceIte, reduceDIte, evI_callP, callPK_some, I11, hk, h']
  · have h' : ¬ (p.ttl.toNat : Int) ≤ 1 := by omega
    have w : IntKind.u8.wrap ((p.ttl.toNat : Int) - 1) = (((UInt8.ofNat (p.ttl.toNat - 1)).toNat : Nat) : Int) := by
      rw [UInt8.toNat_ofNat_of_lt' (by show _ < 256; omega), wu8 (by omega) (by omega)]
      omega
    simp only [h, not_false_eq_true, if_false, decide_true]
    generalize UInt8.ofNat (p.ttl.toNat - 1) = z at *
    simp only [pkC_eq]
    simp (disch := first | omega | (simp only [List.length_cons, List.length_nil, List.length_append, List.length_map, List.length_set]; omega) | rfl | (simp only [List.length_cons, List.length_nil, List.length_append, List.length_map, List.length_set, List.length_replicate, List.all_cons, List.all_nil, List.all_append, storable, plainB, Bool.and_self]; done)) only [go_sem, reduceCtorEq, ↓reduceIte, reduceDIte, evI_callP, callPK_some, I11, hk, h', w, qc]
theorem s12 (p : Pk) : pcall E 12 [.agg (pkC p)] = some (.tup [.agg (pkC (hpP p)), .bool (decide (¬ p.ttl.toNat ≤ 1))], []) := by
  rw [pcall_go (fn := I12) rfl rfl rfl]
  have hk : E.keep 12 = false := rfl
  have ht := p.ttl.toNat_lt
  unfold hpP
  by_cases h : p.ttl.toNat ≤ 1
  · have h' : (p.ttl.toNat : Int) < 2 := by omega
    simp only [h, not_true, if_true, decide_false, pkC_zero]
    simp only [pkC_eq]
    simp (disch := first | omega | (simp only [List.length_cons, List.length_nil, List.length_append, List.length_map, List.length_set]; omega) | rfl | (simp only [List.length_cons, List.length_nil, List.length_append, List.length_map, List.length_set, List.length_replicate, List.all_cons, List.all_nil, List.all_append, storable, plainB, Bool.and_self]; done)) only [go_sem, reduceCtorEq, ↓reduceIte, reduceDIte, evI_callP, callPK_some, I12, hk, h']
  · have h' : ¬ (p.ttl.toNat : Int) < 2 := by omega
    have w : IntKind.u8.wrap ((p.ttl.toNat : Int) - 1) = (((UInt8.ofNat (p.ttl.toNat - 1)).toNat : Nat) : Int) := by
      rw [UInt8.toNat_ofNat_of_lt' (by show _ < 256; omega), wu8 (by omega) (by omega)]
      omega
    simp only [h, not_false_eq_true, if_false, decide_true]
    generalize UInt8.ofNat (p.ttl.toNat - 1) = z at *
    simp only [pkC_eq]
    simp (disch := first | omega | (simp only [List.length_cons, List.length_nil, List.length_append, List.length_map, List.length_set]; omega) | rfl | (simp only [List.length_cons, List.length_nil, List.length_append, List.length_map, List.length_set, List.length_replicate, List.all_cons, List.all_nil, List.all_append, storable, plainB, Bool.and_self]; done)) only [go_sem, reduceCtorEq, ↓reduceIte, reduceDIte, evI_callP, callPK_some, I12, hk, h', w]
theorem s5 (p : Pk) (hb : p.body.length ≤ 1600) : pcall E 5 [.agg (pkC p)] = some (.agg (pkC p), []) := by
  rw [pcall_go (fn := I5) rfl rfl rfl]
  have hk : E.keep 5 = false := rfl
  have qc := fun g => s25 g p.body (by omega)
  simp only [pkC_eq]
  simp (disch := first | omega | (simp only [List.length_cons, List.length_nil, List.length_append, List.length_map, List.length_set]; omega) | rfl | (simp only [List.length_cons, List.length_nil, List.length_append, List.length_map, List.length_set, List.length_replicate, List.all_cons, List.all_nil, List.all_append, storable, plainB, Bool.and_self]; done)) only [go_sem, reduceCtorEq, ↓reduceIte, reduceDIte, evI_callP, callPK_some, I5, hk, qc]
theorem s46 (a b : Int) : pcall E 46 [.agg [.int .u32 a, .int .u16 b]] = some (.agg [.int .u32 a, .int .u16 b], []) := by
  rw [pcall_go (fn := I46) rfl rfl rfl]
  have hk : E.keep 46 = false := rfl
  simp (disch := first | omega | (simp only [List.length_cons, List.length_nil, List.length_append, List.length_map, List.length_set]; omega) | rfl | (simp only [List.length_cons, List.length_nil, List.length_append, List.length_map, List.length_set, List.length_replicate, List.all_cons, List.all_nil, List.all_append, storable, plainB, Bool.and_self]; done)) only [go_sem, reduceCtorEq, ↓reduceIte, reduceDIte, evI_callP, callPK_some, I46, hk]
theorem s14 (e : En) : pcall E 14 [.agg (enC e)] = some (.agg (enC e), []) := by
  rw [pcall_go (fn := I14) rfl rfl rfl]
  have hk : E.keep 14 = false := rfl
  have q := s46
  simp only [enC_eq]
  simp (disch := first | omega | (simp only [List.length_cons, List.length_nil, List.length_append, List.length_map, List.length_set]; omega) | rfl | (simp only [List.length_cons, List.length_nil, List.length_append, List.length_map, List.length_set, List.length_replicate, List.all_cons, List.all_nil, List.all_append, storable, plainB, Bool.and_self]; done)) only [go_sem, reduceCtorEq, ↓reduceIte, reduceDIte, evI_callP, callPK_some, I14, hk, q]
theorem law3 (p : Pk) : pcall E 3 [.agg (pkC p)] = some (.bool true, []) := by
  rw [pcall_go (fn := I3) rfl rfl rfl]
  have hk : E.keep 3 = false := rfl
  by_cases h : 1600 < p.body.length
  · have h' : (1600 : Int) < (p.body.length : Int) := by omega
    simp only [pkC_eq]
    simp (disch := first | omega | (simp only [List.length_cons, List.length_nil, List.length_append, List.length_map, List.length_set]; omega) | rfl | (simp only [List.length_cons, List.length_nil, List.length_append, List.length_map, List.length_set, List.length_replicate, List.all_cons, List.all_nil, List.all_append, storable, plainB, Bool.and_self]; done)) only [go_sem, reduceCtorEq, ↓reduceIte, reduceDIte, evI_callP, callPK_some, I3, hk, s4, h']
  have h' : ¬ (1600 : Int) < (p.body.length : Int) := by omega
  have q1 := s5 p (by omega)
  have q2 := s6 p (by omega)
  have q3 := s7 p (by omega)
  have q4 := s8 p (by omega)
  have q5 := s9 p (by omega)
  have q6 := s10 p (by omega)
  have q7 := s11 p (by omega)
  have q8 := s12 p
  have i1 := is_same (rdE p).1 (rdE p).2
  have i2 := is_same (trE p).1 (trE p).2
  have o1 := s14 (rdN p)
  have o2 := s14 (tnN p)
  have hh : (hpP p).body.length ≤ 1600 := by
    unfold hpP
    split
    · exact Nat.zero_le _
    · show p.body.length ≤ 1600; omega
  have q9 := s6 (hpP p) (by omega)
  have qs := s15 (hpP p) (hpP p)
  have qb := fun g g' => s16 g g' p.body p.body (by omega)
  simp only [decide_true] at qs qb
  generalize rdN p = e1 at *
  generalize tnN p = e2 at *
  generalize hpP p = y at *
  generalize decide (¬ p.ttl.toNat ≤ 1) = hop at *
  have hbe : (hop == hop) = true := beq_self_eq_true hop
  by_cases c1 : (rdE p).2 = 0 <;> by_cases c2 : (trE p).2 = 0
  · rw [c1, errV_zero, faultC_zero] at i1
    rw [c2, errV_zero, faultC_zero] at i2
    rw [c1, errV_zero] at q3
    rw [c1, faultC_zero] at q4
    rw [c2, errV_zero] at q5
    rw [c2, faultC_zero] at q6
    simp only [pkC_eq, enC_eq] at *
    simp (disch := first | omega | (simp only [List.length_cons, List.length_nil, List.length_append, List.length_map, List.length_set]; omega) | rfl | (simp only [List.length_cons, List.length_nil, List.length_append, List.length_map, List.length_set, List.length_replicate, List.all_cons, List.all_nil, List.all_append, storable, plainB, Bool.and_self]; done)) only [go_sem, reduceCtorEq, ↓reduceIte, reduceDIte, evI_callP, callPK_some, I3, hk, s4, h', q1, q2, q3, q4, q5, q6, q7, q8, q9, i1, i2, o1, o2, qs, qb, hbe]
  · rw [c1, errV_zero, faultC_zero] at i1
    rw [errV_pos _ c2, faultC_pos _ c2] at i2
    rw [c1, errV_zero] at q3
    rw [c1, faultC_zero] at q4
    rw [errV_pos _ c2] at q5
    rw [faultC_pos _ c2] at q6
    simp only [pkC_eq, enC_eq] at *
    simp (disch := first | omega | (simp only [List.length_cons, List.length_nil, List.length_append, List.length_map, List.length_set]; omega) | rfl | (simp only [List.length_cons, List.length_nil, List.length_append, List.length_map, List.length_set, List.length_replicate, List.all_cons, List.all_nil, List.all_append, storable, plainB, Bool.and_self]; done)) only [go_sem, reduceCtorEq, ↓reduceIte, reduceDIte, evI_callP, callPK_some, I3, hk, s4, h', q1, q2, q3, q4, q5, q6, q7, q8, q9, i1, i2, o1, o2, qs, qb, hbe]
  · rw [errV_pos _ c1, faultC_pos _ c1] at i1
    rw [c2, errV_zero, faultC_zero] at i2
    rw [errV_pos _ c1] at q3
    rw [faultC_pos _ c1] at q4
    rw [c2, errV_zero] at q5
    rw [c2, faultC_zero] at q6
    simp only [pkC_eq, enC_eq] at *
    simp (disch := first | omega | (simp only [List.length_cons, List.length_nil, List.length_append, List.length_map, List.length_set]; omega) | rfl | (simp only [List.length_cons, List.length_nil, List.length_append, List.length_map, List.length_set, List.length_replicate, List.all_cons, List.all_nil, List.all_append, storable, plainB, Bool.and_self]; done)) only [go_sem, reduceCtorEq, ↓reduceIte, reduceDIte, evI_callP, callPK_some, I3, hk, s4, h', q1, q2, q3, q4, q5, q6, q7, q8, q9, i1, i2, o1, o2, qs, qb, hbe]
  · rw [errV_pos _ c1, faultC_pos _ c1] at i1
    rw [errV_pos _ c2, faultC_pos _ c2] at i2
    rw [errV_pos _ c1] at q3
    rw [faultC_pos _ c1] at q4
    rw [errV_pos _ c2] at q5
    rw [faultC_pos _ c2] at q6
    simp only [pkC_eq, enC_eq] at *
    simp (disch := first | omega | (simp only [List.length_cons, List.length_nil, List.length_append, List.length_map, List.length_set]; omega) | rfl | (simp only [List.length_cons, List.length_nil, List.length_append, List.length_map, List.length_set, List.length_replicate, List.all_cons, List.all_nil, List.all_append, storable, plainB, Bool.and_self]; done)) only [go_sem, reduceCtorEq, ↓reduceIte, reduceDIte, evI_callP, callPK_some, I3, hk, s4, h', q1, q2, q3, q4, q5, q6, q7, q8, q9, i1, i2, o1, o2, qs, qb, hbe]
theorem pkR_arg {x : AV} (h : Arg Tryz.prog 26 x) : ∃ p : Pk, x = .agg (pkC p) := by
  obtain ⟨ys, hl, hy, rfl⟩ := h.struct_inv Tryz.underlying26
  match ys, hl with
  | [y0, y1, y2, y3, y4, y5, y6, y7], _ =>
    obtain ⟨a, rfl⟩ := u8_arg (hy 0 _ y0 rfl rfl)
    obtain ⟨b, rfl⟩ := U16_arg (hy 1 _ y1 rfl rfl)
    obtain ⟨c, rfl⟩ := bool_arg (hy 2 _ y2 rfl rfl)
    obtain ⟨d, rfl⟩ := u8_arg (hy 3 _ y3 rfl rfl)
    obtain ⟨e, rfl⟩ := u8_arg (hy 4 _ y4 rfl rfl)
    obtain ⟨f, rfl⟩ := U32_arg (hy 5 _ y5 rfl rfl)
    obtain ⟨g, rfl⟩ := U32_arg (hy 6 _ y6 rfl rfl)
    obtain ⟨l, rfl, hl⟩ := bytes_arg (hy 7 _ y7 rfl rfl)
    exact ⟨⟨a, b, c, d, e, f, g, l⟩, rfl⟩
theorem end3 (xs : List AV) (hl : xs.length = [26].length) (h : ∀ (j : Nat) t x, ([26] : List TypeId)[j]? = some t → xs[j]? = some x → Arg Tryz.prog t x) : pcall E 3 xs = some (.bool true, []) := by
  match xs, hl with
  | [x0], _ =>
    obtain ⟨p, rfl⟩ := pkR_arg (h 0 _ x0 rfl rfl)
    exact law3 p
end Go.Fw.Wd
