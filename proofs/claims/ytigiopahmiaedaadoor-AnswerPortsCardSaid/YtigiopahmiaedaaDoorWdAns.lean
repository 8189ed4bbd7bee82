/-
  What the gateway says itself: the program's functions. Conditions: stated at each.
-/
import Derived.Test.YtigiopahmiaedaaDoorWdIcmr
import Derived.Test.YtigiopahmiaedaaDoorWdUdpr
set_option linter.unusedVariables false
set_option linter.unusedSimpArgs false
namespace Go.Fw.Wd
open Go.Proofs Code_

/-- A single host's address. -/
def sngl (x : UInt32) : Bool := decide (1 ≤ x.toNat / 16777216) && (decide (x.toNat / 16777216 ≤ 223) && !decide (x.toNat / 16777216 = 127))
theorem shr24 (x : UInt32) : shiftI .shr .u32 (x.toNat : Int) 24 = some (.int .u32 ((x.toNat / 16777216 : Nat) : Int)) := by
  simp [shiftI, IntKind.bits]
  rw [Int.fdiv_eq_ediv_of_nonneg _ (by omega)]
theorem s22 (x : UInt32) : pcall E 22 [.int .u32 (x.toNat : Int)] = some (.bool (sngl x), []) := by
  rw [pcall_go (fn := I22) rfl rfl rfl]
  have hk : E.keep 22 = false := rfl
  have hs := shr24 x
  unfold sngl
  generalize x.toNat / 16777216 = m at *
  by_cases h1 : 1 ≤ m
  case neg =>
    have h1' : ¬ (1 : Int) ≤ (m : Int) := by omega
    simp (disch := first | omega | (simp only [List.length_cons, List.length_nil, List.length_append, List.length_map, List.length_set]; omega) | rfl | (simp only [List.length_cons, List.length_nil, List.length_append, List.length_map, List.length_set, List.length_replicate, List.all_cons, List.all_nil, List.all_append, storable, plainB, Bool.and_self]; done)) only [go_sem, reduceCtorEq, ↓reduceIte, reduceDIte, evI_callP, callPK_some, I22, hk, hs, h1, h1', decide_false, Bool.false_and]
  have h1' : (1 : Int) ≤ (m : Int) := by omega
  by_cases h2 : m ≤ 223
  case neg =>
    have h2' : ¬ (m : Int) ≤ 223 := by omega
    simp (disch := first | omega | (simp only [List.length_cons, List.length_nil, List.length_append, List.length_map, List.length_set]; omega) | rfl | (simp only [List.length_cons, List.length_nil, List.length_append, List.length_map, List.length_set, List.length_replicate, List.all_cons, List.all_nil, List.all_append, storable, plainB, Bool.and_self]; done)) only [go_sem, reduceCtorEq, ↓reduceIte, reduceDIte, evI_callP, callPK_some, I22, hk, hs, h1, h1', h2, h2', decide_false, decide_true, Bool.false_and, Bool.true_and]
  have h2' : (m : Int) ≤ 223 := by omega
  by_cases h3 : m = 127
  · have h3' : (m : Int) = 127 := by omega
    simp (disch := first | omega | (simp only [List.length_cons, List.length_nil, List.length_append, List.length_map, List.length_set]; omega) | rfl | (simp only [List.length_cons, List.length_nil, List.length_append, List.length_map, List.length_set, List.length_replicate, List.all_cons, List.all_nil, List.all_append, storable, plainB, Bool.and_self]; done)) only [go_sem, reduceCtorEq, ↓reduceIte, reduceDIte, evI_callP, callPK_some, I22, hk, hs, h1, h1', h2, h2', h3, h3', decide_false, decide_true, Bool.true_and, Bool.not_true]
  · have h3' : ¬ (m : Int) = 127 := by omega
    simp (disch := first | omega | (simp only [List.length_cons, List.length_nil, List.length_append, List.length_map, List.length_set]; omega) | rfl | (simp only [List.length_cons, List.length_nil, List.length_append, List.length_map, List.length_set, List.length_replicate, List.all_cons, List.all_nil, List.all_append, storable, plainB, Bool.and_self]; done)) only [go_sem, reduceCtorEq, ↓reduceIte, reduceDIte, evI_callP, callPK_some, I22, hk, hs, h1, h1', h2, h2', h3, h3', decide_false, decide_true, Bool.true_and, Bool.not_false]
/-- May there be an error about a packet? -/
def blm (p : Pk) : Bool := sngl p.fr && (sngl p.to && (if p.proto.toNat = 1 then decide ((icE p.body).2 = 0) && !decide (clsN (icM p.body).ty = 1) else true))
theorem s31 (p : Pk) (hb : p.body.length ≤ 1048576) : pcall E 31 [.agg (pkC p)] = some (.bool (blm p), []) := by
  rw [pcall_go (fn := I31) rfl rfl rfl]
  have hk : E.keep 31 = false := rfl
  have q1 := s22 p.fr
  have q2 := s22 p.to
  have q3 := fun g => s20 g p.body hb
  have q4 := s23 (icM p.body)
  unfold blm
  generalize sngl p.fr = s1 at *
  generalize sngl p.to = s2 at *
  simp only [mgC_eq] at q3 q4
  simp only [pkC_eq]
  cases s1
  case false => simp (disch := first | omega | (simp only [List.length_cons, List.length_nil, List.length_append, List.length_map, List.length_set]; omega) | rfl | (simp only [List.length_cons, List.length_nil, List.length_append, List.length_map, List.length_set, List.length_replicate, List.all_cons, List.all_nil, List.all_append, storable, plainB, Bool.and_self]; done)) only [go_sem, reduceCtorEq, ↓reduceIte, reduceDIte, evI_callP, callPK_some, I31, hk, q1, Bool.false_and]
  cases s2
  case false => simp (disch := first | omega | (simp only [List.length_cons, List.length_nil, List.length_append, List.length_map, List.length_set]; omega) | rfl | (simp only [List.length_cons, List.length_nil, List.length_append, List.length_map, List.length_set, List.length_replicate, List.all_cons, List.all_nil, List.all_append, storable, plainB, Bool.and_self]; done)) only [go_sem, reduceCtorEq, ↓reduceIte, reduceDIte, evI_callP, callPK_some, I31, hk, q1, q2, Bool.false_and, Bool.true_and]
  by_cases hp : p.proto.toNat = 1
  case neg =>
    have hp' : ¬ (p.proto.toNat : Int) = 1 := by omega
    simp (disch := first | omega | (simp only [List.length_cons, List.length_nil, List.length_append, List.length_map, List.length_set]; omega) | rfl | (simp only [List.length_cons, List.length_nil, List.length_append, List.length_map, List.length_set, List.length_replicate, List.all_cons, List.all_nil, List.all_append, storable, plainB, Bool.and_self]; done)) only [go_sem, reduceCtorEq, ↓reduceIte, reduceDIte, evI_callP, callPK_some, I31, hk, q1, q2, hp, hp', Bool.true_and]
  have hp' : (p.proto.toNat : Int) = 1 := by omega
  by_cases h : (icE p.body).2 = 0
  case neg =>
    rw [errV_pos _ h] at q3
    simp (disch := first | omega | (simp only [List.length_cons, List.length_nil, List.length_append, List.length_map, List.length_set]; omega) | rfl | (simp only [List.length_cons, List.length_nil, List.length_append, List.length_map, List.length_set, List.length_replicate, List.all_cons, List.all_nil, List.all_append, storable, plainB, Bool.and_self]; done)) only [go_sem, reduceCtorEq, ↓reduceIte, reduceDIte, evI_callP, callPK_some, I31, hk, q1, q2, q3, hp, hp', h, Bool.true_and, decide_false, Bool.false_and]
  rw [h, errV_zero] at q3
  generalize icM p.body = m at *
  generalize clsN m.ty = c at *
  by_cases hc : c = 1
  · subst hc
    simp (disch := first | omega | (simp only [List.length_cons, List.length_nil, List.length_append, List.length_map, List.length_set]; omega) | rfl | (simp only [List.length_cons, List.length_nil, List.length_append, List.length_map, List.length_set, List.length_replicate, List.all_cons, List.all_nil, List.all_append, storable, plainB, Bool.and_self]; done)) only [go_sem, reduceCtorEq, ↓reduceIte, reduceDIte, evI_callP, callPK_some, I31, hk, q1, q2, q3, q4, hp, hp', h, Bool.true_and, decide_true, Bool.not_true]
  · simp (disch := first | omega | (simp only [List.length_cons, List.length_nil, List.length_append, List.length_map, List.length_set]; omega) | rfl | (simp only [List.length_cons, List.length_nil, List.length_append, List.length_map, List.length_set, List.length_replicate, List.all_cons, List.all_nil, List.all_append, storable, plainB, Bool.and_self]; done)) only [go_sem, reduceCtorEq, ↓reduceIte, reduceDIte, evI_callP, callPK_some, I31, hk, q1, q2, q3, q4, hp, hp', h, hc, Bool.true_and, decide_true, decide_false, Bool.not_false]
/-- A packet of the gateway's. -/
def pkM (own to : UInt32) (m : Mg) : Pk := ⟨0, 0, false, 64, 1, own, to, icB m⟩
theorem pkM_eq (own to : UInt32) (m : Mg) : pkC (pkM own to m) = [.int .u8 0, .int .u16 0, .bool false, .int .u8 64, .int .u8 1, .int .u32 (own.toNat : Int), .int .u32 (to.toNat : Int), bs false (icB m)] := rfl
theorem s32 (own to : UInt32) (m : Mg) (hb : m.body.length ≤ 1472) : pcall E 32 [.int .u32 (own.toNat : Int), .int .u32 (to.toNat : Int), .agg (mgC m)] = some (.agg (pkC (pkM own to m)), []) := by
  rw [pcall_go (fn := I32) rfl rfl rfl]
  have hk : E.keep 32 = false := rfl
  have q := s19 m hb
  rw [pkM_eq]
  generalize icB m = B at *
  simp only [mgC_eq] at q ⊢
  simp (disch := first | omega | (simp only [List.length_cons, List.length_nil, List.length_append, List.length_map, List.length_set]; omega) | rfl | (simp only [List.length_cons, List.length_nil, List.length_append, List.length_map, List.length_set, List.length_replicate, List.all_cons, List.all_nil, List.all_append, storable, plainB, Bool.and_self]; done)) only [go_sem, reduceCtorEq, ↓reduceIte, reduceDIte, evI_callP, callPK_some, I32, hk, q]
theorem mgErr_len (kd cd : UInt8) (p : Pk) : (mgErr kd cd p).body.length ≤ 28 := by
  show (hdB p p.body.length ++ p.body.take 8).length ≤ _
  rw [List.length_append, hdB_len, List.length_take]
  omega
def erP (own : UInt32) (kd cd : UInt8) (p : Pk) : Pk := if blm p = true then pkM own p.fr (mgErr kd cd p) else Pk.zero
theorem s12 (own : UInt32) (kd cd : UInt8) (p : Pk) (hb : p.body.length ≤ 65515) : pcall E 12 [.int .u32 (own.toNat : Int), .int .u8 (kd.toNat : Int), .int .u8 (cd.toNat : Int), .agg (pkC p)] = some (.tup [.agg (pkC (erP own kd cd p)), .bool (blm p)], []) := by
  rw [pcall_go (fn := I12) rfl rfl rfl]
  have hk : E.keep 12 = false := rfl
  have q1 := s31 p (by omega)
  have q2 := s33 kd cd p hb
  have q3 := s32 own p.fr (mgErr kd cd p) (by have := mgErr_len kd cd p; omega)
  unfold erP
  generalize blm p = bl at *
  generalize mgErr kd cd p = me at *
  rw [pkM_eq] at q3
  cases bl
  · simp only [Bool.false_eq_true, if_false, pkC_zero]
    simp only [pkC_eq] at q1 ⊢
    simp (disch := first | omega | (simp only [List.length_cons, List.length_nil, List.length_append, List.length_map, List.length_set]; omega) | rfl | (simp only [List.length_cons, List.length_nil, List.length_append, List.length_map, List.length_set, List.length_replicate, List.all_cons, List.all_nil, List.all_append, storable, plainB, Bool.and_self]; done)) only [go_sem, reduceCtorEq, ↓reduceIte, reduceDIte, evI_callP, callPK_some, I12, hk, q1]
  · simp only [if_true, pkM_eq]
    generalize icB me = B at *
    simp only [pkC_eq, mgC_eq] at q1 q2 q3 ⊢
    simp (disch := first | omega | (simp only [List.length_cons, List.length_nil, List.length_append, List.length_map, List.length_set]; omega) | rfl | (simp only [List.length_cons, List.length_nil, List.length_append, List.length_map, List.length_set, List.length_replicate, List.all_cons, List.all_nil, List.all_append, storable, plainB, Bool.and_self]; done)) only [go_sem, reduceCtorEq, ↓reduceIte, reduceDIte, evI_callP, callPK_some, I12, hk, q1, q2, q3]
/-- An answer: its kind, its reason, its packet. -/
def an (x : Int × Int × Pk) : AV := .agg (.int .i64 x.1 :: .int .i64 x.2.1 :: pkC x.2.2)
theorem an_zero (k r : Int) : an (k, r, Pk.zero) = .agg [.int .i64 k, .int .i64 r, .int .u8 0, .int .u16 0, .bool false, .int .u8 0, .int .u8 0, .int .u32 0, .int .u32 0, .rs false 1 []] := rfl
theorem an_pk (k r : Int) (own to : UInt32) (m : Mg) : an (k, r, pkM own to m) = .agg [.int .i64 k, .int .i64 r, .int .u8 0, .int .u16 0, .bool false, .int .u8 64, .int .u8 1, .int .u32 (own.toNat : Int), .int .u32 (to.toNat : Int), bs false (icB m)] := rfl
theorem s41 (r : Int) : pcall E 41 [.int .i64 r] = some (an (0, r, Pk.zero), []) := by
  rw [pcall_go (fn := I41) rfl rfl rfl]
  have hk : E.keep 41 = false := rfl
  rw [an_zero]
  simp (disch := first | omega | (simp only [List.length_cons, List.length_nil, List.length_append, List.length_map, List.length_set]; omega) | rfl | (simp only [List.length_cons, List.length_nil, List.length_append, List.length_map, List.length_set, List.length_replicate, List.all_cons, List.all_nil, List.all_append, storable, plainB, Bool.and_self]; done)) only [go_sem, reduceCtorEq, ↓reduceIte, reduceDIte, evI_callP, callPK_some, I41, hk]
/-- An echo's reply. -/
def Mg.rep (m : Mg) : Mg := ⟨0, m.co, m.r0, m.r1, m.r2, m.r3, m.body⟩
theorem rep_eq (m : Mg) : mgC m.rep = [.int .u8 0, .int .u8 (m.co.toNat : Int), .int .u8 (m.r0.toNat : Int), .int .u8 (m.r1.toNat : Int), .int .u8 (m.r2.toNat : Int), .int .u8 (m.r3.toNat : Int), bs false m.body] := rfl
def ecA (own : UInt32) (p : Pk) : Int × Int × Pk :=
  if ¬ (icE p.body).2 = 0 then (0, (icE p.body).1, Pk.zero)
  else if (icM p.body).ty.toNat = 8 ∧ (icM p.body).co.toNat = 0 ∧ p.to.toNat = own.toNat then (1, 0, pkM own p.fr (icM p.body).rep) else (0, 17, Pk.zero)
theorem icM_len (b : List UInt8) : (icM b).body.length ≤ 1472 := by
  unfold icM
  split
  · next h =>
    obtain ⟨h8, h14, _⟩ := ic_ok h
    show (b.drop 8).length ≤ _
    rw [List.length_drop]
    omega
  · show ([] : List UInt8).length ≤ _
    simp
theorem s39 (own : UInt32) (p : Pk) (hb : p.body.length ≤ 1048576) : pcall E 39 [.int .u32 (own.toNat : Int), .agg (pkC p)] = some (an (ecA own p), []) := by
  rw [pcall_go (fn := I39) rfl rfl rfl]
  have hk : E.keep 39 = false := rfl
  have q1 := fun g => s20 g p.body hb
  have q2 := fun g => s58 g (icE p.body).1 (icE p.body).2
  have q3 := s41 (icE p.body).1
  have q4 := s41 17
  have hl := icM_len p.body
  have q5 := s32 own p.fr (icM p.body).rep hl
  unfold ecA
  by_cases h : (icE p.body).2 = 0
  case neg =>
    rw [if_pos h]
    rw [errV_pos _ h] at q1
    generalize icM p.body = m at *
    generalize (icE p.body).1 = r at *
    generalize (icE p.body).2 = n at *
    simp only [an_zero] at q3 q4 ⊢
    simp only [mgC_eq] at q1
    simp only [pkC_eq]
    simp (disch := first | omega | (simp only [List.length_cons, List.length_nil, List.length_append, List.length_map, List.length_set]; omega) | rfl | (simp only [List.length_cons, List.length_nil, List.length_append, List.length_map, List.length_set, List.length_replicate, List.all_cons, List.all_nil, List.all_append, storable, plainB, Bool.and_self]; done)) only [go_sem, reduceCtorEq, ↓reduceIte, reduceDIte, evI_callP, callPK_some, I39, hk, q1, q2, q3]
  rw [if_neg (by simp [h])]
  rw [h, errV_zero] at q1
  generalize icM p.body = m at *
  simp only [an_zero] at q4
  by_cases h8 : m.ty.toNat = 8
  case neg =>
    have h8' : ¬ (m.ty.toNat : Int) = 8 := by omega
    rw [if_neg (fun c => h8 c.1)]
    simp only [an_zero]
    simp only [mgC_eq] at q1
    simp only [pkC_eq]
    simp (disch := first | omega | (simp only [List.length_cons, List.length_nil, List.length_append, List.length_map, List.length_set]; omega) | rfl | (simp only [List.length_cons, List.length_nil, List.length_append, List.length_map, List.length_set, List.length_replicate, List.all_cons, List.all_nil, List.all_append, storable, plainB, Bool.and_self]; done)) only [go_sem, reduceCtorEq, ↓reduceIte, reduceDIte, evI_callP, callPK_some, I39, hk, q1, q4, h8']
  have h8' : (m.ty.toNat : Int) = 8 := by omega
  by_cases h0 : m.co.toNat = 0
  case neg =>
    have h0' : ¬ (m.co.toNat : Int) = 0 := by omega
    rw [if_neg (fun c => h0 c.2.1)]
    simp only [an_zero]
    simp only [mgC_eq] at q1
    simp only [pkC_eq]
    simp (disch := first | omega | (simp only [List.length_cons, List.length_nil, List.length_append, List.length_map, List.length_set]; omega) | rfl | (simp only [List.length_cons, List.length_nil, List.length_append, List.length_map, List.length_set, List.length_replicate, List.all_cons, List.all_nil, List.all_append, storable, plainB, Bool.and_self]; done)) only [go_sem, reduceCtorEq, ↓reduceIte, reduceDIte, evI_callP, callPK_some, I39, hk, q1, q4, h8', h0']
  have h0' : (m.co.toNat : Int) = 0 := by omega
  by_cases ho : p.to.toNat = own.toNat
  case neg =>
    have ho' : ¬ (p.to.toNat : Int) = (own.toNat : Int) := by omega
    rw [if_neg (fun c => ho c.2.2)]
    simp only [an_zero]
    simp only [mgC_eq] at q1
    simp only [pkC_eq]
    simp (disch := first | omega | (simp only [List.length_cons, List.length_nil, List.length_append, List.length_map, List.length_set]; omega) | rfl | (simp only [List.length_cons, List.length_nil, List.length_append, List.length_map, List.length_set, List.length_replicate, List.all_cons, List.all_nil, List.all_append, storable, plainB, Bool.and_self]; done)) only [go_sem, reduceCtorEq, ↓reduceIte, reduceDIte, evI_callP, callPK_some, I39, hk, q1, q4, h8', h0', ho']
  have ho' : (p.to.toNat : Int) = (own.toNat : Int) := by omega
  rw [if_pos ⟨h8, h0, ho⟩, an_pk]
  rw [pkM_eq, rep_eq] at q5
  generalize icB m.rep = B at *
  simp only [mgC_eq] at q1
  simp only [pkC_eq]
  simp only [h0'] at q1 q5
  simp (disch := first | omega | (simp only [List.length_cons, List.length_nil, List.length_append, List.length_map, List.length_set]; omega) | rfl | (simp only [List.length_cons, List.length_nil, List.length_append, List.length_map, List.length_set, List.length_replicate, List.all_cons, List.all_nil, List.all_append, storable, plainB, Bool.and_self]; done)) only [go_sem, reduceCtorEq, ↓reduceIte, reduceDIte, evI_callP, callPK_some, I39, hk, q1, q5, h8', ho', stR_cells]
def poA (side : Int) (own : UInt32) (p : Pk) : Int × Int × Pk :=
  if ¬ udpF p.body p.fr p.to = 0 then (0, udpR p.body, Pk.zero)
  else if side = 0 ∧ n2 p.body 2 = 67 then (2, 0, Pk.zero)
  else if ¬ p.to.toNat = own.toNat then (0, 17, Pk.zero)
  else if blm p = true then (1, 0, pkM own p.fr (mgErr 3 3 p)) else (0, 17, Pk.zero)
def loA (side : Int) (own : UInt32) (p : Pk) : Int × Int × Pk := if p.proto.toNat = 1 then ecA own p else if p.proto.toNat = 17 then poA side own p else (0, 17, Pk.zero)
end Go.Fw.Wd
