/-
  A packet's ends and an error's inner ends: what the program's functions answer. Conditions: stated at each.
-/
import Derived.Test.YtigiopahmiaedaaDoorWdIcmr
set_option linter.unusedVariables false
set_option linter.unusedSimpArgs false
namespace Go.Fw.Wd
open Go.Proofs Code_

/-- Ends. -/
structure En where
  pr : UInt8
  fi : UInt32
  fp : Nat
  ti : UInt32
  tp : Nat
  fl : UInt8
  kd : UInt8
def En.zero : En := ⟨0, 0, 0, 0, 0, 0, 0⟩
def enC (e : En) : List AV := [.int .u8 (e.pr.toNat : Int), .int .u32 (e.fi.toNat : Int), .int .u16 (e.fp : Int), .int .u32 (e.ti.toNat : Int), .int .u16 (e.tp : Int), .int .u8 (e.fl.toNat : Int), .int .u8 (e.kd.toNat : Int)]
theorem enC_eq (e : En) : enC e = [.int .u8 (e.pr.toNat : Int), .int .u32 (e.fi.toNat : Int), .int .u16 (e.fp : Int), .int .u32 (e.ti.toNat : Int), .int .u16 (e.tp : Int), .int .u8 (e.fl.toNat : Int), .int .u8 (e.kd.toNat : Int)] := rfl
theorem enC_zero : enC En.zero = [.int .u8 0, .int .u32 0, .int .u16 0, .int .u32 0, .int .u16 0, .int .u8 0, .int .u8 0] := rfl
/-- A packet's ends with ports. -/
def btw (p : Pk) (a b : Nat) : En := ⟨p.proto, p.fr, a, p.to, b, 0, 0⟩
theorem s81 (p : Pk) (a b : Nat) : pcall E 81 [.agg (pkC p), .int .u16 (a : Int), .int .u16 (b : Int)] = some (.agg (enC (btw p a b)), []) := by
  rw [pcall_go (fn := I81) rfl rfl rfl]
  have hk : E.keep 81 = false := rfl
  have z0 : ((UInt8.toNat 0 : Nat) : Int) = 0 := rfl
  simp only [pkC_eq, enC_eq, btw, z0]
  simp (disch := first | omega | (simp only [List.length_cons, List.length_nil, List.length_append, List.length_map, List.length_set]; omega) | rfl | (simp only [List.length_cons, List.length_nil, List.length_append, List.length_map, List.length_set, List.length_replicate, List.all_cons, List.all_nil, List.all_append, storable, plainB, Bool.and_self]; done)) only [go_sem, reduceCtorEq, ↓reduceIte, reduceDIte, evI_callP, callPK_some, I81, hk]
theorem s84 : pcall E 84 [] = some (errV 16 14, []) := by
  rw [pcall_go (fn := I84) rfl rfl rfl]
  have hk : E.keep 84 = false := rfl
  have f := s44 16 14 (by omega) (by omega)
  rw [errV_pos _ (by omega)] at f ⊢
  simp (disch := first | omega | (simp only [List.length_cons, List.length_nil, List.length_append, List.length_map, List.length_set]; omega) | rfl | (simp only [List.length_cons, List.length_nil, List.length_append, List.length_map, List.length_set, List.length_replicate, List.all_cons, List.all_nil, List.all_append, storable, plainB, Bool.and_self]; done)) only [go_sem, reduceCtorEq, ↓reduceIte, reduceDIte, evI_callP, callPK_some, I84, hk, f]
/-- The ends of a message of a type with a mark. -/
def qrE (k : UInt8) : Int × Int := if k.toNat = 8 ∨ k.toNat = 0 then (0, 0) else (16, 14)
def qrN (p : Pk) (k : UInt8) (m : Nat) : En := if k.toNat = 8 then ⟨p.proto, p.fr, m, p.to, 0, 0, k⟩ else if k.toNat = 0 then ⟨p.proto, p.fr, 0, p.to, m, 0, k⟩ else En.zero
theorem s82 (p : Pk) (k : UInt8) (m : Nat) : pcall E 82 [.agg (pkC p), .int .u8 (k.toNat : Int), .int .u16 (m : Int)] = some (.tup [.agg (enC (qrN p k m)), errV (qrE k).1 (qrE k).2], []) := by
  rw [pcall_go (fn := I82) rfl rfl rfl]
  have hk : E.keep 82 = false := rfl
  have q := s81 p
  have f := s84
  rw [errV_pos _ (by omega)] at f
  have z0 : ((UInt8.toNat 0 : Nat) : Int) = 0 := rfl
  simp only [enC_eq, btw, z0] at q
  unfold qrN qrE
  by_cases h8 : k.toNat = 8
  · have h8' : (k.toNat : Int) = 8 := by omega
    have q0 := q m 0
    simp only [Int.natCast_zero] at q0
    simp only [h8, true_or, if_true, enC_eq, errV_zero]
    simp only [h8', pkC_eq] at q0 ⊢
    simp (disch := first | omega | (simp only [List.length_cons, List.length_nil, List.length_append, List.length_map, List.length_set]; omega) | rfl | (simp only [List.length_cons, List.length_nil, List.length_append, List.length_map, List.length_set, List.length_replicate, List.all_cons, List.all_nil, List.all_append, storable, plainB, Bool.and_self]; done)) only [go_sem, reduceCtorEq, ↓reduceIte, reduceDIte, evI_callP, callPK_some, I82, hk, q0, h8', z0, Int.natCast_zero, Int.cast_ofNat_Int]
  have h8' : ¬ (k.toNat : Int) = 8 := by omega
  by_cases h0 : k.toNat = 0
  · have h0' : (k.toNat : Int) = 0 := by omega
    have q0 := q 0 m
    simp only [Int.natCast_zero] at q0
    simp only [h0, Nat.reduceEqDiff, false_or, if_true, if_false, enC_eq, errV_zero]
    simp only [h0', pkC_eq] at q0 ⊢
    simp (disch := first | omega | (simp only [List.length_cons, List.length_nil, List.length_append, List.length_map, List.length_set]; omega) | rfl | (simp only [List.length_cons, List.length_nil, List.length_append, List.length_map, List.length_set, List.length_replicate, List.all_cons, List.all_nil, List.all_append, storable, plainB, Bool.and_self]; done)) only [go_sem, reduceCtorEq, ↓reduceIte, reduceDIte, evI_callP, callPK_some, I82, hk, q0, h0', z0, Int.natCast_zero, Int.cast_ofNat_Int]
  have h0' : ¬ (k.toNat : Int) = 0 := by omega
  simp only [h8, h0, or_false, if_false, enC_zero]
  rw [errV_pos _ (by omega)]
  simp only [pkC_eq]
  simp (disch := first | omega | (simp only [List.length_cons, List.length_nil, List.length_append, List.length_map, List.length_set]; omega) | rfl | (simp only [List.length_cons, List.length_nil, List.length_append, List.length_map, List.length_set, List.length_replicate, List.all_cons, List.all_nil, List.all_append, storable, plainB, Bool.and_self]; done)) only [go_sem, reduceCtorEq, ↓reduceIte, reduceDIte, evI_callP, callPK_some, I82, hk, h8', h0', f]
theorem icp_all (g : Bool) (b : List UInt8) (hb : b.length ≤ 140737488355328) : pcall E 20 [bs g b] = some (.tup [.agg (mgC (icM b)), errV (icE b).1 (icE b).2], []) := by
  rcases Nat.lt_or_ge 1048576 b.length with h | h
  · rw [pcall_go (fn := I20) rfl rfl rfl]
    have hk : E.keep 20 = false := rfl
    have f11 := s44 1 11 (by omega) (by omega)
    rw [errV_pos _ (by omega)] at f11
    unfold icM icE
    have h1 : ¬ b.length < 8 := by omega
    have h1' : ¬ (b.length : Int) < 8 := by omega
    have h2 : 1480 < b.length := by omega
    have h2' : (1480 : Int) < (b.length : Int) := by omega
    simp only [h1, h2, if_true, Int.reduceEq, if_false, mgC_zero]
    rw [errV_pos _ (by omega)]
    simp (disch := first | omega | (simp only [List.length_cons, List.length_nil, List.length_append, List.length_map, List.length_set]; omega) | rfl | (simp only [List.length_cons, List.length_nil, List.length_append, List.length_map, List.length_set, List.length_replicate, List.all_cons, List.all_nil, List.all_append, storable, plainB, Bool.and_self]; done)) only [go_sem, reduceCtorEq, ↓reduceIte, reduceDIte, evI_callP, callPK_some, I20, hk, h1', h2', f11]
  · exact s20 g b h
theorem icM_len2 (b : List UInt8) : (icM b).body.length ≤ 1472 := by
  unfold icM
  split
  · have := ic_ok (by assumption)
    simp only [icR, List.length_drop]
    omega
  · exact Nat.zero_le _
theorem errV_nil_iff {r e : Int} (h : ¬ e = 0) : errV r e = .iface 125 (.rp false (.agg [.int .i64 r, .iface 79 (.int .i64 e)])) := errV_pos r h
/-- An error's message, and what it embeds. -/
def emE (p : Pk) : Int × Int := if ¬ p.proto.toNat = 1 then (16, 14) else if ¬ (icE p.body).2 = 0 then icE p.body else inE (icM p.body)
def emM (p : Pk) : Mg := if ¬ p.proto.toNat = 1 then Mg.zero else icM p.body
def emP (p : Pk) : Pk := if ¬ p.proto.toNat = 1 then Pk.zero else if ¬ (icE p.body).2 = 0 then Pk.zero else inP (icM p.body)
theorem s60 (p : Pk) (hb : p.body.length ≤ 140737488355328) : pcall E 60 [.agg (pkC p)] = some (.tup [.agg (mgC (emM p)), .agg (pkC (emP p)), errV (emE p).1 (emE p).2], []) := by
  rw [pcall_go (fn := I60) rfl rfl rfl]
  have hk : E.keep 60 = false := rfl
  have f := s84
  rw [errV_pos _ (by omega)] at f
  unfold emM emP emE
  by_cases h1 : p.proto.toNat = 1
  case neg =>
    have h1' : ¬ (p.proto.toNat : Int) = 1 := by omega
    simp only [h1, not_false_eq_true, if_true, mgC_zero, pkC_zero]
    rw [errV_pos _ (by omega)]
    simp only [pkC_eq]
    simp (disch := first | omega | (simp only [List.length_cons, List.length_nil, List.length_append, List.length_map, List.length_set]; omega) | rfl | (simp only [List.length_cons, List.length_nil, List.length_append, List.length_map, List.length_set, List.length_replicate, List.all_cons, List.all_nil, List.all_append, storable, plainB, Bool.and_self]; done)) only [go_sem, reduceCtorEq, ↓reduceIte, reduceDIte, evI_callP, callPK_some, I60, hk, h1', f, Bool.not_false]
  have h1' : (p.proto.toNat : Int) = 1 := by omega
  have qp := fun g => icp_all g p.body hb
  simp only [h1, not_true, if_false]
  by_cases h2 : (icE p.body).2 = 0
  case neg =>
    simp only [h2, not_false_eq_true, if_true]
    rw [show icM p.body = Mg.zero by unfold icM; rw [if_neg h2]] at qp ⊢
    rw [errV_pos _ h2] at qp ⊢
    generalize (icE p.body).1 = r at *
    generalize (icE p.body).2 = n at *
    simp only [mgC_zero] at qp
    simp only [pkC_zero, mgC_zero]
    simp only [pkC_eq]
    simp (disch := first | omega | (simp only [List.length_cons, List.length_nil, List.length_append, List.length_map, List.length_set]; omega) | rfl | (simp only [List.length_cons, List.length_nil, List.length_append, List.length_map, List.length_set, List.length_replicate, List.all_cons, List.all_nil, List.all_append, storable, plainB, Bool.and_self]; done)) only [go_sem, reduceCtorEq, ↓reduceIte, reduceDIte, evI_callP, callPK_some, I60, hk, h1', qp]
  rw [h2, errV_zero] at qp
  simp only [h2, not_true, if_false]
  have qi := s25 (icM p.body) (by have := icM_len2 p.body; omega)
  generalize icM p.body = m at *
  by_cases h3 : (inE m).2 = 0
  · rw [h3, errV_zero] at qi ⊢
    generalize inP m = q at *
    simp only [pkC_eq, mgC_eq] at qp qi ⊢
    simp (disch := first | omega | (simp only [List.length_cons, List.length_nil, List.length_append, List.length_map, List.length_set]; omega) | rfl | (simp only [List.length_cons, List.length_nil, List.length_append, List.length_map, List.length_set, List.length_replicate, List.all_cons, List.all_nil, List.all_append, storable, plainB, Bool.and_self]; done)) only [go_sem, reduceCtorEq, ↓reduceIte, reduceDIte, evI_callP, callPK_some, I60, hk, h1', qp, qi]
  · rw [errV_pos _ h3] at qi ⊢
    generalize inP m = q at *
    generalize (inE m).1 = r at *
    generalize (inE m).2 = n at *
    simp only [pkC_eq, mgC_eq] at qp qi ⊢
    simp (disch := first | omega | (simp only [List.length_cons, List.length_nil, List.length_append, List.length_map, List.length_set]; omega) | rfl | (simp only [List.length_cons, List.length_nil, List.length_append, List.length_map, List.length_set, List.length_replicate, List.all_cons, List.all_nil, List.all_append, storable, plainB, Bool.and_self]; done)) only [go_sem, reduceCtorEq, ↓reduceIte, reduceDIte, evI_callP, callPK_some, I60, hk, h1', qp, qi]

/-- The ends of what is embedded. -/
def ieE (q : Pk) : Int × Int := if q.proto.toNat = 6 ∨ q.proto.toNat = 17 then (0, 0) else if q.proto.toNat = 1 then qrE (nth q.body 0) else (16, 14)
def ieN (q : Pk) : En := if q.proto.toNat = 6 ∨ q.proto.toNat = 17 then btw q (n2 q.body 0) (n2 q.body 2) else if q.proto.toNat = 1 then qrN q (nth q.body 0) (n2 q.body 4) else En.zero
theorem s92 (g : Bool) (q : Pk) (i : Nat) (h : i + 2 ≤ q.body.length) (hb : q.body.length ≤ 140737488355328) : pcall E 92 [.int .i64 (i : Int), .rp g (.agg (pkC q))] = some (.int .u16 ((n2 q.body i : Nat) : Int), []) := by
  rw [pcall_go (fn := I92) rfl rfl rfl]
  have hk : E.keep 92 = false := rfl
  have qa := fun g => at2 g q.body hb i h
  have hl := n2_lt q.body i
  have w : IntKind.u16.wrap ((n2 q.body i : Nat) : Int) = ((n2 q.body i : Nat) : Int) := wu16 (by omega) (by omega)
  generalize n2 q.body i = n at *
  simp only [pkC_eq]
  simp (disch := first | omega | (simp only [List.length_cons, List.length_nil, List.length_append, List.length_map, List.length_set]; omega) | rfl | (simp only [List.length_cons, List.length_nil, List.length_append, List.length_map, List.length_set, List.length_replicate, List.all_cons, List.all_nil, List.all_append, storable, plainB, Bool.and_self]; done)) only [go_sem, reduceCtorEq, ↓reduceIte, reduceDIte, evI_callP, callPK_some, I92, hk, qa, w]
theorem s61 (q : Pk) (h : 8 ≤ q.body.length) (hb : q.body.length ≤ 140737488355328) : pcall E 61 [.agg (pkC q)] = some (.tup [.agg (enC (ieN q)), errV (ieE q).1 (ieE q).2], []) := by
  rw [pcall_go (fn := I61) rfl rfl rfl]
  have hk : E.keep 61 = false := rfl
  have f := s84
  rw [errV_pos _ (by omega)] at f
  have a0 := fun g => s92 g q 0 (by omega) hb
  have a2 := fun g => s92 g q 2 (by omega) hb
  have a4 := fun g => s92 g q 4 (by omega) hb
  have qb := s81 q (n2 q.body 0) (n2 q.body 2)
  have qq := s82 q (nth q.body 0) (n2 q.body 4)
  have b0 : (0 : Int) < q.body.length := by omega
  simp only [Int.natCast_zero, Int.cast_ofNat_Int] at a0 a2 a4
  unfold ieN ieE
  generalize btw q (n2 q.body 0) (n2 q.body 2) = e1 at *
  generalize qrN q (nth q.body 0) (n2 q.body 4) = e2 at *
  generalize n2 q.body 0 = m0 at *
  generalize n2 q.body 2 = m2 at *
  generalize n2 q.body 4 = m4 at *
  by_cases h6 : q.proto.toNat = 6
  · have h6' : (q.proto.toNat : Int) = 6 := by omega
    simp only [h6, true_or, if_true]
    rw [errV_zero]
    simp only [pkC_eq, h6', enC_eq] at a0 a2 a4 qb ⊢
    simp (disch := first | omega | (simp only [List.length_cons, List.length_nil, List.length_append, List.length_map, List.length_set]; omega) | rfl | (simp only [List.length_cons, List.length_nil, List.length_append, List.length_map, List.length_set, List.length_replicate, List.all_cons, List.all_nil, List.all_append, storable, plainB, Bool.and_self]; done)) only [go_sem, reduceCtorEq, ↓reduceIte, reduceDIte, evI_callP, callPK_some, I61, hk, a0, a2, qb]
  have h6' : ¬ (q.proto.toNat : Int) = 6 := by omega
  by_cases h17 : q.proto.toNat = 17
  · have h17' : (q.proto.toNat : Int) = 17 := by omega
    simp only [h17, or_true, if_true]
    rw [errV_zero]
    simp only [pkC_eq, h17', enC_eq] at a0 a2 a4 qb ⊢
    simp (disch := first | omega | (simp only [List.length_cons, List.length_nil, List.length_append, List.length_map, List.length_set]; omega) | rfl | (simp only [List.length_cons, List.length_nil, List.length_append, List.length_map, List.length_set, List.length_replicate, List.all_cons, List.all_nil, List.all_append, storable, plainB, Bool.and_self]; done)) only [go_sem, reduceCtorEq, ↓reduceIte, reduceDIte, evI_callP, callPK_some, I61, hk, a0, a2, qb]
  have h17' : ¬ (q.proto.toNat : Int) = 17 := by omega
  by_cases h1 : q.proto.toNat = 1
  · have h1' : (q.proto.toNat : Int) = 1 := by omega
    simp only [h1, Nat.reduceEqDiff, or_false, if_true, if_false]
    by_cases h3 : (qrE (nth q.body 0)).2 = 0
    · rw [h3, errV_zero] at qq ⊢
      simp only [pkC_eq, h1', enC_eq] at a0 a2 a4 qq ⊢
      simp (disch := first | omega | (simp only [List.length_cons, List.length_nil, List.length_append, List.length_map, List.length_set]; omega) | rfl | (simp only [List.length_cons, List.length_nil, List.length_append, List.length_map, List.length_set, List.length_replicate, List.all_cons, List.all_nil, List.all_append, storable, plainB, Bool.and_self]; done)) only [go_sem, reduceCtorEq, ↓reduceIte, reduceDIte, evI_callP, callPK_some, I61, hk, a4, qq, b0, Int.toNat_zero]
    · rw [errV_pos _ h3] at qq ⊢
      generalize (qrE (nth q.body 0)).1 = r at *
      generalize (qrE (nth q.body 0)).2 = n at *
      simp only [pkC_eq, h1', enC_eq] at a0 a2 a4 qq ⊢
      simp (disch := first | omega | (simp only [List.length_cons, List.length_nil, List.length_append, List.length_map, List.length_set]; omega) | rfl | (simp only [List.length_cons, List.length_nil, List.length_append, List.length_map, List.length_set, List.length_replicate, List.all_cons, List.all_nil, List.all_append, storable, plainB, Bool.and_self]; done)) only [go_sem, reduceCtorEq, ↓reduceIte, reduceDIte, evI_callP, callPK_some, I61, hk, a4, qq, b0, Int.toNat_zero]
  have h1' : ¬ (q.proto.toNat : Int) = 1 := by omega
  simp only [h6, h17, h1, or_false, if_false, enC_zero]
  rw [errV_pos _ (by omega)]
  simp only [pkC_eq]
  simp (disch := first | omega | (simp only [List.length_cons, List.length_nil, List.length_append, List.length_map, List.length_set]; omega) | rfl | (simp only [List.length_cons, List.length_nil, List.length_append, List.length_map, List.length_set, List.length_replicate, List.all_cons, List.all_nil, List.all_append, storable, plainB, Bool.and_self]; done)) only [go_sem, reduceCtorEq, ↓reduceIte, reduceDIte, evI_callP, callPK_some, I61, hk, h6', h17', h1', f]
end Go.Fw.Wd
