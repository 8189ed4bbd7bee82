/-
  A packet's ends and an error's inner ends: what the program's functions answer. Conditions: stated at each.
  Bytes that are patched with their sums, and an error whose inner end is turned: what the program's functions answer. Conditions: stated at each.
-/
import Derived.Test.YtigiopahmiaedaaGreatDoorWdIcmr
import Derived.Test.YtigiopahmiaedaaGreatDoorWdSump
set_option linter.unusedVariables false
set_option linter.unusedSimpArgs false
namespace Go.Fw.Wd
open Go.Proofs Code_

/-- Ends. -/
structure En where
  pr : UInt8
  fi : UInt32
  fp : Nat
  ti : UInt32
  tp : Nat
  fl : UInt8
  kd : UInt8
def En.zero : En := ⟨0, 0, 0, 0, 0, 0, 0⟩
def enC (e : En) : List AV := [.int .u8 (e.pr.toNat : Int), .int .u32 (e.fi.toNat : Int), .int .u16 (e.fp : Int), .int .u32 (e.ti.toNat : Int), .int .u16 (e.tp : Int), .int .u8 (e.fl.toNat : Int), .int .u8 (e.kd.toNat : Int)]
theorem enC_eq (e : En) : enC e = [.int .u8 (e.pr.toNat : Int), .int .u32 (e.fi.toNat : Int), .int .u16 (e.fp : Int), .int .u32 (e.ti.toNat : Int), .int .u16 (e.tp : Int), .int .u8 (e.fl.toNat : Int), .int .u8 (e.kd.toNat : Int)] := rfl
theorem enC_zero : enC En.zero = [.int .u8 0, .int .u32 0, .int .u16 0, .int .u32 0, .int .u16 0, .int .u8 0, .int .u8 0] := rfl
/-- A packet's ends with ports. -/
def btw (p : Pk) (a b : Nat) : En := ⟨p.proto, p.fr, a, p.to, b, 0, 0⟩
theorem s27 (p : Pk) (a b : Nat) : pcall E 27 [.agg (pkC p), .int .u16 (a : Int), .int .u16 (b : Int)] = some (.agg (enC (btw p a b)), []) := by
  rw [pcall_go (fn := I27) rfl rfl rfl]
  have hk : E.keep 27 = false := rfl
  have z0 : ((UInt8.toNat 0 : Nat) : Int) = 0 := rfl
  simp only [pkC_eq, enC_eq, btw, z0]
  simp (disch := first | omega | (simp only [List.length_cons, List.length_nil, List.length_append, List.length_map, List.length_set]; omega) | rfl | (simp only [List.length_cons, List.length_nil, List.length_append, List.length_map, List.length_set, List.length_replicate, List.all_cons, List.all_nil, List.all_append, storable, plainB, Bool.and_self]; done)) only [go_sem, reduceCtorEq, ↓reduceIte, reduceDIte, evI_callP, callPK_some, I27, hk]
theorem s31 : pcall E 31 [] = some (errV 16 14, []) := by
  rw [pcall_go (fn := I31) rfl rfl rfl]
  have hk : E.keep 31 = false := rfl
  have f := s47 16 14 (by omega) (by omega)
  rw [errV_pos _ (by omega)] at f ⊢
  simp (disch := first | omega | (simp only [List.length_cons, List.length_nil, List.length_append, List.length_map, List.length_set]; omega) | rfl | (simp only [List.length_cons, List.length_nil, List.length_append, List.length_map, List.length_set, List.length_replicate, List.all_cons, List.all_nil, List.all_append, storable, plainB, Bool.and_self]; done)) only [go_sem, reduceCtorEq, ↓reduceIte, reduceDIte, evI_callP, callPK_some, I31, hk, f]
/-- The ends of a message of a type with a mark. -/
def qrE (k : UInt8) : Int × Int := if k.toNat = 8 ∨ k.toNat = 0 then (0, 0) else (16, 14)
def qrN (p : Pk) (k : UInt8) (m : Nat) : En := if k.toNat = 8 then ⟨p.proto, p.fr, m, p.to, 0, 0, k⟩ else if k.toNat = 0 then ⟨p.proto, p.fr, 0, p.to, m, 0, k⟩ else En.zero
theorem s29 (p : Pk) (k : UInt8) (m : Nat) : pcall E 29 [.agg (pkC p), .int .u8 (k.toNat : Int), .int .u16 (m : Int)] = some (.tup [.agg (enC (qrN p k m)), errV (qrE k).1 (qrE k).2], []) := by
  rw [pcall_go (fn := I29) rfl rfl rfl]
  have hk : E.keep 29 = false := rfl
  have q := s27 p
  have f := s31
  rw [errV_pos _ (by omega)] at f
  have z0 : ((UInt8.toNat 0 : Nat) : Int) = 0 := rfl
  simp only [enC_eq, btw, z0] at q
  unfold qrN qrE
  by_cases h8 : k.toNat = 8
  · have h8' : (k.toNat : Int) = 8 := by omega
    have q0 := q m 0
    simp only [Int.natCast_zero] at q0
    simp only [h8, true_or, if_true, enC_eq, errV_zero]
    simp only [h8', pkC_eq] at q0 ⊢
    simp (disch := first | omega | (simp only [List.length_cons, List.length_nil, List.length_append, List.length_map, List.length_set]; omega) | rfl | (simp only [List.length_cons, List.length_nil, List.length_append, List.length_map, List.length_set, List.length_replicate, List.all_cons, List.all_nil, List.all_append, storable, plainB, Bool.and_self]; done)) only [go_sem, reduceCtorEq, ↓reduceIte, reduceDIte, evI_callP, callPK_some, I29, hk, q0, h8', z0, Int.natCast_zero, Int.cast_ofNat_Int]
  have h8' : ¬ (k.toNat : Int) = 8 := by omega
  by_cases h0 : k.toNat = 0
  · have h0' : (k.toNat : Int) = 0 := by omega
    have q0 := q 0 m
    simp only [Int.natCast_zero] at q0
    simp only [h0, Nat.reduceEqDiff, false_or, if_true, if_false, enC_eq, errV_zero]
    simp only [h0', pkC_eq] at q0 ⊢
    simp (disch := first | omega | (simp only [List.length_cons, List.length_nil, List.length_append, List.length_map, List.length_set]; omega) | rfl | (simp only [List.length_cons, List.length_nil, List.length_append, List.length_map, List.length_set, List.length_replicate, List.all_cons, List.all_nil, List.all_append, storable, plainB, Bool.and_self]; done)) only [go_sem, reduceCtorEq, ↓reduceIte, reduceDIte, evI_callP, callPK_some, I29, hk, q0, h0', z0, Int.natCast_zero, Int.cast_ofNat_Int]
  have h0' : ¬ (k.toNat : Int) = 0 := by omega
  simp only [h8, h0, or_false, if_false, enC_zero]
  rw [errV_pos _ (by omega)]
  simp only [pkC_eq]
  simp (disch := first | omega | (simp only [List.length_cons, List.length_nil, List.length_append, List.length_map, List.length_set]; omega) | rfl | (simp only [List.length_cons, List.length_nil, List.length_append, List.length_map, List.length_set, List.length_replicate, List.all_cons, List.all_nil, List.all_append, storable, plainB, Bool.and_self]; done)) only [go_sem, reduceCtorEq, ↓reduceIte, reduceDIte, evI_callP, callPK_some, I29, hk, h8', h0', f]
theorem icp_all (g : Bool) (b : List UInt8) (hb : b.length ≤ 140737488355328) : pcall E 28 [bs g b] = some (.tup [.agg (mgC (icM b)), errV (icE b).1 (icE b).2], []) := by
  rcases Nat.lt_or_ge 1048576 b.length with h | h
  · rw [pcall_go (fn := I28) rfl rfl rfl]
    have hk : E.keep 28 = false := rfl
    have f11 := s47 1 11 (by omega) (by omega)
    rw [errV_pos _ (by omega)] at f11
    unfold icM icE
    have h1 : ¬ b.length < 8 := by omega
    have h1' : ¬ (b.length : Int) < 8 := by omega
    have h2 : 1480 < b.length := by omega
    have h2' : (1480 : Int) < (b.length : Int) := by omega
    simp only [h1, h2, if_true, Int.reduceEq, if_false, mgC_zero]
    rw [errV_pos _ (by omega)]
    simp (disch := first | omega | (simp only [List.length_cons, List.length_nil, List.length_append, List.length_map, List.length_set]; omega) | rfl | (simp only [List.length_cons, List.length_nil, List.length_append, List.length_map, List.length_set, List.length_replicate, List.all_cons, List.all_nil, List.all_append, storable, plainB, Bool.and_self]; done)) only [go_sem, reduceCtorEq, ↓reduceIte, reduceDIte, evI_callP, callPK_some, I28, hk, h1', h2', f11]
  · exact s28 g b h
theorem icM_len2 (b : List UInt8) : (icM b).body.length ≤ 1472 := by
  unfold icM
  split
  · have := ic_ok (by assumption)
    simp only [icR, List.length_drop]
    omega
  · exact Nat.zero_le _
theorem errV_nil_iff {r e : Int} (h : ¬ e = 0) : errV r e = .iface 119 (.rp false (.agg [.int .i64 r, .iface 43 (.int .i64 e)])) := errV_pos r h
/-- An error's message, and what it embeds. -/
def emE (p : Pk) : Int × Int := if ¬ p.proto.toNat = 1 then (16, 14) else if ¬ (icE p.body).2 = 0 then icE p.body else inE (icM p.body)
def emM (p : Pk) : Mg := if ¬ p.proto.toNat = 1 then Mg.zero else icM p.body
def emP (p : Pk) : Pk := if ¬ p.proto.toNat = 1 then Pk.zero else if ¬ (icE p.body).2 = 0 then Pk.zero else inP (icM p.body)
theorem s39 (p : Pk) (hb : p.body.length ≤ 140737488355328) : pcall E 39 [.agg (pkC p)] = some (.tup [.agg (mgC (emM p)), .agg (pkC (emP p)), errV (emE p).1 (emE p).2], []) := by
  rw [pcall_go (fn := I39) rfl rfl rfl]
  have hk : E.keep 39 = false := rfl
  have f := s31
  rw [errV_pos _ (by omega)] at f
  unfold emM emP emE
  by_cases h1 : p.proto.toNat = 1
  case neg =>
    have h1' : ¬ (p.proto.toNat : Int) = 1 := by omega
    simp only [h1, not_false_eq_true, if_true, mgC_zero, pkC_zero]
    rw [errV_pos _ (by omega)]
    simp only [pkC_eq]
    simp (disch := first | omega | (simp only [List.length_cons, List.length_nil, List.length_append, List.length_map, List.length_set]; omega) | rfl | (simp only [List.length_cons, List.length_nil, List.length_append, List.length_map, List.length_set, List.length_replicate, List.all_cons, List.all_nil, List.all_append, storable, plainB, Bool.and_self]; done)) only [go_sem, reduceCtorEq, ↓reduceIte, reduceDIte, evI_callP, callPK_some, I39, hk, h1', f, Bool.not_false]
  have h1' : (p.proto.toNat : Int) = 1 := by omega
  have qp := fun g => icp_all g p.body hb
  simp only [h1, not_true, if_false]
  by_cases h2 : (icE p.body).2 = 0
  case neg =>
    simp only [h2, not_false_eq_true, if_true]
    rw [show icM p.body = Mg.zero by unfold icM; rw [if_neg h2]] at qp ⊢
    rw [errV_pos _ h2] at qp ⊢
    generalize (icE p.body).1 = r at *
    generalize (icE p.body).2 = n at *
    simp only [mgC_zero] at qp
    simp only [pkC_zero, mgC_zero]
    simp only [pkC_eq]
    simp (disch := first | omega | (simp only [List.length_cons, List.length_nil, List.length_append, List.length_map, List.length_set]; omega) | rfl | (simp only [List.length_cons, List.length_nil, List.length_append, List.length_map, List.length_set, List.length_replicate, List.all_cons, List.all_nil, List.all_append, storable, plainB, Bool.and_self]; done)) only [go_sem, reduceCtorEq, ↓reduceIte, reduceDIte, evI_callP, callPK_some, I39, hk, h1', qp]
  rw [h2, errV_zero] at qp
  simp only [h2, not_true, if_false]
  have qi := s69 (icM p.body) (by have := icM_len2 p.body; omega)
  generalize icM p.body = m at *
  by_cases h3 : (inE m).2 = 0
  · rw [h3, errV_zero] at qi ⊢
    generalize inP m = q at *
    simp only [pkC_eq, mgC_eq] at qp qi ⊢
    simp (disch := first | omega | (simp only [List.length_cons, List.length_nil, List.length_append, List.length_map, List.length_set]; omega) | rfl | (simp only [List.length_cons, List.length_nil, List.length_append, List.length_map, List.length_set, List.length_replicate, List.all_cons, List.all_nil, List.all_append, storable, plainB, Bool.and_self]; done)) only [go_sem, reduceCtorEq, ↓reduceIte, reduceDIte, evI_callP, callPK_some, I39, hk, h1', qp, qi]
  · rw [errV_pos _ h3] at qi ⊢
    generalize inP m = q at *
    generalize (inE m).1 = r at *
    generalize (inE m).2 = n at *
    simp only [pkC_eq, mgC_eq] at qp qi ⊢
    simp (disch := first | omega | (simp only [List.length_cons, List.length_nil, List.length_append, List.length_map, List.length_set]; omega) | rfl | (simp only [List.length_cons, List.length_nil, List.length_append, List.length_map, List.length_set, List.length_replicate, List.all_cons, List.all_nil, List.all_append, storable, plainB, Bool.and_self]; done)) only [go_sem, reduceCtorEq, ↓reduceIte, reduceDIte, evI_callP, callPK_some, I39, hk, h1', qp, qi]

/-- The ends of what is embedded. -/
def ieE (q : Pk) : Int × Int := if q.proto.toNat = 6 ∨ q.proto.toNat = 17 then (0, 0) else if q.proto.toNat = 1 then qrE (nth q.body 0) else (16, 14)
def ieN (q : Pk) : En := if q.proto.toNat = 6 ∨ q.proto.toNat = 17 then btw q (n2 q.body 0) (n2 q.body 2) else if q.proto.toNat = 1 then qrN q (nth q.body 0) (n2 q.body 4) else En.zero
theorem s70 (g : Bool) (q : Pk) (i : Nat) (h : i + 2 ≤ q.body.length) (hb : q.body.length ≤ 140737488355328) : pcall E 70 [.int .i64 (i : Int), .rp g (.agg (pkC q))] = some (.int .u16 ((n2 q.body i : Nat) : Int), []) := by
  rw [pcall_go (fn := I70) rfl rfl rfl]
  have hk : E.keep 70 = false := rfl
  have qa := fun g => at2 g q.body hb i h
  have hl := n2_lt q.body i
  have w : IntKind.u16.wrap ((n2 q.body i : Nat) : Int) = ((n2 q.body i : Nat) : Int) := wu16 (by omega) (by omega)
  generalize n2 q.body i = n at *
  simp only [pkC_eq]
  simp (disch := first | omega | (simp only [List.length_cons, List.length_nil, List.length_append, List.length_map, List.length_set]; omega) | rfl | (simp only [List.length_cons, List.length_nil, List.length_append, List.length_map, List.length_set, List.length_replicate, List.all_cons, List.all_nil, List.all_append, storable, plainB, Bool.and_self]; done)) only [go_sem, reduceCtorEq, ↓reduceIte, reduceDIte, evI_callP, callPK_some, I70, hk, qa, w]
theorem s40 (q : Pk) (h : 8 ≤ q.body.length) (hb : q.body.length ≤ 140737488355328) : pcall E 40 [.agg (pkC q)] = some (.tup [.agg (enC (ieN q)), errV (ieE q).1 (ieE q).2], []) := by
  rw [pcall_go (fn := I40) rfl rfl rfl]
  have hk : E.keep 40 = false := rfl
  have f := s31
  rw [errV_pos _ (by omega)] at f
  have a0 := fun g => s70 g q 0 (by omega) hb
  have a2 := fun g => s70 g q 2 (by omega) hb
  have a4 := fun g => s70 g q 4 (by omega) hb
  have qb := s27 q (n2 q.body 0) (n2 q.body 2)
  have qq := s29 q (nth q.body 0) (n2 q.body 4)
  have b0 : (0 : Int) < q.body.length := by omega
  simp only [Int.natCast_zero, Int.cast_ofNat_Int] at a0 a2 a4
  unfold ieN ieE
  generalize btw q (n2 q.body 0) (n2 q.body 2) = e1 at *
  generalize qrN q (nth q.body 0) (n2 q.body 4) = e2 at *
  generalize n2 q.body 0 = m0 at *
  generalize n2 q.body 2 = m2 at *
  generalize n2 q.body 4 = m4 at *
  by_cases h6 : q.proto.toNat = 6
  · have h6' : (q.proto.toNat : Int) = 6 := by omega
    simp only [h6, true_or, if_true]
    rw [errV_zero]
    simp only [pkC_eq, h6', enC_eq] at a0 a2 a4 qb ⊢
    simp (disch := first | omega | (simp only [List.length_cons, List.length_nil, List.length_append, List.length_map, List.length_set]; omega) | rfl | (simp only [List.length_cons, List.length_nil, List.length_append, List.length_map, List.length_set, List.length_replicate, List.all_cons, List.all_nil, List.all_append, storable, plainB, Bool.and_self]; done)) only [go_sem, reduceCtorEq, ↓reduceIte, reduceDIte, evI_callP, callPK_some, I40, hk, a0, a2, qb]
  have h6' : ¬ (q.proto.toNat : Int) = 6 := by omega
  by_cases h17 : q.proto.toNat = 17
  · have h17' : (q.proto.toNat : Int) = 17 := by omega
    simp only [h17, or_true, if_true]
    rw [errV_zero]
    simp only [pkC_eq, h17', enC_eq] at a0 a2 a4 qb ⊢
    simp (disch := first | omega | (simp only [List.length_cons, List.length_nil, List.length_append, List.length_map, List.length_set]; omega) | rfl | (simp only [List.length_cons, List.length_nil, List.length_append, List.length_map, List.length_set, List.length_replicate, List.all_cons, List.all_nil, List.all_append, storable, plainB, Bool.and_self]; done)) only [go_sem, reduceCtorEq, ↓reduceIte, reduceDIte, evI_callP, callPK_some, I40, hk, a0, a2, qb]
  have h17' : ¬ (q.proto.toNat : Int) = 17 := by omega
  by_cases h1 : q.proto.toNat = 1
  · have h1' : (q.proto.toNat : Int) = 1 := by omega
    simp only [h1, Nat.reduceEqDiff, or_false, if_true, if_false]
    by_cases h3 : (qrE (nth q.body 0)).2 = 0
    · rw [h3, errV_zero] at qq ⊢
      simp only [pkC_eq, h1', enC_eq] at a0 a2 a4 qq ⊢
      simp (disch := first | omega | (simp only [List.length_cons, List.length_nil, List.length_append, List.length_map, List.length_set]; omega) | rfl | (simp only [List.length_cons, List.length_nil, List.length_append, List.length_map, List.length_set, List.length_replicate, List.all_cons, List.all_nil, List.all_append, storable, plainB, Bool.and_self]; done)) only [go_sem, reduceCtorEq, ↓reduceIte, reduceDIte, evI_callP, callPK_some, I40, hk, a4, qq, b0, Int.toNat_zero]
    · rw [errV_pos _ h3] at qq ⊢
      generalize (qrE (nth q.body 0)).1 = r at *
      generalize (qrE (nth q.body 0)).2 = n at *
      simp only [pkC_eq, h1', enC_eq] at a0 a2 a4 qq ⊢
      simp (disch := first | omega | (simp only [List.length_cons, List.length_nil, List.length_append, List.length_map, List.length_set]; omega) | rfl | (simp only [List.length_cons, List.length_nil, List.length_append, List.length_map, List.length_set, List.length_replicate, List.all_cons, List.all_nil, List.all_append, storable, plainB, Bool.and_self]; done)) only [go_sem, reduceCtorEq, ↓reduceIte, reduceDIte, evI_callP, callPK_some, I40, hk, a4, qq, b0, Int.toNat_zero]
  have h1' : ¬ (q.proto.toNat : Int) = 1 := by omega
  simp only [h6, h17, h1, or_false, if_false, enC_zero]
  rw [errV_pos _ (by omega)]
  simp only [pkC_eq]
  simp (disch := first | omega | (simp only [List.length_cons, List.length_nil, List.length_append, List.length_map, List.length_set]; omega) | rfl | (simp only [List.length_cons, List.length_nil, List.length_append, List.length_map, List.length_set, List.length_replicate, List.all_cons, List.all_nil, List.all_append, storable, plainB, Bool.and_self]; done)) only [go_sem, reduceCtorEq, ↓reduceIte, reduceDIte, evI_callP, callPK_some, I40, hk, h6', h17', h1', f]
end Go.Fw.Wd
set_option linter.unusedVariables false
set_option linter.unusedSimpArgs false
namespace Go.Fw.Wd
open Go.Proofs Code_

theorem row1 (a size : Nat) (h1 : 1 ≤ size) (h2 : size ≤ 7) (ha : a < 256 ^ size) :
    pcall E 48 [.int .i64 (size : Int), .rs false 1 [.int .u64 (a : Int)]] = some (.tup [.sl 1 0 0 0 (encb size a).length, .int .i64 0], [.row 0 1 ((encb size a).map by8) 5]) := by
  have hb : 256 ^ size ≤ 256 ^ 7 := Nat.pow_le_pow_right (by omega) h2
  have e : ∀ x, x < 256 ^ size → (UInt64.ofNat x).toNat = x := fun x hx => UInt64.toNat_ofNat_of_lt' (by
    have : (256 : Nat) ^ 7 = 72057594037927936 := rfl
    show x < 18446744073709551616
    omega)
  have e1 := e a ha
  have q := s48 false [UInt64.ofNat a] (by simp) (size : Int)
  have hf : fits size [UInt64.ofNat a] = true := by simp only [fits, List.all_cons, List.all_nil, e1, ha, decide_true, Bool.and_true]
  have h1' : rowE (size : Int) [UInt64.ofNat a] = 0 := by
    unfold rowE
    rw [if_pos ⟨by omega, by simpa using hf⟩]
  have h2' : rowB_ (size : Int) [UInt64.ofNat a] = encb size a := by
    unfold rowB_
    rw [if_pos ⟨by omega, by simpa using hf⟩]
    simp [rowb, e1]
  have hk : E.keep 48 = true := rfl
  simp only [us, List.map_cons, List.map_nil, u64v, e1, h1', h2', hk, decide_true, kres_t] at q
  exact q
/-- An Ip's bytes, and a port's. -/
def rowN (ip : UInt32) (pt : Nat) : List UInt8 := encb 4 ip.toNat ++ encb 2 pt
theorem rowN_len (ip : UInt32) (pt : Nat) : (rowN ip pt).length = 6 := by simp only [rowN, List.length_append, encb_length]
theorem s81 (ip : UInt32) (pt : Nat) (hp : pt < 65536) : pcall E 81 [.agg [.int .u32 (ip.toNat : Int), .int .u16 (pt : Int)]] = some (bs false (rowN ip pt), []) := by
  rw [pcall_go (fn := I81) rfl rfl rfl]
  have hk : E.keep 81 = false := rfl
  have hi := ip.toNat_lt
  have q4 := row1 ip.toNat 4 (by omega) (by omega) (by show _ < 4294967296; exact hi)
  have q2 := row1 pt 2 (by omega) (by omega) (by show _ < 65536; exact hp)
  have w4 : IntKind.u64.wrap ((ip.toNat : Nat) : Int) = ((ip.toNat : Nat) : Int) := wu64 (by omega) (by omega)
  have w2 : IntKind.u64.wrap ((pt : Nat) : Int) = ((pt : Nat) : Int) := wu64 (by omega) (by omega)
  have l4 := encb_length 4 ip.toNat
  have l2 := encb_length 2 pt
  unfold rowN
  generalize encb 4 ip.toNat = x at *
  generalize encb 2 pt = y at *
  rw [l4] at q4
  rw [l2] at q2
  simp only [Int.cast_ofNat_Int] at q4 q2
  obtain ⟨z, hz⟩ : ∃ z, z = x ++ y := ⟨_, rfl⟩
  have lz : z.length = 6 := by rw [hz, List.length_append]; omega
  have hap := appR_by8 [.row 0 1 (x.map by8) 5] 1 5 0 0 4 2 x y l4 (by omega) (by omega)
  rw [← hz] at hap ⊢
  clear hz
  simp only [go_sem, reduceCtorEq, ↓reduceIte, reduceDIte, evI_callP, callPK_some] at hap
  simp (disch := first | omega | (simp only [List.length_cons, List.length_nil, List.length_append, List.length_map, List.length_set]; omega) | rfl | (simp only [List.length_cons, List.length_nil, List.length_append, List.length_map, List.length_set, List.length_replicate, List.all_cons, List.all_nil, List.all_append, storable, plainB, Bool.and_self]; done)) only [go_sem, reduceCtorEq, ↓reduceIte, reduceDIte, evI_callP, callPK_some, I81, hk, q4, q2, w4, w2, l4, l2, hap, lz]
theorem s79 (g : Bool) (b : List UInt8) (hb : b.length ≤ 1048576) (i n : Nat) (hi : i + 2 ≤ b.length) (hn : n < 65536) : pcall E 79 [bs g b, .int .i64 (i : Int), .int .u16 (n : Int)] = some (bs false (over b i (encb 2 n)), []) := by
  rw [pcall_go (fn := I79) rfl rfl rfl]
  have hk : E.keep 79 = false := rfl
  have q := fun g => lay2 g b (by omega) i n hi hn
  have hkl : E.keep 51 = true := rfl
  rw [hkl, kres_t] at q
  have w : IntKind.u64.wrap ((n : Nat) : Int) = ((n : Nat) : Int) := wu64 (by omega) (by omega)
  have hl := over_len b i (encb 2 n) (by rw [encb_length]; exact hi)
  generalize over b i (encb 2 n) = x at *
  rw [hl] at q
  simp (disch := first | omega | (simp only [List.length_cons, List.length_nil, List.length_append, List.length_map, List.length_set]; omega) | rfl | (simp only [List.length_cons, List.length_nil, List.length_append, List.length_map, List.length_set, List.length_replicate, List.all_cons, List.all_nil, List.all_append, storable, plainB, Bool.and_self]; done)) only [go_sem, reduceCtorEq, ↓reduceIte, reduceDIte, evI_callP, callPK_some, I79, hk, q, w, hl]
def i64s (l : List Nat) : List AV := l.map fun n : Nat => .int .i64 (n : Int)
/-- Where the sums stand that hang on the ends. -/
def tsums (pr : Nat) (b : List UInt8) : List Nat := if pr = 6 then [36] else if pr = 17 then (if n2 b 26 = 0 then [] else [26]) else []
theorem s84 (g g1 : Bool) (b : List UInt8) (h28 : 28 ≤ b.length) (hb : b.length ≤ 140737488355328) (pr : UInt8) : pcall E 84 [.rp g (.agg [bs g1 b]), .int .u8 (pr.toNat : Int)] = some (.rs false 1 (i64s (tsums pr.toNat b)), []) := by
  rw [pcall_go (fn := I84) rfl rfl rfl]
  have hk : E.keep 84 = false := rfl
  have qa := fun g => at2 g b hb 26 (by omega)
  simp only [Int.cast_ofNat_Int] at qa
  unfold tsums
  by_cases h6 : pr.toNat = 6
  · have h6' : (pr.toNat : Int) = 6 := by omega
    simp only [h6, if_true, i64s, List.map_cons, List.map_nil, Int.cast_ofNat_Int]
    simp (disch := first | omega | (simp only [List.length_cons, List.length_nil, List.length_append, List.length_map, List.length_set]; omega) | rfl | (simp only [List.length_cons, List.length_nil, List.length_append, List.length_map, List.length_set, List.length_replicate, List.all_cons, List.all_nil, List.all_append, storable, plainB, Bool.and_self]; done)) only [go_sem, reduceCtorEq, ↓reduceIte, reduceDIte, evI_callP, callPK_some, I84, hk, h6']
  have h6' : ¬ (pr.toNat : Int) = 6 := by omega
  by_cases h17 : pr.toNat = 17
  · have h17' : (pr.toNat : Int) = 17 := by omega
    generalize n2 b 26 = n at *
    by_cases hn : n = 0
    · have hn' : (n : Int) = 0 := by omega
      simp only [h17, hn, Nat.reduceEqDiff, if_true, if_false, i64s, List.map_cons, List.map_nil, Int.cast_ofNat_Int]
      simp only [hn'] at qa
      simp (disch := first | omega | (simp only [List.length_cons, List.length_nil, List.length_append, List.length_map, List.length_set]; omega) | rfl | (simp only [List.length_cons, List.length_nil, List.length_append, List.length_map, List.length_set, List.length_replicate, List.all_cons, List.all_nil, List.all_append, storable, plainB, Bool.and_self]; done)) only [go_sem, reduceCtorEq, ↓reduceIte, reduceDIte, evI_callP, callPK_some, I84, hk, h17', qa]
    · have hn' : ¬ (n : Int) = 0 := by omega
      simp only [h17, hn, Nat.reduceEqDiff, if_true, if_false, i64s, List.map_cons, List.map_nil, Int.cast_ofNat_Int]
      simp (disch := first | omega | (simp only [List.length_cons, List.length_nil, List.length_append, List.length_map, List.length_set]; omega) | rfl | (simp only [List.length_cons, List.length_nil, List.length_append, List.length_map, List.length_set, List.length_replicate, List.all_cons, List.all_nil, List.all_append, storable, plainB, Bool.and_self]; done)) only [go_sem, reduceCtorEq, ↓reduceIte, reduceDIte, evI_callP, callPK_some, I84, hk, h17', qa, hn']
  have h17' : ¬ (pr.toNat : Int) = 17 := by omega
  simp only [h6, h17, if_false, i64s, List.map_nil]
  simp (disch := first | omega | (simp only [List.length_cons, List.length_nil, List.length_append, List.length_map, List.length_set]; omega) | rfl | (simp only [List.length_cons, List.length_nil, List.length_append, List.length_map, List.length_set, List.length_replicate, List.all_cons, List.all_nil, List.all_append, storable, plainB, Bool.and_self]; done)) only [go_sem, reduceCtorEq, ↓reduceIte, reduceDIte, evI_callP, callPK_some, I84, hk, h6', h17']
/-- Bytes laid at a place; the sums at some places go with them, if they are there. -/
def sumAt (was now : List UInt8) (b : List UInt8) (s : Nat) : List UInt8 := if s + 2 ≤ b.length then over b s (encb 2 (patN (n2 b s) was now)) else b
def atB (b : List UInt8) (pl : Nat) (now : List UInt8) (ss : List Nat) : List UInt8 := ss.foldl (sumAt ((b.drop pl).take now.length) now) (over b pl now)
theorem sumAt_len (was now b : List UInt8) (s : Nat) : (sumAt was now b s).length = b.length := by
  unfold sumAt
  split
  · exact over_len _ _ _ (by rw [encb_length]; assumption)
  · rfl
theorem foldl_len (was now : List UInt8) : ∀ (ss : List Nat) (b : List UInt8), (ss.foldl (sumAt was now) b).length = b.length
  | [], b => rfl
  | s :: ss, b => by rw [List.foldl_cons, foldl_len was now ss, sumAt_len]
theorem atB_len (b : List UInt8) (pl : Nat) (now : List UInt8) (ss : List Nat) (h : pl + now.length ≤ b.length) : (atB b pl now ss).length = b.length := by
  unfold atB
  rw [foldl_len, over_len _ _ _ h]
theorem at2_end (b : List UInt8) (hb : b.length ≤ 140737488355328) (i : Nat) (hi : i ≤ 1048576) (h : b.length < i + 2) : ∃ e : Int, ¬ e = 0 ∧ ∀ g, pcall E 64 [bs g b, .int .i64 (i : Int), .int .i64 2] = some (.tup [.int .u64 0, .int .i64 e], []) := by
  have hs : ¬ spanE b.length i 2 = 0 := fun h0 => by have := span0 h0; omega
  refine ⟨spanE b.length i 2, hs, fun g => ?_⟩
  have q := s64 g b hb i 2 (by constructor <;> omega)
  have e1 : atN b i 2 = 0 := by unfold atN; rw [if_neg (fun h => hs h.2)]
  have e2 : atE b i 2 = spanE b.length i 2 := by unfold atE; rw [if_pos (by omega)]
  rw [e1, e2] at q
  exact q
theorem iaddr_i64s (h : Heap) (g : Bool) (l : List Nat) (i : Nat) (h1 : i < l.length) : iaddrK h 1 (.rs g 1 (i64s l)) (.int .i64 (i : Int)) = some (.rp g (.int .i64 ((nth l i : Nat) : Int)), h) := by
  have := iaddr_map (fun n : Nat => AV.int .i64 (n : Int)) h 1 g l .i64 (i : Int) (by omega) (by omega)
  rw [Int.toNat_natCast] at this
  exact this
theorem i64s_len (l : List Nat) : (i64s l).length = l.length := by simp [i64s]
theorem drop_nth2 (l : List Nat) (i : Nat) (h : i < l.length) : l.drop i = nth l i :: l.drop (i + 1) := by
  rw [List.drop_eq_getElem_cons h, nth_get l i h]
theorem m85 (hp : Heap) (k : Nat) (hk : k < hp.length) (g g2 g3 : Bool) (t : TypeId) (b now : List UInt8) (pl : Nat) (ss : List Nat) (hb : b.length ≤ 1048576) (hpl : pl + now.length ≤ b.length) (hss : ∀ s ∈ ss, s ≤ 1048576)
    (hl : hp[k]? = some (.cells true [bs g b] t)) (hsl : ss.length ≤ 1048576) :
    hcall E 85 [.ref k 0 0, .int .i64 (pl : Int), bs g2 now, .rs g3 1 (i64s ss)] hp = some (.tup [], hp.set k (.cells true [bs false (atB b pl now ss)] t)) := by
  rw [hcall_go (fn := I85) rfl rfl rfl]
  obtain ⟨was, hwas⟩ : ∃ w, w = (b.drop pl).take now.length := ⟨_, rfl⟩
  have lwas : was.length = now.length := by rw [hwas, List.length_take, List.length_drop]; omega
  have hself : ∀ x : AObj, (hp.set k x)[k]? = some x := fun x => by simp [hk]
  have hloop : ∀ n i : Nat, i + n = ss.length → ∀ c : List UInt8, c.length = b.length →
      T85_0 E (lp E L85_0 [(0, .ref k 0 0), (2, bs g2 now), (8, bs false was), (39, .rs g3 1 (i64s ss)), (40, .int .i64 (ss.length : Int)), (41, .int .i64 (i : Int))] (hp.set k (.cells true [bs false c] t)))
        = some (.tup [], hp.set k (.cells true [bs false ((ss.drop i).foldl (sumAt was now) c)] t)) := by
    intro n
    induction n with
    | zero =>
      intro i hi c hc
      have h1 : ¬ (i : Int) < (ss.length : Int) := by omega
      rw [List.drop_eq_nil_of_le (by omega), List.foldl_nil, L85_0_go]
      simp (disch := first | omega | (simp only [List.length_cons, List.length_nil, List.length_append, List.length_map, List.length_set]; omega) | rfl | (simp only [List.length_cons, List.length_nil, List.length_append, List.length_map, List.length_set, List.length_replicate, List.all_cons, List.all_nil, List.all_append, storable, plainB, Bool.and_self]; done)) only [go_sem, reduceCtorEq, ↓reduceIte, reduceDIte, evI_callP, callPK_some, B85_0, T85_0, h1]
    | succ n ih =>
      intro i hi c hc
      have h1 : (i : Int) < (ss.length : Int) := by omega
      have hia := fun h => iaddr_i64s h g3 ss i (by omega)
      have ih' := ih (i + 1) (by omega)
      have hs := hss (nth ss i) (by rw [nth_get ss i (by omega)]; exact List.getElem_mem _)
      rw [drop_nth2 ss i (by omega), List.foldl_cons]
      have wi : IntKind.i64.wrap ((i : Int) + 1) = ((i + 1 : Nat) : Int) := by rw [w64 (by omega) (by omega)]; omega
      generalize nth ss i = s at *
      by_cases hfit : s + 2 ≤ c.length
      · have qa := fun g => at2 g c (by omega) s hfit
        have hlt := n2_lt c s
        have w16 : IntKind.u16.wrap ((n2 c s : Nat) : Int) = ((n2 c s : Nat) : Int) := wu16 (by omega) (by omega)
        have qs := fun g g' => s104 g g' (n2 c s) hlt was now (by omega) (by omega)
        have hpn := patN_lt hlt was now
        have ql := fun g => s79 g c (by omega) s (patN (n2 c s) was now) hfit hpn
        have hd := over_len c s (encb 2 (patN (n2 c s) was now)) (by rw [encb_length]; exact hfit)
        have ih2 := ih' (over c s (encb 2 (patN (n2 c s) was now))) (by omega)
        rw [← show sumAt was now c s = over c s (encb 2 (patN (n2 c s) was now)) by unfold sumAt; rw [if_pos hfit]] at ih2 ql
        rw [← ih2, L85_0_go]
        generalize sumAt was now c s = d at *
        generalize patN (n2 c s) was now = m at *
        generalize patF was now = f at *
        generalize n2 c s = v at *
        generalize i64s ss = sl at *
        simp (disch := first | omega | (simp only [List.length_cons, List.length_nil, List.length_append, List.length_map, List.length_set]; omega) | rfl | (simp only [List.length_cons, List.length_nil, List.length_append, List.length_map, List.length_set, List.length_replicate, List.all_cons, List.all_nil, List.all_append, storable, plainB, Bool.and_self]; done)) only [go_sem, reduceCtorEq, ↓reduceIte, reduceDIte, evI_callP, callPK_some, B85_0, T85_0, L85_0_lp, h1, hia, qa, w16, qs, ql, wi, hself, List.set_set]
      · obtain ⟨e, he, qa⟩ := at2_end c (by omega) s hs (by omega)
        have ih2 := ih' c hc
        rw [show sumAt was now c s = c by unfold sumAt; rw [if_neg hfit]]
        rw [← ih2, L85_0_go]
        generalize i64s ss = sl at *
        simp (disch := first | omega | (simp only [List.length_cons, List.length_nil, List.length_append, List.length_map, List.length_set]; omega) | rfl | (simp only [List.length_cons, List.length_nil, List.length_append, List.length_map, List.length_set, List.length_replicate, List.all_cons, List.all_nil, List.all_append, storable, plainB, Bool.and_self]; done)) only [go_sem, reduceCtorEq, ↓reduceIte, reduceDIte, evI_callP, callPK_some, B85_0, T85_0, L85_0_lp, h1, hia, qa, he, wi, hself]
  obtain ⟨m, hm⟩ : ∃ m, m = pl + now.length := ⟨_, rfl⟩
  have wpl : IntKind.i64.wrap ((pl : Int) + (now.length : Int)) = (m : Int) := by rw [w64 (by omega) (by omega)]; omega
  have hsl1 : ∀ h g, sliceK h 1 (.rs g 1 (b.map by8)) (some b.length) (some (.int .i64 (pl : Int))) (some (.int .i64 (m : Int))) = some (.rs g 1 (was.map by8), h) := fun h g => by
    have := slice_by_ii h g b .i64 .i64 (pl : Int) (m : Int) (by omega) (by omega) (by omega)
    rw [Int.toNat_natCast, Int.toNat_natCast, show m - pl = now.length by omega, ← hwas] at this
    exact this
  have qc := fun g => s43 g was (by omega)
  have qp := fun g g' => s78 g g' b now (by omega) (by omega) (pl : Int) (by constructor <;> omega)
  have hsp : spanE b.length (pl : Int) now.length = 0 := by unfold spanE; rw [if_neg (by omega), if_neg (by omega), if_neg (by omega)]
  have ho : patB b (pl : Int) now = over b pl now := by unfold patB; rw [if_pos hsp, Int.toNat_natCast]
  have he : patE b (pl : Int) now = 0 := by unfold patE; exact hsp
  have hkp : E.keep 78 = true := rfl
  have lo := over_len b pl now hpl
  rw [ho, he] at qp
  simp only [hkp, decide_true, kres_t] at qp
  have hz := hloop ss.length 0 (by omega) (over b pl now) lo
  rw [show atB b pl now ss = ss.foldl (sumAt was now) (over b pl now) by unfold atB; rw [← hwas]]
  simp only [List.drop_zero, Int.natCast_zero] at hz
  generalize ss.foldl (sumAt was now) (over b pl now) = r at *
  generalize over b pl now = c at *
  rw [lo] at qp
  have il := i64s_len ss
  generalize i64s ss = sl at *
  clear hloop hwas
  simp only [T85_0] at hz
  simp (disch := first | omega | (simp only [List.length_cons, List.length_nil, List.length_append, List.length_map, List.length_set]; omega) | rfl | (simp only [List.length_cons, List.length_nil, List.length_append, List.length_map, List.length_set, List.length_replicate, List.all_cons, List.all_nil, List.all_append, storable, plainB, Bool.and_self]; done)) only [go_sem, reduceCtorEq, ↓reduceIte, reduceDIte, evI_callP, callPK_some, I85, L85_0_lp, hl, hself, wpl, hsl1, qc, lwas, qp, lo, il, hz]
end Go.Fw.Wd
