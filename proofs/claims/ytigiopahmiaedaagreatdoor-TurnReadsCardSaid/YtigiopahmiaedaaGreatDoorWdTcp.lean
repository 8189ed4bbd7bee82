/-
  Segments: faults, their form, their sum, and what Parse answers. Conditions: stated at each.
-/
import Derived.Test.YtigiopahmiaedaaGreatDoorWdRow
import Derived.Test.YtigiopahmiaedaaGreatDoorWdSumt
set_option linter.unusedVariables false
set_option linter.unusedSimpArgs false
namespace Go.Fw.Wd
open Go.Proofs Code_

/-- A fault as a value. -/
def faultV (r e : Int) : AV := .iface 119 (.rp false (.agg [.int .i64 r, .iface 43 (.int .i64 e)]))
def errV (r e : Int) : AV := if e = 0 then .nili else faultV r e
theorem s74 (r : Int) : pcall E 74 [.int .i64 r] = some (.bool (decide (1 ≤ r) && decide (r < 20)), []) := by
  rw [pcall_go (fn := I74) rfl rfl rfl]
  have hk : E.keep 74 = false := rfl
  by_cases h : 1 ≤ r
  · simp (disch := first | omega | (simp only [List.length_cons, List.length_nil, List.length_append, List.length_map, List.length_set]; omega) | rfl | (simp only [List.length_cons, List.length_nil, List.length_append, List.length_map, List.length_set, List.length_replicate, List.all_cons, List.all_nil, List.all_append, storable, plainB, Bool.and_self]; done)) only [go_sem, reduceCtorEq, ↓reduceIte, reduceDIte, evI_callP, callPK_some, I74, hk, h]
  · simp (disch := first | omega | (simp only [List.length_cons, List.length_nil, List.length_append, List.length_map, List.length_set]; omega) | rfl | (simp only [List.length_cons, List.length_nil, List.length_append, List.length_map, List.length_set, List.length_replicate, List.all_cons, List.all_nil, List.all_append, storable, plainB, Bool.and_self]; done)) only [go_sem, reduceCtorEq, ↓reduceIte, reduceDIte, evI_callP, callPK_some, I74, hk, h]
theorem s47 (r e : Int) (h1 : 1 ≤ r) (h2 : r < 20) : pcall E 47 [.int .i64 r, .int .i64 e] = some (errV r e, []) := by
  rw [pcall_go (fn := I47) rfl rfl rfl]
  have hk : E.keep 47 = false := rfl
  have q := s74 r
  unfold errV faultV
  by_cases h : e = 0
  · simp (disch := first | omega | (simp only [List.length_cons, List.length_nil, List.length_append, List.length_map, List.length_set]; omega) | rfl | (simp only [List.length_cons, List.length_nil, List.length_append, List.length_map, List.length_set, List.length_replicate, List.all_cons, List.all_nil, List.all_append, storable, plainB, Bool.and_self]; done)) only [go_sem, reduceCtorEq, ↓reduceIte, reduceDIte, evI_callP, callPK_some, I47, hk, h]
  · simp (disch := first | omega | (simp only [List.length_cons, List.length_nil, List.length_append, List.length_map, List.length_set]; omega) | rfl | (simp only [List.length_cons, List.length_nil, List.length_append, List.length_map, List.length_set, List.length_replicate, List.all_cons, List.all_nil, List.all_append, storable, plainB, Bool.and_self]; done)) only [go_sem, reduceCtorEq, ↓reduceIte, reduceDIte, evI_callP, callPK_some, I47, hk, h, q, h1, h2]

/-- The error of a segment's form. -/
def formE (b : List UInt8) : Int :=
  if b.length < 20 then 12
  else if (nth b 12).toNat / 16 * 4 < 20 then 10
  else if b.length < (nth b 12).toNat / 16 * 4 then 12
  else if 1480 < b.length then 11 else 0
theorem shr4 (n : UInt8) : shiftI .shr .u8 (n.toNat : Int) 4 = some (.int .u8 ((n.toNat / 16 : Nat) : Int)) := by
  simp [shiftI, IntKind.bits]
  rw [Int.fdiv_eq_ediv_of_nonneg _ (by omega)]
theorem s62 (g : Bool) (b : List UInt8) : pcall E 62 [bs g b] = some (.int .i64 (formE b), []) := by
  rw [pcall_go (fn := I62) rfl rfl rfl]
  have hk : E.keep 62 = false := rfl
  unfold formE
  by_cases h1 : b.length < 20
  · have h1' : (b.length : Int) < 20 := by omega
    rw [if_pos h1]
    simp (disch := first | omega | (simp only [List.length_cons, List.length_nil, List.length_append, List.length_map, List.length_set]; omega) | rfl | (simp only [List.length_cons, List.length_nil, List.length_append, List.length_map, List.length_set, List.length_replicate, List.all_cons, List.all_nil, List.all_append, storable, plainB, Bool.and_self]; done)) only [go_sem, reduceCtorEq, ↓reduceIte, reduceDIte, evI_callP, callPK_some, I62, hk, h1']
  rw [if_neg h1]
  have h1' : ¬ (b.length : Int) < 20 := by omega
  have hs := shr4 (nth b 12)
  have hlt := (nth b 12).toNat_lt
  obtain ⟨m, hm⟩ : ∃ m, m = (nth b 12).toNat / 16 := ⟨_, rfl⟩
  have hm2 : m < 16 := by omega
  rw [← hm] at hs ⊢
  have w1 : IntKind.i64.wrap (m : Int) = (m : Int) := w64 (by omega) (by omega)
  have w2 : IntKind.i64.wrap ((m : Int) * 4) = (m : Int) * 4 := w64 (by omega) (by omega)
  by_cases h2 : m * 4 < 20
  · have h2' : (m : Int) * 4 < 20 := by omega
    rw [if_pos h2]
    simp (disch := first | omega | (simp only [List.length_cons, List.length_nil, List.length_append, List.length_map, List.length_set]; omega) | rfl | (simp only [List.length_cons, List.length_nil, List.length_append, List.length_map, List.length_set, List.length_replicate, List.all_cons, List.all_nil, List.all_append, storable, plainB, Bool.and_self]; done)) only [go_sem, reduceCtorEq, ↓reduceIte, reduceDIte, evI_callP, callPK_some, I62, hk, h1', hs, w1, w2, h2']
  have h2' : ¬ (m : Int) * 4 < 20 := by omega
  rw [if_neg h2]
  by_cases h3 : b.length < m * 4
  · have h3' : (b.length : Int) < (m : Int) * 4 := by omega
    rw [if_pos h3]
    simp (disch := first | omega | (simp only [List.length_cons, List.length_nil, List.length_append, List.length_map, List.length_set]; omega) | rfl | (simp only [List.length_cons, List.length_nil, List.length_append, List.length_map, List.length_set, List.length_replicate, List.all_cons, List.all_nil, List.all_append, storable, plainB, Bool.and_self]; done)) only [go_sem, reduceCtorEq, ↓reduceIte, reduceDIte, evI_callP, callPK_some, I62, hk, h1', hs, w1, w2, h2', h3']
  have h3' : ¬ (b.length : Int) < (m : Int) * 4 := by omega
  rw [if_neg h3]
  by_cases h4 : 1480 < b.length
  · have h4' : (1480 : Int) < b.length := by omega
    rw [if_pos h4]
    simp (disch := first | omega | (simp only [List.length_cons, List.length_nil, List.length_append, List.length_map, List.length_set]; omega) | rfl | (simp only [List.length_cons, List.length_nil, List.length_append, List.length_map, List.length_set, List.length_replicate, List.all_cons, List.all_nil, List.all_append, storable, plainB, Bool.and_self]; done)) only [go_sem, reduceCtorEq, ↓reduceIte, reduceDIte, evI_callP, callPK_some, I62, hk, h1', hs, w1, w2, h2', h3', h4']
  have h4' : ¬ (1480 : Int) < b.length := by omega
  rw [if_neg h4]
  simp (disch := first | omega | (simp only [List.length_cons, List.length_nil, List.length_append, List.length_map, List.length_set]; omega) | rfl | (simp only [List.length_cons, List.length_nil, List.length_append, List.length_map, List.length_set, List.length_replicate, List.all_cons, List.all_nil, List.all_append, storable, plainB, Bool.and_self]; done)) only [go_sem, reduceCtorEq, ↓reduceIte, reduceDIte, evI_callP, callPK_some, I62, hk, h1', hs, w1, w2, h2', h3', h4']
theorem form_ok {b : List UInt8} (h : formE b = 0) : 20 ≤ b.length ∧ b.length ≤ 1480 := by
  unfold formE at h
  split at h
  · omega
  · split at h
    · omega
    · split at h
      · omega
      · split at h
        · omega
        · omega

theorem row2 (a b size : Nat) (hs : 1 ≤ size ∧ size ≤ 8) (ha : a < 256 ^ size) (hb : b < 256 ^ size) (ha6 : a < 18446744073709551616) (hb6 : b < 18446744073709551616) : pcall E 48 [.int .i64 (size : Int), .rs false 1 [.int .u64 (a : Int), .int .u64 (b : Int)]] =
    some (.tup [.sl 1 0 0 0 (encb size a ++ encb size b).length, .int .i64 0], [.row 0 1 ((encb size a ++ encb size b).map by8) 5]) := by
  have e1 : (UInt64.ofNat a).toNat = a := UInt64.toNat_ofNat_of_lt' ha6
  have e2 : (UInt64.ofNat b).toNat = b := UInt64.toNat_ofNat_of_lt' hb6
  have q := s48 false [UInt64.ofNat a, UInt64.ofNat b] (by simp) (size : Int)
  have hf : fits size [UInt64.ofNat a, UInt64.ofNat b] = true := by simp only [fits, List.all_cons, List.all_nil, e1, e2, ha, hb, decide_true, Bool.and_true]
  have h1 : rowE (size : Int) [UInt64.ofNat a, UInt64.ofNat b] = 0 := by
    unfold rowE
    rw [if_pos ⟨by omega, by simpa using hf⟩]
  have h2 : rowB_ (size : Int) [UInt64.ofNat a, UInt64.ofNat b] = encb size a ++ encb size b := by
    unfold rowB_
    rw [if_pos ⟨by omega, by simpa using hf⟩]
    simp [rowb, e1, e2]
  have hk : E.keep 48 = true := rfl
  simp only [us, List.map_cons, List.map_nil, u64v, e1, e2, h1, h2, hk, decide_true, kres_t] at q
  exact q
/-- What a sum has besides the bytes. -/
def endsB (a b : UInt32) (n : Nat) : List UInt8 := encb 4 a.toNat ++ encb 4 b.toNat ++ (encb 2 6 ++ encb 2 (n % 65536))
theorem endsB_len (a b : UInt32) (n : Nat) : (endsB a b n).length = 12 := by simp only [endsB, List.length_append, encb_length]
theorem s92 (a b : UInt32) (n : Nat) (hn : n ≤ 140737488355328) : pcall E 92 [.int .u32 (a.toNat : Int), .int .u32 (b.toNat : Int), .int .i64 (n : Int)] = some (bs false (endsB a b n), []) := by
  rw [pcall_go (fn := I92) rfl rfl rfl]
  have hk : E.keep 92 = false := rfl
  have ha := a.toNat_lt
  have hb := b.toNat_lt
  have w1 : IntKind.u64.wrap (a.toNat : Int) = (a.toNat : Int) := wu64 (by omega) (by omega)
  have w2 : IntKind.u64.wrap (b.toNat : Int) = (b.toNat : Int) := wu64 (by omega) (by omega)
  have hm : n % 65536 < 65536 := Nat.mod_lt _ (by omega)
  have w3 : IntKind.u16.wrap (n : Int) = ((n % 65536 : Nat) : Int) := by simp [IntKind.wrap, IntKind.signed, IntKind.bits]
  have w4 : IntKind.u64.wrap ((n % 65536 : Nat) : Int) = ((n % 65536 : Nat) : Int) := wu64 (by omega) (by omega)
  have q1 := row2 a.toNat b.toNat 4 (by omega) (by omega) (by omega) (by omega) (by omega)
  have q2 := row2 6 (n % 65536) 2 (by omega) (by omega) (by omega) (by omega) (by omega)
  unfold endsB
  generalize n % 65536 = k at *
  obtain ⟨x1, e1⟩ : ∃ x, x = encb 4 a.toNat ++ encb 4 b.toNat := ⟨_, rfl⟩
  obtain ⟨x2, e2⟩ : ∃ x, x = encb 2 6 ++ encb 2 k := ⟨_, rfl⟩
  have l1 : x1.length = 8 := by rw [e1]; simp only [List.length_append, encb_length]
  have l2 : x2.length = 4 := by rw [e2]; simp only [List.length_append, encb_length]
  obtain ⟨x3, e3⟩ : ∃ x, x = x1 ++ x2 := ⟨_, rfl⟩
  have l3 : x3.length = 12 := by rw [e3, List.length_append, l1, l2]
  rw [← e1, ← e2, ← e3]
  rw [← e1, l1] at q1
  rw [← e2, l2] at q2
  have hap : ∀ h, appR h 1 1 5 (x2.map by8) 4 0 0 8 (some (.row 0 1 (x1.map by8) 5)) = some (.sl 1 0 1 0 12, h.set 0 (.row 1 1 (x3.map by8) 5)) := fun h => by rw [e3]; exact appR_by8 h 1 5 0 0 8 4 x1 x2 l1 (by omega) (by omega)
  simp only [Int.cast_ofNat_Int] at q1 q2
  simp (disch := first | omega | (simp only [List.length_cons, List.length_nil, List.length_append, List.length_map, List.length_set]; omega) | rfl | (simp only [List.length_cons, List.length_nil, List.length_append, List.length_map, List.length_set, List.length_replicate, List.all_cons, List.all_nil, List.all_append, storable, plainB, Bool.and_self]; done)) only [go_sem, reduceCtorEq, ↓reduceIte, reduceDIte, evI_callP, callPK_some, I92, hk, w1, w2, w3, w4, q1, q2, hap, l1, l2, l3]

theorem s63 (g : Bool) (b : List UInt8) (x y : UInt32) (hb : b.length ≤ 1048576) : pcall E 63 [bs g b, .int .u32 (x.toNat : Int), .int .u32 (y.toNat : Int)] = some (.bool (decide (foldN (sumW (endsB x y b.length ++ b)) = 65535)), []) := by
  rw [pcall_go (fn := I63) rfl rfl rfl]
  have hk : E.keep 63 = false := rfl
  have q1 := s92 x y b.length (by omega)
  have l1 := endsB_len x y b.length
  generalize endsB x y b.length = e at *
  have ec : cat [(false, e), (g, b)] = e ++ b := by simp [cat]
  have q2 := fun g1 => s55 g1 [(false, e), (g, b)] (by simp) (by rw [ec, List.length_append]; omega)
  rw [ec] at q2
  simp only [List.map_cons, List.map_nil, encP_eq] at q2
  simp (disch := first | omega | (simp only [List.length_cons, List.length_nil, List.length_append, List.length_map, List.length_set]; omega) | rfl | (simp only [List.length_cons, List.length_nil, List.length_append, List.length_map, List.length_set, List.length_replicate, List.all_cons, List.all_nil, List.all_append, storable, plainB, Bool.and_self]; done)) only [go_sem, reduceCtorEq, ↓reduceIte, reduceDIte, evI_callP, callPK_some, I63, hk, q1, q2]

def segC (p q : Nat) (f : UInt8) (raw : List UInt8) : List AV := [.int .u16 (p : Int), .int .u16 (q : Int), .int .u8 (f.toNat : Int), bs false raw]
theorem segC_eq (p q : Nat) (f : UInt8) (raw : List UInt8) : segC p q f raw = [.int .u16 (p : Int), .int .u16 (q : Int), .int .u8 (f.toNat : Int), bs false raw] := rfl
def parseT (b : List UInt8) (x y : UInt32) : AV :=
  if formE b = 0 then
    if foldN (sumW (endsB x y b.length ++ b)) = 65535 then .tup [.agg (segC (num (b.take 2)) (num ((b.drop 2).take 2)) (nth b 13) b), .nili] else .tup [.agg (segC 0 0 0 []), faultV 2 13]
  else .tup [.agg (segC 0 0 0 []), faultV 1 (formE b)]
theorem s26 (g : Bool) (b : List UInt8) (x y : UInt32) : pcall E 26 [bs g b, .int .u32 (x.toNat : Int), .int .u32 (y.toNat : Int)] = some (parseT b x y, []) := by
  rw [pcall_go (fn := I26) rfl rfl rfl]
  have hk : E.keep 26 = false := rfl
  have q1 := fun g => s62 g b
  have q2 := s47 1 (formE b) (by omega) (by omega)
  have q3 := s47 2 13 (by omega) (by omega)
  have z0 : ((UInt8.toNat 0 : Nat) : Int) = 0 := rfl
  unfold parseT
  by_cases h1 : formE b = 0
  case neg =>
    rw [if_neg h1]
    unfold errV at q2
    rw [if_neg h1] at q2
    simp only [faultV, segC_eq] at q2 ⊢
    generalize formE b = e at *
    simp (disch := first | omega | (simp only [List.length_cons, List.length_nil, List.length_append, List.length_map, List.length_set]; omega) | rfl | (simp only [List.length_cons, List.length_nil, List.length_append, List.length_map, List.length_set, List.length_replicate, List.all_cons, List.all_nil, List.all_append, storable, plainB, Bool.and_self]; done)) only [go_sem, reduceCtorEq, ↓reduceIte, reduceDIte, evI_callP, callPK_some, I26, hk, q1, q2, z0, Int.natCast_zero]
  obtain ⟨h20, h1480⟩ := form_ok h1
  rw [if_pos h1]
  unfold errV at q2
  rw [if_pos h1] at q2
  rw [h1] at q1 q2
  have q4 := fun g => s63 g b x y (by omega)
  by_cases h2 : foldN (sumW (endsB x y b.length ++ b)) = 65535
  case neg =>
    rw [if_neg h2]
    rw [decide_eq_false h2] at q4
    unfold errV at q3
    rw [if_neg (by omega)] at q3
    simp only [faultV, segC_eq] at q3 ⊢
    simp (disch := first | omega | (simp only [List.length_cons, List.length_nil, List.length_append, List.length_map, List.length_set]; omega) | rfl | (simp only [List.length_cons, List.length_nil, List.length_append, List.length_map, List.length_set, List.length_replicate, List.all_cons, List.all_nil, List.all_append, storable, plainB, Bool.and_self]; done)) only [go_sem, reduceCtorEq, ↓reduceIte, reduceDIte, evI_callP, callPK_some, I26, hk, q1, q2, q3, q4, z0, Int.natCast_zero]
  rw [if_pos h2]
  rw [decide_eq_true h2] at q4
  have e0 : spanE b.length 0 2 = 0 := by simp only [spanE]; rw [if_neg (by omega), if_neg (by omega), if_neg (by omega)]
  have e2 : spanE b.length 2 2 = 0 := by simp only [spanE]; rw [if_neg (by omega), if_neg (by omega), if_neg (by omega)]
  have q5 := fun g => s64 g b (by omega) 0 2 (by constructor <;> omega)
  have q6 := fun g => s64 g b (by omega) 2 2 (by constructor <;> omega)
  have t0 : atN b 0 2 = num (b.take 2) := by unfold atN; rw [if_pos ⟨by omega, e0⟩]; rfl
  have t2 : atN b 2 2 = num ((b.drop 2).take 2) := by unfold atN; rw [if_pos ⟨by omega, e2⟩]; rfl
  have u0 : atE b 0 2 = 0 := by unfold atE; rw [if_pos (by omega), e0]
  have u2 : atE b 2 2 = 0 := by unfold atE; rw [if_pos (by omega), e2]
  rw [t0, u0] at q5
  rw [t2, u2] at q6
  have n1 := num_lt_of (l := b.take 2) (n := 2) (by rw [List.length_take]; omega)
  have n2 := num_lt_of (l := (b.drop 2).take 2) (n := 2) (by rw [List.length_take]; omega)
  generalize num (b.take 2) = p at *
  generalize num ((b.drop 2).take 2) = q at *
  have w1 : IntKind.u16.wrap (p : Int) = (p : Int) := wu16 (by omega) (by omega)
  have w2 : IntKind.u16.wrap (q : Int) = (q : Int) := wu16 (by omega) (by omega)
  have q7 := fun g => s43 g b (by omega)
  simp only [segC_eq]
  simp (disch := first | omega | (simp only [List.length_cons, List.length_nil, List.length_append, List.length_map, List.length_set]; omega) | rfl | (simp only [List.length_cons, List.length_nil, List.length_append, List.length_map, List.length_set, List.length_replicate, List.all_cons, List.all_nil, List.all_append, storable, plainB, Bool.and_self]; done)) only [go_sem, reduceCtorEq, ↓reduceIte, reduceDIte, evI_callP, callPK_some, I26, hk, q1, q2, q4, q5, q6, q7, w1, w2]

end Go.Fw.Wd
