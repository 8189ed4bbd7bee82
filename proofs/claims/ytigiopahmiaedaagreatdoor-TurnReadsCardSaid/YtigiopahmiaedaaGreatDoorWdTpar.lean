/-
  Parse of segments on the caller's memory; the law TcpParses at the evaluation, and its end. Conditions: stated at each.
-/
import Derived.Test.YtigiopahmiaedaaGreatDoorWdTmend
set_option linter.unusedVariables false
set_option linter.unusedSimpArgs false
namespace Go.Fw.Wd
open Go.Proofs Code_

/-- A segment whose bytes are memory of the run's own. -/
def segO (p q : Nat) (f : UInt8) (k n : Nat) : List AV := [.int .u16 (p : Int), .int .u16 (q : Int), .int .u8 (f.toNat : Int), .sl 1 k 0 0 n]
theorem segO_eq (p q : Nat) (f : UInt8) (k n : Nat) : segO p q f k n = [.int .u16 (p : Int), .int .u16 (q : Int), .int .u8 (f.toNat : Int), .sl 1 k 0 0 n] := rfl
def tcpE (b : List UInt8) (x y : UInt32) : Int := if formE b = 0 then (if foldN (sumW (endsB x y b.length ++ b)) = 65535 then 0 else 13) else formE b
def tcpR (b : List UInt8) : Int := if formE b = 0 then 2 else 1
theorem m26 (g : Bool) (b : List UInt8) (x y : UInt32) (hE : tcpE b x y = 0) : hcall E 26 [bs g b, .int .u32 (x.toNat : Int), .int .u32 (y.toNat : Int)] [] =
    some (.tup [.agg (segO (n2 b 0) (n2 b 2) (nth b 13) 1 b.length), .nili], [.cells true (segO (n2 b 0) (n2 b 2) (nth b 13) 1 b.length) 74, .row 0 1 (b.map by8) 5]) := by
  rw [hcall_go (fn := I26) rfl rfl rfl]
  have h1 : formE b = 0 := by
    by_cases h : formE b = 0
    · exact h
    · unfold tcpE at hE; rw [if_neg h] at hE; exact absurd hE h
  have h2 : foldN (sumW (endsB x y b.length ++ b)) = 65535 := by
    by_cases h : foldN (sumW (endsB x y b.length ++ b)) = 65535
    · exact h
    · unfold tcpE at hE; rw [if_pos h1, if_neg h] at hE; cases hE
  have q1 := fun g => s62 g b
  have q2 := s47 1 (formE b) (by omega) (by omega)
  obtain ⟨h20, h1480⟩ := form_ok h1
  unfold errV at q2
  rw [if_pos h1] at q2
  rw [h1] at q1 q2
  have q4 := fun g => s63 g b x y (by omega)
  rw [decide_eq_true h2] at q4
  have q5 := fun g => at2 g b (by omega) 0 (by omega)
  have q6 := fun g => at2 g b (by omega) 2 (by omega)
  have l1 := n2_lt b 0
  have l2 := n2_lt b 2
  generalize n2 b 0 = p at *
  generalize n2 b 2 = q at *
  have w1 : IntKind.u16.wrap (p : Int) = (p : Int) := wu16 (by omega) (by omega)
  have w2 : IntKind.u16.wrap (q : Int) = (q : Int) := wu16 (by omega) (by omega)
  have q7 := fun g => s43 g b (by omega)
  have b13 : (13 : Int) < b.length := by omega
  simp only [segO_eq, Int.natCast_zero, Int.cast_ofNat_Int] at q5 q6 ⊢
  clear h2
  simp (disch := first | omega | (simp only [List.length_cons, List.length_nil, List.length_append, List.length_map, List.length_set]; omega) | rfl | (simp only [List.length_cons, List.length_nil, List.length_append, List.length_map, List.length_set, List.length_replicate, List.all_cons, List.all_nil, List.all_append, storable, plainB, Bool.and_self]; done)) only [go_sem, reduceCtorEq, ↓reduceIte, reduceDIte, evI_callP, callPK_some, I26, q1, q2, q4, q5, q6, q7, w1, w2, b13]
theorem me26 (g : Bool) (b : List UInt8) (x y : UInt32) (hE : ¬ tcpE b x y = 0) : ∃ c, hcall E 26 [bs g b, .int .u32 (x.toNat : Int), .int .u32 (y.toNat : Int)] [] =
    some (.tup [.agg (segC 0 0 0 []), errV (tcpR b) (tcpE b x y)], [c]) := by
  rw [hcall_go (fn := I26) rfl rfl rfl]
  refine ⟨.cells true (segC 0 0 0 []) 74, ?_⟩
  have q1 := fun g => s62 g b
  have q2 := s47 1 (formE b) (by omega) (by omega)
  have q3 := s47 2 13 (by omega) (by omega)
  have z0 : ((UInt8.toNat 0 : Nat) : Int) = 0 := rfl
  by_cases h1 : formE b = 0
  case neg =>
    have e1 : tcpE b x y = formE b := by unfold tcpE; rw [if_neg h1]
    have e2 : tcpR b = 1 := by unfold tcpR; rw [if_neg h1]
    rw [e1, e2]
    unfold errV at q2 ⊢
    rw [if_neg h1] at q2 ⊢
    simp only [faultV, segC_eq] at q2 ⊢
    clear e1 e2 hE q3
    generalize formE b = e at *
    simp (disch := first | omega | (simp only [List.length_cons, List.length_nil, List.length_append, List.length_map, List.length_set]; omega) | rfl | (simp only [List.length_cons, List.length_nil, List.length_append, List.length_map, List.length_set, List.length_replicate, List.all_cons, List.all_nil, List.all_append, storable, plainB, Bool.and_self]; done)) only [go_sem, reduceCtorEq, ↓reduceIte, reduceDIte, evI_callP, callPK_some, I26, q1, q2, z0, Int.natCast_zero]
  obtain ⟨h20, h1480⟩ := form_ok h1
  have h2 : ¬ foldN (sumW (endsB x y b.length ++ b)) = 65535 := fun h => hE (by unfold tcpE; rw [if_pos h1, if_pos h])
  have e1 : tcpE b x y = 13 := by unfold tcpE; rw [if_pos h1, if_neg h2]
  have e2 : tcpR b = 2 := by unfold tcpR; rw [if_pos h1]
  rw [e1, e2]
  unfold errV at q2 q3 ⊢
  rw [if_pos h1] at q2
  rw [if_neg (by omega)] at q3 ⊢
  rw [h1] at q1 q2
  have q4 := fun g => s63 g b x y (by omega)
  rw [decide_eq_false h2] at q4
  simp only [faultV, segC_eq] at q3 ⊢
  clear h2 hE e1
  simp (disch := first | omega | (simp only [List.length_cons, List.length_nil, List.length_append, List.length_map, List.length_set]; omega) | rfl | (simp only [List.length_cons, List.length_nil, List.length_append, List.length_map, List.length_set, List.length_replicate, List.all_cons, List.all_nil, List.all_append, storable, plainB, Bool.and_self]; done)) only [go_sem, reduceCtorEq, ↓reduceIte, reduceDIte, evI_callP, callPK_some, I26, q1, q2, q3, q4, z0, Int.natCast_zero]
/-- What the document's Parse tells. -/
def tcpD (b : List UInt8) (x y : UInt32) : List AV := if tcpE b x y = 0 then segC (n2 b 0) (n2 b 2) (nth b 13) b else segC 0 0 0 []
theorem s32 (g : Bool) (b : List UInt8) (hb : b.length ≤ 1048576) (x y : UInt32) : pcall E 32 [bs g b, .int .u32 (x.toNat : Int), .int .u32 (y.toNat : Int)] = some (.tup [.agg (tcpD b x y), .agg (faultC (tcpR b) (tcpE b x y))], []) := by
  rw [pcall_go (fn := I32) rfl rfl rfl]
  have hk : E.keep 32 = false := rfl
  have f12 := new1 12
  have f11 := new1 11
  have f10 := new1 10
  have f13 := new2 13
  rw [faultC_pos _ (by omega)] at f12 f11 f10 f13
  have z0 : ((UInt8.toNat 0 : Nat) : Int) = 0 := rfl
  by_cases h1 : b.length < 20
  · have h1' : (b.length : Int) < 20 := by omega
    have e : formE b = 12 := by unfold formE; rw [if_pos h1]
    have e1 : tcpE b x y = 12 := by unfold tcpE; rw [e]; rfl
    have e2 : tcpR b = 1 := by unfold tcpR; rw [e]; rfl
    have e3 : tcpD b x y = segC 0 0 0 [] := by unfold tcpD; rw [e1]; rfl
    rw [e1, e2, e3, faultC_pos _ (by omega)]
    simp only [segC_eq]
    simp (disch := first | omega | (simp only [List.length_cons, List.length_nil, List.length_append, List.length_map, List.length_set]; omega) | rfl | (simp only [List.length_cons, List.length_nil, List.length_append, List.length_map, List.length_set, List.length_replicate, List.all_cons, List.all_nil, List.all_append, storable, plainB, Bool.and_self]; done)) only [go_sem, reduceCtorEq, ↓reduceIte, reduceDIte, evI_callP, callPK_some, I32, hk, h1', f12, z0, Int.natCast_zero]
  have h1' : ¬ (b.length : Int) < 20 := by omega
  have b12 : (12 : Int) < b.length := by omega
  have b13 : (13 : Int) < b.length := by omega
  have hlt := (nth b 12).toNat_lt
  obtain ⟨m, hm⟩ : ∃ m, m = (nth b 12).toNat / 16 := ⟨_, rfl⟩
  have hm2 : m < 16 := by omega
  have hq : IntKind.u8.wrap (Int.tdiv ((nth b 12).toNat : Int) 16) = (m : Int) := by
    have h1 : Int.tdiv ((nth b 12).toNat : Int) 16 = (((nth b 12).toNat / 16 : Nat) : Int) := by rw [Int.tdiv_eq_ediv_of_nonneg (by omega), Int.natCast_ediv]; rfl
    rw [h1, ← hm]
    exact wu8 (by omega) (by omega)
  have w1 : IntKind.i64.wrap (m : Int) = (m : Int) := w64 (by omega) (by omega)
  have w2 : IntKind.i64.wrap ((m : Int) * 4) = (m : Int) * 4 := w64 (by omega) (by omega)
  by_cases h2 : m * 4 < 20
  · have h2' : (m : Int) * 4 < 20 := by omega
    have e : formE b = 10 := by unfold formE; rw [if_neg h1, ← hm, if_pos h2]
    have e1 : tcpE b x y = 10 := by unfold tcpE; rw [e]; rfl
    have e2 : tcpR b = 1 := by unfold tcpR; rw [e]; rfl
    have e3 : tcpD b x y = segC 0 0 0 [] := by unfold tcpD; rw [e1]; rfl
    rw [e1, e2, e3, faultC_pos _ (by omega)]
    simp only [segC_eq]
    simp (disch := first | omega | (simp only [List.length_cons, List.length_nil, List.length_append, List.length_map, List.length_set]; omega) | rfl | (simp only [List.length_cons, List.length_nil, List.length_append, List.length_map, List.length_set, List.length_replicate, List.all_cons, List.all_nil, List.all_append, storable, plainB, Bool.and_self]; done)) only [go_sem, reduceCtorEq, ↓reduceIte, reduceDIte, evI_callP, callPK_some, I32, hk, h1', h2', b12, hq, w1, w2, f10, z0, Int.natCast_zero]
  have h2' : ¬ (m : Int) * 4 < 20 := by omega
  by_cases h3 : b.length < m * 4
  · have h3' : (b.length : Int) < (m : Int) * 4 := by omega
    have e : formE b = 12 := by unfold formE; rw [if_neg h1, ← hm, if_neg h2, if_pos h3]
    have e1 : tcpE b x y = 12 := by unfold tcpE; rw [e]; rfl
    have e2 : tcpR b = 1 := by unfold tcpR; rw [e]; rfl
    have e3 : tcpD b x y = segC 0 0 0 [] := by unfold tcpD; rw [e1]; rfl
    rw [e1, e2, e3, faultC_pos _ (by omega)]
    simp only [segC_eq]
    simp (disch := first | omega | (simp only [List.length_cons, List.length_nil, List.length_append, List.length_map, List.length_set]; omega) | rfl | (simp only [List.length_cons, List.length_nil, List.length_append, List.length_map, List.length_set, List.length_replicate, List.all_cons, List.all_nil, List.all_append, storable, plainB, Bool.and_self]; done)) only [go_sem, reduceCtorEq, ↓reduceIte, reduceDIte, evI_callP, callPK_some, I32, hk, h1', h2', h3', b12, hq, w1, w2, f12, z0, Int.natCast_zero]
  have h3' : ¬ (b.length : Int) < (m : Int) * 4 := by omega
  by_cases h4 : 1480 < b.length
  · have h4' : (1480 : Int) < b.length := by omega
    have e : formE b = 11 := by unfold formE; rw [if_neg h1, ← hm, if_neg h2, if_neg h3, if_pos h4]
    have e1 : tcpE b x y = 11 := by unfold tcpE; rw [e]; rfl
    have e2 : tcpR b = 1 := by unfold tcpR; rw [e]; rfl
    have e3 : tcpD b x y = segC 0 0 0 [] := by unfold tcpD; rw [e1]; rfl
    rw [e1, e2, e3, faultC_pos _ (by omega)]
    simp only [segC_eq]
    simp (disch := first | omega | (simp only [List.length_cons, List.length_nil, List.length_append, List.length_map, List.length_set]; omega) | rfl | (simp only [List.length_cons, List.length_nil, List.length_append, List.length_map, List.length_set, List.length_replicate, List.all_cons, List.all_nil, List.all_append, storable, plainB, Bool.and_self]; done)) only [go_sem, reduceCtorEq, ↓reduceIte, reduceDIte, evI_callP, callPK_some, I32, hk, h1', h2', h3', h4', b12, hq, w1, w2, f11, z0, Int.natCast_zero]
  have h4' : ¬ (1480 : Int) < b.length := by omega
  have e : formE b = 0 := by unfold formE; rw [if_neg h1, ← hm, if_neg h2, if_neg h3, if_neg h4]
  have e2 : tcpR b = 2 := by unfold tcpR; rw [e]; rfl
  have q4 := fun g => s66 g b x y (by omega)
  by_cases h5 : foldN (sumW (endsB x y b.length ++ b)) = 65535
  case neg =>
    have e1 : tcpE b x y = 13 := by unfold tcpE; rw [e, if_pos rfl, if_neg h5]
    have e3 : tcpD b x y = segC 0 0 0 [] := by unfold tcpD; rw [e1]; rfl
    rw [decide_eq_false h5] at q4
    rw [e1, e2, e3, faultC_pos _ (by omega)]
    simp only [segC_eq]
    clear h5 hm
    simp (disch := first | omega | (simp only [List.length_cons, List.length_nil, List.length_append, List.length_map, List.length_set]; omega) | rfl | (simp only [List.length_cons, List.length_nil, List.length_append, List.length_map, List.length_set, List.length_replicate, List.all_cons, List.all_nil, List.all_append, storable, plainB, Bool.and_self]; done)) only [go_sem, reduceCtorEq, ↓reduceIte, reduceDIte, evI_callP, callPK_some, I32, hk, h1', h2', h3', h4', b12, hq, w1, w2, q4, f13, z0, Int.natCast_zero]
  have e1 : tcpE b x y = 0 := by unfold tcpE; rw [e, if_pos rfl, if_pos h5]
  have e3 : tcpD b x y = segC (n2 b 0) (n2 b 2) (nth b 13) b := by unfold tcpD; rw [e1]; rfl
  rw [decide_eq_true h5] at q4
  rw [e1, e2, e3, faultC_zero]
  have k0 := fun g => s42 g b (by omega)
  have k2 := fun g => s42 g (b.drop 2) (by rw [List.length_drop]; omega)
  have n22 : n2 (b.drop 2) 0 = n2 b 2 := by unfold n2; rw [List.drop_drop]
  rw [n22] at k2
  obtain ⟨d, hd⟩ : ∃ d, d = b.drop 2 := ⟨_, rfl⟩
  have hs2 : ∀ h g, sliceK h 1 (.rs g 1 (b.map by8)) (some b.length) (some (.int .i64 2)) none = some (.rs g 1 (d.map by8), h) := fun h g => by
    rw [hd]; exact slice_by_in h g b .i64 2 (by omega) (by omega)
  rw [← hd] at k2
  have l1 := n2_lt b 0
  have l2 := n2_lt b 2
  generalize n2 b 0 = p at *
  generalize n2 b 2 = q at *
  have v1 : IntKind.u16.wrap (p : Int) = (p : Int) := wu16 (by omega) (by omega)
  have v2 : IntKind.u16.wrap (q : Int) = (q : Int) := wu16 (by omega) (by omega)
  have a1 : ∀ h i n, n = b.length → appR h 1 1 5 (b.map by8) n i 0 0 (some (.row 0 1 [] 5)) = some (.sl 1 i 1 0 b.length, h.set i (.row 1 1 (b.map by8) 5)) := fun h i n hn => by
    have := appR_by8 h 1 5 i 0 0 b.length [] b rfl (by omega) (by omega)
    rw [hn]
    simpa using this
  simp only [segC_eq]
  clear h5 hm hd n22 e3
  simp (disch := first | omega | (simp only [List.length_cons, List.length_nil, List.length_append, List.length_map, List.length_set]; omega) | rfl | (simp only [List.length_cons, List.length_nil, List.length_append, List.length_map, List.length_set, List.length_replicate, List.all_cons, List.all_nil, List.all_append, storable, plainB, Bool.and_self]; done)) only [go_sem, reduceCtorEq, ↓reduceIte, reduceDIte, evI_callP, callPK_some, I32, hk, h1', h2', h3', h4', b12, b13, hq, w1, w2, q4, k0, k2, hs2, v1, v2, a1]
end Go.Fw.Wd
