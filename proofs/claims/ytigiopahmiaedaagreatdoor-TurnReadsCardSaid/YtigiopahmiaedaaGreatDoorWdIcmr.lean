/-
  Messages: what the document's functions answer. Conditions: stated at each.
-/
import Derived.Test.YtigiopahmiaedaaGreatDoorWdIcmp
set_option linter.unusedVariables false
set_option linter.unusedSimpArgs false
namespace Go.Fw.Wd
open Go.Proofs Code_

theorem s35 (g : Bool) (b : List UInt8) (hb : b.length ≤ 1048576) : pcall E 35 [bs g b] = some (.tup [.agg (mgC (icM b)), .agg (faultC (icE b).1 (icE b).2)], []) := by
  rw [pcall_go (fn := I35) rfl rfl rfl]
  have hk : E.keep 35 = false := rfl
  have f12 := new1 12
  have f11 := new1 11
  have f13 := new2 13
  rw [faultC_pos _ (by omega)] at f12 f11 f13
  unfold icM icE
  by_cases h1 : b.length < 8
  · have h1' : (b.length : Int) < 8 := by omega
    simp only [h1, if_true, Int.reduceEq, if_false, mgC_zero]
    rw [faultC_pos _ (by omega)]
    simp (disch := first | omega | (simp only [List.length_cons, List.length_nil, List.length_append, List.length_map, List.length_set]; omega) | rfl | (simp only [List.length_cons, List.length_nil, List.length_append, List.length_map, List.length_set, List.length_replicate, List.all_cons, List.all_nil, List.all_append, storable, plainB, Bool.and_self]; done)) only [go_sem, reduceCtorEq, ↓reduceIte, reduceDIte, evI_callP, callPK_some, I35, hk, h1', f12]
  have h1' : ¬ (b.length : Int) < 8 := by omega
  by_cases h2 : 1480 < b.length
  · have h2' : (1480 : Int) < (b.length : Int) := by omega
    simp only [h1, h2, if_true, Int.reduceEq, if_false, mgC_zero]
    rw [faultC_pos _ (by omega)]
    simp (disch := first | omega | (simp only [List.length_cons, List.length_nil, List.length_append, List.length_map, List.length_set]; omega) | rfl | (simp only [List.length_cons, List.length_nil, List.length_append, List.length_map, List.length_set, List.length_replicate, List.all_cons, List.all_nil, List.all_append, storable, plainB, Bool.and_self]; done)) only [go_sem, reduceCtorEq, ↓reduceIte, reduceDIte, evI_callP, callPK_some, I35, hk, h1', h2', f11]
  have h2' : ¬ (1480 : Int) < (b.length : Int) := by omega
  have qt := fun g => s67 g b (by omega)
  by_cases h3 : foldN (sumW b) = 65535
  case neg =>
    have h3' : ¬ ((foldN (sumW b) : Nat) : Int) = 65535 := by omega
    simp only [h1, h2, h3, not_false_eq_true, if_true, Int.reduceEq, if_false, mgC_zero]
    rw [faultC_pos _ (by omega)]
    simp (disch := first | omega | (simp only [List.length_cons, List.length_nil, List.length_append, List.length_map, List.length_set]; omega) | rfl | (simp only [List.length_cons, List.length_nil, List.length_append, List.length_map, List.length_set, List.length_replicate, List.all_cons, List.all_nil, List.all_append, storable, plainB, Bool.and_self]; done)) only [go_sem, reduceCtorEq, ↓reduceIte, reduceDIte, evI_callP, callPK_some, I35, hk, h1', h2', h3', qt, f13]
  have h3' : ((foldN (sumW b) : Nat) : Int) = 65535 := by omega
  simp only [h1, h2, h3, not_true, if_true, Int.reduceEq, if_false]
  rw [faultC_zero]
  unfold icR
  obtain ⟨d, hd⟩ : ∃ d, d = b.drop 8 := ⟨_, rfl⟩
  rw [← hd]
  have dl : d.length = b.length - 8 := by rw [hd, List.length_drop]
  have hs8 : ∀ h g, sliceK h 1 (.rs g 1 (b.map by8)) (some b.length) (some (.int .i64 8)) none = some (.rs g 1 (d.map by8), h) := fun h g => by
    rw [hd]
    exact slice_by_in h g b .i64 8 (by omega) (by omega)
  have b0 : (0 : Int) < b.length := by omega
  have b1 : (1 : Int) < b.length := by omega
  have b4 : (4 : Int) < b.length := by omega
  have b5 : (5 : Int) < b.length := by omega
  have b6 : (6 : Int) < b.length := by omega
  have b7 : (7 : Int) < b.length := by omega
  have w4 : ∀ n : Int, 0 ≤ n → n ≤ 100 → IntKind.i64.wrap n = n := fun n h1 h2 => w64 (by omega) (by omega)
  have apE : ∀ g, appE2 1 1 (.rs g 1 (d.map by8)) = some (.rs false 1 (d.map by8)) := fun g => appE2_by8 g _ (by omega)
  clear hd
  simp only [mgC_eq]
  simp (disch := first | omega | (simp only [List.length_cons, List.length_nil, List.length_append, List.length_map, List.length_set]; omega) | rfl | (simp only [List.length_cons, List.length_nil, List.length_append, List.length_map, List.length_set, List.length_replicate, List.all_cons, List.all_nil, List.all_append, storable, plainB, Bool.and_self]; done)) only [go_sem, reduceCtorEq, ↓reduceIte, reduceDIte, evI_callP, callPK_some, I35, hk, h1', h2', h3', qt, b0, b1, b4, b5, b6, b7, hs8, apE, dl, w4, L35_0_lp, L35_0_go, B35_0, iaddrA_ref, stR_cells]
theorem ref_bytes (m : Mg) : ((m.ty :: m.co :: 0 :: 0 :: m.r0 :: m.r1 :: m.r2 :: m.r3 :: m.body).set 2 (UInt8.ofNat (icS m / 256))).set 3 (UInt8.ofNat (icS m)) = icB m := by
  unfold icB
  rw [two_eq]
  rfl
theorem s71 (m : Mg) : pcall E 71 [.agg (mgC m)] = some (.int .i64 (clsN m.ty), []) := by
  rw [pcall_go (fn := I71) rfl rfl rfl]
  have hk : E.keep 71 = false := rfl
  have t0 := ty_eq m.ty 0 (by omega)
  have t3 := ty_eq m.ty 3 (by omega)
  have t4 := ty_eq m.ty 4 (by omega)
  have t8 := ty_eq m.ty 8 (by omega)
  have t11 := ty_eq m.ty 11 (by omega)
  have t12 := ty_eq m.ty 12 (by omega)
  simp only [Int.cast_ofNat_Int, Int.natCast_zero] at t0 t3 t4 t8 t11 t12
  unfold clsN
  simp only [show (3 : UInt8) = UInt8.ofNat 3 from rfl, show (4 : UInt8) = UInt8.ofNat 4 from rfl, show (8 : UInt8) = UInt8.ofNat 8 from rfl, show (11 : UInt8) = UInt8.ofNat 11 from rfl, show (12 : UInt8) = UInt8.ofNat 12 from rfl, show (0 : UInt8) = UInt8.ofNat 0 from rfl, ← t0, ← t3, ← t4, ← t8, ← t11, ← t12, mgC_eq]
  generalize (m.ty.toNat : Int) = t at *
  by_cases h3 : t = 3
  · subst h3; simp (disch := first | omega | (simp only [List.length_cons, List.length_nil, List.length_append, List.length_map, List.length_set]; omega) | rfl | (simp only [List.length_cons, List.length_nil, List.length_append, List.length_map, List.length_set, List.length_replicate, List.all_cons, List.all_nil, List.all_append, storable, plainB, Bool.and_self]; done)) only [go_sem, reduceCtorEq, ↓reduceIte, reduceDIte, evI_callP, callPK_some, I71, hk]
  by_cases h4 : t = 4
  · subst h4; simp (disch := first | omega | (simp only [List.length_cons, List.length_nil, List.length_append, List.length_map, List.length_set]; omega) | rfl | (simp only [List.length_cons, List.length_nil, List.length_append, List.length_map, List.length_set, List.length_replicate, List.all_cons, List.all_nil, List.all_append, storable, plainB, Bool.and_self]; done)) only [go_sem, reduceCtorEq, ↓reduceIte, reduceDIte, evI_callP, callPK_some, I71, hk]
  by_cases h11 : t = 11
  · subst h11; simp (disch := first | omega | (simp only [List.length_cons, List.length_nil, List.length_append, List.length_map, List.length_set]; omega) | rfl | (simp only [List.length_cons, List.length_nil, List.length_append, List.length_map, List.length_set, List.length_replicate, List.all_cons, List.all_nil, List.all_append, storable, plainB, Bool.and_self]; done)) only [go_sem, reduceCtorEq, ↓reduceIte, reduceDIte, evI_callP, callPK_some, I71, hk]
  by_cases h12 : t = 12
  · subst h12; simp (disch := first | omega | (simp only [List.length_cons, List.length_nil, List.length_append, List.length_map, List.length_set]; omega) | rfl | (simp only [List.length_cons, List.length_nil, List.length_append, List.length_map, List.length_set, List.length_replicate, List.all_cons, List.all_nil, List.all_append, storable, plainB, Bool.and_self]; done)) only [go_sem, reduceCtorEq, ↓reduceIte, reduceDIte, evI_callP, callPK_some, I71, hk]
  by_cases h8 : t = 8
  · subst h8; simp (disch := first | omega | (simp only [List.length_cons, List.length_nil, List.length_append, List.length_map, List.length_set]; omega) | rfl | (simp only [List.length_cons, List.length_nil, List.length_append, List.length_map, List.length_set, List.length_replicate, List.all_cons, List.all_nil, List.all_append, storable, plainB, Bool.and_self]; done)) only [go_sem, reduceCtorEq, ↓reduceIte, reduceDIte, evI_callP, callPK_some, I71, hk]
  by_cases h0 : t = 0
  · subst h0; simp (disch := first | omega | (simp only [List.length_cons, List.length_nil, List.length_append, List.length_map, List.length_set]; omega) | rfl | (simp only [List.length_cons, List.length_nil, List.length_append, List.length_map, List.length_set, List.length_replicate, List.all_cons, List.all_nil, List.all_append, storable, plainB, Bool.and_self]; done)) only [go_sem, reduceCtorEq, ↓reduceIte, reduceDIte, evI_callP, callPK_some, I71, hk]
  simp (disch := first | omega | (simp only [List.length_cons, List.length_nil, List.length_append, List.length_map, List.length_set]; omega) | rfl | (simp only [List.length_cons, List.length_nil, List.length_append, List.length_map, List.length_set, List.length_replicate, List.all_cons, List.all_nil, List.all_append, storable, plainB, Bool.and_self]; done)) only [go_sem, reduceCtorEq, ↓reduceIte, reduceDIte, evI_callP, callPK_some, I71, hk, h3, h11, h4, h12, h8, h0]
theorem s37 (m : Mg) : pcall E 37 [.agg (mgC m)] = some (.int .u16 ((mrkN m : Nat) : Int), []) := by
  rw [pcall_go (fn := I37) rfl rfl rfl]
  have hk : E.keep 37 = false := rfl
  have h0 := m.r0.toNat_lt
  have h1 := m.r1.toNat_lt
  have e : ((mrkN m : Nat) : Int) = (m.r0.toNat : Int) * 256 + (m.r1.toNat : Int) := by unfold mrkN; omega
  have w1 : IntKind.i64.wrap ((m.r0.toNat : Int) * 256) = (m.r0.toNat : Int) * 256 := w64 (by omega) (by omega)
  have w2 : IntKind.i64.wrap ((m.r0.toNat : Int) * 256 + (m.r1.toNat : Int)) = ((mrkN m : Nat) : Int) := by rw [e]; exact w64 (by omega) (by omega)
  have w3 : IntKind.u16.wrap ((mrkN m : Nat) : Int) = ((mrkN m : Nat) : Int) := by rw [e]; exact wu16 (by omega) (by omega)
  simp only [mgC_eq]
  simp (disch := first | omega | (simp only [List.length_cons, List.length_nil, List.length_append, List.length_map, List.length_set]; omega) | rfl | (simp only [List.length_cons, List.length_nil, List.length_append, List.length_map, List.length_set, List.length_replicate, List.all_cons, List.all_nil, List.all_append, storable, plainB, Bool.and_self]; done)) only [go_sem, reduceCtorEq, ↓reduceIte, reduceDIte, evI_callP, callPK_some, I37, hk, wbi, w1, w2, w3, iaddrA_rp]
theorem s41 (m : Mg) (hb : m.body.length ≤ 1048576) : pcall E 41 [.agg (mgC m)] = some (.tup [.agg (pkC (inP m)), .agg (faultC (inE m).1 (inE m).2)], []) := by
  rw [pcall_go (fn := I41) rfl rfl rfl]
  have hk : E.keep 41 = false := rfl
  have qc := s71 m
  have qk := fun g => s72 g m.body hb
  have f14 := new16 14
  have f12 := new1 12
  rw [faultC_pos _ (by omega)] at f14 f12
  unfold inP inE
  simp only [mgC_eq] at qc ⊢
  generalize clsN m.ty = k at *
  by_cases h1 : k = 1
  case neg =>
    simp only [h1, not_false_eq_true, if_true, Int.reduceEq, if_false, pkC_zero]
    rw [faultC_pos _ (by omega)]
    simp (disch := first | omega | (simp only [List.length_cons, List.length_nil, List.length_append, List.length_map, List.length_set]; omega) | rfl | (simp only [List.length_cons, List.length_nil, List.length_append, List.length_map, List.length_set, List.length_replicate, List.all_cons, List.all_nil, List.all_append, storable, plainB, Bool.and_self]; done)) only [go_sem, reduceCtorEq, ↓reduceIte, reduceDIte, evI_callP, callPK_some, I41, hk, qc, h1, f14]
  subst h1
  by_cases h2 : (pkE false m.body).2 = 0
  case neg =>
    simp only [h2, not_true, not_false_eq_true, if_true, if_false, pkC_zero]
    rw [faultC_pos _ h2] at qk ⊢
    generalize (pkE false m.body).1 = r at *
    generalize (pkE false m.body).2 = n at *
    generalize pkOf false m.body = p at *
    simp only [pkC_eq] at qk
    simp (disch := first | omega | (simp only [List.length_cons, List.length_nil, List.length_append, List.length_map, List.length_set]; omega) | rfl | (simp only [List.length_cons, List.length_nil, List.length_append, List.length_map, List.length_set, List.length_replicate, List.all_cons, List.all_nil, List.all_append, storable, plainB, Bool.and_self]; done)) only [go_sem, reduceCtorEq, ↓reduceIte, reduceDIte, evI_callP, callPK_some, I41, hk, qc, qk, h2]
  rw [h2, faultC_zero] at qk
  generalize pkOf false m.body = p at *
  simp only [pkC_eq] at qk
  by_cases h3 : p.body.length < 8
  · have h3' : (p.body.length : Int) < 8 := by omega
    simp only [h2, h3, not_true, if_true, Int.reduceEq, if_false, pkC_zero]
    rw [faultC_pos _ (by omega)]
    simp (disch := first | omega | (simp only [List.length_cons, List.length_nil, List.length_append, List.length_map, List.length_set]; omega) | rfl | (simp only [List.length_cons, List.length_nil, List.length_append, List.length_map, List.length_set, List.length_replicate, List.all_cons, List.all_nil, List.all_append, storable, plainB, Bool.and_self]; done)) only [go_sem, reduceCtorEq, ↓reduceIte, reduceDIte, evI_callP, callPK_some, I41, hk, qc, qk, h3', f12, store_agg, stA_cells]
  · have h3' : ¬ (p.body.length : Int) < 8 := by omega
    simp only [h2, h3, not_true, if_true, Int.reduceEq, if_false, pkC_eq]
    rw [faultC_zero]
    simp (disch := first | omega | (simp only [List.length_cons, List.length_nil, List.length_append, List.length_map, List.length_set]; omega) | rfl | (simp only [List.length_cons, List.length_nil, List.length_append, List.length_map, List.length_set, List.length_replicate, List.all_cons, List.all_nil, List.all_append, storable, plainB, Bool.and_self]; done)) only [go_sem, reduceCtorEq, ↓reduceIte, reduceDIte, evI_callP, callPK_some, I41, hk, qc, qk, h3']
end Go.Fw.Wd
