/-
  Messages: what the document's functions answer. Conditions: stated at each.
-/
import Derived.Test.YtigiopahmiaedaaDoorWdIcmp
set_option linter.unusedVariables false
set_option linter.unusedSimpArgs false
namespace Go.Fw.Wd
open Go.Proofs Code_

theorem s35 (g : Bool) (b : List UInt8) (hb : b.length ≤ 1048576) : pcall E 35 [bs g b] = some (.tup [.agg (mgC (icM b)), .agg (faultC (icE b).1 (icE b).2)], []) := by
  rw [pcall_go (fn := I35) rfl rfl rfl]
  have hk : E.keep 35 = false := rfl
  have f12 := new1 12
  have f11 := new1 11
  have f13 := new2 13
  rw [faultC_pos _ (by omega)] at f12 f11 f13
  unfold icM icE
  by_cases h1 : b.length < 8
  · have h1' : (b.length : Int) < 8 := by omega
    simp only [h1, if_true, Int.reduceEq, if_false, mgC_zero]
    rw [faultC_pos _ (by omega)]
    simp (disch := first | omega | (simp only [List.length_cons, List.length_nil, List.length_append, List.length_map, List.length_set]; omega) | rfl | (simp only [List.length_cons, List.length_nil, List.length_append, List.length_map, List.length_set, List.length_replicate, List.all_cons, List.all_nil, List.all_append, storable, plainB, Bool.and_self]; done)) only [go_sem, reduceCtorEq, ↓reduceIte, reduceDIte, evI_callP, callPK_some, I35, hk, h1', f12]
  have h1' : ¬ (b.length : Int) < 8 := by omega
  by_cases h2 : 1480 < b.length
  · have h2' : (1480 : Int) < (b.length : Int) := by omega
    simp only [h1, h2, if_true, Int.reduceEq, if_false, mgC_zero]
    rw [faultC_pos _ (by omega)]
    simp (disch := first | omega | (simp only [List.length_cons, List.length_nil, List.length_append, List.length_map, List.length_set]; omega) | rfl | (simp only [List.length_cons, List.length_nil, List.length_append, List.length_map, List.length_set, List.length_replicate, List.all_cons, List.all_nil, List.all_append, storable, plainB, Bool.and_self]; done)) only [go_sem, reduceCtorEq, ↓reduceIte, reduceDIte, evI_callP, callPK_some, I35, hk, h1', h2', f11]
  have h2' : ¬ (1480 : Int) < (b.length : Int) := by omega
  have qt := fun g => s66 g b (by omega)
  by_cases h3 : foldN (sumW b) = 65535
  case neg =>
    have h3' : ¬ ((foldN (sumW b) : Nat) : Int) = 65535 := by omega
    simp only [h1, h2, h3, not_false_eq_true, if_true, Int.reduceEq, if_false, mgC_zero]
    rw [faultC_pos _ (by omega)]
    simp (disch := first | omega | (simp only [List.length_cons, List.length_nil, List.length_append, List.length_map, List.length_set]; omega) | rfl | (simp only [List.length_cons, List.length_nil, List.length_append, List.length_map, List.length_set, List.length_replicate, List.all_cons, List.all_nil, List.all_append, storable, plainB, Bool.and_self]; done)) only [go_sem, reduceCtorEq, ↓reduceIte, reduceDIte, evI_callP, callPK_some, I35, hk, h1', h2', h3', qt, f13]
  have h3' : ((foldN (sumW b) : Nat) : Int) = 65535 := by omega
  simp only [h1, h2, h3, not_true, if_true, Int.reduceEq, if_false]
  rw [faultC_zero]
  unfold icR
  obtain ⟨d, hd⟩ : ∃ d, d = b.drop 8 := ⟨_, rfl⟩
  rw [← hd]
  have dl : d.length = b.length - 8 := by rw [hd, List.length_drop]
  have hs8 : ∀ h g, sliceK h 1 (.rs g 1 (b.map by8)) (some b.length) (some (.int .i64 8)) none = some (.rs g 1 (d.map by8), h) := fun h g => by
    rw [hd]
    exact slice_by_in h g b .i64 8 (by omega) (by omega)
  have b0 : (0 : Int) < b.length := by omega
  have b1 : (1 : Int) < b.length := by omega
  have b4 : (4 : Int) < b.length := by omega
  have b5 : (5 : Int) < b.length := by omega
  have b6 : (6 : Int) < b.length := by omega
  have b7 : (7 : Int) < b.length := by omega
  have w4 : ∀ n : Int, 0 ≤ n → n ≤ 100 → IntKind.i64.wrap n = n := fun n h1 h2 => w64 (by omega) (by omega)
  have apE : ∀ g, appE2 1 1 (.rs g 1 (d.map by8)) = some (.rs false 1 (d.map by8)) := fun g => appE2_by8 g _ (by omega)
  clear hd
  simp only [mgC_eq]
  simp (disch := first | omega | (simp only [List.length_cons, List.length_nil, List.length_append, List.length_map, List.length_set]; omega) | rfl | (simp only [List.length_cons, List.length_nil, List.length_append, List.length_map, List.length_set, List.length_replicate, List.all_cons, List.all_nil, List.all_append, storable, plainB, Bool.and_self]; done)) only [go_sem, reduceCtorEq, ↓reduceIte, reduceDIte, evI_callP, callPK_some, I35, hk, h1', h2', h3', qt, b0, b1, b4, b5, b6, b7, hs8, apE, dl, w4, L35_0_lp, L35_0_go, B35_0, iaddrA_ref, stR_cells]
theorem ref_bytes (m : Mg) : ((m.ty :: m.co :: 0 :: 0 :: m.r0 :: m.r1 :: m.r2 :: m.r3 :: m.body).set 2 (UInt8.ofNat (icS m / 256))).set 3 (UInt8.ofNat (icS m)) = icB m := by
  unfold icB
  rw [two_eq]
  rfl
theorem s67 (m : Mg) (hb : m.body.length ≤ 1472) : pcall E 67 [.agg (mgC m)] = some (.tup [bs false (icB m), .agg (faultC 0 0)], []) := by
  rw [pcall_go (fn := I67) rfl rfl rfl]
  have hk : E.keep 67 = false := rfl
  have h1 : ¬ (1472 : Int) < (m.body.length : Int) := by omega
  have hl := icB_len m
  have hrb := ref_bytes m
  obtain ⟨x, ex⟩ : ∃ x, x = m.ty :: m.co :: 0 :: 0 :: m.r0 :: m.r1 :: m.r2 :: m.r3 :: m.body := ⟨_, rfl⟩
  have lx : x.length = 8 + m.body.length := by rw [ex]; simp only [List.length_cons]; omega
  have hS : icS m = 65535 - foldN (sumW x) := by
    have : x = [m.ty, m.co] ++ (encb 2 0 ++ ([m.r0, m.r1, m.r2, m.r3] ++ m.body)) := by rw [ex, two_eq]; rfl
    rw [this, sumW_append _ _ (by simp), sumW_enc2 0 (by omega), Nat.zero_add]
    rfl
  have q4 := fun g => s103 g x (by omega)
  rw [← hS] at q4
  have hlt := icS_lt m
  have v1 := qu16 (icS m) 256 (by omega)
  have v2 := rm (icS m) 256
  have u1 := wrapU8 (icS m / 256)
  have u2 := wrapU8 (icS m % 256)
  rw [wrapU8_mod] at u2
  rw [← ex] at hrb
  obtain ⟨y1, ey1⟩ : ∃ y, y = x.set 2 (UInt8.ofNat (icS m / 256)) := ⟨_, rfl⟩
  have ly1 : y1.length = 8 + m.body.length := by rw [ey1, List.length_set, lx]
  rw [← ey1] at hrb
  generalize hB : icB m = B at *
  obtain ⟨x1, ex1⟩ : ∃ y, y = [m.ty, m.co, 0, 0] ++ [m.r0, m.r1, m.r2, m.r3] := ⟨_, rfl⟩
  have lx1 : x1.length = 8 := by rw [ex1]; rfl
  have ex' : x = x1 ++ m.body := by rw [ex, ex1]; rfl
  have a1 : ∀ h i, appR h 1 1 5 [.int .u8 (m.r0.toNat : Int), .int .u8 (m.r1.toNat : Int), .int .u8 (m.r2.toNat : Int), .int .u8 (m.r3.toNat : Int)] 4 i 0 4 (some (.row 0 1 [.int .u8 (m.ty.toNat : Int), .int .u8 (m.co.toNat : Int), .int .u8 0, .int .u8 0] 5)) = some (.sl 1 i 1 0 8, h.set i (.row 1 1 (x1.map by8) 5)) := fun h i => by rw [ex1]; exact appR_by8 h 1 5 i 0 4 4 [m.ty, m.co, 0, 0] [m.r0, m.r1, m.r2, m.r3] rfl (by omega) (by omega)
  have a2 : ∀ h i, appR h 1 1 5 (m.body.map by8) m.body.length i 1 8 (some (.row 1 1 (x1.map by8) 5)) = some (.sl 1 i 2 0 (8 + m.body.length), h.set i (.row 2 1 (x.map by8) 5)) := fun h i => by rw [ex']; exact appR_by8 h 1 5 i 1 8 m.body.length x1 m.body lx1 (by omega) (by omega)
  have s1 : ∀ h t, stR h 1 2 2 (.int .u8 ((UInt8.ofNat (icS m / 256)).toNat : Int)) (some (.row 2 1 (x.map by8) t)) = some (h.set 1 (.row 2 1 (y1.map by8) t)) := fun h t => by rw [ey1]; exact stR_by8 h 1 2 2 x _ t (by omega)
  have s2 : ∀ h t, stR h 1 2 3 (.int .u8 ((UInt8.ofNat (icS m)).toNat : Int)) (some (.row 2 1 (y1.map by8) t)) = some (h.set 1 (.row 2 1 (B.map by8) t)) := fun h t => by rw [← hrb]; exact stR_by8 h 1 2 3 y1 _ t (by omega)
  have i2 : ∀ (o0 : AObj) (v : List UInt8) (t : TypeId) (l : Heap), iaddrK (o0 :: .row 2 1 (v.map by8) t :: l) 1 (.sl 1 1 2 0 (8 + m.body.length)) (.int .i64 2) = some (.ref 1 2 2, o0 :: .row 2 1 (v.map by8) t :: l) := fun o0 v t l => iaddrK_sl (o0 :: .row 2 1 (v.map by8) t :: l) 1 1 2 0 (8 + m.body.length) .i64 2 (by omega) (by omega) rfl
  have i3 : ∀ (o0 : AObj) (v : List UInt8) (t : TypeId) (l : Heap), iaddrK (o0 :: .row 2 1 (v.map by8) t :: l) 1 (.sl 1 1 2 0 (8 + m.body.length)) (.int .i64 3) = some (.ref 1 2 3, o0 :: .row 2 1 (v.map by8) t :: l) := fun o0 v t l => iaddrK_sl (o0 :: .row 2 1 (v.map by8) t :: l) 1 1 2 0 (8 + m.body.length) .i64 3 (by omega) (by omega) rfl
  simp only [Int.cast_ofNat_Int] at v1 v2
  rw [faultC_zero]
  generalize icS m = s at *
  simp only [mgC_eq]
  clear ex ex' ex1 ey1 hrb hS hB
  simp (disch := first | omega | (simp only [List.length_cons, List.length_nil, List.length_append, List.length_map, List.length_set]; omega) | rfl | (simp only [List.length_cons, List.length_nil, List.length_append, List.length_map, List.length_set, List.length_replicate, List.all_cons, List.all_nil, List.all_append, storable, plainB, Bool.and_self]; done)) only [go_sem, reduceCtorEq, ↓reduceIte, reduceDIte, evI_callP, callPK_some, I67, hk, h1, a1, a2, q4, v1, v2, u1, u2, s1, s2, i2, i3, lx, hl]
theorem ribytes_err (m : Mg) (hb : 1472 < m.body.length) : pcall E 67 [.agg (mgC m)] = some (.tup [bs false [], .agg (faultC 1 11)], []) := by
  rw [pcall_go (fn := I67) rfl rfl rfl]
  have hk : E.keep 67 = false := rfl
  have h1 : (1472 : Int) < (m.body.length : Int) := by omega
  have q3 := new1 11
  rw [faultC_pos _ (by omega)] at q3 ⊢
  simp only [mgC_eq]
  simp (disch := first | omega | (simp only [List.length_cons, List.length_nil, List.length_append, List.length_map, List.length_set]; omega) | rfl | (simp only [List.length_cons, List.length_nil, List.length_append, List.length_map, List.length_set, List.length_replicate, List.all_cons, List.all_nil, List.all_append, storable, plainB, Bool.and_self]; done)) only [go_sem, reduceCtorEq, ↓reduceIte, reduceDIte, evI_callP, callPK_some, I67, hk, h1, q3]
theorem s36 (m : Mg) : pcall E 36 [.agg (mgC m)] = some (.int .i64 (clsN m.ty), []) := by
  rw [pcall_go (fn := I36) rfl rfl rfl]
  have hk : E.keep 36 = false := rfl
  have t0 := ty_eq m.ty 0 (by omega)
  have t3 := ty_eq m.ty 3 (by omega)
  have t4 := ty_eq m.ty 4 (by omega)
  have t8 := ty_eq m.ty 8 (by omega)
  have t11 := ty_eq m.ty 11 (by omega)
  have t12 := ty_eq m.ty 12 (by omega)
  simp only [Int.cast_ofNat_Int, Int.natCast_zero] at t0 t3 t4 t8 t11 t12
  unfold clsN
  simp only [show (3 : UInt8) = UInt8.ofNat 3 from rfl, show (4 : UInt8) = UInt8.ofNat 4 from rfl, show (8 : UInt8) = UInt8.ofNat 8 from rfl, show (11 : UInt8) = UInt8.ofNat 11 from rfl, show (12 : UInt8) = UInt8.ofNat 12 from rfl, show (0 : UInt8) = UInt8.ofNat 0 from rfl, ← t0, ← t3, ← t4, ← t8, ← t11, ← t12, mgC_eq]
  generalize (m.ty.toNat : Int) = t at *
  by_cases h3 : t = 3
  · subst h3; simp (disch := first | omega | (simp only [List.length_cons, List.length_nil, List.length_append, List.length_map, List.length_set]; omega) | rfl | (simp only [List.length_cons, List.length_nil, List.length_append, List.length_map, List.length_set, List.length_replicate, List.all_cons, List.all_nil, List.all_append, storable, plainB, Bool.and_self]; done)) only [go_sem, reduceCtorEq, ↓reduceIte, reduceDIte, evI_callP, callPK_some, I36, hk]
  by_cases h4 : t = 4
  · subst h4; simp (disch := first | omega | (simp only [List.length_cons, List.length_nil, List.length_append, List.length_map, List.length_set]; omega) | rfl | (simp only [List.length_cons, List.length_nil, List.length_append, List.length_map, List.length_set, List.length_replicate, List.all_cons, List.all_nil, List.all_append, storable, plainB, Bool.and_self]; done)) only [go_sem, reduceCtorEq, ↓reduceIte, reduceDIte, evI_callP, callPK_some, I36, hk]
  by_cases h11 : t = 11
  · subst h11; simp (disch := first | omega | (simp only [List.length_cons, List.length_nil, List.length_append, List.length_map, List.length_set]; omega) | rfl | (simp only [List.length_cons, List.length_nil, List.length_append, List.length_map, List.length_set, List.length_replicate, List.all_cons, List.all_nil, List.all_append, storable, plainB, Bool.and_self]; done)) only [go_sem, reduceCtorEq, ↓reduceIte, reduceDIte, evI_callP, callPK_some, I36, hk]
  by_cases h12 : t = 12
  · subst h12; simp (disch := first | omega | (simp only [List.length_cons, List.length_nil, List.length_append, List.length_map, List.length_set]; omega) | rfl | (simp only [List.length_cons, List.length_nil, List.length_append, List.length_map, List.length_set, List.length_replicate, List.all_cons, List.all_nil, List.all_append, storable, plainB, Bool.and_self]; done)) only [go_sem, reduceCtorEq, ↓reduceIte, reduceDIte, evI_callP, callPK_some, I36, hk]
  by_cases h8 : t = 8
  · subst h8; simp (disch := first | omega | (simp only [List.length_cons, List.length_nil, List.length_append, List.length_map, List.length_set]; omega) | rfl | (simp only [List.length_cons, List.length_nil, List.length_append, List.length_map, List.length_set, List.length_replicate, List.all_cons, List.all_nil, List.all_append, storable, plainB, Bool.and_self]; done)) only [go_sem, reduceCtorEq, ↓reduceIte, reduceDIte, evI_callP, callPK_some, I36, hk]
  by_cases h0 : t = 0
  · subst h0; simp (disch := first | omega | (simp only [List.length_cons, List.length_nil, List.length_append, List.length_map, List.length_set]; omega) | rfl | (simp only [List.length_cons, List.length_nil, List.length_append, List.length_map, List.length_set, List.length_replicate, List.all_cons, List.all_nil, List.all_append, storable, plainB, Bool.and_self]; done)) only [go_sem, reduceCtorEq, ↓reduceIte, reduceDIte, evI_callP, callPK_some, I36, hk]
  simp (disch := first | omega | (simp only [List.length_cons, List.length_nil, List.length_append, List.length_map, List.length_set]; omega) | rfl | (simp only [List.length_cons, List.length_nil, List.length_append, List.length_map, List.length_set, List.length_replicate, List.all_cons, List.all_nil, List.all_append, storable, plainB, Bool.and_self]; done)) only [go_sem, reduceCtorEq, ↓reduceIte, reduceDIte, evI_callP, callPK_some, I36, hk, h3, h11, h4, h12, h8, h0]
theorem s38 (kd cd : UInt8) (p : Pk) (hb : p.body.length ≤ 65515) : pcall E 38 [.int .u8 (kd.toNat : Int), .int .u8 (cd.toNat : Int), .agg (pkC p)] = some (.agg (mgC (mgErr kd cd p)), []) := by
  rw [pcall_go (fn := I38) rfl rfl rfl]
  have hk : E.keep 38 = false := rfl
  have q := s68 p hb
  have hkh : E.keep 68 = true := rfl
  have hl := hdB_len p p.body.length
  rw [hkh, kone_t, hl] at q
  have emg : mgC (mgErr kd cd p) = [.int .u8 (kd.toNat : Int), .int .u8 (cd.toNat : Int), .int .u8 0, .int .u8 0, .int .u8 0, .int .u8 0, bs false (hdB p p.body.length ++ p.body.take 8)] := rfl
  rw [emg]
  generalize hdB p p.body.length = H at *
  obtain ⟨t, ht⟩ : ∃ t, t = p.body.take 8 := ⟨_, rfl⟩
  have lt : t.length = min p.body.length 8 := by rw [ht, List.length_take]; omega
  have em : min (p.body.length : Int) 8 = ((min p.body.length 8 : Nat) : Int) := by omega
  have hsl : ∀ h g, sliceRK h 1 none (some (.int .i64 ((min p.body.length 8 : Nat) : Int))) (.rs g 1 (p.body.map by8)) = some (.rs g 1 (t.map by8), h) := fun h g => by
    rw [sliceRK_rs, List.length_map]
    have := slice_by_ni h g p.body .i64 ((min p.body.length 8 : Nat) : Int) (by omega) (by omega)
    rw [Int.toNat_natCast] at this
    rw [this, ht, Nat.min_comm, ← List.take_eq_take_min]
  rw [← ht]
  obtain ⟨b, eb⟩ : ∃ b, b = H ++ t := ⟨_, rfl⟩
  rw [← eb]
  have lb : b.length = 20 + t.length := by rw [eb, List.length_append, hl]
  have a1 : ∀ h i, appR h 1 1 5 (t.map by8) t.length i 0 20 (some (.row 0 1 (H.map by8) 5)) = some (.sl 1 i 1 0 (20 + t.length), h.set i (.row 1 1 (b.map by8) 5)) := fun h i => by rw [eb]; exact appR_by8 h 1 5 i 0 20 t.length H t hl (by omega) (by omega)
  rw [← lt] at hsl em
  simp only [pkC_eq] at q ⊢
  clear ht eb
  simp (disch := first | omega | (simp only [List.length_cons, List.length_nil, List.length_append, List.length_map, List.length_set]; omega) | rfl | (simp only [List.length_cons, List.length_nil, List.length_append, List.length_map, List.length_set, List.length_replicate, List.all_cons, List.all_nil, List.all_append, storable, plainB, Bool.and_self]; done)) only [go_sem, reduceCtorEq, ↓reduceIte, reduceDIte, evI_callP, callPK_some, I38, hk, q, hl, em, hsl, a1, lb, evI_mm, mmV_2, mm2_min]
end Go.Fw.Wd
