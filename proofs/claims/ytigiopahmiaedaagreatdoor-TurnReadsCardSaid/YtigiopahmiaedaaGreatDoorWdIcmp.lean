/-
  Messages: what the program's functions answer. Conditions: stated at each.
-/
import Derived.Test.YtigiopahmiaedaaGreatDoorWdInet3
set_option linter.unusedVariables false
set_option linter.unusedSimpArgs false
namespace Go.Fw.Wd
open Go.Proofs Code_

/-- A message. -/
structure Mg where
  ty : UInt8
  co : UInt8
  r0 : UInt8
  r1 : UInt8
  r2 : UInt8
  r3 : UInt8
  body : List UInt8
  deriving DecidableEq
def Mg.zero : Mg := ⟨0, 0, 0, 0, 0, 0, []⟩
def mgC (m : Mg) : List AV := [.int .u8 (m.ty.toNat : Int), .int .u8 (m.co.toNat : Int), .int .u8 (m.r0.toNat : Int), .int .u8 (m.r1.toNat : Int), .int .u8 (m.r2.toNat : Int), .int .u8 (m.r3.toNat : Int), bs false m.body]
theorem mgC_eq (m : Mg) : mgC m = [.int .u8 (m.ty.toNat : Int), .int .u8 (m.co.toNat : Int), .int .u8 (m.r0.toNat : Int), .int .u8 (m.r1.toNat : Int), .int .u8 (m.r2.toNat : Int), .int .u8 (m.r3.toNat : Int), bs false m.body] := rfl
theorem mgC_zero : mgC Mg.zero = [.int .u8 0, .int .u8 0, .int .u8 0, .int .u8 0, .int .u8 0, .int .u8 0, .rs false 1 []] := rfl
theorem s2a_4 (h : Heap) (g : Bool) (x0 x1 x2 x3 : UInt8) (l : List UInt8) : s2aK h 4 1 (.rs g 1 ((x0 :: x1 :: x2 :: x3 :: l).map by8)) = some (.rp g (.agg [.int .u8 (x0.toNat : Int), .int .u8 (x1.toNat : Int), .int .u8 (x2.toNat : Int), .int .u8 (x3.toNat : Int)]), h) := by
  have e : ((((x0 :: x1 :: x2 :: x3 :: l).map by8).take 4).flatMap cellsOf) = [.int .u8 (x0.toNat : Int), .int .u8 (x1.toNat : Int), .int .u8 (x2.toNat : Int), .int .u8 (x3.toNat : Int)] := rfl
  simp only [s2aK, e]
  rw [if_pos (by refine ⟨?_, ?_, ?_, ?_⟩ <;> first | rfl | trivial | omega | simp)]
/-- The first fault of a message. -/
def icE (b : List UInt8) : Int × Int := if b.length < 8 then (1, 12) else if 1480 < b.length then (1, 11) else if ¬ foldN (sumW b) = 65535 then (2, 13) else (0, 0)
def icR (b : List UInt8) : Mg := ⟨nth b 0, nth b 1, nth b 4, nth b 5, nth b 6, nth b 7, b.drop 8⟩
def icM (b : List UInt8) : Mg := if (icE b).2 = 0 then icR b else Mg.zero
theorem ic_ok {b : List UInt8} (h : (icE b).2 = 0) : 8 ≤ b.length ∧ b.length ≤ 1480 ∧ foldN (sumW b) = 65535 := by
  unfold icE at h
  split at h
  · simp at h
  split at h
  · simp at h
  split at h
  · simp at h
  rename_i h3
  exact ⟨by omega, by omega, by simpa using h3⟩
theorem s28 (g : Bool) (b : List UInt8) (hb : b.length ≤ 1048576) : pcall E 28 [bs g b] = some (.tup [.agg (mgC (icM b)), errV (icE b).1 (icE b).2], []) := by
  rw [pcall_go (fn := I28) rfl rfl rfl]
  have hk : E.keep 28 = false := rfl
  have f12 := s47 1 12 (by omega) (by omega)
  have f11 := s47 1 11 (by omega) (by omega)
  have f13 := s47 2 13 (by omega) (by omega)
  rw [errV_pos _ (by omega)] at f12 f11 f13
  unfold icM icE
  by_cases h1 : b.length < 8
  · have h1' : (b.length : Int) < 8 := by omega
    simp only [h1, if_true, Int.reduceEq, if_false, mgC_zero]
    rw [errV_pos _ (by omega)]
    simp (disch := first | omega | (simp only [List.length_cons, List.length_nil, List.length_append, List.length_map, List.length_set]; omega) | rfl | (simp only [List.length_cons, List.length_nil, List.length_append, List.length_map, List.length_set, List.length_replicate, List.all_cons, List.all_nil, List.all_append, storable, plainB, Bool.and_self]; done)) only [go_sem, reduceCtorEq, ↓reduceIte, reduceDIte, evI_callP, callPK_some, I28, hk, h1', f12]
  have h1' : ¬ (b.length : Int) < 8 := by omega
  by_cases h2 : 1480 < b.length
  · have h2' : (1480 : Int) < (b.length : Int) := by omega
    simp only [h1, h2, if_true, Int.reduceEq, if_false, mgC_zero]
    rw [errV_pos _ (by omega)]
    simp (disch := first | omega | (simp only [List.length_cons, List.length_nil, List.length_append, List.length_map, List.length_set]; omega) | rfl | (simp only [List.length_cons, List.length_nil, List.length_append, List.length_map, List.length_set, List.length_replicate, List.all_cons, List.all_nil, List.all_append, storable, plainB, Bool.and_self]; done)) only [go_sem, reduceCtorEq, ↓reduceIte, reduceDIte, evI_callP, callPK_some, I28, hk, h1', h2', f11]
  have h2' : ¬ (1480 : Int) < (b.length : Int) := by omega
  have ec : cat [(g, b)] = b := by simp [cat]
  have qr := fun g1 => s55 g1 [(g, b)] (by simp) (by rw [ec]; omega)
  rw [ec] at qr
  simp only [List.map_cons, List.map_nil, encP_eq] at qr
  by_cases h3 : foldN (sumW b) = 65535
  case neg =>
    rw [decide_eq_false h3] at qr
    simp only [h1, h2, h3, not_false_eq_true, if_true, Int.reduceEq, if_false, mgC_zero]
    rw [errV_pos _ (by omega)]
    simp (disch := first | omega | (simp only [List.length_cons, List.length_nil, List.length_append, List.length_map, List.length_set]; omega) | rfl | (simp only [List.length_cons, List.length_nil, List.length_append, List.length_map, List.length_set, List.length_replicate, List.all_cons, List.all_nil, List.all_append, storable, plainB, Bool.and_self]; done)) only [go_sem, reduceCtorEq, ↓reduceIte, reduceDIte, evI_callP, callPK_some, I28, hk, h1', h2', qr, f13]
  rw [decide_eq_true h3] at qr
  simp only [h1, h2, h3, not_true, if_true, Int.reduceEq, if_false]
  rw [errV_zero]
  have qc := fun g => s43 g (b.drop 8) (by rw [List.length_drop]; omega)
  have dl : (b.drop 8).length = b.length - 8 := by rw [List.length_drop]
  have d4 : b.drop 4 = nth b 4 :: nth b 5 :: nth b 6 :: nth b 7 :: b.drop 8 := by
    rw [drop_nth b 4 (by omega), drop_nth b 5 (by omega), drop_nth b 6 (by omega), drop_nth b 7 (by omega)]
  have hs4 : ∀ h g, sliceK h 1 (.rs g 1 (b.map by8)) (some b.length) (some (.int .i64 4)) none = some (.rs g 1 ((nth b 4 :: nth b 5 :: nth b 6 :: nth b 7 :: b.drop 8).map by8), h) := fun h g => by
    have := slice_by_in h g b .i64 4 (by omega) (by omega)
    rw [show Int.toNat 4 = 4 from rfl, d4] at this
    exact this
  have hs8 : ∀ h g, sliceK h 1 (.rs g 1 (b.map by8)) (some b.length) (some (.int .i64 8)) none = some (.rs g 1 ((b.drop 8).map by8), h) := fun h g => slice_by_in h g b .i64 8 (by omega) (by omega)
  have s2 : ∀ h g, s2aK h 4 1 (.rs g 1 ((nth b 4 :: nth b 5 :: nth b 6 :: nth b 7 :: b.drop 8).map by8)) = _ := fun h g => s2a_4 h g _ _ _ _ _
  have b0 : (0 : Int) < b.length := by omega
  have b1 : (1 : Int) < b.length := by omega
  obtain ⟨x, hx⟩ : ∃ x, x = (nth b 4 :: nth b 5 :: nth b 6 :: nth b 7 :: b.drop 8).map by8 := ⟨_, rfl⟩
  rw [← hx] at hs4 s2
  unfold icR
  simp only [mgC_eq]
  generalize b.drop 8 = d at *
  clear hx d4
  simp (disch := first | omega | (simp only [List.length_cons, List.length_nil, List.length_append, List.length_map, List.length_set]; omega) | rfl | (simp only [List.length_cons, List.length_nil, List.length_append, List.length_map, List.length_set, List.length_replicate, List.all_cons, List.all_nil, List.all_append, storable, plainB, Bool.and_self]; done)) only [go_sem, reduceCtorEq, ↓reduceIte, reduceDIte, evI_callP, callPK_some, I28, hk, h1', h2', qr, b0, b1, hs4, hs8, s2, qc, dl]

/-- A message's class, by its type. -/
def clsN (t : UInt8) : Int := if t = 3 ∨ t = 4 ∨ t = 11 ∨ t = 12 then 1 else if t = 8 ∨ t = 0 then 2 else 0
theorem ty_eq (t : UInt8) (n : Nat) (hn : n < 256) : ((t.toNat : Int) = (n : Int)) ↔ t = UInt8.ofNat n := by
  rw [← UInt8.toNat_inj, UInt8.toNat_ofNat_of_lt' (by show _ < 256; exact hn)]
  omega
theorem s98 (m : Mg) : pcall E 98 [.agg (mgC m)] = some (.int .i64 (clsN m.ty), []) := by
  rw [pcall_go (fn := I98) rfl rfl rfl]
  have hk : E.keep 98 = false := rfl
  have t0 := ty_eq m.ty 0 (by omega)
  have t3 := ty_eq m.ty 3 (by omega)
  have t4 := ty_eq m.ty 4 (by omega)
  have t8 := ty_eq m.ty 8 (by omega)
  have t11 := ty_eq m.ty 11 (by omega)
  have t12 := ty_eq m.ty 12 (by omega)
  simp only [Int.cast_ofNat_Int, Int.natCast_zero] at t0 t3 t4 t8 t11 t12
  unfold clsN
  simp only [show (3 : UInt8) = UInt8.ofNat 3 from rfl, show (4 : UInt8) = UInt8.ofNat 4 from rfl, show (8 : UInt8) = UInt8.ofNat 8 from rfl, show (11 : UInt8) = UInt8.ofNat 11 from rfl, show (12 : UInt8) = UInt8.ofNat 12 from rfl, show (0 : UInt8) = UInt8.ofNat 0 from rfl, ← t0, ← t3, ← t4, ← t8, ← t11, ← t12, mgC_eq]
  generalize (m.ty.toNat : Int) = t at *
  by_cases h3 : t = 3
  · subst h3; simp (disch := first | omega | (simp only [List.length_cons, List.length_nil, List.length_append, List.length_map, List.length_set]; omega) | rfl | (simp only [List.length_cons, List.length_nil, List.length_append, List.length_map, List.length_set, List.length_replicate, List.all_cons, List.all_nil, List.all_append, storable, plainB, Bool.and_self]; done)) only [go_sem, reduceCtorEq, ↓reduceIte, reduceDIte, evI_callP, callPK_some, I98, hk]
  by_cases h11 : t = 11
  · subst h11; simp (disch := first | omega | (simp only [List.length_cons, List.length_nil, List.length_append, List.length_map, List.length_set]; omega) | rfl | (simp only [List.length_cons, List.length_nil, List.length_append, List.length_map, List.length_set, List.length_replicate, List.all_cons, List.all_nil, List.all_append, storable, plainB, Bool.and_self]; done)) only [go_sem, reduceCtorEq, ↓reduceIte, reduceDIte, evI_callP, callPK_some, I98, hk]
  by_cases h4 : t = 4
  · subst h4; simp (disch := first | omega | (simp only [List.length_cons, List.length_nil, List.length_append, List.length_map, List.length_set]; omega) | rfl | (simp only [List.length_cons, List.length_nil, List.length_append, List.length_map, List.length_set, List.length_replicate, List.all_cons, List.all_nil, List.all_append, storable, plainB, Bool.and_self]; done)) only [go_sem, reduceCtorEq, ↓reduceIte, reduceDIte, evI_callP, callPK_some, I98, hk]
  by_cases h12 : t = 12
  · subst h12; simp (disch := first | omega | (simp only [List.length_cons, List.length_nil, List.length_append, List.length_map, List.length_set]; omega) | rfl | (simp only [List.length_cons, List.length_nil, List.length_append, List.length_map, List.length_set, List.length_replicate, List.all_cons, List.all_nil, List.all_append, storable, plainB, Bool.and_self]; done)) only [go_sem, reduceCtorEq, ↓reduceIte, reduceDIte, evI_callP, callPK_some, I98, hk]
  by_cases h8 : t = 8
  · subst h8; simp (disch := first | omega | (simp only [List.length_cons, List.length_nil, List.length_append, List.length_map, List.length_set]; omega) | rfl | (simp only [List.length_cons, List.length_nil, List.length_append, List.length_map, List.length_set, List.length_replicate, List.all_cons, List.all_nil, List.all_append, storable, plainB, Bool.and_self]; done)) only [go_sem, reduceCtorEq, ↓reduceIte, reduceDIte, evI_callP, callPK_some, I98, hk]
  by_cases h0 : t = 0
  · subst h0; simp (disch := first | omega | (simp only [List.length_cons, List.length_nil, List.length_append, List.length_map, List.length_set]; omega) | rfl | (simp only [List.length_cons, List.length_nil, List.length_append, List.length_map, List.length_set, List.length_replicate, List.all_cons, List.all_nil, List.all_append, storable, plainB, Bool.and_self]; done)) only [go_sem, reduceCtorEq, ↓reduceIte, reduceDIte, evI_callP, callPK_some, I98, hk]
  simp (disch := first | omega | (simp only [List.length_cons, List.length_nil, List.length_append, List.length_map, List.length_set]; omega) | rfl | (simp only [List.length_cons, List.length_nil, List.length_append, List.length_map, List.length_set, List.length_replicate, List.all_cons, List.all_nil, List.all_append, storable, plainB, Bool.and_self]; done)) only [go_sem, reduceCtorEq, ↓reduceIte, reduceDIte, evI_callP, callPK_some, I98, hk, h3, h11, h4, h12, h8, h0]

def rest4 (m : Mg) : List UInt8 := [m.r0, m.r1, m.r2, m.r3]
def mrkN (m : Mg) : Nat := m.r0.toNat * 256 + m.r1.toNat
theorem mrkN_lt (m : Mg) : mrkN m < 65536 := by have := m.r0.toNat_lt; have := m.r1.toNat_lt; unfold mrkN; omega
theorem s30 (m : Mg) : pcall E 30 [.agg (mgC m)] = some (.int .u16 ((mrkN m : Nat) : Int), []) := by
  rw [pcall_go (fn := I30) rfl rfl rfl]
  have hk : E.keep 30 = false := rfl
  have q := fun g => at2 g [m.r0, m.r1, m.r2, m.r3] (by simp) 0 (by simp)
  have e : n2 [m.r0, m.r1, m.r2, m.r3] 0 = mrkN m := n2_nth _ 0 (by simp)
  rw [e] at q
  have hl := mrkN_lt m
  have w : IntKind.u16.wrap ((mrkN m : Nat) : Int) = ((mrkN m : Nat) : Int) := wu16 (by omega) (by omega)
  generalize mrkN m = n at *
  simp only [bs, List.map_cons, List.map_nil, by8_eq, Int.natCast_zero] at q
  simp only [mgC_eq]
  simp (disch := first | omega | (simp only [List.length_cons, List.length_nil, List.length_append, List.length_map, List.length_set]; omega) | rfl | (simp only [List.length_cons, List.length_nil, List.length_append, List.length_map, List.length_set, List.length_replicate, List.all_cons, List.all_nil, List.all_append, storable, plainB, Bool.and_self]; done)) only [go_sem, reduceCtorEq, ↓reduceIte, reduceDIte, evI_callP, callPK_some, I30, hk, q, w]
/-- A message with another mark. -/
def Mg.mark (m : Mg) (k : Nat) : Mg := ⟨m.ty, m.co, UInt8.ofNat (k / 256), UInt8.ofNat k, m.r2, m.r3, m.body⟩
theorem s82 (m : Mg) (k : Nat) (hk6 : k < 65536) (hb : m.body.length ≤ 1048576) : pcall E 82 [.agg (mgC m), .int .u16 (k : Int)] = some (.agg (mgC (m.mark k)), []) := by
  rw [pcall_go (fn := I82) rfl rfl rfl]
  have hk : E.keep 82 = false := rfl
  have q := fun g => lay2 g [m.r0, m.r1, m.r2, m.r3] (by simp) 0 k (by simp) hk6
  have e : over [m.r0, m.r1, m.r2, m.r3] 0 (encb 2 k) = [UInt8.ofNat (k / 256), UInt8.ofNat k, m.r2, m.r3] := by rw [two_eq]; rfl
  have hkl : E.keep 51 = true := rfl
  rw [hkl, kres_t, e] at q
  have w : IntKind.u64.wrap (k : Int) = (k : Int) := wu64 (by omega) (by omega)
  have qc := fun g => s43 g m.body (by omega)
  have s2 := fun h g => s2a_4 h g (UInt8.ofNat (k / 256)) (UInt8.ofNat k) m.r2 m.r3 []
  have emg : mgC (m.mark k) = [.int .u8 (m.ty.toNat : Int), .int .u8 (m.co.toNat : Int), .int .u8 ((UInt8.ofNat (k / 256)).toNat : Int), .int .u8 ((UInt8.ofNat k).toNat : Int), .int .u8 (m.r2.toNat : Int), .int .u8 (m.r3.toNat : Int), bs false m.body] := rfl
  rw [emg]
  generalize UInt8.ofNat (k / 256) = k1 at *
  generalize UInt8.ofNat k = k2 at *
  have hsn := fun g h l => snR_by8 g h 7 l 0 4 [k1, k2, m.r2, m.r3] 5 rfl
  simp only [bs, List.map_cons, List.map_nil, by8_eq, Int.natCast_zero, List.length_cons, List.length_nil, Nat.reduceAdd] at q s2 hsn
  simp only [mgC_eq]
  simp (disch := first | omega | (simp only [List.length_cons, List.length_nil, List.length_append, List.length_map, List.length_set]; omega) | rfl | (simp only [List.length_cons, List.length_nil, List.length_append, List.length_map, List.length_set, List.length_replicate, List.all_cons, List.all_nil, List.all_append, storable, plainB, Bool.and_self]; done)) only [go_sem, reduceCtorEq, ↓reduceIte, reduceDIte, evI_callP, callPK_some, I82, hk, q, w, qc, s2, hsn]

/-- A message's sum, and its bytes. -/
def icS (m : Mg) : Nat := 65535 - foldN (sumW [m.ty, m.co] + sumW ([m.r0, m.r1, m.r2, m.r3] ++ m.body))
theorem icS_lt (m : Mg) : icS m < 65536 := by unfold icS; omega
def icB (m : Mg) : List UInt8 := [m.ty, m.co] ++ (encb 2 (icS m) ++ ([m.r0, m.r1, m.r2, m.r3] ++ m.body))
theorem icB_len (m : Mg) : (icB m).length = 8 + m.body.length := by simp only [icB, List.length_append, encb_length, List.length_cons, List.length_nil]; omega
theorem icB_sum (m : Mg) : foldN (sumW (icB m)) = 65535 := by
  have hlt := icS_lt m
  unfold icB
  rw [sumW_append _ _ (by simp), sumW_enc2 _ hlt]
  unfold icS
  generalize sumW [m.ty, m.co] = a
  generalize sumW ([m.r0, m.r1, m.r2, m.r3] ++ m.body) = b
  have h2 : a + (65535 - foldN (a + b) + b) = (a + b) + (65535 - foldN (a + b)) := by omega
  rw [h2]
  generalize a + b = m at *
  unfold foldN
  split <;> split <;> omega
theorem s21 (m : Mg) (hb : m.body.length ≤ 1472) : pcall E 21 [.agg (mgC m)] = some (.tup [bs false (icB m), .nili], []) := by
  rw [pcall_go (fn := I21) rfl rfl rfl]
  have hk : E.keep 21 = false := rfl
  have h1 : ¬ (1472 : Int) < (m.body.length : Int) := by omega
  obtain ⟨b, eb⟩ : ∃ b, b = [m.ty, m.co] ++ (encb 2 0 ++ ([m.r0, m.r1, m.r2, m.r3] ++ m.body)) := ⟨_, rfl⟩
  have e00 : encb 2 0 = [0, 0] := by rw [two_eq]; rfl
  have lb : b.length = 8 + m.body.length := by rw [eb]; simp only [List.length_append, encb_length, List.length_cons, List.length_nil]; omega
  have k1 : ∀ g g1 g2 g3, pcall E 56 [.rs g 1 [.rs g1 1 [.int .u8 (m.ty.toNat : Int), .int .u8 (m.co.toNat : Int), .int .u8 0, .int .u8 0], .rs g2 1 [.int .u8 (m.r0.toNat : Int), .int .u8 (m.r1.toNat : Int), .int .u8 (m.r2.toNat : Int), .int .u8 (m.r3.toNat : Int)], .rs g3 1 (m.body.map by8)]] = some (kone (E.keep 56) 5 b) := fun g g1 g2 g3 => by
    have e : b = cat [(g1, [m.ty, m.co, 0, 0]), (g2, [m.r0, m.r1, m.r2, m.r3]), (g3, m.body)] := by
      rw [eb, e00]
      simp only [cat, List.flatMap_cons, List.flatMap_nil, List.append_nil, List.cons_append, List.nil_append]
    have := s56 g [(g1, [m.ty, m.co, 0, 0]), (g2, [m.r0, m.r1, m.r2, m.r3]), (g3, m.body)] (by simp) (by rw [← e, lb]; omega)
    rw [← e] at this
    exact this
  have hS : icS m = 65535 - foldN (sumW b) := by
    rw [eb, sumW_append _ _ (by simp), sumW_enc2 0 (by omega), Nat.zero_add]
    rfl
  have ecat : ∀ g, cat [(g, b)] = b := fun g => by simp [cat]
  have q4 := fun g g1 => s49 g1 [(g, b)] (by simp) (by rw [ecat]; omega)
  simp only [ecat, ← hS] at q4
  simp only [List.map_cons, List.map_nil, encP_eq] at q4
  have hov : over b 2 (encb 2 (icS m)) = icB m := by
    have h := over_mid [m.ty, m.co] (encb 2 0) ([m.r0, m.r1, m.r2, m.r3] ++ m.body) (encb 2 (icS m)) (by rw [encb_length, encb_length])
    rw [show [m.ty, m.co].length = 2 from rfl, ← eb] at h
    exact h
  have hlt := icS_lt m
  have hl := icB_len m
  have q5 := fun g => lay2 g b (by omega) 2 (icS m) (by omega) hlt
  rw [hov] at q5
  have w5 : IntKind.u64.wrap ((icS m : Nat) : Int) = ((icS m : Nat) : Int) := wu64 (by omega) (by omega)
  have hkl : E.keep 51 = true := rfl
  have hkc : E.keep 56 = true := rfl
  rw [hkl, kres_t] at q5
  simp only [hkc, kone_t] at k1
  generalize icB m = raw at *
  generalize icS m = s at *
  clear eb hov hS
  simp only [Int.cast_ofNat_Int] at q5
  simp only [mgC_eq]
  simp (disch := first | omega | (simp only [List.length_cons, List.length_nil, List.length_append, List.length_map, List.length_set]; omega) | rfl | (simp only [List.length_cons, List.length_nil, List.length_append, List.length_map, List.length_set, List.length_replicate, List.all_cons, List.all_nil, List.all_append, storable, plainB, Bool.and_self]; done)) only [go_sem, reduceCtorEq, ↓reduceIte, reduceDIte, evI_callP, callPK_some, I21, hk, h1, k1, q4, q5, w5, lb, hl]
theorem ibytes_err (m : Mg) (hb : 1472 < m.body.length) : pcall E 21 [.agg (mgC m)] = some (.tup [bs false [], errV 1 11], []) := by
  rw [pcall_go (fn := I21) rfl rfl rfl]
  have hk : E.keep 21 = false := rfl
  have h1 : (1472 : Int) < (m.body.length : Int) := by omega
  have q3 := s47 1 11 (by omega) (by omega)
  rw [errV_pos _ (by omega)] at q3 ⊢
  simp only [mgC_eq]
  simp (disch := first | omega | (simp only [List.length_cons, List.length_nil, List.length_append, List.length_map, List.length_set]; omega) | rfl | (simp only [List.length_cons, List.length_nil, List.length_append, List.length_map, List.length_set, List.length_replicate, List.all_cons, List.all_nil, List.all_append, storable, plainB, Bool.and_self]; done)) only [go_sem, reduceCtorEq, ↓reduceIte, reduceDIte, evI_callP, callPK_some, I21, hk, h1, q3]

/-- What a message embeds. -/
def inE (m : Mg) : Int × Int := if ¬ clsN m.ty = 1 then (16, 14) else if ¬ (pkE false m.body).2 = 0 then pkE false m.body else if (pkOf false m.body).body.length < 8 then (1, 12) else (0, 0)
def inP (m : Mg) : Pk := if (inE m).2 = 0 then pkOf false m.body else Pk.zero
theorem s69 (m : Mg) (hb : m.body.length ≤ 1048576) : pcall E 69 [.agg (mgC m)] = some (.tup [.agg (pkC (inP m)), errV (inE m).1 (inE m).2], []) := by
  rw [pcall_go (fn := I69) rfl rfl rfl]
  have hk : E.keep 69 = false := rfl
  have qc := s98 m
  have qk := fun g => s99 g m.body hb
  have f14 := s47 16 14 (by omega) (by omega)
  have f12 := s47 1 12 (by omega) (by omega)
  rw [errV_pos _ (by omega)] at f14 f12
  unfold inP inE
  simp only [mgC_eq] at qc ⊢
  generalize clsN m.ty = k at *
  by_cases h1 : k = 1
  case neg =>
    simp only [h1, not_false_eq_true, if_true, Int.reduceEq, if_false, pkC_zero]
    rw [errV_pos _ (by omega)]
    simp (disch := first | omega | (simp only [List.length_cons, List.length_nil, List.length_append, List.length_map, List.length_set]; omega) | rfl | (simp only [List.length_cons, List.length_nil, List.length_append, List.length_map, List.length_set, List.length_replicate, List.all_cons, List.all_nil, List.all_append, storable, plainB, Bool.and_self]; done)) only [go_sem, reduceCtorEq, ↓reduceIte, reduceDIte, evI_callP, callPK_some, I69, hk, qc, h1, f14]
  subst h1
  by_cases h2 : (pkE false m.body).2 = 0
  case neg =>
    simp only [h2, not_true, not_false_eq_true, if_true, if_false, pkC_zero]
    rw [errV_pos _ h2] at qk ⊢
    generalize (pkE false m.body).1 = r at *
    generalize (pkE false m.body).2 = n at *
    generalize pkOf false m.body = p at *
    simp only [pkC_eq] at qk
    simp (disch := first | omega | (simp only [List.length_cons, List.length_nil, List.length_append, List.length_map, List.length_set]; omega) | rfl | (simp only [List.length_cons, List.length_nil, List.length_append, List.length_map, List.length_set, List.length_replicate, List.all_cons, List.all_nil, List.all_append, storable, plainB, Bool.and_self]; done)) only [go_sem, reduceCtorEq, ↓reduceIte, reduceDIte, evI_callP, callPK_some, I69, hk, qc, qk]
  rw [h2, errV_zero] at qk
  generalize pkOf false m.body = p at *
  simp only [pkC_eq] at qk
  by_cases h3 : p.body.length < 8
  · have h3' : (p.body.length : Int) < 8 := by omega
    simp only [h2, h3, not_true, if_true, Int.reduceEq, if_false, pkC_zero]
    rw [errV_pos _ (by omega)]
    simp (disch := first | omega | (simp only [List.length_cons, List.length_nil, List.length_append, List.length_map, List.length_set]; omega) | rfl | (simp only [List.length_cons, List.length_nil, List.length_append, List.length_map, List.length_set, List.length_replicate, List.all_cons, List.all_nil, List.all_append, storable, plainB, Bool.and_self]; done)) only [go_sem, reduceCtorEq, ↓reduceIte, reduceDIte, evI_callP, callPK_some, I69, hk, qc, qk, h3', f12]
  · have h3' : ¬ (p.body.length : Int) < 8 := by omega
    simp only [h2, h3, not_true, if_true, Int.reduceEq, if_false, pkC_eq]
    rw [errV_zero]
    simp (disch := first | omega | (simp only [List.length_cons, List.length_nil, List.length_append, List.length_map, List.length_set]; omega) | rfl | (simp only [List.length_cons, List.length_nil, List.length_append, List.length_map, List.length_set, List.length_replicate, List.all_cons, List.all_nil, List.all_append, storable, plainB, Bool.and_self]; done)) only [go_sem, reduceCtorEq, ↓reduceIte, reduceDIte, evI_callP, callPK_some, I69, hk, qc, qk, h3']
/-- An error about a packet. -/
def mgErr (kd cd : UInt8) (p : Pk) : Mg := ⟨kd, cd, 0, 0, 0, 0, hdB p p.body.length ++ p.body.take 8⟩
theorem s20 (kd cd : UInt8) (p : Pk) (hb : p.body.length ≤ 65515) : pcall E 20 [.int .u8 (kd.toNat : Int), .int .u8 (cd.toNat : Int), .agg (pkC p)] = some (.agg (mgC (mgErr kd cd p)), []) := by
  rw [pcall_go (fn := I20) rfl rfl rfl]
  have hk : E.keep 20 = false := rfl
  have q := s57 p hb
  have hkh : E.keep 57 = true := rfl
  have hl := hdB_len p p.body.length
  rw [hkh, kone_t, hl] at q
  have emg : mgC (mgErr kd cd p) = [.int .u8 (kd.toNat : Int), .int .u8 (cd.toNat : Int), .int .u8 0, .int .u8 0, .int .u8 0, .int .u8 0, bs false (hdB p p.body.length ++ p.body.take 8)] := rfl
  rw [emg]
  generalize hdB p p.body.length = H at *
  obtain ⟨t, ht⟩ : ∃ t, t = p.body.take 8 := ⟨_, rfl⟩
  have lt : t.length ≤ 8 := by rw [ht, List.length_take]; omega
  have em : min (p.body.length : Int) 8 = ((min p.body.length 8 : Nat) : Int) := by omega
  have hsl : ∀ h g, sliceK h 1 (.rs g 1 (p.body.map by8)) (some p.body.length) none (some (.int .i64 ((min p.body.length 8 : Nat) : Int))) = some (.rs g 1 (t.map by8), h) := fun h g => by
    have := slice_by_ni h g p.body .i64 ((min p.body.length 8 : Nat) : Int) (by omega) (by omega)
    rw [Int.toNat_natCast] at this
    rw [this, ht, Nat.min_comm, ← List.take_eq_take_min]
  rw [← ht]
  obtain ⟨b, eb⟩ : ∃ b, b = H ++ t := ⟨_, rfl⟩
  rw [← eb]
  have hkc : E.keep 56 = true := rfl
  have k1 : ∀ g g1 g2, pcall E 56 [.rs g 1 [.rs g1 1 (H.map by8), .rs g2 1 (t.map by8)]] = some (.sl 1 0 0 0 b.length, [.row 0 1 (b.map by8) 5]) := fun g g1 g2 => by
    have e : b = cat [(g1, H), (g2, t)] := by rw [eb]; simp only [cat, List.flatMap_cons, List.flatMap_nil, List.append_nil]
    have := s56 g [(g1, H), (g2, t)] (by simp) (by rw [← e, eb, List.length_append]; omega)
    rw [← e, hkc, kone_t] at this
    exact this
  generalize min p.body.length 8 = mn at *
  simp only [pkC_eq] at q ⊢
  clear ht eb
  simp (disch := first | omega | (simp only [List.length_cons, List.length_nil, List.length_append, List.length_map, List.length_set]; omega) | rfl | (simp only [List.length_cons, List.length_nil, List.length_append, List.length_map, List.length_set, List.length_replicate, List.all_cons, List.all_nil, List.all_append, storable, plainB, Bool.and_self]; done)) only [go_sem, reduceCtorEq, ↓reduceIte, reduceDIte, evI_callP, callPK_some, I20, hk, q, hl, em, hsl, k1, evI_mm, mmV_2, mm2_min]
theorem Mg.eq_iff (p o : Mg) : decide (p = o) = (decide (p.ty = o.ty) && (decide (p.co = o.co) && ((decide (p.r0 = o.r0) && (decide (p.r1 = o.r1) && (decide (p.r2 = o.r2) && decide (p.r3 = o.r3)))) && decide (p.body = o.body)))) := by
  obtain ⟨a1, a2, a3, a4, a5, a6, a7⟩ := p
  obtain ⟨b1, b2, b3, b4, b5, b6, b7⟩ := o
  simp only [Mg.mk.injEq, Bool.decide_and, Bool.and_assoc]
end Go.Fw.Wd
