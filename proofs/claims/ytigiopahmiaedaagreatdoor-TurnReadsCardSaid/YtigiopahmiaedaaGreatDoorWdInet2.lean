/-
  Packets: what Parse and Peek answer, by the program and by the document; what is the same. Conditions: stated at each.
-/
import Derived.Test.YtigiopahmiaedaaGreatDoorWdInet
set_option linter.unusedVariables false
set_option linter.unusedSimpArgs false
namespace Go.Fw.Wd
open Go.Proofs Code_

/-- The first fault of a packet: a reason and an error. -/
def pkE (w : Bool) (b : List UInt8) : Int × Int :=
  if ¬ (shpE w b).2 = 0 then shpE w b
  else if w = true ∧ ¬ foldN (sumW (b.take (hdL b))) = 65535 then (2, 13) else redE b
def pkOf (w : Bool) (b : List UInt8) : Pk := if (pkE w b).2 = 0 then redP b else Pk.zero
theorem shp_ok {w : Bool} {b : List UInt8} (h : (shpE w b).2 = 0) : 20 ≤ b.length ∧ (nth b 0).toNat / 16 = 4 ∧ 20 ≤ hdL b ∧ need w b ≤ b.length ∧ hdL b ≤ n2 b 2 := by
  unfold shpE at h
  split at h
  · simp at h
  split at h
  · simp at h
  rename_i h2
  split at h
  · simp at h
  split at h
  · simp at h
  split at h
  · simp at h
  exact ⟨by omega, by simpa using h2, by omega, by omega, by omega⟩
theorem need_le (w : Bool) (b : List UInt8) : hdL b ≤ need w b := by unfold need; split <;> omega
theorem s99 (g : Bool) (b : List UInt8) (hb : b.length ≤ 1048576) : pcall E 99 [bs g b] = some (.tup [.agg (pkC (pkOf false b)), errV (pkE false b).1 (pkE false b).2], []) := by
  rw [pcall_go (fn := I99) rfl rfl rfl]
  have hk : E.keep 99 = false := rfl
  have hm := fun g => s108 g b hb 109 false (by
    have := s109 (hdL b) (n2 b 2)
    rw [this]; unfold need; rw [if_neg (by simp)])
  unfold pkOf
  by_cases h1 : (shpE false b).2 = 0
  case neg =>
    have e : pkE false b = shpE false b := by unfold pkE; rw [if_pos h1]
    rw [e, if_neg h1]
    rw [errV_pos _ h1] at hm ⊢
    generalize (shpE false b).1 = r at *
    generalize (shpE false b).2 = n at *
    simp only [pkC_zero]
    have hc : ∃ x y, shpC b = [.int .i64 x, .int .i64 y] := by unfold shpC; split <;> exact ⟨_, _, rfl⟩
    obtain ⟨x, y, hc⟩ := hc
    rw [hc] at hm
    simp (disch := first | omega | (simp only [List.length_cons, List.length_nil, List.length_append, List.length_map, List.length_set]; omega) | rfl | (simp only [List.length_cons, List.length_nil, List.length_append, List.length_map, List.length_set, List.length_replicate, List.all_cons, List.all_nil, List.all_append, storable, plainB, Bool.and_self]; done)) only [go_sem, reduceCtorEq, ↓reduceIte, reduceDIte, evI_callP, callPK_some, I99, hk, hm]
  obtain ⟨a1, a2, a3, a4, a5⟩ := shp_ok h1
  have hc : shpC b = [.int .i64 ((hdL b : Nat) : Int), .int .i64 ((n2 b 2 : Nat) : Int)] := by unfold shpC; rw [if_neg (by omega)]
  rw [h1, errV_zero, hc] at hm
  have e : pkE false b = redE b := by unfold pkE; rw [if_neg (by rw [h1]; simp)]; simp
  have qd := fun g => s110 g b hb a1 a3 a5
  rw [e]
  generalize (if (redE b).2 = 0 then redP b else Pk.zero) = p at *
  by_cases h3 : (redE b).2 = 0
  · rw [h3, errV_zero] at qd ⊢
    simp only [pkC_eq] at qd ⊢
    simp (disch := first | omega | (simp only [List.length_cons, List.length_nil, List.length_append, List.length_map, List.length_set]; omega) | rfl | (simp only [List.length_cons, List.length_nil, List.length_append, List.length_map, List.length_set, List.length_replicate, List.all_cons, List.all_nil, List.all_append, storable, plainB, Bool.and_self]; done)) only [go_sem, reduceCtorEq, ↓reduceIte, reduceDIte, evI_callP, callPK_some, I99, hk, hm, qd]
  · rw [errV_pos _ h3] at qd ⊢
    simp only [pkC_eq] at qd ⊢
    simp (disch := first | omega | (simp only [List.length_cons, List.length_nil, List.length_append, List.length_map, List.length_set]; omega) | rfl | (simp only [List.length_cons, List.length_nil, List.length_append, List.length_map, List.length_set, List.length_replicate, List.all_cons, List.all_nil, List.all_append, storable, plainB, Bool.and_self]; done)) only [go_sem, reduceCtorEq, ↓reduceIte, reduceDIte, evI_callP, callPK_some, I99, hk, hm, qd]

/-! ### by the document -/

theorem word3 : pcall E 94 [.int .i64 3] = some (.str ⟨#[118, 101, 114, 115, 105, 111, 110]⟩, []) := pcall_run 30 (by kernel_rfl)
theorem word4 : pcall E 94 [.int .i64 4] = some (.str ⟨#[111, 112, 116, 105, 111, 110]⟩, []) := pcall_run 30 (by kernel_rfl)
theorem word5 : pcall E 94 [.int .i64 5] = some (.str ⟨#[102, 114, 97, 103]⟩, []) := pcall_run 30 (by kernel_rfl)
theorem word16 : pcall E 94 [.int .i64 16] = some (.str ⟨#[107, 105, 110, 100]⟩, []) := pcall_run 30 (by kernel_rfl)
theorem new_any (r e : Int) (w : ByteArray) (q : pcall E 94 [.int .i64 r] = some (.str w, [])) (hs : (w.toList == (⟨#[]⟩ : ByteArray).toList) = false) : pcall E 65 [.int .i64 r, .int .i64 e] = some (.agg (faultC r e), []) := by
  rw [pcall_go (fn := I65) rfl rfl rfl]
  have hk : E.keep 65 = false := rfl
  unfold faultC
  by_cases h : e = 0
  · simp (disch := first | omega | (simp only [List.length_cons, List.length_nil, List.length_append, List.length_map, List.length_set]; omega) | rfl | (simp only [List.length_cons, List.length_nil, List.length_append, List.length_map, List.length_set, List.length_replicate, List.all_cons, List.all_nil, List.all_append, storable, plainB, Bool.and_self]; done)) only [go_sem, reduceCtorEq, ↓reduceIte, reduceDIte, evI_callP, callPK_some, I65, hk, h]
  · simp (disch := first | omega | (simp only [List.length_cons, List.length_nil, List.length_append, List.length_map, List.length_set]; omega) | rfl | (simp only [List.length_cons, List.length_nil, List.length_append, List.length_map, List.length_set, List.length_replicate, List.all_cons, List.all_nil, List.all_append, storable, plainB, Bool.and_self]; done)) only [go_sem, reduceCtorEq, ↓reduceIte, reduceDIte, evI_callP, callPK_some, I65, hk, h, q, hs]
theorem new3 (e : Int) : pcall E 65 [.int .i64 3, .int .i64 e] = some (.agg (faultC 3 e), []) := new_any 3 e _ word3 (by decide +kernel)
theorem new4 (e : Int) : pcall E 65 [.int .i64 4, .int .i64 e] = some (.agg (faultC 4 e), []) := new_any 4 e _ word4 (by decide +kernel)
theorem new5 (e : Int) : pcall E 65 [.int .i64 5, .int .i64 e] = some (.agg (faultC 5 e), []) := new_any 5 e _ word5 (by decide +kernel)
theorem new16 (e : Int) : pcall E 65 [.int .i64 16, .int .i64 e] = some (.agg (faultC 16 e), []) := new_any 16 e _ word16 (by decide +kernel)
theorem s111 (g : Bool) (b : List UInt8) (h : 4 ≤ b.length) : pcall E 111 [bs g b] = some (.int .u32 ((n4 b 0 : Nat) : Int), []) := by
  rw [pcall_go (fn := I111) rfl rfl rfl]
  have hk : E.keep 111 = false := rfl
  have e := n4_nth b 0 (by omega)
  have h0 := (nth b 0).toNat_lt
  have h1 := (nth b 1).toNat_lt
  have h2 := (nth b 2).toNat_lt
  have h3 := (nth b 3).toNat_lt
  have b0 : (0 : Int) < b.length := by omega
  have b1 : (1 : Int) < b.length := by omega
  have b2 : (2 : Int) < b.length := by omega
  have b3 : (3 : Int) < b.length := by omega
  simp only [Nat.zero_add] at e
  have e2 : ((n4 b 0 : Nat) : Int) = ((nth b 0).toNat : Int) * 16777216 + ((nth b 1).toNat : Int) * 65536 + ((nth b 2).toNat : Int) * 256 + ((nth b 3).toNat : Int) := by omega
  rw [e2]
  have w0 : IntKind.u32.wrap (((nth b 0).toNat : Int) * 16777216) = ((nth b 0).toNat : Int) * 16777216 := wu32 (by omega) (by omega)
  have w1 : IntKind.u32.wrap (((nth b 1).toNat : Int) * 65536) = ((nth b 1).toNat : Int) * 65536 := wu32 (by omega) (by omega)
  have w2 : IntKind.u32.wrap (((nth b 2).toNat : Int) * 256) = ((nth b 2).toNat : Int) * 256 := wu32 (by omega) (by omega)
  have w3 : IntKind.u32.wrap (((nth b 0).toNat : Int) * 16777216 + ((nth b 1).toNat : Int) * 65536) = ((nth b 0).toNat : Int) * 16777216 + ((nth b 1).toNat : Int) * 65536 := wu32 (by omega) (by omega)
  have w4 : IntKind.u32.wrap (((nth b 0).toNat : Int) * 16777216 + ((nth b 1).toNat : Int) * 65536 + ((nth b 2).toNat : Int) * 256) = ((nth b 0).toNat : Int) * 16777216 + ((nth b 1).toNat : Int) * 65536 + ((nth b 2).toNat : Int) * 256 := wu32 (by omega) (by omega)
  have w5 : IntKind.u32.wrap (((nth b 0).toNat : Int) * 16777216 + ((nth b 1).toNat : Int) * 65536 + ((nth b 2).toNat : Int) * 256 + ((nth b 3).toNat : Int)) = ((nth b 0).toNat : Int) * 16777216 + ((nth b 1).toNat : Int) * 65536 + ((nth b 2).toNat : Int) * 256 + ((nth b 3).toNat : Int) := wu32 (by omega) (by omega)
  simp (disch := first | omega | (simp only [List.length_cons, List.length_nil, List.length_append, List.length_map, List.length_set]; omega) | rfl | (simp only [List.length_cons, List.length_nil, List.length_append, List.length_map, List.length_set, List.length_replicate, List.all_cons, List.all_nil, List.all_append, storable, plainB, Bool.and_self]; done)) only [go_sem, reduceCtorEq, ↓reduceIte, reduceDIte, evI_callP, callPK_some, I111, hk, wb32, w0, w1, w2, w3, w4, w5, b0, b1, b2, b3]
theorem and_two (n : Nat) : n = n := rfl
theorem q8_16 (n : UInt8) : IntKind.u8.wrap (Int.tdiv (n.toNat : Int) 16) = ((n.toNat / 16 : Nat) : Int) := by
  have h := n.toNat_lt
  have h1 : Int.tdiv (n.toNat : Int) 16 = ((n.toNat / 16 : Nat) : Int) := by rw [Int.tdiv_eq_ediv_of_nonneg (by omega), Int.natCast_ediv]; rfl
  rw [h1]
  exact wu8 (by omega) (by omega)
theorem r8_16 (n : UInt8) : Int.tmod (n.toNat : Int) 16 = ((n.toNat % 16 : Nat) : Int) := by rw [Int.tmod_eq_emod_of_nonneg (by omega), Int.natCast_emod]; rfl
theorem s100 (g : Bool) (b : List UInt8) (hb : b.length ≤ 1048576) (w : Bool) : pcall E 100 [bs g b, .bool w] = some (.tup [.agg (pkC (pkOf w b)), .agg (faultC (pkE w b).1 (pkE w b).2)], []) := by
  rw [pcall_go (fn := I100) rfl rfl rfl]
  have hk : E.keep 100 = false := rfl
  have f12 := new1 12
  have f10 := new1 10
  have f15 := new3 15
  have f13 := new2 13
  have f21 := new4 21
  have f20 := new5 20
  unfold faultC at f12 f10 f15 f13 f21 f20
  simp only [Int.reduceEq, if_false] at f12 f10 f15 f13 f21 f20
  unfold pkOf
  by_cases h1 : b.length < 20
  · have h1' : (b.length : Int) < 20 := by omega
    have e : pkE w b = (1, 12) := by have : shpE w b = (1, 12) := by { unfold shpE; rw [if_pos h1] }; unfold pkE; rw [this]; rfl
    simp only [e, Int.reduceEq, if_false, pkC_zero, faultC]
    simp (disch := first | omega | (simp only [List.length_cons, List.length_nil, List.length_append, List.length_map, List.length_set]; omega) | rfl | (simp only [List.length_cons, List.length_nil, List.length_append, List.length_map, List.length_set, List.length_replicate, List.all_cons, List.all_nil, List.all_append, storable, plainB, Bool.and_self]; done)) only [go_sem, reduceCtorEq, ↓reduceIte, reduceDIte, evI_callP, callPK_some, I100, hk, h1', f12]
  have h1' : ¬ (b.length : Int) < 20 := by omega
  have b0 : (0 : Int) < b.length := by omega
  have b2 : (2 : Int) < b.length := by omega
  have b3 : (3 : Int) < b.length := by omega
  have q16 := q8_16 (nth b 0)
  have r16 := r8_16 (nth b 0)
  have hd60 := hdL_le b
  have ed : hdL b = (nth b 0).toNat % 16 * 4 := rfl
  have hlt := (nth b 0).toNat_lt
  have n22 := n2_nth b 2 (by omega)
  have l2 := (nth b 2).toNat_lt
  have l3 := (nth b 3).toNat_lt
  simp only [Nat.reduceAdd] at n22
  obtain ⟨v, hv⟩ : ∃ v, v = (nth b 0).toNat / 16 := ⟨_, rfl⟩
  obtain ⟨m, hm⟩ : ∃ m, m = (nth b 0).toNat % 16 := ⟨_, rfl⟩
  rw [← hv] at q16
  rw [← hm] at r16 ed
  by_cases h2 : v = 4
  case neg =>
    have h2' : ¬ (v : Int) = 4 := by omega
    have e : pkE w b = (3, 15) := by have : shpE w b = (3, 15) := by { unfold shpE; rw [if_neg h1, ← hv, if_pos h2] }; unfold pkE; rw [this]; rfl
    simp only [e, Int.reduceEq, if_false, pkC_zero, faultC]
    simp (disch := first | omega | (simp only [List.length_cons, List.length_nil, List.length_append, List.length_map, List.length_set]; omega) | rfl | (simp only [List.length_cons, List.length_nil, List.length_append, List.length_map, List.length_set, List.length_replicate, List.all_cons, List.all_nil, List.all_append, storable, plainB, Bool.and_self]; done)) only [go_sem, reduceCtorEq, ↓reduceIte, reduceDIte, evI_callP, callPK_some, I100, hk, h1', h2', q16, b0, f15]
  have h2' : (v : Int) = 4 := by omega
  have w1 : IntKind.i64.wrap (m : Int) = (m : Int) := w64 (by omega) (by omega)
  have w2 : IntKind.i64.wrap ((m : Int) * 4) = ((hdL b : Nat) : Int) := by rw [w64 (by omega) (by omega)]; omega
  by_cases h3 : hdL b < 20
  · have h3' : ((hdL b : Nat) : Int) < 20 := by omega
    have e : pkE w b = (1, 10) := by have : shpE w b = (1, 10) := by { unfold shpE; rw [if_neg h1, ← hv, if_neg (by omega), if_pos h3] }; unfold pkE; rw [this]; rfl
    simp only [e, Int.reduceEq, if_false, pkC_zero, faultC]
    simp (disch := first | omega | (simp only [List.length_cons, List.length_nil, List.length_append, List.length_map, List.length_set]; omega) | rfl | (simp only [List.length_cons, List.length_nil, List.length_append, List.length_map, List.length_set, List.length_replicate, List.all_cons, List.all_nil, List.all_append, storable, plainB, Bool.and_self]; done)) only [go_sem, reduceCtorEq, ↓reduceIte, reduceDIte, evI_callP, callPK_some, I100, hk, h1', h2', h3', q16, r16, w1, w2, b0, f10]
  have h3' : ¬ ((hdL b : Nat) : Int) < 20 := by omega
  have w3 : IntKind.i64.wrap (((nth b 2).toNat : Int) * 256) = ((nth b 2).toNat : Int) * 256 := w64 (by omega) (by omega)
  have w4 : IntKind.i64.wrap (((nth b 2).toNat : Int) * 256 + ((nth b 3).toNat : Int)) = ((n2 b 2 : Nat) : Int) := by rw [w64 (by omega) (by omega)]; omega
  have hneed : need w b = if w = true then max (hdL b) (n2 b 2) else hdL b := rfl
  have hl2 := n2_lt b 2
  by_cases h4 : b.length < need w b
  · have e : pkE w b = (1, 12) := by have : shpE w b = (1, 12) := by { unfold shpE; rw [if_neg h1, ← hv, if_neg (by omega), if_neg h3, if_pos h4] }; unfold pkE; rw [this]; rfl
    simp only [e, Int.reduceEq, if_false, pkC_zero, faultC]
    by_cases h5 : (b.length : Int) < ((hdL b : Nat) : Int)
    · simp (disch := first | omega | (simp only [List.length_cons, List.length_nil, List.length_append, List.length_map, List.length_set]; omega) | rfl | (simp only [List.length_cons, List.length_nil, List.length_append, List.length_map, List.length_set, List.length_replicate, List.all_cons, List.all_nil, List.all_append, storable, plainB, Bool.and_self]; done)) only [go_sem, reduceCtorEq, ↓reduceIte, reduceDIte, evI_callP, callPK_some, I100, hk, h1', h2', h3', h5, q16, r16, w1, w2, w3, w4, wbi, b0, b2, b3, f12]
    · have hw : w = true := by
        cases w
        · simp at hneed; omega
        · rfl
      subst hw
      have h6 : (b.length : Int) < ((n2 b 2 : Nat) : Int) := by rw [if_pos rfl] at hneed; omega
      simp (disch := first | omega | (simp only [List.length_cons, List.length_nil, List.length_append, List.length_map, List.length_set]; omega) | rfl | (simp only [List.length_cons, List.length_nil, List.length_append, List.length_map, List.length_set, List.length_replicate, List.all_cons, List.all_nil, List.all_append, storable, plainB, Bool.and_self]; done)) only [go_sem, reduceCtorEq, ↓reduceIte, reduceDIte, evI_callP, callPK_some, I100, hk, h1', h2', h3', h5, h6, q16, r16, w1, w2, w3, w4, wbi, b0, b2, b3, f12]
  have h4a : ¬ (b.length : Int) < ((hdL b : Nat) : Int) := by have := need_le w b; omega
  have h4b : (if w = true then decide ((b.length : Int) < ((n2 b 2 : Nat) : Int)) else false) = false := by
    cases w
    · rfl
    · simp at hneed ⊢; omega
  by_cases h5 : n2 b 2 < hdL b
  · have h5' : ((n2 b 2 : Nat) : Int) < ((hdL b : Nat) : Int) := by omega
    have e : pkE w b = (1, 10) := by have : shpE w b = (1, 10) := by { unfold shpE; rw [if_neg h1, ← hv, if_neg (by omega), if_neg h3, if_neg h4, if_pos h5] }; unfold pkE; rw [this]; rfl
    simp only [e, Int.reduceEq, if_false, pkC_zero, faultC]
    cases w
    · simp (disch := first | omega | (simp only [List.length_cons, List.length_nil, List.length_append, List.length_map, List.length_set]; omega) | rfl | (simp only [List.length_cons, List.length_nil, List.length_append, List.length_map, List.length_set, List.length_replicate, List.all_cons, List.all_nil, List.all_append, storable, plainB, Bool.and_self]; done)) only [go_sem, reduceCtorEq, ↓reduceIte, reduceDIte, evI_callP, callPK_some, I100, hk, h1', h2', h3', h4a, h5', q16, r16, w1, w2, w3, w4, wbi, b0, b2, b3, f10]
    · have h6 : ¬ (b.length : Int) < ((n2 b 2 : Nat) : Int) := by simpa using h4b
      simp (disch := first | omega | (simp only [List.length_cons, List.length_nil, List.length_append, List.length_map, List.length_set]; omega) | rfl | (simp only [List.length_cons, List.length_nil, List.length_append, List.length_map, List.length_set, List.length_replicate, List.all_cons, List.all_nil, List.all_append, storable, plainB, Bool.and_self]; done)) only [go_sem, reduceCtorEq, ↓reduceIte, reduceDIte, evI_callP, callPK_some, I100, hk, h1', h2', h3', h4a, h5', h6, q16, r16, w1, w2, w3, w4, wbi, b0, b2, b3, f10]
  have h5' : ¬ ((n2 b 2 : Nat) : Int) < ((hdL b : Nat) : Int) := by omega
  have e0 : shpE w b = (0, 0) := by unfold shpE; rw [if_neg h1, ← hv, if_neg (by omega), if_neg h3, if_neg h4, if_neg h5]
  have e : pkE w b = if w = true ∧ ¬ foldN (sumW (b.take (hdL b))) = 65535 then (2, 13) else redE b := by unfold pkE; rw [e0]; simp
  rw [e]
  obtain ⟨c, hcc⟩ : ∃ c, c = b.take (hdL b) := ⟨_, rfl⟩
  have hsl : ∀ h g, sliceK h 1 (.rs g 1 (b.map by8)) (some b.length) none (some (.int .i64 ((hdL b : Nat) : Int))) = some (.rs g 1 (c.map by8), h) := fun h g => by
    have := slice_by_ni h g b .i64 ((hdL b : Nat) : Int) (by omega) (by omega)
    rw [Int.toNat_natCast, ← hcc] at this
    exact this
  have lc : c.length ≤ b.length := by rw [hcc, List.length_take]; omega
  have qt := fun g => s67 g c (by omega)
  rw [← hcc]
  have n44 := n2_nth b 4 (by omega)
  have n66 := n2_nth b 6 (by omega)
  have l4 := (nth b 4).toNat_lt
  have l5 := (nth b 5).toNat_lt
  have l6 := (nth b 6).toNat_lt
  have l7 := (nth b 7).toNat_lt
  simp only [Nat.reduceAdd] at n44 n66
  have b1 : (1 : Int) < b.length := by omega
  have b4 : (4 : Int) < b.length := by omega
  have b5 : (5 : Int) < b.length := by omega
  have b6 : (6 : Int) < b.length := by omega
  have b7 : (7 : Int) < b.length := by omega
  have b8 : (8 : Int) < b.length := by omega
  have b9 : (9 : Int) < b.length := by omega
  have w6 : IntKind.i64.wrap (((nth b 6).toNat : Int) * 256) = ((nth b 6).toNat : Int) * 256 := w64 (by omega) (by omega)
  have w7 : IntKind.i64.wrap (((nth b 6).toNat : Int) * 256 + ((nth b 7).toNat : Int)) = ((n2 b 6 : Nat) : Int) := by rw [w64 (by omega) (by omega)]; omega
  have w8 : IntKind.i64.wrap (((nth b 4).toNat : Int) * 256) = ((nth b 4).toNat : Int) * 256 := w64 (by omega) (by omega)
  have w9 : IntKind.i64.wrap (((nth b 4).toNat : Int) * 256 + ((nth b 5).toNat : Int)) = ((n2 b 4 : Nat) : Int) := by rw [w64 (by omega) (by omega)]; omega
  have ll4 := n2_lt b 4
  have ll6 := n2_lt b 6
  have ll12 := n4_lt b 12
  have ll16 := n4_lt b 16
  have e4 : ((n2 b 4 : Nat) : Int) = ((UInt16.ofNat (n2 b 4)).toNat : Int) := by rw [UInt16.toNat_ofNat_of_lt' (by show _ < 65536; exact ll4)]
  have e12 : ((n4 b 12 : Nat) : Int) = ((UInt32.ofNat (n4 b 12)).toNat : Int) := by rw [UInt32.toNat_ofNat_of_lt' (by show _ < 4294967296; exact ll12)]
  have e16 : ((n4 b 16 : Nat) : Int) = ((UInt32.ofNat (n4 b 16)).toNat : Int) := by rw [UInt32.toNat_ofNat_of_lt' (by show _ < 4294967296; exact ll16)]
  have w10 : IntKind.u16.wrap ((n2 b 4 : Nat) : Int) = ((UInt16.ofNat (n2 b 4)).toNat : Int) := by rw [← e4]; exact wu16 (by omega) (by omega)
  have q12 := fun g => s111 g (b.drop 12) (by rw [List.length_drop]; omega)
  have q16b := fun g => s111 g (b.drop 16) (by rw [List.length_drop]; omega)
  rw [n4_drop] at q12 q16b
  simp only [Nat.add_zero] at q12 q16b
  rw [e12] at q12
  rw [e16] at q16b
  have hs12 : ∀ h g, sliceK h 1 (.rs g 1 (b.map by8)) (some b.length) (some (.int .i64 12)) none = some (.rs g 1 ((b.drop 12).map by8), h) := fun h g => slice_by_in h g b .i64 12 (by omega) (by omega)
  have hs16 : ∀ h g, sliceK h 1 (.rs g 1 (b.map by8)) (some b.length) (some (.int .i64 16)) none = some (.rs g 1 ((b.drop 16).map by8), h) := fun h g => slice_by_in h g b .i64 16 (by omega) (by omega)
  unfold redE redP fragB
  obtain ⟨d, hd⟩ : ∃ d, d = (b.take (min (n2 b 2) b.length)).drop 20 := ⟨_, rfl⟩
  have em : min ((n2 b 2 : Nat) : Int) ((b.length : Nat) : Int) = ((min (n2 b 2) b.length : Nat) : Int) := by omega
  have hm1 : min (n2 b 2) b.length ≤ b.length := Nat.min_le_right _ _
  have hm2 : 20 ≤ min (n2 b 2) b.length := by omega
  have hsd : ∀ h g, sliceK h 1 (.rs g 1 (b.map by8)) (some b.length) (some (.int .i64 20)) (some (.int .i64 ((min (n2 b 2) b.length : Nat) : Int))) = some (.rs g 1 (d.map by8), h) := fun h g => by
    have := slice_by_ii h g b .i64 .i64 20 ((min (n2 b 2) b.length : Nat) : Int) (by omega) (by omega) (by omega)
    rw [Int.toNat_natCast, show Int.toNat 20 = 20 from rfl] at this
    rw [this, hd, List.drop_take]
  have dl : d.length = min (n2 b 2) b.length - 20 := by rw [hd, List.length_drop, List.length_take]; omega
  rw [← hd]
  generalize min (n2 b 2) b.length = mn at *
  have a1 : ∀ h i, appR h 1 1 5 (d.map by8) (mn - 20) i 0 0 (some (.row 0 1 [] 5)) = some (.sl 1 i 1 0 (mn - 20), h.set i (.row 1 1 (d.map by8) 5)) := fun h i => by
    have := appR_by8 h 1 5 i 0 0 (mn - 20) [] d rfl (by omega) (by omega)
    simpa using this
  clear hd hcc
  cases w
  · simp only [Bool.false_eq_true, false_and, if_false]
    by_cases c1 : 20 < hdL b
    · have c1' : (20 : Int) < ((hdL b : Nat) : Int) := by omega
      simp only [c1, if_true, Int.reduceEq, if_false, pkC_zero, faultC]
      simp (disch := first | omega | (simp only [List.length_cons, List.length_nil, List.length_append, List.length_map, List.length_set]; omega) | rfl | (simp only [List.length_cons, List.length_nil, List.length_append, List.length_map, List.length_set, List.length_replicate, List.all_cons, List.all_nil, List.all_append, storable, plainB, Bool.and_self]; done)) only [go_sem, reduceCtorEq, ↓reduceIte, reduceDIte, evI_callP, callPK_some, I100, hk, h1', h2', h3', h4a, h5', q16, r16, w1, w2, w3, w4, wbi, b0, b2, b3, c1', f21]
    have c1' : ¬ (20 : Int) < ((hdL b : Nat) : Int) := by omega
    have hh : ((hdL b : Nat) : Int) = 20 := by omega
    have hh2 : hdL b = 20 := by omega
    simp only [c1, if_false]
    by_cases z0 : n2 b 6 = 0
    · have z0' : ((n2 b 6 : Nat) : Int) = 0 := by omega
      simp only [z0, decide_true, Bool.true_or, Bool.not_true, Bool.false_eq_true, if_false, if_true, not_true, decide_false, faultC]
      have h4x : ¬ (b.length : Int) < 20 := by omega
      have h5x : ¬ ((n2 b 2 : Nat) : Int) < 20 := by omega
      have em20 : ((20 : Nat) : Int) = 20 := rfl
      rw [hh] at w2
      simp only [pkC_eq]
      simp (disch := first | omega | (simp only [List.length_cons, List.length_nil, List.length_append, List.length_map, List.length_set]; omega) | rfl | (simp only [List.length_cons, List.length_nil, List.length_append, List.length_map, List.length_set, List.length_replicate, List.all_cons, List.all_nil, List.all_append, storable, plainB, Bool.and_self]; done)) only [go_sem, reduceCtorEq, ↓reduceIte, reduceDIte, evI_callP, callPK_some, I100, hk, h1', h2', h4x, h5x, q16, r16, w1, w2, w3, w4, wbi, b0, b1, b2, b3, b4, b5, b6, b7, b8, b9, w6, w7, w8, w9, w10, q12, q16b, hs12, hs16, hsd, em, a1, dl, evI_mm, mmV_2, mm2_min, z0']
    have z0' : ¬ ((n2 b 6 : Nat) : Int) = 0 := by omega
    by_cases z1 : n2 b 6 = 16384
    · have z1' : ((n2 b 6 : Nat) : Int) = 16384 := by omega
      have z2' : ¬ (16384 : Int) = 0 := by omega
      have z3 : ¬ (16384 : Nat) = 0 := by omega
      simp only [z1, z3, decide_true, Bool.or_true, Bool.not_true, Bool.false_eq_true, if_false, if_true, not_false_eq_true, decide_false, faultC]
      have h4x : ¬ (b.length : Int) < 20 := by omega
      have h5x : ¬ ((n2 b 2 : Nat) : Int) < 20 := by omega
      have em20 : ((20 : Nat) : Int) = 20 := rfl
      rw [hh] at w2
      simp only [pkC_eq]
      simp (disch := first | omega | (simp only [List.length_cons, List.length_nil, List.length_append, List.length_map, List.length_set]; omega) | rfl | (simp only [List.length_cons, List.length_nil, List.length_append, List.length_map, List.length_set, List.length_replicate, List.all_cons, List.all_nil, List.all_append, storable, plainB, Bool.and_self]; done)) only [go_sem, reduceCtorEq, ↓reduceIte, reduceDIte, evI_callP, callPK_some, I100, hk, h1', h2', h4x, h5x, q16, r16, w1, w2, w3, w4, wbi, b0, b1, b2, b3, b4, b5, b6, b7, b8, b9, w6, w7, w8, w9, w10, q12, q16b, hs12, hs16, hsd, em, a1, dl, evI_mm, mmV_2, mm2_min, z1', z2']
    have z1' : ¬ ((n2 b 6 : Nat) : Int) = 16384 := by omega
    simp only [z0, z1, decide_false, Bool.or_false, Bool.not_false, if_true, Int.reduceEq, if_false, pkC_zero, faultC]
    simp (disch := first | omega | (simp only [List.length_cons, List.length_nil, List.length_append, List.length_map, List.length_set]; omega) | rfl | (simp only [List.length_cons, List.length_nil, List.length_append, List.length_map, List.length_set, List.length_replicate, List.all_cons, List.all_nil, List.all_append, storable, plainB, Bool.and_self]; done)) only [go_sem, reduceCtorEq, ↓reduceIte, reduceDIte, evI_callP, callPK_some, I100, hk, h1', h2', h3', h4a, h5', q16, r16, w1, w2, w3, w4, wbi, b0, b2, b3, c1', b6, b7, w6, w7, z0', z1', f20]
  · have h6 : ¬ (b.length : Int) < ((n2 b 2 : Nat) : Int) := by simpa using h4b
    by_cases hs : foldN (sumW c) = 65535
    case neg =>
      have hs' : ¬ ((foldN (sumW c) : Nat) : Int) = 65535 := by omega
      simp only [hs, not_false_eq_true, and_self, if_true, Int.reduceEq, if_false, pkC_zero, faultC]
      simp (disch := first | omega | (simp only [List.length_cons, List.length_nil, List.length_append, List.length_map, List.length_set]; omega) | rfl | (simp only [List.length_cons, List.length_nil, List.length_append, List.length_map, List.length_set, List.length_replicate, List.all_cons, List.all_nil, List.all_append, storable, plainB, Bool.and_self]; done)) only [go_sem, reduceCtorEq, ↓reduceIte, reduceDIte, evI_callP, callPK_some, I100, hk, h1', h2', h3', h4a, h5', h6, hs', hsl, qt, q16, r16, w1, w2, w3, w4, wbi, b0, b2, b3, f13]
    have hs' : ((foldN (sumW c) : Nat) : Int) = 65535 := by omega
    simp only [hs, not_true, and_false, if_false]
    by_cases c1 : 20 < hdL b
    · have c1' : (20 : Int) < ((hdL b : Nat) : Int) := by omega
      simp only [c1, if_true, Int.reduceEq, if_false, pkC_zero, faultC]
      simp (disch := first | omega | (simp only [List.length_cons, List.length_nil, List.length_append, List.length_map, List.length_set]; omega) | rfl | (simp only [List.length_cons, List.length_nil, List.length_append, List.length_map, List.length_set, List.length_replicate, List.all_cons, List.all_nil, List.all_append, storable, plainB, Bool.and_self]; done)) only [go_sem, reduceCtorEq, ↓reduceIte, reduceDIte, evI_callP, callPK_some, I100, hk, h1', h2', h3', h4a, h5', h6, hs', hsl, qt, q16, r16, w1, w2, w3, w4, wbi, b0, b2, b3, c1', f21]
    have c1' : ¬ (20 : Int) < ((hdL b : Nat) : Int) := by omega
    have hh : ((hdL b : Nat) : Int) = 20 := by omega
    have hh2 : hdL b = 20 := by omega
    simp only [c1, if_false]
    by_cases z0 : n2 b 6 = 0
    · have z0' : ((n2 b 6 : Nat) : Int) = 0 := by omega
      simp only [z0, decide_true, Bool.true_or, Bool.not_true, Bool.false_eq_true, if_false, if_true, not_true, decide_false, faultC]
      have h4x : ¬ (b.length : Int) < 20 := by omega
      have h5x : ¬ ((n2 b 2 : Nat) : Int) < 20 := by omega
      have hslx := hsl
      rw [hh] at hslx
      have em20 : ((20 : Nat) : Int) = 20 := rfl
      rw [hh] at w2
      simp only [pkC_eq]
      simp (disch := first | omega | (simp only [List.length_cons, List.length_nil, List.length_append, List.length_map, List.length_set]; omega) | rfl | (simp only [List.length_cons, List.length_nil, List.length_append, List.length_map, List.length_set, List.length_replicate, List.all_cons, List.all_nil, List.all_append, storable, plainB, Bool.and_self]; done)) only [go_sem, reduceCtorEq, ↓reduceIte, reduceDIte, evI_callP, callPK_some, I100, hk, h1', h2', h4x, h5x, h6, hs', hslx, qt, q16, r16, w1, w2, w3, w4, wbi, b0, b1, b2, b3, b4, b5, b6, b7, b8, b9, w6, w7, w8, w9, w10, q12, q16b, hs12, hs16, hsd, em, a1, dl, evI_mm, mmV_2, mm2_min, z0']
    have z0' : ¬ ((n2 b 6 : Nat) : Int) = 0 := by omega
    by_cases z1 : n2 b 6 = 16384
    · have z1' : ((n2 b 6 : Nat) : Int) = 16384 := by omega
      have z2' : ¬ (16384 : Int) = 0 := by omega
      have z3 : ¬ (16384 : Nat) = 0 := by omega
      simp only [z1, z3, decide_true, Bool.or_true, Bool.not_true, Bool.false_eq_true, if_false, if_true, not_false_eq_true, decide_false, faultC]
      have h4x : ¬ (b.length : Int) < 20 := by omega
      have h5x : ¬ ((n2 b 2 : Nat) : Int) < 20 := by omega
      have hslx := hsl
      rw [hh] at hslx
      have em20 : ((20 : Nat) : Int) = 20 := rfl
      rw [hh] at w2
      simp only [pkC_eq]
      simp (disch := first | omega | (simp only [List.length_cons, List.length_nil, List.length_append, List.length_map, List.length_set]; omega) | rfl | (simp only [List.length_cons, List.length_nil, List.length_append, List.length_map, List.length_set, List.length_replicate, List.all_cons, List.all_nil, List.all_append, storable, plainB, Bool.and_self]; done)) only [go_sem, reduceCtorEq, ↓reduceIte, reduceDIte, evI_callP, callPK_some, I100, hk, h1', h2', h4x, h5x, h6, hs', hslx, qt, q16, r16, w1, w2, w3, w4, wbi, b0, b1, b2, b3, b4, b5, b6, b7, b8, b9, w6, w7, w8, w9, w10, q12, q16b, hs12, hs16, hsd, em, a1, dl, evI_mm, mmV_2, mm2_min, z1', z2']
    have z1' : ¬ ((n2 b 6 : Nat) : Int) = 16384 := by omega
    simp only [z0, z1, decide_false, Bool.or_false, Bool.not_false, if_true, Int.reduceEq, if_false, pkC_zero, faultC]
    simp (disch := first | omega | (simp only [List.length_cons, List.length_nil, List.length_append, List.length_map, List.length_set]; omega) | rfl | (simp only [List.length_cons, List.length_nil, List.length_append, List.length_map, List.length_set, List.length_replicate, List.all_cons, List.all_nil, List.all_append, storable, plainB, Bool.and_self]; done)) only [go_sem, reduceCtorEq, ↓reduceIte, reduceDIte, evI_callP, callPK_some, I100, hk, h1', h2', h3', h4a, h5', h6, hs', hsl, qt, q16, r16, w1, w2, w3, w4, wbi, b0, b2, b3, c1', b6, b7, w6, w7, z0', z1', f20]
theorem s72 (g : Bool) (b : List UInt8) (hb : b.length ≤ 1048576) : pcall E 72 [bs g b] = some (.tup [.agg (pkC (pkOf false b)), .agg (faultC (pkE false b).1 (pkE false b).2)], []) := by
  rw [pcall_go (fn := I72) rfl rfl rfl]
  have hk : E.keep 72 = false := rfl
  have q := fun g => s100 g b hb false
  have hf : ∃ x y, faultC (pkE false b).1 (pkE false b).2 = [.rs false 1 x, .int .i64 y] ∧ (noG.noGL x = true ∧ x.all plainB = true) := by
    by_cases h : (pkE false b).2 = 0
    · rw [h, faultC_zero]; exact ⟨_, _, rfl, rfl, rfl⟩
    · rw [faultC_pos _ h]; exact ⟨_, _, rfl, rfl, rfl⟩
  obtain ⟨x, y, hf, hx, hx2⟩ := hf
  rw [hf] at q ⊢
  generalize pkOf false b = p at *
  simp only [pkC_eq] at q ⊢
  simp (disch := first | omega | (simp only [List.length_cons, List.length_nil, List.length_append, List.length_map, List.length_set]; omega) | rfl | (simp only [List.length_cons, List.length_nil, List.length_append, List.length_map, List.length_set, List.length_replicate, List.all_cons, List.all_nil, List.all_append, storable, plainB, Bool.and_self]; done)) only [go_sem, reduceCtorEq, ↓reduceIte, reduceDIte, evI_callP, callPK_some, I72, hk, q, hx, hx2]
end Go.Fw.Wd
