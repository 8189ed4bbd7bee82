/-
  Packets: what Parse and Peek answer, by the program and by the document; what is the same. Conditions: stated at each.
-/
import Derived.Test.YtigiopahmiaedaaDoorWdInet
set_option linter.unusedVariables false
set_option linter.unusedSimpArgs false
namespace Go.Fw.Wd
open Go.Proofs Code_

/-- The first fault of a packet: a reason and an error. -/
def pkE (w : Bool) (b : List UInt8) : Int × Int :=
  if ¬ (shpE w b).2 = 0 then shpE w b
  else if w = true ∧ ¬ foldN (sumW (b.take (hdL b))) = 65535 then (2, 13) else redE b
def pkOf (w : Bool) (b : List UInt8) : Pk := if (pkE w b).2 = 0 then redP b else Pk.zero
theorem shp_ok {w : Bool} {b : List UInt8} (h : (shpE w b).2 = 0) : 20 ≤ b.length ∧ (nth b 0).toNat / 16 = 4 ∧ 20 ≤ hdL b ∧ need w b ≤ b.length ∧ hdL b ≤ n2 b 2 := by
  unfold shpE at h
  split at h
  · simp at h
  split at h
  · simp at h
  rename_i h2
  split at h
  · simp at h
  split at h
  · simp at h
  split at h
  · simp at h
  exact ⟨by omega, by simpa using h2, by omega, by omega, by omega⟩
theorem need_le (w : Bool) (b : List UInt8) : hdL b ≤ need w b := by unfold need; split <;> omega
theorem s53 (g : Bool) (b : List UInt8) (hb : b.length ≤ 1048576) : pcall E 53 [bs g b] = some (.tup [.agg (pkC (pkOf false b)), errV (pkE false b).1 (pkE false b).2], []) := by
  rw [pcall_go (fn := I53) rfl rfl rfl]
  have hk : E.keep 53 = false := rfl
  have hm := fun g => s77 g b hb 78 false (by
    have := s78 (hdL b) (n2 b 2)
    rw [this]; unfold need; rw [if_neg (by simp)])
  unfold pkOf
  by_cases h1 : (shpE false b).2 = 0
  case neg =>
    have e : pkE false b = shpE false b := by unfold pkE; rw [if_pos h1]
    rw [e, if_neg h1]
    rw [errV_pos _ h1] at hm ⊢
    generalize (shpE false b).1 = r at *
    generalize (shpE false b).2 = n at *
    simp only [pkC_zero]
    have hc : ∃ x y, shpC b = [.int .i64 x, .int .i64 y] := by unfold shpC; split <;> exact ⟨_, _, rfl⟩
    obtain ⟨x, y, hc⟩ := hc
    rw [hc] at hm
    simp (disch := first | omega | (simp only [List.length_cons, List.length_nil, List.length_append, List.length_map, List.length_set]; omega) | rfl | (simp only [List.length_cons, List.length_nil, List.length_append, List.length_map, List.length_set, List.length_replicate, List.all_cons, List.all_nil, List.all_append, storable, plainB, Bool.and_self]; done)) only [go_sem, reduceCtorEq, ↓reduceIte, reduceDIte, evI_callP, callPK_some, I53, hk, hm]
  obtain ⟨a1, a2, a3, a4, a5⟩ := shp_ok h1
  have hc : shpC b = [.int .i64 ((hdL b : Nat) : Int), .int .i64 ((n2 b 2 : Nat) : Int)] := by unfold shpC; rw [if_neg (by omega)]
  rw [h1, errV_zero, hc] at hm
  have e : pkE false b = redE b := by unfold pkE; rw [if_neg (by rw [h1]; simp)]; simp
  have qd := fun g => s79 g b hb a1 a3 a5
  rw [e]
  generalize (if (redE b).2 = 0 then redP b else Pk.zero) = p at *
  by_cases h3 : (redE b).2 = 0
  · rw [h3, errV_zero] at qd ⊢
    simp only [pkC_eq] at qd ⊢
    simp (disch := first | omega | (simp only [List.length_cons, List.length_nil, List.length_append, List.length_map, List.length_set]; omega) | rfl | (simp only [List.length_cons, List.length_nil, List.length_append, List.length_map, List.length_set, List.length_replicate, List.all_cons, List.all_nil, List.all_append, storable, plainB, Bool.and_self]; done)) only [go_sem, reduceCtorEq, ↓reduceIte, reduceDIte, evI_callP, callPK_some, I53, hk, hm, qd]
  · rw [errV_pos _ h3] at qd ⊢
    simp only [pkC_eq] at qd ⊢
    simp (disch := first | omega | (simp only [List.length_cons, List.length_nil, List.length_append, List.length_map, List.length_set]; omega) | rfl | (simp only [List.length_cons, List.length_nil, List.length_append, List.length_map, List.length_set, List.length_replicate, List.all_cons, List.all_nil, List.all_append, storable, plainB, Bool.and_self]; done)) only [go_sem, reduceCtorEq, ↓reduceIte, reduceDIte, evI_callP, callPK_some, I53, hk, hm, qd]

/-! ### by the document -/

theorem word3 : pcall E 101 [.int .i64 3] = some (.str ⟨#[118, 101, 114, 115, 105, 111, 110]⟩, []) := pcall_run 30 (by kernel_rfl)
theorem word4 : pcall E 101 [.int .i64 4] = some (.str ⟨#[111, 112, 116, 105, 111, 110]⟩, []) := pcall_run 30 (by kernel_rfl)
theorem word5 : pcall E 101 [.int .i64 5] = some (.str ⟨#[102, 114, 97, 103]⟩, []) := pcall_run 30 (by kernel_rfl)
theorem word16 : pcall E 101 [.int .i64 16] = some (.str ⟨#[107, 105, 110, 100]⟩, []) := pcall_run 30 (by kernel_rfl)
theorem new_any (r e : Int) (w : ByteArray) (q : pcall E 101 [.int .i64 r] = some (.str w, [])) (hs : (w.toList == (⟨#[]⟩ : ByteArray).toList) = false) : pcall E 65 [.int .i64 r, .int .i64 e] = some (.agg (faultC r e), []) := by
  rw [pcall_go (fn := I65) rfl rfl rfl]
  have hk : E.keep 65 = false := rfl
  unfold faultC
  by_cases h : e = 0
  · simp (disch := first | omega | (simp only [List.length_cons, List.length_nil, List.length_append, List.length_map, List.length_set]; omega) | rfl | (simp only [List.length_cons, List.length_nil, List.length_append, List.length_map, List.length_set, List.length_replicate, List.all_cons, List.all_nil, List.all_append, storable, plainB, Bool.and_self]; done)) only [go_sem, reduceCtorEq, ↓reduceIte, reduceDIte, evI_callP, callPK_some, I65, hk, h]
  · simp (disch := first | omega | (simp only [List.length_cons, List.length_nil, List.length_append, List.length_map, List.length_set]; omega) | rfl | (simp only [List.length_cons, List.length_nil, List.length_append, List.length_map, List.length_set, List.length_replicate, List.all_cons, List.all_nil, List.all_append, storable, plainB, Bool.and_self]; done)) only [go_sem, reduceCtorEq, ↓reduceIte, reduceDIte, evI_callP, callPK_some, I65, hk, h, q, hs]
theorem new3 (e : Int) : pcall E 65 [.int .i64 3, .int .i64 e] = some (.agg (faultC 3 e), []) := new_any 3 e _ word3 (by decide +kernel)
theorem new4 (e : Int) : pcall E 65 [.int .i64 4, .int .i64 e] = some (.agg (faultC 4 e), []) := new_any 4 e _ word4 (by decide +kernel)
theorem new5 (e : Int) : pcall E 65 [.int .i64 5, .int .i64 e] = some (.agg (faultC 5 e), []) := new_any 5 e _ word5 (by decide +kernel)
theorem new16 (e : Int) : pcall E 65 [.int .i64 16, .int .i64 e] = some (.agg (faultC 16 e), []) := new_any 16 e _ word16 (by decide +kernel)
theorem and_two (n : Nat) : n = n := rfl
theorem q8_16 (n : UInt8) : IntKind.u8.wrap (Int.tdiv (n.toNat : Int) 16) = ((n.toNat / 16 : Nat) : Int) := by
  have h := n.toNat_lt
  have h1 : Int.tdiv (n.toNat : Int) 16 = ((n.toNat / 16 : Nat) : Int) := by rw [Int.tdiv_eq_ediv_of_nonneg (by omega), Int.natCast_ediv]; rfl
  rw [h1]
  exact wu8 (by omega) (by omega)
theorem r8_16 (n : UInt8) : Int.tmod (n.toNat : Int) 16 = ((n.toNat % 16 : Nat) : Int) := by rw [Int.tmod_eq_emod_of_nonneg (by omega), Int.natCast_emod]; rfl
end Go.Fw.Wd
