/-
  What Cut, Patch, Lay and Row answer, the program's and the document's. Conditions: stated at each.
-/
import Derived.Test.YtefkoichicalfaaWdAt
set_option linter.unusedVariables false
set_option linter.unusedSimpArgs false
namespace Go.Fw.Wd
open Go.Proofs Code_

/-- What Cut answers. -/
def cutB (l : List UInt8) (fr to : Int) : List UInt8 := if fr < 0 ∨ to < fr ∨ (l.length : Int) < to then [] else (l.drop fr.toNat).take (to.toNat - fr.toNat)
def cutE (l : List UInt8) (fr to : Int) : Int := if fr < 0 ∨ to < fr then 11 else if (l.length : Int) < to then 12 else 0
theorem cutB_len (l : List UInt8) (fr to : Int) : (cutB l fr to).length ≤ l.length := by
  unfold cutB
  split
  · simp
  · rw [List.length_take, List.length_drop]; omega

/-- A number's bytes. -/
def numbB (v : Nat) (size : Int) : List UInt8 := if (1 ≤ size ∧ size ≤ 8) ∧ v < 256 ^ size.toNat then encb size.toNat v else []
def numbE (v : Nat) (size : Int) : Int := if (1 ≤ size ∧ size ≤ 8) ∧ v < 256 ^ size.toNat then 0 else 11

theorem encb_snoc (k v : Nat) : ∀ i : Nat, i ≤ k → (encb k v).take i ++ encb (k - i) v = encb k v := by
  induction k with
  | zero => intro i hi; have : i = 0 := by omega
            subst this; rfl
  | succ k ih =>
    intro i hi
    cases i with
    | zero => rfl
    | succ i =>
      simp only [encb, List.take_succ_cons, List.cons_append, Nat.add_sub_add_right]
      rw [ih i (by omega)]
theorem encb_take_succ (k v i : Nat) (hi : i < k) : (encb k v).take i ++ [UInt8.ofNat (v / 256 ^ (k - 1 - i))] = (encb k v).take (i + 1) := by
  induction k generalizing i with
  | zero => omega
  | succ k ih =>
    cases i with
    | zero => simp [encb]
    | succ i =>
      simp only [encb, List.take_succ_cons, List.cons_append]
      rw [show k + 1 - 1 - (i + 1) = k - 1 - i by omega, ih i (by omega)]

theorem s64 (v : Nat) (hv : v < 18446744073709551616) (size : Int) : pcall E 64 [.int .u64 v, .int .i64 size] = some (.tup [bs false (numbB v size), .int .i64 (numbE v size)], []) := by
  rw [pcall_go (fn := I64) rfl rfl rfl]
  have hk : E.keep 64 = false := rfl
  have h45 := s63 size
  unfold numbB numbE
  by_cases a : 1 ≤ size ∧ size ≤ 8
  · rw [decide_eq_true a] at h45
    obtain ⟨k, rfl⟩ : ∃ k : Nat, size = (k : Int) := ⟨size.toNat, by omega⟩
    have hrun := loop_from (E := E) L64_0_eq k (fun i => ⟨[(0, .int .u64 v), (6, .sl 1 0 i 0 i), (7, .int .i64 (8 * ((k : Int) - 1 - i)))], [.row i 1 (((encb k v).take i).map by8) 5]⟩) rfl (fun i hi => by
      have h1 : (0 : Int) ≤ 8 * ((k : Int) - 1 - i) := by omega
      have hs := shr_byte v (k - 1 - i) (by omega)
      rw [show 8 * ((k - 1 - i : Nat) : Int) = 8 * ((k : Int) - 1 - i) by omega] at hs
      have hl : ((encb k v).take i).length = i := by rw [List.length_take, encb_length]; omega
      have ht := encb_take_succ k v i hi
      have hc := wrapU8 (v / 256 ^ (k - 1 - i))
      have hap := appR_by8 [.row i 1 (((encb k v).take i).map by8) 5] 1 5 0 i i 1 ((encb k v).take i) [UInt8.ofNat (v / 256 ^ (k - 1 - i))] hl (by omega) (by omega)
      rw [ht] at hap
      simp only [List.map_cons, List.map_nil, by8_eq] at hap
      generalize v / 256 ^ (k - 1 - i) = q at hs hc hap
      have e9 : 8 * ((k : Int) - 1 - i) - 8 = 8 * ((k : Int) - 1 - (i + 1)) := by omega
      simp (disch := first | omega | (simp only [List.length_cons, List.length_nil, List.length_append, List.length_map, List.length_set]; omega) | rfl | (simp only [List.length_cons, List.length_nil, List.length_append, List.length_map, List.length_set, List.length_replicate, List.all_cons, List.all_nil, List.all_append, storable, plainB, Bool.and_self]; done)) only [go_sem, reduceCtorEq, ↓reduceIte, reduceDIte, evI_callP, callPK_some, B64_0, h1, hs, hc, hap, Fw.cellsIn, e9])
    have e0 : (8 : Int) * ((k : Int) - 1 - ((0 : Nat) : Int)) = 8 * ((k : Int) - 1) := by omega
    have ek : ¬ (0 : Int) ≤ 8 * ((k : Int) - 1 - (k : Int)) := by omega
    have et : (encb k v).take k = encb k v := List.take_of_length_le (by rw [encb_length]; omega)
    have el : (encb k v).length = k := encb_length k v
    simp only [e0] at hrun
    simp only [go_sem, reduceCtorEq, ↓reduceIte, reduceDIte, evI_callP, callPK_some, et] at hrun
    have hq : (v / 256 ^ k = 0) ↔ v < 256 ^ k := Nat.div_eq_zero_iff_lt (Nat.pow_pos (by omega))
    by_cases b : k = 8
    · have hlt : v < 256 ^ k := by subst b; exact hv
      have b1 : ¬ (k : Int) < 8 := by omega
      simp (disch := first | omega | (simp only [List.length_cons, List.length_nil, List.length_append, List.length_map, List.length_set]; omega) | rfl | (simp only [List.length_cons, List.length_nil, List.length_append, List.length_map, List.length_set, List.length_replicate, List.all_cons, List.all_nil, List.all_append, storable, plainB, Bool.and_self]; done)) only [go_sem, reduceCtorEq, ↓reduceIte, reduceDIte, evI_callP, callPK_some, I64, hk, h45, a, b1, hlt, hrun, B64_0, ek, el, Int.toNat_natCast]
    · have b1 : (k : Int) < 8 := by omega
      have hs := shr_byte v k (by omega)
      by_cases c : v < 256 ^ k
      · rw [hq.2 c] at hs
        simp (disch := first | omega | (simp only [List.length_cons, List.length_nil, List.length_append, List.length_map, List.length_set]; omega) | rfl | (simp only [List.length_cons, List.length_nil, List.length_append, List.length_map, List.length_set, List.length_replicate, List.all_cons, List.all_nil, List.all_append, storable, plainB, Bool.and_self]; done)) only [go_sem, reduceCtorEq, ↓reduceIte, reduceDIte, evI_callP, callPK_some, I64, hk, h45, a, b1, hs, c, hrun, B64_0, ek, el, Int.toNat_natCast]
      · have hq3 : ¬ ((v / 256 ^ k : Nat) : Int) = 0 := by
          have : ¬ v / 256 ^ k = 0 := fun h => c (hq.1 h)
          omega
        simp (disch := first | omega | (simp only [List.length_cons, List.length_nil, List.length_append, List.length_map, List.length_set]; omega) | rfl | (simp only [List.length_cons, List.length_nil, List.length_append, List.length_map, List.length_set, List.length_replicate, List.all_cons, List.all_nil, List.all_append, storable, plainB, Bool.and_self]; done)) only [go_sem, reduceCtorEq, ↓reduceIte, reduceDIte, evI_callP, callPK_some, I64, hk, h45, a, b1, hs, c, hq3, Int.toNat_natCast]
  · rw [decide_eq_false a] at h45
    simp only [go_sem, reduceCtorEq, ↓reduceIte, reduceDIte, evI_callP, callPK_some, I64, hk, h45, a]
end Go.Fw.Wd
