/-
  With one byte changed a segment's sum isn't right. Conditions: stated at each.
-/
import Derived.Test.YtigiopahmiaedaaGreatDoorWdTcp
import Derived.Test.YtigiopahmiaedaaGreatDoorWdTalive
set_option linter.unusedVariables false
set_option linter.unusedSimpArgs false
namespace Go.Fw.Wd
open Go.Proofs Code_

/-- What a byte at a place counts. -/
def wt (i : Nat) : Nat := if i % 2 = 0 then 256 else 1
theorem sumW_set : ∀ (l : List UInt8) (i : Nat) (c : UInt8), i < l.length → sumW (l.set i c) + wt i * (nth l i).toNat = sumW l + wt i * c.toNat
  | [], i, c, h => absurd h (Nat.not_lt_zero _)
  | [a], 0, c, _ => by simp [sumW, wt, nth]; omega
  | [a], i + 1, c, h => by simp at h
  | a :: b :: l, 0, c, _ => by simp [sumW, wt, nth]; omega
  | a :: b :: l, 1, c, _ => by simp [sumW, wt, nth]; omega
  | a :: b :: l, i + 2, c, h => by
    have ih := sumW_set l i c (by simp only [List.length_cons] at h; omega)
    have e1 : wt (i + 2) = wt i := by unfold wt; rw [Nat.add_mod_right]
    have e2 : nth (a :: b :: l) (i + 2) = nth l i := rfl
    rw [e1, e2]
    simp only [List.set_cons_succ, sumW]
    omega
theorem nth_set (l : List UInt8) (i : Nat) (c : UInt8) (h : i < l.length) : nth (l.set i c) i = c := by
  rw [nth_get _ _ (by rw [List.length_set]; exact h), List.getElem_set_self]
theorem nth_set_ne (l : List UInt8) (i j : Nat) (c : UInt8) (hj : j < l.length) (h : i ≠ j) : nth (l.set i c) j = nth l j := by
  rw [nth_get _ _ (by rw [List.length_set]; exact hj), nth_get _ _ hj, List.getElem_set_ne h]
theorem own_other (x : List UInt8) (i : Nat) (hi : i < x.length) (d : UInt8) (hd : ¬ d = 0) (h : foldN (sumW x) = 65535) : ¬ foldN (sumW (x.set i (UInt8.ofNat ((nth x i).toNat + d.toNat)))) = 65535 := by
  have hs := sumW_set x i (UInt8.ofNat ((nth x i).toNat + d.toNat)) hi
  have h1 := (nth x i).toNat_lt
  have h2 := d.toNat_lt
  have h3 : d.toNat ≠ 0 := fun h => hd (UInt8.toNat_inj.1 h)
  have h4 : (UInt8.ofNat ((nth x i).toNat + d.toNat)).toNat = ((nth x i).toNat + d.toNat) % 256 := by simp
  rw [h4] at hs
  have m1 := foldN_mod (sumW x)
  have m2 := foldN_mod (sumW (x.set i (UInt8.ofNat ((nth x i).toNat + d.toNat))))
  intro h5
  rw [h5] at m2
  rw [h] at m1
  generalize sumW (x.set i (UInt8.ofNat ((nth x i).toNat + d.toNat))) = y at *
  generalize sumW x = z at *
  generalize (nth x i).toNat = u at *
  generalize d.toNat = v at *
  have hw : wt i = 256 ∨ wt i = 1 := by unfold wt; split <;> simp
  rcases hw with hw | hw <;> rw [hw] at hs <;> omega
theorem spoilt (e b : List UInt8) (i : Nat) (hi : i < b.length) (d : UInt8) (hd : ¬ d = 0) (h : foldN (sumW (e ++ b)) = 65535) : ¬ foldN (sumW (e ++ b.set i (UInt8.ofNat ((nth b i).toNat + d.toNat)))) = 65535 := by
  have h1 := own_other (e ++ b) (e.length + i) (by rw [List.length_append]; omega) d hd h
  have h2 : nth (e ++ b) (e.length + i) = nth b i := by
    rw [nth_get _ _ (by rw [List.length_append]; omega), nth_get _ _ hi, List.getElem_append_right (by omega)]
    simp
  rw [h2, List.set_append_right _ _ (by omega)] at h1
  simpa using h1
theorem parseT_bad {b : List UInt8} {x y : UInt32} (h : ¬ foldN (sumW (endsB x y b.length ++ b)) = 65535) : ∃ r e, parseT b x y = .tup [.agg (segC 0 0 0 []), faultV r e] := by
  unfold parseT
  by_cases hf : formE b = 0
  · rw [if_pos hf, if_neg h]; exact ⟨_, _, rfl⟩
  · rw [if_neg hf]; exact ⟨_, _, rfl⟩

end Go.Fw.Wd
