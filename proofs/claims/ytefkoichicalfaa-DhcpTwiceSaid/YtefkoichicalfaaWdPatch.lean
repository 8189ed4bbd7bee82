/-
  What Patch, Lay and Row answer, the program's and the document's. Conditions: stated at each.
-/
import Derived.Test.YtefkoichicalfaaWdCut
set_option linter.unusedVariables false
set_option linter.unusedSimpArgs false
namespace Go.Fw.Wd
open Go.Proofs Code_

/-- Bytes laid over others. -/
def over (l : List UInt8) (a : Nat) (p : List UInt8) : List UInt8 := l.take a ++ p ++ l.drop (a + p.length)
theorem over_len (l : List UInt8) (a : Nat) (p : List UInt8) (h : a + p.length ≤ l.length) : (over l a p).length = l.length := by simp [over]; omega
def patB (l : List UInt8) (at_ : Int) (p : List UInt8) : List UInt8 := if spanE l.length at_ p.length = 0 then over l at_.toNat p else []
def patE (l : List UInt8) (at_ : Int) (p : List UInt8) : Int := spanE l.length at_ p.length

theorem over_step (l : List UInt8) (a : Nat) (p : List UInt8) (i : Nat) (hi : i < p.length) (ha : a + p.length ≤ l.length) : (over l a (p.take i)).set (a + i) (nth p i) = over l a (p.take (i + 1)) := by
  have h1 : (p.take i).length = i := by rw [List.length_take]; omega
  have h2 : (p.take (i + 1)).length = i + 1 := by rw [List.length_take]; omega
  have h3 : (l.take a).length = a := by rw [List.length_take]; omega
  unfold over
  rw [nth_get p i hi, h1, h2, List.append_assoc, List.append_assoc, List.set_append_right _ _ (by rw [h3]; omega), h3, Nat.add_sub_cancel_left, List.set_append_right _ _ (by rw [h1]; omega), h1, Nat.sub_self]
  rw [List.drop_eq_getElem_cons (show a + i < l.length by omega), List.set_cons_zero, List.take_succ_eq_append_getElem hi, List.append_assoc]
  rfl

/-- What Lay answers. -/
def layB (l : List UInt8) (at_ size : Int) (v : Nat) : List UInt8 := if numbE v size = 0 then patB l at_ (numbB v size) else []
def layE (l : List UInt8) (at_ size : Int) (v : Nat) : Int := if numbE v size = 0 then patE l at_ (numbB v size) else 11
theorem numbB_len (v : Nat) (size : Int) : (numbB v size).length ≤ 8 := by
  unfold numbB
  split
  · rw [encb_length]; omega
  · simp
theorem numbE_ne {v : Nat} {size : Int} (h : ¬ numbE v size = 0) : numbE v size = 11 := by
  unfold numbE at h ⊢
  split
  · rename_i h1; exact absurd (if_pos h1) h
  · rfl

end Go.Fw.Wd
