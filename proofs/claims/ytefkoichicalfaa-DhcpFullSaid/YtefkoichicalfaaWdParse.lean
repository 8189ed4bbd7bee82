/-
  What Parse answers of options' bytes, the program's and the document's. Conditions: stated at each.
-/
import Derived.Test.YtefkoichicalfaaWdOpt
set_option linter.unusedVariables false
set_option linter.unusedSimpArgs false
namespace Go.Fw.Wd
open Go.Proofs Code_

/-- The options of bytes. -/
def parseO : List UInt8 → Option (List Opt)
  | [] => none
  | c :: r => if c = 255 then some [] else if c = 0 then parseO r else
      match r with
      | [] => none
      | n :: r' => if n.toNat ≤ r'.length then (parseO (r'.drop n.toNat)).map ((c, r'.take n.toNat) :: ·) else none
termination_by l => l.length
decreasing_by
  · simp
  · simp; omega
theorem parseO_end (r : List UInt8) : parseO (255 :: r) = some [] := by rw [parseO.eq_def]; simp
theorem parseO_pad (r : List UInt8) : parseO (0 :: r) = parseO r := by rw [parseO.eq_def]; simp
theorem parseO_take (l : List UInt8) (c : UInt8) (r : List UInt8) (hl : l = c :: r) (h1 : c ≠ 255) (h0 : c ≠ 0) : parseO l = match takeO l with
    | some (o, r') => (parseO r').map (o :: ·)
    | none => none := by
  subst hl
  rw [parseO.eq_def]
  simp only [h1, h0, if_false]
  cases r with
  | nil => rfl
  | cons n r' =>
    simp only [takeO]
    by_cases h : n.toNat ≤ r'.length
    · simp only [h, if_true]
    · simp only [h, if_false]
theorem takeO_len {l : List UInt8} {o : Opt} {r : List UInt8} (h : takeO l = some (o, r)) : r.length + o.2.length + 2 = l.length ∧ o.2.length ≤ 255 := by
  match l, h with
  | [], h => cases h
  | [c], h => cases h
  | c :: n :: r', h =>
    simp only [takeO] at h
    split at h
    · rename_i hn
      injection h with h
      injection h with h1 h2
      subst h1; subst h2
      have := n.toNat_lt
      simp only [List.length_drop, List.length_take, List.length_cons]
      omega
    · cases h
/-- What Parse answers, with what was read before. -/
def parseV (acc : List Opt) : Option (List Opt) → AV
  | some l => .tup [.sl 2 0 (acc ++ l).length 0 (acc ++ l).length, .int .i64 0]
  | none => .tup [.rs false 2 [], .int .i64 12]
theorem nu8 (a b : UInt8) : (((a.toNat : Nat) : Int) = (b.toNat : Int)) = (a = b) := propext (by8_neq a b)
theorem ff_eq (c : UInt8) : ((c.toNat : Int) = 255) ↔ c = 255 := by
  rw [← UInt8.toNat_inj]
  show _ ↔ c.toNat = 255
  omega
theorem zz_eq (c : UInt8) : ((c.toNat : Int) = 0) ↔ c = 0 := by
  rw [← UInt8.toNat_inj]
  show _ ↔ c.toNat = 0
  omega

end Go.Fw.Wd
