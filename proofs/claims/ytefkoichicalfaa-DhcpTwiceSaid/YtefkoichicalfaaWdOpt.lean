/-
  Options: their rows, and what taking one off bytes answers. Conditions: stated at each.
-/
import Derived.Test.YtefkoichicalfaaWdRow
set_option linter.unusedVariables false
set_option linter.unusedSimpArgs false
namespace Go.Fw.Wd
open Go.Proofs Code_

/-- An option: its code, its data. -/
abbrev Opt := UInt8 × List UInt8
def encO (o : Opt) : List AV := [.int .u8 (o.1.toNat : Int), bs false o.2]
theorem encO_eq (o : Opt) : encO o = [.int .u8 (o.1.toNat : Int), bs false o.2] := rfl
theorem encO_mk (c : UInt8) (d : List UInt8) : encO (c, d) = [.int .u8 (c.toNat : Int), bs false d] := rfl
theorem fopt : FlatN 2 encO := ⟨fun _ => rfl, fun _ => rfl, fun _ => rfl, fun o => by simp [encO, noG.noGL, noG, noGL_by8], by omega⟩
abbrev opts (g : Bool) (l : List Opt) : AV := recs g 2 encO l
theorem onoG (l : List Opt) : noG.noGL (l.map fun a => AV.agg (encO a)) = true := fopt.noGL l
abbrev rowO (ver : Nat) (l : List Opt) (t : TypeId) : AObj := .row ver 2 (rcs encO l) t

/-- The option at the beginning of bytes, and what is behind it. -/
def takeO : List UInt8 → Option (Opt × List UInt8)
  | c :: n :: r => if n.toNat ≤ r.length then some ((c, r.take n.toNat), r.drop n.toNat) else none
  | _ => none

def takeV (g : Bool) : Option (Opt × List UInt8) → AV
  | some (o, r) => .tup [.agg (encO o), bs g r, .int .i64 0]
  | none => .tup [.agg [.int .u8 0, bs false []], bs false [], .int .i64 12]

theorem s64_1 : S64 1 := by constructor <;> omega
theorem s64_0 : S64 0 := by constructor <;> omega
theorem takeO_short {l : List UInt8} (h : l.length < 2) : takeO l = none := by
  match l, h with
  | [], _ => rfl
  | [c], _ => rfl
  | c :: n :: r, h => simp at h; omega
theorem takeO_long (c n : UInt8) (r : List UInt8) : takeO (c :: n :: r) = if n.toNat ≤ r.length then some ((c, r.take n.toNat), r.drop n.toNat) else none := rfl
end Go.Fw.Wd
