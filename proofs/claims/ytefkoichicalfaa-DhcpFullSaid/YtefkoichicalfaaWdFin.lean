/-
  What the evaluation knows of the program. Conditions: none.
-/
import Derived.Test.YtefkoichicalfaaWdMenv
set_option linter.unusedVariables false
set_option linter.unusedSimpArgs false
namespace Go.Fw.Wd
open Go.Proofs Code_

def E : Env := E1
theorem E_ok : EnvOk Try.prog E := E1_ok
theorem E_keep (k : Nat) : E.keep k = keep k := rfl
theorem s54 (g : Bool) (l : List UInt8) (hl : l.length ≤ 140737488355328) : pcall E 54 [bs g l] = some (.sl 1 0 0 0 l.length, [rowB 0 l 5]) := by
  rw [pcall_prim (p := cloneP) rfl]
  have : (l.map by8).all intB = true := by simp [by8, intB]
  simp only [cloneP, List.length_map, hl, this, and_self, if_true]
end Go.Fw.Wd
