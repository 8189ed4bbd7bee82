/-
  The boot package's first example, by reckoning. Conditions: none.
-/
import Derived.Test.YtkekjbpalkoeeaaWdFin
import Derived.KernelRfl
set_option linter.unusedVariables false
set_option linter.unusedSimpArgs false
namespace Go.Fw.Wd
open Go.Proofs Code_

theorem s39 : pcall E 39 [] = some (.bool true, []) := pcall_run 300 (by kernel_rfl)
end Go.Fw.Wd
