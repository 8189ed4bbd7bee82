/-
  The tcp package's first example, by reckoning. Conditions: none.
-/
import Derived.Test.YtmmfimpphhebfaaDoorWdFin
import Derived.KernelRfl
set_option linter.unusedVariables false
set_option linter.unusedSimpArgs false
namespace Go.Fw.Wd
open Go.Proofs Code_

theorem s24 : pcall E 24 [] = some (.bool true, []) := pcall_run 100 (by kernel_rfl)
end Go.Fw.Wd
