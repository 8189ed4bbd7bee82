/-
  The program's words are alive. Conditions: none.
-/
import Derived.Test.YtgaababjgcfokaaWdRow
import Derived.KernelRfl
set_option linter.unusedVariables false
set_option linter.unusedSimpArgs false
namespace Go.Fw.Wd
open Go.Proofs Code_

theorem s29 : pcall E 29 [] = some (.bool true, []) := pcall_run 40 (by kernel_rfl)
end Go.Fw.Wd
