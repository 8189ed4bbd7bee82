/-
  The tcp package's first example, by reckoning. Conditions: none.
-/
import Derived.Test.YtigiopahmiaedaaGreatDoorWdFin
import Derived.KernelRfl
set_option linter.unusedVariables false
set_option linter.unusedSimpArgs false
namespace Go.Fw.Wd
open Go.Proofs Code_

end Go.Fw.Wd
