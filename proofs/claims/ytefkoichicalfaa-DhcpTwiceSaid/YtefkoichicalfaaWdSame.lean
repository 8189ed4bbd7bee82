/-
  What the shared functions on bytes answer. Conditions: stated at each.
-/
import Derived.Test.YtefkoichicalfaaWdFin
set_option linter.unusedVariables false
set_option linter.unusedSimpArgs false
namespace Go.Fw.Wd
open Go.Proofs Code_

end Go.Fw.Wd
