/-
  A law on segments at arguments as they are read. Conditions: none.
-/
import Derived.Test.YtigiopahmiaedaaGreatDoorWdTmakes
import Derived.Test.YtigiopahmiaedaaGreatDoorWdArgs
import Derived.Test.YtigiopahmiaedaaGreatDoorWdNum2
set_option linter.unusedVariables false
set_option linter.unusedSimpArgs false
namespace Go.Fw.Wd
open Code_ Go.Proofs

end Go.Fw.Wd
