/-
  What Parse answers of options' bytes, the program's and the document's, as calls. Conditions: stated at each.
-/
import Derived.Test.YtefkoichicalfaaWdParse
set_option linter.unusedVariables false
set_option linter.unusedSimpArgs false
namespace Go.Fw.Wd
open Go.Proofs Code_

/-- What Parse hands back. -/
def parseR : Option (List Opt) → AV
  | some l => .tup [opts false l, .int .i64 0]
  | none => .tup [.rs false 2 [], .int .i64 12]
end Go.Fw.Wd
