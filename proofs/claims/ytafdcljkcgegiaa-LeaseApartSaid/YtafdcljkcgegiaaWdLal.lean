/-
  The lease package's first example, by reckoning. Conditions: none.
-/
import Derived.Test.YtafdcljkcgegiaaWdMenv
import Derived.KernelRfl
set_option linter.unusedVariables false
set_option linter.unusedSimpArgs false
namespace Go.Fw.Wd
open Go.Proofs Code_

def E : Env := E1
theorem E_ok : EnvOk Try.prog E := E1_ok
theorem E_keep (k : Nat) : E.keep k = keep k := rfl
theorem s7 : pcall E 7 [] = some (.bool true, []) := pcall_run 100 (by kernel_rfl)
end Go.Fw.Wd
