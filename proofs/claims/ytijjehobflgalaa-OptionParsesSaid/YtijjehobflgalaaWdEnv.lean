/-
  What the evaluation knows of the program. Conditions: none.
-/
import Derived.Test.YtijjehobflgalaaWdBytes
import Derived.Test.YtijjehobflgalaaWdClone
set_option linter.unusedVariables false
set_option linter.unusedSimpArgs false
namespace Go.Fw.Wd
open Go.Proofs Code_

def primOf (f : FuncId) : Option (List AV → Option (AV × Heap)) := if f = 20 then some cloneP else none
def E1 : Env := ⟨fun f => if (primOf f).isSome then none else fns f, keep, primOf⟩
theorem prim_ok (f : FuncId) (p : List AV → Option (AV × Heap)) (h : primOf f = some p) (args : List AV) (r : AV) (objs : Heap) (hr : p args = some (r, objs)) : CallSpec Try.prog f args r objs := by
  unfold primOf at h
  split at h
  · rename_i hf
    injection h with h
    subst h; subst hf
    exact clone_spec args r objs hr
  · cases h
theorem E1_ok : EnvOk Try.prog E1 := by
  refine ⟨fun f fn h => ?_, fun f p h args r objs hr => prim_ok f p h args r objs hr⟩
  have h' : (if (primOf f).isSome then none else fns f) = some fn := h
  split at h'
  · cases h'
  · exact fns_ok f fn h'
end Go.Fw.Wd
