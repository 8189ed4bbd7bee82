/-
  What the evaluation knows of the program. Conditions: none.
-/
import Derived.Test.YtgaababjgcfokaaWdBytes
import Derived.Test.YtgaababjgcfokaaWdClone
set_option linter.unusedVariables false
set_option linter.unusedSimpArgs false
namespace Go.Fw.Wd
open Go.Proofs Code_

def E : Env := ⟨fun f => if f = 47 then none else fns f, keep, fun f => if f = 47 then some cloneP else none⟩
theorem E_ok : EnvOk Try.prog E := by
  refine ⟨fun f fn h => ?_, fun f p h args r objs hr => ?_⟩
  · have h' : (if f = 47 then none else fns f) = some fn := h
    split at h'
    · cases h'
    · exact fns_ok f fn h'
  · have h' : (if f = 47 then some cloneP else none) = some p := h
    split at h'
    · rename_i hf
      injection h' with h'
      subst h'; subst hf
      exact clone_spec args r objs hr
    · cases h'
theorem E_keep (k : Nat) : E.keep k = keep k := rfl
theorem s47 (g : Bool) (l : List UInt8) (hl : l.length ≤ 140737488355328) : pcall E 47 [bs g l] = some (.sl 1 0 0 0 l.length, [rowB 0 l 5]) := by
  rw [pcall_prim (p := cloneP) rfl]
  have : (l.map by8).all intB = true := by simp [by8, intB]
  simp only [cloneP, List.length_map, hl, this, and_self, if_true]
end Go.Fw.Wd
