/-
  What the evaluation knows of the program. Conditions: none.
-/
import Derived.Test.YtafdcljkcgegiaaWdMloans
import Derived.Test.YtafdcljkcgegiaaWdMkeys
import Derived.Test.YtafdcljkcgegiaaWdBytes
set_option linter.unusedVariables false
set_option linter.unusedSimpArgs false
namespace Go.Fw.Wd
open Go.Proofs Code_

def primOf (f : FuncId) : Option (List AV → Option (AV × Heap)) :=
  if f = 14 then some freeP
  else if f = 33 ∨ f = 34 then some mcloneP else none
def primMOf (f : FuncId) : Option (List AV → Heap → Option (AV × Heap)) :=
  if f = 39 then some (delP 40 .str (fun p => (lnV p.2).isSome) overL)
  else if f = 41 then some (delP 42 (.int .u32) (fun p => (untV p.2).isSome) overR) else none
def seqOf (f : FuncId) : Option (List AV → Heap → Option (List (List PE))) :=
  if f = 43 then some loansP
  else if f = 57 then some keysP else none
def E1 : Env := { fns := fun f => if (primOf f).isSome then none else fns f, keep := keep, prim := primOf, primM := primMOf, seq := seqOf }
theorem prim_ok (f : FuncId) (p : List AV → Option (AV × Heap)) (h : primOf f = some p) (args : List AV) (r : AV) (objs : Heap) (hr : p args = some (r, objs)) : CallSpec Try.prog f args r objs := by
  unfold primOf at h
  split at h
  · rename_i hf
    injection h with h
    subst h; subst hf
    exact freeP_spec args r objs hr
  · split at h
    · rename_i hf
      injection h with h
      subst h
      rcases hf with rfl | rfl
      · exact mcloneL_spec args r objs hr
      · exact mcloneR_spec args r objs hr
    · cases h
theorem primM_ok (f : FuncId) (p : List AV → Heap → Option (AV × Heap)) (h : primMOf f = some p) (vals : List AV) (hp : Heap) (r : AV) (h' : Heap) (hr : p vals hp = some (r, h')) : CallSpecM Try.prog f vals hp r h' := by
  unfold primMOf at h
  split at h
  · rename_i hf
    injection h with h
    subst h; subst hf
    exact delL_spec vals hp r h' hr
  · split at h
    · rename_i hf
      injection h with h
      subst h; subst hf
      exact delR_spec vals hp r h' hr
    · cases h
theorem seq_ok : SeqsOk Try.prog E1 := by
  intro f q h cap hp items hr
  have h : seqOf f = some q := h
  unfold seqOf at h
  split at h
  · rename_i hf
    injection h with h
    subst h; subst hf
    exact loansP_spec cap hp items hr
  · split at h
    · rename_i hf
      injection h with h
      subst h; subst hf
      exact keysP_spec cap hp items hr
    · cases h
theorem E1_ok : EnvOk Try.prog E1 := by
  refine ⟨fun f fn h => ?_, fun f p h args r objs hr => prim_ok f p h args r objs hr, fun f p h vals hp r h' hr => primM_ok f p h vals hp r h' hr, seq_ok⟩
  have h' : (if (primOf f).isSome then none else fns f) = some fn := h
  split at h'
  · cases h'
  · exact fns_ok f fn h'
end Go.Fw.Wd
