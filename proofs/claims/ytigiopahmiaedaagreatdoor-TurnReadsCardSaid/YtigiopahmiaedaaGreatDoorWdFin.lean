/-
  What the evaluation knows of the program, the sum, errors.Is, why.Errno and why.Reason among it. Conditions: none.
-/
import Derived.Test.YtigiopahmiaedaaGreatDoorWdTotal
import Derived.Test.YtigiopahmiaedaaGreatDoorWdIs
import Derived.Test.YtigiopahmiaedaaGreatDoorWdErr
set_option linter.unusedVariables false
set_option linter.unusedSimpArgs false
namespace Go.Fw.Wd
open Go.Proofs Code_

def primOf2 (f : FuncId) : Option (List AV → Option (AV × Heap)) := if f = 77 then some totalP else if f = 61 then some isP else if f = 44 then some errnoP else if f = 23 then some reasonP else primOf f
def E : Env := ⟨fun f => if (primOf2 f).isSome then none else fns f, keep, primOf2⟩
theorem E_ok : EnvOk Tryz.prog E := by
  refine ⟨fun f fn h => ?_, fun f p h args r objs hr => ?_⟩
  · have h' : (if (primOf2 f).isSome then none else fns f) = some fn := h
    split at h'
    · cases h'
    · exact fns_ok f fn h'
  · have h' : primOf2 f = some p := h
    unfold primOf2 at h'
    split at h'
    · rename_i hf
      injection h' with h'
      subst h'; subst hf
      exact total_spec args r objs hr
    · split at h'
      · rename_i hf
        injection h' with h'
        subst h'; subst hf
        exact is_spec args r objs hr
      · split at h'
        · rename_i hf
          injection h' with h'
          subst h'; subst hf
          exact errno_spec args r objs hr
        · split at h'
          · rename_i hf
            injection h' with h'
            subst h'; subst hf
            exact reason_spec args r objs hr
          · exact prim_ok f p h' args r objs hr
theorem E_keep (k : Nat) : E.keep k = keep k := rfl
theorem s43 (g : Bool) (l : List UInt8) (hl : l.length ≤ 140737488355328) : pcall E 43 [bs g l] = some (.sl 1 0 0 0 l.length, [rowB 0 l 5]) := by
  rw [pcall_prim (p := cloneP) rfl]
  have : (l.map by8).all intB = true := by simp [by8, intB]
  simp only [cloneP, List.length_map, hl, this, and_self, if_true]
theorem s56 (g : Bool) (ps : List Part) (h1 : ps.length ≤ 140737488355328) (h2 : (cat ps).length ≤ 140737488355328) : pcall E 56 [.rs g 1 (ps.map encP)] = some (kone (E.keep 56) 5 (cat ps)) := concat_call rfl rfl rfl g ps h1 h2
theorem s102 (g : Bool) (l : List UInt8) (hl : l.length ≤ 2) : pcall E 102 [bs g l] = some (.int .u16 (pairN l : Nat), []) := number_call rfl rfl rfl g l hl
theorem s103 (n : Nat) (hn : n < 18446744073709551616) : pcall E 103 [.int .u64 n] = some (.int .u16 (foldN n : Nat), []) := fold_call rfl rfl rfl n hn
theorem s77 (g : Bool) (ps : List Part) (h1 : ps.length ≤ 140737488355328) (h2 : (cat ps).length ≤ 140737488355328) : pcall E 77 [.rs g 1 (ps.map encP)] = some (.int .u16 (foldN (sumW (cat ps)) : Nat), []) := by
  rw [pcall_prim (p := totalP) rfl]
  exact totalP_eq g ps h1 h2
/-- What why.Is answers of a fault. -/
theorem s61 (g : Bool) (k : IntKind) (r n m : Int) : pcall E 61 [.iface 119 (.rp g (.agg [.int k r, .iface 43 (.int .i64 n)])), .iface 43 (.int .i64 m)] = some (.bool (n == m), []) := by
  rw [pcall_prim (p := isP) rfl]
  simp [isP]
theorem s44 (g : Bool) (r n : Int) : pcall E 44 [.iface 119 (.rp g (.agg [.int .i64 r, .iface 43 (.int .i64 n)]))] = some (.int .i64 n, []) := by
  rw [pcall_prim (p := errnoP) rfl]
  simp [errnoP]
theorem n44 : pcall E 44 [.nili] = some (.int .i64 0, []) := by
  rw [pcall_prim (p := errnoP) rfl]
  rfl
theorem s23 (g : Bool) (r n : Int) : pcall E 23 [.iface 119 (.rp g (.agg [.int .i64 r, .iface 43 (.int .i64 n)]))] = some (.int .i64 r, []) := by
  rw [pcall_prim (p := reasonP) rfl]
  simp [reasonP]
theorem n23 : pcall E 23 [.nili] = some (.int .i64 0, []) := by
  rw [pcall_prim (p := reasonP) rfl]
  rfl
end Go.Fw.Wd
