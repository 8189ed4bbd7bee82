/-
  What a tied row's condition gives: the laid variable's cell; a world that meets it. After the worked example toyas. Conditions: stated at each.
-/
import Derived.Test.YtigiopahmiaedaaDoorRows
import Derived.Test.YtigiopahmiaedaaDoorChecked
import Derived.ChangeSame
import Derived.ChangeVars
import Derived.JoinedOf
import Derived.RowKit
import Derived.RowKitTokens
import Derived.LaidLaws
import Derived.LaidHandle
import Derived.Stop.Joined
set_option linter.unusedVariables false
namespace Go.Proofs.YtigiopahmiaedaaDoor
open Go.ChangeShapes Go.WideShapes Go.RowKit
def Rows.laidL : List (String × DataW Unit) := [("errors.errorType", Rows.laid_errors_errorType)]
theorem Tryd.etL : Tryd.prog.globalNamed "errors.errorType" = some 0 := by kernel_rfl
theorem Tryd.rtL : (Tryd.prog.cutTypes.find? (·.1 == "internal/reflectlite.rtype")).map (·.2) = some 200 := by kernel_rfl
theorem Tryd.oneRowL : ((List.range 243).filter fun t => Tryd.prog.rowNamed t [101, 114, 114, 111, 114]) = [50] := by kernel_rfl
theorem Tryd.sizeL : Tryd.prog.types.size = 243 := by kernel_rfl
theorem handle_of_laid {W : World} (h : laidMetH Tryd.prog Rows.laidL W) : W.cell? ⟨0, 0, none⟩ = some (.iface 200 (.agg #[.pointer (some ⟨1, 50, none⟩)])) := by
  have h' : laidMet Tryd.prog [] W ∧ handlesMet Tryd.prog Rows.laidL W := h
  obtain ⟨name, u, ty, e1, e2, e3, e4, e5⟩ := h'.2 _ (List.mem_singleton.2 rfl)
  have en : name = [101, 114, 114, 111, 114] := (Option.some.inj e1).symm
  subst en
  obtain rfl := Option.some.inj (Tryd.rtL.symm.trans e2)
  have hm : ty ∈ (List.range 243).filter fun t => Tryd.prog.rowNamed t [101, 114, 114, 111, 114] := List.mem_filter.2 ⟨List.mem_range.2 (by rw [← Tryd.sizeL]; exact e3), e4⟩
  rw [Tryd.oneRowL] at hm
  obtain rfl := List.mem_singleton.1 hm
  have hh : typeHandle Tryd.prog 50 = .pointer (some ⟨1, 50, none⟩) := by kernel_rfl
  rw [hh] at e5
  simpa using World.var?_cell Tryd.etL e5 0
/-- A world that meets the condition: the settled one, the variable's cell laid. -/
noncomputable def laidWorld (os : Os) : World :=
  let w0 := World.holding Tryd.prog os ⟨#[], #[], []⟩
  { w0 with heap := w0.heap.modify 0 fun
      | .cells _ t frozen => .cells #[.iface 200 (.agg #[.pointer (some ⟨1, 50, none⟩)])] t frozen
      | o => o }
theorem laidWorld_met (os : Os) (args : Array Value) : laidMetH Tryd.prog Rows.laidL ((laidWorld os).forCall (fun _ _ => 0) ⟨#[], args, []⟩).memory :=
  laidMetH_of_parts (laidMet_nil _ _) (by kernel_rfl)
end Go.Proofs.YtigiopahmiaedaaDoor
