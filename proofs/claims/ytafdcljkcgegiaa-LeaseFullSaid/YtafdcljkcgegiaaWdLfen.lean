/-
  The law LeaseFull at arguments as they are read. Conditions: none.
-/
import Derived.Test.YtafdcljkcgegiaaWdLful
import Derived.Test.YtafdcljkcgegiaaWdLargs
set_option linter.unusedVariables false
set_option linter.unusedSimpArgs false
namespace Go.Fw.Wd
open Go.Proofs Code_

theorem end6 (xs : List AV) (hl : xs.length = [22, 5, 22, 23, 25].length) (h : ∀ (j : Nat) t x, ([22, 5, 22, 23, 25] : List TypeId)[j]? = some t → xs[j]? = some x → Arg Try.prog t x) : pcall E 6 xs = some (.bool true, []) := by
  match xs, hl with
  | [x0, x1, x2, x3, x4], _ =>
    obtain ⟨a, rfl⟩ := U32_arg (h 0 _ x0 rfl rfl)
    obtain ⟨b, rfl⟩ := u8_arg (h 1 _ x1 rfl rfl)
    obtain ⟨c, rfl⟩ := U32_arg (h 2 _ x2 rfl rfl)
    obtain ⟨d, rfl⟩ := i32s_arg (h 3 _ x3 rfl rfl)
    obtain ⟨e, rfl⟩ := U64_arg (h 4 _ x4 rfl rfl)
    exact s6 false a b c d e
end Go.Fw.Wd
