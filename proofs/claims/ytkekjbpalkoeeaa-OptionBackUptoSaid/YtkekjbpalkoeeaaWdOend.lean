/-
  Two laws on options at arguments as they are read. Conditions: none.
-/
import Derived.Test.YtkekjbpalkoeeaaWdOback
import Derived.Test.YtkekjbpalkoeeaaWdOargs
set_option linter.unusedVariables false
set_option linter.unusedSimpArgs false
namespace Go.Fw.Wd
open Code_ Go.Proofs

theorem end4 (xs : List AV) (hl : xs.length = [25, 25, 5, 5, 38, 3].length) (h : ∀ (j : Nat) t x, ([25, 25, 5, 5, 38, 3] : List TypeId)[j]? = some t → xs[j]? = some x → Arg Try.prog t x) : pcall E 4 xs = some (.bool true, []) := by
  match xs, hl with
  | [x0, x1, x2, x3, x4, x5], _ =>
    obtain ⟨l, rfl⟩ := opts_arg (h 0 _ x0 rfl rfl)
    obtain ⟨m, rfl⟩ := opts_arg (h 1 _ x1 rfl rfl)
    obtain ⟨c, rfl⟩ := u8_arg (h 2 _ x2 rfl rfl)
    obtain ⟨n, rfl⟩ := u8_arg (h 3 _ x3 rfl rfl)
    obtain ⟨ip, rfl, hip⟩ := u32_arg (h 4 _ x4 rfl rfl)
    obtain ⟨size, rfl, _⟩ := int_arg (h 5 _ x5 rfl rfl)
    exact law4 l m c n ip hip size
theorem end6 (xs : List AV) (hl : xs.length = [25, 25, 5, 22, 22].length) (h : ∀ (j : Nat) t x, ([25, 25, 5, 22, 22] : List TypeId)[j]? = some t → xs[j]? = some x → Arg Try.prog t x) : pcall E 6 xs = some (.bool true, []) := by
  match xs, hl with
  | [x0, x1, x2, x3, x4], _ =>
    obtain ⟨l, rfl⟩ := opts_arg (h 0 _ x0 rfl rfl)
    obtain ⟨m, rfl⟩ := opts_arg (h 1 _ x1 rfl rfl)
    obtain ⟨c, rfl⟩ := u8_arg (h 2 _ x2 rfl rfl)
    obtain ⟨d, rfl, _⟩ := bytes_arg (h 3 _ x3 rfl rfl)
    obtain ⟨e, rfl, _⟩ := bytes_arg (h 4 _ x4 rfl rfl)
    exact law6 l m c d e
end Go.Fw.Wd
