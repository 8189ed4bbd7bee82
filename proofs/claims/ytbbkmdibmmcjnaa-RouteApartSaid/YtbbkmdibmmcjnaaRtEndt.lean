/-
  The laws on maps at arguments as they are read: the second half. Conditions: none.
-/
import Derived.Test.YtbbkmdibmmcjnaaRtEnd
import Derived.Test.YtbbkmdibmmcjnaaRtLawt
set_option linter.unusedVariables false
set_option linter.unusedSimpArgs false
namespace Go.Fw.Net
open Code_ Go.Proofs

theorem end4 (xs : List AV) (hl : xs.length = [26, 22, 22].length) (h : ∀ (j : Nat) t x, ([26, 22, 22] : List TypeId)[j]? = some t → xs[j]? = some x → Arg Try.prog t x) : pcall E 4 xs = some (.bool true, []) := by
  match xs, hl with
  | [x0, x2, x3], _ =>
    obtain ⟨i, b, o, c, r, rfl, h1, h2, h3⟩ := map_arg (h 0 _ x0 rfl rfl)
    obtain ⟨f, rfl, h4⟩ := u32_arg (h 1 _ x2 rfl rfl)
    obtain ⟨t, rfl, h5⟩ := u32_arg (h 2 _ x3 rfl rfl)
    exact law4 i b o c r f t h1 h2 h3 h4 h5
theorem end5 (xs : List AV) (hl : xs.length = [26, 22, 22].length) (h : ∀ (j : Nat) t x, ([26, 22, 22] : List TypeId)[j]? = some t → xs[j]? = some x → Arg Try.prog t x) : pcall E 5 xs = some (.bool true, []) := by
  match xs, hl with
  | [x0, x2, x3], _ =>
    obtain ⟨i, b, o, c, r, rfl, h1, h2, h3⟩ := map_arg (h 0 _ x0 rfl rfl)
    obtain ⟨f, rfl, h4⟩ := u32_arg (h 1 _ x2 rfl rfl)
    obtain ⟨t, rfl, h5⟩ := u32_arg (h 2 _ x3 rfl rfl)
    exact law5 i b o c r f t h1 h2 h3 h4 h5
end Go.Fw.Net
