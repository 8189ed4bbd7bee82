/-
  A law on segments at arguments as they are read. Conditions: none.
-/
import Derived.Test.YtmmfimpphhebfaaDoorWdTmakes
import Derived.Test.YtmmfimpphhebfaaDoorWdArgs
import Derived.Test.YtmmfimpphhebfaaDoorWdNum2
set_option linter.unusedVariables false
set_option linter.unusedSimpArgs false
namespace Go.Fw.Wd
open Code_ Go.Proofs

theorem end4 (xs : List AV) (hl : xs.length = [26, 26, 5, 5, 22, 23, 23].length) (h : ∀ (j : Nat) t x, ([26, 26, 5, 5, 22, 23, 23] : List TypeId)[j]? = some t → xs[j]? = some x → Arg Tryd.prog t x) : pcall E 4 xs = some (.bool true, []) := by
  match xs, hl with
  | [x0, x1, x2, x3, x4, x5, x6], _ =>
    obtain ⟨p, rfl, hp⟩ := u16_arg (h 0 _ x0 rfl rfl)
    obtain ⟨q, rfl, hq⟩ := u16_arg (h 1 _ x1 rfl rfl)
    obtain ⟨f, rfl⟩ := u8_arg (h 2 _ x2 rfl rfl)
    obtain ⟨s, rfl⟩ := u8_arg (h 3 _ x3 rfl rfl)
    obtain ⟨b, rfl, _⟩ := bytes_arg (h 4 _ x4 rfl rfl)
    obtain ⟨x, rfl⟩ := U32_arg (h 5 _ x5 rfl rfl)
    obtain ⟨y, rfl⟩ := U32_arg (h 6 _ x6 rfl rfl)
    exact law4 p q hp hq f s b x y
end Go.Fw.Wd
