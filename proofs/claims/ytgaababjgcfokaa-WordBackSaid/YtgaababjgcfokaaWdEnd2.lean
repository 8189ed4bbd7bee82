/-
  The laws on words without the document's answer at arguments as they are read. Conditions: none.
-/
import Derived.Test.YtgaababjgcfokaaWdArg64
import Derived.Test.YtgaababjgcfokaaWdLaws3
set_option linter.unusedVariables false
set_option linter.unusedSimpArgs false
namespace Go.Fw.Wd
open Code_ Go.Proofs

theorem end10 (xs : List AV) (hl : xs.length = [24, 3, 3, 44].length) (h : ∀ (j : Nat) t x, ([24, 3, 3, 44] : List TypeId)[j]? = some t → xs[j]? = some x → Arg Try.prog t x) : pcall E 10 xs = some (.bool true, []) := by
  match xs, hl with
  | [x0, x1, x2, x3], _ =>
    obtain ⟨l, rfl, _⟩ := bytes_arg (h 0 _ x0 rfl rfl)
    obtain ⟨a, rfl, ha⟩ := int_arg (h 1 _ x1 rfl rfl)
    obtain ⟨b, rfl, hb⟩ := int_arg (h 2 _ x2 rfl rfl)
    obtain ⟨v, rfl, hv⟩ := u64_arg (h 3 _ x3 rfl rfl)
    exact law_back l a b v hv ha hb
theorem end11 (xs : List AV) (hl : xs.length = [3, 50, 3].length) (h : ∀ (j : Nat) t x, ([3, 50, 3] : List TypeId)[j]? = some t → xs[j]? = some x → Arg Try.prog t x) : pcall E 11 xs = some (.bool true, []) := by
  match xs, hl with
  | [x0, x1, x2], _ =>
    obtain ⟨a, rfl, ha⟩ := int_arg (h 0 _ x0 rfl rfl)
    obtain ⟨list, rfl⟩ := nums_arg (h 1 _ x1 rfl rfl)
    obtain ⟨b, rfl, hb⟩ := int_arg (h 2 _ x2 rfl rfl)
    exact law_rows list a b ha hb
theorem end12 (xs : List AV) (hl : xs.length = [24, 3, 24, 24].length) (h : ∀ (j : Nat) t x, ([24, 3, 24, 24] : List TypeId)[j]? = some t → xs[j]? = some x → Arg Try.prog t x) : pcall E 12 xs = some (.bool true, []) := by
  match xs, hl with
  | [x0, x1, x2, x3], _ =>
    obtain ⟨l, rfl, _⟩ := bytes_arg (h 0 _ x0 rfl rfl)
    obtain ⟨a, rfl, ha⟩ := int_arg (h 1 _ x1 rfl rfl)
    obtain ⟨p, rfl, _⟩ := bytes_arg (h 2 _ x2 rfl rfl)
    obtain ⟨q, rfl, _⟩ := bytes_arg (h 3 _ x3 rfl rfl)
    exact law_patches l p q a ha
end Go.Fw.Wd
