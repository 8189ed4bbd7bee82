/-
  The laws on words at arguments as they are read. Conditions: none.
-/
import Derived.Test.YtgaababjgcfokaaWdArg64
import Derived.Test.YtgaababjgcfokaaWdLaws
set_option linter.unusedVariables false
set_option linter.unusedSimpArgs false
namespace Go.Fw.Wd
open Code_ Go.Proofs

theorem end8 (xs : List AV) (hl : xs.length = [24, 3, 3, 3].length) (h : ∀ (j : Nat) t x, ([24, 3, 3, 3] : List TypeId)[j]? = some t → xs[j]? = some x → Arg Try.prog t x) : pcall E 8 xs = some (.bool true, []) := by
  match xs, hl with
  | [x0, x1, x2, x3], _ =>
    obtain ⟨l, rfl, _⟩ := bytes_arg (h 0 _ x0 rfl rfl)
    obtain ⟨a, rfl, ha⟩ := int_arg (h 1 _ x1 rfl rfl)
    obtain ⟨b, rfl, hb⟩ := int_arg (h 2 _ x2 rfl rfl)
    obtain ⟨c, rfl, hc⟩ := int_arg (h 3 _ x3 rfl rfl)
    exact law_reads l a b c ha hb hc
theorem end9 (xs : List AV) (hl : xs.length = [24, 3, 3, 44, 50, 24].length) (h : ∀ (j : Nat) t x, ([24, 3, 3, 44, 50, 24] : List TypeId)[j]? = some t → xs[j]? = some x → Arg Try.prog t x) : pcall E 9 xs = some (.bool true, []) := by
  match xs, hl with
  | [x0, x1, x2, x3, x4, x5], _ =>
    obtain ⟨l, rfl, _⟩ := bytes_arg (h 0 _ x0 rfl rfl)
    obtain ⟨a, rfl, ha⟩ := int_arg (h 1 _ x1 rfl rfl)
    obtain ⟨b, rfl, hb⟩ := int_arg (h 2 _ x2 rfl rfl)
    obtain ⟨v, rfl, hv⟩ := u64_arg (h 3 _ x3 rfl rfl)
    obtain ⟨list, rfl⟩ := nums_arg (h 4 _ x4 rfl rfl)
    obtain ⟨p, rfl, _⟩ := bytes_arg (h 5 _ x5 rfl rfl)
    exact law_lays l p list a b v hv ha hb
end Go.Fw.Wd
