/-
  The laws on segments at arguments as they are read. Conditions: none.
-/
import Derived.Test.YtmmfimpphhebfaaWdTflags
import Derived.Test.YtmmfimpphhebfaaWdArgs
set_option linter.unusedVariables false
set_option linter.unusedSimpArgs false
namespace Go.Fw.Wd
open Code_ Go.Proofs

theorem U32_arg {x : AV} (h : Arg Try.prog 23 x) : ∃ v : UInt32, x = .int .u32 (v.toNat : Int) := by
  obtain ⟨n, rfl, hw⟩ := h.int_inv Try.underlying23
  simp [Lit.wf, IntKind.min, IntKind.max, IntKind.signed, IntKind.bits] at hw
  refine ⟨UInt32.ofNat n.toNat, ?_⟩
  rw [UInt32.toNat_ofNat_of_lt' (by show _ < 4294967296; omega)]
  congr 1
  omega
theorem end3 (xs : List AV) (hl : xs.length = [22, 23, 23, 3, 5].length) (h : ∀ (j : Nat) t x, ([22, 23, 23, 3, 5] : List TypeId)[j]? = some t → xs[j]? = some x → Arg Try.prog t x) : pcall E 3 xs = some (.bool true, []) := by
  match xs, hl with
  | [x0, x1, x2, x3, x4], _ =>
    obtain ⟨b, rfl, _⟩ := bytes_arg (h 0 _ x0 rfl rfl)
    obtain ⟨p, rfl⟩ := U32_arg (h 1 _ x1 rfl rfl)
    obtain ⟨q, rfl⟩ := U32_arg (h 2 _ x2 rfl rfl)
    obtain ⟨n, rfl, _⟩ := int_arg (h 3 _ x3 rfl rfl)
    obtain ⟨d, rfl⟩ := u8_arg (h 4 _ x4 rfl rfl)
    exact law3 b p q n d
theorem end4 (xs : List AV) (hl : xs.length = [5, 5, 5, 22, 23, 23].length) (h : ∀ (j : Nat) t x, ([5, 5, 5, 22, 23, 23] : List TypeId)[j]? = some t → xs[j]? = some x → Arg Try.prog t x) : pcall E 4 xs = some (.bool true, []) := by
  match xs, hl with
  | [x0, x1, x2, x3, x4, x5], _ =>
    obtain ⟨f, rfl⟩ := u8_arg (h 0 _ x0 rfl rfl)
    obtain ⟨one, rfl⟩ := u8_arg (h 1 _ x1 rfl rfl)
    obtain ⟨two, rfl⟩ := u8_arg (h 2 _ x2 rfl rfl)
    obtain ⟨b, rfl, _⟩ := bytes_arg (h 3 _ x3 rfl rfl)
    obtain ⟨p, rfl⟩ := U32_arg (h 4 _ x4 rfl rfl)
    obtain ⟨q, rfl⟩ := U32_arg (h 5 _ x5 rfl rfl)
    exact law4 f one two b p q
end Go.Fw.Wd
