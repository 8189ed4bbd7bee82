/-
  Arguments of 64 bits as they are read. Conditions: none.
-/
import Derived.Test.YtgaababjgcfokaaWdArgs
import Derived.Test.YtgaababjgcfokaaWdRow
set_option linter.unusedVariables false
set_option linter.unusedSimpArgs false
namespace Go.Fw.Wd
open Go.Proofs

theorem u64_arg {x : AV} (h : Arg Try.prog 44 x) : ∃ v : Nat, x = .int .u64 (v : Int) ∧ v < 18446744073709551616 := by
  obtain ⟨n, rfl, hw⟩ := h.int_inv Try.underlying44
  simp [Lit.wf, IntKind.min, IntKind.max, IntKind.signed, IntKind.bits] at hw
  refine ⟨n.toNat, ?_, by omega⟩
  congr 1
  omega
theorem cells_u64 : Try.prog.cellsOf 44 = 1 := by kernel_rfl
theorem nums_arg {x : AV} (h : Arg Try.prog 50 x) : ∃ l : List UInt64, x = us false l := by
  obtain ⟨l, rfl, hb, hl⟩ := h.slice_inv Try.underlying50
  rw [cells_u64]
  obtain ⟨m, rfl⟩ := nums_of (l := l) fun y hy => by
    obtain ⟨v, rfl, hv⟩ := u64_arg (hl y hy)
    exact ⟨_, rfl, by omega, by omega⟩
  exact ⟨m, rfl⟩
end Go.Fw.Wd
