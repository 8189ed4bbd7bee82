/-
  Arguments as they are read. Conditions: none.
-/
import Derived.Test.YtefkoichicalfaaWdBytes
import Derived.Test.YtefkoichicalfaaChecked
import Derived.KernelRfl
set_option linter.unusedVariables false
set_option linter.unusedSimpArgs false
namespace Go.Fw.Wd
open Go.Proofs

theorem int_arg {x : AV} (h : Arg Try.prog 3 x) : ∃ n, x = .int .i64 n ∧ S64 n := by
  obtain ⟨n, rfl, hw⟩ := h.int_inv Try.underlying3
  refine ⟨n, rfl, ?_⟩
  simp [Lit.wf, IntKind.min, IntKind.max, IntKind.signed, IntKind.bits] at hw
  exact ⟨by omega, by omega⟩
theorem u8_arg {x : AV} (h : Arg Try.prog 5 x) : ∃ b : UInt8, x = .int .u8 (b.toNat : Int) := by
  obtain ⟨n, rfl, hw⟩ := h.int_inv Try.underlying5
  simp [Lit.wf, IntKind.min, IntKind.max, IntKind.signed, IntKind.bits] at hw
  refine ⟨UInt8.ofNat n.toNat, ?_⟩
  rw [UInt8.toNat_ofNat_of_lt' (by show n.toNat < 256; omega)]
  congr 1
  omega
theorem cells_u8 : Try.prog.cellsOf 5 = 1 := by kernel_rfl
theorem bytes_u8 : Try.prog.bytesOf 5 = 1 := by kernel_rfl
theorem bytes_arg {x : AV} (h : Arg Try.prog 47 x) : ∃ l : List UInt8, x = bs false l ∧ l.length ≤ reachBytes := by
  obtain ⟨l, rfl, hb, hl⟩ := h.slice_inv Try.underlying47
  rw [cells_u8]
  rw [bytes_u8] at hb
  obtain ⟨m, rfl⟩ := bytes_of (l := l) fun y hy => by
    obtain ⟨b, rfl⟩ := u8_arg (hl y hy)
    exact ⟨_, rfl, by omega, by have := b.toNat_lt; omega⟩
  exact ⟨m, rfl, by simpa using hb⟩
end Go.Fw.Wd
