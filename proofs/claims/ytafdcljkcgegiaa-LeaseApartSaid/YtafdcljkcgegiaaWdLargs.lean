/-
  Arguments of the lease laws as they are read. Conditions: none.
-/
import Derived.Test.YtafdcljkcgegiaaWdLop
import Derived.Test.YtafdcljkcgegiaaWdArgs
set_option linter.unusedVariables false
set_option linter.unusedSimpArgs false
namespace Go.Fw.Wd
open Go.Proofs Code_

theorem U32_arg {x : AV} (h : Arg Try.prog 22 x) : ∃ v : UInt32, x = i32 v := by
  obtain ⟨n, rfl, hw⟩ := h.int_inv Try.underlying22
  simp [Lit.wf, IntKind.min, IntKind.max, IntKind.signed, IntKind.bits] at hw
  refine ⟨UInt32.ofNat n.toNat, ?_⟩
  show _ = AV.int .u32 _
  rw [of32 (by omega)]
  congr 1
  omega
theorem U64_arg {x : AV} (h : Arg Try.prog 25 x) : ∃ v : UInt64, x = i64u v := by
  obtain ⟨n, rfl, hw⟩ := h.int_inv Try.underlying25
  simp [Lit.wf, IntKind.min, IntKind.max, IntKind.signed, IntKind.bits] at hw
  refine ⟨UInt64.ofNat n.toNat, ?_⟩
  show _ = AV.int .u64 _
  rw [UInt64.toNat_ofNat', Nat.mod_eq_of_lt (by omega)]
  congr 1
  omega
theorem i32s_arg {x : AV} (h : Arg Try.prog 23 x) : ∃ l : List UInt32, x = .rs false 1 (i32s l) := by
  obtain ⟨l, rfl, hb, hl⟩ := h.slice_inv Try.underlying23
  rw [show Try.prog.cellsOf 22 = 1 by kernel_rfl]
  suffices ∃ m : List UInt32, l = i32s m by
    obtain ⟨m, rfl⟩ := this
    exact ⟨m, rfl⟩
  clear hb h
  induction l with
  | nil => exact ⟨[], rfl⟩
  | cons y l ih =>
    obtain ⟨v, rfl⟩ := U32_arg (hl y (by simp))
    obtain ⟨m, rfl⟩ := ih fun z hz => hl z (by simp [hz])
    exact ⟨v :: m, rfl⟩
end Go.Fw.Wd
