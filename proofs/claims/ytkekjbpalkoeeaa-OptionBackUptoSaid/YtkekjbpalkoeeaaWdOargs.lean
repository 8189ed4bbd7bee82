/-
  Options as they are read. Conditions: none.
-/
import Derived.Test.YtkekjbpalkoeeaaWdOpt
import Derived.Test.YtkekjbpalkoeeaaWdArgs
set_option linter.unusedVariables false
set_option linter.unusedSimpArgs false
namespace Go.Fw.Wd
open Go.Proofs

theorem u32_arg {x : AV} (h : Arg Try.prog 38 x) : ∃ v : Nat, x = .int .u32 (v : Int) ∧ v < 4294967296 := by
  obtain ⟨n, rfl, hw⟩ := h.int_inv Try.underlying38
  simp [Lit.wf, IntKind.min, IntKind.max, IntKind.signed, IntKind.bits] at hw
  refine ⟨n.toNat, ?_, by omega⟩
  congr 1
  omega
theorem opt_arg {x : AV} (h : Arg Try.prog 35 x) : ∃ o : Opt, x = .agg (encO o) ∧ o.2.length ≤ reachBytes := by
  obtain ⟨ys, hl, hy, rfl⟩ := h.struct_inv Try.underlying35
  match ys, hl with
  | [y0, y1], _ =>
    obtain ⟨c, rfl⟩ := u8_arg (hy 0 _ y0 rfl rfl)
    obtain ⟨d, rfl, hd⟩ := bytes_arg (hy 1 _ y1 rfl rfl)
    exact ⟨(c, d), rfl, hd⟩
theorem cells_opt : Try.prog.cellsOf 35 = 2 := by kernel_rfl
theorem opts_of {l : List AV} (h : ∀ y ∈ l, ∃ o : Opt, y = .agg (encO o)) : ∃ m : List Opt, l = m.map fun o => .agg (encO o) := by
  induction l with
  | nil => exact ⟨[], rfl⟩
  | cons y l ih =>
    obtain ⟨o, rfl⟩ := h y (by simp)
    obtain ⟨m, rfl⟩ := ih fun z hz => h z (by simp [hz])
    exact ⟨o :: m, rfl⟩
theorem opts_arg {x : AV} (h : Arg Try.prog 25 x) : ∃ l : List Opt, x = opts false l := by
  obtain ⟨l, rfl, hb, hl⟩ := h.slice_inv Try.underlying25
  rw [cells_opt]
  obtain ⟨m, rfl⟩ := opts_of (l := l) fun y hy => by
    obtain ⟨o, h1, _⟩ := opt_arg (hl y hy)
    exact ⟨o, h1⟩
  exact ⟨m, rfl⟩
end Go.Fw.Wd
