/-
  The laws on maps at arguments as they are read. Conditions: none.
-/
import Derived.Test.YtbbkmdibmmcjnaaRtLaws
import Derived.Test.YtbbkmdibmmcjnaaFwT
import Derived.Test.YtbbkmdibmmcjnaaChecked
set_option linter.unusedVariables false
set_option linter.unusedSimpArgs false
namespace Go.Fw.Net
open Code_ Go.Proofs

theorem env_ok : EnvOk Try.prog E := ⟨fns_ok, fun f p h => by cases h⟩

theorem U_of {n : Int} (h : (Lit.int .u32 n).wf = true) : U n := by
  simp [Lit.wf, IntKind.min, IntKind.max, IntKind.signed, IntKind.bits] at h
  exact ⟨h.1, by omega⟩
theorem u32_arg {x : AV} (h : Arg Try.prog 22 x) : ∃ n, x = .int .u32 n ∧ U n := by
  obtain ⟨n, rfl, hw⟩ := h.int_inv Try.underlying22
  exact ⟨n, rfl, U_of hw⟩
theorem int_arg {x : AV} (h : Arg Try.prog 3 x) : ∃ n, x = .int .i64 n := by
  obtain ⟨n, rfl, hw⟩ := h.int_inv Try.underlying3
  exact ⟨n, rfl⟩
theorem net_arg {x : AV} (h : Arg Try.prog 24 x) : ∃ i b, x = net i b ∧ U i := by
  obtain ⟨ys, hl, hy, rfl⟩ := h.struct_inv Try.underlying24
  match ys, hl with
  | [y0, y1], _ =>
    obtain ⟨i, rfl, hi⟩ := u32_arg (hy 0 _ y0 rfl rfl)
    obtain ⟨b, rfl⟩ := int_arg (hy 1 _ y1 rfl rfl)
    exact ⟨i, b, rfl, hi⟩
theorem map_arg {x : AV} (h : Arg Try.prog 26 x) : ∃ i b o c r, x = mp i b o c r ∧ U i ∧ U o ∧ U r := by
  obtain ⟨ys, hl, hy, rfl⟩ := h.struct_inv Try.underlying26
  match ys, hl with
  | [y0, y1, y2], _ =>
    obtain ⟨i, b, rfl, hi⟩ := net_arg (hy 0 _ y0 rfl rfl)
    obtain ⟨o, c, rfl, ho⟩ := net_arg (hy 1 _ y1 rfl rfl)
    obtain ⟨r, rfl, hr⟩ := u32_arg (hy 2 _ y2 rfl rfl)
    exact ⟨i, b, o, c, r, rfl, hi, ho, hr⟩

theorem end3 (xs : List AV) (hl : xs.length = [26, 3, 22, 22].length) (h : ∀ (j : Nat) t x, ([26, 3, 22, 22] : List TypeId)[j]? = some t → xs[j]? = some x → Arg Try.prog t x) : pcall E 3 xs = some (.bool true, []) := by
  match xs, hl with
  | [x0, x1, x2, x3], _ =>
    obtain ⟨i, b, o, c, r, rfl, h1, h2, h3⟩ := map_arg (h 0 _ x0 rfl rfl)
    obtain ⟨n, rfl⟩ := int_arg (h 1 _ x1 rfl rfl)
    obtain ⟨f, rfl, h4⟩ := u32_arg (h 2 _ x2 rfl rfl)
    obtain ⟨t, rfl, h5⟩ := u32_arg (h 3 _ x3 rfl rfl)
    exact law3 i b o c r n f t h1 h2 h3 h4 h5
theorem end6 (xs : List AV) (hl : xs.length = [26, 22, 22, 22].length) (h : ∀ (j : Nat) t x, ([26, 22, 22, 22] : List TypeId)[j]? = some t → xs[j]? = some x → Arg Try.prog t x) : pcall E 6 xs = some (.bool true, []) := by
  match xs, hl with
  | [x0, x2, x4, x3], _ =>
    obtain ⟨i, b, o, c, r, rfl, h1, h2, h3⟩ := map_arg (h 0 _ x0 rfl rfl)
    obtain ⟨f, rfl, h4⟩ := u32_arg (h 1 _ x2 rfl rfl)
    obtain ⟨g, rfl, h6⟩ := u32_arg (h 2 _ x4 rfl rfl)
    obtain ⟨t, rfl, h5⟩ := u32_arg (h 3 _ x3 rfl rfl)
    exact law6 i b o c r f g t h1 h2 h3 h4 h6 h5
end Go.Fw.Net
