/-
  The laws on datagrams at arguments as they are read. Conditions: none.
-/
import Derived.Test.YtmmfimpphhebfaaDoorWdUlaw2
set_option linter.unusedVariables false
set_option linter.unusedSimpArgs false
namespace Go.Fw.Wd
open Code_ Go.Proofs

theorem dg_arg {x : AV} (h : Arg Tryd.prog 51 x) : ∃ p q r body, x = .agg (dgC p q r body) ∧ p < 65536 ∧ q < 65536 := by
  obtain ⟨ys, hl, hy, rfl⟩ := h.struct_inv Tryd.underlying51
  match ys, hl with
  | [y0, y1, y2, y3], _ =>
    obtain ⟨p, rfl, hp⟩ := u16_arg (hy 0 _ y0 rfl rfl)
    obtain ⟨q, rfl, hq⟩ := u16_arg (hy 1 _ y1 rfl rfl)
    obtain ⟨r, rfl⟩ := bool_arg (hy 2 _ y2 rfl rfl)
    obtain ⟨b, rfl, _⟩ := bytes_arg (hy 3 _ y3 rfl rfl)
    exact ⟨p, q, r, b, rfl, hp, hq⟩
theorem end5 (xs : List AV) (hl : xs.length = [22, 23, 23].length) (h : ∀ (j : Nat) t x, ([22, 23, 23] : List TypeId)[j]? = some t → xs[j]? = some x → Arg Tryd.prog t x) : pcall E 5 xs = some (.bool true, []) := by
  match xs, hl with
  | [x0, x1, x2], _ =>
    obtain ⟨b, rfl, _⟩ := bytes_arg (h 0 _ x0 rfl rfl)
    obtain ⟨x, rfl⟩ := U32_arg (h 1 _ x1 rfl rfl)
    obtain ⟨y, rfl⟩ := U32_arg (h 2 _ x2 rfl rfl)
    exact law5 b x y
theorem end6 (xs : List AV) (hl : xs.length = [51, 51, 23, 23, 22].length) (h : ∀ (j : Nat) t x, ([51, 51, 23, 23, 22] : List TypeId)[j]? = some t → xs[j]? = some x → Arg Tryd.prog t x) : pcall E 6 xs = some (.bool true, []) := by
  match xs, hl with
  | [x0, x1, x2, x3, x4], _ =>
    obtain ⟨p, q, r, b, rfl, hp, hq⟩ := dg_arg (h 0 _ x0 rfl rfl)
    obtain ⟨p', q', r', b', rfl, _, _⟩ := dg_arg (h 1 _ x1 rfl rfl)
    obtain ⟨x, rfl⟩ := U32_arg (h 2 _ x2 rfl rfl)
    obtain ⟨y, rfl⟩ := U32_arg (h 3 _ x3 rfl rfl)
    obtain ⟨z, rfl, _⟩ := bytes_arg (h 4 _ x4 rfl rfl)
    exact law6 p q hp hq r b p' q' r' b' x y z
theorem end7 (xs : List AV) (hl : xs.length = [51, 23, 23, 3, 5].length) (h : ∀ (j : Nat) t x, ([51, 23, 23, 3, 5] : List TypeId)[j]? = some t → xs[j]? = some x → Arg Tryd.prog t x) : pcall E 7 xs = some (.bool true, []) := by
  match xs, hl with
  | [x0, x1, x2, x3, x4], _ =>
    obtain ⟨p, q, r, b, rfl, hp, hq⟩ := dg_arg (h 0 _ x0 rfl rfl)
    obtain ⟨x, rfl⟩ := U32_arg (h 1 _ x1 rfl rfl)
    obtain ⟨y, rfl⟩ := U32_arg (h 2 _ x2 rfl rfl)
    obtain ⟨i, rfl, _⟩ := int_arg (h 3 _ x3 rfl rfl)
    obtain ⟨d, rfl⟩ := u8_arg (h 4 _ x4 rfl rfl)
    exact law7 p q hp hq r b x y i d
theorem end8 (xs : List AV) (hl : xs.length = [51, 23, 23].length) (h : ∀ (j : Nat) t x, ([51, 23, 23] : List TypeId)[j]? = some t → xs[j]? = some x → Arg Tryd.prog t x) : pcall E 8 xs = some (.bool true, []) := by
  match xs, hl with
  | [x0, x1, x2], _ =>
    obtain ⟨p, q, r, b, rfl, hp, hq⟩ := dg_arg (h 0 _ x0 rfl rfl)
    obtain ⟨x, rfl⟩ := U32_arg (h 1 _ x1 rfl rfl)
    obtain ⟨y, rfl⟩ := U32_arg (h 2 _ x2 rfl rfl)
    exact law8 p q hp hq r b x y
end Go.Fw.Wd
