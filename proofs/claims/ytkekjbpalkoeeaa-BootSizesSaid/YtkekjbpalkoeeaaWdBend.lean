/-
  The laws on messages at arguments as they are read. Conditions: none.
-/
import Derived.Test.YtkekjbpalkoeeaaWdBlaws
import Derived.Test.YtkekjbpalkoeeaaWdOargs
set_option linter.unusedVariables false
set_option linter.unusedSimpArgs false
namespace Go.Fw.Wd
open Go.Proofs Code_

theorem U32_arg {x : AV} (h : Arg Try.prog 38 x) : ∃ v : UInt32, x = .int .u32 (v.toNat : Int) := by
  obtain ⟨v, rfl, hv⟩ := u32_arg h
  exact ⟨UInt32.ofNat v, by rw [UInt32.toNat_ofNat_of_lt' hv]⟩
theorem U16_arg {x : AV} (h : Arg Try.prog 58 x) : ∃ v : UInt16, x = .int .u16 (v.toNat : Int) := by
  obtain ⟨n, rfl, hw⟩ := h.int_inv Try.underlying58
  simp [Lit.wf, IntKind.min, IntKind.max, IntKind.signed, IntKind.bits] at hw
  refine ⟨UInt16.ofNat n.toNat, ?_⟩
  rw [UInt16.toNat_ofNat_of_lt' (by show _ < 65536; omega)]
  congr 1
  omega
theorem mac_arg {x : AV} (h : Arg Try.prog 60 x) : ∃ m : Mac, x = .agg (macC m) := by
  obtain ⟨l, hl, hy, rfl⟩ := h.array_inv Try.underlying60
  match l, hl with
  | [y0, y1, y2, y3, y4, y5], _ =>
    obtain ⟨a, rfl⟩ := u8_arg (hy y0 (by simp))
    obtain ⟨b, rfl⟩ := u8_arg (hy y1 (by simp))
    obtain ⟨c, rfl⟩ := u8_arg (hy y2 (by simp))
    obtain ⟨d, rfl⟩ := u8_arg (hy y3 (by simp))
    obtain ⟨e, rfl⟩ := u8_arg (hy y4 (by simp))
    obtain ⟨f, rfl⟩ := u8_arg (hy y5 (by simp))
    exact ⟨⟨a, b, c, d, e, f⟩, rfl⟩
theorem msg_arg {x : AV} (h : Arg Try.prog 62 x) : ∃ m : Msg, x = .agg (encG false m) := by
  obtain ⟨ys, hl, hy, rfl⟩ := h.struct_inv Try.underlying62
  match ys, hl with
  | [y0, y1, y2, y3, y4, y5, y6, y7, y8, y9], _ =>
    obtain ⟨op, rfl⟩ := u8_arg (hy 0 _ y0 rfl rfl)
    obtain ⟨xid, rfl⟩ := U32_arg (hy 1 _ y1 rfl rfl)
    obtain ⟨secs, rfl⟩ := U16_arg (hy 2 _ y2 rfl rfl)
    obtain ⟨wide, rfl⟩ := (hy 3 _ y3 rfl rfl).bool_inv Try.underlying4
    obtain ⟨ci, rfl⟩ := U32_arg (hy 4 _ y4 rfl rfl)
    obtain ⟨yi, rfl⟩ := U32_arg (hy 5 _ y5 rfl rfl)
    obtain ⟨si, rfl⟩ := U32_arg (hy 6 _ y6 rfl rfl)
    obtain ⟨gi, rfl⟩ := U32_arg (hy 7 _ y7 rfl rfl)
    obtain ⟨mac, rfl⟩ := mac_arg (hy 8 _ y8 rfl rfl)
    obtain ⟨o, rfl⟩ := opts_arg (hy 9 _ y9 rfl rfl)
    exact ⟨⟨op, xid, secs, wide, ci, yi, si, gi, mac.a, mac.b, mac.c, mac.d, mac.e, mac.f, o⟩, rfl⟩

theorem end7 (xs : List AV) (hl : xs.length = [22].length) (h : ∀ (j : Nat) t x, ([22] : List TypeId)[j]? = some t → xs[j]? = some x → Arg Try.prog t x) : pcall E 7 xs = some (.bool true, []) := by
  match xs, hl with
  | [x0], _ =>
    obtain ⟨b, rfl, _⟩ := bytes_arg (h 0 _ x0 rfl rfl)
    exact law7 b
theorem end8 (xs : List AV) (hl : xs.length = [62, 62].length) (h : ∀ (j : Nat) t x, ([62, 62] : List TypeId)[j]? = some t → xs[j]? = some x → Arg Try.prog t x) : pcall E 8 xs = some (.bool true, []) := by
  match xs, hl with
  | [x0, x1], _ =>
    obtain ⟨m, rfl⟩ := msg_arg (h 0 _ x0 rfl rfl)
    obtain ⟨n, rfl⟩ := msg_arg (h 1 _ x1 rfl rfl)
    exact law8 m n
theorem end9 (xs : List AV) (hl : xs.length = [62, 3, 38, 38, 25].length) (h : ∀ (j : Nat) t x, ([62, 3, 38, 38, 25] : List TypeId)[j]? = some t → xs[j]? = some x → Arg Try.prog t x) : pcall E 9 xs = some (.bool true, []) := by
  match xs, hl with
  | [x0, x1, x2, x3, x4], _ =>
    obtain ⟨m, rfl⟩ := msg_arg (h 0 _ x0 rfl rfl)
    obtain ⟨k, rfl, _⟩ := int_arg (h 1 _ x1 rfl rfl)
    obtain ⟨yi, rfl⟩ := U32_arg (h 2 _ x2 rfl rfl)
    obtain ⟨s, rfl⟩ := U32_arg (h 3 _ x3 rfl rfl)
    obtain ⟨l, rfl⟩ := opts_arg (h 4 _ x4 rfl rfl)
    exact law9 m k yi s l
theorem end10 (xs : List AV) (hl : xs.length = [62, 60, 60, 22].length) (h : ∀ (j : Nat) t x, ([62, 60, 60, 22] : List TypeId)[j]? = some t → xs[j]? = some x → Arg Try.prog t x) : pcall E 10 xs = some (.bool true, []) := by
  match xs, hl with
  | [x0, x1, x2, x3], _ =>
    obtain ⟨m, rfl⟩ := msg_arg (h 0 _ x0 rfl rfl)
    obtain ⟨a, rfl⟩ := mac_arg (h 1 _ x1 rfl rfl)
    obtain ⟨b, rfl⟩ := mac_arg (h 2 _ x2 rfl rfl)
    obtain ⟨d, rfl, _⟩ := bytes_arg (h 3 _ x3 rfl rfl)
    exact law10 m a b d
theorem end11 (xs : List AV) (hl : xs.length = [62, 5, 38, 38, 38].length) (h : ∀ (j : Nat) t x, ([62, 5, 38, 38, 38] : List TypeId)[j]? = some t → xs[j]? = some x → Arg Try.prog t x) : pcall E 11 xs = some (.bool true, []) := by
  match xs, hl with
  | [x0, x1, x2, x3, x4], _ =>
    obtain ⟨m, rfl⟩ := msg_arg (h 0 _ x0 rfl rfl)
    obtain ⟨k, rfl⟩ := u8_arg (h 1 _ x1 rfl rfl)
    obtain ⟨yi, rfl⟩ := U32_arg (h 2 _ x2 rfl rfl)
    obtain ⟨s, rfl⟩ := U32_arg (h 3 _ x3 rfl rfl)
    obtain ⟨n, rfl⟩ := U32_arg (h 4 _ x4 rfl rfl)
    exact law11 m k yi s n
end Go.Fw.Wd
