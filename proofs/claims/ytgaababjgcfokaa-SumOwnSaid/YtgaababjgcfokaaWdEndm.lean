/-
  The laws on sums at arguments as they are read. Conditions: none.
-/
import Derived.Test.YtgaababjgcfokaaWdArgs
import Derived.Test.YtgaababjgcfokaaWdLawo
set_option linter.unusedVariables false
set_option linter.unusedSimpArgs false
namespace Go.Fw.Wd
open Code_ Go.Proofs

theorem u16_arg {x : AV} (h : Arg Try.prog 23 x) : ∃ v : Nat, x = .int .u16 (v : Int) ∧ v < 65536 := by
  obtain ⟨n, rfl, hw⟩ := h.int_inv Try.underlying23
  simp [Lit.wf, IntKind.min, IntKind.max, IntKind.signed, IntKind.bits] at hw
  refine ⟨n.toNat, ?_, by omega⟩
  congr 1
  omega
theorem cells_bs : Try.prog.cellsOf 24 = 1 := by kernel_rfl
theorem bytes_bs : Try.prog.bytesOf 24 = 24 := by kernel_rfl
theorem parts_of {l : List AV} (h : ∀ y ∈ l, ∃ m : List UInt8, y = bs false m ∧ m.length ≤ reachBytes) : ∃ ps : List Part, l = ps.map encP ∧ ∀ p ∈ ps, p.2.length ≤ reachBytes := by
  induction l with
  | nil => exact ⟨[], rfl, fun p hp => by simp at hp⟩
  | cons y l ih =>
    obtain ⟨m, rfl, hm⟩ := h y (by simp)
    obtain ⟨ps, rfl, hp⟩ := ih fun z hz => h z (by simp [hz])
    refine ⟨(false, m) :: ps, rfl, fun p hp' => ?_⟩
    rcases List.mem_cons.1 hp' with rfl | hp'
    · exact hm
    · exact hp p hp'
theorem parts_arg {x : AV} (h : Arg Try.prog 22 x) : ∃ ps : List Part, x = .rs false 1 (ps.map encP) ∧ ps.length ≤ reachBytes ∧ ∀ p ∈ ps, p.2.length ≤ reachBytes := by
  obtain ⟨l, rfl, hb, hl⟩ := h.slice_inv Try.underlying22
  rw [cells_bs]
  rw [bytes_bs] at hb
  obtain ⟨ps, rfl, hp⟩ := parts_of (l := l) fun y hy => bytes_arg (hl y hy)
  exact ⟨ps, rfl, by rw [List.length_map] at hb; omega, hp⟩
theorem reach_le : reachBytes ≤ 140737488355328 := by decide

theorem end3 (xs : List AV) (hl : xs.length = [22, 23, 23, 23, 24, 24].length) (h : ∀ (j : Nat) t x, ([22, 23, 23, 23, 24, 24] : List TypeId)[j]? = some t → xs[j]? = some x → Arg Try.prog t x) : pcall E 3 xs = some (.bool true, []) := by
  match xs, hl with
  | [x0, x1, x2, x3, x4, x5], _ =>
    obtain ⟨ps, rfl, h1, h2⟩ := parts_arg (h 0 _ x0 rfl rfl)
    obtain ⟨a, rfl, ha⟩ := u16_arg (h 1 _ x1 rfl rfl)
    obtain ⟨b, rfl, hb⟩ := u16_arg (h 2 _ x2 rfl rfl)
    obtain ⟨c, rfl, hc⟩ := u16_arg (h 3 _ x3 rfl rfl)
    obtain ⟨w, rfl, _⟩ := bytes_arg (h 4 _ x4 rfl rfl)
    obtain ⟨n, rfl, _⟩ := bytes_arg (h 5 _ x5 rfl rfl)
    exact law_answers ps (fun p hp => Nat.le_trans (h2 p hp) reach_le) (Nat.le_trans h1 reach_le) a b c ha hb hc w n
theorem end4 (xs : List AV) (hl : xs.length = [24, 3, 24].length) (h : ∀ (j : Nat) t x, ([24, 3, 24] : List TypeId)[j]? = some t → xs[j]? = some x → Arg Try.prog t x) : pcall E 4 xs = some (.bool true, []) := by
  match xs, hl with
  | [x0, x1, x2], _ =>
    obtain ⟨l, rfl, _⟩ := bytes_arg (h 0 _ x0 rfl rfl)
    obtain ⟨a, rfl, ha⟩ := int_arg (h 1 _ x1 rfl rfl)
    obtain ⟨p, rfl, _⟩ := bytes_arg (h 2 _ x2 rfl rfl)
    exact law_patch l p a ha
theorem end5 (xs : List AV) (hl : xs.length = [24, 3, 3, 5].length) (h : ∀ (j : Nat) t x, ([24, 3, 3, 5] : List TypeId)[j]? = some t → xs[j]? = some x → Arg Try.prog t x) : pcall E 5 xs = some (.bool true, []) := by
  match xs, hl with
  | [x0, x1, x2, x3], _ =>
    obtain ⟨l, rfl, _⟩ := bytes_arg (h 0 _ x0 rfl rfl)
    obtain ⟨a, rfl, ha⟩ := int_arg (h 1 _ x1 rfl rfl)
    obtain ⟨p, rfl, hp⟩ := int_arg (h 2 _ x2 rfl rfl)
    obtain ⟨d, rfl⟩ := u8_arg (h 3 _ x3 rfl rfl)
    exact law_own l a p d ha
theorem end6 (xs : List AV) (hl : xs.length = [24, 24].length) (h : ∀ (j : Nat) t x, ([24, 24] : List TypeId)[j]? = some t → xs[j]? = some x → Arg Try.prog t x) : pcall E 6 xs = some (.bool true, []) := by
  match xs, hl with
  | [x0, x1], _ =>
    obtain ⟨l, rfl, _⟩ := bytes_arg (h 0 _ x0 rfl rfl)
    obtain ⟨m, rfl, _⟩ := bytes_arg (h 1 _ x1 rfl rfl)
    exact law_order l m
theorem end7 (xs : List AV) (hl : xs.length = [23, 24, 24, 3].length) (h : ∀ (j : Nat) t x, ([23, 24, 24, 3] : List TypeId)[j]? = some t → xs[j]? = some x → Arg Try.prog t x) : pcall E 7 xs = some (.bool true, []) := by
  match xs, hl with
  | [x0, x1, x2, x3], _ =>
    obtain ⟨a, rfl, ha⟩ := u16_arg (h 0 _ x0 rfl rfl)
    obtain ⟨w, rfl, _⟩ := bytes_arg (h 1 _ x1 rfl rfl)
    obtain ⟨n, rfl, _⟩ := bytes_arg (h 2 _ x2 rfl rfl)
    obtain ⟨c, rfl, hc⟩ := int_arg (h 3 _ x3 rfl rfl)
    exact law_parts a ha w n c
end Go.Fw.Wd
