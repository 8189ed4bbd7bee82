/-
  OptionBack where what is read is not too great. Conditions: stated at each.
-/
import Derived.Test.YtkekjbpalkoeeaaWdOend
set_option linter.unusedVariables false
set_option linter.unusedSimpArgs false
namespace Go.Fw.Wd
open Code_ Go.Proofs

theorem bulk_by8 : ∀ l : List UInt8, bulkA.bulkAL (l.map by8) = l.length
  | [] => rfl
  | b :: l => by
    simp only [List.map_cons, bulkA.bulkAL, by8, bulkA, List.length_cons]
    have := bulk_by8 l
    omega
theorem bulk_opts : ∀ l : List Opt, (optsB l).length + l.length ≤ bulkA.bulkAL (l.map fun o => AV.agg (encO o)) ∧ ∀ o ∈ l, o.2.length ≤ bulkA.bulkAL (l.map fun o => AV.agg (encO o))
  | [] => ⟨by simp [optsB, bulkA.bulkAL], fun o ho => by simp at ho⟩
  | o :: l => by
    obtain ⟨h1, h2⟩ := bulk_opts l
    have e : bulkA (.agg (encO o)) = o.2.length + 3 := by
      have := bulk_by8 o.2
      simp only [encO_eq, bs, bulkA, bulkA.bulkAL]
      omega
    simp only [List.map_cons, bulkA.bulkAL, e]
    refine ⟨?_, fun o' ho => ?_⟩
    · rw [optsB_cons]
      simp only [List.length_cons, List.length_append]
      omega
    · rcases List.mem_cons.1 ho with rfl | ho
      · omega
      · have := h2 o' ho
        omega
theorem end5 (xs : List AV) (hl : xs.length = [25, 5, 22, 3].length) (h : ∀ (j : Nat) t x, ([25, 5, 22, 3] : List TypeId)[j]? = some t → xs[j]? = some x → Arg Try.prog t x) (hb : bulkA.bulkAL xs ≤ 1048576) : pcall E 5 xs = some (.bool true, []) := by
  match xs, hl with
  | [x0, x1, x2, x3], _ =>
    obtain ⟨l, rfl⟩ := opts_arg (h 0 _ x0 rfl rfl)
    obtain ⟨c, rfl⟩ := u8_arg (h 1 _ x1 rfl rfl)
    obtain ⟨d, rfl, _⟩ := bytes_arg (h 2 _ x2 rfl rfl)
    obtain ⟨n, rfl, _⟩ := int_arg (h 3 _ x3 rfl rfl)
    have hbl : bulkA.bulkAL (l.map fun o => AV.agg (encO o)) ≤ 1048576 := by
      simp only [bulkA.bulkAL, opts, recs, bulkA] at hb
      omega
    obtain ⟨h1, h2⟩ := bulk_opts l
    exact law5 l ⟨by omega, fun o ho => by have := h2 o ho; omega⟩ (by omega) c d n
end Go.Fw.Wd
