/-
  The entries of a map with strings for keys lie in their keys' order. Conditions: none.
-/
import Derived.Test.YtafdcljkcgegiaaWdMsort
import Derived.ChangeMaps
set_option linter.unusedVariables false
set_option linter.unusedSimpArgs false
namespace Go.Fw.Wd
open Go.Proofs Go.RowKit Go.Sort Code_ Go.Maps

/-- Keys that rise. -/
def Up (es : Ents) : Prop := es.Pairwise fun p q => p.1.lit.before q.1.lit = true
def StrE (es : Ents) : Prop := ∀ p ∈ es, ∃ s, p.1 = .s s
theorem mapIs_up {w : World} {b : Nat} {kk : Kk} {el : Ents} (hm : mapIs w b kk el) : Up el := by
  obtain ⟨hw, P, k, hk, hown⟩ := hm
  obtain ⟨es, clock, hb, F, hs, hD⟩ := hown
  have h1 := WideShapes.rising_pairwise _ (fit_rising (keyed hk) F)
  have hD : el.map datE = (es.toList.map (WideElems.rg P k rdV)).foldr DataW.insert [] := by
    unfold mapD at hD
    injection hD
  rw [← hD, List.pairwise_map] at h1
  exact h1
theorem mapIs_strs {w : World} {b : Nat} {el : Ents} (hm : mapIs w b .str el) : StrE el := by
  obtain ⟨hw, P, k, hk, hown⟩ := hm
  obtain ⟨es, hD, hks⟩ := hown.keysOf
  have hD : el.map datE = es := by
    unfold mapD at hD
    injection hD
  intro p hp
  have h2 : datE p ∈ el.map datE := List.mem_map_of_mem hp
  rw [hD] at h2
  obtain ⟨v, hv⟩ := hks _ h2
  have hv : keyOf P k v = some p.1.lit := hv
  have hk' : P.underlying k = some .string := hk
  cases v <;> simp only [keyOf, mapKey, hk', reduceCtorEq] at hv
  split at hv
  · injection hv with hv
    exact ⟨_, lit_inj hv.symm⟩
  · cases hv
theorem bytesBefore_lt : ∀ {a b : List UInt8}, bytesBefore a b = true → a < b
  | [], [], h => by simp [bytesBefore] at h
  | _ :: _, [], h => by simp [bytesBefore] at h
  | [], _ :: _, _ => List.nil_lt_cons _ _
  | x :: r, y :: s, h => by
    simp only [bytesBefore, Bool.or_eq_true, decide_eq_true_eq, Bool.and_eq_true, beq_iff_eq] at h
    rcases h with h | ⟨rfl, h⟩
    · exact List.cons_lt_cons_iff.2 (.inl h)
    · exact List.cons_lt_cons_iff.2 (.inr ⟨rfl, bytesBefore_lt h⟩)
def keysOf (el : Ents) : List (List UInt8) := el.map fun p => match p.1 with
  | .s x => x
  | _ => []
theorem keysOf_sorted {el : Ents} (hs : StrE el) (hu : Up el) : (keysOf el).mergeSort leB = keysOf el := by
  refine List.mergeSort_of_pairwise ?_
  unfold keysOf
  rw [List.pairwise_map]
  refine List.Pairwise.imp_of_mem ?_ hu
  intro p q hp hq h
  obtain ⟨a, ha⟩ := hs p hp
  obtain ⟨b, hb⟩ := hs q hq
  rw [ha, hb] at h ⊢
  simp only [leB, decide_eq_true_eq]
  exact List.le_of_lt (bytesBefore_lt h)
theorem mget_up {el : Ents} (hu : Up el) {p : PV × PE} (hp : p ∈ el) : mget p.1 el = some p.2 := by
  induction el with
  | nil => cases hp
  | cons q r ih =>
    obtain ⟨h1, h2⟩ := List.pairwise_cons.1 hu
    unfold mget
    rw [List.find?_cons]
    rcases List.mem_cons.1 hp with rfl | hp'
    · rw [keq_self]
      rfl
    · have hne : keq q.1 p.1 = false := by
        cases hk : keq q.1 p.1 with
        | false => rfl
        | true =>
          have h3 := h1 p hp'
          rw [keq_lit hk, WideShapes.before_irrefl] at h3
          cases h3
      rw [hne]
      exact ih h2 hp'
end Go.Fw.Wd
