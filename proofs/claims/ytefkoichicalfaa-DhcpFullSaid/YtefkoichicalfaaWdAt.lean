/-
  What At answers, the program's and the document's. Conditions: stated at each.
-/
import Derived.Test.YtefkoichicalfaaWdSame
set_option linter.unusedVariables false
set_option linter.unusedSimpArgs false
namespace Go.Fw.Wd
open Go.Proofs Code_

def spanE (many at_ size : Int) : Int := if at_ < 0 then 11 else if many < at_ then 12 else if many - at_ < size then 12 else 0

theorem s63 (n : Int) : pcall E 63 [.int .i64 n] = some (.bool (decide (1 ≤ n ∧ n ≤ 8)), []) := by
  rw [pcall_go (fn := I63) rfl rfl rfl]
  have hk : E.keep 63 = false := rfl
  by_cases h : 1 ≤ n
  · simp only [go_sem, reduceCtorEq, ↓reduceIte, reduceDIte, evI_callP, callPK_some, I63, hk, h]
  · simp only [go_sem, reduceCtorEq, ↓reduceIte, reduceDIte, evI_callP, callPK_some, I63, hk, h]
theorem s66 (many at_ size : Int) (h0 : 0 ≤ many) (h1 : many ≤ 140737488355328) (h2 : S64 at_) : pcall E 66 [.int .i64 many, .int .i64 at_, .int .i64 size] = some (.int .i64 (spanE many at_ size), []) := by
  rw [pcall_go (fn := I66) rfl rfl rfl]
  have hk : E.keep 66 = false := rfl
  obtain ⟨h3, h4⟩ := h2
  unfold spanE
  by_cases a : at_ < 0
  · simp only [go_sem, reduceCtorEq, ↓reduceIte, reduceDIte, evI_callP, callPK_some, I66, hk, a]
  · by_cases b : many < at_
    · simp (disch := first | omega | (simp only [List.length_cons, List.length_nil, List.length_append, List.length_map, List.length_set]; omega) | rfl | (simp only [List.length_cons, List.length_nil, List.length_append, List.length_map, List.length_set, List.length_replicate, List.all_cons, List.all_nil, List.all_append, storable, plainB, Bool.and_self]; done)) only [go_sem, reduceCtorEq, ↓reduceIte, reduceDIte, evI_callP, callPK_some, I66, hk, a, b]
    · by_cases c : many - at_ < size
      · simp (disch := first | omega | (simp only [List.length_cons, List.length_nil, List.length_append, List.length_map, List.length_set]; omega) | rfl | (simp only [List.length_cons, List.length_nil, List.length_append, List.length_map, List.length_set, List.length_replicate, List.all_cons, List.all_nil, List.all_append, storable, plainB, Bool.and_self]; done)) only [go_sem, reduceCtorEq, ↓reduceIte, reduceDIte, evI_callP, callPK_some, I66, hk, a, b, c]
      · simp (disch := first | omega | (simp only [List.length_cons, List.length_nil, List.length_append, List.length_map, List.length_set]; omega) | rfl | (simp only [List.length_cons, List.length_nil, List.length_append, List.length_map, List.length_set, List.length_replicate, List.all_cons, List.all_nil, List.all_append, storable, plainB, Bool.and_self]; done)) only [go_sem, reduceCtorEq, ↓reduceIte, reduceDIte, evI_callP, callPK_some, I66, hk, a, b, c]

theorem span0 {many at_ size : Int} (h : spanE many at_ size = 0) : 0 ≤ at_ ∧ at_ ≤ many ∧ size ≤ many - at_ := by
  unfold spanE at h
  split at h
  · omega
  · split at h
    · omega
    · split at h <;> omega

/-- What At answers. -/
def atN (l : List UInt8) (at_ size : Int) : Nat := if (1 ≤ size ∧ size ≤ 8) ∧ spanE l.length at_ size = 0 then num ((l.drop at_.toNat).take size.toNat) else 0
def atE (l : List UInt8) (at_ size : Int) : Int := if 1 ≤ size ∧ size ≤ 8 then spanE l.length at_ size else 11

theorem s47 (g : Bool) (l : List UInt8) (hl : l.length ≤ 140737488355328) (at_ size : Int) (h2 : S64 at_) : pcall E 47 [bs g l, .int .i64 at_, .int .i64 size] = some (.tup [.int .u64 (atN l at_ size), .int .i64 (atE l at_ size)], []) := by
  rw [pcall_go (fn := I47) rfl rfl rfl]
  have hk : E.keep 47 = false := rfl
  have h46 := s66 l.length at_ size (by omega) (by omega) h2
  have h45 := s63 size
  unfold atN atE
  by_cases a : 1 ≤ size ∧ size ≤ 8
  · rw [decide_eq_true a] at h45
    by_cases b : spanE l.length at_ size = 0
    · obtain ⟨c1, c2, c3⟩ := span0 b
      rw [b] at h46
      have hs := slice_map by8 [] 1 g l l.length (some (.int .i64 at_)) (some (.int .i64 (at_ + size))) at_ (at_ + size) rfl rfl c1 (by omega) (by omega)
      rw [show (at_ + size).toNat - at_.toNat = size.toNat by omega] at hs
      have hlen : ((l.drop at_.toNat).take size.toNat).length = size.toNat := by rw [List.length_take, List.length_drop]; omega
      generalize (l.drop at_.toNat).take size.toNat = m at hs hlen
      have hrun := loop_from (E := E) L47_0_eq m.length (fun i => ⟨[(9, .int .u64 (num (m.take i))), (28, bs g m), (29, .int .i64 m.length), (30, .int .i64 i)], []⟩) rfl (fun i hi => by
        have h1 : (i : Int) < m.length := by omega
        have h3 := num_lt_of (l := m.take i) (n := 7) (by rw [List.length_take]; omega)
        have h4 := num_take_succ m i hi
        have h5 := (nth m i).toNat_lt
        have e1 := shl_byte (n := (num (m.take i) : Nat)) (by omega) (by omega)
        have e2 := or_byte (n := (num (m.take i) : Nat)) (x := (nth m i).toNat) (by omega) (by omega) (by omega) (by omega)
        simp (disch := first | omega | (simp only [List.length_cons, List.length_nil, List.length_append, List.length_map, List.length_set]; omega) | rfl | (simp only [List.length_cons, List.length_nil, List.length_append, List.length_map, List.length_set, List.length_replicate, List.all_cons, List.all_nil, List.all_append, storable, plainB, Bool.and_self]; done)) only [go_sem, reduceCtorEq, ↓reduceIte, reduceDIte, evI_callP, callPK_some, iaddr_by8, B47_0, h1, e1, wb64, e2, h4])
      simp only [go_sem, reduceCtorEq, ↓reduceIte, reduceDIte, evI_callP, callPK_some, num_nil, List.take_length] at hrun
      simp (disch := first | omega | (simp only [List.length_cons, List.length_nil, List.length_append, List.length_map, List.length_set]; omega) | rfl | (simp only [List.length_cons, List.length_nil, List.length_append, List.length_map, List.length_set, List.length_replicate, List.all_cons, List.all_nil, List.all_append, storable, plainB, Bool.and_self]; done)) only [go_sem, reduceCtorEq, ↓reduceIte, reduceDIte, evI_callP, callPK_some, I47, hk, h45, h46, hs, a, b, hrun, B47_0, Int.lt_irrefl]
    · have b' : ¬ spanE l.length at_ size = 0 := b
      simp (disch := first | omega | (simp only [List.length_cons, List.length_nil, List.length_append, List.length_map, List.length_set]; omega) | rfl | (simp only [List.length_cons, List.length_nil, List.length_append, List.length_map, List.length_set, List.length_replicate, List.all_cons, List.all_nil, List.all_append, storable, plainB, Bool.and_self]; done)) only [go_sem, reduceCtorEq, ↓reduceIte, reduceDIte, evI_callP, callPK_some, I47, hk, h45, h46, a, b]
  · rw [decide_eq_false a] at h45
    simp (disch := first | omega | (simp only [List.length_cons, List.length_nil, List.length_append, List.length_map, List.length_set]; omega) | rfl | (simp only [List.length_cons, List.length_nil, List.length_append, List.length_map, List.length_set, List.length_replicate, List.all_cons, List.all_nil, List.all_append, storable, plainB, Bool.and_self]; done)) only [go_sem, reduceCtorEq, ↓reduceIte, reduceDIte, evI_callP, callPK_some, I47, hk, h45, a]

end Go.Fw.Wd
