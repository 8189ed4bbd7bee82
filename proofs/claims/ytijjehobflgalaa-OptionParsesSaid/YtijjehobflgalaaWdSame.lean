/-
  What the shared functions on bytes answer. Conditions: stated at each.
-/
import Derived.Test.YtijjehobflgalaaWdFin
set_option linter.unusedVariables false
set_option linter.unusedSimpArgs false
namespace Go.Fw.Wd
open Go.Proofs Code_

theorem s10 (g g' : Bool) (l m : List UInt8) (hb : l.length ≤ 140737488355328) : pcall E 10 [bs g l, bs g' m] = some (.bool (decide (l = m)), []) := by
  rw [pcall_go (fn := I10) rfl rfl rfl]
  have hk : E.keep 10 = false := rfl
  by_cases hl : l.length = m.length
  · have hl2 : (l.length : Int) = m.length := by omega
    have hrun : ∀ n, n ≤ l.length → (∀ i, i < n → nth l i = nth m i) → _ := fun n hn hs =>
      loop_from (E := E) L10_0_eq n (fun i => ⟨[(0, bs g l), (1, bs g' m), (5, .int .i64 i)], []⟩) rfl (fun i hi => by
        have h1 : (i : Int) < l.length := by omega
        have h2 : (i : Int) < m.length := by omega
        simp (disch := first | omega | (simp only [List.length_cons, List.length_nil, List.length_append, List.length_map, List.length_set]; omega) | rfl | (simp only [List.length_cons, List.length_nil, List.length_append, List.length_map, List.length_set, List.length_replicate, List.all_cons, List.all_nil, List.all_append, storable, plainB, Bool.and_self]; done)) only [go_sem, reduceCtorEq, ↓reduceIte, reduceDIte, evI_callP, callPK_some, iaddr_by8, B10_0, h1, h2, hs i hi])
    rcases first_stop (fun i => decide (nth l i = nth m i)) l.length with h | ⟨n, hn, h1, h2⟩
    · have he : l = m := List.ext_getElem hl fun i h1 h2 => by
        have := h i h1
        simp only [decide_eq_true_eq] at this
        rwa [nth_get l i h1, nth_get m i h2] at this
      have h0 := hrun l.length (Nat.le_refl _) fun i hi => by simpa using h i hi
      have hd : decide (l = m) = true := by simp [he]
      simp only [go_sem, reduceCtorEq, ↓reduceIte, reduceDIte, evI_callP, callPK_some] at h0
      simp (disch := first | omega | (simp only [List.length_cons, List.length_nil, List.length_append, List.length_map, List.length_set]; omega) | rfl | (simp only [List.length_cons, List.length_nil, List.length_append, List.length_map, List.length_set, List.length_replicate, List.all_cons, List.all_nil, List.all_append, storable, plainB, Bool.and_self]; done)) only [go_sem, reduceCtorEq, ↓reduceIte, reduceDIte, evI_callP, callPK_some, I10, hk, hl2, h0, B10_0, hd, Int.lt_irrefl]
    · have h3 : ¬ nth l n = nth m n := by simpa using h2
      have hne : ¬ l = m := fun h => h3 (by rw [h])
      have h0 := hrun n (by omega) fun i hi => by simpa using h1 i hi
      simp only [go_sem, reduceCtorEq, ↓reduceIte, reduceDIte, evI_callP, callPK_some] at h0
      have h4 : (n : Int) < m.length := by omega
      simp (disch := first | omega | (simp only [List.length_cons, List.length_nil, List.length_append, List.length_map, List.length_set]; omega) | rfl | (simp only [List.length_cons, List.length_nil, List.length_append, List.length_map, List.length_set, List.length_replicate, List.all_cons, List.all_nil, List.all_append, storable, plainB, Bool.and_self]; done)) only [go_sem, reduceCtorEq, ↓reduceIte, reduceDIte, evI_callP, callPK_some, I10, hk, iaddr_by8, hl2, h0, B10_0, hne, h4, by8_neq, h3]
  · have hl2 : ¬ (l.length : Int) = m.length := by omega
    have hne : ¬ l = m := fun h => hl (by rw [h])
    simp (disch := first | omega | (simp only [List.length_cons, List.length_nil, List.length_append, List.length_map, List.length_set]; omega) | rfl | (simp only [List.length_cons, List.length_nil, List.length_append, List.length_map, List.length_set, List.length_replicate, List.all_cons, List.all_nil, List.all_append, storable, plainB, Bool.and_self]; done)) only [go_sem, reduceCtorEq, ↓reduceIte, reduceDIte, evI_callP, callPK_some, I10, hk, hl2, hne]

theorem s5 (g : Bool) (l : List UInt8) (hl : l.length ≤ 140737488355328) : pcall E 5 [bs g l] = some (.sl 1 0 0 0 l.length, [rowB 0 l 5]) := by
  rw [pcall_go (fn := I5) rfl rfl rfl]
  have hk : E.keep 5 = true := rfl
  have hap := fby.app [.row 0 1 [] 5] 1 5 0 0 0 l.length [] l rfl rfl (by omega) (by omega)
  have hf := fby.finish 0 1 l.length [.row 1 1 (l.map by8) 5] l 5 rfl rfl
  simp only [go_sem, reduceCtorEq, ↓reduceIte, reduceDIte, evI_callP, callPK_some] at hap
  simp only [go_sem, reduceCtorEq, ↓reduceIte, reduceDIte, evI_callP, callPK_some, I5, hk, cells_by8, hap, hf]
end Go.Fw.Wd
