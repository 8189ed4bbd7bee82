/-
  The laws on what the gateway says itself, at the evaluation, and their ends. Conditions: stated at each.
-/
import Derived.Test.YtigiopahmiaedaaDoorWdAns2
import Derived.Test.YtigiopahmiaedaaDoorWdArgs
set_option linter.unusedVariables false
set_option linter.unusedSimpArgs false
namespace Go.Fw.Wd
open Go.Proofs Code_

theorem s9 : pcall E 9 [] = some (.bool true, []) := pcall_run 200 (by kernel_rfl)
theorem s10 (p : Pk) : pcall E 10 [.agg (pkC p)] = some (.bool (decide ((1500 : Int) < (p.body.length : Int))), []) := by
  rw [pcall_go (fn := I10) rfl rfl rfl]
  have hk : E.keep 10 = false := rfl
  simp only [pkC_eq]
  simp (disch := first | omega | (simp only [List.length_cons, List.length_nil, List.length_append, List.length_map, List.length_set]; omega) | rfl | (simp only [List.length_cons, List.length_nil, List.length_append, List.length_map, List.length_set, List.length_replicate, List.all_cons, List.all_nil, List.all_append, storable, plainB, Bool.and_self]; done)) only [go_sem, reduceCtorEq, ↓reduceIte, reduceDIte, evI_callP, callPK_some, I10, hk]
theorem pkM_len (own to : UInt32) (m : Mg) (h : m.body.length ≤ 1472) : (pkM own to m).body.length ≤ 1480 := by
  show (icB m).length ≤ _
  rw [icB_len]
  omega
theorem erP_len (own : UInt32) (kd cd : UInt8) (p : Pk) : (erP own kd cd p).body.length ≤ 1480 := by
  unfold erP
  split
  · exact pkM_len _ _ _ (by have := mgErr_len kd cd p; omega)
  · show ([] : List UInt8).length ≤ _
    simp
theorem law3 (own : UInt32) (kd cd : UInt8) (p : Pk) : pcall E 3 [.int .u32 (own.toNat : Int), .int .u8 (kd.toNat : Int), .int .u8 (cd.toNat : Int), .agg (pkC p)] = some (.bool true, []) := by
  rw [pcall_go (fn := I3) rfl rfl rfl]
  have hk : E.keep 3 = false := rfl
  have q0 := s10 p
  by_cases h1 : (1500 : Int) < p.body.length
  · rw [decide_eq_true h1] at q0
    simp only [pkC_eq] at q0 ⊢
    simp (disch := first | omega | (simp only [List.length_cons, List.length_nil, List.length_append, List.length_map, List.length_set]; omega) | rfl | (simp only [List.length_cons, List.length_nil, List.length_append, List.length_map, List.length_set, List.length_replicate, List.all_cons, List.all_nil, List.all_append, storable, plainB, Bool.and_self]; done)) only [go_sem, reduceCtorEq, ↓reduceIte, reduceDIte, evI_callP, callPK_some, I3, hk, s9, q0]
  rw [decide_eq_false h1] at q0
  have q1 := fun g => s11 g p.body (by omega)
  have q2 := s12 own kd cd p (by omega)
  have q3 := s13 own kd cd p (by omega)
  have o1 := s14 p (by omega)
  have o2 := s14 (erP own kd cd p) (by have := erP_len own kd cd p; omega)
  have e1 := s15 (erP own kd cd p) (erP own kd cd p)
  rw [decide_eq_true rfl] at e1
  have qq : ∀ g g', pcall E 16 [bs g p.body, bs g' p.body] = some (.bool true, []) := fun g g' => by rw [s16 g g' p.body p.body (by omega), decide_eq_true rfl]
  generalize erP own kd cd p = x at *
  generalize blm p = bl at *
  simp only [pkC_eq] at q0 q2 q3 o1 o2 e1 ⊢
  cases bl <;>
  simp (disch := first | omega | (simp only [List.length_cons, List.length_nil, List.length_append, List.length_map, List.length_set]; omega) | rfl | (simp only [List.length_cons, List.length_nil, List.length_append, List.length_map, List.length_set, List.length_replicate, List.all_cons, List.all_nil, List.all_append, storable, plainB, Bool.and_self]; done)) only [go_sem, reduceCtorEq, ↓reduceIte, reduceDIte, evI_callP, callPK_some, I3, hk, s9, q0, q1, q2, q3, o1, o2, e1, qq, stR_cells]
theorem pkA_arg {x : AV} (h : Arg Tryd.prog 26 x) : ∃ p : Pk, x = .agg (pkC p) := by
  obtain ⟨ys, hl, hy, rfl⟩ := h.struct_inv Tryd.underlying26
  match ys, hl with
  | [y0, y1, y2, y3, y4, y5, y6, y7], _ =>
    obtain ⟨a, rfl⟩ := u8_arg (hy 0 _ y0 rfl rfl)
    obtain ⟨b, rfl⟩ := U16_arg (hy 1 _ y1 rfl rfl)
    obtain ⟨c, rfl⟩ := bool_arg (hy 2 _ y2 rfl rfl)
    obtain ⟨d, rfl⟩ := u8_arg (hy 3 _ y3 rfl rfl)
    obtain ⟨e, rfl⟩ := u8_arg (hy 4 _ y4 rfl rfl)
    obtain ⟨f, rfl⟩ := U32_arg (hy 5 _ y5 rfl rfl)
    obtain ⟨g, rfl⟩ := U32_arg (hy 6 _ y6 rfl rfl)
    obtain ⟨l, rfl, _⟩ := bytes_arg (hy 7 _ y7 rfl rfl)
    exact ⟨⟨a, b, c, d, e, f, g, l⟩, rfl⟩
theorem end3 (xs : List AV) (hl : xs.length = [22, 5, 5, 26].length) (h : ∀ (j : Nat) t x, ([22, 5, 5, 26] : List TypeId)[j]? = some t → xs[j]? = some x → Arg Tryd.prog t x) : pcall E 3 xs = some (.bool true, []) := by
  match xs, hl with
  | [x0, x1, x2, x3], _ =>
    obtain ⟨v0, rfl⟩ := U32_arg (h 0 _ x0 rfl rfl)
    obtain ⟨v1, rfl⟩ := u8_arg (h 1 _ x1 rfl rfl)
    obtain ⟨v2, rfl⟩ := u8_arg (h 2 _ x2 rfl rfl)
    obtain ⟨v3, rfl⟩ := pkA_arg (h 3 _ x3 rfl rfl)
    exact law3 v0 v1 v2 v3
end Go.Fw.Wd
