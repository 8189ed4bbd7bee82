/-
  What Find, Number, Same, Ip, One, Bytes answer of options, the program's and the document's. Conditions: stated at each.
-/
import Derived.Test.YtefkoichicalfaaWdParse2
set_option linter.unusedVariables false
set_option linter.unusedSimpArgs false
namespace Go.Fw.Wd
open Go.Proofs Code_

theorem olen (l : List Opt) : (l.map fun a => AV.agg (encO a)).length = l.length := List.length_map _
def findO : List Opt → UInt8 → Option (List UInt8)
  | [], _ => none
  | o :: l, c => if o.1 = c then some o.2 else findO l c
def findV : Option (List UInt8) → AV
  | some d => .tup [bs false d, .bool true]
  | none => .tup [bs false [], .bool false]
/-- Where the first option with a code stands. -/
def idxO : List Opt → UInt8 → Nat → Int
  | [], _, _ => -1
  | o :: l, c, i => if o.1 = c then i else idxO l c (i + 1)
theorem idxO_spec (c : UInt8) : ∀ (l : List Opt) (i : Nat), (idxO l c i = -1 ∧ findO l c = none) ∨ ∃ k, k < l.length ∧ idxO l c i = ((i + k : Nat) : Int) ∧ findO l c = some (nth l k).2
  | [], i => .inl ⟨rfl, rfl⟩
  | o :: l, i => by
    by_cases h : o.1 = c
    · exact .inr ⟨0, by simp, by simp [idxO, h], by simp [findO, h, nth]⟩
    · rcases idxO_spec c l (i + 1) with ⟨h1, h2⟩ | ⟨k, h1, h2, h3⟩
      · exact .inl ⟨by simp [idxO, h, h1], by simp [findO, h, h2]⟩
      · refine .inr ⟨k + 1, by simp; omega, ?_, by simp [findO, h, h3, nth]⟩
        simp only [idxO, h, if_false, h2]
        congr 1
        omega
theorem s53 (g : Bool) (o : Opt) (c : UInt8) : pcall E 53 [.agg (encO o), .rp g (.int .u8 (c.toNat : Int))] = some (.bool (decide (o.1 = c)), []) := by
  rw [pcall_go (fn := I53) rfl rfl rfl]
  have hk : E.keep 53 = false := rfl
  have e := nu8 o.1 c
  simp (disch := first | omega | (simp only [List.length_cons, List.length_nil, List.length_append, List.length_map, List.length_set]; omega) | rfl | (simp only [List.length_cons, List.length_nil, List.length_append, List.length_map, List.length_set, List.length_replicate, List.all_cons, List.all_nil, List.all_append, storable, plainB, Bool.and_self]; done)) only [go_sem, reduceCtorEq, ↓reduceIte, reduceDIte, evI_callP, callPK_some, I53, hk, encO_eq, e]

theorem idx_loop (g : Bool) (l : List Opt) (c : UInt8) (hl : l.length ≤ 1048576) : ∀ (n i : Nat), i + n = l.length → (T52_0 E (lp E L52_0 [(0, opts g l), (1, .fn 53 [.rp true (.int .u8 (c.toNat : Int))]), (7, .int .i64 l.length), (8, .int .i64 i)] [])) = some (.int .i64 (idxO (l.drop i) c i), [])
  | 0, i, hi => by
    have e : l.drop i = [] := List.drop_of_length_le (by omega)
    have g1 : ¬ (i : Int) < l.length := by omega
    rw [e, L52_0_go]
    simp (disch := first | omega | (simp only [List.length_cons, List.length_nil, List.length_append, List.length_map, List.length_set]; omega) | rfl | (simp only [List.length_cons, List.length_nil, List.length_append, List.length_map, List.length_set, List.length_replicate, List.all_cons, List.all_nil, List.all_append, storable, plainB, Bool.and_self]; done)) only [go_sem, reduceCtorEq, ↓reduceIte, reduceDIte, evI_callP, callPK_some, B52_0, T52_0, g1, idxO]
  | n + 1, i, hi => by
    have g1 : (i : Int) < l.length := by omega
    have hd := drop_nth l i (by omega)
    have q := s53 true (nth l i) c
    have ia := fun h => fopt.iaddr h g l .i64 (i : Int) (by omega) (by omega)
    have ih := idx_loop g l c hl n (i + 1) (by omega)
    rw [hd, idxO, L52_0_go]
    simp only [Int.toNat_natCast, encO_eq] at ia q
    by_cases h : (nth l i).1 = c
    · rw [decide_eq_true h] at q
      rw [if_pos h]
      simp (disch := first | omega | (simp only [List.length_cons, List.length_nil, List.length_append, List.length_map, List.length_set]; omega) | rfl | (simp only [List.length_cons, List.length_nil, List.length_append, List.length_map, List.length_set, List.length_replicate, List.all_cons, List.all_nil, List.all_append, storable, plainB, Bool.and_self]; done)) only [go_sem, reduceCtorEq, ↓reduceIte, reduceDIte, evI_callP, callPK_some, B52_0, T52_0, g1, ia, q]
    · rw [decide_eq_false h] at q
      rw [if_neg h, ← ih]
      simp (disch := first | omega | (simp only [List.length_cons, List.length_nil, List.length_append, List.length_map, List.length_set]; omega) | rfl | (simp only [List.length_cons, List.length_nil, List.length_append, List.length_map, List.length_set, List.length_replicate, List.all_cons, List.all_nil, List.all_append, storable, plainB, Bool.and_self]; done)) only [go_sem, reduceCtorEq, ↓reduceIte, reduceDIte, evI_callP, callPK_some, B52_0, L52_0_lp, g1, ia, q]
theorem s52 (g : Bool) (l : List Opt) (c : UInt8) (hl : l.length ≤ 1048576) : pcall E 52 [opts g l, .fn 53 [.rp true (.int .u8 (c.toNat : Int))]] = some (.int .i64 (idxO l c 0), []) := by
  rw [pcall_go (fn := I52) rfl rfl rfl]
  have hk : E.keep 52 = false := rfl
  have ih := idx_loop g l c hl l.length 0 (by omega)
  rw [List.drop_zero] at ih
  have key : (T52_0 E (lp E L52_0 [(0, opts g l), (1, .fn 53 [.rp true (.int .u8 (c.toNat : Int))]), (7, .int .i64 l.length), (8, .int .i64 0)] [])).bind (finish false) = some (.int .i64 (idxO l c 0), []) := by
    rw [show T52_0 E (lp E L52_0 [(0, opts g l), (1, .fn 53 [.rp true (.int .u8 (c.toNat : Int))]), (7, .int .i64 l.length), (8, .int .i64 0)] []) = _ from ih]
    simp only [go_sem, reduceCtorEq, ↓reduceIte, reduceDIte, evI_callP, callPK_some]
  rw [← key]
  simp (disch := first | omega | (simp only [List.length_cons, List.length_nil, List.length_append, List.length_map, List.length_set]; omega) | rfl | (simp only [List.length_cons, List.length_nil, List.length_append, List.length_map, List.length_set, List.length_replicate, List.all_cons, List.all_nil, List.all_append, storable, plainB, Bool.and_self]; done)) only [go_sem, reduceCtorEq, ↓reduceIte, reduceDIte, evI_callP, callPK_some, I52, hk, L52_0_lp]
  rfl
def small (l : List Opt) : Prop := l.length ≤ 1048576 ∧ ∀ o ∈ l, o.2.length ≤ 1048576
theorem nth_mem {α : Type} [Inhabited α] {l : List α} {i : Nat} (h : i < l.length) : nth l i ∈ l := by rw [nth_get l i h]; exact List.getElem_mem h
theorem s30 (g : Bool) (l : List Opt) (c : UInt8) (hl : small l) : pcall E 30 [opts g l, .int .u8 (c.toNat : Int)] = some (findV (findO l c), []) := by
  rw [pcall_go (fn := I30) rfl rfl rfl]
  have hk : E.keep 30 = false := rfl
  have q := fun g => s52 g l c hl.1
  rcases idxO_spec c l 0 with ⟨h1, h2⟩ | ⟨k, h1, h2, h3⟩
  · rw [h1] at q
    rw [h2]
    simp (disch := first | omega | (simp only [List.length_cons, List.length_nil, List.length_append, List.length_map, List.length_set]; omega) | rfl | (simp only [List.length_cons, List.length_nil, List.length_append, List.length_map, List.length_set, List.length_replicate, List.all_cons, List.all_nil, List.all_append, storable, plainB, Bool.and_self]; done)) only [go_sem, reduceCtorEq, ↓reduceIte, reduceDIte, evI_callP, callPK_some, I30, hk, q, findV]
  · rw [h2] at q
    rw [h3]
    have ia := fun h => fopt.iaddr h g l .i64 ((k : Nat) : Int) (by omega) (by omega)
    have q2 := fun g => s54 g (nth l k).2 (by have := hl.2 _ (nth_mem h1); omega)
    have g1 : ¬ (k : Int) < 0 := by omega
    simp only [Nat.zero_add, Int.toNat_natCast, encO_eq] at ia q
    simp (disch := first | omega | (simp only [List.length_cons, List.length_nil, List.length_append, List.length_map, List.length_set]; omega) | rfl | (simp only [List.length_cons, List.length_nil, List.length_append, List.length_map, List.length_set, List.length_replicate, List.all_cons, List.all_nil, List.all_append, storable, plainB, Bool.and_self]; done)) only [go_sem, reduceCtorEq, ↓reduceIte, reduceDIte, evI_callP, callPK_some, I30, hk, q, findV, ia, q2, g1]

end Go.Fw.Wd
