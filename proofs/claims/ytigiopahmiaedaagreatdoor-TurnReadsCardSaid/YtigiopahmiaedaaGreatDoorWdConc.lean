/-
  slices.Concat of rows of bytes. Conditions: stated at each.
-/
import Derived.Test.YtigiopahmiaedaaGreatDoorWdEnv
set_option linter.unusedVariables false
set_option linter.unusedSimpArgs false
namespace Go.Fw.Wd
open Go.Proofs Code_

/-- A row of rows of bytes. -/
abbrev Part := Bool × List UInt8
def encP (p : Part) : AV := .rs p.1 1 (p.2.map by8)
theorem encP_eq (p : Part) : encP p = .rs p.1 1 (p.2.map by8) := rfl
theorem fP : ∀ p : Part, storable (encP p) = true ∧ plainB (encP p) = true ∧ cellsOf (encP p) = [encP p] := fun _ => ⟨rfl, rfl, rfl⟩
def cat (ps : List Part) : List UInt8 := ps.flatMap (·.2)
theorem cat_take_succ (ps : List Part) (i : Nat) (hi : i < ps.length) : cat (ps.take i) ++ (nth ps i).2 = cat (ps.take (i + 1)) := by
  rw [List.take_succ_eq_append_getElem hi, nth_get ps i hi]
  simp only [cat, List.flatMap_append, List.flatMap_cons, List.flatMap_nil, List.append_nil]
theorem cat_take_le (ps : List Part) (i : Nat) : (cat (ps.take i)).length ≤ (cat ps).length := by
  have : cat ps = cat (ps.take i) ++ cat (ps.drop i) := by
    conv => lhs; rw [← List.take_append_drop i ps]
    simp only [cat, List.flatMap_append]
  rw [this, List.length_append]
  omega
/-- Bytes that are handed back alone: memory of the caller's own, if it keeps it. -/
def kone (k : Bool) (t : TypeId) (L : List UInt8) : AV × Heap := if k then (.sl 1 0 0 0 L.length, [.row 0 1 (L.map by8) t]) else (bs false L, [])
theorem kone_f (t : TypeId) (L : List UInt8) : kone false t L = (bs false L, []) := rfl
theorem kone_t (t : TypeId) (L : List UInt8) : kone true t L = (.sl 1 0 0 0 L.length, [.row 0 1 (L.map by8) t]) := rfl

theorem grow_call {E : Env} (hp : E.prim 83 = some growP) (n : Int) (h0 : 0 ≤ n) (h1 : n ≤ 140737488355328) : pcall E 83 [.nils, .int .i64 n] = some (.sl 1 0 0 0 0, [.row 0 1 [] 5]) := by
  rw [pcall_prim hp]
  simp only [growP, h0, h1, and_self, if_true]

theorem concat_call {E : Env} (hp : E.prim 83 = some growP) (hc : E.prim 56 = none) (hf : E.fns 56 = some I56) (g : Bool) (ps : List Part) (h1 : ps.length ≤ 140737488355328) (h2 : (cat ps).length ≤ 140737488355328) :
    pcall E 56 [.rs g 1 (ps.map encP)] = some (kone (E.keep 56) 5 (cat ps)) := by
  rw [pcall_go (fn := I56) hc hf rfl]
  generalize E.keep 56 = kk
  have hrun0 := loop_from (E := E) L56_0_eq ps.length (fun i => ⟨[(0, .rs g 1 (ps.map encP)), (3, .int .i64 ((cat (ps.take i)).length : Nat)), (9, .rs g 1 (ps.map encP)), (10, .int .i64 ps.length), (11, .int .i64 i)], []⟩) rfl (fun i hi => by
    have g1 : (i : Int) < ps.length := by omega
    have e1 := cat_take_succ ps i hi
    have e2 := cat_take_le ps (i + 1)
    rw [← e1] at e2
    rw [← e1]
    simp only [List.length_append] at e2
    have e3 : ¬ ((cat (ps.take i)).length : Int) + ((nth ps i).2.length : Int) < 0 := by omega
    simp (disch := first | omega | (simp only [List.length_cons, List.length_nil, List.length_append, List.length_map, List.length_set]; omega) | rfl | (simp only [List.length_cons, List.length_nil, List.length_append, List.length_map, List.length_set, List.length_replicate, List.all_cons, List.all_nil, List.all_append, storable, plainB, Bool.and_self]; done)) only [go_sem, reduceCtorEq, ↓reduceIte, reduceDIte, evI_callP, callPK_some, B56_0, g1, iaddr_map encP, encP_eq, e3])
  have hrun1 := loop_from (E := E) L56_1_eq ps.length (fun i => ⟨[(6, .sl 1 0 i 0 (cat (ps.take i)).length), (25, .rs g 1 (ps.map encP)), (26, .int .i64 ps.length), (27, .int .i64 i)], [.row i 1 ((cat (ps.take i)).map by8) 5]⟩) rfl (fun i hi => by
    have g1 : (i : Int) < ps.length := by omega
    have e1 := cat_take_succ ps i hi
    have e2 := cat_take_le ps (i + 1)
    rw [← e1] at e2
    rw [← e1]
    simp only [List.length_append] at e2
    simp (disch := first | omega | (simp only [List.length_cons, List.length_nil, List.length_append, List.length_map, List.length_set]; omega) | rfl | (simp only [List.length_cons, List.length_nil, List.length_append, List.length_map, List.length_set, List.length_replicate, List.all_cons, List.all_nil, List.all_append, storable, plainB, Bool.and_self]; done)) only [go_sem, reduceCtorEq, ↓reduceIte, reduceDIte, evI_callP, callPK_some, B56_1, g1, iaddr_map encP, encP_eq])
  have hg := grow_call hp (cat ps).length (by omega) (by omega)
  have e0 : cat (ps.take 0) = [] := rfl
  simp only [e0, List.take_length] at hrun0 hrun1
  simp only [go_sem, reduceCtorEq, ↓reduceIte, reduceDIte, evI_callP, callPK_some] at hrun0 hrun1
  cases kk <;> simp (disch := first | omega | (simp only [List.length_cons, List.length_nil, List.length_append, List.length_map, List.length_set]; omega) | rfl | (simp only [List.length_cons, List.length_nil, List.length_append, List.length_map, List.length_set, List.length_replicate, List.all_cons, List.all_nil, List.all_append, storable, plainB, Bool.and_self]; done)) only [go_sem, reduceCtorEq, ↓reduceIte, reduceDIte, evI_callP, callPK_some, I56, B56_0, B56_1, hrun0, hrun1, hg, Int.lt_irrefl, kone_f, kone_t]
end Go.Fw.Wd
