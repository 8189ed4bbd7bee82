/-
  Options: their rows, and what taking one off bytes answers. Conditions: stated at each.
-/
import Derived.Test.YtkekjbpalkoeeaaWdRow
set_option linter.unusedVariables false
set_option linter.unusedSimpArgs false
namespace Go.Fw.Wd
open Go.Proofs Code_

/-- An option: its code, its data. -/
abbrev Opt := UInt8 × List UInt8
def encO (o : Opt) : List AV := [.int .u8 (o.1.toNat : Int), bs false o.2]
theorem encO_eq (o : Opt) : encO o = [.int .u8 (o.1.toNat : Int), bs false o.2] := rfl
theorem encO_mk (c : UInt8) (d : List UInt8) : encO (c, d) = [.int .u8 (c.toNat : Int), bs false d] := rfl
theorem fopt : FlatN 2 encO := ⟨fun _ => rfl, fun _ => rfl, fun _ => rfl, fun o => by simp [encO, noG.noGL, noG, noGL_by8], by omega⟩
abbrev opts (g : Bool) (l : List Opt) : AV := recs g 2 encO l
theorem onoG (l : List Opt) : noG.noGL (l.map fun a => AV.agg (encO a)) = true := fopt.noGL l
abbrev rowO (ver : Nat) (l : List Opt) (t : TypeId) : AObj := .row ver 2 (rcs encO l) t

/-- The option at the beginning of bytes, and what is behind it. -/
def takeO : List UInt8 → Option (Opt × List UInt8)
  | c :: n :: r => if n.toNat ≤ r.length then some ((c, r.take n.toNat), r.drop n.toNat) else none
  | _ => none

def takeV (g : Bool) : Option (Opt × List UInt8) → AV
  | some (o, r) => .tup [.agg (encO o), bs g r, .int .i64 0]
  | none => .tup [.agg [.int .u8 0, bs false []], bs false [], .int .i64 12]

theorem s64_1 : S64 1 := by constructor <;> omega
theorem s64_0 : S64 0 := by constructor <;> omega
theorem takeO_short {l : List UInt8} (h : l.length < 2) : takeO l = none := by
  match l, h with
  | [], _ => rfl
  | [c], _ => rfl
  | c :: n :: r, h => simp at h; omega
theorem takeO_long (c n : UInt8) (r : List UInt8) : takeO (c :: n :: r) = if n.toNat ≤ r.length then some ((c, r.take n.toNat), r.drop n.toNat) else none := rfl
theorem s78 (g : Bool) (l : List UInt8) (hl : l.length ≤ 140737488355328) : pcall E 78 [bs g l] = some (takeV g (takeO l), []) := by
  rw [pcall_go (fn := I78) rfl rfl rfl]
  have hk : E.keep 78 = false := rfl
  have q1 := fun g => s82 g l hl 1 1 s64_1
  by_cases h2 : l.length < 2
  · have e1 : atE l 1 1 = 12 := by
      simp only [atE, spanE]
      rw [if_pos (by omega), if_neg (by omega)]
      split
      · rfl
      · rw [if_pos (by omega)]
    rw [e1] at q1
    rw [takeO_short h2]
    simp (disch := first | omega | (simp only [List.length_cons, List.length_nil, List.length_append, List.length_map, List.length_set]; omega) | rfl | (simp only [List.length_cons, List.length_nil, List.length_append, List.length_map, List.length_set, List.length_replicate, List.all_cons, List.all_nil, List.all_append, storable, plainB, Bool.and_self]; done)) only [go_sem, reduceCtorEq, ↓reduceIte, Nat.reduceEqDiff, Nat.reduceAdd, Nat.reduceSub, Nat.reduceMul, Nat.reduceLeDiff, Nat.reduceLT, Nat.reduceBEq, Nat.reduceBNe, Int.reduceAdd, Int.reduceSub, Int.reduceMul, Int.reduceNeg, Int.reduceEq, Int.reduceNe, Int.reduceLT, Int.reduceLE, Int.reduceToNat, reduceDIte, Nat.reduceSucc, evI_callP, callPK_some, I78, hk, q1, takeV]
  · obtain ⟨c, n, r, hx⟩ : ∃ c n r, l = c :: n :: r := by
      match l, h2 with
      | [], h => simp at h
      | [c], h => simp at h
      | c :: n :: r, _ => exact ⟨c, n, r, rfl⟩
    have hlen : l.length = r.length + 2 := by rw [hx]; rfl
    have e1 : atE l 1 1 = 0 := by
      simp only [atE, spanE]
      rw [if_pos (by omega), if_neg (by omega), if_neg (by omega), if_neg (by omega)]
    have e2 : atN l 1 1 = n.toNat := by
      simp only [atE] at e1
      rw [if_pos (by omega)] at e1
      simp only [atN, e1]
      rw [hx]
      simp [num]
    rw [e1, e2] at q1
    have hn := n.toNat_lt
    have n0 : nth l 0 = c := by rw [hx]; rfl
    have n1 : takeO l = if n.toNat ≤ r.length then some ((c, r.take n.toNat), r.drop n.toNat) else none := by rw [hx]; exact takeO_long c n r
    have q2 := fun g => s125 g l hl 2 (2 + n.toNat)
    by_cases h : n.toNat ≤ r.length
    · have e3 : cutE l 2 (2 + n.toNat) = 0 := by
        simp only [cutE]
        rw [if_neg (by omega), if_neg (by omega)]
      have e4 : cutB l 2 (2 + n.toNat) = r.take n.toNat := by
        simp only [cutB]
        rw [if_neg (by omega)]
        rw [show ((2 : Int) + (n.toNat : Int)).toNat = 2 + n.toNat by omega, hx]
        simp
      have e5 : l.drop ((2 : Int) + (n.toNat : Int)).toNat = r.drop n.toNat := by
        rw [show ((2 : Int) + (n.toNat : Int)).toNat = n.toNat + 2 by omega, hx]
        rfl
      rw [e3, e4] at q2
      rw [n1, if_pos h]
      clear hx
      simp (disch := first | omega | (simp only [List.length_cons, List.length_nil, List.length_append, List.length_map, List.length_set]; omega) | rfl | (simp only [List.length_cons, List.length_nil, List.length_append, List.length_map, List.length_set, List.length_replicate, List.all_cons, List.all_nil, List.all_append, storable, plainB, Bool.and_self]; done)) only [go_sem, reduceCtorEq, ↓reduceIte, Nat.reduceEqDiff, Nat.reduceAdd, Nat.reduceSub, Nat.reduceMul, Nat.reduceLeDiff, Nat.reduceLT, Nat.reduceBEq, Nat.reduceBNe, Int.reduceAdd, Int.reduceSub, Int.reduceMul, Int.reduceNeg, Int.reduceEq, Int.reduceNe, Int.reduceLT, Int.reduceLE, Int.reduceToNat, reduceDIte, Nat.reduceSucc, evI_callP, callPK_some, I78, hk, q1, q2, wbi, encO_mk, takeV, n0, e5]
    · have e3 : cutE l 2 (2 + n.toNat) = 12 := by
        simp only [cutE]
        rw [if_neg (by omega), if_pos (by omega)]
      rw [e3] at q2
      rw [n1, if_neg h]
      clear hx
      simp (disch := first | omega | (simp only [List.length_cons, List.length_nil, List.length_append, List.length_map, List.length_set]; omega) | rfl | (simp only [List.length_cons, List.length_nil, List.length_append, List.length_map, List.length_set, List.length_replicate, List.all_cons, List.all_nil, List.all_append, storable, plainB, Bool.and_self]; done)) only [go_sem, reduceCtorEq, ↓reduceIte, Nat.reduceEqDiff, Nat.reduceAdd, Nat.reduceSub, Nat.reduceMul, Nat.reduceLeDiff, Nat.reduceLT, Nat.reduceBEq, Nat.reduceBNe, Int.reduceAdd, Int.reduceSub, Int.reduceMul, Int.reduceNeg, Int.reduceEq, Int.reduceNe, Int.reduceLT, Int.reduceLE, Int.reduceToNat, reduceDIte, Nat.reduceSucc, evI_callP, callPK_some, I78, hk, q1, q2, wbi, takeV]
end Go.Fw.Wd
