/-
  What Patch, Lay and Row answer, the program's and the document's. Conditions: stated at each.
-/
import Derived.Test.YtmmfimpphhebfaaWdCut
set_option linter.unusedVariables false
set_option linter.unusedSimpArgs false
namespace Go.Fw.Wd
open Go.Proofs Code_

/-- Bytes laid over others. -/
def over (l : List UInt8) (a : Nat) (p : List UInt8) : List UInt8 := l.take a ++ p ++ l.drop (a + p.length)
theorem over_len (l : List UInt8) (a : Nat) (p : List UInt8) (h : a + p.length ≤ l.length) : (over l a p).length = l.length := by simp [over]; omega
def patB (l : List UInt8) (at_ : Int) (p : List UInt8) : List UInt8 := if spanE l.length at_ p.length = 0 then over l at_.toNat p else []
def patE (l : List UInt8) (at_ : Int) (p : List UInt8) : Int := spanE l.length at_ p.length

theorem s30 (g g' : Bool) (l p : List UInt8) (hl : l.length ≤ 140737488355328) (hp : p.length ≤ 140737488355328) (at_ : Int) (h2 : S64 at_) : pcall E 30 [bs g l, .int .i64 at_, bs g' p] = some (kres (E.keep 30) (decide (patE l at_ p = 0)) 5 (patB l at_ p) (.int .i64 (patE l at_ p))) := by
  rw [pcall_go (fn := I30) rfl rfl rfl]
  generalize E.keep 30 = kk
  have h46 := s26 l.length at_ p.length (by omega) (by omega) h2
  have h47 := s16 g l hl
  unfold patB patE
  by_cases b : spanE l.length at_ p.length = 0
  · rw [b] at h46
    obtain ⟨c1, c2, c3⟩ := span0 b
    have hsl := sliceK_sl [rowB 0 l 5] 1 0 0 0 l.length (some (.int .i64 at_)) none at_ l.length rfl rfl c1 c2 (by omega) rfl
    have hol := over_len l at_.toNat p (by omega)
    have hcp := cpR_by8 [.row 0 1 (l.map by8) 5] 0 0 at_.toNat (l.length - at_.toNat) p.length l p 5 (by omega) rfl (by omega)
    rw [show List.take at_.toNat l ++ p ++ List.drop (at_.toNat + p.length) l = over l at_.toNat p from rfl] at hcp
    simp only [go_sem, reduceCtorEq, ↓reduceIte, Nat.reduceEqDiff, Nat.reduceAdd, Nat.reduceSub, Nat.reduceMul, Nat.reduceLeDiff, Nat.reduceLT, Nat.reduceBEq, Nat.reduceBNe, Int.reduceAdd, Int.reduceSub, Int.reduceMul, Int.reduceNeg, Int.reduceEq, Int.reduceNe, Int.reduceLT, Int.reduceLE, Int.reduceToNat, reduceDIte, Nat.reduceSucc, evI_callP, callPK_some] at hsl hcp
    cases kk <;> simp (disch := first | omega | (simp only [List.length_cons, List.length_nil, List.length_append, List.length_map, List.length_set]; omega) | rfl | (simp only [List.length_cons, List.length_nil, List.length_append, List.length_map, List.length_set, List.length_replicate, List.all_cons, List.all_nil, List.all_append, storable, plainB, Bool.and_self]; done)) only [go_sem, reduceCtorEq, ↓reduceIte, Nat.reduceEqDiff, Nat.reduceAdd, Nat.reduceSub, Nat.reduceMul, Nat.reduceLeDiff, Nat.reduceLT, Nat.reduceBEq, Nat.reduceBNe, Int.reduceAdd, Int.reduceSub, Int.reduceMul, Int.reduceNeg, Int.reduceEq, Int.reduceNe, Int.reduceLT, Int.reduceLE, Int.reduceToNat, reduceDIte, Nat.reduceSucc, evI_callP, callPK_some, I30, h46, h47, hsl, hcp, b, hol]
  · cases kk <;> simp (disch := first | omega | (simp only [List.length_cons, List.length_nil, List.length_append, List.length_map, List.length_set]; omega) | rfl | (simp only [List.length_cons, List.length_nil, List.length_append, List.length_map, List.length_set, List.length_replicate, List.all_cons, List.all_nil, List.all_append, storable, plainB, Bool.and_self]; done)) only [go_sem, reduceCtorEq, ↓reduceIte, Nat.reduceEqDiff, Nat.reduceAdd, Nat.reduceSub, Nat.reduceMul, Nat.reduceLeDiff, Nat.reduceLT, Nat.reduceBEq, Nat.reduceBNe, Int.reduceAdd, Int.reduceSub, Int.reduceMul, Int.reduceNeg, Int.reduceEq, Int.reduceNe, Int.reduceLT, Int.reduceLE, Int.reduceToNat, reduceDIte, Nat.reduceSucc, evI_callP, callPK_some, I30, h46, b]

theorem over_step (l : List UInt8) (a : Nat) (p : List UInt8) (i : Nat) (hi : i < p.length) (ha : a + p.length ≤ l.length) : (over l a (p.take i)).set (a + i) (nth p i) = over l a (p.take (i + 1)) := by
  have h1 : (p.take i).length = i := by rw [List.length_take]; omega
  have h2 : (p.take (i + 1)).length = i + 1 := by rw [List.length_take]; omega
  have h3 : (l.take a).length = a := by rw [List.length_take]; omega
  unfold over
  rw [nth_get p i hi, h1, h2, List.append_assoc, List.append_assoc, List.set_append_right _ _ (by rw [h3]; omega), h3, Nat.add_sub_cancel_left, List.set_append_right _ _ (by rw [h1]; omega), h1, Nat.sub_self]
  rw [List.drop_eq_getElem_cons (show a + i < l.length by omega), List.set_cons_zero, List.take_succ_eq_append_getElem hi, List.append_assoc]
  rfl

/-- What Lay answers. -/
def layB (l : List UInt8) (at_ size : Int) (v : Nat) : List UInt8 := if numbE v size = 0 then patB l at_ (numbB v size) else []
def layE (l : List UInt8) (at_ size : Int) (v : Nat) : Int := if numbE v size = 0 then patE l at_ (numbB v size) else 11
theorem numbB_len (v : Nat) (size : Int) : (numbB v size).length ≤ 8 := by
  unfold numbB
  split
  · rw [encb_length]; omega
  · simp
theorem numbE_ne {v : Nat} {size : Int} (h : ¬ numbE v size = 0) : numbE v size = 11 := by
  unfold numbE at h ⊢
  split
  · rename_i h1; exact absurd (if_pos h1) h
  · rfl

theorem s21 (g : Bool) (l : List UInt8) (hl : l.length ≤ 140737488355328) (at_ size : Int) (h2 : S64 at_) (v : Nat) (hv : v < 18446744073709551616) : pcall E 21 [bs g l, .int .i64 at_, .int .i64 size, .int .u64 v] = some (kres (E.keep 21) (decide (layE l at_ size v = 0)) 5 (layB l at_ size v) (.int .i64 (layE l at_ size v))) := by
  rw [pcall_go (fn := I21) rfl rfl rfl]
  have hk : E.keep 21 = true → E.keep 30 = true := by decide
  have h48 := s28 v hv size
  unfold layB layE
  by_cases a : numbE v size = 0
  · have h39 := fun g g' => s30 g g' l (numbB v size) hl (by have := numbB_len v size; omega) at_ h2
    by_cases c : patE l at_ (numbB v size) = 0
    · revert h39 hk
      generalize E.keep 21 = k1
      generalize E.keep 30 = k2
      intro hk h39
      cases k1
      · cases k2 <;> (simp only [go_sem, reduceCtorEq, ↓reduceIte, Nat.reduceEqDiff, Nat.reduceAdd, Nat.reduceSub, Nat.reduceMul, Nat.reduceLeDiff, Nat.reduceLT, Nat.reduceBEq, Nat.reduceBNe, Int.reduceAdd, Int.reduceSub, Int.reduceMul, Int.reduceNeg, Int.reduceEq, Int.reduceNe, Int.reduceLT, Int.reduceLE, Int.reduceToNat, reduceDIte, Nat.reduceSucc, evI_callP, callPK_some, c] at h39; simp only [go_sem, reduceCtorEq, ↓reduceIte, Nat.reduceEqDiff, Nat.reduceAdd, Nat.reduceSub, Nat.reduceMul, Nat.reduceLeDiff, Nat.reduceLT, Nat.reduceBEq, Nat.reduceBNe, Int.reduceAdd, Int.reduceSub, Int.reduceMul, Int.reduceNeg, Int.reduceEq, Int.reduceNe, Int.reduceLT, Int.reduceLE, Int.reduceToNat, reduceDIte, Nat.reduceSucc, evI_callP, callPK_some, I21, h48, a, h39, c])
      · have : k2 = true := hk rfl
        subst this
        simp only [go_sem, reduceCtorEq, ↓reduceIte, Nat.reduceEqDiff, Nat.reduceAdd, Nat.reduceSub, Nat.reduceMul, Nat.reduceLeDiff, Nat.reduceLT, Nat.reduceBEq, Nat.reduceBNe, Int.reduceAdd, Int.reduceSub, Int.reduceMul, Int.reduceNeg, Int.reduceEq, Int.reduceNe, Int.reduceLT, Int.reduceLE, Int.reduceToNat, reduceDIte, Nat.reduceSucc, evI_callP, callPK_some, c] at h39
        simp only [go_sem, reduceCtorEq, ↓reduceIte, Nat.reduceEqDiff, Nat.reduceAdd, Nat.reduceSub, Nat.reduceMul, Nat.reduceLeDiff, Nat.reduceLT, Nat.reduceBEq, Nat.reduceBNe, Int.reduceAdd, Int.reduceSub, Int.reduceMul, Int.reduceNeg, Int.reduceEq, Int.reduceNe, Int.reduceLT, Int.reduceLE, Int.reduceToNat, reduceDIte, Nat.reduceSucc, evI_callP, callPK_some, I21, h48, a, h39, c]
    · simp only [go_sem, reduceCtorEq, ↓reduceIte, Nat.reduceEqDiff, Nat.reduceAdd, Nat.reduceSub, Nat.reduceMul, Nat.reduceLeDiff, Nat.reduceLT, Nat.reduceBEq, Nat.reduceBNe, Int.reduceAdd, Int.reduceSub, Int.reduceMul, Int.reduceNeg, Int.reduceEq, Int.reduceNe, Int.reduceLT, Int.reduceLE, Int.reduceToNat, reduceDIte, Nat.reduceSucc, evI_callP, callPK_some, c] at h39
      generalize E.keep 21 = k1
      have hp : patB l at_ (numbB v size) = [] := if_neg c
      cases k1 <;> simp only [go_sem, reduceCtorEq, ↓reduceIte, Nat.reduceEqDiff, Nat.reduceAdd, Nat.reduceSub, Nat.reduceMul, Nat.reduceLeDiff, Nat.reduceLT, Nat.reduceBEq, Nat.reduceBNe, Int.reduceAdd, Int.reduceSub, Int.reduceMul, Int.reduceNeg, Int.reduceEq, Int.reduceNe, Int.reduceLT, Int.reduceLE, Int.reduceToNat, reduceDIte, Nat.reduceSucc, evI_callP, callPK_some, I21, h48, a, h39, c]
  · have a' := numbE_ne a
    generalize E.keep 21 = k1
    cases k1 <;> simp only [go_sem, reduceCtorEq, ↓reduceIte, Nat.reduceEqDiff, Nat.reduceAdd, Nat.reduceSub, Nat.reduceMul, Nat.reduceLeDiff, Nat.reduceLT, Nat.reduceBEq, Nat.reduceBNe, Int.reduceAdd, Int.reduceSub, Int.reduceMul, Int.reduceNeg, Int.reduceEq, Int.reduceNe, Int.reduceLT, Int.reduceLE, Int.reduceToNat, reduceDIte, Nat.reduceSucc, evI_callP, callPK_some, I21, h48, a, a']
end Go.Fw.Wd
