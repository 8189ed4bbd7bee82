/-
  What Patch, Lay and Row answer, the program's and the document's. Conditions: stated at each.
-/
import Derived.Test.YtgaababjgcfokaaWdCut
set_option linter.unusedVariables false
set_option linter.unusedSimpArgs false
namespace Go.Fw.Wd
open Go.Proofs Code_

theorem s49 (v : Nat) (hv : v < 18446744073709551616) (k : Nat) (h1 : 1 ≤ k) (h2 : k ≤ 8) : pcall E 49 [.int .u64 v, .int .i64 k] = some (.tup [bs false (encb k v), .bool (decide (v < 256 ^ k))], []) := by
  rw [pcall_go (fn := I49) rfl rfl rfl]
  have hk : E.keep 49 = false := rfl
  have hm := mkSlK_int [] 1 1 5 [.int .u8 0] .i64 k (by omega) (by omega) (by omega)
  have hz : (List.replicate (k : Int).toNat [AV.int IntKind.u8 0]).flatten = (List.replicate k (0 : UInt8)).map by8 := by simp [by8]
  rw [hz] at hm
  simp only [List.length_nil, List.nil_append, Int.toNat_natCast] at hm
  -- behind i rounds the last i bytes stand
  have hrow : ∀ i, i ≤ k → ((List.replicate (k - i) (0 : UInt8)) ++ encb i v).length = k := fun i hi => by simp [encb_length]; omega
  have hrun := loop_from (E := E) L49_0_eq k (fun i => ⟨[(0, .int .u64 ((v / 256 ^ i : Nat) : Int)), (6, .sl 1 0 0 0 k), (7, .int .i64 ((k : Int) - 1 - i))], [.row 0 1 (((List.replicate (k - i) (0 : UInt8)) ++ encb i v).map by8) 5]⟩) rfl (fun i hi => by
    have h3 : (0 : Int) ≤ (k : Int) - 1 - i := by omega
    have h4 : (k : Int) - 1 - i < k := by omega
    have hia := iaddrK_sl [.row 0 1 (((List.replicate (k - i) (0 : UInt8)) ++ encb i v).map by8) 5] 1 0 0 0 k .i64 ((k : Int) - 1 - i) h3 h4 rfl
    rw [show 0 + ((k : Int) - 1 - i).toNat * 1 = k - 1 - i by omega] at hia
    have hst := stR_by8 [.row 0 1 (((List.replicate (k - i) (0 : UInt8)) ++ encb i v).map by8) 5] 0 0 (k - 1 - i) ((List.replicate (k - i) (0 : UInt8)) ++ encb i v) (UInt8.ofNat (v / 256 ^ i)) 5 (by rw [hrow i (by omega)]; omega)
    have hset : ((List.replicate (k - i) (0 : UInt8)) ++ encb i v).set (k - 1 - i) (UInt8.ofNat (v / 256 ^ i)) = List.replicate (k - (i + 1)) 0 ++ encb (i + 1) v := by
      rw [show k - i = (k - 1 - i) + 1 by omega, show k - (i + 1) = k - 1 - i by omega, List.replicate_succ', List.append_assoc, List.set_append_right _ _ (by simp)]
      simp [encb]
    rw [hset] at hst
    have hdiv : v / 256 ^ (i + 1) = v / 256 ^ i / 256 := by rw [Nat.pow_succ, Nat.div_div_eq_div_mul]
    rw [hdiv]
    have hqv : v / 256 ^ i ≤ v := Nat.div_le_self _ _
    generalize v / 256 ^ i = q at hst hqv
    have hm : IntKind.u8.wrap ((q : Int).tmod 256) = ((UInt8.ofNat q).toNat : Int) := by
      rw [← wrapU8 q, Int.tmod_eq_emod_of_nonneg (by omega)]
      simp [IntKind.wrap, IntKind.signed, IntKind.bits]
    have hq : (q : Int).tdiv 256 = ((q / 256 : Nat) : Int) := by rw [Int.tdiv_eq_ediv_of_nonneg (by omega)]; omega
    have e9 : (k : Int) - 1 - i - 1 = (k : Int) - 1 - (i + 1) := by omega
    simp only [go_sem, reduceCtorEq, ↓reduceIte, Nat.reduceEqDiff, Nat.reduceAdd, Nat.reduceSub, Nat.reduceMul, Nat.reduceLeDiff, Nat.reduceLT, Nat.reduceBEq, Nat.reduceBNe, Int.reduceAdd, Int.reduceSub, Int.reduceMul, Int.reduceNeg, Int.reduceEq, Int.reduceNe, Int.reduceLT, Int.reduceLE, Int.reduceToNat, reduceDIte, Nat.reduceSucc] at hst hia
    simp (disch := first | omega | (simp only [List.length_cons, List.length_nil, List.length_append, List.length_map, List.length_set]; omega) | rfl) only [go_sem, reduceCtorEq, ↓reduceIte, Nat.reduceEqDiff, Nat.reduceAdd, Nat.reduceSub, Nat.reduceMul, Nat.reduceLeDiff, Nat.reduceLT, Nat.reduceBEq, Nat.reduceBNe, Int.reduceAdd, Int.reduceSub, Int.reduceMul, Int.reduceNeg, Int.reduceEq, Int.reduceNe, Int.reduceLT, Int.reduceLE, Int.reduceToNat, reduceDIte, Nat.reduceSucc, B49_0, h3, hia, hm, hst, hq, e9])
  have hq : (v / 256 ^ k = 0) ↔ v < 256 ^ k := Nat.div_eq_zero_iff_lt (Nat.pow_pos (by omega))
  have hd : decide (((v / 256 ^ k : Nat) : Int) = 0) = decide (v < 256 ^ k) := decide_eq_decide.2 (by rw [← hq]; omega)
  have ek : ¬ (0 : Int) ≤ (k : Int) - 1 - (k : Int) := by omega
  have el : (encb k v).length = k := encb_length k v
  have e0 : (k : Int) - 1 - ((0 : Nat) : Int) = (k : Int) - 1 := by omega
  simp only [Nat.sub_self, List.replicate_zero, List.nil_append, encb, List.append_nil, Nat.sub_zero, Nat.pow_zero, Nat.div_one, e0] at hrun
  try simp only [go_sem, reduceCtorEq, ↓reduceIte, Nat.reduceEqDiff, Nat.reduceAdd, Nat.reduceSub, Nat.reduceMul, Nat.reduceLeDiff, Nat.reduceLT, Nat.reduceBEq, Nat.reduceBNe, Int.reduceAdd, Int.reduceSub, Int.reduceMul, Int.reduceNeg, Int.reduceEq, Int.reduceNe, Int.reduceLT, Int.reduceLE, Int.reduceToNat, reduceDIte, Nat.reduceSucc] at hrun
  generalize v / 256 ^ k = z at hrun hd
  simp (disch := first | omega | (simp only [List.length_cons, List.length_nil, List.length_append, List.length_map, List.length_set]; omega) | rfl) only [go_sem, reduceCtorEq, ↓reduceIte, Nat.reduceEqDiff, Nat.reduceAdd, Nat.reduceSub, Nat.reduceMul, Nat.reduceLeDiff, Nat.reduceLT, Nat.reduceBEq, Nat.reduceBNe, Int.reduceAdd, Int.reduceSub, Int.reduceMul, Int.reduceNeg, Int.reduceEq, Int.reduceNe, Int.reduceLT, Int.reduceLE, Int.reduceToNat, reduceDIte, Nat.reduceSucc, I49, hk, mkSlK_int, hm, hrun, B49_0, ek, el, hd]

/-- Bytes laid over others. -/
def over (l : List UInt8) (a : Nat) (p : List UInt8) : List UInt8 := l.take a ++ p ++ l.drop (a + p.length)
theorem over_len (l : List UInt8) (a : Nat) (p : List UInt8) (h : a + p.length ≤ l.length) : (over l a p).length = l.length := by simp [over]; omega
def patB (l : List UInt8) (at_ : Int) (p : List UInt8) : List UInt8 := if spanE l.length at_ p.length = 0 then over l at_.toNat p else []
def patE (l : List UInt8) (at_ : Int) (p : List UInt8) : Int := spanE l.length at_ p.length

theorem s39 (g g' : Bool) (l p : List UInt8) (hl : l.length ≤ 140737488355328) (hp : p.length ≤ 140737488355328) (at_ : Int) (h2 : S64 at_) : pcall E 39 [bs g l, .int .i64 at_, bs g' p] = some (kres (E.keep 39) (decide (patE l at_ p = 0)) 5 (patB l at_ p) (.int .i64 (patE l at_ p))) := by
  rw [pcall_go (fn := I39) rfl rfl rfl]
  generalize E.keep 39 = kk
  have h46 := s46 l.length at_ p.length (by omega) (by omega) h2
  have h47 := s47 g l hl
  unfold patB patE
  by_cases b : spanE l.length at_ p.length = 0
  · rw [b] at h46
    obtain ⟨c1, c2, c3⟩ := span0 b
    have hsl := sliceK_sl [rowB 0 l 5] 1 0 0 0 l.length (some (.int .i64 at_)) none at_ l.length rfl rfl c1 c2 (by omega) rfl
    have hol := over_len l at_.toNat p (by omega)
    have hcp := cpR_by8 [.row 0 1 (l.map by8) 5] 0 0 at_.toNat (l.length - at_.toNat) p.length l p 5 (by omega) rfl (by omega)
    rw [show List.take at_.toNat l ++ p ++ List.drop (at_.toNat + p.length) l = over l at_.toNat p from rfl] at hcp
    simp only [go_sem, reduceCtorEq, ↓reduceIte, Nat.reduceEqDiff, Nat.reduceAdd, Nat.reduceSub, Nat.reduceMul, Nat.reduceLeDiff, Nat.reduceLT, Nat.reduceBEq, Nat.reduceBNe, Int.reduceAdd, Int.reduceSub, Int.reduceMul, Int.reduceNeg, Int.reduceEq, Int.reduceNe, Int.reduceLT, Int.reduceLE, Int.reduceToNat, reduceDIte, Nat.reduceSucc] at hsl hcp
    cases kk <;> simp (disch := first | omega | (simp only [List.length_cons, List.length_nil, List.length_append, List.length_map, List.length_set]; omega) | rfl) only [go_sem, reduceCtorEq, ↓reduceIte, Nat.reduceEqDiff, Nat.reduceAdd, Nat.reduceSub, Nat.reduceMul, Nat.reduceLeDiff, Nat.reduceLT, Nat.reduceBEq, Nat.reduceBNe, Int.reduceAdd, Int.reduceSub, Int.reduceMul, Int.reduceNeg, Int.reduceEq, Int.reduceNe, Int.reduceLT, Int.reduceLE, Int.reduceToNat, reduceDIte, Nat.reduceSucc, I39, h46, h47, hsl, hcp, b, hol]
  · cases kk <;> simp (disch := first | omega | (simp only [List.length_cons, List.length_nil, List.length_append, List.length_map, List.length_set]; omega) | rfl) only [go_sem, reduceCtorEq, ↓reduceIte, Nat.reduceEqDiff, Nat.reduceAdd, Nat.reduceSub, Nat.reduceMul, Nat.reduceLeDiff, Nat.reduceLT, Nat.reduceBEq, Nat.reduceBNe, Int.reduceAdd, Int.reduceSub, Int.reduceMul, Int.reduceNeg, Int.reduceEq, Int.reduceNe, Int.reduceLT, Int.reduceLE, Int.reduceToNat, reduceDIte, Nat.reduceSucc, I39, h46, b]

theorem over_step (l : List UInt8) (a : Nat) (p : List UInt8) (i : Nat) (hi : i < p.length) (ha : a + p.length ≤ l.length) : (over l a (p.take i)).set (a + i) (nth p i) = over l a (p.take (i + 1)) := by
  have h1 : (p.take i).length = i := by rw [List.length_take]; omega
  have h2 : (p.take (i + 1)).length = i + 1 := by rw [List.length_take]; omega
  have h3 : (l.take a).length = a := by rw [List.length_take]; omega
  unfold over
  rw [nth_get p i hi, h1, h2, List.append_assoc, List.append_assoc, List.set_append_right _ _ (by rw [h3]; omega), h3, Nat.add_sub_cancel_left, List.set_append_right _ _ (by rw [h1]; omega), h1, Nat.sub_self]
  rw [List.drop_eq_getElem_cons (show a + i < l.length by omega), List.set_cons_zero, List.take_succ_eq_append_getElem hi, List.append_assoc]
  rfl

theorem s40 (g g' : Bool) (l p : List UInt8) (hl : l.length ≤ 140737488355328) (hp : p.length ≤ 140737488355328) (at_ : Int) (h2 : S64 at_) : pcall E 40 [bs g l, .int .i64 at_, bs g' p] = some (.tup [bs false (patB l at_ p), .int .i64 (patE l at_ p)], []) := by
  rw [pcall_go (fn := I40) rfl rfl rfl]
  have hk : E.keep 40 = false := rfl
  obtain ⟨h3, h4⟩ := h2
  unfold patB patE spanE
  by_cases a1 : at_ < 0
  · simp only [go_sem, reduceCtorEq, ↓reduceIte, Nat.reduceEqDiff, Nat.reduceAdd, Nat.reduceSub, Nat.reduceMul, Nat.reduceLeDiff, Nat.reduceLT, Nat.reduceBEq, Nat.reduceBNe, Int.reduceAdd, Int.reduceSub, Int.reduceMul, Int.reduceNeg, Int.reduceEq, Int.reduceNe, Int.reduceLT, Int.reduceLE, Int.reduceToNat, reduceDIte, Nat.reduceSucc, I40, hk, a1]
  by_cases a2 : (l.length : Int) < at_
  · simp only [go_sem, reduceCtorEq, ↓reduceIte, Nat.reduceEqDiff, Nat.reduceAdd, Nat.reduceSub, Nat.reduceMul, Nat.reduceLeDiff, Nat.reduceLT, Nat.reduceBEq, Nat.reduceBNe, Int.reduceAdd, Int.reduceSub, Int.reduceMul, Int.reduceNeg, Int.reduceEq, Int.reduceNe, Int.reduceLT, Int.reduceLE, Int.reduceToNat, reduceDIte, Nat.reduceSucc, I40, hk, a1, a2]
  by_cases a3 : (l.length : Int) - at_ < p.length
  · simp (disch := first | omega | (simp only [List.length_cons, List.length_nil, List.length_append, List.length_map, List.length_set]; omega) | rfl) only [go_sem, reduceCtorEq, ↓reduceIte, Nat.reduceEqDiff, Nat.reduceAdd, Nat.reduceSub, Nat.reduceMul, Nat.reduceLeDiff, Nat.reduceLT, Nat.reduceBEq, Nat.reduceBNe, Int.reduceAdd, Int.reduceSub, Int.reduceMul, Int.reduceNeg, Int.reduceEq, Int.reduceNe, Int.reduceLT, Int.reduceLE, Int.reduceToNat, reduceDIte, Nat.reduceSucc, I40, hk, a1, a2, a3]
  · have hrun := loop_from (E := E) L40_0_eq p.length (fun i => ⟨[(1, .int .i64 at_), (2, bs g' p), (8, .sl 1 0 1 0 l.length), (9, .int .i64 i)], [.row 1 1 ((over l at_.toNat (p.take i)).map by8) 5]⟩) rfl (fun i hi => by
      have h1 : (i : Int) < p.length := by omega
      have hw := over_step l at_.toNat p i hi (by omega)
      have hol := over_len l at_.toNat (p.take i) (by rw [List.length_take]; omega)
      generalize over l at_.toNat (p.take i) = w at hw hol
      have hia := iaddrK_sl [.row 1 1 (w.map by8) 5] 1 0 1 0 l.length .i64 (at_ + i) (by omega) (by omega) rfl
      rw [show 0 + (at_ + i).toNat * 1 = at_.toNat + i by omega] at hia
      have hst := stR_by8 [.row 1 1 (w.map by8) 5] 0 1 (at_.toNat + i) w (nth p i) 5 (by omega)
      rw [hw] at hst
      simp only [go_sem, reduceCtorEq, ↓reduceIte, Nat.reduceEqDiff, Nat.reduceAdd, Nat.reduceSub, Nat.reduceMul, Nat.reduceLeDiff, Nat.reduceLT, Nat.reduceBEq, Nat.reduceBNe, Int.reduceAdd, Int.reduceSub, Int.reduceMul, Int.reduceNeg, Int.reduceEq, Int.reduceNe, Int.reduceLT, Int.reduceLE, Int.reduceToNat, reduceDIte, Nat.reduceSucc] at hst
      simp (disch := first | omega | (simp only [List.length_cons, List.length_nil, List.length_append, List.length_map, List.length_set]; omega) | rfl) only [go_sem, reduceCtorEq, ↓reduceIte, Nat.reduceEqDiff, Nat.reduceAdd, Nat.reduceSub, Nat.reduceMul, Nat.reduceLeDiff, Nat.reduceLT, Nat.reduceBEq, Nat.reduceBNe, Int.reduceAdd, Int.reduceSub, Int.reduceMul, Int.reduceNeg, Int.reduceEq, Int.reduceNe, Int.reduceLT, Int.reduceLE, Int.reduceToNat, reduceDIte, Nat.reduceSucc, B40_0, h1, hia, hst])
    have hol := over_len l at_.toNat p (by omega)
    have e0 : over l at_.toNat (p.take 0) = l := by simp [over]
    simp only [e0, List.take_length] at hrun
    simp only [go_sem, reduceCtorEq, ↓reduceIte, Nat.reduceEqDiff, Nat.reduceAdd, Nat.reduceSub, Nat.reduceMul, Nat.reduceLeDiff, Nat.reduceLT, Nat.reduceBEq, Nat.reduceBNe, Int.reduceAdd, Int.reduceSub, Int.reduceMul, Int.reduceNeg, Int.reduceEq, Int.reduceNe, Int.reduceLT, Int.reduceLE, Int.reduceToNat, reduceDIte, Nat.reduceSucc] at hrun
    simp (disch := first | omega | (simp only [List.length_cons, List.length_nil, List.length_append, List.length_map, List.length_set]; omega) | rfl) only [go_sem, reduceCtorEq, ↓reduceIte, Nat.reduceEqDiff, Nat.reduceAdd, Nat.reduceSub, Nat.reduceMul, Nat.reduceLeDiff, Nat.reduceLT, Nat.reduceBEq, Nat.reduceBNe, Int.reduceAdd, Int.reduceSub, Int.reduceMul, Int.reduceNeg, Int.reduceEq, Int.reduceNe, Int.reduceLT, Int.reduceLE, Int.reduceToNat, reduceDIte, Nat.reduceSucc, I40, hk, a1, a2, a3, hrun, B40_0, hol, Int.lt_irrefl]

/-- What Lay answers. -/
def layB (l : List UInt8) (at_ size : Int) (v : Nat) : List UInt8 := if numbE v size = 0 then patB l at_ (numbB v size) else []
def layE (l : List UInt8) (at_ size : Int) (v : Nat) : Int := if numbE v size = 0 then patE l at_ (numbB v size) else 11
theorem numbB_len (v : Nat) (size : Int) : (numbB v size).length ≤ 8 := by
  unfold numbB
  split
  · rw [encb_length]; omega
  · simp
theorem numbE_ne {v : Nat} {size : Int} (h : ¬ numbE v size = 0) : numbE v size = 11 := by
  unfold numbE at h ⊢
  split
  · rename_i h1; exact absurd (if_pos h1) h
  · rfl

theorem s35 (g : Bool) (l : List UInt8) (hl : l.length ≤ 140737488355328) (at_ size : Int) (h2 : S64 at_) (v : Nat) (hv : v < 18446744073709551616) : pcall E 35 [bs g l, .int .i64 at_, .int .i64 size, .int .u64 v] = some (kres (E.keep 35) (decide (layE l at_ size v = 0)) 5 (layB l at_ size v) (.int .i64 (layE l at_ size v))) := by
  rw [pcall_go (fn := I35) rfl rfl rfl]
  have hk : E.keep 35 = true → E.keep 39 = true := by decide
  have h48 := s48 v hv size
  unfold layB layE
  by_cases a : numbE v size = 0
  · have h39 := fun g g' => s39 g g' l (numbB v size) hl (by have := numbB_len v size; omega) at_ h2
    by_cases c : patE l at_ (numbB v size) = 0
    · revert h39 hk
      generalize E.keep 35 = k1
      generalize E.keep 39 = k2
      intro hk h39
      cases k1
      · cases k2 <;> (simp only [go_sem, reduceCtorEq, ↓reduceIte, Nat.reduceEqDiff, Nat.reduceAdd, Nat.reduceSub, Nat.reduceMul, Nat.reduceLeDiff, Nat.reduceLT, Nat.reduceBEq, Nat.reduceBNe, Int.reduceAdd, Int.reduceSub, Int.reduceMul, Int.reduceNeg, Int.reduceEq, Int.reduceNe, Int.reduceLT, Int.reduceLE, Int.reduceToNat, reduceDIte, Nat.reduceSucc, c] at h39; simp only [go_sem, reduceCtorEq, ↓reduceIte, Nat.reduceEqDiff, Nat.reduceAdd, Nat.reduceSub, Nat.reduceMul, Nat.reduceLeDiff, Nat.reduceLT, Nat.reduceBEq, Nat.reduceBNe, Int.reduceAdd, Int.reduceSub, Int.reduceMul, Int.reduceNeg, Int.reduceEq, Int.reduceNe, Int.reduceLT, Int.reduceLE, Int.reduceToNat, reduceDIte, Nat.reduceSucc, I35, h48, a, h39, c])
      · have : k2 = true := hk rfl
        subst this
        simp only [go_sem, reduceCtorEq, ↓reduceIte, Nat.reduceEqDiff, Nat.reduceAdd, Nat.reduceSub, Nat.reduceMul, Nat.reduceLeDiff, Nat.reduceLT, Nat.reduceBEq, Nat.reduceBNe, Int.reduceAdd, Int.reduceSub, Int.reduceMul, Int.reduceNeg, Int.reduceEq, Int.reduceNe, Int.reduceLT, Int.reduceLE, Int.reduceToNat, reduceDIte, Nat.reduceSucc, c] at h39
        simp only [go_sem, reduceCtorEq, ↓reduceIte, Nat.reduceEqDiff, Nat.reduceAdd, Nat.reduceSub, Nat.reduceMul, Nat.reduceLeDiff, Nat.reduceLT, Nat.reduceBEq, Nat.reduceBNe, Int.reduceAdd, Int.reduceSub, Int.reduceMul, Int.reduceNeg, Int.reduceEq, Int.reduceNe, Int.reduceLT, Int.reduceLE, Int.reduceToNat, reduceDIte, Nat.reduceSucc, I35, h48, a, h39, c]
    · simp only [go_sem, reduceCtorEq, ↓reduceIte, Nat.reduceEqDiff, Nat.reduceAdd, Nat.reduceSub, Nat.reduceMul, Nat.reduceLeDiff, Nat.reduceLT, Nat.reduceBEq, Nat.reduceBNe, Int.reduceAdd, Int.reduceSub, Int.reduceMul, Int.reduceNeg, Int.reduceEq, Int.reduceNe, Int.reduceLT, Int.reduceLE, Int.reduceToNat, reduceDIte, Nat.reduceSucc, c] at h39
      generalize E.keep 35 = k1
      have hp : patB l at_ (numbB v size) = [] := if_neg c
      cases k1 <;> simp only [go_sem, reduceCtorEq, ↓reduceIte, Nat.reduceEqDiff, Nat.reduceAdd, Nat.reduceSub, Nat.reduceMul, Nat.reduceLeDiff, Nat.reduceLT, Nat.reduceBEq, Nat.reduceBNe, Int.reduceAdd, Int.reduceSub, Int.reduceMul, Int.reduceNeg, Int.reduceEq, Int.reduceNe, Int.reduceLT, Int.reduceLE, Int.reduceToNat, reduceDIte, Nat.reduceSucc, I35, h48, a, h39, c]
  · have a' := numbE_ne a
    generalize E.keep 35 = k1
    cases k1 <;> simp only [go_sem, reduceCtorEq, ↓reduceIte, Nat.reduceEqDiff, Nat.reduceAdd, Nat.reduceSub, Nat.reduceMul, Nat.reduceLeDiff, Nat.reduceLT, Nat.reduceBEq, Nat.reduceBNe, Int.reduceAdd, Int.reduceSub, Int.reduceMul, Int.reduceNeg, Int.reduceEq, Int.reduceNe, Int.reduceLT, Int.reduceLE, Int.reduceToNat, reduceDIte, Nat.reduceSucc, I35, h48, a, a']
theorem s36 (g : Bool) (l : List UInt8) (hl : l.length ≤ 140737488355328) (at_ size : Int) (h2 : S64 at_) (v : Nat) (hv : v < 18446744073709551616) : pcall E 36 [bs g l, .int .i64 at_, .int .i64 size, .int .u64 v] = some (.tup [bs false (layB l at_ size v), .int .i64 (layE l at_ size v)], []) := by
  rw [pcall_go (fn := I36) rfl rfl rfl]
  have hk : E.keep 36 = false := rfl
  unfold layB layE numbB numbE
  by_cases a1 : size < 1
  · have : ¬ 1 ≤ size := by omega
    simp only [go_sem, reduceCtorEq, ↓reduceIte, Nat.reduceEqDiff, Nat.reduceAdd, Nat.reduceSub, Nat.reduceMul, Nat.reduceLeDiff, Nat.reduceLT, Nat.reduceBEq, Nat.reduceBNe, Int.reduceAdd, Int.reduceSub, Int.reduceMul, Int.reduceNeg, Int.reduceEq, Int.reduceNe, Int.reduceLT, Int.reduceLE, Int.reduceToNat, reduceDIte, Nat.reduceSucc, I36, hk, a1, this]
  by_cases a2 : 8 < size
  · have : ¬ size ≤ 8 := by omega
    simp only [go_sem, reduceCtorEq, ↓reduceIte, Nat.reduceEqDiff, Nat.reduceAdd, Nat.reduceSub, Nat.reduceMul, Nat.reduceLeDiff, Nat.reduceLT, Nat.reduceBEq, Nat.reduceBNe, Int.reduceAdd, Int.reduceSub, Int.reduceMul, Int.reduceNeg, Int.reduceEq, Int.reduceNe, Int.reduceLT, Int.reduceLE, Int.reduceToNat, reduceDIte, Nat.reduceSucc, I36, hk, a1, a2, this]
  obtain ⟨k, rfl⟩ : ∃ k : Nat, size = (k : Int) := ⟨size.toNat, by omega⟩
  have h49 := s49 v hv k (by omega) (by omega)
  have a3 : 1 ≤ (k : Int) ∧ (k : Int) ≤ 8 := by omega
  by_cases c : v < 256 ^ k
  · have h40 := fun g g' => s40 g g' l (encb k v) hl (by rw [encb_length]; omega) at_ h2
    simp only [go_sem, reduceCtorEq, ↓reduceIte, Nat.reduceEqDiff, Nat.reduceAdd, Nat.reduceSub, Nat.reduceMul, Nat.reduceLeDiff, Nat.reduceLT, Nat.reduceBEq, Nat.reduceBNe, Int.reduceAdd, Int.reduceSub, Int.reduceMul, Int.reduceNeg, Int.reduceEq, Int.reduceNe, Int.reduceLT, Int.reduceLE, Int.reduceToNat, reduceDIte, Nat.reduceSucc, I36, hk, a1, a2, a3, h49, c, h40]
  · simp only [go_sem, reduceCtorEq, ↓reduceIte, Nat.reduceEqDiff, Nat.reduceAdd, Nat.reduceSub, Nat.reduceMul, Nat.reduceLeDiff, Nat.reduceLT, Nat.reduceBEq, Nat.reduceBNe, Int.reduceAdd, Int.reduceSub, Int.reduceMul, Int.reduceNeg, Int.reduceEq, Int.reduceNe, Int.reduceLT, Int.reduceLE, Int.reduceToNat, reduceDIte, Nat.reduceSucc, I36, hk, a1, a2, a3, h49, c]
end Go.Fw.Wd
