/-
  What Parse answers of options' bytes, the program's and the document's. Conditions: stated at each.
-/
import Derived.Test.YtkekjbpalkoeeaaWdOpt
set_option linter.unusedVariables false
set_option linter.unusedSimpArgs false
namespace Go.Fw.Wd
open Go.Proofs Code_

/-- The options of bytes. -/
def parseO : List UInt8 → Option (List Opt)
  | [] => none
  | c :: r => if c = 255 then some [] else if c = 0 then parseO r else
      match r with
      | [] => none
      | n :: r' => if n.toNat ≤ r'.length then (parseO (r'.drop n.toNat)).map ((c, r'.take n.toNat) :: ·) else none
termination_by l => l.length
decreasing_by
  · simp
  · simp; omega
theorem parseO_end (r : List UInt8) : parseO (255 :: r) = some [] := by rw [parseO.eq_def]; simp
theorem parseO_pad (r : List UInt8) : parseO (0 :: r) = parseO r := by rw [parseO.eq_def]; simp
theorem parseO_take (l : List UInt8) (c : UInt8) (r : List UInt8) (hl : l = c :: r) (h1 : c ≠ 255) (h0 : c ≠ 0) : parseO l = match takeO l with
    | some (o, r') => (parseO r').map (o :: ·)
    | none => none := by
  subst hl
  rw [parseO.eq_def]
  simp only [h1, h0, if_false]
  cases r with
  | nil => rfl
  | cons n r' =>
    simp only [takeO]
    by_cases h : n.toNat ≤ r'.length
    · simp only [h, if_true]
    · simp only [h, if_false]
theorem takeO_len {l : List UInt8} {o : Opt} {r : List UInt8} (h : takeO l = some (o, r)) : r.length + o.2.length + 2 = l.length ∧ o.2.length ≤ 255 := by
  match l, h with
  | [], h => cases h
  | [c], h => cases h
  | c :: n :: r', h =>
    simp only [takeO] at h
    split at h
    · rename_i hn
      injection h with h
      injection h with h1 h2
      subst h1; subst h2
      have := n.toNat_lt
      simp only [List.length_drop, List.length_take, List.length_cons]
      omega
    · cases h
/-- What Parse answers, with what was read before. -/
def parseV (acc : List Opt) : Option (List Opt) → AV
  | some l => .tup [.sl 2 0 (acc ++ l).length 0 (acc ++ l).length, .int .i64 0]
  | none => .tup [.rs false 2 [], .int .i64 12]
theorem nu8 (a b : UInt8) : (((a.toNat : Nat) : Int) = (b.toNat : Int)) = (a = b) := propext (by8_neq a b)
theorem ff_eq (c : UInt8) : ((c.toNat : Int) = 255) ↔ c = 255 := by
  rw [← UInt8.toNat_inj]
  show _ ↔ c.toNat = 255
  omega
theorem zz_eq (c : UInt8) : ((c.toNat : Int) = 0) ↔ c = 0 := by
  rw [← UInt8.toNat_inj]
  show _ ↔ c.toNat = 0
  omega

theorem parse_loop (g : Bool) : ∀ (n : Nat) (b : List UInt8), b.length ≤ n → ∀ (acc : List Opt) (junk : Heap), acc.length + b.length ≤ 1048576 →
    ∃ h', T22_0 E (lp E L22_0 [(0, bs g b), (4, .sl 2 0 acc.length 0 acc.length)] (rowO acc.length acc 35 :: junk)) = some (parseV acc (parseO b), h') ∧ ∀ l, parseO b = some l → h'[0]? = some (rowO (acc ++ l).length (acc ++ l) 35)
  | n, [], hn, acc, junk, hb => by
    refine ⟨rowO acc.length acc 35 :: junk, ?_, fun l hl => by simp [parseO] at hl⟩
    have e : parseO [] = none := by rw [parseO]
    rw [L22_0_go, e]
    simp (disch := first | omega | (simp only [List.length_cons, List.length_nil, List.length_append, List.length_map, List.length_set]; omega) | rfl | (simp only [List.length_cons, List.length_nil, List.length_append, List.length_map, List.length_set, List.length_replicate, List.all_cons, List.all_nil, List.all_append, storable, plainB, Bool.and_self]; done)) only [go_sem, reduceCtorEq, ↓reduceIte, Nat.reduceEqDiff, Nat.reduceAdd, Nat.reduceSub, Nat.reduceMul, Nat.reduceLeDiff, Nat.reduceLT, Nat.reduceBEq, Nat.reduceBNe, Int.reduceAdd, Int.reduceSub, Int.reduceMul, Int.reduceNeg, Int.reduceEq, Int.reduceNe, Int.reduceLT, Int.reduceLE, Int.reduceToNat, reduceDIte, Nat.reduceSucc, evI_callP, callPK_some, B22_0, T22_0, parseV, rowO]
  | 0, c :: r, hn, acc, junk, hb => by simp at hn
  | n + 1, c :: r, hn, acc, junk, hb => by
    obtain ⟨b, hx⟩ : ∃ b, b = c :: r := ⟨_, rfl⟩
    have hlen : b.length = r.length + 1 := by rw [hx]; rfl
    have n0 : nth b 0 = c := by rw [hx]; rfl
    have d1 : b.drop 1 = r := by rw [hx]; rfl
    rw [← hx] at hn hb ⊢
    have g1 : (0 : Int) < b.length := by omega
    by_cases h1 : c = 255
    · refine ⟨rowO acc.length acc 35 :: junk, ?_, fun l hl => ?_⟩
      · have e : parseO b = some [] := by rw [hx, h1]; exact parseO_end r
        rw [L22_0_go, e]
        clear hx
        have h1' := (ff_eq c).2 h1
        simp (disch := first | omega | (simp only [List.length_cons, List.length_nil, List.length_append, List.length_map, List.length_set]; omega) | rfl | (simp only [List.length_cons, List.length_nil, List.length_append, List.length_map, List.length_set, List.length_replicate, List.all_cons, List.all_nil, List.all_append, storable, plainB, Bool.and_self]; done)) only [go_sem, reduceCtorEq, ↓reduceIte, Nat.reduceEqDiff, Nat.reduceAdd, Nat.reduceSub, Nat.reduceMul, Nat.reduceLeDiff, Nat.reduceLT, Nat.reduceBEq, Nat.reduceBNe, Int.reduceAdd, Int.reduceSub, Int.reduceMul, Int.reduceNeg, Int.reduceEq, Int.reduceNe, Int.reduceLT, Int.reduceLE, Int.reduceToNat, reduceDIte, Nat.reduceSucc, evI_callP, callPK_some, B22_0, T22_0, parseV, rowO, g1, n0, h1']
      · have e : parseO b = some [] := by rw [hx, h1]; exact parseO_end r
        rw [e] at hl
        injection hl with hl
        subst hl
        simp
    · have h1' : ¬ (c.toNat : Int) = 255 := fun h => h1 ((ff_eq c).1 h)
      by_cases h0 : c = 0
      · have e : parseO b = parseO r := by rw [hx, h0]; exact parseO_pad r
        obtain ⟨h', i1, i2⟩ := parse_loop g n r (by omega) acc junk (by omega)
        refine ⟨h', ?_, fun l hl => i2 l (by rw [← e]; exact hl)⟩
        rw [L22_0_go, e]
        clear hx
        have h0' := (zz_eq c).2 h0
        rw [← i1]
        simp (disch := first | omega | (simp only [List.length_cons, List.length_nil, List.length_append, List.length_map, List.length_set]; omega) | rfl | (simp only [List.length_cons, List.length_nil, List.length_append, List.length_map, List.length_set, List.length_replicate, List.all_cons, List.all_nil, List.all_append, storable, plainB, Bool.and_self]; done)) only [go_sem, reduceCtorEq, ↓reduceIte, Nat.reduceEqDiff, Nat.reduceAdd, Nat.reduceSub, Nat.reduceMul, Nat.reduceLeDiff, Nat.reduceLT, Nat.reduceBEq, Nat.reduceBNe, Int.reduceAdd, Int.reduceSub, Int.reduceMul, Int.reduceNeg, Int.reduceEq, Int.reduceNe, Int.reduceLT, Int.reduceLE, Int.reduceToNat, reduceDIte, Nat.reduceSucc, evI_callP, callPK_some, B22_0, L22_0_lp, rowO, g1, n0, h1', h0', d1, Int.reduceEq]
      · have h0' : ¬ (c.toNat : Int) = 0 := fun h => h0 ((zz_eq c).1 h)
        have e := parseO_take b c r hx h1 h0
        have q := s78 g b (by omega)
        clear hx
        cases ht : takeO b with
        | none =>
          rw [ht] at q e
          refine ⟨rowO acc.length acc 35 :: (junk ++ [.cells true [.int .u8 0, bs false []] 35]), ?_, fun l hl => by rw [e] at hl; cases hl⟩
          rw [L22_0_go, e]
          simp only [takeV] at q
          simp (disch := first | omega | (simp only [List.length_cons, List.length_nil, List.length_append, List.length_map, List.length_set]; omega) | rfl | (simp only [List.length_cons, List.length_nil, List.length_append, List.length_map, List.length_set, List.length_replicate, List.all_cons, List.all_nil, List.all_append, storable, plainB, Bool.and_self]; done)) only [go_sem, reduceCtorEq, ↓reduceIte, Nat.reduceEqDiff, Nat.reduceAdd, Nat.reduceSub, Nat.reduceMul, Nat.reduceLeDiff, Nat.reduceLT, Nat.reduceBEq, Nat.reduceBNe, Int.reduceAdd, Int.reduceSub, Int.reduceMul, Int.reduceNeg, Int.reduceEq, Int.reduceNe, Int.reduceLT, Int.reduceLE, Int.reduceToNat, reduceDIte, Nat.reduceSucc, evI_callP, callPK_some, B22_0, T22_0, parseV, rowO, g1, n0, h1', h0', q]
        | some p =>
          obtain ⟨o, r'⟩ := p
          rw [ht] at q e
          have hl' := takeO_len ht
          obtain ⟨h', i1, i2⟩ := parse_loop g n r' (by omega) (acc ++ [o]) (junk ++ [.cells true (encO o) 35]) (by simp; omega)
          simp only at e
          refine ⟨h', ?_, fun l hl => ?_⟩
          · rw [L22_0_go]
            have ev : parseV acc (parseO b) = parseV (acc ++ [o]) (parseO r') := by
              rw [e]
              cases parseO r' with
              | none => rfl
              | some l => simp [parseV]
            rw [ev, ← i1]
            have hap := fun h => fopt.app1 h 32 35 0 acc.length acc.length acc o rfl (by omega) (by omega)
            simp only [encO_eq] at hap
            simp only [takeV] at q
            simp (disch := first | omega | (simp only [List.length_cons, List.length_nil, List.length_append, List.length_map, List.length_set]; omega) | rfl | (simp only [List.length_cons, List.length_nil, List.length_append, List.length_map, List.length_set, List.length_replicate, List.all_cons, List.all_nil, List.all_append, storable, plainB, Bool.and_self]; done)) only [go_sem, reduceCtorEq, ↓reduceIte, Nat.reduceEqDiff, Nat.reduceAdd, Nat.reduceSub, Nat.reduceMul, Nat.reduceLeDiff, Nat.reduceLT, Nat.reduceBEq, Nat.reduceBNe, Int.reduceAdd, Int.reduceSub, Int.reduceMul, Int.reduceNeg, Int.reduceEq, Int.reduceNe, Int.reduceLT, Int.reduceLE, Int.reduceToNat, reduceDIte, Nat.reduceSucc, evI_callP, callPK_some, B22_0, L22_0_lp, rowO, g1, n0, h1', h0', q, hap, encO_eq]
          · rw [e] at hl
            cases hr : parseO r' with
            | none => rw [hr] at hl; cases hl
            | some l' =>
              rw [hr] at hl
              injection hl with hl
              subst hl
              have := i2 l' hr
              simpa using this
end Go.Fw.Wd
