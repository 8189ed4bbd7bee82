/-
  What Parse answers of options' bytes, the program's and the document's, as calls. Conditions: stated at each.
-/
import Derived.Test.YtkekjbpalkoeeaaWdParse
set_option linter.unusedVariables false
set_option linter.unusedSimpArgs false
namespace Go.Fw.Wd
open Go.Proofs Code_

/-- What Parse hands back. -/
def parseR : Option (List Opt) → AV
  | some l => .tup [opts false l, .int .i64 0]
  | none => .tup [.rs false 2 [], .int .i64 12]
theorem s22 (g : Bool) (b : List UInt8) (hb : b.length ≤ 1048576) : pcall E 22 [bs g b] = some (parseR (parseO b), []) := by
  rw [pcall_go (fn := I22) rfl rfl rfl]
  have hk : E.keep 22 = false := rfl
  obtain ⟨h', i1, i2⟩ := parse_loop g b.length b (Nat.le_refl _) [] [] (by simp; omega)
  have key : (T22_0 E (lp E L22_0 [(0, bs g b), (4, .sl 2 0 0 0 0)] [.row 0 2 [] 35])).bind (finish false) = some (parseR (parseO b), []) := by
    rw [show T22_0 E (lp E L22_0 [(0, bs g b), (4, .sl 2 0 0 0 0)] [.row 0 2 [] 35]) = _ from i1]
    cases hp : parseO b with
    | none => simp only [go_sem, reduceCtorEq, ↓reduceIte, Nat.reduceEqDiff, Nat.reduceAdd, Nat.reduceSub, Nat.reduceMul, Nat.reduceLeDiff, Nat.reduceLT, Nat.reduceBEq, Nat.reduceBNe, Int.reduceAdd, Int.reduceSub, Int.reduceMul, Int.reduceNeg, Int.reduceEq, Int.reduceNe, Int.reduceLT, Int.reduceLE, Int.reduceToNat, reduceDIte, Nat.reduceSucc, evI_callP, callPK_some, parseV, parseR]
    | some l =>
      have h0 := i2 l hp
      have hs := fopt.sn false h' 6 0 l.length l.length l 35 h0 rfl
      simp only [go_sem, reduceCtorEq, ↓reduceIte, Nat.reduceEqDiff, Nat.reduceAdd, Nat.reduceSub, Nat.reduceMul, Nat.reduceLeDiff, Nat.reduceLT, Nat.reduceBEq, Nat.reduceBNe, Int.reduceAdd, Int.reduceSub, Int.reduceMul, Int.reduceNeg, Int.reduceEq, Int.reduceNe, Int.reduceLT, Int.reduceLE, Int.reduceToNat, reduceDIte, Nat.reduceSucc, evI_callP, callPK_some, parseV, parseR, hs]
  rw [← key]
  simp (disch := first | omega | (simp only [List.length_cons, List.length_nil, List.length_append, List.length_map, List.length_set]; omega) | rfl | (simp only [List.length_cons, List.length_nil, List.length_append, List.length_map, List.length_set, List.length_replicate, List.all_cons, List.all_nil, List.all_append, storable, plainB, Bool.and_self]; done)) only [go_sem, reduceCtorEq, ↓reduceIte, Nat.reduceEqDiff, Nat.reduceAdd, Nat.reduceSub, Nat.reduceMul, Nat.reduceLeDiff, Nat.reduceLT, Nat.reduceBEq, Nat.reduceBNe, Int.reduceAdd, Int.reduceSub, Int.reduceMul, Int.reduceNeg, Int.reduceEq, Int.reduceNe, Int.reduceLT, Int.reduceLE, Int.reduceToNat, reduceDIte, Nat.reduceSucc, evI_callP, callPK_some, I22, hk, L22_0_lp]
  rfl

theorem parse_loop2 (g : Bool) (b : List UInt8) (hbb : b.length ≤ 1048576) : ∀ (n i : Nat), i ≤ b.length → b.length - i ≤ n → ∀ (acc : List Opt) (junk : Heap), acc.length + (b.length - i) ≤ 1048576 →
    ∃ h', T23_0 E (lp E L23_0 [(0, bs g b), (4, .sl 2 0 acc.length 0 acc.length), (5, .int .i64 i)] (rowO acc.length acc 52 :: junk)) = some (parseV acc (parseO (b.drop i)), h') ∧ ∀ l, parseO (b.drop i) = some l → h'[0]? = some (rowO (acc ++ l).length (acc ++ l) 52)
  | n, i, hi, hn, acc, junk, ha => by
    by_cases hii : i = b.length
    · subst hii
      refine ⟨rowO acc.length acc 52 :: junk, ?_, fun l hl => by simp [parseO] at hl⟩
      have e : parseO (b.drop b.length) = none := by rw [List.drop_length, parseO]
      rw [L23_0_go, e]
      simp (disch := first | omega | (simp only [List.length_cons, List.length_nil, List.length_append, List.length_map, List.length_set]; omega) | rfl | (simp only [List.length_cons, List.length_nil, List.length_append, List.length_map, List.length_set, List.length_replicate, List.all_cons, List.all_nil, List.all_append, storable, plainB, Bool.and_self]; done)) only [go_sem, reduceCtorEq, ↓reduceIte, Nat.reduceEqDiff, Nat.reduceAdd, Nat.reduceSub, Nat.reduceMul, Nat.reduceLeDiff, Nat.reduceLT, Nat.reduceBEq, Nat.reduceBNe, Int.reduceAdd, Int.reduceSub, Int.reduceMul, Int.reduceNeg, Int.reduceEq, Int.reduceNe, Int.reduceLT, Int.reduceLE, Int.reduceToNat, reduceDIte, Nat.reduceSucc, evI_callP, callPK_some, B23_0, T23_0, parseV, rowO, Int.lt_irrefl]
    match n, hn with
    | 0, hn => omega
    | n + 1, hn =>
    have hlt : i < b.length := by omega
    have g1 : (i : Int) < b.length := by omega
    have hd := drop_nth b i hlt
    have tn : (i : Int).toNat = i := by omega
    obtain ⟨c, hc⟩ : ∃ c, c = nth b i := ⟨_, rfl⟩
    rw [← hc] at hd
    by_cases h1 : c = 255
    · have e : parseO (b.drop i) = some [] := by rw [hd, h1]; exact parseO_end _
      refine ⟨rowO acc.length acc 52 :: junk, ?_, fun l hl => ?_⟩
      · rw [L23_0_go, e]
        have h1' := (ff_eq c).2 h1
        simp (disch := first | omega | (simp only [List.length_cons, List.length_nil, List.length_append, List.length_map, List.length_set]; omega) | rfl | (simp only [List.length_cons, List.length_nil, List.length_append, List.length_map, List.length_set, List.length_replicate, List.all_cons, List.all_nil, List.all_append, storable, plainB, Bool.and_self]; done)) only [go_sem, reduceCtorEq, ↓reduceIte, Nat.reduceEqDiff, Nat.reduceAdd, Nat.reduceSub, Nat.reduceMul, Nat.reduceLeDiff, Nat.reduceLT, Nat.reduceBEq, Nat.reduceBNe, Int.reduceAdd, Int.reduceSub, Int.reduceMul, Int.reduceNeg, Int.reduceEq, Int.reduceNe, Int.reduceLT, Int.reduceLE, Int.reduceToNat, reduceDIte, Nat.reduceSucc, evI_callP, callPK_some, B23_0, T23_0, parseV, rowO, g1, tn, ← hc, h1']
      · rw [e] at hl
        injection hl with hl
        subst hl
        simp
    have h1' : ¬ (c.toNat : Int) = 255 := fun h => h1 ((ff_eq c).1 h)
    by_cases h0 : c = 0
    · have e : parseO (b.drop i) = parseO (b.drop (i + 1)) := by rw [hd, h0]; exact parseO_pad _
      obtain ⟨h', i1, i2⟩ := parse_loop2 g b hbb n (i + 1) (by omega) (by omega) acc junk (by omega)
      refine ⟨h', ?_, fun l hl => i2 l (by rw [← e]; exact hl)⟩
      rw [L23_0_go, e]
      have h0' := (zz_eq c).2 h0
      rw [← i1]
      simp (disch := first | omega | (simp only [List.length_cons, List.length_nil, List.length_append, List.length_map, List.length_set]; omega) | rfl | (simp only [List.length_cons, List.length_nil, List.length_append, List.length_map, List.length_set, List.length_replicate, List.all_cons, List.all_nil, List.all_append, storable, plainB, Bool.and_self]; done)) only [go_sem, reduceCtorEq, ↓reduceIte, Nat.reduceEqDiff, Nat.reduceAdd, Nat.reduceSub, Nat.reduceMul, Nat.reduceLeDiff, Nat.reduceLT, Nat.reduceBEq, Nat.reduceBNe, Int.reduceAdd, Int.reduceSub, Int.reduceMul, Int.reduceNeg, Int.reduceEq, Int.reduceNe, Int.reduceLT, Int.reduceLE, Int.reduceToNat, reduceDIte, Nat.reduceSucc, evI_callP, callPK_some, B23_0, L23_0_lp, rowO, g1, tn, ← hc, h1', h0', Int.reduceEq]
    have h0' : ¬ (c.toNat : Int) = 0 := fun h => h0 ((zz_eq c).1 h)
    have e := parseO_take (b.drop i) c _ hd h1 h0
    by_cases h2 : i + 1 < b.length
    · have hd2 := drop_nth b (i + 1) h2
      rw [hd2] at hd
      have tn2 : ((i : Int) + 1).toNat = i + 1 := by omega
      have g2 : ¬ (b.length : Int) ≤ (i : Int) + 1 := by omega
      obtain ⟨m, hm⟩ : ∃ m, m = nth b (i + 1) := ⟨_, rfl⟩
      rw [← hm] at hd
      have et := takeO_long c m (b.drop (i + 2))
      rw [← hd] at et
      have hml := m.toNat_lt
      by_cases h3 : m.toNat ≤ (b.drop (i + 2)).length
      · rw [if_pos h3] at et
        rw [et] at e
        simp only at e
        rw [List.length_drop] at h3
        have g3 : ¬ (b.length : Int) < (i : Int) + 2 + m.toNat := by omega
        rw [List.drop_drop] at e
        obtain ⟨h', i1, i2⟩ := parse_loop2 g b hbb n (i + 2 + m.toNat) (by omega) (by omega) (acc ++ [(c, (b.drop (i + 2)).take m.toNat)]) (junk ++ [.gone]) (by simp; omega)
        have hsl : (((i : Int) + 2 + m.toNat).toNat - (i + 2)) = m.toNat := by omega
        have hsl2 : ((i : Int) + 2).toNat = i + 2 := by omega
        have hsum : (i : Int) + (2 + (m.toNat : Int)) = (i : Int) + 2 + m.toNat := by omega
        have hln : ((b.drop (i + 2)).take m.toNat).length = m.toNat := by rw [List.length_take, List.length_drop]; omega
        have hap := fun h => fopt.app1 h 32 52 0 acc.length acc.length acc (c, (b.drop (i + 2)).take m.toNat) rfl (by omega) (by omega)
        simp only [encO_mk] at hap
        refine ⟨h', ?_, fun l hl => ?_⟩
        · rw [L23_0_go]
          have ev : parseV acc (parseO (b.drop i)) = parseV (acc ++ [(c, (b.drop (i + 2)).take m.toNat)]) (parseO (b.drop (i + 2 + m.toNat))) := by
            rw [e]
            cases parseO (b.drop (i + 2 + m.toNat)) with
            | none => rfl
            | some l => simp [parseV]
          rw [ev, ← i1]
          simp (disch := first | omega | (simp only [List.length_cons, List.length_nil, List.length_append, List.length_map, List.length_set]; omega) | rfl | (simp only [List.length_cons, List.length_nil, List.length_append, List.length_map, List.length_set, List.length_replicate, List.all_cons, List.all_nil, List.all_append, storable, plainB, Bool.and_self]; done)) only [go_sem, reduceCtorEq, ↓reduceIte, Nat.reduceEqDiff, Nat.reduceAdd, Nat.reduceSub, Nat.reduceMul, Nat.reduceLeDiff, Nat.reduceLT, Nat.reduceBEq, Nat.reduceBNe, Int.reduceAdd, Int.reduceSub, Int.reduceMul, Int.reduceNeg, Int.reduceEq, Int.reduceNe, Int.reduceLT, Int.reduceLE, Int.reduceToNat, reduceDIte, Nat.reduceSucc, evI_callP, callPK_some, B23_0, L23_0_lp, rowO, g1, g2, g3, tn, tn2, ← hc, ← hm, h1', h0', wbi, hsl, hsl2, hln, hap, hsum]
        · rw [e] at hl
          cases hr : parseO (b.drop (i + 2 + m.toNat)) with
          | none => rw [hr] at hl; cases hl
          | some l' =>
            rw [hr] at hl
            injection hl with hl
            subst hl
            have := i2 l' hr
            simpa using this
      · rw [if_neg h3] at et
        rw [et] at e
        simp only at e
        rw [List.length_drop] at h3
        have g3 : (b.length : Int) < (i : Int) + 2 + m.toNat := by omega
        refine ⟨rowO acc.length acc 52 :: junk, ?_, fun l hl => by rw [e] at hl; cases hl⟩
        rw [L23_0_go, e]
        simp (disch := first | omega | (simp only [List.length_cons, List.length_nil, List.length_append, List.length_map, List.length_set]; omega) | rfl | (simp only [List.length_cons, List.length_nil, List.length_append, List.length_map, List.length_set, List.length_replicate, List.all_cons, List.all_nil, List.all_append, storable, plainB, Bool.and_self]; done)) only [go_sem, reduceCtorEq, ↓reduceIte, Nat.reduceEqDiff, Nat.reduceAdd, Nat.reduceSub, Nat.reduceMul, Nat.reduceLeDiff, Nat.reduceLT, Nat.reduceBEq, Nat.reduceBNe, Int.reduceAdd, Int.reduceSub, Int.reduceMul, Int.reduceNeg, Int.reduceEq, Int.reduceNe, Int.reduceLT, Int.reduceLE, Int.reduceToNat, reduceDIte, Nat.reduceSucc, evI_callP, callPK_some, B23_0, T23_0, parseV, rowO, g1, g2, g3, tn, tn2, ← hc, ← hm, h1', h0', wbi]
    · have hd2 : b.drop (i + 1) = [] := List.drop_of_length_le (by omega)
      rw [hd2] at hd
      have et : takeO (b.drop i) = none := by rw [hd]; rfl
      rw [et] at e
      simp only at e
      have g2 : (b.length : Int) ≤ (i : Int) + 1 := by omega
      refine ⟨rowO acc.length acc 52 :: junk, ?_, fun l hl => by rw [e] at hl; cases hl⟩
      rw [L23_0_go, e]
      simp (disch := first | omega | (simp only [List.length_cons, List.length_nil, List.length_append, List.length_map, List.length_set]; omega) | rfl | (simp only [List.length_cons, List.length_nil, List.length_append, List.length_map, List.length_set, List.length_replicate, List.all_cons, List.all_nil, List.all_append, storable, plainB, Bool.and_self]; done)) only [go_sem, reduceCtorEq, ↓reduceIte, Nat.reduceEqDiff, Nat.reduceAdd, Nat.reduceSub, Nat.reduceMul, Nat.reduceLeDiff, Nat.reduceLT, Nat.reduceBEq, Nat.reduceBNe, Int.reduceAdd, Int.reduceSub, Int.reduceMul, Int.reduceNeg, Int.reduceEq, Int.reduceNe, Int.reduceLT, Int.reduceLE, Int.reduceToNat, reduceDIte, Nat.reduceSucc, evI_callP, callPK_some, B23_0, T23_0, parseV, rowO, g1, g2, tn, ← hc, h1', h0', wbi]

theorem s23 (g : Bool) (b : List UInt8) (hb : b.length ≤ 1048576) : pcall E 23 [bs g b] = some (parseR (parseO b), []) := by
  rw [pcall_go (fn := I23) rfl rfl rfl]
  have hk : E.keep 23 = false := rfl
  obtain ⟨h', i1, i2⟩ := parse_loop2 g b hb b.length 0 (Nat.zero_le _) (by omega) [] [] (by simp; omega)
  rw [List.drop_zero] at i1 i2
  have key : (T23_0 E (lp E L23_0 [(0, bs g b), (4, .sl 2 0 0 0 0), (5, .int .i64 0)] [.row 0 2 [] 52])).bind (finish false) = some (parseR (parseO b), []) := by
    rw [show T23_0 E (lp E L23_0 [(0, bs g b), (4, .sl 2 0 0 0 0), (5, .int .i64 0)] [.row 0 2 [] 52]) = _ from i1]
    cases hp : parseO b with
    | none => simp only [go_sem, reduceCtorEq, ↓reduceIte, Nat.reduceEqDiff, Nat.reduceAdd, Nat.reduceSub, Nat.reduceMul, Nat.reduceLeDiff, Nat.reduceLT, Nat.reduceBEq, Nat.reduceBNe, Int.reduceAdd, Int.reduceSub, Int.reduceMul, Int.reduceNeg, Int.reduceEq, Int.reduceNe, Int.reduceLT, Int.reduceLE, Int.reduceToNat, reduceDIte, Nat.reduceSucc, evI_callP, callPK_some, parseV, parseR]
    | some l =>
      have h0 := i2 l hp
      have hs := fopt.sn false h' 6 0 l.length l.length l 52 h0 rfl
      simp only [go_sem, reduceCtorEq, ↓reduceIte, Nat.reduceEqDiff, Nat.reduceAdd, Nat.reduceSub, Nat.reduceMul, Nat.reduceLeDiff, Nat.reduceLT, Nat.reduceBEq, Nat.reduceBNe, Int.reduceAdd, Int.reduceSub, Int.reduceMul, Int.reduceNeg, Int.reduceEq, Int.reduceNe, Int.reduceLT, Int.reduceLE, Int.reduceToNat, reduceDIte, Nat.reduceSucc, evI_callP, callPK_some, parseV, parseR, hs]
  rw [← key]
  simp (disch := first | omega | (simp only [List.length_cons, List.length_nil, List.length_append, List.length_map, List.length_set]; omega) | rfl | (simp only [List.length_cons, List.length_nil, List.length_append, List.length_map, List.length_set, List.length_replicate, List.all_cons, List.all_nil, List.all_append, storable, plainB, Bool.and_self]; done)) only [go_sem, reduceCtorEq, ↓reduceIte, Nat.reduceEqDiff, Nat.reduceAdd, Nat.reduceSub, Nat.reduceMul, Nat.reduceLeDiff, Nat.reduceLT, Nat.reduceBEq, Nat.reduceBNe, Int.reduceAdd, Int.reduceSub, Int.reduceMul, Int.reduceNeg, Int.reduceEq, Int.reduceNe, Int.reduceLT, Int.reduceLE, Int.reduceToNat, reduceDIte, Nat.reduceSucc, evI_callP, callPK_some, I23, hk, L23_0_lp]
  rfl
end Go.Fw.Wd
