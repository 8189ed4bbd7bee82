/-
  The laws on messages, as the evaluation answers them. Conditions: stated at each.
-/
import Derived.Test.YtkekjbpalkoeeaaWdMsg6
import Derived.Test.YtkekjbpalkoeeaaWdOback
import Derived.Test.YtkekjbpalkoeeaaWdBalive
set_option linter.unusedVariables false
set_option linter.unusedSimpArgs false
namespace Go.Fw.Wd
open Go.Proofs Code_

theorem parseO_small : ∀ (n : Nat) (b : List UInt8) (l : List Opt), b.length ≤ n → parseO b = some l → l.length ≤ b.length ∧ ∀ o ∈ l, o.2.length ≤ b.length
  | 0, [], l, _, h => by rw [parseO] at h; cases h
  | 0, c :: r, l, hn, h => by simp at hn
  | n + 1, [], l, _, h => by rw [parseO] at h; cases h
  | n + 1, c :: r, l, hn, h => by
    simp only [List.length_cons] at hn
    by_cases h1 : c = 255
    · subst h1
      rw [parseO_end] at h
      injection h with h
      subst h
      exact ⟨by simp, fun o ho => by cases ho⟩
    by_cases h0 : c = 0
    · subst h0
      rw [parseO_pad] at h
      obtain ⟨i1, i2⟩ := parseO_small n r l (by omega) h
      exact ⟨by simp only [List.length_cons]; omega, fun o ho => by have := i2 o ho; simp only [List.length_cons]; omega⟩
    rw [parseO_take (c :: r) c r rfl h1 h0] at h
    cases r with
    | nil => rw [takeO_short (by simp)] at h; cases h
    | cons m r =>
      rw [takeO_long] at h
      by_cases hm : m.toNat ≤ r.length
      · rw [if_pos hm] at h
        cases hr : parseO (r.drop m.toNat) with
        | none => simp only [hr] at h; cases h
        | some l' =>
          simp only [hr] at h
          injection h with h
          subst h
          simp only [List.length_cons] at hn
          obtain ⟨i1, i2⟩ := parseO_small n (r.drop m.toNat) l' (by rw [List.length_drop]; omega) hr
          rw [List.length_drop] at i1 i2
          refine ⟨by simp only [List.length_cons]; omega, fun o ho => ?_⟩
          simp only [List.length_cons]
          rcases List.mem_cons.1 ho with rfl | ho
          · show (r.take m.toNat).length ≤ _
            rw [List.length_take]; omega
          · have := i2 o ho; omega
      · rw [if_neg hm] at h
        cases h
theorem parseM_small {b : List UInt8} (hb : b.length ≤ 1048576) : small (parseM b).1.o := by
  unfold parseM
  have z : small zeroM.o := ⟨by simp [zeroM], fun o ho => by simp [zeroM] at ho⟩
  by_cases h1 : b.length < 240
  · rw [if_pos h1]; exact z
  rw [if_neg h1]
  split
  · exact z
  split
  · exact z
  cases hp : parseO (b.drop 240) with
  | none => exact z
  | some l =>
    obtain ⟨i1, i2⟩ := parseO_small _ _ l (Nat.le_refl _) hp
    rw [List.length_drop] at i1 i2
    exact ⟨by show l.length ≤ _; omega, fun o ho => by have := i2 o ho; omega⟩
theorem headEq_self (m : Msg) : headEq m m = true := by simp [headEq]

theorem drop_pre (a b : List UInt8) (n : Nat) (h : a.length = n) : (a ++ b).drop n = b := List.drop_left' h
theorem take_pre (a b : List UInt8) (n : Nat) (h : a.length = n) : (a ++ b).take n = a := List.take_left' h
theorem u32_enc (x : UInt32) : UInt32.ofNat (num (encb 4 x.toNat)) = x := by
  have := x.toNat_lt
  rw [num_encb_of (by omega), UInt32.ofNat_toNat]
theorem u16_enc (x : UInt16) : UInt16.ofNat (num (encb 2 x.toNat)) = x := by
  have := x.toNat_lt
  rw [num_encb_of (by omega), UInt16.ofNat_toNat]
theorem msgB_len (m : Msg) : (msgB m).length = 240 + (bytesB m.o).length := by
  simp only [msgB, List.length_append, encb_length, List.length_cons, List.length_nil, List.length_replicate, macL, cookieB]
theorem msgB_drop (m : Msg) : (msgB m).drop 240 = bytesB m.o := by
  refine drop_pre _ _ 240 ?_
  simp only [List.length_append, encb_length, List.length_cons, List.length_nil, List.length_replicate, macL, cookieB]
theorem parseM_msgB (m : Msg) (h : msgE m = 0) (r : List UInt8) : parseM (msgB m ++ r) = (m, 0) := by
  have hop : m.op.toNat = 1 ∨ m.op.toNat = 2 := by
    by_cases hh : m.op.toNat = 1 ∨ m.op.toNat = 2
    · exact hh
    · rw [msgE_1 hh] at h; omega
  have hbe : bytesE m.o = 0 := by
    by_cases hh : bytesE m.o = 0
    · exact hh
    · rw [msgE_2 hop hh] at h; exact absurd h hh
  have hbl := msgB_len m
  obtain ⟨y11, e11⟩ : ∃ y, y = bytesB m.o ++ r := ⟨_, rfl⟩
  obtain ⟨y10, e10⟩ : ∃ y, y = cookieB ++ y11 := ⟨_, rfl⟩
  obtain ⟨y9, e9⟩ : ∃ y, y = List.replicate 202 0 ++ y10 := ⟨_, rfl⟩
  obtain ⟨y8, e8⟩ : ∃ y, y = macL m ++ y9 := ⟨_, rfl⟩
  obtain ⟨y7, e7⟩ : ∃ y, y = encb 4 m.gi.toNat ++ y8 := ⟨_, rfl⟩
  obtain ⟨y6, e6⟩ : ∃ y, y = encb 4 m.si.toNat ++ y7 := ⟨_, rfl⟩
  obtain ⟨y5, e5⟩ : ∃ y, y = encb 4 m.yi.toNat ++ y6 := ⟨_, rfl⟩
  obtain ⟨y4, e4⟩ : ∃ y, y = encb 4 m.ci.toNat ++ y5 := ⟨_, rfl⟩
  obtain ⟨y3, e3⟩ : ∃ y, y = [wideB m.wide, 0] ++ y4 := ⟨_, rfl⟩
  obtain ⟨y2, e2⟩ : ∃ y, y = encb 2 m.secs.toNat ++ y3 := ⟨_, rfl⟩
  obtain ⟨y1, e1⟩ : ∃ y, y = encb 4 m.xid.toNat ++ y2 := ⟨_, rfl⟩
  obtain ⟨b, eb⟩ : ∃ y, y = msgB m ++ r := ⟨_, rfl⟩
  have e0 : b = [m.op, 1, 6, 0] ++ y1 := by
    rw [eb, e1, e2, e3, e4, e5, e6, e7, e8, e9, e10, e11]
    simp only [msgB, List.append_assoc]
  have lb : b.length = 240 + (bytesB m.o).length + r.length := by rw [eb, List.length_append, hbl]
  have d4 : b.drop 4 = y1 := by rw [e0]; exact drop_pre _ _ 4 rfl
  have d8 : b.drop 8 = y2 := by rw [show 8 = 4 + 4 from rfl, ← List.drop_drop, d4, e1]; exact drop_pre _ _ 4 (encb_length _ _)
  have d10 : b.drop 10 = y3 := by rw [show 10 = 8 + 2 from rfl, ← List.drop_drop, d8, e2]; exact drop_pre _ _ 2 (encb_length _ _)
  have d12 : b.drop 12 = y4 := by rw [show 12 = 10 + 2 from rfl, ← List.drop_drop, d10, e3]; exact drop_pre _ _ 2 rfl
  have d16 : b.drop 16 = y5 := by rw [show 16 = 12 + 4 from rfl, ← List.drop_drop, d12, e4]; exact drop_pre _ _ 4 (encb_length _ _)
  have d20 : b.drop 20 = y6 := by rw [show 20 = 16 + 4 from rfl, ← List.drop_drop, d16, e5]; exact drop_pre _ _ 4 (encb_length _ _)
  have d24 : b.drop 24 = y7 := by rw [show 24 = 20 + 4 from rfl, ← List.drop_drop, d20, e6]; exact drop_pre _ _ 4 (encb_length _ _)
  have d28 : b.drop 28 = y8 := by rw [show 28 = 24 + 4 from rfl, ← List.drop_drop, d24, e7]; exact drop_pre _ _ 4 (encb_length _ _)
  have d34 : b.drop 34 = y9 := by rw [show 34 = 28 + 6 from rfl, ← List.drop_drop, d28, e8]; exact drop_pre _ _ 6 rfl
  have d236 : b.drop 236 = y10 := by rw [show 236 = 34 + 202 from rfl, ← List.drop_drop, d34, e9]; exact drop_pre _ _ 202 (List.length_replicate ..)
  have d240 : b.drop 240 = y11 := by rw [show 240 = 236 + 4 from rfl, ← List.drop_drop, d236, e10]; exact drop_pre _ _ 4 rfl
  have nd : ∀ i j, i + j < b.length → nth b (i + j) = nth (b.drop i) j := fun i j hij => (nth_drop b i j hij).symm
  have v0 : nth b 0 = m.op := by rw [e0]; rfl
  have v1 : nth b 1 = 1 := by rw [e0]; rfl
  have v2 : nth b 2 = 6 := by rw [e0]; rfl
  have v10 : nth b 10 = wideB m.wide := by rw [nd 10 0 (by omega), d10, e3]; rfl
  have v28 : nth b 28 = m.a := by rw [nd 28 0 (by omega), d28, e8]; rfl
  have v29 : nth b 29 = m.b := by rw [nd 28 1 (by omega), d28, e8]; rfl
  have v30 : nth b 30 = m.c := by rw [nd 28 2 (by omega), d28, e8]; rfl
  have v31 : nth b 31 = m.d := by rw [nd 28 3 (by omega), d28, e8]; rfl
  have v32 : nth b 32 = m.e := by rw [nd 28 4 (by omega), d28, e8]; rfl
  have v33 : nth b 33 = m.f := by rw [nd 28 5 (by omega), d28, e8]; rfl
  have v236 : nth b 236 = 99 := by rw [nd 236 0 (by omega), d236, e10]; rfl
  have v237 : nth b 237 = 130 := by rw [nd 236 1 (by omega), d236, e10]; rfl
  have v238 : nth b 238 = 83 := by rw [nd 236 2 (by omega), d236, e10]; rfl
  have v239 : nth b 239 = 99 := by rw [nd 236 3 (by omega), d236, e10]; rfl
  have t4 : n32 b 4 = m.xid := by unfold n32; rw [d4, e1, take_pre _ _ 4 (encb_length _ _), u32_enc]
  have t8 : n16 b 8 = m.secs := by unfold n16; rw [d8, e2, take_pre _ _ 2 (encb_length _ _), u16_enc]
  have t12 : n32 b 12 = m.ci := by unfold n32; rw [d12, e4, take_pre _ _ 4 (encb_length _ _), u32_enc]
  have t16 : n32 b 16 = m.yi := by unfold n32; rw [d16, e5, take_pre _ _ 4 (encb_length _ _), u32_enc]
  have t20 : n32 b 20 = m.si := by unfold n32; rw [d20, e6, take_pre _ _ 4 (encb_length _ _), u32_enc]
  have t24 : n32 b 24 = m.gi := by unfold n32; rw [d24, e7, take_pre _ _ 4 (encb_length _ _), u32_enc]
  have wd : decide (128 ≤ (wideB m.wide).toNat) = m.wide := by cases m.wide <;> rfl
  have hp : parseO y11 = some m.o := by
    rw [e11, show bytesB m.o = optsB m.o ++ [255] from if_pos hbe]
    simpa using parseO_optsB r m.o hbe
  rw [← eb]
  unfold parseM
  rw [if_neg (by omega), v0, v1, v2, v236, v237, v238, v239, d240, hp]
  rw [if_neg (fun hh => hh ⟨hop, rfl, rfl⟩), if_neg (fun hh => hh ⟨rfl, rfl, rfl, rfl⟩)]
  show (msgOf b m.o, (0 : Int)) = (m, 0)
  unfold msgOf
  rw [v0, v10, v28, v29, v30, v31, v32, v33, t4, t8, t12, t16, t20, t24, wd]

theorem law7 (b : List UInt8) : pcall E 7 [bs false b] = some (.bool true, []) := by
  rw [pcall_go (fn := I7) rfl rfl rfl]
  have hk : E.keep 7 = false := rfl
  by_cases h1 : (3000 : Int) < b.length
  · simp (disch := first | omega | (simp only [List.length_cons, List.length_nil, List.length_append, List.length_map, List.length_set]; omega) | rfl | (simp only [List.length_cons, List.length_nil, List.length_append, List.length_map, List.length_set, List.length_replicate, List.all_cons, List.all_nil, List.all_append, storable, plainB, Bool.and_self]; done)) only [go_sem, reduceCtorEq, ↓reduceIte, Nat.reduceEqDiff, Nat.reduceAdd, Nat.reduceSub, Nat.reduceMul, Nat.reduceLeDiff, Nat.reduceLT, Nat.reduceBEq, Nat.reduceBNe, Int.reduceAdd, Int.reduceSub, Int.reduceMul, Int.reduceNeg, Int.reduceEq, Int.reduceNe, Int.reduceLT, Int.reduceLE, Int.reduceToNat, reduceDIte, Nat.reduceSucc, evI_callP, callPK_some, I7, hk, s39, h1]
  have q1 := fun g => s21 g b (by omega)
  have q2 := fun g => s40 g b (by omega)
  have q3 := fun g => s41 g b (by omega)
  have hs := parseM_small (b := b) (by omega)
  have q6 := fun g g' => s26 g g' b b (by omega)
  generalize parseM b = p at q2 q3 hs
  obtain ⟨m, e⟩ := p
  have q4 := fun g => s43 g m hs
  have q5 := fun g g' => s42 g g' m m hs.1
  have hh : sameM m m = true := by simp [sameM, headEq_self]
  rw [hh] at q5
  simp only [msgV, encM_eq] at q2 q3
  simp only [encG_eq] at q4 q5
  simp (disch := first | omega | (simp only [List.length_cons, List.length_nil, List.length_append, List.length_map, List.length_set]; omega) | rfl | (simp only [List.length_cons, List.length_nil, List.length_append, List.length_map, List.length_set, List.length_replicate, List.all_cons, List.all_nil, List.all_append, storable, plainB, Bool.and_self]; done)) only [go_sem, reduceCtorEq, ↓reduceIte, Nat.reduceEqDiff, Nat.reduceAdd, Nat.reduceSub, Nat.reduceMul, Nat.reduceLeDiff, Nat.reduceLT, Nat.reduceBEq, Nat.reduceBNe, Int.reduceAdd, Int.reduceSub, Int.reduceMul, Int.reduceNeg, Int.reduceEq, Int.reduceNe, Int.reduceLT, Int.reduceLE, Int.reduceToNat, reduceDIte, Nat.reduceSucc, evI_callP, callPK_some, I7, hk, s39, h1, q1, q2, q3, q4, q5, q6, onoG]

theorem sameB (g g' : Bool) (m n : Msg) (hl : m.o.length ≤ 1048576) : pcall E 51 [.agg (encG g m), .agg (encG g' n)] = some (.bool (sameM m n), []) := s51 g g' m n hl
theorem sameM_self (m : Msg) : sameM m m = true := by simp [sameM, headEq_self]
theorem law8 (m n : Msg) : pcall E 8 [.agg (encG false m), .agg (encG false n)] = some (.bool true, []) := by
  rw [pcall_go (fn := I8) rfl rfl rfl]
  have hk : E.keep 8 = false := rfl
  have g1 := fun g => s44 g m
  have g2 := fun g => s44 g n
  simp only [encG_eq] at g1 g2 ⊢
  cases h1 : greatM m with
  | true =>
    rw [h1] at g1
    simp (disch := first | omega | (simp only [List.length_cons, List.length_nil, List.length_append, List.length_map, List.length_set]; omega) | rfl | (simp only [List.length_cons, List.length_nil, List.length_append, List.length_map, List.length_set, List.length_replicate, List.all_cons, List.all_nil, List.all_append, storable, plainB, Bool.and_self]; done)) only [go_sem, reduceCtorEq, ↓reduceIte, Nat.reduceEqDiff, Nat.reduceAdd, Nat.reduceSub, Nat.reduceMul, Nat.reduceLeDiff, Nat.reduceLT, Nat.reduceBEq, Nat.reduceBNe, Int.reduceAdd, Int.reduceSub, Int.reduceMul, Int.reduceNeg, Int.reduceEq, Int.reduceNe, Int.reduceLT, Int.reduceLE, Int.reduceToNat, reduceDIte, Nat.reduceSucc, evI_callP, callPK_some, I8, hk, s39, g1]
  | false =>
  rw [h1] at g1
  cases h2 : greatM n with
  | true =>
    rw [h2] at g2
    simp (disch := first | omega | (simp only [List.length_cons, List.length_nil, List.length_append, List.length_map, List.length_set]; omega) | rfl | (simp only [List.length_cons, List.length_nil, List.length_append, List.length_map, List.length_set, List.length_replicate, List.all_cons, List.all_nil, List.all_append, storable, plainB, Bool.and_self]; done)) only [go_sem, reduceCtorEq, ↓reduceIte, Nat.reduceEqDiff, Nat.reduceAdd, Nat.reduceSub, Nat.reduceMul, Nat.reduceLeDiff, Nat.reduceLT, Nat.reduceBEq, Nat.reduceBNe, Int.reduceAdd, Int.reduceSub, Int.reduceMul, Int.reduceNeg, Int.reduceEq, Int.reduceNe, Int.reduceLT, Int.reduceLE, Int.reduceToNat, reduceDIte, Nat.reduceSucc, evI_callP, callPK_some, I8, hk, s39, g1, g2]
  | false =>
  rw [h2] at g2
  obtain ⟨a1, a2, a3⟩ := greatM_small h1
  obtain ⟨b1, b2, b3⟩ := greatM_small h2
  have hb := bytes_len (show m.o.length ≤ 60 by omega) a3
  have hbl := bytesB_len hb
  have hml := msgB_len m
  have q1 := fun g => s45 g m a1 (by omega)
  have q2 := fun g => s46 g m a1 (by omega)
  have q3 := fun g => s43 g m a1
  have q4 := fun g => s43 g n b1
  have q5 := fun g => s47 g m a1
  have q6 := fun g => s48 g m a1
  have q7 := fun g => s49 g m a1
  have q8 := fun g => s50 g m a1
  have q9 := fun g g' => sameB g g' m n a1.1
  have q10 := fun g g' => s42 g g' m n a1.1
  have q14 := fun g g' => sameB g g' m m a1.1
  rw [sameM_self] at q14
  simp only [clientV] at q7 q8
  generalize sameM m n = s1 at q9 q10
  generalize (numO m.o 53 1).1 = k1 at q5 q6
  generalize clientL m = c1 at q7 q8
  simp only [encG_eq] at q1 q2 q3 q4 q5 q6 q7 q8 q9 q10 q14
  by_cases h3 : msgE m = 0
  · rw [msgBV_ok h3] at q1 q2
    have hp := parseM_msgB m h3 [1, 2, 3]
    generalize msgB m = b at q1 q2 hp hml
    have q11 := fun g g' => s26 g g' b b (by omega)
    have q12 := fun g => s21 g b (by omega)
    obtain ⟨x, hx⟩ : ∃ x, x = b ++ [1, 2, 3] := ⟨_, rfl⟩
    have hxl : x.length = b.length + 3 := by rw [hx, List.length_append]; rfl
    have q13 := fun g => s40 g x (by omega)
    rw [← hx] at hp
    rw [hp] at q13
    have hap : ∀ h, appR h 1 1 5 [.int .u8 1, .int .u8 2, .int .u8 3] 3 0 0 b.length (some (.row 0 1 (b.map by8) 5)) = some (.sl 1 0 1 0 (b.length + 3), h.set 0 (.row 1 1 (x.map by8) 5)) := fun h => by rw [hx]; exact appR_by8 h 1 5 0 0 b.length 3 b [1, 2, 3] rfl (by omega) (by omega)
    simp only [msgV, encM_eq] at q13
    simp (disch := first | omega | (simp only [List.length_cons, List.length_nil, List.length_append, List.length_map, List.length_set]; omega) | rfl | (simp only [List.length_cons, List.length_nil, List.length_append, List.length_map, List.length_set, List.length_replicate, List.all_cons, List.all_nil, List.all_append, storable, plainB, Bool.and_self]; done)) only [go_sem, reduceCtorEq, ↓reduceIte, Nat.reduceEqDiff, Nat.reduceAdd, Nat.reduceSub, Nat.reduceMul, Nat.reduceLeDiff, Nat.reduceLT, Nat.reduceBEq, Nat.reduceBNe, Int.reduceAdd, Int.reduceSub, Int.reduceMul, Int.reduceNeg, Int.reduceEq, Int.reduceNe, Int.reduceLT, Int.reduceLE, Int.reduceToNat, reduceDIte, Nat.reduceSucc, evI_callP, callPK_some, I8, hk, s39, g1, g2, q1, q2, q3, q4, q5, q6, q7, q8, q9, q10, q11, q12, q13, q14, hap, hxl, onoG]
  · rw [msgBV_err rfl h3] at q1 q2
    have q11 := fun g g' => s26 g g' [] [] (by simp)
    simp only [List.map_nil, bs] at q11
    simp (disch := first | omega | (simp only [List.length_cons, List.length_nil, List.length_append, List.length_map, List.length_set]; omega) | rfl | (simp only [List.length_cons, List.length_nil, List.length_append, List.length_map, List.length_set, List.length_replicate, List.all_cons, List.all_nil, List.all_append, storable, plainB, Bool.and_self]; done)) only [go_sem, reduceCtorEq, ↓reduceIte, Nat.reduceEqDiff, Nat.reduceAdd, Nat.reduceSub, Nat.reduceMul, Nat.reduceLeDiff, Nat.reduceLT, Nat.reduceBEq, Nat.reduceBNe, Int.reduceAdd, Int.reduceSub, Int.reduceMul, Int.reduceNeg, Int.reduceEq, Int.reduceNe, Int.reduceLT, Int.reduceLE, Int.reduceToNat, reduceDIte, Nat.reduceSucc, evI_callP, callPK_some, I8, hk, s39, g1, g2, q1, q2, q3, q4, q5, q6, q7, q8, q9, q10, q11, h3]

theorem law9 (m : Msg) (kind : Int) (yi server : UInt32) (l : List Opt) : pcall E 9 [.agg (encG false m), .int .i64 kind, .int .u32 (yi.toNat : Int), .int .u32 (server.toNat : Int), opts false l] = some (.bool true, []) := by
  rw [pcall_go (fn := I9) rfl rfl rfl]
  have hk : E.keep 9 = false := rfl
  have g1 := fun g => s44 g m
  have g2 := fun g => s44 g { zeroM with o := l }
  simp only [encG_eq] at g1 ⊢
  simp only [encG_eq, zeroM, show ((UInt8.toNat 0 : Nat) : Int) = 0 from rfl, show ((UInt16.toNat 0 : Nat) : Int) = 0 from rfl, show ((UInt32.toNat 0 : Nat) : Int) = 0 from rfl] at g2
  cases h1 : greatM m with
  | true =>
    rw [h1] at g1
    simp (disch := first | omega | (simp only [List.length_cons, List.length_nil, List.length_append, List.length_map, List.length_set]; omega) | rfl | (simp only [List.length_cons, List.length_nil, List.length_append, List.length_map, List.length_set, List.length_replicate, List.all_cons, List.all_nil, List.all_append, storable, plainB, Bool.and_self]; done)) only [go_sem, reduceCtorEq, ↓reduceIte, Nat.reduceEqDiff, Nat.reduceAdd, Nat.reduceSub, Nat.reduceMul, Nat.reduceLeDiff, Nat.reduceLT, Nat.reduceBEq, Nat.reduceBNe, Int.reduceAdd, Int.reduceSub, Int.reduceMul, Int.reduceNeg, Int.reduceEq, Int.reduceNe, Int.reduceLT, Int.reduceLE, Int.reduceToNat, reduceDIte, Nat.reduceSucc, evI_callP, callPK_some, I9, hk, s39, g1]
  | false =>
  rw [h1] at g1
  have e2 : ∀ l, greatM { zeroM with o := l } = (decide (40 < l.length) || bigO l) := fun l => rfl
  cases h2 : greatM { zeroM with o := l } with
  | true =>
    simp only [zeroM] at h2
    rw [h2] at g2
    simp (disch := first | omega | (simp only [List.length_cons, List.length_nil, List.length_append, List.length_map, List.length_set]; omega) | rfl | (simp only [List.length_cons, List.length_nil, List.length_append, List.length_map, List.length_set, List.length_replicate, List.all_cons, List.all_nil, List.all_append, storable, plainB, Bool.and_self]; done)) only [go_sem, reduceCtorEq, ↓reduceIte, Nat.reduceEqDiff, Nat.reduceAdd, Nat.reduceSub, Nat.reduceMul, Nat.reduceLeDiff, Nat.reduceLT, Nat.reduceBEq, Nat.reduceBNe, Int.reduceAdd, Int.reduceSub, Int.reduceMul, Int.reduceNeg, Int.reduceEq, Int.reduceNe, Int.reduceLT, Int.reduceLE, Int.reduceToNat, reduceDIte, Nat.reduceSucc, evI_callP, callPK_some, I9, hk, s39, g1, g2]
  | false =>
  obtain ⟨a1, a2, a3⟩ := greatM_small h1
  obtain ⟨b1, b2, b3⟩ := greatM_small h2
  simp only [zeroM] at h2
  rw [h2] at g2
  simp only at b1 b2 b3
  have hs := server.toNat_lt
  obtain ⟨a, ha⟩ : ∃ a, a = answerM m kind yi server l := ⟨_, rfl⟩
  have sa : small a.o := by
    rw [ha]
    refine ⟨by simp [answerM]; omega, fun o ho => ?_⟩
    simp only [answerM, List.mem_cons] at ho
    rcases ho with rfl | rfl | ho
    · simp [oneO]
    · simp [ipO, encb_length]
    · have := b3 o ho; omega
  have q1 := fun g g' => s52 g g' m kind yi server l b1
  have q2 := fun g g' => s53 g g' m kind yi server l b1
  have q3 := fun g => s43 g m a1
  have q4 := fun g => s43 g a sa
  have q5 := fun g => s25 g l b1
  have q6 := fun g g' => s42 g g' a a sa.1
  rw [sameM_self] at q6
  have q7 := fun g => s32 g a.o 54 4 sa
  have q8 := fun g => s47 g a sa
  have n7 : numO a.o 54 4 = (server.toNat, true) := by
    rw [ha]
    simp [numO, answerM, findO, oneO, ipO, encb_length]
    exact num_encb_of (by omega)
  have n8 : (numO a.o 53 1).1 = (kb kind).toNat := by
    rw [ha]
    simp [numO, answerM, findO, oneO, num]
  rw [n7] at q7
  rw [n8] at q8
  rw [← ha] at q1 q2
  have hw := kb_eq kind
  have hw2 := wbi (kb kind)
  have f1 : a.xid = m.xid := by rw [ha]; rfl
  have f2 : a.yi = yi := by rw [ha]; rfl
  have f3 : a.op = 2 := by rw [ha]; rfl
  have f4 : a.a = m.a := by rw [ha]; rfl
  have f5 : a.b = m.b := by rw [ha]; rfl
  have f6 : a.c = m.c := by rw [ha]; rfl
  have f7 : a.d = m.d := by rw [ha]; rfl
  have f8 : a.e = m.e := by rw [ha]; rfl
  have f9 : a.f = m.f := by rw [ha]; rfl
  clear ha sa n7 n8
  simp only [encG_eq, f1, f2, f3, f4, f5, f6, f7, f8, f9, show ((UInt8.toNat 2 : Nat) : Int) = 2 from rfl, show ((UInt8.toNat 54 : Nat) : Int) = 54 from rfl, numV] at q1 q2 q3 q4 q5 q6 q7 q8
  simp (disch := first | omega | (simp only [List.length_cons, List.length_nil, List.length_append, List.length_map, List.length_set]; omega) | rfl | (simp only [List.length_cons, List.length_nil, List.length_append, List.length_map, List.length_set, List.length_replicate, List.all_cons, List.all_nil, List.all_append, storable, plainB, Bool.and_self]; done)) only [go_sem, reduceCtorEq, ↓reduceIte, Nat.reduceEqDiff, Nat.reduceAdd, Nat.reduceSub, Nat.reduceMul, Nat.reduceLeDiff, Nat.reduceLT, Nat.reduceBEq, Nat.reduceBNe, Int.reduceAdd, Int.reduceSub, Int.reduceMul, Int.reduceNeg, Int.reduceEq, Int.reduceNe, Int.reduceLT, Int.reduceLE, Int.reduceToNat, reduceDIte, Nat.reduceSucc, evI_callP, callPK_some, I9, hk, s39, g1, g2, q1, q2, q3, q4, q5, q6, q7, q8, hw, hw2, onoG]

structure Mac where
  a : UInt8
  b : UInt8
  c : UInt8
  d : UInt8
  e : UInt8
  f : UInt8
def macC (x : Mac) : List AV := [.int .u8 (x.a.toNat : Int), .int .u8 (x.b.toNat : Int), .int .u8 (x.c.toNat : Int), .int .u8 (x.d.toNat : Int), .int .u8 (x.e.toNat : Int), .int .u8 (x.f.toNat : Int)]
theorem macC_eq (x : Mac) : macC x = [.int .u8 (x.a.toNat : Int), .int .u8 (x.b.toNat : Int), .int .u8 (x.c.toNat : Int), .int .u8 (x.d.toNat : Int), .int .u8 (x.e.toNat : Int), .int .u8 (x.f.toNat : Int)] := rfl
def withMac (m : Msg) (x : Mac) (l : List Opt) : Msg := ⟨m.op, m.xid, m.secs, m.wide, m.ci, m.yi, m.si, m.gi, x.a, x.b, x.c, x.d, x.e, x.f, l⟩
theorem size_mk (l : List UInt8) : (Array.mk l).size = l.length := rfl
theorem law10 (m : Msg) (x y : Mac) (id : List UInt8) : pcall E 10 [.agg (encG false m), .agg (macC x), .agg (macC y), bs false id] = some (.bool true, []) := by
  rw [pcall_go (fn := I10) rfl rfl rfl]
  have hk : E.keep 10 = false := rfl
  have g1 := fun g => s44 g m
  simp only [encG_eq, macC_eq] at g1 ⊢
  cases h1 : greatM m with
  | true =>
    rw [h1] at g1
    simp (disch := first | omega | (simp only [List.length_cons, List.length_nil, List.length_append, List.length_map, List.length_set]; omega) | rfl | (simp only [List.length_cons, List.length_nil, List.length_append, List.length_map, List.length_set, List.length_replicate, List.all_cons, List.all_nil, List.all_append, storable, plainB, Bool.and_self]; done)) only [go_sem, reduceCtorEq, ↓reduceIte, Nat.reduceEqDiff, Nat.reduceAdd, Nat.reduceSub, Nat.reduceMul, Nat.reduceLeDiff, Nat.reduceLT, Nat.reduceBEq, Nat.reduceBNe, Int.reduceAdd, Int.reduceSub, Int.reduceMul, Int.reduceNeg, Int.reduceEq, Int.reduceNe, Int.reduceLT, Int.reduceLE, Int.reduceToNat, reduceDIte, Nat.reduceSucc, evI_callP, callPK_some, I10, hk, s39, g1]
  | false =>
  rw [h1] at g1
  by_cases h2 : (300 : Int) < id.length
  · simp (disch := first | omega | (simp only [List.length_cons, List.length_nil, List.length_append, List.length_map, List.length_set]; omega) | rfl | (simp only [List.length_cons, List.length_nil, List.length_append, List.length_map, List.length_set, List.length_replicate, List.all_cons, List.all_nil, List.all_append, storable, plainB, Bool.and_self]; done)) only [go_sem, reduceCtorEq, ↓reduceIte, Nat.reduceEqDiff, Nat.reduceAdd, Nat.reduceSub, Nat.reduceMul, Nat.reduceLeDiff, Nat.reduceLT, Nat.reduceBEq, Nat.reduceBNe, Int.reduceAdd, Int.reduceSub, Int.reduceMul, Int.reduceNeg, Int.reduceEq, Int.reduceNe, Int.reduceLT, Int.reduceLE, Int.reduceToNat, reduceDIte, Nat.reduceSucc, evI_callP, callPK_some, I10, hk, s39, g1, h2]
  obtain ⟨d1, hd1⟩ : ∃ d : List UInt8, d = [1] := ⟨_, rfl⟩
  have hl1 : d1.length = 1 := by rw [hd1]; rfl
  have q1 := fun g => s49 g (withMac m x []) ⟨by simp [withMac], fun o ho => by simp [withMac] at ho⟩
  have q2 := fun g => s49 g (withMac m y [(53, d1), (61, [])]) ⟨by simp [withMac], fun o ho => by
    simp only [withMac, List.mem_cons, List.not_mem_nil, or_false] at ho
    rcases ho with rfl | rfl
    · show d1.length ≤ _; omega
    · simp⟩
  have q3 := fun g => s49 g { m with o := [(61, id)] } ⟨by simp, fun o ho => by
    simp only [List.mem_cons, List.not_mem_nil, or_false] at ho
    subst ho
    show id.length ≤ _
    omega⟩
  have q4 := s36 53 1
  have c1 : clientV (withMac m x []) = .str ⟨⟨[1, x.a, x.b, x.c, x.d, x.e, x.f]⟩⟩ := rfl
  have c2 : clientV (withMac m y [(53, d1), (61, [])]) = .str ⟨⟨[1, y.a, y.b, y.c, y.d, y.e, y.f]⟩⟩ := rfl
  have c3 : clientV { m with o := [(61, id)] } = .str ⟨⟨if id.length = 0 then [1, m.a, m.b, m.c, m.d, m.e, m.f] else id⟩⟩ := rfl
  rw [c1] at q1
  rw [c2] at q2
  rw [c3] at q3
  simp only [one_eq, ← hd1, encO_mk, show ((UInt8.toNat 53 : Nat) : Int) = 53 from rfl, show ((UInt8.toNat 1 : Nat) : Int) = 1 from rfl] at q4
  simp only [encG_eq, withMac, opts, recs, List.map_cons, List.map_nil, encO_mk, bs, show ((UInt8.toNat 53 : Nat) : Int) = 53 from rfl, show ((UInt8.toNat 61 : Nat) : Int) = 61 from rfl] at q1 q2 q3 q4
  have hs : (decide ((x.a.toNat : Int) = (y.a.toNat : Int)) && (decide ((x.b.toNat : Int) = (y.b.toNat : Int)) && (decide ((x.c.toNat : Int) = (y.c.toNat : Int)) && (decide ((x.d.toNat : Int) = (y.d.toNat : Int)) && (decide ((x.e.toNat : Int) = (y.e.toNat : Int)) && (decide ((x.f.toNat : Int) = (y.f.toNat : Int)))))))) = decide ([1, x.a, x.b, x.c, x.d, x.e, x.f] = [1, y.a, y.b, y.c, y.d, y.e, y.f]) := by
    simp only [by8_neq]
    simp [Bool.decide_and]
  have hs' := str_beq [1, x.a, x.b, x.c, x.d, x.e, x.f] [1, y.a, y.b, y.c, y.d, y.e, y.f]
  generalize decide ([1, x.a, x.b, x.c, x.d, x.e, x.f] = [1, y.a, y.b, y.c, y.d, y.e, y.f]) = t at hs hs'
  by_cases h3 : id.length = 0
  · have h3' : (id.length : Int) = 0 := by omega
    rw [if_pos h3] at q3
    simp (disch := first | omega | (simp only [List.length_cons, List.length_nil, List.length_append, List.length_map, List.length_set]; omega) | rfl | (simp only [List.length_cons, List.length_nil, List.length_append, List.length_map, List.length_set, List.length_replicate, List.all_cons, List.all_nil, List.all_append, storable, plainB, Bool.and_self]; done)) only [go_sem, reduceCtorEq, ↓reduceIte, Nat.reduceEqDiff, Nat.reduceAdd, Nat.reduceSub, Nat.reduceMul, Nat.reduceLeDiff, Nat.reduceLT, Nat.reduceBEq, Nat.reduceBNe, Int.reduceAdd, Int.reduceSub, Int.reduceMul, Int.reduceNeg, Int.reduceEq, Int.reduceNe, Int.reduceLT, Int.reduceLE, Int.reduceToNat, reduceDIte, Nat.reduceSucc, evI_callP, callPK_some, I10, hk, s39, g1, h2, q1, q2, q3, q4, hs, hs', size_mk, h3', Int.reduceEq]
  · have h3' : ¬ (id.length : Int) = 0 := by omega
    have h4' : (0 : Int) < id.length := by omega
    rw [if_neg h3] at q3
    simp (disch := first | omega | (simp only [List.length_cons, List.length_nil, List.length_append, List.length_map, List.length_set]; omega) | rfl | (simp only [List.length_cons, List.length_nil, List.length_append, List.length_map, List.length_set, List.length_replicate, List.all_cons, List.all_nil, List.all_append, storable, plainB, Bool.and_self]; done)) only [go_sem, reduceCtorEq, ↓reduceIte, Nat.reduceEqDiff, Nat.reduceAdd, Nat.reduceSub, Nat.reduceMul, Nat.reduceLeDiff, Nat.reduceLT, Nat.reduceBEq, Nat.reduceBNe, Int.reduceAdd, Int.reduceSub, Int.reduceMul, Int.reduceNeg, Int.reduceEq, Int.reduceNe, Int.reduceLT, Int.reduceLE, Int.reduceToNat, reduceDIte, Nat.reduceSucc, evI_callP, callPK_some, I10, hk, s39, g1, h2, q1, q2, q3, q4, hs, hs', size_mk, h3', h4', Int.reduceEq]

theorem law11 (m : Msg) (kind : UInt8) (yi server mask : UInt32) : pcall E 11 [.agg (encG false m), .int .u8 (kind.toNat : Int), .int .u32 (yi.toNat : Int), .int .u32 (server.toNat : Int), .int .u32 (mask.toNat : Int)] = some (.bool true, []) := by
  rw [pcall_go (fn := I11) rfl rfl rfl]
  have hk : E.keep 11 = false := rfl
  have g1 := fun g => s44 g m
  simp only [encG_eq] at g1 ⊢
  cases h1 : greatM m with
  | true =>
    rw [h1] at g1
    simp (disch := first | omega | (simp only [List.length_cons, List.length_nil, List.length_append, List.length_map, List.length_set]; omega) | rfl | (simp only [List.length_cons, List.length_nil, List.length_append, List.length_map, List.length_set, List.length_replicate, List.all_cons, List.all_nil, List.all_append, storable, plainB, Bool.and_self]; done)) only [go_sem, reduceCtorEq, ↓reduceIte, Nat.reduceEqDiff, Nat.reduceAdd, Nat.reduceSub, Nat.reduceMul, Nat.reduceLeDiff, Nat.reduceLT, Nat.reduceBEq, Nat.reduceBNe, Int.reduceAdd, Int.reduceSub, Int.reduceMul, Int.reduceNeg, Int.reduceEq, Int.reduceNe, Int.reduceLT, Int.reduceLE, Int.reduceToNat, reduceDIte, Nat.reduceSucc, evI_callP, callPK_some, I11, hk, s39, g1]
  | false =>
  rw [h1] at g1
  obtain ⟨a1, a2, a3⟩ := greatM_small h1
  have hb := bytes_len (show m.o.length ≤ 60 by omega) a3
  have hbl := bytesB_len hb
  have hml := msgB_len m
  have hmd := msgB_drop m
  have ms := mask.toNat_lt
  have ss := server.toNat_lt
  have q1 := fun g => s28 g m.o a1 (by omega)
  have q2 := fun g => s45 g m a1 (by omega)
  have q3 := s35 1 mask.toNat (by omega)
  have hkb : kb (kind.toNat : Int) = kind := by
    have := kind.toNat_lt
    unfold kb
    rw [Int.emod_eq_of_lt (by omega) (by omega), Int.toNat_natCast, UInt8.ofNat_toNat]
  obtain ⟨a, ha⟩ : ∃ a, a = answerM m (kind.toNat : Int) yi server [ipO 1 mask.toNat] := ⟨_, rfl⟩
  have hao : a.o = [oneO 53 kind, ipO 54 server.toNat, ipO 1 mask.toNat] := by rw [ha]; show [oneO 53 (kb _), _, _] = _; rw [hkb]
  have sa : small a.o := by
    rw [hao]
    refine ⟨by simp, fun o ho => ?_⟩
    simp only [List.mem_cons, List.not_mem_nil, or_false] at ho
    rcases ho with rfl | rfl | rfl
    · simp [oneO]
    · simp [ipO, encb_length]
    · simp [ipO, encb_length]
  have sl1 : small [ipO 1 mask.toNat] := ⟨by simp, fun o ho => by
    simp only [List.mem_cons, List.not_mem_nil, or_false] at ho
    subst ho
    simp [ipO, encb_length]⟩
  have ob : optsB a.o = [53, 1, kind, 54, 4] ++ encb 4 server.toNat ++ [1, 4] ++ encb 4 mask.toNat := by
    rw [hao]
    simp [optsB, optB, oneO, ipO, encb_length]
  have obl : (optsB a.o).length = 15 := by
    rw [ob]
    simp only [List.length_append, encb_length, List.length_cons, List.length_nil]
  have be : bytesE a.o = 0 := by
    rw [hao]
    simp [bytesE, oneO, ipO, encb_length]
  have bbl : (bytesB a.o).length = 16 := by
    rw [show bytesB a.o = optsB a.o ++ [255] from if_pos be, List.length_append, obl]
    rfl
  have aop : a.op = 2 := by rw [ha]; rfl
  have ae : msgE a = 0 := msgE_0 (by rw [aop]; exact .inr rfl) be (by omega)
  have q4 := fun g g' => s52 g g' m (kind.toNat : Int) yi server [ipO 1 mask.toNat] sl1
  rw [← ha] at q4
  have q5 := fun g => s45 g a sa (by omega)
  rw [msgBV_ok ae] at q5
  have cl := msgB_len a
  rw [bbl] at cl
  have hp := parseM_msgB a ae []
  rw [List.append_nil] at hp
  generalize msgB a = c at q5 cl hp
  have q6 := fun g => s40 g c (by omega)
  rw [hp] at q6
  have q7 := fun g => s32 g a.o 1 4 sa
  have n7 : numO a.o 1 4 = (mask.toNat, true) := by
    rw [hao]
    simp [numO, findO, oneO, ipO, encb_length]
    exact num_encb_of (by omega)
  rw [n7] at q7
  have q8 := fun g => s47 g a sa
  have n8 : (numO a.o 53 1).1 = kind.toNat := by
    rw [hao]
    simp [numO, findO, oneO, num]
  rw [n8] at q8
  have q9 := fun g g' => sameB g g' a a sa.1
  rw [sameM_self] at q9
  have hw := wbi kind
  obtain ⟨d1, hd1⟩ : ∃ d, d = encb 4 mask.toNat := ⟨_, rfl⟩
  simp only [ip_eq, ← hd1, encO_mk, opts, recs, List.map_cons, List.map_nil, show ((UInt8.toNat 1 : Nat) : Int) = 1 from rfl, show ((UInt8.toNat 54 : Nat) : Int) = 54 from rfl] at q3 q4
  clear ha hao sa n7 n8 hp sl1
  simp only [bytesV] at q1
  simp only [encG_eq, encM_eq, msgV, numV, show ((UInt8.toNat 1 : Nat) : Int) = 1 from rfl, opts, recs, bs] at q1 q2 q4 q5 q6 q7 q8 q9
  by_cases h3 : msgE m = 0
  · rw [msgBV_ok h3] at q2
    have hbe : bytesE m.o = 0 := by
      by_cases hh : bytesE m.o = 0
      · exact hh
      · by_cases ho : m.op.toNat = 1 ∨ m.op.toNat = 2
        · rw [msgE_2 ho hh] at h3; exact absurd h3 hh
        · rw [msgE_1 ho] at h3; omega
    rw [hbe] at q1
    generalize bytesB m.o = o at *
    generalize msgB m = b at *
    have hw0 : IntKind.i64.wrap (240 + (o.length : Int)) = 240 + (o.length : Int) := w64 (by omega) (by omega)
    have hml' : (b.length : Int) = 240 + (o.length : Int) := by omega
    have q10 := fun g g' => s26 g g' o o (by omega)
    have hsl := fun h g => slice_by_in h g b .i64 240 (by omega) (by omega)
    rw [show Int.toNat 240 = 240 from rfl, hmd] at hsl
    simp (disch := first | omega | (simp only [List.length_cons, List.length_nil, List.length_append, List.length_map, List.length_set]; omega) | rfl | (simp only [List.length_cons, List.length_nil, List.length_append, List.length_map, List.length_set, List.length_replicate, List.all_cons, List.all_nil, List.all_append, storable, plainB, Bool.and_self]; done)) only [go_sem, reduceCtorEq, ↓reduceIte, Nat.reduceEqDiff, Nat.reduceAdd, Nat.reduceSub, Nat.reduceMul, Nat.reduceLeDiff, Nat.reduceLT, Nat.reduceBEq, Nat.reduceBNe, Int.reduceAdd, Int.reduceSub, Int.reduceMul, Int.reduceNeg, Int.reduceEq, Int.reduceNe, Int.reduceLT, Int.reduceLE, Int.reduceToNat, reduceDIte, Nat.reduceSucc, evI_callP, callPK_some, I11, hk, s39, g1, q1, q2, q3, q4, q5, q6, q7, q8, q9, q10, hw, hw0, hml', hsl, cl, onoG, Int.reduceEq]
  · rw [msgBV_err rfl h3] at q2
    generalize bytesE m.o = e at *
    generalize bytesB m.o = o at *
    simp (disch := first | omega | (simp only [List.length_cons, List.length_nil, List.length_append, List.length_map, List.length_set]; omega) | rfl | (simp only [List.length_cons, List.length_nil, List.length_append, List.length_map, List.length_set, List.length_replicate, List.all_cons, List.all_nil, List.all_append, storable, plainB, Bool.and_self]; done)) only [go_sem, reduceCtorEq, ↓reduceIte, Nat.reduceEqDiff, Nat.reduceAdd, Nat.reduceSub, Nat.reduceMul, Nat.reduceLeDiff, Nat.reduceLT, Nat.reduceBEq, Nat.reduceBNe, Int.reduceAdd, Int.reduceSub, Int.reduceMul, Int.reduceNeg, Int.reduceEq, Int.reduceNe, Int.reduceLT, Int.reduceLE, Int.reduceToNat, reduceDIte, Nat.reduceSucc, evI_callP, callPK_some, I11, hk, s39, g1, q1, q2, q3, q4, q5, q6, q7, q8, q9, hw, cl, onoG, h3, Int.reduceEq]
end Go.Fw.Wd
