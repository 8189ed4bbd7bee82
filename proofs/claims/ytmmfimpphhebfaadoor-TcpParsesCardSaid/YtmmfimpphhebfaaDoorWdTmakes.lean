/-
  Segments by the document: what is made; what is made is parsed as it was. Conditions: stated at each.
  What is made is parsed as it was. Conditions: stated at each.
-/
import Derived.Test.YtmmfimpphhebfaaDoorWdTmk
set_option linter.unusedVariables false
set_option linter.unusedSimpArgs false
namespace Go.Fw.Wd
open Go.Proofs Code_

theorem s30 (p q : Nat) (f : UInt8) (raw : List UInt8) (hl : raw.length ≤ 1048576) : pcall E 30 [.agg (segC p q f raw)] = some (.agg (segC p q f raw), []) := by
  rw [pcall_go (fn := I30) rfl rfl rfl]
  have hk : E.keep 30 = false := rfl
  have q1 := fun g => s25 g raw (by omega)
  simp only [segC_eq]
  simp (disch := first | omega | (simp only [List.length_cons, List.length_nil, List.length_append, List.length_map, List.length_set]; omega) | rfl | (simp only [List.length_cons, List.length_nil, List.length_append, List.length_map, List.length_set, List.length_replicate, List.all_cons, List.all_nil, List.all_append, storable, plainB, Bool.and_self]; done)) only [go_sem, reduceCtorEq, ↓reduceIte, Nat.reduceEqDiff, Nat.reduceAdd, Nat.reduceSub, Nat.reduceMul, Nat.reduceLeDiff, Nat.reduceLT, Nat.reduceBEq, Nat.reduceBNe, Int.reduceAdd, Int.reduceSub, Int.reduceMul, Int.reduceNeg, Int.reduceEq, Int.reduceNe, Int.reduceLT, Int.reduceLE, Int.reduceToNat, reduceDIte, Nat.reduceSucc, evI_callP, callPK_some, I30, hk, q1]
theorem same_self (p q : Nat) (f : UInt8) (raw : List UInt8) : pcall E 29 [.agg (segC p q f raw), .agg (segC p q f raw)] = some (.bool true, []) := by
  rw [pcall_go (fn := I29) rfl rfl rfl]
  have hk : E.keep 29 = false := rfl
  simp only [segC_eq]
  simp (disch := first | omega | (simp only [List.length_cons, List.length_nil, List.length_append, List.length_map, List.length_set]; omega) | rfl | (simp only [List.length_cons, List.length_nil, List.length_append, List.length_map, List.length_set, List.length_replicate, List.all_cons, List.all_nil, List.all_append, storable, plainB, Bool.and_self]; done)) only [go_sem, reduceCtorEq, ↓reduceIte, Nat.reduceEqDiff, Nat.reduceAdd, Nat.reduceSub, Nat.reduceMul, Nat.reduceLeDiff, Nat.reduceLT, Nat.reduceBEq, Nat.reduceBNe, Int.reduceAdd, Int.reduceSub, Int.reduceMul, Int.reduceNeg, Int.reduceEq, Int.reduceNe, Int.reduceLT, Int.reduceLE, Int.reduceToNat, reduceDIte, Nat.reduceSucc, evI_callP, callPK_some, I29, hk, toStr_by8, cells_by8]

theorem make_err (g : Bool) (p q : Nat) (f : UInt8) (body : List UInt8) (hb : 1460 < body.length) (a b : UInt32) : pcall E 35 [.int .u16 (p : Int), .int .u16 (q : Int), .int .u8 (f.toNat : Int), bs g body, .int .u32 (a.toNat : Int), .int .u32 (b.toNat : Int)] =
    some (.tup [.agg (segC 0 0 0 []), errV 1 11], []) := by
  rw [pcall_go (fn := I35) rfl rfl rfl]
  have hk : E.keep 35 = false := rfl
  have h1 : (1460 : Int) < body.length := by omega
  have q3 := s88 1 11 (by omega) (by omega)
  have z0 : ((UInt8.toNat 0 : Nat) : Int) = 0 := rfl
  unfold errV at q3 ⊢
  rw [if_neg (by omega)] at q3 ⊢
  simp only [faultV, segC_eq] at q3 ⊢
  simp (disch := first | omega | (simp only [List.length_cons, List.length_nil, List.length_append, List.length_map, List.length_set]; omega) | rfl | (simp only [List.length_cons, List.length_nil, List.length_append, List.length_map, List.length_set, List.length_replicate, List.all_cons, List.all_nil, List.all_append, storable, plainB, Bool.and_self]; done)) only [go_sem, reduceCtorEq, ↓reduceIte, Nat.reduceEqDiff, Nat.reduceAdd, Nat.reduceSub, Nat.reduceMul, Nat.reduceLeDiff, Nat.reduceLT, Nat.reduceBEq, Nat.reduceBNe, Int.reduceAdd, Int.reduceSub, Int.reduceMul, Int.reduceNeg, Int.reduceEq, Int.reduceNe, Int.reduceLT, Int.reduceLE, Int.reduceToNat, reduceDIte, Nat.reduceSucc, evI_callP, callPK_some, I35, hk, h1, q3, z0, Int.natCast_zero]
theorem rmake_err (g : Bool) (p q : Nat) (f : UInt8) (body : List UInt8) (hb : 1460 < body.length) (a b : UInt32) : pcall E 36 [.int .u16 (p : Int), .int .u16 (q : Int), .int .u8 (f.toNat : Int), bs g body, .int .u32 (a.toNat : Int), .int .u32 (b.toNat : Int)] =
    some (.tup [.agg (segC 0 0 0 []), .agg (faultC 1 11)], []) := by
  rw [pcall_go (fn := I36) rfl rfl rfl]
  have hk : E.keep 36 = false := rfl
  have h1 : (1460 : Int) < body.length := by omega
  have q3 := new1 11
  have z0 : ((UInt8.toNat 0 : Nat) : Int) = 0 := rfl
  unfold faultC at q3 ⊢
  rw [if_neg (by omega)] at q3 ⊢
  simp only [segC_eq]
  simp (disch := first | omega | (simp only [List.length_cons, List.length_nil, List.length_append, List.length_map, List.length_set]; omega) | rfl | (simp only [List.length_cons, List.length_nil, List.length_append, List.length_map, List.length_set, List.length_replicate, List.all_cons, List.all_nil, List.all_append, storable, plainB, Bool.and_self]; done)) only [go_sem, reduceCtorEq, ↓reduceIte, Nat.reduceEqDiff, Nat.reduceAdd, Nat.reduceSub, Nat.reduceMul, Nat.reduceLeDiff, Nat.reduceLT, Nat.reduceBEq, Nat.reduceBNe, Int.reduceAdd, Int.reduceSub, Int.reduceMul, Int.reduceNeg, Int.reduceEq, Int.reduceNe, Int.reduceLT, Int.reduceLE, Int.reduceToNat, reduceDIte, Nat.reduceSucc, evI_callP, callPK_some, I36, hk, h1, q3, z0, Int.natCast_zero]
theorem over2 (l : List UInt8) (a b : UInt8) (h : 18 ≤ l.length) : over l 16 [a, b] = (l.set 16 a).set 17 b := by
  have e : l = l.take 16 ++ (nth l 16 :: nth l 17 :: l.drop 18) := by
    have h1 := drop_nth l 16 (by omega)
    have h2 := drop_nth l 17 (by omega)
    rw [← h2, ← h1, List.take_append_drop]
  have hl : (l.take 16).length = 16 := by rw [List.length_take]; omega
  unfold over
  show l.take 16 ++ [a, b] ++ l.drop 18 = _
  conv => rhs; rw [e]
  rw [List.set_append_right _ _ (by omega), List.set_append_right _ _ (by omega), hl]
  simp
theorem s36 (g : Bool) (p q : Nat) (hp : p < 65536) (hq : q < 65536) (f : UInt8) (body : List UInt8) (hb : body.length ≤ 1460) (a b : UInt32) : pcall E 36 [.int .u16 (p : Int), .int .u16 (q : Int), .int .u8 (f.toNat : Int), bs g body, .int .u32 (a.toNat : Int), .int .u32 (b.toNat : Int)] =
    some (.tup [.agg (segC p q f (rawT p q f body a b)), .agg [.rs false 1 [], .int .i64 0]], []) := by
  rw [pcall_go (fn := I36) rfl rfl rfl]
  have hk : E.keep 36 = false := rfl
  have h1 : ¬ (1460 : Int) < body.length := by omega
  have w1 : IntKind.i64.wrap (p : Int) = (p : Int) := w64 (by omega) (by omega)
  have w2 : IntKind.i64.wrap (q : Int) = (q : Int) := w64 (by omega) (by omega)
  have q1 := s104 p (by omega)
  have q2 := s104 q (by omega)
  obtain ⟨d1, e1⟩ : ∃ d, d = encb 2 p := ⟨_, rfl⟩
  obtain ⟨d2, e2⟩ : ∃ d, d = encb 2 q := ⟨_, rfl⟩
  have l1 : d1.length = 2 := by rw [e1, encb_length]
  have l2 : d2.length = 2 := by rw [e2, encb_length]
  obtain ⟨x1, y1⟩ : ∃ x, x = d1 ++ d2 := ⟨_, rfl⟩
  obtain ⟨x2, y2⟩ : ∃ x, x = x1 ++ [0, 0, 0, 0, 0, 0, 0, 0, 80, f, 0, 0, 0, 0, 0, 0] := ⟨_, rfl⟩
  obtain ⟨x3, y3⟩ : ∃ x, x = x2 ++ body := ⟨_, rfl⟩
  have z1 : x1.length = 4 := by rw [y1, List.length_append, l1, l2]
  have z2 : x2.length = 20 := by rw [y2, List.length_append, z1]; rfl
  have z3 : x3.length = 20 + body.length := by rw [y3, List.length_append, z2]
  have hx : headT p q f ++ body = x3 := by rw [y3, y2, y1, e1, e2]; rfl
  have q3 := s99 a b 6 x3.length (by omega) (by omega)
  have le := endsP_len a b 6 x3.length
  have hsT : sumT x3 a b = 65535 - foldN (sumW (endsP a b 6 x3.length ++ x3)) := by rw [endsP_6]; rfl
  unfold rawT
  rw [hx, hsT]
  rw [z3] at q3 le ⊢
  generalize endsP a b 6 (20 + body.length) = en at *
  obtain ⟨w, hw⟩ : ∃ w, w = en ++ x3 := ⟨_, rfl⟩
  have lw : w.length = 32 + body.length := by rw [hw, List.length_append, le, z3]; omega
  rw [← hw]
  have q4 := fun g => s105 g w (by omega)
  have hs : 65535 - foldN (sumW w) < 65536 := by omega
  generalize 65535 - foldN (sumW w) = s at *
  rw [two_eq s, over2 _ _ _ (by omega)]
  obtain ⟨x4, y4⟩ : ∃ x, x = x3.set 16 (UInt8.ofNat (s / 256)) := ⟨_, rfl⟩
  obtain ⟨x5, y5⟩ : ∃ x, x = x4.set 17 (UInt8.ofNat s) := ⟨_, rfl⟩
  have z4 : x4.length = 20 + body.length := by rw [y4, List.length_set, z3]
  have z5 : x5.length = 20 + body.length := by rw [y5, List.length_set, z4]
  rw [← y4, ← y5]
  have a1 : ∀ h, appR h 1 1 5 (d2.map by8) 2 2 0 2 (some (.row 0 1 (d1.map by8) 5)) = some (.sl 1 2 1 0 4, h.set 2 (.row 1 1 (x1.map by8) 5)) := fun h => by rw [y1]; exact appR_by8 h 1 5 2 0 2 2 d1 d2 l1 (by omega) (by omega)
  have a2 : ∀ h, appR h 1 1 5 [.int .u8 0, .int .u8 0, .int .u8 0, .int .u8 0, .int .u8 0, .int .u8 0, .int .u8 0, .int .u8 0, .int .u8 80, .int .u8 (f.toNat : Int), .int .u8 0, .int .u8 0, .int .u8 0, .int .u8 0, .int .u8 0, .int .u8 0] 16 2 1 4 (some (.row 1 1 (x1.map by8) 5)) = some (.sl 1 2 2 0 20, h.set 2 (.row 2 1 (x2.map by8) 5)) :=
    fun h => by rw [y2]; exact appR_by8 h 1 5 2 1 4 16 x1 [0, 0, 0, 0, 0, 0, 0, 0, 80, f, 0, 0, 0, 0, 0, 0] z1 (by omega) (by omega)
  have a3 : ∀ h, appR h 1 1 5 (body.map by8) body.length 2 2 20 (some (.row 2 1 (x2.map by8) 5)) = some (.sl 1 2 3 0 (20 + body.length), h.set 2 (.row 3 1 (x3.map by8) 5)) := fun h => by rw [y3]; exact appR_by8 h 1 5 2 2 20 body.length x2 body z2 (by omega) (by omega)
  have a4 : ∀ h, appR h 1 1 5 (x3.map by8) (20 + body.length) 4 0 12 (some (.row 0 1 (en.map by8) 5)) = some (.sl 1 4 1 0 (12 + (20 + body.length)), h.set 4 (.row 1 1 (w.map by8) 5)) := fun h => by rw [hw]; exact appR_by8 h 1 5 4 0 12 (20 + body.length) en x3 le (by omega) (by omega)
  have s1 : ∀ h t, stR h 2 3 16 (.int .u8 ((UInt8.ofNat (s / 256)).toNat : Int)) (some (.row 3 1 (x3.map by8) t)) = some (h.set 2 (.row 3 1 (x4.map by8) t)) := fun h t => by rw [y4]; exact stR_by8 h 2 3 16 x3 _ t (by omega)
  have s2 : ∀ h t, stR h 2 3 17 (.int .u8 ((UInt8.ofNat s).toNat : Int)) (some (.row 3 1 (x4.map by8) t)) = some (h.set 2 (.row 3 1 (x5.map by8) t)) := fun h t => by rw [y5]; exact stR_by8 h 2 3 17 x4 _ t (by omega)
  have i16 : ∀ (o0 o1 o3 : AObj) (v : List UInt8) (t : TypeId) (l : Heap), iaddrK (o0 :: o1 :: .row 3 1 (v.map by8) t :: o3 :: l) 1 (.sl 1 2 3 0 (20 + body.length)) (.int .i64 16) = some (.ref 2 3 16, o0 :: o1 :: .row 3 1 (v.map by8) t :: o3 :: l) := fun o0 o1 o3 v t l => iaddrK_sl (o0 :: o1 :: .row 3 1 (v.map by8) t :: o3 :: l) 1 2 3 0 (20 + body.length) .i64 16 (by omega) (by omega) rfl
  have i17 : ∀ (o0 o1 o3 : AObj) (v : List UInt8) (t : TypeId) (l : Heap), iaddrK (o0 :: o1 :: .row 3 1 (v.map by8) t :: o3 :: l) 1 (.sl 1 2 3 0 (20 + body.length)) (.int .i64 17) = some (.ref 2 3 17, o0 :: o1 :: .row 3 1 (v.map by8) t :: o3 :: l) := fun o0 o1 o3 v t l => iaddrK_sl (o0 :: o1 :: .row 3 1 (v.map by8) t :: o3 :: l) 1 2 3 0 (20 + body.length) .i64 17 (by omega) (by omega) rfl
  have v1 := qu16 s 256 (by omega)
  have v2 := rm s 256
  have u1 := wrapU8 (s / 256)
  have u2 := wrapU8 (s % 256)
  rw [wrapU8_mod] at u2
  simp only [Int.cast_ofNat_Int] at v1 v2 q3
  rw [← e1] at q1
  rw [← e2] at q2
  rw [Int.natCast_add] at q3
  simp only [Int.cast_ofNat_Int] at q3
  clear y1 y2 y3 y4 y5 e1 e2 hx hw hsT
  simp only [segC_eq]
  simp (disch := first | omega | (simp only [List.length_cons, List.length_nil, List.length_append, List.length_map, List.length_set]; omega) | rfl | (simp only [List.length_cons, List.length_nil, List.length_append, List.length_map, List.length_set, List.length_replicate, List.all_cons, List.all_nil, List.all_append, storable, plainB, Bool.and_self]; done)) only [go_sem, reduceCtorEq, ↓reduceIte, Nat.reduceEqDiff, Nat.reduceAdd, Nat.reduceSub, Nat.reduceMul, Nat.reduceLeDiff, Nat.reduceLT, Nat.reduceBEq, Nat.reduceBNe, Int.reduceAdd, Int.reduceSub, Int.reduceMul, Int.reduceNeg, Int.reduceEq, Int.reduceNe, Int.reduceLT, Int.reduceLE, Int.reduceToNat, reduceDIte, Nat.reduceSucc, evI_callP, callPK_some, I36, hk, h1, w1, w2, q1, q2, q3, q4, a1, a2, a3, a4, s1, s2, i16, i17, v1, v2, u1, u2, l1, l2, z3, z5, lw, le]
end Go.Fw.Wd
set_option linter.unusedVariables false
set_option linter.unusedSimpArgs false
namespace Go.Fw.Wd
open Go.Proofs Code_

theorem sumW_e (a b : UInt32) (n : Nat) : sumW (endsB a b n) = sumW (encb 4 a.toNat) + (sumW (encb 4 b.toNat) + sumW (encb 2 6 ++ encb 2 (n % 65536))) := by
  have e4 : ∀ v : Nat, (encb 4 v).length % 2 = 0 := fun v => by rw [encb_length]
  unfold endsB
  rw [List.append_assoc, sumW_append _ _ (e4 _), sumW_append _ _ (e4 _)]
theorem sumW_ends (a b : UInt32) (n : Nat) (x : List UInt8) : sumW (endsB b a n ++ x) = sumW (endsB a b n ++ x) := by
  have l12 : ∀ a b : UInt32, (endsB a b n).length % 2 = 0 := fun a b => by rw [endsB_len]
  rw [sumW_append _ _ (l12 b a), sumW_append _ _ (l12 a b), sumW_e, sumW_e]
  omega
/-- A made segment, in three parts. -/
def preT (p q : Nat) (f : UInt8) : List UInt8 := encb 2 p ++ encb 2 q ++ [0, 0, 0, 0, 0, 0, 0, 0, 80, f, 0, 0]
theorem preT_len (p q : Nat) (f : UInt8) : (preT p q f).length = 16 := by simp only [preT, List.length_append, encb_length]; rfl
theorem headT_split (p q : Nat) (f : UInt8) (body : List UInt8) : headT p q f ++ body = preT p q f ++ (encb 2 0 ++ ([0, 0] ++ body)) := by
  have : encb 2 0 = [0, 0] := by rw [two_eq]; rfl
  rw [this]
  simp [headT, preT]
theorem rawT_split (p q : Nat) (f : UInt8) (body : List UInt8) (a b : UInt32) : rawT p q f body a b = preT p q f ++ (encb 2 (sumT (headT p q f ++ body) a b) ++ ([0, 0] ++ body)) := by
  have hl := preT_len p q f
  unfold rawT over
  rw [encb_length]
  generalize encb 2 (sumT (headT p q f ++ body) a b) = e
  rw [headT_split]
  have h2 : (preT p q f ++ encb 2 0).length = 18 := by rw [List.length_append, hl, encb_length]
  rw [List.take_left' hl, ← List.append_assoc (preT p q f) (encb 2 0), List.drop_left' h2, List.append_assoc]
theorem rawT_sum (p q : Nat) (f : UInt8) (body : List UInt8) (a b : UInt32) (n : Nat) (hn : n = (headT p q f ++ body).length) : foldN (sumW (endsB a b n ++ rawT p q f body a b)) = 65535 := by
  have l12 : (endsB a b n).length % 2 = 0 := by rw [endsB_len]
  have hl := preT_len p q f
  have hs : sumT (headT p q f ++ body) a b = 65535 - foldN (sumW (endsB a b n ++ (headT p q f ++ body))) := by rw [hn]; rfl
  have h65 : sumT (headT p q f ++ body) a b < 65536 := by rw [hs]; omega
  rw [rawT_split, sumW_append _ _ l12, sumW_append _ _ (by rw [hl]), sumW_enc2 _ h65]
  rw [hs, headT_split, sumW_append _ _ l12, sumW_append _ _ (by rw [hl]), sumW_enc2 0 (by omega)]
  generalize sumW (endsB a b n) = x
  generalize sumW (preT p q f) = y
  generalize sumW ([0, 0] ++ body) = z
  have h1 : x + (y + (0 + z)) = x + y + z := by omega
  rw [h1]
  have h2 : x + (y + (65535 - foldN (x + y + z) + z)) = (x + y + z) + (65535 - foldN (x + y + z)) := by omega
  rw [h2]
  generalize x + y + z = m
  unfold foldN
  split <;> split <;> omega
theorem parse_made (p q : Nat) (hp : p < 65536) (hq : q < 65536) (f : UInt8) (body : List UInt8) (hb : body.length ≤ 1460) (a b : UInt32) : parseT (rawT p q f body a b) a b = .tup [.agg (segC p q f (rawT p q f body a b)), .nili] ∧ parseT (rawT p q f body a b) b a = .tup [.agg (segC p q f (rawT p q f body a b)), .nili] := by
  have hlen := rawT_len p q f body a b
  have hsum := rawT_sum p q f body a b (rawT p q f body a b).length (by rw [hlen, List.length_append, headT_len])
  have hsum2 := sumW_ends a b (rawT p q f body a b).length (rawT p q f body a b)
  have hsp := rawT_split p q f body a b
  obtain ⟨p1, p2, hpe⟩ := encb2 p
  obtain ⟨r1, r2, hqe⟩ := encb2 q
  generalize hr : rawT p q f body a b = raw at *
  have e : raw = p1 :: p2 :: r1 :: r2 :: 0 :: 0 :: 0 :: 0 :: 0 :: 0 :: 0 :: 0 :: 80 :: f :: 0 :: 0 :: (encb 2 (sumT (headT p q f ++ body) a b) ++ ([0, 0] ++ body)) := by
    rw [hsp]
    unfold preT
    rw [hpe, hqe]
    rfl
  have n12 : nth raw 12 = 80 := by rw [e]; rfl
  have n13 : nth raw 13 = f := by rw [e]; rfl
  have t0 : raw.take 2 = encb 2 p := by rw [e, hpe]; rfl
  have t2 : (raw.drop 2).take 2 = encb 2 q := by rw [e, hqe]; rfl
  have hf : formE raw = 0 := by
    unfold formE
    rw [n12, if_neg (by omega), if_neg (by decide), if_neg (by show ¬ raw.length < 20; omega), if_neg (by omega)]
  have u0 : num (raw.take 2) = p := by rw [t0]; exact num_encb_of (by omega)
  have u2 : num ((raw.drop 2).take 2) = q := by rw [t2]; exact num_encb_of (by omega)
  unfold parseT
  rw [if_pos hf, if_pos hf, hsum2, if_pos hsum, u0, u2, n13]
  exact ⟨rfl, rfl⟩

theorem law4 (p q : Nat) (hp : p < 65536) (hq : q < 65536) (f some_ : UInt8) (body : List UInt8) (a b : UInt32) : pcall E 4 [.int .u16 (p : Int), .int .u16 (q : Int), .int .u8 (f.toNat : Int), .int .u8 (some_.toNat : Int), bs false body, .int .u32 (a.toNat : Int), .int .u32 (b.toNat : Int)] = some (.bool true, []) := by
  rw [pcall_go (fn := I4) rfl rfl rfl]
  have hk : E.keep 4 = false := rfl
  by_cases h1 : (3000 : Int) < body.length
  · simp (disch := first | omega | (simp only [List.length_cons, List.length_nil, List.length_append, List.length_map, List.length_set]; omega) | rfl | (simp only [List.length_cons, List.length_nil, List.length_append, List.length_map, List.length_set, List.length_replicate, List.all_cons, List.all_nil, List.all_append, storable, plainB, Bool.and_self]; done)) only [go_sem, reduceCtorEq, ↓reduceIte, Nat.reduceEqDiff, Nat.reduceAdd, Nat.reduceSub, Nat.reduceMul, Nat.reduceLeDiff, Nat.reduceLT, Nat.reduceBEq, Nat.reduceBNe, Int.reduceAdd, Int.reduceSub, Int.reduceMul, Int.reduceNeg, Int.reduceEq, Int.reduceNe, Int.reduceLT, Int.reduceLE, Int.reduceToNat, reduceDIte, Nat.reduceSucc, evI_callP, callPK_some, I4, hk, s24, h1]
  by_cases h2 : 1460 < body.length
  · have q1 := fun g => make_err g p q f body h2 a b
    have q2 := fun g => rmake_err g p q f body h2 a b
    have q3 := is_same 1 11
    have q4 := s30 0 0 0 [] (by simp)
    have q5 := same_self 0 0 0 []
    have z0 : ((UInt8.toNat 0 : Nat) : Int) = 0 := rfl
    unfold errV at q1 q3
    unfold faultC at q2 q3
    rw [if_neg (by omega)] at q1 q2
    rw [if_neg (by omega), if_neg (by omega)] at q3
    simp only [faultV, segC_eq, List.map_nil, bs, z0, Int.natCast_zero] at q1 q2 q3 q4 q5
    simp (disch := first | omega | (simp only [List.length_cons, List.length_nil, List.length_append, List.length_map, List.length_set]; omega) | rfl | (simp only [List.length_cons, List.length_nil, List.length_append, List.length_map, List.length_set, List.length_replicate, List.all_cons, List.all_nil, List.all_append, storable, plainB, Bool.and_self]; done)) only [go_sem, reduceCtorEq, ↓reduceIte, Nat.reduceEqDiff, Nat.reduceAdd, Nat.reduceSub, Nat.reduceMul, Nat.reduceLeDiff, Nat.reduceLT, Nat.reduceBEq, Nat.reduceBNe, Int.reduceAdd, Int.reduceSub, Int.reduceMul, Int.reduceNeg, Int.reduceEq, Int.reduceNe, Int.reduceLT, Int.reduceLE, Int.reduceToNat, reduceDIte, Nat.reduceSucc, evI_callP, callPK_some, I4, hk, s24, h1, q1, q2, q3, q4, q5]
  have q1 := fun g => s35 g p q hp hq f body (by omega) a b
  have q2 := fun g => s36 g p q hp hq f body (by omega) a b
  have q3 := is_same 1 0
  obtain ⟨m1, m2⟩ := parse_made p q hp hq f body (by omega) a b
  have hlen := rawT_len p q f body a b
  generalize rawT p q f body a b = raw at *
  have q4 := s30 p q f raw (by omega)
  have q5 := same_self p q f raw
  have q6 := fun g => s26 g raw a b
  have q7 := fun g => s26 g raw b a
  rw [m1] at q6
  rw [m2] at q7
  have q8 := s37 p q f some_ raw
  have h8 := and_u8 f some_
  unfold hasB at q8
  unfold errV at q3
  unfold faultC at q3
  rw [if_pos rfl, if_pos rfl] at q3
  simp only [segC_eq] at q1 q2 q4 q5 q6 q7 q8
  simp (disch := first | omega | (simp only [List.length_cons, List.length_nil, List.length_append, List.length_map, List.length_set]; omega) | rfl | (simp only [List.length_cons, List.length_nil, List.length_append, List.length_map, List.length_set, List.length_replicate, List.all_cons, List.all_nil, List.all_append, storable, plainB, Bool.and_self]; done)) only [go_sem, reduceCtorEq, ↓reduceIte, Nat.reduceEqDiff, Nat.reduceAdd, Nat.reduceSub, Nat.reduceMul, Nat.reduceLeDiff, Nat.reduceLT, Nat.reduceBEq, Nat.reduceBNe, Int.reduceAdd, Int.reduceSub, Int.reduceMul, Int.reduceNeg, Int.reduceEq, Int.reduceNe, Int.reduceLT, Int.reduceLE, Int.reduceToNat, reduceDIte, Nat.reduceSucc, evI_callP, callPK_some, I4, hk, s24, h1, q1, q2, q3, q4, q5, q6, q7, q8, h8, by8_neq]
end Go.Fw.Wd
