/-
  What Make and Has answer; flags together and each. Conditions: stated at each.
-/
import Derived.Test.YtmmfimpphhebfaaDoorWdTspoilt
set_option linter.unusedVariables false
set_option linter.unusedSimpArgs false
namespace Go.Fw.Wd
open Go.Proofs Code_

theorem bits_u8 (a : UInt8) : BitVec.ofInt 8 (a.toNat : Int) = a.toBitVec := by
  apply BitVec.eq_of_toNat_eq
  rw [BitVec.toNat_ofInt]
  have := a.toNat_lt
  show ((a.toNat : Int) % 256).toNat = a.toNat
  omega
theorem wrap_bv (v : BitVec 8) : IntKind.u8.wrap ((v.toNat : Nat) : Int) = (v.toNat : Int) := by
  have := v.isLt
  exact wu8 (by omega) (by omega)
theorem and_u8 (a b : UInt8) : bitsI .and .u8 (a.toNat : Int) (b.toNat : Int) = ((a &&& b).toNat : Int) := by
  show IntKind.u8.wrap (((BitVec.ofInt 8 (a.toNat : Int)) &&& (BitVec.ofInt 8 (b.toNat : Int))).toNat : Int) = _
  rw [bits_u8, bits_u8, wrap_bv]
  rfl
theorem or_u8 (a b : UInt8) : bitsI .or .u8 (a.toNat : Int) (b.toNat : Int) = ((a ||| b).toNat : Int) := by
  show IntKind.u8.wrap (((BitVec.ofInt 8 (a.toNat : Int)) ||| (BitVec.ofInt 8 (b.toNat : Int))).toNat : Int) = _
  rw [bits_u8, bits_u8, wrap_bv]
  rfl
theorem andNot_u8 (a b : UInt8) : bitsI .andNot .u8 (a.toNat : Int) (b.toNat : Int) = ((a &&& ~~~b).toNat : Int) := by
  show IntKind.u8.wrap (((BitVec.ofInt 8 (a.toNat : Int)) &&& ~~~(BitVec.ofInt 8 (b.toNat : Int))).toNat : Int) = _
  rw [bits_u8, bits_u8, wrap_bv]
  rfl
theorem has_iff (f x : BitVec 8) : f &&& x = x ↔ ∀ i, i < 8 → x.getLsbD i = true → f.getLsbD i = true := by
  constructor
  · intro h i _ hx
    have := congrArg (·.getLsbD i) h
    simp only [BitVec.getLsbD_and, hx, Bool.and_true] at this
    exact this
  · intro h
    apply BitVec.eq_of_getLsbD_eq
    intro i hi
    rw [BitVec.getLsbD_and]
    cases hx : x.getLsbD i
    · simp
    · rw [h i hi hx]; rfl
theorem not_iff (f x : BitVec 8) : x &&& ~~~f = 0#8 ↔ ∀ i, i < 8 → x.getLsbD i = true → f.getLsbD i = true := by
  constructor
  · intro h i hi hx
    have := congrArg (·.getLsbD i) h
    simp only [BitVec.getLsbD_and, hx, BitVec.getLsbD_not, hi, decide_true, Bool.true_and, BitVec.getLsbD_zero] at this
    simpa using this
  · intro h
    apply BitVec.eq_of_getLsbD_eq
    intro i hi
    rw [BitVec.getLsbD_and, BitVec.getLsbD_not, BitVec.getLsbD_zero]
    cases hx : x.getLsbD i
    · simp
    · rw [h i hi hx]; simp
def hasB (f x : UInt8) : Bool := decide (f &&& x = x)
theorem toBV (f x : UInt8) : (f &&& x = x) ↔ (f.toBitVec &&& x.toBitVec = x.toBitVec) := by
  rw [← UInt8.toBitVec_inj]
  rfl
theorem has_or (f a b : UInt8) : hasB f (a ||| b) = (hasB f a && hasB f b) := by
  unfold hasB
  rw [Bool.eq_iff_iff, Bool.and_eq_true, decide_eq_true_eq, decide_eq_true_eq, decide_eq_true_eq, toBV, toBV, toBV, has_iff, has_iff, has_iff]
  show (∀ i, i < 8 → (a.toBitVec ||| b.toBitVec).getLsbD i = true → _) ↔ _
  constructor
  · intro h
    exact ⟨fun i hi hx => h i hi (by rw [BitVec.getLsbD_or, hx]; rfl), fun i hi hx => h i hi (by rw [BitVec.getLsbD_or, hx, Bool.or_true])⟩
  · rintro ⟨h1, h2⟩ i hi hx
    rw [BitVec.getLsbD_or, Bool.or_eq_true] at hx
    rcases hx with hx | hx
    · exact h1 i hi hx
    · exact h2 i hi hx
theorem has_zero (f : UInt8) : hasB f 0 = true := by simp [hasB]
theorem has_self (f : UInt8) : hasB f f = true := by simp [hasB]
theorem has_not (f a : UInt8) : decide (a &&& ~~~f = 0) = hasB f a := by
  unfold hasB
  rw [Bool.eq_iff_iff, decide_eq_true_eq, decide_eq_true_eq, toBV, has_iff, ← not_iff, ← UInt8.toBitVec_inj]
  exact Iff.rfl

theorem s37 (p q : Nat) (f x : UInt8) (raw : List UInt8) : pcall E 37 [.agg (segC p q f raw), .int .u8 (x.toNat : Int)] = some (.bool (hasB f x), []) := by
  rw [pcall_go (fn := I37) rfl rfl rfl]
  have hk : E.keep 37 = false := rfl
  have h := and_u8 f x
  unfold hasB
  simp only [segC_eq]
  simp (disch := first | omega | (simp only [List.length_cons, List.length_nil, List.length_append, List.length_map, List.length_set]; omega) | rfl | (simp only [List.length_cons, List.length_nil, List.length_append, List.length_map, List.length_set, List.length_replicate, List.all_cons, List.all_nil, List.all_append, storable, plainB, Bool.and_self]; done)) only [go_sem, reduceCtorEq, ↓reduceIte, Nat.reduceEqDiff, Nat.reduceAdd, Nat.reduceSub, Nat.reduceMul, Nat.reduceLeDiff, Nat.reduceLT, Nat.reduceBEq, Nat.reduceBNe, Int.reduceAdd, Int.reduceSub, Int.reduceMul, Int.reduceNeg, Int.reduceEq, Int.reduceNe, Int.reduceLT, Int.reduceLE, Int.reduceToNat, reduceDIte, Nat.reduceSucc, evI_callP, callPK_some, I37, hk, h, by8_neq]

/-- A made segment's bytes. -/
def headT (p q : Nat) (f : UInt8) : List UInt8 := encb 2 p ++ encb 2 q ++ [0, 0, 0, 0, 0, 0, 0, 0, 80, f, 0, 0, 0, 0, 0, 0]
def sumT (x : List UInt8) (a b : UInt32) : Nat := 65535 - foldN (sumW (endsB a b x.length ++ x))
def rawT (p q : Nat) (f : UInt8) (body : List UInt8) (a b : UInt32) : List UInt8 := over (headT p q f ++ body) 16 (encb 2 (sumT (headT p q f ++ body) a b))
theorem headT_len (p q : Nat) (f : UInt8) : (headT p q f).length = 20 := by simp only [headT, List.length_append, encb_length]; rfl
theorem encb2 (n : Nat) : ∃ x y, encb 2 n = [x, y] := by
  have := encb_length 2 n
  match encb 2 n, this with
  | [x, y], _ => exact ⟨x, y, rfl⟩
theorem snA (g : Bool) (o0 : AObj) (t1 t2 t3 : TypeId) (x z : List UInt8) (n m : Nat) (hx : x.length = n) (hz : z.length = m) : snR g [o0, .row 0 1 (x.map by8) t1, .row 0 1 (z.map by8) t2, .row 0 1 [.sl 1 1 0 0 n, .sl 1 2 0 0 m] t3] 8 3 0 2
    (some (.row 0 1 [.sl 1 1 0 0 n, .sl 1 2 0 0 m] t3)) = some (.rs g 1 [.rs g 1 (x.map by8), .rs g 1 (z.map by8)]) := by
  have e1 : sn g [o0, .row 0 1 (x.map by8) t1, .row 0 1 (z.map by8) t2, .row 0 1 [.sl 1 1 0 0 n, .sl 1 2 0 0 m] t3] 7 (.sl 1 1 0 0 n) = some (.rs g 1 (x.map by8)) := by
    rw [sn_row]
    exact snR_by8 g _ 7 1 0 n x t1 hx
  have e2 : sn g [o0, .row 0 1 (x.map by8) t1, .row 0 1 (z.map by8) t2, .row 0 1 [.sl 1 1 0 0 n, .sl 1 2 0 0 m] t3] 7 (.sl 1 2 0 0 m) = some (.rs g 1 (z.map by8)) := by
    rw [sn_row]
    exact snR_by8 g _ 7 2 0 m z t2 hz
  refine (sn_row g [o0, .row 0 1 (x.map by8) t1, .row 0 1 (z.map by8) t2, .row 0 1 [.sl 1 1 0 0 n, .sl 1 2 0 0 m] t3] 7 3 0 2).symm.trans ?_
  rw [sn_sl]
  show (snL g _ 7 [.sl 1 1 0 0 n, .sl 1 2 0 0 m]).map _ = _
  simp only [snL_cons, snL_nil, e1, e2, consK_some, Option.map_some]
  rfl
theorem snB (g : Bool) (o0 o1 o2 o3 : AObj) (t1 t2 : TypeId) (e : List AV) (x : List UInt8) (n v : Nat) (hx : x.length = n) : snR g [o0, o1, o2, o3, .row v 1 (x.map by8) t1, .row 0 1 [.rs false 1 e, .sl 1 4 v 0 n] t2] 8 5 0 2
    (some (.row 0 1 [.rs false 1 e, .sl 1 4 v 0 n] t2)) = some (.rs g 1 [.rs false 1 e, .rs g 1 (x.map by8)]) := by
  have e1 : sn g [o0, o1, o2, o3, .row v 1 (x.map by8) t1, .row 0 1 [.rs false 1 e, .sl 1 4 v 0 n] t2] 7 (.sl 1 4 v 0 n) = some (.rs g 1 (x.map by8)) := by
    rw [sn_row]
    exact snR_by8 g _ 7 4 v n x t1 hx
  refine (sn_row g [o0, o1, o2, o3, .row v 1 (x.map by8) t1, .row 0 1 [.rs false 1 e, .sl 1 4 v 0 n] t2] 7 5 0 2).symm.trans ?_
  rw [sn_sl]
  show (snL g _ 7 [.rs false 1 e, .sl 1 4 v 0 n]).map _ = _
  simp only [snL_cons, snL_nil, sn_rs, e1, consK_some, Option.map_some]
  rfl
theorem s35 (g : Bool) (p q : Nat) (hp : p < 65536) (hq : q < 65536) (f : UInt8) (body : List UInt8) (hb : body.length ≤ 1460) (a b : UInt32) : pcall E 35 [.int .u16 (p : Int), .int .u16 (q : Int), .int .u8 (f.toNat : Int), bs g body, .int .u32 (a.toNat : Int), .int .u32 (b.toNat : Int)] =
    some (.tup [.agg (segC p q f (rawT p q f body a b)), .nili], []) := by
  rw [pcall_go (fn := I35) rfl rfl rfl]
  have hk : E.keep 35 = false := rfl
  have h1 : ¬ (1460 : Int) < body.length := by omega
  have w1 : IntKind.u64.wrap (p : Int) = (p : Int) := wu64 (by omega) (by omega)
  have w2 : IntKind.u64.wrap (q : Int) = (q : Int) := wu64 (by omega) (by omega)
  have q1 := row2 p q 2 (by omega) (by omega) (by omega) (by omega) (by omega)
  simp only [Int.cast_ofNat_Int] at q1
  obtain ⟨p1, p2, hpe⟩ := encb2 p
  obtain ⟨r1, r2, hqe⟩ := encb2 q
  have hph : headT p q f = [p1, p2, r1, r2, 0, 0, 0, 0, 0, 0, 0, 0, 80, f, 0, 0, 0, 0, 0, 0] := by
    unfold headT
    rw [hpe, hqe]
    rfl
  rw [hpe, hqe] at q1
  obtain ⟨x1, ex1⟩ : ∃ x, x = [p1, p2] ++ [r1, r2] := ⟨_, rfl⟩
  have lx1 : x1.length = 4 := by rw [ex1]; rfl
  rw [← ex1, lx1] at q1
  obtain ⟨z, ez⟩ : ∃ x : List UInt8, x = List.replicate 16 0 := ⟨_, rfl⟩
  have lz : z.length = 16 := by rw [ez, List.length_replicate]
  have mk : ∀ h, mkSlK h 1 1 5 [.int .u8 0] (.int .i64 16) = some (.sl 1 h.length 0 0 16, h ++ [.row 0 1 (z.map by8) 5]) := fun h => by rw [ez]; exact mkSl_by8 h 5 .i64 16 (by omega) (by omega)
  obtain ⟨c1, ec1⟩ : ∃ x, x = x1 ++ z := ⟨_, rfl⟩
  have lc1 : c1.length = 20 := by rw [ec1, List.length_append, lx1, lz]
  have k1 : ∀ g, pcall E 101 [.rs g 1 [.rs true 1 (x1.map by8), .rs true 1 (z.map by8)]] = some (.sl 1 0 0 0 20, [.row 0 1 (c1.map by8) 5]) := fun g => by
    have e : c1 = cat [(true, x1), (true, z)] := by rw [ec1]; simp only [cat, List.flatMap_cons, List.flatMap_nil, List.append_nil]
    have := s101 g [(true, x1), (true, z)] (by simp) (by rw [← e, lc1]; omega)
    rw [← e, show E.keep 101 = true from rfl, kone_t, lc1] at this
    exact this
  obtain ⟨c2, ec2⟩ : ∃ x, x = c1.set 12 80 := ⟨_, rfl⟩
  have lc2 : c2.length = 20 := by rw [ec2, List.length_set, lc1]
  obtain ⟨c3, ec3⟩ : ∃ x, x = c2.set 13 f := ⟨_, rfl⟩
  have lc3 : c3.length = 20 := by rw [ec3, List.length_set, lc2]
  have hc3 : c3 = headT p q f := by rw [ec3, ec2, ec1, ex1, ez, hph]; rfl
  obtain ⟨x, ex⟩ : ∃ x, x = c3 ++ body := ⟨_, rfl⟩
  have lx : x.length = 20 + body.length := by rw [ex, List.length_append, lc3]
  have s1 : ∀ h t, stR h 4 0 12 (.int .u8 80) (some (.row 0 1 (c1.map by8) t)) = some (h.set 4 (.row 0 1 (c2.map by8) t)) := fun h t => by rw [ec2]; exact stR_by8 h 4 0 12 c1 80 t (by omega)
  have s2 : ∀ h t, stR h 4 0 13 (.int .u8 (f.toNat : Int)) (some (.row 0 1 (c2.map by8) t)) = some (h.set 4 (.row 0 1 (c3.map by8) t)) := fun h t => by rw [ec3]; exact stR_by8 h 4 0 13 c2 f t (by omega)
  have a1 : ∀ h, appR h 1 1 5 (body.map by8) body.length 4 0 20 (some (.row 0 1 (c3.map by8) 5)) = some (.sl 1 4 1 0 (20 + body.length), h.set 4 (.row 1 1 (x.map by8) 5)) := fun h => by rw [ex]; exact appR_by8 h 1 5 4 0 20 body.length c3 body lc3 (by omega) (by omega)
  have q3 := s97 a b x.length (by omega)
  obtain ⟨en, een⟩ : ∃ e, e = endsB a b x.length := ⟨_, rfl⟩
  have len_ : en.length = 12 := by rw [een, endsB_len]
  have ecat : cat [(false, en), (true, x)] = en ++ x := by simp [cat]
  have q4 := fun g1 => s103 g1 [(false, en), (true, x)] (by simp) (by rw [ecat, List.length_append]; omega)
  rw [ecat] at q4
  have hs65 : 65535 - foldN (sumW (en ++ x)) = sumT x a b := by rw [een]; rfl
  rw [hs65] at q4
  have hsl : sumT x a b < 65536 := by unfold sumT; omega
  simp only [List.map_cons, List.map_nil, encP_eq] at q4
  rw [← een] at q3
  have w3 : IntKind.u64.wrap ((sumT x a b : Nat) : Int) = ((sumT x a b : Nat) : Int) := wu64 (by omega) (by omega)
  have q5 := s102 true x (by omega) 16 2 (by constructor <;> omega) (sumT x a b) (by omega)
  have hnb : numbB (sumT x a b) 2 = encb 2 (sumT x a b) := by unfold numbB; rw [if_pos ⟨by omega, by show _ < 65536; exact hsl⟩]; rfl
  have hne : numbE (sumT x a b) 2 = 0 := by unfold numbE; rw [if_pos ⟨by omega, by show _ < 65536; exact hsl⟩]
  have hspan : spanE x.length 16 (encb 2 (sumT x a b)).length = 0 := by
    rw [encb_length]
    simp only [spanE]
    rw [if_neg (by omega), if_neg (by omega), if_neg (by omega)]
  have hlb : layB x 16 2 (sumT x a b) = over x 16 (encb 2 (sumT x a b)) := by
    unfold layB patB
    rw [if_pos hne, hnb, if_pos hspan]
    rfl
  have hle : layE x 16 2 (sumT x a b) = 0 := by
    unfold layE patE
    rw [if_pos hne, hnb, hspan]
  rw [hlb, hle] at q5
  have hr : rawT p q f body a b = over x 16 (encb 2 (sumT x a b)) := by unfold rawT; rw [← hc3, ← ex]
  rw [hr]
  generalize over x 16 (encb 2 (sumT x a b)) = raw at *
  generalize sumT x a b = sm at *
  clear hc3 ec1 ec2 ec3 ex ex1 ez een hph hlb hle hr
  have ia12 : ∀ (o0 o1 o2 o3 : AObj) (v : List UInt8) (t : TypeId) (l : Heap), iaddrK (o0 :: o1 :: o2 :: o3 :: .row 0 1 (v.map by8) t :: l) 1 (.sl 1 4 0 0 20) (.int .i64 12) = some (.ref 4 0 12, o0 :: o1 :: o2 :: o3 :: .row 0 1 (v.map by8) t :: l) := fun o0 o1 o2 o3 v t l => iaddrK_sl (o0 :: o1 :: o2 :: o3 :: .row 0 1 (v.map by8) t :: l) 1 4 0 0 20 .i64 12 (by omega) (by omega) rfl
  have ia13 : ∀ (o0 o1 o2 o3 : AObj) (v : List UInt8) (t : TypeId) (l : Heap), iaddrK (o0 :: o1 :: o2 :: o3 :: .row 0 1 (v.map by8) t :: l) 1 (.sl 1 4 0 0 20) (.int .i64 13) = some (.ref 4 0 13, o0 :: o1 :: o2 :: o3 :: .row 0 1 (v.map by8) t :: l) := fun o0 o1 o2 o3 v t l => iaddrK_sl (o0 :: o1 :: o2 :: o3 :: .row 0 1 (v.map by8) t :: l) 1 4 0 0 20 .i64 13 (by omega) (by omega) rfl
  rw [lx, Int.natCast_add] at q3
  simp only [Int.cast_ofNat_Int] at q3
  simp only [segC_eq]
  cases hkl : E.keep 102
  · rw [hkl, kres_f] at q5
    simp (disch := first | omega | (simp only [List.length_cons, List.length_nil, List.length_append, List.length_map, List.length_set]; omega) | rfl | (simp only [List.length_cons, List.length_nil, List.length_append, List.length_map, List.length_set, List.length_replicate, List.all_cons, List.all_nil, List.all_append, storable, plainB, Bool.and_self]; done)) only [go_sem, reduceCtorEq, ↓reduceIte, Nat.reduceEqDiff, Nat.reduceAdd, Nat.reduceSub, Nat.reduceMul, Nat.reduceLeDiff, Nat.reduceLT, Nat.reduceBEq, Nat.reduceBNe, Int.reduceAdd, Int.reduceSub, Int.reduceMul, Int.reduceNeg, Int.reduceEq, Int.reduceNe, Int.reduceLT, Int.reduceLE, Int.reduceToNat, reduceDIte, Nat.reduceSucc, evI_callP, callPK_some, I35, hk, h1, w1, w2, w3, q1, q3, q4, q5, mk, k1, s1, s2, a1, ia12, ia13, lx1, lz, lx, snA, snB]
  · rw [hkl, decide_eq_true rfl, kres_t] at q5
    simp (disch := first | omega | (simp only [List.length_cons, List.length_nil, List.length_append, List.length_map, List.length_set]; omega) | rfl | (simp only [List.length_cons, List.length_nil, List.length_append, List.length_map, List.length_set, List.length_replicate, List.all_cons, List.all_nil, List.all_append, storable, plainB, Bool.and_self]; done)) only [go_sem, reduceCtorEq, ↓reduceIte, Nat.reduceEqDiff, Nat.reduceAdd, Nat.reduceSub, Nat.reduceMul, Nat.reduceLeDiff, Nat.reduceLT, Nat.reduceBEq, Nat.reduceBNe, Int.reduceAdd, Int.reduceSub, Int.reduceMul, Int.reduceNeg, Int.reduceEq, Int.reduceNe, Int.reduceLT, Int.reduceLE, Int.reduceToNat, reduceDIte, Nat.reduceSucc, evI_callP, callPK_some, I35, hk, h1, w1, w2, w3, q1, q3, q4, q5, mk, k1, s1, s2, a1, ia12, ia13, lx1, lz, lx, snA, snB]

theorem rawT_len (p q : Nat) (f : UInt8) (body : List UInt8) (a b : UInt32) : (rawT p q f body a b).length = 20 + body.length := by
  unfold rawT
  rw [over_len _ _ _ (by rw [List.length_append, headT_len, encb_length]; omega), List.length_append, headT_len]
theorem rawT_drop (p q : Nat) (f : UInt8) (body : List UInt8) (a b : UInt32) : (rawT p q f body a b).drop 20 = body := by
  have hl := headT_len p q f
  unfold rawT over
  rw [encb_length]
  generalize hs : encb 2 (sumT (headT p q f ++ body) a b) = e
  have he : e.length = 2 := by rw [← hs, encb_length]
  have h1 : ((headT p q f ++ body).take 16 ++ e).length = 18 := by rw [List.length_append, he, List.length_take, List.length_append, hl]; omega
  rw [show 20 = 18 + 2 from rfl, ← List.drop_drop, List.drop_left' h1, List.drop_drop]
  exact List.drop_left' hl
end Go.Fw.Wd
