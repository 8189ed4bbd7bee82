/-
  The law on bytes with their own sum. Conditions: stated at each.
-/
import Derived.Test.YtgaababjgcfokaaWdLawp
set_option linter.unusedVariables false
set_option linter.unusedSimpArgs false
namespace Go.Fw.Wd
open Go.Proofs Code_

/-- What a byte at a place counts. -/
def wt (i : Nat) : Nat := if i % 2 = 0 then 256 else 1
theorem sumW_set : ∀ (l : List UInt8) (i : Nat) (c : UInt8), i < l.length → sumW (l.set i c) + wt i * (nth l i).toNat = sumW l + wt i * c.toNat
  | [], i, c, h => absurd h (Nat.not_lt_zero _)
  | [a], 0, c, _ => by simp [sumW, wt, nth]; omega
  | [a], i + 1, c, h => by simp at h
  | a :: b :: l, 0, c, _ => by simp [sumW, wt, nth]; omega
  | a :: b :: l, 1, c, _ => by simp [sumW, wt, nth]; omega
  | a :: b :: l, i + 2, c, h => by
    have ih := sumW_set l i c (by simp only [List.length_cons] at h; omega)
    have e1 : wt (i + 2) = wt i := by unfold wt; rw [Nat.add_mod_right]
    have e2 : nth (a :: b :: l) (i + 2) = nth l i := rfl
    rw [e1, e2]
    simp only [List.set_cons_succ, sumW]
    omega
theorem nth_set (l : List UInt8) (i : Nat) (c : UInt8) (h : i < l.length) : nth (l.set i c) i = c := by
  rw [nth_get _ _ (by rw [List.length_set]; exact h), List.getElem_set_self]
theorem nth_set_ne (l : List UInt8) (i j : Nat) (c : UInt8) (hj : j < l.length) (h : i ≠ j) : nth (l.set i c) j = nth l j := by
  rw [nth_get _ _ (by rw [List.length_set]; exact hj), nth_get _ _ hj, List.getElem_set_ne h]
def two (l : List UInt8) (a : Nat) (b c : UInt8) : List UInt8 := (l.set a b).set (a + 1) c
theorem two_len (l : List UInt8) (a : Nat) (b c : UInt8) : (two l a b c).length = l.length := by simp [two]
theorem two_sum (l : List UInt8) (a : Nat) (b c : UInt8) (ha : a % 2 = 0) (h : a + 1 < l.length) : sumW (two (two l a 0 0) a b c) = sumW (two l a 0 0) + (b.toNat * 256 + c.toNat) := by
  have hl := two_len l a 0 0
  have w0 : wt a = 256 := by simp [wt, ha]
  have w1 : wt (a + 1) = 1 := by unfold wt; rw [if_neg (by omega)]
  have n0 : nth (two l a 0 0) a = 0 := by
    unfold two
    rw [nth_set_ne _ _ _ _ (by rw [List.length_set]; omega) (by omega), nth_set _ _ _ (by omega)]
  have n1 : nth ((two l a 0 0).set a b) (a + 1) = 0 := by
    rw [nth_set_ne _ _ _ _ (by omega) (by omega)]
    unfold two
    exact nth_set _ _ _ (by rw [List.length_set]; omega)
  have s0 := sumW_set (two l a 0 0) a b (by omega)
  have s1 := sumW_set ((two l a 0 0).set a b) (a + 1) c (by rw [List.length_set]; omega)
  rw [n0, w0] at s0
  rw [n1, w1] at s1
  have z : (0 : UInt8).toNat = 0 := rfl
  rw [z] at s0 s1
  show sumW (((two l a 0 0).set a b).set (a + 1) c) = _
  omega
theorem own_sum (s n : Nat) (hn : n = 65535 - foldN s) : foldN (s + n) = 65535 := by
  subst hn
  unfold foldN
  split <;> split <;> omega
theorem own_other (x : List UInt8) (i : Nat) (hi : i < x.length) (d : UInt8) (hd : ¬ d = 0) (h : foldN (sumW x) = 65535) : ¬ foldN (sumW (x.set i (UInt8.ofNat ((nth x i).toNat + d.toNat)))) = 65535 := by
  have hs := sumW_set x i (UInt8.ofNat ((nth x i).toNat + d.toNat)) hi
  have h1 := (nth x i).toNat_lt
  have h2 := d.toNat_lt
  have h3 : d.toNat ≠ 0 := fun h => hd (UInt8.toNat_inj.1 h)
  have h4 : (UInt8.ofNat ((nth x i).toNat + d.toNat)).toNat = ((nth x i).toNat + d.toNat) % 256 := by simp
  rw [h4] at hs
  have m1 := foldN_mod (sumW x)
  have m2 := foldN_mod (sumW (x.set i (UInt8.ofNat ((nth x i).toNat + d.toNat))))
  intro h5
  rw [h5] at m2
  rw [h] at m1
  generalize sumW (x.set i (UInt8.ofNat ((nth x i).toNat + d.toNat))) = y at *
  generalize sumW x = z at *
  generalize (nth x i).toNat = u at *
  generalize d.toNat = v at *
  have hw : wt i = 256 ∨ wt i = 1 := by unfold wt; split <;> simp
  rcases hw with hw | hw <;> rw [hw] at hs <;> omega

theorem sn_at (g : Bool) (x : List UInt8) (n : Nat) (t t' : TypeId) (l : List AObj) (k : Nat) (hn : x.length = n) (hk : (AObj.row 0 1 (x.map by8) t :: l)[k]? = some (.row 0 1 [.sl 1 0 0 0 n] t')) : sn g (.row 0 1 (x.map by8) t :: l) 8 (.sl 1 k 0 0 1) = some (.rs g 1 [.rs g 1 (x.map by8)]) := by
  have h0 : sn g (.row 0 1 (x.map by8) t :: l) 7 (.sl 1 0 0 0 n) = some (.rs g 1 (x.map by8)) := by
    rw [sn_row]
    exact snR_by8 g _ 7 0 0 n x t hn
  rw [sn_sl, hk]
  simp only [Nat.mul_one, List.take_succ_cons, List.take_zero, snL_cons, snL_nil, h0, consK_some, Option.map_some, List.length_singleton, Nat.le_refl, and_self, Nat.lt_irrefl, Nat.zero_lt_one, if_true]
  rfl
theorem sn_at2 (g : Bool) (x : List UInt8) (n : Nat) (t t' : TypeId) (b : AObj) (hn : x.length = n) : sn g [.row 0 1 (x.map by8) t, b, .row 0 1 [.sl 1 0 0 0 n] t'] 8 (.sl 1 2 0 0 1) = some (.rs g 1 [.rs g 1 (x.map by8)]) := sn_at g x n t t' _ 2 hn rfl
theorem sn_at3 (g : Bool) (x : List UInt8) (n : Nat) (t t' : TypeId) (b c : AObj) (hn : x.length = n) : sn g [.row 0 1 (x.map by8) t, b, c, .row 0 1 [.sl 1 0 0 0 n] t'] 8 (.sl 1 3 0 0 1) = some (.rs g 1 [.rs g 1 (x.map by8)]) := sn_at g x n t t' _ 3 hn rfl
theorem sn_at4 (g : Bool) (x : List UInt8) (n : Nat) (t t' : TypeId) (b c d : AObj) (hn : x.length = n) : sn g [.row 0 1 (x.map by8) t, b, c, d, .row 0 1 [.sl 1 0 0 0 n] t'] 8 (.sl 1 4 0 0 1) = some (.rs g 1 [.rs g 1 (x.map by8)]) := sn_at g x n t t' _ 4 hn rfl
theorem shr_8 {n : Int} (h0 : 0 ≤ n) : shiftI .shr .u16 n 8 = some (.int .u16 (n / 256)) := by
  have : ¬ (8 : Int) < 0 := by omega
  have e : n.fdiv (2 ^ (min (8 : Int).toNat IntKind.u16.bits)) = n / 256 := by
    show n.fdiv 256 = _
    rw [Int.fdiv_eq_ediv_of_nonneg _ (by omega)]
  simp only [shiftI, this, if_false, e]
theorem right1' (g g' : Bool) (l : List UInt8) (hl : l.length ≤ 140737488355328) (h : foldN (sumW l) = 65535) : pcall E 26 [.rs g 1 [.rs g' 1 (l.map by8)]] = some (.bool true, []) := by
  have := right1 g g' l hl
  rw [h] at this
  exact this
theorem right0' (g g' : Bool) (l : List UInt8) (hl : l.length ≤ 140737488355328) (h : ¬ foldN (sumW l) = 65535) : pcall E 26 [.rs g 1 [.rs g' 1 (l.map by8)]] = some (.bool false, []) := by
  have := right1 g g' l hl
  rw [decide_eq_false h] at this
  exact this
theorem total1' (g g' : Bool) (l : List UInt8) (hl : l.length ≤ 140737488355328) (h : foldN (sumW l) = 65535) : pcall E 22 [.rs g 1 [.rs g' 1 (l.map by8)]] = some (.int .u16 65535, []) := by
  have := total1 g g' l hl
  rw [h] at this
  exact this

theorem law_own (l : List UInt8) (at_ place : Int) (d : UInt8) (h1 : S64 at_) : pcall E 5 [bs false l, .int .i64 at_, .int .i64 place, by8 d] = some (.bool true, []) := by
  rw [pcall_go (fn := I5) rfl rfl rfl]
  have hk : E.keep 5 = false := rfl
  by_cases a1 : (3000 : Int) < l.length
  · simp only [go_sem, reduceCtorEq, ↓reduceIte, Nat.reduceEqDiff, Nat.reduceAdd, Nat.reduceSub, Nat.reduceMul, Nat.reduceLeDiff, Nat.reduceLT, Nat.reduceBEq, Nat.reduceBNe, Int.reduceAdd, Int.reduceSub, Int.reduceMul, Int.reduceNeg, Int.reduceEq, Int.reduceNe, Int.reduceLT, Int.reduceLE, Int.reduceToNat, reduceDIte, Nat.reduceSucc, I5, hk, s13, a1]
  by_cases a2 : (l.length : Int) < 2
  · simp only [go_sem, reduceCtorEq, ↓reduceIte, Nat.reduceEqDiff, Nat.reduceAdd, Nat.reduceSub, Nat.reduceMul, Nat.reduceLeDiff, Nat.reduceLT, Nat.reduceBEq, Nat.reduceBNe, Int.reduceAdd, Int.reduceSub, Int.reduceMul, Int.reduceNeg, Int.reduceEq, Int.reduceNe, Int.reduceLT, Int.reduceLE, Int.reduceToNat, reduceDIte, Nat.reduceSucc, I5, hk, s13, a1, a2]
  by_cases a3 : at_ < 0
  · simp only [go_sem, reduceCtorEq, ↓reduceIte, Nat.reduceEqDiff, Nat.reduceAdd, Nat.reduceSub, Nat.reduceMul, Nat.reduceLeDiff, Nat.reduceLT, Nat.reduceBEq, Nat.reduceBNe, Int.reduceAdd, Int.reduceSub, Int.reduceMul, Int.reduceNeg, Int.reduceEq, Int.reduceNe, Int.reduceLT, Int.reduceLE, Int.reduceToNat, reduceDIte, Nat.reduceSucc, I5, hk, s13, a1, a2, a3]
  obtain ⟨a, rfl⟩ : ∃ a : Nat, at_ = a := ⟨at_.toNat, by omega⟩
  by_cases a4 : (a : Int).tmod 2 = 1
  · simp only [go_sem, reduceCtorEq, ↓reduceIte, Nat.reduceEqDiff, Nat.reduceAdd, Nat.reduceSub, Nat.reduceMul, Nat.reduceLeDiff, Nat.reduceLT, Nat.reduceBEq, Nat.reduceBNe, Int.reduceAdd, Int.reduceSub, Int.reduceMul, Int.reduceNeg, Int.reduceEq, Int.reduceNe, Int.reduceLT, Int.reduceLE, Int.reduceToNat, reduceDIte, Nat.reduceSucc, I5, hk, s13, a1, a2, a3, a4]
  by_cases a5 : (l.length : Int) - 2 < a
  · simp (disch := first | omega | (simp only [List.length_cons, List.length_nil, List.length_append, List.length_map, List.length_set]; omega) | rfl) only [go_sem, reduceCtorEq, ↓reduceIte, Nat.reduceEqDiff, Nat.reduceAdd, Nat.reduceSub, Nat.reduceMul, Nat.reduceLeDiff, Nat.reduceLT, Nat.reduceBEq, Nat.reduceBNe, Int.reduceAdd, Int.reduceSub, Int.reduceMul, Int.reduceNeg, Int.reduceEq, Int.reduceNe, Int.reduceLT, Int.reduceLE, Int.reduceToNat, reduceDIte, Nat.reduceSucc, I5, hk, s13, a1, a2, a3, a4, a5]
  have ha : a % 2 = 0 := by rw [Int.tmod_eq_emod_of_nonneg (by omega)] at a4; omega
  have q5 := s27 false l (by omega)
  have i1 := fun x y => iaddrK_sl (AObj.row 0 1 (x : List AV) 5 :: y) 1 0 0 0 l.length .i64 (a : Int) (by omega) (by omega) rfl
  have i2 := fun x y => iaddrK_sl (AObj.row 0 1 (x : List AV) 5 :: y) 1 0 0 0 l.length .i64 ((a : Int) + 1) (by omega) (by omega) rfl
  rw [show 0 + ((a : Int)).toNat * 1 = a by omega] at i1
  rw [show 0 + ((a : Int) + 1).toNat * 1 = a + 1 by omega] at i2
  have st : ∀ (y : List AObj) (x : List UInt8) (i : Nat) (v : UInt8), i < x.length → stR (.row 0 1 (x.map by8) 5 :: y) 0 0 i (.int .u8 (v.toNat : Int)) (some (.row 0 1 (x.map by8) 5)) = some (.row 0 1 ((x.set i v).map by8) 5 :: y) := fun y x i v hi => by
    rw [stR_by8 _ 0 0 i x v 5 hi]
    rfl
  have s1 := fun y => st y l a 0 (by omega)
  have s2 := fun y => st y (l.set a 0) (a + 1) 0 (by rw [List.length_set]; omega)
  rw [show (l.set a 0).set (a + 1) 0 = two l a 0 0 from rfl] at s2
  simp only [show ((0 : UInt8).toNat : Int) = 0 from rfl] at s1 s2
  have hx0 := two_len l a 0 0
  have q1 := fun g g' => of1' g g' (two l a 0 0) (by omega)
  obtain ⟨n, hn⟩ : ∃ n, n = 65535 - foldN (sumW (two l a 0 0)) := ⟨_, rfl⟩
  rw [← hn] at q1
  have hn2 : n < 65536 := by omega
  have w1 := shr_8 (n := n) (by omega)
  have w2 := wrapU8 (n / 256)
  have w3 := wrapU8 n
  simp only [Int.natCast_ediv, Int.cast_ofNat_Int] at w2
  have s3 := fun y => st y (two l a 0 0) a (UInt8.ofNat (n / 256)) (by omega)
  have s4 := fun y => st y ((two l a 0 0).set a (UInt8.ofNat (n / 256))) (a + 1) (UInt8.ofNat n) (by rw [List.length_set]; omega)
  rw [show ((two l a 0 0).set a (UInt8.ofNat (n / 256))).set (a + 1) (UInt8.ofNat n) = two (two l a 0 0) a (UInt8.ofNat (n / 256)) (UInt8.ofNat n) from rfl] at s4
  have hx1 := two_len (two l a 0 0) a (UInt8.ofNat (n / 256)) (UInt8.ofNat n)
  have hsum : foldN (sumW (two (two l a 0 0) a (UInt8.ofNat (n / 256)) (UInt8.ofNat n))) = 65535 := by
    have e : (UInt8.ofNat (n / 256)).toNat * 256 + (UInt8.ofNat n).toNat = n := by
      have e1 : (UInt8.ofNat (n / 256)).toNat = n / 256 % 256 := by simp
      have e2 : (UInt8.ofNat n).toNat = n % 256 := by simp
      rw [e1, e2]
      omega
    rw [two_sum l a _ _ ha (by omega), e]
    exact own_sum _ n hn
  generalize two (two l a 0 0) a (UInt8.ofNat (n / 256)) (UInt8.ofNat n) = x1 at *
  have q2 := fun g g' => right1' g g' x1 (by omega) hsum
  have q3 := fun g g' => total1' g g' x1 (by omega) hsum
  have hx1' : x1.length = l.length := by omega
  have hs2 := fun g b => sn_at2 g x1 l.length 5 24 b hx1'
  have hs3 := fun g b c => sn_at3 g x1 l.length 5 24 b c hx1'
  by_cases p1 : place < 0
  · simp (disch := first | omega | (simp only [List.length_cons, List.length_nil, List.length_append, List.length_map, List.length_set]; omega) | rfl) only [go_sem, reduceCtorEq, ↓reduceIte, Nat.reduceEqDiff, Nat.reduceAdd, Nat.reduceSub, Nat.reduceMul, Nat.reduceLeDiff, Nat.reduceLT, Nat.reduceBEq, Nat.reduceBNe, Int.reduceAdd, Int.reduceSub, Int.reduceMul, Int.reduceNeg, Int.reduceEq, Int.reduceNe, Int.reduceLT, Int.reduceLE, Int.reduceToNat, reduceDIte, Nat.reduceSucc, by8_eq, I5, hk, s13, a1, a2, a3, a4, a5, q5, i1, i2, s1, s2, s3, s4, q1, q2, q3, w1, w2, w3, sn_rows, hx0, hs2, hs3, p1]
  by_cases p2 : (l.length : Int) ≤ place
  · simp (disch := first | omega | (simp only [List.length_cons, List.length_nil, List.length_append, List.length_map, List.length_set]; omega) | rfl) only [go_sem, reduceCtorEq, ↓reduceIte, Nat.reduceEqDiff, Nat.reduceAdd, Nat.reduceSub, Nat.reduceMul, Nat.reduceLeDiff, Nat.reduceLT, Nat.reduceBEq, Nat.reduceBNe, Int.reduceAdd, Int.reduceSub, Int.reduceMul, Int.reduceNeg, Int.reduceEq, Int.reduceNe, Int.reduceLT, Int.reduceLE, Int.reduceToNat, reduceDIte, Nat.reduceSucc, by8_eq, I5, hk, s13, a1, a2, a3, a4, a5, q5, i1, i2, s1, s2, s3, s4, q1, q2, q3, w1, w2, w3, sn_rows, hx0, hs2, hs3, p1, p2]
  by_cases p3 : d = 0
  · subst p3
    simp (disch := first | omega | (simp only [List.length_cons, List.length_nil, List.length_append, List.length_map, List.length_set]; omega) | rfl) only [go_sem, reduceCtorEq, ↓reduceIte, Nat.reduceEqDiff, Nat.reduceAdd, Nat.reduceSub, Nat.reduceMul, Nat.reduceLeDiff, Nat.reduceLT, Nat.reduceBEq, Nat.reduceBNe, Int.reduceAdd, Int.reduceSub, Int.reduceMul, Int.reduceNeg, Int.reduceEq, Int.reduceNe, Int.reduceLT, Int.reduceLE, Int.reduceToNat, reduceDIte, Nat.reduceSucc, by8_eq, I5, hk, s13, a1, a2, a3, a4, a5, q5, i1, i2, s1, s2, s3, s4, q1, q2, q3, w1, w2, w3, sn_rows, hx0, hs2, hs3, p1, p2, show ((0 : UInt8).toNat : Int) = 0 from rfl]
  obtain ⟨pl, rfl⟩ : ∃ p : Nat, place = p := ⟨place.toNat, by omega⟩
  have p3' : ¬ ((d.toNat : Int) = 0) := fun h => p3 ((zero_neq d).1 h)
  have hno := own_other x1 pl (by omega) d p3 hsum
  have i3 := fun x y => iaddrK_sl (AObj.row 0 1 (x : List AV) 5 :: y) 1 0 0 0 l.length .i64 (pl : Int) (by omega) (by omega) rfl
  rw [show 0 + ((pl : Int)).toNat * 1 = pl by omega] at i3
  have l1 := fun h => ldR_by8 h 0 0 pl x1 5 (by omega)
  have w4 := wrapU8 ((nth x1 pl).toNat + d.toNat)
  simp only [Int.natCast_add] at w4
  have s5 := fun y => st y x1 pl (UInt8.ofNat ((nth x1 pl).toNat + d.toNat)) (by omega)
  have hx2 : (x1.set pl (UInt8.ofNat ((nth x1 pl).toNat + d.toNat))).length = l.length := by rw [List.length_set]; omega
  have q4 := fun g g' => right0' g g' _ (by omega) hno
  have hs4 := fun g b c d => sn_at4 g _ l.length 5 24 b c d hx2
  generalize x1.set pl (UInt8.ofNat ((nth x1 pl).toNat + d.toNat)) = x2 at *
  simp (disch := first | omega | (simp only [List.length_cons, List.length_nil, List.length_append, List.length_map, List.length_set]; omega) | rfl) only [go_sem, reduceCtorEq, ↓reduceIte, Nat.reduceEqDiff, Nat.reduceAdd, Nat.reduceSub, Nat.reduceMul, Nat.reduceLeDiff, Nat.reduceLT, Nat.reduceBEq, Nat.reduceBNe, Int.reduceAdd, Int.reduceSub, Int.reduceMul, Int.reduceNeg, Int.reduceEq, Int.reduceNe, Int.reduceLT, Int.reduceLE, Int.reduceToNat, reduceDIte, Nat.reduceSucc, by8_eq, I5, hk, s13, a1, a2, a3, a4, a5, q5, i1, i2, i3, l1, s1, s2, s3, s4, s5, q1, q2, q3, q4, w1, w2, w3, w4, sn_rows, hx0, hs2, hs3, hs4, p1, p2, p3']
end Go.Fw.Wd
