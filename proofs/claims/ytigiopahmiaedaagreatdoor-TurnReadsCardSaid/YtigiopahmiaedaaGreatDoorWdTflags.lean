/-
  What Make and Has answer; flags together and each. Conditions: stated at each.
-/
import Derived.Test.YtigiopahmiaedaaGreatDoorWdTspoilt
set_option linter.unusedVariables false
set_option linter.unusedSimpArgs false
namespace Go.Fw.Wd
open Go.Proofs Code_

theorem bits_u8 (a : UInt8) : BitVec.ofInt 8 (a.toNat : Int) = a.toBitVec := by
  apply BitVec.eq_of_toNat_eq
  rw [BitVec.toNat_ofInt]
  have := a.toNat_lt
  show ((a.toNat : Int) % 256).toNat = a.toNat
  omega
theorem wrap_bv (v : BitVec 8) : IntKind.u8.wrap ((v.toNat : Nat) : Int) = (v.toNat : Int) := by
  have := v.isLt
  exact wu8 (by omega) (by omega)
theorem and_u8 (a b : UInt8) : bitsI .and .u8 (a.toNat : Int) (b.toNat : Int) = ((a &&& b).toNat : Int) := by
  show IntKind.u8.wrap (((BitVec.ofInt 8 (a.toNat : Int)) &&& (BitVec.ofInt 8 (b.toNat : Int))).toNat : Int) = _
  rw [bits_u8, bits_u8, wrap_bv]
  rfl
theorem or_u8 (a b : UInt8) : bitsI .or .u8 (a.toNat : Int) (b.toNat : Int) = ((a ||| b).toNat : Int) := by
  show IntKind.u8.wrap (((BitVec.ofInt 8 (a.toNat : Int)) ||| (BitVec.ofInt 8 (b.toNat : Int))).toNat : Int) = _
  rw [bits_u8, bits_u8, wrap_bv]
  rfl
theorem andNot_u8 (a b : UInt8) : bitsI .andNot .u8 (a.toNat : Int) (b.toNat : Int) = ((a &&& ~~~b).toNat : Int) := by
  show IntKind.u8.wrap (((BitVec.ofInt 8 (a.toNat : Int)) &&& ~~~(BitVec.ofInt 8 (b.toNat : Int))).toNat : Int) = _
  rw [bits_u8, bits_u8, wrap_bv]
  rfl
theorem has_iff (f x : BitVec 8) : f &&& x = x ↔ ∀ i, i < 8 → x.getLsbD i = true → f.getLsbD i = true := by
  constructor
  · intro h i _ hx
    have := congrArg (·.getLsbD i) h
    simp only [BitVec.getLsbD_and, hx, Bool.and_true] at this
    exact this
  · intro h
    apply BitVec.eq_of_getLsbD_eq
    intro i hi
    rw [BitVec.getLsbD_and]
    cases hx : x.getLsbD i
    · simp
    · rw [h i hi hx]; rfl
theorem not_iff (f x : BitVec 8) : x &&& ~~~f = 0#8 ↔ ∀ i, i < 8 → x.getLsbD i = true → f.getLsbD i = true := by
  constructor
  · intro h i hi hx
    have := congrArg (·.getLsbD i) h
    simp only [BitVec.getLsbD_and, hx, BitVec.getLsbD_not, hi, decide_true, Bool.true_and, BitVec.getLsbD_zero] at this
    simpa using this
  · intro h
    apply BitVec.eq_of_getLsbD_eq
    intro i hi
    rw [BitVec.getLsbD_and, BitVec.getLsbD_not, BitVec.getLsbD_zero]
    cases hx : x.getLsbD i
    · simp
    · rw [h i hi hx]; simp
def hasB (f x : UInt8) : Bool := decide (f &&& x = x)
theorem toBV (f x : UInt8) : (f &&& x = x) ↔ (f.toBitVec &&& x.toBitVec = x.toBitVec) := by
  rw [← UInt8.toBitVec_inj]
  rfl
theorem has_or (f a b : UInt8) : hasB f (a ||| b) = (hasB f a && hasB f b) := by
  unfold hasB
  rw [Bool.eq_iff_iff, Bool.and_eq_true, decide_eq_true_eq, decide_eq_true_eq, decide_eq_true_eq, toBV, toBV, toBV, has_iff, has_iff, has_iff]
  show (∀ i, i < 8 → (a.toBitVec ||| b.toBitVec).getLsbD i = true → _) ↔ _
  constructor
  · intro h
    exact ⟨fun i hi hx => h i hi (by rw [BitVec.getLsbD_or, hx]; rfl), fun i hi hx => h i hi (by rw [BitVec.getLsbD_or, hx, Bool.or_true])⟩
  · rintro ⟨h1, h2⟩ i hi hx
    rw [BitVec.getLsbD_or, Bool.or_eq_true] at hx
    rcases hx with hx | hx
    · exact h1 i hi hx
    · exact h2 i hi hx
theorem has_zero (f : UInt8) : hasB f 0 = true := by simp [hasB]
theorem has_self (f : UInt8) : hasB f f = true := by simp [hasB]
theorem has_not (f a : UInt8) : decide (a &&& ~~~f = 0) = hasB f a := by
  unfold hasB
  rw [Bool.eq_iff_iff, decide_eq_true_eq, decide_eq_true_eq, toBV, has_iff, ← not_iff, ← UInt8.toBitVec_inj]
  exact Iff.rfl

/-- A made segment's bytes. -/
def headT (p q : Nat) (f : UInt8) : List UInt8 := encb 2 p ++ encb 2 q ++ [0, 0, 0, 0, 0, 0, 0, 0, 80, f, 0, 0, 0, 0, 0, 0]
def sumT (x : List UInt8) (a b : UInt32) : Nat := 65535 - foldN (sumW (endsB a b x.length ++ x))
def rawT (p q : Nat) (f : UInt8) (body : List UInt8) (a b : UInt32) : List UInt8 := over (headT p q f ++ body) 16 (encb 2 (sumT (headT p q f ++ body) a b))
theorem headT_len (p q : Nat) (f : UInt8) : (headT p q f).length = 20 := by simp only [headT, List.length_append, encb_length]; rfl
theorem encb2 (n : Nat) : ∃ x y, encb 2 n = [x, y] := by
  have := encb_length 2 n
  match encb 2 n, this with
  | [x, y], _ => exact ⟨x, y, rfl⟩
theorem snA (g : Bool) (o0 : AObj) (t1 t2 t3 : TypeId) (x z : List UInt8) (n m : Nat) (hx : x.length = n) (hz : z.length = m) : snR g [o0, .row 0 1 (x.map by8) t1, .row 0 1 (z.map by8) t2, .row 0 1 [.sl 1 1 0 0 n, .sl 1 2 0 0 m] t3] 8 3 0 2
    (some (.row 0 1 [.sl 1 1 0 0 n, .sl 1 2 0 0 m] t3)) = some (.rs g 1 [.rs g 1 (x.map by8), .rs g 1 (z.map by8)]) := by
  have e1 : sn g [o0, .row 0 1 (x.map by8) t1, .row 0 1 (z.map by8) t2, .row 0 1 [.sl 1 1 0 0 n, .sl 1 2 0 0 m] t3] 7 (.sl 1 1 0 0 n) = some (.rs g 1 (x.map by8)) := by
    rw [sn_row]
    exact snR_by8 g _ 7 1 0 n x t1 hx
  have e2 : sn g [o0, .row 0 1 (x.map by8) t1, .row 0 1 (z.map by8) t2, .row 0 1 [.sl 1 1 0 0 n, .sl 1 2 0 0 m] t3] 7 (.sl 1 2 0 0 m) = some (.rs g 1 (z.map by8)) := by
    rw [sn_row]
    exact snR_by8 g _ 7 2 0 m z t2 hz
  refine (sn_row g [o0, .row 0 1 (x.map by8) t1, .row 0 1 (z.map by8) t2, .row 0 1 [.sl 1 1 0 0 n, .sl 1 2 0 0 m] t3] 7 3 0 2).symm.trans ?_
  rw [sn_sl]
  show (snL g _ 7 [.sl 1 1 0 0 n, .sl 1 2 0 0 m]).map _ = _
  simp only [snL_cons, snL_nil, e1, e2, consK_some, Option.map_some]
  rfl
theorem snB (g : Bool) (o0 o1 o2 o3 : AObj) (t1 t2 : TypeId) (e : List AV) (x : List UInt8) (n v : Nat) (hx : x.length = n) : snR g [o0, o1, o2, o3, .row v 1 (x.map by8) t1, .row 0 1 [.rs false 1 e, .sl 1 4 v 0 n] t2] 8 5 0 2
    (some (.row 0 1 [.rs false 1 e, .sl 1 4 v 0 n] t2)) = some (.rs g 1 [.rs false 1 e, .rs g 1 (x.map by8)]) := by
  have e1 : sn g [o0, o1, o2, o3, .row v 1 (x.map by8) t1, .row 0 1 [.rs false 1 e, .sl 1 4 v 0 n] t2] 7 (.sl 1 4 v 0 n) = some (.rs g 1 (x.map by8)) := by
    rw [sn_row]
    exact snR_by8 g _ 7 4 v n x t1 hx
  refine (sn_row g [o0, o1, o2, o3, .row v 1 (x.map by8) t1, .row 0 1 [.rs false 1 e, .sl 1 4 v 0 n] t2] 7 5 0 2).symm.trans ?_
  rw [sn_sl]
  show (snL g _ 7 [.rs false 1 e, .sl 1 4 v 0 n]).map _ = _
  simp only [snL_cons, snL_nil, sn_rs, e1, consK_some, Option.map_some]
  rfl
theorem rawT_len (p q : Nat) (f : UInt8) (body : List UInt8) (a b : UInt32) : (rawT p q f body a b).length = 20 + body.length := by
  unfold rawT
  rw [over_len _ _ _ (by rw [List.length_append, headT_len, encb_length]; omega), List.length_append, headT_len]
theorem rawT_drop (p q : Nat) (f : UInt8) (body : List UInt8) (a b : UInt32) : (rawT p q f body a b).drop 20 = body := by
  have hl := headT_len p q f
  unfold rawT over
  rw [encb_length]
  generalize hs : encb 2 (sumT (headT p q f ++ body) a b) = e
  have he : e.length = 2 := by rw [← hs, encb_length]
  have h1 : ((headT p q f ++ body).take 16 ++ e).length = 18 := by rw [List.length_append, he, List.length_take, List.length_append, hl]; omega
  rw [show 20 = 18 + 2 from rfl, ← List.drop_drop, List.drop_left' h1, List.drop_drop]
  exact List.drop_left' hl
end Go.Fw.Wd
