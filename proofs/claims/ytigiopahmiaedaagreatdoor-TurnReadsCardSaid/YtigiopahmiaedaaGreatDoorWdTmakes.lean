/-
  Segments by the document: what is made; what is made is parsed as it was. Conditions: stated at each.
  What is made is parsed as it was. Conditions: stated at each.
-/
import Derived.Test.YtigiopahmiaedaaGreatDoorWdTmk
set_option linter.unusedVariables false
set_option linter.unusedSimpArgs false
namespace Go.Fw.Wd
open Go.Proofs Code_

theorem over2 (l : List UInt8) (a b : UInt8) (h : 18 ≤ l.length) : over l 16 [a, b] = (l.set 16 a).set 17 b := by
  have e : l = l.take 16 ++ (nth l 16 :: nth l 17 :: l.drop 18) := by
    have h1 := drop_nth l 16 (by omega)
    have h2 := drop_nth l 17 (by omega)
    rw [← h2, ← h1, List.take_append_drop]
  have hl : (l.take 16).length = 16 := by rw [List.length_take]; omega
  unfold over
  show l.take 16 ++ [a, b] ++ l.drop 18 = _
  conv => rhs; rw [e]
  rw [List.set_append_right _ _ (by omega), List.set_append_right _ _ (by omega), hl]
  simp
end Go.Fw.Wd
set_option linter.unusedVariables false
set_option linter.unusedSimpArgs false
namespace Go.Fw.Wd
open Go.Proofs Code_

theorem sumW_e (a b : UInt32) (n : Nat) : sumW (endsB a b n) = sumW (encb 4 a.toNat) + (sumW (encb 4 b.toNat) + sumW (encb 2 6 ++ encb 2 (n % 65536))) := by
  have e4 : ∀ v : Nat, (encb 4 v).length % 2 = 0 := fun v => by rw [encb_length]
  unfold endsB
  rw [List.append_assoc, sumW_append _ _ (e4 _), sumW_append _ _ (e4 _)]
theorem sumW_ends (a b : UInt32) (n : Nat) (x : List UInt8) : sumW (endsB b a n ++ x) = sumW (endsB a b n ++ x) := by
  have l12 : ∀ a b : UInt32, (endsB a b n).length % 2 = 0 := fun a b => by rw [endsB_len]
  rw [sumW_append _ _ (l12 b a), sumW_append _ _ (l12 a b), sumW_e, sumW_e]
  omega
/-- A made segment, in three parts. -/
def preT (p q : Nat) (f : UInt8) : List UInt8 := encb 2 p ++ encb 2 q ++ [0, 0, 0, 0, 0, 0, 0, 0, 80, f, 0, 0]
theorem preT_len (p q : Nat) (f : UInt8) : (preT p q f).length = 16 := by simp only [preT, List.length_append, encb_length]; rfl
theorem headT_split (p q : Nat) (f : UInt8) (body : List UInt8) : headT p q f ++ body = preT p q f ++ (encb 2 0 ++ ([0, 0] ++ body)) := by
  have : encb 2 0 = [0, 0] := by rw [two_eq]; rfl
  rw [this]
  simp [headT, preT]
theorem rawT_split (p q : Nat) (f : UInt8) (body : List UInt8) (a b : UInt32) : rawT p q f body a b = preT p q f ++ (encb 2 (sumT (headT p q f ++ body) a b) ++ ([0, 0] ++ body)) := by
  have hl := preT_len p q f
  unfold rawT over
  rw [encb_length]
  generalize encb 2 (sumT (headT p q f ++ body) a b) = e
  rw [headT_split]
  have h2 : (preT p q f ++ encb 2 0).length = 18 := by rw [List.length_append, hl, encb_length]
  rw [List.take_left' hl, ← List.append_assoc (preT p q f) (encb 2 0), List.drop_left' h2, List.append_assoc]
theorem rawT_sum (p q : Nat) (f : UInt8) (body : List UInt8) (a b : UInt32) (n : Nat) (hn : n = (headT p q f ++ body).length) : foldN (sumW (endsB a b n ++ rawT p q f body a b)) = 65535 := by
  have l12 : (endsB a b n).length % 2 = 0 := by rw [endsB_len]
  have hl := preT_len p q f
  have hs : sumT (headT p q f ++ body) a b = 65535 - foldN (sumW (endsB a b n ++ (headT p q f ++ body))) := by rw [hn]; rfl
  have h65 : sumT (headT p q f ++ body) a b < 65536 := by rw [hs]; omega
  rw [rawT_split, sumW_append _ _ l12, sumW_append _ _ (by rw [hl]), sumW_enc2 _ h65]
  rw [hs, headT_split, sumW_append _ _ l12, sumW_append _ _ (by rw [hl]), sumW_enc2 0 (by omega)]
  generalize sumW (endsB a b n) = x
  generalize sumW (preT p q f) = y
  generalize sumW ([0, 0] ++ body) = z
  have h1 : x + (y + (0 + z)) = x + y + z := by omega
  rw [h1]
  have h2 : x + (y + (65535 - foldN (x + y + z) + z)) = (x + y + z) + (65535 - foldN (x + y + z)) := by omega
  rw [h2]
  generalize x + y + z = m
  unfold foldN
  split <;> split <;> omega
theorem parse_made (p q : Nat) (hp : p < 65536) (hq : q < 65536) (f : UInt8) (body : List UInt8) (hb : body.length ≤ 1460) (a b : UInt32) : parseT (rawT p q f body a b) a b = .tup [.agg (segC p q f (rawT p q f body a b)), .nili] ∧ parseT (rawT p q f body a b) b a = .tup [.agg (segC p q f (rawT p q f body a b)), .nili] := by
  have hlen := rawT_len p q f body a b
  have hsum := rawT_sum p q f body a b (rawT p q f body a b).length (by rw [hlen, List.length_append, headT_len])
  have hsum2 := sumW_ends a b (rawT p q f body a b).length (rawT p q f body a b)
  have hsp := rawT_split p q f body a b
  obtain ⟨p1, p2, hpe⟩ := encb2 p
  obtain ⟨r1, r2, hqe⟩ := encb2 q
  generalize hr : rawT p q f body a b = raw at *
  have e : raw = p1 :: p2 :: r1 :: r2 :: 0 :: 0 :: 0 :: 0 :: 0 :: 0 :: 0 :: 0 :: 80 :: f :: 0 :: 0 :: (encb 2 (sumT (headT p q f ++ body) a b) ++ ([0, 0] ++ body)) := by
    rw [hsp]
    unfold preT
    rw [hpe, hqe]
    rfl
  have n12 : nth raw 12 = 80 := by rw [e]; rfl
  have n13 : nth raw 13 = f := by rw [e]; rfl
  have t0 : raw.take 2 = encb 2 p := by rw [e, hpe]; rfl
  have t2 : (raw.drop 2).take 2 = encb 2 q := by rw [e, hqe]; rfl
  have hf : formE raw = 0 := by
    unfold formE
    rw [n12, if_neg (by omega), if_neg (by decide), if_neg (by show ¬ raw.length < 20; omega), if_neg (by omega)]
  have u0 : num (raw.take 2) = p := by rw [t0]; exact num_encb_of (by omega)
  have u2 : num ((raw.drop 2).take 2) = q := by rw [t2]; exact num_encb_of (by omega)
  unfold parseT
  rw [if_pos hf, if_pos hf, hsum2, if_pos hsum, u0, u2, n13]
  exact ⟨rfl, rfl⟩

end Go.Fw.Wd
