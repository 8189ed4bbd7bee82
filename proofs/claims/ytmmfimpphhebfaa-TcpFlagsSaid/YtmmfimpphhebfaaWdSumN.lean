/-
  Sums of 16 bits, by their numbers alone. Conditions: stated at each.
-/
import Derived.Test.YtmmfimpphhebfaaWdTotal
set_option linter.unusedVariables false
set_option linter.unusedSimpArgs false
namespace Go.Fw.Wd
open Go.Proofs Code_

theorem foldN_add (a b : Nat) : foldN (foldN a + b) = foldN (a + b) := by unfold foldN; split <;> split <;> split <;> omega
theorem foldN_mod (a : Nat) : foldN a % 65535 = a % 65535 := by unfold foldN; split <;> omega
theorem foldN_pos {a : Nat} (h : 0 < a) : 0 < foldN a := by unfold foldN; split <;> omega
theorem foldN_zero {a : Nat} (h : foldN a = 0) : a = 0 := by unfold foldN at h; split at h <;> omega
theorem foldN_le (a : Nat) : foldN a ≤ 65535 := by have := foldN_lt a; omega
theorem foldN_eq {a b : Nat} (ha : 0 < a) (hb : 0 < b) (h : a % 65535 = b % 65535) : foldN a = foldN b := by
  unfold foldN
  rw [if_neg (by omega), if_neg (by omega)]
  omega

/-- A sum that is to stand where one number stood and another stands now. -/
def turnN (a b c : Nat) : Nat := 65535 - foldN ((65535 - a) + (65535 - b) + c)
theorem turnN_lt (a b c : Nat) : turnN a b c < 65536 := by unfold turnN; omega

/-- The number at a pair's place. -/
def pw (l : List UInt8) (k : Nat) : Nat := pairN (chunkB l k)
theorem pw_lt (l : List UInt8) (k : Nat) : pw l k < 65536 := pairN_lt _
theorem chunkB_two (l : List UInt8) (k : Nat) (h : 2 * k + 1 < l.length) : chunkB l k = [nth l (2 * k), nth l (2 * k + 1)] := by
  unfold chunkB
  rw [List.drop_eq_getElem_cons (by omega), List.drop_eq_getElem_cons (by omega), nth_get _ _ (by omega), nth_get _ _ (by omega)]
  rfl
theorem chunkB_one (l : List UInt8) (k : Nat) (h : 2 * k + 1 = l.length) : chunkB l k = [nth l (2 * k)] := by
  unfold chunkB
  rw [List.drop_eq_getElem_cons (by omega), List.drop_of_length_le (by omega), nth_get _ _ (by omega)]
  rfl
theorem pw_two (l : List UInt8) (k : Nat) (h : 2 * k + 1 < l.length) : pw l k = (nth l (2 * k)).toNat * 256 + (nth l (2 * k + 1)).toNat := by
  unfold pw
  rw [chunkB_two l k h]
  rfl
theorem pw_one (l : List UInt8) (k : Nat) (h : 2 * k + 1 = l.length) : pw l k = (nth l (2 * k)).toNat * 256 := by
  unfold pw
  rw [chunkB_one l k h]
  rfl
def patK (w n : List UInt8) (a : Nat) : Nat → Nat
  | 0 => a
  | k + 1 => turnN (patK w n a k) (pw w k) (pw n k)
theorem patK_lt (w n : List UInt8) {a : Nat} (ha : a < 65536) : ∀ k, patK w n a k < 65536
  | 0 => ha
  | _ + 1 => turnN_lt _ _ _
/-- What Patch answers. -/
def patN (a : Nat) (w n : List UInt8) : Nat := if w.length = n.length ∧ w.length % 2 = 0 then patK w n a (w.length / 2) else 0
def patF (w n : List UInt8) : Int := if w.length = n.length ∧ w.length % 2 = 0 then 0 else 11
theorem patN_ok (a : Nat) {w n : List UInt8} (h : w.length = n.length) (h2 : w.length % 2 = 0) : patN a w n = patK w n a (w.length / 2) := by simp [patN, h, h ▸ h2]
theorem patF_ok {w n : List UInt8} (h : w.length = n.length) (h2 : w.length % 2 = 0) : patF w n = 0 := by simp [patF, h, h ▸ h2]
theorem patN_lt {a : Nat} (ha : a < 65536) (w n : List UInt8) : patN a w n < 65536 := by
  unfold patN
  split
  · exact patK_lt w n ha _
  · omega

theorem sumW_append : ∀ (x y : List UInt8), x.length % 2 = 0 → sumW (x ++ y) = sumW x + sumW y
  | [], y, _ => by simp [sumW]
  | [a], y, h => by simp at h
  | a :: b :: x, y, h => by
    have := sumW_append x y (by simp only [List.length_cons] at h; omega)
    simp only [List.cons_append, sumW, this]
    omega
theorem sumW_zero : ∀ l : List UInt8, sumW l = 0 → ∀ b ∈ l, b = 0
  | [], _, b, hb => by simp at hb
  | [a], h, b, hb => by
    simp only [sumW] at h
    simp only [List.mem_singleton] at hb
    subst hb
    exact UInt8.toNat_inj.1 (by show b.toNat = 0; omega)
  | a :: c :: l, h, b, hb => by
    simp only [sumW] at h
    simp only [List.mem_cons] at hb
    rcases hb with rfl | rfl | hb
    · exact UInt8.toNat_inj.1 (by show b.toNat = 0; omega)
    · exact UInt8.toNat_inj.1 (by show b.toNat = 0; omega)
    · exact sumW_zero l (by omega) b hb
theorem sumW_accN (l : List UInt8) (h : l.length % 2 = 0) : accN l (List.range (l.length / 2)) = sumW l := by
  rw [← accN_all l]
  congr 2
  omega
theorem accN_pw (l : List UInt8) (k : Nat) : accN l (List.range (k + 1)) = accN l (List.range k) + pw l k := by
  rw [List.range_succ, accN_snoc]
  rfl

/-- What stays the same, all along a patch. -/
theorem patK_inv (w n : List UInt8) {a : Nat} (ha : a < 65536) (k : Nat) : ((65535 - patK w n a k) + accN w (List.range k)) % 65535 = ((65535 - a) + accN n (List.range k)) % 65535 ∧ (0 < 65535 - a → 0 < 65535 - patK w n a k) := by
  induction k with
  | zero => exact ⟨rfl, fun h => h⟩
  | succ k ih =>
    obtain ⟨h1, h2⟩ := ih
    have hw := pw_lt w k
    have hp := patK_lt w n ha k
    rw [accN_pw, accN_pw]
    simp only [patK, turnN]
    generalize patK w n a k = p at h1 h2 hp
    generalize accN w (List.range k) = A at h1
    generalize accN n (List.range k) = B at h1
    generalize pw w k = x at hw
    generalize pw n k = y
    have e1 := foldN_mod (65535 - p + (65535 - x) + y)
    have e2 := foldN_le (65535 - p + (65535 - x) + y)
    refine ⟨?_, fun h => ?_⟩
    · generalize foldN (65535 - p + (65535 - x) + y) = f at e1 e2
      omega
    · have := foldN_pos (a := 65535 - p + (65535 - x) + y) (by have := h2 h; omega)
      omega
theorem patN_inv {w n : List UInt8} {a : Nat} (ha : a < 65536) (h : w.length = n.length) (h2 : w.length % 2 = 0) : ((65535 - patN a w n) + sumW w) % 65535 = ((65535 - a) + sumW n) % 65535 ∧ (0 < 65535 - a → 0 < 65535 - patN a w n) := by
  rw [patN_ok a h h2, ← sumW_accN w h2, ← sumW_accN n (h ▸ h2), ← h]
  exact patK_inv w n ha _

theorem patK_take (w n : List UInt8) (a c : Nat) : ∀ k, 2 * k ≤ c → patK (w.take c) (n.take c) a k = patK w n a k
  | 0, _ => rfl
  | k + 1, h => by
    have e : ∀ l : List UInt8, pw (l.take c) k = pw l k := fun l => by
      unfold pw chunkB
      rw [List.drop_take, List.take_take]
      congr 2
      omega
    simp only [patK, e]
    rw [patK_take w n a c k (by omega)]
theorem patK_drop (w n : List UInt8) (a c : Nat) : ∀ k, patK (w.drop (2 * c)) (n.drop (2 * c)) (patK w n a c) k = patK w n a (c + k)
  | 0 => rfl
  | k + 1 => by
    have e : ∀ l : List UInt8, pw (l.drop (2 * c)) k = pw l (c + k) := fun l => by
      unfold pw chunkB
      rw [List.drop_drop]
      congr 3
      omega
    simp only [patK, e]
    rw [patK_drop w n a c k]
    rfl
end Go.Fw.Wd
