/-
  Subnets of addresses of 32 bits, as whole numbers: the program's masks and the definition by quotients say the same. Conditions: none.
-/
import Derived.Test.YtbbkmdibmmcjnaaFwS
set_option linter.unusedVariables false
set_option linter.unusedSimpArgs false
namespace Go.Fw.Net

theorem and_mask (x k : Nat) (hx : x < 2 ^ 32) (hk : k ≤ 32) : x &&& (2 ^ 32 - 2 ^ k) = 2 ^ k * (x / 2 ^ k) := by
  apply Nat.eq_of_testBit_eq
  intro i
  have hp : 0 < 2 ^ k := Nat.two_pow_pos k
  have hlt : 2 ^ k - 1 < 2 ^ 32 := by
    have : 2 ^ k ≤ 2 ^ 32 := Nat.pow_le_pow_right (by omega) hk
    omega
  have e : 2 ^ 32 - 2 ^ k = 2 ^ 32 - ((2 ^ k - 1) + 1) := by omega
  rw [Nat.testBit_and, e, Nat.testBit_two_pow_sub_succ hlt, Nat.testBit_two_pow_sub_one, Nat.testBit_two_pow_mul, Nat.testBit_div_two_pow]
  by_cases h1 : i < k
  · have : ¬ k ≤ i := by omega
    simp [h1, this]
  · have h2 : k ≤ i := by omega
    have e2 : i - k + k = i := by omega
    by_cases h3 : i < 32
    · simp [h1, h2, h3, e2]
    · have : x.testBit i = false := Nat.testBit_lt_two_pow (Nat.lt_of_lt_of_le hx (Nat.pow_le_pow_right (by omega) (by omega)))
      simp [h1, h2, h3, e2, this]

theorem or_mask (x k : Nat) : x ||| (2 ^ k - 1) = 2 ^ k * (x / 2 ^ k) + (2 ^ k - 1) := by
  apply Nat.eq_of_testBit_eq
  intro i
  have hp : 0 < 2 ^ k := Nat.two_pow_pos k
  rw [Nat.testBit_or, Nat.testBit_two_pow_sub_one, Nat.testBit_two_pow_mul_add _ (by omega), Nat.testBit_two_pow_sub_one, Nat.testBit_div_two_pow]
  by_cases h1 : i < k
  · simp [h1]
  · have e2 : i - k + k = i := by omega
    simp [h1, e2]

def bnd (b : Int) : Bool := decide (8 ≤ b ∧ b ≤ 30)
def siz (b : Int) : Int := 2 ^ (32 - b).toNat
def base (ip b : Int) : Int := if bnd b then ip / siz b * siz b else 0
def lst (ip b : Int) : Int := if bnd b then ip / siz b * siz b + siz b - 1 else 0
def has (ip b x : Int) : Bool := bnd b && decide (base ip b ≤ x ∧ x ≤ lst ip b)
def host (ip b x : Int) : Bool := has ip b x && decide (x ≠ base ip b ∧ x ≠ lst ip b)
def single (x : Int) : Bool := decide (1 ≤ x / 16777216 ∧ x / 16777216 ≤ 223 ∧ x / 16777216 ≠ 127)
def rightN (ip b : Int) : Bool := host ip b ip && single ip
def apart (ip b jp c : Int) : Bool := rightN ip b && rightN jp c && decide (lst ip b < base jp c ∨ lst jp c < base ip b)

/-- Addresses. -/
def U (x : Int) : Prop := 0 ≤ x ∧ x ≤ 4294967295

theorem bits (P : Int → Prop) (h : ∀ k : Nat, 2 ≤ k → k ≤ 24 → P (32 - k)) (b : Int) (h1 : 8 ≤ b) (h2 : b ≤ 30) : P b := by
  have := h (32 - b).toNat (by omega) (by omega)
  rwa [show (32 : Int) - ((32 - b).toNat : Nat) = b by omega] at this

theorem siz_k (k : Nat) : siz (32 - (k : Int)) = ((2 ^ k : Nat) : Int) := by
  unfold siz
  rw [show (32 - (32 - (k : Int))).toNat = k by omega]
  simp

theorem mask_wrap : ∀ k : Nat, 2 ≤ k → k ≤ 24 → IntKind.u32.wrap (4294967295 * 2 ^ (min k 32)) = 4294967296 - 2 ^ k := by
  intro k h1 h2
  have : k = 2 ∨ k = 3 ∨ k = 4 ∨ k = 5 ∨ k = 6 ∨ k = 7 ∨ k = 8 ∨ k = 9 ∨ k = 10 ∨ k = 11 ∨ k = 12 ∨ k = 13 ∨ k = 14 ∨ k = 15 ∨ k = 16 ∨ k = 17 ∨ k = 18 ∨ k = 19 ∨ k = 20 ∨ k = 21 ∨ k = 22 ∨ k = 23 ∨ k = 24 := by omega
  rcases this with rfl | rfl | rfl | rfl | rfl | rfl | rfl | rfl | rfl | rfl | rfl | rfl | rfl | rfl | rfl | rfl | rfl | rfl | rfl | rfl | rfl | rfl | rfl <;> rfl

theorem wrap_id {x : Int} (h : U x) : IntKind.u32.wrap x = x := by
  obtain ⟨h1, h2⟩ := h
  simp [IntKind.wrap, IntKind.signed, IntKind.bits]
  omega

theorem ofInt_toNat {x : Int} (h : U x) : (BitVec.ofInt 32 x).toNat = x.toNat := by
  obtain ⟨h1, h2⟩ := h
  rw [BitVec.toNat_ofInt]
  omega

theorem bits_and {x : Int} (hx : U x) (b : Int) (h1 : 8 ≤ b) (h2 : b ≤ 30) : bitsI .and .u32 x (4294967296 - siz b) = x / siz b * siz b := by
  refine bits (fun b => bitsI .and .u32 x (4294967296 - siz b) = x / siz b * siz b) (fun k hk1 hk2 => ?_) b h1 h2
  show bitsI .and .u32 x (4294967296 - siz _) = _
  rw [siz_k]
  have hp : 2 ^ k ≤ 2 ^ 24 := Nat.pow_le_pow_right (by omega) hk2
  have hp0 : 0 < 2 ^ k := Nat.two_pow_pos k
  have hm : U (4294967296 - ((2 ^ k : Nat) : Int)) := by constructor <;> omega
  have hq := and_mask x.toNat k (by obtain ⟨a, b⟩ := hx; omega) (by omega)
  have hle : 2 ^ k * (x.toNat / 2 ^ k) ≤ x.toNat := Nat.mul_div_le _ _
  have e : ((x.toNat / 2 ^ k : Nat) : Int) = x / ((2 ^ k : Nat) : Int) := by
    rw [Int.natCast_ediv, Int.toNat_of_nonneg hx.1]
  show IntKind.u32.wrap ((BitVec.ofInt 32 x &&& BitVec.ofInt 32 (4294967296 - ((2 ^ k : Nat) : Int))).toNat : Int) = _
  rw [BitVec.toNat_and, ofInt_toNat hx, ofInt_toNat hm, show (4294967296 - ((2 ^ k : Nat) : Int)).toNat = 2 ^ 32 - 2 ^ k by omega, hq]
  rw [wrap_id (by obtain ⟨a, b⟩ := hx; constructor <;> omega)]
  rw [Int.natCast_mul, e, Int.mul_comm]

theorem bits_not (b : Int) (h1 : 8 ≤ b) (h2 : b ≤ 30) : bitsI .xor .u32 4294967295 (4294967296 - siz b) = siz b - 1 := by
  refine bits (fun b => bitsI .xor .u32 4294967295 (4294967296 - siz b) = siz b - 1) (fun k hk1 hk2 => ?_) b h1 h2
  show bitsI .xor .u32 4294967295 (4294967296 - siz _) = siz _ - 1
  rw [siz_k]
  have : k = 2 ∨ k = 3 ∨ k = 4 ∨ k = 5 ∨ k = 6 ∨ k = 7 ∨ k = 8 ∨ k = 9 ∨ k = 10 ∨ k = 11 ∨ k = 12 ∨ k = 13 ∨ k = 14 ∨ k = 15 ∨ k = 16 ∨ k = 17 ∨ k = 18 ∨ k = 19 ∨ k = 20 ∨ k = 21 ∨ k = 22 ∨ k = 23 ∨ k = 24 := by omega
  rcases this with rfl | rfl | rfl | rfl | rfl | rfl | rfl | rfl | rfl | rfl | rfl | rfl | rfl | rfl | rfl | rfl | rfl | rfl | rfl | rfl | rfl | rfl | rfl <;> decide

theorem bits_or {x : Int} (hx : U x) (b : Int) (h1 : 8 ≤ b) (h2 : b ≤ 30) : bitsI .or .u32 x (siz b - 1) = x / siz b * siz b + siz b - 1 := by
  refine bits (fun b => bitsI .or .u32 x (siz b - 1) = x / siz b * siz b + siz b - 1) (fun k hk1 hk2 => ?_) b h1 h2
  show bitsI .or .u32 x (siz _ - 1) = _
  rw [siz_k]
  have hp : 2 ^ k ≤ 2 ^ 24 := Nat.pow_le_pow_right (by omega) hk2
  have hp0 : 0 < 2 ^ k := Nat.two_pow_pos k
  have hm : U (((2 ^ k : Nat) : Int) - 1) := by constructor <;> omega
  have hq := or_mask x.toNat k
  have hlt : x.toNat ||| (2 ^ k - 1) < 2 ^ 32 := Nat.or_lt_two_pow (by obtain ⟨a, b⟩ := hx; omega) (by omega)
  have e : ((x.toNat / 2 ^ k : Nat) : Int) = x / ((2 ^ k : Nat) : Int) := by
    rw [Int.natCast_ediv, Int.toNat_of_nonneg hx.1]
  show IntKind.u32.wrap ((BitVec.ofInt 32 x ||| BitVec.ofInt 32 (((2 ^ k : Nat) : Int) - 1)).toNat : Int) = _
  rw [BitVec.toNat_or, ofInt_toNat hx, ofInt_toNat hm, show (((2 ^ k : Nat) : Int) - 1).toNat = 2 ^ k - 1 by omega]
  rw [wrap_id (by constructor <;> omega), hq, Int.natCast_add, Int.natCast_mul, e, Int.mul_comm]
  omega

end Go.Fw.Net
