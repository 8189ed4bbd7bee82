/-
  Sums of 16 bits, by their numbers alone. Conditions: stated at each.
  What the functions on sums answer, the program's and the document's. Conditions: stated at each.
  What the functions on sums answer that go through rows. Conditions: stated at each.
-/
import Derived.Test.YtigiopahmiaedaaGreatDoorWdTotal
import Derived.Test.YtigiopahmiaedaaGreatDoorWdRow
set_option linter.unusedVariables false
set_option linter.unusedSimpArgs false
namespace Go.Fw.Wd
open Go.Proofs Code_

theorem foldN_add (a b : Nat) : foldN (foldN a + b) = foldN (a + b) := by unfold foldN; split <;> split <;> split <;> omega
theorem foldN_mod (a : Nat) : foldN a % 65535 = a % 65535 := by unfold foldN; split <;> omega
theorem foldN_pos {a : Nat} (h : 0 < a) : 0 < foldN a := by unfold foldN; split <;> omega
theorem foldN_zero {a : Nat} (h : foldN a = 0) : a = 0 := by unfold foldN at h; split at h <;> omega
theorem foldN_le (a : Nat) : foldN a ≤ 65535 := by have := foldN_lt a; omega
theorem foldN_eq {a b : Nat} (ha : 0 < a) (hb : 0 < b) (h : a % 65535 = b % 65535) : foldN a = foldN b := by
  unfold foldN
  rw [if_neg (by omega), if_neg (by omega)]
  omega

/-- A sum that is to stand where one number stood and another stands now. -/
def turnN (a b c : Nat) : Nat := 65535 - foldN ((65535 - a) + (65535 - b) + c)
theorem turnN_lt (a b c : Nat) : turnN a b c < 65536 := by unfold turnN; omega

/-- The number at a pair's place. -/
def pw (l : List UInt8) (k : Nat) : Nat := pairN (chunkB l k)
theorem pw_lt (l : List UInt8) (k : Nat) : pw l k < 65536 := pairN_lt _
theorem chunkB_two (l : List UInt8) (k : Nat) (h : 2 * k + 1 < l.length) : chunkB l k = [nth l (2 * k), nth l (2 * k + 1)] := by
  unfold chunkB
  rw [List.drop_eq_getElem_cons (by omega), List.drop_eq_getElem_cons (by omega), nth_get _ _ (by omega), nth_get _ _ (by omega)]
  rfl
theorem chunkB_one (l : List UInt8) (k : Nat) (h : 2 * k + 1 = l.length) : chunkB l k = [nth l (2 * k)] := by
  unfold chunkB
  rw [List.drop_eq_getElem_cons (by omega), List.drop_of_length_le (by omega), nth_get _ _ (by omega)]
  rfl
theorem pw_two (l : List UInt8) (k : Nat) (h : 2 * k + 1 < l.length) : pw l k = (nth l (2 * k)).toNat * 256 + (nth l (2 * k + 1)).toNat := by
  unfold pw
  rw [chunkB_two l k h]
  rfl
theorem pw_one (l : List UInt8) (k : Nat) (h : 2 * k + 1 = l.length) : pw l k = (nth l (2 * k)).toNat * 256 := by
  unfold pw
  rw [chunkB_one l k h]
  rfl
def patK (w n : List UInt8) (a : Nat) : Nat → Nat
  | 0 => a
  | k + 1 => turnN (patK w n a k) (pw w k) (pw n k)
theorem patK_lt (w n : List UInt8) {a : Nat} (ha : a < 65536) : ∀ k, patK w n a k < 65536
  | 0 => ha
  | _ + 1 => turnN_lt _ _ _
/-- What Patch answers. -/
def patN (a : Nat) (w n : List UInt8) : Nat := if w.length = n.length ∧ w.length % 2 = 0 then patK w n a (w.length / 2) else 0
def patF (w n : List UInt8) : Int := if w.length = n.length ∧ w.length % 2 = 0 then 0 else 11
theorem patN_ok (a : Nat) {w n : List UInt8} (h : w.length = n.length) (h2 : w.length % 2 = 0) : patN a w n = patK w n a (w.length / 2) := by simp [patN, h, h ▸ h2]
theorem patF_ok {w n : List UInt8} (h : w.length = n.length) (h2 : w.length % 2 = 0) : patF w n = 0 := by simp [patF, h, h ▸ h2]
theorem patN_lt {a : Nat} (ha : a < 65536) (w n : List UInt8) : patN a w n < 65536 := by
  unfold patN
  split
  · exact patK_lt w n ha _
  · omega

theorem sumW_append : ∀ (x y : List UInt8), x.length % 2 = 0 → sumW (x ++ y) = sumW x + sumW y
  | [], y, _ => by simp [sumW]
  | [a], y, h => by simp at h
  | a :: b :: x, y, h => by
    have := sumW_append x y (by simp only [List.length_cons] at h; omega)
    simp only [List.cons_append, sumW, this]
    omega
theorem sumW_zero : ∀ l : List UInt8, sumW l = 0 → ∀ b ∈ l, b = 0
  | [], _, b, hb => by simp at hb
  | [a], h, b, hb => by
    simp only [sumW] at h
    simp only [List.mem_singleton] at hb
    subst hb
    exact UInt8.toNat_inj.1 (by show b.toNat = 0; omega)
  | a :: c :: l, h, b, hb => by
    simp only [sumW] at h
    simp only [List.mem_cons] at hb
    rcases hb with rfl | rfl | hb
    · exact UInt8.toNat_inj.1 (by show b.toNat = 0; omega)
    · exact UInt8.toNat_inj.1 (by show b.toNat = 0; omega)
    · exact sumW_zero l (by omega) b hb
theorem sumW_accN (l : List UInt8) (h : l.length % 2 = 0) : accN l (List.range (l.length / 2)) = sumW l := by
  rw [← accN_all l]
  congr 2
  omega
theorem accN_pw (l : List UInt8) (k : Nat) : accN l (List.range (k + 1)) = accN l (List.range k) + pw l k := by
  rw [List.range_succ, accN_snoc]
  rfl

/-- What stays the same, all along a patch. -/
theorem patK_inv (w n : List UInt8) {a : Nat} (ha : a < 65536) (k : Nat) : ((65535 - patK w n a k) + accN w (List.range k)) % 65535 = ((65535 - a) + accN n (List.range k)) % 65535 ∧ (0 < 65535 - a → 0 < 65535 - patK w n a k) := by
  induction k with
  | zero => exact ⟨rfl, fun h => h⟩
  | succ k ih =>
    obtain ⟨h1, h2⟩ := ih
    have hw := pw_lt w k
    have hp := patK_lt w n ha k
    rw [accN_pw, accN_pw]
    simp only [patK, turnN]
    generalize patK w n a k = p at h1 h2 hp
    generalize accN w (List.range k) = A at h1
    generalize accN n (List.range k) = B at h1
    generalize pw w k = x at hw
    generalize pw n k = y
    have e1 := foldN_mod (65535 - p + (65535 - x) + y)
    have e2 := foldN_le (65535 - p + (65535 - x) + y)
    refine ⟨?_, fun h => ?_⟩
    · generalize foldN (65535 - p + (65535 - x) + y) = f at e1 e2
      omega
    · have := foldN_pos (a := 65535 - p + (65535 - x) + y) (by have := h2 h; omega)
      omega
theorem patN_inv {w n : List UInt8} {a : Nat} (ha : a < 65536) (h : w.length = n.length) (h2 : w.length % 2 = 0) : ((65535 - patN a w n) + sumW w) % 65535 = ((65535 - a) + sumW n) % 65535 ∧ (0 < 65535 - a → 0 < 65535 - patN a w n) := by
  rw [patN_ok a h h2, ← sumW_accN w h2, ← sumW_accN n (h ▸ h2), ← h]
  exact patK_inv w n ha _

theorem patK_take (w n : List UInt8) (a c : Nat) : ∀ k, 2 * k ≤ c → patK (w.take c) (n.take c) a k = patK w n a k
  | 0, _ => rfl
  | k + 1, h => by
    have e : ∀ l : List UInt8, pw (l.take c) k = pw l k := fun l => by
      unfold pw chunkB
      rw [List.drop_take, List.take_take]
      congr 2
      omega
    simp only [patK, e]
    rw [patK_take w n a c k (by omega)]
theorem patK_drop (w n : List UInt8) (a c : Nat) : ∀ k, patK (w.drop (2 * c)) (n.drop (2 * c)) (patK w n a c) k = patK w n a (c + k)
  | 0 => rfl
  | k + 1 => by
    have e : ∀ l : List UInt8, pw (l.drop (2 * c)) k = pw l (c + k) := fun l => by
      unfold pw chunkB
      rw [List.drop_drop]
      congr 3
      omega
    simp only [patK, e]
    rw [patK_drop w n a c k]
    rfl
end Go.Fw.Wd
set_option linter.unusedVariables false
set_option linter.unusedSimpArgs false
namespace Go.Fw.Wd
open Go.Proofs Code_

theorem xor_u16 {n : Int} (h0 : 0 ≤ n) (h1 : n ≤ 65535) : bitsI .xor .u16 65535 n = 65535 - n := by
  show IntKind.u16.wrap ((BitVec.ofInt 16 65535 ^^^ BitVec.ofInt 16 n).toNat : Int) = _
  have e : BitVec.ofInt 16 65535 ^^^ BitVec.ofInt 16 n = ~~~ BitVec.ofInt 16 n := BitVec.allOnes_xor
  have e2 : (BitVec.ofInt 16 n).toNat = n.toNat := by rw [BitVec.toNat_ofInt]; omega
  rw [e, BitVec.toNat_not, e2, wu16 (by omega) (by omega)]
  omega
theorem max_u16 : (if IntKind.u16.signed = true then -1 else IntKind.u16.max) = 65535 := rfl

theorem s95 (a b : Nat) (ha : a < 65536) (hb : b < 65536) : pcall E 95 [.int .u16 a, .int .u16 b] = some (.int .u16 (foldN (a + b) : Nat), []) := by
  rw [pcall_go (fn := I95) rfl rfl rfl]
  have hk : E.keep 95 = false := rfl
  by_cases h : (65535 : Int) < (a : Int) + b
  · have e : ((foldN (a + b) : Nat) : Int) = (a : Int) + b - 65535 := by unfold foldN; rw [if_neg (by omega)]; omega
    simp (disch := first | omega | (simp only [List.length_cons, List.length_nil, List.length_append, List.length_map, List.length_set]; omega) | rfl | (simp only [List.length_cons, List.length_nil, List.length_append, List.length_map, List.length_set, List.length_replicate, List.all_cons, List.all_nil, List.all_append, storable, plainB, Bool.and_self]; done)) only [go_sem, reduceCtorEq, ↓reduceIte, reduceDIte, evI_callP, callPK_some, I95, hk, h, e]
  · have e : ((foldN (a + b) : Nat) : Int) = (a : Int) + b := by rw [foldN_small (by omega)]; omega
    simp (disch := first | omega | (simp only [List.length_cons, List.length_nil, List.length_append, List.length_map, List.length_set]; omega) | rfl | (simp only [List.length_cons, List.length_nil, List.length_append, List.length_map, List.length_set, List.length_replicate, List.all_cons, List.all_nil, List.all_append, storable, plainB, Bool.and_self]; done)) only [go_sem, reduceCtorEq, ↓reduceIte, reduceDIte, evI_callP, callPK_some, I95, hk, h, e]
theorem s113 (a b c : Nat) (ha : a < 65536) (hb : b < 65536) (hc : c < 65536) : pcall E 113 [.int .u16 a, .int .u16 b, .int .u16 c] = some (.int .u16 (turnN a b c : Nat), []) := by
  rw [pcall_go (fn := I113) rfl rfl rfl]
  have hk : E.keep 113 = false := rfl
  have h := s103 ((65535 - a) + (65535 - b) + c) (by omega)
  have e1 : (((65535 - a) + (65535 - b) + c : Nat) : Int) = (65535 - (a : Int)) + (65535 - (b : Int)) + c := by omega
  rw [e1] at h
  have x1 := xor_u16 (n := a) (by omega) (by omega)
  have x2 := xor_u16 (n := b) (by omega) (by omega)
  have hf := foldN_le ((65535 - a) + (65535 - b) + c)
  unfold turnN
  generalize foldN ((65535 - a) + (65535 - b) + c) = f at h hf
  have x3 := xor_u16 (n := f) (by omega) (by omega)
  have e2 : ((65535 - f : Nat) : Int) = 65535 - (f : Int) := by omega
  rw [e2]
  simp (disch := first | omega | (simp only [List.length_cons, List.length_nil, List.length_append, List.length_map, List.length_set]; omega) | rfl | (simp only [List.length_cons, List.length_nil, List.length_append, List.length_map, List.length_set, List.length_replicate, List.all_cons, List.all_nil, List.all_append, storable, plainB, Bool.and_self]; done)) only [go_sem, reduceCtorEq, ↓reduceIte, reduceDIte, evI_callP, callPK_some, I113, hk, max_u16, x1, x2, x3, h]
theorem s49 (g : Bool) (ps : List Part) (h1 : ps.length ≤ 140737488355328) (h2 : (cat ps).length ≤ 140737488355328) : pcall E 49 [.rs g 1 (ps.map encP)] = some (.int .u16 (65535 - foldN (sumW (cat ps)) : Nat), []) := by
  rw [pcall_go (fn := I49) rfl rfl rfl]
  have hk : E.keep 49 = false := rfl
  have h := fun g => s77 g ps h1 h2
  have hf := foldN_le (sumW (cat ps))
  generalize foldN (sumW (cat ps)) = f at h hf
  have x3 := xor_u16 (n := f) (by omega) (by omega)
  have e2 : ((65535 - f : Nat) : Int) = 65535 - (f : Int) := by omega
  rw [e2]
  simp (disch := first | omega | (simp only [List.length_cons, List.length_nil, List.length_append, List.length_map, List.length_set]; omega) | rfl | (simp only [List.length_cons, List.length_nil, List.length_append, List.length_map, List.length_set, List.length_replicate, List.all_cons, List.all_nil, List.all_append, storable, plainB, Bool.and_self]; done)) only [go_sem, reduceCtorEq, ↓reduceIte, reduceDIte, evI_callP, callPK_some, I49, hk, h, max_u16, x3]
theorem s55 (g : Bool) (ps : List Part) (h1 : ps.length ≤ 140737488355328) (h2 : (cat ps).length ≤ 140737488355328) : pcall E 55 [.rs g 1 (ps.map encP)] = some (.bool (decide (foldN (sumW (cat ps)) = 65535)), []) := by
  rw [pcall_go (fn := I55) rfl rfl rfl]
  have hk : E.keep 55 = false := rfl
  have h := fun g => s77 g ps h1 h2
  have e : decide (((foldN (sumW (cat ps)) : Nat) : Int) = 65535) = decide (foldN (sumW (cat ps)) = 65535) := decide_eq_decide.2 (by omega)
  simp (disch := first | omega | (simp only [List.length_cons, List.length_nil, List.length_append, List.length_map, List.length_set]; omega) | rfl | (simp only [List.length_cons, List.length_nil, List.length_append, List.length_map, List.length_set, List.length_replicate, List.all_cons, List.all_nil, List.all_append, storable, plainB, Bool.and_self]; done)) only [go_sem, reduceCtorEq, ↓reduceIte, reduceDIte, evI_callP, callPK_some, I55, hk, h, e]
end Go.Fw.Wd
set_option linter.unusedVariables false
set_option linter.unusedSimpArgs false
namespace Go.Fw.Wd
open Go.Proofs Code_

theorem s67 (g : Bool) (l : List UInt8) (hl : l.length ≤ 140737488355328) : pcall E 67 [bs g l] = some (.int .u16 (foldN (sumW l) : Nat), []) := by
  rw [pcall_go (fn := I67) rfl rfl rfl]
  have hk : E.keep 67 = false := rfl
  have hrun := loop_from (E := E) L67_0_eq ((l.length + 1) / 2) (fun i => ⟨[(0, bs g l), (3, .int .u16 (foldN (accN l (List.range i)) : Nat)), (4, .int .i64 ((2 * i : Nat) : Int))], []⟩) rfl (fun i hi => by
    have g1 : (2 : Int) * i < l.length := by omega
    have h1 := (nth l (2 * i)).toNat_lt
    have h2 := (nth l (2 * i + 1)).toNat_lt
    have hA := s95 (foldN (accN l (List.range i))) (pw l i) (foldN_lt _) (pw_lt _ _)
    rw [foldN_add, ← accN_pw] at hA
    have e0 : (2 * (i : Int)).toNat = 2 * i := by omega
    have e1 : (2 * (i : Int) + 1).toNat = 2 * i + 1 := by omega
    have e2 : (2 : Int) * (i : Int) + 2 = 2 * (i + 1) := by omega
    have m1 : ((nth l (2 * i)).toNat : Int) * 256 < 65536 := by omega
    by_cases h : (2 : Int) * i + 1 < l.length
    · rw [pw_two l i (by omega)] at hA
      simp only [Int.natCast_add, Int.natCast_mul, Int.cast_ofNat_Int] at hA
      simp (disch := first | omega | (simp only [List.length_cons, List.length_nil, List.length_append, List.length_map, List.length_set]; omega) | rfl | (simp only [List.length_cons, List.length_nil, List.length_append, List.length_map, List.length_set, List.length_replicate, List.all_cons, List.all_nil, List.all_append, storable, plainB, Bool.and_self]; done)) only [go_sem, reduceCtorEq, ↓reduceIte, reduceDIte, evI_callP, callPK_some, iaddr_by8, B67_0, g1, h, wbi, e0, e1, e2, hA]
    · rw [pw_one l i (by omega)] at hA
      simp only [Int.natCast_mul, Int.cast_ofNat_Int] at hA
      simp (disch := first | omega | (simp only [List.length_cons, List.length_nil, List.length_append, List.length_map, List.length_set]; omega) | rfl | (simp only [List.length_cons, List.length_nil, List.length_append, List.length_map, List.length_set, List.length_replicate, List.all_cons, List.all_nil, List.all_append, storable, plainB, Bool.and_self]; done)) only [go_sem, reduceCtorEq, ↓reduceIte, reduceDIte, evI_callP, callPK_some, iaddr_by8, B67_0, g1, h, wbi, e0, e1, e2, hA])
  rw [accN_all] at hrun
  have e0 : ((foldN (accN l (List.range 0)) : Nat) : Int) = 0 := rfl
  have ek : ¬ (2 : Int) * (((l.length + 1) / 2 : Nat) : Int) < l.length := by omega
  simp only [e0] at hrun
  simp only [go_sem, reduceCtorEq, ↓reduceIte, reduceDIte, evI_callP, callPK_some] at hrun
  generalize (l.length + 1) / 2 = n at hrun ek
  simp (disch := first | omega | (simp only [List.length_cons, List.length_nil, List.length_append, List.length_map, List.length_set]; omega) | rfl | (simp only [List.length_cons, List.length_nil, List.length_append, List.length_map, List.length_set, List.length_replicate, List.all_cons, List.all_nil, List.all_append, storable, plainB, Bool.and_self]; done)) only [go_sem, reduceCtorEq, ↓reduceIte, reduceDIte, evI_callP, callPK_some, I67, hk, hrun, B67_0, ek]
def zeroB (l : List UInt8) : Bool := l.all (· = 0)
theorem zeroB_sum {l : List UInt8} (h : zeroB l = false) : 0 < sumW l := by
  rcases Nat.eq_zero_or_pos (sumW l) with h0 | h0
  · have := sumW_zero l h0
    have h1 : zeroB l = true := List.all_eq_true.2 fun b hb => by simp [this b hb]
    rw [h] at h1
    cases h1
  · exact h0
theorem zero_neq (b : UInt8) : ((b.toNat : Int) = 0) ↔ b = 0 := by rw [← UInt8.toNat_inj]; exact ⟨fun h => by simpa using h, fun h => by simpa using h⟩
/-- Is there more of parts than may be? -/
def longB (ps : List Part) (n : Int) : Bool := decide (n < ps.length) || decide (n < (cat ps).length)
end Go.Fw.Wd
