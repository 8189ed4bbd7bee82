/-
  Packets: what Parse and Peek answer, by the program. Conditions: stated at each.
-/
import Derived.Test.YtigiopahmiaedaaGreatDoorWdNum2
set_option linter.unusedVariables false
set_option linter.unusedSimpArgs false
namespace Go.Fw.Wd
open Go.Proofs Code_

/-- A packet. -/
structure Pk where
  tos : UInt8
  id : UInt16
  kp : Bool
  ttl : UInt8
  proto : UInt8
  fr : UInt32
  to : UInt32
  body : List UInt8
  deriving DecidableEq
def Pk.zero : Pk := ⟨0, 0, false, 0, 0, 0, 0, []⟩
def pkC (p : Pk) : List AV := [.int .u8 (p.tos.toNat : Int), .int .u16 (p.id.toNat : Int), .bool p.kp, .int .u8 (p.ttl.toNat : Int), .int .u8 (p.proto.toNat : Int), .int .u32 (p.fr.toNat : Int), .int .u32 (p.to.toNat : Int), bs false p.body]
theorem pkC_eq (p : Pk) : pkC p = [.int .u8 (p.tos.toNat : Int), .int .u16 (p.id.toNat : Int), .bool p.kp, .int .u8 (p.ttl.toNat : Int), .int .u8 (p.proto.toNat : Int), .int .u32 (p.fr.toNat : Int), .int .u32 (p.to.toNat : Int), bs false p.body] := rfl
theorem pkC_zero : pkC Pk.zero = [.int .u8 0, .int .u16 0, .bool false, .int .u8 0, .int .u8 0, .int .u32 0, .int .u32 0, .rs false 1 []] := rfl

/-- Four bytes at a place, as a number. -/
def n4 (b : List UInt8) (i : Nat) : Nat := num ((b.drop i).take 4)
theorem n4_lt (b : List UInt8) (i : Nat) : n4 b i < 4294967296 := num_lt_of (n := 4) (by rw [List.length_take]; omega)
theorem n4_drop (b : List UInt8) (k i : Nat) : n4 (b.drop k) i = n4 b (k + i) := by unfold n4; rw [List.drop_drop]
theorem n4_left (a b : List UInt8) (i : Nat) (h : i + 4 ≤ a.length) : n4 (a ++ b) i = n4 a i := by
  unfold n4
  rw [List.drop_append_of_le_length (by omega), List.take_append_of_le_length (by rw [List.length_drop]; omega)]
theorem n4_right (a b : List UInt8) (i : Nat) (h : a.length ≤ i) : n4 (a ++ b) i = n4 b (i - a.length) := by
  unfold n4
  rw [List.drop_append, List.drop_eq_nil_of_le h, List.nil_append]
theorem n4_enc (s : Nat) (h : s < 4294967296) (l : List UInt8) : n4 (encb 4 s ++ l) 0 = s := by
  rw [n4_left _ _ _ (by rw [encb_length]; omega)]
  unfold n4
  rw [List.drop_zero, List.take_of_length_le (by rw [encb_length]; omega)]
  exact num_encb_of h
theorem n4_nth (b : List UInt8) (i : Nat) (h : i + 4 ≤ b.length) : n4 b i = (nth b i).toNat * 16777216 + (nth b (i + 1)).toNat * 65536 + (nth b (i + 2)).toNat * 256 + (nth b (i + 3)).toNat := by
  unfold n4
  rw [drop_nth b i (by omega), drop_nth b (i + 1) (by omega), drop_nth b (i + 1 + 1) (by omega), drop_nth b (i + 1 + 1 + 1) (by omega)]
  simp only [List.take_succ_cons, List.take_zero, num, List.foldl_cons, List.foldl_nil]
  rw [show i + 3 = i + 1 + 1 + 1 from rfl, show i + 2 = i + 1 + 1 from rfl]
  omega
theorem at4 (g : Bool) (b : List UInt8) (hb : b.length ≤ 140737488355328) (i : Nat) (h : i + 4 ≤ b.length) : pcall E 64 [bs g b, .int .i64 (i : Int), .int .i64 4] = some (.tup [.int .u64 ((n4 b i : Nat) : Int), .int .i64 0], []) := by
  have e0 : spanE b.length i 4 = 0 := by simp only [spanE]; rw [if_neg (by omega), if_neg (by omega), if_neg (by omega)]
  have q := s64 g b hb i 4 (by constructor <;> omega)
  have t0 : atN b i 4 = n4 b i := by unfold atN; rw [if_pos ⟨by omega, e0⟩]; rfl
  have u0 : atE b i 4 = 0 := by unfold atE; rw [if_pos (by omega), e0]
  rw [t0, u0] at q
  exact q
theorem s114 (g : Bool) (b : List UInt8) (hb : b.length ≤ 140737488355328) (i : Nat) (h : i + 2 ≤ b.length) : pcall E 114 [bs g b, .int .i64 (i : Int)] = some (.int .i64 ((n2 b i : Nat) : Int), []) := by
  rw [pcall_go (fn := I114) rfl rfl rfl]
  have hk : E.keep 114 = false := rfl
  have q := fun g => at2 g b hb i h
  have hl := n2_lt b i
  generalize n2 b i = n at *
  have w1 : IntKind.i64.wrap (n : Int) = (n : Int) := w64 (by omega) (by omega)
  simp (disch := first | omega | (simp only [List.length_cons, List.length_nil, List.length_append, List.length_map, List.length_set]; omega) | rfl | (simp only [List.length_cons, List.length_nil, List.length_append, List.length_map, List.length_set, List.length_replicate, List.all_cons, List.all_nil, List.all_append, storable, plainB, Bool.and_self]; done)) only [go_sem, reduceCtorEq, ↓reduceIte, reduceDIte, evI_callP, callPK_some, I114, hk, q, w1]
theorem s115 (g : Bool) (b : List UInt8) (hb : b.length ≤ 140737488355328) (i : Nat) (h : i + 4 ≤ b.length) : pcall E 115 [bs g b, .int .i64 (i : Int)] = some (.int .u32 ((n4 b i : Nat) : Int), []) := by
  rw [pcall_go (fn := I115) rfl rfl rfl]
  have hk : E.keep 115 = false := rfl
  have q := fun g => at4 g b hb i h
  have hl := n4_lt b i
  generalize n4 b i = n at *
  have w1 : IntKind.u32.wrap (n : Int) = (n : Int) := wu32 (by omega) (by omega)
  simp (disch := first | omega | (simp only [List.length_cons, List.length_nil, List.length_append, List.length_map, List.length_set]; omega) | rfl | (simp only [List.length_cons, List.length_nil, List.length_append, List.length_map, List.length_set, List.length_replicate, List.all_cons, List.all_nil, List.all_append, storable, plainB, Bool.and_self]; done)) only [go_sem, reduceCtorEq, ↓reduceIte, reduceDIte, evI_callP, callPK_some, I115, hk, q, w1]

/-- A head's length and the whole's, as they are told. -/
def hdL (b : List UInt8) : Nat := (nth b 0).toNat % 16 * 4
theorem hdL_le (b : List UInt8) : hdL b ≤ 60 := by unfold hdL; omega
/-- How many bytes must be there. -/
def need (w : Bool) (b : List UInt8) : Nat := if w = true then max (hdL b) (n2 b 2) else hdL b
/-- The first fault of a packet's shape: a reason and an error. -/
def shpE (w : Bool) (b : List UInt8) : Int × Int :=
  if b.length < 20 then (1, 12)
  else if ¬ (nth b 0).toNat / 16 = 4 then (3, 15)
  else if hdL b < 20 then (1, 10)
  else if b.length < need w b then (1, 12)
  else if n2 b 2 < hdL b then (1, 10) else (0, 0)
def shpC (b : List UInt8) : List AV := if b.length < 20 then [.int .i64 0, .int .i64 0] else [.int .i64 (hdL b : Nat), .int .i64 (n2 b 2 : Nat)]
theorem and_15 (n : UInt8) : bitsI .and .u8 (n.toNat : Int) 15 = ((n.toNat % 16 : Nat) : Int) := by
  have h := and_u8 n 15
  have e : (n &&& 15).toNat = n.toNat % 16 := by
    rw [UInt8.toNat_and]
    exact Nat.and_two_pow_sub_one_eq_mod n.toNat 4
  rw [e] at h
  exact h
theorem s109 (h w : Nat) : pcall E 109 [.agg [.int .i64 (h : Int), .int .i64 (w : Int)]] = some (.int .i64 (h : Int), []) := by
  rw [pcall_go (fn := I109) rfl rfl rfl]
  have hk : E.keep 109 = false := rfl
  simp (disch := first | omega | (simp only [List.length_cons, List.length_nil, List.length_append, List.length_map, List.length_set]; omega) | rfl | (simp only [List.length_cons, List.length_nil, List.length_append, List.length_map, List.length_set, List.length_replicate, List.all_cons, List.all_nil, List.all_append, storable, plainB, Bool.and_self]; done)) only [go_sem, reduceCtorEq, ↓reduceIte, reduceDIte, evI_callP, callPK_some, I109, hk]
theorem s108 (g : Bool) (b : List UInt8) (hb : b.length ≤ 1048576) (f : FuncId) (w : Bool) (hf : pcall E f [.agg [.int .i64 ((hdL b : Nat) : Int), .int .i64 ((n2 b 2 : Nat) : Int)]] = some (.int .i64 ((need w b : Nat) : Int), [])) : pcall E 108 [bs g b, .fn f []] = some (.tup [.agg (shpC b), errV (shpE w b).1 (shpE w b).2], []) := by
  rw [pcall_go (fn := I108) rfl rfl rfl]
  have hk : E.keep 108 = false := rfl
  have f12 := s47 1 12 (by omega) (by omega)
  have f10 := s47 1 10 (by omega) (by omega)
  have f15 := s47 3 15 (by omega) (by omega)
  unfold errV faultV at f12 f10 f15
  simp only [Int.reduceEq, if_false] at f12 f10 f15
  unfold shpE shpC
  by_cases h1 : b.length < 20
  · have h1' : (b.length : Int) < 20 := by omega
    simp only [h1, if_true, errV, faultV, Int.reduceEq, if_false]
    simp (disch := first | omega | (simp only [List.length_cons, List.length_nil, List.length_append, List.length_map, List.length_set]; omega) | rfl | (simp only [List.length_cons, List.length_nil, List.length_append, List.length_map, List.length_set, List.length_replicate, List.all_cons, List.all_nil, List.all_append, storable, plainB, Bool.and_self]; done)) only [go_sem, reduceCtorEq, ↓reduceIte, reduceDIte, evI_callP, callPK_some, I108, hk, h1', f12]
  have h1' : ¬ (b.length : Int) < 20 := by omega
  have q2 := fun g => s114 g b (by omega) 2 (by omega)
  have hl2 := n2_lt b 2
  have hs := shr4 (nth b 0)
  have ha := and_15 (nth b 0)
  have hlt := (nth b 0).toNat_lt
  have b0 : (0 : Int) < b.length := by omega
  have hd60 := hdL_le b
  have eh : ((hdL b : Nat) : Int) = (((nth b 0).toNat % 16 : Nat) : Int) * 4 := by unfold hdL; omega
  have w1 : IntKind.i64.wrap ((((nth b 0).toNat % 16 : Nat) : Int)) = (((nth b 0).toNat % 16 : Nat) : Int) := w64 (by omega) (by omega)
  have w2 : IntKind.i64.wrap ((((nth b 0).toNat % 16 : Nat) : Int) * 4) = ((hdL b : Nat) : Int) := by rw [eh]; exact w64 (by omega) (by omega)
  simp only [h1, if_false]
  simp only [Int.cast_ofNat_Int] at q2
  generalize hnd : need w b = nd at *
  generalize n2 b 2 = k at *
  generalize hdL b = hd at *
  generalize (nth b 0).toNat % 16 = m at *
  generalize (nth b 0).toNat / 16 = v at *
  by_cases h2 : v = 4
  case neg =>
    have h2' : ¬ (v : Int) = 4 := by omega
    simp only [h2, not_false_eq_true, if_true, errV, faultV, Int.reduceEq, if_false]
    simp (disch := first | omega | (simp only [List.length_cons, List.length_nil, List.length_append, List.length_map, List.length_set]; omega) | rfl | (simp only [List.length_cons, List.length_nil, List.length_append, List.length_map, List.length_set, List.length_replicate, List.all_cons, List.all_nil, List.all_append, storable, plainB, Bool.and_self]; done)) only [go_sem, reduceCtorEq, ↓reduceIte, reduceDIte, evI_callP, callPK_some, I108, hk, h1', h2', b0, hs, ha, w1, w2, q2, f15]
  subst h2
  by_cases h3 : hd < 20
  · have h3' : (hd : Int) < 20 := by omega
    simp only [h3, not_true, if_true, errV, faultV, Int.reduceEq, if_false]
    simp (disch := first | omega | (simp only [List.length_cons, List.length_nil, List.length_append, List.length_map, List.length_set]; omega) | rfl | (simp only [List.length_cons, List.length_nil, List.length_append, List.length_map, List.length_set, List.length_replicate, List.all_cons, List.all_nil, List.all_append, storable, plainB, Bool.and_self]; done)) only [go_sem, reduceCtorEq, ↓reduceIte, reduceDIte, evI_callP, callPK_some, I108, hk, h1', h3', b0, hs, ha, w1, w2, q2, f10]
  have h3' : ¬ (hd : Int) < 20 := by omega
  by_cases h4 : b.length < nd
  · have h4' : (b.length : Int) < (nd : Int) := by omega
    simp only [h3, h4, not_true, if_true, errV, faultV, Int.reduceEq, if_false]
    simp (disch := first | omega | (simp only [List.length_cons, List.length_nil, List.length_append, List.length_map, List.length_set]; omega) | rfl | (simp only [List.length_cons, List.length_nil, List.length_append, List.length_map, List.length_set, List.length_replicate, List.all_cons, List.all_nil, List.all_append, storable, plainB, Bool.and_self]; done)) only [go_sem, reduceCtorEq, ↓reduceIte, reduceDIte, evI_callP, callPK_some, I108, hk, h1', h3', h4', b0, hs, ha, w1, w2, q2, f12, hf, evI_callVK, callVK_fn]
  have h4' : ¬ (b.length : Int) < (nd : Int) := by omega
  by_cases h5 : k < hd
  · have h5' : (k : Int) < (hd : Int) := by omega
    simp only [h3, h4, h5, not_true, if_true, errV, faultV, Int.reduceEq, if_false]
    simp (disch := first | omega | (simp only [List.length_cons, List.length_nil, List.length_append, List.length_map, List.length_set]; omega) | rfl | (simp only [List.length_cons, List.length_nil, List.length_append, List.length_map, List.length_set, List.length_replicate, List.all_cons, List.all_nil, List.all_append, storable, plainB, Bool.and_self]; done)) only [go_sem, reduceCtorEq, ↓reduceIte, reduceDIte, evI_callP, callPK_some, I108, hk, h1', h3', h4', h5', b0, hs, ha, w1, w2, q2, f10, hf, evI_callVK, callVK_fn]
  have h5' : ¬ (k : Int) < (hd : Int) := by omega
  simp only [h3, h4, h5, not_true, if_true, errV, faultV, Int.reduceEq, if_false]
  simp (disch := first | omega | (simp only [List.length_cons, List.length_nil, List.length_append, List.length_map, List.length_set]; omega) | rfl | (simp only [List.length_cons, List.length_nil, List.length_append, List.length_map, List.length_set, List.length_replicate, List.all_cons, List.all_nil, List.all_append, storable, plainB, Bool.and_self]; done)) only [go_sem, reduceCtorEq, ↓reduceIte, reduceDIte, evI_callP, callPK_some, I108, hk, h1', h3', h4', h5', b0, hs, ha, w1, w2, q2, hf, evI_callVK, callVK_fn]

/-- A fragment's flags. -/
def fragB (b : List UInt8) : Bool := !(decide (n2 b 6 = 0) || decide (n2 b 6 = 16384))
def redE (b : List UInt8) : Int × Int := if 20 < hdL b then (4, 21) else if fragB b = true then (5, 20) else (0, 0)
def redP (b : List UInt8) : Pk := ⟨nth b 1, UInt16.ofNat (n2 b 4), decide (¬ n2 b 6 = 0), nth b 8, nth b 9, UInt32.ofNat (n4 b 12), UInt32.ofNat (n4 b 16), (b.take (min (n2 b 2) b.length)).drop 20⟩
theorem bv_andNot (x m : BitVec 64) : x &&& ~~~m = 0#64 ↔ x &&& m = x := by
  constructor
  · intro h
    ext i hi
    have t := congrArg (fun v => v[i]) h
    simp only [BitVec.getElem_and, BitVec.getElem_not, BitVec.getElem_zero] at t ⊢
    revert t
    cases x[i] <;> cases m[i] <;> simp
  · intro h
    ext i hi
    have t := congrArg (fun v => v[i]) h
    simp only [BitVec.getElem_and, BitVec.getElem_not, BitVec.getElem_zero] at t ⊢
    revert t
    cases x[i] <;> cases m[i] <;> simp
theorem and_k (n : Nat) : n &&& 16384 = n ↔ n = 0 ∨ n = 16384 := by
  have hb : ∀ i, Nat.testBit 16384 i = decide (14 = i) := fun i => Nat.testBit_two_pow (n := 14)
  constructor
  · intro h
    have hi : ∀ i, (n.testBit i && decide (14 = i)) = n.testBit i := fun i => by
      have := congrArg (fun v => v.testBit i) h
      simp only [Nat.testBit_and, hb] at this
      exact this
    cases t : n.testBit 14
    · left
      apply Nat.eq_of_testBit_eq
      intro i
      rw [← hi i, Nat.zero_testBit]
      by_cases e : 14 = i
      · subst e; rw [t]; rfl
      · simp [e]
    · right
      apply Nat.eq_of_testBit_eq
      intro i
      rw [← hi i, hb]
      by_cases e : 14 = i
      · subst e; rw [t]; rfl
      · simp [e]
  · rintro (h | h)
    · subst h; rfl
    · subst h; rfl
theorem andNot_k (n : Nat) (hn : n < 65536) : decide (bitsI .andNot .i64 (n : Int) 16384 = 0) = (decide (n = 0) || decide (n = 16384)) := by
  have e1 : bitsI .andNot .i64 (n : Int) 16384 = (((BitVec.ofNat 64 n) &&& ~~~(BitVec.ofNat 64 16384)).toNat : Int) := by
    have h1 : BitVec.ofInt 64 (n : Int) = BitVec.ofNat 64 n := by rw [BitVec.ofInt_natCast]
    have h2 : BitVec.ofInt 64 16384 = BitVec.ofNat 64 16384 := rfl
    show IntKind.i64.wrap _ = _
    rw [show (IntKind.i64.bits) = 64 from rfl, h1, h2]
    have hle : ((BitVec.ofNat 64 n) &&& ~~~(BitVec.ofNat 64 16384)).toNat ≤ n := by
      rw [BitVec.toNat_and, BitVec.toNat_ofNat, Nat.mod_eq_of_lt (by omega)]
      exact Nat.and_le_left
    generalize ((BitVec.ofNat 64 n) &&& ~~~(BitVec.ofNat 64 16384)).toNat = z at *
    exact w64 (by omega) (by omega)
  rw [e1]
  have e2 : (((BitVec.ofNat 64 n) &&& ~~~(BitVec.ofNat 64 16384)).toNat : Int) = 0 ↔ (BitVec.ofNat 64 n) &&& (BitVec.ofNat 64 16384) = BitVec.ofNat 64 n := by
    rw [← bv_andNot, ← BitVec.toNat_inj]
    generalize ((BitVec.ofNat 64 n) &&& ~~~(BitVec.ofNat 64 16384)).toNat = z
    show (z : Int) = 0 ↔ z = 0
    omega
  have e3 : (BitVec.ofNat 64 n) &&& (BitVec.ofNat 64 16384) = BitVec.ofNat 64 n ↔ n &&& 16384 = n := by
    rw [← BitVec.toNat_inj, BitVec.toNat_and, BitVec.toNat_ofNat, BitVec.toNat_ofNat, Nat.mod_eq_of_lt (by omega), Nat.mod_eq_of_lt (by omega)]
  have e4 := and_k n
  rw [show (decide (n = 0) || decide (n = 16384)) = decide (n = 0 ∨ n = 16384) by simp]
  exact decide_eq_decide.2 (e2.trans (e3.trans e4))
theorem s110 (g : Bool) (b : List UInt8) (hb : b.length ≤ 1048576) (h20 : 20 ≤ b.length) (h2 : 20 ≤ hdL b) (h3 : hdL b ≤ n2 b 2) : pcall E 110 [bs g b, .agg [.int .i64 ((hdL b : Nat) : Int), .int .i64 ((n2 b 2 : Nat) : Int)]] = some (.tup [.agg (pkC (if (redE b).2 = 0 then redP b else Pk.zero)), errV (redE b).1 (redE b).2], []) := by
  rw [pcall_go (fn := I110) rfl rfl rfl]
  have hk : E.keep 110 = false := rfl
  have f21 := s47 4 21 (by omega) (by omega)
  have f20 := s47 5 20 (by omega) (by omega)
  unfold errV faultV at f21 f20
  simp only [Int.reduceEq, if_false] at f21 f20
  have q6 := fun g => s114 g b (by omega) 6 (by omega)
  have q4 := fun g => s114 g b (by omega) 4 (by omega)
  have q12 := fun g => s115 g b (by omega) 12 (by omega)
  have q16 := fun g => s115 g b (by omega) 16 (by omega)
  simp only [Int.cast_ofNat_Int] at q6 q4 q12 q16
  have l6 := n2_lt b 6
  have l2 := n2_lt b 2
  have l4 := n2_lt b 4
  have l12 := n4_lt b 12
  have l16 := n4_lt b 16
  have hn := andNot_k (n2 b 6) l6
  unfold redE
  by_cases c1 : 20 < hdL b
  · have c1' : (20 : Int) < ((hdL b : Nat) : Int) := by omega
    simp only [c1, if_true, errV, faultV, Int.reduceEq, if_false, pkC_zero]
    simp (disch := first | omega | (simp only [List.length_cons, List.length_nil, List.length_append, List.length_map, List.length_set]; omega) | rfl | (simp only [List.length_cons, List.length_nil, List.length_append, List.length_map, List.length_set, List.length_replicate, List.all_cons, List.all_nil, List.all_append, storable, plainB, Bool.and_self]; done)) only [go_sem, reduceCtorEq, ↓reduceIte, reduceDIte, evI_callP, callPK_some, I110, hk, c1', q6, f21]
  have c1' : ¬ (20 : Int) < ((hdL b : Nat) : Int) := by omega
  have hh : hdL b = 20 := by omega
  simp only [c1, if_false]
  by_cases c2 : fragB b = true
  · have c2' : ¬ bitsI .andNot .i64 ((n2 b 6 : Nat) : Int) 16384 = 0 := by
      have : decide (bitsI .andNot .i64 ((n2 b 6 : Nat) : Int) 16384 = 0) = false := by rw [hn]; unfold fragB at c2; simpa using c2
      exact of_decide_eq_false this
    simp only [c2, if_true, errV, faultV, Int.reduceEq, if_false, pkC_zero]
    simp (disch := first | omega | (simp only [List.length_cons, List.length_nil, List.length_append, List.length_map, List.length_set]; omega) | rfl | (simp only [List.length_cons, List.length_nil, List.length_append, List.length_map, List.length_set, List.length_replicate, List.all_cons, List.all_nil, List.all_append, storable, plainB, Bool.and_self]; done)) only [go_sem, reduceCtorEq, ↓reduceIte, reduceDIte, evI_callP, callPK_some, I110, hk, c1', c2', q6, f20]
  have c2' : bitsI .andNot .i64 ((n2 b 6 : Nat) : Int) 16384 = 0 := by
    have : decide (bitsI .andNot .i64 ((n2 b 6 : Nat) : Int) 16384 = 0) = true := by
      rw [hn]
      unfold fragB at c2
      revert c2
      cases decide (n2 b 6 = 0) <;> cases decide (n2 b 6 = 16384) <;> simp
    exact of_decide_eq_true this
  simp only [c2, if_true, errV, faultV, Int.reduceEq, if_false]
  have e4 : ((n2 b 4 : Nat) : Int) = ((UInt16.ofNat (n2 b 4)).toNat : Int) := by rw [UInt16.toNat_ofNat_of_lt' (by show _ < 65536; exact l4)]
  have e12 : ((n4 b 12 : Nat) : Int) = ((UInt32.ofNat (n4 b 12)).toNat : Int) := by rw [UInt32.toNat_ofNat_of_lt' (by show _ < 4294967296; exact l12)]
  have e16 : ((n4 b 16 : Nat) : Int) = ((UInt32.ofNat (n4 b 16)).toNat : Int) := by rw [UInt32.toNat_ofNat_of_lt' (by show _ < 4294967296; exact l16)]
  have w4 : IntKind.u16.wrap ((n2 b 4 : Nat) : Int) = ((UInt16.ofNat (n2 b 4)).toNat : Int) := by rw [← e4]; exact wu16 (by omega) (by omega)
  rw [e12] at q12
  rw [e16] at q16
  have b1 : (1 : Int) < b.length := by omega
  have b8 : (8 : Int) < b.length := by omega
  have b9 : (9 : Int) < b.length := by omega
  obtain ⟨d, hd⟩ : ∃ d, d = (b.take (min (n2 b 2) b.length)).drop 20 := ⟨_, rfl⟩
  have em : min ((n2 b 2 : Nat) : Int) ((b.length : Nat) : Int) = ((min (n2 b 2) b.length : Nat) : Int) := by omega
  have hm1 : min (n2 b 2) b.length ≤ b.length := Nat.min_le_right _ _
  have hm2 : 20 ≤ min (n2 b 2) b.length := by omega
  have hsl : ∀ h g, sliceK h 1 (.rs g 1 (b.map by8)) (some b.length) (some (.int .i64 20)) (some (.int .i64 ((min (n2 b 2) b.length : Nat) : Int))) = some (.rs g 1 (d.map by8), h) := fun h g => by
    have := slice_by_ii h g b .i64 .i64 20 ((min (n2 b 2) b.length : Nat) : Int) (by omega) (by omega) (by omega)
    rw [Int.toNat_natCast, show Int.toNat 20 = 20 from rfl] at this
    rw [this, hd, List.drop_take]
  have dl : d.length ≤ 1048576 := by rw [hd, List.length_drop, List.length_take]; omega
  have qc := fun g => s43 g d (by omega)
  unfold redP
  rw [← hd]
  simp only [pkC_eq]
  generalize min (n2 b 2) b.length = mn at *
  have hkp : (!decide (((n2 b 6 : Nat) : Int) = 0)) = decide (¬ n2 b 6 = 0) := by
    by_cases h : n2 b 6 = 0
    · simp [h]
    · simp [h]
  rw [hh] at *
  simp only [Int.cast_ofNat_Int] at *
  clear hd hn
  generalize n2 b 6 = k6 at *
  generalize n2 b 4 = k4 at *
  by_cases h0 : k6 = 0
  · have h0' : (k6 : Int) = 0 := by omega
    have c3 : bitsI .andNot .i64 0 16384 = 0 := by rw [h0'] at c2'; exact c2'
    simp only [h0, not_true, decide_false] at hkp ⊢
    simp (disch := first | omega | (simp only [List.length_cons, List.length_nil, List.length_append, List.length_map, List.length_set]; omega) | rfl | (simp only [List.length_cons, List.length_nil, List.length_append, List.length_map, List.length_set, List.length_replicate, List.all_cons, List.all_nil, List.all_append, storable, plainB, Bool.and_self]; done)) only [go_sem, reduceCtorEq, ↓reduceIte, reduceDIte, evI_callP, callPK_some, I110, hk, c3, q6, q4, q12, q16, w4, b1, b8, b9, em, hsl, qc, h0', evI_mm, mmV_2, mm2_min]
  · have h0' : ¬ (k6 : Int) = 0 := by omega
    simp only [h0, not_false_eq_true, decide_true] at hkp ⊢
    simp (disch := first | omega | (simp only [List.length_cons, List.length_nil, List.length_append, List.length_map, List.length_set]; omega) | rfl | (simp only [List.length_cons, List.length_nil, List.length_append, List.length_map, List.length_set, List.length_replicate, List.all_cons, List.all_nil, List.all_append, storable, plainB, Bool.and_self]; done)) only [go_sem, reduceCtorEq, ↓reduceIte, reduceDIte, evI_callP, callPK_some, I110, hk, c2', q6, q4, q12, q16, w4, b1, b8, b9, em, hsl, qc, h0', evI_mm, mmV_2, mm2_min]
end Go.Fw.Wd
