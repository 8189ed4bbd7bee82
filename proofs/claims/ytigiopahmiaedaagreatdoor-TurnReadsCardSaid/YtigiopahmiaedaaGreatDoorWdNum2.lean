/-
  Two bytes at a place as a number; rows of four numbers; a number laid at a place. Conditions: stated at each.
-/
import Derived.Test.YtigiopahmiaedaaGreatDoorWdTmk
import Derived.Test.YtigiopahmiaedaaGreatDoorWdArgs
set_option linter.unusedVariables false
set_option linter.unusedSimpArgs false
namespace Go.Fw.Wd
open Go.Proofs Code_

/-- Two bytes at a place, as a number. -/
def n2 (b : List UInt8) (i : Nat) : Nat := num ((b.drop i).take 2)
theorem n2_lt (b : List UInt8) (i : Nat) : n2 b i < 65536 := num_lt_of (n := 2) (by rw [List.length_take]; omega)
theorem n2_drop (b : List UInt8) (k i : Nat) : n2 (b.drop k) i = n2 b (k + i) := by unfold n2; rw [List.drop_drop]
theorem n2_take (b : List UInt8) (n i : Nat) (h : i + 2 ≤ n) : n2 (b.take n) i = n2 b i := by
  unfold n2
  rw [List.drop_take, List.take_take, Nat.min_eq_left (by omega)]
theorem n2_left (a b : List UInt8) (i : Nat) (h : i + 2 ≤ a.length) : n2 (a ++ b) i = n2 a i := by
  unfold n2
  rw [List.drop_append_of_le_length (by omega), List.take_append_of_le_length (by rw [List.length_drop]; omega)]
theorem n2_right (a b : List UInt8) (i : Nat) (h : a.length ≤ i) : n2 (a ++ b) i = n2 b (i - a.length) := by
  unfold n2
  rw [List.drop_append, List.drop_eq_nil_of_le h, List.nil_append]
theorem n2_enc (s : Nat) (h : s < 65536) (l : List UInt8) : n2 (encb 2 s ++ l) 0 = s := by
  rw [n2_left _ _ _ (by rw [encb_length]; omega)]
  unfold n2
  rw [List.drop_zero, List.take_of_length_le (by rw [encb_length]; omega)]
  exact num_encb_of h
theorem n2_nth (b : List UInt8) (i : Nat) (h : i + 2 ≤ b.length) : n2 b i = (nth b i).toNat * 256 + (nth b (i + 1)).toNat := by
  unfold n2
  rw [drop_nth b i (by omega), drop_nth b (i + 1) (by omega)]
  simp [num]
theorem at2 (g : Bool) (b : List UInt8) (hb : b.length ≤ 140737488355328) (i : Nat) (h : i + 2 ≤ b.length) : pcall E 64 [bs g b, .int .i64 (i : Int), .int .i64 2] = some (.tup [.int .u64 ((n2 b i : Nat) : Int), .int .i64 0], []) := by
  have e0 : spanE b.length i 2 = 0 := by simp only [spanE]; rw [if_neg (by omega), if_neg (by omega), if_neg (by omega)]
  have q := s64 g b hb i 2 (by constructor <;> omega)
  have t0 : atN b i 2 = n2 b i := by unfold atN; rw [if_pos ⟨by omega, e0⟩]; rfl
  have u0 : atE b i 2 = 0 := by unfold atE; rw [if_pos (by omega), e0]
  rw [t0, u0] at q
  exact q
theorem s42 (g : Bool) (b : List UInt8) (h : 2 ≤ b.length) : pcall E 42 [bs g b] = some (.int .i64 ((n2 b 0 : Nat) : Int), []) := by
  rw [pcall_go (fn := I42) rfl rfl rfl]
  have hk : E.keep 42 = false := rfl
  have e := n2_nth b 0 (by omega)
  have h1 := (nth b 0).toNat_lt
  have h2 := (nth b 1).toNat_lt
  have b0 : (0 : Int) < b.length := by omega
  have b1 : (1 : Int) < b.length := by omega
  simp only [Nat.zero_add] at e
  have e2 : ((n2 b 0 : Nat) : Int) = ((nth b 0).toNat : Int) * 256 + ((nth b 1).toNat : Int) := by omega
  rw [e2]
  have w1 : IntKind.i64.wrap (((nth b 0).toNat : Int) * 256) = ((nth b 0).toNat : Int) * 256 := w64 (by omega) (by omega)
  have w2 : IntKind.i64.wrap (((nth b 0).toNat : Int) * 256 + ((nth b 1).toNat : Int)) = ((nth b 0).toNat : Int) * 256 + ((nth b 1).toNat : Int) := w64 (by omega) (by omega)
  simp (disch := first | omega | (simp only [List.length_cons, List.length_nil, List.length_append, List.length_map, List.length_set]; omega) | rfl | (simp only [List.length_cons, List.length_nil, List.length_append, List.length_map, List.length_set, List.length_replicate, List.all_cons, List.all_nil, List.all_append, storable, plainB, Bool.and_self]; done)) only [go_sem, reduceCtorEq, ↓reduceIte, reduceDIte, evI_callP, callPK_some, I42, hk, wbi, w1, w2, b0, b1]
theorem row4 (a b c d size : Nat) (h1 : 1 ≤ size) (h2 : size ≤ 7) (ha : a < 256 ^ size) (hb : b < 256 ^ size) (hc : c < 256 ^ size) (hd : d < 256 ^ size) :
    pcall E 48 [.int .i64 (size : Int), .rs false 1 [.int .u64 (a : Int), .int .u64 (b : Int), .int .u64 (c : Int), .int .u64 (d : Int)]] = some (.tup [.sl 1 0 0 0 (encb size a ++ encb size b ++ encb size c ++ encb size d).length, .int .i64 0], [.row 0 1 ((encb size a ++ encb size b ++ encb size c ++ encb size d).map by8) 5]) := by
  have hp : 256 ^ size ≤ 256 ^ 7 := Nat.pow_le_pow_right (by omega) h2
  have h7 : (256 : Nat) ^ 7 < 18446744073709551616 := by decide
  have e : ∀ n, n < 256 ^ size → (UInt64.ofNat n).toNat = n := fun n hn => UInt64.toNat_ofNat_of_lt' (Nat.lt_trans (Nat.lt_of_lt_of_le hn hp) h7)
  have e1 := e a ha
  have e2 := e b hb
  have e3 := e c hc
  have e4 := e d hd
  have q := s48 false [UInt64.ofNat a, UInt64.ofNat b, UInt64.ofNat c, UInt64.ofNat d] (by simp) (size : Int)
  have hf : fits size [UInt64.ofNat a, UInt64.ofNat b, UInt64.ofNat c, UInt64.ofNat d] = true := by simp only [fits, List.all_cons, List.all_nil, e1, e2, e3, e4, ha, hb, hc, hd, decide_true, Bool.and_true]
  have h1' : rowE (size : Int) [UInt64.ofNat a, UInt64.ofNat b, UInt64.ofNat c, UInt64.ofNat d] = 0 := by
    unfold rowE
    rw [if_pos ⟨by omega, by simpa using hf⟩]
  have h2' : rowB_ (size : Int) [UInt64.ofNat a, UInt64.ofNat b, UInt64.ofNat c, UInt64.ofNat d] = encb size a ++ encb size b ++ encb size c ++ encb size d := by
    unfold rowB_
    rw [if_pos ⟨by omega, by simpa using hf⟩]
    simp [rowb, e1, e2, e3, e4]
  have hk : E.keep 48 = true := rfl
  simp only [us, List.map_cons, List.map_nil, u64v, e1, e2, e3, e4, h1', h2', hk, decide_true, kres_t] at q
  exact q
theorem row3 (a b c size : Nat) (h1 : 1 ≤ size) (h2 : size ≤ 7) (ha : a < 256 ^ size) (hb : b < 256 ^ size) (hc : c < 256 ^ size) :
    pcall E 48 [.int .i64 (size : Int), .rs false 1 [.int .u64 (a : Int), .int .u64 (b : Int), .int .u64 (c : Int)]] = some (.tup [.sl 1 0 0 0 (encb size a ++ encb size b ++ encb size c).length, .int .i64 0], [.row 0 1 ((encb size a ++ encb size b ++ encb size c).map by8) 5]) := by
  have hp : 256 ^ size ≤ 256 ^ 7 := Nat.pow_le_pow_right (by omega) h2
  have h7 : (256 : Nat) ^ 7 < 18446744073709551616 := by decide
  have e : ∀ n, n < 256 ^ size → (UInt64.ofNat n).toNat = n := fun n hn => UInt64.toNat_ofNat_of_lt' (Nat.lt_trans (Nat.lt_of_lt_of_le hn hp) h7)
  have e1 := e a ha
  have e2 := e b hb
  have e3 := e c hc
  have q := s48 false [UInt64.ofNat a, UInt64.ofNat b, UInt64.ofNat c] (by simp) (size : Int)
  have hf : fits size [UInt64.ofNat a, UInt64.ofNat b, UInt64.ofNat c] = true := by simp only [fits, List.all_cons, List.all_nil, e1, e2, e3, ha, hb, hc, decide_true, Bool.and_true]
  have h1' : rowE (size : Int) [UInt64.ofNat a, UInt64.ofNat b, UInt64.ofNat c] = 0 := by
    unfold rowE
    rw [if_pos ⟨by omega, by simpa using hf⟩]
  have h2' : rowB_ (size : Int) [UInt64.ofNat a, UInt64.ofNat b, UInt64.ofNat c] = encb size a ++ encb size b ++ encb size c := by
    unfold rowB_
    rw [if_pos ⟨by omega, by simpa using hf⟩]
    simp [rowb, e1, e2, e3]
  have hk : E.keep 48 = true := rfl
  simp only [us, List.map_cons, List.map_nil, u64v, e1, e2, e3, h1', h2', hk, decide_true, kres_t] at q
  exact q
theorem lay2 (g : Bool) (x : List UInt8) (hx : x.length ≤ 140737488355328) (i s : Nat) (hi : i + 2 ≤ x.length) (hs : s < 65536) :
    pcall E 51 [bs g x, .int .i64 (i : Int), .int .i64 2, .int .u64 (s : Int)] = some (kres (E.keep 51) true 5 (over x i (encb 2 s)) (.int .i64 0)) := by
  have q5 := s51 g x hx i 2 (by constructor <;> omega) s (by omega)
  have hnb : numbB s 2 = encb 2 s := by unfold numbB; rw [if_pos ⟨by omega, by show _ < 65536; exact hs⟩]; rfl
  have hne : numbE s 2 = 0 := by unfold numbE; rw [if_pos ⟨by omega, by show _ < 65536; exact hs⟩]
  have hspan : spanE x.length i (encb 2 s).length = 0 := by
    rw [encb_length]
    simp only [spanE]
    rw [if_neg (by omega), if_neg (by omega), if_neg (by omega)]
  have hlb : layB x i 2 s = over x i (encb 2 s) := by
    unfold layB patB
    rw [if_pos hne, hnb, if_pos hspan]
    rfl
  have hle : layE x i 2 s = 0 := by
    unfold layE patE
    rw [if_pos hne, hnb, hspan]
  rw [hlb, hle, decide_eq_true rfl] at q5
  exact q5
/-- A row of two values, told by its content. -/
theorem snR_pair (g : Bool) (h : Heap) (l : Nat) (t : TypeId) (a b : AV) (hl : h[l]? = some (.row 0 1 [a, b] t)) : snR g h 8 l 0 2 (some (.row 0 1 [a, b] t)) = (snL g h 7 [a, b]).map fun ws => .rs g 1 (group false 1 2 ws) := by
  have e := sn_row g h 7 l 0 2
  rw [hl] at e
  rw [show (8 : Nat) = 7 + 1 from rfl, ← e, sn_sl, hl]
  rfl
theorem snC (g : Bool) (o0 : AObj) (t1 t2 : TypeId) (e : List AV) (x : List UInt8) (n v : Nat) (hx : x.length = n) : snR g [o0, .row v 1 (x.map by8) t1, .row 0 1 [.rs false 1 e, .sl 1 1 v 0 n] t2] 8 2 0 2
    (some (.row 0 1 [.rs false 1 e, .sl 1 1 v 0 n] t2)) = some (.rs g 1 [.rs false 1 e, .rs g 1 (x.map by8)]) := by
  have e1 : sn g [o0, .row v 1 (x.map by8) t1, .row 0 1 [.rs false 1 e, .sl 1 1 v 0 n] t2] 7 (.sl 1 1 v 0 n) = some (.rs g 1 (x.map by8)) := by
    rw [sn_row]
    exact snR_by8 g _ 7 1 v n x t1 hx
  rw [snR_pair _ _ _ _ _ _ rfl]
  simp only [snL_cons, snL_nil, sn_rs, e1, consK_some, Option.map_some]
  rfl
theorem group2 (a b : AV) : group false 1 2 [a, b] = [a, b] := rfl
/-- What is laid over two bytes between others. -/
theorem over_mid (a b c e : List UInt8) (h : b.length = e.length) : over (a ++ (b ++ c)) a.length e = a ++ (e ++ c) := by
  unfold over
  rw [List.take_left, ← List.append_assoc a b, List.drop_left' (by rw [List.length_append, h]), List.append_assoc]
theorem U32_arg {x : AV} (h : Arg Tryz.prog 23 x) : ∃ v : UInt32, x = .int .u32 (v.toNat : Int) := by
  obtain ⟨n, rfl, hw⟩ := h.int_inv Tryz.underlying23
  simp [Lit.wf, IntKind.min, IntKind.max, IntKind.signed, IntKind.bits] at hw
  refine ⟨UInt32.ofNat n.toNat, ?_⟩
  rw [UInt32.toNat_ofNat_of_lt' (by show _ < 4294967296; omega)]
  congr 1
  omega
theorem u16_arg {x : AV} (h : Arg Tryz.prog 22 x) : ∃ v : Nat, x = .int .u16 (v : Int) ∧ v < 65536 := by
  obtain ⟨n, rfl, hw⟩ := h.int_inv Tryz.underlying22
  simp [Lit.wf, IntKind.min, IntKind.max, IntKind.signed, IntKind.bits] at hw
  refine ⟨n.toNat, ?_, by omega⟩
  congr 1
  omega
theorem bb : ((true == true) = true ∧ (true == false) = false ∧ (false == true) = false ∧ (false == false) = true) := ⟨rfl, rfl, rfl, rfl⟩
theorem finT_nili (h : Heap) (l ver n : Nat) (vs : List UInt8) (t : TypeId) (hn : vs.length = n) : finT h 1 l ver n .nili (some (.row ver 1 (vs.map by8) t)) = some (.tup [.sl 1 0 0 0 n, .nili], [.row 0 1 (vs.map by8) t]) := fby.finT h l ver n vs t .nili hn rfl

theorem s24 (g : Bool) (r n m : Int) : pcall E 24 [.iface 119 (.rp g (.agg [.int .i64 r, .iface 43 (.int .i64 n)])), .int .i64 m] = some (.bool (n == m), []) := by
  rw [pcall_go (fn := I24) rfl rfl rfl]
  have hk : E.keep 24 = false := rfl
  have q := fun g => s61 g .i64 r n m
  simp (disch := first | omega | (simp only [List.length_cons, List.length_nil, List.length_append, List.length_map, List.length_set]; omega) | rfl | (simp only [List.length_cons, List.length_nil, List.length_append, List.length_map, List.length_set, List.length_replicate, List.all_cons, List.all_nil, List.all_append, storable, plainB, Bool.and_self]; done)) only [go_sem, reduceCtorEq, ↓reduceIte, reduceDIte, evI_callP, callPK_some, I24, hk, q]
theorem errV_zero (r : Int) : errV r 0 = .nili := rfl
theorem faultC_zero (r : Int) : faultC r 0 = [.rs false 1 [], .int .i64 0] := rfl
theorem errV_pos {e : Int} (r : Int) (h : ¬ e = 0) : errV r e = .iface 119 (.rp false (.agg [.int .i64 r, .iface 43 (.int .i64 e)])) := by unfold errV; rw [if_neg h]; rfl
theorem faultC_pos {e : Int} (r : Int) (h : ¬ e = 0) : faultC r e = [.rs false 1 [.int .i64 r], .int .i64 e] := by unfold faultC; rw [if_neg h]
theorem bool_arg {x : AV} (h : Arg Tryz.prog 4 x) : ∃ b, x = .bool b := h.bool_inv Tryz.underlying4
theorem U16_arg {x : AV} (h : Arg Tryz.prog 22 x) : ∃ v : UInt16, x = .int .u16 (v.toNat : Int) := by
  obtain ⟨n, rfl, hn⟩ := u16_arg h
  exact ⟨UInt16.ofNat n, by rw [UInt16.toNat_ofNat_of_lt' (by show _ < 65536; exact hn)]⟩
end Go.Fw.Wd
