/-
  Datagrams: their bytes, by the program and by the document. Conditions: stated at each.
-/
import Derived.Test.YtigiopahmiaedaaDoorWdUdpr
set_option linter.unusedVariables false
set_option linter.unusedSimpArgs false
namespace Go.Fw.Wd
open Go.Proofs Code_

/-- A datagram's first six bytes; its sum; its bytes. -/
def udpH (p q n : Nat) : List UInt8 := encb 2 p ++ (encb 2 q ++ encb 2 n)
theorem udpH_len (p q n : Nat) : (udpH p q n).length = 6 := by simp only [udpH, List.length_append, encb_length]
def udpS (p q : Nat) (body : List UInt8) (x y : UInt32) : Nat := 65535 - foldN (sumW (endsP x y 17 (8 + body.length) ++ (udpH p q (8 + body.length) ++ (encb 2 0 ++ body))))
def udpN (p q : Nat) (bare : Bool) (body : List UInt8) (x y : UInt32) : Nat := if bare = true then 0 else if udpS p q body x y = 0 then 65535 else udpS p q body x y
def udpB (p q : Nat) (bare : Bool) (body : List UInt8) (x y : UInt32) : List UInt8 := udpH p q (8 + body.length) ++ (encb 2 (udpN p q bare body x y) ++ body)
theorem udpB_len (p q : Nat) (bare : Bool) (body : List UInt8) (x y : UInt32) : (udpB p q bare body x y).length = 8 + body.length := by simp only [udpB, List.length_append, encb_length, udpH_len]; omega
theorem udpS_lt (p q : Nat) (body : List UInt8) (x y : UInt32) : udpS p q body x y < 65536 := by unfold udpS; omega
theorem udpN_lt (p q : Nat) (bare : Bool) (body : List UInt8) (x y : UInt32) : udpN p q bare body x y < 65536 := by
  have := udpS_lt p q body x y
  unfold udpN
  split
  · omega
  split <;> omega
theorem udpN_zero (p q : Nat) (bare : Bool) (body : List UInt8) (x y : UInt32) : decide (udpN p q bare body x y = 0) = bare := by
  unfold udpN
  cases bare
  · rw [if_neg (by simp)]
    split <;> simp [*]
  · simp
theorem endsP_sumW (a b : UInt32) (p n : Nat) : sumW (endsP a b p n) = sumW (encb 4 a.toNat) + (sumW (encb 4 b.toNat) + sumW (encb 2 p ++ encb 2 n)) := by
  have e4 : ∀ v : Nat, (encb 4 v).length % 2 = 0 := fun v => by rw [encb_length]
  unfold endsP
  rw [List.append_assoc, List.append_assoc, sumW_append _ _ (e4 _), sumW_append _ _ (e4 _)]
theorem endsP_swap (a b : UInt32) (p n : Nat) (x : List UInt8) : sumW (endsP b a p n ++ x) = sumW (endsP a b p n ++ x) := by
  have l12 : ∀ a b : UInt32, (endsP a b p n).length % 2 = 0 := fun a b => by rw [endsP_len]
  rw [sumW_append _ _ (l12 b a), sumW_append _ _ (l12 a b), endsP_sumW, endsP_sumW]
  omega
theorem udpB_sum (p q : Nat) (body : List UInt8) (x y : UInt32) : foldN (sumW (endsP x y 17 (8 + body.length) ++ udpB p q false body x y)) = 65535 := by
  have l12 : (endsP x y 17 (8 + body.length)).length % 2 = 0 := by rw [endsP_len]
  have l6 : (udpH p q (8 + body.length)).length % 2 = 0 := by rw [udpH_len]
  have hN : udpN p q false body x y = if udpS p q body x y = 0 then 65535 else udpS p q body x y := by unfold udpN; rw [if_neg (by simp)]
  have hlt := udpN_lt p q false body x y
  have hS : udpS p q body x y = 65535 - foldN (sumW (endsP x y 17 (8 + body.length)) + (sumW (udpH p q (8 + body.length)) + (0 + sumW body))) := by
    unfold udpS
    rw [sumW_append _ _ l12, sumW_append _ _ l6, sumW_enc2 0 (by omega)]
  unfold udpB
  rw [sumW_append _ _ l12, sumW_append _ _ l6, sumW_enc2 _ hlt, hN, hS]
  generalize sumW (endsP x y 17 (8 + body.length)) = a
  generalize sumW (udpH p q (8 + body.length)) = b
  generalize sumW body = c
  have h1 : a + (b + (0 + c)) = a + b + c := by omega
  rw [h1]
  split
  · have h2 : a + (b + (65535 + c)) = (a + b + c) + 65535 := by omega
    rw [h2]
    generalize a + b + c = m at *
    rename_i h3
    unfold foldN at *
    split at h3 <;> split <;> omega
  · have h2 : a + (b + (65535 - foldN (a + b + c) + c)) = (a + b + c) + (65535 - foldN (a + b + c)) := by omega
    rw [h2]
    generalize a + b + c = m at *
    unfold foldN
    split <;> split <;> omega
/-- What stands in a datagram's bytes. -/
theorem udpB_parts (p q : Nat) (hp : p < 65536) (hq : q < 65536) (bare : Bool) (body z : List UInt8) (hb : body.length ≤ 1472) (x y : UInt32) :
    n2 (udpB p q bare body x y ++ z) 0 = p ∧ n2 (udpB p q bare body x y ++ z) 2 = q ∧ n2 (udpB p q bare body x y ++ z) 4 = 8 + body.length ∧ n2 (udpB p q bare body x y ++ z) 6 = udpN p q bare body x y ∧ (udpB p q bare body x y).drop 8 = body := by
  have hlt := udpN_lt p q bare body x y
  unfold udpB udpH
  generalize udpN p q bare body x y = s at *
  have l2 : ∀ v, (encb 2 v).length = 2 := fun v => encb_length 2 v
  simp only [List.append_assoc]
  have a2 : ∀ (v : Nat) (r : List UInt8) (i : Nat), n2 (encb 2 v ++ r) (i + 2) = n2 r i := fun v r i => by rw [n2_right _ _ _ (by rw [l2]; omega), l2, Nat.add_sub_cancel]
  refine ⟨n2_enc p hp _, ?_, ?_, ?_, ?_⟩
  · rw [show (2 : Nat) = 0 + 2 from rfl, a2]; exact n2_enc q hq _
  · rw [show (4 : Nat) = 0 + 2 + 2 from rfl, a2, a2]; exact n2_enc _ (by omega) _
  · rw [show (6 : Nat) = 0 + 2 + 2 + 2 from rfl, a2, a2, a2]; exact n2_enc s hlt _
  · have : (encb 2 p ++ (encb 2 q ++ (encb 2 (8 + body.length) ++ encb 2 s))).length = 8 := by simp only [List.length_append, l2]
    have h := List.drop_left' (l₂ := body) this
    simpa only [List.append_assoc] using h
/-- What is written is parsed as it was, between these Ips, or the other way round. -/
theorem udpB_parse (p q : Nat) (hp : p < 65536) (hq : q < 65536) (bare : Bool) (body z : List UInt8) (hb : body.length ≤ 1472) (x y : UInt32) (u v : UInt32) (huv : (u = x ∧ v = y) ∨ (u = y ∧ v = x)) :
    udpD (udpB p q bare body x y ++ z) u v = dgC p q bare body ∧ udpF (udpB p q bare body x y ++ z) u v = 0 := by
  obtain ⟨h0, h2, h4, h6, h8⟩ := udpB_parts p q hp hq bare body z hb x y
  have hl := udpB_len p q bare body x y
  have hz := udpN_zero p q bare body x y
  have hs := udpB_sum p q body x y
  have hsw := endsP_swap x y 17 (8 + body.length) (udpB p q false body x y)
  have hN : udpN p q false body x y ≠ 0 := by have := udpN_zero p q false body x y; simpa using this
  have hE : udpE (udpB p q bare body x y ++ z) = 0 := by
    unfold udpE
    rw [h4, if_neg (by rw [List.length_append]; omega), if_neg (by omega), if_neg (by rw [List.length_append]; omega), if_neg (by omega)]
  have ht : (udpB p q bare body x y ++ z).take (8 + body.length) = udpB p q bare body x y := List.take_left' hl
  have hok : udpOk (udpB p q bare body x y ++ z) u v = true := by
    unfold udpOk
    rw [h6, h4, ht, hz]
    cases bare
    · rcases huv with ⟨rfl, rfl⟩ | ⟨rfl, rfl⟩
      · rw [hs]; rfl
      · rw [hsw, hs]; rfl
    · rfl
  unfold udpD udpF
  rw [if_pos ⟨hE, hok⟩, if_pos hE, if_pos hok, h0, h2, h6, h4, ht, h8, hz]
  exact ⟨rfl, rfl⟩

theorem snC1 (g : Bool) (t1 t2 : TypeId) (e : List AV) (x : List UInt8) (n v : Nat) (hx : x.length = n) : snR g [.row v 1 (x.map by8) t1, .row 0 1 [.rs false 1 e, .sl 1 0 v 0 n] t2] 8 1 0 2
    (some (.row 0 1 [.rs false 1 e, .sl 1 0 v 0 n] t2)) = some (.rs g 1 [.rs false 1 e, .rs g 1 (x.map by8)]) := by
  have e1 : sn g [.row v 1 (x.map by8) t1, .row 0 1 [.rs false 1 e, .sl 1 0 v 0 n] t2] 7 (.sl 1 0 v 0 n) = some (.rs g 1 (x.map by8)) := by
    rw [sn_row]
    exact snR_by8 g _ 7 0 v n x t1 hx
  rw [snR_pair _ _ _ _ _ _ rfl]
  simp only [snL_cons, snL_nil, sn_rs, e1, consK_some, Option.map_some]
  rfl
theorem bytes_err (p q : Nat) (r : Bool) (body : List UInt8) (hb : 1472 < body.length) (x y : UInt32) : pcall E 24 [.agg (dgC p q r body), .int .u32 (x.toNat : Int), .int .u32 (y.toNat : Int)] = some (.tup [bs false [], errV 1 11], []) := by
  rw [pcall_go (fn := I24) rfl rfl rfl]
  have hk : E.keep 24 = true := rfl
  have h1 : (1472 : Int) < body.length := by omega
  have q3 := s44 1 11 (by omega) (by omega)
  unfold errV at q3 ⊢
  rw [if_neg (by omega)] at q3 ⊢
  simp only [faultV, dgC_eq] at q3 ⊢
  simp (disch := first | omega | (simp only [List.length_cons, List.length_nil, List.length_append, List.length_map, List.length_set]; omega) | rfl | (simp only [List.length_cons, List.length_nil, List.length_append, List.length_map, List.length_set, List.length_replicate, List.all_cons, List.all_nil, List.all_append, storable, plainB, Bool.and_self]; done)) only [go_sem, reduceCtorEq, ↓reduceIte, reduceDIte, evI_callP, callPK_some, I24, hk, h1, q3]
theorem s24 (p q : Nat) (hp : p < 65536) (hq : q < 65536) (r : Bool) (body : List UInt8) (hb : body.length ≤ 1472) (x y : UInt32) : pcall E 24 [.agg (dgC p q r body), .int .u32 (x.toNat : Int), .int .u32 (y.toNat : Int)] =
    some (.tup [.sl 1 0 0 0 (8 + body.length), .nili], [.row 0 1 ((udpB p q r body x y).map by8) 5]) := by
  rw [pcall_go (fn := I24) rfl rfl rfl]
  have hk : E.keep 24 = true := rfl
  have h1 : ¬ (1472 : Int) < body.length := by omega
  have w0 : IntKind.i64.wrap (8 + (body.length : Int)) = 8 + (body.length : Int) := w64 (by omega) (by omega)
  have w1 : IntKind.u64.wrap (p : Int) = (p : Int) := wu64 (by omega) (by omega)
  have w2 : IntKind.u64.wrap (q : Int) = (q : Int) := wu64 (by omega) (by omega)
  have w3 : IntKind.u64.wrap (8 + (body.length : Int)) = 8 + (body.length : Int) := wu64 (by omega) (by omega)
  have q1 := row4 p q (8 + body.length) 0 2 (by omega) (by omega) (by omega) (by omega) (by omega) (by omega)
  have hl := udpB_len p q r body x y
  obtain ⟨h0, eh⟩ : ∃ h, h = encb 2 p ++ encb 2 q ++ encb 2 (8 + body.length) ++ encb 2 0 := ⟨_, rfl⟩
  have lh : h0.length = 8 := by rw [eh]; simp only [List.length_append, encb_length]
  obtain ⟨b0, eb⟩ : ∃ b, b = h0 ++ body := ⟨_, rfl⟩
  have lb : b0.length = 8 + body.length := by rw [eb, List.length_append, lh]
  have eb2 : b0 = udpH p q (8 + body.length) ++ (encb 2 0 ++ body) := by rw [eb, eh]; simp only [udpH, List.append_assoc]
  rw [← eh, lh] at q1
  have a1 : ∀ h i, appR h 1 1 5 (body.map by8) body.length i 0 8 (some (.row 0 1 (h0.map by8) 5)) = some (.sl 1 i 1 0 (8 + body.length), h.set i (.row 1 1 (b0.map by8) 5)) := fun h i => by rw [eb]; exact appR_by8 h 1 5 i 0 8 body.length h0 body lh (by omega) (by omega)
  simp only [Int.cast_ofNat_Int, Int.natCast_zero, Int.natCast_add] at q1
  cases r
  case true =>
    have e : udpB p q true body x y = b0 := by unfold udpB udpN; rw [if_pos rfl, eb2]
    rw [e]
    simp only [dgC_eq]
    simp (disch := first | omega | (simp only [List.length_cons, List.length_nil, List.length_append, List.length_map, List.length_set]; omega) | rfl | (simp only [List.length_cons, List.length_nil, List.length_append, List.length_map, List.length_set, List.length_replicate, List.all_cons, List.all_nil, List.all_append, storable, plainB, Bool.and_self]; done)) only [go_sem, reduceCtorEq, ↓reduceIte, reduceDIte, evI_callP, callPK_some, I24, hk, h1, w0, w1, w2, w3, q1, a1, lh, lb, finT_nili]
  have q2 := s52 x y (8 + body.length) (by omega)
  obtain ⟨en, een⟩ : ∃ e, e = endsP x y 17 (8 + body.length) := ⟨_, rfl⟩
  have len_ : en.length = 12 := by rw [een, endsP_len]
  have ecat : cat [(false, en), (true, b0)] = en ++ b0 := by simp [cat]
  have q4 := fun g1 => s47 g1 [(false, en), (true, b0)] (by simp) (by rw [ecat, List.length_append]; omega)
  rw [ecat] at q4
  have hs65 : 65535 - foldN (sumW (en ++ b0)) = udpS p q body x y := by rw [een, eb2]; rfl
  rw [hs65] at q4
  have hsl := udpS_lt p q body x y
  simp only [List.map_cons, List.map_nil, encP_eq] at q4
  rw [← een] at q2
  have hov : ∀ n, over b0 6 (encb 2 n) = udpH p q (8 + body.length) ++ (encb 2 n ++ body) := fun n => by
    have h := over_mid (udpH p q (8 + body.length)) (encb 2 0) body (encb 2 n) (by rw [encb_length, encb_length])
    rw [udpH_len] at h
    rw [eb2, h]
  have hB : udpB p q false body x y = udpH p q (8 + body.length) ++ (encb 2 (if udpS p q body x y = 0 then 65535 else udpS p q body x y) ++ body) := by unfold udpB udpN; rw [if_neg (by simp)]
  rw [hB] at hl ⊢
  rw [Int.natCast_add] at q2
  simp only [Int.cast_ofNat_Int] at q2
  simp only [dgC_eq]
  clear eb eb2 eh een hs65 hB
  by_cases hz : udpS p q body x y = 0
  · have q5 := fun g => lay2 g b0 (by omega) 6 65535 (by omega) (by omega)
    rw [hov] at q5
    rw [if_pos hz] at hl ⊢
    rw [hz] at q4
    generalize udpH p q (8 + body.length) ++ (encb 2 65535 ++ body) = raw at *
    simp only [Int.cast_ofNat_Int, Int.natCast_zero] at q4 q5
    have hkl : E.keep 46 = true := rfl
    rw [hkl, kres_t] at q5
    simp (disch := first | omega | (simp only [List.length_cons, List.length_nil, List.length_append, List.length_map, List.length_set]; omega) | rfl | (simp only [List.length_cons, List.length_nil, List.length_append, List.length_map, List.length_set, List.length_replicate, List.all_cons, List.all_nil, List.all_append, storable, plainB, Bool.and_self]; done)) only [go_sem, reduceCtorEq, ↓reduceIte, reduceDIte, evI_callP, callPK_some, I24, hk, h1, w0, w1, w2, w3, q1, q2, q4, q5, a1, lh, lb, hl, finT_nili, snC1]
  · have hz' : ¬ ((udpS p q body x y : Nat) : Int) = 0 := by omega
    have q5 := fun g => lay2 g b0 (by omega) 6 (udpS p q body x y) (by omega) (by omega)
    rw [hov] at q5
    rw [if_neg hz] at hl ⊢
    have w4 : IntKind.u64.wrap ((udpS p q body x y : Nat) : Int) = ((udpS p q body x y : Nat) : Int) := wu64 (by omega) (by omega)
    generalize udpH p q (8 + body.length) ++ (encb 2 (udpS p q body x y) ++ body) = raw at *
    generalize udpS p q body x y = s at *
    simp only [Int.cast_ofNat_Int] at q5
    have hkl : E.keep 46 = true := rfl
    rw [hkl, kres_t] at q5
    simp (disch := first | omega | (simp only [List.length_cons, List.length_nil, List.length_append, List.length_map, List.length_set]; omega) | rfl | (simp only [List.length_cons, List.length_nil, List.length_append, List.length_map, List.length_set, List.length_replicate, List.all_cons, List.all_nil, List.all_append, storable, plainB, Bool.and_self]; done)) only [go_sem, reduceCtorEq, ↓reduceIte, reduceDIte, evI_callP, callPK_some, I24, hk, h1, hz', w0, w1, w2, w3, w4, q1, q2, q4, q5, a1, lh, lb, hl, finT_nili, snC1]
end Go.Fw.Wd
