/-
  Faults by the document, their reasons; numbers as rows; what a sum has besides the bytes. Conditions: stated at each.
  Segments by the document: their sum, and what is made. Conditions: stated at each.
-/
import Derived.Test.YtigiopahmiaedaaGreatDoorWdTflags
import Derived.Test.YtigiopahmiaedaaGreatDoorWdSumt
import Derived.KernelRfl
set_option linter.unusedVariables false
set_option linter.unusedSimpArgs false
namespace Go.Fw.Wd
open Go.Proofs Code_

theorem word1 : pcall E 94 [.int .i64 1] = some (.str ⟨#[102, 111, 114, 109]⟩, []) := pcall_run 30 (by kernel_rfl)
theorem word2 : pcall E 94 [.int .i64 2] = some (.str ⟨#[115, 117, 109]⟩, []) := pcall_run 30 (by kernel_rfl)
/-- A fault by the document: its reason and its error; none where the error is 0. -/
def faultC (r e : Int) : List AV := if e = 0 then [.rs false 1 [], .int .i64 0] else [.rs false 1 [.int .i64 r], .int .i64 e]
theorem new1 (e : Int) : pcall E 65 [.int .i64 1, .int .i64 e] = some (.agg (faultC 1 e), []) := by
  rw [pcall_go (fn := I65) rfl rfl rfl]
  have hk : E.keep 65 = false := rfl
  have q := word1
  have hs : ((⟨#[102, 111, 114, 109]⟩ : ByteArray).toList == (⟨#[]⟩ : ByteArray).toList) = false := by decide +kernel
  unfold faultC
  by_cases h : e = 0
  · simp (disch := first | omega | (simp only [List.length_cons, List.length_nil, List.length_append, List.length_map, List.length_set]; omega) | rfl | (simp only [List.length_cons, List.length_nil, List.length_append, List.length_map, List.length_set, List.length_replicate, List.all_cons, List.all_nil, List.all_append, storable, plainB, Bool.and_self]; done)) only [go_sem, reduceCtorEq, ↓reduceIte, reduceDIte, evI_callP, callPK_some, I65, hk, h]
  · simp (disch := first | omega | (simp only [List.length_cons, List.length_nil, List.length_append, List.length_map, List.length_set]; omega) | rfl | (simp only [List.length_cons, List.length_nil, List.length_append, List.length_map, List.length_set, List.length_replicate, List.all_cons, List.all_nil, List.all_append, storable, plainB, Bool.and_self]; done)) only [go_sem, reduceCtorEq, ↓reduceIte, reduceDIte, evI_callP, callPK_some, I65, hk, h, q, hs]
theorem new2 (e : Int) : pcall E 65 [.int .i64 2, .int .i64 e] = some (.agg (faultC 2 e), []) := by
  rw [pcall_go (fn := I65) rfl rfl rfl]
  have hk : E.keep 65 = false := rfl
  have q := word2
  have hs : ((⟨#[115, 117, 109]⟩ : ByteArray).toList == (⟨#[]⟩ : ByteArray).toList) = false := by decide +kernel
  unfold faultC
  by_cases h : e = 0
  · simp (disch := first | omega | (simp only [List.length_cons, List.length_nil, List.length_append, List.length_map, List.length_set]; omega) | rfl | (simp only [List.length_cons, List.length_nil, List.length_append, List.length_map, List.length_set, List.length_replicate, List.all_cons, List.all_nil, List.all_append, storable, plainB, Bool.and_self]; done)) only [go_sem, reduceCtorEq, ↓reduceIte, reduceDIte, evI_callP, callPK_some, I65, hk, h]
  · simp (disch := first | omega | (simp only [List.length_cons, List.length_nil, List.length_append, List.length_map, List.length_set]; omega) | rfl | (simp only [List.length_cons, List.length_nil, List.length_append, List.length_map, List.length_set, List.length_replicate, List.all_cons, List.all_nil, List.all_append, storable, plainB, Bool.and_self]; done)) only [go_sem, reduceCtorEq, ↓reduceIte, reduceDIte, evI_callP, callPK_some, I65, hk, h, q, hs]
theorem s45 (r e : Int) (h : e ≠ 0) : pcall E 45 [.agg [.rs false 1 [.int .i64 r], .int .i64 e]] = some (.int .i64 r, []) := by
  rw [pcall_go (fn := I45) rfl rfl rfl]
  have hk : E.keep 45 = false := rfl
  have ia : ∀ h : Heap, iaddrK h 1 (.rs false 1 [.int .i64 r]) (.int .i64 0) = some (.rp false (.int .i64 r), h) := fun h => rfl
  simp (disch := first | omega | (simp only [List.length_cons, List.length_nil, List.length_append, List.length_map, List.length_set]; omega) | rfl | (simp only [List.length_cons, List.length_nil, List.length_append, List.length_map, List.length_set, List.length_replicate, List.all_cons, List.all_nil, List.all_append, storable, plainB, Bool.and_self]; done)) only [go_sem, reduceCtorEq, ↓reduceIte, reduceDIte, evI_callP, callPK_some, I45, hk, ia, Int.reduceLT]
/-- Is an error the fault that the document tells? -/
theorem is_same (r e : Int) : pcall E 13 [errV r e, .agg (faultC r e)] = some (.bool true, []) := by
  rw [pcall_go (fn := I13) rfl rfl rfl]
  have hk : E.keep 13 = false := rfl
  unfold errV faultC
  by_cases h : e = 0
  · simp only [h, if_true]
    simp (disch := first | omega | (simp only [List.length_cons, List.length_nil, List.length_append, List.length_map, List.length_set]; omega) | rfl | (simp only [List.length_cons, List.length_nil, List.length_append, List.length_map, List.length_set, List.length_replicate, List.all_cons, List.all_nil, List.all_append, storable, plainB, Bool.and_self]; done)) only [go_sem, reduceCtorEq, ↓reduceIte, reduceDIte, evI_callP, callPK_some, I13, hk]
  · have q1 := fun g => s44 g r e
    have q2 := fun g => s23 g r e
    have q3 := s45 r e h
    simp only [h, if_false, faultV]
    simp (disch := first | omega | (simp only [List.length_cons, List.length_nil, List.length_append, List.length_map, List.length_set]; omega) | rfl | (simp only [List.length_cons, List.length_nil, List.length_append, List.length_map, List.length_set, List.length_replicate, List.all_cons, List.all_nil, List.all_append, storable, plainB, Bool.and_self]; done)) only [go_sem, reduceCtorEq, ↓reduceIte, reduceDIte, evI_callP, callPK_some, I13, hk, q1, q2, q3, h]
end Go.Fw.Wd
set_option linter.unusedVariables false
set_option linter.unusedSimpArgs false
namespace Go.Fw.Wd
open Go.Proofs Code_

theorem two_eq (n : Nat) : encb 2 n = [UInt8.ofNat (n / 256), UInt8.ofNat n] := by simp [encb]
theorem four_eq (n : Nat) (hn : n < 4294967296) : encb 4 n = [UInt8.ofNat (n / 16777216), UInt8.ofNat (n / 65536), UInt8.ofNat (n / 256), UInt8.ofNat n] := by
  simp [encb]
theorem qi64 (n k : Nat) (hn : n ≤ 9223372036854775807) : IntKind.i64.wrap (Int.tdiv (n : Int) (k : Int)) = ((n / k : Nat) : Int) := by
  have h1 : Int.tdiv (n : Int) (k : Int) = ((n / k : Nat) : Int) := by rw [Int.tdiv_eq_ediv_of_nonneg (by omega), Int.natCast_ediv]
  have h2 : n / k ≤ n := Nat.div_le_self n k
  rw [h1]
  generalize n / k = q at *
  rw [w64 (by omega) (by omega)]
theorem qu32 (n k : Nat) (hn : n < 4294967296) : IntKind.u32.wrap (Int.tdiv (n : Int) (k : Int)) = ((n / k : Nat) : Int) := by
  have h1 : Int.tdiv (n : Int) (k : Int) = ((n / k : Nat) : Int) := by rw [Int.tdiv_eq_ediv_of_nonneg (by omega), Int.natCast_ediv]
  have h2 : n / k ≤ n := Nat.div_le_self n k
  rw [h1]
  generalize n / k = q at *
  rw [wu32 (by omega) (by omega)]
theorem qu16 (n k : Nat) (hn : n < 65536) : IntKind.u16.wrap (Int.tdiv (n : Int) (k : Int)) = ((n / k : Nat) : Int) := by
  have h1 : Int.tdiv (n : Int) (k : Int) = ((n / k : Nat) : Int) := by rw [Int.tdiv_eq_ediv_of_nonneg (by omega), Int.natCast_ediv]
  have h2 : n / k ≤ n := Nat.div_le_self n k
  rw [h1]
  generalize n / k = q at *
  rw [wu16 (by omega) (by omega)]
theorem rm (n k : Nat) : Int.tmod (n : Int) (k : Int) = ((n % k : Nat) : Int) := by rw [Int.tmod_eq_emod_of_nonneg (by omega), Int.natCast_emod]
theorem wrapU8_mod (n : Nat) : UInt8.ofNat (n % 256) = UInt8.ofNat n := by
  apply UInt8.toNat_inj.1
  simp
theorem encb2_mod (n : Nat) : encb 2 (n % 65536) = encb 2 n := by
  rw [two_eq, two_eq]
  congr 1
  · rw [← wrapU8_mod (n % 65536 / 256), ← wrapU8_mod (n / 256)]
    congr 1
    omega
  · congr 1
    rw [← wrapU8_mod (n % 65536), ← wrapU8_mod n]
    congr 1
    omega
theorem fin2 (h : Heap) (a b : UInt8) (t : TypeId) : finR h 1 0 0 2 (some (.row 0 1 [.int .u8 (a.toNat : Int), .int .u8 (b.toNat : Int)] t)) = some (.sl 1 0 0 0 2, [.row 0 1 ([a, b].map by8) t]) := finR_by8 h 0 0 2 [a, b] t rfl
theorem fin4 (h : Heap) (a b c d : UInt8) (t : TypeId) : finR h 1 0 0 4 (some (.row 0 1 [.int .u8 (a.toNat : Int), .int .u8 (b.toNat : Int), .int .u8 (c.toNat : Int), .int .u8 (d.toNat : Int)] t)) = some (.sl 1 0 0 0 4, [.row 0 1 ([a, b, c, d].map by8) t]) := finR_by8 h 0 0 4 [a, b, c, d] t rfl
theorem s97 (n : Nat) (hn : n ≤ 9223372036854775807) : pcall E 97 [.int .i64 (n : Int)] = some (.sl 1 0 0 0 2, [.row 0 1 ((encb 2 n).map by8) 5]) := by
  rw [pcall_go (fn := I97) rfl rfl rfl, two_eq n]
  have hk : E.keep 97 = true := rfl
  have e3 := qi64 n 256 hn
  have e5 := rm (n / 256) 256
  have e6 := rm n 256
  have w3 := wrapU8 (n / 256 % 256)
  have w4 := wrapU8 (n % 256)
  rw [wrapU8_mod] at w3 w4
  simp only [Int.cast_ofNat_Int] at e3 e5 e6
  generalize n / 256 = c at *
  simp (disch := first | omega | (simp only [List.length_cons, List.length_nil, List.length_append, List.length_map, List.length_set]; omega) | rfl | (simp only [List.length_cons, List.length_nil, List.length_append, List.length_map, List.length_set, List.length_replicate, List.all_cons, List.all_nil, List.all_append, storable, plainB, Bool.and_self]; done)) only [go_sem, reduceCtorEq, ↓reduceIte, reduceDIte, evI_callP, callPK_some, I97, hk, e3, e5, e6, w3, w4, by8_eq, fin2]
theorem s96 (n : Nat) (hn : n < 4294967296) : pcall E 96 [.int .u32 (n : Int)] = some (.sl 1 0 0 0 4, [.row 0 1 ((encb 4 n).map by8) 5]) := by
  rw [pcall_go (fn := I96) rfl rfl rfl, four_eq n hn]
  have hk : E.keep 96 = true := rfl
  have e1 := qu32 n 16777216 hn
  have e2 := qu32 n 65536 hn
  have e3 := qu32 n 256 hn
  have e4 := rm (n / 65536) 256
  have e5 := rm (n / 256) 256
  have e6 := rm n 256
  have w1 := wrapU8 (n / 16777216)
  have w2 := wrapU8 (n / 65536 % 256)
  have w3 := wrapU8 (n / 256 % 256)
  have w4 := wrapU8 (n % 256)
  rw [wrapU8_mod] at w2 w3 w4
  simp only [Int.cast_ofNat_Int] at e1 e2 e3 e4 e5 e6
  generalize n / 16777216 = a at *
  generalize n / 65536 = b at *
  generalize n / 256 = c at *
  simp (disch := first | omega | (simp only [List.length_cons, List.length_nil, List.length_append, List.length_map, List.length_set]; omega) | rfl | (simp only [List.length_cons, List.length_nil, List.length_append, List.length_map, List.length_set, List.length_replicate, List.all_cons, List.all_nil, List.all_append, storable, plainB, Bool.and_self]; done)) only [go_sem, reduceCtorEq, ↓reduceIte, reduceDIte, evI_callP, callPK_some, I96, hk, e1, e2, e3, e4, e5, e6, w1, w2, w3, w4, by8_eq, fin4]

/-- What a sum has besides the bytes, for a protocol. -/
def endsP (a b : UInt32) (p n : Nat) : List UInt8 := encb 4 a.toNat ++ encb 4 b.toNat ++ encb 2 p ++ encb 2 n
theorem endsP_len (a b : UInt32) (p n : Nat) : (endsP a b p n).length = 12 := by simp only [endsP, List.length_append, encb_length]
theorem endsP_6 (a b : UInt32) (n : Nat) : endsP a b 6 n = endsB a b n := by simp only [endsP, endsB, encb2_mod, List.append_assoc]
theorem s68 (a b : UInt32) (p n : Nat) (hp : p ≤ 9223372036854775807) (hn : n ≤ 9223372036854775807) : pcall E 68 [.int .u32 (a.toNat : Int), .int .u32 (b.toNat : Int), .int .i64 (p : Int), .int .i64 (n : Int)] = some (.sl 1 0 0 0 12, [.row 0 1 ((endsP a b p n).map by8) 5]) := by
  rw [pcall_go (fn := I68) rfl rfl rfl]
  have hk : E.keep 68 = true := rfl
  have q1 := s96 a.toNat a.toNat_lt
  have q2 := s96 b.toNat b.toNat_lt
  have q3 := s97 p hp
  have q4 := s97 n hn
  unfold endsP
  obtain ⟨d1, e1⟩ : ∃ d, d = encb 4 a.toNat := ⟨_, rfl⟩
  obtain ⟨d2, e2⟩ : ∃ d, d = encb 4 b.toNat := ⟨_, rfl⟩
  obtain ⟨d3, e3⟩ : ∃ d, d = encb 2 p := ⟨_, rfl⟩
  obtain ⟨d4, e4⟩ : ∃ d, d = encb 2 n := ⟨_, rfl⟩
  have l1 : d1.length = 4 := by rw [e1, encb_length]
  have l2 : d2.length = 4 := by rw [e2, encb_length]
  have l3 : d3.length = 2 := by rw [e3, encb_length]
  have l4 : d4.length = 2 := by rw [e4, encb_length]
  rw [← e1] at q1 ⊢
  rw [← e2] at q2 ⊢
  rw [← e3] at q3 ⊢
  rw [← e4] at q4 ⊢
  obtain ⟨x1, y1⟩ : ∃ x, x = d1 ++ d2 := ⟨_, rfl⟩
  obtain ⟨x2, y2⟩ : ∃ x, x = x1 ++ d3 := ⟨_, rfl⟩
  obtain ⟨x3, y3⟩ : ∃ x, x = x2 ++ d4 := ⟨_, rfl⟩
  have z1 : x1.length = 8 := by rw [y1, List.length_append, l1, l2]
  have z2 : x2.length = 10 := by rw [y2, List.length_append, z1, l3]
  have z3 : x3.length = 12 := by rw [y3, List.length_append, z2, l4]
  rw [← y1, ← y2, ← y3]
  have a1 : ∀ h, appR h 1 1 5 (d2.map by8) 4 0 0 4 (some (.row 0 1 (d1.map by8) 5)) = some (.sl 1 0 1 0 8, h.set 0 (.row 1 1 (x1.map by8) 5)) := fun h => by rw [y1]; exact appR_by8 h 1 5 0 0 4 4 d1 d2 l1 (by omega) (by omega)
  have a2 : ∀ h, appR h 1 1 5 (d3.map by8) 2 0 1 8 (some (.row 1 1 (x1.map by8) 5)) = some (.sl 1 0 2 0 10, h.set 0 (.row 2 1 (x2.map by8) 5)) := fun h => by rw [y2]; exact appR_by8 h 1 5 0 1 8 2 x1 d3 z1 (by omega) (by omega)
  have a3 : ∀ h, appR h 1 1 5 (d4.map by8) 2 0 2 10 (some (.row 2 1 (x2.map by8) 5)) = some (.sl 1 0 3 0 12, h.set 0 (.row 3 1 (x3.map by8) 5)) := fun h => by rw [y3]; exact appR_by8 h 1 5 0 2 10 2 x2 d4 z2 (by omega) (by omega)
  simp (disch := first | omega | (simp only [List.length_cons, List.length_nil, List.length_append, List.length_map, List.length_set]; omega) | rfl | (simp only [List.length_cons, List.length_nil, List.length_append, List.length_map, List.length_set, List.length_replicate, List.all_cons, List.all_nil, List.all_append, storable, plainB, Bool.and_self]; done)) only [go_sem, reduceCtorEq, ↓reduceIte, reduceDIte, evI_callP, callPK_some, I68, hk, q1, q2, q3, q4, a1, a2, a3, l1, l2, l3, l4, z3]
theorem s66 (g : Bool) (b : List UInt8) (x y : UInt32) (hb : b.length ≤ 1048576) : pcall E 66 [bs g b, .int .u32 (x.toNat : Int), .int .u32 (y.toNat : Int)] = some (.bool (decide (foldN (sumW (endsB x y b.length ++ b)) = 65535)), []) := by
  rw [pcall_go (fn := I66) rfl rfl rfl]
  have hk : E.keep 66 = false := rfl
  have q1 := s68 x y 6 b.length (by omega) (by omega)
  have l1 := endsP_len x y 6 b.length
  rw [← endsP_6]
  generalize endsP x y 6 b.length = e at *
  obtain ⟨z, hz⟩ : ∃ z, z = e ++ b := ⟨_, rfl⟩
  have lz : z.length = 12 + b.length := by rw [hz, List.length_append, l1]
  rw [← hz]
  have q2 := fun g => s67 g z (by omega)
  have a1 : ∀ h, appR h 1 1 5 (b.map by8) b.length 0 0 12 (some (.row 0 1 (e.map by8) 5)) = some (.sl 1 0 1 0 (12 + b.length), h.set 0 (.row 1 1 (z.map by8) 5)) := fun h => by rw [hz]; exact appR_by8 h 1 5 0 0 12 b.length e b l1 (by omega) (by omega)
  have e2 : decide (((foldN (sumW z) : Nat) : Int) = 65535) = decide (foldN (sumW z) = 65535) := decide_eq_decide.2 (by omega)
  simp only [Int.cast_ofNat_Int] at q1
  simp (disch := first | omega | (simp only [List.length_cons, List.length_nil, List.length_append, List.length_map, List.length_set]; omega) | rfl | (simp only [List.length_cons, List.length_nil, List.length_append, List.length_map, List.length_set, List.length_replicate, List.all_cons, List.all_nil, List.all_append, storable, plainB, Bool.and_self]; done)) only [go_sem, reduceCtorEq, ↓reduceIte, reduceDIte, evI_callP, callPK_some, I66, hk, q1, q2, a1, lz, e2]
theorem sumW_enc2 (s : Nat) (h : s < 65536) (l : List UInt8) : sumW (encb 2 s ++ l) = s + sumW l := by
  have h1 : (UInt8.ofNat (s / 256)).toNat = s / 256 := UInt8.toNat_ofNat_of_lt' (by show _ < 256; omega)
  have h2 : (UInt8.ofNat s).toNat = s % 256 := by simp
  rw [two_eq]
  show (UInt8.ofNat (s / 256)).toNat * 256 + (UInt8.ofNat s).toNat + sumW l = s + sumW l
  rw [h1, h2]
  omega
end Go.Fw.Wd
