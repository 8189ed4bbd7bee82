/-
  Packets: their heads and bytes. Conditions: stated at each.
-/
import Derived.Test.YtigiopahmiaedaaGreatDoorWdInet2
set_option linter.unusedVariables false
set_option linter.unusedSimpArgs false
namespace Go.Fw.Wd
open Go.Proofs Code_

def flagN (k : Bool) : Nat := if k = true then 16384 else 0
theorem flagN_lt (k : Bool) : flagN k < 65536 := by unfold flagN; split <;> omega
/-- A head ahead of its sum, and behind it. -/
def hdA (p : Pk) (n : Nat) : List UInt8 := [69, p.tos] ++ (encb 2 (20 + n) ++ (encb 2 p.id.toNat ++ (encb 2 (flagN p.kp) ++ [p.ttl, p.proto])))
def hdZ (p : Pk) : List UInt8 := encb 4 p.fr.toNat ++ encb 4 p.to.toNat
theorem hdA_len (p : Pk) (n : Nat) : (hdA p n).length = 10 := by simp only [hdA, List.length_append, encb_length]; rfl
theorem hdZ_len (p : Pk) : (hdZ p).length = 8 := by simp only [hdZ, List.length_append, encb_length]
def hdS (p : Pk) (n : Nat) : Nat := 65535 - foldN (sumW (hdA p n) + sumW (hdZ p))
theorem hdS_lt (p : Pk) (n : Nat) : hdS p n < 65536 := by unfold hdS; omega
/-- A packet's head, with so many bytes behind it. -/
def hdB (p : Pk) (n : Nat) : List UInt8 := hdA p n ++ (encb 2 (hdS p n) ++ hdZ p)
theorem hdB_len (p : Pk) (n : Nat) : (hdB p n).length = 20 := by simp only [hdB, List.length_append, encb_length, hdA_len, hdZ_len]
theorem hdB_sum (p : Pk) (n : Nat) : foldN (sumW (hdB p n)) = 65535 := by
  have l10 : (hdA p n).length % 2 = 0 := by rw [hdA_len]
  have hlt := hdS_lt p n
  unfold hdB
  rw [sumW_append _ _ l10, sumW_enc2 _ hlt]
  unfold hdS
  generalize sumW (hdA p n) = a
  generalize sumW (hdZ p) = b
  have h2 : a + (65535 - foldN (a + b) + b) = (a + b) + (65535 - foldN (a + b)) := by omega
  rw [h2]
  generalize a + b = m at *
  unfold foldN
  split <;> split <;> omega

theorem s57 (p : Pk) (hb : p.body.length ≤ 65515) : pcall E 57 [.agg (pkC p)] = some (kone (E.keep 57) 5 (hdB p p.body.length)) := by
  rw [pcall_go (fn := I57) rfl rfl rfl]
  have h1 : ¬ (65535 : Int) < 20 + (p.body.length : Int) := by omega
  have w0 : IntKind.i64.wrap (20 + (p.body.length : Int)) = 20 + (p.body.length : Int) := w64 (by omega) (by omega)
  have w1 : IntKind.u64.wrap (20 + (p.body.length : Int)) = 20 + (p.body.length : Int) := wu64 (by omega) (by omega)
  have hid := p.id.toNat_lt
  have hfr := p.fr.toNat_lt
  have hto := p.to.toNat_lt
  have w2 : IntKind.u64.wrap (p.id.toNat : Int) = (p.id.toNat : Int) := wu64 (by omega) (by omega)
  have w3 : IntKind.u64.wrap (p.fr.toNat : Int) = (p.fr.toNat : Int) := wu64 (by omega) (by omega)
  have w4 : IntKind.u64.wrap (p.to.toNat : Int) = (p.to.toNat : Int) := wu64 (by omega) (by omega)
  have q1 := row3 (20 + p.body.length) p.id.toNat (flagN p.kp) 2 (by omega) (by omega) (by omega) (by omega) (flagN_lt p.kp)
  have q2 := row2 p.fr.toNat p.to.toNat 4 (by omega) (by omega) (by omega) (by omega) (by omega)
  have hl := hdB_len p p.body.length
  obtain ⟨x1, e1⟩ : ∃ x, x = encb 2 (20 + p.body.length) ++ encb 2 p.id.toNat ++ encb 2 (flagN p.kp) := ⟨_, rfl⟩
  have l1 : x1.length = 6 := by rw [e1]; simp only [List.length_append, encb_length]
  rw [← e1, l1] at q1
  have l2 := hdZ_len p
  rw [show encb 4 p.fr.toNat ++ encb 4 p.to.toNat = hdZ p from rfl, l2] at q2
  obtain ⟨b, eb⟩ : ∃ b, b = hdA p p.body.length ++ (encb 2 0 ++ hdZ p) := ⟨_, rfl⟩
  have lb : b.length = 20 := by rw [eb]; simp only [List.length_append, encb_length, hdA_len, hdZ_len]
  have e00 : encb 2 0 = [0, 0] := by rw [two_eq]; rfl
  have k1 : ∀ g g1 g2 g3 g4, pcall E 56 [.rs g 1 [.rs g1 1 [.int .u8 69, .int .u8 (p.tos.toNat : Int)], .rs g2 1 (x1.map by8), .rs g3 1 [.int .u8 (p.ttl.toNat : Int), .int .u8 (p.proto.toNat : Int), .int .u8 0, .int .u8 0], .rs g4 1 ((hdZ p).map by8)]] = some (kone (E.keep 56) 5 b) := fun g g1 g2 g3 g4 => by
    have e : b = cat [(g1, [69, p.tos]), (g2, x1), (g3, [p.ttl, p.proto, 0, 0]), (g4, hdZ p)] := by
      rw [eb, e1, e00]
      simp only [cat, List.flatMap_cons, List.flatMap_nil, List.append_nil, hdA, List.append_assoc, List.cons_append, List.nil_append]
    have := s56 g [(g1, [69, p.tos]), (g2, x1), (g3, [p.ttl, p.proto, 0, 0]), (g4, hdZ p)] (by simp) (by rw [← e, lb]; omega)
    rw [← e] at this
    exact this
  have hS : hdS p p.body.length = 65535 - foldN (sumW b) := by
    rw [eb, sumW_append _ _ (by rw [hdA_len]), sumW_enc2 0 (by omega), Nat.zero_add]
    rfl
  have ecat : ∀ g, cat [(g, b)] = b := fun g => by simp [cat]
  have q4 := fun g g1 => s49 g1 [(g, b)] (by simp) (by rw [ecat]; omega)
  simp only [ecat, ← hS] at q4
  simp only [List.map_cons, List.map_nil, encP_eq] at q4
  have hov : over b 10 (encb 2 (hdS p p.body.length)) = hdB p p.body.length := by
    have h := over_mid (hdA p p.body.length) (encb 2 0) (hdZ p) (encb 2 (hdS p p.body.length)) (by rw [encb_length, encb_length])
    rw [hdA_len] at h
    rw [eb, h]
    rfl
  have hlt := hdS_lt p p.body.length
  have q5 := fun g => lay2 g b (by omega) 10 (hdS p p.body.length) (by omega) hlt
  rw [hov] at q5
  have w5 : IntKind.u64.wrap ((hdS p p.body.length : Nat) : Int) = ((hdS p p.body.length : Nat) : Int) := wu64 (by omega) (by omega)
  generalize hdB p p.body.length = raw at *
  generalize hdS p p.body.length = s at *
  generalize hdZ p = z at *
  clear eb hov e1 hS
  simp only [Int.cast_ofNat_Int, Int.natCast_add] at q1 q2 q5
  simp only [pkC_eq]
  have hfl : ((flagN p.kp : Nat) : Int) = if p.kp = true then 16384 else 0 := by unfold flagN; split <;> rfl
  rw [hfl] at q1
  cases hkp : p.kp <;> simp only [hkp, if_true, Bool.false_eq_true, if_false] at q1 <;>
  cases hk : E.keep 57 <;> cases hkl : E.keep 51 <;> cases hkc : E.keep 56 <;> simp only [hkl, hkc, kone_t, kone_f, kres_t, kres_f] at q5 k1 <;>
  first
  | (simp (disch := first | omega | (simp only [List.length_cons, List.length_nil, List.length_append, List.length_map, List.length_set]; omega) | rfl | (simp only [List.length_cons, List.length_nil, List.length_append, List.length_map, List.length_set, List.length_replicate, List.all_cons, List.all_nil, List.all_append, storable, plainB, Bool.and_self]; done)) only [go_sem, reduceCtorEq, ↓reduceIte, reduceDIte, evI_callP, callPK_some, I57, hk, h1, w0, w1, w2, w3, w4, w5, q1, q2, q4, q5, k1, l1, l2, lb, hl, kone_t, kone_f]; done)
  | (exfalso; revert hk hkl hkc; decide)
theorem s6 (p : Pk) (hl : p.body.length ≤ 1048576) : pcall E 6 [.agg (pkC p)] = some (.agg (pkC p), []) := by
  rw [pcall_go (fn := I6) rfl rfl rfl]
  have hk : E.keep 6 = false := rfl
  have q1 := fun g => s25 g p.body (by omega)
  simp only [pkC_eq]
  simp (disch := first | omega | (simp only [List.length_cons, List.length_nil, List.length_append, List.length_map, List.length_set]; omega) | rfl | (simp only [List.length_cons, List.length_nil, List.length_append, List.length_map, List.length_set, List.length_replicate, List.all_cons, List.all_nil, List.all_append, storable, plainB, Bool.and_self]; done)) only [go_sem, reduceCtorEq, ↓reduceIte, reduceDIte, evI_callP, callPK_some, I6, hk, q1]
theorem nu8e (a b : UInt8) : decide (((a.toNat : Nat) : Int) = (b.toNat : Int)) = decide (a = b) := decide_eq_decide.2 (by rw [← UInt8.toNat_inj]; omega)
theorem nu16e (a b : UInt16) : decide (((a.toNat : Nat) : Int) = (b.toNat : Int)) = decide (a = b) := decide_eq_decide.2 (by rw [← UInt16.toNat_inj]; omega)
theorem nu32e (a b : UInt32) : decide (((a.toNat : Nat) : Int) = (b.toNat : Int)) = decide (a = b) := decide_eq_decide.2 (by rw [← UInt32.toNat_inj]; omega)
theorem nboole (a b : Bool) : (a == b) = decide (a = b) := by cases a <;> cases b <;> rfl
theorem Pk.eq_iff (p o : Pk) : decide (p = o) = (decide (p.tos = o.tos) && (decide (p.id = o.id) && (decide (p.kp = o.kp) && (decide (p.ttl = o.ttl) && (decide (p.proto = o.proto) && (decide (p.fr = o.fr) && (decide (p.to = o.to) && decide (p.body = o.body)))))))) := by
  obtain ⟨a1, a2, a3, a4, a5, a6, a7, a8⟩ := p
  obtain ⟨b1, b2, b3, b4, b5, b6, b7, b8⟩ := o
  simp only [Pk.mk.injEq, Bool.decide_and]
theorem s15 (p o : Pk) : pcall E 15 [.agg (pkC p), .agg (pkC o)] = some (.bool (decide (p = o)), []) := by
  rw [pcall_go (fn := I15) rfl rfl rfl]
  have hk : E.keep 15 = false := rfl
  have ex : ∀ h n, toStrK h (some (p.body.map by8)) (some n) = some (.str ⟨⟨p.body⟩⟩, h) := fun h n => toStr_by8 h p.body n
  have ey : ∀ h n, toStrK h (some (o.body.map by8)) (some n) = some (.str ⟨⟨o.body⟩⟩, h) := fun h n => toStr_by8 h o.body n
  have e1 := nu8e p.tos o.tos
  have e2 := nu16e p.id o.id
  have e3 := nboole p.kp o.kp
  have e4 := nu8e p.ttl o.ttl
  have e5 := nu8e p.proto o.proto
  have e6 := nu32e p.fr o.fr
  have e7 := nu32e p.to o.to
  rw [Pk.eq_iff]
  simp only [pkC_eq]
  generalize decide (p.tos = o.tos) = c1 at *
  generalize decide (p.id = o.id) = c2 at *
  generalize decide (p.kp = o.kp) = c3 at *
  generalize decide (p.ttl = o.ttl) = c4 at *
  generalize decide (p.proto = o.proto) = c5 at *
  generalize decide (p.fr = o.fr) = c6 at *
  generalize decide (p.to = o.to) = c7 at *
  cases c1 <;> (try simp (disch := first | omega | (simp only [List.length_cons, List.length_nil, List.length_append, List.length_map, List.length_set]; omega) | rfl | (simp only [List.length_cons, List.length_nil, List.length_append, List.length_map, List.length_set, List.length_replicate, List.all_cons, List.all_nil, List.all_append, storable, plainB, Bool.and_self]; done)) only [go_sem, reduceCtorEq, ↓reduceIte, reduceDIte, evI_callP, callPK_some, I15, hk, e1, e2, e3, e4, e5, e6, e7, cells_by8, ex, ey, str_beq]; done) <;>
  cases c2 <;> (try simp (disch := first | omega | (simp only [List.length_cons, List.length_nil, List.length_append, List.length_map, List.length_set]; omega) | rfl | (simp only [List.length_cons, List.length_nil, List.length_append, List.length_map, List.length_set, List.length_replicate, List.all_cons, List.all_nil, List.all_append, storable, plainB, Bool.and_self]; done)) only [go_sem, reduceCtorEq, ↓reduceIte, reduceDIte, evI_callP, callPK_some, I15, hk, e1, e2, e3, e4, e5, e6, e7, cells_by8, ex, ey, str_beq]; done) <;>
  cases c3 <;> (try simp (disch := first | omega | (simp only [List.length_cons, List.length_nil, List.length_append, List.length_map, List.length_set]; omega) | rfl | (simp only [List.length_cons, List.length_nil, List.length_append, List.length_map, List.length_set, List.length_replicate, List.all_cons, List.all_nil, List.all_append, storable, plainB, Bool.and_self]; done)) only [go_sem, reduceCtorEq, ↓reduceIte, reduceDIte, evI_callP, callPK_some, I15, hk, e1, e2, e3, e4, e5, e6, e7, cells_by8, ex, ey, str_beq]; done) <;>
  cases c4 <;> (try simp (disch := first | omega | (simp only [List.length_cons, List.length_nil, List.length_append, List.length_map, List.length_set]; omega) | rfl | (simp only [List.length_cons, List.length_nil, List.length_append, List.length_map, List.length_set, List.length_replicate, List.all_cons, List.all_nil, List.all_append, storable, plainB, Bool.and_self]; done)) only [go_sem, reduceCtorEq, ↓reduceIte, reduceDIte, evI_callP, callPK_some, I15, hk, e1, e2, e3, e4, e5, e6, e7, cells_by8, ex, ey, str_beq]; done) <;>
  cases c5 <;> (try simp (disch := first | omega | (simp only [List.length_cons, List.length_nil, List.length_append, List.length_map, List.length_set]; omega) | rfl | (simp only [List.length_cons, List.length_nil, List.length_append, List.length_map, List.length_set, List.length_replicate, List.all_cons, List.all_nil, List.all_append, storable, plainB, Bool.and_self]; done)) only [go_sem, reduceCtorEq, ↓reduceIte, reduceDIte, evI_callP, callPK_some, I15, hk, e1, e2, e3, e4, e5, e6, e7, cells_by8, ex, ey, str_beq]; done) <;>
  cases c6 <;> (try simp (disch := first | omega | (simp only [List.length_cons, List.length_nil, List.length_append, List.length_map, List.length_set]; omega) | rfl | (simp only [List.length_cons, List.length_nil, List.length_append, List.length_map, List.length_set, List.length_replicate, List.all_cons, List.all_nil, List.all_append, storable, plainB, Bool.and_self]; done)) only [go_sem, reduceCtorEq, ↓reduceIte, reduceDIte, evI_callP, callPK_some, I15, hk, e1, e2, e3, e4, e5, e6, e7, cells_by8, ex, ey, str_beq]; done) <;>
  cases c7 <;> simp (disch := first | omega | (simp only [List.length_cons, List.length_nil, List.length_append, List.length_map, List.length_set]; omega) | rfl | (simp only [List.length_cons, List.length_nil, List.length_append, List.length_map, List.length_set, List.length_replicate, List.all_cons, List.all_nil, List.all_append, storable, plainB, Bool.and_self]; done)) only [go_sem, reduceCtorEq, ↓reduceIte, reduceDIte, evI_callP, callPK_some, I15, hk, e1, e2, e3, e4, e5, e6, e7, cells_by8, ex, ey, str_beq]
end Go.Fw.Wd
