/-
  What is written is parsed as it was; a packet with one byte of its head changed. Conditions: stated at each.
-/
import Derived.Test.YtigiopahmiaedaaDoorWdInet3
import Derived.Test.YtigiopahmiaedaaDoorWdTspoilt
set_option linter.unusedVariables false
set_option linter.unusedSimpArgs false
namespace Go.Fw.Wd
open Go.Proofs Code_

theorem nth_left (a b : List UInt8) (i : Nat) (h : i < a.length) : nth (a ++ b) i = nth a i := by
  rw [nth_get _ _ (by rw [List.length_append]; omega), nth_get _ _ h, List.getElem_append_left h]
theorem nth_right (a b : List UInt8) (i : Nat) (h : i < b.length) : nth (a ++ b) (a.length + i) = nth b i := by
  rw [nth_get _ _ (by rw [List.length_append]; omega), nth_get _ _ h, List.getElem_append_right (by omega)]
  simp
/-- A packet without its body. -/
def Pk.with (p : Pk) (t : List UInt8) : Pk := ⟨p.tos, p.id, p.kp, p.ttl, p.proto, p.fr, p.to, t⟩
theorem Pk.with_self (p : Pk) : p.with p.body = p := rfl
theorem flagN_ne (k : Bool) : decide (¬ flagN k = 0) = k := by cases k <;> rfl
theorem flagN_frag (k : Bool) : (!(decide (flagN k = 0) || decide (flagN k = 16384))) = false := by cases k <;> rfl
theorem hdB_eq (p : Pk) (n : Nat) (t : List UInt8) : hdB p n ++ t = [69, p.tos] ++ (encb 2 (20 + n) ++ (encb 2 p.id.toNat ++ (encb 2 (flagN p.kp) ++ ([p.ttl, p.proto] ++ (encb 2 (hdS p n) ++ (encb 4 p.fr.toNat ++ (encb 4 p.to.toNat ++ t))))))) := by
  unfold hdB hdA hdZ
  simp only [List.append_assoc]
theorem hd_parts (p : Pk) (n : Nat) (hn : n ≤ 65515) (t : List UInt8) :
    nth (hdB p n ++ t) 0 = 69 ∧ nth (hdB p n ++ t) 1 = p.tos ∧ n2 (hdB p n ++ t) 2 = 20 + n ∧ n2 (hdB p n ++ t) 4 = p.id.toNat ∧ n2 (hdB p n ++ t) 6 = flagN p.kp ∧ nth (hdB p n ++ t) 8 = p.ttl ∧ nth (hdB p n ++ t) 9 = p.proto ∧ n4 (hdB p n ++ t) 12 = p.fr.toNat ∧ n4 (hdB p n ++ t) 16 = p.to.toNat := by
  have l2 : ∀ v, (encb 2 v).length = 2 := fun v => encb_length 2 v
  have l4 : ∀ v, (encb 4 v).length = 4 := fun v => encb_length 4 v
  have a2 : ∀ (x r : List UInt8) (i : Nat), x.length = 2 → n2 (x ++ r) (i + 2) = n2 r i := fun x r i hx => by rw [n2_right _ _ _ (by omega), hx, Nat.add_sub_cancel]
  have b2 : ∀ (x r : List UInt8) (i : Nat), x.length = 2 → n4 (x ++ r) (i + 2) = n4 r i := fun x r i hx => by rw [n4_right _ _ _ (by omega), hx, Nat.add_sub_cancel]
  have b4 : ∀ (x r : List UInt8) (i : Nat), x.length = 4 → n4 (x ++ r) (i + 4) = n4 r i := fun x r i hx => by rw [n4_right _ _ _ (by omega), hx, Nat.add_sub_cancel]
  have c2 : ∀ (x r : List UInt8) (i : Nat), x.length = 2 → nth (x ++ r) (i + 2) = nth r i := fun x r i hx => by
    unfold nth
    rw [List.getD_eq_getElem?_getD, List.getD_eq_getElem?_getD, List.getElem?_append_right (by omega), hx, Nat.add_sub_cancel]
  have hid := p.id.toNat_lt
  have hfr := p.fr.toNat_lt
  have hto := p.to.toNat_lt
  have hfl := flagN_lt p.kp
  rw [hdB_eq]
  refine ⟨rfl, rfl, ?_, ?_, ?_, ?_, ?_, ?_, ?_⟩
  · rw [show (2 : Nat) = 0 + 2 from rfl, a2 _ _ _ rfl]; exact n2_enc _ (by omega) _
  · rw [show (4 : Nat) = 0 + 2 + 2 from rfl, a2 _ _ _ rfl, a2 _ _ _ (l2 _)]; exact n2_enc _ (by omega) _
  · rw [show (6 : Nat) = 0 + 2 + 2 + 2 from rfl, a2 _ _ _ rfl, a2 _ _ _ (l2 _), a2 _ _ _ (l2 _)]; exact n2_enc _ hfl _
  · rw [show (8 : Nat) = 0 + 2 + 2 + 2 + 2 from rfl, c2 _ _ _ rfl, c2 _ _ _ (l2 _), c2 _ _ _ (l2 _), c2 _ _ _ (l2 _)]; rfl
  · rw [show (9 : Nat) = 1 + 2 + 2 + 2 + 2 from rfl, c2 _ _ _ rfl, c2 _ _ _ (l2 _), c2 _ _ _ (l2 _), c2 _ _ _ (l2 _)]; rfl
  · rw [show (12 : Nat) = 0 + 2 + 2 + 2 + 2 + 2 + 2 from rfl, b2 _ _ _ rfl, b2 _ _ _ (l2 _), b2 _ _ _ (l2 _), b2 _ _ _ (l2 _), b2 _ _ _ rfl, b2 _ _ _ (l2 _)]; exact n4_enc _ (by omega) _
  · rw [show (16 : Nat) = 0 + 4 + 2 + 2 + 2 + 2 + 2 + 2 from rfl, b2 _ _ _ rfl, b2 _ _ _ (l2 _), b2 _ _ _ (l2 _), b2 _ _ _ (l2 _), b2 _ _ _ rfl, b2 _ _ _ (l2 _), b4 _ _ _ (l4 _)]; exact n4_enc _ (by omega) _
/-- What Parse and Peek tell of a written head with any bytes behind it. -/
theorem hd_parse (p : Pk) (n : Nat) (hn : n ≤ 65515) (t : List UInt8) :
    (t.length < n → pkE true (hdB p n ++ t) = (1, 12)) ∧ (n ≤ t.length → pkE true (hdB p n ++ t) = (0, 0) ∧ pkOf true (hdB p n ++ t) = p.with (t.take n)) ∧
    pkE false (hdB p n ++ t) = (0, 0) ∧ pkOf false (hdB p n ++ t) = p.with (t.take n) := by
  obtain ⟨h0, h1, h2, h4, h6, h8, h9, h12, h16⟩ := hd_parts p n hn t
  have hl := hdB_len p n
  have hcl : (hdB p n ++ t).length = 20 + t.length := by rw [List.length_append, hl]
  have ht : (hdB p n ++ t).take 20 = hdB p n := List.take_left' hl
  have hs := hdB_sum p n
  have hd : hdL (hdB p n ++ t) = 20 := by unfold hdL; rw [h0]; rfl
  have hv : (nth (hdB p n ++ t) 0).toNat / 16 = 4 := by rw [h0]; rfl
  have hr : redE (hdB p n ++ t) = (0, 0) := by unfold redE fragB; rw [hd, h6, flagN_frag]; rfl
  have hrp : redP (hdB p n ++ t) = p.with (t.take n) := by
    unfold redP Pk.with
    rw [h1, h2, h4, h6, h8, h9, h12, h16, hcl, flagN_ne, UInt16.ofNat_toNat, UInt32.ofNat_toNat, UInt32.ofNat_toNat]
    congr 1
    have e : min (20 + n) (20 + t.length) = 20 + min n t.length := by omega
    rw [e, List.take_append, List.drop_append, hl]
    have e2 : List.drop 20 (List.take (20 + min n t.length) (hdB p n)) = [] := List.drop_eq_nil_of_le (by rw [List.length_take, hl]; omega)
    have e3 : 20 + min n t.length - 20 = min n t.length := by omega
    have e4 : 20 - (List.take (20 + min n t.length) (hdB p n)).length = 0 := by rw [List.length_take, hl]; omega
    rw [e2, e3, e4, List.drop_zero, List.nil_append, ← List.take_eq_take_min]
  generalize hdB p n ++ t = c at *
  have hsf : shpE false c = (0, 0) := by
    unfold shpE
    rw [show need false c = hdL c from rfl, if_neg (by omega), if_neg (by omega), hd, if_neg (by omega), if_neg (by omega), if_neg (by omega)]
  have hsum : foldN (sumW (c.take (hdL c))) = 65535 := by rw [hd, ht]; exact hs
  refine ⟨fun hlt => ?_, fun hle => ?_, ?_⟩
  · have : shpE true c = (1, 12) := by
      unfold shpE
      rw [show need true c = max (hdL c) (n2 c 2) from rfl, if_neg (by omega), if_neg (by omega), hd, if_neg (by omega), h2, if_pos (by omega)]
    unfold pkE
    rw [this]
    rfl
  · have hst : shpE true c = (0, 0) := by
      unfold shpE need
      rw [if_neg (by omega), if_neg (by omega), hd, if_neg (by omega), if_pos rfl, h2, if_neg (by omega), if_neg (by omega)]
    have he : pkE true c = (0, 0) := by
      unfold pkE
      rw [hst, if_neg (by simp), if_neg (by rintro ⟨_, h⟩; exact h hsum), hr]
    exact ⟨he, by unfold pkOf; rw [he, if_pos rfl, hrp]⟩
  · have he : pkE false c = (0, 0) := by
      unfold pkE
      rw [hsf, if_neg (by simp), if_neg (by simp), hr]
    exact ⟨he, by unfold pkOf; rw [he, if_pos rfl, hrp]⟩
/-- A packet with one byte of its head changed isn't parsed. -/
theorem hd_spoilt (p : Pk) (n : Nat) (t : List UInt8) (i : Nat) (hi : i < 20) (d : UInt8) (hd : ¬ d = 0) (c : List UInt8) (hc : c = (hdB p n ++ t).set i (UInt8.ofNat ((nth (hdB p n ++ t) i).toNat + d.toNat))) : ¬ (pkE true c).2 = 0 := by
  have hl := hdB_len p n
  intro h
  have hshp : (shpE true c).2 = 0 := by
    by_cases hs : (shpE true c).2 = 0
    · exact hs
    · unfold pkE at h; rw [if_pos hs] at h; exact absurd h hs
  obtain ⟨a1, a2, a3, a4, a5⟩ := shp_ok hshp
  have h2 : foldN (sumW (c.take (hdL c))) = 65535 ∧ (redE c).2 = 0 := by
    unfold pkE at h
    rw [if_neg (by simp [hshp])] at h
    by_cases hs : foldN (sumW (c.take (hdL c))) = 65535
    · rw [if_neg (by simp [hs])] at h; exact ⟨hs, h⟩
    · rw [if_pos ⟨rfl, hs⟩] at h; simp at h
  have h20 : hdL c = 20 := by
    have := h2.2
    unfold redE at this
    split at this
    · simp at this
    · omega
  rw [h20] at h2
  have ht : c.take 20 = (hdB p n).set i (UInt8.ofNat ((nth (hdB p n) i).toNat + d.toNat)) := by
    rw [hc, nth_left _ _ _ (by omega), List.set_append_left _ _ (by omega)]
    exact List.take_left' (by rw [List.length_set, hl])
  rw [ht] at h2
  exact own_other (hdB p n) i (by omega) d hd (hdB_sum p n) h2.1
/-- What is parsed whole is peeked the same. -/
theorem pk_peek (b : List UInt8) (h : (pkE true b).2 = 0) : (pkE false b).2 = 0 ∧ pkOf true b = pkOf false b ∧ (pkOf true b).body.length + 20 ≤ b.length := by
  have hshp : (shpE true b).2 = 0 := by
    by_cases hs : (shpE true b).2 = 0
    · exact hs
    · unfold pkE at h; rw [if_pos hs] at h; exact absurd h hs
  obtain ⟨a1, a2, a3, a4, a5⟩ := shp_ok hshp
  have h2 : (redE b).2 = 0 := by
    unfold pkE at h
    rw [if_neg (by simp [hshp])] at h
    by_cases hs : foldN (sumW (b.take (hdL b))) = 65535
    · rw [if_neg (by simp [hs])] at h; exact h
    · rw [if_pos ⟨rfl, hs⟩] at h; simp at h
  have a6 := need_le true b
  have hsf : shpE false b = (0, 0) := by
    unfold shpE
    have : need false b = hdL b := rfl
    rw [if_neg (by omega), if_neg (by omega), if_neg (by omega), this, if_neg (by omega), if_neg (by omega)]
  have he : pkE false b = redE b := by unfold pkE; rw [hsf, if_neg (by simp), if_neg (by simp)]
  refine ⟨by rw [he]; exact h2, ?_, ?_⟩
  · unfold pkOf
    rw [if_pos h, if_pos (by rw [he]; exact h2)]
  · unfold pkOf
    rw [if_pos h]
    show ((b.take (min (n2 b 2) b.length)).drop 20).length + 20 ≤ b.length
    rw [List.length_drop, List.length_take]
    omega
theorem pk_bad (b : List UInt8) (h : ¬ (pkE true b).2 = 0) : ¬ (pkE false b).2 = 0 ∨ (pkE true b).2 = 13 ∨ (pkE true b).2 = 12 := by
  by_cases hs : (shpE true b).2 = 0
  · obtain ⟨a1, a2, a3, a4, a5⟩ := shp_ok hs
    have a6 := need_le true b
    have hsf : shpE false b = (0, 0) := by
      unfold shpE
      have : need false b = hdL b := rfl
      rw [if_neg (by omega), if_neg (by omega), if_neg (by omega), this, if_neg (by omega), if_neg (by omega)]
    have he : pkE false b = redE b := by unfold pkE; rw [hsf, if_neg (by simp), if_neg (by simp)]
    by_cases hsum : foldN (sumW (b.take (hdL b))) = 65535
    · left
      have : pkE true b = redE b := by unfold pkE; rw [if_neg (by simp [hs]), if_neg (by simp [hsum])]
      rw [he, ← this]
      exact h
    · right; left
      unfold pkE
      rw [if_neg (by simp [hs]), if_pos ⟨rfl, hsum⟩]
  · have he : pkE true b = shpE true b := by unfold pkE; rw [if_pos hs]
    rw [he]
    by_cases hsf : (shpE false b).2 = 0
    · right; right
      obtain ⟨a1, a2, a3, a4, a5⟩ := shp_ok hsf
      unfold shpE at hs ⊢
      rw [if_neg (by omega), if_neg (by omega), if_neg (by omega)] at hs ⊢
      split
      · rfl
      · rename_i hn
        rw [if_neg hn, if_neg (by omega)] at hs
        exact absurd rfl hs
    · left
      have : pkE false b = shpE false b := by unfold pkE; rw [if_pos hsf]
      rw [this]
      exact hsf
end Go.Fw.Wd
