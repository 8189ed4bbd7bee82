/-
  What an error's inner end, turned, leaves as it was, and what it tells; without the program. Conditions: stated at each.
-/
import Derived.Test.YtigiopahmiaedaaDoorWdTurn3
set_option linter.unusedVariables false
set_option linter.unusedSimpArgs false
namespace Go.Fw.Wd
open Go.Proofs Code_

theorem over_sum (l : List UInt8) (a : Nat) (p : List UInt8) (ha : a % 2 = 0) (hp : p.length % 2 = 0) (h : a + p.length ≤ l.length) : sumW (over l a p) + sumW ((l.drop a).take p.length) = sumW l + sumW p := by
  have h1 : (l.take a).length = a := by rw [List.length_take]; omega
  have h2 : ((l.drop a).take p.length).length = p.length := by rw [List.length_take, List.length_drop]; omega
  have e : l = l.take a ++ ((l.drop a).take p.length ++ l.drop (a + p.length)) := by
    rw [← List.drop_drop, List.take_append_drop, List.take_append_drop]
  have e2 : sumW l = sumW (l.take a) + (sumW ((l.drop a).take p.length) + sumW (l.drop (a + p.length))) := by
    conv => lhs; rw [e]
    rw [sumW_append _ _ (by rw [h1]; exact ha), sumW_append _ _ (by rw [h2]; exact hp)]
  have e3 : sumW (over l a p) = sumW (l.take a) + (sumW p + sumW (l.drop (a + p.length))) := by
    unfold over
    rw [List.append_assoc, sumW_append _ _ (by rw [h1]; exact ha), sumW_append _ _ hp]
  omega
theorem nth_opt (l : List UInt8) (i : Nat) : nth l i = (l[i]?).getD default := by
  unfold nth
  rw [List.getD_eq_getElem?_getD]
theorem nth_over (l : List UInt8) (a : Nat) (p : List UInt8) (i : Nat) (h : a + p.length ≤ l.length) : nth (over l a p) i = if a ≤ i ∧ i < a + p.length then nth p (i - a) else nth l i := by
  have h1 : (l.take a).length = a := by rw [List.length_take]; omega
  rw [nth_opt, nth_opt, nth_opt]
  unfold over
  rw [List.append_assoc]
  split
  · rename_i hi
    rw [List.getElem?_append_right (by omega), h1, List.getElem?_append_left (by omega)]
  · rename_i hi
    rcases Nat.lt_or_ge i a with h2 | h2
    · rw [List.getElem?_append_left (by omega), List.getElem?_take, if_pos h2]
    · rw [List.getElem?_append_right (by omega), h1, List.getElem?_append_right (by omega), List.getElem?_drop]
      congr 2
      omega
theorem nth_sumAt (was now b : List UInt8) (s i : Nat) (h : i < s ∨ s + 2 ≤ i) : nth (sumAt was now b s) i = nth b i := by
  unfold sumAt
  split
  · rw [nth_over _ _ _ _ (by rw [encb_length]; assumption), if_neg (by rw [encb_length]; omega)]
  · rfl
theorem nth_fold (was now : List UInt8) (i : Nat) : ∀ (ss : List Nat) (b : List UInt8), (∀ s ∈ ss, i < s ∨ s + 2 ≤ i) → nth (ss.foldl (sumAt was now) b) i = nth b i
  | [], b, _ => rfl
  | s :: ss, b, h => by
    rw [List.foldl_cons, nth_fold was now i ss _ (fun x hx => h x (List.mem_cons_of_mem _ hx)), nth_sumAt _ _ _ _ _ (h s List.mem_cons_self)]
theorem nth_atB (b : List UInt8) (pl : Nat) (now : List UInt8) (ss : List Nat) (i : Nat) (hpl : pl + now.length ≤ b.length) (h : ∀ s ∈ ss, i < s ∨ s + 2 ≤ i) :
    nth (atB b pl now ss) i = if pl ≤ i ∧ i < pl + now.length then nth now (i - pl) else nth b i := by
  unfold atB
  rw [nth_fold _ _ _ _ _ h, nth_over _ _ _ _ hpl]
/-- The sums that hang on the ends stand behind the ends. -/
theorem ts_far (pr : Nat) (b : List UInt8) : ∀ s ∈ tsums pr b, 26 ≤ s := by
  intro x hx
  unfold tsums at hx
  split at hx
  · simp at hx; omega
  · split at hx
    · split at hx
      · simp at hx
      · simp at hx; omega
    · simp at hx
theorem nth_in1 (ia : Nat) (s : List Nat) (b : List UInt8) (ip : UInt32) (i : Nat) (h : ia + 4 ≤ b.length) (hs : ∀ x ∈ s, 26 ≤ x) (hi : i < 26) (hi2 : i < 10 ∨ 12 ≤ i) :
    nth (inB1 ia s b ip) i = if ia ≤ i ∧ i < ia + 4 then nth (encb 4 ip.toNat) (i - ia) else nth b i := by
  unfold inB1
  rw [nth_atB _ _ _ _ _ (by rw [encb_length]; exact h) (fun x hx => ?_), encb_length]
  rcases List.mem_cons.1 hx with h1 | h1
  · omega
  · have := hs x h1; omega
theorem nth_in2 (pa : Nat) (kd : UInt8) (e : En) (s : List Nat) (b : List UInt8) (pt : Nat) (i : Nat) (h : pa + 2 ≤ b.length) (h28 : 28 ≤ b.length) (hs : ∀ x ∈ s, 26 ≤ x) (hi : i < 26) (hi2 : i < 22 ∨ 24 ≤ i ∨ ¬ e.pr.toNat = 1) :
    nth (inB2 pa kd e s b pt) i = if e.pr.toNat = 1 then (if e.kd.toNat = kd.toNat ∧ 24 ≤ i then nth (encb 2 pt) (i - 24) else nth b i) else if pa ≤ i ∧ i < pa + 2 then nth (encb 2 pt) (i - pa) else nth b i := by
  unfold inB2
  by_cases h1 : e.pr.toNat = 1
  · rw [if_pos h1, if_pos h1]
    by_cases h2 : e.kd.toNat = kd.toNat
    · rw [if_pos h2, nth_atB _ _ _ _ _ (by rw [encb_length]; omega) (fun x hx => by simp at hx; omega), encb_length]
      by_cases h3 : 24 ≤ i
      · rw [if_pos ⟨h3, by omega⟩, if_pos ⟨h2, h3⟩]
      · rw [if_neg (by omega), if_neg (by omega)]
    · rw [if_neg h2, if_neg (fun h => h2 h.1)]
  · rw [if_neg h1, if_neg h1, nth_atB _ _ _ _ _ (by rw [encb_length]; exact h) (fun x hx => by have := hs x hx; omega), encb_length]
theorem nth_in3 (e : En) (s : List Nat) (b : List UInt8) (i : Nat) (h28 : 28 ≤ b.length) (hi : i < 26) : nth (inB3 e s b) i = nth b i := by
  unfold inB3
  split
  · rw [nth_over _ _ _ _ (by show 26 + 2 ≤ _; exact h28), if_neg (by omega)]
  · rfl
/-- Each of the first 26 bytes but the sums. -/
theorem nth_in (ia pa : Nat) (kd : UInt8) (e : En) (b : List UInt8) (ip : UInt32) (pt : Nat) (hi : ia + 4 ≤ 20) (hp : pa + 2 ≤ 24) (hp20 : 20 ≤ pa) (h28 : 28 ≤ b.length) (i : Nat) (h1 : i < 26) (h2 : i < 10 ∨ 12 ≤ i) (h3 : i < 22 ∨ 24 ≤ i ∨ ¬ e.pr.toNat = 1) :
    nth (inB ia pa kd e b ip pt) i = if ia ≤ i ∧ i < ia + 4 then nth (encb 4 ip.toNat) (i - ia) else if e.pr.toNat = 1 then (if e.kd.toNat = kd.toNat ∧ 24 ≤ i then nth (encb 2 pt) (i - 24) else nth b i) else if pa ≤ i ∧ i < pa + 2 then nth (encb 2 pt) (i - pa) else nth b i := by
  have hs := ts_far e.pr.toNat b
  have l1 := inB1_len ia (tsums e.pr.toNat b) b ip (by omega)
  have l2 := inB2_len pa kd e (tsums e.pr.toNat b) (inB1 ia (tsums e.pr.toNat b) b ip) pt (by omega) (by omega)
  unfold inB
  rw [nth_in3 _ _ _ _ (by omega) h1, nth_in2 _ _ _ _ _ _ _ (by omega) (by omega) hs h1 h3, nth_in1 _ _ _ _ _ (by omega) hs h1 h2]
  by_cases c : ia ≤ i ∧ i < ia + 4
  · simp only [c, and_self, if_true]
    rw [if_neg (show ¬ (e.kd.toNat = kd.toNat ∧ 24 ≤ i) by omega), if_neg (show ¬ (pa ≤ i ∧ i < pa + 2) by omega)]
    simp
  · simp only [if_neg c]
theorem n2_ext {b c : List UInt8} {i j : Nat} (hb : i + 2 ≤ b.length) (hc : j + 2 ≤ c.length) (h0 : nth b i = nth c j) (h1 : nth b (i + 1) = nth c (j + 1)) : n2 b i = n2 c j := by
  rw [n2_nth b i hb, n2_nth c j hc, h0, h1]
theorem n4_ext {b c : List UInt8} {i j : Nat} (hb : i + 4 ≤ b.length) (hc : j + 4 ≤ c.length) (h0 : nth b i = nth c j) (h1 : nth b (i + 1) = nth c (j + 1)) (h2 : nth b (i + 2) = nth c (j + 2)) (h3 : nth b (i + 3) = nth c (j + 3)) : n4 b i = n4 c j := by
  rw [n4_nth b i hb, n4_nth c j hc, h0, h1, h2, h3]
theorem n2_encb (v : Nat) (h : v < 65536) : n2 (encb 2 v) 0 = v := by
  have := n2_enc v h []
  rwa [List.append_nil] at this
theorem n4_encb (v : Nat) (h : v < 4294967296) : n4 (encb 4 v) 0 = v := by
  have := n4_enc v h []
  rwa [List.append_nil] at this
/-- What is told of what is embedded hangs on the first bytes. -/
theorem pkE_ext {b c : List UInt8} (hl : c.length = b.length) (h : ∀ i, i < 10 → nth c i = nth b i) : pkE false c = pkE false b := by
  by_cases h20 : b.length < 20
  · unfold pkE shpE
    rw [if_pos (show c.length < 20 by omega), if_pos h20]
    simp
  have h0 := h 0 (by omega)
  have e2 : n2 c 2 = n2 b 2 := n2_ext (by omega) (by omega) (h 2 (by omega)) (h 3 (by omega))
  have e6 : n2 c 6 = n2 b 6 := n2_ext (by omega) (by omega) (h 6 (by omega)) (h 7 (by omega))
  have eh : hdL c = hdL b := by unfold hdL; rw [h0]
  have en : need false c = need false b := by unfold need; rw [eh, e2]
  have es : shpE false c = shpE false b := by unfold shpE; rw [hl, h0, eh, en, e2]
  have er : redE c = redE b := by unfold redE fragB; rw [eh, e6]
  unfold pkE
  rw [es, er]
  simp
theorem take_over (l : List UInt8) (a : Nat) (p : List UInt8) (n : Nat) (h : a + p.length ≤ n) (hl : a ≤ l.length) : (over l a p).take n = over (l.take n) a p := by
  unfold over
  rw [List.take_append, List.take_append, List.take_take, List.take_take, Nat.min_eq_right (show a ≤ n by omega), Nat.min_eq_left (show a ≤ n by omega), List.drop_take, List.length_append, List.length_take, Nat.min_eq_left hl]
  rw [List.take_of_length_le (l := p) (by omega)]
/-- The embedded head's sum stays right. -/
theorem head_right (ia pa : Nat) (kd : UInt8) (e : En) (b : List UInt8) (ip : UInt32) (pt : Nat) (hi : ia + 4 ≤ 20) (hi12 : 12 ≤ ia) (hev : ia % 2 = 0) (hp : pa + 2 ≤ 24) (hp20 : 20 ≤ pa) (h28 : 28 ≤ b.length) (h4 : (nth b 0).toNat / 16 = 4)
    (h : foldN (sumW (b.take 20)) = 65535) : foldN (sumW ((inB ia pa kd e b ip pt).take 20)) = 65535 := by
  have hs := ts_far e.pr.toNat b
  have l1 := inB1_len ia (tsums e.pr.toNat b) b ip (by omega)
  have l2 := inB2_len pa kd e (tsums e.pr.toNat b) (inB1 ia (tsums e.pr.toNat b) b ip) pt (by omega) (by omega)
  have lA := inB_len ia pa kd e b ip pt (by omega) (by omega) h28
  obtain ⟨now, hnow⟩ : ∃ x, x = encb 4 ip.toNat := ⟨_, rfl⟩
  obtain ⟨was, hwas⟩ : ∃ x, x = (b.drop ia).take 4 := ⟨_, rfl⟩
  have ln : now.length = 4 := by rw [hnow, encb_length]
  have lw : was.length = 4 := by rw [hwas, List.length_take, List.length_drop]; omega
  obtain ⟨c, hc⟩ : ∃ x, x = over b ia now := ⟨_, rfl⟩
  have lc : c.length = b.length := by rw [hc]; exact over_len _ _ _ (by omega)
  have hn10 : n2 c 10 = n2 b 10 := by
    apply n2_ext (by omega) (by omega)
    · rw [hc, nth_over _ _ _ _ (by omega), if_neg (by omega)]
    · rw [hc, nth_over _ _ _ _ (by omega), if_neg (by omega)]
  obtain ⟨v, hv⟩ : ∃ v, v = patN (n2 b 10) was now := ⟨_, rfl⟩
  have hlt := n2_lt b 10
  have hvl : v < 65536 := by rw [hv]; exact patN_lt hlt was now
  obtain ⟨i1, _⟩ := patN_inv (w := was) (n := now) hlt (by omega) (by omega)
  rw [← hv] at i1
  have eT : (inB ia pa kd e b ip pt).take 20 = over (over (b.take 20) ia now) 10 (encb 2 v) := by
    rw [← take_over b ia now 20 (by omega) (by omega), ← hc, ← take_over c 10 (encb 2 v) 20 (by rw [encb_length]; omega) (by omega)]
    apply List.ext_getElem
    · rw [List.length_take, List.length_take, lA, over_len _ _ _ (by rw [encb_length]; omega), lc]
    · intro i h1 h2
      rw [List.length_take, lA] at h1
      rw [List.getElem_take, List.getElem_take, ← nth_get _ _ (by omega), ← nth_get]
      unfold inB
      rw [nth_in3 _ _ _ _ (by omega) (by omega), nth_in2 _ _ _ _ _ _ _ (by omega) (by omega) hs (by omega) (by omega)]
      rw [if_neg (show ¬ (e.kd.toNat = kd.toNat ∧ 24 ≤ i) by omega), if_neg (show ¬ (pa ≤ i ∧ i < pa + 2) by omega)]
      simp only [ite_self]
      unfold inB1 atB
      rw [List.foldl_cons, nth_fold _ _ _ _ _ (fun s hx => by have := hs s hx; omega), ← hnow, ← hc]
      rw [show now.length = 4 from ln, ← hwas]
      unfold sumAt
      rw [if_pos (by omega), hn10, ← hv]
  rw [eT]
  have lh : (b.take 20).length = 20 := by rw [List.length_take]; omega
  have s1 := over_sum (b.take 20) ia now hev (by omega) (by omega)
  have lo := over_len (b.take 20) ia now (by omega)
  have s2 := over_sum (over (b.take 20) ia now) 10 (encb 2 v) (by omega) (by rw [encb_length]) (by rw [encb_length]; omega)
  rw [show ((b.take 20).drop ia).take now.length = was by rw [hwas, List.drop_take, List.take_take, ln, Nat.min_eq_left (by omega)]] at s1
  have s3 : sumW (((over (b.take 20) ia now).drop 10).take (encb 2 v).length) = n2 b 10 := by
    rw [← take_over b ia now 20 (by omega) (by omega), ← hc, encb_length, ← hn10, List.drop_take, List.take_take, Nat.min_eq_left (by omega)]
    rw [drop_nth c 10 (by omega), drop_nth c (10 + 1) (by omega), n2_nth c 10 (by omega)]
    simp [sumW]
  have s4 : sumW (encb 2 v) = v := by
    have := sumW_enc2 v hvl []
    rw [List.append_nil] at this
    simpa [sumW] using this
  rw [s3, s4] at s2
  have hpos : 0 < sumW (over (over (b.take 20) ia now) 10 (encb 2 v)) := by
    have hb0 : nth (over (over (b.take 20) ia now) 10 (encb 2 v)) 0 = nth b 0 := by
      rw [nth_over _ _ _ _ (by rw [encb_length]; omega), if_neg (by omega), nth_over _ _ _ _ (by omega), if_neg (by omega), nth_get _ _ (by omega), List.getElem_take, nth_get _ _ (by omega)]
    rcases Nat.eq_zero_or_pos (sumW (over (over (b.take 20) ia now) 10 (encb 2 v))) with h0 | h0
    · have hz := sumW_zero _ h0 (nth b 0) (by
        rw [← hb0, nth_get _ _ (by rw [over_len _ _ _ (by rw [encb_length]; omega)]; omega)]
        exact List.getElem_mem _)
      rw [hz] at h4
      simp at h4
    · exact h0
  generalize sumW (over (over (b.take 20) ia now) 10 (encb 2 v)) = S2 at *
  generalize sumW (over (b.take 20) ia now) = S1 at *
  generalize sumW (b.take 20) = S at *
  unfold foldN at h ⊢
  have hS : ¬ S = 0 := fun h0 => by rw [if_pos h0] at h; omega
  rw [if_neg hS] at h
  rw [if_neg (by omega)]
  omega
end Go.Fw.Wd
