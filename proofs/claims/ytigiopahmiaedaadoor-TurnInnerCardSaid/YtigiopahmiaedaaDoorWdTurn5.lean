/-
  The law TurnInner at the evaluation. Conditions: none of the law.
-/
import Derived.Test.YtigiopahmiaedaaDoorWdTurn4
import Derived.Test.YtigiopahmiaedaaDoorWdArgs
set_option linter.unusedVariables false
set_option linter.unusedSimpArgs false
namespace Go.Fw.Wd
open Go.Proofs Code_

theorem icT_back (m : Mg) (hb : m.body.length ≤ 1472) : icE (icB m) = (0, 0) ∧ icM (icB m) = m := by
  have hl := icB_len m
  have hs := icB_sum m
  have e : icE (icB m) = (0, 0) := by
    unfold icE
    rw [if_neg (by omega), if_neg (by omega), if_neg (by rw [hs]; simp)]
  refine ⟨e, ?_⟩
  unfold icM
  rw [e]
  show icR (icB m) = m
  unfold icB
  rw [two_eq]
  cases m
  rfl
theorem nth_take (l : List UInt8) (n i : Nat) (h : i < n) : nth (l.take n) i = nth l i := by
  rw [nth_opt, nth_opt, List.getElem?_take, if_pos h]
theorem nth_drop (l : List UInt8) (n i : Nat) : nth (l.drop n) i = nth l (n + i) := by
  rw [nth_opt, nth_opt, List.getElem?_drop]
theorem red_nums (b : List UInt8) (h : 8 ≤ (redP b).body.length) : n2 (redP b).body 0 = n2 b 20 ∧ n2 (redP b).body 2 = n2 b 22 ∧ n2 (redP b).body 4 = n2 b 24 ∧ nth (redP b).body 0 = nth b 20 := by
  simp only [redP, List.length_drop, List.length_take] at h ⊢
  have h2 : 28 ≤ min (n2 b 2) b.length := by omega
  generalize min (n2 b 2) b.length = k at *
  refine ⟨?_, ?_, ?_, ?_⟩
  · rw [n2_drop, n2_take _ _ _ (by omega)]
  · rw [n2_drop, n2_take _ _ _ (by omega)]
  · rw [n2_drop, n2_take _ _ _ (by omega)]
  · rw [nth_drop, nth_take _ _ _ (by omega)]
/-- What is told of an error whose inner end is turned. -/
theorem tr_facts (ia pa : Nat) (kd : UInt8) (p : Pk) (ip : UInt32) (pt : Nat) (hpt : pt < 65536) (hi : ia + 4 ≤ 20) (hi12 : 12 ≤ ia) (hev : ia % 2 = 0) (hp : pa + 2 ≤ 24) (hp20 : 20 ≤ pa) (h : (trE p).2 = 0) :
    (trP ia pa kd p ip pt).fr = p.fr ∧ (trP ia pa kd p ip pt).to = p.to ∧ (trP ia pa kd p ip pt).body.length = p.body.length ∧ foldN (sumW (trP ia pa kd p ip pt).body) = 65535 ∧ (trE (trP ia pa kd p ip pt)).2 = 0 ∧
    tnN p = ieN (redP (p.body.drop 8)) ∧ tnN (trP ia pa kd p ip pt) = ieN (redP (inB ia pa kd (tnN p) (p.body.drop 8) ip pt)) ∧
    28 ≤ (p.body.drop 8).length ∧ p.body.length ≤ 1480 ∧ 8 ≤ (redP (p.body.drop 8)).body.length ∧ 8 ≤ (redP (inB ia pa kd (tnN p) (p.body.drop 8) ip pt)).body.length ∧
    (foldN (sumW ((p.body.drop 8).take 20)) = 65535 → foldN (sumW (((trP ia pa kd p ip pt).body.drop 8).take 20)) = 65535) ∧ (ieE (redP (p.body.drop 8))).2 = 0 := by
  have hx : trP ia pa kd p ip pt = p.bd (icB ((emM p).bd (inB ia pa kd (ieN (emP p)) (emM p).body ip pt))) := by unfold trP; rw [if_pos h]
  have h1 : (emE p).2 = 0 := by
    unfold trE at h
    split at h
    · assumption
    · rename_i h1; simpa using h1
  have h2 : (ieE (emP p)).2 = 0 := by unfold trE at h; rw [if_neg (by omega)] at h; exact h
  obtain ⟨f1, f2, f3, f4, f5, f6, f7⟩ := em_ok h1
  obtain ⟨e8, e9⟩ := red_len _ f7
  obtain ⟨c1, c2, c3⟩ := ic_ok f2
  have et : tnN p = ieN (emP p) := by unfold tnN; rw [if_pos h1]
  have eb : (emM p).body = p.body.drop 8 := by rw [f3]; rfl
  rw [← et, eb] at hx
  rw [f4] at et h2
  obtain ⟨b, hb⟩ : ∃ b, b = p.body.drop 8 := ⟨_, rfl⟩
  have lb : b.length = p.body.length - 8 := by rw [hb, List.length_drop]
  rw [← hb] at hx f5 f7 e8 e9 et h2 ⊢
  obtain ⟨i1, i2⟩ := ie_ok h2
  have hlen := inB_len ia pa kd (tnN p) b ip pt (by omega) (by omega) e8
  have hnth := nth_in ia pa kd (tnN p) b ip pt hi hp hp20 e8
  obtain ⟨b', hb'⟩ : ∃ b', b' = inB ia pa kd (tnN p) b ip pt := ⟨_, rfl⟩
  have hhead := head_right ia pa kd (tnN p) b ip pt hi hi12 hev hp hp20 e8
  rw [← hb'] at hx hlen hnth hhead ⊢
  have hlow : ∀ i, i < 10 → nth b' i = nth b i := fun i hi => by
    rw [hnth i (by omega) (by omega) (by omega), if_neg (by omega), if_neg (show ¬ ((tnN p).kd.toNat = kd.toNat ∧ 24 ≤ i) by omega), if_neg (show ¬ (pa ≤ i ∧ i < pa + 2) by omega)]
    simp
  have hpk : pkE false b' = pkE false b := pkE_ext hlen hlow
  have hn2 : n2 b' 2 = n2 b 2 := n2_ext (by omega) (by omega) (hlow 2 (by omega)) (hlow 3 (by omega))
  have hbl : (redP b').body.length = (redP b).body.length := by simp only [redP, List.length_drop, List.length_take]; rw [hn2, hlen]
  obtain ⟨m', hm'⟩ : ∃ m', m' = (emM p).bd b' := ⟨_, rfl⟩
  have mb : m'.body = b' := by rw [hm']; rfl
  have mt : m'.ty = nth p.body 0 := by rw [hm', f3]; rfl
  rw [← hm'] at hx
  obtain ⟨k1, k2⟩ := icT_back m' (by rw [mb]; omega)
  have hxb : (trP ia pa kd p ip pt).body = icB m' := by rw [hx]; rfl
  have hxp : (trP ia pa kd p ip pt).proto = p.proto := by rw [hx]; rfl
  have hI : inE m' = (0, 0) := by
    unfold inE
    rw [mt, if_neg (by omega), mb, hpk, if_neg (by omega)]
    rw [show pkOf false b' = redP b' by unfold pkOf; rw [hpk, if_pos f5], if_neg (by omega)]
  have hIP : inP m' = redP b' := by
    unfold inP
    rw [hI, if_pos rfl, mb]
    unfold pkOf
    rw [hpk, if_pos f5]
  have xE : emE (trP ia pa kd p ip pt) = (0, 0) := by
    unfold emE
    rw [hxp, if_neg (by omega), hxb, k1, if_neg (by simp), k2, hI]
  have xP : emP (trP ia pa kd p ip pt) = redP b' := by
    unfold emP
    rw [hxp, if_neg (by omega), hxb, k1, if_neg (by simp), k2, hIP]
  have xN : tnN (trP ia pa kd p ip pt) = ieN (redP b') := by unfold tnN; rw [xE, if_pos rfl, xP]
  have hpr : (redP b').proto = (redP b).proto := hlow 9 (by omega)
  obtain ⟨r0, r2, r4, rn⟩ := red_nums b f7
  obtain ⟨r0', r2', r4', rn'⟩ := red_nums b' (by omega)
  have xE2 : ieE (redP b') = ieE (redP b) := by
    unfold ieE
    rw [hpr]
    by_cases c1 : (redP b).proto.toNat = 6 ∨ (redP b).proto.toNat = 17
    · rw [if_pos c1, if_pos c1]
    · rw [if_neg c1, if_neg c1]
      by_cases c2 : (redP b).proto.toNat = 1
      · rw [if_pos c2, if_pos c2, rn, rn']
        have hpr1 : (tnN p).pr.toNat = 1 := by rw [et, i1]; exact c2
        rw [hnth 20 (by omega) (by omega) (by omega), if_neg (by omega), if_pos hpr1, if_neg (by omega)]
      · rw [if_neg c2, if_neg c2]
  refine ⟨by rw [hx]; rfl, by rw [hx]; rfl, by rw [hxb, icB_len, mb]; omega, by rw [hxb]; exact icB_sum m', ?_, et, xN, e8, c2, f7, by omega, fun hr => ?_, h2⟩
  · unfold trE
    rw [xE, if_neg (by simp), xP, xE2, h2]
  · have hd : (icB m').drop 8 = b' := by
      unfold icB
      rw [two_eq, mb]
      rfl
    rw [hxb, hd]
    refine hhead ?_ hr
    unfold pkE at f5
    split at f5
    · rename_i h3; exact absurd f5 h3
    rename_i h3
    have h3 : (shpE false b).2 = 0 := by simpa using h3
    exact (shp_ok h3).2.1
theorem u32_of (x : UInt32) {n : Nat} (h : n = x.toNat) : UInt32.ofNat n = x := by rw [h]; exact UInt32.ofNat_toNat
/-- The ends of an error whose inner sender is turned. -/
theorem tr_snd (p : Pk) (ip : UInt32) (pt : Nat) (hpt : pt < 65536) (h : (trE p).2 = 0) : ∃ q : Nat, tnN (trP 12 20 8 p ip pt) = ⟨(tnN p).pr, ip, q, (tnN p).ti, (tnN p).tp, (tnN p).fl, (tnN p).kd⟩ ∧ ((¬ (tnN p).pr.toNat = 1 ∨ (tnN p).kd.toNat = 8) → q = pt) := by
  obtain ⟨_, _, _, _, _, et, xN, e8, _, f7, f8, _, h2⟩ := tr_facts 12 20 8 p ip pt hpt (by omega) (by omega) (by omega) (by omega) (by omega) h
  obtain ⟨b, hb⟩ : ∃ b, b = p.body.drop 8 := ⟨_, rfl⟩
  rw [← hb] at et xN e8 f7 f8 h2
  have hlen := inB_len 12 20 8 (tnN p) b ip pt (by omega) (by omega) e8
  have hnth := nth_in 12 20 8 (tnN p) b ip pt (by omega) (by omega) (by omega) e8
  obtain ⟨i1, i2⟩ := ie_ok h2
  rw [← et] at i1 i2
  obtain ⟨r0, r2, r4, rn⟩ := red_nums b f7
  obtain ⟨r0', r2', r4', rn'⟩ := red_nums _ f8
  rw [xN]
  generalize inB 12 20 8 (tnN p) b ip pt = b' at *
  have hpr : (redP b').proto = (redP b).proto := by
    show nth b' 9 = nth b 9
    rw [hnth 9 (by omega) (by omega) (by omega)]
    simp
  have hi := ip.toNat_lt
  have hfr : (redP b').fr = ip := by
    show UInt32.ofNat (n4 b' 12) = ip
    apply u32_of
    rw [← n4_encb ip.toNat hi]
    apply n4_ext (by omega) (by rw [encb_length]; omega) <;> rw [hnth _ (by omega) (by omega) (by omega), if_pos (by omega)]
  have hto : (redP b').to = (redP b).to := by
    show UInt32.ofNat (n4 b' 16) = UInt32.ofNat (n4 b 16)
    congr 1
    apply n4_ext (by omega) (by omega) <;> rw [hnth _ (by omega) (by omega) (by omega)] <;> simp
  by_cases c1 : (redP b).proto.toNat = 1
  · have hp1 : (tnN p).pr.toNat = 1 := by rw [i1]; exact c1
    simp only [hp1, if_true] at hnth
    have h20 : nth b' 20 = nth b 20 := by rw [hnth 20 (by omega) (by omega) (by omega)]; simp
    have e1 : tnN p = qrN (redP b) (nth b 20) (n2 b 24) := by rw [et]; unfold ieN; rw [if_neg (by omega), if_pos c1, rn, r4]
    have e2 : ieN (redP b') = qrN (redP b') (nth b 20) (n2 b' 24) := by unfold ieN; rw [hpr, if_neg (by omega), if_pos c1, rn', r4', h20]
    have hk : (tnN p).kd = nth b 20 := by
      rcases i2 with h0 | h0 | h0
      · omega
      · omega
      · rw [h0.2, rn]
    rw [hk] at hnth
    rw [e2]
    unfold ieE qrE at h2
    rw [if_neg (by omega), if_pos c1, rn] at h2
    by_cases c8 : (nth b 20).toNat = 8
    · refine ⟨pt, ?_, fun _ => rfl⟩
      rw [e1]
      unfold qrN
      rw [if_pos c8, if_pos c8, hpr, hfr, hto]
      have e24 : n2 b' 24 = pt := by
        rw [← n2_encb pt hpt]
        apply n2_ext (by omega) (by rw [encb_length]; omega) <;> rw [hnth _ (by omega) (by omega) (by omega), if_neg (by omega), if_pos ⟨by rw [c8]; rfl, by omega⟩]
      rw [e24]
    · have c0 : (nth b 20).toNat = 0 := by
        split at h2
        · omega
        · simp at h2
      refine ⟨0, ?_, fun hh => ?_⟩
      · rw [e1]
        unfold qrN
        rw [if_neg c8, if_pos c0, if_neg c8, if_pos c0, hpr, hfr, hto]
        have e24 : n2 b' 24 = n2 b 24 := by
          apply n2_ext (by omega) (by omega) <;> rw [hnth _ (by omega) (by omega) (by omega), if_neg (by omega), if_neg (fun hh => c8 hh.1)]
        rw [e24]
      · rw [hk] at hh
        omega
  · have hp1 : ¬ (tnN p).pr.toNat = 1 := by rw [i1]; exact c1
    have c2 : (redP b).proto.toNat = 6 ∨ (redP b).proto.toNat = 17 := by omega
    simp only [hp1, if_false] at hnth
    have e1 : tnN p = btw (redP b) (n2 b 20) (n2 b 22) := by rw [et]; unfold ieN; rw [if_pos c2, r0, r2]
    have e2 : ieN (redP b') = btw (redP b') (n2 b' 20) (n2 b' 22) := by unfold ieN; rw [hpr, if_pos c2, r0', r2']
    refine ⟨pt, ?_, fun _ => rfl⟩
    rw [e2, e1]
    unfold btw
    have e20 : n2 b' 20 = pt := by
      rw [← n2_encb pt hpt]
      apply n2_ext (by omega) (by rw [encb_length]; omega) <;> rw [hnth _ (by omega) (by omega) (.inr (.inr (by first | exact hp1 | exact not_false))), if_neg (by omega), if_pos (by omega)]
    have e22 : n2 b' 22 = n2 b 22 := by
      apply n2_ext (by omega) (by omega) <;> rw [hnth _ (by omega) (by omega) (.inr (.inr (by first | exact hp1 | exact not_false))), if_neg (by omega), if_neg (by omega)]
    rw [hpr, hfr, hto, e20, e22]
/-- The ends of an error whose inner receiver is turned. -/
theorem tr_rcv (p : Pk) (ip : UInt32) (pt : Nat) (hpt : pt < 65536) (h : (trE p).2 = 0) : ∃ q : Nat, tnN (trP 16 22 0 p ip pt) = ⟨(tnN p).pr, (tnN p).fi, (tnN p).fp, ip, q, (tnN p).fl, (tnN p).kd⟩ ∧ ((¬ (tnN p).pr.toNat = 1 ∨ ¬ (tnN p).kd.toNat = 8) → q = pt) := by
  obtain ⟨_, _, _, _, _, et, xN, e8, _, f7, f8, _, h2⟩ := tr_facts 16 22 0 p ip pt hpt (by omega) (by omega) (by omega) (by omega) (by omega) h
  obtain ⟨b, hb⟩ : ∃ b, b = p.body.drop 8 := ⟨_, rfl⟩
  rw [← hb] at et xN e8 f7 f8 h2
  have hlen := inB_len 16 22 0 (tnN p) b ip pt (by omega) (by omega) e8
  have hnth := nth_in 16 22 0 (tnN p) b ip pt (by omega) (by omega) (by omega) e8
  obtain ⟨i1, i2⟩ := ie_ok h2
  rw [← et] at i1 i2
  obtain ⟨r0, r2, r4, rn⟩ := red_nums b f7
  obtain ⟨r0', r2', r4', rn'⟩ := red_nums _ f8
  rw [xN]
  generalize inB 16 22 0 (tnN p) b ip pt = b' at *
  have hpr : (redP b').proto = (redP b).proto := by
    show nth b' 9 = nth b 9
    rw [hnth 9 (by omega) (by omega) (by omega)]
    simp
  have hi := ip.toNat_lt
  have hto : (redP b').to = ip := by
    show UInt32.ofNat (n4 b' 16) = ip
    apply u32_of
    rw [← n4_encb ip.toNat hi]
    apply n4_ext (by omega) (by rw [encb_length]; omega) <;> rw [hnth _ (by omega) (by omega) (by omega), if_pos (by omega)]
  have hfr : (redP b').fr = (redP b).fr := by
    show UInt32.ofNat (n4 b' 12) = UInt32.ofNat (n4 b 12)
    congr 1
    apply n4_ext (by omega) (by omega) <;> rw [hnth _ (by omega) (by omega) (by omega)] <;> simp
  by_cases c1 : (redP b).proto.toNat = 1
  · have hp1 : (tnN p).pr.toNat = 1 := by rw [i1]; exact c1
    simp only [hp1, if_true] at hnth
    have h20 : nth b' 20 = nth b 20 := by rw [hnth 20 (by omega) (by omega) (by omega)]; simp
    have e1 : tnN p = qrN (redP b) (nth b 20) (n2 b 24) := by rw [et]; unfold ieN; rw [if_neg (by omega), if_pos c1, rn, r4]
    have e2 : ieN (redP b') = qrN (redP b') (nth b 20) (n2 b' 24) := by unfold ieN; rw [hpr, if_neg (by omega), if_pos c1, rn', r4', h20]
    have hk : (tnN p).kd = nth b 20 := by
      rcases i2 with h0 | h0 | h0
      · omega
      · omega
      · rw [h0.2, rn]
    rw [hk] at hnth
    rw [e2]
    unfold ieE qrE at h2
    rw [if_neg (by omega), if_pos c1, rn] at h2
    by_cases c8 : (nth b 20).toNat = 8
    · refine ⟨0, ?_, fun hh => ?_⟩
      · rw [e1]
        unfold qrN
        rw [if_pos c8, if_pos c8, hpr, hfr, hto]
        have e24 : n2 b' 24 = n2 b 24 := by
          apply n2_ext (by omega) (by omega) <;> rw [hnth _ (by omega) (by omega) (by omega), if_neg (by omega), if_neg (fun hh => by have := hh.1; rw [c8] at this; simp at this)]
        rw [e24]
      · rw [hk] at hh
        omega
    · have c0 : (nth b 20).toNat = 0 := by
        split at h2
        · omega
        · simp at h2
      refine ⟨pt, ?_, fun hh => rfl⟩
      rw [e1]
      unfold qrN
      rw [if_neg c8, if_pos c0, if_neg c8, if_pos c0, hpr, hfr, hto]
      have e24 : n2 b' 24 = pt := by
        rw [← n2_encb pt hpt]
        apply n2_ext (by omega) (by rw [encb_length]; omega) <;> rw [hnth _ (by omega) (by omega) (by omega), if_neg (by omega), if_pos ⟨by rw [c0]; rfl, by omega⟩]
      rw [e24]
  · have hp1 : ¬ (tnN p).pr.toNat = 1 := by rw [i1]; exact c1
    have c2 : (redP b).proto.toNat = 6 ∨ (redP b).proto.toNat = 17 := by omega
    simp only [hp1, if_false] at hnth
    have e1 : tnN p = btw (redP b) (n2 b 20) (n2 b 22) := by rw [et]; unfold ieN; rw [if_pos c2, r0, r2]
    have e2 : ieN (redP b') = btw (redP b') (n2 b' 20) (n2 b' 22) := by unfold ieN; rw [hpr, if_pos c2, r0', r2']
    refine ⟨pt, ?_, fun _ => rfl⟩
    rw [e2, e1]
    unfold btw
    have e22 : n2 b' 22 = pt := by
      rw [← n2_encb pt hpt]
      apply n2_ext (by omega) (by rw [encb_length]; omega) <;> rw [hnth _ (by omega) (by omega) (.inr (.inr (by first | exact hp1 | exact not_false))), if_neg (by omega), if_pos (by omega)]
    have e20 : n2 b' 20 = n2 b 20 := by
      apply n2_ext (by omega) (by omega) <;> rw [hnth _ (by omega) (by omega) (.inr (.inr (by first | exact hp1 | exact not_false))), if_neg (by omega), if_neg (by omega)]
    rw [hpr, hfr, hto, e20, e22]
end Go.Fw.Wd
