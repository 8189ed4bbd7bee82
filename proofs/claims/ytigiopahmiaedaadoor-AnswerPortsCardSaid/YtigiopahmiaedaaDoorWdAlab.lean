/-
  The laws AnswerEchoes and AnswerOnce at the evaluation, and their ends. Conditions: stated at each.
-/
import Derived.Test.YtigiopahmiaedaaDoorWdAlaa
set_option linter.unusedVariables false
set_option linter.unusedSimpArgs false
namespace Go.Fw.Wd
open Go.Proofs Code_

/-- A written message is parsed as it was. -/
theorem icA_back (m : Mg) (hb : m.body.length ≤ 1472) : icE (icB m) = (0, 0) ∧ icM (icB m) = m := by
  have hl := icB_len m
  have hs := icB_sum m
  have e : icE (icB m) = (0, 0) := by
    unfold icE
    rw [if_neg (by omega), if_neg (by omega), if_neg (by rw [hs]; simp)]
  refine ⟨e, ?_⟩
  unfold icM
  rw [e]
  obtain ⟨x, y, exy⟩ := encb2 (icS m)
  show icR (icB m) = m
  unfold icB
  rw [exy]
  cases m
  rfl
theorem law5 (side : Int) (own fr to : UInt32) (r0 r1 r2 r3 : UInt8) (body : List UInt8) : pcall E 5 [.int .i64 side, .int .u32 (own.toNat : Int), .int .u32 (fr.toNat : Int), .int .u32 (to.toNat : Int), .agg [.int .u8 (r0.toNat : Int), .int .u8 (r1.toNat : Int), .int .u8 (r2.toNat : Int), .int .u8 (r3.toNat : Int)], bs false body] = some (.bool true, []) := by
  rw [pcall_go (fn := I5) rfl rfl rfl]
  have hk : E.keep 5 = false := rfl
  by_cases h1 : (1472 : Int) < body.length
  · simp (disch := first | omega | (simp only [List.length_cons, List.length_nil, List.length_append, List.length_map, List.length_set]; omega) | rfl | (simp only [List.length_cons, List.length_nil, List.length_append, List.length_map, List.length_set, List.length_replicate, List.all_cons, List.all_nil, List.all_append, storable, plainB, Bool.and_self]; done)) only [go_sem, reduceCtorEq, ↓reduceIte, reduceDIte, evI_callP, callPK_some, I5, hk, s9, h1]
  obtain ⟨m, hm⟩ : ∃ m : Mg, m = ⟨8, 0, r0, r1, r2, r3, body⟩ := ⟨_, rfl⟩
  have hmb : m.body.length ≤ 1472 := by rw [hm]; show body.length ≤ _; omega
  have emg : mgC m = [.int .u8 8, .int .u8 0, .int .u8 (r0.toNat : Int), .int .u8 (r1.toNat : Int), .int .u8 (r2.toNat : Int), .int .u8 (r3.toNat : Int), bs false body] := by rw [hm]; rfl
  have erp : mgC m.rep = [.int .u8 0, .int .u8 0, .int .u8 (r0.toNat : Int), .int .u8 (r1.toNat : Int), .int .u8 (r2.toNat : Int), .int .u8 (r3.toNat : Int), bs false body] := by rw [hm]; rfl
  have qB := s19 m hmb
  obtain ⟨b1, b2⟩ := icA_back m hmb
  obtain ⟨c1, c2⟩ := icA_back m.rep hmb
  have hl := icB_len m
  have hl2 := icB_len m.rep
  have hrb : m.rep.body.length ≤ 1472 := hmb
  obtain ⟨p, hp⟩ : ∃ p : Pk, p = ⟨0, 0, false, 3, 1, fr, to, icB m⟩ := ⟨_, rfl⟩
  have epk : pkC p = [.int .u8 0, .int .u16 0, .bool false, .int .u8 3, .int .u8 1, .int .u32 (fr.toNat : Int), .int .u32 (to.toNat : Int), bs false (icB m)] := by rw [hp]; rfl
  have qL := s17 side own p (by rw [hp]; show (icB m).length ≤ _; omega)
  have elo : loA side own p = if to.toNat = own.toNat then (1, 0, pkM own fr m.rep) else (0, 17, Pk.zero) := by
    have e1 : loA side own p = ecA own p := by unfold loA; rw [hp]; rfl
    have e2 : ecA own p = if (icM (icB m)).ty.toNat = 8 ∧ (icM (icB m)).co.toNat = 0 ∧ to.toNat = own.toNat then (1, 0, pkM own fr (icM (icB m)).rep) else (0, 17, Pk.zero) := by
      unfold ecA
      rw [hp]
      show (if ¬ (icE (icB m)).2 = 0 then _ else _) = _
      rw [b1]
      rfl
    rw [e1, e2, b2]
    have t1 : m.ty.toNat = 8 := by rw [hm]; rfl
    have t2 : m.co.toNat = 0 := by rw [hm]; rfl
    simp only [t1, t2, true_and]
  rw [elo, epk] at qL
  rw [emg] at qB
  have qP := fun g => s20 g (icB m.rep) (by omega)
  rw [c1, c2, errV_zero, erp] at qP
  have qq : ∀ g g', pcall E 16 [bs g body, bs g' body] = some (.bool true, []) := fun g g' => by rw [s16 g g' body body (by omega), decide_eq_true rfl]
  clear elo b1 b2 c1 c2 hp epk emg erp hl hl2 hrb hmb
  by_cases ho : to.toNat = own.toNat
  case neg =>
    have ho' : ¬ (to.toNat : Int) = (own.toNat : Int) := by omega
    rw [if_neg ho, an_zero] at qL
    generalize icB m = B at *
    simp (disch := first | omega | (simp only [List.length_cons, List.length_nil, List.length_append, List.length_map, List.length_set]; omega) | rfl | (simp only [List.length_cons, List.length_nil, List.length_append, List.length_map, List.length_set, List.length_replicate, List.all_cons, List.all_nil, List.all_append, storable, plainB, Bool.and_self]; done)) only [go_sem, reduceCtorEq, ↓reduceIte, reduceDIte, evI_callP, callPK_some, I5, hk, s9, h1, qB, qL, ho']
  have ho2 : to = own := UInt32.toNat_inj.1 ho
  subst ho2
  rw [if_pos rfl, an_pk] at qL
  generalize icB m.rep = B2 at *
  generalize icB m = B at *
  simp (disch := first | omega | (simp only [List.length_cons, List.length_nil, List.length_append, List.length_map, List.length_set]; omega) | rfl | (simp only [List.length_cons, List.length_nil, List.length_append, List.length_map, List.length_set, List.length_replicate, List.all_cons, List.all_nil, List.all_append, storable, plainB, Bool.and_self]; done)) only [go_sem, reduceCtorEq, ↓reduceIte, reduceDIte, evI_callP, callPK_some, I5, hk, s9, h1, qB, qL, qP, qq]

theorem icE_r (b : List UInt8) (h : ¬ (icE b).2 = 0) : ¬ (icE b).1 = 0 := by
  revert h
  unfold icE
  split
  · simp
  · split
    · simp
    · split <;> simp
theorem lo_cases (side : Int) (own : UInt32) (p : Pk) : (∃ r, ¬ r = 0 ∧ loA side own p = (0, r, Pk.zero)) ∨ loA side own p = (2, 0, Pk.zero) ∨ ∃ m, loA side own p = (1, 0, pkM own p.fr m) := by
  unfold loA
  split
  · unfold ecA
    split
    · next h => exact .inl ⟨_, icE_r _ h, rfl⟩
    · split
      · exact .inr (.inr ⟨_, rfl⟩)
      · exact .inl ⟨17, by omega, rfl⟩
  · split
    · unfold poA
      split
      · refine .inl ⟨_, ?_, rfl⟩
        unfold udpR
        split <;> omega
      · split
        · exact .inr (.inl rfl)
        · split
          · exact .inl ⟨17, by omega, rfl⟩
          · split
            · exact .inr (.inr ⟨_, rfl⟩)
            · exact .inl ⟨17, by omega, rfl⟩
    · exact .inl ⟨17, by omega, rfl⟩
/-- Of a packet of the gateway's own that bears an error there is no error. -/
theorem blm_own (own to : UInt32) (m : Mg) (hb : m.body.length ≤ 1472) (h : clsN m.ty = 1) : blm (pkM own to m) = false := by
  obtain ⟨b1, b2⟩ := icA_back m hb
  unfold blm
  have e1 : (pkM own to m).proto.toNat = 1 := rfl
  have e2 : (pkM own to m).body = icB m := rfl
  rw [if_pos e1, e2, b1, b2, decide_eq_true h]
  simp
theorem blm_single (p : Pk) (h : blm p = true) : sngl p.fr = true := by
  unfold blm at h
  cases hs : sngl p.fr
  · rw [hs] at h; cases h
  · rfl
theorem mgErr_eq (kd cd : UInt8) (p : Pk) : mgC (mgErr kd cd p) = [.int .u8 (kd.toNat : Int), .int .u8 (cd.toNat : Int), .int .u8 0, .int .u8 0, .int .u8 0, .int .u8 0, bs false (mgErr kd cd p).body] := rfl
theorem law6 (side : Int) (own : UInt32) (kd cd : UInt8) (p : Pk) : pcall E 6 [.int .i64 side, .int .u32 (own.toNat : Int), .int .u8 (kd.toNat : Int), .int .u8 (cd.toNat : Int), .agg (pkC p)] = some (.bool true, []) := by
  rw [pcall_go (fn := I6) rfl rfl rfl]
  have hk : E.keep 6 = false := rfl
  have q0 := s10 p
  by_cases h1 : (1500 : Int) < p.body.length
  · rw [decide_eq_true h1] at q0
    simp only [pkC_eq] at q0 ⊢
    simp (disch := first | omega | (simp only [List.length_cons, List.length_nil, List.length_append, List.length_map, List.length_set]; omega) | rfl | (simp only [List.length_cons, List.length_nil, List.length_append, List.length_map, List.length_set, List.length_replicate, List.all_cons, List.all_nil, List.all_append, storable, plainB, Bool.and_self]; done)) only [go_sem, reduceCtorEq, ↓reduceIte, reduceDIte, evI_callP, callPK_some, I6, hk, s9, q0]
  rw [decide_eq_false h1] at q0
  have q2 := s17 side own p (by omega)
  have q3 := s12 own kd cd p (by omega)
  have lc := lo_cases side own p
  have hbs := blm_single p
  have hml := mgErr_len kd cd p
  have q4 := s12 own kd cd (pkM own p.fr (mgErr kd cd p)) (by have := pkM_len own p.fr (mgErr kd cd p) (by omega); omega)
  have hbo := blm_own own p.fr (mgErr kd cd p) (by omega)
  obtain ⟨b1, b2⟩ := icA_back (mgErr kd cd p) (by omega)
  have hl := icB_len (mgErr kd cd p)
  have q5 := fun g => s20 g (icB (mgErr kd cd p)) (by omega)
  rw [b1, b2, errV_zero] at q5
  have q6 := s22 p.fr
  have q7 := s23 (mgErr kd cd p)
  have q8 := s21 Pk.zero Pk.zero
  rw [decide_eq_true rfl] at q8
  generalize blm (pkM own p.fr (mgErr kd cd p)) = b2 at *
  generalize erP own kd cd (pkM own p.fr (mgErr kd cd p)) = x2 at *
  have hcl : (mgErr kd cd p).ty = kd := rfl
  rw [hcl] at hbo q7
  have eer : erP own kd cd p = if blm p = true then pkM own p.fr (mgErr kd cd p) else Pk.zero := rfl
  rw [eer] at q3
  rw [pkM_eq] at q4
  rw [mgErr_eq] at q5 q7
  simp only [pkC_zero] at q8
  clear b1 eer hl hml
  cases hbl : blm p
  · rw [hbl] at q3
    simp only [Bool.false_eq_true, if_false, pkC_zero] at q3
    clear q4 q5 q6 q7 hbo hbs
    rcases lc with ⟨r, hr, e⟩ | e | ⟨m, e⟩
    · rw [e, an_zero] at q2
      simp only [pkC_eq] at q0 q2 q3 ⊢
      simp (disch := first | omega | (simp only [List.length_cons, List.length_nil, List.length_append, List.length_map, List.length_set]; omega) | rfl | (simp only [List.length_cons, List.length_nil, List.length_append, List.length_map, List.length_set, List.length_replicate, List.all_cons, List.all_nil, List.all_append, storable, plainB, Bool.and_self]; done)) only [go_sem, reduceCtorEq, ↓reduceIte, reduceDIte, evI_callP, callPK_some, I6, hk, s9, q0, q2, q3, q8, hr]
    · rw [e, an_zero] at q2
      simp only [pkC_eq] at q0 q2 q3 ⊢
      simp (disch := first | omega | (simp only [List.length_cons, List.length_nil, List.length_append, List.length_map, List.length_set]; omega) | rfl | (simp only [List.length_cons, List.length_nil, List.length_append, List.length_map, List.length_set, List.length_replicate, List.all_cons, List.all_nil, List.all_append, storable, plainB, Bool.and_self]; done)) only [go_sem, reduceCtorEq, ↓reduceIte, reduceDIte, evI_callP, callPK_some, I6, hk, s9, q0, q2, q3, q8]
    · rw [e, an_pk] at q2
      simp only [pkC_eq] at q0 q2 q3 ⊢
      simp (disch := first | omega | (simp only [List.length_cons, List.length_nil, List.length_append, List.length_map, List.length_set]; omega) | rfl | (simp only [List.length_cons, List.length_nil, List.length_append, List.length_map, List.length_set, List.length_replicate, List.all_cons, List.all_nil, List.all_append, storable, plainB, Bool.and_self]; done)) only [go_sem, reduceCtorEq, ↓reduceIte, reduceDIte, evI_callP, callPK_some, I6, hk, s9, q0, q2, q3, q8]
  · rw [hbl] at q3
    simp only [if_true, pkM_eq] at q3
    rw [hbs hbl] at q6
    generalize icB (mgErr kd cd p) = B at *
    generalize (mgErr kd cd p).body = bd at *
    clear q8 hbs
    rcases lc with ⟨r, hr, e⟩ | e | ⟨m, e⟩
    · rw [e, an_zero] at q2
      simp only [pkC_eq] at q0 q2 q3 q4 ⊢
      by_cases hc : clsN kd = 1
      · rw [hbo hc] at q4
        rw [hc] at q7
        simp (disch := first | omega | (simp only [List.length_cons, List.length_nil, List.length_append, List.length_map, List.length_set]; omega) | rfl | (simp only [List.length_cons, List.length_nil, List.length_append, List.length_map, List.length_set, List.length_replicate, List.all_cons, List.all_nil, List.all_append, storable, plainB, Bool.and_self]; done)) only [go_sem, reduceCtorEq, ↓reduceIte, reduceDIte, evI_callP, callPK_some, I6, hk, s9, q0, q2, q3, q4, q5, q6, q7, hr]
      · generalize clsN kd = c at *
        simp (disch := first | omega | (simp only [List.length_cons, List.length_nil, List.length_append, List.length_map, List.length_set]; omega) | rfl | (simp only [List.length_cons, List.length_nil, List.length_append, List.length_map, List.length_set, List.length_replicate, List.all_cons, List.all_nil, List.all_append, storable, plainB, Bool.and_self]; done)) only [go_sem, reduceCtorEq, ↓reduceIte, reduceDIte, evI_callP, callPK_some, I6, hk, s9, q0, q2, q3, q4, q5, q6, q7, hr, hc]
    · rw [e, an_zero] at q2
      simp only [pkC_eq] at q0 q2 q3 q4 ⊢
      by_cases hc : clsN kd = 1
      · rw [hbo hc] at q4
        rw [hc] at q7
        simp (disch := first | omega | (simp only [List.length_cons, List.length_nil, List.length_append, List.length_map, List.length_set]; omega) | rfl | (simp only [List.length_cons, List.length_nil, List.length_append, List.length_map, List.length_set, List.length_replicate, List.all_cons, List.all_nil, List.all_append, storable, plainB, Bool.and_self]; done)) only [go_sem, reduceCtorEq, ↓reduceIte, reduceDIte, evI_callP, callPK_some, I6, hk, s9, q0, q2, q3, q4, q5, q6, q7]
      · generalize clsN kd = c at *
        simp (disch := first | omega | (simp only [List.length_cons, List.length_nil, List.length_append, List.length_map, List.length_set]; omega) | rfl | (simp only [List.length_cons, List.length_nil, List.length_append, List.length_map, List.length_set, List.length_replicate, List.all_cons, List.all_nil, List.all_append, storable, plainB, Bool.and_self]; done)) only [go_sem, reduceCtorEq, ↓reduceIte, reduceDIte, evI_callP, callPK_some, I6, hk, s9, q0, q2, q3, q4, q5, q6, q7, hc]
    · rw [e, an_pk] at q2
      generalize icB m = B3 at *
      simp only [pkC_eq] at q0 q2 q3 q4 ⊢
      by_cases hc : clsN kd = 1
      · rw [hbo hc] at q4
        rw [hc] at q7
        simp (disch := first | omega | (simp only [List.length_cons, List.length_nil, List.length_append, List.length_map, List.length_set]; omega) | rfl | (simp only [List.length_cons, List.length_nil, List.length_append, List.length_map, List.length_set, List.length_replicate, List.all_cons, List.all_nil, List.all_append, storable, plainB, Bool.and_self]; done)) only [go_sem, reduceCtorEq, ↓reduceIte, reduceDIte, evI_callP, callPK_some, I6, hk, s9, q0, q2, q3, q4, q5, q6, q7]
      · generalize clsN kd = c at *
        simp (disch := first | omega | (simp only [List.length_cons, List.length_nil, List.length_append, List.length_map, List.length_set]; omega) | rfl | (simp only [List.length_cons, List.length_nil, List.length_append, List.length_map, List.length_set, List.length_replicate, List.all_cons, List.all_nil, List.all_append, storable, plainB, Bool.and_self]; done)) only [go_sem, reduceCtorEq, ↓reduceIte, reduceDIte, evI_callP, callPK_some, I6, hk, s9, q0, q2, q3, q4, q5, q6, q7, hc]
theorem a4_arg {x : AV} (h : Arg Tryd.prog 46 x) : ∃ c d e f : UInt8, x = .agg [.int .u8 (c.toNat : Int), .int .u8 (d.toNat : Int), .int .u8 (e.toNat : Int), .int .u8 (f.toNat : Int)] := by
  obtain ⟨zs, hzl, hz, rfl⟩ := h.array_inv Tryd.underlying46
  match zs, hzl with
  | [z0, z1, z2, z3], _ =>
    obtain ⟨c, rfl⟩ := u8_arg (hz z0 (by simp))
    obtain ⟨d, rfl⟩ := u8_arg (hz z1 (by simp))
    obtain ⟨e, rfl⟩ := u8_arg (hz z2 (by simp))
    obtain ⟨f, rfl⟩ := u8_arg (hz z3 (by simp))
    exact ⟨c, d, e, f, rfl⟩
theorem end5 (xs : List AV) (hl : xs.length = [3, 22, 22, 22, 46, 24].length) (h : ∀ (j : Nat) t x, ([3, 22, 22, 22, 46, 24] : List TypeId)[j]? = some t → xs[j]? = some x → Arg Tryd.prog t x) : pcall E 5 xs = some (.bool true, []) := by
  match xs, hl with
  | [x0, x1, x2, x3, x4, x5], _ =>
    obtain ⟨v0, rfl, _⟩ := int_arg (h 0 _ x0 rfl rfl)
    obtain ⟨v1, rfl⟩ := U32_arg (h 1 _ x1 rfl rfl)
    obtain ⟨v2, rfl⟩ := U32_arg (h 2 _ x2 rfl rfl)
    obtain ⟨v3, rfl⟩ := U32_arg (h 3 _ x3 rfl rfl)
    obtain ⟨c0, c1, c2, c3, rfl⟩ := a4_arg (h 4 _ x4 rfl rfl)
    obtain ⟨v5, rfl, _⟩ := bytes_arg (h 5 _ x5 rfl rfl)
    exact law5 v0 v1 v2 v3 c0 c1 c2 c3 v5
theorem end6 (xs : List AV) (hl : xs.length = [3, 22, 5, 5, 26].length) (h : ∀ (j : Nat) t x, ([3, 22, 5, 5, 26] : List TypeId)[j]? = some t → xs[j]? = some x → Arg Tryd.prog t x) : pcall E 6 xs = some (.bool true, []) := by
  match xs, hl with
  | [x0, x1, x2, x3, x4], _ =>
    obtain ⟨v0, rfl, _⟩ := int_arg (h 0 _ x0 rfl rfl)
    obtain ⟨v1, rfl⟩ := U32_arg (h 1 _ x1 rfl rfl)
    obtain ⟨v2, rfl⟩ := u8_arg (h 2 _ x2 rfl rfl)
    obtain ⟨v3, rfl⟩ := u8_arg (h 3 _ x3 rfl rfl)
    obtain ⟨v4, rfl⟩ := pkA_arg (h 4 _ x4 rfl rfl)
    exact law6 v0 v1 v2 v3 v4
end Go.Fw.Wd
