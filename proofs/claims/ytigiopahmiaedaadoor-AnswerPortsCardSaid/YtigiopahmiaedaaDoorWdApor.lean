/-
  The law on ports at the evaluation; its end. Conditions: stated at each.
-/
import Derived.Test.YtigiopahmiaedaaDoorWdAlab
import Derived.Test.YtigiopahmiaedaaDoorWdIparse
import Derived.Test.YtigiopahmiaedaaDoorWdUdpb
set_option linter.unusedVariables false
set_option linter.unusedSimpArgs false
namespace Go.Fw.Wd
open Go.Proofs Code_

theorem law7 (side : Int) (own fr : UInt32) (a b : Nat) (ha : a < 65536) (hb : b < 65536) (body : List UInt8) : pcall E 7 [.int .i64 side, .int .u32 (own.toNat : Int), .int .u32 (fr.toNat : Int), .int .u16 (a : Int), .int .u16 (b : Int), bs false body] = some (.bool true, []) := by
  rw [pcall_go (fn := I7) rfl rfl rfl]
  have hk : E.keep 7 = false := rfl
  by_cases h1 : (1000 : Int) < body.length
  · simp (disch := first | omega | (simp only [List.length_cons, List.length_nil, List.length_append, List.length_map, List.length_set]; omega) | rfl | (simp only [List.length_cons, List.length_nil, List.length_append, List.length_map, List.length_set, List.length_replicate, List.all_cons, List.all_nil, List.all_append, storable, plainB, Bool.and_self]; done)) only [go_sem, reduceCtorEq, ↓reduceIte, reduceDIte, evI_callP, callPK_some, I7, hk, s9, h1]
  have q1 := s24 a b ha hb false body (by omega) fr own
  obtain ⟨e1, e2⟩ := udpB_parse a b ha hb false body [] (by omega) fr own fr own (.inl ⟨rfl, rfl⟩)
  rw [List.append_nil] at e1 e2
  have hd := udpB_len a b false body fr own
  have eb : n2 (udpB a b false body fr own) 2 = b := by
    have := (udpB_parts a b ha hb false body [] (by omega) fr own).2.1
    rwa [List.append_nil] at this
  generalize udpB a b false body fr own = d at *
  obtain ⟨p, hp⟩ : ∃ p : Pk, p = ⟨0, 0, false, 3, 17, fr, own, d⟩ := ⟨_, rfl⟩
  have epk : pkC p = [.int .u8 0, .int .u16 0, .bool false, .int .u8 3, .int .u8 17, .int .u32 (fr.toNat : Int), .int .u32 (own.toNat : Int), bs false d] := by rw [hp]; rfl
  have pb : p.body = d := by rw [hp]
  have hbl : blm p = (sngl fr && sngl own) := by rw [hp]; show (sngl fr && (sngl own && true)) = _; rw [Bool.and_true]
  have qL := s17 side own p (by rw [pb]; omega)
  have elo : loA side own p = if side = 0 ∧ b = 67 then (2, 0, Pk.zero) else if (sngl fr && sngl own) = true then (1, 0, pkM own fr (mgErr 3 3 p)) else (0, 17, Pk.zero) := by
    have l1 : loA side own p = poA side own p := by unfold loA; rw [hp]; rfl
    rw [l1]
    unfold poA
    rw [hbl]
    have f1 : p.fr = fr := by rw [hp]
    have f2 : p.to = own := by rw [hp]
    rw [f1, f2, pb, e2, eb, if_neg (by simp)]
    rw [if_neg (c := ¬ own.toNat = own.toNat) (by simp)]
  rw [elo, epk] at qL
  have q6 := s22 fr
  have q7 := s22 own
  by_cases hs : side = 0 ∧ b = 67
  · rw [if_pos hs, an_zero] at qL
    obtain ⟨hs1, hs2⟩ := hs
    subst hs1 hs2
    simp only [dgC_eq, Int.cast_ofNat_Int] at q1
    simp (disch := first | omega | (simp only [List.length_cons, List.length_nil, List.length_append, List.length_map, List.length_set]; omega) | rfl | (simp only [List.length_cons, List.length_nil, List.length_append, List.length_map, List.length_set, List.length_replicate, List.all_cons, List.all_nil, List.all_append, storable, plainB, Bool.and_self]; done)) only [go_sem, reduceCtorEq, ↓reduceIte, reduceDIte, evI_callP, callPK_some, I7, hk, s9, h1, q1, qL, Int.cast_ofNat_Int]
  rw [if_neg hs] at qL
  have hz : side = 0 → ¬ (b : Int) = 67 := fun h1 c => hs ⟨h1, by omega⟩
  have hcl : (mgErr 3 3 p).body.length ≤ 28 := mgErr_len 3 3 p
  obtain ⟨b1, b2⟩ := icA_back (mgErr 3 3 p) (by omega)
  have hl := icB_len (mgErr 3 3 p)
  have qP := fun g => s20 g (icB (mgErr 3 3 p)) (by omega)
  rw [b1, b2, errV_zero] at qP
  have qI := s25 (mgErr 3 3 p) (by omega)
  obtain ⟨_, _, m3, m4⟩ := hd_parse p p.body.length (by rw [pb]; omega) (p.body.take 8)
  have emb : (mgErr 3 3 p).body = hdB p p.body.length ++ p.body.take 8 := rfl
  have ety : clsN (mgErr 3 3 p).ty = 1 := rfl
  have ed : (p.body.take 8).take p.body.length = d.take 8 := by
    rw [pb, List.take_take, Nat.min_eq_right (by omega)]
  rw [ed] at m4
  have eE : inE (mgErr 3 3 p) = (0, 0) := by
    unfold inE
    rw [emb, ety, m3, m4, if_neg (by simp), if_neg (by simp), if_neg]
    show ¬ (d.take 8).length < 8
    rw [List.length_take]
    omega
  have eP : inP (mgErr 3 3 p) = p.with (d.take 8) := by
    unfold inP
    rw [eE, if_pos rfl, emb, m4]
  rw [eE, eP, errV_zero] at qI
  have epw : pkC (p.with (d.take 8)) = [.int .u8 0, .int .u16 0, .bool false, .int .u8 3, .int .u8 17, .int .u32 (fr.toNat : Int), .int .u32 (own.toNat : Int), bs false (d.take 8)] := by rw [hp]; rfl
  have z3 : ((UInt8.toNat 3 : Nat) : Int) = 3 := rfl
  rw [epw, mgErr_eq, z3] at qI
  rw [mgErr_eq, z3] at qP
  obtain ⟨t, ht⟩ : ∃ t, t = d.take 8 := ⟨_, rfl⟩
  have htl : t.length = 8 := by rw [ht, List.length_take]; omega
  have hsl : ∀ h g, sliceK h 1 (.rs g 1 (d.map by8)) (some (8 + body.length)) none (some (.int .i64 8)) = some (.rs g 1 (t.map by8), h) := fun h g => by
    rw [← hd, ht]; exact slice_by_ni h g d .i64 8 (by omega) (by omega)
  rw [← ht] at qI
  have qq : ∀ g g', pcall E 16 [bs g t, bs g' t] = some (.bool true, []) := fun g g' => by rw [s16 g g' t t (by omega), decide_eq_true rfl]
  have qL1 := fun (h : (sngl fr && sngl own) = true) => by rw [if_pos h, an_pk] at qL; exact qL
  have qL0 := fun (h : ¬ (sngl fr && sngl own) = true) => by rw [if_neg h, an_zero] at qL; exact qL
  clear qL
  generalize icB (mgErr 3 3 p) = B at *
  generalize (mgErr 3 3 p).body = bd at *
  clear elo epk epw eE eP emb ety m3 m4 ed b1 b2 e1 e2 eb hp pb hbl ht hcl hl
  simp only [dgC_eq] at q1
  generalize sngl fr = s1 at *
  generalize sngl own = s2 at *
  cases s1
  case false =>
    have qL := qL0 (by simp)
    by_cases h1' : side = 0
    · have h2 := hz h1'
      subst h1'
      simp (disch := first | omega | (simp only [List.length_cons, List.length_nil, List.length_append, List.length_map, List.length_set]; omega) | rfl | (simp only [List.length_cons, List.length_nil, List.length_append, List.length_map, List.length_set, List.length_replicate, List.all_cons, List.all_nil, List.all_append, storable, plainB, Bool.and_self]; done)) only [go_sem, reduceCtorEq, ↓reduceIte, reduceDIte, evI_callP, callPK_some, I7, hk, s9, h1, q1, qL, q6, q7, h2]
    · simp (disch := first | omega | (simp only [List.length_cons, List.length_nil, List.length_append, List.length_map, List.length_set]; omega) | rfl | (simp only [List.length_cons, List.length_nil, List.length_append, List.length_map, List.length_set, List.length_replicate, List.all_cons, List.all_nil, List.all_append, storable, plainB, Bool.and_self]; done)) only [go_sem, reduceCtorEq, ↓reduceIte, reduceDIte, evI_callP, callPK_some, I7, hk, s9, h1, q1, qL, q6, q7, h1']
  cases s2
  case false =>
    have qL := qL0 (by simp)
    by_cases h1' : side = 0
    · have h2 := hz h1'
      subst h1'
      simp (disch := first | omega | (simp only [List.length_cons, List.length_nil, List.length_append, List.length_map, List.length_set]; omega) | rfl | (simp only [List.length_cons, List.length_nil, List.length_append, List.length_map, List.length_set, List.length_replicate, List.all_cons, List.all_nil, List.all_append, storable, plainB, Bool.and_self]; done)) only [go_sem, reduceCtorEq, ↓reduceIte, reduceDIte, evI_callP, callPK_some, I7, hk, s9, h1, q1, qL, q6, q7, h2]
    · simp (disch := first | omega | (simp only [List.length_cons, List.length_nil, List.length_append, List.length_map, List.length_set]; omega) | rfl | (simp only [List.length_cons, List.length_nil, List.length_append, List.length_map, List.length_set, List.length_replicate, List.all_cons, List.all_nil, List.all_append, storable, plainB, Bool.and_self]; done)) only [go_sem, reduceCtorEq, ↓reduceIte, reduceDIte, evI_callP, callPK_some, I7, hk, s9, h1, q1, qL, q6, q7, h1']
  have qL := qL1 rfl
  by_cases h1' : side = 0
  · have h2 := hz h1'
    subst h1'
    simp (disch := first | omega | (simp only [List.length_cons, List.length_nil, List.length_append, List.length_map, List.length_set]; omega) | rfl | (simp only [List.length_cons, List.length_nil, List.length_append, List.length_map, List.length_set, List.length_replicate, List.all_cons, List.all_nil, List.all_append, storable, plainB, Bool.and_self]; done)) only [go_sem, reduceCtorEq, ↓reduceIte, reduceDIte, evI_callP, callPK_some, I7, hk, s9, h1, q1, qL, q6, q7, h2, qP, qI, hd, hsl, qq]
  · simp (disch := first | omega | (simp only [List.length_cons, List.length_nil, List.length_append, List.length_map, List.length_set]; omega) | rfl | (simp only [List.length_cons, List.length_nil, List.length_append, List.length_map, List.length_set, List.length_replicate, List.all_cons, List.all_nil, List.all_append, storable, plainB, Bool.and_self]; done)) only [go_sem, reduceCtorEq, ↓reduceIte, reduceDIte, evI_callP, callPK_some, I7, hk, s9, h1, q1, qL, q6, q7, h1', qP, qI, hd, hsl, qq]
theorem end7 (xs : List AV) (hl : xs.length = [3, 22, 22, 23, 23, 24].length) (h : ∀ (j : Nat) t x, ([3, 22, 22, 23, 23, 24] : List TypeId)[j]? = some t → xs[j]? = some x → Arg Tryd.prog t x) : pcall E 7 xs = some (.bool true, []) := by
  match xs, hl with
  | [x0, x1, x2, x3, x4, x5], _ =>
    obtain ⟨s, rfl, _⟩ := int_arg (h 0 _ x0 rfl rfl)
    obtain ⟨o, rfl⟩ := U32_arg (h 1 _ x1 rfl rfl)
    obtain ⟨f, rfl⟩ := U32_arg (h 2 _ x2 rfl rfl)
    obtain ⟨a, rfl, ha⟩ := u16_arg (h 3 _ x3 rfl rfl)
    obtain ⟨b, rfl, hb⟩ := u16_arg (h 4 _ x4 rfl rfl)
    obtain ⟨l, rfl, _⟩ := bytes_arg (h 5 _ x5 rfl rfl)
    exact law7 s o f a b ha hb l
end Go.Fw.Wd
