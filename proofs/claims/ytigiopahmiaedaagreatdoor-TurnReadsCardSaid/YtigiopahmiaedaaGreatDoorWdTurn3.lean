/-
  An error whose inner end is turned: what the program's functions answer. Conditions: stated at each.
-/
import Derived.Test.YtigiopahmiaedaaGreatDoorWdTurn2
set_option linter.unusedVariables false
set_option linter.unusedSimpArgs false
namespace Go.Fw.Wd
open Go.Proofs Code_

theorem encb_full : encb 2 65535 = [255, 255] := by rw [two_eq]; rfl
/-- What an error embeds, an end of it turned. -/
def inB1 (ia : Nat) (s : List Nat) (b : List UInt8) (ip : UInt32) : List UInt8 := atB b ia (encb 4 ip.toNat) (10 :: s)
def inB2 (pa : Nat) (kd : UInt8) (e : En) (s : List Nat) (b : List UInt8) (pt : Nat) : List UInt8 :=
  if e.pr.toNat = 1 then (if e.kd.toNat = kd.toNat then atB b 24 (encb 2 pt) [22] else b) else atB b pa (encb 2 pt) s
def inB3 (e : En) (s : List Nat) (b : List UInt8) : List UInt8 := if e.pr.toNat = 17 ∧ ¬ s = [] ∧ n2 b 26 = 0 then over b 26 [255, 255] else b
def inB (ia pa : Nat) (kd : UInt8) (e : En) (b : List UInt8) (ip : UInt32) (pt : Nat) : List UInt8 :=
  inB3 e (tsums e.pr.toNat b) (inB2 pa kd e (tsums e.pr.toNat b) (inB1 ia (tsums e.pr.toNat b) b ip) pt)
theorem inB1_len (ia : Nat) (s : List Nat) (b : List UInt8) (ip : UInt32) (h : ia + 4 ≤ b.length) : (inB1 ia s b ip).length = b.length := atB_len _ _ _ _ (by rw [encb_length]; exact h)
theorem inB2_len (pa : Nat) (kd : UInt8) (e : En) (s : List Nat) (b : List UInt8) (pt : Nat) (h : pa + 2 ≤ b.length) (h28 : 28 ≤ b.length) : (inB2 pa kd e s b pt).length = b.length := by
  unfold inB2
  split
  · split
    · exact atB_len _ _ _ _ (by rw [encb_length]; omega)
    · rfl
  · exact atB_len _ _ _ _ (by rw [encb_length]; exact h)
theorem inB3_len (e : En) (s : List Nat) (b : List UInt8) (h28 : 28 ≤ b.length) : (inB3 e s b).length = b.length := by
  unfold inB3
  split
  · exact over_len _ _ _ (by show 26 + 2 ≤ _; exact h28)
  · rfl
theorem inB_len (ia pa : Nat) (kd : UInt8) (e : En) (b : List UInt8) (ip : UInt32) (pt : Nat) (hi : ia + 4 ≤ 28) (hp : pa + 2 ≤ 28) (h28 : 28 ≤ b.length) : (inB ia pa kd e b ip pt).length = b.length := by
  have h1 := inB1_len ia (tsums e.pr.toNat b) b ip (by omega)
  have h2 := inB2_len pa kd e (tsums e.pr.toNat b) (inB1 ia (tsums e.pr.toNat b) b ip) pt (by omega) (by omega)
  unfold inB
  rw [inB3_len _ _ _ (by omega)]
  omega
def Mg.bd (m : Mg) (b : List UInt8) : Mg := ⟨m.ty, m.co, m.r0, m.r1, m.r2, m.r3, b⟩
def Pk.bd (p : Pk) (b : List UInt8) : Pk := ⟨p.tos, p.id, p.kp, p.ttl, p.proto, p.fr, p.to, b⟩
def trE (p : Pk) : Int × Int := if ¬ (emE p).2 = 0 then emE p else ieE (emP p)
def trP (ia pa : Nat) (kd : UInt8) (p : Pk) (ip : UInt32) (pt : Nat) : Pk :=
  if (trE p).2 = 0 then p.bd (icB ((emM p).bd (inB ia pa kd (ieN (emP p)) (emM p).body ip pt))) else Pk.zero
/-- What holds where an error's inner ends are told. -/
theorem em_ok {p : Pk} (h : (emE p).2 = 0) : p.proto.toNat = 1 ∧ (icE p.body).2 = 0 ∧ emM p = icR p.body ∧ emP p = redP (p.body.drop 8) ∧ (pkE false (p.body.drop 8)).2 = 0 ∧ clsN (nth p.body 0) = 1 ∧ 8 ≤ (redP (p.body.drop 8)).body.length := by
  unfold emE at h
  split at h
  · simp at h
  rename_i h1
  have h1 : p.proto.toNat = 1 := by simpa using h1
  split at h
  · rename_i h2
    exact absurd h h2
  rename_i h2
  have h2 : (icE p.body).2 = 0 := by simpa using h2
  have e1 : icM p.body = icR p.body := by unfold icM; rw [if_pos h2]
  have e2 : emP p = inP (icR p.body) := by unfold emP; rw [if_neg (by omega), if_neg (by omega), e1]
  have e3 : inP (icR p.body) = pkOf false (p.body.drop 8) := by unfold inP; rw [← e1, if_pos h, e1]; rfl
  have h' := h
  rw [e1] at h'
  unfold inE at h'
  split at h'
  · simp at h'
  rename_i h3
  split at h'
  · rename_i h4
    exact absurd h' h4
  rename_i h4
  split at h'
  · simp at h'
  rename_i h5
  have h4 : (pkE false (p.body.drop 8)).2 = 0 := by simpa [icR] using h4
  have e4 : pkOf false (p.body.drop 8) = redP (p.body.drop 8) := by unfold pkOf; rw [if_pos h4]
  refine ⟨h1, h2, ?_, by rw [e2, e3, e4], h4, by simpa [icR] using h3, ?_⟩
  · unfold emM
    rw [if_neg (by omega), e1]
  · have h5 : ¬ (pkOf false (p.body.drop 8)).body.length < 8 := by simpa [icR] using h5
    rw [e4] at h5
    omega
theorem red_len (b : List UInt8) (h : 8 ≤ (redP b).body.length) : 28 ≤ b.length ∧ (redP b).body.length ≤ b.length := by
  simp only [redP, List.length_drop, List.length_take] at h ⊢
  omega
theorem ie_ok {q : Pk} (h : (ieE q).2 = 0) : (ieN q).pr = q.proto ∧ (q.proto.toNat = 6 ∨ q.proto.toNat = 17 ∨ (q.proto.toNat = 1 ∧ (ieN q).kd = nth q.body 0)) := by
  unfold ieE at h
  unfold ieN
  split at h
  · rename_i h1
    rw [if_pos h1]
    exact ⟨rfl, by omega⟩
  rename_i h1
  rw [if_neg h1]
  split at h
  · rename_i h2
    rw [if_pos h2]
    unfold qrE at h
    unfold qrN
    split at h
    · rename_i h3
      by_cases h8 : (nth q.body 0).toNat = 8
      · rw [if_pos h8]
        exact ⟨rfl, .inr (.inr ⟨h2, rfl⟩)⟩
      · rw [if_neg h8, if_pos (by omega)]
        exact ⟨rfl, .inr (.inr ⟨h2, rfl⟩)⟩
    · simp at h
  · simp at h
theorem tr_err (ia pa : Nat) (kd : UInt8) (p : Pk) (hb : p.body.length ≤ 140737488355328) (ip : UInt32) (pt : Nat) (h : ¬ (trE p).2 = 0) :
    pcall E 58 [.agg (pkC p), .agg [.int .u32 (ip.toNat : Int), .int .u16 (pt : Int)], .int .i64 (ia : Int), .int .i64 (pa : Int), .int .u8 (kd.toNat : Int)] = some (.tup [.agg (pkC Pk.zero), errV (trE p).1 (trE p).2], []) := by
  rw [pcall_go (fn := I58) rfl rfl rfl]
  have hk : E.keep 58 = false := rfl
  have qe := s39 p hb
  rw [errV_pos _ h]
  simp only [pkC_zero]
  unfold trE at h ⊢
  by_cases h1 : (emE p).2 = 0
  case neg =>
    simp only [h1, not_false_eq_true, if_true]
    rw [errV_pos _ h1] at qe
    generalize (emE p).1 = r at *
    generalize (emE p).2 = n at *
    generalize emM p = m at *
    generalize emP p = q at *
    simp only [pkC_eq, mgC_eq] at qe ⊢
    simp (disch := first | omega | (simp only [List.length_cons, List.length_nil, List.length_append, List.length_map, List.length_set]; omega) | rfl | (simp only [List.length_cons, List.length_nil, List.length_append, List.length_map, List.length_set, List.length_replicate, List.all_cons, List.all_nil, List.all_append, storable, plainB, Bool.and_self]; done)) only [go_sem, reduceCtorEq, ↓reduceIte, reduceDIte, evI_callP, callPK_some, I58, hk, qe]
  simp only [h1, not_true, if_false] at h ⊢
  obtain ⟨_, _, _, e4, _, _, e7⟩ := em_ok h1
  obtain ⟨e8, e9⟩ := red_len _ e7
  rw [← e4] at e7 e9
  have qi := s40 (emP p) e7 (by rw [List.length_drop] at e9; omega)
  rw [h1, errV_zero] at qe
  rw [errV_pos _ h] at qi
  generalize (ieE (emP p)).1 = r at *
  generalize (ieE (emP p)).2 = n at *
  generalize ieN (emP p) = e at *
  generalize emM p = m at *
  generalize emP p = q at *
  simp only [pkC_eq, mgC_eq, enC_eq] at qe qi ⊢
  simp (disch := first | omega | (simp only [List.length_cons, List.length_nil, List.length_append, List.length_map, List.length_set]; omega) | rfl | (simp only [List.length_cons, List.length_nil, List.length_append, List.length_map, List.length_set, List.length_replicate, List.all_cons, List.all_nil, List.all_append, storable, plainB, Bool.and_self]; done)) only [go_sem, reduceCtorEq, ↓reduceIte, reduceDIte, evI_callP, callPK_some, I58, hk, qe, qi]
theorem afR_i64 (h : Heap) (t : TypeId) (l : Nat) (x : Nat) (s : List Nat) (hs : s.length ≤ 1000) : afR h 1 8 t (i64s s) s.length l 0 1 (some (.row 0 1 [.int .i64 (x : Int)] t)) = some (.rs false 1 (i64s (x :: s)), h.set l .gone) := by
  have hp : (i64s s).all plainB = true := by simp [i64s, plainB]
  have hg : ∀ l : List AV, group false 1 l.length l = l := by
    intro l
    induction l with
    | nil => rfl
    | cons a l ih => simp only [List.length_cons, group, Bool.false_eq_true, if_false, List.headD_cons, List.drop_succ_cons, List.drop_zero, ih]
  have h1 : (1 + s.length) * 8 ≤ 140737488355328 := by omega
  have h2 : 1 + s.length ≤ 140737488355328 := by omega
  have h3 := i64s_len s
  have h4 := hg (.int .i64 (x : Int) :: i64s s)
  rw [List.length_cons, h3, Nat.add_comm] at h4
  simp only [afR, List.length_cons, List.length_nil, Nat.zero_add, Nat.one_mul, h3, Nat.mul_one, h1, h2, List.all_cons, plainB, List.all_nil, hp, Bool.and_self, and_self, if_true, List.cons_append, List.nil_append, bne_self_eq_false, h4]
  rfl
theorem cells_i64s (h : Heap) (g : Bool) (l : List Nat) : cellsIn h 1 (.rs g 1 (i64s l)) = some (i64s l) := by
  simp only [cellsIn, if_true]
  congr 1
  induction l with
  | nil => rfl
  | cons a l ih => simp only [i64s, List.map_cons, List.flatMap_cons, cellsOf, List.cons_append, List.nil_append]; rw [show List.flatMap cellsOf (List.map (fun n : Nat => AV.int .i64 (n : Int)) l) = i64s l from ih]; rfl
theorem noG_i64s : ∀ l : List Nat, noG.noGL (i64s l) = true
  | [] => rfl
  | a :: l => by simp only [i64s, List.map_cons, noG.noGL, noG, Bool.true_and]; exact noG_i64s l
theorem bd_eq (m : Mg) (b : List UInt8) : mgC (m.bd b) = [.int .u8 (m.ty.toNat : Int), .int .u8 (m.co.toNat : Int), .int .u8 (m.r0.toNat : Int), .int .u8 (m.r1.toNat : Int), .int .u8 (m.r2.toNat : Int), .int .u8 (m.r3.toNat : Int), bs false b] := rfl
theorem pbd_eq (p : Pk) (b : List UInt8) : pkC (p.bd b) = [.int .u8 (p.tos.toNat : Int), .int .u16 (p.id.toNat : Int), .bool p.kp, .int .u8 (p.ttl.toNat : Int), .int .u8 (p.proto.toNat : Int), .int .u32 (p.fr.toNat : Int), .int .u32 (p.to.toNat : Int), bs false b] := rfl
theorem row_4 (ip : UInt32) (pt : Nat) : (rowN ip pt).take 4 = encb 4 ip.toNat ∧ (rowN ip pt).drop 4 = encb 2 pt := by
  have h := encb_length 4 ip.toNat
  unfold rowN
  generalize encb 4 ip.toNat = x at *
  constructor
  · rw [List.take_append_of_le_length (by omega), List.take_of_length_le (by omega)]
  · rw [List.drop_append_of_le_length (by omega), List.drop_eq_nil_of_le (by omega), List.nil_append]
set_option maxHeartbeats 1000000 in
theorem tr_ok (ia pa : Nat) (hia : ia + 4 ≤ 28) (hpa : pa + 2 ≤ 28) (kd : UInt8) (p : Pk) (hb : p.body.length ≤ 140737488355328) (ip : UInt32) (pt : Nat) (hpt : pt < 65536) (h : (trE p).2 = 0) :
    pcall E 58 [.agg (pkC p), .agg [.int .u32 (ip.toNat : Int), .int .u16 (pt : Int)], .int .i64 (ia : Int), .int .i64 (pa : Int), .int .u8 (kd.toNat : Int)] = some (.tup [.agg (pkC (trP ia pa kd p ip pt)), .nili], []) := by
  rw [pcall_go (fn := I58) rfl rfl rfl]
  have hk : E.keep 58 = false := rfl
  have qe := s39 p hb
  rw [show trP ia pa kd p ip pt = p.bd (icB ((emM p).bd (inB ia pa kd (ieN (emP p)) (emM p).body ip pt))) by unfold trP; rw [if_pos h]]
  unfold trE at h
  have h1 : (emE p).2 = 0 := by
    split at h
    · assumption
    · rename_i h1; simpa using h1
  simp only [h1, not_true, if_false] at h
  obtain ⟨_, f2, f3, e4, _, _, e7⟩ := em_ok h1
  obtain ⟨e8, e9⟩ := red_len _ e7
  obtain ⟨_, f5, _⟩ := ic_ok f2
  have e10 : (emM p).body = p.body.drop 8 := by rw [f3]; rfl
  have e11 : (emM p).body.length ≤ 1472 := by rw [e10, List.length_drop]; omega
  rw [← e4] at e7 e9
  rw [← e10] at e8 e9
  have qi := s40 (emP p) e7 (by omega)
  obtain ⟨g1, g2⟩ := ie_ok h
  rw [h1, errV_zero] at qe
  rw [h, errV_zero] at qi
  have qr := s81 ip pt hpt
  have lr := rowN_len ip pt
  obtain ⟨r4, r2⟩ := row_4 ip pt
  clear f2 f3 e4 f5 e10
  generalize ieN (emP p) = e at *
  generalize emP p = q at *
  generalize emM p = m at *
  have l4 := encb_length 4 ip.toNat
  have l2 := encb_length 2 pt
  have qs := fun g g1 => s84 g g1 m.body e8 (by omega) e.pr
  have qB := s21 (m.bd (inB ia pa kd e m.body ip pt)) (by show (inB ia pa kd e m.body ip pt).length ≤ 1472; rw [inB_len _ _ _ _ _ _ _ hia hpa e8]; exact e11)
  obtain ⟨out, hout⟩ : ∃ o, o = icB (m.bd (inB ia pa kd e m.body ip pt)) := ⟨_, rfl⟩
  rw [← hout] at qB ⊢
  clear hout
  rw [pbd_eq]
  rw [bd_eq] at qB
  obtain ⟨R, hR⟩ : ∃ R, R = rowN ip pt := ⟨_, rfl⟩
  rw [← hR] at qr lr r4 r2
  have hs4 : ∀ h g, sliceK h 1 (.rs g 1 (R.map by8)) (some 6) none (some (.int .i64 4)) = some (.rs g 1 ((encb 4 ip.toNat).map by8), h) := fun h g => by
    have := slice_by_ni h g R .i64 4 (by omega) (by omega)
    rw [lr, show Int.toNat 4 = 4 from rfl, r4] at this
    exact this
  have hs2 : ∀ h g, sliceK h 1 (.rs g 1 (R.map by8)) (some 6) (some (.int .i64 4)) none = some (.rs g 1 ((encb 2 pt).map by8), h) := fun h g => by
    have := slice_by_in h g R .i64 4 (by omega) (by omega)
    rw [lr, show Int.toNat 4 = 4 from rfl, r2] at this
    exact this
  clear hR r4 r2
  unfold inB at qB
  obtain ⟨s, hs⟩ : ∃ s, s = tsums e.pr.toNat m.body := ⟨_, rfl⟩
  rw [← hs] at qs qB
  have hsm : ∀ x ∈ s, x ≤ 1000 := by
    intro x hx
    rw [hs] at hx
    unfold tsums at hx
    split at hx
    · simp at hx; omega
    · split at hx
      · split at hx
        · simp at hx
        · simp at hx; omega
      · simp at hx
  have hsl : s.length ≤ 1 := by
    rw [hs]
    unfold tsums
    split
    · simp
    · split
      · split <;> simp
      · simp
  have haf := fun h t l => afR_i64 h t l 10 s (by omega)
  have hcl := fun h g => cells_i64s h g s
  have hil := i64s_len s
  have hng := noG_i64s s
  have am1 := fun o0 o1 o2 o3 o4 o6 T => m85 [o0, o1, o2, o3, o4, .cells true [bs false m.body] T, o6] 5 (by simp) false false false T m.body (encb 4 ip.toNat) ia (10 :: s) (by omega) (by rw [l4]; omega) (by
    intro x hx
    rcases List.mem_cons.1 hx with h | h
    · omega
    · have := hsm x h; omega) rfl (by rw [List.length_cons]; omega)
  obtain ⟨b1, hb1⟩ : ∃ b1, b1 = inB1 ia s m.body ip := ⟨_, rfl⟩
  have lb1 : b1.length = m.body.length := by rw [hb1]; exact inB1_len _ _ _ _ (by omega)
  rw [← hb1] at qB
  rw [show atB m.body ia (encb 4 ip.toNat) (10 :: s) = b1 by rw [hb1]; rfl] at am1
  have am2 := fun o0 o1 o2 o3 o4 o6 T => m85 [o0, o1, o2, o3, o4, .cells true [bs false b1] T, o6] 5 (by simp) false false false T b1 (encb 2 pt) pa s (by omega) (by rw [l2]; omega) (by
    intro x hx
    have := hsm x hx; omega) rfl (by omega)
  have am3 := fun o0 o1 o2 o3 o4 o6 T => m85 [o0, o1, o2, o3, o4, .cells true [bs false b1] T, o6] 5 (by simp) false false false T b1 (encb 2 pt) 24 [22] (by omega) (by rw [l2]; omega) (by simp) rfl (by simp)
  obtain ⟨b2, hb2⟩ : ∃ b2, b2 = inB2 pa kd e s b1 pt := ⟨_, rfl⟩
  have lb2 : b2.length = b1.length := by rw [hb2]; exact inB2_len _ _ _ _ _ _ (by omega) (by omega)
  rw [← hb2] at qB
  clear hb1
  simp only [List.set_cons_succ, List.set_cons_zero, Int.cast_ofNat_Int] at am1 am2 am3 haf
  simp only [i64s, List.map_cons, List.map_nil, Int.cast_ofNat_Int] at am3
  simp only [mgC_eq, pkC_eq, enC_eq] at qe qi ⊢
  unfold tsums at hs
  have hpm : ∀ n : Nat, ((e.pr.toNat : Int) = (n : Int)) ↔ e.pr.toNat = n := fun n => by omega
  by_cases h6 : e.pr.toNat = 6
  · rw [if_pos h6] at hs
    have h6' : (e.pr.toNat : Int) = 6 := by omega
    have hb2' : atB b1 pa (encb 2 pt) s = b2 := by rw [hb2]; unfold inB2; rw [if_neg (by omega)]
    rw [hb2'] at am2
    rw [show inB3 e s b2 = b2 by unfold inB3; rw [if_neg (by omega)]] at qB
    clear hb2 hb2'
    generalize i64s (10 :: s) = S1 at *
    generalize i64s s = S at *
    rw [h6'] at qs qi
    simp (disch := first | omega | (simp only [List.length_cons, List.length_nil, List.length_append, List.length_map, List.length_set]; omega) | rfl | (simp only [List.length_cons, List.length_nil, List.length_append, List.length_map, List.length_set, List.length_replicate, List.all_cons, List.all_nil, List.all_append, storable, plainB, Bool.and_self]; done)) only [go_sem, reduceCtorEq, ↓reduceIte, reduceDIte, evI_callP, callPK_some, I58, hk, qe, qi, qr, lr, qs, hng, hs4, hs2, haf, hcl, hil, am1, am2, h6', qB]
  rw [if_neg h6] at hs
  have h6' : ¬ (e.pr.toNat : Int) = 6 := by omega
  by_cases h17 : e.pr.toNat = 17
  · rw [if_pos h17] at hs
    have h17' : (e.pr.toNat : Int) = 17 := by omega
    have hb2' : atB b1 pa (encb 2 pt) s = b2 := by rw [hb2]; unfold inB2; rw [if_neg (by omega)]
    rw [hb2'] at am2
    clear hb2 hb2' hsm hsl am3
    by_cases hn : n2 m.body 26 = 0
    · rw [if_pos hn] at hs
      rw [show inB3 e s b2 = b2 by unfold inB3; rw [if_neg (by rw [hs]; simp)]] at qB
      have hil0 : (i64s s).length = 0 := by rw [hil, hs]; rfl
      rw [show s.length = 0 by rw [hs]; rfl] at haf
      clear hs hil
      generalize i64s (10 :: s) = S1 at *
      generalize i64s s = S at *
      rw [h17'] at qs qi
      simp (disch := first | omega | (simp only [List.length_cons, List.length_nil, List.length_append, List.length_map, List.length_set]; omega) | rfl | (simp only [List.length_cons, List.length_nil, List.length_append, List.length_map, List.length_set, List.length_replicate, List.all_cons, List.all_nil, List.all_append, storable, plainB, Bool.and_self]; done)) only [go_sem, reduceCtorEq, ↓reduceIte, reduceDIte, evI_callP, callPK_some, I58, hk, qe, qi, qr, lr, qs, hng, hs4, hs2, haf, hcl, hil0, am1, am2, h17', qB]
    rw [if_neg hn] at hs
    have qa := fun g => at2 g b2 (by omega) 26 (by omega)
    have hia : ∀ h, iaddrK h 1 (.rs false 1 [.int .i64 26]) (.int .i64 0) = some (.rp false (.int .i64 26), h) := fun h => iaddr_i64s h false [26] 0 (by simp)
    simp only [Int.cast_ofNat_Int] at qa
    subst hs
    simp only [i64s, List.map_cons, List.map_nil, Int.cast_ofNat_Int, List.length_cons, List.length_nil, Nat.zero_add] at qs hng haf hcl hil am1 am2 qB
    by_cases hz : n2 b2 26 = 0
    · rw [show inB3 e [26] b2 = over b2 26 [255, 255] by unfold inB3; rw [if_pos ⟨h17, by simp, hz⟩]] at qB
      have ql := fun g => s79 g b2 (by omega) 26 65535 (by omega) (by omega)
      rw [encb_full] at ql
      simp only [Int.cast_ofNat_Int] at ql
      rw [hz] at qa
      simp only [Int.natCast_zero] at qa
      generalize over b2 26 [255, 255] = b3 at *
      rw [h17'] at qs qi
      simp (disch := first | omega | (simp only [List.length_cons, List.length_nil, List.length_append, List.length_map, List.length_set]; omega) | rfl | (simp only [List.length_cons, List.length_nil, List.length_append, List.length_map, List.length_set, List.length_replicate, List.all_cons, List.all_nil, List.all_append, storable, plainB, Bool.and_self]; done)) only [go_sem, reduceCtorEq, ↓reduceIte, reduceDIte, evI_callP, callPK_some, I58, hk, qe, qi, qr, lr, qs, hng, hs4, hs2, haf, hcl, hil, am1, am2, h17', hia, qa, ql, qB]
    · have hz' : ¬ ((n2 b2 26 : Nat) : Int) = 0 := by omega
      rw [show inB3 e [26] b2 = b2 by unfold inB3; rw [if_neg (fun h => hz h.2.2)]] at qB
      generalize n2 b2 26 = z at *
      rw [h17'] at qs qi
      simp (disch := first | omega | (simp only [List.length_cons, List.length_nil, List.length_append, List.length_map, List.length_set]; omega) | rfl | (simp only [List.length_cons, List.length_nil, List.length_append, List.length_map, List.length_set, List.length_replicate, List.all_cons, List.all_nil, List.all_append, storable, plainB, Bool.and_self]; done)) only [go_sem, reduceCtorEq, ↓reduceIte, reduceDIte, evI_callP, callPK_some, I58, hk, qe, qi, qr, lr, qs, hng, hs4, hs2, haf, hcl, hil, am1, am2, h17', hia, qa, hz', qB]
  rw [if_neg h17] at hs
  have h17' : ¬ (e.pr.toNat : Int) = 17 := by omega
  have h1 : e.pr.toNat = 1 := by rw [g1] at h6 h17 ⊢; omega
  have h1' : (e.pr.toNat : Int) = 1 := by omega
  rw [show inB3 e s b2 = b2 by unfold inB3; rw [if_neg (fun h => h17 h.1)]] at qB
  have hil0 : (i64s s).length = 0 := by rw [hil, hs]; rfl
  rw [show s.length = 0 by rw [hs]; rfl] at haf
  by_cases hkd : e.kd.toNat = kd.toNat
  · have hkd' : (e.kd.toNat : Int) = (kd.toNat : Int) := by omega
    have hb2' : atB b1 24 (encb 2 pt) [22] = b2 := by rw [hb2]; unfold inB2; rw [if_pos h1, if_pos hkd]
    rw [hb2'] at am3
    clear hs hil hb2 hb2' hsm hsl am2
    generalize i64s (10 :: s) = S1 at *
    generalize i64s s = S at *
    rw [h1'] at qs qi
    simp (disch := first | omega | (simp only [List.length_cons, List.length_nil, List.length_append, List.length_map, List.length_set]; omega) | rfl | (simp only [List.length_cons, List.length_nil, List.length_append, List.length_map, List.length_set, List.length_replicate, List.all_cons, List.all_nil, List.all_append, storable, plainB, Bool.and_self]; done)) only [go_sem, reduceCtorEq, ↓reduceIte, reduceDIte, evI_callP, callPK_some, I58, hk, qe, qi, qr, lr, qs, hng, hs4, hs2, haf, hcl, hil0, am1, am3, h1', h17', hkd', qB]
  · have hkd' : ¬ (e.kd.toNat : Int) = (kd.toNat : Int) := by omega
    have hb2' : b1 = b2 := by rw [hb2]; unfold inB2; rw [if_pos h1, if_neg hkd]
    rw [← hb2'] at qB
    clear hs hil hb2 hb2' hsm hsl am2 am3
    generalize i64s (10 :: s) = S1 at *
    generalize i64s s = S at *
    rw [h1'] at qs qi
    simp (disch := first | omega | (simp only [List.length_cons, List.length_nil, List.length_append, List.length_map, List.length_set]; omega) | rfl | (simp only [List.length_cons, List.length_nil, List.length_append, List.length_map, List.length_set, List.length_replicate, List.all_cons, List.all_nil, List.all_append, storable, plainB, Bool.and_self]; done)) only [go_sem, reduceCtorEq, ↓reduceIte, reduceDIte, evI_callP, callPK_some, I58, hk, qe, qi, qr, lr, qs, hng, hs4, hs2, haf, hcl, hil0, am1, h1', h17', hkd', qB]
theorem s58 (ia pa : Nat) (hia : ia + 4 ≤ 28) (hpa : pa + 2 ≤ 28) (kd : UInt8) (p : Pk) (hb : p.body.length ≤ 140737488355328) (ip : UInt32) (pt : Nat) (hpt : pt < 65536) :
    pcall E 58 [.agg (pkC p), .agg [.int .u32 (ip.toNat : Int), .int .u16 (pt : Int)], .int .i64 (ia : Int), .int .i64 (pa : Int), .int .u8 (kd.toNat : Int)] = some (.tup [.agg (pkC (trP ia pa kd p ip pt)), errV (trE p).1 (trE p).2], []) := by
  by_cases h : (trE p).2 = 0
  · rw [tr_ok ia pa hia hpa kd p hb ip pt hpt h, h, errV_zero]
  · rw [tr_err ia pa kd p hb ip pt h]
    unfold trP
    rw [if_neg h]
theorem s22 (p : Pk) (hb : p.body.length ≤ 140737488355328) (ip : UInt32) (pt : Nat) (hpt : pt < 65536) :
    pcall E 22 [.agg (pkC p), .agg [.int .u32 (ip.toNat : Int), .int .u16 (pt : Int)]] = some (.tup [.agg (pkC (trP 12 20 8 p ip pt)), errV (trE p).1 (trE p).2], []) := by
  rw [pcall_go (fn := I22) rfl rfl rfl]
  have hk : E.keep 22 = false := rfl
  have q := s58 12 20 (by omega) (by omega) 8 p hb ip pt hpt
  rw [show ((UInt8.toNat 8 : Nat) : Int) = 8 from rfl] at q
  simp only [Int.cast_ofNat_Int] at q
  by_cases h : (trE p).2 = 0
  · rw [h, errV_zero] at q ⊢
    generalize trP 12 20 8 p ip pt = r at *
    simp only [pkC_eq] at q ⊢
    simp (disch := first | omega | (simp only [List.length_cons, List.length_nil, List.length_append, List.length_map, List.length_set]; omega) | rfl | (simp only [List.length_cons, List.length_nil, List.length_append, List.length_map, List.length_set, List.length_replicate, List.all_cons, List.all_nil, List.all_append, storable, plainB, Bool.and_self]; done)) only [go_sem, reduceCtorEq, ↓reduceIte, reduceDIte, evI_callP, callPK_some, I22, hk, q]
  · rw [errV_pos _ h] at q ⊢
    generalize trP 12 20 8 p ip pt = r at *
    generalize (trE p).1 = r1 at *
    generalize (trE p).2 = n1 at *
    simp only [pkC_eq] at q ⊢
    simp (disch := first | omega | (simp only [List.length_cons, List.length_nil, List.length_append, List.length_map, List.length_set]; omega) | rfl | (simp only [List.length_cons, List.length_nil, List.length_append, List.length_map, List.length_set, List.length_replicate, List.all_cons, List.all_nil, List.all_append, storable, plainB, Bool.and_self]; done)) only [go_sem, reduceCtorEq, ↓reduceIte, reduceDIte, evI_callP, callPK_some, I22, hk, q]
/-- What turn.Inner answers. -/
def tnN (p : Pk) : En := if (emE p).2 = 0 then ieN (emP p) else En.zero
theorem s9 (p : Pk) (hb : p.body.length ≤ 140737488355328) : pcall E 9 [.agg (pkC p)] = some (.tup [.agg (enC (tnN p)), errV (trE p).1 (trE p).2], []) := by
  rw [pcall_go (fn := I9) rfl rfl rfl]
  have hk : E.keep 9 = false := rfl
  have qe := s39 p hb
  unfold trE tnN
  by_cases h1 : (emE p).2 = 0
  case neg =>
    simp only [h1, not_false_eq_true, if_true, if_false, enC_zero]
    rw [errV_pos _ h1] at qe ⊢
    generalize (emE p).1 = r at *
    generalize (emE p).2 = n at *
    generalize emM p = m at *
    generalize emP p = q at *
    simp only [pkC_eq, mgC_eq] at qe ⊢
    simp (disch := first | omega | (simp only [List.length_cons, List.length_nil, List.length_append, List.length_map, List.length_set]; omega) | rfl | (simp only [List.length_cons, List.length_nil, List.length_append, List.length_map, List.length_set, List.length_replicate, List.all_cons, List.all_nil, List.all_append, storable, plainB, Bool.and_self]; done)) only [go_sem, reduceCtorEq, ↓reduceIte, reduceDIte, evI_callP, callPK_some, I9, hk, qe]
  simp only [h1, not_true, if_true, if_false]
  obtain ⟨_, _, _, e4, _, _, e7⟩ := em_ok h1
  obtain ⟨e8, e9⟩ := red_len _ e7
  rw [← e4] at e7 e9
  have qi := s40 (emP p) e7 (by rw [List.length_drop] at e9; omega)
  rw [h1, errV_zero] at qe
  by_cases h2 : (ieE (emP p)).2 = 0
  · rw [h2, errV_zero] at qi ⊢
    generalize ieN (emP p) = e at *
    generalize emM p = m at *
    generalize emP p = q at *
    simp only [pkC_eq, mgC_eq, enC_eq] at qe qi ⊢
    simp (disch := first | omega | (simp only [List.length_cons, List.length_nil, List.length_append, List.length_map, List.length_set]; omega) | rfl | (simp only [List.length_cons, List.length_nil, List.length_append, List.length_map, List.length_set, List.length_replicate, List.all_cons, List.all_nil, List.all_append, storable, plainB, Bool.and_self]; done)) only [go_sem, reduceCtorEq, ↓reduceIte, reduceDIte, evI_callP, callPK_some, I9, hk, qe, qi]
  · rw [errV_pos _ h2] at qi ⊢
    generalize (ieE (emP p)).1 = r at *
    generalize (ieE (emP p)).2 = n at *
    generalize ieN (emP p) = e at *
    generalize emM p = m at *
    generalize emP p = q at *
    simp only [pkC_eq, mgC_eq, enC_eq] at qe qi ⊢
    simp (disch := first | omega | (simp only [List.length_cons, List.length_nil, List.length_append, List.length_map, List.length_set]; omega) | rfl | (simp only [List.length_cons, List.length_nil, List.length_append, List.length_map, List.length_set, List.length_replicate, List.all_cons, List.all_nil, List.all_append, storable, plainB, Bool.and_self]; done)) only [go_sem, reduceCtorEq, ↓reduceIte, reduceDIte, evI_callP, callPK_some, I9, hk, qe, qi]
theorem s4 : pcall E 4 [] = some (.bool true, []) := pcall_run 100 (by kernel_rfl)
end Go.Fw.Wd
