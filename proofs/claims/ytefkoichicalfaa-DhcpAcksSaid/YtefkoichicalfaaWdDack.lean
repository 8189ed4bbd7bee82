/-
  The law DhcpAcks at the evaluation. Conditions: none of the law.
-/
import Derived.Test.YtefkoichicalfaaWdDst
set_option linter.unusedVariables false
set_option linter.unusedSimpArgs false
set_option linter.unusedSectionVars false
namespace Go.Fw.Wd
open Go.Proofs Code_

/-! ### the plain law -/

theorem bU_mid {n : UInt64} (h : n.toNat ≤ 2305843009213693952) : bU n = n := if_pos h
theorem of_put (B : Bk) (c : List UInt8) (l : Ln) (now : UInt64) : (B.put c l).of c now = if l.til.toNat ≤ (bU now).toNat then none else some l := by
  unfold Bk.of Bk.put
  simp only [aget_aput, if_true]
  rfl
theorem own_bar {B : Bk} {n : Nat} (g : Bg B n) {ip : UInt32} (h : ip ∉ B.bar) : ip ≠ 167772161 := by
  rintro rfl
  refine h ?_
  rw [g.kin.bar]
  exact (mem_bars _ _ _).2 (.inr (by simp))
/-- What an answer tells of the book. -/
inductive Told (B B' : Bk) (m a : Msg) (now : UInt64) : Prop where
  | offer (ip : UInt32) (l' : Ln) (e1 : a = sayM smallC m 2 ip) (e2 : ip ≠ 167772161) (e3 : B'.of (clientL m) now = some l') (e4 : l'.ip = ip) (e5 : (∃ l, B.of (clientL m) now = some l ∧ l.ip = ip) ∨ (B.of (clientL m) now = none ∧ B.free ip now = true))
  | ack (ip : UInt32) (l : Ln) (t : UInt64) (e1 : a = sayM smallC m 5 ip) (e2 : ip ≠ 167772161) (e3 : B.of (clientL m) now = some l) (e4 : l.ip = ip) (e5 : B'.of (clientL m) now = some ⟨ip, true, t⟩) (e6 : t.toNat = now.toNat + 100)
  | nak (e1 : a = sayM smallC m 6 0) (e2 : B' = B)
theorem told_firm {B : Bk} {n : Nat} (g : Bg B n) (m : Msg) (now : UInt64) (hnow : now.toNat ≤ 1152921504606846976) (ip : UInt32) (a : Msg) (B' : Bk) (h : firmM smallC B (readQ smallC m now) ip = (B', some a)) : Told B B' m a now := by
  have e1 : bU now = now := bU_mid (by omega)
  obtain ⟨t, ht⟩ : ∃ t : UInt64, t.toNat = now.toNat + 100 := ⟨UInt64.ofNat (now.toNat + 100), by rw [UInt64.toNat_ofNat', Nat.mod_eq_of_lt (by omega)]⟩
  have e2 : addU now smallC.time = t := by
    apply UInt64.toNat_inj.1
    rw [addU_nat (by omega), ht]
    rfl
  have e3 : bU t = t := bU_mid (by omega)
  unfold firmM at h
  have h : (match B.firm (clientL m) ip (bU now) (addU (bU now) smallC.time) with | (B', e) => (B', some (if e = 0 then sayM smallC m 5 ip else sayM smallC m 6 0))) = (B', some a) := h
  rw [e1, e2] at h
  cases ho : B.of (clientL m) now with
  | none =>
    have hf : B.firm (clientL m) ip now t = (B, 17) := by
      unfold Bk.firm
      rw [ho]
    rw [hf] at h
    injection h with h1 h2
    injection h2 with h2
    exact .nak h2.symm h1.symm
  | some l =>
    by_cases hip : l.ip = ip
    · have hf : B.firm (clientL m) ip now t = (B.put (clientL m) ⟨ip, true, t⟩, 0) := by
        unfold Bk.firm
        rw [ho]
        simp only [hip, if_true, e3]
      rw [hf] at h
      injection h with h1 h2
      injection h2 with h2
      refine .ack ip l t h2.symm (own_bar g (hip ▸ g.inn _ (of_mem ho).1)) ho hip ?_ ht
      rw [← h1, of_put, if_neg (by rw [e1]; show ¬ t.toNat ≤ _; omega)]
    · have hf : B.firm (clientL m) ip now t = (B, 17) := by
        unfold Bk.firm
        rw [ho]
        simp only [hip, if_false]
      rw [hf] at h
      injection h with h1 h2
      injection h2 with h2
      exact .nak h2.symm h1.symm
theorem hear_told {B : Bk} {n : Nat} (g : Bg B n) (m : Msg) (now : UInt64) (hnow : now.toNat ≤ 1152921504606846976) (a : Msg) (B' : Bk) (h : hearM smallC B m now = (B', some a)) : Told B B' m a now := by
  have e1 : bU now = now := bU_mid (by omega)
  unfold hearM at h
  split at h
  · cases h
  split at h
  · unfold discM at h
    obtain ⟨t, ht⟩ : ∃ t : UInt64, t.toNat = now.toNat + 10 := ⟨UInt64.ofNat (now.toNat + 10), by rw [UInt64.toNat_ofNat', Nat.mod_eq_of_lt (by omega)]⟩
    have e2 : addU now smallC.hold = t := by
      apply UInt64.toNat_inj.1
      rw [addU_nat (by omega), ht]
      rfl
    have e3 : bU t = t := bU_mid (by omega)
    have h : (match B.offer (clientL m) (readQ smallC m now).wish (bU now) (addU (bU now) smallC.hold) with | (B', ip, e) => (B', if e = 0 then some (sayM smallC m 2 ip) else none)) = (B', some a) := h
    rw [e1, e2] at h
    generalize (readQ smallC m now).wish = w at h
    by_cases hc : clientL m = [] ∨ 255 < (clientL m).length
    · have hf : B.offer (clientL m) w now t = (B, 0, 10) := by
        unfold Bk.offer
        rw [if_pos hc]
      rw [hf] at h
      injection h with h1 h2
      cases h2
    cases ho : B.of (clientL m) now with
    | some l =>
      cases hfm : l.firm with
      | true =>
        have hf : B.offer (clientL m) w now t = (B, l.ip, 0) := by
          unfold Bk.offer
          rw [if_neg hc, ho]
          simp only [hfm, if_true]
        rw [hf] at h
        injection h with h1 h2
        injection h2 with h2
        refine .offer l.ip l h2.symm (own_bar g (g.inn _ (of_mem ho).1)) ?_ rfl (.inl ⟨l, ho, rfl⟩)
        rw [← h1]
        exact ho
      | false =>
        have hf : B.offer (clientL m) w now t = (B.put (clientL m) ⟨l.ip, false, t⟩, l.ip, 0) := by
          unfold Bk.offer
          rw [if_neg hc, ho]
          simp only [hfm, Bool.false_eq_true, if_false, e3]
        rw [hf] at h
        injection h with h1 h2
        injection h2 with h2
        refine .offer l.ip ⟨l.ip, false, t⟩ h2.symm (own_bar g (g.inn _ (of_mem ho).1)) ?_ rfl (.inl ⟨l, ho, rfl⟩)
        rw [← h1, of_put, if_neg (by rw [e1]; show ¬ t.toNat ≤ _; omega)]
    | none =>
      cases hfi : B.find w now with
      | none =>
        have hf : B.offer (clientL m) w now t = (B, 0, 18) := by
          unfold Bk.offer
          rw [if_neg hc, ho, hfi]
        rw [hf] at h
        injection h with h1 h2
        cases h2
      | some ip =>
        have hf : B.offer (clientL m) w now t = (B.put (clientL m) ⟨ip, false, t⟩, ip, 0) := by
          unfold Bk.offer
          rw [if_neg hc, ho, hfi]
          simp only [e3]
        rw [hf] at h
        injection h with h1 h2
        injection h2 with h2
        have hfr := find_free hfi
        refine .offer ip ⟨ip, false, t⟩ h2.symm (own_bar g (free_bar hfr)) ?_ rfl (.inr ⟨ho, hfr⟩)
        rw [← h1, of_put, if_neg (by rw [e1]; show ¬ t.toNat ≤ _; omega)]
  split at h
  · unfold wantM at h
    split at h
    · cases h
    split at h
    · split at h
      · exact told_firm g m now hnow _ a B' h
      · injection h with h1 h2
        injection h2 with h2
        exact .nak h2.symm h1.symm
    split at h
    · cases h
    · exact told_firm g m now hnow _ a B' h
  split at h
  · cases h
  · cases h
/-! ### what an answer bears -/

theorem numO_ip (c : UInt8) (ip : UInt32) (l : List Opt) : numO ((c, encb 4 ip.toNat) :: l) c 4 = (ip.toNat, true) := by
  have := ip.toNat_lt
  unfold numO findO
  simp only [if_true, encb_length]
  rw [num_encb_of (by omega)]
  rfl
theorem numO_ne {c d : UInt8} (h : c ≠ d) (x : List UInt8) (l : List Opt) (n : Int) : numO ((c, x) :: l) d n = numO l d n := by
  have e : findO ((c, x) :: l) d = findO l d := by
    show (if c = d then some x else findO l d) = _
    rw [if_neg h]
  unfold numO
  rw [e]
theorem say_o (m : Msg) (k : Int) (hk : k ≠ 6) (ip : UInt32) : (sayM smallC m k ip).o = [(53, [kb k]), (54, encb 4 (UInt32.toNat 167772161)), (1, encb 4 (UInt32.toNat 4294967040)), (3, encb 4 (UInt32.toNat 167772161)), (51, encb 4 (UInt32.toNat 100))] := by
  unfold sayM
  rw [if_neg hk]
  rfl
theorem say_mask (m : Msg) (k : Int) (hk : k ≠ 6) (ip : UInt32) : numO (sayM smallC m k ip).o 1 4 = (4294967040, true) := by
  rw [say_o m k hk, numO_ne (by decide), numO_ne (by decide)]
  exact numO_ip 1 4294967040 _
theorem say_router (m : Msg) (k : Int) (hk : k ≠ 6) (ip : UInt32) : numO (sayM smallC m k ip).o 3 4 = (167772161, true) := by
  rw [say_o m k hk, numO_ne (by decide), numO_ne (by decide), numO_ne (by decide)]
  exact numO_ip 3 167772161 _
theorem say_time (m : Msg) (k : Int) (hk : k ≠ 6) (ip : UInt32) : numO (sayM smallC m k ip).o 51 4 = (100, true) := by
  rw [say_o m k hk, numO_ne (by decide), numO_ne (by decide), numO_ne (by decide), numO_ne (by decide)]
  exact numO_ip 51 100 _
theorem small_say (m : Msg) (k : Int) (ip : UInt32) : small (sayM smallC m k ip).o := by
  unfold sayM
  split
  · refine ⟨by show 2 ≤ 1048576; omega, fun o ho => ?_⟩
    simp only [answerM, List.mem_cons, List.not_mem_nil, or_false] at ho
    rcases ho with rfl | rfl
    · show 1 ≤ 1048576; omega
    · show (encb 4 _).length ≤ _; rw [encb_length]; omega
  · refine ⟨by show 5 ≤ 1048576; omega, fun o ho => ?_⟩
    simp only [answerM, List.mem_cons, List.not_mem_nil, or_false] at ho
    rcases ho with rfl | rfl | rfl | rfl | rfl
    · show 1 ≤ 1048576; omega
    all_goals (show (encb 4 _).length ≤ _; rw [encb_length]; omega)
/-- The parts of an answer that it takes over. -/
structure Took (m a : Msg) (yi : UInt32) : Prop where
  op : a.op = 2
  xid : a.xid = m.xid
  yi : a.yi = yi
  ma : a.a = m.a
  mb : a.b = m.b
  mc : a.c = m.c
  md : a.d = m.d
  me : a.e = m.e
  mf : a.f = m.f
  sm : small a.o
theorem took (m : Msg) (k : Int) (ip : UInt32) : Took m (sayM smallC m k ip) (if k = 6 then 0 else ip) := by
  have hs := small_say m k ip
  unfold sayM at hs ⊢
  by_cases h : k = 6
  · subst h
    exact ⟨rfl, rfl, rfl, rfl, rfl, rfl, rfl, rfl, rfl, hs⟩
  · rw [if_neg h] at hs ⊢
    rw [if_neg h]
    exact ⟨rfl, rfl, rfl, rfl, rfl, rfl, rfl, rfl, rfl, hs⟩

/-! ### memory -/

def acon : AObj := .cells true smallV 36
theorem acon_eq : acon = .cells true [.int .u32 167772161, .int .u32 4294967040, .int .u32 167772161, .int .u32 167772163, .int .u32 100, .int .u32 10, .int .u32 50] 36 := rfl
def tmsg (m : Msg) : AObj := .cells true (encG false m) 29
theorem tmsg_eq (m : Msg) : tmsg m = .cells true [.int .u8 (m.op.toNat : Int), .int .u32 (m.xid.toNat : Int), .int .u16 (m.secs.toNat : Int), .bool m.wide, .int .u32 (m.ci.toNat : Int), .int .u32 (m.yi.toNat : Int), .int .u32 (m.si.toNat : Int), .int .u32 (m.gi.toNat : Int),
  .int .u8 (m.a.toNat : Int), .int .u8 (m.b.toNat : Int), .int .u8 (m.c.toNat : Int), .int .u8 (m.d.toNat : Int), .int .u8 (m.e.toNat : Int), .int .u8 (m.f.toNat : Int), opts false m.o] 29 := rfl
theorem clone_at {h : Heap} {p : Pl} {B : Bk} (g : Gets h p B) : mkK h (E.mkr 20) (.ref p.k 0 0) = some (.ref h.length 0 0, h ++ [B.cobj p.kb]) := by
  have e : E.mkr 20 = some cloneQ := rfl
  rw [e]
  simp only [mkK, cloneQ, g.bk, g.bl, g.br, Option.map_some, Nat.add_zero]
theorem free_mix (g g1 g2 g3 : Bool) (B : Bk) (ip : UInt32) (now : UInt64) : pcall E 22 [.rp g (.agg [.int .u32 (B.fst.toNat : Int), .int .u32 (B.lst.toNat : Int), .rm g1 (.int .u32) (encB B.bar), .rm g2 .str (encL B.ln), .rm g3 (.int .u32) (encR B.rs)]), w32 ip, i64u now] = some (.bool (B.free ip now), []) := by
  rw [pcall_prim (p := freeP) rfl]
  have h := s22 true B ip now
  rw [pcall_prim (p := freeP) rfl] at h
  exact h

/-- A round: what is told of the memory behind it. -/
theorem ack_round (l : List Cm) (hl : l.length ≤ 60) (p : Pl) (i : Nat) (hil : i < l.length) (B : Bk) (H : Heap) (v : Lv (acon :: H) p B i) (hci : small l[i].m.o) (now : UInt64) (hnow : now.toNat ≤ 1152921504606846976) :
    ∃ (t : UInt64) (B' : Bk) (H' : Heap), t.toNat ≤ 1152921504606846976 ∧ Lv (acon :: H') p B' (i + 1) ∧
    T4_0 E (lp E L4_0 [(0, cmR l), (3, .ref 0 0 0), (4, .ref p.s 0 0), (6, i64u now), (7, .int .i64 (i : Int))] (acon :: H)) =
    T4_0 E (lp E L4_0 [(0, cmR l), (3, .ref 0 0 0), (4, .ref p.s 0 0), (6, i64u t), (7, .int .i64 ((i + 1 : Nat) : Int))] (acon :: H')) := by
  have hlt : (i : Int) < (l.length : Int) := by omega
  have hia := cm_iaddr hil hl
  obtain ⟨cm, hcm⟩ : ∃ c, l[i] = c := ⟨_, rfl⟩
  rw [hcm] at hia hci
  obtain ⟨m, t0, sw⟩ := cm
  obtain ⟨t, ht⟩ : ∃ t : UInt64, t.toNat = max now.toNat (min t0.toNat 1152921504606846976) := ⟨UInt64.ofNat (max now.toNat (min t0.toNat 1152921504606846976)), by rw [UInt64.toNat_ofNat', Nat.mod_eq_of_lt (by omega)]⟩
  have htm : t.toNat ≤ 1152921504606846976 := by omega
  have hmm : max (now.toNat : Int) (min (t0.toNat : Int) 1152921504606846976) = (t.toNat : Int) := by omega
  have hw : IntKind.i64.wrap ((i : Int) + 1) = ((i + 1 : Nat) : Int) := by
    rw [w64 (by omega) (by omega)]
    omega
  have x1 := fun X => (v.app X).gets
  have x0 := v.gets
  have y1 := fun X => (x1 X).sv
  have y2 := fun X => (x1 X).bk
  have y3 := fun X => (x1 X).bb
  have y4 := fun X => (x1 X).bl
  have y5 := fun X => (x1 X).br
  have o1 := x0.sv
  have o2 := x0.bk
  have hrd := rd_book
  simp only [acon_eq, List.cons_append] at y1 y2 y3 y4 y5 o1 o2
  rw [L4_0_go]
  cases sw with
  | true =>
    obtain ⟨h', k, q, v', cs⟩ := v.sweep (by omega) t
    obtain ⟨H2, rfl⟩ := cs.head (show acon = .cells true smallV 36 from rfl)
    refine ⟨t, _, H2, htm, v', ?_⟩
    simp only [acon_eq] at q ⊢
    simp (disch := first | omega | (simp only [List.length_cons, List.length_nil, List.length_append, List.length_map, List.length_set]; omega) | rfl | (simp only [List.length_cons, List.length_nil, List.length_append, List.length_map, List.length_set, List.length_replicate, List.all_cons, List.all_nil, List.all_append, storable, plainB, Bool.and_self]; done)) only [go_sem, reduceCtorEq, ↓reduceIte, reduceDIte, evI_callP, callPK_some, B4_0, hlt, hia, hmm, hw, hrd, evI_callM, q, o1, o2, L4_0_lp]
  | false =>
  have hm : small m.o := hci
  obtain ⟨c, hcc⟩ : ∃ c, clientL m = c := ⟨_, rfl⟩
  have hc1 : c.length ≤ 1048576 := by
    rw [← hcc]
    unfold clientL
    split
    · rename_i d hd
      split
      · simp [macL]
      · exact findO_small hm hd
    · simp [macL]
  obtain ⟨W, hW⟩ : ∃ W, B.of c t = W := ⟨_, rfl⟩
  obtain ⟨z, hz⟩ : ∃ z, W.getD zLn = z := ⟨_, rfl⟩
  obtain ⟨was, hwas⟩ : ∃ was, was = AObj.cells true [.int .u32 (z.ip.toNat : Int), .bool z.firm, .int .u64 (z.til.toNat : Int)] 53 := ⟨_, rfl⟩
  have v2 : Lv (acon :: (H ++ [tmsg m, was, B.cobj p.kb])) p B i := v.app [tmsg m, was, B.cobj p.kb]
  obtain ⟨h', q, v3, cs⟩ := v2.hear (by omega) m hm t
  obtain ⟨H2, rfl⟩ := cs.head (show acon = .cells true smallV 36 from rfl)
  obtain ⟨D, hD⟩ : ∃ D, hearM smallC B m t = D := ⟨_, rfl⟩
  obtain ⟨B2, A⟩ := D
  rw [hD] at q v3
  simp only at q v3
  have g1 : H2[H.length]? = some (tmsg m) := cs (H.length + 1) true (encG false m) 29 (gtop H (tmsg m) [was, B.cobj p.kb])
  have g2 : H2[H.length + 1]? = some was := by
    rw [hwas]
    refine cs (H.length + 2) true _ _ ?_
    rw [hwas]
    exact gtop1 H (tmsg m) _ [B.cobj p.kb]
  have g3 : H2[H.length + 1 + 1]? = some (B.cobj p.kb) := by
    refine cs (H.length + 3) true _ _ ?_
    exact gtop2 H (tmsg m) was _ []
  have g1' := gapp g1
  have g2' := gapp g2
  have g3' := gapp g3
  have g3b : ∀ X, (H2 ++ X)[H.length + 2]? = some (B.cobj p.kb) := g3'
  have hbar : B2.bar = B.bar := by
    have h := kin_hear smallC B m t
    rw [hD] at h
    exact h.bar
  have t1 := gtop H
  have t2 := stop H
  have t3 := gtop1 H
  have t4 := stop1 H
  have r1 := gtop H2
  have r2 := stop H2
  have r3 := gtop1 H2
  have r4 := stop1 H2
  have x3 := fun X => (v3.app X).gets
  have w1 := fun X => (x3 X).sv
  have w2 := fun X => (x3 X).bk
  have w3 := fun X => (x3 X).bb
  have w4 := fun X => (x3 X).bl
  have w5 := fun X => (x3 X).br
  have qcl := fun X => clone_at (x1 X)
  have q10 := fun g => s10 g m hm
  have q10 : ∀ g, pcall E 10 [.agg (encG g m)] = some (sv c, []) := fun g => by
    rw [← hcc]
    exact q10 g
  have q16 := fun g => s16 g B c hc1 t
  rw [hW, hz] at q16
  have q16b := fun g => s16 g B2 c hc1 t
  simp only [acon_eq, List.cons_append] at w1 w2 w3 w4 w5 qcl
  simp only [tmsg_eq, opts, recs] at g1 g1'
  rw [hwas] at q g2 g2'
  simp only [encG_eq false m, acon_eq, tmsg_eq, opts, recs, i64u] at q
  simp only [encG_eq, opts, recs] at q10
  cases A with
  | none =>
    have v4 : Lv (acon :: (H2 ++ [.cells true zC 29])) p B2 (i + 1) := v3.app [.cells true zC 29]
    refine ⟨t, B2, _, htm, v4, ?_⟩
    simp only [ansV, zC_eq, zC] at q ⊢
    simp only [acon_eq]
    simp (disch := first | omega | (simp only [List.length_cons, List.length_nil, List.length_append, List.length_map, List.length_set]; omega) | rfl | (simp only [List.length_cons, List.length_nil, List.length_append, List.length_map, List.length_set, List.length_replicate, List.all_cons, List.all_nil, List.all_append, storable, plainB, Bool.and_self]; done)) only [go_sem, reduceCtorEq, ↓reduceIte, reduceDIte, evI_callP, callPK_some, B4_0, evI_callM, hlt, hia, hmm, hw, hrd, q, qcl, q10, q16, q16b, y1, y2, y3, y4, y5, w1, w2, w3, w4, w5, t1, t2, t3, t4, r1, r2, r3, r4, g1, g2, g3, g1', g2', g3', L4_0_lp, List.append_assoc, List.cons_append]
  | some a =>
  have told := hear_told v.bg m t htm a B2 hD
  obtain ⟨W2, hW2⟩ : ∃ W, B2.of c t = W := ⟨_, rfl⟩
  obtain ⟨z2, hz2⟩ : ∃ z, W2.getD zLn = z := ⟨_, rfl⟩
  rw [hW2, hz2] at q16b
  have v4 : Lv (acon :: (H2 ++ [tmsg a, .cells true [.int .u32 (z2.ip.toNat : Int), .bool z2.firm, .int .u64 (z2.til.toNat : Int)] 53])) p B2 (i + 1) := v3.app _
  refine ⟨t, B2, _, htm, v4, ?_⟩
  simp only [ansV, encG_eq, opts, recs] at q
  simp only [acon_eq, tmsg_eq, opts, recs]
  cases told with
  | offer ip l' e1 e2 e3 e4 e5 =>
      have tk : Took m a ip := by
        have h := took m 2 ip
        rw [if_neg (by decide)] at h
        rw [e1]
        exact h
      have q18 : ∀ g, pcall E 18 [.agg (encG g a)] = some (.int .i64 2, []) := fun g => by
        have h := s18 g a tk.sm
        have e : (numO a.o 53 1).1 = 2 := by rw [e1]; rfl
        rw [e] at h
        exact h
      have qm : ∀ g, pcall E 21 [opts g a.o, .int .u8 1, .int .i64 4] = some (.tup [.int .u32 4294967040, .bool true], []) := fun g => by
        have h := s21 g a.o 1 4 tk.sm
        have e : numO a.o 1 4 = (4294967040, true) := by rw [e1]; exact say_mask m 2 (by decide) ip
        rw [e] at h
        exact h
      have qr : ∀ g, pcall E 21 [opts g a.o, .int .u8 3, .int .i64 4] = some (.tup [.int .u32 167772161, .bool true], []) := fun g => by
        have h := s21 g a.o 3 4 tk.sm
        have e : numO a.o 3 4 = (167772161, true) := by rw [e1]; exact say_router m 2 (by decide) ip
        rw [e] at h
        exact h
      have qt : ∀ g, pcall E 21 [opts g a.o, .int .u8 51, .int .i64 4] = some (.tup [.int .u32 100, .bool true], []) := fun g => by
        have h := s21 g a.o 51 4 tk.sm
        have e : numO a.o 51 4 = (100, true) := by rw [e1]; exact say_time m 2 (by decide) ip
        rw [e] at h
        exact h
      have hop : ((a.op.toNat : Int) = 2) = True := eq_true (by rw [tk.op]; rfl)
      have hxid : ((a.xid.toNat : Int) = (m.xid.toNat : Int)) = True := eq_true (by rw [tk.xid])
      have hma : ((a.a.toNat : Int) = (m.a.toNat : Int)) = True := eq_true (by rw [tk.ma])
      have hmb : ((a.b.toNat : Int) = (m.b.toNat : Int)) = True := eq_true (by rw [tk.mb])
      have hmc : ((a.c.toNat : Int) = (m.c.toNat : Int)) = True := eq_true (by rw [tk.mc])
      have hmd : ((a.d.toNat : Int) = (m.d.toNat : Int)) = True := eq_true (by rw [tk.md])
      have hme : ((a.e.toNat : Int) = (m.e.toNat : Int)) = True := eq_true (by rw [tk.me])
      have hmf : ((a.f.toNat : Int) = (m.f.toNat : Int)) = True := eq_true (by rw [tk.mf])
      have hown : ((a.yi.toNat : Int) = 167772161) = False := eq_false (fun h => by
        have h2 : a.yi = 167772161 := UInt32.toNat_inj.1 (by show a.yi.toNat = 167772161; omega)
        rw [tk.yi] at h2
        exact e2 h2)
      simp only [encG_eq, opts, recs] at q18 qm qr qt
      rw [hcc] at e3 e5
      rw [hW2] at e3
      subst e3
      have z2e : z2 = l' := hz2.symm
      have hy2 : ((z2.ip.toNat : Int) = (a.yi.toNat : Int)) = True := eq_true (by rw [tk.yi, z2e, e4])
      rcases e5 with ⟨lo, e5, e6⟩ | ⟨e5, e6⟩
      · rw [hW] at e5
        subst e5
        have ze : z = lo := hz.symm
        have hy1 : ((z.ip.toNat : Int) = (a.yi.toNat : Int)) = True := eq_true (by rw [tk.yi, ze, e6])
        simp (disch := first | omega | (simp only [List.length_cons, List.length_nil, List.length_append, List.length_map, List.length_set]; omega) | rfl | (simp only [List.length_cons, List.length_nil, List.length_append, List.length_map, List.length_set, List.length_replicate, List.all_cons, List.all_nil, List.all_append, storable, plainB, Bool.and_self]; done)) only [go_sem, reduceCtorEq, ↓reduceIte, reduceDIte, evI_callP, callPK_some, B4_0, evI_callM, hlt, hia, hmm, hw, hrd, q, qcl, q10, q16, q16b, q18, qm, qr, qt, y1, y2, y3, y4, y5, w1, w2, w3, w4, w5, t1, t2, t3, t4, r1, r2, r3, r4, g1, g2, g3, g1', g2', g3', hop, hxid, hma, hmb, hmc, hmd, hme, hmf, hown, L4_0_lp, List.append_assoc, List.cons_append, hy1, hy2]
      · rw [hW] at e5
        subst e5
        have qf := fun g g1 g2 g3 => free_mix g g1 g2 g3 B a.yi t
        rw [tk.yi, e6, ← tk.yi, ← hbar] at qf
        simp (disch := first | omega | (simp only [List.length_cons, List.length_nil, List.length_append, List.length_map, List.length_set]; omega) | rfl | (simp only [List.length_cons, List.length_nil, List.length_append, List.length_map, List.length_set, List.length_replicate, List.all_cons, List.all_nil, List.all_append, storable, plainB, Bool.and_self]; done)) only [go_sem, reduceCtorEq, ↓reduceIte, reduceDIte, evI_callP, callPK_some, B4_0, evI_callM, hlt, hia, hmm, hw, hrd, q, qcl, q10, q16, q16b, q18, qm, qr, qt, y1, y2, y3, y4, y5, w1, w2, w3, w4, w5, t1, t2, t3, t4, r1, r2, r3, r4, g1, g2, g3, g1', g2', g3', hop, hxid, hma, hmb, hmc, hmd, hme, hmf, hown, L4_0_lp, List.append_assoc, List.cons_append, hy2, qf, g3b]
  | ack ip lo tt e1 e2 e3 e4 e5 e6 =>
      have tk : Took m a ip := by
        have h := took m 5 ip
        rw [if_neg (by decide)] at h
        rw [e1]
        exact h
      have q18 : ∀ g, pcall E 18 [.agg (encG g a)] = some (.int .i64 5, []) := fun g => by
        have h := s18 g a tk.sm
        have e : (numO a.o 53 1).1 = 5 := by rw [e1]; rfl
        rw [e] at h
        exact h
      have qm : ∀ g, pcall E 21 [opts g a.o, .int .u8 1, .int .i64 4] = some (.tup [.int .u32 4294967040, .bool true], []) := fun g => by
        have h := s21 g a.o 1 4 tk.sm
        have e : numO a.o 1 4 = (4294967040, true) := by rw [e1]; exact say_mask m 5 (by decide) ip
        rw [e] at h
        exact h
      have qr : ∀ g, pcall E 21 [opts g a.o, .int .u8 3, .int .i64 4] = some (.tup [.int .u32 167772161, .bool true], []) := fun g => by
        have h := s21 g a.o 3 4 tk.sm
        have e : numO a.o 3 4 = (167772161, true) := by rw [e1]; exact say_router m 5 (by decide) ip
        rw [e] at h
        exact h
      have qt : ∀ g, pcall E 21 [opts g a.o, .int .u8 51, .int .i64 4] = some (.tup [.int .u32 100, .bool true], []) := fun g => by
        have h := s21 g a.o 51 4 tk.sm
        have e : numO a.o 51 4 = (100, true) := by rw [e1]; exact say_time m 5 (by decide) ip
        rw [e] at h
        exact h
      have hop : ((a.op.toNat : Int) = 2) = True := eq_true (by rw [tk.op]; rfl)
      have hxid : ((a.xid.toNat : Int) = (m.xid.toNat : Int)) = True := eq_true (by rw [tk.xid])
      have hma : ((a.a.toNat : Int) = (m.a.toNat : Int)) = True := eq_true (by rw [tk.ma])
      have hmb : ((a.b.toNat : Int) = (m.b.toNat : Int)) = True := eq_true (by rw [tk.mb])
      have hmc : ((a.c.toNat : Int) = (m.c.toNat : Int)) = True := eq_true (by rw [tk.mc])
      have hmd : ((a.d.toNat : Int) = (m.d.toNat : Int)) = True := eq_true (by rw [tk.md])
      have hme : ((a.e.toNat : Int) = (m.e.toNat : Int)) = True := eq_true (by rw [tk.me])
      have hmf : ((a.f.toNat : Int) = (m.f.toNat : Int)) = True := eq_true (by rw [tk.mf])
      have hown : ((a.yi.toNat : Int) = 167772161) = False := eq_false (fun h => by
        have h2 : a.yi = 167772161 := UInt32.toNat_inj.1 (by show a.yi.toNat = 167772161; omega)
        rw [tk.yi] at h2
        exact e2 h2)
      simp only [encG_eq, opts, recs] at q18 qm qr qt
      rw [hcc] at e3 e5
      rw [hW] at e3
      rw [hW2] at e5
      subst e3
      subst e5
      have ze : z = lo := hz.symm
      have z2e : z2 = ⟨ip, true, tt⟩ := hz2.symm
      have hy1 : ((z.ip.toNat : Int) = (a.yi.toNat : Int)) = True := eq_true (by rw [tk.yi, ze, e4])
      have hy2 : ((z2.ip.toNat : Int) = (a.yi.toNat : Int)) = True := eq_true (by rw [tk.yi, z2e])
      have hz2f : z2.firm = true := by rw [z2e]
      have hz2t : z2.til.toNat = t.toNat + 100 := by rw [z2e]; exact e6
      have hw100 : IntKind.u64.wrap 100 = 100 := by decide
      have hwt : IntKind.u64.wrap ((t.toNat : Int) + 100) = (z2.til.toNat : Int) := by rw [wu64 (by omega) (by omega)]; omega
      simp (disch := first | omega | (simp only [List.length_cons, List.length_nil, List.length_append, List.length_map, List.length_set]; omega) | rfl | (simp only [List.length_cons, List.length_nil, List.length_append, List.length_map, List.length_set, List.length_replicate, List.all_cons, List.all_nil, List.all_append, storable, plainB, Bool.and_self]; done)) only [go_sem, reduceCtorEq, ↓reduceIte, reduceDIte, evI_callP, callPK_some, B4_0, evI_callM, hlt, hia, hmm, hw, hrd, q, qcl, q10, q16, q16b, q18, qm, qr, qt, y1, y2, y3, y4, y5, w1, w2, w3, w4, w5, t1, t2, t3, t4, r1, r2, r3, r4, g1, g2, g3, g1', g2', g3', hop, hxid, hma, hmb, hmc, hmd, hme, hmf, hown, L4_0_lp, List.append_assoc, List.cons_append, hy1, hy2, hz2f, hw100, hwt]
  | nak e1 e2 =>
      have tk : Took m a 0 := by
        have h := took m 6 0
        rw [if_pos rfl] at h
        rw [e1]
        exact h
      have q18 : ∀ g, pcall E 18 [.agg (encG g a)] = some (.int .i64 6, []) := fun g => by
        have h := s18 g a tk.sm
        have e : (numO a.o 53 1).1 = 6 := by rw [e1]; rfl
        rw [e] at h
        exact h
      have qm : ∀ g, pcall E 21 [opts g a.o, .int .u8 1, .int .i64 4] = some (.tup [.int .u32 0, .bool false], []) := fun g => by
        have h := s21 g a.o 1 4 tk.sm
        have e : numO a.o 1 4 = (0, false) := by rw [e1]; exact rfl
        rw [e] at h
        exact h
      have qr : ∀ g, pcall E 21 [opts g a.o, .int .u8 3, .int .i64 4] = some (.tup [.int .u32 0, .bool false], []) := fun g => by
        have h := s21 g a.o 3 4 tk.sm
        have e : numO a.o 3 4 = (0, false) := by rw [e1]; exact rfl
        rw [e] at h
        exact h
      have qt : ∀ g, pcall E 21 [opts g a.o, .int .u8 51, .int .i64 4] = some (.tup [.int .u32 0, .bool false], []) := fun g => by
        have h := s21 g a.o 51 4 tk.sm
        have e : numO a.o 51 4 = (0, false) := by rw [e1]; exact rfl
        rw [e] at h
        exact h
      have hop : ((a.op.toNat : Int) = 2) = True := eq_true (by rw [tk.op]; rfl)
      have hxid : ((a.xid.toNat : Int) = (m.xid.toNat : Int)) = True := eq_true (by rw [tk.xid])
      have hma : ((a.a.toNat : Int) = (m.a.toNat : Int)) = True := eq_true (by rw [tk.ma])
      have hmb : ((a.b.toNat : Int) = (m.b.toNat : Int)) = True := eq_true (by rw [tk.mb])
      have hmc : ((a.c.toNat : Int) = (m.c.toNat : Int)) = True := eq_true (by rw [tk.mc])
      have hmd : ((a.d.toNat : Int) = (m.d.toNat : Int)) = True := eq_true (by rw [tk.md])
      have hme : ((a.e.toNat : Int) = (m.e.toNat : Int)) = True := eq_true (by rw [tk.me])
      have hmf : ((a.f.toNat : Int) = (m.f.toNat : Int)) = True := eq_true (by rw [tk.mf])
      have hown : ((a.yi.toNat : Int) = 167772161) = False := eq_false (fun h => by
        have h2 : a.yi = 167772161 := UInt32.toNat_inj.1 (by show a.yi.toNat = 167772161; omega)
        rw [tk.yi] at h2
        exact absurd h2 (by decide))
      simp only [encG_eq, opts, recs] at q18 qm qr qt
      subst e2
      rw [hW] at hW2
      subst hW2
      have hzz : z2 = z := hz2.symm.trans hz
      subst hzz
      have hy0 : ((a.yi.toNat : Int) = 0) = True := eq_true (by rw [tk.yi]; rfl)
      obtain ⟨wb, hwb⟩ : ∃ b, W.isSome = b := ⟨_, rfl⟩
      rw [hwb] at q16 q16b
      simp (disch := first | omega | (simp only [List.length_cons, List.length_nil, List.length_append, List.length_map, List.length_set]; omega) | rfl | (simp only [List.length_cons, List.length_nil, List.length_append, List.length_map, List.length_set, List.length_replicate, List.all_cons, List.all_nil, List.all_append, storable, plainB, Bool.and_self]; done)) only [go_sem, reduceCtorEq, ↓reduceIte, reduceDIte, evI_callP, callPK_some, B4_0, evI_callM, hlt, hia, hmm, hw, hrd, q, qcl, q10, q16, q16b, q18, qm, qr, qt, y1, y2, y3, y4, y5, w1, w2, w3, w4, w5, t1, t2, t3, t4, r1, r2, r3, r4, g1, g2, g3, g1', g2', g3', hop, hxid, hma, hmb, hmc, hmd, hme, hmf, hown, L4_0_lp, List.append_assoc, List.cons_append, hy0]
theorem ack_loop (l : List Cm) (hl : l.length ≤ 60) (hs : ∀ c ∈ l, small c.m.o) (p : Pl) : ∀ (n i : Nat) (B : Bk) (H : Heap) (now : UInt64), i + n = l.length → Lv (acon :: H) p B i → now.toNat ≤ 1152921504606846976 →
    ∃ X, T4_0 E (lp E L4_0 [(0, cmR l), (3, .ref 0 0 0), (4, .ref p.s 0 0), (6, i64u now), (7, .int .i64 (i : Int))] (acon :: H)) = some (.bool true, X) := by
  intro n
  induction n with
  | zero =>
    intro i B H now hi v hnow
    have hlt : ¬ ((i : Int) < (l.length : Int)) := by omega
    rw [L4_0_go]
    simp (disch := first | omega | (simp only [List.length_cons, List.length_nil, List.length_append, List.length_map, List.length_set]; omega) | rfl | (simp only [List.length_cons, List.length_nil, List.length_append, List.length_map, List.length_set, List.length_replicate, List.all_cons, List.all_nil, List.all_append, storable, plainB, Bool.and_self]; done)) only [go_sem, reduceCtorEq, ↓reduceIte, reduceDIte, evI_callP, callPK_some, B4_0, T4_0, hlt]
    exact ⟨_, rfl⟩
  | succ n ih =>
    intro i B H now hi v hnow
    have hil : i < l.length := by omega
    obtain ⟨t, B', H', h1, h2, h3⟩ := ack_round l hl p i hil B H v (hs l[i] (List.getElem_mem hil)) now hnow
    rw [h3]
    exact ih (i + 1) B' H' t (by omega) h2 h1
theorem s4 (l : List Cm) : pcall E 4 [cmR l] = some (.bool true, []) := by
  have q7 := s7
  have q8 := s8 l
  have q9 := s9
  have hk : E.keep 4 = false := rfl
  rw [pcall_go (fn := I4) rfl rfl rfl]
  cases hg : tooG l with
  | true =>
    rw [hg] at q8
    simp (disch := first | omega | (simp only [List.length_cons, List.length_nil, List.length_append, List.length_map, List.length_set]; omega) | rfl | (simp only [List.length_cons, List.length_nil, List.length_append, List.length_map, List.length_set, List.length_replicate, List.all_cons, List.all_nil, List.all_append, storable, plainB, Bool.and_self]; done)) only [go_sem, reduceCtorEq, ↓reduceIte, reduceDIte, evI_callP, callPK_some, I4, hk, q7, q8]
  | false =>
  rw [hg] at q8
  obtain ⟨g1, g2⟩ := tooG_not hg
  obtain ⟨X, p, q11, v0, _⟩ := new_lv [acon]
  obtain ⟨H0, hX⟩ : ∃ H0, [acon] ++ X = acon :: H0 := ⟨X, rfl⟩
  rw [hX] at q11 v0
  obtain ⟨Y, k2⟩ := ack_loop l g1 g2 p l.length 0 smallB H0 0 (by omega) v0 (by decide)
  have y1 := v0.gets
  have e1 := y1.sv
  have e2 := y1.bk
  simp only [acon_eq, i64u, show ((UInt64.toNat 0 : Nat) : Int) = 0 from rfl] at q11 k2 e1 e2
  have hrd := rd_book
  simp (disch := first | omega | (simp only [List.length_cons, List.length_nil, List.length_append, List.length_map, List.length_set]; omega) | rfl | (simp only [List.length_cons, List.length_nil, List.length_append, List.length_map, List.length_set, List.length_replicate, List.all_cons, List.all_nil, List.all_append, storable, plainB, Bool.and_self]; done)) only [go_sem, reduceCtorEq, ↓reduceIte, reduceDIte, evI_callP, callPK_some, I4, evI_callM, hk, q7, q8, q9, q11, hrd, e1, e2, L4_0_lp]
  refine Eq.trans (congrArg (Option.bind · (finish false)) k2) ?_
  simp only [go_sem, reduceCtorEq, ↓reduceIte, reduceDIte, evI_callP, callPK_some]
theorem end4 (xs : List AV) (hl : xs.length = [22].length) (h : ∀ (j : Nat) t x, ([22] : List TypeId)[j]? = some t → xs[j]? = some x → Arg Try.prog t x) : pcall E 4 xs = some (.bool true, []) := by
  match xs, hl with
  | [x0], _ =>
    obtain ⟨l, rfl⟩ := cms_arg (h 0 _ x0 rfl rfl)
    exact s4 l
end Go.Fw.Wd
