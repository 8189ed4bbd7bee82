/-
  The law DhcpOthers at the evaluation. Conditions: none of the law.
-/
import Derived.Test.YtefkoichicalfaaWdDst
set_option linter.unusedVariables false
set_option linter.unusedSimpArgs false
set_option linter.unusedSectionVars false
namespace Go.Fw.Wd
open Go.Proofs Code_

def msgO (m : Msg) : AObj := .cells true (encG false m) 29
theorem msgO_eq (m : Msg) : msgO m = .cells true [.int .u8 (m.op.toNat : Int), .int .u32 (m.xid.toNat : Int), .int .u16 (m.secs.toNat : Int), .bool m.wide, .int .u32 (m.ci.toNat : Int), .int .u32 (m.yi.toNat : Int), .int .u32 (m.si.toNat : Int), .int .u32 (m.gi.toNat : Int),
  .int .u8 (m.a.toNat : Int), .int .u8 (m.b.toNat : Int), .int .u8 (m.c.toNat : Int), .int .u8 (m.d.toNat : Int), .int .u8 (m.e.toNat : Int), .int .u8 (m.f.toNat : Int), opts false m.o] 29 := rfl
theorem oth_loop (l : List Cm) (hl : l.length ≤ 60) (hs : ∀ c ∈ l, small c.m.o) (m : Msg) (server : UInt32) (now : UInt64) (p : Pl) : ∀ (n i : Nat) (B : Bk) (H : Heap), i + n = l.length → Lv (msgO m :: H) p B i →
    ∃ (B' : Bk) (H' : Heap), Lv (msgO m :: H') p B' 60 ∧
    T3_0 E (lp E L3_0 [(0, cmR l), (2, w32 server), (3, i64u now), (5, .ref 0 0 0), (9, .ref p.s 0 0), (11, .int .i64 (i : Int))] (msgO m :: H)) =
    T3_0 E (some (.exit 0, ⟨[(0, cmR l), (2, w32 server), (3, i64u now), (5, .ref 0 0 0), (9, .ref p.s 0 0), (11, .int .i64 (l.length : Int))], msgO m :: H'⟩)) := by
  intro n
  induction n with
  | zero =>
    intro i B H hi v
    obtain rfl : i = l.length := by omega
    refine ⟨B, H, v.mono hl, ?_⟩
    have hlt : ¬ ((l.length : Int) < (l.length : Int)) := by omega
    rw [L3_0_go]
    simp (disch := first | omega | (simp only [List.length_cons, List.length_nil, List.length_append, List.length_map, List.length_set]; omega) | rfl | (simp only [List.length_cons, List.length_nil, List.length_append, List.length_map, List.length_set, List.length_replicate, List.all_cons, List.all_nil, List.all_append, storable, plainB, Bool.and_self]; done)) only [go_sem, reduceCtorEq, ↓reduceIte, reduceDIte, evI_callP, callPK_some, B3_0, hlt]
    rfl
  | succ n ih =>
    intro i B H hi v
    have hil : i < l.length := by omega
    have hlt : (i : Int) < (l.length : Int) := by omega
    have hia := cm_iaddr hil hl
    have hci := hs l[i] (List.getElem_mem hil)
    obtain ⟨h', q, v', cs⟩ := v.hear (by omega) l[i].m hci l[i].now
    obtain ⟨H2, rfl⟩ := cs.head (show msgO m = .cells true (encG false m) 29 from rfl)
    obtain ⟨B', H', k1, k2⟩ := ih (i + 1) _ H2 (by omega) v'
    refine ⟨B', H', k1, ?_⟩
    rw [← k2, show ((i + 1 : Nat) : Int) = (i : Int) + 1 by omega]
    simp only [encG_eq] at q
    generalize l[i] = c at *
    rw [L3_0_go]
    simp (disch := first | omega | (simp only [List.length_cons, List.length_nil, List.length_append, List.length_map, List.length_set]; omega) | rfl | (simp only [List.length_cons, List.length_nil, List.length_append, List.length_map, List.length_set, List.length_replicate, List.all_cons, List.all_nil, List.all_append, storable, plainB, Bool.and_self]; done)) only [go_sem, reduceCtorEq, ↓reduceIte, reduceDIte, evI_callP, callPK_some, B3_0, hlt, hia, evI_callM, q, L3_0_lp]
theorem Lv.setm {m : Msg} {H : Heap} {p : Pl} {B : Bk} {n : Nat} (v : Lv (msgO m :: H) p B n) (m2 : Msg) : Lv (msgO m2 :: H) p B n := by
  refine ⟨v.sx.head (fun vs => ⟨?_, ?_⟩) (fun kk es => ?_), v.bg⟩
  · unfold msgO
    intro e
    injection e with e1 e2 e3
    cases e3
  · unfold msgO
    intro e
    injection e with e1 e2 e3
    cases e3
  · unfold msgO
    intro e
    cases e
theorem num_three : num [(3 : UInt8)] = 3 := by decide
theorem app_two (h : Heap) (l : Nat) (d1 d2 : List UInt8) (ys : List Opt) (h1 : ys.length ≤ 1000) :
    afR h 2 32 49 (rcs encO ys) ys.length l 0 2 (some (.row 0 2 [.int .u8 53, .rs false 1 (d1.map by8), .int .u8 54, .rs false 1 (d2.map by8)] 49)) = some (opts false ((53, d1) :: (54, d2) :: ys), h.set l .gone) := by
  have e : rcs encO ((53, d1) :: (54, d2) :: ys) = [.int .u8 53, .rs false 1 (d1.map by8), .int .u8 54, .rs false 1 (d2.map by8)] ++ rcs encO ys := rfl
  have hg := fopt.group ((53, d1) :: (54, d2) :: ys)
  rw [e] at hg
  have hpl := fopt.rpl ys
  have hlen := fopt.rlen ys
  have hn : ((53, d1) :: (54, d2) :: ys : List Opt).length = 2 + ys.length := by simp; omega
  rw [hn] at hg
  have g1 : (2 + ys.length) * 32 ≤ 140737488355328 := by omega
  have g2 : 2 + ys.length ≤ 140737488355328 := by omega
  have p1 : ([.int .u8 53, .rs false 1 (d1.map by8), .int .u8 54, .rs false 1 (d2.map by8)] : List AV).all plainB = true := rfl
  unfold afR
  simp only [hlen, g1, g2, p1, hpl, hg, and_self, if_true, List.length_cons, List.length_nil]
/-- What a request that names another server does. -/
theorem hear_other (B : Bk) (m : Msg) (server : UInt32) (hsv : server ≠ 167772161) (hc : (clientL m).length ≤ 255) (o : List Opt) (now : UInt64) (ho : m.o = (53, [3]) :: (54, encb 4 server.toNat) :: o) (hop : m.op = 1) (hgi : m.gi = 0) :
    hearM smallC B m now = ((B.drop (clientL m) false).1, none) := by
  have hs := server.toNat_lt
  have e1 : numO m.o 53 1 = (3, true) := by
    rw [ho]
    rfl
  have e2 : numO m.o 54 4 = (server.toNat, true) := by
    rw [ho]
    unfold numO findO
    simp only [show ¬ ((53 : UInt8) = 54) by decide, if_false]
    unfold findO
    simp only [if_true, encb_length]
    rw [num_encb_of (by omega)]
    rfl
  unfold hearM
  rw [if_neg (by rw [hop, hgi]; simp; exact hc), e1, if_neg (by show ¬ (3 = 1); omega), if_pos (show (3, true).1 = 3 from rfl)]
  unfold wantM
  have r1 : (readQ smallC m now).named = true := by unfold readQ; rw [e2]
  have r2 : (readQ smallC m now).own = false := by
    unfold readQ
    rw [e2]
    show (true && decide (UInt32.ofNat server.toNat = smallC.own)) = false
    rw [UInt32.ofNat_toNat]
    show decide (server = 167772161) = false
    exact decide_eq_false hsv
  rw [if_pos ⟨r1, r2⟩]
  rfl
theorem oth_rest (l : List Cm) (m : Msg) (hm : small m.o) (hmo : m.o.length ≤ 40) (server : UInt32) (now : UInt64) (hsv : server ≠ 167772161) (hc : (clientL m).length ≤ 255) (p : Pl) (B : Bk) (H : Heap) (v : Lv (msgO m :: H) p B 60) :
    ∃ X, T3_0 E (some (.exit 0, ⟨[(0, cmR l), (2, w32 server), (3, i64u now), (5, .ref 0 0 0), (9, .ref p.s 0 0), (11, .int .i64 (l.length : Int))], msgO m :: H⟩)) = some (.bool true, X) := by
  have hs := server.toNat_lt
  obtain ⟨d1, hd1⟩ : ∃ d, d = [(3 : UInt8)] := ⟨_, rfl⟩
  obtain ⟨d2, hd2⟩ : ∃ d, d = encb 4 server.toNat := ⟨_, rfl⟩
  obtain ⟨o2, ho2⟩ : ∃ o : List Opt, o = (53, d1) :: (54, d2) :: m.o := ⟨_, rfl⟩
  obtain ⟨m2, hm2⟩ : ∃ m2 : Msg, m2 = ⟨1, m.xid, m.secs, m.wide, m.ci, m.yi, m.si, 0, m.a, m.b, m.c, m.d, m.e, m.f, o2⟩ := ⟨_, rfl⟩
  obtain ⟨c, hcc⟩ : ∃ c, clientL m = c := ⟨_, rfl⟩
  have hcl : clientL m2 = c := by
    rw [← hcc, hm2, ho2]
    rfl
  have hsm : small m2.o := by
    rw [hm2]
    show small o2
    rw [ho2, hd1, hd2]
    refine ⟨by simp; omega, fun o ho => ?_⟩
    rcases List.mem_cons.1 ho with rfl | ho
    · show 1 ≤ 1048576; omega
    rcases List.mem_cons.1 ho with rfl | ho
    · show (encb 4 server.toNat).length ≤ _; rw [encb_length]; omega
    · exact hm.2 o ho
  obtain ⟨W, hW⟩ : ∃ W, B.of c 0 = W := ⟨_, rfl⟩
  obtain ⟨z, hz⟩ : ∃ z, W.getD zLn = z := ⟨_, rfl⟩
  have v1 : Lv (msgO m2 :: H) p B 60 := v.setm m2
  obtain ⟨was, hwas⟩ : ∃ was, was = AObj.cells true [w32 z.ip, .bool z.firm, i64u z.til] 53 := ⟨_, rfl⟩
  have v2 : Lv (msgO m2 :: (H ++ [.gone, was])) p B 60 := v1.app [.gone, was]
  obtain ⟨h', q, v3, cs⟩ := v2.hear (by omega) m2 hsm now
  obtain ⟨H2, rfl⟩ := cs.head (show msgO m2 = .cells true (encG false m2) 29 from rfl)
  have hh := hear_other B m2 server hsv (by rw [hcl, ← hcc]; exact hc) m.o now (by rw [hm2]; show o2 = _; rw [ho2, hd1, hd2]) (by rw [hm2]) (by rw [hm2])
  rw [hcl] at hh
  rw [hh] at q v3
  obtain ⟨B2, hB2⟩ : ∃ B2, (B.drop c false).1 = B2 := ⟨_, rfl⟩
  rw [hB2] at q v3
  have g13 : H2[H.length + 1]? = some was := by
    have := cs (H.length + 2) true [w32 z.ip, .bool z.firm, i64u z.til] 53 (by
      show (H ++ [.gone, was])[H.length + 1]? = _
      rw [List.getElem?_append_right (by omega), show H.length + 1 - H.length = 1 by omega, hwas]
      rfl)
    rw [hwas]
    exact this
  have g13' := gapp g13
  have hlt : H.length + 1 < H2.length := (List.getElem?_eq_some_iff.1 g13).1
  -- what is asked of the functions
  have q10 : ∀ g, pcall E 10 [.agg [.int .u8 1, .int .u32 (m.xid.toNat : Int), .int .u16 (m.secs.toNat : Int), .bool m.wide, .int .u32 (m.ci.toNat : Int), .int .u32 (m.yi.toNat : Int), .int .u32 (m.si.toNat : Int), .int .u32 0,
      .int .u8 (m.a.toNat : Int), .int .u8 (m.b.toNat : Int), .int .u8 (m.c.toNat : Int), .int .u8 (m.d.toNat : Int), .int .u8 (m.e.toNat : Int), .int .u8 (m.f.toNat : Int), opts g m.o]] = some (sv c, []) := fun g => by
    have := s10 g ⟨1, m.xid, m.secs, m.wide, m.ci, m.yi, m.si, 0, m.a, m.b, m.c, m.d, m.e, m.f, m.o⟩ hm
    rw [← hcc]
    exact this
  have q10b : ∀ g, pcall E 10 [.agg [.int .u8 1, .int .u32 (m.xid.toNat : Int), .int .u16 (m.secs.toNat : Int), .bool m.wide, .int .u32 (m.ci.toNat : Int), .int .u32 (m.yi.toNat : Int), .int .u32 (m.si.toNat : Int), .int .u32 0,
      .int .u8 (m.a.toNat : Int), .int .u8 (m.b.toNat : Int), .int .u8 (m.c.toNat : Int), .int .u8 (m.d.toNat : Int), .int .u8 (m.e.toNat : Int), .int .u8 (m.f.toNat : Int), opts g o2]] = some (sv c, []) := fun g => by
    have := s10 g m2 hsm
    rw [← hcl, hm2] at *
    exact this
  have q14 := s14 53 3
  have q15 := s15 54 server.toNat hs
  simp only [one_eq, ip_eq, ← hd1, ← hd2, encO_mk, show ((UInt8.toNat 53 : Nat) : Int) = 53 from rfl, show ((UInt8.toNat 54 : Nat) : Int) = 54 from rfl, show ((UInt8.toNat 3 : Nat) : Int) = 3 from rfl] at q14 q15
  have q16 : ∀ g, pcall E 16 [B.av g, sv c, .int .u64 0] = some (.tup [((B.of c 0).getD zLn).av, .bool (B.of c 0).isSome], []) := fun g => s16 g B c (by rw [← hcc]; omega) 0
  have q16b : ∀ g, pcall E 16 [B2.av g, sv c, .int .u64 0] = some (.tup [((B2.of c 0).getD zLn).av, .bool (B2.of c 0).isSome], []) := fun g => s16 g B2 c (by rw [← hcc]; omega) 0
  have q17 := fun g => s17 g B
  have q17b := fun g => s17 g B2
  have q18 : pcall E 18 [.agg zC] = some (.int .i64 0, []) := s18 false zeroM ⟨by simp [zeroM], fun o ho => by cases ho⟩
  have hap := fun h l => app_two h l d1 d2 m.o (by omega)
  rw [← ho2] at hap
  have hci := fun h g => fopt.cellsIn h g m.o
  have hbs1 : bs false d1 = .rs false 1 (d1.map by8) := rfl
  have hbs2 : bs false d2 = .rs false 1 (d2.map by8) := rfl
  rw [hW, hz] at q16
  obtain ⟨W2, hW2⟩ : ∃ W, B2.of c 0 = W := ⟨_, rfl⟩
  rw [hW2] at q16b
  have key : (W = none ∧ W2 = none ∧ B2.ln.length ≤ B.ln.length) ∨ (∃ lo, W = some lo ∧ lo.firm = true ∧ B2 = B) ∨ (∃ lo, W = some lo ∧ lo.firm = false ∧ W2 = none ∧ B2.ln.length + 1 = B.ln.length) := by
    have hcut : (B.cut c).of c 0 = none := by
      unfold Bk.of Bk.cut
      simp only [aget_adel, if_true]
      rfl
    have hlen := v.bg.once.len_del c
    unfold Bk.drop at hB2
    cases ha : aget c B.ln with
    | none =>
      rw [ha] at hB2
      subst hB2
      have : B.of c 0 = none := by unfold Bk.of; rw [ha]; rfl
      rw [hW] at this
      rw [hW] at hW2
      exact .inl ⟨this, hW2.symm.trans this, Nat.le_refl _⟩
    | some lo =>
      rw [ha] at hB2 hlen
      simp only at hB2
      by_cases hf : lo.firm = false
      · rw [if_pos hf] at hB2
        have hB2 : B.cut c = B2 := hB2
        subst hB2
        rw [hcut] at hW2
        simp only [Option.isSome_some, if_true] at hlen
        have hpos : 0 < B.ln.length := List.length_pos_of_mem (aget_mem ha)
        have hl2 : (B.cut c).ln.length = B.ln.length - 1 := hlen
        by_cases ht : lo.til.toNat ≤ (bU 0).toNat
        · have : B.of c 0 = none := by unfold Bk.of; rw [ha]; simp only [Option.bind_some]; rw [if_pos ht]
          rw [hW] at this
          exact .inl ⟨this, hW2.symm, by omega⟩
        · have : B.of c 0 = some lo := by unfold Bk.of; rw [ha]; simp only [Option.bind_some]; rw [if_neg ht]
          rw [hW] at this
          exact .inr (.inr ⟨lo, this, hf, hW2.symm, by omega⟩)
      · rw [if_neg hf] at hB2
        subst hB2
        by_cases ht : lo.til.toNat ≤ (bU 0).toNat
        · have : B.of c 0 = none := by unfold Bk.of; rw [ha]; simp only [Option.bind_some]; rw [if_pos ht]
          rw [hW] at this
          rw [hW] at hW2
          exact .inl ⟨this, hW2.symm.trans this, Nat.le_refl _⟩
        · have : B.of c 0 = some lo := by unfold Bk.of; rw [ha]; simp only [Option.bind_some]; rw [if_neg ht]
          rw [hW] at this
          exact .inr (.inl ⟨lo, this, by simpa using hf, rfl⟩)
  have hln := v.bg.ln
  have x1 := fun X => (v1.app X).gets
  have x2 := v3.gets
  have x3 := fun X => (v3.app X).gets
  have y1 := fun X => (x1 X).sv
  have y2 := fun X => (x1 X).bk
  have y3 := fun X => (x1 X).bb
  have y4 := fun X => (x1 X).bl
  have y5 := fun X => (x1 X).br
  have w1 := fun X => (x3 X).sv
  have w2 := fun X => (x3 X).bk
  have w3 := fun X => (x3 X).bb
  have w4 := fun X => (x3 X).bl
  have w5 := fun X => (x3 X).br
  have u1 := x2.sv
  have u2 := x2.bk
  have u3 := x2.bb
  have u4 := x2.bl
  have u5 := x2.br
  have t1 := gtop H
  have t2 := stop H
  have t3 := gtop1 H
  have t4 := stop1 H
  have r1 := gtop H2
  have r2 := stop H2
  have r3 := gtop1 H2
  have r4 := stop1 H2
  have hrd := rd_book
  simp only [msgO_eq, hm2, List.cons_append, opts, recs, show ((UInt8.toNat 1 : Nat) : Int) = 1 from rfl, show ((UInt32.toNat 0 : Nat) : Int) = 0 from rfl] at q y1 y2 y3 y4 y5 w1 w2 w3 w4 w5 u1 u2 u3 u4 u5
  simp only [opts, recs] at q10 q10b hap hci
  simp only [ansV, zC_eq] at q
  simp only [encG_eq, zC, opts, recs, show ((UInt8.toNat 1 : Nat) : Int) = 1 from rfl, show ((UInt32.toNat 0 : Nat) : Int) = 0 from rfl] at q
  subst hwas
  simp only [w32, i64u] at q g13 g13'
  rcases key with ⟨rfl, rfl, k1⟩ | ⟨lo, rfl, k1, rfl⟩ | ⟨lo, rfl, k1, rfl, k2⟩
  · have z0 : z = zLn := hz.symm
    have z1 : (zLn.ip.toNat : Int) = 0 := rfl
    have z2 : zLn.firm = false := rfl
    have z3 : (zLn.til.toNat : Int) = 0 := rfl
    have k1' : (B2.ln.length : Int) ≤ B.ln.length := by omega
    simp only [z0, z1, z2, z3] at q g13 g13' q16 q16b
    simp only [msgO_eq, opts, recs]
    simp (disch := first | omega | (simp only [List.length_cons, List.length_nil, List.length_append, List.length_map, List.length_set]; omega) | rfl | (simp only [List.length_cons, List.length_nil, List.length_append, List.length_map, List.length_set, List.length_replicate, List.all_cons, List.all_nil, List.all_append, storable, plainB, Bool.and_self]; done)) only [go_sem, reduceCtorEq, ↓reduceIte, reduceDIte, evI_callP, callPK_some, T3_0, evI_callM, hrd, q, q10, q10b, q14, q15, q16, q16b, q17, q17b, q18, hap, hci, olen, hbs1, hbs2, y1, y2, y3, y4, y5, w1, w2, w3, w4, w5, u1, u2, u3, u4, u5, t1, t2, t3, t4, r1, r2, r3, r4, g13, g13', z1, z2, z3, k1', List.append_assoc]
    exact ⟨_, rfl⟩
  · have z0 : z = lo := hz.symm
    have k1' : (B2.ln.length : Int) ≤ B2.ln.length := by omega
    have hW3 := hW2.symm.trans hW
    simp only [z0, hW3, k1, Option.getD_some, Option.isSome_some] at q g13 g13' q16 q16b
    simp only [msgO_eq, opts, recs]
    simp (disch := first | omega | (simp only [List.length_cons, List.length_nil, List.length_append, List.length_map, List.length_set]; omega) | rfl | (simp only [List.length_cons, List.length_nil, List.length_append, List.length_map, List.length_set, List.length_replicate, List.all_cons, List.all_nil, List.all_append, storable, plainB, Bool.and_self]; done)) only [go_sem, reduceCtorEq, ↓reduceIte, reduceDIte, evI_callP, callPK_some, T3_0, evI_callM, hrd, q, q10, q10b, q14, q15, q16, q16b, q17, q17b, q18, hap, hci, olen, hbs1, hbs2, y1, y2, y3, y4, y5, w1, w2, w3, w4, w5, u1, u2, u3, u4, u5, t1, t2, t3, t4, r1, r2, r3, r4, g13, g13', k1, k1', List.append_assoc]
    exact ⟨_, rfl⟩
  · have z0 : z = lo := hz.symm
    have z1 : (zLn.ip.toNat : Int) = 0 := rfl
    have z2 : zLn.firm = false := rfl
    have z3 : (zLn.til.toNat : Int) = 0 := rfl
    have k2' : (B2.ln.length : Int) = B.ln.length - 1 := by omega
    have k3 : IntKind.i64.wrap ((B.ln.length : Int) - 1) = B.ln.length - 1 := w64 (by omega) (by omega)
    simp only [z0, k1, Option.getD_some, Option.isSome_some] at q g13 g13' q16 q16b
    simp only [msgO_eq, opts, recs]
    simp (disch := first | omega | (simp only [List.length_cons, List.length_nil, List.length_append, List.length_map, List.length_set]; omega) | rfl | (simp only [List.length_cons, List.length_nil, List.length_append, List.length_map, List.length_set, List.length_replicate, List.all_cons, List.all_nil, List.all_append, storable, plainB, Bool.and_self]; done)) only [go_sem, reduceCtorEq, ↓reduceIte, reduceDIte, evI_callP, callPK_some, T3_0, evI_callM, hrd, q, q10, q10b, q14, q15, q16, q16b, q17, q17b, q18, hap, hci, olen, hbs1, hbs2, y1, y2, y3, y4, y5, w1, w2, w3, w4, w5, u1, u2, u3, u4, u5, t1, t2, t3, t4, r1, r2, r3, r4, g13, g13', k1, k2', k3, z1, z2, z3, List.append_assoc]
    exact ⟨_, rfl⟩
theorem s3 (l : List Cm) (m : Msg) (server : UInt32) (now : UInt64) : pcall E 3 [cmR l, .agg (encG false m), w32 server, i64u now] = some (.bool true, []) := by
  have q7 := s7
  have q8 := s8 l
  have q8b : pcall E 8 [.rs false 17 [cmA ⟨m, 0, false⟩]] = some (.bool (big m), []) := by
    have := s8 [⟨m, 0, false⟩]
    rw [tooG_one] at this
    exact this
  have q9 := s9
  have hk : E.keep 3 = false := rfl
  have hi : ((server.toNat : Int) = 167772161) ↔ server = 167772161 := i32_eq server 167772161
  simp only [cmA, cmL, show ((UInt64.toNat 0 : Nat) : Int) = 0 from rfl, opts, recs] at q8b
  rw [pcall_go (fn := I3) rfl rfl rfl]
  simp only [encG_eq, opts, recs]
  cases hg : tooG l with
  | true =>
    rw [hg] at q8
    simp (disch := first | omega | (simp only [List.length_cons, List.length_nil, List.length_append, List.length_map, List.length_set]; omega) | rfl | (simp only [List.length_cons, List.length_nil, List.length_append, List.length_map, List.length_set, List.length_replicate, List.all_cons, List.all_nil, List.all_append, storable, plainB, Bool.and_self]; done)) only [go_sem, reduceCtorEq, ↓reduceIte, reduceDIte, evI_callP, callPK_some, I3, hk, q7, q8]
  | false =>
  rw [hg] at q8
  cases hb : big m with
  | true =>
    rw [hb] at q8b
    simp (disch := first | omega | (simp only [List.length_cons, List.length_nil, List.length_append, List.length_map, List.length_set]; omega) | rfl | (simp only [List.length_cons, List.length_nil, List.length_append, List.length_map, List.length_set, List.length_replicate, List.all_cons, List.all_nil, List.all_append, storable, plainB, Bool.and_self]; done)) only [go_sem, reduceCtorEq, ↓reduceIte, reduceDIte, evI_callP, callPK_some, I3, hk, q7, q8, q8b]
  | false =>
  rw [hb] at q8b
  by_cases c1 : (1152921504606846976 : Int) < (now.toNat : Int)
  · simp (disch := first | omega | (simp only [List.length_cons, List.length_nil, List.length_append, List.length_map, List.length_set]; omega) | rfl | (simp only [List.length_cons, List.length_nil, List.length_append, List.length_map, List.length_set, List.length_replicate, List.all_cons, List.all_nil, List.all_append, storable, plainB, Bool.and_self]; done)) only [go_sem, reduceCtorEq, ↓reduceIte, reduceDIte, evI_callP, callPK_some, I3, hk, q7, q8, q8b, c1]
  by_cases c2 : server = 167772161
  · have c2' : ((server.toNat : Int) = 167772161) = True := eq_true (hi.mpr c2)
    simp (disch := first | omega | (simp only [List.length_cons, List.length_nil, List.length_append, List.length_map, List.length_set]; omega) | rfl | (simp only [List.length_cons, List.length_nil, List.length_append, List.length_map, List.length_set, List.length_replicate, List.all_cons, List.all_nil, List.all_append, storable, plainB, Bool.and_self]; done)) only [go_sem, reduceCtorEq, ↓reduceIte, reduceDIte, evI_callP, callPK_some, I3, hk, q7, q8, q8b, q9, c1, c2']
  have hm := big_not hb
  have q10 := fun g => s10 g m hm
  have hcz : (⟨(clientL m).toArray⟩ : ByteArray).size = (clientL m).length := rfl
  simp only [encG_eq, opts, recs, clientV] at q10
  by_cases c3 : (255 : Int) < ((clientL m).length : Int)
  · simp (disch := first | omega | (simp only [List.length_cons, List.length_nil, List.length_append, List.length_map, List.length_set]; omega) | rfl | (simp only [List.length_cons, List.length_nil, List.length_append, List.length_map, List.length_set, List.length_replicate, List.all_cons, List.all_nil, List.all_append, storable, plainB, Bool.and_self]; done)) only [go_sem, reduceCtorEq, ↓reduceIte, reduceDIte, evI_callP, callPK_some, I3, hk, q7, q8, q8b, q9, q10, c1, hi, c2, hcz, c3]
  obtain ⟨g1, g2⟩ := tooG_not hg
  have hmo : m.o.length ≤ 40 := by
    simp only [big, Bool.or_eq_false_iff, decide_eq_false_iff_not] at hb
    omega
  obtain ⟨X, p, q11, v0, _⟩ := new_lv [msgO m]
  obtain ⟨H0, hX⟩ : ∃ H0, [msgO m] ++ X = msgO m :: H0 := ⟨X, rfl⟩
  rw [hX] at q11 v0
  obtain ⟨B', H', k1, k2⟩ := oth_loop l g1 g2 m server now p l.length 0 smallB H0 (by omega) v0
  obtain ⟨Y, r3⟩ := oth_rest l m hm hmo server now c2 (by omega) p B' H' k1
  rw [r3] at k2
  have y1 := v0.gets
  have e1 := y1.sv
  have e2 := y1.bk
  simp only [msgO_eq, opts, recs] at q11 k2 e1 e2
  have hrd := rd_book
  simp (disch := first | omega | (simp only [List.length_cons, List.length_nil, List.length_append, List.length_map, List.length_set]; omega) | rfl | (simp only [List.length_cons, List.length_nil, List.length_append, List.length_map, List.length_set, List.length_replicate, List.all_cons, List.all_nil, List.all_append, storable, plainB, Bool.and_self]; done)) only [go_sem, reduceCtorEq, ↓reduceIte, reduceDIte, evI_callP, callPK_some, I3, evI_callM, hk, q7, q8, q8b, q9, q10, q11, c1, hi, c2, hcz, c3, hrd, e1, e2, L3_0_lp]
  refine Eq.trans (congrArg (Option.bind · (finish false)) k2) ?_
  simp only [go_sem, reduceCtorEq, ↓reduceIte, reduceDIte, evI_callP, callPK_some]
theorem end3 (xs : List AV) (hl : xs.length = [22, 29, 23, 30].length) (h : ∀ (j : Nat) t x, ([22, 29, 23, 30] : List TypeId)[j]? = some t → xs[j]? = some x → Arg Try.prog t x) : pcall E 3 xs = some (.bool true, []) := by
  match xs, hl with
  | [x0, x1, x2, x3], _ =>
    obtain ⟨l, rfl⟩ := cms_arg (h 0 _ x0 rfl rfl)
    obtain ⟨m, rfl⟩ := msg_arg (h 1 _ x1 rfl rfl)
    obtain ⟨server, rfl⟩ := U32_arg (h 2 _ x2 rfl rfl)
    obtain ⟨now, rfl⟩ := U64_arg (h 3 _ x3 rfl rfl)
    exact s3 l m server now
end Go.Fw.Wd
