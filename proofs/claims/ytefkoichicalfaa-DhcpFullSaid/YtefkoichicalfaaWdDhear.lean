/-
  The dhcp server's Hear. Conditions: stated at each.
-/
import Derived.Test.YtefkoichicalfaaWdDsrv
set_option linter.unusedVariables false
set_option linter.unusedSimpArgs false
namespace Go.Fw.Wd
open Go.Proofs Code_

abbrev zC : List AV := [.int .u8 0, .int .u32 0, .int .u16 0, .bool false, .int .u32 0, .int .u32 0, .int .u32 0, .int .u32 0, .int .u8 0, .int .u8 0, .int .u8 0, .int .u8 0, .int .u8 0, .int .u8 0, .rs false 2 []]
theorem zC_eq : encG false zeroM = zC := rfl
abbrev srvO (C : Cf) (k : Nat) : AObj := .cells true [w32 C.own, w32 C.mask, w32 C.first, w32 C.last, w32 C.time, w32 C.hold, w32 C.quiet, .ref k 0 0] 77
/-- Where a server and its book lie. -/
structure SAt (h : Heap) (s k kb kl kr : Nat) (C : Cf) (B : Bk) : Prop where
  sv : h[s]? = some (srvO C k)
  bk : BAt h k kb kl kr B
theorem BAt.app {h : Heap} {k kb kl kr : Nat} {B : Bk} (ha : BAt h k kb kl kr B) (X : Heap) : BAt (h ++ X) k kb kl kr B := ⟨gapp ha.bk X, gapp ha.bb X, gapp ha.bl X, gapp ha.br X⟩
/-- The book behind a call, and what is said. -/
abbrev Ans := Bk × Option Msg
def ansV : Option Msg → AV
  | some m => .tup [.agg (encG false m), .bool true]
  | none => .tup [.agg (encG false zeroM), .bool false]
def addU (a : UInt64) (b : UInt32) : UInt64 := UInt64.ofNat (a.toNat + b.toNat)
theorem addU_nat {a : UInt64} {b : UInt32} (h : a.toNat ≤ 2305843009213693952) : (addU a b).toNat = a.toNat + b.toNat := by
  have := b.toNat_lt
  unfold addU
  rw [UInt64.toNat_ofNat', Nat.mod_eq_of_lt (by omega)]
def discM (C : Cf) (B : Bk) (r : Rq) : Ans :=
  match B.offer r.client r.wish r.now (addU r.now C.hold) with
  | (B', ip, e) => (B', if e = 0 then some (sayM C r.m 2 ip) else none)
def firmM (C : Cf) (B : Bk) (r : Rq) (ip : UInt32) : Ans :=
  match B.firm r.client ip r.now (addU r.now C.time) with
  | (B', e) => (B', some (if e = 0 then sayM C r.m 5 ip else sayM C r.m 6 0))
def heldM (B : Bk) (r : Rq) : Bool := (B.of r.client r.now).isSome && ((B.of r.client r.now).getD zLn).firm
def wantM (C : Cf) (B : Bk) (r : Rq) : Ans :=
  if r.named = true ∧ r.own = false then ((B.drop r.client false).1, none)
  else if r.own = true then (if r.wished = true then firmM C B r r.wish else (B, some (sayM C r.m 6 0)))
  else if heldM B r = false then (B, none)
  else firmM C B r (if r.wished = true then r.wish else r.m.ci)
def leaveM (C : Cf) (B : Bk) (r : Rq) : Bk :=
  if r.own = false then B
  else if (numO r.m.o 53 1).1 = 4 ∧ r.wished = true then (B.rest r.client r.wish r.now (addU r.now C.quiet)).1
  else if (numO r.m.o 53 1).1 = 7 ∧ heldM B r = true ∧ ((B.of r.client r.now).getD zLn).ip = r.m.ci then (B.drop r.client true).1
  else B
def hearM (C : Cf) (B : Bk) (m : Msg) (now : UInt64) : Ans :=
  if m.op ≠ 1 ∨ m.gi ≠ 0 ∨ 255 < (clientL m).length then (B, none)
  else if (numO m.o 53 1).1 = 1 then discM C B (readQ C m now)
  else if (numO m.o 53 1).1 = 3 then wantM C B (readQ C m now)
  else if (numO m.o 53 1).1 = 4 ∨ (numO m.o 53 1).1 = 7 then (leaveM C B (readQ C m now), none)
  else (B, none)
theorem gtop1 (h : Heap) (a b : AObj) (X : Heap) : (h ++ a :: b :: X)[h.length + 1]? = some b := by
  rw [List.getElem?_append_right (by omega), show h.length + 1 - h.length = 1 by omega]
  rfl
theorem stop1 (h : Heap) (a b d : AObj) (X : Heap) : (h ++ a :: b :: X).set (h.length + 1) d = h ++ a :: d :: X := by
  rw [List.set_append_right _ _ (by omega), show h.length + 1 - h.length = 1 by omega]
  rfl
theorem ttop1 {h : Heap} (kl : Nat) (o a b : AObj) (X : Heap) : (h.set kl o ++ a :: b :: X)[h.length + 1]? = some b := by
  have := gtop1 (h.set kl o) a b X
  rwa [List.length_set] at this
theorem tstop1 {h : Heap} (kl : Nat) (o a b d : AObj) (X : Heap) : (h.set kl o ++ a :: b :: X).set (h.length + 1) d = h.set kl o ++ a :: d :: X := by
  have := stop1 (h.set kl o) a b d X
  rwa [List.length_set] at this
section
variable {h : Heap} {s k kb kl kr : Nat} {C : Cf} {B : Bk} (ha : SAt h s k kb kl kr C B) (hB : B.Ok) (hn : B.ln.length ≤ 1048576) (hr : B.rs.length ≤ 1048576)
include ha hB hn in
theorem m35 (r : Rq) (hc : r.client.length ≤ 1048576) (hnow : r.now.toNat ≤ 2305843009213693952) :
    ∃ J, hcall E 35 [.ref s 0 0, .agg (encQ r)] h = some (ansV (discM C B r).2, h.set kl (lnO (discM C B r).1.ln) ++ J) := by
  obtain ⟨til, htil⟩ : ∃ t, addU r.now C.hold = t := ⟨_, rfl⟩
  have htn : til.toNat = r.now.toNat + C.hold.toNat := by rw [← htil]; exact addU_nat hnow
  have q57 := s57 r C.hold til htn
  have q34 := s34
  have g0 := gapp ha.sv
  have g1 := gapp ha.bk.bk
  have e0 := ha.sv
  have t1 := gtop h
  have t2 := stop h
  have t3 := gtop1 h
  have t4 := stop1 h
  have n0 : kl ≠ s := neq_of ha.bk.bl ha.sv (by intro e; cases e)
  obtain ⟨n1, n2, n3, n4, n5⟩ := ha.bk.ne
  have f0 := fun o X => tset n0 ha.sv o X
  have f1 := fun o X => tset n2 ha.bk.bk o X
  have f2 := fun o X => tset n4 ha.bk.bb o X
  have f3 := fun o X => tset n1 ha.bk.br o X
  have f4 : ∀ o X, (h.set kl o ++ X)[kl]? = some o := fun o X => gapp (List.getElem?_set_self (List.getElem?_eq_some_iff.1 ha.bk.bl).1) X
  have f5 := fun o a X => ttop (h := h) kl o a X
  have f6 := fun o a b X => ttop1 (h := h) kl o a b X
  have f7 := fun o a b d X => tstop1 (h := h) kl o a b d X
  obtain ⟨J1, p1⟩ := m56 (ha.bk.app [.cells true (encQ r) 79, .cells true zC 29]) hB hn r.client hc r.wish r.now til
  rw [sapp ha.bk.bl] at p1
  rw [hcall_go (fn := I35) rfl rfl rfl]
  unfold discM
  rw [htil]
  obtain ⟨ln', hln⟩ : ∃ l, (B.offer r.client r.wish r.now til).1.ln = l := ⟨_, rfl⟩
  obtain ⟨ip, hip⟩ : ∃ l, (B.offer r.client r.wish r.now til).2.1 = l := ⟨_, rfl⟩
  obtain ⟨e, he⟩ : ∃ l, (B.offer r.client r.wish r.now til).2.2 = l := ⟨_, rfl⟩
  have q58 := fun g => s58 g C ⟨B.fst, B.lst, B.bar, ln', B.rs⟩ r 2 ip
  show ∃ J, _ = some (ansV (if (B.offer r.client r.wish r.now til).2.2 = 0 then some (sayM C r.m 2 (B.offer r.client r.wish r.now til).2.1) else none), h.set kl (lnO (B.offer r.client r.wish r.now til).1.ln) ++ J)
  rw [hln, hip, he] at p1 ⊢
  rw [zC_eq] at q34
  simp only [encG_eq] at q58
  by_cases c : e = 0
  · rw [if_pos c]
    simp (disch := first | omega | (simp only [List.length_cons, List.length_nil, List.length_append, List.length_map, List.length_set]; omega) | rfl | (simp only [List.length_cons, List.length_nil, List.length_append, List.length_map, List.length_set, List.length_replicate, List.all_cons, List.all_nil, List.all_append, storable, plainB, Bool.and_self]; done)) only [go_sem, reduceCtorEq, ↓reduceIte, reduceDIte, evI_callP, callPK_some, I35, evI_callM, g0, g1, e0, t1, t2, t3, t4, q57, q34, q58, p1, f0, f1, f2, f3, f4, f5, f6, f7, c, onoG, List.append_assoc]
    exact ⟨_, rfl⟩
  · rw [if_neg c]
    simp (disch := first | omega | (simp only [List.length_cons, List.length_nil, List.length_append, List.length_map, List.length_set]; omega) | rfl | (simp only [List.length_cons, List.length_nil, List.length_append, List.length_map, List.length_set, List.length_replicate, List.all_cons, List.all_nil, List.all_append, storable, plainB, Bool.and_self]; done)) only [go_sem, reduceCtorEq, ↓reduceIte, reduceDIte, evI_callP, callPK_some, I35, evI_callM, g0, g1, e0, t1, t2, t3, t4, q57, q34, q58, p1, f0, f1, f2, f3, f4, f5, f6, f7, c, onoG, List.append_assoc]
    exact ⟨_, rfl⟩
include ha hn in
theorem m61 (r : Rq) (hc : r.client.length ≤ 1048576) (hnow : r.now.toNat ≤ 2305843009213693952) (ip : UInt32) :
    ∃ J, hcall E 61 [.ref s 0 0, .agg (encQ r), w32 ip] h = some (ansV (firmM C B r ip).2, h.set kl (lnO (firmM C B r ip).1.ln) ++ J) := by
  obtain ⟨til, htil⟩ : ∃ t, addU r.now C.time = t := ⟨_, rfl⟩
  have htn : til.toNat = r.now.toNat + C.time.toNat := by rw [← htil]; exact addU_nat hnow
  have q57 := s57 r C.time til htn
  have g0 := gapp ha.sv
  have g1 := gapp ha.bk.bk
  have g2 := gapp ha.bk.bb
  have g3 := gapp ha.bk.bl
  have g4 := gapp ha.bk.br
  have e0 := ha.sv
  have e1 := ha.bk.bk
  have e2 := ha.bk.bb
  have e3 := ha.bk.bl
  have e4 := ha.bk.br
  have t1 := gtop h
  have t2 := stop h
  have t3 := gtop1 h
  have t4 := stop1 h
  have n0 : kl ≠ s := neq_of ha.bk.bl ha.sv (by intro e; cases e)
  obtain ⟨n1, n2, n3, n4, n5⟩ := ha.bk.ne
  have f0 := fun o X => tset n0 ha.sv o X
  have f1 := fun o X => tset n2 ha.bk.bk o X
  have f2 := fun o X => tset n4 ha.bk.bb o X
  have f3 := fun o X => tset n1 ha.bk.br o X
  have f4 : ∀ o X, (h.set kl o ++ X)[kl]? = some o := fun o X => gapp (List.getElem?_set_self (List.getElem?_eq_some_iff.1 ha.bk.bl).1) X
  have f5 := fun o a X => ttop (h := h) kl o a X
  have f6 := fun o a b X => ttop1 (h := h) kl o a b X
  have f7 := fun o a b d X => tstop1 (h := h) kl o a b d X
  obtain ⟨J1, p1⟩ := m75 (ha.bk.app [.cells true (encQ r) 79, .cells true zC 29]) hn r.client hc ip r.now til
  rw [sapp ha.bk.bl] at p1
  rw [hcall_go (fn := I61) rfl rfl rfl]
  unfold firmM
  rw [htil]
  obtain ⟨ln', hln⟩ : ∃ l, (B.firm r.client ip r.now til).1.ln = l := ⟨_, rfl⟩
  obtain ⟨e, he⟩ : ∃ l, (B.firm r.client ip r.now til).2 = l := ⟨_, rfl⟩
  have q5 := fun g => s58 g C ⟨B.fst, B.lst, B.bar, ln', B.rs⟩ r 5 ip
  have q6 := fun g => s58 g C ⟨B.fst, B.lst, B.bar, ln', B.rs⟩ r 6 0
  rw [show w32 0 = .int .u32 0 from rfl] at q6
  show ∃ J, _ = some (ansV (some (if (B.firm r.client ip r.now til).2 = 0 then sayM C r.m 5 ip else sayM C r.m 6 0)), h.set kl (lnO (B.firm r.client ip r.now til).1.ln) ++ J)
  rw [hln, he] at p1 ⊢
  simp only [encG_eq] at q5 q6
  by_cases c : e = 0
  · rw [if_pos c]
    simp (disch := first | omega | (simp only [List.length_cons, List.length_nil, List.length_append, List.length_map, List.length_set]; omega) | rfl | (simp only [List.length_cons, List.length_nil, List.length_append, List.length_map, List.length_set, List.length_replicate, List.all_cons, List.all_nil, List.all_append, storable, plainB, Bool.and_self]; done)) only [go_sem, reduceCtorEq, ↓reduceIte, reduceDIte, evI_callP, callPK_some, I61, evI_callM, q57, q5, q6, p1, c, g0, g1, g2, g3, g4, e0, e1, e2, e3, e4, t1, t2, t3, t4, f0, f1, f2, f3, f4, f5, f6, f7, onoG, List.append_assoc]
    exact ⟨_, rfl⟩
  · rw [if_neg c]
    simp (disch := first | omega | (simp only [List.length_cons, List.length_nil, List.length_append, List.length_map, List.length_set]; omega) | rfl | (simp only [List.length_cons, List.length_nil, List.length_append, List.length_map, List.length_set, List.length_replicate, List.all_cons, List.all_nil, List.all_append, storable, plainB, Bool.and_self]; done)) only [go_sem, reduceCtorEq, ↓reduceIte, reduceDIte, evI_callP, callPK_some, I61, evI_callM, q57, q5, q6, p1, c, g0, g1, g2, g3, g4, e0, e1, e2, e3, e4, t1, t2, t3, t4, f0, f1, f2, f3, f4, f5, f6, f7, onoG, List.append_assoc]
    exact ⟨_, rfl⟩
theorem SAt.app {h : Heap} {s k kb kl kr : Nat} {C : Cf} {B : Bk} (ha : SAt h s k kb kl kr C B) (X : Heap) : SAt (h ++ X) s k kb kl kr C B := ⟨gapp ha.sv X, ha.bk.app X⟩
include ha hn in
theorem m36 (r : Rq) (hc : r.client.length ≤ 1048576) (hnow : r.now.toNat ≤ 2305843009213693952) :
    ∃ J, hcall E 36 [.ref s 0 0, .agg (encQ r)] h = some (ansV (wantM C B r).2, h.set kl (lnO (wantM C B r).1.ln) ++ J) := by
  rcases r with ⟨m, client, wish, server, wished, named, own, now⟩
  have g0 := gapp ha.sv
  have g1 := gapp ha.bk.bk
  have g2 := gapp ha.bk.bb
  have g3 := gapp ha.bk.bl
  have g4 := gapp ha.bk.br
  have e0 := ha.sv
  have e1 := ha.bk.bk
  have e2 := ha.bk.bb
  have e3 := ha.bk.bl
  have e4 := ha.bk.br
  have t1 := gtop h
  have t2 := stop h
  have t3 := gtop1 h
  have t4 := stop1 h
  have n0 : kl ≠ s := neq_of ha.bk.bl ha.sv (by intro e; cases e)
  obtain ⟨n1, n2, n3, n4, n5⟩ := ha.bk.ne
  have f0 := fun o X => tset n0 ha.sv o X
  have f1 := fun o X => tset n2 ha.bk.bk o X
  have f2 := fun o X => tset n4 ha.bk.bb o X
  have f3 := fun o X => tset n1 ha.bk.br o X
  have f4 : ∀ o X, (h.set kl o ++ X)[kl]? = some o := fun o X => gapp (List.getElem?_set_self (List.getElem?_eq_some_iff.1 ha.bk.bl).1) X
  have f5 := fun o a X => ttop (h := h) kl o a X
  have f6 := fun o a b X => ttop1 (h := h) kl o a b X
  have f7 := fun o a b d X => tstop1 (h := h) kl o a b d X
  have q34 := s34
  rw [zC_eq] at q34
  have hsl : h.set kl (lnO B.ln) = h := sself ha.bk.bl
  rw [hcall_go (fn := I36) rfl rfl rfl]
  have key : ∀ (wished named own : Bool) (R : Rq), R = ⟨m, client, wish, server, wished, named, own, now⟩ → (∀ g, pcall E 59 [Sv g C B, .agg (encQ R)] = some (.tup [w32 ((B.of client now).getD zLn).ip, .bool (heldM B R)], [])) ∧ (∀ g, pcall E 58 [Sv g C B, .agg (encQ R), .int .i64 6, .int .u32 0] = some (.tup [.agg (encG false (sayM C m 6 0)), .bool true], [])) := by
    rintro wished named own R rfl
    exact ⟨fun g => s59 g C B _ hc, fun g => s58 g C B ⟨m, client, wish, server, wished, named, own, now⟩ 6 0⟩
  simp only [encG_eq] at key
  obtain ⟨q59, q6⟩ := key wished named own _ rfl
  clear key
  obtain ⟨x, hx⟩ : ∃ x, ((B.of client now).getD zLn).ip = x := ⟨_, rfl⟩
  rw [hx] at q59
  cases own with
  | true =>
    cases wished with
    | true =>
      cases named with
      | true =>
        have hw : wantM C B ⟨m, client, wish, server, true, true, true, now⟩ = firmM C B ⟨m, client, wish, server, true, true, true, now⟩ wish := by
          unfold wantM
          rw [if_neg (by simp), if_pos rfl, if_pos rfl]
        rw [hw]
        obtain ⟨J1, p1⟩ := m61 (ha.app [.cells true (encQ ⟨m, client, wish, server, true, true, true, now⟩) 79, .cells true zC 29]) hn ⟨m, client, wish, server, true, true, true, now⟩ hc hnow wish
        rw [sapp ha.bk.bl] at p1
        obtain ⟨m', hm'⟩ : ∃ m', (firmM C B ⟨m, client, wish, server, true, true, true, now⟩ wish).2 = some m' := ⟨_, rfl⟩
        rw [hm'] at p1 ⊢
        simp only [ansV, encG_eq] at p1 ⊢
        simp (disch := first | omega | (simp only [List.length_cons, List.length_nil, List.length_append, List.length_map, List.length_set]; omega) | rfl | (simp only [List.length_cons, List.length_nil, List.length_append, List.length_map, List.length_set, List.length_replicate, List.all_cons, List.all_nil, List.all_append, storable, plainB, Bool.and_self]; done)) only [go_sem, reduceCtorEq, ↓reduceIte, reduceDIte, evI_callP, callPK_some, I36, evI_callM, q59, q34, q6, p1, g0, g1, g2, g3, g4, e0, e1, e2, e3, e4, t1, t2, t3, t4, f0, f1, f2, f3, f4, f5, f6, f7, onoG, List.append_assoc]
        exact ⟨_, rfl⟩
      | false =>
        have hw : wantM C B ⟨m, client, wish, server, true, false, true, now⟩ = firmM C B ⟨m, client, wish, server, true, false, true, now⟩ wish := by
          unfold wantM
          rw [if_neg (by simp), if_pos rfl, if_pos rfl]
        rw [hw]
        obtain ⟨J1, p1⟩ := m61 (ha.app [.cells true (encQ ⟨m, client, wish, server, true, false, true, now⟩) 79, .cells true zC 29]) hn ⟨m, client, wish, server, true, false, true, now⟩ hc hnow wish
        rw [sapp ha.bk.bl] at p1
        obtain ⟨m', hm'⟩ : ∃ m', (firmM C B ⟨m, client, wish, server, true, false, true, now⟩ wish).2 = some m' := ⟨_, rfl⟩
        rw [hm'] at p1 ⊢
        simp only [ansV, encG_eq] at p1 ⊢
        simp (disch := first | omega | (simp only [List.length_cons, List.length_nil, List.length_append, List.length_map, List.length_set]; omega) | rfl | (simp only [List.length_cons, List.length_nil, List.length_append, List.length_map, List.length_set, List.length_replicate, List.all_cons, List.all_nil, List.all_append, storable, plainB, Bool.and_self]; done)) only [go_sem, reduceCtorEq, ↓reduceIte, reduceDIte, evI_callP, callPK_some, I36, evI_callM, q59, q34, q6, p1, g0, g1, g2, g3, g4, e0, e1, e2, e3, e4, t1, t2, t3, t4, f0, f1, f2, f3, f4, f5, f6, f7, onoG, List.append_assoc]
        exact ⟨_, rfl⟩
    | false =>
      cases named with
      | true =>
        have hw : wantM C B ⟨m, client, wish, server, false, true, true, now⟩ = (B, some (sayM C m 6 0)) := by
          unfold wantM
          rw [if_neg (by simp), if_pos rfl, if_neg (by simp)]
        rw [hw]
        obtain ⟨m', hm'⟩ : ∃ m', sayM C m 6 0 = m' := ⟨_, rfl⟩
        rw [hm'] at q6 ⊢
        simp only [ansV, encG_eq] at ⊢
        simp (disch := first | omega | (simp only [List.length_cons, List.length_nil, List.length_append, List.length_map, List.length_set]; omega) | rfl | (simp only [List.length_cons, List.length_nil, List.length_append, List.length_map, List.length_set, List.length_replicate, List.all_cons, List.all_nil, List.all_append, storable, plainB, Bool.and_self]; done)) only [go_sem, reduceCtorEq, ↓reduceIte, reduceDIte, evI_callP, callPK_some, I36, evI_callM, q59, q34, q6, g0, g1, g2, g3, g4, e0, e1, e2, e3, e4, t1, t2, t3, t4, f0, f1, f2, f3, f4, f5, f6, f7, onoG, List.append_assoc]
        exact ⟨_, by rw [hsl]⟩
      | false =>
        have hw : wantM C B ⟨m, client, wish, server, false, false, true, now⟩ = (B, some (sayM C m 6 0)) := by
          unfold wantM
          rw [if_neg (by simp), if_pos rfl, if_neg (by simp)]
        rw [hw]
        obtain ⟨m', hm'⟩ : ∃ m', sayM C m 6 0 = m' := ⟨_, rfl⟩
        rw [hm'] at q6 ⊢
        simp only [ansV, encG_eq] at ⊢
        simp (disch := first | omega | (simp only [List.length_cons, List.length_nil, List.length_append, List.length_map, List.length_set]; omega) | rfl | (simp only [List.length_cons, List.length_nil, List.length_append, List.length_map, List.length_set, List.length_replicate, List.all_cons, List.all_nil, List.all_append, storable, plainB, Bool.and_self]; done)) only [go_sem, reduceCtorEq, ↓reduceIte, reduceDIte, evI_callP, callPK_some, I36, evI_callM, q59, q34, q6, g0, g1, g2, g3, g4, e0, e1, e2, e3, e4, t1, t2, t3, t4, f0, f1, f2, f3, f4, f5, f6, f7, onoG, List.append_assoc]
        exact ⟨_, by rw [hsl]⟩
  | false =>
    cases named with
    | true =>
      cases wished with
      | true =>
        have hw : wantM C B ⟨m, client, wish, server, true, true, false, now⟩ = ((B.drop client false).1, none) := by
          unfold wantM
          rw [if_pos ⟨rfl, rfl⟩]
        rw [hw]
        obtain ⟨J1, p1⟩ := m60 (ha.bk.app [.cells true (encQ ⟨m, client, wish, server, true, true, false, now⟩) 79, .cells true zC 29]) hn client hc false
        rw [sapp ha.bk.bl] at p1
        simp only [ansV, zC_eq]
        simp (disch := first | omega | (simp only [List.length_cons, List.length_nil, List.length_append, List.length_map, List.length_set]; omega) | rfl | (simp only [List.length_cons, List.length_nil, List.length_append, List.length_map, List.length_set, List.length_replicate, List.all_cons, List.all_nil, List.all_append, storable, plainB, Bool.and_self]; done)) only [go_sem, reduceCtorEq, ↓reduceIte, reduceDIte, evI_callP, callPK_some, I36, evI_callM, q59, q34, q6, p1, g0, g1, g2, g3, g4, e0, e1, e2, e3, e4, t1, t2, t3, t4, f0, f1, f2, f3, f4, f5, f6, f7, onoG, List.append_assoc]
        exact ⟨_, rfl⟩
      | false =>
        have hw : wantM C B ⟨m, client, wish, server, false, true, false, now⟩ = ((B.drop client false).1, none) := by
          unfold wantM
          rw [if_pos ⟨rfl, rfl⟩]
        rw [hw]
        obtain ⟨J1, p1⟩ := m60 (ha.bk.app [.cells true (encQ ⟨m, client, wish, server, false, true, false, now⟩) 79, .cells true zC 29]) hn client hc false
        rw [sapp ha.bk.bl] at p1
        simp only [ansV, zC_eq]
        simp (disch := first | omega | (simp only [List.length_cons, List.length_nil, List.length_append, List.length_map, List.length_set]; omega) | rfl | (simp only [List.length_cons, List.length_nil, List.length_append, List.length_map, List.length_set, List.length_replicate, List.all_cons, List.all_nil, List.all_append, storable, plainB, Bool.and_self]; done)) only [go_sem, reduceCtorEq, ↓reduceIte, reduceDIte, evI_callP, callPK_some, I36, evI_callM, q59, q34, q6, p1, g0, g1, g2, g3, g4, e0, e1, e2, e3, e4, t1, t2, t3, t4, f0, f1, f2, f3, f4, f5, f6, f7, onoG, List.append_assoc]
        exact ⟨_, rfl⟩
    | false =>
      cases wished with
      | true =>
        cases hh : heldM B ⟨m, client, wish, server, true, false, false, now⟩ with
        | false =>
          rw [hh] at q59
          have hw : wantM C B ⟨m, client, wish, server, true, false, false, now⟩ = (B, none) := by
            unfold wantM
            rw [if_neg (by simp), if_neg (by simp), if_pos hh]
          rw [hw]
          simp only [ansV, zC_eq]
          simp (disch := first | omega | (simp only [List.length_cons, List.length_nil, List.length_append, List.length_map, List.length_set]; omega) | rfl | (simp only [List.length_cons, List.length_nil, List.length_append, List.length_map, List.length_set, List.length_replicate, List.all_cons, List.all_nil, List.all_append, storable, plainB, Bool.and_self]; done)) only [go_sem, reduceCtorEq, ↓reduceIte, reduceDIte, evI_callP, callPK_some, I36, evI_callM, q59, q34, q6, g0, g1, g2, g3, g4, e0, e1, e2, e3, e4, t1, t2, t3, t4, f0, f1, f2, f3, f4, f5, f6, f7, onoG, List.append_assoc]
          exact ⟨_, by rw [hsl]⟩
        | true =>
          rw [hh] at q59
          have hw : wantM C B ⟨m, client, wish, server, true, false, false, now⟩ = firmM C B ⟨m, client, wish, server, true, false, false, now⟩ wish := by
            unfold wantM
            rw [if_neg (by simp), if_neg (by simp), if_neg (by rw [hh]; simp), if_pos rfl]
          rw [hw]
          obtain ⟨J1, p1⟩ := m61 (ha.app [.cells true (encQ ⟨m, client, wish, server, true, false, false, now⟩) 79, .cells true zC 29]) hn ⟨m, client, wish, server, true, false, false, now⟩ hc hnow wish
          rw [sapp ha.bk.bl] at p1
          obtain ⟨m', hm'⟩ : ∃ m', (firmM C B ⟨m, client, wish, server, true, false, false, now⟩ wish).2 = some m' := ⟨_, rfl⟩
          rw [hm'] at p1 ⊢
          simp only [ansV, encG_eq] at p1 ⊢
          simp (disch := first | omega | (simp only [List.length_cons, List.length_nil, List.length_append, List.length_map, List.length_set]; omega) | rfl | (simp only [List.length_cons, List.length_nil, List.length_append, List.length_map, List.length_set, List.length_replicate, List.all_cons, List.all_nil, List.all_append, storable, plainB, Bool.and_self]; done)) only [go_sem, reduceCtorEq, ↓reduceIte, reduceDIte, evI_callP, callPK_some, I36, evI_callM, q59, q34, q6, p1, g0, g1, g2, g3, g4, e0, e1, e2, e3, e4, t1, t2, t3, t4, f0, f1, f2, f3, f4, f5, f6, f7, onoG, List.append_assoc]
          exact ⟨_, rfl⟩
      | false =>
        cases hh : heldM B ⟨m, client, wish, server, false, false, false, now⟩ with
        | false =>
          rw [hh] at q59
          have hw : wantM C B ⟨m, client, wish, server, false, false, false, now⟩ = (B, none) := by
            unfold wantM
            rw [if_neg (by simp), if_neg (by simp), if_pos hh]
          rw [hw]
          simp only [ansV, zC_eq]
          simp (disch := first | omega | (simp only [List.length_cons, List.length_nil, List.length_append, List.length_map, List.length_set]; omega) | rfl | (simp only [List.length_cons, List.length_nil, List.length_append, List.length_map, List.length_set, List.length_replicate, List.all_cons, List.all_nil, List.all_append, storable, plainB, Bool.and_self]; done)) only [go_sem, reduceCtorEq, ↓reduceIte, reduceDIte, evI_callP, callPK_some, I36, evI_callM, q59, q34, q6, g0, g1, g2, g3, g4, e0, e1, e2, e3, e4, t1, t2, t3, t4, f0, f1, f2, f3, f4, f5, f6, f7, onoG, List.append_assoc]
          exact ⟨_, by rw [hsl]⟩
        | true =>
          rw [hh] at q59
          have hw : wantM C B ⟨m, client, wish, server, false, false, false, now⟩ = firmM C B ⟨m, client, wish, server, false, false, false, now⟩ m.ci := by
            unfold wantM
            rw [if_neg (by simp), if_neg (by simp), if_neg (by rw [hh]; simp), if_neg (by simp)]
          rw [hw]
          obtain ⟨J1, p1⟩ := m61 (ha.app [.cells true (encQ ⟨m, client, wish, server, false, false, false, now⟩) 79, .cells true zC 29]) hn ⟨m, client, wish, server, false, false, false, now⟩ hc hnow m.ci
          rw [sapp ha.bk.bl] at p1
          obtain ⟨m', hm'⟩ : ∃ m', (firmM C B ⟨m, client, wish, server, false, false, false, now⟩ m.ci).2 = some m' := ⟨_, rfl⟩
          rw [hm'] at p1 ⊢
          simp only [ansV, encG_eq] at p1 ⊢
          simp (disch := first | omega | (simp only [List.length_cons, List.length_nil, List.length_append, List.length_map, List.length_set]; omega) | rfl | (simp only [List.length_cons, List.length_nil, List.length_append, List.length_map, List.length_set, List.length_replicate, List.all_cons, List.all_nil, List.all_append, storable, plainB, Bool.and_self]; done)) only [go_sem, reduceCtorEq, ↓reduceIte, reduceDIte, evI_callP, callPK_some, I36, evI_callM, q59, q34, q6, p1, g0, g1, g2, g3, g4, e0, e1, e2, e3, e4, t1, t2, t3, t4, f0, f1, f2, f3, f4, f5, f6, f7, onoG, List.append_assoc]
          exact ⟨_, rfl⟩
include ha hn hr in
theorem m37 (r : Rq) (hc : r.client.length ≤ 1048576) (hl : small r.m.o) (hnow : r.now.toNat ≤ 2305843009213693952) :
    ∃ J, hcall E 37 [.ref s 0 0, .agg (encQ r)] h = some (.tup [], (h.set kl (lnO (leaveM C B r).ln)).set kr (rsO (leaveM C B r).rs) ++ J) := by
  rcases r with ⟨m, client, wish, server, wished, named, own, now⟩
  have g0 := gapp ha.sv
  have g1 := gapp ha.bk.bk
  have g2 := gapp ha.bk.bb
  have g3 := gapp ha.bk.bl
  have g4 := gapp ha.bk.br
  have e0 := ha.sv
  have e1 := ha.bk.bk
  have e2 := ha.bk.bb
  have e3 := ha.bk.bl
  have e4 := ha.bk.br
  have t1 := gtop h
  have t2 := stop h
  have t3 := gtop1 h
  have t4 := stop1 h
  have n0 : kl ≠ s := neq_of ha.bk.bl ha.sv (by intro e; cases e)
  obtain ⟨n1, n2, n3, n4, n5⟩ := ha.bk.ne
  have f0 := fun o X => tset n0 ha.sv o X
  have f1 := fun o X => tset n2 ha.bk.bk o X
  have f2 := fun o X => tset n4 ha.bk.bb o X
  have f3 := fun o X => tset n1 ha.bk.br o X
  have f4 : ∀ o X, (h.set kl o ++ X)[kl]? = some o := fun o X => gapp (List.getElem?_set_self (List.getElem?_eq_some_iff.1 ha.bk.bl).1) X
  have f5 := fun o a X => ttop (h := h) kl o a X
  have f6 := fun o a b X => ttop1 (h := h) kl o a b X
  have f7 := fun o a b d X => tstop1 (h := h) kl o a b d X
  have hs0 : (h.set kl (lnO B.ln)).set kr (rsO B.rs) = h := by rw [sself ha.bk.bl, sself ha.bk.br]
  have hs1 : ∀ o, (h.set kl o).set kr (rsO B.rs) = h.set kl o := fun o => sself (gset n1 ha.bk.br o)
  obtain ⟨til, htil⟩ : ∃ t, addU now C.quiet = t := ⟨_, rfl⟩
  have htn : til.toNat = now.toNat + C.quiet.toNat := by rw [← htil]; exact addU_nat hnow
  have qk := fun g => s18 g m hl
  have hk4 := numO_lt m.o 53 1 (by omega)
  rw [hcall_go (fn := I37) rfl rfl rfl]
  have q59 := fun g => s59 g C B ⟨m, client, wish, server, wished, named, own, now⟩ hc
  have q57 := s57 ⟨m, client, wish, server, wished, named, own, now⟩ C.quiet til htn
  obtain ⟨hd, hhd⟩ : ∃ x, heldM B ⟨m, client, wish, server, wished, named, own, now⟩ = x := ⟨_, rfl⟩
  obtain ⟨x, hx⟩ : ∃ x, ((B.of client now).getD zLn).ip = x := ⟨_, rfl⟩
  simp only [show ((B.of client now).isSome && ((B.of client now).getD zLn).firm) = heldM B ⟨m, client, wish, server, wished, named, own, now⟩ from rfl, hhd, hx] at q59
  obtain ⟨kd, hkd⟩ : ∃ x, (numO m.o 53 1).1 = x := ⟨_, rfl⟩
  simp only [hkd, encG_eq] at qk
  have hi := i32_eq x m.ci
  cases own with
  | false =>
    have hw : leaveM C B ⟨m, client, wish, server, wished, named, false, now⟩ = B := by
      unfold leaveM
      rw [if_pos rfl]
    rw [hw]
    simp (disch := first | omega | (simp only [List.length_cons, List.length_nil, List.length_append, List.length_map, List.length_set]; omega) | rfl | (simp only [List.length_cons, List.length_nil, List.length_append, List.length_map, List.length_set, List.length_replicate, List.all_cons, List.all_nil, List.all_append, storable, plainB, Bool.and_self]; done)) only [go_sem, reduceCtorEq, ↓reduceIte, reduceDIte, evI_callP, callPK_some, I37, evI_callM, q59, qk, g0, g1, g2, g3, g4, e0, e1, e2, e3, e4, t1, t2, t3, t4, f0, f1, f2, f3, f4, f5, f6, f7, onoG, List.append_assoc]
    exact ⟨_, by rw [hs0]⟩
  | true =>
    by_cases k4 : kd = 4
    · have k4' : (kd : Int) = 4 := by omega
      cases wished with
      | true =>
        have hw : leaveM C B ⟨m, client, wish, server, true, named, true, now⟩ = (B.rest client wish now til).1 := by
          unfold leaveM
          rw [if_neg (by simp), if_pos ⟨hkd.trans k4, rfl⟩, htil]
        rw [hw]
        obtain ⟨J1, p1⟩ := m62 (ha.bk.app [.cells true (encQ ⟨m, client, wish, server, true, named, true, now⟩) 79]) hn hr client hc wish now til
        rw [sapp ha.bk.bl, sapp (gset n1 ha.bk.br _)] at p1
        simp (disch := first | omega | (simp only [List.length_cons, List.length_nil, List.length_append, List.length_map, List.length_set]; omega) | rfl | (simp only [List.length_cons, List.length_nil, List.length_append, List.length_map, List.length_set, List.length_replicate, List.all_cons, List.all_nil, List.all_append, storable, plainB, Bool.and_self]; done)) only [go_sem, reduceCtorEq, ↓reduceIte, reduceDIte, evI_callP, callPK_some, I37, evI_callM, q59, qk, q57, p1, k4', g0, g1, g2, g3, g4, e0, e1, e2, e3, e4, t1, t2, t3, t4, f0, f1, f2, f3, f4, f5, f6, f7, onoG, List.append_assoc]
        exact ⟨_, rfl⟩
      | false =>
        have hw : leaveM C B ⟨m, client, wish, server, false, named, true, now⟩ = B := by
          unfold leaveM
          rw [if_neg (by simp), if_neg (by simp), if_neg (by rw [hkd, k4]; simp)]
        rw [hw]
        simp (disch := first | omega | (simp only [List.length_cons, List.length_nil, List.length_append, List.length_map, List.length_set]; omega) | rfl | (simp only [List.length_cons, List.length_nil, List.length_append, List.length_map, List.length_set, List.length_replicate, List.all_cons, List.all_nil, List.all_append, storable, plainB, Bool.and_self]; done)) only [go_sem, reduceCtorEq, ↓reduceIte, reduceDIte, evI_callP, callPK_some, I37, evI_callM, q59, qk, k4', g0, g1, g2, g3, g4, e0, e1, e2, e3, e4, t1, t2, t3, t4, f0, f1, f2, f3, f4, f5, f6, f7, onoG, List.append_assoc]
        exact ⟨_, by rw [hs0]⟩
    · have k4' : ¬ (kd : Int) = 4 := by omega
      by_cases k7 : kd = 7
      · have k7' : (kd : Int) = 7 := by omega
        by_cases hall : hd = true ∧ x = m.ci
        · obtain ⟨rfl, hxc⟩ := hall
          have hw : leaveM C B ⟨m, client, wish, server, wished, named, true, now⟩ = (B.drop client true).1 := by
            unfold leaveM
            rw [if_neg (by simp), if_neg (by rw [hkd]; simp [k4]), if_pos ⟨hkd.trans k7, hhd, hx.trans hxc⟩]
          rw [hw]
          have hrs : (B.drop client true).1.rs = B.rs := by
            unfold Bk.drop
            repeat' split
            all_goals rfl
          obtain ⟨J1, p1⟩ := m60 (ha.bk.app [.cells true (encQ ⟨m, client, wish, server, wished, named, true, now⟩) 79]) hn client hc true
          rw [sapp ha.bk.bl] at p1
          rw [hrs, hs1]
          simp (disch := first | omega | (simp only [List.length_cons, List.length_nil, List.length_append, List.length_map, List.length_set]; omega) | rfl | (simp only [List.length_cons, List.length_nil, List.length_append, List.length_map, List.length_set, List.length_replicate, List.all_cons, List.all_nil, List.all_append, storable, plainB, Bool.and_self]; done)) only [go_sem, reduceCtorEq, ↓reduceIte, reduceDIte, evI_callP, callPK_some, I37, evI_callM, q59, qk, p1, k4', k7', hi, hxc, g0, g1, g2, g3, g4, e0, e1, e2, e3, e4, t1, t2, t3, t4, f0, f1, f2, f3, f4, f5, f6, f7, onoG, List.append_assoc]
          exact ⟨_, rfl⟩
        · have hw : leaveM C B ⟨m, client, wish, server, wished, named, true, now⟩ = B := by
            unfold leaveM
            rw [if_neg (by simp), if_neg (by rw [hkd]; simp [k4]), if_neg (fun h => hall ⟨hhd.symm.trans h.2.1, hx.symm.trans h.2.2⟩)]
          rw [hw]
          cases hd with
          | false =>
            simp (disch := first | omega | (simp only [List.length_cons, List.length_nil, List.length_append, List.length_map, List.length_set]; omega) | rfl | (simp only [List.length_cons, List.length_nil, List.length_append, List.length_map, List.length_set, List.length_replicate, List.all_cons, List.all_nil, List.all_append, storable, plainB, Bool.and_self]; done)) only [go_sem, reduceCtorEq, ↓reduceIte, reduceDIte, evI_callP, callPK_some, I37, evI_callM, q59, qk, k4', k7', g0, g1, g2, g3, g4, e0, e1, e2, e3, e4, t1, t2, t3, t4, f0, f1, f2, f3, f4, f5, f6, f7, onoG, List.append_assoc]
            exact ⟨_, by rw [hs0]⟩
          | true =>
            have hxc : ¬ x = m.ci := fun h => hall ⟨rfl, h⟩
            simp (disch := first | omega | (simp only [List.length_cons, List.length_nil, List.length_append, List.length_map, List.length_set]; omega) | rfl | (simp only [List.length_cons, List.length_nil, List.length_append, List.length_map, List.length_set, List.length_replicate, List.all_cons, List.all_nil, List.all_append, storable, plainB, Bool.and_self]; done)) only [go_sem, reduceCtorEq, ↓reduceIte, reduceDIte, evI_callP, callPK_some, I37, evI_callM, q59, qk, k4', k7', hi, hxc, g0, g1, g2, g3, g4, e0, e1, e2, e3, e4, t1, t2, t3, t4, f0, f1, f2, f3, f4, f5, f6, f7, onoG, List.append_assoc]
            exact ⟨_, by rw [hs0]⟩
      · have k7' : ¬ (kd : Int) = 7 := by omega
        have hw : leaveM C B ⟨m, client, wish, server, wished, named, true, now⟩ = B := by
          unfold leaveM
          rw [if_neg (by simp), if_neg (by rw [hkd]; simp [k4]), if_neg (by rw [hkd]; simp [k7])]
        rw [hw]
        simp (disch := first | omega | (simp only [List.length_cons, List.length_nil, List.length_append, List.length_map, List.length_set]; omega) | rfl | (simp only [List.length_cons, List.length_nil, List.length_append, List.length_map, List.length_set, List.length_replicate, List.all_cons, List.all_nil, List.all_append, storable, plainB, Bool.and_self]; done)) only [go_sem, reduceCtorEq, ↓reduceIte, reduceDIte, evI_callP, callPK_some, I37, evI_callM, q59, qk, k4', k7', g0, g1, g2, g3, g4, e0, e1, e2, e3, e4, t1, t2, t3, t4, f0, f1, f2, f3, f4, f5, f6, f7, onoG, List.append_assoc]
        exact ⟨_, by rw [hs0]⟩
end
theorem rs_offer (B : Bk) (c : List UInt8) (w : UInt32) (now til : UInt64) : (B.offer c w now til).1.rs = B.rs := by
  unfold Bk.offer
  repeat' split
  all_goals rfl
theorem rs_firm (B : Bk) (c : List UInt8) (w : UInt32) (now til : UInt64) : (B.firm c w now til).1.rs = B.rs := by
  unfold Bk.firm
  repeat' split
  all_goals rfl
theorem rs_drop (B : Bk) (c : List UInt8) (f : Bool) : (B.drop c f).1.rs = B.rs := by
  unfold Bk.drop
  repeat' split
  all_goals rfl
theorem rs_disc (C : Cf) (B : Bk) (r : Rq) : (discM C B r).1.rs = B.rs := rs_offer B r.client r.wish r.now (addU r.now C.hold)
theorem rs_firmM (C : Cf) (B : Bk) (r : Rq) (ip : UInt32) : (firmM C B r ip).1.rs = B.rs := rs_firm B r.client ip r.now (addU r.now C.time)
theorem rs_want (C : Cf) (B : Bk) (r : Rq) : (wantM C B r).1.rs = B.rs := by
  unfold wantM
  split
  · exact rs_drop ..
  split
  · split
    · exact rs_firmM ..
    · rfl
  split
  · rfl
  · exact rs_firmM ..
theorem gtop2 (h : Heap) (a b c : AObj) (X : Heap) : (h ++ a :: b :: c :: X)[h.length + 2]? = some c := by
  rw [List.getElem?_append_right (by omega), show h.length + 2 - h.length = 2 by omega]
  rfl
theorem stop2 (h : Heap) (a b c d : AObj) (X : Heap) : (h ++ a :: b :: c :: X).set (h.length + 2) d = h ++ a :: b :: d :: X := by
  rw [List.set_append_right _ _ (by omega), show h.length + 2 - h.length = 2 by omega]
  rfl
theorem dtop1 {h : Heap} (kl kr : Nat) (o o' a b : AObj) (X : Heap) : ((h.set kl o).set kr o' ++ a :: b :: X)[h.length + 1]? = some b := by
  have := gtop1 ((h.set kl o).set kr o') a b X
  rwa [List.length_set, List.length_set] at this
theorem dstop1 {h : Heap} (kl kr : Nat) (o o' a b d : AObj) (X : Heap) : ((h.set kl o).set kr o' ++ a :: b :: X).set (h.length + 1) d = (h.set kl o).set kr o' ++ a :: d :: X := by
  have := stop1 ((h.set kl o).set kr o') a b d X
  rwa [List.length_set, List.length_set] at this
abbrev zQ : List AV := [.int .u8 0, .int .u32 0, .int .u16 0, .bool false, .int .u32 0, .int .u32 0, .int .u32 0, .int .u32 0, .int .u8 0, .int .u8 0, .int .u8 0, .int .u8 0, .int .u8 0, .int .u8 0, .rs false 2 [], .str ⟨#[]⟩, .int .u32 0, .int .u32 0, .bool false, .bool false, .bool false, .int .u64 0]
section
variable {h : Heap} {s k kb kl kr : Nat} {C : Cf} {B : Bk} (ha : SAt h s k kb kl kr C B) (hB : B.Ok) (hn : B.ln.length ≤ 1048576) (hr : B.rs.length ≤ 1048576)
include ha hB hn hr
theorem m13 (m : Msg) (hl : small m.o) (now : UInt64) :
    ∃ J, hcall E 13 [.ref s 0 0, .agg (encG false m), i64u now] h = some (ansV (hearM C B m now).2, (h.set kl (lnO (hearM C B m now).1.ln)).set kr (rsO (hearM C B m now).1.rs) ++ J) := by
  have g0 := gapp ha.sv
  have g1 := gapp ha.bk.bk
  have g2 := gapp ha.bk.bb
  have g3 := gapp ha.bk.bl
  have g4 := gapp ha.bk.br
  have e0 := ha.sv
  have e1 := ha.bk.bk
  have e2 := ha.bk.bb
  have e3 := ha.bk.bl
  have e4 := ha.bk.br
  have t1 := gtop h
  have t2 := stop h
  have t3 := gtop1 h
  have t4 := stop1 h
  have n0 : kl ≠ s := neq_of ha.bk.bl ha.sv (by intro e; cases e)
  obtain ⟨n1, n2, n3, n4, n5⟩ := ha.bk.ne
  have f0 := fun o X => tset n0 ha.sv o X
  have f1 := fun o X => tset n2 ha.bk.bk o X
  have f2 := fun o X => tset n4 ha.bk.bb o X
  have f3 := fun o X => tset n1 ha.bk.br o X
  have f4 : ∀ o X, (h.set kl o ++ X)[kl]? = some o := fun o X => gapp (List.getElem?_set_self (List.getElem?_eq_some_iff.1 ha.bk.bl).1) X
  have f5 := fun o a X => ttop (h := h) kl o a X
  have f6 := fun o a b X => ttop1 (h := h) kl o a b X
  have f7 := fun o a b d X => tstop1 (h := h) kl o a b d X
  have u3 := gtop2 h
  have u4 := stop2 h
  have d6 := fun o o' a b X => dtop1 (h := h) kl kr o o' a b X
  have d7 := fun o o' a b d X => dstop1 (h := h) kl kr o o' a b d X
  have hs0 : (h.set kl (lnO B.ln)).set kr (rsO B.rs) = h := by rw [sself ha.bk.bl, sself ha.bk.br]
  have hs1 : ∀ o, (h.set kl o).set kr (rsO B.rs) = h.set kl o := fun o => sself (gset n1 ha.bk.br o)
  have q33 := fun g => s33 g C B m hl now
  have q34 := s34
  rw [zC_eq] at q34
  have qk := fun g => s18 g m hl
  have hk4 := numO_lt m.o 53 1 (by omega)
  have hnowb : (bU now).toNat ≤ 2305843009213693952 := by rw [bU_nat]; omega
  obtain ⟨kd, hkd⟩ : ∃ x, (numO m.o 53 1).1 = x := ⟨_, rfl⟩
  rw [hcall_go (fn := I13) rfl rfl rfl]
  unfold hearM
  rw [hkd]
  have hR : readQ C m now = ⟨m, clientL m, (readQ C m now).wish, (readQ C m now).server, (readQ C m now).wished, (readQ C m now).named, (readQ C m now).own, bU now⟩ := rfl
  rw [hR] at q33 ⊢
  generalize (readQ C m now).wish = wish at *
  generalize (readQ C m now).server = server at *
  generalize (readQ C m now).wished = wished at *
  generalize (readQ C m now).named = named at *
  generalize (readQ C m now).own = own at *
  clear hR
  simp only [hkd, encG_eq] at qk q33 ⊢
  have hcz : (⟨(clientL m).toArray⟩ : ByteArray).size = (clientL m).length := rfl
  by_cases ho : m.op = 1
  case neg =>
    have ho' : ((m.op.toNat : Int) = 1) = False := eq_false (fun h => ho (UInt8.toNat_inj.1 (by show m.op.toNat = 1; omega)))
    rw [if_pos (.inl ho)]
    simp only [ansV, zC_eq]
    simp (disch := first | omega | (simp only [List.length_cons, List.length_nil, List.length_append, List.length_map, List.length_set]; omega) | rfl | (simp only [List.length_cons, List.length_nil, List.length_append, List.length_map, List.length_set, List.length_replicate, List.all_cons, List.all_nil, List.all_append, storable, plainB, Bool.and_self]; done)) only [go_sem, reduceCtorEq, ↓reduceIte, reduceDIte, evI_callP, callPK_some, I13, evI_callM, q33, q34, qk, ho', g0, g1, g2, g3, g4, e0, e1, e2, e3, e4, t1, t2, t3, t4, u3, u4, f0, f1, f2, f3, f4, f5, f6, f7, d6, d7, onoG, List.append_assoc]
    exact ⟨_, by rw [hs0]⟩
  have ho' : ((m.op.toNat : Int) = 1) = True := eq_true (by rw [ho]; rfl)
  by_cases hg : m.gi = 0
  case neg =>
    have hg' : ((m.gi.toNat : Int) = 0) = False := eq_false (fun h => hg (UInt32.toNat_inj.1 (by show m.gi.toNat = 0; omega)))
    rw [if_pos (.inr (.inl hg))]
    simp only [ansV, zC_eq]
    simp (disch := first | omega | (simp only [List.length_cons, List.length_nil, List.length_append, List.length_map, List.length_set]; omega) | rfl | (simp only [List.length_cons, List.length_nil, List.length_append, List.length_map, List.length_set, List.length_replicate, List.all_cons, List.all_nil, List.all_append, storable, plainB, Bool.and_self]; done)) only [go_sem, reduceCtorEq, ↓reduceIte, reduceDIte, evI_callP, callPK_some, I13, evI_callM, q33, q34, qk, ho', hg', g0, g1, g2, g3, g4, e0, e1, e2, e3, e4, t1, t2, t3, t4, u3, u4, f0, f1, f2, f3, f4, f5, f6, f7, d6, d7, onoG, List.append_assoc]
    exact ⟨_, by rw [hs0]⟩
  have hg' : ((m.gi.toNat : Int) = 0) = True := eq_true (by rw [hg]; rfl)
  by_cases hlen : 255 < (clientL m).length
  case pos =>
    have hlen' : (255 : Int) < ((clientL m).length : Int) := by omega
    rw [if_pos (.inr (.inr hlen))]
    simp only [ansV, zC_eq]
    simp (disch := first | omega | (simp only [List.length_cons, List.length_nil, List.length_append, List.length_map, List.length_set]; omega) | rfl | (simp only [List.length_cons, List.length_nil, List.length_append, List.length_map, List.length_set, List.length_replicate, List.all_cons, List.all_nil, List.all_append, storable, plainB, Bool.and_self]; done)) only [go_sem, reduceCtorEq, ↓reduceIte, reduceDIte, evI_callP, callPK_some, I13, evI_callM, q33, q34, qk, ho', hg', hcz, hlen', g0, g1, g2, g3, g4, e0, e1, e2, e3, e4, t1, t2, t3, t4, u3, u4, f0, f1, f2, f3, f4, f5, f6, f7, d6, d7, onoG, List.append_assoc]
    exact ⟨_, by rw [hs0]⟩
  have hlen' : ¬ (255 : Int) < ((clientL m).length : Int) := by omega
  rw [if_neg (by simp [ho, hg, hlen])]
  obtain ⟨X, hX⟩ : ∃ X : Heap, X = [.cells true [.int .u8 (m.op.toNat : Int), .int .u32 (m.xid.toNat : Int), .int .u16 (m.secs.toNat : Int), .bool m.wide, .int .u32 (m.ci.toNat : Int), .int .u32 (m.yi.toNat : Int), .int .u32 (m.si.toNat : Int), .int .u32 (m.gi.toNat : Int), .int .u8 (m.a.toNat : Int), .int .u8 (m.b.toNat : Int), .int .u8 (m.c.toNat : Int), .int .u8 (m.d.toNat : Int), .int .u8 (m.e.toNat : Int), .int .u8 (m.f.toNat : Int), opts false m.o] 29, .cells true zC 29, .cells true (encQ ⟨m, clientL m, wish, server, wished, named, own, bU now⟩) 79] := ⟨_, rfl⟩
  have hc : (clientL m).length ≤ 1048576 := by omega
  by_cases k1 : kd = 1
  case pos =>
    have k1' : ((kd : Int) = 1) = True := eq_true (by omega)
    rw [if_pos k1]
    obtain ⟨J1, p1⟩ := m35 (ha.app X) hB hn ⟨m, clientL m, wish, server, wished, named, own, bU now⟩ hc hnowb
    rw [rs_disc, hs1]
    rw [sapp ha.bk.bl, hX] at p1
    generalize discM C B ⟨m, clientL m, wish, server, wished, named, own, bU now⟩ = D at p1 ⊢
    rcases D with ⟨B', a⟩
    cases a with
    | none =>
      simp only [ansV, zC_eq] at p1 ⊢
      simp (disch := first | omega | (simp only [List.length_cons, List.length_nil, List.length_append, List.length_map, List.length_set]; omega) | rfl | (simp only [List.length_cons, List.length_nil, List.length_append, List.length_map, List.length_set, List.length_replicate, List.all_cons, List.all_nil, List.all_append, storable, plainB, Bool.and_self]; done)) only [go_sem, reduceCtorEq, ↓reduceIte, reduceDIte, evI_callP, callPK_some, I13, evI_callM, q33, q34, qk, ho', hg', hcz, hlen', k1', p1, g0, g1, g2, g3, g4, e0, e1, e2, e3, e4, t1, t2, t3, t4, u3, u4, f0, f1, f2, f3, f4, f5, f6, f7, d6, d7, onoG, List.append_assoc]
      exact ⟨_, rfl⟩
    | some m' =>
      simp only [ansV, encG_eq] at p1 ⊢
      simp (disch := first | omega | (simp only [List.length_cons, List.length_nil, List.length_append, List.length_map, List.length_set]; omega) | rfl | (simp only [List.length_cons, List.length_nil, List.length_append, List.length_map, List.length_set, List.length_replicate, List.all_cons, List.all_nil, List.all_append, storable, plainB, Bool.and_self]; done)) only [go_sem, reduceCtorEq, ↓reduceIte, reduceDIte, evI_callP, callPK_some, I13, evI_callM, q33, q34, qk, ho', hg', hcz, hlen', k1', p1, g0, g1, g2, g3, g4, e0, e1, e2, e3, e4, t1, t2, t3, t4, u3, u4, f0, f1, f2, f3, f4, f5, f6, f7, d6, d7, onoG, List.append_assoc]
      exact ⟨_, rfl⟩
  have k1' : ((kd : Int) = 1) = False := eq_false (by omega)
  by_cases k3 : kd = 3
  case pos =>
    have k3' : ((kd : Int) = 3) = True := eq_true (by omega)
    rw [if_neg k1, if_pos k3]
    obtain ⟨J1, p1⟩ := m36 (ha.app X) hn ⟨m, clientL m, wish, server, wished, named, own, bU now⟩ hc hnowb
    rw [rs_want, hs1]
    rw [sapp ha.bk.bl, hX] at p1
    generalize wantM C B ⟨m, clientL m, wish, server, wished, named, own, bU now⟩ = D at p1 ⊢
    rcases D with ⟨B', a⟩
    cases a with
    | none =>
      simp only [ansV, zC_eq] at p1 ⊢
      simp (disch := first | omega | (simp only [List.length_cons, List.length_nil, List.length_append, List.length_map, List.length_set]; omega) | rfl | (simp only [List.length_cons, List.length_nil, List.length_append, List.length_map, List.length_set, List.length_replicate, List.all_cons, List.all_nil, List.all_append, storable, plainB, Bool.and_self]; done)) only [go_sem, reduceCtorEq, ↓reduceIte, reduceDIte, evI_callP, callPK_some, I13, evI_callM, q33, q34, qk, ho', hg', hcz, hlen', k1', k3', p1, g0, g1, g2, g3, g4, e0, e1, e2, e3, e4, t1, t2, t3, t4, u3, u4, f0, f1, f2, f3, f4, f5, f6, f7, d6, d7, onoG, List.append_assoc]
      exact ⟨_, rfl⟩
    | some m' =>
      simp only [ansV, encG_eq] at p1 ⊢
      simp (disch := first | omega | (simp only [List.length_cons, List.length_nil, List.length_append, List.length_map, List.length_set]; omega) | rfl | (simp only [List.length_cons, List.length_nil, List.length_append, List.length_map, List.length_set, List.length_replicate, List.all_cons, List.all_nil, List.all_append, storable, plainB, Bool.and_self]; done)) only [go_sem, reduceCtorEq, ↓reduceIte, reduceDIte, evI_callP, callPK_some, I13, evI_callM, q33, q34, qk, ho', hg', hcz, hlen', k1', k3', p1, g0, g1, g2, g3, g4, e0, e1, e2, e3, e4, t1, t2, t3, t4, u3, u4, f0, f1, f2, f3, f4, f5, f6, f7, d6, d7, onoG, List.append_assoc]
      exact ⟨_, rfl⟩
  have k3' : ((kd : Int) = 3) = False := eq_false (by omega)
  rw [if_neg k1, if_neg k3]
  by_cases k47 : kd = 4 ∨ kd = 7
  case pos =>
    rw [if_pos k47]
    obtain ⟨J1, p1⟩ := m37 (ha.app X) hn hr ⟨m, clientL m, wish, server, wished, named, own, bU now⟩ hc hl hnowb
    rw [sapp ha.bk.bl, sapp (gset n1 ha.bk.br _), hX] at p1
    generalize leaveM C B ⟨m, clientL m, wish, server, wished, named, own, bU now⟩ = B' at p1 ⊢
    simp only [ansV, zC_eq]
    rcases k47 with k4 | k7
    · have k4' : ((kd : Int) = 4) = True := eq_true (by omega)
      simp (disch := first | omega | (simp only [List.length_cons, List.length_nil, List.length_append, List.length_map, List.length_set]; omega) | rfl | (simp only [List.length_cons, List.length_nil, List.length_append, List.length_map, List.length_set, List.length_replicate, List.all_cons, List.all_nil, List.all_append, storable, plainB, Bool.and_self]; done)) only [go_sem, reduceCtorEq, ↓reduceIte, reduceDIte, evI_callP, callPK_some, I13, evI_callM, q33, q34, qk, ho', hg', hcz, hlen', k1', k3', k4', p1, g0, g1, g2, g3, g4, e0, e1, e2, e3, e4, t1, t2, t3, t4, u3, u4, f0, f1, f2, f3, f4, f5, f6, f7, d6, d7, onoG, List.append_assoc]
      exact ⟨_, rfl⟩
    · have k4' : ((kd : Int) = 4) = False := eq_false (by omega)
      have k7' : ((kd : Int) = 7) = True := eq_true (by omega)
      simp (disch := first | omega | (simp only [List.length_cons, List.length_nil, List.length_append, List.length_map, List.length_set]; omega) | rfl | (simp only [List.length_cons, List.length_nil, List.length_append, List.length_map, List.length_set, List.length_replicate, List.all_cons, List.all_nil, List.all_append, storable, plainB, Bool.and_self]; done)) only [go_sem, reduceCtorEq, ↓reduceIte, reduceDIte, evI_callP, callPK_some, I13, evI_callM, q33, q34, qk, ho', hg', hcz, hlen', k1', k3', k4', k7', p1, g0, g1, g2, g3, g4, e0, e1, e2, e3, e4, t1, t2, t3, t4, u3, u4, f0, f1, f2, f3, f4, f5, f6, f7, d6, d7, onoG, List.append_assoc]
      exact ⟨_, rfl⟩
  have k4' : ((kd : Int) = 4) = False := eq_false (by omega)
  have k7' : ((kd : Int) = 7) = False := eq_false (by omega)
  rw [if_neg k47]
  simp only [ansV, zC_eq]
  simp (disch := first | omega | (simp only [List.length_cons, List.length_nil, List.length_append, List.length_map, List.length_set]; omega) | rfl | (simp only [List.length_cons, List.length_nil, List.length_append, List.length_map, List.length_set, List.length_replicate, List.all_cons, List.all_nil, List.all_append, storable, plainB, Bool.and_self]; done)) only [go_sem, reduceCtorEq, ↓reduceIte, reduceDIte, evI_callP, callPK_some, I13, evI_callM, q33, q34, qk, ho', hg', hcz, hlen', k1', k3', k4', k7', g0, g1, g2, g3, g4, e0, e1, e2, e3, e4, t1, t2, t3, t4, u3, u4, f0, f1, f2, f3, f4, f5, f6, f7, d6, d7, onoG, List.append_assoc]
  exact ⟨_, by rw [hs0]⟩
end
end Go.Fw.Wd
