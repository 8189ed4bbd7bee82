/-
  The law DhcpFull at the evaluation. Conditions: none of the law.
-/
import Derived.Test.YtefkoichicalfaaWdDst
set_option linter.unusedVariables false
set_option linter.unusedSimpArgs false
set_option linter.unusedSectionVars false
namespace Go.Fw.Wd
open Go.Proofs Code_

def fmsg (m : Msg) : AObj := .cells true (encG false m) 29
theorem fmsg_eq (m : Msg) : fmsg m = .cells true [.int .u8 (m.op.toNat : Int), .int .u32 (m.xid.toNat : Int), .int .u16 (m.secs.toNat : Int), .bool m.wide, .int .u32 (m.ci.toNat : Int), .int .u32 (m.yi.toNat : Int), .int .u32 (m.si.toNat : Int), .int .u32 (m.gi.toNat : Int),
  .int .u8 (m.a.toNat : Int), .int .u8 (m.b.toNat : Int), .int .u8 (m.c.toNat : Int), .int .u8 (m.d.toNat : Int), .int .u8 (m.e.toNat : Int), .int .u8 (m.f.toNat : Int), opts false m.o] 29 := rfl
def fcon : AObj := .cells true smallV 36
theorem fcon_eq : fcon = .cells true [.int .u32 167772161, .int .u32 4294967040, .int .u32 167772161, .int .u32 167772163, .int .u32 100, .int .u32 10, .int .u32 50] 36 := rfl
theorem Cs.head2 {o o2 : AObj} {ag ag2 : Bool} {vs vs2 : List AV} {t t2 : TypeId} {h h' : Heap} (ho : o = .cells ag vs t) (ho2 : o2 = .cells ag2 vs2 t2) (x : Cs (o :: o2 :: h) h') : ∃ h2, h' = o :: o2 :: h2 := by
  obtain ⟨h1, rfl⟩ := x.head ho
  have := x 1 ag2 vs2 t2 (by rw [ho2]; rfl)
  cases h1 with
  | nil => cases this
  | cons a h2 => simp at this; exact ⟨h2, by rw [this, ho2]⟩
theorem ful_loop (l : List Cm) (hl : l.length ≤ 60) (hs : ∀ c ∈ l, small c.m.o) (m : Msg) (now : UInt64) (p : Pl) : ∀ (n i : Nat) (B : Bk) (H : Heap), i + n = l.length → Lv (fmsg m :: fcon :: H) p B i →
    ∃ (B' : Bk) (H' : Heap), Lv (fmsg m :: fcon :: H') p B' 60 ∧
    T5_0 E (lp E L5_0 [(0, cmR l), (2, i64u now), (4, .ref 0 0 0), (7, .ref 1 0 0), (8, .ref p.s 0 0), (10, .int .i64 (i : Int))] (fmsg m :: fcon :: H)) =
    T5_0 E (some (.exit 0, ⟨[(0, cmR l), (2, i64u now), (4, .ref 0 0 0), (7, .ref 1 0 0), (8, .ref p.s 0 0), (10, .int .i64 (l.length : Int))], fmsg m :: fcon :: H'⟩)) := by
  intro n
  induction n with
  | zero =>
    intro i B H hi v
    obtain rfl : i = l.length := by omega
    refine ⟨B, H, v.mono hl, ?_⟩
    have hlt : ¬ ((l.length : Int) < (l.length : Int)) := by omega
    rw [L5_0_go]
    simp (disch := first | omega | (simp only [List.length_cons, List.length_nil, List.length_append, List.length_map, List.length_set]; omega) | rfl | (simp only [List.length_cons, List.length_nil, List.length_append, List.length_map, List.length_set, List.length_replicate, List.all_cons, List.all_nil, List.all_append, storable, plainB, Bool.and_self]; done)) only [go_sem, reduceCtorEq, ↓reduceIte, reduceDIte, evI_callP, callPK_some, B5_0, hlt]
    rfl
  | succ n ih =>
    intro i B H hi v
    have hil : i < l.length := by omega
    have hlt : (i : Int) < (l.length : Int) := by omega
    have hia := cm_iaddr hil hl
    have hci := hs l[i] (List.getElem_mem hil)
    obtain ⟨h', q, v', cs⟩ := v.hear (by omega) l[i].m hci l[i].now
    obtain ⟨H2, rfl⟩ := cs.head2 (show fmsg m = .cells true (encG false m) 29 from rfl) (show fcon = .cells true smallV 36 from rfl)
    obtain ⟨B', H', k1, k2⟩ := ih (i + 1) _ H2 (by omega) v'
    refine ⟨B', H', k1, ?_⟩
    rw [← k2, show ((i + 1 : Nat) : Int) = (i : Int) + 1 by omega]
    simp only [encG_eq] at q
    generalize l[i] = c at *
    rw [L5_0_go]
    simp (disch := first | omega | (simp only [List.length_cons, List.length_nil, List.length_append, List.length_map, List.length_set]; omega) | rfl | (simp only [List.length_cons, List.length_nil, List.length_append, List.length_map, List.length_set, List.length_replicate, List.all_cons, List.all_nil, List.all_append, storable, plainB, Bool.and_self]; done)) only [go_sem, reduceCtorEq, ↓reduceIte, reduceDIte, evI_callP, callPK_some, B5_0, hlt, hia, evI_callM, q, L5_0_lp]
abbrev fulS (l : List Cm) (now : UInt64) (p : Pl) (b : Bool) (ip : Int) : Slots := [(2, i64u now), (4, .ref 0 0 0), (7, .ref 1 0 0), (8, .ref p.s 0 0), (11, .bool b), (12, .int .u32 ip)]
/-- One address is looked at. -/
theorem ful_step (l : List Cm) (m : Msg) (now : UInt64) (p : Pl) (B : Bk) (H : Heap) (v : Lv (fmsg m :: fcon :: H) p B 60) (b : Bool) (ip : UInt32) (hip : ip.toNat ≤ 167772163) :
    T5_1 E (lp E L5_1 (fulS l now p b (ip.toNat : Int)) (fmsg m :: fcon :: H)) =
    T5_1 E (lp E L5_1 (fulS l now p (b || B.free ip now) ((ip.toNat : Int) + 1)) (fmsg m :: fcon :: H)) := by
  have g := v.gets
  have e1 := g.sv
  have e2 := g.bk
  have e3 := g.bb
  have e4 := g.bl
  have e5 := g.br
  have hrd := rd_book
  have q22 := fun g => s22 g B ip now
  have hle : (ip.toNat : Int) ≤ 167772163 := by omega
  have hw : IntKind.u32.wrap ((ip.toNat : Int) + 1) = (ip.toNat : Int) + 1 := wu32 (by omega) (by omega)
  rw [L5_1_go]
  simp only [fcon_eq] at e1 e2 e3 e4 e5 ⊢
  cases b with
  | true => simp (disch := first | omega | (simp only [List.length_cons, List.length_nil, List.length_append, List.length_map, List.length_set]; omega) | rfl | (simp only [List.length_cons, List.length_nil, List.length_append, List.length_map, List.length_set, List.length_replicate, List.all_cons, List.all_nil, List.all_append, storable, plainB, Bool.and_self]; done)) only [go_sem, reduceCtorEq, ↓reduceIte, reduceDIte, evI_callP, callPK_some, B5_1, hle, hw, L5_1_lp]
  | false => simp (disch := first | omega | (simp only [List.length_cons, List.length_nil, List.length_append, List.length_map, List.length_set]; omega) | rfl | (simp only [List.length_cons, List.length_nil, List.length_append, List.length_map, List.length_set, List.length_replicate, List.all_cons, List.all_nil, List.all_append, storable, plainB, Bool.and_self]; done)) only [go_sem, reduceCtorEq, ↓reduceIte, reduceDIte, evI_callP, callPK_some, B5_1, hle, hw, hrd, q22, e1, e2, e3, e4, e5, L5_1_lp]
theorem ful_end (l : List Cm) (m : Msg) (now : UInt64) (p : Pl) (H : Heap) (b : Bool) :
    T5_1 E (lp E L5_1 (fulS l now p b 167772164) (fmsg m :: fcon :: H)) =
    T5_1 E (some (.exit 2, ⟨fulS l now p b 167772164, fmsg m :: fcon :: H⟩)) := by
  have hle : ¬ ((167772164 : Int) ≤ 167772163) := by omega
  rw [L5_1_go]
  simp only [fcon_eq]
  simp (disch := first | omega | (simp only [List.length_cons, List.length_nil, List.length_append, List.length_map, List.length_set]; omega) | rfl | (simp only [List.length_cons, List.length_nil, List.length_append, List.length_map, List.length_set, List.length_replicate, List.all_cons, List.all_nil, List.all_append, storable, plainB, Bool.and_self]; done)) only [go_sem, reduceCtorEq, ↓reduceIte, reduceDIte, evI_callP, callPK_some, B5_1, hle]
  rfl
def anyFree (B : Bk) (now : UInt64) : Bool := ((false || B.free 167772161 now) || B.free 167772162 now) || B.free 167772163 now
theorem ful_three (l : List Cm) (m : Msg) (now : UInt64) (p : Pl) (B : Bk) (H : Heap) (v : Lv (fmsg m :: fcon :: H) p B 60) :
    T5_1 E (lp E L5_1 (fulS l now p false 167772161) (fmsg m :: fcon :: H)) =
    T5_1 E (some (.exit 2, ⟨fulS l now p (anyFree B now) 167772164, fmsg m :: fcon :: H⟩)) :=
  (ful_step l m now p B H v false 167772161 (by decide)).trans ((ful_step l m now p B H v _ 167772162 (by decide)).trans ((ful_step l m now p B H v _ 167772163 (by decide)).trans (ful_end l m now p H _)))

/-! ### the plain law -/

/-- A message that isn't for the server says and changes nothing. -/
theorem hear_not (B : Bk) (m : Msg) (now : UInt64) (h : m.op ≠ 1 ∨ m.gi ≠ 0 ∨ (numO m.o 53 1).1 < 1 ∨ 7 < (numO m.o 53 1).1) : hearM smallC B m now = (B, none) := by
  unfold hearM
  by_cases h1 : m.op ≠ 1 ∨ m.gi ≠ 0 ∨ 255 < (clientL m).length
  · rw [if_pos h1]
  · rw [if_neg h1]
    simp only [not_or] at h1
    have h2 : (numO m.o 53 1).1 < 1 ∨ 7 < (numO m.o 53 1).1 := by
      rcases h with h | h | h
      · exact absurd h h1.1
      · exact absurd h h1.2.1
      · exact h
    rw [if_neg (by omega), if_neg (by omega), if_neg (by omega)]
theorem ip_three {B : Bk} (hk : Kin smallB B) {ip : UInt32} {now : UInt64} (h : B.free ip now = true) : ip = 167772161 ∨ ip = 167772162 ∨ ip = 167772163 := by
  unfold Bk.free at h
  simp only [Bool.and_eq_true, Bool.not_eq_true', Bool.or_eq_false_iff, decide_eq_false_iff_not] at h
  have h1 := h.1.1.1.1
  have h2 := h.1.1.1.2
  rw [hk.fst] at h1
  rw [hk.lst] at h2
  have e1 : smallB.fst.toNat = 167772161 := rfl
  have e2 : smallB.lst.toNat = 167772163 := rfl
  have h3 : ip.toNat = 167772161 ∨ ip.toNat = 167772162 ∨ ip.toNat = 167772163 := by omega
  rcases h3 with h3 | h3 | h3
  · exact .inl (UInt32.toNat_inj.1 h3)
  · exact .inr (.inl (UInt32.toNat_inj.1 h3))
  · exact .inr (.inr (UInt32.toNat_inj.1 h3))
theorem none_free {B : Bk} (hk : Kin smallB B) {now : UInt64} (h : anyFree B now = false) (ip : UInt32) : B.free ip now = false := by
  cases hf : B.free ip now with
  | false => rfl
  | true =>
    simp only [anyFree, Bool.or_eq_false_iff] at h
    rcases ip_three hk hf with rfl | rfl | rfl
    · rw [h.1.1.2] at hf; cases hf
    · rw [h.1.2] at hf; cases hf
    · rw [h.2] at hf; cases hf
theorem bU_idem (n : UInt64) : bU (bU n) = bU n := by
  unfold bU
  split
  · first | rfl | (rename_i h; rw [if_pos h])
  · rfl
theorem of_bU (B : Bk) (c : List UInt8) (now : UInt64) : B.of c (bU now) = B.of c now := by
  unfold Bk.of
  rw [bU_idem]
theorem free_bU (B : Bk) (ip : UInt32) (now : UInt64) : B.free ip (bU now) = B.free ip now := by
  unfold Bk.free
  rw [bU_idem]
theorem find_none {B : Bk} {now : UInt64} (h : ∀ ip, B.free ip now = false) (w : UInt32) : B.find w now = none := by
  have hs : ∀ n k, B.scan now n k = none := by
    intro n
    induction n with
    | zero => intro k; rfl
    | succ n ih =>
      intro k
      unfold Bk.scan
      rw [h, ih]
      rfl
  unfold Bk.find
  rw [h, hs]
  rfl
/-- Where nothing is free, a client without a loan gets no offer. -/
theorem hear_disc (B : Bk) (m : Msg) (now : UInt64) (hf : ∀ ip, B.free ip now = false) (ho : B.of (clientL m) now = none) (hk : (numO m.o 53 1).1 = 1) : hearM smallC B m now = (B, none) := by
  unfold hearM
  split
  · rfl
  · first | rw [if_pos hk] | skip
    have hoff : ∃ e : Int, e ≠ 0 ∧ B.offer (clientL m) (readQ smallC m now).wish (bU now) (addU (bU now) smallC.hold) = (B, 0, e) := by
      unfold Bk.offer
      split
      · exact ⟨10, by decide, rfl⟩
      · rw [of_bU, ho, find_none (fun ip => by rw [free_bU]; exact hf ip)]
        exact ⟨18, by decide, rfl⟩
    obtain ⟨e, he, ho2⟩ := hoff
    show (match B.offer (clientL m) (readQ smallC m now).wish (bU now) (addU (bU now) smallC.hold) with | (B', ip, e) => (B', if e = 0 then some (sayM smallC (readQ smallC m now).m 2 ip) else none)) = _
    rw [ho2]
    show (B, if e = 0 then _ else none) = _
    rw [if_neg he]
/-- A request that names the own address, of a client without a loan, is refused. -/
theorem hear_nak (B : Bk) (m : Msg) (now : UInt64) (ho : B.of (clientL m) now = none) (hk : (numO m.o 53 1).1 = 3) (h1 : m.op = 1) (h2 : m.gi = 0) (hc : (clientL m).length ≤ 255) (hn : (numO m.o 54 4).2 = true) (hs : (numO m.o 54 4).1 = 167772161) :
    hearM smallC B m now = (B, some (sayM smallC m 6 0)) := by
  unfold hearM
  rw [if_neg (by rw [h1, h2]; simp; exact hc), if_neg (by omega), if_pos hk]
  unfold wantM
  have r1 : (readQ smallC m now).own = true := by
    unfold readQ
    show ((numO m.o 54 4).2 && decide (UInt32.ofNat (numO m.o 54 4).1 = smallC.own)) = true
    rw [hn, hs]
    rfl
  rw [if_neg (by rw [r1]; simp), if_pos r1]
  split
  · unfold firmM
    have e1 : (readQ smallC m now).client = clientL m := rfl
    have e2 : (readQ smallC m now).now = bU now := rfl
    rw [e1, e2]
    unfold Bk.firm
    rw [of_bU, ho]
    rfl
  · rfl
theorem kind_say6 (m : Msg) : (numO (sayM smallC m 6 0).o 53 1).1 = 6 := rfl
theorem small_say (m : Msg) (k : Int) (ip : UInt32) : small (sayM smallC m k ip).o := by
  unfold sayM
  split
  · refine ⟨by show 2 ≤ 1048576; omega, fun o ho => ?_⟩
    simp only [answerM, List.mem_cons, List.not_mem_nil, or_false] at ho
    rcases ho with rfl | rfl
    · show 1 ≤ 1048576; omega
    · show (encb 4 _).length ≤ _; rw [encb_length]; omega
  · refine ⟨by show 5 ≤ 1048576; omega, fun o ho => ?_⟩
    simp only [answerM, List.mem_cons, List.not_mem_nil, or_false] at ho
    rcases ho with rfl | rfl | rfl | rfl | rfl
    · show 1 ≤ 1048576; omega
    all_goals (show (encb 4 _).length ≤ _; rw [encb_length]; omega)
theorem ansV_eq (a : Option Msg) : ansV a = .tup [.agg (encG false (a.getD zeroM)), .bool a.isSome] := by cases a <;> rfl
theorem ful_rest (l : List Cm) (m : Msg) (hm : small m.o) (now : UInt64) (p : Pl) (B : Bk) (H : Heap) (v : Lv (fmsg m :: fcon :: H) p B 60) (f : Bool) (hf : f = anyFree B now) :
    ∃ X, T5_1 E (some (.exit 2, ⟨fulS l now p f 167772164, fmsg m :: fcon :: H⟩)) = some (.bool true, X) := by
  obtain ⟨c, hcc⟩ : ∃ c, clientL m = c := ⟨_, rfl⟩
  obtain ⟨W, hW⟩ : ∃ W, B.of c now = W := ⟨_, rfl⟩
  obtain ⟨z, hz⟩ : ∃ z, W.getD zLn = z := ⟨_, rfl⟩
  obtain ⟨kd, hkd⟩ : ∃ k, (numO m.o 53 1).1 = k := ⟨_, rfl⟩
  obtain ⟨was, hwas⟩ : ∃ was, was = AObj.cells true [.int .u32 (z.ip.toNat : Int), .bool z.firm, .int .u64 (z.til.toNat : Int)] 53 := ⟨_, rfl⟩
  have v2 : Lv (fmsg m :: fcon :: (H ++ [was])) p B 60 := v.app [was]
  obtain ⟨h', q, v3, cs⟩ := v2.hear (by omega) m hm now
  obtain ⟨H2, rfl⟩ := cs.head2 (show fmsg m = .cells true (encG false m) 29 from rfl) (show fcon = .cells true smallV 36 from rfl)
  obtain ⟨D, hD⟩ : ∃ D, hearM smallC B m now = D := ⟨_, rfl⟩
  obtain ⟨B2, A⟩ := D
  rw [hD, ansV_eq] at q
  rw [hD] at v3
  simp only at q v3
  obtain ⟨a, ha⟩ : ∃ a, A.getD zeroM = a := ⟨_, rfl⟩
  obtain ⟨ok, hok⟩ : ∃ ok, A.isSome = ok := ⟨_, rfl⟩
  rw [ha, hok] at q
  have hc1 : c.length ≤ 1048576 := by
    rw [← hcc]
    unfold clientL
    split
    · rename_i d hd
      split
      · simp [macL]
      · exact findO_small hm hd
    · simp [macL]
  have hkd4 := numO_lt m.o 53 1 (by omega)
  rw [hkd] at hkd4
  have q10 : ∀ g, pcall E 10 [.agg (encG g m)] = some (sv c, []) := fun g => by
    have := s10 g m hm
    rw [← hcc]
    exact this
  have q16 := fun g => s16 g B c hc1 now
  rw [hW, hz] at q16
  have q17 := fun g => s17 g B
  have q17b := fun g => s17 g B2
  have q18 := fun g => s18 g m hm
  rw [hkd] at q18
  have q21 := fun g => s21 g m.o 54 4 hm
  have n2 := numO_lt m.o 54 4 (by omega)
  have hcz : (⟨c.toArray⟩ : ByteArray).size = c.length := rfl
  have x1 := fun X => (v.app X).gets
  have x0 := v.gets
  have x2 := v3.gets
  have x3 := fun X => (v3.app X).gets
  have y1 := fun X => (x1 X).sv
  have y2 := fun X => (x1 X).bk
  have y3 := fun X => (x1 X).bb
  have y4 := fun X => (x1 X).bl
  have y5 := fun X => (x1 X).br
  have o1 := x0.sv
  have o2 := x0.bk
  have o3 := x0.bb
  have o4 := x0.bl
  have o5 := x0.br
  have w1 := fun X => (x3 X).sv
  have w2 := fun X => (x3 X).bk
  have w3 := fun X => (x3 X).bb
  have w4 := fun X => (x3 X).bl
  have w5 := fun X => (x3 X).br
  have t1 := gtop H
  have t2 := stop H
  have r1 := gtop H2
  have r2 := stop H2
  have hrd := rd_book
  simp only [fmsg_eq, fcon_eq, List.cons_append, opts, recs] at q y1 y2 y3 y4 y5 o1 o2 o3 o4 o5 w1 w2 w3 w4 w5
  simp only [encG_eq false m, opts, recs, i64u] at q
  simp only [encG_eq, opts, recs, i64u] at q10 q18
  simp only [numV, opts, recs, show ((UInt8.toNat 54 : Nat) : Int) = 54 from rfl] at q21
  rw [hwas] at q
  simp only [fmsg_eq, fcon_eq, opts, recs]
  have qS : pcall E 23 [.agg zC, .agg zC] = some (.bool true, []) := s23 false false zeroM zeroM (by simp [zeroM])
  by_cases hN : m.op ≠ 1 ∨ m.gi ≠ 0 ∨ kd < 1 ∨ 7 < kd
  · have hh := hear_not B m now (by rw [hkd]; exact hN)
    rw [hD] at hh
    injection hh with hh1 hh2
    subst hh1; subst hh2
    have ha : zeroM = a := ha
    have hok : false = ok := hok
    subst ha; subst hok
    simp only [zC_eq, zC] at q qS
    by_cases ho : m.op = 1
    case neg =>
      have ho' : ((m.op.toNat : Int) = 1) = False := eq_false (fun h => ho (UInt8.toNat_inj.1 (by show m.op.toNat = 1; omega)))
      simp (disch := first | omega | (simp only [List.length_cons, List.length_nil, List.length_append, List.length_map, List.length_set]; omega) | rfl | (simp only [List.length_cons, List.length_nil, List.length_append, List.length_map, List.length_set, List.length_replicate, List.all_cons, List.all_nil, List.all_append, storable, plainB, Bool.and_self]; done)) only [go_sem, reduceCtorEq, ↓reduceIte, reduceDIte, evI_callP, callPK_some, T5_1, evI_callM, hrd, q, q10, q16, q17, q17b, q18, hcz, y1, y2, y3, y4, y5, o1, o2, o3, o4, o5, w1, w2, w3, w4, w5, t1, t2, r1, r2, List.append_assoc, ho', qS]
      exact ⟨_, rfl⟩
    have ho' : ((m.op.toNat : Int) = 1) = True := eq_true (by rw [ho]; rfl)
    by_cases hg : m.gi = 0
    case neg =>
      have hg' : ((m.gi.toNat : Int) = 0) = False := eq_false (fun h => hg (UInt32.toNat_inj.1 (by show m.gi.toNat = 0; omega)))
      simp (disch := first | omega | (simp only [List.length_cons, List.length_nil, List.length_append, List.length_map, List.length_set]; omega) | rfl | (simp only [List.length_cons, List.length_nil, List.length_append, List.length_map, List.length_set, List.length_replicate, List.all_cons, List.all_nil, List.all_append, storable, plainB, Bool.and_self]; done)) only [go_sem, reduceCtorEq, ↓reduceIte, reduceDIte, evI_callP, callPK_some, T5_1, evI_callM, hrd, q, q10, q16, q17, q17b, q18, hcz, y1, y2, y3, y4, y5, o1, o2, o3, o4, o5, w1, w2, w3, w4, w5, t1, t2, r1, r2, List.append_assoc, ho', hg', qS]
      exact ⟨_, rfl⟩
    have hg' : ((m.gi.toNat : Int) = 0) = True := eq_true (by rw [hg]; rfl)
    by_cases h1 : kd < 1
    · have h1' : (kd : Int) < 1 := by omega
      simp (disch := first | omega | (simp only [List.length_cons, List.length_nil, List.length_append, List.length_map, List.length_set]; omega) | rfl | (simp only [List.length_cons, List.length_nil, List.length_append, List.length_map, List.length_set, List.length_replicate, List.all_cons, List.all_nil, List.all_append, storable, plainB, Bool.and_self]; done)) only [go_sem, reduceCtorEq, ↓reduceIte, reduceDIte, evI_callP, callPK_some, T5_1, evI_callM, hrd, q, q10, q16, q17, q17b, q18, hcz, y1, y2, y3, y4, y5, o1, o2, o3, o4, o5, w1, w2, w3, w4, w5, t1, t2, r1, r2, List.append_assoc, ho', hg', h1', qS]
      exact ⟨_, rfl⟩
    · have h1' : ¬ (kd : Int) < 1 := by omega
      have h7 : 7 < kd := by
        rcases hN with h | h | h | h
        · exact absurd ho h
        · exact absurd hg h
        · exact absurd h h1
        · exact h
      have h7' : (7 : Int) < (kd : Int) := by omega
      simp (disch := first | omega | (simp only [List.length_cons, List.length_nil, List.length_append, List.length_map, List.length_set]; omega) | rfl | (simp only [List.length_cons, List.length_nil, List.length_append, List.length_map, List.length_set, List.length_replicate, List.all_cons, List.all_nil, List.all_append, storable, plainB, Bool.and_self]; done)) only [go_sem, reduceCtorEq, ↓reduceIte, reduceDIte, evI_callP, callPK_some, T5_1, evI_callM, hrd, q, q10, q16, q17, q17b, q18, hcz, y1, y2, y3, y4, y5, o1, o2, o3, o4, o5, w1, w2, w3, w4, w5, t1, t2, r1, r2, List.append_assoc, ho', hg', h1', h7', qS]
      exact ⟨_, rfl⟩
  simp only [not_or, Decidable.not_not] at hN
  obtain ⟨ho, hg, h1, h7⟩ := hN
  have ho' : ((m.op.toNat : Int) = 1) = True := eq_true (by rw [ho]; rfl)
  have hg' : ((m.gi.toNat : Int) = 0) = True := eq_true (by rw [hg]; rfl)
  have h1' : ¬ (kd : Int) < 1 := by omega
  have h7' : ¬ (7 : Int) < (kd : Int) := by omega
  cases f with
  | true =>
    simp only [encG_eq, opts, recs] at q
    simp (disch := first | omega | (simp only [List.length_cons, List.length_nil, List.length_append, List.length_map, List.length_set]; omega) | rfl | (simp only [List.length_cons, List.length_nil, List.length_append, List.length_map, List.length_set, List.length_replicate, List.all_cons, List.all_nil, List.all_append, storable, plainB, Bool.and_self]; done)) only [go_sem, reduceCtorEq, ↓reduceIte, reduceDIte, evI_callP, callPK_some, T5_1, evI_callM, hrd, q, q10, q16, q17, q17b, q18, hcz, y1, y2, y3, y4, y5, o1, o2, o3, o4, o5, w1, w2, w3, w4, w5, t1, t2, r1, r2, List.append_assoc, ho', hg', h1', h7']
    exact ⟨_, rfl⟩
  | false =>
  cases W with
  | some lo =>
    simp only [encG_eq, opts, recs] at q
    simp only [Option.isSome_some] at q16
    simp (disch := first | omega | (simp only [List.length_cons, List.length_nil, List.length_append, List.length_map, List.length_set]; omega) | rfl | (simp only [List.length_cons, List.length_nil, List.length_append, List.length_map, List.length_set, List.length_replicate, List.all_cons, List.all_nil, List.all_append, storable, plainB, Bool.and_self]; done)) only [go_sem, reduceCtorEq, ↓reduceIte, reduceDIte, evI_callP, callPK_some, T5_1, evI_callM, hrd, q, q10, q16, q17, q17b, q18, hcz, y1, y2, y3, y4, y5, o1, o2, o3, o4, o5, w1, w2, w3, w4, w5, t1, t2, r1, r2, List.append_assoc, ho', hg', h1', h7']
    exact ⟨_, rfl⟩
  | none =>
  simp only [Option.isSome_none] at q16
  have hnf := none_free v.bg.kin hf.symm
  obtain ⟨sv4, hs4⟩ : ∃ x, (numO m.o 54 4).1 = x := ⟨_, rfl⟩
  obtain ⟨nm4, hn4⟩ : ∃ x, (numO m.o 54 4).2 = x := ⟨_, rfl⟩
  rw [hs4, hn4] at q21
  by_cases k1 : kd = 1
  · have hh := hear_disc B m now hnf (by rw [hcc]; exact hW) (by rw [hkd]; exact k1)
    rw [hD] at hh
    injection hh with hh1 hh2
    subst hh1; subst hh2
    have hok : false = ok := hok
    subst hok
    have k1' : (kd : Int) = 1 := by omega
    simp only [encG_eq, opts, recs] at q
    simp (disch := first | omega | (simp only [List.length_cons, List.length_nil, List.length_append, List.length_map, List.length_set]; omega) | rfl | (simp only [List.length_cons, List.length_nil, List.length_append, List.length_map, List.length_set, List.length_replicate, List.all_cons, List.all_nil, List.all_append, storable, plainB, Bool.and_self]; done)) only [go_sem, reduceCtorEq, ↓reduceIte, reduceDIte, evI_callP, callPK_some, T5_1, evI_callM, hrd, q, q10, q16, q17, q17b, q18, hcz, y1, y2, y3, y4, y5, o1, o2, o3, o4, o5, w1, w2, w3, w4, w5, t1, t2, r1, r2, List.append_assoc, ho', hg', h1', h7', k1', q21]
    exact ⟨_, rfl⟩
  have k1' : ¬ (kd : Int) = 1 := by omega
  by_cases k3 : kd = 3
  case neg =>
    have k3' : ¬ (kd : Int) = 3 := by omega
    simp only [encG_eq, opts, recs] at q
    simp (disch := first | omega | (simp only [List.length_cons, List.length_nil, List.length_append, List.length_map, List.length_set]; omega) | rfl | (simp only [List.length_cons, List.length_nil, List.length_append, List.length_map, List.length_set, List.length_replicate, List.all_cons, List.all_nil, List.all_append, storable, plainB, Bool.and_self]; done)) only [go_sem, reduceCtorEq, ↓reduceIte, reduceDIte, evI_callP, callPK_some, T5_1, evI_callM, hrd, q, q10, q16, q17, q17b, q18, hcz, y1, y2, y3, y4, y5, o1, o2, o3, o4, o5, w1, w2, w3, w4, w5, t1, t2, r1, r2, List.append_assoc, ho', hg', h1', h7', k1', k3', q21]
    exact ⟨_, rfl⟩
  have k3' : (kd : Int) = 3 := by omega
  cases nm4 with
  | false =>
    simp only [encG_eq, opts, recs] at q
    simp (disch := first | omega | (simp only [List.length_cons, List.length_nil, List.length_append, List.length_map, List.length_set]; omega) | rfl | (simp only [List.length_cons, List.length_nil, List.length_append, List.length_map, List.length_set, List.length_replicate, List.all_cons, List.all_nil, List.all_append, storable, plainB, Bool.and_self]; done)) only [go_sem, reduceCtorEq, ↓reduceIte, reduceDIte, evI_callP, callPK_some, T5_1, evI_callM, hrd, q, q10, q16, q17, q17b, q18, hcz, y1, y2, y3, y4, y5, o1, o2, o3, o4, o5, w1, w2, w3, w4, w5, t1, t2, r1, r2, List.append_assoc, ho', hg', h1', h7', k1', k3', q21]
    exact ⟨_, rfl⟩
  | true =>
  by_cases hs : sv4 = 167772161
  case neg =>
    have hs' : ¬ (sv4 : Int) = 167772161 := by omega
    simp only [encG_eq, opts, recs] at q
    simp (disch := first | omega | (simp only [List.length_cons, List.length_nil, List.length_append, List.length_map, List.length_set]; omega) | rfl | (simp only [List.length_cons, List.length_nil, List.length_append, List.length_map, List.length_set, List.length_replicate, List.all_cons, List.all_nil, List.all_append, storable, plainB, Bool.and_self]; done)) only [go_sem, reduceCtorEq, ↓reduceIte, reduceDIte, evI_callP, callPK_some, T5_1, evI_callM, hrd, q, q10, q16, q17, q17b, q18, hcz, y1, y2, y3, y4, y5, o1, o2, o3, o4, o5, w1, w2, w3, w4, w5, t1, t2, r1, r2, List.append_assoc, ho', hg', h1', h7', k1', k3', q21, hs']
    exact ⟨_, rfl⟩
  have hs' : (sv4 : Int) = 167772161 := by omega
  by_cases hc2 : 255 < c.length
  · have hc2' : (255 : Int) < (c.length : Int) := by omega
    simp only [encG_eq, opts, recs] at q
    simp (disch := first | omega | (simp only [List.length_cons, List.length_nil, List.length_append, List.length_map, List.length_set]; omega) | rfl | (simp only [List.length_cons, List.length_nil, List.length_append, List.length_map, List.length_set, List.length_replicate, List.all_cons, List.all_nil, List.all_append, storable, plainB, Bool.and_self]; done)) only [go_sem, reduceCtorEq, ↓reduceIte, reduceDIte, evI_callP, callPK_some, T5_1, evI_callM, hrd, q, q10, q16, q17, q17b, q18, hcz, y1, y2, y3, y4, y5, o1, o2, o3, o4, o5, w1, w2, w3, w4, w5, t1, t2, r1, r2, List.append_assoc, ho', hg', h1', h7', k1', k3', q21, hs', hc2']
    exact ⟨_, rfl⟩
  have hc2' : ¬ (255 : Int) < (c.length : Int) := by omega
  have hh := hear_nak B m now (by rw [hcc]; exact hW) (by rw [hkd]; exact k3) ho hg (by rw [hcc]; omega) hn4 (by rw [hs4]; exact hs)
  rw [hD] at hh
  injection hh with hh1 hh2
  subst hh1; subst hh2
  have ha : sayM smallC m 6 0 = a := ha
  have hok : true = ok := hok
  subst hok
  have q18b : ∀ g, pcall E 18 [.agg (encG g a)] = some (.int .i64 6, []) := fun g => by
    have := s18 g a (by rw [← ha]; exact small_say m 6 0)
    rw [← ha] at this ⊢
    exact this
  simp only [encG_eq, opts, recs] at q q18b
  simp (disch := first | omega | (simp only [List.length_cons, List.length_nil, List.length_append, List.length_map, List.length_set]; omega) | rfl | (simp only [List.length_cons, List.length_nil, List.length_append, List.length_map, List.length_set, List.length_replicate, List.all_cons, List.all_nil, List.all_append, storable, plainB, Bool.and_self]; done)) only [go_sem, reduceCtorEq, ↓reduceIte, reduceDIte, evI_callP, callPK_some, T5_1, evI_callM, hrd, q, q10, q16, q17, q17b, q18, hcz, y1, y2, y3, y4, y5, o1, o2, o3, o4, o5, w1, w2, w3, w4, w5, t1, t2, r1, r2, List.append_assoc, ho', hg', h1', h7', k1', k3', q21, hs', hc2', q18b]
  exact ⟨_, rfl⟩
theorem ful_mid (l : List Cm) (m : Msg) (now : UInt64) (p : Pl) (H : Heap) :
    T5_0 E (some (.exit 0, ⟨[(0, cmR l), (2, i64u now), (4, .ref 0 0 0), (7, .ref 1 0 0), (8, .ref p.s 0 0), (10, .int .i64 (l.length : Int))], fmsg m :: fcon :: H⟩)) =
    T5_1 E (lp E L5_1 (fulS l now p false 167772161) (fmsg m :: fcon :: H)) := by
  simp only [fcon_eq]
  simp (disch := first | omega | (simp only [List.length_cons, List.length_nil, List.length_append, List.length_map, List.length_set]; omega) | rfl | (simp only [List.length_cons, List.length_nil, List.length_append, List.length_map, List.length_set, List.length_replicate, List.all_cons, List.all_nil, List.all_append, storable, plainB, Bool.and_self]; done)) only [go_sem, reduceCtorEq, ↓reduceIte, reduceDIte, evI_callP, callPK_some, T5_0, T5_1, L5_1_lp]
theorem s5 (l : List Cm) (m : Msg) (now : UInt64) : pcall E 5 [cmR l, .agg (encG false m), i64u now] = some (.bool true, []) := by
  have q7 := s7
  have q8 := s8 l
  have q8b : pcall E 8 [.rs false 17 [cmA ⟨m, 0, false⟩]] = some (.bool (big m), []) := by
    have := s8 [⟨m, 0, false⟩]
    rw [tooG_one] at this
    exact this
  have q9 := s9
  have hk : E.keep 5 = false := rfl
  simp only [cmA, cmL, show ((UInt64.toNat 0 : Nat) : Int) = 0 from rfl, opts, recs] at q8b
  rw [pcall_go (fn := I5) rfl rfl rfl]
  simp only [encG_eq, opts, recs]
  cases hg : tooG l with
  | true =>
    rw [hg] at q8
    simp (disch := first | omega | (simp only [List.length_cons, List.length_nil, List.length_append, List.length_map, List.length_set]; omega) | rfl | (simp only [List.length_cons, List.length_nil, List.length_append, List.length_map, List.length_set, List.length_replicate, List.all_cons, List.all_nil, List.all_append, storable, plainB, Bool.and_self]; done)) only [go_sem, reduceCtorEq, ↓reduceIte, reduceDIte, evI_callP, callPK_some, I5, hk, q7, q8]
  | false =>
  rw [hg] at q8
  cases hb : big m with
  | true =>
    rw [hb] at q8b
    simp (disch := first | omega | (simp only [List.length_cons, List.length_nil, List.length_append, List.length_map, List.length_set]; omega) | rfl | (simp only [List.length_cons, List.length_nil, List.length_append, List.length_map, List.length_set, List.length_replicate, List.all_cons, List.all_nil, List.all_append, storable, plainB, Bool.and_self]; done)) only [go_sem, reduceCtorEq, ↓reduceIte, reduceDIte, evI_callP, callPK_some, I5, hk, q7, q8, q8b]
  | false =>
  rw [hb] at q8b
  have hm := big_not hb
  obtain ⟨g1, g2⟩ := tooG_not hg
  obtain ⟨X, p, q11, v0, _⟩ := new_lv [fmsg m, fcon]
  obtain ⟨H0, hX⟩ : ∃ H0, [fmsg m, fcon] ++ X = fmsg m :: fcon :: H0 := ⟨X, rfl⟩
  rw [hX] at q11 v0
  obtain ⟨B', H', k1, k2⟩ := ful_loop l g1 g2 m now p l.length 0 smallB H0 (by omega) v0
  obtain ⟨Y, r3⟩ := ful_rest l m hm now p B' H' k1 _ rfl
  rw [ful_mid, ful_three l m now p B' H' k1, r3] at k2
  have y1 := v0.gets
  have e1 := y1.sv
  have e2 := y1.bk
  simp only [fmsg_eq, fcon_eq, opts, recs] at q11 k2 e1 e2
  have hrd := rd_book
  simp (disch := first | omega | (simp only [List.length_cons, List.length_nil, List.length_append, List.length_map, List.length_set]; omega) | rfl | (simp only [List.length_cons, List.length_nil, List.length_append, List.length_map, List.length_set, List.length_replicate, List.all_cons, List.all_nil, List.all_append, storable, plainB, Bool.and_self]; done)) only [go_sem, reduceCtorEq, ↓reduceIte, reduceDIte, evI_callP, callPK_some, I5, evI_callM, hk, q7, q8, q8b, q9, q11, hrd, e1, e2, L5_0_lp]
  refine Eq.trans (congrArg (Option.bind · (finish false)) k2) ?_
  simp only [go_sem, reduceCtorEq, ↓reduceIte, reduceDIte, evI_callP, callPK_some]
theorem end5 (xs : List AV) (hl : xs.length = [22, 29, 30].length) (h : ∀ (j : Nat) t x, ([22, 29, 30] : List TypeId)[j]? = some t → xs[j]? = some x → Arg Try.prog t x) : pcall E 5 xs = some (.bool true, []) := by
  match xs, hl with
  | [x0, x1, x2], _ =>
    obtain ⟨l, rfl⟩ := cms_arg (h 0 _ x0 rfl rfl)
    obtain ⟨m, rfl⟩ := msg_arg (h 1 _ x1 rfl rfl)
    obtain ⟨now, rfl⟩ := U64_arg (h 2 _ x2 rfl rfl)
    exact s5 l m now
end Go.Fw.Wd
