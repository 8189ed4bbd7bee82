/-
  The law DhcpTwice at the evaluation. Conditions: none of the law.
-/
import Derived.Test.YtefkoichicalfaaWdDst
set_option linter.unusedVariables false
set_option linter.unusedSimpArgs false
set_option linter.unusedSectionVars false
namespace Go.Fw.Wd
open Go.Proofs Code_

structure Mc where
  a : UInt8
  b : UInt8
  c : UInt8
  d : UInt8
  e : UInt8
  f : UInt8
abbrev mcL (x : Mc) : List AV := [.int .u8 (x.a.toNat : Int), .int .u8 (x.b.toNat : Int), .int .u8 (x.c.toNat : Int), .int .u8 (x.d.toNat : Int), .int .u8 (x.e.toNat : Int), .int .u8 (x.f.toNat : Int)]
def macO (x : Mc) : AObj := .cells true (mcL x) 26
theorem macO_eq (x : Mc) : macO x = .cells true [.int .u8 (x.a.toNat : Int), .int .u8 (x.b.toNat : Int), .int .u8 (x.c.toNat : Int), .int .u8 (x.d.toNat : Int), .int .u8 (x.e.toNat : Int), .int .u8 (x.f.toNat : Int)] 26 := rfl
theorem twi_loop (l : List Cm) (hl : l.length ≤ 60) (hs : ∀ c ∈ l, small c.m.o) (x : Mc) (wish : UInt32) (now : UInt64) (later : UInt8) (p : Pl) : ∀ (n i : Nat) (B : Bk) (H : Heap), i + n = l.length → Lv (macO x :: H) p B i →
    ∃ (B' : Bk) (H' : Heap), Lv (macO x :: H') p B' 60 ∧
    T6_0 E (lp E L6_0 [(0, cmR l), (2, w32 wish), (3, i64u now), (4, .int .u8 (later.toNat : Int)), (6, .ref 0 0 0), (11, .ref p.s 0 0), (13, .int .i64 (i : Int))] (macO x :: H)) =
    T6_0 E (some (.exit 0, ⟨[(0, cmR l), (2, w32 wish), (3, i64u now), (4, .int .u8 (later.toNat : Int)), (6, .ref 0 0 0), (11, .ref p.s 0 0), (13, .int .i64 (l.length : Int))], macO x :: H'⟩)) := by
  intro n
  induction n with
  | zero =>
    intro i B H hi v
    obtain rfl : i = l.length := by omega
    refine ⟨B, H, v.mono hl, ?_⟩
    have hlt : ¬ ((l.length : Int) < (l.length : Int)) := by omega
    rw [L6_0_go]
    simp (disch := first | omega | (simp only [List.length_cons, List.length_nil, List.length_append, List.length_map, List.length_set]; omega) | rfl | (simp only [List.length_cons, List.length_nil, List.length_append, List.length_map, List.length_set, List.length_replicate, List.all_cons, List.all_nil, List.all_append, storable, plainB, Bool.and_self]; done)) only [go_sem, reduceCtorEq, ↓reduceIte, reduceDIte, evI_callP, callPK_some, B6_0, hlt]
    rfl
  | succ n ih =>
    intro i B H hi v
    have hil : i < l.length := by omega
    have hlt : (i : Int) < (l.length : Int) := by omega
    have hia := cm_iaddr hil hl
    have hci := hs l[i] (List.getElem_mem hil)
    obtain ⟨h', q, v', cs⟩ := v.hear (by omega) l[i].m hci l[i].now
    obtain ⟨H2, rfl⟩ := cs.head (show macO x = .cells true (mcL x) 26 from rfl)
    obtain ⟨B', H', k1, k2⟩ := ih (i + 1) _ H2 (by omega) v'
    refine ⟨B', H', k1, ?_⟩
    rw [← k2, show ((i + 1 : Nat) : Int) = (i : Int) + 1 by omega]
    simp only [encG_eq] at q
    generalize l[i] = c at *
    rw [L6_0_go]
    simp (disch := first | omega | (simp only [List.length_cons, List.length_nil, List.length_append, List.length_map, List.length_set]; omega) | rfl | (simp only [List.length_cons, List.length_nil, List.length_append, List.length_map, List.length_set, List.length_replicate, List.all_cons, List.all_nil, List.all_append, storable, plainB, Bool.and_self]; done)) only [go_sem, reduceCtorEq, ↓reduceIte, reduceDIte, evI_callP, callPK_some, B6_0, hlt, hia, evI_callM, q, L6_0_lp]

/-! ### the plain law -/

theorem bU_mid {n : UInt64} (h : n.toNat ≤ 2305843009213693952) : bU n = n := if_pos h
theorem bU_idem (n : UInt64) : bU (bU n) = bU n := by
  unfold bU
  split
  · first | rfl | (rename_i h; rw [if_pos h])
  · rfl
theorem of_put (B : Bk) (c : List UInt8) (l : Ln) (now : UInt64) : (B.put c l).of c now = if l.til.toNat ≤ (bU now).toNat then none else some l := by
  unfold Bk.of Bk.put
  simp only [aget_aput, if_true]
  rfl
/-- A client without a firm loan looks for a server: nothing, or an offer. -/
theorem hear_look (B : Bk) (m : Msg) (now til : UInt64) (hnow : now.toNat ≤ 1152921504606846976) (htil : til.toNat = now.toNat + 10) (hop : m.op = 1) (hgi : m.gi = 0) (hk : (numO m.o 53 1).1 = 1) (hc : (clientL m).length ≤ 255) (hne : clientL m ≠ [])
    (hf : ∀ l, B.of (clientL m) now = some l → l.firm = false) :
    (B.of (clientL m) now = none ∧ hearM smallC B m now = (B, none)) ∨ ∃ ip, hearM smallC B m now = (B.put (clientL m) ⟨ip, false, til⟩, some (sayM smallC m 2 ip)) ∧ ∀ l, B.of (clientL m) now = some l → l.ip = ip := by
  have e1 : bU now = now := bU_mid (by omega)
  have e2 : addU now smallC.hold = til := by
    apply UInt64.toNat_inj.1
    rw [addU_nat (by omega), htil]
    rfl
  have e3 : bU til = til := bU_mid (by omega)
  unfold hearM
  rw [if_neg (by rw [hop, hgi]; simp; exact hc), if_pos hk]
  have hd : discM smallC B (readQ smallC m now) = (match B.offer (clientL m) (readQ smallC m now).wish now til with | (B', ip, e) => (B', if e = 0 then some (sayM smallC m 2 ip) else none)) := by
    unfold discM
    show (match B.offer (clientL m) (readQ smallC m now).wish (bU now) (addU (bU now) smallC.hold) with | (B', ip, e) => (B', if e = 0 then some (sayM smallC m 2 ip) else none)) = _
    rw [e1, e2]
  rw [hd]
  generalize (readQ smallC m now).wish = w
  have hoff : (B.of (clientL m) now = none ∧ B.offer (clientL m) w now til = (B, 0, 18)) ∨ ∃ ip, B.offer (clientL m) w now til = (B.put (clientL m) ⟨ip, false, til⟩, ip, 0) ∧ ∀ l, B.of (clientL m) now = some l → l.ip = ip := by
    unfold Bk.offer
    rw [if_neg (by simp [hne]; omega)]
    cases ho : B.of (clientL m) now with
    | some lo =>
      have := hf lo ho
      refine .inr ⟨lo.ip, ?_, fun l hl => by injection hl with hl; rw [hl]⟩
      simp only [this, Bool.false_eq_true, if_false, e3]
    | none =>
      cases hfi : B.find w now with
      | none => exact .inl ⟨rfl, rfl⟩
      | some ip => exact .inr ⟨ip, by simp only [e3], fun l hl => by cases hl⟩
  rcases hoff with ⟨h0, h⟩ | ⟨ip, h, h2⟩
  · rw [h]
    exact .inl ⟨h0, rfl⟩
  · rw [h]
    exact .inr ⟨ip, rfl, h2⟩
/-- It wants what it was offered. -/
theorem hear_ack (B : Bk) (m : Msg) (ip : UInt32) (l : Ln) (now til : UInt64) (hnow : now.toNat ≤ 1152921504606847276) (htil : til.toNat = now.toNat + 100) (hop : m.op = 1) (hgi : m.gi = 0) (hk : (numO m.o 53 1).1 = 3) (hc : (clientL m).length ≤ 255)
    (hof : B.of (clientL m) now = some l) (hip : l.ip = ip)
    (hw : ((numO m.o 54 4) = (167772161, true) ∧ (numO m.o 50 4) = (ip.toNat, true)) ∨ ((numO m.o 54 4).2 = false ∧ (numO m.o 50 4).2 = false ∧ m.ci = ip ∧ l.firm = true)) :
    hearM smallC B m now = (B.put (clientL m) ⟨ip, true, til⟩, some (sayM smallC m 5 ip)) := by
  have e1 : bU now = now := bU_mid (by omega)
  have e2 : addU now smallC.time = til := by
    apply UInt64.toNat_inj.1
    rw [addU_nat (by omega), htil]
    rfl
  have e3 : bU til = til := bU_mid (by omega)
  have hfirm : firmM smallC B (readQ smallC m now) ip = (B.put (clientL m) ⟨ip, true, til⟩, some (sayM smallC m 5 ip)) := by
    have : B.firm (clientL m) ip now til = (B.put (clientL m) ⟨ip, true, til⟩, 0) := by
      unfold Bk.firm
      rw [hof]
      simp only [hip, if_true, e3]
    unfold firmM
    show (match B.firm (clientL m) ip (bU now) (addU (bU now) smallC.time) with | (B', e) => (B', some (if e = 0 then sayM smallC m 5 ip else sayM smallC m 6 0))) = _
    rw [e1, e2, this]
    rfl
  unfold hearM
  rw [if_neg (by rw [hop, hgi]; simp; exact hc), if_neg (by omega), if_pos hk]
  unfold wantM
  rcases hw with ⟨h1, h2⟩ | ⟨h1, h2, h3, h4⟩
  · have r1 : (readQ smallC m now).own = true := by
      unfold readQ
      rw [h1]
      rfl
    have r2 : (readQ smallC m now).wished = true := by
      unfold readQ
      rw [h2]
    have r3 : (readQ smallC m now).wish = ip := by
      unfold readQ
      rw [h2]
      exact UInt32.ofNat_toNat
    rw [if_neg (by rw [r1]; simp), if_pos r1, if_pos r2, r3]
    exact hfirm
  · have r1 : (readQ smallC m now).own = false := by
      unfold readQ
      show ((numO m.o 54 4).2 && _) = false
      rw [h1]
      rfl
    have r2 : (readQ smallC m now).wished = false := h2
    have r3 : (readQ smallC m now).named = false := h1
    have r4 : heldM B (readQ smallC m now) = true := by
      unfold heldM
      show ((B.of (clientL m) (bU now)).isSome && ((B.of (clientL m) (bU now)).getD zLn).firm) = true
      rw [e1, hof]
      exact h4
    rw [if_neg (by rw [r3]; simp), if_neg (by rw [r1]; simp), if_neg (by rw [r4]; simp), if_neg (by rw [r2]; simp)]
    show firmM smallC B (readQ smallC m now) m.ci = _
    rw [h3]
    exact hfirm
/-- A loan that is over. -/
theorem hear_gone (B : Bk) (m : Msg) (now : UInt64) (hop : m.op = 1) (hgi : m.gi = 0) (hk : (numO m.o 53 1).1 = 3) (hc : (clientL m).length ≤ 255) (hof : B.of (clientL m) now = none) (h1 : (numO m.o 54 4).2 = false) : hearM smallC B m now = (B, none) := by
  unfold hearM
  rw [if_neg (by rw [hop, hgi]; simp; exact hc), if_neg (by omega), if_pos hk]
  unfold wantM
  have r1 : (readQ smallC m now).own = false := by
    unfold readQ
    show ((numO m.o 54 4).2 && _) = false
    rw [h1]
    rfl
  have r3 : (readQ smallC m now).named = false := h1
  have r4 : heldM B (readQ smallC m now) = false := by
    unfold heldM
    have : B.of (clientL m) (bU now) = none := by
      rw [← hof]
      unfold Bk.of
      rw [bU_idem]
    show ((B.of (clientL m) (bU now)).isSome && ((B.of (clientL m) (bU now)).getD zLn).firm) = false
    rw [this]
    rfl
  rw [if_neg (by rw [r3]; simp), if_neg (by rw [r1]; simp), if_pos r4]
theorem ansV_eq (a : Option Msg) : ansV a = .tup [.agg (encG false (a.getD zeroM)), .bool a.isSome] := by cases a <;> rfl
theorem small_say (m : Msg) (k : Int) (ip : UInt32) : small (sayM smallC m k ip).o := by
  unfold sayM
  split
  · refine ⟨by show 2 ≤ 1048576; omega, fun o ho => ?_⟩
    simp only [answerM, List.mem_cons, List.not_mem_nil, or_false] at ho
    rcases ho with rfl | rfl
    · show 1 ≤ 1048576; omega
    · show (encb 4 _).length ≤ _; rw [encb_length]; omega
  · refine ⟨by show 5 ≤ 1048576; omega, fun o ho => ?_⟩
    simp only [answerM, List.mem_cons, List.not_mem_nil, or_false] at ho
    rcases ho with rfl | rfl | rfl | rfl | rfl
    · show 1 ≤ 1048576; omega
    all_goals (show (encb 4 _).length ≤ _; rw [encb_length]; omega)
theorem kind_say2 (m : Msg) (ip : UInt32) : (numO (sayM smallC m 2 ip).o 53 1).1 = 2 := rfl
theorem kind_say5 (m : Msg) (ip : UInt32) : (numO (sayM smallC m 5 ip).o 53 1).1 = 5 := rfl
theorem headEq_refl (m : Msg) : headEq m m = true := by simp [headEq]
theorem numO_ip (c : UInt8) (ip : UInt32) (l : List Opt) : numO ((c, encb 4 ip.toNat) :: l) c 4 = (ip.toNat, true) := by
  have := ip.toNat_lt
  unfold numO findO
  simp only [if_true, encb_length]
  rw [num_encb_of (by omega)]
  rfl
theorem numO_ne {c d : UInt8} (h : c ≠ d) (x : List UInt8) (l : List Opt) (n : Int) : numO ((c, x) :: l) d n = numO l d n := by
  have e : findO ((c, x) :: l) d = findO l d := by
    show (if c = d then some x else findO l d) = _
    rw [if_neg h]
  unfold numO
  rw [e]

/-! ### memory -/

def tmsg (m : Msg) : AObj := .cells true (encG false m) 29
theorem tmsg_eq (m : Msg) : tmsg m = .cells true [.int .u8 (m.op.toNat : Int), .int .u32 (m.xid.toNat : Int), .int .u16 (m.secs.toNat : Int), .bool m.wide, .int .u32 (m.ci.toNat : Int), .int .u32 (m.yi.toNat : Int), .int .u32 (m.si.toNat : Int), .int .u32 (m.gi.toNat : Int),
  .int .u8 (m.a.toNat : Int), .int .u8 (m.b.toNat : Int), .int .u8 (m.c.toNat : Int), .int .u8 (m.d.toNat : Int), .int .u8 (m.e.toNat : Int), .int .u8 (m.f.toNat : Int), opts false m.o] 29 := rfl
/-- A message in memory may turn. -/
theorem Lv.turn {o : AObj} {h : Heap} {p : Pl} {B : Bk} {n : Nat} (v : Lv (o :: h) p B n) {j : Nat} {m : Msg} (hj : h[j]? = some (tmsg m)) (m2 : Msg) : Lv (o :: h.set j (tmsg m2)) p B n := by
  have hj' : (o :: h)[j + 1]? = some (tmsg m) := hj
  have key : ∀ (i : Nat) (b : AObj), (o :: h)[i]? = some b → tmsg m ≠ b → (o :: h.set j (tmsg m2))[i]? = some b := by
    intro i b hi hne
    have h1 : j + 1 ≠ i := fun e => by
      rw [← e, hj'] at hi
      injection hi with hi
      exact hne hi
    have h2 := gset h1 hi (tmsg m2)
    exact h2
  refine ⟨⟨⟨key _ _ v.sx.sat.sv ?_, ⟨key _ _ v.sx.sat.bk.bk ?_, key _ _ v.sx.sat.bk.bb ?_, key _ _ v.sx.sat.bk.bl ?_, key _ _ v.sx.sat.bk.br ?_⟩⟩, v.sx.ne⟩, v.bg⟩
  · unfold tmsg
    intro e
    injection e with e1 e2 e3
    cases e3
  · unfold tmsg
    intro e
    injection e with e1 e2 e3
    cases e3
  · unfold tmsg
    intro e
    cases e
  · unfold tmsg
    intro e
    cases e
  · unfold tmsg
    intro e
    cases e
theorem Cs.at {o : AObj} {h h2 : Heap} (x : Cs (o :: h) (o :: h2)) {j : Nat} {m : Msg} (hj : h[j]? = some (tmsg m)) : h2[j]? = some (tmsg m) := x (j + 1) true (encG false m) 29 hj
theorem Lv.hear1 {x : Mc} {h : Heap} {p : Pl} {B : Bk} {n : Nat} (v : Lv (macO x :: h) p B n) (hn : n ≤ 1000) (m : Msg) (hl : small m.o) (now : UInt64) {B' : Bk} {A : Option Msg} (hD : hearM smallC B m now = (B', A)) :
    ∃ h2, hcall E 13 [.ref p.s 0 0, .agg (encG false m), i64u now] (macO x :: h) = some (ansV A, macO x :: h2) ∧ Lv (macO x :: h2) p B' (n + 1) ∧ Cs (macO x :: h) (macO x :: h2) := by
  obtain ⟨h', q, v', cs⟩ := v.hear hn m hl now
  obtain ⟨h2, rfl⟩ := cs.head (show macO x = .cells true (mcL x) 26 from rfl)
  rw [hD] at q v'
  exact ⟨h2, q, v', cs⟩
theorem gtopX {h : Heap} {a : AObj} (X : Heap) : (h ++ a :: X)[h.length]? = some a := gtop h a X
theorem set_app {h : Heap} {j : Nat} {a : AObj} (hj : h[j]? = some a) (o : AObj) (X : Heap) : (h ++ X).set j o = h.set j o ++ X := sapp hj X o
theorem small_two (c d : UInt8) (x y : List UInt8) (hx : x.length ≤ 4) (hy : y.length ≤ 4) : small [(c, x), (d, y)] := by
  refine ⟨by show 2 ≤ 1048576; omega, fun o ho => ?_⟩
  simp only [List.mem_cons, List.not_mem_nil, or_false] at ho
  rcases ho with rfl | rfl
  · show x.length ≤ _; omega
  · show y.length ≤ _; omega
theorem small_three (c d e : UInt8) (x y z : List UInt8) (hx : x.length ≤ 4) (hy : y.length ≤ 4) (hz : z.length ≤ 4) : small [(c, x), (d, y), (e, z)] := by
  refine ⟨by show 3 ≤ 1048576; omega, fun o ho => ?_⟩
  simp only [List.mem_cons, List.not_mem_nil, or_false] at ho
  rcases ho with rfl | rfl | rfl
  · show x.length ≤ _; omega
  · show y.length ≤ _; omega
  · show z.length ≤ _; omega
theorem small_one (c : UInt8) (x : List UInt8) (hx : x.length ≤ 4) : small [(c, x)] := by
  refine ⟨by show 1 ≤ 1048576; omega, fun o ho => ?_⟩
  simp only [List.mem_cons, List.not_mem_nil, or_false] at ho
  subst ho
  show x.length ≤ _; omega
theorem twi_rest (l : List Cm) (x : Mc) (wish : UInt32) (now : UInt64) (later : UInt8) (hnow : now.toNat ≤ 1152921504606846976) (p : Pl) (B : Bk) (H : Heap) (v : Lv (macO x :: H) p B 60) :
    ∃ X, T6_0 E (some (.exit 0, ⟨[(0, cmR l), (2, w32 wish), (3, i64u now), (4, .int .u8 (later.toNat : Int)), (6, .ref 0 0 0), (11, .ref p.s 0 0), (13, .int .i64 (l.length : Int))], macO x :: H⟩)) = some (.bool true, X) := by
  have hws := wish.toNat_lt
  obtain ⟨d1, hd1⟩ : ∃ d, d = [(1 : UInt8)] := ⟨_, rfl⟩
  obtain ⟨dw, hdw⟩ : ∃ d, d = encb 4 wish.toNat := ⟨_, rfl⟩
  obtain ⟨o1, ho1⟩ : ∃ o : List Opt, o = [(53, d1), (50, dw)] := ⟨_, rfl⟩
  obtain ⟨m1, hm1⟩ : ∃ m : Msg, m = ⟨1, 0, 0, false, 0, 0, 0, 0, x.a, x.b, x.c, x.d, x.e, x.f, o1⟩ := ⟨_, rfl⟩
  obtain ⟨c, hcc⟩ : ∃ c, c = ([1, x.a, x.b, x.c, x.d, x.e, x.f] : List UInt8) := ⟨_, rfl⟩
  have hcl : clientL m1 = c := by rw [hm1, ho1, hcc]; rfl
  have hc7 : c.length = 7 := by rw [hcc]; rfl
  have hcne : c ≠ [] := by rw [hcc]; simp
  have s1 : small m1.o := by
    rw [hm1]
    show small o1
    rw [ho1, hd1, hdw]
    exact small_two _ _ _ _ (by simp) (by rw [encb_length]; omega)
  have k1 : (numO m1.o 53 1).1 = 1 := by rw [hm1, ho1, hd1]; rfl
  obtain ⟨W, hW⟩ : ∃ W, B.of c now = W := ⟨_, rfl⟩
  obtain ⟨z, hz⟩ : ∃ z, W.getD zLn = z := ⟨_, rfl⟩
  obtain ⟨was, hwas⟩ : ∃ was, was = AObj.cells true [.int .u32 (z.ip.toNat : Int), .bool z.firm, .int .u64 (z.til.toNat : Int)] 53 := ⟨_, rfl⟩
  obtain ⟨til, htil⟩ : ∃ t : UInt64, t.toNat = now.toNat + 10 := ⟨UInt64.ofNat (now.toNat + 10), by rw [UInt64.toNat_ofNat', Nat.mod_eq_of_lt (by omega)]⟩
  have v2 : Lv (macO x :: (H ++ [tmsg m1, was])) p B 60 := v.app [tmsg m1, was]
  have q14 := s14 53 1
  have q15 := s15 50 wish.toNat hws
  simp only [one_eq, ip_eq, ← hd1, ← hdw, encO_mk, show ((UInt8.toNat 53 : Nat) : Int) = 53 from rfl, show ((UInt8.toNat 50 : Nat) : Int) = 50 from rfl, show ((UInt8.toNat 1 : Nat) : Int) = 1 from rfl] at q14 q15
  have hbs1 : bs false d1 = .rs false 1 (d1.map by8) := rfl
  have hbs2 : bs false dw = .rs false 1 (dw.map by8) := rfl
  have hl1 : (AV.rs false 2 [.agg [.int .u8 53, .rs false 1 (d1.map by8)], .agg [.int .u8 50, .rs false 1 (dw.map by8)]]) = .rs false 2 (o1.map fun a => .agg (encO a)) := by rw [ho1]; rfl
  have q10 : ∀ g, pcall E 10 [.agg (encG g m1)] = some (sv c, []) := fun g => by
    have := s10 g m1 s1
    rw [← hcl]
    exact this
  have q16 := fun g => s16 g B c (by omega) now
  rw [hW, hz] at q16
  have x1 := fun X => (v.app X).gets
  have y1 := fun X => (x1 X).sv
  have y2 := fun X => (x1 X).bk
  have y3 := fun X => (x1 X).bb
  have y4 := fun X => (x1 X).bl
  have y5 := fun X => (x1 X).br
  have t1 := gtop H
  have t2 := stop H
  have t3 := gtop1 H
  have t4 := stop1 H
  have hrd := rd_book
  simp only [macO_eq, List.cons_append, opts, recs] at y1 y2 y3 y4 y5
  simp only [encG_eq, hm1, opts, recs, i64u, show ((UInt8.toNat 1 : Nat) : Int) = 1 from rfl, show ((UInt32.toNat 0 : Nat) : Int) = 0 from rfl, show ((UInt16.toNat 0 : Nat) : Int) = 0 from rfl] at q10
  by_cases hfirm : ∃ lo, W = some lo ∧ lo.firm = true
  · obtain ⟨lo, rfl, hf⟩ := hfirm
    have z0 : z = lo := hz.symm
    simp only [Option.isSome_some] at q16
    simp only [macO_eq, opts, recs]
    simp (disch := first | omega | (simp only [List.length_cons, List.length_nil, List.length_append, List.length_map, List.length_set]; omega) | rfl | (simp only [List.length_cons, List.length_nil, List.length_append, List.length_map, List.length_set, List.length_replicate, List.all_cons, List.all_nil, List.all_append, storable, plainB, Bool.and_self]; done)) only [go_sem, reduceCtorEq, ↓reduceIte, reduceDIte, evI_callP, callPK_some, T6_0, evI_callM, hrd, q10, q14, q15, q16, hbs1, hbs2, hl1, y1, y2, y3, y4, y5, t1, t2, t3, t4, z0, hf, List.append_assoc]
    exact ⟨_, rfl⟩
  have hff : ∀ lo, B.of (clientL m1) now = some lo → lo.firm = false := fun lo hlo => by
    rw [hcl, hW] at hlo
    cases hb : lo.firm with
    | false => rfl
    | true => exact absurd ⟨lo, hlo, hb⟩ hfirm
  have hzf : (W.isSome && z.firm) = false := by
    rw [← hz]
    cases hw : W with
    | none => rfl
    | some lo =>
      have := hff lo (by rw [hcl, hW, hw])
      show lo.firm = false
      exact this
  obtain ⟨ws, hws2⟩ : ∃ b, W.isSome = b := ⟨_, rfl⟩
  obtain ⟨zf, hzf2⟩ : ∃ b, z.firm = b := ⟨_, rfl⟩
  rw [hws2] at q16
  rw [hws2, hzf2] at hzf
  have hcon : ws = false ∨ (ws = true ∧ zf = false) := by
    cases ws with
    | false => exact .inl rfl
    | true => exact .inr ⟨rfl, hzf⟩
  rcases hear_look B m1 now til hnow htil (by rw [hm1]) (by rw [hm1]) k1 (by rw [hcl]; omega) (by rw [hcl]; exact hcne) hff with ⟨_, hD⟩ | ⟨ip, hD, _⟩
  · -- nothing is free
    obtain ⟨H2, qa, v3, cs1⟩ := v2.hear1 (by omega) m1 s1 now hD
    have v4 : Lv (macO x :: (H2 ++ [tmsg zeroM])) p B 61 := v3.app [tmsg zeroM]
    obtain ⟨H3, qb, v5, cs2⟩ := v4.hear1 (by omega) m1 s1 now hD
    have gm : H2[H.length]? = some (tmsg m1) := cs1.at (gtop H (tmsg m1) [was])
    have gm' := gapp gm
    have gn : H3[H.length]? = some (tmsg m1) := cs2.at (gapp gm [tmsg zeroM])
    have gn' := gapp gn
    have r1 := gtop H2
    have r2 := stop H2
    have r3 := gtop H3
    have r4 := stop H3
    have e0 : tmsg zeroM = .cells true zC 29 := rfl
    rw [e0] at qb
    rw [hwas] at qa
    simp only [ansV, zC_eq, zC] at qa qb
    simp only [macO_eq, tmsg_eq, encG_eq, hm1, opts, recs, i64u, show ((UInt8.toNat 1 : Nat) : Int) = 1 from rfl, show ((UInt32.toNat 0 : Nat) : Int) = 0 from rfl, show ((UInt16.toNat 0 : Nat) : Int) = 0 from rfl] at qa qb gm gm' gn gn'
    rw [hzf2] at qa
    simp only [macO_eq, opts, recs]
    rcases hcon with rfl | ⟨rfl, rfl⟩
    · simp (disch := first | omega | (simp only [List.length_cons, List.length_nil, List.length_append, List.length_map, List.length_set]; omega) | rfl | (simp only [List.length_cons, List.length_nil, List.length_append, List.length_map, List.length_set, List.length_replicate, List.all_cons, List.all_nil, List.all_append, storable, plainB, Bool.and_self]; done)) only [go_sem, reduceCtorEq, ↓reduceIte, reduceDIte, evI_callP, callPK_some, T6_0, evI_callM, hrd, q10, q14, q15, q16, qa, qb, hbs1, hbs2, hl1, y1, y2, y3, y4, y5, t1, t2, t3, t4, r1, r2, r3, r4, gm, gm', gn, gn', hzf2, List.append_assoc]
      exact ⟨_, rfl⟩
    · simp (disch := first | omega | (simp only [List.length_cons, List.length_nil, List.length_append, List.length_map, List.length_set]; omega) | rfl | (simp only [List.length_cons, List.length_nil, List.length_append, List.length_map, List.length_set, List.length_replicate, List.all_cons, List.all_nil, List.all_append, storable, plainB, Bool.and_self]; done)) only [go_sem, reduceCtorEq, ↓reduceIte, reduceDIte, evI_callP, callPK_some, T6_0, evI_callM, hrd, q10, q14, q15, q16, qa, qb, hbs1, hbs2, hl1, y1, y2, y3, y4, y5, t1, t2, t3, t4, r1, r2, r3, r4, gm, gm', gn, gn', hzf2, List.append_assoc]
      exact ⟨_, rfl⟩
  · -- an offer
    obtain ⟨a1, ha1⟩ : ∃ a, sayM smallC m1 2 ip = a := ⟨_, rfl⟩
    have hyi : ip = a1.yi := by rw [← ha1]; rfl
    subst hyi
    rw [hcl, ha1] at hD
    have hbn : bU now = now := bU_mid (by omega)
    obtain ⟨B1, hB1⟩ : ∃ b, B.put c ⟨a1.yi, false, til⟩ = b := ⟨_, rfl⟩
    have of1 : B1.of c now = some ⟨a1.yi, false, til⟩ := by rw [← hB1, of_put, if_neg (by rw [hbn]; show ¬ til.toNat ≤ _; omega)]
    rw [hB1] at hD
    obtain ⟨H2, qa, v3, cs1⟩ := v2.hear1 (by omega) m1 s1 now hD
    have hD2 : hearM smallC B1 m1 now = (B1.put c ⟨a1.yi, false, til⟩, some a1) := by
      rcases hear_look B1 m1 now til hnow htil (by rw [hm1]) (by rw [hm1]) k1 (by rw [hcl]; omega) (by rw [hcl]; exact hcne) (fun lo hlo => by
        rw [hcl, of1] at hlo
        injection hlo with hlo
        rw [← hlo]) with ⟨h0, _⟩ | ⟨ip2, h1, h2⟩
      · rw [hcl, of1] at h0
        cases h0
      · have h3 := h2 ⟨a1.yi, false, til⟩ (by rw [hcl]; exact of1)
        have h3 : a1.yi = ip2 := h3
        rw [h1, hcl, ← h3, ha1]
    obtain ⟨B2, hB2⟩ : ∃ b, B1.put c ⟨a1.yi, false, til⟩ = b := ⟨_, rfl⟩
    rw [hB2] at hD2
    have v4 : Lv (macO x :: (H2 ++ [tmsg a1])) p B1 61 := v3.app [tmsg a1]
    obtain ⟨H3, qb, v5, cs2⟩ := v4.hear1 (by omega) m1 s1 now hD2
    have gm : H2[H.length]? = some (tmsg m1) := cs1.at (gtop H (tmsg m1) [was])
    have l12 : H.length < H2.length := (List.getElem?_eq_some_iff.1 gm).1
    have gn : H3[H.length]? = some (tmsg m1) := cs2.at (gapp gm [tmsg a1])
    have ga3 : H3[H2.length]? = some (tmsg a1) := cs2.at (gtop H2 (tmsg a1) [])
    -- what it wants
    obtain ⟨d3, hd3⟩ : ∃ d, d = [(3 : UInt8)] := ⟨_, rfl⟩
    obtain ⟨dn, hdn⟩ : ∃ d, d = encb 4 (UInt32.toNat 167772161) := ⟨_, rfl⟩
    obtain ⟨di, hdi⟩ : ∃ d, d = encb 4 a1.yi.toNat := ⟨_, rfl⟩
    obtain ⟨o2, ho2⟩ : ∃ o : List Opt, o = [(53, d3), (54, dn), (50, di)] := ⟨_, rfl⟩
    obtain ⟨o3, ho3⟩ : ∃ o : List Opt, o = [(53, d3)] := ⟨_, rfl⟩
    obtain ⟨m2, hm2⟩ : ∃ m : Msg, m = ⟨1, 0, 0, false, 0, 0, 0, 0, x.a, x.b, x.c, x.d, x.e, x.f, o2⟩ := ⟨_, rfl⟩
    obtain ⟨m2a, hm2a⟩ : ∃ m : Msg, m = ⟨1, 0, 0, false, 0, 0, 0, 0, x.a, x.b, x.c, x.d, x.e, x.f, o3⟩ := ⟨_, rfl⟩
    obtain ⟨m3, hm3⟩ : ∃ m : Msg, m = ⟨1, 0, 0, false, a1.yi, 0, 0, 0, x.a, x.b, x.c, x.d, x.e, x.f, o3⟩ := ⟨_, rfl⟩
    have hcl2 : clientL m2 = c := by rw [hm2, ho2, hcc]; rfl
    have hcl3 : clientL m3 = c := by rw [hm3, ho3, hcc]; rfl
    have s2 : small m2.o := by
      rw [hm2]
      show small o2
      rw [ho2, hd3, hdn, hdi]
      exact small_three _ _ _ _ _ _ (by simp) (by rw [encb_length]; omega) (by rw [encb_length]; omega)
    have s3 : small m3.o := by
      rw [hm3]
      show small o3
      rw [ho3, hd3]
      exact small_one _ _ (by simp)
    have k2 : (numO m2.o 53 1).1 = 3 := by rw [hm2, ho2, hd3]; rfl
    have k3 : (numO m3.o 53 1).1 = 3 := by rw [hm3, ho3, hd3]; rfl
    have n2a : numO m2.o 54 4 = (167772161, true) := by
      rw [hm2]
      show numO o2 54 4 = _
      rw [ho2, numO_ne (by decide), hdn]
      exact numO_ip 54 167772161 _
    have n2b : numO m2.o 50 4 = (a1.yi.toNat, true) := by
      rw [hm2]
      show numO o2 50 4 = _
      rw [ho2, numO_ne (by decide), numO_ne (by decide), hdi]
      exact numO_ip 50 a1.yi _
    have n3a : (numO m3.o 54 4).2 = false := by rw [hm3, ho3]; rfl
    have n3b : (numO m3.o 50 4).2 = false := by rw [hm3, ho3]; rfl
    obtain ⟨rl, hrl⟩ : ∃ r, later.toNat % 10 = r := ⟨_, rfl⟩
    have hrl10 : rl < 10 := by rw [← hrl]; exact Nat.mod_lt _ (by omega)
    obtain ⟨tA, htA⟩ : ∃ t : UInt64, t.toNat = now.toNat + rl := ⟨UInt64.ofNat (now.toNat + rl), by rw [UInt64.toNat_ofNat', Nat.mod_eq_of_lt (by omega)]⟩
    obtain ⟨tB, htB⟩ : ∃ t : UInt64, t.toNat = now.toNat + rl + 99 := ⟨UInt64.ofNat (now.toNat + rl + 99), by rw [UInt64.toNat_ofNat', Nat.mod_eq_of_lt (by omega)]⟩
    obtain ⟨tC, htC⟩ : ∃ t : UInt64, t.toNat = now.toNat + rl + 199 := ⟨UInt64.ofNat (now.toNat + rl + 199), by rw [UInt64.toNat_ofNat', Nat.mod_eq_of_lt (by omega)]⟩
    obtain ⟨uA, huA⟩ : ∃ t : UInt64, t.toNat = tA.toNat + 100 := ⟨UInt64.ofNat (tA.toNat + 100), by rw [UInt64.toNat_ofNat', Nat.mod_eq_of_lt (by omega)]⟩
    obtain ⟨uB, huB⟩ : ∃ t : UInt64, t.toNat = tB.toNat + 100 := ⟨UInt64.ofNat (tB.toNat + 100), by rw [UInt64.toNat_ofNat', Nat.mod_eq_of_lt (by omega)]⟩
    have of2 : B2.of c tA = some ⟨a1.yi, false, til⟩ := by rw [← hB2, of_put, if_neg (by rw [bU_mid (by omega)]; show ¬ til.toNat ≤ _; omega)]
    have hD3 := hear_ack B2 m2 a1.yi ⟨a1.yi, false, til⟩ tA uA (by omega) huA (by rw [hm2]) (by rw [hm2]) k2 (by rw [hcl2]; omega) (by rw [hcl2]; exact of2) rfl (.inl ⟨n2a, n2b⟩)
    obtain ⟨c1, hc1⟩ : ∃ a, sayM smallC m2 5 a1.yi = a := ⟨_, rfl⟩
    obtain ⟨B3, hB3⟩ : ∃ b, B2.put c ⟨a1.yi, true, uA⟩ = b := ⟨_, rfl⟩
    rw [hcl2, hc1, hB3] at hD3
    have of3 : B3.of c tB = some ⟨a1.yi, true, uA⟩ := by rw [← hB3, of_put, if_neg (by rw [bU_mid (by omega)]; show ¬ uA.toNat ≤ _; omega)]
    have hD4 := hear_ack B3 m3 a1.yi ⟨a1.yi, true, uA⟩ tB uB (by omega) huB (by rw [hm3]) (by rw [hm3]) k3 (by rw [hcl3]; omega) (by rw [hcl3]; exact of3) rfl (.inr ⟨n3a, n3b, by rw [hm3], rfl⟩)
    obtain ⟨e1, he1⟩ : ∃ a, sayM smallC m3 5 a1.yi = a := ⟨_, rfl⟩
    obtain ⟨B4, hB4⟩ : ∃ b, B3.put c ⟨a1.yi, true, uB⟩ = b := ⟨_, rfl⟩
    rw [hcl3, he1, hB4] at hD4
    have of4 : B4.of c tC = none := by rw [← hB4, of_put, if_pos (by rw [bU_mid (by omega)]; show uB.toNat ≤ _; omega)]
    have hD5 := hear_gone B4 m3 tC (by rw [hm3]) (by rw [hm3]) k3 (by rw [hcl3]; omega) (by rw [hcl3]; exact of4) n3a
    -- memory
    obtain ⟨K3, hK3⟩ : ∃ K, (H3 ++ [tmsg a1]).set H.length (tmsg m2) = K := ⟨_, rfl⟩
    have v6 : Lv (macO x :: K3) p B2 62 := by
      rw [← hK3]
      exact (show Lv (macO x :: (H3 ++ [tmsg a1])) p B2 62 from v5.app [tmsg a1]).turn (gapp gn [tmsg a1]) m2
    have lK3 : H.length < (H3 ++ [tmsg a1]).length := (List.getElem?_eq_some_iff.1 (gapp gn [tmsg a1])).1
    have gK3m : K3[H.length]? = some (tmsg m2) := by rw [← hK3]; exact List.getElem?_set_self lK3
    have gK3a : K3[H2.length]? = some (tmsg a1) := by rw [← hK3]; exact gset (by omega) (gapp ga3 [tmsg a1]) _
    obtain ⟨H4, qc, v7, cs3⟩ := v6.hear1 (by omega) m2 s2 tA hD3
    have g4m := cs3.at gK3m
    have g4a := cs3.at gK3a
    have l24 : H2.length < H4.length := (List.getElem?_eq_some_iff.1 g4a).1
    obtain ⟨K4a, hK4a⟩ : ∃ K, (H4 ++ [tmsg c1]).set H.length (tmsg m2a) = K := ⟨_, rfl⟩
    obtain ⟨K4, hK4⟩ : ∃ K, K4a.set H.length (tmsg m3) = K := ⟨_, rfl⟩
    have lK4 : H.length < (H4 ++ [tmsg c1]).length := (List.getElem?_eq_some_iff.1 (gapp g4m [tmsg c1])).1
    have gK4am : K4a[H.length]? = some (tmsg m2a) := by rw [← hK4a]; exact List.getElem?_set_self lK4
    have gK4aa : K4a[H2.length]? = some (tmsg a1) := by rw [← hK4a]; exact gset (by omega) (gapp g4a [tmsg c1]) _
    have gK4ac : K4a[H4.length]? = some (tmsg c1) := by rw [← hK4a]; exact gset (by omega) (gtop H4 (tmsg c1) []) _
    have v8 : Lv (macO x :: K4) p B3 63 := by
      have w1 : Lv (macO x :: K4a) p B3 63 := by
        rw [← hK4a]
        exact (show Lv (macO x :: (H4 ++ [tmsg c1])) p B3 63 from v7.app [tmsg c1]).turn (gapp g4m [tmsg c1]) m2a
      rw [← hK4]
      exact w1.turn gK4am m3
    have gK4m : K4[H.length]? = some (tmsg m3) := by rw [← hK4]; exact List.getElem?_set_self (List.getElem?_eq_some_iff.1 gK4am).1
    have gK4a' : K4[H2.length]? = some (tmsg a1) := by rw [← hK4]; exact gset (by omega) gK4aa _
    have gK4c : K4[H4.length]? = some (tmsg c1) := by rw [← hK4]; exact gset (by omega) gK4ac _
    obtain ⟨H5, qd, v9, cs4⟩ := v8.hear1 (by omega) m3 s3 tB hD4
    have g5m := cs4.at gK4m
    have g5a := cs4.at gK4a'
    have g5c := cs4.at gK4c
    have v10 : Lv (macO x :: (H5 ++ [tmsg e1])) p B4 64 := v9.app [tmsg e1]
    obtain ⟨H6, qe, v11, cs5⟩ := v10.hear1 (by omega) m3 s3 tC hD5
    have g6a := cs5.at (gapp g5a [tmsg e1])
    have g6c := cs5.at (gapp g5c [tmsg e1])
    have g6e := cs5.at (gtop H5 (tmsg e1) [])
    -- what is asked of the functions
    have qS : ∀ g g', pcall E 23 [.agg (encG g a1), .agg (encG g' a1)] = some (.bool true, []) := fun g g' => by
      have := s23 g g' a1 a1 (by rw [← ha1]; exact (small_say m1 2 a1.yi).1)
      rw [headEq_refl] at this
      simpa using this
    have q18a : ∀ g, pcall E 18 [.agg (encG g a1)] = some (.int .i64 2, []) := fun g => by
      have := s18 g a1 (by rw [← ha1]; exact small_say m1 2 a1.yi)
      have e : (numO a1.o 53 1).1 = 2 := by rw [← ha1]; exact kind_say2 m1 a1.yi
      rw [e] at this
      exact this
    have q18c : ∀ g, pcall E 18 [.agg (encG g c1)] = some (.int .i64 5, []) := fun g => by
      have := s18 g c1 (by rw [← hc1]; exact small_say m2 5 a1.yi)
      have e : (numO c1.o 53 1).1 = 5 := by rw [← hc1]; exact kind_say5 m2 a1.yi
      rw [e] at this
      exact this
    have q18e : ∀ g, pcall E 18 [.agg (encG g e1)] = some (.int .i64 5, []) := fun g => by
      have := s18 g e1 (by rw [← he1]; exact small_say m3 5 a1.yi)
      have e : (numO e1.o 53 1).1 = 5 := by rw [← he1]; exact kind_say5 m3 a1.yi
      rw [e] at this
      exact this
    have hyc : ((c1.yi.toNat : Int) = (a1.yi.toNat : Int)) = True := eq_true (by rw [← hc1]; rfl)
    have hye : ((e1.ci.toNat : Int) = (a1.yi.toNat : Int)) = True := eq_true (by rw [← he1, hm3]; rfl)
    have q14b := s14 53 3
    have q15b := s15 54 (UInt32.toNat 167772161) (by decide)
    have q15c := s15 50 a1.yi.toNat a1.yi.toNat_lt
    simp only [one_eq, ip_eq, ← hd3, ← hdn, ← hdi, encO_mk, show ((UInt8.toNat 53 : Nat) : Int) = 53 from rfl, show ((UInt8.toNat 54 : Nat) : Int) = 54 from rfl, show ((UInt8.toNat 50 : Nat) : Int) = 50 from rfl, show ((UInt8.toNat 3 : Nat) : Int) = 3 from rfl] at q14b q15b q15c
    have q15b : pcall E 15 [.int .u8 54, .int .u32 167772161] = some (.agg [.int .u8 54, bs false dn], []) := q15b
    have q9 := s9
    have hbs3 : bs false d3 = .rs false 1 (d3.map by8) := rfl
    have hbs4 : bs false dn = .rs false 1 (dn.map by8) := rfl
    have hbs5 : bs false di = .rs false 1 (di.map by8) := rfl
    have hl2 : (AV.rs false 2 [.agg [.int .u8 53, .rs false 1 (d3.map by8)], .agg [.int .u8 54, .rs false 1 (dn.map by8)], .agg [.int .u8 50, .rs false 1 (di.map by8)]]) = .rs false 2 (o2.map fun a => .agg (encO a)) := by rw [ho2]; rfl
    have hl3 : (AV.rs false 2 [.agg [.int .u8 53, .rs false 1 (d3.map by8)]]) = .rs false 2 (o3.map fun a => .agg (encO a)) := by rw [ho3]; rfl
    have erem : Int.tmod (later.toNat : Int) 10 = (rl : Int) := by
      rw [Int.tmod_eq_emod_of_nonneg (by omega)]
      omega
    have ecv : IntKind.u64.wrap (rl : Int) = (rl : Int) := wu64 (by omega) (by omega)
    have ea : IntKind.u64.wrap ((now.toNat : Int) + rl) = (tA.toNat : Int) := by rw [wu64 (by omega) (by omega)]; omega
    have eb : IntKind.u64.wrap ((tA.toNat : Int) + 99) = (tB.toNat : Int) := by rw [wu64 (by omega) (by omega)]; omega
    have ec : IntKind.u64.wrap ((tA.toNat : Int) + 199) = (tC.toNat : Int) := by rw [wu64 (by omega) (by omega)]; omega
    have gm' := gapp gm
    have gn' := gapp gn
    have ga3' := gapp ga3
    have g4m' := gapp g4m
    have g4a' := gapp g4a
    have g5m' := gapp g5m
    have g6a' := gapp g6a
    have g6c' := gapp g6c
    have g6e' := gapp g6e
    have r1 := gtop H2
    have r2 := stop H2
    have r3 := gtop H3
    have r4 := stop H3
    have r5 := gtop H4
    have r6 := stop H4
    have r7 := gtop H5
    have r8 := stop H5
    have r9 := gtop H6
    have r10 := stop H6
    rw [hwas] at qa
    simp only [ansV, zC_eq, zC] at qa qb qc qd qe
    simp only [macO_eq, tmsg_eq, encG_eq, hm1, hm2, hm2a, hm3, opts, recs, i64u, show ((UInt8.toNat 1 : Nat) : Int) = 1 from rfl, show ((UInt32.toNat 0 : Nat) : Int) = 0 from rfl, show ((UInt16.toNat 0 : Nat) : Int) = 0 from rfl] at qa qb qc qd qe gm gm' gn gn' ga3 ga3' g4m g4m' g4a g4a' gK3m gK4am gK4aa gK4m g5m g5m' g6a g6a' g6c g6c' g6e g6e' hK3 hK4a hK4 qS q18a q18c q18e
    rw [hzf2] at qa
    simp only [macO_eq, opts, recs]
    rcases hcon with rfl | ⟨rfl, rfl⟩
    · simp (disch := first | omega | (simp only [List.length_cons, List.length_nil, List.length_append, List.length_map, List.length_set]; omega) | rfl | (simp only [List.length_cons, List.length_nil, List.length_append, List.length_map, List.length_set, List.length_replicate, List.all_cons, List.all_nil, List.all_append, storable, plainB, Bool.and_self]; done)) only [go_sem, reduceCtorEq, ↓reduceIte, reduceDIte, evI_callP, callPK_some, T6_0, evI_callM, hrd, q9, q10, q14, q15, q14b, q15b, q15c, q16, qa, qb, qc, qd, qe, qS, q18a, q18c, q18e, hbs1, hbs2, hbs3, hbs4, hbs5, hl1, hl2, hl3, y1, y2, y3, y4, y5, t1, t2, t3, t4, r1, r2, r3, r4, r5, r6, r7, r8, r9, r10, gm, gm', gn, gn', ga3, ga3', g4m, g4m', g4a, g4a', gK3m, gK4am, gK4aa, gK4m, g5m, g5m', g6a, g6a', g6c, g6c', g6e, g6e', hK3, hK4a, hK4, hyc, hye, erem, ecv, ea, eb, ec, hzf2, List.append_assoc]
      exact ⟨_, rfl⟩
    · simp (disch := first | omega | (simp only [List.length_cons, List.length_nil, List.length_append, List.length_map, List.length_set]; omega) | rfl | (simp only [List.length_cons, List.length_nil, List.length_append, List.length_map, List.length_set, List.length_replicate, List.all_cons, List.all_nil, List.all_append, storable, plainB, Bool.and_self]; done)) only [go_sem, reduceCtorEq, ↓reduceIte, reduceDIte, evI_callP, callPK_some, T6_0, evI_callM, hrd, q9, q10, q14, q15, q14b, q15b, q15c, q16, qa, qb, qc, qd, qe, qS, q18a, q18c, q18e, hbs1, hbs2, hbs3, hbs4, hbs5, hl1, hl2, hl3, y1, y2, y3, y4, y5, t1, t2, t3, t4, r1, r2, r3, r4, r5, r6, r7, r8, r9, r10, gm, gm', gn, gn', ga3, ga3', g4m, g4m', g4a, g4a', gK3m, gK4am, gK4aa, gK4m, g5m, g5m', g6a, g6a', g6c, g6c', g6e, g6e', hK3, hK4a, hK4, hyc, hye, erem, ecv, ea, eb, ec, hzf2, List.append_assoc]
      exact ⟨_, rfl⟩
theorem s6 (l : List Cm) (x : Mc) (wish : UInt32) (now : UInt64) (later : UInt8) : pcall E 6 [cmR l, .agg (mcL x), w32 wish, i64u now, .int .u8 (later.toNat : Int)] = some (.bool true, []) := by
  have q7 := s7
  have q8 := s8 l
  have q9 := s9
  have hk : E.keep 6 = false := rfl
  rw [pcall_go (fn := I6) rfl rfl rfl]
  cases hg : tooG l with
  | true =>
    rw [hg] at q8
    simp (disch := first | omega | (simp only [List.length_cons, List.length_nil, List.length_append, List.length_map, List.length_set]; omega) | rfl | (simp only [List.length_cons, List.length_nil, List.length_append, List.length_map, List.length_set, List.length_replicate, List.all_cons, List.all_nil, List.all_append, storable, plainB, Bool.and_self]; done)) only [go_sem, reduceCtorEq, ↓reduceIte, reduceDIte, evI_callP, callPK_some, I6, hk, q7, q8]
  | false =>
  rw [hg] at q8
  by_cases c1 : (1152921504606846976 : Int) < (now.toNat : Int)
  · simp (disch := first | omega | (simp only [List.length_cons, List.length_nil, List.length_append, List.length_map, List.length_set]; omega) | rfl | (simp only [List.length_cons, List.length_nil, List.length_append, List.length_map, List.length_set, List.length_replicate, List.all_cons, List.all_nil, List.all_append, storable, plainB, Bool.and_self]; done)) only [go_sem, reduceCtorEq, ↓reduceIte, reduceDIte, evI_callP, callPK_some, I6, hk, q7, q8, c1]
  obtain ⟨g1, g2⟩ := tooG_not hg
  obtain ⟨X, p, q11, v0, _⟩ := new_lv [macO x]
  obtain ⟨H0, hX⟩ : ∃ H0, [macO x] ++ X = macO x :: H0 := ⟨X, rfl⟩
  rw [hX] at q11 v0
  obtain ⟨B', H', k1, k2⟩ := twi_loop l g1 g2 x wish now later p l.length 0 smallB H0 (by omega) v0
  obtain ⟨Y, r3⟩ := twi_rest l x wish now later (by omega) p B' H' k1
  rw [r3] at k2
  simp only [macO_eq] at q11 k2
  simp (disch := first | omega | (simp only [List.length_cons, List.length_nil, List.length_append, List.length_map, List.length_set]; omega) | rfl | (simp only [List.length_cons, List.length_nil, List.length_append, List.length_map, List.length_set, List.length_replicate, List.all_cons, List.all_nil, List.all_append, storable, plainB, Bool.and_self]; done)) only [go_sem, reduceCtorEq, ↓reduceIte, reduceDIte, evI_callP, callPK_some, I6, evI_callM, hk, q7, q8, q9, q11, c1, L6_0_lp]
  refine Eq.trans (congrArg (Option.bind · (finish false)) k2) ?_
  simp only [go_sem, reduceCtorEq, ↓reduceIte, reduceDIte, evI_callP, callPK_some]
theorem end6 (xs : List AV) (hl : xs.length = [22, 26, 23, 30, 5].length) (h : ∀ (j : Nat) t x, ([22, 26, 23, 30, 5] : List TypeId)[j]? = some t → xs[j]? = some x → Arg Try.prog t x) : pcall E 6 xs = some (.bool true, []) := by
  match xs, hl with
  | [x0, x1, x2, x3, x4], _ =>
    obtain ⟨l, rfl⟩ := cms_arg (h 0 _ x0 rfl rfl)
    obtain ⟨a, b, c, d, e, f, rfl⟩ := mac_arg (h 1 _ x1 rfl rfl)
    obtain ⟨wish, rfl⟩ := U32_arg (h 2 _ x2 rfl rfl)
    obtain ⟨now, rfl⟩ := U64_arg (h 3 _ x3 rfl rfl)
    obtain ⟨later, rfl⟩ := u8_arg (h 4 _ x4 rfl rfl)
    exact s6 l ⟨a, b, c, d, e, f⟩ wish now later
end Go.Fw.Wd
