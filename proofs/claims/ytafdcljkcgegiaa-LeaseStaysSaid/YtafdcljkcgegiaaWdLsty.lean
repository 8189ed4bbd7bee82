/-
  The law LeaseStays at the evaluation. Conditions: none of the law.
-/
import Derived.Test.YtafdcljkcgegiaaWdLst
import Derived.Test.YtafdcljkcgegiaaWdLful
set_option linter.unusedVariables false
set_option linter.unusedSimpArgs false
namespace Go.Fw.Wd
open Go.Proofs Code_

theorem stay_loop (g : Bool) (l : List Cl) (hl : l.length ≤ 100) (hcl : ∀ c ∈ l, c.client.length ≤ 300) (c : List UInt8) (wish span later : UInt32) (now : UInt64) : ∀ (n i : Nat) (B : Bk) (J : Heap), i + n = l.length → B.Ok → B.ln.length ≤ i → B.rs.length ≤ i →
    ∃ (B' : Bk) (J' : Heap), Kin B B' ∧ B'.ln.length ≤ 100 ∧ B'.rs.length ≤ 100 ∧
    T5_0 E (lp E L5_0 [(2, clR g l), (3, sv c), (4, i32 wish), (5, i64u now), (6, i32 span), (7, i32 later), (17, .ref 3 0 0), (19, .int .i64 (i : Int))] (bh B J)) =
    T5_0 E (some (.exit 0, ⟨[(2, clR g l), (3, sv c), (4, i32 wish), (5, i64u now), (6, i32 span), (7, i32 later), (17, .ref 3 0 0), (19, .int .i64 (l.length : Int))], bh B' J'⟩)) := by
  intro n
  induction n with
  | zero =>
    intro i B J hi hB hn hs
    obtain rfl : i = l.length := by omega
    refine ⟨B, J, Kin.refl B, by omega, by omega, ?_⟩
    have hlt : ¬ ((l.length : Int) < (l.length : Int)) := by omega
    rw [L5_0_go]
    simp (disch := first | omega | (simp only [List.length_cons, List.length_nil, List.length_append, List.length_map, List.length_set]; omega) | rfl | (simp only [List.length_cons, List.length_nil, List.length_append, List.length_map, List.length_set, List.length_replicate, List.all_cons, List.all_nil, List.all_append, storable, plainB, Bool.and_self]; done)) only [go_sem, reduceCtorEq, ↓reduceIte, reduceDIte, evI_callP, callPK_some, B5_0, hlt]
    rfl
  | succ n ih =>
    intro i B J hi hB hn hs
    have hil : i < l.length := by omega
    have hlt : (i : Int) < (l.length : Int) := by omega
    have hia : ∀ H : Heap, iaddrK H 6 (clR g l) (.int .i64 (i : Int)) = some (.rp g (clA l[i]), H) := fun H => by
      rw [iaddrK_rs H 6 g _ _ _ (by omega) (by rw [List.length_map]; omega), Int.toNat_natCast, List.getD_eq_getElem?_getD, List.getElem?_map, List.getElem?_eq_getElem hil]
      rfl
    have hci := hcl l[i] (List.getElem_mem hil)
    obtain ⟨ok, X, J', q11⟩ := b_do hB (by omega) (by omega) J l[i] (by omega)
    obtain ⟨l1, l2⟩ := len_step B l[i]
    obtain ⟨B', J'', k1, k2, k3, k4⟩ := ih (i + 1) (B.step l[i]) (J ++ X :: J') (by omega) ((kin_step B l[i]).ok hB) (by omega) (by omega)
    refine ⟨B', J'', (kin_step B l[i]).trans k1, k2, k3, ?_⟩
    rw [← k4, show ((i + 1 : Nat) : Int) = (i : Int) + 1 by omega]
    have a1 := bh_app B
    have a2 := bh_len B
    rw [L5_0_go]
    simp (disch := first | omega | (simp only [List.length_cons, List.length_nil, List.length_append, List.length_map, List.length_set]; omega) | rfl | (simp only [List.length_cons, List.length_nil, List.length_append, List.length_map, List.length_set, List.length_replicate, List.all_cons, List.all_nil, List.all_append, storable, plainB, Bool.and_self]; done)) only [go_sem, reduceCtorEq, ↓reduceIte, reduceDIte, evI_callP, callPK_some, B5_0, hlt, hia, a1, a2, evI_callM, q11, L5_0_lp]
/-- What a client's loan is, once it is offered. -/
theorem of_put (B : Bk) (c : List UInt8) (l : Ln) (now : UInt64) : (B.put c l).of c now = if l.til.toNat ≤ (bU now).toNat then none else some l := by
  unfold Bk.of Bk.put
  simp only [aget_aput, if_true]
  rfl
structure Has (B : Bk) (c : List UInt8) (now : UInt64) (x : UInt32) : Prop where
  ex : ∃ l, B.of c now = some l ∧ l.ip = x
theorem offer_has {B : Bk} {c : List UInt8} {now : UInt64} {x : UInt32} (h : Has B c now x) (hc : ¬ (c = [] ∨ 255 < c.length)) (w : UInt32) (til : UInt64) (ht : (bU now).toNat < (bU til).toNat) : (B.offer c w now til).2 = (x, 0) ∧ Has (B.offer c w now til).1 c now x := by
  obtain ⟨l, h1, h2⟩ := h
  unfold Bk.offer
  rw [if_neg hc, h1]
  by_cases hf : l.firm = true
  · simp only [hf, if_true]
    exact ⟨by rw [h2], ⟨l, h1, h2⟩⟩
  · simp only [hf, if_false, Bool.false_eq_true]
    refine ⟨by rw [h2], ⟨⟨l.ip, false, bU til⟩, ?_, h2⟩⟩
    rw [of_put, if_neg (by show ¬ (bU til).toNat ≤ _; omega)]
theorem offer_any {B : Bk} {c : List UInt8} {now : UInt64} (hc : ¬ (c = [] ∨ 255 < c.length)) (w : UInt32) (til : UInt64) (ht : (bU now).toNat < (bU til).toNat) :
    B.offer c w now til = (B, 0, 18) ∨ ((B.offer c w now til).2.2 = 0 ∧ Has (B.offer c w now til).1 c now (B.offer c w now til).2.1) := by
  cases ho : B.of c now with
  | some l =>
    obtain ⟨h1, h2⟩ := offer_has (x := l.ip) ⟨l, ho, rfl⟩ hc w til ht
    exact .inr ⟨by rw [h1], by rw [h1]; exact h2⟩
  | none =>
    unfold Bk.offer
    rw [if_neg hc, ho]
    cases hf : B.find w now with
    | none => exact .inl rfl
    | some ip =>
      refine .inr ⟨rfl, ⟨⟨ip, false, bU til⟩, ?_, rfl⟩⟩
      rw [of_put, if_neg (by show ¬ (bU til).toNat ≤ _; omega)]
theorem bU_mid {n : UInt64} (h : n.toNat ≤ 2305843009213693952) : bU n = n := if_pos h
/-- Behind the loop. -/
theorem stay_rest (g : Bool) (l : List Cl) (c : List UInt8) (hc : 1 ≤ c.length ∧ c.length ≤ 255) (wish span later : UInt32) (now : UInt64) (hnow : now.toNat ≤ 1152921504606846976) (hspan : 1 ≤ span.toNat) (B : Bk) (J : Heap) (hB : B.Ok) (hn : B.ln.length ≤ 100) (hs : B.rs.length ≤ 100) :
    ∃ H, T5_0 E (some (.exit 0, ⟨[(2, clR g l), (3, sv c), (4, i32 wish), (5, i64u now), (6, i32 span), (7, i32 later), (17, .ref 3 0 0), (19, .int .i64 (l.length : Int))], bh B J⟩)) = some (.bool true, H) := by
  have hs32 := span.toNat_lt
  have hl32 := later.toNat_lt
  have hcc : ¬ (c = [] ∨ 255 < c.length) := by
    rintro (h | h)
    · rw [h] at hc
      simp at hc
    · omega
  obtain ⟨til, htil⟩ : ∃ t : UInt64, t.toNat = now.toNat + span.toNat := ⟨UInt64.ofNat (now.toNat + span.toNat), by rw [UInt64.toNat_ofNat', Nat.mod_eq_of_lt (by omega)]⟩
  obtain ⟨lat, hlat⟩ : ∃ t : UInt64, t.toNat = now.toNat + later.toNat := ⟨UInt64.ofNat (now.toNat + later.toNat), by rw [UInt64.toNat_ofNat', Nat.mod_eq_of_lt (by omega)]⟩
  obtain ⟨pre, hpre⟩ : ∃ t : UInt64, t.toNat = now.toNat + span.toNat - 1 := ⟨UInt64.ofNat (now.toNat + span.toNat - 1), by rw [UInt64.toNat_ofNat', Nat.mod_eq_of_lt (by omega)]⟩
  have b1 : bU now = now := bU_mid (by omega)
  have b2 : bU til = til := bU_mid (by omega)
  have b3 : bU lat = lat := bU_mid (by omega)
  have b4 : bU pre = pre := bU_mid (by omega)
  have ht : (bU now).toNat < (bU til).toNat := by rw [b1, b2]; omega
  have e1 : IntKind.u64.wrap ((now.toNat : Int) + span.toNat) = (til.toNat : Int) := by rw [wu64 (by omega) (by omega)]; omega
  have e2 : IntKind.u64.wrap (span.toNat : Int) = (span.toNat : Int) := wu64 (by omega) (by omega)
  have e3 : IntKind.u64.wrap (later.toNat : Int) = (later.toNat : Int) := wu64 (by omega) (by omega)
  have e4 : IntKind.u64.wrap ((now.toNat : Int) + later.toNat) = (lat.toNat : Int) := by rw [wu64 (by omega) (by omega)]; omega
  have e5 : IntKind.u64.wrap ((til.toNat : Int) - 1) = (pre.toNat : Int) := by rw [wu64 (by omega) (by omega)]; omega
  obtain ⟨J1, q1⟩ := b_offer hB (by omega) J c (by omega) wish now til
  rcases offer_any hcc wish til ht (B := B) (now := now) with ho | ⟨ho, hx⟩
  · rw [ho, show i32 0 = .int .u32 0 from rfl] at q1
    simp (disch := first | omega | (simp only [List.length_cons, List.length_nil, List.length_append, List.length_map, List.length_set]; omega) | rfl | (simp only [List.length_cons, List.length_nil, List.length_append, List.length_map, List.length_set, List.length_replicate, List.all_cons, List.all_nil, List.all_append, storable, plainB, Bool.and_self]; done)) only [go_sem, reduceCtorEq, ↓reduceIte, reduceDIte, evI_callP, callPK_some, T5_0, e1, e2, q1]
    exact ⟨_, rfl⟩
  · obtain ⟨w1, hw1⟩ : ∃ w : UInt32, (w.toNat : Int) = IntKind.u32.wrap ((wish.toNat : Int) + 1) := ⟨wish + 1, by
      rw [UInt32.toNat_add]
      simp [IntKind.wrap, IntKind.signed, IntKind.bits]⟩
    obtain ⟨w2, hw2⟩ : ∃ w : UInt32, (w.toNat : Int) = IntKind.u32.wrap ((wish.toNat : Int) + 2) := ⟨wish + 2, by
      rw [UInt32.toNat_add]
      simp [IntKind.wrap, IntKind.signed, IntKind.bits]⟩
    have hw1 := hw1.symm
    have hw2 := hw2.symm
    rw [show (B.offer c wish now til) = ((B.offer c wish now til).1, (B.offer c wish now til).2.1, (0 : Int)) by rw [← ho]] at q1
    have k1 := (kin_offer B c wish now til).1
    have r1 := (kin_offer B c wish now til).2
    have n1 := len_offer B c wish now til
    obtain ⟨x, hxx⟩ : ∃ x, (B.offer c wish now til).2.1 = x := ⟨_, rfl⟩
    obtain ⟨B1, hB1⟩ : ∃ B1, (B.offer c wish now til).1 = B1 := ⟨_, rfl⟩
    rw [hxx, hB1] at hx q1
    rw [hB1] at k1 r1 n1
    obtain ⟨h2, hx2⟩ := offer_has hx hcc w1 til ht
    obtain ⟨J2, q2⟩ := b_offer (k1.ok hB) (by omega) J1 c (by omega) w1 now til
    rw [show (B1.offer c w1 now til) = ((B1.offer c w1 now til).1, x, (0 : Int)) by rw [← h2]] at q2
    have k2 := (kin_offer B1 c w1 now til).1
    have r2 := (kin_offer B1 c w1 now til).2
    have n2 := len_offer B1 c w1 now til
    obtain ⟨B2, hB2⟩ : ∃ B2, (B1.offer c w1 now til).1 = B2 := ⟨_, rfl⟩
    rw [hB2] at hx2 q2 k2 r2 n2
    obtain ⟨l2, f1, f2⟩ := hx2
    have hfirm : B2.firm c x now til = (B2.put c ⟨x, true, til⟩, 0) := by
      unfold Bk.firm
      rw [f1, b2]
      simp only [f2, if_true]
    obtain ⟨J3, q3⟩ := b_firm (B := B2) (by omega) J2 c (by omega) x now til
    rw [hfirm] at q3
    have k3 : Kin B2 (B2.put c ⟨x, true, til⟩) := ⟨rfl, rfl, rfl⟩
    have n3 : (B2.put c ⟨x, true, til⟩).ln.length ≤ B2.ln.length + 1 := len_aput _ _ _
    have r3 : (B2.put c ⟨x, true, til⟩).rs = B2.rs := rfl
    have hof : ∀ t : UInt64, (B2.put c ⟨x, true, til⟩).of c t = if til.toNat ≤ (bU t).toNat then none else some ⟨x, true, til⟩ := fun t => of_put B2 c ⟨x, true, til⟩ t
    obtain ⟨B3, hB3⟩ : ∃ B3, B2.put c ⟨x, true, til⟩ = B3 := ⟨_, rfl⟩
    rw [hB3] at q3 k3 n3 r3 hof
    have hofn : B3.of c now = some ⟨x, true, til⟩ := by rw [hof, if_neg (by rw [b1]; omega)]
    have hoff3 : B3.offer c w2 now now = (B3, x, 0) := by
      unfold Bk.offer
      rw [if_neg hcc, hofn]
      simp only [if_true]
    obtain ⟨J4, q4⟩ := b_offer (k3.ok (k2.ok (k1.ok hB))) (by omega) J3 c (by omega) w2 now now
    rw [hoff3] at q4
    have p1 := fun g t => s18 g B3 c (by omega) t
    have p1n := fun g => p1 g now
    have p1l := fun g => p1 g lat
    rw [hofn] at p1n
    have hrest : B3.rest c x now til = ({ B3.cut c with rs := aput ltB x til B3.rs }, 0) := by
      unfold Bk.rest
      rw [hofn, b2]
      simp only [if_true]
    obtain ⟨B4, hB4⟩ : ∃ B4, ({ B3.cut c with rs := aput ltB x til B3.rs } : Bk) = B4 := ⟨_, rfl⟩
    rw [hB4] at hrest
    have rr : B3.rs = B.rs := by rw [r3, r2, r1]
    have a0 := bh0
    have a1 := bh1
    have a2 := bh2
    have a3 := bh3
    have a4 := bh_app
    have a5 := bh_len
    have a6 := bh_top
    have a7 := bh_stop
    have a8 : ∀ (B : Bk) (J : Heap) (a c : AObj) (X : Heap), (bh B (J ++ a :: c :: X))[J.length + 1 + 4]? = some c := fun B J a c X => by
      show (J ++ a :: c :: X)[J.length + 1]? = _
      rw [List.getElem?_append_right (by omega), show J.length + 1 - J.length = 1 by omega]
      rfl
    have a9 : ∀ (B : Bk) (J : Heap) (a c d : AObj) (X : Heap), (bh B (J ++ a :: c :: X)).set (J.length + 1 + 4) d = bh B (J ++ a :: d :: X) := fun B J a c d X => by
      show _ :: _ :: _ :: _ :: (J ++ a :: c :: X).set (J.length + 1) d = _
      rw [List.set_append_right _ _ (by omega), show J.length + 1 - J.length = 1 by omega]
      rfl
    have z1 : (zLn.ip.toNat : Int) = 0 := rfl
    have z2 : zLn.firm = false := rfl
    have z3 : (zLn.til.toNat : Int) = 0 := rfl
    have p4 := fun g => s18 g B4 c (by omega) now
    have ho4 : B4.of c now = none := by
      rw [← hB4]
      unfold Bk.of Bk.cut
      simp only [aget_adel, if_true]
      rfl
    rw [ho4] at p4
    have hf4 : ∀ t : UInt64, (bU t).toNat < til.toNat → B4.free x t = false := fun t h => by
      cases hf : B4.free x t with
      | false => rfl
      | true =>
        have h5 := ((free_iff B4 x t).1 hf).2.2.2.1
        rw [← hB4] at h5
        simp only [aget_aput, if_true, Option.getD_some] at h5
        omega
    have f4 := fun g => s14 g B4 x now
    have f5 := fun g => s14 g B4 x pre
    rw [hf4 now (by rw [b1]; omega)] at f4
    rw [hf4 pre (by rw [b4]; omega)] at f5
    by_cases hlt : later.toNat < span.toNat
    · have hlt' : (later.toNat : Int) < (span.toNat : Int) := by omega
      have hol : B3.of c lat = some ⟨x, true, til⟩ := by rw [hof, if_neg (by rw [b3]; omega)]
      rw [hol] at p1l
      obtain ⟨J5, q5⟩ := b_rest (B := B3) (by omega) (by rw [rr]; omega) (J4 ++ [.cells true [i32 x, .bool true, i64u til] 49, .cells true [i32 x, .bool true, i64u til] 49]) c (by omega) x now til
      rw [hrest] at q5
      simp (disch := first | omega | (simp only [List.length_cons, List.length_nil, List.length_append, List.length_map, List.length_set]; omega) | rfl | (simp only [List.length_cons, List.length_nil, List.length_append, List.length_map, List.length_set, List.length_replicate, List.all_cons, List.all_nil, List.all_append, storable, plainB, Bool.and_self]; done)) only [go_sem, reduceCtorEq, ↓reduceIte, reduceDIte, evI_callP, callPK_some, T5_0, e1, e2, e3, e4, e5, q1, q2, q3, q4, q5, hw1, hw2, p1n, p1l, p4, f4, f5, a0, a1, a2, a3, a4, a5, a6, a7, a8, a9, z1, z2, z3, hlt', List.append_assoc]
      exact ⟨_, rfl⟩
    · have hlt' : ¬ (later.toNat : Int) < (span.toNat : Int) := by omega
      have hol : B3.of c lat = none := by rw [hof, if_pos (by rw [b3]; omega)]
      rw [hol] at p1l
      obtain ⟨J5, q5⟩ := b_rest (B := B3) (by omega) (by rw [rr]; omega) (J4 ++ [.cells true [i32 x, .bool true, i64u til] 49, .cells true [.int .u32 0, .bool false, .int .u64 0] 49]) c (by omega) x now til
      rw [hrest] at q5
      simp (disch := first | omega | (simp only [List.length_cons, List.length_nil, List.length_append, List.length_map, List.length_set]; omega) | rfl | (simp only [List.length_cons, List.length_nil, List.length_append, List.length_map, List.length_set, List.length_replicate, List.all_cons, List.all_nil, List.all_append, storable, plainB, Bool.and_self]; done)) only [go_sem, reduceCtorEq, ↓reduceIte, reduceDIte, evI_callP, callPK_some, T5_0, e1, e2, e3, e4, e5, q1, q2, q3, q4, q5, hw1, hw2, p1n, p1l, p4, f4, f5, a0, a1, a2, a3, a4, a5, a6, a7, a8, a9, z1, z2, z3, hlt', List.append_assoc]
      exact ⟨_, rfl⟩
theorem mn9 (first last : UInt32) (h : Heap) (hok : first.toNat ≤ last.toNat ∧ last.toNat - first.toNat < 256) :
    hcall E 9 [i32 first, i32 last, .nils] h = some (.tup [.ref (h.length + 3) 0 0, .int .i64 0], h ++ [brO [], lnO [], rsO [], (⟨first, last, [], [], []⟩ : Bk).obj h.length (h.length + 1) (h.length + 2)]) := by
  obtain ⟨o1, o2⟩ := hok
  have h3 := last.toNat_lt
  have hw : IntKind.u32.wrap ((last.toNat : Int) - first.toNat) = (last.toNat : Int) - first.toNat := wu32 (by omega) (by omega)
  have c1 : ¬ ((last.toNat : Int) < (first.toNat : Int)) := by omega
  have c2 : ¬ ((256 : Int) ≤ (last.toNat : Int) - first.toNat) := by omega
  rw [hcall_go (fn := I9) rfl rfl rfl]
  simp (disch := first | omega | (simp only [List.length_cons, List.length_nil, List.length_append, List.length_map, List.length_set]; omega) | rfl | (simp only [List.length_cons, List.length_nil, List.length_append, List.length_map, List.length_set, List.length_replicate, List.all_cons, List.all_nil, List.all_append, storable, plainB, Bool.and_self]; done)) only [go_sem, reduceCtorEq, ↓reduceIte, reduceDIte, evI_callP, callPK_some, I9, hw, c1, c2, L9_0_lp, L9_0_go, B9_0, List.append_assoc]
  rfl
theorem s5 (g : Bool) (first : UInt32) (many : UInt8) (l : List Cl) (c : List UInt8) (wish : UInt32) (now : UInt64) (span later : UInt32) :
    pcall E 5 [i32 first, .int .u8 (many.toNat : Int), clR g l, sv c, i32 wish, i64u now, i32 span, i32 later] = some (.bool true, []) := by
  have q7 := s7
  have q8 := fun g => s8 g l
  have hk : E.keep 5 = false := rfl
  have hcz : (⟨c.toArray⟩ : ByteArray).size = c.length := rfl
  rw [pcall_go (fn := I5) rfl rfl rfl]
  cases hg : tooGreat l with
  | true =>
    rw [hg] at q8
    simp (disch := first | omega | (simp only [List.length_cons, List.length_nil, List.length_append, List.length_map, List.length_set]; omega) | rfl | (simp only [List.length_cons, List.length_nil, List.length_append, List.length_map, List.length_set, List.length_replicate, List.all_cons, List.all_nil, List.all_append, storable, plainB, Bool.and_self]; done)) only [go_sem, reduceCtorEq, ↓reduceIte, reduceDIte, evI_callP, callPK_some, I5, hk, q7, q8]
  | false =>
  rw [hg] at q8
  by_cases c1 : (2147483648 : Int) < (first.toNat : Int)
  · simp (disch := first | omega | (simp only [List.length_cons, List.length_nil, List.length_append, List.length_map, List.length_set]; omega) | rfl | (simp only [List.length_cons, List.length_nil, List.length_append, List.length_map, List.length_set, List.length_replicate, List.all_cons, List.all_nil, List.all_append, storable, plainB, Bool.and_self]; done)) only [go_sem, reduceCtorEq, ↓reduceIte, reduceDIte, evI_callP, callPK_some, I5, hk, q7, q8, c1]
  by_cases c2 : (c.length : Int) < 1
  · simp (disch := first | omega | (simp only [List.length_cons, List.length_nil, List.length_append, List.length_map, List.length_set]; omega) | rfl | (simp only [List.length_cons, List.length_nil, List.length_append, List.length_map, List.length_set, List.length_replicate, List.all_cons, List.all_nil, List.all_append, storable, plainB, Bool.and_self]; done)) only [go_sem, reduceCtorEq, ↓reduceIte, reduceDIte, evI_callP, callPK_some, I5, hk, q7, q8, c1, hcz, c2]
  by_cases c3 : (255 : Int) < (c.length : Int)
  · simp (disch := first | omega | (simp only [List.length_cons, List.length_nil, List.length_append, List.length_map, List.length_set]; omega) | rfl | (simp only [List.length_cons, List.length_nil, List.length_append, List.length_map, List.length_set, List.length_replicate, List.all_cons, List.all_nil, List.all_append, storable, plainB, Bool.and_self]; done)) only [go_sem, reduceCtorEq, ↓reduceIte, reduceDIte, evI_callP, callPK_some, I5, hk, q7, q8, c1, hcz, c2, c3]
  by_cases c4 : (1152921504606846976 : Int) < (now.toNat : Int)
  · simp (disch := first | omega | (simp only [List.length_cons, List.length_nil, List.length_append, List.length_map, List.length_set]; omega) | rfl | (simp only [List.length_cons, List.length_nil, List.length_append, List.length_map, List.length_set, List.length_replicate, List.all_cons, List.all_nil, List.all_append, storable, plainB, Bool.and_self]; done)) only [go_sem, reduceCtorEq, ↓reduceIte, reduceDIte, evI_callP, callPK_some, I5, hk, q7, q8, c1, hcz, c2, c3, c4]
  by_cases c5 : (span.toNat : Int) < 1
  · simp (disch := first | omega | (simp only [List.length_cons, List.length_nil, List.length_append, List.length_map, List.length_set]; omega) | rfl | (simp only [List.length_cons, List.length_nil, List.length_append, List.length_map, List.length_set, List.length_replicate, List.all_cons, List.all_nil, List.all_append, storable, plainB, Bool.and_self]; done)) only [go_sem, reduceCtorEq, ↓reduceIte, reduceDIte, evI_callP, callPK_some, I5, hk, q7, q8, c1, hcz, c2, c3, c4, c5]
  obtain ⟨g1, g2⟩ := great_not hg
  have hm := many.toNat_lt
  obtain ⟨last, hlast⟩ : ∃ last : UInt32, UInt32.ofNat (first.toNat + many.toNat) = last := ⟨_, rfl⟩
  have hlastn : last.toNat = first.toNat + many.toNat := by rw [← hlast, of32 (by omega)]
  have e1 : IntKind.u32.wrap (many.toNat : Int) = (many.toNat : Int) := wu32 (by omega) (by omega)
  have e2 : IntKind.u32.wrap ((first.toNat : Int) + many.toNat) = (last.toNat : Int) := by rw [wu32 (by omega) (by omega)]; omega
  have q9 := mn9 first last [] ⟨by omega, by omega⟩
  obtain ⟨B', J', k1, k2, k3, k4⟩ := stay_loop g l g1 g2 c wish span later now l.length 0 ⟨first, last, [], [], []⟩ [] (by omega) ⟨by show first.toNat ≤ last.toNat; omega, by show last.toNat - first.toNat < 256; omega⟩ (by simp) (by simp)
  obtain ⟨H, r3⟩ := stay_rest g l c (by omega) wish span later now (by omega) (by omega) B' J' (k1.ok ⟨by show first.toNat ≤ last.toNat; omega, by show last.toNat - first.toNat < 256; omega⟩) k2 k3
  rw [r3] at k4
  simp only [List.length_nil, Nat.zero_add, List.nil_append] at q9
  simp (disch := first | omega | (simp only [List.length_cons, List.length_nil, List.length_append, List.length_map, List.length_set]; omega) | rfl | (simp only [List.length_cons, List.length_nil, List.length_append, List.length_map, List.length_set, List.length_replicate, List.all_cons, List.all_nil, List.all_append, storable, plainB, Bool.and_self]; done)) only [go_sem, reduceCtorEq, ↓reduceIte, reduceDIte, evI_callP, callPK_some, I5, hk, q7, q8, c1, hcz, c2, c3, c4, c5, e1, e2, q9, L5_0_lp]
  refine Eq.trans (congrArg (Option.bind · (finish false)) k4) ?_
  simp only [go_sem, reduceCtorEq, ↓reduceIte, reduceDIte, evI_callP, callPK_some]
theorem end5 (xs : List AV) (hl : xs.length = [22, 5, 24, 9, 22, 25, 22, 22].length) (h : ∀ (j : Nat) t x, ([22, 5, 24, 9, 22, 25, 22, 22] : List TypeId)[j]? = some t → xs[j]? = some x → Arg Try.prog t x) : pcall E 5 xs = some (.bool true, []) := by
  match xs, hl with
  | [x0, x1, x2, x3, x4, x5, x6, x7], _ =>
    obtain ⟨a, rfl⟩ := U32_arg (h 0 _ x0 rfl rfl)
    obtain ⟨b, rfl⟩ := u8_arg (h 1 _ x1 rfl rfl)
    obtain ⟨l, rfl⟩ := cls_arg (h 2 _ x2 rfl rfl)
    obtain ⟨c, rfl⟩ := str_arg (h 3 _ x3 rfl rfl)
    obtain ⟨d, rfl⟩ := U32_arg (h 4 _ x4 rfl rfl)
    obtain ⟨e, rfl⟩ := U64_arg (h 5 _ x5 rfl rfl)
    obtain ⟨f, rfl⟩ := U32_arg (h 6 _ x6 rfl rfl)
    obtain ⟨i, rfl⟩ := U32_arg (h 7 _ x7 rfl rfl)
    exact s5 false a b l c d e f i
end Go.Fw.Wd
