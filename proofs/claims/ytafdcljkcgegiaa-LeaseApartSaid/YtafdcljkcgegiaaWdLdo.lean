/-
  A call on a book and on a new document's book. Conditions: stated at each.
-/
import Derived.Test.YtafdcljkcgegiaaWdLref0
set_option linter.unusedVariables false
set_option linter.unusedSimpArgs false
namespace Go.Fw.Wd
open Go.Proofs Code_

/-- A call. -/
structure Cl where
  what : Int
  client : List UInt8
  ip : UInt32
  now : UInt64
  til : UInt64
  firm : Bool
abbrev Cl.cs (c : Cl) : List AV := [.int .i64 c.what, sv c.client, i32 c.ip, i64u c.now, i64u c.til, .bool c.firm]
def Bk.step (B : Bk) (c : Cl) : Bk :=
  if c.what = 0 then (B.offer c.client c.ip c.now c.til).1
  else if c.what = 1 then (B.firm c.client c.ip c.now c.til).1
  else if c.what = 2 then (B.drop c.client c.firm).1
  else if c.what = 3 then (B.rest c.client c.ip c.now c.til).1
  else if c.what = 4 then B.sweep c.now
  else B
theorem do0 {h : Heap} {k kb kl kr r : Nat} {B : Bk} (ha : BAt h k kb kl kr B) (hr : h[r]? = some zObj) (hB : B.Ok) (hn : B.ln.length ≤ 1048576) (hs : B.rs.length ≤ 1048576) (c : Cl) (hc : c.client.length ≤ 1048576) :
    ∃ ok X J, hcall E 11 [.ref k 0 0, .ref r 0 0, .agg c.cs] h = some (.bool ok, ((h.set kl (lnO (B.step c).ln)).set kr (rsO (B.step c).rs)).set r X ++ J) := by
  obtain ⟨n1, n2, n3, n4, n5⟩ := ha.ne
  have m1 : kl ≠ r := neq_of ha.bl hr (by intro e; cases e)
  have m2 : kr ≠ r := neq_of ha.br hr (by intro e; cases e)
  have m3 : k ≠ r := neq_of ha.bk hr (by intro e; injection e with e1 e2 e3; cases e3)
  have hrr : ∀ o o', ((h.set kl o).set kr o')[r]? = some zObj := fun o o' => gset m2 (gset m1 hr o) o'
  have hrr1 : ∀ o X, (h.set kl o ++ X)[r]? = some zObj := fun o X => gapp (gset m1 hr o) X
  have hrr2 : ∀ o o' X, ((h.set kl o).set kr o' ++ X)[r]? = some zObj := fun o o' X => gapp (hrr o o') X
  have hset : ∀ o o' X Y, ((h.set kl o).set kr o' ++ X).set r Y = ((h.set kl o).set kr o').set r Y ++ X := fun o o' X Y => sapp (hrr o o') X Y
  have hkr : ∀ o, (h.set kl o).set kr (rsO B.rs) = h.set kl o := fun o => sself (gset n1 ha.br o)
  have hzz : ∀ o o' X, ∃ Y, (h.set kl o).set kr o' ++ X = ((h.set kl o).set kr o').set r Y ++ X := fun o o' X => ⟨zObj, by rw [sself (hrr o o')]⟩
  rw [hcall_go (fn := I11) rfl rfl rfl]
  unfold Bk.step
  by_cases w0 : c.what = 0
  · rw [if_pos w0]
    obtain ⟨J1, p1⟩ := m19 ha hB hn c.client hc c.ip c.now c.til
    obtain ⟨e, X, J2, p2⟩ := zm27 (hrr1 (lnO (B.offer c.client c.ip c.now c.til).1.ln) J1) c.client hc c.ip c.now c.til
    have hrs : (B.offer c.client c.ip c.now c.til).1.rs = B.rs := by
      unfold Bk.offer
      repeat' split
      all_goals rfl
    have hfin : (h.set kl (lnO (B.offer c.client c.ip c.now c.til).1.ln) ++ J1).set r X ++ J2 = ((h.set kl (lnO (B.offer c.client c.ip c.now c.til).1.ln)).set kr (rsO (B.offer c.client c.ip c.now c.til).1.rs)).set r X ++ (J1 ++ J2) := by
      rw [hrs, hkr, sapp (gset m1 hr _), List.append_assoc]
    by_cases hx : ((B.offer c.client c.ip c.now c.til).2.1.toNat : Int) = 0
    · simp (disch := first | omega | (simp only [List.length_cons, List.length_nil, List.length_append, List.length_map, List.length_set]; omega) | rfl | (simp only [List.length_cons, List.length_nil, List.length_append, List.length_map, List.length_set, List.length_replicate, List.all_cons, List.all_nil, List.all_append, storable, plainB, Bool.and_self]; done)) only [go_sem, reduceCtorEq, ↓reduceIte, reduceDIte, evI_callP, callPK_some, I11, w0, evI_callM, p1, p2, hx]
      exact ⟨_, X, J1 ++ J2, by rw [hfin]⟩
    · simp (disch := first | omega | (simp only [List.length_cons, List.length_nil, List.length_append, List.length_map, List.length_set]; omega) | rfl | (simp only [List.length_cons, List.length_nil, List.length_append, List.length_map, List.length_set, List.length_replicate, List.all_cons, List.all_nil, List.all_append, storable, plainB, Bool.and_self]; done)) only [go_sem, reduceCtorEq, ↓reduceIte, reduceDIte, evI_callP, callPK_some, I11, w0, evI_callM, p1, p2, hx]
      exact ⟨_, X, J1 ++ J2, by rw [hfin]⟩
  rw [if_neg w0]
  by_cases w1 : c.what = 1
  · rw [if_pos w1]
    obtain ⟨J1, p1⟩ := m20 ha hn c.client hc c.ip c.now c.til
    obtain ⟨J2, p2⟩ := zm28 (hrr1 (lnO (B.firm c.client c.ip c.now c.til).1.ln) J1) c.client c.ip c.now c.til
    have hrs : (B.firm c.client c.ip c.now c.til).1.rs = B.rs := by
      unfold Bk.firm
      repeat' split
      all_goals rfl
    have hfin : h.set kl (lnO (B.firm c.client c.ip c.now c.til).1.ln) ++ J1 ++ J2 = ((h.set kl (lnO (B.firm c.client c.ip c.now c.til).1.ln)).set kr (rsO (B.firm c.client c.ip c.now c.til).1.rs)).set r zObj ++ (J1 ++ J2) := by
      rw [hrs, hkr, sself (gset m1 hr _), List.append_assoc]
    simp (disch := first | omega | (simp only [List.length_cons, List.length_nil, List.length_append, List.length_map, List.length_set]; omega) | rfl | (simp only [List.length_cons, List.length_nil, List.length_append, List.length_map, List.length_set, List.length_replicate, List.all_cons, List.all_nil, List.all_append, storable, plainB, Bool.and_self]; done)) only [go_sem, reduceCtorEq, ↓reduceIte, reduceDIte, evI_callP, callPK_some, I11, w0, w1, evI_callM, p1, p2]
    exact ⟨_, zObj, J1 ++ J2, by rw [hfin]⟩
  rw [if_neg w1]
  by_cases w2 : c.what = 2
  · rw [if_pos w2]
    obtain ⟨J1, p1⟩ := m23 ha hn c.client hc c.firm
    have p2 := zm29 (hrr1 (lnO (B.drop c.client c.firm).1.ln) J1) c.client c.firm
    have hrs : (B.drop c.client c.firm).1.rs = B.rs := by
      unfold Bk.drop
      repeat' split
      all_goals rfl
    have hfin : h.set kl (lnO (B.drop c.client c.firm).1.ln) ++ J1 = ((h.set kl (lnO (B.drop c.client c.firm).1.ln)).set kr (rsO (B.drop c.client c.firm).1.rs)).set r zObj ++ J1 := by
      rw [hrs, hkr, sself (gset m1 hr _)]
    simp (disch := first | omega | (simp only [List.length_cons, List.length_nil, List.length_append, List.length_map, List.length_set]; omega) | rfl | (simp only [List.length_cons, List.length_nil, List.length_append, List.length_map, List.length_set, List.length_replicate, List.all_cons, List.all_nil, List.all_append, storable, plainB, Bool.and_self]; done)) only [go_sem, reduceCtorEq, ↓reduceIte, reduceDIte, evI_callP, callPK_some, I11, w0, w1, w2, evI_callM, p1, p2]
    exact ⟨_, zObj, J1, by rw [hfin]⟩
  rw [if_neg w2]
  by_cases w3 : c.what = 3
  · rw [if_pos w3]
    obtain ⟨J1, p1⟩ := m21 ha hn hs c.client hc c.ip c.now c.til
    obtain ⟨J2, p2⟩ := zm30 (hrr2 (lnO (B.rest c.client c.ip c.now c.til).1.ln) (rsO (B.rest c.client c.ip c.now c.til).1.rs) J1) c.client c.ip c.now c.til
    have hfin : (h.set kl (lnO (B.rest c.client c.ip c.now c.til).1.ln)).set kr (rsO (B.rest c.client c.ip c.now c.til).1.rs) ++ J1 ++ J2 = ((h.set kl (lnO (B.rest c.client c.ip c.now c.til).1.ln)).set kr (rsO (B.rest c.client c.ip c.now c.til).1.rs)).set r zObj ++ (J1 ++ J2) := by
      rw [sself (hrr _ _), List.append_assoc]
    simp (disch := first | omega | (simp only [List.length_cons, List.length_nil, List.length_append, List.length_map, List.length_set]; omega) | rfl | (simp only [List.length_cons, List.length_nil, List.length_append, List.length_map, List.length_set, List.length_replicate, List.all_cons, List.all_nil, List.all_append, storable, plainB, Bool.and_self]; done)) only [go_sem, reduceCtorEq, ↓reduceIte, reduceDIte, evI_callP, callPK_some, I11, w0, w1, w2, w3, evI_callM, p1, p2]
    exact ⟨_, zObj, J1 ++ J2, by rw [hfin]⟩
  rw [if_neg w3]
  by_cases w4 : c.what = 4
  · rw [if_pos w4]
    obtain ⟨J1, p1⟩ := m24 ha hn hs c.now
    obtain ⟨X, J2, p2⟩ := zm31 (hrr2 (lnO (B.sweep c.now).ln) (rsO (B.sweep c.now).rs) J1) c.now
    have hfin : ((h.set kl (lnO (B.sweep c.now).ln)).set kr (rsO (B.sweep c.now).rs) ++ J1).set r X ++ J2 = ((h.set kl (lnO (B.sweep c.now).ln)).set kr (rsO (B.sweep c.now).rs)).set r X ++ (J1 ++ J2) := by
      rw [hset, List.append_assoc]
    simp (disch := first | omega | (simp only [List.length_cons, List.length_nil, List.length_append, List.length_map, List.length_set]; omega) | rfl | (simp only [List.length_cons, List.length_nil, List.length_append, List.length_map, List.length_set, List.length_replicate, List.all_cons, List.all_nil, List.all_append, storable, plainB, Bool.and_self]; done)) only [go_sem, reduceCtorEq, ↓reduceIte, reduceDIte, evI_callP, callPK_some, I11, w0, w1, w2, w3, w4, evI_callM, p1, p2]
    exact ⟨_, X, J1 ++ J2, by rw [hfin]⟩
  rw [if_neg w4, sself ha.bl, sself ha.br]
  by_cases w5 : c.what = 5
  · have q1 := fun g => s18 g B c.client hc c.now
    have q2 := fun g => z32 g c.client c.now
    have g1 := gapp ha.bk
    have g2 := gapp ha.bb
    have g3 := gapp ha.bl
    have g4 := gapp ha.br
    have g5 := gapp hr
    have e1 := ha.bk
    have e2 := ha.bb
    have e3 := ha.bl
    have e4 := ha.br
    have t1 := gtop h
    have t2 := stop h
    have t5 : ∀ a b X, (h ++ a :: b :: X)[h.length + 1]? = some b := fun a b X => by
      rw [List.getElem?_append_right (by omega), show h.length + 1 - h.length = 1 by omega]
      rfl
    have t6 : ∀ a b d X, (h ++ a :: b :: X).set (h.length + 1) d = h ++ a :: d :: X := fun a b d X => by
      rw [List.set_append_right _ _ (by omega), show h.length + 1 - h.length = 1 by omega]
      rfl
    have z1 : (zLn.ip.toNat : Int) = 0 := rfl
    have z2 : zLn.firm = false := rfl
    have z3 : (zLn.til.toNat : Int) = 0 := rfl
    have z4 : (true == false) = false := rfl
    cases ho : B.of c.client c.now with
    | none =>
      simp (disch := first | omega | (simp only [List.length_cons, List.length_nil, List.length_append, List.length_map, List.length_set]; omega) | rfl | (simp only [List.length_cons, List.length_nil, List.length_append, List.length_map, List.length_set, List.length_replicate, List.all_cons, List.all_nil, List.all_append, storable, plainB, Bool.and_self]; done)) only [go_sem, reduceCtorEq, ↓reduceIte, reduceDIte, evI_callP, callPK_some, I11, w0, w1, w2, w3, w4, w5, q1, q2, ho, g1, g2, g3, g4, g5, e1, e2, e3, e4, hr, t1, t2, t5, t6, z1, z2, z3, z4, List.append_assoc]
      exact ⟨_, zObj, _, by rw [sself hr]⟩
    | some l =>
      simp (disch := first | omega | (simp only [List.length_cons, List.length_nil, List.length_append, List.length_map, List.length_set]; omega) | rfl | (simp only [List.length_cons, List.length_nil, List.length_append, List.length_map, List.length_set, List.length_replicate, List.all_cons, List.all_nil, List.all_append, storable, plainB, Bool.and_self]; done)) only [go_sem, reduceCtorEq, ↓reduceIte, reduceDIte, evI_callP, callPK_some, I11, w0, w1, w2, w3, w4, w5, q1, q2, ho, g1, g2, g3, g4, g5, e1, e2, e3, e4, hr, t1, t2, t5, t6, z1, z2, z3, z4, List.append_assoc]
      exact ⟨_, zObj, _, by rw [sself hr]⟩
  · simp (disch := first | omega | (simp only [List.length_cons, List.length_nil, List.length_append, List.length_map, List.length_set]; omega) | rfl | (simp only [List.length_cons, List.length_nil, List.length_append, List.length_map, List.length_set, List.length_replicate, List.all_cons, List.all_nil, List.all_append, storable, plainB, Bool.and_self]; done)) only [go_sem, reduceCtorEq, ↓reduceIte, reduceDIte, evI_callP, callPK_some, I11, w0, w1, w2, w3, w4, w5]
    exact ⟨_, zObj, [], by rw [sself hr, List.append_nil]⟩
end Go.Fw.Wd
