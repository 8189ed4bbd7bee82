/-
  The book's writing functions: Offer, Firm, Drop, Rest, Sweep, New, Clone. Conditions: stated at each.
-/
import Derived.Test.YtefkoichicalfaaWdLbk
set_option linter.unusedVariables false
set_option linter.unusedSimpArgs false
namespace Go.Fw.Wd
open Go.Proofs Code_

abbrev Bk.obj (kb kl kr : Nat) (B : Bk) : AObj := .cells true [w32 B.fst, w32 B.lst, .mp kb, .mp kl, .mp kr] 90
abbrev lnO (l : Lns) : AObj := .map .str (encL l)
abbrev rsO (l : Rss) : AObj := .map (.int .u32) (encR l)
abbrev brO (l : List UInt32) : AObj := .map (.int .u32) (encB l)
/-- Where a book lies. -/
structure BAt (h : Heap) (k kb kl kr : Nat) (B : Bk) : Prop where
  bk : h[k]? = some (B.obj kb kl kr)
  bb : h[kb]? = some (brO B.bar)
  bl : h[kl]? = some (lnO B.ln)
  br : h[kr]? = some (rsO B.rs)
theorem gapp {h : Heap} {k : Nat} {o : AObj} (hk : h[k]? = some o) (X : Heap) : (h ++ X)[k]? = some o := by
  rw [List.getElem?_append_left (List.getElem?_eq_some_iff.1 hk).1]
  exact hk
theorem sapp {h : Heap} {k : Nat} {o : AObj} (hk : h[k]? = some o) (X : Heap) (o' : AObj) : (h ++ X).set k o' = h.set k o' ++ X := List.set_append_left _ _ (List.getElem?_eq_some_iff.1 hk).1
theorem gtop (h : Heap) (c : AObj) (X : Heap) : (h ++ c :: X)[h.length]? = some c := by
  rw [List.getElem?_append_right (Nat.le_refl _), Nat.sub_self]
  rfl
theorem stop (h : Heap) (c d : AObj) (X : Heap) : (h ++ c :: X).set h.length d = h ++ d :: X := by
  rw [List.set_append_right _ _ (Nat.le_refl _), Nat.sub_self]
  rfl
theorem sself {h : Heap} {k : Nat} {o : AObj} (hk : h[k]? = some o) : h.set k o = h := by
  obtain ⟨h1, h2⟩ := List.getElem?_eq_some_iff.1 hk
  rw [← h2]
  exact List.set_getElem_self h1

theorem strne {c : List UInt8} (h : ¬ c = []) : (ByteArray.toList ⟨c.toArray⟩ == ByteArray.toList ⟨#[]⟩) = false := (str_beq c []).trans (decide_eq_false h)
theorem ttop {h : Heap} (kl : Nat) (o c : AObj) (X : Heap) : (h.set kl o ++ c :: X)[h.length]? = some c := by
  have := gtop (h.set kl o) c X
  rwa [List.length_set] at this
def Bk.put (B : Bk) (c : List UInt8) (l : Ln) : Bk := { B with ln := aput bytesBefore c l B.ln }
/-- What Offer does, and says. -/
def Bk.offer (B : Bk) (c : List UInt8) (wish : UInt32) (now til : UInt64) : Bk × UInt32 × Int :=
  if c = [] ∨ 255 < c.length then (B, 0, 10)
  else match B.of c now with
  | some l => if l.firm = true then (B, l.ip, 0) else (B.put c { l with til := bU til }, l.ip, 0)
  | none => match B.find wish now with
    | some ip => (B.put c ⟨ip, false, bU til⟩, ip, 0)
    | none => (B, 0, 18)
theorem m56 {h : Heap} {k kb kl kr : Nat} {B : Bk} (ha : BAt h k kb kl kr B) (hB : B.Ok) (hn : B.ln.length ≤ 1048576) (c : List UInt8) (hc : c.length ≤ 1048576) (wish : UInt32) (now til : UInt64) :
    ∃ J, hcall E 56 [.ref k 0 0, sv c, w32 wish, i64u now, i64u til] h = some (.tup [w32 (B.offer c wish now til).2.1, .int .i64 (B.offer c wish now til).2.2], h.set kl (lnO (B.offer c wish now til).1.ln) ++ J) := by
  have q18 := fun g => s16 g B c hc now
  have q38 := fun g => s73 g B hB wish now
  have q35 := fun n => s40 n
  have g1 := gapp ha.bk
  have g2 := gapp ha.bb
  have g3 := gapp ha.bl
  have g4 := gapp ha.br
  have e1 := ha.bk
  have e2 := ha.bb
  have e3 := ha.bl
  have e4 := ha.br
  have t1 := gtop h
  have t2 := stop h
  have t3 := sapp ha.bl
  have t4 := fun o c X => ttop (h := h) kl o c X
  have hz : zLn.av = .agg [.int .u32 0, .bool false, .int .u64 0] := rfl
  have hl : c.length ≤ maxLen := by unfold maxLen; omega
  have hm := fun (ip : UInt32) (f : Bool) (t : UInt64) => mput_L c ⟨ip, f, t⟩ B.ln
  simp only [eLn] at hm
  have hn' : (encL B.ln).length ≤ 1048576 := by rw [len_encL]; exact hn
  rw [hcall_go (fn := I56) rfl rfl rfl]
  by_cases hc0 : c = []
  · subst hc0
    simp (disch := first | omega | (simp only [List.length_cons, List.length_nil, List.length_append, List.length_map, List.length_set]; omega) | rfl | (simp only [List.length_cons, List.length_nil, List.length_append, List.length_map, List.length_set, List.length_replicate, List.all_cons, List.all_nil, List.all_append, storable, plainB, Bool.and_self]; done)) only [go_sem, reduceCtorEq, ↓reduceIte, reduceDIte, evI_callP, callPK_some, I56, q18, q38, q35, g1, g2, g3, g4, e1, e2, e3, e4, t1, t2, t3, t4, hz, hl, hm, Bk.offer]
    exact ⟨[], by rw [sself ha.bl, List.append_nil]; rfl⟩
  · have hcs : (ByteArray.toList ⟨c.toArray⟩ == ByteArray.toList ⟨#[]⟩) = false := strne hc0
    have hcz : (⟨c.toArray⟩ : ByteArray).size = c.length := rfl
    by_cases hc1 : 255 < c.length
    · have hc2 : (255 : Int) < (c.length : Int) := by omega
      simp (disch := first | omega | (simp only [List.length_cons, List.length_nil, List.length_append, List.length_map, List.length_set]; omega) | rfl | (simp only [List.length_cons, List.length_nil, List.length_append, List.length_map, List.length_set, List.length_replicate, List.all_cons, List.all_nil, List.all_append, storable, plainB, Bool.and_self]; done)) only [go_sem, reduceCtorEq, ↓reduceIte, reduceDIte, evI_callP, callPK_some, I56, q18, q38, q35, g1, g2, g3, g4, e1, e2, e3, e4, t1, t2, t3, t4, hz, hl, hm, Bk.offer, hcs, hc1, hc2, hcz]
      exact ⟨[], by rw [sself ha.bl, List.append_nil]; rfl⟩
    · have hc2 : ¬ (255 : Int) < (c.length : Int) := by omega
      unfold Bk.offer
      rw [if_neg (by simp only [hc0, hc1, or_self, not_false_eq_true])]
      cases ho : B.of c now with
      | some l =>
        by_cases hf : l.firm = true
        · simp (disch := first | omega | (simp only [List.length_cons, List.length_nil, List.length_append, List.length_map, List.length_set]; omega) | rfl | (simp only [List.length_cons, List.length_nil, List.length_append, List.length_map, List.length_set, List.length_replicate, List.all_cons, List.all_nil, List.all_append, storable, plainB, Bool.and_self]; done)) only [go_sem, reduceCtorEq, ↓reduceIte, reduceDIte, evI_callP, callPK_some, I56, q18, q38, q35, g1, g2, g3, g4, e1, e2, e3, e4, t1, t2, t3, t4, hz, hl, hm, hcs, hc1, hc2, hcz, ho, hf]
          exact ⟨_, by rw [sself ha.bl]⟩
        · simp (disch := first | omega | (simp only [List.length_cons, List.length_nil, List.length_append, List.length_map, List.length_set]; omega) | rfl | (simp only [List.length_cons, List.length_nil, List.length_append, List.length_map, List.length_set, List.length_replicate, List.all_cons, List.all_nil, List.all_append, storable, plainB, Bool.and_self]; done)) only [go_sem, reduceCtorEq, ↓reduceIte, reduceDIte, evI_callP, callPK_some, I56, q18, q38, q35, g1, g2, g3, g4, e1, e2, e3, e4, t1, t2, t3, t4, hz, hl, hm, hcs, hc1, hc2, hcz, ho, hf, hn']
          exact ⟨_, rfl⟩
      | none =>
        cases hfi : B.find wish now with
        | some ip =>
          simp (disch := first | omega | (simp only [List.length_cons, List.length_nil, List.length_append, List.length_map, List.length_set]; omega) | rfl | (simp only [List.length_cons, List.length_nil, List.length_append, List.length_map, List.length_set, List.length_replicate, List.all_cons, List.all_nil, List.all_append, storable, plainB, Bool.and_self]; done)) only [go_sem, reduceCtorEq, ↓reduceIte, reduceDIte, evI_callP, callPK_some, I56, q18, q38, q35, g1, g2, g3, g4, e1, e2, e3, e4, t1, t2, t3, t4, hz, hl, hm, hcs, hc1, hc2, hcz, ho, hfi, hn']
          exact ⟨_, rfl⟩
        | none =>
          simp (disch := first | omega | (simp only [List.length_cons, List.length_nil, List.length_append, List.length_map, List.length_set]; omega) | rfl | (simp only [List.length_cons, List.length_nil, List.length_append, List.length_map, List.length_set, List.length_replicate, List.all_cons, List.all_nil, List.all_append, storable, plainB, Bool.and_self]; done)) only [go_sem, reduceCtorEq, ↓reduceIte, reduceDIte, evI_callP, callPK_some, I56, q18, q38, q35, g1, g2, g3, g4, e1, e2, e3, e4, t1, t2, t3, t4, hz, hl, hm, hcs, hc1, hc2, hcz, ho, hfi, hn']
          exact ⟨_, by rw [sself ha.bl]; rfl⟩
def Bk.firm (B : Bk) (c : List UInt8) (ip : UInt32) (now til : UInt64) : Bk × Int :=
  match B.of c now with
  | some l => if l.ip = ip then (B.put c ⟨ip, true, bU til⟩, 0) else (B, 17)
  | none => (B, 17)
theorem i32_eq (a b : UInt32) : ((a.toNat : Int) = (b.toNat : Int)) ↔ a = b := ⟨fun h => UInt32.toNat_inj.1 (by omega), fun h => by rw [h]⟩
theorem m75 {h : Heap} {k kb kl kr : Nat} {B : Bk} (ha : BAt h k kb kl kr B) (hn : B.ln.length ≤ 1048576) (c : List UInt8) (hc : c.length ≤ 1048576) (ip : UInt32) (now til : UInt64) :
    ∃ J, hcall E 75 [.ref k 0 0, sv c, w32 ip, i64u now, i64u til] h = some (.int .i64 (B.firm c ip now til).2, h.set kl (lnO (B.firm c ip now til).1.ln) ++ J) := by
  have q18 := fun g => s16 g B c hc now
  have q35 := fun n => s40 n
  have g1 := gapp ha.bk
  have g2 := gapp ha.bb
  have g3 := gapp ha.bl
  have g4 := gapp ha.br
  have e1 := ha.bk
  have e2 := ha.bb
  have e3 := ha.bl
  have e4 := ha.br
  have t1 := gtop h
  have t2 := stop h
  have t3 := sapp ha.bl
  have t4 := fun o c X => ttop (h := h) kl o c X
  have hz : zLn.av = .agg [.int .u32 0, .bool false, .int .u64 0] := rfl
  have hl : c.length ≤ maxLen := by unfold maxLen; omega
  have hm := fun (ip : UInt32) (f : Bool) (t : UInt64) => mput_L c ⟨ip, f, t⟩ B.ln
  simp only [eLn] at hm
  have hn' : (encL B.ln).length ≤ 1048576 := by rw [len_encL]; exact hn
  rw [hcall_go (fn := I75) rfl rfl rfl]
  unfold Bk.firm
  cases ho : B.of c now with
  | some l =>
    have hi := i32_eq l.ip ip
    by_cases hf : l.ip = ip
    · simp (disch := first | omega | (simp only [List.length_cons, List.length_nil, List.length_append, List.length_map, List.length_set]; omega) | rfl | (simp only [List.length_cons, List.length_nil, List.length_append, List.length_map, List.length_set, List.length_replicate, List.all_cons, List.all_nil, List.all_append, storable, plainB, Bool.and_self]; done)) only [go_sem, reduceCtorEq, ↓reduceIte, reduceDIte, evI_callP, callPK_some, I75, q18, q35, g1, g2, g3, g4, e1, e2, e3, e4, t1, t2, t3, t4, hz, hl, hm, hn', ho, hi, hf]
      exact ⟨_, rfl⟩
    · simp (disch := first | omega | (simp only [List.length_cons, List.length_nil, List.length_append, List.length_map, List.length_set]; omega) | rfl | (simp only [List.length_cons, List.length_nil, List.length_append, List.length_map, List.length_set, List.length_replicate, List.all_cons, List.all_nil, List.all_append, storable, plainB, Bool.and_self]; done)) only [go_sem, reduceCtorEq, ↓reduceIte, reduceDIte, evI_callP, callPK_some, I75, q18, q35, g1, g2, g3, g4, e1, e2, e3, e4, t1, t2, t3, t4, hz, hl, hm, hn', ho, hi, hf]
      exact ⟨_, by rw [sself ha.bl]⟩
  | none =>
    simp (disch := first | omega | (simp only [List.length_cons, List.length_nil, List.length_append, List.length_map, List.length_set]; omega) | rfl | (simp only [List.length_cons, List.length_nil, List.length_append, List.length_map, List.length_set, List.length_replicate, List.all_cons, List.all_nil, List.all_append, storable, plainB, Bool.and_self]; done)) only [go_sem, reduceCtorEq, ↓reduceIte, reduceDIte, evI_callP, callPK_some, I75, q18, q35, g1, g2, g3, g4, e1, e2, e3, e4, t1, t2, t3, t4, hz, hl, hm, hn', ho]
    exact ⟨_, by rw [sself ha.bl]⟩
def Bk.cut (B : Bk) (c : List UInt8) : Bk := { B with ln := adel c B.ln }
def Bk.drop (B : Bk) (c : List UInt8) (firm : Bool) : Bk × Bool :=
  match aget c B.ln with
  | some l => if l.firm = firm then (B.cut c, true) else (B, false)
  | none => (B, false)
theorem m60 {h : Heap} {k kb kl kr : Nat} {B : Bk} (ha : BAt h k kb kl kr B) (hn : B.ln.length ≤ 1048576) (c : List UInt8) (hc : c.length ≤ 1048576) (firm : Bool) :
    ∃ J, hcall E 60 [.ref k 0 0, sv c, .bool firm] h = some (.bool (B.drop c firm).2, h.set kl (lnO (B.drop c firm).1.ln) ++ J) := by
  have q18 := mget_L c B.ln
  have q19 := mdel_L c B.ln
  have q35 := fun n => s40 n
  have g1 := gapp ha.bk
  have g2 := gapp ha.bb
  have g3 := gapp ha.bl
  have g4 := gapp ha.br
  have e1 := ha.bk
  have e2 := ha.bb
  have e3 := ha.bl
  have e4 := ha.br
  have t1 := gtop h
  have t2 := stop h
  have t3 := sapp ha.bl
  have t4 := fun o c X => ttop (h := h) kl o c X
  have hz : zLn.av = .agg [.int .u32 0, .bool false, .int .u64 0] := rfl
  have hl : c.length ≤ maxLen := by unfold maxLen; omega
  have hm := fun (ip : UInt32) (f : Bool) (t : UInt64) => mput_L c ⟨ip, f, t⟩ B.ln
  simp only [eLn] at hm
  have hn' : (encL B.ln).length ≤ 1048576 := by rw [len_encL]; exact hn
  rw [hcall_go (fn := I60) rfl rfl rfl]
  unfold Bk.drop
  cases ho : aget c B.ln with
  | some l =>
    rw [ho] at q18
    by_cases hf : l.firm = firm
    · simp (disch := first | omega | (simp only [List.length_cons, List.length_nil, List.length_append, List.length_map, List.length_set]; omega) | rfl | (simp only [List.length_cons, List.length_nil, List.length_append, List.length_map, List.length_set, List.length_replicate, List.all_cons, List.all_nil, List.all_append, storable, plainB, Bool.and_self]; done)) only [go_sem, reduceCtorEq, ↓reduceIte, reduceDIte, evI_callP, callPK_some, I60, q18, q35, g1, g2, g3, g4, e1, e2, e3, e4, t1, t2, t3, t4, hz, hl, hm, hn', q19, eLn, hf]
      exact ⟨_, rfl⟩
    · have hf' : (l.firm == firm) = false := by simpa using hf
      simp (disch := first | omega | (simp only [List.length_cons, List.length_nil, List.length_append, List.length_map, List.length_set]; omega) | rfl | (simp only [List.length_cons, List.length_nil, List.length_append, List.length_map, List.length_set, List.length_replicate, List.all_cons, List.all_nil, List.all_append, storable, plainB, Bool.and_self]; done)) only [go_sem, reduceCtorEq, ↓reduceIte, reduceDIte, evI_callP, callPK_some, I60, q18, q35, g1, g2, g3, g4, e1, e2, e3, e4, t1, t2, t3, t4, hz, hl, hm, hn', q19, eLn, hf, hf']
      exact ⟨_, by rw [sself ha.bl]⟩
  | none =>
    rw [ho] at q18
    simp (disch := first | omega | (simp only [List.length_cons, List.length_nil, List.length_append, List.length_map, List.length_set]; omega) | rfl | (simp only [List.length_cons, List.length_nil, List.length_append, List.length_map, List.length_set, List.length_replicate, List.all_cons, List.all_nil, List.all_append, storable, plainB, Bool.and_self]; done)) only [go_sem, reduceCtorEq, ↓reduceIte, reduceDIte, evI_callP, callPK_some, I60, q18, q35, g1, g2, g3, g4, e1, e2, e3, e4, t1, t2, t3, t4, hz, hl, hm, hn', q19, eLn]
    exact ⟨_, by rw [sself ha.bl]⟩
theorem neq_of {h : Heap} {i j : Nat} {a b : AObj} (hi : h[i]? = some a) (hj : h[j]? = some b) (hab : a ≠ b) : i ≠ j := fun e => by
  rw [e, hj] at hi
  injection hi with hi
  exact hab hi.symm
theorem gset {h : Heap} {i j : Nat} {b : AObj} (hij : i ≠ j) (hj : h[j]? = some b) (o : AObj) : (h.set i o)[j]? = some b := by
  rw [List.getElem?_set_ne hij]
  exact hj
theorem tset {h : Heap} {i j : Nat} {b : AObj} (hij : i ≠ j) (hj : h[j]? = some b) (o : AObj) (X : Heap) : (h.set i o ++ X)[j]? = some b := gapp (gset hij hj o) X
theorem BAt.ne {h : Heap} {k kb kl kr : Nat} {B : Bk} (ha : BAt h k kb kl kr B) : kl ≠ kr ∧ kl ≠ k ∧ kr ≠ k ∧ kl ≠ kb ∧ kb ≠ k :=
  ⟨neq_of ha.bl ha.br (by intro e; injection e with e; cases e), neq_of ha.bl ha.bk (by intro e; cases e), neq_of ha.br ha.bk (by intro e; cases e), neq_of ha.bl ha.bb (by intro e; injection e with e; cases e), neq_of ha.bb ha.bk (by intro e; cases e)⟩
def Bk.rest (B : Bk) (c : List UInt8) (ip : UInt32) (now til : UInt64) : Bk × Int :=
  match B.of c now with
  | some l => if l.ip = ip then ({ B.cut c with rs := aput ltB ip (bU til) B.rs }, 0) else (B, 17)
  | none => (B, 17)
theorem m62 {h : Heap} {k kb kl kr : Nat} {B : Bk} (ha : BAt h k kb kl kr B) (hn : B.ln.length ≤ 1048576) (hr : B.rs.length ≤ 1048576) (c : List UInt8) (hc : c.length ≤ 1048576) (ip : UInt32) (now til : UInt64) :
    ∃ J, hcall E 62 [.ref k 0 0, sv c, w32 ip, i64u now, i64u til] h = some (.int .i64 (B.rest c ip now til).2, (h.set kl (lnO (B.rest c ip now til).1.ln)).set kr (rsO (B.rest c ip now til).1.rs) ++ J) := by
  have q18 := fun g => s16 g B c hc now
  have q35 := fun n => s40 n
  have g1 := gapp ha.bk
  have g2 := gapp ha.bb
  have g3 := gapp ha.bl
  have g4 := gapp ha.br
  have e1 := ha.bk
  have e2 := ha.bb
  have e3 := ha.bl
  have e4 := ha.br
  have t1 := gtop h
  have t2 := stop h
  have t3 := sapp ha.bl
  have t4 := fun o c X => ttop (h := h) kl o c X
  have hz : zLn.av = .agg [.int .u32 0, .bool false, .int .u64 0] := rfl
  have hl : c.length ≤ maxLen := by unfold maxLen; omega
  have hm := fun (ip : UInt32) (f : Bool) (t : UInt64) => mput_L c ⟨ip, f, t⟩ B.ln
  simp only [eLn] at hm
  have hn' : (encL B.ln).length ≤ 1048576 := by rw [len_encL]; exact hn
  have q19 := mdel_L c B.ln
  have q20 := mput_R ip (bU til) B.rs
  obtain ⟨n1, n2, n3, n4, n5⟩ := ha.ne
  have t5 := fun o => tset n2 ha.bk o
  have t6 := fun o => tset n1 ha.br o
  have t7 := fun o X o' => sapp (gset n1 ha.br o) X o'
  have hr' : (encR B.rs).length ≤ 1048576 := by rw [len_encR]; exact hr
  have hw := wf32 ip
  have hself : (h.set kl (lnO B.ln)).set kr (rsO B.rs) = h := by rw [sself ha.bl, sself ha.br]
  rw [hcall_go (fn := I62) rfl rfl rfl]
  unfold Bk.rest
  cases ho : B.of c now with
  | some l =>
    have hi := i32_eq l.ip ip
    by_cases hf : l.ip = ip
    · simp (disch := first | omega | (simp only [List.length_cons, List.length_nil, List.length_append, List.length_map, List.length_set]; omega) | rfl | (simp only [List.length_cons, List.length_nil, List.length_append, List.length_map, List.length_set, List.length_replicate, List.all_cons, List.all_nil, List.all_append, storable, plainB, Bool.and_self]; done)) only [go_sem, reduceCtorEq, ↓reduceIte, reduceDIte, evI_callP, callPK_some, I62, q18, q35, g1, g2, g3, g4, e1, e2, e3, e4, t1, t2, t3, t4, hz, hl, hm, hn', ho, hi, hf, q19, q20, t5, t6, t7, hr', hw]
      exact ⟨_, rfl⟩
    · simp (disch := first | omega | (simp only [List.length_cons, List.length_nil, List.length_append, List.length_map, List.length_set]; omega) | rfl | (simp only [List.length_cons, List.length_nil, List.length_append, List.length_map, List.length_set, List.length_replicate, List.all_cons, List.all_nil, List.all_append, storable, plainB, Bool.and_self]; done)) only [go_sem, reduceCtorEq, ↓reduceIte, reduceDIte, evI_callP, callPK_some, I62, q18, q35, g1, g2, g3, g4, e1, e2, e3, e4, t1, t2, t3, t4, hz, hl, hm, hn', ho, hi, hf]
      exact ⟨_, by rw [hself]⟩
  | none =>
    simp (disch := first | omega | (simp only [List.length_cons, List.length_nil, List.length_append, List.length_map, List.length_set]; omega) | rfl | (simp only [List.length_cons, List.length_nil, List.length_append, List.length_map, List.length_set, List.length_replicate, List.all_cons, List.all_nil, List.all_append, storable, plainB, Bool.and_self]; done)) only [go_sem, reduceCtorEq, ↓reduceIte, reduceDIte, evI_callP, callPK_some, I62, q18, q35, g1, g2, g3, g4, e1, e2, e3, e4, t1, t2, t3, t4, hz, hl, hm, hn', ho]
    exact ⟨_, by rw [hself]⟩
def Bk.sweep (B : Bk) (now : UInt64) : Bk := { B with ln := B.ln.filter fun p => !decide (p.2.til.toNat ≤ (bU now).toNat), rs := B.rs.filter fun p => !decide (p.2.toNat ≤ (bU now).toNat) }
theorem filt_L (t : UInt64) (l : Lns) : (encL l).filter (fun p => !overL (t.toNat : Int) p) = encL (l.filter fun p => !decide (p.2.til.toNat ≤ t.toNat)) := by
  unfold encL
  rw [List.filter_map]
  congr 1
  refine List.filter_congr fun p _ => ?_
  simp only [Function.comp, overL, eLn_some, Int.ofNat_le]
theorem filt_R (t : UInt64) (l : Rss) : (encR l).filter (fun p => !overR (t.toNat : Int) p) = encR (l.filter fun p => !decide (p.2.toNat ≤ t.toNat)) := by
  unfold encR
  rw [List.filter_map]
  congr 1
  refine List.filter_congr fun p _ => ?_
  simp only [Function.comp, overR, untV, Int.ofNat_le]
theorem dp_L {h : Heap} {l ln : Nat} {L : Lns} {t : UInt64} (h1 : h[l]? = some (lnO L)) (h2 : h[ln]? = some (.cells false [i64u t] 30)) : hcall E 41 [.mp l, .fn 42 [.ref ln 0 0]] h = some (.tup [], h.set l (lnO (L.filter fun p => !decide (p.2.til.toNat ≤ t.toNat)))) := by
  rw [hcall_prim (p := delP 42 .str (fun p => (lnV p.2).isSome) overL) rfl rfl]
  have h3 : ((encL L).all fun p => (lnV p.2).isSome) = true := by
    unfold encL
    rw [List.all_map, List.all_eq_true]
    intro p _
    rfl
  simp only [delP, h1, h2, delQ, h3, and_self, if_true, filt_L]
theorem dp_R {h : Heap} {l ln : Nat} {L : Rss} {t : UInt64} (h1 : h[l]? = some (rsO L)) (h2 : h[ln]? = some (.cells false [i64u t] 30)) : hcall E 43 [.mp l, .fn 44 [.ref ln 0 0]] h = some (.tup [], h.set l (rsO (L.filter fun p => !decide (p.2.toNat ≤ t.toNat)))) := by
  rw [hcall_prim (p := delP 44 (.int .u32) (fun p => (untV p.2).isSome) overR) rfl rfl]
  have h3 : ((encR L).all fun p => (untV p.2).isSome) = true := by
    unfold encR
    rw [List.all_map, List.all_eq_true]
    intro p _
    rfl
  simp only [delP, h1, h2, delQ, h3, and_self, if_true, filt_R]
theorem m19 {h : Heap} {k kb kl kr : Nat} {B : Bk} (ha : BAt h k kb kl kr B) (hn : B.ln.length ≤ 1048576) (hr : B.rs.length ≤ 1048576) (now : UInt64) :
    ∃ J, hcall E 19 [.ref k 0 0, i64u now] h = some (.int .i64 (((B.ln.length + B.rs.length : Nat) : Int) - ((B.sweep now).ln.length + (B.sweep now).rs.length : Nat)), (h.set kl (lnO (B.sweep now).ln)).set kr (rsO (B.sweep now).rs) ++ J) := by
  have q35 := fun n => s40 n
  have g1 := gapp ha.bk
  have g3 := gapp ha.bl
  have g4 := gapp ha.br
  have t1 := gtop h
  have t2 := stop h
  have t3 := sapp ha.bl
  have t4 := fun o c X => ttop (h := h) kl o c X
  obtain ⟨n1, n2, n3, n4, n5⟩ := ha.ne
  have t5 := fun o => tset n2 ha.bk o
  have t6 := fun o => tset n1 ha.br o
  have t7 := fun o X o' => sapp (gset n1 ha.br o) X o'
  have c1 : (B.sweep now).ln.length ≤ B.ln.length := List.length_filter_le _ _
  have c2 : (B.sweep now).rs.length ≤ B.rs.length := List.length_filter_le _ _
  have hB1 : (B.sweep now).ln = B.ln.filter fun p => !decide (p.2.til.toNat ≤ (bU now).toNat) := rfl
  have hB2 : (B.sweep now).rs = B.rs.filter fun p => !decide (p.2.toNat ≤ (bU now).toNat) := rfl
  obtain ⟨ln', hln⟩ : ∃ x, (B.sweep now).ln = x := ⟨_, rfl⟩
  obtain ⟨rs', hrs⟩ : ∃ x, (B.sweep now).rs = x := ⟨_, rfl⟩
  rw [hln] at c1 hB1 ⊢
  rw [hrs] at c2 hB2 ⊢
  have d1 := dp_L (h := h ++ [.cells false [i64u (bU now)] 30]) (l := kl) (ln := h.length) (L := B.ln) (t := bU now) (g3 _) (t1 _ _)
  have d2 := dp_R (h := h.set kl (lnO ln') ++ [.cells false [i64u (bU now)] 30]) (l := kr) (ln := h.length) (L := B.rs) (t := bU now) (t6 _ _) (t4 _ _ _)
  rw [← hB1, t3] at d1
  rw [← hB2, t7] at d2
  have w1 : IntKind.i64.wrap ((B.ln.length : Int) + B.rs.length) = (B.ln.length : Int) + B.rs.length := w64 (by omega) (by omega)
  have w2 : IntKind.i64.wrap ((B.ln.length : Int) + B.rs.length - ln'.length) = (B.ln.length : Int) + B.rs.length - ln'.length := w64 (by omega) (by omega)
  have w3 : IntKind.i64.wrap ((B.ln.length : Int) + B.rs.length - ln'.length - rs'.length) = (B.ln.length : Int) + B.rs.length - ln'.length - rs'.length := w64 (by omega) (by omega)
  have t8 : ∀ X, ((h.set kl (lnO ln')).set kr (rsO rs') ++ X)[k]? = some (B.obj kb kl kr) := gapp (gset n3 (gset n2 ha.bk _) _)
  have t9 : ∀ X, ((h.set kl (lnO ln')).set kr (rsO rs') ++ X)[kl]? = some (lnO ln') := gapp (gset (Ne.symm n1) (by rw [List.getElem?_set_self (List.getElem?_eq_some_iff.1 ha.bl).1]) _)
  have t10 : ∀ X, ((h.set kl (lnO ln')).set kr (rsO rs') ++ X)[kr]? = some (rsO rs') := gapp (by rw [List.getElem?_set_self (by rw [List.length_set]; exact (List.getElem?_eq_some_iff.1 ha.br).1)])
  rw [hcall_go (fn := I19) rfl rfl rfl]
  simp (disch := first | omega | (simp only [List.length_cons, List.length_nil, List.length_append, List.length_map, List.length_set]; omega) | rfl | (simp only [List.length_cons, List.length_nil, List.length_append, List.length_map, List.length_set, List.length_replicate, List.all_cons, List.all_nil, List.all_append, storable, plainB, Bool.and_self]; done)) only [go_sem, reduceCtorEq, ↓reduceIte, reduceDIte, evI_callP, callPK_some, I19, q35, g1, g3, g4, t1, t2, t3, t4, t5, t6, t7, t8, t9, t10, evI_callM, d1, d2, len_encL, len_encR, w1, w2, w3]
  have e : (B.ln.length : Int) + B.rs.length - ln'.length - rs'.length = (B.ln.length : Int) + B.rs.length - (ln'.length + rs'.length) := by omega
  rw [e]
  exact ⟨_, rfl⟩
def bars (s : List UInt32) (l : List UInt32) : List UInt32 := l.foldl (fun s a => bput a s) s
theorem mem_bars (a : UInt32) : ∀ (l s : List UInt32), a ∈ bars s l ↔ a ∈ s ∨ a ∈ l
  | [], s => by simp [bars]
  | x :: l, s => by
    have ih := mem_bars a l (bput x s)
    unfold bars at ih ⊢
    rw [List.foldl_cons, ih, mem_bput]
    simp only [List.mem_cons]
    constructor
    · rintro ((h | h) | h)
      · exact .inr (.inl h)
      · exact .inl h
      · exact .inr (.inr h)
    · rintro (h | h | h)
      · exact .inl (.inr h)
      · exact .inl (.inl h)
      · exact .inr h
theorem len_bput (k : UInt32) (l : List UInt32) : (bput k l).length ≤ l.length + 1 := by
  unfold bput aput
  rw [List.length_map, len_ains]
  have := len_adel k (l.map fun a => (a, ()))
  rw [List.length_map] at this
  omega
abbrev w32s (l : List UInt32) : List AV := l.map fun a => w32 a
theorem len_i32s (l : List UInt32) : (w32s l).length = l.length := List.length_map _
theorem new_loop (g : Bool) (first last : UInt32) (l : List UInt32) (h : Heap) (hl : l.length ≤ 1000) : ∀ (n i : Nat) (S : List UInt32), i + n = l.length → S.length ≤ i →
    T32_0 E (lp E L32_0 [(8, .ref (h.length + 3) 0 0), (27, .rs g 1 (w32s l)), (28, .int .i64 (l.length : Int)), (29, .int .i64 (i : Int))] (h ++ [brO S, lnO [], rsO [], (⟨first, last, S, [], []⟩ : Bk).obj h.length (h.length + 1) (h.length + 2)])) =
      some (.tup [.ref (h.length + 3) 0 0, .int .i64 0], h ++ [brO (bars S (l.drop i)), lnO [], rsO [], (⟨first, last, S, [], []⟩ : Bk).obj h.length (h.length + 1) (h.length + 2)]) := by
  intro n
  induction n with
  | zero =>
    intro i S hi hS
    have hlt : ¬ ((i : Int) < (l.length : Int)) := by omega
    rw [L32_0_go]
    simp (disch := first | omega | (simp only [List.length_cons, List.length_nil, List.length_append, List.length_map, List.length_set]; omega) | rfl | (simp only [List.length_cons, List.length_nil, List.length_append, List.length_map, List.length_set, List.length_replicate, List.all_cons, List.all_nil, List.all_append, storable, plainB, Bool.and_self]; done)) only [go_sem, reduceCtorEq, ↓reduceIte, reduceDIte, evI_callP, callPK_some, B32_0, T32_0, hlt]
    rw [List.drop_of_length_le (by omega)]
    rfl
  | succ n ih =>
    intro i S hi hS
    have hlt : ((i : Int) < (l.length : Int)) := by omega
    have hw : IntKind.i64.wrap ((i : Int) + 1) = ((i + 1 : Nat) : Int) := by
      rw [w64 (by omega) (by omega)]
      omega
    have hg : (w32s l).getD i .undef = w32 (l.getD i 0) := by
      rw [List.getD_eq_getElem?_getD, List.getD_eq_getElem?_getD, List.getElem?_map, List.getElem?_eq_getElem (by omega)]
      rfl
    have hd : l.drop i = l.getD i 0 :: l.drop (i + 1) := by
      rw [List.drop_eq_getElem_cons (by omega), List.getD_eq_getElem?_getD, List.getElem?_eq_getElem (by omega)]
      rfl
    have hia : ∀ H : Heap, iaddrK H 1 (.rs g 1 (w32s l)) (.int .i64 (i : Int)) = some (.rp g (w32 (l.getD i 0)), H) := fun H => by
      rw [iaddrK_rs H 1 g _ _ _ (by omega) (by rw [len_i32s]; omega), Int.toNat_natCast, hg]
    have g0 := gtop h
    have g3 : ∀ o0 o1 o2 o3 : AObj, (h ++ [o0, o1, o2, o3])[h.length + 3]? = some o3 := fun o0 o1 o2 o3 => by
      rw [List.getElem?_append_right (by omega), show h.length + 3 - h.length = 3 by omega]
      rfl
    have g4 := stop h
    have hwf := wf32 (l.getD i 0)
    have hmp := mput_B (l.getD i 0) S
    have hS' : (encB S).length ≤ 1048576 := by rw [len_encB]; omega
    have ih := ih (i + 1) (bput (l.getD i 0) S) (by omega) (by have := len_bput (l.getD i 0) S; omega)
    rw [hd]
    show _ = some (_, h ++ [brO (bars (bput (l.getD i 0) S) (l.drop (i + 1))), _, _, _])
    rw [← ih, L32_0_go]
    simp (disch := first | omega | (simp only [List.length_cons, List.length_nil, List.length_append, List.length_map, List.length_set]; omega) | rfl | (simp only [List.length_cons, List.length_nil, List.length_append, List.length_map, List.length_set, List.length_replicate, List.all_cons, List.all_nil, List.all_append, storable, plainB, Bool.and_self]; done)) only [go_sem, reduceCtorEq, ↓reduceIte, reduceDIte, evI_callP, callPK_some, B32_0, T32_0, hlt, hw, hia, g0, g3, g4, hwf, hmp, hS', L32_0_lp]
theorem m32 (g : Bool) (first last : UInt32) (l : List UInt32) (h : Heap) (hl : l.length ≤ 1000) (hok : first.toNat ≤ last.toNat ∧ last.toNat - first.toNat < 256) :
    hcall E 32 [w32 first, w32 last, .rs g 1 (w32s l)] h = some (.tup [.ref (h.length + 3) 0 0, .int .i64 0], h ++ [brO (bars [] l), lnO [], rsO [], (⟨first, last, bars [] l, [], []⟩ : Bk).obj h.length (h.length + 1) (h.length + 2)]) := by
  obtain ⟨o1, o2⟩ := hok
  have h3 := last.toNat_lt
  have hw : IntKind.u32.wrap ((last.toNat : Int) - first.toNat) = (last.toNat : Int) - first.toNat := wu32 (by omega) (by omega)
  have c1 : ¬ ((last.toNat : Int) < (first.toNat : Int)) := by omega
  have c2 : ¬ ((256 : Int) ≤ (last.toNat : Int) - first.toNat) := by omega
  have i1 := new_loop g first last l h hl l.length 0 [] (by omega) (by simp)
  have hll := len_i32s l
  rw [hcall_go (fn := I32) rfl rfl rfl]
  simp (disch := first | omega | (simp only [List.length_cons, List.length_nil, List.length_append, List.length_map, List.length_set]; omega) | rfl | (simp only [List.length_cons, List.length_nil, List.length_append, List.length_map, List.length_set, List.length_replicate, List.all_cons, List.all_nil, List.all_append, storable, plainB, Bool.and_self]; done)) only [go_sem, reduceCtorEq, ↓reduceIte, reduceDIte, evI_callP, callPK_some, I32, hw, c1, c2, hll, L32_0_lp, List.append_assoc]
  exact i1
theorem me32 (v : AV) (first last : UInt32) (h : Heap) (hok : ¬ (first.toNat ≤ last.toNat ∧ last.toNat - first.toNat < 256)) :
    hcall E 32 [w32 first, w32 last, v] h = some (.tup [.nilp, .int .i64 11], h) := by
  have h3 := last.toNat_lt
  rw [hcall_go (fn := I32) rfl rfl rfl]
  by_cases c1 : (last.toNat : Int) < (first.toNat : Int)
  · simp (disch := first | omega | (simp only [List.length_cons, List.length_nil, List.length_append, List.length_map, List.length_set]; omega) | rfl | (simp only [List.length_cons, List.length_nil, List.length_append, List.length_map, List.length_set, List.length_replicate, List.all_cons, List.all_nil, List.all_append, storable, plainB, Bool.and_self]; done)) only [go_sem, reduceCtorEq, ↓reduceIte, reduceDIte, evI_callP, callPK_some, I32, c1]
  · have hw : IntKind.u32.wrap ((last.toNat : Int) - first.toNat) = (last.toNat : Int) - first.toNat := wu32 (by omega) (by omega)
    have c2 : ((256 : Int) ≤ (last.toNat : Int) - first.toNat) := by omega
    simp (disch := first | omega | (simp only [List.length_cons, List.length_nil, List.length_append, List.length_map, List.length_set]; omega) | rfl | (simp only [List.length_cons, List.length_nil, List.length_append, List.length_map, List.length_set, List.length_replicate, List.all_cons, List.all_nil, List.all_append, storable, plainB, Bool.and_self]; done)) only [go_sem, reduceCtorEq, ↓reduceIte, reduceDIte, evI_callP, callPK_some, I32, c1, hw, c2]
/-- A clone: its loans and rests are only read. -/
theorem tupG_rm (kk : Kk) (es : Ents) : tupG (.rm false kk es) = true := (rfl)
abbrev Bk.cobj (kb : Nat) (B : Bk) : AObj := .cells true [w32 B.fst, w32 B.lst, .mp kb, .rm false .str (encL B.ln), .rm false (.int .u32) (encR B.rs)] 90
theorem m20 {h : Heap} {k kb kl kr : Nat} {B : Bk} (ha : BAt h k kb kl kr B) :
    hcall E 20 [.ref k 0 0] h = some (.ref h.length 0 0, h ++ [B.cobj kb]) := by
  have e1 := ha.bk
  have e3 := ha.bl
  have e4 := ha.br
  have q1 : ∀ (g : Bool) (kk : Kk) (es : Ents), pcall E 45 [.rm g kk es] = some (.rm false kk es, []) := fun g kk es => pcall_prim (p := mcloneP) rfl _
  have q2 : ∀ (g : Bool) (kk : Kk) (es : Ents), pcall E 46 [.rm g kk es] = some (.rm false kk es, []) := fun g kk es => pcall_prim (p := mcloneP) rfl _
  rw [hcall_go (fn := I20) rfl rfl rfl]
  simp (disch := first | omega | (simp only [List.length_cons, List.length_nil, List.length_append, List.length_map, List.length_set]; omega) | rfl | (simp only [List.length_cons, List.length_nil, List.length_append, List.length_map, List.length_set, List.length_replicate, List.all_cons, List.all_nil, List.all_append, storable, plainB, Bool.and_self]; done)) only [go_sem, reduceCtorEq, ↓reduceIte, reduceDIte, evI_callP, callPK_some, I20, e1, e3, e4, q1, q2, tupG_rm]
end Go.Fw.Wd
