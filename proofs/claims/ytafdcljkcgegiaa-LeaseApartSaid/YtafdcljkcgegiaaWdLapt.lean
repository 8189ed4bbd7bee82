/-
  The law LeaseApart at the evaluation. Conditions: none of the law.
-/
import Derived.Test.YtafdcljkcgegiaaWdLst
import Derived.Test.YtafdcljkcgegiaaWdLfp
set_option linter.unusedVariables false
set_option linter.unusedSimpArgs false
namespace Go.Fw.Wd
open Go.Proofs Code_

theorem loansP_at (kb : Nat) (g : Bool) (B : Bk) (hn : B.ln.length ≤ 1048576) (h : Heap) (hk : h[kb]? = some (.cells false [B.av g] 30)) : loansP [.ref kb 0 0] h = some (loansOf (encL B.ln)) := by
  simp only [loansP, hk, bookL, entsOf, if_true, Option.bind_some, len_encL, hn]
theorem seq43 : E.seq 43 = some loansP := rfl
abbrev apS : Slots := [(5, .ref 0 0 0), (6, .ref 1 0 0), (7, .ref 2 0 0), (8, .ref 3 0 0), (9, .ref 4 0 0), (10, .ref 5 0 0), (11, .ref 7 0 0), (16, .fn 43 [.ref 8 0 0])]
abbrev apH (g : Bool) (B : Bk) (now : UInt64) (first last barred : UInt32) (seen : List UInt32) : Heap :=
  [.cells false [B.av g] 30, .cells false [i64u now] 25, .cells false [i32 first] 22, .cells false [i32 last] 22, .cells false [i32 barred] 22, .cells false [.bool false] 4, brO seen, .cells false [.mp 6] 57, .cells false [B.av g] 30]
theorem ap_loop (g : Bool) (B : Bk) (now : UInt64) (first last barred : UInt32) (hgood : ∀ p ∈ B.ln, now.toNat < p.2.til.toNat → first.toNat ≤ p.2.ip.toNat ∧ p.2.ip.toNat ≤ last.toNat ∧ p.2.ip ≠ barred ∧ B.free p.2.ip now = false) :
    ∀ (L : Lns) (seen : List UInt32), (∀ p ∈ L, p ∈ B.ln) → L.Pairwise (fun p q => now.toNat < p.2.til.toNat → now.toNat < q.2.til.toNat → p.2.ip ≠ q.2.ip) → (∀ p ∈ L, now.toNat < p.2.til.toNat → p.2.ip ∉ seen) → seen.length + L.length ≤ 1000 →
    ∃ seen', rgs E [17, 18] A17_r0 R17_r0 apS (loansOf (encL L)) (apH g B now first last barred seen) = some (.norm, ⟨apS, apH g B now first last barred seen'⟩)
  | [], seen, _, _, _, _ => ⟨seen, rgs_nil _ _ _ _ _⟩
  | p :: L, seen, hm, hd, hs, hlen => by
    obtain ⟨d1, d2⟩ := List.pairwise_cons.1 hd
    rw [List.length_cons] at hlen
    have e : loansOf (encL (p :: L)) = [⟨false, [.s p.1]⟩, eLn p.2] :: loansOf (encL L) := rfl
    have q14 := s14 g B p.2.ip now
    have hwf := wf32 p.2.ip
    have hmg := mget_B p.2.ip seen
    have hmp := mput_B p.2.ip seen
    have hS' : (encB seen).length ≤ 1048576 := by rw [len_encB]; omega
    rw [e, rgs_cons _ _ _ _ _ _ _ rfl rfl]
    by_cases ht : now.toNat < p.2.til.toNat
    · have ht' : ¬ (p.2.til.toNat : Int) ≤ (now.toNat : Int) := by omega
      obtain ⟨g1, g2, g3, g4⟩ := hgood p (hm p (by simp)) ht
      have g1' : ¬ (p.2.ip.toNat : Int) < (first.toNat : Int) := by omega
      have g2' : ¬ (last.toNat : Int) < (p.2.ip.toNat : Int) := by omega
      have g3' : ¬ (p.2.ip.toNat : Int) = (barred.toNat : Int) := fun h => g3 (UInt32.toNat_inj.1 (by omega))
      rw [if_neg (hs p (by simp) ht)] at hmg
      rw [g4] at q14
      obtain ⟨seen', ih⟩ := ap_loop g B now first last barred hgood L (bput p.2.ip seen) (fun q hq => hm q (by simp [hq])) d2 (fun q hq hqt => by
        rw [mem_bput]
        rintro (h | h)
        · exact d1 q hq ht hqt h.symm
        · exact hs q (by simp [hq]) hqt h) (by have := len_bput p.2.ip seen; omega)
      refine ⟨seen', ?_⟩
      rw [← ih]
      simp (disch := first | omega | (simp only [List.length_cons, List.length_nil, List.length_append, List.length_map, List.length_set]; omega) | rfl | (simp only [List.length_cons, List.length_nil, List.length_append, List.length_map, List.length_set, List.length_replicate, List.all_cons, List.all_nil, List.all_append, storable, plainB, Bool.and_self]; done)) only [go_sem, reduceCtorEq, ↓reduceIte, reduceDIte, evI_callP, callPK_some, A17_r0, R17_r0, eLn, ht', hmg, hmp, hwf, hS', g1', g2', g3', q14]
    · have ht' : (p.2.til.toNat : Int) ≤ (now.toNat : Int) := by omega
      obtain ⟨seen', ih⟩ := ap_loop g B now first last barred hgood L seen (fun q hq => hm q (by simp [hq])) d2 (fun q hq hqt => hs q (by simp [hq]) hqt) (by omega)
      refine ⟨seen', ?_⟩
      rw [← ih]
      simp (disch := first | omega | (simp only [List.length_cons, List.length_nil, List.length_append, List.length_map, List.length_set]; omega) | rfl | (simp only [List.length_cons, List.length_nil, List.length_append, List.length_map, List.length_set, List.length_replicate, List.all_cons, List.all_nil, List.all_append, storable, plainB, Bool.and_self]; done)) only [go_sem, reduceCtorEq, ↓reduceIte, reduceDIte, evI_callP, callPK_some, A17_r0, R17_r0, eLn, ht']
theorem s17 (g : Bool) (B : Bk) (hn : B.ln.length ≤ 100) (now : UInt64) (first last barred : UInt32) (hgood : ∀ p ∈ B.ln, now.toNat < p.2.til.toNat → first.toNat ≤ p.2.ip.toNat ∧ p.2.ip.toNat ≤ last.toNat ∧ p.2.ip ≠ barred ∧ B.free p.2.ip now = false)
    (hd : B.ln.Pairwise (fun p q => now.toNat < p.2.til.toNat → now.toNat < q.2.til.toNat → p.2.ip ≠ q.2.ip)) :
    pcall E 17 [B.av g, i64u now, i32 first, i32 last, i32 barred] = some (.bool true, []) := by
  rw [pcall_go (fn := I17) rfl rfl rfl]
  have hk : E.keep 17 = false := rfl
  have q25 := fun H => mp25 g B H
  have qs := seq43
  have ql := loansP_at 8 g B (by omega) (apH g B now first last barred []) rfl
  obtain ⟨seen', h1⟩ := ap_loop g B now first last barred hgood B.ln [] (fun _ h => h) hd (by simp) (by simp; omega)
  simp only [show brO [] = .map (.int .u32) [] from rfl, apH] at ql h1
  simp (disch := first | omega | (simp only [List.length_cons, List.length_nil, List.length_append, List.length_map, List.length_set]; omega) | rfl | (simp only [List.length_cons, List.length_nil, List.length_append, List.length_map, List.length_set, List.length_replicate, List.all_cons, List.all_nil, List.all_append, storable, plainB, Bool.and_self]; done)) only [go_sem, reduceCtorEq, ↓reduceIte, reduceDIte, evI_callP, callPK_some, I17, hk, q25, qs, ql, h1, evI_callM]

/-! ### the plain law -/
structure Apt (first last barred : UInt32) (B : Bk) (t : Nat) : Prop where
  fst : B.fst = first
  lst : B.lst = last
  bar : B.bar = bput barred []
  once : Once B.ln
  rng : ∀ p ∈ B.ln, t < p.2.til.toNat → first.toNat ≤ p.2.ip.toNat ∧ p.2.ip.toNat ≤ last.toNat ∧ p.2.ip ≠ barred
  dis : ∀ p ∈ B.ln, ∀ q ∈ B.ln, t < p.2.til.toNat → t < q.2.til.toNat → p.2.ip = q.2.ip → p.1 = q.1
section
variable {first last barred : UInt32} {B : Bk} {t : Nat}
theorem Apt.mono (h : Apt first last barred B t) {t' : Nat} (ht : t ≤ t') : Apt first last barred B t' :=
  ⟨h.fst, h.lst, h.bar, h.once, fun p hp hl => h.rng p hp (by omega), fun p hp q hq h1 h2 he => h.dis p hp q hq (by omega) (by omega) he⟩
theorem Apt.sub (h : Apt first last barred B t) {B' : Bk} (k : Kin B B') (ho : Once B'.ln) (hs : ∀ p ∈ B'.ln, p ∈ B.ln) : Apt first last barred B' t :=
  ⟨k.fst.trans h.fst, k.lst.trans h.lst, k.bar.trans h.bar, ho, fun p hp hl => h.rng p (hs p hp) hl, fun p hp q hq h1 h2 he => h.dis p (hs p hp) q (hs q hq) h1 h2 he⟩
theorem Apt.put (h : Apt first last barred B t) (k : List UInt8) (l : Ln) (h1 : t < l.til.toNat → first.toNat ≤ l.ip.toNat ∧ l.ip.toNat ≤ last.toNat ∧ l.ip ≠ barred) (h2 : ∀ q ∈ B.ln, q.1 ≠ k → t < q.2.til.toNat → q.2.ip ≠ l.ip) : Apt first last barred (B.put k l) t := by
  refine ⟨h.fst, h.lst, h.bar, h.once.put k l, fun p hp hl => ?_, fun p hp q hq hpl hql he => ?_⟩
  · rcases (mem_aput _ _ _ _).1 hp with rfl | ⟨hp, _⟩
    · exact h1 hl
    · exact h.rng p hp hl
  · rcases (mem_aput _ _ _ _).1 hp with rfl | ⟨hp, hpk⟩
    · rcases (mem_aput _ _ _ _).1 hq with rfl | ⟨hq, hqk⟩
      · rfl
      · exact absurd he.symm (h2 q hq hqk hql)
    · rcases (mem_aput _ _ _ _).1 hq with rfl | ⟨hq, hqk⟩
      · exact absurd he (h2 p hp hpk hpl)
      · exact h.dis p hp q hq hpl hql he
theorem of_some {B : Bk} {c : List UInt8} {now : UInt64} {l : Ln} (h : B.of c now = some l) : (c, l) ∈ B.ln ∧ (bU now).toNat < l.til.toNat := by
  unfold Bk.of at h
  cases hg : aget c B.ln with
  | none => rw [hg] at h; cases h
  | some m =>
    rw [hg] at h
    simp only [Option.bind_some] at h
    split at h
    · cases h
    · injection h with h
      subst h
      exact ⟨aget_mem hg, by omega⟩
/-- A loan of the client's own, with another time. -/
theorem Apt.again (h : Apt first last barred B t) {c : List UInt8} {now : UInt64} (hn : (bU now).toNat = t) {l m : Ln} (hl : B.of c now = some l) (hm : m.ip = l.ip) : Apt first last barred (B.put c m) t := by
  obtain ⟨h1, h2⟩ := of_some hl
  rw [hn] at h2
  refine h.put c m (fun _ => by rw [hm]; exact h.rng _ h1 h2) fun q hq hk hql he => ?_
  exact hk (h.dis q hq _ h1 hql h2 (by rw [he, hm]))
theorem Apt.step (h : Apt first last barred B t) (c : Cl) (hn : (bU c.now).toNat = t) : Apt first last barred (B.step c) t := by
  unfold Bk.step
  split
  · unfold Bk.offer
    split
    · exact h
    cases ho : B.of c.client c.now with
    | some l =>
      dsimp only
      split
      · exact h
      · exact h.again hn ho rfl
    | none =>
      cases hf : B.find c.ip c.now with
      | none => exact h
      | some ip =>
        obtain ⟨f1, f2, f3, _, f5⟩ := (free_iff B ip c.now).1 (find_some hf)
        rw [h.fst] at f1
        rw [h.lst] at f2
        rw [h.bar, mem_bput] at f3
        refine h.put c.client ⟨ip, false, bU c.til⟩ (fun _ => ⟨f1, f2, fun e => f3 (.inl e)⟩) fun q hq _ hql he => ?_
        have := f5 q hq he
        omega
  split
  · unfold Bk.firm
    cases ho : B.of c.client c.now with
    | some l =>
      dsimp only
      split
      · rename_i he
        exact h.again hn ho he.symm
      · exact h
    | none => exact h
  split
  · unfold Bk.drop
    repeat' split
    all_goals first | exact h.sub ⟨rfl, rfl, rfl⟩ (h.once.del _) (fun p hp => ((mem_adel _ _ _).1 hp).1) | exact h
  split
  · unfold Bk.rest
    repeat' split
    all_goals first | exact h.sub ⟨rfl, rfl, rfl⟩ (h.once.del _) (fun p hp => ((mem_adel _ _ _).1 hp).1) | exact h
  split
  · exact h.sub ⟨rfl, rfl, rfl⟩ (List.Pairwise.filter _ h.once) (fun p hp => (List.mem_filter.1 hp).1)
  · exact h
theorem Apt.notFree (h : Apt first last barred B t) {now : UInt64} (hn : (bU now).toNat = t) {p : List UInt8 × Ln} (hp : p ∈ B.ln) (hl : t < p.2.til.toNat) : B.free p.2.ip now = false := by
  cases hf : B.free p.2.ip now with
  | false => rfl
  | true =>
    have := ((free_iff B p.2.ip now).1 hf).2.2.2.2 p hp rfl
    omega
theorem Apt.pair (h : Apt first last barred B t) : B.ln.Pairwise (fun p q => t < p.2.til.toNat → t < q.2.til.toNat → p.2.ip ≠ q.2.ip) :=
  List.Pairwise.imp_of_mem (fun hp hq hne h1 h2 he => hne (h.dis _ hp _ hq h1 h2 he)) h.once
end
/-- What is lent anew was free. -/
theorem new_free {B : Bk} {c : Cl} (h0 : c.what = 0) {x : Ln} (ho : (B.step c).of c.client c.now = some x) (hw : B.of c.client c.now = none) : B.free x.ip c.now = true := by
  unfold Bk.step at ho
  rw [if_pos h0] at ho
  unfold Bk.offer at ho
  split at ho
  · rw [hw] at ho; cases ho
  rw [hw] at ho
  cases hf : B.find c.ip c.now with
  | none => rw [hf] at ho; dsimp only at ho; rw [hw] at ho; cases ho
  | some ip =>
    rw [hf] at ho
    dsimp only at ho
    rw [of_put] at ho
    split at ho
    · cases ho
    · injection ho with ho
      subst ho
      exact find_some hf

/-! ### the evaluation -/
/-- A book that is only read, whose parts come from here and there. -/
abbrev Bk.avm (g gb gl gr : Bool) (B : Bk) : AV := .rp g (.agg [i32 B.fst, i32 B.lst, .rm gb (.int .u32) (encB B.bar), .rm gl .str (encL B.ln), .rm gr (.int .u32) (encR B.rs)])
theorem sm14 (g gb gl gr : Bool) (B : Bk) (ip : UInt32) (now : UInt64) : pcall E 14 [B.avm g gb gl gr, i32 ip, i64u now] = some (.bool (B.free ip now), []) := by
  have h := s14 g B ip now
  rw [pcall_prim (p := freeP) rfl] at h ⊢
  exact h
theorem sm18 (g gb gl gr : Bool) (B : Bk) (c : List UInt8) (hc : c.length ≤ 1048576) (now : UInt64) : pcall E 18 [B.avm g gb gl gr, sv c, i64u now] = some (.tup [((B.of c now).getD zLn).av, .bool (B.of c now).isSome], []) := by
  rw [pcall_go (fn := I18) rfl rfl rfl]
  have hk : E.keep 18 = false := rfl
  have q35 := fun n => s35 n
  have q36 := fun l n => s36 l n
  have hm := mget_L c B.ln
  have hl : c.length ≤ maxLen := by unfold maxLen; omega
  unfold Bk.of
  cases ho : aget c B.ln with
  | none =>
    rw [ho] at hm
    simp (disch := first | omega | (simp only [List.length_cons, List.length_nil, List.length_append, List.length_map, List.length_set]; omega) | rfl | (simp only [List.length_cons, List.length_nil, List.length_append, List.length_map, List.length_set, List.length_replicate, List.all_cons, List.all_nil, List.all_append, storable, plainB, Bool.and_self]; done)) only [go_sem, reduceCtorEq, ↓reduceIte, reduceDIte, evI_callP, callPK_some, I18, hk, q35, q36, hm, hl]
    rfl
  | some l =>
    rw [ho] at hm
    by_cases h : l.til.toNat ≤ (bU now).toNat
    · simp (disch := first | omega | (simp only [List.length_cons, List.length_nil, List.length_append, List.length_map, List.length_set]; omega) | rfl | (simp only [List.length_cons, List.length_nil, List.length_append, List.length_map, List.length_set, List.length_replicate, List.all_cons, List.all_nil, List.all_append, storable, plainB, Bool.and_self]; done)) only [go_sem, reduceCtorEq, ↓reduceIte, reduceDIte, evI_callP, callPK_some, I18, hk, q35, q36, hm, hl, eLn, h]
      rfl
    · simp (disch := first | omega | (simp only [List.length_cons, List.length_nil, List.length_append, List.length_map, List.length_set]; omega) | rfl | (simp only [List.length_cons, List.length_nil, List.length_append, List.length_map, List.length_set, List.length_replicate, List.all_cons, List.all_nil, List.all_append, storable, plainB, Bool.and_self]; done)) only [go_sem, reduceCtorEq, ↓reduceIte, reduceDIte, evI_callP, callPK_some, I18, hk, q35, q36, hm, hl, eLn, h]
theorem apart_loop (g : Bool) (l : List Cl) (hl : l.length ≤ 100) (hcl : ∀ c ∈ l, c.client.length ≤ 300) (first last barred : UInt32) (many : UInt8) (hlast : last.toNat = first.toNat + many.toNat) (hfm : first.toNat + many.toNat < 4294967296) : ∀ (n i : Nat) (B : Bk) (J : Heap) (now : UInt64), i + n = l.length → now.toNat ≤ 2305843009213693952 → B.Ok → B.ln.length ≤ i → B.rs.length ≤ i → Apt first last barred B now.toNat →
    ∃ H, T4_0 E (lp E L4_0 [(0, i32 first), (1, .int .u8 (many.toNat : Int)), (2, i32 barred), (3, clR g l), (9, .ref 3 0 0), (11, i64u now), (12, .int .i64 (i : Int))] (bh B J)) = some (.bool true, H) := by
  intro n
  induction n with
  | zero =>
    intro i B J now hi hnow hB hn hs hA
    have hlt : ¬ ((i : Int) < (l.length : Int)) := by omega
    rw [L4_0_go]
    simp (disch := first | omega | (simp only [List.length_cons, List.length_nil, List.length_append, List.length_map, List.length_set]; omega) | rfl | (simp only [List.length_cons, List.length_nil, List.length_append, List.length_map, List.length_set, List.length_replicate, List.all_cons, List.all_nil, List.all_append, storable, plainB, Bool.and_self]; done)) only [go_sem, reduceCtorEq, ↓reduceIte, reduceDIte, evI_callP, callPK_some, B4_0, T4_0, hlt]
    exact ⟨_, rfl⟩
  | succ n ih =>
    intro i B J now hi hnow hB hn hs hA
    have hil : i < l.length := by omega
    have hlt : (i : Int) < (l.length : Int) := by omega
    have hia : ∀ H : Heap, iaddrK H 6 (clR g l) (.int .i64 (i : Int)) = some (.rp g (clA l[i]), H) := fun H => by
      rw [iaddrK_rs H 6 g _ _ _ (by omega) (by rw [List.length_map]; omega), Int.toNat_natCast, List.getD_eq_getElem?_getD, List.getElem?_map, List.getElem?_eq_getElem hil]
      rfl
    have hci := hcl l[i] (List.getElem_mem hil)
    obtain ⟨c0, hc0⟩ : ∃ c, l[i] = c := ⟨_, rfl⟩
    rw [hc0] at hci hia
    obtain ⟨t, ht⟩ : ∃ t : UInt64, t.toNat = max now.toNat (min c0.now.toNat 2305843009213693952) := ⟨UInt64.ofNat (max now.toNat (min c0.now.toNat 2305843009213693952)), by rw [UInt64.toNat_ofNat', Nat.mod_eq_of_lt (by omega)]⟩
    have hti : max (now.toNat : Int) (min (c0.now.toNat : Int) 2305843009213693952) = (t.toNat : Int) := by omega
    have ht1 : t.toNat ≤ 2305843009213693952 := by omega
    have ht2 : now.toNat ≤ t.toNat := by omega
    obtain ⟨c, hc⟩ : ∃ c : Cl, { c0 with now := t } = c := ⟨_, rfl⟩
    have hcn : c.now = t := by rw [← hc]
    have hcc : c.client = c0.client := by rw [← hc]
    have hb : (bU c.now).toNat = t.toNat := by rw [hcn, show bU t = t from if_pos ht1]
    have hA1 := hA.mono ht2
    have hA2 := hA1.step c hb
    obtain ⟨ok, X, J', q11⟩ := b_do hB (by omega) (by omega) (J ++ [.cells true c.cs 27, B.cobj 0]) c (by rw [hcc]; omega)
    obtain ⟨l1, l2⟩ := len_step B c
    obtain ⟨M, hM⟩ : ∃ M, J ++ [.cells true c.cs 27, B.cobj 0] ++ X :: J' = M := ⟨_, rfl⟩
    have hM1 : ∀ B' : Bk, (bh B' M)[J.length + 4]? = some (.cells true c.cs 27) := fun B' => by
      show M[J.length]? = _
      rw [← hM, List.append_assoc]
      exact gtop J _ _
    have hM2 : ∀ B' : Bk, (bh B' M)[J.length + 1 + 4]? = some (B.cobj 0) := fun B' => by
      show M[J.length + 1]? = _
      rw [← hM, List.append_assoc, List.getElem?_append_right (by omega), show J.length + 1 - J.length = 1 by omega]
      rfl
    rw [hM] at q11
    have hcs : c.cs = [.int .i64 c0.what, sv c0.client, i32 c0.ip, i64u t, i64u c0.til, .bool c0.firm] := by rw [← hc]
    have hw0 : c.what = c0.what := by rw [← hc]
    obtain ⟨B', hB'⟩ : ∃ B', B.step c = B' := ⟨_, rfl⟩
    have k1 := kin_step B c
    have hnew := fun (h0 : c.what = 0) (x : Ln) => new_free (B := B) h0 (x := x)
    rw [hB'] at q11 k1 hA2 l1 l2 hnew
    have hbar : B.bar = B'.bar := k1.bar.symm
    have hM3 : ∀ (B' : Bk) (X : Heap), (bh B' (M ++ X))[J.length + 4]? = some (.cells true c.cs 27) := fun B' X => gapp (hM1 B') X
    have hM4 : ∀ (B' : Bk) (X : Heap), (bh B' (M ++ X))[J.length + 1 + 4]? = some (B.cobj 0) := fun B' X => gapp (hM2 B') X
    rw [hcs] at q11 hM1 hM3
    simp only [List.length_append, List.length_cons, List.length_nil, List.append_assoc, List.cons_append, List.nil_append, Nat.zero_add, Nat.reduceAdd] at q11
    have q13 := fun J => m13 (bh_at B J)
    have q17 := fun g => s17 g B' (by omega) t first last barred (fun p hp hl => by
      obtain ⟨r1, r2, r3⟩ := hA2.rng p hp hl
      exact ⟨r1, r2, r3, hA2.notFree (show (bU t).toNat = t.toNat by rw [show bU t = t from if_pos ht1]) hp hl⟩) hA2.pair
    have qo := fun g => s18 g B' c0.client (by omega) t
    have qb := sm18 true true false false B c0.client (by omega) t
    have qf := fun x => sm14 true true false false B x t
    simp only [Bk.avm, hbar] at qb qf
    have e1 : IntKind.u32.wrap (many.toNat : Int) = (many.toNat : Int) := by
      have := many.toNat_lt
      exact wu32 (by omega) (by omega)
    have e2 : IntKind.u32.wrap ((first.toNat : Int) + many.toNat) = (last.toNat : Int) := by rw [wu32 (by omega) (by omega)]; omega
    have ih' := fun J => ih (i + 1) B' J t (by omega) ht1 (k1.ok hB) (by omega) (by omega) hA2
    simp only [show ((i + 1 : Nat) : Int) = (i : Int) + 1 by omega] at ih'
    have a0 := bh0
    have a1 := bh1
    have a2 := bh2
    have a3 := bh3
    have a4 := bh_app
    have a5 := bh_len
    have a6 := bh_top
    have a7 := bh_stop
    have a8 : ∀ (B : Bk) (J : Heap) (a c : AObj) (X : Heap), (bh B (J ++ a :: c :: X))[J.length + 1 + 4]? = some c := fun B J a c X => by
      show (J ++ a :: c :: X)[J.length + 1]? = _
      rw [List.getElem?_append_right (by omega), show J.length + 1 - J.length = 1 by omega]
      rfl
    have a9 : ∀ (B : Bk) (J : Heap) (a c d : AObj) (X : Heap), (bh B (J ++ a :: c :: X)).set (J.length + 1 + 4) d = bh B (J ++ a :: d :: X) := fun B J a c d X => by
      show _ :: _ :: _ :: _ :: (J ++ a :: c :: X).set (J.length + 1) d = _
      rw [List.set_append_right _ _ (by omega), show J.length + 1 - J.length = 1 by omega]
      rfl
    have z1 : (zLn.ip.toNat : Int) = 0 := rfl
    have z2 : zLn.firm = false := rfl
    have z3 : (zLn.til.toNat : Int) = 0 := rfl
    rw [L4_0_go]
    by_cases w0 : c0.what = 0
    · have wt := eq_true w0
      cases ho : B'.of c0.client t with
      | none =>
        rw [ho] at qo
        cases hq : B.of c0.client t with
        | none =>
          rw [hq] at qb
          simp (disch := first | omega | (simp only [List.length_cons, List.length_nil, List.length_append, List.length_map, List.length_set]; omega) | rfl | (simp only [List.length_cons, List.length_nil, List.length_append, List.length_map, List.length_set, List.length_replicate, List.all_cons, List.all_nil, List.all_append, storable, plainB, Bool.and_self]; done)) only [go_sem, reduceCtorEq, ↓reduceIte, reduceDIte, evI_callP, callPK_some, B4_0, hlt, hia, hti, evI_callM, q13, q11, q17, qo, qb, qf, e1, e2, a0, a1, a2, a3, a4, a5, a6, a7, a8, a9, hM1, hM2, hM3, hM4, z1, z2, z3, wt, List.append_assoc, L4_0_lp]
          exact ih' _
        | some y =>
          rw [hq] at qb
          simp (disch := first | omega | (simp only [List.length_cons, List.length_nil, List.length_append, List.length_map, List.length_set]; omega) | rfl | (simp only [List.length_cons, List.length_nil, List.length_append, List.length_map, List.length_set, List.length_replicate, List.all_cons, List.all_nil, List.all_append, storable, plainB, Bool.and_self]; done)) only [go_sem, reduceCtorEq, ↓reduceIte, reduceDIte, evI_callP, callPK_some, B4_0, hlt, hia, hti, evI_callM, q13, q11, q17, qo, qb, qf, e1, e2, a0, a1, a2, a3, a4, a5, a6, a7, a8, a9, hM1, hM2, hM3, hM4, z1, z2, z3, wt, List.append_assoc, L4_0_lp]
          exact ih' _
      | some x =>
        rw [ho] at qo
        cases hq : B.of c0.client t with
        | none =>
          rw [hq] at qb
          have hf : B.free x.ip t = true := by
            have := hnew (by rw [hw0]; exact w0) x (by rw [hcc, hcn]; exact ho) (by rw [hcc, hcn]; exact hq)
            rwa [hcn] at this
          simp (disch := first | omega | (simp only [List.length_cons, List.length_nil, List.length_append, List.length_map, List.length_set]; omega) | rfl | (simp only [List.length_cons, List.length_nil, List.length_append, List.length_map, List.length_set, List.length_replicate, List.all_cons, List.all_nil, List.all_append, storable, plainB, Bool.and_self]; done)) only [go_sem, reduceCtorEq, ↓reduceIte, reduceDIte, evI_callP, callPK_some, B4_0, hlt, hia, hti, evI_callM, q13, q11, q17, qo, qb, qf, e1, e2, a0, a1, a2, a3, a4, a5, a6, a7, a8, a9, hM1, hM2, hM3, hM4, z1, z2, z3, wt, List.append_assoc, L4_0_lp, hf]
          exact ih' _
        | some y =>
          rw [hq] at qb
          simp (disch := first | omega | (simp only [List.length_cons, List.length_nil, List.length_append, List.length_map, List.length_set]; omega) | rfl | (simp only [List.length_cons, List.length_nil, List.length_append, List.length_map, List.length_set, List.length_replicate, List.all_cons, List.all_nil, List.all_append, storable, plainB, Bool.and_self]; done)) only [go_sem, reduceCtorEq, ↓reduceIte, reduceDIte, evI_callP, callPK_some, B4_0, hlt, hia, hti, evI_callM, q13, q11, q17, qo, qb, qf, e1, e2, a0, a1, a2, a3, a4, a5, a6, a7, a8, a9, hM1, hM2, hM3, hM4, z1, z2, z3, wt, List.append_assoc, L4_0_lp]
          exact ih' _
    · have wt := eq_false w0
      cases ho : B'.of c0.client t with
      | none =>
        rw [ho] at qo
        cases hq : B.of c0.client t with
        | none =>
          rw [hq] at qb
          simp (disch := first | omega | (simp only [List.length_cons, List.length_nil, List.length_append, List.length_map, List.length_set]; omega) | rfl | (simp only [List.length_cons, List.length_nil, List.length_append, List.length_map, List.length_set, List.length_replicate, List.all_cons, List.all_nil, List.all_append, storable, plainB, Bool.and_self]; done)) only [go_sem, reduceCtorEq, ↓reduceIte, reduceDIte, evI_callP, callPK_some, B4_0, hlt, hia, hti, evI_callM, q13, q11, q17, qo, qb, qf, e1, e2, a0, a1, a2, a3, a4, a5, a6, a7, a8, a9, hM1, hM2, hM3, hM4, z1, z2, z3, wt, List.append_assoc, L4_0_lp]
          exact ih' _
        | some y =>
          rw [hq] at qb
          simp (disch := first | omega | (simp only [List.length_cons, List.length_nil, List.length_append, List.length_map, List.length_set]; omega) | rfl | (simp only [List.length_cons, List.length_nil, List.length_append, List.length_map, List.length_set, List.length_replicate, List.all_cons, List.all_nil, List.all_append, storable, plainB, Bool.and_self]; done)) only [go_sem, reduceCtorEq, ↓reduceIte, reduceDIte, evI_callP, callPK_some, B4_0, hlt, hia, hti, evI_callM, q13, q11, q17, qo, qb, qf, e1, e2, a0, a1, a2, a3, a4, a5, a6, a7, a8, a9, hM1, hM2, hM3, hM4, z1, z2, z3, wt, List.append_assoc, L4_0_lp]
          exact ih' _
      | some x =>
        rw [ho] at qo
        cases hq : B.of c0.client t with
        | none =>
          rw [hq] at qb
          simp (disch := first | omega | (simp only [List.length_cons, List.length_nil, List.length_append, List.length_map, List.length_set]; omega) | rfl | (simp only [List.length_cons, List.length_nil, List.length_append, List.length_map, List.length_set, List.length_replicate, List.all_cons, List.all_nil, List.all_append, storable, plainB, Bool.and_self]; done)) only [go_sem, reduceCtorEq, ↓reduceIte, reduceDIte, evI_callP, callPK_some, B4_0, hlt, hia, hti, evI_callM, q13, q11, q17, qo, qb, qf, e1, e2, a0, a1, a2, a3, a4, a5, a6, a7, a8, a9, hM1, hM2, hM3, hM4, z1, z2, z3, wt, List.append_assoc, L4_0_lp]
          exact ih' _
        | some y =>
          rw [hq] at qb
          simp (disch := first | omega | (simp only [List.length_cons, List.length_nil, List.length_append, List.length_map, List.length_set]; omega) | rfl | (simp only [List.length_cons, List.length_nil, List.length_append, List.length_map, List.length_set, List.length_replicate, List.all_cons, List.all_nil, List.all_append, storable, plainB, Bool.and_self]; done)) only [go_sem, reduceCtorEq, ↓reduceIte, reduceDIte, evI_callP, callPK_some, B4_0, hlt, hia, hti, evI_callM, q13, q11, q17, qo, qb, qf, e1, e2, a0, a1, a2, a3, a4, a5, a6, a7, a8, a9, hM1, hM2, hM3, hM4, z1, z2, z3, wt, List.append_assoc, L4_0_lp]
          exact ih' _
theorem s4 (g : Bool) (first : UInt32) (many : UInt8) (barred : UInt32) (l : List Cl) :
    pcall E 4 [i32 first, .int .u8 (many.toNat : Int), i32 barred, clR g l] = some (.bool true, []) := by
  have q7 := s7
  have q8 := fun g => s8 g l
  have hk : E.keep 4 = false := rfl
  rw [pcall_go (fn := I4) rfl rfl rfl]
  cases hg : tooGreat l with
  | true =>
    rw [hg] at q8
    simp (disch := first | omega | (simp only [List.length_cons, List.length_nil, List.length_append, List.length_map, List.length_set]; omega) | rfl | (simp only [List.length_cons, List.length_nil, List.length_append, List.length_map, List.length_set, List.length_replicate, List.all_cons, List.all_nil, List.all_append, storable, plainB, Bool.and_self]; done)) only [go_sem, reduceCtorEq, ↓reduceIte, reduceDIte, evI_callP, callPK_some, I4, hk, q7, q8]
  | false =>
  rw [hg] at q8
  by_cases c1 : (2147483648 : Int) < (first.toNat : Int)
  · simp (disch := first | omega | (simp only [List.length_cons, List.length_nil, List.length_append, List.length_map, List.length_set]; omega) | rfl | (simp only [List.length_cons, List.length_nil, List.length_append, List.length_map, List.length_set, List.length_replicate, List.all_cons, List.all_nil, List.all_append, storable, plainB, Bool.and_self]; done)) only [go_sem, reduceCtorEq, ↓reduceIte, reduceDIte, evI_callP, callPK_some, I4, hk, q7, q8, c1]
  obtain ⟨g1, g2⟩ := great_not hg
  have hm := many.toNat_lt
  obtain ⟨last, hlast⟩ : ∃ last : UInt32, UInt32.ofNat (first.toNat + many.toNat) = last := ⟨_, rfl⟩
  have hlastn : last.toNat = first.toNat + many.toNat := by rw [← hlast, of32 (by omega)]
  have e1 : IntKind.u32.wrap (many.toNat : Int) = (many.toNat : Int) := wu32 (by omega) (by omega)
  have e2 : IntKind.u32.wrap ((first.toNat : Int) + many.toNat) = (last.toNat : Int) := by rw [wu32 (by omega) (by omega)]; omega
  have q9 := m9 false first last [barred] [] (by simp) ⟨by omega, by omega⟩
  obtain ⟨H, k4⟩ := apart_loop g l g1 g2 first last barred many hlastn (by omega) l.length 0 ⟨first, last, bput barred [], [], []⟩ [] 0 (by omega) (by decide) ⟨by show first.toNat ≤ last.toNat; omega, by show last.toNat - first.toNat < 256; omega⟩ (by simp) (by simp) ⟨rfl, rfl, rfl, List.Pairwise.nil, by simp, by simp⟩
  simp only [i32s, List.map_cons, List.map_nil, List.length_nil, Nat.zero_add, List.nil_append] at q9
  simp (disch := first | omega | (simp only [List.length_cons, List.length_nil, List.length_append, List.length_map, List.length_set]; omega) | rfl | (simp only [List.length_cons, List.length_nil, List.length_append, List.length_map, List.length_set, List.length_replicate, List.all_cons, List.all_nil, List.all_append, storable, plainB, Bool.and_self]; done)) only [go_sem, reduceCtorEq, ↓reduceIte, reduceDIte, evI_callP, callPK_some, I4, hk, q7, q8, c1, e1, e2, q9, L4_0_lp]
  refine Eq.trans (congrArg (Option.bind · (finish false)) k4) ?_
  simp only [go_sem, reduceCtorEq, ↓reduceIte, reduceDIte, evI_callP, callPK_some]
theorem end4 (xs : List AV) (hl : xs.length = [22, 5, 22, 24].length) (h : ∀ (j : Nat) t x, ([22, 5, 22, 24] : List TypeId)[j]? = some t → xs[j]? = some x → Arg Try.prog t x) : pcall E 4 xs = some (.bool true, []) := by
  match xs, hl with
  | [x0, x1, x2, x3], _ =>
    obtain ⟨a, rfl⟩ := U32_arg (h 0 _ x0 rfl rfl)
    obtain ⟨b, rfl⟩ := u8_arg (h 1 _ x1 rfl rfl)
    obtain ⟨c, rfl⟩ := U32_arg (h 2 _ x2 rfl rfl)
    obtain ⟨l, rfl⟩ := cls_arg (h 3 _ x3 rfl rfl)
    exact s4 false a b c l
end Go.Fw.Wd
