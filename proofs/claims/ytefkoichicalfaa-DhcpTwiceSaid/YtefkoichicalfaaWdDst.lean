/-
  A dhcp server in memory: what the messages leave; the first example, by reckoning; the calls as arguments. Conditions: stated at each.
-/
import Derived.Test.YtefkoichicalfaaWdDhear
import Derived.Test.YtefkoichicalfaaWdArgs
import Derived.KernelRfl
set_option linter.unusedVariables false
set_option linter.unusedSimpArgs false
set_option linter.unusedSectionVars false
namespace Go.Fw.Wd
open Go.Proofs Code_

/-- Books of the same addresses. -/
structure Kin (B B' : Bk) : Prop where
  fst : B'.fst = B.fst
  lst : B'.lst = B.lst
  bar : B'.bar = B.bar
theorem Kin.refl (B : Bk) : Kin B B := ⟨rfl, rfl, rfl⟩
theorem Kin.trans {A B C : Bk} (a : Kin A B) (b : Kin B C) : Kin A C := ⟨b.fst.trans a.fst, b.lst.trans a.lst, b.bar.trans a.bar⟩
theorem Kin.ok {B B' : Bk} (a : Kin B B') (h : B.Ok) : B'.Ok := ⟨by rw [a.fst, a.lst]; exact h.le, by rw [a.fst, a.lst]; exact h.few⟩
theorem kin_offer (B : Bk) (c : List UInt8) (w : UInt32) (now til : UInt64) : Kin B (B.offer c w now til).1 := by
  unfold Bk.offer
  repeat' split
  all_goals exact ⟨rfl, rfl, rfl⟩
theorem kin_firm (B : Bk) (c : List UInt8) (w : UInt32) (now til : UInt64) : Kin B (B.firm c w now til).1 := by
  unfold Bk.firm
  repeat' split
  all_goals exact ⟨rfl, rfl, rfl⟩
theorem kin_drop (B : Bk) (c : List UInt8) (f : Bool) : Kin B (B.drop c f).1 := by
  unfold Bk.drop
  repeat' split
  all_goals exact ⟨rfl, rfl, rfl⟩
theorem kin_rest (B : Bk) (c : List UInt8) (w : UInt32) (now til : UInt64) : Kin B (B.rest c w now til).1 := by
  unfold Bk.rest
  repeat' split
  all_goals exact ⟨rfl, rfl, rfl⟩
theorem kin_sweep (B : Bk) (now : UInt64) : Kin B (B.sweep now) := ⟨rfl, rfl, rfl⟩
theorem len_aput {α β : Type} [DecidableEq α] {lt : α → α → Bool} (k : α) (v : β) (l : List (α × β)) : (aput lt k v l).length ≤ l.length + 1 := by
  unfold aput
  rw [len_ains]
  have := len_adel k l
  omega
/-- One more at most. -/
def Few (B B' : Bk) : Prop := B'.ln.length ≤ B.ln.length + 1 ∧ B'.rs.length ≤ B.rs.length + 1
theorem few_refl (B : Bk) : Few B B := ⟨Nat.le_succ _, Nat.le_succ _⟩
theorem few_offer (B : Bk) (c : List UInt8) (w : UInt32) (now til : UInt64) : Few B (B.offer c w now til).1 := by
  refine ⟨?_, by rw [rs_offer]; omega⟩
  unfold Bk.offer
  repeat' split
  all_goals first | exact len_aput _ _ _ | exact Nat.le_succ _
theorem few_firm (B : Bk) (c : List UInt8) (w : UInt32) (now til : UInt64) : Few B (B.firm c w now til).1 := by
  refine ⟨?_, by rw [rs_firm]; omega⟩
  unfold Bk.firm
  repeat' split
  all_goals first | exact len_aput _ _ _ | exact Nat.le_succ _
theorem few_drop (B : Bk) (c : List UInt8) (f : Bool) : Few B (B.drop c f).1 := by
  refine ⟨?_, by rw [rs_drop]; omega⟩
  unfold Bk.drop
  repeat' split
  all_goals first | exact Nat.le_trans (len_adel _ _) (Nat.le_succ _) | exact Nat.le_succ _
theorem few_rest (B : Bk) (c : List UInt8) (w : UInt32) (now til : UInt64) : Few B (B.rest c w now til).1 := by
  unfold Bk.rest
  repeat' split
  all_goals first | exact ⟨Nat.le_trans (len_adel _ _) (Nat.le_succ _), len_aput _ _ _⟩ | exact few_refl B
theorem few_sweep (B : Bk) (now : UInt64) : Few B (B.sweep now) := ⟨Nat.le_trans (List.length_filter_le _ _) (Nat.le_succ _), Nat.le_trans (List.length_filter_le _ _) (Nat.le_succ _)⟩
/-- What holds of the book behind each of a book's calls holds behind what is heard. -/
theorem hear_ind (Q : Bk → Bk → Prop) (C : Cf) (B : Bk) (m : Msg) (now : UInt64) (h0 : Q B B) (h1 : ∀ c w now til, Q B (B.offer c w now til).1) (h2 : ∀ c w now til, Q B (B.firm c w now til).1) (h3 : ∀ c f, Q B (B.drop c f).1) (h4 : ∀ c w now til, Q B (B.rest c w now til).1) :
    Q B (hearM C B m now).1 := by
  have f1 : ∀ r ip, Q B (firmM C B r ip).1 := fun r ip => h2 r.client ip r.now (addU r.now C.time)
  unfold hearM
  split
  · exact h0
  split
  · exact h1 _ _ _ _
  split
  · unfold wantM
    split
    · exact h3 _ _
    split
    · split
      · exact f1 _ _
      · exact h0
    split
    · exact h0
    · exact f1 _ _
  split
  · show Q B (leaveM C B (readQ C m now))
    unfold leaveM
    split
    · exact h0
    split
    · exact h4 _ _ _ _
    split
    · exact h3 _ _
    · exact h0
  · exact h0
theorem kin_hear (C : Cf) (B : Bk) (m : Msg) (now : UInt64) : Kin B (hearM C B m now).1 :=
  hear_ind Kin C B m now (Kin.refl B) (fun _ _ _ _ => kin_offer ..) (fun _ _ _ _ => kin_firm ..) (fun _ _ => kin_drop ..) fun _ _ _ _ => kin_rest ..
theorem few_hear (C : Cf) (B : Bk) (m : Msg) (now : UInt64) : Few B (hearM C B m now).1 :=
  hear_ind Few C B m now (few_refl B) (fun _ _ _ _ => few_offer ..) (fun _ _ _ _ => few_firm ..) (fun _ _ => few_drop ..) fun _ _ _ _ => few_rest ..

/-- Where a server and its book lie. -/
structure Pl where
  s : Nat
  k : Nat
  kb : Nat
  kl : Nat
  kr : Nat
structure Sx (h : Heap) (p : Pl) (C : Cf) (B : Bk) : Prop where
  sat : SAt h p.s p.k p.kb p.kl p.kr C B
  ne : p.kb ≠ p.kr
/-- Variables stay. -/
def Cs (h h' : Heap) : Prop := ∀ (j : Nat) ag vs t, h[j]? = some (.cells ag vs t) → h'[j]? = some (.cells ag vs t)
theorem Cs.refl (h : Heap) : Cs h h := fun _ _ _ _ e => e
theorem Cs.trans {a b c : Heap} (x : Cs a b) (y : Cs b c) : Cs a c := fun j ag vs t e => y j ag vs t (x j ag vs t e)
theorem Cs.app (h X : Heap) : Cs h (h ++ X) := fun _ _ _ _ e => gapp e X
theorem Cs.head {o : AObj} {ag : Bool} {vs : List AV} {t : TypeId} {h h' : Heap} (ho : o = .cells ag vs t) (x : Cs (o :: h) h') : ∃ h2, h' = o :: h2 := by
  have := x 0 ag vs t (by rw [ho]; rfl)
  cases h' with
  | nil => cases this
  | cons a h2 => simp at this; exact ⟨h2, by rw [this, ho]⟩
theorem Sx.app {h : Heap} {p : Pl} {C : Cf} {B : Bk} (x : Sx h p C B) (X : Heap) : Sx (h ++ X) p C B := ⟨x.sat.app X, x.ne⟩
theorem Sx.move {h : Heap} {p : Pl} {C : Cf} {B B' : Bk} (x : Sx h p C B) (kin : Kin B B') (J : Heap) : Sx ((h.set p.kl (lnO B'.ln)).set p.kr (rsO B'.rs) ++ J) p C B' ∧ Cs h ((h.set p.kl (lnO B'.ln)).set p.kr (rsO B'.rs) ++ J) := by
  obtain ⟨n1, n2, n3, n4, n5⟩ := x.sat.bk.ne
  have a1 : p.kl ≠ p.s := neq_of x.sat.bk.bl x.sat.sv (by intro e; cases e)
  have a2 : p.kr ≠ p.s := neq_of x.sat.bk.br x.sat.sv (by intro e; cases e)
  have l1 : p.kl < h.length := (List.getElem?_eq_some_iff.1 x.sat.bk.bl).1
  have l2 : p.kr < h.length := (List.getElem?_eq_some_iff.1 x.sat.bk.br).1
  refine ⟨⟨⟨gapp (gset a2 (gset a1 x.sat.sv _) _) J, ⟨?_, ?_, ?_, ?_⟩⟩, x.ne⟩, fun j ag vs t e => ?_⟩
  · have := gapp (gset n3 (gset n2 x.sat.bk.bk (lnO B'.ln)) (rsO B'.rs)) J
    rw [this]
    show some (AObj.cells true [w32 B.fst, w32 B.lst, .mp p.kb, .mp p.kl, .mp p.kr] _) = some (AObj.cells true [w32 B'.fst, w32 B'.lst, .mp p.kb, .mp p.kl, .mp p.kr] _)
    rw [kin.fst, kin.lst]
  · have := gapp (gset (Ne.symm x.ne) (gset n4 x.sat.bk.bb (lnO B'.ln)) (rsO B'.rs)) J
    rw [this, kin.bar]
  · exact gapp (gset (Ne.symm n1) (List.getElem?_set_self l1) _) J
  · exact gapp (List.getElem?_set_self (by rw [List.length_set]; exact l2)) J
  · have b1 : p.kl ≠ j := neq_of x.sat.bk.bl e (by intro e; cases e)
    have b2 : p.kr ≠ j := neq_of x.sat.bk.br e (by intro e; cases e)
    exact gapp (gset b2 (gset b1 e _) _) J
/-- Another variable may turn. -/
theorem Sx.head {o o' : AObj} {h : Heap} {p : Pl} {C : Cf} {B : Bk} (x : Sx (o :: h) p C B) (ho : ∀ vs, o ≠ .cells true vs 77 ∧ o ≠ .cells true vs 90) (hm : ∀ kk es, o ≠ .map kk es) : Sx (o' :: h) p C B := by
  have key : ∀ (j : Nat) (b : AObj), (o :: h)[j]? = some b → o ≠ b → (o' :: h)[j]? = some b := by
    intro j b hj hne
    cases j with
    | zero => simp at hj; exact absurd hj hne
    | succ j => simpa using hj
  exact ⟨⟨key _ _ x.sat.sv (ho _).1, ⟨key _ _ x.sat.bk.bk (ho _).2, key _ _ x.sat.bk.bb (hm _ _), key _ _ x.sat.bk.bl (hm _ _), key _ _ x.sat.bk.br (hm _ _)⟩⟩, x.ne⟩
theorem hear_at {h : Heap} {p : Pl} {C : Cf} {B : Bk} (x : Sx h p C B) (hB : B.Ok) (hn : B.ln.length ≤ 1048576) (hr : B.rs.length ≤ 1048576) (m : Msg) (hl : small m.o) (now : UInt64) :
    ∃ h', hcall E 13 [.ref p.s 0 0, .agg (encG false m), i64u now] h = some (ansV (hearM C B m now).2, h') ∧ Sx h' p C (hearM C B m now).1 ∧ Cs h h' := by
  obtain ⟨J, e⟩ := m13 x.sat hB hn hr m hl now
  obtain ⟨a1, a2⟩ := x.move (kin_hear C B m now) J
  exact ⟨_, e, a1, a2⟩
theorem sweep_at {h : Heap} {p : Pl} {C : Cf} {B : Bk} (x : Sx h p C B) (hn : B.ln.length ≤ 1048576) (hr : B.rs.length ≤ 1048576) (now : UInt64) :
    ∃ h' n, hcall E 19 [.ref p.k 0 0, i64u now] h = some (.int .i64 n, h') ∧ Sx h' p C (B.sweep now) ∧ Cs h h' := by
  obtain ⟨J, e⟩ := m19 x.sat.bk hn hr now
  obtain ⟨a1, a2⟩ := x.move (kin_sweep B now) J
  exact ⟨_, _, e, a1, a2⟩

/-! ### the small configuration -/

def smallC : Cf := ⟨167772161, 4294967040, 167772161, 167772163, 100, 10, 50⟩
def smallB : Bk := ⟨167772161, 167772163, bars [] [167772161], [], []⟩
abbrev smallV : List AV := [.int .u32 167772161, .int .u32 4294967040, .int .u32 167772161, .int .u32 167772163, .int .u32 100, .int .u32 10, .int .u32 50]
theorem small_cs : smallC.cs = smallV := rfl
theorem smallB_ok : smallB.Ok := ⟨by decide, by decide⟩
theorem s9 : pcall E 9 [] = some (.agg smallV, []) := pcall_run 100 (by kernel_rfl)
theorem single_small : pcall E 55 [.int .u32 167772161] = some (.bool true, []) := pcall_run 100 (by kernel_rfl)
theorem mz32 (first last : UInt32) (h : Heap) (hok : first.toNat ≤ last.toNat ∧ last.toNat - first.toNat < 256) :
    hcall E 32 [w32 first, w32 last, .nils] h = some (.tup [.ref (h.length + 3) 0 0, .int .i64 0], h ++ [brO [], lnO [], rsO [], (⟨first, last, [], [], []⟩ : Bk).obj h.length (h.length + 1) (h.length + 2)]) := by
  obtain ⟨o1, o2⟩ := hok
  have h3 := last.toNat_lt
  have hw : IntKind.u32.wrap ((last.toNat : Int) - first.toNat) = (last.toNat : Int) - first.toNat := wu32 (by omega) (by omega)
  have c1 : ¬ ((last.toNat : Int) < (first.toNat : Int)) := by omega
  have c2 : ¬ ((256 : Int) ≤ (last.toNat : Int) - first.toNat) := by omega
  rw [hcall_go (fn := I32) rfl rfl rfl]
  simp (disch := first | omega | (simp only [List.length_cons, List.length_nil, List.length_append, List.length_map, List.length_set]; omega) | rfl | (simp only [List.length_cons, List.length_nil, List.length_append, List.length_map, List.length_set, List.length_replicate, List.all_cons, List.all_nil, List.all_append, storable, plainB, Bool.and_self]; done)) only [go_sem, reduceCtorEq, ↓reduceIte, reduceDIte, evI_callP, callPK_some, I32, hw, c1, c2, L32_0_lp, L32_0_go, B32_0, List.append_assoc]
  rfl
theorem right_small (h : Heap) : ∃ X, hcall E 31 [.agg smallV] h = some (.bool true, h ++ X) := by
  have p1 : ∀ h, hcall E 32 [.int .u32 167772161, .int .u32 167772163, .nils] h = some (.tup [.ref (h.length + 3) 0 0, .int .i64 0], h ++ [brO [], lnO [], rsO [], (⟨167772161, 167772163, [], [], []⟩ : Bk).obj h.length (h.length + 1) (h.length + 2)]) :=
    fun h => mz32 167772161 167772163 h ⟨by decide, by decide⟩
  have t1 := gtop h
  have t2 := single_small
  have m1 : (1 : Int) ≤ min (min 100 10) 50 := by decide
  have m2 : (max (max 100 10) 50 : Int) ≤ 2147483648 := by decide
  rw [hcall_go (fn := I31) rfl rfl rfl]
  simp (disch := first | omega | (simp only [List.length_cons, List.length_nil, List.length_append, List.length_map, List.length_set]; omega) | rfl | (simp only [List.length_cons, List.length_nil, List.length_append, List.length_map, List.length_set, List.length_replicate, List.all_cons, List.all_nil, List.all_append, storable, plainB, Bool.and_self]; done)) only [go_sem, reduceCtorEq, ↓reduceIte, reduceDIte, evI_callP, callPK_some, I31, evI_callM, p1, t1, t2, m1, m2, List.append_assoc]
  exact ⟨_, rfl⟩
theorem gtail (h X : Heap) (a : AObj) (L : Heap) (n i : Nat) (hn : n = h.length + (X.length + 1) + i) : (h ++ a :: (X ++ L))[n]? = L[i]? := by
  subst hn
  rw [List.getElem?_append_right (by omega), show h.length + (X.length + 1) + i - h.length = (X.length + i) + 1 by omega, List.getElem?_cons_succ, List.getElem?_append_right (by omega), show X.length + i - X.length = i by omega]
theorem new_small (h : Heap) : ∃ X p, hcall E 11 [.agg smallV] h = some (.tup [.ref p.s 0 0, .int .i64 0], h ++ X) ∧ Sx (h ++ X) p smallC smallB ∧ h.length ≤ p.s := by
  obtain ⟨X1, p1⟩ := right_small (h ++ [.cells true smallV 36])
  have p2 : ∀ g h, hcall E 32 [.int .u32 167772161, .int .u32 167772163, .rs g 1 [.int .u32 167772161]] h = some (.tup [.ref (h.length + 3) 0 0, .int .i64 0], h ++ [brO smallB.bar, lnO [], rsO [], smallB.obj h.length (h.length + 1) (h.length + 2)]) :=
    fun g h => m32 g 167772161 167772163 [167772161] h (by simp) ⟨by decide, by decide⟩
  have t1 := gtop h
  rw [hcall_go (fn := I11) rfl rfl rfl]
  simp (disch := first | omega | (simp only [List.length_cons, List.length_nil, List.length_append, List.length_map, List.length_set]; omega) | rfl | (simp only [List.length_cons, List.length_nil, List.length_append, List.length_map, List.length_set, List.length_replicate, List.all_cons, List.all_nil, List.all_append, storable, plainB, Bool.and_self]; done)) only [go_sem, reduceCtorEq, ↓reduceIte, reduceDIte, evI_callP, callPK_some, I11, evI_callM, p1, p2, t1, List.append_assoc]
  refine ⟨_, ⟨h.length + (X1.length + 4 + 1), h.length + (X1.length + 1) + 3, h.length + (X1.length + 1), h.length + (X1.length + 1) + 1, h.length + (X1.length + 1) + 2⟩, rfl, ⟨⟨?_, ⟨?_, ?_, ?_, ?_⟩⟩, ?_⟩, ?_⟩
  · exact gtail h X1 _ _ _ 4 (by first | rfl | (dsimp only; omega))
  · exact gtail h X1 _ _ _ 3 (by first | rfl | (dsimp only; omega))
  · exact gtail h X1 _ _ _ 0 (by first | rfl | (dsimp only; omega))
  · exact gtail h X1 _ _ _ 1 (by first | rfl | (dsimp only; omega))
  · exact gtail h X1 _ _ _ 2 (by first | rfl | (dsimp only; omega))
  · show ¬ (h.length + (X1.length + 1) = h.length + (X1.length + 1) + 2)
    omega
  · show h.length ≤ h.length + (X1.length + 4 + 1)
    omega

theorem s7 : pcall E 7 [] = some (.bool true, []) := pcall_run 100 (by kernel_rfl)

/-- A message that is heard at a time, or a sweep. -/
structure Cm where
  m : Msg
  now : UInt64
  sw : Bool
abbrev cmL (c : Cm) : List AV := [.int .u8 (c.m.op.toNat : Int), .int .u32 (c.m.xid.toNat : Int), .int .u16 (c.m.secs.toNat : Int), .bool c.m.wide, .int .u32 (c.m.ci.toNat : Int), .int .u32 (c.m.yi.toNat : Int), .int .u32 (c.m.si.toNat : Int), .int .u32 (c.m.gi.toNat : Int),
  .int .u8 (c.m.a.toNat : Int), .int .u8 (c.m.b.toNat : Int), .int .u8 (c.m.c.toNat : Int), .int .u8 (c.m.d.toNat : Int), .int .u8 (c.m.e.toNat : Int), .int .u8 (c.m.f.toNat : Int), opts false c.m.o, .int .u64 (c.now.toNat : Int), .bool c.sw]
abbrev cmA (c : Cm) : AV := .agg (cmL c)
abbrev cmR (l : List Cm) : AV := .rs false 17 (l.map cmA)
theorem cm_iaddr {l : List Cm} {i : Nat} (hi : i < l.length) (hb : l.length ≤ 60) (H : Heap) : iaddrK H 17 (cmR l) (.int .i64 (i : Int)) = some (.rp false (cmA l[i]), H) := by
  rw [iaddrK_rs H 17 false _ _ _ (by omega) (by rw [List.length_map]; omega), Int.toNat_natCast, List.getD_eq_getElem?_getD, List.getElem?_map, List.getElem?_eq_getElem hi]
  rfl
def big (m : Msg) : Bool := decide (40 < m.o.length) || m.o.any fun o => decide (300 < o.2.length)
def tooG (l : List Cm) : Bool := decide (60 < l.length) || l.any fun c => big c.m
theorem big_not {m : Msg} (h : big m = false) : small m.o := by
  simp only [big, Bool.or_eq_false_iff, decide_eq_false_iff_not, List.any_eq_false, decide_eq_true_eq] at h
  exact ⟨by omega, fun o ho => by have := h.2 o ho; omega⟩
theorem tooG_not {l : List Cm} (h : tooG l = false) : l.length ≤ 60 ∧ ∀ c ∈ l, small c.m.o := by
  simp only [tooG, Bool.or_eq_false_iff, decide_eq_false_iff_not, List.any_eq_false] at h
  exact ⟨by omega, fun c hc => big_not (by simpa using h.2 c hc)⟩
theorem tooG_one {m : Msg} {now : UInt64} {sw : Bool} : tooG [⟨m, now, sw⟩] = big m := by simp [tooG]
theorem great_in (l : List Cm) (c : Cm) (i : Nat) (hi : i < 60) (hia : ∀ H : Heap, iaddrK H 17 (cmR l) (.int .i64 (i : Int)) = some (.rp false (cmA c), H)) (ho : c.m.o.length ≤ 40) (h : Heap) : ∀ (n k : Nat), k + n = c.m.o.length →
    T8_0 E (lp E L8_0 [(0, cmR l), (3, .int .i64 (i : Int)), (4, .int .i64 (k : Int))] h) =
      if ((c.m.o.drop k).any fun o => decide (300 < o.2.length)) = true then some (.bool true, h) else T8_1 E (lp E L8_1 [(0, cmR l), (3, .int .i64 ((i + 1 : Nat) : Int))] h) := by
  have hw : IntKind.i64.wrap ((i : Int) + 1) = ((i + 1 : Nat) : Int) := by
    rw [w64 (by omega) (by omega)]
    omega
  intro n
  induction n with
  | zero =>
    intro k hk
    have hlt : ¬ (k : Int) < (c.m.o.length : Int) := by omega
    rw [L8_0_go, List.drop_of_length_le (by omega)]
    simp (disch := first | omega | (simp only [List.length_cons, List.length_nil, List.length_append, List.length_map, List.length_set]; omega) | rfl | (simp only [List.length_cons, List.length_nil, List.length_append, List.length_map, List.length_set, List.length_replicate, List.all_cons, List.all_nil, List.all_append, storable, plainB, Bool.and_self]; done)) only [go_sem, reduceCtorEq, ↓reduceIte, reduceDIte, evI_callP, callPK_some, B8_0, T8_0, hlt, hia, hw, olen, List.any_nil, L8_1_lp]
  | succ n ih =>
    intro k hk
    have hlt : (k : Int) < (c.m.o.length : Int) := by omega
    have hkl : k < c.m.o.length := by omega
    have ia := fun h => fopt.iaddr h false c.m.o .i64 (k : Int) (by omega) (by omega)
    have ih := ih (k + 1) (by omega)
    have hw2 : IntKind.i64.wrap ((k : Int) + 1) = ((k + 1 : Nat) : Int) := by
      rw [w64 (by omega) (by omega)]
      omega
    rw [L8_0_go, List.drop_eq_getElem_cons hkl, List.any_cons, ← nth_get c.m.o k hkl]
    simp only [Int.toNat_natCast, encO_eq] at ia
    have hbl : (bs false (nth c.m.o k).2) = .rs false 1 ((nth c.m.o k).2.map by8) := rfl
    generalize nth c.m.o k = o at *
    by_cases hb : 300 < o.2.length
    · have hb' : (300 : Int) < (o.2.length : Int) := by omega
      simp (disch := first | omega | (simp only [List.length_cons, List.length_nil, List.length_append, List.length_map, List.length_set]; omega) | rfl | (simp only [List.length_cons, List.length_nil, List.length_append, List.length_map, List.length_set, List.length_replicate, List.all_cons, List.all_nil, List.all_append, storable, plainB, Bool.and_self]; done)) only [go_sem, reduceCtorEq, ↓reduceIte, reduceDIte, evI_callP, callPK_some, B8_0, T8_0, T8_1, hlt, hia, ia, olen, hb, hb']
    · have hb' : ¬ (300 : Int) < (o.2.length : Int) := by omega
      simp (disch := first | omega | (simp only [List.length_cons, List.length_nil, List.length_append, List.length_map, List.length_set]; omega) | rfl | (simp only [List.length_cons, List.length_nil, List.length_append, List.length_map, List.length_set, List.length_replicate, List.all_cons, List.all_nil, List.all_append, storable, plainB, Bool.and_self]; done)) only [go_sem, reduceCtorEq, ↓reduceIte, reduceDIte, evI_callP, callPK_some, B8_0, T8_0, hlt, hia, ia, olen, hb, hb', hw2, L8_0_lp] at ih ⊢
      exact ih
theorem great_out (l : List Cm) (hl : l.length ≤ 60) (h : Heap) : ∀ (n i : Nat), i + n = l.length →
    T8_1 E (lp E L8_1 [(0, cmR l), (3, .int .i64 (i : Int))] h) = some (.bool ((l.drop i).any fun c => big c.m), h) := by
  intro n
  induction n with
  | zero =>
    intro i hi
    have hlt : ¬ (i : Int) < (l.length : Int) := by omega
    rw [L8_1_go, List.drop_of_length_le (by omega)]
    simp (disch := first | omega | (simp only [List.length_cons, List.length_nil, List.length_append, List.length_map, List.length_set]; omega) | rfl | (simp only [List.length_cons, List.length_nil, List.length_append, List.length_map, List.length_set, List.length_replicate, List.all_cons, List.all_nil, List.all_append, storable, plainB, Bool.and_self]; done)) only [go_sem, reduceCtorEq, ↓reduceIte, reduceDIte, evI_callP, callPK_some, B8_1, T8_1, hlt, List.any_nil]
  | succ n ih =>
    intro i hi
    have hil : i < l.length := by omega
    have hlt : (i : Int) < (l.length : Int) := by omega
    have hia := cm_iaddr hil hl
    have ih := ih (i + 1) (by omega)
    rw [L8_1_go, List.drop_eq_getElem_cons hil, List.any_cons]
    generalize l[i] = c at *
    by_cases h4 : 40 < c.m.o.length
    · have h4' : (40 : Int) < (c.m.o.length : Int) := by omega
      have hb : big c.m = true := by simp [big, h4]
      simp (disch := first | omega | (simp only [List.length_cons, List.length_nil, List.length_append, List.length_map, List.length_set]; omega) | rfl | (simp only [List.length_cons, List.length_nil, List.length_append, List.length_map, List.length_set, List.length_replicate, List.all_cons, List.all_nil, List.all_append, storable, plainB, Bool.and_self]; done)) only [go_sem, reduceCtorEq, ↓reduceIte, reduceDIte, evI_callP, callPK_some, B8_1, T8_1, hlt, hia, olen, h4', hb]
    · have h4' : ¬ (40 : Int) < (c.m.o.length : Int) := by omega
      have hin := great_in l c i (by omega) hia (by omega) h c.m.o.length 0 (by omega)
      rw [ih, List.drop_zero] at hin
      have hb : big c.m = c.m.o.any fun o => decide (300 < o.2.length) := by simp [big, h4]
      have e : (if (c.m.o.any fun o => decide (300 < o.2.length)) = true then some (AV.bool true, h) else some (.bool ((l.drop (i + 1)).any fun c => big c.m), h)) = some (.bool (big c.m || (l.drop (i + 1)).any fun c => big c.m), h) := by
        rw [hb]
        split
        · rename_i hh; rw [hh]; rfl
        · rename_i hh; rw [Bool.not_eq_true] at hh; rw [hh]; rfl
      rw [e] at hin
      refine Eq.trans ?_ hin
      simp (disch := first | omega | (simp only [List.length_cons, List.length_nil, List.length_append, List.length_map, List.length_set]; omega) | rfl | (simp only [List.length_cons, List.length_nil, List.length_append, List.length_map, List.length_set, List.length_replicate, List.all_cons, List.all_nil, List.all_append, storable, plainB, Bool.and_self]; done)) only [go_sem, reduceCtorEq, ↓reduceIte, reduceDIte, evI_callP, callPK_some, B8_1, T8_0, hlt, hia, olen, h4', L8_0_lp]
theorem s8 (l : List Cm) : pcall E 8 [cmR l] = some (.bool (tooG l), []) := by
  rw [pcall_go (fn := I8) rfl rfl rfl]
  have hk : E.keep 8 = false := rfl
  unfold tooG
  by_cases h : 60 < l.length
  · have h' : (60 : Int) < (l.length : Int) := by omega
    simp (disch := first | omega | (simp only [List.length_cons, List.length_nil, List.length_append, List.length_map, List.length_set]; omega) | rfl | (simp only [List.length_cons, List.length_nil, List.length_append, List.length_map, List.length_set, List.length_replicate, List.all_cons, List.all_nil, List.all_append, storable, plainB, Bool.and_self]; done)) only [go_sem, reduceCtorEq, ↓reduceIte, reduceDIte, evI_callP, callPK_some, I8, hk, h, h']
  · have h' : ¬ (60 : Int) < (l.length : Int) := by omega
    have i1 := great_out l (by omega) [] l.length 0 (by omega)
    simp (disch := first | omega | (simp only [List.length_cons, List.length_nil, List.length_append, List.length_map, List.length_set]; omega) | rfl | (simp only [List.length_cons, List.length_nil, List.length_append, List.length_map, List.length_set, List.length_replicate, List.all_cons, List.all_nil, List.all_append, storable, plainB, Bool.and_self]; done)) only [go_sem, reduceCtorEq, ↓reduceIte, reduceDIte, evI_callP, callPK_some, I8, hk, h, h', L8_1_lp]
    exact (congrArg (Option.bind · (finish false)) i1).trans (by simp only [go_sem, reduceCtorEq, ↓reduceIte, reduceDIte, evI_callP, callPK_some])

/-! ### arguments -/

theorem U32_arg {x : AV} (h : Arg Try.prog 23 x) : ∃ v : UInt32, x = w32 v := by
  obtain ⟨n, rfl, hw⟩ := h.int_inv Try.underlying23
  simp [Lit.wf, IntKind.min, IntKind.max, IntKind.signed, IntKind.bits] at hw
  refine ⟨UInt32.ofNat n.toNat, ?_⟩
  show _ = AV.int .u32 _
  rw [of32 (by omega)]
  congr 1
  omega
theorem U16_arg {x : AV} (h : Arg Try.prog 24 x) : ∃ v : UInt16, x = .int .u16 (v.toNat : Int) := by
  obtain ⟨n, rfl, hw⟩ := h.int_inv Try.underlying24
  simp [Lit.wf, IntKind.min, IntKind.max, IntKind.signed, IntKind.bits] at hw
  refine ⟨UInt16.ofNat n.toNat, ?_⟩
  rw [UInt16.toNat_ofNat_of_lt' (by show _ < 65536; omega)]
  congr 1
  omega
theorem U64_arg {x : AV} (h : Arg Try.prog 30 x) : ∃ v : UInt64, x = i64u v := by
  obtain ⟨n, rfl, hw⟩ := h.int_inv Try.underlying30
  simp [Lit.wf, IntKind.min, IntKind.max, IntKind.signed, IntKind.bits] at hw
  refine ⟨UInt64.ofNat n.toNat, ?_⟩
  show _ = AV.int .u64 _
  rw [UInt64.toNat_ofNat', Nat.mod_eq_of_lt (by omega)]
  congr 1
  omega
theorem opt_arg {x : AV} (h : Arg Try.prog 49 x) : ∃ o : Opt, x = .agg (encO o) := by
  obtain ⟨ys, hl, hy, rfl⟩ := h.struct_inv Try.underlying49
  match ys, hl with
  | [y0, y1], _ =>
    obtain ⟨c, rfl⟩ := u8_arg (hy 0 _ y0 rfl rfl)
    obtain ⟨d, rfl, _⟩ := bytes_arg (hy 1 _ y1 rfl rfl)
    exact ⟨(c, d), rfl⟩
theorem opts_arg {x : AV} (h : Arg Try.prog 27 x) : ∃ l : List Opt, x = opts false l := by
  obtain ⟨l, rfl, hb, hl⟩ := h.slice_inv Try.underlying27
  rw [show Try.prog.cellsOf 49 = 2 by kernel_rfl]
  suffices ∃ m : List Opt, l = m.map fun o => .agg (encO o) by
    obtain ⟨m, rfl⟩ := this
    exact ⟨m, rfl⟩
  clear hb h
  induction l with
  | nil => exact ⟨[], rfl⟩
  | cons y l ih =>
    obtain ⟨v, rfl⟩ := opt_arg (hl y (by simp))
    obtain ⟨m, rfl⟩ := ih fun z hz => hl z (by simp [hz])
    exact ⟨v :: m, rfl⟩
theorem mac_arg {x : AV} (h : Arg Try.prog 26 x) : ∃ a b c d e f : UInt8, x = .agg [.int .u8 (a.toNat : Int), .int .u8 (b.toNat : Int), .int .u8 (c.toNat : Int), .int .u8 (d.toNat : Int), .int .u8 (e.toNat : Int), .int .u8 (f.toNat : Int)] := by
  obtain ⟨l, hl, hy, rfl⟩ := h.array_inv Try.underlying26
  match l, hl with
  | [y0, y1, y2, y3, y4, y5], _ =>
    obtain ⟨a, rfl⟩ := u8_arg (hy y0 (by simp))
    obtain ⟨b, rfl⟩ := u8_arg (hy y1 (by simp))
    obtain ⟨c, rfl⟩ := u8_arg (hy y2 (by simp))
    obtain ⟨d, rfl⟩ := u8_arg (hy y3 (by simp))
    obtain ⟨e, rfl⟩ := u8_arg (hy y4 (by simp))
    obtain ⟨f, rfl⟩ := u8_arg (hy y5 (by simp))
    exact ⟨a, b, c, d, e, f, rfl⟩
theorem msg_arg {x : AV} (h : Arg Try.prog 29 x) : ∃ m : Msg, x = .agg (encG false m) := by
  obtain ⟨ys, hl, hy, rfl⟩ := h.struct_inv Try.underlying29
  match ys, hl with
  | [y0, y1, y2, y3, y4, y5, y6, y7, y8, y9], _ =>
    obtain ⟨op, rfl⟩ := u8_arg (hy 0 _ y0 rfl rfl)
    obtain ⟨xid, rfl⟩ := U32_arg (hy 1 _ y1 rfl rfl)
    obtain ⟨secs, rfl⟩ := U16_arg (hy 2 _ y2 rfl rfl)
    obtain ⟨wide, rfl⟩ := (hy 3 _ y3 rfl rfl).bool_inv Try.underlying4
    obtain ⟨ci, rfl⟩ := U32_arg (hy 4 _ y4 rfl rfl)
    obtain ⟨yi, rfl⟩ := U32_arg (hy 5 _ y5 rfl rfl)
    obtain ⟨si, rfl⟩ := U32_arg (hy 6 _ y6 rfl rfl)
    obtain ⟨gi, rfl⟩ := U32_arg (hy 7 _ y7 rfl rfl)
    obtain ⟨a, b, c, d, e, f, rfl⟩ := mac_arg (hy 8 _ y8 rfl rfl)
    obtain ⟨o, rfl⟩ := opts_arg (hy 9 _ y9 rfl rfl)
    exact ⟨⟨op, xid, secs, wide, ci, yi, si, gi, a, b, c, d, e, f, o⟩, rfl⟩
theorem cm_arg {x : AV} (h : Arg Try.prog 34 x) : ∃ c : Cm, x = cmA c := by
  obtain ⟨ys, hl, hy, rfl⟩ := h.struct_inv Try.underlying34
  match ys, hl with
  | [y0, y1, y2], _ =>
    obtain ⟨m, rfl⟩ := msg_arg (hy 0 _ y0 rfl rfl)
    obtain ⟨now, rfl⟩ := U64_arg (hy 1 _ y1 rfl rfl)
    obtain ⟨sw, rfl⟩ := (hy 2 _ y2 rfl rfl).bool_inv Try.underlying4
    exact ⟨⟨m, now, sw⟩, rfl⟩
theorem cms_arg {x : AV} (h : Arg Try.prog 22 x) : ∃ l : List Cm, x = cmR l := by
  obtain ⟨l, rfl, hb, hl⟩ := h.slice_inv Try.underlying22
  rw [show Try.prog.cellsOf 34 = 17 by kernel_rfl]
  suffices ∃ m : List Cm, l = m.map cmA by
    obtain ⟨m, rfl⟩ := this
    exact ⟨m, rfl⟩
  clear hb h
  induction l with
  | nil => exact ⟨[], rfl⟩
  | cons y l ih =>
    obtain ⟨v, rfl⟩ := cm_arg (hl y (by simp))
    obtain ⟨m, rfl⟩ := ih fun z hz => hl z (by simp [hz])
    exact ⟨v :: m, rfl⟩

/-- What a book is like that only a server writes. -/
structure Bg (B : Bk) (n : Nat) : Prop where
  kin : Kin smallB B
  ln : B.ln.length ≤ n
  rs : B.rs.length ≤ n
  once : Once B.ln
  inn : ∀ q ∈ B.ln, q.2.ip ∉ B.bar
theorem Bg.zero : Bg smallB 0 := ⟨Kin.refl _, Nat.le_refl _, Nat.le_refl _, List.Pairwise.nil, fun q hq => by cases hq⟩
theorem Bg.ok {B : Bk} {n : Nat} (g : Bg B n) : B.Ok := g.kin.ok smallB_ok
theorem Bg.mono {B : Bk} {n k : Nat} (g : Bg B n) (h : n ≤ k) : Bg B k := ⟨g.kin, Nat.le_trans g.ln h, Nat.le_trans g.rs h, g.once, g.inn⟩
/-- The loans' side of it. -/
def Good (B : Bk) : Prop := Once B.ln ∧ ∀ q ∈ B.ln, q.2.ip ∉ B.bar
theorem good_put {B : Bk} (g : Good B) {c : List UInt8} {l : Ln} (h : l.ip ∉ B.bar) : Good (B.put c l) := by
  refine ⟨g.1.put c l, fun q hq => ?_⟩
  rcases (mem_aput _ _ _ _).1 hq with rfl | ⟨h1, _⟩
  · exact h
  · exact g.2 q h1
theorem good_cut {B : Bk} (g : Good B) (c : List UInt8) : Good (B.cut c) := ⟨g.1.del c, fun q hq => g.2 q ((mem_adel _ _ _).1 hq).1⟩
theorem free_bar {B : Bk} {ip : UInt32} {now : UInt64} (h : B.free ip now = true) : ip ∉ B.bar := by
  unfold Bk.free at h
  simp only [Bool.and_eq_true, Bool.not_eq_true', Bool.or_eq_false_iff, decide_eq_false_iff_not] at h
  exact h.1.1.2
theorem scan_free {B : Bk} {now : UInt64} {ip : UInt32} : ∀ {n k : Nat}, B.scan now n k = some ip → B.free ip now = true
  | 0, k, h => by cases h
  | n + 1, k, h => by
    unfold Bk.scan at h
    split at h
    · rename_i hf
      injection h with h
      subst h
      exact hf
    · exact scan_free h
theorem find_free {B : Bk} {wish : UInt32} {now : UInt64} {ip : UInt32} (h : B.find wish now = some ip) : B.free ip now = true := by
  unfold Bk.find at h
  split at h
  · rename_i hf
    injection h with h
    subst h
    exact hf
  · exact scan_free h
theorem of_mem {B : Bk} {c : List UInt8} {now : UInt64} {l : Ln} (h : B.of c now = some l) : (c, l) ∈ B.ln ∧ aget c B.ln = some l ∧ ¬ l.til.toNat ≤ (bU now).toNat := by
  unfold Bk.of at h
  cases ha : aget c B.ln with
  | none => rw [ha] at h; cases h
  | some l' =>
    rw [ha] at h
    simp only [Option.bind_some] at h
    split at h
    · cases h
    · rename_i hn
      injection h with h
      subst h
      exact ⟨aget_mem ha, rfl, hn⟩
theorem good_offer {B : Bk} (g : Good B) (c : List UInt8) (w : UInt32) (now til : UInt64) : Good (B.offer c w now til).1 := by
  unfold Bk.offer
  split
  · exact g
  split
  · rename_i l hl
    split
    · exact g
    · exact good_put g (g.2 _ (of_mem hl).1)
  · split
    · rename_i ip hf
      exact good_put g (free_bar (find_free hf))
    · exact g
theorem good_firm {B : Bk} (g : Good B) (c : List UInt8) (w : UInt32) (now til : UInt64) : Good (B.firm c w now til).1 := by
  unfold Bk.firm
  split
  · rename_i l hl
    split
    · rename_i he
      exact good_put g (he ▸ g.2 _ (of_mem hl).1)
    · exact g
  · exact g
theorem good_drop {B : Bk} (g : Good B) (c : List UInt8) (f : Bool) : Good (B.drop c f).1 := by
  unfold Bk.drop
  repeat' split
  all_goals first | exact good_cut g c | exact g
theorem good_rest {B : Bk} (g : Good B) (c : List UInt8) (w : UInt32) (now til : UInt64) : Good (B.rest c w now til).1 := by
  unfold Bk.rest
  repeat' split
  all_goals first | exact good_cut g c | exact g
theorem good_hear (C : Cf) {B : Bk} (g : Good B) (m : Msg) (now : UInt64) : Good (hearM C B m now).1 :=
  hear_ind (fun B B' => Good B → Good B') C B m now (fun g => g) (fun _ _ _ _ g => good_offer g ..) (fun _ _ _ _ g => good_firm g ..) (fun _ _ g => good_drop g ..) (fun _ _ _ _ g => good_rest g ..) g
theorem good_sweep {B : Bk} (g : Good B) (now : UInt64) : Good (B.sweep now) := ⟨List.Pairwise.filter _ g.1, fun q hq => g.2 q (List.mem_filter.1 hq).1⟩
theorem Bg.hear {B : Bk} {n : Nat} (g : Bg B n) (m : Msg) (now : UInt64) : Bg (hearM smallC B m now).1 (n + 1) := by
  have h1 := few_hear smallC B m now
  have h2 := good_hear smallC ⟨g.once, g.inn⟩ m now
  exact ⟨g.kin.trans (kin_hear smallC B m now), Nat.le_trans h1.1 (Nat.succ_le_succ g.ln), Nat.le_trans h1.2 (Nat.succ_le_succ g.rs), h2.1, h2.2⟩
theorem Bg.sweep {B : Bk} {n : Nat} (g : Bg B n) (now : UInt64) : Bg (B.sweep now) (n + 1) := by
  have h1 := few_sweep B now
  have h2 := good_sweep ⟨g.once, g.inn⟩ now
  exact ⟨g.kin.trans (kin_sweep B now), Nat.le_trans h1.1 (Nat.succ_le_succ g.ln), Nat.le_trans h1.2 (Nat.succ_le_succ g.rs), h2.1, h2.2⟩

/-- A server in memory. -/
structure Lv (h : Heap) (p : Pl) (B : Bk) (n : Nat) : Prop where
  sx : Sx h p smallC B
  bg : Bg B n
theorem Lv.app {h : Heap} {p : Pl} {B : Bk} {n : Nat} (v : Lv h p B n) (X : Heap) : Lv (h ++ X) p B n := ⟨v.sx.app X, v.bg⟩
theorem Lv.mono {h : Heap} {p : Pl} {B : Bk} {n k : Nat} (v : Lv h p B n) (hk : n ≤ k) : Lv h p B k := ⟨v.sx, v.bg.mono hk⟩
theorem Lv.hear {h : Heap} {p : Pl} {B : Bk} {n : Nat} (v : Lv h p B n) (hn : n ≤ 1000) (m : Msg) (hl : small m.o) (now : UInt64) :
    ∃ h', hcall E 13 [.ref p.s 0 0, .agg (encG false m), i64u now] h = some (ansV (hearM smallC B m now).2, h') ∧ Lv h' p (hearM smallC B m now).1 (n + 1) ∧ Cs h h' := by
  have l1 := v.bg.ln
  have l2 := v.bg.rs
  obtain ⟨h', e, a1, a2⟩ := hear_at v.sx v.bg.ok (by omega) (by omega) m hl now
  exact ⟨h', e, ⟨a1, v.bg.hear m now⟩, a2⟩
theorem Lv.sweep {h : Heap} {p : Pl} {B : Bk} {n : Nat} (v : Lv h p B n) (hn : n ≤ 1000) (now : UInt64) :
    ∃ h' k, hcall E 19 [.ref p.k 0 0, i64u now] h = some (.int .i64 k, h') ∧ Lv h' p (B.sweep now) (n + 1) ∧ Cs h h' := by
  have l1 := v.bg.ln
  have l2 := v.bg.rs
  obtain ⟨h', k, e, a1, a2⟩ := sweep_at v.sx (by omega) (by omega) now
  exact ⟨h', k, e, ⟨a1, v.bg.sweep now⟩, a2⟩
theorem new_lv (h : Heap) : ∃ X p, hcall E 11 [.agg smallV] h = some (.tup [.ref p.s 0 0, .int .i64 0], h ++ X) ∧ Lv (h ++ X) p smallB 0 ∧ h.length ≤ p.s := by
  obtain ⟨X, p, e, a, b⟩ := new_small h
  exact ⟨X, p, e, ⟨a, Bg.zero⟩, b⟩
/-- What stands where, behind anything. -/
structure Gets (h : Heap) (p : Pl) (B : Bk) : Prop where
  sv : h[p.s]? = some (.cells true [.int .u32 167772161, .int .u32 4294967040, .int .u32 167772161, .int .u32 167772163, .int .u32 100, .int .u32 10, .int .u32 50, .ref p.k 0 0] 77)
  bk : h[p.k]? = some (B.obj p.kb p.kl p.kr)
  bb : h[p.kb]? = some (brO B.bar)
  bl : h[p.kl]? = some (lnO B.ln)
  br : h[p.kr]? = some (rsO B.rs)
theorem Lv.gets {h : Heap} {p : Pl} {B : Bk} {n : Nat} (v : Lv h p B n) : Gets h p B := ⟨v.sx.sat.sv, v.sx.sat.bk.bk, v.sx.sat.bk.bb, v.sx.sat.bk.bl, v.sx.sat.bk.br⟩
theorem rd_book : E.rd 12 = some (false, 7, 1) := rfl
end Go.Fw.Wd
