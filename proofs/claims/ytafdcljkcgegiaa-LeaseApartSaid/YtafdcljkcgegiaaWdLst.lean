/-
  A book that lies first in memory: what the calls leave. Conditions: stated at each.
-/
import Derived.Test.YtafdcljkcgegiaaWdLdo
import Derived.Test.YtafdcljkcgegiaaWdLargs
set_option linter.unusedVariables false
set_option linter.unusedSimpArgs false
namespace Go.Fw.Wd
open Go.Proofs Code_

/-- Memory with a book at its start. -/
def bh (B : Bk) (J : Heap) : Heap := brO B.bar :: lnO B.ln :: rsO B.rs :: B.obj 0 1 2 :: J
theorem bh_at (B : Bk) (J : Heap) : BAt (bh B J) 3 0 1 2 B := ⟨rfl, rfl, rfl, rfl⟩
theorem bh0 (B : Bk) (J : Heap) : (bh B J)[0]? = some (brO B.bar) := (rfl)
theorem bh1 (B : Bk) (J : Heap) : (bh B J)[1]? = some (lnO B.ln) := (rfl)
theorem bh2 (B : Bk) (J : Heap) : (bh B J)[2]? = some (rsO B.rs) := (rfl)
theorem bh3 (B : Bk) (J : Heap) : (bh B J)[3]? = some (B.obj 0 1 2) := (rfl)
theorem bh_app (B : Bk) (J X : Heap) : bh B J ++ X = bh B (J ++ X) := (rfl)
theorem bh_len (B : Bk) (J : Heap) : (bh B J).length = J.length + 4 := (rfl)
theorem bh_top (B : Bk) (J : Heap) (c : AObj) (X : Heap) : (bh B (J ++ c :: X))[J.length + 4]? = some c := gtop J c X
theorem bh_stop (B : Bk) (J : Heap) (c d : AObj) (X : Heap) : (bh B (J ++ c :: X)).set (J.length + 4) d = bh B (J ++ d :: X) := by
  show _ :: _ :: _ :: _ :: (J ++ c :: X).set J.length d = _
  rw [stop]
  rfl
/-- Books of the same addresses. -/
structure Kin (B B' : Bk) : Prop where
  fst : B'.fst = B.fst
  lst : B'.lst = B.lst
  bar : B'.bar = B.bar
theorem Kin.refl (B : Bk) : Kin B B := ⟨rfl, rfl, rfl⟩
theorem Kin.trans {A B C : Bk} (a : Kin A B) (b : Kin B C) : Kin A C := ⟨b.fst.trans a.fst, b.lst.trans a.lst, b.bar.trans a.bar⟩
theorem Kin.ok {B B' : Bk} (a : Kin B B') (h : B.Ok) : B'.Ok := ⟨by rw [a.fst, a.lst]; exact h.le, by rw [a.fst, a.lst]; exact h.few⟩
theorem bh_set {B B' : Bk} (a : Kin B B') (hr : B'.rs = B.rs) (J X : Heap) : (bh B J).set 1 (lnO B'.ln) ++ X = bh B' (J ++ X) := by
  unfold bh Bk.obj
  rw [a.fst, a.lst, a.bar, hr]
  rfl
theorem bh_set2 {B B' : Bk} (a : Kin B B') (J X : Heap) : ((bh B J).set 1 (lnO B'.ln)).set 2 (rsO B'.rs) ++ X = bh B' (J ++ X) := by
  unfold bh Bk.obj
  rw [a.fst, a.lst, a.bar]
  rfl
theorem kin_offer (B : Bk) (c : List UInt8) (w : UInt32) (now til : UInt64) : Kin B (B.offer c w now til).1 ∧ (B.offer c w now til).1.rs = B.rs := by
  unfold Bk.offer
  repeat' split
  all_goals exact ⟨⟨rfl, rfl, rfl⟩, rfl⟩
theorem kin_firm (B : Bk) (c : List UInt8) (w : UInt32) (now til : UInt64) : Kin B (B.firm c w now til).1 ∧ (B.firm c w now til).1.rs = B.rs := by
  unfold Bk.firm
  repeat' split
  all_goals exact ⟨⟨rfl, rfl, rfl⟩, rfl⟩
theorem kin_drop (B : Bk) (c : List UInt8) (f : Bool) : Kin B (B.drop c f).1 ∧ (B.drop c f).1.rs = B.rs := by
  unfold Bk.drop
  repeat' split
  all_goals exact ⟨⟨rfl, rfl, rfl⟩, rfl⟩
theorem kin_rest (B : Bk) (c : List UInt8) (w : UInt32) (now til : UInt64) : Kin B (B.rest c w now til).1 := by
  unfold Bk.rest
  repeat' split
  all_goals exact ⟨rfl, rfl, rfl⟩
theorem kin_sweep (B : Bk) (now : UInt64) : Kin B (B.sweep now) := ⟨rfl, rfl, rfl⟩
theorem kin_step (B : Bk) (c : Cl) : Kin B (B.step c) := by
  unfold Bk.step
  split
  · exact (kin_offer ..).1
  split
  · exact (kin_firm ..).1
  split
  · exact (kin_drop ..).1
  split
  · exact kin_rest ..
  split
  · exact kin_sweep ..
  · exact Kin.refl B
theorem len_aput {α β : Type} [DecidableEq α] {lt : α → α → Bool} (k : α) (v : β) (l : List (α × β)) : (aput lt k v l).length ≤ l.length + 1 := by
  unfold aput
  rw [len_ains]
  have := len_adel k l
  omega
theorem len_offer (B : Bk) (c : List UInt8) (w : UInt32) (now til : UInt64) : (B.offer c w now til).1.ln.length ≤ B.ln.length + 1 := by
  unfold Bk.offer
  repeat' split
  all_goals first | exact len_aput _ _ _ | exact Nat.le_succ _
theorem len_firm (B : Bk) (c : List UInt8) (w : UInt32) (now til : UInt64) : (B.firm c w now til).1.ln.length ≤ B.ln.length + 1 := by
  unfold Bk.firm
  repeat' split
  all_goals first | exact len_aput _ _ _ | exact Nat.le_succ _
theorem len_step (B : Bk) (c : Cl) : (B.step c).ln.length ≤ B.ln.length + 1 ∧ (B.step c).rs.length ≤ B.rs.length + 1 := by
  unfold Bk.step
  split
  · exact ⟨len_offer .., by rw [(kin_offer ..).2]; omega⟩
  split
  · exact ⟨len_firm .., by rw [(kin_firm ..).2]; omega⟩
  split
  · refine ⟨?_, by rw [(kin_drop ..).2]; omega⟩
    unfold Bk.drop
    repeat' split
    all_goals first | exact Nat.le_trans (len_adel _ _) (Nat.le_succ _) | exact Nat.le_succ _
  split
  · unfold Bk.rest
    repeat' split
    all_goals first | exact ⟨Nat.le_trans (len_adel _ _) (Nat.le_succ _), len_aput _ _ _⟩ | exact ⟨Nat.le_succ _, Nat.le_succ _⟩
  split
  · exact ⟨Nat.le_trans (List.length_filter_le _ _) (Nat.le_succ _), Nat.le_trans (List.length_filter_le _ _) (Nat.le_succ _)⟩
  · exact ⟨Nat.le_succ _, Nat.le_succ _⟩
section
variable {B : Bk} (hB : B.Ok) (hn : B.ln.length ≤ 1048576) (hs : B.rs.length ≤ 1048576) (J : Heap) (c : List UInt8) (hc : c.length ≤ 1048576)
include hB hn hc
theorem b_offer (w : UInt32) (now til : UInt64) : ∃ J', hcall E 19 [.ref 3 0 0, sv c, i32 w, i64u now, i64u til] (bh B J) = some (.tup [i32 (B.offer c w now til).2.1, .int .i64 (B.offer c w now til).2.2], bh (B.offer c w now til).1 J') := by
  obtain ⟨J', h⟩ := m19 (bh_at B J) hB hn c hc w now til
  obtain ⟨k1, k2⟩ := kin_offer B c w now til
  exact ⟨J ++ J', by rw [h, bh_set k1 k2]⟩
omit hB in
theorem b_firm (w : UInt32) (now til : UInt64) : ∃ J', hcall E 20 [.ref 3 0 0, sv c, i32 w, i64u now, i64u til] (bh B J) = some (.int .i64 (B.firm c w now til).2, bh (B.firm c w now til).1 J') := by
  obtain ⟨J', h⟩ := m20 (bh_at B J) hn c hc w now til
  obtain ⟨k1, k2⟩ := kin_firm B c w now til
  exact ⟨J ++ J', by rw [h, bh_set k1 k2]⟩
include hs in
omit hB in
theorem b_rest (w : UInt32) (now til : UInt64) : ∃ J', hcall E 21 [.ref 3 0 0, sv c, i32 w, i64u now, i64u til] (bh B J) = some (.int .i64 (B.rest c w now til).2, bh (B.rest c w now til).1 J') := by
  obtain ⟨J', h⟩ := m21 (bh_at B J) hn hs c hc w now til
  exact ⟨J ++ J', by rw [h, bh_set2 (kin_rest B c w now til)]⟩
end
/-- A call on the book, and on a new document's book behind it. -/
theorem b_do {B : Bk} (hB : B.Ok) (hn : B.ln.length ≤ 1048576) (hs : B.rs.length ≤ 1048576) (J : Heap) (c : Cl) (hc : c.client.length ≤ 1048576) :
    ∃ ok X J', hcall E 11 [.ref 3 0 0, .ref (J.length + 4) 0 0, .agg c.cs] (bh B (J ++ [zObj])) = some (.bool ok, bh (B.step c) (J ++ X :: J')) := by
  obtain ⟨ok, X, J', h⟩ := do0 (bh_at B (J ++ [zObj])) (r := J.length + 4) (bh_top B J zObj []) hB hn hs c hc
  have e := bh_set2 (kin_step B c) (J ++ [zObj]) []
  rw [List.append_nil, List.append_nil] at e
  refine ⟨ok, X, J', ?_⟩
  rw [h, e, bh_stop, bh_app]
  simp
abbrev clA (c : Cl) : AV := .agg c.cs
abbrev clR (g : Bool) (l : List Cl) : AV := .rs g 6 (l.map clA)
/-- Calls that are looked at. -/
def tooGreat (l : List Cl) : Bool := decide (100 < l.length) || l.any fun c => decide (300 < c.client.length)
theorem great_loop (g : Bool) (l : List Cl) (hl : l.length ≤ 100) (h : Heap) : ∀ (n i : Nat), i + n = l.length →
    T8_0 E (lp E L8_0 [(0, clR g l), (3, .int .i64 (i : Int))] h) = some (.bool ((l.drop i).any fun c => decide (300 < c.client.length)), h) := by
  intro n
  induction n with
  | zero =>
    intro i hi
    have hlt : ¬ (i : Int) < (l.length : Int) := by omega
    rw [L8_0_go, List.drop_of_length_le (by omega)]
    simp (disch := first | omega | (simp only [List.length_cons, List.length_nil, List.length_append, List.length_map, List.length_set]; omega) | rfl | (simp only [List.length_cons, List.length_nil, List.length_append, List.length_map, List.length_set, List.length_replicate, List.all_cons, List.all_nil, List.all_append, storable, plainB, Bool.and_self]; done)) only [go_sem, reduceCtorEq, ↓reduceIte, reduceDIte, evI_callP, callPK_some, B8_0, T8_0, hlt, List.any_nil]
  | succ n ih =>
    intro i hi
    have hlt : (i : Int) < (l.length : Int) := by omega
    have hil : i < l.length := by omega
    have hia : ∀ H : Heap, iaddrK H 6 (clR g l) (.int .i64 (i : Int)) = some (.rp g (clA l[i]), H) := fun H => by
      rw [iaddrK_rs H 6 g _ _ _ (by omega) (by rw [List.length_map]; omega), Int.toNat_natCast, List.getD_eq_getElem?_getD, List.getElem?_map, List.getElem?_eq_getElem hil]
      rfl
    have hw : IntKind.i64.wrap ((i : Int) + 1) = ((i + 1 : Nat) : Int) := by
      rw [w64 (by omega) (by omega)]
      omega
    have ih := ih (i + 1) (by omega)
    have hcz : ∀ c : List UInt8, (⟨c.toArray⟩ : ByteArray).size = c.length := fun c => rfl
    rw [L8_0_go, List.drop_eq_getElem_cons hil, List.any_cons]
    by_cases hb : 300 < l[i].client.length
    · have hb' : (300 : Int) < (l[i].client.length : Int) := by omega
      simp (disch := first | omega | (simp only [List.length_cons, List.length_nil, List.length_append, List.length_map, List.length_set]; omega) | rfl | (simp only [List.length_cons, List.length_nil, List.length_append, List.length_map, List.length_set, List.length_replicate, List.all_cons, List.all_nil, List.all_append, storable, plainB, Bool.and_self]; done)) only [go_sem, reduceCtorEq, ↓reduceIte, reduceDIte, evI_callP, callPK_some, B8_0, T8_0, hlt, hia, hcz, hb, hb']
    · have hb' : ¬ (300 : Int) < (l[i].client.length : Int) := by omega
      simp (disch := first | omega | (simp only [List.length_cons, List.length_nil, List.length_append, List.length_map, List.length_set]; omega) | rfl | (simp only [List.length_cons, List.length_nil, List.length_append, List.length_map, List.length_set, List.length_replicate, List.all_cons, List.all_nil, List.all_append, storable, plainB, Bool.and_self]; done)) only [go_sem, reduceCtorEq, ↓reduceIte, reduceDIte, evI_callP, callPK_some, B8_0, T8_0, hlt, hia, hcz, hb, hb', hw, L8_0_lp] at ih ⊢
      exact ih
theorem s8 (g : Bool) (l : List Cl) : pcall E 8 [clR g l] = some (.bool (tooGreat l), []) := by
  rw [pcall_go (fn := I8) rfl rfl rfl]
  have hk : E.keep 8 = false := rfl
  unfold tooGreat
  by_cases h : 100 < l.length
  · have h' : (100 : Int) < (l.length : Int) := by omega
    simp (disch := first | omega | (simp only [List.length_cons, List.length_nil, List.length_append, List.length_map, List.length_set]; omega) | rfl | (simp only [List.length_cons, List.length_nil, List.length_append, List.length_map, List.length_set, List.length_replicate, List.all_cons, List.all_nil, List.all_append, storable, plainB, Bool.and_self]; done)) only [go_sem, reduceCtorEq, ↓reduceIte, reduceDIte, evI_callP, callPK_some, I8, hk, h, h']
  · have h' : ¬ (100 : Int) < (l.length : Int) := by omega
    have i1 := great_loop g l (by omega) [] l.length 0 (by omega)
    simp (disch := first | omega | (simp only [List.length_cons, List.length_nil, List.length_append, List.length_map, List.length_set]; omega) | rfl | (simp only [List.length_cons, List.length_nil, List.length_append, List.length_map, List.length_set, List.length_replicate, List.all_cons, List.all_nil, List.all_append, storable, plainB, Bool.and_self]; done)) only [go_sem, reduceCtorEq, ↓reduceIte, reduceDIte, evI_callP, callPK_some, I8, hk, h, h', L8_0_lp]
    exact (congrArg (Option.bind · (finish false)) i1).trans (by simp only [go_sem, reduceCtorEq, ↓reduceIte, reduceDIte, evI_callP, callPK_some])
theorem great_not {l : List Cl} (h : tooGreat l = false) : l.length ≤ 100 ∧ ∀ c ∈ l, c.client.length ≤ 300 := by
  unfold tooGreat at h
  simp only [Bool.or_eq_false_iff, decide_eq_false_iff_not, List.any_eq_false, decide_eq_true_eq] at h
  exact ⟨by omega, fun c hc => by have := h.2 c hc; omega⟩
theorem str_arg {x : AV} (h : Arg Try.prog 9 x) : ∃ c : List UInt8, x = sv c := by
  obtain ⟨b, rfl, _⟩ := h.str_inv Try.underlying9
  exact ⟨b.data.toList, rfl⟩
theorem cl_arg {x : AV} (h : Arg Try.prog 27 x) : ∃ c : Cl, x = clA c := by
  obtain ⟨ys, hl, hy, rfl⟩ := h.struct_inv Try.underlying27
  match ys, hl with
  | [y0, y1, y2, y3, y4, y5], _ =>
    obtain ⟨what, rfl, _⟩ := int_arg (hy 0 _ y0 rfl rfl)
    obtain ⟨client, rfl⟩ := str_arg (hy 1 _ y1 rfl rfl)
    obtain ⟨ip, rfl⟩ := U32_arg (hy 2 _ y2 rfl rfl)
    obtain ⟨now, rfl⟩ := U64_arg (hy 3 _ y3 rfl rfl)
    obtain ⟨til, rfl⟩ := U64_arg (hy 4 _ y4 rfl rfl)
    obtain ⟨firm, rfl⟩ := (hy 5 _ y5 rfl rfl).bool_inv Try.underlying4
    exact ⟨⟨what, client, ip, now, til, firm⟩, rfl⟩
theorem cls_arg {x : AV} (h : Arg Try.prog 24 x) : ∃ l : List Cl, x = clR false l := by
  obtain ⟨l, rfl, hb, hl⟩ := h.slice_inv Try.underlying24
  rw [show Try.prog.cellsOf 27 = 6 by kernel_rfl]
  suffices ∃ m : List Cl, l = m.map clA by
    obtain ⟨m, rfl⟩ := this
    exact ⟨m, rfl⟩
  clear hb h
  induction l with
  | nil => exact ⟨[], rfl⟩
  | cons y l ih =>
    obtain ⟨v, rfl⟩ := cl_arg (hl y (by simp))
    obtain ⟨m, rfl⟩ := ih fun z hz => hl z (by simp [hz])
    exact ⟨v :: m, rfl⟩
/-- What a client's loan is, once it is offered. -/
theorem of_put (B : Bk) (c : List UInt8) (l : Ln) (now : UInt64) : (B.put c l).of c now = if l.til.toNat ≤ (bU now).toNat then none else some l := by
  unfold Bk.of Bk.put
  simp only [aget_aput, if_true]
  rfl
theorem mn9 (first last : UInt32) (h : Heap) (hok : first.toNat ≤ last.toNat ∧ last.toNat - first.toNat < 256) :
    hcall E 9 [i32 first, i32 last, .nils] h = some (.tup [.ref (h.length + 3) 0 0, .int .i64 0], h ++ [brO [], lnO [], rsO [], (⟨first, last, [], [], []⟩ : Bk).obj h.length (h.length + 1) (h.length + 2)]) := by
  obtain ⟨o1, o2⟩ := hok
  have h3 := last.toNat_lt
  have hw : IntKind.u32.wrap ((last.toNat : Int) - first.toNat) = (last.toNat : Int) - first.toNat := wu32 (by omega) (by omega)
  have c1 : ¬ ((last.toNat : Int) < (first.toNat : Int)) := by omega
  have c2 : ¬ ((256 : Int) ≤ (last.toNat : Int) - first.toNat) := by omega
  rw [hcall_go (fn := I9) rfl rfl rfl]
  simp (disch := first | omega | (simp only [List.length_cons, List.length_nil, List.length_append, List.length_map, List.length_set]; omega) | rfl | (simp only [List.length_cons, List.length_nil, List.length_append, List.length_map, List.length_set, List.length_replicate, List.all_cons, List.all_nil, List.all_append, storable, plainB, Bool.and_self]; done)) only [go_sem, reduceCtorEq, ↓reduceIte, reduceDIte, evI_callP, callPK_some, I9, hw, c1, c2, L9_0_lp, L9_0_go, B9_0, List.append_assoc]
  rfl
end Go.Fw.Wd
