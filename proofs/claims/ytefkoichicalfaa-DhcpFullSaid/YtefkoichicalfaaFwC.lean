/-
  How the evaluation's values stand for the machine's, and that this stays while the run writes to memory of its own alone. Conditions: none.
-/
import Derived.Test.YtefkoichicalfaaFwB
set_option linter.unusedVariables false
set_option linter.unusedSimpArgs false
namespace Go.Fw
open Go.RowKit (Below)

abbrev Forb := Bool → Nat → Prop

/-- Cells that are only read stand in memory, where nobody writes. -/
def RoAt (F : Forb) (w : World) (g : Bool) (a : Option Addr) (vs : List Value) : Prop :=
  ∀ i u, vs[i]? = some u → ∃ ad, a = some ad ∧ ¬ F g ad.block ∧ w.cell? (ad.add i) = some u ∧ u.oneCell' = true

/-- The block of what is owned. -/
def blkOf : Value → Option Nat
  | .slice (some a) _ _ => some a.block
  | .pointer (some a) => some a.block
  | .map (some b) => some b
  | _ => none

def RefRep (bv : Value) (o : Nat) (v : Value) : Prop := ∃ b, blkOf bv = some b ∧ v = .pointer (some ⟨b, o, none⟩)

def SlRep (bv : Value) (sz o n : Nat) (v : Value) : Prop :=
  match bv with
  | .slice none _ _ => n = 0 ∧ v = .slice none 0 0
  | .slice (some a) _ cap => ∃ o' c, v = .slice (some ⟨a.block, o', none⟩) n c ∧ n ≤ c ∧ c * sz + o = cap * sz ∧ (o' = o ∨ c = 0) ∧ (o = 0 → o' = 0)
  | .pointer (some a) => ∃ o' c, v = .slice (some ⟨a.block, o', none⟩) n c ∧ n ≤ c ∧ (o' = o ∨ c = 0)
  | _ => False

/-- A version that has not come yet. -/
def fut (h : Heap) (l ver : Nat) : Bool :=
  match h[l]? with
  | some (.row v _ _ _) => decide (v < ver)
  | some (.cells _ _ _) => decide (0 < ver)
  | some (.map _ _) => decide (0 < ver)
  | some .hole => true
  | _ => false
def isMapO (h : Heap) (l : Nat) : Bool :=
  match h[l]? with
  | some (.map _ _) => true
  | _ => false

/-! ### maps -/
def PV.val : PV → Value
  | .b x => .bool x
  | .i k n => .int k n
  | .s x => .string ⟨x.toArray⟩
def PE.val (e : PE) : Value := if e.ag then .agg (e.cs.map PV.val).toArray else match e.cs with
  | [x] => x.val
  | _ => default
def PE.dat (e : PE) : DataW Unit := if e.ag then .agg (e.cs.map fun x => .lit x.lit) else match e.cs with
  | [x] => .lit x.lit
  | _ => .nil
def vP : Value → Option PV
  | .bool x => some (.b x)
  | .int k n => some (.i k n)
  | .string x => some (.s x.data.toList)
  | _ => none
def rdV : Value → Option (DataW Unit × List MemPlace)
  | .agg a => (a.toList.mapM vP).map fun l => (.agg (l.map fun x => .lit x.lit), [])
  | v => (vP v).map fun x => (.lit x.lit, [])
theorem vP_val (x : PV) : vP x.val = some x := by cases x <;> simp [PV.val, vP]
theorem vP_inv {v : Value} {x : PV} (h : vP v = some x) : v = x.val := by
  cases v <;> simp only [vP, Option.some.injEq, reduceCtorEq] at h <;> subst h <;> simp [PV.val]
theorem lit_inj {x y : PV} (h : x.lit = y.lit) : x = y := by
  cases x <;> cases y <;> simp only [PV.lit, Lit.bool.injEq, Lit.int.injEq, Lit.string.injEq, reduceCtorEq] at h
  · rw [h]
  · rw [h.1, h.2]
  · rw [h]
theorem mapM_vP : ∀ l : List PV, (l.map PV.val).mapM vP = some l
  | [] => rfl
  | x :: l => by rw [List.map_cons, List.mapM_cons, vP_val, mapM_vP l]; rfl
theorem mapM_vP_inv : ∀ {vs : List Value} {l : List PV}, vs.mapM vP = some l → vs = l.map PV.val
  | [], l, h => by simp at h; subst h; rfl
  | v :: vs, l, h => by
    rw [List.mapM_cons] at h
    cases h1 : vP v with
    | none => rw [h1] at h; cases h
    | some x =>
      cases h2 : vs.mapM vP with
      | none => rw [h1, h2] at h; cases h
      | some l' =>
        rw [h1, h2] at h
        injection h with h
        subst h
        rw [List.map_cons, ← vP_inv h1, ← mapM_vP_inv h2]
theorem rdV_val {e : PE} (h : e.wf = true) : rdV e.val = some (e.dat, []) := by
  obtain ⟨ag, cs⟩ := e
  cases ag with
  | true => simp only [PE.val, PE.dat, if_true, rdV, List.toList_toArray, mapM_vP, Option.map_some]
  | false =>
    match cs, h with
    | [x], _ => cases x <;> simp [PE.val, PE.dat, PV.val, rdV, vP]
    | [], h => simp [PE.wf] at h
    | _ :: _ :: _, h => simp [PE.wf] at h
theorem lits_inj : ∀ {l m : List PV}, l.map (fun x => (DataW.lit x.lit : DataW Unit)) = m.map (fun x => DataW.lit x.lit) → l = m
  | [], [], _ => rfl
  | [], _ :: _, h => by cases h
  | _ :: _, [], h => by cases h
  | x :: l, y :: m, h => by
    simp only [List.map_cons, List.cons.injEq, DataW.lit.injEq] at h
    rw [lit_inj h.1, lits_inj h.2]
theorem rdV_inv {v : Value} {e : PE} (hw : e.wf = true) {ps : List MemPlace} (h : rdV v = some (e.dat, ps)) : v = e.val := by
  obtain ⟨ag, cs⟩ := e
  cases ag with
  | true =>
    simp only [PE.val, PE.dat, if_true] at h ⊢
    cases v <;> simp only [rdV, vP, Option.map_some, Option.map_none, Option.some.injEq, Prod.mk.injEq, reduceCtorEq, false_and] at h
    rename_i a
    cases h1 : a.toList.mapM vP with
    | none => rw [h1] at h; cases h
    | some l =>
      rw [h1] at h
      simp only [Option.map_some, Option.some.injEq, Prod.mk.injEq, DataW.agg.injEq] at h
      have := lits_inj h.1
      subst this
      rw [← mapM_vP_inv h1]
  | false =>
    match cs, hw with
    | [], hw => simp [PE.wf] at hw
    | _ :: _ :: _, hw => simp [PE.wf] at hw
    | [x], _ =>
      simp only [PE.val, PE.dat, Bool.false_eq_true, if_false] at h ⊢
      cases v with
      | agg a =>
        simp only [rdV] at h
        cases h1 : a.toList.mapM vP with
        | none => rw [h1] at h; cases h
        | some l => rw [h1] at h; simp only [Option.map_some, Option.some.injEq, Prod.mk.injEq, reduceCtorEq, false_and] at h
      | bool b => cases x <;> simp only [rdV, vP, Option.map_some, Option.some.injEq, Prod.mk.injEq, DataW.lit.injEq, PV.lit, Lit.bool.injEq, reduceCtorEq, false_and] at h; rw [h.1]; rfl
      | int k n => cases x <;> simp only [rdV, vP, Option.map_some, Option.some.injEq, Prod.mk.injEq, DataW.lit.injEq, PV.lit, Lit.int.injEq, reduceCtorEq, false_and] at h; rw [h.1.1, h.1.2]; rfl
      | string b => cases x <;> simp only [rdV, vP, Option.map_some, Option.some.injEq, Prod.mk.injEq, DataW.lit.injEq, PV.lit, Lit.string.injEq, reduceCtorEq, false_and] at h; rw [← h.1]; simp [PV.val]
      | _ => simp only [rdV, vP, Option.map_none, reduceCtorEq] at h
/-- Is a type a key's type of this kind? -/
def kindOk (P : Program) (k : TypeId) : Kk → Prop
  | .str => P.underlying k = some .string
  | .int q => P.underlying k = some (.int q)
theorem keyOf_kind {P P' : Program} {k k' : TypeId} {kk : Kk} (h : kindOk P k kk) (h' : kindOk P' k' kk) : keyOf P k = keyOf P' k' := by
  funext v
  cases kk <;> simp only [kindOk] at h h' <;> simp only [keyOf, mapKey, h, h']
def datE (p : PV × PE) : Lit × DataW Unit := (p.1.lit, p.2.dat)
def mapD (es : Ents) : DataW Unit := .map (es.map datE)
/-- A block is a map with these entries. -/
def mapIs (w : World) (b : Nat) (kk : Kk) (es : Ents) : Prop := (∀ p ∈ es, p.2.wf = true) ∧ ∃ (P : Program) (k : TypeId), kindOk P k kk ∧ w.ownsMap P k rdV b es.length (mapD es)
theorem mapIs.heap {w w' : World} {b : Nat} {kk : Kk} {es : Ents} (h : mapIs w b kk es) (hb : w'.heap[b]? = w.heap[b]?) : mapIs w' b kk es := by
  obtain ⟨h1, P, k, hk, es', c, h2, h3⟩ := h
  exact ⟨h1, P, k, hk, es', c, hb.trans h2, h3⟩
theorem mapIs.lt {w : World} {b : Nat} {kk : Kk} {es : Ents} (h : mapIs w b kk es) : b < w.heap.size := by
  obtain ⟨_, P, k, _, h⟩ := h
  exact h.lt
theorem mapIs.own {w : World} {b : Nat} {kk : Kk} {es : Ents} (h : mapIs w b kk es) {P : Program} {k : TypeId} (hk : kindOk P k kk) : w.ownsMap P k rdV b es.length (mapD es) := by
  obtain ⟨_, P', k', hk', es', c, h2, F, h4, h5⟩ := h
  have e := keyOf_kind hk' hk
  have er : WideElems.rd P' k' rdV = WideElems.rd (H := Unit) P k rdV := by unfold WideElems.rd; rw [e]
  have eg : WideElems.rg P' k' rdV = WideElems.rg (H := Unit) P k rdV := by unfold WideElems.rg; rw [er]
  refine ⟨es', c, h2, ⟨F.size, F.stamped, fun x hx => by rw [← er]; exact F.reads x hx⟩, h4, by rw [← eg]; exact h5⟩

def Live (β : List Value) (h : Heap) (l ver : Nat) : Prop := l < β.length ∧ fut h l ver = false

mutual
def Rep : AV → List Value → Heap → Forb → World → Value → Prop
  | .undef, _, _, _, _, _ => True
  | .bool b, _, _, _, _, v => v = .bool b
  | .int k n, _, _, _, _, v => v = .int k n
  | .str s, _, _, _, _, v => v = .string s
  | .nils, _, _, _, _, v => v = .slice none 0 0
  | .rs g sz l, _, _, F, w, v => ∃ a c vs, v = .slice a l.length c ∧ l.length ≤ c ∧ (0 < sz ∨ c = 0) ∧ RepF l sz F w vs ∧ RoAt F w g a vs
  | .nilp, _, _, _, _, v => v = .pointer none
  | .rp g x, _, _, F, w, v => ∃ a u, v = .pointer (some a) ∧ Rep x [] [] F w u ∧ RoAt F w g (some a) u.cells.toList
  | .ref l ver o, β, h, _, _, v => Live β h l ver ∧ (∃ a, v = .pointer (some a)) ∧ ((objCells h l ver).isSome → RefRep (β.getD l default) o v)
  | .sl sz l ver o n, β, h, _, _, v => Live β h l ver ∧ (∃ a m c, v = .slice a m c) ∧ ((objCells h l ver).isSome → SlRep (β.getD l default) sz o n v)
  | .nilf, _, _, _, _, v => v = .nilFunc
  | .fn f cap, β, h, F, w, v => ∃ vs : List Value, v = .func (.func f) #[] vs.toArray ∧ RepL cap β h F w vs
  | .nili, _, _, _, _, v => v = .nilIface
  | .iface t x, β, h, F, w, v => ∃ y, v = .iface t y ∧ Rep x β h F w y
  | .agg cs, β, h, F, w, v => ∃ vs : List Value, v = .agg vs.toArray ∧ RepL cs β h F w vs ∧ ∀ u ∈ vs, u.oneCell' = true
  | .tup cs, β, h, F, w, v => ∃ vs : List Value, v = .tuple vs.toArray ∧ RepL cs β h F w vs
  | .nilm, _, _, _, _, v => v = .map none
  | .mp l, β, h, _, _, v => Live β h l 0 ∧ (∃ a, v = .map a) ∧ (isMapO h l = true → v = β.getD l default)
  | .rm g kk es, _, _, F, w, v => ∃ b, v = .map (some b) ∧ ¬ F g b ∧ mapIs w b kk es
def RepL : List AV → List Value → Heap → Forb → World → List Value → Prop
  | [], _, _, _, _, vs => vs = []
  | x :: l, β, h, F, w, vs => ∃ u us, vs = u :: us ∧ Rep x β h F w u ∧ RepL l β h F w us
def RepF : List AV → Nat → Forb → World → List Value → Prop
  | [], _, _, _, vs => vs = []
  | x :: l, sz, F, w, vs => ∃ u us, vs = u.cells.toList ++ us ∧ u.cells.size = sz ∧ Rep x [] [] F w u ∧ RepF l sz F w us
end

theorem RepL_iff {l : List AV} {β : List Value} {h : Heap} {F : Forb} {w : World} : ∀ {vs : List Value}, RepL l β h F w vs ↔ l.length = vs.length ∧ ∀ (i : Nat) (x : AV) (u : Value), l[i]? = some x → vs[i]? = some u → Rep x β h F w u := by
  induction l with
  | nil => intro vs; simp only [RepL]; constructor
           · rintro rfl; simp
           · rintro ⟨h, _⟩; exact List.eq_nil_of_length_eq_zero h.symm
  | cons x l ih =>
    intro vs
    simp only [RepL]
    constructor
    · rintro ⟨u, us, rfl, hx, hl⟩
      obtain ⟨h1, h2⟩ := ih.1 hl
      refine ⟨by simp [h1], fun i y v hy hv => ?_⟩
      cases i with
      | zero => simp at hy hv; subst hy; subst hv; exact hx
      | succ i => exact h2 i y v (by simpa using hy) (by simpa using hv)
    · rintro ⟨h1, h2⟩
      cases vs with
      | nil => simp at h1
      | cons u us => exact ⟨u, us, rfl, h2 0 x u rfl rfl, ih.2 ⟨by simpa using h1, fun i y v hy hv => h2 (i + 1) y v (by simpa using hy) (by simpa using hv)⟩⟩

theorem RepL.length {l : List AV} {β : List Value} {h : Heap} {F : Forb} {w : World} {vs : List Value} (hr : RepL l β h F w vs) : l.length = vs.length := (RepL_iff.1 hr).1

theorem RepL.append {l m : List AV} {β : List Value} {h : Heap} {F : Forb} {w : World} : ∀ {vs us : List Value}, RepL l β h F w vs → RepL m β h F w us → RepL (l ++ m) β h F w (vs ++ us) := by
  induction l with
  | nil => intro vs us h1 h2; simp only [RepL] at h1; subst h1; simpa using h2
  | cons x l ih =>
    intro vs us h1 h2
    simp only [RepL] at h1
    obtain ⟨u, r, rfl, hx, hl⟩ := h1
    exact ⟨u, r ++ us, rfl, hx, ih hl h2⟩

theorem RepL.take {l : List AV} {β : List Value} {h : Heap} {F : Forb} {w : World} (n : Nat) : ∀ {vs : List Value}, RepL l β h F w vs → RepL (l.take n) β h F w (vs.take n) := by
  induction n generalizing l with
  | zero => intro vs _; simp [RepL]
  | succ n ih =>
    intro vs hr
    cases l with
    | nil => simp only [RepL] at hr; subst hr; simp [RepL]
    | cons x l =>
      simp only [RepL] at hr
      obtain ⟨u, r, rfl, hx, hl⟩ := hr
      exact ⟨u, r.take n, rfl, hx, ih hl⟩

theorem RepL.drop {l : List AV} {β : List Value} {h : Heap} {F : Forb} {w : World} (n : Nat) : ∀ {vs : List Value}, RepL l β h F w vs → RepL (l.drop n) β h F w (vs.drop n) := by
  induction n generalizing l with
  | zero => intro vs hr; simpa using hr
  | succ n ih =>
    intro vs hr
    cases l with
    | nil => simp only [RepL] at hr; subst hr; simp [RepL]
    | cons x l =>
      simp only [RepL] at hr
      obtain ⟨u, r, rfl, hx, hl⟩ := hr
      exact ih hl

theorem RepL.at {l : List AV} {β : List Value} {h : Heap} {F : Forb} {w : World} {vs : List Value} (hr : RepL l β h F w vs) {i : Nat} {x : AV} (hx : l[i]? = some x) : ∃ u, vs[i]? = some u ∧ Rep x β h F w u := by
  obtain ⟨h1, h2⟩ := RepL_iff.1 hr
  have hi : i < vs.length := by
    have := (List.getElem?_eq_some_iff.1 hx).1
    omega
  exact ⟨vs[i], List.getElem?_eq_getElem hi, h2 i x _ hx (List.getElem?_eq_getElem hi)⟩

/-! ### what stays -/

/-- Is a block one of the machine's book-keeping (a loop's record, a round's deferred calls)? -/
def bk (w : World) (k : Nat) : Bool := match w.heap[k]? with
  | some (.loop _) => true
  | some (.deferred _) => true
  | _ => false
theorem bk_cell {w : World} {a : Addr} {u : Value} (h : w.cell? a = some u) : bk w a.block = false := by
  unfold World.cell? at h
  unfold bk
  cases hk : w.heap[a.block]? with
  | none => rfl
  | some o =>
    rw [hk] at h
    cases o <;> first | rfl | simp at h
theorem bk_map {w : World} {b : Nat} {kk : Kk} {es : Ents} (h : mapIs w b kk es) : bk w b = false := by
  obtain ⟨_, P', k', hk', es', c, h2, _⟩ := h
  unfold bk
  rw [h2]
/-- From one moment to a later one: where it was not forbidden to rely on memory, memory is as it was, and one may rely on it still. -/
def Ok (F : Forb) (w : World) (F' : Forb) (w' : World) : Prop := ∀ g k, k < w.heap.size → ¬ F g k → bk w k = false → ¬ F' g k ∧ w'.heap[k]? = w.heap[k]?

/-- What is owned and still up to date is where it was. -/
def Keep (β : List Value) (h : Heap) (β' : List Value) (h' : Heap) : Prop :=
  β.length ≤ β'.length ∧ (∀ l, l < β.length → ∀ ver, fut h l ver = false → fut h' l ver = false ∧ ((objCells h' l ver).isSome → (objCells h l ver).isSome ∧ β'.getD l default = β.getD l default)) ∧
    ∀ l, l < β.length → fut h l 0 = false → isMapO h' l = true → isMapO h l = true ∧ β'.getD l default = β.getD l default

theorem RoAt.step {F F' : Forb} {w w' : World} {g : Bool} {a : Option Addr} {vs : List Value} (h : RoAt F w g a vs) (k : Ok F w F' w') : RoAt F' w' g a vs := by
  intro i u hu
  obtain ⟨ad, rfl, hf, hc, h1⟩ := h i u hu
  have hlt := World.block_lt_of_cell? w _ hc
  have hb : (ad.add i).block = ad.block := by unfold Addr.add; split <;> rfl
  rw [hb] at hlt
  obtain ⟨k1, k2⟩ := k g ad.block hlt hf (by rw [← hb]; exact bk_cell hc)
  exact ⟨ad, rfl, k1, by rw [World.cell?_of_block (w := w) (by rw [hb]; exact k2)]; exact hc, h1⟩

theorem Keep.nil : Keep [] [] [] [] := ⟨Nat.le_refl _, (fun l hl => by cases hl), fun l hl => by cases hl⟩

mutual
theorem Rep.step {F F' : Forb} {w w' : World} (hok : Ok F w F' w') : ∀ (x : AV) {β β' : List Value} {h h' : Heap} (hk : Keep β h β' h') {v : Value}, Rep x β h F w v → Rep x β' h' F' w' v
  | .undef, _, _, _, _, _, _, _ => trivial
  | .bool b, _, _, _, _, _, _, hr => hr
  | .int k n, _, _, _, _, _, _, hr => hr
  | .str s, _, _, _, _, _, _, hr => hr
  | .nils, _, _, _, _, _, _, hr => hr
  | .rs g sz l, _, _, _, _, _, _, hr => by
    simp only [Rep] at hr ⊢
    obtain ⟨a, c, vs, rfl, hc, hz, hf, hro⟩ := hr
    exact ⟨a, c, vs, rfl, hc, hz, RepF.step hok l hf, hro.step hok⟩
  | .nilp, _, _, _, _, _, _, hr => hr
  | .rp g x, _, _, _, _, _, _, hr => by
    simp only [Rep] at hr ⊢
    obtain ⟨a, u, rfl, hx, hro⟩ := hr
    exact ⟨a, u, rfl, Rep.step hok x Keep.nil hx, hro.step hok⟩
  | .ref l ver o, β, β', h, h', hk, v, hr => by
    simp only [Rep] at hr ⊢
    obtain ⟨hl, hp, hc⟩ := hr
    obtain ⟨hf, hkk⟩ := hk.2.1 l hl.1 ver hl.2
    refine ⟨⟨Nat.lt_of_lt_of_le hl.1 hk.1, hf⟩, hp, fun hs => ?_⟩
    obtain ⟨h1, h2⟩ := hkk hs
    rw [h2]
    exact hc h1
  | .sl sz l ver o n, β, β', h, h', hk, v, hr => by
    simp only [Rep] at hr ⊢
    obtain ⟨hl, hp, hc⟩ := hr
    obtain ⟨hf, hkk⟩ := hk.2.1 l hl.1 ver hl.2
    refine ⟨⟨Nat.lt_of_lt_of_le hl.1 hk.1, hf⟩, hp, fun hs => ?_⟩
    obtain ⟨h1, h2⟩ := hkk hs
    rw [h2]
    exact hc h1
  | .nilf, _, _, _, _, _, _, hr => hr
  | .fn f cap, _, _, _, _, hk, _, hr => by
    simp only [Rep] at hr ⊢
    obtain ⟨vs, rfl, hl⟩ := hr
    exact ⟨vs, rfl, RepL.step hok cap hk hl⟩
  | .nili, _, _, _, _, _, _, hr => hr
  | .iface t x, _, _, _, _, hk, _, hr => by
    simp only [Rep] at hr ⊢
    obtain ⟨y, rfl, hx⟩ := hr
    exact ⟨y, rfl, Rep.step hok x hk hx⟩
  | .agg cs, _, _, _, _, hk, _, hr => by
    simp only [Rep] at hr ⊢
    obtain ⟨vs, rfl, hl, h1⟩ := hr
    exact ⟨vs, rfl, RepL.step hok cs hk hl, h1⟩
  | .tup cs, _, _, _, _, hk, _, hr => by
    simp only [Rep] at hr ⊢
    obtain ⟨vs, rfl, hl⟩ := hr
    exact ⟨vs, rfl, RepL.step hok cs hk hl⟩
  | .nilm, _, _, _, _, _, _, hr => hr
  | .mp l, β, β', h, h', hk, v, hr => by
    simp only [Rep] at hr ⊢
    obtain ⟨hl, hp, hc⟩ := hr
    obtain ⟨hf, _⟩ := hk.2.1 l hl.1 0 hl.2
    refine ⟨⟨Nat.lt_of_lt_of_le hl.1 hk.1, hf⟩, hp, fun hs => ?_⟩
    obtain ⟨h1, h2⟩ := hk.2.2 l hl.1 hl.2 hs
    rw [h2]
    exact hc h1
  | .rm g kk es, _, _, _, _, _, _, hr => by
    simp only [Rep] at hr ⊢
    obtain ⟨b, rfl, hf, hm⟩ := hr
    obtain ⟨k1, k2⟩ := hok g b hm.lt hf (bk_map hm)
    exact ⟨b, rfl, k1, hm.heap k2⟩
theorem RepL.step {F F' : Forb} {w w' : World} (hok : Ok F w F' w') : ∀ (l : List AV) {β β' : List Value} {h h' : Heap} (hk : Keep β h β' h') {vs : List Value}, RepL l β h F w vs → RepL l β' h' F' w' vs
  | [], _, _, _, _, _, _, hr => hr
  | x :: l, _, _, _, _, hk, _, hr => by
    simp only [RepL] at hr ⊢
    obtain ⟨u, us, rfl, hx, hl⟩ := hr
    exact ⟨u, us, rfl, Rep.step hok x hk hx, RepL.step hok l hk hl⟩
theorem RepF.step {F F' : Forb} {w w' : World} (hok : Ok F w F' w') : ∀ (l : List AV) {sz : Nat} {vs : List Value}, RepF l sz F w vs → RepF l sz F' w' vs
  | [], _, _, hr => hr
  | x :: l, _, _, hr => by
    simp only [RepF] at hr ⊢
    obtain ⟨u, us, rfl, hz, hx, hl⟩ := hr
    exact ⟨u, us, rfl, hz, Rep.step hok x Keep.nil hx, RepF.step hok l hl⟩
end

/-! ### values that hold no memory of the run's own -/

mutual
theorem Rep.noOwn {F : Forb} {w : World} : ∀ (x : AV) (hx : hasOwn x = false) {β β' : List Value} {h h' : Heap} {v : Value}, Rep x β h F w v → Rep x β' h' F w v
  | .undef, _, _, _, _, _, _, _ => trivial
  | .bool b, _, _, _, _, _, _, hr => hr
  | .int k n, _, _, _, _, _, _, hr => hr
  | .str s, _, _, _, _, _, _, hr => hr
  | .nils, _, _, _, _, _, _, hr => hr
  | .rs g sz l, _, _, _, _, _, _, hr => hr
  | .nilp, _, _, _, _, _, _, hr => hr
  | .rp g x, _, _, _, _, _, _, hr => hr
  | .ref l ver o, hx, _, _, _, _, _, _ => by simp [hasOwn] at hx
  | .sl sz l ver o n, hx, _, _, _, _, _, _ => by simp [hasOwn] at hx
  | .nilf, _, _, _, _, _, _, hr => hr
  | .fn f cap, hx, _, _, _, _, _, hr => by
    simp only [Rep] at hr ⊢
    obtain ⟨vs, rfl, hl⟩ := hr
    exact ⟨vs, rfl, RepL.noOwn cap (by simpa [hasOwn] using hx) hl⟩
  | .nili, _, _, _, _, _, _, hr => hr
  | .iface t x, hx, _, _, _, _, _, hr => by
    simp only [Rep] at hr ⊢
    obtain ⟨y, rfl, h⟩ := hr
    exact ⟨y, rfl, Rep.noOwn x (by simpa [hasOwn] using hx) h⟩
  | .agg cs, hx, _, _, _, _, _, hr => by
    simp only [Rep] at hr ⊢
    obtain ⟨vs, rfl, hl, h1⟩ := hr
    exact ⟨vs, rfl, RepL.noOwn cs (by simpa [hasOwn] using hx) hl, h1⟩
  | .tup cs, hx, _, _, _, _, _, hr => by
    simp only [Rep] at hr ⊢
    obtain ⟨vs, rfl, hl⟩ := hr
    exact ⟨vs, rfl, RepL.noOwn cs (by simpa [hasOwn] using hx) hl⟩
  | .nilm, _, _, _, _, _, _, hr => hr
  | .mp l, hx, _, _, _, _, _, _ => by simp [hasOwn] at hx
  | .rm g kk es, _, _, _, _, _, _, hr => hr
theorem RepL.noOwn {F : Forb} {w : World} : ∀ (l : List AV) (hx : hasOwn.hasOwnL l = false) {β β' : List Value} {h h' : Heap} {vs : List Value}, RepL l β h F w vs → RepL l β' h' F w vs
  | [], _, _, _, _, _, _, hr => hr
  | x :: l, hx, _, _, _, _, _, hr => by
    simp only [RepL] at hr ⊢
    simp only [hasOwn.hasOwnL, Bool.or_eq_false_iff] at hx
    obtain ⟨u, us, rfl, h1, h2⟩ := hr
    exact ⟨u, us, rfl, Rep.noOwn x hx.1 h1, RepL.noOwn l hx.2 h2⟩
end

/-! ### the run's own memory -/

def ObjRel (β : List Value) (h : Heap) (F : Forb) (w : World) (bv : Value) : AObj → Prop
  | .cells ag vs t => ∃ b arr, bv = .pointer (some ⟨b, 0, none⟩) ∧ w.heap[b]? = some (.cells arr t (0, 0)) ∧ RepL vs β h F w arr.toList ∧ ∀ u ∈ arr.toList, u.oneCell' = true
  | .row ver sz vs t => 0 < sz ∧ ∃ n xs, w.ownsRow 0 t sz bv n xs ∧ RepL vs β h F w xs ∧ ∀ u ∈ xs, u.oneCell' = true
  | .gone => True
  | .hole => True
  | .map kk es => ∃ b, bv = .map (some b) ∧ mapIs w b kk es

/-- Entry l is owned memory in block k. -/
def Owns (β : List Value) (l k : Nat) : Prop := ∃ bv, β[l]? = some bv ∧ blkOf bv = some k

/-- Nobody relies on the blocks that the run owns. -/
def FOf (Bad : Forb) (β : List Value) : Forb := fun g k => Bad g k ∨ ∃ l, Owns β l k

/-- What lies in memory from the start and is never written: blocks with their first cells. -/
def laidVars : List (Nat × Value) := []
/-- What is barred lies in memory; among it is what is laid. -/
def BadOk (Bad : Forb) (w : World) : Prop := (∀ g k, Bad g k → k < w.heap.size) ∧ ∀ x ∈ laidVars, Bad true x.1 ∧ w.cell? ⟨x.1, 0, none⟩ = some x.2
theorem cell_of_heap {w w' : World} {k : Nat} (h : w'.heap[k]? = w.heap[k]?) : w'.cell? ⟨k, 0, none⟩ = w.cell? ⟨k, 0, none⟩ := by
  unfold World.cell?
  simp only [h]
theorem BadOk.mono {Bad : Forb} {w w' : World} (hb : BadOk Bad w) (hs : w.heap.size ≤ w'.heap.size) (hk : ∀ k, Bad true k → w'.heap[k]? = w.heap[k]?) : BadOk Bad w' :=
  ⟨fun g k h => Nat.lt_of_lt_of_le (hb.1 g k h) hs, fun x hx => ⟨(hb.2 x hx).1, by rw [cell_of_heap (hk x.1 (hb.2 x hx).1)]; exact (hb.2 x hx).2⟩⟩
theorem BadOk.below {Bad : Forb} {w w' : World} (hb : BadOk Bad w) (h : Below w.heap.size w w') : BadOk Bad w' := hb.mono h.size fun k hk => h.block k (hb.1 true k hk)
theorem BadOk.wide {Bad Bad2 : Forb} {w : World} (hb : BadOk Bad w) (h1 : ∀ g k, Bad2 g k → k < w.heap.size) (h2 : ∀ k, Bad true k → Bad2 true k) : BadOk Bad2 w :=
  ⟨h1, fun x hx => ⟨h2 _ (hb.2 x hx).1, (hb.2 x hx).2⟩⟩

structure HeapRel (Bad : Forb) (β : List Value) (h : Heap) (w : World) : Prop where
  len : β.length = h.length
  inj : ∀ l l' k, Owns β l k → Owns β l' k → l = l'
  lt : ∀ l k, Owns β l k → k < w.heap.size
  free : ∀ l k g, Owns β l k → ¬ Bad g k
  bad : BadOk Bad w
  obj : ∀ (l : Nat) (o : AObj) (bv : Value), h[l]? = some o → β[l]? = some bv → ObjRel β h (FOf Bad β) w bv o

/-- Since the run began, in world w0 with its first memory at β0: what was not its own is as it was; what it owns now it owned then, or is new. -/
structure Since (β0 : List Value) (w0 : World) (β : List Value) (w : World) : Prop where
  os : w.os = w0.os
  tape : w.tape = w0.tape
  output : w.output = w0.output
  size : w0.heap.size ≤ w.heap.size
  same : ∀ k, k < w0.heap.size → (¬ ∃ l, Owns β0 l k) → w.heap[k]? = w0.heap[k]?
  own : ∀ l k, Owns β l k → w0.heap.size ≤ k ∨ ∃ l0, Owns β0 l0 k

/-- One step of a run: memory of its own may turn, and new memory come. -/
structure Step (Bad : Forb) (β : List Value) (h : Heap) (w : World) (β' : List Value) (h' : Heap) (w' : World) : Prop where
  rel : HeapRel Bad β' h' w'
  keep : Keep β h β' h'
  since : Since β w β' w'

theorem Step.ok {Bad : Forb} {β : List Value} {h : Heap} {w : World} {β' : List Value} {h' : Heap} {w' : World} (s : Step Bad β h w β' h' w') : Ok (FOf Bad β) w (FOf Bad β') w' := by
  intro g k hk hf _
  have hb : ¬ Bad g k := fun hb => hf (.inl hb)
  have ho : ¬ ∃ l, Owns β l k := fun ho => hf (.inr ho)
  refine ⟨?_, s.since.same k hk ho⟩
  rintro (hb' | ⟨l, hl⟩)
  · exact hb hb'
  · rcases s.since.own l k hl with h1 | h1
    · omega
    · exact ho h1

theorem Step.rep {Bad : Forb} {β : List Value} {h : Heap} {w : World} {β' : List Value} {h' : Heap} {w' : World} (s : Step Bad β h w β' h' w') {x : AV} {v : Value} (hr : Rep x β h (FOf Bad β) w v) : Rep x β' h' (FOf Bad β') w' v :=
  Rep.step s.ok x s.keep hr

theorem Step.repL {Bad : Forb} {β : List Value} {h : Heap} {w : World} {β' : List Value} {h' : Heap} {w' : World} (s : Step Bad β h w β' h' w') {x : List AV} {v : List Value} (hr : RepL x β h (FOf Bad β) w v) : RepL x β' h' (FOf Bad β') w' v :=
  RepL.step s.ok x s.keep hr

theorem Keep.refl (β : List Value) (h : Heap) : Keep β h β h := ⟨Nat.le_refl _, (fun _ _ _ hf => ⟨hf, fun hs => ⟨hs, rfl⟩⟩), fun _ _ _ hs => ⟨hs, rfl⟩⟩

theorem Since.refl (β : List Value) (w : World) : Since β w β w := ⟨rfl, rfl, rfl, Nat.le_refl _, fun _ _ _ => rfl, fun l k h => .inr ⟨l, h⟩⟩

theorem Since.trans {β0 β1 β2 : List Value} {w0 w1 w2 : World} (a : Since β0 w0 β1 w1) (b : Since β1 w1 β2 w2) : Since β0 w0 β2 w2 := by
  refine ⟨b.os.trans a.os, b.tape.trans a.tape, b.output.trans a.output, Nat.le_trans a.size b.size, fun k hk hn => ?_, fun l k hl => ?_⟩
  · rw [b.same k (Nat.lt_of_lt_of_le hk a.size), a.same k hk hn]
    rintro ⟨l, hl⟩
    rcases a.own l k hl with h1 | h1
    · omega
    · exact hn h1
  · rcases b.own l k hl with h1 | ⟨l1, h1⟩
    · exact .inl (Nat.le_trans a.size h1)
    · exact a.own l1 k h1

theorem Step.refl {Bad : Forb} {β : List Value} {h : Heap} {w : World} (hr : HeapRel Bad β h w) : Step Bad β h w β h w := ⟨hr, Keep.refl β h, Since.refl β w⟩

theorem Keep.trans {β0 β1 β2 : List Value} {h0 h1 h2 : Heap} (a : Keep β0 h0 β1 h1) (b : Keep β1 h1 β2 h2) : Keep β0 h0 β2 h2 := by
  refine ⟨Nat.le_trans a.1 b.1, fun l hl ver hf => ?_, fun l hl hf hs => ?_⟩
  · obtain ⟨f1, k1⟩ := a.2.1 l hl ver hf
    obtain ⟨f2, k2⟩ := b.2.1 l (Nat.lt_of_lt_of_le hl a.1) ver f1
    refine ⟨f2, fun hs => ?_⟩
    obtain ⟨h3, h4⟩ := k2 hs
    obtain ⟨h5, h6⟩ := k1 h3
    exact ⟨h5, h4.trans h6⟩
  · obtain ⟨f1, _⟩ := a.2.1 l hl 0 hf
    obtain ⟨h3, h4⟩ := b.2.2 l (Nat.lt_of_lt_of_le hl a.1) f1 hs
    obtain ⟨h5, h6⟩ := a.2.2 l hl hf h3
    exact ⟨h5, h4.trans h6⟩

theorem Step.trans {Bad : Forb} {β0 β1 β2 : List Value} {h0 h1 h2 : Heap} {w0 w1 w2 : World} (a : Step Bad β0 h0 w0 β1 h1 w1) (b : Step Bad β1 h1 w1 β2 h2 w2) : Step Bad β0 h0 w0 β2 h2 w2 :=
  ⟨b.rel, a.keep.trans b.keep, a.since.trans b.since⟩

theorem ObjRel.step {β β' : List Value} {h h' : Heap} {F F' : Forb} {w w' : World} (hok : Ok F w F' w') (hk : Keep β h β' h') {bv : Value} {o : AObj}
    (hb : ∀ k, blkOf bv = some k → k < w.heap.size → w'.heap[k]? = w.heap[k]?) (hr : ObjRel β h F w bv o) : ObjRel β' h' F' w' bv o := by
  cases o with
  | gone => trivial
  | hole => trivial
  | map kk es =>
    obtain ⟨b, rfl, hm⟩ := hr
    exact ⟨b, rfl, hm.heap (hb b rfl hm.lt)⟩
  | cells ag vs t =>
    obtain ⟨b, arr, rfl, hh, hv, h1⟩ := hr
    refine ⟨b, arr, rfl, ?_, RepL.step hok vs hk hv, h1⟩
    rw [hb b rfl (Array.getElem?_eq_some_iff.1 hh).1]
    exact hh
  | row ver sz vs t =>
    obtain ⟨hz, n, xs, ho, hv, h1⟩ := hr
    refine ⟨hz, n, xs, ⟨ho.1, ?_⟩, RepL.step hok vs hk hv, h1⟩
    rcases ho.2 with h2 | ⟨g, cap, cur, rfl, hg0, hg, r⟩
    · exact .inl h2
    · exact .inr ⟨g, cap, cur, rfl, hg0, by rw [hb g rfl (Array.getElem?_eq_some_iff.1 hg).1]; exact hg, r⟩

/-- Nothing of the run's own has turned: a draw, a call that makes memory, an allocation of somebody else's. -/
theorem Step.quiet {Bad : Forb} {β : List Value} {h : Heap} {w w' : World} (hr : HeapRel Bad β h w) (hb : Below w.heap.size w w') : Step Bad β h w β h w' := by
  have hsince : Since β w β w' := ⟨hb.os, hb.tape, hb.output, hb.size, fun k hk _ => hb.block k hk, fun l k h => .inr ⟨l, h⟩⟩
  have hok : Ok (FOf Bad β) w (FOf Bad β) w' := fun g k hk hf _ => ⟨hf, hb.block k hk⟩
  refine ⟨⟨hr.len, hr.inj, fun l k h => Nat.lt_of_lt_of_le (hr.lt l k h) hb.size, hr.free, hr.bad.below hb, fun l o bv ho hbv => ?_⟩, Keep.refl β h, hsince⟩
  exact ObjRel.step hok (Keep.refl β h) (fun k _ hk => hb.block k hk) (hr.obj l o bv ho hbv)

theorem fut_append {h : Heap} {o : AObj} {l : Nat} (hl : l < h.length) (ver : Nat) : fut (h ++ [o]) l ver = fut h l ver := by
  unfold fut
  rw [List.getElem?_append_left hl]

theorem objCells_append {h : Heap} {o : AObj} {l : Nat} (hl : l < h.length) (ver : Nat) : objCells (h ++ [o]) l ver = objCells h l ver := by
  unfold objCells
  rw [List.getElem?_append_left hl]
theorem isMapO_append {h m : Heap} {l : Nat} (hl : l < h.length) : isMapO (h ++ m) l = isMapO h l := by
  unfold isMapO
  rw [List.getElem?_append_left hl]
theorem isMapO_set_ne {h : Heap} {o : AObj} {l j : Nat} (hj : j ≠ l) : isMapO (h.set l o) j = isMapO h j := by
  unfold isMapO
  rw [List.getElem?_set_ne (Ne.symm hj)]
theorem isMapO_set_not {h : Heap} {o : AObj} {l : Nat} (ho : (match o with | .map _ _ => true | _ => false) = false) : isMapO (h.set l o) l = false := by
  unfold isMapO
  by_cases hl : l < h.length
  · rw [List.getElem?_set_self hl]
    cases o <;> first | rfl | cases ho
  · rw [List.getElem?_eq_none (by simp; omega)]

/-- New memory of the run's own: a block at the heap's end. -/
theorem Step.alloc {Bad : Forb} {β : List Value} {h : Heap} {w w' : World} (hr : HeapRel Bad β h w) (hb : Below w.heap.size w w') {bv : Value} {o : AObj}
    (hnew : ∀ k, blkOf bv = some k → w.heap.size ≤ k ∧ k < w'.heap.size)
    (ho : Ok (FOf Bad β) w (FOf Bad (β ++ [bv])) w' → Keep β h (β ++ [bv]) (h ++ [o]) → ObjRel (β ++ [bv]) (h ++ [o]) (FOf Bad (β ++ [bv])) w' bv o) :
    Step Bad β h w (β ++ [bv]) (h ++ [o]) w' := by
  have hkeep : Keep β h (β ++ [bv]) (h ++ [o]) := by
    refine ⟨by simp, fun l hl ver hf => ?_, fun l hl hf hs => ?_⟩
    · have hl' : l < h.length := by rw [← hr.len]; exact hl
      rw [objCells_append hl', fut_append hl']
      exact ⟨hf, fun hs => ⟨hs, by simp [List.getD_eq_getElem?_getD, List.getElem?_append_left hl]⟩⟩
    · have hl' : l < h.length := by rw [← hr.len]; exact hl
      rw [isMapO_append hl'] at hs
      exact ⟨hs, by simp [List.getD_eq_getElem?_getD, List.getElem?_append_left hl]⟩
  have howns : ∀ l k, Owns (β ++ [bv]) l k → (l < β.length ∧ Owns β l k) ∨ (l = β.length ∧ blkOf bv = some k) := by
    rintro l k ⟨bv', h1, h2⟩
    by_cases hl : l < β.length
    · rw [List.getElem?_append_left hl] at h1
      exact .inl ⟨hl, bv', h1, h2⟩
    · rw [List.getElem?_append_right (by omega)] at h1
      have hz : l - β.length = 0 := by
        have := (List.getElem?_eq_some_iff.1 h1).1
        simp at this
        omega
      rw [hz] at h1
      simp at h1
      subst h1
      exact .inr ⟨by omega, h2⟩
  have hsince : Since β w (β ++ [bv]) w' := by
    refine ⟨hb.os, hb.tape, hb.output, hb.size, fun k hk _ => hb.block k hk, fun l k hl => ?_⟩
    rcases howns l k hl with ⟨_, h1⟩ | ⟨_, h1⟩
    · exact .inr ⟨l, h1⟩
    · exact .inl (hnew k h1).1
  have hok : Ok (FOf Bad β) w (FOf Bad (β ++ [bv])) w' := by
    intro g k hk hf _
    refine ⟨?_, hb.block k hk⟩
    rintro (h1 | ⟨l, h1⟩)
    · exact hf (.inl h1)
    · rcases howns l k h1 with ⟨_, h2⟩ | ⟨_, h2⟩
      · exact hf (.inr ⟨l, h2⟩)
      · have := (hnew k h2).1; omega
  refine ⟨⟨by simp [hr.len], ?_, ?_, ?_, hr.bad.below hb, ?_⟩, hkeep, hsince⟩
  · intro l l' k h1 h2
    rcases howns l k h1 with ⟨_, a1⟩ | ⟨a0, a1⟩ <;> rcases howns l' k h2 with ⟨_, b1⟩ | ⟨b0, b1⟩
    · exact hr.inj l l' k a1 b1
    · have := hr.lt l k a1; have := (hnew k b1).1; omega
    · have := hr.lt l' k b1; have := (hnew k a1).1; omega
    · omega
  · intro l k h1
    rcases howns l k h1 with ⟨_, a1⟩ | ⟨_, a1⟩
    · exact Nat.lt_of_lt_of_le (hr.lt l k a1) hb.size
    · exact (hnew k a1).2
  · intro l k g h1 hbad
    rcases howns l k h1 with ⟨_, a1⟩ | ⟨_, a1⟩
    · exact hr.free l k g a1 hbad
    · have := hr.bad.1 g k hbad; have := (hnew k a1).1; omega
  · intro l o' bv' ho' hbv'
    by_cases hl : l < β.length
    · rw [List.getElem?_append_left (by rw [← hr.len]; exact hl)] at ho'
      rw [List.getElem?_append_left hl] at hbv'
      exact ObjRel.step hok hkeep (fun k _ hk => hb.block k hk) (hr.obj l o' bv' ho' hbv')
    · have h1 := (List.getElem?_eq_some_iff.1 hbv').1
      simp at h1
      obtain rfl : l = β.length := by omega
      simp at hbv'
      rw [hr.len] at ho'
      simp at ho'
      subst ho'; subst hbv'
      exact ho hok hkeep

/-- One thing that the run owns has turned: its block was written, or it moved to a new one. -/
theorem Step.turn {Bad : Forb} {β : List Value} {h : Heap} {w w' : World} (hr : HeapRel Bad β h w) {l : Nat} {bv bv' : Value} {o' : AObj} (hl : β[l]? = some bv)
    (hos : w'.os = w.os) (htape : w'.tape = w.tape) (hout : w'.output = w.output) (hsize : w.heap.size ≤ w'.heap.size)
    (hsame : ∀ k, k < w.heap.size → blkOf bv ≠ some k → w'.heap[k]? = w.heap[k]?)
    (hnew : ∀ k, blkOf bv' = some k → (blkOf bv = some k ∨ w.heap.size ≤ k) ∧ k < w'.heap.size)
    (hstale : ∀ ver, fut h l ver = false → fut (h.set l o') l ver = false ∧ ((objCells (h.set l o') l ver).isSome → (objCells h l ver).isSome ∧ bv' = bv))
    (ho : Ok (FOf Bad β) w (FOf Bad (β.set l bv')) w' → Keep β h (β.set l bv') (h.set l o') → ObjRel (β.set l bv') (h.set l o') (FOf Bad (β.set l bv')) w' bv' o')
    (hmap : isMapO (h.set l o') l = true → isMapO h l = true ∧ bv' = bv := by intro hm; rw [isMapO_set_not rfl] at hm; cases hm) :
    Step Bad β h w (β.set l bv') (h.set l o') w' := by
  have hlt : l < β.length := (List.getElem?_eq_some_iff.1 hl).1
  have hother : ∀ j, j ≠ l → (β.set l bv')[j]? = β[j]? := fun j hj => by rw [List.getElem?_set_ne (Ne.symm hj)]
  have hhother : ∀ j, j ≠ l → (h.set l o')[j]? = h[j]? := fun j hj => by rw [List.getElem?_set_ne (Ne.symm hj)]
  have hself : (β.set l bv')[l]? = some bv' := by simp [List.getElem?_set_self, hlt]
  have howns : ∀ j k, Owns (β.set l bv') j k → (j ≠ l ∧ Owns β j k) ∨ (j = l ∧ blkOf bv' = some k) := by
    rintro j k ⟨b, h1, h2⟩
    by_cases hj : j = l
    · subst hj
      rw [hself] at h1
      injection h1 with h1
      subst h1
      exact .inr ⟨rfl, h2⟩
    · rw [hother j hj] at h1
      exact .inl ⟨hj, b, h1, h2⟩
  have hownl : ∀ k, blkOf bv = some k → Owns β l k := fun k hk => ⟨bv, hl, hk⟩
  have hkeep : Keep β h (β.set l bv') (h.set l o') := by
    refine ⟨by simp, fun j hj ver hf => ?_, fun j hj hf hs => ?_⟩
    rotate_left
    · by_cases hjl : j = l
      · subst hjl
        obtain ⟨h1, h2⟩ := hmap hs
        exact ⟨h1, by rw [List.getD_eq_getElem?_getD, List.getD_eq_getElem?_getD, hself, hl, h2]⟩
      · rw [isMapO_set_ne hjl] at hs
        exact ⟨hs, by rw [List.getD_eq_getElem?_getD, List.getD_eq_getElem?_getD, hother j hjl]⟩
    by_cases hjl : j = l
    · subst hjl
      obtain ⟨f1, k1⟩ := hstale ver hf
      refine ⟨f1, fun hs => ?_⟩
      obtain ⟨h1, h2⟩ := k1 hs
      refine ⟨h1, ?_⟩
      rw [List.getD_eq_getElem?_getD, List.getD_eq_getElem?_getD, hself, hl, h2]
    · refine ⟨by unfold fut at hf ⊢; rw [hhother j hjl]; exact hf, fun hs => ⟨?_, by rw [List.getD_eq_getElem?_getD, List.getD_eq_getElem?_getD, hother j hjl]⟩⟩
      unfold objCells at hs ⊢
      rw [hhother j hjl] at hs
      exact hs
  have hok : Ok (FOf Bad β) w (FOf Bad (β.set l bv')) w' := by
    intro g k hk hf _
    have hnb : blkOf bv ≠ some k := fun h1 => hf (.inr ⟨l, hownl k h1⟩)
    refine ⟨?_, hsame k hk hnb⟩
    rintro (h1 | ⟨j, h1⟩)
    · exact hf (.inl h1)
    · rcases howns j k h1 with ⟨_, h2⟩ | ⟨_, h2⟩
      · exact hf (.inr ⟨j, h2⟩)
      · rcases (hnew k h2).1 with h3 | h3
        · exact hnb h3
        · omega
  have hsince : Since β w (β.set l bv') w' := by
    refine ⟨hos, htape, hout, hsize, fun k hk hn => hsame k hk (fun h1 => hn ⟨l, hownl k h1⟩), fun j k hj => ?_⟩
    rcases howns j k hj with ⟨_, h2⟩ | ⟨_, h2⟩
    · exact .inr ⟨j, h2⟩
    · rcases (hnew k h2).1 with h3 | h3
      · exact .inr ⟨l, hownl k h3⟩
      · exact .inl h3
  refine ⟨⟨by simp [hr.len], ?_, ?_, ?_, hr.bad.mono hsize fun k hk => hsame k (hr.bad.1 true k hk) fun h1 => hr.free l k true (hownl k h1) hk, ?_⟩, hkeep, hsince⟩
  · intro i j k h1 h2
    rcases howns i k h1 with ⟨a0, a1⟩ | ⟨a0, a1⟩ <;> rcases howns j k h2 with ⟨b0, b1⟩ | ⟨b0, b1⟩
    · exact hr.inj i j k a1 b1
    · rcases (hnew k b1).1 with h3 | h3
      · exact absurd (hr.inj i l k a1 (hownl k h3)) a0
      · have := hr.lt i k a1; omega
    · rcases (hnew k a1).1 with h3 | h3
      · exact absurd (hr.inj j l k b1 (hownl k h3)) b0
      · have := hr.lt j k b1; omega
    · omega
  · intro j k h1
    rcases howns j k h1 with ⟨_, a1⟩ | ⟨_, a1⟩
    · exact Nat.lt_of_lt_of_le (hr.lt j k a1) hsize
    · exact (hnew k a1).2
  · intro j k g h1 hbad
    rcases howns j k h1 with ⟨_, a1⟩ | ⟨_, a1⟩
    · exact hr.free j k g a1 hbad
    · rcases (hnew k a1).1 with h3 | h3
      · exact hr.free l k g (hownl k h3) hbad
      · have := hr.bad.1 g k hbad; omega
  · intro j o'' bv'' ho'' hbv''
    by_cases hj : j = l
    · subst hj
      rw [hself] at hbv''
      injection hbv'' with hbv''
      subst hbv''
      have hjh : j < h.length := by rw [← hr.len]; exact hlt
      rw [List.getElem?_set_self (by simpa using hjh)] at ho''
      injection ho'' with ho''
      subst ho''
      exact ho hok hkeep
    · rw [hother j hj] at hbv''
      rw [hhother j hj] at ho''
      refine ObjRel.step hok hkeep (fun k hk1 hk2 => hsame k hk2 fun h3 => ?_) (hr.obj j o'' bv'' ho'' hbv'')
      exact hj (hr.inj j l k ⟨bv'', hbv'', hk1⟩ (hownl k h3))

end Go.Fw
