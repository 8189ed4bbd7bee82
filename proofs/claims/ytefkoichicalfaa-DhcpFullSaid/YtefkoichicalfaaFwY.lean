/-
  A range over a function: the iterator's contract, the rounds. Conditions: stated at each.
-/
import Derived.Test.YtefkoichicalfaaFwP
set_option linter.unusedVariables false
set_option linter.unusedSimpArgs false
set_option linter.unusedSectionVars false
namespace Go.Fw
open Go.RowKit (Below)

/-- An iterator that hands on these items, one after the other, for whatever is done in the rounds, if that leaves alone what the iterator itself has laid. -/
def SeqSpec (P : Program) (f : FuncId) (cap : List AV) (h : Heap) (items : List (List PE)) : Prop :=
  EnterOk P f ∧ ∀ (Bad : Forb) (β : List Value) (w : World) (us : List Value), HeapRel Bad β h w → RepL cap β h (FOf Bad β) w us →
    ∀ (m l : Nat) (J : Nat → World → Prop) (Jx : World → Prop),
      (∀ W, Below w.heap.size w W → J 0 W) →
      (∀ i W W', J i W → Below W.heap.size W W' → J i W') →
      (∀ W W', Jx W → Below W.heap.size W W' → Jx W') →
      (∀ i it W, items[i]? = some it → J i W → w.heap.size ≤ W.heap.size → YieldAt Fence.wide m P l (it.map PE.val).toArray W fun e W' => W.heap.size ≤ W'.heap.size ∧ (∀ k, w.heap.size ≤ k → k < W.heap.size → W'.heap[k]? = W.heap[k]?) ∧ (∀ k, k < w.heap.size → bk w k = false → (¬ ∃ l, Owns β l k) → W'.heap[k]? = W.heap[k]?) ∧
        ((e = .returned (.bool true) ∧ J (i + 1) W') ∨ (e = .returned (.bool false) ∧ Jx W'))) →
      CallsIn Fence.wide (m + 1) P f (#[.func (.yield l) #[] #[]] ++ us.toArray) w fun e W' => (∃ v, e = .returned v) ∧ (J items.length W' ∨ Jx W')

def SeqsOk (P : Program) (E : Env) : Prop := ∀ f q, E.seq f = some q → ∀ cap h items, q cap h = some items → SeqSpec P f cap h items

section
variable {P : Program} {E : Env} {call : CallFn} {Bad : Forb} {β : List Value} {h : Heap} {w : World} {a : Act} {x : St}

/-- A block of the machine's book-keeping has turned. -/
theorem HeapRel.book (hh : HeapRel Bad β h w) {k : Nat} (hb : bk w k = true) (hn : ∀ g, ¬ FOf Bad β g k) (o : Obj) : HeapRel Bad β h (w.putObj k o) ∧ Ok (FOf Bad β) w (FOf Bad β) (w.putObj k o) := by
  have hok : Ok (FOf Bad β) w (FOf Bad β) (w.putObj k o) := fun g j hj hf hbj => ⟨hf, World.putObj_heap_other (fun e => by rw [e, hb] at hbj; cases hbj)⟩
  refine ⟨⟨hh.len, hh.inj, fun l j h1 => by rw [World.putObj_size]; exact hh.lt l j h1, hh.free, hh.bad.mono (by rw [World.putObj_size]; exact Nat.le_refl _) (fun j hj => World.putObj_heap_other (fun e => hn true (.inl (e ▸ hj)))), fun l ob bv ho hbv => ?_⟩, hok⟩
  exact ObjRel.step hok (Keep.refl β h) (fun j hj _ => World.putObj_heap_other (fun e => hn true (.inr ⟨l, bv, hbv, e ▸ hj⟩))) (hh.obj l ob bv ho hbv)
/-- The same, from a moment at which the block was not there. -/
theorem Step.book {β0 : List Value} {h0 : Heap} {w0 : World} (s : Step Bad β0 h0 w0 β h w) {k : Nat} (hk : w0.heap.size ≤ k) (hb : bk w k = true) (hn : ∀ g, ¬ FOf Bad β g k) (o : Obj) : Step Bad β0 h0 w0 β h (w.putObj k o) :=
  ⟨(s.rel.book hb hn o).1, s.keep, ⟨s.since.os, s.since.tape, s.since.output, by rw [World.putObj_size]; exact s.since.size, fun j hj ho => (World.putObj_heap_other (by omega)).trans (s.since.same j hj ho), s.since.own⟩⟩
theorem free_step {β' : List Value} {h' : Heap} {w' : World} (s : Step Bad β h w β' h' w') {k : Nat} (hk : k < w.heap.size) (hn : ∀ g, ¬ FOf Bad β g k) : ∀ g, ¬ FOf Bad β' g k := by
  rintro g (h1 | ⟨l, h1⟩)
  · exact hn g (.inl h1)
  · rcases s.since.own l k h1 with h2 | h2
    · omega
    · exact hn g (.inr h2)
theorem same_step {β' : List Value} {h' : Heap} {w' : World} (s : Step Bad β h w β' h' w') {k : Nat} (hk : k < w.heap.size) (hn : ∀ g, ¬ FOf Bad β g k) : w'.heap[k]? = w.heap[k]? := s.since.same k hk fun h1 => hn true (.inr h1)

theorem sameHL_len : ∀ {h h' : Heap}, sameHL h h' = true → h'.length = h.length
  | [], [], _ => rfl
  | a :: l, b :: m, hs => by
    simp only [sameHL, Bool.and_eq_true] at hs
    simp [sameHL_len hs.2]
  | [], _ :: _, hs => by simp [sameHL] at hs
  | _ :: _, [], hs => by simp [sameHL] at hs
theorem sameHL_at : ∀ {h h' : Heap}, sameHL h h' = true → ∀ (l : Nat) (o : AObj), h[l]? = some o → ∃ o', h'[l]? = some o' ∧ sameK o o' = true
  | a :: r, b :: m, hs, 0, o, ho => by
    simp only [sameHL, Bool.and_eq_true] at hs
    simp only [List.getElem?_cons_zero, Option.some.injEq] at ho
    subst ho
    exact ⟨b, rfl, hs.1⟩
  | a :: r, b :: m, hs, l + 1, o, ho => by
    simp only [sameHL, Bool.and_eq_true] at hs
    simp only [List.getElem?_cons_succ] at ho ⊢
    exact sameHL_at hs.2 l o ho
  | [], _, _, l, o, ho => by simp at ho
  | _ :: _, [], hs, _, _, _ => by simp [sameHL] at hs
/-- Objects of the same kinds, laid as they were, lie where they were. -/
theorem Keep.same {β' : List Value} {h' : Heap} (hk : Keep β h β' h') (hs : sameHL h h' = true) (h1 : β.length = h.length) (h2 : β'.length = h'.length) : β' = β := by
  have h3 := sameHL_len hs
  refine List.ext_getElem (by omega) fun l hl1 hl2 => ?_
  have hlh : l < h.length := by omega
  obtain ⟨o', ho', hko⟩ := sameHL_at hs l h[l] (List.getElem?_eq_getElem hlh)
  have hget : β'.getD l default = β.getD l default := by
    generalize ho : h[l] = o at hko
    have ho : h[l]? = some o := by rw [List.getElem?_eq_getElem hlh, ho]
    cases o <;> cases o' <;> simp only [sameK, Bool.false_eq_true] at hko
    case cells.cells => exact ((hk.2.1 l hl2 0 (by unfold fut; rw [ho]; rfl)).2 (by unfold objCells; rw [ho']; rfl)).2
    case row.row v z vs t _ v' z' vs' t' =>
      have hv : v = v' := by simpa using hko
      subst hv
      exact ((hk.2.1 l hl2 v (by unfold fut; rw [ho]; simp)).2 (by unfold objCells; rw [ho']; simp)).2
    case map.map => exact (hk.2.2 l hl2 (by unfold fut; rw [ho]; rfl) (by unfold isMapO; rw [ho'])).2
  simpa [List.getD_eq_getElem?_getD, List.getElem?_eq_getElem hl1, List.getElem?_eq_getElem hl2] using hget

/-- What lies at or behind n goes: what is kept holds nothing of it. -/
theorem refOkL_at {n : Nat} : ∀ {l : List AV}, refOk.refOkL n l = true → ∀ x ∈ l, refOk n x = true
  | y :: l, hr, x, hx => by
    simp only [refOk.refOkL, Bool.and_eq_true] at hr
    rcases List.mem_cons.1 hx with rfl | hx
    · exact hr.1
    · exact refOkL_at hr.2 x hx
theorem fut_take {h : Heap} {n l ver : Nat} (hl : l < n) : fut (h.take n) l ver = fut h l ver := by
  unfold fut
  rw [List.getElem?_take, if_pos hl]
theorem objCells_take {h : Heap} {n l ver : Nat} (hl : l < n) : objCells (h.take n) l ver = objCells h l ver := by
  unfold objCells
  rw [List.getElem?_take, if_pos hl]
theorem isMapO_take {h : Heap} {n l : Nat} (hl : l < n) : isMapO (h.take n) l = isMapO h l := by
  unfold isMapO
  rw [List.getElem?_take, if_pos hl]
theorem getD_take {β : List Value} {n l : Nat} (hl : l < n) : (β.take n).getD l default = β.getD l default := by
  rw [List.getD_eq_getElem?_getD, List.getD_eq_getElem?_getD, List.getElem?_take, if_pos hl]
mutual
theorem Rep.take {F : Forb} {w : World} {n : Nat} : ∀ (x : AV) (hx : refOk n x = true) {β : List Value} {h : Heap} {v : Value}, Rep x β h F w v → Rep x (β.take n) (h.take n) F w v
  | .undef, _, _, _, _, _ => trivial
  | .bool b, _, _, _, _, hr => hr
  | .int k m, _, _, _, _, hr => hr
  | .str s, _, _, _, _, hr => hr
  | .nils, _, _, _, _, hr => hr
  | .rs g sz l, _, _, _, _, hr => hr
  | .nilp, _, _, _, _, hr => hr
  | .rp g x, _, _, _, _, hr => hr
  | .nilm, _, _, _, _, hr => hr
  | .rm g kk es, _, _, _, _, hr => hr
  | .nilf, _, _, _, _, hr => hr
  | .nili, _, _, _, _, hr => hr
  | .ref l ver o, hx, β, h, _, hr => by
    have hl : l < n := by simpa [refOk] using hx
    simp only [Rep] at hr ⊢
    obtain ⟨⟨h1, h2⟩, h3, h4⟩ := hr
    refine ⟨⟨by rw [List.length_take]; omega, by rw [fut_take hl]; exact h2⟩, h3, fun hs => ?_⟩
    rw [objCells_take hl] at hs
    rw [getD_take hl]
    exact h4 hs
  | .sl sz l ver o m, hx, β, h, _, hr => by
    have hl : l < n := by simpa [refOk] using hx
    simp only [Rep] at hr ⊢
    obtain ⟨⟨h1, h2⟩, h3, h4⟩ := hr
    refine ⟨⟨by rw [List.length_take]; omega, by rw [fut_take hl]; exact h2⟩, h3, fun hs => ?_⟩
    rw [objCells_take hl] at hs
    rw [getD_take hl]
    exact h4 hs
  | .mp l, hx, β, h, _, hr => by
    have hl : l < n := by simpa [refOk] using hx
    simp only [Rep] at hr ⊢
    obtain ⟨⟨h1, h2⟩, h3, h4⟩ := hr
    refine ⟨⟨by rw [List.length_take]; omega, by rw [fut_take hl]; exact h2⟩, h3, fun hs => ?_⟩
    rw [isMapO_take hl] at hs
    rw [getD_take hl]
    exact h4 hs
  | .fn f cap, hx, _, _, _, hr => by
    simp only [Rep] at hr ⊢
    obtain ⟨vs, rfl, hl⟩ := hr
    exact ⟨vs, rfl, RepL.takeH cap (by simpa [refOk] using hx) hl⟩
  | .iface t x, hx, _, _, _, hr => by
    simp only [Rep] at hr ⊢
    obtain ⟨y, rfl, h⟩ := hr
    exact ⟨y, rfl, Rep.take x (by simpa [refOk] using hx) h⟩
  | .agg cs, hx, _, _, _, hr => by
    simp only [Rep] at hr ⊢
    obtain ⟨vs, rfl, hl, h1⟩ := hr
    exact ⟨vs, rfl, RepL.takeH cs (by simpa [refOk] using hx) hl, h1⟩
  | .tup cs, hx, _, _, _, hr => by
    simp only [Rep] at hr ⊢
    obtain ⟨vs, rfl, hl⟩ := hr
    exact ⟨vs, rfl, RepL.takeH cs (by simpa [refOk] using hx) hl⟩
theorem RepL.takeH {F : Forb} {w : World} {n : Nat} : ∀ (l : List AV) (hx : refOk.refOkL n l = true) {β : List Value} {h : Heap} {vs : List Value}, RepL l β h F w vs → RepL l (β.take n) (h.take n) F w vs
  | [], _, _, _, _, hr => hr
  | x :: l, hx, _, _, _, hr => by
    simp only [refOk.refOkL, Bool.and_eq_true] at hx
    simp only [RepL] at hr ⊢
    obtain ⟨u, us, rfl, h1, h2⟩ := hr
    exact ⟨u, us, rfl, Rep.take x hx.1 h1, RepL.takeH l hx.2 h2⟩
end
theorem owns_take {β : List Value} {n l k : Nat} (ho : Owns (β.take n) l k) : Owns β l k := by
  obtain ⟨bv, h1, h2⟩ := ho
  rw [List.getElem?_take] at h1
  split at h1
  · exact ⟨bv, h1, h2⟩
  · cases h1
theorem HeapRel.takeH (hh : HeapRel Bad β h w) {n : Nat} (hn : (h.take n).all (objRefOk n) = true) : HeapRel Bad (β.take n) (h.take n) w := by
  have hF : ∀ g k, ¬ FOf Bad β g k → ¬ FOf Bad (β.take n) g k := by
    rintro g k hf (h1 | ⟨l, h1⟩)
    · exact hf (.inl h1)
    · exact hf (.inr ⟨l, owns_take h1⟩)
  have hok : Ok (FOf Bad β) w (FOf Bad (β.take n)) w := fun g k _ hf _ => ⟨hF g k hf, rfl⟩
  refine ⟨by rw [List.length_take, List.length_take, hh.len], fun l l' k h1 h2 => hh.inj l l' k (owns_take h1) (owns_take h2), fun l k h1 => hh.lt l k (owns_take h1), fun l k g h1 => hh.free l k g (owns_take h1), hh.bad, fun l o bv ho hbv => ?_⟩
  have hro : objRefOk n o = true := List.all_eq_true.1 hn o (List.mem_of_getElem? ho)
  rw [List.getElem?_take] at ho hbv
  split at ho
  · rename_i hl
    rw [if_pos hl] at hbv
    have h1 := ObjRel.step hok (Keep.refl β h) (fun k _ _ => rfl) (hh.obj l o bv ho hbv)
    cases o with
    | gone => trivial
    | hole => trivial
    | map kk es => exact h1
    | cells ag vs t =>
      obtain ⟨b, arr, e1, e2, hv, e3⟩ := h1
      exact ⟨b, arr, e1, e2, RepL.takeH vs hro hv, e3⟩
    | row ver sz vs t =>
      obtain ⟨hz, m, xs, e1, hv, e3⟩ := h1
      exact ⟨hz, m, xs, e1, RepL.takeH vs hro hv, e3⟩
  · cases ho
theorem Keep.take {β' : List Value} {h' : Heap} (hk : Keep β h β' h') (h1 : β.length = h.length) (h2 : β'.length = h'.length) : Keep β h (β'.take h.length) (h'.take h.length) := by
  refine ⟨by rw [List.length_take]; have := hk.1; omega, fun l hl ver hf => ?_, fun l hl hf hs => ?_⟩
  · have hl' : l < h.length := by omega
    obtain ⟨k1, k2⟩ := hk.2.1 l hl ver hf
    rw [fut_take hl', objCells_take hl', getD_take hl']
    exact ⟨k1, k2⟩
  · have hl' : l < h.length := by omega
    rw [isMapO_take hl'] at hs
    rw [getD_take hl']
    exact hk.2.2 l hl hf hs
theorem backTo_spec {h h' h2 : Heap} (hb : backTo h h' = some h2) : h2 = h'.take h.length ∧ sameHL h h2 = true ∧ h2.all (objRefOk h.length) = true := by
  unfold backTo at hb
  split at hb
  · rename_i hc
    injection hb with hb
    subst hb
    simp only [Bool.and_eq_true] at hc
    exact ⟨rfl, hc.1, hc.2⟩
  · cases hb
/-- A step whose new memory is let go. -/
theorem Step.back {β0 : List Value} {h0 : Heap} {w0 : World} {β' : List Value} {h' : Heap} {w' : World} (s0 : Step Bad β0 h0 w0 β h w) (s : Step Bad β0 h0 w0 β' h' w') (hk : Keep β h β' h') {h2 : Heap} (hb : backTo h h' = some h2) : β'.take h.length = β ∧ Step Bad β0 h0 w0 β h2 w' := by
  obtain ⟨rfl, hs, hr⟩ := backTo_spec hb
  have hlen := s0.rel.len
  have hk2 := hk.take hlen s.rel.len
  have hl2 : (β'.take h.length).length = (h'.take h.length).length := by rw [List.length_take, List.length_take, s.rel.len]
  have e : β'.take h.length = β := hk2.same hs hlen hl2
  refine ⟨e, ?_⟩
  have hrel := s.rel.takeH hr
  rw [e] at hrel hk2
  exact ⟨hrel, s0.keep.trans hk2, ⟨s.since.os, s.since.tape, s.since.output, s.since.size, s.since.same, s0.since.own⟩⟩

/-- The loop's variables get what is handed on. -/
theorem putAll_rep {F : Forb} {β : List Value} {h : Heap} {w : World} {n : Nat} : ∀ (ps : List Nat) (it : List PE) {s : Slots} {tmps : Array Value}, (∀ t, Rep (get s t) β h F w (tmps.getD t undef)) → tmps.size = n → (∀ p ∈ ps, p < n) → it.length = ps.length → it.all PE.wf = true →
    (∀ t, Rep (get (putAll ps it s) t) β h F w (((ps.zip (it.map PE.val)).foldl (fun t (p : Nat × Value) => t.setIfInBounds p.1 p.2) tmps).getD t undef)) ∧ ((ps.zip (it.map PE.val)).foldl (fun t (p : Nat × Value) => t.setIfInBounds p.1 p.2) tmps).size = n
  | [], [], s, tmps, hr, hn, _, _, _ => ⟨hr, hn⟩
  | p :: ps, e :: it, s, tmps, hr, hn, hp, hl, hw => by
    simp only [List.all_cons, Bool.and_eq_true] at hw
    simp only [List.map_cons, List.zip_cons_cons, List.foldl_cons, putAll]
    refine putAll_rep ps it (fun t => ?_) (by simp [hn]) (fun q hq => hp q (by simp [hq])) (by simpa using hl) hw.2
    have hlt : p < tmps.size := by rw [hn]; exact hp p (by simp)
    simp only [get, Array.getD_eq_getD_getElem?, Array.getElem?_setIfInBounds]
    by_cases h1 : t = p
    · subst h1
      simp only [if_true, hlt]
      exact rep_PE hw.1 _ _ _ _
    · have h2 : ¬ p = t := fun e => h1 e.symm
      simp only [h1, h2, if_false]
      have := hr t
      rwa [Array.getD_eq_getD_getElem?] at this
  | [], _ :: _, _, _, _, _, _, hl, _ => by simp at hl
  | _ :: _, [], _, _, _, _, _, hl, _ => by simp at hl

/-- One round's frame of mind: which jump stands for which way out. -/
def exOf' : Ex → Exit
  | .norm => .normal
  | .exit id => .exit id
  | .ret => .ret
def jumpOf : Ex → Option Code
  | .norm => none
  | .exit id => some (.exit id)
  | .ret => some .ret

/-- THE ROUNDS. What is told of the loop's two parts, in a round: `hA`, `hB`. -/
theorem rangeF_sound {n D mm : Nat} (hseq : SeqsOk P E) {g : Operand} {ps : Array Tmp} {assign body : Code} {fA fB : St → Out} {y : St} {e : Ex} {Q : Exit → Act → World → Prop}
    (hA : ∀ (l : Nat) {β : List Value} {w : World} {a : Act} {x y : St} {e : Ex} {Q : Exit → Act → World → Prop}, Inv Bad β w a n D x → fA x = some (e, y) → (∀ β' w' a', Step Bad β x.h w β' y.h w' → Inv Bad β' w' a' n D y → Q (exOf' e) a' w') → assign.wpIn (WF (some l)) mm P Q a w)
    (hB : ∀ (l : Nat) {β : List Value} {w : World} {a : Act} {x y : St} {e : Ex} {Q : Exit → Act → World → Prop}, Inv Bad β w a n D x → fB x = some (e, y) → (∀ β' w' a', Step Bad β x.h w β' y.h w' → Inv Bad β' w' a' n D y → Q (exOf' e) a' w') → body.wpIn (WF (some l)) mm P Q a w)
    (hi : Inv Bad β w a n D x) {f : FuncId} {cap : List AV} {us : List Value} (hg : a.eval g = .func (.func f) #[] us.toArray) (hcap : RepL cap β x.h (FOf Bad β) w us) {q : List AV → Heap → Option (List (List PE))} (hq : E.seq f = some q) {items : List (List PE)} (hits : q cap x.h = some items)
    (hps : ∀ p ∈ ps.toList, p < n) (hev : evRange (fun y => andThenN (fA y) fB) x.s ps.toList items x.h = some (e, y))
    (hQ : ∀ β' w' a', Step Bad β x.h w β' y.h w' → Inv Bad β' w' a' n D y → Q (exOf' e) a' w') : (Code.rangeFunc g ps assign body).wpIn (WF none) (mm + 2) P Q a w := by
  obtain ⟨hent, hspec⟩ := hseq f q hq cap x.h items hits
  refine wpIn_rangeFunc ?_
  intro fn _
  obtain ⟨rec, hrec⟩ : ∃ rec : LoopState → Option Code → Loop, rec = fun st pe => { state := st, pending := pe, fn, tmps := a.tmps, params := ps, assign, body, defers := w.heap.size } := ⟨_, rfl⟩
  obtain ⟨W1, hW1⟩ : ∃ W1, (w.alloc (.deferred (some []))).alloc (.loop (rec .ready none)) = W1 := ⟨_, rfl⟩
  have hsz : W1.heap.size = w.heap.size + 2 := by rw [← hW1]; simp
  have hL1 : W1.heap[w.heap.size + 1]? = some (.loop (rec .ready none)) := by
    rw [← hW1]; have := World.alloc_heap_new (w.alloc (.deferred (some []))) (.loop (rec .ready none)); rwa [World.size_alloc] at this
  have hK1 : W1.heap[w.heap.size]? = some (.deferred (some [])) := by
    rw [← hW1]; exact (Below.heap_alloc _ _ _ (by simp)).trans (World.alloc_heap_new w _)
  have hb1 : Below w.heap.size w W1 := by
    rw [← hW1]; exact ((Below.refl _ w).alloc (Nat.le_refl _) _).alloc (by simp) _
  have hst1 : Step Bad β x.h w β x.h W1 := Step.quiet hi.heap hb1
  have hfree : ∀ k, w.heap.size ≤ k → ∀ g, ¬ FOf Bad β g k := by
    rintro k hk g (h1 | ⟨l, h1⟩)
    · have := hi.heap.bad.1 g k h1; omega
    · have := hi.heap.lt l k h1; omega
  have hcf : ∀ (xs : Array Value) (W : World), (callFunc f xs).run P W = .ok (.enter f xs) W := by
    obtain ⟨fn', h1, h2, h3⟩ := hent
    intro xs W
    unfold callFunc
    simp only [Sem.run_bind, run_program, Result.andThen_ok, h1, h2, h3, Bool.false_eq_true, if_false, Sem.run_pure]
  -- what holds between two rounds
  let J : Nat → World → Prop := fun i W => ∃ hi' βi, evRange (fun y => andThenN (fA y) fB) x.s ps.toList (items.drop i) hi' = some (e, y) ∧ (i < items.length → βi = β) ∧ ((∀ g, ¬ FOf Bad βi g (w.heap.size + 1)) ∧ ∀ g, ¬ FOf Bad βi g w.heap.size) ∧ Step Bad β x.h w βi hi' W ∧ W.heap[w.heap.size + 1]? = some (.loop (rec .ready none)) ∧ W.heap[w.heap.size]? = some (.deferred (some [])) ∧ w.heap.size + 2 ≤ W.heap.size
  let Jx : World → Prop := fun W => ∃ c, jumpOf e = some c ∧ y.s = x.s ∧ Step Bad β x.h w β y.h W ∧ W.heap[w.heap.size + 1]? = some (.loop (rec .done (some c))) ∧ W.heap[w.heap.size]? = some (.deferred (some []))
  refine ⟨w.heap.size + 1, [{ target := .collected w.heap.size, args := #[] }], W1, { target := .fn (.func f) us.toArray, args := #[.func (.yield (w.heap.size + 1)) #[] #[]] }, W1, f,
    #[.func (.yield (w.heap.size + 1)) #[] #[]] ++ us.toArray, W1, ?_, ?_, fun _ _ => trivial, ?_, fun h => (by simp [WF, Fence.wide] at h), ?_⟩
  · rw [← hW1, hrec]; exact run_enterLoop_outer _ _ _ _ _
  · simp only [resolve, hg]
    simp [go_sem]
  · simp [invoke, go_sem, hcf]
  refine CallsIn.mono (hspec Bad β W1 us hst1.rel (hst1.repL hcap) mm (w.heap.size + 1) J Jx ?_ ?_ ?_ ?_) ?_
  · intro W hB0
    exact ⟨x.h, β, hev, fun _ => rfl, ⟨hfree _ (by omega), hfree _ (Nat.le_refl _)⟩, hst1.trans (Step.quiet hst1.rel hB0), by rw [hB0.block _ (by omega)]; exact hL1, by rw [hB0.block _ (by omega)]; exact hK1, by have := hB0.size; omega⟩
  · rintro i W W' ⟨h', βi, h1, h1', h1'', h2, h3, h4, h5⟩ hB0
    exact ⟨h', βi, h1, h1', h1'', h2.trans (Step.quiet h2.rel hB0), by rw [hB0.block _ (by omega)]; exact h3, by rw [hB0.block _ (by omega)]; exact h4, by have := hB0.size; omega⟩
  · rintro W W' ⟨c, h1, h0, h2, h3, h4⟩ hB0
    exact ⟨c, h1, h0, h2.trans (Step.quiet h2.rel hB0), by rw [hB0.block _ (Array.getElem?_eq_some_iff.1 h3).1]; exact h3, by rw [hB0.block _ (Array.getElem?_eq_some_iff.1 h4).1]; exact h4⟩
  · -- one round
    rintro i it W hit ⟨h', βi, hev', hβi, _, hst, hl, hk, hsW⟩ _
    obtain rfl : β = βi := (hβi (List.getElem?_eq_some_iff.1 hit).1).symm
    have hdrop : items.drop i = it :: items.drop (i + 1) := by
      have hlt : i < items.length := (List.getElem?_eq_some_iff.1 hit).1
      rw [List.drop_eq_getElem_cons hlt]
      rw [List.getElem?_eq_getElem hlt] at hit
      injection hit with hit
      rw [hit]
    rw [hdrop] at hev'
    simp only [evRange] at hev'
    split at hev'
    case isFalse => cases hev'
    rename_i hlen
    have hy := run_yield (P := P) (args := (it.map PE.val).toArray) hl (by rw [hrec]; simp [hlen.1])
    refine ⟨_, _, _, _, hy, roundIn_of_wpIn trivial ?_⟩
    -- the loop's variables
    have hslots : SlotsRep β h' (FOf Bad β) W x.s a := fun t => hst.rep (hi.slots t)
    obtain ⟨hr1, hn1⟩ := putAll_rep (n := n) ps.toList it hslots hi.size hps hlen.1 hlen.2
    have hfold : ((rec .ready none).params.zip (it.map PE.val).toArray).foldl (fun tmps (x : Tmp × Value) => match x with | (t, a) => tmps.setIfInBounds t a) (rec .ready none).tmps = (ps.toList.zip (it.map PE.val)).foldl (fun t (p : Nat × Value) => t.setIfInBounds p.1 p.2) a.tmps := by
      rw [hrec, ← Array.foldl_toList, Array.toList_zip]
    rw [hfold]
    have hinv0 : Inv Bad β W { tmps := (ps.toList.zip (it.map PE.val)).foldl (fun t (p : Nat × Value) => t.setIfInBounds p.1 p.2) a.tmps, defers := [] } n D ⟨putAll ps.toList it x.s, h'⟩ :=
      ⟨hst.rel, hr1, hn1, trivial, Nat.le_trans hi.base hst.since.size⟩
    cases hfa : fA ⟨putAll ps.toList it x.s, h'⟩ with
    | none => rw [hfa] at hev'; cases hev'
    | some r1 =>
      obtain ⟨e1, z⟩ := r1
      rw [hfa] at hev'
      cases e1 with
      | exit id => cases hev'
      | ret => cases hev'
      | norm =>
        simp only [andThenN] at hev'
        have hrecA : (rec .ready none).assign = assign := by rw [hrec]
        have hrecB : (rec .ready none).body = body := by rw [hrec]
        rw [hrecA, hrecB]
        refine hA (w.heap.size + 1) hinv0 hfa fun β1 Wa a1 hsA hinv1 => ?_
        have hLW : w.heap.size + 1 < W.heap.size := by omega
        have hfL := hfree (w.heap.size + 1) (by omega)
        have hfK := hfree w.heap.size (by omega)
        have hla : Wa.heap[w.heap.size + 1]? = some (.loop (rec .ready none)) := by rw [same_step hsA hLW hfL]; exact hl
        have hka : Wa.heap[w.heap.size]? = some (.deferred (some [])) := by rw [same_step hsA (by omega) hfK]; exact hk
        have hfL1 := free_step hsA hLW hfL
        have hfK1 := free_step hsA (by omega) hfK
        refine ⟨_, run_beginRound hla (by rw [hrec]), ?_⟩
        obtain ⟨hrel2, hok2⟩ := hinv1.heap.book (k := w.heap.size + 1) (by unfold bk; rw [hla]) hfL1 (.loop { rec .ready none with state := .busy })
        obtain ⟨W2, hW2⟩ : ∃ W2, Wa.putObj (w.heap.size + 1) (.loop { rec .ready none with state := .busy }) = W2 := ⟨_, rfl⟩
        have hsWa : W.heap.size ≤ Wa.heap.size := hsA.since.size
        have hl2 : W2.heap[w.heap.size + 1]? = some (.loop { rec .ready none with state := .busy }) := by rw [← hW2]; exact World.putObj_heap_same (by omega)
        have hk2 : W2.heap[w.heap.size]? = some (.deferred (some [])) := by rw [← hW2]; exact (World.putObj_heap_other (by omega)).trans hka
        have hs2 : W2.heap.size = Wa.heap.size := by rw [← hW2]; simp
        have hs2k : ∀ k, k ≠ w.heap.size + 1 → W2.heap[k]? = Wa.heap[k]? := fun k hk => by rw [← hW2]; exact World.putObj_heap_other hk
        have hst2 : Step Bad β x.h w β1 z.h W2 := by rw [← hW2]; exact (hst.trans hsA).book (by omega) (by unfold bk; rw [hla]) hfL1 _
        rw [hW2] at hrel2 hok2 ⊢
        have hinv2 : Inv Bad β1 W2 a1 n D z := ⟨hrel2, fun t => Rep.step hok2 _ (Keep.refl _ _) (hinv1.slots t), hinv1.size, Dfs.mono (fun k hd hk hf => ⟨hs2k k (fun e => by rw [e, hla] at hd; cases hd), hf⟩) hinv1.defers, by rw [hs2]; exact hinv1.base⟩
        cases hfb : fB z with
        | none => rw [hfb] at hev'; cases hev'
        | some r2 =>
          obtain ⟨e2, y2⟩ := r2
          rw [hfb] at hev'
          refine hB (w.heap.size + 1) hinv2 hfb fun β3 W3 a3 hsB hinv3 => ?_
          have hl3 : W3.heap[w.heap.size + 1]? = some (.loop { rec .ready none with state := .busy }) := by rw [same_step hsB (by omega) hfL1]; exact hl2
          have hk3 : W3.heap[w.heap.size]? = some (.deferred (some [])) := (same_step hsB (by omega) hfK1).trans hk2
          have hfL3 := free_step hsB (by omega) hfL1
          have hst3 : Step Bad β x.h w β3 y2.h W3 := hst2.trans hsB
          have hkeep : Keep β h' β3 y2.h := (hsA.keep).trans hsB.keep
          have hs3 : W2.heap.size ≤ W3.heap.size := hsB.since.size
          -- what is asked at a round's end
          have fin : ∀ (jump : Option Code) (st : LoopState) (hz : Heap) (βz : List Value), st = (if jump.isNone then .ready else .done) → (∀ W4, Step Bad β x.h w β3 y2.h W4 → Step Bad β x.h w βz hz W4) →
              ∃ W4, (Instr.endRound (w.heap.size + 1) jump).run P W3 = .ok (.bool jump.isNone) W4 ∧ W4.heap.size = W3.heap.size ∧ Step Bad β x.h w βz hz W4 ∧ W4.heap[w.heap.size + 1]? = some (.loop (rec st jump)) ∧ W4.heap[w.heap.size]? = some (.deferred (some [])) ∧
                (∀ k, W1.heap.size ≤ k → k < W.heap.size → W4.heap[k]? = W.heap[k]?) ∧ (∀ k, k < W1.heap.size → bk W1 k = false → (¬ ∃ l, Owns β l k) → W4.heap[k]? = W.heap[k]?) := by
            intro jump st hz βz hstt hs
            refine ⟨_, run_endRound jump hl3, by simp, ?_, ?_, (World.putObj_heap_other (by omega)).trans hk3, fun k hk1 hk2' => ?_, fun k hk1 hbk hno => ?_⟩
            · have := hst3.book (k := w.heap.size + 1) (by omega) (by unfold bk; rw [hl3]) hfL3 (.loop { { rec .ready none with state := .busy } with state := if jump.isNone then .ready else .done, pending := jump })
              exact hs _ this
            · rw [World.putObj_heap_same (by omega)]
              rw [hrec, hstt]
            · have hfk := hfree k (by omega)
              rw [World.putObj_heap_other (by omega), same_step hsB (by omega) (free_step hsA hk2' hfk), hs2k k (by omega), same_step hsA hk2' hfk]
            · have hkL : k ≠ w.heap.size + 1 := fun e => by
                rw [e] at hbk
                unfold bk at hbk
                rw [hL1] at hbk
                cases hbk
              have hkK : k ≠ w.heap.size := fun e => by
                rw [e] at hbk
                unfold bk at hbk
                rw [hK1] at hbk
                cases hbk
              have hkw : k < W.heap.size := by omega
              have hno1 : ¬ ∃ l, Owns β1 l k := by
                rintro ⟨l, h1⟩
                rcases hsA.since.own l k h1 with h2 | h2
                · omega
                · exact hno h2
              rw [World.putObj_heap_other hkL, hsB.since.same k (by omega) hno1, hs2k k hkL, hsA.since.same k hkw hno]
          cases e2 with
          | norm =>
            simp only [roundEnd] at hev'
            cases hs : backE (items.drop (i + 1)).isEmpty h' y2.h with
            | none => rw [hs] at hev'; cases hev'
            | some hz =>
              rw [hs] at hev'
              unfold backE at hs
              split at hs
              · rename_i hlast
                injection hs with hs
                subst hs
                obtain ⟨W4, h1, h2, h3, h4, h5, h6, h7⟩ := fin none .ready y2.h β3 rfl fun _ h => h
                refine ⟨_, W4, h1, by omega, h6, h7, .inl ⟨rfl, y2.h, β3, hev', fun hlt => ?_, ⟨hfL3, free_step hsB (by omega) hfK1⟩, h3, h4, h5, by omega⟩⟩
                rw [List.isEmpty_iff] at hlast
                have := List.drop_eq_nil_iff.1 hlast
                omega
              · obtain ⟨W4, h1, h2, h3, h4, h5, h6, h7⟩ := fin none .ready hz β rfl fun W4 this => (hst.back this hkeep hs).2
                exact ⟨_, W4, h1, by omega, h6, h7, .inl ⟨rfl, hz, β, hev', fun _ => rfl, ⟨hfL, hfK⟩, h3, h4, h5, by omega⟩⟩
          | exit id =>
            simp only [roundEnd] at hev'
            cases hs : backTo h' y2.h with
            | none => rw [hs] at hev'; cases hev'
            | some hz =>
              rw [hs] at hev'
              injection hev' with hev'
              injection hev' with he1 he2
              obtain ⟨W4, h1, h2, h3, h4, h5, h6, h7⟩ := fin (some (.exit id)) .done hz β rfl fun W4 this => (hst.back this hkeep hs).2
              exact ⟨_, W4, h1, by omega, h6, h7, .inr ⟨rfl, .exit id, by rw [← he1]; rfl, by rw [← he2], by rw [← he2]; exact h3, h4, h5⟩⟩
          | ret =>
            simp only [roundEnd] at hev'
            cases hs : backTo h' y2.h with
            | none => rw [hs] at hev'; cases hev'
            | some hz =>
              rw [hs] at hev'
              injection hev' with hev'
              injection hev' with he1 he2
              obtain ⟨W4, h1, h2, h3, h4, h5, h6, h7⟩ := fin (some .ret) .done hz β rfl fun W4 this => (hst.back this hkeep hs).2
              exact ⟨_, W4, h1, by omega, h6, h7, .inr ⟨rfl, .ret, by rw [← he1]; rfl, by rw [← he2], by rw [← he2]; exact h3, h4, h5⟩⟩
  · -- behind the iterator
    have hfL := hfree (w.heap.size + 1) (by omega)
    have hfK := hfree w.heap.size (Nat.le_refl _)
    have last : ∀ (βi : List Value) (W2 : World) (r : Loop) (o : Obj), (∀ g, ¬ FOf Bad βi g (w.heap.size + 1)) → (∀ g, ¬ FOf Bad βi g w.heap.size) → y.s = x.s → Step Bad β x.h w βi y.h W2 → W2.heap[w.heap.size + 1]? = some (.loop r) → W2.heap[w.heap.size]? = some (.deferred (some [])) →
        Q (exOf' e) { a with defers := { target := .collected w.heap.size, args := #[] } :: a.defers } (W2.putObj (w.heap.size + 1) o) := by
      intro βi W2 r o hfL hfK hys hst hl hk
      have hst4 := hst.book (k := w.heap.size + 1) (by omega) (by unfold bk; rw [hl]) hfL o
      refine hQ βi _ _ hst4 ⟨hst4.rel, fun t => ?_, hi.size, ⟨⟨w.heap.size, rfl, hi.base, (World.putObj_heap_other (by omega)).trans hk, hfK⟩, fun d' hd' hdd => ?_, hi.defers.step hst4⟩, Nat.le_trans hi.base hst4.since.size⟩
      · rw [hys]
        exact hst4.rep (hi.slots t)
      · have key : ∀ (ds : List Deferred), Dfs D (FOf Bad β) w ds → ∀ d ∈ ds, d ≠ { target := .collected w.heap.size, args := #[] } := by
          intro ds
          induction ds with
          | nil => intro _ d hd; cases hd
          | cons d0 ds ih =>
            rintro ⟨⟨k, hk1, _, hk2, _⟩, _, hr⟩ d hd
            rcases List.mem_cons.1 hd with rfl | hd
            · intro hdd
              rw [hk1] at hdd
              injection hdd with hdd
              injection hdd with hdd
              have := (Array.getElem?_eq_some_iff.1 hk2).1
              omega
            · exact ih hr d hd
        exact key _ hi.defers d' hd' hdd
    rintro e3 W2 ⟨⟨v, rfl⟩, ⟨h', βi, hev', _, ⟨hfL1, hfK1⟩, hst, hl, hk, _⟩ | ⟨c, hj, hys, hst, hl, hk⟩⟩
    · rw [List.drop_length] at hev'
      simp only [evRange, Option.some.injEq, Prod.mk.injEq] at hev'
      obtain ⟨he1, he2⟩ := hev'
      refine ⟨none, _, by have := run_endLoop (P := P) hl (by rw [hrec]; simp); rw [hrec] at this; exact this, ?_⟩
      have := last βi W2 _ (.loop { rec .ready none with state := .exhausted }) hfL1 hfK1 (by rw [← he2]) (by rw [← he2]; exact hst) hl hk
      rw [← he1, hrec] at this
      exact this
    · refine ⟨some c, _, by have := run_endLoop (P := P) hl (by rw [hrec]; simp); rw [hrec] at this; exact this, ?_⟩
      have := last β W2 _ (.loop { rec .done (some c) with state := .exhausted }) hfL hfK hys hst hl hk
      rw [hrec] at this
      cases e with
      | norm => cases hj
      | exit id =>
        simp only [jumpOf, Option.some.injEq] at hj
        subst hj
        exact wpIn_exit this
      | ret =>
        simp only [jumpOf, Option.some.injEq] at hj
        subst hj
        exact wpIn_ret this

end
end Go.Fw
