/-
  A statement, a function's code, a function, a call. Conditions: stated at each.
-/
import Derived.Test.YtefkoichicalfaaFwO
import Derived.OrdersIn
import Derived.RangeFuncNested
set_option linter.unusedVariables false
set_option linter.unusedSimpArgs false
set_option linter.unusedSectionVars false
namespace Go.Fw
open Go.RowKit (Below)

/-- Does the evaluation's operation, with its place and its guard, stand for the machine's? -/
def chkO (P : Program) (ops : Array Oper) (n : Nat) (o : Oper) (io : IO_) : Bool :=
  io.dst == o.dst && (match io.dst with | some d => decide (d < n) | none => true) &&
  (match o.guard, io.guard with
   | none, none => true
   | some (j, b), some (t, c) => (ops[j]?).bind (·.dst) == some t && b == c
   | _, _ => false) &&
  chkI P o.op io.op

def chkOs (P : Program) (ops : Array Oper) (n : Nat) : List Oper → List IO_ → Bool
  | [], [] => true
  | o :: os, io :: ios => chkO P ops n o io && chkOs P ops n os ios
  | _, _ => false

theorem chkOs_at {P : Program} {ops : Array Oper} {n : Nat} : ∀ {os : List Oper} {ios : List IO_}, chkOs P ops n os ios = true → os.length = ios.length ∧ ∀ (i : Nat) o io, os[i]? = some o → ios[i]? = some io → chkO P ops n o io = true
  | [], [], _ => ⟨rfl, fun i o io h => by simp at h⟩
  | o :: os, io :: ios, h => by
    simp only [chkOs, Bool.and_eq_true] at h
    obtain ⟨h1, h2⟩ := chkOs_at h.2
    refine ⟨by simp [h1], fun i o' io' ho hio => ?_⟩
    cases i with
    | zero => simp at ho hio; subst ho; subst hio; exact h.1
    | succ i => exact h2 i o' io' (by simpa using ho) (by simpa using hio)
  | [], _ :: _, h => by simp [chkOs] at h
  | _ :: _, [], h => by simp [chkOs] at h

section
variable {P : Program} {E : Env} {call : CallFn} {Bad : Forb} {β : List Value} {w : World} {a : Act} {x : St}

/-- What a range over a function leaves among the deferred calls: the mark of an empty block, that nobody else relies on, laid since D. -/
def Dfs (D : Nat) (F : Forb) (w : World) : List Deferred → Prop
  | [] => True
  | d :: ds => (∃ k, d = { target := .collected k, args := #[] } ∧ D ≤ k ∧ w.heap[k]? = some (.deferred (some [])) ∧ ∀ g, ¬ F g k) ∧ (∀ d' ∈ ds, d' ≠ d) ∧ Dfs D F w ds
theorem Dfs.mono {D : Nat} {F F' : Forb} {w w' : World} (hs : ∀ k, w.heap[k]? = some (.deferred (some [])) → k < w.heap.size → (∀ g, ¬ F g k) → w'.heap[k]? = w.heap[k]? ∧ ∀ g, ¬ F' g k) : ∀ {ds : List Deferred}, Dfs D F w ds → Dfs D F' w' ds
  | [], _ => trivial
  | d :: ds, ⟨⟨k, h1, h0, h2, h3⟩, h4, h5⟩ => by
    obtain ⟨h6, h7⟩ := hs k h2 (Array.getElem?_eq_some_iff.1 h2).1 h3
    exact ⟨⟨k, h1, h0, by rw [h6]; exact h2, h7⟩, h4, Dfs.mono hs h5⟩
theorem Dfs.step {D : Nat} {β' : List Value} {h h' : Heap} {w' : World} (hst : Step Bad β h w β' h' w') {ds : List Deferred} (hd : Dfs D (FOf Bad β) w ds) : Dfs D (FOf Bad β') w' ds :=
  Dfs.mono (fun k _ hk hf => ⟨hst.since.same k hk fun ho => hf true (.inr ho), fun g h1 => by
    rcases h1 with h1 | ⟨l, h1⟩
    · exact hf g (.inl h1)
    · rcases hst.since.own l k h1 with h2 | h2
      · omega
      · exact hf g (.inr h2)⟩) hd
/-- The evaluation's state stands for the machine's. -/
structure Inv (Bad : Forb) (β : List Value) (w : World) (a : Act) (n : Nat) (D : Nat) (x : St) : Prop where
  heap : HeapRel Bad β x.h w
  slots : SlotsRep β x.h (FOf Bad β) w x.s a
  size : a.tmps.size = n
  defers : Dfs D (FOf Bad β) w a.defers
  base : D ≤ w.heap.size

/-- The fence of all functions, in a round or not. -/
def WF (r : Option Nat) : Fence := { Fence.wide with round := r }
theorem rows_in {rr : Option Nat} {mm : Nat} {row : String} {args : Array Value} {R : Value → World → Prop} (h : Rows P row args w R) : RowsIn (WF rr) mm P row args w R :=
  fun c cs _ => let ⟨v, w', r, s⟩ := h c cs; ⟨v, w', r, stepsIn_wide.2 s⟩
theorem calls_in {rr : Option Nat} {mm : Nat} {f : FuncId} {args : Array Value} {R : Ending → World → Prop} (h : Calls P f args w R) : CallsIn (WF rr) mm P f args w R := callsIn_wide.2 h
/-- What an operation does, it does in a round too, if it defers nothing. -/
theorem wp_in {rr : Option Nat} {mm : Nat} {o : Oper} {K : Act → World → Prop} {Q : Exit → Act → World → Prop} (hd : ∀ c, o.op ≠ .defer c) (h : o.wp P a w K Q) : o.wpIn (WF rr) mm P a w K Q := by
  refine ⟨fun _ _ => trivial, ?_⟩
  show o.uponIn (WF rr) mm P a K Q ((o.semAt rr a.eval).run P w)
  rw [Oper.semAt_eq rr a.eval o hd]
  unfold Oper.wp at h
  generalize (execOp a.eval o).run P w = z at h
  cases z with
  | ok x w' =>
    cases x <;> simp only [Oper.upon] at h <;> simp only [Oper.uponIn] <;> first
      | exact h
      | exact ⟨fun h => by simp [WF, Fence.wide] at h, calls_in h⟩
      | exact ⟨fun h => by simp [WF, Fence.wide] at h, rows_in h⟩
  | halt x w' => cases x <;> simp only [Oper.upon] at h <;> simp only [Oper.uponIn] <;> exact h
theorem notDefer {op : Op} {x : I} {s : Slots} {h : Heap} {r : AV × Heap} (hc : chkI P op x = true) (he : evI E call s h x = some r) : ∀ c, op ≠ .defer c := by
  rintro c rfl
  cases x <;> first
    | (simp [chkI, call1, call2] at hc; done)
    | (cases he; done)
theorem tmps_put {d : Nat} {v : Value} {t : Nat} (hd : d < a.tmps.size) : (a.put (some d) v).tmps.getD t undef = if d = t then v else a.tmps.getD t undef := by
  simp only [Act.put, Array.getD_eq_getD_getElem?, Array.getElem?_setIfInBounds]
  by_cases h : d = t
  · subst h; simp [hd]
  · simp [h]

theorem Inv.put {n : Nat} {D : Nat} (hi : Inv Bad β w a n D x) {β' : List Value} {w' : World} {h' : Heap} (hst : Step Bad β x.h w β' h' w') {r : AV} {v : Value} (hr : Rep r β' h' (FOf Bad β') w' v) {d : Option Nat} (hd : ∀ k, d = some k → k < n) :
    Inv Bad β' w' (a.put d v) n D ⟨put x.s d r, h'⟩ := by
  refine ⟨hst.rel, fun t => ?_, ?_, ?_, Nat.le_trans hi.base hst.since.size⟩
  · cases d with
    | none => exact hst.rep (hi.slots t)
    | some d =>
      have hlt : d < a.tmps.size := by rw [hi.size]; exact hd d rfl
      show Rep (get (Fw.put x.s (some d) r) t) _ _ _ _ _
      rw [get_put, tmps_put hlt]
      by_cases h : d = t
      · subst h; simpa using hr
      · simp only [Option.some.injEq, h, if_false]; exact hst.rep (hi.slots t)
  · cases d <;> simp [Act.put, hi.size]
  · have := hi.defers.step hst
    cases d <;> exact this

theorem wanted_of {n : Nat} {D : Nat} (hi : Inv Bad β w a n D x) {ops : Array Oper} {o : Oper} {io : IO_} (hc : chkO P ops n o io = true) {b : Bool} (hg : guardOk x.s io.guard = some b) : Region.wanted o (yielded ops a.tmps) = b := by
  unfold chkO at hc
  simp only [Bool.and_eq_true] at hc
  obtain ⟨⟨⟨_, _⟩, h3⟩, _⟩ := hc
  cases hog : o.guard with
  | none =>
    cases hig : io.guard with
    | none => rw [hig] at hg; simp only [guardOk, Option.some.injEq] at hg; subst hg; simp [Region.wanted, hog]
    | some p => rw [hog, hig] at h3; cases h3
  | some p =>
    obtain ⟨j, bj⟩ := p
    cases hig : io.guard with
    | none => rw [hog, hig] at h3; cases h3
    | some q =>
      obtain ⟨t, c⟩ := q
      rw [hog, hig] at h3
      simp only [Bool.and_eq_true, beq_iff_eq] at h3
      obtain ⟨h4, rfl⟩ := h3
      rw [hig] at hg
      simp only [guardOk] at hg
      split at hg
      · rename_i v hv
        injection hg with hg
        have h5 := hi.slots t
        rw [hv] at h5
        simp only [Rep] at h5
        have h6 : a.tmps[t]? = some (.bool v) := by
          rw [Array.getD_eq_getD_getElem?] at h5
          cases hq : a.tmps[t]? with
          | none => rw [hq] at h5; simp [undef] at h5
          | some u => rw [hq] at h5; simpa using h5
        have h7 : yielded ops a.tmps j = some v := by unfold yielded; rw [h4]; simp [h6]
        simp only [Region.wanted, hog, h7]
        rw [← hg]
        cases v <;> cases bj <;> rfl
      · rename_i hv
        injection hg with hg
        have h5 := hi.slots t
        rw [hv] at h5
        obtain ⟨vs, h5, h6⟩ := h5
        have h6 : vs = [] := h6
        subst h6
        have h7 : yielded ops a.tmps j = none := by
          unfold yielded
          rw [h4]
          simp only [Option.bind_some]
          rw [Array.getD_eq_getD_getElem?] at h5
          cases hq : a.tmps[t]? with
          | none => rfl
          | some u =>
            rw [hq] at h5
            simp only [Option.getD_some] at h5
            subst h5
            rfl
        simp only [Region.wanted, hog, h7]
        rw [← hg]
        rfl
      · cases hg

theorem evO_sound (hcalls : CallsOk P E call) {n : Nat} {D : Nat} {rr : Option Nat} {mm : Nat} (hi : Inv Bad β w a n D x) {ops : Array Oper} {i : Nat} {o : Oper} {io : IO_} (ho : ops[i]? = some o) (hc : chkO P ops n o io = true) {y : St} (he : evO E call x io = some y)
    {K : Act → World → Prop} {Q : Exit → Act → World → Prop} (hk : ∀ β' w' a', Step Bad β x.h w β' y.h w' → Inv Bad β' w' a' n D y → K a' w') : wpOpIn (WF rr) mm P ops Q i K a w := by
  have hc' := hc
  unfold chkO at hc'
  simp only [Bool.and_eq_true, beq_iff_eq] at hc'
  obtain ⟨⟨⟨h1, h2⟩, _⟩, h4⟩ := hc'
  have hd : ∀ k, io.dst = some k → k < n := fun k hk => by rw [hk] at h2; simpa using h2
  unfold evO at he
  cases hg : guardOk x.s io.guard with
  | none => rw [hg] at he; cases he
  | some b =>
    rw [hg] at he
    have hw := wanted_of hi hc hg
    unfold wpOpIn
    rw [ho]
    simp only
    rw [hw]
    cases b
    · simp only [Option.bind_some, Bool.false_eq_true, if_false, Option.some.injEq] at he ⊢
      subst he
      rw [← h1]
      exact ⟨fun _ _ => trivial, hk β w _ (Step.refl hi.heap) (Inv.put hi (Step.refl hi.heap) (r := .tup []) ⟨[], rfl, rfl⟩ hd)⟩
    · simp only [Option.bind_some, if_true] at he ⊢
      cases hev : evI E call x.s x.h io.op with
      | none => rw [hev] at he; cases he
      | some r =>
        rw [hev] at he
        injection he with he
        subst he
        have hnd : ∀ c, o.op ≠ .defer c := notDefer h4 hev
        refine wp_in hnd ?_
        have hs := evI_sound (P := P) (o := o) hcalls hi.heap hi.slots h4 (r := r.1) (h' := r.2) hev
        refine hs _ _ fun v β' w' hst hr => ?_
        rw [← h1]
        exact hk β' w' _ hst (Inv.put hi hst hr hd)

/-- The operations in the text's order. -/
theorem evOps_sound (hcalls : CallsOk P E call) {n : Nat} {D : Nat} {rr : Option Nat} {mm : Nat} {ops : Array Oper} {Q : Exit → Act → World → Prop} : ∀ (os : List Oper) (ios : List IO_) (k : Nat), (∀ j, os[j]? = ops[k + j]?) → chkOs P ops n os ios = true →
    ∀ {β : List Value} {w : World} {a : Act} {x y : St}, Inv Bad β w a n D x → evOps E call ios x = some y → (∀ β' w' a', Step Bad β x.h w β' y.h w' → Inv Bad β' w' a' n D y → Q .normal a' w') →
    wpOpsIn (WF rr) mm P ops Q (List.range' k os.length) a w
  | [], [], k, hat, hc, β, w, a, x, y, hi, he, hq => by
    simp only [evOps, Option.some.injEq] at he
    subst he
    exact hq β w a (Step.refl hi.heap) hi
  | o :: os, io :: ios, k, hat, hc, β, w, a, x, y, hi, he, hq => by
    simp only [chkOs, Bool.and_eq_true] at hc
    simp only [evOps] at he
    cases h1 : evO E call x io with
    | none => rw [h1] at he; cases he
    | some z =>
      rw [h1] at he
      simp only [List.length_cons, List.range'_succ]
      rw [wpOpsIn_cons]
      have ho : ops[k]? = some o := by have := hat 0; simpa using this.symm
      refine evO_sound hcalls hi ho hc.1 h1 fun β' w' a' hst hi' => ?_
      exact evOps_sound hcalls os ios (k + 1) (fun j => by have := hat (j + 1); simp only [List.getElem?_cons_succ] at this; rw [this]; congr 1; omega) hc.2 hi' he fun β2 w2 a2 hst2 hi2 => hq β2 w2 a2 (hst.trans hst2) hi2
  | [], _ :: _, _, _, hc, _, _, _, _, _, _, _, _ => by simp [chkOs] at hc
  | _ :: _, [], _, _, hc, _, _, _, _, _, _, _, _ => by simp [chkOs] at hc

/-! ### alike -/

mutual
theorem eqAV_eq : ∀ (x y : AV), eqAV x y = true → x = y
  | .rs g z l, y, h => by
    cases y <;> simp only [eqAV, Bool.and_eq_true, beq_iff_eq, decide_eq_true_eq, reduceCtorEq, Bool.false_eq_true] at h
    rw [h.1.1, h.1.2, eqL_eq l _ h.2]
  | .rp g x, y, h => by
    cases y <;> simp only [eqAV, Bool.and_eq_true, beq_iff_eq, decide_eq_true_eq, reduceCtorEq, Bool.false_eq_true] at h
    rw [h.1, eqAV_eq x _ h.2]
  | .fn f c, y, h => by
    cases y <;> simp only [eqAV, Bool.and_eq_true, beq_iff_eq, decide_eq_true_eq, reduceCtorEq, Bool.false_eq_true] at h
    rw [h.1, eqL_eq c _ h.2]
  | .iface t x, y, h => by
    cases y <;> simp only [eqAV, Bool.and_eq_true, beq_iff_eq, decide_eq_true_eq, reduceCtorEq, Bool.false_eq_true] at h
    rw [h.1, eqAV_eq x _ h.2]
  | .agg c, y, h => by
    cases y <;> simp only [eqAV, Bool.false_eq_true] at h
    rw [eqL_eq c _ h]
  | .tup c, y, h => by
    cases y <;> simp only [eqAV, Bool.false_eq_true] at h
    rw [eqL_eq c _ h]
  | .str s, y, h => by
    cases y <;> simp only [eqAV, decide_eq_true_eq, Bool.false_eq_true] at h
    congr 1
    exact ByteArray.ext (Array.ext' h)
  | .undef, y, h | .nils, y, h | .nilp, y, h | .nilf, y, h | .nili, y, h | .nilm, y, h => by
    cases y <;> simp only [eqAV, Bool.false_eq_true] at h <;> rfl
  | .bool b, y, h | .int k n, y, h | .ref l v o, y, h | .sl z l v o n, y, h | .mp l, y, h | .rm g k e, y, h => by
    cases y <;> simp_all [eqAV]
theorem eqL_eq : ∀ (l m : List AV), eqAV.eqL l m = true → l = m
  | [], m, h => by cases m <;> simp_all [eqAV.eqL]
  | x :: l, m, h => by
    cases m with
    | nil => simp [eqAV.eqL] at h
    | cons y m =>
      simp only [eqAV.eqL, Bool.and_eq_true] at h
      rw [eqAV_eq x y h.1, eqL_eq l m h.2]
end
theorem eqObj_eq {a b : AObj} (h : eqObj a b = true) : a = b := by
  cases a <;> cases b <;> simp_all [eqObj]
  · exact eqL_eq _ _ h.1.2
  · exact eqL_eq _ _ h.1.2
theorem eqH_eq : ∀ {l m : Heap}, eqH l m = true → l = m
  | [], [], _ => rfl
  | [], _ :: _, h => by simp [eqH] at h
  | _ :: _, [], h => by simp [eqH] at h
  | a :: l, b :: m, h => by
    simp only [eqH, Bool.and_eq_true] at h
    rw [eqObj_eq h.1, eqH_eq h.2]

/-! ### an order that is drawn -/

/-- The operations for which one has to wait, as a number's bits. -/
def maskOf (acc : List Nat) (o : Oper) : Nat := o.after.toList.foldl (fun s e => if Region.binds .any e then s ||| 2 ^ e.on ||| acc.getD e.on 0 else s) 0
def masks : List Nat → List Oper → List Nat
  | acc, [] => acc
  | acc, o :: os => masks (acc ++ [maskOf acc o]) os

/-- What stands ahead of j in the text, and j need not wait for, has nothing to do with it; edges lead back. -/
def chkDraw (os : List Oper) (ios : List IO_) : Bool :=
  (os.zipIdx.all fun p => p.1.after.all fun e => !Region.binds .any e || decide (e.on < p.2)) &&
  (ios.zipIdx.all fun p => (List.range p.2).all fun i => ((masks [] os).getD p.2 0).testBit i || indep (ios.getD i default) p.1)

theorem maskOf_bit {acc : List Nat} {o : Oper} {i : Nat} (h : (maskOf acc o).testBit i = true) : ∃ e ∈ o.after.toList, Region.binds .any e = true ∧ (e.on = i ∨ (acc.getD e.on 0).testBit i = true) := by
  unfold maskOf at h
  have key : ∀ (l : List Edge) (s : Nat), (l.foldl (fun s e => if Region.binds .any e then s ||| 2 ^ e.on ||| acc.getD e.on 0 else s) s).testBit i = true →
      s.testBit i = true ∨ ∃ e ∈ l, Region.binds .any e = true ∧ (e.on = i ∨ (acc.getD e.on 0).testBit i = true) := by
    intro l
    induction l with
    | nil => intro s hs; exact .inl hs
    | cons e l ih =>
      intro s hs
      rcases ih _ hs with h1 | ⟨e', he', h1⟩
      · dsimp only at h1
        by_cases hb : Region.binds .any e = true
        · rw [if_pos hb] at h1
          simp only [Nat.testBit_or, Bool.or_eq_true] at h1
          rcases h1 with (h1 | h1) | h1
          · exact .inl h1
          · refine .inr ⟨e, by simp, hb, .inl ?_⟩
            rw [Nat.testBit_two_pow] at h1
            simpa using h1
          · exact .inr ⟨e, by simp, hb, .inr h1⟩
        · rw [if_neg hb] at h1
          exact .inl h1
      · exact .inr ⟨e', by simp [he'], h1⟩
  rcases key _ 0 h with h1 | h1
  · simp at h1
  · exact h1

theorem masks_take : ∀ (os : List Oper) (acc : List Nat), (masks acc os).take acc.length = acc ∧ (masks acc os).length = acc.length + os.length ∧ ∀ (j : Nat) o, os[j]? = some o → (masks acc os)[acc.length + j]? = some (maskOf ((masks acc os).take (acc.length + j)) o)
  | [], acc => ⟨by simp [masks], by simp [masks], fun j o h => by simp at h⟩
  | o :: os, acc => by
    obtain ⟨h1, h2, h3⟩ := masks_take os (acc ++ [maskOf acc o])
    simp only [masks]
    simp only [List.length_append, List.length_cons, List.length_nil, Nat.zero_add] at h1 h2 h3
    have h4 : (masks (acc ++ [maskOf acc o]) os).take acc.length = acc := by
      have := congrArg (List.take acc.length) h1
      rw [List.take_take] at this
      simpa using this
    refine ⟨h4, by rw [h2, List.length_cons]; omega, fun j o' ho => ?_⟩
    cases j with
    | zero =>
      simp at ho
      subst ho
      rw [Nat.add_zero, h4]
      have h5 : ((masks (acc ++ [maskOf acc o]) os).take (acc.length + 1))[acc.length]? = some (maskOf acc o) := by rw [h1]; simp
      rw [List.getElem?_take] at h5
      simpa using h5
    | succ j =>
      have := h3 j o' (by simpa using ho)
      rw [show acc.length + (j + 1) = acc.length + 1 + j by omega]
      exact this

/-- Whatever is listed, what it waited for is listed. -/
def Closed (os : List Oper) (listed : Nat → Bool) : Prop := ∀ (j : Nat) o, os[j]? = some o → listed j = true → ∀ e ∈ o.after.toList, Region.binds .any e = true → listed e.on = true

theorem mask_listed {os : List Oper} {listed : Nat → Bool} (hc : Closed os listed) (hb : ∀ (j : Nat) o, os[j]? = some o → ∀ e ∈ o.after.toList, Region.binds .any e = true → e.on < j) :
    ∀ (j : Nat) o, os[j]? = some o → (∀ e ∈ o.after.toList, Region.binds .any e = true → listed e.on = true) → ∀ i, ((masks [] os).getD j 0).testBit i = true → listed i = true := by
  intro j
  induction j using Nat.strongRecOn with
  | _ j ih =>
    intro o ho hpre i hi
    obtain ⟨_, h2, h3⟩ := masks_take os []
    have h4 := h3 j o ho
    simp only [List.length_nil, Nat.zero_add] at h4
    rw [List.getD_eq_getElem?_getD, h4] at hi
    obtain ⟨e, he, hbe, h5⟩ := maskOf_bit hi
    rcases h5 with h5 | h5
    · rw [← h5]; exact hpre e he hbe
    · have hlt := hb j o ho e he hbe
      have hje : e.on < os.length := Nat.lt_trans hlt (List.getElem?_eq_some_iff.1 ho).1
      rw [List.getD_eq_getElem?_getD, List.getElem?_take, if_pos hlt, ← List.getD_eq_getElem?_getD] at h5
      exact ih e.on hlt _ (List.getElem?_eq_getElem hje) (fun e' he' hb' => hc e.on _ (List.getElem?_eq_getElem hje) (hpre e he hbe) e' he' hb') i h5

theorem evIx_same {ios : List IO_} : ∀ {l : List Nat} {x y x1 : St}, Same x y → evIx E call ios l x = some x1 → ∃ y1, evIx E call ios l y = some y1 ∧ Same x1 y1
  | [], x, y, x1, hs, he => by simp only [evIx, Option.some.injEq] at he; subst he; exact ⟨y, rfl, hs⟩
  | i :: l, x, y, x1, hs, he => by
    simp only [evIx] at he ⊢
    cases h1 : evO E call x (ios.getD i default) with
    | none => rw [h1] at he; cases he
    | some z =>
      rw [h1] at he
      obtain ⟨z', h2, h3⟩ := evO_same hs h1
      rw [h2]
      exact evIx_same h3 he

theorem evIx_bubble {ios : List IO_} {i : Nat} {post : List Nat} : ∀ {pre : List Nat} (hi : ∀ j ∈ pre, indep (ios.getD j default) (ios.getD i default) = true) {x y : St}, evIx E call ios (pre ++ i :: post) x = some y →
    ∃ x1 y', evO E call x (ios.getD i default) = some x1 ∧ evIx E call ios (pre ++ post) x1 = some y' ∧ Same y y'
  | [], hi, x, y, he => by
    simp only [List.nil_append, evIx] at he ⊢
    cases h1 : evO E call x (ios.getD i default) with
    | none => rw [h1] at he; cases he
    | some z => rw [h1] at he; exact ⟨z, y, rfl, he, Same.refl y⟩
  | j :: pre, hi, x, y, he => by
    simp only [List.cons_append, evIx] at he ⊢
    cases h1 : evO E call x (ios.getD j default) with
    | none => rw [h1] at he; cases he
    | some z =>
      rw [h1] at he
      obtain ⟨x1, y', h2, h3, h4⟩ := evIx_bubble (fun k hk => hi k (by simp [hk])) (show evIx E call ios (pre ++ i :: post) z = some y from he)
      obtain ⟨y1, y2, h5, h6, h7⟩ := evO_comm (hi j (by simp)) h1 h2
      obtain ⟨y3, h8, h9⟩ := evIx_same h7 h3
      exact ⟨y1, y3, h5, by rw [h6]; exact h8, h4.trans h9⟩

theorem evIx_range {ios : List IO_} : ∀ (l : List IO_) (k : Nat), (∀ (j : Nat), l[j]? = ios[k + j]?) → ∀ x, evIx E call ios (List.range' k l.length) x = evOps E call l x
  | [], k, hat, x => rfl
  | io :: l, k, hat, x => by
    simp only [List.length_cons, List.range'_succ, evIx, evOps]
    have h0 : ios.getD k default = io := by have := hat 0; simp at this; rw [List.getD_eq_getElem?_getD, ← this]; rfl
    rw [h0]
    congr 1
    funext y
    exact evIx_range l (k + 1) (fun j => by have := hat (j + 1); simp only [List.getElem?_cons_succ] at this; rw [this]; congr 1; omega) y

def rem (n : Nat) (listed : Array Bool) : List Nat := (List.range n).filter fun i => !listed.getD i true

theorem draw_sound (hcalls : CallsOk P E call) {n : Nat} {D : Nat} {rr : Option Nat} {mm : Nat} {ops : Array Oper} {ios : List IO_} {Q : Exit → Act → World → Prop} (hc : chkOs P ops n ops.toList ios = true) (hd : chkDraw ops.toList ios = true) {y : St} :
    ∀ (fuel : Nat) (listed : Array Bool) {β : List Value} {w : World} {a : Act} {x y' : St}, listed.size = ops.size → Closed ops.toList (fun i => listed.getD i false) → (rem ops.size listed).length ≤ fuel →
      evIx E call ios (rem ops.size listed) x = some y' → Same y y' → Inv Bad β w a n D x → (∀ β' w' a', Step Bad β x.h w β' y.h w' → Inv Bad β' w' a' n D y → Q .normal a' w') → wpAnyIn (WF rr) mm P .any ops Q fuel listed a w := by
  obtain ⟨hlen, hat⟩ := chkOs_at hc
  unfold chkDraw at hd
  simp only [Bool.and_eq_true] at hd
  obtain ⟨hd1, hd2⟩ := hd
  have hback : ∀ (j : Nat) o, ops.toList[j]? = some o → ∀ e ∈ o.after.toList, Region.binds .any e = true → e.on < j := by
    intro j o ho e he hb
    have h1 := List.all_eq_true.1 hd1 (o, j) (List.mem_zipIdx_iff_getElem?.2 ho)
    simp only [Array.all_eq_true'] at h1
    have h2 := h1 e (by simpa using he)
    simp only [hb, Bool.not_true, Bool.false_or, decide_eq_true_eq] at h2
    exact h2
  have hgetD : ∀ (listed : Array Bool) (i : Nat), i < listed.size → listed.getD i true = listed.getD i false := by
    intro listed i hi
    simp [Array.getD, hi]
  have hready : ∀ (listed : Array Bool) (i : Nat), i ∈ Region.ready .any ops listed ↔ i < ops.size ∧ listed.getD i true = false ∧ ∀ o, ops.toList[i]? = some o → ∀ e ∈ o.after.toList, Region.binds .any e = true → listed.getD e.on false = true := by
    intro listed i
    unfold Region.ready
    simp only [List.mem_filter, List.mem_range, Bool.and_eq_true, Bool.not_eq_true']
    constructor
    · rintro ⟨h1, h2, h3⟩
      refine ⟨h1, h2, fun o ho e he hb => ?_⟩
      have ho' : ops[i]? = some o := by simpa using ho
      rw [ho'] at h3
      simp only [Option.map_some, Option.getD_some, Array.all_eq_true'] at h3
      have := h3 e (by simpa using he)
      simpa [hb] using this
    · rintro ⟨h1, h2, h3⟩
      refine ⟨h1, h2, ?_⟩
      have ho' : ops[i]? = some ops[i] := Array.getElem?_eq_getElem h1
      have hoi : ops.toList[i]? = some ops[i] := by simp [h1]
      rw [ho']
      simp only [Option.map_some, Option.getD_some, Array.all_eq_true']
      intro e he
      by_cases hb : Region.binds .any e = true
      · have h4 := h3 _ hoi e (by simpa using he) hb
        rw [h4]
        simp
      · have hb' : Region.binds .any e = false := by simpa using hb
        rw [hb']
        simp
  have hrem : ∀ (listed : Array Bool), listed.size = ops.size → Region.ready .any ops listed = [] → rem ops.size listed = [] := by
    intro listed hsz hr
    cases hq : rem ops.size listed with
    | nil => rfl
    | cons i l =>
      exfalso
      have hmem : i ∈ rem ops.size listed := by rw [hq]; simp
      unfold rem at hmem
      simp only [List.mem_filter, List.mem_range, Bool.not_eq_true'] at hmem
      have hsorted : (rem ops.size listed).Pairwise (· < ·) := List.Pairwise.filter _ List.pairwise_lt_range
      rw [hq] at hsorted
      have hmin : ∀ j, j < i → listed.getD j false = true := by
        intro j hj
        by_cases hl : listed.getD j true = true
        · rw [← hgetD listed j (by omega)]; exact hl
        · exfalso
          have : j ∈ rem ops.size listed := by unfold rem; simp only [List.mem_filter, List.mem_range, Bool.not_eq_true']; exact ⟨by omega, by simpa using hl⟩
          rw [hq] at this
          rcases List.mem_cons.1 this with h1 | h1
          · omega
          · have := (List.pairwise_cons.1 hsorted).1 j h1; omega
      have : i ∈ Region.ready .any ops listed := (hready listed i).2 ⟨hmem.1, hmem.2, fun o ho e he hb => hmin e.on (hback i o ho e he hb)⟩
      rw [hr] at this
      cases this
  have hdone : ∀ (listed : Array Bool) {β : List Value} {w : World} {a : Act} {x y' : St}, listed.size = ops.size → Region.ready .any ops listed = [] → evIx E call ios (rem ops.size listed) x = some y' → Same y y' → Inv Bad β w a n D x →
      (∀ β' w' a', Step Bad β x.h w β' y.h w' → Inv Bad β' w' a' n D y → Q .normal a' w') → Q .normal a w := by
    intro listed β w a x y' hsz hr he hsame hi hq
    rw [hrem listed hsz hr] at he
    simp only [evIx, Option.some.injEq] at he
    subst he
    have hh : y.h = x.h := hsame.2
    refine hq β w a (by rw [hh]; exact Step.refl hi.heap) ⟨by rw [hh]; exact hi.heap, fun t => by rw [hsame.1 t, hh]; exact hi.slots t, hi.size, hi.defers, hi.base⟩
  intro fuel
  induction fuel with
  | zero =>
    intro listed β w a x y' hsz hcl hfu he hsame hi hq
    have hnil : rem ops.size listed = [] := List.eq_nil_of_length_eq_zero (by omega)
    have hr : Region.ready .any ops listed = [] := by
      cases hr : Region.ready .any ops listed with
      | nil => rfl
      | cons i l =>
        have hi' : i ∈ Region.ready .any ops listed := by rw [hr]; simp
        obtain ⟨h1, h2, _⟩ := (hready listed i).1 hi'
        have : i ∈ rem ops.size listed := by unfold rem; simp only [List.mem_filter, List.mem_range, Bool.not_eq_true']; exact ⟨h1, h2⟩
        rw [hnil] at this
        cases this
    exact ⟨hr, hdone listed hsz hr he hsame hi hq⟩
  | succ fuel ih =>
    intro listed β w a x y' hsz hcl hfu he hsame hi hq
    refine ⟨fun hr => hdone listed hsz hr he hsame hi hq, fun i hir => ?_⟩
    obtain ⟨h1, h2, h3⟩ := (hready listed i).1 hir
    have hmem : i ∈ rem ops.size listed := by unfold rem; simp only [List.mem_filter, List.mem_range, Bool.not_eq_true']; exact ⟨h1, h2⟩
    obtain ⟨pre, post, hpp⟩ := List.append_of_mem hmem
    have hsorted : (rem ops.size listed).Pairwise (· < ·) := List.Pairwise.filter _ List.pairwise_lt_range
    rw [hpp] at he hsorted
    have hpre : ∀ j ∈ pre, j < i := fun j hj => (List.pairwise_append.1 hsorted).2.2 j hj i (by simp)
    have hpost : ∀ j ∈ post, i < j := fun j hj => (List.pairwise_cons.1 (List.pairwise_append.1 hsorted).2.1).1 j hj
    have hoi : ops.toList[i]? = some ops[i] := by simp [h1]
    have hind : ∀ j ∈ pre, indep (ios.getD j default) (ios.getD i default) = true := by
      intro j hj
      have hilt : i < ios.length := by rw [← hlen]; simpa using h1
      have h4 := List.all_eq_true.1 hd2 (ios.getD i default, i) (List.mem_zipIdx_iff_getElem?.2 (by rw [List.getElem?_eq_getElem hilt, List.getD_eq_getElem?_getD, List.getElem?_eq_getElem hilt]; rfl))
      have h5 := List.all_eq_true.1 h4 j (List.mem_range.2 (hpre j hj))
      simp only [Bool.or_eq_true] at h5
      rcases h5 with h5 | h5
      · exfalso
        have h6 := mask_listed hcl hback i _ hoi (h3 _ hoi) j h5
        have hjm : j ∈ rem ops.size listed := by rw [hpp]; simp [hj]
        unfold rem at hjm
        simp only [List.mem_filter, List.mem_range, Bool.not_eq_true'] at hjm
        rw [hgetD listed j (by omega)] at hjm
        rw [hjm.2] at h6
        cases h6
      · exact h5
    obtain ⟨x1, y2, h6, h7, h8⟩ := evIx_bubble hind he
    have hio : ios[i]? = some (ios.getD i default) := by
      have hilt : i < ios.length := by rw [← hlen]; simpa using h1
      rw [List.getD_eq_getElem?_getD, List.getElem?_eq_getElem hilt]; rfl
    refine evO_sound hcalls hi (Array.getElem?_eq_getElem h1) (hat i _ _ hoi hio) h6 fun β' w' a' hst hi' => ?_
    have hset : ∀ j, (listed.setIfInBounds i true).getD j true = if j = i then true else listed.getD j true := by
      intro j
      simp only [Array.getD_eq_getD_getElem?, Array.getElem?_setIfInBounds]
      by_cases hji : i = j
      · subst hji; simp [hsz, h1]
      · simp [hji, Ne.symm hji]
    have hsetf : ∀ j, (listed.setIfInBounds i true).getD j false = if j = i then true else listed.getD j false := by
      intro j
      simp only [Array.getD_eq_getD_getElem?, Array.getElem?_setIfInBounds]
      by_cases hji : i = j
      · subst hji; simp [hsz, h1]
      · simp [hji, Ne.symm hji]
    have hrem' : rem ops.size (listed.setIfInBounds i true) = pre ++ post := by
      have e1 : rem ops.size (listed.setIfInBounds i true) = (rem ops.size listed).filter fun j => decide (j ≠ i) := by
        unfold rem
        rw [List.filter_filter]
        apply List.filter_congr
        intro j hj
        rw [hset j]
        by_cases hji : j = i <;> simp [hji]
      rw [e1, hpp, List.filter_append, List.filter_cons]
      simp only [ne_eq, not_true_eq_false, decide_false, Bool.false_eq_true, if_false]
      rw [List.filter_eq_self.2 (fun j hj => by have := hpre j hj; simp; omega), List.filter_eq_self.2 (fun j hj => by have := hpost j hj; simp; omega)]
    refine ih (listed.setIfInBounds i true) (by simpa using hsz) ?_ ?_ (by rw [hrem']; exact h7) (hsame.trans h8) hi' fun β2 w2 a2 hst2 hi2 => hq β2 w2 a2 (hst.trans hst2) hi2
    · intro j o ho hl e he' hb
      dsimp only at hl ⊢
      rw [hsetf] at hl ⊢
      by_cases hei : e.on = i
      · simp [hei]
      · rw [if_neg hei]
        by_cases hji : j = i
        · subst hji; exact h3 o ho e he' hb
        · rw [if_neg hji] at hl
          exact hcl j o ho hl e he' hb
    · rw [hrem']
      rw [hpp] at hfu
      simp only [List.length_append, List.length_cons] at hfu ⊢
      omega

/-! ### a variable ahead of a call, or behind it -/

theorem holeAt_get : ∀ {h : Heap} {p : Nat}, holeAt h = some p → h[p]? = some .hole
  | [], p, hp => by cases hp
  | o :: h, p, hp => by
    simp only [holeAt] at hp
    split at hp
    · rename_i ho
      injection hp with hp
      subst hp
      cases o <;> first | rfl | cases ho
    · cases hq : holeAt h with
      | none => rw [hq] at hp; cases hp
      | some q =>
        rw [hq] at hp
        injection hp with hp
        subst hp
        simpa using holeAt_get hq

theorem fillO_sound {n : Nat} {D : Nat} {rr : Option Nat} {mm : Nat} (hi : Inv Bad β w a n D x) {ops : Array Oper} {i : Nat} {o : Oper} {io : IO_} (ho : ops[i]? = some o) (hc : chkO P ops n o io = true) {y : St} (he : fillO x io = some y)
    {K : Act → World → Prop} {Q : Exit → Act → World → Prop} (hk : ∀ β' w' a', Step Bad β x.h w β' y.h w' → Inv Bad β' w' a' n D y → K a' w') : wpOpIn (WF rr) mm P ops Q i K a w := by
  have hc' := hc
  unfold chkO at hc'
  simp only [Bool.and_eq_true, beq_iff_eq] at hc'
  obtain ⟨⟨⟨h1, h2⟩, _⟩, h4⟩ := hc'
  have hd : ∀ k, io.dst = some k → k < n := fun k hk => by rw [hk] at h2; simpa using h2
  obtain ⟨dst, g, op⟩ := io
  unfold fillO at he
  cases g with
  | some g => cases he
  | none =>
    cases op <;> first | (cases he; done) | skip
    rename_i ag z0 t _
    simp only at he
    cases hp : holeAt x.h with
    | none => rw [hp] at he; cases he
    | some p =>
      rw [hp] at he
      injection he with he
      subst he
      have hw := wanted_of hi hc (b := true) rfl
      simp only [chkI] at h4
      split at h4
      · rename_i t' hop
        simp only [Bool.and_eq_true, beq_iff_eq] at h4
        obtain ⟨rfl, hz⟩ := h4
        unfold wpOpIn
        rw [ho]
        simp only
        rw [hw]
        simp only [if_true]
        refine wp_in (fun c hc => by rw [hop] at hc; cases hc) ?_
        refine sound_fill (P := P) (o := o) hi.heap hi.slots hop hz ag (holeAt_get hp) _ _ fun v β' w' hst hr => ?_
        rw [← h1]
        exact hk β' w' _ hst (Inv.put hi hst hr hd)
      · cases h4

/-- One operation of an order; fl: the variable that takes the place that was kept. -/
def stpO (E : Env) (call : CallFn) (ios : List IO_) (fl : Option Nat) (i : Nat) (x : St) : Option St := if fl = some i then fillO x (ios.getD i default) else evO E call x (ios.getD i default)
def evSt (E : Env) (call : CallFn) (ios : List IO_) (fl : Option Nat) : List Nat → St → Option St
  | [], x => some x
  | i :: l, x => (stpO E call ios fl i x).bind (evSt E call ios fl l)
theorem evSt_ix {ios : List IO_} {fl : Option Nat} : ∀ {l : List Nat} (h : ∀ i ∈ l, fl ≠ some i) (x : St), evSt E call ios fl l x = evIx E call ios l x
  | [], h, x => rfl
  | i :: l, h, x => by
    simp only [evSt, evIx, stpO]
    rw [if_neg (h i (by simp))]
    congr 1
    funext y
    exact evSt_ix (fun j hj => h j (by simp [hj])) y
theorem evIx_append {ios : List IO_} : ∀ {l m : List Nat} (x : St), evIx E call ios (l ++ m) x = (evIx E call ios l x).bind (evIx E call ios m)
  | [], m, x => rfl
  | i :: l, m, x => by
    simp only [List.cons_append, evIx]
    cases evO E call x (ios.getD i default) with
    | none => rfl
    | some y => exact evIx_append y
theorem fillO_same {x y : St} {o : IO_} {x1 : St} (hs : Same x y) (he : fillO x o = some x1) : ∃ y1, fillO y o = some y1 ∧ Same x1 y1 := by
  obtain ⟨dst, g, op⟩ := o
  unfold fillO at he ⊢
  cases g with
  | some g => cases he
  | none =>
    cases op <;> first | (cases he; done) | skip
    simp only at he ⊢
    rw [← hs.2]
    cases hp : holeAt x.h with
    | none => rw [hp] at he; cases he
    | some p =>
      rw [hp] at he
      injection he with he
      subst he
      exact ⟨_, rfl, fun t => by rw [get_put, get_put, hs.1 t], rfl⟩
theorem stpO_same {ios : List IO_} {fl : Option Nat} {i : Nat} {x y x1 : St} (hs : Same x y) (he : stpO E call ios fl i x = some x1) : ∃ y1, stpO E call ios fl i y = some y1 ∧ Same x1 y1 := by
  unfold stpO at he ⊢
  split
  · rename_i h; rw [if_pos h] at he; exact fillO_same hs he
  · rename_i h; rw [if_neg h] at he; exact evO_same hs he
theorem evSt_same {ios : List IO_} {fl : Option Nat} : ∀ {l : List Nat} {x y x1 : St}, Same x y → evSt E call ios fl l x = some x1 → ∃ y1, evSt E call ios fl l y = some y1 ∧ Same x1 y1
  | [], x, y, x1, hs, he => by simp only [evSt, Option.some.injEq] at he; subst he; exact ⟨y, rfl, hs⟩
  | i :: l, x, y, x1, hs, he => by
    simp only [evSt] at he ⊢
    cases h1 : stpO E call ios fl i x with
    | none => rw [h1] at he; cases he
    | some z =>
      rw [h1] at he
      obtain ⟨z', h2, h3⟩ := stpO_same hs h1
      rw [h2]
      exact evSt_same h3 he
/-- The second may come first. -/
def Comm (E : Env) (call : CallFn) (ios : List IO_) (fl : Option Nat) (i j : Nat) : Prop := ∀ x x1 x2, stpO E call ios fl i x = some x1 → stpO E call ios fl j x1 = some x2 → ∃ y1 y2, stpO E call ios fl j x = some y1 ∧ stpO E call ios fl i y1 = some y2 ∧ Same x2 y2
theorem comm_indep {ios : List IO_} {fl : Option Nat} {i j : Nat} (hi : fl ≠ some i) (hj : fl ≠ some j) (h : indep (ios.getD i default) (ios.getD j default) = true) : Comm E call ios fl i j := by
  intro x x1 x2 h1 h2
  unfold stpO at h1 h2
  simp only [stpO]
  rw [if_neg hi] at h1
  rw [if_neg hj] at h2
  simp only [hi, hj, if_false]
  exact evO_comm h h1 h2
theorem comm_fill {ios : List IO_} {i j : Nat} (hj : some i ≠ some j) (h : indep (ios.getD i default) (ios.getD j default) = true) (hc : clsI (ios.getD j default).op = 0) : Comm E call ios (some i) i j := by
  intro x x1 x2 h1 h2
  unfold stpO at h1 h2
  simp only [stpO]
  rw [if_pos rfl] at h1
  rw [if_neg hj] at h2
  simp only [hj, if_false, if_true]
  generalize ios.getD i default = oi at *
  generalize ios.getD j default = oj at *
  obtain ⟨dst, g, op⟩ := oi
  unfold fillO at h1 ⊢
  cases g with
  | some g => cases h1
  | none =>
    cases op <;> first | (cases h1; done) | skip
    rename_i ag zero t
    simp only at h1 ⊢
    cases hp : holeAt x.h with
    | none => rw [hp] at h1; cases h1
    | some p =>
      rw [hp] at h1
      injection h1 with h1
      subst h1
      simp only [indep, Bool.and_eq_true] at h
      obtain ⟨⟨hi1, hi2⟩, _⟩ := h
      obtain ⟨f, hf⟩ := coreO_slot (E := E) (call := call) (s := x.s) hc
      have e1 : ∀ hp2, coreO E call (put x.s dst (.ref p 0 0)) hp2 oj = f.map fun v => (v, hp2) := fun hp2 => by
        rw [← hf]
        refine coreO_congr fun k hk => ?_
        rw [get_put]
        split
        · rename_i hd
          rw [hd] at hi1
          simp only [Bool.and_eq_true, Bool.not_eq_true', bne_iff_ne] at hi1
          have h3 : (readsO oj).contains k = true := List.contains_iff_mem.2 hk
          rw [hi1.1] at h3
          cases h3
        · rfl
      rw [evO_core] at h2
      rw [evO_core]
      rw [show (⟨put x.s dst (.ref p 0 0), x.h.set p (.cells ag zero t)⟩ : St).s = put x.s dst (.ref p 0 0) from rfl, e1] at h2
      rw [hf]
      cases f with
      | none => cases h2
      | some v =>
        injection h2 with h2
        subst h2
        refine ⟨_, ⟨put (put x.s oj.dst v) dst (.ref p 0 0), x.h.set p (.cells ag zero t)⟩, rfl, ?_, ?_⟩
        · show Option.map _ (holeAt x.h) = _
          rw [hp]
          rfl
        · refine ⟨fun k => ?_, rfl⟩
          simp only [get_put]
          split
          · rename_i hd
            split
            · rename_i hd2
              rw [hd2] at hi1
              rw [hd] at hi1
              simp at hi1
            · rfl
          · rfl
theorem evSt_bubble {ios : List IO_} {fl : Option Nat} {i : Nat} {post : List Nat} : ∀ {pre : List Nat} (hi : ∀ j ∈ pre, Comm E call ios fl j i) {x y : St}, evSt E call ios fl (pre ++ i :: post) x = some y →
    ∃ x1 y', stpO E call ios fl i x = some x1 ∧ evSt E call ios fl (pre ++ post) x1 = some y' ∧ Same y y'
  | [], hi, x, y, he => by
    simp only [List.nil_append, evSt] at he ⊢
    cases h1 : stpO E call ios fl i x with
    | none => rw [h1] at he; cases he
    | some z => rw [h1] at he; exact ⟨z, y, rfl, he, Same.refl y⟩
  | j :: pre, hi, x, y, he => by
    simp only [List.cons_append, evSt] at he ⊢
    cases h1 : stpO E call ios fl j x with
    | none => rw [h1] at he; cases he
    | some z =>
      rw [h1] at he
      obtain ⟨x1, y', h2, h3, h4⟩ := evSt_bubble (fun k hk => hi k (by simp [hk])) (show evSt E call ios fl (pre ++ i :: post) z = some y from he)
      obtain ⟨y1, y2, h5, h6, h7⟩ := hi j (by simp) x z x1 h1 h2
      obtain ⟨y3, h8, h9⟩ := evSt_same h7 h3
      exact ⟨y1, y3, h5, by rw [h6]; exact h8, h4.trans h9⟩
theorem stpO_sound (hcalls : CallsOk P E call) {n : Nat} {D : Nat} {rr : Option Nat} {mm : Nat} (hi : Inv Bad β w a n D x) {ops : Array Oper} {ios : List IO_} {fl : Option Nat} {i : Nat} {o : Oper} (ho : ops[i]? = some o) (hc : chkO P ops n o (ios.getD i default) = true) {y : St} (he : stpO E call ios fl i x = some y)
    {K : Act → World → Prop} {Q : Exit → Act → World → Prop} (hk : ∀ β' w' a', Step Bad β x.h w β' y.h w' → Inv Bad β' w' a' n D y → K a' w') : wpOpIn (WF rr) mm P ops Q i K a w := by
  unfold stpO at he
  split at he
  · exact fillO_sound hi ho hc he hk
  · exact evO_sound hcalls hi ho hc he hk

theorem mem_ready {ops : Array Oper} {listed : Array Bool} {i : Nat} : i ∈ Region.ready .any ops listed ↔ i < ops.size ∧ listed.getD i true = false ∧ ∀ o, ops.toList[i]? = some o → ∀ e ∈ o.after.toList, Region.binds .any e = true → listed.getD e.on false = true := by
  unfold Region.ready
  simp only [List.mem_filter, List.mem_range, Bool.and_eq_true, Bool.not_eq_true']
  constructor
  · rintro ⟨h1, h2, h3⟩
    refine ⟨h1, h2, fun o ho e he hb => ?_⟩
    have ho' : ops[i]? = some o := by simpa using ho
    rw [ho'] at h3
    simp only [Option.map_some, Option.getD_some, Array.all_eq_true'] at h3
    have := h3 e (by simpa using he)
    simpa [hb] using this
  · rintro ⟨h1, h2, h3⟩
    refine ⟨h1, h2, ?_⟩
    have ho' : ops[i]? = some ops[i] := Array.getElem?_eq_getElem h1
    have hoi : ops.toList[i]? = some ops[i] := by simp [h1]
    rw [ho']
    simp only [Option.map_some, Option.getD_some, Array.all_eq_true']
    intro e he
    by_cases hb : Region.binds .any e = true
    · have h4 := h3 _ hoi e (by simpa using he) hb
      rw [h4]
      simp
    · have hb' : Region.binds .any e = false := by simpa using hb
      rw [hb']
      simp
/-- Edges lead back. -/
def Back (os : List Oper) : Prop := ∀ (j : Nat) o, os[j]? = some o → ∀ e ∈ o.after.toList, Region.binds .any e = true → e.on < j
/-- What is left to be listed. -/
def Left (k : Nat) (listed : Array Bool) (R : List Nat) : Prop := ∀ i, i ∈ R ↔ i < k ∧ listed.getD i true = false
theorem getD_tf {listed : Array Bool} {i : Nat} (hi : i < listed.size) : listed.getD i true = listed.getD i false := by simp [Array.getD, hi]
theorem ready_ex {ops : Array Oper} {listed : Array Bool} (hb : Back ops.toList) (hsz : listed.size = ops.size) : ∀ (i : Nat), i < ops.size → listed.getD i true = false → Region.ready .any ops listed ≠ [] := by
  intro i
  induction i using Nat.strongRecOn with
  | _ i ih =>
    intro h1 h2 hr
    by_cases hall : ∀ o, ops.toList[i]? = some o → ∀ e ∈ o.after.toList, Region.binds .any e = true → listed.getD e.on false = true
    · have := mem_ready.2 ⟨h1, h2, hall⟩
      rw [hr] at this
      cases this
    · refine hall fun o ho e he hbe => ?_
      by_cases hl : listed.getD e.on false = true
      · exact hl
      · exfalso
        have hlt := hb i o ho e he hbe
        refine ih e.on hlt (by omega) ?_ hr
        rw [getD_tf (by omega)]
        simpa using hl
theorem closed_set {ops : Array Oper} {listed : Array Bool} {i : Nat} (hsz : listed.size = ops.size) (hcl : Closed ops.toList (fun i => listed.getD i false)) (hir : i ∈ Region.ready .any ops listed) : Closed ops.toList (fun j => (listed.setIfInBounds i true).getD j false) := by
  obtain ⟨h1, h2, h3⟩ := mem_ready.1 hir
  have hsetf : ∀ j, (listed.setIfInBounds i true).getD j false = if j = i then true else listed.getD j false := by
    intro j
    simp only [Array.getD_eq_getD_getElem?, Array.getElem?_setIfInBounds]
    by_cases hji : i = j
    · subst hji; simp [hsz, h1]
    · simp [hji, Ne.symm hji]
  intro j o ho hl e he' hb
  dsimp only at hl ⊢
  rw [hsetf] at hl ⊢
  by_cases hei : e.on = i
  · simp [hei]
  · rw [if_neg hei]
    by_cases hji : j = i
    · subst hji; exact h3 o ho e he' hb
    · rw [if_neg hji] at hl
      exact hcl j o ho hl e he' hb
theorem left_set {k : Nat} {listed : Array Bool} {i : Nat} {p q : List Nat} (hsz : listed.size = k) (hn : (p ++ i :: q).Nodup) (hl : Left k listed (p ++ i :: q)) : Left k (listed.setIfInBounds i true) (p ++ q) := by
  have hik : i < k := ((hl i).1 (by simp)).1
  have hset : ∀ j, (listed.setIfInBounds i true).getD j true = if j = i then true else listed.getD j true := by
    intro j
    simp only [Array.getD_eq_getD_getElem?, Array.getElem?_setIfInBounds]
    by_cases hji : i = j
    · subst hji; simp [hsz, hik]
    · simp [hji, Ne.symm hji]
  have hne : ∀ j ∈ p ++ q, j ≠ i := by
    intro j hj hji
    subst hji
    have := (List.nodup_append.1 hn)
    rcases List.mem_append.1 hj with h1 | h1
    · exact this.2.2 j h1 j (by simp) rfl
    · exact (List.nodup_cons.1 this.2.1).1 h1
  intro j
  rw [hset]
  constructor
  · intro hj
    have h1 := hne j hj
    rw [if_neg h1]
    exact (hl j).1 (by rcases List.mem_append.1 hj with h | h <;> simp [h])
  · rintro ⟨h1, h2⟩
    split at h2
    · cases h2
    · rename_i hji
      have h3 := (hl j).2 ⟨h1, h2⟩
      rcases List.mem_append.1 h3 with h | h
      · simp [h]
      · rcases List.mem_cons.1 h with h | h
        · exact absurd h hji
        · simp [h]
/-- What waits for something else that is left is not ready. -/
theorem ready_mask {ops : Array Oper} {listed : Array Bool} {R : List Nat} (hb : Back ops.toList) (hsz : listed.size = ops.size) (hcl : Closed ops.toList (fun i => listed.getD i false)) (hl : Left ops.size listed R) {i j : Nat} (hir : i ∈ Region.ready .any ops listed) (hj : j ∈ R) : ((masks [] ops.toList).getD i 0).testBit j ≠ true := by
  intro hm
  obtain ⟨h1, h2, h3⟩ := mem_ready.1 hir
  have hoi : ops.toList[i]? = some ops[i] := by simp [h1]
  have h6 := mask_listed hcl hb i _ hoi (h3 _ hoi) j hm
  obtain ⟨h7, h8⟩ := (hl j).1 hj
  rw [getD_tf (by omega)] at h8
  rw [h8] at h6
  cases h6

theorem draw_gen (hcalls : CallsOk P E call) {n : Nat} {D : Nat} {rr : Option Nat} {mm : Nat} {ops : Array Oper} {ios : List IO_} {fl : Option Nat} {Q : Exit → Act → World → Prop} (hc : chkOs P ops n ops.toList ios = true) (hb : Back ops.toList) {y : St} :
    ∀ (fuel : Nat) (listed : Array Bool) (R : List Nat) {β : List Value} {w : World} {a : Act} {x y' : St}, listed.size = ops.size → Closed ops.toList (fun i => listed.getD i false) → R.Nodup → Left ops.size listed R →
      R.Pairwise (fun i j => ((masks [] ops.toList).getD j 0).testBit i = true ∨ Comm E call ios fl i j) → R.length ≤ fuel →
      evSt E call ios fl R x = some y' → Same y y' → Inv Bad β w a n D x → (∀ β' w' a', Step Bad β x.h w β' y.h w' → Inv Bad β' w' a' n D y → Q .normal a' w') → wpAnyIn (WF rr) mm P .any ops Q fuel listed a w := by
  obtain ⟨hlen, hat⟩ := chkOs_at hc
  have hnil : ∀ (listed : Array Bool) (R : List Nat), listed.size = ops.size → Left ops.size listed R → Region.ready .any ops listed = [] → R = [] := by
    intro listed R hsz hl hr
    cases R with
    | nil => rfl
    | cons i l =>
      obtain ⟨h1, h2⟩ := (hl i).1 (by simp)
      exact absurd hr (ready_ex hb hsz i h1 h2)
  have hdone : ∀ (listed : Array Bool) (R : List Nat) {β : List Value} {w : World} {a : Act} {x y' : St}, listed.size = ops.size → Left ops.size listed R → Region.ready .any ops listed = [] → evSt E call ios fl R x = some y' → Same y y' → Inv Bad β w a n D x →
      (∀ β' w' a', Step Bad β x.h w β' y.h w' → Inv Bad β' w' a' n D y → Q .normal a' w') → Q .normal a w := by
    intro listed R β w a x y' hsz hl hr he hsame hi hq
    rw [hnil listed R hsz hl hr] at he
    simp only [evSt, Option.some.injEq] at he
    subst he
    have hh : y.h = x.h := hsame.2
    refine hq β w a (by rw [hh]; exact Step.refl hi.heap) ⟨by rw [hh]; exact hi.heap, fun t => by rw [hsame.1 t, hh]; exact hi.slots t, hi.size, hi.defers, hi.base⟩
  intro fuel
  induction fuel with
  | zero =>
    intro listed R β w a x y' hsz hcl hn hl hp hfu he hsame hi hq
    have hR : R = [] := List.eq_nil_of_length_eq_zero (by omega)
    have hr : Region.ready .any ops listed = [] := by
      cases hr : Region.ready .any ops listed with
      | nil => rfl
      | cons i l =>
        have hi' : i ∈ Region.ready .any ops listed := by rw [hr]; simp
        obtain ⟨h1, h2, _⟩ := mem_ready.1 hi'
        have : i ∈ R := (hl i).2 ⟨h1, h2⟩
        rw [hR] at this
        cases this
    exact ⟨hr, hdone listed R hsz hl hr he hsame hi hq⟩
  | succ fuel ih =>
    intro listed R β w a x y' hsz hcl hn hl hp hfu he hsame hi hq
    refine ⟨fun hr => hdone listed R hsz hl hr he hsame hi hq, fun i hir => ?_⟩
    obtain ⟨h1, h2, h3⟩ := mem_ready.1 hir
    have hmem : i ∈ R := (hl i).2 ⟨h1, h2⟩
    obtain ⟨pre, post, rfl⟩ := List.append_of_mem hmem
    have hcm : ∀ j ∈ pre, Comm E call ios fl j i := by
      intro j hj
      rcases (List.pairwise_append.1 hp).2.2 j hj i (by simp) with h4 | h4
      · exact absurd h4 (ready_mask hb hsz hcl hl hir (by simp [hj]))
      · exact h4
    obtain ⟨x1, y2, h6, h7, h8⟩ := evSt_bubble hcm he
    have hoi : ops.toList[i]? = some ops[i] := by simp [h1]
    have hio : ios[i]? = some (ios.getD i default) := by
      have hilt : i < ios.length := by rw [← hlen]; simpa using h1
      rw [List.getD_eq_getElem?_getD, List.getElem?_eq_getElem hilt]; rfl
    have hsub : (pre ++ post).Sublist (pre ++ i :: post) := List.Sublist.append (List.Sublist.refl pre) (List.sublist_cons_self i post)
    refine stpO_sound hcalls hi (Array.getElem?_eq_getElem h1) (hat i _ _ hoi hio) h6 fun β' w' a' hst hi' => ?_
    refine ih (listed.setIfInBounds i true) (pre ++ post) (by simpa using hsz) (closed_set hsz hcl hir) (hn.sublist hsub) (left_set hsz hn hl) (hp.sublist hsub) ?_ h7 (hsame.trans h8) hi' fun β2 w2 a2 hst2 hi2 => hq β2 w2 a2 (hst.trans hst2) hi2
    simp only [List.length_append, List.length_cons] at hfu ⊢
    omega

def prs (r : Nat → Nat → Bool) : List Nat → Bool
  | [] => true
  | i :: l => l.all (r i) && prs r l
theorem prs_pw {r : Nat → Nat → Bool} : ∀ {l : List Nat}, prs r l = true → l.Pairwise (fun i j => r i j = true)
  | [], _ => List.Pairwise.nil
  | i :: l, h => by
    simp only [prs, Bool.and_eq_true, List.all_eq_true] at h
    exact List.Pairwise.cons h.1 (prs_pw h.2)
def mk (os : List Oper) (j i : Nat) : Bool := ((masks [] os).getD j 0).testBit i
/-- The region may be told by its two orders. -/
def chkAlt (os : List Oper) (ios : List IO_) (pre : List Nat) (a c : Nat) (post : List Nat) : Bool :=
  let m := masks [] os
  let k := fun j i => (m.getD j 0).testBit i
  let r := fun i j => k j i || indep (ios.getD i default) (ios.getD j default)
  (os.zipIdx.all fun p => p.1.after.all fun e => !Region.binds .any e || decide (e.on < p.2)) &&
  decide (pre ++ a :: c :: post).Nodup && ((pre ++ a :: c :: post).all fun i => decide (i < os.length)) && ((List.range os.length).all fun i => (pre ++ a :: c :: post).contains i) &&
  prs r (pre ++ a :: post) && prs r (pre ++ c :: post) && (pre.all fun j => k c j) && (post.all fun j => (k j a || k j c)) && (post.all fun j => (k j a || clsI (ios.getD j default).op == 0))

theorem eqSt_same {x y : St} (h : eqSt x y = true) : Same x y := by
  simp only [eqSt, Bool.and_eq_true, eqSlots, List.all_eq_true] at h
  obtain ⟨⟨h1, h2⟩, h3⟩ := h
  refine ⟨fun t => ?_, eqH_eq h1⟩
  have hno : ∀ (s : Slots), t ∉ s.map (·.1) → get s t = .undef := by
    intro s
    induction s with
    | nil => intro _; rfl
    | cons p s ih =>
      intro hn
      simp only [List.map_cons, List.mem_cons, not_or] at hn
      simp only [get]
      rw [if_neg hn.1]
      exact ih hn.2
  by_cases hx : t ∈ x.s.map (·.1)
  · exact eqAV_eq _ _ (h2 t hx)
  · by_cases hy : t ∈ y.s.map (·.1)
    · exact eqAV_eq _ _ (h3 t hy)
    · rw [hno _ hx, hno _ hy]

theorem pushH_step {n : Nat} {D : Nat} (hi : Inv Bad β w a n D x) : ∃ β', Step Bad β x.h w β' (pushH x).h w ∧ Inv Bad β' w a n D (pushH x) := by
  have hst : Step Bad β x.h w (β ++ [.bool false]) (pushH x).h w := Step.alloc hi.heap (Below.refl _ w) (fun k hk => by simp [blkOf] at hk) fun _ _ => trivial
  exact ⟨_, hst, hst.rel, fun t => hst.rep (hi.slots t), hi.size, hi.defers.step hst, Nat.le_trans hi.base hst.since.size⟩

theorem draw_alt (hcalls : CallsOk P E call) {n : Nat} {D : Nat} {rr : Option Nat} {mm : Nat} {ops : Array Oper} {ios : List IO_} {Q : Exit → Act → World → Prop} (hc : chkOs P ops n ops.toList ios = true) {pre : List Nat} {v c : Nat} {post : List Nat}
    (hd : chkAlt ops.toList ios pre v c post = true) {x0 y z z' yf : St} (hy : evIx E call ios [v, c] x0 = some y) (hz : evO E call (pushH x0) (ios.getD c default) = some z) (hz' : fillO z (ios.getD v default) = some z') (hyz : Same y z') (hyf : evIx E call ios post y = some yf) :
    ∀ (fuel : Nat) (listed : Array Bool) (p : List Nat) {β : List Value} {w : World} {a : Act} {x x1 : St}, listed.size = ops.size → Closed ops.toList (fun i => listed.getD i false) → p.Sublist pre → Left ops.size listed (p ++ v :: c :: post) →
      (p ++ v :: c :: post).length ≤ fuel → evIx E call ios p x = some x1 → Same x0 x1 → Inv Bad β w a n D x → (∀ β' w' a', Step Bad β x.h w β' yf.h w' → Inv Bad β' w' a' n D yf → Q .normal a' w') → wpAnyIn (WF rr) mm P .any ops Q fuel listed a w := by
  obtain ⟨hlen, hat⟩ := chkOs_at hc
  simp only [chkAlt, Bool.and_eq_true, decide_eq_true_eq, List.all_eq_true] at hd
  obtain ⟨⟨⟨⟨⟨⟨⟨⟨hd1, hd2⟩, hd3⟩, hd4⟩, hd5⟩, hd6⟩, hd7⟩, hd8⟩, hd9⟩ := hd
  have hb : Back ops.toList := by
    intro j o ho e he hbe
    have h1 := hd1 (o, j) (List.mem_zipIdx_iff_getElem?.2 ho)
    simp only [Array.all_eq_true'] at h1
    have h2 := h1 e (by simpa using he)
    simp only [hbe, Bool.not_true, Bool.false_or, decide_eq_true_eq] at h2
    exact h2
  have hva := prs_pw hd5
  have hca := prs_pw hd6
  simp only [Bool.or_eq_true] at hva hca hd8
  have hio : ∀ i, i < ops.size → ios[i]? = some (ios.getD i default) := by
    intro i h1
    have hilt : i < ios.length := by rw [← hlen]; simpa using h1
    rw [List.getD_eq_getElem?_getD, List.getElem?_eq_getElem hilt]; rfl
  have hvpost : v ∉ post := by
    intro hm
    have h1 := (List.nodup_append.1 hd2).2.1
    exact (List.nodup_cons.1 h1).1 (by simp [hm])
  intro fuel
  induction fuel with
  | zero => intro listed p β w a x x1 _ _ _ _ hfu; simp at hfu
  | succ fuel ih =>
    intro listed p β w a x x1 hsz hcl hsp hl hfu he hsame hi hq
    have hnd : (p ++ v :: c :: post).Nodup := hd2.sublist (List.Sublist.append hsp (List.Sublist.refl _))
    refine ⟨fun hr => ?_, fun i hir => ?_⟩
    · exfalso
      obtain ⟨h1, h2⟩ := (hl v).1 (by simp)
      exact ready_ex hb hsz v h1 h2 hr
    obtain ⟨h1, h2, h3⟩ := mem_ready.1 hir
    have hoi : ops.toList[i]? = some ops[i] := by simp [h1]
    have hmem : i ∈ p ++ v :: c :: post := (hl i).2 ⟨h1, h2⟩
    have hseton : (listed.setIfInBounds i true).size = ops.size := by simpa using hsz
    have hcl' := closed_set hsz hcl hir
    rcases List.mem_append.1 hmem with hm | hm
    · -- an operation ahead of both
      obtain ⟨p1, p2, rfl⟩ := List.append_of_mem hm
      have hcm : ∀ j ∈ p1, indep (ios.getD j default) (ios.getD i default) = true := by
        intro j hj
        have hpw := hva.sublist (List.Sublist.append hsp (List.Sublist.refl _))
        rw [List.append_assoc, List.cons_append] at hpw
        rcases (List.pairwise_append.1 hpw).2.2 j hj i (by simp) with h4 | h4
        · exact absurd h4 (ready_mask hb hsz hcl hl hir (by simp [hj]))
        · exact h4
      obtain ⟨x2, y2, h6, h7, h8⟩ := evIx_bubble hcm he
      refine evO_sound hcalls hi (Array.getElem?_eq_getElem h1) (hat i _ _ hoi (hio i h1)) h6 fun β' w' a' hst hi' => ?_
      have hsub : (p1 ++ p2).Sublist (p1 ++ i :: p2) := List.Sublist.append (List.Sublist.refl p1) (List.sublist_cons_self i p2)
      refine ih (listed.setIfInBounds i true) (p1 ++ p2) hseton hcl' (hsub.trans hsp) ?_ ?_ h7 (hsame.trans h8) hi' fun β2 w2 a2 hst2 hi2 => hq β2 w2 a2 (hst.trans hst2) hi2
      · have hl2 : Left ops.size listed (p1 ++ i :: (p2 ++ v :: c :: post)) := by simpa using hl
        have hn2 : (p1 ++ i :: (p2 ++ v :: c :: post)).Nodup := by simpa using hnd
        have := left_set hsz hn2 hl2
        simpa using this
      · simp only [List.length_append, List.length_cons] at hfu ⊢
        omega
    rcases List.mem_cons.1 hm with rfl | hm
    · -- the variable comes first
      obtain ⟨y1, g1, g2⟩ := evIx_same hsame hy
      obtain ⟨yf1, g3, g4⟩ := evIx_same g2 hyf
      have hall : evSt E call ios none (p ++ i :: c :: post) x = some yf1 := by
        rw [evSt_ix (fun _ _ h => by cases h), evIx_append, he]
        show evIx E call ios ([i, c] ++ post) x1 = _
        rw [evIx_append, g1]
        exact g3
      have hcm : ∀ j ∈ p, Comm E call ios none j i := by
        intro j hj
        have hpw := hva.sublist (List.Sublist.append hsp (List.Sublist.refl _))
        rcases (List.pairwise_append.1 hpw).2.2 j hj i (by simp) with h4 | h4
        · exact absurd h4 (ready_mask hb hsz hcl hl hir (by simp [hj]))
        · exact comm_indep (by simp) (by simp) h4
      obtain ⟨x2, y2, h6, h7, h8⟩ := evSt_bubble hcm hall
      refine stpO_sound hcalls hi (Array.getElem?_eq_getElem h1) (hat i _ _ hoi (hio i h1)) h6 fun β' w' a' hst hi' => ?_
      refine draw_gen hcalls hc hb (fl := none) fuel (listed.setIfInBounds i true) (p ++ c :: post) hseton hcl' (hnd.sublist (List.Sublist.append (List.Sublist.refl p) (List.sublist_cons_self i _))) (left_set hsz hnd hl) ?_ ?_ h7 (g4.trans h8) hi' fun β2 w2 a2 hst2 hi2 => hq β2 w2 a2 (hst.trans hst2) hi2
      · refine (hca.sublist (List.Sublist.append hsp (List.Sublist.refl _))).imp fun {j k} h4 => ?_
        rcases h4 with h4 | h4
        · exact .inl h4
        · exact .inr (comm_indep (by simp) (by simp) h4)
      · simp only [List.length_append, List.length_cons] at hfu ⊢
        omega
    rcases List.mem_cons.1 hm with rfl | hm
    · -- the call comes first
      have hp0 : p = [] := by
        cases p with
        | nil => rfl
        | cons j p => exact absurd (hd7 j (hsp.subset (by simp))) (ready_mask hb hsz hcl hl hir (by simp))
      subst hp0
      simp only [evIx, Option.some.injEq] at he
      subst he
      obtain ⟨z1, g1, g2⟩ := evO_same (show Same (pushH x0) (pushH x) from ⟨hsame.1, by simp only [pushH]; rw [hsame.2]⟩) hz
      obtain ⟨z2, g3, g4⟩ := fillO_same g2 hz'
      obtain ⟨yf1, g5, g6⟩ := evIx_same (hyz.trans g4) hyf
      obtain ⟨βp, hst0, hi0⟩ := pushH_step hi
      refine evO_sound hcalls hi0 (Array.getElem?_eq_getElem h1) (hat i _ _ hoi (hio i h1)) g1 fun β' w' a' hst hi' => ?_
      have hne : v ≠ i := by
        have h5 := (List.nodup_append.1 hd2).2.1
        intro h6
        exact (List.nodup_cons.1 h5).1 (by simp [h6])
      refine draw_gen hcalls hc hb (fl := some v) fuel (listed.setIfInBounds i true) (v :: post) hseton hcl' ?_ ?_ ?_ ?_ (y' := yf1) ?_ g6 hi' fun β2 w2 a2 hst2 hi2 => hq β2 w2 a2 ((hst0.trans hst).trans hst2) hi2
      · exact hnd.sublist (List.Sublist.cons_cons v (List.sublist_cons_self i post))
      · exact left_set (p := [v]) hsz hnd hl
      · have hpw := (List.pairwise_append.1 hva).2.1
        refine List.Pairwise.cons (fun j hj => ?_) ((List.pairwise_cons.1 hpw).2.imp_of_mem fun {j k} hj hk h4 => ?_)
        · rcases (Bool.or_eq_true _ _).mp (hd9 j hj) with h5 | h5
          · exact .inl h5
          · rcases (List.pairwise_cons.1 hpw).1 j hj with h4 | h4
            · exact .inl h4
            · exact .inr (comm_fill (fun h6 => hvpost (by injection h6 with h6; rw [h6]; exact hj)) h4 (by simpa using h5))
        · rcases h4 with h4 | h4
          · exact .inl h4
          · exact .inr (comm_indep (fun h6 => hvpost (by injection h6 with h6; rw [h6]; exact hj)) (fun h6 => hvpost (by injection h6 with h6; rw [h6]; exact hk)) h4)
      · simp only [List.nil_append, List.length_cons] at hfu ⊢
        omega
      · simp only [evSt, stpO, if_true]
        rw [g3]
        show evSt E call ios (some v) post z2 = some yf1
        rw [evSt_ix (fun j hj h6 => hvpost (by injection h6 with h6; rw [h6]; exact hj))]
        exact g5
    · -- what waits for one of both
      exfalso
      rcases hd8 i hm with h5 | h5
      · exact ready_mask hb hsz hcl hl hir (show v ∈ p ++ v :: c :: post by simp) h5
      · exact ready_mask hb hsz hcl hl hir (show c ∈ p ++ v :: c :: post by simp) h5

end
end Go.Fw
