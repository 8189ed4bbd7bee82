/-
  The evaluation without a bound on its rounds and calls: the least one that goes on from the bounded ones, and its equations. Conditions: none.
-/
import Derived.Test.YtefkoichicalfaaFwA
set_option linter.unusedVariables false
set_option linter.unusedSimpArgs false
namespace Go.Fw

def Le {α : Type} (a b : Option α) : Prop := ∀ r, a = some r → b = some r

theorem Le.refl {α : Type} (a : Option α) : Le a a := fun _ h => h
theorem Le.trans {α : Type} {a b c : Option α} (h : Le a b) (k : Le b c) : Le a c := fun r hr => k r (h r hr)
theorem Le.none {α : Type} (a : Option α) : Le Option.none a := fun _ h => by cases h
theorem Le.antisymm {α : Type} {a b : Option α} (h : Le a b) (k : Le b a) : a = b := by
  cases ha : a with
  | none => cases hb : b with
    | none => rfl
    | some y => have := k y hb; rw [ha] at this; exact this
  | some x => exact (h x ha).symm
theorem Le.bind {α β : Type} {a b : Option α} {f g : α → Option β} (h : Le a b) (k : ∀ x, Le (f x) (g x)) : Le (a.bind f) (b.bind g) := by
  intro r hr
  cases ha : a with
  | none => rw [ha] at hr; cases hr
  | some x => rw [ha] at hr; rw [h x ha]; exact k x r hr
theorem Le.map {α β : Type} {a b : Option α} (f : α → β) (h : Le a b) : Le (a.map f) (b.map f) := by
  intro r hr
  cases ha : a with
  | none => rw [ha] at hr; cases hr
  | some x => rw [ha] at hr; rw [h x ha]; exact hr

open Classical in
noncomputable def sup {α : Type} (F : Nat → Option α) : Option α :=
  if h : ∃ r, ∃ n, F n = some r then some h.choose else none

def MonoF {α : Type} (F : Nat → Option α) : Prop := ∀ n, Le (F n) (F (n + 1))

theorem MonoF.le {α : Type} {F : Nat → Option α} (h : MonoF F) {n m : Nat} (hnm : n ≤ m) : Le (F n) (F m) := by
  induction hnm with
  | refl => exact Le.refl _
  | step _ ih => exact ih.trans (h _)

theorem sup_of {α : Type} {F : Nat → Option α} (h : MonoF F) {n : Nat} {r : α} (hn : F n = some r) : sup F = some r := by
  have hx : ∃ r, ∃ n, F n = some r := ⟨r, n, hn⟩
  unfold sup
  rw [dif_pos hx]
  obtain ⟨m, hm⟩ := hx.choose_spec
  have h1 := h.le (Nat.le_max_left n m) r hn
  have h2 := h.le (Nat.le_max_right n m) _ hm
  rw [h1] at h2
  injection h2 with h2
  rw [← h2]

theorem of_sup {α : Type} {F : Nat → Option α} {r : α} (h : sup F = some r) : ∃ n, F n = some r := by
  unfold sup at h
  split at h
  · rename_i hx
    injection h with h
    subst h
    exact hx.choose_spec
  · cases h

/-! ### more rounds, deeper calls: the same answer -/

def CallLe (c d : CallFn) : Prop := ∀ f a h, Le (c f a h) (d f a h)

variable {E : Env}

theorem pcallOf_mono {c d : CallFn} (h : CallLe c d) (f : FuncId) (args : List AV) : Le (pcallOf E c f args) (pcallOf E d f args) := by
  unfold pcallOf
  split
  · exact Le.refl _
  · exact (h _ _ _).bind fun _ => Le.refl _

theorem doCall_mono {c d : CallFn} (h : CallLe c d) (ro : Bool) (hp : Heap) (f : FuncId) (vals : List AV) : Le (doCall E c ro hp f vals) (doCall E d ro hp f vals) := by
  unfold doCall
  exact (Le.refl _).bind fun _ => (pcallOf_mono h _ _).bind fun _ => Le.refl _

theorem doCallM_mono {c d : CallFn} (h : CallLe c d) (hp : Heap) (f : FuncId) (vals : List AV) : Le (doCallM E c hp f vals) (doCallM E d hp f vals) := by
  unfold doCallM
  split
  · exact Le.refl _
  · split
    · exact Le.refl _
    · exact h _ _ _

theorem doCallP_mono {c d : CallFn} (h : CallLe c d) (f : FuncId) (vals : List AV) : Le (doCallP E c f vals) (doCallP E d f vals) := by
  unfold doCallP
  split
  · exact Le.refl _
  · exact (doCall_mono h _ _ _ _).map _

theorem evI_mono {c d : CallFn} (h : CallLe c d) (s : Slots) (hp : Heap) (op : I) : Le (evI E c s hp op) (evI E d s hp op) := by
  cases op
  case callF ro f args => exact doCall_mono h _ _ _ _
  case callV ro x args =>
    simp only [evI]
    split
    · exact doCall_mono h _ _ _ _
    · exact Le.refl _
  case callM f args => exact doCallM_mono h _ _ _
  case callP f args => exact (doCallP_mono h _ _).map _
  all_goals exact Le.refl _

theorem evO_mono {c d : CallFn} (h : CallLe c d) (x : St) (o : IO_) : Le (evO E c x o) (evO E d x o) := by
  unfold evO
  refine (Le.refl _).bind fun b => ?_
  cases b
  · exact Le.refl _
  · exact (evI_mono h _ _ _).map _

theorem evOps_mono {c d : CallFn} (h : CallLe c d) : ∀ (l : List IO_) (x : St), Le (evOps E c l x) (evOps E d l x)
  | [], x => Le.refl _
  | o :: l, x => (evO_mono h x o).bind fun y => evOps_mono h l y

theorem Le.andThen {a b : Out} {f g : St → Out} (h : Le a b) (k : ∀ x, Le (f x) (g x)) : Le (andThen a f) (andThen b g) := by
  intro r hr
  cases ha : a with
  | none => rw [ha] at hr; cases hr
  | some y =>
    rw [ha] at hr
    rw [h y ha]
    obtain ⟨e, x⟩ := y
    cases e
    · exact k x r hr
    · exact hr
    · exact hr

theorem Le.endBlock {a b : Out} (id : Nat) (live : Option (List Nat)) (h : Le a b) : Le (endBlock id live a) (endBlock id live b) := by
  intro r hr
  cases ha : a with
  | none => rw [ha] at hr; cases hr
  | some y => rw [ha] at hr; rw [h y ha]; exact hr

theorem evLoop_mono {f g : St → Out} (h : ∀ x, Le (f x) (g x)) : ∀ (n : Nat) (x : St), Le (evLoop f n x) (evLoop g (n + 1) x)
  | 0, x => Le.none _
  | n + 1, x => by
    show Le (Fw.andThen (f x) (evLoop f n)) (Fw.andThen (g x) (evLoop g (n + 1)))
    exact (h x).andThen fun y => evLoop_mono h n y

theorem Le.andThenN {a b : Out} {f g : St → Out} (h : Le a b) (k : ∀ x, Le (f x) (g x)) : Le (andThenN a f) (andThenN b g) := by
  intro r hr
  cases ha : a with
  | none => rw [ha] at hr; cases hr
  | some y =>
    rw [ha] at hr
    rw [h y ha]
    obtain ⟨e, x⟩ := y
    cases e
    · exact k x r hr
    · exact hr
    · exact hr
theorem Le.roundEnd {a b : Out} {f g : Heap → Out} (last : Bool) (s0 : Slots) (hp : Heap) (h : Le a b) (k : ∀ x, Le (f x) (g x)) : Le (roundEnd last s0 hp f a) (roundEnd last s0 hp g b) := by
  intro r hr
  cases ha : a with
  | none => rw [ha] at hr; cases hr
  | some y =>
    rw [ha] at hr
    rw [h y ha]
    obtain ⟨e, x⟩ := y
    cases e
    · simp only [Fw.roundEnd] at hr ⊢
      cases hb : backE last hp x.h with
      | none => rw [hb] at hr; cases hr
      | some h' =>
        rw [hb] at hr
        exact k _ r hr
    · exact hr
    · exact hr
theorem evRange_le {f g : St → Out} (h : ∀ x, Le (f x) (g x)) (s0 : Slots) (ps : List Nat) : ∀ (its : List (List PE)) (hp : Heap), Le (evRange f s0 ps its hp) (evRange g s0 ps its hp)
  | [], hp => Le.refl _
  | it :: its, hp => by
    simp only [evRange]
    split
    · exact (h _).roundEnd its.isEmpty s0 hp fun y => evRange_le h s0 ps its y
    · exact Le.refl _

theorem evIx_mono {c d : CallFn} (h : CallLe c d) (ios : List IO_) : ∀ (l : List Nat) (x : St), Le (evIx E c ios l x) (evIx E d ios l x)
  | [], x => Le.refl _
  | i :: l, x => (evO_mono h x _).bind fun y => evIx_mono h ios l y
theorem evAlt_mono {c d : CallFn} (h : CallLe c d) (ios : List IO_) (pre : List Nat) (a k : Nat) (post : List Nat) (x : St) : Le (evAlt E c ios pre a k post x) (evAlt E d ios pre a k post x) :=
  (evIx_mono h ios pre x).bind fun x0 => (evIx_mono h ios [a, k] x0).bind fun y => ((evO_mono h _ _).bind fun z => Le.refl _).bind fun z => by
    split
    · exact evIx_mono h ios post y
    · exact Le.refl _
theorem evC_mono {c d : CallFn} (h : CallLe c d) (n : Nat) : ∀ (b : C) (x : St), Le (evC E c n b x) (evC E d (n + 1) b x)
  | .skip, x => Le.refl _
  | .ops l, x => (evOps_mono h l x).map _
  | .alt l pre a c post, x => (evAlt_mono h l pre a c post x).map _
  | .seq a b, x => (evC_mono h n a x).andThen fun y => evC_mono h n b y
  | .cond v a b, x => by
    simp only [evC]
    split
    · rename_i t _
      cases t
      · exact evC_mono h n b x
      · exact evC_mono h n a x
    · exact Le.refl _
  | .block id live b, x => (evC_mono h n b _).endBlock id live
  | .loop live b, x => evLoop_mono (fun y => evC_mono h n b _) n x
  | .exit id, x => Le.refl _
  | .ret, x => Le.refl _
  | .rangeF g ps assign body, x => by
    simp only [evC]
    split
    · split
      · exact (Le.refl _).bind fun items => evRange_le (fun y => (evC_mono h n assign y).andThenN fun z => evC_mono h n body z) _ _ _ _
      · exact Le.refl _
    · exact Le.refl _

def outOf (fn : Fn_) : Out → Option (AV × Heap)
  | some (.norm, x) | some (.ret, x) => (resOf x.s x.h fn.results).map (·, x.h)
  | _ => none

theorem evFn_eq (c : CallFn) (n : Nat) (fn : Fn_) (args : List AV) (h : Heap) :
    evFn E c n fn args h = if args.length = fn.nparams then outOf fn (evC E c n fn.body ⟨enumFrom 0 args, h⟩) else none := by
  unfold evFn outOf
  split
  · split <;> rename_i hh <;> simp [hh]
  · rfl

theorem Le.outOf {a b : Out} (fn : Fn_) (h : Le a b) : Le (outOf fn a) (Fw.outOf fn b) := by
  intro r hr
  cases ha : a with
  | none => rw [ha] at hr; cases hr
  | some y => rw [ha] at hr; rw [h y ha]; exact hr

theorem evFn_mono {c d : CallFn} (h : CallLe c d) (n : Nat) (fn : Fn_) (args : List AV) (hp : Heap) : Le (evFn E c n fn args hp) (evFn E d (n + 1) fn args hp) := by
  rw [evFn_eq, evFn_eq]
  split
  · exact (evC_mono h n _ _).outOf fn
  · exact Le.refl _

theorem callN_mono : ∀ n, CallLe (callN E n) (callN E (n + 1))
  | 0 => fun _ _ _ => Le.none _
  | n + 1 => fun f a h => by
    simp only [callN]
    split
    · exact evFn_mono (callN_mono n) n _ a h
    · exact Le.refl _

/-! ### without a bound -/

noncomputable def call (E : Env) : CallFn := fun f a h => sup fun n => callN E n f a h
noncomputable def ev (E : Env) (c : C) (x : St) : Out := sup fun n => evC E (callN E n) n c x

theorem call_mono (f : FuncId) (a : List AV) (h : Heap) : MonoF fun n => callN E n f a h := fun n => callN_mono n f a h
theorem ev_mono (c : C) (x : St) : MonoF fun n => evC E (callN E n) n c x := fun n => evC_mono (callN_mono n) n c x

theorem callN_le (n : Nat) : CallLe (callN E n) (call E) := fun f a h r hr => sup_of (call_mono f a h) hr
theorem ev_of {n : Nat} {c : C} {x : St} {r : Ex × St} (h : evC E (callN E n) n c x = some r) : ev E c x = some r := sup_of (ev_mono c x) h

/-- An operation asks for at most one call. -/
theorem evI_cont {s : Slots} {hp : Heap} {op : I} {r : AV × Heap} (h : evI E (call E) s hp op = some r) : ∃ n, evI E (callN E n) s hp op = some r := by
  have key : ∀ (ro : Bool) (f : FuncId) (vals : List AV) {hp : Heap} {r : AV × Heap}, doCall E (call E) ro hp f vals = some r → ∃ n, doCall E (callN E n) ro hp f vals = some r := by
    intro ro f vals hp r h
    unfold doCall at h ⊢
    cases hv : snapL true hp vals with
    | none => rw [hv] at h; cases h
    | some vs =>
      rw [hv] at h
      simp only [Option.bind_some] at h ⊢
      unfold pcallOf at h ⊢
      cases hp' : E.prim f with
      | some p => rw [hp'] at h; exact ⟨0, h⟩
      | none =>
        rw [hp'] at h
        cases hc : call E f vs [] with
        | none => rw [hc] at h; cases h
        | some y =>
          obtain ⟨n, hn⟩ := of_sup hc
          rw [hc] at h
          exact ⟨n, by rw [hn]; exact h⟩
  cases op
  case callF ro f args => exact key _ _ _ h
  case callV ro x args =>
    simp only [evI] at h
    split at h
    · rename_i f cap hx
      obtain ⟨n, hn⟩ := key _ _ _ h
      exact ⟨n, by simp only [evI, hx]; exact hn⟩
    · cases h
  case callP f args =>
    simp only [evI, doCallP] at h ⊢
    split at h
    · cases h
    · rename_i ho
      cases hd : doCall E (call E) true [] f (args.map (X.ev s)) with
      | none => rw [hd] at h; cases h
      | some y =>
        obtain ⟨n, hn⟩ := key _ _ _ hd
        rw [hd] at h
        exact ⟨n, by rw [if_neg ho, hn]; exact h⟩
  case callM f args =>
    simp only [evI, doCallM] at h ⊢
    cases hp' : E.prim f with
    | some p => rw [hp'] at h; cases h
    | none =>
      rw [hp'] at h
      cases hm : E.primM f with
      | some p => rw [hm] at h; exact ⟨0, h⟩
      | none => rw [hm] at h; exact of_sup h
  all_goals exact ⟨0, h⟩

theorem evO_cont {x y : St} {o : IO_} (h : evO E (call E) x o = some y) : ∃ n, evO E (callN E n) x o = some y := by
  unfold evO at h ⊢
  cases hg : guardOk x.s o.guard with
  | none => rw [hg] at h; cases h
  | some b =>
    rw [hg] at h
    cases b
    · exact ⟨0, h⟩
    · simp only [Option.bind_some, if_true] at h ⊢
      cases hi : evI E (call E) x.s x.h o.op with
      | none => rw [hi] at h; cases h
      | some r =>
        obtain ⟨n, hn⟩ := evI_cont hi
        rw [hi] at h
        exact ⟨n, by rw [hn]; exact h⟩

theorem callN_le_of {n m : Nat} (h : n ≤ m) : CallLe (callN E n) (callN E m) := fun f a hp => (call_mono f a hp).le h

theorem evOps_cont : ∀ {l : List IO_} {x y : St}, evOps E (call E) l x = some y → ∃ n, evOps E (callN E n) l x = some y
  | [], x, y, h => ⟨0, h⟩
  | o :: l, x, y, h => by
    simp only [evOps] at h ⊢
    cases ho : evO E (call E) x o with
    | none => rw [ho] at h; cases h
    | some z =>
      rw [ho] at h
      obtain ⟨n, hn⟩ := evO_cont ho
      obtain ⟨m, hm⟩ := evOps_cont h
      refine ⟨max n m, ?_⟩
      rw [evO_mono (callN_le_of (Nat.le_max_left n m)) x o z hn]
      exact evOps_mono (callN_le_of (Nat.le_max_right n m)) l z y hm

theorem evC_le {n m : Nat} (h : n ≤ m) (c : C) (x : St) : Le (evC E (callN E n) n c x) (evC E (callN E m) m c x) := (ev_mono c x).le h

theorem ev_skip (x : St) : ev E .skip x = some (.norm, x) := ev_of (n := 0) rfl
theorem ev_exit (id : Nat) (x : St) : ev E (.exit id) x = some (.exit id, x) := ev_of (n := 0) rfl
theorem ev_ret (x : St) : ev E .ret x = some (.ret, x) := ev_of (n := 0) rfl

theorem ev_ops (l : List IO_) (x : St) : ev E (.ops l) x = (evOps E (call E) l x).map fun x => (.norm, x) := by
  refine Le.antisymm (fun r h => ?_) (fun r h => ?_)
  · obtain ⟨n, hn⟩ := of_sup h
    exact ((evOps_mono (callN_le n) l x).map _) r hn
  · cases ho : evOps E (call E) l x with
    | none => rw [ho] at h; cases h
    | some y =>
      obtain ⟨n, hn⟩ := evOps_cont ho
      rw [ho] at h
      exact ev_of (n := n) (by simp only [evC, hn]; exact h)

theorem ev_seq (a b : C) (x : St) : ev E (.seq a b) x = andThen (ev E a x) (ev E b) := by
  refine Le.antisymm (fun r h => ?_) (fun r h => ?_)
  · obtain ⟨n, hn⟩ := of_sup h
    exact (Le.andThen (fun r hr => ev_of hr) (fun y r hr => ev_of hr)) r hn
  · cases ha : ev E a x with
    | none => rw [ha] at h; cases h
    | some y =>
      rw [ha] at h
      obtain ⟨n, hn⟩ := of_sup ha
      obtain ⟨e, y⟩ := y
      cases e
      · obtain ⟨m, hm⟩ := of_sup (show ev E b y = some r from h)
        refine ev_of (n := max n m) ?_
        show andThen _ _ = _
        rw [evC_le (Nat.le_max_left n m) a x _ hn]
        exact evC_le (Nat.le_max_right n m) b y _ hm
      · exact ev_of (n := n) (by show andThen _ _ = _; rw [hn]; exact h)
      · exact ev_of (n := n) (by show andThen _ _ = _; rw [hn]; exact h)

theorem ev_cond (c : X) (a b : C) (x : St) : ev E (.cond c a b) x = match c.ev x.s with
    | .bool v => if v then ev E a x else ev E b x
    | _ => none := by
  refine Le.antisymm (fun r h => ?_) (fun r h => ?_)
  · obtain ⟨n, hn⟩ := of_sup h
    simp only [evC] at hn
    split at hn
    · rename_i v hv
      simp only [hv]
      cases v
      · exact ev_of hn
      · exact ev_of hn
    · cases hn
  · split at h
    · rename_i v hv
      cases v
      · obtain ⟨n, hn⟩ := of_sup (show ev E b x = some r from h)
        exact ev_of (n := n) (by simp only [evC, hv]; exact hn)
      · obtain ⟨n, hn⟩ := of_sup (show ev E a x = some r from h)
        exact ev_of (n := n) (by simp only [evC, hv]; exact hn)
    · cases h

theorem ev_block (id : Nat) (live : Option (List Nat)) (b : C) (x : St) : ev E (.block id live b) x = endBlock id live (ev E b (restr live x)) := by
  refine Le.antisymm (fun r h => ?_) (fun r h => ?_)
  · obtain ⟨n, hn⟩ := of_sup h
    exact (Le.endBlock id live (fun r hr => ev_of hr)) r hn
  · cases hb : ev E b (restr live x) with
    | none => rw [hb] at h; cases h
    | some y =>
      rw [hb] at h
      obtain ⟨n, hn⟩ := of_sup hb
      exact ev_of (n := n) (by show endBlock _ _ _ = _; rw [hn]; exact h)

theorem evLoop_le {f g : St → Out} (h : ∀ x, Le (f x) (g x)) : ∀ (k m : Nat), k ≤ m → ∀ x, Le (evLoop f k x) (evLoop g m x)
  | 0, _, _, x => Le.none _
  | k + 1, 0, hk, x => by omega
  | k + 1, m + 1, hk, x => (h x).andThen fun y => evLoop_le h k m (by omega) y

theorem ev_loop (live : Option (List Nat)) (b : C) (x : St) : ev E (.loop live b) x = andThen (ev E b (restr live x)) (ev E (.loop live b)) := by
  have hf : ∀ n m, n ≤ m → ∀ x, Le (evC E (callN E n) n b (restr live x)) (evC E (callN E m) m b (restr live x)) := fun n m hnm x => evC_le hnm b _
  refine Le.antisymm (fun r h => ?_) (fun r h => ?_)
  · obtain ⟨n, hn⟩ := of_sup h
    cases n with
    | zero => cases hn
    | succ k =>
      refine Le.andThen (fun r hr => ev_of hr) (fun y r hr => ?_) r hn
      exact ev_of (n := k + 1) (evLoop_le (fun x => Le.refl _) k (k + 1) (by omega) y r hr)
  · cases hb : ev E b (restr live x) with
    | none => rw [hb] at h; cases h
    | some y =>
      rw [hb] at h
      obtain ⟨n, hn⟩ := of_sup hb
      obtain ⟨e, y⟩ := y
      cases e
      · obtain ⟨m, hm⟩ := of_sup (show ev E (.loop live b) y = some r from h)
        refine ev_of (n := max n m + 1) ?_
        show andThen (evC E (callN E (max n m + 1)) (max n m + 1) b (restr live x)) (evLoop _ (max n m)) = some r
        rw [hf n (max n m + 1) (by omega) x _ hn]
        exact evLoop_le (hf m (max n m + 1) (by omega)) m (max n m) (by omega) y r hm
      · exact ev_of (n := n + 1) (by show andThen (evC E (callN E (n + 1)) (n + 1) b (restr live x)) (evLoop _ n) = some r; rw [hf n (n + 1) (by omega) x _ hn]; exact h)
      · exact ev_of (n := n + 1) (by show andThen (evC E (callN E (n + 1)) (n + 1) b (restr live x)) (evLoop _ n) = some r; rw [hf n (n + 1) (by omega) x _ hn]; exact h)

/-- The rounds at their limit: each round's answer comes at some depth. -/
theorem evRange_cont {f : Nat → St → Out} {g : St → Out} (hf : ∀ n m, n ≤ m → ∀ x, Le (f n x) (f m x)) (hg : ∀ x r, g x = some r → ∃ n, f n x = some r) (s0 : Slots) (ps : List Nat) : ∀ (its : List (List PE)) (hp : Heap) (r : Ex × St), evRange g s0 ps its hp = some r → ∃ n, evRange (f n) s0 ps its hp = some r
  | [], hp, r, h => ⟨0, h⟩
  | it :: its, hp, r, h => by
    simp only [evRange] at h
    split at h
    · rename_i hc
      cases hb : g ⟨putAll ps it s0, hp⟩ with
      | none => rw [hb] at h; cases h
      | some y =>
        rw [hb] at h
        obtain ⟨n, hn⟩ := hg _ _ hb
        obtain ⟨e, y⟩ := y
        cases e
        · simp only [roundEnd] at h
          cases hs : backE its.isEmpty hp y.h with
          | none => rw [hs] at h; cases h
          | some h' =>
            rw [hs] at h
            obtain ⟨m, hm⟩ := evRange_cont hf hg s0 ps its h' r h
            refine ⟨max n m, ?_⟩
            simp only [evRange, if_pos hc]
            rw [hf n (max n m) (Nat.le_max_left _ _) _ _ hn]
            simp only [roundEnd, hs, Option.bind_some]
            exact evRange_le (fun x => hf m (max n m) (Nat.le_max_right _ _) x) s0 ps its h' r hm
        · exact ⟨n, by simp only [evRange, if_pos hc]; rw [hn]; exact h⟩
        · exact ⟨n, by simp only [evRange, if_pos hc]; rw [hn]; exact h⟩
    · cases h
noncomputable def rangeK (E : Env) (ps : List Nat) (assign body : C) (s0 : Slots) (h : Heap) (items : Option (List (List PE))) : Out :=
  items.bind fun items => evRange (fun y => andThenN (ev E assign y) (ev E body)) s0 ps items h
theorem ev_rangeF (g : X) (ps : List Nat) (assign body : C) (x : St) : ev E (.rangeF g ps assign body) x = match g.ev x.s with
    | .fn f cap => match E.seq f with
      | some q => rangeK E ps assign body x.s x.h (q cap x.h)
      | none => none
    | _ => none := by
  refine Le.antisymm (fun r h => ?_) (fun r h => ?_)
  · obtain ⟨n, hn⟩ := of_sup h
    simp only [evC] at hn
    split at hn
    · rename_i f cap hv
      simp only [hv]
      split at hn
      · rename_i q hq
        simp only [hq, rangeK]
        exact ((Le.refl _).bind fun items => evRange_le (fun y => Le.andThenN (fun r hr => ev_of hr) fun z r hr => ev_of hr) _ _ _ _) r hn
      · cases hn
    · cases hn
  · split at h
    · rename_i f cap hv
      split at h
      · rename_i q hq
        unfold rangeK at h
        cases hi : q cap x.h with
        | none => rw [hi] at h; cases h
        | some items =>
          rw [hi] at h
          obtain ⟨n, hn⟩ := evRange_cont (f := fun n y => andThenN (evC E (callN E n) n assign y) (evC E (callN E n) n body)) (fun n m hnm y => (evC_le hnm assign y).andThenN fun z => evC_le hnm body z) (fun y r hy => by
            cases ha : ev E assign y with
            | none => rw [ha] at hy; cases hy
            | some z =>
              rw [ha] at hy
              obtain ⟨n, hn⟩ := of_sup ha
              obtain ⟨e, z⟩ := z
              cases e
              · obtain ⟨m, hm⟩ := of_sup (show ev E body z = some r from hy)
                refine ⟨max n m, ?_⟩
                show andThenN _ _ = _
                rw [evC_le (Nat.le_max_left n m) assign y _ hn]
                exact evC_le (Nat.le_max_right n m) body z _ hm
              · cases hy
              · cases hy) x.s ps items x.h r h
          exact ev_of (n := n) (by simp only [evC, hv, hq, hi, Option.bind_some]; exact hn)
      · cases h
    · cases h

theorem call_eq (f : FuncId) (args : List AV) (h : Heap) : call E f args h = match E.fns f with
    | some fn => if args.length = fn.nparams then outOf fn (ev E fn.body ⟨enumFrom 0 args, h⟩) else none
    | none => none := by
  refine Le.antisymm (fun r hr => ?_) (fun r hr => ?_)
  · obtain ⟨n, hn⟩ := of_sup hr
    cases n with
    | zero => cases hn
    | succ k =>
      simp only [callN] at hn
      split at hn
      · rename_i fn hfn
        simp only [hfn]
        rw [evFn_eq] at hn
        split at hn
        · rename_i hl
          rw [if_pos hl]
          exact Le.outOf fn (fun r hr => ev_of hr) r hn
        · cases hn
      · cases hn
  · split at hr
    · rename_i fn hfn
      split at hr
      · rename_i hl
        cases hb : ev E fn.body ⟨enumFrom 0 args, h⟩ with
        | none => rw [hb] at hr; cases hr
        | some y =>
          rw [hb] at hr
          obtain ⟨n, hn⟩ := of_sup hb
          refine callN_le (n + 1) f args h r ?_
          simp only [callN, hfn]
          rw [evFn_eq, if_pos hl, hn]
          exact hr
      · cases hr
    · cases hr

/-- The call of a function on values that are only read. -/
noncomputable def pcall (E : Env) (f : FuncId) (args : List AV) : Option (AV × Heap) := pcallOf E (call E) f args

theorem pcall_prim {f : FuncId} {p : List AV → Option (AV × Heap)} (h : E.prim f = some p) (args : List AV) : pcall E f args = p args := by
  unfold pcall pcallOf
  rw [h]

theorem pcall_fn {f : FuncId} {fn : Fn_} (hp : E.prim f = none) (hf : E.fns f = some fn) {args : List AV} (hl : args.length = fn.nparams) :
    pcall E f args = (outOf fn (ev E fn.body ⟨enumFrom 0 args, []⟩)).bind (finish (E.keep f)) := by
  unfold pcall pcallOf
  rw [hp]
  simp only [call_eq, hf, if_pos hl]

end Go.Fw
