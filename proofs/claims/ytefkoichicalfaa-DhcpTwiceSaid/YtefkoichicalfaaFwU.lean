/-
  What makes reckoning with the evaluation short: loops in one step, results that are plain, rows of one-cell values, numbers within their bounds. Conditions: stated at each.
-/
import Derived.Test.YtefkoichicalfaaFwS
import Derived.Test.YtefkoichicalfaaFwT
set_option linter.unusedVariables false
set_option linter.unusedSimpArgs false
set_option linter.unusedSectionVars false
namespace Go.Fw

variable {E : Env}

/-! ### a function's answer -/

def outR (rs : List (Nat × Option (Bool × Nat))) : Out → Option (AV × Heap)
  | some (.norm, x) | some (.ret, x) => (resOf x.s x.h rs).map (·, x.h)
  | _ => none
theorem outR_norm (rs : List (Nat × Option (Bool × Nat))) (s : Slots) (h : Heap) : outR rs (some (.norm, ⟨s, h⟩)) = (resOf s h rs).map (·, h) := (rfl)
theorem outR_ret (rs : List (Nat × Option (Bool × Nat))) (s : Slots) (h : Heap) : outR rs (some (.ret, ⟨s, h⟩)) = (resOf s h rs).map (·, h) := (rfl)
theorem outR_none (rs : List (Nat × Option (Bool × Nat))) : outR rs none = none := (rfl)
theorem outR_ite (rs : List (Nat × Option (Bool × Nat))) (c : Prop) [Decidable c] (a b : Out) : outR rs (if c then a else b) = if c then outR rs a else outR rs b := by split <;> rfl
theorem pcall_go {f : FuncId} {fn : Fn_} (hp : E.prim f = none) (hf : E.fns f = some fn) {args : List AV} (hl : args.length = fn.nparams) :
    pcall E f args = (outR fn.results (ev E fn.body ⟨enumFrom 0 args, []⟩)).bind (finish (E.keep f)) := by
  rw [pcall_fn hp hf hl]
  congr 1

/-- A call that is reckoned to its end. -/
theorem pcall_run (n : Nat) {f : FuncId} {args : List AV} {r : AV × Heap} (h : pcallOf E (callN E n) f args = some r) : pcall E f args = some r := pcallOf_mono (callN_le n) f args r h

/-! ### guards that are known -/

theorem gK_tt (t : Nat) (d : Option Nat) (op : I) (l : List IO_) (s : Slots) (h : Heap) : gK E t true d op l s h (.bool true) = stepK E d l s (evI E (call E) s h op) := by simp [gK]
theorem gK_tf (t : Nat) (d : Option Nat) (op : I) (l : List IO_) (s : Slots) (h : Heap) : gK E t true d op l s h (.bool false) = evOps E (call E) l ⟨put s d (.tup []), h⟩ := by simp [gK]
theorem gK_ft (t : Nat) (d : Option Nat) (op : I) (l : List IO_) (s : Slots) (h : Heap) : gK E t false d op l s h (.bool true) = evOps E (call E) l ⟨put s d (.tup []), h⟩ := by simp [gK]
theorem gK_ff (t : Nat) (d : Option Nat) (op : I) (l : List IO_) (s : Slots) (h : Heap) : gK E t false d op l s h (.bool false) = stepK E d l s (evI E (call E) s h op) := by simp [gK]

/-! ### loops -/

def pickS (s : Slots) : List Nat → Slots
  | [] => []
  | t :: l => (t, get s t) :: pickS s l
theorem pickS_nil (s : Slots) : pickS s [] = [] := (rfl)
theorem pickS_cons (s : Slots) (t : Nat) (l : List Nat) : pickS s (t :: l) = (t, get s t) :: pickS s l := (rfl)
theorem pickS_eq (s : Slots) : ∀ l : List Nat, (l.map fun t => (t, get s t)) = pickS s l
  | [] => rfl
  | t :: l => by rw [List.map_cons, pickS_cons, pickS_eq s l]
theorem restr_pick (l : List Nat) (s : Slots) (h : Heap) : restr (some l) ⟨s, h⟩ = ⟨pickS s l, h⟩ := by rw [restr_some, pickS_eq]

def stepTo (lv : List Nat) (r : Out) : Out := r.map fun r => (r.1, restr (some lv) r.2)
theorem stepTo_norm (lv : List Nat) (s : Slots) (h : Heap) : stepTo lv (some (.norm, ⟨s, h⟩)) = some (.norm, ⟨pickS s lv, h⟩) := by
  show some (Ex.norm, restr (some lv) ⟨s, h⟩) = _
  rw [restr_pick]
theorem stepTo_none (lv : List Nat) : stepTo lv none = none := (rfl)
theorem stepTo_ite (lv : List Nat) (c : Prop) [Decidable c] (a b : Out) : stepTo lv (if c then a else b) = if c then stepTo lv a else stepTo lv b := by split <;> rfl

theorem loop_run {E : Env} {L B : C} {lv : List Nat} (hL : ∀ x, ev E L x = andThen (ev E B (restr (some lv) x)) (ev E L)) : ∀ (n : Nat) (S : Nat → St),
    (∀ i, i < n → stepTo lv (ev E B (S i)) = some (.norm, S (i + 1))) → ∀ x, restr (some lv) x = S 0 → ev E L x = andThen (ev E B (S n)) (ev E L)
  | 0, S, _, x, hx => by rw [hL, hx]
  | n + 1, S, hs, x, hx => by
    have h0 := hs 0 (by omega)
    rw [hL, hx]
    unfold stepTo at h0
    cases hb : ev E B (S 0) with
    | none => rw [hb] at h0; cases h0
    | some r =>
      obtain ⟨e, y⟩ := r
      rw [hb] at h0
      simp only [Option.map_some, Option.some.injEq, Prod.mk.injEq] at h0
      obtain ⟨rfl, hy⟩ := h0
      rw [andThen_norm]
      exact loop_run hL n (fun i => S (i + 1)) (fun i hi => hs (i + 1) (by omega)) y hy

/-- The same from the first state on. -/
theorem loop_from {E : Env} {L B : C} {lv : List Nat} (hL : ∀ x, ev E L x = andThen (ev E B (restr (some lv) x)) (ev E L)) (n : Nat) (S : Nat → St) (h0 : restr (some lv) (S 0) = S 0)
    (hs : ∀ i, i < n → stepTo lv (ev E B (S i)) = some (.norm, S (i + 1))) : ev E L (S 0) = andThen (ev E B (S n)) (ev E L) := loop_run hL n S hs (S 0) h0

/-- A loop at a state that bears no more than it reads. -/
noncomputable def lp (E : Env) (L : C) (s : Slots) (h : Heap) : Out := ev E L ⟨s, h⟩
theorem get_pickS (s : Slots) : ∀ (lv : List Nat) (t : Nat), get (pickS s lv) t = if t ∈ lv then get s t else .undef
  | [], t => by simp [pickS, get]
  | d :: lv, t => by
    rw [pickS_cons, get_cons, get_pickS s lv t]
    by_cases h : t = d
    · subst h; simp
    · simp [h]
theorem pickS_sub (s : Slots) (lv : List Nat) : ∀ l : List Nat, (∀ t ∈ l, t ∈ lv) → pickS (pickS s lv) l = pickS s l
  | [], _ => rfl
  | t :: l, h => by rw [pickS_cons, pickS_cons, get_pickS, if_pos (h t (by simp)), pickS_sub s lv l fun u hu => h u (by simp [hu])]
theorem lp_of {E : Env} {L B : C} {lv : List Nat} (hL : ∀ x, ev E L x = andThen (ev E B (restr (some lv) x)) (ev E L)) (s : Slots) (h : Heap) : ev E L ⟨s, h⟩ = lp E L (pickS s lv) h := by
  unfold lp
  rw [hL, hL ⟨pickS s lv, h⟩, restr_pick, restr_pick, pickS_sub s lv lv fun _ h => h]
theorem lp_go {E : Env} {L B : C} {lv : List Nat} (hL : ∀ x, ev E L x = andThen (ev E B (restr (some lv) x)) (ev E L)) (s : Slots) (h : Heap) : lp E L s h = andThen (ev E B ⟨pickS s lv, h⟩) (ev E L) := by
  unfold lp
  rw [hL, restr_pick]

/-! ### memory behind a heap's end -/

theorem gcl (l : Heap) (a : AObj) : (l ++ [a])[l.length]? = some a := by simp
theorem scl (l : Heap) (a b : AObj) : (l ++ [a]).set l.length b = l ++ [b] := by simp
theorem gcn (l : Heap) (a : AObj) (m : Heap) : (l ++ a :: m)[l.length]? = some a := by simp
theorem scn (l : Heap) (a b : AObj) (m : Heap) : (l ++ a :: m).set l.length b = l ++ b :: m := by simp
theorem gcn1 (l : Heap) (a b : AObj) (m : Heap) : (l ++ a :: b :: m)[l.length + 1]? = some b := by
  rw [List.getElem?_append_right (by omega), Nat.add_sub_cancel_left]
  rfl
theorem scn1 (l : Heap) (a b c : AObj) (m : Heap) : (l ++ a :: b :: m).set (l.length + 1) c = l ++ a :: c :: m := by
  rw [List.set_append_right _ _ (by omega), Nat.add_sub_cancel_left]
  rfl
attribute [go_sem] gcl scl gcn scn gcn1 scn1

/-- Where a row of rounds first stops. -/
theorem first_stop (P : Nat → Bool) : ∀ n : Nat, (∀ i, i < n → P i = true) ∨ ∃ m, m < n ∧ (∀ i, i < m → P i = true) ∧ P m = false
  | 0 => .inl fun i h => by omega
  | n + 1 => by
    rcases first_stop P n with h | ⟨m, h1, h2, h3⟩
    · cases hp : P n with
      | true =>
        refine .inl fun i hi => ?_
        rcases Nat.lt_or_ge i n with h4 | h4
        · exact h i h4
        · rw [show i = n by omega]
          exact hp
      | false => exact .inr ⟨n, by omega, h, hp⟩
    · exact .inr ⟨m, by omega, h2, h3⟩

/-! ### results that are plain -/

def plainG : AV → Bool
  | .iface _ x => plainB x && noG x
  | x => plainB x && noG x
def aggG : AV → Bool
  | .agg cs => cs.all plainG
  | x => plainG x
def tupG : AV → Bool
  | .tup vs => vs.all aggG
  | x => aggG x

theorem plainG_spec {x : AV} (h : plainG x = true) : noG x = true ∧ hasOwn x = false ∧ ∀ g hp d, snap g hp (d + 2) x = some x := by
  have key : ∀ x : AV, plainB x = true → hasOwn x = false ∧ ∀ g hp d, snap g hp (d + 1) x = some x := by
    intro x hx
    refine ⟨?_, fun g hp d => snap_plain g hp d hx⟩
    cases x <;> first | rfl | cases hx
  by_cases hi : ∃ t y, x = .iface t y
  · obtain ⟨t, y, rfl⟩ := hi
    simp only [plainG, Bool.and_eq_true] at h
    obtain ⟨h1, h2⟩ := key y h.1
    refine ⟨h.2, h1, fun g hp d => ?_⟩
    show (snap g hp (d + 1) y).map (AV.iface t) = _
    rw [h2]
    rfl
  · have h' : plainB x = true ∧ noG x = true := by
      cases x <;> first | (exact absurd ⟨_, _, rfl⟩ hi) | simpa [plainG] using h
    obtain ⟨h1, h2⟩ := key x h'.1
    exact ⟨h'.2, h1, fun g hp d => h2 g hp (d + 1)⟩

theorem all_spec {p q : AV → Prop} {l : List AV} (h : ∀ x ∈ l, p x) (k : ∀ x, p x → q x) : ∀ x ∈ l, q x := fun x hx => k x (h x hx)
theorem noGL_of {l : List AV} (h : ∀ x ∈ l, noG x = true) : noG.noGL l = true := by
  induction l with
  | nil => rfl
  | cons x l ih =>
    show (noG x && noG.noGL l) = true
    rw [h x (by simp), ih fun y hy => h y (by simp [hy])]
    rfl
theorem ownL_of {l : List AV} (h : ∀ x ∈ l, hasOwn x = false) : hasOwn.hasOwnL l = false := by
  induction l with
  | nil => rfl
  | cons x l ih =>
    show (hasOwn x || hasOwn.hasOwnL l) = false
    rw [h x (by simp), ih fun y hy => h y (by simp [hy])]
    rfl
theorem mapM_of {g : Bool} {hp : Heap} {d : Nat} {l : List AV} (h : ∀ x ∈ l, snap g hp d x = some x) : l.mapM (snap g hp d) = some l := by
  induction l with
  | nil => rfl
  | cons x l ih =>
    rw [List.mapM_cons, h x (by simp), ih fun y hy => h y (by simp [hy])]
    rfl

theorem aggG_spec {x : AV} (h : aggG x = true) : noG x = true ∧ hasOwn x = false ∧ ∀ g hp d, snap g hp (d + 3) x = some x := by
  by_cases hi : ∃ cs, x = .agg cs
  · obtain ⟨cs, rfl⟩ := hi
    simp only [aggG, List.all_eq_true] at h
    refine ⟨noGL_of fun y hy => (plainG_spec (h y hy)).1, ownL_of fun y hy => (plainG_spec (h y hy)).2.1, fun g hp d => ?_⟩
    show (cs.mapM (snap g hp (d + 2))).map AV.agg = _
    rw [mapM_of fun y hy => (plainG_spec (h y hy)).2.2 g hp d]
    rfl
  · have h' : plainG x = true := by
      cases x <;> first | (exact absurd ⟨_, rfl⟩ hi) | simpa [aggG] using h
    obtain ⟨h1, h2, h3⟩ := plainG_spec h'
    exact ⟨h1, h2, fun g hp d => h3 g hp (d + 1)⟩

theorem tupG_spec {x : AV} (h : tupG x = true) : noG x = true ∧ hasOwn x = false ∧ (∀ g hp, snap g hp depth x = some x) ∧ okRes x = true ∧ ∀ k, shift k x = x := by
  have key : ∀ x : AV, hasOwn x = false → okRes x = true ∧ ∀ k, shift k x = x := by
    intro x hx
    unfold okRes shift
    constructor
    · split
      · rfl
      · rfl
      · rename_i rest
        simp [hasOwn, hasOwn.hasOwnL] at hx
      · simp [hx]
    · intro k
      split
      · simp [hasOwn] at hx
      · simp [hasOwn] at hx
      · simp [hasOwn, hasOwn.hasOwnL] at hx
      · rfl
  by_cases hi : ∃ vs, x = .tup vs
  · obtain ⟨cs, rfl⟩ := hi
    simp only [tupG, List.all_eq_true] at h
    have h2 : hasOwn (.tup cs) = false := ownL_of fun y hy => (aggG_spec (h y hy)).2.1
    refine ⟨noGL_of fun y hy => (aggG_spec (h y hy)).1, h2, fun g hp => ?_, key _ h2⟩
    show (cs.mapM (snap g hp 8)).map AV.tup = _
    rw [mapM_of fun y hy => (aggG_spec (h y hy)).2.2 g hp 5]
    rfl
  · have h' : aggG x = true := by
      cases x <;> first | (exact absurd ⟨_, rfl⟩ hi) | simpa [tupG] using h
    obtain ⟨h1, h2, h3⟩ := aggG_spec h'
    exact ⟨h1, h2, fun g hp => h3 g hp 6, key _ h2⟩

theorem retK_pure (ro : Bool) (h : Heap) (own : Bool) {r : AV} (hr : tupG r = true) : retK ro h own (some (r, [])) = some (r, h) := by
  obtain ⟨h1, h2, h3, h4, h5⟩ := tupG_spec hr
  rw [retK_some]
  simp [h1, h3, h4, h5]
/-- A row of the callee's making, taken over. -/
theorem retK_row (h : Heap) (own : Bool) (sz n : Nat) (vs : List AV) (t : TypeId) (hv : noG.noGL vs = true) : retK false h own (some (.sl sz 0 0 0 n, [.row 0 sz vs t])) = some (.sl sz h.length 0 0 n, h ++ [.row 0 sz vs t]) := by
  rw [retK_some]
  simp [noG, objNoG, hv, okRes, shift]
theorem retK_tupRow (h : Heap) (own : Bool) (sz n : Nat) (vs : List AV) (t : TypeId) (y : AV) (hv : noG.noGL vs = true) (hy : aggG y = true) : retK false h own (some (.tup [.sl sz 0 0 0 n, y], [.row 0 sz vs t])) = some (.tup [.sl sz h.length 0 0 n, y], h ++ [.row 0 sz vs t]) := by
  obtain ⟨h1, h2, _⟩ := aggG_spec hy
  rw [retK_some]
  simp [noG, noG.noGL, objNoG, hv, okRes, shift, h1, h2, hasOwn.hasOwnL]
def retP (b : Bool) (ro : Bool) (h : Heap) (own : Bool) (r : AV) (h' : Heap) (objs : Heap) : Option (AV × Heap) := if b then some (r, h') else retK ro h own (some (r, objs))
theorem retP_true (ro : Bool) (h : Heap) (own : Bool) (r : AV) (h' objs : Heap) : retP true ro h own r h' objs = some (r, h') := (rfl)
theorem retK_p (ro : Bool) (h : Heap) (r : AV) : retK ro h true (some (r, [])) = retP (tupG r) ro h true r h [] := by
  unfold retP
  cases hr : tupG r with
  | true => exact retK_pure ro h true hr
  | false => rfl
/-- The same where nothing of the caller's own was handed on: what was lent may come back. -/
def plainN : AV → Bool
  | .iface _ x => plainB x
  | x => plainB x
def aggN : AV → Bool
  | .agg cs => cs.all plainN
  | x => plainN x
def tupN : AV → Bool
  | .tup vs => vs.all aggN
  | x => aggN x
theorem plainN_spec {x : AV} (h : plainN x = true) : hasOwn x = false ∧ ∀ g hp d, snap g hp (d + 2) x = some x := by
  have key : ∀ x : AV, plainB x = true → hasOwn x = false ∧ ∀ g hp d, snap g hp (d + 1) x = some x := by
    intro x hx
    refine ⟨?_, fun g hp d => snap_plain g hp d hx⟩
    cases x <;> first | rfl | cases hx
  by_cases hi : ∃ t y, x = .iface t y
  · obtain ⟨t, y, rfl⟩ := hi
    obtain ⟨h1, h2⟩ := key y h
    refine ⟨h1, fun g hp d => ?_⟩
    show (snap g hp (d + 1) y).map (AV.iface t) = _
    rw [h2]
    rfl
  · have h' : plainB x = true := by
      cases x <;> first | (exact absurd ⟨_, _, rfl⟩ hi) | exact h
    obtain ⟨h1, h2⟩ := key x h'
    exact ⟨h1, fun g hp d => h2 g hp (d + 1)⟩
theorem aggN_spec {x : AV} (h : aggN x = true) : hasOwn x = false ∧ ∀ g hp d, snap g hp (d + 3) x = some x := by
  by_cases hi : ∃ cs, x = .agg cs
  · obtain ⟨cs, rfl⟩ := hi
    simp only [aggN, List.all_eq_true] at h
    refine ⟨ownL_of fun y hy => (plainN_spec (h y hy)).1, fun g hp d => ?_⟩
    show (cs.mapM (snap g hp (d + 2))).map AV.agg = _
    rw [mapM_of fun y hy => (plainN_spec (h y hy)).2 g hp d]
    rfl
  · have h' : plainN x = true := by
      cases x <;> first | (exact absurd ⟨_, rfl⟩ hi) | exact h
    obtain ⟨h1, h2⟩ := plainN_spec h'
    exact ⟨h1, fun g hp d => h2 g hp (d + 1)⟩
theorem tupN_spec {x : AV} (h : tupN x = true) : hasOwn x = false ∧ ∀ g hp, snap g hp depth x = some x := by
  by_cases hi : ∃ vs, x = .tup vs
  · obtain ⟨cs, rfl⟩ := hi
    simp only [tupN, List.all_eq_true] at h
    refine ⟨ownL_of fun y hy => (aggN_spec (h y hy)).1, fun g hp => ?_⟩
    show (cs.mapM (snap g hp 8)).map AV.tup = _
    rw [mapM_of fun y hy => (aggN_spec (h y hy)).2 g hp 5]
    rfl
  · have h' : aggN x = true := by
      cases x <;> first | (exact absurd ⟨_, rfl⟩ hi) | exact h
    obtain ⟨h1, h2⟩ := aggN_spec h'
    exact ⟨h1, fun g hp => h2 g hp 6⟩
theorem retK_n (ro : Bool) (h : Heap) (r : AV) : retK ro h false (some (r, [])) = retP (tupN r) ro h false r h [] := by
  unfold retP
  cases hr : tupN r with
  | false => rfl
  | true =>
    obtain ⟨h1, h2⟩ := tupN_spec hr
    have h3 : okRes r = true ∧ ∀ k, shift k r = r := by
      unfold okRes shift
      constructor
      · split
        · rfl
        · rfl
        · rename_i rest
          simp [hasOwn, hasOwn.hasOwnL] at h1
        · simp [h1]
      · intro k
        split
        · simp [hasOwn] at h1
        · simp [hasOwn] at h1
        · simp [hasOwn, hasOwn.hasOwnL] at h1
        · rfl
    rw [retK_some]
    simp [h2, h3.1, h3.2]
theorem plainN_rs (g : Bool) (sz : Nat) (l : List AV) : plainN (.rs g sz l) = true := (rfl)
theorem plainN_rp (g : Bool) (x : AV) : plainN (.rp g x) = true := (rfl)
theorem plainN_int (k : IntKind) (n : Int) : plainN (.int k n) = true := (rfl)
theorem plainN_bool (b : Bool) : plainN (.bool b) = true := (rfl)
theorem plainN_str (b : ByteArray) : plainN (.str b) = true := (rfl)
theorem plainN_nilp : plainN .nilp = true := (rfl)
theorem plainN_nili : plainN .nili = true := (rfl)
theorem plainN_nils : plainN .nils = true := (rfl)
theorem plainN_iface (t : TypeId) (x : AV) : plainN (.iface t x) = plainB x := (rfl)
theorem aggN_agg (cs : List AV) : aggN (.agg cs) = cs.all plainN := (rfl)
theorem aggN_rs (g : Bool) (sz : Nat) (l : List AV) : aggN (.rs g sz l) = true := (rfl)
theorem aggN_rp (g : Bool) (x : AV) : aggN (.rp g x) = true := (rfl)
theorem aggN_int (k : IntKind) (n : Int) : aggN (.int k n) = true := (rfl)
theorem aggN_bool (b : Bool) : aggN (.bool b) = true := (rfl)
theorem aggN_str (b : ByteArray) : aggN (.str b) = true := (rfl)
theorem aggN_nilp : aggN .nilp = true := (rfl)
theorem aggN_nili : aggN .nili = true := (rfl)
theorem aggN_nils : aggN .nils = true := (rfl)
theorem aggN_iface (t : TypeId) (x : AV) : aggN (.iface t x) = plainB x := (rfl)
theorem tupN_tup (vs : List AV) : tupN (.tup vs) = vs.all aggN := (rfl)
theorem tupN_agg (cs : List AV) : tupN (.agg cs) = cs.all plainN := (rfl)
theorem tupN_rs (g : Bool) (sz : Nat) (l : List AV) : tupN (.rs g sz l) = true := (rfl)
theorem tupN_rp (g : Bool) (x : AV) : tupN (.rp g x) = true := (rfl)
theorem tupN_int (k : IntKind) (n : Int) : tupN (.int k n) = true := (rfl)
theorem tupN_bool (b : Bool) : tupN (.bool b) = true := (rfl)
theorem tupN_str (b : ByteArray) : tupN (.str b) = true := (rfl)
theorem tupN_nilp : tupN .nilp = true := (rfl)
theorem tupN_nili : tupN .nili = true := (rfl)
theorem tupN_nils : tupN .nils = true := (rfl)
theorem tupN_iface (t : TypeId) (x : AV) : tupN (.iface t x) = plainB x := (rfl)
theorem plainB_rp (g : Bool) (x : AV) : plainB (.rp g x) = true := (rfl)
theorem plainB_int (k : IntKind) (n : Int) : plainB (.int k n) = true := (rfl)
theorem plainG_rp (x : AV) : plainG (.rp false x) = noG x := by simp [plainG, plainB, noG]
theorem plainG_iface_rp (t : TypeId) (x : AV) : plainG (.iface t (.rp false x)) = noG x := by simp [plainG, plainB, noG]
theorem plainG_iface_int (t : TypeId) (k : IntKind) (n : Int) : plainG (.iface t (.int k n)) = true := (rfl)
theorem aggG_rp (g : Bool) (x : AV) : aggG (.rp g x) = plainG (.rp g x) := (rfl)
theorem tupG_rp (g : Bool) (x : AV) : tupG (.rp g x) = plainG (.rp g x) := (rfl)
def retQ (b : Bool) (h : Heap) (own : Bool) (r r' : AV) (h' : Heap) (objs : Heap) : Option (AV × Heap) := if b then some (r', h') else retK false h own (some (r, objs))
theorem retQ_true (h : Heap) (own : Bool) (r r' : AV) (h' objs : Heap) : retQ true h own r r' h' objs = some (r', h') := (rfl)
theorem retK_r (h : Heap) (own : Bool) (sz n : Nat) (vs : List AV) (t : TypeId) : retK false h own (some (.sl sz 0 0 0 n, [.row 0 sz vs t])) = retQ (noG.noGL vs) h own (.sl sz 0 0 0 n) (.sl sz h.length 0 0 n) (h ++ [.row 0 sz vs t]) [.row 0 sz vs t] := by
  unfold retQ
  cases hr : noG.noGL vs with
  | true => exact retK_row h own sz n vs t hr
  | false => rfl
theorem retK_t (h : Heap) (own : Bool) (sz n : Nat) (vs : List AV) (t : TypeId) (y : AV) : retK false h own (some (.tup [.sl sz 0 0 0 n, y], [.row 0 sz vs t])) = retQ (noG.noGL vs && aggG y) h own (.tup [.sl sz 0 0 0 n, y]) (.tup [.sl sz h.length 0 0 n, y]) (h ++ [.row 0 sz vs t]) [.row 0 sz vs t] := by
  unfold retQ
  cases hr : noG.noGL vs && aggG y with
  | true =>
    simp only [Bool.and_eq_true] at hr
    exact retK_tupRow h own sz n vs t y hr.1 hr.2
  | false => rfl
theorem snap_pure (g : Bool) (h : Heap) {r : AV} (hr : tupG r = true) : snap g h depth r = some r := (tupG_spec hr).2.2.1 g h
theorem noGL_map {α : Type} (enc : α → AV) (he : ∀ a, noG (enc a) = true) (l : List α) : noG.noGL (l.map enc) = true := noGL_of fun x hx => by
  obtain ⟨a, _, rfl⟩ := List.mem_map.1 hx
  exact he a
theorem noGL_nil : noG.noGL [] = true := (rfl)
theorem noGL_cons (x : AV) (l : List AV) : noG.noGL (x :: l) = (noG x && noG.noGL l) := (rfl)
theorem plainG_rs (sz : Nat) (l : List AV) : plainG (.rs false sz l) = noG.noGL l := by simp [plainG, plainB, noG]
theorem plainG_int (k : IntKind) (n : Int) : plainG (.int k n) = true := (rfl)
theorem plainG_bool (b : Bool) : plainG (.bool b) = true := (rfl)
theorem plainG_str (b : ByteArray) : plainG (.str b) = true := (rfl)
theorem plainG_nilp : plainG .nilp = true := (rfl)
theorem plainG_nili : plainG .nili = true := (rfl)
theorem plainG_nils : plainG .nils = true := (rfl)
theorem aggG_agg (cs : List AV) : aggG (.agg cs) = cs.all plainG := (rfl)
theorem aggG_rs (g : Bool) (sz : Nat) (l : List AV) : aggG (.rs g sz l) = plainG (.rs g sz l) := (rfl)
theorem aggG_int (k : IntKind) (n : Int) : aggG (.int k n) = true := (rfl)
theorem aggG_bool (b : Bool) : aggG (.bool b) = true := (rfl)
theorem aggG_str (b : ByteArray) : aggG (.str b) = true := (rfl)
theorem aggG_nilp : aggG .nilp = true := (rfl)
theorem aggG_nili : aggG .nili = true := (rfl)
theorem aggG_iface (t : TypeId) (x : AV) : aggG (.iface t x) = plainG (.iface t x) := (rfl)
theorem tupG_tup (vs : List AV) : tupG (.tup vs) = vs.all aggG := (rfl)
theorem tupG_agg (cs : List AV) : tupG (.agg cs) = cs.all plainG := (rfl)
theorem tupG_rs (g : Bool) (sz : Nat) (l : List AV) : tupG (.rs g sz l) = plainG (.rs g sz l) := (rfl)
theorem tupG_int (k : IntKind) (n : Int) : tupG (.int k n) = true := (rfl)
theorem tupG_bool (b : Bool) : tupG (.bool b) = true := (rfl)
theorem tupG_str (b : ByteArray) : tupG (.str b) = true := (rfl)
theorem tupG_iface (t : TypeId) (x : AV) : tupG (.iface t x) = plainG (.iface t x) := (rfl)
theorem tupG_nili : tupG .nili = true := (rfl)

/-! ### rows of one-cell values -/

/-- Values of one cell that hold nothing else. -/
structure Flat {α : Type} (enc : α → AV) : Prop where
  st : ∀ a, storable (enc a) = true
  pl : ∀ a, plainB (enc a) = true
  ng : ∀ a, noG (enc a) = true
  one : ∀ a, cellsOf (enc a) = [enc a]

variable {α : Type} {enc : α → AV} (hf : Flat enc)
include hf
theorem Flat.cells (l : List α) : (l.map enc).flatMap cellsOf = l.map enc := by
  induction l with
  | nil => rfl
  | cons a l ih => simp only [List.map_cons, List.flatMap_cons, ih, hf.one, List.singleton_append]
theorem Flat.all_st (l : List α) : (l.map enc).all storable = true := by simp [hf.st]
theorem Flat.all_pl (l : List α) : (l.map enc).all plainB = true := by simp [hf.pl]
theorem Flat.noGL (l : List α) : noG.noGL (l.map enc) = true := noGL_map enc hf.ng l
theorem Flat.cellsIn (h : Heap) (g : Bool) (l : List α) : cellsIn h 1 (.rs g 1 (l.map enc)) = some (l.map enc) := by simp [Fw.cellsIn, hf.cells]
theorem Flat.shape (a : α) : shapeOk false 1 (enc a) = true := by
  have h1 := hf.pl a
  generalize enc a = x at h1
  cases x <;> first | rfl | cases h1
/-- A row of the run's own, told by its content: the whole of it. -/
theorem Flat.snap (g : Bool) (h : Heap) (d l ver n : Nat) (vs : List α) (t : TypeId) (hl : h[l]? = some (.row ver 1 (vs.map enc) t)) (hn : vs.length = n) : Fw.snap g h (d + 2) (.sl 1 l ver 0 n) = some (.rs g 1 (vs.map enc)) := by
  have e : ((vs.map enc).drop 0).take n = vs.map enc := by rw [List.drop_zero, List.take_of_length_le (by simp [hn])]
  rw [snap_slD g h d l ver 0 n (vs.map enc) t hl (by simp [hn]) (by rw [e]; exact hf.all_pl vs), e]
theorem Flat.finish (l ver n : Nat) (h : Heap) (vs : List α) (t : TypeId) (hl : h[l]? = some (.row ver 1 (vs.map enc) t)) (hn : vs.length = n) : Fw.finish true (.sl 1 l ver 0 n, h) = some (.sl 1 0 0 0 n, [.row 0 1 (vs.map enc) t]) :=
  finish_keep 1 l ver n h (vs.map enc) t hl (by simp [hn]) (hf.all_pl vs)
theorem Flat.finish_tup (l ver n : Nat) (h : Heap) (vs : List α) (t : TypeId) (y : AV) (hl : h[l]? = some (.row ver 1 (vs.map enc) t)) (hn : vs.length = n) (hy : plainB y = true) : Fw.finish true (.tup [.sl 1 l ver 0 n, y], h) = some (.tup [.sl 1 0 0 0 n, y], [.row 0 1 (vs.map enc) t]) := by
  simp only [Fw.finish, if_true, hl, List.length_map, hn, Nat.mul_one, and_self, snapL_plain false _ _ (hf.all_pl vs), Option.bind_some]
  rw [snapL_plain false _ [y] (by simp [hy])]
  rfl
theorem Flat.app (h : Heap) (by_ : Nat) (t : TypeId) (l ver n m : Nat) (vs ys : List α) (hl : h[l]? = some (.row ver 1 (vs.map enc) t)) (hn : vs.length = n) (h1 : (n + m) * by_ ≤ 140737488355328) (h2 : n + m ≤ 140737488355328) :
    appK h 1 by_ t (ys.map enc) m (.sl 1 l ver 0 n) = some (.sl 1 l (ver + 1) 0 (n + m), h.set l (.row (ver + 1) 1 ((vs ++ ys).map enc) t)) := by
  rw [appK_sl h 1 by_ t (ys.map enc) m l ver n (vs.map enc) hl (by simp [hn]) h1 h2 (hf.all_st ys), List.map_append]
omit hf
/-- A row's value at a place. -/
def nth {α : Type} [Inhabited α] (l : List α) (i : Nat) : α := l.getD i default
theorem nth_get {α : Type} [Inhabited α] (l : List α) (i : Nat) (h : i < l.length) : nth l i = l[i] := by
  unfold nth
  rw [List.getD_eq_getElem?_getD, List.getElem?_eq_getElem h]
  rfl
theorem curOk_rs (h : Heap) (g : Bool) (sz : Nat) (l : List AV) : curOk h (.rs g sz l) = true := rfl
theorem curOk_nils (h : Heap) : curOk h .nils = true := rfl
theorem curOk_sl (h : Heap) (sz l ver o n : Nat) : curOk h (.sl sz l ver o n) = (objCells h l ver).isSome := rfl
theorem iaddr_map {α : Type} [Inhabited α] (enc : α → AV) (h : Heap) (sz : Nat) (g : Bool) (l : List α) (k : IntKind) (i : Int) (h0 : 0 ≤ i) (h1 : i < l.length) : iaddrK h sz (.rs g sz (l.map enc)) (.int k i) = some (.rp g (enc (nth l i.toNat)), h) := by
  have hi : i.toNat < l.length := by omega
  rw [iaddrK_rs h sz g (l.map enc) k i h0 (by simpa using h1)]
  rw [nth_get l i.toNat hi, List.getD_eq_getElem?_getD, List.getElem?_map, List.getElem?_eq_getElem hi]
  rfl
theorem slice_map {α : Type} (enc : α → AV) (h : Heap) (sz : Nat) (g : Bool) (l : List α) (n : Nat) (lo hi : Option AV) (a b : Int) (h1 : bound lo 0 = some a) (h2 : bound hi n = some b) (h3 : 0 ≤ a) (h4 : a ≤ b) (h5 : b ≤ n) :
    sliceK h sz (.rs g sz (l.map enc)) (some n) lo hi = some (.rs g sz (((l.drop a.toNat).take (b.toNat - a.toNat)).map enc), h) := by
  rw [sliceK_rs h sz g (l.map enc) n lo hi a b h1 h2 h3 h4 h5, List.map_take, List.map_drop]

theorem slice_ii {α : Type} (enc : α → AV) (h : Heap) (sz : Nat) (g : Bool) (l : List α) (k k' : IntKind) (a b : Int) (h3 : 0 ≤ a) (h4 : a ≤ b) (h5 : b ≤ l.length) :
    sliceK h sz (.rs g sz (l.map enc)) (some l.length) (some (.int k a)) (some (.int k' b)) = some (.rs g sz (((l.drop a.toNat).take (b.toNat - a.toNat)).map enc), h) := slice_map enc h sz g l l.length _ _ a b rfl rfl h3 h4 h5
theorem slice_in {α : Type} (enc : α → AV) (h : Heap) (sz : Nat) (g : Bool) (l : List α) (k : IntKind) (a : Int) (h3 : 0 ≤ a) (h4 : a ≤ l.length) :
    sliceK h sz (.rs g sz (l.map enc)) (some l.length) (some (.int k a)) none = some (.rs g sz ((l.drop a.toNat).map enc), h) := by
  rw [slice_map enc h sz g l l.length _ _ a l.length rfl rfl h3 h4 (Int.le_refl _)]
  rw [List.take_of_length_le (by rw [List.length_drop]; omega)]
theorem slice_ni {α : Type} (enc : α → AV) (h : Heap) (sz : Nat) (g : Bool) (l : List α) (k : IntKind) (b : Int) (h3 : 0 ≤ b) (h4 : b ≤ l.length) :
    sliceK h sz (.rs g sz (l.map enc)) (some l.length) none (some (.int k b)) = some (.rs g sz ((l.take b.toNat).map enc), h) := by
  rw [slice_map enc h sz g l l.length _ _ 0 b rfl rfl (Int.le_refl _) h3 h4]
  simp
theorem slice_nn {α : Type} (enc : α → AV) (h : Heap) (sz : Nat) (g : Bool) (l : List α) :
    sliceK h sz (.rs g sz (l.map enc)) (some l.length) none none = some (.rs g sz (l.map enc), h) := by
  rw [slice_map enc h sz g l l.length _ _ 0 l.length rfl rfl (Int.le_refl _) (by omega) (Int.le_refl _)]
  simp
theorem hasOwn_int (k : IntKind) (n : Int) : hasOwn (.int k n) = false := (rfl)
theorem hasOwn_bool (b : Bool) : hasOwn (.bool b) = false := (rfl)
theorem hasOwn_str (b : ByteArray) : hasOwn (.str b) = false := (rfl)
theorem hasOwn_rs (g : Bool) (sz : Nat) (l : List AV) : hasOwn (.rs g sz l) = false := (rfl)
theorem hasOwn_rp (g : Bool) (x : AV) : hasOwn (.rp g x) = false := (rfl)
theorem hasOwn_nili : hasOwn .nili = false := (rfl)
theorem hasOwn_nilp : hasOwn .nilp = false := (rfl)
theorem hasOwn_agg (l : List AV) : hasOwn (.agg l) = hasOwn.hasOwnL l := (rfl)
theorem hasOwn_iface (t : TypeId) (x : AV) : hasOwn (.iface t x) = hasOwn x := (rfl)
theorem hasOwnL_nil : hasOwn.hasOwnL [] = false := (rfl)
theorem hasOwnL_cons (x : AV) (l : List AV) : hasOwn.hasOwnL (x :: l) = (hasOwn x || hasOwn.hasOwnL l) := (rfl)

/-! ### what is handed on, piece by piece -/

def sn (g : Bool) (h : Heap) (d : Nat) (x : AV) : Option AV := snap g h (d + 1) x
def snL (g : Bool) (h : Heap) (d : Nat) : List AV → Option (List AV)
  | [] => some []
  | x :: l => consK (sn g h d x) (snL g h d l)
theorem snL_eq (g : Bool) (h : Heap) (d : Nat) : ∀ l : List AV, l.mapM (snap g h (d + 1)) = snL g h d l
  | [] => rfl
  | x :: l => by
    rw [List.mapM_cons, snL_eq g h d l]
    show _ = consK (snap g h (d + 1) x) (snL g h d l)
    cases snap g h (d + 1) x with
    | none => rfl
    | some y => cases snL g h d l <;> rfl
theorem snap_sn (g : Bool) (h : Heap) (x : AV) : snap g h depth x = sn g h 8 x := (rfl)
theorem snL_nil (g : Bool) (h : Heap) (d : Nat) : snL g h d [] = some [] := (rfl)
theorem snL_cons (g : Bool) (h : Heap) (d : Nat) (x : AV) (l : List AV) : snL g h d (x :: l) = consK (sn g h d x) (snL g h d l) := (rfl)
theorem sn_int (g : Bool) (h : Heap) (d : Nat) (k : IntKind) (n : Int) : sn g h d (.int k n) = some (.int k n) := (rfl)
theorem sn_bool (g : Bool) (h : Heap) (d : Nat) (b : Bool) : sn g h d (.bool b) = some (.bool b) := (rfl)
theorem sn_str (g : Bool) (h : Heap) (d : Nat) (b : ByteArray) : sn g h d (.str b) = some (.str b) := (rfl)
theorem sn_nils (g : Bool) (h : Heap) (d : Nat) : sn g h d .nils = some .nils := (rfl)
theorem sn_rs (g : Bool) (h : Heap) (d : Nat) (g' : Bool) (sz : Nat) (l : List AV) : sn g h d (.rs g' sz l) = some (.rs g' sz l) := (rfl)
theorem sn_rp (g : Bool) (h : Heap) (d : Nat) (g' : Bool) (x : AV) : sn g h d (.rp g' x) = some (.rp g' x) := (rfl)
theorem sn_nilp (g : Bool) (h : Heap) (d : Nat) : sn g h d .nilp = some .nilp := (rfl)
theorem sn_nili (g : Bool) (h : Heap) (d : Nat) : sn g h d .nili = some .nili := (rfl)
theorem sn_nilf (g : Bool) (h : Heap) (d : Nat) : sn g h d .nilf = some .nilf := (rfl)
theorem sn_iface (g : Bool) (h : Heap) (d : Nat) (t : TypeId) (x : AV) : sn g h (d + 1) (.iface t x) = (sn g h d x).map (.iface t) := (rfl)
theorem sn_tup (g : Bool) (h : Heap) (d : Nat) (vs : List AV) : sn g h (d + 1) (.tup vs) = (snL g h d vs).map .tup := by rw [← snL_eq]; rfl
theorem sn_agg (g : Bool) (h : Heap) (d : Nat) (vs : List AV) : sn g h (d + 1) (.agg vs) = (snL g h d vs).map .agg := by rw [← snL_eq]; rfl
theorem sn_fn (g : Bool) (h : Heap) (d : Nat) (f : FuncId) (vs : List AV) : sn g h (d + 1) (.fn f vs) = (snL g h d vs).map (.fn f) := by rw [← snL_eq]; rfl
def snO (g : Bool) (h : Heap) (d sz l ver o n : Nat) (ob : Option AObj) : Option AV := sn g h d (.sl sz l ver o n)
theorem sn_sl (g : Bool) (h : Heap) (d sz l ver n : Nat) : sn g h (d + 1) (.sl sz l ver 0 n) = match h[l]? with
    | some (.row v z vs t) => if v = ver ∧ z = sz ∧ 0 < sz ∧ n * sz ≤ vs.length then ((snL g h d (vs.take (n * sz))).map fun ws => .rs g sz (group (sz != 1) sz n ws)) else snO g h (d + 1) sz l ver 0 n h[l]?
    | _ => snO g h (d + 1) sz l ver 0 n h[l]? := by
  split
  · rename_i v z vs t hl
    split
    · rename_i hc
      obtain ⟨rfl, rfl, h1, h2⟩ := hc
      show snap g h (d + 1 + 1) _ = _
      rw [snap_sl_eq, hl]
      simp only [objCells, hl, if_true, Option.bind_some, h1, Nat.zero_add, h2, and_self, List.drop_zero]
      rw [snL_eq]
    · rfl
  · rfl
/-- A row of the run's own, whole, told by its content. -/
def snR (g : Bool) (h : Heap) (d l ver n : Nat) (ob : Option AObj) : Option AV :=
  match ob with
  | some (.row v z vs _) => if v = ver ∧ z = 1 ∧ n ≤ vs.length ∧ (vs.take n).all plainB = true then some (.rs g 1 (vs.take n)) else sn g h d (.sl 1 l ver 0 n)
  | _ => sn g h d (.sl 1 l ver 0 n)
theorem sn_row (g : Bool) (h : Heap) (d l ver n : Nat) : sn g h (d + 1) (.sl 1 l ver 0 n) = snR g h (d + 1) l ver n h[l]? := by
  unfold snR
  split
  · rename_i v z vs t hl
    split
    · rename_i hc
      obtain ⟨rfl, rfl, h1, h2⟩ := hc
      have := snap_slD g h d l v 0 n vs t hl (by omega) (by rw [List.drop_zero]; exact h2)
      rw [List.drop_zero] at this
      exact this
    · rfl
  · rfl
def finR (h : Heap) (sz l ver n : Nat) (ob : Option AObj) : Option (AV × Heap) :=
  match ob with
  | some (.row v z vs t) => if v = ver ∧ z = sz ∧ vs.length = n * sz ∧ vs.all plainB = true then some (.sl sz 0 0 0 n, [.row 0 sz vs t]) else finish true (.sl sz l ver 0 n, h)
  | _ => finish true (.sl sz l ver 0 n, h)
theorem finish_row (h : Heap) (sz l ver n : Nat) : finish true (.sl sz l ver 0 n, h) = finR h sz l ver n h[l]? := by
  unfold finR
  split
  · rename_i v z vs t hl
    split
    · rename_i hc
      obtain ⟨rfl, rfl, h1, h2⟩ := hc
      exact finish_keep z l v n h vs t hl h1 h2
    · rfl
  · rfl
def finT (h : Heap) (sz l ver n : Nat) (y : AV) (ob : Option AObj) : Option (AV × Heap) :=
  match ob with
  | some (.row v z vs t) => if v = ver ∧ z = sz ∧ vs.length = n * sz ∧ vs.all plainB = true ∧ plainB y = true then some (.tup [.sl sz 0 0 0 n, y], [.row 0 sz vs t]) else finish true (.tup [.sl sz l ver 0 n, y], h)
  | _ => finish true (.tup [.sl sz l ver 0 n, y], h)
theorem finish_tupRow (h : Heap) (sz l ver n : Nat) (y : AV) : finish true (.tup [.sl sz l ver 0 n, y], h) = finT h sz l ver n y h[l]? := by
  unfold finT
  split
  · rename_i v z vs t hl
    split
    · rename_i hc
      obtain ⟨rfl, rfl, h1, h2, h3⟩ := hc
      simp only [finish, if_true, hl, h1, and_self, snapL_plain false _ _ h2, Option.bind_some]
      rw [snapL_plain false _ [y] (by simp [h3])]
      rfl
    · rfl
  · rfl
theorem finish_tupRs (g : Bool) (sz : Nat) (l : List AV) (vs : List AV) (h : Heap) : finish true (.tup (.rs g sz l :: vs), h) = finish false (.tup (.rs g sz l :: vs), h) := by simp [finish]
theorem finish_false (r : AV) (h : Heap) : finish false (r, h) = (sn false h 8 r).map fun r => (r, []) := by rw [finish_eq, snap_sn]
def appR (h : Heap) (sz by_ : Nat) (t : TypeId) (ys : List AV) (m l ver n : Nat) (ob : Option AObj) : Option (AV × Heap) :=
  match ob with
  | some (.row v z vs t') => if v = ver ∧ z = sz ∧ t' = t ∧ vs.length = n * sz ∧ (n + m) * by_ ≤ 140737488355328 ∧ n + m ≤ 140737488355328 ∧ ys.all storable = true then some (.sl sz l (ver + 1) 0 (n + m), h.set l (.row (ver + 1) sz (vs ++ ys) t)) else appK h sz by_ t ys m (.sl sz l ver 0 n)
  | _ => appK h sz by_ t ys m (.sl sz l ver 0 n)
theorem appK_row (h : Heap) (sz by_ : Nat) (t : TypeId) (ys : List AV) (m l ver n : Nat) : appK h sz by_ t ys m (.sl sz l ver 0 n) = appR h sz by_ t ys m l ver n h[l]? := by
  unfold appR
  split
  · rename_i v z vs t' hl
    split
    · rename_i hc
      obtain ⟨rfl, rfl, rfl, h1, h2, h3, h4⟩ := hc
      exact appK_sl h z by_ t' ys m l v n vs hl h1 h2 h3 h4
    · rfl
  · rfl
def cpR (h : Heap) (ys : List AV) (m l ver o n : Nat) (ob : Option AObj) : Option (AV × Heap) :=
  match ob with
  | some (.row v z vs t) => if v = ver ∧ z = 1 ∧ o + n ≤ vs.length ∧ ys.all storable = true ∧ ys.length = m ∧ m ≤ n then some (.int .i64 m, h.set l (.row ver 1 (vs.take o ++ ys ++ vs.drop (o + m)) t)) else copyK h 1 (some ys) (some m) (.sl 1 l ver o n)
  | some (.cells ag vs t) => if ver = 0 ∧ o + n ≤ vs.length ∧ ys.all storable = true ∧ ys.length = m ∧ m ≤ n then some (.int .i64 m, h.set l (.cells ag (vs.take o ++ ys ++ vs.drop (o + m)) t)) else copyK h 1 (some ys) (some m) (.sl 1 l ver o n)
  | _ => copyK h 1 (some ys) (some m) (.sl 1 l ver o n)
theorem copyK_r (h : Heap) (ys : List AV) (m l ver o n : Nat) : copyK h 1 (some ys) (some m) (.sl 1 l ver o n) = cpR h ys m l ver o n h[l]? := by
  unfold cpR
  split
  · rename_i v z vs t hl
    split
    · rename_i hc
      obtain ⟨rfl, rfl, h1, h2, h3, h4⟩ := hc
      exact copyK_row h l v o n m vs ys t hl h1 h2 h3 h4
    · rfl
  · rename_i ag vs t hl
    split
    · rename_i hc
      obtain ⟨rfl, h1, h2, h3, h4⟩ := hc
      have e1 : hasCells h l 0 (o + n) = true := by simp [hasCells, objCells, hl, h1]
      have e2 : min m n = m := Nat.min_eq_left h4
      have e3 : o + m ≤ vs.length := by omega
      simp only [copyK, Option.bind_some, Nat.mul_one, e1, e2, h2, and_self, if_true, storeAt, cellsOf, List.take_of_length_le (Nat.le_of_eq h3), h3, hl, e3, Option.map_some]
    · rfl
  · rfl
theorem cpR_cells (h : Heap) (ys : List AV) (m l o n : Nat) (ag : Bool) (vs : List AV) (t : TypeId) (hy : ys.all storable = true) (h1 : o + n ≤ vs.length) (h3 : ys.length = m) (h4 : m ≤ n) :
    cpR h ys m l 0 o n (some (.cells ag vs t)) = some (.int .i64 m, h.set l (.cells ag (vs.take o ++ ys ++ vs.drop (o + m)) t)) := by simp [cpR, hy, h1, h3, h4]
/-- A row of the run's own, whole, as cells. -/
def clR (h : Heap) (l ver n : Nat) (ob : Option AObj) : Option (List AV) :=
  match ob with
  | some (.row v _ vs _) => if v = ver ∧ vs.length = n then some vs else cellsIn h 1 (.sl 1 l ver 0 n)
  | _ => cellsIn h 1 (.sl 1 l ver 0 n)
theorem cellsIn_row (h : Heap) (l ver n : Nat) : cellsIn h 1 (.sl 1 l ver 0 n) = clR h l ver n h[l]? := by
  unfold clR
  split
  · rename_i v z vs t hl
    split
    · rename_i hc
      obtain ⟨rfl, rfl⟩ := hc
      simp only [cellsIn, objCells, hl, if_true, Option.bind_some, Nat.mul_one, Nat.zero_add, Nat.le_refl, List.drop_zero, List.take_length]
    · rfl
  · rfl
/-- One value read out of memory of the run's own. -/
def ldR (h : Heap) (l ver o : Nat) (ob : Option AObj) : Option (AV × Heap) :=
  match ob with
  | some (.row v _ vs _) => if v = ver ∧ o < vs.length then some (vs.getD o .undef, h) else loadK h false 1 (.ref l ver o)
  | some (.cells _ vs _) => if ver = 0 ∧ o < vs.length then some (vs.getD o .undef, h) else loadK h false 1 (.ref l ver o)
  | _ => loadK h false 1 (.ref l ver o)
theorem part_one {vs : List AV} {o : Nat} (ho : o < vs.length) : partA false o 1 vs = some (vs.getD o .undef) := by
  have e : (vs.drop o).take 1 = [vs[o]] := by
    rw [List.drop_eq_getElem_cons ho]
    rfl
  simp only [partA, show o + 1 ≤ vs.length from ho, if_true, e, ofCells, List.length_singleton, Bool.false_eq_true, if_false]
  rw [List.getD_eq_getElem?_getD, List.getElem?_eq_getElem ho]
  rfl
theorem loadK_one (h : Heap) (l ver o : Nat) : loadK h false 1 (.ref l ver o) = ldR h l ver o h[l]? := by
  unfold ldR
  split
  · rename_i v z vs t hl
    split
    · rename_i hc
      obtain ⟨rfl, ho⟩ := hc
      simp only [loadK_ref, objCells, hl, if_true, Option.bind_some, part_one ho, valK_some]
    · rfl
  · rename_i ag vs t hl
    split
    · rename_i hc
      obtain ⟨rfl, ho⟩ := hc
      simp only [loadK_ref, objCells, hl, if_true, Option.bind_some, part_one ho, valK_some]
    · rfl
  · rfl
theorem ldR_cells (h : Heap) (l o : Nat) (ag : Bool) (vs : List AV) (t : TypeId) (ho : o < vs.length) : ldR h l 0 o (some (.cells ag vs t)) = some (vs.getD o .undef, h) := by simp [ldR, ho]
theorem loadK_agg (h : Heap) (sz l ver o : Nat) : loadK h true sz (.ref l ver o) = valK h ((objCells h l ver).bind fun vs => partA true o sz vs) := (rfl)
/-- One value laid into a row. -/
def stR (h : Heap) (l ver o : Nat) (v : AV) (ob : Option AObj) : Option Heap :=
  match ob with
  | some (.row w 1 vs t) => if w = ver ∧ o < vs.length then some (h.set l (.row ver 1 (vs.set o v) t)) else storeAt h l ver o 1 v
  | some (.cells ag vs t) => if ver = 0 ∧ o < vs.length then some (h.set l (.cells ag (vs.set o v) t)) else storeAt h l ver o 1 v
  | _ => storeAt h l ver o 1 v
theorem store_one (h : Heap) (l ver o : Nat) (x : AV) (hx : storable x = true) (hc : cellsOf x = [x]) : storeAt h l ver o 1 x = stR h l ver o x h[l]? := by
  have key : ∀ vs : List AV, o < vs.length → vs.take o ++ x :: vs.drop (o + 1) = vs.set o x := fun vs ho => (List.set_eq_take_append_cons_drop.trans (by simp [ho])).symm
  unfold stR
  split
  · rename_i w vs t hl
    split
    · rename_i hcc
      obtain ⟨rfl, ho⟩ := hcc
      have e3 : o + 1 ≤ vs.length := by omega
      simp only [storeAt, hc, List.length_singleton, List.all_cons, List.all_nil, hx, Bool.and_self, and_self, if_true, hl, true_and, e3, List.append_assoc, List.singleton_append, key vs ho]
    · rfl
  · rename_i ag vs t hl
    split
    · rename_i hcc
      obtain ⟨rfl, ho⟩ := hcc
      have e3 : o + 1 ≤ vs.length := by omega
      simp only [storeAt, hc, List.length_singleton, List.all_cons, List.all_nil, hx, Bool.and_self, and_self, if_true, hl, true_and, e3, List.append_assoc, List.singleton_append, key vs ho]
    · rfl
  · rfl
theorem store_int (h : Heap) (l ver o : Nat) (k : IntKind) (n : Int) : storeAt h l ver o 1 (.int k n) = stR h l ver o (.int k n) h[l]? := store_one h l ver o _ rfl rfl
theorem store_bool (h : Heap) (l ver o : Nat) (b : Bool) : storeAt h l ver o 1 (.bool b) = stR h l ver o (.bool b) h[l]? := store_one h l ver o _ rfl rfl
theorem store_str (h : Heap) (l ver o : Nat) (b : ByteArray) : storeAt h l ver o 1 (.str b) = stR h l ver o (.str b) h[l]? := store_one h l ver o _ rfl rfl
theorem store_rs (h : Heap) (l ver o : Nat) (g : Bool) (sz : Nat) (x : List AV) : storeAt h l ver o 1 (.rs g sz x) = stR h l ver o (.rs g sz x) h[l]? := store_one h l ver o _ rfl rfl
theorem store_sl (h : Heap) (l ver o sz l' v' o' n : Nat) : storeAt h l ver o 1 (.sl sz l' v' o' n) = stR h l ver o (.sl sz l' v' o' n) h[l]? := store_one h l ver o _ rfl rfl
theorem store_iface (h : Heap) (l ver o : Nat) (t : TypeId) (x : AV) : storeAt h l ver o 1 (.iface t x) = stR h l ver o (.iface t x) h[l]? := store_one h l ver o _ rfl rfl
theorem store_nili (h : Heap) (l ver o : Nat) : storeAt h l ver o 1 .nili = stR h l ver o .nili h[l]? := store_one h l ver o _ rfl rfl
theorem stR_cells (h : Heap) (l o : Nat) (v : AV) (ag : Bool) (vs : List AV) (t : TypeId) (ho : o < vs.length) : stR h l 0 o v (some (.cells ag vs t)) = some (h.set l (.cells ag (vs.set o v) t)) := by simp [stR, ho]
/-- Many cells laid at once. -/
def stA (h : Heap) (l ver o sz : Nat) (cs : List AV) (ob : Option AObj) : Option Heap :=
  match ob with
  | some (.cells ag vs t) => if ver = 0 ∧ cs.length = sz ∧ cs.all storable = true ∧ o + sz ≤ vs.length then some (h.set l (.cells ag (vs.take o ++ cs ++ vs.drop (o + sz)) t)) else storeAt h l ver o sz (.agg cs)
  | _ => storeAt h l ver o sz (.agg cs)
theorem store_agg (h : Heap) (l ver o sz : Nat) (cs : List AV) : storeAt h l ver o sz (.agg cs) = stA h l ver o sz cs h[l]? := by
  unfold stA
  split
  · rename_i ag vs t hl
    split
    · rename_i hcc
      obtain ⟨rfl, h1, h2, h3⟩ := hcc
      simp only [storeAt, cellsOf, h1, h2, and_self, if_true, hl, h3]
    · rfl
  · rfl
theorem stA_cells (h : Heap) (l o sz : Nat) (cs : List AV) (ag : Bool) (vs : List AV) (t : TypeId) (h1 : cs.length = sz) (h2 : cs.all storable = true) (h3 : o + sz ≤ vs.length) : stA h l 0 o sz cs (some (.cells ag vs t)) = some (h.set l (.cells ag (vs.take o ++ cs ++ vs.drop (o + sz)) t)) := by simp [stA, h1, h2, h3]
theorem stA_whole (h : Heap) (l : Nat) (cs : List AV) (ag : Bool) (vs : List AV) (t : TypeId) (h1 : vs.length = cs.length) (h2 : cs.all storable = true) : stA h l 0 0 cs.length cs (some (.cells ag vs t)) = some (h.set l (.cells ag cs t)) := by
  simp [stA, h2, h1, List.drop_of_length_le (Nat.le_of_eq h1)]

/-! ### arrays -/

def sliceAK (h : Heap) (n sz : Nat) (x : AV) (lo hi : Option Int) : Option (AV × Heap) := lo.bind fun a => hi.bind fun b =>
    if 0 ≤ a ∧ a ≤ b ∧ b ≤ n then
      match x with
      | .ref l ver o => match h[l]? with
        | some (.cells _ _ _) => some (.sl sz l ver (o + a.toNat * sz) (b.toNat - a.toNat), h)
        | _ => none
      | .rp g (.agg cs) => if cs.length = n * sz then some (.rs g sz (group (sz != 1) sz (b.toNat - a.toNat) (cs.drop (a.toNat * sz))), h) else none
      | _ => none
    else none
theorem evI_sliceA (c : CallFn) (s : Slots) (h : Heap) (n sz : Nat) (x : X) (lo hi : Option X) : evI E c s h (.sliceA n sz x lo hi) = sliceAK h n sz (x.ev s) (bound (lo.map (X.ev s)) 0) (bound (hi.map (X.ev s)) n) := (rfl)
def slaR (h : Heap) (n sz l ver o : Nat) (a b : Int) (ob : Option AObj) : Option (AV × Heap) :=
  match ob with
  | some (.cells _ _ _) => if 0 ≤ a ∧ a ≤ b ∧ b ≤ n then some (.sl sz l ver (o + a.toNat * sz) (b.toNat - a.toNat), h) else none
  | _ => none
theorem sliceAK_ref (h : Heap) (n sz l ver o : Nat) (a b : Int) : sliceAK h n sz (.ref l ver o) (some a) (some b) = slaR h n sz l ver o a b h[l]? := by
  simp only [sliceAK, slaR, Option.bind_some]
  cases h[l]? with
  | none => split <;> rfl
  | some ob => cases ob <;> split <;> rfl
theorem slaR_cells (h : Heap) (n sz l ver o : Nat) (a b : Int) (ag : Bool) (vs : List AV) (t : TypeId) (h0 : 0 ≤ a) (h1 : a ≤ b) (h2 : b ≤ n) : slaR h n sz l ver o a b (some (.cells ag vs t)) = some (.sl sz l ver (o + a.toNat * sz) (b.toNat - a.toNat), h) := by simp [slaR, h0, h1, h2]
theorem sliceAK_rp (h : Heap) (n : Nat) (g : Bool) (cs : List AV) (hc : cs.length = n) (a b : Int) (h0 : 0 ≤ a) (h1 : a ≤ b) (h2 : b ≤ n) : sliceAK h n 1 (.rp g (.agg cs)) (some a) (some b) = some (.rs g 1 ((cs.drop a.toNat).take (b.toNat - a.toNat)), h) := by
  simp only [sliceAK, Option.bind_some, h0, h1, h2, and_self, if_true, hc, Nat.mul_one]
  show some (AV.rs g 1 (group false 1 _ _), h) = _
  rw [group_one _ _ (by rw [List.length_drop]; omega)]
def iaddrAK (h : Heap) (n sz : Nat) (ag : Bool) (x : AV) : AV → Option (AV × Heap)
  | .int _ i => if 0 ≤ i ∧ i < n then match x with
        | .ref l ver o => some (.ref l ver (o + i.toNat * sz), h)
        | .rp g (.agg cs) => if cs.length = n * sz then (partA ag (i.toNat * sz) sz cs).map fun v => (.rp g v, h) else none
        | _ => none
      else none
  | _ => none
theorem evI_iaddrA (c : CallFn) (s : Slots) (h : Heap) (n sz : Nat) (ag : Bool) (x i : X) : evI E c s h (.iaddrA n sz ag x i) = iaddrAK h n sz ag (x.ev s) (i.ev s) := by
  simp only [evI]
  cases i.ev s <;> rfl
theorem iaddrA_ref (h : Heap) (n sz : Nat) (ag : Bool) (l ver o : Nat) (k : IntKind) (i : Int) (h0 : 0 ≤ i) (h1 : i < n) : iaddrAK h n sz ag (.ref l ver o) (.int k i) = some (.ref l ver (o + i.toNat * sz), h) := by simp [iaddrAK, h0, h1]
theorem iaddrA_rp (h : Heap) (n : Nat) (g : Bool) (cs : List AV) (hc : cs.length = n) (k : IntKind) (i : Int) (h0 : 0 ≤ i) (h1 : i < n) : iaddrAK h n 1 false (.rp g (.agg cs)) (.int k i) = some (.rp g (cs.getD i.toNat .undef), h) := by
  simp only [iaddrAK, h0, h1, and_self, if_true, hc, Nat.mul_one, part_one (show i.toNat < cs.length by omega), Option.map_some]
def indexK (h : Heap) (n sz : Nat) (ag : Bool) (x : AV) : AV → Option (AV × Heap)
  | .int _ i => if 0 ≤ i ∧ i < n then match x with
        | .agg cs => (partA ag (i.toNat * sz) sz cs).map (·, h)
        | _ => none
      else none
  | _ => none
theorem evI_index (c : CallFn) (s : Slots) (h : Heap) (n sz : Nat) (ag : Bool) (x i : X) : evI E c s h (.index n sz ag x i) = indexK h n sz ag (x.ev s) (i.ev s) := by
  simp only [evI]
  cases i.ev s <;> rfl
theorem indexK_agg (h : Heap) (n : Nat) (cs : List AV) (hc : cs.length = n) (k : IntKind) (i : Int) (h0 : 0 ≤ i) (h1 : i < n) : indexK h n 1 false (.agg cs) (.int k i) = some (cs.getD i.toNat .undef, h) := by
  simp only [indexK, h0, h1, and_self, if_true, Nat.mul_one, part_one (show i.toNat < cs.length by omega), Option.map_some]
def lenSK (h : Heap) : AV → Option (AV × Heap)
  | .str b => some (.int .i64 b.size, h)
  | _ => none
theorem evI_lenS (c : CallFn) (s : Slots) (h : Heap) (x : X) : evI E c s h (.lenS x) = lenSK h (x.ev s) := by simp only [evI]; cases x.ev s <;> rfl
theorem lenSK_str (h : Heap) (b : ByteArray) : lenSK h (.str b) = some (.int .i64 b.size, h) := (rfl)
theorem evI_callV (s : Slots) (h : Heap) (ro : Bool) (x : X) (args : List X) (f : FuncId) (cap : List AV) (hx : x.ev s = .fn f cap) : evI E (call E) s h (.callV ro x args) = callK E ro h f (hasOwn.hasOwnL (args.map (X.ev s) ++ cap)) (snapL true h (args.map (X.ev s) ++ cap)) := by
  simp only [evI, hx, doCall, callK, retK, pcall]
noncomputable def callVK (E : Env) (ro : Bool) (h : Heap) (vals : List AV) : AV → Option (AV × Heap)
  | .fn f cap => callK E ro h f (hasOwn.hasOwnL (vals ++ cap)) (snapL true h (vals ++ cap))
  | _ => none
theorem evI_callVK (s : Slots) (h : Heap) (ro : Bool) (x : X) (args : List X) : evI E (call E) s h (.callV ro x args) = callVK E ro h (args.map (X.ev s)) (x.ev s) := by
  simp only [evI]
  cases x.ev s <;> simp only [callVK, doCall, callK, retK, pcall]
theorem callVK_fn (ro : Bool) (h : Heap) (vals : List AV) (f : FuncId) (cap : List AV) : callVK E ro h vals (.fn f cap) = callK E ro h f (hasOwn.hasOwnL (vals ++ cap)) (snapL true h (vals ++ cap)) := (rfl)

section
include hf
theorem Flat.snR (g : Bool) (h : Heap) (d l ver n : Nat) (vs : List α) (t : TypeId) (hn : vs.length = n) : Fw.snR g h d l ver n (some (.row ver 1 (vs.map enc) t)) = some (.rs g 1 (vs.map enc)) := by
  have e : (vs.map enc).take n = vs.map enc := List.take_of_length_le (by simp [hn])
  simp only [Fw.snR, e, hf.all_pl, List.length_map, hn, Nat.le_refl, and_self, if_true]
theorem Flat.finR (h : Heap) (l ver n : Nat) (vs : List α) (t : TypeId) (hn : vs.length = n) : Fw.finR h 1 l ver n (some (.row ver 1 (vs.map enc) t)) = some (.sl 1 0 0 0 n, [.row 0 1 (vs.map enc) t]) := by
  simp only [Fw.finR, hf.all_pl, List.length_map, hn, Nat.mul_one, and_self, if_true]
theorem Flat.finT (h : Heap) (l ver n : Nat) (vs : List α) (t : TypeId) (y : AV) (hn : vs.length = n) (hy : plainB y = true) : Fw.finT h 1 l ver n y (some (.row ver 1 (vs.map enc) t)) = some (.tup [.sl 1 0 0 0 n, y], [.row 0 1 (vs.map enc) t]) := by
  simp only [Fw.finT, hf.all_pl, List.length_map, hn, Nat.mul_one, and_self, if_true, hy]
theorem Flat.appR (h : Heap) (by_ : Nat) (t : TypeId) (l ver n m : Nat) (vs ys : List α) (hn : vs.length = n) (h1 : (n + m) * by_ ≤ 140737488355328) (h2 : n + m ≤ 140737488355328) :
    Fw.appR h 1 by_ t (ys.map enc) m l ver n (some (.row ver 1 (vs.map enc) t)) = some (.sl 1 l (ver + 1) 0 (n + m), h.set l (.row (ver + 1) 1 ((vs ++ ys).map enc) t)) := by
  simp only [Fw.appR, hf.all_st, List.length_map, hn, Nat.mul_one, and_self, if_true, h1, h2, List.map_append]
theorem Flat.cpR (h : Heap) (l ver o n m : Nat) (vs ys : List α) (t : TypeId) (h1 : o + n ≤ vs.length) (h3 : ys.length = m) (h4 : m ≤ n) :
    Fw.cpR h (ys.map enc) m l ver o n (some (.row ver 1 (vs.map enc) t)) = some (.int .i64 m, h.set l (.row ver 1 ((vs.take o ++ ys ++ vs.drop (o + m)).map enc) t)) := by
  simp only [Fw.cpR, hf.all_st, List.length_map, h1, h3, h4, and_self, if_true, List.map_append, List.map_take, List.map_drop]
theorem Flat.ldR [Inhabited α] (h : Heap) (l ver o : Nat) (vs : List α) (t : TypeId) (ho : o < vs.length) : Fw.ldR h l ver o (some (.row ver 1 (vs.map enc) t)) = some (enc (nth vs o), h) := by
  simp only [Fw.ldR, List.length_map, ho, and_self, if_true, nth_get vs o ho]
  rw [List.getD_eq_getElem?_getD, List.getElem?_map, List.getElem?_eq_getElem ho]
  rfl
theorem Flat.stR (h : Heap) (l ver o : Nat) (vs : List α) (v : α) (t : TypeId) (ho : o < vs.length) : Fw.stR h l ver o (enc v) (some (.row ver 1 (vs.map enc) t)) = some (h.set l (.row ver 1 ((vs.set o v).map enc) t)) := by
  simp only [Fw.stR, List.length_map, ho, and_self, if_true, List.map_set]
end

/-! ### strings out of bytes, the least and the greatest, rows cut short -/

def toStrK (h : Heap) (cs : Option (List AV)) (n : Option Nat) : Option (AV × Heap) := cs.bind fun cs => n.bind fun _ => (u8sV cs).map fun ns => (.str (strOfL ns), h)
theorem evI_toStr (c : CallFn) (s : Slots) (h : Heap) (x : X) : evI E c s h (.toStr x) = toStrK h (cellsIn h 1 (x.ev s)) (lenIn (x.ev s)) := (rfl)
theorem evI_mm (c : CallFn) (s : Slots) (h : Heap) (mx : Bool) (xs : List X) : evI E c s h (.mm mx xs) = valK h (mmV mx (xs.map (X.ev s))) := (rfl)
theorem mmV_2 (mx : Bool) (k k' : IntKind) (a b : Int) : mmV mx [.int k a, .int k' b] = some (.int k (mm2 mx a b)) := (rfl)
theorem mmV_3 (mx : Bool) (k k' k'' : IntKind) (a b c : Int) : mmV mx [.int k a, .int k' b, .int k'' c] = some (.int k (mm2 mx (mm2 mx a b) c)) := (rfl)
theorem mm2_min (a b : Int) : mm2 false a b = min a b := by
  show (if b < a then b else a) = _
  rw [Int.min_def]
  split <;> split <;> omega
theorem mm2_max (a b : Int) : mm2 true a b = max a b := by
  show (if b > a then b else a) = _
  rw [Int.max_def]
  split <;> split <;> omega
def capK (h : Heap) : AV → Option (AV × Heap)
  | .nils => some (.int .i64 0, h)
  | _ => none
theorem evI_capNil (c : CallFn) (s : Slots) (h : Heap) (x : X) : evI E c s h (.capNil x) = capK h (x.ev s) := by simp only [evI]; cases x.ev s <;> rfl
theorem capK_nils (h : Heap) : capK h .nils = some (.int .i64 0, h) := (rfl)
def truncK (h : Heap) (sz : Nat) (x : AV) : AV → Option (AV × Heap)
  | .int _ n => truncV h sz n x
  | _ => none
theorem evI_trunc (c : CallFn) (s : Slots) (h : Heap) (sz : Nat) (x hi : X) : evI E c s h (.trunc sz x hi) = truncK h sz (x.ev s) (hi.ev s) := by simp only [evI]; cases hi.ev s <;> rfl
theorem truncK_int (h : Heap) (sz : Nat) (x : AV) (k : IntKind) (n : Int) : truncK h sz x (.int k n) = truncV h sz n x := (rfl)
theorem truncV_nils (h : Heap) (sz : Nat) : truncV h sz 0 .nils = some (.nils, h) := by simp [truncV]
def trR (h : Heap) (sz : Nat) (n : Int) (l ver m : Nat) (ob : Option AObj) : Option (AV × Heap) :=
  match ob with
  | some (.row v z vs t) => if v = ver ∧ z = sz ∧ vs.length = m * sz ∧ 0 ≤ n ∧ n ≤ m then some (.sl sz l (ver + 1) 0 n.toNat, h.set l (.row (ver + 1) sz (vs.take (n.toNat * sz)) t)) else truncV h sz n (.sl sz l ver 0 m)
  | _ => truncV h sz n (.sl sz l ver 0 m)
theorem truncV_row (h : Heap) (sz : Nat) (n : Int) (l ver m : Nat) : truncV h sz n (.sl sz l ver 0 m) = trR h sz n l ver m h[l]? := by
  unfold trR
  split
  · rename_i v z vs t hl
    split
    · rename_i hc
      obtain ⟨rfl, rfl, h1, h2, h3⟩ := hc
      simp only [truncV, hl, h1, h2, h3, and_self, if_true]
    · rfl
  · rfl

/-! ### nil pointers and interfaces, slices as arrays, rows that are only read from now on, noughts, calls with the caller's memory -/

theorem evI_eqNl (c : CallFn) (s : Slots) (h : Heap) (ifc neg : Bool) (x : X) : evI E c s h (.eqNl ifc neg x) = valK h ((isNl ifc (x.ev s)).map fun b => .bool (if neg then !b else b)) := by
  simp only [evI, valK]
  cases isNl ifc (x.ev s) <;> rfl
def nilChkK (h : Heap) : AV → Option (AV × Heap)
  | .rp g y => some (.rp g y, h)
  | .ref l ver o => some (.ref l ver o, h)
  | _ => none
theorem evI_nilChk (c : CallFn) (s : Slots) (h : Heap) (x : X) : evI E c s h (.nilChk x) = nilChkK h (x.ev s) := by
  simp only [evI]
  cases x.ev s <;> rfl
theorem nilChkK_rp (h : Heap) (g : Bool) (y : AV) : nilChkK h (.rp g y) = some (.rp g y, h) := (rfl)
theorem nilChkK_ref (h : Heap) (l ver o : Nat) : nilChkK h (.ref l ver o) = some (.ref l ver o, h) := (rfl)
def s2aK (h : Heap) (n sz : Nat) : AV → Option (AV × Heap)
  | .rs g z l => if z = sz ∧ 0 < n ∧ n ≤ l.length ∧ ((l.take n).flatMap cellsOf).all storable then some (.rp g (.agg ((l.take n).flatMap cellsOf)), h) else none
  | _ => none
theorem evI_s2a (c : CallFn) (s : Slots) (h : Heap) (n sz : Nat) (x : X) : evI E c s h (.s2a n sz x) = s2aK h n sz (x.ev s) := by
  simp only [evI]
  cases x.ev s <;> rfl
theorem evI_frz (c : CallFn) (s : Slots) (h : Heap) (x : X) : evI E c s h (.frz x) = frzV h (x.ev s) := (rfl)
def frR (h : Heap) (l ver n : Nat) (ob : Option AObj) : Option (AV × Heap) :=
  match ob with
  | some (.row v z vs t) => if v = ver ∧ z = 1 ∧ 0 < n ∧ vs.length = n ∧ vs.all plainB = true then some (.rs false 1 vs, h.set l .gone) else frzV h (.sl 1 l ver 0 n)
  | _ => frzV h (.sl 1 l ver 0 n)
theorem frzV_row (h : Heap) (l ver n : Nat) : frzV h (.sl 1 l ver 0 n) = frR h l ver n h[l]? := by
  unfold frR
  split
  · rename_i v z vs t hl
    split
    · rename_i hc
      obtain ⟨rfl, rfl, h1, h2, h3⟩ := hc
      simp only [frzV, hl, h1, h2, h3, and_self, if_true]
    · rfl
  · rfl
def appMkK (h : Heap) (sz by_ : Nat) (t : TypeId) (zero : List AV) (x : AV) : AV → Option (AV × Heap)
  | .int _ n => appMkV h sz by_ t zero n x
  | _ => none
theorem evI_appMk (c : CallFn) (s : Slots) (h : Heap) (sz by_ : Nat) (t : TypeId) (zero : List AV) (x n : X) : evI E c s h (.appMk sz by_ t zero x n) = appMkK h sz by_ t zero (x.ev s) (n.ev s) := by
  simp only [evI]
  cases n.ev s <;> rfl
theorem appMkK_int (h : Heap) (sz by_ : Nat) (t : TypeId) (zero : List AV) (x : AV) (k : IntKind) (n : Int) : appMkK h sz by_ t zero x (.int k n) = appMkV h sz by_ t zero n x := (rfl)
def amR (h : Heap) (sz by_ : Nat) (t : TypeId) (zero : List AV) (n : Int) (l ver m : Nat) (ob : Option AObj) : Option (AV × Heap) :=
  match ob with
  | some (.row v z vs t') => if v = ver ∧ z = sz ∧ t' = t ∧ vs.length = m * sz ∧ 0 ≤ n ∧ (m + n.toNat) * by_ ≤ 140737488355328 ∧ m + n.toNat ≤ 140737488355328 then some (.sl sz l (ver + 1) 0 (m + n.toNat), h.set l (.row (ver + 1) sz (vs ++ (List.replicate n.toNat zero).flatten) t)) else appMkV h sz by_ t zero n (.sl sz l ver 0 m)
  | _ => appMkV h sz by_ t zero n (.sl sz l ver 0 m)
theorem appMkV_row (h : Heap) (sz by_ : Nat) (t : TypeId) (zero : List AV) (n : Int) (l ver m : Nat) : appMkV h sz by_ t zero n (.sl sz l ver 0 m) = amR h sz by_ t zero n l ver m h[l]? := by
  unfold amR
  split
  · rename_i v z vs t' hl
    split
    · rename_i hc
      obtain ⟨rfl, rfl, rfl, h1, h2, h3, h4⟩ := hc
      simp only [appMkV, hl, h1, h2, h3, h4, and_self, if_true]
    · rfl
  · rfl
/-- A call that works with the caller's memory. -/
noncomputable def hcall (E : Env) (f : FuncId) (vals : List AV) (h : Heap) : Option (AV × Heap) := doCallM E (call E) h f vals
theorem evI_callM (s : Slots) (h : Heap) (f : FuncId) (args : List X) : evI E (call E) s h (.callM f args) = hcall E f (args.map (X.ev s)) h := (rfl)
theorem hcall_go {f : FuncId} {fn : Fn_} (hp : E.prim f = none) (hf : E.fns f = some fn) {args : List AV} (hl : args.length = fn.nparams) (h : Heap) (hm : E.primM f = none := by rfl) : hcall E f args h = outR fn.results (ev E fn.body ⟨enumFrom 0 args, h⟩) := by
  unfold hcall doCallM
  rw [hp, hm]
  simp only [call_eq, hf, if_pos hl]
  rfl
theorem hcall_prim {f : FuncId} {p : List AV → Heap → Option (AV × Heap)} (hp : E.prim f = none) (hm : E.primM f = some p) (args : List AV) (h : Heap) : hcall E f args h = p args h := by
  unfold hcall doCallM
  rw [hp, hm]
noncomputable def callPK (E : Env) (h : Heap) (f : FuncId) (own : Bool) (vs : Option (List AV)) : Option (AV × Heap) := if own = true then none else (vs.bind fun vs => retK true [] false (pcall E f vs)).map fun r => (r.1, h)
theorem evI_callP (s : Slots) (h : Heap) (f : FuncId) (args : List X) : evI E (call E) s h (.callP f args) = callPK E h f (hasOwn.hasOwnL (args.map (X.ev s))) (snapL true [] (args.map (X.ev s))) := by
  simp only [evI, doCallP, callPK]
  cases ho : hasOwn.hasOwnL (args.map (X.ev s)) with
  | true => rfl
  | false =>
    simp only [doCall, ho, retK, pcall, Bool.false_eq_true, if_false, Option.map_map, Function.comp_def]
theorem callPK_some (h : Heap) (f : FuncId) (vs : List AV) : callPK E h f false (some vs) = (retK true [] false (pcall E f vs)).map fun r => (r.1, h) := (rfl)
def appF2K (h : Heap) (sz by_ : Nat) (t : TypeId) (ys : Option (List AV)) (m : Option Nat) (x : AV) : Option (AV × Heap) := ys.bind fun ys => m.bind fun m => appFV h sz by_ t ys m x
theorem evI_appF (c : CallFn) (s : Slots) (h : Heap) (sz by_ : Nat) (t : TypeId) (x y : X) : evI E c s h (.appF sz by_ t x y) = appF2K h sz by_ t (cellsIn h sz (y.ev s)) (lenIn (y.ev s)) (x.ev s) := (rfl)
theorem appF2K_some (h : Heap) (sz by_ : Nat) (t : TypeId) (ys : List AV) (m : Nat) (x : AV) : appF2K h sz by_ t (some ys) (some m) x = appFV h sz by_ t ys m x := (rfl)
/-- The commonest operations, in short. -/
def oM (d t : Nat) : IO_ := ⟨some d, none, .mov (.t t)⟩
def oL (d t : Nat) : IO_ := ⟨some d, none, .load false 1 (.t t)⟩
def oF (d o t : Nat) : IO_ := ⟨some d, none, .faddr false o 1 (.t t)⟩
def oE (d t i : Nat) : IO_ := ⟨some d, none, .ext (.t t) i⟩
def oT (d a b : Nat) : IO_ := ⟨some d, none, .pick (.t a) (.c (.bool true)) (.t b)⟩
def oN (d a b : Nat) : IO_ := ⟨some d, none, .pick (.t a) (.t b) (.c (.bool false))⟩
def oS (z a b : Nat) : IO_ := ⟨none, none, .store z (.t a) (.t b)⟩
def gM (d g : Nat) (w : Bool) (t : Nat) : IO_ := ⟨some d, some (g, w), .mov (.t t)⟩
def gL (d g : Nat) (w : Bool) (t : Nat) : IO_ := ⟨some d, some (g, w), .load false 1 (.t t)⟩
def gF (d g : Nat) (w : Bool) (o t : Nat) : IO_ := ⟨some d, some (g, w), .faddr false o 1 (.t t)⟩
theorem oS_eq (z a b : Nat) : oS z a b = ⟨none, none, .store z (.t a) (.t b)⟩ := (rfl)
theorem gM_eq (d g : Nat) (w : Bool) (t : Nat) : gM d g w t = ⟨some d, some (g, w), .mov (.t t)⟩ := (rfl)
theorem gL_eq (d g : Nat) (w : Bool) (t : Nat) : gL d g w t = ⟨some d, some (g, w), .load false 1 (.t t)⟩ := (rfl)
theorem gF_eq (d g : Nat) (w : Bool) (o t : Nat) : gF d g w o t = ⟨some d, some (g, w), .faddr false o 1 (.t t)⟩ := (rfl)
theorem oM_eq (d t : Nat) : oM d t = ⟨some d, none, .mov (.t t)⟩ := (rfl)
theorem oL_eq (d t : Nat) : oL d t = ⟨some d, none, .load false 1 (.t t)⟩ := (rfl)
theorem oF_eq (d o t : Nat) : oF d o t = ⟨some d, none, .faddr false o 1 (.t t)⟩ := (rfl)
theorem oE_eq (d t i : Nat) : oE d t i = ⟨some d, none, .ext (.t t) i⟩ := (rfl)
theorem oT_eq (d a b : Nat) : oT d a b = ⟨some d, none, .pick (.t a) (.c (.bool true)) (.t b)⟩ := (rfl)
theorem oN_eq (d a b : Nat) : oN d a b = ⟨some d, none, .pick (.t a) (.t b) (.c (.bool false))⟩ := (rfl)
def fldK (h : Heap) (q : Option (Bool × Nat × Nat)) : AV → Option (AV × Heap)
  | .ref l ver o => match q with
    | some q => loadK h q.1 q.2.2 (.ref l ver (o + q.2.1))
    | none => none
  | _ => none
theorem evI_callQ (c : CallFn) (s : Slots) (h : Heap) (f : FuncId) (x : X) : evI E c s h (.callQ f x) = fldK h (E.rd f) (x.ev s) := by
  simp only [evI]
  cases x.ev s <;> try rfl
  rename_i l ver o
  cases E.rd f with
  | none => rfl
  | some q =>
    simp only [fldK, fldQ, loadK_ref, valK]
theorem evI_callA (c : CallFn) (s : Slots) (h : Heap) (f : FuncId) (x : X) : evI E c s h (.callA f x) = mkK h (E.mkr f) (x.ev s) := (rfl)
theorem fldK_ref (h : Heap) (ag : Bool) (off sz l ver o : Nat) : fldK h (some (ag, off, sz)) (.ref l ver o) = loadK h ag sz (.ref l ver (o + off)) := (rfl)
def loadSK (h : Heap) (k : Nat) (ag : Bool) (sz : Nat) : AV → Option (AV × Heap)
  | .ref l ver o => if l = k then loadK h ag sz (.ref l ver o) else none
  | _ => none
theorem evI_loadS (c : CallFn) (s : Slots) (h : Heap) (k : Nat) (ag : Bool) (sz : Nat) (a : X) : evI E c s h (.loadS k ag sz a) = loadSK h k ag sz (a.ev s) := by
  simp only [evI]
  cases a.ev s <;> try rfl
  rename_i l ver o
  simp only [loadSK, loadK_ref, valK]
  split
  · cases objCells h l ver with
    | none => rfl
    | some vs => cases hp : partA ag o sz vs <;> simp [hp]
  all_goals rfl
theorem loadSK_ref (h : Heap) (k : Nat) (ag : Bool) (sz ver o : Nat) : loadSK h k ag sz (.ref k ver o) = loadK h ag sz (.ref k ver o) := by simp [loadSK]
def storeSK (h : Heap) (k : Nat) (sz : Nat) (v : AV) : AV → Option (AV × Heap)
  | .ref l ver o => if l = k then (storeAt h l ver o sz v).map fun h' => (.undef, h') else none
  | _ => none
theorem evI_storeS (c : CallFn) (s : Slots) (h : Heap) (k sz : Nat) (a v : X) : evI E c s h (.storeS k sz a v) = storeSK h k sz (v.ev s) (a.ev s) := by simp only [evI]; cases a.ev s <;> rfl
theorem storeSK_ref (h : Heap) (k sz : Nat) (v : AV) (ver o : Nat) : storeSK h k sz v (.ref k ver o) = (storeAt h k ver o sz v).map fun h' => (.undef, h') := by simp [storeSK]
def lenRK (h : Heap) : AV → Option (AV × Heap)
  | .rs _ _ l => some (.int .i64 (l.length : Int), h)
  | _ => none
theorem evI_lenR (c : CallFn) (s : Slots) (h : Heap) (x : X) : evI E c s h (.lenR x) = lenRK h (x.ev s) := by
  simp only [evI]
  cases x.ev s <;> rfl
theorem lenRK_rs (h : Heap) (g : Bool) (sz : Nat) (l : List AV) : lenRK h (.rs g sz l) = some (.int .i64 (l.length : Int), h) := (rfl)
def sliceARK (h : Heap) (n sz : Nat) (lo hi : Option Int) : AV → Option (AV × Heap)
  | .rp g (.agg cs) => sliceAK h n sz (.rp g (.agg cs)) lo hi
  | _ => none
theorem evI_sliceAR (c : CallFn) (s : Slots) (h : Heap) (n sz : Nat) (x : X) (lo hi : Option X) : evI E c s h (.sliceAR n sz x lo hi) = sliceARK h n sz (bound (lo.map (X.ev s)) 0) (bound (hi.map (X.ev s)) n) (x.ev s) := by
  simp only [evI]
  unfold sliceARK
  split
  · rename_i g cs hx
    rw [hx]
    rfl
  · rename_i hx
    split
    · rename_i g cs hy
      exact absurd hy (hx g cs)
    · rfl
theorem sliceARK_rp (h : Heap) (n sz : Nat) (lo hi : Option Int) (g : Bool) (cs : List AV) : sliceARK h n sz lo hi (.rp g (.agg cs)) = sliceAK h n sz (.rp g (.agg cs)) lo hi := (rfl)
theorem evI_buildE (c : CallFn) (s : Slots) (h : Heap) : evI E c s h .buildE = some (.rs false 0 [], h) := (rfl)
theorem evI_appE (c : CallFn) (s : Slots) (h : Heap) (sz by_ : Nat) (x y : X) : evI E c s h (.appE sz by_ x y) = valK h (appEV sz by_ (x.ev s) (y.ev s)) := by
  show (appEV sz by_ (x.ev s) (y.ev s)).map _ = _
  cases appEV sz by_ (x.ev s) (y.ev s) <;> rfl
theorem appEV_es (sz by_ : Nat) (g : Bool) (y : AV) : appEV sz by_ (.rs g 0 []) y = appE2 sz by_ y := (rfl)
theorem appE2_of (sz by_ : Nat) (g : Bool) (l : List AV) (h1 : l.length * by_ ≤ 140737488355328) (h2 : l.length ≤ 140737488355328) (h3 : (l.flatMap cellsOf).all storable = true) : appE2 sz by_ (.rs g sz l) = some (.rs false sz l) := by
  simp only [appE2, h1, h2, h3, and_self, if_true]
def afR (h : Heap) (sz by_ : Nat) (t : TypeId) (ys : List AV) (m l ver n : Nat) (ob : Option AObj) : Option (AV × Heap) :=
  match ob with
  | some (.row v z vs t') => if v = ver ∧ z = sz ∧ t' = t ∧ vs.length = n * sz ∧ ys.length = m * sz ∧ (n + m) * by_ ≤ 140737488355328 ∧ n + m ≤ 140737488355328 ∧ vs.all plainB = true ∧ ys.all plainB = true then some (.rs false sz (group (sz != 1) sz (n + m) (vs ++ ys)), h.set l .gone) else appFV h sz by_ t ys m (.sl sz l ver 0 n)
  | _ => appFV h sz by_ t ys m (.sl sz l ver 0 n)
theorem appFV_row (h : Heap) (sz by_ : Nat) (t : TypeId) (ys : List AV) (m l ver n : Nat) : appFV h sz by_ t ys m (.sl sz l ver 0 n) = afR h sz by_ t ys m l ver n h[l]? := by
  unfold afR
  split
  · rename_i v z vs t' hl
    split
    · rename_i hc
      obtain ⟨rfl, rfl, rfl, h1, h2, h3, h4, h5, h6⟩ := hc
      simp only [appFV, hl, h1, h2, h3, h4, h5, h6, and_self, if_true]
    · rfl
  · rfl
theorem cellsIn_cons (h : Heap) (sz : Nat) (g : Bool) (x : AV) (l : List AV) : cellsIn h sz (.rs g sz (x :: l)) = some ((x :: l).flatMap cellsOf) := by simp only [cellsIn, if_true]
theorem cellsIn_nil (h : Heap) (sz : Nat) (g : Bool) : cellsIn h sz (.rs g sz []) = some [] := by simp only [cellsIn, if_true, List.flatMap_nil]
attribute [go_sem] cellsIn_cons cellsIn_nil
/-- A variable of the run's own, told by its content. -/
def snF (g : Bool) (h : Heap) (d : Nat) : Option AObj → Option AV
  | some (.cells ag vs _) => (snL g h d vs).bind fun ws => (ofCells ag ws.length ws).map (.rp g)
  | _ => none
theorem snap_ref_eq (g : Bool) (h : Heap) (d l ver o : Nat) : snap g h (d + 1) (.ref l ver o) = (match h[l]? with
      | some (.cells ag vs _) =>
        if ver = 0 ∧ o = 0 then
          (vs.mapM (snap g h d)).bind fun ws => (ofCells ag ws.length ws).map (.rp g)
        else none
      | _ => none) := (rfl)
theorem sn_ref (g : Bool) (h : Heap) (d l : Nat) : sn g h (d + 1) (.ref l 0 0) = snF g h d h[l]? := by
  show snap g h (d + 1 + 1) (.ref l 0 0) = _
  rw [snap_ref_eq]
  unfold snF
  cases h[l]? with
  | none => rfl
  | some ob =>
    cases ob with
    | gone => rfl
    | hole => rfl
    | map kk es => rfl
    | row v z vs t => rfl
    | cells ag vs t =>
      simp only [and_self, if_true]
      rw [snL_eq]
theorem snF_cells (g : Bool) (h : Heap) (d : Nat) (ag : Bool) (vs : List AV) (t : TypeId) : snF g h d (some (.cells ag vs t)) = (snL g h d vs).bind fun ws => (ofCells ag ws.length ws).map (.rp g) := (rfl)
/-- A call in a region whose order is open. -/
theorem retK_ro (h : Heap) (own : Bool) (r : AV) (o : AObj) (objs : Heap) : retK true h own (some (r, o :: objs)) = if (own && !(noG r && (o :: objs).all objNoG)) = true then none else (sn false (o :: objs) 8 r).map fun v => (v, h) := by
  rw [retK_some]
  simp only [if_true, snap_sn]
theorem noG_sl (sz l v o n : Nat) : noG (.sl sz l v o n) = true := (rfl)
theorem noG_int (k : IntKind) (n : Int) : noG (.int k n) = true := (rfl)
theorem noG_bool (b : Bool) : noG (.bool b) = true := (rfl)
theorem noG_str (b : ByteArray) : noG (.str b) = true := (rfl)
theorem noG_nili : noG .nili = true := (rfl)
theorem noG_tup (l : List AV) : noG (.tup l) = noG.noGL l := (rfl)
theorem noG_agg (l : List AV) : noG (.agg l) = noG.noGL l := (rfl)
theorem noG_rs (g : Bool) (sz : Nat) (l : List AV) : noG (.rs g sz l) = (!g && noG.noGL l) := (rfl)
theorem noG_rp (g : Bool) (x : AV) : noG (.rp g x) = (!g && noG x) := (rfl)
theorem noG_iface (t : TypeId) (x : AV) : noG (.iface t x) = noG x := (rfl)
theorem objNoG_row (v sz : Nat) (l : List AV) (t : TypeId) : objNoG (.row v sz l t) = noG.noGL l := (rfl)
theorem objNoG_cells (ag : Bool) (l : List AV) (t : TypeId) : objNoG (.cells ag l t) = noG.noGL l := (rfl)
theorem hasOwn_fn (f : FuncId) (l : List AV) : hasOwn (.fn f l) = hasOwn.hasOwnL l := (rfl)
theorem hasOwn_ref (l v o : Nat) : hasOwn (.ref l v o) = true := (rfl)
theorem hasOwn_sl (sz l v o n : Nat) : hasOwn (.sl sz l v o n) = true := (rfl)
theorem hasOwn_nils : hasOwn .nils = false := (rfl)
theorem hasOwn_tup (l : List AV) : hasOwn (.tup l) = hasOwn.hasOwnL l := (rfl)
attribute [go_sem] sn_ref snF_cells retK_ro noG_sl noG_int noG_bool noG_str noG_nili noG_tup noG_agg noG_rs noG_rp noG_iface objNoG_row objNoG_cells hasOwn_fn hasOwn_ref hasOwn_sl hasOwn_nils hasOwn_tup
theorem drop_nth {α : Type} [Inhabited α] (l : List α) (i : Nat) (h : i < l.length) : l.drop i = nth l i :: l.drop (i + 1) := by
  rw [List.drop_eq_getElem_cons h, nth_get l i h]
/-! ### what asks for more -/

def sliceRK (h : Heap) (sz : Nat) (lo hi : Option AV) : AV → Option (AV × Heap)
  | .rs g z l => sliceK h sz (.rs g z l) (some l.length) lo hi
  | _ => none
theorem evI_sliceR (c : CallFn) (s : Slots) (h : Heap) (sz : Nat) (x : X) (lo hi : Option X) : evI E c s h (.sliceR sz x lo hi) = sliceRK h sz (lo.map (X.ev s)) (hi.map (X.ev s)) (x.ev s) := by
  simp only [evI]
  cases x.ev s <;> rfl
theorem sliceRK_rs (h : Heap) (sz : Nat) (lo hi : Option AV) (g : Bool) (z : Nat) (l : List AV) : sliceRK h sz lo hi (.rs g z l) = sliceK h sz (.rs g z l) (some l.length) lo hi := (rfl)
def iaddrRK (h : Heap) (sz : Nat) (i : AV) : AV → Option (AV × Heap)
  | .rs g z l => iaddrK h sz (.rs g z l) i
  | _ => none
theorem evI_iaddrR (c : CallFn) (s : Slots) (h : Heap) (sz : Nat) (x i : X) : evI E c s h (.iaddrR sz x i) = iaddrRK h sz (i.ev s) (x.ev s) := by
  simp only [evI]
  cases i.ev s <;> cases x.ev s <;> rfl
theorem iaddrRK_rs (h : Heap) (sz : Nat) (i : AV) (g : Bool) (z : Nat) (l : List AV) : iaddrRK h sz i (.rs g z l) = iaddrK h sz (.rs g z l) i := (rfl)
def loadRK (h : Heap) (ag : Bool) (sz : Nat) : AV → Option (AV × Heap)
  | .rp g x => loadK h ag sz (.rp g x)
  | _ => none
theorem evI_loadR (c : CallFn) (s : Slots) (h : Heap) (ag : Bool) (sz : Nat) (a : X) : evI E c s h (.loadR ag sz a) = loadRK h ag sz (a.ev s) := by
  simp only [evI]
  cases a.ev s <;> rfl
theorem loadRK_rp (h : Heap) (ag : Bool) (sz : Nat) (g : Bool) (x : AV) : loadRK h ag sz (.rp g x) = loadK h ag sz (.rp g x) := (rfl)
def ldC (h : Heap) (ag : Bool) (sz o : Nat) : Option AObj → Option (AV × Heap)
  | some (.cells _ vs _) => valK h (partA ag o sz vs)
  | _ => none
def loadCK (h : Heap) (ag : Bool) (sz : Nat) : AV → Option (AV × Heap)
  | .rp g x => loadK h ag sz (.rp g x)
  | .ref l ver o => if ver = 0 then ldC h ag sz o h[l]? else none
  | _ => none
theorem evI_loadC (c : CallFn) (s : Slots) (h : Heap) (ag : Bool) (sz : Nat) (a : X) : evI E c s h (.loadC ag sz a) = loadCK h ag sz (a.ev s) := by
  simp only [evI]
  cases a.ev s <;> rfl
theorem loadCK_rp (h : Heap) (ag : Bool) (sz : Nat) (g : Bool) (x : AV) : loadCK h ag sz (.rp g x) = loadK h ag sz (.rp g x) := (rfl)
theorem loadCK_ref (h : Heap) (ag : Bool) (sz l o : Nat) : loadCK h ag sz (.ref l 0 o) = ldC h ag sz o h[l]? := (rfl)
theorem ldC_cells (h : Heap) (ag : Bool) (sz o : Nat) (b : Bool) (vs : List AV) (t : TypeId) : ldC h ag sz o (some (.cells b vs t)) = valK h (partA ag o sz vs) := (rfl)
attribute [go_sem] retK_n plainN_rs plainN_rp plainN_int plainN_bool plainN_str plainN_nilp plainN_nili plainN_nils plainN_iface aggN_agg aggN_rs aggN_rp aggN_int aggN_bool aggN_str aggN_nilp aggN_nili aggN_nils aggN_iface tupN_tup tupN_agg tupN_rs tupN_rp tupN_int tupN_bool tupN_str tupN_nilp tupN_nili tupN_nils tupN_iface plainB_rp plainB_int plainG_rp plainG_iface_rp plainG_iface_int aggG_rp tupG_rp evI_sliceR sliceRK_rs evI_iaddrR iaddrRK_rs evI_loadR loadRK_rp evI_loadC loadCK_rp loadCK_ref ldC_cells
theorem isNl_nili : isNl true .nili = some true := (rfl)
theorem isNl_iface (t : TypeId) (x : AV) : isNl true (.iface t x) = some false := (rfl)
theorem isNl_nilp : isNl false .nilp = some true := (rfl)
theorem isNl_rp (g : Bool) (x : AV) : isNl false (.rp g x) = some false := (rfl)
theorem isNl_ref (l ver o : Nat) : isNl false (.ref l ver o) = some false := (rfl)
attribute [go_sem] evI_callA evI_callQ fldK_ref oS_eq gM_eq gL_eq gF_eq oM_eq oL_eq oF_eq oE_eq oT_eq oN_eq evI_loadS loadSK_ref evI_storeS storeSK_ref evI_lenR lenRK_rs evI_sliceAR sliceARK_rp evI_buildE evI_appE appEV_es evI_appF appF2K_some appFV_row evI_eqNl evI_nilChk nilChkK_rp nilChkK_ref evI_s2a evI_frz frzV_row evI_appMk appMkK_int appMkV_row evI_callM isNl_nili isNl_iface isNl_nilp isNl_rp isNl_ref

/-! ### rows of records -/

/-- Records of so many cells that hold nothing else. -/
structure FlatN {α : Type} (sz : Nat) (enc : α → List AV) : Prop where
  len : ∀ a, (enc a).length = sz
  st : ∀ a, (enc a).all storable = true
  pl : ∀ a, (enc a).all plainB = true
  ng : ∀ a, noG.noGL (enc a) = true
  two : 2 ≤ sz

section
variable {α : Type} {sz : Nat} {enc : α → List AV}
/-- The cells of a row of records. -/
def rcs (enc : α → List AV) (l : List α) : List AV := l.flatMap enc
/-- Records that are only read. -/
abbrev recs (g : Bool) (sz : Nat) (enc : α → List AV) (l : List α) : AV := .rs g sz (l.map fun a => .agg (enc a))
theorem rcs_nil : rcs enc [] = [] := rfl
theorem rcs_append (l m : List α) : rcs enc (l ++ m) = rcs enc l ++ rcs enc m := List.flatMap_append
theorem rcs_one (a : α) : rcs enc [a] = enc a := by simp [rcs]
theorem noGL_append (l m : List AV) : noG.noGL (l ++ m) = (noG.noGL l && noG.noGL m) := by
  induction l with
  | nil => rfl
  | cons x l ih => show (noG x && noG.noGL (l ++ m)) = ((noG x && noG.noGL l) && noG.noGL m); rw [ih, Bool.and_assoc]
variable (hN : FlatN sz enc)
include hN
theorem FlatN.rlen (l : List α) : (rcs enc l).length = l.length * sz := by
  induction l with
  | nil => simp [rcs]
  | cons a l ih =>
    have : rcs enc (a :: l) = enc a ++ rcs enc l := rfl
    rw [this, List.length_append, hN.len, ih, List.length_cons, Nat.succ_mul, Nat.add_comm]
theorem FlatN.rst (l : List α) : (rcs enc l).all storable = true := by
  induction l with
  | nil => rfl
  | cons a l ih =>
    have : rcs enc (a :: l) = enc a ++ rcs enc l := rfl
    rw [this, List.all_append, hN.st, ih]
    rfl
theorem FlatN.rpl (l : List α) : (rcs enc l).all plainB = true := by
  induction l with
  | nil => rfl
  | cons a l ih =>
    have : rcs enc (a :: l) = enc a ++ rcs enc l := rfl
    rw [this, List.all_append, hN.pl, ih]
    rfl
theorem FlatN.rng (l : List α) : noG.noGL (rcs enc l) = true := by
  induction l with
  | nil => rfl
  | cons a l ih =>
    have : rcs enc (a :: l) = enc a ++ rcs enc l := rfl
    rw [this, noGL_append, hN.ng, ih]
    rfl
theorem FlatN.cells (l : List α) : (l.map fun a => AV.agg (enc a)).flatMap cellsOf = rcs enc l := by
  induction l with
  | nil => rfl
  | cons a l ih =>
    show enc a ++ (l.map fun a => AV.agg (enc a)).flatMap cellsOf = enc a ++ rcs enc l
    rw [ih]
theorem FlatN.cellsIn (h : Heap) (g : Bool) (l : List α) : Fw.cellsIn h sz (recs g sz enc l) = some (rcs enc l) := by
  simp only [Fw.cellsIn, if_true, hN.cells]
theorem FlatN.group (l : List α) : group (sz != 1) sz l.length (rcs enc l) = l.map fun a => AV.agg (enc a) := by
  have hz : (sz != 1) = true := by
    have := hN.two
    simp
    omega
  induction l with
  | nil => rfl
  | cons a l ih =>
    have : rcs enc (a :: l) = enc a ++ rcs enc l := rfl
    rw [this]
    simp only [List.length_cons, Fw.group, hz, if_true, List.map_cons]
    have e1 : (enc a ++ rcs enc l).take sz = enc a := by rw [← hN.len a]; exact List.take_left
    have e2 : (enc a ++ rcs enc l).drop sz = rcs enc l := by rw [← hN.len a]; exact List.drop_left
    rw [e1, e2]
    rw [hz] at ih
    rw [ih]
theorem FlatN.noGL (l : List α) : noG.noGL (l.map fun a => AV.agg (enc a)) = true := noGL_map (fun a => AV.agg (enc a)) (fun a => hN.ng a) l
theorem FlatN.shape (a : α) : shapeOk true sz (.agg (enc a)) = true := by
  simp only [shapeOk, hN.len, hN.st, beq_self_eq_true, Bool.and_self]
theorem FlatN.app (h : Heap) (by_ : Nat) (t : TypeId) (l ver n m : Nat) (vs ys : List α) (hn : vs.length = n) (h1 : (n + m) * by_ ≤ 140737488355328) (h2 : n + m ≤ 140737488355328) :
    appR h sz by_ t (rcs enc ys) m l ver n (some (.row ver sz (rcs enc vs) t)) = some (.sl sz l (ver + 1) 0 (n + m), h.set l (.row (ver + 1) sz (rcs enc (vs ++ ys)) t)) := by
  simp only [appR, hN.rlen, hn, h1, h2, hN.rst, and_self, if_true, rcs_append]
theorem FlatN.app1 (h : Heap) (by_ : Nat) (t : TypeId) (l ver n : Nat) (vs : List α) (y : α) (hn : vs.length = n) (h1 : (n + 1) * by_ ≤ 140737488355328) (h2 : n + 1 ≤ 140737488355328) :
    appR h sz by_ t (enc y) 1 l ver n (some (.row ver sz (rcs enc vs) t)) = some (.sl sz l (ver + 1) 0 (n + 1), h.set l (.row (ver + 1) sz (rcs enc (vs ++ [y])) t)) := by
  have := hN.app h by_ t l ver n 1 vs [y] hn h1 h2
  rwa [rcs_one] at this
theorem FlatN.app0 (h : Heap) (by_ : Nat) (t : TypeId) (l ver m : Nat) (ys : List α) (h1 : m * by_ ≤ 140737488355328) (h2 : m ≤ 140737488355328) (hm : ys.length = m) :
    appR h sz by_ t (rcs enc ys) m l ver 0 (some (.row ver sz [] t)) = some (.sl sz l (ver + 1) 0 m, h.set l (.row (ver + 1) sz (rcs enc ys) t)) := by
  have := hN.app h by_ t l ver 0 m [] ys rfl (by rw [Nat.zero_add]; exact h1) (by omega)
  simpa [rcs_nil] using this
theorem FlatN.sn (g : Bool) (h : Heap) (d l ver n : Nat) (vs : List α) (t : TypeId) (hl : h[l]? = some (.row ver sz (rcs enc vs) t)) (hn : vs.length = n) : Fw.sn g h (d + 1) (.sl sz l ver 0 n) = some (recs g sz enc vs) := by
  subst hn
  have h1 : 0 < sz := by have := hN.two; omega
  rw [sn_sl, hl]
  have hle : vs.length * sz ≤ (rcs enc vs).length := by rw [hN.rlen]; exact Nat.le_refl _
  simp only [h1, hle, and_self, if_true]
  rw [List.take_of_length_le (by rw [hN.rlen]; exact Nat.le_refl _)]
  have hsn : snL g h d (rcs enc vs) = some (rcs enc vs) := by rw [← snL_eq]; exact mapM_plain g h d _ (hN.rpl vs)
  rw [hsn, Option.map_some, hN.group]
theorem FlatN.iaddr [Inhabited α] (h : Heap) (g : Bool) (l : List α) (k : IntKind) (i : Int) (h0 : 0 ≤ i) (h1 : i < l.length) : iaddrK h sz (recs g sz enc l) (.int k i) = some (.rp g (.agg (enc (nth l i.toNat))), h) := iaddr_map (fun a => AV.agg (enc a)) h sz g l k i h0 h1
theorem FlatN.load (h : Heap) (g : Bool) (a : α) : loadK h true sz (.rp g (.agg (enc a))) = some (.agg (enc a), h) := by
  rw [loadK_rp, hN.shape]
  rfl
end

/-! ### numbers within their bounds -/

theorem w64 {n : Int} (h1 : -9223372036854775808 ≤ n) (h2 : n ≤ 9223372036854775807) : IntKind.i64.wrap n = n := by
  simp [IntKind.wrap, IntKind.signed, IntKind.bits]
  omega
theorem wu64 {n : Int} (h1 : 0 ≤ n) (h2 : n < 18446744073709551616) : IntKind.u64.wrap n = n := by
  simp [IntKind.wrap, IntKind.signed, IntKind.bits]
  omega
theorem wu32 {n : Int} (h1 : 0 ≤ n) (h2 : n < 4294967296) : IntKind.u32.wrap n = n := by
  simp [IntKind.wrap, IntKind.signed, IntKind.bits]
  omega
theorem wu16 {n : Int} (h1 : 0 ≤ n) (h2 : n < 65536) : IntKind.u16.wrap n = n := by
  simp [IntKind.wrap, IntKind.signed, IntKind.bits]
  omega
/-! ### a range over a function -/
noncomputable def rgs (E : Env) (ps : List Nat) (assign body : C) (s0 : Slots) (items : List (List PE)) (h : Heap) : Out := evRange (fun y => andThenN (ev E assign y) (ev E body)) s0 ps items h
theorem rgs_nil (ps : List Nat) (assign body : C) (s0 : Slots) (h : Heap) : rgs E ps assign body s0 [] h = some (.norm, ⟨s0, h⟩) := (rfl)
theorem rgs_cons (ps : List Nat) (assign body : C) (s0 : Slots) (it : List PE) (its : List (List PE)) (h : Heap) (hl : it.length = ps.length) (hw : it.all PE.wf = true) : rgs E ps assign body s0 (it :: its) h = roundEnd its.isEmpty s0 h (rgs E ps assign body s0 its) (andThenN (ev E assign ⟨putAll ps it s0, h⟩) (ev E body)) := by
  show (if it.length = ps.length ∧ it.all PE.wf = true then _ else _) = _
  rw [if_pos ⟨hl, hw⟩]
  rfl
noncomputable def rngQ (E : Env) (ps : List Nat) (assign body : C) (s : Slots) (h : Heap) : Option (List (List PE)) → Out
  | some items => rgs E ps assign body s items h
  | none => none
noncomputable def rngF (E : Env) (ps : List Nat) (assign body : C) (s : Slots) (h : Heap) (cap : List AV) : Option (List AV → Heap → Option (List (List PE))) → Out
  | some q => rngQ E ps assign body s h (q cap h)
  | none => none
noncomputable def rngK (E : Env) (ps : List Nat) (assign body : C) (s : Slots) (h : Heap) : AV → Out
  | .fn f cap => rngF E ps assign body s h cap (E.seq f)
  | _ => none
theorem ev_rangeFK (g : X) (ps : List Nat) (assign body : C) (s : Slots) (h : Heap) : ev E (.rangeF g ps assign body) ⟨s, h⟩ = rngK E ps assign body s h (g.ev s) := by
  rw [ev_rangeF]
  unfold rngK
  cases g.ev s <;> first | rfl | skip
  rename_i f cap
  simp only [rngF]
  cases E.seq f with
  | none => rfl
  | some q =>
    simp only [rangeK, rngQ]
    cases q cap h <;> rfl
theorem rngK_fn (ps : List Nat) (assign body : C) (s : Slots) (h : Heap) (f : FuncId) (cap : List AV) : rngK E ps assign body s h (.fn f cap) = rngF E ps assign body s h cap (E.seq f) := (rfl)
theorem rngF_some (ps : List Nat) (assign body : C) (s : Slots) (h : Heap) (cap : List AV) (q : List AV → Heap → Option (List (List PE))) : rngF E ps assign body s h cap (some q) = rngQ E ps assign body s h (q cap h) := (rfl)
theorem rngQ_some (ps : List Nat) (assign body : C) (s : Slots) (h : Heap) (items : List (List PE)) : rngQ E ps assign body s h (some items) = rgs E ps assign body s items h := (rfl)
theorem roundEnd_norm (last : Bool) (s0 : Slots) (h : Heap) (k : Heap → Out) (s : Slots) (h' : Heap) : roundEnd last s0 h k (some (.norm, ⟨s, h'⟩)) = (backE last h h').bind k := (rfl)
theorem roundEnd_exit (last : Bool) (s0 : Slots) (h : Heap) (k : Heap → Out) (id : Nat) (s : Slots) (h' : Heap) : roundEnd last s0 h k (some (.exit id, ⟨s, h'⟩)) = (backTo h h').map fun h' => (.exit id, ⟨s0, h'⟩) := (rfl)
theorem roundEnd_ret (last : Bool) (s0 : Slots) (h : Heap) (k : Heap → Out) (s : Slots) (h' : Heap) : roundEnd last s0 h k (some (.ret, ⟨s, h'⟩)) = (backTo h h').map fun h' => (.ret, ⟨s0, h'⟩) := (rfl)
theorem backE_last (h h' : Heap) : backE true h h' = some h' := (rfl)
theorem backE_not (h h' : Heap) : backE false h h' = backTo h h' := (rfl)
theorem backTo_eq (h h' : Heap) : backTo h h' = if (sameHL h (h'.take h.length) && (h'.take h.length).all (objRefOk h.length)) = true then some (h'.take h.length) else none := (rfl)
theorem roundEnd_ite (last : Bool) (s0 : Slots) (h : Heap) (k : Heap → Out) (c : Prop) [Decidable c] (a b : Out) : roundEnd last s0 h k (if c then a else b) = if c then roundEnd last s0 h k a else roundEnd last s0 h k b := by split <;> rfl
theorem andThenN_norm (x : St) (k : St → Out) : andThenN (some (.norm, x)) k = k x := (rfl)
theorem putAll_nil (s : Slots) : putAll [] [] s = s := (rfl)
theorem putAll_cons (p : Nat) (ps : List Nat) (e : PE) (es : List PE) (s : Slots) : putAll (p :: ps) (e :: es) s = putAll ps es ((p, e.av) :: s) := (rfl)
theorem sameHL_nil : sameHL [] [] = true := (rfl)
theorem sameHL_cons (a b : AObj) (l m : Heap) : sameHL (a :: l) (b :: m) = (sameK a b && sameHL l m) := (rfl)
theorem sameK_cells (a b : Bool) (l m : List AV) (t u : TypeId) : sameK (.cells a l t) (.cells b m u) = true := (rfl)
theorem sameK_row (v w a b : Nat) (l m : List AV) (t u : TypeId) : sameK (.row v a l t) (.row w b m u) = (v == w) := (rfl)
theorem sameK_map (k k' : Kk) (e e' : Ents) : sameK (.map k e) (.map k' e') = true := (rfl)
theorem sameHL_self : ∀ (h : Heap), (∀ o ∈ h, sameK o o = true) → sameHL h h = true
  | [], _ => rfl
  | a :: l, hs => by
    rw [sameHL_cons, hs a (by simp), sameHL_self l fun o ho => hs o (by simp [ho])]
    rfl
attribute [go_sem] backE_last backE_not List.isEmpty_cons List.isEmpty_nil backTo_eq objRefOk refOk refOk.refOkL rgs_nil ev_rangeFK rngK_fn rngF_some rngQ_some roundEnd_norm roundEnd_exit roundEnd_ret roundEnd_ite andThenN_norm putAll_nil putAll_cons sameHL_nil sameHL_cons sameK_cells sameK_row sameK_map
/-! ### maps -/
theorem store_mp (h : Heap) (l ver o m : Nat) : storeAt h l ver o 1 (.mp m) = stR h l ver o (.mp m) h[l]? := store_one h l ver o _ rfl rfl
theorem store_nilm (h : Heap) (l ver o : Nat) : storeAt h l ver o 1 .nilm = stR h l ver o .nilm h[l]? := store_one h l ver o _ rfl rfl
theorem store_rm (h : Heap) (l ver o : Nat) (g : Bool) (kk : Kk) (es : Ents) : storeAt h l ver o 1 (.rm g kk es) = stR h l ver o (.rm g kk es) h[l]? := store_one h l ver o _ rfl rfl
def enR (kk : Kk) : Option AObj → Option Ents
  | some (.map q es) => if q = kk then some es else none
  | _ => none
theorem entsOf_nilm (h : Heap) (kk : Kk) : entsOf h kk .nilm = some [] := (rfl)
theorem entsOf_rm (h : Heap) (g : Bool) (kk : Kk) (es : Ents) : entsOf h kk (.rm g kk es) = some es := by simp [entsOf]
theorem entsOf_mp (h : Heap) (kk : Kk) (l : Nat) : entsOf h kk (.mp l) = enR kk h[l]? := by
  simp only [entsOf]
  cases h[l]? with
  | none => rfl
  | some ob => cases ob <;> rfl
theorem enR_map (kk : Kk) (es : Ents) : enR kk (some (.map kk es)) = some es := by simp [enR]
def lookK (h : Heap) (ok : Bool) (kk : Kk) (zero : PE) (es : Option Ents) (k : Option PV) : Option (AV × Heap) := es.bind fun es => k.bind fun k' =>
    if kk.has k' = true then some (if ok then .tup [((mget k' es).getD zero).av, .bool (mget k' es).isSome] else ((mget k' es).getD zero).av, h) else none
theorem evI_look (c : CallFn) (s : Slots) (h : Heap) (ok : Bool) (kk : Kk) (zero : PE) (m k : X) : evI E c s h (.look ok kk zero m k) = lookK h ok kk zero (entsOf h kk (m.ev s)) (avP (k.ev s)) := (rfl)
theorem lookK_t (h : Heap) (kk : Kk) (zero : PE) (es : Ents) (k : PV) : lookK h true kk zero (some es) (some k) = if kk.has k = true then some (.tup [((mget k es).getD zero).av, .bool (mget k es).isSome], h) else none := (rfl)
theorem lookK_f (h : Heap) (kk : Kk) (zero : PE) (es : Ents) (k : PV) : lookK h false kk zero (some es) (some k) = if kk.has k = true then some (((mget k es).getD zero).av, h) else none := (rfl)
theorem avP_int (k : IntKind) (n : Int) : avP (.int k n) = some (.i k n) := (rfl)
theorem avP_bool (b : Bool) : avP (.bool b) = some (.b b) := (rfl)
theorem avP_str (b : ByteArray) : avP (.str b) = some (.s b.data.toList) := (rfl)
theorem has_str (x : List UInt8) : Kk.str.has (.s x) = decide (x.length ≤ maxLen) := (rfl)
theorem has_int (q : IntKind) (n : Int) : (Kk.int q).has (.i q n) = (Lit.int q n).wf := by simp [Kk.has]
def mupK (h : Heap) (kk : Kk) (m : AV) (k : Option PV) (v : Option PE) : Option (AV × Heap) := match m, k, v with
    | .mp l, some k', some v' => match h[l]? with
      | some (.map q es) => if q = kk ∧ kk.has k' = true ∧ es.length ≤ 1048576 then some (.undef, h.set l (.map kk (mputE k' v' es))) else none
      | _ => none
    | _, _, _ => none
theorem evI_mapUpd (c : CallFn) (s : Slots) (h : Heap) (kk : Kk) (m k v : X) : evI E c s h (.mapUpd kk m k v) = mupK h kk (m.ev s) (avP (k.ev s)) (avE (v.ev s)) := (rfl)
def mupR (h : Heap) (kk : Kk) (l : Nat) (k : PV) (v : PE) : Option AObj → Option (AV × Heap)
  | some (.map q es) => if q = kk ∧ kk.has k = true ∧ es.length ≤ 1048576 then some (.undef, h.set l (.map kk (mputE k v es))) else none
  | _ => none
theorem mupK_mp (h : Heap) (kk : Kk) (l : Nat) (k : PV) (v : PE) : mupK h kk (.mp l) (some k) (some v) = mupR h kk l k v h[l]? := by
  simp only [mupK]
  cases h[l]? with
  | none => rfl
  | some ob => cases ob <;> rfl
theorem mupR_map (h : Heap) (kk : Kk) (l : Nat) (k : PV) (v : PE) (es : Ents) : mupR h kk l k v (some (.map kk es)) = if kk.has k = true ∧ es.length ≤ 1048576 then some (.undef, h.set l (.map kk (mputE k v es))) else none := by simp [mupR]
theorem avE_int (k : IntKind) (n : Int) : avE (.int k n) = some ⟨false, [.i k n]⟩ := (rfl)
theorem avE_bool (b : Bool) : avE (.bool b) = some ⟨false, [.b b]⟩ := (rfl)
theorem avE_str (b : ByteArray) : avE (.str b) = some ⟨false, [.s b.data.toList]⟩ := (rfl)
def consP (p : Option PV) (l : Option (List PV)) : Option (List PV) := match p, l with
  | some p, some l => some (p :: l)
  | _, _ => none
def avPs : List AV → Option (List PV)
  | [] => some []
  | x :: l => consP (avP x) (avPs l)
theorem avPs_eq : ∀ l : List AV, l.mapM avP = avPs l
  | [] => rfl
  | x :: l => by
    rw [List.mapM_cons, avPs_eq l]
    show _ = consP (avP x) (avPs l)
    cases avP x <;> cases avPs l <;> rfl
theorem avPs_nil : avPs [] = some [] := (rfl)
theorem avPs_cons (x : AV) (l : List AV) : avPs (x :: l) = consP (avP x) (avPs l) := (rfl)
theorem consP_some (p : PV) (l : List PV) : consP (some p) (some l) = some (p :: l) := (rfl)
theorem avE_agg (cs : List AV) : avE (.agg cs) = (avPs cs).map (PE.mk true) := by
  show (cs.mapM avP).map _ = _
  rw [avPs_eq]
def mdelK (h : Heap) (kk : Kk) (m : AV) (k : Option PV) : Option (AV × Heap) := match m, k with
    | .nilm, some k' => if kk.has k' = true then some (.tup [], h) else none
    | .mp l, some k' => match h[l]? with
      | some (.map q es) => if q = kk ∧ kk.has k' = true then some (.tup [], h.set l (.map kk (mdelE k' es))) else none
      | _ => none
    | _, _ => none
theorem evI_mdel (c : CallFn) (s : Slots) (h : Heap) (kk : Kk) (m k : X) : evI E c s h (.mdel kk m k) = mdelK h kk (m.ev s) (avP (k.ev s)) := (rfl)
def mdelR (h : Heap) (kk : Kk) (l : Nat) (k : PV) : Option AObj → Option (AV × Heap)
  | some (.map q es) => if q = kk ∧ kk.has k = true then some (.tup [], h.set l (.map kk (mdelE k es))) else none
  | _ => none
theorem mdelK_mp (h : Heap) (kk : Kk) (l : Nat) (k : PV) : mdelK h kk (.mp l) (some k) = mdelR h kk l k h[l]? := by
  simp only [mdelK]
  cases h[l]? with
  | none => rfl
  | some ob => cases ob <;> rfl
theorem mdelR_map (h : Heap) (kk : Kk) (l : Nat) (k : PV) (es : Ents) : mdelR h kk l k (some (.map kk es)) = if kk.has k = true then some (.tup [], h.set l (.map kk (mdelE k es))) else none := by simp [mdelR]
def mlenK (h : Heap) (es : Option Ents) : Option (AV × Heap) := es.map fun es => (AV.int .i64 (es.length : Int), h)
theorem evI_mlen (c : CallFn) (s : Slots) (h : Heap) (kk : Kk) (m : X) : evI E c s h (.mlen kk m) = mlenK h (entsOf h kk (m.ev s)) := (rfl)
theorem mlenK_some (h : Heap) (es : Ents) : mlenK h (some es) = some (AV.int .i64 (es.length : Int), h) := (rfl)
theorem evI_mkMap (c : CallFn) (s : Slots) (h : Heap) (kk : Kk) : evI E c s h (.mkMap kk) = some (.mp h.length, h ++ [.map kk []]) := (rfl)
theorem evI_eqNlm (c : CallFn) (s : Slots) (h : Heap) (neg : Bool) (m : X) : evI E c s h (.eqNlm neg m) = valK h ((nilMapV h (m.ev s)).map fun b => .bool (if neg then !b else b)) := by
  simp only [evI, valK, Option.map_map]; rfl
def nlmR : Option AObj → Option Bool
  | some (.map _ _) => some false
  | _ => none
theorem nilMapV_nilm (h : Heap) : nilMapV h .nilm = some true := (rfl)
theorem nilMapV_rm (h : Heap) (g : Bool) (kk : Kk) (es : Ents) : nilMapV h (.rm g kk es) = some false := (rfl)
theorem nilMapV_mp (h : Heap) (l : Nat) : nilMapV h (.mp l) = nlmR h[l]? := by
  simp only [nilMapV]
  cases h[l]? with
  | none => rfl
  | some ob => cases ob <;> rfl
theorem nlmR_map (kk : Kk) (es : Ents) : nlmR (some (.map kk es)) = some false := (rfl)
def snM (g : Bool) : Option AObj → Option AV
  | some (.map kk es) => some (.rm g kk es)
  | _ => none
theorem sn_mp (g : Bool) (h : Heap) (d l : Nat) : sn g h d (.mp l) = snM g h[l]? := by
  show snap g h (d + 1) (.mp l) = _
  simp only [snap]
  cases h[l]? with
  | none => rfl
  | some ob => cases ob <;> rfl
theorem snM_map (g : Bool) (kk : Kk) (es : Ents) : snM g (some (.map kk es)) = some (.rm g kk es) := (rfl)
theorem sn_nilm (g : Bool) (h : Heap) (d : Nat) : sn g h d .nilm = some .nilm := (rfl)
theorem sn_rm (g : Bool) (h : Heap) (d : Nat) (g' : Bool) (kk : Kk) (es : Ents) : sn g h d (.rm g' kk es) = some (.rm g' kk es) := (rfl)
theorem hasOwn_mp (l : Nat) : hasOwn (.mp l) = true := (rfl)
theorem hasOwn_nilm : hasOwn .nilm = false := (rfl)
theorem hasOwn_rm (g : Bool) (kk : Kk) (es : Ents) : hasOwn (.rm g kk es) = false := (rfl)
theorem plainG_nilm : plainG .nilm = true := (rfl)
theorem plainG_rm (kk : Kk) (es : Ents) : plainG (.rm false kk es) = true := (rfl)
theorem plainN_nilm : plainN .nilm = true := (rfl)
theorem plainN_rm (g : Bool) (kk : Kk) (es : Ents) : plainN (.rm g kk es) = true := (rfl)
theorem aggN_nilm : aggN .nilm = true := (rfl)
theorem aggN_rm (g : Bool) (kk : Kk) (es : Ents) : aggN (.rm g kk es) = true := (rfl)
theorem tupN_rm (g : Bool) (kk : Kk) (es : Ents) : tupN (.rm g kk es) = true := (rfl)
attribute [go_sem] store_mp store_nilm store_rm entsOf_nilm entsOf_rm entsOf_mp enR_map evI_look lookK_t lookK_f avP_int avP_bool avP_str has_str has_int evI_mapUpd mupK_mp mupR_map avE_int avE_bool avE_str avE_agg avPs_nil avPs_cons consP_some evI_mdel mdelK_mp mdelR_map evI_mlen mlenK_some evI_mkMap evI_eqNlm nilMapV_nilm nilMapV_rm nilMapV_mp nlmR_map sn_mp snM_map sn_nilm sn_rm hasOwn_mp hasOwn_nilm hasOwn_rm plainG_nilm plainG_rm plainN_nilm plainN_rm aggN_nilm aggN_rm tupN_rm PE.av PV.av Option.getD_some Option.getD_none Option.isSome_none
theorem wu8 {n : Int} (h1 : 0 ≤ n) (h2 : n < 256) : IntKind.u8.wrap n = n := by
  simp [IntKind.wrap, IntKind.signed, IntKind.bits]
  omega
attribute [go_sem] cpR_cells store_bool store_str store_rs store_sl store_iface store_nili stR_cells store_agg stA_cells evI_sliceA sliceAK_ref slaR_cells sliceAK_rp evI_iaddrA iaddrA_ref iaddrA_rp evI_index indexK_agg evI_lenS lenSK_str evI_callVK callVK_fn evI_toStr evI_mm mmV_2 mmV_3 mm2_min mm2_max evI_capNil capK_nils evI_trunc truncK_int truncV_nils truncV_row if_true if_false ite_true ite_false dite_true ite_self and_true true_and and_false false_and or_true true_or or_false false_or and_self or_self not_true not_false_eq_true Bool.not_true Bool.not_false Bool.and_true Bool.true_and Bool.and_false Bool.false_and Bool.or_true Bool.true_or Bool.or_false Bool.false_or Bool.and_self Bool.or_self Bool.not_not Bool.true_eq_false Bool.false_eq_true decide_true decide_false decide_eq_true_eq eq_self Option.bind_some Option.map_some Option.bind_none Option.map_none Option.isSome_some List.map_cons List.map_nil List.length_cons List.length_nil List.length_map List.length_append List.getElem?_cons_zero List.getElem?_cons_succ List.set_cons_zero List.set_cons_succ List.nil_append List.cons_append List.append_nil List.flatMap_cons List.flatMap_nil List.all_cons List.all_nil List.take_succ_cons List.take_zero List.drop_succ_cons List.drop_zero List.take_nil List.drop_nil List.map_append Nat.zero_add Nat.add_zero Nat.sub_zero Nat.sub_self Nat.mul_one Nat.one_mul Nat.zero_mul Nat.mul_zero Int.toNat_natCast Int.cast_ofNat_Int Int.natCast_zero gt_iff_lt ge_iff_le List.getD_cons_zero List.getD_cons_succ bne_self_eq_false BEq.rfl evOps_nil evOps_plain evOps_gK gK_tup gK_tt gK_tf gK_ft gK_ff upd_cons stepK_some stepK_none stepK_ite opsK_some opsK_none opsK_ite ev_opsK ev_condK condK_bool andThen_norm andThen_exit andThen_ret andThen_none andThen_ite endBlock_norm endBlock_exit endBlock_ret endBlock_none endBlock_ite restr_pick pickS_nil pickS_cons restr_none outOf_norm outOf_ret outOf_none outOf_ite get_nil get_cons put_some put_none ev_t ev_c valK_some valK_none valK_ite evI_mov evI_nilrow evI_pick pickK_true pickK_false pickK_or' pickK_and' evI_bin evI_binB evI_eqS evI_un evI_conv convK_int evI_alloc evI_box evI_boxR evI_build evI_buildSl evI_buildR evI_mkSl evI_load loadK_rp loadK_agg loadK_one ldR_cells evI_store storeK_ref evI_slice bound_none bound_int lenIn_rs lenIn_sl lenIn_nils evI_ext evI_mkIf evI_mkFn evI_len evI_lenA evI_eqNil isNilV evI_append app2K_some evI_iaddr evI_callF callK_some snapL_nil snapL_cons consK_some ev_skip ev_exit ev_ret ev_seq ev_block evI_faddr faddrK_ref faddrK_rp evI_field fieldK_agg bindO_ite mapO_ite retK_ite cellsOf storable objCells partA ofCells fillA loadV shapeOk resOf resOne resL wrapI eqAgg eqCells eqOne binop binI binopB unop enumFrom stepTo_norm stepTo_none stepTo_ite retK_p retP_true retK_r retQ_true retK_t plainG_rs plainG_int plainG_bool plainG_str plainG_nilp plainG_nili plainG_nils aggG_agg aggG_rs aggG_int aggG_bool aggG_str aggG_nilp aggG_nili aggG_iface tupG_tup tupG_agg tupG_rs tupG_int tupG_bool tupG_str tupG_iface tupG_nili evI_copy curOk_rs curOk_nils curOk_sl Int.natCast_add Int.natCast_one Int.natCast_mul Int.cast_ofNat_Int w64 wu64 wu32 wu16 wu8 outR_norm outR_ret outR_none outR_ite snap_sn snL_nil snL_cons sn_int sn_bool sn_str sn_nils sn_rs sn_rp sn_nilp sn_nili sn_nilf sn_iface sn_tup sn_agg sn_fn sn_row finish_row finish_tupRow finish_false appK_row copyK_r hasOwn_int hasOwn_bool hasOwn_str hasOwn_rs hasOwn_rp hasOwn_nili hasOwn_nilp hasOwn_agg hasOwn_iface hasOwnL_nil hasOwnL_cons store_int noGL_nil noGL_cons finish_tupRs cellsIn_row
attribute [go_sem_proc] Nat.reduceEqDiff Nat.reduceAdd Nat.reduceSub Nat.reduceMul Nat.reduceLeDiff Nat.reduceLT Nat.reduceBEq Nat.reduceBNe Int.reduceAdd Int.reduceSub Int.reduceMul Int.reduceNeg Int.reduceEq Int.reduceNe Int.reduceLT Int.reduceLE Int.reduceToNat Nat.reduceSucc
end Go.Fw
