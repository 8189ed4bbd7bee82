/-
  A function's code; a function; what all calls hand back. Conditions: stated at each.
-/
import Derived.Test.YtefkoichicalfaaFwP
import Derived.Test.YtefkoichicalfaaFwY
set_option linter.unusedVariables false
set_option linter.unusedSimpArgs false
set_option linter.unusedSectionVars false
namespace Go.Fw
open Go.RowKit (Below)

/-- The code within a round. -/
def chkCI (P : Program) (n : Nat) : Code → C → Bool
  | .skip, .skip => true
  | .region _ ops draw, .ops l => chkOs P ops n ops.toList l && (!draw || (P.follows .mixedOrders && chkDraw ops.toList l))
  | .seq a b, .seq a' b' => chkCI P n a a' && chkCI P n b b'
  | .cond c a b, .cond x a' b' => chkX x c && chkCI P n a a' && chkCI P n b b'
  | .block id b, .block id' _ b' => id == id' && chkCI P n b b'
  | .loop b, .loop _ b' => chkCI P n b b'
  | .exit id, .exit id' => id == id'
  | .ret, .ret => true
  | _, _ => false

def chkC (P : Program) (n : Nat) : Code → C → Bool
  | .skip, .skip => true
  | .region _ ops draw, .ops l => chkOs P ops n ops.toList l && (!draw || (P.follows .mixedOrders && chkDraw ops.toList l))
  | .region _ ops draw, .alt l pre a c post => chkOs P ops n ops.toList l && draw && P.follows .mixedOrders && chkAlt ops.toList l pre a c post
  | .seq a b, .seq a' b' => chkC P n a a' && chkC P n b b'
  | .cond c a b, .cond x a' b' => chkX x c && chkC P n a a' && chkC P n b b'
  | .block id b, .block id' _ b' => id == id' && chkC P n b b'
  | .loop b, .loop _ b' => chkC P n b b'
  | .exit id, .exit id' => id == id'
  | .ret, .ret => true
  | .rangeFunc g ps a b, .rangeF x ps' a' b' => chkX x g && ps.toList == ps' && ps'.all (fun p => decide (p < n)) && chkCI P n a a' && chkCI P n b b'
  | _, _ => false

theorem least_ex (p : Nat → Prop) : ∀ n, p n → ∃ m, p m ∧ ∀ k, p k → m ≤ k := by
  intro n
  induction n using Nat.strongRecOn with
  | _ n ih =>
    intro hn
    by_cases h : ∃ k, k < n ∧ p k
    · obtain ⟨k, hk, hp⟩ := h
      exact ih k hk hp
    · exact ⟨n, hn, fun k hk => by
        by_cases hkn : n ≤ k
        · exact hkn
        · exact absurd ⟨k, by omega, hk⟩ h⟩

open Classical in
/-- The least number with a property. -/
noncomputable def least (p : Nat → Prop) : Nat := if h : ∃ m, p m ∧ ∀ k, p k → m ≤ k then h.choose else 0

theorem least_spec {p : Nat → Prop} (h : ∃ n, p n) : p (least p) ∧ ∀ k, p k → least p ≤ k := by
  obtain ⟨n, hn⟩ := h
  have hx := least_ex p n hn
  unfold least
  rw [dif_pos hx]
  exact hx.choose_spec


section
variable {P : Program} {E : Env} {call : CallFn} {Bad : Forb} {β : List Value} {w : World} {a : Act} {x : St}

theorem get_map {s : Slots} : ∀ (l : List Nat) (t : Nat), get (l.map fun t => (t, get s t)) t = if t ∈ l then get s t else .undef
  | [], t => by simp [get]
  | d :: l, t => by
    simp only [List.map_cons, get, get_map l t, List.mem_cons]
    by_cases h : t = d
    · subst h; simp
    · simp [h]

theorem Inv.restr {n : Nat} {D : Nat} (hi : Inv Bad β w a n D x) (live : Option (List Nat)) : Inv Bad β w a n D (restr live x) := by
  cases live with
  | none => exact hi
  | some l =>
    refine ⟨hi.heap, fun t => ?_, hi.size, hi.defers, hi.base⟩
    show Rep (get (l.map fun t => (t, get x.s t)) t) _ _ _ _ _
    rw [get_map]
    split
    · exact hi.slots t
    · trivial

theorem restr_h (live : Option (List Nat)) (x : St) : (restr live x).h = x.h := by cases live <;> rfl

theorem evCI_sound (hcalls : CallsOk P E call) {n : Nat} {D : Nat} {k : Nat} {rr : Option Nat} {mm : Nat} : ∀ (c : Code) (c' : C), chkCI P n c c' = true → ∀ {β : List Value} {w : World} {a : Act} {x y : St} {e : Ex} {Q : Exit → Act → World → Prop},
    Inv Bad β w a n D x → evC E call k c' x = some (e, y) → (∀ β' w' a', Step Bad β x.h w β' y.h w' → Inv Bad β' w' a' n D y → Q (exOf' e) a' w') → c.wpIn (WF rr) mm P Q a w
  | .skip, .skip, _, β, w, a, x, y, e, Q, hi, he, hq => by
    simp only [evC, Option.some.injEq, Prod.mk.injEq] at he
    obtain ⟨rfl, rfl⟩ := he
    exact wpIn_skip (hq β w a (Step.refl hi.heap) hi)
  | .region id ops draw, .ops l, hc, β, w, a, x, y, e, Q, hi, he, hq => by
    simp only [chkCI, Bool.and_eq_true, Bool.or_eq_true, Bool.not_eq_true'] at hc
    obtain ⟨hc, hd⟩ := hc
    simp only [evC] at he
    cases ho : evOps E call l x with
    | none => rw [ho] at he; cases he
    | some z =>
      rw [ho] at he
      simp only [Option.map_some, Option.some.injEq, Prod.mk.injEq] at he
      obtain ⟨rfl, rfl⟩ := he
      obtain ⟨hlen, hat⟩ := chkOs_at hc
      cases draw
      · refine wpIn_region ?_
        have := evOps_sound (rr := rr) (mm := mm) hcalls ops.toList l 0 (fun j => by simp) hc hi ho hq
        rw [Array.length_toList] at this
        rwa [List.range_eq_range']
      · rcases hd with hd | ⟨hm, hd⟩
        · cases hd
        · refine wpIn_region_any hm ?_
          have hbel : Below w.heap.size w w.drew := (Below.refl _ w).drew
          have hst := Step.quiet hi.heap hbel
          have hi' : Inv Bad β w.drew a n D x := ⟨hst.rel, fun t => hst.rep (hi.slots t), hi.size, hi.defers.step hst, Nat.le_trans hi.base hst.since.size⟩
          have hrem : rem ops.size (Array.replicate ops.size false) = List.range ops.size := by
            unfold rem
            rw [List.filter_eq_self]
            intro i hi
            have := List.mem_range.1 hi
            simp [Array.getD, this]
          refine draw_sound hcalls hc hd ops.size (Array.replicate ops.size false) (by simp) ?_ (by rw [hrem]; simp) (y' := z) ?_ (Same.refl z) hi' fun β' w' a' hst2 hi2 => hq β' w' a' (hst.trans hst2) hi2
          · intro j o hj hl
            exfalso
            by_cases hjs : j < ops.size <;> simp [Array.getD, hjs] at hl
          · rw [hrem, List.range_eq_range']
            have : ops.size = l.length := by simpa using hlen
            rw [this, evIx_range l 0 (fun j => by simp)]
            exact ho
  | .seq c1 c2, .seq d1 d2, hc, β, w, a, x, y, e, Q, hi, he, hq => by
    simp only [chkCI, Bool.and_eq_true] at hc
    simp only [evC] at he
    cases h1 : evC E call k d1 x with
    | none => rw [h1] at he; cases he
    | some r =>
      obtain ⟨e1, z⟩ := r
      rw [h1] at he
      refine wpIn_seq (evCI_sound hcalls c1 d1 hc.1 hi h1 fun β' w' a' hst hi' => ?_)
      cases e1
      · exact evCI_sound hcalls c2 d2 hc.2 hi' he fun β2 w2 a2 hst2 hi2 => hq β2 w2 a2 (hst.trans hst2) hi2
      · simp only [andThen, Option.some.injEq, Prod.mk.injEq] at he
        obtain ⟨rfl, rfl⟩ := he
        exact hq β' w' a' hst hi'
      · simp only [andThen, Option.some.injEq, Prod.mk.injEq] at he
        obtain ⟨rfl, rfl⟩ := he
        exact hq β' w' a' hst hi'
  | .cond c c1 c2, .cond v d1 d2, hc, β, w, a, x, y, e, Q, hi, he, hq => by
    simp only [chkCI, Bool.and_eq_true] at hc
    simp only [evC] at he
    split at he
    · rename_i b hb
      have h1 := X_rep hi.slots hc.1.1
      rw [hb] at h1
      simp only [Rep] at h1
      cases b
      · exact wpIn_cond_false h1 (evCI_sound hcalls c2 d2 hc.2 hi he hq)
      · exact wpIn_cond_true h1 (evCI_sound hcalls c1 d1 hc.1.2 hi he hq)
    · cases he
  | .block id c, .block id' live d, hc, β, w, a, x, y, e, Q, hi, he, hq => by
    simp only [chkCI, Bool.and_eq_true, beq_iff_eq] at hc
    obtain ⟨rfl, hc⟩ := hc
    simp only [evC] at he
    cases h1 : evC E call k d (restr live x) with
    | none => rw [h1] at he; cases he
    | some r =>
      obtain ⟨e1, z⟩ := r
      rw [h1] at he
      refine wpIn_block (evCI_sound hcalls c d hc (hi.restr live) h1 fun β' w' a' hst hi' => ?_)
      rw [restr_h] at hst
      cases e1 with
      | norm =>
        simp only [endBlock, Option.some.injEq, Prod.mk.injEq] at he
        obtain ⟨rfl, rfl⟩ := he
        exact hq β' w' a' (by rw [restr_h]; exact hst) (hi'.restr live)
      | exit i =>
        simp only [endBlock] at he
        show Exit.inBlock id Q (.exit i) a' w'
        simp only [Exit.inBlock]
        split at he
        · rename_i hii
          rw [if_pos hii]
          simp only [Option.some.injEq, Prod.mk.injEq] at he
          obtain ⟨rfl, rfl⟩ := he
          exact hq β' w' a' (by rw [restr_h]; exact hst) (hi'.restr live)
        · rename_i hii
          rw [if_neg hii]
          simp only [Option.some.injEq, Prod.mk.injEq] at he
          obtain ⟨rfl, rfl⟩ := he
          exact hq β' w' a' hst hi'
      | ret =>
        simp only [endBlock, Option.some.injEq, Prod.mk.injEq] at he
        obtain ⟨rfl, rfl⟩ := he
        exact hq β' w' a' hst hi'
  | .loop c, .loop live d, hc, β, w, a, x, y, e, Q, hi, he, hq => by
    simp only [chkCI] at hc
    simp only [evC] at he
    let f : St → Out := fun x => evC E call k d (restr live x)
    let J : Nat → Act → World → Prop := fun m a w => ∃ β x, Inv Bad β w a n D x ∧ evLoop f m x = some (e, y) ∧ ∀ β' w' a', Step Bad β x.h w β' y.h w' → Inv Bad β' w' a' n D y → Q (exOf' e) a' w'
    let μ : Act → World → Nat := fun a w => least fun m => J m a w
    refine wpIn_loop (fun a w => ∃ m, J m a w) μ ⟨k, β, x, hi, he, hq⟩ fun a w hI => ?_
    obtain ⟨⟨β, x, hi, hev, hq⟩, hmin⟩ := least_spec hI
    cases hm : least (fun m => J m a w) with
    | zero => rw [hm] at hev; cases hev
    | succ m =>
      rw [hm] at hev
      have hev' : andThen (f x) (evLoop f m) = some (e, y) := hev
      cases h1 : f x with
      | none => rw [h1] at hev'; cases hev'
      | some r =>
        obtain ⟨e1, z⟩ := r
        rw [h1] at hev'
        refine evCI_sound hcalls c d hc (hi.restr live) h1 fun β' w' a' hst hi' => ?_
        rw [restr_h] at hst
        cases e1 with
        | norm =>
          have hJ : J m a' w' := ⟨β', z, hi', hev', fun β2 w2 a2 hst2 hi2 => hq β2 w2 a2 (hst.trans hst2) hi2⟩
          refine ⟨⟨m, hJ⟩, ?_⟩
          show least (fun m => J m a' w') < least (fun m => J m a w)
          rw [hm]
          exact Nat.lt_succ_of_le ((least_spec ⟨m, hJ⟩).2 m hJ)
        | exit i =>
          simp only [andThen, Option.some.injEq, Prod.mk.injEq] at hev'
          obtain ⟨rfl, rfl⟩ := hev'
          exact hq β' w' a' hst hi'
        | ret =>
          simp only [andThen, Option.some.injEq, Prod.mk.injEq] at hev'
          obtain ⟨rfl, rfl⟩ := hev'
          exact hq β' w' a' hst hi'
  | .exit id, .exit id', hc, β, w, a, x, y, e, Q, hi, he, hq => by
    simp only [chkCI, beq_iff_eq] at hc
    subst hc
    simp only [evC, Option.some.injEq, Prod.mk.injEq] at he
    obtain ⟨rfl, rfl⟩ := he
    exact wpIn_exit (hq β w a (Step.refl hi.heap) hi)
  | .ret, .ret, _, β, w, a, x, y, e, Q, hi, he, hq => by
    simp only [evC, Option.some.injEq, Prod.mk.injEq] at he
    obtain ⟨rfl, rfl⟩ := he
    exact wpIn_ret (hq β w a (Step.refl hi.heap) hi)

theorem nodup_le : ∀ (n : Nat) (l : List Nat), l.Nodup → (∀ i ∈ l, i < n) → l.length ≤ n
  | 0, l, _, h => by
    cases l with
    | nil => exact Nat.le_refl _
    | cons i l => exact absurd (h i (by simp)) (by omega)
  | n + 1, l, hn, h => by
    by_cases hm : n ∈ l
    · have h1 := nodup_le n (l.erase n) (hn.erase n) fun i hi => by
        have h2 := (hn.mem_erase_iff).1 hi
        have := h i h2.2
        have := h2.1
        omega
      rw [List.length_erase_of_mem hm] at h1
      omega
    · exact Nat.le_succ_of_le (nodup_le n l hn fun i hi => by
        have := h i hi
        have h2 : i ≠ n := fun e => hm (e ▸ hi)
        omega)

theorem evC_sound (hcalls : CallsOk P E call) (hseq : SeqsOk P E) {n : Nat} {D : Nat} {k : Nat} {mm : Nat} : ∀ (c : Code) (c' : C), chkC P n c c' = true → ∀ {β : List Value} {w : World} {a : Act} {x y : St} {e : Ex} {Q : Exit → Act → World → Prop},
    Inv Bad β w a n D x → evC E call k c' x = some (e, y) → (∀ β' w' a', Step Bad β x.h w β' y.h w' → Inv Bad β' w' a' n D y → Q (exOf' e) a' w') → c.wpIn (WF none) mm P Q a w
  | .skip, .skip, _, β, w, a, x, y, e, Q, hi, he, hq => by
    simp only [evC, Option.some.injEq, Prod.mk.injEq] at he
    obtain ⟨rfl, rfl⟩ := he
    exact wpIn_skip (hq β w a (Step.refl hi.heap) hi)
  | .region id ops draw, .ops l, hc, β, w, a, x, y, e, Q, hi, he, hq => by
    simp only [chkC, Bool.and_eq_true, Bool.or_eq_true, Bool.not_eq_true'] at hc
    obtain ⟨hc, hd⟩ := hc
    simp only [evC] at he
    cases ho : evOps E call l x with
    | none => rw [ho] at he; cases he
    | some z =>
      rw [ho] at he
      simp only [Option.map_some, Option.some.injEq, Prod.mk.injEq] at he
      obtain ⟨rfl, rfl⟩ := he
      obtain ⟨hlen, hat⟩ := chkOs_at hc
      cases draw
      · refine wpIn_region ?_
        have := evOps_sound (rr := none) (mm := mm) hcalls ops.toList l 0 (fun j => by simp) hc hi ho hq
        rw [Array.length_toList] at this
        rwa [List.range_eq_range']
      · rcases hd with hd | ⟨hm, hd⟩
        · cases hd
        · refine wpIn_region_any hm ?_
          have hbel : Below w.heap.size w w.drew := (Below.refl _ w).drew
          have hst := Step.quiet hi.heap hbel
          have hi' : Inv Bad β w.drew a n D x := ⟨hst.rel, fun t => hst.rep (hi.slots t), hi.size, hi.defers.step hst, Nat.le_trans hi.base hst.since.size⟩
          have hrem : rem ops.size (Array.replicate ops.size false) = List.range ops.size := by
            unfold rem
            rw [List.filter_eq_self]
            intro i hi
            have := List.mem_range.1 hi
            simp [Array.getD, this]
          refine draw_sound hcalls hc hd ops.size (Array.replicate ops.size false) (by simp) ?_ (by rw [hrem]; simp) (y' := z) ?_ (Same.refl z) hi' fun β' w' a' hst2 hi2 => hq β' w' a' (hst.trans hst2) hi2
          · intro j o hj hl
            exfalso
            by_cases hjs : j < ops.size <;> simp [Array.getD, hjs] at hl
          · rw [hrem, List.range_eq_range']
            have : ops.size = l.length := by simpa using hlen
            rw [this, evIx_range l 0 (fun j => by simp)]
            exact ho
  | .region id ops draw, .alt l pre v c post, hc, β, w, a, x, y, e, Q, hi, he, hq => by
    simp only [chkC, Bool.and_eq_true] at hc
    obtain ⟨⟨⟨hc, rfl⟩, hm⟩, hd⟩ := hc
    simp only [evC] at he
    cases ho : evAlt E call l pre v c post x with
    | none => rw [ho] at he; cases he
    | some yf =>
      rw [ho] at he
      simp only [Option.map_some, Option.some.injEq, Prod.mk.injEq] at he
      obtain ⟨rfl, rfl⟩ := he
      unfold evAlt at ho
      cases h0 : evIx E call l pre x with
      | none => rw [h0] at ho; cases ho
      | some x0 =>
        rw [h0] at ho
        simp only [Option.bind_some] at ho
        cases hy : evIx E call l [v, c] x0 with
        | none => rw [hy] at ho; cases ho
        | some y1 =>
          rw [hy] at ho
          simp only [Option.bind_some] at ho
          cases hz : evO E call (pushH x0) (l.getD c default) with
          | none => rw [hz] at ho; cases ho
          | some z =>
            rw [hz] at ho
            simp only [Option.bind_some] at ho
            cases hz' : fillO z (l.getD v default) with
            | none => rw [hz'] at ho; cases ho
            | some z' =>
              rw [hz'] at ho
              simp only [Option.bind_some] at ho
              split at ho
              · rename_i heq
                refine wpIn_region_any hm ?_
                have hbel : Below w.heap.size w w.drew := (Below.refl _ w).drew
                have hst := Step.quiet hi.heap hbel
                have hi' : Inv Bad β w.drew a n D x := ⟨hst.rel, fun t => hst.rep (hi.slots t), hi.size, hi.defers.step hst, Nat.le_trans hi.base hst.since.size⟩
                have hd' := hd
                simp only [chkAlt, Bool.and_eq_true, decide_eq_true_eq, List.all_eq_true] at hd'
                obtain ⟨⟨⟨⟨⟨⟨⟨⟨_, hd2⟩, hd3⟩, hd4⟩, _⟩, _⟩, _⟩, _⟩, _⟩ := hd'
                have hleft : Left ops.size (Array.replicate ops.size false) (pre ++ v :: c :: post) := by
                  intro i
                  constructor
                  · intro h1
                    have h2 := hd3 i h1
                    rw [Array.length_toList] at h2
                    exact ⟨h2, by simp [Array.getD, h2]⟩
                  · rintro ⟨h1, _⟩
                    have h2 := hd4 i (List.mem_range.2 (by rw [Array.length_toList]; exact h1))
                    exact List.contains_iff_mem.1 h2
                have hlen : (pre ++ v :: c :: post).length ≤ ops.size := by
                  exact nodup_le _ _ hd2 fun i h1 => ((hleft i).1 h1).1
                refine draw_alt hcalls hc hd hy hz hz' (eqSt_same heq) ho ops.size (Array.replicate ops.size false) pre (by simp) ?_ (List.Sublist.refl _) hleft hlen h0 (Same.refl x0) hi' fun β' w' a' hst2 hi2 => hq β' w' a' (hst.trans hst2) hi2
                intro j o hj hl
                exfalso
                by_cases hjs : j < ops.size <;> simp [Array.getD, hjs] at hl
              · cases ho
  | .seq c1 c2, .seq d1 d2, hc, β, w, a, x, y, e, Q, hi, he, hq => by
    simp only [chkC, Bool.and_eq_true] at hc
    simp only [evC] at he
    cases h1 : evC E call k d1 x with
    | none => rw [h1] at he; cases he
    | some r =>
      obtain ⟨e1, z⟩ := r
      rw [h1] at he
      refine wpIn_seq (evC_sound hcalls hseq c1 d1 hc.1 hi h1 fun β' w' a' hst hi' => ?_)
      cases e1
      · exact evC_sound hcalls hseq c2 d2 hc.2 hi' he fun β2 w2 a2 hst2 hi2 => hq β2 w2 a2 (hst.trans hst2) hi2
      · simp only [andThen, Option.some.injEq, Prod.mk.injEq] at he
        obtain ⟨rfl, rfl⟩ := he
        exact hq β' w' a' hst hi'
      · simp only [andThen, Option.some.injEq, Prod.mk.injEq] at he
        obtain ⟨rfl, rfl⟩ := he
        exact hq β' w' a' hst hi'
  | .cond c c1 c2, .cond v d1 d2, hc, β, w, a, x, y, e, Q, hi, he, hq => by
    simp only [chkC, Bool.and_eq_true] at hc
    simp only [evC] at he
    split at he
    · rename_i b hb
      have h1 := X_rep hi.slots hc.1.1
      rw [hb] at h1
      simp only [Rep] at h1
      cases b
      · exact wpIn_cond_false h1 (evC_sound hcalls hseq c2 d2 hc.2 hi he hq)
      · exact wpIn_cond_true h1 (evC_sound hcalls hseq c1 d1 hc.1.2 hi he hq)
    · cases he
  | .block id c, .block id' live d, hc, β, w, a, x, y, e, Q, hi, he, hq => by
    simp only [chkC, Bool.and_eq_true, beq_iff_eq] at hc
    obtain ⟨rfl, hc⟩ := hc
    simp only [evC] at he
    cases h1 : evC E call k d (restr live x) with
    | none => rw [h1] at he; cases he
    | some r =>
      obtain ⟨e1, z⟩ := r
      rw [h1] at he
      refine wpIn_block (evC_sound hcalls hseq c d hc (hi.restr live) h1 fun β' w' a' hst hi' => ?_)
      rw [restr_h] at hst
      cases e1 with
      | norm =>
        simp only [endBlock, Option.some.injEq, Prod.mk.injEq] at he
        obtain ⟨rfl, rfl⟩ := he
        exact hq β' w' a' (by rw [restr_h]; exact hst) (hi'.restr live)
      | exit i =>
        simp only [endBlock] at he
        show Exit.inBlock id Q (.exit i) a' w'
        simp only [Exit.inBlock]
        split at he
        · rename_i hii
          rw [if_pos hii]
          simp only [Option.some.injEq, Prod.mk.injEq] at he
          obtain ⟨rfl, rfl⟩ := he
          exact hq β' w' a' (by rw [restr_h]; exact hst) (hi'.restr live)
        · rename_i hii
          rw [if_neg hii]
          simp only [Option.some.injEq, Prod.mk.injEq] at he
          obtain ⟨rfl, rfl⟩ := he
          exact hq β' w' a' hst hi'
      | ret =>
        simp only [endBlock, Option.some.injEq, Prod.mk.injEq] at he
        obtain ⟨rfl, rfl⟩ := he
        exact hq β' w' a' hst hi'
  | .loop c, .loop live d, hc, β, w, a, x, y, e, Q, hi, he, hq => by
    simp only [chkC] at hc
    simp only [evC] at he
    let f : St → Out := fun x => evC E call k d (restr live x)
    let J : Nat → Act → World → Prop := fun m a w => ∃ β x, Inv Bad β w a n D x ∧ evLoop f m x = some (e, y) ∧ ∀ β' w' a', Step Bad β x.h w β' y.h w' → Inv Bad β' w' a' n D y → Q (exOf' e) a' w'
    let μ : Act → World → Nat := fun a w => least fun m => J m a w
    refine wpIn_loop (fun a w => ∃ m, J m a w) μ ⟨k, β, x, hi, he, hq⟩ fun a w hI => ?_
    obtain ⟨⟨β, x, hi, hev, hq⟩, hmin⟩ := least_spec hI
    cases hm : least (fun m => J m a w) with
    | zero => rw [hm] at hev; cases hev
    | succ m =>
      rw [hm] at hev
      have hev' : andThen (f x) (evLoop f m) = some (e, y) := hev
      cases h1 : f x with
      | none => rw [h1] at hev'; cases hev'
      | some r =>
        obtain ⟨e1, z⟩ := r
        rw [h1] at hev'
        refine evC_sound hcalls hseq c d hc (hi.restr live) h1 fun β' w' a' hst hi' => ?_
        rw [restr_h] at hst
        cases e1 with
        | norm =>
          have hJ : J m a' w' := ⟨β', z, hi', hev', fun β2 w2 a2 hst2 hi2 => hq β2 w2 a2 (hst.trans hst2) hi2⟩
          refine ⟨⟨m, hJ⟩, ?_⟩
          show least (fun m => J m a' w') < least (fun m => J m a w)
          rw [hm]
          exact Nat.lt_succ_of_le ((least_spec ⟨m, hJ⟩).2 m hJ)
        | exit i =>
          simp only [andThen, Option.some.injEq, Prod.mk.injEq] at hev'
          obtain ⟨rfl, rfl⟩ := hev'
          exact hq β' w' a' hst hi'
        | ret =>
          simp only [andThen, Option.some.injEq, Prod.mk.injEq] at hev'
          obtain ⟨rfl, rfl⟩ := hev'
          exact hq β' w' a' hst hi'
  | .exit id, .exit id', hc, β, w, a, x, y, e, Q, hi, he, hq => by
    simp only [chkC, beq_iff_eq] at hc
    subst hc
    simp only [evC, Option.some.injEq, Prod.mk.injEq] at he
    obtain ⟨rfl, rfl⟩ := he
    exact wpIn_exit (hq β w a (Step.refl hi.heap) hi)
  | .ret, .ret, _, β, w, a, x, y, e, Q, hi, he, hq => by
    simp only [evC, Option.some.injEq, Prod.mk.injEq] at he
    obtain ⟨rfl, rfl⟩ := he
    exact wpIn_ret (hq β w a (Step.refl hi.heap) hi)
  | .rangeFunc g ps assign body, .rangeF gx ps' a' b', hc, β, w, a, x, y, e, Q, hi, he, hq => by
    simp only [chkC, Bool.and_eq_true, beq_iff_eq] at hc
    obtain ⟨⟨⟨⟨h1, rfl⟩, h3⟩, h4⟩, h5⟩ := hc
    simp only [evC] at he
    split at he
    case h_2 => cases he
    rename_i f cap hv
    split at he
    case h_2 => cases he
    rename_i q hq'
    cases hits : q cap x.h with
    | none => rw [hits] at he; cases he
    | some items =>
      rw [hits] at he
      have hr := X_rep hi.slots h1
      rw [hv] at hr
      simp only [Rep] at hr
      obtain ⟨us, hg, hcap⟩ := hr
      have := rangeF_sound (mm := mm) (Q := Q) hseq (assign := assign) (body := body) (fA := evC E call k a') (fB := evC E call k b')
        (fun l {β w a x y e Q} hi he hq => evCI_sound hcalls assign a' h4 hi he hq)
        (fun l {β w a x y e Q} hi he hq => evCI_sound hcalls body b' h5 hi he hq) hi hg hcap hq' hits (fun p hp => by have := List.all_eq_true.1 h3 p hp; simpa using this) he hq
      exact fun b k cs hro hb hr => this b k cs hro hb (fun d hd => by simp [WF, Fence.wide] at hd)

/-! ### a function -/

def resFit (P : Program) (p : ResultVar × (Nat × Option (Bool × Nat))) : Bool :=
  match p.1, p.2 with
  | .tmp t, (t', none) => t == t'
  | .cell a t, (a', some (ag, sz)) => a == a' && tyIs P t ag sz
  | _, _ => false

def chkFn (P : Program) (func : Func) (fn : Fn_) : Bool :=
  !(func.name == "runtime.NumGoroutine") && func.ntmps == fn.ntmps && decide (fn.nparams ≤ fn.ntmps) &&
  (match func.body with | some c => chkC P fn.ntmps c fn.body | none => false) &&
  (func.results.toList.length == fn.results.length) && ((func.results.toList.zip fn.results).all (resFit P))

theorem run_results1 {h : Heap} (hh : HeapRel Bad β h w) {n : Nat} {s : Slots} {a : Act} (hs : ∀ t, Rep (get s t) β h (FOf Bad β) w (a.tmps.getD t undef)) {g : ResultVar → Sem Value} (hg : ∀ t, (g (.tmp t)).run P w = .ok (a.tmps.getD t undef) w)
    (hgc : ∀ t ty ad u, a.tmps.getD t undef = .pointer (some ad) → (loadVar ty ad).run P w = .ok u w → (g (.cell t ty)).run P w = .ok u w) : ∀ (rs : List ResultVar) (ts : List (Nat × Option (Bool × Nat))) (vs : List AV), rs.length = ts.length → ((rs.zip ts).all (resFit P)) = true → resL s h ts = some vs →
    ∃ us, (rs.mapM g).run P w = .ok us w ∧ RepL vs β h (FOf Bad β) w us
  | [], [], vs, _, _, h => by
    simp only [resL, Option.some.injEq] at h
    subst h
    exact ⟨[], by simp, rfl⟩
  | r :: rs, t :: ts, vs, hl, h, hr => by
    simp only [List.zip_cons_cons, List.all_cons, Bool.and_eq_true] at h
    simp only [resL] at hr
    cases h1 : resOne s _ t with
    | none => rw [h1] at hr; cases hr
    | some v =>
      rw [h1] at hr
      simp only [Option.bind_some] at hr
      cases h2 : resL s _ ts with
      | none => rw [h2] at hr; cases hr
      | some vs' =>
        rw [h2] at hr
        injection hr with hr
        subst hr
        obtain ⟨us, e1, e2⟩ := run_results1 hh (n := n) hs hg hgc rs ts vs' (by simpa using hl) h.2 h2
        obtain ⟨u, e3, e4⟩ : ∃ u, (g r).run P w = .ok u w ∧ Rep v β _ (FOf Bad β) w u := by
          obtain ⟨t, c⟩ := t
          cases r with
          | tmp t' =>
            cases c with
            | some c => simp [resFit] at h
            | none =>
              have : t' = t := by simpa [resFit] using h.1
              subst this
              simp only [resOne, Option.some.injEq] at h1
              subst h1
              exact ⟨_, hg _, hs _⟩
          | cell a' ty =>
            cases c with
            | none => simp [resFit] at h
            | some c =>
              obtain ⟨ag, sz⟩ := c
              simp only [resFit, Bool.and_eq_true, beq_iff_eq] at h
              obtain ⟨⟨rfl, hty⟩, _⟩ := h
              simp only [resOne] at h1
              obtain ⟨ad, u, e5, e6, e7⟩ := load_rep hh (hs _) hty h1
              exact ⟨u, hgc _ _ _ _ e5 e6, e7⟩
        exact ⟨u :: us, by simp only [List.mapM_cons, Sem.run_bind, e3, Result.andThen_ok, e1, Sem.run_pure], u, us, rfl, e4, e2⟩
  | [], _ :: _, _, hl, _, _ => by simp at hl
  | _ :: _, [], _, hl, _, _ => by simp at hl

theorem resOf_run {n : Nat} {D : Nat} (hi : Inv Bad β w a n D x) {func : Func} {fn : Fn_} (hc : chkFn P func fn = true) {r : AV} (hr : resOf x.s x.h fn.results = some r) :
    ∃ u, (results func a.tmps).run P w = .ok u w ∧ Rep r β x.h (FOf Bad β) w u := by
  unfold chkFn at hc
  simp only [Bool.and_eq_true, beq_iff_eq] at hc
  obtain ⟨⟨_, hl⟩, hall⟩ := hc
  have key : ∀ vs, resL x.s x.h fn.results = some vs → ∃ us : List Value, RepL vs β x.h (FOf Bad β) w us ∧ (results func a.tmps).run P w = .ok (match us with | [u] => u | us => .tuple us.toArray) w := by
    intro vs hvs
    unfold results
    obtain ⟨us, e1, e2⟩ := run_results1 (P := P) hi.heap (n := n) (s := x.s) (a := a) (fun t => hi.slots t) (g := fun r => match r with
      | .tmp t => pure (a.tmps.getD t undef)
      | .cell b t => do loadVar t (← asAddr (a.tmps.getD b undef))) (fun t => rfl) (fun t ty ad u h1 h2 => by simp only [Sem.run_bind, h1]; simp [asAddr, h2]) func.results.toList fn.results vs hl hall hvs
    refine ⟨us, e2, ?_⟩
    rw [Array.mapM_eq_mapM_toList, Sem.run_bind, Sem.run_map]
    refine (congrArg (fun z => Result.andThen (Result.andThen z fun a w' => Result.ok a.toArray w') fun a w' => Sem.run P (pure (if h : a.size = 1 then a[0] else Value.tuple a)) w') e1).trans ?_
    simp only [Result.andThen_ok, Sem.run_pure]
    cases us with
    | nil => simp
    | cons u us =>
      cases us with
      | nil => simp
      | cons u2 us => simp
  have hlist : ∀ l, fn.results = l → resOf x.s x.h l = some r → ∃ u, (results func a.tmps).run P w = .ok u w ∧ Rep r β x.h (FOf Bad β) w u := by
    intro l el hr
    cases l with
    | nil =>
      simp only [resOf, resL, Option.map_some, Option.some.injEq] at hr
      obtain ⟨us, e1, e2⟩ := key [] (by rw [el]; rfl)
      subst hr
      have : us = [] := e1
      subst this
      exact ⟨_, e2, [], rfl, rfl⟩
    | cons t ts =>
      cases ts with
      | nil =>
        simp only [resOf] at hr
        obtain ⟨us, e1, e2⟩ := key [r] (by rw [el]; simp only [resL, hr]; rfl)
        obtain ⟨u, us', rfl, e3, e4⟩ := e1
        have : us' = [] := e4
        subst this
        exact ⟨u, e2, e3⟩
      | cons t2 ts =>
        simp only [resOf] at hr
        cases hL : resL x.s x.h (t :: t2 :: ts) with
        | none => rw [hL] at hr; cases hr
        | some vs =>
          rw [hL] at hr
          injection hr with hr
          subst hr
          obtain ⟨us, e1, e2⟩ := key vs (by rw [el]; exact hL)
          have hlen : us.length = ts.length + 2 := by
            have h3 : ∀ (l : List (Nat × Option (Bool × Nat))) (ws : List AV), resL x.s x.h l = some ws → ws.length = l.length := by
              intro l
              induction l with
              | nil => intro ws h; simp only [resL, Option.some.injEq] at h; subst h; rfl
              | cons y l ih =>
                intro ws h
                simp only [resL] at h
                cases h4 : resOne x.s x.h y with
                | none => rw [h4] at h; cases h
                | some v =>
                  rw [h4] at h
                  cases h5 : resL x.s x.h l with
                  | none => rw [h5] at h; cases h
                  | some vs => rw [h5] at h; injection h with h; subst h; simp [ih vs h5]
            rw [← e1.length, h3 _ _ hL]; simp
          match us, hlen with
          | u :: u2 :: us, _ => exact ⟨_, e2, _, rfl, e1⟩
  exact hlist fn.results rfl hr

theorem get_enum {args : List AV} : ∀ (k t : Nat), get (enumFrom k args) t = if k ≤ t then (args[t - k]?).getD .undef else .undef := by
  induction args with
  | nil => intro k t; simp [enumFrom, get]
  | cons x l ih =>
    intro k t
    simp only [enumFrom, get, ih (k + 1) t]
    by_cases h : t = k
    · subst h; simp
    · by_cases h2 : k ≤ t
      · have e1 : t - k = (t - (k + 1)) + 1 := by omega
        rw [if_neg h, if_pos (by omega), if_pos h2, e1, List.getElem?_cons_succ]
      · rw [if_neg h, if_neg (by omega), if_neg h2]

theorem Dfs.book {D : Nat} {F : Forb} {w : World} {k : Nat} (o : Obj) : ∀ {ds : List Deferred}, Dfs D F w ds → (∀ d ∈ ds, d ≠ { target := .collected k, args := #[] }) → Dfs D F (w.putObj k o) ds
  | [], _, _ => trivial
  | d :: ds, ⟨⟨j, h1, h0, h2, h3⟩, h4, h5⟩, hn => by
    have hj : j ≠ k := fun e => hn d (by simp) (by rw [h1, e])
    exact ⟨⟨j, h1, h0, (World.putObj_heap_other hj).trans h2, h3⟩, h4, Dfs.book o h5 fun d' hd' => hn d' (by simp [hd'])⟩
/-- A function's end: the marks are taken up, and it returns. -/
theorem leaves_marks {β0 : List Value} {h0 : Heap} {w0 : World} {D : Nat} {func : Func} {R : Ending → World → Prop} {s : Slots} {h : Heap} (hD : w0.heap.size ≤ D)
    (hR : ∀ w', Step Bad β0 h0 w0 β h w' → (∀ t, Rep (get s t) β h (FOf Bad β) w' (a.tmps.getD t undef)) → ∃ v, (results func a.tmps).run P w' = .ok v w' ∧ R (.returned v) w') :
    ∀ (ds : List Deferred) (w' : World), Step Bad β0 h0 w0 β h w' → (∀ t, Rep (get s t) β h (FOf Bad β) w' (a.tmps.getD t undef)) → Dfs D (FOf Bad β) w' ds → LeavesInM Fence.wide 0 P func a.tmps R ds .returning w'
  | [], w', hst, hs, _ => hR w' hst hs
  | d :: ds, w', hst, hs, ⟨⟨k, h1, h0, h2, h3⟩, h4, h5⟩ => by
    have hb : bk w' k = true := by unfold bk; rw [h2]
    refine ⟨by simp, .inl ⟨k, w'.putObj k (.deferred none), by rw [h1], run_takeDeferred h2, ?_⟩⟩
    exact leaves_marks hD hR ds _ (hst.book (by omega) hb h3 _) (fun t => Rep.step (hst.rel.book hb h3 _).2 _ (Keep.refl _ _) (hs t)) (Dfs.book _ h5 fun d' hd' => by rw [← h1]; exact h4 d' hd')

/-- Everything is told by its content. -/
theorem finish_sound (hh : HeapRel Bad β x.h w) {w0 : World} (hsince : Since [] w0 β w) {r : AV} {v : Value} (hr : Rep r β x.h (FOf Bad β) w v) {keep : Bool} {r' : AV} {objs : Heap} (hf : finish keep (r, x.h) = some (r', objs)) :
    (∀ o ∈ objs, objNoOwn o) ∧ ∃ βr, HeapRel Bad βr objs w ∧ (∀ l k, Owns βr l k → w0.heap.size ≤ k) ∧ Rep r' βr objs (FOf Bad βr) w v := by
  have hnew : ∀ l k, Owns β l k → w0.heap.size ≤ k := fun l k ho => by
    rcases hsince.own l k ho with h1 | ⟨l0, bv, h1, _⟩
    · exact h1
    · simp at h1
  have hplain : ((snap false x.h depth r).map fun r => (r, ([] : Heap))) = some (r', objs) → (∀ o ∈ objs, objNoOwn o) ∧ ∃ βr, HeapRel Bad βr objs w ∧ (∀ l k, Owns βr l k → w0.heap.size ≤ k) ∧ Rep r' βr objs (FOf Bad βr) w v := by
    intro hp
    cases hs : snap false x.h depth r with
    | none => rw [hs] at hp; cases hp
    | some y =>
      rw [hs] at hp
      injection hp with hp
      injection hp with hp1 hp2
      subst hp1; subst hp2
      refine ⟨by simp, [], ⟨rfl, ?_, ?_, ?_, hh.bad, ?_⟩, ?_, ?_⟩
      · rintro l l' k ⟨bv, h1, _⟩; simp at h1
      · rintro l k ⟨bv, h1, _⟩; simp at h1
      · rintro l k g ⟨bv, h1, _⟩; simp at h1
      · intro l o bv h1; simp at h1
      · rintro l k ⟨bv, h1, _⟩; simp at h1
      · refine snap_rep hh false (fun g k hf h1 => ?_) depth r y v hs hr (fun _ l k ho _ h1 => ?_)
        · rcases h1 with h1 | ⟨l, bv, h1, _⟩
          · exact hf (.inl h1)
          · simp at h1
        · rcases h1 with h1 | ⟨l, bv, h1, _⟩
          · exact hh.free _ k false ho h1
          · simp at h1
  have hrow : ∀ (sz l ver n : Nat) (u : Value) (vs : List AV) (t : TypeId), x.h[l]? = some (.row ver sz vs t) → Rep (.sl sz l ver 0 n) β x.h (FOf Bad β) w u → ∀ ws, snapL false (x.h.set l .gone) vs = some ws →
      (∀ o ∈ [AObj.row 0 sz ws t], objNoOwn o) ∧ HeapRel Bad [β.getD l default] [.row 0 sz ws t] w ∧ (∀ l' k, Owns [β.getD l default] l' k → w0.heap.size ≤ k) ∧ Rep (.sl sz 0 0 0 n) [β.getD l default] [.row 0 sz ws t] (FOf Bad [β.getD l default]) w u ∧
      (∀ (rest rs : List AV) (us : List Value), snapL false (x.h.set l .gone) rest = some rs → RepL rest β x.h (FOf Bad β) w us → RepL rs [β.getD l default] [.row 0 sz ws t] (FOf Bad [β.getD l default]) w us) := by
    intro sz l ver n u vs t hobj hrl ws hws
    simp only [Rep] at hrl
    obtain ⟨hl, hform, hrl⟩ := hrl
    have hβ : β[l]? = some (β.getD l default) := by rw [List.getD_eq_getElem?_getD, List.getElem?_eq_getElem hl.1]; rfl
    have hkeep : Keep β x.h β (x.h.set l .gone) := by
      refine ⟨Nat.le_refl _, fun j hj v hf => ?_, fun j hj hf hs => ?_⟩
      rotate_left
      · refine ⟨?_, rfl⟩
        by_cases hjl : j = l
        · subst hjl
          have : (x.h.set j .gone)[j]? = some .gone := List.getElem?_set_self (by rw [← hh.len]; exact hj)
          unfold isMapO at hs
          rw [this] at hs
          cases hs
        · have : (x.h.set l .gone)[j]? = x.h[j]? := List.getElem?_set_ne (Ne.symm hjl)
          unfold isMapO at hs ⊢
          rw [this] at hs
          exact hs
      by_cases hjl : j = l
      · subst hjl
        have : (x.h.set j .gone)[j]? = some .gone := List.getElem?_set_self (by rw [← hh.len]; exact hj)
        refine ⟨by unfold fut; rw [this], fun hs => ?_⟩
        unfold objCells at hs
        rw [this] at hs
        cases hs
      · have : (x.h.set l .gone)[j]? = x.h[j]? := List.getElem?_set_ne (Ne.symm hjl)
        exact ⟨by unfold fut at hf ⊢; rw [this]; exact hf, fun hs => ⟨by unfold objCells at hs ⊢; rw [this] at hs; exact hs, rfl⟩⟩
    have hok : Ok (FOf Bad β) w (FOf Bad β) w := fun g k _ hf _ => ⟨hf, rfl⟩
    have hh2 : HeapRel Bad β (x.h.set l .gone) w := by
      refine ⟨by rw [List.length_set]; exact hh.len, hh.inj, hh.lt, hh.free, hh.bad, fun j o bv ho hbv => ?_⟩
      by_cases hjl : j = l
      · subst hjl
        rw [List.getElem?_set_self (by rw [← hh.len]; exact hl.1)] at ho
        injection ho with ho
        subst ho
        trivial
      · rw [List.getElem?_set_ne (Ne.symm hjl)] at ho
        exact ObjRel.step hok hkeep (fun _ _ _ => rfl) (hh.obj j o bv ho hbv)
    have hown1 : ∀ l' k, Owns [β.getD l default] l' k ↔ l' = 0 ∧ Owns β l k := by
      intro l' k
      constructor
      · rintro ⟨bv, h1, h2⟩
        cases l' with
        | zero => simp at h1; subst h1; exact ⟨rfl, _, hβ, h2⟩
        | succ l' => simp at h1
      · rintro ⟨rfl, bv, h1, h2⟩
        rw [hβ] at h1
        injection h1 with h1
        subst h1
        exact ⟨_, rfl, h2⟩
    have hF : ∀ g' k, ¬ FOf Bad β g' k → ¬ FOf Bad [β.getD l default] g' k := by
      rintro g' k hf (h1 | ⟨l', h1⟩)
      · exact hf (.inl h1)
      · exact hf (.inr ⟨l, ((hown1 l' k).1 h1).2⟩)
    have hfr : ∀ l' k, Owns β l' k → objLive (x.h.set l .gone) l' = true → ¬ FOf Bad [β.getD l default] false k := by
      rintro l' k ho hlive (h1 | ⟨j, h1⟩)
      · exact hh.free _ k false ho h1
      · have := hh.inj l' l k ho ((hown1 j k).1 h1).2
        subst this
        unfold objLive at hlive
        rw [List.getElem?_set_self (by rw [← hh.len]; exact hl.1)] at hlive
        cases hlive
    have hsn : ∀ (rest rs : List AV) (us : List Value), snapL false (x.h.set l .gone) rest = some rs → RepL rest β x.h (FOf Bad β) w us → RepL rs [β.getD l default] [.row 0 sz ws t] (FOf Bad [β.getD l default]) w us := fun rest rs us h1 h2 =>
      RepL.ofNil rs (mapM_snap_rep hh2 hF h1 (RepL.step hok rest hkeep h2) (fun _ => hfr))
    obtain ⟨hz, n', xs, ho1, ho2, ho3⟩ := hh.obj l _ _ hobj hβ
    refine ⟨fun o ho => by simp at ho; subst ho; exact snapL_noOwn depth vs ws hws, ⟨rfl, ?_, ?_, ?_, hh.bad, ?_⟩, ?_, ?_, hsn⟩
    · intro i j k h1 h2
      rw [((hown1 i k).1 h1).1, ((hown1 j k).1 h2).1]
    · intro i k h1; exact hh.lt l k ((hown1 i k).1 h1).2
    · intro i k g h1; exact hh.free l k g ((hown1 i k).1 h1).2
    · intro i o bv h1 h2
      cases i with
      | zero =>
        simp at h1 h2
        subst h1; subst h2
        exact ⟨hz, n', xs, ho1, hsn vs ws xs hws ho2, ho3⟩
      | succ i => simp at h1
    · intro i k h1; exact hnew l k ((hown1 i k).1 h1).2
    · simp only [Rep]
      refine ⟨⟨by simp, by simp [fut]⟩, hform, fun _ => ?_⟩
      have := hrl (by simp [objCells, hobj])
      simpa using this
  unfold finish at hf
  simp only at hf
  split at hf
  · split at hf
    · rename_i sz l ver n
      split at hf
      · rename_i v' s' vs t hobj
        split at hf
        · rename_i hcond
          obtain ⟨rfl, rfl, hlen⟩ := hcond
          cases hws : snapL false (x.h.set l .gone) vs with
          | none => rw [hws] at hf; cases hf
          | some ws =>
            rw [hws] at hf
            injection hf with hf
            injection hf with hf1 hf2
            subst hf1; subst hf2
            obtain ⟨a1, a2, a3, a4, _⟩ := hrow _ l _ n v vs t hobj hr ws hws
            exact ⟨a1, _, a2, a3, a4⟩
        · cases hf
      · cases hf
    · rename_i sz l ver n rest
      split at hf
      · rename_i v' s' vs t hobj
        split at hf
        · rename_i hcond
          obtain ⟨rfl, rfl, hlen⟩ := hcond
          cases hws : snapL false (x.h.set l .gone) vs with
          | none => rw [hws] at hf; cases hf
          | some ws =>
            rw [hws] at hf
            simp only [Option.bind_some] at hf
            cases hrs : snapL false (x.h.set l .gone) rest with
            | none => rw [hrs] at hf; cases hf
            | some rs =>
              rw [hrs] at hf
              injection hf with hf
              injection hf with hf1 hf2
              subst hf1; subst hf2
              simp only [Rep] at hr
              obtain ⟨us, rfl, hrl⟩ := hr
              simp only [RepL] at hrl
              obtain ⟨u, us, rfl, h1, h2⟩ := hrl
              obtain ⟨a1, a2, a3, a4, a5⟩ := hrow _ l _ n u vs t hobj h1 ws hws
              exact ⟨a1, _, a2, a3, _, rfl, u, us, rfl, a4, a5 rest rs us hrs h2⟩
        · cases hf
      · cases hf
    · exact hplain hf
  · exact hplain hf

/-- What is asked of the program and of what the evaluation takes for it. -/
structure EnvOk (P : Program) (E : Env) : Prop where
  fns : ∀ f fn, E.fns f = some fn → ∃ func, P.funcs[f]? = some func ∧ chkFn P func fn = true
  prim : ∀ f p, E.prim f = some p → ∀ args r objs, p args = some (r, objs) → CallSpec P f args r objs
  primM : ∀ f p, E.primM f = some p → ∀ vals h r h', p vals h = some (r, h') → CallSpecM P f vals h r h' := by intro f p h; cases h
  seq : SeqsOk P E := by intro f q h; cases h
  rd : ∀ f x h v, fldQ h (E.rd f) x = some v → CallSpecM P f [x] h v h := by intro f x h v hv; cases x <;> cases hv
  mkr : ∀ f x h r h', mkK h (E.mkr f) x = some (r, h') → CallSpecM P f [x] h r h' := by intro f x h r h' hv; cases hv

theorem callFn_sound (hcalls : CallsOk P E call) (hseq : SeqsOk P E) {f : FuncId} {func : Func} {fn : Fn_} (hf : P.funcs[f]? = some func) (hc : chkFn P func fn = true) {k : Nat} {args : List AV} {res : AV × Heap} (he : evFn E call k fn args [] = some res) {r' : AV} {objs : Heap}
    (hfin : finish (E.keep f) res = some (r', objs)) : CallSpec P f args r' objs := by
  rw [evFn_eq] at he
  split at he
  case isFalse => cases he
  case isTrue hlen =>
    have hc' := hc
    unfold chkFn at hc'
    simp only [Bool.and_eq_true, beq_iff_eq, decide_eq_true_eq, Bool.not_eq_true'] at hc'
    obtain ⟨⟨⟨⟨⟨h1, h2⟩, h3⟩, h4⟩, _⟩, _⟩ := hc'
    have hbody : ∃ c, func.body = some c ∧ chkC P fn.ntmps c fn.body = true := by
      cases hb : func.body with
      | none => rw [hb] at h4; cases h4
      | some c => rw [hb] at h4; exact ⟨c, rfl, h4⟩
    obtain ⟨c, hb, hcc⟩ := hbody
    have hout : ∃ e y r, evC E call k fn.body ⟨enumFrom 0 args, []⟩ = some (e, y) ∧ (e = .norm ∨ e = .ret) ∧ resOf y.s y.h fn.results = some r ∧ res = (r, y.h) := by
      have hbit : ∀ y : St, (resOf y.s y.h fn.results).map (·, y.h) = some res → ∃ r, resOf y.s y.h fn.results = some r ∧ res = (r, y.h) := by
        intro y hy
        cases hr : resOf y.s y.h fn.results with
        | none => rw [hr] at hy; cases hy
        | some r => rw [hr] at hy; injection hy with hy; exact ⟨r, rfl, hy.symm⟩
      cases hev : evC E call k fn.body ⟨enumFrom 0 args, []⟩ with
      | none => rw [hev] at he; cases he
      | some p =>
        obtain ⟨e, y⟩ := p
        rw [hev] at he
        cases e with
        | norm => obtain ⟨r, h1, h2⟩ := hbit y he; exact ⟨_, y, r, rfl, .inl rfl, h1, h2⟩
        | ret => obtain ⟨r, h1, h2⟩ := hbit y he; exact ⟨_, y, r, rfl, .inr rfl, h1, h2⟩
        | exit i => cases he
    obtain ⟨e, y, r0, hev, hex, hr0, hres⟩ := hout
    subst hres
    -- the rows that are handed back hold no memory of the run's own: asked once, of no world
    have hno : ∀ o ∈ objs, objNoOwn o := by
      unfold finish at hfin
      simp only at hfin
      have hplain : ((snap false y.h depth r0).map fun r => (r, ([] : Heap))) = some (r', objs) → ∀ o ∈ objs, objNoOwn o := by
        intro hp
        cases hs : snap false y.h depth r0 with
        | none => rw [hs] at hp; cases hp
        | some z => rw [hs] at hp; injection hp with hp; injection hp with _ hp; subst hp; simp
      split at hfin
      · split at hfin
        · rename_i sz l ver n
          split at hfin
          · rename_i v' s' vs t hobj
            split at hfin
            · cases hws : snapL false (y.h.set l .gone) vs with
              | none => rw [hws] at hfin; cases hfin
              | some ws =>
                rw [hws] at hfin
                injection hfin with hfin
                injection hfin with _ hfin
                subst hfin
                intro o ho
                simp at ho
                subst ho
                exact snapL_noOwn depth vs ws hws
            · cases hfin
          · cases hfin
        · rename_i sz l ver n rest
          split at hfin
          · rename_i v' s' vs t hobj
            split at hfin
            · cases hws : snapL false (y.h.set l .gone) vs with
              | none => rw [hws] at hfin; cases hfin
              | some ws =>
                rw [hws] at hfin
                simp only [Option.bind_some] at hfin
                cases hrs : snapL false (y.h.set l .gone) rest with
                | none => rw [hrs] at hfin; cases hfin
                | some rs =>
                  rw [hrs] at hfin
                  injection hfin with hfin
                  injection hfin with _ hfin
                  subst hfin
                  intro o ho
                  simp at ho
                  subst ho
                  exact snapL_noOwn depth vs ws hws
            · cases hfin
          · cases hfin
        · exact hplain hfin
      · exact hplain hfin
    refine ⟨⟨func, hf, h1, by rw [hb]; rfl⟩, hno, fun Bad w us hbad hrep => ?_⟩
    have hul : us.toArray.size = fn.nparams := by rw [List.size_toArray, ← hrep.length, hlen]
    have hi : Inv Bad [] w { tmps := us.toArray ++ Array.replicate (func.ntmps - us.toArray.size) undef, defers := [] } fn.ntmps w.heap.size ⟨enumFrom 0 args, []⟩ := by
      refine ⟨⟨rfl, ?_, ?_, ?_, hbad, ?_⟩, fun t => ?_, ?_, trivial, Nat.le_refl _⟩
      · rintro l l' k ⟨bv, h1, _⟩; simp at h1
      · rintro l k ⟨bv, h1, _⟩; simp at h1
      · rintro l k g ⟨bv, h1, _⟩; simp at h1
      · intro l o bv h1; simp at h1
      · have hF : FOf Bad [] = Bad := by
          funext g k
          refine propext ⟨?_, .inl⟩
          rintro (h1 | ⟨l, bv, h1, _⟩)
          · exact h1
          · simp at h1
        rw [hF]
        show Rep (get (enumFrom 0 args) t) _ _ _ _ _
        rw [get_enum, if_pos (Nat.zero_le _), Nat.sub_zero]
        cases hx : args[t]? with
        | none => trivial
        | some x =>
          obtain ⟨u, hu, hxu⟩ := RepL.at hrep hx
          have : (us.toArray ++ Array.replicate (func.ntmps - us.toArray.size) undef).getD t undef = u := by
            have ht : t < us.toArray.size := by rw [List.size_toArray]; exact (List.getElem?_eq_some_iff.1 hu).1
            rw [Array.getD_eq_getD_getElem?, Array.getElem?_append_left ht]
            simpa using congrArg (Option.getD · undef) hu
          rw [this]
          exact hxu
      · rw [Array.size_append, Array.size_replicate, hul, h2]; omega
    refine callsIn_wide.1 (callsIn_of_wp_marks (F := Fence.wide) (n := 0) hf hb trivial (evC_sound (mm := 0) hcalls hseq c fn.body hcc hi hev fun β' w' a' hst hi' => ?_))
    have hpost : LeavesInM Fence.wide 0 P func a'.tmps (fun e w' => ∃ v βr, e = .returned v ∧ Below w.heap.size w w' ∧ HeapRel Bad βr objs w' ∧ (∀ l k, Owns βr l k → w.heap.size ≤ k) ∧ Rep r' βr objs (FOf Bad βr) w' v) a'.defers .returning w' := by
      refine leaves_marks (Nat.le_refl _) (fun w2 hst2 hs2 => ?_) _ _ hst hi'.slots hi'.defers
      obtain ⟨u0, hu0, hru0⟩ := resOf_run (a := { a' with defers := [] }) (n := fn.ntmps) (D := 0) ⟨hst2.rel, hs2, hi'.size, trivial, Nat.zero_le _⟩ hc hr0
      refine ⟨u0, hu0, ?_⟩
      obtain ⟨_, βr, b1, b2, b3⟩ := finish_sound hst2.rel hst2.since hru0 hfin
      have hbel : Below w.heap.size w w2 := ⟨hst2.since.os, hst2.since.tape, hst2.since.output, hst2.since.size, fun k hk => hst2.since.same k hk (by rintro ⟨l, bv, h1, _⟩; simp at h1)⟩
      exact ⟨_, βr, rfl, hbel, b1, b2, b3⟩
    rcases hex with rfl | rfl
    · exact hpost
    · exact hpost

theorem callFn_soundM (hcalls : CallsOk P E call) (hseq : SeqsOk P E) {f : FuncId} {func : Func} {fn : Fn_} (hf : P.funcs[f]? = some func) (hc : chkFn P func fn = true) {k : Nat} {args : List AV} {h : Heap} {r : AV} {h' : Heap} (he : evFn E call k fn args h = some (r, h')) : CallSpecM P f args h r h' := by
  rw [evFn_eq] at he
  split at he
  case isFalse => cases he
  case isTrue hlen =>
    have hc' := hc
    unfold chkFn at hc'
    simp only [Bool.and_eq_true, beq_iff_eq, decide_eq_true_eq, Bool.not_eq_true'] at hc'
    obtain ⟨⟨⟨⟨⟨h1, h2⟩, h3⟩, h4⟩, _⟩, _⟩ := hc'
    have hbody : ∃ c, func.body = some c ∧ chkC P fn.ntmps c fn.body = true := by
      cases hb : func.body with
      | none => rw [hb] at h4; cases h4
      | some c => rw [hb] at h4; exact ⟨c, rfl, h4⟩
    obtain ⟨c, hb, hcc⟩ := hbody
    have hout : ∃ e y r0, evC E call k fn.body ⟨enumFrom 0 args, h⟩ = some (e, y) ∧ (e = .norm ∨ e = .ret) ∧ resOf y.s y.h fn.results = some r0 ∧ (r, h') = (r0, y.h) := by
      have hbit : ∀ y : St, (resOf y.s y.h fn.results).map (·, y.h) = some (r, h') → ∃ r0, resOf y.s y.h fn.results = some r0 ∧ (r, h') = (r0, y.h) := by
        intro y hy
        cases hr : resOf y.s y.h fn.results with
        | none => rw [hr] at hy; cases hy
        | some r => rw [hr] at hy; injection hy with hy; exact ⟨r, rfl, hy.symm⟩
      cases hev : evC E call k fn.body ⟨enumFrom 0 args, h⟩ with
      | none => rw [hev] at he; cases he
      | some p =>
        obtain ⟨e, y⟩ := p
        rw [hev] at he
        cases e with
        | norm => obtain ⟨r, h1, h2⟩ := hbit y he; exact ⟨_, y, r, rfl, .inl rfl, h1, h2⟩
        | ret => obtain ⟨r, h1, h2⟩ := hbit y he; exact ⟨_, y, r, rfl, .inr rfl, h1, h2⟩
        | exit i => cases he
    obtain ⟨e, y, r0, hev, hex, hr0, hres⟩ := hout
    injection hres with hres1 hres2
    subst hres1; subst hres2
    refine ⟨⟨func, hf, h1, by rw [hb]; rfl⟩, fun Bad β w us hh hrep => ?_⟩
    have hul : us.toArray.size = fn.nparams := by rw [List.size_toArray, ← hrep.length, hlen]
    have hi : Inv Bad β w { tmps := us.toArray ++ Array.replicate (func.ntmps - us.toArray.size) undef, defers := [] } fn.ntmps w.heap.size ⟨enumFrom 0 args, h⟩ := by
      refine ⟨hh, fun t => ?_, ?_, trivial, Nat.le_refl _⟩
      · show Rep (get (enumFrom 0 args) t) _ _ _ _ _
        rw [get_enum, if_pos (Nat.zero_le _), Nat.sub_zero]
        cases hx : args[t]? with
        | none => trivial
        | some x =>
          obtain ⟨u, hu, hxu⟩ := RepL.at hrep hx
          have : (us.toArray ++ Array.replicate (func.ntmps - us.toArray.size) undef).getD t undef = u := by
            have ht : t < us.toArray.size := by rw [List.size_toArray]; exact (List.getElem?_eq_some_iff.1 hu).1
            rw [Array.getD_eq_getD_getElem?, Array.getElem?_append_left ht]
            simpa using congrArg (Option.getD · undef) hu
          rw [this]
          exact hxu
      · rw [Array.size_append, Array.size_replicate, hul, h2]; omega
    refine callsIn_wide.1 (callsIn_of_wp_marks (F := Fence.wide) (n := 0) hf hb trivial (evC_sound (mm := 0) hcalls hseq c fn.body hcc hi hev fun β' w' a' hst hi' => ?_))
    have hpost : LeavesInM Fence.wide 0 P func a'.tmps (fun e w' => ∃ v β', e = .returned v ∧ Step Bad β h w β' y.h w' ∧ Rep r β' y.h (FOf Bad β') w' v) a'.defers .returning w' := by
      refine leaves_marks (Nat.le_refl _) (fun w2 hst2 hs2 => ?_) _ _ hst hi'.slots hi'.defers
      obtain ⟨u0, hu0, hru0⟩ := resOf_run (a := { a' with defers := [] }) (n := fn.ntmps) (D := 0) ⟨hst2.rel, hs2, hi'.size, trivial, Nat.zero_le _⟩ hc hr0
      exact ⟨u0, hu0, _, β', rfl, hst2, hru0⟩
    rcases hex with rfl | rfl
    · exact hpost
    · exact hpost

theorem callN_ok (hE : EnvOk P E) : ∀ n, CallsOk P E (callN E n)
  | 0 => by
    refine ⟨?_, ?_, hE.rd, hE.mkr⟩
    · intro f args r objs h
      unfold pcallOf at h
      split at h
      · rename_i p hp; exact hE.prim f p hp args r objs h
      · cases h
    · intro f vals hp r h' h
      unfold doCallM at h
      split at h
      · cases h
      · split at h
        · rename_i p hp; exact hE.primM f p hp vals _ r h' h
        · cases h
  | n + 1 => by
    refine ⟨?_, ?_, hE.rd, hE.mkr⟩
    · intro f args r objs h
      unfold pcallOf at h
      split at h
      · rename_i p hp; exact hE.prim f p hp args r objs h
      · cases hcall : callN E (n + 1) f args [] with
        | none => rw [hcall] at h; cases h
        | some res =>
          rw [hcall] at h
          simp only [Option.bind_some] at h
          simp only [callN] at hcall
          split at hcall
          · rename_i fn hfn
            obtain ⟨func, hf, hc⟩ := hE.fns f fn hfn
            exact callFn_sound (callN_ok hE n) hE.seq hf hc hcall h
          · cases hcall
    · intro f vals hp r h' h
      unfold doCallM at h
      split at h
      · cases h
      · split at h
        · rename_i p hp; exact hE.primM f p hp vals _ r h' h
        · simp only [callN] at h
          split at h
          · rename_i fn hfn
            obtain ⟨func, hf, hc⟩ := hE.fns f fn hfn
            exact callFn_soundM (callN_ok hE n) hE.seq hf hc h
          · cases h

/-- WHAT A CALL'S EVALUATION SAYS, THE MACHINE DOES. -/
theorem pcall_sound (hE : EnvOk P E) {f : FuncId} {args : List AV} {r : AV} {objs : Heap} (h : pcall E f args = some (r, objs)) : CallSpec P f args r objs := by
  unfold pcall pcallOf at h
  split at h
  · rename_i p hp; exact hE.prim f p hp args r objs h
  · rename_i hp
    cases hcall : Fw.call E f args [] with
    | none => rw [hcall] at h; cases h
    | some res =>
      obtain ⟨n, hn⟩ := of_sup hcall
      rw [hcall] at h
      refine (callN_ok hE n).1 f args r objs ?_
      unfold pcallOf
      rw [hp, hn]
      exact h

end
end Go.Fw
