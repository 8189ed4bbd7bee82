/-
  maps.Keys of a map with one entry at most: what is handed on. Conditions: none.
-/
import Derived.Test.YtefkoichicalfaaWdMfree
import Derived.RangeFuncNested
import Derived.RangeFuncBound
import Derived.TacticsInMore
import Derived.LoopNIn
import Derived.LoopIn
import Derived.OwnWalkIn
import Derived.Shelf.AbstractIn
import Derived.Sort.MapsRangeIn
set_option linter.unusedVariables false
set_option linter.unusedSimpArgs false
namespace Go.Fw.Wd
open Go.Proofs Go.RowKit Code_ Go.Maps

theorem ranges_at {H : Type} {P : Program} {k : TypeId} {R : Value → Option (DataW H × List MemPlace)} {w w' : World} {b r n : Nat} {D : DataW H} {left : Lit → Bool} {cnt : Nat} (h : w.ranges P k R b r n D left cnt) (h1 : w'.heap[b]? = w.heap[b]?) (h2 : w'.heap[r]? = w.heap[r]?) : w'.ranges P k R b r n D left cnt := by
  obtain ⟨es, clock, since, seen, c0, hb, F, hs, hD, hr, rest⟩ := h
  exact ⟨es, clock, since, seen, c0, h1.trans hb, F, hs, hD, h2.trans hr, rest⟩
def hd1 (el : Ents) : List (List PE) := el.map fun p => [⟨false, [p.1]⟩]
def posK : World → Nat := fun _ => 0
set_option maxRecDepth 100000 in
set_option maxHeartbeats 1000000 in
theorem keys1_calls (B o l n : Nat) (hn : 1 ≤ n) (sp : Option Nat) (b : Nat) (k : PV) (v : PE) (w : World) (h0 : w.cell? ⟨B, o, sp⟩ = some (.map (some b))) (hm : mapIs w b (.int .u32) [(k, v)])
    (J : Nat → World → Prop) (Jx : World → Prop) (hJ0 : ∀ W, Below w.heap.size w W → J 0 W) (hJ : ∀ i W W', J i W → Below W.heap.size W W' → J i W')
    (hY : ∀ W, J 0 W → w.heap.size ≤ W.heap.size → YieldAt Fence.wide (n - 1) Try.prog l #[k.val] W fun e W' => W.heap.size ≤ W'.heap.size ∧ (∀ k, w.heap.size ≤ k → k < W.heap.size → W'.heap[k]? = W.heap[k]?) ∧ W'.heap[b]? = W.heap[b]? ∧
        ((e = .returned (.bool true) ∧ J 1 W') ∨ (e = .returned (.bool false) ∧ Jx W'))) :
    CallsIn Fence.wide n Try.prog 72 (#[.func (.yield l) #[] #[]] ++ #[.pointer (some ⟨B, o, sp⟩)]) w fun e W' => (∃ v, e = .returned v) ∧ (J 1 W' ∨ Jx W') := by
  have HL : Held (mapIs w b (.int .u32) [(k, v)]) := hm
  clear hm
  refine callsIn_of_wp Try.func72 rfl trivial ?_ rfl
  simp only [Try.ntmps72, List.size_toArray, List.length_cons, List.length_nil, Nat.reduceAdd, Nat.reduceSub, Array.replicate_succ, Array.replicate_zero, List.push_toArray, List.append_toArray, List.nil_append, List.cons_append]
  gi_wp2_with (first
    | (gi_at_range; have hl' : mapIs _ b (.int .u32) [(k, v)] := HL; refine wpListIn_range_own _ rfl _ 88 rfl 23 30 (keyed (P := Try.prog) (k := 23) (kk := .int .u32) Try.underlying23) Try.underlying88 rdV b 1 (mapD [(k, v)]) rfl (hl'.own (P := Try.prog) (k := 23) Try.underlying23) ?_; intro w0 hrg0 hg0 hs0)
    | gi_in)
  go_frame
  gi_loopw [6] (fun _ wr => ∃ (left : Lit → Bool) (cnt : Nat), wr.ranges Try.prog 23 rdV b w.heap.size 1 (mapD [(k, v)]) left cnt ∧ w.heap.size < wr.heap.size ∧ ((Below w.heap.size w wr ∧ left = has (mapD [(k, v)])) ∨ (J 1 wr ∧ ∀ kl, left kl = false)))
    (fun _ wr => wr.rangeLeft b w.heap.size)
  case atStart =>
    refine ⟨_, _, hrg0, by omega, .inl ⟨(Below.refl _ w).grown hg0 (Nat.le_refl _) (fun j hj => by cases hj), rfl⟩⟩
  case round =>
    obtain ⟨left, cnt, hrg, hsz, hcase⟩ := hrel
    gi_wp2_with (first
      | (gi_at_next; refine wpListIn_next_ranges _ rfl _ rfl 23 (keyed (P := Try.prog) (k := 23) (kk := .int .u32) Try.underlying23) rdV id id (fun key _ _ => ⟨key, rfl⟩) (fun v _ _ => ⟨v, rfl⟩) b w.heap.size 1 _ _ _ rfl hrg ?_ ?_)
      | gi_in)
    · intro hc0 hl0
      gi_wp2
      go_end0
      refine ⟨⟨_, rfl⟩, .inl ?_⟩
      rcases hcase with ⟨_, he⟩ | ⟨hJ1, _⟩
      · have h1 := hl0 k.lit
        rw [he, has_mapD] at h1
        simp [mget, keq_self] at h1
      · exact hJ1
    · intro x c kl yd yp w2 cnt2 hkey hlx hv hat hrg2 hlt hg2 hs2 hen
      rcases hcase with ⟨hBw, he⟩ | ⟨_, hno⟩
      case inr => rw [hno] at hlx; cases hlx
      have hxk : x = k.val ∧ kl = k.lit := by
        obtain ⟨m, hx, hkl, _⟩ := keyOf_int_inv Try.underlying23 hkey
        have hx : x = .int .u32 m := hx
        rw [he] at hlx
        obtain ⟨q, hq, hqk, _⟩ := entry_at (s := .i .u32 m) (by rw [← show kl = (PV.i .u32 m).lit from hkl]; exact hlx)
        rw [List.mem_singleton] at hq
        subst hq
        have this : k = .i .u32 m := lit_inj (keq_lit hqk)
        exact ⟨by rw [hx, this]; rfl, by rw [hkl, this]; rfl⟩
      obtain ⟨rfl, rfl⟩ := hxk
      have hB2 : Below w.heap.size w w2 := hBw.grown hg2 (by omega) (fun j hj => by cases hj; exact Nat.le_refl _)
      obtain ⟨fn, tmps, assign, body, hy, hR⟩ := hY w2 (hJ0 _ hB2) (by omega)
      clear hs2
      gi_wp2
      refine hR.mono ?_
      rintro e W3 ⟨hsz3, hk3, hb3, ⟨rfl, hJ3⟩ | ⟨rfl, hJx3⟩⟩
      · gi_wp2
        have hrg3 := ranges_at hrg2 hb3 (hk3 _ (Nat.le_refl _) (by have := hg2.size; omega))
        go_roundw
        case rel => exact ⟨_, cnt2, hrg3, by have := hg2.size; omega, .inr ⟨hJ3, fun z => by
          rw [he]
          cases hh : has (mapD [(k, v)]) z with
          | false => rfl
          | true =>
            simp [mapD, Maps.has, datE] at hh
            have hz : k.lit = z := WideAt.sameKey_eq hh
            subst hz
            have := keq_self k
            unfold keq at this
            rw [this]
            rfl⟩⟩
        case measure => rw [hrg3.left_eq, hrg.left_eq]; exact hlt
      · gi_wp2
        refine bodyPost_ret (results_none rfl _ _ _) rfl ?_
        exact ⟨⟨_, rfl⟩, .inr hJx3⟩
set_option maxRecDepth 100000 in
set_option maxHeartbeats 400000 in
theorem keys0_calls (B o l : Nat) (sp : Option Nat) (b : Nat) (w : World) (h0 : w.cell? ⟨B, o, sp⟩ = some (.map (some b))) (hm : mapIs w b (.int .u32) []) :
    Calls Try.prog 72 #[.func (.yield l) #[] #[], .pointer (some ⟨B, o, sp⟩)] w fun e w' => (∃ v, e = .returned v) ∧ Below w.heap.size w w' := by
  have HL : Held (mapIs w b (.int .u32) []) := hm
  clear hm
  go_enter Try.func72, Try.ntmps72
  go_wp2_with (first
    | (at_range; have hl' : mapIs _ b (.int .u32) [] := HL; refine wpList_range_own _ rfl _ 88 rfl 23 30 (keyed (P := Try.prog) (k := 23) (kk := .int .u32) Try.underlying23) Try.underlying88 rdV b 0 (mapD []) rfl (hl'.own (P := Try.prog) (k := 23) Try.underlying23) ?_; intro w0 hrg0 hg0 hs0)
    | go_in)
  go_frame
  go_loopw [6] (fun _ wr => ∃ (left : Lit → Bool) (cnt : Nat), wr.ranges Try.prog 23 rdV b w.heap.size 0 (mapD []) left cnt ∧ w.grownBy wr none ∧ (∀ kl, left kl = true → has (mapD []) kl = true))
    (fun _ wr => wr.rangeLeft b w.heap.size)
  case atStart => exact ⟨_, _, hrg0, hg0, fun _ h => h⟩
  case round =>
    obtain ⟨left, cnt, hrg, hgw, hle⟩ := hrel
    go_wp2_with (first
      | (at_next; refine wpList_next_ranges _ rfl _ rfl 23 (keyed (P := Try.prog) (k := 23) (kk := .int .u32) Try.underlying23) rdV id id (fun key _ _ => ⟨key, rfl⟩) (fun v _ _ => ⟨v, rfl⟩) b w.heap.size 0 _ _ _ rfl hrg ?_ ?_)
      | go_in)
    · intro _ hl0
      go_wp2
      go_end0
      exact ⟨⟨_, rfl⟩, (Below.refl _ w).grown hgw (Nat.le_refl _) (fun j hj => by cases hj)⟩
    · intro x c kl yd yp w1 cnt1 hkey hlx hv hat hrg1 hlt hg1 hs1 hen
      have := hle _ hlx
      simp [mapD, Maps.has] at this
/-- What maps.Keys hands on, of a map with one entry at most. -/
def keysP : List AV → Heap → Option (List (List PE))
  | [.rp _ (.rm _ (.int .u32) [])], _ => some []
  | [.rp _ (.rm _ (.int .u32) [(k, _)])], _ => some [[⟨false, [k]⟩]]
  | _, _ => none
theorem keysP_spec : ∀ cap h items, keysP cap h = some items → SeqSpec Try.prog 72 cap h items := by
  intro cap h items hk
  unfold keysP at hk
  split at hk
  · injection hk with hk
    subst hk
    refine ⟨⟨_, Try.func72, by kernel_rfl, by kernel_rfl⟩, fun Bad β w us hh hrep m l J Jx hJ0 hJ hJx hY => ?_⟩
    obtain ⟨v1, us1, rfl, hv1, hr⟩ := hrep
    have hr : us1 = [] := hr
    subst hr
    obtain ⟨⟨B, o, sp⟩, u, rfl, hu, hro⟩ := hv1
    obtain ⟨b, rfl, _, hm⟩ := hu
    obtain ⟨ad, e1, _, e2, _⟩ := hro 0 (.map (some b)) (by simp [Value.cells])
    injection e1 with e1
    subst e1
    refine callsIn_wide.2 ((keys0_calls B o l sp b w e2 hm).mono ?_)
    rintro e w' ⟨hv, hB⟩
    exact ⟨hv, .inl (hJ0 w' hB)⟩
  · rename_i g1 g2 k v
    injection hk with hk
    subst hk
    refine ⟨⟨_, Try.func72, by kernel_rfl, by kernel_rfl⟩, fun Bad β w us hh hrep m l J Jx hJ0 hJ hJx hY => ?_⟩
    obtain ⟨v1, us1, rfl, hv1, hr⟩ := hrep
    have hr : us1 = [] := hr
    subst hr
    obtain ⟨⟨B, o, sp⟩, u, rfl, hu, hro⟩ := hv1
    obtain ⟨b, rfl, hf, hm⟩ := hu
    obtain ⟨ad, e1, _, e2, _⟩ := hro 0 (.map (some b)) (by simp [Value.cells])
    injection e1 with e1
    subst e1
    have hbk : bk w b = false := by
      obtain ⟨es', ck, hb⟩ : ∃ es' c, w.heap[b]? = some (.map es' c) := by
        obtain ⟨hw, P, k, hk, es', c, h2, r⟩ := hm
        exact ⟨es', c, h2⟩
      unfold bk
      rw [hb]
    have hno : ¬ ∃ l, Owns β l b := fun h => hf (.inr h)
    refine keys1_calls B o l (m + 1) (by omega) sp b k v w e2 hm J Jx hJ0 hJ (fun W hJW hsz => ?_)
    refine (hY 0 _ W rfl hJW hsz).mono ?_
    rintro e W' ⟨h1, h2, h3, h4⟩
    exact ⟨h1, h2, h3 b hm.lt hbk hno, h4⟩
  · cases hk
end Go.Fw.Wd
