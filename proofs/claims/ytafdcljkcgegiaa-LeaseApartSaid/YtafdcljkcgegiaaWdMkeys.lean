/-
  maps.Keys of a map without entries: nothing is handed on. Conditions: none.
-/
import Derived.Test.YtafdcljkcgegiaaWdMfree
set_option linter.unusedVariables false
set_option linter.unusedSimpArgs false
namespace Go.Fw.Wd
open Go.Proofs Go.RowKit Code_ Go.Maps

set_option maxRecDepth 100000 in
set_option maxHeartbeats 400000 in
theorem keys0_calls (B o l : Nat) (sp : Option Nat) (b : Nat) (w : World) (h0 : w.cell? ⟨B, o, sp⟩ = some (.map (some b))) (hm : mapIs w b (.int .u32) []) :
    Calls Try.prog 57 #[.func (.yield l) #[] #[], .pointer (some ⟨B, o, sp⟩)] w fun e w' => (∃ v, e = .returned v) ∧ Below w.heap.size w w' := by
  have HL : Held (mapIs w b (.int .u32) []) := hm
  clear hm
  go_enter Try.func57, Try.ntmps57
  go_wp2_with (first
    | (at_range; have hl' : mapIs _ b (.int .u32) [] := HL; refine wpList_range_own _ rfl _ 67 rfl 22 25 (keyed (P := Try.prog) (k := 22) (kk := .int .u32) Try.underlying22) Try.underlying67 rdV b 0 (mapD []) rfl (hl'.own (P := Try.prog) (k := 22) Try.underlying22) ?_; intro w0 hrg0 hg0 hs0)
    | go_in)
  go_frame
  go_loopw [6] (fun _ wr => ∃ (left : Lit → Bool) (cnt : Nat), wr.ranges Try.prog 22 rdV b w.heap.size 0 (mapD []) left cnt ∧ w.grownBy wr none ∧ (∀ kl, left kl = true → has (mapD []) kl = true))
    (fun _ wr => wr.rangeLeft b w.heap.size)
  case atStart => exact ⟨_, _, hrg0, hg0, fun _ h => h⟩
  case round =>
    obtain ⟨left, cnt, hrg, hgw, hle⟩ := hrel
    go_wp2_with (first
      | (at_next; refine wpList_next_ranges _ rfl _ rfl 22 (keyed (P := Try.prog) (k := 22) (kk := .int .u32) Try.underlying22) rdV id id (fun key _ _ => ⟨key, rfl⟩) (fun v _ _ => ⟨v, rfl⟩) b w.heap.size 0 _ _ _ rfl hrg ?_ ?_)
      | go_in)
    · intro _ hl0
      go_wp2
      go_end0
      exact ⟨⟨_, rfl⟩, (Below.refl _ w).grown hgw (Nat.le_refl _) (fun j hj => by cases hj)⟩
    · intro x c kl yd yp w1 cnt1 hkey hlx hv hat hrg1 hlt hg1 hs1 hen
      have := hle _ hlx
      simp [mapD, Maps.has] at this
/-- What maps.Keys of a map without entries hands on. -/
def keysP : List AV → Heap → Option (List (List PE))
  | [.rp _ (.rm _ (.int .u32) [])], _ => some []
  | _, _ => none
theorem keysP_spec : ∀ cap h items, keysP cap h = some items → SeqSpec Try.prog 57 cap h items := by
  intro cap h items hk
  unfold keysP at hk
  split at hk
  · injection hk with hk
    subst hk
    refine ⟨⟨_, Try.func57, by kernel_rfl, by kernel_rfl⟩, fun Bad β w us hh hrep m l J Jx hJ0 hJ hJx hY => ?_⟩
    obtain ⟨v1, us1, rfl, hv1, hr⟩ := hrep
    have hr : us1 = [] := hr
    subst hr
    obtain ⟨⟨B, o, sp⟩, u, rfl, hu, hro⟩ := hv1
    obtain ⟨b, rfl, _, hm⟩ := hu
    obtain ⟨ad, e1, _, e2, _⟩ := hro 0 (.map (some b)) (by simp [Value.cells])
    injection e1 with e1
    subst e1
    refine callsIn_wide.2 ((keys0_calls B o l sp b w e2 hm).mono ?_)
    rintro e w' ⟨hv, hB⟩
    exact ⟨hv, .inl (hJ0 w' hB)⟩
  · cases hk
end Go.Fw.Wd
