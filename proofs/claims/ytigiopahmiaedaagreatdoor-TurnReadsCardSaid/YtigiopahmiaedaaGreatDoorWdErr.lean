/-
  why.Errno and why.Reason at no error, and at a fault that wraps an error of the api's. Conditions: stated at each.
-/
import Derived.Test.YtigiopahmiaedaaGreatDoorWdAt2
import Derived.Below
import Derived.Test.YtigiopahmiaedaaGreatDoorWdEnv
set_option linter.unusedVariables false
set_option linter.unusedSimpArgs false
namespace Go.Fw.Wd
open Go.Proofs Go.RowKit Go.Extern.Stop Go.Stop Go.Extern Code_

theorem errno_nil (w : World) : Calls Tryz.prog 44 #[.nilIface] w fun e w' => e = .returned (.int .i64 0) ∧ w' = w := by
  go_enter Tryz.func44, Tryz.ntmps44
  go_wp2
  go_ret
  exact ⟨rfl, rfl⟩
theorem of_zero (w : World) : Calls Tryz.prog 60 #[.int .i64 0] w fun e w' => e = .returned (.int .i64 0) ∧ w' = w := by
  go_enter Tryz.func60, Tryz.ntmps60
  go_wp2
  go_ret
  exact ⟨rfl, rfl⟩
theorem cell_lt {w : World} {a : Addr} {v : Value} (h : w.cell? a = some v) : a.block < w.heap.size := by
  rcases Nat.lt_or_ge a.block w.heap.size with h2 | h2
  · exact h2
  · simp [World.cell?, Array.getElem?_eq_none h2] at h
set_option maxHeartbeats 4000000 in
theorem errno_fault (pb po : Nat) (sp : Option Nat) (n : Int) (w : World) (hg : w.cell? ⟨0, 0, none⟩ = some (.iface 183 (.agg #[.pointer (some ⟨1, 36, none⟩)]))) (h1 : w.cell? ⟨pb, po + 1, none⟩ = some (.iface 43 (.int .i64 n))) :
    Calls Tryz.prog 44 #[.iface 119 (.pointer (some ⟨pb, po, sp⟩))] w fun e w' => e = .returned (.int .i64 n) ∧ Below w.heap.size w w' := by
  have hgA : (w.alloc (.cells #[.int .i64 0] 43)).cell? ⟨0, 0, none⟩ = some (.iface 183 (.agg #[.pointer (some ⟨1, 36, none⟩)])) := by
    rw [World.cell?_alloc_lt _ _ ⟨0, 0, none⟩ (cell_lt hg)]; exact hg
  have h1A : (w.alloc (.cells #[.int .i64 0] 43)).cell? ⟨pb, po + 1, none⟩ = some (.iface 43 (.int .i64 n)) := by
    rw [World.cell?_alloc_lt _ _ ⟨pb, po + 1, none⟩ (cell_lt h1)]; exact h1
  have htA : (w.alloc (.cells #[.int .i64 0] 43)).cell? ⟨w.heap.size, 0, none⟩ = some (.int .i64 0) := by simp
  have hfA : (w.alloc (.cells #[.int .i64 0] 43)).frozen? ⟨w.heap.size, 0, none⟩ = false := by simp
  go_enter Tryz.func44, Tryz.ntmps44
  go_wp2_with (first | (go_at_call 59; refine (at_hit _ _ _ n _ (.int .i64 0) _ hgA h1A htA hfA).mono ?_; rintro e w' ⟨rfl, rfl⟩))
  go_ret
  refine ⟨rfl, ?_⟩
  refine Below.alloc ?_ (by simp; omega) _
  refine Below.alloc ?_ (by simp; omega) _
  refine Below.alloc ?_ (by simp; omega) _
  refine Below.alloc ?_ (by simp) _
  exact Below.alloc (Below.refl _ _) (Nat.le_refl _) _
theorem reason_nil (w : World) : Calls Tryz.prog 23 #[.nilIface] w fun e w' => e = .returned (.int .i64 0) ∧ Below w.heap.size w w' := by
  go_enter Tryz.func23, Tryz.ntmps23
  go_wp2_with (first | (go_at_call 59; refine (as_nil _ _).mono ?_; rintro e w' ⟨rfl, rfl⟩) | (go_at_call 44; refine (errno_nil _).mono ?_; rintro e w' ⟨rfl, rfl⟩) | (go_at_call 60; refine (of_zero _).mono ?_; rintro e w' ⟨rfl, rfl⟩))
  go_ret
  exact ⟨rfl, Below.alloc (Below.refl _ _) (Nat.le_refl _) _⟩
set_option maxHeartbeats 4000000 in
theorem reason_fault (pb po : Nat) (sp : Option Nat) (r : Int) (w : World) (hg : w.cell? ⟨0, 0, none⟩ = some (.iface 183 (.agg #[.pointer (some ⟨1, 36, none⟩)]))) (h0 : w.cell? ⟨pb, po, sp⟩ = some (.int .i64 r)) :
    Calls Tryz.prog 23 #[.iface 119 (.pointer (some ⟨pb, po, sp⟩))] w fun e w' => e = .returned (.int .i64 r) ∧ Below w.heap.size w w' := by
  have hgA : (w.alloc (.cells #[.pointer none] 119)).cell? ⟨0, 0, none⟩ = some (.iface 183 (.agg #[.pointer (some ⟨1, 36, none⟩)])) := by
    rw [World.cell?_alloc_lt _ _ ⟨0, 0, none⟩ (cell_lt hg)]; exact hg
  have htA : (w.alloc (.cells #[.pointer none] 119)).cell? ⟨w.heap.size, 0, none⟩ = some (.pointer none) := by simp
  have hfA : (w.alloc (.cells #[.pointer none] 119)).frozen? ⟨w.heap.size, 0, none⟩ = false := by simp
  have hp : pb < w.heap.size := cell_lt h0
  have hne : pb ≠ w.heap.size := by
    have : pb < w.heap.size := hp
    omega
  have hsp : sp = none := by
    cases sp with
    | none => rfl
    | some k =>
      exfalso
      unfold World.cell? at h0
      split at h0 <;> simp at h0
  subst hsp
  have hx : (((((w.alloc (.cells #[.pointer (some ⟨pb, po, none⟩)] 119)).alloc (.cells #[.pointer (some ⟨w.heap.size, 0, none⟩)] 121)).alloc (.cells #[.pointer (some ⟨1, 121, none⟩), .pointer (some ⟨w.heap.size + 1, 0, none⟩), .int .u64 150] 155)).alloc (.cells #[.pointer (some ⟨1, 121, none⟩), .pointer (some ⟨w.heap.size + 1, 0, none⟩), .int .u64 150] 155)).alloc (.cells #[.pointer (some ⟨pb, po, none⟩)] 119)).cell? ⟨pb, po, none⟩ = some (.int .i64 r) := by
    rw [World.cell?_alloc_lt _ _ ⟨pb, po, none⟩ (by simp; omega), World.cell?_alloc_lt _ _ ⟨pb, po, none⟩ (by simp; omega), World.cell?_alloc_lt _ _ ⟨pb, po, none⟩ (by simp; omega), World.cell?_alloc_lt _ _ ⟨pb, po, none⟩ (by simp; omega), World.cell?_alloc_lt _ _ ⟨pb, po, none⟩ hp]
    exact h0
  go_enter Tryz.func23, Tryz.ntmps23
  go_wp2_with (first | (go_at_call 59; refine (as_hit ⟨pb, po, none⟩ _ (.pointer none) _ hgA htA hfA).mono ?_; rintro e w' ⟨rfl, rfl⟩))
  go_ret
  refine ⟨rfl, ?_⟩
  refine Below.alloc ?_ (by simp; omega) _
  refine Below.alloc ?_ (by simp; omega) _
  refine Below.alloc ?_ (by simp; omega) _
  refine Below.alloc ?_ (by simp) _
  exact Below.alloc (Below.refl _ _) (Nat.le_refl _) _

/-- What why.Errno answers, and why.Reason. -/
def errnoP : List AV → Option (AV × Heap)
  | [.nili] => some (.int .i64 0, [])
  | [.iface t (.rp g (.agg [.int .i64 r, .iface u (.int .i64 n)]))] => if t = 119 ∧ u = 43 then some (.int .i64 n, []) else none
  | _ => none
def reasonP : List AV → Option (AV × Heap)
  | [.nili] => some (.int .i64 0, [])
  | [.iface t (.rp g (.agg [.int .i64 r, .iface u (.int .i64 n)]))] => if t = 119 ∧ u = 43 then some (.int .i64 r, []) else none
  | _ => none
theorem laid_cell {Bad : Forb} {w : World} (h : BadOk Bad w) : w.cell? ⟨0, 0, none⟩ = some (.iface 183 (.agg #[.pointer (some ⟨1, 36, none⟩)])) := (h.2 _ (List.mem_singleton.2 rfl)).2
theorem fault_rep {Bad : Forb} {w : World} {g : Bool} {r n : Int} {v : Value} (hv : Rep (.iface 119 (.rp g (.agg [.int .i64 r, .iface 43 (.int .i64 n)]))) [] [] Bad w v) :
    ∃ pb po sp, v = .iface 119 (.pointer (some ⟨pb, po, sp⟩)) ∧ w.cell? ⟨pb, po, sp⟩ = some (.int .i64 r) ∧ w.cell? ⟨pb, po + 1, none⟩ = some (.iface 43 (.int .i64 n)) := by
  obtain ⟨y1, rfl, a, c, rfl, hc, hro⟩ := hv
  obtain ⟨cs, rfl, hcs, _⟩ := hc
  obtain ⟨c0, cs0, rfl, hc0, c1, cs1, rfl, hc1, hcs1⟩ := hcs
  have : cs1 = [] := hcs1
  subst this
  have : c0 = .int .i64 r := hc0
  subst this
  obtain ⟨z1, rfl, hz1⟩ := hc1
  have : z1 = .int .i64 n := hz1
  subst this
  obtain ⟨ad, h1, _, h2, _⟩ := hro 1 (.iface 43 (.int .i64 n)) (by simp [Value.cells])
  injection h1 with h1
  subst h1
  obtain ⟨ad, h1, _, h3, _⟩ := hro 0 (.int .i64 r) (by simp [Value.cells])
  injection h1 with h1
  subst h1
  obtain ⟨pb, po, sp⟩ := a
  exact ⟨pb, po, sp, rfl, h3, h2⟩
theorem int_spec {Bad : Forb} {w w' : World} (hbad : BadOk Bad w) (hb : Below w.heap.size w w') (n : Int) : ∃ v βr, Ending.returned (.int .i64 n) = .returned v ∧ Below w.heap.size w w' ∧ HeapRel Bad βr [] w' ∧ (∀ l k, Owns βr l k → w.heap.size ≤ k) ∧ Rep (.int .i64 n) βr [] (FOf Bad βr) w' v :=
  ⟨.int .i64 n, [], rfl, hb, heap_nil (hbad.below hb), fun l k hk => absurd hk (by simp [Owns]), rfl⟩
theorem errno_enter : EnterOk Tryz.prog 44 := ⟨_, Tryz.func44, by kernel_rfl, by kernel_rfl⟩
theorem reason_enter : EnterOk Tryz.prog 23 := ⟨_, Tryz.func23, by kernel_rfl, by kernel_rfl⟩
theorem errno_spec (args : List AV) (r : AV) (objs : Heap) (h : errnoP args = some (r, objs)) : CallSpec Tryz.prog 44 args r objs := by
  unfold errnoP at h
  split at h
  case h_3 => cases h
  · injection h with h
    injection h with h1 h2
    subst h1; subst h2
    refine ⟨errno_enter, by simp, fun Bad w us hbad hr => ?_⟩
    obtain ⟨v1, us1, rfl, hv1, hus⟩ := hr
    have : us1 = [] := hus
    subst this
    have : v1 = .nilIface := hv1
    subst this
    refine (errno_nil w).mono ?_
    rintro e w' ⟨rfl, rfl⟩
    exact int_spec hbad (Below.refl _ _) 0
  · rename_i t g r0 u n
    split at h
    case isFalse => cases h
    rename_i hc
    obtain ⟨rfl, rfl⟩ := hc
    injection h with h
    injection h with h1 h2
    subst h1; subst h2
    refine ⟨errno_enter, by simp, fun Bad w us hbad hr => ?_⟩
    obtain ⟨v1, us1, rfl, hv1, hus⟩ := hr
    have : us1 = [] := hus
    subst this
    obtain ⟨pb, po, sp, rfl, h3, h2⟩ := fault_rep hv1
    refine (errno_fault pb po sp n w (laid_cell hbad) h2).mono ?_
    rintro e w' ⟨rfl, hb⟩
    exact int_spec hbad hb n
theorem reason_spec (args : List AV) (r : AV) (objs : Heap) (h : reasonP args = some (r, objs)) : CallSpec Tryz.prog 23 args r objs := by
  unfold reasonP at h
  split at h
  case h_3 => cases h
  · injection h with h
    injection h with h1 h2
    subst h1; subst h2
    refine ⟨reason_enter, by simp, fun Bad w us hbad hr => ?_⟩
    obtain ⟨v1, us1, rfl, hv1, hus⟩ := hr
    have : us1 = [] := hus
    subst this
    have : v1 = .nilIface := hv1
    subst this
    refine (reason_nil w).mono ?_
    rintro e w' ⟨rfl, hb⟩
    exact int_spec hbad hb 0
  · rename_i t g r0 u n
    split at h
    case isFalse => cases h
    rename_i hc
    obtain ⟨rfl, rfl⟩ := hc
    injection h with h
    injection h with h1 h2
    subst h1; subst h2
    refine ⟨reason_enter, by simp, fun Bad w us hbad hr => ?_⟩
    obtain ⟨v1, us1, rfl, hv1, hus⟩ := hr
    have : us1 = [] := hus
    subst this
    obtain ⟨pb, po, sp, rfl, h3, h2⟩ := fault_rep hv1
    refine (reason_fault pb po sp r0 w (laid_cell hbad) h3).mono ?_
    rintro e w' ⟨rfl, hb⟩
    exact int_spec hbad hb r0
end Go.Fw.Wd
