/-
  slices.Grow of a nil slice of bytes, as the evaluation may take it: an empty row of the caller's own. Conditions: none.
-/
import Derived.Test.YtkekjbpalkoeeaaWdClone
set_option linter.unusedVariables false
set_option linter.unusedSimpArgs false
namespace Go.Fw.Wd
open Go.Proofs Go.RowKit Code_

set_option maxHeartbeats 400000 in
theorem grow_zero (w : World) :
    Calls Try.prog 129 #[.slice none 0 0, .int .i64 0] w fun e w' => e = .returned (.slice none 0 0) ∧ w' = w := by
  go_enter Try.func129, Try.ntmps129
  go_wp2
  go_ret
  exact ⟨rfl, rfl⟩
set_option maxHeartbeats 400000 in
theorem grow_pos (n : Nat) (h0 : 0 < n) (h48 : n ≤ 140737488355328) (w : World) :
    Calls Try.prog 129 #[.slice none 0 0, .int .i64 n] w fun e w' => ∃ cap cur, n ≤ cap ∧ cap ≤ maxLen ∧ cur.size = cap ∧ e = .returned (.slice (some ⟨w.heap.size, 0, none⟩) 0 cap) ∧ w' = w.drew.alloc (.cells cur 5) := by
  have hneg : ¬ (n : Int) < 0 := by omega
  have hpos : (0 : Int) < n := by omega
  have hw : wrap64 (n : Int) = n := by unfold wrap64; simp only [Int.emod_def]; omega
  go_enter Try.func129, Try.ntmps129
  go_wp2
  all_goals try (exfalso; have hbb : ((Try.t5.bytes : Nat) : Int) = 1 := rfl; simp only [hbb] at *; omega)
  all_goals try (exfalso; have hbb : Try.t5.bytes = 1 := rfl; have hns := nextslicecap_zero h0; simp only [hbb, hns] at *; omega)
  go_ret
  refine ⟨_, grownCap_ge w n 0 5, grownCap_le_maxLen w n 0 5 (by simp only [maxLen]; omega), _, ?_, rfl, rfl⟩
  have hge := grownCap_ge w n 0 5
  rw [Array.size_append, size_zeroCells, size_zeroCells]
  show n * 1 + (grownCap w n 0 5 - n) * 1 = _
  omega

/-- What slices.Grow of a nil slice of bytes hands back. -/
def growP : List AV → Option (AV × Heap)
  | [.nils, .int .i64 n] => if 0 ≤ n ∧ n ≤ 140737488355328 then some (.sl 1 0 0 0 0, [.row 0 1 [] 5]) else none
  | _ => none

theorem grow_enter : EnterOk Try.prog 129 := ⟨Try.f129, Try.func129, rfl, rfl⟩
theorem below_drew (w : World) (o : Obj) : Below w.heap.size w (w.drew.alloc o) := ((Below.refl _ w).drew).trans (by
  have := below_alloc w.drew o
  simpa using this)

theorem grow_spec (args : List AV) (r : AV) (objs : Heap) (h : growP args = some (r, objs)) : CallSpec Try.prog 129 args r objs := by
  unfold growP at h
  split at h
  case h_2 => cases h
  rename_i n
  split at h
  case isFalse => cases h
  rename_i hn
  obtain ⟨h0, h1⟩ := hn
  injection h with h
  injection h with h2 h3
  subst h2; subst h3
  refine ⟨grow_enter, fun o ho => (by simp at ho; subst ho; rfl), fun Bad w us hbad hr => ?_⟩
  obtain ⟨u, us', rfl, hu, u2, us2, rfl, hu2, hus⟩ := hr
  have : us2 = [] := hus
  subst this
  have : u = .slice none 0 0 := hu
  subst this
  have : u2 = .int .i64 n := hu2
  subst this
  by_cases hz : n = 0
  · subst hz
    refine (grow_zero w).mono ?_
    rintro e w' ⟨rfl, rfl⟩
    exact empty_row hbad (Below.refl _ _) (World.ownsRow_nil _ _ 5 1) (by simp [blkOf]) ⟨rfl, rfl⟩ ⟨_, _, _, rfl⟩
  · obtain ⟨m, rfl⟩ : ∃ m : Nat, n = (m : Int) := ⟨n.toNat, by omega⟩
    refine (grow_pos m (by omega) (by omega) w).mono ?_
    rintro e w' ⟨cap, cur, hc1, hc2, hc3, rfl, rfl⟩
    refine empty_row hbad (below_drew w _) ?_ (by simp [blkOf]) ⟨0, cap, rfl, Nat.zero_le _, by simp, .inl rfl, fun _ => rfl⟩ ⟨_, _, _, rfl⟩
    have := World.ownsRow_made (base := w.heap.size) (e := 5) (size := 1) w.drew cur cap (Nat.le_refl _) hc2 (by omega)
    simpa using this
end Go.Fw.Wd
