/-
  The iterator of slices.Chunk over bytes, two at a time: which slices come. Conditions: stated at each.
  slices.Chunk over bytes, two at a time: what it hands back, and that its slices come one behind the other. Conditions: stated at each.
-/
import Derived.RangeFuncBox
import Derived.RangeFuncLeaves
import Derived.RangeFuncNested
import Derived.RangeFuncWrites
import Derived.Shelf.Abstract
import Derived.RangeFuncBound
import Derived.RangeFuncCalls
import Derived.WalkKit
import Derived.OwnWalkIn
import Derived.TacticsInMore
import Derived.LoopNIn
import Derived.LoopIn
import Derived.ProofKit
import Derived.Test.YtigiopahmiaedaaGreatDoorChecked
set_option linter.unusedVariables false
set_option linter.unusedSimpArgs false
namespace Go.Fw.Wd
open Go.Proofs Go.RowKit Go.Shelf

attribute [local go_sem] Oper.semAt_some

/-- The slice that comes in round k. -/
def chunkV (ad : Addr) (len k : Nat) : Value := .slice (some (ad.add (2 * k))) (min 2 (len - 2 * k)) (min 2 (len - 2 * k))

set_option maxRecDepth 100000 in
set_option maxHeartbeats 4000000 in
theorem chunk1_in (F : Fence) (n : Nat) (h7 : F.fn 112) (hro : F.round = none) (hn : 1 ≤ n) (l Bs Bn : Nat) (Kp : World → World → Prop) (hK1 : ∀ A B, Kp A B → B.cell? ⟨Bs, 0, none⟩ = A.cell? ⟨Bs, 0, none⟩) (hK2 : ∀ A B, Kp A B → B.cell? ⟨Bn, 0, none⟩ = A.cell? ⟨Bn, 0, none⟩) (ad : Addr) (len cap : Nat) (hlc : len ≤ cap) (hlen : len ≤ 140737488355328) (J Jx : List Nat → World → Prop) (B : Nat) (hJ : AbidesFrom B J)
    (hY : ∀ pre x W, J pre W → pre.length < (len + 1) / 2 → YieldAt F (n - 1) Tryz.prog l #[chunkV ad len x] W fun e W' =>
      (e = .returned (.bool true) ∧ J (pre ++ [x]) W' ∧ Kp W W') ∨ (e = .returned (.bool false) ∧ Jx (pre ++ [x]) W'))
    (W : World) (hBs : W.cell? ⟨Bs, 0, none⟩ = some (.slice (some ad) len cap)) (hBn : W.cell? ⟨Bn, 0, none⟩ = some (.int .i64 2)) (h0 : J [] W) :
    CallsIn F n Tryz.prog 112 #[.func (.yield l) #[] #[], .pointer (some ⟨Bs, 0, none⟩), .pointer (some ⟨Bn, 0, none⟩)] W fun e W' => (∃ v, e = .returned v) ∧
      ((∃ ys, ys = List.range ((len + 1) / 2) ∧ J ys W') ∨ (∃ pre, (∃ k, k ≤ (len + 1) / 2 ∧ pre = List.range k) ∧ Jx pre W')) := by
  refine callsIn_of_wp Tryz.func112 rfl h7 ?_ hro
  simp only [Tryz.ntmps112, List.size_toArray, List.length_cons, List.length_nil, Nat.reduceAdd, Nat.reduceSub, Array.replicate_succ, Array.replicate_zero, List.push_toArray, List.append_toArray, List.nil_append, List.cons_append]
  gi_wp2
  gi_loopw [4] (fun i wr => ∃ k : Nat, k ≤ (len + 1) / 2 ∧ i = .int .i64 ((2 * k : Nat) : Int) ∧ J (List.range k) wr ∧ wr.cell? ⟨Bs, 0, none⟩ = some (.slice (some ad) len cap) ∧ wr.cell? ⟨Bn, 0, none⟩ = some (.int .i64 2))
    (fun i _ => len + 1 - (intOf i).toNat)
  case atStart => exact ⟨0, Nat.zero_le _, rfl, h0, hBs, hBn⟩
  case round =>
    obtain ⟨k, hk, rfl, hJs, hb1, hb2⟩ := hrel
    by_cases hlt : 2 * k < len
    · have hJd : J (List.range k) wr.drew := hJ _ _ _ none hJs ⟨rfl, rfl, rfl, Nat.le_refl _, fun _ _ _ => rfl⟩ (by simp)
      obtain ⟨fn, tmps, assign, body, hy, hR⟩ := hY _ k wr.drew hJd (by rw [List.length_range]; omega)
      have hmin : (if ((len - 2 * k : Nat) : Int) < 2 then ((len - 2 * k : Nat) : Int) else 2) = ((min 2 (len - 2 * k) : Nat) : Int) := by split <;> omega
      have hm2 : min 2 (len - 2 * k) ≤ 2 := by omega
      have hm1 : 1 ≤ min 2 (len - 2 * k) := by omega
      have hm3 : 2 * k + min 2 (len - 2 * k) ≤ len := by omega
      unfold chunkV at hy
      gi_wp2
      gi_region
      all_goals
        clear hmin
        generalize min 2 (len - 2 * k) = m at hy hR hm1 hm2 hm3 ⊢
        gi_wp2
      all_goals
        refine hR.mono ?_
        rintro e W3 (⟨rfl, hJ3, hk3⟩ | ⟨rfl, hJx3⟩)
        · have hb3 : W3.cell? ⟨Bn, 0, none⟩ = some (.int .i64 2) := (hK2 _ _ hk3).trans hb2
          have hb4 : W3.cell? ⟨Bs, 0, none⟩ = some (.slice (some ad) len cap) := (hK1 _ _ hk3).trans hb1
          gi_wp2
          go_roundw
          case rel => exact ⟨k + 1, by omega, by simp; omega, by rw [List.range_succ]; exact hJ3, hb4, hb3⟩
          case measure => simp [intOf]; omega
        · gi_wp2
          refine bodyPost_ret (results_none rfl _ _ _) rfl ?_
          exact ⟨⟨_, rfl⟩, .inr ⟨_, ⟨k + 1, by omega, rfl⟩, by rw [List.range_succ]; exact hJx3⟩⟩
    · obtain rfl : k = (len + 1) / 2 := by omega
      gi_wp2
      go_end0
      exact ⟨⟨_, rfl⟩, .inl ⟨_, rfl, hJs⟩⟩
end Go.Fw.Wd
set_option linter.unusedVariables false
set_option linter.unusedSimpArgs false
namespace Go.Fw.Wd
open Go.Proofs Go.RowKit Go.Shelf

attribute [local go_sem] Oper.semAt_some

set_option maxRecDepth 100000 in
set_option maxHeartbeats 2000000 in
theorem chunk0_in (F : Fence) (n : Nat) (h7 : F.fn 112) (hro : F.round = none) (l Bs Bn : Nat) (a : Option Addr) (cap : Nat) (J : List Nat → World → Prop) (W : World) (hBs : W.cell? ⟨Bs, 0, none⟩ = some (.slice a 0 cap)) (h0 : J [] W) :
    CallsIn F n Tryz.prog 112 #[.func (.yield l) #[] #[], .pointer (some ⟨Bs, 0, none⟩), .pointer (some ⟨Bn, 0, none⟩)] W fun e W' => (∃ v, e = .returned v) ∧ J [] W' := by
  refine callsIn_of_wp Tryz.func112 rfl h7 ?_ hro
  simp only [Tryz.ntmps112, List.size_toArray, List.length_cons, List.length_nil, Nat.reduceAdd, Nat.reduceSub, Array.replicate_succ, Array.replicate_zero, List.push_toArray, List.append_toArray, List.nil_append, List.cons_append]
  gi_wp2
  gi_loopw [4] (fun i wr => i = .int .i64 0 ∧ J [] wr ∧ wr.cell? ⟨Bs, 0, none⟩ = some (.slice a 0 cap)) (fun _ _ => 0)
  case atStart => exact ⟨rfl, h0, hBs⟩
  case round =>
    obtain ⟨rfl, hJs, hb⟩ := hrel
    gi_wp2
    go_end0
    exact ⟨⟨_, rfl⟩, hJs⟩

set_option maxHeartbeats 2000000 in
/-- The slice and the size are boxed; the function value captures the boxes. -/
theorem chunk_in (F : Fence) (n : Nat) (h5 : F.fn 101) (hro : F.round = none) (a : Option Addr) (len cap : Nat) (w : World) :
    CallsIn F n Tryz.prog 101 #[.slice a len cap, .int .i64 2] w fun e w' => e = .returned (.func (.func 112) #[] #[.pointer (some ⟨w.heap.size, 0, none⟩), .pointer (some ⟨w.heap.size + 1, 0, none⟩)]) ∧ w' = (w.alloc (.cells #[.slice a len cap] 24)).alloc (.cells #[.int .i64 2] 3) := by
  refine callsIn_of_wp Tryz.func101 rfl h5 ?_ hro
  simp only [Tryz.ntmps101, List.size_toArray, List.length_cons, List.length_nil, Nat.reduceAdd, Nat.reduceSub, Array.replicate_succ, Array.replicate_zero, List.push_toArray, List.append_toArray, List.nil_append, List.cons_append]
  have b1 := (Boxed.new w 24 (.slice a len cap)).alloc (.cells #[.int .i64 2] 3)
  have b2 := Boxed.new (w.alloc (.cells #[.slice a len cap] 24)) 3 (.int .i64 2)
  rw [World.size_alloc] at b2
  have c1 := b1.cell
  have c2 := b2.cell
  gi_wp2
  go_ret
  exact ⟨rfl, rfl⟩

theorem chunk_stops (F : Fence) (n : Nat) (h7 : F.fn 112) (hro : F.round = none) (hn : 1 ≤ n) (Bs Bn : Nat) (Kp : World → World → Prop) (hK1 : ∀ A B, Kp A B → B.cell? ⟨Bs, 0, none⟩ = A.cell? ⟨Bs, 0, none⟩) (hK2 : ∀ A B, Kp A B → B.cell? ⟨Bn, 0, none⟩ = A.cell? ⟨Bn, 0, none⟩) (a : Option Addr) (len cap : Nat) (hlc : len ≤ cap) (hlen : len ≤ 140737488355328) (ha : a = none → len = 0) (w : World) (hBs : Bs < w.heap.size) (hBn : Bn < w.heap.size)
    (hc : w.cell? ⟨Bs, 0, none⟩ = some (.slice a len cap)) (hc2 : w.cell? ⟨Bn, 0, none⟩ = some (.int .i64 2)) :
    SeqStopsK F n Tryz.prog 112 #[.pointer (some ⟨Bs, 0, none⟩), .pointer (some ⟨Bn, 0, none⟩)] (fun k : Nat => #[chunkV (a.getD default) len k]) Kp (fun ys => ys = List.range ((len + 1) / 2)) (fun pre => ∃ k, k ≤ (len + 1) / 2 ∧ pre = List.range k) ((len + 1) / 2) w := fun l J Jx W hW hJ _ hY h0 => by
  have hc' := (hW.cell (p := ⟨Bs, 0, none⟩) hBs).trans hc
  have hc2' := (hW.cell (p := ⟨Bn, 0, none⟩) hBn).trans hc2
  by_cases hl : len = 0
  · subst hl
    exact (chunk0_in F n h7 hro l Bs Bn a cap J W hc' h0).mono fun e W' ⟨he, hj⟩ => ⟨he, .inl ⟨_, rfl, hj⟩⟩
  · cases a with
    | none => exact absurd (ha rfl) hl
    | some ad => exact chunk1_in F n h7 hro hn l Bs Bn Kp hK1 hK2 ad len cap hlc hlen J Jx _ hJ hY W hc' hc2' h0
end Go.Fw.Wd
