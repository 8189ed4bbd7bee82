/-
  slices.Chunk over bytes, two at a time: what it hands back, and that its slices come one behind the other. Conditions: stated at each.
-/
import Derived.Test.YtmmfimpphhebfaaWdChunk
set_option linter.unusedVariables false
set_option linter.unusedSimpArgs false
namespace Go.Fw.Wd
open Go.Proofs Go.RowKit Go.Shelf

attribute [local go_sem] Oper.semAt_some

set_option maxRecDepth 100000 in
set_option maxHeartbeats 2000000 in
theorem chunk0_in (F : Fence) (n : Nat) (h7 : F.fn 36) (hro : F.round = none) (l Bs Bn : Nat) (a : Option Addr) (cap : Nat) (J : List Nat → World → Prop) (W : World) (hBs : W.cell? ⟨Bs, 0, none⟩ = some (.slice a 0 cap)) (h0 : J [] W) :
    CallsIn F n Try.prog 36 #[.func (.yield l) #[] #[], .pointer (some ⟨Bs, 0, none⟩), .pointer (some ⟨Bn, 0, none⟩)] W fun e W' => (∃ v, e = .returned v) ∧ J [] W' := by
  refine callsIn_of_wp Try.func36 rfl h7 ?_ hro
  simp only [Try.ntmps36, List.size_toArray, List.length_cons, List.length_nil, Nat.reduceAdd, Nat.reduceSub, Array.replicate_succ, Array.replicate_zero, List.push_toArray, List.append_toArray, List.nil_append, List.cons_append]
  gi_wp2
  gi_loopw [4] (fun i wr => i = .int .i64 0 ∧ J [] wr ∧ wr.cell? ⟨Bs, 0, none⟩ = some (.slice a 0 cap)) (fun _ _ => 0)
  case atStart => exact ⟨rfl, h0, hBs⟩
  case round =>
    obtain ⟨rfl, hJs, hb⟩ := hrel
    gi_wp2
    go_end0
    exact ⟨⟨_, rfl⟩, hJs⟩

set_option maxHeartbeats 2000000 in
/-- The slice and the size are boxed; the function value captures the boxes. -/
theorem chunk_in (F : Fence) (n : Nat) (h5 : F.fn 33) (hro : F.round = none) (a : Option Addr) (len cap : Nat) (w : World) :
    CallsIn F n Try.prog 33 #[.slice a len cap, .int .i64 2] w fun e w' => e = .returned (.func (.func 36) #[] #[.pointer (some ⟨w.heap.size, 0, none⟩), .pointer (some ⟨w.heap.size + 1, 0, none⟩)]) ∧ w' = (w.alloc (.cells #[.slice a len cap] 22)).alloc (.cells #[.int .i64 2] 3) := by
  refine callsIn_of_wp Try.func33 rfl h5 ?_ hro
  simp only [Try.ntmps33, List.size_toArray, List.length_cons, List.length_nil, Nat.reduceAdd, Nat.reduceSub, Array.replicate_succ, Array.replicate_zero, List.push_toArray, List.append_toArray, List.nil_append, List.cons_append]
  have b1 := (Boxed.new w 22 (.slice a len cap)).alloc (.cells #[.int .i64 2] 3)
  have b2 := Boxed.new (w.alloc (.cells #[.slice a len cap] 22)) 3 (.int .i64 2)
  rw [World.size_alloc] at b2
  have c1 := b1.cell
  have c2 := b2.cell
  gi_wp2
  go_ret
  exact ⟨rfl, rfl⟩

theorem chunk_stops (F : Fence) (n : Nat) (h7 : F.fn 36) (hro : F.round = none) (hn : 1 ≤ n) (Bs Bn : Nat) (Kp : World → World → Prop) (hK1 : ∀ A B, Kp A B → B.cell? ⟨Bs, 0, none⟩ = A.cell? ⟨Bs, 0, none⟩) (hK2 : ∀ A B, Kp A B → B.cell? ⟨Bn, 0, none⟩ = A.cell? ⟨Bn, 0, none⟩) (a : Option Addr) (len cap : Nat) (hlc : len ≤ cap) (hlen : len ≤ 140737488355328) (ha : a = none → len = 0) (w : World) (hBs : Bs < w.heap.size) (hBn : Bn < w.heap.size)
    (hc : w.cell? ⟨Bs, 0, none⟩ = some (.slice a len cap)) (hc2 : w.cell? ⟨Bn, 0, none⟩ = some (.int .i64 2)) :
    SeqStopsK F n Try.prog 36 #[.pointer (some ⟨Bs, 0, none⟩), .pointer (some ⟨Bn, 0, none⟩)] (fun k : Nat => #[chunkV (a.getD default) len k]) Kp (fun ys => ys = List.range ((len + 1) / 2)) (fun pre => ∃ k, k ≤ (len + 1) / 2 ∧ pre = List.range k) ((len + 1) / 2) w := fun l J Jx W hW hJ _ hY h0 => by
  have hc' := (hW.cell (p := ⟨Bs, 0, none⟩) hBs).trans hc
  have hc2' := (hW.cell (p := ⟨Bn, 0, none⟩) hBn).trans hc2
  by_cases hl : len = 0
  · subst hl
    exact (chunk0_in F n h7 hro l Bs Bn a cap J W hc' h0).mono fun e W' ⟨he, hj⟩ => ⟨he, .inl ⟨_, rfl, hj⟩⟩
  · cases a with
    | none => exact absurd (ha rfl) hl
    | some ad => exact chunk1_in F n h7 hro hn l Bs Bn Kp hK1 hK2 ad len cap hlc hlen J Jx _ hJ hY W hc' hc2' h0
end Go.Fw.Wd
