/-
  The law OptionBack: whatever the input, the call returns true, and each argument reads behind the call as it read before. Conditions: none.
-/
import Derived.Test.YtkekjbpalkoeeaaRows
import Derived.Test.YtkekjbpalkoeeaaWdOup
import Derived.WalkKit
import Derived.ProofKit
import Derived.OpenShut
import Derived.ShutString
import Derived.ChangeOld
import Derived.Below
import Derived.SizedLaws
import Derived.JoinedCond
import Derived.Deep.CondSized
namespace Go.Proofs.Ytkekjbpalkoeeaa.optionBackUpto
open Go.ChangeShapes Go.WideShapes Go.ChangeAt Go.RowKit
set_option linter.unusedVariables false
theorem own : ownKnob Try.prog.godebug = none := by kernel_rfl
theorem laidOut : laidOutB Try.prog = true := by kernel_rfl
mutual
theorem bulk_d {H : Type} : ∀ d : DataW H, Rows.uptoBulk d = Go.Fw.bulkD d
  | .lit l => by cases l <;> rfl
  | .nil => rfl
  | .ptr d => by simp only [Rows.uptoBulk, Go.Fw.bulkD, bulk_d d]
  | .slice a b => by simp only [Rows.uptoBulk, Go.Fw.bulkD, bulk_l a, bulk_l b]
  | .agg a => by simp only [Rows.uptoBulk, Go.Fw.bulkD, bulk_l a]
  | .iface _ d => by simp only [Rows.uptoBulk, Go.Fw.bulkD, bulk_d d]
  | .map a => by simp only [Rows.uptoBulk, Go.Fw.bulkD, bulk_e a]
  | .held _ => rfl
theorem bulk_l {H : Type} : ∀ l : List (DataW H), Rows.uptoBulkAll l = Go.Fw.bulkDL l
  | [] => rfl
  | d :: r => by simp only [Rows.uptoBulkAll, Go.Fw.bulkDL, bulk_d d, bulk_l r]
theorem bulk_e {H : Type} : ∀ l : List (Lit × DataW H), Rows.uptoBulkEntries l = Go.Fw.bulkDE l
  | [] => rfl
  | x :: r => by simp only [Rows.uptoBulkEntries, Go.Fw.bulkDE, bulk_x x, bulk_e r]
theorem bulk_x {H : Type} : ∀ x : Lit × DataW H, Rows.uptoBulkEntry x = Go.Fw.bulkDx x
  | (.string b, d) => by simp only [Rows.uptoBulkEntry, Go.Fw.bulkDx, bulk_d d]
  | (.int _ _, d) => by simp only [Rows.uptoBulkEntry, Go.Fw.bulkDx, bulk_d d]
  | (.bool _, d) => by simp only [Rows.uptoBulkEntry, Go.Fw.bulkDx, bulk_d d]
  | (.float _ _, d) => by simp only [Rows.uptoBulkEntry, Go.Fw.bulkDx, bulk_d d]
  | (.nil, d) => by simp only [Rows.uptoBulkEntry, Go.Fw.bulkDx, bulk_d d]
end
set_option maxRecDepth 100000 in
theorem lifted (os : Os) (started : os.Started) (H : Type) (enc : TypeId × Value → H) (F : Stop.Interp) :
    ReturnsInHanded {} Try.checked os 5 .any ((Rows.OpenSpec.upto Rows.optionBackSpec).pre6 enc Try.prog Try.f5 Rows.optionBackUptoRow.domain false) (((Rows.OpenSpec.upto Rows.optionBackSpec).at F).post enc Try.prog Try.f5 false true false false) := by
  refine returnsInHanded_of_cond_sized (C := Try.checked) (s := Rows.OpenSpec.upto Rows.optionBackSpec) (k := Rows.uptoSmall) rfl own started (by kernel_rfl) Try.func5
    (OpenSpec.witness (enc := enc) (C := Try.checked) (s := Rows.OpenSpec.upto Rows.optionBackSpec) (k := Rows.uptoSmall) rfl false ⟨#[], #[.slice none 0 0, .int .u8 0, .slice none 0 0, .int .i64 0], []⟩ 8 (by kernel_rfl) (by kernel_rfl) (by kernel_rfl)
      (x := ([.nil, .lit (.int .u8 0), .nil, .lit (.int .i64 0)], [], [])) (by kernel_rfl) rfl (by kernel_rfl)) ?_
  intro W base args ds gs before hval0 hW hcnd hk0 hsz0 _
  have hsz : (DataW.weightsEach Try.prog (Try.f5.params.toList ++ Rows.optionBackSpec.plain.varTypes Try.prog) (ds ++ gs)).all (· ≤ reachBytes) = true := hsz0
  have hW' := hW
  obtain ⟨p, q, hA0, hV, rfl, hfz, hnd⟩ := hW
  have hA : DataW.TrodAll enc Try.prog W 0 (fun _ => true) true Try.f5.params.toList args.toList ds p := hA0
  have hp : Try.f5.params.toList = [25, 5, 22, 3] := by kernel_rfl
  have hval : ∀ (j : Nat) t v, ([25, 5, 22, 3] : List TypeId)[j]? = some t → args.toList[j]? = some v → Value.okWide Try.prog W .any base t v := fun j t v ht hv => hval0 j t v (by rw [← hp] at ht; simpa using ht) (by simpa using hv)
  rw [hp] at hA hsz
  obtain ⟨rfl, rfl⟩ := trodVars_none hV
  have hsz1 : (DataW.weightsEach Try.prog [25, 5, 22, 3] ds).all (· ≤ reachBytes) = true := by
    have e : (DataW.weightsEach Try.prog [25, 5, 22, 3] ds) = DataW.weightsEach Try.prog ([25, 5, 22, 3] ++ Rows.optionBackSpec.plain.varTypes Try.prog) (ds ++ []) := by
      rw [List.append_nil]
      rfl
    rw [e]
    exact hsz
  have hB : Go.Fw.bulkDL ds ≤ 1048576 := by
    have h1 : Rows.uptoBulkAll (ds ++ []) ≤ 1048576 := of_decide_eq_true hk0
    rw [List.append_nil, bulk_l] at h1
    exact h1
  have hcall := Go.Fw.row_callsB (B := 1048576) (P := Try.prog) (enc := enc) Go.Fw.Wd.E_ok (f := 5) (r := .bool true) (v := .bool true) (fun _ _ _ _ _ h => h) (ts := [25, 5, 22, 3]) Go.Fw.Wd.end5 hA hval (by kernel_rfl) hsz1 hB
  rw [Array.toArray_toList] at hcall
  refine hcall.mono fun e W' ⟨he, bel⟩ => ?_
  subst he
  have hargs := Go.Fw.args_below laidOut bel (by kernel_rfl) hA
  have hlen := Go.Fw.ds_length hA
  match ds, hlen with
  | [d0, d1, d2, d3], _ =>
    exact ⟨_, rfl, _, _, _, [], _, [], hW', trodAll_mk1 (shut_bool Try.underlying4 _), by rw [← hp] at hargs; exact hargs, rfl, bel.frame _, fun h => by cases h⟩
theorem over : Rows.optionBackUptoRow.holds Try.pinned (Rows.OpenSpec.upto Rows.optionBackSpec) :=
  OpenClaim.holds_of_cond 5 Try.f5 rfl rfl rfl rfl rfl rfl rfl ⟨rfl, rfl, rfl, rfl, rfl⟩ rfl rfl rfl rfl rfl (by kernel_rfl) Try.func5 (by kernel_rfl)
    (of_decide_eq_true (by kernel_rfl)) (by unfold Func.isWrapper; first | (rw [if_pos (by decide +kernel)]; kernel_rfl) | (rw [if_neg (by decide +kernel)]; exact ⟨rfl, rfl⟩))
    (fun os started H enc _ F => lifted os started H enc F)
theorem proved : Rows.OptionBackUptoSaid := over
#print axioms proved
end Go.Proofs.Ytkekjbpalkoeeaa.optionBackUpto
