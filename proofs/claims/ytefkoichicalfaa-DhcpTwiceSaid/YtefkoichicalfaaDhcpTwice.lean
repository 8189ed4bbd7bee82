/-
  The law DhcpTwice: whatever the input, the call returns true, and each argument reads behind the call as it read before. Conditions: none.
-/
import Derived.Test.YtefkoichicalfaaRows
import Derived.Test.YtefkoichicalfaaWdDtwi
import Derived.WalkKit
import Derived.ProofKit
import Derived.OpenShut
import Derived.ShutString
import Derived.ChangeOld
import Derived.Below
import Derived.SizedLaws
namespace Go.Proofs.Ytefkoichicalfaa.dhcpTwice
open Go.ChangeShapes Go.WideShapes Go.ChangeAt Go.RowKit
set_option linter.unusedVariables false
theorem own : ownKnob Try.prog.godebug = none := by kernel_rfl
theorem laidOut : laidOutB Try.prog = true := by kernel_rfl
set_option maxRecDepth 100000 in
theorem lifted (os : Os) (started : os.Started) (H : Type) (enc : TypeId × Value → H) :
    ReturnsInHanded {} Try.checked os 6 .any (Rows.dhcpTwiceSpec.pre6 enc Try.prog Try.f6 Rows.dhcpTwiceRow.domain false) (Rows.dhcpTwiceSpec.post enc Try.prog Try.f6 false true false false) := by
  refine returnsInHanded_of_change_sized (C := Try.checked) own started (by kernel_rfl) Try.func6
    (ChangeSpec.witness6 (enc := enc) (C := Try.checked) false ⟨#[], #[.slice none 0 0, .agg #[.int .u8 0, .int .u8 0, .int .u8 0, .int .u8 0, .int .u8 0, .int .u8 0], .int .u32 0, .int .u64 0, .int .u8 0], []⟩ 8 (by kernel_rfl) (by kernel_rfl) (by kernel_rfl) (by kernel_rfl)) ?_
  intro W base args ds gs before hval0 hW hcnd hsz0 _
  have hsz : (DataW.weightsEach Try.prog (Try.f6.params.toList ++ Rows.dhcpTwiceSpec.plain.varTypes Try.prog) (ds ++ gs)).all (· ≤ reachBytes) = true := hsz0
  have hW' := hW
  obtain ⟨p, q, hA0, hV, rfl, hfz, hnd⟩ := hW
  have hA : DataW.TrodAll enc Try.prog W 0 (fun _ => true) true Try.f6.params.toList args.toList ds p := hA0
  have hp : Try.f6.params.toList = [22, 26, 23, 30, 5] := by kernel_rfl
  have hval : ∀ (j : Nat) t v, ([22, 26, 23, 30, 5] : List TypeId)[j]? = some t → args.toList[j]? = some v → Value.okWide Try.prog W .any base t v := fun j t v ht hv => hval0 j t v (by rw [← hp] at ht; simpa using ht) (by simpa using hv)
  rw [hp] at hA hsz
  obtain ⟨rfl, rfl⟩ := trodVars_none hV
  have hsz1 : (DataW.weightsEach Try.prog [22, 26, 23, 30, 5] ds).all (· ≤ reachBytes) = true := by
    have e : (DataW.weightsEach Try.prog [22, 26, 23, 30, 5] ds) = DataW.weightsEach Try.prog ([22, 26, 23, 30, 5] ++ Rows.dhcpTwiceSpec.plain.varTypes Try.prog) (ds ++ []) := by
      rw [List.append_nil]
      rfl
    rw [e]
    exact hsz
  have hcall := Go.Fw.row_calls (P := Try.prog) (enc := enc) Go.Fw.Wd.E_ok (f := 6) (r := .bool true) (v := .bool true) (fun _ _ _ _ _ h => h) (ts := [22, 26, 23, 30, 5]) Go.Fw.Wd.end6 hA hval (by kernel_rfl) hsz1
  rw [Array.toArray_toList] at hcall
  refine hcall.mono fun e W' ⟨he, bel⟩ => ?_
  subst he
  have hargs := Go.Fw.args_below laidOut bel (by kernel_rfl) hA
  have hlen := Go.Fw.ds_length hA
  match ds, hlen with
  | [d0, d1, d2, d3, d4], _ =>
    exact ⟨_, rfl, _, _, _, [], _, [], hW', trodAll_mk1 (shut_bool Try.underlying4 _), by rw [← hp] at hargs; exact hargs, rfl, bel.frame _, fun h => by cases h⟩
theorem over : Rows.dhcpTwiceRow.holds Try.pinned (OpenSpec.ofChange Rows.dhcpTwiceSpec) :=
  OpenClaim.holds_of_wide 6 Try.f6 rfl rfl rfl rfl rfl rfl rfl ⟨rfl, rfl, rfl, rfl, rfl⟩ rfl rfl rfl rfl rfl (by kernel_rfl) Try.func6 (by kernel_rfl)
    (of_decide_eq_true (by kernel_rfl)) (by unfold Func.isWrapper; first | (rw [if_pos (by decide +kernel)]; kernel_rfl) | (rw [if_neg (by decide +kernel)]; exact ⟨rfl, rfl⟩))
    (fun os started H enc _ => lifted os started H enc)
theorem proved : Rows.DhcpTwiceSaid := over
#print axioms proved
end Go.Proofs.Ytefkoichicalfaa.dhcpTwice
