/-
  The law TurnInner: whatever the input, the call returns true, and each argument reads behind the call as it read before. Conditions: none.
-/
import Derived.Test.YtigiopahmiaedaaDoorRows
import Derived.Test.YtigiopahmiaedaaDoorWdTurn6
import Derived.WalkKit
import Derived.ProofKit
import Derived.OpenShut
import Derived.ShutString
import Derived.ChangeOld
import Derived.Below
import Derived.SizedLaws
import Derived.Test.YtigiopahmiaedaaDoorWdLaid
import Derived.Test.YtigiopahmiaedaaDoorWdFacts
import Derived.Test.YtigiopahmiaedaaDoorTie
import Derived.Test.YtigiopahmiaedaaDoorCards
import Derived.SevenTiedAt
namespace Go.Proofs.YtigiopahmiaedaaDoor.turnInner
open Go.ChangeShapes Go.WideShapes Go.ChangeAt Go.RowKit
set_option linter.unusedVariables false
theorem own : ownKnob Tryd.prog.godebug = none := by kernel_rfl
theorem laidOut : laidOutB Tryd.prog = true := by kernel_rfl
set_option maxRecDepth 100000 in
theorem lifted (os : Os) (started : os.Started) (H : Type) (enc : TypeId × Value → H) :
    ReturnsInHanded {} Tryd.checked os 8 .any (fun w args => (Rows.turnInnerSpec.pre enc Tryd.prog Tryd.f8 Rows.turnInnerRow.domain false w args ∧ laidMetH Tryd.prog Rows.laidL w) ∧ sizedMet enc Tryd.prog Tryd.f8 (OpenSpec.ofChange Rows.turnInnerSpec) false w args) (Rows.turnInnerSpec.post enc Tryd.prog Tryd.f8 false true false false) := by
  refine returnsInHanded_of_change_and (C := Tryd.checked) (X := fun w _ => laidMetH Tryd.prog Rows.laidL w) (fun _ _ _ hh h => h.of_heap hh) own started (by kernel_rfl) Tryd.func8
    (ChangeSpec.witness_at (enc := enc) (C := Tryd.checked) (os := os) (X := fun w _ => laidMetH Tryd.prog Rows.laidL w) false (laidWorld os) #[.agg #[.int .u8 0, .int .u16 0, .bool false, .int .u8 0, .int .u8 0, .int .u32 0, .int .u32 0, .slice none 0 0], .agg #[.int .u32 0, .int .u16 0], .bool false] 8 rfl (by kernel_rfl) (by kernel_rfl) (by kernel_rfl) (by kernel_rfl) (by kernel_rfl) (laidWorld_met os _)) ?_
  intro W base args ds gs before hval0 hW hcnd hsz0 hL _
  have hsz : (DataW.weightsEach Tryd.prog (Tryd.f8.params.toList ++ Rows.turnInnerSpec.plain.varTypes Tryd.prog) (ds ++ gs)).all (· ≤ reachBytes) = true := hsz0
  have hW' := hW
  obtain ⟨p, q, hA0, hV, rfl, hfz, hnd⟩ := hW
  have hA : DataW.TrodAll enc Tryd.prog W 0 (fun _ => true) true Tryd.f8.params.toList args.toList ds p := hA0
  have hp : Tryd.f8.params.toList = [26, 67, 4] := by kernel_rfl
  have hval : ∀ (j : Nat) t v, ([26, 67, 4] : List TypeId)[j]? = some t → args.toList[j]? = some v → Value.okWide Tryd.prog W .any base t v := fun j t v ht hv => hval0 j t v (by rw [← hp] at ht; simpa using ht) (by simpa using hv)
  rw [hp] at hA hsz
  obtain ⟨rfl, rfl⟩ := trodVars_none hV
  have hsz1 : (DataW.weightsEach Tryd.prog [26, 67, 4] ds).all (· ≤ reachBytes) = true := by
    have e : (DataW.weightsEach Tryd.prog [26, 67, 4] ds) = DataW.weightsEach Tryd.prog ([26, 67, 4] ++ Rows.turnInnerSpec.plain.varTypes Tryd.prog) (ds ++ []) := by
      rw [List.append_nil]
      rfl
    rw [e]
    exact hsz
  have hcall := Go.Fw.row_calls (P := Tryd.prog) (enc := enc) Go.Fw.Wd.E_ok (f := 8) (r := .bool true) (v := .bool true) (fun _ _ _ _ _ h => h) (ts := [26, 67, 4]) Go.Fw.Wd.end8 hA hval (by kernel_rfl) hsz1 (fun x hx => by rw [List.mem_singleton.1 hx]; exact handle_of_laid hL)
  rw [Array.toArray_toList] at hcall
  refine hcall.mono fun e W' ⟨he, bel⟩ => ?_
  subst he
  have hargs := Go.Fw.args_below laidOut bel (by kernel_rfl) hA
  have hlen := Go.Fw.ds_length hA
  match ds, hlen with
  | [d0, d1, d2], _ =>
    exact ⟨_, rfl, _, _, _, [], _, [], hW', trodAll_mk1 (shut_bool Tryd.underlying4 _), by rw [← hp] at hargs; exact hargs, rfl, bel.frame _, fun h => by cases h⟩
theorem small : Facts.small Tryd.pinned.checked.prog 8 Tryd.f8 Rows.turnInnerSpec Rows.turnInnerRow = true := by kernel_rfl
theorem goes : false = Rows.turnInnerRow.goesBy Tryd.pinned.checked.prog := by kernel_rfl
theorem noStand (j : Nat) (t : TypeId) (ht : Tryd.f8.params[j]? = some t) : Tryd.pinned.checked.prog.wantsStandIn t = false := by
  have hm : t ∈ Tryd.f8.params.toList := List.mem_of_getElem? (i := j) (by simpa using ht)
  rw [show Tryd.f8.params.toList = [26, 67, 4] by kernel_rfl] at hm
  have hall : ([26, 67, 4] : List TypeId).all (fun t => !Tryd.prog.wantsStandIn t) = true := by kernel_rfl
  have := List.all_eq_true.1 hall t hm
  exact (show Tryd.prog.wantsStandIn t = false by simpa using this)
theorem over : Rows.turnInnerRow.holds Tryd.pinned (OpenSpec.ofChange Rows.turnInnerSpec) :=
  OpenClaim.holds_of_wide 8 Tryd.f8 rfl rfl rfl rfl rfl rfl rfl ⟨rfl, rfl, rfl, rfl, rfl⟩ rfl rfl rfl rfl rfl (by kernel_rfl) Tryd.func8 (Facts.joined_of rfl rfl rfl small)
    (of_decide_eq_true (by kernel_rfl)) (by unfold Func.isWrapper; first | (rw [if_pos (by decide +kernel)]; kernel_rfl) | (rw [if_neg (by decide +kernel)]; exact ⟨rfl, rfl⟩))
    (fun os started H enc _ => lifted os started H enc)
theorem proved : Rows.TurnInnerCardSaid :=
  Claim7.holds_tied_plain_at .later [] [.handle] true (true, "91de745020131dcca344a117b7a50a4807aafa8d8079cd9f377207c1e656e367") true
    over (fun _ h => by cases h) (by kernel_rfl) (fun _ h => by cases h) turnInner_row_tie rfl ⟨rfl, rfl⟩ Facts.mainIs rfl
    (fun f fn hf hfn => by
      obtain rfl : f = 8 := Option.some.inj ((show Tryd.prog.funcNamed "vizard/vizardlaw21.TurnInner" = some 8 by kernel_rfl).symm.trans hf) |>.symm
      obtain rfl : fn = Tryd.f8 := (Option.some.inj (Tryd.func8.symm.trans hfn)).symm
      exact ⟨Facts.looks, noStand⟩)
    goes
#print axioms proved
end Go.Proofs.YtigiopahmiaedaaDoor.turnInner
