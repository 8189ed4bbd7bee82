/-
  The law TurnReads: whatever the input, the call returns true, and each argument reads behind the call as it read before. Conditions: none.
-/
import Derived.Test.YtigiopahmiaedaaGreatDoorRows
import Derived.Test.YtigiopahmiaedaaGreatDoorWdTread
import Derived.WalkKit
import Derived.ProofKit
import Derived.OpenShut
import Derived.ShutString
import Derived.ChangeOld
import Derived.Below
import Derived.SizedLaws
import Derived.Test.YtigiopahmiaedaaGreatDoorWdLaid
import Derived.Test.YtigiopahmiaedaaGreatDoorWdFacts
import Derived.Test.YtigiopahmiaedaaGreatDoorTie
import Derived.Test.YtigiopahmiaedaaGreatDoorCards
import Derived.SevenTiedAt
namespace Go.Proofs.YtigiopahmiaedaaGreatDoor.turnReads
open Go.ChangeShapes Go.WideShapes Go.ChangeAt Go.RowKit
set_option linter.unusedVariables false
theorem own : ownKnob Tryz.prog.godebug = none := by kernel_rfl
theorem laidOut : laidOutB Tryz.prog = true := by kernel_rfl
set_option maxRecDepth 100000 in
theorem lifted (os : Os) (started : os.Started) (H : Type) (enc : TypeId × Value → H) :
    ReturnsInHanded {} Tryz.checked os 3 .any (fun w args => (Rows.turnReadsSpec.pre enc Tryz.prog Tryz.f3 Rows.turnReadsRow.domain false w args ∧ laidMetH Tryz.prog Rows.laidL w) ∧ sizedMet enc Tryz.prog Tryz.f3 (OpenSpec.ofChange Rows.turnReadsSpec) false w args) (Rows.turnReadsSpec.post enc Tryz.prog Tryz.f3 false true false false) := by
  refine returnsInHanded_of_change_and (C := Tryz.checked) (X := fun w _ => laidMetH Tryz.prog Rows.laidL w) (fun _ _ _ hh h => h.of_heap hh) own started (by kernel_rfl) Tryz.func3
    (ChangeSpec.witness_at (enc := enc) (C := Tryz.checked) (os := os) (X := fun w _ => laidMetH Tryz.prog Rows.laidL w) false (laidWorld os) #[.agg #[.int .u8 0, .int .u16 0, .bool false, .int .u8 0, .int .u8 0, .int .u32 0, .int .u32 0, .slice none 0 0]] 8 rfl (by kernel_rfl) (by kernel_rfl) (by kernel_rfl) (by kernel_rfl) (by kernel_rfl) (laidWorld_met os _)) ?_
  intro W base args ds gs before hval0 hW hcnd hsz0 hL _
  have hsz : (DataW.weightsEach Tryz.prog (Tryz.f3.params.toList ++ Rows.turnReadsSpec.plain.varTypes Tryz.prog) (ds ++ gs)).all (· ≤ reachBytes) = true := hsz0
  have hW' := hW
  obtain ⟨p, q, hA0, hV, rfl, hfz, hnd⟩ := hW
  have hA : DataW.TrodAll enc Tryz.prog W 0 (fun _ => true) true Tryz.f3.params.toList args.toList ds p := hA0
  have hp : Tryz.f3.params.toList = [26] := by kernel_rfl
  have hval : ∀ (j : Nat) t v, ([26] : List TypeId)[j]? = some t → args.toList[j]? = some v → Value.okWide Tryz.prog W .any base t v := fun j t v ht hv => hval0 j t v (by rw [← hp] at ht; simpa using ht) (by simpa using hv)
  rw [hp] at hA hsz
  obtain ⟨rfl, rfl⟩ := trodVars_none hV
  have hsz1 : (DataW.weightsEach Tryz.prog [26] ds).all (· ≤ reachBytes) = true := by
    have e : (DataW.weightsEach Tryz.prog [26] ds) = DataW.weightsEach Tryz.prog ([26] ++ Rows.turnReadsSpec.plain.varTypes Tryz.prog) (ds ++ []) := by
      rw [List.append_nil]
      rfl
    rw [e]
    exact hsz
  have hcall := Go.Fw.row_calls (P := Tryz.prog) (enc := enc) Go.Fw.Wd.E_ok (f := 3) (r := .bool true) (v := .bool true) (fun _ _ _ _ _ h => h) (ts := [26]) Go.Fw.Wd.end3 hA hval (by kernel_rfl) hsz1 (fun x hx => by rw [List.mem_singleton.1 hx]; exact handle_of_laid hL)
  rw [Array.toArray_toList] at hcall
  refine hcall.mono fun e W' ⟨he, bel⟩ => ?_
  subst he
  have hargs := Go.Fw.args_below laidOut bel (by kernel_rfl) hA
  have hlen := Go.Fw.ds_length hA
  match ds, hlen with
  | [d0], _ =>
    exact ⟨_, rfl, _, _, _, [], _, [], hW', trodAll_mk1 (shut_bool Tryz.underlying4 _), by rw [← hp] at hargs; exact hargs, rfl, bel.frame _, fun h => by cases h⟩
theorem small : Facts.small Tryz.pinned.checked.prog 3 Tryz.f3 Rows.turnReadsSpec Rows.turnReadsRow = true := by kernel_rfl
theorem goes : false = Rows.turnReadsRow.goesBy Tryz.pinned.checked.prog := by kernel_rfl
theorem noStand (j : Nat) (t : TypeId) (ht : Tryz.f3.params[j]? = some t) : Tryz.pinned.checked.prog.wantsStandIn t = false := by
  have hm : t ∈ Tryz.f3.params.toList := List.mem_of_getElem? (i := j) (by simpa using ht)
  rw [show Tryz.f3.params.toList = [26] by kernel_rfl] at hm
  have hall : ([26] : List TypeId).all (fun t => !Tryz.prog.wantsStandIn t) = true := by kernel_rfl
  have := List.all_eq_true.1 hall t hm
  exact (show Tryz.prog.wantsStandIn t = false by simpa using this)
theorem over : Rows.turnReadsRow.holds Tryz.pinned (OpenSpec.ofChange Rows.turnReadsSpec) :=
  OpenClaim.holds_of_wide 3 Tryz.f3 rfl rfl rfl rfl rfl rfl rfl ⟨rfl, rfl, rfl, rfl, rfl⟩ rfl rfl rfl rfl rfl (by kernel_rfl) Tryz.func3 (Facts.joined_of rfl rfl rfl small)
    (of_decide_eq_true (by kernel_rfl)) (by unfold Func.isWrapper; first | (rw [if_pos (by decide +kernel)]; kernel_rfl) | (rw [if_neg (by decide +kernel)]; exact ⟨rfl, rfl⟩))
    (fun os started H enc _ => lifted os started H enc)
theorem proved : Rows.TurnReadsCardSaid :=
  Claim7.holds_tied_plain_at .later [] [.handle] true (true, "29ef5cfefd33eee924d410b3ea635dc4418d407a6f6e7ceba688a42e6b6e112b") true
    over (fun _ h => by cases h) (by kernel_rfl) (fun _ h => by cases h) turnReads_row_tie rfl ⟨rfl, rfl⟩ Facts.mainIs rfl
    (fun f fn hf hfn => by
      obtain rfl : f = 3 := Option.some.inj ((show Tryz.prog.funcNamed "vizard/vizardlaw21.TurnReads" = some 3 by kernel_rfl).symm.trans hf) |>.symm
      obtain rfl : fn = Tryz.f3 := (Option.some.inj (Tryz.func3.symm.trans hfn)).symm
      exact ⟨Facts.looks, noStand⟩)
    goes
#print axioms proved
end Go.Proofs.YtigiopahmiaedaaGreatDoor.turnReads
