/-
  The program's facts that a row asks for, each by the kernel; a row's closed facts out of them and what names the law. Conditions: none.
-/
import Derived.Test.YtigiopahmiaedaaGreatDoorRows
import Derived.ProofKit
import Derived.JoinedOf
import Derived.SevenTiedAt
namespace Go.Proofs.YtigiopahmiaedaaGreatDoor.Facts
open Go
theorem laidOut : laidOutB Tryz.pinned.checked.prog = true := by kernel_rfl
theorem mapsRowed_ : mapsRowed Tryz.pinned.checked.prog = true := by kernel_rfl
theorem stops : (Tryz.pinned.checked.prog.stops == []) = true := by kernel_rfl
theorem stopKnobs : (Tryz.pinned.checked.prog.stopKnobs == []) = true := by kernel_rfl
theorem stopsHeard : Tryz.pinned.checked.prog.stopsHeard = true := by kernel_rfl
theorem plainKeys : (Rows.turnReadsRow.plainKeys == Tryz.pinned.checked.prog.plainKeys) = true := by kernel_rfl
theorem mayEnter : Tryz.pinned.checked.prog.mayEnter = true := by kernel_rfl
theorem lifted : (Rows.turnReadsRow.lifted == Tryz.pinned.checked.prog.liftsFinal) = true := by kernel_rfl
theorem make : (Tryz.pinned.checked.prog.make == some Rows.turnReadsRow.make) = true := by kernel_rfl
theorem mainIs : Tryz.pinned.checked.prog.mainIs = some (true, "29ef5cfefd33eee924d410b3ea635dc4418d407a6f6e7ceba688a42e6b6e112b".toList) := by kernel_rfl
theorem looks : true = Tryz.pinned.checked.prog.looks [] := by kernel_rfl
/-- The closed facts that name the law. -/
def small (P : Program) (f : FuncId) (fn : Func) (s : ChangeSpec) (c : OpenClaim) : Bool :=
  c.wf (OpenSpec.ofChange s) &&
  fn.params.all (P.readableRec ·) && namedTie P c.named s.vars &&
  (c.stops == []) && (c.knobs == []) &&
  (c.inPlace == P.inPlace f) && (c.unfollowed == P.unfollowed f) && (c.recurses == P.recurses f) && (c.named == P.varsNamed f) &&
  (c.maps == (fn.params.toList ++ s.plain.varTypes P).any (P.mapsRec ·)) && (c.ifaces == (fn.params.toList ++ s.plain.varTypes P).any (P.ifacesRec ·)) && (c.mapsOut == P.mapsAmong fn.resultTypes.toList) &&
  (c.loops == (fn.params.toList ++ s.plain.varTypes P).any (P.loopsFrom ·)) && (c.wideKeys == (fn.params.toList ++ s.plain.varTypes P ++ fn.resultTypes.toList).any (P.wideKeysFrom ·)) &&
  s.vars.all (P.varReadable ·) && fn.resultTypes.all (fun t => P.readableRec t && decide (t < P.types.size)) && (c.ifacesOut == fn.resultTypes.toList.any (P.ifacesRec ·)) && (c.loopsOut == fn.resultTypes.toList.any (P.loopsFrom ·)) && c.shortTexts.isNone && (c.kinds == (if c.domain.isEmpty then [] else fn.params.toList.map fun t => match P.underlying t with | some (.int k) => some k | _ => none)) && (c.pinned == c.pinnedBy) &&
  (c.veiled == (fn.params.toList ++ s.plain.varTypes P ++ fn.resultTypes.toList).any (P.veiledRec ·)) && c.veiledFits P fn.params.toList (fn.params.toList ++ s.plain.varTypes P ++ fn.resultTypes.toList)
theorem joined_of {f : FuncId} {fn : Func} {s : ChangeSpec} {c : OpenClaim} (hk : c.plainKeys = Rows.turnReadsRow.plainKeys) (hl : c.lifted = Rows.turnReadsRow.lifted) (hm : c.make = Rows.turnReadsRow.make)
    (h : small Tryz.pinned.checked.prog f fn s c = true) : joinedFacts Tryz.pinned.checked.prog f fn s c = true := by
  have e1 := laidOut
  have e2 := mapsRowed_
  have e3 := stops
  have e4 := stopKnobs
  have e5 := stopsHeard
  have e6 := plainKeys
  have e7 := mayEnter
  have e8 := lifted
  have e9 := make
  rw [← hk] at e6
  rw [← hl] at e8
  rw [← hm] at e9
  unfold small at h
  unfold joinedFacts
  generalize Tryz.pinned.checked.prog = P at *
  simp only [Bool.and_eq_true, and_assoc] at h ⊢
  obtain ⟨a1, a4, a5, a6, a8, a10, a11, a12, a13, a14, a15, a16, a17, a18, a19, a20, a21, a22, a24, a29, a30, a31, a32⟩ := h
  exact ⟨a1, e1, e2, a4, a5, a6, e3, a8, e4, a10, a11, a12, a13, a14, a15, a16, a17, a18, a19, a20, a21, a22, e6, a24, e5, e7, e8, e9, a29, a30, a31, a32⟩
end Go.Proofs.YtigiopahmiaedaaGreatDoor.Facts
