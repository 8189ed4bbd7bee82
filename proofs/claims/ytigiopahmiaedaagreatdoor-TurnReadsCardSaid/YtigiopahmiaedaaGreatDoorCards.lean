/-
  DERIVED. GIVEN WITH THE SEED: THE CARDS: each row of YtigiopahmiaedaaGreatDoorRows.lean that lists a variable, with what it lists TIED to the program's text (the seventh form; the later family's looks); each row that meets fmt, with fmt's text TOLD by the authors' own Lean function (tested against real Go, not proved from fmt's source: count such statements apart). THE CARD IS WHAT COUNTS. Prove the row's statement (the work); the ties are given (YtigiopahmiaedaaGreatDoorTie.lean); close each card by the builder's one call (the guide's Derived/Test/ToyasCard.lean, 'card_holds'). Laid BY PROGRAM, IN A SANDBOX (cutbox-door.mjs). By AI agents, Wed Nov 11 2026. No macro, syntax, notation, axiom, sorry.
-/
import Derived.Test.YtigiopahmiaedaaGreatDoorRows
import GoSem.ClaimSeven
namespace Go.Proofs.YtigiopahmiaedaaGreatDoor
namespace Rows

/-- THE TIED CARD OF 'vizardlaw21.TurnReads'. -/
def turnReadsCard : Claim7 := { stood := { row := turnReadsRow, standIns := [], harness := (true, "29ef5cfefd33eee924d410b3ea635dc4418d407a6f6e7ceba688a42e6b6e112b"), looks := true }, kinds := [], alts := [], laidByText := true, laidKinds := [.handle], laidTests := true, laidLooks := .later }
def TurnReadsCardSaid : Prop := Claim7.holds Tryz.pinned (.plain (OpenSpec.ofChange turnReadsSpec)) turnReadsCard

/-- THE SECOND FORM's CARD OF 'vizardlaw21.TurnReads'. -/
def turnReadsUptoCard : Claim7 := { stood := { row := turnReadsUptoRow, standIns := [], harness := (true, "29ef5cfefd33eee924d410b3ea635dc4418d407a6f6e7ceba688a42e6b6e112b"), looks := true }, kinds := [], alts := [], laidByText := true, laidKinds := [.handle], laidTests := true, laidLooks := .later }
def TurnReadsUptoCardSaid : Prop := Claim7.holds Tryz.pinned (.plain (OpenSpec.upto turnReadsSpec)) turnReadsUptoCard
end Rows
end Go.Proofs.YtigiopahmiaedaaGreatDoor
