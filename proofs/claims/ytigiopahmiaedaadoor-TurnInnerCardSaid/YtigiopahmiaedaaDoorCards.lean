/-
  DERIVED. GIVEN WITH THE SEED: THE CARDS: each row of YtigiopahmiaedaaDoorRows.lean that lists a variable, with what it lists TIED to the program's text (the seventh form; the later family's looks); each row that meets fmt, with fmt's text TOLD by the authors' own Lean function (tested against real Go, not proved from fmt's source: count such statements apart). THE CARD IS WHAT COUNTS. Prove the row's statement (the work); the ties are given (YtigiopahmiaedaaDoorTie.lean); close each card by the builder's one call (the guide's Derived/Test/ToyasCard.lean, 'card_holds'). Laid BY PROGRAM, IN A SANDBOX (cutbox-door.mjs). By AI agents, Wed Nov 11 2026. No macro, syntax, notation, axiom, sorry.
-/
import Derived.Test.YtigiopahmiaedaaDoorRows
import GoSem.ClaimSeven
namespace Go.Proofs.YtigiopahmiaedaaDoor
namespace Rows

/-- THE TIED CARD OF 'vizardlaw17.AnswerErrors'. -/
def answerErrorsCard : Claim7 := { stood := { row := answerErrorsRow, standIns := [], harness := (true, "91de745020131dcca344a117b7a50a4807aafa8d8079cd9f377207c1e656e367"), looks := true }, kinds := [], alts := [], laidByText := true, laidKinds := [.handle], laidTests := true, laidLooks := .later }
def AnswerErrorsCardSaid : Prop := Claim7.holds Tryd.pinned (.plain (OpenSpec.ofChange answerErrorsSpec)) answerErrorsCard

/-- THE TIED CARD OF 'vizardlaw17.AnswerLocal'. -/
def answerLocalCard : Claim7 := { stood := { row := answerLocalRow, standIns := [], harness := (true, "91de745020131dcca344a117b7a50a4807aafa8d8079cd9f377207c1e656e367"), looks := true }, kinds := [], alts := [], laidByText := true, laidKinds := [.handle], laidTests := true, laidLooks := .later }
def AnswerLocalCardSaid : Prop := Claim7.holds Tryd.pinned (.plain (OpenSpec.ofChange answerLocalSpec)) answerLocalCard

/-- THE TIED CARD OF 'vizardlaw17.AnswerEchoes'. -/
def answerEchoesCard : Claim7 := { stood := { row := answerEchoesRow, standIns := [], harness := (true, "91de745020131dcca344a117b7a50a4807aafa8d8079cd9f377207c1e656e367"), looks := true }, kinds := [], alts := [], laidByText := true, laidKinds := [.handle], laidTests := true, laidLooks := .later }
def AnswerEchoesCardSaid : Prop := Claim7.holds Tryd.pinned (.plain (OpenSpec.ofChange answerEchoesSpec)) answerEchoesCard

/-- THE TIED CARD OF 'vizardlaw17.AnswerOnce'. -/
def answerOnceCard : Claim7 := { stood := { row := answerOnceRow, standIns := [], harness := (true, "91de745020131dcca344a117b7a50a4807aafa8d8079cd9f377207c1e656e367"), looks := true }, kinds := [], alts := [], laidByText := true, laidKinds := [.handle], laidTests := true, laidLooks := .later }
def AnswerOnceCardSaid : Prop := Claim7.holds Tryd.pinned (.plain (OpenSpec.ofChange answerOnceSpec)) answerOnceCard

/-- THE TIED CARD OF 'vizardlaw17.AnswerPorts'. -/
def answerPortsCard : Claim7 := { stood := { row := answerPortsRow, standIns := [], harness := (true, "91de745020131dcca344a117b7a50a4807aafa8d8079cd9f377207c1e656e367"), looks := true }, kinds := [], alts := [], laidByText := true, laidKinds := [.handle], laidTests := true, laidLooks := .later }
def AnswerPortsCardSaid : Prop := Claim7.holds Tryd.pinned (.plain (OpenSpec.ofChange answerPortsSpec)) answerPortsCard

/-- THE TIED CARD OF 'vizardlaw21.TurnInner'. -/
def turnInnerCard : Claim7 := { stood := { row := turnInnerRow, standIns := [], harness := (true, "91de745020131dcca344a117b7a50a4807aafa8d8079cd9f377207c1e656e367"), looks := true }, kinds := [], alts := [], laidByText := true, laidKinds := [.handle], laidTests := true, laidLooks := .later }
def TurnInnerCardSaid : Prop := Claim7.holds Tryd.pinned (.plain (OpenSpec.ofChange turnInnerSpec)) turnInnerCard

/-- THE SECOND FORM's CARD OF 'vizardlaw17.AnswerErrors'. -/
def answerErrorsUptoCard : Claim7 := { stood := { row := answerErrorsUptoRow, standIns := [], harness := (true, "91de745020131dcca344a117b7a50a4807aafa8d8079cd9f377207c1e656e367"), looks := true }, kinds := [], alts := [], laidByText := true, laidKinds := [.handle], laidTests := true, laidLooks := .later }
def AnswerErrorsUptoCardSaid : Prop := Claim7.holds Tryd.pinned (.plain (OpenSpec.upto answerErrorsSpec)) answerErrorsUptoCard

/-- THE SECOND FORM's CARD OF 'vizardlaw17.AnswerLocal'. -/
def answerLocalUptoCard : Claim7 := { stood := { row := answerLocalUptoRow, standIns := [], harness := (true, "91de745020131dcca344a117b7a50a4807aafa8d8079cd9f377207c1e656e367"), looks := true }, kinds := [], alts := [], laidByText := true, laidKinds := [.handle], laidTests := true, laidLooks := .later }
def AnswerLocalUptoCardSaid : Prop := Claim7.holds Tryd.pinned (.plain (OpenSpec.upto answerLocalSpec)) answerLocalUptoCard

/-- THE SECOND FORM's CARD OF 'vizardlaw17.AnswerEchoes'. -/
def answerEchoesUptoCard : Claim7 := { stood := { row := answerEchoesUptoRow, standIns := [], harness := (true, "91de745020131dcca344a117b7a50a4807aafa8d8079cd9f377207c1e656e367"), looks := true }, kinds := [], alts := [], laidByText := true, laidKinds := [.handle], laidTests := true, laidLooks := .later }
def AnswerEchoesUptoCardSaid : Prop := Claim7.holds Tryd.pinned (.plain (OpenSpec.upto answerEchoesSpec)) answerEchoesUptoCard

/-- THE SECOND FORM's CARD OF 'vizardlaw17.AnswerOnce'. -/
def answerOnceUptoCard : Claim7 := { stood := { row := answerOnceUptoRow, standIns := [], harness := (true, "91de745020131dcca344a117b7a50a4807aafa8d8079cd9f377207c1e656e367"), looks := true }, kinds := [], alts := [], laidByText := true, laidKinds := [.handle], laidTests := true, laidLooks := .later }
def AnswerOnceUptoCardSaid : Prop := Claim7.holds Tryd.pinned (.plain (OpenSpec.upto answerOnceSpec)) answerOnceUptoCard

/-- THE SECOND FORM's CARD OF 'vizardlaw17.AnswerPorts'. -/
def answerPortsUptoCard : Claim7 := { stood := { row := answerPortsUptoRow, standIns := [], harness := (true, "91de745020131dcca344a117b7a50a4807aafa8d8079cd9f377207c1e656e367"), looks := true }, kinds := [], alts := [], laidByText := true, laidKinds := [.handle], laidTests := true, laidLooks := .later }
def AnswerPortsUptoCardSaid : Prop := Claim7.holds Tryd.pinned (.plain (OpenSpec.upto answerPortsSpec)) answerPortsUptoCard

/-- THE SECOND FORM's CARD OF 'vizardlaw21.TurnInner'. -/
def turnInnerUptoCard : Claim7 := { stood := { row := turnInnerUptoRow, standIns := [], harness := (true, "91de745020131dcca344a117b7a50a4807aafa8d8079cd9f377207c1e656e367"), looks := true }, kinds := [], alts := [], laidByText := true, laidKinds := [.handle], laidTests := true, laidLooks := .later }
def TurnInnerUptoCardSaid : Prop := Claim7.holds Tryd.pinned (.plain (OpenSpec.upto turnInnerSpec)) turnInnerUptoCard
end Rows
end Go.Proofs.YtigiopahmiaedaaDoor
