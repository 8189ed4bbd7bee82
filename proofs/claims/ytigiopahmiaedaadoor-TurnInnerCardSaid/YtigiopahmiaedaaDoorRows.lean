/-
  NARROWER THAN 'FOR EVERY INPUT', by the rows' own cells (each row's printed sentence says how): AnswerErrors: laid · AnswerLocal: laid · AnswerEchoes: laid · AnswerOnce: laid · AnswerPorts: laid · TurnInner: laid.
  DERIVED. THE GIVEN ROWS OF THIS SEAT. 6 by the template 'for every input the law returns true; each argument reads behind the call as it read before'; 0 by the template 'total and deterministic' (their statements: YtigiopahmiaedaaDoorTotals.lean).
  GIVEN WITH THE SEED: the statements are not yours to turn. If you find one false, say at which input.
  Laid BY PROGRAM, IN A SANDBOX (cutbox-rows.mjs): the forced cells as the released guide's own fill.sh prints them over the translation 560e06257319fa91… (all of the seat's roots in one cut). By AI agents, Wed Nov 11 2026. No macro, syntax, notation, axiom, sorry.
-/
import Derived.Test.YtigiopahmiaedaaDoorChecked
import GoSem.Claim
import GoSem.ClaimJoined
import GoSem.ClaimMapViews
import Derived.JoinedTies
import Derived.KernelRfl
namespace Go.Proofs.YtigiopahmiaedaaDoor
/- THE CELL 'sum', in the pinned program and in every row, IS THE sha256 OF THE DUMP (.gsa) THAT YtigiopahmiaedaaDoorProg.lean LOADS. Nothing in Lean hashes anything: it is a label: what it is worth is what the hold of that sum in a sandbox is worth. -/
noncomputable def Tryd.pinned : Pinned := { name := "ytigiopahmiaedaadoor", sum := "560e06257319fa91fb22d77ad2e637057311610345b2475ea5637fb9243755e8", checked := Tryd.checked }
namespace Rows
def none {H : Type} : Left H := { results := [], args := [] }

/- WHAT THE LISTED PACKAGE-LEVEL VARIABLES READ AS WHEN THE CALL BEGINS. Each datum BY PROGRAM (the guide's laid-datum.mjs) off the statement by which the dump's own 'gosem.cut.vars' lays the variable. In a bare row this is a premise. The card (YtigiopahmiaedaaDoorCards.lean) ties it to the program's text. -/
def laid_errors_errorType {H : Type} : DataW H := .iface "internal/reflectlite.rtype" (.agg [.ptr (.lit (.string [101, 114, 114, 111, 114]))])

/-- 'vizardlaw17.AnswerErrors': WHATEVER THE INPUT: true; the input reads as it did. -/
def answerErrorsSpec : ChangeSpec := { name := "answerErrors", fn := fun _ => fun
  | [d1, d2, d3, d4] => { results := [.lit (.bool true)], args := [d1, d2, d3, d4] }
  | _ => none }
def answerErrorsRow : OpenClaim := { program := "ytigiopahmiaedaadoor", sum := "560e06257319fa91fb22d77ad2e637057311610345b2475ea5637fb9243755e8", func := "vizard/vizardlaw17.AnswerErrors", spec := "answerErrors", inPlace := ["internal/reflectlite.ValueOf", "(internal/reflectlite.Value).Type", "(internal/reflectlite.Value).IsNil", "internal/reflectlite.TypeOf", "(internal/reflectlite.Value).Elem", "(internal/reflectlite.Value).Set"], unfollowed := true, recurses := true, named := ["errors.errorType"], apart := false, laid := [("errors.errorType", laid_errors_errorType)] }
def AnswerErrorsSaid : Prop := answerErrorsRow.holds Tryd.pinned (OpenSpec.ofChange answerErrorsSpec)

/-- ITS FALSE NEIGHBOUR: 'it returns false'. Refute it at one input. -/
def answerErrorsWrong : ChangeSpec := { name := "answerErrors", fn := fun _ => fun
  | [d1, d2, d3, d4] => { results := [.lit (.bool false)], args := [d1, d2, d3, d4] }
  | _ => none }
def AnswerErrorsWrongFalsely : Prop := answerErrorsRow.holds Tryd.pinned (OpenSpec.ofChange answerErrorsWrong)

/-- 'vizardlaw17.AnswerLocal': WHATEVER THE INPUT: true; the input reads as it did. -/
def answerLocalSpec : ChangeSpec := { name := "answerLocal", fn := fun _ => fun
  | [d1, d2, d3] => { results := [.lit (.bool true)], args := [d1, d2, d3] }
  | _ => none }
def answerLocalRow : OpenClaim := { program := "ytigiopahmiaedaadoor", sum := "560e06257319fa91fb22d77ad2e637057311610345b2475ea5637fb9243755e8", func := "vizard/vizardlaw17.AnswerLocal", spec := "answerLocal", inPlace := ["internal/reflectlite.ValueOf", "(internal/reflectlite.Value).Type", "(internal/reflectlite.Value).IsNil", "internal/reflectlite.TypeOf", "(internal/reflectlite.Value).Elem", "(internal/reflectlite.Value).Set"], unfollowed := true, recurses := true, named := ["errors.errorType"], apart := false, laid := [("errors.errorType", laid_errors_errorType)] }
def AnswerLocalSaid : Prop := answerLocalRow.holds Tryd.pinned (OpenSpec.ofChange answerLocalSpec)

/-- ITS FALSE NEIGHBOUR: 'it returns false'. Refute it at one input. -/
def answerLocalWrong : ChangeSpec := { name := "answerLocal", fn := fun _ => fun
  | [d1, d2, d3] => { results := [.lit (.bool false)], args := [d1, d2, d3] }
  | _ => none }
def AnswerLocalWrongFalsely : Prop := answerLocalRow.holds Tryd.pinned (OpenSpec.ofChange answerLocalWrong)

/-- 'vizardlaw17.AnswerEchoes': WHATEVER THE INPUT: true; the input reads as it did. -/
def answerEchoesSpec : ChangeSpec := { name := "answerEchoes", fn := fun _ => fun
  | [d1, d2, d3, d4, d5, d6] => { results := [.lit (.bool true)], args := [d1, d2, d3, d4, d5, d6] }
  | _ => none }
def answerEchoesRow : OpenClaim := { program := "ytigiopahmiaedaadoor", sum := "560e06257319fa91fb22d77ad2e637057311610345b2475ea5637fb9243755e8", func := "vizard/vizardlaw17.AnswerEchoes", spec := "answerEchoes", inPlace := ["internal/reflectlite.ValueOf", "(internal/reflectlite.Value).Type", "(internal/reflectlite.Value).IsNil", "internal/reflectlite.TypeOf", "(internal/reflectlite.Value).Elem", "(internal/reflectlite.Value).Set"], unfollowed := true, recurses := true, named := ["errors.errorType"], apart := false, laid := [("errors.errorType", laid_errors_errorType)] }
def AnswerEchoesSaid : Prop := answerEchoesRow.holds Tryd.pinned (OpenSpec.ofChange answerEchoesSpec)

/-- ITS FALSE NEIGHBOUR: 'it returns false'. Refute it at one input. -/
def answerEchoesWrong : ChangeSpec := { name := "answerEchoes", fn := fun _ => fun
  | [d1, d2, d3, d4, d5, d6] => { results := [.lit (.bool false)], args := [d1, d2, d3, d4, d5, d6] }
  | _ => none }
def AnswerEchoesWrongFalsely : Prop := answerEchoesRow.holds Tryd.pinned (OpenSpec.ofChange answerEchoesWrong)

/-- 'vizardlaw17.AnswerOnce': WHATEVER THE INPUT: true; the input reads as it did. -/
def answerOnceSpec : ChangeSpec := { name := "answerOnce", fn := fun _ => fun
  | [d1, d2, d3, d4, d5] => { results := [.lit (.bool true)], args := [d1, d2, d3, d4, d5] }
  | _ => none }
def answerOnceRow : OpenClaim := { program := "ytigiopahmiaedaadoor", sum := "560e06257319fa91fb22d77ad2e637057311610345b2475ea5637fb9243755e8", func := "vizard/vizardlaw17.AnswerOnce", spec := "answerOnce", inPlace := ["internal/reflectlite.ValueOf", "(internal/reflectlite.Value).Type", "(internal/reflectlite.Value).IsNil", "internal/reflectlite.TypeOf", "(internal/reflectlite.Value).Elem", "(internal/reflectlite.Value).Set"], unfollowed := true, recurses := true, named := ["errors.errorType"], apart := false, laid := [("errors.errorType", laid_errors_errorType)] }
def AnswerOnceSaid : Prop := answerOnceRow.holds Tryd.pinned (OpenSpec.ofChange answerOnceSpec)

/-- ITS FALSE NEIGHBOUR: 'it returns false'. Refute it at one input. -/
def answerOnceWrong : ChangeSpec := { name := "answerOnce", fn := fun _ => fun
  | [d1, d2, d3, d4, d5] => { results := [.lit (.bool false)], args := [d1, d2, d3, d4, d5] }
  | _ => none }
def AnswerOnceWrongFalsely : Prop := answerOnceRow.holds Tryd.pinned (OpenSpec.ofChange answerOnceWrong)

/-- 'vizardlaw17.AnswerPorts': WHATEVER THE INPUT: true; the input reads as it did. -/
def answerPortsSpec : ChangeSpec := { name := "answerPorts", fn := fun _ => fun
  | [d1, d2, d3, d4, d5, d6] => { results := [.lit (.bool true)], args := [d1, d2, d3, d4, d5, d6] }
  | _ => none }
def answerPortsRow : OpenClaim := { program := "ytigiopahmiaedaadoor", sum := "560e06257319fa91fb22d77ad2e637057311610345b2475ea5637fb9243755e8", func := "vizard/vizardlaw17.AnswerPorts", spec := "answerPorts", inPlace := ["internal/reflectlite.ValueOf", "(internal/reflectlite.Value).Type", "(internal/reflectlite.Value).IsNil", "internal/reflectlite.TypeOf", "(internal/reflectlite.Value).Elem", "(internal/reflectlite.Value).Set"], unfollowed := true, recurses := true, named := ["errors.errorType"], apart := false, laid := [("errors.errorType", laid_errors_errorType)] }
def AnswerPortsSaid : Prop := answerPortsRow.holds Tryd.pinned (OpenSpec.ofChange answerPortsSpec)

/-- ITS FALSE NEIGHBOUR: 'it returns false'. Refute it at one input. -/
def answerPortsWrong : ChangeSpec := { name := "answerPorts", fn := fun _ => fun
  | [d1, d2, d3, d4, d5, d6] => { results := [.lit (.bool false)], args := [d1, d2, d3, d4, d5, d6] }
  | _ => none }
def AnswerPortsWrongFalsely : Prop := answerPortsRow.holds Tryd.pinned (OpenSpec.ofChange answerPortsWrong)

/-- 'vizardlaw21.TurnInner': WHATEVER THE INPUT: true; the input reads as it did. -/
def turnInnerSpec : ChangeSpec := { name := "turnInner", fn := fun _ => fun
  | [d1, d2, d3] => { results := [.lit (.bool true)], args := [d1, d2, d3] }
  | _ => none }
def turnInnerRow : OpenClaim := { program := "ytigiopahmiaedaadoor", sum := "560e06257319fa91fb22d77ad2e637057311610345b2475ea5637fb9243755e8", func := "vizard/vizardlaw21.TurnInner", spec := "turnInner", inPlace := ["internal/reflectlite.ValueOf", "(internal/reflectlite.Value).Type", "(internal/reflectlite.Value).IsNil", "internal/reflectlite.TypeOf", "(internal/reflectlite.Value).Elem", "(internal/reflectlite.Value).Set"], unfollowed := true, recurses := true, named := ["errors.errorType"], apart := false, laid := [("errors.errorType", laid_errors_errorType)] }
def TurnInnerSaid : Prop := turnInnerRow.holds Tryd.pinned (OpenSpec.ofChange turnInnerSpec)

/-- ITS FALSE NEIGHBOUR: 'it returns false'. Refute it at one input. -/
def turnInnerWrong : ChangeSpec := { name := "turnInner", fn := fun _ => fun
  | [d1, d2, d3] => { results := [.lit (.bool false)], args := [d1, d2, d3] }
  | _ => none }
def TurnInnerWrongFalsely : Prop := turnInnerRow.holds Tryd.pinned (OpenSpec.ofChange turnInnerWrong)

/- THE SECOND FORM. 'bulk': how many values and letters a reading holds, each counted each time it is reached (what is shared counts as often as it is met; a slice's spare places count too). A statement '..UptoSaid' is the law's where the arguments, and the package variables that the reading takes, are together of bulk at most 1048576: NARROWER than '..Said'. Prove '..Said' where nothing that the law and all that it calls make is longer than what came in: it says more and counts as full. Else prove '..UptoSaid'. A law counts once. -/
mutual
def uptoBulk {H : Type} : DataW H → Nat
  | .lit (.string bytes) => bytes.length + 1
  | .lit _ => 1
  | .nil => 1
  | .ptr d => uptoBulk d + 1
  | .slice elems spare => uptoBulkAll elems + uptoBulkAll spare + 1
  | .agg parts => uptoBulkAll parts + 1
  | .iface _ d => uptoBulk d + 1
  | .map entries => uptoBulkEntries entries + 1
  | .held _ => 1
def uptoBulkAll {H : Type} : List (DataW H) → Nat
  | [] => 0
  | d :: r => uptoBulk d + uptoBulkAll r
def uptoBulkEntries {H : Type} : List (Lit × DataW H) → Nat
  | [] => 0
  | x :: r => uptoBulkEntry x + uptoBulkEntries r
def uptoBulkEntry {H : Type} : Lit × DataW H → Nat
  | (.string bytes, d) => bytes.length + uptoBulk d + 1
  | (_, d) => uptoBulk d + 1
 end
def uptoSmall : (H : Type) → List (DataW H) → Bool := fun _ ds => decide (uptoBulkAll ds ≤ 1048576)
def OpenSpec.upto (s : _root_.Go.ChangeSpec) : _root_.Go.OpenSpec := { _root_.Go.OpenSpec.ofChange s with cond := some uptoSmall }

/-- 'vizardlaw17.AnswerErrors', WHERE WHAT IT READS IS OF BULK AT MOST 1048576: true; the input reads as it did. -/
def answerErrorsUptoRow : OpenClaim := { program := "ytigiopahmiaedaadoor", sum := "560e06257319fa91fb22d77ad2e637057311610345b2475ea5637fb9243755e8", func := "vizard/vizardlaw17.AnswerErrors", spec := "answerErrors", inPlace := ["internal/reflectlite.ValueOf", "(internal/reflectlite.Value).Type", "(internal/reflectlite.Value).IsNil", "internal/reflectlite.TypeOf", "(internal/reflectlite.Value).Elem", "(internal/reflectlite.Value).Set"], unfollowed := true, recurses := true, named := ["errors.errorType"], apart := false, laid := [("errors.errorType", laid_errors_errorType)], narrowed := true }
def AnswerErrorsUptoSaid : Prop := answerErrorsUptoRow.holds Tryd.pinned (OpenSpec.upto answerErrorsSpec)

/-- 'vizardlaw17.AnswerLocal', WHERE WHAT IT READS IS OF BULK AT MOST 1048576: true; the input reads as it did. -/
def answerLocalUptoRow : OpenClaim := { program := "ytigiopahmiaedaadoor", sum := "560e06257319fa91fb22d77ad2e637057311610345b2475ea5637fb9243755e8", func := "vizard/vizardlaw17.AnswerLocal", spec := "answerLocal", inPlace := ["internal/reflectlite.ValueOf", "(internal/reflectlite.Value).Type", "(internal/reflectlite.Value).IsNil", "internal/reflectlite.TypeOf", "(internal/reflectlite.Value).Elem", "(internal/reflectlite.Value).Set"], unfollowed := true, recurses := true, named := ["errors.errorType"], apart := false, laid := [("errors.errorType", laid_errors_errorType)], narrowed := true }
def AnswerLocalUptoSaid : Prop := answerLocalUptoRow.holds Tryd.pinned (OpenSpec.upto answerLocalSpec)

/-- 'vizardlaw17.AnswerEchoes', WHERE WHAT IT READS IS OF BULK AT MOST 1048576: true; the input reads as it did. -/
def answerEchoesUptoRow : OpenClaim := { program := "ytigiopahmiaedaadoor", sum := "560e06257319fa91fb22d77ad2e637057311610345b2475ea5637fb9243755e8", func := "vizard/vizardlaw17.AnswerEchoes", spec := "answerEchoes", inPlace := ["internal/reflectlite.ValueOf", "(internal/reflectlite.Value).Type", "(internal/reflectlite.Value).IsNil", "internal/reflectlite.TypeOf", "(internal/reflectlite.Value).Elem", "(internal/reflectlite.Value).Set"], unfollowed := true, recurses := true, named := ["errors.errorType"], apart := false, laid := [("errors.errorType", laid_errors_errorType)], narrowed := true }
def AnswerEchoesUptoSaid : Prop := answerEchoesUptoRow.holds Tryd.pinned (OpenSpec.upto answerEchoesSpec)

/-- 'vizardlaw17.AnswerOnce', WHERE WHAT IT READS IS OF BULK AT MOST 1048576: true; the input reads as it did. -/
def answerOnceUptoRow : OpenClaim := { program := "ytigiopahmiaedaadoor", sum := "560e06257319fa91fb22d77ad2e637057311610345b2475ea5637fb9243755e8", func := "vizard/vizardlaw17.AnswerOnce", spec := "answerOnce", inPlace := ["internal/reflectlite.ValueOf", "(internal/reflectlite.Value).Type", "(internal/reflectlite.Value).IsNil", "internal/reflectlite.TypeOf", "(internal/reflectlite.Value).Elem", "(internal/reflectlite.Value).Set"], unfollowed := true, recurses := true, named := ["errors.errorType"], apart := false, laid := [("errors.errorType", laid_errors_errorType)], narrowed := true }
def AnswerOnceUptoSaid : Prop := answerOnceUptoRow.holds Tryd.pinned (OpenSpec.upto answerOnceSpec)

/-- 'vizardlaw17.AnswerPorts', WHERE WHAT IT READS IS OF BULK AT MOST 1048576: true; the input reads as it did. -/
def answerPortsUptoRow : OpenClaim := { program := "ytigiopahmiaedaadoor", sum := "560e06257319fa91fb22d77ad2e637057311610345b2475ea5637fb9243755e8", func := "vizard/vizardlaw17.AnswerPorts", spec := "answerPorts", inPlace := ["internal/reflectlite.ValueOf", "(internal/reflectlite.Value).Type", "(internal/reflectlite.Value).IsNil", "internal/reflectlite.TypeOf", "(internal/reflectlite.Value).Elem", "(internal/reflectlite.Value).Set"], unfollowed := true, recurses := true, named := ["errors.errorType"], apart := false, laid := [("errors.errorType", laid_errors_errorType)], narrowed := true }
def AnswerPortsUptoSaid : Prop := answerPortsUptoRow.holds Tryd.pinned (OpenSpec.upto answerPortsSpec)

/-- 'vizardlaw21.TurnInner', WHERE WHAT IT READS IS OF BULK AT MOST 1048576: true; the input reads as it did. -/
def turnInnerUptoRow : OpenClaim := { program := "ytigiopahmiaedaadoor", sum := "560e06257319fa91fb22d77ad2e637057311610345b2475ea5637fb9243755e8", func := "vizard/vizardlaw21.TurnInner", spec := "turnInner", inPlace := ["internal/reflectlite.ValueOf", "(internal/reflectlite.Value).Type", "(internal/reflectlite.Value).IsNil", "internal/reflectlite.TypeOf", "(internal/reflectlite.Value).Elem", "(internal/reflectlite.Value).Set"], unfollowed := true, recurses := true, named := ["errors.errorType"], apart := false, laid := [("errors.errorType", laid_errors_errorType)], narrowed := true }
def TurnInnerUptoSaid : Prop := turnInnerUptoRow.holds Tryd.pinned (OpenSpec.upto turnInnerSpec)

end Rows
end Go.Proofs.YtigiopahmiaedaaDoor
