/-
  NARROWER THAN 'FOR EVERY INPUT', by the rows' own cells (each row's printed sentence says how): TcpParses: laid · TcpMakes: laid · UdpParses: laid · UdpWrites: laid · UdpSpoilt: laid · UdpSwaps: laid · InetWrites: laid · InetSpoilt: laid · InetCuts: laid · InetTtl: laid · InetPeeks: laid · AnswerErrors: laid · AnswerLocal: laid · AnswerEchoes: laid · IcmpParses: laid · IcmpWrites: laid · IcmpInner: laid · IcmpMarks: laid · AnswerOnce: laid · AnswerPorts: laid · TurnInner: laid.
  DERIVED. THE GIVEN ROWS OF THIS SEAT. 21 by the template 'for every input the law returns true; each argument reads behind the call as it read before'; 0 by the template 'total and deterministic' (their statements: YtmmfimpphhebfaaDoorTotals.lean).
  GIVEN WITH THE SEED: the statements are not yours to turn. If you find one false, say at which input.
  Laid BY PROGRAM, IN A SANDBOX (cutbox-rows.mjs): the forced cells as the released guide's own fill.sh prints them over the translation e0c29d035bd68cb1… (all of the seat's roots in one cut). By AI agents, Wed Nov 11 2026. No macro, syntax, notation, axiom, sorry.
-/
import Derived.Test.YtmmfimpphhebfaaDoorChecked
import GoSem.Claim
import GoSem.ClaimJoined
import GoSem.ClaimMapViews
import Derived.JoinedTies
import Derived.KernelRfl
namespace Go.Proofs.YtmmfimpphhebfaaDoor
/- THE CELL 'sum', in the pinned program and in every row, IS THE sha256 OF THE DUMP (.gsa) THAT YtmmfimpphhebfaaDoorProg.lean LOADS. Nothing in Lean hashes anything: it is a label: what it is worth is what the hold of that sum in a sandbox is worth. -/
noncomputable def Tryd.pinned : Pinned := { name := "ytmmfimpphhebfaadoor", sum := "e0c29d035bd68cb19987dfb1755337284a771b730d6be790b693ebbacfd61e31", checked := Tryd.checked }
namespace Rows
def none {H : Type} : Left H := { results := [], args := [] }

/- WHAT THE LISTED PACKAGE-LEVEL VARIABLES READ AS WHEN THE CALL BEGINS. Each datum BY PROGRAM (the guide's laid-datum.mjs) off the statement by which the dump's own 'gosem.cut.vars' lays the variable. In a bare row this is a premise. The card (YtmmfimpphhebfaaDoorCards.lean) ties it to the program's text. -/
def laid_errors_errorType {H : Type} : DataW H := .iface "internal/reflectlite.rtype" (.agg [.ptr (.lit (.string [101, 114, 114, 111, 114]))])

/-- 'vizardlaw09.TcpParses': WHATEVER THE INPUT: true; the input reads as it did. -/
def tcpParsesSpec : ChangeSpec := { name := "tcpParses", fn := fun _ => fun
  | [d1, d2, d3] => { results := [.lit (.bool true)], args := [d1, d2, d3] }
  | _ => none }
def tcpParsesRow : OpenClaim := { program := "ytmmfimpphhebfaadoor", sum := "e0c29d035bd68cb19987dfb1755337284a771b730d6be790b693ebbacfd61e31", func := "vizard/vizardlaw09.TcpParses", spec := "tcpParses", inPlace := ["internal/reflectlite.TypeOf", "internal/reflectlite.ValueOf", "(internal/reflectlite.Value).Type", "(internal/reflectlite.Value).IsNil", "(internal/reflectlite.Value).Elem", "(internal/reflectlite.Value).Set"], unfollowed := true, recurses := true, named := ["errors.errorType"], apart := false, laid := [("errors.errorType", laid_errors_errorType)] }
def TcpParsesSaid : Prop := tcpParsesRow.holds Tryd.pinned (OpenSpec.ofChange tcpParsesSpec)

/-- ITS FALSE NEIGHBOUR: 'it returns false'. Refute it at one input. -/
def tcpParsesWrong : ChangeSpec := { name := "tcpParses", fn := fun _ => fun
  | [d1, d2, d3] => { results := [.lit (.bool false)], args := [d1, d2, d3] }
  | _ => none }
def TcpParsesWrongFalsely : Prop := tcpParsesRow.holds Tryd.pinned (OpenSpec.ofChange tcpParsesWrong)

/-- 'vizardlaw09.TcpMakes': WHATEVER THE INPUT: true; the input reads as it did. -/
def tcpMakesSpec : ChangeSpec := { name := "tcpMakes", fn := fun _ => fun
  | [d1, d2, d3, d4, d5, d6, d7] => { results := [.lit (.bool true)], args := [d1, d2, d3, d4, d5, d6, d7] }
  | _ => none }
def tcpMakesRow : OpenClaim := { program := "ytmmfimpphhebfaadoor", sum := "e0c29d035bd68cb19987dfb1755337284a771b730d6be790b693ebbacfd61e31", func := "vizard/vizardlaw09.TcpMakes", spec := "tcpMakes", inPlace := ["internal/reflectlite.TypeOf", "internal/reflectlite.ValueOf", "(internal/reflectlite.Value).Type", "(internal/reflectlite.Value).IsNil", "(internal/reflectlite.Value).Elem", "(internal/reflectlite.Value).Set"], unfollowed := true, recurses := true, named := ["errors.errorType"], apart := false, laid := [("errors.errorType", laid_errors_errorType)] }
def TcpMakesSaid : Prop := tcpMakesRow.holds Tryd.pinned (OpenSpec.ofChange tcpMakesSpec)

/-- ITS FALSE NEIGHBOUR: 'it returns false'. Refute it at one input. -/
def tcpMakesWrong : ChangeSpec := { name := "tcpMakes", fn := fun _ => fun
  | [d1, d2, d3, d4, d5, d6, d7] => { results := [.lit (.bool false)], args := [d1, d2, d3, d4, d5, d6, d7] }
  | _ => none }
def TcpMakesWrongFalsely : Prop := tcpMakesRow.holds Tryd.pinned (OpenSpec.ofChange tcpMakesWrong)

/-- 'vizardlaw08.UdpParses': WHATEVER THE INPUT: true; the input reads as it did. -/
def udpParsesSpec : ChangeSpec := { name := "udpParses", fn := fun _ => fun
  | [d1, d2, d3] => { results := [.lit (.bool true)], args := [d1, d2, d3] }
  | _ => none }
def udpParsesRow : OpenClaim := { program := "ytmmfimpphhebfaadoor", sum := "e0c29d035bd68cb19987dfb1755337284a771b730d6be790b693ebbacfd61e31", func := "vizard/vizardlaw08.UdpParses", spec := "udpParses", inPlace := ["internal/reflectlite.TypeOf", "internal/reflectlite.ValueOf", "(internal/reflectlite.Value).Type", "(internal/reflectlite.Value).IsNil", "(internal/reflectlite.Value).Elem", "(internal/reflectlite.Value).Set"], unfollowed := true, recurses := true, named := ["errors.errorType"], apart := false, laid := [("errors.errorType", laid_errors_errorType)] }
def UdpParsesSaid : Prop := udpParsesRow.holds Tryd.pinned (OpenSpec.ofChange udpParsesSpec)

/-- ITS FALSE NEIGHBOUR: 'it returns false'. Refute it at one input. -/
def udpParsesWrong : ChangeSpec := { name := "udpParses", fn := fun _ => fun
  | [d1, d2, d3] => { results := [.lit (.bool false)], args := [d1, d2, d3] }
  | _ => none }
def UdpParsesWrongFalsely : Prop := udpParsesRow.holds Tryd.pinned (OpenSpec.ofChange udpParsesWrong)

/-- 'vizardlaw08.UdpWrites': WHATEVER THE INPUT: true; the input reads as it did. -/
def udpWritesSpec : ChangeSpec := { name := "udpWrites", fn := fun _ => fun
  | [d1, d2, d3, d4, d5] => { results := [.lit (.bool true)], args := [d1, d2, d3, d4, d5] }
  | _ => none }
def udpWritesRow : OpenClaim := { program := "ytmmfimpphhebfaadoor", sum := "e0c29d035bd68cb19987dfb1755337284a771b730d6be790b693ebbacfd61e31", func := "vizard/vizardlaw08.UdpWrites", spec := "udpWrites", inPlace := ["internal/reflectlite.TypeOf", "internal/reflectlite.ValueOf", "(internal/reflectlite.Value).Type", "(internal/reflectlite.Value).IsNil", "(internal/reflectlite.Value).Elem", "(internal/reflectlite.Value).Set"], unfollowed := true, recurses := true, named := ["errors.errorType"], apart := false, laid := [("errors.errorType", laid_errors_errorType)] }
def UdpWritesSaid : Prop := udpWritesRow.holds Tryd.pinned (OpenSpec.ofChange udpWritesSpec)

/-- ITS FALSE NEIGHBOUR: 'it returns false'. Refute it at one input. -/
def udpWritesWrong : ChangeSpec := { name := "udpWrites", fn := fun _ => fun
  | [d1, d2, d3, d4, d5] => { results := [.lit (.bool false)], args := [d1, d2, d3, d4, d5] }
  | _ => none }
def UdpWritesWrongFalsely : Prop := udpWritesRow.holds Tryd.pinned (OpenSpec.ofChange udpWritesWrong)

/-- 'vizardlaw08.UdpSpoilt': WHATEVER THE INPUT: true; the input reads as it did. -/
def udpSpoiltSpec : ChangeSpec := { name := "udpSpoilt", fn := fun _ => fun
  | [d1, d2, d3, d4, d5] => { results := [.lit (.bool true)], args := [d1, d2, d3, d4, d5] }
  | _ => none }
def udpSpoiltRow : OpenClaim := { program := "ytmmfimpphhebfaadoor", sum := "e0c29d035bd68cb19987dfb1755337284a771b730d6be790b693ebbacfd61e31", func := "vizard/vizardlaw08.UdpSpoilt", spec := "udpSpoilt", inPlace := ["internal/reflectlite.TypeOf", "internal/reflectlite.ValueOf", "(internal/reflectlite.Value).Type", "(internal/reflectlite.Value).IsNil", "(internal/reflectlite.Value).Elem", "(internal/reflectlite.Value).Set"], unfollowed := true, recurses := true, named := ["errors.errorType"], apart := false, laid := [("errors.errorType", laid_errors_errorType)] }
def UdpSpoiltSaid : Prop := udpSpoiltRow.holds Tryd.pinned (OpenSpec.ofChange udpSpoiltSpec)

/-- ITS FALSE NEIGHBOUR: 'it returns false'. Refute it at one input. -/
def udpSpoiltWrong : ChangeSpec := { name := "udpSpoilt", fn := fun _ => fun
  | [d1, d2, d3, d4, d5] => { results := [.lit (.bool false)], args := [d1, d2, d3, d4, d5] }
  | _ => none }
def UdpSpoiltWrongFalsely : Prop := udpSpoiltRow.holds Tryd.pinned (OpenSpec.ofChange udpSpoiltWrong)

/-- 'vizardlaw08.UdpSwaps': WHATEVER THE INPUT: true; the input reads as it did. -/
def udpSwapsSpec : ChangeSpec := { name := "udpSwaps", fn := fun _ => fun
  | [d1, d2, d3] => { results := [.lit (.bool true)], args := [d1, d2, d3] }
  | _ => none }
def udpSwapsRow : OpenClaim := { program := "ytmmfimpphhebfaadoor", sum := "e0c29d035bd68cb19987dfb1755337284a771b730d6be790b693ebbacfd61e31", func := "vizard/vizardlaw08.UdpSwaps", spec := "udpSwaps", inPlace := ["internal/reflectlite.TypeOf", "internal/reflectlite.ValueOf", "(internal/reflectlite.Value).Type", "(internal/reflectlite.Value).IsNil", "(internal/reflectlite.Value).Elem", "(internal/reflectlite.Value).Set"], unfollowed := true, recurses := true, named := ["errors.errorType"], apart := false, laid := [("errors.errorType", laid_errors_errorType)] }
def UdpSwapsSaid : Prop := udpSwapsRow.holds Tryd.pinned (OpenSpec.ofChange udpSwapsSpec)

/-- ITS FALSE NEIGHBOUR: 'it returns false'. Refute it at one input. -/
def udpSwapsWrong : ChangeSpec := { name := "udpSwaps", fn := fun _ => fun
  | [d1, d2, d3] => { results := [.lit (.bool false)], args := [d1, d2, d3] }
  | _ => none }
def UdpSwapsWrongFalsely : Prop := udpSwapsRow.holds Tryd.pinned (OpenSpec.ofChange udpSwapsWrong)

/-- 'vizardlaw07.InetWrites': WHATEVER THE INPUT: true; the input reads as it did. -/
def inetWritesSpec : ChangeSpec := { name := "inetWrites", fn := fun _ => fun
  | [d1, d2, d3] => { results := [.lit (.bool true)], args := [d1, d2, d3] }
  | _ => none }
def inetWritesRow : OpenClaim := { program := "ytmmfimpphhebfaadoor", sum := "e0c29d035bd68cb19987dfb1755337284a771b730d6be790b693ebbacfd61e31", func := "vizard/vizardlaw07.InetWrites", spec := "inetWrites", inPlace := ["internal/reflectlite.TypeOf", "internal/reflectlite.ValueOf", "(internal/reflectlite.Value).Type", "(internal/reflectlite.Value).IsNil", "(internal/reflectlite.Value).Elem", "(internal/reflectlite.Value).Set"], unfollowed := true, recurses := true, named := ["errors.errorType"], apart := false, laid := [("errors.errorType", laid_errors_errorType)] }
def InetWritesSaid : Prop := inetWritesRow.holds Tryd.pinned (OpenSpec.ofChange inetWritesSpec)

/-- ITS FALSE NEIGHBOUR: 'it returns false'. Refute it at one input. -/
def inetWritesWrong : ChangeSpec := { name := "inetWrites", fn := fun _ => fun
  | [d1, d2, d3] => { results := [.lit (.bool false)], args := [d1, d2, d3] }
  | _ => none }
def InetWritesWrongFalsely : Prop := inetWritesRow.holds Tryd.pinned (OpenSpec.ofChange inetWritesWrong)

/-- 'vizardlaw07.InetSpoilt': WHATEVER THE INPUT: true; the input reads as it did. -/
def inetSpoiltSpec : ChangeSpec := { name := "inetSpoilt", fn := fun _ => fun
  | [d1, d2, d3] => { results := [.lit (.bool true)], args := [d1, d2, d3] }
  | _ => none }
def inetSpoiltRow : OpenClaim := { program := "ytmmfimpphhebfaadoor", sum := "e0c29d035bd68cb19987dfb1755337284a771b730d6be790b693ebbacfd61e31", func := "vizard/vizardlaw07.InetSpoilt", spec := "inetSpoilt", inPlace := ["internal/reflectlite.TypeOf", "internal/reflectlite.ValueOf", "(internal/reflectlite.Value).Type", "(internal/reflectlite.Value).IsNil", "(internal/reflectlite.Value).Elem", "(internal/reflectlite.Value).Set"], unfollowed := true, recurses := true, named := ["errors.errorType"], apart := false, laid := [("errors.errorType", laid_errors_errorType)] }
def InetSpoiltSaid : Prop := inetSpoiltRow.holds Tryd.pinned (OpenSpec.ofChange inetSpoiltSpec)

/-- ITS FALSE NEIGHBOUR: 'it returns false'. Refute it at one input. -/
def inetSpoiltWrong : ChangeSpec := { name := "inetSpoilt", fn := fun _ => fun
  | [d1, d2, d3] => { results := [.lit (.bool false)], args := [d1, d2, d3] }
  | _ => none }
def InetSpoiltWrongFalsely : Prop := inetSpoiltRow.holds Tryd.pinned (OpenSpec.ofChange inetSpoiltWrong)

/-- 'vizardlaw07.InetCuts': WHATEVER THE INPUT: true; the input reads as it did. -/
def inetCutsSpec : ChangeSpec := { name := "inetCuts", fn := fun _ => fun
  | [d1, d2] => { results := [.lit (.bool true)], args := [d1, d2] }
  | _ => none }
def inetCutsRow : OpenClaim := { program := "ytmmfimpphhebfaadoor", sum := "e0c29d035bd68cb19987dfb1755337284a771b730d6be790b693ebbacfd61e31", func := "vizard/vizardlaw07.InetCuts", spec := "inetCuts", inPlace := ["internal/reflectlite.TypeOf", "internal/reflectlite.ValueOf", "(internal/reflectlite.Value).Type", "(internal/reflectlite.Value).IsNil", "(internal/reflectlite.Value).Elem", "(internal/reflectlite.Value).Set"], unfollowed := true, recurses := true, named := ["errors.errorType"], apart := false, laid := [("errors.errorType", laid_errors_errorType)] }
def InetCutsSaid : Prop := inetCutsRow.holds Tryd.pinned (OpenSpec.ofChange inetCutsSpec)

/-- ITS FALSE NEIGHBOUR: 'it returns false'. Refute it at one input. -/
def inetCutsWrong : ChangeSpec := { name := "inetCuts", fn := fun _ => fun
  | [d1, d2] => { results := [.lit (.bool false)], args := [d1, d2] }
  | _ => none }
def InetCutsWrongFalsely : Prop := inetCutsRow.holds Tryd.pinned (OpenSpec.ofChange inetCutsWrong)

/-- 'vizardlaw07.InetTtl': WHATEVER THE INPUT: true; the input reads as it did. -/
def inetTtlSpec : ChangeSpec := { name := "inetTtl", fn := fun _ => fun
  | [d1, d2, d3] => { results := [.lit (.bool true)], args := [d1, d2, d3] }
  | _ => none }
def inetTtlRow : OpenClaim := { program := "ytmmfimpphhebfaadoor", sum := "e0c29d035bd68cb19987dfb1755337284a771b730d6be790b693ebbacfd61e31", func := "vizard/vizardlaw07.InetTtl", spec := "inetTtl", inPlace := ["internal/reflectlite.TypeOf", "internal/reflectlite.ValueOf", "(internal/reflectlite.Value).Type", "(internal/reflectlite.Value).IsNil", "(internal/reflectlite.Value).Elem", "(internal/reflectlite.Value).Set"], unfollowed := true, recurses := true, named := ["errors.errorType"], apart := false, laid := [("errors.errorType", laid_errors_errorType)] }
def InetTtlSaid : Prop := inetTtlRow.holds Tryd.pinned (OpenSpec.ofChange inetTtlSpec)

/-- ITS FALSE NEIGHBOUR: 'it returns false'. Refute it at one input. -/
def inetTtlWrong : ChangeSpec := { name := "inetTtl", fn := fun _ => fun
  | [d1, d2, d3] => { results := [.lit (.bool false)], args := [d1, d2, d3] }
  | _ => none }
def InetTtlWrongFalsely : Prop := inetTtlRow.holds Tryd.pinned (OpenSpec.ofChange inetTtlWrong)

/-- 'vizardlaw07.InetPeeks': WHATEVER THE INPUT: true; the input reads as it did. -/
def inetPeeksSpec : ChangeSpec := { name := "inetPeeks", fn := fun _ => fun
  | [d] => { results := [.lit (.bool true)], args := [d] }
  | _ => none }
def inetPeeksRow : OpenClaim := { program := "ytmmfimpphhebfaadoor", sum := "e0c29d035bd68cb19987dfb1755337284a771b730d6be790b693ebbacfd61e31", func := "vizard/vizardlaw07.InetPeeks", spec := "inetPeeks", inPlace := ["internal/reflectlite.TypeOf", "internal/reflectlite.ValueOf", "(internal/reflectlite.Value).Type", "(internal/reflectlite.Value).IsNil", "(internal/reflectlite.Value).Elem", "(internal/reflectlite.Value).Set"], unfollowed := true, recurses := true, named := ["errors.errorType"], apart := false, laid := [("errors.errorType", laid_errors_errorType)] }
def InetPeeksSaid : Prop := inetPeeksRow.holds Tryd.pinned (OpenSpec.ofChange inetPeeksSpec)

/-- ITS FALSE NEIGHBOUR: 'it returns false'. Refute it at one input. -/
def inetPeeksWrong : ChangeSpec := { name := "inetPeeks", fn := fun _ => fun
  | [d] => { results := [.lit (.bool false)], args := [d] }
  | _ => none }
def InetPeeksWrongFalsely : Prop := inetPeeksRow.holds Tryd.pinned (OpenSpec.ofChange inetPeeksWrong)

/-- 'vizardlaw17.AnswerErrors': WHATEVER THE INPUT: true; the input reads as it did. -/
def answerErrorsSpec : ChangeSpec := { name := "answerErrors", fn := fun _ => fun
  | [d1, d2, d3, d4] => { results := [.lit (.bool true)], args := [d1, d2, d3, d4] }
  | _ => none }
def answerErrorsRow : OpenClaim := { program := "ytmmfimpphhebfaadoor", sum := "e0c29d035bd68cb19987dfb1755337284a771b730d6be790b693ebbacfd61e31", func := "vizard/vizardlaw17.AnswerErrors", spec := "answerErrors", inPlace := ["internal/reflectlite.ValueOf", "(internal/reflectlite.Value).Type", "(internal/reflectlite.Value).IsNil", "internal/reflectlite.TypeOf", "(internal/reflectlite.Value).Elem", "(internal/reflectlite.Value).Set"], unfollowed := true, recurses := true, named := ["errors.errorType"], apart := false, laid := [("errors.errorType", laid_errors_errorType)] }
def AnswerErrorsSaid : Prop := answerErrorsRow.holds Tryd.pinned (OpenSpec.ofChange answerErrorsSpec)

/-- ITS FALSE NEIGHBOUR: 'it returns false'. Refute it at one input. -/
def answerErrorsWrong : ChangeSpec := { name := "answerErrors", fn := fun _ => fun
  | [d1, d2, d3, d4] => { results := [.lit (.bool false)], args := [d1, d2, d3, d4] }
  | _ => none }
def AnswerErrorsWrongFalsely : Prop := answerErrorsRow.holds Tryd.pinned (OpenSpec.ofChange answerErrorsWrong)

/-- 'vizardlaw17.AnswerLocal': WHATEVER THE INPUT: true; the input reads as it did. -/
def answerLocalSpec : ChangeSpec := { name := "answerLocal", fn := fun _ => fun
  | [d1, d2, d3] => { results := [.lit (.bool true)], args := [d1, d2, d3] }
  | _ => none }
def answerLocalRow : OpenClaim := { program := "ytmmfimpphhebfaadoor", sum := "e0c29d035bd68cb19987dfb1755337284a771b730d6be790b693ebbacfd61e31", func := "vizard/vizardlaw17.AnswerLocal", spec := "answerLocal", inPlace := ["internal/reflectlite.ValueOf", "(internal/reflectlite.Value).Type", "(internal/reflectlite.Value).IsNil", "internal/reflectlite.TypeOf", "(internal/reflectlite.Value).Elem", "(internal/reflectlite.Value).Set"], unfollowed := true, recurses := true, named := ["errors.errorType"], apart := false, laid := [("errors.errorType", laid_errors_errorType)] }
def AnswerLocalSaid : Prop := answerLocalRow.holds Tryd.pinned (OpenSpec.ofChange answerLocalSpec)

/-- ITS FALSE NEIGHBOUR: 'it returns false'. Refute it at one input. -/
def answerLocalWrong : ChangeSpec := { name := "answerLocal", fn := fun _ => fun
  | [d1, d2, d3] => { results := [.lit (.bool false)], args := [d1, d2, d3] }
  | _ => none }
def AnswerLocalWrongFalsely : Prop := answerLocalRow.holds Tryd.pinned (OpenSpec.ofChange answerLocalWrong)

/-- 'vizardlaw17.AnswerEchoes': WHATEVER THE INPUT: true; the input reads as it did. -/
def answerEchoesSpec : ChangeSpec := { name := "answerEchoes", fn := fun _ => fun
  | [d1, d2, d3, d4, d5, d6] => { results := [.lit (.bool true)], args := [d1, d2, d3, d4, d5, d6] }
  | _ => none }
def answerEchoesRow : OpenClaim := { program := "ytmmfimpphhebfaadoor", sum := "e0c29d035bd68cb19987dfb1755337284a771b730d6be790b693ebbacfd61e31", func := "vizard/vizardlaw17.AnswerEchoes", spec := "answerEchoes", inPlace := ["internal/reflectlite.ValueOf", "(internal/reflectlite.Value).Type", "(internal/reflectlite.Value).IsNil", "internal/reflectlite.TypeOf", "(internal/reflectlite.Value).Elem", "(internal/reflectlite.Value).Set"], unfollowed := true, recurses := true, named := ["errors.errorType"], apart := false, laid := [("errors.errorType", laid_errors_errorType)] }
def AnswerEchoesSaid : Prop := answerEchoesRow.holds Tryd.pinned (OpenSpec.ofChange answerEchoesSpec)

/-- ITS FALSE NEIGHBOUR: 'it returns false'. Refute it at one input. -/
def answerEchoesWrong : ChangeSpec := { name := "answerEchoes", fn := fun _ => fun
  | [d1, d2, d3, d4, d5, d6] => { results := [.lit (.bool false)], args := [d1, d2, d3, d4, d5, d6] }
  | _ => none }
def AnswerEchoesWrongFalsely : Prop := answerEchoesRow.holds Tryd.pinned (OpenSpec.ofChange answerEchoesWrong)

/-- 'vizardlaw10.IcmpParses': WHATEVER THE INPUT: true; the input reads as it did. -/
def icmpParsesSpec : ChangeSpec := { name := "icmpParses", fn := fun _ => fun
  | [d] => { results := [.lit (.bool true)], args := [d] }
  | _ => none }
def icmpParsesRow : OpenClaim := { program := "ytmmfimpphhebfaadoor", sum := "e0c29d035bd68cb19987dfb1755337284a771b730d6be790b693ebbacfd61e31", func := "vizard/vizardlaw10.IcmpParses", spec := "icmpParses", inPlace := ["internal/reflectlite.TypeOf", "internal/reflectlite.ValueOf", "(internal/reflectlite.Value).Type", "(internal/reflectlite.Value).IsNil", "(internal/reflectlite.Value).Elem", "(internal/reflectlite.Value).Set"], unfollowed := true, recurses := true, named := ["errors.errorType"], apart := false, laid := [("errors.errorType", laid_errors_errorType)] }
def IcmpParsesSaid : Prop := icmpParsesRow.holds Tryd.pinned (OpenSpec.ofChange icmpParsesSpec)

/-- ITS FALSE NEIGHBOUR: 'it returns false'. Refute it at one input. -/
def icmpParsesWrong : ChangeSpec := { name := "icmpParses", fn := fun _ => fun
  | [d] => { results := [.lit (.bool false)], args := [d] }
  | _ => none }
def IcmpParsesWrongFalsely : Prop := icmpParsesRow.holds Tryd.pinned (OpenSpec.ofChange icmpParsesWrong)

/-- 'vizardlaw10.IcmpWrites': WHATEVER THE INPUT: true; the input reads as it did. -/
def icmpWritesSpec : ChangeSpec := { name := "icmpWrites", fn := fun _ => fun
  | [d1, d2, d3] => { results := [.lit (.bool true)], args := [d1, d2, d3] }
  | _ => none }
def icmpWritesRow : OpenClaim := { program := "ytmmfimpphhebfaadoor", sum := "e0c29d035bd68cb19987dfb1755337284a771b730d6be790b693ebbacfd61e31", func := "vizard/vizardlaw10.IcmpWrites", spec := "icmpWrites", inPlace := ["internal/reflectlite.TypeOf", "internal/reflectlite.ValueOf", "(internal/reflectlite.Value).Type", "(internal/reflectlite.Value).IsNil", "(internal/reflectlite.Value).Elem", "(internal/reflectlite.Value).Set"], unfollowed := true, recurses := true, named := ["errors.errorType"], apart := false, laid := [("errors.errorType", laid_errors_errorType)] }
def IcmpWritesSaid : Prop := icmpWritesRow.holds Tryd.pinned (OpenSpec.ofChange icmpWritesSpec)

/-- ITS FALSE NEIGHBOUR: 'it returns false'. Refute it at one input. -/
def icmpWritesWrong : ChangeSpec := { name := "icmpWrites", fn := fun _ => fun
  | [d1, d2, d3] => { results := [.lit (.bool false)], args := [d1, d2, d3] }
  | _ => none }
def IcmpWritesWrongFalsely : Prop := icmpWritesRow.holds Tryd.pinned (OpenSpec.ofChange icmpWritesWrong)

/-- 'vizardlaw10.IcmpInner': WHATEVER THE INPUT: true; the input reads as it did. -/
def icmpInnerSpec : ChangeSpec := { name := "icmpInner", fn := fun _ => fun
  | [d1, d2, d3, d4] => { results := [.lit (.bool true)], args := [d1, d2, d3, d4] }
  | _ => none }
def icmpInnerRow : OpenClaim := { program := "ytmmfimpphhebfaadoor", sum := "e0c29d035bd68cb19987dfb1755337284a771b730d6be790b693ebbacfd61e31", func := "vizard/vizardlaw10.IcmpInner", spec := "icmpInner", inPlace := ["internal/reflectlite.TypeOf", "internal/reflectlite.ValueOf", "(internal/reflectlite.Value).Type", "(internal/reflectlite.Value).IsNil", "(internal/reflectlite.Value).Elem", "(internal/reflectlite.Value).Set"], unfollowed := true, recurses := true, named := ["errors.errorType"], apart := false, laid := [("errors.errorType", laid_errors_errorType)] }
def IcmpInnerSaid : Prop := icmpInnerRow.holds Tryd.pinned (OpenSpec.ofChange icmpInnerSpec)

/-- ITS FALSE NEIGHBOUR: 'it returns false'. Refute it at one input. -/
def icmpInnerWrong : ChangeSpec := { name := "icmpInner", fn := fun _ => fun
  | [d1, d2, d3, d4] => { results := [.lit (.bool false)], args := [d1, d2, d3, d4] }
  | _ => none }
def IcmpInnerWrongFalsely : Prop := icmpInnerRow.holds Tryd.pinned (OpenSpec.ofChange icmpInnerWrong)

/-- 'vizardlaw10.IcmpMarks': WHATEVER THE INPUT: true; the input reads as it did. -/
def icmpMarksSpec : ChangeSpec := { name := "icmpMarks", fn := fun _ => fun
  | [d1, d2] => { results := [.lit (.bool true)], args := [d1, d2] }
  | _ => none }
def icmpMarksRow : OpenClaim := { program := "ytmmfimpphhebfaadoor", sum := "e0c29d035bd68cb19987dfb1755337284a771b730d6be790b693ebbacfd61e31", func := "vizard/vizardlaw10.IcmpMarks", spec := "icmpMarks", inPlace := ["internal/reflectlite.TypeOf", "internal/reflectlite.ValueOf", "(internal/reflectlite.Value).Type", "(internal/reflectlite.Value).IsNil", "(internal/reflectlite.Value).Elem", "(internal/reflectlite.Value).Set"], unfollowed := true, recurses := true, named := ["errors.errorType"], apart := false, laid := [("errors.errorType", laid_errors_errorType)] }
def IcmpMarksSaid : Prop := icmpMarksRow.holds Tryd.pinned (OpenSpec.ofChange icmpMarksSpec)

/-- ITS FALSE NEIGHBOUR: 'it returns false'. Refute it at one input. -/
def icmpMarksWrong : ChangeSpec := { name := "icmpMarks", fn := fun _ => fun
  | [d1, d2] => { results := [.lit (.bool false)], args := [d1, d2] }
  | _ => none }
def IcmpMarksWrongFalsely : Prop := icmpMarksRow.holds Tryd.pinned (OpenSpec.ofChange icmpMarksWrong)

/-- 'vizardlaw17.AnswerOnce': WHATEVER THE INPUT: true; the input reads as it did. -/
def answerOnceSpec : ChangeSpec := { name := "answerOnce", fn := fun _ => fun
  | [d1, d2, d3, d4, d5] => { results := [.lit (.bool true)], args := [d1, d2, d3, d4, d5] }
  | _ => none }
def answerOnceRow : OpenClaim := { program := "ytmmfimpphhebfaadoor", sum := "e0c29d035bd68cb19987dfb1755337284a771b730d6be790b693ebbacfd61e31", func := "vizard/vizardlaw17.AnswerOnce", spec := "answerOnce", inPlace := ["internal/reflectlite.ValueOf", "(internal/reflectlite.Value).Type", "(internal/reflectlite.Value).IsNil", "internal/reflectlite.TypeOf", "(internal/reflectlite.Value).Elem", "(internal/reflectlite.Value).Set"], unfollowed := true, recurses := true, named := ["errors.errorType"], apart := false, laid := [("errors.errorType", laid_errors_errorType)] }
def AnswerOnceSaid : Prop := answerOnceRow.holds Tryd.pinned (OpenSpec.ofChange answerOnceSpec)

/-- ITS FALSE NEIGHBOUR: 'it returns false'. Refute it at one input. -/
def answerOnceWrong : ChangeSpec := { name := "answerOnce", fn := fun _ => fun
  | [d1, d2, d3, d4, d5] => { results := [.lit (.bool false)], args := [d1, d2, d3, d4, d5] }
  | _ => none }
def AnswerOnceWrongFalsely : Prop := answerOnceRow.holds Tryd.pinned (OpenSpec.ofChange answerOnceWrong)

/-- 'vizardlaw17.AnswerPorts': WHATEVER THE INPUT: true; the input reads as it did. -/
def answerPortsSpec : ChangeSpec := { name := "answerPorts", fn := fun _ => fun
  | [d1, d2, d3, d4, d5, d6] => { results := [.lit (.bool true)], args := [d1, d2, d3, d4, d5, d6] }
  | _ => none }
def answerPortsRow : OpenClaim := { program := "ytmmfimpphhebfaadoor", sum := "e0c29d035bd68cb19987dfb1755337284a771b730d6be790b693ebbacfd61e31", func := "vizard/vizardlaw17.AnswerPorts", spec := "answerPorts", inPlace := ["internal/reflectlite.ValueOf", "(internal/reflectlite.Value).Type", "(internal/reflectlite.Value).IsNil", "internal/reflectlite.TypeOf", "(internal/reflectlite.Value).Elem", "(internal/reflectlite.Value).Set"], unfollowed := true, recurses := true, named := ["errors.errorType"], apart := false, laid := [("errors.errorType", laid_errors_errorType)] }
def AnswerPortsSaid : Prop := answerPortsRow.holds Tryd.pinned (OpenSpec.ofChange answerPortsSpec)

/-- ITS FALSE NEIGHBOUR: 'it returns false'. Refute it at one input. -/
def answerPortsWrong : ChangeSpec := { name := "answerPorts", fn := fun _ => fun
  | [d1, d2, d3, d4, d5, d6] => { results := [.lit (.bool false)], args := [d1, d2, d3, d4, d5, d6] }
  | _ => none }
def AnswerPortsWrongFalsely : Prop := answerPortsRow.holds Tryd.pinned (OpenSpec.ofChange answerPortsWrong)

/-- 'vizardlaw21.TurnInner': WHATEVER THE INPUT: true; the input reads as it did. -/
def turnInnerSpec : ChangeSpec := { name := "turnInner", fn := fun _ => fun
  | [d1, d2, d3] => { results := [.lit (.bool true)], args := [d1, d2, d3] }
  | _ => none }
def turnInnerRow : OpenClaim := { program := "ytmmfimpphhebfaadoor", sum := "e0c29d035bd68cb19987dfb1755337284a771b730d6be790b693ebbacfd61e31", func := "vizard/vizardlaw21.TurnInner", spec := "turnInner", inPlace := ["internal/reflectlite.ValueOf", "(internal/reflectlite.Value).Type", "(internal/reflectlite.Value).IsNil", "internal/reflectlite.TypeOf", "(internal/reflectlite.Value).Elem", "(internal/reflectlite.Value).Set"], unfollowed := true, recurses := true, named := ["errors.errorType"], apart := false, laid := [("errors.errorType", laid_errors_errorType)] }
def TurnInnerSaid : Prop := turnInnerRow.holds Tryd.pinned (OpenSpec.ofChange turnInnerSpec)

/-- ITS FALSE NEIGHBOUR: 'it returns false'. Refute it at one input. -/
def turnInnerWrong : ChangeSpec := { name := "turnInner", fn := fun _ => fun
  | [d1, d2, d3] => { results := [.lit (.bool false)], args := [d1, d2, d3] }
  | _ => none }
def TurnInnerWrongFalsely : Prop := turnInnerRow.holds Tryd.pinned (OpenSpec.ofChange turnInnerWrong)

/- THE SECOND FORM. 'bulk': how many values and letters a reading holds, each counted each time it is reached (what is shared counts as often as it is met; a slice's spare places count too). A statement '..UptoSaid' is the law's where the arguments, and the package variables that the reading takes, are together of bulk at most 1048576: NARROWER than '..Said'. Prove '..Said' where nothing that the law and all that it calls make is longer than what came in: it says more and counts as full. Else prove '..UptoSaid'. A law counts once. -/
mutual
def uptoBulk {H : Type} : DataW H → Nat
  | .lit (.string bytes) => bytes.length + 1
  | .lit _ => 1
  | .nil => 1
  | .ptr d => uptoBulk d + 1
  | .slice elems spare => uptoBulkAll elems + uptoBulkAll spare + 1
  | .agg parts => uptoBulkAll parts + 1
  | .iface _ d => uptoBulk d + 1
  | .map entries => uptoBulkEntries entries + 1
  | .held _ => 1
def uptoBulkAll {H : Type} : List (DataW H) → Nat
  | [] => 0
  | d :: r => uptoBulk d + uptoBulkAll r
def uptoBulkEntries {H : Type} : List (Lit × DataW H) → Nat
  | [] => 0
  | x :: r => uptoBulkEntry x + uptoBulkEntries r
def uptoBulkEntry {H : Type} : Lit × DataW H → Nat
  | (.string bytes, d) => bytes.length + uptoBulk d + 1
  | (_, d) => uptoBulk d + 1
 end
def uptoSmall : (H : Type) → List (DataW H) → Bool := fun _ ds => decide (uptoBulkAll ds ≤ 1048576)
def OpenSpec.upto (s : _root_.Go.ChangeSpec) : _root_.Go.OpenSpec := { _root_.Go.OpenSpec.ofChange s with cond := some uptoSmall }

/-- 'vizardlaw09.TcpParses', WHERE WHAT IT READS IS OF BULK AT MOST 1048576: true; the input reads as it did. -/
def tcpParsesUptoRow : OpenClaim := { program := "ytmmfimpphhebfaadoor", sum := "e0c29d035bd68cb19987dfb1755337284a771b730d6be790b693ebbacfd61e31", func := "vizard/vizardlaw09.TcpParses", spec := "tcpParses", inPlace := ["internal/reflectlite.TypeOf", "internal/reflectlite.ValueOf", "(internal/reflectlite.Value).Type", "(internal/reflectlite.Value).IsNil", "(internal/reflectlite.Value).Elem", "(internal/reflectlite.Value).Set"], unfollowed := true, recurses := true, named := ["errors.errorType"], apart := false, laid := [("errors.errorType", laid_errors_errorType)], narrowed := true }
def TcpParsesUptoSaid : Prop := tcpParsesUptoRow.holds Tryd.pinned (OpenSpec.upto tcpParsesSpec)

/-- 'vizardlaw09.TcpMakes', WHERE WHAT IT READS IS OF BULK AT MOST 1048576: true; the input reads as it did. -/
def tcpMakesUptoRow : OpenClaim := { program := "ytmmfimpphhebfaadoor", sum := "e0c29d035bd68cb19987dfb1755337284a771b730d6be790b693ebbacfd61e31", func := "vizard/vizardlaw09.TcpMakes", spec := "tcpMakes", inPlace := ["internal/reflectlite.TypeOf", "internal/reflectlite.ValueOf", "(internal/reflectlite.Value).Type", "(internal/reflectlite.Value).IsNil", "(internal/reflectlite.Value).Elem", "(internal/reflectlite.Value).Set"], unfollowed := true, recurses := true, named := ["errors.errorType"], apart := false, laid := [("errors.errorType", laid_errors_errorType)], narrowed := true }
def TcpMakesUptoSaid : Prop := tcpMakesUptoRow.holds Tryd.pinned (OpenSpec.upto tcpMakesSpec)

/-- 'vizardlaw08.UdpParses', WHERE WHAT IT READS IS OF BULK AT MOST 1048576: true; the input reads as it did. -/
def udpParsesUptoRow : OpenClaim := { program := "ytmmfimpphhebfaadoor", sum := "e0c29d035bd68cb19987dfb1755337284a771b730d6be790b693ebbacfd61e31", func := "vizard/vizardlaw08.UdpParses", spec := "udpParses", inPlace := ["internal/reflectlite.TypeOf", "internal/reflectlite.ValueOf", "(internal/reflectlite.Value).Type", "(internal/reflectlite.Value).IsNil", "(internal/reflectlite.Value).Elem", "(internal/reflectlite.Value).Set"], unfollowed := true, recurses := true, named := ["errors.errorType"], apart := false, laid := [("errors.errorType", laid_errors_errorType)], narrowed := true }
def UdpParsesUptoSaid : Prop := udpParsesUptoRow.holds Tryd.pinned (OpenSpec.upto udpParsesSpec)

/-- 'vizardlaw08.UdpWrites', WHERE WHAT IT READS IS OF BULK AT MOST 1048576: true; the input reads as it did. -/
def udpWritesUptoRow : OpenClaim := { program := "ytmmfimpphhebfaadoor", sum := "e0c29d035bd68cb19987dfb1755337284a771b730d6be790b693ebbacfd61e31", func := "vizard/vizardlaw08.UdpWrites", spec := "udpWrites", inPlace := ["internal/reflectlite.TypeOf", "internal/reflectlite.ValueOf", "(internal/reflectlite.Value).Type", "(internal/reflectlite.Value).IsNil", "(internal/reflectlite.Value).Elem", "(internal/reflectlite.Value).Set"], unfollowed := true, recurses := true, named := ["errors.errorType"], apart := false, laid := [("errors.errorType", laid_errors_errorType)], narrowed := true }
def UdpWritesUptoSaid : Prop := udpWritesUptoRow.holds Tryd.pinned (OpenSpec.upto udpWritesSpec)

/-- 'vizardlaw08.UdpSpoilt', WHERE WHAT IT READS IS OF BULK AT MOST 1048576: true; the input reads as it did. -/
def udpSpoiltUptoRow : OpenClaim := { program := "ytmmfimpphhebfaadoor", sum := "e0c29d035bd68cb19987dfb1755337284a771b730d6be790b693ebbacfd61e31", func := "vizard/vizardlaw08.UdpSpoilt", spec := "udpSpoilt", inPlace := ["internal/reflectlite.TypeOf", "internal/reflectlite.ValueOf", "(internal/reflectlite.Value).Type", "(internal/reflectlite.Value).IsNil", "(internal/reflectlite.Value).Elem", "(internal/reflectlite.Value).Set"], unfollowed := true, recurses := true, named := ["errors.errorType"], apart := false, laid := [("errors.errorType", laid_errors_errorType)], narrowed := true }
def UdpSpoiltUptoSaid : Prop := udpSpoiltUptoRow.holds Tryd.pinned (OpenSpec.upto udpSpoiltSpec)

/-- 'vizardlaw08.UdpSwaps', WHERE WHAT IT READS IS OF BULK AT MOST 1048576: true; the input reads as it did. -/
def udpSwapsUptoRow : OpenClaim := { program := "ytmmfimpphhebfaadoor", sum := "e0c29d035bd68cb19987dfb1755337284a771b730d6be790b693ebbacfd61e31", func := "vizard/vizardlaw08.UdpSwaps", spec := "udpSwaps", inPlace := ["internal/reflectlite.TypeOf", "internal/reflectlite.ValueOf", "(internal/reflectlite.Value).Type", "(internal/reflectlite.Value).IsNil", "(internal/reflectlite.Value).Elem", "(internal/reflectlite.Value).Set"], unfollowed := true, recurses := true, named := ["errors.errorType"], apart := false, laid := [("errors.errorType", laid_errors_errorType)], narrowed := true }
def UdpSwapsUptoSaid : Prop := udpSwapsUptoRow.holds Tryd.pinned (OpenSpec.upto udpSwapsSpec)

/-- 'vizardlaw07.InetWrites', WHERE WHAT IT READS IS OF BULK AT MOST 1048576: true; the input reads as it did. -/
def inetWritesUptoRow : OpenClaim := { program := "ytmmfimpphhebfaadoor", sum := "e0c29d035bd68cb19987dfb1755337284a771b730d6be790b693ebbacfd61e31", func := "vizard/vizardlaw07.InetWrites", spec := "inetWrites", inPlace := ["internal/reflectlite.TypeOf", "internal/reflectlite.ValueOf", "(internal/reflectlite.Value).Type", "(internal/reflectlite.Value).IsNil", "(internal/reflectlite.Value).Elem", "(internal/reflectlite.Value).Set"], unfollowed := true, recurses := true, named := ["errors.errorType"], apart := false, laid := [("errors.errorType", laid_errors_errorType)], narrowed := true }
def InetWritesUptoSaid : Prop := inetWritesUptoRow.holds Tryd.pinned (OpenSpec.upto inetWritesSpec)

/-- 'vizardlaw07.InetSpoilt', WHERE WHAT IT READS IS OF BULK AT MOST 1048576: true; the input reads as it did. -/
def inetSpoiltUptoRow : OpenClaim := { program := "ytmmfimpphhebfaadoor", sum := "e0c29d035bd68cb19987dfb1755337284a771b730d6be790b693ebbacfd61e31", func := "vizard/vizardlaw07.InetSpoilt", spec := "inetSpoilt", inPlace := ["internal/reflectlite.TypeOf", "internal/reflectlite.ValueOf", "(internal/reflectlite.Value).Type", "(internal/reflectlite.Value).IsNil", "(internal/reflectlite.Value).Elem", "(internal/reflectlite.Value).Set"], unfollowed := true, recurses := true, named := ["errors.errorType"], apart := false, laid := [("errors.errorType", laid_errors_errorType)], narrowed := true }
def InetSpoiltUptoSaid : Prop := inetSpoiltUptoRow.holds Tryd.pinned (OpenSpec.upto inetSpoiltSpec)

/-- 'vizardlaw07.InetCuts', WHERE WHAT IT READS IS OF BULK AT MOST 1048576: true; the input reads as it did. -/
def inetCutsUptoRow : OpenClaim := { program := "ytmmfimpphhebfaadoor", sum := "e0c29d035bd68cb19987dfb1755337284a771b730d6be790b693ebbacfd61e31", func := "vizard/vizardlaw07.InetCuts", spec := "inetCuts", inPlace := ["internal/reflectlite.TypeOf", "internal/reflectlite.ValueOf", "(internal/reflectlite.Value).Type", "(internal/reflectlite.Value).IsNil", "(internal/reflectlite.Value).Elem", "(internal/reflectlite.Value).Set"], unfollowed := true, recurses := true, named := ["errors.errorType"], apart := false, laid := [("errors.errorType", laid_errors_errorType)], narrowed := true }
def InetCutsUptoSaid : Prop := inetCutsUptoRow.holds Tryd.pinned (OpenSpec.upto inetCutsSpec)

/-- 'vizardlaw07.InetTtl', WHERE WHAT IT READS IS OF BULK AT MOST 1048576: true; the input reads as it did. -/
def inetTtlUptoRow : OpenClaim := { program := "ytmmfimpphhebfaadoor", sum := "e0c29d035bd68cb19987dfb1755337284a771b730d6be790b693ebbacfd61e31", func := "vizard/vizardlaw07.InetTtl", spec := "inetTtl", inPlace := ["internal/reflectlite.TypeOf", "internal/reflectlite.ValueOf", "(internal/reflectlite.Value).Type", "(internal/reflectlite.Value).IsNil", "(internal/reflectlite.Value).Elem", "(internal/reflectlite.Value).Set"], unfollowed := true, recurses := true, named := ["errors.errorType"], apart := false, laid := [("errors.errorType", laid_errors_errorType)], narrowed := true }
def InetTtlUptoSaid : Prop := inetTtlUptoRow.holds Tryd.pinned (OpenSpec.upto inetTtlSpec)

/-- 'vizardlaw07.InetPeeks', WHERE WHAT IT READS IS OF BULK AT MOST 1048576: true; the input reads as it did. -/
def inetPeeksUptoRow : OpenClaim := { program := "ytmmfimpphhebfaadoor", sum := "e0c29d035bd68cb19987dfb1755337284a771b730d6be790b693ebbacfd61e31", func := "vizard/vizardlaw07.InetPeeks", spec := "inetPeeks", inPlace := ["internal/reflectlite.TypeOf", "internal/reflectlite.ValueOf", "(internal/reflectlite.Value).Type", "(internal/reflectlite.Value).IsNil", "(internal/reflectlite.Value).Elem", "(internal/reflectlite.Value).Set"], unfollowed := true, recurses := true, named := ["errors.errorType"], apart := false, laid := [("errors.errorType", laid_errors_errorType)], narrowed := true }
def InetPeeksUptoSaid : Prop := inetPeeksUptoRow.holds Tryd.pinned (OpenSpec.upto inetPeeksSpec)

/-- 'vizardlaw17.AnswerErrors', WHERE WHAT IT READS IS OF BULK AT MOST 1048576: true; the input reads as it did. -/
def answerErrorsUptoRow : OpenClaim := { program := "ytmmfimpphhebfaadoor", sum := "e0c29d035bd68cb19987dfb1755337284a771b730d6be790b693ebbacfd61e31", func := "vizard/vizardlaw17.AnswerErrors", spec := "answerErrors", inPlace := ["internal/reflectlite.ValueOf", "(internal/reflectlite.Value).Type", "(internal/reflectlite.Value).IsNil", "internal/reflectlite.TypeOf", "(internal/reflectlite.Value).Elem", "(internal/reflectlite.Value).Set"], unfollowed := true, recurses := true, named := ["errors.errorType"], apart := false, laid := [("errors.errorType", laid_errors_errorType)], narrowed := true }
def AnswerErrorsUptoSaid : Prop := answerErrorsUptoRow.holds Tryd.pinned (OpenSpec.upto answerErrorsSpec)

/-- 'vizardlaw17.AnswerLocal', WHERE WHAT IT READS IS OF BULK AT MOST 1048576: true; the input reads as it did. -/
def answerLocalUptoRow : OpenClaim := { program := "ytmmfimpphhebfaadoor", sum := "e0c29d035bd68cb19987dfb1755337284a771b730d6be790b693ebbacfd61e31", func := "vizard/vizardlaw17.AnswerLocal", spec := "answerLocal", inPlace := ["internal/reflectlite.ValueOf", "(internal/reflectlite.Value).Type", "(internal/reflectlite.Value).IsNil", "internal/reflectlite.TypeOf", "(internal/reflectlite.Value).Elem", "(internal/reflectlite.Value).Set"], unfollowed := true, recurses := true, named := ["errors.errorType"], apart := false, laid := [("errors.errorType", laid_errors_errorType)], narrowed := true }
def AnswerLocalUptoSaid : Prop := answerLocalUptoRow.holds Tryd.pinned (OpenSpec.upto answerLocalSpec)

/-- 'vizardlaw17.AnswerEchoes', WHERE WHAT IT READS IS OF BULK AT MOST 1048576: true; the input reads as it did. -/
def answerEchoesUptoRow : OpenClaim := { program := "ytmmfimpphhebfaadoor", sum := "e0c29d035bd68cb19987dfb1755337284a771b730d6be790b693ebbacfd61e31", func := "vizard/vizardlaw17.AnswerEchoes", spec := "answerEchoes", inPlace := ["internal/reflectlite.ValueOf", "(internal/reflectlite.Value).Type", "(internal/reflectlite.Value).IsNil", "internal/reflectlite.TypeOf", "(internal/reflectlite.Value).Elem", "(internal/reflectlite.Value).Set"], unfollowed := true, recurses := true, named := ["errors.errorType"], apart := false, laid := [("errors.errorType", laid_errors_errorType)], narrowed := true }
def AnswerEchoesUptoSaid : Prop := answerEchoesUptoRow.holds Tryd.pinned (OpenSpec.upto answerEchoesSpec)

/-- 'vizardlaw10.IcmpParses', WHERE WHAT IT READS IS OF BULK AT MOST 1048576: true; the input reads as it did. -/
def icmpParsesUptoRow : OpenClaim := { program := "ytmmfimpphhebfaadoor", sum := "e0c29d035bd68cb19987dfb1755337284a771b730d6be790b693ebbacfd61e31", func := "vizard/vizardlaw10.IcmpParses", spec := "icmpParses", inPlace := ["internal/reflectlite.TypeOf", "internal/reflectlite.ValueOf", "(internal/reflectlite.Value).Type", "(internal/reflectlite.Value).IsNil", "(internal/reflectlite.Value).Elem", "(internal/reflectlite.Value).Set"], unfollowed := true, recurses := true, named := ["errors.errorType"], apart := false, laid := [("errors.errorType", laid_errors_errorType)], narrowed := true }
def IcmpParsesUptoSaid : Prop := icmpParsesUptoRow.holds Tryd.pinned (OpenSpec.upto icmpParsesSpec)

/-- 'vizardlaw10.IcmpWrites', WHERE WHAT IT READS IS OF BULK AT MOST 1048576: true; the input reads as it did. -/
def icmpWritesUptoRow : OpenClaim := { program := "ytmmfimpphhebfaadoor", sum := "e0c29d035bd68cb19987dfb1755337284a771b730d6be790b693ebbacfd61e31", func := "vizard/vizardlaw10.IcmpWrites", spec := "icmpWrites", inPlace := ["internal/reflectlite.TypeOf", "internal/reflectlite.ValueOf", "(internal/reflectlite.Value).Type", "(internal/reflectlite.Value).IsNil", "(internal/reflectlite.Value).Elem", "(internal/reflectlite.Value).Set"], unfollowed := true, recurses := true, named := ["errors.errorType"], apart := false, laid := [("errors.errorType", laid_errors_errorType)], narrowed := true }
def IcmpWritesUptoSaid : Prop := icmpWritesUptoRow.holds Tryd.pinned (OpenSpec.upto icmpWritesSpec)

/-- 'vizardlaw10.IcmpInner', WHERE WHAT IT READS IS OF BULK AT MOST 1048576: true; the input reads as it did. -/
def icmpInnerUptoRow : OpenClaim := { program := "ytmmfimpphhebfaadoor", sum := "e0c29d035bd68cb19987dfb1755337284a771b730d6be790b693ebbacfd61e31", func := "vizard/vizardlaw10.IcmpInner", spec := "icmpInner", inPlace := ["internal/reflectlite.TypeOf", "internal/reflectlite.ValueOf", "(internal/reflectlite.Value).Type", "(internal/reflectlite.Value).IsNil", "(internal/reflectlite.Value).Elem", "(internal/reflectlite.Value).Set"], unfollowed := true, recurses := true, named := ["errors.errorType"], apart := false, laid := [("errors.errorType", laid_errors_errorType)], narrowed := true }
def IcmpInnerUptoSaid : Prop := icmpInnerUptoRow.holds Tryd.pinned (OpenSpec.upto icmpInnerSpec)

/-- 'vizardlaw10.IcmpMarks', WHERE WHAT IT READS IS OF BULK AT MOST 1048576: true; the input reads as it did. -/
def icmpMarksUptoRow : OpenClaim := { program := "ytmmfimpphhebfaadoor", sum := "e0c29d035bd68cb19987dfb1755337284a771b730d6be790b693ebbacfd61e31", func := "vizard/vizardlaw10.IcmpMarks", spec := "icmpMarks", inPlace := ["internal/reflectlite.TypeOf", "internal/reflectlite.ValueOf", "(internal/reflectlite.Value).Type", "(internal/reflectlite.Value).IsNil", "(internal/reflectlite.Value).Elem", "(internal/reflectlite.Value).Set"], unfollowed := true, recurses := true, named := ["errors.errorType"], apart := false, laid := [("errors.errorType", laid_errors_errorType)], narrowed := true }
def IcmpMarksUptoSaid : Prop := icmpMarksUptoRow.holds Tryd.pinned (OpenSpec.upto icmpMarksSpec)

/-- 'vizardlaw17.AnswerOnce', WHERE WHAT IT READS IS OF BULK AT MOST 1048576: true; the input reads as it did. -/
def answerOnceUptoRow : OpenClaim := { program := "ytmmfimpphhebfaadoor", sum := "e0c29d035bd68cb19987dfb1755337284a771b730d6be790b693ebbacfd61e31", func := "vizard/vizardlaw17.AnswerOnce", spec := "answerOnce", inPlace := ["internal/reflectlite.ValueOf", "(internal/reflectlite.Value).Type", "(internal/reflectlite.Value).IsNil", "internal/reflectlite.TypeOf", "(internal/reflectlite.Value).Elem", "(internal/reflectlite.Value).Set"], unfollowed := true, recurses := true, named := ["errors.errorType"], apart := false, laid := [("errors.errorType", laid_errors_errorType)], narrowed := true }
def AnswerOnceUptoSaid : Prop := answerOnceUptoRow.holds Tryd.pinned (OpenSpec.upto answerOnceSpec)

/-- 'vizardlaw17.AnswerPorts', WHERE WHAT IT READS IS OF BULK AT MOST 1048576: true; the input reads as it did. -/
def answerPortsUptoRow : OpenClaim := { program := "ytmmfimpphhebfaadoor", sum := "e0c29d035bd68cb19987dfb1755337284a771b730d6be790b693ebbacfd61e31", func := "vizard/vizardlaw17.AnswerPorts", spec := "answerPorts", inPlace := ["internal/reflectlite.ValueOf", "(internal/reflectlite.Value).Type", "(internal/reflectlite.Value).IsNil", "internal/reflectlite.TypeOf", "(internal/reflectlite.Value).Elem", "(internal/reflectlite.Value).Set"], unfollowed := true, recurses := true, named := ["errors.errorType"], apart := false, laid := [("errors.errorType", laid_errors_errorType)], narrowed := true }
def AnswerPortsUptoSaid : Prop := answerPortsUptoRow.holds Tryd.pinned (OpenSpec.upto answerPortsSpec)

/-- 'vizardlaw21.TurnInner', WHERE WHAT IT READS IS OF BULK AT MOST 1048576: true; the input reads as it did. -/
def turnInnerUptoRow : OpenClaim := { program := "ytmmfimpphhebfaadoor", sum := "e0c29d035bd68cb19987dfb1755337284a771b730d6be790b693ebbacfd61e31", func := "vizard/vizardlaw21.TurnInner", spec := "turnInner", inPlace := ["internal/reflectlite.ValueOf", "(internal/reflectlite.Value).Type", "(internal/reflectlite.Value).IsNil", "internal/reflectlite.TypeOf", "(internal/reflectlite.Value).Elem", "(internal/reflectlite.Value).Set"], unfollowed := true, recurses := true, named := ["errors.errorType"], apart := false, laid := [("errors.errorType", laid_errors_errorType)], narrowed := true }
def TurnInnerUptoSaid : Prop := turnInnerUptoRow.holds Tryd.pinned (OpenSpec.upto turnInnerSpec)

end Rows
end Go.Proofs.YtmmfimpphhebfaaDoor
