/-
  DERIVED. GIVEN WITH THE SEED: THE CARDS: each row of YtmmfimpphhebfaaDoorRows.lean that lists a variable, with what it lists TIED to the program's text (the seventh form; the later family's looks); each row that meets fmt, with fmt's text TOLD by the authors' own Lean function (tested against real Go, not proved from fmt's source: count such statements apart). THE CARD IS WHAT COUNTS. Prove the row's statement (the work); the ties are given (YtmmfimpphhebfaaDoorTie.lean); close each card by the builder's one call (the guide's Derived/Test/ToyasCard.lean, 'card_holds'). Laid BY PROGRAM, IN A SANDBOX (cutbox-door.mjs). By AI agents, Wed Nov 11 2026. No macro, syntax, notation, axiom, sorry.
-/
import Derived.Test.YtmmfimpphhebfaaDoorRows
import GoSem.ClaimSeven
namespace Go.Proofs.YtmmfimpphhebfaaDoor
namespace Rows

/-- THE TIED CARD OF 'vizardlaw09.TcpParses'. -/
def tcpParsesCard : Claim7 := { stood := { row := tcpParsesRow, standIns := [], harness := (true, "4887f6b43475f63f4290c7176c5b2c5fd241366dee1f8618193c286c61091aa1"), looks := true }, kinds := [], alts := [], laidByText := true, laidKinds := [.handle], laidTests := true, laidLooks := .later }
def TcpParsesCardSaid : Prop := Claim7.holds Tryd.pinned (.plain (OpenSpec.ofChange tcpParsesSpec)) tcpParsesCard

/-- THE TIED CARD OF 'vizardlaw09.TcpMakes'. -/
def tcpMakesCard : Claim7 := { stood := { row := tcpMakesRow, standIns := [], harness := (true, "4887f6b43475f63f4290c7176c5b2c5fd241366dee1f8618193c286c61091aa1"), looks := true }, kinds := [], alts := [], laidByText := true, laidKinds := [.handle], laidTests := true, laidLooks := .later }
def TcpMakesCardSaid : Prop := Claim7.holds Tryd.pinned (.plain (OpenSpec.ofChange tcpMakesSpec)) tcpMakesCard

/-- THE TIED CARD OF 'vizardlaw08.UdpParses'. -/
def udpParsesCard : Claim7 := { stood := { row := udpParsesRow, standIns := [], harness := (true, "4887f6b43475f63f4290c7176c5b2c5fd241366dee1f8618193c286c61091aa1"), looks := true }, kinds := [], alts := [], laidByText := true, laidKinds := [.handle], laidTests := true, laidLooks := .later }
def UdpParsesCardSaid : Prop := Claim7.holds Tryd.pinned (.plain (OpenSpec.ofChange udpParsesSpec)) udpParsesCard

/-- THE TIED CARD OF 'vizardlaw08.UdpWrites'. -/
def udpWritesCard : Claim7 := { stood := { row := udpWritesRow, standIns := [], harness := (true, "4887f6b43475f63f4290c7176c5b2c5fd241366dee1f8618193c286c61091aa1"), looks := true }, kinds := [], alts := [], laidByText := true, laidKinds := [.handle], laidTests := true, laidLooks := .later }
def UdpWritesCardSaid : Prop := Claim7.holds Tryd.pinned (.plain (OpenSpec.ofChange udpWritesSpec)) udpWritesCard

/-- THE TIED CARD OF 'vizardlaw08.UdpSpoilt'. -/
def udpSpoiltCard : Claim7 := { stood := { row := udpSpoiltRow, standIns := [], harness := (true, "4887f6b43475f63f4290c7176c5b2c5fd241366dee1f8618193c286c61091aa1"), looks := true }, kinds := [], alts := [], laidByText := true, laidKinds := [.handle], laidTests := true, laidLooks := .later }
def UdpSpoiltCardSaid : Prop := Claim7.holds Tryd.pinned (.plain (OpenSpec.ofChange udpSpoiltSpec)) udpSpoiltCard

/-- THE TIED CARD OF 'vizardlaw08.UdpSwaps'. -/
def udpSwapsCard : Claim7 := { stood := { row := udpSwapsRow, standIns := [], harness := (true, "4887f6b43475f63f4290c7176c5b2c5fd241366dee1f8618193c286c61091aa1"), looks := true }, kinds := [], alts := [], laidByText := true, laidKinds := [.handle], laidTests := true, laidLooks := .later }
def UdpSwapsCardSaid : Prop := Claim7.holds Tryd.pinned (.plain (OpenSpec.ofChange udpSwapsSpec)) udpSwapsCard

/-- THE TIED CARD OF 'vizardlaw07.InetWrites'. -/
def inetWritesCard : Claim7 := { stood := { row := inetWritesRow, standIns := [], harness := (true, "4887f6b43475f63f4290c7176c5b2c5fd241366dee1f8618193c286c61091aa1"), looks := true }, kinds := [], alts := [], laidByText := true, laidKinds := [.handle], laidTests := true, laidLooks := .later }
def InetWritesCardSaid : Prop := Claim7.holds Tryd.pinned (.plain (OpenSpec.ofChange inetWritesSpec)) inetWritesCard

/-- THE TIED CARD OF 'vizardlaw07.InetSpoilt'. -/
def inetSpoiltCard : Claim7 := { stood := { row := inetSpoiltRow, standIns := [], harness := (true, "4887f6b43475f63f4290c7176c5b2c5fd241366dee1f8618193c286c61091aa1"), looks := true }, kinds := [], alts := [], laidByText := true, laidKinds := [.handle], laidTests := true, laidLooks := .later }
def InetSpoiltCardSaid : Prop := Claim7.holds Tryd.pinned (.plain (OpenSpec.ofChange inetSpoiltSpec)) inetSpoiltCard

/-- THE TIED CARD OF 'vizardlaw07.InetCuts'. -/
def inetCutsCard : Claim7 := { stood := { row := inetCutsRow, standIns := [], harness := (true, "4887f6b43475f63f4290c7176c5b2c5fd241366dee1f8618193c286c61091aa1"), looks := true }, kinds := [], alts := [], laidByText := true, laidKinds := [.handle], laidTests := true, laidLooks := .later }
def InetCutsCardSaid : Prop := Claim7.holds Tryd.pinned (.plain (OpenSpec.ofChange inetCutsSpec)) inetCutsCard

/-- THE TIED CARD OF 'vizardlaw07.InetTtl'. -/
def inetTtlCard : Claim7 := { stood := { row := inetTtlRow, standIns := [], harness := (true, "4887f6b43475f63f4290c7176c5b2c5fd241366dee1f8618193c286c61091aa1"), looks := true }, kinds := [], alts := [], laidByText := true, laidKinds := [.handle], laidTests := true, laidLooks := .later }
def InetTtlCardSaid : Prop := Claim7.holds Tryd.pinned (.plain (OpenSpec.ofChange inetTtlSpec)) inetTtlCard

/-- THE TIED CARD OF 'vizardlaw07.InetPeeks'. -/
def inetPeeksCard : Claim7 := { stood := { row := inetPeeksRow, standIns := [], harness := (true, "4887f6b43475f63f4290c7176c5b2c5fd241366dee1f8618193c286c61091aa1"), looks := true }, kinds := [], alts := [], laidByText := true, laidKinds := [.handle], laidTests := true, laidLooks := .later }
def InetPeeksCardSaid : Prop := Claim7.holds Tryd.pinned (.plain (OpenSpec.ofChange inetPeeksSpec)) inetPeeksCard

/-- THE TIED CARD OF 'vizardlaw17.AnswerErrors'. -/
def answerErrorsCard : Claim7 := { stood := { row := answerErrorsRow, standIns := [], harness := (true, "4887f6b43475f63f4290c7176c5b2c5fd241366dee1f8618193c286c61091aa1"), looks := true }, kinds := [], alts := [], laidByText := true, laidKinds := [.handle], laidTests := true, laidLooks := .later }
def AnswerErrorsCardSaid : Prop := Claim7.holds Tryd.pinned (.plain (OpenSpec.ofChange answerErrorsSpec)) answerErrorsCard

/-- THE TIED CARD OF 'vizardlaw17.AnswerLocal'. -/
def answerLocalCard : Claim7 := { stood := { row := answerLocalRow, standIns := [], harness := (true, "4887f6b43475f63f4290c7176c5b2c5fd241366dee1f8618193c286c61091aa1"), looks := true }, kinds := [], alts := [], laidByText := true, laidKinds := [.handle], laidTests := true, laidLooks := .later }
def AnswerLocalCardSaid : Prop := Claim7.holds Tryd.pinned (.plain (OpenSpec.ofChange answerLocalSpec)) answerLocalCard

/-- THE TIED CARD OF 'vizardlaw17.AnswerEchoes'. -/
def answerEchoesCard : Claim7 := { stood := { row := answerEchoesRow, standIns := [], harness := (true, "4887f6b43475f63f4290c7176c5b2c5fd241366dee1f8618193c286c61091aa1"), looks := true }, kinds := [], alts := [], laidByText := true, laidKinds := [.handle], laidTests := true, laidLooks := .later }
def AnswerEchoesCardSaid : Prop := Claim7.holds Tryd.pinned (.plain (OpenSpec.ofChange answerEchoesSpec)) answerEchoesCard

/-- THE TIED CARD OF 'vizardlaw10.IcmpParses'. -/
def icmpParsesCard : Claim7 := { stood := { row := icmpParsesRow, standIns := [], harness := (true, "4887f6b43475f63f4290c7176c5b2c5fd241366dee1f8618193c286c61091aa1"), looks := true }, kinds := [], alts := [], laidByText := true, laidKinds := [.handle], laidTests := true, laidLooks := .later }
def IcmpParsesCardSaid : Prop := Claim7.holds Tryd.pinned (.plain (OpenSpec.ofChange icmpParsesSpec)) icmpParsesCard

/-- THE TIED CARD OF 'vizardlaw10.IcmpWrites'. -/
def icmpWritesCard : Claim7 := { stood := { row := icmpWritesRow, standIns := [], harness := (true, "4887f6b43475f63f4290c7176c5b2c5fd241366dee1f8618193c286c61091aa1"), looks := true }, kinds := [], alts := [], laidByText := true, laidKinds := [.handle], laidTests := true, laidLooks := .later }
def IcmpWritesCardSaid : Prop := Claim7.holds Tryd.pinned (.plain (OpenSpec.ofChange icmpWritesSpec)) icmpWritesCard

/-- THE TIED CARD OF 'vizardlaw10.IcmpInner'. -/
def icmpInnerCard : Claim7 := { stood := { row := icmpInnerRow, standIns := [], harness := (true, "4887f6b43475f63f4290c7176c5b2c5fd241366dee1f8618193c286c61091aa1"), looks := true }, kinds := [], alts := [], laidByText := true, laidKinds := [.handle], laidTests := true, laidLooks := .later }
def IcmpInnerCardSaid : Prop := Claim7.holds Tryd.pinned (.plain (OpenSpec.ofChange icmpInnerSpec)) icmpInnerCard

/-- THE TIED CARD OF 'vizardlaw10.IcmpMarks'. -/
def icmpMarksCard : Claim7 := { stood := { row := icmpMarksRow, standIns := [], harness := (true, "4887f6b43475f63f4290c7176c5b2c5fd241366dee1f8618193c286c61091aa1"), looks := true }, kinds := [], alts := [], laidByText := true, laidKinds := [.handle], laidTests := true, laidLooks := .later }
def IcmpMarksCardSaid : Prop := Claim7.holds Tryd.pinned (.plain (OpenSpec.ofChange icmpMarksSpec)) icmpMarksCard

/-- THE TIED CARD OF 'vizardlaw17.AnswerOnce'. -/
def answerOnceCard : Claim7 := { stood := { row := answerOnceRow, standIns := [], harness := (true, "4887f6b43475f63f4290c7176c5b2c5fd241366dee1f8618193c286c61091aa1"), looks := true }, kinds := [], alts := [], laidByText := true, laidKinds := [.handle], laidTests := true, laidLooks := .later }
def AnswerOnceCardSaid : Prop := Claim7.holds Tryd.pinned (.plain (OpenSpec.ofChange answerOnceSpec)) answerOnceCard

/-- THE TIED CARD OF 'vizardlaw17.AnswerPorts'. -/
def answerPortsCard : Claim7 := { stood := { row := answerPortsRow, standIns := [], harness := (true, "4887f6b43475f63f4290c7176c5b2c5fd241366dee1f8618193c286c61091aa1"), looks := true }, kinds := [], alts := [], laidByText := true, laidKinds := [.handle], laidTests := true, laidLooks := .later }
def AnswerPortsCardSaid : Prop := Claim7.holds Tryd.pinned (.plain (OpenSpec.ofChange answerPortsSpec)) answerPortsCard

/-- THE TIED CARD OF 'vizardlaw21.TurnInner'. -/
def turnInnerCard : Claim7 := { stood := { row := turnInnerRow, standIns := [], harness := (true, "4887f6b43475f63f4290c7176c5b2c5fd241366dee1f8618193c286c61091aa1"), looks := true }, kinds := [], alts := [], laidByText := true, laidKinds := [.handle], laidTests := true, laidLooks := .later }
def TurnInnerCardSaid : Prop := Claim7.holds Tryd.pinned (.plain (OpenSpec.ofChange turnInnerSpec)) turnInnerCard

/-- THE SECOND FORM's CARD OF 'vizardlaw09.TcpParses'. -/
def tcpParsesUptoCard : Claim7 := { stood := { row := tcpParsesUptoRow, standIns := [], harness := (true, "4887f6b43475f63f4290c7176c5b2c5fd241366dee1f8618193c286c61091aa1"), looks := true }, kinds := [], alts := [], laidByText := true, laidKinds := [.handle], laidTests := true, laidLooks := .later }
def TcpParsesUptoCardSaid : Prop := Claim7.holds Tryd.pinned (.plain (OpenSpec.upto tcpParsesSpec)) tcpParsesUptoCard

/-- THE SECOND FORM's CARD OF 'vizardlaw09.TcpMakes'. -/
def tcpMakesUptoCard : Claim7 := { stood := { row := tcpMakesUptoRow, standIns := [], harness := (true, "4887f6b43475f63f4290c7176c5b2c5fd241366dee1f8618193c286c61091aa1"), looks := true }, kinds := [], alts := [], laidByText := true, laidKinds := [.handle], laidTests := true, laidLooks := .later }
def TcpMakesUptoCardSaid : Prop := Claim7.holds Tryd.pinned (.plain (OpenSpec.upto tcpMakesSpec)) tcpMakesUptoCard

/-- THE SECOND FORM's CARD OF 'vizardlaw08.UdpParses'. -/
def udpParsesUptoCard : Claim7 := { stood := { row := udpParsesUptoRow, standIns := [], harness := (true, "4887f6b43475f63f4290c7176c5b2c5fd241366dee1f8618193c286c61091aa1"), looks := true }, kinds := [], alts := [], laidByText := true, laidKinds := [.handle], laidTests := true, laidLooks := .later }
def UdpParsesUptoCardSaid : Prop := Claim7.holds Tryd.pinned (.plain (OpenSpec.upto udpParsesSpec)) udpParsesUptoCard

/-- THE SECOND FORM's CARD OF 'vizardlaw08.UdpWrites'. -/
def udpWritesUptoCard : Claim7 := { stood := { row := udpWritesUptoRow, standIns := [], harness := (true, "4887f6b43475f63f4290c7176c5b2c5fd241366dee1f8618193c286c61091aa1"), looks := true }, kinds := [], alts := [], laidByText := true, laidKinds := [.handle], laidTests := true, laidLooks := .later }
def UdpWritesUptoCardSaid : Prop := Claim7.holds Tryd.pinned (.plain (OpenSpec.upto udpWritesSpec)) udpWritesUptoCard

/-- THE SECOND FORM's CARD OF 'vizardlaw08.UdpSpoilt'. -/
def udpSpoiltUptoCard : Claim7 := { stood := { row := udpSpoiltUptoRow, standIns := [], harness := (true, "4887f6b43475f63f4290c7176c5b2c5fd241366dee1f8618193c286c61091aa1"), looks := true }, kinds := [], alts := [], laidByText := true, laidKinds := [.handle], laidTests := true, laidLooks := .later }
def UdpSpoiltUptoCardSaid : Prop := Claim7.holds Tryd.pinned (.plain (OpenSpec.upto udpSpoiltSpec)) udpSpoiltUptoCard

/-- THE SECOND FORM's CARD OF 'vizardlaw08.UdpSwaps'. -/
def udpSwapsUptoCard : Claim7 := { stood := { row := udpSwapsUptoRow, standIns := [], harness := (true, "4887f6b43475f63f4290c7176c5b2c5fd241366dee1f8618193c286c61091aa1"), looks := true }, kinds := [], alts := [], laidByText := true, laidKinds := [.handle], laidTests := true, laidLooks := .later }
def UdpSwapsUptoCardSaid : Prop := Claim7.holds Tryd.pinned (.plain (OpenSpec.upto udpSwapsSpec)) udpSwapsUptoCard

/-- THE SECOND FORM's CARD OF 'vizardlaw07.InetWrites'. -/
def inetWritesUptoCard : Claim7 := { stood := { row := inetWritesUptoRow, standIns := [], harness := (true, "4887f6b43475f63f4290c7176c5b2c5fd241366dee1f8618193c286c61091aa1"), looks := true }, kinds := [], alts := [], laidByText := true, laidKinds := [.handle], laidTests := true, laidLooks := .later }
def InetWritesUptoCardSaid : Prop := Claim7.holds Tryd.pinned (.plain (OpenSpec.upto inetWritesSpec)) inetWritesUptoCard

/-- THE SECOND FORM's CARD OF 'vizardlaw07.InetSpoilt'. -/
def inetSpoiltUptoCard : Claim7 := { stood := { row := inetSpoiltUptoRow, standIns := [], harness := (true, "4887f6b43475f63f4290c7176c5b2c5fd241366dee1f8618193c286c61091aa1"), looks := true }, kinds := [], alts := [], laidByText := true, laidKinds := [.handle], laidTests := true, laidLooks := .later }
def InetSpoiltUptoCardSaid : Prop := Claim7.holds Tryd.pinned (.plain (OpenSpec.upto inetSpoiltSpec)) inetSpoiltUptoCard

/-- THE SECOND FORM's CARD OF 'vizardlaw07.InetCuts'. -/
def inetCutsUptoCard : Claim7 := { stood := { row := inetCutsUptoRow, standIns := [], harness := (true, "4887f6b43475f63f4290c7176c5b2c5fd241366dee1f8618193c286c61091aa1"), looks := true }, kinds := [], alts := [], laidByText := true, laidKinds := [.handle], laidTests := true, laidLooks := .later }
def InetCutsUptoCardSaid : Prop := Claim7.holds Tryd.pinned (.plain (OpenSpec.upto inetCutsSpec)) inetCutsUptoCard

/-- THE SECOND FORM's CARD OF 'vizardlaw07.InetTtl'. -/
def inetTtlUptoCard : Claim7 := { stood := { row := inetTtlUptoRow, standIns := [], harness := (true, "4887f6b43475f63f4290c7176c5b2c5fd241366dee1f8618193c286c61091aa1"), looks := true }, kinds := [], alts := [], laidByText := true, laidKinds := [.handle], laidTests := true, laidLooks := .later }
def InetTtlUptoCardSaid : Prop := Claim7.holds Tryd.pinned (.plain (OpenSpec.upto inetTtlSpec)) inetTtlUptoCard

/-- THE SECOND FORM's CARD OF 'vizardlaw07.InetPeeks'. -/
def inetPeeksUptoCard : Claim7 := { stood := { row := inetPeeksUptoRow, standIns := [], harness := (true, "4887f6b43475f63f4290c7176c5b2c5fd241366dee1f8618193c286c61091aa1"), looks := true }, kinds := [], alts := [], laidByText := true, laidKinds := [.handle], laidTests := true, laidLooks := .later }
def InetPeeksUptoCardSaid : Prop := Claim7.holds Tryd.pinned (.plain (OpenSpec.upto inetPeeksSpec)) inetPeeksUptoCard

/-- THE SECOND FORM's CARD OF 'vizardlaw17.AnswerErrors'. -/
def answerErrorsUptoCard : Claim7 := { stood := { row := answerErrorsUptoRow, standIns := [], harness := (true, "4887f6b43475f63f4290c7176c5b2c5fd241366dee1f8618193c286c61091aa1"), looks := true }, kinds := [], alts := [], laidByText := true, laidKinds := [.handle], laidTests := true, laidLooks := .later }
def AnswerErrorsUptoCardSaid : Prop := Claim7.holds Tryd.pinned (.plain (OpenSpec.upto answerErrorsSpec)) answerErrorsUptoCard

/-- THE SECOND FORM's CARD OF 'vizardlaw17.AnswerLocal'. -/
def answerLocalUptoCard : Claim7 := { stood := { row := answerLocalUptoRow, standIns := [], harness := (true, "4887f6b43475f63f4290c7176c5b2c5fd241366dee1f8618193c286c61091aa1"), looks := true }, kinds := [], alts := [], laidByText := true, laidKinds := [.handle], laidTests := true, laidLooks := .later }
def AnswerLocalUptoCardSaid : Prop := Claim7.holds Tryd.pinned (.plain (OpenSpec.upto answerLocalSpec)) answerLocalUptoCard

/-- THE SECOND FORM's CARD OF 'vizardlaw17.AnswerEchoes'. -/
def answerEchoesUptoCard : Claim7 := { stood := { row := answerEchoesUptoRow, standIns := [], harness := (true, "4887f6b43475f63f4290c7176c5b2c5fd241366dee1f8618193c286c61091aa1"), looks := true }, kinds := [], alts := [], laidByText := true, laidKinds := [.handle], laidTests := true, laidLooks := .later }
def AnswerEchoesUptoCardSaid : Prop := Claim7.holds Tryd.pinned (.plain (OpenSpec.upto answerEchoesSpec)) answerEchoesUptoCard

/-- THE SECOND FORM's CARD OF 'vizardlaw10.IcmpParses'. -/
def icmpParsesUptoCard : Claim7 := { stood := { row := icmpParsesUptoRow, standIns := [], harness := (true, "4887f6b43475f63f4290c7176c5b2c5fd241366dee1f8618193c286c61091aa1"), looks := true }, kinds := [], alts := [], laidByText := true, laidKinds := [.handle], laidTests := true, laidLooks := .later }
def IcmpParsesUptoCardSaid : Prop := Claim7.holds Tryd.pinned (.plain (OpenSpec.upto icmpParsesSpec)) icmpParsesUptoCard

/-- THE SECOND FORM's CARD OF 'vizardlaw10.IcmpWrites'. -/
def icmpWritesUptoCard : Claim7 := { stood := { row := icmpWritesUptoRow, standIns := [], harness := (true, "4887f6b43475f63f4290c7176c5b2c5fd241366dee1f8618193c286c61091aa1"), looks := true }, kinds := [], alts := [], laidByText := true, laidKinds := [.handle], laidTests := true, laidLooks := .later }
def IcmpWritesUptoCardSaid : Prop := Claim7.holds Tryd.pinned (.plain (OpenSpec.upto icmpWritesSpec)) icmpWritesUptoCard

/-- THE SECOND FORM's CARD OF 'vizardlaw10.IcmpInner'. -/
def icmpInnerUptoCard : Claim7 := { stood := { row := icmpInnerUptoRow, standIns := [], harness := (true, "4887f6b43475f63f4290c7176c5b2c5fd241366dee1f8618193c286c61091aa1"), looks := true }, kinds := [], alts := [], laidByText := true, laidKinds := [.handle], laidTests := true, laidLooks := .later }
def IcmpInnerUptoCardSaid : Prop := Claim7.holds Tryd.pinned (.plain (OpenSpec.upto icmpInnerSpec)) icmpInnerUptoCard

/-- THE SECOND FORM's CARD OF 'vizardlaw10.IcmpMarks'. -/
def icmpMarksUptoCard : Claim7 := { stood := { row := icmpMarksUptoRow, standIns := [], harness := (true, "4887f6b43475f63f4290c7176c5b2c5fd241366dee1f8618193c286c61091aa1"), looks := true }, kinds := [], alts := [], laidByText := true, laidKinds := [.handle], laidTests := true, laidLooks := .later }
def IcmpMarksUptoCardSaid : Prop := Claim7.holds Tryd.pinned (.plain (OpenSpec.upto icmpMarksSpec)) icmpMarksUptoCard

/-- THE SECOND FORM's CARD OF 'vizardlaw17.AnswerOnce'. -/
def answerOnceUptoCard : Claim7 := { stood := { row := answerOnceUptoRow, standIns := [], harness := (true, "4887f6b43475f63f4290c7176c5b2c5fd241366dee1f8618193c286c61091aa1"), looks := true }, kinds := [], alts := [], laidByText := true, laidKinds := [.handle], laidTests := true, laidLooks := .later }
def AnswerOnceUptoCardSaid : Prop := Claim7.holds Tryd.pinned (.plain (OpenSpec.upto answerOnceSpec)) answerOnceUptoCard

/-- THE SECOND FORM's CARD OF 'vizardlaw17.AnswerPorts'. -/
def answerPortsUptoCard : Claim7 := { stood := { row := answerPortsUptoRow, standIns := [], harness := (true, "4887f6b43475f63f4290c7176c5b2c5fd241366dee1f8618193c286c61091aa1"), looks := true }, kinds := [], alts := [], laidByText := true, laidKinds := [.handle], laidTests := true, laidLooks := .later }
def AnswerPortsUptoCardSaid : Prop := Claim7.holds Tryd.pinned (.plain (OpenSpec.upto answerPortsSpec)) answerPortsUptoCard

/-- THE SECOND FORM's CARD OF 'vizardlaw21.TurnInner'. -/
def turnInnerUptoCard : Claim7 := { stood := { row := turnInnerUptoRow, standIns := [], harness := (true, "4887f6b43475f63f4290c7176c5b2c5fd241366dee1f8618193c286c61091aa1"), looks := true }, kinds := [], alts := [], laidByText := true, laidKinds := [.handle], laidTests := true, laidLooks := .later }
def TurnInnerUptoCardSaid : Prop := Claim7.holds Tryd.pinned (.plain (OpenSpec.upto turnInnerSpec)) turnInnerUptoCard
end Rows
end Go.Proofs.YtmmfimpphhebfaaDoor
