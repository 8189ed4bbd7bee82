/-
  No cell of these rows narrows 'for every input' (looked for: loops, veiled, ifaces, maps, wideKeys, modest, calm, conditions, laid).
  DERIVED. THE GIVEN ROWS OF THIS SEAT. 17 by the template 'for every input the law returns true; each argument reads behind the call as it read before'; 0 by the template 'total and deterministic' (their statements: YtkekjbpalkoeeaaTotals.lean).
  GIVEN WITH THE SEED: the statements are not yours to turn. If you find one false, say at which input.
  Laid BY PROGRAM, IN A SANDBOX (cutbox-rows.mjs): the forced cells as the released guide's own fill.sh prints them over the translation 7092cdba38340e19… (all of the seat's roots in one cut). By AI agents, Wed Nov 11 2026. No macro, syntax, notation, axiom, sorry.
-/
import Derived.Test.YtkekjbpalkoeeaaChecked
import GoSem.Claim
import GoSem.ClaimJoined
import GoSem.ClaimMapViews
import Derived.JoinedTies
import Derived.KernelRfl
namespace Go.Proofs.Ytkekjbpalkoeeaa
/- THE CELL 'sum', in the pinned program and in every row, IS THE sha256 OF THE DUMP (.gsa) THAT YtkekjbpalkoeeaaProg.lean LOADS. Nothing in Lean hashes anything: it is a label: what it is worth is what the hold of that sum in a sandbox is worth. -/
noncomputable def Try.pinned : Pinned := { name := "ytkekjbpalkoeeaa", sum := "7092cdba38340e19de033ad033e4e1156ac758e5547c9a2e79ba152435215d3d", checked := Try.checked }
namespace Rows
def none {H : Type} : Left H := { results := [], args := [] }

/-- 'vizardlaw23.OptionParses': WHATEVER THE INPUT: true; the input reads as it did. -/
def optionParsesSpec : ChangeSpec := { name := "optionParses", fn := fun _ => fun
  | [d] => { results := [.lit (.bool true)], args := [d] }
  | _ => none }
def optionParsesRow : OpenClaim := { program := "ytkekjbpalkoeeaa", sum := "7092cdba38340e19de033ad033e4e1156ac758e5547c9a2e79ba152435215d3d", func := "vizard/vizardlaw23.OptionParses", spec := "optionParses", unfollowed := true, recurses := true, apart := false }
def OptionParsesSaid : Prop := optionParsesRow.holds Try.pinned (OpenSpec.ofChange optionParsesSpec)

/-- ITS FALSE NEIGHBOUR: 'it returns false'. Refute it at one input. -/
def optionParsesWrong : ChangeSpec := { name := "optionParses", fn := fun _ => fun
  | [d] => { results := [.lit (.bool false)], args := [d] }
  | _ => none }
def OptionParsesWrongFalsely : Prop := optionParsesRow.holds Try.pinned (OpenSpec.ofChange optionParsesWrong)

/-- 'vizardlaw23.OptionWrites': WHATEVER THE INPUT: true; the input reads as it did. -/
def optionWritesSpec : ChangeSpec := { name := "optionWrites", fn := fun _ => fun
  | [d1, d2, d3, d4, d5, d6] => { results := [.lit (.bool true)], args := [d1, d2, d3, d4, d5, d6] }
  | _ => none }
def optionWritesRow : OpenClaim := { program := "ytkekjbpalkoeeaa", sum := "7092cdba38340e19de033ad033e4e1156ac758e5547c9a2e79ba152435215d3d", func := "vizard/vizardlaw23.OptionWrites", spec := "optionWrites", unfollowed := true, recurses := true, apart := false }
def OptionWritesSaid : Prop := optionWritesRow.holds Try.pinned (OpenSpec.ofChange optionWritesSpec)

/-- ITS FALSE NEIGHBOUR: 'it returns false'. Refute it at one input. -/
def optionWritesWrong : ChangeSpec := { name := "optionWrites", fn := fun _ => fun
  | [d1, d2, d3, d4, d5, d6] => { results := [.lit (.bool false)], args := [d1, d2, d3, d4, d5, d6] }
  | _ => none }
def OptionWritesWrongFalsely : Prop := optionWritesRow.holds Try.pinned (OpenSpec.ofChange optionWritesWrong)

/-- 'vizardlaw23.OptionBack': WHATEVER THE INPUT: true; the input reads as it did. -/
def optionBackSpec : ChangeSpec := { name := "optionBack", fn := fun _ => fun
  | [d1, d2, d3, d4] => { results := [.lit (.bool true)], args := [d1, d2, d3, d4] }
  | _ => none }
def optionBackRow : OpenClaim := { program := "ytkekjbpalkoeeaa", sum := "7092cdba38340e19de033ad033e4e1156ac758e5547c9a2e79ba152435215d3d", func := "vizard/vizardlaw23.OptionBack", spec := "optionBack", unfollowed := true, recurses := true, apart := false }
def OptionBackSaid : Prop := optionBackRow.holds Try.pinned (OpenSpec.ofChange optionBackSpec)

/-- ITS FALSE NEIGHBOUR: 'it returns false'. Refute it at one input. -/
def optionBackWrong : ChangeSpec := { name := "optionBack", fn := fun _ => fun
  | [d1, d2, d3, d4] => { results := [.lit (.bool false)], args := [d1, d2, d3, d4] }
  | _ => none }
def OptionBackWrongFalsely : Prop := optionBackRow.holds Try.pinned (OpenSpec.ofChange optionBackWrong)

/-- 'vizardlaw23.OptionFinds': WHATEVER THE INPUT: true; the input reads as it did. -/
def optionFindsSpec : ChangeSpec := { name := "optionFinds", fn := fun _ => fun
  | [d1, d2, d3, d4, d5] => { results := [.lit (.bool true)], args := [d1, d2, d3, d4, d5] }
  | _ => none }
def optionFindsRow : OpenClaim := { program := "ytkekjbpalkoeeaa", sum := "7092cdba38340e19de033ad033e4e1156ac758e5547c9a2e79ba152435215d3d", func := "vizard/vizardlaw23.OptionFinds", spec := "optionFinds", unfollowed := true, recurses := true, apart := false }
def OptionFindsSaid : Prop := optionFindsRow.holds Try.pinned (OpenSpec.ofChange optionFindsSpec)

/-- ITS FALSE NEIGHBOUR: 'it returns false'. Refute it at one input. -/
def optionFindsWrong : ChangeSpec := { name := "optionFinds", fn := fun _ => fun
  | [d1, d2, d3, d4, d5] => { results := [.lit (.bool false)], args := [d1, d2, d3, d4, d5] }
  | _ => none }
def OptionFindsWrongFalsely : Prop := optionFindsRow.holds Try.pinned (OpenSpec.ofChange optionFindsWrong)

/-- 'vizardlaw24.BootParses': WHATEVER THE INPUT: true; the input reads as it did. -/
def bootParsesSpec : ChangeSpec := { name := "bootParses", fn := fun _ => fun
  | [d] => { results := [.lit (.bool true)], args := [d] }
  | _ => none }
def bootParsesRow : OpenClaim := { program := "ytkekjbpalkoeeaa", sum := "7092cdba38340e19de033ad033e4e1156ac758e5547c9a2e79ba152435215d3d", func := "vizard/vizardlaw24.BootParses", spec := "bootParses", unfollowed := true, recurses := true, apart := false }
def BootParsesSaid : Prop := bootParsesRow.holds Try.pinned (OpenSpec.ofChange bootParsesSpec)

/-- ITS FALSE NEIGHBOUR: 'it returns false'. Refute it at one input. -/
def bootParsesWrong : ChangeSpec := { name := "bootParses", fn := fun _ => fun
  | [d] => { results := [.lit (.bool false)], args := [d] }
  | _ => none }
def BootParsesWrongFalsely : Prop := bootParsesRow.holds Try.pinned (OpenSpec.ofChange bootParsesWrong)

/-- 'vizardlaw24.BootWrites': WHATEVER THE INPUT: true; the input reads as it did. -/
def bootWritesSpec : ChangeSpec := { name := "bootWrites", fn := fun _ => fun
  | [d1, d2] => { results := [.lit (.bool true)], args := [d1, d2] }
  | _ => none }
def bootWritesRow : OpenClaim := { program := "ytkekjbpalkoeeaa", sum := "7092cdba38340e19de033ad033e4e1156ac758e5547c9a2e79ba152435215d3d", func := "vizard/vizardlaw24.BootWrites", spec := "bootWrites", unfollowed := true, recurses := true, apart := false }
def BootWritesSaid : Prop := bootWritesRow.holds Try.pinned (OpenSpec.ofChange bootWritesSpec)

/-- ITS FALSE NEIGHBOUR: 'it returns false'. Refute it at one input. -/
def bootWritesWrong : ChangeSpec := { name := "bootWrites", fn := fun _ => fun
  | [d1, d2] => { results := [.lit (.bool false)], args := [d1, d2] }
  | _ => none }
def BootWritesWrongFalsely : Prop := bootWritesRow.holds Try.pinned (OpenSpec.ofChange bootWritesWrong)

/-- 'vizardlaw24.BootAnswers': WHATEVER THE INPUT: true; the input reads as it did. -/
def bootAnswersSpec : ChangeSpec := { name := "bootAnswers", fn := fun _ => fun
  | [d1, d2, d3, d4, d5] => { results := [.lit (.bool true)], args := [d1, d2, d3, d4, d5] }
  | _ => none }
def bootAnswersRow : OpenClaim := { program := "ytkekjbpalkoeeaa", sum := "7092cdba38340e19de033ad033e4e1156ac758e5547c9a2e79ba152435215d3d", func := "vizard/vizardlaw24.BootAnswers", spec := "bootAnswers", unfollowed := true, recurses := true, apart := false }
def BootAnswersSaid : Prop := bootAnswersRow.holds Try.pinned (OpenSpec.ofChange bootAnswersSpec)

/-- ITS FALSE NEIGHBOUR: 'it returns false'. Refute it at one input. -/
def bootAnswersWrong : ChangeSpec := { name := "bootAnswers", fn := fun _ => fun
  | [d1, d2, d3, d4, d5] => { results := [.lit (.bool false)], args := [d1, d2, d3, d4, d5] }
  | _ => none }
def BootAnswersWrongFalsely : Prop := bootAnswersRow.holds Try.pinned (OpenSpec.ofChange bootAnswersWrong)

/-- 'vizardlaw24.BootClients': WHATEVER THE INPUT: true; the input reads as it did. -/
def bootClientsSpec : ChangeSpec := { name := "bootClients", fn := fun _ => fun
  | [d1, d2, d3, d4] => { results := [.lit (.bool true)], args := [d1, d2, d3, d4] }
  | _ => none }
def bootClientsRow : OpenClaim := { program := "ytkekjbpalkoeeaa", sum := "7092cdba38340e19de033ad033e4e1156ac758e5547c9a2e79ba152435215d3d", func := "vizard/vizardlaw24.BootClients", spec := "bootClients", unfollowed := true, recurses := true, apart := false }
def BootClientsSaid : Prop := bootClientsRow.holds Try.pinned (OpenSpec.ofChange bootClientsSpec)

/-- ITS FALSE NEIGHBOUR: 'it returns false'. Refute it at one input. -/
def bootClientsWrong : ChangeSpec := { name := "bootClients", fn := fun _ => fun
  | [d1, d2, d3, d4] => { results := [.lit (.bool false)], args := [d1, d2, d3, d4] }
  | _ => none }
def BootClientsWrongFalsely : Prop := bootClientsRow.holds Try.pinned (OpenSpec.ofChange bootClientsWrong)

/-- 'vizardlaw24.BootSizes': WHATEVER THE INPUT: true; the input reads as it did. -/
def bootSizesSpec : ChangeSpec := { name := "bootSizes", fn := fun _ => fun
  | [d1, d2, d3, d4, d5] => { results := [.lit (.bool true)], args := [d1, d2, d3, d4, d5] }
  | _ => none }
def bootSizesRow : OpenClaim := { program := "ytkekjbpalkoeeaa", sum := "7092cdba38340e19de033ad033e4e1156ac758e5547c9a2e79ba152435215d3d", func := "vizard/vizardlaw24.BootSizes", spec := "bootSizes", unfollowed := true, recurses := true, apart := false }
def BootSizesSaid : Prop := bootSizesRow.holds Try.pinned (OpenSpec.ofChange bootSizesSpec)

/-- ITS FALSE NEIGHBOUR: 'it returns false'. Refute it at one input. -/
def bootSizesWrong : ChangeSpec := { name := "bootSizes", fn := fun _ => fun
  | [d1, d2, d3, d4, d5] => { results := [.lit (.bool false)], args := [d1, d2, d3, d4, d5] }
  | _ => none }
def BootSizesWrongFalsely : Prop := bootSizesRow.holds Try.pinned (OpenSpec.ofChange bootSizesWrong)

/-- 'vizardlaw25.LeaseCalls': WHATEVER THE INPUT: true; the input reads as it did. -/
def leaseCallsSpec : ChangeSpec := { name := "leaseCalls", fn := fun _ => fun
  | [d1, d2, d3, d4, d5] => { results := [.lit (.bool true)], args := [d1, d2, d3, d4, d5] }
  | _ => none }
def leaseCallsRow : OpenClaim := { program := "ytkekjbpalkoeeaa", sum := "7092cdba38340e19de033ad033e4e1156ac758e5547c9a2e79ba152435215d3d", func := "vizard/vizardlaw25.LeaseCalls", spec := "leaseCalls", inPlace := ["maps.clone"], unfollowed := true, recurses := true, apart := false }
def LeaseCallsSaid : Prop := leaseCallsRow.holds Try.pinned (OpenSpec.ofChange leaseCallsSpec)

/-- ITS FALSE NEIGHBOUR: 'it returns false'. Refute it at one input. -/
def leaseCallsWrong : ChangeSpec := { name := "leaseCalls", fn := fun _ => fun
  | [d1, d2, d3, d4, d5] => { results := [.lit (.bool false)], args := [d1, d2, d3, d4, d5] }
  | _ => none }
def LeaseCallsWrongFalsely : Prop := leaseCallsRow.holds Try.pinned (OpenSpec.ofChange leaseCallsWrong)

/-- 'vizardlaw25.LeaseApart': WHATEVER THE INPUT: true; the input reads as it did. -/
def leaseApartSpec : ChangeSpec := { name := "leaseApart", fn := fun _ => fun
  | [d1, d2, d3, d4] => { results := [.lit (.bool true)], args := [d1, d2, d3, d4] }
  | _ => none }
def leaseApartRow : OpenClaim := { program := "ytkekjbpalkoeeaa", sum := "7092cdba38340e19de033ad033e4e1156ac758e5547c9a2e79ba152435215d3d", func := "vizard/vizardlaw25.LeaseApart", spec := "leaseApart", inPlace := ["maps.clone"], unfollowed := true, recurses := true, apart := false }
def LeaseApartSaid : Prop := leaseApartRow.holds Try.pinned (OpenSpec.ofChange leaseApartSpec)

/-- ITS FALSE NEIGHBOUR: 'it returns false'. Refute it at one input. -/
def leaseApartWrong : ChangeSpec := { name := "leaseApart", fn := fun _ => fun
  | [d1, d2, d3, d4] => { results := [.lit (.bool false)], args := [d1, d2, d3, d4] }
  | _ => none }
def LeaseApartWrongFalsely : Prop := leaseApartRow.holds Try.pinned (OpenSpec.ofChange leaseApartWrong)

/-- 'vizardlaw25.LeaseStays': WHATEVER THE INPUT: true; the input reads as it did. -/
def leaseStaysSpec : ChangeSpec := { name := "leaseStays", fn := fun _ => fun
  | [d1, d2, d3, d4, d5, d6, d7, d8] => { results := [.lit (.bool true)], args := [d1, d2, d3, d4, d5, d6, d7, d8] }
  | _ => none }
def leaseStaysRow : OpenClaim := { program := "ytkekjbpalkoeeaa", sum := "7092cdba38340e19de033ad033e4e1156ac758e5547c9a2e79ba152435215d3d", func := "vizard/vizardlaw25.LeaseStays", spec := "leaseStays", inPlace := ["maps.clone"], unfollowed := true, recurses := true, apart := false }
def LeaseStaysSaid : Prop := leaseStaysRow.holds Try.pinned (OpenSpec.ofChange leaseStaysSpec)

/-- ITS FALSE NEIGHBOUR: 'it returns false'. Refute it at one input. -/
def leaseStaysWrong : ChangeSpec := { name := "leaseStays", fn := fun _ => fun
  | [d1, d2, d3, d4, d5, d6, d7, d8] => { results := [.lit (.bool false)], args := [d1, d2, d3, d4, d5, d6, d7, d8] }
  | _ => none }
def LeaseStaysWrongFalsely : Prop := leaseStaysRow.holds Try.pinned (OpenSpec.ofChange leaseStaysWrong)

/-- 'vizardlaw25.LeaseFull': WHATEVER THE INPUT: true; the input reads as it did. -/
def leaseFullSpec : ChangeSpec := { name := "leaseFull", fn := fun _ => fun
  | [d1, d2, d3, d4, d5] => { results := [.lit (.bool true)], args := [d1, d2, d3, d4, d5] }
  | _ => none }
def leaseFullRow : OpenClaim := { program := "ytkekjbpalkoeeaa", sum := "7092cdba38340e19de033ad033e4e1156ac758e5547c9a2e79ba152435215d3d", func := "vizard/vizardlaw25.LeaseFull", spec := "leaseFull", inPlace := ["maps.clone"], unfollowed := true, recurses := true, apart := false }
def LeaseFullSaid : Prop := leaseFullRow.holds Try.pinned (OpenSpec.ofChange leaseFullSpec)

/-- ITS FALSE NEIGHBOUR: 'it returns false'. Refute it at one input. -/
def leaseFullWrong : ChangeSpec := { name := "leaseFull", fn := fun _ => fun
  | [d1, d2, d3, d4, d5] => { results := [.lit (.bool false)], args := [d1, d2, d3, d4, d5] }
  | _ => none }
def LeaseFullWrongFalsely : Prop := leaseFullRow.holds Try.pinned (OpenSpec.ofChange leaseFullWrong)

/-- 'vizardlaw26.DhcpOthers': WHATEVER THE INPUT: true; the input reads as it did. -/
def dhcpOthersSpec : ChangeSpec := { name := "dhcpOthers", fn := fun _ => fun
  | [d1, d2, d3, d4] => { results := [.lit (.bool true)], args := [d1, d2, d3, d4] }
  | _ => none }
def dhcpOthersRow : OpenClaim := { program := "ytkekjbpalkoeeaa", sum := "7092cdba38340e19de033ad033e4e1156ac758e5547c9a2e79ba152435215d3d", func := "vizard/vizardlaw26.DhcpOthers", spec := "dhcpOthers", inPlace := ["maps.clone"], unfollowed := true, recurses := true, apart := false }
def DhcpOthersSaid : Prop := dhcpOthersRow.holds Try.pinned (OpenSpec.ofChange dhcpOthersSpec)

/-- ITS FALSE NEIGHBOUR: 'it returns false'. Refute it at one input. -/
def dhcpOthersWrong : ChangeSpec := { name := "dhcpOthers", fn := fun _ => fun
  | [d1, d2, d3, d4] => { results := [.lit (.bool false)], args := [d1, d2, d3, d4] }
  | _ => none }
def DhcpOthersWrongFalsely : Prop := dhcpOthersRow.holds Try.pinned (OpenSpec.ofChange dhcpOthersWrong)

/-- 'vizardlaw26.DhcpAcks': WHATEVER THE INPUT: true; the input reads as it did. -/
def dhcpAcksSpec : ChangeSpec := { name := "dhcpAcks", fn := fun _ => fun
  | [d] => { results := [.lit (.bool true)], args := [d] }
  | _ => none }
def dhcpAcksRow : OpenClaim := { program := "ytkekjbpalkoeeaa", sum := "7092cdba38340e19de033ad033e4e1156ac758e5547c9a2e79ba152435215d3d", func := "vizard/vizardlaw26.DhcpAcks", spec := "dhcpAcks", inPlace := ["maps.clone"], unfollowed := true, recurses := true, apart := false }
def DhcpAcksSaid : Prop := dhcpAcksRow.holds Try.pinned (OpenSpec.ofChange dhcpAcksSpec)

/-- ITS FALSE NEIGHBOUR: 'it returns false'. Refute it at one input. -/
def dhcpAcksWrong : ChangeSpec := { name := "dhcpAcks", fn := fun _ => fun
  | [d] => { results := [.lit (.bool false)], args := [d] }
  | _ => none }
def DhcpAcksWrongFalsely : Prop := dhcpAcksRow.holds Try.pinned (OpenSpec.ofChange dhcpAcksWrong)

/-- 'vizardlaw26.DhcpFull': WHATEVER THE INPUT: true; the input reads as it did. -/
def dhcpFullSpec : ChangeSpec := { name := "dhcpFull", fn := fun _ => fun
  | [d1, d2, d3] => { results := [.lit (.bool true)], args := [d1, d2, d3] }
  | _ => none }
def dhcpFullRow : OpenClaim := { program := "ytkekjbpalkoeeaa", sum := "7092cdba38340e19de033ad033e4e1156ac758e5547c9a2e79ba152435215d3d", func := "vizard/vizardlaw26.DhcpFull", spec := "dhcpFull", inPlace := ["maps.clone"], unfollowed := true, recurses := true, apart := false }
def DhcpFullSaid : Prop := dhcpFullRow.holds Try.pinned (OpenSpec.ofChange dhcpFullSpec)

/-- ITS FALSE NEIGHBOUR: 'it returns false'. Refute it at one input. -/
def dhcpFullWrong : ChangeSpec := { name := "dhcpFull", fn := fun _ => fun
  | [d1, d2, d3] => { results := [.lit (.bool false)], args := [d1, d2, d3] }
  | _ => none }
def DhcpFullWrongFalsely : Prop := dhcpFullRow.holds Try.pinned (OpenSpec.ofChange dhcpFullWrong)

/-- 'vizardlaw26.DhcpTwice': WHATEVER THE INPUT: true; the input reads as it did. -/
def dhcpTwiceSpec : ChangeSpec := { name := "dhcpTwice", fn := fun _ => fun
  | [d1, d2, d3, d4, d5] => { results := [.lit (.bool true)], args := [d1, d2, d3, d4, d5] }
  | _ => none }
def dhcpTwiceRow : OpenClaim := { program := "ytkekjbpalkoeeaa", sum := "7092cdba38340e19de033ad033e4e1156ac758e5547c9a2e79ba152435215d3d", func := "vizard/vizardlaw26.DhcpTwice", spec := "dhcpTwice", inPlace := ["maps.clone"], unfollowed := true, recurses := true, apart := false }
def DhcpTwiceSaid : Prop := dhcpTwiceRow.holds Try.pinned (OpenSpec.ofChange dhcpTwiceSpec)

/-- ITS FALSE NEIGHBOUR: 'it returns false'. Refute it at one input. -/
def dhcpTwiceWrong : ChangeSpec := { name := "dhcpTwice", fn := fun _ => fun
  | [d1, d2, d3, d4, d5] => { results := [.lit (.bool false)], args := [d1, d2, d3, d4, d5] }
  | _ => none }
def DhcpTwiceWrongFalsely : Prop := dhcpTwiceRow.holds Try.pinned (OpenSpec.ofChange dhcpTwiceWrong)

/- THE SECOND FORM. 'bulk': how many values and letters a reading holds, each counted each time it is reached (what is shared counts as often as it is met; a slice's spare places count too). A statement '..UptoSaid' is the law's where the arguments, and the package variables that the reading takes, are together of bulk at most 1048576: NARROWER than '..Said'. Prove '..Said' where nothing that the law and all that it calls make is longer than what came in: it says more and counts as full. Else prove '..UptoSaid'. A law counts once. -/
mutual
def uptoBulk {H : Type} : DataW H → Nat
  | .lit (.string bytes) => bytes.length + 1
  | .lit _ => 1
  | .nil => 1
  | .ptr d => uptoBulk d + 1
  | .slice elems spare => uptoBulkAll elems + uptoBulkAll spare + 1
  | .agg parts => uptoBulkAll parts + 1
  | .iface _ d => uptoBulk d + 1
  | .map entries => uptoBulkEntries entries + 1
  | .held _ => 1
def uptoBulkAll {H : Type} : List (DataW H) → Nat
  | [] => 0
  | d :: r => uptoBulk d + uptoBulkAll r
def uptoBulkEntries {H : Type} : List (Lit × DataW H) → Nat
  | [] => 0
  | x :: r => uptoBulkEntry x + uptoBulkEntries r
def uptoBulkEntry {H : Type} : Lit × DataW H → Nat
  | (.string bytes, d) => bytes.length + uptoBulk d + 1
  | (_, d) => uptoBulk d + 1
 end
def uptoSmall : (H : Type) → List (DataW H) → Bool := fun _ ds => decide (uptoBulkAll ds ≤ 1048576)
def OpenSpec.upto (s : _root_.Go.ChangeSpec) : _root_.Go.OpenSpec := { _root_.Go.OpenSpec.ofChange s with cond := some uptoSmall }

/-- 'vizardlaw23.OptionParses', WHERE WHAT IT READS IS OF BULK AT MOST 1048576: true; the input reads as it did. -/
def optionParsesUptoRow : OpenClaim := { program := "ytkekjbpalkoeeaa", sum := "7092cdba38340e19de033ad033e4e1156ac758e5547c9a2e79ba152435215d3d", func := "vizard/vizardlaw23.OptionParses", spec := "optionParses", unfollowed := true, recurses := true, apart := false, narrowed := true }
def OptionParsesUptoSaid : Prop := optionParsesUptoRow.holds Try.pinned (OpenSpec.upto optionParsesSpec)

/-- 'vizardlaw23.OptionWrites', WHERE WHAT IT READS IS OF BULK AT MOST 1048576: true; the input reads as it did. -/
def optionWritesUptoRow : OpenClaim := { program := "ytkekjbpalkoeeaa", sum := "7092cdba38340e19de033ad033e4e1156ac758e5547c9a2e79ba152435215d3d", func := "vizard/vizardlaw23.OptionWrites", spec := "optionWrites", unfollowed := true, recurses := true, apart := false, narrowed := true }
def OptionWritesUptoSaid : Prop := optionWritesUptoRow.holds Try.pinned (OpenSpec.upto optionWritesSpec)

/-- 'vizardlaw23.OptionBack', WHERE WHAT IT READS IS OF BULK AT MOST 1048576: true; the input reads as it did. -/
def optionBackUptoRow : OpenClaim := { program := "ytkekjbpalkoeeaa", sum := "7092cdba38340e19de033ad033e4e1156ac758e5547c9a2e79ba152435215d3d", func := "vizard/vizardlaw23.OptionBack", spec := "optionBack", unfollowed := true, recurses := true, apart := false, narrowed := true }
def OptionBackUptoSaid : Prop := optionBackUptoRow.holds Try.pinned (OpenSpec.upto optionBackSpec)

/-- 'vizardlaw23.OptionFinds', WHERE WHAT IT READS IS OF BULK AT MOST 1048576: true; the input reads as it did. -/
def optionFindsUptoRow : OpenClaim := { program := "ytkekjbpalkoeeaa", sum := "7092cdba38340e19de033ad033e4e1156ac758e5547c9a2e79ba152435215d3d", func := "vizard/vizardlaw23.OptionFinds", spec := "optionFinds", unfollowed := true, recurses := true, apart := false, narrowed := true }
def OptionFindsUptoSaid : Prop := optionFindsUptoRow.holds Try.pinned (OpenSpec.upto optionFindsSpec)

/-- 'vizardlaw24.BootParses', WHERE WHAT IT READS IS OF BULK AT MOST 1048576: true; the input reads as it did. -/
def bootParsesUptoRow : OpenClaim := { program := "ytkekjbpalkoeeaa", sum := "7092cdba38340e19de033ad033e4e1156ac758e5547c9a2e79ba152435215d3d", func := "vizard/vizardlaw24.BootParses", spec := "bootParses", unfollowed := true, recurses := true, apart := false, narrowed := true }
def BootParsesUptoSaid : Prop := bootParsesUptoRow.holds Try.pinned (OpenSpec.upto bootParsesSpec)

/-- 'vizardlaw24.BootWrites', WHERE WHAT IT READS IS OF BULK AT MOST 1048576: true; the input reads as it did. -/
def bootWritesUptoRow : OpenClaim := { program := "ytkekjbpalkoeeaa", sum := "7092cdba38340e19de033ad033e4e1156ac758e5547c9a2e79ba152435215d3d", func := "vizard/vizardlaw24.BootWrites", spec := "bootWrites", unfollowed := true, recurses := true, apart := false, narrowed := true }
def BootWritesUptoSaid : Prop := bootWritesUptoRow.holds Try.pinned (OpenSpec.upto bootWritesSpec)

/-- 'vizardlaw24.BootAnswers', WHERE WHAT IT READS IS OF BULK AT MOST 1048576: true; the input reads as it did. -/
def bootAnswersUptoRow : OpenClaim := { program := "ytkekjbpalkoeeaa", sum := "7092cdba38340e19de033ad033e4e1156ac758e5547c9a2e79ba152435215d3d", func := "vizard/vizardlaw24.BootAnswers", spec := "bootAnswers", unfollowed := true, recurses := true, apart := false, narrowed := true }
def BootAnswersUptoSaid : Prop := bootAnswersUptoRow.holds Try.pinned (OpenSpec.upto bootAnswersSpec)

/-- 'vizardlaw24.BootClients', WHERE WHAT IT READS IS OF BULK AT MOST 1048576: true; the input reads as it did. -/
def bootClientsUptoRow : OpenClaim := { program := "ytkekjbpalkoeeaa", sum := "7092cdba38340e19de033ad033e4e1156ac758e5547c9a2e79ba152435215d3d", func := "vizard/vizardlaw24.BootClients", spec := "bootClients", unfollowed := true, recurses := true, apart := false, narrowed := true }
def BootClientsUptoSaid : Prop := bootClientsUptoRow.holds Try.pinned (OpenSpec.upto bootClientsSpec)

/-- 'vizardlaw24.BootSizes', WHERE WHAT IT READS IS OF BULK AT MOST 1048576: true; the input reads as it did. -/
def bootSizesUptoRow : OpenClaim := { program := "ytkekjbpalkoeeaa", sum := "7092cdba38340e19de033ad033e4e1156ac758e5547c9a2e79ba152435215d3d", func := "vizard/vizardlaw24.BootSizes", spec := "bootSizes", unfollowed := true, recurses := true, apart := false, narrowed := true }
def BootSizesUptoSaid : Prop := bootSizesUptoRow.holds Try.pinned (OpenSpec.upto bootSizesSpec)

/-- 'vizardlaw25.LeaseCalls', WHERE WHAT IT READS IS OF BULK AT MOST 1048576: true; the input reads as it did. -/
def leaseCallsUptoRow : OpenClaim := { program := "ytkekjbpalkoeeaa", sum := "7092cdba38340e19de033ad033e4e1156ac758e5547c9a2e79ba152435215d3d", func := "vizard/vizardlaw25.LeaseCalls", spec := "leaseCalls", inPlace := ["maps.clone"], unfollowed := true, recurses := true, apart := false, narrowed := true }
def LeaseCallsUptoSaid : Prop := leaseCallsUptoRow.holds Try.pinned (OpenSpec.upto leaseCallsSpec)

/-- 'vizardlaw25.LeaseApart', WHERE WHAT IT READS IS OF BULK AT MOST 1048576: true; the input reads as it did. -/
def leaseApartUptoRow : OpenClaim := { program := "ytkekjbpalkoeeaa", sum := "7092cdba38340e19de033ad033e4e1156ac758e5547c9a2e79ba152435215d3d", func := "vizard/vizardlaw25.LeaseApart", spec := "leaseApart", inPlace := ["maps.clone"], unfollowed := true, recurses := true, apart := false, narrowed := true }
def LeaseApartUptoSaid : Prop := leaseApartUptoRow.holds Try.pinned (OpenSpec.upto leaseApartSpec)

/-- 'vizardlaw25.LeaseStays', WHERE WHAT IT READS IS OF BULK AT MOST 1048576: true; the input reads as it did. -/
def leaseStaysUptoRow : OpenClaim := { program := "ytkekjbpalkoeeaa", sum := "7092cdba38340e19de033ad033e4e1156ac758e5547c9a2e79ba152435215d3d", func := "vizard/vizardlaw25.LeaseStays", spec := "leaseStays", inPlace := ["maps.clone"], unfollowed := true, recurses := true, apart := false, narrowed := true }
def LeaseStaysUptoSaid : Prop := leaseStaysUptoRow.holds Try.pinned (OpenSpec.upto leaseStaysSpec)

/-- 'vizardlaw25.LeaseFull', WHERE WHAT IT READS IS OF BULK AT MOST 1048576: true; the input reads as it did. -/
def leaseFullUptoRow : OpenClaim := { program := "ytkekjbpalkoeeaa", sum := "7092cdba38340e19de033ad033e4e1156ac758e5547c9a2e79ba152435215d3d", func := "vizard/vizardlaw25.LeaseFull", spec := "leaseFull", inPlace := ["maps.clone"], unfollowed := true, recurses := true, apart := false, narrowed := true }
def LeaseFullUptoSaid : Prop := leaseFullUptoRow.holds Try.pinned (OpenSpec.upto leaseFullSpec)

/-- 'vizardlaw26.DhcpOthers', WHERE WHAT IT READS IS OF BULK AT MOST 1048576: true; the input reads as it did. -/
def dhcpOthersUptoRow : OpenClaim := { program := "ytkekjbpalkoeeaa", sum := "7092cdba38340e19de033ad033e4e1156ac758e5547c9a2e79ba152435215d3d", func := "vizard/vizardlaw26.DhcpOthers", spec := "dhcpOthers", inPlace := ["maps.clone"], unfollowed := true, recurses := true, apart := false, narrowed := true }
def DhcpOthersUptoSaid : Prop := dhcpOthersUptoRow.holds Try.pinned (OpenSpec.upto dhcpOthersSpec)

/-- 'vizardlaw26.DhcpAcks', WHERE WHAT IT READS IS OF BULK AT MOST 1048576: true; the input reads as it did. -/
def dhcpAcksUptoRow : OpenClaim := { program := "ytkekjbpalkoeeaa", sum := "7092cdba38340e19de033ad033e4e1156ac758e5547c9a2e79ba152435215d3d", func := "vizard/vizardlaw26.DhcpAcks", spec := "dhcpAcks", inPlace := ["maps.clone"], unfollowed := true, recurses := true, apart := false, narrowed := true }
def DhcpAcksUptoSaid : Prop := dhcpAcksUptoRow.holds Try.pinned (OpenSpec.upto dhcpAcksSpec)

/-- 'vizardlaw26.DhcpFull', WHERE WHAT IT READS IS OF BULK AT MOST 1048576: true; the input reads as it did. -/
def dhcpFullUptoRow : OpenClaim := { program := "ytkekjbpalkoeeaa", sum := "7092cdba38340e19de033ad033e4e1156ac758e5547c9a2e79ba152435215d3d", func := "vizard/vizardlaw26.DhcpFull", spec := "dhcpFull", inPlace := ["maps.clone"], unfollowed := true, recurses := true, apart := false, narrowed := true }
def DhcpFullUptoSaid : Prop := dhcpFullUptoRow.holds Try.pinned (OpenSpec.upto dhcpFullSpec)

/-- 'vizardlaw26.DhcpTwice', WHERE WHAT IT READS IS OF BULK AT MOST 1048576: true; the input reads as it did. -/
def dhcpTwiceUptoRow : OpenClaim := { program := "ytkekjbpalkoeeaa", sum := "7092cdba38340e19de033ad033e4e1156ac758e5547c9a2e79ba152435215d3d", func := "vizard/vizardlaw26.DhcpTwice", spec := "dhcpTwice", inPlace := ["maps.clone"], unfollowed := true, recurses := true, apart := false, narrowed := true }
def DhcpTwiceUptoSaid : Prop := dhcpTwiceUptoRow.holds Try.pinned (OpenSpec.upto dhcpTwiceSpec)

end Rows
end Go.Proofs.Ytkekjbpalkoeeaa
