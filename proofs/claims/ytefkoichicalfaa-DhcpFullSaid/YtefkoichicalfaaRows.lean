/-
  No cell of these rows narrows 'for every input' (looked for: loops, veiled, ifaces, maps, wideKeys, modest, calm, conditions, laid).
  DERIVED. THE GIVEN ROWS OF THIS SEAT. 4 by the template 'for every input the law returns true; each argument reads behind the call as it read before'; 0 by the template 'total and deterministic' (their statements: YtefkoichicalfaaTotals.lean).
  GIVEN WITH THE SEED: the statements are not yours to turn. If you find one false, say at which input.
  Laid BY PROGRAM, IN A SANDBOX (cutbox-rows.mjs): the forced cells as the released guide's own fill.sh prints them over the translation 40c9a8372b6bf44b… (all of the seat's roots in one cut). By AI agents, Wed Nov 11 2026. No macro, syntax, notation, axiom, sorry.
-/
import Derived.Test.YtefkoichicalfaaChecked
import GoSem.Claim
import GoSem.ClaimJoined
import GoSem.ClaimMapViews
import Derived.JoinedTies
import Derived.KernelRfl
namespace Go.Proofs.Ytefkoichicalfaa
/- THE CELL 'sum', in the pinned program and in every row, IS THE sha256 OF THE DUMP (.gsa) THAT YtefkoichicalfaaProg.lean LOADS. Nothing in Lean hashes anything: it is a label: what it is worth is what the hold of that sum in a sandbox is worth. -/
noncomputable def Try.pinned : Pinned := { name := "ytefkoichicalfaa", sum := "40c9a8372b6bf44b9b42a978f670f4a9dbddb1cfcfcb1d69cf31a5a963adbcb2", checked := Try.checked }
namespace Rows
def none {H : Type} : Left H := { results := [], args := [] }

/-- 'vizardlaw26.DhcpOthers': WHATEVER THE INPUT: true; the input reads as it did. -/
def dhcpOthersSpec : ChangeSpec := { name := "dhcpOthers", fn := fun _ => fun
  | [d1, d2, d3, d4] => { results := [.lit (.bool true)], args := [d1, d2, d3, d4] }
  | _ => none }
def dhcpOthersRow : OpenClaim := { program := "ytefkoichicalfaa", sum := "40c9a8372b6bf44b9b42a978f670f4a9dbddb1cfcfcb1d69cf31a5a963adbcb2", func := "vizard/vizardlaw26.DhcpOthers", spec := "dhcpOthers", inPlace := ["maps.clone"], unfollowed := true, recurses := true, apart := false }
def DhcpOthersSaid : Prop := dhcpOthersRow.holds Try.pinned (OpenSpec.ofChange dhcpOthersSpec)

/-- ITS FALSE NEIGHBOUR: 'it returns false'. Refute it at one input. -/
def dhcpOthersWrong : ChangeSpec := { name := "dhcpOthers", fn := fun _ => fun
  | [d1, d2, d3, d4] => { results := [.lit (.bool false)], args := [d1, d2, d3, d4] }
  | _ => none }
def DhcpOthersWrongFalsely : Prop := dhcpOthersRow.holds Try.pinned (OpenSpec.ofChange dhcpOthersWrong)

/-- 'vizardlaw26.DhcpAcks': WHATEVER THE INPUT: true; the input reads as it did. -/
def dhcpAcksSpec : ChangeSpec := { name := "dhcpAcks", fn := fun _ => fun
  | [d] => { results := [.lit (.bool true)], args := [d] }
  | _ => none }
def dhcpAcksRow : OpenClaim := { program := "ytefkoichicalfaa", sum := "40c9a8372b6bf44b9b42a978f670f4a9dbddb1cfcfcb1d69cf31a5a963adbcb2", func := "vizard/vizardlaw26.DhcpAcks", spec := "dhcpAcks", inPlace := ["maps.clone"], unfollowed := true, recurses := true, apart := false }
def DhcpAcksSaid : Prop := dhcpAcksRow.holds Try.pinned (OpenSpec.ofChange dhcpAcksSpec)

/-- ITS FALSE NEIGHBOUR: 'it returns false'. Refute it at one input. -/
def dhcpAcksWrong : ChangeSpec := { name := "dhcpAcks", fn := fun _ => fun
  | [d] => { results := [.lit (.bool false)], args := [d] }
  | _ => none }
def DhcpAcksWrongFalsely : Prop := dhcpAcksRow.holds Try.pinned (OpenSpec.ofChange dhcpAcksWrong)

/-- 'vizardlaw26.DhcpFull': WHATEVER THE INPUT: true; the input reads as it did. -/
def dhcpFullSpec : ChangeSpec := { name := "dhcpFull", fn := fun _ => fun
  | [d1, d2, d3] => { results := [.lit (.bool true)], args := [d1, d2, d3] }
  | _ => none }
def dhcpFullRow : OpenClaim := { program := "ytefkoichicalfaa", sum := "40c9a8372b6bf44b9b42a978f670f4a9dbddb1cfcfcb1d69cf31a5a963adbcb2", func := "vizard/vizardlaw26.DhcpFull", spec := "dhcpFull", inPlace := ["maps.clone"], unfollowed := true, recurses := true, apart := false }
def DhcpFullSaid : Prop := dhcpFullRow.holds Try.pinned (OpenSpec.ofChange dhcpFullSpec)

/-- ITS FALSE NEIGHBOUR: 'it returns false'. Refute it at one input. -/
def dhcpFullWrong : ChangeSpec := { name := "dhcpFull", fn := fun _ => fun
  | [d1, d2, d3] => { results := [.lit (.bool false)], args := [d1, d2, d3] }
  | _ => none }
def DhcpFullWrongFalsely : Prop := dhcpFullRow.holds Try.pinned (OpenSpec.ofChange dhcpFullWrong)

/-- 'vizardlaw26.DhcpTwice': WHATEVER THE INPUT: true; the input reads as it did. -/
def dhcpTwiceSpec : ChangeSpec := { name := "dhcpTwice", fn := fun _ => fun
  | [d1, d2, d3, d4, d5] => { results := [.lit (.bool true)], args := [d1, d2, d3, d4, d5] }
  | _ => none }
def dhcpTwiceRow : OpenClaim := { program := "ytefkoichicalfaa", sum := "40c9a8372b6bf44b9b42a978f670f4a9dbddb1cfcfcb1d69cf31a5a963adbcb2", func := "vizard/vizardlaw26.DhcpTwice", spec := "dhcpTwice", inPlace := ["maps.clone"], unfollowed := true, recurses := true, apart := false }
def DhcpTwiceSaid : Prop := dhcpTwiceRow.holds Try.pinned (OpenSpec.ofChange dhcpTwiceSpec)

/-- ITS FALSE NEIGHBOUR: 'it returns false'. Refute it at one input. -/
def dhcpTwiceWrong : ChangeSpec := { name := "dhcpTwice", fn := fun _ => fun
  | [d1, d2, d3, d4, d5] => { results := [.lit (.bool false)], args := [d1, d2, d3, d4, d5] }
  | _ => none }
def DhcpTwiceWrongFalsely : Prop := dhcpTwiceRow.holds Try.pinned (OpenSpec.ofChange dhcpTwiceWrong)

/- THE SECOND FORM. 'bulk': how many values and letters a reading holds, each counted each time it is reached (what is shared counts as often as it is met; a slice's spare places count too). A statement '..UptoSaid' is the law's where the arguments, and the package variables that the reading takes, are together of bulk at most 1048576: NARROWER than '..Said'. Prove '..Said' where nothing that the law and all that it calls make is longer than what came in: it says more and counts as full. Else prove '..UptoSaid'. A law counts once. -/
mutual
def uptoBulk {H : Type} : DataW H → Nat
  | .lit (.string bytes) => bytes.length + 1
  | .lit _ => 1
  | .nil => 1
  | .ptr d => uptoBulk d + 1
  | .slice elems spare => uptoBulkAll elems + uptoBulkAll spare + 1
  | .agg parts => uptoBulkAll parts + 1
  | .iface _ d => uptoBulk d + 1
  | .map entries => uptoBulkEntries entries + 1
  | .held _ => 1
def uptoBulkAll {H : Type} : List (DataW H) → Nat
  | [] => 0
  | d :: r => uptoBulk d + uptoBulkAll r
def uptoBulkEntries {H : Type} : List (Lit × DataW H) → Nat
  | [] => 0
  | x :: r => uptoBulkEntry x + uptoBulkEntries r
def uptoBulkEntry {H : Type} : Lit × DataW H → Nat
  | (.string bytes, d) => bytes.length + uptoBulk d + 1
  | (_, d) => uptoBulk d + 1
 end
def uptoSmall : (H : Type) → List (DataW H) → Bool := fun _ ds => decide (uptoBulkAll ds ≤ 1048576)
def OpenSpec.upto (s : _root_.Go.ChangeSpec) : _root_.Go.OpenSpec := { _root_.Go.OpenSpec.ofChange s with cond := some uptoSmall }

/-- 'vizardlaw26.DhcpOthers', WHERE WHAT IT READS IS OF BULK AT MOST 1048576: true; the input reads as it did. -/
def dhcpOthersUptoRow : OpenClaim := { program := "ytefkoichicalfaa", sum := "40c9a8372b6bf44b9b42a978f670f4a9dbddb1cfcfcb1d69cf31a5a963adbcb2", func := "vizard/vizardlaw26.DhcpOthers", spec := "dhcpOthers", inPlace := ["maps.clone"], unfollowed := true, recurses := true, apart := false, narrowed := true }
def DhcpOthersUptoSaid : Prop := dhcpOthersUptoRow.holds Try.pinned (OpenSpec.upto dhcpOthersSpec)

/-- 'vizardlaw26.DhcpAcks', WHERE WHAT IT READS IS OF BULK AT MOST 1048576: true; the input reads as it did. -/
def dhcpAcksUptoRow : OpenClaim := { program := "ytefkoichicalfaa", sum := "40c9a8372b6bf44b9b42a978f670f4a9dbddb1cfcfcb1d69cf31a5a963adbcb2", func := "vizard/vizardlaw26.DhcpAcks", spec := "dhcpAcks", inPlace := ["maps.clone"], unfollowed := true, recurses := true, apart := false, narrowed := true }
def DhcpAcksUptoSaid : Prop := dhcpAcksUptoRow.holds Try.pinned (OpenSpec.upto dhcpAcksSpec)

/-- 'vizardlaw26.DhcpFull', WHERE WHAT IT READS IS OF BULK AT MOST 1048576: true; the input reads as it did. -/
def dhcpFullUptoRow : OpenClaim := { program := "ytefkoichicalfaa", sum := "40c9a8372b6bf44b9b42a978f670f4a9dbddb1cfcfcb1d69cf31a5a963adbcb2", func := "vizard/vizardlaw26.DhcpFull", spec := "dhcpFull", inPlace := ["maps.clone"], unfollowed := true, recurses := true, apart := false, narrowed := true }
def DhcpFullUptoSaid : Prop := dhcpFullUptoRow.holds Try.pinned (OpenSpec.upto dhcpFullSpec)

/-- 'vizardlaw26.DhcpTwice', WHERE WHAT IT READS IS OF BULK AT MOST 1048576: true; the input reads as it did. -/
def dhcpTwiceUptoRow : OpenClaim := { program := "ytefkoichicalfaa", sum := "40c9a8372b6bf44b9b42a978f670f4a9dbddb1cfcfcb1d69cf31a5a963adbcb2", func := "vizard/vizardlaw26.DhcpTwice", spec := "dhcpTwice", inPlace := ["maps.clone"], unfollowed := true, recurses := true, apart := false, narrowed := true }
def DhcpTwiceUptoSaid : Prop := dhcpTwiceUptoRow.holds Try.pinned (OpenSpec.upto dhcpTwiceSpec)

end Rows
end Go.Proofs.Ytefkoichicalfaa
