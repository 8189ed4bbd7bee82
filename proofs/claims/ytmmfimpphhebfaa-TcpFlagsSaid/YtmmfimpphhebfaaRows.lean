/-
  No cell of these rows narrows 'for every input' (looked for: loops, veiled, ifaces, maps, wideKeys, modest, calm, conditions, laid).
  DERIVED. THE GIVEN ROWS OF THIS SEAT. 2 by the template 'for every input the law returns true; each argument reads behind the call as it read before'; 0 by the template 'total and deterministic' (their statements: YtmmfimpphhebfaaTotals.lean).
  GIVEN WITH THE SEED: the statements are not yours to turn. If you find one false, say at which input.
  Laid BY PROGRAM, IN A SANDBOX (cutbox-rows.mjs): the forced cells as the released guide's own fill.sh prints them over the translation f7bc36a71e1c49de… (all of the seat's roots in one cut). By AI agents, Wed Nov 11 2026. No macro, syntax, notation, axiom, sorry.
-/
import Derived.Test.YtmmfimpphhebfaaChecked
import GoSem.Claim
import GoSem.ClaimJoined
import GoSem.ClaimMapViews
import Derived.JoinedTies
import Derived.KernelRfl
namespace Go.Proofs.Ytmmfimpphhebfaa
/- THE CELL 'sum', in the pinned program and in every row, IS THE sha256 OF THE DUMP (.gsa) THAT YtmmfimpphhebfaaProg.lean LOADS. Nothing in Lean hashes anything: it is a label: what it is worth is what the hold of that sum in a sandbox is worth. -/
noncomputable def Try.pinned : Pinned := { name := "ytmmfimpphhebfaa", sum := "f7bc36a71e1c49de53726cdc0c9f5a66c82b19f5ff298df266876a7946842394", checked := Try.checked }
namespace Rows
def none {H : Type} : Left H := { results := [], args := [] }

/-- 'vizardlaw09.TcpSpoilt': WHATEVER THE INPUT: true; the input reads as it did. -/
def tcpSpoiltSpec : ChangeSpec := { name := "tcpSpoilt", fn := fun _ => fun
  | [d1, d2, d3, d4, d5] => { results := [.lit (.bool true)], args := [d1, d2, d3, d4, d5] }
  | _ => none }
def tcpSpoiltRow : OpenClaim := { program := "ytmmfimpphhebfaa", sum := "f7bc36a71e1c49de53726cdc0c9f5a66c82b19f5ff298df266876a7946842394", func := "vizard/vizardlaw09.TcpSpoilt", spec := "tcpSpoilt", inPlace := ["internal/reflectlite.TypeOf"], unfollowed := true, recurses := true, apart := false }
def TcpSpoiltSaid : Prop := tcpSpoiltRow.holds Try.pinned (OpenSpec.ofChange tcpSpoiltSpec)

/-- ITS FALSE NEIGHBOUR: 'it returns false'. Refute it at one input. -/
def tcpSpoiltWrong : ChangeSpec := { name := "tcpSpoilt", fn := fun _ => fun
  | [d1, d2, d3, d4, d5] => { results := [.lit (.bool false)], args := [d1, d2, d3, d4, d5] }
  | _ => none }
def TcpSpoiltWrongFalsely : Prop := tcpSpoiltRow.holds Try.pinned (OpenSpec.ofChange tcpSpoiltWrong)

/-- 'vizardlaw09.TcpFlags': WHATEVER THE INPUT: true; the input reads as it did. -/
def tcpFlagsSpec : ChangeSpec := { name := "tcpFlags", fn := fun _ => fun
  | [d1, d2, d3, d4, d5, d6] => { results := [.lit (.bool true)], args := [d1, d2, d3, d4, d5, d6] }
  | _ => none }
def tcpFlagsRow : OpenClaim := { program := "ytmmfimpphhebfaa", sum := "f7bc36a71e1c49de53726cdc0c9f5a66c82b19f5ff298df266876a7946842394", func := "vizard/vizardlaw09.TcpFlags", spec := "tcpFlags", inPlace := ["internal/reflectlite.TypeOf"], unfollowed := true, recurses := true, apart := false }
def TcpFlagsSaid : Prop := tcpFlagsRow.holds Try.pinned (OpenSpec.ofChange tcpFlagsSpec)

/-- ITS FALSE NEIGHBOUR: 'it returns false'. Refute it at one input. -/
def tcpFlagsWrong : ChangeSpec := { name := "tcpFlags", fn := fun _ => fun
  | [d1, d2, d3, d4, d5, d6] => { results := [.lit (.bool false)], args := [d1, d2, d3, d4, d5, d6] }
  | _ => none }
def TcpFlagsWrongFalsely : Prop := tcpFlagsRow.holds Try.pinned (OpenSpec.ofChange tcpFlagsWrong)

/- THE SECOND FORM. 'bulk': how many values and letters a reading holds, each counted each time it is reached (what is shared counts as often as it is met; a slice's spare places count too). A statement '..UptoSaid' is the law's where the arguments, and the package variables that the reading takes, are together of bulk at most 1048576: NARROWER than '..Said'. Prove '..Said' where nothing that the law and all that it calls make is longer than what came in: it says more and counts as full. Else prove '..UptoSaid'. A law counts once. -/
mutual
def uptoBulk {H : Type} : DataW H → Nat
  | .lit (.string bytes) => bytes.length + 1
  | .lit _ => 1
  | .nil => 1
  | .ptr d => uptoBulk d + 1
  | .slice elems spare => uptoBulkAll elems + uptoBulkAll spare + 1
  | .agg parts => uptoBulkAll parts + 1
  | .iface _ d => uptoBulk d + 1
  | .map entries => uptoBulkEntries entries + 1
  | .held _ => 1
def uptoBulkAll {H : Type} : List (DataW H) → Nat
  | [] => 0
  | d :: r => uptoBulk d + uptoBulkAll r
def uptoBulkEntries {H : Type} : List (Lit × DataW H) → Nat
  | [] => 0
  | x :: r => uptoBulkEntry x + uptoBulkEntries r
def uptoBulkEntry {H : Type} : Lit × DataW H → Nat
  | (.string bytes, d) => bytes.length + uptoBulk d + 1
  | (_, d) => uptoBulk d + 1
 end
def uptoSmall : (H : Type) → List (DataW H) → Bool := fun _ ds => decide (uptoBulkAll ds ≤ 1048576)
def OpenSpec.upto (s : _root_.Go.ChangeSpec) : _root_.Go.OpenSpec := { _root_.Go.OpenSpec.ofChange s with cond := some uptoSmall }

/-- 'vizardlaw09.TcpSpoilt', WHERE WHAT IT READS IS OF BULK AT MOST 1048576: true; the input reads as it did. -/
def tcpSpoiltUptoRow : OpenClaim := { program := "ytmmfimpphhebfaa", sum := "f7bc36a71e1c49de53726cdc0c9f5a66c82b19f5ff298df266876a7946842394", func := "vizard/vizardlaw09.TcpSpoilt", spec := "tcpSpoilt", inPlace := ["internal/reflectlite.TypeOf"], unfollowed := true, recurses := true, apart := false, narrowed := true }
def TcpSpoiltUptoSaid : Prop := tcpSpoiltUptoRow.holds Try.pinned (OpenSpec.upto tcpSpoiltSpec)

/-- 'vizardlaw09.TcpFlags', WHERE WHAT IT READS IS OF BULK AT MOST 1048576: true; the input reads as it did. -/
def tcpFlagsUptoRow : OpenClaim := { program := "ytmmfimpphhebfaa", sum := "f7bc36a71e1c49de53726cdc0c9f5a66c82b19f5ff298df266876a7946842394", func := "vizard/vizardlaw09.TcpFlags", spec := "tcpFlags", inPlace := ["internal/reflectlite.TypeOf"], unfollowed := true, recurses := true, apart := false, narrowed := true }
def TcpFlagsUptoSaid : Prop := tcpFlagsUptoRow.holds Try.pinned (OpenSpec.upto tcpFlagsSpec)

end Rows
end Go.Proofs.Ytmmfimpphhebfaa
