/-
  No cell of these rows narrows 'for every input' (looked for: loops, veiled, ifaces, maps, wideKeys, modest, calm, conditions, laid).
  DERIVED. THE GIVEN ROWS OF THIS SEAT. 4 by the template 'for every input the law returns true; each argument reads behind the call as it read before'; 0 by the template 'total and deterministic' (their statements: YtafdcljkcgegiaaTotals.lean).
  GIVEN WITH THE SEED: the statements are not yours to turn. If you find one false, say at which input.
  Laid BY PROGRAM, IN A SANDBOX (cutbox-rows.mjs): the forced cells as the released guide's own fill.sh prints them over the translation 618224812e193061… (all of the seat's roots in one cut). By AI agents, Wed Nov 11 2026. No macro, syntax, notation, axiom, sorry.
-/
import Derived.Test.YtafdcljkcgegiaaChecked
import GoSem.Claim
import GoSem.ClaimJoined
import GoSem.ClaimMapViews
import Derived.JoinedTies
import Derived.KernelRfl
namespace Go.Proofs.Ytafdcljkcgegiaa
/- THE CELL 'sum', in the pinned program and in every row, IS THE sha256 OF THE DUMP (.gsa) THAT YtafdcljkcgegiaaProg.lean LOADS. Nothing in Lean hashes anything: it is a label: what it is worth is what the hold of that sum in a sandbox is worth. -/
noncomputable def Try.pinned : Pinned := { name := "ytafdcljkcgegiaa", sum := "618224812e193061fe4aebadb6caea4f22e03af200096701855d4349a537b632", checked := Try.checked }
namespace Rows
def none {H : Type} : Left H := { results := [], args := [] }

/-- 'vizardlaw25.LeaseCalls': WHATEVER THE INPUT: true; the input reads as it did. -/
def leaseCallsSpec : ChangeSpec := { name := "leaseCalls", fn := fun _ => fun
  | [d1, d2, d3, d4, d5] => { results := [.lit (.bool true)], args := [d1, d2, d3, d4, d5] }
  | _ => none }
def leaseCallsRow : OpenClaim := { program := "ytafdcljkcgegiaa", sum := "618224812e193061fe4aebadb6caea4f22e03af200096701855d4349a537b632", func := "vizard/vizardlaw25.LeaseCalls", spec := "leaseCalls", inPlace := ["maps.clone"], unfollowed := true, recurses := true, apart := false }
def LeaseCallsSaid : Prop := leaseCallsRow.holds Try.pinned (OpenSpec.ofChange leaseCallsSpec)

/-- ITS FALSE NEIGHBOUR: 'it returns false'. Refute it at one input. -/
def leaseCallsWrong : ChangeSpec := { name := "leaseCalls", fn := fun _ => fun
  | [d1, d2, d3, d4, d5] => { results := [.lit (.bool false)], args := [d1, d2, d3, d4, d5] }
  | _ => none }
def LeaseCallsWrongFalsely : Prop := leaseCallsRow.holds Try.pinned (OpenSpec.ofChange leaseCallsWrong)

/-- 'vizardlaw25.LeaseApart': WHATEVER THE INPUT: true; the input reads as it did. -/
def leaseApartSpec : ChangeSpec := { name := "leaseApart", fn := fun _ => fun
  | [d1, d2, d3, d4] => { results := [.lit (.bool true)], args := [d1, d2, d3, d4] }
  | _ => none }
def leaseApartRow : OpenClaim := { program := "ytafdcljkcgegiaa", sum := "618224812e193061fe4aebadb6caea4f22e03af200096701855d4349a537b632", func := "vizard/vizardlaw25.LeaseApart", spec := "leaseApart", inPlace := ["maps.clone"], unfollowed := true, recurses := true, apart := false }
def LeaseApartSaid : Prop := leaseApartRow.holds Try.pinned (OpenSpec.ofChange leaseApartSpec)

/-- ITS FALSE NEIGHBOUR: 'it returns false'. Refute it at one input. -/
def leaseApartWrong : ChangeSpec := { name := "leaseApart", fn := fun _ => fun
  | [d1, d2, d3, d4] => { results := [.lit (.bool false)], args := [d1, d2, d3, d4] }
  | _ => none }
def LeaseApartWrongFalsely : Prop := leaseApartRow.holds Try.pinned (OpenSpec.ofChange leaseApartWrong)

/-- 'vizardlaw25.LeaseStays': WHATEVER THE INPUT: true; the input reads as it did. -/
def leaseStaysSpec : ChangeSpec := { name := "leaseStays", fn := fun _ => fun
  | [d1, d2, d3, d4, d5, d6, d7, d8] => { results := [.lit (.bool true)], args := [d1, d2, d3, d4, d5, d6, d7, d8] }
  | _ => none }
def leaseStaysRow : OpenClaim := { program := "ytafdcljkcgegiaa", sum := "618224812e193061fe4aebadb6caea4f22e03af200096701855d4349a537b632", func := "vizard/vizardlaw25.LeaseStays", spec := "leaseStays", inPlace := ["maps.clone"], unfollowed := true, recurses := true, apart := false }
def LeaseStaysSaid : Prop := leaseStaysRow.holds Try.pinned (OpenSpec.ofChange leaseStaysSpec)

/-- ITS FALSE NEIGHBOUR: 'it returns false'. Refute it at one input. -/
def leaseStaysWrong : ChangeSpec := { name := "leaseStays", fn := fun _ => fun
  | [d1, d2, d3, d4, d5, d6, d7, d8] => { results := [.lit (.bool false)], args := [d1, d2, d3, d4, d5, d6, d7, d8] }
  | _ => none }
def LeaseStaysWrongFalsely : Prop := leaseStaysRow.holds Try.pinned (OpenSpec.ofChange leaseStaysWrong)

/-- 'vizardlaw25.LeaseFull': WHATEVER THE INPUT: true; the input reads as it did. -/
def leaseFullSpec : ChangeSpec := { name := "leaseFull", fn := fun _ => fun
  | [d1, d2, d3, d4, d5] => { results := [.lit (.bool true)], args := [d1, d2, d3, d4, d5] }
  | _ => none }
def leaseFullRow : OpenClaim := { program := "ytafdcljkcgegiaa", sum := "618224812e193061fe4aebadb6caea4f22e03af200096701855d4349a537b632", func := "vizard/vizardlaw25.LeaseFull", spec := "leaseFull", inPlace := ["maps.clone"], unfollowed := true, recurses := true, apart := false }
def LeaseFullSaid : Prop := leaseFullRow.holds Try.pinned (OpenSpec.ofChange leaseFullSpec)

/-- ITS FALSE NEIGHBOUR: 'it returns false'. Refute it at one input. -/
def leaseFullWrong : ChangeSpec := { name := "leaseFull", fn := fun _ => fun
  | [d1, d2, d3, d4, d5] => { results := [.lit (.bool false)], args := [d1, d2, d3, d4, d5] }
  | _ => none }
def LeaseFullWrongFalsely : Prop := leaseFullRow.holds Try.pinned (OpenSpec.ofChange leaseFullWrong)

/- THE SECOND FORM. 'bulk': how many values and letters a reading holds, each counted each time it is reached (what is shared counts as often as it is met; a slice's spare places count too). A statement '..UptoSaid' is the law's where the arguments, and the package variables that the reading takes, are together of bulk at most 1048576: NARROWER than '..Said'. Prove '..Said' where nothing that the law and all that it calls make is longer than what came in: it says more and counts as full. Else prove '..UptoSaid'. A law counts once. -/
mutual
def uptoBulk {H : Type} : DataW H → Nat
  | .lit (.string bytes) => bytes.length + 1
  | .lit _ => 1
  | .nil => 1
  | .ptr d => uptoBulk d + 1
  | .slice elems spare => uptoBulkAll elems + uptoBulkAll spare + 1
  | .agg parts => uptoBulkAll parts + 1
  | .iface _ d => uptoBulk d + 1
  | .map entries => uptoBulkEntries entries + 1
  | .held _ => 1
def uptoBulkAll {H : Type} : List (DataW H) → Nat
  | [] => 0
  | d :: r => uptoBulk d + uptoBulkAll r
def uptoBulkEntries {H : Type} : List (Lit × DataW H) → Nat
  | [] => 0
  | x :: r => uptoBulkEntry x + uptoBulkEntries r
def uptoBulkEntry {H : Type} : Lit × DataW H → Nat
  | (.string bytes, d) => bytes.length + uptoBulk d + 1
  | (_, d) => uptoBulk d + 1
 end
def uptoSmall : (H : Type) → List (DataW H) → Bool := fun _ ds => decide (uptoBulkAll ds ≤ 1048576)
def OpenSpec.upto (s : _root_.Go.ChangeSpec) : _root_.Go.OpenSpec := { _root_.Go.OpenSpec.ofChange s with cond := some uptoSmall }

/-- 'vizardlaw25.LeaseCalls', WHERE WHAT IT READS IS OF BULK AT MOST 1048576: true; the input reads as it did. -/
def leaseCallsUptoRow : OpenClaim := { program := "ytafdcljkcgegiaa", sum := "618224812e193061fe4aebadb6caea4f22e03af200096701855d4349a537b632", func := "vizard/vizardlaw25.LeaseCalls", spec := "leaseCalls", inPlace := ["maps.clone"], unfollowed := true, recurses := true, apart := false, narrowed := true }
def LeaseCallsUptoSaid : Prop := leaseCallsUptoRow.holds Try.pinned (OpenSpec.upto leaseCallsSpec)

/-- 'vizardlaw25.LeaseApart', WHERE WHAT IT READS IS OF BULK AT MOST 1048576: true; the input reads as it did. -/
def leaseApartUptoRow : OpenClaim := { program := "ytafdcljkcgegiaa", sum := "618224812e193061fe4aebadb6caea4f22e03af200096701855d4349a537b632", func := "vizard/vizardlaw25.LeaseApart", spec := "leaseApart", inPlace := ["maps.clone"], unfollowed := true, recurses := true, apart := false, narrowed := true }
def LeaseApartUptoSaid : Prop := leaseApartUptoRow.holds Try.pinned (OpenSpec.upto leaseApartSpec)

/-- 'vizardlaw25.LeaseStays', WHERE WHAT IT READS IS OF BULK AT MOST 1048576: true; the input reads as it did. -/
def leaseStaysUptoRow : OpenClaim := { program := "ytafdcljkcgegiaa", sum := "618224812e193061fe4aebadb6caea4f22e03af200096701855d4349a537b632", func := "vizard/vizardlaw25.LeaseStays", spec := "leaseStays", inPlace := ["maps.clone"], unfollowed := true, recurses := true, apart := false, narrowed := true }
def LeaseStaysUptoSaid : Prop := leaseStaysUptoRow.holds Try.pinned (OpenSpec.upto leaseStaysSpec)

/-- 'vizardlaw25.LeaseFull', WHERE WHAT IT READS IS OF BULK AT MOST 1048576: true; the input reads as it did. -/
def leaseFullUptoRow : OpenClaim := { program := "ytafdcljkcgegiaa", sum := "618224812e193061fe4aebadb6caea4f22e03af200096701855d4349a537b632", func := "vizard/vizardlaw25.LeaseFull", spec := "leaseFull", inPlace := ["maps.clone"], unfollowed := true, recurses := true, apart := false, narrowed := true }
def LeaseFullUptoSaid : Prop := leaseFullUptoRow.holds Try.pinned (OpenSpec.upto leaseFullSpec)

end Rows
end Go.Proofs.Ytafdcljkcgegiaa
