/-
  No cell of these rows narrows 'for every input' (looked for: loops, veiled, ifaces, maps, wideKeys, modest, calm, conditions, laid).
  DERIVED. THE GIVEN ROWS OF THIS SEAT. 4 by the template 'for every input the law returns true; each argument reads behind the call as it read before'; 0 by the template 'total and deterministic' (their statements: YtbbkmdibmmcjnaaTotals.lean).
  GIVEN WITH THE SEED: the statements are not yours to turn. If you find one false, say at which input.
  Laid BY PROGRAM, IN A SANDBOX (cutbox-rows.mjs): the forced cells as the released guide's own fill.sh prints them over the translation e156e0debd1ed115… (all of the seat's roots in one cut). By AI agents, Wed Nov 11 2026. No macro, syntax, notation, axiom, sorry.
-/
import Derived.Test.YtbbkmdibmmcjnaaChecked
import GoSem.Claim
import GoSem.ClaimJoined
import GoSem.ClaimMapViews
import Derived.JoinedTies
import Derived.KernelRfl
namespace Go.Proofs.Ytbbkmdibmmcjnaa
/- THE CELL 'sum', in the pinned program and in every row, IS THE sha256 OF THE DUMP (.gsa) THAT YtbbkmdibmmcjnaaProg.lean LOADS. Nothing in Lean hashes anything: it is a label: what it is worth is what the hold of that sum in a sandbox is worth. -/
noncomputable def Try.pinned : Pinned := { name := "ytbbkmdibmmcjnaa", sum := "e156e0debd1ed11527b96f477983e3e1ca0f3f50b88bae0aaaadeb02a482afef", checked := Try.checked }
namespace Rows
def none {H : Type} : Left H := { results := [], args := [] }

/-- 'vizardlaw16.RouteWays': WHATEVER THE INPUT: true; the input reads as it did. -/
def routeWaysSpec : ChangeSpec := { name := "routeWays", fn := fun _ => fun
  | [d1, d2, d3, d4] => { results := [.lit (.bool true)], args := [d1, d2, d3, d4] }
  | _ => none }
def routeWaysRow : OpenClaim := { program := "ytbbkmdibmmcjnaa", sum := "e156e0debd1ed11527b96f477983e3e1ca0f3f50b88bae0aaaadeb02a482afef", func := "vizard/vizardlaw16.RouteWays", spec := "routeWays", apart := false }
def RouteWaysSaid : Prop := routeWaysRow.holds Try.pinned (OpenSpec.ofChange routeWaysSpec)

/-- ITS FALSE NEIGHBOUR: 'it returns false'. Refute it at one input. -/
def routeWaysWrong : ChangeSpec := { name := "routeWays", fn := fun _ => fun
  | [d1, d2, d3, d4] => { results := [.lit (.bool false)], args := [d1, d2, d3, d4] }
  | _ => none }
def RouteWaysWrongFalsely : Prop := routeWaysRow.holds Try.pinned (OpenSpec.ofChange routeWaysWrong)

/-- 'vizardlaw16.RouteApart': WHATEVER THE INPUT: true; the input reads as it did. -/
def routeApartSpec : ChangeSpec := { name := "routeApart", fn := fun _ => fun
  | [d1, d2, d3] => { results := [.lit (.bool true)], args := [d1, d2, d3] }
  | _ => none }
def routeApartRow : OpenClaim := { program := "ytbbkmdibmmcjnaa", sum := "e156e0debd1ed11527b96f477983e3e1ca0f3f50b88bae0aaaadeb02a482afef", func := "vizard/vizardlaw16.RouteApart", spec := "routeApart", apart := false }
def RouteApartSaid : Prop := routeApartRow.holds Try.pinned (OpenSpec.ofChange routeApartSpec)

/-- ITS FALSE NEIGHBOUR: 'it returns false'. Refute it at one input. -/
def routeApartWrong : ChangeSpec := { name := "routeApart", fn := fun _ => fun
  | [d1, d2, d3] => { results := [.lit (.bool false)], args := [d1, d2, d3] }
  | _ => none }
def RouteApartWrongFalsely : Prop := routeApartRow.holds Try.pinned (OpenSpec.ofChange routeApartWrong)

/-- 'vizardlaw16.RouteSides': WHATEVER THE INPUT: true; the input reads as it did. -/
def routeSidesSpec : ChangeSpec := { name := "routeSides", fn := fun _ => fun
  | [d1, d2, d3] => { results := [.lit (.bool true)], args := [d1, d2, d3] }
  | _ => none }
def routeSidesRow : OpenClaim := { program := "ytbbkmdibmmcjnaa", sum := "e156e0debd1ed11527b96f477983e3e1ca0f3f50b88bae0aaaadeb02a482afef", func := "vizard/vizardlaw16.RouteSides", spec := "routeSides", apart := false }
def RouteSidesSaid : Prop := routeSidesRow.holds Try.pinned (OpenSpec.ofChange routeSidesSpec)

/-- ITS FALSE NEIGHBOUR: 'it returns false'. Refute it at one input. -/
def routeSidesWrong : ChangeSpec := { name := "routeSides", fn := fun _ => fun
  | [d1, d2, d3] => { results := [.lit (.bool false)], args := [d1, d2, d3] }
  | _ => none }
def RouteSidesWrongFalsely : Prop := routeSidesRow.holds Try.pinned (OpenSpec.ofChange routeSidesWrong)

/-- 'vizardlaw16.RouteNext': WHATEVER THE INPUT: true; the input reads as it did. -/
def routeNextSpec : ChangeSpec := { name := "routeNext", fn := fun _ => fun
  | [d1, d2, d3, d4] => { results := [.lit (.bool true)], args := [d1, d2, d3, d4] }
  | _ => none }
def routeNextRow : OpenClaim := { program := "ytbbkmdibmmcjnaa", sum := "e156e0debd1ed11527b96f477983e3e1ca0f3f50b88bae0aaaadeb02a482afef", func := "vizard/vizardlaw16.RouteNext", spec := "routeNext", apart := false }
def RouteNextSaid : Prop := routeNextRow.holds Try.pinned (OpenSpec.ofChange routeNextSpec)

/-- ITS FALSE NEIGHBOUR: 'it returns false'. Refute it at one input. -/
def routeNextWrong : ChangeSpec := { name := "routeNext", fn := fun _ => fun
  | [d1, d2, d3, d4] => { results := [.lit (.bool false)], args := [d1, d2, d3, d4] }
  | _ => none }
def RouteNextWrongFalsely : Prop := routeNextRow.holds Try.pinned (OpenSpec.ofChange routeNextWrong)

/- THE SECOND FORM. 'bulk': how many values and letters a reading holds, each counted each time it is reached (what is shared counts as often as it is met; a slice's spare places count too). A statement '..UptoSaid' is the law's where the arguments, and the package variables that the reading takes, are together of bulk at most 1048576: NARROWER than '..Said'. Prove '..Said' where nothing that the law and all that it calls make is longer than what came in: it says more and counts as full. Else prove '..UptoSaid'. A law counts once. -/
mutual
def uptoBulk {H : Type} : DataW H → Nat
  | .lit (.string bytes) => bytes.length + 1
  | .lit _ => 1
  | .nil => 1
  | .ptr d => uptoBulk d + 1
  | .slice elems spare => uptoBulkAll elems + uptoBulkAll spare + 1
  | .agg parts => uptoBulkAll parts + 1
  | .iface _ d => uptoBulk d + 1
  | .map entries => uptoBulkEntries entries + 1
  | .held _ => 1
def uptoBulkAll {H : Type} : List (DataW H) → Nat
  | [] => 0
  | d :: r => uptoBulk d + uptoBulkAll r
def uptoBulkEntries {H : Type} : List (Lit × DataW H) → Nat
  | [] => 0
  | x :: r => uptoBulkEntry x + uptoBulkEntries r
def uptoBulkEntry {H : Type} : Lit × DataW H → Nat
  | (.string bytes, d) => bytes.length + uptoBulk d + 1
  | (_, d) => uptoBulk d + 1
 end
def uptoSmall : (H : Type) → List (DataW H) → Bool := fun _ ds => decide (uptoBulkAll ds ≤ 1048576)
def OpenSpec.upto (s : _root_.Go.ChangeSpec) : _root_.Go.OpenSpec := { _root_.Go.OpenSpec.ofChange s with cond := some uptoSmall }

/-- 'vizardlaw16.RouteWays', WHERE WHAT IT READS IS OF BULK AT MOST 1048576: true; the input reads as it did. -/
def routeWaysUptoRow : OpenClaim := { program := "ytbbkmdibmmcjnaa", sum := "e156e0debd1ed11527b96f477983e3e1ca0f3f50b88bae0aaaadeb02a482afef", func := "vizard/vizardlaw16.RouteWays", spec := "routeWays", apart := false, narrowed := true }
def RouteWaysUptoSaid : Prop := routeWaysUptoRow.holds Try.pinned (OpenSpec.upto routeWaysSpec)

/-- 'vizardlaw16.RouteApart', WHERE WHAT IT READS IS OF BULK AT MOST 1048576: true; the input reads as it did. -/
def routeApartUptoRow : OpenClaim := { program := "ytbbkmdibmmcjnaa", sum := "e156e0debd1ed11527b96f477983e3e1ca0f3f50b88bae0aaaadeb02a482afef", func := "vizard/vizardlaw16.RouteApart", spec := "routeApart", apart := false, narrowed := true }
def RouteApartUptoSaid : Prop := routeApartUptoRow.holds Try.pinned (OpenSpec.upto routeApartSpec)

/-- 'vizardlaw16.RouteSides', WHERE WHAT IT READS IS OF BULK AT MOST 1048576: true; the input reads as it did. -/
def routeSidesUptoRow : OpenClaim := { program := "ytbbkmdibmmcjnaa", sum := "e156e0debd1ed11527b96f477983e3e1ca0f3f50b88bae0aaaadeb02a482afef", func := "vizard/vizardlaw16.RouteSides", spec := "routeSides", apart := false, narrowed := true }
def RouteSidesUptoSaid : Prop := routeSidesUptoRow.holds Try.pinned (OpenSpec.upto routeSidesSpec)

/-- 'vizardlaw16.RouteNext', WHERE WHAT IT READS IS OF BULK AT MOST 1048576: true; the input reads as it did. -/
def routeNextUptoRow : OpenClaim := { program := "ytbbkmdibmmcjnaa", sum := "e156e0debd1ed11527b96f477983e3e1ca0f3f50b88bae0aaaadeb02a482afef", func := "vizard/vizardlaw16.RouteNext", spec := "routeNext", apart := false, narrowed := true }
def RouteNextUptoSaid : Prop := routeNextUptoRow.holds Try.pinned (OpenSpec.upto routeNextSpec)

end Rows
end Go.Proofs.Ytbbkmdibmmcjnaa
