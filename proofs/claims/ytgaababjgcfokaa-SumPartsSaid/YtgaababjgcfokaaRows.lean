/-
  No cell of these rows narrows 'for every input' (looked for: loops, veiled, ifaces, maps, wideKeys, modest, calm, conditions, laid).
  DERIVED. THE GIVEN ROWS OF THIS SEAT. 10 by the template 'for every input the law returns true; each argument reads behind the call as it read before'; 0 by the template 'total and deterministic' (their statements: YtgaababjgcfokaaTotals.lean).
  GIVEN WITH THE SEED: the statements are not yours to turn. If you find one false, say at which input.
  Laid BY PROGRAM, IN A SANDBOX (cutbox-rows.mjs): the forced cells as the released guide's own fill.sh prints them over the translation 7c26542364076934… (all of the seat's roots in one cut). By AI agents, Wed Nov 11 2026. No macro, syntax, notation, axiom, sorry.
-/
import Derived.Test.YtgaababjgcfokaaChecked
import GoSem.Claim
import GoSem.ClaimJoined
import GoSem.ClaimMapViews
import Derived.JoinedTies
import Derived.KernelRfl
namespace Go.Proofs.Ytgaababjgcfokaa
/- THE CELL 'sum', in the pinned program and in every row, IS THE sha256 OF THE DUMP (.gsa) THAT YtgaababjgcfokaaProg.lean LOADS. Nothing in Lean hashes anything: it is a label: what it is worth is what the hold of that sum in a sandbox is worth. -/
noncomputable def Try.pinned : Pinned := { name := "ytgaababjgcfokaa", sum := "7c26542364076934bd1c8419c88f52cd8012268795164bf908bfe447cccfdc49", checked := Try.checked }
namespace Rows
def none {H : Type} : Left H := { results := [], args := [] }

/-- 'vizardlaw03.SumAnswers': WHATEVER THE INPUT: true; the input reads as it did. -/
def sumAnswersSpec : ChangeSpec := { name := "sumAnswers", fn := fun _ => fun
  | [d1, d2, d3, d4, d5, d6] => { results := [.lit (.bool true)], args := [d1, d2, d3, d4, d5, d6] }
  | _ => none }
def sumAnswersRow : OpenClaim := { program := "ytgaababjgcfokaa", sum := "7c26542364076934bd1c8419c88f52cd8012268795164bf908bfe447cccfdc49", func := "vizard/vizardlaw03.SumAnswers", spec := "sumAnswers", unfollowed := true, recurses := true, apart := false }
def SumAnswersSaid : Prop := sumAnswersRow.holds Try.pinned (OpenSpec.ofChange sumAnswersSpec)

/-- ITS FALSE NEIGHBOUR: 'it returns false'. Refute it at one input. -/
def sumAnswersWrong : ChangeSpec := { name := "sumAnswers", fn := fun _ => fun
  | [d1, d2, d3, d4, d5, d6] => { results := [.lit (.bool false)], args := [d1, d2, d3, d4, d5, d6] }
  | _ => none }
def SumAnswersWrongFalsely : Prop := sumAnswersRow.holds Try.pinned (OpenSpec.ofChange sumAnswersWrong)

/-- 'vizardlaw03.SumPatch': WHATEVER THE INPUT: true; the input reads as it did. -/
def sumPatchSpec : ChangeSpec := { name := "sumPatch", fn := fun _ => fun
  | [d1, d2, d3] => { results := [.lit (.bool true)], args := [d1, d2, d3] }
  | _ => none }
def sumPatchRow : OpenClaim := { program := "ytgaababjgcfokaa", sum := "7c26542364076934bd1c8419c88f52cd8012268795164bf908bfe447cccfdc49", func := "vizard/vizardlaw03.SumPatch", spec := "sumPatch", unfollowed := true, recurses := true, apart := false }
def SumPatchSaid : Prop := sumPatchRow.holds Try.pinned (OpenSpec.ofChange sumPatchSpec)

/-- ITS FALSE NEIGHBOUR: 'it returns false'. Refute it at one input. -/
def sumPatchWrong : ChangeSpec := { name := "sumPatch", fn := fun _ => fun
  | [d1, d2, d3] => { results := [.lit (.bool false)], args := [d1, d2, d3] }
  | _ => none }
def SumPatchWrongFalsely : Prop := sumPatchRow.holds Try.pinned (OpenSpec.ofChange sumPatchWrong)

/-- 'vizardlaw03.SumOwn': WHATEVER THE INPUT: true; the input reads as it did. -/
def sumOwnSpec : ChangeSpec := { name := "sumOwn", fn := fun _ => fun
  | [d1, d2, d3, d4] => { results := [.lit (.bool true)], args := [d1, d2, d3, d4] }
  | _ => none }
def sumOwnRow : OpenClaim := { program := "ytgaababjgcfokaa", sum := "7c26542364076934bd1c8419c88f52cd8012268795164bf908bfe447cccfdc49", func := "vizard/vizardlaw03.SumOwn", spec := "sumOwn", unfollowed := true, recurses := true, apart := false }
def SumOwnSaid : Prop := sumOwnRow.holds Try.pinned (OpenSpec.ofChange sumOwnSpec)

/-- ITS FALSE NEIGHBOUR: 'it returns false'. Refute it at one input. -/
def sumOwnWrong : ChangeSpec := { name := "sumOwn", fn := fun _ => fun
  | [d1, d2, d3, d4] => { results := [.lit (.bool false)], args := [d1, d2, d3, d4] }
  | _ => none }
def SumOwnWrongFalsely : Prop := sumOwnRow.holds Try.pinned (OpenSpec.ofChange sumOwnWrong)

/-- 'vizardlaw03.SumOrder': WHATEVER THE INPUT: true; the input reads as it did. -/
def sumOrderSpec : ChangeSpec := { name := "sumOrder", fn := fun _ => fun
  | [d1, d2] => { results := [.lit (.bool true)], args := [d1, d2] }
  | _ => none }
def sumOrderRow : OpenClaim := { program := "ytgaababjgcfokaa", sum := "7c26542364076934bd1c8419c88f52cd8012268795164bf908bfe447cccfdc49", func := "vizard/vizardlaw03.SumOrder", spec := "sumOrder", unfollowed := true, recurses := true, apart := false }
def SumOrderSaid : Prop := sumOrderRow.holds Try.pinned (OpenSpec.ofChange sumOrderSpec)

/-- ITS FALSE NEIGHBOUR: 'it returns false'. Refute it at one input. -/
def sumOrderWrong : ChangeSpec := { name := "sumOrder", fn := fun _ => fun
  | [d1, d2] => { results := [.lit (.bool false)], args := [d1, d2] }
  | _ => none }
def SumOrderWrongFalsely : Prop := sumOrderRow.holds Try.pinned (OpenSpec.ofChange sumOrderWrong)

/-- 'vizardlaw03.SumParts': WHATEVER THE INPUT: true; the input reads as it did. -/
def sumPartsSpec : ChangeSpec := { name := "sumParts", fn := fun _ => fun
  | [d1, d2, d3, d4] => { results := [.lit (.bool true)], args := [d1, d2, d3, d4] }
  | _ => none }
def sumPartsRow : OpenClaim := { program := "ytgaababjgcfokaa", sum := "7c26542364076934bd1c8419c88f52cd8012268795164bf908bfe447cccfdc49", func := "vizard/vizardlaw03.SumParts", spec := "sumParts", unfollowed := true, recurses := true, apart := false }
def SumPartsSaid : Prop := sumPartsRow.holds Try.pinned (OpenSpec.ofChange sumPartsSpec)

/-- ITS FALSE NEIGHBOUR: 'it returns false'. Refute it at one input. -/
def sumPartsWrong : ChangeSpec := { name := "sumParts", fn := fun _ => fun
  | [d1, d2, d3, d4] => { results := [.lit (.bool false)], args := [d1, d2, d3, d4] }
  | _ => none }
def SumPartsWrongFalsely : Prop := sumPartsRow.holds Try.pinned (OpenSpec.ofChange sumPartsWrong)

/-- 'vizardlaw01.WordReads': WHATEVER THE INPUT: true; the input reads as it did. -/
def wordReadsSpec : ChangeSpec := { name := "wordReads", fn := fun _ => fun
  | [d1, d2, d3, d4] => { results := [.lit (.bool true)], args := [d1, d2, d3, d4] }
  | _ => none }
def wordReadsRow : OpenClaim := { program := "ytgaababjgcfokaa", sum := "7c26542364076934bd1c8419c88f52cd8012268795164bf908bfe447cccfdc49", func := "vizard/vizardlaw01.WordReads", spec := "wordReads", apart := false }
def WordReadsSaid : Prop := wordReadsRow.holds Try.pinned (OpenSpec.ofChange wordReadsSpec)

/-- ITS FALSE NEIGHBOUR: 'it returns false'. Refute it at one input. -/
def wordReadsWrong : ChangeSpec := { name := "wordReads", fn := fun _ => fun
  | [d1, d2, d3, d4] => { results := [.lit (.bool false)], args := [d1, d2, d3, d4] }
  | _ => none }
def WordReadsWrongFalsely : Prop := wordReadsRow.holds Try.pinned (OpenSpec.ofChange wordReadsWrong)

/-- 'vizardlaw01.WordLays': WHATEVER THE INPUT: true; the input reads as it did. -/
def wordLaysSpec : ChangeSpec := { name := "wordLays", fn := fun _ => fun
  | [d1, d2, d3, d4, d5, d6] => { results := [.lit (.bool true)], args := [d1, d2, d3, d4, d5, d6] }
  | _ => none }
def wordLaysRow : OpenClaim := { program := "ytgaababjgcfokaa", sum := "7c26542364076934bd1c8419c88f52cd8012268795164bf908bfe447cccfdc49", func := "vizard/vizardlaw01.WordLays", spec := "wordLays", apart := false }
def WordLaysSaid : Prop := wordLaysRow.holds Try.pinned (OpenSpec.ofChange wordLaysSpec)

/-- ITS FALSE NEIGHBOUR: 'it returns false'. Refute it at one input. -/
def wordLaysWrong : ChangeSpec := { name := "wordLays", fn := fun _ => fun
  | [d1, d2, d3, d4, d5, d6] => { results := [.lit (.bool false)], args := [d1, d2, d3, d4, d5, d6] }
  | _ => none }
def WordLaysWrongFalsely : Prop := wordLaysRow.holds Try.pinned (OpenSpec.ofChange wordLaysWrong)

/-- 'vizardlaw01.WordBack': WHATEVER THE INPUT: true; the input reads as it did. -/
def wordBackSpec : ChangeSpec := { name := "wordBack", fn := fun _ => fun
  | [d1, d2, d3, d4] => { results := [.lit (.bool true)], args := [d1, d2, d3, d4] }
  | _ => none }
def wordBackRow : OpenClaim := { program := "ytgaababjgcfokaa", sum := "7c26542364076934bd1c8419c88f52cd8012268795164bf908bfe447cccfdc49", func := "vizard/vizardlaw01.WordBack", spec := "wordBack", apart := false }
def WordBackSaid : Prop := wordBackRow.holds Try.pinned (OpenSpec.ofChange wordBackSpec)

/-- ITS FALSE NEIGHBOUR: 'it returns false'. Refute it at one input. -/
def wordBackWrong : ChangeSpec := { name := "wordBack", fn := fun _ => fun
  | [d1, d2, d3, d4] => { results := [.lit (.bool false)], args := [d1, d2, d3, d4] }
  | _ => none }
def WordBackWrongFalsely : Prop := wordBackRow.holds Try.pinned (OpenSpec.ofChange wordBackWrong)

/-- 'vizardlaw01.WordRows': WHATEVER THE INPUT: true; the input reads as it did. -/
def wordRowsSpec : ChangeSpec := { name := "wordRows", fn := fun _ => fun
  | [d1, d2, d3] => { results := [.lit (.bool true)], args := [d1, d2, d3] }
  | _ => none }
def wordRowsRow : OpenClaim := { program := "ytgaababjgcfokaa", sum := "7c26542364076934bd1c8419c88f52cd8012268795164bf908bfe447cccfdc49", func := "vizard/vizardlaw01.WordRows", spec := "wordRows", apart := false }
def WordRowsSaid : Prop := wordRowsRow.holds Try.pinned (OpenSpec.ofChange wordRowsSpec)

/-- ITS FALSE NEIGHBOUR: 'it returns false'. Refute it at one input. -/
def wordRowsWrong : ChangeSpec := { name := "wordRows", fn := fun _ => fun
  | [d1, d2, d3] => { results := [.lit (.bool false)], args := [d1, d2, d3] }
  | _ => none }
def WordRowsWrongFalsely : Prop := wordRowsRow.holds Try.pinned (OpenSpec.ofChange wordRowsWrong)

/-- 'vizardlaw01.WordPatches': WHATEVER THE INPUT: true; the input reads as it did. -/
def wordPatchesSpec : ChangeSpec := { name := "wordPatches", fn := fun _ => fun
  | [d1, d2, d3, d4] => { results := [.lit (.bool true)], args := [d1, d2, d3, d4] }
  | _ => none }
def wordPatchesRow : OpenClaim := { program := "ytgaababjgcfokaa", sum := "7c26542364076934bd1c8419c88f52cd8012268795164bf908bfe447cccfdc49", func := "vizard/vizardlaw01.WordPatches", spec := "wordPatches", apart := false }
def WordPatchesSaid : Prop := wordPatchesRow.holds Try.pinned (OpenSpec.ofChange wordPatchesSpec)

/-- ITS FALSE NEIGHBOUR: 'it returns false'. Refute it at one input. -/
def wordPatchesWrong : ChangeSpec := { name := "wordPatches", fn := fun _ => fun
  | [d1, d2, d3, d4] => { results := [.lit (.bool false)], args := [d1, d2, d3, d4] }
  | _ => none }
def WordPatchesWrongFalsely : Prop := wordPatchesRow.holds Try.pinned (OpenSpec.ofChange wordPatchesWrong)

/- THE SECOND FORM. 'bulk': how many values and letters a reading holds, each counted each time it is reached (what is shared counts as often as it is met; a slice's spare places count too). A statement '..UptoSaid' is the law's where the arguments, and the package variables that the reading takes, are together of bulk at most 1048576: NARROWER than '..Said'. Prove '..Said' where nothing that the law and all that it calls make is longer than what came in: it says more and counts as full. Else prove '..UptoSaid'. A law counts once. -/
mutual
def uptoBulk {H : Type} : DataW H → Nat
  | .lit (.string bytes) => bytes.length + 1
  | .lit _ => 1
  | .nil => 1
  | .ptr d => uptoBulk d + 1
  | .slice elems spare => uptoBulkAll elems + uptoBulkAll spare + 1
  | .agg parts => uptoBulkAll parts + 1
  | .iface _ d => uptoBulk d + 1
  | .map entries => uptoBulkEntries entries + 1
  | .held _ => 1
def uptoBulkAll {H : Type} : List (DataW H) → Nat
  | [] => 0
  | d :: r => uptoBulk d + uptoBulkAll r
def uptoBulkEntries {H : Type} : List (Lit × DataW H) → Nat
  | [] => 0
  | x :: r => uptoBulkEntry x + uptoBulkEntries r
def uptoBulkEntry {H : Type} : Lit × DataW H → Nat
  | (.string bytes, d) => bytes.length + uptoBulk d + 1
  | (_, d) => uptoBulk d + 1
 end
def uptoSmall : (H : Type) → List (DataW H) → Bool := fun _ ds => decide (uptoBulkAll ds ≤ 1048576)
def OpenSpec.upto (s : _root_.Go.ChangeSpec) : _root_.Go.OpenSpec := { _root_.Go.OpenSpec.ofChange s with cond := some uptoSmall }

/-- 'vizardlaw03.SumAnswers', WHERE WHAT IT READS IS OF BULK AT MOST 1048576: true; the input reads as it did. -/
def sumAnswersUptoRow : OpenClaim := { program := "ytgaababjgcfokaa", sum := "7c26542364076934bd1c8419c88f52cd8012268795164bf908bfe447cccfdc49", func := "vizard/vizardlaw03.SumAnswers", spec := "sumAnswers", unfollowed := true, recurses := true, apart := false, narrowed := true }
def SumAnswersUptoSaid : Prop := sumAnswersUptoRow.holds Try.pinned (OpenSpec.upto sumAnswersSpec)

/-- 'vizardlaw03.SumPatch', WHERE WHAT IT READS IS OF BULK AT MOST 1048576: true; the input reads as it did. -/
def sumPatchUptoRow : OpenClaim := { program := "ytgaababjgcfokaa", sum := "7c26542364076934bd1c8419c88f52cd8012268795164bf908bfe447cccfdc49", func := "vizard/vizardlaw03.SumPatch", spec := "sumPatch", unfollowed := true, recurses := true, apart := false, narrowed := true }
def SumPatchUptoSaid : Prop := sumPatchUptoRow.holds Try.pinned (OpenSpec.upto sumPatchSpec)

/-- 'vizardlaw03.SumOwn', WHERE WHAT IT READS IS OF BULK AT MOST 1048576: true; the input reads as it did. -/
def sumOwnUptoRow : OpenClaim := { program := "ytgaababjgcfokaa", sum := "7c26542364076934bd1c8419c88f52cd8012268795164bf908bfe447cccfdc49", func := "vizard/vizardlaw03.SumOwn", spec := "sumOwn", unfollowed := true, recurses := true, apart := false, narrowed := true }
def SumOwnUptoSaid : Prop := sumOwnUptoRow.holds Try.pinned (OpenSpec.upto sumOwnSpec)

/-- 'vizardlaw03.SumOrder', WHERE WHAT IT READS IS OF BULK AT MOST 1048576: true; the input reads as it did. -/
def sumOrderUptoRow : OpenClaim := { program := "ytgaababjgcfokaa", sum := "7c26542364076934bd1c8419c88f52cd8012268795164bf908bfe447cccfdc49", func := "vizard/vizardlaw03.SumOrder", spec := "sumOrder", unfollowed := true, recurses := true, apart := false, narrowed := true }
def SumOrderUptoSaid : Prop := sumOrderUptoRow.holds Try.pinned (OpenSpec.upto sumOrderSpec)

/-- 'vizardlaw03.SumParts', WHERE WHAT IT READS IS OF BULK AT MOST 1048576: true; the input reads as it did. -/
def sumPartsUptoRow : OpenClaim := { program := "ytgaababjgcfokaa", sum := "7c26542364076934bd1c8419c88f52cd8012268795164bf908bfe447cccfdc49", func := "vizard/vizardlaw03.SumParts", spec := "sumParts", unfollowed := true, recurses := true, apart := false, narrowed := true }
def SumPartsUptoSaid : Prop := sumPartsUptoRow.holds Try.pinned (OpenSpec.upto sumPartsSpec)

/-- 'vizardlaw01.WordReads', WHERE WHAT IT READS IS OF BULK AT MOST 1048576: true; the input reads as it did. -/
def wordReadsUptoRow : OpenClaim := { program := "ytgaababjgcfokaa", sum := "7c26542364076934bd1c8419c88f52cd8012268795164bf908bfe447cccfdc49", func := "vizard/vizardlaw01.WordReads", spec := "wordReads", apart := false, narrowed := true }
def WordReadsUptoSaid : Prop := wordReadsUptoRow.holds Try.pinned (OpenSpec.upto wordReadsSpec)

/-- 'vizardlaw01.WordLays', WHERE WHAT IT READS IS OF BULK AT MOST 1048576: true; the input reads as it did. -/
def wordLaysUptoRow : OpenClaim := { program := "ytgaababjgcfokaa", sum := "7c26542364076934bd1c8419c88f52cd8012268795164bf908bfe447cccfdc49", func := "vizard/vizardlaw01.WordLays", spec := "wordLays", apart := false, narrowed := true }
def WordLaysUptoSaid : Prop := wordLaysUptoRow.holds Try.pinned (OpenSpec.upto wordLaysSpec)

/-- 'vizardlaw01.WordBack', WHERE WHAT IT READS IS OF BULK AT MOST 1048576: true; the input reads as it did. -/
def wordBackUptoRow : OpenClaim := { program := "ytgaababjgcfokaa", sum := "7c26542364076934bd1c8419c88f52cd8012268795164bf908bfe447cccfdc49", func := "vizard/vizardlaw01.WordBack", spec := "wordBack", apart := false, narrowed := true }
def WordBackUptoSaid : Prop := wordBackUptoRow.holds Try.pinned (OpenSpec.upto wordBackSpec)

/-- 'vizardlaw01.WordRows', WHERE WHAT IT READS IS OF BULK AT MOST 1048576: true; the input reads as it did. -/
def wordRowsUptoRow : OpenClaim := { program := "ytgaababjgcfokaa", sum := "7c26542364076934bd1c8419c88f52cd8012268795164bf908bfe447cccfdc49", func := "vizard/vizardlaw01.WordRows", spec := "wordRows", apart := false, narrowed := true }
def WordRowsUptoSaid : Prop := wordRowsUptoRow.holds Try.pinned (OpenSpec.upto wordRowsSpec)

/-- 'vizardlaw01.WordPatches', WHERE WHAT IT READS IS OF BULK AT MOST 1048576: true; the input reads as it did. -/
def wordPatchesUptoRow : OpenClaim := { program := "ytgaababjgcfokaa", sum := "7c26542364076934bd1c8419c88f52cd8012268795164bf908bfe447cccfdc49", func := "vizard/vizardlaw01.WordPatches", spec := "wordPatches", apart := false, narrowed := true }
def WordPatchesUptoSaid : Prop := wordPatchesUptoRow.holds Try.pinned (OpenSpec.upto wordPatchesSpec)

end Rows
end Go.Proofs.Ytgaababjgcfokaa
