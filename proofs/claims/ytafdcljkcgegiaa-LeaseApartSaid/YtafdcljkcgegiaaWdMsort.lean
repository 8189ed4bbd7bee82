/-
  The keys of the loans in their order: slices.Sorted(maps.Keys(..)) by the kit's contracts. Conditions: the model's bounds.
-/
import Derived.Test.YtafdcljkcgegiaaWdMdel
import Derived.Test.YtafdcljkcgegiaaWdMclone
import Derived.Shelf.SlIter.Nil
import Derived.Shelf.SortM.Plain
import Derived.Shelf.SortM.SortNone
import Derived.Ground.GgzProg
import Derived.Ground.SlgmProg
set_option linter.unusedVariables false
set_option linter.unusedSimpArgs false
namespace Go.Proofs
open Go.RowKit Go.Maps Go.Sort Go.Shelf
shelf_lay_g SlLaysZ.n7 Ggz 7 at Try 45 as Try.keysL
shelf_lay_g SlLaysZ.n6 Ggz 6 at Try 44 as Try.sortedL
shelf_lay_g SlLaysM.n6 Slgm 6 at Try 53 as Try.sortL
theorem Try.sortsL (m : Nat) : AnyZ.SortsIn Try.prog Try.sortedL_ren Fence.wide m :=
  ⟨fun blk off cap ss W hH hblk hsz => callsIn_wide.2 (AnyM.slices_Sort_string Try.sortL blk off cap ss W hH hblk hsz),
   fun p cap W => callsIn_wide.2 (AnyM.slices_Sort_string_none Try.sortL p cap W)⟩
end Go.Proofs
