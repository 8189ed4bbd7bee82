/-
  A name for the evaluation's knowledge. Conditions: none.
-/
import Derived.Test.YtefkoichicalfaaWdFin

