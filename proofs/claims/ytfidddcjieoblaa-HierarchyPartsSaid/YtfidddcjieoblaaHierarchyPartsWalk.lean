/-
  The walk of HierarchyParts.
-/
import Derived.Test.YtfidddcjieoblaaHS
import Derived.Test.YtfidddcjieoblaaLKit
namespace Go.Proofs.Ytfidddcjieoblaa.hierarchyParts
open Go Go.ChangeShapes Go.WideShapes Go.ChangeAt Go.RowKit B Nt Gx
set_option linter.unusedVariables false

theorem walk (a0 : Option Addr) (len0 cap0 : Nat) (z0 : List Int) (w : World) (w0 : IsRow .i64 w a0 len0 cap0 z0) :
    Calls Try.prog 4 #[.slice a0 len0 cap0] w fun e w' => e = .returned (.bool true) ∧ Below w.heap.size w w' :=
  law_walk lPa_ok (z0.take len0, ()) trivial rfl ⟨_, _, rfl, row_in w0, rfl⟩
end Go.Proofs.Ytfidddcjieoblaa.hierarchyParts
