/-
  The walk of HierarchyShuffled.
-/
import Derived.Test.YtfidddcjieoblaaHV
import Derived.Test.YtfidddcjieoblaaLKit
namespace Go.Proofs.Ytfidddcjieoblaa.hierarchyShuffled
open Go Go.ChangeShapes Go.WideShapes Go.ChangeAt Go.RowKit B Nt Gx
set_option linter.unusedVariables false

theorem walk (a0 : Option Addr) (len0 cap0 : Nat) (z0 : List Int) (w : World) (w0 : IsRow .i64 w a0 len0 cap0 z0) :
    Calls Try.prog 6 #[.slice a0 len0 cap0] w fun e w' => e = .returned (.bool true) ∧ Below w.heap.size w w' :=
  law_walk lSh_ok (z0.take len0, ()) trivial rfl ⟨_, _, rfl, row_in w0, rfl⟩
end Go.Proofs.Ytfidddcjieoblaa.hierarchyShuffled
