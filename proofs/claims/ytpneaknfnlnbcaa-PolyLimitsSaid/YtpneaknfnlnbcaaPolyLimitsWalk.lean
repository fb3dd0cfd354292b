/-
  The walk of PolyLimits.
-/
import Derived.Test.YtpneaknfnlnbcaaL8
import Derived.Test.YtpneaknfnlnbcaaLKit
namespace Go.Proofs.Ytpneaknfnlnbcaa.polyLimits
open Go Go.ChangeShapes Go.WideShapes Go.ChangeAt Go.RowKit B Nt Gx
set_option linter.unusedVariables false

theorem walk  (w : World) :
    Calls Try.prog 6 #[] w fun e w' => e = .returned (.bool true) ∧ Below w.heap.size w w' :=
  law_walk lLim_ok (()) trivial rfl rfl
end Go.Proofs.Ytpneaknfnlnbcaa.polyLimits
