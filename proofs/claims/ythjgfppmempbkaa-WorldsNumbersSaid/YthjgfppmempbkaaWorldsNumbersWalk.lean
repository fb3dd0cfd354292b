/-
  The walk of WorldsNumbers.
-/
import Derived.Test.YthjgfppmempbkaaW5
import Derived.Test.YthjgfppmempbkaaLKit
namespace Go.Proofs.Ythjgfppmempbkaa.worldsNumbers
open Go Go.ChangeShapes Go.WideShapes Go.ChangeAt Go.RowKit B Nt Gx
set_option linter.unusedVariables false

theorem walk (a0 : Option Addr) (len0 cap0 : Nat) (z0 : List Int) (a1 : Int) (a2 : Option Addr) (len2 cap2 : Nat) (z2 : List Int) (w : World) (w0 : IsRow .i64 w a0 len0 cap0 z0) (w1 : (Lit.int .u8 a1).wf = true) (w2 : IsRow .u32 w a2 len2 cap2 z2) :
    Calls Try.prog 3 #[.slice a0 len0 cap0, .int .u8 a1, .slice a2 len2 cap2] w fun e w' => e = .returned (.bool true) ∧ Below w.heap.size w w' :=
  law_walk lNu_ok (z0.take len0, a1, z2.take len2, ()) trivial rfl ⟨_, _, rfl, row_in w0, _, _, rfl, int_in w1, _, _, rfl, row_in w2, rfl⟩
end Go.Proofs.Ythjgfppmempbkaa.worldsNumbers
