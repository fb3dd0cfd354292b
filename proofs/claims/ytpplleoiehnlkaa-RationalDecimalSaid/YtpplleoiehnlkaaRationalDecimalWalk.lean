/-
  The walk of RationalDecimal.
-/
import Derived.Test.YtpplleoiehnlkaaL5
import Derived.Test.YtpplleoiehnlkaaLKit
namespace Go.Proofs.Ytpplleoiehnlkaa.rationalDecimal
open Go Go.ChangeShapes Go.WideShapes Go.ChangeAt Go.RowKit B Nt Gx
set_option linter.unusedVariables false

theorem walk (a0 : Bool) (a1 : Int) (a2 : Int) (a3 : Int) (w1 : (Lit.int .u32 a1).wf = true) (w2 : (Lit.int .u32 a2).wf = true) (w3 : (Lit.int .u8 a3).wf = true) (w : World) :
    Calls Try.prog 5 #[.bool a0, .int .u32 a1, .int .u32 a2, .int .u8 a3] w fun e w' => e = .returned (.bool true) ∧ Below w.heap.size w w' :=
  law_walk lDec_ok (a0, a1, a2, a3, ()) trivial rfl ⟨_, _, rfl, m_bool_of, _, _, rfl, int_in w1, _, _, rfl, int_in w2, _, _, rfl, int_in w3, rfl⟩
end Go.Proofs.Ytpplleoiehnlkaa.rationalDecimal
