/-
  The walk of RelationChecks.
-/
import Derived.Test.YtnbeehcdnbanfaaGreatRK
import Derived.Test.YtnbeehcdnbanfaaGreatLKit
namespace Go.Proofs.YtnbeehcdnbanfaaGreat.relationChecks
open Go Go.ChangeShapes Go.WideShapes Go.ChangeAt Go.RowKit B Nt Gx
set_option linter.unusedVariables false
theorem walk (a0 : Option Addr) (len0 cap0 : Nat) (z0 : List Int) (a1 : Int) (a2 : Bool) (w : World) (w0 : IsRow .i64 w a0 len0 cap0 z0) (w1 : (Lit.int .u8 a1).wf = true) :
    Calls Tryz.prog 3 #[.slice a0 len0 cap0, .int .u8 a1, .bool a2] w fun e w' => e = .returned (.bool true) ∧ Below w.heap.size w w' :=
 law_walk lCh_ok (z0.take len0, a1, a2, ()) trivial rfl ⟨_, _, rfl, row_in w0, _, _, rfl, int_in w1, _, _, rfl, m_bool_of, rfl⟩
end Go.Proofs.YtnbeehcdnbanfaaGreat.relationChecks
