/-
  The walk of PolyArith.
-/
import Derived.Test.YtpneaknfnlnbcaaL11
import Derived.Test.YtpneaknfnlnbcaaLKit
namespace Go.Proofs.Ytpneaknfnlnbcaa.polyArith
open Go Go.ChangeShapes Go.WideShapes Go.ChangeAt Go.RowKit B Nt Gx
set_option linter.unusedVariables false

theorem walk (a0 : Option Addr) (len0 cap0 : Nat) (z0 : List Int) (a1 : Option Addr) (len1 cap1 : Nat) (z1 : List Int) (a2 : Int) (w : World) (w0 : IsRow .i64 w a0 len0 cap0 z0) (w1 : IsRow .i64 w a1 len1 cap1 z1) (w2 : (Lit.int .i64 a2).wf = true) :
    Calls Try.prog 8 #[.slice a0 len0 cap0, .slice a1 len1 cap1, .int .i64 a2] w fun e w' => e = .returned (.bool true) ∧ Below w.heap.size w w' :=
  law_walk lAr_ok (z0.take len0, z1.take len1, a2, ()) trivial rfl ⟨_, _, rfl, row_in w0, _, _, rfl, row_in w1, _, _, rfl, int_in w2, rfl⟩
end Go.Proofs.Ytpneaknfnlnbcaa.polyArith
