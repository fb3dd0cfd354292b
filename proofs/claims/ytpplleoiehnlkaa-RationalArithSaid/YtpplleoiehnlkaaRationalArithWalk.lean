/-
  The walk of RationalArith.
-/
import Derived.Test.YtpplleoiehnlkaaL2
import Derived.Test.YtpplleoiehnlkaaLKit
namespace Go.Proofs.Ytpplleoiehnlkaa.rationalArith
open Go Go.ChangeShapes Go.WideShapes Go.ChangeAt Go.RowKit B Nt Gx
set_option linter.unusedVariables false

theorem walk (a0 : Bool) (a1 : Option Addr) (len1 cap1 : Nat) (z1 : List Int) (a2 : Option Addr) (len2 cap2 : Nat) (z2 : List Int) (a3 : Bool) (a4 : Option Addr) (len4 cap4 : Nat) (z4 : List Int) (a5 : Option Addr) (len5 cap5 : Nat) (z5 : List Int) (w : World) (w1 : IsRow .u32 w a1 len1 cap1 z1) (w2 : IsRow .u32 w a2 len2 cap2 z2) (w4 : IsRow .u32 w a4 len4 cap4 z4) (w5 : IsRow .u32 w a5 len5 cap5 z5) :
    Calls Try.prog 10 #[.bool a0, .slice a1 len1 cap1, .slice a2 len2 cap2, .bool a3, .slice a4 len4 cap4, .slice a5 len5 cap5] w fun e w' => e = .returned (.bool true) ∧ Below w.heap.size w w' :=
  law_walk lArith_ok (a0, z1.take len1, z2.take len2, a3, z4.take len4, z5.take len5, ()) trivial rfl ⟨_, _, rfl, m_bool_of, _, _, rfl, row_in w1, _, _, rfl, row_in w2, _, _, rfl, m_bool_of, _, _, rfl, row_in w4, _, _, rfl, row_in w5, rfl⟩
end Go.Proofs.Ytpplleoiehnlkaa.rationalArith
