/-
  The walk of RationalText.
-/
import Derived.Test.YtpplleoiehnlkaaL4
import Derived.Test.YtpplleoiehnlkaaLKit
namespace Go.Proofs.Ytpplleoiehnlkaa.rationalText
open Go Go.ChangeShapes Go.WideShapes Go.ChangeAt Go.RowKit B Nt Gx
set_option linter.unusedVariables false

theorem walk (a0 : Bool) (a1 : Option Addr) (len1 cap1 : Nat) (z1 : List Int) (a2 : Option Addr) (len2 cap2 : Nat) (z2 : List Int) (a3 : ByteArray) (w : World) (w1 : IsRow .u32 w a1 len1 cap1 z1) (w2 : IsRow .u32 w a2 len2 cap2 z2) (w3 : a3.size ≤ maxLen) :
    Calls Try.prog 4 #[.bool a0, .slice a1 len1 cap1, .slice a2 len2 cap2, .string a3] w fun e w' => e = .returned (.bool true) ∧ Below w.heap.size w w' :=
  law_walk lText_ok (a0, z1.take len1, z2.take len2, a3.data.toList, ()) trivial rfl ⟨_, _, rfl, m_bool_of, _, _, rfl, row_in w1, _, _, rfl, row_in w2, _, _, rfl, str_in w3, rfl⟩
end Go.Proofs.Ytpplleoiehnlkaa.rationalText
