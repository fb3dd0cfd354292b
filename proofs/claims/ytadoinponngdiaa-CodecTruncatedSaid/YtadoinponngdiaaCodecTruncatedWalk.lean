/-
  The walk of CodecTruncated.
-/
import Derived.Test.YtadoinponngdiaaCA
import Derived.Test.YtadoinponngdiaaLKit
namespace Go.Proofs.Ytadoinponngdiaa.codecTruncated
open Go Go.ChangeShapes Go.WideShapes Go.ChangeAt Go.RowKit B Nt Gx
set_option linter.unusedVariables false

theorem walk (a0 : Int) (a1 : Option Addr) (len1 cap1 : Nat) (z1 : List Int) (a2 : Option Addr) (len2 cap2 : Nat) (z2 : List Int) (a3 : Bool) (a4 : Option Addr) (len4 cap4 : Nat) (z4 : List Int) (a5 : Int) (w : World) (w0 : (Lit.int .u64 a0).wf = true) (w1 : IsRow .u8 w a1 len1 cap1 z1) (w2 : IsRow .u32 w a2 len2 cap2 z2) (w4 : IsRow .u32 w a4 len4 cap4 z4) (w5 : (Lit.int .i64 a5).wf = true) :
    Calls Try.prog 8 #[.int .u64 a0, .slice a1 len1 cap1, .slice a2 len2 cap2, .bool a3, .slice a4 len4 cap4, .int .i64 a5] w fun e w' => e = .returned (.bool true) ∧ Below w.heap.size w w' :=
  law_walk lTr_ok (a0, z1.take len1, z2.take len2, a3, z4.take len4, a5, ()) trivial rfl ⟨_, _, rfl, int_in w0, _, _, rfl, row_in w1, _, _, rfl, row_in w2, _, _, rfl, m_bool_of, _, _, rfl, row_in w4, _, _, rfl, int_in w5, rfl⟩
end Go.Proofs.Ytadoinponngdiaa.codecTruncated
