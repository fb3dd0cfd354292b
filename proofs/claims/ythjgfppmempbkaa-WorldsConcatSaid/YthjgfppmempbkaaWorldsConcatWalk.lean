/-
  The walk of WorldsConcat.
-/
import Derived.Test.YthjgfppmempbkaaWA
import Derived.Test.YthjgfppmempbkaaLKit
namespace Go.Proofs.Ythjgfppmempbkaa.worldsConcat
open Go Go.ChangeShapes Go.WideShapes Go.ChangeAt Go.RowKit B Nt Gx
set_option linter.unusedVariables false

theorem walk (a0 : Option Addr) (len0 cap0 : Nat) (z0 : List Int) (a1 : Option Addr) (len1 cap1 : Nat) (z1 : List Int) (a2 : Option Addr) (len2 cap2 : Nat) (z2 : List Int) (a3 : Option Addr) (len3 cap3 : Nat) (z3 : List Int) (w : World) (w0 : IsRow .i64 w a0 len0 cap0 z0) (w1 : IsRow .i64 w a1 len1 cap1 z1) (w2 : IsRow .i64 w a2 len2 cap2 z2) (w3 : IsRow .i64 w a3 len3 cap3 z3) :
    Calls Try.prog 4 #[.slice a0 len0 cap0, .slice a1 len1 cap1, .slice a2 len2 cap2, .slice a3 len3 cap3] w fun e w' => e = .returned (.bool true) ∧ Below w.heap.size w w' :=
  law_walk lCo_ok (z0.take len0, z1.take len1, z2.take len2, z3.take len3, ()) trivial rfl ⟨_, _, rfl, row_in w0, _, _, rfl, row_in w1, _, _, rfl, row_in w2, _, _, rfl, row_in w3, rfl⟩
end Go.Proofs.Ythjgfppmempbkaa.worldsConcat
