/-
  The walk of CodecReads.
-/
import Derived.Test.YtadoinponngdiaaCD
namespace Go.Proofs.Ytadoinponngdiaa.codecReads
open Go Go.ChangeShapes Go.WideShapes Go.ChangeAt Go.RowKit B Nt Gx
set_option linter.unusedVariables false

theorem walk (a0 : Option Addr) (len0 cap0 : Nat) (z0 : List Int) (v1 : Value) (z1 : opT.slice.den) (w : World) (w0 : IsRow .u8 w a0 len0 cap0 z0) (w1 : rep (.slice opT) (fun _ => False) w [v1] z1) :
    Calls Try.prog 4 #[.slice a0 len0 cap0, v1] w fun e w' => e = .returned (.bool true) ∧ Below w.heap.size w w' :=
  law_walk lRe_ok (z0.take len0, z1, ()) trivial rfl ⟨_, _, rfl, row_in w0, _, _, rfl, dat_of_rep rfl w1, rfl⟩
end Go.Proofs.Ytadoinponngdiaa.codecReads
