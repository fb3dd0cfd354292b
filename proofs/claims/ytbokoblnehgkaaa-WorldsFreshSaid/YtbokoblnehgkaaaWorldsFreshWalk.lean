/-
  The walk of WorldsFresh.
-/
import Derived.Test.YtbokoblnehgkaaaMFb
import Derived.Test.YtbokoblnehgkaaaLKit
namespace Go.Proofs.Ytbokoblnehgkaaa.worldsFresh
open Go Go.ChangeShapes Go.WideShapes Go.ChangeAt Go.RowKit B Nt Gx
set_option linter.unusedVariables false
theorem walk (a0:Option Addr) (len0 cap0:Nat) (z0:List Int) (a1:Option Addr) (len1 cap1:Nat) (z1:List Int) (w:World) (w0:IsRow .i64 w a0 len0 cap0 z0) (w1:IsRow .i64 w a1 len1 cap1 z1) :
    Calls Try.prog 3 #[.slice a0 len0 cap0,.slice a1 len1 cap1] w fun e w'=>e=.returned (.bool true)/\Below w.heap.size w w' :=
 law_walk lFr_ok (z0.take len0,z1.take len1,()) trivial rfl ⟨_,_,rfl,row_in w0,_,_,rfl,row_in w1,rfl⟩
end Go.Proofs.Ytbokoblnehgkaaa.worldsFresh
