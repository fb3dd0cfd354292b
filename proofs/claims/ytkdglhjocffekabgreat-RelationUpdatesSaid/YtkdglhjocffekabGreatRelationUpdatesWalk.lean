/-
  The walk of RelationUpdates.
-/
import Derived.Test.YtkdglhjocffekabGreatRR
namespace Go.Proofs.YtkdglhjocffekabGreat.relationUpdates
open Go Go.ChangeShapes Go.WideShapes Go.ChangeAt Go.RowKit B Nt Gx
set_option linter.unusedVariables false
theorem walk (v0:Value) (z0:opU.slice.den) (a1:Int) (w:World) (w0:rep (.slice opU) (fun _=>False) w [v0] z0) (w1:(Lit.int .u8 a1).wf=true) :
    Calls Tryz.prog 3 #[v0,.int .u8 a1] w fun e w'=>e=.returned (.bool true)/\Below w.heap.size w w' :=
 law_walk lUp_ok (z0,a1,()) trivial rfl ⟨_,_,rfl,dat_of_rep rfl w0,_,_,rfl,int_in w1,rfl⟩
end Go.Proofs.YtkdglhjocffekabGreat.relationUpdates
