/-
  The walk of HierarchySeparates.
-/
import Derived.Test.YtdobkkhncfifeabGreatMSc
import Derived.Test.YtdobkkhncfifeabGreatLKit
namespace Go.Proofs.YtdobkkhncfifeabGreat.hierarchySeparates
open Go Go.ChangeShapes Go.WideShapes Go.ChangeAt Go.RowKit B Nt Gx
set_option linter.unusedVariables false
theorem walk (a0:Option Addr) (len0 cap0:Nat) (z0:List Int) (a1:Option Addr) (len1 cap1:Nat) (z1:List Int) (a2:Option Addr) (len2 cap2:Nat) (z2:List Int) (a3:Int) (w:World) (w0:IsRow .i64 w a0 len0 cap0 z0) (w1:IsRow .i64 w a1 len1 cap1 z1) (w2:IsRow .i64 w a2 len2 cap2 z2) (w3:(Lit.int .i64 a3).wf=true) :
    Calls Tryz.prog 3 #[.slice a0 len0 cap0,.slice a1 len1 cap1,.slice a2 len2 cap2,.int .i64 a3] w fun e w'=>e=.returned (.bool true)/\Below w.heap.size w w' :=
 law_walk lSe_ok (z0.take len0,z1.take len1,z2.take len2,a3,()) trivial rfl ⟨_,_,rfl,row_in w0,_,_,rfl,row_in w1,_,_,rfl,row_in w2,_,_,rfl,int_in w3,rfl⟩
end Go.Proofs.YtdobkkhncfifeabGreat.hierarchySeparates
