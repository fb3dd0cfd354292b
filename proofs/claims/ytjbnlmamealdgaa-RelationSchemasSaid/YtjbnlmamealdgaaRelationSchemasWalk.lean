/-
  The walk of RelationSchemas.
-/
import Derived.Test.YtjbnlmamealdgaaSR
import Derived.Test.YtjbnlmamealdgaaLKit
namespace Go.Proofs.Ytjbnlmamealdgaa.relationSchemas
open Go Go.ChangeShapes Go.WideShapes Go.ChangeAt Go.RowKit B Nt Gx
set_option linter.unusedVariables false
theorem walk (c0:Array Value) (z0:schT.den) (a1:ByteArray) (a2:Option Addr) (len2 cap2:Nat) (z2:List Int) (w:World) (w0:rep schT (fun _=>False) w c0.toList z0) (w1:a1.size<=maxLen) (w2:IsRow .i64 w a2 len2 cap2 z2) :
    Calls Try.prog 3 #[.agg c0,.string a1,.slice a2 len2 cap2] w fun e w'=>e=.returned (.bool true)/\Below w.heap.size w w' :=
 law_walk lSc_ok (z0,a1.data.toList,z2.take len2,()) trivial rfl ⟨_,_,rfl,⟨c0.toList,w0,rfl⟩,_,_,rfl,str_in w1,_,_,rfl,row_in w2,rfl⟩
end Go.Proofs.Ytjbnlmamealdgaa.relationSchemas
