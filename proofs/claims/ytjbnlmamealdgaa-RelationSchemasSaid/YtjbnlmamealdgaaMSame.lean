/-
  Same, LawKit, Pow, in one text: see the remarks at the head of each part.
-/
import Derived.Test.YtjbnlmamealdgaaMText
namespace Go.Proofs.Ytjbnlmamealdgaa.Nt
open Go.ChangeShapes Go.WideShapes Go.ChangeAt Go.RowKit B
set_option linter.unusedVariables false
end Go.Proofs.Ytjbnlmamealdgaa.Nt
namespace Go.Proofs.Ytjbnlmamealdgaa.Nt
set_option linter.unusedVariables false
theorem IsNew.zero {base:Nat} {w:World} {v:Value} {n:Int} (h:IsNew base w v n) (e:n=0):∃ a cap,v=.slice a 0 cap:=by
 obtain ⟨l,h1,h2,h3,_⟩:=h
 have:l=[]:=h2.zero.1 (by rw [h3,e])
 subst this
 obtain ⟨a,cap,rfl,_⟩:=h1
 exact ⟨a,cap,rfl⟩
theorem bp_mul {x y:Int} {a b:Nat} (x0:0<=x) (hx:x<Bp a) (y0:0<=y) (hy:y<Bp b):x*y<Bp (a+b):=by
 rw [Bp_add]
 have h1:=Int.mul_le_mul (a:=x) (b:=y) (c:=Bp a-1) (d:=Bp b) (by omega) (by omega) y0 (by have:=Bp_pos a; omega)
 have h2:=Bp_pos b
 rw [Int.sub_mul,Int.one_mul] at h1
 omega
end Go.Proofs.Ytjbnlmamealdgaa.Nt
namespace Go.Proofs.Ytjbnlmamealdgaa.Nt
open Go.ChangeShapes Go.WideShapes Go.ChangeAt Go.RowKit B
set_option linter.unusedVariables false
end Go.Proofs.Ytjbnlmamealdgaa.Nt
