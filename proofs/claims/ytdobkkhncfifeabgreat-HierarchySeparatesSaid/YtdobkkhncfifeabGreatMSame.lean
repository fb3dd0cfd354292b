/-
  Same, LawKit, Pow, in one text: see the remarks at the head of each part.
-/
import Derived.Test.YtdobkkhncfifeabGreatMText
namespace Go.Proofs.YtdobkkhncfifeabGreat.Nt
open Go.ChangeShapes Go.WideShapes Go.ChangeAt Go.RowKit B
set_option linter.unusedVariables false
end Go.Proofs.YtdobkkhncfifeabGreat.Nt
namespace Go.Proofs.YtdobkkhncfifeabGreat.Nt
set_option linter.unusedVariables false
theorem IsNew.zero {base:Nat} {w:World} {v:Value} {n:Int} (h:IsNew base w v n) (e:n=0):∃ a cap,v=.slice a 0 cap:=by
 obtain ⟨l,h1,h2,h3,_⟩:=h
 have:l=[]:=h2.zero.1 (by rw [h3,e])
 subst this
 obtain ⟨a,cap,rfl,_⟩:=h1
 exact ⟨a,cap,rfl⟩
end Go.Proofs.YtdobkkhncfifeabGreat.Nt
namespace Go.Proofs.YtdobkkhncfifeabGreat.Nt
open Go.ChangeShapes Go.WideShapes Go.ChangeAt Go.RowKit B
set_option linter.unusedVariables false
end Go.Proofs.YtdobkkhncfifeabGreat.Nt
