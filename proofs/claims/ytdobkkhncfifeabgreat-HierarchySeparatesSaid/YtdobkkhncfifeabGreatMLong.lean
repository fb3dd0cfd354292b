/-
  Long, Div, in one text: see the remarks at the head of each part.
-/
import Derived.Test.YtdobkkhncfifeabGreatMShift
import Derived.Test.YtdobkkhncfifeabGreatMPlain
import Derived.StillTailTactics
import Derived.Deep.LoopGhost
namespace Go.Proofs.YtdobkkhncfifeabGreat.Nt
open Go.ChangeShapes Go.WideShapes Go.ChangeAt Go.RowKit B
set_option linter.unusedVariables false
theorem IsNew.keep {base:Nat} {w w':World} {v:Value} {n:Int} (h:IsNew base w v n) (hb:Below w.heap.size w w'):IsNew base w' v n:=by
 obtain ⟨l,h1,h2,h3,h4⟩:=h
 exact ⟨l,h1.keep hb,h2,h3,h4.keep hb⟩
theorem IsNew.mono {base base':Nat} {w:World} {v:Value} {n:Int} (h:IsNew base w v n) (hb:base'<=base):IsNew base' w v n:=by
 obtain ⟨l,h1,h2,h3,h4⟩:=h
 exact ⟨l,h1,h2,h3,h4.mono hb⟩
end Go.Proofs.YtdobkkhncfifeabGreat.Nt
namespace Go.Proofs.YtdobkkhncfifeabGreat.Nt
open Go.ChangeShapes Go.WideShapes Go.ChangeAt Go.RowKit B
set_option linter.unusedVariables false
def RetDM (base:Nat) (w:World) (x y:Int) (e:Ending) (w':World):Prop :=
 ∃ vq vr,e=.returned (.tuple #[vq,vr,.bool (decide (y≠0))])/\IsNew base w' vq (x / y)/\IsNew base w' vr (if y=0 then 0 else x % y)/\Below base w w'
def gcdI (x y:Int):Int:=(Nat.gcd x.toNat y.toNat:Int)
theorem gcdI_zero {x:Int} (hx:0<=x):gcdI x 0=x:=by
 obtain ⟨a,rfl⟩:=Int.eq_ofNat_of_zero_le hx
 simp [gcdI]
end Go.Proofs.YtdobkkhncfifeabGreat.Nt
