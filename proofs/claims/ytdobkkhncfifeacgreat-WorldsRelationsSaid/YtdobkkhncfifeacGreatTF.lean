/-
  A region that draws its order and makes two new variables: by hand.
-/
import Derived.Test.YtdobkkhncfifeacGreatMR2
namespace Go.Proofs.YtdobkkhncfifeacGreat.Gx
open Go Go.RowKit Tw B Nt
set_option linter.unusedVariables false
set_option linter.unusedSimpArgs false
set_option maxHeartbeats 4000000
set_option maxRecDepth 20000
section
variable {E:Env} {w0 w1 w2:World} {X0 Y:Nat->Prop} {Bo:List Value} {N:Nat} {st st':St} {ρ:List Value} {a:Act} {w w':World} {P:Program} {ps:List Prop}
end
end Go.Proofs.YtdobkkhncfifeacGreat.Gx
