/-
  RefH, RefI, in one text: see the remarks at the head of each part.
-/
import Derived.Test.YtnbeehcdnbanfaaGreatMRefE
import Derived.Deep.RegionHeld3
namespace Go.Proofs.YtnbeehcdnbanfaaGreat.Nt
open Go.ChangeShapes Go.WideShapes Go.ChangeAt Go.RowKit B
set_option linter.unusedVariables false
end Go.Proofs.YtnbeehcdnbanfaaGreat.Nt
namespace Go.Proofs.YtnbeehcdnbanfaaGreat.Nt
open Go.ChangeShapes Go.WideShapes Go.ChangeAt Go.RowKit B
set_option linter.unusedVariables false
end Go.Proofs.YtnbeehcdnbanfaaGreat.Nt
