/-
  RefH, RefI, in one text: see the remarks at the head of each part.
-/
import Derived.Test.YtkdglhjocffekaaGreatMRefE
import Derived.Deep.RegionHeld3
namespace Go.Proofs.YtkdglhjocffekaaGreat.Nt
open Go.ChangeShapes Go.WideShapes Go.ChangeAt Go.RowKit B
set_option linter.unusedVariables false
end Go.Proofs.YtkdglhjocffekaaGreat.Nt
namespace Go.Proofs.YtkdglhjocffekaaGreat.Nt
open Go.ChangeShapes Go.WideShapes Go.ChangeAt Go.RowKit B
set_option linter.unusedVariables false
end Go.Proofs.YtkdglhjocffekaaGreat.Nt
