/-
  QCmp, QAdd, QSub, in one text: see the remarks at the head of each part.
-/
import Derived.Test.YtdobkkhncfifeaaGreatMQ
namespace Go.Proofs.YtdobkkhncfifeaaGreat.Nt
open Go.ChangeShapes Go.WideShapes Go.ChangeAt Go.RowKit B
set_option linter.unusedVariables false
end Go.Proofs.YtdobkkhncfifeaaGreat.Nt
namespace Go.Proofs.YtdobkkhncfifeaaGreat.Nt
open Go.ChangeShapes Go.WideShapes Go.ChangeAt Go.RowKit B
set_option linter.unusedVariables false
end Go.Proofs.YtdobkkhncfifeaaGreat.Nt
namespace Go.Proofs.YtdobkkhncfifeaaGreat.Nt
open Go.ChangeShapes Go.WideShapes Go.ChangeAt Go.RowKit B
set_option linter.unusedVariables false
end Go.Proofs.YtdobkkhncfifeaaGreat.Nt
