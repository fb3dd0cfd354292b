/-
  QFmt, QParse, QParse2, in one text: see the remarks at the head of each part.
-/
import Derived.Test.YthcbjhmdpehooaaGreatMQ
import Derived.Test.YthcbjhmdpehooaaGreatMQMul
import Derived.Test.YthcbjhmdpehooaaGreatMRefH
namespace Go.Proofs.YthcbjhmdpehooaaGreat.Nt
open Go.ChangeShapes Go.WideShapes Go.ChangeAt Go.RowKit B
set_option linter.unusedVariables false
end Go.Proofs.YthcbjhmdpehooaaGreat.Nt
namespace Go.Proofs.YthcbjhmdpehooaaGreat.Nt
open Go.ChangeShapes Go.WideShapes Go.ChangeAt Go.RowKit B
set_option linter.unusedVariables false
end Go.Proofs.YthcbjhmdpehooaaGreat.Nt
namespace Go.Proofs.YthcbjhmdpehooaaGreat.Nt
open Go.ChangeShapes Go.WideShapes Go.ChangeAt Go.RowKit B
set_option linter.unusedVariables false
end Go.Proofs.YthcbjhmdpehooaaGreat.Nt
