/-
  Contracts of credencelaw2.same and known.
-/
import Derived.Test.YthcbjhmdpehooaaGreatRFrac
import Derived.Test.YthcbjhmdpehooaaGreatMQAdd
import Derived.Test.YthcbjhmdpehooaaGreatMQMul
import Derived.Test.YthcbjhmdpehooaaGreatMQText
namespace Go.Proofs.YthcbjhmdpehooaaGreat.Nt
open Go.ChangeShapes Go.WideShapes Go.ChangeAt Go.RowKit B
set_option linter.unusedVariables false
end Go.Proofs.YthcbjhmdpehooaaGreat.Nt
