/-
  Equality of columns and values; SameSchema, SameValues, Same.
-/
import Derived.Test.YtjbnlmamealdgaaMR3
namespace Go.Proofs.Ytjbnlmamealdgaa.Gx
open Go Go.RowKit Tw B Nt
set_option linter.unusedVariables false
set_option linter.unusedSimpArgs false
set_option maxHeartbeats 4000000
set_option maxRecDepth 20000
end Go.Proofs.Ytjbnlmamealdgaa.Gx
