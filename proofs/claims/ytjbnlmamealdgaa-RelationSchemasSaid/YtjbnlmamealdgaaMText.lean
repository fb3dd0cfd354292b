/-
  Parse, Format, in one text: see the remarks at the head of each part.
-/
import Derived.Test.YtjbnlmamealdgaaMLong
import Derived.Test.YtjbnlmamealdgaaMPlain
namespace Go.Proofs.Ytjbnlmamealdgaa.Nt
open Go.ChangeShapes Go.WideShapes Go.ChangeAt Go.RowKit B
set_option linter.unusedVariables false
end Go.Proofs.Ytjbnlmamealdgaa.Nt
namespace Go.Proofs.Ytjbnlmamealdgaa.Nt
open Go.ChangeShapes Go.WideShapes Go.ChangeAt Go.RowKit B
set_option linter.unusedVariables false
theorem own_below {w w':World} {base:Nat} {e:TypeId} {size:Nat} {v:Value} {n:Nat} {xs:List Value} (h:w.ownsRow base e size v n xs) (hb:Below w.heap.size w w'):w'.ownsRow base e size v n xs:=by
 refine ⟨h.1,?_⟩
 rcases h.2 with h0|⟨g,cap,cur,h1,h2,h3,h4⟩
 ·exact .inl h0
 ·refine .inr ⟨g,cap,cur,h1,h2,?_,h4⟩
  rw [hb.block g (by rcases Nat.lt_or_ge g w.heap.size with h|h; exact h; rw [Array.getElem?_eq_none h] at h3; cases h3)]
  exact h3
end Go.Proofs.Ytjbnlmamealdgaa.Nt
