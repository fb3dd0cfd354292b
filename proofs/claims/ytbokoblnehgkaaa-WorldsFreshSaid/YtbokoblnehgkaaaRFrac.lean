/-
  Contracts of credenceref1.size, frac, FracNorm, FracNeg, FracNew and FracSame.
-/
import Derived.Test.YtbokoblnehgkaaaMRefH
import Derived.Test.YtbokoblnehgkaaaMQMul
namespace Go.Proofs.Ytbokoblnehgkaaa.Nt
open Go.ChangeShapes Go.WideShapes Go.ChangeAt Go.RowKit B
set_option linter.unusedVariables false
theorem gcdI_le2 {n d:Int} {c:Nat} (hn:0<=n) (hd:0<=d) (h1:n<Bp c) (h2:d<Bp c):gcdI n d<Bp c:=by
 obtain ⟨a,rfl⟩:=Int.eq_ofNat_of_zero_le hn
 obtain ⟨b,rfl⟩:=Int.eq_ofNat_of_zero_le hd
 rw [gcdI_nat]
 rcases Nat.eq_zero_or_pos a with h|h
 ·subst h; simp; exact h2
 ·have:=Nat.gcd_le_left b h; omega
end Go.Proofs.Ytbokoblnehgkaaa.Nt
