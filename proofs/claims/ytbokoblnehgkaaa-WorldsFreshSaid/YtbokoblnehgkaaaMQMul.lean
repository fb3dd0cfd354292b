/-
  QMul, QDiv, QNew, in one text: see the remarks at the head of each part.
-/
import Derived.Test.YtbokoblnehgkaaaMQ
namespace Go.Proofs.Ytbokoblnehgkaaa.Nt
open Go.ChangeShapes Go.WideShapes Go.ChangeAt Go.RowKit B
set_option linter.unusedVariables false
end Go.Proofs.Ytbokoblnehgkaaa.Nt
namespace Go.Proofs.Ytbokoblnehgkaaa.Nt
open Go.ChangeShapes Go.WideShapes Go.ChangeAt Go.RowKit B
set_option linter.unusedVariables false
end Go.Proofs.Ytbokoblnehgkaaa.Nt
namespace Go.Proofs.Ytbokoblnehgkaaa.Nt
open Go.ChangeShapes Go.WideShapes Go.ChangeAt Go.RowKit B
set_option linter.unusedVariables false
theorem mk_new {n d:Int} (hd:d≠0):mk (!(decide (n<0) == decide (d<0))) (n.natAbs:Int) (d.natAbs:Int)=Rat.divInt n d:=by
 unfold mk
 rw [Int.toNat_natCast]
 rcases Int.lt_or_gt_of_ne hd with h|h
 ·obtain ⟨k,rfl⟩:∃ k:Nat,d = -(k:Int):=⟨d.natAbs,by omega⟩
  rw [Rat.divInt_neg',Rat.divInt_ofNat,Int.natAbs_neg,Int.natAbs_natCast]
  congr 1
  rw [decide_eq_true h]
  by_cases hn:n<0
  ·rw [decide_eq_true hn]; simp [sg]; omega
  ·rw [decide_eq_false hn]; simp [sg]; omega
 ·obtain ⟨k,rfl⟩:∃ k:Nat,d=(k:Int):=⟨d.natAbs,by omega⟩
  rw [Rat.divInt_ofNat,Int.natAbs_natCast]
  congr 1
  rw [decide_eq_false (show ¬((k:Int)<0) by omega)]
  by_cases hn:n<0
  ·rw [decide_eq_true hn]; simp [sg]; omega
  ·rw [decide_eq_false hn]; simp [sg]; omega
end Go.Proofs.Ytbokoblnehgkaaa.Nt
