/-
  QMul, QDiv, QNew, in one text: see the remarks at the head of each part.
-/
import Derived.Test.YthcbjhmdpehooaaGreatMQ
namespace Go.Proofs.YthcbjhmdpehooaaGreat.Nt
open Go.ChangeShapes Go.WideShapes Go.ChangeAt Go.RowKit B
set_option linter.unusedVariables false
end Go.Proofs.YthcbjhmdpehooaaGreat.Nt
namespace Go.Proofs.YthcbjhmdpehooaaGreat.Nt
open Go.ChangeShapes Go.WideShapes Go.ChangeAt Go.RowKit B
set_option linter.unusedVariables false
def RetQE (base : Nat) (w : World) (q : Rat) (code : Int) (e : Ending) (w' : World) : Prop := ∃ v, e = .returned (.tuple #[v, .int .i64 code]) ∧ IsQ base w' v q ∧ Below base w w'
def ErrQ (w : World) (code : Int) (e : Ending) (w' : World) : Prop := e = .returned (.tuple #[.agg #[.bool false, .slice none 0 0, .slice none 0 0], .int .i64 code]) ∧ Below w.heap.size w w'
theorem fin_qe {w w2 : World} {g base : Nat} {v : Value} {q : Rat} {x y z : Value} {code : Int} (h : IsQ base w2 v q) (hg : g < base) (hb : Below w.heap.size w w2) (hw : w.heap.size ≤ g) :
    RetQE w.heap.size w q code (.returned (.tuple #[v, .int .i64 code])) (((w2.setCell ⟨g, 0, none⟩ x).setCell ⟨g, 1, none⟩ y).setCell ⟨g, 2, none⟩ z) :=
 ⟨v, rfl, (h.stored (w0 := w) hg).mono (by omega), below_put3 hb hw _ _ _⟩
end Go.Proofs.YthcbjhmdpehooaaGreat.Nt
namespace Go.Proofs.YthcbjhmdpehooaaGreat.Nt
open Go.ChangeShapes Go.WideShapes Go.ChangeAt Go.RowKit B
set_option linter.unusedVariables false
theorem mk_new {n d : Int} (hd : d ≠ 0) : mk (!(decide (n < 0) == decide (d < 0))) (n.natAbs : Int) (d.natAbs : Int) = Rat.divInt n d := by
 unfold mk
 rw [Int.toNat_natCast]
 rcases Int.lt_or_gt_of_ne hd with h | h
 ·obtain ⟨k, rfl⟩ : ∃ k : Nat, d = -(k : Int) := ⟨d.natAbs, by omega⟩
  rw [Rat.divInt_neg', Rat.divInt_ofNat, Int.natAbs_neg, Int.natAbs_natCast]
  congr 1
  rw [decide_eq_true h]
  by_cases hn : n < 0
  ·rw [decide_eq_true hn]; simp [sg]; omega
  ·rw [decide_eq_false hn]; simp [sg]; omega
 ·obtain ⟨k, rfl⟩ : ∃ k : Nat, d = (k : Int) := ⟨d.natAbs, by omega⟩
  rw [Rat.divInt_ofNat, Int.natAbs_natCast]
  congr 1
  rw [decide_eq_false (show ¬ ((k : Int) < 0) by omega)]
  by_cases hn : n < 0
  ·rw [decide_eq_true hn]; simp [sg]; omega
  ·rw [decide_eq_false hn]; simp [sg]; omega
theorem abs_b {n : Int} (h0 : -9223372036854775808 ≤ n) (h1 : n ≤ 9223372036854775807) : (n.natAbs : Int) < Bp 2 := bp_lit (by omega)
end Go.Proofs.YthcbjhmdpehooaaGreat.Nt
