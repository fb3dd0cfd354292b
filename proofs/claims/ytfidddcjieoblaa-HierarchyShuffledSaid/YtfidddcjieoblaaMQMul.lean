/-
  QMul, QDiv, QNew, in one text: see the remarks at the head of each part.
-/
import Derived.Test.YtfidddcjieoblaaMQ
/-
  Contract of rational.Mul.
-/
namespace Go.Proofs.Ytfidddcjieoblaa.Nt
open Go.ChangeShapes Go.WideShapes Go.ChangeAt Go.RowKit B
set_option linter.unusedVariables false

end Go.Proofs.Ytfidddcjieoblaa.Nt

/-
  Contract of rational.Div.
-/
namespace Go.Proofs.Ytfidddcjieoblaa.Nt
open Go.ChangeShapes Go.WideShapes Go.ChangeAt Go.RowKit B
set_option linter.unusedVariables false

/-- a fraction and an error number -/
def RetQE (base : Nat) (w : World) (q : Rat) (code : Int) (e : Ending) (w' : World) : Prop := ∃ v, e = .returned (.tuple #[v, .int .i64 code]) ∧ IsQ base w' v q ∧ Below base w w'
/-- the zero value and an error number -/
def ErrQ (w : World) (code : Int) (e : Ending) (w' : World) : Prop := e = .returned (.tuple #[.agg #[.bool false, .slice none 0 0, .slice none 0 0], .int .i64 code]) ∧ Below w.heap.size w w'
theorem fin_qe {w w2 : World} {g base : Nat} {v : Value} {q : Rat} {x y z : Value} {code : Int} (h : IsQ base w2 v q) (hg : g < base) (hb : Below w.heap.size w w2) (hw : w.heap.size ≤ g) :
    RetQE w.heap.size w q code (.returned (.tuple #[v, .int .i64 code])) (((w2.setCell ⟨g, 0, none⟩ x).setCell ⟨g, 1, none⟩ y).setCell ⟨g, 2, none⟩ z) :=
  ⟨v, rfl, (h.stored (w0 := w) hg).mono (by omega), below_put3 hb hw _ _ _⟩
theorem mk_div {p r : Bool} {a b c d : Int} (hb : 0 ≤ b) (hc : 0 < c) (hd : 0 < d) : mk p a b / mk r c d = mk (p != r) (a * d) (b * c) := by
  have hne : mk r c d ≠ 0 := by
    intro h
    have := mk_parts (neg := r) hc hd
    rw [h] at this
    have h2 := this.1
    have h3 := this.2.2.2.1
    cases r <;> simp [sg] at h2 <;> omega
  have e : mk r c d * mk r d c = 1 := by
    rw [mk_mul r r c d d c (by omega) (by omega)]
    unfold mk
    have e1 : (r != r) = false := by simp
    rw [e1]
    have e2 : d * c = c * d := Int.mul_comm _ _
    rw [e2]
    have hpos : 0 < c * d := Int.mul_pos hc hd
    show mkRat (c * d) (c * d).toNat = 1
    have := Rat.mkRat_mul_left (n := 1) (d := 1) (a := (c * d).toNat) (by omega)
    rw [Int.toNat_of_nonneg (by omega), Int.mul_one, Nat.mul_one] at this
    rw [this]; rfl
  rw [Rat.div_def, Rat.inv_eq_of_mul_eq_one e, mk_mul p r a b d c hb (by omega)]
end Go.Proofs.Ytfidddcjieoblaa.Nt

/-
  Contract of rational.New.
-/
namespace Go.Proofs.Ytfidddcjieoblaa.Nt
open Go.ChangeShapes Go.WideShapes Go.ChangeAt Go.RowKit B
set_option linter.unusedVariables false

theorem mk_new {n d : Int} (hd : d ≠ 0) : mk (!(decide (n < 0) == decide (d < 0))) (n.natAbs : Int) (d.natAbs : Int) = Rat.divInt n d := by
  unfold mk
  rw [Int.toNat_natCast]
  rcases Int.lt_or_gt_of_ne hd with h | h
  · obtain ⟨k, rfl⟩ : ∃ k : Nat, d = -(k : Int) := ⟨d.natAbs, by omega⟩
    rw [Rat.divInt_neg', Rat.divInt_ofNat, Int.natAbs_neg, Int.natAbs_natCast]
    congr 1
    rw [decide_eq_true h]
    by_cases hn : n < 0
    · rw [decide_eq_true hn]; simp [sg]; omega
    · rw [decide_eq_false hn]; simp [sg]; omega
  · obtain ⟨k, rfl⟩ : ∃ k : Nat, d = (k : Int) := ⟨d.natAbs, by omega⟩
    rw [Rat.divInt_ofNat, Int.natAbs_natCast]
    congr 1
    rw [decide_eq_false (show ¬ ((k : Int) < 0) by omega)]
    by_cases hn : n < 0
    · rw [decide_eq_true hn]; simp [sg]; omega
    · rw [decide_eq_false hn]; simp [sg]; omega
theorem abs_b {n : Int} (h0 : -9223372036854775808 ≤ n) (h1 : n ≤ 9223372036854775807) : (n.natAbs : Int) < Bp 2 := bp_lit (by omega)
end Go.Proofs.Ytfidddcjieoblaa.Nt
