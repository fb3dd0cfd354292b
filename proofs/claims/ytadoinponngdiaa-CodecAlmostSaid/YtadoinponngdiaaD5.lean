/-
  The reference's operations on fractions.
-/
import Derived.Test.YtadoinponngdiaaD4
namespace Go.Proofs.Ytadoinponngdiaa.Gx
open Go Go.RowKit Tw B Nt
set_option linter.unusedVariables false
set_option linter.unusedSimpArgs false
theorem fqi (n : Int) (neg : Bool) (a : Int) (h0 : 0 ≤ a) (h : sg neg a = n) : mk neg a 1 = (n : Rat) := by
  unfold mk
  rw [h]
  simp [Rat.mkRat_one]
theorem fadd_same (X Y : Rat) (h : (qf X).1 = (qf Y).1) : mk (qf X).1 (N (qf X).2.1 * N (qf Y).2.2 + N (qf Y).2.1 * N (qf X).2.2) (N (qf X).2.2 * N (qf Y).2.2) = X + Y := by
  rw [fadd_eq, N_num, N_den, N_num, N_den]
  rw [qf_neg, qf_neg] at h
  unfold mk
  rw [qf_neg, ← h]
  have e : ((X.den : Int) * (Y.den : Int)).toNat = X.den * Y.den := by rw [← Int.natCast_mul]; rfl
  rw [e]
  congr 1
  cases decide (X.num < 0) <;> simp [sg]
  rw [Int.neg_add, Int.neg_mul, Int.neg_mul]
theorem fadd_diff (X Y : Rat) (h : (qf X).1 ≠ (qf Y).1) : (N (qf Y).2.1 * N (qf X).2.2 ≤ N (qf X).2.1 * N (qf Y).2.2 → mk (qf X).1 (N (qf X).2.1 * N (qf Y).2.2 - N (qf Y).2.1 * N (qf X).2.2) (N (qf X).2.2 * N (qf Y).2.2) = X + Y) ∧
    (N (qf X).2.1 * N (qf Y).2.2 ≤ N (qf Y).2.1 * N (qf X).2.2 → mk (qf Y).1 (N (qf Y).2.1 * N (qf X).2.2 - N (qf X).2.1 * N (qf Y).2.2) (N (qf X).2.2 * N (qf Y).2.2) = X + Y) := by
  rw [fadd_eq, N_num, N_den, N_num, N_den]
  rw [qf_neg, qf_neg] at h
  have e : ((X.den : Int) * (Y.den : Int)).toNat = X.den * Y.den := by rw [← Int.natCast_mul]; rfl
  unfold mk
  rw [qf_neg, qf_neg, e]
  generalize decide (X.num < 0) = p at *
  generalize decide (Y.num < 0) = q at *
  refine ⟨fun _ => ?_, fun _ => ?_⟩ <;> congr 1 <;> cases p <;> cases q <;> simp [sg] at h ⊢ <;> simp only [Int.neg_mul] <;> omega
@[go_sem] def rFAddS : Spec := ⟨[fT, fT], fun d => (.dat fT (qf (fq d.1 + fq d.2.1)), [fs d.1 ≤ 1000000, fs d.2.1 ≤ 1000000])⟩
theorem fd_of {f : fT.den} (h : wfD fT f) : Fd f := ⟨fun d hd => inR_u32.1 (h.2.1.2 d hd), fun d hd => inR_u32.1 (h.2.2.2 d hd)⟩
end Go.Proofs.Ytadoinponngdiaa.Gx
