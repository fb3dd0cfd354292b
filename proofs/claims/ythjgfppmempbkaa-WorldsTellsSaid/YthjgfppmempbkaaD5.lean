/-
  The reference's operations on fractions.
-/
import Derived.Test.YthjgfppmempbkaaD4
namespace Go.Proofs.Ythjgfppmempbkaa.Gx
open Go Go.RowKit Tw B Nt
set_option linter.unusedVariables false
set_option linter.unusedSimpArgs false
theorem fqi (n : Int) (neg : Bool) (a : Int) (h0 : 0 ≤ a) (h : sg neg a = n) : mk neg a 1 = (n : Rat) := by
  unfold mk
  rw [h]
  simp [Rat.mkRat_one]
@[go_sem] def rFIntS : Spec := ⟨[.int .i64], fun d => (.dat fT (qf (d.1 : Int)), [])⟩
set_option maxHeartbeats 1000000
theorem rFInt_ok : SpecOk Try.prog 67 rFIntS := by
  refine fn_ok E3_ok rFIntS Try.func67 rfl (by decide) (N := 18) rfl (res := [.cell 2 53]) rfl (by decide) [] [] [] 100 (by kernel_rfl) ?_
  rintro ⟨n, _⟩ hw hp
  refine ⟨rfl, fun H hH => ?_⟩
  dsimp only [go_sem] at hw hp ⊢
  simp only [inR, lo, hi] at hw
  refine ⟨fun h => ?_, fun h => ?_⟩ <;> simp only [decide_eq_true_eq, decide_eq_false_iff_not] at h <;> simp only [inR, lo, hi]
  · refine ⟨by omega, by omega, by omega, by omega, ?_, by decide, ?_, trivial⟩
    · have := dg_small (n := -(n + 1) + 1) (by omega) (by omega); omega
    · rw [N_dg (by omega), show N (dg 1) = 1 from N_dg (by omega), fqi n true _ (by omega) (by simp [sg]; omega)]
  · refine ⟨by omega, ?_, by decide, ?_, trivial⟩
    · have := dg_small (n := n) (by omega) (by omega); omega
    · rw [N_dg (by omega), show N (dg 1) = 1 from N_dg (by omega), fqi n false _ (by omega) (by simp [sg])]
theorem fadd_same (X Y : Rat) (h : (qf X).1 = (qf Y).1) : mk (qf X).1 (N (qf X).2.1 * N (qf Y).2.2 + N (qf Y).2.1 * N (qf X).2.2) (N (qf X).2.2 * N (qf Y).2.2) = X + Y := by
  rw [fadd_eq, N_num, N_den, N_num, N_den]
  rw [qf_neg, qf_neg] at h
  unfold mk
  rw [qf_neg, ← h]
  have e : ((X.den : Int) * (Y.den : Int)).toNat = X.den * Y.den := by rw [← Int.natCast_mul]; rfl
  rw [e]
  congr 1
  cases decide (X.num < 0) <;> simp [sg]
  rw [Int.neg_add, Int.neg_mul, Int.neg_mul]
theorem fadd_diff (X Y : Rat) (h : (qf X).1 ≠ (qf Y).1) : (N (qf Y).2.1 * N (qf X).2.2 ≤ N (qf X).2.1 * N (qf Y).2.2 → mk (qf X).1 (N (qf X).2.1 * N (qf Y).2.2 - N (qf Y).2.1 * N (qf X).2.2) (N (qf X).2.2 * N (qf Y).2.2) = X + Y) ∧
    (N (qf X).2.1 * N (qf Y).2.2 ≤ N (qf Y).2.1 * N (qf X).2.2 → mk (qf Y).1 (N (qf Y).2.1 * N (qf X).2.2 - N (qf X).2.1 * N (qf Y).2.2) (N (qf X).2.2 * N (qf Y).2.2) = X + Y) := by
  rw [fadd_eq, N_num, N_den, N_num, N_den]
  rw [qf_neg, qf_neg] at h
  have e : ((X.den : Int) * (Y.den : Int)).toNat = X.den * Y.den := by rw [← Int.natCast_mul]; rfl
  unfold mk
  rw [qf_neg, qf_neg, e]
  generalize decide (X.num < 0) = p at *
  generalize decide (Y.num < 0) = q at *
  refine ⟨fun _ => ?_, fun _ => ?_⟩ <;> congr 1 <;> cases p <;> cases q <;> simp [sg] at h ⊢ <;> simp only [Int.neg_mul] <;> omega
@[go_sem] def rFAddS : Spec := ⟨[fT, fT], fun d => (.dat fT (qf (fq d.1 + fq d.2.1)), [fs d.1 ≤ 1000000, fs d.2.1 ≤ 1000000])⟩
theorem fd_of {f : fT.den} (h : wfD fT f) : Fd f := ⟨fun d hd => inR_u32.1 (h.2.1.2 d hd), fun d hd => inR_u32.1 (h.2.2.2 d hd)⟩
theorem rFAdd_ok : SpecOk Try.prog 92 rFAddS := by
  refine fn_ok E3_ok rFAddS Try.func92 rfl (by decide) (N := 71) rfl (res := [.cell 4 53]) rfl (by decide) [] [] [] 100 (by kernel_rfl) ?_
  rintro ⟨x, y, _⟩ hw hp
  refine ⟨rfl, fun H hH => ?_⟩
  dsimp only [go_sem] at hw hp ⊢
  obtain ⟨hx, hy, -⟩ := hw
  obtain ⟨hp1, hp2, -⟩ := hp
  have sx := qs_fq (fd_of hx)
  have sy := qs_fq (fd_of hy)
  generalize fq x = X at *
  generalize fq y = Y at *
  have l1 := len_num X
  have l2 := len_den X
  have l3 := len_num Y
  have l4 := len_den Y
  have m1 := dg_mul (ds_num X) (ds_den Y)
  have m2 := dg_mul (ds_num Y) (ds_den X)
  have m3 := dg_mul (ds_den X) (ds_den Y)
  have a1 := dg_add (ds_dg (N (qf X).2.1 * N (qf Y).2.2)) (ds_dg (N (qf Y).2.1 * N (qf X).2.2))
  have n1 := N_dg (Int.mul_nonneg (N_nonneg (ds_num X)) (N_nonneg (ds_den Y)))
  have n2 := N_dg (Int.mul_nonneg (N_nonneg (ds_num Y)) (N_nonneg (ds_den X)))
  have n3 := N_dg (Int.mul_nonneg (N_nonneg (ds_den X)) (N_nonneg (ds_den Y)))
  rw [n1, n2] at a1
  rw [n1, n2, n3]
  have p1 := Int.mul_nonneg (N_nonneg (ds_num X)) (N_nonneg (ds_den Y))
  have p2 := Int.mul_nonneg (N_nonneg (ds_num Y)) (N_nonneg (ds_den X))
  refine ⟨by omega, by omega, by omega, by omega, by omega, by omega, by omega, by omega, fun h => ?_, fun h => ?_⟩ <;> simp only [decide_eq_true_eq, decide_eq_false_iff_not] at h
  · refine ⟨by omega, by omega, by omega, by omega, ?_, trivial⟩
    rw [N_dg (by omega), fadd_same X Y h]
  · obtain ⟨d1, d2⟩ := fadd_diff X Y h
    generalize N (qf X).2.1 * N (qf Y).2.2 = p at *
    generalize N (qf Y).2.1 * N (qf X).2.2 = q at *
    refine ⟨by omega, by omega, fun h => ?_, fun h => ?_⟩ <;> simp only [decide_eq_true_eq, decide_eq_false_iff_not] at h <;> unfold cmpI at h
    · have hqp : q ≤ p := by
        by_cases hc : q ≤ p
        · exact hc
        · rw [if_pos (by omega)] at h; omega
      have := dg_mono (show 0 ≤ p - q by omega) (show p - q ≤ p by omega)
      rw [if_pos hqp]
      refine ⟨by omega, by omega, by omega, by omega, ?_, trivial⟩
      rw [N_dg (by omega), d1 hqp]
    · have hqp : p ≤ q := by
        by_cases hc : p ≤ q
        · exact hc
        · rw [if_neg (by omega)] at h; split at h <;> omega
      have := dg_mono (show 0 ≤ q - p by omega) (show q - p ≤ q by omega)
      rw [if_pos hqp]
      refine ⟨by omega, by omega, by omega, by omega, ?_, trivial⟩
      rw [N_dg (by omega), d2 hqp]
end Go.Proofs.Ythjgfppmempbkaa.Gx
