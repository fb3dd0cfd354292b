/-
  More operations on fractions.
-/
import Derived.Test.YthjgfppmempbkaaD5
namespace Go.Proofs.Ythjgfppmempbkaa.Gx
open Go Go.RowKit Tw B Nt
set_option linter.unusedVariables false
set_option linter.unusedSimpArgs false
set_option maxHeartbeats 1000000
theorem fs_num (f : fT.den) : f.2.1.length ≤ fs f := Nat.le_max_left _ _
theorem fs_den (f : fT.den) : f.2.2.length ≤ fs f := Nat.le_max_right _ _
@[go_sem] def isOneS : Spec := ⟨[nT], fun d => (.dat .bool (decide (d.1 = [1])), [])⟩
theorem isOne_ok : SpecOk Try.prog 64 isOneS := by
  refine fn_ok E3_ok isOneS Try.func64 rfl (by decide) (N := 12) rfl (res := [.tmp 2]) rfl (by decide) [] [] [] 100 (by kernel_rfl) ?_
  rintro ⟨l, _⟩ hw hp
  refine ⟨rfl, fun H hH => ?_⟩
  dsimp only [go_sem] at hw hp ⊢
  simp only [decide_eq_true_eq]
  and_intros <;> try first | exact fun h => h | trivial | (intro h; omega) | (rcases l with _ | ⟨a, _ | ⟨b, l⟩⟩ <;> simp <;> omega)
@[go_sem] def rFMulS : Spec := ⟨[fT, fT], fun d => (.dat fT (qf (fq d.1 * fq d.2.1)), [fs d.1 ≤ 1000000, fs d.2.1 ≤ 1000000])⟩
theorem rFMul_ok : SpecOk Try.prog 57 rFMulS := by
  refine fn_ok E3_ok rFMulS Try.func57 rfl (by decide) (N := 21) rfl (res := [.cell 4 53]) rfl (by decide) [] [] [] 100 (by kernel_rfl) ?_
  rintro ⟨x, y, _⟩ hw hp
  refine ⟨rfl, fun H hH => ?_⟩
  dsimp only [go_sem] at hw hp ⊢
  obtain ⟨hx, hy, -⟩ := hw
  obtain ⟨hp1, hp2, -⟩ := hp
  have dx := fd_of hx
  have dy := fd_of hy
  have l1 := fs_num x
  have l2 := fs_den x
  have l3 := fs_num y
  have l4 := fs_den y
  have m1 := dg_mul dx.1 dy.1
  have m2 := dg_mul dx.2 dy.2
  refine ⟨by omega, by omega, by omega, by omega, by omega, by omega, ?_, trivial⟩
  rw [N_dg (Int.mul_nonneg (N_nonneg dx.1) (N_nonneg dy.1)), N_dg (Int.mul_nonneg (N_nonneg dx.2) (N_nonneg dy.2))]
  unfold fq
  rw [mk_mul _ _ _ _ _ _ (N_nonneg dx.2) (N_nonneg dy.2)]
  congr 2
  cases x.1 <;> cases y.1 <;> rfl
theorem fq_N (X : Rat) : mk (decide (X.num < 0)) (N (qf X).2.1) (N (qf X).2.2) = X := by
  rw [N_num, N_den, mk_self]
theorem qden_pos (X : Rat) : 0 < N (qf X).2.2 := by rw [N_den]; have := X.den_pos; omega
theorem qnum_pos {X : Rat} (h : X ≠ 0) : 0 < N (qf X).2.1 := by
  rw [N_num]
  have : X.num ≠ 0 := fun e => h (Rat.num_eq_zero.1 e)
  omega
@[go_sem] def rFSignS : Spec := ⟨[fT], fun d => (.dat (.int .i64) (sgQ (fq d.1)), [fs d.1 ≤ 1000000])⟩
theorem rFSign_ok : SpecOk Try.prog 74 rFSignS := by
  refine fn_ok E3_ok rFSignS Try.func74 rfl (by decide) (N := 14) rfl (res := [.tmp 2]) rfl (by decide) [] [] [] 100 (by kernel_rfl) ?_
  rintro ⟨x, _⟩ hw hp
  refine ⟨rfl, fun H hH => ?_⟩
  dsimp only [go_sem] at hw hp ⊢
  obtain ⟨hp1, -⟩ := hp
  generalize fq x = X at *
  refine ⟨by omega, fun h => ?_, fun h => ?_⟩ <;> simp only [decide_eq_true_eq, decide_eq_false_iff_not] at h
  · have h0 : X = 0 := (qf_num X).1 (by omega)
    subst h0
    exact ⟨rfl, trivial⟩
  · have h0 : X ≠ 0 := fun e => h (by have := (qf_num X).2 e; omega)
    have hn : X.num ≠ 0 := fun e => h0 (Rat.num_eq_zero.1 e)
    unfold sgQ
    refine ⟨fun h => ?_, fun h => ?_⟩ <;> rw [qf_neg] at h <;> simp only [decide_eq_true_eq, decide_eq_false_iff_not] at h
    · exact ⟨(Int.sign_eq_neg_one_of_neg h).symm, trivial⟩
    · exact ⟨(Int.sign_eq_one_of_pos (by omega)).symm, trivial⟩
end Go.Proofs.Ythjgfppmempbkaa.Gx
