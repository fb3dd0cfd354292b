/-
  More operations on fractions.
-/
import Derived.Test.YtpplleoiehnlkaaD5
namespace Go.Proofs.Ytpplleoiehnlkaa.Gx
open Go Go.RowKit Tw B Nt
set_option linter.unusedVariables false
set_option linter.unusedSimpArgs false
set_option maxHeartbeats 1000000
theorem fs_num (f : fT.den) : f.2.1.length ≤ fs f := Nat.le_max_left _ _
theorem fs_den (f : fT.den) : f.2.2.length ≤ fs f := Nat.le_max_right _ _
@[go_sem] def isOneS : Spec := ⟨[nT], fun d => (.dat .bool (decide (d.1 = [1])), [])⟩
theorem isOne_ok : SpecOk Try.prog 59 isOneS := by
  refine fn_ok E3_ok isOneS Try.func59 rfl (by decide) (N := 12) rfl (res := [.tmp 2]) rfl (by decide) [] [] [] 100 (by kernel_rfl) ?_
  rintro ⟨l, _⟩ hw hp
  refine ⟨rfl, fun H hH => ?_⟩
  dsimp only [go_sem] at hw hp ⊢
  simp only [decide_eq_true_eq]
  and_intros <;> try first | exact fun h => h | trivial | (intro h; omega) | (rcases l with _ | ⟨a, _ | ⟨b, l⟩⟩ <;> simp <;> omega)
@[go_sem] def rFMulS : Spec := ⟨[fT, fT], fun d => (.dat fT (qf (fq d.1 * fq d.2.1)), [fs d.1 ≤ 1000000, fs d.2.1 ≤ 1000000])⟩
theorem rFMul_ok : SpecOk Try.prog 42 rFMulS := by
  refine fn_ok E3_ok rFMulS Try.func42 rfl (by decide) (N := 21) rfl (res := [.cell 4 25]) rfl (by decide) [] [] [] 100 (by kernel_rfl) ?_
  rintro ⟨x, y, _⟩ hw hp
  refine ⟨rfl, fun H hH => ?_⟩
  dsimp only [go_sem] at hw hp ⊢
  obtain ⟨hx, hy, -⟩ := hw
  obtain ⟨hp1, hp2, -⟩ := hp
  have dx := fd_of hx
  have dy := fd_of hy
  have l1 := fs_num x
  have l2 := fs_den x
  have l3 := fs_num y
  have l4 := fs_den y
  have m1 := dg_mul dx.1 dy.1
  have m2 := dg_mul dx.2 dy.2
  refine ⟨by omega, by omega, by omega, by omega, by omega, by omega, ?_, trivial⟩
  rw [N_dg (Int.mul_nonneg (N_nonneg dx.1) (N_nonneg dy.1)), N_dg (Int.mul_nonneg (N_nonneg dx.2) (N_nonneg dy.2))]
  unfold fq
  rw [mk_mul _ _ _ _ _ _ (N_nonneg dx.2) (N_nonneg dy.2)]
  congr 2
  cases x.1 <;> cases y.1 <;> rfl
theorem fq_N (X : Rat) : mk (decide (X.num < 0)) (N (qf X).2.1) (N (qf X).2.2) = X := by
  rw [N_num, N_den, mk_self]
theorem qden_pos (X : Rat) : 0 < N (qf X).2.2 := by rw [N_den]; have := X.den_pos; omega
theorem qnum_pos {X : Rat} (h : X ≠ 0) : 0 < N (qf X).2.1 := by
  rw [N_num]
  have : X.num ≠ 0 := fun e => h (Rat.num_eq_zero.1 e)
  omega
@[go_sem] def rFDivS : Spec := ⟨[fT, fT], fun d => (.tup (.cons (.dat fT (if fq d.2.1 = 0 then f0 else qf (fq d.1 / fq d.2.1))) (.cons (.dat (.int .i64) (if fq d.2.1 = 0 then 20 else 0)) .nil)), [fs d.1 ≤ 1000000, fs d.2.1 ≤ 1000000])⟩
theorem rFDiv_ok : SpecOk Try.prog 35 rFDivS := by
  refine fn_ok E3_ok rFDivS Try.func35 rfl (by decide) (N := 33) rfl (res := [.cell 4 25, .tmp 5]) rfl (by decide) [] [] [] 100 (by kernel_rfl) ?_
  rintro ⟨x, y, _⟩ hw hp
  refine ⟨rfl, fun H hH => ?_⟩
  dsimp only [go_sem] at hw hp ⊢
  obtain ⟨hx, hy, -⟩ := hw
  obtain ⟨hp1, hp2, -⟩ := hp
  have sx := qs_fq (fd_of hx)
  have sy := qs_fq (fd_of hy)
  generalize fq x = X at *
  generalize fq y = Y at *
  have l1 := len_num X
  have l2 := len_den X
  have l3 := len_num Y
  have l4 := len_den Y
  have m1 := dg_mul (ds_num X) (ds_den Y)
  have m2 := dg_mul (ds_den X) (ds_num Y)
  refine ⟨by omega, by omega, fun h => ?_, fun h => ?_⟩ <;> simp only [decide_eq_true_eq, decide_eq_false_iff_not] at h
  · have h0 : Y = 0 := (qf_num Y).1 (by omega)
    simp [h0, f0]
  · have h0 : Y ≠ 0 := fun e => h (by have := (qf_num Y).2 e; omega)
    rw [if_neg h0, if_neg h0]
    and_intros <;> first | rfl | trivial | omega | skip
    rw [N_dg (Int.mul_nonneg (N_nonneg (ds_num X)) (N_nonneg (ds_den Y))), N_dg (Int.mul_nonneg (N_nonneg (ds_den X)) (N_nonneg (ds_num Y)))]
    have := mk_div (p := decide (X.num < 0)) (r := decide (Y.num < 0)) (a := N (qf X).2.1) (N_nonneg (ds_den X)) (qnum_pos h0) (qden_pos Y)
    rw [fq_N, fq_N] at this
    rw [this, qf_neg, qf_neg]
    congr 2
    cases decide (X.num < 0) <;> cases decide (Y.num < 0) <;> rfl
@[go_sem] def rFSignS : Spec := ⟨[fT], fun d => (.dat (.int .i64) (sgQ (fq d.1)), [fs d.1 ≤ 1000000])⟩
theorem rFSign_ok : SpecOk Try.prog 39 rFSignS := by
  refine fn_ok E3_ok rFSignS Try.func39 rfl (by decide) (N := 14) rfl (res := [.tmp 2]) rfl (by decide) [] [] [] 100 (by kernel_rfl) ?_
  rintro ⟨x, _⟩ hw hp
  refine ⟨rfl, fun H hH => ?_⟩
  dsimp only [go_sem] at hw hp ⊢
  obtain ⟨hp1, -⟩ := hp
  generalize fq x = X at *
  refine ⟨by omega, fun h => ?_, fun h => ?_⟩ <;> simp only [decide_eq_true_eq, decide_eq_false_iff_not] at h
  · have h0 : X = 0 := (qf_num X).1 (by omega)
    subst h0
    exact ⟨rfl, trivial⟩
  · have h0 : X ≠ 0 := fun e => h (by have := (qf_num X).2 e; omega)
    have hn : X.num ≠ 0 := fun e => h0 (Rat.num_eq_zero.1 e)
    unfold sgQ
    refine ⟨fun h => ?_, fun h => ?_⟩ <;> rw [qf_neg] at h <;> simp only [decide_eq_true_eq, decide_eq_false_iff_not] at h
    · exact ⟨(Int.sign_eq_neg_one_of_neg h).symm, trivial⟩
    · exact ⟨(Int.sign_eq_one_of_pos (by omega)).symm, trivial⟩
@[go_sem] def l2rawS : Spec := ⟨[.bool, nT, nT], fun d => (.dat fT (d.1, bnat d.2.1, bnat d.2.2.1), [])⟩
theorem l2raw_ok : SpecOk Try.prog 15 l2rawS := by
  refine fn_ok E3_ok l2rawS Try.func15 rfl (by decide) (N := 13) rfl (res := [.cell 6 25]) rfl (by decide) [] [] [] 100 (by kernel_rfl) ?_
  rintro ⟨a, x, y, _⟩ hw hp
  refine ⟨rfl, fun H hH => ?_⟩
  dsimp only [go_sem] at hw hp ⊢
  exact ⟨rfl, trivial⟩
end Go.Proofs.Ytpplleoiehnlkaa.Gx
