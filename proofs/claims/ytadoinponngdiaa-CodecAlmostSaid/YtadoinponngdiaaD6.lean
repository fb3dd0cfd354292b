/-
  More operations on fractions.
-/
import Derived.Test.YtadoinponngdiaaD5
namespace Go.Proofs.Ytadoinponngdiaa.Gx
open Go Go.RowKit Tw B Nt
set_option linter.unusedVariables false
set_option linter.unusedSimpArgs false
set_option maxHeartbeats 1000000
theorem fs_num (f : fT.den) : f.2.1.length ≤ fs f := Nat.le_max_left _ _
theorem fs_den (f : fT.den) : f.2.2.length ≤ fs f := Nat.le_max_right _ _
@[go_sem] def isOneS : Spec := ⟨[nT], fun d => (.dat .bool (decide (d.1 = [1])), [])⟩
theorem isOne_ok : SpecOk Try.prog 51 isOneS := by
  refine fn_ok E3_ok isOneS Try.func51 rfl (by decide) (N := 12) rfl (res := [.tmp 2]) rfl (by decide) [] [] [] 100 (by kernel_rfl) ?_
  rintro ⟨l, _⟩ hw hp
  refine ⟨rfl, fun H hH => ?_⟩
  dsimp only [go_sem] at hw hp ⊢
  simp only [decide_eq_true_eq]
  and_intros <;> try first | exact fun h => h | trivial | (intro h; omega) | (rcases l with _ | ⟨a, _ | ⟨b, l⟩⟩ <;> simp <;> omega)
theorem fq_N (X : Rat) : mk (decide (X.num < 0)) (N (qf X).2.1) (N (qf X).2.2) = X := by
  rw [N_num, N_den, mk_self]
theorem qden_pos (X : Rat) : 0 < N (qf X).2.2 := by rw [N_den]; have := X.den_pos; omega
theorem qnum_pos {X : Rat} (h : X ≠ 0) : 0 < N (qf X).2.1 := by
  rw [N_num]
  have : X.num ≠ 0 := fun e => h (Rat.num_eq_zero.1 e)
  omega
end Go.Proofs.Ytadoinponngdiaa.Gx
