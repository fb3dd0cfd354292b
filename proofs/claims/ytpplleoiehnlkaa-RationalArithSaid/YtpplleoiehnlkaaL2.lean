/-
  The law RationalArith.
-/
import Derived.Test.YtpplleoiehnlkaaL1
namespace Go.Proofs.Ytpplleoiehnlkaa.Gx
open Go Go.RowKit Tw B Nt
set_option linter.unusedVariables false
set_option linter.unusedSimpArgs false
set_option maxHeartbeats 4000000
set_option maxRecDepth 20000
@[go_sem] def lArithS : Spec := ⟨[.bool, nT, nT, .bool, nT, nT], fun d => (.dat .bool true, [])⟩
theorem lArith_ok : SpecOk Try.prog 10 lArithS := by
  refine fn_ok E6_ok lArithS Try.func10 rfl (by decide) (N := 139) rfl (res := [.tmp 12]) rfl (by kernel_rfl) (by decide) [] [] [] 100 ?_
  rintro ⟨a, x, y, b, z, t, _⟩ hw hp
  refine ⟨rfl, fun H hH => ?_⟩
  dsimp only [go_sem] at hw hp ⊢
  and_intros <;> try exact fun h => h
  · exact fun _ => ⟨rfl, trivial⟩
  · intro h
    simp only [Bool.or_eq_false_iff, decide_eq_false_iff_not] at h
    obtain ⟨⟨⟨h1, h2⟩, h3⟩, h4⟩ := h
    have s1 := fs_raw a (l := x) (k := y) (c := 4) (by omega) (by omega)
    have s2 := fs_raw b (l := z) (k := t) (c := 4) (by omega) (by omega)
    have d1 := Fd_raw a hw.2.1 hw.2.2.1
    have d2 := Fd_raw b hw.2.2.2.2.1 hw.2.2.2.2.2.1
    generalize ((a, bnat x, bnat y) : fT.den) = X at *
    generalize ((b, bnat z, bnat t) : fT.den) = Y at *
    have t1 : fs X ≤ 5000000 := by omega
    have t2 : fs Y ≤ 5000000 := by omega
    have t3 : fs X ≤ 1000000 := by omega
    have t4 : fs Y ≤ 1000000 := by omega
    have t5 : fs X ≤ 900000 := by omega
    have t6 : fs Y ≤ 900000 := by omega
    have t7 : fs X ≤ 400000 := by omega
    have t8 : fs Y ≤ 400000 := by omega
    simp only [t1, t2, t3, t4, t5, t6, t7, t8, true_and, decide_true, Bool.and_true, Bool.and_self, and_self, imp_self, true_implies, and_true, implies_true]
end Go.Proofs.Ytpplleoiehnlkaa.Gx
