/-
  The law RationalText.
-/
import Derived.Test.YtpplleoiehnlkaaD11
namespace Go.Proofs.Ytpplleoiehnlkaa.Gx
open Go Go.RowKit Tw B Nt
set_option linter.unusedVariables false
set_option linter.unusedSimpArgs false
set_option maxHeartbeats 4000000
set_option maxRecDepth 20000
@[go_sem] noncomputable def E8 : Env := (E7.add 19 rFFmtS).add 17 rFParseS
theorem E8_ok : E8.Ok := (E7_ok.add rFFmt_ok).add rFParse_ok
@[go_sem] def lTextS : Spec := ⟨[.bool, nT, nT, .str], fun d => (.dat .bool true, [])⟩
theorem lText_ok : SpecOk Try.prog 4 lTextS := by
  refine fn_ok E8_ok lTextS Try.func4 rfl (by decide) (N := 78) rfl (res := [.tmp 8]) rfl (by decide) [] [] [] 100 (by kernel_rfl) ?_
  rintro ⟨a, x, y, (s:List UInt8), _⟩ hw hp
  refine ⟨rfl, fun H hH => ?_⟩
  dsimp only [go_sem] at hw hp ⊢
  and_intros <;> try exact fun h => h
  · exact fun _ => ⟨rfl, trivial⟩
  · intro h
    simp only [Bool.or_eq_false_iff, decide_eq_false_iff_not] at h
    obtain ⟨⟨h1, h2⟩, h3⟩ := h
    have s1 := fs_raw a (l := x) (k := y) (c := 4) (by omega) (by omega)
    have d1 := Fd_raw a hw.2.1 hw.2.2.1
    generalize ((a, bnat x, bnat y) : fT.den) = X at *
    have t1 : fs X ≤ 5000000 := by omega
    have t5 : fs X ≤ 900000 := by omega
    have sX := qs_fq d1
    generalize fq X = q at *
    have hl := ftT_len (q := q) (c := 5) (by omega)
    obtain ⟨f1, f2⟩ := ft_back (q := q) (by omega)
    simp only [t1, t5, d1, f1, f2, if_true, true_and, decide_true, Bool.and_true, Bool.and_self, and_self, imp_self, true_implies, and_true, implies_true]
end Go.Proofs.Ytpplleoiehnlkaa.Gx
