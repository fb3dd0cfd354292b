/-
  The law CodecEncodes.
-/
import Derived.Test.YtadoinponngdiaaC6
namespace Go.Proofs.Ytadoinponngdiaa.Gx
open Go Go.RowKit Tw B Nt
set_option linter.unusedVariables false
set_option linter.unusedSimpArgs false
set_option maxHeartbeats 4000000
set_option maxRecDepth 20000
@[go_sem] def lEnS : Spec := ⟨[.int .u64, bT, nT, .bool, nT], fun d => (.dat .bool true, [])⟩
theorem lEn_ok : SpecOk Try.prog 3 lEnS := by
  refine fn_ok ECG_ok lEnS Try.func3 rfl (by decide) (N := 80) rfl (res := [.tmp 10]) rfl (by decide) [(5, [(39, .tr true), (49, .tr true), (58, .tr true), (67, .tr true), (76, .tr true)])] [] [] 100 (by kernel_rfl) ?_
  rintro ⟨(n:Int), b, x, neg, y, _⟩ hw hp
  refine ⟨rfl, fun H hH => ?_⟩
  dsimp only [go_sem] at hw hp ⊢
  have hx := bnat_len x
  have hy := bnat_len y
  have hfs : fs (neg, bnat x, bnat y) ≤ 15000 := by
    show max (bnat x).length (bnat y).length ≤ 15000
    omega
  refine ⟨fun h => h, fun h => h, fun h => h, fun h => h, fun h => h, fun h => h, fun _ => ⟨rfl, trivial⟩, fun h => ?_⟩
  simp only [Bool.or_eq_false_iff, decide_eq_false_iff_not] at h
  have hb : List.length b ≤ 1000000 := by omega
  exact ⟨by simp, by simp, hb, hb, by simp, by omega, by omega, by simp, hfs, hfs, by simp, rfl, trivial⟩
end Go.Proofs.Ytadoinponngdiaa.Gx
