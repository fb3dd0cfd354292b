/-
  Contracts of credencelaw2.same and known.
-/
import Derived.Test.YtfidddcjieoblaaRFrac
import Derived.Test.YtfidddcjieoblaaMQAdd
import Derived.Test.YtfidddcjieoblaaMQMul
import Derived.Test.YtfidddcjieoblaaMQText
namespace Go.Proofs.Ytfidddcjieoblaa.Nt
open Go.ChangeShapes Go.WideShapes Go.ChangeAt Go.RowKit B
set_option linter.unusedVariables false

theorem IsQ.same_iff {b1 b2 : Nat} {w : World} {va vb : Value} {p q : Rat} {la ma lb mb : List Int} (c1 : Canon la) (c2 : Canon ma) (e1 : N la = (p.num.natAbs : Int)) (e2 : N ma = (p.den : Int))
    (c3 : Canon lb) (c4 : Canon mb) (e3 : N lb = (q.num.natAbs : Int)) (e4 : N mb = (q.den : Int)) : decide (decide (p.num < 0) = decide (q.num < 0) ∧ la = lb ∧ ma = mb) = decide (p = q) := by
  rw [Bool.eq_iff_iff, decide_eq_true_iff, decide_eq_true_iff]
  constructor
  · rintro ⟨h1, rfl, rfl⟩
    apply Rat.ext
    · have : (p.num.natAbs : Int) = q.num.natAbs := by rw [← e1, e3]
      rw [decide_eq_decide] at h1
      omega
    · have : (p.den : Int) = q.den := by rw [← e2, e4]
      omega
  · rintro rfl
    exact ⟨rfl, Canon.inj c1 c3 (by rw [e1, e3]), Canon.inj c2 c4 (by rw [e2, e4])⟩
theorem k_parse : fpC [48, 46, 49, 50, 53] = 0 ∧ fpQ [48, 46, 49, 50, 53] = 1 / 8 := by decide +kernel
theorem k_ft1 {s : ByteArray} (h : IsFT s (-3 / 4)) : s = ⟨#[45, 51, 47, 52]⟩ :=
  IsFT.unique h ⟨decS [3], decS [4], .inr ⟨by decide +kernel, [3], ⟨by unfold D10; decide, by decide⟩, by decide +kernel, rfl⟩, .inr ⟨by decide +kernel, [4], ⟨by unfold D10; decide, by decide⟩, by decide +kernel, rfl⟩, by decide +kernel⟩
theorem k_ft2 {s : ByteArray} (h : IsFT s (-5 / 8)) : s = ⟨#[45, 53, 47, 56]⟩ :=
  IsFT.unique h ⟨decS [5], decS [8], .inr ⟨by decide +kernel, [5], ⟨by unfold D10; decide, by decide⟩, by decide +kernel, rfl⟩, .inr ⟨by decide +kernel, [8], ⟨by unfold D10; decide, by decide⟩, by decide +kernel, rfl⟩, by decide +kernel⟩
theorem k_new : Rat.divInt (-6) 8 = -3 / 4 := by decide +kernel
theorem k_add : (-3 / 4 : Rat) + 1 / 8 = -5 / 8 := by decide +kernel
theorem k_cmp : cmpQ (-3 / 4) (1 / 8) = -1 := by decide +kernel
theorem k_b : Qb 1 (-3 / 4) ∧ Qb 1 (1 / 8) ∧ Qb 1 (-5 / 8) := by unfold Qb; decide +kernel
end Go.Proofs.Ytfidddcjieoblaa.Nt
