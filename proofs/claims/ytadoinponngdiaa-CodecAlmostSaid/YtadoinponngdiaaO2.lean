/-
  Small fractions in rows of their own: the functions that build them.
-/
import Derived.Test.YtadoinponngdiaaO1
namespace Go.Proofs.Ytadoinponngdiaa.Gx
open Go Go.RowKit Tw B Nt
set_option linter.unusedVariables false
set_option linter.unusedSimpArgs false
set_option maxHeartbeats 4000000
set_option maxRecDepth 20000
theorem dg_zero' {n : Int} (h0 : 0 ≤ n) : (dg n).length = 0 ↔ n = 0 := by
  constructor
  · intro h
    have := N_dg h0
    rw [List.length_eq_zero_iff.1 h] at this
    exact this.symm
  · rintro rfl; rfl
@[go_sem] noncomputable def EO1 : Env := ((E5).addM 55 rOfM).addM 54 rDivM
theorem EO1_ok : EO1.Ok := ((E5_ok).addM rOfM_ok).addM rDivM_ok
/-- a fraction whose parts are rows of their own -/
@[go_sem] def qfC (q : Rat) : List (Nat × CT) := [(0, .row 61 (.int .u32) (qf q).2.1), (1, .row 61 (.int .u32) (qf q).2.2)]
@[go_sem] def qfO (q : Rat) : AV := .agg (.cons (.dat .bool (qf q).1) (.cons (.own 0) (.cons (.own 1) .nil)))
@[go_sem] def rFracM : MSpec := ⟨[.d .bool, .d nT, .d nT], fun d => ⟨qfC (mk d.1 (N d.2.1) (N d.2.2.1)), 2, qfO (mk d.1 (N d.2.1) (N d.2.2.1)), [d.2.1.length ≤ 1000000, d.2.2.1.length ≤ 1000000]⟩⟩
theorem rFracM_ok : MSpecOk Try.prog 44 rFracM := by
  refine fnM_ok EO1_ok rFracM Try.func44 rfl (by decide) (N := 49) rfl (res := [.cell 6 28]) rfl (by decide) [(2, [(20, .ow)]), (3, [(27, .ow)]), (5, [(43, .ow)])] [] [] 100 (by kernel_rfl) ?_
  rintro ⟨ng, n, d, _⟩ hw hp H hH
  dsimp only [go_sem] at hw hp ⊢
  obtain ⟨-, hn, hd, -⟩ := hw
  obtain ⟨l1, l2, -⟩ := hp
  have dn : Ds n := fun x hx => inR_u32.1 (hn.2 x hx)
  have dd : Ds d := fun x hx => inR_u32.1 (hd.2 x hx)
  have n1 := N_nonneg dn
  have n2 := N_nonneg dd
  have b1 := N_lt' dn l1
  have b2 := N_lt' dd l2
  have hg := gcdI_le2 n1 n2 b1 b2
  change Ty.bool.den at ng
  change List Int at n d
  generalize hX : N n = X at *
  generalize hY : N d = Y at *
  have g0 : 0 ≤ gcdI X Y := by
    obtain ⟨x, rfl⟩ := Int.eq_ofNat_of_zero_le n1
    obtain ⟨y, rfl⟩ := Int.eq_ofNat_of_zero_le n2
    rw [gcdI_nat]; omega
  have hl := dg_len g0 hg
  have eg := N_dg g0
  have z1 := dg_zero' (n := X / gcdI X Y) (Int.ediv_nonneg n1 g0)
  have z2 := dg_zero' (n := Y / gcdI X Y) (Int.ediv_nonneg n2 g0)
  rw [eg]
  simp only [imp_self, true_and, and_true]
  refine ⟨by omega, by omega, by omega, by omega, by omega, by omega, fun h => ?_, fun h => ?_⟩
  · have h0 : X = 0 ∨ Y = 0 := by
      by_cases c1 : X = 0
      · exact .inl c1
      · by_cases c2 : Y = 0
        · exact .inr c2
        · exfalso
          obtain ⟨_, _, p3, p4, p5⟩ := mk_parts (neg := ng) (show 0 < X by omega) (show 0 < Y by omega)
          simp only [Bool.or_eq_true, Bool.not_eq_true', decide_eq_true_eq, decide_eq_false_iff_not, Decidable.not_not] at h
          omega
    rw [mk_zero h0]
    exact ⟨by decide, by decide, ⟨rfl, by decide, by decide⟩, by decide, rfl, by decide, rfl⟩
  · simp only [Bool.or_eq_false_iff, Bool.not_eq_false', decide_eq_true_eq, decide_eq_false_iff_not] at h
    have c1 : X ≠ 0 := fun e => by have := z1.2 (by rw [e, Int.zero_ediv]); omega
    have c2 : Y ≠ 0 := fun e => by have := z2.2 (by rw [e, Int.zero_ediv]); omega
    obtain ⟨p1, p2, p3, p4, p5⟩ := mk_parts (neg := ng) (show 0 < X by omega) (show 0 < Y by omega)
    unfold qf
    dsimp only
    rw [p1, p2, sg_neg p4, sg_abs (Int.le_of_lt p4)]
    simp
@[go_sem] noncomputable def EO2 : Env := (EO1).addM 44 rFracM
theorem EO2_ok : EO2.Ok := (EO1_ok).addM rFracM_ok
@[go_sem] def rFNewM : MSpec := ⟨[.d (.int .i64), .d (.int .i64)], fun d => ⟨qfC (Rat.divInt d.1 d.2.1), 2, .tup (.cons (qfO (Rat.divInt d.1 d.2.1)) (.cons (.dat (.int .i64) (0 : Int)) .nil)), [d.2.1 ≠ (0 : Int)]⟩⟩
theorem rFNewM_ok : MSpecOk Try.prog 35 rFNewM := by
  refine fnM_ok EO2_ok rFNewM Try.func35 rfl (by decide) (N := 19) rfl (res := [.cell 4 28, .tmp 5]) rfl (by decide) [(3, [(18, .ow)])] [] [] 100 (by kernel_rfl) ?_
  rintro ⟨(n:Int), (d:Int), _⟩ hw hp H hH
  dsimp only [go_sem] at hw hp ⊢
  obtain ⟨hn, hd, -⟩ := hw
  have h0 : d ≠ 0 := hp.1
  simp only [inR, lo, hi] at hn hd
  have l1 := dg_small (n := (n.natAbs : Int)) (by omega) (by omega)
  have l2 := dg_small (n := (d.natAbs : Int)) (by omega) (by omega)
  have e : mk (decide (decide (n < 0) ≠ decide (d < 0))) (n.natAbs : Int) (d.natAbs : Int) = Rat.divInt n d := by
    rw [← mk_new h0]
    congr 1
    cases decide (n < 0) <;> cases decide (d < 0) <;> rfl
  rw [N_dg (by omega), N_dg (by omega), e]
  refine ⟨fun h => absurd (of_decide_eq_true h) h0, fun h => ⟨by omega, by omega, ?_⟩⟩
  simp
theorem bits_and (n k : Int) : bitsI .and .i64 n k = bits .and .i64 n k := rfl
@[go_sem] noncomputable def EO3 : Env := (EO2).addM 35 rFNewM
theorem EO3_ok : EO3.Ok := (EO2_ok).addM rFNewM_ok
/-- a polynomial of small coefficients -/
def ofF (n : Int) : fT.den :=
  let c : fT.den := if bitsI .and .i64 n 3 = 3 then f0 else qf (bfr n)
  if bitsI .and .i64 n 12 = 12 then (c.1, c.2.1 ++ [0], c.2.2 ++ [0]) else c
def ofP (l : List Int) : List fT.den := (l.take 7).map ofF
@[go_sem] noncomputable def EO4 : Env := EO3
theorem EO4_ok : EO4.Ok := EO3_ok
end Go.Proofs.Ytadoinponngdiaa.Gx
