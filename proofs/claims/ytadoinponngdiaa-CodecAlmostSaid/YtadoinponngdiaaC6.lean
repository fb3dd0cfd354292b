/-
  The law package of the codec: frac, known, step.
-/
import Derived.Test.YtadoinponngdiaaC5
namespace Go.Proofs.Ytadoinponngdiaa.Gx
open Go Go.RowKit Tw B Nt
set_option linter.unusedVariables false
set_option linter.unusedSimpArgs false
set_option maxHeartbeats 4000000
set_option maxRecDepth 20000
@[reducible, go_sem] def opT : Ty := .pair (.int .u8) (.pair (.int .u64) (.int .i64))
/-- one call of a reader -/
def stp (s : Rd) (o : Int × Int × Int) : Rd :=
  if o.1 % 5 = 0 then (rU s o.2.1).2 else if o.1 % 5 = 1 then (rB s o.2.2).2 else if o.1 % 5 = 2 then (rN s).2 else if o.1 % 5 = 3 then (rF s).2 else (rRaw s (max o.2.2 0)).2
@[go_sem] def stepM : MSpec := ⟨[.b 66 rdT, .b 42 rdT, .d opT], fun d => ⟨[(0, .box 66 (dA rdT (stp d.1 d.2.2.1) .nil)), (1, .box 42 (dA rdT (stp d.1 d.2.2.1) .nil))], 2, .dat .bool true, [List.length d.1.1 ≤ 1000000, d.1 = d.2.1]⟩⟩
theorem stepM_ok : MSpecOk Try.prog 23 stepM := by
  refine fnM_ok ECF_ok stepM Try.func23 rfl (by decide) (N := 80) rfl (res := [.tmp 6]) rfl (by decide) [(5, [(27, .ow), (31, .ow), (1000000, .mx [(4, 3), (5, 3), (6, 3)])]), (7, [(38, .ow), (43, .ow), (1000000, .mx [(5, 3), (6, 3), (7, 3), (4, 1000000)])]), (9, [(49, .ow), (51, .ow)]), (11, [(56, .ow), (58, .ow)]), (3, [(14, .ow), (19, .ow), (1000000, .mx [(5, 3), (6, 3), (7, 3), (4, 1000000)])]), (12, [(61, .tr true), (63, .ow), (70, .tr true), (72, .ow), (1000000, .mx [(4, 3), (5, 3), (6, 3), (7, 3), (13, 12), (14, 12), (15, 12), (16, 12), (17, 12)])])] [] [] 100 (by kernel_rfl) ?_
  rintro ⟨s, m, o, _⟩ hw hp H hH
  dsimp only [go_sem] at hw hp ⊢
  obtain ⟨hp, hsm, -⟩ := hp
  change Rd at s
  change Rd at m
  have hsm : s = m := hsm
  subst hsm
  obtain ⟨-, -, ⟨ho, -, -⟩, -⟩ := hw
  rw [u8R] at ho
  have et : Int.tmod o.1 5 = o.1 % 5 := Int.tmod_eq_emod_of_nonneg ho.1
  rw [et]
  have hs : stp s o = if o.1 % 5 = 0 then (rU s o.2.1).2 else if o.1 % 5 = 1 then (rB s o.2.2).2 else if o.1 % 5 = 2 then (rN s).2 else if o.1 % 5 = 3 then (rF s).2 else (rRaw s (max o.2.2 0)).2 := rfl
  refine ⟨by decide, by rw [u8R]; omega, fun h => ?_, fun h => ⟨fun h2 => ?_, fun h2 => ⟨fun h3 => ?_, fun h3 => ⟨fun h4 => ?_, fun h4 => ?_⟩⟩⟩⟩
  all_goals simp only [decide_eq_true_eq, decide_eq_false_iff_not] at *
  · rw [if_pos h] at hs
    rw [hs]; simp
  · rw [if_neg h, if_pos h2] at hs
    rw [hs]; simp [hp]
  · rw [if_neg h, if_neg h2, if_pos h3] at hs
    rw [hs]; simp [hp]
  · rw [if_neg h, if_neg h2, if_neg h3, if_pos h4] at hs
    rw [hs]; simp [hp]
  · rw [if_neg h, if_neg h2, if_neg h3, if_neg h4] at hs
    rw [hs]; simp [hp]
@[go_sem] def l4fracS : Spec := ⟨[.bool, nT, nT], fun d => (.dat fT (d.1, (bnat d.2.1, bnat d.2.2.1)), [])⟩
theorem l4frac_ok : SpecOk Try.prog 10 l4fracS := by
  refine fn_ok ECF_ok l4fracS Try.func10 rfl (by decide) (N := 13) rfl (res := [.cell 6 28]) rfl (by decide) [] [] [] 100 (by kernel_rfl) ?_
  rintro ⟨neg, x, y, _⟩ hw hp
  refine ⟨rfl, fun H hH => ?_⟩
  dsimp only [go_sem] at hw hp ⊢
  exact ⟨rfl, trivial⟩
theorem kq : (if (2 : Int) = 0 then f0 else qf (Rat.divInt (-1) 2)) = (true, ([1], [2])) := by decide +kernel
theorem kU : eU (Int.toNat 300) = [172, 2] := by
  show eU 300 = _
  rw [eU_ge (by decide), eU_lt (by decide)]; rfl
theorem kN1 : eN (N [1]) = [1, 1] := by
  have e1 : beN (N [1]) = [1] := by decide +kernel
  unfold eN eB
  rw [e1, List.length_singleton, eU_lt (by decide)]; rfl
theorem kN2 : eN (N [2]) = [1, 2] := by
  have e1 : beN (N [2]) = [2] := by decide +kernel
  unfold eN eB
  rw [e1, List.length_singleton, eU_lt (by decide)]; rfl
theorem kF : eFc (true, ([1], [2])) = [1, 1, 1, 1, 2] := by
  unfold eFc
  rw [kN1, kN2]; rfl
theorem kqq : qf (fq (true, ([1], [2]))) = (true, ([1], [2])) := by decide +kernel
theorem kR1 : rU ([172, 2, 1, 1, 1, 1, 2], 0) 300 = (300, ([1, 1, 1, 1, 2], 0)) := by decide +kernel
theorem kR2 : rF ([1, 1, 1, 1, 2], 0) = ((true, ([1], [2])), ([], 0)) := by decide +kernel
@[go_sem] def l4knS : Spec := ⟨[], fun d => (.dat .bool true, [])⟩
@[go_sem] noncomputable def ECM : Env := ((((((ECF).addM 11 eUM).addM 17 eFM).addM 12 reUM).addM 14 reBM).addM 16 reNM).addM 18 reFM
theorem ECM_ok : ECM.Ok := ((((((ECF_ok).addM eUM_ok).addM eFM_ok).addM reUM_ok).addM reBM_ok).addM reNM_ok).addM reFM_ok
theorem l4kn_ok : SpecOk Try.prog 19 l4knS := by
  refine fn_ok ECM_ok l4knS Try.func19 rfl (by decide) (N := 49) rfl (res := [.tmp 0]) rfl (by decide) [(2, [(10, .ow), (13, .fz 1), (14, .ow), (1000000, .mx [(1, 0)])]), (5, [(18, .ow)]), (6, [(20, .ow)]), (7, [(24, .tr true), (30, .tr true), (34, .tr true), (39, .tr true), (44, .tr true), (41, .ow), (46, .ow)])] [] [] 100 (by kernel_rfl) ?_
  rintro ⟨_⟩ hw hp
  refine ⟨rfl, fun H hH => ?_⟩
  dsimp only [go_sem] at hw hp ⊢
  rw [kq, kqq, kU, kF]
  have e1 : [172, 2] ++ [1, 1, 1, 1, 2] = ([172, 2, 1, 1, 1, 1, 2] : List Int) := rfl
  rw [e1, kR1]
  dsimp only
  rw [kR2]
  exact ⟨by decide, by decide, rfl, by decide, ⟨_, rfl⟩, by decide, by decide, by decide, by decide, by decide, by decide, by decide, by decide, trivial⟩
@[go_sem] noncomputable def ECG : Env := (((ECM).addM 23 stepM).add 10 l4fracS).add 19 l4knS
theorem ECG_ok : ECG.Ok := (((ECM_ok).addM stepM_ok).add l4frac_ok).add l4kn_ok
end Go.Proofs.Ytadoinponngdiaa.Gx
