/-
  Worlds: the spaces of the base, whose blocks may grow.
-/
import Derived.Test.YthjgfppmempbkaaW6
namespace Go.Proofs.Ythjgfppmempbkaa.Gx
open Go Go.RowKit Tw B Nt
set_option linter.unusedVariables false
set_option linter.unusedSimpArgs false
set_option maxHeartbeats 4000000
set_option maxRecDepth 20000
@[go_sem] def bSpM : MSpec := ⟨[.d wdT], fun d => ⟨[(0, .nrow 30 true 1 none), (1, .bag 53 fT (bspc d.1))], 2, .agg (.cons (.sli 0 (bspc d.1).length) .nil), []⟩⟩
theorem bSpM_ok : MSpecOk Try.prog 21 bSpM := by
  refine fnM_ok EW7_ok bSpM Try.func21 rfl (by decide) (N := 56) rfl (res := [.cell 2 26]) rfl (by decide) [(1, [(11, .ag)]), (5, [(19, .ag)]), (12, [(46, .dt)]), (13, [(52, .ns), (53, .ns)])] [] [] 100 (by kernel_rfl) ?_
  rintro ⟨l, _⟩ hw hp H hH
  dsimp only [go_sem] at hw hp ⊢
  refine hH.loop (fun i : Nat => ⟨[(0, .dat wdT l), (2, .ref 0 0), (3, .ref 1 0), (4, .dat (.int .i64) (i : Int))], [(0, .box 26 (zA spT .nil)), (1, .box 26 (.cons (.sli 2 i) .nil)), (2, .nrow 30 true 3 none), (3, .bag 53 fT ((List.range i).map fun i : Nat => bsb (bat l (1 + (i : Int)))))], 4⟩) (fun i => i ≤ (bat l 0 % 6).toNat) (fun i => (bat l 0 % 6).toNat - i) 0 2 (Nat.zero_le _) ?_ ?_
  · dsimp only [go_sem]
    simp
  · intro i hi R hm
    refine hH.run 100 _ _ ?_
    dsimp only [go_sem]
    have hbn := bat_nn l (i := 0) (by decide)
    have hi : i ≤ (bat l 0 % 6).toNat := hi
    rw [Int.tmod_eq_emod_of_nonneg hbn]
    refine ⟨⟨Int.le_refl _, by decide⟩, by decide, by rw [inR_i64]; omega, fun d => ?_, fun d => ?_⟩ <;> simp only [decide_eq_true_eq, decide_eq_false_iff_not] at d
    · have d : (i : Int) < bat l 0 % 6 := d
      refine ⟨by rw [inR_i64]; omega, ⟨by show (0 : Int) ≤ 1 + (i : Int); omega, by show 1 + (i : Int) ≤ 1000000; omega⟩, ?_⟩
      have hnn := bat_nn l (i := 1 + (i : Int)) (by omega)
      obtain ⟨n, hn⟩ : ∃ n, bat l (1 + (i : Int)) = n := ⟨_, rfl⟩
      rw [hn] at hnn ⊢
      refine hH.loop (fun k : Nat => ⟨[(0, .dat wdT l), (2, .ref 0 0), (3, .ref 1 0), (4, .dat (.int .i64) (i : Int)), (5, .ref 4 0), (6, .dat (.int .i64) n), (7, .dat (.int .i64) (k : Int))], [(0, .box 26 (zA spT .nil)), (1, .box 26 (.cons (.sli 2 i) .nil)), (2, .nrow 30 true 3 none), (3, .bag 53 fT ((List.range i).map fun i : Nat => bsb (bat l (1 + (i : Int))))), (4, .box 30 (.cons (.own 5) .nil)), (5, .row 53 fT ((List.range k).map (bsF n)))], 6⟩) (fun k => k ≤ (n % 3).toNat) (fun k => (n % 3).toNat - k) 0 5 (Nat.zero_le _) ?_ ?_
      · dsimp only [go_sem]
        simp
      · intro k hk R2 hm2
        refine hH.run 100 _ _ ?_
        dsimp only [go_sem]
        have h12 : (if (2 : Int) = 0 then f0 else qf (Rat.divInt 1 2)) = qf (Rat.divInt 1 2) := by decide +kernel
        have hq1 := (bpr_b (shrI .i64 n (2 + 3 * (k : Int)))).1
        have hq2 : fs (qf (Rat.divInt 1 2)) ≤ 1 := by decide +kernel
        have hk : k ≤ (n % 3).toNat := hk
        rw [h12, fq_qf, fq_qf, Int.tmod_eq_emod_of_nonneg hnn]
        refine ⟨by decide, by rw [inR_i64]; omega, fun e => ?_, fun e => ?_⟩ <;> simp only [decide_eq_true_eq, decide_eq_false_iff_not] at e
        · have e : (k : Int) < n % 3 := e
          have e1 : List.range (k + 1) = List.range k ++ [k] := List.range_succ
          refine ⟨by rw [inR_i64]; omega, by rw [inR_i64]; omega, by rw [u64R']; omega, by show (0 : Int) ≤ 2 + 3 * (k : Int); omega, by rw [fs_qf]; omega, by omega, ?_, rfl, by rw [inR_i64]; omega, hm2 _ (k + 1) 6 (by show k + 1 ≤ _; omega) (by omega) ?_⟩
          · rw [List.length_map, List.length_range]; show (k + 1) * 56 ≤ _; omega
          · dsimp only [go_sem]
            rw [e1, List.map_append]
            simp [bsF]
        · have e2 : (List.range k).map (bsF n) = bsb n := by
            have : ¬ (k : Int) < n % 3 := e
            unfold bsb
            congr 2
            omega
          rw [e2]
          have e1 : List.range (i + 1) = List.range i ++ [i] := List.range_succ
          refine ⟨?_, ⟨rfl, rfl⟩, by rw [inR_i64]; omega, hH.ren [(0, 0), (1, 1), (2, 6 + 2), (3, 6 + 2 + 1)] 4 rfl rfl (Nat.zero_le _) rfl ?_⟩
          · rw [List.length_map, List.length_range]; show (i + 1) * 24 ≤ _; omega
          · dsimp only [go_sem]
            refine hm _ (i + 1) 4 (by show i + 1 ≤ _; omega) (by omega) ?_
            dsimp only [go_sem]
            rw [e1, List.map_append]
            simp [hn]
    · have e2 : (List.range i).map (fun i : Nat => bsb (bat l (1 + (i : Int)))) = bspc l := by
        have : ¬ (i : Int) < bat l 0 % 6 := d
        unfold bspc
        congr 2
        omega
      have e3 : i = (bspc l).length := by
        rw [← e2, List.length_map, List.length_range]
      rw [e2]
      simp [← e3]
end Go.Proofs.Ythjgfppmempbkaa.Gx
