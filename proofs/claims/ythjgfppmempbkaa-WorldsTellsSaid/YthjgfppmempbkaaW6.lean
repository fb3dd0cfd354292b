/-
  Worlds: the spaces of the base.
-/
import Derived.Test.YthjgfppmempbkaaW4
namespace Go.Proofs.Ythjgfppmempbkaa.Gx
open Go Go.RowKit Tw B Nt
set_option linter.unusedVariables false
set_option linter.unusedSimpArgs false
set_option maxHeartbeats 4000000
set_option maxRecDepth 20000
def bsF (n : Int) (k : Nat) : fT.den := qf (bpr (shrI .i64 n (2 + 3 * (k : Int))) * Rat.divInt 1 2)
def bsb (n : Int) : Blk := (List.range (n % 3).toNat).map (bsF n)
def bspc (l : List Int) : List Blk := (List.range (bat l 0 % 6).toNat).map fun i : Nat => bsb (bat l (1 + (i : Int)))
@[go_sem] def bSpS : Spec := ⟨[wdT], fun d => (.dat spT (bspc d.1), [])⟩
theorem bSp_ok : SpecOk Try.prog 21 bSpS := by
  refine fn_ok EW7_ok bSpS Try.func21 rfl (by decide) (N := 56) rfl (res := [.cell 2 26]) rfl (by decide) [(1, [(11, .ag)]), (5, [(19, .ag)]), (12, [(46, .dt)]), (13, [(52, .dt)])] [(13, [4]), (14, [2])] [] 100 (by kernel_rfl) ?_
  rintro ⟨l, _⟩ hw hp
  refine ⟨rfl, fun H hH => ?_⟩
  dsimp only [go_sem] at hw hp ⊢
  refine hH.loop (fun i : Nat => ⟨[(0, .dat wdT l), (2, .ref 0 0), (3, .ref 1 0), (4, .dat (.int .i64) (i : Int))], [(0, .box 26 (zA spT .nil)), (1, .box 26 (.cons (.own 2) .nil)), (2, .row 30 bkT ((List.range i).map fun i : Nat => bsb (bat l (1 + (i : Int)))))], 3⟩) (fun i => i ≤ (bat l 0 % 6).toNat) (fun i => (bat l 0 % 6).toNat - i) 0 2 (Nat.zero_le _) ?_ ?_
  · dsimp only [go_sem]
    simp
  · intro i hi R hm
    refine hH.run 100 _ _ ?_
    dsimp only [go_sem]
    have hbn := bat_nn l (i := 0) (by decide)
    have hi : i ≤ (bat l 0 % 6).toNat := hi
    rw [Int.tmod_eq_emod_of_nonneg hbn]
    refine ⟨⟨Int.le_refl _, by decide⟩, by decide, by rw [inR_i64]; omega, fun d => ?_, fun d => ?_⟩ <;> simp only [decide_eq_true_eq, decide_eq_false_iff_not] at d
    · have d : (i : Int) < bat l 0 % 6 := d
      refine ⟨by rw [inR_i64]; omega, ⟨by show (0 : Int) ≤ 1 + (i : Int); omega, by show 1 + (i : Int) ≤ 1000000; omega⟩, ?_⟩
      have hnn := bat_nn l (i := 1 + (i : Int)) (by omega)
      obtain ⟨n, hn⟩ : ∃ n, bat l (1 + (i : Int)) = n := ⟨_, rfl⟩
      rw [hn] at hnn ⊢
      refine hH.loop (fun k : Nat => ⟨[(0, .dat wdT l), (2, .ref 0 0), (3, .ref 1 0), (4, .dat (.int .i64) (i : Int)), (5, .ref 3 0), (6, .dat (.int .i64) n), (7, .dat (.int .i64) (k : Int))], [(0, .box 26 (zA spT .nil)), (1, .box 26 (.cons (.own 2) .nil)), (2, .row 30 bkT ((List.range i).map fun i : Nat => bsb (bat l (1 + (i : Int))))), (3, .box 30 (.cons (.own 4) .nil)), (4, .row 53 fT ((List.range k).map (bsF n)))], 5⟩) (fun k => k ≤ (n % 3).toNat) (fun k => (n % 3).toNat - k) 0 4 (Nat.zero_le _) ?_ ?_
      · dsimp only [go_sem]
        simp
      · intro k hk R2 hm2
        refine hH.run 100 _ _ ?_
        dsimp only [go_sem]
        have h12 : (if (2 : Int) = 0 then f0 else qf (Rat.divInt 1 2)) = qf (Rat.divInt 1 2) := by decide +kernel
        have hq1 := (bpr_b (shrI .i64 n (2 + 3 * (k : Int)))).1
        have hq2 : fs (qf (Rat.divInt 1 2)) ≤ 1 := by decide +kernel
        have hk : k ≤ (n % 3).toNat := hk
        rw [h12, fq_qf, fq_qf, Int.tmod_eq_emod_of_nonneg hnn]
        refine ⟨by decide, by rw [inR_i64]; omega, fun e => ?_, fun e => ?_⟩ <;> simp only [decide_eq_true_eq, decide_eq_false_iff_not] at e
        · have e : (k : Int) < n % 3 := e
          have e1 : List.range (k + 1) = List.range k ++ [k] := List.range_succ
          refine ⟨by rw [inR_i64]; omega, by rw [inR_i64]; omega, by rw [u64R']; omega, by show (0 : Int) ≤ 2 + 3 * (k : Int); omega, by rw [fs_qf]; omega, by omega, ?_, rfl, by rw [inR_i64]; omega, hm2 _ (k + 1) 5 (by show k + 1 ≤ _; omega) (by omega) ?_⟩
          · rw [List.length_map, List.length_range]; show (k + 1) * 56 ≤ _; omega
          · dsimp only [go_sem]
            rw [e1, List.map_append]
            simp [bsF]
        · have e2 : (List.range k).map (bsF n) = bsb n := by
            have : ¬ (k : Int) < n % 3 := e
            unfold bsb
            congr 2
            omega
          rw [e2]
          have e1 : List.range (i + 1) = List.range i ++ [i] := List.range_succ
          refine ⟨?_, rfl, by rw [inR_i64]; omega, hm _ (i + 1) 3 (by show i + 1 ≤ _; omega) (by omega) ?_⟩
          · rw [List.length_map, List.length_range]; show (i + 1) * 24 ≤ _; omega
          · dsimp only [go_sem]
            rw [e1, List.map_append]
            simp [hn]
    · have e2 : (List.range i).map (fun i : Nat => bsb (bat l (1 + (i : Int)))) = bspc l := by
        have : ¬ (i : Int) < bat l 0 % 6 := d
        unfold bspc
        congr 2
        omega
      rw [e2]
      exact ⟨rfl, trivial⟩
@[go_sem] noncomputable def EW8 : Env := (EW7).add 21 bSpS
theorem EW8_ok : EW8.Ok := (EW7_ok).add bSp_ok
end Go.Proofs.Ythjgfppmempbkaa.Gx
