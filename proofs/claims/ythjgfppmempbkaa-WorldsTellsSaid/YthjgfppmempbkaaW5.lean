/-
  The law WorldsNumbers.
-/
import Derived.Test.YthjgfppmempbkaaW4
namespace Go.Proofs.Ythjgfppmempbkaa.Gx
open Go Go.RowKit Tw B Nt
set_option linter.unusedVariables false
set_option linter.unusedSimpArgs false
set_option maxHeartbeats 4000000
set_option maxRecDepth 20000
def nbk (l : List Int) (i : Nat) : Blk := List.replicate (bat l (i : Int) % 5).toNat (false, [], [])
theorem u8_and63 : ∀ m : Fin 256, bitsI .and .u8 ((m.val : Nat) : Int) 63 = ((m.val % 64 : Nat) : Int) := by decide +kernel
theorem and63 (m : Int) (h1 : 0 ≤ m) (h2 : m ≤ 255) : bitsI .and .u8 m 63 = m % 64 := by
  obtain ⟨k, rfl⟩ : ∃ k : Nat, m = (k : Int) := ⟨m.toNat, by omega⟩
  have := u8_and63 ⟨k, by omega⟩
  rw [this]
  show ((k % 64 : Nat) : Int) = _
  omega
theorem fq_f0 : fq (false, [], []) = 0 := mk_zero (Or.inl rfl)
theorem qsum_rep : ∀ n, qsum (List.replicate n (false, ([] : List Int), ([] : List Int))) = 0
  | 0 => rfl
  | n + 1 => by rw [List.replicate_succ', qsum_snoc, qsum_rep n, fq_f0, Rat.add_zero]
theorem nbk_len (l : List Int) (i : Nat) : (nbk l i).length ≤ 4 := by
  have h := bat_nn l (i := (i : Int)) (by omega)
  unfold nbk
  rw [List.length_replicate]
  omega
theorem nbk_ok (l : List Int) (i : Nat) : okB (nbk l i) = true ∧ bkP (nbk l i) := by
  have h := nbk_len l i
  refine ⟨?_, by omega, fun f hf => ?_⟩
  · unfold okB
    rw [decide_eq_true (by omega), Bool.true_and, Bool.and_eq_true]
    refine ⟨?_, ?_⟩
    · rw [List.all_eq_true]
      intro f hf
      unfold nbk at hf
      rw [List.eq_of_mem_replicate hf, fq_f0]
      decide
    · unfold rm nbk
      rw [qsum_rep]
      decide +kernel
  · unfold nbk at hf
    rw [List.eq_of_mem_replicate hf]
    exact Nat.zero_le _
theorem bwd_ok (s : List Blk) (l : List Int) : wk s (bwd s l) = true := by
  refine wk_iff.2 ⟨by unfold bwd; simp, fun i hi => ?_⟩
  have hi : i < s.length := by unfold bwd at hi; simpa using hi
  have e : (bwd s l).getD i 0 = bat l (i : Int) % (((s.getD i []).length : Int) + 1) - 1 := by
    unfold bwd
    rw [List.getD_eq_getElem?_getD, List.getElem?_map, List.getElem?_range hi]
    rfl
  rw [e]
  have m0 := Int.emod_nonneg (bat l (i : Int)) (show ((s.getD i []).length : Int) + 1 ≠ 0 by omega)
  have m1 := Int.emod_lt_of_pos (bat l (i : Int)) (show (0 : Int) < ((s.getD i []).length : Int) + 1 by omega)
  omega
@[go_sem] def lNuS : Spec := ⟨[wdT, .int .u8, nT], fun d => (.dat .bool true, [])⟩
theorem lNu_ok : SpecOk Try.prog 3 lNuS := by
  refine fn_ok EW7_ok lNuS Try.func3 rfl (by decide) (N := 126) rfl (res := [.tmp 6]) rfl (by decide) [(3, [(27, .ag)]), (7, [(41, .dt), (43, .dt)]), (18, [(94, .tr true), (97, .tr true), (102, .tr true), (106, .tr true), (109, .tr true), (112, .tr true), (117, .tr true), (123, .tr true)])] [(8, [1])] [] 100 (by kernel_rfl) ?_
  rintro ⟨raw, (bk:Int), x, _⟩ hw hp
  refine ⟨rfl, fun H hH => ?_⟩
  dsimp only [go_sem] at hw hp ⊢
  refine ⟨fun _ => ⟨rfl, trivial⟩, fun h => ?_⟩
  simp only [decide_eq_false_iff_not] at h
  refine hH.loop (fun i : Nat => ⟨[(0, .dat wdT raw), (1, .dat (.int .u8) bk), (2, .dat nT x), (7, .ref 0 0), (8, .dat (.int .u8) (i : Int))], [(0, .box 26 (.cons (.own 1) .nil)), (1, .row 30 bkT ((List.range i).map (nbk raw)))], 2⟩) (fun i => i ≤ (bk % 64).toNat) (fun i => (bk % 64).toNat - i) 0 1 (Nat.zero_le _) ?_ ?_
  · dsimp only [go_sem]
    simp
  · intro i hi R hm
    refine hH.run 100 _ _ ?_
    dsimp only [go_sem]
    obtain ⟨-, hbk, ⟨-, hxr⟩, -⟩ := hw
    have hbk : 0 ≤ bk ∧ bk ≤ 255 := hbk
    have hm63 := and63 bk hbk.1 hbk.2
    rw [hm63]
    have hi : i ≤ (bk % 64).toNat := hi
    have hbn := bat_nn raw (i := (i : Int)) (by omega)
    rw [Int.tmod_eq_emod_of_nonneg hbn]
    refine ⟨fun d => ?_, fun d => ?_⟩ <;> simp only [decide_eq_true_eq, decide_eq_false_iff_not] at d
    · have d : (i : Int) < bk % 64 := d
      have b0 : (0 : Int) ≤ (i : Int) ∧ (i : Int) ≤ 1000000 := by omega
      have b5 : (0 : Int) ≤ bat raw (i : Int) % 5 ∧ bat raw (i : Int) % 5 ≤ bat raw (i : Int) % 5 ∧ ((56 : Nat) : Int) * (bat raw (i : Int) % 5) ≤ 140737488355328 := by omega
      have e1 : List.range (i + 1) = List.range i ++ [i] := List.range_succ
      refine ⟨by rw [inR_i64]; omega, b0, by decide, by rw [inR_i64]; omega, b5, ?_, rfl, by show (0 : Int) ≤ _ ∧ _ ≤ (255 : Int); omega, hm _ (i + 1) 2 (by show i + 1 ≤ _; omega) (by omega) ?_⟩
      · rw [List.length_map, List.length_range]; show (i + 1) * 24 ≤ _; omega
      · dsimp only [go_sem]
        rw [e1, List.map_append]
        simp [nbk]
        exact .inr rfl
    · have hS1 : (List.map (nbk raw) (List.range i)).length ≤ 63 := by rw [List.length_map, List.length_range]; omega
      have hS2 : ∀ b ∈ List.map (nbk raw) (List.range i), okB b = true ∧ bkP b ∧ b.length ≤ 4 := fun b hb => by
        obtain ⟨j, -, rfl⟩ := List.mem_map.1 hb
        exact ⟨(nbk_ok raw j).1, (nbk_ok raw j).2, nbk_len raw j⟩
      generalize List.map (nbk raw) (List.range i) = S at *
      have hsp : spP S := ⟨by omega, fun b hb => (hS2 b hb).2.1⟩
      have hv : vld S = true := by
        unfold vld
        rw [decide_eq_true (by omega), Bool.true_and, List.all_eq_true]
        exact fun b hb => (hS2 b hb).1
      have hc : cnt S = prd S := by unfold cnt; rw [if_pos hv]
      have hP := prd_pos S
      have hPl := prd_lt S fun b hb => (hsp.2 b hb).1
      have hB := Bp_mono hS1
      have dx : Ds (bnat x) := bnat_ds fun d hd => inR_u32.1 (hxr d hd)
      have hX := N_nonneg dx
      have hm0 := Int.emod_nonneg (N (bnat x)) (show prd S ≠ 0 by omega)
      have hm1 := Int.emod_lt_of_pos (N (bnat x)) (show 0 < prd S by omega)
      rw [hc, N_dg (show 0 ≤ prd S by omega)]
      simp only [if_neg (show ¬ prd S = 0 by omega)]
      rw [N_dg hm0]
      obtain ⟨w1, w2, w3⟩ := atW_ok S (N (bnat x) % prd S) hm0
      rw [Int.emod_eq_of_lt hm0 hm1] at w3
      have a1 : atR S (N (bnat x) % prd S) = ((atW S (N (bnat x) % prd S)).1, true) := by unfold atR; rw [if_pos (by rw [hc]; exact hm1)]
      have hbw := bwd_ok S raw
      obtain ⟨x1, x2⟩ := ixW_b hbw
      have i1 : ixR S (bwd S raw) = (dg (ixW S (bwd S raw)), true) := by
        unfold ixR cont
        rw [hbw, hv]; rfl
      have i2 : ixR S (atW S (N (bnat x) % prd S)).1 = (dg (N (bnat x) % prd S), true) := by
        unfold ixR cont
        rw [w1, hv, w3]; rfl
      have a2 : atR S (ixW S (bwd S raw)) = (bwd S raw, true) := by
        unfold atR
        rw [if_pos (by rw [hc]; exact x2)]
        have := atW_ix hbw 0 (Int.le_refl _)
        rw [Int.zero_mul, Int.zero_add] at this
        rw [this]
      have a3 : atR S (prd S + N (bnat x) % prd S) = ([], false) := by
        unfold atR
        rw [if_neg (by rw [hc]; omega)]
      have hBs : Bp 63 < Bp 64 := Bp_strict (by decide)
      have hB2 : Bp 64 = 4294967296 * Bp 63 := rfl
      have hB1 := Bp_pos 63
      have l1 := dg_len (c := 64) hm0 (by omega)
      have l2 := dg_len (n := prd S) (c := 64) (by omega) (by omega)
      have l3 := dg_len (n := prd S + N (bnat x) % prd S) (c := 64) (by omega) (by omega)
      have l4 := dg_len (c := 64) x1 (by omega)
      have hbl := bnat_len x
      rw [a1, i1]
      dsimp only
      rw [i2, N_dg x1, a2, N_dg (show 0 ≤ prd S + N (bnat x) % prd S by omega), a3]
      have hcm : cmpI (ixW S (bwd S raw)) (prd S) = -1 := by unfold cmpI; rw [if_pos x2]
      rw [hcm]
      have hsp1 : spP S ∧ S.length ≤ 1000 := ⟨hsp, by omega⟩
      have hne : prd S ≠ 0 := by omega
      refine ⟨hsp1, by omega, by omega, fun h => ?_, fun _ => ⟨hsp1, by omega, hsp1, by omega, by omega, hsp1, by omega, by omega, fun b hb => (hsp.2 b hb).1, hsp1, hsp1, by omega, rfl, rfl, by simp, rfl, rfl, rfl, by simp, by omega, by omega, by decide, trivial, trivial⟩⟩
      rw [decide_eq_true hne] at h
      exact absurd h (by decide)
end Go.Proofs.Ythjgfppmempbkaa.Gx
