/-
  The law WorldsVisits.
-/
import Derived.Test.YthjgfppmempbkaaW6
import Derived.Test.YthjgfppmempbkaaW5
namespace Go.Proofs.Ythjgfppmempbkaa.Gx
open Go Go.RowKit Tw B Nt
set_option linter.unusedVariables false
set_option linter.unusedSimpArgs false
set_option maxHeartbeats 4000000
set_option maxRecDepth 20000
theorem bprK_1 : ∀ k, k < 8 → 0 ≤ bprK k * Rat.divInt 1 2 ∧ bprK k * Rat.divInt 1 2 ≤ Rat.divInt 1 2 ∧ qs (bprK k * Rat.divInt 1 2) ≤ 1 := by decide +kernel
theorem bsF_ok (n : Int) (k : Nat) : 0 ≤ fq (bsF n k) ∧ fq (bsF n k) ≤ Rat.divInt 1 2 ∧ fs (bsF n k) ≤ 1 := by
  unfold bsF
  rw [fq_qf, fs_qf]
  exact bprK_1 _ (by omega)
theorem bsb_len (n : Int) : (bsb n).length ≤ 2 := by
  unfold bsb
  rw [List.length_map, List.length_range]
  omega
theorem bsb_mem {n : Int} {f : fT.den} (h : f ∈ bsb n) : 0 ≤ fq f ∧ fq f ≤ Rat.divInt 1 2 ∧ fs f ≤ 1 := by
  unfold bsb at h
  obtain ⟨k, -, rfl⟩ := List.mem_map.1 h
  exact bsF_ok n k
theorem half_le {b : Blk} (hl : b.length ≤ 2) (h : ∀ f ∈ b, fq f ≤ Rat.divInt 1 2) : qsum b ≤ 1 := by
  match b, hl, h with
  | [], _, _ => decide +kernel
  | [x], _, h =>
    have h1 := h x (by simp)
    have e : qsum [x] = fq x := by show (0 : Rat) + fq x = fq x; rw [Rat.zero_add]
    rw [e]
    exact Rat.le_trans h1 (by decide +kernel)
  | [x, y], _, h =>
    have h1 := h x (by simp)
    have h2 := h y (by simp)
    have e : qsum [x, y] = fq x + fq y := by show (0 : Rat) + fq x + fq y = _; rw [Rat.zero_add]
    rw [e]
    have h3 : fq x + fq y ≤ Rat.divInt 1 2 + fq y := Rat.add_le_add_right.2 h1
    have h4 : Rat.divInt 1 2 + fq y ≤ Rat.divInt 1 2 + Rat.divInt 1 2 := Rat.add_le_add_left.2 h2
    exact Rat.le_trans (Rat.le_trans h3 h4) (by decide +kernel)
  | _ :: _ :: _ :: _, hl, _ => simp at hl
theorem bsb_ok (n : Int) : okB (bsb n) = true ∧ bkP (bsb n) := by
  have hl := bsb_len n
  refine ⟨?_, by omega, fun f hf => Nat.le_trans (bsb_mem hf).2.2 (by decide)⟩
  unfold okB
  rw [decide_eq_true (by omega), Bool.true_and, Bool.and_eq_true]
  refine ⟨?_, decide_eq_true ?_⟩
  · rw [List.all_eq_true]
    exact fun f hf => decide_eq_true (bsb_mem hf).1
  · have := half_le hl fun f hf => (bsb_mem hf).2.1
    unfold rm
    have h2 := (Rat.le_iff_sub_nonneg _ _).1 this
    exact h2
theorem bspc_mem {l : List Int} {b : Blk} (h : b ∈ bspc l) : ∃ n, b = bsb n := by
  unfold bspc at h
  obtain ⟨i, -, rfl⟩ := List.mem_map.1 h
  exact ⟨_, rfl⟩
theorem bspc_len (l : List Int) : (bspc l).length ≤ 5 := by
  have := bat_nn l (i := 0) (by decide)
  unfold bspc
  rw [List.length_map, List.length_range]
  omega
theorem prd_le3 : ∀ (s : List Blk), (∀ b ∈ s, b.length ≤ 2) → prd s ≤ 3 ^ s.length
  | [], _ => by decide
  | b :: s, h => by
    have ih := prd_le3 s fun b hb => h b (List.mem_cons_of_mem _ hb)
    have hb := h b (List.mem_cons_self ..)
    have hP := prd_pos s
    have h1 := Int.mul_le_mul (show (b.length : Int) + 1 ≤ 3 by omega) ih (by omega) (by decide)
    rw [prd, List.length_cons, Int.pow_succ, Int.mul_comm]
    rw [Int.mul_comm] at h1
    rw [Int.mul_comm (3 ^ s.length)]
    rw [Int.mul_comm (prd s)]
    exact Int.le_trans (Int.le_of_eq (Int.mul_comm _ _)) h1
theorem bspc_ok (l : List Int) : vld (bspc l) = true ∧ spP (bspc l) ∧ prd (bspc l) ≤ 243 := by
  have hl := bspc_len l
  refine ⟨?_, ⟨by omega, fun b hb => ?_⟩, ?_⟩
  · unfold vld
    rw [decide_eq_true (by omega), Bool.true_and, List.all_eq_true]
    intro b hb
    obtain ⟨n, rfl⟩ := bspc_mem hb
    exact (bsb_ok n).1
  · obtain ⟨n, rfl⟩ := bspc_mem hb
    exact (bsb_ok n).2
  · have h1 := prd_le3 (bspc l) fun b hb => by obtain ⟨n, rfl⟩ := bspc_mem hb; exact bsb_len n
    have h2 : ∀ k, k ≤ 5 → (3 : Int) ^ k ≤ 243 := by decide
    exact Int.le_trans h1 (h2 _ hl)
@[go_sem] def lViS : Spec := ⟨[wdT], fun d => (.dat .bool true, [])⟩
theorem lVi_ok : SpecOk Try.prog 7 lViS := by
  refine fn_ok EW8_ok lViS Try.func7 rfl (by decide) (N := 75) rfl (res := [.tmp 2]) rfl (by decide) [(8, [(39, .tr false), (43, .tr false), (50, .tr false), (54, .tr false)]), (11, [(72, .tr true)])] [] [] 100 (by kernel_rfl) ?_
  rintro ⟨l, _⟩ hw hp
  refine ⟨rfl, fun H hH => ?_⟩
  dsimp only [go_sem] at hw hp ⊢
  obtain ⟨hv, hsp, hP3⟩ := bspc_ok l
  have hl5 := bspc_len l
  generalize bspc l = s at *
  have hsp1 : spP s ∧ s.length ≤ 1000 := ⟨hsp, by omega⟩
  have hP := prd_pos s
  refine ⟨hsp, ?_⟩
  refine hH.loop (fun n : Nat => ⟨[(3, .ref 0 0), (4, .dat wdT (if (n : Int) < prd s then wn s n else [])), (5, .dat .bool (decide ((n : Int) < prd s))), (6, .dat (.int .u64) (n : Int))], [(0, .box 26 (.cons (.dat (.slice bkT) s) .nil))], 1⟩) (fun n => (n : Int) ≤ prd s) (fun n => 300 - n) 0 1 (by show ((0 : Nat) : Int) ≤ prd s; omega) ?_ ?_
  · dsimp only [go_sem]
    have hf : fsR s = fst s := by unfold fsR; rw [if_pos hv]
    have hw0 : wn s 0 = fst s := at_fst s
    have hP0 : ((0 : Nat) : Int) < prd s := by omega
    simp [hf, hw0, hP0]
    omega
  · intro n hn R hm
    refine hH.run 100 _ _ ?_
    dsimp only [go_sem]
    have hc : cnt s = prd s := by unfold cnt; rw [if_pos hv]
    refine ⟨fun h => h, fun h => h, fun d => ?_, fun d => ?_⟩
    · simp only [Bool.and_eq_true, decide_eq_true_eq] at d
      obtain ⟨d1, -⟩ := d
      obtain ⟨w1, w2⟩ := wn_ok d1
      have a1 : atR s (n : Int) = (wn s n, true) := by unfold atR; rw [if_pos (by rw [hc]; exact d1)]; rfl
      have i1 : ixR s (wn s n) = (dg (n : Int), true) := by unfold ixR cont; rw [w1, hv, w2]; rfl
      have c1 : cont s (wn s n) = true := by unfold cont; rw [w1, hv]; rfl
      have n1 : nxR s (wn s n) = (if (n : Int) + 1 < prd s then wn s (n + 1) else [], decide ((n : Int) + 1 < prd s)) := by
        unfold nxR
        rw [if_pos c1, nxt_wn d1]
        by_cases h : (n : Int) + 1 < prd s
        · rw [if_pos h, if_pos h, decide_eq_true h]
        · rw [if_neg h, if_neg h, decide_eq_false h]
      have l1 := dg_len (n := (n : Int)) (c := 1) (by omega) (by show (n : Int) < 4294967296 * 1; omega)
      have hcm : cmpI (n : Int) (n : Int) = 0 := by unfold cmpI; rw [if_neg (by omega), if_pos rfl]
      rw [if_pos d1, i1, N_dg (show (0 : Int) ≤ (n : Int) by omega), a1, c1, n1]
      dsimp only
      rw [hcm]
      refine ⟨hsp1, hsp1, by omega, hsp, rfl, rfl, by omega, by omega, by decide, rfl, fun h => absurd h (by simp), fun _ => ⟨hsp, by rw [u64R']; omega, hm _ (n + 1) 1 (by show ((n + 1 : Nat) : Int) ≤ _; omega) (by omega) ?_⟩⟩
      dsimp only [go_sem]
      simp
    · have hn : (n : Int) ≤ prd s := hn
      simp only [Bool.and_eq_false_iff, decide_eq_false_iff_not] at d
      have hnP : (n : Int) = prd s := by omega
      have hcm : cmpI (prd s) (prd s) = 0 := by unfold cmpI; rw [if_neg (by omega), if_pos rfl]
      have l1 := dg_len (n := prd s) (c := 1) (by omega) (by show prd s < 4294967296 * 1; omega)
      rw [hc, hnP, N_dg (show 0 ≤ prd s by omega), hcm]
      exact ⟨hsp1, by omega, by omega, by decide, rfl, trivial⟩
end Go.Proofs.Ythjgfppmempbkaa.Gx
