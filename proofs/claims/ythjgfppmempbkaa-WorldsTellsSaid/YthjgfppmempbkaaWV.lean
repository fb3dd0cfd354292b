/-
  The law WorldsTells.
-/
import Derived.Test.YthjgfppmempbkaaWU
import Derived.Test.YthjgfppmempbkaaWT
import Derived.Test.YthjgfppmempbkaaW8
namespace Go.Proofs.Ythjgfppmempbkaa.Gx
open Go Go.RowKit Tw B Nt
set_option linter.unusedVariables false
set_option linter.unusedSimpArgs false
set_option maxHeartbeats 4000000
set_option maxRecDepth 20000
@[go_sem] noncomputable def EWG : Env := (EWF).addM 21 bSpM
theorem EWG_ok : EWG.Ok := (EWF_ok).addM bSpM_ok
@[go_sem] def lTeS : Spec := ⟨[wdT, wdT, wdT, .int .i64], fun d => (.dat .bool true, [])⟩
theorem lTe_ok : SpecOk Try.prog 6 lTeS := by
  refine fn_ok EWG_ok lTeS Try.func6 rfl (by decide) (N := 192) rfl (res := [.tmp 8]) rfl (by decide) [(3, [(27, .ow)]), (5, [(47, .dt), (48, .ns), (1000000, .mx [(0, 1000000), (1, 3000000)])]), (6, [(55, .dt)]), (15, [(91, .tr false), (95, .tr false)]), (18, [(100, .tr false), (102, .tr false), (107, .tr false), (112, .tr false)]), (21, [(121, .tr false), (128, .tr false), (133, .tr false), (139, .tr false), (147, .tr false)]), (26, [(169, .tr false)]), (28, [(174, .tr true), (180, .tr true), (187, .tr true)])] [] [6] 100 (by kernel_rfl) ?_
  rintro ⟨l, w, raw, (n:Int), _⟩ hw hp
  refine ⟨rfl, fun H hH => ?_⟩
  dsimp only [go_sem] at hw hp ⊢
  obtain ⟨hwl, hww, hwr, hwn, -⟩ := hw
  obtain ⟨hv, hsp, -⟩ := bspc_ok l
  have hl5 := bspc_len l
  apply both (H := H) (inv := fun s : List Blk => ⟨[(0, .dat wdT l), (1, .dat wdT w), (2, .dat wdT raw), (3, .dat (.int .i64) n), (9, .ref 2 0)], [(2, .box 26 (.cons (.dat (.slice bkT) s) .nil))], 3⟩) (Q := fun s => spP s ∧ s.length ≤ 5)
  · intro key
    refine ⟨fun _ => ⟨rfl, trivial⟩, fun hw12 => ⟨fun h => h, fun h => h, fun h => h, fun hc => ?_, fun hc => ?_⟩⟩
    · simp only [Bool.and_eq_true, decide_eq_true_eq] at hc
      obtain ⟨hc1, hc2⟩ := hc
      have hmem := getD_mem (l := bspc l) (i := 0) ([] : Blk) (by omega)
      have hb := hsp.2 _ hmem
      obtain ⟨m, hm⟩ := bspc_mem hmem
      have hbl : ((bspc l).getD 0 []).length ≤ 2 := by rw [hm]; exact bsb_len m
      have hq : fs (qf (bfr (shrI .i64 n 3))) ≤ 1 := by rw [fs_qf]; exact qs_le (bfr_b _)
      refine ⟨⟨Int.le_refl _, hc1⟩, by omega, by decide, ?_, rfl, ⟨Int.le_refl _, hc1⟩, ⟨rfl, rfl⟩, hH.weak _ 3 ?_ (key ((bspc l).set 0 ((bspc l).getD 0 [] ++ [qf (bfr (shrI .i64 n 3))])) ⟨⟨?_, ?_⟩, ?_⟩)⟩
      · show (((bspc l).getD 0 []).length + 1) * 56 ≤ _
        omega
      · dsimp only [go_sem]
        simp
      · rw [List.length_set]; omega
      · intro b hb'
        rcases List.mem_or_eq_of_mem_set hb' with h | rfl
        · exact hsp.2 b h
        · refine ⟨by rw [List.length_append]; show ((bspc l).getD 0 []).length + 1 ≤ 100; omega, fun f hf => ?_⟩
          rcases List.mem_append.1 hf with hf | hf
          · exact hb.2 f hf
          · rw [List.mem_singleton] at hf
            rw [hf]; omega
      · rw [List.length_set]; exact hl5
    · refine hH.weak _ 3 ?_ (key (bspc l) ⟨hsp, hl5⟩)
      dsimp only [go_sem]
      simp
  · rintro s ⟨hs, hl⟩
    refine hH.go [] 100 _ _ ?_
    dsimp only [go_sem]
    refine ⟨hs.1, fun b hb => (hs.2 b hb).1, ?_⟩
    obtain ⟨L, hL⟩ : ∃ L : List (List Int), L = [bwd s raw, w] := ⟨_, rfl⟩
    rw [← hL]
    have hL2 : L.length = 2 := by rw [hL]; rfl
    clear hL
    have hs1 : spP s ∧ s.length ≤ 1000 := ⟨hs, by omega⟩
    have hs30 : spP s ∧ s.length ≤ 30 := ⟨hs, by omega⟩
    have hs8 : spP s ∧ s.length ≤ 8 := ⟨hs, by omega⟩
    refine hH.loop (fun i : Nat => ⟨[(9, .ref 2 0), (10, .dat (.slice wdT) L), (11, .dat (.int .i64) (i : Int))], [(2, .box 26 (.cons (.dat (.slice bkT) s) .nil))], 3⟩) (fun i => i ≤ 2) (fun i => 2 - i) 0 3 (Nat.zero_le _) ?_ ?_
    · dsimp only [go_sem]
      simp
    · intro i hi R hm
      refine hH.run 100 _ _ ?_
      dsimp only [go_sem]
      rw [Int.toNat_natCast]
      refine ⟨fun d => ?_, fun d => ?_⟩ <;> simp only [decide_eq_true_eq, decide_eq_false_iff_not] at d
      · have d : i < L.length := by omega
        have b1 : (0 : Int) ≤ (i : Int) ∧ (i : Int) < (L.length : Int) := by omega
        generalize L.getD i (zd wdT) = x at *
        have e1 : prW s x = if cont s x then (qf (wpr s x), 0) else ((false, [], []), 1) := rfl
        have e2 : nxR s x = if cont s x then nxV s x else ([], false) := rfl
        have e3 : ixR s x = if cont s x then (dg (ixW s x), true) else ([], false) := rfl
        have e4 : cont s x = true → wk s x = true := fun h => by unfold cont at h; rw [Bool.and_eq_true] at h; exact h.1
        refine ⟨b1, hs, hs30, hs, hs1, hs, by simp, by rw [e3]; cases cont s x <;> simp, fun h => ?_, fun h => ?_⟩ <;> simp only [Bool.not_eq_true', Bool.not_eq_false'] at h
        · rw [if_neg (by rw [h]; decide)] at e1 e2 e3
          refine ⟨by rw [e1]; simp, by rw [e2], by rw [e2]; simp, by rw [e3]; simp, by rw [inR_i64]; omega, hm _ (i + 1) 3 (by show i + 1 ≤ 2; omega) (by omega) ?_⟩
          dsimp only [go_sem]
          simp
        · rw [if_pos h] at e1 e2 e3
          have e4 := e4 h
          refine ⟨hs, e4, by rw [e1]; simp, hs8, e4, by rw [e1]; simp, by rw [e2]; simp, by rw [e2]; simp, hs1, e4, by rw [e3]; simp, by rw [inR_i64]; omega, hm _ (i + 1) 3 (by show i + 1 ≤ 2; omega) (by omega) ?_⟩
          dsimp only [go_sem]
          simp
      · refine hH.loop (fun i : Nat => ⟨[(9, .ref 2 0), (22, .dat (.int .i64) (i : Int))], [(2, .box 26 (.cons (.dat (.slice bkT) s) .nil))], 3⟩) (fun i => i ≤ s.length) (fun i => s.length - i) 0 3 (Nat.zero_le _) ?_ ?_
        · dsimp only [go_sem]
          simp
        · intro i hi R hm
          refine hH.run 100 _ _ ?_
          dsimp only [go_sem]
          rw [Int.toNat_natCast]
          refine ⟨fun d => ?_, fun d => ?_⟩ <;> simp only [decide_eq_true_eq, decide_eq_false_iff_not] at d
          · have d : i < s.length := by omega
            have b1 : (0 : Int) ≤ (i : Int) ∧ (i : Int) < (s.length : Int) := by omega
            have hmem := getD_mem (l := s) (zd bkT) d
            have hb := hs.2 _ hmem
            generalize s.getD i (zd bkT) = b at *
            refine ⟨b1, hb, b1, hb, by simp, by rw [inR_i64]; omega, hm _ (i + 1) 3 (by show i + 1 ≤ s.length; omega) (by omega) ?_⟩
            dsimp only [go_sem]
            simp
          · exact ⟨hs, hs, by simp, hs1, hs1, by simp, hs, hs, by simp, rfl, trivial⟩
end Go.Proofs.Ythjgfppmempbkaa.Gx
