/-
  The law WorldsConcat.
-/
import Derived.Test.YthjgfppmempbkaaW9
import Derived.Test.YthjgfppmempbkaaW8
import Derived.Test.YthjgfppmempbkaaW5
namespace Go.Proofs.Ythjgfppmempbkaa.Gx
open Go Go.RowKit Tw B Nt
set_option linter.unusedVariables false
set_option linter.unusedSimpArgs false
set_option maxHeartbeats 4000000
set_option maxRecDepth 20000
theorem canB_bsb (n : Int) : canB (bsb n) = bsb n := by
  unfold canB bsb
  rw [List.map_map]
  refine List.map_congr_left fun k _ => ?_
  show qf (fq (bsF n k)) = bsF n k
  unfold bsF
  rw [fq_qf]
theorem canB_bspc (a : List Int) : (bspc a).map canB = bspc a := by
  have : (bspc a).map canB = (bspc a).map id := List.map_congr_left fun b hb => by
    obtain ⟨n, rfl⟩ := bspc_mem hb
    exact canB_bsb n
  rw [this, List.map_id]
theorem wk_app : ∀ {s t : List Blk} {w z : List Int}, wk s w = true → wk t z = true → wk (s ++ t) (w ++ z) = true
  | [], t, [], z, _, h => h
  | b :: s, t, c :: w, z, h1, h2 => by
    have h1 : (decide (-1 ≤ c ∧ c < (b.length : Int)) && wk s w) = true := h1
    rw [Bool.and_eq_true] at h1
    show (decide (-1 ≤ c ∧ c < (b.length : Int)) && wk (s ++ t) (w ++ z)) = true
    rw [h1.1, wk_app h1.2 h2]; rfl
  | [], _, _ :: _, _, h, _ => by cases h
  | _ :: _, _, [], _, h, _ => by cases h
theorem wpr_app : ∀ {s t : List Blk} {w z : List Int}, wk s w = true → wpr (s ++ t) (w ++ z) = wpr s w * wpr t z
  | [], t, [], z, _ => by show wpr t z = 1 * wpr t z; rw [Rat.one_mul]
  | b :: s, t, c :: w, z, h1 => by
    have h1 : (decide (-1 ≤ c ∧ c < (b.length : Int)) && wk s w) = true := h1
    rw [Bool.and_eq_true] at h1
    show chq b c * wpr (s ++ t) (w ++ z) = chq b c * wpr s w * wpr t z
    rw [wpr_app h1.2, Rat.mul_assoc]
  | [], _, _ :: _, _, h => by cases h
  | _ :: _, _, [], _, h => by cases h
theorem vld_app {s t : List Blk} (h1 : vld s = true) (h2 : vld t = true) (hl : s.length + t.length ≤ 4096) : vld (s ++ t) = true := by
  unfold vld at *
  rw [Bool.and_eq_true] at h1 h2 ⊢
  rw [List.all_append, h1.2, h2.2]
  exact ⟨decide_eq_true (by rw [List.length_append]; exact hl), rfl⟩
theorem spP_app {s t : List Blk} (h1 : spP s) (h2 : spP t) (hl : s.length + t.length ≤ 5000) : spP (s ++ t) := by
  refine ⟨by rw [List.length_append]; exact hl, fun b hb => ?_⟩
  rcases List.mem_append.1 hb with h | h
  · exact h1.2 b h
  · exact h2.2 b h
theorem neg_bad : vld [[qf (bfr 0)]] = false := by
  have hb : decide (0 ≤ bfr 0) = false := by decide +kernel
  unfold vld
  rw [decide_eq_true (by decide), Bool.true_and]
  show ((okB [qf (bfr 0)]) && true) = false
  unfold okB
  have : ([qf (bfr 0)].all fun f => decide (0 ≤ fq f)) = (decide (0 ≤ fq (qf (bfr 0))) && true) := rfl
  rw [this, fq_qf, hb]
  rfl
theorem vld_rep (n : Nat) (hn : n ≤ 4096) : vld (List.replicate n []) = true := by
  have hb : okB [] = true := by decide +kernel
  unfold vld
  rw [List.length_replicate, decide_eq_true hn, Bool.true_and, List.all_eq_true]
  intro b h
  rw [List.eq_of_mem_replicate h]
  exact hb
theorem spP_rep (n : Nat) (hn : n ≤ 5000) : spP (List.replicate n []) := by
  refine ⟨by rw [List.length_replicate]; exact hn, fun b h => ?_⟩
  rw [List.eq_of_mem_replicate h]
  exact ⟨by decide, fun f hf => by cases hf⟩
theorem bspc_qs (l : List Int) : ∀ b ∈ bspc l, ∀ c, qs (chq b c) ≤ 12 := fun b hb => by
  obtain ⟨n, rfl⟩ := bspc_mem hb
  refine chq_sz (fun f hf => ?_) (bsb_len n) fun f hf => (bsb_mem hf).2.2
  unfold bsb at hf
  obtain ⟨k, -, rfl⟩ := List.mem_map.1 hf
  exact wfD_qf (by have := (bsF_ok n k).2.2; unfold bsF at this; rw [fs_qf] at this; omega)
@[go_sem] def lCoS : Spec := ⟨[wdT, wdT, wdT, wdT], fun d => (.dat .bool true, [])⟩
theorem lCo_ok : SpecOk Try.prog 4 lCoS := by
  refine fn_ok EWD_ok lCoS Try.func4 rfl (by decide) (N := 140) rfl (res := [.tmp 8]) rfl (by decide) [(7, [(67, .fz 6), (1000000, .mx [(2, 1), (4, 1), (12, 10), (0, 3000000), (9, 1000000), (2000000, 10)])]), (8, [(74, .dt), (76, .dt), (1000000, .mx [(12, 10), (9, 1000000), (2000000, 10)])]), (9, [(82, .dt), (84, .dt), (1000000, .mx [(10, 8), (7, 1000000), (2000000, 8)])]), (10, [(91, .tr true), (95, .tr true), (100, .tr true), (104, .tr true), (108, .tr true), (112, .tr true), (119, .tr true), (129, .tr true), (133, .tr true), (137, .tr true)])] [] [] 100 (by kernel_rfl) ?_
  rintro ⟨a, b, x, y, _⟩ hw hp
  refine ⟨rfl, fun H hH => ?_⟩
  dsimp only [go_sem] at hw hp ⊢
  obtain ⟨va, sa, pa⟩ := bspc_ok a
  obtain ⟨vb, sb, pb⟩ := bspc_ok b
  have la := bspc_len a
  have lb := bspc_len b
  have qa := bspc_qs a
  have qb := bspc_qs b
  have hcc : ccW (bspc a) (bspc b) = (bspc a ++ bspc b, 0) := by
    unfold ccW
    rw [va, vb, if_pos (show (true && true) = true from rfl), if_pos (by omega), List.map_append, canB_bspc, canB_bspc]
  have wa := bwd_ok (bspc a) x
  have wb := bwd_ok (bspc b) y
  rw [hcc]
  dsimp only
  generalize bspc a = s at *
  generalize bspc b = t at *
  have lwa : (bwd s x).length = s.length := wk_len wa
  have lwb : (bwd t y).length = t.length := wk_len wb
  generalize bwd s x = w at *
  generalize bwd t y = z at *
  have vst := vld_app va vb (by omega)
  have sst := spP_app sa sb (by omega)
  have p1 : prW s w = (qf (wpr s w), 0) := by unfold prW cont; rw [wa, va]; rfl
  have p2 : prW t z = (qf (wpr t z), 0) := by unfold prW cont; rw [wb, vb]; rfl
  have p3 : prW (s ++ t) (w ++ z) = (qf (wpr s w * wpr t z), 0) := by unfold prW cont; rw [wk_app wa wb, vst, wpr_app wa]; rfl
  have z1 := wpr_sz (w := w) qa
  have z2 := wpr_sz (w := z) qb
  have c1 : cnt s = prd s := by unfold cnt; rw [if_pos va]
  have c2 : cnt t = prd t := by unfold cnt; rw [if_pos vb]
  have c3 : cnt (s ++ t) = prd s * prd t := by unfold cnt; rw [if_pos vst, prd_app]
  have k1 := prd_pos s
  have k2 := prd_pos t
  have e1 := cnt_len sa (by omega)
  have e2 := cnt_len sb (by omega)
  have f1 : (ccW s [[qf (bfr 0)]]).2 = 1 := by unfold ccW; rw [neg_bad, Bool.and_false]; rfl
  have f2 : (ccW (List.replicate 4096 []) (List.replicate 1 [])).2 = 4 := by
    unfold ccW
    rw [vld_rep 4096 (by decide), vld_rep 1 (by decide), if_pos (show (true && true) = true from rfl), List.length_replicate, List.length_replicate, if_neg (by decide)]
  have hq0 : qs (bfr 0) ≤ 1000 := by
    have := qs_le (bfr_b 0)
    omega
  rw [p1, p2, p3]
  dsimp only
  rw [fs_qf, fs_qf, fq_qf, fq_qf, c1, c2, c3, N_dg (show 0 ≤ prd s by omega), N_dg (show 0 ≤ prd t by omega)]
  rw [c1] at e1
  rw [c2] at e2
  have ls : (s ++ t).length ≤ 30 := by rw [List.length_append]; omega
  refine ⟨sa, sb, sa, sb, by omega, fun b hb => (sa.2 b hb).1, by omega, fun b hb => (sb.2 b hb).1, ⟨sa, by omega⟩, ⟨sb, by omega⟩, ?_, rfl, ?_, rfl, ⟨sst, ls⟩, sa, ⟨by decide, fun b hb => ?_⟩, by decide, by decide, spP_rep 4096 (by decide), spP_rep 1 (by decide), rfl, rfl, decide_eq_true rfl, rfl, rfl, rfl, by omega, by omega, decide_eq_true ⟨rfl, rfl, rfl⟩, ⟨sst, by omega⟩, ⟨sa, by omega⟩, ⟨sb, by omega⟩, by omega, by omega, decide_eq_true rfl, decide_eq_true f1, decide_eq_true f2, rfl, trivial⟩
  · show ([].length + w.length) * 8 ≤ _
    simp only [List.length_nil]
    omega
  · omega
  · rw [List.mem_singleton.1 hb]
    refine ⟨by decide, fun f hf => ?_⟩
    rw [List.mem_singleton.1 hf, fs_qf]
    exact hq0
end Go.Proofs.Ythjgfppmempbkaa.Gx
