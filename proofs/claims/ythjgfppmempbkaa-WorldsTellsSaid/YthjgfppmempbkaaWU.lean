/-
  Worlds: the reference's Contains, Prob, First, Next, Index, Count.
-/
import Derived.Test.YthjgfppmempbkaaW9
namespace Go.Proofs.Ythjgfppmempbkaa.Gx
open Go Go.RowKit Tw B Nt
set_option linter.unusedVariables false
set_option linter.unusedSimpArgs false
set_option maxHeartbeats 4000000
set_option maxRecDepth 20000
@[go_sem] def rConS : Spec := ⟨[spT, wdT], fun d => (.dat .bool (cont d.1 d.2.1), [spP d.1])⟩
theorem rCon_ok : SpecOk Try.prog 36 rConS := by
  refine fn_ok EWD_ok rConS Try.func36 rfl (by decide) (N := 42) rfl (res := [.tmp 4]) rfl (by decide) [] [] [] 100 (by kernel_rfl) ?_
  rintro ⟨s, w, _⟩ hw hp
  refine ⟨rfl, fun H hH => ?_⟩
  dsimp only [go_sem] at hw hp ⊢
  obtain ⟨hs, -⟩ := hp
  have hc : cont s w = (wk s w && vld s) := rfl
  refine ⟨hs, fun h => h, fun h => h, fun h => h, fun h => h, fun h => h, fun h => h, fun h => ?_, fun h => ?_⟩
  · simp only [Bool.or_eq_true, Bool.not_eq_true', decide_eq_true_eq] at h
    have : cont s w = false := by
      rw [hc, Bool.and_eq_false_iff]
      rcases h with h | h
      · exact .inr h
      · left
        rw [Bool.eq_false_iff]
        intro hw
        have := wk_len hw
        omega
    rw [this]
    exact ⟨rfl, trivial⟩
  simp only [Bool.or_eq_false_iff, Bool.not_eq_false', decide_eq_false_iff_not] at h
  obtain ⟨hv, h⟩ := h
  have hl : List.length w = List.length s := by omega
  refine hH.loop (fun i : Nat => ⟨[(1, .dat wdT w), (2, .ref 0 0), (5, .dat (.int .i64) (i : Int))], [(0, .box 26 (.cons (.dat (.slice bkT) s) .nil))], 1⟩) (fun i => i ≤ List.length s ∧ ∀ j, j < i → -1 ≤ List.getD w j 0 ∧ List.getD w j 0 < ((List.getD s j []).length : Int)) (fun i => List.length s - i) 0 1 ⟨Nat.zero_le _, fun j hj => absurd hj (Nat.not_lt_zero _)⟩ ?_ ?_
  · dsimp only [go_sem]
    simp
  · intro i ⟨hi, hall⟩ R hm
    refine hH.run 100 _ _ ?_
    dsimp only [go_sem]
    rw [Int.toNat_natCast]
    have hz : (zd (Ty.int IntKind.i64)) = (0 : Int) := rfl
    rw [hz]
    refine ⟨fun d => ?_, fun d => ?_⟩ <;> simp only [decide_eq_true_eq, decide_eq_false_iff_not] at d
    · have d : i < List.length s := by omega
      have hzb : List.getD s i (zd bkT) = List.getD s i [] := rfl
      rw [hzb]
      have b1 : (0 : Int) ≤ (i : Int) ∧ (i : Int) < (List.length s : Int) := by omega
      have b2 : (0 : Int) ≤ (i : Int) ∧ (i : Int) < (List.length w : Int) := by omega
      refine ⟨b2, fun h => h, fun h => h, fun _ => b2, fun h => h, fun h => h, fun h => h, fun h => h, fun _ => b1, fun h => h, fun h => h, fun h => h, fun h => h, fun h => h, fun h => h, fun e => ?_, fun e => ?_⟩
      · have : wk s w = false := by
          rw [Bool.eq_false_iff]
          intro hwk
          have := (wk_iff.1 hwk).2 i (by omega)
          simp only [Bool.or_eq_true, decide_eq_true_eq] at e
          omega
        rw [hc, this]
        exact ⟨rfl, trivial⟩
      · simp only [Bool.or_eq_false_iff, decide_eq_false_iff_not] at e
        refine ⟨by rw [inR_i64]; omega, hm _ (i + 1) 1 ⟨d, fun j hj => ?_⟩ (by omega) ?_⟩
        · rcases Nat.lt_or_ge j i with h' | h'
          · exact hall j h'
          · have : j = i := by omega
            subst this
            exact ⟨Int.not_lt.1 e.1, Int.not_le.1 e.2⟩
        · dsimp only [go_sem]
          simp
    · have : wk s w = true := wk_iff.2 ⟨hl, fun j hj => hall j (by omega)⟩
      rw [hc, this, hv]
      exact ⟨rfl, trivial⟩
@[go_sem] def rChS : Spec := ⟨[bkT, .int .i64], fun d => (.dat fT (qf (chq d.1 d.2.1)), [bkP d.1, d.2.1 < (List.length d.1 : Int)])⟩
theorem rCh_ok : SpecOk Try.prog 68 rChS := by
  refine fn_ok EWD_ok rChS Try.func68 rfl (by decide) (N := 15) rfl (res := [.cell 4 53]) rfl (by decide) [] [] [] 100 (by kernel_rfl) ?_
  rintro ⟨b, (c:Int), _⟩ hw hp
  refine ⟨rfl, fun H hH => ?_⟩
  dsimp only [go_sem] at hw hp ⊢
  obtain ⟨hb, hc, -⟩ := hp
  refine ⟨fun g => ?_, fun g => ?_⟩ <;> simp only [decide_eq_true_eq, decide_eq_false_iff_not] at g
  · have hch : chq b c = rm b := by unfold chq; rw [if_pos g]
    rw [hch]
    exact ⟨hb, rfl, trivial⟩
  · have hch : chq b c = fq (b.getD c.toNat (false, [], [])) := by unfold chq; rw [if_neg g]
    have hzf : List.getD b c.toNat (zd (Ty.bool.pair ((Ty.int IntKind.u32).slice.pair (Ty.int IntKind.u32).slice))) = b.getD c.toNat (false, [], []) := rfl
    have hc' : c < (List.length b : Int) := hc
    have hfm := getD_mem (l := b) (i := c.toNat) (false, [], []) (by omega)
    have hsf := hb.2 _ hfm
    rw [hzf, hch]
    exact ⟨⟨Int.not_lt.1 g, hc⟩, by omega, rfl, trivial⟩
@[go_sem] noncomputable def EWE : Env := ((EWD).add 36 rConS).add 68 rChS
theorem EWE_ok : EWE.Ok := ((EWD_ok).add rCon_ok).add rCh_ok
@[go_sem] def rPrS : Spec := ⟨[spT, wdT], fun d => (.dat fT (qf (wpr d.1 d.2.1)), [spP d.1 ∧ List.length d.1 ≤ 8, wk d.1 d.2.1 = true])⟩
theorem rPr_ok : SpecOk Try.prog 39 rPrS := by
  refine fn_ok EWE_ok rPrS Try.func39 rfl (by decide) (N := 27) rfl (res := [.cell 4 53]) rfl (by decide) [] [] [] 100 (by kernel_rfl) ?_
  rintro ⟨s, w, _⟩ hw hp
  refine ⟨rfl, fun H hH => ?_⟩
  dsimp only [go_sem] at hw hp ⊢
  obtain ⟨⟨hs, hl⟩, hkw, -⟩ := hp
  obtain ⟨hlw, hrng⟩ := wk_iff.1 hkw
  have hwb : ∀ b ∈ s, ∀ f ∈ b, wfD fT f := fun b hb => (hw.1.2 b hb).2
  refine hH.loop (fun i : Nat => ⟨[(1, .dat wdT w), (2, .ref 0 0), (4, .ref 1 0), (5, .ref 2 0), (6, .dat (.int .i64) (i : Int))], [(0, .box 26 (.cons (.dat (.slice bkT) s) .nil)), (1, .box 53 (zA fT .nil)), (2, .box 53 (dA fT (qf (wpr (List.take i s) (List.take i w))) .nil))], 3⟩) (fun i => i ≤ List.length s ∧ qs (wpr (List.take i s) (List.take i w)) ≤ 100210 * i + 1) (fun i => List.length s - i) 0 3 ⟨Nat.zero_le _, qs_one⟩ ?_ ?_
  · dsimp only [go_sem]
    simp [wpr]
  · intro i ⟨hi, hq⟩ R hm
    refine hH.run 100 _ _ ?_
    dsimp only [go_sem]
    rw [Int.toNat_natCast]
    have hz : (zd (Ty.int IntKind.i64)) = (0 : Int) := rfl
    rw [hz]
    refine ⟨fun d => ?_, fun d => ?_⟩ <;> simp only [decide_eq_true_eq, decide_eq_false_iff_not] at d
    · have d : i < List.length s := by omega
      have hr0 := hrng i (by omega)
      have hzb : List.getD s i (zd bkT) = List.getD s i [] := rfl
      rw [hzb]
      have hmem := getD_mem (l := s) [] d
      have htk := take_get s i [] d
      have htw := take_get0 (w := w) (i := i) (by omega)
      generalize List.getD s i [] = b at *
      generalize List.getD w i 0 = c at *
      have e := wpr_snoc (s := List.take i s) (w := List.take i w) b c (by rw [len_take (by omega), len_take (by omega)])
      rw [← htk, ← htw] at e
      obtain ⟨hb1, hb2⟩ := hs.2 b hmem
      obtain ⟨z1, z2⟩ := rm_sz (hwb b hmem) ⟨hb1, hb2⟩
      have b1 : (0 : Int) ≤ (i : Int) ∧ (i : Int) < (List.length s : Int) := by omega
      have b2 : (0 : Int) ≤ (i : Int) ∧ (i : Int) < (List.length w : Int) := by omega
      rw [fq_qf, fq_qf]
      have hmul := qs_mul (wpr (List.take i s) (List.take i w)) (chq b c)
      rw [← e] at hmul
      have hcq : qs (chq b c) ≤ 100210 := by
        unfold chq
        split
        · omega
        · have hfm := getD_mem (l := b) (i := c.toNat) (false, [], []) (by omega)
          have hsf := hb2 _ hfm
          have hqf := qs_fq (fd_of (hwb b hmem _ hfm))
          omega
      refine ⟨b1, b2, ⟨hb1, hb2⟩, hr0.2, by rw [fs_qf]; omega, by rw [fs_qf]; omega, by rw [inR_i64]; omega, hm _ (i + 1) 3 ⟨d, by omega⟩ (by omega) ?_⟩
      dsimp only [go_sem]
      rw [e]
      simp
    · rw [List.take_of_length_le (by omega), List.take_of_length_le (by omega)]
      exact ⟨rfl, trivial⟩
@[go_sem] def rFsS : Spec := ⟨[spT], fun d => (.dat wdT (fsR d.1), [spP d.1])⟩
theorem rFs_ok : SpecOk Try.prog 45 rFsS := by
  refine fn_ok EWE_ok rFsS Try.func45 rfl (by decide) (N := 30) rfl (res := [.tmp 2]) rfl (by decide) [] [(9, [1])] [] 100 (by kernel_rfl) ?_
  rintro ⟨s, _⟩ hw hp
  refine ⟨rfl, fun H hH => ?_⟩
  dsimp only [go_sem] at hw hp ⊢
  obtain ⟨hs, -⟩ := hp
  have hr : fsR s = if vld s then fst s else [] := rfl
  refine ⟨hs, fun h => ?_, fun h => ?_⟩ <;> simp only [Bool.not_eq_true', Bool.not_eq_false'] at h
  · rw [hr, if_neg (by rw [h]; decide)]
    exact ⟨rfl, trivial⟩
  rw [if_pos h] at hr
  have hsl := hs.1
  refine ⟨⟨Int.natCast_nonneg _, Int.le_refl _, by show (8 : Int) * (List.length s : Int) ≤ 140737488355328; omega⟩, ?_⟩
  rw [Int.toNat_natCast]
  have hz : (zd (Ty.int IntKind.i64)) = (0 : Int) := rfl
  rw [hz]
  refine hH.loop (fun i : Nat => ⟨[(1, .ref 0 0), (3, .own 1), (4, .dat (.int .i64) (i : Int))], [(0, .box 26 (.cons (.dat (.slice bkT) s) .nil)), (1, .row 3 (.int .i64) (fst (List.take i s) ++ List.replicate (List.length s - i) 0))], 2⟩) (fun i => i ≤ List.length s) (fun i => List.length s - i) 0 2 (Nat.zero_le _) ?_ ?_
  · dsimp only [go_sem]
    simp [fst]
  · intro i hi R hm
    refine hH.run 100 _ _ ?_
    dsimp only [go_sem]
    rw [Int.toNat_natCast]
    have hlen : (fst (List.take i s) ++ List.replicate (List.length s - i) (0 : Int)).length = List.length s := by
      have hi : i ≤ List.length s := hi
      unfold fst; rw [List.length_append, List.length_map, len_take (by omega), List.length_replicate]; omega
    rw [hlen]
    refine ⟨fun d => ?_, fun d => ?_⟩ <;> simp only [decide_eq_true_eq, decide_eq_false_iff_not] at d
    · have d : i < List.length s := by omega
      have hzb : List.getD s i (zd bkT) = List.getD s i [] := rfl
      rw [hzb]
      have htk := take_get s i [] d
      generalize List.getD s i [] = b at *
      have e := fun x => set_rep (fst (List.take i s)) x (List.length s - (i + 1)) (i := i) (by unfold fst; rw [List.length_map, len_take (by omega)])
      rw [show List.length s - (i + 1) + 1 = List.length s - i by omega] at e
      have e2 : fst (List.take (i + 1) s) = fst (List.take i s) ++ [chc b 0] := by rw [htk]; unfold fst; rw [List.map_append]; rfl
      have b1 : (0 : Int) ≤ (i : Int) ∧ (i : Int) < (List.length s : Int) := by omega
      refine ⟨b1, fun g => ?_, fun g => ?_⟩ <;> simp only [decide_eq_true_eq, decide_eq_false_iff_not] at g
      · have hch : chc b 0 = -1 := by unfold chc; rw [if_pos (by omega)]
        rw [hch] at e2
        rw [e]
        refine ⟨b1, d, by rw [inR_i64]; omega, hm _ (i + 1) 2 d (by omega) ?_⟩
        dsimp only [go_sem]
        rw [e2]
        simp
      · have hch : chc b 0 = 0 := by unfold chc; rw [if_neg (by omega)]
        rw [hch] at e2
        refine ⟨by rw [inR_i64]; omega, hm _ (i + 1) 2 d (by omega) ?_⟩
        dsimp only [go_sem]
        have e3 := e 0
        rw [show List.length s - i = (List.length s - (i + 1)) + 1 by omega] at e3 ⊢
        rw [e2]
        simp [List.replicate_succ]
    · rw [List.take_of_length_le (by omega), show List.length s - i = 0 by omega, List.replicate_zero, List.append_nil]
      rw [hr]
      exact ⟨rfl, trivial⟩
def nxV (s : List Blk) (w : List Int) : List Int × Bool := match nxt s w with | some v => (v, true) | none => ([], false)
@[go_sem] def rNxS : Spec := ⟨[spT, wdT], fun d => (.tup (.cons (.dat wdT (nxV d.1 d.2.1).1) (.cons (.dat .bool (nxV d.1 d.2.1).2) .nil)), [spP d.1, wk d.1 d.2.1 = true])⟩
theorem rNx_ok : SpecOk Try.prog 38 rNxS := by
  refine fn_ok EWE_ok rNxS Try.func38 rfl (by decide) (N := 55) rfl (res := [.tmp 4, .tmp 5]) rfl (by decide) [] [(13, [1])] [] 100 (by kernel_rfl) ?_
  rintro ⟨s, w, _⟩ hw hp
  refine ⟨rfl, fun H hH => ?_⟩
  dsimp only [go_sem] at hw hp ⊢
  obtain ⟨hs, hkw, -⟩ := hp
  have hr : nxV s w = match nxt s w with | some v => (v, true) | none => ([], false) := rfl
  obtain ⟨hlw, hrng⟩ := wk_iff.1 hkw
  have hsl := hs.1
  refine ⟨by show (0 + List.length w) * 8 ≤ 140737488355328; omega, rfl, by rw [inR_i64]; omega, ?_⟩
  refine hH.loop (fun k : Nat => ⟨[(2, .ref 0 0), (6, .own 1), (7, .dat (.int .i64) ((k : Int) - 1))], [(0, .box 26 (.cons (.dat (.slice bkT) s) .nil)), (1, .row 3 (.int .i64) (List.take k w ++ fst (List.drop k s)))], 2⟩) (fun k => k ≤ List.length s ∧ nxt (List.drop k s) (List.drop k w) = none) (fun k => k) (List.length s) 2 ⟨Nat.le_refl _, ?_⟩ ?_ ?_
  · rw [List.drop_length, ← hlw, List.drop_length]; rfl
  · rw [← hlw, List.take_length]
    have : fst (List.drop (List.length w) s) = [] := by rw [hlw, List.drop_length]; rfl
    rw [this]
    dsimp only [go_sem]
    simp
  · intro k ⟨hk, hn⟩ R hm
    refine hH.run 100 _ _ ?_
    dsimp only [go_sem]
    have hz : (zd (Ty.int IntKind.i64)) = (0 : Int) := rfl
    rw [hz]
    refine ⟨fun d => ?_, fun d => ?_⟩ <;> simp only [decide_eq_true_eq, decide_eq_false_iff_not] at d
    · obtain ⟨j, rfl⟩ : ∃ j, k = j + 1 := ⟨k - 1, by omega⟩
      have e1 : ((j + 1 : Nat) : Int) - 1 = (j : Int) := by omega
      rw [e1, Int.toNat_natCast]
      have d2 : j < List.length s := by omega
      have d3 : j < List.length w := by omega
      have hr0 := hrng j d3
      have hzb : List.getD s j (zd bkT) = List.getD s j [] := rfl
      rw [hzb]
      have hds := drop_g s [] d2
      have hdw := drop_g w 0 d3
      have hmem := getD_mem (l := s) [] d2
      have htw := take_get0 (w := w) (i := j) d3
      have hnx : nxt (List.drop j s) (List.drop j w) = if List.getD w j 0 ≥ 0 then some (chc (List.getD s j []) (List.getD w j 0 + 1) :: fst (List.drop (j + 1) s)) else none := by
        rw [hds, hdw, nxt, hn]
      have hff : fst (List.drop j s) = chc (List.getD s j []) 0 :: fst (List.drop (j + 1) s) := by rw [hds]; rfl
      have hnd := @nxt_drop j s w
      obtain ⟨hb1, -⟩ := hs.2 _ hmem
      generalize List.getD s j [] = b at *
      generalize List.getD w j 0 = c at *
      have hg : (List.take (j + 1) w ++ fst (List.drop (j + 1) s)).getD j 0 = c := by
        rw [htw, List.append_assoc, List.getD_eq_getElem?_getD, List.getElem?_append_right (by rw [len_take (by omega)]; exact Nat.le_refl _), len_take (by omega), Nat.sub_self]
        rfl
      have hst (x : Int) : (List.take (j + 1) w ++ fst (List.drop (j + 1) s)).set j x = List.take j w ++ x :: fst (List.drop (j + 1) s) := by
        rw [htw, List.append_assoc, List.set_append, if_neg (by rw [len_take (by omega)]; omega), len_take (by omega), Nat.sub_self]
        rfl
      have hst2 (x y : Int) : (List.take j w ++ x :: fst (List.drop (j + 1) s)).set j y = List.take j w ++ y :: fst (List.drop (j + 1) s) := by
        rw [List.set_append, if_neg (by rw [len_take (by omega)]; omega), len_take (by omega), Nat.sub_self]
        rfl
      have hg2 (x : Int) : (List.take j w ++ x :: fst (List.drop (j + 1) s)).getD j 0 = x := by
        rw [List.getD_eq_getElem?_getD, List.getElem?_append_right (by rw [len_take (by omega)]; exact Nat.le_refl _), len_take (by omega), Nat.sub_self]
        rfl
      have hlr : (List.take (j + 1) w ++ fst (List.drop (j + 1) s)).length = List.length s := by
        unfold fst
        rw [List.length_append, List.length_map, List.length_drop, len_take (by omega)]; omega
      have hlr2 (x : Int) : (List.take j w ++ x :: fst (List.drop (j + 1) s)).length = List.length s := by
        unfold fst
        rw [List.length_append, List.length_cons, List.length_map, List.length_drop, len_take (by omega)]; omega
      simp only [hg, hst, hst2, hg2, hlr, hlr2]
      have b1 : (0 : Int) ≤ (j : Int) ∧ (j : Int) < (List.length s : Int) := by omega
      refine ⟨b1, b1, d2, fun g => ?_, fun g => ?_⟩ <;> simp only [decide_eq_true_eq, decide_eq_false_iff_not] at g
      · have g : c = (-1 : Int) := g
        have g9 : ¬ (c ≥ (0 : Int)) := by rw [g]; decide
        rw [if_neg g9] at hnx
        refine ⟨b1, d2, fun g2 => ?_, fun g2 => ?_⟩ <;> simp only [decide_eq_true_eq, decide_eq_false_iff_not] at g2
        · have hch : chc b 0 = -1 := by unfold chc; rw [if_pos (by omega)]
          rw [hch] at hff
          refine ⟨b1, d2, by rw [inR_i64]; omega, hm _ j 2 ⟨by omega, hnx⟩ (by omega) ?_⟩
          rw [← hff]
          dsimp only [go_sem]
          simp
        · have hch : chc b 0 = 0 := by unfold chc; rw [if_neg (by omega)]
          rw [hch] at hff
          refine ⟨by rw [inR_i64]; omega, hm _ j 2 ⟨by omega, hnx⟩ (by omega) ?_⟩
          rw [← hff]
          dsimp only [go_sem]
          simp
      · have g : ¬ c = (-1 : Int) := g
        have h0 : (-1 : Int) ≤ c := hr0.1
        have g0 : (0 : Int) ≤ c := by omega
        have g1 : c < (List.length b : Int) := hr0.2
        rw [if_pos g0] at hnx
        rw [hnd hnx] at hr
        refine ⟨b1, d2, by rw [inR_i64]; omega, b1, d2, b1, d2, fun g2 => ?_, fun g2 => ?_⟩ <;> simp only [decide_eq_true_eq, decide_eq_false_iff_not] at g2
        · have g2 : c + 1 = (List.length b : Int) := g2
          have hch : chc b (c + 1) = -1 := by unfold chc; rw [if_pos (by omega)]
          rw [hr, hch]
          exact ⟨b1, d2, trivial, trivial, rfl, trivial, rfl, trivial⟩
        · have g2 : ¬ c + 1 = (List.length b : Int) := g2
          have hch : chc b (c + 1) = c + 1 := by unfold chc; rw [if_neg (by omega)]
          rw [hr, hch]
          exact ⟨trivial, trivial, rfl, trivial, rfl, trivial⟩
    · have hk0 : k = 0 := by omega
      subst hk0
      rw [List.drop_zero, List.drop_zero] at hn
      rw [hn] at hr
      simp [hr]
@[go_sem] def rIxS : Spec := ⟨[spT, wdT], fun d => (.dat nT (dg (ixW d.1 d.2.1)), [spP d.1 ∧ List.length d.1 ≤ 1000, wk d.1 d.2.1 = true])⟩
theorem rIx_ok : SpecOk Try.prog 40 rIxS := by
  refine fn_ok EWE_ok rIxS Try.func40 rfl (by decide) (N := 40) rfl (res := [.tmp 4]) rfl (by decide) [] [] [] 100 (by kernel_rfl) ?_
  rintro ⟨s, w, _⟩ hw hp
  refine ⟨rfl, fun H hH => ?_⟩
  dsimp only [go_sem] at hw hp ⊢
  obtain ⟨⟨hs, hl⟩, hkw, -⟩ := hp
  obtain ⟨hlw, hrng⟩ := wk_iff.1 hkw
  refine hH.loop (fun i : Nat => ⟨[(1, .dat wdT w), (2, .ref 0 0), (5, .dat nT (dg (ixW (List.take i s) (List.take i w)))), (6, .dat (.int .i64) (i : Int))], [(0, .box 26 (.cons (.dat (.slice bkT) s) .nil))], 1⟩) (fun i => i ≤ List.length s) (fun i => List.length s - i) 0 1 (Nat.zero_le _) ?_ ?_
  · dsimp only [go_sem]
    simp [ixW, ixF, dg, dgF]
  · intro i hi R hm
    refine hH.run 100 _ _ ?_
    dsimp only [go_sem]
    rw [Int.toNat_natCast]
    have hz : (zd (Ty.int IntKind.i64)) = (0 : Int) := rfl
    rw [hz]
    refine ⟨fun d => ?_, fun d => ?_⟩ <;> simp only [decide_eq_true_eq, decide_eq_false_iff_not] at d
    · have d : i < List.length s := by omega
      have hr0 := hrng i (by omega)
      have hzb : List.getD s i (zd bkT) = List.getD s i [] := rfl
      rw [hzb]
      have hmem := getD_mem (l := s) [] d
      have htk := take_get s i [] d
      have htw := take_get0 (w := w) (i := i) (by omega)
      generalize List.getD s i [] = b at *
      generalize List.getD w i 0 = c at *
      have hlt : (List.take i w).length = (List.take i s).length := by rw [len_take (by omega), len_take (by omega)]
      have e : ixW (List.take (i + 1) s) (List.take (i + 1) w) = ixW (List.take i s) (List.take i w) * ((List.length b : Int) + 1) + po b c := by
        rw [htk, htw]; exact ixF_snoc b c 0 hlt
      have hb1 := (hs.2 b hmem).1
      have hwi : wk (List.take i s) (List.take i w) = true := wk_take i ⟨hlw, hrng⟩
      obtain ⟨x1, x2⟩ := ixW_b hwi
      have hp1 := prd_lt (List.take i s) (fun b hb => (hs.2 b (List.mem_of_mem_take hb)).1)
      have hlt1 : (List.take i s).length ≤ 1000 := by rw [List.length_take]; omega
      have hBm := Bp_mono hlt1
      have h1l := dg_len (n := ixW (List.take i s) (List.take i w)) (c := 1000) x1 (by omega)
      have h2l := dg_len (n := (List.length b : Int) + 1) (c := 1) (by omega) (by show (List.length b : Int) + 1 < 4294967296 * 1; omega)
      have h4l := dg_len (n := (List.length b : Int)) (c := 1) (by omega) (by show (List.length b : Int) < 4294967296 * 1; omega)
      have h5l := dg_len (n := c.toNat) (c := 1) (by omega) (by show ((c.toNat : Nat) : Int) < 4294967296 * 1; omega)
      have m0 : 0 ≤ ixW (List.take i s) (List.take i w) * ((List.length b : Int) + 1) := Int.mul_nonneg x1 (by omega)
      have m1 : ixW (List.take i s) (List.take i w) * ((List.length b : Int) + 1) < Bp 1001 := by
        have := Int.mul_lt_mul_of_pos_right (show ixW (List.take i s) (List.take i w) < Bp 1000 by omega) (show (0 : Int) < (List.length b : Int) + 1 by omega)
        have := Int.mul_le_mul_of_nonneg_left (show (List.length b : Int) + 1 ≤ 4294967296 by omega) (show 0 ≤ Bp 1000 by have := Bp_pos 1000; omega)
        have e3 : Bp 1001 = 4294967296 * Bp 1000 := rfl
        omega
      have h3l := dg_len (c := 1001) m0 m1
      have b1 : (0 : Int) ≤ (i : Int) ∧ (i : Int) < (List.length s : Int) := by omega
      have b2 : (0 : Int) ≤ (i : Int) ∧ (i : Int) < (List.length w : Int) := by omega
      rw [N_dg x1, N_dg (show (0 : Int) ≤ (List.length b : Int) + 1 by omega), N_dg m0]
      refine ⟨b1, b2, fun g => ?_, fun g => ?_⟩ <;> simp only [decide_eq_true_eq, decide_eq_false_iff_not] at g
      · have hpo : po b c = (List.length b : Int) := by unfold po; rw [if_pos g]
        rw [hpo] at e
        rw [N_dg (show (0 : Int) ≤ (List.length b : Int) by omega)]
        refine ⟨by rw [inR_i64]; omega, by rw [u64R']; omega, by omega, by omega, by rw [u64R']; omega, by omega, by omega, by rw [inR_i64]; omega, hm _ (i + 1) 1 d (by omega) ?_⟩
        dsimp only [go_sem]
        rw [e]
        simp
      · have hpo : po b c = c := by unfold po; rw [if_neg g]
        have g0 : 0 ≤ c := Int.not_lt.1 g
        have g1 : c < (List.length b : Int) := hr0.2
        rw [hpo] at e
        rw [Int.toNat_of_nonneg g0] at h5l
        rw [N_dg g0]
        refine ⟨by rw [inR_i64]; omega, by rw [u64R']; omega, by omega, by omega, by rw [u64R']; omega, by omega, by omega, by rw [inR_i64]; omega, hm _ (i + 1) 1 d (by omega) ?_⟩
        dsimp only [go_sem]
        rw [e]
        simp
    · rw [List.take_of_length_le (by omega), List.take_of_length_le (by omega)]
      exact ⟨rfl, trivial⟩
@[go_sem] def rCnS : Spec := ⟨[spT], fun d => (.dat nT (dg (cnt d.1)), [spP d.1 ∧ List.length d.1 ≤ 1000])⟩
theorem rCn_ok : SpecOk Try.prog 44 rCnS := by
  refine fn_ok EWE_ok rCnS Try.func44 rfl (by decide) (N := 29) rfl (res := [.tmp 2]) rfl (by decide) [] [] [] 100 (by kernel_rfl) ?_
  rintro ⟨s, _⟩ hw hp
  refine ⟨rfl, fun H hH => ?_⟩
  dsimp only [go_sem] at hw hp ⊢
  obtain ⟨⟨hs, hl⟩, -⟩ := hp
  have hc : cnt s = if vld s then prd s else 0 := rfl
  refine ⟨hs, fun h => ?_, fun h => ?_⟩ <;> simp only [Bool.not_eq_true', Bool.not_eq_false'] at h
  · rw [hc, if_neg (by rw [h]; decide)]
    exact ⟨rfl, trivial⟩
  rw [if_pos h] at hc
  have hk : ∀ b ∈ s, List.length b ≤ 100 := fun b hb => (hs.2 b hb).1
  refine hH.loop (fun i : Nat => ⟨[(1, .ref 0 0), (3, .dat nT (dg (prd (List.take i s)))), (4, .dat (.int .i64) (i : Int))], [(0, .box 26 (.cons (.dat (.slice bkT) s) .nil))], 1⟩) (fun i => i ≤ List.length s) (fun i => List.length s - i) 0 1 (Nat.zero_le _) ?_ ?_
  · dsimp only [go_sem]
    simp [prd]
  · intro i hi R hm
    refine hH.run 100 _ _ ?_
    dsimp only [go_sem]
    rw [Int.toNat_natCast]
    refine ⟨fun d => ?_, fun d => ?_⟩ <;> simp only [decide_eq_true_eq, decide_eq_false_iff_not] at d
    · have d : i < List.length s := by omega
      have hmem := getD_mem (l := s) (zd bkT) d
      have htk := take_get s i (zd bkT) d
      generalize List.getD s i (zd bkT) = b at *
      have hb := hk b hmem
      have hP := prd_pos (List.take i s)
      have e := prd_snoc (List.take i s) b
      rw [← htk] at e
      have hp1 := prd_lt (List.take i s) (fun b hb => hk b (List.mem_of_mem_take hb))
      have hlt : (List.take i s).length ≤ 1000 := by rw [List.length_take]; omega
      have b1 : (0 : Int) ≤ (i : Int) ∧ (i : Int) < (List.length s : Int) := by omega
      rw [N_dg (by omega), N_dg (by omega), ← e]
      have h1l := dg_len (n := prd (List.take i s)) (c := 1001) (by omega) (Int.lt_of_le_of_lt hp1 (Bp_strict (by omega)))
      have h2l := dg_len (n := (List.length b : Int) + 1) (c := 1) (by omega) (by show (List.length b : Int) + 1 < 4294967296 * 1; omega)
      refine ⟨b1, by rw [inR_i64]; omega, by rw [u64R']; omega, by omega, by omega, by rw [inR_i64]; omega, hm _ (i + 1) 1 d (by omega) ?_⟩
      dsimp only [go_sem]
      simp
    · rw [hc, List.take_of_length_le (by omega)]
      exact ⟨rfl, trivial⟩
@[go_sem] noncomputable def EWF : Env := (((((EWE).add 39 rPrS).add 45 rFsS).add 38 rNxS).add 40 rIxS).add 44 rCnS
theorem EWF_ok : EWF.Ok := (((((EWE_ok).add rPr_ok).add rFs_ok).add rNx_ok).add rIx_ok).add rCn_ok
end Go.Proofs.Ythjgfppmempbkaa.Gx
