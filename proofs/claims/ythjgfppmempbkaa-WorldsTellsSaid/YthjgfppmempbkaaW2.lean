/-
  Spaces and worlds: Count, Contains, Prob, Index.
-/
import Derived.Test.YthjgfppmempbkaaW1
namespace Go.Proofs.Ythjgfppmempbkaa.Gx
open Go Go.RowKit Tw B Nt
set_option linter.unusedVariables false
set_option linter.unusedSimpArgs false
set_option maxHeartbeats 4000000
set_option maxRecDepth 20000
theorem prd_lt : ∀ (s : List Blk), (∀ b ∈ s, b.length ≤ 100) → prd s ≤ Bp s.length
  | [], _ => Int.le_refl _
  | b :: s, h => by
    have ih := prd_lt s fun b hb => h b (List.mem_cons_of_mem _ hb)
    have hb := h b (List.mem_cons_self ..)
    have hP := prd_pos s
    have h1 := Int.mul_le_mul (show (b.length : Int) + 1 ≤ 4294967296 by omega) ih (by omega) (by decide)
    rw [prd, List.length_cons]
    exact h1
theorem Bp_strict {m n : Nat} (h : m < n) : Bp m < Bp n := by
  have h1 := Bp_mono (show m + 1 ≤ n from h)
  have h2 := Bp_pos m
  have h3 : Bp (m + 1) = 4294967296 * Bp m := rfl
  omega
theorem wk_take {s : List Blk} {w : List Int} (i : Nat) (h : w.length = s.length ∧ ∀ j, j < w.length → -1 ≤ w.getD j 0 ∧ w.getD j 0 < ((s.getD j []).length : Int)) : wk (s.take i) (w.take i) = true := by
  refine wk_iff.2 ⟨by rw [List.length_take, List.length_take, h.1], fun j hj => ?_⟩
  rw [List.length_take] at hj
  have e1 : (w.take i).getD j 0 = w.getD j 0 := by
    rw [List.getD_eq_getElem?_getD, List.getD_eq_getElem?_getD, List.getElem?_take_of_lt (by omega)]
  have e2 : (s.take i).getD j [] = s.getD j [] := by
    rw [List.getD_eq_getElem?_getD, List.getD_eq_getElem?_getD, List.getElem?_take_of_lt (by omega)]
  rw [e1, e2]
  exact h.2 j (by omega)
theorem take_get0 {w : List Int} {i : Nat} (h : i < w.length) : w.take (i + 1) = w.take i ++ [w.getD i 0] := take_get w i 0 h
theorem len_take {α : Type} {l : List α} {i : Nat} (h : i ≤ l.length) : (l.take i).length = i := by rw [List.length_take]; omega
@[go_sem] def wCntS : Spec := ⟨[spT], fun d => (.dat nT (dg (cnt d.1)), [spP d.1 ∧ List.length d.1 ≤ 1000])⟩
theorem wCnt_ok : SpecOk Try.prog 10 wCntS := by
  refine fn_ok EW2_ok wCntS Try.func10 rfl (by decide) (N := 23) rfl (res := [.tmp 2]) rfl (by decide) [] [] [] 100 (by kernel_rfl) ?_
  rintro ⟨s, _⟩ hw hp
  refine ⟨rfl, fun H hH => ?_⟩
  dsimp only [go_sem] at hw hp ⊢
  obtain ⟨⟨hs, hl⟩, -⟩ := hp
  have hc : cnt s = if vld s then prd s else 0 := rfl
  refine ⟨hs, fun h => ?_, fun h => ?_⟩ <;> simp only [Bool.not_eq_true', Bool.not_eq_false'] at h
  · rw [hc, if_neg (by rw [h]; decide)]
    exact ⟨rfl, trivial⟩
  rw [if_pos h] at hc
  have hk : ∀ b ∈ s, List.length b ≤ 100 := fun b hb => (hs.2 b hb).1
  refine hH.loop (fun i : Nat => ⟨[(3, .dat nT (dg (prd (List.take i s)))), (11, .dat (.slice bkT) s), (12, .dat (.int .i64) (List.length s : Int)), (13, .dat (.int .i64) (i : Int))], [], 0⟩) (fun i => i ≤ List.length s) (fun i => List.length s - i) 0 0 (Nat.zero_le _) ?_ ?_
  · dsimp only [go_sem]
    simp [prd]
  · intro i hi R hm
    refine hH.run 100 _ _ ?_
    dsimp only [go_sem]
    rw [Int.toNat_natCast]
    refine ⟨fun d => ?_, fun d => ?_⟩ <;> simp only [decide_eq_true_eq, decide_eq_false_iff_not] at d
    · have d : i < List.length s := by omega
      have hmem := getD_mem (l := s) (zd bkT) d
      have htk := take_get s i (zd bkT) d
      generalize List.getD s i (zd bkT) = b at *
      have hb := hk b hmem
      have hP := prd_pos (List.take i s)
      have e := prd_snoc (List.take i s) b
      rw [← htk] at e
      have hp1 := prd_lt (List.take i s) (fun b hb => hk b (List.mem_of_mem_take hb))
      have hlt : (List.take i s).length ≤ 1000 := by rw [List.length_take]; omega
      have b1 : (0 : Int) ≤ (i : Int) ∧ (i : Int) < (List.length s : Int) := by omega
      rw [N_dg (by omega), N_dg (by omega), ← e]
      have h1l := dg_len (n := prd (List.take i s)) (c := 1001) (by omega) (Int.lt_of_le_of_lt hp1 (Bp_strict (by omega)))
      have h2l := dg_len (n := (List.length b : Int) + 1) (c := 1) (by omega) (by show (List.length b : Int) + 1 < 4294967296 * 1; omega)
      refine ⟨b1, by omega, by omega, by omega, by rw [inR_i64]; omega, hm _ (i + 1) 0 d (by omega) ?_⟩
      dsimp only [go_sem]
      simp
    · rw [hc, List.take_of_length_le (by omega)]
      exact ⟨rfl, trivial⟩
@[go_sem] def wConS : Spec := ⟨[spT, wdT], fun d => (.dat .bool (cont d.1 d.2.1), [spP d.1])⟩
theorem wCon_ok : SpecOk Try.prog 37 wConS := by
  refine fn_ok EW2_ok wConS Try.func37 rfl (by decide) (N := 39) rfl (res := [.tmp 4]) rfl (by decide) [] [] [] 100 (by kernel_rfl) ?_
  rintro ⟨s, w, _⟩ hw hp
  refine ⟨rfl, fun H hH => ?_⟩
  dsimp only [go_sem] at hw hp ⊢
  obtain ⟨hs, -⟩ := hp
  have hc : cont s w = (wk s w && vld s) := rfl
  refine ⟨fun h => ?_, fun h => ?_⟩ <;> simp only [decide_eq_true_eq, decide_eq_false_iff_not] at h
  · have : wk s w = false := by
      rw [Bool.eq_false_iff]
      intro hw
      have := wk_len hw
      omega
    rw [hc, this]
    exact ⟨rfl, trivial⟩
  have hl : List.length w = List.length s := by omega
  refine hH.loop (fun i : Nat => ⟨[(1, .dat wdT w), (2, .ref 0 0), (14, .dat (.slice bkT) s), (15, .dat (.int .i64) (List.length s : Int)), (16, .dat (.int .i64) (i : Int))], [(0, .box 26 (.cons (.dat (.slice bkT) s) .nil))], 1⟩) (fun i => i ≤ List.length s ∧ ∀ j, j < i → -1 ≤ List.getD w j 0 ∧ List.getD w j 0 < ((List.getD s j []).length : Int)) (fun i => List.length s - i) 0 1 ⟨Nat.zero_le _, fun j hj => absurd hj (Nat.not_lt_zero _)⟩ ?_ ?_
  · dsimp only [go_sem]
    simp
  · intro i ⟨hi, hall⟩ R hm
    refine hH.run 100 _ _ ?_
    dsimp only [go_sem]
    rw [Int.toNat_natCast]
    have hz : (zd (Ty.int IntKind.i64)) = (0 : Int) := rfl
    rw [hz]
    refine ⟨fun d => ?_, fun d => ?_⟩ <;> simp only [decide_eq_true_eq, decide_eq_false_iff_not] at d
    · have d : i < List.length s := by omega
      have hzb : List.getD s i (zd bkT) = List.getD s i [] := rfl
      rw [hzb]
      have b1 : (0 : Int) ≤ (i : Int) ∧ (i : Int) < (List.length s : Int) := by omega
      have b2 : (0 : Int) ≤ (i : Int) ∧ (i : Int) < (List.length w : Int) := by omega
      refine ⟨b1, b2, fun h => h, fun h => h, fun _ => b2, fun h => h, fun h => h, fun h => h, fun h => h, fun h => h, fun h => h, fun e => ?_, fun e => ?_⟩
      · have : wk s w = false := by
          rw [Bool.eq_false_iff]
          intro hwk
          have := (wk_iff.1 hwk).2 i (by omega)
          simp only [Bool.or_eq_true, decide_eq_true_eq] at e
          omega
        rw [hc, this]
        exact ⟨rfl, trivial⟩
      · simp only [Bool.or_eq_false_iff, decide_eq_false_iff_not] at e
        refine ⟨by rw [inR_i64]; omega, hm _ (i + 1) 1 ⟨d, fun j hj => ?_⟩ (by omega) ?_⟩
        · rcases Nat.lt_or_ge j i with h' | h'
          · exact hall j h'
          · have : j = i := by omega
            subst this
            exact ⟨Int.not_lt.1 e.1, Int.not_le.1 e.2⟩
        · dsimp only [go_sem]
          simp
    · have : wk s w = true := wk_iff.2 ⟨hl, fun j hj => hall j (by omega)⟩
      rw [hc, this, Bool.true_and]
      exact ⟨hs, rfl, trivial⟩
@[go_sem] noncomputable def EW3 : Env := ((EW2).add 10 wCntS).add 37 wConS
theorem EW3_ok : EW3.Ok := ((EW2_ok).add wCnt_ok).add wCon_ok
def prW (s : List Blk) (w : List Int) : fT.den × Int := if cont s w then (qf (wpr s w), 0) else ((false, [], []), 1)
@[go_sem] def wPrS : Spec := ⟨[spT, wdT], fun d => (.tup (.cons (.dat fT (prW d.1 d.2.1).1) (.cons (.dat (.int .i64) (prW d.1 d.2.1).2) .nil)), [spP d.1 ∧ List.length d.1 ≤ 30])⟩
theorem wPr_ok : SpecOk Try.prog 24 wPrS := by
  refine fn_ok EW3_ok wPrS Try.func24 rfl (by decide) (N := 48) rfl (res := [.cell 4 53, .tmp 5]) rfl (by decide) [] [] [] 100 (by kernel_rfl) ?_
  rintro ⟨s, w, _⟩ hw hp
  refine ⟨rfl, fun H hH => ?_⟩
  dsimp only [go_sem] at hw hp ⊢
  obtain ⟨⟨hs, hl⟩, -⟩ := hp
  have hr : prW s w = if cont s w then (qf (wpr s w), 0) else ((false, [], []), 1) := rfl
  refine ⟨hs, fun h => ?_, fun h => ?_⟩ <;> simp only [Bool.not_eq_true', Bool.not_eq_false'] at h
  · rw [if_neg (by rw [h]; decide)] at hr
    simp [hr]
  rw [if_pos h] at hr
  have hkw := h
  unfold cont at hkw
  rw [Bool.and_eq_true, wk_iff] at hkw
  obtain ⟨⟨hlw, hrng⟩, -⟩ := hkw
  have h1 : (if (1 : Int) = 0 then f0 else qf (Rat.divInt 1 1)) = qf 1 := by decide +kernel
  rw [h1]
  have hwb : ∀ b ∈ s, ∀ f ∈ b, wfD fT f := fun b hb => (hw.1.2 b hb).2
  refine hH.loop (fun i : Nat => ⟨[(1, .dat wdT w), (4, .ref 1 0), (6, .ref 2 0), (20, .dat (.slice bkT) s), (21, .dat (.int .i64) (List.length s : Int)), (22, .dat (.int .i64) (i : Int))], [(1, .box 53 (zA fT .nil)), (2, .box 53 (dA fT (qf (wpr (List.take i s) (List.take i w))) .nil))], 3⟩) (fun i => i ≤ List.length s ∧ qs (wpr (List.take i s) (List.take i w)) ≤ 100210 * i + 1) (fun i => List.length s - i) 0 3 ⟨Nat.zero_le _, qs_one⟩ ?_ ?_
  · dsimp only [go_sem]
    simp [wpr]
  · intro i ⟨hi, hq⟩ R hm
    refine hH.run 100 _ _ ?_
    dsimp only [go_sem]
    rw [Int.toNat_natCast]
    have hz : (zd (Ty.int IntKind.i64)) = (0 : Int) := rfl
    rw [hz]
    refine ⟨fun d => ?_, fun d => ?_⟩ <;> simp only [decide_eq_true_eq, decide_eq_false_iff_not] at d
    · have d : i < List.length s := by omega
      have hr0 := hrng i (by omega)
      have hzb : List.getD s i (zd bkT) = List.getD s i [] := rfl
      rw [hzb]
      have hmem := getD_mem (l := s) [] d
      have htk := take_get s i [] d
      have htw := take_get0 (w := w) (i := i) (by omega)
      generalize List.getD s i [] = b at *
      generalize List.getD w i 0 = c at *
      have e := wpr_snoc (s := List.take i s) (w := List.take i w) b c (by rw [len_take (by omega), len_take (by omega)])
      rw [← htk, ← htw] at e
      obtain ⟨hb1, hb2⟩ := hs.2 b hmem
      obtain ⟨z1, z2⟩ := rm_sz (hwb b hmem) ⟨hb1, hb2⟩
      have b1 : (0 : Int) ≤ (i : Int) ∧ (i : Int) < (List.length s : Int) := by omega
      have b2 : (0 : Int) ≤ (i : Int) ∧ (i : Int) < (List.length w : Int) := by omega
      rw [fq_qf, fq_qf]
      have hmul := qs_mul (wpr (List.take i s) (List.take i w)) (chq b c)
      rw [← e] at hmul
      have hqi : qs (wpr (List.take i s) (List.take i w)) ≤ 5000000 := by omega
      refine ⟨b1, b2, fun g => ?_, fun g => ?_⟩ <;> simp only [decide_eq_true_eq, decide_eq_false_iff_not] at g
      · have hch : chq b c = rm b := by unfold chq; rw [if_pos g]
        rw [hch] at e hmul
        refine ⟨⟨hb1, hb2⟩, hqi, by rw [fs_qf]; omega, by rw [inR_i64]; omega, hm _ (i + 1) 3 ⟨d, by omega⟩ (by omega) ?_⟩
        dsimp only [go_sem]
        rw [e]
        simp
      · have hch : chq b c = fq (b.getD c.toNat (false, [], [])) := by unfold chq; rw [if_neg g]
        have hzf : List.getD b c.toNat (zd (Ty.bool.pair ((Ty.int IntKind.u32).slice.pair (Ty.int IntKind.u32).slice))) = b.getD c.toNat (false, [], []) := rfl
        have hfm := getD_mem (l := b) (i := c.toNat) (false, [], []) (by omega)
        have hsf := hb2 _ hfm
        have hqf := qs_fq (fd_of (hwb b hmem _ hfm))
        rw [hch] at e hmul
        rw [hzf]
        refine ⟨b2, ⟨Int.not_lt.1 g, hr0.2⟩, hqi, by omega, by rw [inR_i64]; omega, hm _ (i + 1) 3 ⟨d, by omega⟩ (by omega) ?_⟩
        dsimp only [go_sem]
        rw [e]
        simp
    · rw [List.take_of_length_le (by omega), List.take_of_length_le (by omega)]
      rw [hr]
      simp
def ixR (s : List Blk) (w : List Int) : List Int × Bool := if cont s w then (dg (ixW s w), true) else ([], false)
@[go_sem] def wIxS : Spec := ⟨[spT, wdT], fun d => (.tup (.cons (.dat nT (ixR d.1 d.2.1).1) (.cons (.dat .bool (ixR d.1 d.2.1).2) .nil)), [spP d.1 ∧ List.length d.1 ≤ 1000])⟩
theorem wIx_ok : SpecOk Try.prog 14 wIxS := by
  refine fn_ok EW3_ok wIxS Try.func14 rfl (by decide) (N := 41) rfl (res := [.tmp 4, .tmp 5]) rfl (by decide) [] [] [] 100 (by kernel_rfl) ?_
  rintro ⟨s, w, _⟩ hw hp
  refine ⟨rfl, fun H hH => ?_⟩
  dsimp only [go_sem] at hw hp ⊢
  obtain ⟨⟨hs, hl⟩, -⟩ := hp
  have hr : ixR s w = if cont s w then (dg (ixW s w), true) else ([], false) := rfl
  refine ⟨hs, fun h => ?_, fun h => ?_⟩ <;> simp only [Bool.not_eq_true', Bool.not_eq_false'] at h
  · rw [if_neg (by rw [h]; decide)] at hr
    simp [hr]
  rw [if_pos h] at hr
  have hkw := h
  unfold cont at hkw
  rw [Bool.and_eq_true, wk_iff] at hkw
  obtain ⟨⟨hlw, hrng⟩, -⟩ := hkw
  refine hH.loop (fun i : Nat => ⟨[(1, .dat wdT w), (6, .dat nT (dg (ixW (List.take i s) (List.take i w)))), (15, .dat (.slice bkT) s), (16, .dat (.int .i64) (List.length s : Int)), (17, .dat (.int .i64) (i : Int))], [], 0⟩) (fun i => i ≤ List.length s) (fun i => List.length s - i) 0 0 (Nat.zero_le _) ?_ ?_
  · dsimp only [go_sem]
    simp [ixW, ixF, dg, dgF]
  · intro i hi R hm
    refine hH.run 100 _ _ ?_
    dsimp only [go_sem]
    rw [Int.toNat_natCast]
    have hz : (zd (Ty.int IntKind.i64)) = (0 : Int) := rfl
    rw [hz]
    refine ⟨fun d => ?_, fun d => ?_⟩ <;> simp only [decide_eq_true_eq, decide_eq_false_iff_not] at d
    · have d : i < List.length s := by omega
      have hr0 := hrng i (by omega)
      have hzb : List.getD s i (zd bkT) = List.getD s i [] := rfl
      rw [hzb]
      have hmem := getD_mem (l := s) [] d
      have htk := take_get s i [] d
      have htw := take_get0 (w := w) (i := i) (by omega)
      generalize List.getD s i [] = b at *
      generalize List.getD w i 0 = c at *
      have hlt : (List.take i w).length = (List.take i s).length := by rw [len_take (by omega), len_take (by omega)]
      have e : ixW (List.take (i + 1) s) (List.take (i + 1) w) = ixW (List.take i s) (List.take i w) * ((List.length b : Int) + 1) + po b c := by
        rw [htk, htw]; exact ixF_snoc b c 0 hlt
      have hb1 := (hs.2 b hmem).1
      have hwi : wk (List.take i s) (List.take i w) = true := wk_take i ⟨hlw, hrng⟩
      obtain ⟨x1, x2⟩ := ixW_b hwi
      have hp1 := prd_lt (List.take i s) (fun b hb => (hs.2 b (List.mem_of_mem_take hb)).1)
      have hlt1 : (List.take i s).length ≤ 1000 := by rw [List.length_take]; omega
      have hBm := Bp_mono hlt1
      have h1l := dg_len (n := ixW (List.take i s) (List.take i w)) (c := 1000) x1 (by omega)
      have h2l := dg_len (n := (List.length b : Int) + 1) (c := 1) (by omega) (by show (List.length b : Int) + 1 < 4294967296 * 1; omega)
      have h4l := dg_len (n := (List.length b : Int)) (c := 1) (by omega) (by show (List.length b : Int) < 4294967296 * 1; omega)
      have h5l := dg_len (n := c.toNat) (c := 1) (by omega) (by show ((c.toNat : Nat) : Int) < 4294967296 * 1; omega)
      have m0 : 0 ≤ ixW (List.take i s) (List.take i w) * ((List.length b : Int) + 1) := Int.mul_nonneg x1 (by omega)
      have m1 : ixW (List.take i s) (List.take i w) * ((List.length b : Int) + 1) < Bp 1001 := by
        have := Int.mul_lt_mul_of_pos_right (show ixW (List.take i s) (List.take i w) < Bp 1000 by omega) (show (0 : Int) < (List.length b : Int) + 1 by omega)
        have := Int.mul_le_mul_of_nonneg_left (show (List.length b : Int) + 1 ≤ 4294967296 by omega) (show 0 ≤ Bp 1000 by have := Bp_pos 1000; omega)
        have e3 : Bp 1001 = 4294967296 * Bp 1000 := rfl
        omega
      have h3l := dg_len (c := 1001) m0 m1
      have b1 : (0 : Int) ≤ (i : Int) ∧ (i : Int) < (List.length s : Int) := by omega
      have b2 : (0 : Int) ≤ (i : Int) ∧ (i : Int) < (List.length w : Int) := by omega
      have hc64 : (List.length b : Int) ≤ 18446744073709551615 := by omega
      rw [N_dg x1, N_dg (show (0 : Int) ≤ (List.length b : Int) + 1 by omega), N_dg m0]
      refine ⟨b1, b2, fun g => ?_, fun g => ?_⟩ <;> simp only [decide_eq_true_eq, decide_eq_false_iff_not] at g
      · have hpo : po b c = (List.length b : Int) := by unfold po; rw [if_pos g]
        rw [hpo] at e
        rw [N_dg (show (0 : Int) ≤ (List.length b : Int) by omega)]
        refine ⟨by omega, by omega, by omega, by rw [u64R']; omega, by omega, by omega, by rw [inR_i64]; omega, hm _ (i + 1) 0 d (by omega) ?_⟩
        dsimp only [go_sem]
        rw [e]
        simp
      · have hpo : po b c = c := by unfold po; rw [if_neg g]
        have g0 : 0 ≤ c := Int.not_lt.1 g
        have g1 : c < (List.length b : Int) := hr0.2
        rw [hpo] at e
        rw [Int.toNat_of_nonneg g0] at h5l
        rw [N_dg g0]
        refine ⟨by omega, by omega, by omega, by rw [u64R']; omega, by omega, by omega, by rw [inR_i64]; omega, hm _ (i + 1) 0 d (by omega) ?_⟩
        dsimp only [go_sem]
        rw [e]
        simp
    · rw [List.take_of_length_le (by omega), List.take_of_length_le (by omega)]
      rw [hr]
      simp
@[go_sem] noncomputable def EW4 : Env := ((EW3).add 24 wPrS).add 14 wIxS
theorem EW4_ok : EW4.Ok := ((EW3_ok).add wPr_ok).add wIx_ok
end Go.Proofs.Ythjgfppmempbkaa.Gx
