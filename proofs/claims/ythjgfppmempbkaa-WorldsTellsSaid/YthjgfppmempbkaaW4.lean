/-
  Worlds: the law package's known; small functions of the reference and of the base.
-/
import Derived.Test.YthjgfppmempbkaaW3
import Derived.Test.YthjgfppmempbkaaD9
namespace Go.Proofs.Ythjgfppmempbkaa.Gx
open Go Go.RowKit Tw B Nt
set_option linter.unusedVariables false
set_option linter.unusedSimpArgs false
set_option maxHeartbeats 4000000
set_option maxRecDepth 20000
def bat (l : List Int) (i : Int) : Int := if l.length = 0 then i % 65536 else l.getD (i % l.length).toNat 0 % 65536 + i / l.length
@[go_sem] def bAtS : Spec := ⟨[.slice (.int .i64), .int .i64], fun d => (.dat (.int .i64) (bat d.1 d.2.1), [(0 : Int) ≤ d.2.1 ∧ d.2.1 ≤ 1000000])⟩
theorem bAt_ok : SpecOk Try.prog 9 bAtS := by
  refine fn_ok EW5_ok bAtS Try.func9 rfl (by decide) (N := 23) rfl (res := [.tmp 4]) rfl (by decide) [] [] [] 100 (by kernel_rfl) ?_
  rintro ⟨l, (i:Int), _⟩ hw hp
  refine ⟨rfl, fun H hH => ?_⟩
  dsimp only [go_sem] at hw hp ⊢
  obtain ⟨⟨hi0, hi1⟩, -⟩ := hp
  have hi0 : 0 ≤ i := hi0
  have hi1 : i ≤ 1000000 := hi1
  obtain ⟨⟨hl, hr⟩, -⟩ := hw
  change ∀ x ∈ l, inR .i64 x at hr
  change List Int at l
  have hm (n : Int) : bitsI .and .i64 n 65535 = n % 65536 := andMask n 16 (by omega)
  have hz : (zd (Ty.int IntKind.i64)) = (0 : Int) := rfl
  have hb : bat l i = if l.length = 0 then i % 65536 else l.getD (i % l.length).toNat 0 % 65536 + i / l.length := rfl
  rw [hm, hm, hz, Int.tmod_eq_emod_of_nonneg hi0, Int.tdiv_eq_ediv_of_nonneg hi0]
  refine ⟨fun h => ?_, fun h => ?_⟩ <;> simp only [decide_eq_true_eq, decide_eq_false_iff_not] at h
  · rw [hb, if_pos (by omega)]
    exact ⟨rfl, trivial⟩
  · have h : ¬ (l.length : Int) = 0 := h
    have m0 := Int.emod_nonneg i h
    have m1 := Int.emod_lt_of_pos i (show 0 < (l.length : Int) by omega)
    have d0 : 0 ≤ i / (l.length : Int) := Int.ediv_nonneg hi0 (by omega)
    have d1 : i / (l.length : Int) ≤ i := Int.ediv_le_self _ hi0
    rw [hb, if_neg (by omega)]
    generalize l.getD (i % (l.length : Int)).toNat 0 = x
    have x0 := Int.emod_nonneg x (show (65536 : Int) ≠ 0 by decide)
    have x1 := Int.emod_lt_of_pos x (show (0 : Int) < 65536 by decide)
    refine ⟨h, by rw [inR_i64]; omega, ⟨m0, m1⟩, h, by rw [inR_i64]; omega, by rw [inR_i64]; omega, rfl, trivial⟩
@[go_sem] def rSwS : Spec := ⟨[wdT, wdT], fun d => (.dat .bool (decide (d.1 = d.2.1)), [])⟩
theorem rSw_ok : SpecOk Try.prog 18 rSwS := by
  refine fn_ok EW5_ok rSwS Try.func18 rfl (by decide) (N := 26) rfl (res := [.tmp 4]) rfl (by decide) [] [] [] 100 (by kernel_rfl) ?_
  rintro ⟨a, b, _⟩ hw hp
  refine ⟨rfl, fun H hH => ?_⟩
  dsimp only [go_sem] at hw hp ⊢
  refine ⟨fun h => ?_, fun h => ?_⟩ <;> simp only [decide_eq_true_eq, decide_eq_false_iff_not] at h
  · rw [decide_eq_false (fun e => h (by rw [e]))]
    exact ⟨rfl, trivial⟩
  have hl : List.length a = List.length b := by omega
  refine hH.loop (fun i : Nat => ⟨[(0, .dat wdT a), (1, .dat wdT b), (5, .dat (.int .i64) (i : Int))], [], 0⟩) (fun i => i ≤ List.length a ∧ List.take i a = List.take i b) (fun i => List.length a - i) 0 0 ⟨Nat.zero_le _, rfl⟩ ?_ ?_
  · dsimp only [go_sem]
    simp
  · intro i ⟨hi, ht⟩ R hm
    refine hH.run 100 _ _ ?_
    dsimp only [go_sem]
    rw [Int.toNat_natCast]
    refine ⟨fun d => ?_, fun d => ?_⟩ <;> simp only [decide_eq_true_eq, decide_eq_false_iff_not] at d
    · have d1 : i < List.length a := by omega
      have b1 : (0 : Int) ≤ (i : Int) ∧ (i : Int) < (List.length a : Int) := by omega
      have b2 : (0 : Int) ≤ (i : Int) ∧ (i : Int) < (List.length b : Int) := by omega
      have ta := take_get a i (zd (Ty.int IntKind.i64)) d1
      have tb := take_get b i (zd (Ty.int IntKind.i64)) (by omega)
      refine ⟨b1, b2, fun e => ?_, fun e => ?_⟩ <;> simp only [decide_eq_true_eq, decide_eq_false_iff_not] at e
      · rw [decide_eq_false (fun q => e (by rw [q]))]
        exact ⟨rfl, trivial⟩
      · have e : List.getD a i (zd (Ty.int IntKind.i64)) = List.getD b i (zd (Ty.int IntKind.i64)) := Decidable.not_not.1 e
        refine ⟨by rw [inR_i64]; omega, hm _ (i + 1) 0 ⟨d1, by rw [ta, tb, ht, e]⟩ (by omega) ?_⟩
        dsimp only [go_sem]
        simp
    · rw [List.take_of_length_le (by omega), List.take_of_length_le (by omega)] at ht
      rw [decide_eq_true ht]
      exact ⟨rfl, trivial⟩
def bprK (k : Nat) : Rat := Rat.divInt (([1, 1, 2, 1, 1, 0, 3, 1] : List Int).getD k 0) (([2, 3, 3, 4, 1, 1, 5, 7] : List Int).getD k 0)
def bpr (n : Int) : Rat := bprK (n % 8).toNat
theorem bprK_b : ∀ k, k < 8 → qs (bprK k) ≤ 1 ∧ qs (1 - bprK k) ≤ 1 := by decide +kernel
theorem bpr_b (n : Int) : qs (bpr n) ≤ 1 ∧ qs (1 - bpr n) ≤ 1 := bprK_b _ (by omega)
@[go_sem] def bProbS : Spec := ⟨[.int .i64], fun d => (.dat fT (qf (bpr d.1)), [])⟩
theorem bProb_ok : SpecOk Try.prog 54 bProbS := by
  refine fn_ok EW5_ok bProbS Try.func54 rfl (by decide) (N := 24) rfl (res := [.cell 2 53]) rfl (by decide) [(1, [(7, .dt)]), (2, [(12, .dt)])] [] [] 100 (by kernel_rfl) ?_
  rintro ⟨(n:Int), _⟩ hw hp
  refine ⟨rfl, fun H hH => ?_⟩
  dsimp only [go_sem] at hw hp ⊢
  have ek : bitsI .and .i64 n 7 = n % 8 := andMask n 3 (by omega)
  rw [ek]
  have key : ∀ k, k < 8 → ([2, 3, 3, 4, 1, 1, 5, 7] : List Int).getD k 0 ≠ 0 := by decide
  refine ⟨by change (0 : Int) ≤ n % 8 ∧ n % 8 < ((8 : Nat) : Int); omega, by change (0 : Int) ≤ n % 8 ∧ n % 8 < ((8 : Nat) : Int); omega, if_neg (key _ (by omega)), trivial⟩
@[go_sem] noncomputable def EW6 : Env := (((((EW5).add 9 bAtS).add 18 rSwS).add 54 bProbS).add 55 bFmtS).add 33 qFmtS
theorem EW6_ok : EW6.Ok := (((((EW5_ok).add bAt_ok).add rSw_ok).add bProb_ok).add bFmt_ok).add qFmt_ok
theorem bat_nn (l : List Int) {i : Int} (h : 0 ≤ i) : 0 ≤ bat l i := by
  unfold bat
  split
  · omega
  · have d0 : 0 ≤ i / (l.length : Int) := Int.ediv_nonneg h (by omega)
    omega
def bwd (s : List Blk) (l : List Int) : List Int := (List.range s.length).map fun i : Nat => bat l (i : Int) % (((s.getD (i : Nat) []).length : Int) + 1) - 1
@[go_sem] def bWdS : Spec := ⟨[spT, wdT], fun d => (.dat wdT (bwd d.1 d.2.1), [List.length d.1 ≤ 5000, ∀ b ∈ d.1, List.length b ≤ 100])⟩
theorem bWd_ok : SpecOk Try.prog 16 bWdS := by
  refine fn_ok EW6_ok bWdS Try.func16 rfl (by decide) (N := 31) rfl (res := [.tmp 4]) rfl (by decide) [(5, [(28, .dt)])] [(6, [1])] [] 100 (by kernel_rfl) ?_
  rintro ⟨s, l, _⟩ hw hp
  refine ⟨rfl, fun H hH => ?_⟩
  dsimp only [go_sem] at hw hp ⊢
  obtain ⟨hs, hb, -⟩ := hp
  refine hH.loop (fun i : Nat => ⟨[(1, .dat wdT l), (2, .ref 0 0), (5, .own 1), (6, .dat (.int .i64) (i : Int))], [(0, .box 26 (.cons (.dat (.slice bkT) s) .nil)), (1, .row 3 (.int .i64) ((List.range i).map fun i : Nat => bat l (i : Int) % (((s.getD (i : Nat) []).length : Int) + 1) - 1))], 2⟩) (fun i => i ≤ List.length s) (fun i => List.length s - i) 0 1 (Nat.zero_le _) ?_ ?_
  · dsimp only [go_sem]
    simp
  · intro i hi R hm
    refine hH.run 100 _ _ ?_
    dsimp only [go_sem]
    rw [Int.toNat_natCast]
    refine ⟨fun d => ?_, fun d => ?_⟩ <;> simp only [decide_eq_true_eq, decide_eq_false_iff_not] at d
    · have d1 : i < List.length s := by omega
      have hs : List.length s ≤ 5000 := hs
      have b1 : (0 : Int) ≤ (i : Int) ∧ (i : Int) < (List.length s : Int) := by omega
      have b0 : (0 : Int) ≤ (i : Int) ∧ (i : Int) ≤ 1000000 := by omega
      have hzb : List.getD s i (zd bkT) = List.getD s i [] := rfl
      have hbl := hb _ (getD_mem (l := s) [] d1)
      have hbn := bat_nn l (i := (i : Int)) (by omega)
      have e1 : List.range (i + 1) = List.range i ++ [i] := List.range_succ
      rw [hzb, Int.tmod_eq_emod_of_nonneg hbn]
      have m0 := Int.emod_nonneg (bat l (i : Int)) (show (List.length (List.getD s i []) : Int) + 1 ≠ 0 by omega)
      have m1 := Int.emod_lt_of_pos (bat l (i : Int)) (show (0 : Int) < (List.length (List.getD s i []) : Int) + 1 by omega)
      have hbl : (List.getD s i []).length ≤ 100 := hbl
      refine ⟨b0, b1, by rw [inR_i64]; omega, by omega, by rw [inR_i64]; omega, by rw [inR_i64]; omega, ?_, rfl, by rw [inR_i64]; omega, hm _ (i + 1) 2 d1 (by omega) ?_⟩
      · rw [List.length_map, List.length_range]; show (i + 1) * 8 ≤ _; omega
      · dsimp only [go_sem]
        rw [e1, List.map_append]
        simp
    · have : i = List.length s := by have hi : i ≤ List.length s := hi; omega
      subst this
      exact ⟨rfl, trivial⟩
@[go_sem] def l11knS : Spec := ⟨[], fun d => (.dat .bool true, [])⟩
theorem l11kn_ok : SpecOk Try.prog 20 l11knS := by
  refine fn_ok EW6_ok l11knS Try.func20 rfl (by decide) (N := 60) rfl (res := [.tmp 0]) rfl (by decide) [(1, [(8, .dt), (11, .dt), (13, .dt)]), (3, [(23, .dt)]), (4, [(31, .tr true), (34, .tr true), (39, .tr true), (45, .tr true), (51, .tr true), (55, .tr true)])] [] [] 100 (by kernel_rfl) ?_
  rintro ⟨_⟩ hw hp
  refine ⟨rfl, fun H hH => ?_⟩
  dsimp only [go_sem] at hw hp ⊢
  have hs : spP [[qf (bpr 1), qf (bpr 1)], [qf (bpr 0)]] := by
    have h0 := (bpr_b 0).1
    have h1 := (bpr_b 1).1
    refine ⟨by decide, fun b hb => ?_⟩
    simp only [List.mem_cons, List.not_mem_nil, or_false] at hb
    rcases hb with rfl | rfl
    · refine ⟨by decide, fun f hf => ?_⟩
      simp only [List.mem_cons, List.not_mem_nil, or_false] at hf
      rcases hf with rfl | rfl <;> rw [fs_qf] <;> omega
    · refine ⟨by decide, fun f hf => ?_⟩
      rw [List.mem_singleton.1 hf, fs_qf]; omega
  have k1 : atR [[qf (bpr 1), qf (bpr 1)], [qf (bpr 0)]] (N (dg 5)) = ([-1, -1], true) := by decide +kernel
  have k2 : cnt [[qf (bpr 1), qf (bpr 1)], [qf (bpr 0)]] = 6 := by decide +kernel
  have k3 : prW [[qf (bpr 1), qf (bpr 1)], [qf (bpr 0)]] [-1, 0] = (qf (Rat.divInt 1 6), 0) := by decide +kernel
  have hq6 : fs (qf (Rat.divInt 1 6)) ≤ 1 := by decide +kernel
  have hf6 : Fd (qf (Rat.divInt 1 6)) := ⟨(canon_dg _).1, (canon_dg _).1⟩
  rw [k1, k2, k3, fq_qf, N_dg (show (0 : Int) ≤ 6 by decide)]
  have e1 : decT 6 = [54] := decT_of (s := ⟨#[54]⟩) (.inr ⟨by decide, [6], ⟨by unfold D10; decide, by decide⟩, by decide, rfl⟩)
  have e2 : ftT (Rat.divInt 1 6) = [49, 47, 54] := by
    have d1 : (Rat.divInt 1 6).den = 6 := by decide +kernel
    have d2 : (Rat.divInt 1 6).num = 1 := by decide +kernel
    have e3 : decT 1 = [49] := decT_of (s := ⟨#[49]⟩) (.inr ⟨by decide, [1], ⟨by unfold D10; decide, by decide⟩, by decide, rfl⟩)
    unfold ftT
    rw [d1, d2, if_neg (by decide), if_neg (by decide)]
    show decT 1 ++ 47 :: decT 6 = _
    rw [e3, e1]; rfl
  rw [e1, e2]
  exact ⟨⟨hs, by decide⟩, by decide, ⟨hs, by decide⟩, ⟨hs, by decide⟩, by decide, by decide, rfl, by decide, by decide, by decide, by decide, by decide, by decide, Nat.le_trans hq6 (by decide), hf6, by decide, trivial⟩
@[go_sem] noncomputable def EW7 : Env := ((EW6).add 16 bWdS).add 20 l11knS
theorem EW7_ok : EW7.Ok := ((EW6_ok).add bWd_ok).add l11kn_ok
end Go.Proofs.Ythjgfppmempbkaa.Gx
