/-
  The reference's polynomials: PolyAdd.
-/
import Derived.Test.YtpneaknfnlnbcaaPA
import Derived.Test.YtpneaknfnlnbcaaP9
namespace Go.Proofs.Ytpneaknfnlnbcaa.Gx
open Go Go.RowKit Tw B Nt
set_option linter.unusedVariables false
set_option linter.unusedSimpArgs false
set_option maxHeartbeats 4000000
set_option maxRecDepth 20000
@[go_sem] noncomputable def EPJ : Env := (EPF).add 35 rPMulS
theorem EPJ_ok : EPJ.Ok := (EPF_ok).add rPMul_ok
@[go_sem] def rPAddS : Spec := ⟨[(.slice fT), (.slice fT)], fun d => (.dat (.slice fT) (pc (addQ (pf d.1) (pf d.2.1))), [Sz 300000 d.1, Sz 300000 d.2.1])⟩
theorem rPAdd_ok : SpecOk Try.prog 34 rPAddS := by
  refine fn_ok EPJ_ok rPAddS Try.func34 rfl (by decide) (N := 47) rfl (res := [.tmp 4]) rfl (by decide) [] [(11, [0])] [] 100 (by kernel_rfl) ?_
  rintro ⟨p, q, _⟩ hw hp
  refine ⟨rfl, fun H hH => ?_⟩
  dsimp only [go_sem] at hw hp ⊢
  obtain ⟨hp1, hp2, -⟩ := hp
  have hsz := ((SzQ.of hw.1.2 hp1).add (SzQ.of hw.2.1.2 hp2)).map
  have hl1 := hp1.1
  have hl2 := hp2.1
  change List fT.den at p q
  have hlen := len_add (pf p) (pf q)
  rw [pf_len, pf_len] at hlen
  have hA : ((addQ (pf p) (pf q)).map qf).length = max p.length q.length := by rw [List.length_map]; exact hlen
  have hget : ∀ i, i < max p.length q.length → ((addQ (pf p) (pf q)).map qf).take (i + 1) = ((addQ (pf p) (pf q)).map qf).take i ++ [qf (fq (p.getD i f0) + fq (q.getD i f0))] := fun i hi => by
    rw [take_get _ i f0 (by rw [hA]; exact hi), map_get (by omega), co_add, co_pf, co_pf]
  have hpc : pc (pf ((addQ (pf p) (pf q)).map qf)) = pc (addQ (pf p) (pf q)) := by rw [pf_map]
  have out : ∀ (l : List fT.den) (i : Nat), ¬ i < l.length → fq (l.getD i f0) = 0 := fun l i h => by
    rw [List.getD_eq_getElem?_getD, List.getElem?_eq_none (by omega)]; exact fq_f0
  have zq : fq (qf ((0 : Int) : Rat)) = 0 := fq_qf _
  have z1 : fs (qf ((0 : Int) : Rat)) ≤ 1000000 := by rw [fs_qf]; exact Nat.le_trans qs_zero (by decide)
  have z2 : ∀ i, qs (fq (p.getD i f0)) ≤ 300001 := fun i => by rw [← co_pf]; exact qs_at hw.1.2 hp1 i
  generalize hAd : (addQ (pf p) (pf q)).map qf = A at *
  have hz : zd (.pair .bool (.pair (.slice (.int .u32)) (.slice (.int .u32)))) = f0 := rfl
  refine hH.loop (fun i : Nat => ⟨[(0, .dat (.slice fT) p), (1, .dat (.slice fT) q), (5, .own 0), (6, .dat (.int .i64) (i : Int))], [(0, .row 29 fT (A.take i))], 1⟩) (fun i => i ≤ max p.length q.length) (fun i => max p.length q.length - i) 0 0 (Nat.zero_le _) ?_ ?_
  · dsimp only [go_sem]
    simp
  · intro i hi R hm
    have hi : i ≤ max p.length q.length := hi
    refine hH.run 100 _ _ ?_
    dsimp only [go_sem]
    rw [hz, Int.toNat_natCast]
    have hT : (List.take i A).length = i := by rw [List.length_take, hA]; omega
    simp only [zq, fq_qf, Rat.zero_add, hT, List.length_singleton]
    refine ⟨fun h => h, fun h => h, fun h => h, fun h => h, fun c => ?_, fun c => ?_⟩ <;> simp only [Bool.or_eq_true, Bool.or_eq_false_iff, decide_eq_true_eq, decide_eq_false_iff_not] at c
    · have hi' : i < max p.length q.length := by omega
      have q1 : inR .i64 ((i : Int) + 1) := by rw [inR_i64]; omega
      have q2 : (i + 1) * 56 ≤ 140737488355328 := by omega
      have hs := hget i hi'
      refine ⟨fun a => ⟨?_, z1, Nat.le_trans (hp1.at i) (by decide), fun b => ⟨?_, ?_, Nat.le_trans (hp2.at i) (by decide), q2, trivial, q1, hm _ (i + 1) 1 hi' (by omega) ?_⟩, fun b => ⟨q2, trivial, q1, hm _ (i + 1) 1 hi' (by omega) ?_⟩⟩, fun a => ⟨fun b => ⟨?_, z1, Nat.le_trans (hp2.at i) (by decide), q2, trivial, q1, hm _ (i + 1) 1 hi' (by omega) ?_⟩, fun b => ?_⟩⟩ <;> simp only [decide_eq_true_eq, decide_eq_false_iff_not] at a
      · change (0 : Int) ≤ (i : Int) ∧ (i : Int) < (p.length : Int); omega
      · simp only [decide_eq_true_eq] at b
        change (0 : Int) ≤ (i : Int) ∧ (i : Int) < (q.length : Int); omega
      · rw [fs_qf]; exact Nat.le_trans (z2 i) (by decide)
      · dsimp only [go_sem]
        rw [hs]
        simp
      · simp only [decide_eq_false_iff_not] at b
        dsimp only [go_sem]
        rw [hs, out q i (by omega), Rat.add_zero]
        simp
      · simp only [decide_eq_true_eq] at b
        change (0 : Int) ≤ (i : Int) ∧ (i : Int) < (q.length : Int); omega
      · dsimp only [go_sem]
        rw [hs, out p i (by omega), Rat.zero_add]
        simp
      · simp only [decide_eq_false_iff_not] at b
        exact absurd c (by omega)
    · have e1 : i = max p.length q.length := by omega
      rw [List.take_of_length_le (by omega)]
      exact ⟨⟨by omega, fun f hf => Nat.le_trans (hsz.2 f hf) (by decide)⟩, hpc, trivial⟩
end Go.Proofs.Ytpneaknfnlnbcaa.Gx
