/-
  The reference's polynomials: PolyNorm, PolyAdd.
-/
import Derived.Test.YtpneaknfnlnbcaaP7
namespace Go.Proofs.Ytpneaknfnlnbcaa.Gx
open Go Go.RowKit Tw B Nt
set_option linter.unusedVariables false
set_option linter.unusedSimpArgs false
set_option maxHeartbeats 4000000
set_option maxRecDepth 20000
theorem qf_numz (q : Rat) : (qf q).2.1.length = 0 ↔ q = 0 := by
  show (dg (q.num.natAbs : Int)).length = 0 ↔ q = 0
  rw [dg_zero' (by omega), ← Rat.num_eq_zero]
  omega
/-- all coefficients in canonical form -/
def nrm (p : List fT.den) : List fT.den := (pf p).map qf
theorem nrm_len (p : List fT.den) : (nrm p).length = p.length := by unfold nrm; rw [List.length_map, pf_len]
theorem nrm_pf (p : List fT.den) : pf (nrm p) = pf p := pf_map _
theorem nrm_kt (p : List fT.den) : kt (nrm p) = kt p := by unfold kt; rw [nrm_pf]
theorem nrm_get (p : List fT.den) {i : Nat} (h : i < p.length) : (nrm p).getD i f0 = qf (fq (p.getD i f0)) := by
  unfold nrm; rw [map_get (by rw [pf_len]; exact h), co_pf]
theorem nrm_snoc (p : List fT.den) {i : Nat} (h : i < p.length) : (nrm p).take (i + 1) = (nrm p).take i ++ [qf (fq (p.getD i f0))] := by
  rw [take_get (nrm p) i f0 (by rw [nrm_len]; exact h), nrm_get p h]
@[go_sem] def rPNormS : Spec := ⟨[(.slice fT)], fun d => (.dat (.slice fT) (pc (pf d.1)), [Sz 5000000 d.1])⟩
theorem rPNorm_ok : SpecOk Try.prog 33 rPNormS := by
  refine fn_ok EPA_ok rPNormS Try.func33 rfl (by decide) (N := 40) rfl (res := [.tmp 2]) rfl (by decide) [] [(6, [0])] [] 100 (by kernel_rfl) ?_
  rintro ⟨p, _⟩ hw hp
  refine ⟨rfl, fun H hH => ?_⟩
  dsimp only [go_sem] at hw hp ⊢
  obtain ⟨hs, -⟩ := hp
  have hl := hs.1
  change List fT.den at p
  have hz : zd (.pair .bool (.pair (.slice (.int .u32)) (.slice (.int .u32)))) = f0 := rfl
  have hN := nrm_len p
  have hk := kt_le p
  refine hH.loop (fun i : Nat => ⟨[(0, .dat (.slice fT) p), (3, .own 0), (4, .dat (.int .i64) (i : Int))], [(0, .row 29 fT ((nrm p).take i))], 1⟩) (fun i => i ≤ p.length) (fun i => p.length - i) 0 0 (Nat.zero_le _) ?_ ?_
  · dsimp only [go_sem]
    simp
  · intro i hi R hm
    have hi : i ≤ p.length := hi
    refine hH.run 100 _ _ ?_
    dsimp only [go_sem]
    rw [hz, Int.toNat_natCast]
    have hT : (List.take i (nrm p)).length = i := by rw [List.length_take, hN]; omega
    refine ⟨fun c => ?_, fun c => ?_⟩ <;> simp only [decide_eq_true_eq, decide_eq_false_iff_not] at c
    · have hi' : i < p.length := by omega
      refine ⟨by change (0 : Int) ≤ (i : Int) ∧ (i : Int) < (p.length : Int); omega, hs.at i, by rw [hT, List.length_singleton]; omega, rfl, by rw [inR_i64]; omega, hm _ (i + 1) 1 hi' (by omega) ?_⟩
      dsimp only [go_sem]
      rw [nrm_snoc p hi']
      simp
    · have e1 : i = p.length := by omega
      rw [List.take_of_length_le (by omega)]
      refine hH.loop (fun j : Nat => ⟨[(3, .dat (.slice fT) (nrm p)), (5, .dat (.int .i64) (j : Int))], [], 0⟩) (fun j => j ≤ p.length ∧ kt p ≤ j) (fun j => j) p.length 0 ⟨Nat.le_refl _, hk⟩ ?_ ?_
      · dsimp only [go_sem]
        simp [hN]
      · intro j hj R2 hm2
        obtain ⟨hj, hj2⟩ : j ≤ p.length ∧ kt p ≤ j := hj
        refine hH.run 100 _ _ ?_
        dsimp only [go_sem]
        rw [hz]
        have at1 : 0 < j → (((j : Int) - 1).toNat = j - 1) := fun h => by omega
        refine ⟨fun h => h, fun h => ?_, fun h => h, fun h => h, fun h => ?_, fun h => h, fun h => h, fun h => h, fun h => h, fun h => h, fun c => ?_, fun c => ?_⟩
        · simp only [decide_eq_true_eq] at h
          rw [inR_i64]; omega
        · simp only [decide_eq_true_eq] at h
          rw [hN]
          change (0 : Int) ≤ (j : Int) - 1 ∧ (j : Int) - 1 < (p.length : Int)
          omega
        · simp only [Bool.and_eq_true, decide_eq_true_eq] at c
          obtain ⟨c1, c2⟩ := c
          rw [at1 (by omega), nrm_get p (by omega)] at c2
          have c3 : fq (p.getD (j - 1) f0) = 0 := (qf_numz _).1 (by omega)
          have c4 := sgQ_at (p := p) (n := j - 1) (sgQ_eq_zero.2 c3) (by omega)
          refine ⟨by rw [inR_i64]; omega, hm2 _ (j - 1) 0 ⟨by omega, c4⟩ (by omega) ?_⟩
          dsimp only [go_sem]
          have e1 : (j : Int) - 1 = ((j - 1 : Nat) : Int) := by omega
          rw [e1]
          simp
        · have hk2 : j = kt p := by
            simp only [Bool.and_eq_false_iff, decide_eq_false_iff_not] at c
            rcases c with c | c
            · omega
            · rcases Nat.eq_zero_or_pos j with h0 | h0
              · omega
              · rw [at1 h0, nrm_get p (by omega)] at c
                have c3 : fq (p.getD (j - 1) f0) ≠ 0 := fun e => c (by rw [(qf_numz _).2 e]; rfl)
                have := sgQ_end (p := p) (n := j - 1) (fun e => c3 (sgQ_eq_zero.1 e))
                omega
          refine ⟨?_, ?_, trivial⟩
          · rw [hN]
            change (0 : Int) ≤ (j : Int) ∧ (j : Int) ≤ (j : Int) ∧ (j : Int) ≤ (p.length : Int)
            omega
          · rw [Int.toNat_natCast, hk2, ← nrm_kt]
            exact trim_map _
end Go.Proofs.Ytpneaknfnlnbcaa.Gx
