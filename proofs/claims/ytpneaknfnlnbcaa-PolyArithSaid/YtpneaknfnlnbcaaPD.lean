/-
  The reference's polynomials: PolyScale, PolyDerivative, PolyMean.
-/
import Derived.Test.YtpneaknfnlnbcaaPC
namespace Go.Proofs.Ytpneaknfnlnbcaa.Gx
open Go Go.RowKit Tw B Nt
set_option linter.unusedVariables false
set_option linter.unusedSimpArgs false
set_option maxHeartbeats 4000000
set_option maxRecDepth 20000
@[go_sem] def rPScS : Spec := ⟨[(.slice fT), fT], fun d => (.dat (.slice fT) (pc (mulQ (pf d.1) (pf [d.2.1]))), [rmB d.1 [d.2.1]])⟩
theorem rPSc_ok : SpecOk Try.prog 36 rPScS := by
  refine fn_ok EPJ_ok rPScS Try.func36 rfl (by decide) (N := 9) rfl (res := [.tmp 4]) rfl (by decide) [(1, [(7, .dt)])] [] [] 100 (by kernel_rfl) ?_
  rintro ⟨p, a, _⟩ hw hp
  refine ⟨rfl, fun H hH => ?_⟩
  dsimp only [go_sem] at hw hp ⊢
  obtain ⟨hp1, -⟩ := hp
  exact ⟨hp1, rfl, trivial⟩
@[go_sem] def rPDerS : Spec := ⟨[(.slice fT)], fun d => (.dat (.slice fT) (pc (dQ (pf d.1))), [Sz 300000 d.1])⟩
theorem rPDer_ok : SpecOk Try.prog 37 rPDerS := by
  refine fn_ok EPJ_ok rPDerS Try.func37 rfl (by decide) (N := 23) rfl (res := [.tmp 2]) rfl (by decide) [(5, [(19, .dt)])] [(6, [0])] [] 100 (by kernel_rfl) ?_
  rintro ⟨p, _⟩ hw hp
  refine ⟨rfl, fun H hH => ?_⟩
  dsimp only [go_sem] at hw hp ⊢
  obtain ⟨hp1, -⟩ := hp
  have hsz := ((SzQ.of hw.1.2 hp1).d).map
  have hl1 := hp1.1
  change List fT.den at p
  have hlen := dQ_len (pf p)
  rw [pf_len] at hlen
  have hA : ((dQ (pf p)).map qf).length = p.length - 1 := by rw [List.length_map]; exact hlen
  have hget : ∀ j, j < p.length - 1 → ((dQ (pf p)).map qf).take (j + 1) = ((dQ (pf p)).map qf).take j ++ [qf (((j + 1 : Nat) : Rat) * fq (p.getD (j + 1) f0))] := fun j hj => by
    rw [take_get _ j f0 (by rw [hA]; exact hj), map_get (by omega), co_d, co_pf]
  have hpc : pc (pf ((dQ (pf p)).map qf)) = pc (dQ (pf p)) := by rw [pf_map]
  generalize (dQ (pf p)).map qf = A at *
  have hz : zd (.pair .bool (.pair (.slice (.int .u32)) (.slice (.int .u32)))) = f0 := rfl
  refine hH.loop (fun j : Nat => ⟨[(0, .dat (.slice fT) p), (3, .own 0), (4, .dat (.int .i64) ((j + 1 : Nat) : Int))], [(0, .row 29 fT (A.take j))], 1⟩) (fun j => j ≤ p.length - 1) (fun j => p.length - 1 - j) 0 0 (Nat.zero_le _) ?_ ?_
  · dsimp only [go_sem]
    simp
  · intro j hj R hm
    have hj : j ≤ p.length - 1 := hj
    refine hH.run 100 _ _ ?_
    dsimp only [go_sem]
    rw [hz, Int.toNat_natCast]
    have hT : (List.take j A).length = j := by rw [List.length_take, hA]; omega
    have hc : (((j + 1 : Nat) : Int) : Rat) = ((j + 1 : Nat) : Rat) := Rat.intCast_natCast _
    rw [hc, hT, fq_qf, List.length_singleton]
    refine ⟨fun c => ?_, fun c => ?_⟩ <;> simp only [decide_eq_true_eq, decide_eq_false_iff_not] at c
    · have c : ((j + 1 : Nat) : Int) < (p.length : Int) := c
      have hj' : j < p.length - 1 := by omega
      refine ⟨by change (0 : Int) ≤ ((j + 1 : Nat) : Int) ∧ ((j + 1 : Nat) : Int) < (p.length : Int); omega, Nat.le_trans (hp1.at _) (by decide), ?_, by omega, rfl, by rw [inR_i64]; omega, hm _ (j + 1) 1 (by omega) (by omega) ?_⟩
      · rw [fs_qf]; exact Nat.le_trans (qs_nat (by omega)) (by decide)
      · dsimp only [go_sem]
        rw [hget j hj', Rat.mul_comm]
        simp
    · have c : ¬ ((j + 1 : Nat) : Int) < (p.length : Int) := c
      rw [List.take_of_length_le (by omega)]
      exact ⟨⟨by omega, fun f hf => Nat.le_trans (hsz.2 f hf) (by decide)⟩, hpc, trivial⟩
@[go_sem] noncomputable def EPK : Env := (((EPJ).add 34 rPAddS).add 36 rPScS).add 37 rPDerS
theorem EPK_ok : EPK.Ok := (((EPJ_ok).add rPAdd_ok).add rPSc_ok).add rPDer_ok
@[go_sem] def rPMeanS : Spec := ⟨[(.slice fT)], fun d => (.dat fT (qf (qsum (pc (dQ (pf d.1))))), [Sz 90 d.1])⟩
theorem rPMean_ok : SpecOk Try.prog 40 rPMeanS := by
  refine fn_ok EPK_ok rPMeanS Try.func40 rfl (by decide) (N := 6) rfl (res := [.cell 2 29]) rfl (by decide) [] [] [] 100 (by kernel_rfl) ?_
  rintro ⟨p, _⟩ hw hp
  refine ⟨rfl, fun H hH => ?_⟩
  dsimp only [go_sem] at hw hp ⊢
  obtain ⟨hp1, -⟩ := hp
  have h1 := ((SzQ.of hw.1.2 hp1).d).pc.le (show 90 + 1 + 1 ≤ 100 by omega)
  refine ⟨hp1.le (by decide), h1, ?_, trivial⟩
  rw [ev_one]
end Go.Proofs.Ytpneaknfnlnbcaa.Gx
