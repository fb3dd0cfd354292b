/-
  The laws of the polynomials: PolyDerivative.
-/
import Derived.Test.YtpneaknfnlnbcaaP7
namespace Go.Proofs.Ytpneaknfnlnbcaa.Gx
open Go Go.RowKit Tw B Nt
set_option linter.unusedVariables false
set_option linter.unusedSimpArgs false
set_option maxHeartbeats 4000000
set_option maxRecDepth 20000
theorem PE.dd {L M : QL} (h : PE L M) : PE (dQ L) (dQ M) := h.d
theorem pcd (L : QL) : pc (dQ (pf (pc L))) = pc (dQ L) := pc_eq.2 (by rw [pf_pc]; exact PE.dd (PE.of_tr _))
theorem pcs (a : Rat) (L : QL) : pc (scQ a (pf (pc L))) = pc (scQ a L) := pc_eq.2 (by rw [pf_pc]; exact PE.sc a (PE.of_tr _))
theorem SzQ.big {B : Nat} {L : QL} (h : SzQ B L) (hB : B ≤ 2000000) : Sz 2000000 (Gx.pc L) := h.pc.le hB
@[go_sem] def lDerS : Spec := ⟨[.slice (.int .i64), .slice (.int .i64), .int .i64], fun d => (.dat .bool true, [])⟩
theorem lDer_ok : SpecOk Try.prog 7 lDerS := by
  refine fn_ok EPA_ok lDerS Try.func7 rfl (by decide) (N := 53) rfl (res := [.tmp 6]) rfl (by decide) [] [] [] 100 (by kernel_rfl) ?_
  rintro ⟨(x:List Int), (y:List Int), (n:Int), _⟩ hw hp
  refine ⟨rfl, fun H hH => ?_⟩
  dsimp only [go_sem] at hw hp ⊢
  have lx := (ofP_len x).1
  have ly := (ofP_len y).1
  have sx := ofP_sz x
  have sy := ofP_sz y
  have qx := ofP_szq x
  have qy := ofP_szq y
  have a1 := qs_le (bfr_b n)
  have a2 : fs (qf (bfr n)) ≤ 2000000 := by rw [fs_qf]; omega
  generalize bfr n = A at *
  generalize hpx : ofP x = p at *
  generalize hpy : ofP y = q at *
  have lx' := lx
  have ly' := ly
  rw [← pf_len] at lx' ly'
  have b1 : mulB p q := mulB_small sx sy (by omega) (by omega) (by decide) (by decide)
  have c1 : Sz 2000000 p := sx.le (by decide)
  have c2 : Sz 2000000 q := sy.le (by decide)
  generalize pf p = P at *
  generalize pf q = Q at *
  have m1 := two_m qx qy lx' ly'
  have k1 := dQ_len P
  have k2 := dQ_len Q
  have n1 := pc_len (dQ P)
  have n2 := pc_len (dQ Q)
  have g1 := qx.d
  have g2 := qy.d
  have g3 := qy.sc A
  have g4 := g2.sc A
  have g5 := qx.add g3
  have h1 := g1.mul qy (by omega)
  have h2 := qx.mul g2 (by omega)
  have f1 := Nat.mul_le_mul (show (dQ P).length ≤ 7 by omega) (Nat.le_refl (1 + 1 + 1 + 1))
  have f2 := Nat.mul_le_mul (show P.length ≤ 7 by omega) (Nat.le_refl (1 + (1 + 1) + 1))
  have d1 : Sz 2000000 (pc (mulQ P Q)) := m1.1.big (by decide)
  have d2 : mulB (pc (dQ P)) q := mulB_small g1.pc sy (by omega) (by omega) (by decide) (by decide)
  have d3 : mulB p (pc (dQ Q)) := mulB_small sx g2.pc (by omega) (by omega) (by decide) (by decide)
  have d4 : Sz 2000000 (pc (mulQ (dQ P) Q)) := h1.big (by omega)
  have d5 : Sz 2000000 (pc (mulQ P (dQ Q))) := h2.big (by omega)
  have d6 : Sz 2000000 (pc (scQ A Q)) := g3.big (by omega)
  have d7 : Sz 2000000 (pc (addQ P (scQ A Q))) := g5.big (by omega)
  have d8 : Sz 2000000 (pc (dQ P)) := g1.big (by omega)
  have d9 : Sz 2000000 (pc (dQ Q)) := g2.big (by omega)
  have da : Sz 2000000 (pc (scQ A (dQ Q))) := g4.big (by omega)
  have s1 : psame (pc (dQ (mulQ P Q))) (pc (addQ (mulQ (dQ P) Q) (mulQ P (dQ Q)))) = true := psame_of (pc_eq.2 (d_mul P Q))
  have s2 : psame (pc (dQ (addQ P (scQ A Q)))) (pc (addQ (dQ P) (scQ A (dQ Q)))) = true := psame_of (pc_eq.2 ((d_add P (scQ A Q)).trans (PE.add (PE.refl _) (d_sc A Q))))
  simp only [pcm_l, pcm_r, pca_l, pca_r, pcd, pcs, fq_qf, a2, b1, c1, c2, d1, d2, d3, d4, d5, d6, d7, d8, d9, da, s1, s2]
  simp
end Go.Proofs.Ytpneaknfnlnbcaa.Gx
