/-
  The laws of the polynomials: PolyRing.
-/
import Derived.Test.YtpneaknfnlnbcaaP7
namespace Go.Proofs.Ytpneaknfnlnbcaa.Gx
open Go Go.RowKit Tw B Nt
set_option linter.unusedVariables false
set_option linter.unusedSimpArgs false
set_option maxHeartbeats 4000000
set_option maxRecDepth 20000
@[go_sem] def lRingS : Spec := ⟨[.slice (.int .i64), .slice (.int .i64), .slice (.int .i64), .int .i64], fun d => (.dat .bool true, [])⟩
theorem lRing_ok : SpecOk Try.prog 3 lRingS := by
  refine fn_ok EPA_ok lRingS Try.func3 rfl (by decide) (N := 111) rfl (res := [.tmp 8]) rfl (by decide) [] [] [] 100 (by kernel_rfl) ?_
  rintro ⟨(x:List Int), (y:List Int), (z:List Int), (n:Int), _⟩ hw hp
  refine ⟨rfl, fun H hH => ?_⟩
  dsimp only [go_sem] at hw hp ⊢
  refine ⟨fun h => h, fun h => h, fun h => h, fun h => h, fun h => h, fun h => h, fun _ => ⟨rfl, trivial⟩, fun _ => ?_⟩
  have lx := (ofP_len x).1
  have ly := (ofP_len y).1
  have lz := (ofP_len z).1
  have sx := ofP_sz x
  have sy := ofP_sz y
  have sz := ofP_sz z
  have qx := ofP_szq x
  have qy := ofP_szq y
  have qz := ofP_szq z
  have a1 := qs_le (bfr_b n)
  have a2 : fs (qf (bfr n)) ≤ 1000 := by rw [fs_qf]; omega
  generalize bfr n = A at *
  generalize hpx : ofP x = p at *
  generalize hpy : ofP y = q at *
  generalize hpz : ofP z = r at *
  have lx' := lx
  have ly' := ly
  have lz' := lz
  rw [← pf_len] at lx' ly' lz'
  have b1 : mulB p q := mulB_small sx sy (by omega) (by omega) (by decide) (by decide)
  have b2 : mulB q p := mulB_small sy sx (by omega) (by omega) (by decide) (by decide)
  have b3 : mulB q r := mulB_small sy sz (by omega) (by omega) (by decide) (by decide)
  have b4 : mulB p r := mulB_small sx sz (by omega) (by omega) (by decide) (by decide)
  have c1 : Sz 2000000 p := sx.le (by decide)
  have c2 : Sz 2000000 q := sy.le (by decide)
  have c3 : Sz 2000000 r := sz.le (by decide)
  have c4 : Sz 1000 p := sx.le (by decide)
  have c5 : Sz 1000 q := sy.le (by decide)
  generalize pf p = P at *
  generalize pf q = Q at *
  generalize pf r = R at *
  have m1 := two_m qx qy lx' ly'
  have m2 := two_m qy qz ly' lz'
  have m3 := two_m qx qz lx' lz'
  have m4 := two_a qx qy lx' ly'
  have m5 := two_a qy qz ly' lz'
  have n1 := pc_len (mulQ P Q)
  have n2 := pc_len (mulQ Q R)
  have n3 := pc_len (addQ Q R)
  have d1 : mulB (pc (mulQ P Q)) r := mulB_small m1.1.pc sz (by omega) (by omega) (by decide) (by decide)
  have d2 : mulB p (pc (mulQ Q R)) := mulB_small sx m2.1.pc (by omega) (by omega) (by decide) (by decide)
  have d3 : mulB p (pc (addQ Q R)) := mulB_small sx m5.1.pc (by omega) (by omega) (by decide) (by decide)
  have d4 : Sz 2000000 (pc (mulQ P Q)) := m1.1.pc.le (by decide)
  have d5 : Sz 2000000 (pc (mulQ P R)) := m3.1.pc.le (by decide)
  have d6 : Sz 1000 (pc (mulQ P Q)) := m1.1.pc.le (by decide)
  have d7 : Sz 1000 (pc (addQ P Q)) := m4.1.pc.le (by decide)
  have e1 : fs (qf (evQ P A)) ≤ 5000000 := ev_small A qx lx' a1 (by decide)
  have e2 : fs (qf (evQ Q A)) ≤ 5000000 := ev_small A qy ly' a1 (by decide)
  have s1 : psame (pc (addQ P Q)) (pc (addQ Q P)) = true := psame_of (pc_eq.2 (add_comm' P Q))
  have s2 : psame (pc (mulQ P Q)) (pc (mulQ Q P)) = true := psame_of (pc_eq.2 (mul_comm' P Q))
  have s3 : psame (pc (mulQ (mulQ P Q) R)) (pc (mulQ P (mulQ Q R))) = true := psame_of (pc_eq.2 (mul_assoc' P Q R))
  have s4 : psame (pc (mulQ P (addQ Q R))) (pc (addQ (mulQ P Q) (mulQ P R))) = true := psame_of (pc_eq.2 (mul_addr P Q R))
  simp only [pcm_l, pcm_r, pca_l, pca_r, ev_pc, fq_qf, ev_mul, ev_add, a2, b1, b2, b3, b4, c1, c2, c3, c4, c5, d1, d2, d3, d4, d5, d6, d7, e1, e2, s1, s2, s3, s4]
  simp
end Go.Proofs.Ytpneaknfnlnbcaa.Gx
