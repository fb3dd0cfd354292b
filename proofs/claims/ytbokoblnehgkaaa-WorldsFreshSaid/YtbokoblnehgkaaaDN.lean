/-
  rational.Mul, magnitude and New by the evaluator.
-/
import Derived.Test.YtbokoblnehgkaaaMDa
namespace Go.Proofs.Ytbokoblnehgkaaa.Gx
open Go Go.RowKit Tw B Nt
set_option linter.unusedVariables false
set_option linter.unusedSimpArgs false
set_option maxHeartbeats 4000000
@[go_sem] def qMulS:Spec:=⟨[fT,fT],fun d=>(.dat fT (qf (fq d.1*fq d.2.1)),[fs d.1<=5000000,fs d.2.1<=5000000])⟩
theorem qMul_ok:SpecOk Try.prog 44 qMulS:=by
 refine fn_ok E3_ok qMulS Try.func44 rfl (by decide) (N:=21) rfl (res:=[.cell 4 41]) rfl (by decide) [] [] [] 100 (by kernel_rfl) ?_
 rintro ⟨f,g,_⟩ hw hp
 refine ⟨rfl,fun H hH=>?_⟩
 dsimp only [go_sem] at hw hp ⊢
 have hf:=pt_of hw.1 hp.1
 have hg:=pt_of hw.2.1 hp.2.1
 have b1:=bp_mul hf.n0 hf.nb hg.n0 hg.nb
 have b3:=bp_mul hf.d0 hf.db hg.d0 hg.db
 have p1:0<=N f.2.1*N g.2.1:=Int.mul_nonneg hf.n0 hg.n0
 have p3:0<=N f.2.2*N g.2.2:=Int.mul_nonneg hf.d0 hg.d0
 have c1:(dg (N f.2.1*N g.2.1)).length<=16000000:=lenC p1 b1 (by decide)
 have c3:(dg (N f.2.2*N g.2.2)).length<=16000000:=lenC p3 b3 (by decide)
 have k1:=Nat.le_trans hf.nl (show 5000000<=16000000 by decide)
 have k2:=Nat.le_trans hf.dl (show 5000000<=16000000 by decide)
 have k3:=Nat.le_trans hg.nl (show 5000000<=16000000 by decide)
 have k4:=Nat.le_trans hg.dl (show 5000000<=16000000 by decide)
 refine ⟨k1,k3,k2,k4,c1,c3,?_,trivial⟩
 rw [N_dg p1,N_dg p3]
 unfold fq
 rw [mk_mul _ _ _ _ _ _ hf.d0 hg.d0]
 congr 2
 cases f.1<;>cases g.1<;>rfl
@[go_sem] def qMagS:Spec:=⟨[.int .i64],fun d=>(.dat nT (dg (d.1.natAbs:Int)),[])⟩
theorem qMag_ok:SpecOk Try.prog 62 qMagS:=by
 refine fn_ok E3_ok qMagS Try.func62 rfl (by decide) (N:=14) rfl (res:=[.tmp 2]) rfl (by decide) [] [] [] 100 (by kernel_rfl) ?_
 rintro ⟨(n:Int),_⟩ hw hp
 refine ⟨rfl,fun H hH=>?_⟩
 dsimp only [go_sem] at hw hp ⊢
 simp only [inR,lo,hi] at hw ⊢
 refine ⟨fun h=>⟨by have:=of_decide_eq_true h; omega,by have:=of_decide_eq_true h; omega,by have:=of_decide_eq_true h; omega,by have:=of_decide_eq_true h; omega,?_,trivial⟩,fun h=>⟨by have:=of_decide_eq_false h; omega,?_,trivial⟩⟩
 ·have h:n<0:=of_decide_eq_true h
  congr 1; omega
 ·have h:¬n<0:=of_decide_eq_false h
  congr 1; omega
@[go_sem] noncomputable def EQM:Env:=((E3).add 62 qMagS).add 34 qReduceS
theorem EQM_ok:EQM.Ok:=((E3_ok).add qMag_ok).add qReduce_ok
@[go_sem] def qNewS:Spec:=⟨[.int .i64,.int .i64],fun d=>(.tup (.cons (.dat fT (if d.2.1=(0:Int) then f0 else qf (Rat.divInt d.1 d.2.1))) (.cons (.dat (.int .i64) (if d.2.1=(0:Int) then 20 else 0)) .nil)),[])⟩
theorem qNew_ok:SpecOk Try.prog 43 qNewS:=by
 refine fn_ok EQM_ok qNewS Try.func43 rfl (by decide) (N:=21) rfl (res:=[.cell 4 41,.tmp 5]) rfl (by decide) [] [] [] 100 (by kernel_rfl) ?_
 rintro ⟨(n:Int),(d:Int),_⟩ hw hp
 refine ⟨rfl,fun H hH=>?_⟩
 dsimp only [go_sem] at hw hp ⊢
 have hl:∀ x:Int,inR .i64 x->(dg (x.natAbs:Int)).length<=16000000:=fun x hx=>by
  simp only [inR,lo,hi] at hx
  have h2:Bp 2=18446744073709551616:=by decide
  exact lenC (c:=2) (by omega) (by omega) (by decide)
 refine ⟨fun h=>?_,fun h=>⟨hl n hw.1,hl d hw.2.1,rfl,rfl,?_,rfl,?_,trivial⟩⟩
 ·have h:d=0:=of_decide_eq_true h
  rw [if_pos h,if_pos h]
  and_intros<;>first|trivial|rfl
 ·have h:d≠0:=of_decide_eq_false h
  rw [if_neg h,N_dg (by omega),N_dg (by omega),<-mk_new h]
  congr 2
  cases decide (n<0)<;>cases decide (d<0)<;>rfl
 ·have h:d≠0:=of_decide_eq_false h
  rw [if_neg h]
end Go.Proofs.Ytbokoblnehgkaaa.Gx
