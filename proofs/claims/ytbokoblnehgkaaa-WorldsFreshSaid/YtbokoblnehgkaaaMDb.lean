/-
  D5, D6, D7, D8, L1, in one text: see the remarks at the head of each part.
-/
import Derived.Test.YtbokoblnehgkaaaMDa
namespace Go.Proofs.Ytbokoblnehgkaaa.Gx
open Go Go.RowKit Tw B Nt
set_option linter.unusedVariables false
set_option linter.unusedSimpArgs false
theorem fqi (n:Int) (neg:Bool) (a:Int) (h0:0<=a) (h:sg neg a=n):mk neg a 1=(n:Rat):=by
 unfold mk
 rw [h]
 simp [Rat.mkRat_one]
@[go_sem] def rFIntS:Spec:=⟨[.int .i64],fun d=>(.dat fT (qf (d.1:Int)),[])⟩
set_option maxHeartbeats 1000000
theorem rFInt_ok:SpecOk Try.prog 73 rFIntS:=by
 refine fn_ok E3_ok rFIntS Try.func73 rfl (by decide) (N:=18) rfl (res:=[.cell 2 41]) rfl (by decide) [] [] [] 100 (by kernel_rfl) ?_
 rintro ⟨n,_⟩ hw hp
 refine ⟨rfl,fun H hH=>?_⟩
 dsimp only [go_sem] at hw hp ⊢
 simp only [inR,lo,hi] at hw
 refine ⟨fun h=>?_,fun h=>?_⟩<;>simp only [decide_eq_true_eq,decide_eq_false_iff_not] at h<;>simp only [inR,lo,hi]
 ·refine ⟨by omega,by omega,by omega,by omega,?_,by decide,?_,trivial⟩
  ·have:=dg_small (n := -(n+1)+1) (by omega) (by omega); omega
  ·rw [N_dg (by omega),show N (dg 1)=1 from N_dg (by omega),fqi n true _ (by omega) (by simp [sg]; omega)]
 ·refine ⟨by omega,?_,by decide,?_,trivial⟩
  ·have:=dg_small (n:=n) (by omega) (by omega); omega
  ·rw [N_dg (by omega),show N (dg 1)=1 from N_dg (by omega),fqi n false _ (by omega) (by simp [sg])]
theorem fadd_same (X Y:Rat) (h:(qf X).1=(qf Y).1):mk (qf X).1 (N (qf X).2.1*N (qf Y).2.2+N (qf Y).2.1*N (qf X).2.2) (N (qf X).2.2*N (qf Y).2.2)=X+Y:=by
 rw [fadd_eq,N_num,N_den,N_num,N_den]
 rw [qf_neg,qf_neg] at h
 unfold mk
 rw [qf_neg,<-h]
 have e:((X.den:Int)*(Y.den:Int)).toNat=X.den*Y.den:=by rw [<-Int.natCast_mul]; rfl
 rw [e]
 congr 1
 cases decide (X.num<0)<;>simp [sg]
 rw [Int.neg_add,Int.neg_mul,Int.neg_mul]
theorem fadd_diff (X Y:Rat) (h:(qf X).1≠(qf Y).1):(N (qf Y).2.1*N (qf X).2.2<=N (qf X).2.1*N (qf Y).2.2->mk (qf X).1 (N (qf X).2.1*N (qf Y).2.2-N (qf Y).2.1*N (qf X).2.2) (N (qf X).2.2*N (qf Y).2.2)=X+Y) /\
    (N (qf X).2.1*N (qf Y).2.2<=N (qf Y).2.1*N (qf X).2.2->mk (qf Y).1 (N (qf Y).2.1*N (qf X).2.2-N (qf X).2.1*N (qf Y).2.2) (N (qf X).2.2*N (qf Y).2.2)=X+Y):=by
 rw [fadd_eq,N_num,N_den,N_num,N_den]
 rw [qf_neg,qf_neg] at h
 have e:((X.den:Int)*(Y.den:Int)).toNat=X.den*Y.den:=by rw [<-Int.natCast_mul]; rfl
 unfold mk
 rw [qf_neg,qf_neg,e]
 generalize decide (X.num<0)=p at *
 generalize decide (Y.num<0)=q at *
 refine ⟨fun _=>?_,fun _=>?_⟩<;>congr 1<;>cases p<;>cases q<;>simp [sg] at h ⊢<;>simp only [Int.neg_mul]<;>omega
@[go_sem] def rFAddS:Spec:=⟨[fT,fT],fun d=>(.dat fT (qf (fq d.1+fq d.2.1)),[fs d.1<=1000000,fs d.2.1<=1000000])⟩
theorem fd_of {f:fT.den} (h:wfD fT f):Fd f:=⟨fun d hd=>inR_u32.1 (h.2.1.2 d hd),fun d hd=>inR_u32.1 (h.2.2.2 d hd)⟩
theorem rFAdd_ok:SpecOk Try.prog 74 rFAddS:=by
 refine fn_ok E3_ok rFAddS Try.func74 rfl (by decide) (N:=71) rfl (res:=[.cell 4 41]) rfl (by decide) [] [] [] 100 (by kernel_rfl) ?_
 rintro ⟨x,y,_⟩ hw hp
 refine ⟨rfl,fun H hH=>?_⟩
 dsimp only [go_sem] at hw hp ⊢
 obtain ⟨hx,hy,-⟩:=hw
 obtain ⟨hp1,hp2,-⟩:=hp
 have sx:=qs_fq (fd_of hx)
 have sy:=qs_fq (fd_of hy)
 generalize fq x=X at *
 generalize fq y=Y at *
 have l1:=len_num X
 have l2:=len_den X
 have l3:=len_num Y
 have l4:=len_den Y
 have m1:=dg_mul (ds_num X) (ds_den Y)
 have m2:=dg_mul (ds_num Y) (ds_den X)
 have m3:=dg_mul (ds_den X) (ds_den Y)
 have a1:=dg_add (ds_dg (N (qf X).2.1*N (qf Y).2.2)) (ds_dg (N (qf Y).2.1*N (qf X).2.2))
 have n1:=N_dg (Int.mul_nonneg (N_nonneg (ds_num X)) (N_nonneg (ds_den Y)))
 have n2:=N_dg (Int.mul_nonneg (N_nonneg (ds_num Y)) (N_nonneg (ds_den X)))
 have n3:=N_dg (Int.mul_nonneg (N_nonneg (ds_den X)) (N_nonneg (ds_den Y)))
 rw [n1,n2] at a1
 rw [n1,n2,n3]
 have p1:=Int.mul_nonneg (N_nonneg (ds_num X)) (N_nonneg (ds_den Y))
 have p2:=Int.mul_nonneg (N_nonneg (ds_num Y)) (N_nonneg (ds_den X))
 refine ⟨by omega,by omega,by omega,by omega,by omega,by omega,by omega,by omega,fun h=>?_,fun h=>?_⟩<;>simp only [decide_eq_true_eq,decide_eq_false_iff_not] at h
 ·refine ⟨by omega,by omega,by omega,by omega,?_,trivial⟩
  rw [N_dg (by omega),fadd_same X Y h]
 ·obtain ⟨d1,d2⟩:=fadd_diff X Y h
  generalize N (qf X).2.1*N (qf Y).2.2=p at *
  generalize N (qf Y).2.1*N (qf X).2.2=q at *
  refine ⟨by omega,by omega,fun h=>?_,fun h=>?_⟩<;>simp only [decide_eq_true_eq,decide_eq_false_iff_not] at h<;>unfold cmpI at h
  ·have hqp:q<=p:=by
     by_cases hc:q<=p
     ·exact hc
     ·rw [if_pos (by omega)] at h; omega
   have:=dg_mono (show 0<=p-q by omega) (show p-q<=p by omega)
   rw [if_pos hqp]
   refine ⟨by omega,by omega,by omega,by omega,?_,trivial⟩
   rw [N_dg (by omega),d1 hqp]
  ·have hqp:p<=q:=by
     by_cases hc:p<=q
     ·exact hc
     ·rw [if_neg (by omega)] at h; split at h<;>omega
   have:=dg_mono (show 0<=q-p by omega) (show q-p<=q by omega)
   rw [if_pos hqp]
   refine ⟨by omega,by omega,by omega,by omega,?_,trivial⟩
   rw [N_dg (by omega),d2 hqp]
end Go.Proofs.Ytbokoblnehgkaaa.Gx
namespace Go.Proofs.Ytbokoblnehgkaaa.Gx
open Go Go.RowKit Tw B Nt
set_option linter.unusedVariables false
set_option linter.unusedSimpArgs false
set_option maxHeartbeats 1000000
theorem fs_num (f:fT.den):f.2.1.length<=fs f:=Nat.le_max_left _ _
theorem fs_den (f:fT.den):f.2.2.length<=fs f:=Nat.le_max_right _ _
@[go_sem] def rFMulS:Spec:=⟨[fT,fT],fun d=>(.dat fT (qf (fq d.1*fq d.2.1)),[fs d.1<=1000000,fs d.2.1<=1000000])⟩
theorem rFMul_ok:SpecOk Try.prog 16 rFMulS:=by
 refine fn_ok E3_ok rFMulS Try.func16 rfl (by decide) (N:=21) rfl (res:=[.cell 4 41]) rfl (by decide) [] [] [] 100 (by kernel_rfl) ?_
 rintro ⟨x,y,_⟩ hw hp
 refine ⟨rfl,fun H hH=>?_⟩
 dsimp only [go_sem] at hw hp ⊢
 obtain ⟨hx,hy,-⟩:=hw
 obtain ⟨hp1,hp2,-⟩:=hp
 have dx:=fd_of hx
 have dy:=fd_of hy
 have l1:=fs_num x
 have l2:=fs_den x
 have l3:=fs_num y
 have l4:=fs_den y
 have m1:=dg_mul dx.1 dy.1
 have m2:=dg_mul dx.2 dy.2
 refine ⟨by omega,by omega,by omega,by omega,by omega,by omega,?_,trivial⟩
 rw [N_dg (Int.mul_nonneg (N_nonneg dx.1) (N_nonneg dy.1)),N_dg (Int.mul_nonneg (N_nonneg dx.2) (N_nonneg dy.2))]
 unfold fq
 rw [mk_mul _ _ _ _ _ _ (N_nonneg dx.2) (N_nonneg dy.2)]
 congr 2
 cases x.1<;>cases y.1<;>rfl
@[go_sem] def rFSignS:Spec:=⟨[fT],fun d=>(.dat (.int .i64) (sgQ (fq d.1)),[fs d.1<=1000000])⟩
theorem rFSign_ok:SpecOk Try.prog 36 rFSignS:=by
 refine fn_ok E3_ok rFSignS Try.func36 rfl (by decide) (N:=14) rfl (res:=[.tmp 2]) rfl (by decide) [] [] [] 100 (by kernel_rfl) ?_
 rintro ⟨x,_⟩ hw hp
 refine ⟨rfl,fun H hH=>?_⟩
 dsimp only [go_sem] at hw hp ⊢
 obtain ⟨hp1,-⟩:=hp
 generalize fq x=X at *
 refine ⟨by omega,fun h=>?_,fun h=>?_⟩<;>simp only [decide_eq_true_eq,decide_eq_false_iff_not] at h
 ·have h0:X=0:=(qf_num X).1 (by omega)
  subst h0
  exact ⟨rfl,trivial⟩
 ·have h0:X≠0:=fun e=>h (by have:=(qf_num X).2 e; omega)
  have hn:X.num≠0:=fun e=>h0 (Rat.num_eq_zero.1 e)
  unfold sgQ
  refine ⟨fun h=>?_,fun h=>?_⟩<;>rw [qf_neg] at h<;>simp only [decide_eq_true_eq,decide_eq_false_iff_not] at h
  ·exact ⟨(Int.sign_eq_neg_one_of_neg h).symm,trivial⟩
  ·exact ⟨(Int.sign_eq_one_of_pos (by omega)).symm,trivial⟩
end Go.Proofs.Ytbokoblnehgkaaa.Gx
namespace Go.Proofs.Ytbokoblnehgkaaa.Gx
open Go Go.RowKit Tw B Nt
set_option linter.unusedVariables false
set_option linter.unusedSimpArgs false
set_option maxHeartbeats 1000000
@[go_sem] noncomputable def E4:Env:=(((((E3).add 48 isOneS).add 73 rFIntS).add 74 rFAddS).add 16 rFMulS).add 36 rFSignS
theorem E4_ok:E4.Ok:=(((((E3_ok).add isOne_ok).add rFInt_ok).add rFAdd_ok).add rFMul_ok).add rFSign_ok
theorem take_get {α:Type} (l:List α) (k:Nat) (d:α) (h:k<l.length):l.take (k+1)=l.take k++[l.getD k d]:=by
 rw [List.take_add_one,List.getElem?_eq_getElem h,List.getD_eq_getElem?_getD,List.getElem?_eq_getElem h]; rfl
def qsum (l:List fT.den):Rat:=l.foldl (fun a f=>a+fq f) 0
def qprod (l:List fT.den):Rat:=l.foldl (fun a f=>a*fq f) 1
theorem qsum_snoc (l:List fT.den) (f:fT.den):qsum (l++[f])=qsum l+fq f:=by simp [qsum]
theorem qprod_snoc (l:List fT.den) (f:fT.den):qprod (l++[f])=qprod l*fq f:=by simp [qprod]
theorem qs_bs {l:List fT.den} (hd:∀ f∈l,wfD fT f) (hs:∀ f∈l,fs f<=1000):∀ k,k<=l.length->qs (qsum (l.take k))<=1002*k+1/\qs (qprod (l.take k))<=1002*k+1
 | 0,_=>⟨qs_zero,qs_one⟩
 | k+1,hk=>by
  have ih:=qs_bs hd hs k (by omega)
  rw [take_get l k (zd fT) (by omega),qsum_snoc,qprod_snoc]
  have hm:l.getD k (zd fT)∈l:=by
   rw [List.getD_eq_getElem?_getD,List.getElem?_eq_getElem (by omega)]
   exact List.getElem_mem _
  have h1:=qs_fq (fd_of (hd _ hm))
  have h2:=hs _ hm
  have h3:=qs_add (qsum (l.take k)) (fq (l.getD k (zd fT)))
  have h4:=qs_mul (qprod (l.take k)) (fq (l.getD k (zd fT)))
  constructor<;>omega
@[go_sem] def qSumS:Spec:=⟨[.slice fT],fun d=>(.dat fT (qf (qsum d.1)),[d.1.length<=500,∀ f∈d.1,fs f<=1000])⟩
theorem qSum_ok:SpecOk Try.prog 55 qSumS:=by
 refine fn_ok E4_ok qSumS Try.func55 rfl (by decide) (N:=18) rfl (res:=[.cell 2 41]) rfl (by decide) [] [] [] 100 (by kernel_rfl) ?_
 rintro ⟨l,_⟩ hw hp
 refine ⟨rfl,fun H hH=>?_⟩
 dsimp only [go_sem] at hw hp ⊢
 obtain ⟨hl,hs,-⟩:=hp
 have hb:=qs_bs hw.1.2 hs
 refine hH.loop (fun k:Nat=>⟨[(2,.ref 0 0),(3,.ref 1 0),(7,.dat (.slice fT) l),(8,.dat (.int .i64) (l.length:Int)),(9,.dat (.int .i64) (k:Int))],[(0,.box 41 (zA fT .nil)),(1,.box 41 (dA fT (qf (qsum (l.take k))) .nil))],2⟩) (fun k=>k<=l.length) (fun k=>l.length-k) 0 2 (Nat.zero_le _) ?_ ?_
 ·dsimp only [go_sem]
  simp [qsum]
 ·intro k hk R hm
  have hb:=(hb k hk).1
  refine hH.run 100 _ _ ?_
  dsimp only [go_sem]
  refine ⟨fun h=>?_,fun h=>?_⟩<;>simp only [decide_eq_true_eq,decide_eq_false_iff_not] at h
  ·have hk':k<l.length:=by omega
   have hs:=hs (l.getD k (zd fT)) (by rw [List.getD_eq_getElem?_getD,List.getElem?_eq_getElem hk']; exact List.getElem_mem _)
   have e:=qsum_snoc (l.take k) (l.getD k (zd fT))
   rw [<-take_get l k (zd fT) hk'] at e
   rw [Int.toNat_natCast]
   rw [fq_qf]
   change List.length l<=500 at hl
   rw [<-fs_qf] at hb
   refine ⟨⟨Int.natCast_nonneg k,Int.ofNat_lt.2 hk'⟩,Nat.le_trans hb (by omega),Nat.le_trans hs (by decide),by rw [inR_i64]; omega,?_⟩
   refine hm _ (k+1) 2 hk' (by omega) ?_
   dsimp only [go_sem]
   rw [e]
   simp
   trace_state
  ·rw [show l.take k=l from List.take_of_length_le (by omega)]
   exact ⟨rfl,trivial⟩
@[go_sem] def rFSumS:Spec:=⟨[.slice fT],fun d=>(.dat fT (qf (qsum d.1)),[d.1.length<=500,∀ f∈d.1,fs f<=1000])⟩
theorem rFSum_ok:SpecOk Try.prog 60 rFSumS:=by
 refine fn_ok E4_ok rFSumS Try.func60 rfl (by decide) (N:=19) rfl (res:=[.cell 2 41]) rfl (by decide) [] [] [] 100 (by kernel_rfl) ?_
 rintro ⟨l,_⟩ hw hp
 refine ⟨rfl,fun H hH=>?_⟩
 dsimp only [go_sem] at hw hp ⊢
 obtain ⟨hl,hs,-⟩:=hp
 have hb:=qs_bs hw.1.2 hs
 refine hH.loop (fun k:Nat=>⟨[(0,.dat (.slice fT) l),(2,.ref 0 0),(3,.ref 1 0),(4,.dat (.int .i64) (k:Int))],[(0,.box 41 (zA fT .nil)),(1,.box 41 (dA fT (qf (qsum (l.take k))) .nil))],2⟩) (fun k=>k<=l.length) (fun k=>l.length-k) 0 2 (Nat.zero_le _) ?_ ?_
 ·dsimp only [go_sem]
  simp [qsum]
 ·intro k hk R hm
  have hb:=(hb k hk).1
  refine hH.run 100 _ _ ?_
  dsimp only [go_sem]
  refine ⟨fun h=>?_,fun h=>?_⟩<;>simp only [decide_eq_true_eq,decide_eq_false_iff_not] at h
  ·have hk':k<l.length:=by omega
   have hs:=hs (l.getD k (zd fT)) (by rw [List.getD_eq_getElem?_getD,List.getElem?_eq_getElem hk']; exact List.getElem_mem _)
   have e:=qsum_snoc (l.take k) (l.getD k (zd fT))
   rw [<-take_get l k (zd fT) hk'] at e
   rw [Int.toNat_natCast]
   rw [fq_qf]
   change List.length l<=500 at hl
   rw [<-fs_qf] at hb
   refine ⟨⟨Int.natCast_nonneg k,Int.ofNat_lt.2 hk'⟩,Nat.le_trans hb (by omega),Nat.le_trans hs (by decide),by rw [inR_i64]; omega,?_⟩
   refine hm _ (k+1) 2 hk' (by omega) ?_
   dsimp only [go_sem]
   rw [e]
   simp
   trace_state
  ·rw [show l.take k=l from List.take_of_length_le (by omega)]
   exact ⟨rfl,trivial⟩
end Go.Proofs.Ytbokoblnehgkaaa.Gx
namespace Go.Proofs.Ytbokoblnehgkaaa.Gx
open Go Go.RowKit Tw B Nt
set_option linter.unusedVariables false
set_option linter.unusedSimpArgs false
set_option maxHeartbeats 1000000
@[go_sem] def rFSubS:Spec:=⟨[fT,fT],fun d=>(.dat fT (qf (fq d.1-fq d.2.1)),[fs d.1<=900000,fs d.2.1<=900000])⟩
theorem rFSub_ok:SpecOk Try.prog 72 rFSubS:=by
 refine fn_ok E4_ok rFSubS Try.func72 rfl (by decide) (N:=9) rfl (res:=[.cell 4 41]) rfl (by decide) [] [] [] 100 (by kernel_rfl) ?_
 rintro ⟨x,y,_⟩ hw hp
 refine ⟨rfl,fun H hH=>?_⟩
 dsimp only [go_sem] at hw hp ⊢
 obtain ⟨hx,hy,-⟩:=hw
 obtain ⟨hp1,hp2,-⟩:=hp
 have sy:=qs_fq (fd_of hy)
 have l1:=qs_neg (fq y)
 rw [fs_qf,fq_qf,<-Rat.sub_eq_add_neg]
 exact ⟨by omega,by omega,by omega,rfl,trivial⟩
@[go_sem] noncomputable def E5:Env:=((E4).add 72 rFSubS).add 55 qSumS
theorem E5_ok:E5.Ok:=((E4_ok).add rFSub_ok).add qSum_ok
@[go_sem] def rFComplS:Spec:=⟨[fT],fun d=>(.dat fT (qf (1-fq d.1)),[fs d.1<=900000])⟩
theorem rFCompl_ok:SpecOk Try.prog 59 rFComplS:=by
 refine fn_ok E5_ok rFComplS Try.func59 rfl (by decide) (N:=6) rfl (res:=[.cell 2 41]) rfl (by decide) [] [] [] 100 (by kernel_rfl) ?_
 rintro ⟨x,_⟩ hw hp
 refine ⟨rfl,fun H hH=>?_⟩
 dsimp only [go_sem] at hw hp ⊢
 obtain ⟨hp1,-⟩:=hp
 have:=qs_one
 rw [show ((1:Int):Rat)=1 from rfl,fs_qf,fq_qf]
 exact ⟨by omega,by omega,rfl,trivial⟩
end Go.Proofs.Ytbokoblnehgkaaa.Gx
namespace Go.Proofs.Ytbokoblnehgkaaa.Gx
open Go Go.RowKit Tw B Nt
set_option linter.unusedVariables false
set_option linter.unusedSimpArgs false
set_option maxHeartbeats 4000000
set_option maxRecDepth 20000
attribute [go_sem] List.append Array.append
@[go_sem] noncomputable def E6:Env:=(E5).add 59 rFComplS
theorem E6_ok:E6.Ok:=(E5_ok).add rFCompl_ok
end Go.Proofs.Ytbokoblnehgkaaa.Gx
