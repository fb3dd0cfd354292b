/-
  RelationInverse.
-/
import Derived.Test.YtkdglhjocffekacGreatRN
import Derived.Test.YtkdglhjocffekacGreatRP
namespace Go.Proofs.YtkdglhjocffekacGreat.Gx
open Go Go.RowKit Tw B Nt
set_option linter.unusedVariables false
set_option linter.unusedSimpArgs false
set_option maxHeartbeats 4000000
set_option maxRecDepth 20000
theorem cn_tupA (n:Int):cnT (tup9 n)=tup9 n:=by
 have h:∀ v q,cnT (v,qf q)=(v,qf q):=fun v q=>by unfold cnT; rw [fq_qf]
 unfold tup9
 split
 ·exact h _ _
 ·split
  ·exact h _ _
  ·split
   ·exact h _ _
   ·exact h _ _
theorem map_cn {L:List Tup} (h:∀ t∈L,cnT t=t):L.map cnT=L:=List.map_congr_left h |>.trans (List.map_id L)
theorem fq0:fq ((false,[],[]):Frc)=0:=by decide +kernel
theorem pvB0:pvB false 0=true:=by decide +kernel
theorem tup7 (n:Int):tup9 (bitsI .and .i64 n 127)=(prN (bitsI .and .i64 n 127),qf (bpr (shrI .i64 (bitsI .and .i64 n 127) 4))):=by
 have h0:bitsI .and .i64 n 127=n % 128:=andMask n 7 (by omega)
 have h1:b5 (bitsI .and .i64 n 127)=0:=by
  have h2:shrI .i64 (n % 128) 7=0:=by
   have h3:shrI .i64 (n % 128) 7=(n % 128).fdiv 128:=rfl
   rw [h3,Int.fdiv_eq_ediv_of_nonneg _ (by decide)]
   omega
  unfold b5
  rw [h0,h2]
  decide
 unfold tup9
 rw [h1,if_neg (by decide),if_neg (by decide),if_neg (by decide)]
theorem ck7 {s:Sch} (hs:s=schI 0∨s=schI 2) (n:Int):ckT s (tup9 (bitsI .and .i64 n 127))=0∨ckT s (tup9 (bitsI .and .i64 n 127))=19:=by
 rw [tup7]
 generalize bitsI .and .i64 n 127=x
 unfold prN
 generalize bitsI .and .i64 x 3=a
 generalize bitsI .and .i64 (shrI .i64 x 2) 3=b
 have hs1:schOk s=true/\s.2.2.length=2/\(List.range 2).any (tbad s.2.2 [vInt a,vInt b])=false:=by
  rcases hs with rfl|rfl
  ·exact ⟨(schI_ok (by decide)).1,rfl,rfl⟩
  ·exact ⟨(schI_ok (by decide)).1,rfl,rfl⟩
 obtain ⟨h1,h2,h3⟩:=hs1
 have h4:(([vInt a,vInt b],qf (bpr (shrI .i64 x 4))):Tup).1.length=2:=rfl
 unfold ckT
 rw [h1,h4,h2,if_neg (by decide),if_neg (by decide)]
 dsimp only
 rw [h3,if_neg (by decide)]
 split
 ·exact .inr rfl
 ·exact .inl rfl
theorem inv_ok {s:Sch} {L:List Tup} {t:Tup} (hc:s.2.1=false) (hL:∀ u∈L,cnT u=u) (ht:cnT t=t) (he:insE (s,L) t=0) :
    insR (s,L) t=(s,insT L t)/\dlE (s,insT L t) t.1=0/\dlR (s,insT L t) t.1=(s,L)/\stE (s,insT L t) t.1 (false,[],[])=0 /\
     ∃ C:List Tup,stR (s,insT L t) t.1 (false,[],[])=(s,C)/\vldR (s,C)=0/\C.length=L.length+1/\(∀ u∈C,u=(t.1,qf 0)∨u∈insT L t)/\stE (s,C) t.1 t.2=0/\stR (s,C) t.1 t.2=(s,insT L t):=by
 have hv:=insE_iff.1 he
 have hp:=posT_le L t.1
 obtain ⟨d1,d2,d3⟩:=del_ins (x:=t) hp
 have hit:insT L t=insL L (posT L t.1) [t]:=rfl
 have hil:posT L t.1<(insT L t).length:=by rw [insT_len]; omega
 have hcI:∀ u∈insT L t,cnT u=u:=fun u hu=>by
  rcases insT_mem.1 hu with rfl|hu
  ·exact ht
  ·exact hL u hu
 have hf:(insT L t).findIdx? (eqV t.1)=some (posT L t.1):=by
  have:=fd_at hv.2.2.2.1 hil
  rw [hit,d3] at this
  exact this
 have hvI:¬vldR (s,insT L t)≠0:=fun e=>e (vld_iff.2 hv)
 have hfd:(fdR ((insT L t).findIdx? (eqV t.1))).2=true:=by rw [hf]; rfl
 have hf1:(fdR ((insT L t).findIdx? (eqV t.1))).1.toNat=posT L t.1:=by rw [hf]; exact Int.toNat_natCast _
 have hdE:dlE (s,insT L t) t.1=0:=by
  unfold dlE
  rw [if_neg hvI,if_neg (by dsimp only; rw [hfd]; simp)]
 have hdR:dlR (s,insT L t) t.1=(s,L):=by
  unfold dlR
  rw [if_neg (by rw [hdE]; simp)]
  dsimp only
  rw [hf1,hit,d1,map_cn hL]
 have hck:=hv.2.2.1 t (insT_mem.2 (.inl rfl))
 have hg:(insL L (posT L t.1) [t]).getD (posT L t.1) tz=t:=d3 tz
 have hset:∀ p,stL (insT L t) (posT L t.1) p=(insT L t).set (posT L t.1) (t.1,p):=fun p=>by unfold stL; rw [hit,hg]
 have hv0:∀ p:Frc,fq p=0->vldP s (stL (insT L t) (posT L t.1) p):=fun p hp0=>by
  unfold stL
  rw [vld_set hv hil,hc,hp0]
  refine ⟨pvB0,?_⟩
  rw [hit,hg,d1]
  rcases Nat.eq_zero_or_pos (kof s t).length with e|e
  ·exact .inl e
  ·refine .inr ?_
   have h1:=(hv.2.2.2.2 t (insT_mem.2 (.inl rfl)) (by omega)).2
   rw [sumL_perm (grp_ins s L t _),if_pos rfl,sumL_cons] at h1
   have h2:=(ckT_pr hck).2.2.1
   grind
 have hsE:stE (s,insT L t) t.1 (false,[],[])=0:=(st_iff hv hf).2 (hv0 _ fq0)
 have hmap:(stL (insT L t) (posT L t.1) (false,[],[])).map cnT=stL (insT L t) (posT L t.1) (qf 0):=by
  rw [hset,hset,List.map_set,map_cn hcI]
  unfold cnT
  rw [fq0]
 have hsR:stR (s,insT L t) t.1 (false,[],[])=(s,stL (insT L t) (posT L t.1) (qf 0)):=by
  unfold stR
  rw [if_neg (by rw [hsE]; simp)]
  dsimp only
  rw [hf1,hmap]
 have hvC:=hv0 (qf 0) (fq_qf 0)
 have hCl:(stL (insT L t) (posT L t.1) (qf 0)).length=(insT L t).length:=by rw [hset,List.length_set]
 have hCg:(stL (insT L t) (posT L t.1) (qf 0)).getD (posT L t.1) tz=(t.1,qf 0):=by
  rw [hset,List.getD_eq_getElem?_getD,List.getElem?_set_self hil]; rfl
 have hfC:(stL (insT L t) (posT L t.1) (qf 0)).findIdx? (eqV t.1)=some (posT L t.1):=by
  have:=fd_at hvC.2.2.2.1 (show posT L t.1<_ by rw [hCl]; exact hil)
  rw [hCg] at this
  exact this
 have hback:stL (stL (insT L t) (posT L t.1) (qf 0)) (posT L t.1) t.2=insT L t:=by
  have:stL (stL (insT L t) (posT L t.1) (qf 0)) (posT L t.1) t.2=(stL (insT L t) (posT L t.1) (qf 0)).set (posT L t.1) (t.1,t.2):=by
   show (stL (insT L t) (posT L t.1) (qf 0)).set (posT L t.1) (((stL (insT L t) (posT L t.1) (qf 0)).getD (posT L t.1) tz).1,t.2)=_
   rw [hCg]
  rw [this,hset,List.set_set,hit]
  exact d2
 have hsE2:stE (s,stL (insT L t) (posT L t.1) (qf 0)) t.1 t.2=0:=(st_iff hvC hfC).2 (by rw [hback]; exact hv)
 refine ⟨insR_ok he hL ht,hdE,hdR,hsE,_,hsR,vld_iff.2 hvC,by rw [hCl,insT_len],fun u hu=>?_,hsE2,?_⟩
 ·rw [hset] at hu
  rcases List.mem_or_eq_of_mem_set hu with hu|hu
  ·exact .inr hu
  ·exact .inl hu
 ·unfold stR
  rw [if_neg (by rw [hsE2]; simp)]
  dsimp only
  have:(fdR ((stL (insT L t) (posT L t.1) (qf 0)).findIdx? (eqV t.1))).1.toNat=posT L t.1:=by rw [hfC]; exact Int.toNat_natCast _
  rw [this,hback,map_cn hcI]
@[go_sem] noncomputable def EU1:Env:=((ERQ).add 9 dltS).add 10 setS
theorem EU1_ok:EU1.Ok:=((ERQ_ok).add dlt_ok).add set_ok
@[go_sem] def lInS:Spec:=⟨[.slice (.int .i64),.int .i64,.int .i64],fun d=>(.dat .bool true,[])⟩
theorem lIn_ok:SpecOk Tryz.prog 3 lInS:=by
 refine fn_ok EU1_ok lInS Tryz.func3 rfl (by decide) (N:=109) rfl (res:=[.tmp 6]) rfl (by decide) [(1,[(21,.dt)])] [] [] 100 (by kernel_rfl) ?_
 rintro ⟨(l:List Int),(n:Int),(p:Int),_⟩ hw hp
 refine ⟨rfl,fun H hH=>?_⟩
 dsimp only [go_sem] at hw hp ⊢
 clear hw
 have hp2:bitsI .and .i64 p 1=p % 2:=andMask p 1 (by omega)
 have hp3:p % 2=0∨p % 2=1:=by omega
 obtain ⟨i0,hi0,hix⟩:∃ i0:Nat,(i0=0∨i0=2)/\([0,2]:List Int).getD (bitsI .and .i64 p 1).toNat (zd (.int .i64))=(i0:Int):=by
  rw [hp2]
  rcases hp3 with e|e<;>rw [e]
  ·exact ⟨0,.inl rfl,rfl⟩
  ·exact ⟨2,.inr rfl,rfl⟩
 obtain ⟨L,hR,hv,hL3,hsl,hLt⟩:=rels_atI l (show i0<4 by omega)
 have hRl:=relsL_len l
 have hR':(relsL l).getD (([0,2]:List Int).getD (bitsI .and .i64 p 1).toNat (zd (.int .i64))).toNat (zd relT)=((schI i0,L):Rel):=by
  rw [hix,Int.toNat_natCast]; exact hR
 have hs0:(schI i0).2.1=false:=by rcases hi0 with rfl|rfl<;>rfl
 have hck:=ck7 (s:=schI i0) (by rcases hi0 with rfl|rfl<;>simp) n
 have htc:=cn_tupA (bitsI .and .i64 n 127)
 have htl:=tup9_le (bitsI .and .i64 n 127)
 obtain ⟨t,ht⟩:∃ t,tup9 (bitsI .and .i64 n 127)=t:=⟨_,rfl⟩
 obtain ⟨s,hs⟩:∃ s,schI i0=s:=⟨_,rfl⟩
 rw [ht] at hck htc htl
 rw [hs] at hR' hv hsl hs0 hck
 simp only [hR',ht]
 have hLP:relP (s,L):=⟨(show s.2.2.length<=1000 by omega),(show L.length<=400 by omega),fun u hu=>by have:=hLt u hu; omega⟩
 have hcnL:∀ u∈L,cnT u=u:=fun u hu=>(hLt u hu).1
 have htP:t.1.length<=1000/\fs t.2<=1000:=by omega
 refine ⟨?_,?_,hLP,htP.1,fun _=>⟨trivial,trivial⟩,fun hnf=>⟨hLP,htP,fun he=>?_,fun he=>?_⟩⟩
 ·rw [hp2]
  show (0:Int)<=p % 2/\p % 2<2
  omega
 ·rw [hix]
  show (0:Int)<=(i0:Int)/\(i0:Int)<((relsL l).length:Int)
  omega
 ·have he:=of_decide_eq_true he
  have hne:insE (s,L) t≠8/\insE (s,L) t≠13:=by
   have hfn:¬(fdR (L.findIdx? (eqV t.1))).2=true:=by
    intro e
    exact Bool.noConfusion (e.symm.trans hnf)
   unfold insE
   rw [if_neg (fun e=>e (vld_iff.2 hv))]
   dsimp only
   rw [if_neg hfn]
   rcases hck with e|e<;>rw [e]
   ·rw [if_neg (by decide)]
    split
    ·decide
    ·split<;>decide
   ·rw [if_pos (by decide)]
    decide
  rw [decide_eq_true hne.1,decide_eq_true hne.2]
  and_intros<;>first|trivial|rfl|exact fun e=>e
 ·have he:insE (s,L) t=0:=Decidable.not_not.1 (of_decide_eq_false he)
  obtain ⟨h1,h2,h3,h4,C,h5,h6,h7,h8,h9,h10⟩:=inv_ok hs0 hcnL htc he
  simp only [h1,h2,h3,h4,h5,h9,h10]
  have hIP:relP (s,insT L t):=⟨(show s.2.2.length<=1000 by omega),(show (insT L t).length<=400 by rw [insT_len]; omega),fun u hu=>by
   rcases insT_mem.1 hu with rfl|hu
   ·exact htP
   ·have:=hLt u hu; omega⟩
  have hq0:fs (qf 0)<=1000:=by decide +kernel
  have hCP:relP (s,C):=⟨(show s.2.2.length<=1000 by omega),(show C.length<=400 by omega),fun u hu=>by
   rcases h8 u hu with rfl|hu
   ·exact ⟨htP.1,hq0⟩
   ·exact hIP.2.2 u hu⟩
  have hE:∀ r:Rel,relE r r=true:=fun r=>relE_t rfl
  have hq1:fs ((false,[],[]):Frc)<=1000:=by decide
  simp only [map_cn hcnL,hE,h6,decide_true,Bool.and_self,imp_self,true_and,forall_const,and_true]
  exact ⟨hIP,htP.1,hIP,htP.1,hq1,hCP,htP.1,htP.2,hLP,hLP,hLP,hIP,hIP,hCP⟩
end Go.Proofs.YtkdglhjocffekacGreat.Gx
