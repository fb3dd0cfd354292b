/-
  Relations: Delete, SetProb.
-/
import Derived.Test.YtkdglhjocffekabGreatRM
import Derived.Test.YtkdglhjocffekabGreatV5
import Derived.Test.YtkdglhjocffekabGreatI6
namespace Go.Proofs.YtkdglhjocffekabGreat.Gx
open Go Go.RowKit Tw B Nt
set_option linter.unusedVariables false
set_option linter.unusedSimpArgs false
set_option maxHeartbeats 4000000
set_option maxRecDepth 20000
@[go_sem] noncomputable def ET1:Env:=(ERO).addM 25 delM
theorem ET1_ok:ET1.Ok:=(ERO_ok).addM delM_ok
@[go_sem] def dltS:Spec:=⟨[relT,.slice valT],fun d=>(.tup (.cons (.dat relT (dlR d.1 d.2.1)) (.cons (.dat (.int .i64) (dlE d.1 d.2.1)) .nil)),[relP d.1,List.length d.2.1<=1000])⟩
theorem dlt_ok:SpecOk Tryz.prog 7 dltS:=by
 refine fn_ok ET1_ok dltS Tryz.func7 rfl (by decide) (N:=35) rfl (res:=[.cell 4 31,.tmp 5]) rfl (by decide) [(7,[(26,.ow)]),(8,[(32,.ow)])] [(9,[3])] [] 100 (by kernel_rfl) ?_
 rintro ⟨r,v,_⟩ hw hp
 refine ⟨rfl,fun H hH=>?_⟩
 dsimp only [go_sem] at hw hp ⊢
 obtain ⟨hp,hv,-⟩:=hp
 obtain ⟨s,l⟩:=r
 change List Tup at l
 change List Val at v
 obtain ⟨i,hf⟩:∃ o,l.findIdx? (eqV v)=o:=⟨_,rfl⟩
 have hdE:dlE (s,l) v=if vldR (s,l)≠0 then vldR (s,l) else if (fdR (l.findIdx? (eqV v))).2=false then 7 else 0:=rfl
 have hdR:dlR (s,l) v=if dlE (s,l) v≠0 then rz else (s,(delT l (fdR (l.findIdx? (eqV v))).1.toNat).map cnT):=rfl
 have hmd:∀ k,delT (l.map cnT) k=(delT l k).map cnT:=fun k=>by unfold delT; rw [List.map_append,List.map_take,List.map_drop]
 dsimp only at hdE hdR ⊢
 rw [hf] at hdE hdR ⊢
 refine ⟨hp,fun e=>?_,fun e=>⟨hp,hv,fun e2=>?_,fun e2=>?_⟩⟩
 ·have e:=of_decide_eq_true e
  rw [if_pos e] at hdE
  exact ⟨rfl,rfl,dlR_err hdE e,rfl,hdE.symm,trivial⟩
 all_goals have e:=of_decide_eq_false e
 ·rw [if_neg e,if_pos (by simpa using e2)] at hdE
  exact ⟨rfl,rfl,dlR_err hdE (by decide),rfl,hdE.symm,trivial⟩
 ·have e3:(fdR i).2=true:=by simpa using e2
  rw [if_neg e,if_neg (by rw [e3]; simp)] at hdE
  rw [if_neg (by rw [hdE]; simp)] at hdR
  cases i with
  | none=>cases e3
  | some i =>
   obtain ⟨hi,hiv⟩:=fd_some hf
   have hl:l.length<=400:=hp.2.1
   have e4:(fdR (some i)).1=(i:Int):=rfl
   rw [e4] at hdR ⊢
   refine ⟨hp,by rw [inR_i64]; omega,⟨?_,?_,?_,rfl⟩,rfl,rfl,?_,rfl,hdE.symm,trivial⟩
   ·show (0:Int)<=(i:Int); omega
   ·show (i:Int)<((l.map cnT).length:Int); rw [List.length_map]; omega
   ·show (l.map cnT).length<=1000000; rw [List.length_map]; omega
   rw [hdR,hmd]
@[go_sem] def bkoM:MSpec:=⟨[.d relT,.d (.slice valT)],fun d=>⟨[(0,.row 3 (.int .i64) (bkO d.1 d.2.1))],1,.own 0,[relP d.1,List.length d.2.1<=1000]⟩⟩
theorem bkoM_ok:MSpecOk Tryz.prog 31 bkoM:=by
 refine fnM_ok ER6_ok bkoM Tryz.func31 rfl (by decide) (N:=38) rfl (res:=[.tmp 4]) rfl (by decide) [(9,[(34,.dt)])] [] [] 100 (by kernel_rfl) ?_
 rintro ⟨r,v,_⟩ hw hp H hH
 dsimp only [go_sem] at hw hp ⊢
 obtain ⟨hp,hv,-⟩:=hp
 obtain ⟨s,l⟩:=r
 change List Tup at l
 change List Val at v
 obtain ⟨hp1,hp2,hp3⟩:=hp
 change l.length<=400 at hp2
 change v.length<=1000 at hv
 clear hw
 have hkl:∀ w,(keyL s.2.2 w).length<=1000:=fun w=>by
  unfold keyL
  split
  ·exact Nat.zero_le _
  ·exact Nat.le_trans (keyG_len _ _ _) hp1
 refine ⟨hp1,fun h=>?_,fun h=>?_⟩<;>simp only [decide_eq_true_eq,decide_eq_false_iff_not] at h
 ·have:(keyL s.2.2 v).length=0:=by omega
  have hb:[]=bkO (s,l) v:=by unfold bkO; rw [if_pos this]
  and_intros<;>first|trivial|rfl|exact hb|omega
 have hk:bkO (s,l) v=bkG (s,l) (keyL s.2.2 v) l.length:=by
  unfold bkO; rw [if_neg (fun e=>h (by rw [e]; rfl))]
 have hkv:=hkl v
 have hsn:=bkG_snoc (s,l) (keyL s.2.2 v)
 have hln:=bkG_len (s,l) (keyL s.2.2 v)
 generalize bkG (s,l) (keyL s.2.2 v)=G at hsn hln hk
 change ∀ n,G (n+1)=G n++(if cT (keyL s.2.2 (l.getD n tz).1) (keyL s.2.2 v)=0 then [(n:Int)] else []) at hsn
 clear h
 generalize hKK:keyL s.2.2 v=K at hsn hkv ⊢
 clear hKK
 refine hH.loop (fun i:Nat=>⟨[(19,.dat (.int .i64) (i:Int)),(18,.dat (.int .i64) (l.length:Int)),(17,.dat (.slice tupT) l),(5,.dat (.slice valT) K),(2,.ref 0 0),(6,.own 1)],[(0,.box 31 (.cons (.dat .str s.1) (.cons (.dat .bool s.2.1) (.cons (.dat (.slice colT) s.2.2) (.cons (.dat (.slice tupT) l) .nil))))),(1,.row 3 (.int .i64) (G i))],2⟩) (fun i=>i<=l.length) (fun i=>l.length-i) 0 1 (Nat.zero_le _) ?_ ?_
 ·dsimp only [go_sem]
  have:G 0=[]:=List.eq_nil_of_length_eq_zero (by have:=hln 0; omega)
  rw [this]
  and_intros<;>first|trivial|rfl|omega
 ·intro i hi R hm
  refine hH.run 100 _ _ ?_
  dsimp only [go_sem]
  simp only [Int.toNat_natCast]
  have hzt:∀ j,l.getD j (zd tupT)=l.getD j tz:=fun _=>rfl
  refine ⟨fun d=>?_,fun d=>?_⟩<;>simp only [decide_eq_true_eq,decide_eq_false_iff_not] at d
  ·have d:i<l.length:=by omega
   have hb:(0:Int)<=(i:Int)/\(i:Int)<(l.length:Int):=by omega
   have hi1:inR .i64 ((i:Int)+1):=by rw [inR_i64]; omega
   have hpr:(keyL s.2.2 (l.getD i tz).1).length<=1000000/\List.length K<=1000000:=by
    have:=hkl (l.getD i tz).1
    omega
   have hsn:=hsn i
   have hln:=hln i
   simp only [hzt]
   refine ⟨hb,hp1,hpr,fun e=>?_,fun e=>?_⟩<;>simp only [decide_eq_true_eq,decide_eq_false_iff_not] at e
   ·have e:cT (keyL s.2.2 (l.getD i tz).1) K=0:=e
    rw [if_pos e] at hsn
    refine ⟨?_,trivial,hi1,hm _ (i+1) 2 d (by omega) ?_⟩
    ·change ((G i).length+1)*8<=_
     omega
    ·dsimp only [go_sem]
     rw [hsn]
     and_intros<;>first|trivial|rfl|omega
   ·have e:¬cT (keyL s.2.2 (l.getD i tz).1) K=0:=e
    rw [if_neg e,List.append_nil] at hsn
    refine ⟨hi1,hm _ (i+1) 2 d (by omega) ?_⟩
    dsimp only [go_sem]
    rw [hsn]
    and_intros<;>first|trivial|rfl|omega
  ·have d:i=l.length:=by omega
   subst d
   rw [hk]
   and_intros<;>first|trivial|rfl
@[go_sem] noncomputable def ET2:Env:=(((ET1).addM 31 bkoM).addM 30 dlfM).add 7 dltS
theorem ET2_ok:ET2.Ok:=(((ET1_ok).addM bkoM_ok).addM dlfM_ok).add dlt_ok
@[go_sem] def setS:Spec:=⟨[relT,.slice valT,fT],fun d=>(.tup (.cons (.dat relT (stR d.1 d.2.1 d.2.2.1)) (.cons (.dat (.int .i64) (stE d.1 d.2.1 d.2.2.1)) .nil)),[relP d.1,List.length d.2.1<=1000,fs d.2.2.1<=1000])⟩
theorem spB_el (r:Rel) (v:List Val) (x:Int):(spB r v x).length<=r.2.length/\∀ i∈spB r v x,0<=i/\i<(r.2.length:Int):=by
 obtain ⟨h1,h2⟩:=bkO_el r v
 exact ⟨Nat.le_trans (List.length_filter_le _ _) h1,fun i hi=>h2 i (List.mem_filter.1 hi).1⟩
theorem set_ok:SpecOk Tryz.prog 11 setS:=by
 refine fn_ok ET2_ok setS Tryz.func11 rfl (by decide) (N:=57) rfl (res:=[.cell 6 31,.tmp 7]) rfl (by decide) [(9,[(36,.ow),(38,.ow)]),(12,[(48,.ow)])] [(10,[5]),(14,[6])] [] 100 (by kernel_rfl) ?_
 rintro ⟨r,v,p,_⟩ hw hp
 refine ⟨rfl,fun H hH=>?_⟩
 dsimp only [go_sem] at hw hp ⊢
 obtain ⟨hp,hv,hfp,-⟩:=hp
 obtain ⟨s,l⟩:=r
 change List Tup at l
 change List Val at v
 change Frc at p
 change v.length<=1000 at hv
 change fs p<=1000 at hfp
 have hwl:∀ t∈l,wfD tupT t:=hw.1.2.2
 clear hw
 obtain ⟨hp1,hp2,hp3⟩:=id hp
 change l.length<=400 at hp2
 have hsE:stE (s,l) v p=if vldR (s,l)≠0 then vldR (s,l) else if (fdR (l.findIdx? (eqV v))).2=false then 7 else if pvB s.2.1 (fq p)=false then 19 else if 0<cmpQ (fq p) (1-sumQ l (spB (s,l) v (fdR (l.findIdx? (eqV v))).1)) then 19 else 0:=rfl
 have hsR:stR (s,l) v p=if stE (s,l) v p≠0 then rz else (s,(stL l (fdR (l.findIdx? (eqV v))).1.toNat p).map cnT):=rfl
 have hbk:=bkO_el (s,l) v
 have hsp:=spB_el (s,l) v (fdR (l.findIdx? (eqV v))).1
 have hqs:=sumQ_qs (n:=400) hwl (fun t ht=>(hp3 t ht).2) hsp.2 (Nat.le_trans hsp.1 hp2)
 have hfl:List.filter (fun x=>!decide (x=(fdR (l.findIdx? (eqV v))).1)) (bkO (s,l) v)=spB (s,l) v (fdR (l.findIdx? (eqV v))).1:=rfl
 dsimp only at hbk hsp ⊢
 simp only [hfl,fq_qf,fs_qf]
 have hsub:=qs_sub 1 (sumQ l (spB (s,l) v (fdR (l.findIdx? (eqV v))).1))
 have h1q:=qs_one
 refine ⟨hp,fun e=>?_,fun e=>⟨hp,hv,fun e2=>?_,fun e2=>⟨by omega,fun e3=>?_,fun e3=>⟨hp,hv,Nat.le_trans hbk.1 (by omega),hp,Nat.le_trans hsp.1 hp2,hsp.2,by omega,by omega,by omega,fun e4=>?_,fun e4=>⟨hp,by omega,?_⟩⟩⟩⟩⟩
 ·have e:=of_decide_eq_true e
  rw [if_pos e] at hsE
  exact ⟨trivial,trivial,stR_err hsE e,trivial,hsE.symm,trivial⟩
 all_goals have e:=of_decide_eq_false e
 all_goals rw [if_neg e] at hsE
 ·rw [if_pos (by simpa using e2)] at hsE
  exact ⟨trivial,trivial,stR_err hsE (by decide),trivial,hsE.symm,trivial⟩
 all_goals have e2':(fdR (l.findIdx? (eqV v))).2=true:=by simpa using e2
 all_goals rw [if_neg (by rw [e2']; simp)] at hsE
 ·rw [if_pos (by simpa using e3)] at hsE
  exact ⟨trivial,trivial,stR_err hsE (by decide),trivial,hsE.symm,trivial⟩
 all_goals rw [if_neg (by simpa using e3)] at hsE
 ·rw [if_pos (of_decide_eq_true e4)] at hsE
  exact ⟨trivial,trivial,stR_err hsE (by decide),trivial,hsE.symm,trivial⟩
 ·rw [if_neg (of_decide_eq_false e4)] at hsE
  rw [if_neg (by rw [hsE]; simp)] at hsR
  obtain ⟨i,hf⟩:∃ i,l.findIdx? (eqV v)=some i:=by
   cases e:l.findIdx? (eqV v) with
   | none=>rw [e] at e2'; cases e2'
   | some i=>exact ⟨i,rfl⟩
  obtain ⟨hi,hiv⟩:=fd_some hf
  rw [hf] at hsR ⊢
  have e5:(fdR (some i)).1=(i:Int):=rfl
  rw [e5,Int.toNat_natCast] at hsR
  rw [e5,Int.toNat_natCast,List.length_map]
  have hg:(l.map cnT).getD i (zd (.pair (.slice valT) fT))=cnT (l.getD i tz):=by
   rw [List.getD_eq_getElem?_getD,List.getElem?_map,List.getElem?_eq_getElem hi,List.getD_eq_getElem?_getD,List.getElem?_eq_getElem hi]; rfl
  refine ⟨(show (0:Int)<=(i:Int)/\(i:Int)<(l.length:Int) by omega),hi,trivial,trivial,?_,trivial,hsE.symm,trivial⟩
  rw [hsR]
  unfold stL
  rw [List.map_set]
  refine congrArg (fun x=>((s,(l.map cnT).set i x):Rel)) ?_
  have h6:=congrArg (fun x:Tup=>((x.1,qf (fq p)):Tup)) hg
  exact h6
@[go_sem] noncomputable def ET3:Env:=(ET2).add 11 setS
@[go_sem] def rdltS:Spec:=⟨[relT,.slice valT],fun d=>(.tup (.cons (.dat relT (dlR d.1 d.2.1)) (.cons (.dat (.int .i64) (dlE d.1 d.2.1)) .nil)),[relP d.1,List.length d.2.1<=1000])⟩
theorem rdlt_ok:SpecOk Tryz.prog 8 rdltS:=by
 refine fn_ok ERO_ok rdltS Tryz.func8 rfl (by decide) (N:=44) rfl (res:=[.cell 4 31,.tmp 5]) rfl (by decide) [(7,[(27,.ag)]),(8,[(40,.fz 3),(1000000,.mx [(7,6),(8,6),(9,6),(10,6),(11,6)])])] [] [] 100 (by kernel_rfl) ?_
 rintro ⟨r,v,_⟩ hw hp
 refine ⟨rfl,fun H hH=>?_⟩
 dsimp only [go_sem] at hw hp ⊢
 obtain ⟨hp,hv,-⟩:=hp
 obtain ⟨s,l⟩:=r
 change List Tup at l
 change List Val at v
 clear hw
 obtain ⟨i,hf⟩:∃ o,l.findIdx? (eqV v)=o:=⟨_,rfl⟩
 have hdE:dlE (s,l) v=if vldR (s,l)≠0 then vldR (s,l) else if (fdR (l.findIdx? (eqV v))).2=false then 7 else 0:=rfl
 have hdR:dlR (s,l) v=if dlE (s,l) v≠0 then rz else (s,(delT l (fdR (l.findIdx? (eqV v))).1.toNat).map cnT):=rfl
 dsimp only at hdE hdR ⊢
 rw [hf] at hdE hdR ⊢
 refine ⟨hp,fun e=>?_,fun e=>⟨hp,hv,fun e2=>?_,fun e2=>?_⟩⟩
 ·have e:=of_decide_eq_true e
  rw [if_pos e] at hdE
  exact ⟨rfl,rfl,dlR_err hdE e,rfl,hdE.symm,trivial⟩
 all_goals have e:=of_decide_eq_false e
 ·rw [if_neg e,if_pos (by simpa using e2)] at hdE
  exact ⟨rfl,rfl,dlR_err hdE (by decide),rfl,hdE.symm,trivial⟩
 ·have e3:(fdR i).2=true:=by simpa using e2
  rw [if_neg e,if_neg (by rw [e3]; simp)] at hdE
  rw [if_neg (by rw [hdE]; simp)] at hdR
  cases i with
  | none=>cases e3
  | some i =>
   obtain ⟨hi,hiv⟩:=fd_some hf
   have hl:l.length<=400:=hp.2.1
   have e4:(fdR (some i)).1=(i:Int):=rfl
   have e5:((i:Int)+1).toNat=i+1:=by omega
   rw [e4] at hdR ⊢
   rw [e5]
   rw [Int.toNat_natCast] at hdR ⊢
   have l1:(l.take i).length<=400:=by rw [List.length_take]; omega
   have l2:(l.drop (i+1)).length<=400:=by rw [List.length_drop]; omega
   have hrp:relP (s,delT l i):=⟨hp.1,Nat.le_trans (del_sub hi).length_le hl,fun u hu=>hp.2.2 u ((del_sub hi).subset hu)⟩
   refine ⟨(show (0:Int)<=(i:Int)/\(i:Int)<=(l.length:Int) by omega),by omega,by rw [inR_i64]; omega,(show (0:Int)<=(i:Int)+1/\(i:Int)+1<=(l.length:Int) by omega),by omega,rfl,hrp,rfl,rfl,?_,rfl,hdE.symm,trivial⟩
   rw [hdR]
   rfl
@[go_sem] def rsetS:Spec:=⟨[relT,.slice valT,fT],fun d=>(.tup (.cons (.dat relT (stR d.1 d.2.1 d.2.2.1)) (.cons (.dat (.int .i64) (stE d.1 d.2.1 d.2.2.1)) .nil)),[relP d.1,List.length d.2.1<=1000,fs d.2.2.1<=1000])⟩
theorem rset_ok:SpecOk Tryz.prog 12 rsetS:=by
 refine fn_ok ERO_ok rsetS Tryz.func12 rfl (by decide) (N:=46) rfl (res:=[.cell 6 31,.tmp 7]) rfl (by decide) [(7,[(33,.ag),(1000000,.mx [(3,2),(4,2),(0,1000000),(1,3000000),(2000000,7)])])] [(9,[4])] [] 100 (by kernel_rfl) ?_
 rintro ⟨r,v,p,_⟩ hw hp
 refine ⟨rfl,fun H hH=>?_⟩
 dsimp only [go_sem] at hw hp ⊢
 obtain ⟨hp,hv,hfp,-⟩:=hp
 obtain ⟨s,l⟩:=r
 change List Tup at l
 change List Val at v
 change Frc at p
 clear hw
 change v.length<=1000 at hv
 change fs p<=1000 at hfp
 have hsE:stE (s,l) v p=if vldR (s,l)≠0 then vldR (s,l) else if (fdR (l.findIdx? (eqV v))).2=false then 7 else if pvB s.2.1 (fq p)=false then 19 else if 0<cmpQ (fq p) (1-sumQ l (spB (s,l) v (fdR (l.findIdx? (eqV v))).1)) then 19 else 0:=rfl
 have hsR:stR (s,l) v p=if stE (s,l) v p≠0 then rz else (s,(stL l (fdR (l.findIdx? (eqV v))).1.toNat p).map cnT):=rfl
 obtain ⟨i,hf⟩:∃ o,l.findIdx? (eqV v)=o:=⟨_,rfl⟩
 dsimp only at hsE hsR ⊢
 rw [hf] at hsE hsR ⊢
 have hl:l.length<=400:=hp.2.1
 refine ⟨hp,fun e=>?_,fun e=>⟨hp,hv,fun e2=>?_,fun e2=>?_⟩⟩
 ·have e:=of_decide_eq_true e
  rw [if_pos e] at hsE
  exact ⟨rfl,rfl,stR_err hsE e,rfl,hsE.symm,trivial⟩
 all_goals have e:=of_decide_eq_false e
 ·rw [if_neg e,if_pos (by simpa using e2)] at hsE
  exact ⟨rfl,rfl,stR_err hsE (by decide),rfl,hsE.symm,trivial⟩
 ·have e3:(fdR i).2=true:=by simpa using e2
  cases i with
  | none=>cases e3
  | some i =>
   obtain ⟨hi,hiv⟩:=fd_some hf
   have hvP:vldP s l:=vld_iff.1 (Decidable.not_not.1 e)
   have e4:(fdR (some i)).1=(i:Int):=rfl
   have hst:=st_iff (p:=p) hvP hf
   rw [e4] at hsR ⊢
   rw [Int.toNat_natCast] at hsR ⊢
   have hsL:l.set i ((l.getD i tz).1,p)=stL l i p:=rfl
   have hzt:l.getD i (zd (.pair (.slice valT) fT))=l.getD i tz:=rfl
   have hrp:relP (s,stL l i p):=⟨hp.1,(by unfold stL; dsimp only; rw [List.length_set]; exact hl),fun u hu=>by
    unfold stL at hu
    rcases List.mem_or_eq_of_mem_set hu with hu|rfl
    ·exact hp.2.2 u hu
    ·exact ⟨(hp.2.2 _ (getDm tz hi)).1,hfp⟩⟩
   have h19:stE (s,l) v p≠0->stE (s,l) v p=19:=by
    intro hne
    rw [if_neg e,if_neg (by rw [e3]; simp)] at hsE
    rw [hsE] at hne ⊢
    split
    ·rfl
    ·rename_i h5
     rw [if_neg h5] at hne
     split
     ·rfl
     ·rename_i h6
      rw [if_neg h6] at hne
      exact absurd rfl hne
   refine ⟨(show (0+l.length)*80<=140737488355328 by omega),rfl,(show (0:Int)<=(i:Int)/\(i:Int)<(l.length:Int) by omega),hi,hrp,fun e5=>?_,fun e5=>?_⟩
   ·have e5:vldR (s,stL l i p)≠0:=of_decide_eq_true e5
    have e6:=h19 fun h=>e5 (vld_iff.2 (hst.1 h))
    exact ⟨rfl,rfl,stR_err e6 (by decide),rfl,e6.symm,trivial⟩
   ·have e5:¬vldR (s,stL l i p)≠0:=of_decide_eq_false e5
    have e6:=hst.2 (vld_iff.1 (Decidable.not_not.1 e5))
    rw [if_neg (by rw [e6]; simp)] at hsR
    refine ⟨hrp,rfl,rfl,?_,rfl,e6.symm,trivial⟩
    rw [hsR]
    rfl
@[go_sem] noncomputable def ET4:Env:=((ET3).add 8 rdltS).add 12 rsetS
end Go.Proofs.YtkdglhjocffekabGreat.Gx
