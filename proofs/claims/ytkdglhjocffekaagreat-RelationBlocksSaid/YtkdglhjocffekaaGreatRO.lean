/-
  RelationBlocks.
-/
import Derived.Test.YtkdglhjocffekaaGreatRN
import Derived.Test.YtkdglhjocffekaaGreatD9
namespace Go.Proofs.YtkdglhjocffekaaGreat.Gx
open Go Go.RowKit Tw B Nt
set_option linter.unusedVariables false
set_option linter.unusedSimpArgs false
set_option maxHeartbeats 4000000
set_option maxRecDepth 20000
theorem dec1':IsDec ⟨#[49]⟩ 1:=.inr ⟨by decide,[1],⟨by unfold D10; decide,by decide⟩,by decide,rfl⟩
theorem ft1':ftT 1=[49]:=by
 unfold ftT
 rw [if_pos (by decide +kernel),if_neg (by decide +kernel)]
 exact decT_of dec1'
def cntB (B:List (List Int)):Nat:=(B.map List.length).sum
theorem cntB_ins (B:List (List Int)) (p:Nat) (b:List Int):cntB (insL B p [b])=cntB B+b.length:=by
 unfold cntB insL
 rw [List.map_append,List.map_append,List.sum_append,List.sum_append]
 have h:(((B.take p++B.drop p).map List.length).sum:Nat)=(B.map List.length).sum:=by rw [List.take_append_drop]
 rw [List.map_append,List.sum_append] at h
 simp only [List.map_cons,List.map_nil,List.sum_cons,List.sum_nil]
 omega
theorem cntB_set:∀ (B:List (List Int)) (p:Nat) (x:Int),p<B.length->cntB (B.set p (B.getD p []++[x]))=cntB B+1
 | [],p,x,h=>by cases h
 | b::B,0,x,_=>by
  show cntB ((b++[x])::B)=_
  unfold cntB
  simp only [List.map_cons,List.sum_cons,List.length_append,List.length_cons,List.length_nil]
  omega
 | b::B,p+1,x,h=>by
  have ih:=cntB_set B p x (by simpa using h)
  have e:(b::B).set (p+1) ((b::B).getD (p+1) []++[x])=b::B.set p (B.getD p []++[x]):=by simp
  rw [e]
  unfold cntB at ih ⊢
  simp only [List.map_cons,List.sum_cons]
  omega
theorem blk_cnt (kf:Nat->List Val):∀ n,cntB (blkS kf n).2=n
 | 0=>rfl
 | n+1=>by
  have ih:=blk_cnt kf n
  have hl:=(blk_inv kf n).len
  have hp:=posK_le (blkS kf n).1 (kf n)
  unfold blkS
  dsimp only
  split
  ·rw [cntB_ins,ih]; rfl
  ·split
   ·rename_i h1 h2
    rw [cntB_set _ _ _ (by have:=(hasK_iff.1 h2).1; omega),ih]
   ·rw [cntB_ins,ih]; rfl
theorem cnt_snoc {B:List (List Int)} {k:Nat} (h:k<B.length):cntB (B.take (k+1))=cntB (B.take k)+(B.getD k []).length:=by
 unfold cntB
 rw [take_snoc [] h,List.map_append,List.sum_append]
 simp
theorem cnt_le (B:List (List Int)) (k:Nat):cntB (B.take k)<=cntB B:=by
 have h:(((B.take k++B.drop k).map List.length).sum:Nat)=(B.map List.length).sum:=by rw [List.take_append_drop]
 rw [List.map_append,List.sum_append] at h
 unfold cntB
 omega
theorem sumQ_take (L:List Tup) {b:List Int} {j:Nat} (h:j<b.length):sumQ L (b.take (j+1))=sumQ L (b.take j)+fq (L.getD (b.getD j 0).toNat tz).2:=by
 unfold sumQ
 rw [take_snoc (0:Int) h,List.map_append]
 exact qsum_snoc _ _
theorem sQ_le {L:List Tup} (hL:∀ t∈L,qs (fq t.2)<=64) {b:List Int} (hb:∀ j∈b,0<=j/\j<(L.length:Int)):∀ k,k<=b.length->qs (sumQ L (b.take k))<=65*k+1
 | 0,_=>qs_zero
 | k+1,hk=>by
  have ih:=sQ_le hL hb k (by omega)
  rw [sumQ_take L (show k<b.length by omega)]
  have h1:=qs_add (sumQ L (b.take k)) (fq (L.getD (b.getD k 0).toNat tz).2)
  have h2:=hb _ (getDm 0 (show k<b.length by omega))
  have h3:=hL _ (getDm (l:=L) tz (show (b.getD k 0).toNat<L.length by omega))
  omega
theorem rels_at (l:List Int) {i:Nat} (h:i<4):∃ s L,(relsL l).getD i rz=((s,L):Rel)/\vldP s L/\L.length<=3/\s.2.2.length<=2/\∀ t∈L,cnT t=t/\t.1.length<=2/\fs t.2<=64:=by
 have h3:=cntR_le l i
 obtain ⟨L,h1,h2,h4,h5⟩:=relN_ok l h (cntR l i) h3
 refine ⟨schI i,L,?_,h2,by omega,(schI_ok h).2,h5⟩
 rw [<-h1]
 unfold relsL
 rw [List.getD_eq_getElem?_getD,List.getElem?_map,List.getElem?_range h]
 rfl
theorem rels_len (l:List Int):(relsL l).length=4:=by unfold relsL; rw [List.length_map,List.length_range]
theorem fd1:Fd (qf 1):=by
 unfold Fd Ds; decide +kernel
theorem fs1:fs (qf 1)<=900000:=by decide +kernel
@[go_sem] noncomputable def ERR:Env:=(ERQ).add 9 qFmtS
theorem ERR_ok:ERR.Ok:=(ERQ_ok).add qFmt_ok
@[go_sem] def lBlS:Spec:=⟨[.slice (.int .i64),.int .i64],fun d=>(.dat .bool true,[])⟩
theorem lBl_ok:SpecOk Tryz.prog 3 lBlS:=by
 refine fn_ok ERR_ok lBlS Tryz.func3 rfl (by decide) (N:=185) rfl (res:=[.tmp 4]) rfl (by decide) [] [] [] 100 (by kernel_rfl) ?_
 rintro ⟨(l:List Int),(bk:Int),_⟩ hw hp
 refine ⟨rfl,fun H hH=>?_⟩
 dsimp only [go_sem] at hw hp ⊢
 clear hw
 have hat:=fun (i:Nat) (h:i<4)=>rels_at l h
 have hRl:=rels_len l
 generalize relsL l=Rl at hat hRl ⊢
 refine hH.loop (fun i:Nat=>⟨[(6,.dat (.int .i64) (i:Int)),(5,.dat (.slice relT) Rl),(1,.dat (.int .i64) bk)],[],0⟩) (fun i=>i<=4) (fun i=>4-i) 0 0 (Nat.zero_le _) ?_ ?_
 ·dsimp only [go_sem]
  and_intros<;>first|trivial|rfl|omega
 ·rintro i hi R hm
  refine hH.run 100 _ _ ?_
  dsimp only [go_sem]
  simp only [Int.toNat_natCast]
  have hzr:Rl.getD i (zd relT)=Rl.getD i rz:=rfl
  simp only [hzr]
  refine ⟨fun d=>?_,fun d=>?_⟩
  ·have d:i<4:=by
     have d:(i:Int)<(Rl.length:Int):=of_decide_eq_true d
     omega
   obtain ⟨s,L,hr,hv,hL3,hsl,hLt⟩:=hat i d
   have hrp:relP (s,L):=⟨(show s.2.2.length<=1000 by omega),(show L.length<=400 by omega),fun t ht=>by have:=hLt t ht; omega⟩
   simp only [hr]
   obtain ⟨B,hB⟩:∃ B,grpB (s,L)=B:=⟨_,rfl⟩
   have hbr:(if vldR (s,L)=0 then B else [])=B:=if_pos (vld_iff.2 hv)
   have hbk:blkR (s,L)=B:=by unfold blkR; rw [if_pos (vld_iff.2 hv),hB]
   have hel:=(grpB_el (s,L)).2
   have hBl:=(grpB_el (s,L)).1
   change (grpB (s,L)).length<=L.length at hBl
   change ∀ b∈grpB (s,L),b≠[]/\b.length<=L.length/\∀ j∈b,0<=j/\j<(L.length:Int) at hel
   rw [hB] at hel hBl
   have hcn:cntB B=if s.2.1=true then 0 else L.length:=by
    rw [<-hB]
    unfold grpB
    dsimp only
    split
    ·rfl
    ·exact blk_cnt _ _
   have hq:∀ t∈L,qs (fq t.2)<=64:=fun t ht=>by
    obtain ⟨h1,h2,h3⟩:=hLt t ht
    have:t.2=qf (fq t.2):=(congrArg Prod.snd h1).symm
    rw [this,fs_qf] at h3
    exact h3
   simp only [hB,hbr,hbk]
   clear hbr
   have hne:∀ (α:Type) (a:α) (x:Decidable (a≠a)),(@decide (a≠a) x)=false:=fun α a x=>decide_eq_false fun h=>h rfl
   refine ⟨(show (0:Int)<=(i:Int)/\(i:Int)<(Rl.length:Int) by omega),hrp,hrp,fun e=>absurd rfl (of_decide_eq_true e),fun _=>?_⟩
   refine HOk.loop (by assumption) (fun k:Nat=>⟨[(11,.dat (.int .i64) (k:Int)),(10,.dat (.int .i64) (cntB (B.take k):Int)),(9,.dat (.slice (.slice (.int .i64))) B),(8,.dat (.slice (.slice (.int .i64))) B),(7,.ref 0 0),(6,.dat (.int .i64) (i:Int)),(5,.dat (.slice relT) Rl),(1,.dat (.int .i64) bk)],[(0,.box 30 (relA (s,L)))],1⟩) (fun k=>k<=B.length) (fun k=>B.length-k) 0 1 (Nat.zero_le _) ?_ ?_
   ·dsimp only [go_sem,relA]
    and_intros<;>first|trivial|rfl|omega
   ·rintro k hk R2 hm2
    dsimp only [relA]
    refine HOk.run (by assumption) 100 _ _ ?_
    dsimp only [go_sem]
    have hzb:B.getD k (zd (.slice (.int .i64)))=B.getD k []:=rfl
    simp only [Int.toNat_natCast,hzb]
    have hzc:∀ b:List Int,decide ((b.length:Int)≠(b.length:Int))=false:=fun b=>decide_eq_false fun h=>h rfl
    refine ⟨fun d2=>?_,fun d2=>?_⟩
    ·have d2:k<B.length:=by
       have d2:(k:Int)<(B.length:Int):=of_decide_eq_true d2
       omega
     have hk2:(0:Int)<=(k:Int)/\(k:Int)<(B.length:Int):=by omega
     obtain ⟨he1,he2,he3⟩:=hel _ (getDm [] d2)
     have hcs:=cnt_snoc d2
     obtain ⟨b,hb⟩:∃ b,B.getD k []=b:=⟨_,rfl⟩
     have hbz:decide ((b.length:Int)=0)=false:=decide_eq_false fun e=>he1 (by rw [hb]; exact List.eq_nil_of_length_eq_zero (by omega))
     have hk3:decide ((0:Int)<=(k:Int)/\(k:Int)<(B.length:Int))=true:=decide_eq_true hk2
     simp only [hbk,hk2,hk3,hb,hbz,if_true,ne_eq,not_true_eq_false,decide_false,Bool.false_or,imp_self,true_and,forall_const,and_self] at he1 he2 he3 hcs ⊢
     refine ⟨fun e=>Bool.noConfusion e,hrp,?_⟩
     refine HOk.loop (by assumption) (fun j:Nat=>⟨[(14,.dat (.int .i64) (j:Int)),(13,.dat .bool true),(12,.ref 1 0),(11,.dat (.int .i64) (k:Int)),(10,.dat (.int .i64) ((cntB (B.take k)+j:Nat):Int)),(9,.dat (.slice (.slice (.int .i64))) B),(8,.dat (.slice (.slice (.int .i64))) B),(7,.ref 0 0),(6,.dat (.int .i64) (i:Int)),(5,.dat (.slice relT) Rl),(1,.dat (.int .i64) bk)],[(0,.box 30 (relA (s,L))),(1,.box 36 (dA fT (qf (1-sumQ L b+sumQ L (b.take j))) .nil))],2⟩) (fun j=>j<=b.length) (fun j=>b.length-j) 0 2 (Nat.zero_le _) ?_ ?_
     ·dsimp only [go_sem,relA]
      have e0:sumQ L (b.take 0)=0:=rfl
      rw [e0,Rat.add_zero]
      and_intros<;>first|trivial|rfl|omega
     ·rintro j hj R3 hm3
      dsimp only [relA]
      refine HOk.run (by assumption) 100 _ _ ?_
      dsimp only [go_sem]
      have hzi:∀ q,b.getD q (zd (.int .i64))=b.getD q 0:=fun _=>rfl
      have hzt:∀ q,L.getD q (zd tupT)=L.getD q tz:=fun _=>rfl
      simp only [Int.toNat_natCast,hzb,hb,hzi,hzt]
      refine ⟨hk2,fun d3=>?_,fun d3=>?_⟩
      ·have d3:j<b.length:=by
         have d3:(j:Int)<(b.length:Int):=of_decide_eq_true d3
         omega
       have hjb:(0:Int)<=(j:Int)/\(j:Int)<(b.length:Int):=by omega
       have hst:=sumQ_take L d3
       have hx:=he3 _ (getDm 0 d3)
       have hsq:=sQ_le hq he3 j hj
       have hsb:=sQ_le hq he3 b.length (Nat.le_refl _)
       rw [List.take_length] at hsb
       have hxq:=hLt _ (getDm (l:=L) tz (show (b.getD j 0).toNat<L.length by omega))
       generalize b.getD j 0=x at hx hst hxq ⊢
       have c1:decide (x<0)=false:=decide_eq_false (by omega)
       have c2:decide ((L.length:Int)<=x)=false:=decide_eq_false (by omega)
       simp only [c1,c2,hk2,hjb,ne_eq,not_true_eq_false,decide_false,Bool.false_or,imp_self,true_and,forall_const,and_self,fq_qf,fs_qf]
       refine ⟨fun e=>Bool.noConfusion e,hx,by have h1:=qs_add (1-sumQ L b) (sumQ L (b.take j)); have h2:=qs_sub 1 (sumQ L b); have h3:=qs_one; omega,by omega,?_⟩
       have hcB:=cnt_le B k
       have hcb:cntB B<=3:=by rw [hcn]; split<;>omega
       refine ⟨by rw [inR_i64]; omega,by rw [inR_i64]; omega,hm3 _ (j+1) 2 d3 (by omega) ?_⟩
       have hs2:1-sumQ L b+sumQ L (b.take (j+1))=1-sumQ L b+sumQ L (b.take j)+fq (L.getD x.toNat tz).2:=by rw [hst,Rat.add_assoc]
       rw [hs2]
       dsimp only [go_sem]
       and_intros<;>first|trivial|rfl|omega
      ·have d3:j=b.length:=by
         have d3:¬(j:Int)<(b.length:Int):=of_decide_eq_false d3
         omega
       subst d3
       rw [List.take_length]
       have e1:1-sumQ L b+sumQ L b=1:=Rat.sub_add_cancel
       have e2:decide (ftT (fq (qf 1))≠[49])=false:=decide_eq_false fun h=>h (by rw [fq_qf,ft1'])
       rw [e1,e2]
       refine ⟨fun e=>e,fun _=>fs1,fun _=>fd1,fun e=>e,fun e=>e,fun e=>Bool.noConfusion e,fun _=>⟨by rw [inR_i64]; omega,hm2 _ (k+1) 1 d2 (by omega) ?_⟩⟩
       dsimp only [go_sem,relA]
       rw [hcs]
       and_intros<;>first|trivial|rfl|omega
    ·have d2:k=B.length:=by
       have d2:¬(k:Int)<(B.length:Int):=of_decide_eq_false d2
       omega
     subst d2
     rw [List.take_length,hcn]
     obtain ⟨x,hx⟩:∃ x,decide ((0:Int)<=bk/\bk<(B.length:Int))=x:=⟨_,rfl⟩
     simp only [hbk,hx,ne_eq,not_true_eq_false,decide_false,Bool.false_or,imp_self,true_and,forall_const,and_self,decide_true,Bool.not_true,Bool.or_false,imp4]
     have hf:(!s.2.1&&decide ¬(((if s.2.1=true then 0 else L.length:Nat):Int)=(L.length:Int))||s.2.1&&decide ¬(((if s.2.1=true then 0 else L.length:Nat):Int)=0))=false:=by
      cases s.2.1<;>simp
     refine ⟨hrp,hrp,fun e=>Bool.noConfusion (hf.symm.trans e),fun _=>⟨by rw [inR_i64]; omega,hm _ (i+1) 0 d (by omega) ?_⟩⟩
     dsimp only [go_sem]
     and_intros<;>first|trivial|rfl|omega
  ·exact ⟨trivial,trivial⟩
end Go.Proofs.YtkdglhjocffekaaGreat.Gx
