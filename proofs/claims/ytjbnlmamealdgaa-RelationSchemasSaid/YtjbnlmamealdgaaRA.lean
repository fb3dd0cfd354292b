/-
  Relations: Insert.
-/
import Derived.Test.YtjbnlmamealdgaaMR3
namespace Go.Proofs.Ytjbnlmamealdgaa.Gx
open Go Go.RowKit Tw B Nt
set_option linter.unusedVariables false
set_option linter.unusedSimpArgs false
set_option maxHeartbeats 4000000
set_option maxRecDepth 20000
def rz:Rel:=(([],false,[]),[])
def posT (l:List Tup) (v:List Val):Nat:=l.findIdx fun e=>decide (0<=cT e.1 v)
def insE (r:Rel) (t:Tup):Int :=
 if vldR r≠0 then vldR r else if ckT r.1 t≠0 then ckT r.1 t else if (fdR (r.2.findIdx? (eqV t.1))).2=true then 8
 else if 64<=r.2.length∨16<=(bkO r t.1).length then 4 else if 0<cmpQ (fq t.2) (1-sumQ r.2 (bkO r t.1)) then 19 else 0
def insR (r:Rel) (t:Tup):Rel:=if insE r t≠0 then rz else (r.1,insL (r.2.map cnT) (posT r.2 t.1) [cnT t])
theorem bkO_el (r:Rel) (v:List Val):(bkO r v).length<=r.2.length/\∀ i∈bkO r v,0<=i/\i<(r.2.length:Int):=by
 unfold bkO
 split
 ·exact ⟨Nat.zero_le _,fun i hi=>by cases hi⟩
 ·refine ⟨bkG_len _ _ _,fun i hi=>?_⟩
  unfold bkG at hi
  obtain ⟨j,hj,rfl⟩:=List.mem_map.1 hi
  have:=List.mem_range.1 (List.mem_filter.1 hj).1
  omega
theorem posT_eq {l:List Tup} {v:List Val} {p:Nat} (hp:p<=l.length) (h:∀ a,a<p->cT (l.getD a tz).1 v<0) (h':p<l.length->0<=cT (l.getD p tz).1 v):posT l v=p:=by
 unfold posT
 rcases Nat.lt_or_ge p l.length with d|d
 ·rw [List.findIdx_eq d]
  constructor
  ·have:=h' d
   rw [List.getD_eq_getElem?_getD,List.getElem?_eq_getElem d] at this
   exact decide_eq_true this
  ·intro j hj
   have:=h j hj
   rw [List.getD_eq_getElem?_getD,List.getElem?_eq_getElem (by omega)] at this
   exact decide_eq_false (by simpa using this)
 ·have:p=l.length:=by omega
  rw [this,List.findIdx_eq_length]
  intro x hx
  obtain ⟨j,hj,e⟩:=List.mem_iff_getElem.1 hx
  have:=h j (by omega)
  rw [List.getD_eq_getElem?_getD,List.getElem?_eq_getElem hj] at this
  rw [<-e]
  exact decide_eq_false (by simpa using this)
theorem insR_err {r:Rel} {t:Tup} {e:Int} (h:insE r t=e) (he:e≠0):(([],false,[]),[])=insR r t:=by
 unfold insR; rw [if_pos (by rw [h]; exact he)]; rfl
@[go_sem] def rinsS:Spec:=⟨[relT,tupT],fun d=>(.tup (.cons (.dat relT (insR d.1 d.2.1)) (.cons (.dat (.int .i64) (insE d.1 d.2.1)) .nil)),[relP d.1,List.length d.2.1.1<=1000/\fs d.2.1.2<=1000])⟩
theorem rins_ok:SpecOk Try.prog 12 rinsS:=by
 refine fn_ok ERD_ok rinsS Try.func12 rfl (by decide) (N:=89) rfl (res:=[.cell 4 37,.tmp 5]) rfl (by decide) [(18,[(79,.ow)]),(19,[(86,.ow),(1000000,.mx [(0,1000000),(1,3000000),(2,1000000)])])] [] [] 100 (by kernel_rfl) ?_
 rintro ⟨r,t,_⟩ hw hp
 refine ⟨rfl,fun H hH=>?_⟩
 dsimp only [go_sem] at hw hp ⊢
 obtain ⟨hp,⟨hp4,hp5⟩,-⟩:=hp
 obtain ⟨s,l⟩:=r
 change List Tup at l
 obtain ⟨hp1,hp2,hp3⟩:=id hp
 change l.length<=400 at hp2
 change Tup at t
 change t.1.length<=1000 at hp4
 have hwl:∀ t∈l,wfD tupT t:=hw.1.2.2
 have hfd:=fd_of hw.2.1.2
 clear hw
 have hbo:=bkO_el (s,l) t.1
 change (bkO (s,l) t.1).length<=l.length/\∀ i∈bkO (s,l) t.1,0<=i/\i<(l.length:Int) at hbo
 have hbl:(bkO (s,l) t.1).length<=400:=by omega
 have q1:=sumQ_qs (n:=400) hwl (fun t ht=>(hp3 t ht).2) hbo.2 hbl
 have q2:=qs_sub 1 (sumQ l (bkO (s,l) t.1))
 have q3:=qs_one
 simp only [imp_self,true_and,fq_qf]
 refine ⟨hp,fun h1=>?_,fun h1=>⟨by omega,fun h2=>?_,fun h2=>⟨hp,hp4,fun h3=>?_,fun h3=>⟨hp,hp4,fun h4=>?_,fun h4=>⟨hp,hbl,hbo.2,by rw [fs_qf]; omega,by omega,by rw [fs_qf]; omega,fun h5=>?_,fun h5=>?_⟩⟩⟩⟩⟩
 ·have h1:vldR (s,l)≠0:=of_decide_eq_true h1
  have he:insE (s,l) t=vldR (s,l):=by unfold insE; rw [if_pos h1]
  exact ⟨insR_err he h1,he.symm,trivial⟩
 all_goals have h1:¬vldR (s,l)≠0:=of_decide_eq_false h1
 ·have h2:ckT s t≠0:=of_decide_eq_true h2
  have he:insE (s,l) t=ckT s t:=by unfold insE; rw [if_neg h1,if_pos h2]
  exact ⟨insR_err he h2,he.symm,trivial⟩
 all_goals have h2:¬ckT s t≠0:=of_decide_eq_false h2
 ·have h3:(fdR (l.findIdx? (eqV t.1))).2=true:=h3
  have he:insE (s,l) t=8:=by unfold insE; rw [if_neg h1,if_neg h2,if_pos h3]
  exact ⟨insR_err he (by decide),he.symm,trivial⟩
 all_goals have h3:¬(fdR (l.findIdx? (eqV t.1))).2=true:=fun e=>Bool.noConfusion (h3.symm.trans e)
 ·simp only [Bool.or_eq_true,decide_eq_true_eq] at h4
  have h4:(64:Int)<=(l.length:Int)∨(16:Int)<=((bkO (s,l) t.1).length:Int):=h4
  have h4:64<=l.length∨16<=(bkO (s,l) t.1).length:=by omega
  have he:insE (s,l) t=4:=by unfold insE; rw [if_neg h1,if_neg h2,if_neg h3,if_pos h4]
  exact ⟨insR_err he (by decide),he.symm,trivial⟩
 all_goals simp only [Bool.or_eq_false_iff,decide_eq_false_iff_not] at h4
 all_goals have h4:¬(64:Int)<=(l.length:Int)/\¬(16:Int)<=((bkO (s,l) t.1).length:Int):=h4
 all_goals have h4:¬(64<=l.length∨16<=(bkO (s,l) t.1).length):=by omega
 ·have h5:0<cmpQ (fq t.2) (1-sumQ l (bkO (s,l) t.1)):=of_decide_eq_true h5
  have he:insE (s,l) t=19:=by unfold insE; rw [if_neg h1,if_neg h2,if_neg h3,if_neg h4,if_pos h5]
  exact ⟨insR_err he (by decide),he.symm,trivial⟩
 have h5:¬0<cmpQ (fq t.2) (1-sumQ l (bkO (s,l) t.1)):=of_decide_eq_false h5
 have he:insE (s,l) t=0:=by unfold insE; rw [if_neg h1,if_neg h2,if_neg h3,if_neg h4,if_neg h5]
 have hr:insR (s,l) t=(s,insL (l.map cnT) (posT l t.1) [cnT t]):=by unfold insR; rw [if_neg (by rw [he]; simp)]
 refine hH.loop (fun i:Nat=>⟨[(11,.dat (.int .i64) (i:Int)),(2,.ref 0 0),(3,.ref 1 0),(4,.ref 2 0)],[(0,.box 37 (.cons (.dat .str s.1) (.cons (.dat .bool s.2.1) (.cons (.dat (.slice colT) s.2.2) (.cons (.dat (.slice tupT) l) .nil))))),(1,.box 49 (.cons (.dat (.slice valT) t.1) (.cons (.dat .bool t.2.1) (.cons (.dat (.slice (.int .u32)) t.2.2.1) (.cons (.dat (.slice (.int .u32)) t.2.2.2) .nil))))),(2,.box 37 (zA relT .nil))],3⟩) (fun i=>i<=l.length/\∀ j,j<i->cT (l.getD j tz).1 t.1<0) (fun i=>l.length-i) 0 3 ⟨Nat.zero_le _,fun j h=>absurd h (Nat.not_lt_zero _)⟩ ?_ ?_
 ·dsimp only [go_sem]
  and_intros<;>first|trivial|rfl|omega
 ·rintro i ⟨hi,hz⟩ R hm
  refine hH.run 100 _ _ ?_
  dsimp only [go_sem]
  simp only [Int.toNat_natCast,imp_self,true_and]
  have hzt:∀ j,l.getD j (zd tupT)=l.getD j tz:=fun _=>rfl
  simp only [hzt]
  refine ⟨fun d=>?_,fun d=>?_,fun d=>?_,fun d=>⟨hp,?_⟩⟩
  ·have d:(i:Int)<(l.length:Int):=of_decide_eq_true d
   show (0:Int)<=(i:Int)/\(i:Int)<(l.length:Int)
   omega
  ·have d:(i:Int)<(l.length:Int):=of_decide_eq_true d
   have ht:(l.getD i tz).1.length<=1000/\fs (l.getD i tz).2<=1000:=hp3 _ (getDm tz (show i<l.length by omega))
   show (l.getD i tz).1.length<=1000000/\t.1.length<=1000000
   omega
  ·simp only [Bool.and_eq_true,decide_eq_true_eq] at d
   have d1:(i:Int)<(l.length:Int):=d.1
   have hi1:inR .i64 ((i:Int)+1):=by rw [inR_i64]; omega
   refine ⟨hi1,hm _ (i+1) 3 ⟨by omega,fun j hj=>?_⟩ (by omega) ?_⟩
   ·rcases Nat.lt_or_ge j i with h'|h'
    ·exact hz j h'
    ·have:j=i:=by omega
     rw [this]; exact d.2
   ·dsimp only [go_sem]
    and_intros<;>first|trivial|rfl|omega
  ·have hpos:posT l t.1=i:=posT_eq hi hz fun hlt=>by
     rw [Bool.and_eq_false_iff] at d
     rcases d with d|d
     ·have d:¬(i:Int)<(l.length:Int):=of_decide_eq_false d
      omega
     ·exact Int.not_lt.1 (of_decide_eq_false d)
   rw [hpos] at hr
   have g1:(l.map cnT).length=l.length:=List.length_map _
   refine ⟨⟨hp4,by omega⟩,⟨Int.natCast_nonneg _,Int.ofNat_le.2 (by omega),by omega,rfl⟩,hr.symm,he.symm,trivial⟩
@[go_sem] noncomputable def ERE:Env:=(ERD).add 12 rinsS
theorem ERE_ok:ERE.Ok:=(ERD_ok).add rins_ok
end Go.Proofs.Ytjbnlmamealdgaa.Gx
