/-
  MWb: WX WR WZ WY HK WK WL in one text.
-/
import Derived.Test.YtdobkkhncfifeacGreatMRz
import Derived.Test.YtdobkkhncfifeacGreatMWa
import Derived.Test.YtdobkkhncfifeacGreatMGc
namespace Go.Proofs.YtdobkkhncfifeacGreat.Gx
open Go Go.RowKit Tw B Nt
set_option linter.unusedVariables false
set_option linter.unusedSimpArgs false
set_option maxHeartbeats 40000000
set_option maxRecDepth 20000
@[reducible,go_sem] def refT:Ty:=.pair (.int .i64) (.int .i64)
abbrev Rf:=Int×Int
def nmI (l:List Rel) (i:Nat):Str:=(l.getD i rz).1.1
def dupB (l:List Rel) (i k:Nat):Bool:=(List.range k).any fun j=>decide (nmI l j=nmI l i)
theorem dupB_succ (l:List Rel) (i k:Nat):dupB l i (k+1)=(dupB l i k||decide (nmI l k=nmI l i)):=by
 unfold dupB
 rw [List.range_succ,List.any_append]
 simp
theorem dupB_stop {l:List Rel} {i k n:Nat} (hk:k<n) (h:nmI l k=nmI l i):dupB l i n=true:=by
 unfold dupB
 rw [List.any_eq_true]
 exact ⟨k,List.mem_range.2 hk,decide_eq_true h⟩
def errI (l:List Rel) (i:Nat):Int:=if vldR (l.getD i rz)=0 then (if dupB l i i=true then 12 else 0) else vldR (l.getD i rz)
def errF (l:List Rel):Nat->Int
 | 0=>0
 | n+1=>if errF l n=0 then errI l n else errF l n
theorem errF_stop {l:List Rel} {i:Nat} (h0:errF l i=0) (h1:errI l i≠0):∀ {n:Nat},i<n->errF l n=errI l i
 | 0,hn=>by omega
 | n+1,hn=>by
  rcases Nat.lt_or_ge i n with h|h
  ·have ih:=errF_stop h0 h1 h
   unfold errF
   rw [if_neg (by rw [ih]; exact h1),ih]
  ·have:n=i:=by omega
   subst this
   unfold errF
   rw [if_pos h0]
theorem errF_succ {l:List Rel} {i:Nat} (h0:errF l i=0) (h1:errI l i=0):errF l (i+1)=0:=by
 unfold errF
 rw [if_pos h0,h1]
theorem errF_le {l:List Rel}:∀ {n:Nat},errF l n=0->∀ i,i<n->errI l i=0
 | 0,_,i,hi=>by omega
 | n+1,h,i,hi=>by
  unfold errF at h
  by_cases e:errF l n=0
  ·rw [if_pos e] at h
   rcases Nat.lt_or_ge i n with h'|h'
   ·exact errF_le e i h'
   ·have:i=n:=by omega
    rw [this]; exact h
  ·rw [if_neg e] at h
   exact absurd h e
theorem errI_vld {l:List Rel} {i:Nat} (h:errI l i=0):vldR (l.getD i rz)=0:=by
 unfold errI at h
 split at h
 ·assumption
 ·exact h
def spB (r:Rel) (b:List Int):Blk:=b.map fun j=>qf (fq (r.2.getD j.toNat tz).2)
def rfB (i:Nat) (b:List Int):List Rf:=b.map fun j=>((i:Int),j)
def spQ (l:List Rel):Nat->List Blk
 | 0=>[]
 | n+1=>spQ l n++(blkR (l.getD n rz)).map (spB (l.getD n rz))
def rfQ (l:List Rel):Nat->List (List Rf)
 | 0=>[]
 | n+1=>rfQ l n++(blkR (l.getD n rz)).map (rfB n)
def frW (l:List Rel):List Blk×List (List Rf)×Int :=
 if 8<l.length then ([],[],4) else if errF l l.length=0 then (spQ l l.length,rfQ l l.length,0) else ([],[],errF l l.length)
theorem blkR_len (r:Rel):(blkR r).length<=r.2.length:=by
 unfold blkR
 split
 ·exact (grpB_el r).1
 ·exact Nat.zero_le _
theorem spQ_len {l:List Rel} (h:∀ r∈l,relP r):∀ n,n<=l.length->(spQ l n).length<=400*n/\(rfQ l n).length<=400*n
 | 0,_=>⟨Nat.le_refl _,Nat.le_refl _⟩
 | n+1,hn=>by
  have ih:=spQ_len h n (by omega)
  have hr:=h _ (getDm (l:=l) rz (show n<l.length by omega))
  have hb:=blkR_len (l.getD n rz)
  have h2:(l.getD n rz).2.length<=400:=hr.2.1
  unfold spQ rfQ
  rw [List.length_append,List.length_append,List.length_map,List.length_map]
  omega
theorem q24 {α:Type} (a b:List α) (ha:a.length<=3200) (hb:b.length<=400):((a++b).length+1)*24<=140737488355328:=by
 rw [List.length_append]; omega
theorem spB_snoc (r:Rel) {b:List Int} {j:Nat} (h:j<b.length):spB r (b.take (j+1))=spB r (b.take j)++[qf (fq (r.2.getD (b.getD j 0).toNat tz).2)]:=by
 unfold spB
 rw [take_snoc (0:Int) h,List.map_append]
 rfl
theorem rfB_snoc (i:Nat) {b:List Int} {j:Nat} (h:j<b.length):rfB i (b.take (j+1))=rfB i (b.take j)++[((i:Int),b.getD j 0)]:=by
 unfold rfB
 rw [take_snoc (0:Int) h,List.map_append]
 rfl
@[go_sem] noncomputable def EXR:Env:=((ERP).add 10 l11knS).add 8 rSaS
theorem EXR_ok:EXR.Ok:=((ERP_ok).add l11kn_ok).add rSa_ok
@[go_sem] def ifrS:Spec:=⟨[.slice relT],fun d=>(.tup (.cons (.dat spT (frW d.1).1) (.cons (.dat (.slice (.slice refT)) (frW d.1).2.1) (.cons (.dat (.int .i64) (frW d.1).2.2) .nil))),[∀ r∈d.1,relP r])⟩
theorem ifr_ok:SpecOk Tryz.prog 6 ifrS:=by
 refine fn_ok EXR_ok ifrS Tryz.func6 rfl (by decide) (N:=108) rfl (res:=[.cell 2 34,.tmp 3,.tmp 4]) rfl (by decide) [(29,[(84,.dt),(1000000,.mx [])]),(30,[(91,.dt)]),(32,[(97,.dt)]),(33,[(102,.dt)])] [(32,[6]),(33,[7]),(36,[2,3])] [] 100 (by kernel_rfl) ?_
 rintro ⟨l,_⟩ hw hp
 refine ⟨rfl,fun H hH=>?_⟩
 dsimp only [go_sem] at hw hp ⊢
 obtain ⟨hp,-⟩:=hp
 change List Rel at l
 have hp:∀ r∈l,relP r:=hp
 clear hw
 refine ⟨fun h=>?_,fun h=>?_⟩<;>simp only [decide_eq_true_eq,decide_eq_false_iff_not] at h
 ·have h:8<l.length:=by
    have h:(8:Int)<(l.length:Int):=h
    omega
  have hv:frW l=([],[],4):=if_pos h
  rw [hv]
  and_intros<;>first|trivial|rfl
 have h8:¬8<l.length:=by
  have h:¬(8:Int)<(l.length:Int):=h
  omega
 have hfr:frW l=if errF l l.length=0 then (spQ l l.length,rfQ l l.length,0) else ([],[],errF l l.length):=if_neg h8
 refine hH.loop (fun i:Nat=>⟨[(26,.dat (.int .i64) (i:Int)),(25,.dat (.int .i64) (l.length:Int)),(24,.dat (.slice relT) l),(2,.ref 0 0),(0,.dat (.slice relT) l)],[(0,.box 34 (zA spT .nil))],1⟩) (fun i=>i<=l.length/\errF l i=0) (fun i=>l.length-i) 0 1 ⟨Nat.zero_le _,rfl⟩ ?_ ?_
 ·dsimp only [go_sem]
  and_intros<;>first|trivial|rfl|omega
 rintro i ⟨hi,he⟩ R hm
 refine hH.run 100 _ _ ?_
 dsimp only [go_sem]
 have hzr:∀ k,l.getD k (zd relT)=l.getD k rz:=fun _=>rfl
 simp only [Int.toNat_natCast]
 have hti:(List.take i l).length=i:=by rw [List.length_take]; omega
 have htk:∀ k,k<i->(List.take i l).getD k rz=l.getD k rz:=fun k hk=>by
  rw [List.getD_eq_getElem?_getD,List.getD_eq_getElem?_getD,List.getElem?_take,if_pos hk]
 refine ⟨fun d=>?_,fun d=>?_⟩
 ·have d:i<l.length:=by
    have d:(i:Int)<(l.length:Int):=of_decide_eq_true d
    omega
  have hbi:(0:Int)<=(i:Int)/\(i:Int)<(l.length:Int):=by omega
  have hbi2:(0:Int)<=(i:Int)/\(i:Int)<=(l.length:Int):=by omega
  have hP:=hp _ (getDm (l:=l) rz d)
  obtain ⟨r,hr⟩:∃ r,l.getD i rz=r:=⟨_,rfl⟩
  simp only [hzr,hr]
  rw [hr] at hP
  refine ⟨hbi,hP,fun e=>?_,fun e=>⟨hbi2,?_⟩⟩
  ·have e:vldR r≠0:=of_decide_eq_true e
   have hI:errI l i=vldR r:=by unfold errI; rw [hr,if_neg e]
   have hF:=errF_stop he (by rw [hI]; exact e) d
   have hv:frW l=([],[],vldR r):=by rw [hfr,if_neg (by rw [hF,hI]; exact e),hF,hI]
   rw [hv]
   and_intros<;>first|trivial|rfl
  have e:vldR r=0:=Decidable.not_not.1 (of_decide_eq_false e)
  refine HOk.loop (by assumption) (fun k:Nat=>⟨[(41,.dat (.int .i64) (k:Int)),(40,.dat (.int .i64) (i:Int)),(39,.dat (.slice relT) (List.take i l)),(26,.dat (.int .i64) (i:Int)),(25,.dat (.int .i64) (l.length:Int)),(24,.dat (.slice relT) l),(6,.ref 1 0),(2,.ref 0 0),(0,.dat (.slice relT) l)],[(0,.box 34 (zA spT .nil)),(1,.box 30 (relA r))],2⟩) (fun k=>k<=i/\dupB l i k=false) (fun k=>i-k) 0 2 ⟨Nat.zero_le _,rfl⟩ ?_ ?_
  ·dsimp only [go_sem,relA]
   rw [hti]
   and_intros<;>first|trivial|rfl|omega
  rintro k ⟨hk,hdu⟩ R2 hm2
  dsimp only [relA]
  refine HOk.run (by assumption) 100 _ _ ?_
  dsimp only [go_sem]
  simp only [Int.toNat_natCast]
  refine ⟨fun f=>?_,fun f=>?_⟩
  ·have f:k<i:=by
     have f:(k:Int)<(i:Int):=of_decide_eq_true f
     omega
   have hbk:(0:Int)<=(k:Int)/\(k:Int)<((List.take i l).length:Int):=by rw [hti]; omega
   have hzk:(List.take i l).getD k (zd relT)=l.getD k rz:=htk k f
   simp only [hzk]
   refine ⟨hbk,fun g=>?_,fun g=>⟨by rw [inR_i64]; omega,hm2 _ (k+1) 2 ⟨f,?_⟩ (by omega) ?_⟩⟩
   ·have g:nmI l k=nmI l i:=by
      have g:(l.getD k rz).1.1=r.1.1:=of_decide_eq_true g
      unfold nmI
      rw [g,hr]
    have hI:errI l i=12:=by unfold errI; rw [hr,if_pos e,if_pos (dupB_stop f g)]
    have hF:=errF_stop he (by rw [hI]; decide) d
    have hv:frW l=([],[],12):=by rw [hfr,if_neg (by rw [hF,hI]; decide),hF,hI]
    rw [hv]
    and_intros<;>first|trivial|rfl
   ·rw [dupB_succ,hdu]
    have g:¬(l.getD k rz).1.1=r.1.1:=of_decide_eq_false g
    unfold nmI
    rw [hr,decide_eq_false g]
    rfl
   ·dsimp only [go_sem,relA]
    and_intros<;>first|trivial|rfl|omega
  ·have f:k=i:=by
     have f:¬(k:Int)<(i:Int):=of_decide_eq_false f
     omega
   subst f
   have hI:errI l k=0:=by
    unfold errI
    rw [hr,if_pos e,if_neg (by rw [hdu]; decide)]
   refine ⟨by rw [inR_i64]; omega,hm _ (k+1) 1 ⟨d,errF_succ he hI⟩ (by omega) ?_⟩
   dsimp only [go_sem]
   and_intros<;>first|trivial|rfl|omega
 have d:i=l.length:=by
  have d:¬(i:Int)<(l.length:Int):=of_decide_eq_false d
  omega
 subst d
 have hv:frW l=(spQ l l.length,rfQ l l.length,0):=by rw [hfr,if_pos he]
 have hvl:∀ i,i<l.length->vldR (l.getD i rz)=0:=fun i hi=>errI_vld (errF_le he i hi)
 have hsl:=spQ_len hp
 clear hti htk
 refine HOk.loop (by assumption) (fun i:Nat=>⟨[(57,.dat (.int .i64) (i:Int)),(56,.dat (.int .i64) (l.length:Int)),(55,.dat (.slice relT) l),(11,.own 3),(10,.ref 1 0),(2,.ref 0 0)],[(0,.box 34 (zA spT .nil)),(1,.box 34 (.cons (.own 2) .nil)),(2,.row 64 bkT (spQ l i)),(3,.row 65 (.slice refT) (rfQ l i))],4⟩) (fun i=>i<=l.length) (fun i=>l.length-i) 0 2 (Nat.zero_le _) ?_ ?_
 ·dsimp only [go_sem]
  and_intros<;>first|trivial|rfl|omega
 rintro i hi R2 hm2
 refine HOk.run (by assumption) 100 _ _ ?_
 dsimp only [go_sem]
 simp only [Int.toNat_natCast]
 refine ⟨fun d=>?_,fun d=>?_⟩
 ·have d:i<l.length:=by
    have d:(i:Int)<(l.length:Int):=of_decide_eq_true d
    omega
  have hbi:(0:Int)<=(i:Int)/\(i:Int)<(l.length:Int):=by omega
  have hP:=hp _ (getDm (l:=l) rz d)
  have hV:=hvl i d
  have hS:=hsl i (by omega)
  have hsq:spQ l (i+1)=spQ l i++(blkR (l.getD i rz)).map (spB (l.getD i rz)):=rfl
  have hrq:rfQ l (i+1)=rfQ l i++(blkR (l.getD i rz)).map (rfB i):=rfl
  obtain ⟨r,hr⟩:∃ r,l.getD i rz=r:=⟨_,rfl⟩
  simp only [hzr,hr]
  rw [hr] at hP hV hsq hrq
  have hbl:=blkR_len r
  have hel:∀ b∈blkR r,b.length<=r.2.length/\∀ j∈b,0<=j/\j<(r.2.length:Int):=fun b hb=>by
   unfold blkR at hb
   rw [if_pos hV] at hb
   exact ((grpB_el r).2 b hb).2
  have hbr:(if vldR r=0 then grpB r else [])=blkR r:=rfl
  rw [hbr]
  generalize blkR r=B at hbl hel hsq hrq ⊢
  have hr4:r.2.length<=400:=hP.2.1
  have hS8:(spQ l i).length<=3200/\(rfQ l i).length<=3200:=by omega
  refine ⟨hbi,hP,?_⟩
  refine HOk.loop (by assumption) (fun k:Nat=>⟨[(65,.dat (.int .i64) (k:Int)),(64,.dat (.int .i64) (B.length:Int)),(63,.dat (.slice (.slice (.int .i64))) B),(13,.ref 4 0),(12,.dat (.int .i64) (i:Int)),(57,.dat (.int .i64) (i:Int)),(56,.dat (.int .i64) (l.length:Int)),(55,.dat (.slice relT) l),(11,.own 3),(10,.ref 1 0),(2,.ref 0 0)],[(0,.box 34 (zA spT .nil)),(1,.box 34 (.cons (.own 2) .nil)),(2,.row 64 bkT (spQ l i++(B.take k).map (spB r))),(3,.row 65 (.slice refT) (rfQ l i++(B.take k).map (rfB i))),(4,.box 30 (relA r))],5⟩) (fun k=>k<=B.length) (fun k=>B.length-k) 0 5 (Nat.zero_le _) ?_ ?_
  ·dsimp only [go_sem,relA]
   simp only [List.take_zero,List.map_nil,List.append_nil]
   and_intros<;>first|trivial|rfl|omega
  rintro k hk R3 hm3
  dsimp only [relA]
  refine HOk.run (by assumption) 100 _ _ ?_
  dsimp only [go_sem]
  simp only [Int.toNat_natCast]
  refine ⟨fun e=>?_,fun e=>?_⟩
  ·have e:k<B.length:=by
     have e:(k:Int)<(B.length:Int):=of_decide_eq_true e
     omega
   have hbk:(0:Int)<=(k:Int)/\(k:Int)<(B.length:Int):=by omega
   have hzb:B.getD k (zd (.slice (.int .i64)))=B.getD k []:=rfl
   obtain ⟨hb1,hb2⟩:=hel _ (getDm (l:=B) [] e)
   have hk4:k<=400:=by omega
   have hik:inR .i64 ((k:Int)+1):=by rw [inR_i64]; omega
   have hkm:B.length-(k+1)<B.length-k:=by omega
   have hsn:B.take (k+1)=B.take k++[B.getD k []]:=take_snoc [] e
   simp only [hzb]
   generalize B.getD k []=b at hb1 hb2 hsn ⊢
   refine ⟨hbk,?_⟩
   refine HOk.loop (by assumption) (fun j:Nat=>⟨[(71,.dat (.int .i64) (j:Int)),(70,.dat (.int .i64) (b.length:Int)),(69,.dat (.slice (.int .i64)) b),(17,.own 7),(16,.ref 5 0),(65,.dat (.int .i64) (k:Int)),(64,.dat (.int .i64) (B.length:Int)),(63,.dat (.slice (.slice (.int .i64))) B),(13,.ref 4 0),(12,.dat (.int .i64) (i:Int)),(57,.dat (.int .i64) (i:Int)),(56,.dat (.int .i64) (l.length:Int)),(55,.dat (.slice relT) l),(11,.own 3),(10,.ref 1 0),(2,.ref 0 0)],[(0,.box 34 (zA spT .nil)),(1,.box 34 (.cons (.own 2) .nil)),(2,.row 64 bkT (spQ l i++(B.take k).map (spB r))),(3,.row 65 (.slice refT) (rfQ l i++(B.take k).map (rfB i))),(4,.box 30 (relA r)),(5,.box 64 (.cons (.own 6) .nil)),(6,.row 48 fT (spB r (b.take j))),(7,.row 68 refT (rfB i (b.take j)))],8⟩) (fun j=>j<=b.length) (fun j=>b.length-j) 0 6 (Nat.zero_le _) ?_ ?_
   ·dsimp only [go_sem,relA]
    and_intros<;>first|trivial|rfl|omega
   rintro j hj R4 hm4
   dsimp only [relA]
   refine HOk.run (by assumption) 100 _ _ ?_
   dsimp only [go_sem]
   simp only [Int.toNat_natCast]
   refine ⟨fun f=>?_,fun f=>?_⟩
   ·have f:j<b.length:=by
      have f:(j:Int)<(b.length:Int):=of_decide_eq_true f
      omega
    have hbj:(0:Int)<=(j:Int)/\(j:Int)<(b.length:Int):=by omega
    have hzi:b.getD j (zd (.int .i64))=b.getD j 0:=rfl
    have ht:=hb2 _ (getDm (l:=b) 0 f)
    have hs1:=spB_snoc r f
    have hs2:=rfB_snoc i f
    have hq:fs (r.2.getD (b.getD j 0).toNat tz).2<=1000:=(hP.2.2 _ (getDm (l:=r.2) tz (by omega))).2
    have hzt:∀ q,r.2.getD q (zd tupT)=r.2.getD q tz:=fun _=>rfl
    have hl1:(spB r (b.take j)).length=j:=by unfold spB; rw [List.length_map,List.length_take]; omega
    have hl2:(rfB i (b.take j)).length=j:=by unfold rfB; rw [List.length_map,List.length_take]; omega
    simp only [hzi,hzt]
    have q1:(List.length (spB r (b.take j))+1)*56<=140737488355328:=by rw [hl1]; omega
    have q2:(List.length (rfB i (b.take j))+1)*16<=140737488355328:=by rw [hl2]; omega
    refine ⟨hbj,ht,Nat.le_trans hq (by decide),q1,trivial,q2,trivial,by rw [inR_i64]; omega,HOk.ren (by assumption) [(0,0),(1,1),(2,2),(3,3),(4,4),(5,5),(6,8),(7,7)] 8 rfl rfl (Nat.zero_le _) rfl ?_⟩
    dsimp only [go_sem]
    refine hm4 _ (j+1) 8 f (by omega) ?_
    dsimp only [go_sem,relA]
    rw [hs1,hs2]
    and_intros<;>first|trivial|rfl|omega
   ·have f:j=b.length:=by
      have f:¬(j:Int)<(b.length:Int):=of_decide_eq_false f
      omega
    subst f
    rw [List.take_length]
    have hS1:(B.take (k+1)).map (spB r)=(B.take k).map (spB r)++[spB r b]:=by rw [hsn,List.map_append]; rfl
    have hS2:(B.take (k+1)).map (rfB i)=(B.take k).map (rfB i)++[rfB i b]:=by rw [hsn,List.map_append]; rfl
    have hk1:(B.take k).length=k:=by rw [List.length_take]; omega
    have q1:=q24 (spQ l i) ((B.take k).map (spB r)) hS8.1 (by rw [List.length_map,hk1]; exact hk4)
    have q2:=q24 (rfQ l i) ((B.take k).map (rfB i)) hS8.2 (by rw [List.length_map,hk1]; exact hk4)
    refine ⟨q1,trivial,q2,trivial,hik,hm3 _ (k+1) 5 e hkm ?_⟩
    dsimp only [go_sem,relA]
    rw [hS1,hS2,<-List.append_assoc,<-List.append_assoc]
    and_intros<;>first|trivial|rfl|omega
  ·have e:k=B.length:=by
     have e:¬(k:Int)<(B.length:Int):=of_decide_eq_false e
     omega
   subst e
   rw [List.take_length]
   refine ⟨by rw [inR_i64]; omega,hm2 _ (i+1) 4 d (by omega) ?_⟩
   dsimp only [go_sem]
   rw [hsq,hrq]
   and_intros<;>first|trivial|rfl|omega
 ·have d:i=l.length:=by
    have d:¬(i:Int)<(l.length:Int):=of_decide_eq_false d
    omega
  subst d
  rw [hv]
  and_intros<;>first|trivial|rfl
end Go.Proofs.YtdobkkhncfifeacGreat.Gx
namespace Go.Proofs.YtdobkkhncfifeacGreat.Gx
open Go Go.RowKit Tw B Nt
set_option linter.unusedVariables false
set_option linter.unusedSimpArgs false
set_option maxHeartbeats 40000000
set_option maxRecDepth 20000
@[go_sem] def rfrS:Spec:=⟨[.slice relT],fun d=>(.tup (.cons (.dat spT (frW d.1).1) (.cons (.dat (.slice (.slice refT)) (frW d.1).2.1) (.cons (.dat (.int .i64) (frW d.1).2.2) .nil))),[∀ r∈d.1,relP r])⟩
theorem rfr_ok:SpecOk Tryz.prog 7 rfrS:=by
 refine fn_ok EXR_ok rfrS Tryz.func7 rfl (by decide) (N:=120) rfl (res:=[.cell 2 34,.tmp 3,.tmp 4]) rfl (by decide) [(3,[(19,.ag)]),(20,[(65,.ag)]),(25,[(93,.dt),(1000000,.mx [])]),(26,[(106,.dt)]),(27,[(111,.dt)]),(28,[(116,.dt)])] [(27,[5]),(28,[6]),(29,[2,3])] [] 100 (by kernel_rfl) ?_
 rintro ⟨l,_⟩ hw hp
 refine ⟨rfl,fun H hH=>?_⟩
 dsimp only [go_sem] at hw hp ⊢
 obtain ⟨hp,-⟩:=hp
 change List Rel at l
 have hp:∀ r∈l,relP r:=hp
 clear hw
 refine ⟨fun h=>?_,fun h=>?_⟩<;>simp only [decide_eq_true_eq,decide_eq_false_iff_not] at h
 ·have h:8<l.length:=by
    have h:(8:Int)<(l.length:Int):=h
    omega
  have hv:frW l=([],[],4):=if_pos h
  rw [hv]
  and_intros<;>first|trivial|rfl
 have h8:¬8<l.length:=by
  have h:¬(8:Int)<(l.length:Int):=h
  omega
 have hfr:frW l=if errF l l.length=0 then (spQ l l.length,rfQ l l.length,0) else ([],[],errF l l.length):=if_neg h8
 have hsl:=spQ_len hp
 refine hH.loop (fun i:Nat=>⟨[(7,.dat (.int .i64) (i:Int)),(6,.own 3),(5,.ref 1 0),(2,.ref 0 0),(0,.dat (.slice relT) l)],[(0,.box 34 (zA spT .nil)),(1,.box 34 (.cons (.own 2) .nil)),(2,.row 64 bkT (spQ l i)),(3,.row 65 (.slice refT) (rfQ l i))],4⟩) (fun i=>i<=l.length/\errF l i=0) (fun i=>l.length-i) 0 2 ⟨Nat.zero_le _,rfl⟩ ?_ ?_
 ·dsimp only [go_sem]
  and_intros<;>first|trivial|rfl|omega
 rintro i ⟨hi,he⟩ R hm
 refine hH.run 100 _ _ ?_
 dsimp only [go_sem]
 have hzr:∀ k,l.getD k (zd relT)=l.getD k rz:=fun _=>rfl
 simp only [Int.toNat_natCast]
 refine ⟨fun d=>?_,fun d=>?_⟩
 ·have d:i<l.length:=by
    have d:(i:Int)<(l.length:Int):=of_decide_eq_true d
    omega
  have hbi:(0:Int)<=(i:Int)/\(i:Int)<(l.length:Int):=by omega
  have hii:inR .i64 ((i:Int)+1):=by rw [inR_i64]; omega
  have hS:=hsl i (by omega)
  have hS8:(spQ l i).length<=3200/\(rfQ l i).length<=3200:=by omega
  have him:l.length-(i+1)<l.length-i:=by omega
  have hP:=hp _ (getDm (l:=l) rz d)
  have hsq:spQ l (i+1)=spQ l i++(blkR (l.getD i rz)).map (spB (l.getD i rz)):=rfl
  have hrq:rfQ l (i+1)=rfQ l i++(blkR (l.getD i rz)).map (rfB i):=rfl
  obtain ⟨r,hr⟩:∃ r,l.getD i rz=r:=⟨_,rfl⟩
  simp only [hzr,hr]
  rw [hr] at hP hsq hrq
  refine ⟨hbi,hP,fun e=>?_,fun e=>?_⟩
  ·have e:vldR r≠0:=of_decide_eq_true e
   have hI:errI l i=vldR r:=by unfold errI; rw [hr,if_neg e]
   have hF:=errF_stop he (by rw [hI]; exact e) d
   have hv:frW l=([],[],vldR r):=by rw [hfr,if_neg (by rw [hF,hI]; exact e),hF,hI]
   rw [hv]
   and_intros<;>first|trivial|rfl
  have e:vldR r=0:=Decidable.not_not.1 (of_decide_eq_false e)
  refine HOk.loop (by assumption) (fun k:Nat=>⟨[(9,.dat (.int .i64) (k:Int)),(7,.dat (.int .i64) (i:Int)),(6,.own 3),(5,.ref 1 0),(2,.ref 0 0),(0,.dat (.slice relT) l)],[(0,.box 34 (zA spT .nil)),(1,.box 34 (.cons (.own 2) .nil)),(2,.row 64 bkT (spQ l i)),(3,.row 65 (.slice refT) (rfQ l i))],4⟩) (fun k=>k<=i/\dupB l i k=false) (fun k=>i-k) 0 4 ⟨Nat.zero_le _,rfl⟩ ?_ ?_
  ·dsimp only [go_sem]
   and_intros<;>first|trivial|rfl|omega
  rintro k ⟨hk,hdu⟩ R2 hm2
  refine HOk.run (by assumption) 100 _ _ ?_
  dsimp only [go_sem]
  simp only [Int.toNat_natCast,hzr,hr]
  refine ⟨fun f=>?_,fun f=>?_⟩
  ·have f:k<i:=by
     have f:(k:Int)<(i:Int):=of_decide_eq_true f
     omega
   have hbk:(0:Int)<=(k:Int)/\(k:Int)<(l.length:Int):=by omega
   have hik:inR .i64 ((k:Int)+1):=by rw [inR_i64]; omega
   have hkm:i-(k+1)<i-k:=by omega
   refine ⟨hbk,hbi,fun g=>?_,fun g=>⟨hik,hm2 _ (k+1) 4 ⟨f,?_⟩ hkm ?_⟩⟩
   ·have g:nmI l k=nmI l i:=by
      have g:(l.getD k rz).1.1=r.1.1:=of_decide_eq_true g
      unfold nmI
      rw [g,hr]
    have hI:errI l i=12:=by unfold errI; rw [hr,if_pos e,if_pos (dupB_stop f g)]
    have hF:=errF_stop he (by rw [hI]; decide) d
    have hv:frW l=([],[],12):=by rw [hfr,if_neg (by rw [hF,hI]; decide),hF,hI]
    rw [hv]
    and_intros<;>first|trivial|rfl
   ·rw [dupB_succ,hdu]
    have g:¬(l.getD k rz).1.1=r.1.1:=of_decide_eq_false g
    unfold nmI
    rw [hr,decide_eq_false g]
    rfl
   ·dsimp only [go_sem]
    and_intros<;>first|trivial|rfl|omega
  have f:k=i:=by
   have f:¬(k:Int)<(i:Int):=of_decide_eq_false f
   omega
  subst f
  have hI:errI l k=0:=by
   unfold errI
   rw [hr,if_pos e,if_neg (by rw [hdu]; decide)]
  have hE1:=errF_succ he hI
  clear hdu hm2 hI he hk
  have hbl:=blkR_len r
  have hel:∀ b∈blkR r,b.length<=r.2.length/\∀ j∈b,0<=j/\j<(r.2.length:Int):=fun b hb=>by
   unfold blkR at hb
   rw [if_pos e] at hb
   exact ((grpB_el r).2 b hb).2
  have hbr:(if vldR r=0 then grpB r else [])=blkR r:=rfl
  rw [hbr]
  generalize blkR r=B at hbl hel hsq hrq ⊢
  have hr4:r.2.length<=400:=hP.2.1
  refine ⟨hbi,hP,?_⟩
  refine HOk.loop (by assumption) (fun q:Nat=>⟨[(11,.dat (.int .i64) (q:Int)),(10,.dat (.slice (.slice (.int .i64))) B),(7,.dat (.int .i64) (k:Int)),(6,.own 3),(5,.ref 1 0),(2,.ref 0 0),(0,.dat (.slice relT) l)],[(0,.box 34 (zA spT .nil)),(1,.box 34 (.cons (.own 2) .nil)),(2,.row 64 bkT (spQ l k++(B.take q).map (spB r))),(3,.row 65 (.slice refT) (rfQ l k++(B.take q).map (rfB k)))],4⟩) (fun q=>q<=B.length) (fun q=>B.length-q) 0 4 (Nat.zero_le _) ?_ ?_
  ·dsimp only [go_sem]
   simp only [List.take_zero,List.map_nil,List.append_nil]
   and_intros<;>first|trivial|rfl|omega
  rintro q hq R3 hm3
  refine HOk.run (by assumption) 100 _ _ ?_
  dsimp only [go_sem]
  refine ⟨fun g=>?_,fun g=>?_⟩
  ·have g:q<B.length:=by
     have g:(q:Int)<(B.length:Int):=of_decide_eq_true g
     omega
   have hbq:(0:Int)<=(q:Int)/\(q:Int)<(B.length:Int):=by omega
   have hzb:B.getD q (zd (.slice (.int .i64)))=B.getD q []:=rfl
   obtain ⟨hb1,hb2⟩:=hel _ (getDm (l:=B) [] g)
   have hq4:q<=400:=by omega
   have hiq:inR .i64 ((q:Int)+1):=by rw [inR_i64]; omega
   have hqm:B.length-(q+1)<B.length-q:=by omega
   have hsn:B.take (q+1)=B.take q++[B.getD q []]:=take_snoc [] g
   obtain ⟨b,hb⟩:∃ b,B.getD q []=b:=⟨_,rfl⟩
   rw [hb] at hb1 hb2 hsn
   refine HOk.loop (by assumption) (fun j:Nat=>⟨[(14,.dat (.int .i64) (j:Int)),(13,.own 6),(12,.ref 4 0),(11,.dat (.int .i64) (q:Int)),(10,.dat (.slice (.slice (.int .i64))) B),(7,.dat (.int .i64) (k:Int)),(6,.own 3),(5,.ref 1 0),(2,.ref 0 0),(0,.dat (.slice relT) l)],[(0,.box 34 (zA spT .nil)),(1,.box 34 (.cons (.own 2) .nil)),(2,.row 64 bkT (spQ l k++(B.take q).map (spB r))),(3,.row 65 (.slice refT) (rfQ l k++(B.take q).map (rfB k))),(4,.box 64 (.cons (.own 5) .nil)),(5,.row 48 fT (spB r (b.take j))),(6,.row 68 refT (rfB k (b.take j)))],7⟩) (fun j=>j<=b.length) (fun j=>b.length-j) 0 5 (Nat.zero_le _) ?_ ?_
   ·dsimp only [go_sem]
    and_intros<;>first|trivial|rfl|omega
   rintro j hj R4 hm4
   refine HOk.run (by assumption) 100 _ _ ?_
   dsimp only [go_sem]
   simp only [Int.toNat_natCast,hzr,hr,hzb,hb]
   refine ⟨hbq,fun f=>?_,fun f=>?_⟩
   ·have f:j<b.length:=by
      have f:(j:Int)<(b.length:Int):=of_decide_eq_true f
      omega
    have hbj:(0:Int)<=(j:Int)/\(j:Int)<(b.length:Int):=by omega
    have hij:inR .i64 ((j:Int)+1):=by rw [inR_i64]; omega
    have hjm:b.length-(j+1)<b.length-j:=by omega
    have hzi:b.getD j (zd (.int .i64))=b.getD j 0:=rfl
    have ht:=hb2 _ (getDm (l:=b) 0 f)
    have hs1:=spB_snoc r f
    have hs2:=rfB_snoc k f
    have hq:fs (r.2.getD (b.getD j 0).toNat tz).2<=1000:=(hP.2.2 _ (getDm (l:=r.2) tz (by omega))).2
    have hzt:∀ q,r.2.getD q (zd tupT)=r.2.getD q tz:=fun _=>rfl
    have hl1:(spB r (b.take j)).length=j:=by unfold spB; rw [List.length_map,List.length_take]; omega
    have hl2:(rfB k (b.take j)).length=j:=by unfold rfB; rw [List.length_map,List.length_take]; omega
    have q1:(List.length (spB r (b.take j))+1)*56<=140737488355328:=by rw [hl1]; omega
    have q2:(List.length (rfB k (b.take j))+1)*16<=140737488355328:=by rw [hl2]; omega
    simp only [hzi,hzt]
    refine ⟨hbi,hbq,hbj,ht,Nat.le_trans hq (by decide),q1,trivial,hbq,hbj,q2,trivial,hij,HOk.ren (by assumption) [(0,0),(1,1),(2,2),(3,3),(4,4),(5,7),(6,6)] 7 rfl rfl (Nat.zero_le _) rfl ?_⟩
    dsimp only [go_sem]
    refine hm4 _ (j+1) 7 f hjm ?_
    dsimp only [go_sem]
    rw [hs1,hs2]
    and_intros<;>first|trivial|rfl|omega
   ·have f:j=b.length:=by
      have f:¬(j:Int)<(b.length:Int):=of_decide_eq_false f
      omega
    subst f
    rw [List.take_length]
    have hS1:(B.take (q+1)).map (spB r)=(B.take q).map (spB r)++[spB r b]:=by rw [hsn,List.map_append]; rfl
    have hS2:(B.take (q+1)).map (rfB k)=(B.take q).map (rfB k)++[rfB k b]:=by rw [hsn,List.map_append]; rfl
    have hk1:(B.take q).length=q:=by rw [List.length_take]; omega
    have q1:=q24 (spQ l k) ((B.take q).map (spB r)) hS8.1 (by rw [List.length_map,hk1]; exact hq4)
    have q2:=q24 (rfQ l k) ((B.take q).map (rfB k)) hS8.2 (by rw [List.length_map,hk1]; exact hq4)
    refine ⟨q1,trivial,q2,trivial,hiq,hm3 _ (q+1) 4 g hqm ?_⟩
    dsimp only [go_sem]
    rw [hS1,hS2,<-List.append_assoc,<-List.append_assoc]
    and_intros<;>first|trivial|rfl|omega
  ·have g:q=B.length:=by
     have g:¬(q:Int)<(B.length:Int):=of_decide_eq_false g
     omega
   subst g
   rw [List.take_length]
   refine ⟨hii,hm _ (k+1) 4 ⟨d,hE1⟩ him ?_⟩
   dsimp only [go_sem]
   rw [hsq,hrq]
   and_intros<;>first|trivial|rfl|omega
 ·have d:i=l.length:=by
    have d:¬(i:Int)<(l.length:Int):=of_decide_eq_false d
    omega
  subst d
  have hv:frW l=(spQ l l.length,rfQ l l.length,0):=by rw [hfr,if_pos he]
  rw [hv]
  and_intros<;>first|trivial|rfl
end Go.Proofs.YtdobkkhncfifeacGreat.Gx
namespace Go.Proofs.YtdobkkhncfifeacGreat.Gx
open Go Go.RowKit Tw B Nt
set_option linter.unusedVariables false
set_option linter.unusedSimpArgs false
set_option maxHeartbeats 4000000
set_option maxRecDepth 20000
theorem st2_equal {P:Program} {T:TypeId} {f1 f2:Field} (hu:P.underlying T=some (.struct #[f1,f2])) (hs:P.stoodInHeld T=false) (n1:f1.name ≠ "_") (n2:f2.name ≠ "_") (o1:f1.offset=0) (o2:f2.offset=1)
    {a1 a2 b1 b2:Value} {r1 r2:Bool} {w:World} {d:Nat}
    (p1:∀ (xs:Array Value) (i:Nat) (v:Value),xs[i]?=some v->(part f1.type xs i).run P w=.ok v w) (p2:∀ (xs:Array Value) (i:Nat) (v:Value),xs[i]?=some v->(part f2.type xs i).run P w=.ok v w)
    (e1:(Op.equalIn d f1.type a1 b1).run P w=.ok r1 w) (e2:(Op.equalIn d f2.type a2 b2).run P w=.ok r2 w) :
    (Op.equalIn (d+1) T (.agg #[a1,a2]) (.agg #[b1,b2])).run P w=.ok (r1&&r2) w:=by
 rw [Op.equalIn]
 simp only [run_underlying hu,Sem.run_bind]
 cases r1<;>cases r2<;>simp [hs,n1,n2,o1,o2,p1,p2,e1,e2,Sem.program]
theorem refEq:eqOk Tryz.prog 68 refT:=by
 refine ⟨by kernel_rfl,fun X w cs cs' x y h h'=>?_⟩
 have key:∀ {cs:List Value} {x:refT.den},rep refT X w cs x->cs=[.int .i64 x.1,.int .i64 x.2]:=by
  intro cs x h
  obtain ⟨⟨h1,_⟩,⟨h2,_⟩⟩:=h
  have h1:cs.take 1=_:=h1
  have h2:cs.drop 1=_:=h2
  rw [<-List.take_append_drop 1 cs,h1,h2]; rfl
 rw [key h,key h']
 have hi:Tryz.prog.underlying 3=some (.int .i64):=by kernel_rfl
 have:=st2_equal (P:=Tryz.prog) (T:=68) (w:=w) (d:=9999) rfl (by kernel_rfl) (by decide) (by decide) rfl rfl (part_plain hi (.inr (.inr ⟨_,rfl⟩))) (part_plain hi (.inr (.inr ⟨_,rfl⟩))) (eq_int hi 9998 x.1 y.1) (eq_int hi 9998 x.2 y.2)
 exact this
@[go_sem] def srfS:Spec:=⟨[.slice (.slice refT),.slice (.slice refT)],fun d=>(.dat .bool true,[d.1=d.2.1])⟩
theorem srf_ok:SpecOk Tryz.prog 9 srfS:=by
 refine fn_ok EXR_ok srfS Tryz.func9 rfl (by decide) (N:=53) rfl (res:=[.tmp 4]) rfl (by decide) [] [] [] 100 (by kernel_rfl) ?_
 rintro ⟨a,b,_⟩ hw hp
 refine ⟨rfl,fun H hH=>?_⟩
 dsimp only [go_sem] at hw hp ⊢
 obtain ⟨hp,-⟩:=hp
 change a=b at hp
 subst hp
 obtain ⟨⟨hl,hl2⟩,-⟩:=hw
 change List (List Rf) at a
 change a.length<=9223372036854775807 at hl
 have hl2:∀ x∈a,x.length<=9223372036854775807:=fun x hx=>(hl2 x hx).1
 have hre:=refEq
 refine ⟨fun e=>?_,fun e=>?_⟩
 ·simp at e
 refine hH.loop (fun i:Nat=>⟨[(5,.dat (.int .i64) (i:Int)),(0,.dat (.slice (.slice refT)) a),(1,.dat (.slice (.slice refT)) a)],[],0⟩) (fun i=>i<=a.length) (fun i=>a.length-i) 0 0 (Nat.zero_le _) ?_ ?_
 ·dsimp only [go_sem]
  and_intros<;>first|trivial|rfl|omega
 rintro i hi R hm
 refine hH.run 100 _ _ ?_
 dsimp only [go_sem]
 simp only [Int.toNat_natCast]
 refine ⟨fun d=>?_,fun d=>?_⟩<;>simp only [decide_eq_true_eq,decide_eq_false_iff_not] at d
 ·have d:i<a.length:=by omega
  have hb:(0:Int)<=(i:Int)/\(i:Int)<(a.length:Int):=by omega
  have hz:a.getD i (zd (.slice refT))=a.getD i []:=rfl
  have hxl:=hl2 _ (getDm (l:=a) [] d)
  refine ⟨hb,hb,fun e=>?_,fun e=>?_⟩
  ·simp at e
  refine HOk.loop (by assumption) (fun k:Nat=>⟨[(6,.dat (.int .i64) (k:Int)),(5,.dat (.int .i64) (i:Int)),(0,.dat (.slice (.slice refT)) a),(1,.dat (.slice (.slice refT)) a)],[],0⟩) (fun k=>k<=(a.getD i []).length) (fun k=>(a.getD i []).length-k) 0 0 (Nat.zero_le _) ?_ ?_
  ·dsimp only [go_sem]
   and_intros<;>first|trivial|rfl|omega
  rintro k hk R2 hm2
  refine HOk.run (by assumption) 100 _ _ ?_
  dsimp only [go_sem]
  simp only [Int.toNat_natCast]
  have heq:∀ x:Rf,eqB (.pair (.int .i64) (.int .i64)) x x=true:=fun x=>by simp [eqB]
  refine ⟨hb,fun f=>?_,fun f=>?_⟩
  ·have f:k<(a.getD i []).length:=by
     have f:(k:Int)<((a.getD i []).length:Int):=of_decide_eq_true f
     omega
   have hbk:(0:Int)<=(k:Int)/\(k:Int)<((a.getD i []).length:Int):=by omega
   refine ⟨hb,hbk,hb,hbk,hre,fun g=>?_,fun g=>⟨by rw [inR_i64]; omega,hm2 _ (k+1) 0 f (by omega) ?_⟩⟩
   ·rw [heq] at g
    cases g
   ·dsimp only [go_sem]
    and_intros<;>first|trivial|rfl|omega
  ·refine ⟨by rw [inR_i64]; omega,hm _ (i+1) 0 d (by omega) ?_⟩
   dsimp only [go_sem]
   and_intros<;>first|trivial|rfl|omega
 ·and_intros<;>first|trivial|rfl
end Go.Proofs.YtdobkkhncfifeacGreat.Gx
namespace Go.Proofs.YtdobkkhncfifeacGreat.Gx
open Go Go.RowKit Tw B Nt
set_option linter.unusedVariables false
set_option linter.unusedSimpArgs false
set_option maxHeartbeats 4000000
set_option maxRecDepth 20000
@[go_sem] def relsM:MSpec:=⟨[.d (.slice (.int .i64))],fun d=>⟨[(0,.row 30 relT (relsL d.1))],1,.own 0,[]⟩⟩
theorem relsM_ok:MSpecOk Tryz.prog 4 relsM:=by
 refine fnM_ok ERP_ok relsM Tryz.func4 rfl (by decide) (N:=95) rfl (res:=[.tmp 2]) rfl (by decide) [(6,[(24,.ag)]),(11,[(52,.ag)]),(17,[(76,.dt),(1000000,.mx [])]),(22,[(92,.dt)])] [(19,[3])] [14] 100 (by kernel_rfl) ?_
 rintro ⟨l,_⟩ hw hp H hH
 dsimp only [go_sem] at hw hp ⊢
 clear hw
 refine hH.loop (fun i:Nat=>⟨[(5,.dat (.int .i64) (i:Int)),(4,.dat (.slice schT) schs),(3,.own 0),(0,.dat (.slice (.int .i64)) l)],[(0,.row 30 relT (relQ l i))],1⟩) (fun i=>i<=4) (fun i=>4-i) 0 0 (Nat.zero_le _) ?_ ?_
 ·dsimp only [go_sem]
  and_intros<;>first|trivial|rfl|omega
 ·rintro i hi R hm
  refine hH.run 100 _ _ ?_
  dsimp only [go_sem]
  have hl4:schs.length=4:=rfl
  have hzs:∀ k,schs.getD k (zd (Ty.str.pair (Ty.bool.pair (Ty.str.pair ((Ty.int IntKind.i64).pair Ty.bool)).slice)))=schI k:=fun _=>rfl
  simp only [hzs,Int.toNat_natCast]
  refine ⟨fun d=>?_,fun d=>?_⟩
  ·have d:i<4:=by
     have d:(i:Int)<(schs.length:Int):=of_decide_eq_true d
     omega
   have hbi:(0:Int)<=(i:Int)/\(i:Int)<(schs.length:Int):=by omega
   have hsl:=(schI_ok d).2
   refine ⟨hbi,?_⟩
   refine HOk.loop (by assumption) (fun j:Nat=>⟨[(7,.dat (.int .i64) (j:Int)),(6,.ref 1 0),(5,.dat (.int .i64) (i:Int)),(4,.dat (.slice schT) schs),(3,.own 0),(0,.dat (.slice (.int .i64)) l)],[(0,.row 30 relT (relQ l i)),(1,.box 30 (relA (relN l i j)))],2⟩) (fun j=>j<=cntR l i) (fun j=>cntR l i-j) 0 2 (Nat.zero_le _) ?_ ?_
   ·dsimp only [go_sem,relA]
    and_intros<;>first|trivial|rfl|omega
   ·rintro j hj R2 hm2
    dsimp only [relA]
    refine HOk.run (by assumption) 100 _ _ ?_
    dsimp only [go_sem]
    have hj3:=cntR_le l i
    have b0:0<=bat l (i:Int):=bat_nn l (by omega)
    have b1:bat l (i:Int)<=65535+(i:Int):=bat_le l (by omega)
    rw [Int.tmod_eq_emod_of_nonneg b0]
    simp only [imp_self,true_and,imp4,and_true,hzs,Int.toNat_natCast]
    have hc:(decide ((j:Int)<bat l (i:Int) % 4)&&!(decide ((i:Int)=1)&&decide ((j:Int)=2)))=decide (j<cntR l i):=by
     rw [Bool.eq_iff_iff]
     simp only [Bool.and_eq_true,Bool.not_eq_true',Bool.and_eq_false_iff,decide_eq_true_eq,decide_eq_false_iff_not]
     unfold cntR at hj ⊢
     split at hj<;>rename_i e
     ·subst e
      rw [if_pos rfl]
      have:bat l ((1:Nat):Int)=bat l 1:=rfl
      rw [this] at b0 b1 ⊢
      omega
     ·rw [if_neg e]
      omega
    rw [hc]
    have hx:bat l (4+3*(i:Int)+(j:Int))=opR l i j:=rfl
    have x0:0<=opR l i j:=bat_nn l (by omega)
    have x1:opR l i j<=65535+(4+3*(i:Int)+(j:Int)):=bat_le l (by omega)
    simp only [hx]
    obtain ⟨s,hs⟩:∃ s,schI i=s:=⟨_,rfl⟩
    have hpr:(tupR l i j).2=qf (if s.2.1=true then 1 else bpr (shrI .i64 (opR l i j) 4)):=by rw [<-hs]; rfl
    have hst:∀ q,(schI q).2.1=(schI q).2.1:=fun _=>rfl
    simp only [hs]
    rw [hs] at hsl
    refine ⟨(show (0:Int)<=(i:Int)/\(i:Int)<=1000000 by omega),by decide,by rw [inR_i64]; omega,fun d2=>?_,fun d2=>?_⟩
    ·have d2:j<cntR l i:=of_decide_eq_true d2
     refine ⟨by rw [inR_i64]; omega,by rw [inR_i64]; omega,by rw [inR_i64]; omega,(show (0:Int)<=4+3*(i:Int)+(j:Int)/\4+3*(i:Int)+(j:Int)<=1000000 by omega),by decide,hbi,?_⟩
     apply both3 (H:=H) (inv:=fun _:Unit=>⟨[(9,.ref 2 0),(8,.dat (.int .i64) (opR l i j)),(7,.dat (.int .i64) (j:Int)),(6,.ref 1 0),(5,.dat (.int .i64) (i:Int)),(4,.dat (.slice schT) schs),(3,.own 0),(0,.dat (.slice (.int .i64)) l)],[(0,.row 30 relT (relQ l i)),(1,.box 30 (relA (relN l i j))),(2,.box 53 (.cons (.val (.slice none 0 0)) (.cons (.dat .bool (tupR l i j).2.1) (.cons (.dat (.slice (.int .u32)) (tupR l i j).2.2.1) (.cons (.dat (.slice (.int .u32)) (tupR l i j).2.2.2) .nil)))))],3⟩) (Q:=fun _=>True)
     ·intro key
      refine ⟨fun e=>HOk.weak (by assumption) _ 3 ?_ (key () trivial),fun e=>HOk.weak (by assumption) _ 3 ?_ (key () trivial)⟩
      ·have hpr:(tupR l i j).2=qf 1:=by rw [hpr,if_pos e]
       rw [hpr]
       dsimp only [go_sem,relA]
       and_intros<;>first|trivial|rfl|omega
      ·have hpr:(tupR l i j).2=qf (bpr (shrI .i64 (opR l i j) 4)):=by rw [hpr,if_neg (by rw [e]; exact Bool.false_ne_true)]
       rw [hpr]
       dsimp only [go_sem,relA]
       and_intros<;>first|trivial|rfl|omega
     ·rintro ⟨⟩ -
      refine HOk.go (by assumption) [] 100 _ _ ?_
      dsimp only [go_sem]
      refine HOk.loop (by assumption) (fun q:Nat=>⟨[(10,.dat (.int .i64) (q:Int)),(9,.ref 2 0),(8,.dat (.int .i64) (opR l i j / 3 ^ q)),(7,.dat (.int .i64) (j:Int)),(6,.ref 1 0),(5,.dat (.int .i64) (i:Int)),(4,.dat (.slice schT) schs),(3,.own 0),(0,.dat (.slice (.int .i64)) l)],[(0,.row 30 relT (relQ l i)),(1,.box 30 (relA (relN l i j))),(2,.box 53 (.cons (.own 3) (.cons (.dat .bool (tupR l i j).2.1) (.cons (.dat (.slice (.int .u32)) (tupR l i j).2.2.1) (.cons (.dat (.slice (.int .u32)) (tupR l i j).2.2.2) .nil))))),(3,.row 55 valT (valsR (opR l i j) q))],4⟩) (fun q=>q<=s.2.2.length) (fun q=>s.2.2.length-q) 0 3 (Nat.zero_le _) ?_ ?_
      ·dsimp only [go_sem]
       and_intros<;>first|trivial|rfl|omega|simp
      ·rintro q hq R3 hm3
       dsimp only [relA]
       refine HOk.go (by assumption) [] 100 _ _ ?_
       dsimp only [go_sem]
       simp only [hzs,Int.toNat_natCast,hs]
       have y0:0<=opR l i j / 3 ^ q:=Int.ediv_nonneg x0 (Int.pow_nonneg (by decide))
       have y1:opR l i j / 3 ^ q<=opR l i j:=Int.ediv_le_self _ x0
       have y2:=Int.emod_nonneg (opR l i j / 3 ^ q) (show (3:Int)≠0 by decide)
       have y3:=Int.emod_lt_of_pos (opR l i j / 3 ^ q) (show (0:Int)<3 by decide)
       rw [Int.tmod_eq_emod_of_nonneg y0,Int.tdiv_eq_ediv_of_nonneg y0,div3]
       have hvl:=valsR_len (opR l i j) q
       have hvs:valsR (opR l i j) (q+1)=valsR (opR l i j) q++[vInt (1+opR l i j / 3 ^ q % 3)]:=rfl
       have y4:0<=opR l i j / 3 ^ (q+1):=Int.ediv_nonneg x0 (Int.pow_nonneg (by decide))
       have y5:opR l i j / 3 ^ (q+1)<=opR l i j:=Int.ediv_le_self _ x0
       refine ⟨hbi,fun e=>?_,fun e=>?_⟩
       ·have e:q<s.2.2.length:=by
          have e:(q:Int)<(List.length s.2.2:Int):=of_decide_eq_true e
          omega
        refine ⟨by decide,by rw [inR_i64]; omega,by rw [inR_i64]; omega,?_,trivial,by decide,by rw [inR_i64]; omega,by rw [inR_i64]; omega,HOk.ren (by assumption) [(0,0),(1,1),(2,2),(3,4)] 4 rfl rfl (Nat.zero_le _) rfl ?_⟩
        ·rw [hvl]
         show (q+1)*32<=_
         omega
        ·dsimp only [go_sem]
         refine hm3 _ (q+1) 4 e (by omega) ?_
         dsimp only [go_sem]
         rw [hvs]
         and_intros<;>first|trivial|rfl|omega
       ·have e:q=s.2.2.length:=by
          have e:¬(q:Int)<(List.length s.2.2:Int):=of_decide_eq_false e
          omega
        have ht:((valsR (opR l i j) q,(tupR l i j).2):Tup)=tupR l i j:=by
         rw [e,<-hs]; rfl
        have htk:=tupR_ok l d j
        have hrs:relN l i (j+1)=if insE (relN l i j) (tupR l i j)=0 then insR (relN l i j) (tupR l i j) else relN l i j:=rfl
        rw [ht]
        refine ⟨relN_P l d (by omega),by rw [hvl]; omega,fun f=>?_,fun f=>?_⟩
        ·rw [if_pos (of_decide_eq_true f)] at hrs
         refine ⟨by rw [inR_i64]; omega,hm2 _ (j+1) 2 d2 (by omega) ?_⟩
         dsimp only [go_sem,relA]
         rw [hrs]
         and_intros<;>first|trivial|rfl|omega
        ·rw [if_neg (of_decide_eq_false f)] at hrs
         refine ⟨by rw [inR_i64]; omega,hm2 _ (j+1) 2 d2 (by omega) ?_⟩
         dsimp only [go_sem,relA]
         rw [hrs]
         and_intros<;>first|trivial|rfl|omega
    ·have d2:j=cntR l i:=by
       have d2:¬j<cntR l i:=of_decide_eq_false d2
       omega
     refine ⟨?_,by rw [inR_i64]; omega,hm _ (i+1) 1 d (by omega) ?_⟩
     ·rw [relQ_len]
      show (i+1)*72<=_
      omega
     ·dsimp only [go_sem]
      rw [relQ_snoc,<-d2]
      and_intros<;>first|trivial|rfl|omega
  ·have d:i=4:=by
     have d:¬(i:Int)<(schs.length:Int):=of_decide_eq_false d
     omega
   subst d
   and_intros<;>first|trivial|rfl
end Go.Proofs.YtdobkkhncfifeacGreat.Gx
namespace Go.Proofs.YtdobkkhncfifeacGreat.Gx
open Go Go.RowKit Tw
set_option linter.unusedVariables false
set_option linter.unusedSimpArgs false
set_option maxHeartbeats 4000000
set_option maxRecDepth 20000
section
variable {E:Env} {w0 w1 w2:World} {X0 X1:Nat->Prop} {Bo:List Value} {N:Nat} {st st':St} {ρ:List Value} {a:Act} {w w':World} {Q:Exit->Act->World->Prop} {P:Program} {ps:List Prop}
theorem Fr.base (h:Fr w0 X0 Bo N st ρ a w) (hX0:∀ b,X0 b->b<w0.heap.size) (hb:Below w.heap.size w w2) (hX:∀ b,X1 b->X0 b∨w.heap.size<=b):Fr w2 X1 (mkB ρ st.ck) N st ρ a w2:=by
 have hXX:∀ b,XX X1 ρ st.ck b->XX X0 ρ st.ck b∨w.heap.size<=b:=by
  rintro b (hb|hb)
  ·rcases hX b hb with h'|h'
   ·exact .inl (.inl h')
   ·exact .inr h'
  ·exact .inl (.inr hb)
 refine ⟨h.dn,h.sz,Kept.refl w2,h.nx,h.nd,h.kn,fun x hx b hc=>⟨Nat.lt_of_lt_of_le (h.bl x hx b hc).1 hb.size,.inr (mk_mem hx hc)⟩,h.dj,fun x hx=>?_,fun t x hx=>?_,⟨fun b hc=>?_,?_,fun x hx T l e hl=>(mk_in hx).symm⟩⟩
 ·exact cm_tr (h.cs x hx) hXX (Ev.of_below hb) fun b e=>hb.block b (h.bl x hx b e).1
 ·exact m_st (Ev.of_below hb) (m_anti hXX (h.sl t x hx))
 ·obtain ⟨x,hx,e⟩:=mk_blk hc
  have hl:=h.bl x hx b e
  refine ⟨Nat.lt_of_lt_of_le hl.1 hb.size,fun h1=>?_⟩
  rcases hX b h1 with h'|h'
  ·rcases hl.2 with h3|h3
   ·exact absurd (hX0 b h') (by omega)
   ·exact (h.pn.bo b h3).2 h'
  ·omega
 ·rw [mk_len]; exact Nat.le_of_eq h.nx
theorem run_h {S:Sx} (hnb:S.nb=Bo.length) (hE:S.E.Ok) (hX0:∀ b,X0 b->b<w0.heap.size) (hfin:∀ st ρ a w,finP S st->Fr w0 X0 Bo S.N st ρ a w->Q .ret a w/\Q .normal a w) {k:List It} {st:St}
    (h:∀ H,HOk S H->(∀ k st,(okK S.an S.N k=true->∀ ρ a w,Fr w0 X0 Bo S.N st ρ a w->sem S.E.P Q k .normal a w)->H k st)->H k st):okK S.an S.N k=true->∀ ρ a w,Fr w0 X0 Bo S.N st ρ a w->sem S.E.P Q k .normal a w :=
 h (Hs S.an S.E w0 X0 Bo S.N Q) (hs_ok hnb hE hX0 hfin) fun _ _ h=>h
theorem Fr.slots {sl sl':List (Nat×AV)} {ck:List (Nat×CT)} {nx:Nat} (h:Fr w0 X0 Bo N ⟨sl,ck,nx⟩ ρ a w) (hs:∀ t x,get? sl' t=some x->get? sl t=some x):Fr w0 X0 Bo N ⟨sl',ck,nx⟩ ρ a w :=
 ⟨h.dn,h.sz,h.kp,h.nx,h.nd,h.kn,h.bl,h.dj,h.cs,fun t x hx=>h.sl t x (hs t x hx),h.pn⟩
end
end Go.Proofs.YtdobkkhncfifeacGreat.Gx
namespace Go.Proofs.YtdobkkhncfifeacGreat.Gx
open Go Go.RowKit Tw B Nt
set_option linter.unusedVariables false
set_option linter.unusedSimpArgs false
set_option maxHeartbeats 4000000
set_option maxRecDepth 20000
section
variable {w0 w w':World} {X0:Nat->Prop} {N:Nat} {st:St} {ρ:List Value} {a:Act} {P:Program} {ops:Array Oper} {o:Oper} {rest:List Oper} {x y:Operand} {Q:Exit->Act->World->Prop}
theorem run_append_keep {T ty e:TypeId} {te:TE} {B g n cp m cap:Nat} {ad:Addr} {xs news:List Value} (hu:P.underlying T=some (.slice e)) (hf:TyFact P e te) (hB:B<=w.heap.size) (hpos:0<te.ty.size)
    (ho:w.ownsRow B e te.ty.size (.slice (some ⟨g,0,none⟩) n cp) n xs) (hl:news.length=m*te.ty.size) (h1:∀ c∈news,c.oneCell'=true)
    (hc:∀ (j:Nat) (c:Value),news[j]?=some c->w.cell? (ad.add j)=some c) (hn:n+m<=maxLen) (hby:(n+m)*te.bytes<=140737488355328) :
    ∃ v' w',(Builtin.append_ #[T,T] ty #[.slice (some ⟨g,0,none⟩) n cp,.slice (some ad) m cap]).run P w=.ok v' w'/\w'.ownsRow B e te.ty.size v' (n+m) (xs++news)/\w.grownBy w' (some g) /\
     (blk v'=some g∨((∀ b,blk v'=some b->w.heap.size<=b)/\∀ b,b<w.heap.size->w'.heap[b]?=w.heap[b]?)):=by
 obtain ⟨i,hi,hz,hs,hb⟩:=hf.info
 obtain ⟨v',w',q1,q2,q3,q4⟩:=run_append_own (P:=P) w B T ty e i _ te.ty.size te.bytes hu hi hz hs hb (by rw [wrap_cells (zc_len _) (zc_one _)]; simp [zc_len]) hpos _ n xs ho ad m cap news hl hc h1 hn hby hB
 refine ⟨v',w',q1,q2,q3,?_⟩
 rcases ho.2 with ⟨h,_⟩|⟨g',cp',cur,h,_,hg,hnc,hcm,hcs,_⟩
 ·cases h
 ·cases h
  by_cases hroom:n+m<=cp
  ·have hr:=run_append_room (P:=P) w T ty e i hu hi g n cp cur hg ad m cap news (by rw [hs]; exact hl) hc h1 hroom (by rw [hs,hl,hcs,<-Nat.add_mul]; exact Nat.mul_le_mul_right _ hroom)
   rw [hr] at q1
   cases q1
   exact .inl rfl
  ·have holds:∀ (j:Nat) (u:Value),xs[j]?=some u->w.cell? ((⟨g,0,none⟩:Addr).add j)=some u:=ho.cells (g:=g) rfl
   have hr:=run_append_grow (P:=P) w T ty e i _ hu hi hz ⟨g,0,none⟩ n cp xs (by rw [hs]; exact ho.1) holds ad m cap news (by rw [hs]; exact hl) hc (by omega) (by simp only [maxLen] at hn; omega) (growslice_fits (by omega) (by rw [hb]; exact hby))
   rw [hr] at q1
   cases q1
   refine .inr ⟨fun b hb=>?_,fun b hb=>?_⟩
   ·cases hb; exact Nat.le_refl _
   ·exact ((Below.refl w.heap.size w).drew.alloc (Nat.le_refl _) _).block b hb
theorem own_uniq {B B':Nat} {T:TypeId} {s n:Nat} {v:Value} {xs ys:List Value} (h:w.ownsRow B T s v n xs) (k:w.ownsRow B' T s v n ys):xs=ys:=by
 rcases h.2 with ⟨e,hn⟩|⟨g,cap,cur,e,_,h1,_,_,_,h2⟩
 ·have a1:=h.1
  have a2:=k.1
  rw [hn,Nat.zero_mul] at a1 a2
  rw [List.eq_nil_of_length_eq_zero a1,List.eq_nil_of_length_eq_zero a2]
 ·rcases k.2 with ⟨e',hn⟩|⟨g',cap',cur',e',_,k1,_,_,_,k2⟩
  ·rw [e] at e'; cases e'
  ·rw [e] at e'
   cases e'
   rw [h1] at k1
   cases k1
   rw [<-h2,<-k2]
theorem addr_j (g j:Nat):(⟨g,0,none⟩:Addr).add j=⟨g,j,none⟩:=by rw [Addr.add_lit,Nat.zero_add]
theorem self_step {T ty e:TypeId} {te:TE} {u:Ty} (hu:P.underlying T=some (.slice e)) (hft:TyFact P e te) (hty:te.ty=u) (hf:Fr w0 X0 [] N st ρ a w) {M L M':List u.den} (hg:get? st.ck 0=some (.row e u M)) {v:Value} (hv:ρ[0]?=some v)
    {xs zs:List Value} (ho:w.ownsRow 0 e u.size v M.length (xs++zs)) (hM:M=L++M') (hxl:xs.length=L.length*u.size) {g cap:Nat} (hcell:∀ (j:Nat) (c:Value),xs[j]?=some c->w.cell? ⟨g,j,none⟩=some c) (hgw:g<w.heap.size)
    (hform:∃ g1 n c,v=.slice (some ⟨g1,0,none⟩) n c) (h1:∀ c∈xs,c.oneCell'=true) (hL:0<L.length) (hn:M.length+L.length<=maxLen) (hby:(M.length+L.length)*te.bytes<=140737488355328) :
    ∃ v' w' ρ',(Builtin.append_ #[T,T] ty #[v,.slice (some ⟨g,0,none⟩) L.length cap]).run P w=.ok v' w'/\Fr w0 X0 [] N ⟨staleS 0 st.sl,set1 (staleC 0 st.ck) 0 (.row e u (M++L)),st.nx⟩ ρ' a w'/\ρ'[0]?=some v' /\
     w'.ownsRow 0 e u.size v' (M++L).length (xs++(zs++xs))/\(∀ (j:Nat) (c:Value),xs[j]?=some c->w'.cell? ⟨g,j,none⟩=some c)/\g<w'.heap.size/\∃ g1 n c,v'=.slice (some ⟨g1,0,none⟩) n c:=by
 subst hty
 obtain ⟨v2,ys,hv2,ho2,hone,hr⟩:=hf.cs _ (get?_mem hg)
 have hv2:ρ[0]?=some v2:=hv2
 rw [hv] at hv2
 cases hv2
 have hys:=own_uniq ho2 ho
 subst hys
 obtain ⟨g1,n1,c1,rfl⟩:=hform
 have hn1:n1=M.length:=by
  rcases ho.2 with ⟨h,_⟩|⟨_,_,_,h,_⟩
  ·cases h
  ·cases h; rfl
 subst hn1
 obtain ⟨v',w',q1,q2,q3,q4⟩:=run_append_keep (ty:=ty) (cap:=cap) (ad:=⟨g,0,none⟩) hu hft (Nat.zero_le _) (size_pos _) ho hxl h1 (fun j c hj=>by rw [addr_j]; exact hcell j c hj) hn hby
 have hob:blkO ρ 0=some g1:=by rw [blkO_of hv]; rfl
 have hvb:∀ b,blk v'=some b->b<w'.heap.size/\(inC ρ 0 b∨w.heap.size<=b):=by
  intro b hb
  have hbl:b<w'.heap.size:=by
   rcases q2.2 with ⟨rfl,_⟩|⟨g,cap,cur,rfl,_,hh,_⟩
   ·cases hb
   ·cases hb; exact heap_lt hh
  refine ⟨hbl,?_⟩
  rcases q4 with q4|⟨q4,_⟩
  ·rw [q4] at hb; cases hb; exact .inl (inC_blk hv rfl)
  ·exact .inr (q4 b hb)
 have hrL:∀ (i:Nat) (x:te.ty.den),L[i]?=some x->rep te.ty (XX X0 ρ st.ck) w ((xs.drop (i*te.ty.size)).take te.ty.size) x:=by
  intro i x hi
  have hlt:i<L.length:=by
   rcases Nat.lt_or_ge i L.length with h|h
   ·exact h
   ·rw [List.getElem?_eq_none h] at hi; cases hi
  have hle:i*te.ty.size+te.ty.size<=L.length*te.ty.size:=by rw [<-Nat.succ_mul]; exact Nat.mul_le_mul_right _ hlt
  have:=hr i x (by rw [hM,List.getElem?_append_left hlt]; exact hi)
  rwa [List.drop_append_of_le_length (by omega),List.take_append_of_le_length (by rw [List.length_drop]; omega)] at this
 obtain ⟨r1,r2⟩:=hf.reset (l':=M++L) hg (by rw [hob]; exact q3) hvb (by rw [List.length_append]; exact q2) (fun c hc=>by
  rcases List.mem_append.1 hc with hc|hc
  ·exact hone c hc
  ·exact h1 c hc) (drop_app ho.1 hr hrL)
 rw [List.append_assoc] at q2
 refine ⟨v',w',_,q1,r1,r2,by rw [List.length_append]; exact q2,fun j c hj=>?_,Nat.lt_of_lt_of_le hgw q3.size,?_⟩
 ·rcases q4 with q4|⟨_,q4⟩
  ·by_cases he:g1=g
   ·subst he
    have hv':∃ n c,v'=.slice (some ⟨g1,0,none⟩) n c:=by
     rcases q2.2 with ⟨rfl,_⟩|⟨g,cap,cur,rfl,_⟩
     ·cases q4
     ·cases q4; exact ⟨_,_,rfl⟩
    obtain ⟨n,c',rfl⟩:=hv'
    have hjl:j<xs.length:=by
     rcases Nat.lt_or_ge j xs.length with h|h
     ·exact h
     ·rw [List.getElem?_eq_none h] at hj; cases hj
    have:=q2.cells (g:=g1) rfl j c (by rw [List.getElem?_append_left hjl]; exact hj)
    rwa [addr_j] at this
   ·rw [World.cell?_of_block (w:=w) (w':=w') (q3.block g hgw (by intro h; cases h; exact he rfl))]
    exact hcell j c hj
  ·rw [World.cell?_of_block (w:=w) (w':=w') (q4 g hgw)]
   exact hcell j c hj
 ·rcases q2.2 with ⟨_,h0⟩|⟨g,cap,cur,rfl,_⟩
  ·omega
  ·exact ⟨_,_,_,rfl⟩
theorem wpList_app {T:TypeId} (hg:o.guard=none) (ho:o.op=.call { callee:=.builtin .append,args:=#[x,y],argTypes:=#[T,T] }) {v u v':Value} (hx:a.eval x=v) (hy:a.eval y=u) (hr:(Builtin.append_ #[T,T] o.type #[v,u]).run P w=.ok v' w') (hK:wpList P ops Q rest (a.put o.dst v') w'):wpList P ops Q (o::rest) a w:=by
 refine wpList_plain hg fun K hK'=>?_
 unfold Oper.wp
 simp [execOp,ho,resolve,invoke,builtin,hx,hy,hr,Result.andThen]
 exact hK' _ _ hK
theorem wpList_assign (hg:o.guard=none) (ho:o.op=.assign x) (hK:wpList P ops Q rest (a.put o.dst (a.eval x)) w):wpList P ops Q (o::rest) a w:=by
 refine wpList_plain hg fun K hK'=>?_
 unfold Oper.wp
 simp [execOp,ho,Result.andThen]
 exact hK' _ _ hK
theorem Fr.know (h:Fr w0 X0 [] N st ρ a w) {t:Nat} {x:AV} (hx:m ρ (XX X0 ρ st.ck) w x [gt a t]):Fr w0 X0 [] N ⟨(t,x)::st.sl,st.ck,st.nx⟩ ρ a w :=
 ⟨h.dn,h.sz,h.kp,h.nx,h.nd,h.kn,h.bl,h.dj,h.cs,fun t' y hy=>by
  unfold get? at hy
  split at hy
  ·rename_i e
   have e:=Nat.eq_of_beq_eq_true e
   subst e
   cases hy
   exact hx
  ·exact h.sl t' y hy,h.pn⟩
theorem form_one {v:Value} (h:∃ g1 n c,v=.slice (some ⟨g1,0,none⟩) n c):v.oneCell'=true:=by
 obtain ⟨_,_,_,rfl⟩:=h; rfl
theorem wpList_move (hg:o.guard=none) (ho:o.op=.move x) (hK:wpList P ops Q rest (a.put o.dst (a.eval x)) w):wpList P ops Q (o::rest) a w:=by
 refine wpList_plain hg fun K hK'=>?_
 unfold Oper.wp
 simp [execOp,ho,Result.andThen]
 exact hK' _ _ hK
end
end Go.Proofs.YtdobkkhncfifeacGreat.Gx
namespace Go.Proofs.YtdobkkhncfifeacGreat.Gx
open Go Go.RowKit Tw B Nt
set_option linter.unusedVariables false
set_option linter.unusedSimpArgs false
set_option maxHeartbeats 40000000
set_option maxRecDepth 100000
@[go_sem] noncomputable def EXS:Env:=((((EXR).add 6 ifrS).add 7 rfrS).add 9 srfS).addM 4 relsM
theorem EXS_ok:EXS.Ok:=((((EXR_ok).add ifr_ok).add rfr_ok).add srf_ok).addM relsM_ok
@[go_sem] def lReS:Spec:=⟨[.slice (.int .i64),.int .u8],fun d=>(.dat .bool true,[])⟩
theorem lRe_ok:SpecOk Tryz.prog 3 lReS:=by
 refine fn_ok EXS_ok lReS Tryz.func3 rfl (by decide) (N:=80) rfl (res:=[.tmp 4]) rfl (by decide) [(1,[(13,.ow)]),(4,[(25,.dt)])] [(10,[0]),(11,[0])] [8] 100 (by kernel_rfl) ?_
 rintro ⟨l,(n:Int),_⟩ hw hp
 refine ⟨rfl,fun H hH=>?_⟩
 dsimp only [go_sem] at hw hp ⊢
 change List Int at l
 clear hp
 have hL4:=relsL_len l
 have hLP:∀ r∈relsL l,relP r:=fun r hr=>by
  unfold relsL at hr
  obtain ⟨i,hi,rfl⟩:=List.mem_map.1 hr
  exact relN_P l (List.mem_range.1 hi) (cntR_le l i)
 have b0:0<=bat l 1:=bat_nn l (by decide)
 have b1:bat l 1<=65535+1:=bat_le l (by decide)
 simp only [Int.tmod_eq_emod_of_nonneg b0]
 generalize relsL l=L at hL4 hLP ⊢
 have hzr:∀ k,L.getD k (zd relT)=L.getD k rz:=fun _=>rfl
 simp only [hzr,imp_self,true_and,and_true,decide_true,Bool.and_self]
 have c1:(0:Int)<=bat l 1 % 4/\bat l 1 % 4<(L.length:Int):=by omega
 have c2:(bat l 1 % 4).toNat<L.length:=by omega
 have r4:inR .i64 (bat l 1 % 4):=by rw [inR_i64]; omega
 have hx:L.getD (bat l 1 % 4).toNat rz∈L:=getDm _ c2
 have hA:∀ r∈L++[L.getD (bat l 1 % 4).toNat rz],relP r:=fun r hr=>by
  rcases List.mem_append.1 hr with hr|hr
  ·exact hLP r hr
  ·rw [List.mem_singleton.1 hr]; exact hLP _ hx
 have hB:∀ r∈L.set (bat l 1 % 4).toNat ((([],(L.getD (bat l 1 % 4).toNat rz).1.2),(L.getD (bat l 1 % 4).toNat rz).2):Rel),relP r:=fun r hr=>by
  rcases List.mem_or_eq_of_mem_set hr with hr|rfl
  ·exact hLP r hr
  ·exact ⟨(hLP _ hx).1,(hLP _ hx).2.1,(hLP _ hx).2.2⟩
 refine ⟨fun _=>⟨⟨by decide,by decide⟩,by decide,r4,c1,c2,?_,hA,hA⟩,fun _=>⟨fun _=>⟨⟨by decide,by decide⟩,by decide,r4,c1,c2,hB,hB⟩,fun _=>⟨fun _=>?_,fun _=>?_⟩⟩⟩
 ·show (L.length+1)*72<=_
  omega
 ·refine hH.weak ⟨[(5,.own 0)],[(0,.row 30 relT L)],1⟩ 1 ?_ ?_
  ·dsimp only [go_sem]
   and_intros<;>first|trivial|rfl|omega
  refine hH.raw fun w0 X0 Bo Q hnb hE hX0 hfin ρ a w hf=>?_
  have hBo:Bo=[]:=List.length_eq_zero_iff.1 hnb.symm
  subst hBo
  have hf:Fr w0 X0 [] 80 ⟨[(5,.own 0)],[(0,.row 30 relT L)],1⟩ ρ a w:=hf
  refine wp_region_list ?_
  obtain ⟨v,xs,hv,ho,h1,hr⟩:=hf.cs (0,_) (List.mem_cons_self ..)
  have hv:ρ[0]?=some v:=hv
  obtain ⟨v',hv',hone,e5⟩:=hf.sl 5 _ rfl
  rw [hv] at hv'
  cases hv'
  obtain ⟨g,cap,hgw,rfl⟩:∃ g cap,g<w.heap.size/\v=.slice (some ⟨g,0,none⟩) L.length cap:=by
   rcases ho.2 with ⟨_,h0⟩|⟨g,cap,cur,e,_,hh,_⟩
   ·omega
   ·exact ⟨g,cap,heap_lt hh,e⟩
  have hcell:∀ (j:Nat) (c:Value),xs[j]?=some c->w.cell? ⟨g,j,none⟩=some c:=fun j c hj=>by
   have:=ho.cells (g:=g) rfl j c hj
   rwa [addr_j] at this
  have hft:=EXS_ok.fact (show EXS.te 30=some _ from rfl)
  have hus:Tryz.prog.underlying 23=some (.slice 30):=by kernel_rfl
  have hf0:=hf.know (t:=5) (x:=.val (.slice (some ⟨g,0,none⟩) L.length cap)) e5
  have e:=(List.cons.inj (lk_ok hf0.sl (x:=.tmp 5) rfl rfl)).1
  refine wpList_move rfl rfl ?_
  rw [e]
  have hfa:=hf0.slot (d:=38) (x:=.val (.slice (some ⟨g,0,none⟩) L.length cap)) (v:=.slice (some ⟨g,0,none⟩) L.length cap) (by decide) rfl
  have e:=(List.cons.inj (lk_ok hfa.sl (x:=.tmp 5) rfl rfl)).1
  refine wpList_move rfl rfl ?_
  rw [e]
  have hfb:=hfa.slot (d:=39) (x:=.val (.slice (some ⟨g,0,none⟩) L.length cap)) (v:=.slice (some ⟨g,0,none⟩) L.length cap) (by decide) rfl
  obtain ⟨v1,w1,ρ1,q1,hf1,hv1,ho1,hc1,hg1,hfo1⟩:=self_step (te:=_) (u:=relT) (ty:=23) (cap:=cap) (M:=L) (L:=L) (M':=[]) (zs:=[]) hus hft rfl hfb rfl hv (by rw [List.append_nil]; exact ho) (List.append_nil L).symm ho.1 hcell hgw ⟨_,_,_,rfl⟩ h1 (by omega) (by simp only [maxLen]; omega) (by show (L.length+L.length)*72<=_; omega)
  refine wpList_app rfl rfl (List.cons.inj (lk_ok hfb.sl (x:=.tmp 38) rfl rfl)).1 (List.cons.inj (lk_ok hfb.sl (x:=.tmp 39) rfl rfl)).1 q1 ?_
  have hfc:=hf1.slot (d:=40) (x:=.val v1) (v:=v1) (by decide) rfl
  have e:=(List.cons.inj (lk_ok hfc.sl (x:=.tmp 5) rfl rfl)).1
  refine wpList_move rfl rfl ?_
  rw [e]
  have hfd:=hfc.slot (d:=41) (x:=.val (.slice (some ⟨g,0,none⟩) L.length cap)) (v:=.slice (some ⟨g,0,none⟩) L.length cap) (by decide) rfl
  obtain ⟨v2,w2,ρ2,q2,hf2,hv2,ho2,hc2,hg2,hfo2⟩:=self_step (te:=_) (u:=relT) (ty:=23) (cap:=cap) (M:=L++L) (L:=L) (M':=L) (zs:=xs) hus hft rfl hfd rfl hv1 ho1 rfl ho.1 hc1 hg1 hfo1 h1 (by omega) (by rw [List.length_append]; simp only [maxLen]; omega) (by rw [List.length_append]; show (L.length+L.length+L.length)*72<=_; omega)
  refine wpList_app rfl rfl (List.cons.inj (lk_ok hfd.sl (x:=.tmp 40) rfl rfl)).1 (List.cons.inj (lk_ok hfd.sl (x:=.tmp 41) rfl rfl)).1 q2 ?_
  have hfe:=hf2.slot (d:=42) (x:=.val v2) (v:=v2) (by decide) rfl
  have e:=(List.cons.inj (lk_ok hfe.sl (x:=.tmp 5) rfl rfl)).1
  refine wpList_move rfl rfl ?_
  rw [e]
  have hfg:=hfe.slot (d:=43) (x:=.val (.slice (some ⟨g,0,none⟩) L.length cap)) (v:=.slice (some ⟨g,0,none⟩) L.length cap) (by decide) rfl
  obtain ⟨v3,w3,ρ3,q3,hf3,hv3,ho3,hc3,hg3,hfo3⟩:=self_step (te:=_) (u:=relT) (ty:=23) (cap:=cap) (M:=L++L++L) (L:=L) (M':=L++L) (zs:=xs++xs) hus hft rfl hfg rfl hv2 ho2 (List.append_assoc L L L) ho.1 hc2 hg2 hfo2 h1 (by omega) (by rw [List.length_append,List.length_append]; simp only [maxLen]; omega) (by rw [List.length_append,List.length_append]; show (L.length+L.length+L.length+L.length)*72<=_; omega)
  refine wpList_app rfl rfl (List.cons.inj (lk_ok hfg.sl (x:=.tmp 42) rfl rfl)).1 (List.cons.inj (lk_ok hfg.sl (x:=.tmp 43) rfl rfl)).1 q3 ?_
  have hfh:=hf3.slot (d:=44) (x:=.own 0) (v:=v3) (by decide) ⟨v3,hv3,form_one hfo3,rfl⟩
  obtain ⟨v4,hv4,_,e⟩:=lk_ok hfh.sl (x:=.tmp 44) rfl rfl
  rw [hv3] at hv4
  cases hv4
  have e:=(List.cons.inj e).1
  refine wpList_assign rfl rfl ?_
  rw [e]
  have hfi:=hfh.slot (d:=5) (x:=.own 0) (v:=v3) (by decide) ⟨v3,hv3,form_one hfo3,rfl⟩
  refine wpList_nil ?_
  have hfj:Fr w0 X0 [] 80 ⟨[(5,.own 0)],[(0,.row 30 relT (L++L++L++L))],1⟩ ρ3 _ w3:=Fr.slots hfi (fun t x hx=>by
   have hx:=get?_mem hx
   simp only [List.mem_cons,Prod.mk.injEq,List.not_mem_nil,or_false] at hx
   obtain ⟨rfl,rfl⟩:=hx
   rfl)
  refine run_h hnb hE hX0 hfin (fun H hH hraw=>?_) (by kernel_rfl) _ _ _ hfj
  have hL16:∀ r∈L++L++L++L,relP r:=fun r hr=>by
   simp only [List.mem_append] at hr
   exact hLP r (by rcases hr with ((hr|hr)|hr)|hr<;>exact hr)
  generalize L++L++L++L=M at hL16 ⊢
  refine hH.go [] 100 _ _ ?_
  dsimp only [go_sem]
  simp only [imp_self,true_and,and_true,decide_true,Bool.and_self]
  exact ⟨hL16,hL16⟩
 ·exact ⟨fun _=>⟨⟨by decide,by decide⟩,by decide,by rw [inR_i64]; omega,⟨by omega,by omega⟩,fun r hr=>hLP r (List.mem_of_mem_take hr),fun r hr=>hLP r (List.mem_of_mem_take hr)⟩,fun _=>⟨hLP,hLP⟩⟩
end Go.Proofs.YtdobkkhncfifeacGreat.Gx
