/-
  MKb: K5 K6 K7 KF K8 in one text.
-/
import Derived.Test.YtdobkkhncfifeaaGreatMKa
namespace Go.Proofs.YtdobkkhncfifeaaGreat.Gx
open Go Go.RowKit Tw B Nt
set_option linter.unusedVariables false
set_option linter.unusedSimpArgs false
set_option maxHeartbeats 4000000
set_option maxRecDepth 20000
theorem occs_of {l:List Atom} {n:Str} {x:Int} (h0:0<=x) (h1:x<(l.length:Int)) (h:hasR n (l.getD x.toNat ([],false,[]))=true):x∈occs l n:=by
 rw [hasR_eq,Bool.and_eq_true] at h
 unfold occs
 rw [if_neg (of_decide_eq_true h.2)]
 unfold occ
 refine List.mem_map.2 ⟨x.toNat,List.mem_filter.2 ⟨List.mem_range.2 (by omega),h.1⟩,by omega⟩
theorem occs_R {l:List Atom} {n:Str} {x:Int} (h:x∈occs l n):hasR n (l.getD x.toNat ([],false,[]))=true:=by
 obtain ⟨h1,i,rfl,h2,h3⟩:=mem_occs h
 rw [Int.toNat_natCast,hasR_eq,h3,decide_eq_true h1]
 rfl
theorem lk_cn {c:Cq} {i k:Int} (hi0:0<=i) (hi1:i<(c.1.length:Int)) (hk0:0<=k) (hk1:k<(c.1.length:Int)) (h:lkB c i k=true):Cn (parF c) i k:=by
 obtain ⟨_,_,hg,_⟩:=parF_cn c
 unfold lkB at h
 rw [Bool.or_eq_true] at h
 rcases h with h|h
 ·obtain ⟨v,hv,h⟩:=List.any_eq_true.1 h
  unfold lkV at h
  rw [Bool.and_eq_true] at h
  exact hg (occs c.1 v) (List.mem_append.2 (.inl (List.mem_map.2 ⟨v,hv,rfl⟩))) _ (occs_of hi0 hi1 h.1) _ (occs_of hk0 hk1 h.2)
 ·obtain ⟨q,hq,h⟩:=List.any_eq_true.1 h
  unfold lkC at h
  simp only [Bool.and_eq_true,Bool.or_eq_true,decide_eq_true_eq] at h
  obtain ⟨⟨⟨h1,h2⟩,h3⟩,h4⟩:=h
  have hm:cpG c.1 q=occs c.1 q.2.1.1++occs c.1 q.2.2.1:=by unfold cpG; rw [if_pos ⟨h1,h2⟩]
  have hx:i∈cpG c.1 q:=by
   rw [hm]
   rcases h3 with h|h
   ·exact List.mem_append.2 (.inl (occs_of hi0 hi1 h))
   ·exact List.mem_append.2 (.inr (occs_of hi0 hi1 h))
  have hy:k∈cpG c.1 q:=by
   rw [hm]
   rcases h4 with h|h
   ·exact List.mem_append.2 (.inl (occs_of hk0 hk1 h))
   ·exact List.mem_append.2 (.inr (occs_of hk0 hk1 h))
  exact hg (cpG c.1 q) (List.mem_append.2 (.inr (List.mem_map.2 ⟨q,hq,rfl⟩))) _ hx _ hy
theorem grp_lk {c:Cq} {g:List Int} (hg:g∈grps c) {x y:Int} (hx:x∈g) (hy:y∈g):lkB c x y=true:=by
 unfold lkB
 rw [Bool.or_eq_true]
 rcases List.mem_append.1 hg with h|h
 ·obtain ⟨v,hv,rfl⟩:=List.mem_map.1 h
  refine .inl (List.any_eq_true.2 ⟨v,hv,?_⟩)
  unfold lkV atC
  rw [occs_R hx,occs_R hy]
  rfl
 ·obtain ⟨q,hq,rfl⟩:=List.mem_map.1 h
  refine .inr (List.any_eq_true.2 ⟨q,hq,?_⟩)
  unfold cpG at hx hy
  split at hx
  ·rename_i hn
   rw [if_pos hn] at hy
   have key:∀ {z:Int},z∈occs c.1 q.2.1.1++occs c.1 q.2.2.1->(hasR q.2.1.1 (atC c z)||hasR q.2.2.1 (atC c z))=true:=by
    intro z hz
    unfold atC
    rw [Bool.or_eq_true]
    rcases List.mem_append.1 hz with h|h
    ·exact .inl (occs_R h)
    ·exact .inr (occs_R h)
   unfold lkC
   rw [key hx,key hy,decide_eq_true hn.1,decide_eq_true hn.2]
   rfl
  ·cases hx
def Lab (c:Cq) (g:List Int):Prop:=g.length=c.1.length/\∀ i,i<c.1.length->0<=g.getD i 0/\g.getD i 0<=(i:Int)/\Cn (parF c) (i:Int) (g.getD i 0)
def LabF (c:Cq) (g:List Int) (i k:Nat):Prop:=g.getD k 0<g.getD i 0->lkB c (i:Int) (k:Int)=true->False
theorem lab_root {c:Cq} {g:List Int} (h:Lab c g) (hf:∀ i,i<c.1.length->∀ k,k<c.1.length->LabF c g i k):∀ i,i<c.1.length->g.getD i 0=((rt (parF c) i:Nat):Int):=by
 obtain ⟨hw,hn,hG,hC⟩:=parF_cn c
 intro i hi
 have hi':i<(parF c).length:=by rw [hn]; exact hi
 obtain ⟨hr,hle⟩:=rt_Rt hw hi'
 have hri:rt (parF c) i<c.1.length:=by omega
 have he:∀ (x y:Nat),x<c.1.length->y<c.1.length->lkB c (x:Int) (y:Int)=true->lkB c (y:Int) (x:Int)=true->g.getD x 0=g.getD y 0:=by
  intro x y hx hy h1 h2
  rcases Int.lt_trichotomy (g.getD x 0) (g.getD y 0) with h|h|h
  ·exact (hf y hy x hx h h2).elim
  ·exact h
  ·exact (hf x hx y hy h h1).elim
 have h1:g.getD i 0=g.getD (rt (parF c) i) 0:=by
  have:=(hC (fun z=>g.getD z.toNat 0=g.getD i 0) (fun s hs x hx y hy=>by
   have hb:=grps_in c s hs
   obtain ⟨x0,x1⟩:=hb x hx
   obtain ⟨y0,y1⟩:=hb y hy
   have e:=he x.toNat y.toNat (by omega) (by omega) (by rw [Int.toNat_of_nonneg x0,Int.toNat_of_nonneg y0]; exact grp_lk hs hx hy) (by rw [Int.toNat_of_nonneg x0,Int.toNat_of_nonneg y0]; exact grp_lk hs hy hx)
   rw [e]) (i:Int) (rt (parF c) i:Int) (Int.natCast_nonneg _) (by omega) hr)
  have this:g.getD ((rt (parF c) i:Nat):Int).toNat 0=g.getD i 0:=this.1 (show g.getD ((i:Nat):Int).toNat 0=g.getD i 0 by rw [Int.toNat_natCast])
  rw [Int.toNat_natCast] at this
  exact this.symm
 obtain ⟨g0,g1,g2⟩:=h.2 _ hri
 rw [h1]
 have hx:((g.getD (rt (parF c) i) 0).toNat:Int)=g.getD (rt (parF c) i) 0:=Int.toNat_of_nonneg g0
 have hb:(g.getD (rt (parF c) i) 0).toNat<(parF c).length:=by omega
 rw [<-hx] at g2
 have h2:=(rt_eq hw (show rt (parF c) i<(parF c).length by omega) hb).2 g2
 rw [rt_rt hw hi'] at h2
 have h3:=(rt_Rt hw hb).2
 omega
theorem getD_setI {g:List Int} {i:Nat} {v:Int} (hi:i<g.length) (j:Nat):(g.set i v).getD j 0=if j=i then v else g.getD j 0:=by
 rw [List.getD_eq_getElem?_getD,List.getElem?_set,List.getD_eq_getElem?_getD]
 by_cases h:i=j
 ·subst h
  rw [if_pos rfl,if_pos hi,if_pos rfl]; rfl
 ·rw [if_neg h,if_neg (fun e=>h e.symm)]
theorem lab_set {c:Cq} {g:List Int} (h:Lab c g) {i k:Nat} (hi:i<c.1.length) (hk:k<c.1.length) (hlt:g.getD k 0<g.getD i 0) (hl:lkB c (i:Int) (k:Int)=true):Lab c (g.set i (g.getD k 0)):=by
 refine ⟨by rw [List.length_set]; exact h.1,fun j hj=>?_⟩
 rw [getD_setI (by rw [h.1]; exact hi)]
 split
 ·rename_i e
  subst e
  obtain ⟨a0,a1,a2⟩:=h.2 j hj
  obtain ⟨b0,b1,b2⟩:=h.2 k hk
  exact ⟨b0,by omega,(lk_cn (Int.natCast_nonneg _) (by omega) (Int.natCast_nonneg _) (by omega) hl).trans b2⟩
 ·exact h.2 j hj
def sumN (g:List Int):Nat:=(g.map Int.toNat).sum
theorem sumN_set:∀ {g:List Int} {i:Nat} {v:Int},i<g.length->0<=v->v<g.getD i 0->sumN (g.set i v)<sumN g
 | [],i,v,h,_,_=>absurd h (Nat.not_lt_zero _)
 | a::g,0,v,_,h0,h=>by
  have h:v<a:=h
  show ((v::g).map Int.toNat).sum<((a::g).map Int.toNat).sum
  rw [List.map_cons,List.map_cons,List.sum_cons,List.sum_cons]
  omega
 | a::g,i+1,v,hi,h0,h=>by
  have h:v<g.getD i 0:=h
  have:=sumN_set (g:=g) (Nat.lt_of_succ_lt_succ hi) h0 h
  show ((a::g.set i v).map Int.toNat).sum<((a::g).map Int.toNat).sum
  rw [List.map_cons,List.map_cons,List.sum_cons,List.sum_cons]
  unfold sumN at this
  omega
theorem idP_lab (c:Cq):Lab c (idP c.1.length):=by
 obtain ⟨hw,hn,_⟩:=parF_cn c
 refine ⟨idP_len _,fun i hi=>?_⟩
 rw [idP_get hi]
 obtain ⟨r,_⟩:=rt_Rt hw (show i<(parF c).length by omega)
 exact ⟨Int.natCast_nonneg _,Int.le_refl _,_,r,r⟩
end Go.Proofs.YtdobkkhncfifeaaGreat.Gx
namespace Go.Proofs.YtdobkkhncfifeaaGreat.Gx
open Go Go.RowKit Tw B Nt
set_option linter.unusedVariables false
set_option linter.unusedSimpArgs false
set_option maxHeartbeats 4000000
set_option maxRecDepth 20000
def idG (n k:Nat):List Int:=((List.range k).map fun i:Nat=>(i:Int))++List.replicate (n-k) 0
theorem idG_len {n k:Nat} (h:k<=n):(idG n k).length=n:=by
 unfold idG
 rw [List.length_append,List.length_map,List.length_range,List.length_replicate]; omega
theorem idG_full (n:Nat):idG n n=idP n:=by
 unfold idG
 rw [Nat.sub_self,List.replicate_zero,List.append_nil]
 rfl
theorem idG_set {n k:Nat} (h:k<n):(idG n k).set k (k:Int)=idG n (k+1):=by
 unfold idG
 rw [show n-k=(n-(k+1))+1 by omega,List.replicate_succ,List.set_append_right _ _ (by rw [List.length_map,List.length_range]; exact Nat.le_refl _),List.length_map,List.length_range,Nat.sub_self,List.set_cons_zero,List.range_succ,List.map_append,List.append_assoc]
 rfl
theorem cls_snoc (p:List Int) (k r:Nat):cls p (k+1) r=cls p k r++if rt p k=r then [(k:Int)] else []:=by
 unfold cls
 rw [List.range_succ,List.filter_append,List.map_append]
 congr 1
 simp only [List.filter_cons,List.filter_nil,decide_eq_true_eq]
 split<;>rfl
theorem cls_le (p:List Int) (k r:Nat):(cls p k r).length<=k:=by
 unfold cls
 rw [List.length_map]
 have:=List.length_filter_le (fun i=>decide (rt p i=r)) (List.range k)
 rw [List.length_range] at this
 exact this
theorem kept_snoc (f:Nat->List Int) (r:Nat):kept ((List.range (r+1)).map f)=kept ((List.range r).map f)++if 0<(f r).length then [f r] else []:=by
 unfold kept
 rw [List.range_succ,List.map_append,List.filter_append]
 congr 1
 rw [List.map_cons,List.map_nil,List.filter_cons,List.filter_nil]
 cases e:f r with
 | nil=>rfl
 | cons a l=>rfl
theorem kept_le (f:Nat->List Int) (r:Nat):(kept ((List.range r).map f)).length<=r:=by
 unfold kept
 have:=List.length_filter_le (fun x=>!emp x) ((List.range r).map f)
 rw [List.length_map,List.length_range] at this
 exact this
@[go_sem] def rcoS:Spec:=⟨[cqT],fun d=>(.dat (.slice (.slice (.int .i64))) (comps d.1),[cqP d.1])⟩
theorem rco_ok:SpecOk Tryz.prog 13 rcoS:=by
 refine fn_ok EKB_ok rcoS Tryz.func13 rfl (by decide) (N:=88) rfl (res:=[.tmp 2]) rfl (by decide) [(27,[(78,.dt)]),(29,[(85,.dt)])] [(29,[3]),(30,[2])] [] 100 (by kernel_rfl) ?_
 rintro ⟨c,_⟩ hw hp
 refine ⟨rfl,fun H hH=>?_⟩
 dsimp only [go_sem] at hw hp ⊢
 obtain ⟨hp,-⟩:=hp
 clear hw
 have hc:=comps_eq c
 have hL:=fun {g} (h:Lab c g)=>lab_root h
 have hid:=idP_lab c
 have hset:=fun {g:List Int} (h:Lab c g) {i k:Nat}=>lab_set h (i:=i) (k:=k)
 obtain ⟨l,cs⟩:=c
 have hp0:=hp
 change List Atom at l
 change List Cmp at cs
 obtain ⟨hp1,hp2,hp3⟩:=hp
 change List.length l<=1000 at hp1
 have hn0:(0:Int)<=(l.length:Int):=Int.natCast_nonneg _
 refine ⟨⟨hn0,Int.le_refl _,?_⟩,?_⟩
 ·change (8:Int)*(l.length:Int)<=_
  omega
 refine hH.loop (fun i:Nat=>⟨[(5,.dat (.int .i64) (i:Int)),(4,.own 1),(3,.dat (.int .i64) (l.length:Int)),(1,.ref 0 0)],[(0,.box 26 (.cons (.dat (.slice atomT) l) (.cons (.dat (.slice cmpT) cs) .nil))),(1,.row 3 (.int .i64) (idG l.length i))],2⟩) (fun i=>i<=l.length) (fun i=>l.length-i) 0 2 (Nat.zero_le _) ?_ ?_
 ·dsimp only [go_sem]
  and_intros<;>first|trivial|rfl|omega
 ·rintro i hi R hm
  have hlen:=idG_len hi
  refine hH.run 100 _ _ ?_
  dsimp only [go_sem]
  simp only [Int.toNat_natCast]
  refine ⟨fun d=>?_,fun d=>?_⟩<;>simp only [decide_eq_true_eq,decide_eq_false_iff_not] at d
  ·have d:i<l.length:=by omega
   refine ⟨⟨Int.natCast_nonneg _,by rw [hlen]; omega⟩,by rw [hlen]; exact d,by rw [inR_i64]; omega,hm _ (i+1) 2 d (by omega) ?_⟩
   dsimp only [go_sem]
   rw [<-idG_set d]
   and_intros<;>first|trivial|rfl|omega
  ·have d:i=l.length:=by omega
   subst d
   rw [idG_full]
   clear hm hlen hi
   refine HOk.loop (by assumption) (fun x:List Int×Bool=>⟨[(6,.dat .bool x.2),(4,.own 1),(3,.dat (.int .i64) (l.length:Int)),(1,.ref 0 0)],[(0,.box 26 (.cons (.dat (.slice atomT) l) (.cons (.dat (.slice cmpT) cs) .nil))),(1,.row 3 (.int .i64) x.1)],2⟩) (fun x=>Lab (l,cs) x.1/\(x.2=false->∀ i,i<l.length->∀ k,k<l.length->LabF (l,cs) x.1 i k)) (fun x=>2*sumN x.1+if x.2 then 1 else 0) (idP l.length,true) 2 ⟨hid,fun h=>by cases h⟩ ?_ ?_
   ·dsimp only [go_sem]
    and_intros<;>first|trivial|rfl|omega
   ·rintro ⟨g,ch⟩ ⟨hg,hgf⟩ R hm
    dsimp only at hg hgf
    have hlen:g.length=l.length:=hg.1
    refine HOk.run (by assumption) 100 _ _ ?_
    dsimp only [go_sem]
    refine ⟨fun d=>?_,fun d=>?_⟩
    ·have d:ch=true:=d
     subst d
     clear hgf
     refine HOk.loop (by assumption) (fun x:Nat×List Int×Bool=>⟨[(7,.dat (.int .i64) (x.1:Int)),(6,.dat .bool x.2.2),(4,.own 1),(3,.dat (.int .i64) (l.length:Int)),(1,.ref 0 0)],[(0,.box 26 (.cons (.dat (.slice atomT) l) (.cons (.dat (.slice cmpT) cs) .nil))),(1,.row 3 (.int .i64) x.2.1)],2⟩) (fun x=>x.1<=l.length/\Lab (l,cs) x.2.1/\(x.2.2=false->x.2.1=g/\∀ a,a<x.1->∀ k,k<l.length->LabF (l,cs) g a k)/\(x.2.2=true->sumN x.2.1<sumN g)) (fun x=>l.length-x.1) (0,g,false) 2 ⟨Nat.zero_le _,hg,fun _=>⟨rfl,fun a h=>absurd h (Nat.not_lt_zero _)⟩,fun h=>by cases h⟩ ?_ ?_
     ·dsimp only [go_sem]
      and_intros<;>first|trivial|rfl|omega
     ·rintro ⟨i,q,b⟩ ⟨hi,hq,hb0,hb1⟩ R2 hm2
      dsimp only at hi hq hb0 hb1
      have hql:q.length=l.length:=hq.1
      refine HOk.run (by assumption) 100 _ _ ?_
      dsimp only [go_sem]
      refine ⟨fun d=>?_,fun d=>?_⟩<;>simp only [decide_eq_true_eq,decide_eq_false_iff_not] at d
      ·have d:i<l.length:=by omega
       refine HOk.loop (by assumption) (fun x:Nat×List Int×Bool=>⟨[(8,.dat (.int .i64) (x.1:Int)),(7,.dat (.int .i64) (i:Int)),(6,.dat .bool x.2.2),(4,.own 1),(3,.dat (.int .i64) (l.length:Int)),(1,.ref 0 0)],[(0,.box 26 (.cons (.dat (.slice atomT) l) (.cons (.dat (.slice cmpT) cs) .nil))),(1,.row 3 (.int .i64) x.2.1)],2⟩) (fun x=>x.1<=l.length/\Lab (l,cs) x.2.1/\(x.2.2=false->x.2.1=g/\(∀ a,a<i->∀ k,k<l.length->LabF (l,cs) g a k)/\∀ k,k<x.1->LabF (l,cs) g i k)/\(x.2.2=true->sumN x.2.1<sumN g)) (fun x=>l.length-x.1) (0,q,b) 2 ⟨Nat.zero_le _,hq,fun h=>⟨(hb0 h).1,(hb0 h).2,fun a h=>absurd h (Nat.not_lt_zero _)⟩,hb1⟩ ?_ ?_
       ·dsimp only [go_sem]
        and_intros<;>first|trivial|rfl|omega
       ·clear hb0 hb1 hq hql
        rintro ⟨k,q,b⟩ ⟨hk,hq,hb0,hb1⟩ R3 hm3
        dsimp only at hk hq hb0 hb1
        have hql:q.length=l.length:=hq.1
        refine HOk.run (by assumption) 100 _ _ ?_
        dsimp only [go_sem]
        simp only [Int.toNat_natCast]
        refine ⟨fun e=>?_,fun e=>?_⟩<;>simp only [decide_eq_true_eq,decide_eq_false_iff_not] at e
        ·have e:k<l.length:=by omega
         have b1:(0:Int)<=(k:Int)/\(k:Int)<(q.length:Int):=by omega
         have b2:(0:Int)<=(i:Int)/\(i:Int)<(q.length:Int):=by omega
         have b3:(0:Int)<=(i:Int)/\(i:Int)<(l.length:Int)/\(0:Int)<=(k:Int)/\(k:Int)<(l.length:Int):=by omega
         have hz:∀ j,q.getD j (zd (.int .i64))=q.getD j 0:=fun _=>rfl
         simp only [hz]
         refine ⟨b1,by omega,b2,by omega,fun h=>h,fun h=>h,fun h=>h,fun _=>hp0,fun _=>b3,fun h=>h,fun h=>?_,fun h=>?_⟩
         ·rw [Bool.and_eq_true] at h
          have h1:=of_decide_eq_true h.1
          have h2:=h.2
          obtain ⟨c0,-⟩:=hq.2 k e
          have hs:=sumN_set (show i<q.length by omega) c0 h1
          refine ⟨b1,by omega,b2,by omega,by rw [inR_i64]; omega,hm3 _ (k+1,q.set i (q.getD k 0),true) 2 ⟨e,hset hq d e h1 h2,(fun h=>by cases h),fun _=>?_⟩ (by dsimp only; omega) ?_⟩
          ·dsimp only
           cases b with
           | true=>have:=hb1 rfl; omega
           | false=>rw [<-(hb0 rfl).1]; exact hs
          ·dsimp only [go_sem]
           and_intros<;>first|trivial|rfl|omega
         ·refine ⟨by rw [inR_i64]; omega,hm3 _ (k+1,q,b) 2 ⟨e,hq,fun hb=>⟨(hb0 hb).1,(hb0 hb).2.1,fun k' hk'=>?_⟩,hb1⟩ (by dsimp only; omega) ?_⟩
          ·rcases Nat.lt_or_ge k' k with h'|h'
           ·exact (hb0 hb).2.2 k' h'
           ·have:k'=k:=by omega
            subst this
            rw [<-(hb0 hb).1]
            intro h1 h2
            have:(decide (q.getD k' 0<q.getD i 0)&&lkB (l,cs) (i:Int) (k':Int))=true:=by rw [h2,decide_eq_true h1]; rfl
            rw [this] at h
            cases h
          ·dsimp only [go_sem]
           and_intros<;>first|trivial|rfl|omega
        ·have e:k=l.length:=by omega
         subst e
         refine ⟨by rw [inR_i64]; omega,hm2 _ (i+1,q,b) 2 ⟨d,hq,fun h=>⟨(hb0 h).1,fun a ha k hk=>?_⟩,hb1⟩ (by dsimp only; omega) ?_⟩
         ·rcases Nat.lt_or_ge a i with h'|h'
          ·exact (hb0 h).2.1 a h' k hk
          ·have:a=i:=by omega
           rw [this]; exact (hb0 h).2.2 k hk
         ·dsimp only [go_sem]
          and_intros<;>first|trivial|rfl|omega
      ·have d:i=l.length:=by omega
       subst d
       refine hm _ (q,b) 2 ⟨hq,fun h=>?_⟩ ?_ ?_
       ·obtain ⟨h1,h2⟩:=hb0 h
        subst h1
        exact h2
       ·dsimp only
        cases b with
        | true=>have:=hb1 rfl; simp only [if_true]; omega
        | false=>rw [(hb0 rfl).1]; simp
       ·dsimp only [go_sem]
        and_intros<;>first|trivial|rfl|omega
    ·have d:ch=false:=d
     subst d
     have hgr:=hL hg (hgf rfl)
     clear hm hgf
     refine HOk.loop (by assumption) (fun r:Nat=>⟨[(10,.dat (.int .i64) (r:Int)),(9,.own 2),(4,.own 1),(3,.dat (.int .i64) (l.length:Int)),(1,.ref 0 0)],[(0,.box 26 (.cons (.dat (.slice atomT) l) (.cons (.dat (.slice cmpT) cs) .nil))),(1,.row 3 (.int .i64) g),(2,.row 22 (.slice (.int .i64)) (kept ((List.range r).map (cls (parF (l,cs)) l.length))))],3⟩) (fun r=>r<=l.length) (fun r=>l.length-r) 0 2 (Nat.zero_le _) ?_ ?_
     ·dsimp only [go_sem]
      and_intros<;>first|trivial|rfl|omega
     ·rintro r hr R hm
      refine HOk.run (by assumption) 100 _ _ ?_
      dsimp only [go_sem]
      refine ⟨fun d=>?_,fun d=>?_⟩<;>simp only [decide_eq_true_eq,decide_eq_false_iff_not] at d
      ·have d:r<l.length:=by omega
       refine HOk.loop (by assumption) (fun k:Nat=>⟨[(12,.dat (.int .i64) (k:Int)),(11,.own 3),(10,.dat (.int .i64) (r:Int)),(9,.own 2),(4,.own 1),(3,.dat (.int .i64) (l.length:Int)),(1,.ref 0 0)],[(0,.box 26 (.cons (.dat (.slice atomT) l) (.cons (.dat (.slice cmpT) cs) .nil))),(1,.row 3 (.int .i64) g),(2,.row 22 (.slice (.int .i64)) (kept ((List.range r).map (cls (parF (l,cs)) l.length)))),(3,.row 3 (.int .i64) (cls (parF (l,cs)) k r))],4⟩) (fun k=>k<=l.length) (fun k=>l.length-k) 0 3 (Nat.zero_le _) ?_ ?_
       ·dsimp only [go_sem]
        and_intros<;>first|trivial|rfl|omega
       ·rintro k hk R2 hm2
        refine HOk.run (by assumption) 100 _ _ ?_
        dsimp only [go_sem]
        simp only [Int.toNat_natCast]
        refine ⟨fun e=>?_,fun e=>?_⟩<;>simp only [decide_eq_true_eq,decide_eq_false_iff_not] at e
        ·have e:k<l.length:=by omega
         have hgk:g.getD k 0=((rt (parF (l,cs)) k:Nat):Int):=hgr k e
         have hcs:=cls_snoc (parF (l,cs)) k r
         have hcl:=cls_le (parF (l,cs)) k r
         have hz:g.getD k (zd (.int .i64))=g.getD k 0:=rfl
         simp only [hz]
         have b1:(0:Int)<=(k:Int)/\(k:Int)<(g.length:Int):=by omega
         have b2:k<g.length:=by omega
         refine ⟨b1,b2,fun h=>?_,fun h=>?_⟩
         ·have h:g.getD k 0=(r:Int):=of_decide_eq_true h
          have h':rt (parF (l,cs)) k=r:=Int.ofNat.inj (hgk.symm.trans h)
          rw [if_pos h'] at hcs
          refine ⟨?_,trivial,by rw [inR_i64]; omega,hm2 _ (k+1) 4 e (by omega) ?_⟩
          ·show ((cls (parF (l,cs)) k r).length+1)*8<=_
           omega
          ·dsimp only [go_sem]
           rw [hcs]
           and_intros<;>first|trivial|rfl|omega|fail
         ·have h:¬g.getD k 0=(r:Int):=of_decide_eq_false h
          rw [if_neg (by omega),List.append_nil] at hcs
          refine ⟨by rw [inR_i64]; omega,hm2 _ (k+1) 4 e (by omega) ?_⟩
          dsimp only [go_sem]
          rw [hcs]
          and_intros<;>first|trivial|rfl|omega|fail
        ·have e:k=l.length:=by omega
         subst e
         have hks:=kept_snoc (cls (parF (l,cs)) l.length) r
         have hkl:=kept_le (cls (parF (l,cs)) l.length) r
         refine ⟨fun h=>?_,fun h=>?_⟩
         ·have h:=of_decide_eq_true h
          rw [if_pos (by omega)] at hks
          refine ⟨?_,trivial,by rw [inR_i64]; omega,HOk.ren (by assumption) [(0,0),(1,1),(2,2)] 3 rfl rfl (Nat.zero_le _) rfl ?_⟩
          ·show ((kept ((List.range r).map (cls (parF (l,cs)) l.length))).length+1)*24<=_
           omega
          ·dsimp only [go_sem]
           refine hm _ (r+1) 3 d (by omega) ?_
           dsimp only [go_sem]
           rw [hks]
           and_intros<;>first|trivial|rfl|omega|fail
         ·have h:=of_decide_eq_false h
          rw [if_neg (by omega),List.append_nil] at hks
          refine ⟨by rw [inR_i64]; omega,HOk.ren (by assumption) [(0,0),(1,1),(2,2)] 3 rfl rfl (Nat.zero_le _) rfl ?_⟩
          dsimp only [go_sem]
          refine hm _ (r+1) 3 d (by omega) ?_
          dsimp only [go_sem]
          rw [hks]
          and_intros<;>first|trivial|rfl|omega|fail
      ·have d:r=l.length:=by omega
       subst d
       exact ⟨hc.symm,trivial⟩
end Go.Proofs.YtdobkkhncfifeaaGreat.Gx
namespace Go.Proofs.YtdobkkhncfifeaaGreat.Gx
open Go Go.RowKit Tw B Nt
set_option linter.unusedVariables false
set_option linter.unusedSimpArgs false
set_option maxHeartbeats 4000000
set_option maxRecDepth 20000
theorem kst2 {P:Program} {T:TypeId} {f1 f2:Field} (hu:P.underlying T=some (.struct #[f1,f2])) (hs:P.stoodInHeld T=false) (n1:f1.name ≠ "_") (n2:f2.name ≠ "_") {xs ys:Array Value}
    {a1 a2 b1 b2:Value} {r1 r2:Bool} {w:World} {d:Nat}
    (p1:(part f1.type xs f1.offset).run P w=.ok a1 w) (p2:(part f2.type xs f2.offset).run P w=.ok a2 w) (q1:(part f1.type ys f1.offset).run P w=.ok b1 w) (q2:(part f2.type ys f2.offset).run P w=.ok b2 w)
    (e1:(Op.equalIn d f1.type a1 b1).run P w=.ok r1 w) (e2:(Op.equalIn d f2.type a2 b2).run P w=.ok r2 w) :
    (Op.equalIn (d+1) T (.agg xs) (.agg ys)).run P w=.ok (r1&&r2) w:=by
 rw [Op.equalIn]
 simp only [run_underlying hu,Sem.run_bind]
 cases r1<;>cases r2<;>simp [hs,n1,n2,p1,p2,q1,q2,e1,e2,Sem.program]
theorem kst3 {P:Program} {T:TypeId} {f1 f2 f3:Field} (hu:P.underlying T=some (.struct #[f1,f2,f3])) (hs:P.stoodInHeld T=false) (n1:f1.name ≠ "_") (n2:f2.name ≠ "_") (n3:f3.name ≠ "_") {xs ys:Array Value}
    {a1 a2 a3 b1 b2 b3:Value} {r1 r2 r3:Bool} {w:World} {d:Nat}
    (p1:(part f1.type xs f1.offset).run P w=.ok a1 w) (p2:(part f2.type xs f2.offset).run P w=.ok a2 w) (p3:(part f3.type xs f3.offset).run P w=.ok a3 w)
    (q1:(part f1.type ys f1.offset).run P w=.ok b1 w) (q2:(part f2.type ys f2.offset).run P w=.ok b2 w) (q3:(part f3.type ys f3.offset).run P w=.ok b3 w)
    (e1:(Op.equalIn d f1.type a1 b1).run P w=.ok r1 w) (e2:(Op.equalIn d f2.type a2 b2).run P w=.ok r2 w) (e3:(Op.equalIn d f3.type a3 b3).run P w=.ok r3 w) :
    (Op.equalIn (d+1) T (.agg xs) (.agg ys)).run P w=.ok (r1&&r2&&r3) w:=by
 rw [Op.equalIn]
 simp only [run_underlying hu,Sem.run_bind]
 cases r1<;>cases r2<;>cases r3<;>simp [hs,n1,n2,n3,p1,p2,p3,q1,q2,q3,e1,e2,e3,Sem.program]
theorem kpl {P:Program} {T:TypeId} {w:World} {d:TypeDesc} (hu:P.underlying T=some d) (hd:d=.string∨d=.bool∨∃ k,d=.int k) {xs:Array Value} {i:Nat} {v:Value} (h:xs[i]?=some v):(part T xs i).run P w=.ok v w:=by
 rcases hd with rfl|rfl|⟨k,rfl⟩<;>simp [part,isAgg,run_underlying hu,h]
theorem kag {P:Program} {T:TypeId} {w:World} {fs:Array Field} {s:Nat} (hu:P.underlying T=some (.struct fs)) (hs:(sizeOf T).run P w=.ok s w) {xs ys:Array Value} {i:Nat} (h:xs.extract i (i+s)=ys):(part T xs i).run P w=.ok (.agg ys) w:=by
 simp [part,isAgg,run_underlying hu,hs,h]
theorem keq_str {P:Program} {T:TypeId} {w:World} (hu:P.underlying T=some .string) (d:Nat) (a b:Str):(Op.equalIn (d+1) T (.string ⟨a.toArray⟩) (.string ⟨b.toArray⟩)).run P w=.ok (decide (a=b)) w:=by
 have e:((⟨a.toArray⟩:ByteArray) == ⟨b.toArray⟩)=decide (a=b):=by
  show (a.toArray == b.toArray)=_
  rw [Bool.eq_iff_iff,beq_iff_eq,decide_eq_true_eq]
  exact ⟨fun h=>by simpa using congrArg Array.toList h,fun h=>by rw [h]⟩
 rw [<-e]
 simp [Op.equalIn,run_underlying hu]
theorem keq_int {P:Program} {T:TypeId} {w:World} {k:IntKind} (hu:P.underlying T=some (.int k)) (d:Nat) (a b:Int):(Op.equalIn (d+1) T (.int k a) (.int k b)).run P w=.ok (decide (a=b)) w:=by
 have e:(a == b)=decide (a=b):=by rw [Bool.eq_iff_iff,beq_iff_eq,decide_eq_true_eq]
 rw [<-e]
 simp [Op.equalIn,run_underlying hu]
def vA (x:Val):Array Value:=#[.int .i64 x.1,.int .i64 x.2.1,.string ⟨x.2.2.toArray⟩]
def tA (x:Term):Array Value:=#[.string ⟨x.1.toArray⟩,.int .i64 x.2.1,.int .i64 x.2.2.1,.string ⟨x.2.2.2.toArray⟩]
theorem kval (w:World) (d:Nat) (x y:Val):(Op.equalIn (d+2) 53 (.agg (vA x)) (.agg (vA y))).run Tryz.prog w=.ok (eqB valT x y) w:=by
 have hs:Tryz.prog.underlying 9=some .string:=by kernel_rfl
 have hi:Tryz.prog.underlying 3=some (.int .i64):=by kernel_rfl
 have hi':Tryz.prog.underlying 2=some (.int .i64):=by kernel_rfl
 refine (kst3 (P:=Tryz.prog) (T:=53) (w:=w) (d:=d+1) rfl (by kernel_rfl) (by decide) (by decide) (by decide) (kpl hi (.inr (.inr ⟨_,rfl⟩)) rfl) (kpl hi' (.inr (.inr ⟨_,rfl⟩)) rfl) (kpl hs (.inl rfl) rfl) (kpl hi (.inr (.inr ⟨_,rfl⟩)) rfl) (kpl hi' (.inr (.inr ⟨_,rfl⟩)) rfl) (kpl hs (.inl rfl) rfl) (keq_int hi d x.1 y.1) (keq_int hi' d x.2.1 y.2.1) (keq_str hs d x.2.2 y.2.2)).trans ?_
 rw [Bool.and_assoc]
 rfl
theorem kterm (w:World) (d:Nat) (x y:Term):(Op.equalIn (d+3) 55 (.agg (tA x)) (.agg (tA y))).run Tryz.prog w=.ok (eqB termT x y) w:=by
 have hs:Tryz.prog.underlying 9=some .string:=by kernel_rfl
 refine (kst2 (P:=Tryz.prog) (T:=55) (w:=w) (d:=d+2) rfl (by kernel_rfl) (by decide) (by decide) (kpl hs (.inl rfl) rfl) (kag (fs:=_) rfl rfl (ys:=vA x.2) rfl) (kpl hs (.inl rfl) rfl) (kag rfl rfl (ys:=vA y.2) rfl) (keq_str hs (d+1) x.1 y.1) (kval w d x.2 y.2)).trans ?_
 rfl
def cA (x:Cmp):Array Value:=#[.int .i64 x.1]++tA x.2.1++tA x.2.2
theorem kcmp (w:World) (d:Nat) (x y:Cmp):(Op.equalIn (d+4) 57 (.agg (cA x)) (.agg (cA y))).run Tryz.prog w=.ok (eqB cmpT x y) w:=by
 have hi:Tryz.prog.underlying 3=some (.int .i64):=by kernel_rfl
 refine (kst3 (P:=Tryz.prog) (T:=57) (w:=w) (d:=d+3) rfl (by kernel_rfl) (by decide) (by decide) (by decide) (kpl hi (.inr (.inr ⟨_,rfl⟩)) rfl) (kag rfl rfl (ys:=tA x.2.1) rfl) (kag rfl rfl (ys:=tA x.2.2) rfl) (kpl hi (.inr (.inr ⟨_,rfl⟩)) rfl) (kag rfl rfl (ys:=tA y.2.1) rfl) (kag rfl rfl (ys:=tA y.2.2) rfl) (keq_int hi (d+2) x.1 y.1) (kterm w d x.2.1 y.2.1) (kterm w d x.2.2 y.2.2)).trans ?_
 rw [Bool.and_assoc]
 rfl
theorem rep_term {X:Nat->Prop} {w:World} {cs:List Value} {x:Term} (h:rep termT X w cs x):cs=(tA x).toList:=by
 obtain ⟨⟨h1,_⟩,⟨h2,_⟩,⟨h3,_⟩,⟨h4,_⟩⟩:=h
 have h1:cs.take 1=_:=h1
 have h2:(cs.drop 1).take 1=_:=h2
 have h3:((cs.drop 1).drop 1).take 1=_:=h3
 have h4:((cs.drop 1).drop 1).drop 1=_:=h4
 rw [<-List.take_append_drop 1 cs,h1,<-List.take_append_drop 1 (cs.drop 1),h2,<-List.take_append_drop 1 ((cs.drop 1).drop 1),h3,h4]
 rfl
theorem termEq:eqOk Tryz.prog 55 termT:=by
 refine ⟨by kernel_rfl,fun X w cs cs' x y h h'=>?_⟩
 rw [rep_term h,rep_term h']
 exact kterm w 9997 x y
theorem cmpEq:eqOk Tryz.prog 57 cmpT:=by
 refine ⟨by kernel_rfl,fun X w cs cs' x y h h'=>?_⟩
 have key:∀ {cs:List Value} {x:Cmp},rep cmpT X w cs x->cs=(cA x).toList:=by
  intro cs x h
  obtain ⟨⟨h1,_⟩,h2,h3⟩:=h
  have h1:cs.take 1=_:=h1
  have h2:=rep_term h2
  have h3:=rep_term h3
  have h2:(cs.drop 1).take 4=_:=h2
  have h3:(cs.drop 1).drop 4=_:=h3
  rw [<-List.take_append_drop 1 cs,h1,<-List.take_append_drop 4 (cs.drop 1),h2,h3]
  rfl
 rw [key h,key h']
 exact kcmp w 9996 x y
theorem eqT_refl (x:Term):eqB termT x x=true:=by
 obtain ⟨a,b,c,d⟩:=x
 show (decide (a=a)&&(decide (b=b)&&(decide (c=c)&&decide (d=d))))=true
 simp
theorem eqC_refl (x:Cmp):eqB cmpT x x=true:=by
 obtain ⟨a,b,c⟩:=x
 show (decide (a=a)&&(eqB termT b b&&eqB termT c c))=true
 rw [eqT_refl,eqT_refl]
 simp
theorem cV_refl (x:Val):cV x x=0:=by
 unfold cV
 rw [cI_eq,cI_eq,if_neg (by simp),if_neg (by simp)]
 exact (cB_zero _ _).2 rfl
end Go.Proofs.YtdobkkhncfifeaaGreat.Gx
namespace Go.Proofs.YtdobkkhncfifeaaGreat.Gx
open Go Go.RowKit Tw B Nt
set_option linter.unusedVariables false
set_option linter.unusedSimpArgs false
set_option maxHeartbeats 4000000
set_option maxRecDepth 20000
section
variable {E:Env} {w0 w1 w2:World} {X0 Y:Nat->Prop} {Bo:List Value} {N:Nat} {st st':St} {ρ:List Value} {a:Act} {w w':World} {P:Program} {ps:List Prop}
theorem Fr.adopt2 (h:Fr w0 (fun b=>X0 b∨Y b) Bo N st ρ a w) {b:Nat} {T:TypeId} {l:AV} {cs:Array Value} (hb:w.heap[b]?=some (.cells cs T (0,0))) (hnew:w0.heap.size<=b) (hY:Y b) (hno:¬X0 b) (hown:∀ x∈st.ck,¬inC ρ x.1 b)
    (hL:isL l=true) (hm:m ρ (XX (fun b=>X0 b∨Y b) ρ st.ck) w l cs.toList) (h1:∀ c∈cs.toList,c.oneCell'=true) {d:Nat} (hd:d<N) {Y':Nat->Prop} (hY':∀ k,Y' k->Y k) (hYb:¬Y' b) (hg0:gt a d=.pointer (some ⟨b,0,none⟩)) :
    Fr w0 (fun b=>X0 b∨Y' b) Bo N ⟨(d,.ref st.nx 0)::st.sl,(st.nx,.box T l)::st.ck,st.nx+1⟩ (ρ++[.pointer (some ⟨b,0,none⟩)]) a w:=by
 have hk:=h.kn
 have hn:=h.nx
 have hg:(ρ++[Value.pointer (some ⟨b,0,none⟩)])[st.nx]?=some (.pointer (some ⟨b,0,none⟩)):=by
  rw [List.getElem?_append_right (by omega),hn]; simp
 have hnb:∀ {k:Nat},inC (ρ++[Value.pointer (some ⟨b,0,none⟩)]) st.nx k->b=k:=fun h=>by rw [inC_of hg] at h; exact Option.some.inj h
 have hold:∀ x∈st.ck,inC (ρ++[Value.pointer (some ⟨b,0,none⟩)]) x.1=inC ρ x.1:=fun x hx=>blkO_app (by rw [hn]; exact hk x hx)
 have hXX:∀ k,XX (fun b=>X0 b∨Y' b) (ρ++[Value.pointer (some ⟨b,0,none⟩)]) ((st.nx,.box T l)::st.ck) k->XX (fun b=>X0 b∨Y b) ρ st.ck k:=by
  rintro k ((h'|h')|⟨x,hx,h'⟩)
  ·exact .inl (.inl h')
  ·exact .inl (.inr (hY' k h'))
  ·rcases List.mem_cons.1 hx with rfl|hx
   ·have h':=hnb h'; subst h'; exact .inl (.inr hY)
   ·rw [hold x hx] at h'; exact .inr ⟨x,hx,h'⟩
 have tr:∀ {x:AV} {vs:List Value},m ρ (XX (fun b=>X0 b∨Y b) ρ st.ck) w x vs->m (ρ++[Value.pointer (some ⟨b,0,none⟩)]) (XX (fun b=>X0 b∨Y' b) (ρ++[Value.pointer (some ⟨b,0,none⟩)]) ((st.nx,.box T l)::st.ck)) w x vs:=fun hx=>m_app' _ (m_anti (fun k hk=>.inl (hXX k hk)) hx)
 refine ⟨h.dn,h.sz,h.kp,by simp [hn],?_,?_,?_,?_,?_,?_,?_⟩
 ·simp only [List.map_cons,List.nodup_cons]
  refine ⟨fun hm=>?_,h.nd⟩
  obtain ⟨y,hy,e⟩:=List.mem_map.1 hm
  have:=hk y hy
  omega
 ·intro y hy
  rcases List.mem_cons.1 hy with rfl|hy
  ·exact Nat.lt_succ_self _
  ·exact Nat.lt_succ_of_lt (hk y hy)
 ·intro y hy k e
  rcases List.mem_cons.1 hy with rfl|hy
  ·have e:=hnb e; subst e; exact ⟨heap_lt hb,.inl hnew⟩
  ·rw [hold y hy] at e; exact h.bl y hy k e
 ·intro y hy z hz hne k e1 e2
  rcases List.mem_cons.1 hy with rfl|hy<;>rcases List.mem_cons.1 hz with rfl|hz
  ·exact hne rfl
  ·have e1:=hnb e1; subst e1
   rw [hold z hz] at e2
   exact hown z hz e2
  ·have e2:=hnb e2; subst e2
   rw [hold y hy] at e1
   exact hown y hy e1
  ·rw [hold y hy] at e1
   rw [hold z hz] at e2
   exact h.dj y hy z hz hne k e1 e2
 ·intro y hy
  rcases List.mem_cons.1 hy with rfl|hy
  ·exact ⟨hL,b,cs,hg,hb,tr hm,h1⟩
  ·exact cm_app _ (cm_tr (h.cs y hy) (fun k hk=>.inl (hXX k hk)) ⟨Nat.le_refl _,fun _ _ _=>rfl⟩ fun _ _=>rfl)
 ·intro t y hy
  rcases Nat.decEq d t with e|e
  ·have hb2:Nat.beq d t=false:=by
     cases hq:Nat.beq d t with
     | false=>rfl
     | true=>exact absurd (Nat.eq_of_beq_eq_true hq) e
   simp only [get?,hb2] at hy
   exact tr (h.sl t y hy)
  ·subst e
   simp only [get?,Nat.beq_refl] at hy
   cases hy
   rw [hg0]
   exact ⟨_,b,hg,rfl,rfl⟩
 ·have hp:=h.pn.more hn hk (.pointer (some ⟨b,0,none⟩)) (.box T l)
  exact ⟨fun b hb=>⟨(hp.bo b hb).1,fun hx=>(hp.bo b hb).2 (hx.imp id (hY' b))⟩,hp.le,hp.pn⟩
theorem Fr.aside {X2:Nat->Prop} (h:Fr w0 X0 Bo N st ρ a w) (hb:Below w.heap.size w w2) (hX:∀ b,X2 b->X0 b∨w.heap.size<=b) (hB:∀ b,X2 b->w0.heap.size<=b∨X0 b):Fr w0 X2 Bo N st ρ a w2:=by
 have hE:Ev (XX X0 ρ st.ck) w w2:=Ev.of_below hb
 have hXX:∀ b,XX X2 ρ st.ck b->XX X0 ρ st.ck b∨w.heap.size<=b:=by
  rintro b (hb|hb)
  ·rcases hX b hb with h'|h'
   ·exact .inl (.inl h')
   ·exact .inr h'
  ·exact .inl (.inr hb)
 refine ⟨h.dn,h.sz,h.kp.below hb,h.nx,h.nd,h.kn,fun x hx b e=>?_,h.dj,fun x hx=>?_,fun t x hx=>m_tr (h.sl t x hx) hXX hE,⟨fun b hb=>⟨(h.pn.bo b hb).1,fun hx=>?_⟩,h.pn.le,h.pn.pn⟩⟩
 ·have:=h.bl x hx b e; exact ⟨Nat.lt_of_lt_of_le this.1 hb.size,this.2⟩
 ·exact cm_tr (h.cs x hx) hXX hE fun b e=>hb.block b (h.bl x hx b e).1
 ·rcases hB b hx with h'|h'
  ·have:=(h.pn.bo b hb).1; omega
  ·exact (h.pn.bo b hb).2 h'
theorem does_skip9 {σ:Operand->Value} {o:Oper} {R:Value->World->Prop} (h:(execOp σ o).run P w=.ok .skip w') (hR:R undef w'):Does P σ o w R:=by
 unfold Does; rw [h]; exact hR
theorem ptr_inj {b c:Nat} (h:Value.pointer (some ⟨b,0,none⟩)=.pointer (some ⟨c,0,none⟩)):b=c:=by
 injection h with h; injection h with h; injection h
def HandOk (S:Sx) (H:List It->St->Prop):Prop:=∃ (w0:World) (X0:Nat->Prop) (Bo:List Value) (Q:Exit->Act->World->Prop),S.E.Ok/\(∀ b,X0 b->b<w0.heap.size)/\∀ k st,H k st↔(okK S.an S.N k=true->∀ ρ a w,Fr w0 X0 Bo S.N st ρ a w->sem S.E.P Q k .normal a w)
theorem HOk.hand {S:Sx} {H:List It->St->Prop} (hH:HOk S H) {k:List It} {st:St} (h:∀ H',HOk S H'->HandOk S H'->H' k st) (hok:okK S.an S.N k=true):H k st :=
 hH.raw fun w0 X0 Bo Q hnb hE hX0 hfin ρ a w hf=>h (Hs S.an S.E w0 X0 Bo S.N Q) (hs_ok hnb hE hX0 hfin) ⟨w0,X0,Bo,Q,hE,hX0,fun _ _=>Iff.rfl⟩ hok ρ a w hf
theorem twoN_ok (hE:E.Ok) (hX0:∀ b,X0 b->b<w0.heap.size) (h:Fr w0 X0 Bo N st ρ a w) {rid:Nat} {l:List Oper} {p:Nat} (hlen:l.length=p+4) {T:TypeId} {te:TE} (hT:E.te T=some te) {an:An} {A:Nat->AV} {i1 i3 d1 d3 d4 d5:Nat} {C1 C3:AV} {ds:List (Option Nat)} {M:List Nat} {rows:List (List (Nat×Option Nat))}
    (hgd:l.all (fun o=>o.guard.isNone)=true) (hds:∀ g:Nat,nthO ds g=(l.toArray[g]?).map Oper.dst)
    (hpu:∀ j o,j<p->l[j]?=some o->okOp o.op=true/\∃ (sl1:List (Nat×AV)) (ps:List Prop),ev1 E sl1 st.ck ds o an=some (A j,ps)/\AllP ps/\∀ t,.tmp t∈opL o.op->∀ x,get? sl1 t=some x->((t,none)∈rows.getD j []/\get? st.sl t=some x)∨∃ i,i<p/\(t,some i)∈rows.getD j []/\x=A i/\(M.getD j 0).testBit i=true)
    (hi1:i1<p) (hi3:i3<p) {oa ob oc od:Oper} (ha:l[p]?=some oa) (hb9:l[p+1]?=some ob) (hc:l[p+2]?=some oc) (hd:l[p+3]?=some od)
    (p4:oa.op=.alloc T) (p5:ob.op=.alloc T) (p6:oc.op=.store T (.tmp d4) (.tmp d1)) (p7:od.op=.store T (.tmp d5) (.tmp d3))
    (r6:(d4,some p)∈rows.getD (p+2) []/\(d1,some i1)∈rows.getD (p+2) []/\(M.getD (p+2) 0).testBit p=true/\(M.getD (p+2) 0).testBit i1=true)
    (r7:(d5,some (p+1))∈rows.getD (p+3) []/\(d3,some i3)∈rows.getD (p+3) []/\(M.getD (p+3) 0).testBit (p+1)=true/\(M.getD (p+3) 0).testBit i3=true)
    (c1:cellsA te.ty (A i1) .nil=some C1) (c3:cellsA te.ty (A i3) .nil=some C3)
    (hchk:chk l M rows N=true) (htl:tailB l M (p+4)=true)
    (l4:lw (l.map (·.dst)) (fun _=>true) d4 (p+4)=some p) (l5:lw (l.map (·.dst)) (fun _=>true) d5 (p+4)=some (p+1)) (hd4:d4<N) (hd5:d5<N)
    {sl:List (Nat×AV)} (hsl:∀ t x,get? sl t=some x->get? st.sl t=some x/\lw (l.map (·.dst)) (fun _=>true) t (p+4)=none/\t<N)
    {Q:Exit->Act->World->Prop} (hQ:∀ ρ' a' w',Fr w0 X0 Bo N ⟨(d5,.ref (st.nx+1) 0)::(d4,.ref st.nx 0)::sl,(st.nx+1,.box T C3)::(st.nx,.box T C1)::st.ck,st.nx+2⟩ ρ' a' w'->Q .normal a' w') :
    (Code.region rid l.toArray true).wp E.P Q a w:=by
 obtain ⟨X,hXd⟩:∃ X,XX X0 ρ st.ck=X:=⟨_,rfl⟩
 have hw:=h.wd hX0
 rw [hXd] at hw
 have hf:=hE.fact hT
 obtain ⟨inf,hi,hz,_,_⟩:=hf.info
 have hz2:(te.ty.wrap (zc te.ty)).cells=(zc te.ty).toArray:=wrap_cells (zc_len _) (zc_one _)
 let NB:(Nat->Bool)->(Nat->Value)->Nat->Prop:=fun L val b=>(L p=true/\val p=.pointer (some ⟨b,0,none⟩))∨(L (p+1)=true/\val (p+1)=.pointer (some ⟨b,0,none⟩))
 let XL:(Nat->Bool)->(Nat->Value)->Nat->Prop:=fun L val b=>X b∨NB L val b
 let VV:(Nat->Bool)->(Nat->Value)->World->Nat->Nat->AV->Prop:=fun L val w' i k C=>L i=true->∃ b cs,val i=.pointer (some ⟨b,0,none⟩)/\w.heap.size<=b/\w'.heap[b]?=some (.cells cs T (0,0))/\cs.size=te.ty.size/\(L k=true->isL C=true/\m ρ (XL L val) w' C cs.toList/\∀ c∈cs.toList,c.oneCell'=true)
 let J:(Nat->Bool)->(Nat->Value)->World->Prop:=fun L val w'=>Below w.heap.size w w'/\(∀ i,i<p->L i=true->m ρ (XL L val) w' (A i) [val i]) /\
  VV L val w' p (p+2) C1/\VV L val w' (p+1) (p+3) C3/\(L p=true->L (p+1)=true->val p≠val (p+1))/\(L (p+2)=true->L p=true)/\(L (p+3)=true->L (p+1)=true)
 have hXsz:∀ b,X b->b<w.heap.size:=hw.lt
 have hzs:(zc te.ty).toArray.size=te.ty.size:=by simp [zc_len]
 have nbge:∀ {L:Nat->Bool} {val:Nat->Value} {w':World},J L val w'->∀ b,NB L val b->w.heap.size<=b/\b<w'.heap.size:=by
  rintro L val w' ⟨_,_,m4,m5,_⟩ b (⟨h1,h2⟩|⟨h1,h2⟩)
  ·obtain ⟨b',cs,b1,b2,b3,_⟩:=m4 h1
   have:=ptr_inj (b1.symm.trans h2)
   subst this
   exact ⟨b2,heap_lt b3⟩
  ·obtain ⟨b',cs,b1,b2,b3,_⟩:=m5 h1
   have:=ptr_inj (b1.symm.trans h2)
   subst this
   exact ⟨b2,heap_lt b3⟩
 have pure:∀ {L:Nat->Bool} {val:Nat->Value} {w':World} (j:Nat) (v:Value) (w'':World),j<p->J L val w'->L j=false->m ρ (XL L val) w'' (A j) [v]->Below w'.heap.size w' w''->J (up L j) (upv val j v) w'':=by
  rintro L val w' j v w'' hj ⟨h1,mp,m4,m5,m6,m7,m8⟩ hL hm hb
  have n4:∀ i,p<=i->up L j i=L i:=fun i hi=>by simp [up,show i≠j by omega]
  have n5:∀ i,p<=i->upv val j v i=val i:=fun i hi=>by simp [upv,show i≠j by omega]
  have hXL:XL (up L j) (upv val j v)=XL L val:=by
   show (fun b=>X b∨_)=fun b=>X b∨_
   funext b
   show (X b∨(up L j p=true/\upv val j v p=_)∨(up L j (p+1)=true/\upv val j v (p+1)=_))=_
   rw [n4 p (by omega),n4 (p+1) (by omega),n5 p (by omega),n5 (p+1) (by omega)]
  have hst:∀ {y vs},m ρ (XL L val) w' y vs->m ρ (XL L val) w'' y vs:=fun hh=>m_st (Ev.of_below hb) hh
  have one:∀ i,i<p->up L j i=true->m ρ (XL (up L j) (upv val j v)) w'' (A i) [upv val j v i]:=by
   intro i hi hu
   rw [hXL]
   by_cases e:i=j
   ·subst e
    simp only [upv,if_true]
    exact hm
   ·simp only [up,e,if_false] at hu
    simp only [upv,e,if_false]
    exact hst (mp i hi hu)
  have two:∀ {i k:Nat} {C:AV},p<=i->p<=k->VV L val w' i k C->VV (up L j) (upv val j v) w'' i k C:=by
   intro i k C hi hk hv hu
   rw [n4 i hi] at hu
   obtain ⟨b,cs,b1,b2,b3,b4,b5⟩:=hv hu
   rw [n5 i hi,n4 k hk,hXL]
   exact ⟨b,cs,b1,b2,(hb.block b (heap_lt b3)).trans b3,b4,fun h6=>⟨(b5 h6).1,hst (b5 h6).2.1,(b5 h6).2.2⟩⟩
  refine ⟨h1.trans (hb.mono h1.size),one,two (by omega) (by omega) m4,two (by omega) (by omega) m5,fun u1 u2=>?_,fun hu=>?_,fun hu=>?_⟩
  ·rw [n4 p (by omega)] at u1
   rw [n4 (p+1) (by omega)] at u2
   rw [n5 p (by omega),n5 (p+1) (by omega)]
   exact m6 u1 u2
  ·rw [n4 (p+2) (by omega)] at hu
   rw [n4 p (by omega)]
   exact m7 hu
  ·rw [n4 (p+3) (by omega)] at hu
   rw [n4 (p+1) (by omega)]
   exact m8 hu
 have wdn:∀ {L:Nat->Bool} {val:Nat->Value} {w':World},J L val w'->Wd 0 ρ (XL L val) st.ck w':=fun {L val w'} hJ=>⟨fun b hx=>by
     rcases hx with hx|hx
     ·exact Nat.lt_of_lt_of_le (hXsz b hx) hJ.1.size
     ·exact (nbge hJ b hx).2,fun x hx=>cm_tr (hw.cs x hx) (fun b hb=>by
     rcases hb with hb|hb
     ·exact .inl hb
     ·exact .inr (nbge hJ b hb).1) (Ev.of_below hJ.1) fun b e=>hJ.1.block b (h.bl x hx b e).1⟩
 have base:∀ {L:Nat->Bool} {val:Nat->Value} {w':World} {a':Act} {t:Nat},J L val w'->gt a' t=gt a t->∀ x,get? st.sl t=some x->m ρ (XL L val) w' x [gt a' t]:=by
  intro L val w' a' t hJ hg x hx
  rw [hg]
  have:=h.sl t x hx
  rw [hXd] at this
  exact m_tr this (fun b hb=>by
   rcases hb with hb|hb
   ·exact .inl hb
   ·exact .inr (nbge hJ b hb).1) (Ev.of_below hJ.1)
 have news:∀ {L:Nat->Bool} {val:Nat->Value} {w':World} (j:Nat),(j=p∨j=p+1)->J L val w'->L j=false->L (p+2)=false∨j=p+1->L (p+3)=false∨j=p->J (up L j) (upv val j (.pointer (some ⟨w'.heap.size,0,none⟩))) (w'.alloc (.cells (zc te.ty).toArray T)):=by
  rintro L val w' j hj ⟨h1,mp,m4,m5,m6,m7,m8⟩ hL h6 h7
  have hb:=below_alloc w' (.cells (zc te.ty).toArray T)
  have hcell:(w'.alloc (.cells (zc te.ty).toArray T)).heap[w'.heap.size]?=some (.cells (zc te.ty).toArray T (0,0)):=heap_alloc_new w' _
  generalize hW:w'.alloc (.cells (zc te.ty).toArray T)=W at hb hcell ⊢
  generalize hV:Value.pointer (some ⟨w'.heap.size,0,none⟩)=V at *
  have hn:∀ i,i≠j->up L j i=L i:=fun i hi=>by simp [up,hi]
  have hv:∀ i,i≠j->upv val j V i=val i:=fun i hi=>by simp [upv,hi]
  have hj':up L j j=true:=by simp [up]
  have hvj:upv val j V j=V:=by simp [upv]
  have hXX:∀ b,XL (up L j) (upv val j V) b->XL L val b∨w'.heap.size<=b:=by
   have hk:∀ i b,(up L j i=true/\upv val j V i=.pointer (some ⟨b,0,none⟩))->(L i=true/\val i=.pointer (some ⟨b,0,none⟩))∨w'.heap.size<=b:=by
    intro i b ⟨u1,u2⟩
    by_cases e:i=j
    ·subst e
     rw [hvj,<-hV] at u2
     exact .inr (Nat.le_of_eq (ptr_inj u2))
    ·rw [hn i e] at u1
     rw [hv i e] at u2
     exact .inl ⟨u1,u2⟩
   rintro b (hx|hx|hx)
   ·exact .inl (.inl hx)
   ·exact (hk p b hx).imp (fun hx=>.inr (.inl hx)) id
   ·exact (hk (p+1) b hx).imp (fun hx=>.inr (.inr hx)) id
  have hst:∀ {y vs},m ρ (XL L val) w' y vs->m ρ (XL (up L j) (upv val j V)) W y vs:=fun hh=>m_tr hh hXX (Ev.of_below hb)
  have one:∀ i,i<p->up L j i=true->m ρ (XL (up L j) (upv val j V)) W (A i) [upv val j V i]:=by
   intro i hi hu
   rw [hn i (by omega)] at hu
   rw [hv i (by omega)]
   exact hst (mp i hi hu)
  have old:∀ {i k:Nat} {C:AV},i≠j->k≠j->VV L val w' i k C->VV (up L j) (upv val j V) W i k C:=by
   intro i k C hij hkj hold hu
   rw [hn i hij] at hu
   obtain ⟨b,cs,b1,b2,b3,b4,b5⟩:=hold hu
   rw [hv i hij,hn k hkj]
   exact ⟨b,cs,b1,b2,(hb.block b (heap_lt b3)).trans b3,b4,fun h6=>⟨(b5 h6).1,hst (b5 h6).2.1,(b5 h6).2.2⟩⟩
  have nw:∀ {k:Nat} {C:AV},k≠j->L k=false->VV (up L j) (upv val j V) W j k C:=by
   intro k C hk hL _
   refine ⟨w'.heap.size,_,by rw [hvj,hV],h1.size,hcell,hzs,fun h8=>?_⟩
   rw [hn k hk,hL] at h8
   cases h8
  rcases hj with hj|hj
  ·subst j
   refine ⟨h1.trans (hb.mono h1.size),one,nw (by omega) (h6.resolve_right (by omega)),old (by omega) (by omega) m5,fun _ u2=>?_,fun _=>hj',fun h8=>by rw [hn (p+3) (by omega)] at h8; rw [hn (p+1) (by omega)]; exact m8 h8⟩
   rw [hn (p+1) (by omega)] at u2
   rw [hvj,hv (p+1) (by omega)]
   obtain ⟨b,cs,b1,b2,b3,_⟩:=m5 u2
   rw [b1,<-hV]
   intro e
   have:=ptr_inj e
   have:=heap_lt b3
   omega
  ·subst j
   refine ⟨h1.trans (hb.mono h1.size),one,old (by omega) (by omega) m4,nw (by omega) (h7.resolve_right (by omega)),fun u1 _=>?_,fun h8=>by rw [hn (p+2) (by omega)] at h8; rw [hn p (by omega)]; exact m7 h8,fun _=>hj'⟩
   rw [hn p (by omega)] at u1
   rw [hvj,hv p (by omega)]
   obtain ⟨b,cs,b1,b2,b3,_⟩:=m4 u1
   rw [b1,<-hV]
   intro e
   have:=ptr_inj e
   have:=heap_lt b3
   omega
 have sto:∀ {L:Nat->Bool} {val:Nat->Value} {w':World} {a':Act} {dp dv iv jv kv:Nat} {A C:AV} {o:Oper},J L val w'->o.op=.store T (.tmp dp) (.tmp dv)->gt a' dp=val jv->gt a' dv=val iv->L jv=true->(jv=p∨jv=p+1)->VV L val w' jv kv C->m ρ (XL L val) w' A [val iv]->cellsA te.ty A .nil=some C ->
     ∃ b w'',val jv=.pointer (some ⟨b,0,none⟩)/\(execOp a'.eval o).run E.P w'=.ok .skip w''/\w''.heap[b]?=some (.cells (val iv).cells T (0,0))/\(∀ k,k≠b->w''.heap[k]?=w'.heap[k]?)/\Below w.heap.size w w''/\Ev (XL L val) w' w''/\w.heap.size<=b/\isL C=true/\(val iv).cells.size=te.ty.size/\(∀ c∈(val iv).cells.toList,c.oneCell'=true)/\m ρ (XL L val) w'' C (val iv).cells.toList:=by
  intro L val w' a' dp dv iv jv kv A C o hJ hop hgp hgv hLj hjv hVV hm hc
  obtain ⟨b,cs,b1,b2,b3,b4,_⟩:=hVV hLj
  obtain ⟨r1,r2,r3,r4,r5⟩:=cellsA_ok hc rfl hm (show m ρ (XL L val) w' .nil [] from rfl)
  rw [List.append_nil] at r1
  have hrun:=run_storeVar (P:=E.P) (w:=w') hf (off:=0) b3 (cs:=(val iv).cells.toList) (by simpa using r2) r4 (by omega)
  rw [<-r5] at hrun
  have hrow:(cs.toList.take 0++(val iv).cells.toList++cs.toList.drop (0+te.ty.size)).toArray=(val iv).cells:=by
   rw [List.take_zero,List.nil_append,Nat.zero_add,List.drop_of_length_le (by simpa using Nat.le_of_eq b4),List.append_nil]
  rw [hrow] at hrun
  have hoth:∀ k,k≠b->(w'.setRow b (val iv).cells).heap[k]?=w'.heap[k]?:=fun k hk=>setRow_other w' b k _ hk
  have hsz:(w'.setRow b (val iv).cells).heap.size=w'.heap.size:=size_setRow _ _ _
  have hNB:NB L val b:=by
   rcases hjv with rfl|rfl
   ·exact .inl ⟨hLj,b1⟩
   ·exact .inr ⟨hLj,b1⟩
  have hev:Ev (XL L val) w' (w'.setRow b (val iv).cells):=⟨Nat.le_of_eq hsz.symm,fun k _ hk=>hoth k fun e=>hk (by rw [e]; exact .inr hNB)⟩
  refine ⟨b,w'.setRow b (val iv).cells,b1,?_,setRow_heap w' b cs _ T _ b3,hoth,⟨hJ.1.os,hJ.1.tape,hJ.1.output,by rw [hsz]; exact hJ.1.size,fun k hk=>(hoth k (by omega)).trans (hJ.1.block k hk)⟩,hev,b2,r3,r2,r4,m_st hev r1⟩
  obtain ⟨dst,op,ty,pos,af,gd⟩:=o
  dsimp only at hop
  subst hop
  have x1:a'.eval (.tmp dp)=.pointer (some ⟨b,0,none⟩):=hgp.trans b1
  have x2:a'.eval (.tmp dv)=val iv:=hgv
  simp only [execOp,x1,x2,Instr.storeAt,Instr.sureAddr,Sem.run_bind,Sem.run_pure,Result.andThen_ok,hrun]
 have sto2:∀ {L:Nat->Bool} {val:Nat->Value} {w' w'':World} {b j jv i2 k2:Nat} {C C2:AV} {cs:Array Value},J L val w'->(j=p+2/\jv=p/\i2=p+1/\k2=p+3/\C=C1/\C2=C3∨j=p+3/\jv=p+1/\i2=p/\k2=p+2/\C=C3/\C2=C1)->L jv=true->val jv=.pointer (some ⟨b,0,none⟩)->w''.heap[b]?=some (.cells cs T (0,0))->(∀ k,k≠b->w''.heap[k]?=w'.heap[k]?)->Below w.heap.size w w''->Ev (XL L val) w' w''->w.heap.size<=b->isL C=true->cs.size=te.ty.size->(∀ c∈cs.toList,c.oneCell'=true)->m ρ (XL L val) w'' C cs.toList->VV L val w' i2 k2 C2->J (up L j) (upv val j undef) w'':=by
  rintro L val w' w'' b j jv i2 k2 C C2 cs ⟨h1,mp,m4,m5,m6,m7,m8⟩ hcase hLj hvj s2 s3 sb hev hge s5 s6 s7 s8 hV2
  have hj67:j=p+2∨j=p+3:=by omega
  have n4:∀ i,i<p+2->up L j i=L i:=fun i hi=>by simp [up,show i≠j by omega]
  have n5:∀ i,i<p+2->upv val j undef i=val i:=fun i hi=>by simp [upv,show i≠j by omega]
  have hXL:XL (up L j) (upv val j undef)=XL L val:=by
   show (fun b=>X b∨_)=fun b=>X b∨_
   funext b
   show (X b∨(up L j p=true/\upv val j undef p=_)∨(up L j (p+1)=true/\upv val j undef (p+1)=_))=_
   rw [n4 p (by omega),n4 (p+1) (by omega),n5 p (by omega),n5 (p+1) (by omega)]
  have one:∀ i,i<p->up L j i=true->m ρ (XL (up L j) (upv val j undef)) w'' (A i) [upv val j undef i]:=by
   intro i hi hu
   rw [n4 i (by omega)] at hu
   rw [n5 i (by omega),hXL]
   exact m_st hev (mp i hi hu)
  have v1:∀ k,k=j->VV (up L j) (upv val j undef) w'' jv k C:=by
   intro k hk hu
   refine ⟨b,cs,by rw [n5 jv (by omega)]; exact hvj,hge,s2,s6,fun _=>?_⟩
   rw [hXL]
   exact ⟨s5,s8,s7⟩
  have v2:VV (up L j) (upv val j undef) w'' i2 k2 C2:=by
   intro hu
   rw [n4 i2 (by omega)] at hu
   obtain ⟨b',cs',b1,b2,b3,b4,b5⟩:=hV2 hu
   have hne:b'≠b:=by
    intro e
    subst e
    rcases hcase with ⟨_,rfl,rfl,_⟩|⟨_,rfl,rfl,_⟩
    ·exact m6 hLj hu (hvj.trans b1.symm)
    ·exact m6 hu hLj (b1.trans hvj.symm)
   have hk2:up L j k2=L k2:=by
    have:k2≠j:=by omega
    simp [up,this]
   rw [n5 i2 (by omega),hk2,hXL]
   exact ⟨b',cs',b1,b2,(s3 b' hne).trans b3,b4,fun h6=>⟨(b5 h6).1,m_st hev (b5 h6).2.1,(b5 h6).2.2⟩⟩
  have e4:up L j p=L p:=n4 p (by omega)
  have e5:up L j (p+1)=L (p+1):=n4 (p+1) (by omega)
  have f4:upv val j undef p=val p:=n5 p (by omega)
  have f5:upv val j undef (p+1)=val (p+1):=n5 (p+1) (by omega)
  have last:(up L j p=true->up L j (p+1)=true->upv val j undef p≠upv val j undef (p+1))/\(up L j (p+2)=true->up L j p=true)/\(up L j (p+3)=true->up L j (p+1)=true):=by
   rw [e4,e5,f4,f5]
   refine ⟨m6,fun hu=>?_,fun hu=>?_⟩
   ·by_cases e:p+2=j
    ·rcases hcase with ⟨_,rfl,_⟩|⟨e2,_⟩
     ·exact hLj
     ·omega
    ·simp only [up,e,if_false] at hu; exact m7 hu
   ·by_cases e:p+3=j
    ·rcases hcase with ⟨e2,_⟩|⟨_,rfl,_⟩
     ·omega
     ·exact hLj
    ·simp only [up,e,if_false] at hu; exact m8 hu
  rcases hcase with ⟨e1,e2,e3,e4',e5',e6'⟩|⟨e1,e2,e3,e4',e5',e6'⟩<;>subst j jv i2 k2 C C2
  ·exact ⟨sb,one,v1 (p+2) rfl,v2,last⟩
  ·exact ⟨sb,one,v2,v1 (p+3) rfl,last⟩
 refine regionJ (l:=l) (a0:=a) (w0:=w) hE.mx J M rows (p+4) h.sz hchk htl ?_ ?_ ?_
 ·exact ⟨⟨rfl,rfl,rfl,Nat.le_refl _,fun _ _=>rfl⟩,(fun _ _ h=>by cases h),(fun h=>by cases h),(fun h=>by cases h),(fun h=>by cases h),(fun h=>by cases h),(fun h=>by cases h)⟩
 ·intro j o hj ho L val a' w' hJ hL hmask hr
  obtain ⟨hb',mp,m4,m5,m6,m7,m8⟩:=hJ
  have hJ:J L val w':=⟨hb',mp,m4,m5,m6,m7,m8⟩
  have hgo:o.guard=none:=Option.isNone_iff_eq_none.1 (List.all_eq_true.1 hgd o (List.mem_of_getElem? ho))
  have ng:∀ {X:Prop},¬gok l.toArray o a'->X:=fun hn=>absurd (by unfold gok; rw [hgo]; trivial) hn
  rcases Nat.lt_or_ge j p with hjp|hjp
  ·obtain ⟨k1,sl1,ps,k2,k3,k4⟩:=hpu j o hjp ho
   have:=ev1_ok (sl:=sl1) (a:=a') hE (wdn hJ) hds k1 (fun t ht x hx=>by
    rcases k4 t ht x hx with ⟨y1,y2⟩|⟨i,y1,y2,y3,y4⟩
    ·exact base hJ (hr _ y1) x y2
    ·have hg:=hr _ y2
     subst y3
     have hg:gt a' t=val i:=hg
     rw [hg]
     exact mp i y1 (hmask i y4)) (fun g w' hgd=>by rw [hgo] at hgd; cases hgd) k2 k3
   exact ⟨fun hg=>Does.imp (this.1 hg) fun v w'' ⟨r1,r2⟩=>pure j v w'' hjp hJ hL r1 r2,ng⟩
  have hj4:j=p∨j=p+1∨j=p+2∨j=p+3:=by omega
  rcases hj4 with hj4|hj4|hj4|hj4<;>subst j
  ·have ho:=Option.some.inj (ho.symm.trans ha)
   subst ho
   refine ⟨fun _=>does_val (v:=.pointer (some ⟨w'.heap.size,0,none⟩)) (w':=w'.alloc (.cells (zc te.ty).toArray T)) ?_ (news p (.inl rfl) hJ hL (.inl ?_) (.inr rfl)),ng⟩
   ·obtain ⟨dst,op,ty,pos,af,gd⟩:=o
    dsimp only at p4
    subst p4
    simp [execOp,Instr.alloc,zeroValue,typeInfo,hi,hz,newVar,newRow,hz2]
   ·cases e6:L (p+2) with
    | false=>rfl
    | true=>have:=m7 e6; rw [hL] at this; cases this
  ·have ho:=Option.some.inj (ho.symm.trans hb9)
   subst ho
   refine ⟨fun _=>does_val (v:=.pointer (some ⟨w'.heap.size,0,none⟩)) (w':=w'.alloc (.cells (zc te.ty).toArray T)) ?_ (news (p+1) (.inr rfl) hJ hL (.inr rfl) (.inl ?_)),ng⟩
   ·obtain ⟨dst,op,ty,pos,af,gd⟩:=o
    dsimp only at p5
    subst p5
    simp [execOp,Instr.alloc,zeroValue,typeInfo,hi,hz,newVar,newRow,hz2]
   ·cases e6:L (p+3) with
    | false=>rfl
    | true=>have:=m8 e6; rw [hL] at this; cases this
  ·have ho:=Option.some.inj (ho.symm.trans hc)
   subst ho
   have l4':=hmask p r6.2.2.1
   obtain ⟨b,w'',s0,s1,s2,s3,s4,s5,s6,s7,s8,s9,s10⟩:=sto (jv:=p) (iv:=i1) (kv:=p+2) hJ p6 (hr _ r6.1) (hr _ r6.2.1) l4' (.inl rfl) m4 (mp i1 hi1 (hmask i1 r6.2.2.2)) c1
   exact ⟨fun _=>does_skip9 s1 (sto2 hJ (.inl ⟨rfl,rfl,rfl,rfl,rfl,rfl⟩) l4' s0 s2 s3 s4 s5 s6 s7 s8 s9 s10 m5),ng⟩
  ·have ho:=Option.some.inj (ho.symm.trans hd)
   subst ho
   have l5':=hmask (p+1) r7.2.2.1
   obtain ⟨b,w'',s0,s1,s2,s3,s4,s5,s6,s7,s8,s9,s10⟩:=sto (jv:=p+1) (iv:=i3) (kv:=p+3) hJ p7 (hr _ r7.1) (hr _ r7.2.1) l5' (.inr rfl) m5 (mp i3 hi3 (hmask i3 r7.2.2.2)) c3
   exact ⟨fun _=>does_skip9 s1 (sto2 hJ (.inr ⟨rfl,rfl,rfl,rfl,rfl,rfl⟩) l5' s0 s2 s3 s4 s5 s6 s7 s8 s9 s10 m4),ng⟩
 ·intro v w' hJ
  obtain ⟨hb,mp,m4,m5,m6,m7,m8⟩:=hJ
  have t8:∀ i,i<p+4->decide (i<p+4)=true:=fun i hi=>decide_eq_true hi
  obtain ⟨b,cs,b1,b2,b3,b4,b5⟩:=m4 (t8 p (by omega))
  obtain ⟨b',cs',b1',b2',b3',b4',b5'⟩:=m5 (t8 (p+1) (by omega))
  have hne:b≠b':=fun e=>m6 (t8 p (by omega)) (t8 (p+1) (by omega)) (by rw [b1,b1',e])
  obtain ⟨r1,r2,r3⟩:=b5 (t8 (p+2) (by omega))
  obtain ⟨r1',r2',r3'⟩:=b5' (t8 (p+3) (by omega))
  have hXe:XL (fun i=>decide (i<p+4)) v=XX (fun k=>X0 k∨(k=b∨k=b')) ρ st.ck:=by
   funext k
   refine propext ⟨fun hk=>?_,fun hk=>?_⟩
   ·rcases hk with hk|hk|hk
    ·rw [<-hXd] at hk
     rcases hk with hk|hk
     ·exact .inl (.inl hk)
     ·exact .inr hk
    ·exact .inl (.inr (.inl (ptr_inj (hk.2.symm.trans b1))))
    ·exact .inl (.inr (.inr (ptr_inj (hk.2.symm.trans b1'))))
   ·rcases hk with (hk|hk|hk)|hk
    ·exact .inl (by rw [<-hXd]; exact .inl hk)
    ·exact .inr (.inl ⟨t8 p (by omega),by rw [b1,hk]⟩)
    ·exact .inr (.inr ⟨t8 (p+1) (by omega),by rw [b1',hk]⟩)
    ·exact .inl (by rw [<-hXd]; exact .inr hk)
  rw [hXe] at r2 r2'
  have hdr:l.drop (p+4)=[]:=List.drop_of_length_le (by omega)
  rw [hdr]
  refine wpList_nil ?_
  have hge:∀ t,t<N->t<a.tmps.size:=fun t ht=>by rw [h.sz]; exact ht
  have gp:=fun t (ht:t<N)=>gt_puts a v l t (hge t ht) (p+4) (by omega)
  have x4:gt (puts a (l.take (p+4)) v 0) d4=.pointer (some ⟨b,0,none⟩):=by rw [gp d4 hd4,l4]; exact b1
  have x5:gt (puts a (l.take (p+4)) v 0) d5=.pointer (some ⟨b',0,none⟩):=by rw [gp d5 hd5,l5]; exact b1'
  have f0:Fr w0 (fun k=>X0 k∨(k=b∨k=b')) Bo N st ρ a w':=h.aside (hX:=fun k hk=>by
   rcases hk with hk|hk|hk
   ·exact .inl hk
   ·exact .inr (by omega)
   ·exact .inr (by omega)) (hB:=fun k hk=>by
   rcases hk with hk|hk|hk
   ·exact .inr hk
   ·exact .inl (by have:=h.kp.size; omega)
   ·exact .inl (by have:=h.kp.size; omega)) hb
  have f1:Fr w0 (fun k=>X0 k∨(k=b∨k=b')) Bo N ⟨sl,st.ck,st.nx⟩ ρ (puts a (l.take (p+4)) v 0) w':=⟨by rw [puts_defers]; exact f0.dn,by rw [puts_size]; exact f0.sz,f0.kp,f0.nx,f0.nd,f0.kn,f0.bl,f0.dj,f0.cs,fun t x hx=>by
   obtain ⟨y1,y2,y3⟩:=hsl t x hx
   rw [gp t y3,y2]
   exact f0.sl t x y1,f0.pn⟩
  have hsz0:=h.kp.size
  have f2:=f1.adopt2 (Y:=fun k=>k=b∨k=b') (Y':=fun k=>k=b') b3 (by omega) (.inl rfl) (fun hx=>by have:=hX0 b hx; omega) (fun x hx e=>by have:=(h.bl x hx b e).1; omega) r1 r2 r3 hd4 (fun k hk=>.inr hk) hne x4
  have r4':m (ρ++[.pointer (some ⟨b,0,none⟩)]) (XX (fun k=>X0 k∨k=b') (ρ++[.pointer (some ⟨b,0,none⟩)]) ((st.nx,.box T C1)::st.ck)) w' C3 cs'.toList:=by
   refine m_app' _ (m_anti (fun k hk=>.inl ?_) r2')
   rcases hk with (hk|hk)|⟨x,hx,hk⟩
   ·exact .inl (.inl hk)
   ·exact .inl (.inr (.inr hk))
   ·rcases List.mem_cons.1 hx with rfl|hx
    ·have:b=k:=by
       rw [inC_of (show (ρ++[Value.pointer (some ⟨b,0,none⟩)])[st.nx]?=some (.pointer (some ⟨b,0,none⟩)) by have:=h.nx; rw [List.getElem?_append_right (by omega),this]; simp)] at hk
       exact Option.some.inj hk
     exact .inl (.inr (.inl this.symm))
    ·rw [show inC (ρ++[Value.pointer (some ⟨b,0,none⟩)]) x.1=inC ρ x.1 from blkO_app (by have:=h.kn x hx; have:=h.nx; omega)] at hk
     exact .inr ⟨x,hx,hk⟩
  have f3:=Fr.adopt2 (X0:=X0) (Y:=fun k=>k=b') (Y':=fun _=>False) f2 b3' (by omega) rfl (fun hx=>by have:=hX0 b' hx; omega) (fun x hx e=>by
   rcases List.mem_cons.1 hx with rfl|hx
   ·rw [inC_of (show (ρ++[Value.pointer (some ⟨b,0,none⟩)])[st.nx]?=some (.pointer (some ⟨b,0,none⟩)) by have:=h.nx; rw [List.getElem?_append_right (by omega),this]; simp)] at e
    exact hne (Option.some.inj e)
   ·rw [show inC (ρ++[Value.pointer (some ⟨b,0,none⟩)]) x.1=inC ρ x.1 from blkO_app (by have:=h.kn x hx; have:=h.nx; omega)] at e
    have:=(h.bl x hx b' e).1; omega) r1' r4' r3' hd5 (fun _ h=>h.elim) (fun h=>h) x5
  have eX:(fun k=>X0 k∨False)=X0:=by funext k; simp
  rw [eX] at f3
  exact hQ _ _ _ f3
theorem twoN_H {S:Sx} {H:List It->St->Prop} (hh:HandOk S H) {k:List It} {st:St} {rid:Nat} {l:List Oper} {p:Nat} (hlen:l.length=p+4) {T:TypeId} {te:TE} (hT:S.E.te T=some te) {an:An} {A:Nat->AV} {i1 i3 d1 d3 d4 d5:Nat} {C1 C3:AV} {ds:List (Option Nat)} {M:List Nat} {rows:List (List (Nat×Option Nat))}
    (hgd:l.all (fun o=>o.guard.isNone)=true) (hds:∀ g:Nat,nthO ds g=(l.toArray[g]?).map Oper.dst)
    (hpu:∀ j o,j<p->l[j]?=some o->okOp o.op=true/\∃ (sl1:List (Nat×AV)) (ps:List Prop),ev1 S.E sl1 st.ck ds o an=some (A j,ps)/\AllP ps/\∀ t,.tmp t∈opL o.op->∀ x,get? sl1 t=some x->((t,none)∈rows.getD j []/\get? st.sl t=some x)∨∃ i,i<p/\(t,some i)∈rows.getD j []/\x=A i/\(M.getD j 0).testBit i=true)
    (hi1:i1<p) (hi3:i3<p) {oa ob oc od:Oper} (ha:l[p]?=some oa) (hb9:l[p+1]?=some ob) (hc:l[p+2]?=some oc) (hd:l[p+3]?=some od)
    (p4:oa.op=.alloc T) (p5:ob.op=.alloc T) (p6:oc.op=.store T (.tmp d4) (.tmp d1)) (p7:od.op=.store T (.tmp d5) (.tmp d3))
    (r6:(d4,some p)∈rows.getD (p+2) []/\(d1,some i1)∈rows.getD (p+2) []/\(M.getD (p+2) 0).testBit p=true/\(M.getD (p+2) 0).testBit i1=true)
    (r7:(d5,some (p+1))∈rows.getD (p+3) []/\(d3,some i3)∈rows.getD (p+3) []/\(M.getD (p+3) 0).testBit (p+1)=true/\(M.getD (p+3) 0).testBit i3=true)
    (c1:cellsA te.ty (A i1) .nil=some C1) (c3:cellsA te.ty (A i3) .nil=some C3)
    (hchk:chk l M rows S.N=true) (htl:tailB l M (p+4)=true)
    (l4:lw (l.map (·.dst)) (fun _=>true) d4 (p+4)=some p) (l5:lw (l.map (·.dst)) (fun _=>true) d5 (p+4)=some (p+1)) (hd4:d4<S.N) (hd5:d5<S.N)
    {sl:List (Nat×AV)} (hsl:∀ t x,get? sl t=some x->get? st.sl t=some x/\lw (l.map (·.dst)) (fun _=>true) t (p+4)=none/\t<S.N)
    (hk:H k ⟨(d5,.ref (st.nx+1) 0)::(d4,.ref st.nx 0)::sl,(st.nx+1,.box T C3)::(st.nx,.box T C1)::st.ck,st.nx+2⟩):H (.code (.region rid l.toArray true)::k) st:=by
 obtain ⟨w0,X0,Bo,Q,hE,hX0,hiff⟩:=hh
 rw [hiff]
 intro hok ρ a w hfr
 have hok':okK S.an S.N k=true:=by
  have h:(okC S.an S.N (.region rid l.toArray true)&&okK S.an S.N k)=true:=hok
  rw [Bool.and_eq_true] at h
  exact h.2
 exact twoN_ok hE hX0 hfr hlen hT hgd hds hpu hi1 hi3 ha hb9 hc hd p4 p5 p6 p7 r6 r7 c1 c3 hchk htl l4 l5 hd4 hd5 hsl fun ρ' a' w' h3=>(hiff _ _).1 hk hok' ρ' a' w' h3
end
end Go.Proofs.YtdobkkhncfifeaaGreat.Gx
namespace Go.Proofs.YtdobkkhncfifeaaGreat.Gx
open Go Go.RowKit Tw B Nt
set_option linter.unusedVariables false
set_option linter.unusedSimpArgs false
set_option maxHeartbeats 4000000
set_option maxRecDepth 20000
theorem strLt_refl (a:Str):strLt a a=false:=by
 rw [(bl_cB a a).1,(cB_zero a a).2 rfl]
 rfl
@[go_sem] noncomputable def EKC:Env:=(EKB).add 13 rcoS
theorem EKC_ok:EKC.Ok:=(EKB_ok).add rco_ok
@[go_sem] def lsiS:Spec:=⟨[.slice (.int .i64),.slice (.int .i64)],fun d=>(.dat .bool true,[d.1=d.2.1])⟩
theorem lsi_ok:SpecOk Tryz.prog 16 lsiS:=by
 refine fn_ok EKC_ok lsiS Tryz.func16 rfl (by decide) (N:=26) rfl (res:=[.tmp 4]) rfl (by decide) [] [] [] 100 (by kernel_rfl) ?_
 rintro ⟨a,b,_⟩ hw hp
 refine ⟨rfl,fun H hH=>?_⟩
 dsimp only [go_sem] at hw hp ⊢
 obtain ⟨hp,-⟩:=hp
 change a=b at hp
 subst hp
 obtain ⟨⟨hl,-⟩,-⟩:=hw
 change List Int at a
 change a.length<=9223372036854775807 at hl
 refine ⟨fun e=>?_,fun e=>?_⟩
 ·simp at e
 refine hH.loop (fun i:Nat=>⟨[(5,.dat (.int .i64) (i:Int)),(0,.dat (.slice (.int .i64)) a),(1,.dat (.slice (.int .i64)) a)],[],0⟩) (fun i=>i<=a.length) (fun i=>a.length-i) 0 0 (Nat.zero_le _) ?_ ?_
 ·dsimp only [go_sem]
  and_intros<;>first|trivial|rfl|omega
 ·rintro i hi R hm
  refine hH.run 100 _ _ ?_
  dsimp only [go_sem]
  simp only [Int.toNat_natCast]
  refine ⟨fun d=>?_,fun d=>?_⟩<;>simp only [decide_eq_true_eq,decide_eq_false_iff_not] at d
  ·have d:i<a.length:=by omega
   have hb:(0:Int)<=(i:Int)/\(i:Int)<(a.length:Int):=by omega
   refine ⟨hb,hb,fun e=>?_,fun e=>⟨by rw [inR_i64]; omega,hm _ (i+1) 0 d (by omega) ?_⟩⟩
   ·simp at e
   ·dsimp only [go_sem]
    and_intros<;>first|trivial|rfl|omega
  ·and_intros<;>first|trivial|rfl
@[go_sem] def lssS:Spec:=⟨[.slice .str,.slice .str],fun d=>(.dat .bool true,[d.1=d.2.1])⟩
theorem lss_ok:SpecOk Tryz.prog 48 lssS:=by
 refine fn_ok EKC_ok lssS Tryz.func48 rfl (by decide) (N:=26) rfl (res:=[.tmp 4]) rfl (by decide) [] [] [] 100 (by kernel_rfl) ?_
 rintro ⟨a,b,_⟩ hw hp
 refine ⟨rfl,fun H hH=>?_⟩
 dsimp only [go_sem] at hw hp ⊢
 obtain ⟨hp,-⟩:=hp
 change a=b at hp
 subst hp
 obtain ⟨⟨hl,-⟩,-⟩:=hw
 change List Str at a
 change a.length<=9223372036854775807 at hl
 refine ⟨fun e=>?_,fun e=>?_⟩
 ·simp at e
 refine hH.loop (fun i:Nat=>⟨[(5,.dat (.int .i64) (i:Int)),(0,.dat (.slice .str) a),(1,.dat (.slice .str) a)],[],0⟩) (fun i=>i<=a.length) (fun i=>a.length-i) 0 0 (Nat.zero_le _) ?_ ?_
 ·dsimp only [go_sem]
  and_intros<;>first|trivial|rfl|omega
 ·rintro i hi R hm
  refine hH.run 100 _ _ ?_
  dsimp only [go_sem]
  simp only [Int.toNat_natCast]
  refine ⟨fun d=>?_,fun d=>?_⟩<;>simp only [decide_eq_true_eq,decide_eq_false_iff_not] at d
  ·have d:i<a.length:=by omega
   have hb:(0:Int)<=(i:Int)/\(i:Int)<(a.length:Int):=by omega
   refine ⟨hb,hb,fun e=>?_,fun e=>⟨by rw [inR_i64]; omega,hm _ (i+1) 0 d (by omega) ?_⟩⟩
   ·simp at e
   ·dsimp only [go_sem]
    and_intros<;>first|trivial|rfl|omega
  ·and_intros<;>first|trivial|rfl
@[go_sem] noncomputable def EKD:Env:=((EKC).add 16 lsiS).add 48 lssS
theorem EKD_ok:EKD.Ok:=((EKC_ok).add lsi_ok).add lss_ok
@[go_sem] def lslS:Spec:=⟨[.slice (.slice (.int .i64)),.slice (.slice (.int .i64))],fun d=>(.dat .bool true,[d.1=d.2.1])⟩
theorem lsl_ok:SpecOk Tryz.prog 11 lslS:=by
 refine fn_ok EKD_ok lslS Tryz.func11 rfl (by decide) (N:=27) rfl (res:=[.tmp 4]) rfl (by decide) [] [] [] 100 (by kernel_rfl) ?_
 rintro ⟨a,b,_⟩ hw hp
 refine ⟨rfl,fun H hH=>?_⟩
 dsimp only [go_sem] at hw hp ⊢
 obtain ⟨hp,-⟩:=hp
 change a=b at hp
 subst hp
 obtain ⟨⟨hl,-⟩,-⟩:=hw
 change List (List Int) at a
 change a.length<=9223372036854775807 at hl
 refine ⟨fun e=>?_,fun e=>?_⟩
 ·simp at e
 refine hH.loop (fun i:Nat=>⟨[(5,.dat (.int .i64) (i:Int)),(0,.dat (.slice (.slice (.int .i64))) a),(1,.dat (.slice (.slice (.int .i64))) a)],[],0⟩) (fun i=>i<=a.length) (fun i=>a.length-i) 0 0 (Nat.zero_le _) ?_ ?_
 ·dsimp only [go_sem]
  and_intros<;>first|trivial|rfl|omega
 ·rintro i hi R hm
  refine hH.run 100 _ _ ?_
  dsimp only [go_sem]
  simp only [Int.toNat_natCast]
  refine ⟨fun d=>?_,fun d=>?_⟩<;>simp only [decide_eq_true_eq,decide_eq_false_iff_not] at d
  ·have d:i<a.length:=by omega
   have hb:(0:Int)<=(i:Int)/\(i:Int)<(a.length:Int):=by omega
   refine ⟨hb,hb,trivial,fun e=>?_,fun e=>⟨by rw [inR_i64]; omega,hm _ (i+1) 0 d (by omega) ?_⟩⟩
   ·cases e
   ·dsimp only [go_sem]
    and_intros<;>first|trivial|rfl|omega
  ·and_intros<;>first|trivial|rfl
@[go_sem] def cstS:Spec:=⟨[.str,.str],fun d=>(.dat (.int .i64) (0:Int),[d.1=d.2.1])⟩
theorem cst_ok:SpecOk Tryz.prog 79 cstS:=by
 refine fn_ok EKD_ok cstS Tryz.func79 rfl (by decide) (N:=13) rfl (res:=[.tmp 4]) rfl (by decide) [] [] [] 100 (by kernel_rfl) ?_
 rintro ⟨a,b,_⟩ hw hp
 refine ⟨rfl,fun H hH=>?_⟩
 dsimp only [go_sem] at hw hp ⊢
 obtain ⟨hp,-⟩:=hp
 change a=b at hp
 subst hp
 rw [strLt_refl]
 simp
@[go_sem] def ctmS:Spec:=⟨[termT,termT],fun d=>(.dat (.int .i64) (0:Int),[d.1=d.2.1])⟩
theorem ctm_ok:SpecOk Tryz.prog 80 ctmS:=by
 refine fn_ok EKD_ok ctmS Tryz.func80 rfl (by decide) (N:=31) rfl (res:=[.tmp 4]) rfl (by decide) [] [] [] 100 (by kernel_rfl) ?_
 rintro ⟨a,b,_⟩ hw hp
 refine ⟨rfl,fun H hH=>?_⟩
 dsimp only [go_sem] at hw hp ⊢
 obtain ⟨hp,-⟩:=hp
 change a=b at hp
 subst hp
 rw [strLt_refl,cV_refl]
 simp
@[go_sem] noncomputable def EKE:Env:=(((EKD).add 11 lslS).add 79 cstS).add 80 ctmS
theorem EKE_ok:EKE.Ok:=(((EKD_ok).add lsl_ok).add cst_ok).add ctm_ok
@[go_sem] def catS:Spec:=⟨[atomT,atomT],fun d=>(.dat (.int .i64) (0:Int),[d.1=d.2.1])⟩
theorem cat_ok:SpecOk Tryz.prog 66 catS:=by
 refine fn_ok EKE_ok catS Tryz.func66 rfl (by decide) (N:=58) rfl (res:=[.tmp 4]) rfl (by decide) [] [] [] 100 (by kernel_rfl) ?_
 rintro ⟨a,b,_⟩ hw hp
 refine ⟨rfl,fun H hH=>?_⟩
 dsimp only [go_sem] at hw hp ⊢
 obtain ⟨hp,-⟩:=hp
 change a=b at hp
 subst hp
 obtain ⟨rl,ng,l⟩:=a
 change List Term at l
 have hl:l.length<=9223372036854775807:=hw.1.2.2.1
 clear hw
 refine ⟨rfl,fun e=>?_,fun _=>⟨fun e=>?_,fun _=>?_⟩⟩
 ·simp at e
 ·simp at e
 refine hH.loop (fun i:Nat=>⟨[(6,.dat (.int .i64) (i:Int)),(3,.ref 1 0),(2,.ref 0 0)],[(0,.box 48 (.cons (.dat .str rl) (.cons (.dat .bool ng) (.cons (.dat (.slice termT) l) .nil)))),(1,.box 48 (.cons (.dat .str rl) (.cons (.dat .bool ng) (.cons (.dat (.slice termT) l) .nil))))],2⟩) (fun i=>i<=l.length) (fun i=>l.length-i) 0 2 (Nat.zero_le _) ?_ ?_
 ·dsimp only [go_sem]
  and_intros<;>first|trivial|rfl|omega
 ·rintro i hi R hm
  refine hH.run 100 _ _ ?_
  dsimp only [go_sem]
  simp only [Int.toNat_natCast]
  refine ⟨fun h=>h,fun h=>h,fun h=>h,fun h=>h,fun h=>h,fun d=>?_,fun d=>?_⟩<;>simp only [Bool.and_self,decide_eq_true_eq,decide_eq_false_iff_not] at d
  ·have d:i<l.length:=by omega
   have hb:(0:Int)<=(i:Int)/\(i:Int)<(l.length:Int):=by omega
   refine ⟨hb,hb,trivial,fun _=>⟨trivial,trivial⟩,fun _=>⟨by rw [inR_i64]; omega,hm _ (i+1) 2 d (by omega) ?_⟩⟩
   dsimp only [go_sem]
   and_intros<;>first|trivial|rfl|omega
  ·exact ⟨by rw [inR_i64]; omega,Int.sub_self _,trivial⟩
@[go_sem] def ccmS:Spec:=⟨[cmpT,cmpT],fun d=>(.dat (.int .i64) (0:Int),[d.1=d.2.1])⟩
theorem ccm_ok:SpecOk Tryz.prog 67 ccmS:=by
 refine fn_ok EKE_ok ccmS Tryz.func67 rfl (by decide) (N:=29) rfl (res:=[.tmp 4]) rfl (by decide) [] [] [] 100 (by kernel_rfl) ?_
 rintro ⟨a,b,_⟩ hw hp
 refine ⟨rfl,fun H hH=>?_⟩
 dsimp only [go_sem] at hw hp ⊢
 obtain ⟨hp,-⟩:=hp
 change a=b at hp
 subst hp
 simp
@[go_sem] noncomputable def EKF:Env:=((EKE).add 66 catS).add 67 ccmS
theorem EKF_ok:EKF.Ok:=((EKE_ok).add cat_ok).add ccm_ok
@[go_sem] def ccqS:Spec:=⟨[cqT,cqT],fun d=>(.dat (.int .i64) (0:Int),[d.1=d.2.1])⟩
theorem ccq_ok:SpecOk Tryz.prog 49 ccqS:=by
 refine fn_ok EKF_ok ccqS Tryz.func49 rfl (by decide) (N:=86) rfl (res:=[.tmp 4]) rfl (by decide) [] [] [] 100 (by kernel_rfl) ?_
 rintro ⟨a,b,_⟩ hw hp
 refine ⟨rfl,fun H hH=>?_⟩
 dsimp only [go_sem] at hw hp ⊢
 obtain ⟨hp,-⟩:=hp
 change a=b at hp
 subst hp
 obtain ⟨l,cs⟩:=a
 change List Atom at l
 change List Cmp at cs
 have hl:l.length<=9223372036854775807:=hw.1.1.1
 have hc:cs.length<=9223372036854775807:=hw.1.2.1
 clear hw
 refine hH.loop (fun i:Nat=>⟨[(5,.dat (.int .i64) (i:Int)),(3,.ref 1 0),(2,.ref 0 0)],[(0,.box 26 (.cons (.dat (.slice atomT) l) (.cons (.dat (.slice cmpT) cs) .nil))),(1,.box 26 (.cons (.dat (.slice atomT) l) (.cons (.dat (.slice cmpT) cs) .nil)))],2⟩) (fun i=>i<=l.length) (fun i=>l.length-i) 0 2 (Nat.zero_le _) ?_ ?_
 ·dsimp only [go_sem]
  and_intros<;>first|trivial|rfl|omega
 ·rintro i hi R hm
  refine hH.run 100 _ _ ?_
  dsimp only [go_sem]
  simp only [Int.toNat_natCast]
  refine ⟨fun h=>h,fun h=>h,fun h=>h,fun h=>h,fun h=>h,fun d=>?_,fun d=>?_⟩<;>simp only [Bool.and_self,decide_eq_true_eq,decide_eq_false_iff_not] at d
  ·have d:i<l.length:=by omega
   have hb:(0:Int)<=(i:Int)/\(i:Int)<(l.length:Int):=by omega
   refine ⟨hb,hb,trivial,fun _=>⟨trivial,trivial⟩,fun _=>⟨by rw [inR_i64]; omega,hm _ (i+1) 2 d (by omega) ?_⟩⟩
   dsimp only [go_sem]
   and_intros<;>first|trivial|rfl|omega
  ·clear hm
   refine ⟨fun e=>?_,fun e=>?_⟩
   ·simp at e
   refine HOk.loop (by assumption) (fun i:Nat=>⟨[(7,.dat (.int .i64) (i:Int)),(3,.ref 1 0),(2,.ref 0 0)],[(0,.box 26 (.cons (.dat (.slice atomT) l) (.cons (.dat (.slice cmpT) cs) .nil))),(1,.box 26 (.cons (.dat (.slice atomT) l) (.cons (.dat (.slice cmpT) cs) .nil)))],2⟩) (fun i=>i<=cs.length) (fun i=>cs.length-i) 0 2 (Nat.zero_le _) ?_ ?_
   ·dsimp only [go_sem]
    and_intros<;>first|trivial|rfl|omega
   ·rintro k hk R2 hm2
    refine HOk.run (by assumption) 100 _ _ ?_
    dsimp only [go_sem]
    simp only [Int.toNat_natCast]
    refine ⟨fun h=>h,fun h=>h,fun h=>h,fun h=>h,fun h=>h,fun d=>?_,fun d=>?_⟩<;>simp only [Bool.and_self,decide_eq_true_eq,decide_eq_false_iff_not] at d
    ·have d:k<cs.length:=by omega
     have hb:(0:Int)<=(k:Int)/\(k:Int)<(cs.length:Int):=by omega
     refine ⟨hb,hb,trivial,fun _=>⟨trivial,trivial⟩,fun _=>⟨by rw [inR_i64]; omega,hm2 _ (k+1) 2 d (by omega) ?_⟩⟩
     dsimp only [go_sem]
     and_intros<;>first|trivial|rfl|omega
    ·exact ⟨by rw [inR_i64]; omega,Int.sub_self _,trivial⟩
@[go_sem] noncomputable def EKG:Env:=(EKF).add 49 ccqS
theorem EKG_ok:EKG.Ok:=(EKF_ok).add ccq_ok
@[go_sem] def qsmS:Spec:=⟨[qryT,qryT],fun d=>(.dat .bool true,[d.1=d.2.1])⟩
theorem qsm_ok:SpecOk Tryz.prog 30 qsmS:=by
 refine fn_ok EKG_ok qsmS Tryz.func30 rfl (by decide) (N:=40) rfl (res:=[.tmp 4]) rfl (by decide) [] [] [] 100 (by kernel_rfl) ?_
 rintro ⟨a,b,_⟩ hw hp
 refine ⟨rfl,fun H hH=>?_⟩
 dsimp only [go_sem] at hw hp ⊢
 obtain ⟨hp,-⟩:=hp
 change a=b at hp
 subst hp
 obtain ⟨hd,l⟩:=a
 change List Cq at l
 have hl:l.length<=9223372036854775807:=hw.1.2.1
 clear hw
 refine ⟨rfl,fun h=>h,fun h=>h,fun h=>h,fun h=>h,fun h=>h,fun h=>h,fun h=>h,fun e=>?_,fun e=>?_⟩
 ·simp at e
 refine hH.loop (fun i:Nat=>⟨[(5,.dat (.int .i64) (i:Int)),(3,.ref 1 0),(2,.ref 0 0)],[(0,.box 32 (.cons (.dat (.slice .str) hd) (.cons (.dat (.slice cqT) l) .nil))),(1,.box 32 (.cons (.dat (.slice .str) hd) (.cons (.dat (.slice cqT) l) .nil)))],2⟩) (fun i=>i<=l.length) (fun i=>l.length-i) 0 2 (Nat.zero_le _) ?_ ?_
 ·dsimp only [go_sem]
  and_intros<;>first|trivial|rfl|omega
 ·rintro i hi R hm
  refine hH.run 100 _ _ ?_
  dsimp only [go_sem]
  simp only [Int.toNat_natCast]
  refine ⟨fun d=>?_,fun d=>?_⟩<;>simp only [decide_eq_true_eq,decide_eq_false_iff_not] at d
  ·have d:i<l.length:=by omega
   have hb:(0:Int)<=(i:Int)/\(i:Int)<(l.length:Int):=by omega
   refine ⟨hb,hb,trivial,fun e=>?_,fun _=>⟨by rw [inR_i64]; omega,hm _ (i+1) 2 d (by omega) ?_⟩⟩
   ·simp at e
   ·dsimp only [go_sem]
    and_intros<;>first|trivial|rfl|omega
  ·and_intros<;>first|trivial|rfl
@[go_sem] def xcqS:Spec:=⟨[cqT,cqT],fun d=>(.dat .bool true,[d.1=d.2.1])⟩
theorem xcq_ok:SpecOk Tryz.prog 31 xcqS:=by
 refine fn_ok EKG_ok xcqS Tryz.func31 rfl (by decide) (N:=100) rfl (res:=[.tmp 4]) rfl (by decide) [(6,[(1000000,.mx [(9000000,0)])])] [] [] 100 (by kernel_rfl) ?_
 rintro ⟨a,b,_⟩ hw hp
 refine ⟨rfl,fun H hH=>?_⟩
 dsimp only [go_sem] at hw hp ⊢
 obtain ⟨hp,-⟩:=hp
 change a=b at hp
 subst hp
 obtain ⟨l,cs⟩:=a
 change List Atom at l
 change List Cmp at cs
 have hl:l.length<=9223372036854775807:=hw.1.1.1
 have hc:cs.length<=9223372036854775807:=hw.1.2.1
 have hla:=hw.1.1.2
 refine ⟨fun h=>h,fun h=>h,fun h=>h,fun h=>h,fun h=>h,fun h=>h,fun h=>h,fun e=>?_,fun e=>?_⟩
 ·simp at e
 clear e
 refine hH.hand (fun H hH hh=>?_) (by kernel_rfl)
 refine hH.loop (fun i:Nat=>⟨[(5,.dat (.int .i64) (i:Int)),(3,.ref 1 0),(2,.ref 0 0)],[(0,.box 26 (.cons (.dat (.slice atomT) l) (.cons (.dat (.slice cmpT) cs) .nil))),(1,.box 26 (.cons (.dat (.slice atomT) l) (.cons (.dat (.slice cmpT) cs) .nil)))],2⟩) (fun i=>i<=l.length) (fun i=>l.length-i) 0 2 (Nat.zero_le _) ?_ ?_
 ·dsimp only [go_sem]
  and_intros<;>first|trivial|rfl|omega
 ·rintro i hi R hm
  refine hH.run 100 _ _ ?_
  dsimp only [go_sem]
  refine ⟨fun d=>?_,fun d=>?_⟩<;>simp only [decide_eq_true_eq,decide_eq_false_iff_not] at d
  ·have d:i<l.length:=by omega
   have hb:(0:Int)<=(i:Int)/\(i:Int)<(l.length:Int):=by omega
   have hta:=(hla _ (getDm (zd atomT) d)).2.2.1
   refine twoN_H hh (p:=10) rfl (T:=48) rfl (an:=.no) (A:=fun j=>([.ref 0 0,.dat (.slice atomT) l,.dat (.int .i64) (i:Int),.elt atomT (l.getD i (zd atomT)),.dat atomT (l.getD i (zd atomT)),.ref 1 0,.dat (.slice atomT) l,.dat (.int .i64) (i:Int),.elt atomT (l.getD i (zd atomT)),.dat atomT (l.getD i (zd atomT))]:List AV).getD j .nil) (i1:=4) (i3:=9) (d1:=37) (d3:=42) (d4:=6) (d5:=7) (M:=[0,1,0,7,15,0,32,0,224,480,0,0,3103,8191]) (rows:=[[(2,none)],[(33,some 0)],[(5,none)],[(34,some 1),(35,some 2)],[(36,some 3)],[(3,none)],[(38,some 5)],[(5,none)],[(39,some 6),(40,some 7)],[(41,some 8)],[],[],[(6,some 10),(37,some 4)],[(7,some 11),(42,some 9)]]) (by kernel_rfl) (dsts_ok _) ?_ (by decide) (by decide) rfl rfl rfl rfl rfl rfl rfl rfl (by decide) (by decide) rfl rfl (by kernel_rfl) (by kernel_rfl) rfl rfl (show 6<100 by decide) (show 7<100 by decide) (sl:=[(5,.dat (.int .i64) (i:Int)),(3,.ref 1 0),(2,.ref 0 0)]) ?_ ?_
   ·intro j o hj ho
    have hj:j=0∨j=1∨j=2∨j=3∨j=4∨j=5∨j=6∨j=7∨j=8∨j=9:=by omega
    rcases hj with rfl|rfl|rfl|rfl|rfl|rfl|rfl|rfl|rfl|rfl<;>cases ho
    ·refine ⟨rfl,[(2,.ref 0 0)],_,rfl,trivial,fun t ht x hx=>?_⟩
     have hx:=get?_mem hx
     simp only [List.mem_cons,Prod.mk.injEq,List.not_mem_nil,or_false] at hx
     obtain ⟨rfl,rfl⟩:=hx
     exact .inl ⟨by decide,rfl⟩
    ·refine ⟨rfl,[(33,.ref 0 0)],_,rfl,trivial,fun t ht x hx=>?_⟩
     have hx:=get?_mem hx
     simp only [List.mem_cons,Prod.mk.injEq,List.not_mem_nil,or_false] at hx
     obtain ⟨rfl,rfl⟩:=hx
     exact .inr ⟨0,by decide,by decide,rfl,by decide⟩
    ·refine ⟨rfl,[(5,.dat (.int .i64) (i:Int))],_,rfl,trivial,fun t ht x hx=>?_⟩
     have hx:=get?_mem hx
     simp only [List.mem_cons,Prod.mk.injEq,List.not_mem_nil,or_false] at hx
     obtain ⟨rfl,rfl⟩:=hx
     exact .inl ⟨by decide,rfl⟩
    ·refine ⟨rfl,[(34,.dat (.slice atomT) l),(35,.dat (.int .i64) (i:Int))],_,rfl,by dsimp only [go_sem]; and_intros<;>first|trivial|exact hb.1|exact hb.2,fun t ht x hx=>?_⟩
     have hx:=get?_mem hx
     simp only [List.mem_cons,Prod.mk.injEq,List.not_mem_nil,or_false] at hx
     rcases hx with ⟨rfl,rfl⟩|⟨rfl,rfl⟩
     ·exact .inr ⟨1,by decide,by decide,rfl,by decide⟩
     ·exact .inr ⟨2,by decide,by decide,rfl,by decide⟩
    ·refine ⟨rfl,[(36,.elt atomT (l.getD i (zd atomT)))],_,rfl,trivial,fun t ht x hx=>?_⟩
     have hx:=get?_mem hx
     simp only [List.mem_cons,Prod.mk.injEq,List.not_mem_nil,or_false] at hx
     obtain ⟨rfl,rfl⟩:=hx
     exact .inr ⟨3,by decide,by decide,rfl,by decide⟩
    ·refine ⟨rfl,[(3,.ref 1 0)],_,rfl,trivial,fun t ht x hx=>?_⟩
     have hx:=get?_mem hx
     simp only [List.mem_cons,Prod.mk.injEq,List.not_mem_nil,or_false] at hx
     obtain ⟨rfl,rfl⟩:=hx
     exact .inl ⟨by decide,rfl⟩
    ·refine ⟨rfl,[(38,.ref 1 0)],_,rfl,trivial,fun t ht x hx=>?_⟩
     have hx:=get?_mem hx
     simp only [List.mem_cons,Prod.mk.injEq,List.not_mem_nil,or_false] at hx
     obtain ⟨rfl,rfl⟩:=hx
     exact .inr ⟨5,by decide,by decide,rfl,by decide⟩
    ·refine ⟨rfl,[(5,.dat (.int .i64) (i:Int))],_,rfl,trivial,fun t ht x hx=>?_⟩
     have hx:=get?_mem hx
     simp only [List.mem_cons,Prod.mk.injEq,List.not_mem_nil,or_false] at hx
     obtain ⟨rfl,rfl⟩:=hx
     exact .inl ⟨by decide,rfl⟩
    ·refine ⟨rfl,[(39,.dat (.slice atomT) l),(40,.dat (.int .i64) (i:Int))],_,rfl,by dsimp only [go_sem]; and_intros<;>first|trivial|exact hb.1|exact hb.2,fun t ht x hx=>?_⟩
     have hx:=get?_mem hx
     simp only [List.mem_cons,Prod.mk.injEq,List.not_mem_nil,or_false] at hx
     rcases hx with ⟨rfl,rfl⟩|⟨rfl,rfl⟩
     ·exact .inr ⟨6,by decide,by decide,rfl,by decide⟩
     ·exact .inr ⟨7,by decide,by decide,rfl,by decide⟩
    ·refine ⟨rfl,[(41,.elt atomT (l.getD i (zd atomT)))],_,rfl,trivial,fun t ht x hx=>?_⟩
     have hx:=get?_mem hx
     simp only [List.mem_cons,Prod.mk.injEq,List.not_mem_nil,or_false] at hx
     obtain ⟨rfl,rfl⟩:=hx
     exact .inr ⟨8,by decide,by decide,rfl,by decide⟩
   ·intro t x hx
    have hx:=get?_mem hx
    simp only [List.mem_cons,Prod.mk.injEq,List.not_mem_nil,or_false] at hx
    rcases hx with ⟨rfl,rfl⟩|⟨rfl,rfl⟩|⟨rfl,rfl⟩
    ·exact ⟨rfl,rfl,(show 5<100 by decide)⟩
    ·exact ⟨rfl,rfl,(show 3<100 by decide)⟩
    ·exact ⟨rfl,rfl,(show 2<100 by decide)⟩
   ·refine HOk.run (by assumption) 100 _ _ ?_
    dsimp only [go_sem]
    generalize l.getD i (zd atomT)=A at hta ⊢
    obtain ⟨ar,an,ts⟩:=A
    change List Term at ts
    change ts.length<=9223372036854775807 at hta
    dsimp only
    simp only [imp_self,true_and]
    refine ⟨fun e=>?_,fun e=>?_⟩
    ·simp at e
    clear e
    refine HOk.loop (by assumption) (fun k:Nat=>⟨[(8,.dat (.int .i64) (k:Int)),(7,.ref 3 0),(6,.ref 2 0),(5,.dat (.int .i64) (i:Int)),(3,.ref 1 0),(2,.ref 0 0)],[(0,.box 26 (.cons (.dat (.slice atomT) l) (.cons (.dat (.slice cmpT) cs) .nil))),(1,.box 26 (.cons (.dat (.slice atomT) l) (.cons (.dat (.slice cmpT) cs) .nil))),(2,.box 48 (.cons (.dat .str ar) (.cons (.dat .bool an) (.cons (.dat (.slice termT) ts) .nil)))),(3,.box 48 (.cons (.dat .str ar) (.cons (.dat .bool an) (.cons (.dat (.slice termT) ts) .nil))))],4⟩) (fun k=>k<=ts.length) (fun k=>ts.length-k) 0 4 (Nat.zero_le _) ?_ ?_
    ·dsimp only [go_sem]
     and_intros<;>first|trivial|rfl|omega
    ·rintro k hk R2 hm2
     refine HOk.run (by assumption) 100 _ _ ?_
     dsimp only [go_sem]
     simp only [Int.toNat_natCast,eqT_refl]
     refine ⟨fun d2=>?_,fun d2=>?_⟩<;>simp only [decide_eq_true_eq,decide_eq_false_iff_not] at d2
     ·have d2:k<ts.length:=by omega
      have hb2:(0:Int)<=(k:Int)/\(k:Int)<(ts.length:Int):=by omega
      refine ⟨hb2,hb2,termEq,fun e=>?_,fun _=>⟨by rw [inR_i64]; omega,hm2 _ (k+1) 4 d2 (by omega) ?_⟩⟩
      ·cases e
      ·dsimp only [go_sem]
       and_intros<;>first|trivial|rfl|omega
     ·refine ⟨by rw [inR_i64]; omega,HOk.ren (by assumption) [(0,0),(1,1)] 2 rfl rfl (Nat.zero_le _) rfl ?_⟩
      dsimp only [go_sem]
      refine hm _ (i+1) 2 d (by omega) ?_
      dsimp only [go_sem]
      and_intros<;>first|trivial|rfl|omega
  ·clear hm
   refine HOk.loop (by assumption) (fun k:Nat=>⟨[(9,.dat (.int .i64) (k:Int)),(3,.ref 1 0),(2,.ref 0 0)],[(0,.box 26 (.cons (.dat (.slice atomT) l) (.cons (.dat (.slice cmpT) cs) .nil))),(1,.box 26 (.cons (.dat (.slice atomT) l) (.cons (.dat (.slice cmpT) cs) .nil)))],2⟩) (fun k=>k<=cs.length) (fun k=>cs.length-k) 0 2 (Nat.zero_le _) ?_ ?_
   ·dsimp only [go_sem]
    and_intros<;>first|trivial|rfl|omega
   ·rintro k hk R2 hm2
    refine HOk.run (by assumption) 100 _ _ ?_
    dsimp only [go_sem]
    simp only [Int.toNat_natCast,eqC_refl]
    refine ⟨fun d2=>?_,fun d2=>?_⟩<;>simp only [decide_eq_true_eq,decide_eq_false_iff_not] at d2
    ·have d2:k<cs.length:=by omega
     have hb2:(0:Int)<=(k:Int)/\(k:Int)<(cs.length:Int):=by omega
     refine ⟨hb2,hb2,cmpEq,fun e=>?_,fun _=>⟨by rw [inR_i64]; omega,hm2 _ (k+1) 2 d2 (by omega) ?_⟩⟩
     ·cases e
     ·dsimp only [go_sem]
      and_intros<;>first|trivial|rfl|omega
    ·and_intros<;>first|trivial|rfl
@[go_sem] noncomputable def EKH:Env:=((EKG).add 30 qsmS).add 31 xcqS
theorem EKH_ok:EKH.Ok:=((EKG_ok).add qsm_ok).add xcq_ok
@[go_sem] def xacS:Spec:=⟨[qryT,qryT],fun d=>(.dat .bool true,[d.1=d.2.1])⟩
theorem xac_ok:SpecOk Tryz.prog 8 xacS:=by
 refine fn_ok EKH_ok xacS Tryz.func8 rfl (by decide) (N:=29) rfl (res:=[.tmp 4]) rfl (by decide) [] [] [] 100 (by kernel_rfl) ?_
 rintro ⟨a,b,_⟩ hw hp
 refine ⟨rfl,fun H hH=>?_⟩
 dsimp only [go_sem] at hw hp ⊢
 obtain ⟨hp,-⟩:=hp
 change a=b at hp
 subst hp
 obtain ⟨hd,l⟩:=a
 change List Cq at l
 have hl:l.length<=9223372036854775807:=hw.1.2.1
 clear hw
 refine ⟨rfl,fun e=>?_,fun e=>?_⟩
 ·cases e
 refine hH.loop (fun i:Nat=>⟨[(5,.dat (.int .i64) (i:Int)),(3,.ref 1 0),(2,.ref 0 0)],[(0,.box 32 (.cons (.dat (.slice .str) hd) (.cons (.dat (.slice cqT) l) .nil))),(1,.box 32 (.cons (.dat (.slice .str) hd) (.cons (.dat (.slice cqT) l) .nil)))],2⟩) (fun i=>i<=l.length) (fun i=>l.length-i) 0 2 (Nat.zero_le _) ?_ ?_
 ·dsimp only [go_sem]
  and_intros<;>first|trivial|rfl|omega
 ·rintro i hi R hm
  refine hH.run 100 _ _ ?_
  dsimp only [go_sem]
  simp only [Int.toNat_natCast]
  refine ⟨fun d=>?_,fun d=>?_⟩<;>simp only [decide_eq_true_eq,decide_eq_false_iff_not] at d
  ·have d:i<l.length:=by omega
   have hb:(0:Int)<=(i:Int)/\(i:Int)<(l.length:Int):=by omega
   refine ⟨hb,hb,trivial,fun e=>?_,fun _=>⟨by rw [inR_i64]; omega,hm _ (i+1) 2 d (by omega) ?_⟩⟩
   ·simp at e
   ·dsimp only [go_sem]
    and_intros<;>first|trivial|rfl|omega
  ·and_intros<;>first|trivial|rfl
end Go.Proofs.YtdobkkhncfifeaaGreat.Gx
