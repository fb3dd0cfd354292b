/-
  Relations, plain: a deletion, another probability.
-/
import Derived.Test.YtkdglhjocffekabGreatV4
import Derived.Test.YtkdglhjocffekabGreatI5
namespace Go.Proofs.YtkdglhjocffekabGreat.Gx
open Go Go.RowKit Tw B Nt
set_option linter.unusedVariables false
set_option linter.unusedSimpArgs false
set_option maxHeartbeats 4000000
theorem getDe {α:Type} {l:List α} {i:Nat} (d:α) (h:i<l.length):l.getD i d=l[i]:=by
 rw [List.getD_eq_getElem?_getD,List.getElem?_eq_getElem h]; rfl
theorem fd_some {L:List Tup} {v:List Val} {i:Nat} (h:L.findIdx? (eqV v)=some i):i<L.length/\(L.getD i tz).1=v:=by
 rw [List.findIdx?_eq_some_iff_getElem] at h
 obtain ⟨hi,h1,_⟩:=h
 refine ⟨hi,?_⟩
 rw [getDe tz hi]
 exact (cT_eq _ _).1 (of_decide_eq_true h1)
theorem del_perm {α:Type} {L:List α} {i:Nat} (d:α) (hi:i<L.length):L.Perm (L.getD i d::delT L i):=by
 unfold delT
 have e:L=L.take i++L.getD i d::L.drop (i+1):=by
  rw [getDe d hi,<-List.drop_eq_getElem_cons hi,List.take_append_drop]
 refine (List.Perm.of_eq e).trans ?_
 exact List.perm_middle
theorem set_perm {α:Type} {L:List α} {i:Nat} {x:α} (hi:i<L.length):(L.set i x).Perm (x::delT L i):=by
 unfold delT
 rw [List.set_eq_take_append_cons_drop,if_pos hi]
 exact List.perm_middle
theorem del_sub {α:Type} {L:List α} {i:Nat} (hi:i<L.length):(delT L i).Sublist L:=by
 unfold delT
 have e:L=L.take i++L[i]::L.drop (i+1):=by rw [<-List.drop_eq_getElem_cons hi,List.take_append_drop]
 have:(L.take i++L.drop (i+1)).Sublist (L.take i++L[i]::L.drop (i+1)):=(List.Sublist.refl _).append (List.sublist_cons_self _ _)
 rwa [<-e] at this
theorem grp_cons (s:Sch) (x:Tup) (l:List Tup) (k:List Val):grpL s (x::l) k=if kof s x=k then x::grpL s l k else grpL s l k:=by
 unfold grpL
 rw [List.filter_cons]
 simp only [decide_eq_true_eq]
theorem grp_perm (s:Sch) {l l':List Tup} (h:l.Perm l') (k:List Val):(grpL s l k).Perm (grpL s l' k):=h.filter _
theorem pvB_le {c:Bool} {q:Rat} (h:pvB c q=true):0<=q/\q<=1:=by
 unfold pvB pHd at h
 simp only [Bool.and_eq_true,Bool.not_eq_true',Bool.or_eq_false_iff,decide_eq_false_iff_not,Bool.and_eq_false_iff,sgQ_lt] at h
 obtain ⟨⟨⟨a1,a2⟩,a3⟩,a4⟩:=h
 exact ⟨by grind,by grind⟩
theorem ckT_set {s:Sch} {v:List Val} {p0 p:Frc} (h:ckT s (v,p0)=0):ckT s (v,p)=0↔pvB s.2.1 (fq p)=true:=by
 unfold ckT at h ⊢
 split at h
 ·cases h
 ·rename_i h1
  split at h
  ·cases h
  ·rename_i h2
   split at h
   ·cases h
   ·rename_i h3
    rw [if_neg h1,if_neg h2,if_neg h3]
    cases pvB s.2.1 (fq p)<;>simp
theorem vld_set {s:Sch} {L:List Tup} {i:Nat} {p:Frc} (h:vldP s L) (hi:i<L.length):vldP s (L.set i ((L.getD i tz).1,p))↔pvB s.2.1 (fq p)=true/\((kof s (L.getD i tz)).length=0∨fq p+sumL (grpL s (delT L i) (kof s (L.getD i tz)))<=1):=by
 obtain ⟨h1,h2,h3,h4,h5⟩:=h
 have hpu:=del_perm tz hi
 have hpx:=set_perm (x:=((L.getD i tz).1,p)) hi
 have hum:=getDm tz hi
 have hck:=h3 _ hum
 have hmp:(L.set i ((L.getD i tz).1,p)).map (·.1)=L.map (·.1):=by
  rw [List.map_set]
  apply List.ext_getElem?
  intro j
  rw [List.getElem?_set]
  split
  ·rename_i e
   subst e
   rw [List.length_map,if_pos hi,List.getElem?_map,List.getElem?_eq_getElem hi,getDe tz hi]
   rfl
  ·rfl
 obtain ⟨u,hu⟩:∃ u,L.getD i tz=u:=⟨_,rfl⟩
 rw [hu] at hpu hpx hum hck hmp ⊢
 have hkx:kof s ((u.1,p):Tup)=kof s u:=rfl
 have hg:∀ k,(grpL s (L.set i (u.1,p)) k).Perm (if kof s u=k then (u.1,p)::grpL s (delT L i) k else grpL s (delT L i) k):=fun k=>by
  have:=grp_perm s hpx k
  rwa [grp_cons,hkx] at this
 have hg0:∀ k,(grpL s L k).Perm (if kof s u=k then u::grpL s (delT L i) k else grpL s (delT L i) k):=fun k=>by
  have:=grp_perm s hpu k
  rwa [grp_cons] at this
 have hck2:ckT s (u.1,p)=0↔pvB s.2.1 (fq p)=true:=ckT_set (p0:=u.2) hck
 constructor
 ·rintro ⟨_,_,g3,g4,g5⟩
  have hxm:((u.1,p):Tup)∈L.set i (u.1,p):=hpx.mem_iff.2 (List.mem_cons_self ..)
  refine ⟨hck2.1 (g3 _ hxm),?_⟩
  rcases Nat.eq_zero_or_pos (kof s u).length with e|e
  ·exact .inl e
  ·have h6:=(g5 _ hxm (by rw [hkx]; omega)).2
   rw [hkx,sumL_perm (hg _),if_pos rfl,sumL_cons] at h6
   exact .inr h6
 ·rintro ⟨g1,g2⟩
  refine ⟨h1,by rw [List.length_set]; exact h2,fun t ht=>?_,?_,fun t ht hk=>?_⟩
  ·rcases List.mem_cons.1 (hpx.mem_iff.1 ht) with rfl|ht
   ·exact hck2.2 g1
   ·exact h3 t ((del_sub hi).subset ht)
  ·have h7:(L.map (·.1)).Pairwise fun a b=>cT a b<0:=List.pairwise_map.2 h4
   rw [<-hmp] at h7
   exact List.pairwise_map.1 h7
  ·have hL:∀ k,(grpL s L k).length=(if kof s u=k then u::grpL s (delT L i) k else grpL s (delT L i) k).length:=fun k=>(hg0 k).length_eq
   rw [(hg _).length_eq,sumL_perm (hg _)]
   by_cases e:kof s u=kof s t
   ·rw [if_pos e,List.length_cons,sumL_cons]
    have h8:=(h5 u hum (by rw [e]; exact hk)).1
    rw [hL,if_pos rfl,List.length_cons] at h8
    rw [<-e]
    refine ⟨h8,?_⟩
    rcases g2 with g2|g2
    ·rw [e] at g2; exact absurd g2 hk
    ·exact g2
   ·rw [if_neg e]
    have ht:t∈L:=by
     rcases List.mem_cons.1 (hpx.mem_iff.1 ht) with rfl|ht
     ·exact absurd rfl e
     ·exact (del_sub hi).subset ht
    have h8:=h5 t ht hk
    rw [hL,if_neg e,sumL_perm (hg0 _),if_neg e] at h8
    exact h8
def spB (r:Rel) (v:List Val) (at':Int):List Int:=(bkO r v).filter fun x=>!decide (x=at')
theorem sumQ_L (L:List Tup) (b:List Int):sumQ L b=sumL (b.map fun i=>L.getD i.toNat tz):=by
 unfold sumQ sumL
 rw [List.map_map]
 rfl
theorem spB_sum {s:Sch} {L:List Tup} {i:Nat} (hi:i<L.length):sumQ L (spB (s,L) (L.getD i tz).1 (i:Int))=if (kof s (L.getD i tz)).length=0 then 0 else sumL (grpL s (delT L i) (kof s (L.getD i tz))):=by
 have h1:=bkO_sum s L (L.getD i tz)
 unfold spB
 rw [bkO_idx] at h1 ⊢
 have hk:keyL s.2.2 (L.getD i tz).1=kof s (L.getD i tz):=rfl
 rw [hk] at h1 ⊢
 by_cases e:(kof s (L.getD i tz)).length=0
 ·rw [if_pos e,if_pos e]; rfl
 ·rw [if_neg e,if_neg e] at h1
  rw [if_neg e,if_neg e]
  have hn:(idx (kfR (s,L)) L.length (kof s (L.getD i tz))).Nodup:=by
   unfold idx
   refine List.Pairwise.map (fun i:Nat=>(i:Int)) (fun a b h e=>h ?_) (List.nodup_range.filter _)
   have e:(a:Int)=(b:Int):=e
   omega
  have hm:(i:Int)∈idx (kfR (s,L)) L.length (kof s (L.getD i tz)):=by
   unfold idx
   refine List.mem_map.2 ⟨i,List.mem_filter.2 ⟨List.mem_range.2 hi,decide_eq_true rfl⟩,rfl⟩
  generalize idx (kfR (s,L)) L.length (kof s (L.getD i tz))=B at h1 hn hm ⊢
  have hp:B.Perm ((i:Int)::B.filter fun x=>!decide (x=(i:Int))):=by
   have h2:=List.perm_cons_erase hm
   rw [hn.erase_eq_filter] at h2
   have h3:(B.filter fun x=>x != (i:Int))=B.filter fun x=>!decide (x=(i:Int)):=by
    refine List.filter_congr fun x _=>?_
    by_cases e:x=(i:Int)<;>simp [e]
   rwa [h3] at h2
  rw [sumQ_L] at h1 ⊢
  rw [sumL_perm (hp.map _),List.map_cons,sumL_cons,sumL_perm (grp_perm s (del_perm tz hi) _),grp_cons,if_pos rfl,sumL_cons] at h1
  have e1:((i:Nat):Int).toNat=i:=Int.toNat_natCast i
  rw [e1] at h1
  grind
def dlE (r:Rel) (v:List Val):Int:=if vldR r≠0 then vldR r else if (fdR (r.2.findIdx? (eqV v))).2=false then 7 else 0
def dlR (r:Rel) (v:List Val):Rel:=if dlE r v≠0 then rz else (r.1,(delT r.2 (fdR (r.2.findIdx? (eqV v))).1.toNat).map cnT)
def stE (r:Rel) (v:List Val) (p:Frc):Int:=if vldR r≠0 then vldR r else if (fdR (r.2.findIdx? (eqV v))).2=false then 7 else if pvB r.1.2.1 (fq p)=false then 19
 else if 0<cmpQ (fq p) (1-sumQ r.2 (spB r v (fdR (r.2.findIdx? (eqV v))).1)) then 19 else 0
def stL (L:List Tup) (i:Nat) (p:Frc):List Tup:=L.set i ((L.getD i tz).1,p)
def stR (r:Rel) (v:List Val) (p:Frc):Rel:=if stE r v p≠0 then rz else (r.1,(stL r.2 (fdR (r.2.findIdx? (eqV v))).1.toNat p).map cnT)
theorem dlR_err {r:Rel} {v:List Val} {e:Int} (h:dlE r v=e) (he:e≠0):(([],false,[]),[])=dlR r v:=by
 unfold dlR; rw [if_pos (by rw [h]; exact he)]; rfl
theorem stR_err {r:Rel} {v:List Val} {p:Frc} {e:Int} (h:stE r v p=e) (he:e≠0):(([],false,[]),[])=stR r v p:=by
 unfold stR; rw [if_pos (by rw [h]; exact he)]; rfl
theorem st_cond {s:Sch} {L:List Tup} {v:List Val} {p:Frc} {i:Nat} (h:vldP s L) (hf:L.findIdx? (eqV v)=some i):vldP s (stL L i p)↔pvB s.2.1 (fq p)=true/\¬0<cmpQ (fq p) (1-sumQ L (spB (s,L) v (i:Int))):=by
 obtain ⟨hi,hv⟩:=fd_some hf
 have h1:=spB_sum (s:=s) hi
 rw [hv] at h1
 unfold stL
 rw [vld_set h hi,h1,cmpQ_pos]
 constructor
 ·rintro ⟨g1,g2⟩
  refine ⟨g1,?_⟩
  have:=pvB_le g1
  split
  ·grind
  ·rename_i e
   rcases g2 with g2|g2
   ·exact absurd g2 e
   ·grind
 ·rintro ⟨g1,g2⟩
  refine ⟨g1,?_⟩
  split at g2
  ·rename_i e; exact .inl e
  ·exact .inr (by grind)
theorem st_iff {s:Sch} {L:List Tup} {v:List Val} {p:Frc} {i:Nat} (h:vldP s L) (hf:L.findIdx? (eqV v)=some i):stE (s,L) v p=0↔vldP s (stL L i p):=by
 rw [st_cond h hf]
 unfold stE
 rw [if_neg (fun e=>e (vld_iff.2 h))]
 dsimp only
 rw [hf]
 have e1:(fdR (some i)).1=(i:Int):=rfl
 have e2:¬(fdR (some i)).2=false:=fun e=>Bool.noConfusion (show true=false from e)
 rw [e1,if_neg e2]
 cases hb:pvB s.2.1 (fq p)
 ·simp
 ·rw [if_neg (show ¬(true=false) by decide)]
  split
  ·rename_i e; simp [e]
  ·rename_i e; simp [e]
end Go.Proofs.YtkdglhjocffekabGreat.Gx
