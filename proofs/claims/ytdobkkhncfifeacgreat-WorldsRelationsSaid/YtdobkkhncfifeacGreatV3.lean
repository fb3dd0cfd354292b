/-
  Relations: when a relation is valid, and what an insertion does to that: plain theory.
-/
import Derived.Test.YtdobkkhncfifeacGreatRA
namespace Go.Proofs.YtdobkkhncfifeacGreat.Gx
open Go Go.RowKit Tw B Nt
set_option linter.unusedVariables false
set_option linter.unusedSimpArgs false
theorem sgQ_lt {q:Rat}:sgQ q<0↔q<0:=by
 unfold sgQ
 rw [Int.sign_neg_iff]
 have h:=Rat.num_nonneg (q:=q)
 constructor
 ·intro h1; exact Rat.not_le.1 fun h2=>by have:=h.2 h2; omega
 ·intro h1; exact Int.not_le.1 fun h2=>Rat.not_le.2 h1 (h.1 h2)
theorem sgQ_pos {q:Rat}:0<sgQ q↔0<q:=by
 have h:=sgQ_lt (q := -q)
 rw [sgQ_neg] at h
 constructor
 ·intro h1
  have:=h.1 (by omega)
  grind
 ·intro h1
  have:=h.2 (by grind)
  omega
theorem cmpQ_pos {p q:Rat}:0<cmpQ p q↔q<p:=by
 unfold cmpQ
 rw [sgQ_pos]
 constructor<;>intro h<;>grind
def kof (s:Sch) (t:Tup):List Val:=keyL s.2.2 t.1
def sumL (l:List Tup):Rat:=qsum (l.map (·.2))
def grpL (s:Sch) (l:List Tup) (k:List Val):List Tup:=l.filter fun t=>decide (kof s t=k)
def srtT (l:List Tup):Prop:=l.Pairwise fun a b=>cT a.1 b.1<0
theorem qsum_cons (f:fT.den) (l:List fT.den):qsum (f::l)=fq f+qsum l:=by
 have h:∀ (l:List fT.den) (a b:Rat),l.foldl (fun a f=>a+fq f) (a+b)=a+l.foldl (fun a f=>a+fq f) b:=by
  intro l
  induction l with
  | nil=>intro a b; rfl
  | cons x l ih=>intro a b; rw [List.foldl_cons,List.foldl_cons,Rat.add_assoc,ih]
 unfold qsum
 rw [List.foldl_cons,Rat.add_comm 0,h]
theorem sumL_cons (t:Tup) (l:List Tup):sumL (t::l)=fq t.2+sumL l:=by
 unfold sumL
 rw [List.map_cons,qsum_cons]
theorem sumL_nil:sumL []=0:=rfl
theorem sumL_perm {l l':List Tup} (h:l.Perm l'):sumL l=sumL l':=by
 induction h with
 | nil=>rfl
 | cons x _ ih=>rw [sumL_cons,sumL_cons,ih]
 | swap x y l=>rw [sumL_cons,sumL_cons,sumL_cons,sumL_cons]; grind
 | trans _ _ h1 h2=>rw [h1,h2]
theorem sumL_nn {l:List Tup} (h:∀ t∈l,0<=fq t.2):0<=sumL l:=by
 induction l with
 | nil=>rw [sumL_nil]; grind
 | cons x l ih =>
  rw [sumL_cons]
  have:=h x List.mem_cons_self
  have:=ih fun t ht=>h t (List.mem_cons_of_mem _ ht)
  grind
theorem sumL_sub {l l':List Tup} (hs:l.Sublist l') (h:∀ t∈l',0<=fq t.2):sumL l<=sumL l':=by
 induction hs with
 | slnil=>grind
 | cons x _ ih =>
  rw [sumL_cons]
  have:=h x List.mem_cons_self
  have:=ih fun t ht=>h t (List.mem_cons_of_mem _ ht)
  grind
 | cons_cons x _ ih =>
  rw [sumL_cons,sumL_cons]
  have:=ih fun t ht=>h t (List.mem_cons_of_mem _ ht)
  grind
theorem range_get {α:Type} (d:α) (l:List α):(List.range l.length).map (fun i=>l.getD i d)=l:=by
 apply List.ext_getElem
 ·simp
 ·intro i h1 h2
  rw [List.getElem_map,List.getElem_range,List.getD_eq_getElem?_getD,List.getElem?_eq_getElem h2]
  rfl
theorem filter_get {α:Type} (d:α) (l:List α) (p:α->Bool):((List.range l.length).filter fun i=>p (l.getD i d)).map (fun i=>l.getD i d)=l.filter p:=by
 have h:=congrArg (List.filter p) (range_get d l)
 rw [List.filter_map] at h
 exact h
def idx (kf:Nat->List Val) (n:Nat) (k:List Val):List Int:=((List.range n).filter fun i=>decide (kf i=k)).map fun i:Nat=>(i:Int)
theorem idx_snoc (kf:Nat->List Val) (n:Nat) (k:List Val):idx kf (n+1) k=idx kf n k++if kf n=k then [(n:Int)] else []:=by
 unfold idx
 rw [List.range_succ,List.filter_append,List.map_append]
 congr 1
 simp only [List.filter_cons,List.filter_nil,decide_eq_true_eq]
 split<;>rfl
theorem cT_self (a:List Val):cT a a=0:=(cT_eq a a).2 rfl
theorem has_of_mem {K:List (List Val)} (h:srtK K) {k:List Val} (hk:k∈K):hasK K k=true:=by
 obtain ⟨j,hj,e⟩:=List.mem_iff_getElem.1 hk
 have e2:K.getD j []=k:=by rw [List.getD_eq_getElem?_getD,List.getElem?_eq_getElem hj]; exact e
 have hp:posK K k=j:=posK_eq (Nat.le_of_lt hj) (fun a ha=>by rw [<-e2]; exact h a j ha hj) fun _=>by rw [e2,cT_self]; exact Int.le_refl _
 rw [hasK_iff,hp]
 exact ⟨hj,e2⟩
theorem srtK_inj {K:List (List Val)} (h:srtK K) {i j:Nat} (hi:i<K.length) (hj:j<K.length) (e:K.getD i []=K.getD j []):i=j:=by
 rcases Nat.lt_trichotomy i j with h1|h1|h1
 ·have:=h i j h1 hj
  rw [e,cT_self] at this
  omega
 ·exact h1
 ·have:=h j i h1 hi
  rw [e,cT_self] at this
  omega
theorem getD_mem' {α:Type} {l:List α} {i:Nat} (d:α) (h:i<l.length):l.getD i d∈l:=by
 rw [List.getD_eq_getElem?_getD,List.getElem?_eq_getElem h]
 exact List.getElem_mem h
theorem ins_has {α:Type} {l m:List α} {i:Nat} {x:α} (h:x∈l∨x∈m):x∈insL l i m:=by
 unfold insL
 rcases h with h|h
 ·rw [<-List.take_append_drop i l] at h
  rcases List.mem_append.1 h with h|h
  ·exact List.mem_append_left _ (List.mem_append_left _ h)
  ·exact List.mem_append_right _ h
 ·exact List.mem_append_left _ (List.mem_append_right _ h)
theorem blk_idx {kf:Nat->List Val} {M:Nat} (h:∀ j,j<M->(kf j).length≠0):∀ n,n<=M->(∀ j,j<(blkS kf n).1.length->(blkS kf n).2.getD j []=idx kf n ((blkS kf n).1.getD j []))/\∀ i,i<n->kf i∈(blkS kf n).1
 | 0,_=>⟨(fun j hj=>by cases hj),(fun i hi=>by cases hi)⟩
 | n+1,hn=>by
  obtain ⟨h1,h2⟩:=blk_idx h n (by omega)
  have hs:=blk_srt h n (by omega)
  have hinv:=blk_inv kf n
  have hlen:=hinv.len
  have hp:=posK_le (blkS kf n).1 (kf n)
  have hu:blkS kf (n+1)=if hasK (blkS kf n).1 (kf n)=true then ((blkS kf n).1,(blkS kf n).2.set (posK (blkS kf n).1 (kf n)) ((blkS kf n).2.getD (posK (blkS kf n).1 (kf n)) []++[(n:Int)]))
      else (insL (blkS kf n).1 (posK (blkS kf n).1 (kf n)) [kf n],insL (blkS kf n).2 (posK (blkS kf n).1 (kf n)) [[(n:Int)]]):=by
   rw [blkS]
   exact if_neg (h n (by omega))
  rw [hu]
  by_cases hh:hasK (blkS kf n).1 (kf n)=true
  ·rw [if_pos hh]
   obtain ⟨g1,g2⟩:=hasK_iff.1 hh
   dsimp only
   refine ⟨fun j hj=>?_,fun i hi=>?_⟩
   ·rw [idx_snoc]
    by_cases hj2:j=posK (blkS kf n).1 (kf n)
    ·rw [hj2,getD_set_eq (by omega),h1 _ g1,g2,if_pos rfl]
    ·rw [getD_set_ne (by omega),h1 j hj,if_neg,List.append_nil]
     intro e
     exact hj2 (srtK_inj hs hj g1 (by rw [g2,<-e]))
   ·rcases Nat.lt_or_ge i n with h3|h3
    ·exact h2 i h3
    ·have:i=n:=by omega
     rw [this,<-g2]
     exact getD_mem' _ g1
  ·rw [if_neg hh]
   dsimp only
   have hnm:∀ j,j<(blkS kf n).1.length->kf n≠(blkS kf n).1.getD j []:=fun j hj e=>hh (has_of_mem hs (by rw [e]; exact getD_mem' _ hj))
   have hno:idx kf n (kf n)=[]:=by
    unfold idx
    rw [List.filter_eq_nil_iff.2,List.map_nil]
    intro i hi e
    have hi:=List.mem_range.1 hi
    exact hh (has_of_mem hs (by rw [<-of_decide_eq_true e]; exact h2 i hi))
   refine ⟨fun j hj=>?_,fun i hi=>?_⟩
   ·rw [insL_len] at hj
    have hj:j<(blkS kf n).1.length+1:=hj
    rw [insL_get (by omega),insL_get hp,idx_snoc]
    have e1:[kf n].length=1:=rfl
    have e2:[[(n:Int)]].length=1:=rfl
    rw [e1,e2]
    split
    ·rename_i h3
     rw [h1 j (by omega),if_neg (hnm j (by omega)),List.append_nil]
    ·split
     ·rename_i h3 h4
      have:j-posK (blkS kf n).1 (kf n)=0:=by omega
      rw [this]
      show [(n:Int)]=idx kf n (kf n)++if kf n=kf n then [(n:Int)] else []
      rw [hno,if_pos rfl]
      rfl
     ·rename_i h3 h4
      rw [h1 (j-1) (by omega),if_neg (hnm (j-1) (by omega)),List.append_nil]
   ·rcases Nat.lt_or_ge i n with h3|h3
    ·exact ins_has (.inl (h2 i h3))
    ·have:i=n:=by omega
     rw [this]
     exact ins_has (.inr (List.mem_singleton.2 rfl))
theorem blk_one {kf:Nat->List Val} {M:Nat} (h:∀ j,j<M->(kf j).length=0):∀ n,n<=M->(blkS kf n).2=(List.range n).map fun i:Nat=>[(i:Int)]
 | 0,_=>rfl
 | n+1,hn=>by
  have ih:=blk_one h n (by omega)
  have hu:blkS kf (n+1)=(insL (blkS kf n).1 (blkS kf n).2.length [kf n],insL (blkS kf n).2 (blkS kf n).2.length [[(n:Int)]]):=by
   rw [blkS]
   exact if_pos (h n (by omega))
  rw [hu]
  dsimp only
  unfold insL
  rw [List.take_length,List.drop_length,List.append_nil,ih,List.range_succ,List.map_append]
  rfl
theorem idx_grp (s:Sch) (l:List Tup) (k:List Val):(idx (kfR (s,l)) l.length k).map (fun i=>l.getD i.toNat tz)=grpL s l k:=by
 unfold idx grpL
 rw [List.map_map,<-filter_get tz]
 rfl
theorem idx_sum (s:Sch) (l:List Tup) (k:List Val):sumQ l (idx (kfR (s,l)) l.length k)=sumL (grpL s l k):=by
 unfold sumQ sumL
 rw [<-idx_grp,List.map_map]
 rfl
theorem idx_len (s:Sch) (l:List Tup) (k:List Val):(idx (kfR (s,l)) l.length k).length=(grpL s l k).length:=by
 rw [<-idx_grp,List.length_map]
theorem bkO_idx (s:Sch) (l:List Tup) (v:List Val):bkO (s,l) v=if (keyL s.2.2 v).length=0 then [] else idx (kfR (s,l)) l.length (keyL s.2.2 v):=by
 unfold bkO bkG idx
 have h:∀ i,decide (cT (keyL s.2.2 (l.getD i tz).1) (keyL s.2.2 v)=0)=decide (kfR (s,l) i=keyL s.2.2 v):=fun i=>decide_eq_decide.2 (cT_eq _ _)
 simp only [h]
theorem kof_len {s:Sch} {l:List Tup} (h:lenR (s,l)):(∀ t∈l,(kof s t).length≠0)∨∀ t∈l,(kof s t).length=0:=by
 have hl:∀ t∈l,(kof s t).length=((List.range s.2.2.length).filter fun i=>(s.2.2.getD i cz).2.2).length:=by
  intro t ht
  obtain ⟨j,hj,e⟩:=List.mem_iff_getElem.1 ht
  have:=kfR_len h (j:=j) hj
  have e2:kfR (s,l) j=kof s t:=by
   unfold kfR kof
   rw [List.getD_eq_getElem?_getD,List.getElem?_eq_getElem hj,<-e]; rfl
  rw [<-e2]; exact this
 by_cases e:((List.range s.2.2.length).filter fun i=>(s.2.2.getD i cz).2.2).length=0
 ·exact .inr fun t ht=>(hl t ht).trans e
 ·exact .inl fun t ht=>by rw [hl t ht]; exact e
theorem at_get {α:Type} {l:List α} (d:α) {P:α->Prop}:(∃ t∈l,P t)↔∃ i,i<l.length/\P (l.getD i d):=by
 constructor
 ·rintro ⟨t,ht,h⟩
  obtain ⟨j,hj,e⟩:=List.mem_iff_getElem.1 ht
  refine ⟨j,hj,?_⟩
  rw [List.getD_eq_getElem?_getD,List.getElem?_eq_getElem hj,Option.getD_some,e]
  exact h
 ·rintro ⟨i,hi,h⟩
  exact ⟨_,getD_mem' d hi,h⟩
theorem grp_any {s:Sch} {l:List Tup} (h:lenR (s,l)) (p:List Int->Bool):(grpB (s,l)).any p=true↔s.2.1=false/\∃ i,i<l.length/\p (if (kfR (s,l) i).length=0 then [(i:Int)] else idx (kfR (s,l)) l.length (kfR (s,l) i))=true:=by
 unfold grpB
 by_cases hc:s.2.1=true
 ·rw [if_pos hc,hc]
  simp
 ·rw [if_neg hc]
  have hc2:s.2.1=false:=by simpa using hc
  rw [hc2]
  simp only [true_and]
  rcases kof_len h with hk|hk
  ·have hkf:∀ j,j<l.length->(kfR (s,l) j).length≠0:=fun j hj=>hk _ (getD_mem' tz hj)
   obtain ⟨b1,b2⟩:=blk_idx hkf l.length (Nat.le_refl _)
   have hi:=blk_inv (kfR (s,l)) l.length
   constructor
   ·intro ha
    obtain ⟨b,hb,hp⟩:=List.any_eq_true.1 ha
    obtain ⟨j,hj,e⟩:=List.mem_iff_getElem.1 hb
    have hj2:j<(blkS (kfR (s,l)) l.length).1.length:=by rw [hi.len]; exact hj
    have e2:=b1 j hj2
    rw [List.getD_eq_getElem?_getD,List.getElem?_eq_getElem hj,Option.getD_some,e] at e2
    obtain ⟨i,hil,e3⟩:=hi.ke _ (getD_mem' [] hj2)
    refine ⟨i,hil,?_⟩
    rw [if_neg (hkf i hil),<-e3,<-e2]
    exact hp
   ·rintro ⟨i,hil,hp⟩
    rw [if_neg (hkf i hil)] at hp
    obtain ⟨j,hj,e⟩:=List.mem_iff_getElem.1 (b2 i hil)
    have e2:=b1 j hj
    have e3:(blkS (kfR (s,l)) l.length).1.getD j []=kfR (s,l) i:=by rw [List.getD_eq_getElem?_getD,List.getElem?_eq_getElem hj,Option.getD_some,e]
    rw [e3] at e2
    refine List.any_eq_true.2 ⟨_,getD_mem' [] (by rw [<-hi.len]; exact hj),?_⟩
    rw [e2]; exact hp
  ·have hkf:∀ j,j<l.length->(kfR (s,l) j).length=0:=fun j hj=>hk _ (getD_mem' tz hj)
   rw [blk_one hkf l.length (Nat.le_refl _),List.any_map,List.any_eq_true]
   constructor
   ·rintro ⟨i,hi,hp⟩
    have hi:=List.mem_range.1 hi
    exact ⟨i,hi,by rw [if_pos (hkf i hi)]; exact hp⟩
   ·rintro ⟨i,hi,hp⟩
    rw [if_pos (hkf i hi)] at hp
    exact ⟨i,List.mem_range.2 hi,hp⟩
theorem any_big {s:Sch} {l:List Tup} (h:lenR (s,l)):(grpB (s,l)).any bigB=true↔s.2.1=false/\∃ t∈l,(kof s t).length≠0/\16<(grpL s l (kof s t)).length:=by
 rw [grp_any h,at_get tz]
 refine and_congr Iff.rfl (exists_congr fun i=>and_congr Iff.rfl ?_)
 have e:kof s (l.getD i tz)=kfR (s,l) i:=rfl
 rw [e,<-idx_len]
 unfold bigB
 split
 ·rename_i hz
  simp [hz]
 ·rename_i hz
  simp [hz]
theorem any_ovr {s:Sch} {l:List Tup} (h:lenR (s,l)):(grpB (s,l)).any (ovrB l)=true↔s.2.1=false/\∃ t∈l,if (kof s t).length=0 then 1<fq t.2 else 1<sumL (grpL s l (kof s t)):=by
 rw [grp_any h,at_get tz]
 refine and_congr Iff.rfl (exists_congr fun i=>and_congr Iff.rfl ?_)
 have e:kof s (l.getD i tz)=kfR (s,l) i:=rfl
 rw [e,<-idx_sum]
 unfold ovrB
 rw [decide_eq_true_eq,sgQ_lt]
 split
 ·have e2:sumQ l [(i:Int)]=fq (l.getD i tz).2:=by
    unfold sumQ
    rw [List.map_cons,List.map_nil,qsum_cons,Int.toNat_natCast]
    show _+(0:Rat)=_
    rw [Rat.add_zero]
  rw [e2]
  constructor<;>intro h<;>grind
 ·constructor<;>intro h<;>grind
end Go.Proofs.YtdobkkhncfifeacGreat.Gx
