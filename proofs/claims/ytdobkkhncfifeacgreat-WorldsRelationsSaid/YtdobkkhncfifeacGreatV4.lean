/-
  Relations: what an insertion does: plain theory.
-/
import Derived.Test.YtdobkkhncfifeacGreatV3
namespace Go.Proofs.YtdobkkhncfifeacGreat.Gx
open Go Go.RowKit Tw B Nt
set_option linter.unusedVariables false
set_option linter.unusedSimpArgs false
theorem cI_rg (a b:Int):cI a b = -1∨cI a b=0∨cI a b=1:=by
 unfold cI; repeat' split
 all_goals omega
theorem cB_rg:∀ a b:Str,cB a b = -1∨cB a b=0∨cB a b=1
 | [],[]=>by simp [cB,Lib.compareBytes]
 | [],_::_=>by simp [cB,Lib.compareBytes]
 | _::_,[]=>by simp [cB,Lib.compareBytes]
 | a::x,b::y=>by
  have h:=cB_rg x y
  rw [cB_cons]
  split
  ·exact .inl rfl
  ·split
   ·exact .inr (.inr rfl)
   ·exact h
theorem cV_rg (a b:Val):cV a b = -1∨cV a b=0∨cV a b=1:=by
 have h1:=cI_rg a.1 b.1
 have h2:=cI_rg a.2.1 b.2.1
 have h3:=cB_rg a.2.2 b.2.2
 show (if cI a.1 b.1≠0 then cI a.1 b.1 else if cI a.2.1 b.2.1≠0 then cI a.2.1 b.2.1 else cB a.2.2 b.2.2) = -1∨(if cI a.1 b.1≠0 then cI a.1 b.1 else if cI a.2.1 b.2.1≠0 then cI a.2.1 b.2.1 else cB a.2.2 b.2.2)=0∨(if cI a.1 b.1≠0 then cI a.1 b.1 else if cI a.2.1 b.2.1≠0 then cI a.2.1 b.2.1 else cB a.2.2 b.2.2)=1
 split
 ·exact h1
 ·split
  ·exact h2
  ·exact h3
theorem cT_rg:∀ a b:List Val,cT a b = -1∨cT a b=0∨cT a b=1
 | [],[]=>by simp [cT]
 | [],_::_=>by simp [cT]
 | _::_,[]=>by simp [cT]
 | a::x,b::y=>by
  have h:=cT_rg x y
  have h2:=cV_rg a b
  rw [cT_cons]
  split
  ·exact h2
  ·exact h
theorem scn_none {s:Sch} {l:List Tup} {i:Nat}:scn s l i=none↔ckT s (l.getD i tz)=0/\(i=0∨cT (l.getD (i-1) tz).1 (l.getD i tz).1<0):=by
 have hr:=cT_rg (l.getD (i-1) tz).1 (l.getD i tz).1
 unfold scn
 by_cases h1:ckT s (l.getD i tz)=0
 ·rw [if_neg (fun h=>h h1)]
  by_cases h2:i=0
  ·rw [if_pos h2]
   exact ⟨fun _=>⟨h1,.inl h2⟩,fun _=>rfl⟩
  ·rw [if_neg h2]
   by_cases h3:cT (l.getD (i-1) tz).1 (l.getD i tz).1=0
   ·rw [if_pos h3]
    constructor
    ·intro h; cases h
    ·rintro ⟨_,h|h⟩<;>omega
   ·rw [if_neg h3]
    by_cases h4:cT (l.getD (i-1) tz).1 (l.getD i tz).1=1
    ·rw [if_pos h4]
     constructor
     ·intro h; cases h
     ·rintro ⟨_,h|h⟩<;>omega
    ·rw [if_neg h4]
     exact ⟨fun _=>⟨h1,.inr (by omega)⟩,fun _=>rfl⟩
 ·rw [if_pos h1]
  constructor
  ·intro h; cases h
  ·intro h; exact absurd h.1 h1
theorem srt_get {l:List Tup} (h:∀ i,i<l.length->i≠0->cT (l.getD (i-1) tz).1 (l.getD i tz).1<0):∀ d i,i+d+1<l.length->cT (l.getD i tz).1 (l.getD (i+d+1) tz).1<0
 | 0,i,hi=>h (i+1) hi (by omega)
 | d+1,i,hi=>cT_tr _ _ _ (srt_get h d i (by omega)) (h (i+(d+1)+1) hi (by omega))
theorem srtT_iff {l:List Tup}:srtT l↔∀ i,i<l.length->i≠0->cT (l.getD (i-1) tz).1 (l.getD i tz).1<0:=by
 have hg:∀ i (h:i<l.length),l.getD i tz=l[i]:=fun i h=>by rw [List.getD_eq_getElem?_getD,List.getElem?_eq_getElem h]; rfl
 unfold srtT
 rw [List.pairwise_iff_getElem]
 constructor
 ·intro h i hi h0
  rw [hg i hi,hg (i-1) (by omega)]
  exact h _ _ _ _ (by omega)
 ·intro h i j hi hj hij
  have:=srt_get h (j-i-1) i (by omega)
  have e:i+(j-i-1)+1=j:=by omega
  rw [e,hg i hi,hg j hj] at this
  exact this
theorem all_get {α:Type} {l:List α} (d:α) {P:α->Prop}:(∀ t∈l,P t)↔∀ i,i<l.length->P (l.getD i d):=by
 constructor
 ·intro h i hi; exact h _ (getD_mem' d hi)
 ·intro h t ht
  obtain ⟨j,hj,e⟩:=List.mem_iff_getElem.1 ht
  have:=h j hj
  rw [List.getD_eq_getElem?_getD,List.getElem?_eq_getElem hj,Option.getD_some,e] at this
  exact this
theorem scL_none {s:Sch} {l:List Tup}:scL s l l.length=none↔(∀ t∈l,ckT s t=0)/\srtT l:=by
 rw [all_get tz,srtT_iff]
 unfold scL
 rw [List.findSome?_eq_none_iff]
 constructor
 ·intro h
  refine ⟨fun i hi=>(scn_none.1 (h i (List.mem_range.2 hi))).1,fun i hi h0=>?_⟩
  rcases (scn_none.1 (h i (List.mem_range.2 hi))).2 with h1|h1
  ·exact absurd h1 h0
  ·exact h1
 ·rintro ⟨h1,h2⟩ i hi
  have hi:=List.mem_range.1 hi
  refine scn_none.2 ⟨h1 i hi,?_⟩
  by_cases h0:i=0
  ·exact .inl h0
  ·exact .inr (h2 i hi h0)
theorem ckT_pr {s:Sch} {t:Tup} (h:ckT s t=0):schOk s=true/\t.1.length=s.2.2.length/\0<=fq t.2/\fq t.2<=1/\(s.2.1=true->fq t.2=1):=by
 have hl:=ckT_len h
 unfold ckT at h
 split at h
 ·cases h
 ·rename_i h1
  split at h
  ·cases h
  ·split at h
   ·cases h
   ·split at h
    ·cases h
    ·rename_i h2
     have h2:pvB s.2.1 (fq t.2)=true:=by simpa using h2
     unfold pvB pHd at h2
     simp only [Bool.and_eq_true,Bool.not_eq_true',Bool.or_eq_false_iff,decide_eq_false_iff_not,Bool.and_eq_false_iff,sgQ_lt] at h2
     obtain ⟨⟨⟨a1,a2⟩,a3⟩,a4⟩:=h2
     refine ⟨by simpa using h1,hl,by grind,by grind,fun hc=>?_⟩
     rcases a3 with a3|a3
     ·rw [hc] at a3; cases a3
     ·have:=sgQ_eq_zero.1 (Decidable.not_not.1 a3)
      grind
theorem nokey {s:Sch} (h:schOk s=true) (hc:s.2.1=true) (t:Tup):(kof s t).length=0:=by
 unfold kof keyL
 split
 ·rfl
 ·unfold keyG
  rw [List.length_map,List.length_eq_zero_iff,List.filter_eq_nil_iff]
  intro i hi
  have hi:=List.mem_range.1 hi
  unfold schOk at h
  rw [Bool.and_eq_true,List.all_eq_true] at h
  have:=h.2 i (List.mem_range.2 hi)
  unfold colBad at this
  rw [hc] at this
  simp at this
  simp [this.1.2]
def blkOk (s:Sch) (l:List Tup):Prop:=∀ t∈l,(kof s t).length≠0->(grpL s l (kof s t)).length<=16/\sumL (grpL s l (kof s t))<=1
def vldP (s:Sch) (l:List Tup):Prop:=schOk s=true/\l.length<=64/\(∀ t∈l,ckT s t=0)/\srtT l/\blkOk s l
theorem vld_iff {s:Sch} {l:List Tup}:vldR (s,l)=0↔vldP s l:=by
 constructor
 ·intro h
  obtain ⟨h1,h2,h3,h4,h5,h6⟩:=vldR_zero h
  obtain ⟨g1,g2⟩:=scL_none.1 h4
  refine ⟨h1,h2,g1,g2,fun t ht hk=>?_⟩
  have hc:s.2.1=false:=by
   cases e:s.2.1 with
   | false=>rfl
   | true=>exact absurd (nokey h1 e t) hk
  constructor
  ·refine Nat.not_lt.1 fun h7=>?_
   have:=(any_big h3).2 ⟨hc,t,ht,hk,h7⟩
   rw [this] at h5; cases h5
  ·refine Rat.not_lt.1 fun h7=>?_
   have:=(any_ovr h3).2 ⟨hc,t,ht,by rw [if_neg hk]; exact h7⟩
   rw [this] at h6; cases h6
 ·rintro ⟨h1,h2,h3,h4,h5⟩
  have h6:scL s l l.length=none:=scL_none.2 ⟨h3,h4⟩
  have hle:=sc_len h6
  unfold vldR
  rw [if_neg (by rw [h1]; exact Bool.false_ne_true),if_neg (Nat.not_lt.2 h2)]
  dsimp only
  rw [h6]
  dsimp only
  rw [if_neg,if_neg]
  ·rintro e
   obtain ⟨_,t,ht,h7⟩:=(any_ovr hle).1 e
   split at h7
   ·have:=(ckT_pr (h3 t ht)).2.2.2.1
    exact Rat.not_lt.2 this h7
   ·rename_i hk
    exact Rat.not_lt.2 (h5 t ht hk).2 h7
  ·rintro e
   obtain ⟨_,t,ht,hk,h7⟩:=(any_big hle).1 e
   have:=(h5 t ht hk).1
   omega
theorem grp_sub {s:Sch} {l l':List Tup} (h:l.Sublist l') (k:List Val):(grpL s l k).Sublist (grpL s l' k):=h.filter _
theorem vldP.sub {s:Sch} {l l':List Tup} (h:vldP s l') (hs:l.Sublist l'):vldP s l:=by
 obtain ⟨h1,h2,h3,h4,h5⟩:=h
 have hm:∀ t∈l,t∈l':=fun t ht=>hs.subset ht
 refine ⟨h1,Nat.le_trans hs.length_le h2,fun t ht=>h3 t (hm t ht),h4.sublist hs,fun t ht hk=>?_⟩
 obtain ⟨g1,g2⟩:=h5 t (hm t ht) hk
 refine ⟨Nat.le_trans (grp_sub hs _).length_le g1,Rat.le_trans (sumL_sub (grp_sub hs _) fun u hu=>?_) g2⟩
 exact (ckT_pr (h3 u ((List.mem_filter.1 hu).1))).2.2.1
def insT (l:List Tup) (t:Tup):List Tup:=insL l (posT l t.1) [t]
theorem posT_le (l:List Tup) (v:List Val):posT l v<=l.length:=List.findIdx_le_length
theorem insT_perm (l:List Tup) (t:Tup):(insT l t).Perm (t::l):=by
 unfold insT insL
 rw [List.append_assoc]
 have h:=(List.perm_middle (a:=t) (l₁:=l.take (posT l t.1)) (l₂:=l.drop (posT l t.1)))
 rw [List.take_append_drop] at h
 exact h
theorem insT_sub (l:List Tup) (t:Tup):l.Sublist (insT l t):=by
 unfold insT insL
 have h:(l.take (posT l t.1)++l.drop (posT l t.1)).Sublist (l.take (posT l t.1)++[t]++l.drop (posT l t.1)):=by
  rw [List.append_assoc]
  exact (List.Sublist.refl _).append (List.sublist_append_right _ _)
 rwa [List.take_append_drop] at h
theorem insT_mem {l:List Tup} {t u:Tup}:u∈insT l t↔u=t∨u∈l:=by
 rw [(insT_perm l t).mem_iff,List.mem_cons]
theorem insT_len (l:List Tup) (t:Tup):(insT l t).length=l.length+1:=by
 rw [(insT_perm l t).length_eq]; rfl
theorem insT_srt {l:List Tup} {t:Tup} (h:srtT l) (hn:∀ u∈l,u.1≠t.1):srtT (insT l t):=by
 have hp:=posT_le l t.1
 have hlt:∀ u∈l.take (posT l t.1),cT u.1 t.1<0:=by
  intro u hu
  obtain ⟨j,hj,e⟩:=List.mem_iff_getElem.1 hu
  rw [List.length_take] at hj
  have hj1:j<posT l t.1:=by omega
  have:=List.not_of_lt_findIdx (p:=fun e:Tup=>decide (0<=cT e.1 t.1)) (xs:=l) hj1
  rw [List.getElem_take] at e
  rw [e] at this
  exact Int.not_le.1 (by simpa using this)
 have hge:∀ u∈l.drop (posT l t.1),cT t.1 u.1<0:=by
  intro u hu
  obtain ⟨j,hj,e⟩:=List.mem_iff_getElem.1 hu
  rw [List.length_drop] at hj
  rw [List.getElem_drop] at e
  have hpl:posT l t.1<l.length:=by omega
  have h0:=List.findIdx_getElem (p:=fun e:Tup=>decide (0<=cT e.1 t.1)) (xs:=l) (w:=hpl)
  have h0:0<=cT (l[posT l t.1]).1 t.1:=of_decide_eq_true h0
  have hum:u∈l:=List.mem_of_mem_drop hu
  have hne:∀ v∈l,cT v.1 t.1≠0:=fun v hv e=>hn v hv ((cT_eq _ _).1 e)
  have h1:cT t.1 (l[posT l t.1]).1<0:=(cT_sw _ _).2 (by have:=hne _ (List.getElem_mem hpl); omega)
  rcases Nat.eq_zero_or_pos j with h2|h2
  ·subst h2
   rw [<-e]
   exact h1
  ·have h3:cT (l[posT l t.1]).1 (l[posT l t.1+j]).1<0:=List.pairwise_iff_getElem.1 h _ _ _ _ (by omega)
   rw [<-e]
   exact cT_tr _ _ _ h1 h3
 have hall:srtT (l.take (posT l t.1)++l.drop (posT l t.1)):=by rw [List.take_append_drop]; exact h
 unfold srtT insT insL
 unfold srtT at hall
 rw [List.pairwise_append] at hall
 rw [List.append_assoc,List.pairwise_append]
 refine ⟨hall.1,?_,fun a ha b hb=>?_⟩
 ·exact List.pairwise_cons.2 ⟨hge,hall.2.1⟩
 ·rcases List.mem_cons.1 hb with rfl|hb
  ·exact hlt a ha
  ·exact hall.2.2 a ha b hb
theorem srt_nodup {l:List Tup} (h:srtT l):(l.map (·.1)).Nodup:=by
 unfold List.Nodup
 rw [List.pairwise_map]
 exact h.imp fun {a b} hab e=>by rw [e,cT_self] at hab; omega
theorem insT_new {l:List Tup} {t:Tup} (h:srtT (insT l t)):∀ u∈l,u.1≠t.1:=by
 have h1:=srt_nodup h
 rw [((insT_perm l t).map _).nodup_iff,List.map_cons,List.nodup_cons] at h1
 intro u hu e
 exact h1.1 (List.mem_map.2 ⟨u,hu,e⟩)
theorem fd_none {l:List Tup} {v:List Val}:(fdR (l.findIdx? (eqV v))).2=false↔∀ u∈l,u.1≠v:=by
 have h:(fdR (l.findIdx? (eqV v))).2=false↔l.findIdx? (eqV v)=none:=by
  cases l.findIdx? (eqV v) with
  | none=>exact ⟨fun _=>rfl,fun _=>rfl⟩
  | some i=>exact ⟨(fun h=>by cases h),(fun h=>by cases h)⟩
 rw [h,List.findIdx?_eq_none_iff]
 refine forall_congr' fun u=>forall_congr' fun hu=>?_
 unfold eqV
 rw [decide_eq_false_iff_not,cT_eq]
theorem grp_ins (s:Sch) (l:List Tup) (t:Tup) (k:List Val):(grpL s (insT l t) k).Perm (if kof s t=k then t::grpL s l k else grpL s l k):=by
 have h:(grpL s (insT l t) k).Perm (grpL s (t::l) k):=(insT_perm l t).filter _
 refine h.trans ?_
 unfold grpL
 rw [List.filter_cons]
 simp only [decide_eq_true_eq]
 exact List.Perm.refl _
theorem bkO_len (s:Sch) (l:List Tup) (t:Tup):(bkO (s,l) t.1).length=if (kof s t).length=0 then 0 else (grpL s l (kof s t)).length:=by
 rw [bkO_idx]
 show (if (kof s t).length=0 then [] else idx (kfR (s,l)) l.length (kof s t)).length=_
 split
 ·rfl
 ·exact idx_len s l _
theorem bkO_sum (s:Sch) (l:List Tup) (t:Tup):sumQ l (bkO (s,l) t.1)=if (kof s t).length=0 then 0 else sumL (grpL s l (kof s t)):=by
 rw [bkO_idx]
 show sumQ l (if (kof s t).length=0 then [] else idx (kfR (s,l)) l.length (kof s t))=_
 split
 ·rfl
 ·exact idx_sum s l _
def insO (s:Sch) (l:List Tup) (t:Tup):Int:=if 64<=l.length∨16<=(bkO (s,l) t.1).length then 4 else if 0<cmpQ (fq t.2) (1-sumQ l (bkO (s,l) t.1)) then 19 else 0
theorem vld_ins {s:Sch} {l:List Tup} {t:Tup} (h:vldP s l) (hc:ckT s t=0) (hn:∀ u∈l,u.1≠t.1):vldR (s,insT l t)=insO s l t:=by
 obtain ⟨h1,h2,h3,h4,h5⟩:=h
 have h6:scL s (insT l t) (insT l t).length=none:=scL_none.2 ⟨fun u hu=>by
  rcases insT_mem.1 hu with rfl|hu
  ·exact hc
  ·exact h3 u hu,insT_srt h4 hn⟩
 have hle:=sc_len h6
 have hp1:=(ckT_pr hc).2.2.2.1
 have hg:∀ k,(grpL s (insT l t) k).length=(if kof s t=k then t::grpL s l k else grpL s l k).length:=fun k=>(grp_ins s l t k).length_eq
 have hs:∀ k,sumL (grpL s (insT l t) k)=sumL (if kof s t=k then t::grpL s l k else grpL s l k):=fun k=>sumL_perm (grp_ins s l t k)
 have hcz:(kof s t).length≠0->s.2.1=false:=fun hk=>by
  cases e:s.2.1 with
  | false=>rfl
  | true=>exact absurd (nokey h1 e t) hk
 have htm:t∈insT l t:=insT_mem.2 (.inl rfl)
 have hbig:(grpB (s,insT l t)).any bigB=true↔16<=(bkO (s,l) t.1).length:=by
  rw [any_big hle,bkO_len]
  constructor
  ·rintro ⟨_,u,hu,hk,hb⟩
   rw [hg] at hb
   by_cases e:kof s t=kof s u
   ·rw [if_pos e,List.length_cons,<-e] at hb
    rw [if_neg (by rw [e]; exact hk)]
    omega
   ·rw [if_neg e] at hb
    rcases insT_mem.1 hu with rfl|hu
    ·exact absurd rfl e
    ·have:=(h5 u hu hk).1; omega
  ·intro hb
   split at hb
   ·omega
   ·rename_i hk
    refine ⟨hcz hk,t,htm,hk,?_⟩
    rw [hg,if_pos rfl,List.length_cons]
    omega
 have hovr:(grpB (s,insT l t)).any (ovrB (insT l t))=true↔0<cmpQ (fq t.2) (1-sumQ l (bkO (s,l) t.1)):=by
  rw [any_ovr hle,bkO_sum,cmpQ_pos]
  constructor
  ·rintro ⟨_,u,hu,hb⟩
   by_cases hk:(kof s u).length=0
   ·rw [if_pos hk] at hb
    rcases insT_mem.1 hu with rfl|hu
    ·rw [if_pos hk]; grind
    ·exact absurd hb (Rat.not_lt.2 (ckT_pr (h3 u hu)).2.2.2.1)
   ·rw [if_neg hk,hs] at hb
    by_cases e:kof s t=kof s u
    ·rw [if_pos e,sumL_cons,<-e] at hb
     rw [if_neg (by rw [e]; exact hk)]
     grind
    ·rw [if_neg e] at hb
     rcases insT_mem.1 hu with rfl|hu
     ·exact absurd rfl e
     ·exact absurd hb (Rat.not_lt.2 (h5 u hu hk).2)
  ·intro hb
   split at hb
   ·rename_i hk
    exact absurd hb (by grind)
   ·rename_i hk
    refine ⟨hcz hk,t,htm,?_⟩
    rw [if_neg hk,hs,if_pos rfl,sumL_cons]
    grind
 unfold vldR insO
 rw [if_neg (by rw [h1]; exact Bool.false_ne_true)]
 dsimp only
 rw [h6,insT_len]
 dsimp only
 by_cases c1:64<=l.length
 ·rw [if_pos (by omega),if_pos (.inl c1)]
 ·rw [if_neg (by omega)]
  by_cases c2:16<=(bkO (s,l) t.1).length
  ·rw [if_pos (hbig.2 c2),if_pos (.inr c2)]
  ·have n1:¬(64<=l.length∨16<=(bkO (s,l) t.1).length):=fun e=>e.elim c1 c2
   rw [if_neg (fun e=>c2 (hbig.1 e)),if_neg n1]
   by_cases c3:0<cmpQ (fq t.2) (1-sumQ l (bkO (s,l) t.1))
   ·rw [if_pos (hovr.2 c3),if_pos c3]
   ·rw [if_neg (fun e=>c3 (hovr.1 e)),if_neg c3]
theorem insE_iff {s:Sch} {l:List Tup} {t:Tup}:insE (s,l) t=0↔vldP s (insT l t):=by
 constructor
 ·intro h
  unfold insE at h
  split at h
  ·rename_i h1; exact absurd h h1
  ·rename_i h1
   have h1:=vld_iff.1 (Decidable.not_not.1 h1)
   split at h
   ·rename_i h2; exact absurd h h2
   ·rename_i h2
    have h2:ckT s t=0:=Decidable.not_not.1 h2
    split at h
    ·cases h
    ·rename_i h3
     have h3:=fd_none.1 (by simpa using h3)
     rw [<-vld_iff,vld_ins h1 h2 h3]
     exact h
 ·intro h
  have h1:=h.sub (insT_sub l t)
  have h2:=h.2.2.1 t (insT_mem.2 (.inl rfl))
  have h3:=insT_new h.2.2.2.1
  have h4:=vld_ins h1 h2 h3
  rw [vld_iff.2 h] at h4
  unfold insE
  rw [if_neg (fun e=>e (vld_iff.2 h1)),if_neg (fun e=>e h2),if_neg (by rw [fd_none.2 h3]; exact Bool.false_ne_true)]
  exact h4.symm
theorem insR_ok {s:Sch} {l:List Tup} {t:Tup} (h:insE (s,l) t=0) (hl:∀ u∈l,cnT u=u) (ht:cnT t=t):insR (s,l) t=(s,insT l t):=by
 unfold insR
 rw [if_neg (fun e=>e h)]
 have e:l.map cnT=l:=List.map_congr_left hl |>.trans (List.map_id l)
 show (s,insL (l.map cnT) (posT l t.1) [cnT t])=_
 rw [e,ht]
 rfl
end Go.Proofs.YtdobkkhncfifeacGreat.Gx
