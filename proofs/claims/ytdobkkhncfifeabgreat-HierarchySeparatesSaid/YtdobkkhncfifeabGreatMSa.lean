/-
  MSa: S1 S2 S3 S4 S5 in one text.
-/
import Derived.Test.YtdobkkhncfifeabGreatMKb
namespace Go.Proofs.YtdobkkhncfifeabGreat.Gx
open Go Go.RowKit Tw B Nt
set_option linter.unusedVariables false
set_option linter.unusedSimpArgs false
set_option maxHeartbeats 1000000
def cz:Cq:=([],[])
def tmz:Term:=([],0,0,[])
theorem cV_zero (a b:Val):cV a b=0↔a=b:=by
 obtain ⟨a1,a2,a3⟩:=a
 obtain ⟨b1,b2,b3⟩:=b
 unfold cV
 dsimp only
 by_cases h1:a1=b1
 ·rw [if_neg (by rw [cI_zero.2 h1]; simp)]
  by_cases h2:a2=b2
  ·rw [if_neg (by rw [cI_zero.2 h2]; simp),cB_zero]
   exact ⟨fun h=>by rw [h1,h2,h],fun h=>by cases h; rfl⟩
  ·rw [if_pos (fun h=>h2 (cI_zero.1 h)),cI_zero]
   exact ⟨fun h=>absurd h h2,fun h=>by cases h; rfl⟩
 ·rw [if_pos (fun h=>h1 (cI_zero.1 h)),cI_zero]
  exact ⟨fun h=>absurd h h1,fun h=>by cases h; rfl⟩
theorem djT_sw (s t:Term):djT s t=djT t s:=by
 have h:decide (cV s.2 t.2≠0)=decide (cV t.2 s.2≠0):=by
  rw [decide_eq_decide,Ne,Ne,cV_zero,cV_zero]
  exact ⟨fun h e=>h e.symm,fun h e=>h e.symm⟩
 unfold djT
 rw [h,Bool.and_comm (decide (s.1=[]))]
theorem djB_sw (a b:Atom):djB a b=djB b a:=by
 unfold djB
 have h1:decide (a.1≠b.1)=decide (b.1≠a.1):=by
  rw [decide_eq_decide]; exact ⟨fun h e=>h e.symm,fun h e=>h e.symm⟩
 have h2:decide (a.2.2.length≠b.2.2.length)=decide (b.2.2.length≠a.2.2.length):=by
  rw [decide_eq_decide]; exact ⟨fun h e=>h e.symm,fun h e=>h e.symm⟩
 by_cases h:a.2.2.length=b.2.2.length
 ·have h3:(fun i=>djI a.2.2 b.2.2 i)=fun i=>djI b.2.2 a.2.2 i:=funext fun i=>djT_sw _ _
  rw [h1,h2,h3,h]
 ·rw [h1,h2,decide_eq_true (p:=b.2.2.length≠a.2.2.length) (fun e=>h e.symm)]
  simp
theorem djB_len {a b:Atom} (h:djB a b=false):a.2.2.length=b.2.2.length:=by
 unfold djB at h
 simp only [Bool.or_eq_false_iff,decide_eq_false_iff_not,Decidable.not_not] at h
 exact h.1.2
def metI (x y:Str) (l m:List Term) (i:Nat):Bool:=decide ((l.getD i tmz).1=x)&&decide ((m.getD i tmz).1=y)
def metB (a:Atom) (x:Str) (b:Atom) (y:Str):Bool:=(List.range a.2.2.length).any (metI x y a.2.2 b.2.2)
def okAB (a:Atom) (x:Str) (b:Atom) (y:Str):Bool:=djB a b||metB a x b y
theorem okAB_sw (a:Atom) (x:Str) (b:Atom) (y:Str):okAB a x b y=okAB b y a x:=by
 unfold okAB
 rw [djB_sw b a]
 cases h:djB a b
 ·have hl:=djB_len h
  unfold metB
  rw [hl]
  congr 2
  funext i
  unfold metI
  rw [Bool.and_comm]
 ·rfl
def cptB (c:Cq) (x:Str) (d:Cq) (y:Str):Bool:=c.1.all fun s=>d.1.all fun t=>okAB s x t y
theorem cptB_iff {c d:Cq} {x y:Str}:cptB c x d y=true↔∀ s∈c.1,∀ t∈d.1,okAB s x t y=true:=by
 unfold cptB
 simp only [List.all_eq_true]
theorem cptB_sw (c:Cq) (x:Str) (d:Cq) (y:Str):cptB c x d y=cptB d y c x:=by
 rw [Bool.eq_iff_iff,cptB_iff,cptB_iff]
 exact ⟨fun h s hs t ht=>by rw [okAB_sw]; exact h t ht s hs,fun h s hs t ht=>by rw [okAB_sw]; exact h t ht s hs⟩
def sepB (D:List Cq) (l:List Str):Bool :=
 (List.range l.length).all fun i=>(D.getD i cz).1.all fun a=>hasR (l.getD i []) a&&(List.range l.length).all fun j=>(D.getD j cz).1.all fun b=>okAB a (l.getD i []) b (l.getD j [])
theorem sepB_iff {D:List Cq} {l:List Str}:sepB D l=true↔(∀ i,i<l.length->∀ a∈(D.getD i cz).1,hasR (l.getD i []) a=true)/\∀ i,i<l.length->∀ j,j<l.length->cptB (D.getD i cz) (l.getD i []) (D.getD j cz) (l.getD j [])=true:=by
 unfold sepB
 simp only [List.all_eq_true,List.mem_range,Bool.and_eq_true,cptB_iff]
 exact ⟨fun h=>⟨fun i hi a ha=>(h i hi a ha).1,fun i hi j hj s hs t ht=>(h i hi s hs).2 j hj t ht⟩,fun h i hi a ha=>⟨h.1 i hi a ha,fun j hj b hb=>h.2 i hi j hj a ha b hb⟩⟩
def candR (D:List Cq) (hd:List Str) (n:Nat):List Str:=(vrs (trm (D.getD n cz))).filter fun x=>!(hd.any fun y=>decide (y=x))&&(D.getD n cz).1.all (hasR x)
def chR (D:List Cq) (hd:List Str):Nat->List Str->List (List Str)
 | 0,l=>if sepB D l=true then [l] else []
 | k+1,l=>(candR D hd l.length).flatMap fun x=>chR D hd k (l++[x])
def candI (D:List Cq) (hd:List Str) (n:Nat):List Str:=(candR D hd n).filter fun x=>cptB (D.getD n cz) x (D.getD n cz) x
def fitI (D:List Cq) (l:List Str) (x:Str):Bool:=(List.range l.length).all fun i=>cptB (D.getD i cz) (l.getD i []) (D.getD l.length cz) x
def chI (D:List Cq) (hd:List Str):Nat->List Str->List (List Str)
 | 0,l=>[l]
 | k+1,l=>(candI D hd l.length).flatMap fun x=>if fitI D l x=true then chI D hd k (l++[x]) else []
def PWc (D:List Cq) (l:List Str):Prop:=∀ i,i<l.length->∀ j,j<l.length->cptB (D.getD i cz) (l.getD i []) (D.getD j cz) (l.getD j [])=true
def HSc (D:List Cq) (l:List Str):Prop:=∀ i,i<l.length->∀ a∈(D.getD i cz).1,hasR (l.getD i []) a=true
theorem getD_app {l:List Str} {x:Str} {i:Nat} (h:i<l.length):(l++[x]).getD i []=l.getD i []:=by
 rw [List.getD_eq_getElem?_getD,List.getD_eq_getElem?_getD,List.getElem?_append_left h]
theorem getD_end (l:List Str) (x:Str):(l++[x]).getD l.length []=x:=by
 rw [List.getD_eq_getElem?_getD,List.getElem?_append_right (Nat.le_refl _),Nat.sub_self]; rfl
theorem PWc_app {D:List Cq} {l:List Str} {x:Str}:PWc D (l++[x])↔PWc D l/\cptB (D.getD l.length cz) x (D.getD l.length cz) x=true/\fitI D l x=true:=by
 unfold PWc fitI
 rw [List.length_append,List.length_singleton]
 simp only [List.all_eq_true,List.mem_range]
 constructor
 ·intro h
  refine ⟨fun i hi j hj=>?_,?_,fun i hi=>?_⟩
  ·have:=h i (by omega) j (by omega)
   rwa [getD_app hi,getD_app hj] at this
  ·have:=h l.length (by omega) l.length (by omega)
   rwa [getD_end] at this
  ·have:=h i (by omega) l.length (by omega)
   rwa [getD_app hi,getD_end] at this
 ·rintro ⟨h1,h2,h3⟩ i hi j hj
  by_cases ei:i<l.length
  ·by_cases ej:j<l.length
   ·rw [getD_app ei,getD_app ej]; exact h1 i ei j ej
   ·have:j=l.length:=by omega
    subst this
    rw [getD_app ei,getD_end]
    exact h3 i ei
  ·have:i=l.length:=by omega
   subst this
   by_cases ej:j<l.length
   ·rw [getD_end,getD_app ej,cptB_sw]
    exact h3 j ej
   ·have:j=l.length:=by omega
    subst this
    rw [getD_end]
    exact h2
theorem candR_has {D:List Cq} {hd:List Str} {n:Nat} {x:Str} (h:x∈candR D hd n):∀ a∈(D.getD n cz).1,hasR x a=true:=by
 have:=(List.mem_filter.1 h).2
 rw [Bool.and_eq_true,List.all_eq_true] at this
 exact this.2
theorem HSc_app {D:List Cq} {hd:List Str} {l:List Str} {x:Str} (h:HSc D l) (hx:x∈candR D hd l.length):HSc D (l++[x]):=by
 intro i hi
 rw [List.length_append,List.length_singleton] at hi
 by_cases ei:i<l.length
 ·rw [getD_app ei]; exact h i ei
 ·have:i=l.length:=by omega
  subst this
  rw [getD_end]
  exact candR_has hx
theorem chR_no {D:List Cq} {hd:List Str}:∀ (k:Nat) {l:List Str},¬PWc D l->chR D hd k l=[]
 | 0,l,h=>by
  unfold chR
  rw [if_neg fun e=>h (sepB_iff.1 e).2]
 | k+1,l,h=>by
  unfold chR
  rw [List.flatMap_eq_nil_iff]
  intro x hx
  exact chR_no k fun e=>h (PWc_app.1 e).1
theorem ch_eq {D:List Cq} {hd:List Str}:∀ (k:Nat) {l:List Str},PWc D l->HSc D l->chR D hd k l=chI D hd k l
 | 0,l,h,hs=>by
  unfold chR chI
  rw [if_pos (sepB_iff.2 ⟨hs,h⟩)]
 | k+1,l,h,hs=>by
  unfold chR chI candI
  have key:∀ (C:List Str),(∀ x∈C,x∈candR D hd l.length)->C.flatMap (fun x=>chR D hd k (l++[x]))=(C.filter fun x=>cptB (D.getD l.length cz) x (D.getD l.length cz) x).flatMap fun x=>if fitI D l x=true then chI D hd k (l++[x]) else []:=by
   intro C
   induction C with
   | nil=>intro _; rfl
   | cons x C ih =>
    intro hC
    have ih:=ih fun y hy=>hC y (List.mem_cons_of_mem _ hy)
    have hx:=hC x List.mem_cons_self
    rw [List.flatMap_cons,ih]
    by_cases e1:cptB (D.getD l.length cz) x (D.getD l.length cz) x=true
    ·rw [List.filter_cons_of_pos (p:=fun x=>cptB (D.getD l.length cz) x (D.getD l.length cz) x) e1,List.flatMap_cons]
     by_cases e2:fitI D l x=true
     ·rw [if_pos e2,ch_eq k (PWc_app.2 ⟨h,e1,e2⟩) (HSc_app hs hx)]
     ·rw [if_neg e2,chR_no k fun e=>e2 (PWc_app.1 e).2.2]
    ·rw [List.filter_cons_of_neg (p:=fun x=>cptB (D.getD l.length cz) x (D.getD l.length cz) x) e1,chR_no k fun e=>e1 (PWc_app.1 e).2.1,List.nil_append]
  exact key _ fun x hx=>hx
theorem chI_none {D:List Cq} {hd:List Str} {n:Nat} (hn:candI D hd n=[]):∀ (k:Nat) {l:List Str},l.length<=n->n<l.length+k->chI D hd k l=[]
 | 0,l,h1,h2=>by omega
 | k+1,l,h1,h2=>by
  unfold chI
  by_cases e:l.length=n
  ·rw [e,hn]; rfl
  ·rw [List.flatMap_eq_nil_iff]
   intro x hx
   split
   ·exact chI_none hn k (by rw [List.length_append,List.length_singleton]; omega) (by rw [List.length_append,List.length_singleton]; omega)
   ·rfl
def sepL (D:List Cq) (hd:List Str):List (List Str):=if D=[] then [] else if (D.all fun c=>decide (c.1≠[]))=true then chR D hd D.length [] else []
theorem sepL_eq (D:List Cq) (hd:List Str):sepL D hd=if D=[] then [] else if (D.all fun c=>decide (c.1≠[]))=true then chI D hd D.length [] else []:=by
 unfold sepL
 rw [ch_eq D.length (fun i hi=>by cases hi) (fun i hi=>by cases hi)]
end Go.Proofs.YtdobkkhncfifeabGreat.Gx
namespace Go.Proofs.YtdobkkhncfifeabGreat.Gx
open Go Go.RowKit Tw B Nt
set_option linter.unusedVariables false
set_option linter.unusedSimpArgs false
set_option maxHeartbeats 4000000
set_option maxRecDepth 20000
def evB (c:Cq) (n:Str):Bool:=decide (c.1≠[])&&decide ((occs c.1 n).length=c.1.length)
theorem occ_all {l:List Atom} {n:Str}:(occ l n l.length).length=l.length↔∀ a∈l,hasV n a=true:=by
 unfold occ
 rw [List.length_map]
 have h:=List.length_filter_eq_length_iff (p:=fun i=>hasV n (l.getD i ([],false,[]))) (l:=List.range l.length)
 rw [List.length_range] at h
 rw [h]
 constructor
 ·intro h a ha
  obtain ⟨i,hi,rfl⟩:=List.mem_iff_getElem.1 ha
  have:=h i (List.mem_range.2 hi)
  rwa [List.getD_eq_getElem?_getD,List.getElem?_eq_getElem hi] at this
 ·intro h i hi
  exact h _ (getDm _ (List.mem_range.1 hi))
theorem evB_eq (c:Cq) {n:Str} (hn:n≠[]):evB c n=(decide (c.1≠[])&&c.1.all (hasR n)):=by
 unfold evB occs
 rw [if_neg hn]
 congr 1
 rw [Bool.eq_iff_iff,decide_eq_true_eq,occ_all,List.all_eq_true]
 exact ⟨fun h a ha=>by rw [hasR_eq,h a ha,decide_eq_true hn]; rfl,fun h a ha=>by have:=h a ha; rw [hasR_eq,Bool.and_eq_true] at this; exact this.1⟩
@[go_sem] def evwS:Spec:=⟨[cqT,.str],fun d=>(.dat .bool (evB d.1 d.2.1),[cqP d.1])⟩
theorem evw_ok:SpecOk Tryz.prog 17 evwS:=by
 refine fn_ok EKH_ok evwS Tryz.func17 rfl (by decide) (N:=19) rfl (res:=[.tmp 4]) rfl (by decide) [] [] [] 100 (by kernel_rfl) ?_
 rintro ⟨c,nm,_⟩ hw hp
 refine ⟨rfl,fun H hH=>?_⟩
 dsimp only [go_sem] at hw hp ⊢
 obtain ⟨hp,-⟩:=hp
 obtain ⟨l,cs⟩:=c
 change List Atom at l
 simp only [imp_self,true_and]
 refine ⟨fun _=>hp,?_,trivial⟩
 show (decide ((0:Int)<(l.length:Int))&&decide (((occs l nm).length:Int)=(l.length:Int)))=(decide (l≠[])&&decide ((occs l nm).length=l.length))
 have h1:decide ((0:Int)<(l.length:Int))=decide (l≠[]):=by
  rw [decide_eq_decide,Ne,<-List.length_eq_zero_iff]; omega
 have h2:decide (((occs l nm).length:Int)=(l.length:Int))=decide ((occs l nm).length=l.length):=by
  rw [decide_eq_decide]; omega
 rw [h1,h2]
@[go_sem] def mtS:Spec:=⟨[atomT,.str,atomT,.str],fun d=>(.dat .bool (metB d.1 d.2.1 d.2.2.1 d.2.2.2.1),[List.length d.1.2.2<=List.length d.2.2.1.2.2/\List.length d.1.2.2<=2000000])⟩
theorem mt_ok:SpecOk Tryz.prog 31 mtS:=by
 refine fn_ok EKH_ok mtS Tryz.func31 rfl (by decide) (N:=35) rfl (res:=[.tmp 8]) rfl (by decide) [] [] [] 100 (by kernel_rfl) ?_
 rintro ⟨a,x,b,y,_⟩ hw hp
 refine ⟨rfl,fun H hH=>?_⟩
 dsimp only [go_sem] at hw hp ⊢
 obtain ⟨⟨hp1,hp2⟩,-⟩:=hp
 obtain ⟨rl,ng,l⟩:=a
 obtain ⟨rm,nh,m⟩:=b
 change List Term at l m
 change l.length<=m.length at hp1
 change l.length<=2000000 at hp2
 clear hw
 refine hH.loop (fun i:Nat=>⟨[(13,.dat (.int .i64) (i:Int)),(12,.dat (.int .i64) (l.length:Int)),(4,.ref 0 0),(6,.ref 1 0),(1,.dat .str x),(3,.dat .str y)],[(0,.box 42 (.cons (.dat .str rl) (.cons (.dat .bool ng) (.cons (.dat (.slice termT) l) .nil)))),(1,.box 42 (.cons (.dat .str rm) (.cons (.dat .bool nh) (.cons (.dat (.slice termT) m) .nil))))],2⟩) (fun i=>i<=l.length/\∀ j,j<i->metI x y l m j=false) (fun i=>l.length-i) 0 2 ⟨Nat.zero_le _,fun j h=>absurd h (Nat.not_lt_zero _)⟩ ?_ ?_
 ·dsimp only [go_sem]
  and_intros<;>first|trivial|rfl|omega
 rintro i ⟨hi,hz⟩ R hm
 refine hH.run 100 _ _ ?_
 dsimp only [go_sem]
 simp only [Int.toNat_natCast]
 refine ⟨fun d=>?_,fun d=>?_⟩
 ·have d:i<l.length:=by
    have d:(i:Int)<(l.length:Int):=of_decide_eq_true d
    omega
  have hb:(0:Int)<=(i:Int)/\(i:Int)<(l.length:Int):=by omega
  have hb2:(0:Int)<=(i:Int)/\(i:Int)<(m.length:Int):=by omega
  have hzl:l.getD i (zd termT)=l.getD i tmz:=rfl
  have hzm:m.getD i (zd termT)=m.getD i tmz:=rfl
  simp only [hzl,hzm,imp_self,true_and]
  refine ⟨hb,fun _=>hb2,fun g=>?_,fun g=>⟨by rw [inR_i64]; omega,hm _ (i+1) 2 ⟨d,fun j hj=>?_⟩ (by omega) ?_⟩⟩
  ·have hv:metB (rl,ng,l) x (rm,nh,m) y=true:=range_any_true d g
   rw [hv]
   and_intros<;>first|trivial|rfl
  ·rcases Nat.lt_or_ge j i with h|h
   ·exact hz j h
   ·have:j=i:=by omega
    rw [this]; exact g
  ·dsimp only [go_sem]
   and_intros<;>first|trivial|rfl|omega
 ·have d:i=l.length:=by
    have d:¬(i:Int)<(l.length:Int):=of_decide_eq_false d
    omega
  subst d
  have hv:metB (rl,ng,l) x (rm,nh,m) y=false:=range_any_false hz
  rw [hv]
  and_intros<;>first|trivial|rfl
def comB (a:Atom) (x:Str) (b:Atom) (y:Str):Bool:=(List.range (min a.2.2.length b.2.2.length)).any (metI x y a.2.2 b.2.2)
theorem okAB_com (a:Atom) (x:Str) (b:Atom) (y:Str):(djB a b||comB a x b y)=okAB a x b y:=by
 unfold okAB
 cases h:djB a b
 ·unfold comB metB
  rw [djB_len h,Nat.min_self]
 ·rfl
@[go_sem] def comS:Spec:=⟨[atomT,atomT,.str,.str],fun d=>(.dat .bool (comB d.1 d.2.2.1 d.2.1 d.2.2.2.1),[List.length d.1.2.2<=2000000])⟩
theorem com_ok:SpecOk Tryz.prog 52 comS:=by
 refine fn_ok EKH_ok comS Tryz.func52 rfl (by decide) (N:=42) rfl (res:=[.tmp 8]) rfl (by decide) [] [] [] 100 (by kernel_rfl) ?_
 rintro ⟨a,b,x,y,_⟩ hw hp
 refine ⟨rfl,fun H hH=>?_⟩
 dsimp only [go_sem] at hw hp ⊢
 obtain ⟨hp2,-⟩:=hp
 obtain ⟨rl,ng,l⟩:=a
 obtain ⟨rm,nh,m⟩:=b
 change List Term at l m
 change l.length<=2000000 at hp2
 clear hw
 refine hH.loop (fun i:Nat=>⟨[(9,.dat (.int .i64) (i:Int)),(4,.ref 0 0),(5,.ref 1 0),(2,.dat .str x),(3,.dat .str y)],[(0,.box 42 (.cons (.dat .str rl) (.cons (.dat .bool ng) (.cons (.dat (.slice termT) l) .nil)))),(1,.box 42 (.cons (.dat .str rm) (.cons (.dat .bool nh) (.cons (.dat (.slice termT) m) .nil))))],2⟩) (fun i=>i<=min l.length m.length/\∀ j,j<i->metI x y l m j=false) (fun i=>l.length-i) 0 2 ⟨Nat.zero_le _,fun j h=>absurd h (Nat.not_lt_zero _)⟩ ?_ ?_
 ·dsimp only [go_sem]
  and_intros<;>first|trivial|rfl|omega
 rintro i ⟨hi,hz⟩ R hm
 refine hH.run 100 _ _ ?_
 dsimp only [go_sem]
 have hzl:l.getD i (zd termT)=l.getD i tmz:=rfl
 have hzm:m.getD i (zd termT)=m.getD i tmz:=rfl
 have hc:(decide ((i:Int)<(l.length:Int))&&decide ((i:Int)<(m.length:Int)))=decide (i<min l.length m.length):=by
  rw [Bool.eq_iff_iff]
  simp only [Bool.and_eq_true,decide_eq_true_eq]
  omega
 simp only [Int.toNat_natCast,imp_self,true_and,hzl,hzm,hc]
 refine ⟨fun d=>?_,fun d=>?_⟩
 ·have d:i<min l.length m.length:=of_decide_eq_true d
  have hb:(0:Int)<=(i:Int)/\(i:Int)<(l.length:Int):=by omega
  have hb2:(0:Int)<=(i:Int)/\(i:Int)<(m.length:Int):=by omega
  refine ⟨hb,fun _=>hb2,fun g=>?_,fun g=>⟨by rw [inR_i64]; omega,hm _ (i+1) 2 ⟨d,fun j hj=>?_⟩ (by omega) ?_⟩⟩
  ·have hv:comB (rl,ng,l) x (rm,nh,m) y=true:=range_any_true d g
   rw [hv]
   and_intros<;>first|trivial|rfl
  ·rcases Nat.lt_or_ge j i with h|h
   ·exact hz j h
   ·have:j=i:=by omega
    rw [this]; exact g
  ·dsimp only [go_sem]
   and_intros<;>first|trivial|rfl|omega
 ·have d:i=min l.length m.length:=by
    have d:¬i<min l.length m.length:=of_decide_eq_false d
    omega
  subst d
  have hv:comB (rl,ng,l) x (rm,nh,m) y=false:=range_any_false hz
  rw [hv]
  and_intros<;>first|trivial|rfl
@[go_sem] noncomputable def EL1:Env:=(EKH).add 31 mtS
theorem EL1_ok:EL1.Ok:=(EKH_ok).add mt_ok
@[go_sem] def cptS:Spec:=⟨[cqT,.str,cqT,.str],fun d=>(.dat .bool (cptB d.1 d.2.1 d.2.2.1 d.2.2.2.1),[cqP d.1,cqP d.2.2.1])⟩
theorem cpt_ok:SpecOk Tryz.prog 18 cptS:=by
 refine fn_ok EL1_ok cptS Tryz.func18 rfl (by decide) (N:=41) rfl (res:=[.tmp 8]) rfl (by decide) [] [] [] 100 (by kernel_rfl) ?_
 rintro ⟨c,x,d,y,_⟩ hw hp
 refine ⟨rfl,fun H hH=>?_⟩
 dsimp only [go_sem] at hw hp ⊢
 obtain ⟨hp1,hp2,-⟩:=hp
 obtain ⟨l,cs⟩:=c
 obtain ⟨m,ds⟩:=d
 change List Atom at l m
 change List Cmp at cs ds
 have hl1:∀ a∈l,a.2.2.length<=1000:=hp1.2.1
 have hml:m.length<=1000:=hp2.1
 have hll:l.length<=1000:=hp1.1
 clear hw hp1 hp2
 refine hH.loop (fun i:Nat=>⟨[(16,.dat (.int .i64) (i:Int)),(15,.dat (.int .i64) (l.length:Int)),(14,.dat (.slice atomT) l),(4,.ref 0 0),(6,.ref 1 0),(1,.dat .str x),(3,.dat .str y)],[(0,.box 29 (.cons (.dat (.slice atomT) l) (.cons (.dat (.slice cmpT) cs) .nil))),(1,.box 29 (.cons (.dat (.slice atomT) m) (.cons (.dat (.slice cmpT) ds) .nil)))],2⟩) (fun i=>i<=l.length/\∀ s∈l.take i,∀ t∈m,okAB s x t y=true) (fun i=>l.length-i) 0 2 ⟨Nat.zero_le _,fun s hs=>by simp at hs⟩ ?_ ?_
 ·dsimp only [go_sem]
  and_intros<;>first|trivial|rfl|omega
 rintro i ⟨hi,hz⟩ R hm
 refine hH.run 100 _ _ ?_
 dsimp only [go_sem]
 simp only [Int.toNat_natCast]
 refine ⟨fun e=>?_,fun e=>?_⟩
 ·have e:i<l.length:=by
    have e:(i:Int)<(l.length:Int):=of_decide_eq_true e
    omega
  have hb:(0:Int)<=(i:Int)/\(i:Int)<(l.length:Int):=by omega
  have hii:inR .i64 ((i:Int)+1):=by rw [inR_i64]; omega
  have hmem:=getDm (l:=l) ([],false,[]) e
  have hsn:l.take (i+1)=l.take i++[l.getD i ([],false,[])]:=take_snoc _ e
  have hz1:l.getD i (zd atomT)=l.getD i ([],false,[]):=rfl
  simp only [hz1]
  generalize l.getD i ([],false,[])=a at hmem hsn ⊢
  have ha:=hl1 _ hmem
  obtain ⟨rl,ng,la⟩:=a
  change List Term at la
  change la.length<=1000 at ha
  refine ⟨hb,?_⟩
  refine HOk.loop (by assumption) (fun k:Nat=>⟨[(23,.dat (.int .i64) (k:Int)),(22,.dat (.int .i64) (m.length:Int)),(21,.dat (.slice atomT) m),(10,.ref 2 0),(16,.dat (.int .i64) (i:Int)),(15,.dat (.int .i64) (l.length:Int)),(14,.dat (.slice atomT) l),(4,.ref 0 0),(6,.ref 1 0),(1,.dat .str x),(3,.dat .str y)],[(0,.box 29 (.cons (.dat (.slice atomT) l) (.cons (.dat (.slice cmpT) cs) .nil))),(1,.box 29 (.cons (.dat (.slice atomT) m) (.cons (.dat (.slice cmpT) ds) .nil))),(2,.box 42 (.cons (.dat .str rl) (.cons (.dat .bool ng) (.cons (.dat (.slice termT) la) .nil))))],3⟩) (fun k=>k<=m.length/\∀ t∈m.take k,okAB (rl,ng,la) x t y=true) (fun k=>m.length-k) 0 3 ⟨Nat.zero_le _,fun s hs=>by simp at hs⟩ ?_ ?_
  ·dsimp only [go_sem]
   and_intros<;>first|trivial|rfl|omega
  rintro k ⟨hk,hzk⟩ R2 hm2
  refine HOk.run (by assumption) 100 _ _ ?_
  dsimp only [go_sem]
  have hzb:∀ k,m.getD k (zd atomT)=m.getD k ([],false,[]):=fun _=>rfl
  simp only [Int.toNat_natCast,imp_self,true_and,hzb]
  refine ⟨fun f=>?_,fun f=>?_⟩
  ·have f:k<m.length:=by
     have f:(k:Int)<(m.length:Int):=of_decide_eq_true f
     omega
   have hbk:(0:Int)<=(k:Int)/\(k:Int)<(m.length:Int):=by omega
   have hik:inR .i64 ((k:Int)+1):=by rw [inR_i64]; omega
   have hkm:m.length-(k+1)<m.length-k:=by omega
   have hmb:=getDm (l:=m) ([],false,[]) f
   have hsk:m.take (k+1)=m.take k++[m.getD k ([],false,[])]:=take_snoc _ f
   generalize m.getD k ([],false,[])=b at hmb hsk ⊢
   have hla:la.length<=2000000:=Nat.le_trans ha (by decide)
   have hok:okAB (rl,ng,la) x b y=(djB (rl,ng,la) b||metB (rl,ng,la) x b y):=rfl
   refine ⟨hbk,hla,fun g=>⟨Nat.le_of_eq (djB_len (a:=(rl,ng,la)) (by rw [<-Bool.not_eq_true']; exact g)),hla⟩,fun g=>?_,fun g=>⟨hik,hm2 _ (k+1) 3 ⟨f,fun t ht=>?_⟩ hkm ?_⟩⟩
   ·have hv:cptB (l,cs) x (m,ds) y=false:=by
      rw [Bool.eq_false_iff]
      intro h
      have h:=cptB_iff.1 h (rl,ng,la) hmem b hmb
      rw [hok] at h
      rw [Bool.and_eq_true,Bool.not_eq_true',Bool.not_eq_true'] at g
      rw [g.1,g.2] at h
      cases h
    rw [hv]
    and_intros<;>first|trivial|rfl
   ·rw [hsk,List.mem_append] at ht
    rcases ht with ht|ht
    ·exact hzk t ht
    ·rw [List.mem_singleton.1 ht,hok]
     revert g
     cases djB (rl,ng,la) b<;>cases metB (rl,ng,la) x b y<;>simp
   ·dsimp only [go_sem]
    and_intros<;>first|trivial|rfl|omega
  ·have f:k=m.length:=by
     have f:¬(k:Int)<(m.length:Int):=of_decide_eq_false f
     omega
   subst f
   rw [List.take_length] at hzk
   have him:l.length-(i+1)<l.length-i:=by omega
   refine ⟨hii,hm _ (i+1) 2 ⟨e,fun s hs=>?_⟩ him ?_⟩
   ·rw [hsn,List.mem_append] at hs
    rcases hs with hs|hs
    ·exact hz s hs
    ·rw [List.mem_singleton.1 hs]; exact hzk
   ·dsimp only [go_sem]
    and_intros<;>first|trivial|rfl|omega
 ·have e:i=l.length:=by
    have e:¬(i:Int)<(l.length:Int):=of_decide_eq_false e
    omega
  subst e
  rw [List.take_length] at hz
  have hv:cptB (l,cs) x (m,ds) y=true:=cptB_iff.2 hz
  rw [hv]
  and_intros<;>first|trivial|rfl
end Go.Proofs.YtdobkkhncfifeabGreat.Gx
namespace Go.Proofs.YtdobkkhncfifeabGreat.Gx
open Go Go.RowKit Tw B Nt
set_option linter.unusedVariables false
set_option linter.unusedSimpArgs false
set_option maxHeartbeats 40000000
set_option maxRecDepth 20000
def atOK (D:List Cq) (l:List Str) (i:Nat) (a:Atom):Prop:=hasR (l.getD i []) a=true/\∀ j,j<l.length->∀ b∈(D.getD j cz).1,okAB a (l.getD i []) b (l.getD j [])=true
theorem sepB_at {D:List Cq} {l:List Str}:sepB D l=true↔∀ i,i<l.length->∀ a∈(D.getD i cz).1,atOK D l i a:=by
 unfold sepB atOK
 simp only [List.all_eq_true,List.mem_range,Bool.and_eq_true]
theorem sepB_no {D:List Cq} {l:List Str} {i:Nat} {a:Atom} (hi:i<l.length) (ha:a∈(D.getD i cz).1) (h:¬atOK D l i a):sepB D l=false:=by
 rw [Bool.eq_false_iff]
 exact fun e=>h (sepB_at.1 e i hi a ha)
@[go_sem] noncomputable def EL2:Env:=(((EL1).add 18 cptS).add 52 comS).add 17 evwS
theorem EL2_ok:EL2.Ok:=(((EL1_ok).add cpt_ok).add com_ok).add evw_ok
@[go_sem] def sepS:Spec:=⟨[qryT,.slice .str],fun d=>(.dat .bool (sepB d.1.2 d.2.1),[List.length d.2.1<=List.length d.1.2/\∀ c∈d.1.2,cqP c])⟩
theorem sep_ok:SpecOk Tryz.prog 32 sepS:=by
 refine fn_ok EL2_ok sepS Tryz.func32 rfl (by decide) (N:=88) rfl (res:=[.tmp 4]) rfl (by decide) [] [] [] 100 (by kernel_rfl) ?_
 rintro ⟨q,l,_⟩ hw hp
 refine ⟨rfl,fun H hH=>?_⟩
 dsimp only [go_sem] at hw hp ⊢
 obtain ⟨⟨hp1,hp2⟩,-⟩:=hp
 obtain ⟨hd,D⟩:=q
 change List Cq at D
 change List Str at l hd
 change l.length<=D.length at hp1
 have hp2:∀ c∈D,cqP c:=hp2
 obtain ⟨-,⟨hl,-⟩,-⟩:=hw
 change l.length<=9223372036854775807 at hl
 have hzl:∀ k,l.getD k (zd .str)=l.getD k []:=fun _=>rfl
 have hzD:∀ k,D.getD k (zd cqT)=D.getD k cz:=fun _=>rfl
 have hPD:∀ i,i<D.length->cqP (D.getD i cz):=fun i hi=>hp2 _ (getDm _ hi)
 refine hH.loop (fun i:Nat=>⟨[(5,.dat (.int .i64) (i:Int)),(2,.ref 0 0),(1,.dat (.slice .str) l)],[(0,.box 33 (.cons (.dat (.slice .str) hd) (.cons (.dat (.slice cqT) D) .nil)))],1⟩) (fun i=>i<=l.length/\∀ j,j<i->∀ a∈(D.getD j cz).1,atOK D l j a) (fun i=>l.length-i) 0 1 ⟨Nat.zero_le _,fun j h=>absurd h (Nat.not_lt_zero _)⟩ ?_ ?_
 ·dsimp only [go_sem]
  and_intros<;>first|trivial|rfl|omega
 rintro i ⟨hi,hz⟩ R hm
 refine hH.run 100 _ _ ?_
 dsimp only [go_sem]
 refine ⟨fun d=>?_,fun d=>?_⟩
 ·have d:i<l.length:=by
    have d:(i:Int)<(l.length:Int):=of_decide_eq_true d
    omega
  have hbi:(0:Int)<=(i:Int)/\(i:Int)<(D.length:Int):=by omega
  have hbl:(0:Int)<=(i:Int)/\(i:Int)<(l.length:Int):=by omega
  have hii:inR .i64 ((i:Int)+1):=by rw [inR_i64]; omega
  have him:l.length-(i+1)<l.length-i:=by omega
  have hPi:=hPD i (by omega)
  obtain ⟨A,hA⟩:∃ A,(D.getD i cz).1=A:=⟨_,rfl⟩
  obtain ⟨ca,hca⟩:∃ ca,D.getD i cz=ca:=⟨_,rfl⟩
  rw [hca] at hA hPi
  obtain ⟨A',csa⟩:=ca
  change A'=A at hA
  subst hA
  change List Atom at A'
  have hAl:A'.length<=1000:=hPi.1
  refine HOk.loop (by assumption) (fun k:Nat=>⟨[(6,.dat (.int .i64) (k:Int)),(5,.dat (.int .i64) (i:Int)),(2,.ref 0 0),(1,.dat (.slice .str) l)],[(0,.box 33 (.cons (.dat (.slice .str) hd) (.cons (.dat (.slice cqT) D) .nil)))],1⟩) (fun k=>k<=A'.length/\∀ a∈A'.take k,atOK D l i a) (fun k=>A'.length-k) 0 1 ⟨Nat.zero_le _,fun a ha=>by simp at ha⟩ ?_ ?_
  ·dsimp only [go_sem]
   and_intros<;>first|trivial|rfl|omega
  rintro k ⟨hk,hzk⟩ R2 hm2
  refine HOk.run (by assumption) 100 _ _ ?_
  dsimp only [go_sem]
  simp only [Int.toNat_natCast,hzl,hzD,hca]
  refine ⟨hbi,fun e=>?_,fun e=>?_⟩
  ·have e:k<A'.length:=by
     have e:(k:Int)<(A'.length:Int):=of_decide_eq_true e
     omega
   have hbk:(0:Int)<=(k:Int)/\(k:Int)<(A'.length:Int):=by omega
   have hik:inR .i64 ((k:Int)+1):=by rw [inR_i64]; omega
   have hkm:A'.length-(k+1)<A'.length-k:=by omega
   have hsk:A'.take (k+1)=A'.take k++[A'.getD k ([],false,[])]:=take_snoc _ e
   have hma:=getDm (l:=A') ([],false,[]) e
   have hzA:A'.getD k (zd atomT)=A'.getD k ([],false,[]):=rfl
   simp only [hzA]
   generalize A'.getD k ([],false,[])=a at hsk hma ⊢
   have hat:a.2.2.length<=2000000:=Nat.le_trans (hPi.2.1 a hma) (by decide)
   have hma2:a∈(D.getD i cz).1:=by rw [hca]; exact hma
   refine ⟨hbi,hbk,hbl,hat,fun f=>?_,fun f=>?_⟩
   ·have hv:sepB D l=false:=sepB_no d hma2 fun h=>by
      rw [Bool.not_eq_true'] at f
      rw [h.1] at f
      cases f
    rw [hv]
    and_intros<;>first|trivial|rfl
   have f:hasR (l.getD i []) a=true:=by rw [<-Bool.not_eq_false']; exact f
   refine HOk.loop (by assumption) (fun j:Nat=>⟨[(8,.dat (.int .i64) (j:Int)),(7,.ref 1 0),(6,.dat (.int .i64) (k:Int)),(5,.dat (.int .i64) (i:Int)),(2,.ref 0 0),(1,.dat (.slice .str) l)],[(0,.box 33 (.cons (.dat (.slice .str) hd) (.cons (.dat (.slice cqT) D) .nil))),(1,.box 42 (.cons (.dat .str a.1) (.cons (.dat .bool a.2.1) (.cons (.dat (.slice termT) a.2.2) .nil))))],2⟩) (fun j=>j<=l.length/\∀ j',j'<j->∀ b∈(D.getD j' cz).1,okAB a (l.getD i []) b (l.getD j' [])=true) (fun j=>l.length-j) 0 2 ⟨Nat.zero_le _,fun j h=>absurd h (Nat.not_lt_zero _)⟩ ?_ ?_
   ·dsimp only [go_sem]
    and_intros<;>first|trivial|rfl|omega
   rintro j ⟨hj,hzj⟩ R3 hm3
   refine HOk.run (by assumption) 100 _ _ ?_
   dsimp only [go_sem]
   refine ⟨fun g=>?_,fun g=>?_⟩
   ·have g:j<l.length:=by
      have g:(j:Int)<(l.length:Int):=of_decide_eq_true g
      omega
    have hbj:(0:Int)<=(j:Int)/\(j:Int)<(D.length:Int):=by omega
    have hblj:(0:Int)<=(j:Int)/\(j:Int)<(l.length:Int):=by omega
    have hij:inR .i64 ((j:Int)+1):=by rw [inR_i64]; omega
    have hjm:l.length-(j+1)<l.length-j:=by omega
    have hPj:=hPD j (by omega)
    obtain ⟨cb,hcb⟩:∃ cb,D.getD j cz=cb:=⟨_,rfl⟩
    rw [hcb] at hPj
    obtain ⟨B',csb⟩:=cb
    change List Atom at B'
    have hBl:B'.length<=1000:=hPj.1
    refine HOk.loop (by assumption) (fun m:Nat=>⟨[(9,.dat (.int .i64) (m:Int)),(8,.dat (.int .i64) (j:Int)),(7,.ref 1 0),(6,.dat (.int .i64) (k:Int)),(5,.dat (.int .i64) (i:Int)),(2,.ref 0 0),(1,.dat (.slice .str) l)],[(0,.box 33 (.cons (.dat (.slice .str) hd) (.cons (.dat (.slice cqT) D) .nil))),(1,.box 42 (.cons (.dat .str a.1) (.cons (.dat .bool a.2.1) (.cons (.dat (.slice termT) a.2.2) .nil))))],2⟩) (fun m=>m<=B'.length/\∀ b∈B'.take m,okAB a (l.getD i []) b (l.getD j [])=true) (fun m=>B'.length-m) 0 2 ⟨Nat.zero_le _,fun a ha=>by simp at ha⟩ ?_ ?_
    ·dsimp only [go_sem]
     and_intros<;>first|trivial|rfl|omega
    rintro m ⟨hmm,hzm⟩ R4 hm4
    refine HOk.run (by assumption) 100 _ _ ?_
    dsimp only [go_sem]
    simp only [Int.toNat_natCast,hzl,hzD,hcb,imp_self,true_and]
    refine ⟨hbj,fun u=>?_,fun u=>?_⟩
    ·have u:m<B'.length:=by
       have u:(m:Int)<(B'.length:Int):=of_decide_eq_true u
       omega
     have hbm:(0:Int)<=(m:Int)/\(m:Int)<(B'.length:Int):=by omega
     have hi2:inR .i64 ((m:Int)+1):=by rw [inR_i64]; omega
     have hmu:B'.length-(m+1)<B'.length-m:=by omega
     have hsm:B'.take (m+1)=B'.take m++[B'.getD m ([],false,[])]:=take_snoc _ u
     have hmb:=getDm (l:=B') ([],false,[]) u
     have hzB:B'.getD m (zd atomT)=B'.getD m ([],false,[]):=rfl
     simp only [hzB]
     generalize B'.getD m ([],false,[])=b at hsm hmb ⊢
     have hok:=okAB_com a (l.getD i []) b (l.getD j [])
     have hmb2:b∈(D.getD j cz).1:=by rw [hcb]; exact hmb
     refine ⟨hbj,hbm,hat,fun _=>hbl,fun _=>hblj,fun _=>hat,fun h=>?_,fun h=>⟨hi2,hm4 _ (m+1) 2 ⟨u,fun b' hb'=>?_⟩ hmu ?_⟩⟩
     ·have hv:sepB D l=false:=sepB_no d hma2 fun q=>by
        have q:=q.2 j g b hmb2
        rw [<-hok] at q
        rw [Bool.and_eq_true,Bool.not_eq_true',Bool.not_eq_true'] at h
        rw [h.1,h.2] at q
        cases q
      rw [hv]
      and_intros<;>first|trivial|rfl
     ·rw [hsm,List.mem_append] at hb'
      rcases hb' with hb'|hb'
      ·exact hzm b' hb'
      ·rw [List.mem_singleton.1 hb',<-hok]
       revert h
       cases djB a b<;>cases comB a (l.getD i []) b (l.getD j [])<;>simp
     ·dsimp only [go_sem]
      and_intros<;>first|trivial|rfl|omega
    ·have u:m=B'.length:=by
       have u:¬(m:Int)<(B'.length:Int):=of_decide_eq_false u
       omega
     subst u
     rw [List.take_length] at hzm
     refine ⟨hij,hm3 _ (j+1) 2 ⟨g,fun j' hj'=>?_⟩ hjm ?_⟩
     ·rcases Nat.lt_or_ge j' j with h|h
      ·exact hzj j' h
      ·have:j'=j:=by omega
       subst this
       rw [hcb]
       exact hzm
     ·dsimp only [go_sem]
      and_intros<;>first|trivial|rfl|omega
   ·have g:j=l.length:=by
      have g:¬(j:Int)<(l.length:Int):=of_decide_eq_false g
      omega
    subst g
    refine ⟨hik,hm2 _ (k+1) 1 ⟨e,fun a' ha'=>?_⟩ hkm ?_⟩
    ·rw [hsk,List.mem_append] at ha'
     rcases ha' with ha'|ha'
     ·exact hzk a' ha'
     ·rw [List.mem_singleton.1 ha']
      exact ⟨f,hzj⟩
    ·dsimp only [go_sem]
     and_intros<;>first|trivial|rfl|omega
  ·have e:k=A'.length:=by
     have e:¬(k:Int)<(A'.length:Int):=of_decide_eq_false e
     omega
   subst e
   rw [List.take_length] at hzk
   refine ⟨hii,hm _ (i+1) 1 ⟨d,fun j hj=>?_⟩ him ?_⟩
   ·rcases Nat.lt_or_ge j i with h|h
    ·exact hz j h
    ·have:j=i:=by omega
     subst this
     rw [hca]
     exact hzk
   ·dsimp only [go_sem]
    and_intros<;>first|trivial|rfl|omega
 ·have d:i=l.length:=by
    have d:¬(i:Int)<(l.length:Int):=of_decide_eq_false d
    omega
  subst d
  rw [show sepB D l=true from sepB_at.2 hz]
  and_intros<;>first|trivial|rfl
end Go.Proofs.YtdobkkhncfifeabGreat.Gx
namespace Go.Proofs.YtdobkkhncfifeabGreat.Gx
open Go Go.RowKit Tw B Nt
set_option linter.unusedVariables false
set_option linter.unusedSimpArgs false
set_option maxHeartbeats 40000000
set_option maxRecDepth 20000
@[go_sem] def rhsS:Spec:=⟨[.slice .str,.str],fun d=>(.dat .bool (List.any d.1 (fun x=>decide (x=d.2.1))),[List.length d.1<=2000000])⟩
theorem rhs_ok:SpecOk Tryz.prog 34 rhsS:=by
 refine fn_ok EL2_ok rhsS Tryz.func34 rfl (by decide) (N:=18) rfl (res:=[.tmp 4]) rfl (by decide) [] [] [] 100 (by kernel_rfl) ?_
 rintro ⟨l,nm,_⟩ hw hp
 refine ⟨rfl,fun H hH=>?_⟩
 dsimp only [go_sem] at hw hp ⊢
 obtain ⟨hp,-⟩:=hp
 change List Str at l
 change Str at nm
 change List.length l<=2000000 at hp
 clear hw
 refine hH.loop (fun i:Nat=>⟨[(5,.dat (.int .i64) (i:Int)),(1,.dat .str nm),(0,.dat (.slice .str) l)],[],0⟩) (fun i=>i<=l.length/\(l.take i).any (fun x=>decide (x=nm))=false) (fun i=>l.length-i) 0 0 ⟨Nat.zero_le _,rfl⟩ ?_ ?_
 ·dsimp only [go_sem]
  and_intros<;>first|trivial|rfl|omega
 ·rintro i ⟨hi,ha⟩ R hm
  refine hH.run 100 _ _ ?_
  dsimp only [go_sem]
  simp only [Int.toNat_natCast]
  refine ⟨fun d=>?_,fun d=>?_⟩<;>simp only [decide_eq_true_eq,decide_eq_false_iff_not] at d
  ·have d:i<l.length:=by omega
   have hb:(0:Int)<=(i:Int)/\(i:Int)<(l.length:Int):=by omega
   have hs:=any_snoc (p:=fun x:Str=>decide (x=nm)) (zd .str) d
   rw [ha,Bool.false_or] at hs
   refine ⟨hb,fun e=>?_,fun e=>⟨by rw [inR_i64]; omega,hm _ (i+1) 0 ⟨d,by rw [hs]; exact e⟩ (by omega) ?_⟩⟩
   ·have h1:true=l.any (fun x=>decide (x=nm)):=by
      symm
      rw [List.any_eq_true]
      exact ⟨_,getDm (zd .str) d,e⟩
    exact ⟨h1,trivial⟩
   ·dsimp only [go_sem]
    and_intros<;>first|trivial|rfl|omega
  ·have d:i=l.length:=by omega
   subst d
   rw [List.take_length] at ha
   exact ⟨ha.symm,trivial⟩
@[go_sem] noncomputable def EL3:Env:=((EL2).add 32 sepS).add 34 rhsS
theorem EL3_ok:EL3.Ok:=((EL2_ok).add sep_ok).add rhs_ok
def qP (q:Qry):Prop:=(q.2.length<=3/\q.1.length<=1000)/\∀ c∈q.2,cqP c/\(vrs (trm c)).length<=30
@[go_sem] def choS (k:Nat):Spec:=⟨[qryT,.slice .str],fun d=>(.dat (.slice (.slice .str)) (chR d.1.2 d.1.1 k d.2.1),[List.length d.2.1+k=List.length d.1.2/\qP d.1])⟩
@[go_sem] noncomputable def ELc (k:Nat):Env:=(EL3).add 21 (choS k)
theorem cho0_ok:SpecOk Tryz.prog 21 (choS 0):=by
 refine fn_ok EL3_ok (choS 0) Tryz.func21 rfl (by decide) (N:=87) rfl (res:=[.tmp 4]) rfl (by decide) [(3,[(20,.dt)]),(16,[(1000000,.mx [(9000000,0)])])] [] [5] 100 (by kernel_rfl) ?_
 rintro ⟨q,l,_⟩ hw hp
 refine ⟨rfl,fun H hH=>?_⟩
 dsimp only [go_sem] at hw hp ⊢
 obtain ⟨⟨hl,hq⟩,-⟩:=hp
 obtain ⟨hd,D⟩:=q
 change List Cq at D
 change List Str at l hd
 change l.length+0=D.length at hl
 have hP:∀ c∈D,cqP c:=fun c hc=>(hq.2 c hc).1
 have e0:∀ p:Prop,(decide ((l.length:Int)=(D.length:Int))=false->p):=fun p h=>by
  have h:=of_decide_eq_false h
  omega
 refine ⟨fun _=>⟨⟨by show l.length<=D.length; omega,hP⟩,fun h=>⟨?_,trivial⟩,fun h=>⟨?_,trivial⟩⟩,fun h=>e0 _ h⟩
 ·show [l]=if sepB D l=true then [l] else []
  rw [if_pos h]
 ·show []=if sepB D l=true then [l] else []
  rw [if_neg (by rw [h]; decide)]
def chQ (D:List Cq) (hd:List Str) (k:Nat) (l nm:List Str):List (List Str):=nm.flatMap fun x=>if (!(hd.any fun y=>decide (y=x))&&(D.getD l.length cz).1.all (hasR x))=true then chR D hd k (l++[x]) else []
theorem flat_len {α β:Type} {f:α->List β} {b:Nat}:∀ {C:List α},(∀ x∈C,(f x).length<=b)->(C.flatMap f).length<=C.length*b
 | [],_=>by simp
 | x::C,h=>by
  have h1:=h x List.mem_cons_self
  have h2:=flat_len (f:=f) (b:=b) (C:=C) fun y hy=>h y (List.mem_cons_of_mem _ hy)
  rw [List.flatMap_cons,List.length_append,List.length_cons,Nat.succ_mul]
  omega
theorem flat_filter {α β:Type} {f:α->List β} {q:α->Bool}:∀ (C:List α),(C.filter q).flatMap f=C.flatMap fun x=>if q x=true then f x else []
 | []=>rfl
 | x::C=>by
  by_cases h:q x=true
  ·rw [List.filter_cons_of_pos h,List.flatMap_cons,List.flatMap_cons,if_pos h,flat_filter C]
  ·rw [List.filter_cons_of_neg h,List.flatMap_cons,if_neg h,List.nil_append,flat_filter C]
theorem chR_len {D:List Cq} {hd:List Str} (hD:∀ c∈D,(vrs (trm c)).length<=30):∀ (k:Nat) {l:List Str},l.length+k=D.length->(chR D hd k l).length<=30 ^ k
 | 0,l,_=>by
  unfold chR
  split<;>simp
 | k+1,l,h=>by
  unfold chR
  have h1:(candR D hd l.length).length<=30:=Nat.le_trans (List.length_filter_le _ _) (hD _ (getDm (l:=D) cz (show l.length<D.length by omega)))
  have h2:=flat_len (C:=candR D hd l.length) (f:=fun x=>chR D hd k (l++[x])) (b:=30 ^ k) fun x _=>chR_len hD k (by rw [List.length_append,List.length_singleton]; omega)
  have h3:(candR D hd l.length).length*30 ^ k<=30*30 ^ k:=Nat.mul_le_mul_right _ h1
  rw [Nat.pow_succ,Nat.mul_comm (30 ^ k)]
  exact Nat.le_trans h2 h3
theorem chQ_snoc (D:List Cq) (hd:List Str) (k:Nat) (l nm:List Str) (x:Str):chQ D hd k l (nm++[x])=chQ D hd k l nm++if (!(hd.any fun y=>decide (y=x))&&(D.getD l.length cz).1.all (hasR x))=true then chR D hd k (l++[x]) else []:=by
 unfold chQ
 rw [List.flatMap_append]
 simp
theorem choN_ok (k:Nat) (ih:SpecOk Tryz.prog 21 (choS k)):SpecOk Tryz.prog 21 (choS (k+1)):=by
 have hE:(ELc k).Ok:=EL3_ok.add ih
 refine fn_ok hE (choS (k+1)) Tryz.func21 rfl (by decide) (N:=87) rfl (res:=[.tmp 4]) rfl (show 2<=87 by decide) [(3,[(20,.dt)]),(16,[(82,.dt),(83,.fz 3),(1000000,.mx [(3,2),(5,2),(6,2),(7,2),(8,2),(9,2),(0,1000000),(1,3000000)])])] [(17,[1])] [] 100 (by kernel_rfl) ?_
 rintro ⟨q,l,_⟩ hw hp
 refine ⟨rfl,fun H hH=>?_⟩
 dsimp only [go_sem] at hw hp ⊢
 obtain ⟨⟨hl,hq⟩,-⟩:=hp
 obtain ⟨hd,D⟩:=q
 change List Cq at D
 change List Str at l hd
 change l.length+(k+1)=D.length at hl
 have hP:∀ c∈D,cqP c/\(vrs (trm c)).length<=30:=hq.2
 have hD3:D.length<=3:=hq.1.1
 have hh:hd.length<=2000000:=Nat.le_trans hq.1.2 (by decide)
 have hzD:∀ k,D.getD k (zd cqT)=D.getD k cz:=fun _=>rfl
 have hn:l.length<D.length:=by omega
 have hPn:=hP _ (getDm (l:=D) cz hn)
 clear hw
 simp only [Int.toNat_natCast,hzD]
 refine ⟨fun h=>?_,fun _=>?_⟩
 ·have h:=of_decide_eq_true h
  have h:(l.length:Int)=(D.length:Int):=h
  omega
 obtain ⟨cc,hcc⟩:∃ cc,D.getD l.length cz=cc:=⟨_,rfl⟩
 obtain ⟨A,cs⟩:=cc
 change List Atom at A
 simp only [hcc]
 rw [hcc] at hPn
 have hAl:A.length<=1000:=hPn.1.1
 have hbD:(0:Int)<=(l.length:Int)/\(l.length:Int)<(D.length:Int):=by omega
 obtain ⟨nm,hnm⟩:∃ nm,vrs (trm (A,cs))=nm:=⟨_,rfl⟩
 rw [hnm] at hPn ⊢
 have hn30:nm.length<=30:=hPn.2
 have hfin:chR D hd (k+1) l=chQ D hd k l nm:=by
  show (candR D hd l.length).flatMap (fun x=>chR D hd k (l++[x]))=_
  unfold candR chQ
  rw [flat_filter,hcc,hnm]
 have hlx:∀ x:Str,(l++[x]).length+k=D.length:=fun x=>by rw [List.length_append,List.length_singleton]; omega
 have h30:30 ^ k<=900:=by
  have:k<=2:=by omega
  exact Nat.le_trans (Nat.pow_le_pow_right (by decide) this) (by decide)
 have hRl:∀ x:Str,(chR D hd k (l++[x])).length<=900:=fun x=>Nat.le_trans (chR_len (fun c hc=>(hP c hc).2) k (hlx x)) h30
 have hQl:∀ i,(chQ D hd k l (nm.take i)).length<=27000:=fun i=>by
  have h:=flat_len (C:=nm.take i) (f:=fun x=>if (!(hd.any fun y=>decide (y=x))&&(D.getD l.length cz).1.all (hasR x))=true then chR D hd k (l++[x]) else []) (b:=900) fun x _=>by
   split
   ·exact hRl x
   ·simp
  have h2:(nm.take i).length<=30:=Nat.le_trans (List.length_take_le' _ _) hn30
  exact Nat.le_trans h (Nat.le_trans (Nat.mul_le_mul_right 900 h2) (by decide))
 refine ⟨hbD,hPn.1,?_⟩
 refine hH.loop (fun i:Nat=>⟨[(7,.dat (.int .i64) (i:Int)),(6,.dat (.slice .str) nm),(5,.own 1),(2,.ref 0 0),(1,.dat (.slice .str) l)],[(0,.box 33 (.cons (.dat (.slice .str) hd) (.cons (.dat (.slice cqT) D) .nil))),(1,.row 23 (.slice .str) (chQ D hd k l (nm.take i)))],2⟩) (fun i=>i<=nm.length) (fun i=>nm.length-i) 0 1 (Nat.zero_le _) ?_ ?_
 ·dsimp only [go_sem]
  and_intros<;>first|trivial|rfl|omega
 rintro i hi R hm
 refine hH.run 100 _ _ ?_
 dsimp only [go_sem]
 simp only [Int.toNat_natCast]
 refine ⟨fun d=>?_,fun d=>?_⟩
 ·have d:i<nm.length:=by
    have d:(i:Int)<(nm.length:Int):=of_decide_eq_true d
    omega
  have hbi:(0:Int)<=(i:Int)/\(i:Int)<(nm.length:Int):=by omega
  have hii:inR .i64 ((i:Int)+1):=by rw [inR_i64]; omega
  have him:nm.length-(i+1)<nm.length-i:=by omega
  have hzn:nm.getD i (zd .str)=nm.getD i []:=rfl
  simp only [hzn]
  have hsn:nm.take (i+1)=nm.take i++[nm.getD i []]:=take_snoc [] d
  obtain ⟨x,hx⟩:∃ x,nm.getD i []=x:=⟨_,rfl⟩
  simp only [hx]
  rw [hx] at hsn
  refine ⟨hbi,hh,?_⟩
  obtain ⟨w0,hw0⟩:∃ w0,(!hd.any fun y=>decide (y=x))=w0:=⟨_,rfl⟩
  rw [hw0]
  refine HOk.loop (by assumption) (fun j:Nat=>⟨[(9,.dat (.int .i64) (j:Int)),(8,.dat .bool (w0&&(A.take j).all (hasR x))),(7,.dat (.int .i64) (i:Int)),(6,.dat (.slice .str) nm),(5,.own 1),(2,.ref 0 0),(1,.dat (.slice .str) l)],[(0,.box 33 (.cons (.dat (.slice .str) hd) (.cons (.dat (.slice cqT) D) .nil))),(1,.row 23 (.slice .str) (chQ D hd k l (nm.take i)))],2⟩) (fun j=>j<=A.length) (fun j=>A.length-j) 0 2 (Nat.zero_le _) ?_ ?_
  ·dsimp only [go_sem]
   simp only [List.take_zero,List.all_nil,Bool.and_true]
   and_intros<;>first|trivial|rfl|omega
  rintro j hj R2 hm2
  refine HOk.run (by assumption) 100 _ _ ?_
  dsimp only [go_sem]
  simp only [Int.toNat_natCast,hzD,hcc,hzn,imp_self,true_and]
  refine ⟨hbD,fun e=>?_,fun e=>?_⟩
  ·have e:j<A.length:=by
     have e:(j:Int)<(A.length:Int):=of_decide_eq_true e
     omega
   have hbj:(0:Int)<=(j:Int)/\(j:Int)<(A.length:Int):=by omega
   have hij:inR .i64 ((j:Int)+1):=by rw [inR_i64]; omega
   have hjm:A.length-(j+1)<A.length-j:=by omega
   have hzA:A.getD j (zd atomT)=A.getD j ([],false,[]):=rfl
   have hsA:A.take (j+1)=A.take j++[A.getD j ([],false,[])]:=take_snoc _ e
   have hma:=getDm (l:=A) ([],false,[]) e
   simp only [hzA,hx]
   generalize A.getD j ([],false,[])=a at hsA hma ⊢
   have hat:a.2.2.length<=2000000:=Nat.le_trans (hPn.1.2.1 a hma) (by decide)
   have hall:(A.take (j+1)).all (hasR x)=((A.take j).all (hasR x)&&hasR x a):=by rw [hsA,List.all_append]; simp
   refine ⟨fun _=>hbD,fun _=>hbj,fun _=>hbi,fun _=>hat,hij,hm2 _ (j+1) 2 e hjm ?_⟩
   dsimp only [go_sem]
   rw [hall,<-Bool.and_assoc]
   and_intros<;>first|trivial|rfl|omega
  ·have e:j=A.length:=by
     have e:¬(j:Int)<(A.length:Int):=of_decide_eq_false e
     omega
   subst e
   rw [List.take_length]
   simp only [hx]
   have hcq:=chQ_snoc D hd k l (nm.take i) x
   rw [<-hsn,hcc,hw0] at hcq
   refine ⟨fun f=>?_,fun f=>?_⟩
   ·have b1:(0+l.length)*16<=140737488355328:=by omega
    have b2:(l.length+1)*16<=140737488355328:=by omega
    have b3:((chQ D hd k l (nm.take i)).length+(chR D hd k (l++[x])).length)*24<=140737488355328:=by have:=hQl i; have:=hRl x; omega
    have hcq:chQ D hd k l (nm.take (i+1))=chQ D hd k l (nm.take i)++chR D hd k (l++[x]):=by rw [hcq,if_pos f]
    refine ⟨b1,hbi,b2,⟨hlx x,hq⟩,b3,hii,HOk.ren (by assumption) [(0,0),(1,4)] 2 rfl rfl (Nat.zero_le _) rfl ?_⟩
    dsimp only [go_sem]
    refine hm _ (i+1) 2 d him ?_
    dsimp only [go_sem]
    rw [hcq]
    and_intros<;>first|trivial|rfl|omega
   ·have hcq:chQ D hd k l (nm.take (i+1))=chQ D hd k l (nm.take i):=by rw [hcq,if_neg (by rw [f]; decide),List.append_nil]
    refine ⟨hii,hm _ (i+1) 2 d him ?_⟩
    dsimp only [go_sem]
    rw [hcq]
    and_intros<;>first|trivial|rfl|omega
 ·have d:i=nm.length:=by
    have d:¬(i:Int)<(nm.length:Int):=of_decide_eq_false d
    omega
  subst d
  rw [List.take_length,hfin]
  exact ⟨rfl,trivial⟩
end Go.Proofs.YtdobkkhncfifeabGreat.Gx
namespace Go.Proofs.YtdobkkhncfifeabGreat.Gx
open Go Go.RowKit Tw B Nt
set_option linter.unusedVariables false
set_option linter.unusedSimpArgs false
set_option maxHeartbeats 40000000
set_option maxRecDepth 20000
theorem cho_ok:∀ k,SpecOk Tryz.prog 21 (choS k)
 | 0=>cho0_ok
 | k+1=>choN_ok k (cho_ok k)
@[go_sem] def chaS:Spec:=⟨[qryT,.slice .str],fun d=>(.dat (.slice (.slice .str)) (chR d.1.2 d.1.1 (List.length d.1.2-List.length d.2.1) d.2.1),[List.length d.2.1<=List.length d.1.2/\qP d.1])⟩
theorem cha_ok:SpecOk Tryz.prog 21 chaS:=by
 rintro ⟨q,l,u⟩ ⟨⟨h1,h2⟩,-⟩
 refine cho_ok (List.length q.2-List.length l) (q,l,u) ⟨⟨?_,h2⟩,trivial⟩
 change List.length l<=List.length q.2 at h1
 show List.length l+(List.length q.2-List.length l)=List.length q.2
 omega
@[go_sem] noncomputable def EL4:Env:=(EL3).add 21 chaS
theorem EL4_ok:EL4.Ok:=(EL3_ok).add cha_ok
@[go_sem] def sepsS:Spec:=⟨[qryT],fun d=>(.dat (.slice (.slice .str)) (sepL d.1.2 d.1.1),[qP d.1])⟩
theorem seps_ok:SpecOk Tryz.prog 8 sepsS:=by
 refine fn_ok EL4_ok sepsS Tryz.func8 rfl (by decide) (N:=25) rfl (res:=[.tmp 2]) rfl (by decide) [] [] [] 100 (by kernel_rfl) ?_
 rintro ⟨q,_⟩ hw hp
 refine ⟨rfl,fun H hH=>?_⟩
 dsimp only [go_sem] at hw hp ⊢
 obtain ⟨hq,-⟩:=hp
 obtain ⟨hd,D⟩:=q
 change List Cq at D
 change List Str at hd
 have hD3:D.length<=3:=hq.1.1
 have hzD:∀ k,D.getD k (zd cqT)=D.getD k cz:=fun _=>rfl
 clear hw
 refine hH.loop (fun i:Nat=>⟨[(3,.dat (.int .i64) (i:Int)),(1,.ref 0 0)],[(0,.box 33 (.cons (.dat (.slice .str) hd) (.cons (.dat (.slice cqT) D) .nil)))],1⟩) (fun i=>i<=D.length/\∀ j,j<i->(D.getD j cz).1≠[]) (fun i=>D.length-i) 0 1 ⟨Nat.zero_le _,fun j h=>absurd h (Nat.not_lt_zero _)⟩ ?_ ?_
 ·dsimp only [go_sem]
  and_intros<;>first|trivial|rfl|omega
 rintro i ⟨hi,hz⟩ R hm
 refine hH.run 100 _ _ ?_
 dsimp only [go_sem]
 simp only [Int.toNat_natCast,hzD]
 refine ⟨fun d=>?_,fun d=>?_⟩
 ·have d:i<D.length:=by
    have d:(i:Int)<(D.length:Int):=of_decide_eq_true d
    omega
  have hbi:(0:Int)<=(i:Int)/\(i:Int)<(D.length:Int):=by omega
  have hii:inR .i64 ((i:Int)+1):=by rw [inR_i64]; omega
  have him:D.length-(i+1)<D.length-i:=by omega
  have hmi:=getDm (l:=D) cz d
  generalize hc:D.getD i cz=c at hmi ⊢
  obtain ⟨A,cs⟩:=c
  change List Atom at A
  refine ⟨hbi,fun e=>⟨?_,trivial⟩,fun e=>⟨hii,hm _ (i+1) 1 ⟨d,fun j hj=>?_⟩ him ?_⟩⟩
  ·have e:(A.length:Int)=0:=of_decide_eq_true e
   have e:A=[]:=List.length_eq_zero_iff.1 (by omega)
   show []=sepL D hd
   unfold sepL
   rw [if_neg (fun h=>by rw [h] at d; exact absurd d (Nat.not_lt_zero _)),if_neg]
   rw [List.all_eq_true]
   intro h
   have h:=h _ hmi
   simp [e] at h
  ·rcases Nat.lt_or_ge j i with h|h
   ·exact hz j h
   ·have:j=i:=by omega
    subst this
    rw [hc]
    have e:¬(A.length:Int)=0:=of_decide_eq_false e
    intro h
    have h:A=[]:=h
    rw [h] at e
    exact e rfl
  ·dsimp only [go_sem]
   and_intros<;>first|trivial|rfl|omega
 ·have d:i=D.length:=by
    have d:¬(i:Int)<(D.length:Int):=of_decide_eq_false d
    omega
  subst d
  refine ⟨fun e=>⟨?_,trivial⟩,fun e=>⟨⟨Nat.zero_le _,hq⟩,?_,trivial⟩⟩
  ·have e:(D.length:Int)=0:=of_decide_eq_true e
   have e:D=[]:=List.length_eq_zero_iff.1 (by omega)
   show []=sepL D hd
   unfold sepL
   rw [if_pos e]
  ·have e:¬(D.length:Int)=0:=of_decide_eq_false e
   show chR D hd (D.length-0) []=sepL D hd
   unfold sepL
   rw [if_neg (fun h=>e (by rw [h]; rfl)),if_pos,Nat.sub_zero]
   rw [List.all_eq_true]
   intro c hc
   obtain ⟨j,hj,rfl⟩:=List.getElem_of_mem hc
   have h:=hz j hj
   rw [List.getD_eq_getElem?_getD,List.getElem?_eq_getElem hj] at h
   exact decide_eq_true h
end Go.Proofs.YtdobkkhncfifeabGreat.Gx
