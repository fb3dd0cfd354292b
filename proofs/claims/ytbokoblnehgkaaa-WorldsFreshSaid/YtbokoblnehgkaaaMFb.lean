/-
  MFb: WU WH FP WJ WI in one text.
-/
import Derived.Test.YtbokoblnehgkaaaMWb
import Derived.Test.YtbokoblnehgkaaaMFa
namespace Go.Proofs.Ytbokoblnehgkaaa.Gx
open Go Go.RowKit Tw B Nt
set_option linter.unusedVariables false
set_option linter.unusedSimpArgs false
set_option maxHeartbeats 4000000
set_option maxRecDepth 20000
@[go_sem] noncomputable def EWE:Env:=EWD
theorem EWE_ok:EWE.Ok:=EWD_ok
@[go_sem] def rFsS:Spec:=⟨[spT],fun d=>(.dat wdT (fsR d.1),[spP d.1])⟩
theorem rFs_ok:SpecOk Try.prog 11 rFsS:=by
 refine fn_ok EWE_ok rFsS Try.func11 rfl (by decide) (N:=30) rfl (res:=[.tmp 2]) rfl (by decide) [] [(9,[1])] [] 100 (by kernel_rfl) ?_
 rintro ⟨s,_⟩ hw hp
 refine ⟨rfl,fun H hH=>?_⟩
 dsimp only [go_sem] at hw hp ⊢
 obtain ⟨hs,-⟩:=hp
 have hr:fsR s=if vld s then fst s else []:=rfl
 refine ⟨hs,fun h=>?_,fun h=>?_⟩<;>simp only [Bool.not_eq_true',Bool.not_eq_false'] at h
 ·rw [hr,if_neg (by rw [h]; decide)]
  exact ⟨rfl,trivial⟩
 rw [if_pos h] at hr
 have hsl:=hs.1
 refine ⟨⟨Int.natCast_nonneg _,Int.le_refl _,by show (8:Int)*(List.length s:Int)<=140737488355328; omega⟩,?_⟩
 rw [Int.toNat_natCast]
 have hz:(zd (Ty.int IntKind.i64))=(0:Int):=rfl
 rw [hz]
 refine hH.loop (fun i:Nat=>⟨[(1,.ref 0 0),(3,.own 1),(4,.dat (.int .i64) (i:Int))],[(0,.box 25 (.cons (.dat (.slice bkT) s) .nil)),(1,.row 3 (.int .i64) (fst (List.take i s)++List.replicate (List.length s-i) 0))],2⟩) (fun i=>i<=List.length s) (fun i=>List.length s-i) 0 2 (Nat.zero_le _) ?_ ?_
 ·dsimp only [go_sem]
  simp [fst]
 ·intro i hi R hm
  refine hH.run 100 _ _ ?_
  dsimp only [go_sem]
  rw [Int.toNat_natCast]
  have hlen:(fst (List.take i s)++List.replicate (List.length s-i) (0:Int)).length=List.length s:=by
   have hi:i<=List.length s:=hi
   unfold fst; rw [List.length_append,List.length_map,len_take (by omega),List.length_replicate]; omega
  rw [hlen]
  refine ⟨fun d=>?_,fun d=>?_⟩<;>simp only [decide_eq_true_eq,decide_eq_false_iff_not] at d
  ·have d:i<List.length s:=by omega
   have hzb:List.getD s i (zd bkT)=List.getD s i []:=rfl
   rw [hzb]
   have htk:=take_get s i [] d
   generalize List.getD s i []=b at *
   have e:=fun x=>set_rep (fst (List.take i s)) x (List.length s-(i+1)) (i:=i) (by unfold fst; rw [List.length_map,len_take (by omega)])
   rw [show List.length s-(i+1)+1=List.length s-i by omega] at e
   have e2:fst (List.take (i+1) s)=fst (List.take i s)++[chc b 0]:=by rw [htk]; unfold fst; rw [List.map_append]; rfl
   have b1:(0:Int)<=(i:Int)/\(i:Int)<(List.length s:Int):=by omega
   refine ⟨b1,fun g=>?_,fun g=>?_⟩<;>simp only [decide_eq_true_eq,decide_eq_false_iff_not] at g
   ·have hch:chc b 0 = -1:=by unfold chc; rw [if_pos (by omega)]
    rw [hch] at e2
    rw [e]
    refine ⟨b1,d,by rw [inR_i64]; omega,hm _ (i+1) 2 d (by omega) ?_⟩
    dsimp only [go_sem]
    rw [e2]
    simp
   ·have hch:chc b 0=0:=by unfold chc; rw [if_neg (by omega)]
    rw [hch] at e2
    refine ⟨by rw [inR_i64]; omega,hm _ (i+1) 2 d (by omega) ?_⟩
    dsimp only [go_sem]
    have e3:=e 0
    rw [show List.length s-i=(List.length s-(i+1))+1 by omega] at e3 ⊢
    rw [e2]
    simp [List.replicate_succ]
  ·rw [List.take_of_length_le (by omega),show List.length s-i=0 by omega,List.replicate_zero,List.append_nil]
   rw [hr]
   exact ⟨rfl,trivial⟩
@[go_sem] noncomputable def EWF:Env:=(EWE).add 11 rFsS
theorem EWF_ok:EWF.Ok:=(EWE_ok).add rFs_ok
end Go.Proofs.Ytbokoblnehgkaaa.Gx
namespace Go.Proofs.Ytbokoblnehgkaaa.Gx
open Go Go.RowKit Tw B Nt
set_option linter.unusedVariables false
set_option linter.unusedSimpArgs false
set_option maxHeartbeats 4000000
set_option maxRecDepth 20000
@[go_sem] def wFsM:MSpec:=⟨[.d spT],fun d=>⟨[(0,.row 3 (.int .i64) (fsR d.1))],1,.own 0,[spP d.1]⟩⟩
theorem wFsM_ok:MSpecOk Try.prog 7 wFsM:=by
 refine fnM_ok EW4_ok wFsM Try.func7 rfl (by decide) (N:=28) rfl (res:=[.tmp 2]) rfl (by decide) [] [] [] 100 (by kernel_rfl) ?_
 rintro ⟨s,_⟩ hw hp H hH
 dsimp only [go_sem] at hw hp ⊢
 obtain ⟨hs,-⟩:=hp
 have hr:fsR s=if vld s then fst s else []:=rfl
 refine ⟨hs,fun h=>?_,fun h=>?_⟩<;>simp only [Bool.not_eq_true',Bool.not_eq_false'] at h
 ·rw [hr,if_neg (by rw [h]; decide)]
  and_intros<;>first|trivial|rfl|omega|simp|skip
 rw [if_pos h] at hr
 have hsl:=hs.1
 refine ⟨⟨Int.natCast_nonneg _,Int.le_refl _,by show (8:Int)*(List.length s:Int)<=140737488355328; omega⟩,?_⟩
 rw [Int.toNat_natCast]
 have hz:(zd (Ty.int IntKind.i64))=(0:Int):=rfl
 rw [hz]
 refine hH.loop (fun i:Nat=>⟨[(3,.own 1),(14,.dat (.slice bkT) s),(15,.dat (.int .i64) (List.length s:Int)),(16,.dat (.int .i64) (i:Int))],[(1,.row 3 (.int .i64) (fst (List.take i s)++List.replicate (List.length s-i) 0))],2⟩) (fun i=>i<=List.length s) (fun i=>List.length s-i) 0 2 (Nat.zero_le _) ?_ ?_
 ·dsimp only [go_sem]
  simp [fst]
 ·intro i hi R hm
  refine hH.run 100 _ _ ?_
  dsimp only [go_sem]
  rw [Int.toNat_natCast]
  refine ⟨fun d=>?_,fun d=>?_⟩<;>simp only [decide_eq_true_eq,decide_eq_false_iff_not] at d
  ·have d:i<List.length s:=by omega
   have hzb:List.getD s i (zd bkT)=List.getD s i []:=rfl
   rw [hzb]
   have htk:=take_get s i [] d
   generalize List.getD s i []=b at *
   have e:=set_rep (fst (List.take i s)) (chc b 0) (List.length s-(i+1)) (i:=i) (by unfold fst; rw [List.length_map,len_take (by omega)])
   rw [show List.length s-(i+1)+1=List.length s-i by omega] at e
   have e2:fst (List.take (i+1) s)=fst (List.take i s)++[chc b 0]:=by rw [htk]; unfold fst; rw [List.map_append]; rfl
   have hlen:(fst (List.take i s)++List.replicate (List.length s-i) (0:Int)).length=List.length s:=by
    unfold fst; rw [List.length_append,List.length_map,len_take (by omega),List.length_replicate]; omega
   rw [hlen,e]
   have b1:(0:Int)<=(i:Int)/\(i:Int)<(List.length s:Int):=by omega
   refine ⟨b1,b1,d,by rw [inR_i64]; omega,hm _ (i+1) 2 d (by omega) ?_⟩
   dsimp only [go_sem]
   rw [e2]
   simp
  ·rw [List.take_of_length_le (by omega),show List.length s-i=0 by omega,List.replicate_zero,List.append_nil]
   rw [hr]
   and_intros<;>first|trivial|rfl|omega|simp|skip
@[go_sem] def wNxM:MSpec:=⟨[.d spT,.d wdT],fun d=>⟨[(0,.row 3 (.int .i64) (nxR d.1 d.2.1).1)],1,.tup (.cons (.own 0) (.cons (.dat .bool (nxR d.1 d.2.1).2) .nil)),[spP d.1]⟩⟩
theorem wNxM_ok:MSpecOk Try.prog 6 wNxM:=by
 refine fnM_ok EW4_ok wNxM Try.func6 rfl (by decide) (N:=52) rfl (res:=[.tmp 4,.tmp 5]) rfl (by decide) [] [] [] 100 (by kernel_rfl) ?_
 rintro ⟨s,w,_⟩ hw hp H hH
 dsimp only [go_sem] at hw hp ⊢
 obtain ⟨hs,-⟩:=hp
 have hr:nxR s w=if cont s w then (match nxt s w with|some v=>(v,true)|none=>([],false)) else ([],false):=rfl
 refine ⟨hs,fun h=>?_,fun h=>?_⟩<;>simp only [Bool.not_eq_true',Bool.not_eq_false'] at h
 ·rw [if_neg (by rw [h]; decide)] at hr
  simp [hr]
 rw [if_pos h] at hr
 have hkw:=h
 unfold cont at hkw
 rw [Bool.and_eq_true,wk_iff] at hkw
 obtain ⟨⟨hlw,hrng⟩,-⟩:=hkw
 have hsl:=hs.1
 rw [Int.toNat_natCast,List.length_replicate]
 refine ⟨⟨Int.natCast_nonneg _,Int.le_refl _,by show (8:Int)*(List.length w:Int)<=140737488355328; omega⟩,rfl,by rw [inR_i64]; omega,?_⟩
 refine hH.loop (fun k:Nat=>⟨[(2,.ref 0 0),(6,.own 1),(7,.dat (.int .i64) ((k:Int)-1))],[(0,.box 25 (.cons (.dat (.slice bkT) s) .nil)),(1,.row 3 (.int .i64) (List.take k w++fst (List.drop k s)))],2⟩) (fun k=>k<=List.length s/\nxt (List.drop k s) (List.drop k w)=none) (fun k=>k) (List.length s) 2 ⟨Nat.le_refl _,?_⟩ ?_ ?_
 ·rw [List.drop_length,<-hlw,List.drop_length]; rfl
 ·rw [<-hlw,List.take_length]
  have:fst (List.drop (List.length w) s)=[]:=by rw [hlw,List.drop_length]; rfl
  rw [this]
  dsimp only [go_sem]
  simp
 ·intro k ⟨hk,hn⟩ R hm
  refine hH.run 100 _ _ ?_
  dsimp only [go_sem]
  have hz:(zd (Ty.int IntKind.i64))=(0:Int):=rfl
  rw [hz]
  refine ⟨fun d=>?_,fun d=>?_⟩<;>simp only [decide_eq_true_eq,decide_eq_false_iff_not] at d
  ·obtain ⟨j,rfl⟩:∃ j,k=j+1:=⟨k-1,by omega⟩
   have e1:((j+1:Nat):Int)-1=(j:Int):=by omega
   rw [e1,Int.toNat_natCast]
   have d2:j<List.length s:=by omega
   have d3:j<List.length w:=by omega
   have hr0:=hrng j d3
   have hzb:List.getD s j (zd bkT)=List.getD s j []:=rfl
   rw [hzb]
   have hds:=drop_g s [] d2
   have hdw:=drop_g w 0 d3
   have hmem:=getD_mem (l:=s) [] d2
   have htw:=take_get0 (w:=w) (i:=j) d3
   have hnx:nxt (List.drop j s) (List.drop j w)=if List.getD w j 0>=0 then some (chc (List.getD s j []) (List.getD w j 0+1)::fst (List.drop (j+1) s)) else none:=by
    rw [hds,hdw,nxt,hn]
   have hff:fst (List.drop j s)=chc (List.getD s j []) 0::fst (List.drop (j+1) s):=by rw [hds]; rfl
   have hnd:=@nxt_drop j s w
   obtain ⟨hb1,-⟩:=hs.2 _ hmem
   generalize List.getD s j []=b at *
   generalize List.getD w j 0=c at *
   have hg:(List.take (j+1) w++fst (List.drop (j+1) s)).getD j 0=c:=by
    rw [htw,List.append_assoc,List.getD_eq_getElem?_getD,List.getElem?_append_right (by rw [len_take (by omega)]; exact Nat.le_refl _),len_take (by omega),Nat.sub_self]
    rfl
   have hst (x:Int):(List.take (j+1) w++fst (List.drop (j+1) s)).set j x=List.take j w++x::fst (List.drop (j+1) s):=by
    rw [htw,List.append_assoc,List.set_append,if_neg (by rw [len_take (by omega)]; omega),len_take (by omega),Nat.sub_self]
    rfl
   have hlr:(List.take (j+1) w++fst (List.drop (j+1) s)).length=List.length s:=by
    unfold fst
    rw [List.length_append,List.length_map,List.length_drop,len_take (by omega)]; omega
   rw [hg,hst,hst,hlr]
   have b1:(0:Int)<=(j:Int)/\(j:Int)<(List.length s:Int):=by omega
   refine ⟨b1,b1,d2,fun g=>?_,fun g=>?_⟩<;>simp only [decide_eq_true_eq,decide_eq_false_iff_not] at g
   ·have g1:c<(List.length b:Int):=hr0.2
    rw [if_pos g] at hnx
    rw [hnd hnx] at hr
    refine ⟨b1,d2,by rw [inR_i64]; omega,b1,d2,?_⟩
    rw [hr]
    and_intros<;>first|trivial|rfl|omega|simp|skip
   ·have g:¬c>=0:=g
    rw [if_neg g] at hnx
    refine ⟨b1,d2,by rw [inR_i64]; omega,hm _ j 2 ⟨by omega,hnx⟩ (by omega) ?_⟩
    rw [<-hff]
    dsimp only [go_sem]
    simp
  ·have hk0:k=0:=by omega
   subst hk0
   rw [List.drop_zero,List.drop_zero] at hn
   rw [hn] at hr
   rw [hr]
   and_intros<;>first|trivial|rfl|omega|simp|skip
end Go.Proofs.Ytbokoblnehgkaaa.Gx
namespace Go.Proofs.Ytbokoblnehgkaaa.Gx
open Go Go.RowKit Tw
set_option linter.unusedVariables false
set_option linter.unusedSimpArgs false
set_option maxHeartbeats 4000000
set_option maxRecDepth 20000
inductive Rc:Value->Value->Prop
 | same (v:Value):Rc v v
 | int (n n':Int) (h:inR .u32 n'):Rc (.int .u32 n) (.int .u32 n')
 | bool (b b':Bool):Rc (.bool b) (.bool b')
def RcL (xs ys:List Value):Prop:=ys.length=xs.length/\∀ (i:Nat) x y,xs[i]?=some x->ys[i]?=some y->Rc x y
theorem RcL.refl (xs:List Value):RcL xs xs:=⟨rfl,fun i x y h1 h2=>by rw [h1] at h2; cases h2; exact .same _⟩
theorem RcL.take {xs ys:List Value} (h:RcL xs ys) (n:Nat):RcL (xs.take n) (ys.take n):=⟨by rw [List.length_take,List.length_take,h.1],fun i x y h1 h2=>by
 rw [List.getElem?_take] at h1 h2
 split at h1
 ·rename_i hi
  rw [if_pos hi] at h2
  exact h.2 i x y h1 h2
 ·cases h1⟩
theorem RcL.drop {xs ys:List Value} (h:RcL xs ys) (n:Nat):RcL (xs.drop n) (ys.drop n):=⟨by rw [List.length_drop,List.length_drop,h.1],fun i x y h1 h2=>by
 rw [List.getElem?_drop] at h1 h2
 exact h.2 _ x y h1 h2⟩
theorem RcL.one {v:Value} {ys:List Value} (h:RcL [v] ys):∃ u,ys=[u]/\Rc v u:=by
 obtain ⟨h1,h2⟩:=h
 match ys,h1 with
 | [u],_=>exact ⟨u,rfl,h2 0 v u rfl rfl⟩
structure Pk (w w':World):Prop where
 sz:w'.heap.size=w.heap.size
 bk:∀ (b:Nat) C T,w.heap[b]?=some (.cells C T (0,0))->∃ C',w'.heap[b]?=some (.cells C' T (0,0))/\RcL C.toList C'.toList
def shp:(t:Ty)->t.den->t.den->Prop
 | .bool,_,_=>True
 | .int _,_,_=>True
 | .str,_,_=>True
 | .slice t,l,l'=>l'.length=l.length/\∀ (i:Nat) x x',l[i]?=some x->l'[i]?=some x'->shp t x x'
 | .pair t u,p,p'=>shp t p.1 p'.1/\shp u p.2 p'.2
 | .one t,p,p'=>shp t p p'
 | .fn,_,_=>True
theorem shp_refl:∀ (t:Ty) (a:t.den),shp t a a
 | .bool,_=>trivial
 | .int _,_=>trivial
 | .str,_=>trivial
 | .slice t,l=>⟨rfl,fun i x x' h1 h2=>by rw [h1] at h2; cases h2; exact shp_refl t x⟩
 | .pair t u,p=>⟨shp_refl t p.1,shp_refl u p.2⟩
 | .one t,p=>shp_refl t p
 | .fn,_=>trivial
theorem shp_trans:∀ {t:Ty} {a b c:t.den},shp t a b->shp t b c->shp t a c
 | .bool,_,_,_,_,_=>trivial
 | .int _,_,_,_,_,_=>trivial
 | .str,_,_,_,_,_=>trivial
 | .slice t,l,l',l'',h1,h2=>⟨h2.1.trans h1.1,fun i x x'' e1 e2=>by
     have hi:i<l''.length:=by
      rcases Nat.lt_or_ge i l''.length with h|h
      ·exact h
      ·rw [List.getElem?_eq_none h] at e2; cases e2
     have hi:i<l'.length:=by rw [<-h2.1]; exact hi
     exact shp_trans (h1.2 i x _ e1 (List.getElem?_eq_getElem hi)) (h2.2 i _ x'' (List.getElem?_eq_getElem hi) e2)⟩
 | .pair t u,_,_,_,h1,h2=>⟨shp_trans h1.1 h2.1,shp_trans h1.2 h2.2⟩
 | .one t,_,_,_,h1,h2=>shp_trans (t:=t) h1 h2
 | .fn,_,_,_,_,_=>trivial
theorem lchoose {α:Type}:∀ (l:List α) {R:Nat->α->α->Prop},(∀ (i:Nat) x,l[i]?=some x->∃ y,R i x y)->∃ l':List α,l'.length=l.length/\∀ (i:Nat) x y,l[i]?=some x->l'[i]?=some y->R i x y
 | [],R,_=>⟨[],rfl,fun i x y h=>by simp at h⟩
 | a::l,R,h=>by
  obtain ⟨y,hy⟩:=h 0 a rfl
  obtain ⟨l',h1,h2⟩:=lchoose l (R:=fun i=>R (i+1)) fun i x hx=>h (i+1) x (by simpa using hx)
  refine ⟨y::l',by simp [h1],fun i x z hx hz=>?_⟩
  cases i with
  | zero =>
   simp at hx hz
   subst hx
   subst hz
   exact hy
  | succ i=>exact h2 i x z (by simpa using hx) (by simpa using hz)
theorem repU_poke:∀ {t:Ty} {U:Nat->Prop} {w w':World} {cs cs':List Value} {a:t.den},repU t U w cs a->Pk w w'->RcL cs cs'->∃ a':t.den,repU t U w' cs' a'/\shp t a a'
 | .bool,U,w,w',cs,cs',a,h,hp,hr=>by
  have h:cs=[.bool a]:=h
  subst h
  obtain ⟨u,rfl,hu⟩:=hr.one
  cases hu
  ·exact ⟨a,rfl,trivial⟩
  ·exact ⟨_,rfl,trivial⟩
 | .int k,U,w,w',cs,cs',a,h,hp,hr=>by
  obtain ⟨h1,h2⟩:=h
  subst h1
  obtain ⟨u,rfl,hu⟩:=hr.one
  cases hu
  ·exact ⟨a,⟨rfl,h2⟩,trivial⟩
  ·rename_i n' h3
   exact ⟨n',⟨rfl,h3⟩,trivial⟩
 | .str,U,w,w',cs,cs',a,h,hp,hr=>by
  obtain ⟨h1,h2⟩:=h
  subst h1
  obtain ⟨u,rfl,hu⟩:=hr.one
  cases hu
  exact ⟨a,⟨rfl,h2⟩,trivial⟩
 | .slice t,U,w,w',cs,cs',l,h,hp,hr=>by
  obtain ⟨ad,cap,h1,h2,h3,h4,h5⟩:=h
  subst h1
  obtain ⟨u,rfl,hu⟩:=hr.one
  cases hu
  by_cases hl:l=[]
  ·subst hl
   exact ⟨[],⟨ad,cap,rfl,h2,h3,h4,fun h=>absurd rfl h⟩,shp_refl (.slice t) []⟩
  ·obtain ⟨b,off,C,T,g1,g2,g3,g4⟩:=h5 hl
   obtain ⟨C',k1,k2⟩:=hp.bk b C T g3
   obtain ⟨l',q1,q2⟩:=lchoose l (R:=fun i x y=>repU t U w' ((C'.toList.drop (off+i*t.size)).take t.size) y/\shp t x y) fun i x hx =>
    repU_poke (g4 i x hx) hp ((k2.drop _).take _)
   refine ⟨l',⟨ad,cap,by rw [q1],by rw [q1]; exact h2,h3,h4,fun _=>⟨b,off,C',T,g1,g2,k1,fun i y hy=>?_⟩⟩,q1,fun i x y hx hy=>(q2 i x y hx hy).2⟩
   have hi:i<l'.length:=by
    rcases Nat.lt_or_ge i l'.length with h|h
    ·exact h
    ·rw [List.getElem?_eq_none h] at hy; cases hy
   have hi:i<l.length:=by rw [<-q1]; exact hi
   exact (q2 i _ y (List.getElem?_eq_getElem hi) hy).1
 | .pair t u,U,w,w',cs,cs',p,h,hp,hr=>by
  obtain ⟨a1,h1,h2⟩:=repU_poke h.1 hp (hr.take _)
  obtain ⟨a2,h3,h4⟩:=repU_poke h.2 hp (hr.drop _)
  exact ⟨(a1,a2),⟨h1,h3⟩,h2,h4⟩
 | .one t,U,w,w',cs,cs',a,h,hp,hr=>by
  obtain ⟨a',h1,h2⟩:=repU_poke (t:=t) h hp hr
  exact ⟨a',h1,h2⟩
 | .fn,U,w,w',cs,cs',a,h,hp,hr=>by
  have h:cs=[.nilFunc]:=h
  subst h
  obtain ⟨u,rfl,hu⟩:=hr.one
  cases hu
  exact ⟨a,rfl,trivial⟩
theorem pk_set {w:World} {b off:Nat} {C:Array Value} {T:TypeId} {c0 c:Value} (hb:w.heap[b]?=some (.cells C T (0,0))) (h0:C.toList[off]?=some c0) (hr:Rc c0 c):Pk w (w.setRow b (C.toList.take off++[c]++C.toList.drop (off+1)).toArray):=by
 have hoff:off<C.toList.length:=by
  rcases Nat.lt_or_ge off C.toList.length with h|h
  ·exact h
  ·rw [List.getElem?_eq_none h] at h0; cases h0
 refine ⟨size_setRow _ _ _,fun b' D T' hD=>?_⟩
 by_cases he:b'=b
 ·subst he
  rw [hb] at hD
  cases hD
  refine ⟨_,setRow_heap w b' C _ T (0,0) hb,?_⟩
  refine ⟨by simp; simp at hoff; omega,fun i x y hx hy=>?_⟩
  have hy:(C.toList.take off++[c]++C.toList.drop (off+1))[i]?=some y:=by simpa using hy
  have hlt:(C.toList.take off).length=off:=by rw [List.length_take]; omega
  rcases Nat.lt_trichotomy i off with hi|hi|hi
  ·rw [List.append_assoc,List.getElem?_append_left (by rw [hlt]; exact hi),List.getElem?_take,if_pos hi,hx] at hy
   cases hy
   exact .same _
  ·subst hi
   rw [List.append_assoc,List.getElem?_append_right (by rw [hlt]; exact Nat.le_refl _),hlt,Nat.sub_self] at hy
   rw [h0] at hx
   cases hx
   have hy:some c=some y:=hy
   cases hy
   exact hr
  ·rw [List.getElem?_append_right (by rw [List.length_append,hlt]; exact hi),List.length_append,hlt,List.getElem?_drop] at hy
   have e:off+1+(i-(off+[c].length))=i:=by simp; omega
   rw [e,hx] at hy
   cases hy
   exact .same _
 ·exact ⟨D,(setRow_other w b b' _ he).trans hD,RcL.refl _⟩
def eltU (t:Ty) (U:Nat->Prop) (w:World) (v:Value) (d:t.den):Prop:=∃ b off C T,v=.pointer (some ⟨b,off,none⟩)/\¬U b/\w.heap[b]?=some (.cells C T (0,0))/\repU t U w ((C.toList.drop off).take t.size) d
theorem fldPU_spec:∀ {nf:Nat} {t:Ty} {f o:Nat} {u:Ty} {g:t.den->u.den},fldP nf t f=some (o,⟨u,g⟩)->o+u.size<=t.size/\∀ {X w cs a},repU t X w cs a->repU u X w ((cs.drop o).take u.size) (g a)
 | 0,_,_,_,_,_,h=>by cases h
 | nf+1,t,f,o,u,g,h=>by
  unfold fldP at h
  split at h
  ·split at h
   ·cases h
    refine ⟨by omega,fun {X w cs a} hr=>?_⟩
    rw [List.drop_zero,List.take_of_length_le (by rw [repU_len hr]; exact Nat.le_refl _)]; exact hr
   ·cases h
  ·split at h
   ·split at h
    ·cases h
     refine ⟨by simp only [Ty.size]; omega,fun {X w cs a} hr=>?_⟩
     rw [List.drop_zero]; exact hr.1
    ·split at h
     ·rename_i nf' _ t1 t2 _ f' _ o' v g' e
      cases h
      obtain ⟨h1,h2⟩:=fldPU_spec e
      refine ⟨by simp only [Ty.size]; omega,fun {X w cs a} hr=>?_⟩
      have:=h2 hr.2
      rw [List.drop_drop] at this
      exact this
     ·cases h
   ·cases h
theorem fldU_spec {t:Ty} {nf f o:Nat} {u:Ty} {g:t.den->u.den} (h:fld t nf f=some (o,⟨u,g⟩)):o+u.size<=t.size/\∀ {X w cs a},repU t X w cs a->repU u X w ((cs.drop o).take u.size) (g a):=by
 unfold fld at h
 split at h
 ·split at h
  ·split at h
   ·cases h
    refine ⟨by simp only [Ty.size]; omega,fun {X w cs a} hr=>?_⟩
    rw [List.drop_zero,List.take_of_length_le (by rw [repU_len (t:=.one _) hr]; exact Nat.le_refl _)]; exact hr
   ·cases h
  ·cases h
 ·exact fldPU_spec h
section
variable {P:Program} {ops:Array Oper} {o:Oper} {rest:List Oper} {x y:Operand} {Q:Exit->Act->World->Prop} {a:Act} {w:World} {T e:TypeId} {te:TE} {U:Nat->Prop} {t:Ty}
theorem wpU_move (hg:o.guard=none) (ho:o.op=.move x) (hK:wpList P ops Q rest (a.put o.dst (a.eval x)) w):wpList P ops Q (o::rest) a w:=by
 refine wpList_plain hg fun K hK'=>?_
 unfold Oper.wp
 simp [execOp,ho,Result.andThen]
 exact hK' _ _ hK
theorem wpU_idx (hf:TyFact P e te) (hg:o.guard=none) (ho:o.op=.indexAddr T x y) (hu:P.underlying T=some (.slice e)) {l:List te.ty.den} (hx:repU (.slice te.ty) U w [a.eval x] l) {k:Nat} (hy:a.eval y=.int .i64 (k:Int)) {d:te.ty.den} (hk:l[k]?=some d)
    (hK:∀ p,eltU te.ty U w p d->wpList P ops Q rest (a.put o.dst p) w):wpList P ops Q (o::rest) a w:=by
 have hlt:k<l.length:=by
  rcases Nat.lt_or_ge k l.length with h|h
  ·exact h
  ·rw [List.getElem?_eq_none h] at hk; cases hk
 obtain ⟨ad,cap,h1,h2,h3,h4,h5⟩:=hx
 have hv:=(List.cons.inj h1).1
 obtain ⟨b,off,C,T',rfl,g2,g3,g4⟩:=h5 (fun h=>by rw [h] at hlt; exact absurd hlt (Nat.not_lt_zero _))
 refine wpList_plain hg fun K hK'=>?_
 unfold Oper.wp
 have hsz:=hf.run_size (w:=w)
 have h:(Instr.indexAt T (.slice (some ⟨b,off,none⟩) l.length cap) (.int .i64 (k:Int))).run P w=.ok (.pointer (some ⟨b,off+k*te.ty.size,none⟩)) w:=by
  simp [Instr.indexAt,asIntOf,run_underlying hu,hlt,hsz,Addr.add_lit]
 simp [execOp,ho,hv,hy,h,Result.andThen]
 exact hK' _ _ (hK _ ⟨b,_,C,T',rfl,g2,g3,g4 k d hk⟩)
theorem wpU_load (hf:TyFact P T te) (ht:te.ty=.slice t) (hg:o.guard=none) (ho:o.op=.load T x) {l:List t.den} (hx:eltU (.slice t) U w (a.eval x) l) (hK:∀ v,repU (.slice t) U w [v] l->wpList P ops Q rest (a.put o.dst v) w):wpList P ops Q (o::rest) a w:=by
 obtain ⟨b,off,C,T',hv,g2,g3,g4⟩:=hx
 obtain ⟨ad,cap,e1,_⟩:=id g4
 refine wpList_plain hg fun K hK'=>?_
 unfold Oper.wp
 have h:(Instr.loadAt T (.pointer (some ⟨b,off,none⟩))).run P w=.ok (te.ty.wrap [.slice ad l.length cap]) w:=by
  simp only [Instr.loadAt,Instr.sureAddr,Sem.run_bind,Sem.run_pure,Result.andThen_ok]
  exact run_loadVar hf g3 (by rw [ht]; exact e1) (by rw [ht]; rfl)
 rw [ht,show (Ty.slice t).wrap [Value.slice ad l.length cap]=.slice ad l.length cap from rfl] at h
 simp [execOp,ho,hv,h,Result.andThen]
 rw [e1] at g4
 exact hK' _ _ (hK _ g4)
theorem wpU_field {f of':Nat} {u:Ty} {g:te.ty.den->u.den} (hf:TyFact P T te) (hg:o.guard=none) (ho:o.op=.fieldAddr T x f) (hfl:fld te.ty te.nf f=some (of',⟨u,g⟩)) (hn:f<te.nf) {d:te.ty.den} (hx:eltU te.ty U w (a.eval x) d)
    (hK:∀ p,eltU u U w p (g d)->wpList P ops Q rest (a.put o.dst p) w):wpList P ops Q (o::rest) a w:=by
 obtain ⟨b,off,C,T',hv,g2,g3,g4⟩:=hx
 have h:=run_fieldAt (w:=w) hf hfl hn b off
 refine wpList_plain hg fun K hK'=>?_
 unfold Oper.wp
 simp [execOp,ho,hv,h,Result.andThen]
 refine hK' _ _ (hK _ ⟨b,_,C,T',rfl,g2,g3,?_⟩)
 obtain ⟨h1,h2⟩:=fldU_spec hfl
 have:=h2 g4
 rw [List.drop_take,List.drop_drop,List.take_take,Nat.min_eq_left (by omega)] at this
 exact this
theorem wpU_store (hf:TyFact P T te) (h1:te.ty.size=1) (hg:o.guard=none) (hd:o.dst=none) (ho:o.op=.store T x y) {d:te.ty.den} (hx:eltU te.ty U w (a.eval x) d) {v:Value} (hy:a.eval y=te.ty.wrap [v]) (hv:v.oneCell'=true) (hr:∀ v0,repU te.ty U w [v0] d->Rc v0 v)
    (hK:∀ w',Pk w w'->(w'.os=w.os/\w'.tape=w.tape/\w'.output=w.output)->(∀ k,U k->w'.heap[k]?=w.heap[k]?)->wpList P ops Q rest a w'):wpList P ops Q (o::rest) a w:=by
 obtain ⟨b,off,C,T',hx,g2,g3,g4⟩:=hx
 have hl:=repU_len g4
 rw [h1] at hl
 obtain ⟨v0,e0⟩:=List.length_eq_one_iff.1 hl
 rw [h1,e0] at g4
 have h0:C.toList[off]?=some v0:=by
  have:((C.toList.drop off).take te.ty.size)[0]?=some v0:=by rw [h1,e0]; rfl
  rw [h1,List.getElem?_take,if_pos (by decide),List.getElem?_drop] at this
  exact this
 have hoff:off<C.toList.length:=by
  rcases Nat.lt_or_ge off C.toList.length with h|h
  ·exact h
  ·rw [List.getElem?_eq_none h] at h0; cases h0
 have hs:=run_storeVar (P:=P) (w:=w) hf (off:=off) g3 (cs:=[v]) (by rw [h1]; rfl) (fun c hc=>by rw [List.mem_singleton.1 hc]; exact hv) (by rw [h1]; exact (show off<C.size by simpa using hoff))
 rw [h1] at hs
 refine wpF_store hg hd ho hx hy hs (hK _ (pk_set g3 h0 (hr v0 g4)) ⟨rfl,rfl,rfl⟩ fun k hk=>setRow_other w b k _ fun e=>g2 (by rw [<-e]; exact hk))
end
section
variable {w0 w1 w w':World} {X0 X1 U:Nat->Prop} {Bo:List Value} {N n:Nat} {ρ:List Value} {a a':Act} {sl sl':List (Nat×AV)} {ck ck':List (Nat×CT)}
theorem Fr.back (h:Fr w1 X1 Bo N ⟨sl,ck,n⟩ ρ a w) (hX1:∀ b,X1 b->b<w1.heap.size) (hk:Kept [] w0 w1) (hB:∀ k,inB Bo k->w0.heap.size<=k) (hX:∀ k,X0 k->X1 k) (hU:∀ k,U k->X1 k/\w0.heap.size<=k) (hE:Ev U w w') (ho:w'.os=w.os/\w'.tape=w.tape/\w'.output=w.output)
    (hd:a'.defers=[]) (hs:a'.tmps.size=N) (hsl:∀ t x,get? sl' t=some x->get? sl t=some x/\gt a' t=gt a t) (hnd:(ck'.map (·.1)).Nodup) (hck:∀ x∈ck',(∃ y,(x.1,y)∈ck)/\(x∈ck∨cm 0 ρ (XX X0 ρ ck') w' x.1 x.2)):Fr w0 X0 [] N ⟨sl',ck',n⟩ ρ a' w':=by
 have hkp:=h.kp
 have hnX:∀ i y,(i,y)∈ck->∀ b,inC ρ i b->¬X1 b:=fun i y hy b hb hx=>by
  rcases (h.bl (i,y) hy b hb).2 with h3|h3
  ·exact absurd (hX1 b hx) (by omega)
  ·exact (h.pn.bo b h3).2 hx
 have hXX:∀ b,XX X0 ρ ck' b->XX X1 ρ ck b∨w.heap.size<=b:=by
  rintro b (hb|⟨x,hx,hb⟩)
  ·exact .inl (.inl (hX b hb))
  ·obtain ⟨⟨y,hy⟩,_⟩:=hck x hx
   exact .inl (.inr ⟨_,hy,hb⟩)
 have hEv:Ev (XX X1 ρ ck) w w':=⟨hE.size,fun k hk hn=>hE.block k hk fun hu=>hn (.inl (hU k hu).1)⟩
 refine ⟨hd,hs,⟨ho.1.trans (hkp.os.trans hk.os),ho.2.1.trans (hkp.tape.trans hk.tape),ho.2.2.trans (hkp.output.trans hk.output),Nat.le_trans hk.size (Nat.le_trans hkp.size hE.size),fun k h1 hn=>?_⟩,h.nx,hnd,fun x hx=>?_,fun x hx b hb=>?_,fun x hx y hy hne b h1 h2=>?_,fun x hx=>?_,fun t x hx=>?_,⟨fun k hk=>(inB_nil hk).elim,Nat.zero_le _,fun x hx T l e hl=>absurd hl (Nat.not_lt_zero _)⟩⟩
 ·have h2:k<w1.heap.size:=Nat.lt_of_lt_of_le h1 hk.size
  rw [hE.block k (Nat.lt_of_lt_of_le h2 hkp.size) fun hu=>absurd (hU k hu).2 (by omega),hkp.block k h2 fun hc=>absurd (hB k hc) (by omega)]
  exact hk.block k h1 hn
 ·obtain ⟨⟨y,hy⟩,_⟩:=hck x hx
  exact h.kn (x.1,y) hy
 ·obtain ⟨⟨y,hy⟩,_⟩:=hck x hx
  obtain ⟨h3,h4⟩:=h.bl _ hy b hb
  exact ⟨Nat.lt_of_lt_of_le h3 hE.size,.inl (h4.elim (Nat.le_trans hk.size) (hB b))⟩
 ·obtain ⟨⟨y1,hy1⟩,_⟩:=hck x hx
  obtain ⟨⟨y2,hy2⟩,_⟩:=hck y hy
  exact h.dj _ hy1 _ hy2 hne b h1 h2
 ·obtain ⟨⟨y,hy⟩,h3|h3⟩:=hck x hx
  ·exact cm_tr (h.cs x h3) hXX hEv fun b hb=>hE.block b (h.bl x h3 b hb).1 fun hu=>hnX _ _ h3 b hb (hU b hu).1
  ·exact h3
 ·obtain ⟨g1,g2⟩:=hsl t x hx
  rw [g2]
  exact m_tr (h.sl t x g1) hXX hEv
end
end Go.Proofs.Ytbokoblnehgkaaa.Gx
namespace Go.Proofs.Ytbokoblnehgkaaa.Gx
open Go Go.RowKit Tw B Nt
set_option linter.unusedVariables false
set_option linter.unusedSimpArgs false
set_option maxHeartbeats 4000000
set_option maxRecDepth 20000
@[go_sem] noncomputable def EWI:Env:=((EWF).addM 7 wFsM).addM 6 wNxM
theorem EWI_ok:EWI.Ok:=((EWF_ok).addM wFsM_ok).addM wNxM_ok
section
variable {n1 n2 b10:Nat} {w1 u u':World} {z:Value} {sl slN sl':List (Nat×AV)} {ck':List (Nat×CT)} {n':Nat} {cc:List Blk} {a a':Act} {ρ ρ':List Value}
def pI (x:AV):Prop:=(∃ k d,x=.dat (.int k) d)∨(∃ d,x=.dat .bool d)∨∃ v,x=.val v
theorem pI_m {x:AV} (h:pI x) {X Y:Nat->Prop} {w w':World} {vs:List Value} (hm:m ρ X w x vs):m ρ' Y w' x vs:=by
 rcases h with ⟨k,d,rfl⟩|⟨d,rfl⟩|⟨v,rfl⟩
 ·exact hm
 ·exact hm
 ·exact hm
def ptr (b:Nat):Value:=.pointer (some ⟨b,0,none⟩)
def UN (n1 n2 b:Nat):Prop:=¬(n1<=b/\b<n2)
structure ID (n1 n2 b10:Nat) (w1:World) (z:Value) (sl:List (Nat×AV)) (cc:List Blk) (a:Act) (u:World):Prop where
 ub:UN n1 n2 b10
 bx:u.heap[b10]?=some (.cells #[z] 25 (0,0))
 rp:repU spT (UN n1 n2) u [z] cc
 dn:a.defers=[]
 sz:a.tmps.size=143
 sl:∀ t x,get? sl t=some x->pI x/\m [] (fun _=>False) u x [gt a t]
 ev:Ev (fun k=>n1<=k/\k<n2) w1 u
 os:u.os=w1.os/\u.tape=w1.tape/\u.output=w1.output
theorem ID.fr (h:ID n1 n2 b10 w1 z sl cc a u):Fr u (fun _=>False) [.slice none 0 0] 143 ⟨sl,[],1⟩ [.slice none 0 0] a u:=fr_d h.dn h.sz fun t x hx=>(h.sl t x hx).2
theorem ID.go (h:ID n1 n2 b10 w1 z sl cc a u) (hb:Below u.heap.size u u') (hd:a'.defers=[]) (hs:a'.tmps.size=143) (hsl:∀ t x,get? slN t=some x->pI x/\m [] (fun _=>False) u' x [gt a' t]):ID n1 n2 b10 w1 z slN cc a' u' :=
 ⟨h.ub,(hb.block b10 (heap_lt h.bx)).trans h.bx,repU_st h.rp (Ev.of_below hb),hd,hs,hsl,⟨Nat.le_trans h.ev.size hb.size,fun k hk hn=>(hb.block k (Nat.lt_of_lt_of_le hk h.ev.size)).trans (h.ev.block k hk hn)⟩,⟨hb.os.trans h.os.1,hb.tape.trans h.os.2.1,hb.output.trans h.os.2.2⟩⟩
theorem ID.seg {st:St} (h:ID n1 n2 b10 w1 z sl cc a u) (hf:Fr u (fun _=>False) [.slice none 0 0] 143 st ρ a' u') (hs:∀ t x,get? slN t=some x->get? st.sl t=some x/\pI x):ID n1 n2 b10 w1 z slN cc a' u' :=
 h.go hf.kp.nil_below hf.dn hf.sz fun t x hx=>⟨(hs t x hx).2,pI_m (hs t x hx).2 (hf.sl t x (hs t x hx).1)⟩
theorem ID.rfr (h:ID n1 n2 b10 w1 z sl cc a u) (h10:get? sl 10=some (.val (ptr b10))):Fr u (fun b=>b≠b10/\b<u.heap.size/\UN n1 n2 b) [ptr b10] 143 ⟨(10,.ref 0 0)::sl,[(0,.box 25 (.cons (.dat (.slice bkT) cc) .nil))],1⟩ [ptr b10] a u:=by
 have hin:∀ i b,inC [ptr b10] i b->i=0/\b=b10:=by
  intro i b hi
  match i,hi with
  | 0,hi=>exact ⟨rfl,by have hi:inV (ptr b10) b:=hi; exact (Option.some.inj hi).symm⟩
  | i+1,hi=>exact (inC_none (by simp) hi).elim
 refine fr_mk h.dn h.sz (fun b hb=>hb.2.1) rfl (show [0].Nodup by decide) ?_ ?_ ?_ ?_ ?_ ?_
 ·intro x hx
  have hx:=List.mem_singleton.1 hx
  subst hx
  exact Nat.zero_lt_one
 ·intro x hx b hb
  obtain ⟨_,rfl⟩:=hin _ b hb
  exact ⟨heap_lt h.bx,fun hx=>hx.1 rfl⟩
 ·intro i b hb
  obtain ⟨rfl,_⟩:=hin _ b hb
  exact ⟨_,List.mem_cons_self,rfl⟩
 ·intro x hx y hy hne b h1 h2
  exact hne ((hin _ b h1).1.trans (hin _ b h2).1.symm)
 ·intro x hx
  have hx:=List.mem_singleton.1 hx
  subst hx
  have hr:rep spT (XX (fun b=>b≠b10/\b<u.heap.size/\UN n1 n2 b) [ptr b10] [(0,CT.box 25 (.cons (.dat (.slice bkT) cc) .nil))]) u [z] cc:=rep_anti h.rp.rep fun b hb=>.inl (by
   rcases hb with hb|⟨x,_,hb⟩
   ·exact hb.2.2
   ·obtain ⟨_,rfl⟩:=hin _ b hb
    exact h.ub)
  refine ⟨rfl,b10,_,rfl,h.bx,⟨z,[],rfl,⟨[z],hr,rfl⟩,rfl⟩,fun c hc=>?_⟩
  have hc:c=z:=by simpa using hc
  rw [hc]
  exact rep_one hr z List.mem_cons_self
 ·intro t x hx
  unfold get? at hx
  split at hx
  ·rename_i e
   have e:=Nat.eq_of_beq_eq_true e
   subst e
   cases hx
   have:=(h.sl _ _ h10).2
   exact ⟨_,b10,rfl,rfl,this⟩
  ·obtain ⟨h1,h2⟩:=h.sl t x hx
   exact pI_m h1 h2
variable {Q:Exit->Act->World->Prop} {ps:List Prop}
theorem ID.rd (h:ID n1 n2 b10 w1 z sl cc a u) (h10:get? sl 10=some (.val (ptr b10))) {id:Nat} {ops:Array Oper} {k:List It} (he:evL EWI [] (dsts ops.toList) ops.toList ⟨(10,.ref 0 0)::sl,[(0,.box 25 (.cons (.dat (.slice bkT) cc) .nil))],1⟩ []=some (⟨sl',ck',n'⟩,ps)) (hp:AllP ps)
    (hok:ops.toList.all (okOper 143)=true) (h10':get? sl' 10=some (.ref 0 0)) (hs:∀ t x,get? slN t=some x->(get? sl' t=some x/\pI x)∨(t=10/\x=.val (ptr b10))) (hQ:∀ a' u',ID n1 n2 b10 w1 z slN cc a' u'->sem EWI.P Q k .normal a' u') :
    sem EWI.P Q (.code (.region id ops false)::k) .normal a u:=by
 refine wp_region_list ?_
 have hds:∀ g:Nat,nthO (dsts ops.toList) g=(ops[g]?).map Oper.dst:=fun g=>by have:=dsts_ok ops.toList g; simpa using this
 have:=preL_ok EWI_ok (fun b hb=>hb.2.1) (ops:=ops) (r:=[]) (Q:=sem EWI.P Q k) hds (h.rfr h10) he hp (fun o ho=>List.all_eq_true.1 hok o ho) fun a' u' hf hb=>wpList_nil (hQ a' u' (h.go hb hf.dn hf.sz fun t x hx=>by
  rcases hs t x hx with ⟨h1,h2⟩|⟨rfl,rfl⟩
  ·exact ⟨h2,pI_m h2 (hf.sl t x h1)⟩
  ·obtain ⟨v,b,g1,g2,g3⟩:=hf.sl 10 _ h10'
   have g1:ptr b10=v:=Option.some.inj g1
   subst g1
   have g2:b10=b:=Option.some.inj g2
   subst g2
   exact ⟨.inr (.inr ⟨_,rfl⟩),g3⟩))
 rwa [List.append_nil] at this
theorem ID.poke (h:ID n1 n2 b10 w1 z sl cc a u) (hp:Pk u u') (ho:u'.os=u.os/\u'.tape=u.tape/\u'.output=u.output) (hk:∀ k,UN n1 n2 k->u'.heap[k]?=u.heap[k]?) (hd:a'.defers=[]) (hs:a'.tmps.size=143) (hsl:∀ t x,get? slN t=some x->get? sl t=some x/\gt a' t=gt a t) :
    ∃ cc',shp spT cc cc'/\ID n1 n2 b10 w1 z slN cc' a' u':=by
 obtain ⟨cc',h1,h2⟩:=repU_poke h.rp hp (RcL.refl _)
 refine ⟨cc',h2,h.ub,(hk b10 h.ub).trans h.bx,h1,hd,hs,fun t x hx=>?_,⟨by rw [hp.sz]; exact h.ev.size,fun k hlt hn=>(hk k hn).trans (h.ev.block k hlt hn)⟩,ho.1.trans h.os.1,ho.2.1.trans h.os.2.1,ho.2.2.trans h.os.2.2⟩
 obtain ⟨g1,g2⟩:=hsl t x hx
 obtain ⟨g3,g4⟩:=h.sl t x g1
 rw [g2]
 exact ⟨g3,pI_m g3 g4⟩
end
structure Lo (a a':Act):Prop where
 lo:∀ t,t<87->gt a' t=gt a t
 dn:a'.defers=a.defers
 sz:a'.tmps.size=a.tmps.size
theorem Lo.refl (a:Act):Lo a a:=⟨fun _ _=>rfl,rfl,rfl⟩
theorem step_put {a a':Act} (L:Lo a a') {d:Nat} {v:Value} (h1:87<=d) (h2:d<143) (hs:a.tmps.size=143) {G:Act->Prop} (hG:∀ a'',Lo a a''->gt a'' d=v->(∀ t,t≠d->gt a'' t=gt a' t)->G a''):G (a'.put (some d) v):=by
 have hn:∀ t,t≠d->gt (a'.put (some d) v) t=gt a' t:=fun t ht=>gt_put_ne (fun e=>ht (Option.some.inj e).symm) v
 refine hG _ ⟨fun t ht=>(hn t (by omega)).trans (L.lo t ht),(defers_put ..).trans L.dn,(size_put ..).trans L.sz⟩ (gt_put_self (by rw [L.sz,hs]; exact h2) v) hn
section
variable {P:Program} {ops:Array Oper} {o:Oper} {rest:List Oper} {x y:Operand} {Q:Exit->Act->World->Prop} {a:Act} {w:World} {T T':TypeId} {te:TE} {b off:Nat}
theorem wpF_fieldP {f of':Nat} {u:(u:Ty)×(te.ty.den->u.den)} (hf:TyFact P T te) (hg:o.guard=none) (ho:o.op=.fieldAddr T x f) (hfl:fld te.ty te.nf f=some (of',u)) (hn:f<te.nf) (hx:a.eval x=.pointer (some ⟨b,off,none⟩))
    (hK:wpList P ops Q rest (a.put o.dst (.pointer (some ⟨b,off+of',none⟩))) w):wpList P ops Q (o::rest) a w:=by
 have h:=run_fieldAt (w:=w) hf hfl hn b off
 refine wpList_plain hg fun K hK'=>?_
 unfold Oper.wp
 simp [execOp,ho,hx,h,Result.andThen]
 exact hK' _ _ hK
theorem wpF_loadG (hf:TyFact P T te) (hg:o.guard=none) (ho:o.op=.load T x) (hx:a.eval x=.pointer (some ⟨b,off,none⟩)) {C:Array Value} {f:Nat×Nat} (hb:w.heap[b]?=some (.cells C T' f)) {cs:List Value} (hcs:(C.toList.drop off).take te.ty.size=cs) (hl:cs.length=te.ty.size) {v:Value} (hv:te.ty.wrap cs=v)
    (hK:wpList P ops Q rest (a.put o.dst v) w):wpList P ops Q (o::rest) a w:=by
 refine wpList_plain hg fun K hK'=>?_
 unfold Oper.wp
 have h:(Instr.loadAt T (.pointer (some ⟨b,off,none⟩))).run P w=.ok v w:=by
  simp only [Instr.loadAt,Instr.sureAddr,Sem.run_bind,Sem.run_pure,Result.andThen_ok]
  rw [<-hv]
  exact run_loadVar hf hb hcs hl
 simp [execOp,ho,hx,h,Result.andThen]
 exact hK' _ _ hK
end
section
variable {n1 n2 b10:Nat} {w1 u u':World} {z:Value} {sl slN:List (Nat×AV)} {cc:List Blk} {a a':Act}
variable {y0 y1 y2 y3 y4 y5 y6 y7 y8 y9 y10 y11 y12:TypeId} {p0 p1 p2 p3 p4 p5 p6 p7 p8 p9 p10 p11 p12:String} {f0 f1 f2 f3 f4 f5 f6 f7 f8 f9 f10 f11 f12:Array Edge} {Q:Exit->Act->World->Prop} {ops:Array Oper} {r:List Oper}
theorem ID.path (d:Nat) (hd:87<=d) (hd2:d+12<=143) (h:ID n1 n2 b10 w1 z sl cc a u) (h10:get? sl 10=some (.val (ptr b10))) {i k:Nat} (h14:get? sl 14=some (.dat (.int .i64) (i:Int))) (h15:get? sl 15=some (.dat (.int .i64) (k:Int)))
    {B:Blk} (hB:cc[i]?=some B) {F:fT.den} (hF:B[k]?=some F) (hK:∀ a' p,Lo a a'->gt a' (d+7)=p->eltU fT (UN n1 n2) u p F->wpList EWI.P ops Q r a' u) :
    wpList EWI.P ops Q (⟨some d,.fieldAddr 25 (.tmp 10) 0,y0,p0,f0,none⟩::⟨some (d+1),.load 23 (.tmp d),y1,p1,f1,none⟩::⟨some (d+2),.move (.tmp 14),y2,p2,f2,none⟩::⟨some (d+3),.indexAddr 23 (.tmp (d+1)) (.tmp (d+2)),y3,p3,f3,none⟩ ::
     ⟨some (d+4),.fieldAddr 37 (.tmp (d+3)) 0,y4,p4,f4,none⟩::⟨some (d+5),.load 35 (.tmp (d+4)),y5,p5,f5,none⟩::⟨some (d+6),.move (.tmp 15),y6,p6,f6,none⟩::⟨some (d+7),.indexAddr 35 (.tmp (d+5)) (.tmp (d+6)),y7,p7,f7,none⟩::r) a u:=by
 have hS:TyFact Try.prog 25 ⟨spT,0,24,1⟩:=EW8_ok.fact (E:=EW8) rfl
 have hBs:TyFact Try.prog 23 ⟨.slice bkT,37,24,0⟩:=EW8_ok.fact (E:=EW8) rfl
 have hBk:TyFact Try.prog 37 ⟨bkT,0,24,1⟩:=EW8_ok.fact (E:=EW8) rfl
 have hFs:TyFact Try.prog 35 ⟨.slice fT,41,24,0⟩:=EW8_ok.fact (E:=EW8) rfl
 have hFr:TyFact Try.prog 41 ⟨fT,0,56,3⟩:=EW8_ok.fact (E:=EW8) rfl
 have uB:=und_slice (E:=EW8) EW8_ok (T:=23) (e:=⟨.slice bkT,37,24,0⟩) rfl rfl
 have uF:=und_slice (E:=EW8) EW8_ok (T:=35) (e:=⟨.slice fT,41,24,0⟩) rfl rfl
 have e10:gt a 10=ptr b10:=(List.cons.inj (h.sl _ _ h10).2).1
 have e14:gt a 14=.int .i64 (i:Int):=(m_int (h.sl _ _ h14).2).1
 have e15:gt a 15=.int .i64 (k:Int):=(m_int (h.sl _ _ h15).2).1
 have hs:=h.sz
 refine wpF_fieldP (b:=b10) (off:=0) hS rfl rfl rfl (show 0<1 by decide) e10 ?_
 refine step_put (G:=fun a=>wpList EWI.P ops Q _ a u) (Lo.refl a) hd (by omega) hs fun a1 L1 v1 _=>?_
 refine wpF_loadG hBs rfl rfl v1 h.bx (cs:=[z]) rfl rfl (v:=z) rfl ?_
 refine step_put (G:=fun a=>wpList EWI.P ops Q _ a u) L1 (by omega) (by omega) hs fun a2 L2 v2 _=>?_
 refine wpU_move rfl rfl ?_
 refine step_put (G:=fun a=>wpList EWI.P ops Q _ a u) L2 (by omega) (by omega) hs fun a3 L3 v3 n3=>?_
 have v2:gt a3 (d+1)=z:=(n3 _ (by omega)).trans v2
 have v3:gt a3 (d+2)=.int .i64 (i:Int):=v3.trans ((L2.lo 14 (by decide)).trans e14)
 refine wpU_idx (U:=UN n1 n2) hBk rfl rfl uB (l:=cc) (by show repU _ _ _ [gt a3 (d+1)] _; rw [v2]; exact h.rp) v3 hB fun p4 q4=>?_
 refine step_put (G:=fun a=>wpList EWI.P ops Q _ a u) L3 (by omega) (by omega) hs fun a4 L4 v4 _=>?_
 refine wpU_field hBk rfl rfl (u:=.slice fT) (g:=fun p=>p) rfl (show 0<1 by decide) (d:=B) (by show eltU _ _ _ (gt a4 (d+3)) _; rw [v4]; exact q4) fun p5 q5=>?_
 refine step_put (G:=fun a=>wpList EWI.P ops Q _ a u) L4 (by omega) (by omega) hs fun a5 L5 v5 _=>?_
 refine wpU_load hFs rfl rfl rfl (l:=B) (by show eltU _ _ _ (gt a5 (d+4)) _; rw [v5]; exact q5) fun p6 q6=>?_
 refine step_put (G:=fun a=>wpList EWI.P ops Q _ a u) L5 (by omega) (by omega) hs fun a6 L6 v6 _=>?_
 refine wpU_move rfl rfl ?_
 refine step_put (G:=fun a=>wpList EWI.P ops Q _ a u) L6 (by omega) (by omega) hs fun a7 L7 v7 n7=>?_
 have v6:gt a7 (d+5)=p6:=(n7 _ (by omega)).trans v6
 have v7:gt a7 (d+6)=.int .i64 (k:Int):=v7.trans ((L6.lo 15 (by decide)).trans e15)
 refine wpU_idx (U:=UN n1 n2) hFr rfl rfl uF (l:=B) (by show repU _ _ _ [gt a7 (d+5)] _; rw [v6]; exact q6) v7 hF fun p8 q8=>?_
 refine step_put (G:=fun a=>wpList EWI.P ops Q _ a u) L7 (by omega) (by omega) hs fun a8 L8 v8 _=>?_
 exact hK a8 p8 L8 v8 q8
theorem ID.r23 (h:ID n1 n2 b10 w1 z sl cc a u) (h10:get? sl 10=some (.val (ptr b10))) {i k j:Nat} (h14:get? sl 14=some (.dat (.int .i64) (i:Int))) (h15:get? sl 15=some (.dat (.int .i64) (k:Int))) (h16:get? sl 16=some (.dat (.int .i64) (j:Int)))
    {B:Blk} (hB:cc[i]?=some B) {F:fT.den} (hF:B[k]?=some F) (hj:j<F.2.2.length) (hsl:∀ t x,get? slN t=some x->get? sl t=some x/\t<87)
    (hQ:∀ cc' a' u',shp spT cc cc'->ID n1 n2 b10 w1 z slN cc' a' u'->Q .normal a' u') :
    wpList EWI.P ops Q [⟨some 87,.fieldAddr 25 (.tmp 10) 0,y0,p0,f0,none⟩,⟨some 88,.load 23 (.tmp 87),y1,p1,f1,none⟩,⟨some 89,.move (.tmp 14),y2,p2,f2,none⟩,⟨some 90,.indexAddr 23 (.tmp 88) (.tmp 89),y3,p3,f3,none⟩,
     ⟨some 91,.fieldAddr 37 (.tmp 90) 0,y4,p4,f4,none⟩,⟨some 92,.load 35 (.tmp 91),y5,p5,f5,none⟩,⟨some 93,.move (.tmp 15),y6,p6,f6,none⟩,⟨some 94,.indexAddr 35 (.tmp 92) (.tmp 93),y7,p7,f7,none⟩,
     ⟨some 95,.fieldAddr 41 (.tmp 94) 2,y8,p8,f8,none⟩,⟨some 96,.load 39 (.tmp 95),y9,p9,f9,none⟩,⟨some 97,.move (.tmp 16),y10,p10,f10,none⟩,⟨some 98,.indexAddr 39 (.tmp 96) (.tmp 97),y11,p11,f11,none⟩,⟨none,.store 42 (.tmp 98) (.const (.int .u32 9)),y12,p12,f12,none⟩] a u:=by
 have hFr:TyFact Try.prog 41 ⟨fT,0,56,3⟩:=EW8_ok.fact (E:=EW8) rfl
 have hN:TyFact Try.prog 39 ⟨.slice (.int .u32),42,24,0⟩:=EW8_ok.fact (E:=EW8) rfl
 have hU:TyFact Try.prog 42 ⟨.int .u32,0,4,0⟩:=EW8_ok.fact (E:=EW8) rfl
 have uN:=und_slice (E:=EW8) EW8_ok (T:=39) (e:=⟨.slice (.int .u32),42,24,0⟩) rfl rfl
 have e16:gt a 16=.int .i64 (j:Int):=(m_int (h.sl _ _ h16).2).1
 have hs:=h.sz
 refine h.path 87 (Nat.le_refl _) (by decide) h10 h14 h15 hB hF fun a8 p8 L8 v8 q8=>?_
 have v8:gt a8 94=p8:=v8
 refine wpU_field (te:=⟨fT,0,56,3⟩) hFr rfl rfl (u:=.slice (.int .u32)) (g:=fun p=>p.2.2) rfl (show 2<3 by decide) (d:=F) (by show eltU _ _ _ (gt a8 94) _; rw [v8]; exact q8) fun p9 q9=>?_
 refine step_put (G:=fun a=>wpList EWI.P ops Q _ a u) L8 (by decide) (by decide) hs fun a9 L9 v9 _=>?_
 refine wpU_load hN rfl rfl rfl (l:=F.2.2) (by show eltU _ _ _ (gt a9 95) _; rw [v9]; exact q9) fun p10 q10=>?_
 refine step_put (G:=fun a=>wpList EWI.P ops Q _ a u) L9 (by decide) (by decide) hs fun a10 L10 v10 _=>?_
 refine wpU_move rfl rfl ?_
 refine step_put (G:=fun a=>wpList EWI.P ops Q _ a u) L10 (by decide) (by decide) hs fun a11 L11 v11 n11=>?_
 have v10:gt a11 96=p10:=(n11 _ (by decide)).trans v10
 have v11:gt a11 97=.int .i64 (j:Int):=v11.trans ((L10.lo 16 (by decide)).trans e16)
 refine wpU_idx (U:=UN n1 n2) hU rfl rfl uN (l:=F.2.2) (by show repU _ _ _ [gt a11 96] _; rw [v10]; exact q10) v11 (List.getElem?_eq_getElem hj) fun p12 q12=>?_
 refine step_put (G:=fun a=>wpList EWI.P ops Q _ a u) L11 (by decide) (by decide) hs fun a12 L12 v12 _=>?_
 refine wpU_store hU rfl rfl rfl rfl (by show eltU _ _ _ (gt a12 98) _; rw [v12]; exact q12) (v:=.int .u32 9) rfl rfl (fun v0 g=>?_) fun u' k1 k2 k3=>wpList_nil ?_
 ·have g:=(List.cons.inj g.1).1
  rw [g]
  exact .int _ 9 (by simp only [inR,lo,hi]; omega)
 ·obtain ⟨cc',c1,c2⟩:=h.poke (slN:=slN) (a':=a12) k1 k2 k3 (L12.dn.trans h.dn) (L12.sz.trans hs) fun t x hx=>⟨(hsl t x hx).1,L12.lo t (hsl t x hx).2⟩
  exact hQ cc' a12 u' c1 c2
theorem ID.r24 (h:ID n1 n2 b10 w1 z sl cc a u) (h10:get? sl 10=some (.val (ptr b10))) {i k:Nat} (h14:get? sl 14=some (.dat (.int .i64) (i:Int))) (h15:get? sl 15=some (.dat (.int .i64) (k:Int)))
    {B:Blk} (hB:cc[i]?=some B) {F:fT.den} (hF:B[k]?=some F) (hsl:∀ t x,get? slN t=some x->get? sl t=some x/\t<87)
    (hQ:∀ cc' a' u',shp spT cc cc'->ID n1 n2 b10 w1 z slN cc' a' u'->Q .normal a' u') :
    wpList EWI.P ops Q [⟨some 99,.fieldAddr 25 (.tmp 10) 0,y0,p0,f0,none⟩,⟨some 100,.load 23 (.tmp 99),y1,p1,f1,none⟩,⟨some 101,.move (.tmp 14),y2,p2,f2,none⟩,⟨some 102,.indexAddr 23 (.tmp 100) (.tmp 101),y3,p3,f3,none⟩,
     ⟨some 103,.fieldAddr 37 (.tmp 102) 0,y4,p4,f4,none⟩,⟨some 104,.load 35 (.tmp 103),y5,p5,f5,none⟩,⟨some 105,.move (.tmp 15),y6,p6,f6,none⟩,⟨some 106,.indexAddr 35 (.tmp 104) (.tmp 105),y7,p7,f7,none⟩,
     ⟨some 107,.fieldAddr 41 (.tmp 106) 0,y8,p8,f8,none⟩,⟨none,.store 4 (.tmp 107) (.const (.bool true)),y12,p12,f12,none⟩] a u:=by
 have hFr:TyFact Try.prog 41 ⟨fT,0,56,3⟩:=EW8_ok.fact (E:=EW8) rfl
 have hU:TyFact Try.prog 4 ⟨.bool,0,1,0⟩:=EW8_ok.fact (E:=EW8) rfl
 have hs:=h.sz
 refine h.path 99 (by decide) (by decide) h10 h14 h15 hB hF fun a8 p8 L8 v8 q8=>?_
 have v8:gt a8 106=p8:=v8
 refine wpU_field (te:=⟨fT,0,56,3⟩) hFr rfl rfl (u:=.bool) (g:=fun p=>p.1) rfl (show 0<3 by decide) (d:=F) (by show eltU _ _ _ (gt a8 106) _; rw [v8]; exact q8) fun p9 q9=>?_
 refine step_put (G:=fun a=>wpList EWI.P ops Q _ a u) L8 (by decide) (by decide) hs fun a9 L9 v9 _=>?_
 refine wpU_store hU rfl rfl rfl rfl (by show eltU _ _ _ (gt a9 107) _; rw [v9]; exact q9) (v:=.bool true) rfl rfl (fun v0 g=>?_) fun u' k1 k2 k3=>wpList_nil ?_
 ·have g:=(List.cons.inj g).1
  rw [g]
  exact .bool _ _
 ·obtain ⟨cc',c1,c2⟩:=h.poke (slN:=slN) (a':=a9) k1 k2 k3 (L9.dn.trans h.dn) (L9.sz.trans hs) fun t x hx=>⟨(hsl t x hx).1,L9.lo t (hsl t x hx).2⟩
  exact hQ cc' a9 u' c1 c2
end
end Go.Proofs.Ytbokoblnehgkaaa.Gx
namespace Go.Proofs.Ytbokoblnehgkaaa.Gx
open Go Go.RowKit Tw B Nt
set_option linter.unusedVariables false
set_option linter.unusedSimpArgs false
set_option maxHeartbeats 4000000
set_option maxRecDepth 20000
@[go_sem] def lFrS:Spec:=⟨[wdT,wdT],fun d=>(.dat .bool true,[])⟩
@[go_sem] def lFrA:List (Nat×List (Nat×An)):=[(3,[(25,.ow)]),(4,[(29,.ow)]),(25,[(110,.tr true),(117,.tr true),(123,.tr true),(130,.tr true),(140,.tr true)])]
@[go_sem] noncomputable def frX (stop:List Nat) (nb:Nat):Sx:=⟨EWI,143,lFrA,[],stop,[.tmp 4],.nil,nb,some ([],0)⟩
theorem Rw.max {B:Nat} {X:Nat->Prop} {w:World} {T:TypeId} {t:Ty} {v:Value} {l:List t.den} (h:Rw B X w T t v l):l.length<=maxLen:=by
 obtain ⟨xs,h1,_⟩:=h
 rcases h1.2 with ⟨_,e⟩|⟨g,cap,cur,_,_,_,h8,h9,_⟩
 ·rw [e]; exact Nat.zero_le _
 ·exact Nat.le_trans h8 h9
theorem shp_at {t:Ty} {l l':List t.den} (h:shp (.slice t) l l') {i:Nat} {x:t.den} (hx:l[i]?=some x):∃ x',l'[i]?=some x'/\shp t x x':=by
 have hi:i<l.length:=by
  rcases Nat.lt_or_ge i l.length with h|h
  ·exact h
  ·rw [List.getElem?_eq_none h] at hx; cases hx
 have hi:i<l'.length:=by rw [h.1]; exact hi
 exact ⟨_,List.getElem?_eq_getElem hi,h.2 i x _ hx (List.getElem?_eq_getElem hi)⟩
theorem getD_of {α:Type} {l:List α} {i:Nat} {x d:α} (h:l[i]?=some x):l.getD i d=x:=by rw [List.getD_eq_getElem?_getD,h]; rfl
theorem lt_of {α:Type} {l:List α} {i:Nat} {x:α} (h:l[i]?=some x):i<l.length:=by
 rcases Nat.lt_or_ge i l.length with h1|h1
 ·exact h1
 ·rw [List.getElem?_eq_none h1] at h; cases h
@[go_sem] def slB (v0 v1 v5 v6 v11:Value) (b10:Nat):List (Nat×AV):=[(10,.val (ptr b10)),(0,.val v0),(1,.val v1),(5,.val v5),(6,.val v6),(11,.val v11)]
@[go_sem] def slI (v0 v1 v5 v6 v11:Value) (b10 i:Nat):List (Nat×AV):=(14,.dat (.int .i64) (i:Int))::slB v0 v1 v5 v6 v11 b10
@[go_sem] def slK (v0 v1 v5 v6 v11:Value) (b10 i k:Nat):List (Nat×AV):=(15,.dat (.int .i64) (k:Int))::slI v0 v1 v5 v6 v11 b10 i
@[go_sem] def slJ (v0 v1 v5 v6 v11:Value) (b10 i k j:Nat):List (Nat×AV):=(16,.dat (.int .i64) (j:Int))::slK v0 v1 v5 v6 v11 b10 i k
theorem Kept.mkbK {w0 w1 w2 w:World} {X0:Nat->Prop} {N:Nat} {st:St} {ρ:List Value} {a:Act} (h1:Kept [] w0 w) (h:Fr w0 X0 [] N st ρ a w) (hb:Below w.heap.size w w1) (h2:Kept (mkB ρ st.ck) w1 w2):Kept [] w0 w2:=Kept.mkb h hb h2
theorem lFr_ok:SpecOk Try.prog 3 lFrS:=by
 refine fn_ok EWI_ok lFrS Try.func3 rfl (by decide) (N:=143) rfl (res:=[.tmp 4]) rfl (by decide) lFrA [] [5] 100 (by kernel_rfl) ?_
 rintro ⟨l,raw,_⟩ hw hp
 refine ⟨rfl,fun H hH=>?_⟩
 dsimp only [go_sem] at hw hp ⊢
 obtain ⟨hv,hsp,-⟩:=bspc_ok l
 have hl5:=bspc_len l
 have hcan:=canB_bspc l
 refine ⟨hsp.1,fun b hb=>(hsp.2 b hb).1,hsp,hsp,?_⟩
 obtain ⟨s,hs⟩:∃ s,bspc l=s:=⟨_,rfl⟩
 rw [hs] at hv hsp hl5 hcan ⊢
 obtain ⟨wd,hwd⟩:∃ x,bwd s raw=x:=⟨_,rfl⟩
 rw [hwd]
 refine hH.weak ⟨[(0,.dat wdT l),(1,.dat wdT raw),(5,.ref 0 0),(6,.dat wdT wd),(7,.own 1),(9,.own 2)],[(0,.box 25 (.cons (.dat (.slice bkT) s) .nil)),(1,.row 3 (.int .i64) (nxR s wd).1),(2,.row 3 (.int .i64) (fsR s))],3⟩ 3 ?_ ?_
 ·dsimp only [go_sem]
  and_intros<;>first|trivial|rfl|omega|simp
 refine hH.raw fun w0 X0 Bo Q hnb hE hX0 hfin ρ a w hf=>?_
 have hBo:Bo=[]:=List.length_eq_zero_iff.1 hnb.symm
 subst hBo
 refine region_pre (pre:=[_,_]) (post:=[_,_,_,_,_,_,_]) (ann:=[]) EWI_ok hX0 rfl hf rfl trivial (by rfl) fun ρ1 a1 w1 hf1=>?_
 have hcall:m [] (fun _=>False) w1 (.cons (.dat spT s) (.cons (.dat spT s) .nil)) [gt a1 31,gt a1 32]:=by
  obtain ⟨c1,d1,d2⟩:=hf1.sl 31 (.dat spT s) rfl
  obtain ⟨c3,d3,d4⟩:=hf1.sl 32 (.dat spT s) rfl
  exact ⟨_,_,rfl,⟨c1,rep_anti d1 fun b hb=>hb.elim,d2⟩,_,_,rfl,⟨c3,rep_anti d3 fun b hb=>hb.elim,d4⟩,rfl⟩
 have hent:=callFunc_ok (P:=EWI.P) (f:=8) Try.func8 rfl rfl
 refine wpList_plain rfl fun K hK=>?_
 unfold Oper.wp
 have hx1:a1.eval (.tmp 31)=gt a1 31:=rfl
 have hx2:a1.eval (.tmp 32)=gt a1 32:=rfl
 rw [execOp_call_go,show #[]++#[Operand.tmp 31,Operand.tmp 32].map a1.eval++#[]=#[gt a1 31,gt a1 32] by simp [hx1,hx2],hent]
 refine Calls.mono (cc_new hsp hsp hv hv (by omega) hcall) ?_
 rintro e u2 ⟨z',rfl,⟨cz,hz,ez⟩,hb2⟩
 rw [List.map_append,hcan] at hz
 refine hK _ _ ?_
 obtain ⟨n1,hn1⟩:∃ n,w1.heap.size=n:=⟨_,rfl⟩
 obtain ⟨n2,hn2⟩:∃ n,u2.heap.size=n:=⟨_,rfl⟩
 have h12:n1<=n2:=by rw [<-hn1,<-hn2]; exact hb2.size
 have hz1:=repU_len hz
 obtain ⟨zs,rfl⟩:∃ v,cz=[v]:=List.length_eq_one_iff.1 hz1
 have hzo:zs.oneCell'=true:=repU_one hz _ List.mem_cons_self
 have ez:z'=.agg #[zs]:=ez
 subst ez
 have hX1:∀ b,(X0 b∨(n1<=b/\b<n2))->b<u2.heap.size:=by
  rintro b (h|h)
  ·have:=hX0 b h
   have:=hf1.kp.size
   omega
  ·omega
 have hf2:=hf1.base (X1:=fun b=>X0 b∨(n1<=b/\b<n2)) hX0 hb2 fun b h=>h.imp id fun h=>by omega
 have hf3:=hf2.pure hX1 (Below.refl _ _) (d:=some 33) (r:=.tup (.cons (.agg (.cons (.val zs) .nil)) (.cons (.dat (.int .i64) 0) .nil))) (v:=.tuple #[.agg #[zs],.int .i64 0]) (by intro t e; cases e; show 33<143; decide)
  ⟨[_,_],rfl,_,_,rfl,⟨[zs],rfl,⟨_,_,rfl,rfl,rfl⟩,fun x hx=>by rw [List.mem_singleton.1 hx]; exact hzo⟩,_,_,rfl,m_int_of (by rw [inR_i64]; decide),rfl⟩
 refine pre_ok (ann:=[]) (ds:=dsts [_,_,_,_,_,_,_,_,_]) (l:=[_,_,_,_,_,_]) (r:=[]) EWI_ok hX1 (fun g=>dsts_ok _ g) hf3 (ps0:=[]) rfl ?_ (List.all_eq_true.1 (by rfl)) fun ρ5 a5 u5 hf5=>wpList_nil ?_
 ·trivial
 have hf5b:=hf5.base (X1:=fun b=>X0 b∨(n1<=b/\b<n2)) hX1 (Below.refl _ _) fun b h=>.inl h
 have hX5:∀ b,(X0 b∨(n1<=b/\b<n2))->b<u5.heap.size:=fun b hb=>Nat.lt_of_lt_of_le (hX1 b hb) hf5.kp.size
 refine run_h (S:=frX [14] 4) (by rw [mk_len]; exact hf5.nx.symm) EWI_ok hX5 ?_ (fun H hH hraw=>?_) (by kernel_rfl) ρ5 a5 u5 hf5b
 ·intro st ρ a' w' hfp hf
  exfalso
  unfold finP at hfp
  split at hfp
  ·obtain ⟨_,⟨⟨h6,_⟩,_⟩⟩:=hfp
   exact absurd h6 (show ¬(4<=0) by decide)
  ·exact hfp
 refine hH.weak ⟨[(0,.dat wdT l),(1,.dat wdT raw),(5,.ref 0 0),(6,.dat wdT wd),(7,.own 1),(9,.own 2),(10,.ref 3 0),(11,.dat (.int .i64) 0)],[(0,.box 25 (.cons (.dat (.slice bkT) s) .nil)),(1,.row 3 (.int .i64) (nxR s wd).1),(2,.row 3 (.int .i64) (fsR s)),(3,.box 25 (.cons (.val zs) .nil))],4⟩ 4 ?_ ?_
 ·dsimp only [go_sem]
  and_intros<;>first|trivial|rfl|omega|simp
 refine hH.run 100 _ _ ?_
 dsimp only [go_sem]
 obtain ⟨r7,hr7⟩:∃ r,(nxR s wd).1=r:=⟨_,rfl⟩
 obtain ⟨r9,hr9⟩:∃ r,fsR s=r:=⟨_,rfl⟩
 have hm7:r7.length<=maxLen:=by
  obtain ⟨v,_,h⟩:=hf.row (c:=1) (T:=3) (t:=.int .i64) (l:=(nxR s wd).1) (by simp)
  rw [<-hr7]
  exact h.max
 have hm9:r9.length<=maxLen:=by
  obtain ⟨v,_,h⟩:=hf.row (c:=2) (T:=3) (t:=.int .i64) (l:=fsR s) (by simp)
  rw [<-hr9]
  exact h.max
 have hml:(maxLen:Int)<=9223372036854775807:=by decide
 rw [hr7,hr9]
 refine hH.loop (fun x:Nat×List Int=>⟨[(0,.dat wdT l),(1,.dat wdT raw),(5,.ref 0 0),(6,.dat wdT wd),(7,.own 1),(9,.own 2),(10,.ref 3 0),(11,.dat (.int .i64) 0),(12,.dat (.int .i64) (x.1:Int))],[(0,.box 25 (.cons (.dat (.slice bkT) s) .nil)),(1,.row 3 (.int .i64) x.2),(2,.row 3 (.int .i64) r9),(3,.box 25 (.cons (.val zs) .nil))],4⟩) (fun x=>x.1<=x.2.length/\x.2.length=r7.length) (fun x=>r7.length-x.1) (0,r7) 4 ⟨Nat.zero_le _,rfl⟩ ?_ ?_
 ·dsimp only [go_sem]
  and_intros<;>first|trivial|rfl|omega|simp
 rintro ⟨i,y⟩ ⟨hi,hy⟩ R hm
 dsimp only at hi hy
 refine hH.run 100 _ _ ?_
 dsimp only [go_sem]
 rw [Int.toNat_natCast]
 refine ⟨fun d=>?_,fun d=>?_⟩<;>simp only [decide_eq_true_eq,decide_eq_false_iff_not] at d
 ·have d:i<y.length:=by omega
  refine ⟨⟨Int.natCast_nonneg _,by omega⟩,d,by rw [inR_i64]; omega,hm _ (i+1,y.set i 9) 4 ⟨by simp; omega,by simp; omega⟩ (by dsimp only; omega) ?_⟩
  dsimp only [go_sem]
  simp
 refine hH.loop (fun x:Nat×List Int=>⟨[(0,.dat wdT l),(1,.dat wdT raw),(5,.ref 0 0),(6,.dat wdT wd),(9,.own 2),(10,.ref 3 0),(11,.dat (.int .i64) 0),(13,.dat (.int .i64) (x.1:Int))],[(0,.box 25 (.cons (.dat (.slice bkT) s) .nil)),(2,.row 3 (.int .i64) x.2),(3,.box 25 (.cons (.val zs) .nil))],4⟩) (fun x=>x.1<=x.2.length/\x.2.length=r9.length) (fun x=>r9.length-x.1) (0,r9) 4 ⟨Nat.zero_le _,rfl⟩ ?_ ?_
 ·dsimp only [go_sem]
  and_intros<;>first|trivial|rfl|omega|simp
 rintro ⟨i,y⟩ ⟨hi,hy⟩ R hm
 dsimp only at hi hy
 refine hH.run 100 _ _ ?_
 dsimp only [go_sem]
 rw [Int.toNat_natCast]
 refine ⟨fun d=>?_,fun d=>?_⟩<;>simp only [decide_eq_true_eq,decide_eq_false_iff_not] at d
 ·have d:i<y.length:=by omega
  refine ⟨⟨Int.natCast_nonneg _,by omega⟩,d,by rw [inR_i64]; omega,hm _ (i+1,y.set i 9) 4 ⟨by simp; omega,by simp; omega⟩ (by dsimp only; omega) ?_⟩
  dsimp only [go_sem]
  simp
 clear hm
 refine hraw _ _ ?_
 intro hok6 ρ6 a6 u6 hf6
 have hfin1:∀ {u:World} {X:Nat->Prop},∀ st ρ a' w',finP (frX [15,18,21,23,24,25] 1) st->Fr u X [.slice none 0 0] (frX [15,18,21,23,24,25] 1).N st ρ a' w'->Q .ret a' w'/\Q .normal a' w':=by
  intro u X st ρ a' w' hfp hf
  exfalso
  unfold finP at hfp
  split at hfp
  ·obtain ⟨_,⟨⟨h6,_⟩,_⟩⟩:=hfp
   exact absurd h6 (show ¬(1<=0) by decide)
  ·exact hfp
 obtain ⟨-,b10,cs,p10,q10,⟨z9,us,e4,e5,e6⟩,-⟩:=hf6.cs (3,.box 25 (.cons (.val zs) .nil)) (by simp)
 have e6:us=[]:=e6
 subst e6
 have e5:=(List.cons.inj e5).1
 subst e5
 have ecs:cs=#[z9]:=by simpa using congrArg List.toArray e4
 subst ecs
 have p10:ρ6[3]?=some (.pointer (some ⟨b10,0,none⟩)):=p10
 have i10:inC ρ6 3 b10:=inC_blk p10 rfl
 have hub:UN n1 n2 b10:=by
  intro hn
  rcases (hf6.bl (3,.box 25 (.cons (.val z9) .nil)) (by simp) b10 i10).2 with h|h
  ·have:=hf5.kp.size
   omega
  ·exact (hf6.pn.bo b10 h).2 (.inr hn)
 have e10:gt a6 10=ptr b10:=by
  obtain ⟨v,b,g1,g2,g3⟩:=hf6.sl 10 (.ref 3 0) rfl
  rw [p10] at g1
  cases g1
  cases g2
  exact (List.cons.inj g3).1
 have hrp:repU spT (UN n1 n2) u6 [z9] (s++s):=by
  have g2:repU spT (UN n1 n2) u2 [z9] (s++s):=repU_anti hz fun b hb=>by
   rcases Nat.lt_or_ge b n1 with h|h
   ·exact .inl (by omega)
   ·exact .inr (by rcases Nat.lt_or_ge b n2 with h'|h'; exact absurd ⟨h,h'⟩ hb; omega)
  have g5:repU spT (UN n1 n2) u5 [z9] (s++s):=repU_st g2 ⟨hf5.kp.size,fun k hk hn=>hf5.kp.block k hk fun hc=>(hf5.pn.bo k hc).2 (.inr (Classical.not_not.1 hn))⟩
  exact repU_st g5 ⟨hf6.kp.size,fun k hk hn=>hf6.kp.block k hk fun hc=>(hf6.pn.bo k hc).2 (.inr (Classical.not_not.1 hn))⟩
 obtain ⟨v0,ev0⟩:∃ v,gt a6 0=v:=⟨_,rfl⟩
 obtain ⟨v1,ev1⟩:∃ v,gt a6 1=v:=⟨_,rfl⟩
 obtain ⟨v5,ev5⟩:∃ v,gt a6 5=v:=⟨_,rfl⟩
 obtain ⟨v6,ev6⟩:∃ v,gt a6 6=v:=⟨_,rfl⟩
 obtain ⟨v11,ev11⟩:∃ v,gt a6 11=v:=⟨_,rfl⟩
 have hID:ID n1 n2 b10 u6 z9 (slB v0 v1 v5 v6 v11 b10) (s++s) a6 u6:=by
  refine ⟨hub,q10,hrp,hf6.dn,hf6.sz,fun t x hx=>?_,⟨Nat.le_refl _,fun _ _ _=>rfl⟩,rfl,rfl,rfl⟩
  have hx:=get?_mem hx
  simp only [slB,List.mem_cons,Prod.mk.injEq,List.not_mem_nil,or_false] at hx
  rcases hx with ⟨rfl,rfl⟩|⟨rfl,rfl⟩|⟨rfl,rfl⟩|⟨rfl,rfl⟩|⟨rfl,rfl⟩|⟨rfl,rfl⟩
  ·exact ⟨.inr (.inr ⟨_,rfl⟩),congrArg (fun z=>[z]) e10⟩
  ·exact ⟨.inr (.inr ⟨_,rfl⟩),congrArg (fun z=>[z]) ev0⟩
  ·exact ⟨.inr (.inr ⟨_,rfl⟩),congrArg (fun z=>[z]) ev1⟩
  ·exact ⟨.inr (.inr ⟨_,rfl⟩),congrArg (fun z=>[z]) ev5⟩
  ·exact ⟨.inr (.inr ⟨_,rfl⟩),congrArg (fun z=>[z]) ev6⟩
  ·exact ⟨.inr (.inr ⟨_,rfl⟩),congrArg (fun z=>[z]) ev11⟩
 clear hraw hm hH hok6
 obtain ⟨cc0,hcc0⟩:∃ c,s++s=c:=⟨_,rfl⟩
 rw [hcc0] at hID
 refine run_h (S:=frX [15,18,21,23,24,25] 1) rfl EWI_ok (fun b h=>h.elim) hfin1 (fun H hH hraw=>?_) (by kernel_rfl) _ a6 u6 hID.fr
 refine hH.run 100 _ _ ?_
 dsimp only [go_sem]
 refine hraw _ _ ?_
 intro hok7 ρ7 a7 u7 hf7
 have hI7:=hID.seg hf7 (slN:=slI v0 v1 v5 v6 v11 b10 0) fun t x hx=>by
  have hx:=get?_mem hx
  simp only [slI,slB,List.mem_cons,Prod.mk.injEq,List.not_mem_nil,or_false] at hx
  rcases hx with ⟨rfl,rfl⟩|⟨rfl,rfl⟩|⟨rfl,rfl⟩|⟨rfl,rfl⟩|⟨rfl,rfl⟩|⟨rfl,rfl⟩|⟨rfl,rfl⟩<;>first|exact ⟨rfl,.inl ⟨_,_,rfl⟩⟩|exact ⟨rfl,.inr (.inr ⟨_,rfl⟩)⟩
 clear hraw hH
 have hlc0:cc0.length<=maxLen:=by rw [<-hcc0,List.length_append]; simp only [maxLen]; omega
 refine floop (fun (i:Nat) a u=>∃ cc,i<=cc0.length/\shp spT cc0 cc/\ID n1 n2 b10 u6 z9 (slI v0 v1 v5 v6 v11 b10 i) cc a u) (fun i=>cc0.length-i) 0 ⟨cc0,Nat.zero_le _,shp_refl spT cc0,hI7⟩ ?_
 rintro i a8 u8 ⟨cc,hi,hsh,hI8⟩
 rw [<-sem_mark]
 refine run_h (S:=frX [15,18,21,23,24,25] 1) (k:=.code _::.mark _::_) rfl EWI_ok (fun b h=>h.elim) hfin1 (fun H hH hraw=>?_) (by kernel_rfl) _ a8 u8 hI8.fr
 refine hH.run 100 _ _ ?_
 dsimp only [go_sem]
 refine hraw _ _ ?_
 intro hok9 ρ9 a9 u9 hf9
 have hI9:=hI8.seg hf9 (slN:=slI v0 v1 v5 v6 v11 b10 i) fun t x hx=>by
  have hx:=get?_mem hx
  simp only [slI,slB,List.mem_cons,Prod.mk.injEq,List.not_mem_nil,or_false] at hx
  rcases hx with ⟨rfl,rfl⟩|⟨rfl,rfl⟩|⟨rfl,rfl⟩|⟨rfl,rfl⟩|⟨rfl,rfl⟩|⟨rfl,rfl⟩|⟨rfl,rfl⟩<;>first|exact ⟨rfl,.inl ⟨_,_,rfl⟩⟩|exact ⟨rfl,.inr (.inr ⟨_,rfl⟩)⟩
 clear hraw hH
 refine hI9.rd rfl rfl ?_ (by rfl) rfl (slN:=(58,.dat .bool (decide ((i:Int)<(cc.length:Int))))::slI v0 v1 v5 v6 v11 b10 i) (fun t x hx=>?_) fun a10 u10 hI10=>?_
 ·trivial
 ·have hx:=get?_mem hx
  simp only [slI,slB,List.mem_cons,Prod.mk.injEq,List.not_mem_nil,or_false] at hx
  rcases hx with ⟨rfl,rfl⟩|⟨rfl,rfl⟩|⟨rfl,rfl⟩|⟨rfl,rfl⟩|⟨rfl,rfl⟩|⟨rfl,rfl⟩|⟨rfl,rfl⟩|⟨rfl,rfl⟩<;>first|exact .inr ⟨rfl,rfl⟩|exact .inl ⟨rfl,.inl ⟨_,_,rfl⟩⟩|exact .inl ⟨rfl,.inr (.inl ⟨_,rfl⟩)⟩|exact .inl ⟨rfl,.inr (.inr ⟨_,rfl⟩)⟩
 refine run_h (S:=frX [15,18,21,23,24,25] 1) rfl EWI_ok (fun b h=>h.elim) hfin1 (fun H hH hraw=>?_) (by kernel_rfl) _ a10 u10 hI10.fr
 refine hH.run 100 _ _ ?_
 dsimp only [go_sem]
 refine ⟨fun d=>?_,fun d=>?_⟩<;>simp only [decide_eq_true_eq,decide_eq_false_iff_not] at d
 ·have d:i<cc.length:=by omega
  have d0:i<cc0.length:=by rw [<-hsh.1]; exact d
  obtain ⟨B0,hB0⟩:∃ B,cc0[i]?=some B:=⟨_,List.getElem?_eq_getElem d0⟩
  have hlB0:List.length B0<=100:=by
   have hm0:=List.mem_of_getElem? hB0
   rw [<-hcc0,List.mem_append] at hm0
   exact hm0.elim (fun h=>(hsp.2 _ h).1) (fun h=>(hsp.2 _ h).1)
  refine hraw _ _ ?_
  intro hok11 ρ11 a11 u11 hf11
  have hI11:=hI10.seg hf11 (slN:=slK v0 v1 v5 v6 v11 b10 i 0) fun t x hx=>by
   have hx:=get?_mem hx
   simp only [slK,slI,slB,List.mem_cons,Prod.mk.injEq,List.not_mem_nil,or_false] at hx
   rcases hx with ⟨rfl,rfl⟩|⟨rfl,rfl⟩|⟨rfl,rfl⟩|⟨rfl,rfl⟩|⟨rfl,rfl⟩|⟨rfl,rfl⟩|⟨rfl,rfl⟩|⟨rfl,rfl⟩<;>first|exact ⟨rfl,.inl ⟨_,_,rfl⟩⟩|exact ⟨rfl,.inr (.inr ⟨_,rfl⟩)⟩
  clear hraw hH
  refine floop (fun (k:Nat) a u=>∃ cc,k<=List.length B0/\shp spT cc0 cc/\ID n1 n2 b10 u6 z9 (slK v0 v1 v5 v6 v11 b10 i k) cc a u) (fun k=>List.length B0-k) 0 ⟨cc,Nat.zero_le _,hsh,hI11⟩ ?_
  clear hI11 hf11 hok11 hI10 hI9 hf9 hok9 hI8 hsh d
  rintro k a12 u12 ⟨cc,hk,hsh,hI12⟩
  rw [<-sem_mark]
  refine run_h (S:=frX [15,18,21,23,24,25] 1) (k:=.code _::.mark _::_) rfl EWI_ok (fun b h=>h.elim) hfin1 (fun H hH hraw=>?_) (by kernel_rfl) _ a12 u12 hI12.fr
  refine hH.run 100 _ _ ?_
  dsimp only [go_sem]
  refine hraw _ _ ?_
  intro hok13 ρ13 a13 u13 hf13
  have hI13:=hI12.seg hf13 (slN:=slK v0 v1 v5 v6 v11 b10 i k) fun t x hx=>by
   have hx:=get?_mem hx
   simp only [slK,slI,slB,List.mem_cons,Prod.mk.injEq,List.not_mem_nil,or_false] at hx
   rcases hx with ⟨rfl,rfl⟩|⟨rfl,rfl⟩|⟨rfl,rfl⟩|⟨rfl,rfl⟩|⟨rfl,rfl⟩|⟨rfl,rfl⟩|⟨rfl,rfl⟩|⟨rfl,rfl⟩<;>first|exact ⟨rfl,.inl ⟨_,_,rfl⟩⟩|exact ⟨rfl,.inr (.inr ⟨_,rfl⟩)⟩
  clear hraw hH
  obtain ⟨B1,hB1,hsB⟩:=shp_at (t:=bkT) hsh hB0
  have hd1:i<cc.length:=lt_of hB1
  have hg1:cc.getD i (zd bkT)=B1:=getD_of hB1
  have hl1:List.length B1=List.length B0:=hsB.1
  refine hI13.rd rfl rfl ?_ (by rfl) rfl (slN:=(69,.dat .bool (decide ((k:Int)<(List.length (cc.getD i (zd bkT)):Int))))::slK v0 v1 v5 v6 v11 b10 i k) (fun t x hx=>?_) fun a14 u14 hI14=>?_
  ·exact ⟨⟨Int.natCast_nonneg _,Int.ofNat_lt.2 hd1⟩,trivial⟩
  ·have hx:=get?_mem hx
   simp only [slK,slI,slB,List.mem_cons,Prod.mk.injEq,List.not_mem_nil,or_false] at hx
   rcases hx with ⟨rfl,rfl⟩|⟨rfl,rfl⟩|⟨rfl,rfl⟩|⟨rfl,rfl⟩|⟨rfl,rfl⟩|⟨rfl,rfl⟩|⟨rfl,rfl⟩|⟨rfl,rfl⟩|⟨rfl,rfl⟩<;>first|exact .inr ⟨rfl,rfl⟩|exact .inl ⟨rfl,.inl ⟨_,_,rfl⟩⟩|exact .inl ⟨rfl,.inr (.inl ⟨_,rfl⟩)⟩|exact .inl ⟨rfl,.inr (.inr ⟨_,rfl⟩)⟩
  rw [hg1] at hI14
  refine run_h (S:=frX [15,18,21,23,24,25] 1) rfl EWI_ok (fun b h=>h.elim) hfin1 (fun H hH hraw=>?_) (by kernel_rfl) _ a14 u14 hI14.fr
  refine hH.run 100 _ _ ?_
  dsimp only [go_sem]
  refine ⟨fun d=>?_,fun d=>?_⟩<;>simp only [decide_eq_true_eq,decide_eq_false_iff_not] at d
  ·have d:k<List.length B1:=by omega
   obtain ⟨F0,hF0⟩:∃ F,B0[k]?=some F:=⟨_,List.getElem?_eq_getElem (by rw [<-hl1]; exact d)⟩
   refine hraw _ _ ?_
   intro hok15 ρ15 a15 u15 hf15
   have hI15:=hI14.seg hf15 (slN:=slJ v0 v1 v5 v6 v11 b10 i k 0) fun t x hx=>by
    have hx:=get?_mem hx
    simp only [slJ,slK,slI,slB,List.mem_cons,Prod.mk.injEq,List.not_mem_nil,or_false] at hx
    rcases hx with ⟨rfl,rfl⟩|⟨rfl,rfl⟩|⟨rfl,rfl⟩|⟨rfl,rfl⟩|⟨rfl,rfl⟩|⟨rfl,rfl⟩|⟨rfl,rfl⟩|⟨rfl,rfl⟩|⟨rfl,rfl⟩<;>first|exact ⟨rfl,.inl ⟨_,_,rfl⟩⟩|exact ⟨rfl,.inr (.inr ⟨_,rfl⟩)⟩
   clear hraw hH
   refine floop (fun (j:Nat) a u=>∃ cc,j<=List.length F0.2.2/\shp spT cc0 cc/\ID n1 n2 b10 u6 z9 (slJ v0 v1 v5 v6 v11 b10 i k j) cc a u) (fun j=>List.length F0.2.2-j) 0 ⟨cc,Nat.zero_le _,hsh,hI15⟩ ?_
   clear hI15 hf15 hok15 hI14 hI13 hf13 hok13 hI12 hl1 hg1 hd1 hsB hB1 hsh d
   rintro j a16 u16 ⟨cc,hj,hsh,hI16⟩
   rw [<-sem_mark]
   refine run_h (S:=frX [15,18,21,23,24,25] 1) (k:=.code _::.mark _::_) rfl EWI_ok (fun b h=>h.elim) hfin1 (fun H hH hraw=>?_) (by kernel_rfl) _ a16 u16 hI16.fr
   refine hH.run 100 _ _ ?_
   dsimp only [go_sem]
   refine hraw _ _ ?_
   intro hok17 ρ17 a17 u17 hf17
   have hI17:=hI16.seg hf17 (slN:=slJ v0 v1 v5 v6 v11 b10 i k j) fun t x hx=>by
    have hx:=get?_mem hx
    simp only [slJ,slK,slI,slB,List.mem_cons,Prod.mk.injEq,List.not_mem_nil,or_false] at hx
    rcases hx with ⟨rfl,rfl⟩|⟨rfl,rfl⟩|⟨rfl,rfl⟩|⟨rfl,rfl⟩|⟨rfl,rfl⟩|⟨rfl,rfl⟩|⟨rfl,rfl⟩|⟨rfl,rfl⟩|⟨rfl,rfl⟩<;>first|exact ⟨rfl,.inl ⟨_,_,rfl⟩⟩|exact ⟨rfl,.inr (.inr ⟨_,rfl⟩)⟩
   clear hraw hH
   obtain ⟨B1,hB1,hsB⟩:=shp_at (t:=bkT) hsh hB0
   obtain ⟨F1,hF1,hsF⟩:=shp_at (t:=fT) hsB hF0
   have hd1:i<cc.length:=lt_of hB1
   have hg1:cc.getD i (zd bkT)=B1:=getD_of hB1
   have hd2:k<List.length B1:=lt_of hF1
   have hg2:List.getD B1 k (zd fT)=F1:=getD_of hF1
   have hl2:List.length F1.2.2=List.length F0.2.2:=hsF.2.2.1
   have hl3:List.length F1.2.2<=maxLen:=((rep_wf hI17.rp.rep).2 _ (List.mem_of_getElem? hB1)).2 _ (List.mem_of_getElem? hF1) |>.2.2.1
   refine hI17.rd rfl rfl ?_ (by rfl) rfl (slN:=(84,.dat .bool (decide ((j:Int)<(List.length (List.getD (cc.getD i (zd bkT)) k (zd fT)).2.2:Int))))::slJ v0 v1 v5 v6 v11 b10 i k j) (fun t x hx=>?_) fun a18 u18 hI18=>?_
   ·exact ⟨⟨Int.natCast_nonneg _,Int.ofNat_lt.2 hd1⟩,⟨Int.natCast_nonneg _,by
      dsimp only [go_sem]
      rw [Int.toNat_natCast,hg1]
      exact Int.ofNat_lt.2 hd2⟩,trivial⟩
   ·have hx:=get?_mem hx
    simp only [slJ,slK,slI,slB,List.mem_cons,Prod.mk.injEq,List.not_mem_nil,or_false] at hx
    rcases hx with ⟨rfl,rfl⟩|⟨rfl,rfl⟩|⟨rfl,rfl⟩|⟨rfl,rfl⟩|⟨rfl,rfl⟩|⟨rfl,rfl⟩|⟨rfl,rfl⟩|⟨rfl,rfl⟩|⟨rfl,rfl⟩|⟨rfl,rfl⟩<;>first|exact .inr ⟨rfl,rfl⟩|exact .inl ⟨rfl,.inl ⟨_,_,rfl⟩⟩|exact .inl ⟨rfl,.inr (.inl ⟨_,rfl⟩)⟩|exact .inl ⟨rfl,.inr (.inr ⟨_,rfl⟩)⟩
   rw [hg1,hg2] at hI18
   refine run_h (S:=frX [15,18,21,23,24,25] 1) rfl EWI_ok (fun b h=>h.elim) hfin1 (fun H hH hraw=>?_) (by kernel_rfl) _ a18 u18 hI18.fr
   refine hH.run 100 _ _ ?_
   dsimp only [go_sem]
   refine ⟨fun d=>?_,fun d=>?_⟩<;>simp only [decide_eq_true_eq,decide_eq_false_iff_not] at d
   ·have d:j<List.length F1.2.2:=by omega
    refine hraw _ _ ?_
    intro hok19 ρ19 a19 u19 hf19
    have hI19:=hI18.seg hf19 (slN:=slJ v0 v1 v5 v6 v11 b10 i k j) fun t x hx=>by
     have hx:=get?_mem hx
     simp only [slJ,slK,slI,slB,List.mem_cons,Prod.mk.injEq,List.not_mem_nil,or_false] at hx
     rcases hx with ⟨rfl,rfl⟩|⟨rfl,rfl⟩|⟨rfl,rfl⟩|⟨rfl,rfl⟩|⟨rfl,rfl⟩|⟨rfl,rfl⟩|⟨rfl,rfl⟩|⟨rfl,rfl⟩|⟨rfl,rfl⟩<;>first|exact ⟨rfl,.inl ⟨_,_,rfl⟩⟩|exact ⟨rfl,.inr (.inr ⟨_,rfl⟩)⟩
    clear hraw hH
    refine wp_region_list ?_
    refine hI19.r23 rfl rfl rfl rfl hB1 hF1 d (slN:=slJ v0 v1 v5 v6 v11 b10 i k j) (fun t x hx=>by
     have hx:=get?_mem hx
     simp only [slJ,slK,slI,slB,List.mem_cons,Prod.mk.injEq,List.not_mem_nil,or_false] at hx
     rcases hx with ⟨rfl,rfl⟩|⟨rfl,rfl⟩|⟨rfl,rfl⟩|⟨rfl,rfl⟩|⟨rfl,rfl⟩|⟨rfl,rfl⟩|⟨rfl,rfl⟩|⟨rfl,rfl⟩|⟨rfl,rfl⟩<;>exact ⟨rfl,by decide⟩) fun cc' a20 u20 hs20 hI20=>?_
    refine run_h (S:=frX [15,18,21,23,24,25] 1) rfl EWI_ok (fun b h=>h.elim) hfin1 (fun H hH hraw=>?_) (by kernel_rfl) _ a20 u20 hI20.fr
    refine hH.run 100 _ _ ?_
    dsimp only [go_sem]
    refine ⟨by rw [inR_i64]; omega,hraw _ _ ?_⟩
    intro hok21 ρ21 a21 u21 hf21
    refine ⟨j+1,⟨cc',by omega,shp_trans hsh hs20,?_⟩,by omega⟩
    exact hI20.seg hf21 (slN:=slJ v0 v1 v5 v6 v11 b10 i k (j+1)) fun t x hx=>by
     have hx:=get?_mem hx
     simp only [slJ,slK,slI,slB,List.mem_cons,Prod.mk.injEq,List.not_mem_nil,or_false] at hx
     rcases hx with ⟨rfl,rfl⟩|⟨rfl,rfl⟩|⟨rfl,rfl⟩|⟨rfl,rfl⟩|⟨rfl,rfl⟩|⟨rfl,rfl⟩|⟨rfl,rfl⟩|⟨rfl,rfl⟩|⟨rfl,rfl⟩<;>first|exact ⟨rfl,.inl ⟨_,_,rfl⟩⟩|exact ⟨rfl,.inr (.inr ⟨_,rfl⟩)⟩
   ·refine hraw _ _ ?_
    intro hok19 ρ19 a19 u19 hf19
    have hI19:=hI18.seg hf19 (slN:=slK v0 v1 v5 v6 v11 b10 i k) fun t x hx=>by
     have hx:=get?_mem hx
     simp only [slK,slI,slB,List.mem_cons,Prod.mk.injEq,List.not_mem_nil,or_false] at hx
     rcases hx with ⟨rfl,rfl⟩|⟨rfl,rfl⟩|⟨rfl,rfl⟩|⟨rfl,rfl⟩|⟨rfl,rfl⟩|⟨rfl,rfl⟩|⟨rfl,rfl⟩|⟨rfl,rfl⟩<;>first|exact ⟨rfl,.inl ⟨_,_,rfl⟩⟩|exact ⟨rfl,.inr (.inr ⟨_,rfl⟩)⟩
    clear hraw hH
    refine wp_region_list ?_
    refine hI19.r24 rfl rfl rfl hB1 hF1 (slN:=slK v0 v1 v5 v6 v11 b10 i k) (fun t x hx=>by
     have hx:=get?_mem hx
     simp only [slK,slI,slB,List.mem_cons,Prod.mk.injEq,List.not_mem_nil,or_false] at hx
     rcases hx with ⟨rfl,rfl⟩|⟨rfl,rfl⟩|⟨rfl,rfl⟩|⟨rfl,rfl⟩|⟨rfl,rfl⟩|⟨rfl,rfl⟩|⟨rfl,rfl⟩|⟨rfl,rfl⟩<;>exact ⟨rfl,by decide⟩) fun cc' a20 u20 hs20 hI20=>?_
    refine run_h (S:=frX [15,18,21,23,24,25] 1) rfl EWI_ok (fun b h=>h.elim) hfin1 (fun H hH hraw=>?_) (by kernel_rfl) _ a20 u20 hI20.fr
    refine hH.run 100 _ _ ?_
    dsimp only [go_sem]
    refine ⟨by rw [inR_i64]; omega,hraw _ _ ?_⟩
    intro hok21 ρ21 a21 u21 hf21
    have hk1:k<List.length B0:=lt_of hF0
    refine ⟨k+1,⟨cc',hk1,shp_trans hsh hs20,?_⟩,by omega⟩
    exact hI20.seg hf21 (slN:=slK v0 v1 v5 v6 v11 b10 i (k+1)) fun t x hx=>by
     have hx:=get?_mem hx
     simp only [slK,slI,slB,List.mem_cons,Prod.mk.injEq,List.not_mem_nil,or_false] at hx
     rcases hx with ⟨rfl,rfl⟩|⟨rfl,rfl⟩|⟨rfl,rfl⟩|⟨rfl,rfl⟩|⟨rfl,rfl⟩|⟨rfl,rfl⟩|⟨rfl,rfl⟩|⟨rfl,rfl⟩<;>first|exact ⟨rfl,.inl ⟨_,_,rfl⟩⟩|exact ⟨rfl,.inr (.inr ⟨_,rfl⟩)⟩
  ·refine ⟨by rw [inR_i64]; omega,hraw _ _ ?_⟩
   intro hok15 ρ15 a15 u15 hf15
   refine ⟨i+1,⟨cc,d0,hsh,?_⟩,by omega⟩
   exact hI14.seg hf15 (slN:=slI v0 v1 v5 v6 v11 b10 (i+1)) fun t x hx=>by
    have hx:=get?_mem hx
    simp only [slI,slB,List.mem_cons,Prod.mk.injEq,List.not_mem_nil,or_false] at hx
    rcases hx with ⟨rfl,rfl⟩|⟨rfl,rfl⟩|⟨rfl,rfl⟩|⟨rfl,rfl⟩|⟨rfl,rfl⟩|⟨rfl,rfl⟩|⟨rfl,rfl⟩<;>first|exact ⟨rfl,.inl ⟨_,_,rfl⟩⟩|exact ⟨rfl,.inr (.inr ⟨_,rfl⟩)⟩
 ·refine hraw _ _ ?_
  intro hok11 ρ11 a11 u11 hf11
  have hI11:=hI10.seg hf11 (slN:=slB v0 v1 v5 v6 v11 b10) fun t x hx=>by
   have hx:=get?_mem hx
   simp only [slB,List.mem_cons,Prod.mk.injEq,List.not_mem_nil,or_false] at hx
   rcases hx with ⟨rfl,rfl⟩|⟨rfl,rfl⟩|⟨rfl,rfl⟩|⟨rfl,rfl⟩|⟨rfl,rfl⟩|⟨rfl,rfl⟩<;>first|exact ⟨rfl,.inl ⟨_,_,rfl⟩⟩|exact ⟨rfl,.inr (.inr ⟨_,rfl⟩)⟩
  clear hraw hH
  have hnX6:∀ x∈[(0,CT.box 25 (.cons (.dat (.slice bkT) s) .nil)),(2,CT.row 3 (.int .i64) y),(3,CT.box 25 (.cons (.val z9) .nil))],∀ b,inC ρ6 x.1 b->UN n1 n2 b:=fun x hx b hb hn=>by
   rcases (hf6.bl x hx b hb).2 with h|h
   ·have:=hf5.kp.size
    omega
   ·exact (hf6.pn.bo b h).2 (.inr hn)
  have hU:∀ k,(n1<=k/\k<n2)->(X0 k∨(n1<=k/\k<n2))/\w0.heap.size<=k:=fun k hk=>⟨.inr hk,by have:=hf1.kp.size; omega⟩
  have hk1:Kept [] w0 w1:=hf1.kp
  have hk5:Kept [] w0 u5:=hk1.mkbK hf1 hb2 hf5.kp
  have hge:∀ k,inB (mkB ρ5 _) k->w0.heap.size<=k:=mkB_ge hf5 (Nat.le_trans hk1.size hb2.size) (mkB_ge hf1 (Nat.le_refl _) fun k h=>(inB_nil h).elim)
  have hlen:cc.length=2*s.length:=by rw [hsh.1,<-hcc0,List.length_append]; omega
  have hF:=hf6.back (w0:=w0) (X0:=X0) (a':=a11) (w':=u11) (U:=fun k=>n1<=k/\k<n2) hX5 hk5 hge (fun k h=>.inl h) hU hI11.ev hI11.os hI11.dn hI11.sz
   (sl':=[(0,.dat wdT l),(1,.dat wdT raw),(5,.ref 0 0),(6,.dat wdT wd),(10,.ref 3 0),(11,.dat (.int .i64) 0)]) (fun t x hx=>?_) (ck':=[(0,.box 25 (.cons (.dat (.slice bkT) s) .nil)),(3,.box 25 (.cons (.dat (.slice bkT) cc) .nil))]) (show [0,3].Nodup by decide) (fun x hx=>?_)
  ·refine run_h hnb hE hX0 hfin (fun H hH hraw=>?_) (by kernel_rfl) _ a11 u11 hF
   refine hH.run 100 _ _ ?_
   dsimp only [go_sem]
   have hs5:s.length<=5000:=hsp.1
   exact ⟨rfl,hsp.1,fun b hb=>(hsp.2 b hb).1,decide_eq_true hwd.symm,decide_eq_true hs.symm,hsp,hsp,decide_eq_true rfl,by rw [inR_i64]; omega,decide_eq_true ((congrArg Int.ofNat hlen).trans (by show ((2*s.length:Nat):Int)=_; omega)),rfl,trivial⟩
  ·have hx:=get?_mem hx
   simp only [List.mem_cons,Prod.mk.injEq,List.not_mem_nil,or_false] at hx
   rcases hx with ⟨rfl,rfl⟩|⟨rfl,rfl⟩|⟨rfl,rfl⟩|⟨rfl,rfl⟩|⟨rfl,rfl⟩|⟨rfl,rfl⟩
   ·exact ⟨rfl,(List.cons.inj (hI11.sl 0 _ rfl).2).1.trans ev0.symm⟩
   ·exact ⟨rfl,(List.cons.inj (hI11.sl 1 _ rfl).2).1.trans ev1.symm⟩
   ·exact ⟨rfl,(List.cons.inj (hI11.sl 5 _ rfl).2).1.trans ev5.symm⟩
   ·exact ⟨rfl,(List.cons.inj (hI11.sl 6 _ rfl).2).1.trans ev6.symm⟩
   ·exact ⟨rfl,(List.cons.inj (hI11.sl 10 _ rfl).2).1.trans e10.symm⟩
   ·exact ⟨rfl,(List.cons.inj (hI11.sl 11 _ rfl).2).1.trans ev11.symm⟩
  ·simp only [List.mem_cons,List.not_mem_nil,or_false] at hx
   rcases hx with rfl|rfl
   ·exact ⟨⟨_,List.mem_cons_self⟩,.inl List.mem_cons_self⟩
   ·refine ⟨⟨.box 25 (.cons (.val z9) .nil),by simp⟩,.inr ⟨rfl,b10,_,p10,hI11.bx,⟨z9,[],rfl,⟨[z9],rep_anti hI11.rp.rep fun b hb=>.inl ?_,rfl⟩,rfl⟩,fun c hc=>?_⟩⟩
    ·rcases hb with hb|⟨x,hx,hb⟩
     ·intro hn
      have:=hX0 b hb
      have:=hk1.size
      omega
     ·simp only [List.mem_cons,List.not_mem_nil,or_false] at hx
      rcases hx with rfl|rfl
      ·exact hnX6 _ List.mem_cons_self b hb
      ·exact hnX6 (3,.box 25 (.cons (.val z9) .nil)) (by simp) b hb
    ·have hc:c=z9:=by simpa using hc
     rw [hc]
     exact hzo
end Go.Proofs.Ytbokoblnehgkaaa.Gx
