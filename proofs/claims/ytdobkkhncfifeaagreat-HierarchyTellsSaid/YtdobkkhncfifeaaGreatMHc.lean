/-
  MHc: HQ HR HU H9 HA in one text.
-/
import Derived.Test.YtdobkkhncfifeaaGreatMHb
import Derived.Maps.OwnSet
import Derived.StringKeys
namespace Go.Proofs.YtdobkkhncfifeaaGreat.Gx
open Go Go.RowKit Tw B Nt
set_option linter.unusedVariables false
def Cn (p:List Int) (i j:Int):Prop:=∃ r,Rt p i r/\Rt p j r
theorem Cn.symm {p:List Int} {i j:Int} (h:Cn p i j):Cn p j i:=let ⟨r,a,b⟩:=h; ⟨r,b,a⟩
theorem Cn.trans {p:List Int} {i j k:Int} (h:Cn p i j) (h':Cn p j k):Cn p i k:=by
 obtain ⟨r,a,b⟩:=h
 obtain ⟨s,c,d⟩:=h'
 rw [b.det c] at a
 exact ⟨s,a,d⟩
def Kp (p q:List Int):Prop:=∀ i j,0<=i->i<(p.length:Int)->0<=j->j<(p.length:Int)->Cn p i j->Cn q i j
def Cl (f:Int->Prop) (p:List Int):Prop:=∀ i r,0<=i->i<(p.length:Int)->Rt p i r->(f i↔f r)
theorem lnk_cn {p:List Int} {a b:Int} (hw:wfP p) (a0:0<=a) (a1:a<(p.length:Int)) (b0:0<=b) (b1:b<(p.length:Int)) :
    Kp p (lnk p a b)/\Cn (lnk p a b) a b/\∀ f,Cl f p->(f a↔f b)->Cl f (lnk p a b):=by
 obtain ⟨w1,n1,p1,q1,_⟩:=find_spec hw a0 a1
 obtain ⟨r1,k1⟩:=find_root hw a0 a1
 have b1':b<((find p a).1.length:Int):=by rw [n1]; exact b1
 obtain ⟨w2,n2,p2,q2,_⟩:=find_spec w1 b0 b1'
 obtain ⟨r2,k2⟩:=find_root w1 b0 b1'
 have hR:∀ j r,0<=j->j<(p.length:Int)->Rt p j r->Rt (find (find p a).1 b).1 j r:=fun j r h0 h1 h=>k2 j r h0 (by rw [n1]; exact h1) (k1 j r h0 h1 h)
 have ra:=hR a _ a0 a1 r1
 have rb:=k2 b _ b0 b1' r2
 have hfb:Rt p b (find (find p a).1 b).2:=by
  obtain ⟨s,hs,_,_⟩:=Rt.ex hw _ b b0 b1 (Nat.lt_succ_self _)
  rw [<-(k1 b s b0 b1 hs).det r2]; exact hs
 have hx:=ra.root
 have hy:=rb.root
 have hlen:(find (find p a).1 b).1.length=p.length:=by rw [n2,n1]
 have e:lnk p a b=(find (find p a).1 b).1.set (max (find p a).2 (find (find p a).1 b).2).toNat (min (find p a).2 (find (find p a).1 b).2):=rfl
 rw [e]
 generalize find (find p a).1 b=y at *
 generalize find p a=x at *
 have hl:∀ j r,0<=j->j<(p.length:Int)->Rt p j r->Rt (y.1.set (max x.2 y.2).toNat (min x.2 y.2)) j (if r=max x.2 y.2 then min x.2 y.2 else r):=fun j r h0 h1 h =>
  Rt.link w2 hx hy p1 (by rw [hlen]; omega) p2 (by rw [hlen]; omega) h0 (by rw [hlen]; exact h1) (hR j r h0 h1 h)
 refine ⟨fun i j i0 i1 j0 j1 ⟨r,hi,hj⟩=>⟨_,hl i r i0 i1 hi,hl j r j0 j1 hj⟩,?_,fun f hf hab i r i0 i1 hi=>?_⟩
 ·have ha:=hl a _ a0 a1 r1
  have hb:=hl b _ b0 b1 hfb
  have e1:(if x.2=max x.2 y.2 then min x.2 y.2 else x.2)=min x.2 y.2:=by split<;>omega
  have e2:(if y.2=max x.2 y.2 then min x.2 y.2 else y.2)=min x.2 y.2:=by split<;>omega
  rw [e1] at ha
  rw [e2] at hb
  exact ⟨_,ha,hb⟩
 ·rw [List.length_set,hlen] at i1
  obtain ⟨s,hs,_,_⟩:=Rt.ex hw _ i i0 i1 (Nat.lt_succ_self _)
  have hr:=(hl i s i0 i1 hs).det hi
  have h1:=hf i s i0 i1 hs
  have hxy:f x.2↔f y.2:=(hf a _ a0 a1 r1).symm.trans (hab.trans (hf b _ b0 b1 hfb))
  rw [<-hr,h1]
  by_cases es:s=max x.2 y.2
  ·rw [if_pos es]
   rcases Int.le_total x.2 y.2 with h|h
   ·rw [Int.min_eq_left h,es,Int.max_eq_right h]; exact hxy.symm
   ·rw [Int.min_eq_right h,es,Int.max_eq_left h]; exact hxy
  ·rw [if_neg es]
theorem con_cn {p l:List Int} (hw:wfP p) (hl:inP' p.length l):∀ k,k<=l.length ->
    Kp p (con p l k)/\(∀ i,i<k->Cn (con p l k) (l.getD 0 0) (l.getD i 0))/\∀ f,Cl f p->(∀ x∈l,∀ y∈l,(f x↔f y))->Cl f (con p l k)
 | 0,_=>⟨fun _ _ _ _ _ _ h=>h,fun i h=>absurd h (Nat.not_lt_zero _),fun f h _=>h⟩
 | k+1,h=>by
  obtain ⟨h1,h2,h3⟩:=con_cn hw hl k (by omega)
  obtain ⟨w1,n1⟩:=con_spec hw hl k (by omega)
  rw [con_succ (by omega)]
  have m0:=getDm 0 (show 0<l.length by omega)
  have mk:=getDm 0 (show k<l.length by omega)
  have a:=hl _ m0
  have b:=hl _ mk
  obtain ⟨q1,q2,q3⟩:=lnk_cn w1 a.1 (by rw [n1]; exact a.2) b.1 (by rw [n1]; exact b.2)
  refine ⟨fun i j i0 i1 j0 j1 hc=>q1 i j i0 (by rw [n1]; exact i1) j0 (by rw [n1]; exact j1) (h1 i j i0 i1 j0 j1 hc),fun i hi=>?_,fun f hf hg=>q3 f (h3 f hf hg) (hg _ m0 _ mk)⟩
  rcases Nat.lt_or_ge i k with hik|hik
  ·have c:=hl _ (getDm 0 (show i<l.length by omega))
   exact q1 _ _ a.1 (by rw [n1]; exact a.2) c.1 (by rw [n1]; exact c.2) (h2 i hik)
  ·have:i=k:=by omega
   subst this
   exact q2
theorem mem_getD {α:Type} {l:List α} {x:α} (d:α) (h:x∈l):∃ i,i<l.length/\l.getD i d=x:=by
 obtain ⟨i,hi,e⟩:=List.mem_iff_getElem.1 h
 exact ⟨i,hi,by rw [List.getD_eq_getElem?_getD,List.getElem?_eq_getElem hi]; exact e⟩
theorem conA_cn {p l:List Int} (hw:wfP p) (hl:inP' p.length l) :
    Kp p (conA p l)/\(∀ x∈l,∀ y∈l,Cn (conA p l) x y)/\∀ f,Cl f p->(∀ x∈l,∀ y∈l,(f x↔f y))->Cl f (conA p l):=by
 obtain ⟨h1,h2,h3⟩:=con_cn hw hl _ (Nat.le_refl _)
 refine ⟨h1,fun x hx y hy=>?_,h3⟩
 obtain ⟨i,hi,rfl⟩:=mem_getD 0 hx
 obtain ⟨j,hj,rfl⟩:=mem_getD 0 hy
 exact (h2 i hi).symm.trans (h2 j hj)
theorem fold_cn {n:Nat}:∀ (G:List (List Int)) (p:List Int),wfP p->p.length=n->(∀ g∈G,inP' n g) ->
    wfP (G.foldl conA p)/\(G.foldl conA p).length=n/\Kp p (G.foldl conA p)/\(∀ g∈G,∀ x∈g,∀ y∈g,Cn (G.foldl conA p) x y) /\
     ∀ f,Cl f p->(∀ g∈G,∀ x∈g,∀ y∈g,(f x↔f y))->Cl f (G.foldl conA p)
 | [],p,hw,hn,_=>⟨hw,hn,fun _ _ _ _ _ _ h=>h,fun _ h=>(by cases h),fun _ h _=>h⟩
 | g::G,p,hw,hn,hG=>by
  have hg:=hG g (List.mem_cons_self ..)
  obtain ⟨w1,n1⟩:=conA_spec hw hn hg
  obtain ⟨a1,a2,a3⟩:=conA_cn hw (by rw [hn]; exact hg)
  obtain ⟨b1,b2,b3,b4,b5⟩:=fold_cn G (conA p g) w1 n1 fun x hx=>hG x (List.mem_cons_of_mem _ hx)
  rw [List.foldl_cons]
  refine ⟨b1,b2,fun i j i0 i1 j0 j1 h=>?_,fun x hx=>?_,fun f hf hh=>b5 f (a3 f hf (hh g (List.mem_cons_self ..))) fun x hx=>hh x (List.mem_cons_of_mem _ hx)⟩
  ·rw [hn] at i1 j1
   exact b3 i j i0 (by rw [n1]; exact i1) j0 (by rw [n1]; exact j1) (a1 i j i0 (by rw [hn]; exact i1) j0 (by rw [hn]; exact j1) h)
  ·rcases List.mem_cons.1 hx with rfl|hx
   ·intro i hi j hj
    have c:=hg i hi
    have d:=hg j hj
    exact b3 i j c.1 (by rw [n1]; exact c.2) d.1 (by rw [n1]; exact d.2) (a2 i hi j hj)
   ·exact b4 x hx
def cpG (l:List Atom) (k:Cmp):List Int:=if k.2.1.1≠[]/\k.2.2.1≠[] then occs l k.2.1.1++occs l k.2.2.1 else []
def grps (c:Cq):List (List Int):=(vrs (trm c)).map (occs c.1)++c.2.map (cpG c.1)
theorem conA_nil (p:List Int):conA p []=p:=rfl
def parF (c:Cq):List Int:=parC c c.2.length
theorem parF_eq (c:Cq):parF c=(grps c).foldl conA (idP c.1.length):=by
 unfold parF parC parN grps
 rw [List.take_length,List.take_length,List.foldl_append,List.foldl_map,List.foldl_map]
 have:stepC c.1=fun p k=>conA p (cpG c.1 k):=by
  funext p k
  unfold stepC cpG
  split
  ·rfl
  ·rw [conA_nil]
 rw [this]
 rfl
theorem grps_in (c:Cq):∀ g∈grps c,inP' c.1.length g:=by
 intro g hg
 unfold grps at hg
 rcases List.mem_append.1 hg with h|h
 ·obtain ⟨x,_,rfl⟩:=List.mem_map.1 h; exact occs_in _ _
 ·obtain ⟨x,_,rfl⟩:=List.mem_map.1 h
  unfold cpG
  split
  ·exact inP'_app (occs_in _ _) (occs_in _ _)
  ·exact fun _ h=>by cases h
theorem idP_get {n k:Nat} (h:k<n):(idP n).getD k 0=(k:Int):=by
 unfold idP
 rw [List.getD_eq_getElem?_getD,List.getElem?_map,List.getElem?_range h]
 rfl
theorem idP_par {n:Nat} {i:Int} (h0:0<=i) (h1:i<(n:Int)):par (idP n) i=i:=by
 unfold par
 rw [idP_get (by omega)]; omega
theorem idP_cl (f:Int->Prop) (n:Nat):Cl f (idP n):=by
 intro i r h0 h1 h
 rw [idP_len] at h1
 rw [h.det (.fix (idP_par h0 h1))]
theorem parF_cn (c:Cq):wfP (parF c)/\(parF c).length=c.1.length/\(∀ g∈grps c,∀ x∈g,∀ y∈g,Cn (parF c) x y)/\∀ f,(∀ g∈grps c,∀ x∈g,∀ y∈g,(f x↔f y))->Cl f (parF c):=by
 obtain ⟨h1,h2,h3,h4,h5⟩:=fold_cn (grps c) (idP c.1.length) (idP_wf _) (idP_len _) (grps_in c)
 rw [parF_eq]
 exact ⟨h1,h2,h4,fun f hf=>h5 f (idP_cl f _) hf⟩
theorem rt_Rt {p:List Int} (hw:wfP p) {i:Nat} (hi:i<p.length):Rt p i (rt p i)/\rt p i<=i:=by
 have i0:(0:Int)<=(i:Int):=Int.natCast_nonneg _
 have i1:(i:Int)<(p.length:Int):=Int.ofNat_lt.2 hi
 obtain ⟨_,_,q1,q2,_⟩:=find_spec hw i0 i1
 obtain ⟨r,_⟩:=find_root hw i0 i1
 unfold rt
 rw [Int.toNat_of_nonneg q1]
 exact ⟨r,by omega⟩
theorem rt_eq {p:List Int} (hw:wfP p) {i j:Nat} (hi:i<p.length) (hj:j<p.length):rt p i=rt p j↔Cn p i j:=by
 obtain ⟨a,_⟩:=rt_Rt hw hi
 obtain ⟨b,_⟩:=rt_Rt hw hj
 constructor
 ·intro h
  rw [h] at a
  exact ⟨_,a,b⟩
 ·rintro ⟨r,c,d⟩
  have:=a.det c
  have:=b.det d
  omega
theorem rt_rt {p:List Int} (hw:wfP p) {i:Nat} (hi:i<p.length):rt p (rt p i)=rt p i:=by
 obtain ⟨a,b⟩:=rt_Rt hw hi
 obtain ⟨c,_⟩:=rt_Rt hw (show rt p i<p.length by omega)
 have:=c.det (.fix a.root)
 omega
def cls (p:List Int) (k r:Nat):List Int:=((List.range k).filter fun i=>decide (rt p i=r)).map fun i:Nat=>(i:Int)
theorem mems_cls {n:Nat} {p:List Int} (hw:wfP p) (hn:p.length=n):∀ k,k<=n ->
    (∀ j r,0<=j->j<(n:Int)->Rt p j r->Rt (mems p n k).1 j r)/\∀ r,r<n->(mems p n k).2.getD r []=cls p k r
 | 0,_=>⟨fun _ _ _ _ h=>h,fun r hr=>by
     show (List.replicate n ([]:List Int)).getD r []=[]
     rw [List.getD_eq_getElem?_getD,List.getElem?_replicate]
     split<;>rfl⟩
 | k+1,h=>by
  obtain ⟨h1,h2⟩:=mems_cls hw hn k (by omega)
  obtain ⟨m1,m2,m3,_⟩:=mems_spec hw hn k (by omega)
  rw [mems_succ]
  have i0:(0:Int)<=(k:Int):=Int.natCast_nonneg _
  have i1:(k:Int)<((mems p n k).1.length:Int):=by rw [m2]; omega
  obtain ⟨r1,r2⟩:=find_root m1 i0 i1
  obtain ⟨w1,n1,p1,q1,_⟩:=find_spec m1 i0 i1
  have i2:(k:Int)<((find (mems p n k).1 k).1.length:Int):=by rw [n1]; exact i1
  obtain ⟨s1,s2⟩:=find_root w1 i0 i2
  have ff:=find_find m1 i0 i1
  have hk:=rt_Rt hw (show k<p.length by omega)
  have hrk:((rt p k:Nat):Int)=(find (mems p n k).1 k).2:=(h1 _ _ i0 (by omega) hk.1).det r1
  have e:memS (mems p n k) k=((find (find (mems p n k).1 k).1 k).1,(mems p n k).2.set (find (mems p n k).1 k).2.toNat ((mems p n k).2.getD (find (find (mems p n k).1 k).1 k).2.toNat []++[(k:Int)])):=rfl
  rw [e,ff,<-hrk,Int.toNat_natCast]
  refine ⟨fun j r j0 j1 hj=>s2 j r j0 (by rw [n1,m2]; exact j1) (r2 j r j0 (by rw [m2]; exact j1) (h1 j r j0 j1 hj)),fun r hr=>?_⟩
  have hc:cls p (k+1) r=cls p k r++if rt p k=r then [(k:Int)] else []:=by
   unfold cls
   rw [List.range_succ,List.filter_append,List.map_append]
   congr 1
   simp only [List.filter_cons,List.filter_nil,decide_eq_true_eq]
   split<;>rfl
  rw [hc]
  dsimp only
  rw [List.getD_eq_getElem?_getD,List.getElem?_set]
  by_cases hrr:rt p k=r
  ·rw [if_pos hrr,if_pos (by rw [m3,hrr]; exact hr),if_pos hrr,Option.getD_some,hrr,h2 r hr]
  ·rw [if_neg hrr,if_neg hrr,List.append_nil,<-h2 r hr,List.getD_eq_getElem?_getD]
theorem comps_eq (c:Cq):comps c=kept ((List.range c.1.length).map (cls (parF c) c.1.length)):=by
 obtain ⟨w,n,_⟩:=parF_cn c
 obtain ⟨_,h⟩:=mems_cls w n _ (Nat.le_refl _)
 obtain ⟨_,_,m3,_⟩:=mems_spec w n _ (Nat.le_refl _)
 have e:comps c=kept (mems (parF c) c.1.length c.1.length).2:=rfl
 rw [e]
 congr 1
 apply List.ext_getElem?
 intro i
 rcases Nat.lt_or_ge i c.1.length with hi|hi
 ·have:=h i hi
  rw [List.getD_eq_getElem?_getD,List.getElem?_eq_getElem (by omega)] at this
  rw [List.getElem?_eq_getElem (by omega),List.getElem?_map,List.getElem?_range hi]
  exact congrArg some this
 ·rw [List.getElem?_eq_none (by omega),List.getElem?_eq_none (by rw [List.length_map,List.length_range]; exact hi)]
end Go.Proofs.YtdobkkhncfifeaaGreat.Gx
namespace Go.Proofs.YtdobkkhncfifeaaGreat.Gx
open Go Go.RowKit Tw B Nt
set_option linter.unusedVariables false
theorem stv_at {l:List Atom} {n:Str} {k:Nat} (h:k<l.length):(stv l n).getD k false=hasV n (l.getD k ([],false,[])):=by
 unfold stv
 rw [List.getD_eq_getElem?_getD,List.getElem?_map,List.getD_eq_getElem?_getD,List.getElem?_eq_getElem h]
 rfl
theorem mem_occs {l:List Atom} {n:Str} {x:Int} (h:x∈occs l n):n≠[]/\∃ i:Nat,x=(i:Int)/\i<l.length/\hasV n (l.getD i ([],false,[]))=true:=by
 unfold occs at h
 split at h
 ·cases h
 ·rename_i hn
  unfold occ at h
  obtain ⟨i,hi,rfl⟩:=List.mem_map.1 h
  obtain ⟨h1,h2⟩:=List.mem_filter.1 hi
  exact ⟨hn,i,rfl,List.mem_range.1 h1,h2⟩
end Go.Proofs.YtdobkkhncfifeaaGreat.Gx
namespace Go.Proofs.YtdobkkhncfifeaaGreat.Gx
open Go Go.RowKit Tw B Nt
set_option linter.unusedVariables false
set_option linter.unusedSimpArgs false
set_option maxHeartbeats 4000000
set_option maxRecDepth 20000
section
variable {E:Env} {w0 w1 w2:World} {X0 X1:Nat->Prop} {Bo:List Value} {N:Nat} {st st':St} {ρ:List Value} {a:Act} {w w':World} {Q:Exit->Act->World->Prop} {P:Program} {ps:List Prop}
theorem pre_ok (hE:E.Ok) (hX0:∀ b,X0 b->b<w0.heap.size) {ops:Array Oper} {ds:List (Option Nat)} (hds:∀ g:Nat,nthO ds g=(ops[g]?).map Oper.dst) {ann:List (Nat×An)} {r:List Oper} :
    ∀ {l:List Oper} {st st':St} {ρ:List Value} {a:Act} {w:World} {ps0 ps:List Prop},Fr w0 X0 Bo N st ρ a w->evOps E ann ds l st ps0=some (st',ps)->AllP ps->(∀ o∈l,okOper N o=true) ->
     (∀ ρ' a' w',Fr w0 X0 Bo N st' ρ' a' w'->wpList E.P ops Q r a' w')->wpList E.P ops Q (l++r) a w
 | [],st,st',ρ,a,w,ps0,ps,h,he,hp,hok,hQ=>by cases he; exact hQ _ _ _ h
 | o::l,st,st',ρ,a,w,ps0,ps,h,he,hp,hok,hQ=>by
  simp only [evOps] at he
  split at he
  ·rename_i st1 qs e
   obtain ⟨k,hk⟩:=evOps_pre he
   have hq:AllP qs:=by rw [hk] at hp; exact hp.app.1.app.2
   refine wpList_step fun K hK=>?_
   exact evOp_ok hE h hX0 hds (hok o List.mem_cons_self) e hq fun ρ' a' w' h'=>hK _ _ (pre_ok hE hX0 hds h' he hp (fun o ho=>hok o (List.mem_cons_of_mem _ ho)) hQ)
  ·cases he
theorem region_pre (hE:E.Ok) (hX0:∀ b,X0 b->b<w0.heap.size) {id:Nat} {ops:Array Oper} {ann:List (Nat×An)} {pre post:List Oper} (hl:ops.toList=pre++post) (h:Fr w0 X0 Bo N st ρ a w) {k:List It}
    (he:evOps E ann (dsts ops.toList) pre st []=some (st',ps)) (hp:AllP ps) (hok:pre.all (okOper N)=true) (hQ:∀ ρ' a' w',Fr w0 X0 Bo N st' ρ' a' w'->wpList E.P ops (sem E.P Q k) post a' w') :
    sem E.P Q (.code (.region id ops false)::k) .normal a w:=by
 refine wp_region_list ?_
 have hds:∀ g:Nat,nthO (dsts ops.toList) g=(ops[g]?).map Oper.dst:=fun g=>by have:=dsts_ok ops.toList g; simpa using this
 have:=pre_ok hE hX0 (ops:=ops) (r:=post) (Q:=sem E.P Q k) hds h he hp (fun o ho=>List.all_eq_true.1 hok o ho) hQ
 rwa [<-hl] at this
theorem Fr.base (h:Fr w0 X0 Bo N st ρ a w) (hX0:∀ b,X0 b->b<w0.heap.size) (hb:Below w.heap.size w w2) (hX:∀ b,X1 b->X0 b∨w.heap.size<=b):Fr w2 X1 (mkB ρ st.ck) N st ρ a w2:=by
 have hXX:∀ b,XX X1 ρ st.ck b->XX X0 ρ st.ck b∨w.heap.size<=b:=by
  rintro b (hb|hb)
  ·rcases hX b hb with h'|h'
   ·exact .inl (.inl h')
   ·exact .inr h'
  ·exact .inl (.inr hb)
 refine ⟨h.dn,h.sz,Kept.refl w2,h.nx,h.nd,h.kn,fun x hx b hc=>⟨Nat.lt_of_lt_of_le (h.bl x hx b hc).1 hb.size,.inr (mk_mem hx hc)⟩,h.dj,fun x hx=>?_,fun t x hx=>?_,⟨fun b hc=>?_,?_,fun x hx T l e hl=>(mk_in hx).symm⟩⟩
 ·exact cm_tr (h.cs x hx) hXX (Ev.of_below hb) fun b e=>hb.block b (h.bl x hx b e).1
 ·exact m_st (Ev.of_below hb) (m_anti hXX (h.sl t x hx))
 ·obtain ⟨x,hx,e⟩:=mk_blk hc
  have hl:=h.bl x hx b e
  refine ⟨Nat.lt_of_lt_of_le hl.1 hb.size,fun h1=>?_⟩
  rcases hX b h1 with h'|h'
  ·rcases hl.2 with h3|h3
   ·exact absurd (hX0 b h') (by omega)
   ·exact (h.pn.bo b h3).2 h'
  ·omega
 ·rw [mk_len]; exact Nat.le_of_eq h.nx
theorem Kept.mkb (h:Fr w0 X0 [] N st ρ a w) (hb:Below w.heap.size w w1) (h2:Kept (mkB ρ st.ck) w1 w2):Kept [] w0 w2:=by
 have h1:=h.kp.below hb
 refine ⟨h2.os.trans h1.os,h2.tape.trans h1.tape,h2.output.trans h1.output,Nat.le_trans h1.size h2.size,fun k hk hn=>?_⟩
 rw [h2.block k (Nat.lt_of_lt_of_le hk h1.size) fun hc=>?_]
 ·exact h1.block k hk hn
 ·obtain ⟨x,hx,e⟩:=mk_blk hc
  rcases (h.bl x hx k e).2 with h3|h3
  ·omega
  ·exact inB_nil h3
theorem Kept.trans0 (h:Kept [] w0 w) (h2:Kept [] w w2):Kept [] w0 w2 :=
 ⟨h2.os.trans h.os,h2.tape.trans h.tape,h2.output.trans h.output,Nat.le_trans h.size h2.size,fun k hk hn=>(h2.block k (Nat.lt_of_lt_of_le hk h.size) hn).trans (h.block k hk hn)⟩
theorem Fr.low (h:Fr w X1 [] N st ρ a w') (hk:Kept [] w0 w) (hX:∀ b,X0 b->X1 b):Fr w0 X0 [] N st ρ a w':=by
 have h:=h.x0 hX
 exact ⟨h.dn,h.sz,hk.trans0 h.kp,h.nx,h.nd,h.kn,fun x hx b hb=>⟨(h.bl x hx b hb).1,(h.bl x hx b hb).2.imp (Nat.le_trans hk.size) id⟩,h.dj,h.cs,h.sl,⟨fun b hb=>(inB_nil hb).elim,Nat.zero_le _,fun x hx T l e hl=>absurd hl (Nat.not_lt_zero _)⟩⟩
theorem fr_fresh {sl:List (Nat×AV)} (hd:a.defers=[]) (hs:a.tmps.size=N) (hsl:∀ t x,get? sl t=some x->m [] X1 w x [gt a t]):Fr w X1 [] N ⟨sl,[],0⟩ [] a w:=by
 have hXX:∀ b,XX X1 [] [] b->X1 b:=by
  rintro b (hb|⟨x,hx,_⟩)
  ·exact hb
  ·cases hx
 refine ⟨hd,hs,Kept.refl w,rfl,List.nodup_nil,(fun x hx=>by cases hx),(fun x hx=>by cases hx),(fun x hx=>by cases hx),(fun x hx=>by cases hx),fun t x hx=>m_anti (fun b hb=>.inl (hXX b hb)) (hsl t x hx),⟨fun b hb=>(inB_nil hb).elim,Nat.zero_le _,fun x hx=>by cases hx⟩⟩
theorem Fr.mlt (h:Fr w0 X0 Bo N st ρ a w) {b:Nat} (hb:inB (mkB ρ st.ck) b):b<w.heap.size:=by
 obtain ⟨x,hx,e⟩:=mk_blk hb
 exact (h.bl x hx b e).1
theorem run_h {S:Sx} (hnb:S.nb=Bo.length) (hE:S.E.Ok) (hX0:∀ b,X0 b->b<w0.heap.size) (hfin:∀ st ρ a w,finP S st->Fr w0 X0 Bo S.N st ρ a w->Q .ret a w/\Q .normal a w) {k:List It} {st:St}
    (h:∀ H,HOk S H->(∀ k st,(okK S.an S.N k=true->∀ ρ a w,Fr w0 X0 Bo S.N st ρ a w->sem S.E.P Q k .normal a w)->H k st)->H k st):okK S.an S.N k=true->∀ ρ a w,Fr w0 X0 Bo S.N st ρ a w->sem S.E.P Q k .normal a w :=
 h (Hs S.an S.E w0 X0 Bo S.N Q) (hs_ok hnb hE hX0 hfin) fun _ _ h=>h
theorem Fr.low2 (h:Fr w0 X0 [] N st ρ a w) (hb:Below w.heap.size w w1) {st2:St} {ρ2:List Value} {a2:Act} (h2:Fr w1 X1 (mkB ρ st.ck) N st2 ρ2 a2 w2) (hX:∀ b,X0 b->X1 b):Fr w0 X0 [] N st2 ρ2 a2 w2:=by
 have hk:=Kept.mkb h hb h2.kp
 have h3:=h2.x0 hX
 refine ⟨h3.dn,h3.sz,hk,h3.nx,h3.nd,h3.kn,fun x hx b hc=>⟨(h3.bl x hx b hc).1,.inl ?_⟩,h3.dj,h3.cs,h3.sl,⟨fun b hb=>(inB_nil hb).elim,Nat.zero_le _,fun x hx T l e hl=>absurd hl (Nat.not_lt_zero _)⟩⟩
 rcases (h3.bl x hx b hc).2 with h4|h4
 ·exact Nat.le_trans (h.kp.below hb).size h4
 ·obtain ⟨y,hy,e⟩:=mk_blk h4
  rcases (h.bl y hy b e).2 with h5|h5
  ·exact h5
  ·exact (inB_nil h5).elim
theorem dat_x {ck:List (Nat×CT)} {t:Ty} {d:t.den} {vs:List Value} (h:m ρ (XX X1 ρ ck) w (.dat t d) vs):m [] X1 w (.dat t d) vs :=
 let ⟨cs,h1,h2⟩:=h; ⟨cs,rep_anti h1 fun b hb=>.inl (.inl hb),h2⟩
theorem Kept.turn {b:Nat} (h:Kept [] w0 w) (ht:w.mapTurned w' b) (hb:w0.heap.size<=b):Kept [] w0 w':=by
 have g:=ht.grown
 obtain ⟨es,clock,es',clock',_,rfl⟩:=ht
 refine ⟨h.os,h.tape,h.output,Nat.le_trans h.size g.size,fun k hk hn=>?_⟩
 rw [g.block k (Nat.lt_of_lt_of_le hk h.size) (fun e=>by cases e; omega)]
 exact h.block k hk hn
theorem Ev.turn {b:Nat} (ht:w.mapTurned w' b) (hb:X1 b):Ev X1 w w' :=
 ⟨ht.grown.size,fun k hk hn=>ht.grown.block k hk (fun e=>by cases e; exact hn hb)⟩
theorem wpList_mk {ops:Array Oper} {o:Oper} {rest:List Oper} {t:TypeId} (hg:o.guard=none) (ho:o.op=.makeMap t none) (h:wpList P ops Q rest (a.put o.dst (.map (some w.heap.size))) (w.alloc (.map #[] 0))):wpList P ops Q (o::rest) a w:=by
 refine wpList_plain hg fun K hK=>?_
 unfold Oper.wp
 simp [execOp,ho,run_makeMap,Result.andThen]
 exact hK _ _ h
end
abbrev Un:=Unit
def nmD (l:List Str):DataW Un:=Maps.setOf (.lit (.bool true)) (l.map Lit.string)
theorem nmD_snoc (l:List Str) (x:Str):nmD (l++[x])=(nmD l).put (.string x) (.lit (.bool true)):=by
 unfold nmD
 rw [List.map_append]
 exact Maps.setOf_snoc _ _ _
theorem atKey_fold (u:DataW Un) (x:Str) (z:DataW Un):∀ (l:List Str) (D:DataW Un),Maps.IsMap D->((l.map Lit.string).foldl (fun m x=>m.put x u) D).atKey (.string x) z=if x∈l then u else D.atKey (.string x) z
 | [],D,_=>by simp
 | y::l,D,hD=>by
  rw [List.map_cons,List.foldl_cons,atKey_fold u x z l _ (hD.put _ _)]
  by_cases h:x∈l
  ·rw [if_pos h,if_pos (List.mem_cons_of_mem _ h)]
  ·rw [if_neg h]
   by_cases e:x=y
   ·subst e
    rw [if_pos (List.mem_cons_self ..),Maps.atKey_put_same hD (by simp [WideAt.IsKeyLit])]
   ·rw [if_neg (by rw [List.mem_cons]; rintro (h'|h'); exact e h'; exact h h'),Maps.atKey_put_other (fun h=>e (by cases h; rfl))]
theorem nmD_at (l:List Str) (x:Str):(nmD l).atKey (.string x) (.lit (.bool false))=.lit (.bool (decide (x∈l))):=by
 unfold nmD Maps.setOf
 rw [atKey_fold _ _ _ _ _ Maps.isMap_empty]
 by_cases h:x∈l
 ·rw [if_pos h,decide_eq_true h]
 ·rw [if_neg h,decide_eq_false h]
  rfl
theorem plainElem_bool_inv {P:Program} {e:TypeId} (he:P.underlying e=some .bool) {v:Value} {b:Bool} {ps:List MemPlace} (h:plainElem (H:=Un) P e v=some (.lit (.bool b),ps)):v=.bool b:=by
 unfold plainElem at h
 rw [he] at h
 cases v<;>simp at h
 rw [h.1]
theorem own_eq {P:Program} {k e:TypeId} {w w':World} {b n:Nat} {D:DataW Un} (h:w.ownsMap P k (plainElem P e) b n D) (he:w'.heap[b]?=w.heap[b]?):w'.ownsMap P k (plainElem P e) b n D:=by
 obtain ⟨es,clock,h1,h2⟩:=h
 exact ⟨es,clock,by rw [he]; exact h1,h2⟩
theorem wpList_lookup_bool {P:Program} {w:World} {ops:Array Oper} {rest:List Oper} {o:Oper} {a:Act} {Q:Exit->Act->World->Prop} (hg:o.guard=none) {m x:Operand} {t:TypeId} (hop:o.op=Op.lookup t m x false)
    {k e:TypeId} (K:Maps.Keyed P k) (ht:P.underlying t=some (.map k e)) (he:P.underlying e=some .bool) (hz:(zeroValue e).run P w=.ok (.bool false) w) {b n:Nat} {D:DataW Un} (hm:a.eval m=.map (some b)) (hown:w.ownsMap P k (plainElem P e) b n D)
    {key:Value} {kl:Lit} (hx:a.eval x=key) (hkey:keyOf P k key=some kl) {B:Bool} (hB:D.atKey kl (.lit (.bool false))=.lit (.bool B)) (hK:wpList P ops Q rest (a.put o.dst (.bool B)) w):wpList P ops Q (o::rest) a w:=by
 refine wpList_plain hg fun K' hK'=>?_
 obtain ⟨v,ps,hrun,hv⟩:=hown.lookup K ht hz (plainElem_bool he false) hkey
 rw [hB] at hv
 have hv:=plainElem_bool_inv he hv
 subst hv
 unfold Oper.wp
 simp [execOp,hop,hm,hx,hrun,Result.andThen]
 exact hK' _ _ hK
theorem wpList_update_bool {P:Program} {w:World} {ops:Array Oper} {rest:List Oper} {o:Oper} {a:Act} {Q:Exit->Act->World->Prop} (hg:o.guard=none) {m x v:Operand} {t:TypeId} (hop:o.op=Op.mapUpdate t m x v)
    {k e:TypeId} (K:Maps.Keyed P k) (ht:P.underlying t=some (.map k e)) (he:P.underlying e=some .bool) {b n:Nat} {D:DataW Un} (hm:a.eval m=.map (some b)) (hown:w.ownsMap P k (plainElem P e) b n D) (hn:n<maxLen)
    {key:Value} {kl:Lit} (hx:a.eval x=key) (hkey:keyOf P k key=some kl) {B:Bool} (hv:a.eval v=.bool B) (hK:∀ w',w'.ownsMap P k (plainElem P e) b (n+1) (D.put kl (.lit (.bool B)))->w.mapTurned w' b->wpList P ops Q rest (a.put o.dst undef) w'):wpList P ops Q (o::rest) a w:=by
 refine wpList_plain hg fun K' hK'=>?_
 obtain ⟨w',hrun,r1,r2⟩:=hown.store K ht hn hkey (plainElem_bool he B)
 unfold Oper.wp
 simp [execOp,hop,hm,hx,hv,hrun,Result.andThen]
 exact hK' _ _ (hK w' r1 r2)
def sjB (l:List Atom):Bool:=decide (l.map fun a=>a.1).Nodup
@[go_sem] def sjfS:Spec:=⟨[cqT],fun d=>(.dat .bool (sjB d.1.1),[cqP d.1])⟩
theorem sjf_ok:SpecOk Tryz.prog 14 sjfS:=by
 refine fn_ok EH5_ok sjfS Tryz.func14 rfl (by decide) (N:=22) rfl (res:=[.tmp 2]) rfl (by decide) [] [] [1] 100 (by kernel_rfl) ?_
 rintro ⟨c,_⟩ hw hp
 refine ⟨rfl,fun H hH=>?_⟩
 dsimp only [go_sem] at hw hp ⊢
 obtain ⟨hp,-⟩:=hp
 obtain ⟨l,cs⟩:=c
 change List Atom at l
 obtain ⟨hp1,hp2,hp3⟩:=hp
 change List.length l<=1000 at hp1
 clear hw
 refine hH.raw fun w0 X0 Bo Q hnb hE hX0 hfin ρ a w hf=>?_
 have hBo:Bo=[]:=List.length_eq_zero_iff.1 hnb.symm
 subst hBo
 have hmb:=hf.kp.size
 refine wp_region_list ?_
 refine wpList_mk rfl rfl ?_
 have hbl:Below w.heap.size w (w.alloc (.map #[] 0)):=(Below.refl _ _).alloc (Nat.le_refl _) _
 have hown1:=World.ownsMap_made (H:=Un) w Tryz.prog 9 (plainElem Tryz.prog 4)
 generalize hmbd:w.heap.size=mb at hmb hown1 ⊢
 have hX1:∀ b,(X0 b∨b=mb)->X0 b∨w.heap.size<=b:=fun b hb=>hb.imp id fun e=>by omega
 have hf1:=hf.base (X1:=fun b=>X0 b∨b=mb) hX0 hbl hX1
 have hsz1:mb<(w.alloc (.map #[] 0)).heap.size:=hown1.lt
 have hX1b:∀ w2:World,w0.heap.size<=w2.heap.size->mb<w2.heap.size->∀ b,(X0 b∨b=mb)->b<w2.heap.size:=fun w2 h1 h2 b hb=>by
  rcases hb with hb|hb
  ·exact Nat.lt_of_lt_of_le (hX0 b hb) h1
  ·omega
 have hXw1:=hX1b _ (hf.kp.below hbl).size hsz1
 have hf2:=hf1.pure hXw1 (Below.refl _ _) (d:=some 6) (r:=.val (.map (some mb))) (v:=.map (some mb)) (by intro t e; cases e; show 6<22; decide) rfl
 refine pre_ok (ann:=[]) (ds:=dsts [_,_]) (l:=[_]) (r:=[]) EH5_ok hXw1 (fun g=>dsts_ok _ g) hf2 (ps0:=[]) rfl trivial (List.all_eq_true.1 (by rfl)) fun ρ3 a3 w3 hf3=>?_
 refine run_h (S:=⟨EH5,22,[],[],[1,5,7],[.tmp 2],.dat .bool (sjB l),(mkB ρ _).length,none⟩) rfl EH5_ok hXw1 (fun st ρ' a' w' h1 h2=>hfin st ρ' a' w' h1 (hf.low2 hbl h2 (fun b hb=>.inl hb))) (fun H hH hraw=>?_) (by kernel_rfl) ρ3 a3 w3 hf3
 refine hH.run 100 _ _ ?_
 dsimp only [go_sem]
 refine hraw _ _ ?_
 intro hok4 ρ4 a4 w4 hf4
 have hk4:Kept [] w0 w4:=Kept.mkb hf hbl hf4.kp
 have hown4:w4.ownsMap Tryz.prog 9 (plainElem Tryz.prog 4) mb 0 (nmD []):=own_eq hown1 (hf4.kp.block mb hsz1 fun h=>by have:=hf.mlt h; omega)
 have hle4:w0.heap.size<=w4.heap.size:=hk4.size
 have hst:∀ (i:Nat) {ρ:List Value} {ck:List (Nat×CT)} {a:Act} {w:World},m ρ (XX (fun b=>X0 b∨b=mb) ρ ck) w (.dat (.int .i64) (i:Int)) [gt a 10]->m ρ (XX (fun b=>X0 b∨b=mb) ρ ck) w (.dat (.int .i64) (l.length:Int)) [gt a 9]->m ρ (XX (fun b=>X0 b∨b=mb) ρ ck) w (.dat (.slice atomT) l) [gt a 8]->m ρ (XX (fun b=>X0 b∨b=mb) ρ ck) w (.val (.map (some mb))) [gt a 3] ->
     ∀ t x,get? [(10,.dat (.int .i64) (i:Int)),(9,.dat (.int .i64) (l.length:Int)),(8,.dat (.slice atomT) l),(3,.val (.map (some mb)))] t=some x->m [] (fun b=>X0 b∨b=mb) w x [gt a t]:=by
  intro i ρ ck a w h1 h2 h3 h4 t x hx
  have hx:=get?_mem hx
  simp only [List.mem_cons,Prod.mk.injEq,List.not_mem_nil,or_false] at hx
  rcases hx with ⟨rfl,rfl⟩|⟨rfl,rfl⟩|⟨rfl,rfl⟩|⟨rfl,rfl⟩
  ·exact dat_x h1
  ·exact dat_x h2
  ·exact dat_x h3
  ·exact h4
 refine floop (fun (k:Nat) a w=>k<=l.length/\((l.take k).map fun a=>a.1).Nodup/\Fr w (fun b=>X0 b∨b=mb) [] 22 ⟨[(10,.dat (.int .i64) (k:Int)),(9,.dat (.int .i64) (l.length:Int)),(8,.dat (.slice atomT) l),(3,.val (.map (some mb)))],[],0⟩ [] a w/\Kept [] w0 w/\w.ownsMap Tryz.prog 9 (plainElem Tryz.prog 4) mb k (nmD ((l.take k).map fun a=>a.1))) (fun k=>l.length-k) 0
  ⟨Nat.zero_le _,List.nodup_nil,fr_fresh hf4.dn hf4.sz (hst 0 (hf4.sl 10 _ rfl) (hf4.sl 9 _ rfl) (hf4.sl 8 _ rfl) (hf4.sl 3 _ rfl)),hk4,hown4⟩ ?_
 rintro k a5 w5 ⟨hk,hnd,hf5,hk5,hown5⟩
 rw [<-sem_mark]
 have hX5:=hX1b w5 hk5.size hown5.lt
 refine run_h (S:=⟨EH5,22,[],[],[1,5,7],[.tmp 2],.dat .bool (sjB l),0,none⟩) (k:=.code _::.mark _::_) rfl EH5_ok hX5 (fun st ρ' a' w' h1 h2=>hfin st ρ' a' w' h1 (h2.low hk5 (fun b hb=>.inl hb))) (fun H hH hraw=>?_) (by kernel_rfl) [] a5 w5 hf5
 refine hH.run 100 _ _ ?_
 dsimp only [go_sem]
 rw [Int.toNat_natCast]
 have hzn:∀ i,l.getD i (zd atomT)=l.getD i ([],false,[]):=fun _=>rfl
 refine ⟨fun d=>?_,fun d=>?_⟩<;>simp only [decide_eq_true_eq,decide_eq_false_iff_not] at d
 ·have d:k<l.length:=by omega
  have hsn:(l.take (k+1)).map (fun a=>a.1)=(l.take k).map (fun a=>a.1)++[(l.getD k (zd atomT)).1]:=by rw [take_snoc (zd atomT) d,List.map_append]; rfl
  have hfull:l.map (fun a=>a.1)=(l.take (k+1)).map (fun a=>a.1)++(l.drop (k+1)).map (fun a=>a.1):=by rw [<-List.map_append,List.take_append_drop]
  refine ⟨⟨Int.natCast_nonneg _,Int.ofNat_lt.2 d⟩,hraw _ _ ?_⟩
  intro hok6 ρ6 a6 w6 hf6
  refine region_pre (pre:=[_,_,_]) (post:=[_]) (ann:=[]) EH5_ok hX5 rfl hf6 rfl trivial (by rfl) fun ρ7 a7 w7 hf7=>?_
  generalize (l.getD k (zd atomT))=A at hsn hf7 ⊢
  change Atom at A
  generalize hNm:(l.take k).map (fun a=>a.1)=Nm at hnd hown5 hsn
  have hown7:w7.ownsMap Tryz.prog 9 (plainElem Tryz.prog 4) mb k (nmD Nm):=own_eq hown5 (hf7.kp.block mb hown5.lt fun h=>inB_nil h)
  have em:=(List.cons.inj (lk_ok hf7.sl (x:=.tmp 14) rfl rfl)).1
  obtain ⟨csx,⟨ex1,ex2⟩,ex⟩:=lk_ok hf7.sl (x:=.tmp 16) rfl rfl
  have ex:=(List.cons.inj ex).1
  rw [ex1] at ex
  have hst9:Tryz.prog.underlying 9=some .string:=by kernel_rfl
  have hst4:Tryz.prog.underlying 4=some .bool:=by kernel_rfl
  have hst67:Tryz.prog.underlying 75=some (.map 9 4):=by kernel_rfl
  have hkey:keyOf Tryz.prog 9 (.string ⟨A.1.toArray⟩)=some (.string A.1):=by
   have:=WideMaps.keyOf_string_mk (P:=Tryz.prog) hst9 (s:=⟨A.1.toArray⟩) ex2
   simpa using this
  refine wpList_lookup_bool rfl rfl (Maps.string_keyed hst9) hst67 hst4 (by kernel_rfl) em hown7 ex hkey (nmD_at Nm A.1) ?_
  have hf8:=hf7.pure hX5 (Below.refl _ _) (d:=some 17) (r:=.dat .bool (decide (A.1∈Nm))) (v:=.bool (decide (A.1∈Nm))) (by intro t e; cases e; show 17<22; decide) m_bool_of
  refine wpList_nil ?_
  refine run_h (S:=⟨EH5,22,[],[],[1,5,7],[.tmp 2],.dat .bool (sjB l),0,none⟩) rfl EH5_ok hX5 (fun st ρ' a' w' h1 h2=>hfin st ρ' a' w' h1 (h2.low hk5 (fun b hb=>.inl hb))) (fun H hH hraw=>?_) (by kernel_rfl) _ _ _ hf8
  refine hH.run 100 _ _ ?_
  dsimp only [go_sem]
  refine ⟨fun e=>?_,fun e=>hraw _ _ ?_⟩
  ·have e:=of_decide_eq_true e
   refine ⟨?_,trivial⟩
   unfold sjB
   rw [decide_eq_false]
   intro h
   rw [hfull,hsn,List.append_assoc,List.nodup_append] at h
   exact h.2.2 _ e _ (List.mem_cons_self ..) rfl
  ·intro hok9 ρ9 a9 w9 hf9
   have e:=of_decide_eq_false e
   refine region_pre (pre:=[_,_,_]) (post:=[_]) (ann:=[]) EH5_ok hX5 rfl hf9 rfl trivial (by rfl) fun ρ10 a10 w10 hf10=>?_
   have hown10:w10.ownsMap Tryz.prog 9 (plainElem Tryz.prog 4) mb k (nmD Nm):=own_eq hown5 (hf10.kp.block mb hown5.lt fun h=>inB_nil h)
   have em:=(List.cons.inj (lk_ok hf10.sl (x:=.tmp 18) rfl rfl)).1
   obtain ⟨csx,⟨ex1,ex2⟩,ex⟩:=lk_ok hf10.sl (x:=.tmp 20) rfl rfl
   have ex:=(List.cons.inj ex).1
   rw [ex1] at ex
   refine wpList_update_bool rfl rfl (Maps.string_keyed hst9) hst67 hst4 em hown10 (by unfold maxLen; omega) ex hkey (B:=true) rfl fun w11 hown11 hturn=>?_
   refine wpList_nil ?_
   have hk10:Kept [] w0 w10:=hk5.trans0 hf10.kp
   have hk11:=hk10.turn hturn (by omega)
   have hX11:=hX1b w11 hk11.size hown11.lt
   have hev:=Ev.turn (X1:=fun b=>X0 b∨b=mb) hturn (.inr rfl)
   have hsl:=fun t x (h:get? [(10,.dat (.int .i64) (k:Int)),(9,.dat (.int .i64) (l.length:Int)),(8,.dat (.slice atomT) l),(3,.val (.map (some mb)))] t=some x)=>m_st hev (hst k (hf10.sl 10 _ rfl) (hf10.sl 9 _ rfl) (hf10.sl 8 _ rfl) (hf10.sl 3 _ rfl) t x h)
   have hf11:Fr w11 (fun b=>X0 b∨b=mb) [] 22 ⟨[(10,.dat (.int .i64) (k:Int)),(9,.dat (.int .i64) (l.length:Int)),(8,.dat (.slice atomT) l),(3,.val (.map (some mb)))],[],0⟩ [] a10 w11:=fr_fresh hf10.dn hf10.sz hsl
   refine run_h (S:=⟨EH5,22,[],[],[1,5,7],[.tmp 2],.dat .bool (sjB l),0,none⟩) rfl EH5_ok hX11 (fun st ρ' a' w' h1 h2=>hfin st ρ' a' w' h1 (h2.low hk11 (fun b hb=>.inl hb))) (fun H hH hraw=>?_) (by kernel_rfl) _ _ _ hf11
   refine hH.run 100 _ _ ?_
   dsimp only [go_sem]
   refine ⟨by rw [inR_i64]; omega,hraw _ _ ?_⟩
   intro hok12 ρ12 a12 w12 hf12
   refine ⟨k+1,⟨by omega,?_,fr_fresh hf12.dn hf12.sz ?_,hk11.trans0 hf12.kp,?_⟩,by omega⟩
   ·rw [hsn,List.nodup_append]
    exact ⟨hnd,by simp,fun a ha b hb h=>e (by rw [List.mem_singleton] at hb; rw [<-hb,<-h]; exact ha)⟩
   ·refine hst (k+1) ?_ (hf12.sl 9 _ rfl) (hf12.sl 8 _ rfl) (hf12.sl 3 _ rfl)
    exact hf12.sl 10 _ rfl
   ·rw [hsn,nmD_snoc]
    exact own_eq hown11 (hf12.kp.block mb hown11.lt fun h=>inB_nil h)
 ·have d:k=l.length:=by omega
  subst d
  rw [List.take_length] at hnd
  refine ⟨?_,trivial⟩
  unfold sjB
  rw [decide_eq_true hnd]
end Go.Proofs.YtdobkkhncfifeaaGreat.Gx
namespace Go.Proofs.YtdobkkhncfifeaaGreat.Gx
open Go Go.RowKit Tw B Nt
set_option linter.unusedVariables false
set_option linter.unusedSimpArgs false
set_option maxHeartbeats 4000000
set_option maxRecDepth 20000
@[reducible,go_sem] def tokT:Ty:=.pair (.int .i64) .str
abbrev Tok:=Int×Str
theorem imp2 {p q:Prop}:(p->q->p/\q)=True:=eq_true fun a b=>⟨a,b⟩
def letr (c:Int):Bool:=(decide (97<=c)&&decide (c<=122))||(decide (65<=c)&&decide (c<=90))
def digr (c:Int):Bool:=decide (48<=c)&&decide (c<=57)
@[go_sem] def letS:Spec:=⟨[.int .u8],fun d=>(.dat .bool (letr d.1),[])⟩
theorem let_ok:SpecOk Tryz.prog 72 letS:=by
 refine fn_ok EH15_ok letS Tryz.func72 rfl (by decide) (N:=17) rfl (res:=[.tmp 2]) rfl (by decide) [] [] [] 100 (by kernel_rfl) ?_
 rintro ⟨(c:Int),_⟩ hw hp
 refine ⟨rfl,fun H hH=>?_⟩
 dsimp only [go_sem] at hw hp ⊢
 and_intros<;>first|exact id|exact fun h h'=>⟨h,h'⟩|rfl|trivial
@[go_sem] def digS:Spec:=⟨[.int .u8],fun d=>(.dat .bool (digr d.1),[])⟩
theorem dig_ok:SpecOk Tryz.prog 73 digS:=by
 refine fn_ok EH15_ok digS Tryz.func73 rfl (by decide) (N:=9) rfl (res:=[.tmp 2]) rfl (by decide) [] [] [] 100 (by kernel_rfl) ?_
 rintro ⟨(c:Int),_⟩ hw hp
 refine ⟨rfl,fun H hH=>?_⟩
 dsimp only [go_sem] at hw hp ⊢
 and_intros<;>first|exact id|exact fun h h'=>⟨h,h'⟩|rfl|trivial
@[go_sem] noncomputable def EI1:Env:=((EH15).add 72 letS).add 73 digS
theorem EI1_ok:EI1.Ok:=((EH15_ok).add let_ok).add dig_ok
def chr (s:Str) (k:Nat):Int:=((s.getD k 0).toNat:Int)
theorem chr_at (s:Str) (k:Nat):strAt s (k:Int)=chr s k:=by unfold strAt chr; rw [Int.toNat_natCast]
def skip (p:Int->Bool) (s:Str):Nat->Nat->Nat
 | 0,k=>k
 | n+1,k=>if decide (k<s.length)&&p (chr s k) then skip p s n (k+1) else k
theorem skip_le (p:Int->Bool) (s:Str):∀ n k,k<=s.length->k<=skip p s n k/\skip p s n k<=s.length
 | 0,k,h=>⟨Nat.le_refl _,h⟩
 | n+1,k,h=>by
  unfold skip
  split
  ·rename_i e
   simp only [Bool.and_eq_true,decide_eq_true_eq] at e
   obtain ⟨a,b⟩:=skip_le p s n (k+1) e.1
   exact ⟨by omega,b⟩
  ·exact ⟨Nat.le_refl _,h⟩
def runP (s:Str) (k:Nat):Nat:=skip digr s (s.length-k) k
@[go_sem] def rnnS:Spec:=⟨[.str,.int .i64],fun d=>(.dat (.int .i64) (runP d.1 (Int.toNat d.2.1):Int),[0<=d.2.1/\d.2.1<=(List.length d.1:Int)])⟩
theorem rnn_ok:SpecOk Tryz.prog 82 rnnS:=by
 refine fn_ok EI1_ok rnnS Tryz.func82 rfl (by decide) (N:=18) rfl (res:=[.tmp 4]) rfl (by decide) [] [] [] 100 (by kernel_rfl) ?_
 rintro ⟨s,(k0:Int),_⟩ hw hp
 refine ⟨rfl,fun H hH=>?_⟩
 dsimp only [go_sem] at hw hp ⊢
 obtain ⟨⟨hp1,hp2⟩,-⟩:=hp
 obtain ⟨hw1,-⟩:=hw
 change Str at s
 have hw1:s.length<=9223372036854775807:=hw1
 obtain ⟨a,rfl⟩:=Int.eq_ofNat_of_zero_le hp1
 have hp2:(a:Int)<=(s.length:Int):=hp2
 refine hH.loop (fun k:Nat=>⟨[(0,.dat .str s),(1,.dat (.int .i64) (k:Int))],[],0⟩) (fun k=>k<=s.length/\skip digr s (s.length-k) k=runP s a) (fun k=>s.length-k) a 0 ⟨by omega,rfl⟩ ?_ ?_
 ·dsimp only [go_sem]
  and_intros<;>first|trivial|rfl|omega
 ·rintro k ⟨hk,hr⟩ R hm
  refine hH.run 100 _ _ ?_
  dsimp only [go_sem]
  simp only [chr_at]
  have e:decide ((k:Int)<(s.length:Int))=decide (k<s.length):=by simp
  rw [e]
  simp only [imp_self,imp2,true_and]
  refine ⟨fun h=>?_,fun h=>?_,fun h=>?_⟩
  ·have h:=of_decide_eq_true h
   have:(0:Int)<=(k:Int)/\(k:Int)<(s.length:Int):=by omega
   exact this
  ·have h':=h
   simp only [Bool.and_eq_true,decide_eq_true_eq] at h'
   obtain ⟨q,hq⟩:∃ q,s.length-k=q+1:=⟨s.length-k-1,by omega⟩
   rw [hq,skip,if_pos h] at hr
   refine ⟨by rw [inR_i64]; omega,hm _ (k+1) 0 ⟨h'.1,by rw [show s.length-(k+1)=q by omega]; exact hr⟩ (by omega) ?_⟩
   dsimp only [go_sem]
   and_intros<;>first|trivial|rfl|omega
  ·have hr2:k=runP s a:=by
     rw [<-hr]
     cases hq:s.length-k with
     | zero=>rfl
     | succ q=>rw [skip,if_neg (by rw [h]; decide)]
   simp only [Int.toNat_natCast]
   rw [<-hr2]
   and_intros<;>first|trivial|rfl
@[go_sem] noncomputable def EI2:Env:=(EI1).add 82 rnnS
theorem EI2_ok:EI2.Ok:=(EI1_ok).add rnn_ok
def nmT (s:Str) (k b:Nat):Nat :=
 if runP s b=b then k
 else if (decide (runP s b<s.length)&&(decide (chr s (runP s b)=47)||decide (chr s (runP s b)=46)))=true then
  if runP s b+1<runP s (runP s b+1) then runP s (runP s b+1) else runP s b
 else runP s b
def nmE (s:Str) (k:Nat):Nat:=nmT s k (if chr s k=45 then k+1 else k)
theorem runP_le (s:Str) (k:Nat) (h:k<=s.length):k<=runP s k/\runP s k<=s.length:=skip_le _ _ _ _ h
theorem nmE_le (s:Str) (k:Nat) (h:k<s.length):k<=nmE s k/\nmE s k<=s.length:=by
 unfold nmE nmT
 have ha:k<=(if chr s k=45 then k+1 else k)/\(if chr s k=45 then k+1 else k)<=s.length:=by split<;>omega
 generalize (if chr s k=45 then k+1 else k)=a at ha ⊢
 obtain ⟨r1,r2⟩:=runP_le s a ha.2
 have q:=fun h=>runP_le s (runP s a+1) h
 generalize runP s a=e at r1 r2 q ⊢
 split
 ·omega
 ·split
  ·rename_i h2
   simp only [Bool.and_eq_true,decide_eq_true_eq] at h2
   have q:=q (by omega)
   split<;>omega
  ·omega
theorem nm_key {s:Str} (hw1:s.length<=9223372036854775807) (k b:Nat) (hb2:b<=s.length) :
    (decide ((runP s b:Int)=(b:Int))=true->(k:Int)=(nmT s k b:Int)) /\
    (decide ((runP s b:Int)=(b:Int))=false ->
     (decide ((runP s b:Int)<(s.length:Int))=true->(0:Int)<=(runP s b:Int)/\(runP s b:Int)<(s.length:Int)) /\
     (decide ((runP s b:Int)<(s.length:Int))=true/\decide (chr s (runP s b)=47)=false->(0:Int)<=(runP s b:Int)/\(runP s b:Int)<(s.length:Int)) /\
     ((decide ((runP s b:Int)<(s.length:Int))&&(decide (chr s (runP s b)=47)||decide (chr s (runP s b)=46)))=true ->
      inR .i64 ((runP s b:Int)+1)/\((0:Int)<=(runP s b:Int)+1/\(runP s b:Int)+1<=(s.length:Int))/\inR .i64 ((runP s b:Int)+1) /\
      (decide ((runP s b:Int)+1<(runP s ((runP s b:Int)+1).toNat:Int))=true->(runP s ((runP s b:Int)+1).toNat:Int)=(nmT s k b:Int)) /\
      (decide ((runP s b:Int)+1<(runP s ((runP s b:Int)+1).toNat:Int))=false->(runP s b:Int)=(nmT s k b:Int))) /\
     ((decide ((runP s b:Int)<(s.length:Int))&&(decide (chr s (runP s b)=47)||decide (chr s (runP s b)=46)))=false->(runP s b:Int)=(nmT s k b:Int))):=by
 have r:=runP_le s b hb2
 obtain ⟨r1,r2⟩:=r
 have q:=fun h=>runP_le s (runP s b+1) h
 unfold nmT
 have hx:∀ x:Int,x=x+0:=fun x=>(Int.add_zero x).symm
 generalize runP s b=e at r1 r2 q ⊢
 have hce:((e:Int)+1)=((e+1:Nat):Int):=rfl
 simp only [hce,Int.toNat_natCast]
 have d1:decide ((e:Int)=(b:Int))=decide (e=b):=decide_eq_decide.2 (by omega)
 have d2:decide ((e:Int)<(s.length:Int))=decide (e<s.length):=decide_eq_decide.2 (by omega)
 have d3:decide (((e+1:Nat):Int)<((runP s (e+1):Nat):Int))=decide (e+1<runP s (e+1)):=decide_eq_decide.2 (by omega)
 simp only [d1,d2,d3,decide_eq_true_eq,decide_eq_false_iff_not]
 have hbe:e<s.length->(0:Int)<=(e:Int)/\(e:Int)<(s.length:Int):=fun h=>by omega
 refine ⟨fun h=>by rw [if_pos h],fun h=>⟨fun h=>hbe h,fun h=>hbe h.1,fun h2=>?_,fun h2=>?_⟩⟩
 ·have h3:e<s.length:=by simp only [Bool.and_eq_true,decide_eq_true_eq] at h2; exact h2.1
  rw [if_neg h,if_pos h2]
  have b1:inR .i64 ((e+1:Nat):Int):=by rw [inR_i64]; omega
  have b2:(0:Int)<=((e+1:Nat):Int)/\((e+1:Nat):Int)<=(s.length:Int):=by omega
  exact ⟨b1,b2,b1,fun m=>by rw [if_pos m],fun m=>by rw [if_neg m]⟩
 ·rw [if_neg h,if_neg (by rw [h2]; decide)]
@[go_sem] def nmES:Spec:=⟨[.str,.int .i64],fun d=>(.dat (.int .i64) (nmE d.1 (Int.toNat d.2.1):Int),[0<=d.2.1/\d.2.1<(List.length d.1:Int)])⟩
theorem nmE_ok:SpecOk Tryz.prog 74 nmES:=by
 refine fn_ok EI2_ok nmES Tryz.func74 rfl (by decide) (N:=48) rfl (res:=[.tmp 4]) rfl (by decide) [] [] [] 100 (by kernel_rfl) ?_
 rintro ⟨s,(k0:Int),_⟩ hw hp
 refine ⟨rfl,fun H hH=>?_⟩
 dsimp only [go_sem] at hw hp ⊢
 obtain ⟨⟨hp1,hp2⟩,-⟩:=hp
 obtain ⟨hw1,-⟩:=hw
 change Str at s
 have hw1:s.length<=9223372036854775807:=hw1
 obtain ⟨a,rfl⟩:=Int.eq_ofNat_of_zero_le hp1
 have hp2:(a:Int)<(s.length:Int):=hp2
 have hca:((a:Int)+1)=((a+1:Nat):Int):=rfl
 simp only [imp_self,imp2,true_and,and_true,chr_at,hca,Int.toNat_natCast]
 unfold nmE
 have hb0:(0:Int)<=(a:Int)/\(a:Int)<(s.length:Int):=by omega
 refine ⟨hb0,fun h=>?_,fun h=>?_⟩
 ·rw [if_pos (of_decide_eq_true h)]
  have hb1:inR .i64 ((a+1:Nat):Int):=by rw [inR_i64]; omega
  have hb3:(0:Int)<=((a+1:Nat):Int)/\((a+1:Nat):Int)<=(s.length:Int):=by omega
  refine ⟨hb1,hb3,?_⟩
  exact nm_key hw1 a (a+1) (by omega)
 ·rw [if_neg (of_decide_eq_false h)]
  exact ⟨⟨hb0.1,Int.le_of_lt hb0.2⟩,nm_key hw1 a a (by omega)⟩
theorem both1 {α:Type} {G:Prop} {H:List It->St->Prop} {k:List It} {inv:α->St} {Q:α->Prop} (h1:(∀ x,Q x->H k (inv x))->G) (h2:∀ x,Q x->H k (inv x)):G:=h1 h2
def wch (c:Int):Bool:=(letr c||digr c)||decide (c=95)
def symb (c:Int):Bool:=(((decide (c=40)||decide (c=41))||decide (c=44))||decide (c=58))||decide (c=61)
def lexT (s:Str) (k:Nat):Int×Nat :=
 if letr (chr s k)=true then (1,skip wch s (s.length-k) k)
 else if (decide (chr s k=45)||digr (chr s k))=true then (2,nmE s k)
 else if chr s k=39 then (3,k)
 else if symb (chr s k)=true then (4,k+1)
 else if chr s k=60 then (4,if (decide (k+1<s.length)&&decide (chr s (k+1)=61))=true then k+2 else k+1)
 else if ((decide (chr s k=33)&&decide (k+1<s.length))&&decide (chr s (k+1)=61))=true then (4,k+2)
 else (0,k)
def lexF:Nat->Str->Nat->List Tok->List Tok×Bool
 | 0,_,_,acc=>(acc,true)
 | n+1,s,k,acc=>if k<s.length then
     if chr s k=32 then lexF n s (k+1) acc
     else if chr s k=35 then (acc,true)
     else if (lexT s k).2=k then ([],false)
     else lexF n s (lexT s k).2 (acc++[((lexT s k).1,(s.take (lexT s k).2).drop k)])
  else (acc,true)
def lexP (s:Str):List Tok×Bool:=lexF (s.length+1) s 0 []
@[go_sem] def seS:Spec:=⟨[.str,.int .i64],fun d=>(.dat (.int .i64) (0:Int),[False])⟩
theorem se_ok:SpecOk Tryz.prog 75 seS:=fun d hp=>hp.1.elim
@[go_sem] noncomputable def EI3:Env:=((EI2).add 74 nmES).add 75 seS
theorem EI3_ok:EI3.Ok:=((EI2_ok).add nmE_ok).add se_ok
def lexK (s:Str):Prop:=s.length<=20000/\∀ k,k<s.length->chr s k≠39
@[go_sem] def lexS:Spec:=⟨[.str],fun d=>(.tup (.cons (.dat (.slice tokT) (lexP d.1).1) (.cons (.dat .bool (lexP d.1).2) .nil)),[lexK d.1])⟩
theorem lex_ok:SpecOk Tryz.prog 58 lexS:=by
 refine fn_ok EI3_ok lexS Tryz.func58 rfl (by decide) (N:=140) rfl (res:=[.tmp 2,.tmp 3]) rfl (by decide) [(29,[(136,.dt)])] [(10,[0]),(31,[0])] [27] 200 (by kernel_rfl) ?_
 rintro ⟨s,_⟩ hw hp
 refine ⟨rfl,fun H hH=>?_⟩
 dsimp only [go_sem] at hw hp ⊢
 obtain ⟨⟨hp1,hp2⟩,-⟩:=hp
 change Str at s
 change s.length<=20000 at hp1
 change ∀ k,k<s.length->chr s k≠39 at hp2
 clear hw
 refine hH.loop (fun x:Nat×Nat×List Tok=>⟨[(0,.dat .str s),(5,.dat (.int .i64) (x.2.1:Int)),(4,.own 0)],[(0,.row 116 tokT x.2.2)],1⟩) (fun x=>x.2.1<=s.length/\s.length-x.2.1<x.1/\x.2.2.length<=x.2.1/\lexF x.1 s x.2.1 x.2.2=lexP s) (fun x=>s.length-x.2.1) (s.length+1,0,[]) 0 ⟨Nat.zero_le _,Nat.lt_succ_self _,Nat.le_refl _,rfl⟩ ?_ ?_
 ·dsimp only [go_sem]
  and_intros<;>first|trivial|rfl|omega
 ·rintro ⟨n,k,acc⟩ ⟨h1,h2,h3,h4⟩ R hm
  dsimp only at h1 h2 h3 h4
  obtain ⟨n,rfl⟩:∃ m,n=m+1:=⟨n-1,by omega⟩
  have hck:((k:Int)+1)=((k+1:Nat):Int):=rfl
  have e0:∀ a:Nat,decide ((a:Int)<(s.length:Int))=decide (a<s.length):=fun a=>decide_eq_decide.2 (by omega)
  have ek:∀ a:Nat,decide ((a:Int)=(k:Int))=decide (a=k):=fun a=>decide_eq_decide.2 (by omega)
  refine hH.run 200 _ _ ?_
  dsimp only [go_sem]
  simp only [imp_self,imp2,true_and,and_true,chr_at,hck,e0,Int.toNat_natCast]
  apply both1 (H:=H) (inv:=fun x:Int×Nat=>⟨[(0,.dat .str s),(5,.dat (.int .i64) (k:Int)),(7,.dat (.int .i64) (x.2:Int)),(8,.dat (.int .i64) x.1),(4,.own 0)],[(0,.row 116 tokT acc)],1⟩) (Q:=fun x=>k<s.length/\chr s k≠32/\chr s k≠35/\lexT s k=x/\k<=x.2/\x.2<=s.length)
  ·intro key
   refine ⟨fun d=>?_,fun d=>?_⟩<;>simp only [decide_eq_true_eq,decide_eq_false_iff_not] at d
   ·have hb:(0:Int)<=(k:Int)/\(k:Int)<(s.length:Int):=by omega
    have i1:inR .i64 ((k+1:Nat):Int):=by rw [inR_i64]; omega
    have h39:=hp2 k d
    refine ⟨hb,fun c1=>?_,fun c1=>⟨fun c2=>?_,fun c2=>⟨fun c3=>?_,fun c3=>⟨fun c4=>?_,fun c4=>⟨fun c5=>?_,fun c5=>⟨fun c6=>?_,fun c6=>?_⟩⟩⟩⟩⟩⟩<;>simp only [decide_eq_true_eq,decide_eq_false_iff_not] at c1
    ·refine ⟨i1,hm _ (n,k+1,acc) 1 ⟨d,by dsimp only; omega,by dsimp only; omega,?_⟩ (by dsimp only; omega) ?_⟩
     ·rw [<-h4,lexF,if_pos d,if_pos c1]
     ·dsimp only [go_sem]
      and_intros<;>first|trivial|rfl|omega
    ·have c2:=of_decide_eq_true c2
     rw [<-h4,lexF,if_pos d,if_neg c1,if_pos c2]
     exact ⟨rfl,rfl⟩
    ·have c2:=of_decide_eq_false c2
     refine HOk.loop (by assumption) (fun e:Nat=>⟨[(0,.dat .str s),(5,.dat (.int .i64) (k:Int)),(7,.dat (.int .i64) (e:Int)),(8,.dat (.int .i64) (1:Int)),(4,.own 0)],[(0,.row 116 tokT acc)],1⟩) (fun e=>k<=e/\e<=s.length/\skip wch s (s.length-e) e=skip wch s (s.length-k) k) (fun e=>s.length-e) k 1 ⟨Nat.le_refl _,h1,rfl⟩ ?_ ?_
     ·dsimp only [go_sem]
      and_intros<;>first|trivial|rfl|omega
     ·rintro e ⟨g1,g2,g3⟩ R2 hm2
      refine hH.run 200 _ _ ?_
      dsimp only [go_sem]
      simp only [imp_self,imp2,true_and,and_true,chr_at,e0]
      have hbe:e<s.length->(0:Int)<=(e:Int)/\(e:Int)<(s.length:Int):=fun h=>by omega
      refine ⟨fun h=>hbe (of_decide_eq_true h),fun h=>hbe (of_decide_eq_true h.1),fun h=>hbe (of_decide_eq_true h.1),fun h=>?_,fun h=>?_⟩
      ·have h':=h
       simp only [Bool.and_eq_true,decide_eq_true_eq] at h'
       obtain ⟨q,hq⟩:∃ q,s.length-e=q+1:=⟨s.length-e-1,by omega⟩
       rw [hq,skip,if_pos (show (decide (e<s.length)&&wch (chr s e))=true from h)] at g3
       refine ⟨by rw [inR_i64]; omega,hm2 _ (e+1) 1 ⟨by omega,h'.1,by rw [show s.length-(e+1)=q by omega]; exact g3⟩ (by omega) ?_⟩
       dsimp only [go_sem]
       and_intros<;>first|trivial|rfl|omega
      ·have hr2:skip wch s (s.length-k) k=e:=by
         rw [<-g3]
         cases hq:s.length-e with
         | zero=>rfl
         | succ q=>rw [skip,if_neg (show ¬(decide (e<s.length)&&wch (chr s e))=true by rw [show (decide (e<s.length)&&wch (chr s e))=false from h]; decide)]
       refine hH.weak ⟨[(0,.dat .str s),(5,.dat (.int .i64) (k:Int)),(7,.dat (.int .i64) (e:Int)),(8,.dat (.int .i64) (1:Int)),(4,.own 0)],[(0,.row 116 tokT acc)],1⟩ 1 ?_ (key (1,e) ⟨d,c1,c2,by unfold lexT; rw [if_pos c3,hr2],g1,g2⟩)
       dsimp only [go_sem]
       and_intros<;>first|trivial|rfl|omega
    ·have c2:=of_decide_eq_false c2
     have hl:=nmE_le s k d
     have c3':¬letr (chr s k)=true:=by rw [c3]; decide
     refine ⟨hb,hH.weak ⟨[(0,.dat .str s),(5,.dat (.int .i64) (k:Int)),(7,.dat (.int .i64) (nmE s k:Int)),(8,.dat (.int .i64) (2:Int)),(4,.own 0)],[(0,.row 116 tokT acc)],1⟩ 1 ?_ (key (2,nmE s k) ⟨d,c1,c2,by unfold lexT; rw [if_neg c3',if_pos c4],hl.1,hl.2⟩)⟩
     dsimp only [go_sem]
     and_intros<;>first|trivial|rfl|omega
    ·exact absurd (of_decide_eq_true c5) h39
    ·have c2:=of_decide_eq_false c2
     have c3':¬letr (chr s k)=true:=by rw [c3]; decide
     have c4':¬(decide (chr s k=45)||digr (chr s k))=true:=by rw [c4]; decide
     have c6:symb (chr s k)=true:=c6
     refine ⟨i1,hH.weak ⟨[(0,.dat .str s),(5,.dat (.int .i64) (k:Int)),(7,.dat (.int .i64) ((k+1:Nat):Int)),(8,.dat (.int .i64) (4:Int)),(4,.own 0)],[(0,.row 116 tokT acc)],1⟩ 1 ?_ (key (4,(k+1)) ⟨d,c1,c2,by unfold lexT; rw [if_neg c3',if_neg c4',if_neg h39,if_pos c6],by dsimp only; omega,d⟩)⟩
     dsimp only [go_sem]
     and_intros<;>first|trivial|rfl|omega
    ·have c2:=of_decide_eq_false c2
     have c3':¬letr (chr s k)=true:=by rw [c3]; decide
     have c4':¬(decide (chr s k=45)||digr (chr s k))=true:=by rw [c4]; decide
     have c6':¬symb (chr s k)=true:=by rw [show symb (chr s k)=false from c6]; decide
     have hk1:k+1<s.length->(0:Int)<=((k+1:Nat):Int)/\((k+1:Nat):Int)<(s.length:Int):=fun h=>by omega
     have hk2:(((k+1:Nat):Int)+1)=((k+2:Nat):Int):=rfl
     have hk3:((k:Int)+2)=((k+2:Nat):Int):=rfl
     simp only [hk2,hk3]
     refine ⟨fun c7=>⟨i1,fun h=>hk1 (of_decide_eq_true h),fun h=>?_,fun h=>?_⟩,fun c7=>⟨fun _=>i1,fun _=>i1,fun h=>?_,fun h=>?_,fun h=>?_⟩⟩
     ·have c7:=of_decide_eq_true c7
      have h':=h
      simp only [Bool.and_eq_true,decide_eq_true_eq] at h'
      refine ⟨by rw [inR_i64]; omega,hH.weak ⟨[(0,.dat .str s),(5,.dat (.int .i64) (k:Int)),(7,.dat (.int .i64) ((k+2:Nat):Int)),(8,.dat (.int .i64) (4:Int)),(4,.own 0)],[(0,.row 116 tokT acc)],1⟩ 1 ?_ (key (4,(k+2)) ⟨d,c1,c2,by unfold lexT; rw [if_neg c3',if_neg c4',if_neg h39,if_neg c6',if_pos c7,if_pos h],by dsimp only; omega,by dsimp only; omega⟩)⟩
      dsimp only [go_sem]
      and_intros<;>first|trivial|rfl|omega
     ·have c7:=of_decide_eq_true c7
      have h':¬(decide (k+1<s.length)&&decide (chr s (k+1)=61))=true:=by rw [h]; decide
      refine hH.weak ⟨[(0,.dat .str s),(5,.dat (.int .i64) (k:Int)),(7,.dat (.int .i64) ((k+1:Nat):Int)),(8,.dat (.int .i64) (4:Int)),(4,.own 0)],[(0,.row 116 tokT acc)],1⟩ 1 ?_ (key (4,(k+1)) ⟨d,c1,c2,by unfold lexT; rw [if_neg c3',if_neg c4',if_neg h39,if_neg c6',if_pos c7,if_neg h'],by dsimp only; omega,by dsimp only; omega⟩)
      dsimp only [go_sem]
      and_intros<;>first|trivial|rfl|omega
     ·simp only [Bool.and_eq_true,decide_eq_true_eq] at h
      exact hk1 h.2
     ·have c7:=of_decide_eq_false c7
      have h':=h
      simp only [Bool.and_eq_true,decide_eq_true_eq] at h'
      refine ⟨by rw [inR_i64]; omega,hH.weak ⟨[(0,.dat .str s),(5,.dat (.int .i64) (k:Int)),(7,.dat (.int .i64) ((k+2:Nat):Int)),(8,.dat (.int .i64) (4:Int)),(4,.own 0)],[(0,.row 116 tokT acc)],1⟩ 1 ?_ (key (4,(k+2)) ⟨d,c1,c2,by unfold lexT; rw [if_neg c3',if_neg c4',if_neg h39,if_neg c6',if_neg c7,if_pos h],by dsimp only; omega,by dsimp only; omega⟩)⟩
      dsimp only [go_sem]
      and_intros<;>first|trivial|rfl|omega
     ·have c7:=of_decide_eq_false c7
      have h':¬((decide (chr s k=33)&&decide (k+1<s.length))&&decide (chr s (k+1)=61))=true:=by rw [h]; decide
      refine hH.weak ⟨[(0,.dat .str s),(5,.dat (.int .i64) (k:Int)),(7,.dat (.int .i64) (k:Int)),(8,.dat (.int .i64) (0:Int)),(4,.own 0)],[(0,.row 116 tokT acc)],1⟩ 1 ?_ (key (0,k) ⟨d,c1,c2,by unfold lexT; rw [if_neg c3',if_neg c4',if_neg h39,if_neg c6',if_neg c7,if_neg h'],Nat.le_refl _,h1⟩)
      dsimp only [go_sem]
      and_intros<;>first|trivial|rfl|omega
   ·rw [<-h4,lexF,if_neg d]
    exact ⟨rfl,rfl⟩
  ·rintro ⟨kd,e⟩ ⟨q1,q2,q3,q4,q5,q6⟩
   dsimp only at q4 q5 q6 ⊢
   refine hH.go [] 100 _ _ ?_
   dsimp only [go_sem]
   simp only [ek,Int.toNat_natCast]
   have hlx:lexP s=if e=k then ([],false) else lexF n s e (acc++[(kd,(s.take e).drop k)]):=by rw [<-h4,lexF,if_pos q1,if_neg q2,if_neg q3,q4]
   refine ⟨fun h=>?_,fun h=>?_⟩<;>simp only [decide_eq_true_eq,decide_eq_false_iff_not] at h
   ·rw [hlx,if_pos h]
    and_intros<;>first|trivial|rfl
   ·rw [if_neg h] at hlx
    have hb:(0:Int)<=(k:Int)/\(k:Int)<=(e:Int)/\(e:Int)<=(s.length:Int):=by omega
    have hz:∀ t:Tok,(acc.length+([t]:List Tok).length)*24<=140737488355328:=fun t=>by rw [List.length_singleton]; omega
    have hz2:∀ t:Tok,(acc++([t]:List Tok)).length<=e:=fun t=>by rw [List.length_append,List.length_singleton]; omega
    refine ⟨hb,hz _,trivial,hm _ (n,e,acc++[(kd,(s.take e).drop k)]) 1 ⟨q6,by dsimp only; omega,hz2 _,hlx.symm⟩ (by dsimp only; omega) ?_⟩
    dsimp only [go_sem]
    and_intros<;>first|trivial|rfl|omega
end Go.Proofs.YtdobkkhncfifeaaGreat.Gx
namespace Go.Proofs.YtdobkkhncfifeaaGreat.Gx
open Go Go.RowKit Tw B Nt
set_option linter.unusedVariables false
set_option linter.unusedSimpArgs false
set_option maxHeartbeats 4000000
set_option maxRecDepth 20000
@[reducible,go_sem] def psT:Ty:=.pair (.slice tokT) (.pair (.int .i64) .bool)
abbrev PS:=List Tok×Int×Bool
def numOk (t:Str):Prop:=t=[49]∨t=[50]∨t=[51]
def psP (s:PS):Prop:=(0<=s.2.1/\s.2.1<=(s.1.length:Int))/\s.1.length<=20000/\∀ t∈s.1,t.1≠3/\(t.1=2->numOk t.2)
def tk (s:PS):Tok:=s.1.getD s.2.1.toNat (0,[])
def peekP (s:PS) (t:Str):Bool:=(((!s.2.2&&decide (s.2.1<(s.1.length:Int)))&&decide ((tk s).1≠3))&&decide ((tk s).1≠2))&&decide ((tk s).2=t)
@[go_sem] def pkM:MSpec:=⟨[.b 102 psT,.d .str],fun d=>⟨[(0,.box 102 (dA psT d.1 .nil))],1,.dat .bool (peekP d.1 d.2.1),[psP d.1]⟩⟩
@[go_sem] noncomputable def EJ0:Env:=(EI3).add 58 lexS
theorem EJ0_ok:EJ0.Ok:=(EI3_ok).add lex_ok
theorem pkM_ok:MSpecOk Tryz.prog 59 pkM:=by
 refine fnM_ok EJ0_ok pkM Tryz.func59 rfl (by decide) (N:=65) rfl (res:=[.tmp 4]) rfl (by decide) [] [] [] 100 (by kernel_rfl) ?_
 rintro ⟨s,t,_⟩ hw hp H hH
 dsimp only [go_sem] at hw hp ⊢
 obtain ⟨hp,-⟩:=hp
 obtain ⟨l,a,b⟩:=s
 change List Tok at l
 change Int at a
 obtain ⟨⟨h0,h1⟩,h2,h3⟩:=hp
 change (0:Int)<=a at h0
 clear hw
 simp only [imp_self,true_and,imp2,and_true]
 have hb:∀ x:Bool,((x&&decide (a<(l.length:Int)))=true)->(0:Int)<=a/\a<(l.length:Int):=fun x h=>by
  simp only [Bool.and_eq_true,decide_eq_true_eq] at h
  exact ⟨h0,h.2⟩
 refine ⟨fun h=>hb _ h,fun h=>hb (!b) (Bool.and_eq_true_iff.1 h).1,fun h=>hb (!b) (Bool.and_eq_true_iff.1 (Bool.and_eq_true_iff.1 h).1).1,?_⟩
 and_intros<;>first|trivial|rfl
def adv (s:PS):PS:=(s.1,s.2.1+1,s.2.2)
def bad (s:PS):PS:=(s.1,s.2.1,true)
def takP (s:PS) (t:Str):PS×Bool:=if peekP s t=true then (adv s,true) else (s,false)
def wanP (s:PS) (t:Str):PS:=if peekP s t=true then adv s else bad s
def Ad (s s':PS):Prop:=psP s'/\s'.1=s.1/\s.2.1<=s'.2.1
theorem Ad.refl {s:PS} (h:psP s):Ad s s:=⟨h,rfl,Int.le_refl _⟩
theorem Ad.trans {a b c:PS} (h:Ad a b) (h':Ad b c):Ad a c:=⟨h'.1,h'.2.1.trans h.2.1,Int.le_trans h.2.2 h'.2.2⟩
theorem Ad.adv {s:PS} (h:psP s) (hl:s.2.1<(s.1.length:Int)):Ad s (adv s):=by
 obtain ⟨⟨h0,h1⟩,h2,h3⟩:=h
 exact ⟨⟨⟨by show 0<=s.2.1+1; omega,by show s.2.1+1<=_; exact hl⟩,h2,h3⟩,rfl,by show s.2.1<=s.2.1+1; omega⟩
theorem Ad.bad {s:PS} (h:psP s):Ad s (bad s):=⟨h,rfl,Int.le_refl _⟩
theorem peek_lt {s:PS} {t:Str} (h:peekP s t=true):s.2.1<(s.1.length:Int):=by
 unfold peekP at h
 simp only [Bool.and_eq_true,decide_eq_true_eq] at h
 exact h.1.1.1.2
theorem takP_ad {s:PS} (h:psP s) (t:Str):Ad s (takP s t).1/\((takP s t).2=true->s.2.1+1<=(takP s t).1.2.1):=by
 unfold takP
 split
 ·rename_i e; exact ⟨Ad.adv h (peek_lt e),fun _=>Int.le_refl _⟩
 ·exact ⟨Ad.refl h,fun h=>by cases h⟩
theorem wanP_ad {s:PS} (h:psP s) (t:Str):Ad s (wanP s t):=by
 unfold wanP
 split
 ·rename_i e; exact Ad.adv h (peek_lt e)
 ·exact Ad.bad h
@[go_sem] def tkM:MSpec:=⟨[.b 102 psT,.d .str],fun d=>⟨[(0,.box 102 (dA psT (takP d.1 d.2.1).1 .nil))],1,.dat .bool (takP d.1 d.2.1).2,[psP d.1]⟩⟩
@[go_sem] noncomputable def EJ1:Env:=(EJ0).addM 59 pkM
theorem EJ1_ok:EJ1.Ok:=(EJ0_ok).addM pkM_ok
theorem tkM_ok:MSpecOk Tryz.prog 76 tkM:=by
 refine fnM_ok EJ1_ok tkM Tryz.func76 rfl (by decide) (N:=16) rfl (res:=[.tmp 4]) rfl (by decide) [(1,[(7,.ow)])] [] [] 100 (by kernel_rfl) ?_
 rintro ⟨s,t,_⟩ hw hp H hH
 dsimp only [go_sem] at hw hp ⊢
 obtain ⟨hp,-⟩:=hp
 refine ⟨hp,?_⟩
 obtain ⟨⟨h0,h1⟩,h2,h3⟩:=hp
 unfold takP
 refine ⟨fun h=>?_,fun h=>?_⟩
 ·have h:peekP s t=false:=by simpa using h
  rw [h,if_neg (by decide)]
  and_intros<;>first|trivial|rfl
 ·have h:peekP s t=true:=by simpa using h
  have h0:(0:Int)<=s.2.1:=h0
  have h1:(s.2.1:Int)<=(s.1.length:Int):=h1
  have h2:s.1.length<=20000:=h2
  have hi:inR .i64 (s.2.1+1):=by rw [inR_i64]; omega
  rw [h,if_pos rfl]
  refine ⟨hi,?_⟩
  and_intros<;>first|trivial|rfl
@[go_sem] def wnM:MSpec:=⟨[.b 102 psT,.d .str],fun d=>⟨[(0,.box 102 (dA psT (wanP d.1 d.2.1) .nil))],1,.tup .nil,[psP d.1]⟩⟩
@[go_sem] noncomputable def EJ2:Env:=(EJ1).addM 76 tkM
theorem EJ2_ok:EJ2.Ok:=(EJ1_ok).addM tkM_ok
theorem wnM_ok:MSpecOk Tryz.prog 61 wnM:=by
 refine fnM_ok EJ2_ok wnM Tryz.func61 rfl (by decide) (N:=11) rfl (res:=[]) rfl (by decide) [(0,[(6,.ow)])] [] [] 100 (by kernel_rfl) ?_
 rintro ⟨s,t,_⟩ hw hp H hH
 dsimp only [go_sem] at hw hp ⊢
 obtain ⟨hp,-⟩:=hp
 refine ⟨hp,?_⟩
 unfold wanP takP
 cases h:peekP s t with
 | true =>
  simp only [if_true]
  refine ⟨fun h=>?_,fun _=>?_⟩
  ·cases h
  ·and_intros<;>first|trivial|rfl
 | false =>
  simp only [Bool.false_eq_true,if_false]
  refine ⟨fun _=>?_,fun h=>?_⟩
  ·and_intros<;>first|trivial|rfl
  ·cases h
end Go.Proofs.YtdobkkhncfifeaaGreat.Gx
