/-
  Contracts of relation and of its reference.
-/
import Derived.Test.YtbokoblnehgkaabGreatQ1
import Derived.Shelf.SlicesE.DeleteFunc
import Derived.Test.YtbokoblnehgkaabGreatG3
set_option linter.unusedVariables false
set_option linter.unusedSimpArgs false
set_option maxHeartbeats 4000000
set_option maxRecDepth 100000
namespace Go.Proofs.YtbokoblnehgkaabGreat.Gx
open Go Go.RowKit Tw B Nt
@[go_sem] noncomputable def ES2:Env:=((ES1).jg 88 Qn).jg 90 Kv
theorem GP:ES2.Ok:=((IH).jg Mm).jg yS
def gx(r:Rel)(n:Nat):List fS:=gj r.1.2.2 (r.2.getD n tz).1
def ic(r:Rel):List (List Int):=if r.1.2.1=true then []else(fr (gx r) r.2.length).2
def uE(r:Rel):Prop:=∀ t∈r.2,t.1.length=r.1.2.2.length
theorem y_{cs:List rG}{v:List fS}{n:Nat}(h:cs.length<=n):(gj cs v).length<=n:=by
 unfold gj;split
 ·exact QE _
 ·exact QL (nP _ _ _) h
theorem su{r:Rel}(h:uE r){j:Nat}(a:j<r.2.length):(gx r j).length=((List.range r.1.2.2.length).filter fun i=>(r.1.2.2.getD i cz).2.2).length:=by
 unfold gx gj;rw[QC (by rw[h _ (fW tz a)]; simp)];unfold qB;rw[Rt]
theorem I_{a:Type}{G:Prop}{H:List It->St->Prop}{k:List It}{inv:a->St}{Q:a->Prop}(h1:(∀ x,Q x->H k (inv x))->G)(h2:∀ x,Q x->H k (inv x)):G:=h1 h2
@[go_sem] def Pj:Spec:=⟨[c7],fun d=>(.a_ (.slice (.slice (.int .i64))) (ic d.1),[gZ d.1,uE d.1])⟩
theorem O_:c6 Tryz.prog 55 Pj:=by
 refine eT GP Pj Tryz.func55 rfl (by decide) (N:=63) rfl (res:=[.tmp 2]) rfl (by decide) [(13,[(46,.dt),(47,.ns)]),(15,[(54,.ns)]),(16,[(60,.ow)])] [] [15] 100 (by kernel_rfl) ?_;rintro⟨r,_⟩ M C;refine⟨rfl,fun H m=>?_⟩;dsimp only[go_sem]at M C ⊢;obtain⟨C,u,-⟩:=C;obtain⟨s,l⟩:=r;change List fy at l;obtain⟨v,D,P⟩:=C;change l.length<=400 at D;clear M;refine⟨fun E=>⟨by unfold ic; rw[QJ E],trivial⟩,fun E=>?_⟩;have F:ic (s,l)=(fr (gx (s,l)) l.length).2:=by unfold ic; rw[QC (by rw[E]; exact RZ)]
 refine m.hand (fun H m T=>?_) (by kernel_rfl);refine m.loop (fun i:Nat=>⟨[(17,.a_ (.int .i64) (i:Int)),(16,.a_ (.int .i64) (l.length:Int)),(15,.a_ (.slice b8) l),(3,.iE 1 (fr (gx (s,l)) i).2.length),(4,.own 3),(1,.ref 0 0)],[(0,.box 28 (.cons (.a_ .str s.1) (.cons (.a_ .bool s.2.1) (.cons (.a_ (.slice fe) s.2.2) (.cons (.a_ (.slice b8) l) .nil))))),(1,.eW 22 false 2 none),(2,.gv 3 (.int .i64) (fr (gx (s,l)) i).2),(3,.row 31 (.slice eK) (fr (gx (s,l)) i).1)],4⟩) (fun i=>i<=l.length) (fun i=>l.length-i) 0 1 (QE _) ?_ ?_
 ·dsimp only[go_sem];and_intros<;>first|trivial|rfl|omega
 ·rintro i hi R O;refine m.run 100 _ _ ?_;dsimp only[go_sem];simp only[QH];have w:gj s.2.2 (l.getD i (zd b8)).1=gx (s,l) i:=rfl;simp only[w];have c:=mh (gx (s,l)) i;have a:fr (gx (s,l)) (i+1)=if(gx (s,l) i).length=0 then(fB (fr (gx (s,l)) i).1 (fr (gx (s,l)) i).2.length [gx (s,l) i],fB (fr (gx (s,l)) i).2 (fr (gx (s,l)) i).2.length [[(i:Int)]])
   else if nv (fr (gx (s,l)) i).1 (gx (s,l) i)=true then((fr (gx (s,l)) i).1,(fr (gx (s,l)) i).2.set (fV (fr (gx (s,l)) i).1 (gx (s,l) i)) ((fr (gx (s,l)) i).2.getD (fV (fr (gx (s,l)) i).1 (gx (s,l) i)) []++[(i:Int)]))
   else(fB (fr (gx (s,l)) i).1 (fV (fr (gx (s,l)) i).1 (gx (s,l) i)) [gx (s,l) i],fB (fr (gx (s,l)) i).2 (fV (fr (gx (s,l)) i).1 (gx (s,l) i)) [[(i:Int)]]):=rfl
  have b:(gx (s,l) i).length≠0->i<l.length->O5 (fr (gx (s,l)) i).1 (gx (s,l) i):=fun e d=>HU (xP (N:=l.length) (fun j U=>by rw[su u U,<-su u d]; exact e) i hi) _;have x:∀ j,(gx (s,l) j).length<=1000:=fun j=>y_ v;have G:∀ e∈(fr (gx (s,l)) i).1,e.length<=1000:=fun e V=>by
   obtain⟨j,_,rfl⟩:=c.ke e V;exact x j
  have n:=c.len;have o:=c.le;have q:=c.el;have g:=qA (fr (gx (s,l)) i).1 (gx (s,l) i);have y:=x i;have h:i=l.length->(fr (gx (s,l)) i).2=ic (s,l):=fun e=>by rw[F,e]
  clear c w;generalize fr (gx (s,l)) i=S at a b G n o q g h ⊢;generalize hk:gx (s,l) i=k at a b y g ⊢;obtain⟨K,B⟩:=S;dsimp only at a b G n o q g h ⊢;apply I_ (H:=H) (inv:=fun p:Nat=>⟨[(3,.iE 1 B.length),(4,.own 3),(8,.a_ (.int .i64) (p:Int)),(5,.a_ (.int .i64) (i:Int)),(7,.a_ (.slice eK) k),(17,.a_ (.int .i64) (i:Int)),(16,.a_ (.int .i64) (l.length:Int)),(15,.a_ (.slice b8) l),(1,.ref 0 0)],[(0,.box 28 (.cons (.a_ .str s.1) (.cons (.a_ .bool s.2.1) (.cons (.a_ (.slice fe) s.2.2) (.cons (.a_ (.slice b8) l) .nil))))),(1,.eW 22 false 2 none),(2,.gv 3 (.int .i64) B),(3,.row 31 (.slice eK) K)],4⟩) (Q:=fun p=>p<=B.length/\i<l.length/\fr (gx (s,l)) (i+1)=(fB K p [k],fB B p [[(i:Int)]]))
  ·intro key;refine⟨fun d=>?_,fun d=>?_⟩<;>simp only[Qy,Qw]at d
   ·have d:i<l.length:=by omega
    have I:(0:Int)<=(i:Int)/\(i:Int)<(l.length:Int):=by omega
    have t:gG .i64 ((i:Int)+1):=by rw[c9]; omega
    have J:K.length<=1000:=by omega
    refine⟨I,v,fun e=>?_,fun e=>?_⟩<;>simp only[Qy,Qw]at e
    ·have e:k.length≠0:=by omega
     rw[QC e]at a;refine⟨J,G,y,b e d,fun f=>?_,fun f=>?_⟩
     ·have z:fV K k<B.length:=by have:=(jP.1 f).1; omega
      have A:(0:Int)<=(fV K k:Int)/\(fV K k:Int)<(B.length:Int):=by omega
      have W:=(q _ (fW [] z)).2.1;rw[QJ f]at a;refine⟨A,z,?_,trivial,A,⟨trivial,trivial⟩,t,m.Gi [(0,0),(1,1),(2,5),(3,3)] 4 rfl rfl (QE _) rfl ?_⟩
      ·show((B.getD (fV K k) []).length+1)*8<=_;omega
      ·dsimp only[go_sem];refine O _ (i+1) 4 d (by omega) ?_;dsimp only[go_sem];rw[a];and_intros<;>first|trivial|rfl|omega|(simp only[Sb])
     ·rw[QC (by rw[f]; exact RZ)]at a;refine m.mR ⟨[(3,.iE 1 B.length),(4,.own 3),(8,.a_ (.int .i64) (fV K k:Int)),(5,.a_ (.int .i64) (i:Int)),(7,.a_ (.slice eK) k),(17,.a_ (.int .i64) (i:Int)),(16,.a_ (.int .i64) (l.length:Int)),(15,.a_ (.slice b8) l),(1,.ref 0 0)],[(0,.box 28 (.cons (.a_ .str s.1) (.cons (.a_ .bool s.2.1) (.cons (.a_ (.slice fe) s.2.2) (.cons (.a_ (.slice b8) l) .nil))))),(1,.eW 22 false 2 none),(2,.gv 3 (.int .i64) B),(3,.row 31 (.slice eK) K)],4⟩ 4 ?_ (key (fV K k) ⟨by omega,d,a⟩);dsimp only[go_sem];and_intros<;>first|trivial|rfl|omega
    ·have e:k.length=0:=by omega
     rw[QJ e]at a;refine m.mR ⟨[(3,.iE 1 B.length),(4,.own 3),(8,.a_ (.int .i64) (B.length:Int)),(5,.a_ (.int .i64) (i:Int)),(7,.a_ (.slice eK) k),(17,.a_ (.int .i64) (i:Int)),(16,.a_ (.int .i64) (l.length:Int)),(15,.a_ (.slice b8) l),(1,.ref 0 0)],[(0,.box 28 (.cons (.a_ .str s.1) (.cons (.a_ .bool s.2.1) (.cons (.a_ (.slice fe) s.2.2) (.cons (.a_ (.slice b8) l) .nil))))),(1,.eW 22 false 2 none),(2,.gv 3 (.int .i64) B),(3,.row 31 (.slice eK) K)],4⟩ 4 ?_ (key B.length ⟨Qu _,d,a⟩);dsimp only[go_sem];and_intros<;>first|trivial|rfl|omega
   ·have d:i=l.length:=by omega
    exact⟨h d,trivial⟩
  ·rintro p ⟨L,d,a⟩;refine aak T (ann:=[(54,.ns)]) (pre:=[_,_,_,_,_]) (post:=[_]) (i:=p) rfl rfl rfl rfl (QS rfl) Tryz.func89 rfl (by decide) aar rfl rfl rfl rfl rfl rfl rfl (T7 rfl) (T7 rfl) rfl ?_ rfl rfl L (by omega) ?_ ?_
   ·dsimp only[go_sem]
   ·dsimp only[go_sem]
   ·refine m.run 100 _ _ ?_;dsimp only[go_sem];have t:gG .i64 ((i:Int)+1):=by rw[c9]; omega
    have I:(0:Int)<=(p:Int)/\(p:Int)<=(K.length:Int)/\K.length<=1000000/\[k].length=1:=⟨by omega,by omega,by omega,rfl⟩;refine⟨I,t,m.Gi [(0,0),(1,7),(2,8),(3,10)] 4 rfl rfl (QE _) rfl ?_⟩;dsimp only[go_sem];refine O _ (i+1) 4 d (by omega) ?_;dsimp only[go_sem];rw[a];simp only[hO,UJ,QH];and_intros<;>first|trivial|rfl|omega
@[go_sem] noncomputable def ER8:Env:=(ES2).add 55 Pj
theorem nK:ER8.Ok:=(GP).add O_
def FM(s:iR)(l:List fy)(i:Nat):Option Int :=
 if lA s (l.getD i tz)≠0 then some (lA s (l.getD i tz))else if i=0 then none else if cT (l.getD (i-1) tz).1 (l.getD i tz).1=0 then some 8 else if cT (l.getD (i-1) tz).1 (l.getD i tz).1=1 then some 1 else none
def uI(s:iR)(l:List fy)(n:Nat):Option Int:=(List.range n).findSome? (FM s l)
def qD(b:List Int):Bool:=decide (16<b.length)
def pC(l:List fy)(b:List Int):Bool:=decide (iM (1-gS l b)<0)
def gC(r:Rel):Int:=if !hP r.1 then 1 else if 64<r.2.length then 4 else match uI r.1 r.2 r.2.length with
 | some e=>e
 | none=>if(ic r).any qD then 4 else if(ic r).any (pC r.2)then 19 else 0
theorem nE(s:iR)(l:List fy)(n:Nat)(h:uI s l n=none):uI s l (n+1)=FM s l n:=by
 unfold uI at h ⊢;rw[T8,WS,h];simp
theorem qV{s:iR}{l:List fy}{i n:Nat}{e:Int}(hi:i<n)(h:uI s l i=none)(b:FM s l i=some e):uI s l n=some e:=by
 have a:=nE s l i h;rw[b]at a;obtain⟨m,rfl⟩:∃ m,n=i+1+m:=⟨n-(i+1),by omega⟩;unfold uI at a ⊢;rw[List.range_add,WS,a];rfl
theorem O2{s:iR}{l:List fy}:∀{n:Nat},uI s l n=none->∀ i,i<n->FM s l i=none:=by
 intro n h i hi;unfold uI at h;rw[Wp]at h;exact h i (Rn.2 hi)
theorem aap{s:iR}{l:List fy}{i:Nat}(h:FM s l i=none):lA s (l.getD i tz)=0:=by
 unfold FM at h;by_cases e:lA s (l.getD i tz)=0
 ·exact e
 ·rw[QJ e]at h; cases h
theorem BU{s:iR}{t:fy}(h:lA s t=0):t.1.length=s.2.2.length:=by
 unfold lA at h;split at h
 ·cases h
 ·split at h
  ·cases h
  ·rename_i a; exact Rp.1 a
theorem uw{s:iR}{l:List fy}(h:uI s l l.length=none):uE (s,l):=by
 intro t b;obtain⟨j,a,e⟩:=Rz.1 b;have:=BU (aap (O2 h j a));rw[Qz,Qr a]at this;rw[<-e]; exact this
theorem wz(r:Rel):(ic r).length<=r.2.length/\∀ b∈ic r,b≠[]/\b.length<=r.2.length/\∀ j∈b,0<=j/\j<(r.2.length:Int):=by
 unfold ic;split
 ·exact⟨QE _,fun b a=>by cases a⟩
 ·exact⟨(mh (gx r) r.2.length).le,(mh (gx r) r.2.length).el⟩
theorem xT{a:Type}{p:a->Bool}{l:List a}{i:Nat}(d:a)(hi:i<l.length)(h:p (l.getD i d)=true):l.any p=true:=Tv.2 ⟨_,fW d hi,h⟩
theorem wm{a:Type}{p:a->Bool}{l:List a}(d:a)(h:∀ j,j<l.length->p (l.getD j d)=false):l.any p=false:=by
 rw[VZ];intro x c;obtain⟨j,b,e⟩:=Rz.1 c;have:=h j b;rw[Qz,Qr b]at this;rw[<-e];exact fun f=>Bool.noConfusion (this.symm.trans f)
theorem ou{l:List fy}{b:List Int}(e:∀ t∈l,q_ b8 t)(a:∀ t∈l,fs t.2<=1000)(g:∀ j∈b,0<=j/\j<(l.length:Int)){n:Nat}(k:b.length<=n):qs (gS l b)<=1002*n+1:=by
 have c:∀ f∈b.map (fun i=>(l.getD i.toNat tz).2),q_ fT f/\fs f<=1000:=by
  intro f d;obtain⟨i,hi,rfl⟩:=Rj.1 d;have g:=g i hi;have d:=fW tz (show i.toNat<l.length by omega);exact⟨(e _ d).2,a _ d⟩
 have h:=(CO (fun f a=>(c f a).1) (fun f a=>(c f a).2) b.length (by rw[Rt]; exact Qu _)).1;rw[QQ (by rw[Rt]; exact Qu _)]at h;unfold gS;omega
@[go_sem] def PA:Spec:=⟨[c7],fun d=>(.a_ (.int .i64) (gC d.1),[gZ d.1])⟩
theorem PU:c6 Tryz.prog 23 PA:=by
 refine eT nK PA Tryz.func23 rfl (by decide) (N:=76) rfl (res:=[.tmp 2]) rfl (by decide) [] [] [] 100 (by kernel_rfl) ?_;rintro⟨r,_⟩ I y;refine⟨rfl,fun H z=>?_⟩;dsimp only[go_sem]at I y ⊢;obtain⟨y,-⟩:=y;obtain⟨s,l⟩:=r;change List fy at l;obtain⟨V,J,q⟩:=id y;change l.length<=400 at J;have K:∀ t∈l,q_ b8 t:=I.1.2.2;clear I;refine⟨fun h=>?_,fun h=>⟨fun u=>?_,fun u=>?_⟩⟩
 ·have h:hP s=false:=by simpa using h
  exact⟨by unfold gC; rw[QJ (by rw[h]; rfl)],trivial⟩
 ·have h:hP s=true:=by simpa using h
  have u:64<l.length:=by have:=QF u; change (64:Int)<(l.length:Int)at this; omega
  exact⟨by unfold gC; rw[QC (by rw[h]; exact RZ),QJ u],trivial⟩
 have h:hP s=true:=by simpa using h
 have u:¬64<l.length:=by have:=QN u; change ¬(64:Int)<(l.length:Int)at this; omega
 have g:gC (s,l)=match uI s l l.length with
     | some e=>e
     | none=>if(ic (s,l)).any qD then 4 else if(ic (s,l)).any (pC l)then 19 else 0:=by
  unfold gC; rw[QC (by rw[h]; exact RZ),QC u]
 refine z.loop (fun i:Nat=>⟨[(22,.a_ (.int .i64) (i:Int)),(21,.a_ (.int .i64) (l.length:Int)),(20,.a_ (.slice b8) l),(1,.ref 0 0)],[(0,.box 28 (.cons (.a_ .str s.1) (.cons (.a_ .bool s.2.1) (.cons (.a_ (.slice fe) s.2.2) (.cons (.a_ (.slice b8) l) .nil)))))],1⟩) (fun i=>i<=l.length/\uI s l i=none) (fun i=>l.length-i) 0 1 ⟨QE _,rfl⟩ ?_ ?_
 ·dsimp only[go_sem];and_intros<;>first|trivial|rfl|omega
 ·rintro i ⟨hi,v⟩ R p;refine z.run 100 _ _ ?_;dsimp only[go_sem];simp only[QH];have L:∀ j,l.getD j (zd b8)=l.getD j tz:=fun _=>rfl;simp only[L];refine⟨fun d=>?_,fun d=>?_⟩<;>simp only[Qy,Qw]at d
  ·have d:i<l.length:=by omega
   have B:(0:Int)<=(i:Int)/\(i:Int)<(l.length:Int):=by omega
   have c:gG .i64 ((i:Int)+1):=by rw[c9]; omega
   have U:(l.getD i tz).1.length<=1000/\fs (l.getD i tz).2<=1000:=q _ (fW tz d);have a:FM s l i=if lA s (l.getD i tz)≠0 then some (lA s (l.getD i tz))else if i=0 then none else if cT (l.getD (i-1) tz).1 (l.getD i tz).1=0 then some 8 else if cT (l.getD (i-1) tz).1 (l.getD i tz).1=1 then some 1 else none:=rfl
   refine⟨B,by omega,fun e=>?_,fun e=>⟨fun o=>?_,fun o=>?_⟩⟩<;>simp only[Qy,Qw]at e
   ·rw[QJ e]at a;rw[g,qV d v a];exact⟨rfl,trivial⟩
   ·have o:=QF o;have o:i=0:=by omega
    rw[QC e,QJ o]at a;refine⟨c,?_⟩;refine p _ (i+1) 1 ⟨d,by rw[nE _ _ _ v]; exact a⟩ (by omega) ?_;dsimp only[go_sem];and_intros<;>first|trivial|rfl|omega
   ·have o:=QN o;have o:i≠0:=by omega
    rw[QC e,QC o]at a;have C:((i:Int)-1).toNat=i-1:=by omega
    have M:gG .i64 ((i:Int)-1):=by rw[c9]; omega
    have O:(0:Int)<=(i:Int)-1/\(i:Int)-1<(l.length:Int):=by omega
    have W:(l.getD (i-1) tz).1.length<=1000/\fs (l.getD (i-1) tz).2<=1000:=q _ (fW tz (show i-1<l.length by omega));have P:(l.getD (i-1) tz).1.length<=1000000/\(l.getD i tz).1.length<=1000000:=by omega
    rw[C];refine⟨M,O,P,fun m=>?_,fun m=>⟨fun w=>?_,fun w=>?_⟩⟩
    ·have m:=QF m;rw[QJ m]at a;rw[g,qV d v a];exact⟨rfl,trivial⟩
    ·have m:=QN m;have w:=QF w;rw[QC m,QJ w]at a;rw[g,qV d v a];exact⟨rfl,trivial⟩
    ·have m:=QN m;have w:=QN w;rw[QC m,QC w]at a;refine⟨c,?_⟩;refine p _ (i+1) 1 ⟨d,by rw[nE _ _ _ v]; exact a⟩ (by omega) ?_;dsimp only[go_sem];and_intros<;>first|trivial|rfl|omega
  ·have d:i=l.length:=by omega
   subst d;clear p;refine⟨y,uw v,?_⟩;have x:=wz (s,l);rw[v]at g;dsimp only at g;change (ic (s,l)).length<=l.length/\∀ b∈ic (s,l),b≠[]/\b.length<=l.length/\∀ j∈b,0<=j/\j<(l.length:Int)at x;generalize ic (s,l)=G at x g ⊢;obtain⟨X,Q⟩:=x;have D:∀ j,G.getD j (zd (.slice (.int .i64)))=G.getD j []:=fun _=>rfl;refine z.loop (fun k:Nat=>⟨[(55,.a_ (.int .i64) (k:Int)),(54,.a_ (.int .i64) (G.length:Int)),(53,.a_ (.slice (.slice (.int .i64))) G),(6,.a_ (.slice (.slice (.int .i64))) G),(1,.ref 0 0)],[(0,.box 28 (.cons (.a_ .str s.1) (.cons (.a_ .bool s.2.1) (.cons (.a_ (.slice fe) s.2.2) (.cons (.a_ (.slice b8) l) .nil)))))],1⟩) (fun k=>k<=G.length/\∀ j,j<k->qD (G.getD j [])=false) (fun k=>G.length-k) 0 1 ⟨QE _,fun j h=>absurd h (Q' _)⟩ ?_ ?_
   ·dsimp only[go_sem];and_intros<;>first|trivial|rfl|omega
   ·rintro k ⟨hk,A⟩ R p;refine z.run 100 _ _ ?_;dsimp only[go_sem];simp only[QH,D];refine⟨fun d=>?_,fun d=>?_⟩<;>simp only[Qy,Qw]at d
    ·have d:k<G.length:=by omega
     have B:(0:Int)<=(k:Int)/\(k:Int)<(G.length:Int):=by omega
     have c:gG .i64 ((k:Int)+1):=by rw[c9]; omega
     have f:qD (G.getD k [])=decide (16<(G.getD k []).length):=rfl;refine⟨B,fun e=>?_,fun e=>⟨c,p _ (k+1) 1 ⟨d,fun j Y=>?_⟩ (by omega) ?_⟩⟩<;>simp only[Qy,Qw]at e
     ·have e:(16:Int)<((G.getD k []).length:Int):=e;have S:G.any qD=true:=xT [] d (by rw[f]; exact QY (by omega));rw[g,QJ S];exact⟨rfl,trivial⟩
     ·rcases QA j k with E|E
      ·exact A j E
      ·have:j=k:=by omega
       have e:¬(16:Int)<((G.getD k []).length:Int):=e;rw[this,f]; exact Q4 (by omega)
     ·dsimp only[go_sem];and_intros<;>first|trivial|rfl|omega
    ·have d:k=G.length:=by omega
     subst d;rw[QC (by rw[wm [] A]; exact RZ)]at g;clear p A;refine z.loop (fun k:Nat=>⟨[(65,.a_ (.int .i64) (k:Int)),(64,.a_ (.int .i64) (G.length:Int)),(63,.a_ (.slice (.slice (.int .i64))) G),(1,.ref 0 0)],[(0,.box 28 (.cons (.a_ .str s.1) (.cons (.a_ .bool s.2.1) (.cons (.a_ (.slice fe) s.2.2) (.cons (.a_ (.slice b8) l) .nil)))))],1⟩) (fun k=>k<=G.length/\∀ j,j<k->pC l (G.getD j [])=false) (fun k=>G.length-k) 0 1 ⟨QE _,fun j h=>absurd h (Q' _)⟩ ?_ ?_
     ·dsimp only[go_sem];and_intros<;>first|trivial|rfl|omega
     ·rintro k ⟨hk,A⟩ R p;refine z.run 100 _ _ ?_;dsimp only[go_sem];simp only[QH,D,jo,ig];refine⟨fun d=>?_,fun d=>?_⟩<;>simp only[Qy,Qw]at d
      ·have d:k<G.length:=by omega
       have B:(0:Int)<=(k:Int)/\(k:Int)<(G.length:Int):=by omega
       have c:gG .i64 ((k:Int)+1):=by rw[c9]; omega
       have f:pC l (G.getD k [])=decide (iM (1-gS l (G.getD k []))<0):=rfl;obtain⟨_,Z,F⟩:=Q _ (fW [] d);have q1:=ou (n:=400) K (fun t U=>(q t U).2) F (by omega);have q2:=pk 1 (gS l (G.getD k []));have q3:=mm;have T:(G.getD k []).length<=400:=by omega
       refine⟨B,y,T,F,by omega,by omega,fun e=>?_,fun e=>⟨c,p _ (k+1) 1 ⟨d,fun j Y=>?_⟩ (by omega) ?_⟩⟩
       ·have S:G.any (pC l)=true:=xT [] d (by rw[f]; exact e);rw[g,QJ S];exact⟨rfl,trivial⟩
       ·rcases QA j k with E|E
        ·exact A j E
        ·have:j=k:=by omega
         rw[this,f]; exact e
       ·dsimp only[go_sem];and_intros<;>first|trivial|rfl|omega
      ·have d:k=G.length:=by omega
       subst d;rw[g,QC (by rw[wm [] A]; exact RZ)];exact⟨rfl,trivial⟩
@[go_sem] def aaU:Spec:=⟨[.slice eK],fun d=>(.a_ (.slice eK) d.1,[List.length d.1<=1000])⟩
theorem PC:c6 Tryz.prog 68 aaU:=by
 refine eT c_ aaU Tryz.func68 rfl (by decide) (N:=8) rfl (res:=[.tmp 2]) rfl (by decide) [(3,[(7,.fz 0)])] [] [] 100 (by kernel_rfl) ?_;rintro⟨l,_⟩ b a;refine⟨rfl,fun H c=>?_⟩;dsimp only[go_sem]at b a ⊢;obtain⟨a,-⟩:=a;refine⟨fun h=>⟨h.symm,trivial⟩,?_,rfl,rfl,trivial⟩;change (0+List.length l)*32<=_;change List.length l<=1000 at a;omega
@[go_sem] def aaT:Spec:=⟨[.slice fe],fun d=>(.a_ (.slice fe) d.1,[List.length d.1<=1000])⟩
theorem Pz:c6 Tryz.prog 65 aaT:=by
 refine eT c_ aaT Tryz.func65 rfl (by decide) (N:=8) rfl (res:=[.tmp 2]) rfl (by decide) [(3,[(7,.fz 0)])] [] [] 100 (by kernel_rfl) ?_;rintro⟨l,_⟩ b a;refine⟨rfl,fun H c=>?_⟩;dsimp only[go_sem]at b a ⊢;obtain⟨a,-⟩:=a;refine⟨fun h=>⟨h.symm,trivial⟩,?_,rfl,rfl,trivial⟩;change (0+List.length l)*32<=_;change List.length l<=1000 at a;omega
@[go_sem] noncomputable def ER9:Env:=(((ER8).add 23 PA).add 68 aaU).add 65 aaT
theorem Jp:ER9.Ok:=(((nK).add PU).add PC).add Pz
def lz(t:fy):fy:=(t.1,qf (fq t.2))
@[go_sem] def aad:Spec:=⟨[b8],fun d=>(.a_ b8 (lz d.1),[List.length d.1.1<=1000/\fs d.1.2<=100000])⟩
theorem aav:c6 Tryz.prog 33 aad:=by
 refine eT Jp aad Tryz.func33 rfl (by decide) (N:=10) rfl (res:=[.cell 2 37]) rfl (by decide) [] [] [] 100 (by kernel_rfl) ?_;rintro⟨t,_⟩ c b;refine⟨rfl,fun H e=>?_⟩;dsimp only[go_sem]at c b ⊢;obtain⟨⟨a,d⟩,-⟩:=b;exact⟨a,by omega,rfl,trivial⟩
@[go_sem] noncomputable def ERA:Env:=(ER9).add 33 aad
theorem my:ERA.Ok:=(Jp).add aav
theorem GJ{a b:Type}(f:a->b)(d:a)(z:b){l:List a}{i:Nat}(hi:i<l.length):((l.take i).map f++List.replicate (l.length-i) z).set i (f (l.getD i d))=(l.take (i+1)).map f++List.replicate (l.length-(i+1)) z:=by
 have e:l.length-i=(l.length-(i+1))+1:=by omega
 rw[e,SE,kz d hi,SG,QP,Ub _ _ (by simp; omega)];have:i-((l.take i).map f).length=0:=by simp; omega
 rw[this];rfl
theorem Kw{a b:Type}(f:a->b)(z:b){l:List a}{i:Nat}(hi:i<=l.length):((l.take i).map f++List.replicate (l.length-i) z).length=l.length:=by
 simp; omega
@[go_sem] def aat:iP:=⟨[.d c7],fun d=>⟨[(0,.row 37 b8 (d.1.2.map lz))],1,.agg (.cons (.a_ .str d.1.1.1) (.cons (.a_ .bool d.1.1.2.1) (.cons (.a_ (.slice fe) d.1.1.2.2) (.cons (.own 0) .nil)))),[gZ d.1]⟩⟩
theorem MR:gK Tryz.prog 31 aat:=by
 refine nD my aat Tryz.func31 rfl (by decide) (N:=35) rfl (res:=[.cell 2 28]) rfl (by decide) [(1,[(1000000,.mx [(0,1000000),(1,3000000),(2000000,7)])]),(6,[(1000000,.mx [])])] [] [] 100 (by kernel_rfl) ?_;rintro⟨r,_⟩ c b H n;dsimp only[go_sem]at c b ⊢;obtain⟨b,-⟩:=b;obtain⟨s,l⟩:=r;change List fy at l;obtain⟨e,f,g⟩:=id b;change l.length<=400 at f;have p:∀ t∈l,q_ b8 t:=c.1.2.2;clear c;refine⟨⟨Sy _,Ui _,?_⟩,e,?_⟩
 ·show(80:Int)*(l.length:Int)<=140737488355328;omega
 refine n.loop (fun i:Nat=>⟨[(22,.a_ (.int .i64) (i:Int)),(21,.a_ (.int .i64) (l.length:Int)),(20,.a_ (.slice b8) l),(3,.ref 3 0),(2,.ref 1 0),(1,.ref 0 0)],[(0,.box 28 (.cons (.a_ .str s.1) (.cons (.a_ .bool s.2.1) (.cons (.a_ (.slice fe) s.2.2) (.cons (.a_ (.slice b8) l) .nil))))),(1,.box 28 (zA c7 .nil)),(2,.row 37 b8 ((l.take i).map lz++List.replicate (l.length-i) tz)),(3,.box 28 (.cons (.a_ .str s.1) (.cons (.a_ .bool s.2.1) (.cons (.a_ (.slice fe) s.2.2) (.cons (.own 2) .nil)))))],4⟩) (fun i=>i<=l.length) (fun i=>l.length-i) 0 4 (QE _) ?_ ?_
 ·dsimp only[go_sem];and_intros<;>first|trivial|rfl|omega
 ·rintro i hi R q;refine n.run 100 _ _ ?_;dsimp only[go_sem];simp only[QH];have h:∀ j,l.getD j (zd b8)=l.getD j tz:=fun _=>rfl;simp only[h];have a:=Kw lz tz hi;refine⟨fun d=>?_,fun d=>?_⟩<;>simp only[Qy,Qw]at d
  ·have d:i<l.length:=by omega
   have o:(0:Int)<=(i:Int)/\(i:Int)<(l.length:Int):=by omega
   have k:gG .i64 ((i:Int)+1):=by rw[c9]; omega
   have v:(l.getD i tz).1.length<=1000/\fs (l.getD i tz).2<=1000:=g _ (fW tz d);have m:(l.getD i tz).1.length<=1000/\fs (l.getD i tz).2<=100000:=by omega
   have u:=GJ lz tz tz d;refine⟨o,m,by rw[a]; exact o,by rw[a]; exact d,k,q _ (i+1) 4 d (by omega) ?_⟩;dsimp only[go_sem];rw[u];and_intros<;>first|trivial|rfl|omega
  ·have d:i=l.length:=by omega
   subst d;rw[TR,Sz,SP,Q9];and_intros<;>first|trivial|rfl|omega
@[go_sem] noncomputable def ERB:Env:=((ERA).jg 31 aat).jg 32 Ih
theorem Gd:ERB.Ok:=((my).jg MR).jg zO
theorem Qi{s:iR}{l:List fy}{i:Nat}{e:Int}(h:FM s l i=some e):e≠0:=by
 unfold FM at h;split at h
 ·rename_i a;cases h; exact a
 ·split at h
  ·cases h
  ·split at h
   ·cases h; decide
   ·split at h
    ·cases h; decide
    ·cases h
theorem O0{s:iR}{l:List fy}{n:Nat}{e:Int}(h:uI s l n=some e):e≠0:=by
 unfold uI at h;obtain⟨i,_,hi⟩:=List.exists_of_findSome?_eq_some h;exact Qi hi
theorem uS{r:Rel}(h:gC r=0):hP r.1=true/\r.2.length<=64/\uE r/\uI r.1 r.2 r.2.length=none/\(ic r).any qD=false/\(ic r).any (pC r.2)=false:=by
 unfold gC at h;split at h
 ·cases h
 ·rename_i b;split at h
  ·cases h
  ·rename_i f;split at h
   ·rename_i e a;exact absurd h (O0 a)
   ·rename_i a;split at h
    ·cases h
    ·rename_i c;split at h
     ·cases h
     ·rename_i d;exact⟨by simpa using b,by omega,uw (s:=r.1) (l:=r.2) a,a,by simpa using c,by simpa using d⟩
@[go_sem] def Qf:Spec:=⟨[c7],fun d=>(.a_ (.slice (.slice (.int .i64))) (if gC d.1=0 then ic d.1 else []),[gZ d.1])⟩
theorem aaR:c6 Tryz.prog 48 Qf:=by
 refine eT Gd Qf Tryz.func48 rfl (by decide) (N:=8) rfl (res:=[.tmp 2]) rfl (by decide) [] [] [] 100 (by kernel_rfl) ?_;rintro⟨r,_⟩ b a;refine⟨rfl,fun H c=>?_⟩;dsimp only[go_sem]at b a ⊢;obtain⟨a,-⟩:=a;refine⟨a,fun h=>?_,fun h=>⟨a,?_,?_,trivial⟩⟩
 ·have h:gC r≠0:=QF h;exact⟨by rw[QC h],trivial⟩
 ·have h:¬gC r≠0:=QN h;exact(uS (Rp.1 h)).2.2.1
 ·have h:¬gC r≠0:=QN h;rw[QJ (Rp.1 h)]
def zg(r:Rel):List (List Int):=if gC r=0 then ic r else []
@[go_sem] noncomputable def ERC:Env:=(ERB).add 48 Qf
theorem Jf:ERC.Ok:=(Gd).add aaR
@[go_sem] def Pc:Spec:=⟨[c7,.int .i64],fun d=>(.js (.cons (.a_ fT (if 0<=d.2.1/\d.2.1<((zg d.1).length:Int)then qf (1-gS d.1.2 ((zg d.1).getD d.2.1.toNat []))else(false,[],[]))) (.cons (.a_ .bool (decide (0<=d.2.1/\d.2.1<((zg d.1).length:Int)))) .nil)),[gZ d.1])⟩
theorem Pd:c6 Tryz.prog 47 Pc:=by
 refine eT Jf Pc Tryz.func47 rfl (by decide) (N:=25) rfl (res:=[.cell 4 35,.tmp 5]) rfl (by decide) [] [] [] 100 (by kernel_rfl) ?_;rintro⟨r,(k:Int),_⟩ i a;refine⟨rfl,fun H v=>?_⟩;dsimp only[go_sem]at i a ⊢;obtain⟨a,-⟩:=a;obtain⟨s,d,l⟩:=id a;have d:List.length r.2<=400:=d;have m:∀ t∈(r.2:List fy),q_ b8 t:=i.1.2.2;clear i;have o:(if gC r=0 then ic r else [])=zg r:=rfl;have e:∀ b∈zg r,b.length<=400/\∀ j∈b,0<=j/\j<(List.length r.2:Int):=by
  intro b f;unfold zg at f;split at f
  ·obtain⟨_,p,g⟩:=(wz r).2 b f;exact⟨by omega,g⟩
  ·cases f
 simp only[Su,R_,o];generalize zg r=B at e ⊢;have q:∀ j,B.getD j (zd (.slice (.int .i64)))=B.getD j []:=fun _=>rfl;simp only[q,jo];refine⟨a,fun h=>?_,fun h=>?_⟩<;>simp only[RE,RG,Qy,Qw]at h
 ·have h:k<0∨(B.length:Int)<=k:=h;have c:¬(0<=k/\k<(B.length:Int)):=by omega
  rw[QC c,Q4 c];and_intros<;>first|trivial|rfl
 ·have h:¬k<0/\¬(B.length:Int)<=k:=h;have c:0<=k/\k<(B.length:Int):=by omega
  have hk:k.toNat<B.length:=by omega
  obtain⟨p,g⟩:=e _ (fW [] hk);have w:=ou (n:=400) m (fun t u=>(l t u).2) g p;rw[QJ c,QY c];refine⟨c,a,p,g,?_,?_⟩
  ·rw[ig]; omega
  ·and_intros<;>first|trivial|rfl
@[go_sem] noncomputable def ERD:Env:=(ERC).add 47 Pc
theorem wI:ERD.Ok:=(Jf).add Pd
section
variable{E:Env}{w0 w1 w2:World}{X0 Y:Nat->Prop}{Bo:List Value}{N:Nat}{st st':St}{ρ:List Value}{a:Act}{w w':World}{P:Program}{ps:List Prop}{ck:List (Nat×CT)}{nx:Nat}
theorem Fr.aab(h:Fr w0 X0 Bo 0 ⟨[],ck,nx⟩ ρ gu w){ds:List Nat}{us:List Value}{T Ti:TypeId}{o:Bool}{t:Ty}{ll:List (List t.den)}{v':Value}(J:w'.os=w.os/\w'.tape=w.tape/\w'.output=w.output)(A:w.heap.size<=w'.heap.size)
    (B:∀ b,b<w.heap.size->w'.heap[b]?=w.heap[b]?) (K:w'.ownsRow 0 T 1 v' us.length us) (h1:∀ u∈us,u.oneCell'=true) (C:us.length=ll.length)
    (f:∀(i:Nat) (u:Value) (l:List t.den),us[i]?=some u->ll[i]?=some l->(Rw 0 (XX X0 ρ ck) w Ti t u l/\∀ b,fa u=some b->∃ y∈ck,y.1∈ds/\fk ρ y.1 b)∨((∀ Y,Rw 0 Y w' Ti t u l)/\∀ b,fa u=some b->w.heap.size<=b/\b<w'.heap.size))
    (r:∀(i j:Nat) (u S:Value),us[i]?=some u->us[j]?=some S->i≠j->∀ b,fa u=some b->fa S≠some b)
    (L:∀ b,fa v'=some b->w.heap.size<=b) (D:∀ u∈us,∀ b,fa u=some b->fa v'≠some b) :
    ∃ ρ',Fr w0 X0 Bo 0 ⟨[],(nx,.eW T o (nx+1) none)::(nx+1,.gv Ti t ll)::gw ck ds,nx+2⟩ ρ' gu w' /\
     (∀{y:AV}{us:List Value},m ρ (XX X0 ρ ck) w y us->m ρ' (XX X0 ρ' ((nx,.eW T o (nx+1) none)::(nx+1,.gv Ti t ll)::gw ck ds)) w' y us)/\ρ'[nx]?=some v':=by
 have F:ρ.length=nx:=h.nx;have s:(ρ++[v',Value.tuple us.toArray])[nx]?=some v':=by
  have:=qH (vs:=[v',Value.tuple us.toArray]) F 0;rwa [Se]at this
 have v:(ρ++[v',Value.tuple us.toArray])[nx+1]?=some (.tuple us.toArray):=qH (vs:=[v',Value.tuple us.toArray]) F 1;have k:∀ b,fk (ρ++[v',Value.tuple us.toArray]) nx b->fa v'=some b:=fun b c=>mK K (by rw[<-gi s]; exact c);have n:∀ b,fk (ρ++[v',Value.tuple us.toArray]) (nx+1) b->∃ u∈us,fa u=some b:=by
  intro b c;rw[gi v]at c;obtain⟨u,p,e⟩:=c;exact⟨u,p,e⟩
 have M:∀ u∈us,∀ b,fa u=some b->b<w'.heap.size/\((∃ y∈ck,y.1∈ds/\fk ρ y.1 b)∨w.heap.size<=b):=by
  intro u p b c;obtain⟨i,hi⟩:=RR.1 p;have W:i<us.length:=by
   rcases QA i us.length with O|O
   ·exact O
   ·rw[QD O]at hi; cases hi
  rcases f i u _ hi (Qr (by omega))with⟨_,I⟩|⟨_,I⟩
  ·obtain⟨y,z,Q,q⟩:=I b c;exact⟨QI (h.bl y z b q).1 A,.inl ⟨y,z,Q,q⟩⟩
  ·exact⟨(I b c).2,.inr (I b c).1⟩
 have G:∀ b,fa v'=some b->b<w'.heap.size:=by
  intro b e;rcases K.2 with⟨rfl,_⟩|⟨g,cap,X,rfl,_,Z,_⟩
  ·cases e
  ·cases e; exact b9 Z
 obtain⟨q1,q2⟩:=h.xh (ds:=ds) (new:=[(nx,.eW T o (nx+1) none),(nx+1,.gv Ti t ll)]) (vs:=[v',.tuple us.toArray]) (w':=w') J A (fun b c _=>B b c) (by simp) (by
     intro x d;simp only[Qv,QW,RV]at d;rcases d with rfl|rfl
     ·exact⟨.inr (Qu _),by simp⟩
     ·exact⟨.inr (Nat.le_succ _),by simp⟩) (by
     intro x d b c;simp only[Qv,QW,RV]at d;rcases d with rfl|rfl
     ·have:=k b c;exact⟨G b this,.inr (L b this)⟩
     ·obtain⟨u,p,e⟩:=n b c;exact M u p b e) (by
     intro x d y z H b U V;simp only[Qv,QW,RV]at d z;rcases d with rfl|rfl<;>rcases z with rfl|rfl
     ·exact H rfl
     ·obtain⟨u,p,e⟩:=n b V;exact D u p b e (k b U)
     ·obtain⟨u,p,e⟩:=n b U;exact D u p b e (k b V)
     ·exact H rfl) (by
     intro x d T l e;simp only[Qv,QW,RV]at d;rcases d with rfl|rfl<;>cases e) (by
     intro Y hY hE x d;simp only[Qv,QW,RV]at d;rcases d with rfl|rfl
     ·exact⟨v',us,us.toArray,s,v,K,h1,fun j _ _=>rfl⟩
     ·refine⟨us.toArray,v,C,fun i u l p hl=>?_,r⟩;rcases f i u l p hl with⟨R,g2⟩|⟨R,_⟩
      ·refine rP R hY hE fun b c=>?_;obtain⟨y,z,_,q⟩:=g2 b c;exact B b (h.bl y z b q).1
      ·exact R Y)
 exact⟨_,q1,fun hm=>q2 hm,s⟩
def Rd(B:Nat)(w:World)(v:Value)(n:Nat)(us:List Value):Prop:=(v=.slice none 0 0/\n=0)∨∃ d cap,v=.slice (some d) n cap/\∀ w':World,(∀ b,b<B->w'.heap[b]?=w.heap[b]?)->∀(j:Nat) (c:Value),us[j]?=some c->w'.cell? (d.add j)=some c
theorem E1{T i:TypeId}{v:Value}{n p:Nat}{us:List Value}(C:P.underlying i=some (.slice T)){te:TE}(G:b_ P T te)(t:te.ty.size=1)(H:w.ownsRow 0 T 1 v n us)(I:p<=n) :
    (∃ v1,(∀ w1,(Instr.sliceAt i v none (some (.int .i64 (p:Int))) none).run P w1=.ok v1 w1)/\Rd w.heap.size w v1 p (us.take p)) /\
    (∃ D,(∀ w1,(Instr.sliceAt i v (some (.int .i64 (p:Int))) none none).run P w1=.ok D w1)/\Rd w.heap.size w D (n-p) (us.drop p)):=by
 have o:P.elem i=T:=by unfold Program.elem; rw[C]
 have k:P.underlying i=some (.slice (P.elem i)):=by rw[o]; exact C
 obtain⟨J,hi,Q,K,l⟩:=G.info;have q:∀ w1,(sizeOf (P.elem i)).run P w1=.ok 1 w1:=fun w1=>by rw[o]; simp[sizeOf,typeInfo,hi,K,t]
 have key:∀(r:Option Addr) (len cap:Nat),p<=len->len<=cap->(∀ w1,(Instr.sliceAt i (.slice r len cap) none (some (.int .i64 (p:Int))) none).run P w1=.ok (sliced r 0 p cap 1) w1)/\∀ w1,(Instr.sliceAt i (.slice r len cap) (some (.int .i64 (p:Int))) none none).run P w1=.ok (sliced r p len cap 1) w1:=by
  intro r len cap h1 h2;constructor
  ·intro w1;rw[run_sliceAt_slice (h:=k),run_slice_h (ht:=k) (h0:=by omega) (h2:=by omega),q];simp[Result.andThen]
  ·intro w1;rw[run_sliceAt_slice (h:=k),run_slice_l (ht:=k) (h0:=by omega) (h1:=by omega),q];simp[Result.andThen]
 obtain⟨s,m⟩:=H;rw[Ry]at s;rcases m with⟨rfl,rfl⟩|⟨g,cap,L,rfl,_,F,u,M,O,x⟩
 ·have y:p=0:=by omega
  subst y;obtain⟨z,A⟩:=key none 0 0 (Qu _) (Qu _);exact⟨⟨_,z,.inl ⟨rfl,rfl⟩⟩,⟨_,A,.inl ⟨rfl,rfl⟩⟩⟩
 ·obtain⟨z,A⟩:=key (some ⟨g,0,none⟩) n cap I u;have f:∀ w':World,(∀ b,b<w.heap.size->w'.heap[b]?=w.heap[b]?)->∀(j:Nat) (c:Value),us[j]?=some c->w'.cell? ⟨g,j,none⟩=some c:=by
   intro w' l j c d;rw[<-x,Q1]at d;split at d
   ·simp[World.cell?,l g (b9 F),F];simpa using d
   ·cases d
  refine⟨⟨_,z,.inr ⟨⟨g,0,none⟩,cap,?_,fun w' l j c d=>?_⟩⟩,⟨_,A,?_⟩⟩
  ·unfold sliced;rcases Sc cap with e|e
   ·rw[QJ e]; simp
   ·rw[QC (by omega)]; simp[Ri]
  ·rw[Ri,Q8];rw[Q1]at d;split at d
   ·exact f w' l j c d
   ·cases d
  ·unfold sliced;by_cases e:cap=p
   ·have B:n=p:=by omega
    subst B;rw[QJ e];refine .inr ⟨_,_,rfl,fun w' l j c d=>?_⟩;rw[Rl (by omega)]at d;cases d
   ·rw[QC e];refine .inr ⟨_,_,rfl,fun w' l j c d=>?_⟩;show w'.cell? ((Addr.add ⟨g,0,none⟩ (p*1)).add j)=some c;rw[Ry,Ri,Ri,Q8];rw[Rg]at d;exact f w' l _ c d
theorem Rd.src{B:Nat}{v:Value}{n:Nat}{us:List Value}(h:Rd B w v n us)(e:∀ b,b<B->w'.heap[b]?=w.heap[b]?):(v=.slice none 0 0/\n=0)∨∃ d cap,v=.slice (some d) n cap/\∀(j:Nat) (c:Value),us[j]?=some c->w'.cell? (d.add j)=some c:=by
 rcases h with h|⟨d,cap,f,g⟩
 ·exact .inl h
 ·exact .inr ⟨d,cap,f,g w' e⟩
theorem lW{ops:Array Oper}{o:Oper}{rest:List Oper}{v:Value}{Q:Exit->Act->World->Prop}(b:o.guard=none)(c:(execOp a.eval o).run P w=.ok (.value v) w')(h:wpList P ops Q rest (a.put o.dst v) w'):wpList P ops Q (o::rest) a w:=Us b fun K d=>pF c (d _ _ h)
theorem tR{Tss T:TypeId}{g:TE}{B:Nat}{v u:Value}{n m:Nat}{xs news:List Value}{ty:TypeId}(t:P.underlying Tss=some (.slice T))(x:b_ P T g)(d:g.ty.size=1)(i:g.bytes<=1000)(y:B<=w.heap.size)(l:w.ownsRow B T 1 v n xs)(z:news.length=m)(h1:∀ c∈news,c.oneCell'=true)
    (A:(u=.slice none 0 0/\m=0)∨∃ q cap,u=.slice (some q) m cap/\∀(j:Nat) (c:Value),news[j]?=some c->w.cell? (q.add j)=some c) (C:n+m<=10000000) :
    ∃ v' w',(Builtin.append_ #[Tss,Tss] ty #[v,u]).run P w=.ok v' w'/\w'.ownsRow B T 1 v' (n+m) (xs++news)/\Below B w w'/\(∀ k,k<w.heap.size->fa v≠some k->w'.heap[k]?=w.heap[k]?)/\∀ b,fa v'=some b->fa v=some b∨w.heap.size<=b:=by
 have o:w.ownsRow B T g.ty.size v n xs:=by rw[d]; exact l
 have r:(n+m)*g.bytes<=10000000*1000:=Nat.mul_le_mul C i;obtain⟨v',w',D,s,f,F⟩:=gg (P:=P) (w:=w) (ty:=ty) t x y (by omega) o (u:=u) (news:=news) (m:=m) (by rw[d,Ry]; exact z) h1 A (by simp only[maxLen]; omega) (by omega);rw[d]at s;have h:=Fm (gb l);refine⟨v',w',D,s,⟨f.os,f.tape,f.output,f.size,fun k hk=>f.block k (by omega) fun e=>?_⟩,fun k hk p=>f.block k hk fun e=>p (by rw[<-h]; exact e.symm),F⟩;have:=ob l k (by rw[<-h]; exact e.symm);omega
theorem C9{T e:TypeId}{te:TE}(g:P.underlying T=some (.slice e))(h:b_ P e te)(b:te.ty.size=1){v:Value}(j:v.cells=#[v]):(Instr.buildSlice T 1 #[(0,v)]).run P w=.ok (.slice (some ⟨w.heap.size,0,none⟩) 1 1) (w.alloc (.cells #[v] e)):=by
 obtain⟨c,hi,k,d,n⟩:=h.info;refine UF w T e 1 #[(0,v)] #[v] c _ g hi k (by rw[d,b]; decide) (by rw[d,b]; decide) ?_;have l:(te.ty.wrap (zc te.ty)).cells.size=1:=by rw[fu (fw _) (gm _)]; simp[fw,b]
 rw[d,b];have key:∀ f:Nat->Value,((Array.range 1).map f).setIfInBounds 0 v=#[v]:=fun f=>by
  apply Vf
  ·simp
  ·intro i o m;have:i=0:=by simp at m; omega
   subst this;simp
 simp[Instr.fill,j,key]
theorem J5{T e:TypeId}{te:TE}(c:P.underlying T=some (.slice e))(d:b_ P e te):(Instr.buildSlice T 0 #[]).run P w=.ok (.slice (some ⟨w.heap.size,0,none⟩) 0 0) (w.alloc (.cells #[] e)):=by
 obtain⟨f,hi,g,h,i⟩:=d.info;have b:Array.map (fun(_:Nat)=>(default:Value)) (Array.range 0)=#[]:=by apply Vf<;>simp
 simp[Instr.buildSlice,Rb c,sizeOf,typeInfo,hi,Instr.fill,newRow,b]
theorem Fh(hE:E.Ok)(bu:∀ b,X0 b->b<w0.heap.size)(h:Fr w0 X0 Bo N st ρ a w){r1 r2:Nat}{Tss T Ti:TypeId}{es ei:TE}(aD:E.P.underlying Tss=some (.slice T))(bv:E.P.underlying T=some (.slice Ti))(aE:b_ E.P T es)(bx:b_ E.P Ti ei)(aI:es.ty.size=1)(aU:es.bytes<=1000)(bz:ei.ty.size=1)
    {bA bB bC bD bd bE ah ai aj ak B F G H C I:TypeId}{bF bG bH bI bJ bK al an ao aq K M R S U V:String}{bL bM bN bO bP bQ ar au av aw W X aa ab ac ad:Array Edge}
    {c d n p:Nat}{i:Int}{o:Bool}{ll:List (List Int)} (g3:get? st.sl 3=some (.iE c n)) (g7:get? st.sl 7=some (.a_ (.int .i64) (p:Int))) (g5:get? st.sl 5=some (.a_ (.int .i64) i))
    (bR:get? st.ck c=some (.eW T o d none)) (bS:get? st.ck d=some (.gv Ti (.int .i64) ll)) (hl:ll.length=n) (hp:p<=n) (hn:n<=1000000) (hN:91<N)
    (be:ES [⟨some 82,.move (.tmp 10),ah,al,ar,none⟩,⟨some 83,.move (.tmp 5),ai,an,au,none⟩,⟨some 84,.buildSlice T 1 #[(0,.tmp 83)],aj,ao,av,none⟩,⟨some 85,.buildSlice Tss 1 #[(0,.tmp 84)],ak,aq,aw,none⟩,⟨some 86,.call { callee:=.builtin .append,args:=#[.tmp 82,.tmp 85],argTypes:=#[Tss,Tss] },B,K,W,none⟩,⟨some 87,.move (.tmp 3),F,M,X,none⟩,⟨some 88,.move (.tmp 7),G,R,aa,none⟩,⟨some 89,.slice Tss (.tmp 87) (some (.tmp 88)) none none,H,S,ab,none⟩,⟨some 90,.call { callee:=.builtin .append,args:=#[.tmp 86,.tmp 89],argTypes:=#[Tss,Tss] },C,U,ac,none⟩,⟨some 3,.assign (.tmp 90),I,V,ad,none⟩] [0,0,2,6,15,0,0,96,255,511] [[(10,none)],[(5,none)],[(83,some 1)],[(84,some 2)],[(82,some 0),(85,some 3)],[(3,none)],[(7,none)],[(87,some 5),(88,some 6)],[(86,some 4),(89,some 7)],[(90,some 8)]] N=true)
    (bT:mP [⟨some 82,.move (.tmp 10),ah,al,ar,none⟩,⟨some 83,.move (.tmp 5),ai,an,au,none⟩,⟨some 84,.buildSlice T 1 #[(0,.tmp 83)],aj,ao,av,none⟩,⟨some 85,.buildSlice Tss 1 #[(0,.tmp 84)],ak,aq,aw,none⟩,⟨some 86,.call { callee:=.builtin .append,args:=#[.tmp 82,.tmp 85],argTypes:=#[Tss,Tss] },B,K,W,none⟩,⟨some 87,.move (.tmp 3),F,M,X,none⟩,⟨some 88,.move (.tmp 7),G,R,aa,none⟩,⟨some 89,.slice Tss (.tmp 87) (some (.tmp 88)) none none,H,S,ab,none⟩,⟨some 90,.call { callee:=.builtin .append,args:=#[.tmp 86,.tmp 89],argTypes:=#[Tss,Tss] },C,U,ac,none⟩,⟨some 3,.assign (.tmp 90),I,V,ad,none⟩] [0,0,2,6,15,0,0,96,255,511] 10=true)
    {sl:List (Nat×AV)} (bU:∀ t x,get? sl t=some x->get? st.sl t=some x/\t<N/\t≠3/\t≠10/\¬(77<=t/\t<=90))
    {k:List It}{Q:Exit->Act->World->Prop} (hQ:∀ ρ' a' w',Fr w0 X0 Bo N ⟨(3,.iE st.nx (n+1))::sl,(st.nx,.eW T o (st.nx+1) none)::(st.nx+1,.gv Ti (.int .i64) (fB ll p [[i]]))::gw st.ck [c,d],st.nx+2⟩ ρ' a' w'->me E.P Q k .normal a' w') :
    me E.P Q (.code (.region r1 #[⟨some 77,.buildSlice Tss 0 #[],bA,bF,bL,none⟩,⟨some 78,.move (.tmp 3),bB,bG,bM,none⟩,⟨some 79,.move (.tmp 7),bC,bH,bN,none⟩,⟨some 80,.slice Tss (.tmp 78) none (some (.tmp 79)) none,bD,bI,bO,none⟩,⟨some 81,.call { callee:=.builtin .append,args:=#[.tmp 77,.tmp 80],argTypes:=#[Tss,Tss] },bd,bJ,bP,none⟩,⟨some 10,.assign (.tmp 81),bE,bK,bQ,none⟩] false)::.code (.region r2 #[⟨some 82,.move (.tmp 10),ah,al,ar,none⟩,⟨some 83,.move (.tmp 5),ai,an,au,none⟩,⟨some 84,.buildSlice T 1 #[(0,.tmp 83)],aj,ao,av,none⟩,⟨some 85,.buildSlice Tss 1 #[(0,.tmp 84)],ak,aq,aw,none⟩,⟨some 86,.call { callee:=.builtin .append,args:=#[.tmp 82,.tmp 85],argTypes:=#[Tss,Tss] },B,K,W,none⟩,⟨some 87,.move (.tmp 3),F,M,X,none⟩,⟨some 88,.move (.tmp 7),G,R,aa,none⟩,⟨some 89,.slice Tss (.tmp 87) (some (.tmp 88)) none none,H,S,ab,none⟩,⟨some 90,.call { callee:=.builtin .append,args:=#[.tmp 86,.tmp 89],argTypes:=#[Tss,Tss] },C,U,ac,none⟩,⟨some 3,.assign (.tmp 90),I,V,ad,none⟩] true)::k) .normal a w:=by
 have hw:=h.wd bu;have bV:=b7 bR;have aP:=b7 bS;obtain⟨vc,bW,c1,c2,c3,c4⟩:=kP (hw.cs _ bV);obtain⟨cv,b1,b2,b3,b4⟩:=id (hw.cs _ aP);rw[c2]at b1;cases b1;obtain⟨v0,x1,x2,x3⟩:=h.sl _ _ g3;rw[c1]at x1;cases x1;have bg:gt a 3=vc:=(QB x3).1;have bh:gt a 7=.int .i64 (p:Int):=(fI (h.sl _ _ g7)).1;have bX:gt a 5=.int .i64 i:=(fI (h.sl _ _ g5)).1;have bY:gG .i64 i:=(fI (h.sl _ _ g5)).2;generalize bZ:bW.toList=us at c3 c4 b2 b3 b4;rw[b2,hl]at c3;rw[hl]at b2;have ca:=h.sz;have q1:=J5 (w:=w) aD aE;have aQ:=fC w (.cells #[] T);have aV:=To (e:=T) (size:=1) (base:=w.heap.size) w #[] 0 (Qu _) (by simp[maxLen]) (by simp);generalize cy:w.alloc (.cells #[] T)=w1 at q1 aQ aV;generalize cw:Value.slice (some ⟨w.heap.size,0,none⟩) 0 0=v77 at q1 aV;obtain⟨⟨v80,cb,bi⟩,⟨aJ,cc,bj⟩⟩:=E1 aD aE aI c3 hp;have aW:∀ u∈us,u.oneCell'=true:=c4;have cd:(us.take p).length=p:=by rw[QM]; omega
 have cf:(us.drop p).length=n-p:=by rw[Q5]; omega
 obtain⟨ae,w2,cg,aB,ch,cA,cx⟩:=tR (w:=w1) (ty:=bd) aD aE aI aU aQ.size (by simpa using aV) (n:=0) (u:=v80) (news:=us.take p) (m:=p) cd (fun u A=>aW u (RB A)) (bi.src fun b hb=>aQ.block b hb) (by omega);rw[Q8]at aB;have aB:w2.ownsRow w.heap.size T 1 ae p (us.take p):=by simpa using aB
 have bw:Below w.heap.size w w2:=aQ.trans ch;have key:∀ a6:Act,a6.defers=[]->a6.tmps.size=N->gt a6 10=ae->gt a6 3=vc->gt a6 5=.int .i64 i->gt a6 7=.int .i64 (p:Int)->(∀ t,t<N->t≠10->¬(77<=t/\t<=90)->gt a6 t=gt a t)->(Code.region r2 #[⟨some 82,.move (.tmp 10),ah,al,ar,none⟩,⟨some 83,.move (.tmp 5),ai,an,au,none⟩,⟨some 84,.buildSlice T 1 #[(0,.tmp 83)],aj,ao,av,none⟩,⟨some 85,.buildSlice Tss 1 #[(0,.tmp 84)],ak,aq,aw,none⟩,⟨some 86,.call { callee:=.builtin .append,args:=#[.tmp 82,.tmp 85],argTypes:=#[Tss,Tss] },B,K,W,none⟩,⟨some 87,.move (.tmp 3),F,M,X,none⟩,⟨some 88,.move (.tmp 7),G,R,aa,none⟩,⟨some 89,.slice Tss (.tmp 87) (some (.tmp 88)) none none,H,S,ab,none⟩,⟨some 90,.call { callee:=.builtin .append,args:=#[.tmp 86,.tmp 89],argTypes:=#[Tss,Tss] },C,U,ac,none⟩,⟨some 3,.assign (.tmp 90),I,V,ad,none⟩] true).wp E.P (me E.P Q k) a6 w2:=by
  intro a6 cj aK bk cl cn cp cq
  let O:(Nat->Bool)->Prop:=fun L=>(L 3=true->L 2=true)/\(L 4=true->L 3=true)/\(L 8=true->L 4=true)
  let Sg:(Nat->Bool)->(Nat->Value)->World->Prop:=fun L val w' =>
   (L 2=false->w'.ownsRow w.heap.size T 1 ae p (us.take p)) /\
   (L 2=true->∃ b,val 2=.slice (some ⟨b,0,none⟩) 1 1/\w.heap.size<=b/\w'.heap[b]?=some (.cells #[.int .i64 i] Ti (0,0)) /\
    (L 4=false->w'.ownsRow w.heap.size T 1 ae p (us.take p)/\fa ae≠some b/\(L 3=true->∃ b3,val 3=.slice (some ⟨b3,0,none⟩) 1 1/\w'.heap[b3]?=some (.cells #[val 2] T (0,0)))) /\
    (L 4=true->L 8=false->w'.ownsRow w.heap.size T 1 (val 4) (p+1) (us.take p++[val 2])/\fa (val 4)≠some b) /\
    (L 8=true->w'.ownsRow w.heap.size T 1 (val 8) (n+1) (us.take p++[val 2]++us.drop p)/\fa (val 8)≠some b))
  let J:(Nat->Bool)->(Nat->Value)->World->Prop:=fun L val w'=>Below w.heap.size w w'/\(L 0=true->val 0=ae)/\(L 1=true->val 1=.int .i64 i)/\(L 5=true->val 5=vc)/\(L 6=true->val 6=.int .i64 (p:Int))/\(L 7=true->val 7=aJ)/\(L 9=true->L 8=true/\val 9=val 8)/\O L/\Sg L val w'
  have same:∀{L L':Nat->Bool}{val val':Nat->Value}{w':World},L' 2=L 2->L' 3=L 3->L' 4=L 4->L' 8=L 8->val' 2=val 2->val' 3=val 3->val' 4=val 4->val' 8=val 8->O L->Sg L val w'->O L'/\Sg L' val' w':=by
   intro L L' val val' w' a2 a3 a4 a8 f2 f3 f4 f8 ho hs;refine⟨?_,?_⟩
   ·show(L' 3=true->L' 2=true)/\(L' 4=true->L' 3=true)/\(L' 8=true->L' 4=true);rw[a2,a3,a4,a8]; exact ho
   ·dsimp only[Sg]at hs ⊢;rw[a2,a3,a4,a8,f2,f3,f4,f8];exact hs
  have f:∀{L:Nat->Bool}{i j:Nat},i≠j->up L j i=L i:=fun{L i j} aX=>by simp[up,aX]
  have z:∀{val:Nat->Value}{i j:Nat}{v:Value},i≠j->gf val j v i=val i:=fun{val i j v} aX=>by simp[gf,aX]
  have aR:∀{L:Nat->Bool}{j:Nat},up L j j=true:=fun{L j}=>by simp[up]
  have ax:∀{val:Nat->Value}{j:Nat}{v:Value},gf val j v j=v:=fun{val j v}=>by simp[gf]
  have pure:∀{L:Nat->Bool}{val:Nat->Value}{w':World} (j:Nat) (v:Value),J L val w'->j≠2->j≠3->j≠4->j≠8->(j=0->v=ae)->(j=1->v=.int .i64 i)->(j=5->v=vc)->(j=6->v=.int .i64 (p:Int))->(j=7->v=aJ)->(j=9->L 8=true/\v=val 8)->J (up L j) (gf val j v) w':=by
   rintro L val w' j v ⟨hb,m0,m1,m5,m6,m7,m9,mo,ms⟩ n2 n3 n4 n8 a0 a1 a5 a6 a7 a9;have one:∀(i:Nat) (x:Value),(j=i->v=x)->(L i=true->val i=x)->up L j i=true->gf val j v i=x:=by
    intro i x hx hi A;by_cases e:i=j
    ·subst e; rw[ax]; exact hx rfl
    ·rw[f e]at A; rw[z e]; exact hi A
   have s:=same (L':=up L j) (val':=gf val j v) (f (RN n2)) (f (RN n3)) (f (RN n4)) (f (RN n8)) (z (RN n2)) (z (RN n3)) (z (RN n4)) (z (RN n8)) mo ms;refine⟨hb,one 0 _ a0 m0,one 1 _ a1 m1,one 5 _ a5 m5,one 6 _ a6 m6,one 7 _ a7 m7,fun A=>?_,s.1,s.2⟩;rw[f (RN n8),z (RN n8)];by_cases e:9=j
   ·subst e; rw[ax]; exact a9 rfl
   ·rw[f e]at A; rw[z e]; exact m9 A
  have aS:∀{L:Nat->Bool}{val:Nat->Value}{w' ay:World} (j:Nat) (v:Value),J L val w'->(j=2∨j=3∨j=4∨j=8)->L 9=false->Below w.heap.size w ay->O (up L j)->Sg (up L j) (gf val j v) ay->J (up L j) (gf val j v) ay:=by
   rintro L val w' ay j v ⟨hb,m0,m1,m5,m6,m7,m9,mo,ms⟩ hj h9 af ho hs;have one:∀(i:Nat) (x:Value),i≠j->(L i=true->val i=x)->up L j i=true->gf val j v i=x:=by
    intro i x e hi A;rw[f e]at A; rw[z e]; exact hi A
   refine⟨af,one 0 _ (by omega) m0,one 1 _ (by omega) m1,one 5 _ (by omega) m5,one 6 _ (by omega) m6,one 7 _ (by omega) m7,fun A=>?_,ho,hs⟩;rw[f (by omega),h9]at A;cases A
  have aF:∀{w':World}{b:Nat}{x:Value}{T':TypeId},w'.heap[b]?=some (.cells #[x] T' (0,0))->∀(j:Nat) (c:Value),[x][j]?=some c->w'.cell? ((⟨b,0,none⟩:Addr).add j)=some c:=by
   intro w' b x T' hh j c hj;rw[Ri,Q8];cases j with
   | zero=>simp[World.cell?,hh]; simpa using hj
   | succ j=>simp at hj
  have ng:∀{o:Oper}{a':Act},o.guard=none->∀{Z:Prop},¬qm [⟨some 82,.move (.tmp 10),ah,al,ar,none⟩,⟨some 83,.move (.tmp 5),ai,an,au,none⟩,⟨some 84,.buildSlice T 1 #[(0,.tmp 83)],aj,ao,av,none⟩,⟨some 85,.buildSlice Tss 1 #[(0,.tmp 84)],ak,aq,aw,none⟩,⟨some 86,.call { callee:=.builtin .append,args:=#[.tmp 82,.tmp 85],argTypes:=#[Tss,Tss] },B,K,W,none⟩,⟨some 87,.move (.tmp 3),F,M,X,none⟩,⟨some 88,.move (.tmp 7),G,R,aa,none⟩,⟨some 89,.slice Tss (.tmp 87) (some (.tmp 88)) none none,H,S,ab,none⟩,⟨some 90,.call { callee:=.builtin .append,args:=#[.tmp 86,.tmp 89],argTypes:=#[Tss,Tss] },C,U,ac,none⟩,⟨some 3,.assign (.tmp 90),I,V,ad,none⟩].toArray o a'->Z:=fun{o a'} hg {Z} hn=>absurd (by unfold qm; rw[hg]; trivial) hn;refine pN (l:=[⟨some 82,.move (.tmp 10),ah,al,ar,none⟩,⟨some 83,.move (.tmp 5),ai,an,au,none⟩,⟨some 84,.buildSlice T 1 #[(0,.tmp 83)],aj,ao,av,none⟩,⟨some 85,.buildSlice Tss 1 #[(0,.tmp 84)],ak,aq,aw,none⟩,⟨some 86,.call { callee:=.builtin .append,args:=#[.tmp 82,.tmp 85],argTypes:=#[Tss,Tss] },B,K,W,none⟩,⟨some 87,.move (.tmp 3),F,M,X,none⟩,⟨some 88,.move (.tmp 7),G,R,aa,none⟩,⟨some 89,.slice Tss (.tmp 87) (some (.tmp 88)) none none,H,S,ab,none⟩,⟨some 90,.call { callee:=.builtin .append,args:=#[.tmp 86,.tmp 89],argTypes:=#[Tss,Tss] },C,U,ac,none⟩,⟨some 3,.assign (.tmp 90),I,V,ad,none⟩]) (a0:=a6) (w0:=w2) hE.mx J _ _ 10 aK be bT ?_ ?_ ?_
  ·exact⟨⟨bw.os,bw.tape,bw.output,bw.size,bw.block⟩,(fun h=>by cases h),(fun h=>by cases h),(fun h=>by cases h),(fun h=>by cases h),(fun h=>by cases h),(fun h=>by cases h),⟨(fun h=>by cases h),(fun h=>by cases h),(fun h=>by cases h)⟩,(fun _=>gl aB fun _ _=>rfl),(fun h=>by cases h)⟩
  ·intro j o hj ho L val a' w' hJ hL y hr;obtain⟨hb,m0,m1,m5,m6,m7,m9,⟨o1,o2,o3⟩,bm,aG⟩:=hJ;have hJ:J L val w':=⟨hb,m0,m1,m5,m6,m7,m9,⟨o1,o2,o3⟩,bm,aG⟩;have aL:j=0∨j=1∨j=2∨j=3∨j=4∨j=5∨j=6∨j=7∨j=8∨j=9:=by omega
   have ff:∀{x:Bool},(x=true->False)->x=false:=fun{x} h=>by
    cases x with
    | false=>rfl
    | true=>exact(h rfl).elim
   rcases aL with rfl|rfl|rfl|rfl|rfl|rfl|rfl|rfl|rfl|rfl<;>cases ho
   ·have hg:a'.eval (.tmp 10)=ae:=(hr (10,none) (by simp)).trans bk;exact⟨fun _=>eM (v:=ae) (w':=w') (by simp[execOp,hg]) (pure 0 ae hJ (by omega) (by omega) (by omega) (by omega) (fun _=>rfl) (fun h=>by omega) (fun h=>by omega) (fun h=>by omega) (fun h=>by omega) (fun h=>by omega)),ng rfl⟩
   ·have hg:a'.eval (.tmp 5)=.int .i64 i:=(hr (5,none) (by simp)).trans cn;exact⟨fun _=>eM (v:=.int .i64 i) (w':=w') (by simp[execOp,hg]) (pure 1 _ hJ (by omega) (by omega) (by omega) (by omega) (fun h=>by omega) (fun _=>rfl) (fun h=>by omega) (fun h=>by omega) (fun h=>by omega) (fun h=>by omega)),ng rfl⟩
   ·have hg:a'.eval (.tmp 83)=.int .i64 i:=(hr (83,some 1) (by simp)).trans (m1 (y 1 (by decide)));have l3:L 3=false:=ff fun h=>by have:=o1 h; rw[hL]at this; cases this
    have l4:L 4=false:=ff fun h=>by have:=o2 h; rw[l3]at this; cases this
    have l8:L 8=false:=ff fun h=>by have:=o3 h; rw[l4]at this; cases this
    have r:=bm hL;have hq:=C9 (w:=w') bv bx bz (v:=.int .i64 i) rfl;have aH:=fC w' (.cells #[Value.int .i64 i] Ti);have az:(w'.alloc (.cells #[Value.int .i64 i] Ti)).heap[w'.heap.size]?=some (.cells #[Value.int .i64 i] Ti (0,0)):=S_ w' _;have aT:∀ b,fa ae=some b->b<w'.heap.size:=fun b e=>by
     rcases r.2 with⟨e2,_⟩|⟨g,cap,aY,e2,_,hh,_⟩
     ·rw[e2]at e; cases e
     ·rw[e2]at e; cases e; exact b9 hh
    have aA:=gl (w':=w'.alloc (.cells #[Value.int .i64 i] Ti)) r fun b e=>aH.block b (aT b e);refine⟨fun _=>eM (v:=.slice (some ⟨w'.heap.size,0,none⟩) 1 1) (w':=w'.alloc (.cells #[.int .i64 i] Ti)) ?_ (aS 2 _ hJ (.inl rfl) ?_ (hb.trans (aH.mono hb.size)) ?_ ?_),ng rfl⟩
    ·simp[execOp,hg,hq]
    ·exact ff fun h=>by have:=(m9 h).1; rw[l8]at this; cases this
    ·exact⟨fun _=>aR,(fun h=>by rw[f (by omega),l4]at h; cases h),(fun h=>by rw[f (by omega),l8]at h; cases h)⟩
    ·refine⟨(fun h=>by rw[aR]at h; cases h),fun _=>⟨w'.heap.size,ax,hb.size,az,fun _=>⟨aA,(fun e=>by have:=aT _ e; omega),(fun h=>by rw[f (by omega),l3]at h; cases h)⟩,(fun h=>by rw[f (by omega),l4]at h; cases h),(fun h=>by rw[f (by omega),l8]at h; cases h)⟩⟩
   ·have l2:=y 2 (by decide);have hg:a'.eval (.tmp 84)=val 2:=hr (84,some 2) (by simp);have l4:L 4=false:=ff fun h=>by have:=o2 h; rw[hL]at this; cases this
    have l8:L 8=false:=ff fun h=>by have:=o3 h; rw[l4]at this; cases this
    obtain⟨b,k1,k2,k3,k4,_,_⟩:=aG l2;obtain⟨r,k5,_⟩:=k4 l4;have hq:=C9 (w:=w') aD aE aI (v:=val 2) (by rw[k1]; rfl);have aH:=fC w' (.cells #[val 2] T);have az:(w'.alloc (.cells #[val 2] T)).heap[w'.heap.size]?=some (.cells #[val 2] T (0,0)):=S_ w' _;have aT:∀ b,fa ae=some b->b<w'.heap.size:=fun b e=>by
     rcases r.2 with⟨e2,_⟩|⟨g,cap,aY,e2,_,hh,_⟩
     ·rw[e2]at e; cases e
     ·rw[e2]at e; cases e; exact b9 hh
    have aA:=gl (w':=w'.alloc (.cells #[val 2] T)) r fun b e=>aH.block b (aT b e);refine⟨fun _=>eM (v:=.slice (some ⟨w'.heap.size,0,none⟩) 1 1) (w':=w'.alloc (.cells #[val 2] T)) ?_ (aS 3 _ hJ (.inr (.inl rfl)) ?_ (hb.trans (aH.mono hb.size)) ?_ ?_),ng rfl⟩
    ·simp[execOp,hg,hq]
    ·exact ff fun h=>by have:=(m9 h).1; rw[l8]at this; cases this
    ·exact⟨(fun _=>by rw[f (by omega)]; exact l2),(fun h=>by rw[f (by omega),l4]at h; cases h),(fun h=>by rw[f (by omega),l8]at h; cases h)⟩
    ·refine⟨(fun h=>by rw[f (by omega),l2]at h; cases h),fun _=>⟨b,by rw[z (by omega)]; exact k1,k2,(aH.block b (b9 k3)).trans k3,fun _=>⟨aA,k5,fun _=>⟨w'.heap.size,ax,?_⟩⟩,(fun h=>by rw[f (by omega),l4]at h; cases h),(fun h=>by rw[f (by omega),l8]at h; cases h)⟩⟩;rw[z (by omega)];exact az
   ·have l2:=y 2 (by decide);have l3:=y 3 (by decide);have aM:a'.eval (.tmp 82)=ae:=(hr (82,some 0) (by simp)).trans (m0 (y 0 (by decide)));have aN:a'.eval (.tmp 85)=val 3:=hr (85,some 3) (by simp);have l8:L 8=false:=ff fun h=>by have:=o3 h; rw[hL]at this; cases this
    obtain⟨b,k1,k2,k3,k4,_,_⟩:=aG l2;obtain⟨r,k5,k6⟩:=k4 hL;obtain⟨b3,k7,k8⟩:=k6 l3;have bn:(val 2).oneCell'=true:=by rw[k1]; rfl
    obtain⟨v',ay,r1,r2,r3,r4,r5⟩:=tR (w:=w') (ty:=B) aD aE aI aU hb.size r (u:=val 3) (news:=[val 2]) (m:=1) rfl (fun c hc=>by rw[RH]at hc; rw[hc]; exact bn) (.inr ⟨_,_,k7,aF k8⟩) (by omega);have aZ:fa v'≠some b:=fun e=>by
     rcases r5 b e with e2|e2
     ·exact k5 e2
     ·have:=b9 k3; omega
    refine⟨fun _=>eM (v:=v') (w':=ay) ?_ (aS 4 _ hJ (.inr (.inr (.inl rfl))) ?_ (hb.trans r3) ?_ ?_),ng rfl⟩
    ·refine ja ?_;rw[aM,aN]; exact r1
    ·exact ff fun h=>by have:=(m9 h).1; rw[l8]at this; cases this
    ·exact⟨(fun _=>by rw[f (by omega)]; exact l2),(fun _=>by rw[f (by omega)]; exact l3),(fun h=>by rw[f (by omega),l8]at h; cases h)⟩
    ·refine⟨(fun h=>by rw[f (by omega),l2]at h; cases h),fun _=>⟨b,by rw[z (by omega)]; exact k1,k2,(r4 b (b9 k3) k5).trans k3,(fun h=>by rw[aR]at h; cases h),fun _ _=>?_,(fun h=>by rw[f (by omega),l8]at h; cases h)⟩⟩;rw[ax,z (by omega)];exact⟨r2,aZ⟩
   ·have hg:a'.eval (.tmp 3)=vc:=(hr (3,none) (by simp)).trans cl;exact⟨fun _=>eM (v:=vc) (w':=w') (by simp[execOp,hg]) (pure 5 _ hJ (by omega) (by omega) (by omega) (by omega) (fun h=>by omega) (fun h=>by omega) (fun _=>rfl) (fun h=>by omega) (fun h=>by omega) (fun h=>by omega)),ng rfl⟩
   ·have hg:a'.eval (.tmp 7)=.int .i64 (p:Int):=(hr (7,none) (by simp)).trans cp;exact⟨fun _=>eM (v:=.int .i64 (p:Int)) (w':=w') (by simp[execOp,hg]) (pure 6 _ hJ (by omega) (by omega) (by omega) (by omega) (fun h=>by omega) (fun h=>by omega) (fun h=>by omega) (fun _=>rfl) (fun h=>by omega) (fun h=>by omega)),ng rfl⟩
   ·have aM:a'.eval (.tmp 87)=vc:=(hr (87,some 5) (by simp)).trans (m5 (y 5 (by decide)));have aN:a'.eval (.tmp 88)=.int .i64 (p:Int):=(hr (88,some 6) (by simp)).trans (m6 (y 6 (by decide)));exact⟨fun _=>eM (v:=aJ) (w':=w') (by simp[execOp,aM,aN,cc w']) (pure 7 _ hJ (by omega) (by omega) (by omega) (by omega) (fun h=>by omega) (fun h=>by omega) (fun h=>by omega) (fun h=>by omega) (fun _=>rfl) (fun h=>by omega)),ng rfl⟩
   ·have l2:=o1 (o2 (y 4 (by decide)));have l4:=y 4 (by decide);have aM:a'.eval (.tmp 86)=val 4:=hr (86,some 4) (by simp);have aN:a'.eval (.tmp 89)=aJ:=(hr (89,some 7) (by simp)).trans (m7 (y 7 (by decide)));obtain⟨b,k1,k2,k3,_,k4,_⟩:=aG l2;obtain⟨r,k5⟩:=k4 l4 hL;obtain⟨v',ay,r1,r2,r3,r4,r5⟩:=tR (w:=w') (ty:=C) aD aE aI aU hb.size r (u:=aJ) (news:=us.drop p) (m:=n-p) cf (fun u A=>aW u (Rh A)) (bj.src hb.block) (by omega);rw[show p+1+(n-p)=n+1 by omega]at r2;have aZ:fa v'≠some b:=fun e=>by
     rcases r5 b e with e2|e2
     ·exact k5 e2
     ·have:=b9 k3; omega
    refine⟨fun _=>eM (v:=v') (w':=ay) ?_ (aS 8 _ hJ (.inr (.inr (.inr rfl))) ?_ (hb.trans r3) ?_ ?_),ng rfl⟩
    ·refine ja ?_;rw[aM,aN]; exact r1
    ·exact ff fun h=>by have:=(m9 h).1; rw[hL]at this; cases this
    ·exact⟨(fun h=>by rw[f (by omega)]at h ⊢; exact o1 h),(fun h=>by rw[f (by omega)]at h ⊢; exact o2 h),(fun _=>by rw[f (by omega)]; exact l4)⟩
    ·refine⟨(fun h=>by rw[f (by omega),l2]at h; cases h),fun _=>⟨b,by rw[z (by omega)]; exact k1,k2,(r4 b (b9 k3) k5).trans k3,(fun h=>by rw[f (by omega),l4]at h; cases h),(fun _ h=>by rw[aR]at h; cases h),fun _=>?_⟩⟩;rw[ax,z (by omega)];exact⟨r2,aZ⟩
   ·have hg:a'.eval (.tmp 90)=val 8:=hr (90,some 8) (by simp);exact⟨fun _=>eM (v:=val 8) (w':=w') (by simp[execOp,hg]) (pure 9 _ hJ (by omega) (by omega) (by omega) (by omega) (fun h=>by omega) (fun h=>by omega) (fun h=>by omega) (fun h=>by omega) (fun h=>by omega) (fun _=>⟨y 8 (by decide),rfl⟩)),ng rfl⟩
  ·intro v w' hJ;obtain⟨hb,_,_,_,_,_,m9,_,_,aG⟩:=hJ;have ba:∀ i,i<10->decide (i<10)=true:=fun i hi=>QY hi;obtain⟨b,k1,k2,k3,_,_,k4⟩:=aG (ba 2 (by omega));obtain⟨r,k5⟩:=k4 (ba 8 (by omega));have bo:=(m9 (ba 9 (by omega))).2;generalize v 8=v8 at r k5 bo;have bp:(fB us p [v 2]).length=n+1:=by rw[hO,b2]; rfl
   have cr:(fB ll p [[i]]).length=n+1:=by rw[hO,hl]; rfl
   have r:w'.ownsRow w.heap.size T 1 v8 (n+1) (fB us p [v 2]):=r;have aO:∀(j:Nat) (u:Value),us[j]?=some u->∀ b,fa u=some b->fk ρ d b:=fun j u A b hb=>fj c2 (by rw[bZ]; exact A) hb;have aC:∀ u∈us,∀ b,fa u=some b->b<w.heap.size:=fun u A b hb=>by
    obtain⟨j,hj⟩:=RR.1 A;exact(h.bl _ aP b (aO j u hj b hb)).1
   have bb:∀ b',fa (v 2)=some b'->b'=b:=fun b' e=>by rw[k1]at e; cases e; rfl
   have bq:∀ Y,Rw 0 Y w' Ti (.int .i64) (v 2) [i]:=fun Y=>by
    refine⟨[.int .i64 i],⟨rfl,.inr ⟨b,1,#[.int .i64 i],k1,QE _,k3,Qu _,by simp[maxLen],rfl,rfl⟩⟩,(fun u A=>by rw[RH]at A; rw[A]; rfl),fun j x hj=>?_⟩;cases j with
    | zero=>cases hj; exact⟨rfl,bY⟩
    | succ j=>simp at hj
   obtain⟨ρ',f1,f2,f3⟩:=(jx h).aab (ds:=[c,d]) (o:=o) (us:=fB us p [v 2]) (ll:=fB ll p [[i]]) (T:=T) (Ti:=Ti) (t:=.int .i64) (v':=v8) ⟨hb.os,hb.tape,hb.output⟩ hb.size hb.block
    (by rw[bp]; exact⟨r.1,r.2.imp id fun⟨g,cap,aY,q1,_,q2⟩=>⟨g,cap,aY,q1,QE _,q2⟩⟩)
    (fun u A=>by
     rcases nW A with A|A
     ·exact aW u A
     ·rw[RH]at A; rw[A,k1]; rfl)
    (by rw[bp,cr])
    (fun j u l A ct=>by
     rcases m_ (by omega) A with⟨p1,p2⟩|⟨p1,p2,p3⟩|⟨p1,p2⟩<;>rcases m_ (by omega) ct with⟨r1,r2⟩|⟨r1,r2,r3⟩|⟨r1,r2⟩<;>simp only[UJ]at*<;> try omega
     ·exact .inl ⟨b3 _ u l p2 r2,fun b' D=>⟨_,aP,by simp,aO _ u p2 b' D⟩⟩
     ·have hj:j-p=0:=by omega
      rw[hj]at p3 r3;cases p3;cases r3;exact .inr ⟨bq,fun b' D=>by rw[bb b' D]; exact⟨k2,b9 k3⟩⟩
     ·exact .inl ⟨b3 _ u l p2 r2,fun b' D=>⟨_,aP,by simp,aO _ u p2 b' D⟩⟩)
    (fun j k u u' A cu cC b' D af=>by
     have lo:∀{q:Nat}{x:Value},us[q]?=some x->fa x=some b'->b'<w.heap.size:=fun{q x} hq hx=>aC x (Ra hq) b' hx;have hi:∀{q:Nat}{x:Value},[v 2][q]?=some x->fa x=some b'->w.heap.size<=b':=fun{q x} hq hx=>by
      have:=Ra hq;rw[RH]at this;rw[this]at hx;rw[bb b' hx]; exact k2
     rcases m_ (by omega) A with⟨p1,p2⟩|⟨p1,p2,p3⟩|⟨p1,p2⟩<;>rcases m_ (by omega) cu with⟨r1,r2⟩|⟨r1,r2,r3⟩|⟨r1,r2⟩<;>simp only[UJ]at *
     ·exact b4 _ _ u u' p2 r2 (by omega) b' D af
     ·have:=lo p2 D; have:=hi r3 af; omega
     ·exact b4 _ _ u u' p2 r2 (by omega) b' D af
     ·have:=lo r2 af; have:=hi p3 D; omega
     ·omega
     ·have:=lo r2 af; have:=hi p3 D; omega
     ·exact b4 _ _ u u' p2 r2 (by omega) b' D af
     ·have:=lo p2 D; have:=hi r3 af; omega
     ·exact b4 _ _ u u' p2 r2 (by omega) b' D af)
    (ob r)
    (fun u A b' D e=>by
     rcases nW A with A|A
     ·have:=aC u A b' D; have:=ob r b' e; omega
     ·rw[RH]at A;rw[A]at D;rw[bb b' D]at e;exact k5 e)
   have bs:Aq v8 (n+1):=sy r;have gp:=fun t (ht:t<N)=>lq a6 v [⟨some 82,.move (.tmp 10),ah,al,ar,none⟩,⟨some 83,.move (.tmp 5),ai,an,au,none⟩,⟨some 84,.buildSlice T 1 #[(0,.tmp 83)],aj,ao,av,none⟩,⟨some 85,.buildSlice Tss 1 #[(0,.tmp 84)],ak,aq,aw,none⟩,⟨some 86,.call { callee:=.builtin .append,args:=#[.tmp 82,.tmp 85],argTypes:=#[Tss,Tss] },B,K,W,none⟩,⟨some 87,.move (.tmp 3),F,M,X,none⟩,⟨some 88,.move (.tmp 7),G,R,aa,none⟩,⟨some 89,.slice Tss (.tmp 87) (some (.tmp 88)) none none,H,S,ab,none⟩,⟨some 90,.call { callee:=.builtin .append,args:=#[.tmp 86,.tmp 89],argTypes:=#[Tss,Tss] },C,U,ac,none⟩,⟨some 3,.assign (.tmp 90),I,V,ad,none⟩] t (by rw[aK]; exact ht) 10 (Qu _);have bt:∀ t,t≠3->¬(77<=t/\t<=90)->lw (([⟨some 82,.move (.tmp 10),ah,al,ar,none⟩,⟨some 83,.move (.tmp 5),ai,an,au,none⟩,⟨some 84,.buildSlice T 1 #[(0,.tmp 83)],aj,ao,av,none⟩,⟨some 85,.buildSlice Tss 1 #[(0,.tmp 84)],ak,aq,aw,none⟩,⟨some 86,.call { callee:=.builtin .append,args:=#[.tmp 82,.tmp 85],argTypes:=#[Tss,Tss] },B,K,W,none⟩,⟨some 87,.move (.tmp 3),F,M,X,none⟩,⟨some 88,.move (.tmp 7),G,R,aa,none⟩,⟨some 89,.slice Tss (.tmp 87) (some (.tmp 88)) none none,H,S,ab,none⟩,⟨some 90,.call { callee:=.builtin .append,args:=#[.tmp 86,.tmp 89],argTypes:=#[Tss,Tss] },C,U,ac,none⟩,⟨some 3,.assign (.tmp 90),I,V,ad,none⟩]:List Oper).map (·.dst)) (fun _=>true) t 10=none:=by
    intro t h3 h9;cases hq:lw (([⟨some 82,.move (.tmp 10),ah,al,ar,none⟩,⟨some 83,.move (.tmp 5),ai,an,au,none⟩,⟨some 84,.buildSlice T 1 #[(0,.tmp 83)],aj,ao,av,none⟩,⟨some 85,.buildSlice Tss 1 #[(0,.tmp 84)],ak,aq,aw,none⟩,⟨some 86,.call { callee:=.builtin .append,args:=#[.tmp 82,.tmp 85],argTypes:=#[Tss,Tss] },B,K,W,none⟩,⟨some 87,.move (.tmp 3),F,M,X,none⟩,⟨some 88,.move (.tmp 7),G,R,aa,none⟩,⟨some 89,.slice Tss (.tmp 87) (some (.tmp 88)) none none,H,S,ab,none⟩,⟨some 90,.call { callee:=.builtin .append,args:=#[.tmp 86,.tmp 89],argTypes:=#[Tss,Tss] },C,U,ac,none⟩,⟨some 3,.assign (.tmp 90),I,V,ad,none⟩]:List Oper).map (·.dst)) (fun _=>true) t 10 with
    | none=>rfl
    | some j =>
     exfalso
     obtain⟨j1,_,j2,_⟩:=iz hq
     have aL:j=0∨j=1∨j=2∨j=3∨j=4∨j=5∨j=6∨j=7∨j=8∨j=9:=by omega
     rcases aL with rfl|rfl|rfl|rfl|rfl|rfl|rfl|rfl|rfl|rfl<;>(cases j2; first|exact h3 rfl|exact h9 (by decide))
   refine hQ ρ' _ w' ⟨by rw[im]; exact cj,by rw[h_]; exact aK,f1.kp,f1.nx,f1.nd,f1.kn,f1.bl,f1.dj,f1.cs,fun t x hx=>?_,f1.pn⟩;rcases Nat.decEq 3 t with e|e
   ·have af:Nat.beq 3 t=false:=by
      cases hq:Nat.beq 3 t with
      | false=>rfl
      | true=>exact absurd (QR hq) e
    simp only[get?,af]at hx;obtain⟨y1,y2,y3,y4,y5⟩:=bU t x hx;have bc:gt (kZ a6 ([⟨some 82,.move (.tmp 10),ah,al,ar,none⟩,⟨some 83,.move (.tmp 5),ai,an,au,none⟩,⟨some 84,.buildSlice T 1 #[(0,.tmp 83)],aj,ao,av,none⟩,⟨some 85,.buildSlice Tss 1 #[(0,.tmp 84)],ak,aq,aw,none⟩,⟨some 86,.call { callee:=.builtin .append,args:=#[.tmp 82,.tmp 85],argTypes:=#[Tss,Tss] },B,K,W,none⟩,⟨some 87,.move (.tmp 3),F,M,X,none⟩,⟨some 88,.move (.tmp 7),G,R,aa,none⟩,⟨some 89,.slice Tss (.tmp 87) (some (.tmp 88)) none none,H,S,ab,none⟩,⟨some 90,.call { callee:=.builtin .append,args:=#[.tmp 86,.tmp 89],argTypes:=#[Tss,Tss] },C,U,ac,none⟩,⟨some 3,.assign (.tmp 90),I,V,ad,none⟩].take 10) v 0) t=gt a t:=by
     rw[gp t y2,bt t y3 y5];exact cq t y2 y4 y5
    rw[bc];exact f2 (h.sl t x y1)
   ·subst e;simp only[get?,S6]at hx;cases hx;have bc:gt (kZ a6 ([⟨some 82,.move (.tmp 10),ah,al,ar,none⟩,⟨some 83,.move (.tmp 5),ai,an,au,none⟩,⟨some 84,.buildSlice T 1 #[(0,.tmp 83)],aj,ao,av,none⟩,⟨some 85,.buildSlice Tss 1 #[(0,.tmp 84)],ak,aq,aw,none⟩,⟨some 86,.call { callee:=.builtin .append,args:=#[.tmp 82,.tmp 85],argTypes:=#[Tss,Tss] },B,K,W,none⟩,⟨some 87,.move (.tmp 3),F,M,X,none⟩,⟨some 88,.move (.tmp 7),G,R,aa,none⟩,⟨some 89,.slice Tss (.tmp 87) (some (.tmp 88)) none none,H,S,ab,none⟩,⟨some 90,.call { callee:=.builtin .append,args:=#[.tmp 86,.tmp 89],argTypes:=#[Tss,Tss] },C,U,ac,none⟩,⟨some 3,.assign (.tmp 90),I,V,ad,none⟩].take 10) v 0) 3=v8:=by
     rw[gp 3 (by omega)];exact bo
    rw[bc];exact⟨v8,f3,bs,rfl⟩
 refine Re ?_;refine lW (v:=v77) (w':=w1) rfl (by simp[execOp,q1]) ?_;refine lW (v:=vc) (w':=w1) rfl ?_ ?_
 ·have:(a.put (some 77) v77).eval (.tmp 3)=vc:=by show gt _ 3=_; rw[eL (by decide),bg]
  simp[execOp,this]
 refine lW (v:=.int .i64 (p:Int)) (w':=w1) rfl ?_ ?_
 ·have:((a.put (some 77) v77).put (some 78) vc).eval (.tmp 7)=.int .i64 (p:Int):=by show gt _ 7=_; rw[eL (by decide),eL (by decide),bh]
  simp[execOp,this]
 refine lW (v:=v80) (w':=w1) rfl ?_ ?_
 ·have e1:(((a.put (some 77) v77).put (some 78) vc).put (some 79) (.int .i64 (p:Int))).eval (.tmp 78)=vc:=by show gt _ 78=_; rw[eL (by decide),fH (by rw[size_put]; omega)]
  have e2:(((a.put (some 77) v77).put (some 78) vc).put (some 79) (.int .i64 (p:Int))).eval (.tmp 79)=.int .i64 (p:Int):=by show gt _ 79=_; rw[fH (by rw[size_put,size_put]; omega)]
  simp[execOp,e1,e2,cb w1]
 refine lW (v:=ae) (w':=w2) rfl ?_ ?_
 ·refine ja ?_;have e1:((((a.put (some 77) v77).put (some 78) vc).put (some 79) (.int .i64 (p:Int))).put (some 80) v80).eval (.tmp 77)=v77:=by show gt _ 77=_; rw[eL (by decide),eL (by decide),eL (by decide),fH (by omega)]
  have e2:((((a.put (some 77) v77).put (some 78) vc).put (some 79) (.int .i64 (p:Int))).put (some 80) v80).eval (.tmp 80)=v80:=by show gt _ 80=_; rw[fH (by rw[size_put,size_put,size_put]; omega)]
  rw[e1,e2];exact cg
 refine lW (v:=ae) (w':=w2) rfl ?_ ?_
 ·have e1:(((((a.put (some 77) v77).put (some 78) vc).put (some 79) (.int .i64 (p:Int))).put (some 80) v80).put (some 81) ae).eval (.tmp 81)=ae:=by show gt _ 81=_; rw[fH (by rw[size_put,size_put,size_put,size_put]; omega)]
  simp[execOp,e1]
 refine RM ?_;refine key _ ?_ ?_ ?_ ?_ ?_ ?_ ?_
 ·simp only[gh]; exact h.dn
 ·simp only[size_put]; exact ca
 ·rw[fH (by simp only[size_put]; omega)]
 ·simp only[eL (show(some 10:Option Nat)≠some 3 by decide),eL (show(some 77:Option Nat)≠some 3 by decide),eL (show(some 78:Option Nat)≠some 3 by decide),eL (show(some 79:Option Nat)≠some 3 by decide),eL (show(some 80:Option Nat)≠some 3 by decide),eL (show(some 81:Option Nat)≠some 3 by decide)];exact bg
 ·simp only[eL (show(some 10:Option Nat)≠some 5 by decide),eL (show(some 77:Option Nat)≠some 5 by decide),eL (show(some 78:Option Nat)≠some 5 by decide),eL (show(some 79:Option Nat)≠some 5 by decide),eL (show(some 80:Option Nat)≠some 5 by decide),eL (show(some 81:Option Nat)≠some 5 by decide)];exact bX
 ·simp only[eL (show(some 10:Option Nat)≠some 7 by decide),eL (show(some 77:Option Nat)≠some 7 by decide),eL (show(some 78:Option Nat)≠some 7 by decide),eL (show(some 79:Option Nat)≠some 7 by decide),eL (show(some 80:Option Nat)≠some 7 by decide),eL (show(some 81:Option Nat)≠some 7 by decide)];exact bh
 ·intro t ht h1 h2;have hx:∀ j,(j=10∨(77<=j/\j<=81))->(some j:Option Nat)≠some t:=fun j hj e=>by cases e; omega
  rw[eL (hx 10 (.inl rfl)),eL (hx 81 (by omega)),eL (hx 80 (by omega)),eL (hx 79 (by omega)),eL (hx 78 (by omega)),eL (hx 77 (by omega))]
theorem IJ{S:Sx}{H:List It->St->Prop}(hh:A9 S H){k:List It}{st:St}{r1 r2:Nat}{Tss T Ti:TypeId}{es ei:TE}(az:S.E.P.underlying Tss=some (.slice T))(aA:S.E.P.underlying T=some (.slice Ti))(aB:b_ S.E.P T es)(aC:b_ S.E.P Ti ei)(aD:es.ty.size=1)(aE:es.bytes<=1000)(aF:ei.ty.size=1)
    {Z aa ab ac ad ae F G I J b e f g j l:TypeId}{af ah ai aj ak al K L M O m q r s u v:String}{ao aq ar au av aw R U V W y z A B C D:Array Edge}
    {c d n p:Nat}{i:Int}{o:Bool}{ll:List (List Int)} (g3:get? st.sl 3=some (.iE c n)) (g7:get? st.sl 7=some (.a_ (.int .i64) (p:Int))) (g5:get? st.sl 5=some (.a_ (.int .i64) i))
    (aG:get? st.ck c=some (.eW T o d none)) (aH:get? st.ck d=some (.gv Ti (.int .i64) ll)) (hN:91<S.N)
    (ax:ES [⟨some 82,.move (.tmp 10),F,K,R,none⟩,⟨some 83,.move (.tmp 5),G,L,U,none⟩,⟨some 84,.buildSlice T 1 #[(0,.tmp 83)],I,M,V,none⟩,⟨some 85,.buildSlice Tss 1 #[(0,.tmp 84)],J,O,W,none⟩,⟨some 86,.call { callee:=.builtin .append,args:=#[.tmp 82,.tmp 85],argTypes:=#[Tss,Tss] },b,m,y,none⟩,⟨some 87,.move (.tmp 3),e,q,z,none⟩,⟨some 88,.move (.tmp 7),f,r,A,none⟩,⟨some 89,.slice Tss (.tmp 87) (some (.tmp 88)) none none,g,s,B,none⟩,⟨some 90,.call { callee:=.builtin .append,args:=#[.tmp 86,.tmp 89],argTypes:=#[Tss,Tss] },j,u,C,none⟩,⟨some 3,.assign (.tmp 90),l,v,D,none⟩] [0,0,2,6,15,0,0,96,255,511] [[(10,none)],[(5,none)],[(83,some 1)],[(84,some 2)],[(82,some 0),(85,some 3)],[(3,none)],[(7,none)],[(87,some 5),(88,some 6)],[(86,some 4),(89,some 7)],[(90,some 8)]] S.N=true)
    (aI:mP [⟨some 82,.move (.tmp 10),F,K,R,none⟩,⟨some 83,.move (.tmp 5),G,L,U,none⟩,⟨some 84,.buildSlice T 1 #[(0,.tmp 83)],I,M,V,none⟩,⟨some 85,.buildSlice Tss 1 #[(0,.tmp 84)],J,O,W,none⟩,⟨some 86,.call { callee:=.builtin .append,args:=#[.tmp 82,.tmp 85],argTypes:=#[Tss,Tss] },b,m,y,none⟩,⟨some 87,.move (.tmp 3),e,q,z,none⟩,⟨some 88,.move (.tmp 7),f,r,A,none⟩,⟨some 89,.slice Tss (.tmp 87) (some (.tmp 88)) none none,g,s,B,none⟩,⟨some 90,.call { callee:=.builtin .append,args:=#[.tmp 86,.tmp 89],argTypes:=#[Tss,Tss] },j,u,C,none⟩,⟨some 3,.assign (.tmp 90),l,v,D,none⟩] [0,0,2,6,15,0,0,96,255,511] 10=true)
    {sl:List (Nat×AV)} (aJ:∀ t x,get? sl t=some x->get? st.sl t=some x/\t<S.N/\t≠3/\t≠10/\¬(77<=t/\t<=90)) (hl:ll.length=n) (hp:p<=n) (hn:n<=1000000)
    (hk:H k ⟨(3,.iE st.nx (n+1))::sl,(st.nx,.eW T o (st.nx+1) none)::(st.nx+1,.gv Ti (.int .i64) (fB ll p [[i]]))::gw st.ck [c,d],st.nx+2⟩) :
    H (.code (.region r1 #[⟨some 77,.buildSlice Tss 0 #[],Z,af,ao,none⟩,⟨some 78,.move (.tmp 3),aa,ah,aq,none⟩,⟨some 79,.move (.tmp 7),ab,ai,ar,none⟩,⟨some 80,.slice Tss (.tmp 78) none (some (.tmp 79)) none,ac,aj,au,none⟩,⟨some 81,.call { callee:=.builtin .append,args:=#[.tmp 77,.tmp 80],argTypes:=#[Tss,Tss] },ad,ak,av,none⟩,⟨some 10,.assign (.tmp 81),ae,al,aw,none⟩] false)::.code (.region r2 #[⟨some 82,.move (.tmp 10),F,K,R,none⟩,⟨some 83,.move (.tmp 5),G,L,U,none⟩,⟨some 84,.buildSlice T 1 #[(0,.tmp 83)],I,M,V,none⟩,⟨some 85,.buildSlice Tss 1 #[(0,.tmp 84)],J,O,W,none⟩,⟨some 86,.call { callee:=.builtin .append,args:=#[.tmp 82,.tmp 85],argTypes:=#[Tss,Tss] },b,m,y,none⟩,⟨some 87,.move (.tmp 3),e,q,z,none⟩,⟨some 88,.move (.tmp 7),f,r,A,none⟩,⟨some 89,.slice Tss (.tmp 87) (some (.tmp 88)) none none,g,s,B,none⟩,⟨some 90,.call { callee:=.builtin .append,args:=#[.tmp 86,.tmp 89],argTypes:=#[Tss,Tss] },j,u,C,none⟩,⟨some 3,.assign (.tmp 90),l,v,D,none⟩] true)::k) st:=by
 obtain⟨w0,X0,Bo,Q,hE,aK,X⟩:=hh;rw[X];intro aL ρ a w aM;have ay:mT S.an S.N k=true:=by
  have h:(uA S.an S.N (.region r1 #[⟨some 77,.buildSlice Tss 0 #[],Z,af,ao,none⟩,⟨some 78,.move (.tmp 3),aa,ah,aq,none⟩,⟨some 79,.move (.tmp 7),ab,ai,ar,none⟩,⟨some 80,.slice Tss (.tmp 78) none (some (.tmp 79)) none,ac,aj,au,none⟩,⟨some 81,.call { callee:=.builtin .append,args:=#[.tmp 77,.tmp 80],argTypes:=#[Tss,Tss] },ad,ak,av,none⟩,⟨some 10,.assign (.tmp 81),ae,al,aw,none⟩] false)&&(uA S.an S.N (.region r2 #[⟨some 82,.move (.tmp 10),F,K,R,none⟩,⟨some 83,.move (.tmp 5),G,L,U,none⟩,⟨some 84,.buildSlice T 1 #[(0,.tmp 83)],I,M,V,none⟩,⟨some 85,.buildSlice Tss 1 #[(0,.tmp 84)],J,O,W,none⟩,⟨some 86,.call { callee:=.builtin .append,args:=#[.tmp 82,.tmp 85],argTypes:=#[Tss,Tss] },b,m,y,none⟩,⟨some 87,.move (.tmp 3),e,q,z,none⟩,⟨some 88,.move (.tmp 7),f,r,A,none⟩,⟨some 89,.slice Tss (.tmp 87) (some (.tmp 88)) none none,g,s,B,none⟩,⟨some 90,.call { callee:=.builtin .append,args:=#[.tmp 86,.tmp 89],argTypes:=#[Tss,Tss] },j,u,C,none⟩,⟨some 3,.assign (.tmp 90),l,v,D,none⟩] true)&&mT S.an S.N k))=true:=aL;rw[QK,QK]at h;exact h.2.2
 exact Fh hE aK aM az aA aB aC aD aE aF g3 g7 g5 aG aH hl hp hn hN ax aI aJ fun aN a' w' h3=>(X _ _).1 hk ay aN a' w' h3
end
def rz:Rel:=(([],false,[]),[])
def km(l:List fy)(v:List fS):Nat:=l.findIdx fun e=>decide (0<=cT e.1 v)
def fU(r:Rel)(t:fy):Int :=
 if gC r≠0 then gC r else if lA r.1 t≠0 then lA r.1 t else if(mY (r.2.findIdx? (kG t.1))).2=true then 8
 else if 64<=r.2.length∨16<=(kW r t.1).length then 4 else if 0<jX (fq t.2) (1-gS r.2 (kW r t.1))then 19 else 0
def ky(r:Rel)(t:fy):Rel:=if fU r t≠0 then rz else(r.1,fB (r.2.map lz) (km r.2 t.1) [lz t])
theorem xC(r:Rel)(v:List fS):(kW r v).length<=r.2.length/\∀ i∈kW r v,0<=i/\i<(r.2.length:Int):=by
 unfold kW;split
 ·exact⟨QE _,fun i hi=>by cases hi⟩
 ·refine⟨wM _ _ _,fun i hi=>?_⟩;unfold FP at hi;obtain⟨j,a,rfl⟩:=Rj.1 hi;have:=Rn.1 (Tm.1 a).1;omega
theorem Cr{l:List fy}{v:List fS}{p:Nat}(g:p<=l.length)(h:∀ a,a<p->cT (l.getD a tz).1 v<0)(c:p<l.length->0<=cT (l.getD p tz).1 v):km l v=p:=by
 unfold km;rcases QA p l.length with d|d
 ·rw[List.findIdx_eq d];constructor
  ·have:=c d;rw[Qz,Qr d]at this;exact QY this
  ·intro j b;have:=h j b;rw[Qz,Qr (by omega)]at this;exact Q4 (by simpa using this)
 ·have:p=l.length:=by omega
  rw[this,WJ];intro x f;obtain⟨j,b,e⟩:=Rz.1 f;have:=h j (by omega);rw[Qz,Qr b]at this;rw[<-e];exact Q4 (by simpa using this)
theorem jq{r:Rel}{t:fy}{e:Int}(h:fU r t=e)(a:e≠0):(([],false,[]),[])=ky r t:=by
 unfold ky; rw[QJ (by rw[h]; exact a)]; rfl
@[go_sem] def Hg:Spec:=⟨[c7,b8],fun d=>(.js (.cons (.a_ c7 (ky d.1 d.2.1)) (.cons (.a_ (.int .i64) (fU d.1 d.2.1)) .nil)),[gZ d.1,List.length d.2.1.1<=1000/\fs d.2.1.2<=1000])⟩
theorem Ct:c6 Tryz.prog 7 Hg:=by
 refine eT wI Hg Tryz.func7 rfl (by decide) (N:=89) rfl (res:=[.cell 4 28,.tmp 5]) rfl (by decide) [(18,[(79,.ow)]),(19,[(86,.ow),(1000000,.mx [(0,1000000),(1,3000000),(2,1000000)])])] [] [] 100 (by kernel_rfl) ?_;rintro⟨r,t,_⟩ w g;refine⟨rfl,fun H B=>?_⟩;dsimp only[go_sem]at w g ⊢;obtain⟨g,⟨k,G⟩,-⟩:=g;obtain⟨s,l⟩:=r;change List fy at l;obtain⟨I,x,q⟩:=id g;change l.length<=400 at x;change fy at t;change t.1.length<=1000 at k;have y:∀ t∈l,q_ b8 t:=w.1.2.2;have J:=mO w.2.1.2;clear w;have o:=xC (s,l) t.1;change (kW (s,l) t.1).length<=l.length/\∀ i∈kW (s,l) t.1,0<=i/\i<(l.length:Int)at o;have u:(kW (s,l) t.1).length<=400:=by omega
 have M:=ou (n:=400) y (fun t C=>(q t C).2) o.2 u;have O:=pk 1 (gS l (kW (s,l) t.1));have P:=mm;simp only[Su,R_,jo];refine⟨g,fun b=>?_,fun b=>⟨by omega,fun f=>?_,fun f=>⟨g,k,fun m=>?_,fun m=>⟨g,k,fun c=>?_,fun c=>⟨g,u,o.2,by rw[ig]; omega,by omega,by rw[ig]; omega,fun p=>?_,fun p=>?_⟩⟩⟩⟩⟩
 ·have b:gC (s,l)≠0:=QF b;have a:fU (s,l) t=gC (s,l):=by unfold fU; rw[QJ b]
  exact⟨jq a b,a.symm,trivial⟩
 all_goals have b:¬gC (s,l)≠0:=QN b
 ·have f:lA s t≠0:=QF f;have a:fU (s,l) t=lA s t:=by unfold fU; rw[QC b,QJ f]
  exact⟨jq a f,a.symm,trivial⟩
 all_goals have f:¬lA s t≠0:=QN f
 ·have m:(mY (l.findIdx? (kG t.1))).2=true:=m;have a:fU (s,l) t=8:=by unfold fU; rw[QC b,QC f,QJ m]
  exact⟨jq a (by decide),a.symm,trivial⟩
 all_goals have m:¬(mY (l.findIdx? (kG t.1))).2=true:=fun e=>Bool.noConfusion (m.symm.trans e)
 ·simp only[RE,Qy]at c;have c:(64:Int)<=(l.length:Int)∨(16:Int)<=((kW (s,l) t.1).length:Int):=c;have c:64<=l.length∨16<=(kW (s,l) t.1).length:=by omega
  have a:fU (s,l) t=4:=by unfold fU; rw[QC b,QC f,QC m,QJ c]
  exact⟨jq a (by decide),a.symm,trivial⟩
 all_goals simp only[RG,Qw]at c
 all_goals have c:¬(64:Int)<=(l.length:Int)/\¬(16:Int)<=((kW (s,l) t.1).length:Int):=c
 all_goals have c:¬(64<=l.length∨16<=(kW (s,l) t.1).length):=by omega
 ·have p:0<jX (fq t.2) (1-gS l (kW (s,l) t.1)):=QF p;have a:fU (s,l) t=19:=by unfold fU; rw[QC b,QC f,QC m,QC c,QJ p]
  exact⟨jq a (by decide),a.symm,trivial⟩
 have p:¬0<jX (fq t.2) (1-gS l (kW (s,l) t.1)):=QN p;have a:fU (s,l) t=0:=by unfold fU; rw[QC b,QC f,QC m,QC c,QC p]
 have D:ky (s,l) t=(s,fB (l.map lz) (km l t.1) [lz t]):=by unfold ky; rw[QC (by rw[a]; simp)]
 refine B.loop (fun i:Nat=>⟨[(11,.a_ (.int .i64) (i:Int)),(2,.ref 0 0),(3,.ref 1 0),(4,.ref 2 0)],[(0,.box 28 (.cons (.a_ .str s.1) (.cons (.a_ .bool s.2.1) (.cons (.a_ (.slice fe) s.2.2) (.cons (.a_ (.slice b8) l) .nil))))),(1,.box 37 (.cons (.a_ (.slice eK) t.1) (.cons (.a_ .bool t.2.1) (.cons (.a_ (.slice (.int .u32)) t.2.2.1) (.cons (.a_ (.slice (.int .u32)) t.2.2.2) .nil))))),(2,.box 28 (zA c7 .nil))],3⟩) (fun i=>i<=l.length/\∀ j,j<i->cT (l.getD j tz).1 t.1<0) (fun i=>l.length-i) 0 3 ⟨QE _,fun j h=>absurd h (Q' _)⟩ ?_ ?_
 ·dsimp only[go_sem];and_intros<;>first|trivial|rfl|omega
 ·rintro i ⟨hi,E⟩ R K;refine B.run 100 _ _ ?_;dsimp only[go_sem];simp only[QH,Su,R_];have z:∀ j,l.getD j (zd b8)=l.getD j tz:=fun _=>rfl;simp only[z];refine⟨fun d=>?_,fun d=>?_,fun d=>?_,fun d=>⟨g,?_⟩⟩
  ·have d:(i:Int)<(l.length:Int):=QF d;show(0:Int)<=(i:Int)/\(i:Int)<(l.length:Int);omega
  ·have d:(i:Int)<(l.length:Int):=QF d;have C:(l.getD i tz).1.length<=1000/\fs (l.getD i tz).2<=1000:=q _ (fW tz (show i<l.length by omega));show(l.getD i tz).1.length<=1000000/\t.1.length<=1000000;omega
  ·simp only[QK,Qy]at d;have Q:(i:Int)<(l.length:Int):=d.1;have A:gG .i64 ((i:Int)+1):=by rw[c9]; omega
   refine⟨A,K _ (i+1) 3 ⟨by omega,fun j S=>?_⟩ (by omega) ?_⟩
   ·rcases QA j i with F|F
    ·exact E j F
    ·have:j=i:=by omega
     rw[this]; exact d.2
   ·dsimp only[go_sem];and_intros<;>first|trivial|rfl|omega
  ·have v:km l t.1=i:=Cr hi E fun L=>by
     rw[SZ]at d;rcases d with d|d
     ·have d:¬(i:Int)<(l.length:Int):=QN d;omega
     ·exact Vr.1 (QN d)
   rw[v]at D;have T:(l.map lz).length=l.length:=Rt _;refine⟨⟨k,by omega⟩,⟨Sy _,Int.ofNat_le.2 (by omega),by omega,rfl⟩,D.symm,a.symm,trivial⟩
@[go_sem] noncomputable def ERE:Env:=(ERD).add 7 Hg
theorem aa7:ERE.Ok:=(wI).add Ct
theorem uU {P:Program}{T:TypeId}{a b c:Field} (o:P.underlying T=some (.struct #[a,b,c])) (p:P.stoodInHeld T=false) (q:a.name ≠ "_") (r:b.name ≠ "_") (s:c.name ≠ "_") (o1:a.offset=0) (o2:b.offset=1) (t:c.offset=2)
    {h j k l m n:Value}{e f g:Bool}{w:World}{d:Nat}
    (u:∀(xs:Array Value) (i:Nat) (v:Value),xs[i]?=some v->(part a.type xs i).run P w=.ok v w) (x:∀(xs:Array Value) (i:Nat) (v:Value),xs[i]?=some v->(part b.type xs i).run P w=.ok v w) (y:∀(xs:Array Value) (i:Nat) (v:Value),xs[i]?=some v->(part c.type xs i).run P w=.ok v w)
    (z:(Op.equalIn d a.type h l).run P w=.ok e w) (A:(Op.equalIn d b.type j m).run P w=.ok f w) (B:(Op.equalIn d c.type k n).run P w=.ok g w) :
    (Op.equalIn (d+1) T (.agg #[h,j,k]) (.agg #[l,m,n])).run P w=.ok (e&&f&&g) w:=by
 rw[Op.equalIn];simp only[Rb o,Rf];cases e<;>cases f<;>cases g<;>simp[p,q,r,s,o1,o2,t,u,x,y,z,A,B,Sem.program]
theorem jD{P:Program}{T:TypeId}{w:World}{d:TypeDesc}(a:P.underlying T=some d)(b:d=.string∨d=.bool∨∃ k,d=.int k):∀(xs:Array Value) (i:Nat) (v:Value),xs[i]?=some v->(part T xs i).run P w=.ok v w:=by
 intro xs i v h;rcases b with rfl|rfl|⟨k,rfl⟩<;>simp[part,isAgg,Rb a,h]
theorem JM{P:Program}{T:TypeId}{w:World}(c:P.underlying T=some .string)(d:Nat)(a b:pc):(Op.equalIn (d+1) T (.string ⟨a.toArray⟩) (.string ⟨b.toArray⟩)).run P w=.ok (decide (a=b)) w:=by
 have e:((⟨a.toArray⟩:ByteArray) == ⟨b.toArray⟩)=decide (a=b):=by
  show(a.toArray == b.toArray)=_;rw[Wi,SQ,Qy];exact⟨fun h=>by simpa using Sr Array.toList h,fun h=>by rw[h]⟩
 rw[<-e];simp[Op.equalIn,Rb c]
theorem eq_int{P:Program}{T:TypeId}{w:World}{k:IntKind}(c:P.underlying T=some (.int k))(d:Nat)(a b:Int):(Op.equalIn (d+1) T (.int k a) (.int k b)).run P w=.ok (decide (a=b)) w:=by
 have e:(a == b)=decide (a=b):=by rw[Wi,SQ,Qy]
 rw[<-e];simp[Op.equalIn,Rb c]
theorem Lb{P:Program}{T:TypeId}{w:World}(c:P.underlying T=some .bool)(d:Nat)(a b:Bool):(Op.equalIn (d+1) T (.bool a) (.bool b)).run P w=.ok (decide (a=b)) w:=by
 have e:(a == b)=decide (a=b):=by cases a<;>cases b<;>rfl
 rw[<-e];simp[Op.equalIn,Rb c]
theorem abC:NK Tryz.prog 75 fe:=by
 refine⟨by kernel_rfl,fun X w a i x y h j=>?_⟩;have key:∀{a:List Value}{x:fe.den},rep fe X w a x->a=[.string ⟨(x.1:pc).toArray⟩,.int .i64 x.2.1,.bool x.2.2]:=by
  intro a x h;obtain⟨⟨b,_⟩,⟨c,_⟩,e⟩:=h;have b:a.take 1=_:=b;have c:(a.drop 1).take 1=_:=c;have e:(a.drop 1).drop 1=_:=e;rw[<-Q6 1 a,b,<-Q6 1 (a.drop 1),c,e]; rfl
 rw[key h,key j];have f:Tryz.prog.underlying 9=some .string:=by kernel_rfl
 have hi:Tryz.prog.underlying 3=some (.int .i64):=by kernel_rfl
 have g:Tryz.prog.underlying 4=some .bool:=by kernel_rfl
 have:=uU (P:=Tryz.prog) (T:=75) (w:=w) (d:=9999) rfl (by kernel_rfl) (by decide) (by decide) (by decide) rfl rfl rfl (jD f (.inl rfl)) (jD hi (.inr (.inr ⟨_,rfl⟩))) (jD g (.inr (.inl rfl))) (JM f 9998 x.1 y.1) (eq_int hi 9998 x.2.1 y.2.1) (Lb g 9998 x.2.2 y.2.2);refine this.trans ?_;rw[Wm];rfl
theorem abk:NK Tryz.prog 55 eK:=by
 refine⟨by kernel_rfl,fun X w a i x y h j=>?_⟩;have key:∀{a:List Value}{x:eK.den},rep eK X w a x->a=[.int .i64 x.1,.int .i64 x.2.1,.string ⟨(x.2.2:pc).toArray⟩]:=by
  intro a x h;obtain⟨⟨c,_⟩,⟨e,_⟩,⟨f,_⟩⟩:=h;have c:a.take 1=_:=c;have e:(a.drop 1).take 1=_:=e;have f:(a.drop 1).drop 1=_:=f;rw[<-Q6 1 a,c,<-Q6 1 (a.drop 1),e,f]; rfl
 rw[key h,key j];have g:Tryz.prog.underlying 9=some .string:=by kernel_rfl
 have hi:Tryz.prog.underlying 3=some (.int .i64):=by kernel_rfl
 have b:Tryz.prog.underlying 2=some (.int .i64):=by kernel_rfl
 have:=uU (P:=Tryz.prog) (T:=55) (w:=w) (d:=9999) rfl (by kernel_rfl) (by decide) (by decide) (by decide) rfl rfl rfl (jD hi (.inr (.inr ⟨_,rfl⟩))) (jD b (.inr (.inr ⟨_,rfl⟩))) (jD g (.inl rfl)) (eq_int hi 9998 x.1 y.1) (eq_int b 9998 x.2.1 y.2.1) (JM g 9998 x.2.2 y.2.2);refine this.trans ?_;rw[Wm];rfl
theorem KR(x y:fS):OA eK x y=decide (x=y):=by
 obtain⟨a,b,c⟩:=x;obtain⟨d,e,f⟩:=y;show(decide (a=d)&&(decide (b=e)&&decide (c=f)))=_;by_cases g:a=d<;>by_cases h:b=e<;>by_cases i:c=f<;>simp[g,h,i]
theorem Nj(x y:rG):OA fe x y=decide (x=y):=by
 obtain⟨a,b,c⟩:=x;obtain⟨d,e,f⟩:=y;show(decide (a=d)&&(decide (b=e)&&decide (c=f)))=_;by_cases g:a=d<;>by_cases h:b=e<;>by_cases i:c=f<;>simp[g,h,i]
theorem xH{a:Type}{l m:List a}(d:a)(h:l.length=m.length)(c:∀ j,j<l.length->l.getD j d=m.getD j d):l=m:=by
 refine Um h fun j b e=>?_;have:=c j b;rw[Qz,Qz,Qr b,Qr e]at this;exact this
@[go_sem] def Ng:Spec:=⟨[.slice eK,.slice eK],fun d=>(.a_ .bool (decide ((d.1:List fS)=d.2.1)),[])⟩
theorem I4:c6 Tryz.prog 11 Ng:=by
 refine eT nK Ng Tryz.func11 rfl (by decide) (N:=26) rfl (res:=[.tmp 4]) rfl (by decide) [] [] [] 100 (by kernel_rfl) ?_;rintro⟨a,b,_⟩ c m;refine⟨rfl,fun H n=>?_⟩;dsimp only[go_sem]at c m ⊢;clear m;change List fS at a b;have q:a.length<=9223372036854775807:=c.1.1;have r:b.length<=9223372036854775807:=c.2.1.1;clear c;refine⟨fun h=>?_,fun h=>?_⟩
 ·have h:(a.length:Int)≠(b.length:Int):=QF h;refine⟨?_,trivial⟩;rw[Q4 (fun e=>h (by rw[e]))]
 have h:¬(a.length:Int)≠(b.length:Int):=QN h;have h:a.length=b.length:=by omega
 refine n.loop (fun i:Nat=>⟨[(5,.a_ (.int .i64) (i:Int)),(0,.a_ (.slice eK) a),(1,.a_ (.slice eK) b)],[],0⟩) (fun i=>i<=a.length/\∀ j,j<i->a.getD j vz=b.getD j vz) (fun i=>a.length-i) 0 0 ⟨QE _,fun j h=>absurd h (Q' _)⟩ ?_ ?_
 ·dsimp only[go_sem];and_intros<;>first|trivial|rfl|omega
 ·rintro i ⟨hi,o⟩ R s;refine n.run 100 _ _ ?_;dsimp only[go_sem];simp only[QH];have f:∀ j,a.getD j (zd eK)=a.getD j vz:=fun _=>rfl;have g:∀ j,b.getD j (zd eK)=b.getD j vz:=fun _=>rfl;simp only[f,g,KR];refine⟨fun d=>?_,fun d=>?_⟩<;>simp only[Qy,Qw]at d
  ·have d:i<a.length:=by omega
   have t:(0:Int)<=(i:Int)/\(i:Int)<(a.length:Int):=by omega
   have k:(0:Int)<=(i:Int)/\(i:Int)<(b.length:Int):=by omega
   have l:gG .i64 ((i:Int)+1):=by rw[c9]; omega
   refine⟨t,k,abk,fun e=>?_,fun e=>⟨l,s _ (i+1) 0 ⟨d,fun j u=>?_⟩ (by omega) ?_⟩⟩<;>simp only[Sv,Uw,Qy,Qw]at e
   ·refine⟨?_,trivial⟩;rw[Q4 (fun h=>e (by rw[h]))]
   ·rcases QA j i with p|p
    ·exact o j p
    ·have:j=i:=by omega
     rw[this]; exact e
   ·dsimp only[go_sem];and_intros<;>first|trivial|rfl|omega
  ·have d:i=a.length:=by omega
   subst d;rw[QY (xH vz h o)];exact⟨rfl,trivial⟩
@[go_sem] def Lf:Spec:=⟨[jt,jt],fun d=>(.a_ .bool (decide ((d.1:iR)=d.2.1)),[])⟩
theorem Ic:c6 Tryz.prog 39 Lf:=by
 refine eT nK Lf Tryz.func39 rfl (by decide) (N:=45) rfl (res:=[.tmp 4]) rfl (by decide) [] [] [] 100 (by kernel_rfl) ?_;rintro⟨a,b,_⟩ k t;refine⟨rfl,fun H u=>?_⟩;dsimp only[go_sem]at k t ⊢;clear t;have m:a.2.2.length<=9223372036854775807:=k.1.2.2.1;clear k;obtain⟨n,c,l⟩:=a;obtain⟨w,x,f⟩:=b;change List rG at l f;change pc at n w;change Bool at c x;change l.length<=9223372036854775807 at m;simp only[Su,R_];refine⟨fun h=>?_,fun h=>?_⟩<;>simp only[RE,RG,Qy,Qw,Rp]at h
 ·refine⟨(Q4 fun e=>?_).symm,trivial⟩;cases e;rcases h with(h|h)|h<;>exact h rfl
 obtain⟨⟨rfl,rfl⟩,h⟩:=h;have h:(l.length:Int)=(f.length:Int):=h;have h:l.length=f.length:=by omega
 refine u.loop (fun i:Nat=>⟨[(5,.a_ (.int .i64) (i:Int)),(2,.ref 0 0),(3,.ref 1 0)],[(0,.box 25 (.cons (.a_ .str n) (.cons (.a_ .bool c) (.cons (.a_ (.slice fe) l) .nil)))),(1,.box 25 (.cons (.a_ .str n) (.cons (.a_ .bool c) (.cons (.a_ (.slice fe) f) .nil))))],2⟩) (fun i=>i<=l.length/\∀ j,j<i->l.getD j cz=f.getD j cz) (fun i=>l.length-i) 0 2 ⟨QE _,fun j h=>absurd h (Q' _)⟩ ?_ ?_
 ·dsimp only[go_sem];and_intros<;>first|trivial|rfl|omega
 ·rintro i ⟨hi,v⟩ R y;refine u.run 100 _ _ ?_;dsimp only[go_sem];simp only[QH];have o:∀ j,l.getD j (zd fe)=l.getD j cz:=fun _=>rfl;have p:∀ j,f.getD j (zd fe)=f.getD j cz:=fun _=>rfl;simp only[o,p,Nj];refine⟨fun d=>?_,fun d=>?_⟩<;>simp only[Qy,Qw]at d
  ·have d:i<l.length:=by omega
   have z:(0:Int)<=(i:Int)/\(i:Int)<(l.length:Int):=by omega
   have q:(0:Int)<=(i:Int)/\(i:Int)<(f.length:Int):=by omega
   have r:gG .i64 ((i:Int)+1):=by rw[c9]; omega
   refine⟨z,q,abC,fun e=>?_,fun e=>⟨r,y _ (i+1) 2 ⟨d,fun j A=>?_⟩ (by omega) ?_⟩⟩<;>simp only[Sv,Uw,Qy,Qw]at e
   ·refine⟨(Q4 fun g=>?_).symm,trivial⟩;cases g;exact e rfl
   ·rcases QA j i with g|g
    ·exact v j g
    ·have:j=i:=by omega
     rw[this]; exact e
   ·dsimp only[go_sem];and_intros<;>first|trivial|rfl|omega
  ·have d:i=l.length:=by omega
   subst d;have s:=xH cz h v;subst s;exact⟨(QY rfl).symm,trivial⟩
@[go_sem] noncomputable def ERS:Env:=((ER8).add 11 Ng).add 39 Lf
theorem wA:ERS.Ok:=((nK).add I4).add Ic
def aaQ:rG:=([97],1,false)
def ab1:rG:=([98],1,false)
def sd:List iR:=[([82],false,[aaQ,ab1]),([83],false,[aaQ]),([75],false,[([107],1,true),([118],1,false)]),([67],true,[aaQ,ab1])]
@[go_sem] def Cd:Spec:=⟨[],fun d=>(.a_ (.slice jt) sd,[])⟩
theorem DQ:c6 Tryz.prog 15 Cd:=by
 refine eT wA Cd Tryz.func15 rfl (by decide) (N:=21) rfl (res:=[.tmp 0]) rfl (by decide) [(2,[(7,.dt),(10,.dt),(14,.dt),(18,.dt),(20,.dt)])] [] [] 100 (by kernel_rfl) ?_;rintro⟨_⟩ a b;refine⟨rfl,fun H c=>?_⟩;dsimp only[go_sem]at a b ⊢;exact⟨rfl,trivial⟩
def mS(n:Int):fS:=(1,n,[])
def OT(s:pc):fS:=(2,0,s)
@[go_sem] def DZ:Spec:=⟨[.int .i64],fun d=>(.a_ eK (mS d.1),[])⟩
theorem xj:c6 Tryz.prog 18 DZ:=by
 refine eT wA DZ Tryz.func18 rfl (by decide) (N:=5) rfl (res:=[.cell 2 55]) rfl (by decide) [] [] [] 100 (by kernel_rfl) ?_;rintro⟨(n:Int),_⟩ a b;refine⟨rfl,fun H c=>?_⟩;dsimp only[go_sem]at a b ⊢;exact⟨rfl,trivial⟩
@[go_sem] def DA:Spec:=⟨[.str],fun d=>(.a_ eK (OT d.1),[])⟩
theorem DM:c6 Tryz.prog 19 DA:=by
 refine eT wA DA Tryz.func19 rfl (by decide) (N:=5) rfl (res:=[.cell 2 55]) rfl (by decide) [] [] [] 100 (by kernel_rfl) ?_;rintro⟨s,_⟩ a b;refine⟨rfl,fun H c=>?_⟩;dsimp only[go_sem]at a b ⊢;exact⟨rfl,trivial⟩
@[go_sem] noncomputable def ERU:Env:=(((ERS).add 15 Cd).add 18 DZ).add 19 DA
theorem H5:ERU.Ok:=(((wA).add DQ).add xj).add DM
@[go_sem] def GL:Spec:=⟨[.int .i64,.int .i64],fun d=>(.a_ (.slice eK) [mS d.1,mS d.2.1],[])⟩
theorem LM:c6 Tryz.prog 46 GL:=by
 refine eT H5 GL Tryz.func46 rfl (by decide) (N:=10) rfl (res:=[.tmp 4]) rfl (by decide) [(1,[(9,.dt)])] [] [] 100 (by kernel_rfl) ?_;rintro⟨(k:Int),(n:Int),_⟩ a b;refine⟨rfl,fun H c=>?_⟩;dsimp only[go_sem]at a b ⊢;exact⟨rfl,trivial⟩
noncomputable def Mi(a b:Rel):Bool:=@decide (a=b) (Classical.propDecidable _)
theorem G0{a b:Rel}(h:a=b):Mi a b=true:=@QY _ (Classical.propDecidable _) h
theorem Jv{a b:Rel}(h:a≠b):Mi a b=false:=@Q4 _ (Classical.propDecidable _) h
@[go_sem] noncomputable def O':Spec:=⟨[c7,c7],fun d=>(.a_ .bool (Mi d.1 d.2.1),[gZ d.1,gZ d.2.1])⟩
theorem Qo:c6 Tryz.prog 10 O':=by
 refine eT H5 O' Tryz.func10 rfl (by decide) (N:=58) rfl (res:=[.tmp 4]) rfl (by decide) [] [] [] 100 (by kernel_rfl) ?_;rintro⟨a,b,_⟩ r g;refine⟨rfl,fun H t=>?_⟩;dsimp only[go_sem]at r g ⊢;obtain⟨g,w,-⟩:=g;obtain⟨s,l⟩:=a;obtain⟨x,c⟩:=b;change List fy at l c;change iR at s x;obtain⟨y,m,z⟩:=g;obtain⟨A,n,B⟩:=w;change l.length<=400 at m;change c.length<=400 at n;clear r;simp only[Su,R_];refine⟨fun h=>?_,fun h=>?_⟩<;>simp only[RE,RG,Sv,Uw,Qy,Qw,Rp]at h
 ·refine⟨(Jv fun e=>?_).symm,trivial⟩;cases e;rcases h with h|h<;>exact h rfl
 obtain⟨rfl,h⟩:=h;have h:(l.length:Int)=(c.length:Int):=h;have h:l.length=c.length:=by omega
 refine t.loop (fun i:Nat=>⟨[(5,.a_ (.int .i64) (i:Int)),(2,.ref 0 0),(3,.ref 1 0)],[(0,.box 28 (.cons (.a_ .str s.1) (.cons (.a_ .bool s.2.1) (.cons (.a_ (.slice fe) s.2.2) (.cons (.a_ (.slice b8) l) .nil))))),(1,.box 28 (.cons (.a_ .str s.1) (.cons (.a_ .bool s.2.1) (.cons (.a_ (.slice fe) s.2.2) (.cons (.a_ (.slice b8) c) .nil)))))],2⟩) (fun i=>i<=l.length/\∀ j,j<i->l.getD j tz=c.getD j tz) (fun i=>l.length-i) 0 2 ⟨QE _,fun j h=>absurd h (Q' _)⟩ ?_ ?_
 ·dsimp only[go_sem];and_intros<;>first|trivial|rfl|omega
 ·rintro i ⟨hi,u⟩ R C;refine t.run 100 _ _ ?_;dsimp only[go_sem];have o:∀ j,l.getD j (zd b8)=l.getD j tz:=fun _=>rfl;have p:∀ j,c.getD j (zd b8)=c.getD j tz:=fun _=>rfl;simp only[QH,Su,R_,o,p];refine⟨fun d=>?_,fun d=>?_⟩<;>simp only[Qy,Qw]at d
  ·have d:i<l.length:=by omega
   have v:(0:Int)<=(i:Int)/\(i:Int)<(l.length:Int):=by omega
   have f:(0:Int)<=(i:Int)/\(i:Int)<(c.length:Int):=by omega
   have q:gG .i64 ((i:Int)+1):=by rw[c9]; omega
   refine⟨v,f,fun _=>v,fun _=>f,fun e=>?_,fun e=>⟨q,C _ (i+1) 2 ⟨d,fun j I=>?_⟩ (by omega) ?_⟩⟩<;>simp only[RE,RG,Sv,Uw,Qy,Qw]at e
   ·refine⟨(Jv fun k=>?_).symm,trivial⟩;cases k;rcases e with e|e
    ·exact e rfl
    ·exact e ⟨rfl,rfl,rfl⟩
   ·rcases QA j i with k|k
    ·exact u j k
    ·have:j=i:=by omega
     rw[this];obtain⟨D,E,F,G⟩:=e;exact Wl D (Wl E (Wl F G))
   ·dsimp only[go_sem];and_intros<;>first|trivial|rfl|omega
  ·have d:i=l.length:=by omega
   subst d;exact⟨(G0 (by rw[xH tz h u])).symm,trivial⟩
@[go_sem] noncomputable def ERF:Env:=((((((((ERE).add 11 Ng).add 39 Lf).add 15 Cd).add 18 DZ).add 19 DA).add 46 GL).add 10 O').add 17 zT
theorem Gc:ERF.Ok:=((((((((aa7).add I4).add Ic).add DQ).add xj).add DM).add LM).add Qo).add Hn
instance acM:DecidableEq rG:=inferInstanceAs (DecidableEq (List UInt8×Int×Bool))
instance acN:DecidableEq fS:=inferInstanceAs (DecidableEq (Int×Int×List UInt8))
instance acR:DecidableEq FN:=inferInstanceAs (DecidableEq (Bool×List Int×List Int))
instance acK:DecidableEq (List rG):=inferInstance
instance acI:DecidableEq (List fS):=inferInstance
instance acO:DecidableEq iR:=inferInstanceAs (DecidableEq (List UInt8×Bool×List rG))
instance acQ:DecidableEq fy:=inferInstanceAs (DecidableEq (List fS×FN))
instance acL:DecidableEq (List fy):=inferInstance
instance acP:DecidableEq Rel:=inferInstanceAs (DecidableEq (iR×List fy))
def qt:iR:=([75],false,[([107],1,true),([118],1,false)])
def kT(k w p:Int):fy:=([mS k,mS w],qf (wH p))
theorem abf:sd.getD (Int.toNat 2) (zd (Ty.str.pair (Ty.bool.pair (Ty.str.pair ((Ty.int IntKind.i64).pair Ty.bool)).slice)))=qt:=rfl
theorem k_1:fU (qt,[]) (kT 1 2 2)=0:=by decide +kernel
theorem k_2:ky (qt,[]) (kT 1 2 2)=(qt,[kT 1 2 2]):=by decide +kernel
theorem k_3:fU (qt,[kT 1 2 2]) (kT 1 1 0)=19:=by decide +kernel
theorem k_4:fU (qt,[kT 1 2 2]) (kT 1 1 1)=0:=by decide +kernel
theorem k_5:ky (qt,[kT 1 2 2]) (kT 1 1 1)=(qt,[kT 1 1 1,kT 1 2 2]):=by decide +kernel
theorem k_6:zg (qt,[kT 1 1 1,kT 1 2 2])=[[0,1]]:=by decide +kernel
theorem k_7:1-gS [kT 1 1 1,kT 1 2 2] [0,1]=0:=by decide +kernel
theorem acD:gZ (qt,[]):=by unfold gZ; decide +kernel
theorem aca:gZ (qt,[kT 1 2 2]):=by unfold gZ; decide +kernel
theorem abu:gZ (qt,[kT 1 1 1,kT 1 2 2]):=by unfold gZ; decide +kernel
theorem k_8:(if gC (qt,[kT 1 1 1,kT 1 2 2])=0 then ic (qt,[kT 1 1 1,kT 1 2 2])else [])=[[0,1]]:=k_6
theorem k_9:fs (qf 0)<=5000000/\iM (fq (qf 0))=0:=by decide +kernel
@[go_sem] def aaB:Spec:=⟨[],fun d=>(.a_ .bool true,[])⟩
theorem Pr:c6 Tryz.prog 14 aaB:=by
 refine eT Gc aaB Tryz.func14 rfl (by decide) (N:=71) rfl (res:=[.tmp 0]) rfl (by decide) [(2,[(1000000,.mx [(7,1000000)])]),(3,[(1000000,.mx [(10,8),(7,1000000),(2000000,8)])]),(4,[(1000000,.mx [(7,1000000)])])] [] [] 100 (by kernel_rfl) ?_;rintro⟨_⟩ a b;refine⟨rfl,fun H i=>?_⟩;dsimp only[go_sem]at a b ⊢;have c:(([mS 1,mS 2],qf (wH 2)):fy)=kT 1 2 2:=rfl;have d:(([mS 1,mS 1],qf (wH 0)):fy)=kT 1 1 0:=rfl;have e:(([mS 1,mS 1],qf (wH 1)):fy)=kT 1 1 1:=rfl;simp only[abf,c,d,e,k_1,k_2,k_3,k_4,k_5,decide_true,Bool.and_self,Su,R_];simp only[k_8,k_6];have g:(0:Int)<=0/\(0:Int)<(([[0,1]]:List (List Int)).length:Int):=by decide
 have h:([[0,1]]:List (List Int)).getD (Int.toNat 0) []=[0,1]:=rfl;have j:(([kT 1 1 1,kT 1 2 2]:List fy).length:Int)=2:=rfl;have k:(([[0,1]]:List (List Int)).length:Int)=1:=rfl;have f:∀ n:Int,qs (wH n)<=1:=fun n=>(Ik n).1;rw[QJ g,h,k_7];refine⟨by decide,acD,⟨by decide,by rw[ig]; have:=f 2; omega⟩,aca,⟨by decide,by rw[ig]; have:=f 0; omega⟩,aca,⟨by decide,by rw[ig]; have:=f 1; omega⟩,abu,fun _=>abu,fun _=>k_9.1,?_,trivial⟩;rw[k_9.2];decide
@[go_sem] noncomputable def ERG:Env:=(ERF).add 14 aaB
theorem GZ:ERG.Ok:=(Gc).add Pr
def b5(n:Int):Int:=ij .and .i64 (kr .i64 n 7) 31
def zP(n:Int):List fS:=[mS (ij .and .i64 n 3),mS (ij .and .i64 (kr .i64 n 2) 3)]
def oX(n:Int):fy:=if b5 n=31 then((zP n).set 1 (OT [120]),qf (wH (kr .i64 n 4)))else if b5 n=30 then(zP n,qf (bfr (kr .i64 n 12)))else if b5 n=29 then((zP n).take 1,qf (wH (kr .i64 n 4)))else(zP n,qf (wH (kr .i64 n 4)))
@[go_sem] def OP:Spec:=⟨[.int .i64],fun d=>(.a_ b8 (oX d.1),[])⟩
theorem aam:c6 Tryz.prog 5 OP:=by
 refine eT GZ OP Tryz.func5 rfl (by decide) (N:=38) rfl (res:=[.cell 2 37]) rfl (by decide) [] [(8,[1]),(9,[1])] [] 100 (by kernel_rfl) ?_;rintro⟨(n:Int),_⟩ d e;refine⟨rfl,fun H f=>?_⟩;dsimp only[go_sem]at d e ⊢;change 0<=2/\0<=4/\0<=7/\(decide (b5 n=31)=true->(0<=1/\1<((zP n).length:Int))/\Int.toNat 1<(zP n).length/\(((zP n).set (Int.toNat 1) (OT [120]),qf (wH (kr .i64 n 4))):fy)=oX n/\True)/\(decide (b5 n=31)=false->(decide (b5 n=30)=true->0<=12/\((zP n,qf (bfr (kr .i64 n 12))):fy)=oX n/\True) /\
  (decide (b5 n=30)=false->(decide (b5 n=29)=true->(0<=1/\1<=((zP n).length:Int))/\((List.take (Int.toNat 1) (zP n),qf (wH (kr .i64 n 4))):fy)=oX n/\True)/\(decide (b5 n=29)=false->((zP n,qf (wH (kr .i64 n 4))):fy)=oX n/\True)))
 have c:((zP n).length:Int)=2:=rfl;unfold oX;refine⟨by decide,by decide,by decide,fun h=>⟨by rw[c]; decide,(show 1<2 by decide),?_,trivial⟩,fun h=>⟨fun a=>⟨by decide,?_,trivial⟩,fun a=>⟨fun b=>⟨by rw[c]; decide,?_,trivial⟩,fun b=>⟨?_,trivial⟩⟩⟩⟩<;>simp only[Qy,Qw]at *
 ·rw[QJ h]; rfl
 ·rw[QC h,QJ a]
 ·rw[QC h,QC a,QJ b]; rfl
 ·rw[QC h,QC a,QC b]
theorem KW(n:Int):(oX n).1.length<=2/\fs (oX n).2<=64:=by
 have a:=(Ik (kr .i64 n 4)).1;have b:=rU (abm (kr .i64 n 12));unfold oX;split
 ·exact⟨by simp[zP],by rw[ig]; omega⟩
 ·split
  ·exact⟨by simp[zP],by rw[ig]; omega⟩
  ·split
   ·exact⟨by simp[zP],by rw[ig]; omega⟩
   ·exact⟨by simp[zP],by rw[ig]; omega⟩
@[go_sem] noncomputable def ERH:Env:=(ERG).add 5 OP
theorem P0:ERH.Ok:=(GZ).add aam
theorem K'{cs:List rG}:(cs.any fun c=>c.2.2)=false↔((List.range cs.length).filter fun i=>(cs.getD i cz).2.2).length=0:=by
 rw[SH,Vu,VZ];constructor
 ·intro h i hi;exact h _ (fW cz (Rn.1 hi))
 ·intro h x b;obtain⟨j,a,e⟩:=Rz.1 b;have:=h j (Rn.2 a);rw[Qz,Qr a,SO,e]at this;exact this
theorem Ef{s:iR}{l:List fy}(h:uE (s,l)){i:Nat}(hi:i<l.length):(s.2.2.any fun c=>c.2.2)=false↔(gx (s,l) i).length=0:=by
 rw[K',su h hi]
@[go_sem] def Dz:Spec:=⟨[c7],fun d=>(.a_ (.slice (.slice (.int .i64))) (ic d.1),[gZ d.1,uE d.1])⟩
theorem M9:c6 Tryz.prog 70 Dz:=by
 refine eT nK Dz Tryz.func70 rfl (by decide) (N:=92) rfl (res:=[.tmp 2]) rfl (by decide) [(9,[(29,.ns),(30,.ns)]),(18,[(74,.dt),(75,.ns)]),(20,[(1000000,.mx [(9000000,0)])])] [] [19] 100 (by kernel_rfl) ?_;rintro⟨r,_⟩ hw m;refine⟨rfl,fun H o=>?_⟩;dsimp only[go_sem]at hw m ⊢;obtain⟨m,ab,-⟩:=m;obtain⟨s,l⟩:=r;change List fy at l;obtain⟨v,ac,an⟩:=m;change l.length<=400 at ac;clear hw;refine⟨fun hc=>⟨by unfold ic; rw[QJ hc],trivial⟩,fun hc=>?_⟩;have ad:ic (s,l)=(fr (gx (s,l)) l.length).2:=by unfold ic; rw[QC (by rw[hc]; exact RZ)]
 refine⟨v,?_⟩;refine o.hand (fun H o D=>?_) (by kernel_rfl);refine o.loop (fun i:Nat=>⟨[(5,.a_ (.int .i64) (i:Int)),(4,.a_ .bool (s.2.2.any fun c=>c.2.2)),(3,.iE 1 (fr (gx (s,l)) i).2.length),(1,.ref 0 0)],[(0,.box 28 (.cons (.a_ .str s.1) (.cons (.a_ .bool s.2.1) (.cons (.a_ (.slice fe) s.2.2) (.cons (.a_ (.slice b8) l) .nil))))),(1,.eW 22 false 2 none),(2,.gv 3 (.int .i64) (fr (gx (s,l)) i).2)],3⟩) (fun i=>i<=l.length) (fun i=>l.length-i) 0 1 (QE _) ?_ ?_
 ·dsimp only[go_sem];and_intros<;>first|trivial|rfl|omega
 ·rintro i hi R hm;refine o.run 100 _ _ ?_;dsimp only[go_sem];simp only[QH];have ae:gj s.2.2 (l.getD i (zd b8)).1=gx (s,l) i:=rfl;have E:i<l.length->((s.2.2.any fun c=>c.2.2)=false↔(gx (s,l) i).length=0):=fun d=>Ef ab d;have g:=mh (gx (s,l)) i;have b:fr (gx (s,l)) (i+1)=if(gx (s,l) i).length=0 then(fB (fr (gx (s,l)) i).1 (fr (gx (s,l)) i).2.length [gx (s,l) i],fB (fr (gx (s,l)) i).2 (fr (gx (s,l)) i).2.length [[(i:Int)]])
   else if nv (fr (gx (s,l)) i).1 (gx (s,l) i)=true then((fr (gx (s,l)) i).1,(fr (gx (s,l)) i).2.set (fV (fr (gx (s,l)) i).1 (gx (s,l) i)) ((fr (gx (s,l)) i).2.getD (fV (fr (gx (s,l)) i).1 (gx (s,l) i)) []++[(i:Int)]))
   else(fB (fr (gx (s,l)) i).1 (fV (fr (gx (s,l)) i).1 (gx (s,l) i)) [gx (s,l) i],fB (fr (gx (s,l)) i).2 (fV (fr (gx (s,l)) i).1 (gx (s,l) i)) [[(i:Int)]]):=rfl
  have O:∀ j,(gx (s,l) j).length<=1000:=fun j=>y_ v;have af:=O i;have y:=g.len;have z:=g.le;have w:=g.el;have F:=g.hd;have G:∀ e∈(fr (gx (s,l)) i).1,e.length<=1000:=fun e he=>by
   obtain⟨j,_,rfl⟩:=g.ke e he;exact O j
  have u:i=l.length->(fr (gx (s,l)) i).2=ic (s,l):=fun e=>by rw[ad,e]
  clear g;simp only[ae];have al:∀ j:Nat,gj s.2.2 (l.getD j (zd b8)).1=gx (s,l) j:=fun _=>rfl;generalize fr (gx (s,l)) i=S at b y z w F G u ⊢;generalize hk:gx (s,l) i=k at b af E ⊢;obtain⟨K,B⟩:=S;dsimp only at b y z w F G u ⊢;have I:i<l.length->gG .i64 ((i:Int)+1):=fun d=>by rw[c9]; omega
  refine⟨fun d=>⟨fun e=>?_,fun e=>?_⟩,fun d=>?_⟩
  ·have d:i<l.length:=by have d:(i:Int)<(l.length:Int):=QF d; omega
   have e:k.length=0:=(E d).1 (by simpa using e);rw[QJ e]at b;refine⟨?_,⟨trivial,trivial⟩,I d,o.Gi [(0,0),(1,6),(2,7)] 3 rfl rfl (QE _) rfl ?_⟩
   ·show(B.length+1)*24<=_;omega
   ·dsimp only[go_sem];refine hm _ (i+1) 3 d (by omega) ?_;dsimp only[go_sem];rw[b];have e2:fB B B.length [[(i:Int)]]=B++[[(i:Int)]]:=by unfold fB; rw[TR,TY,Q9]
    simp only[e2];and_intros<;>first|trivial|rfl|omega
  ·have d:i<l.length:=by have d:(i:Int)<(l.length:Int):=QF d; omega
   have hb:(0:Int)<=(i:Int)/\(i:Int)<(l.length:Int):=by omega
   have e:k.length≠0:=fun h=>by
    have:=(E d).2 h;rw[this]at e;cases e
   rw[QC e]at b;refine⟨hb,v,?_⟩;refine o.loop (fun q:Nat=>⟨[(8,.a_ .bool false),(7,.a_ (.int .i64) (q:Int)),(6,.a_ (.slice eK) k),(5,.a_ (.int .i64) (i:Int)),(4,.a_ .bool (s.2.2.any fun c=>c.2.2)),(3,.iE 1 B.length),(1,.ref 0 0)],[(0,.box 28 (.cons (.a_ .str s.1) (.cons (.a_ .bool s.2.1) (.cons (.a_ (.slice fe) s.2.2) (.cons (.a_ (.slice b8) l) .nil))))),(1,.eW 22 false 2 none),(2,.gv 3 (.int .i64) B)],3⟩) (fun q=>q<=B.length/\∀ a,a<q->cT (K.getD a []) k<0) (fun q=>B.length-q) 0 3 ⟨QE _,fun a h=>absurd h (Q' _)⟩ ?_ ?_
   ·dsimp only[go_sem];and_intros<;>first|trivial|rfl|omega
   ·rintro q ⟨hq,J⟩ R2 ah;refine o.run 100 _ _ ?_;dsimp only[go_sem];simp only[QH];apply I_ (H:=H) (inv:=fun p:Nat=>⟨[(7,.a_ (.int .i64) (p:Int)),(5,.a_ (.int .i64) (i:Int)),(4,.a_ .bool (s.2.2.any fun c=>c.2.2)),(3,.iE 1 B.length),(1,.ref 0 0)],[(0,.box 28 (.cons (.a_ .str s.1) (.cons (.a_ .bool s.2.1) (.cons (.a_ (.slice fe) s.2.2) (.cons (.a_ (.slice b8) l) .nil))))),(1,.eW 22 false 2 none),(2,.gv 3 (.int .i64) B)],3⟩) (Q:=fun p=>p<=B.length/\fr (gx (s,l)) (i+1)=(fB K p [k],fB B p [[(i:Int)]]))
    ·intro key;have P:q<B.length->gj s.2.2 (l.getD (Int.toNat ((B.getD q []).getD (Int.toNat 0) (zd (.int .i64)))) (zd b8)).1=K.getD q []:=fun f=>F q f;have ai:q<B.length->(K.getD q []).length<=1000:=fun f=>G _ (fW [] (show q<K.length by omega));have U:q<B.length->0<(B.getD q []).length/\0<=(B.getD q []).getD (Int.toNat 0) (zd (.int .i64))/\(B.getD q []).getD (Int.toNat 0) (zd (.int .i64))<(l.length:Int):=fun f=>by
      obtain⟨g1,g2,g3⟩:=w _ (fW [] f);have V:0<(B.getD q []).length:=US.2 g1;have:=g3 _ (fW (0:Int) (show 0<(B.getD q []).length from V));refine⟨V,this.1,?_⟩;have h2:=this.2;show(B.getD q []).getD 0 0<(l.length:Int);omega
     have W:q<B.length->(B.getD q []).length<=i:=fun f=>(w _ (fW [] f)).2.1;obtain⟨X,Y⟩:∃ X,gj s.2.2 (l.getD (Int.toNat ((B.getD q []).getD (Int.toNat 0) (zd (.int .i64)))) (zd b8)).1=X:=⟨_,rfl⟩;rw[Y]at P;simp only[Y];have aj:gG .i64 ((i:Int)+1):=I d;refine⟨fun f=>?_,fun f=>?_⟩
     ·have f:q<B.length:=by have f:(q:Int)<(B.length:Int):=QF f; omega
      have L:(0:Int)<=(q:Int)/\(q:Int)<(B.length:Int):=by omega
      obtain⟨g1,g2,g3⟩:=U f;have Z:=P f;have ao:X.length<=1000:=by rw[Z]; exact ai f
      have W:=W f;have A:0<=cT X k->fV K k=q:=fun h0=>sD (by omega) J fun _=>by rw[<-Z]; exact h0
      refine⟨L,f,⟨Ui _,by show(0:Int)<((B.getD q []).length:Int); omega⟩,g1,⟨g2,g3⟩,v,⟨by omega,by omega⟩,fun C=>⟨fun M=>?_,fun M=>?_⟩,fun C=>?_⟩
      ·have M:cT X k=0:=QF M;have m:=A (by omega);have D:nv K k=true:=jP.2 (by rw[m]; exact⟨by omega,by rw[<-Z]; exact(oN _ _).1 M⟩);rw[QJ D,m]at b;refine⟨L,f,?_,trivial,L,⟨trivial,trivial⟩,aj,o.Gi [(0,0),(1,1),(2,3)] 3 rfl rfl (QE _) rfl ?_⟩
       ·show((B.getD q []).length+1)*8<=_;omega
       ·dsimp only[go_sem];refine hm _ (i+1) 3 d (by omega) ?_;dsimp only[go_sem];rw[b];and_intros<;>first|trivial|rfl|omega|(simp only[Sb])
      ·have C:0<=cT X k:=QF C;have M:¬cT X k=0:=QN M;have m:=A C;have D:nv K k=false:=by
        cases h:nv K k with
        | false=>rfl
        | true =>
         have:=(jP.1 h).2
         rw[m,<-Z]at this
         exact absurd ((oN _ _).2 this) M
       rw[QC (by rw[D]; exact RZ),m]at b;refine o.mR _ 3 ?_ (key q ⟨by omega,b⟩);dsimp only[go_sem];and_intros<;>first|trivial|rfl|omega
      ·have C:¬0<=cT X k:=QN C;have aa:decide (cT X k=0)=false:=Q4 fun h=>C (by rw[h]; exact Ui _);refine⟨by rw[c9]; omega,ah _ (q+1) 3 ⟨f,fun a ha=>?_⟩ (by omega) ?_⟩
       ·rcases QA a q with h'|h'
        ·exact J a h'
        ·have:a=q:=by omega
         rw[this,<-Z]; exact W8.1 C
       ·dsimp only[go_sem];and_intros<;>first|trivial|rfl|exact aa|exact aa.symm|omega
     ·have f:q=B.length:=by have f:¬(q:Int)<(B.length:Int):=QN f; omega
      have m:fV K k=q:=sD (by omega) J fun h=>by omega
      have D:nv K k=false:=by
       cases h:nv K k with
       | false=>rfl
       | true=>have:=(jP.1 h).1; omega
      rw[QC (by rw[D]; exact RZ),m]at b;refine⟨fun h=>Bool.noConfusion h,fun _=>o.mR _ 3 ?_ (key q ⟨hq,b⟩)⟩;dsimp only[go_sem];and_intros<;>first|trivial|rfl|omega
    ·rintro p ⟨ak,b⟩;refine IJ D (c:=1) (d:=2) (n:=B.length) (p:=p) (i:=(i:Int)) (sl:=[(5,.a_ (.int .i64) (i:Int)),(4,.a_ .bool (s.2.2.any fun c=>c.2.2)),(1,.ref 0 0)]) (Tss:=85) (T:=22) (Ti:=3) (by kernel_rfl) (by kernel_rfl) (nK.fact rfl) (nK.fact rfl) rfl (by decide) rfl rfl rfl rfl rfl rfl (show 91<92 by decide) (by kernel_rfl) (by kernel_rfl) ?_ rfl ak (by omega) ?_
     ·intro t x hx;have hx:=b7 hx;simp only[Qv,SB,QW,RV]at hx;rcases hx with⟨rfl,rfl⟩|⟨rfl,rfl⟩|⟨rfl,rfl⟩
      ·exact⟨rfl,(show 5<92 by decide),by decide,by decide,by decide⟩
      ·exact⟨rfl,(show 4<92 by decide),by decide,by decide,by decide⟩
      ·exact⟨rfl,(show 1<92 by decide),by decide,by decide,by decide⟩
     ·refine o.run 100 _ _ ?_;dsimp only[go_sem];refine⟨I d,o.Gi [(0,0),(1,3),(2,4)] 3 rfl rfl (QE _) rfl ?_⟩;dsimp only[go_sem];refine hm _ (i+1) 3 d (by omega) ?_;dsimp only[go_sem];rw[b];simp only[hO,UJ];and_intros<;>first|trivial|rfl|omega
  ·have d:i=l.length:=by have d:¬(i:Int)<(l.length:Int):=QN d; omega
   exact⟨u d,trivial⟩
@[go_sem] noncomputable def ERI:Env:=(ER8).add 70 Dz
theorem oQ{q:Rat}:iM q<0↔q<0:=by
 unfold iM;rw[Int.sign_neg_iff];have h:=Rat.num_nonneg (q:=q);constructor
 ·intro b; exact W9.1 fun a=>by have:=h.2 a; omega
 ·intro b; exact W8.1 fun a=>W9.2 b (h.1 a)
theorem NW{q:Rat}:0<iM q↔0<q:=by
 have h:=oQ (q := -q);rw[w8]at h;constructor
 ·intro a;have:=h.1 (by omega);grind
 ·intro a;have:=h.2 (by grind);omega
theorem zN{p q:Rat}:0<jX p q↔q<p:=by
 unfold jX;rw[NW];constructor<;>intro h<;>grind
def kj(s:iR)(t:fy):List fS:=gj s.2.2 t.1
def k_(l:List fy):Rat:=lS (l.map (·.2))
def gQ(s:iR)(l:List fy)(k:List fS):List fy:=l.filter fun t=>decide (kj s t=k)
def si(l:List fy):Prop:=l.Pairwise fun a b=>cT a.1 b.1<0
theorem v_(f:fT.den)(l:List fT.den):lS (f::l)=fq f+lS l:=by
 have h:∀(l:List fT.den) (a b:Rat),l.foldl (fun a f=>a+fq f) (a+b)=a+l.foldl (fun a f=>a+fq f) b:=by
  intro l
  induction l with
  | nil=>intro a b; rfl
  | cons x l c=>intro a b; rw[UN,UN,Rat.add_assoc,c]
 unfold lS;rw[UN,Rat.add_comm 0,h]
theorem fY(t:fy)(l:List fy):k_ (t::l)=fq t.2+k_ l:=by
 unfold k_;rw[S0,v_]
theorem Hw:k_ []=0:=rfl
theorem kA{l l':List fy}(h:l.Perm l'):k_ l=k_ l':=by
 induction h with
 | nil=>rfl
 | cons x _ a=>rw[fY,fY,a]
 | swap x y l=>rw[fY,fY,fY,fY]; grind
 | trans _ _ b c=>rw[b,c]
theorem Lk{l:List fy}(h:∀ t∈l,0<=fq t.2):0<=k_ l:=by
 induction l with
 | nil=>rw[Hw]; grind
 | cons x l a =>
  rw[fY]
  have:=h x Qx
  have:=a fun t b=>h t (Qs _ b)
  grind
theorem Gu{l l':List fy}(c:l.Sublist l')(h:∀ t∈l',0<=fq t.2):k_ l<=k_ l':=by
 induction c with
 | slnil=>grind
 | cons x _ a =>
  rw[fY]
  have:=h x Qx
  have:=a fun t b=>h t (Qs _ b)
  grind
 | cons_cons x _ a =>
  rw[fY,fY]
  have:=a fun t b=>h t (Qs _ b)
  grind
theorem Ek{a:Type}(d:a)(l:List a):(List.range l.length).map (fun i=>l.getD i d)=l:=by
 apply Um
 ·simp
 ·intro i c b;rw[Xc,W5,Qz,Qr b];rfl
theorem Ac{a:Type}(d:a)(l:List a)(p:a->Bool):((List.range l.length).filter fun i=>p (l.getD i d)).map (fun i=>l.getD i d)=l.filter p:=by
 have h:=Sr (List.filter p) (Ek d l);rw[List.filter_map]at h;exact h
def idx(a:Nat->List fS)(n:Nat)(k:List fS):List Int:=((List.range n).filter fun i=>decide (a i=k)).map fun i:Nat=>(i:Int)
theorem yT(a:Nat->List fS)(n:Nat)(k:List fS):idx a (n+1) k=idx a n k++if a n=k then [(n:Int)]else []:=by
 unfold idx;rw[T8,U5,SG];congr 1;simp only[TX,UP,Qy];split<;>rfl
theorem qe(a:List fS):cT a a=0:=(oN a a).2 rfl
theorem tC{K:List (List fS)}(h:Fz K){k:List fS}(hk:k∈K):nv K k=true:=by
 obtain⟨j,b,e⟩:=Rz.1 hk;have c:K.getD j []=k:=by rw[Qz,Qr b]; exact e
 have d:fV K k=j:=sD (VQ b) (fun a f=>by rw[<-c]; exact h a j f b) fun _=>by rw[c,qe]; exact Ui _
 rw[jP,d];exact⟨b,c⟩
theorem Ig{K:List (List fS)}(h:Fz K){i j:Nat}(hi:i<K.length)(b:j<K.length)(e:K.getD i []=K.getD j []):i=j:=by
 rcases TI i j with a|a|a
 ·have:=h i j a b;rw[e,qe]at this;omega
 ·exact a
 ·have:=h j i a hi;rw[e,qe]at this;omega
theorem jb{a:Type}{l:List a}{i:Nat}(d:a)(h:i<l.length):l.getD i d∈l:=by
 rw[Qz,Qr h];exact Tf h
theorem DS{a:Type}{l m:List a}{i:Nat}{x:a}(h:x∈l∨x∈m):x∈fB l i m:=by
 unfold fB;rcases h with h|h
 ·rw[<-Q6 i l]at h;rcases QZ.1 h with h|h
  ·exact SV _ (SV _ h)
  ·exact Te _ h
 ·exact SV _ (Te _ h)
theorem D_{a:Nat->List fS}{M:Nat}(h:∀ j,j<M->(a j).length≠0):∀ n,n<=M->(∀ j,j<(fr a n).1.length->(fr a n).2.getD j []=idx a n ((fr a n).1.getD j []))/\∀ i,i<n->a i∈(fr a n).1
 | 0,_=>⟨(fun j b=>by cases b),(fun i hi=>by cases hi)⟩
 | n+1,y=>by
  obtain⟨l,m⟩:=D_ h n (by omega);have o:=xP h n (by omega);have d:=mh a n;have s:=d.len;have t:=qA (fr a n).1 (a n);have u:fr a (n+1)=if nv (fr a n).1 (a n)=true then((fr a n).1,(fr a n).2.set (fV (fr a n).1 (a n)) ((fr a n).2.getD (fV (fr a n).1 (a n)) []++[(n:Int)]))
      else(fB (fr a n).1 (fV (fr a n).1 (a n)) [a n],fB (fr a n).2 (fV (fr a n).1 (a n)) [[(n:Int)]]):=by
   rw[fr];exact QC (h n (by omega))
  rw[u];by_cases f:nv (fr a n).1 (a n)=true
  ·rw[QJ f];obtain⟨p,q⟩:=jP.1 f;dsimp only;refine⟨fun j b=>?_,fun i hi=>?_⟩
   ·rw[yT];by_cases g:j=fV (fr a n).1 (a n)
    ·rw[g,rJ (by omega),l _ p,q,QJ rfl]
    ·rw[getD_set_ne (by omega),l j b,QC,Q9];intro e;exact g (Ig o b p (by rw[q,<-e]))
   ·rcases QA i n with c|c
    ·exact m i c
    ·have:i=n:=by omega
     rw[this,<-q];exact jb _ p
  ·rw[QC f];dsimp only;have k:∀ j,j<(fr a n).1.length->a n≠(fr a n).1.getD j []:=fun j b e=>f (tC o (by rw[e]; exact jb _ b));have r:idx a n (a n)=[]:=by
    unfold idx;rw[Vu.2,VR];intro i hi e;have hi:=Rn.1 hi;exact f (tC o (by rw[<-QF e]; exact m i hi))
   refine⟨fun j b=>?_,fun i hi=>?_⟩
   ·rw[hO]at b;have b:j<(fr a n).1.length+1:=b;rw[lF (by omega),lF t,yT];have v:[a n].length=1:=rfl;have w:[[(n:Int)]].length=1:=rfl;rw[v,w];split
    ·rename_i c;rw[l j (by omega),QC (k j (by omega)),Q9]
    ·split
     ·rename_i c x;have:j-fV (fr a n).1 (a n)=0:=by omega
      rw[this];show [(n:Int)]=idx a n (a n)++if a n=a n then [(n:Int)]else []
      rw[r,QJ rfl];rfl
     ·rename_i c x;rw[l (j-1) (by omega),QC (k (j-1) (by omega)),Q9]
   ·rcases QA i n with c|c
    ·exact DS (.inl (m i c))
    ·have:i=n:=by omega
     rw[this];exact DS (.inr (RH.2 rfl))
theorem C6{a:Nat->List fS}{M:Nat}(h:∀ j,j<M->(a j).length=0):∀ n,n<=M->(fr a n).2=(List.range n).map fun i:Nat=>[(i:Int)]
 | 0,_=>rfl
 | n+1,d=>by
  have b:=C6 h n (by omega);have c:fr a (n+1)=(fB (fr a n).1 (fr a n).2.length [a n],fB (fr a n).2 (fr a n).2.length [[(n:Int)]]):=by
   rw[fr];exact QJ (h n (by omega))
  rw[c];dsimp only;unfold fB;rw[TR,TY,Q9,b,T8,SG];rfl
theorem B1(s:iR)(l:List fy)(k:List fS):(idx (gx (s,l)) l.length k).map (fun i=>l.getD i.toNat tz)=gQ s l k:=by
 unfold idx gQ;rw[Vs,<-Ac tz];rfl
theorem DC(s:iR)(l:List fy)(k:List fS):gS l (idx (gx (s,l)) l.length k)=k_ (gQ s l k):=by
 unfold gS k_;rw[<-B1,Vs];rfl
theorem BJ(s:iR)(l:List fy)(k:List fS):(idx (gx (s,l)) l.length k).length=(gQ s l k).length:=by
 rw[<-B1,Rt]
theorem xU(s:iR)(l:List fy)(v:List fS):kW (s,l) v=if(gj s.2.2 v).length=0 then []else idx (gx (s,l)) l.length (gj s.2.2 v):=by
 unfold kW FP idx;have h:∀ i,decide (cT (gj s.2.2 (l.getD i tz).1) (gj s.2.2 v)=0)=decide (gx (s,l) i=gj s.2.2 v):=fun i=>S4.2 (oN _ _);simp only[h]
theorem Nv{s:iR}{l:List fy}(h:uE (s,l)):(∀ t∈l,(kj s t).length≠0)∨∀ t∈l,(kj s t).length=0:=by
 have b:∀ t∈l,(kj s t).length=((List.range s.2.2.length).filter fun i=>(s.2.2.getD i cz).2.2).length:=by
  intro t a;obtain⟨j,c,e⟩:=Rz.1 a;have:=su h (j:=j) c;have d:gx (s,l) j=kj s t:=by
   unfold gx kj;rw[Qz,Qr c,<-e]; rfl
  rw[<-d]; exact this
 by_cases e:((List.range s.2.2.length).filter fun i=>(s.2.2.getD i cz).2.2).length=0
 ·exact .inr fun t a=>(b t a).trans e
 ·exact .inl fun t a=>by rw[b t a]; exact e
theorem GD{a:Type}{l:List a}(d:a){P:a->Prop}:(∃ t∈l,P t)↔∃ i,i<l.length/\P (l.getD i d):=by
 constructor
 ·rintro⟨t,c,h⟩;obtain⟨j,b,e⟩:=Rz.1 c;refine⟨j,b,?_⟩;rw[Qz,Qr b,SO,e];exact h
 ·rintro⟨i,hi,h⟩;exact⟨_,jb d hi,h⟩
theorem C5{s:iR}{l:List fy}(h:uE (s,l))(p:List Int->Bool):(ic (s,l)).any p=true↔s.2.1=false/\∃ i,i<l.length/\p (if(gx (s,l) i).length=0 then [(i:Int)]else idx (gx (s,l)) l.length (gx (s,l) i))=true:=by
 unfold ic;by_cases m:s.2.1=true
 ·rw[QJ m,m];simp
 ·rw[QC m];have n:s.2.1=false:=by simpa using m
  rw[n];simp only[R_];rcases Nv h with hk|hk
  ·have a:∀ j,j<l.length->(gx (s,l) j).length≠0:=fun j d=>hk _ (jb tz d);obtain⟨q,r⟩:=D_ a l.length (Qu _);have hi:=mh (gx (s,l)) l.length;constructor
   ·intro t;obtain⟨b,u,f⟩:=Tv.1 t;obtain⟨j,d,e⟩:=Rz.1 u;have g:j<(fr (gx (s,l)) l.length).1.length:=by rw[hi.len]; exact d
    have k:=q j g;rw[Qz,Qr d,SO,e]at k;obtain⟨i,c,o⟩:=hi.ke _ (jb [] g);refine⟨i,c,?_⟩;rw[QC (a i c),<-o,<-k];exact f
   ·rintro⟨i,c,f⟩;rw[QC (a i c)]at f;obtain⟨j,d,e⟩:=Rz.1 (r i c);have k:=q j d;have o:(fr (gx (s,l)) l.length).1.getD j []=gx (s,l) i:=by rw[Qz,Qr d,SO,e]
    rw[o]at k;refine Tv.2 ⟨_,jb [] (by rw[<-hi.len]; exact d),?_⟩;rw[k]; exact f
  ·have a:∀ j,j<l.length->(gx (s,l) j).length=0:=fun j d=>hk _ (jb tz d);rw[C6 a l.length (Qu _),List.any_map,Tv];constructor
   ·rintro⟨i,hi,f⟩;have hi:=Rn.1 hi;exact⟨i,hi,by rw[QJ (a i hi)]; exact f⟩
   ·rintro⟨i,hi,f⟩;rw[QJ (a i hi)]at f;exact⟨i,Rn.2 hi,f⟩
theorem xw{s:iR}{l:List fy}(h:uE (s,l)):(ic (s,l)).any qD=true↔s.2.1=false/\∃ t∈l,(kj s t).length≠0/\16<(gQ s l (kj s t)).length:=by
 rw[C5 h,GD tz];refine WE Wj (exists_congr fun i=>WE Wj ?_);have e:kj s (l.getD i tz)=gx (s,l) i:=rfl;rw[e,<-BJ];unfold qD;split
 ·rename_i a;simp[a]
 ·rename_i a;simp[a]
theorem xp{s:iR}{l:List fy}(h:uE (s,l)):(ic (s,l)).any (pC l)=true↔s.2.1=false/\∃ t∈l,if(kj s t).length=0 then 1<fq t.2 else 1<k_ (gQ s l (kj s t)):=by
 rw[C5 h,GD tz];refine WE Wj (exists_congr fun i=>WE Wj ?_);have e:kj s (l.getD i tz)=gx (s,l) i:=rfl;rw[e,<-DC];unfold pC;rw[Qy,oQ];split
 ·have a:gS l [(i:Int)]=fq (l.getD i tz).2:=by
    unfold gS;rw[S0,VR,v_,QH];show _+(0:Rat)=_;rw[Rat.add_zero]
  rw[a];constructor<;>intro h<;>grind
 ·constructor<;>intro h<;>grind
theorem OE(a b:Int):cI a b = -1∨cI a b=0∨cI a b=1:=by
 unfold cI; repeat' split
 all_goals omega
theorem Ow:∀ a b:pc,cB a b = -1∨cB a b=0∨cB a b=1
 | [],[]=>by simp[cB,Lib.compareBytes]
 | [],_::_=>by simp[cB,Lib.compareBytes]
 | _::_,[]=>by simp[cB,Lib.compareBytes]
 | a::x,b::y=>by
  have h:=Ow x y;rw[nU];split
  ·exact .inl rfl
  ·split
   ·exact .inr (.inr rfl)
   ·exact h
theorem acg(a b:fS):cV a b = -1∨cV a b=0∨cV a b=1:=by
 have c:=OE a.1 b.1;have d:=OE a.2.1 b.2.1;have e:=Ow a.2.2 b.2.2;show(if cI a.1 b.1≠0 then cI a.1 b.1 else if cI a.2.1 b.2.1≠0 then cI a.2.1 b.2.1 else cB a.2.2 b.2.2) = -1∨(if cI a.1 b.1≠0 then cI a.1 b.1 else if cI a.2.1 b.2.1≠0 then cI a.2.1 b.2.1 else cB a.2.2 b.2.2)=0∨(if cI a.1 b.1≠0 then cI a.1 b.1 else if cI a.2.1 b.2.1≠0 then cI a.2.1 b.2.1 else cB a.2.2 b.2.2)=1;split
 ·exact c
 ·split
  ·exact d
  ·exact e
theorem GR:∀ a b:List fS,cT a b = -1∨cT a b=0∨cT a b=1
 | [],[]=>by simp[cT]
 | [],_::_=>by simp[cT]
 | _::_,[]=>by simp[cT]
 | a::x,b::y=>by
  have h:=GR x y;have c:=acg a b;rw[mI];split
  ·exact c
  ·exact h
theorem tI{s:iR}{l:List fy}{i:Nat}:FM s l i=none↔lA s (l.getD i tz)=0/\(i=0∨cT (l.getD (i-1) tz).1 (l.getD i tz).1<0):=by
 have e:=GR (l.getD (i-1) tz).1 (l.getD i tz).1;unfold FM;by_cases a:lA s (l.getD i tz)=0
 ·rw[QC (fun h=>h a)];by_cases b:i=0
  ·rw[QJ b];exact⟨fun _=>⟨a,.inl b⟩,fun _=>rfl⟩
  ·rw[QC b];by_cases c:cT (l.getD (i-1) tz).1 (l.getD i tz).1=0
   ·rw[QJ c];constructor
    ·intro h; cases h
    ·rintro⟨_,h|h⟩<;>omega
   ·rw[QC c];by_cases d:cT (l.getD (i-1) tz).1 (l.getD i tz).1=1
    ·rw[QJ d];constructor
     ·intro h; cases h
     ·rintro⟨_,h|h⟩<;>omega
    ·rw[QC d];exact⟨fun _=>⟨a,.inr (by omega)⟩,fun _=>rfl⟩
 ·rw[QJ a];constructor
  ·intro h; cases h
  ·intro h; exact absurd h.1 a
theorem DI{l:List fy}(h:∀ i,i<l.length->i≠0->cT (l.getD (i-1) tz).1 (l.getD i tz).1<0):∀ d i,i+d+1<l.length->cT (l.getD i tz).1 (l.getD (i+d+1) tz).1<0
 | 0,i,hi=>h (i+1) hi (by omega)
 | d+1,i,hi=>yQ _ _ _ (DI h d i (by omega)) (h (i+(d+1)+1) hi (by omega))
theorem Ha{l:List fy}:si l↔∀ i,i<l.length->i≠0->cT (l.getD (i-1) tz).1 (l.getD i tz).1<0:=by
 have a:∀ i (h:i<l.length),l.getD i tz=l[i]:=fun i h=>by rw[Qz,Qr h]; rfl
 unfold si;rw[TG];constructor
 ·intro h i hi d;rw[a i hi,a (i-1) (by omega)];exact h _ _ _ _ (by omega)
 ·intro h i j hi b c;have:=DI h (j-i-1) i (by omega);have e:i+(j-i-1)+1=j:=by omega
  rw[e,a i hi,a j b]at this;exact this
theorem KO{a:Type}{l:List a}(d:a){P:a->Prop}:(∀ t∈l,P t)↔∀ i,i<l.length->P (l.getD i d):=by
 constructor
 ·intro h i hi; exact h _ (jb d hi)
 ·intro h t c;obtain⟨j,b,e⟩:=Rz.1 c;have:=h j b;rw[Qz,Qr b,SO,e]at this;exact this
theorem pW{s:iR}{l:List fy}:uI s l l.length=none↔(∀ t∈l,lA s t=0)/\si l:=by
 rw[KO tz,Ha];unfold uI;rw[Wp];constructor
 ·intro h;refine⟨fun i hi=>(tI.1 (h i (Rn.2 hi))).1,fun i hi b=>?_⟩;rcases(tI.1 (h i (Rn.2 hi))).2 with a|a
  ·exact absurd a b
  ·exact a
 ·rintro⟨a,c⟩ i hi;have hi:=Rn.1 hi;refine tI.2 ⟨a i hi,?_⟩;by_cases b:i=0
  ·exact .inl b
  ·exact .inr (c i hi b)
theorem tg{s:iR}{t:fy}(h:lA s t=0):hP s=true/\t.1.length=s.2.2.length/\0<=fq t.2/\fq t.2<=1/\(s.2.1=true->fq t.2=1):=by
 have c:=BU h;unfold lA at h;split at h
 ·cases h
 ·rename_i d;split at h
  ·cases h
  ·split at h
   ·cases h
   ·split at h
    ·cases h
    ·rename_i b;have b:vx s.2.1 (fq t.2)=true:=by simpa using b
     unfold vx pHd at b;simp only[QK,Sv,RG,Qw,SZ,oQ]at b;obtain⟨⟨⟨f,g⟩,a⟩,i⟩:=b;refine⟨by simpa using d,c,by grind,by grind,fun e=>?_⟩;rcases a with a|a
     ·rw[e]at a; cases a
     ·have:=j0.1 (Rp.1 a);grind
theorem N3{s:iR}(h:hP s=true)(a:s.2.1=true)(t:fy):(kj s t).length=0:=by
 unfold kj gj;split
 ·rfl
 ·unfold qB;rw[Rt,SH,Vu];intro i hi;have hi:=Rn.1 hi;unfold hP at h;rw[QK,Rs]at h;have:=h.2 i (Rn.2 hi);unfold nA at this;rw[a]at this;simp at this;simp[this.1.2]
def abE(s:iR)(l:List fy):Prop:=∀ t∈l,(kj s t).length≠0->(gQ s l (kj s t)).length<=16/\k_ (gQ s l (kj s t))<=1
def oE(s:iR)(l:List fy):Prop:=hP s=true/\l.length<=64/\(∀ t∈l,lA s t=0)/\si l/\abE s l
theorem mA{s:iR}{l:List fy}:gC (s,l)=0↔oE s l:=by
 constructor
 ·intro h;obtain⟨i,j,c,k,d,f⟩:=uS h;obtain⟨n,o⟩:=pW.1 k;refine⟨i,j,n,o,fun t b hk=>?_⟩;have m:s.2.1=false:=by
   cases e:s.2.1 with
   | false=>rfl
   | true=>exact absurd (N3 i e t) hk
  constructor
  ·refine Vp.1 fun a=>?_;have:=(xw c).2 ⟨m,t,b,hk,a⟩;rw[this]at d; cases d
  ·refine UK.1 fun a=>?_;have:=(xp c).2 ⟨m,t,b,by rw[QC hk]; exact a⟩;rw[this]at f; cases f
 ·rintro⟨i,j,c,k,d⟩;have f:uI s l l.length=none:=pW.2 ⟨c,k⟩;have g:=uw f;unfold gC;rw[QC (by rw[i]; exact RZ),QC (Vp.2 j)];dsimp only;rw[f];dsimp only;rw[QC,QC]
  ·rintro e;obtain⟨_,t,b,a⟩:=(xp g).1 e;split at a
   ·have:=(tg (c t b)).2.2.2.1;exact UK.2 this a
   ·rename_i hk;exact UK.2 (d t b hk).2 a
  ·rintro e;obtain⟨_,t,b,hk,a⟩:=(xw g).1 e;have:=(d t b hk).1;omega
theorem D9{s:iR}{l l':List fy}(h:l.Sublist l')(k:List fS):(gQ s l k).Sublist (gQ s l' k):=h.filter _
theorem oE.sub{s:iR}{l l':List fy}(h:oE s l')(a:l.Sublist l'):oE s l:=by
 obtain⟨e,f,c,g,i⟩:=h;have d:∀ t∈l,t∈l':=fun t b=>a.subset b;refine⟨e,QL a.length_le f,fun t b=>c t (d t b),g.sublist a,fun t b hk=>?_⟩;obtain⟨j,k⟩:=i t (d t b) hk;refine⟨QL (D9 a _).length_le j,Rat.le_trans (Gu (D9 a _) fun u m=>?_) k⟩;exact(tg (c u ((Tm.1 m).1))).2.2.1
def jQ(l:List fy)(t:fy):List fy:=fB l (km l t.1) [t]
theorem Ni(l:List fy)(v:List fS):km l v<=l.length:=WK
theorem nS(l:List fy)(t:fy):(jQ l t).Perm (t::l):=by
 unfold jQ fB;rw[QP];have h:=(V' (a:=t) (l₁:=l.take (km l t.1)) (l₂:=l.drop (km l t.1)));rw[Q6]at h;exact h
theorem Iv(l:List fy)(t:fy):l.Sublist (jQ l t):=by
 unfold jQ fB;have h:(l.take (km l t.1)++l.drop (km l t.1)).Sublist (l.take (km l t.1)++[t]++l.drop (km l t.1)):=by
  rw[QP];exact(Va _).append (List.sublist_append_right _ _)
 rwa [Q6]at h
theorem ji{l:List fy}{t u:fy}:u∈jQ l t↔u=t∨u∈l:=by
 rw[(nS l t).mem_iff,Qv]
theorem qv(l:List fy)(t:fy):(jQ l t).length=l.length+1:=by
 rw[(nS l t).length_eq]; rfl
theorem Ki{l:List fy}{t:fy}(h:si l)(y:∀ u∈l,u.1≠t.1):si (jQ l t):=by
 have C:=Ni l t.1;have g:∀ u∈l.take (km l t.1),cT u.1 t.1<0:=by
  intro u f;obtain⟨j,i,e⟩:=Rz.1 f;rw[QM]at i;have k:j<km l t.1:=by omega
  have:=WL (p:=fun e:fy=>decide (0<=cT e.1 t.1)) (xs:=l) k;rw[List.getElem_take]at e;rw[e]at this;exact W8.1 (by simpa using this)
 have m:∀ u∈l.drop (km l t.1),cT t.1 u.1<0:=by
  intro u f;obtain⟨j,i,e⟩:=Rz.1 f;rw[Q5]at i;rw[List.getElem_drop]at e;have d:km l t.1<l.length:=by omega
  have q:=WZ (p:=fun e:fy=>decide (0<=cT e.1 t.1)) (xs:=l) (w:=d);have q:0<=cT (l[km l t.1]).1 t.1:=QF q;have z:u∈l:=Rh f;have n:∀ v∈l,cT v.1 t.1≠0:=fun v A e=>y v A ((oN _ _).1 e);have r:cT t.1 (l[km l t.1]).1<0:=(GY _ _).2 (by have:=n _ (Tf d); omega);rcases Sc j with s|s
  ·subst s;rw[<-e];exact r
  ·have B:cT (l[km l t.1]).1 (l[km l t.1+j]).1<0:=TG.1 h _ _ _ _ (by omega);rw[<-e];exact yQ _ _ _ r B
 have c:si (l.take (km l t.1)++l.drop (km l t.1)):=by rw[Q6]; exact h
 unfold si jQ fB;unfold si at c;rw[W0]at c;rw[QP,W0];refine⟨c.1,?_,fun a x b o=>?_⟩
 ·exact List.pairwise_cons.2 ⟨m,c.2.1⟩
 ·rcases Qv.1 o with rfl|o
  ·exact g a x
  ·exact c.2.2 a x b o
theorem Fv{l:List fy}(h:si l):(l.map (·.1)).Nodup:=by
 unfold List.Nodup;rw[V3];exact h.imp fun{a b} c e=>by rw[e,qe]at c; omega
theorem Kk{l:List fy}{t:fy}(h:si (jQ l t)):∀ u∈l,u.1≠t.1:=by
 have a:=Fv h;rw[((nS l t).map _).nodup_iff,S0,Sm]at a;intro u b e;exact a.1 (Rj.2 ⟨u,b,e⟩)
theorem xO{l:List fy}{v:List fS}:(mY (l.findIdx? (kG v))).2=false↔∀ u∈l,u.1≠v:=by
 have h:(mY (l.findIdx? (kG v))).2=false↔l.findIdx? (kG v)=none:=by
  cases l.findIdx? (kG v)with
  | none=>exact⟨fun _=>rfl,fun _=>rfl⟩
  | some i=>exact⟨(fun h=>by cases h),(fun h=>by cases h)⟩
 rw[h,Ww];refine forall_congr' fun u=>forall_congr' fun a=>?_;unfold kG;rw[Qw,oN]
theorem Cq(s:iR)(l:List fy)(t:fy)(k:List fS):(gQ s (jQ l t) k).Perm (if kj s t=k then t::gQ s l k else gQ s l k):=by
 have h:(gQ s (jQ l t) k).Perm (gQ s (t::l) k):=(nS l t).filter _;refine h.trans ?_;unfold gQ;rw[TX];simp only[Qy];exact List.Perm.refl _
theorem Mz(s:iR)(l:List fy)(t:fy):(kW (s,l) t.1).length=if(kj s t).length=0 then 0 else(gQ s l (kj s t)).length:=by
 rw[xU];show(if(kj s t).length=0 then []else idx (gx (s,l)) l.length (kj s t)).length=_;split
 ·rfl
 ·exact BJ s l _
theorem B6(s:iR)(l:List fy)(t:fy):gS l (kW (s,l) t.1)=if(kj s t).length=0 then 0 else k_ (gQ s l (kj s t)):=by
 rw[xU];show gS l (if(kj s t).length=0 then []else idx (gx (s,l)) l.length (kj s t))=_;split
 ·rfl
 ·exact DC s l _
def E0(s:iR)(l:List fy)(t:fy):Int:=if 64<=l.length∨16<=(kW (s,l) t.1).length then 4 else if 0<jX (fq t.2) (1-gS l (kW (s,l) t.1))then 19 else 0
theorem xD{s:iR}{l:List fy}{t:fy}(h:oE s l)(n:lA s t=0)(y:∀ u∈l,u.1≠t.1):gC (s,jQ l t)=E0 s l t:=by
 obtain⟨o,C,p,z,q⟩:=h;have r:uI s (jQ l t) (jQ l t).length=none:=pW.2 ⟨fun u b=>by
  rcases ji.1 b with rfl|b
  ·exact n
  ·exact p u b,Ki z y⟩
 have f:=uw r;have A:=(tg n).2.2.2.1;have v:∀ k,(gQ s (jQ l t) k).length=(if kj s t=k then t::gQ s l k else gQ s l k).length:=fun k=>(Cq s l t k).length_eq;have w:∀ k,k_ (gQ s (jQ l t) k)=k_ (if kj s t=k then t::gQ s l k else gQ s l k):=fun k=>kA (Cq s l t k);have g:(kj s t).length≠0->s.2.1=false:=fun hk=>by
  cases e:s.2.1 with
  | false=>rfl
  | true=>exact absurd (N3 o e t) hk
 have i:t∈jQ l t:=ji.2 (.inl rfl);have c:(ic (s,jQ l t)).any qD=true↔16<=(kW (s,l) t.1).length:=by
  rw[xw f,Mz];constructor
  ·rintro⟨_,u,b,hk,a⟩;rw[v]at a;by_cases e:kj s t=kj s u
   ·rw[QJ e,Rr,<-e]at a;rw[QC (by rw[e]; exact hk)];omega
   ·rw[QC e]at a;rcases ji.1 b with rfl|b
    ·exact absurd rfl e
    ·have:=(q u b hk).1; omega
  ·intro a;split at a
   ·omega
   ·rename_i hk;refine⟨g hk,t,i,hk,?_⟩;rw[v,QJ rfl,Rr];omega
 have d:(ic (s,jQ l t)).any (pC (jQ l t))=true↔0<jX (fq t.2) (1-gS l (kW (s,l) t.1)):=by
  rw[xp f,B6,zN];constructor
  ·rintro⟨_,u,b,a⟩;by_cases hk:(kj s u).length=0
   ·rw[QJ hk]at a;rcases ji.1 b with rfl|b
    ·rw[QJ hk]; grind
    ·exact absurd a (UK.2 (tg (p u b)).2.2.2.1)
   ·rw[QC hk,w]at a;by_cases e:kj s t=kj s u
    ·rw[QJ e,fY,<-e]at a;rw[QC (by rw[e]; exact hk)];grind
    ·rw[QC e]at a;rcases ji.1 b with rfl|b
     ·exact absurd rfl e
     ·exact absurd a (UK.2 (q u b hk).2)
  ·intro a;split at a
   ·rename_i hk;exact absurd a (by grind)
   ·rename_i hk;refine⟨g hk,t,i,?_⟩;rw[QC hk,w,QJ rfl,fY];grind
 unfold gC E0;rw[QC (by rw[o]; exact RZ)];dsimp only;rw[r,qv];dsimp only;by_cases x:64<=l.length
 ·rw[QJ (by omega),QJ (.inl x)]
 ·rw[QC (by omega)];by_cases j:16<=(kW (s,l) t.1).length
  ·rw[QJ (c.2 j),QJ (.inr j)]
  ·have B:¬(64<=l.length∨16<=(kW (s,l) t.1).length):=fun e=>e.elim x j;rw[QC (fun e=>j (c.1 e)),QC B];by_cases m:0<jX (fq t.2) (1-gS l (kW (s,l) t.1))
   ·rw[QJ (d.2 m),QJ m]
   ·rw[QC (fun e=>m (d.1 e)),QC m]
theorem Gb{s:iR}{l:List fy}{t:fy}:fU (s,l) t=0↔oE s (jQ l t):=by
 constructor
 ·intro h;unfold fU at h;split at h
  ·rename_i a; exact absurd h a
  ·rename_i a;have a:=mA.1 (Rp.1 a);split at h
   ·rename_i b; exact absurd h b
   ·rename_i b;have b:lA s t=0:=Rp.1 b;split at h
    ·cases h
    ·rename_i c;have c:=xO.1 (by simpa using c);rw[<-mA,xD a b c];exact h
 ·intro h;have a:=h.sub (Iv l t);have b:=h.2.2.1 t (ji.2 (.inl rfl));have c:=Kk h.2.2.2.1;have d:=xD a b c;rw[mA.2 h]at d;unfold fU;rw[QC (fun e=>e (mA.2 a)),QC (fun e=>e b),QC (by rw[xO.2 c]; exact RZ)];exact d.symm
theorem D'{s:iR}{l:List fy}{t:fy}(h:fU (s,l) t=0)(a:∀ u∈l,lz u=u)(ht:lz t=t):ky (s,l) t=(s,jQ l t):=by
 unfold ky;rw[QC (fun e=>e h)];have e:l.map lz=l:=W1 a |>.trans (List.map_id l)
 show(s,fB (l.map lz) (km l t.1) [lz t])=_;rw[e,ht];rfl
@[go_sem] noncomputable def ERJ:Env:=(ERH).add 70 Dz
theorem GN:ERJ.Ok:=(P0).add M9
theorem LO{l:List fy}(h:∀ t∈l,0<=fq t.2){b:List Int}(a:∀ j∈b,0<=j/\j<(l.length:Int)):0<=gS l b:=by
 have e:gS l b=k_ (b.map fun i=>l.getD i.toNat tz):=by
  unfold gS k_;rw[Vs];rfl
 rw[e];refine Lk fun t c=>?_;obtain⟨j,d,rfl⟩:=Rj.1 c;have:=a j d;exact h _ (fW tz (by omega))
theorem JJ{q:Rat}:decide (0<=iM q)=decide (0<=q):=by
 have h:=oQ (q:=q);refine S4.2 ⟨fun b=>UK.1 fun a=>?_,fun b=>Vr.1 fun a=>?_⟩
 ·have:=h.2 a; omega
 ·exact UK.2 b (h.1 a)
@[go_sem] def Kj:Spec:=⟨[c7],fun d=>(.a_ (.int .i64) (gC d.1),[gZ d.1])⟩
theorem Nq:c6 Tryz.prog 34 Kj:=by
 refine eT GN Kj Tryz.func34 rfl (by decide) (N:=85) rfl (res:=[.tmp 2]) rfl (by decide) [] [] [] 100 (by kernel_rfl) ?_;rintro⟨r,_⟩ K y;refine⟨rfl,fun H z=>?_⟩;dsimp only[go_sem]at K y ⊢;obtain⟨y,-⟩:=y;obtain⟨s,l⟩:=r;change List fy at l;obtain⟨Y,L,v⟩:=id y;change l.length<=400 at L;have M:∀ t∈l,q_ b8 t:=K.1.2.2;clear K;refine⟨fun h=>?_,fun h=>⟨fun o=>?_,fun o=>?_⟩⟩
 ·have h:hP s=false:=by simpa using h
  exact⟨by unfold gC; rw[QJ (by rw[h]; rfl)],trivial⟩
 ·have h:hP s=true:=by simpa using h
  have o:64<l.length:=by have:=QF o; change (64:Int)<(l.length:Int)at this; omega
  exact⟨by unfold gC; rw[QC (by rw[h]; exact RZ),QJ o],trivial⟩
 have h:hP s=true:=by simpa using h
 have o:¬64<l.length:=by have:=QN o; change ¬(64:Int)<(l.length:Int)at this; omega
 have g:gC (s,l)=match uI s l l.length with
     | some e=>e
     | none=>if(ic (s,l)).any qD then 4 else if(ic (s,l)).any (pC l)then 19 else 0:=by
  unfold gC; rw[QC (by rw[h]; exact RZ),QC o]; try rfl
 refine z.loop (fun i:Nat=>⟨[(3,.a_ (.int .i64) (i:Int)),(1,.ref 0 0)],[(0,.box 28 (.cons (.a_ .str s.1) (.cons (.a_ .bool s.2.1) (.cons (.a_ (.slice fe) s.2.2) (.cons (.a_ (.slice b8) l) .nil)))))],1⟩) (fun i=>i<=l.length/\uI s l i=none) (fun i=>l.length-i) 0 1 ⟨QE _,rfl⟩ ?_ ?_
 ·dsimp only[go_sem];and_intros<;>first|trivial|rfl|omega
 ·rintro i ⟨hi,q⟩ R u;refine z.run 100 _ _ ?_;dsimp only[go_sem];simp only[QH];have O:∀ j,l.getD j (zd b8)=l.getD j tz:=fun _=>rfl;simp only[O];refine⟨fun d=>?_,fun d=>?_⟩<;>simp only[Qy,Qw]at d
  ·have d:i<l.length:=by omega
   have A:(0:Int)<=(i:Int)/\(i:Int)<(l.length:Int):=by omega
   have c:gG .i64 ((i:Int)+1):=by rw[c9]; omega
   have I:(l.getD i tz).1.length<=1000/\fs (l.getD i tz).2<=1000:=v _ (fW tz d);have a:FM s l i=if lA s (l.getD i tz)≠0 then some (lA s (l.getD i tz))else if i=0 then none else if cT (l.getD (i-1) tz).1 (l.getD i tz).1=0 then some 8 else if cT (l.getD (i-1) tz).1 (l.getD i tz).1=1 then some 1 else none:=rfl
   have Z:=GR (l.getD (i-1) tz).1 (l.getD i tz).1;refine⟨A,by omega,fun e=>?_,fun e=>⟨fun p=>?_,fun p=>?_⟩⟩<;>simp only[Qy,Qw]at e
   ·rw[QJ e]at a;rw[g,qV d q a];exact⟨rfl,trivial⟩
   ·have p:=QF p;have p:i=0:=by omega
    rw[QC e,QJ p]at a;refine⟨c,?_⟩;refine u _ (i+1) 1 ⟨d,by rw[nE _ _ _ q]; exact a⟩ (by omega) ?_;dsimp only[go_sem];and_intros<;>first|trivial|rfl|omega
   ·have p:=QN p;have p:i≠0:=by omega
    rw[QC e,QC p]at a;have C:((i:Int)-1).toNat=i-1:=by omega
    have P:gG .i64 ((i:Int)-1):=by rw[c9]; omega
    have Q:(0:Int)<=(i:Int)-1/\(i:Int)-1<(l.length:Int):=by omega
    have aa:(l.getD (i-1) tz).1.length<=1000/\fs (l.getD (i-1) tz).2<=1000:=v _ (fW tz (show i-1<l.length by omega));have S:(l.getD (i-1) tz).1.length<=1000000/\(l.getD i tz).1.length<=1000000:=by omega
    rw[C];refine⟨P,Q,A,S,fun m=>?_,fun m=>⟨fun D=>?_,fun D=>?_⟩⟩
    ·have m:=QF m;rw[QJ m]at a;rw[g,qV d q a];exact⟨rfl,trivial⟩
    ·have m:=QN m;have D:0<cT (l.getD (i-1) tz).1 (l.getD i tz).1:=QF D;rw[QC m,QJ (by omega)]at a;rw[g,qV d q a];exact⟨rfl,trivial⟩
    ·have m:=QN m;have D:¬0<cT (l.getD (i-1) tz).1 (l.getD i tz).1:=QN D;rw[QC m,QC (by omega)]at a;refine⟨c,?_⟩;refine u _ (i+1) 1 ⟨d,by rw[nE _ _ _ q]; exact a⟩ (by omega) ?_;dsimp only[go_sem];and_intros<;>first|trivial|rfl|omega
  ·have d:i=l.length:=by omega
   subst d;clear u;have w:=wz (s,l);have T:=(pW.1 q).1;have U:∀ t∈l,0<=fq t.2:=fun t I=>(tg (T t I)).2.2.1;refine⟨y,uw q,?_⟩;rw[q]at g;dsimp only at g;change (ic (s,l)).length<=l.length/\∀ b∈ic (s,l),b≠[]/\b.length<=l.length/\∀ j∈b,0<=j/\j<(l.length:Int)at w;generalize ic (s,l)=G at w g ⊢;obtain⟨ab,V⟩:=w;have E:∀ j,G.getD j (zd (.slice (.int .i64)))=G.getD j []:=fun _=>rfl;refine z.loop (fun k:Nat=>⟨[(7,.a_ (.int .i64) (k:Int)),(6,.a_ (.slice (.slice (.int .i64))) G),(1,.ref 0 0)],[(0,.box 28 (.cons (.a_ .str s.1) (.cons (.a_ .bool s.2.1) (.cons (.a_ (.slice fe) s.2.2) (.cons (.a_ (.slice b8) l) .nil)))))],1⟩) (fun k=>k<=G.length/\∀ j,j<k->qD (G.getD j [])=false) (fun k=>G.length-k) 0 1 ⟨QE _,fun j h=>absurd h (Q' _)⟩ ?_ ?_
   ·dsimp only[go_sem];and_intros<;>first|trivial|rfl|omega
   ·rintro k ⟨hk,B⟩ R u;refine z.run 100 _ _ ?_;dsimp only[go_sem];simp only[QH,E];refine⟨fun d=>?_,fun d=>?_⟩<;>simp only[Qy,Qw]at d
    ·have d:k<G.length:=by omega
     have A:(0:Int)<=(k:Int)/\(k:Int)<(G.length:Int):=by omega
     have c:gG .i64 ((k:Int)+1):=by rw[c9]; omega
     have f:qD (G.getD k [])=decide (16<(G.getD k []).length):=rfl;refine⟨A,fun e=>?_,fun e=>⟨c,u _ (k+1) 1 ⟨d,fun j hj=>?_⟩ (by omega) ?_⟩⟩<;>simp only[Qy,Qw]at e
     ·have e:(16:Int)<((G.getD k []).length:Int):=e;have W:G.any qD=true:=xT [] d (by rw[f]; exact QY (by omega));rw[g,QJ W];exact⟨rfl,trivial⟩
     ·rcases QA j k with F|F
      ·exact B j F
      ·have:j=k:=by omega
       have e:¬(16:Int)<((G.getD k []).length:Int):=e;rw[this,f]; exact Q4 (by omega)
     ·dsimp only[go_sem];and_intros<;>first|trivial|rfl|omega
    ·have d:k=G.length:=by omega
     subst d;rw[QC (by rw[wm [] B]; exact RZ)]at g;clear u B;refine z.loop (fun k:Nat=>⟨[(8,.a_ (.int .i64) (k:Int)),(6,.a_ (.slice (.slice (.int .i64))) G),(1,.ref 0 0)],[(0,.box 28 (.cons (.a_ .str s.1) (.cons (.a_ .bool s.2.1) (.cons (.a_ (.slice fe) s.2.2) (.cons (.a_ (.slice b8) l) .nil)))))],1⟩) (fun k=>k<=G.length/\∀ j,j<k->pC l (G.getD j [])=false) (fun k=>G.length-k) 0 1 ⟨QE _,fun j h=>absurd h (Q' _)⟩ ?_ ?_
     ·dsimp only[go_sem];and_intros<;>first|trivial|rfl|omega
     ·rintro k ⟨hk,B⟩ R u;refine z.run 100 _ _ ?_;dsimp only[go_sem];simp only[QH,E,jo,ig];refine⟨fun d=>?_,fun d=>?_⟩<;>simp only[Qy,Qw]at d
      ·have d:k<G.length:=by omega
       have A:(0:Int)<=(k:Int)/\(k:Int)<(G.length:Int):=by omega
       have c:gG .i64 ((k:Int)+1):=by rw[c9]; omega
       obtain⟨_,ac,x⟩:=V _ (fW [] d);have f:pC l (G.getD k [])=!(decide (0<=iM (gS l (G.getD k [])))&&decide (0<=iM (1-gS l (G.getD k [])))):=by
        have h0:=LO U x;unfold pC;rw[JJ,JJ,QY h0,T_];by_cases J:0<=1-gS l (G.getD k [])
        ·rw[QY J,Q4 (fun o=>UK.2 J (oQ.1 o))]; rfl
        ·rw[Q4 J,QY (oQ.2 (W9.1 J))]; rfl
       have q1:=ou (n:=64) M (fun t I=>(v t I).2) x (by omega);have X:(G.getD k []).length<=400:=by omega
       refine⟨A,y,X,x,by omega,fun e=>?_,fun e=>⟨c,u _ (k+1) 1 ⟨d,fun j hj=>?_⟩ (by omega) ?_⟩⟩
       ·have W:G.any (pC l)=true:=xT [] d (by rw[f]; exact e);rw[g,QJ W];exact⟨rfl,trivial⟩
       ·rcases QA j k with F|F
        ·exact B j F
        ·have:j=k:=by omega
         rw[this,f]; exact e
       ·dsimp only[go_sem];and_intros<;>first|trivial|rfl|omega
      ·have d:k=G.length:=by omega
       subst d;rw[g,QC (by rw[wm [] B]; exact RZ)];exact⟨rfl,trivial⟩
@[go_sem] noncomputable def ERK:Env:=(ERJ).add 34 Kj
theorem OZ:ERK.Ok:=(GN).add Nq
@[go_sem] noncomputable def ERL:Env:=ERK
theorem P9:ERL.Ok:=OZ
@[go_sem] noncomputable def ERM:Env:=ERL
theorem Il:ERM.Ok:=P9
@[go_sem] def Iq:Spec:=⟨[c7],fun d=>(.a_ c7 ((d.1.1,d.1.2.map lz):Rel),[gZ d.1])⟩
theorem LN:c6 Tryz.prog 38 Iq:=by
 refine eT Il Iq Tryz.func38 rfl (by decide) (N:=35) rfl (res:=[.cell 2 28]) rfl (by decide) [(1,[(7,.ag)]),(5,[(31,.dt),(1000000,.mx [])])] [(6,[3])] [] 100 (by kernel_rfl) ?_;rintro⟨r,_⟩ g a;refine⟨rfl,fun H b=>?_⟩;dsimp only[go_sem]at g a ⊢;obtain⟨a,-⟩:=a;obtain⟨s,l⟩:=r;change List fy at l;obtain⟨k,c,e⟩:=id a;change l.length<=400 at c;clear g;refine b.loop (fun i:Nat=>⟨[(4,.a_ (.int .i64) (i:Int)),(3,.ref 2 0),(2,.ref 1 0),(1,.ref 0 0)],[(0,.box 28 (.cons (.a_ .str s.1) (.cons (.a_ .bool s.2.1) (.cons (.a_ (.slice fe) s.2.2) (.cons (.a_ (.slice b8) l) .nil))))),(1,.box 28 (zA c7 .nil)),(2,.box 28 (.cons (.a_ .str s.1) (.cons (.a_ .bool s.2.1) (.cons (.a_ (.slice fe) s.2.2) (.cons (.own 3) .nil))))),(3,.row 37 b8 ((l.take i).map lz))],4⟩) (fun i=>i<=l.length) (fun i=>l.length-i) 0 3 (QE _) ?_ ?_
 ·dsimp only[go_sem];and_intros<;>first|trivial|rfl|omega
 ·rintro i hi R m;refine b.run 100 _ _ ?_;dsimp only[go_sem];simp only[QH];have f:∀ j,l.getD j (zd b8)=l.getD j tz:=fun _=>rfl;simp only[f];refine⟨fun d=>?_,fun d=>?_⟩<;>simp only[Qy,Qw]at d
  ·have d:i<l.length:=by omega
   have h:(0:Int)<=(i:Int)/\(i:Int)<(l.length:Int):=by omega
   have p:(l.getD i tz).1.length<=1000/\fs (l.getD i tz).2<=1000:=e _ (fW tz d);have n:(l.take (i+1)).map lz=(l.take i).map lz++[lz (l.getD i tz)]:=by rw[kz tz d,SG]; rfl
   have o:((l.take i).map lz).length=i:=by rw[Rt,QM]; omega
   refine⟨h,h,by omega,?_,trivial,by rw[c9]; omega,b.Gi [(0,0),(1,1),(2,2),(3,4)] 4 rfl rfl (QE _) rfl ?_⟩
   ·rw[o];show(i+1)*80<=_;omega
   ·dsimp only[go_sem];refine m _ (i+1) 4 d (by omega) ?_;dsimp only[go_sem];rw[n];and_intros<;>first|trivial|rfl|omega
  ·have d:i=l.length:=by omega
   subst d;rw[TR];and_intros<;>first|trivial|rfl|omega
@[go_sem] noncomputable def ERN:Env:=(ERM).add 38 Iq
theorem JH:ERN.Ok:=(Il).add LN
@[go_sem] def Jd:Spec:=⟨[c7,b8],fun d=>(.js (.cons (.a_ c7 (ky d.1 d.2.1)) (.cons (.a_ (.int .i64) (fU d.1 d.2.1)) .nil)),[gZ d.1,List.length d.2.1.1<=1000/\fs d.2.1.2<=1000])⟩
theorem LZ:c6 Tryz.prog 8 Jd:=by
 refine eT JH Jd Tryz.func8 rfl (by decide) (N:=82) rfl (res:=[.cell 4 28,.tmp 5]) rfl (by decide) [(13,[(57,.ag)]),(14,[(66,.dt),(72,.fz 3),(1000000,.mx [(7,6),(8,6),(10,6),(11,6),(12,6),(13,6)])])] [] [] 100 (by kernel_rfl) ?_;rintro⟨r,t,_⟩ D p;refine⟨rfl,fun H E=>?_⟩;dsimp only[go_sem]at D p ⊢;obtain⟨p,⟨n,w⟩,-⟩:=p;obtain⟨s,l⟩:=r;change List fy at l;obtain⟨x,y,q⟩:=id p;change l.length<=400 at y;change fy at t;change t.1.length<=1000 at n;clear D;refine⟨p,fun b=>?_,fun b=>⟨by omega,fun f=>?_,fun f=>⟨p,n,fun k=>?_,fun k=>?_⟩⟩⟩
 ·have b:gC (s,l)≠0:=QF b;have a:fU (s,l) t=gC (s,l):=by unfold fU; rw[QJ b]
  exact⟨rfl,rfl,jq a b,rfl,a.symm,trivial⟩
 all_goals have b:¬gC (s,l)≠0:=QN b
 ·have f:lA s t≠0:=QF f;have a:fU (s,l) t=lA s t:=by unfold fU; rw[QC b,QJ f]
  exact⟨rfl,rfl,jq a f,rfl,a.symm,trivial⟩
 all_goals have f:¬lA s t≠0:=QN f
 ·have k:(mY (l.findIdx? (kG t.1))).2=true:=k;have a:fU (s,l) t=8:=by unfold fU; rw[QC b,QC f,QJ k]
  exact⟨rfl,rfl,jq a (by decide),rfl,a.symm,trivial⟩
 have k:¬(mY (l.findIdx? (kG t.1))).2=true:=fun e=>Bool.noConfusion (k.symm.trans e);refine E.loop (fun i:Nat=>⟨[(10,.a_ (.int .i64) (i:Int)),(2,.ref 0 0),(3,.ref 1 0),(4,.ref 2 0)],[(0,.box 28 (.cons (.a_ .str s.1) (.cons (.a_ .bool s.2.1) (.cons (.a_ (.slice fe) s.2.2) (.cons (.a_ (.slice b8) l) .nil))))),(1,.box 37 (.cons (.a_ (.slice eK) t.1) (.cons (.a_ .bool t.2.1) (.cons (.a_ (.slice (.int .u32)) t.2.2.1) (.cons (.a_ (.slice (.int .u32)) t.2.2.2) .nil))))),(2,.box 28 (zA c7 .nil))],3⟩) (fun i=>i<=l.length/\∀ j,j<i->cT (l.getD j tz).1 t.1<0) (fun i=>l.length-i) 0 3 ⟨QE _,fun j h=>absurd h (Q' _)⟩ ?_ ?_
 ·dsimp only[go_sem];and_intros<;>first|trivial|rfl|omega
 ·rintro i ⟨hi,F⟩ R J;refine E.run 100 _ _ ?_;dsimp only[go_sem];simp only[QH,Su,R_];have z:∀ j,l.getD j (zd b8)=l.getD j tz:=fun _=>rfl;simp only[z];refine⟨fun d=>?_,fun d=>?_,fun d=>?_,fun d=>?_⟩
  ·have d:(i:Int)<(l.length:Int):=QF d;show(0:Int)<=(i:Int)/\(i:Int)<(l.length:Int);omega
  ·have d:(i:Int)<(l.length:Int):=QF d;have O:(l.getD i tz).1.length<=1000/\fs (l.getD i tz).2<=1000:=q _ (fW tz (show i<l.length by omega));show(l.getD i tz).1.length<=1000000/\t.1.length<=1000000;omega
  ·simp only[QK,Qy]at d;have P:(i:Int)<(l.length:Int):=d.1;have A:gG .i64 ((i:Int)+1):=by rw[c9]; omega
   refine⟨A,J _ (i+1) 3 ⟨by omega,fun j Q=>?_⟩ (by omega) ?_⟩
   ·rcases QA j i with G|G
    ·exact F j G
    ·have:j=i:=by omega
     rw[this]; exact d.2
   ·dsimp only[go_sem];and_intros<;>first|trivial|rfl|omega
  ·have m:km l t.1=i:=Cr hi F fun K=>by
     rw[SZ]at d;rcases d with d|d
     ·have d:¬(i:Int)<(l.length:Int):=QN d;omega
     ·exact Vr.1 (QN d)
   have v:oE s l:=mA.1 (Rp.1 b);have L:∀ u∈l,u.1≠t.1:=xO.1 (by simpa using k);have g:=xD v (Rp.1 f) L;have B:jQ l t=fB l i [t]:=by unfold jQ; rw[m]
   have M:l.length<=64:=v.2.1;have o:gZ (s,jQ l t):=⟨x,by rw[qv]; omega,fun u C=>by
    rcases ji.1 C with rfl|C
    ·exact⟨n,w⟩
    ·exact q u C⟩
   have a:fU (s,l) t=E0 s l t:=by unfold fU E0; rw[QC b,QC f,QC k]
   rw[B]at g o;have I:(0:Int)<=(i:Int)/\(i:Int)<=(l.length:Int):=by omega
   have S:(l.take i).length<=400:=by rw[QM]; omega
   have T:(l.drop i).length<=400:=by rw[Q5]; omega
   have U:(l.take i++[t]).length<=401:=by rw[QO]; show _+1<=_; omega
   refine⟨I,by omega,?_,I,by omega,o,fun c=>?_,fun c=>?_⟩
   ·show(_+1)*80<=_;omega
   ·have c:gC (s,fB l i [t])≠0:=QF c;rw[g]at c;have v:gC (s,l.take i++[t]++l.drop i)=E0 s l t:=g;rw[v];exact⟨jq a c,a.symm,trivial⟩
   ·have c:¬gC (s,fB l i [t])≠0:=QN c;rw[g]at c;have c:E0 s l t=0:=Rp.1 c;have a:fU (s,l) t=0:=a.trans c;refine⟨o,?_,a.symm,trivial⟩;unfold ky;rw[QC (by rw[a]; simp),m];show(s,(fB l i [t]).map lz)=(s,fB (l.map lz) i [lz t]);unfold fB;rw[SG,SG,List.map_take,List.map_drop];rfl
@[go_sem] noncomputable def ERO:Env:=(ERN).add 8 Jd
theorem GM:ERO.Ok:=(JH).add LZ
theorem yn{a:Type}{l:List a}{i:Nat}(d:a)(h:i<l.length):l.getD i d=l[i]:=by
 rw[Qz,Qr h]; rfl
theorem abd{L:List fy}{i:Nat}(h:si L)(hi:i<L.length):L.findIdx? (kG (L.getD i tz).1)=some i:=by
 refine Kf tz hi (QY (qe _)) fun j a=>Q4 fun e=>?_;have:=TG.1 h j i (by omega) hi a;rw[<-yn tz (show j<L.length by omega),<-yn tz hi]at this;omega
theorem sO{L:List fy}{v:List fS}{i:Nat}(h:L.findIdx? (kG v)=some i):i<L.length/\(L.getD i tz).1=v:=by
 rw[VP]at h;obtain⟨hi,a,_⟩:=h;refine⟨hi,?_⟩;rw[yn tz hi];exact(oN _ _).1 (QF a)
theorem yO{a:Type}{L:List a}{i:Nat}(d:a)(hi:i<L.length):L.Perm (L.getD i d::kv L i):=by
 unfold kv;have e:L=L.take i++L.getD i d::L.drop (i+1):=by
  rw[yn d hi,<-R0 hi,Q6]
 refine(List.Perm.of_eq e).trans ?_;exact V'
theorem set_perm{a:Type}{L:List a}{i:Nat}{x:a}(hi:i<L.length):(L.set i x).Perm (x::kv L i):=by
 unfold kv;rw[VM,QJ hi];exact V'
theorem Ce{a:Type}{L:List a}{i:Nat}(hi:i<L.length):(kv L i).Sublist L:=by
 unfold kv;have e:L=L.take i++L[i]::L.drop (i+1):=by rw[<-R0 hi,Q6]
 have:(L.take i++L.drop (i+1)).Sublist (L.take i++L[i]::L.drop (i+1)):=(Va _).append (List.sublist_cons_self _ _);rwa [<-e]at this
theorem tk(s:iR)(x:fy)(l:List fy)(k:List fS):gQ s (x::l) k=if kj s x=k then x::gQ s l k else gQ s l k:=by
 unfold gQ;rw[TX];simp only[Qy]
theorem sS(s:iR){l l':List fy}(h:l.Perm l')(k:List fS):(gQ s l k).Perm (gQ s l' k):=h.filter _
theorem Qc{c:Bool}{q:Rat}(h:vx c q=true):0<=q/\q<=1:=by
 unfold vx pHd at h;simp only[QK,Sv,RG,Qw,SZ,oQ]at h;obtain⟨⟨⟨a,b⟩,d⟩,e⟩:=h;exact⟨by grind,by grind⟩
theorem K_{s:iR}{v:List fS}{p0 p:FN}(h:lA s (v,p0)=0):lA s (v,p)=0↔vx s.2.1 (fq p)=true:=by
 unfold lA at h ⊢;split at h
 ·cases h
 ·rename_i a;split at h
  ·cases h
  ·rename_i b;split at h
   ·cases h
   ·rename_i c;rw[QC a,QC b,QC c];cases vx s.2.1 (fq p)<;>simp
theorem K3{s:iR}{L:List fy}{i:Nat}{p:FN}(h:oE s L)(hi:i<L.length):oE s (L.set i ((L.getD i tz).1,p))↔vx s.2.1 (fq p)=true/\((kj s (L.getD i tz)).length=0∨fq p+k_ (gQ s (kv L i) (kj s (L.getD i tz)))<=1):=by
 obtain⟨E,F,z,G,A⟩:=h;have n:=yO tz hi;have c:=set_perm (x:=((L.getD i tz).1,p)) hi;have g:=fW tz hi;have o:=z _ g;have q:(L.set i ((L.getD i tz).1,p)).map (·.1)=L.map (·.1):=by
  rw[List.map_set];apply Ud;intro j;rw[List.getElem?_set];split
  ·rename_i e;subst e;rw[Rt,QJ hi,Ro,Qr hi,yn tz hi];rfl
  ·rfl
 obtain⟨u,H⟩:∃ u,L.getD i tz=u:=⟨_,rfl⟩;rw[H]at n c g o q ⊢;have l:kj s ((u.1,p):fy)=kj s u:=rfl;have y:∀ k,(gQ s (L.set i (u.1,p)) k).Perm (if kj s u=k then(u.1,p)::gQ s (kv L i) k else gQ s (kv L i) k):=fun k=>by
  have:=sS s c k;rwa [tk,l]at this
 have r:∀ k,(gQ s L k).Perm (if kj s u=k then u::gQ s (kv L i) k else gQ s (kv L i) k):=fun k=>by
  have:=sS s n k;rwa [tk]at this
 have f:lA s (u.1,p)=0↔vx s.2.1 (fq p)=true:=K_ (p0:=u.2) o;constructor
 ·rintro⟨_,_,I,M,J⟩;have v:((u.1,p):fy)∈L.set i (u.1,p):=c.mem_iff.2 (Qx ..);refine⟨f.1 (I _ v),?_⟩;rcases Sc (kj s u).length with e|e
  ·exact .inl e
  ·have B:=(J _ v (by rw[l]; omega)).2;rw[l,kA (y _),QJ rfl,fY]at B;exact .inr B
 ·rintro⟨K,m⟩;refine⟨E,by rw[Sb]; exact F,fun t d=>?_,?_,fun t d hk=>?_⟩
  ·rcases Qv.1 (c.mem_iff.1 d)with rfl|d
   ·exact f.2 K
   ·exact z t ((Ce hi).subset d)
  ·have C:(L.map (·.1)).Pairwise fun a b=>cT a b<0:=V3.2 G;rw[<-q]at C;exact V3.1 C
  ·have D:∀ k,(gQ s L k).length=(if kj s u=k then u::gQ s (kv L i) k else gQ s (kv L i) k).length:=fun k=>(r k).length_eq;rw[(y _).length_eq,kA (y _)];by_cases e:kj s u=kj s t
   ·rw[QJ e,Rr,fY];have w:=(A u g (by rw[e]; exact hk)).1;rw[D,QJ rfl,Rr]at w;rw[<-e];refine⟨w,?_⟩;rcases m with m|m
    ·rw[e]at m; exact absurd m hk
    ·exact m
   ·rw[QC e];have d:t∈L:=by
     rcases Qv.1 (c.mem_iff.1 d)with rfl|d
     ·exact absurd rfl e
     ·exact(Ce hi).subset d
    have w:=A t d hk;rw[D,QC e,kA (r _),QC e]at w;exact w
def NN(r:Rel)(v:List fS)(pr:Int):List Int:=(kW r v).filter fun x=>!decide (x=pr)
theorem O6(L:List fy)(b:List Int):gS L b=k_ (b.map fun i=>L.getD i.toNat tz):=by
 unfold gS k_;rw[Vs];rfl
theorem LV{s:iR}{L:List fy}{i:Nat}(hi:i<L.length):gS L (NN (s,L) (L.getD i tz).1 (i:Int))=if(kj s (L.getD i tz)).length=0 then 0 else k_ (gQ s (kv L i) (kj s (L.getD i tz))):=by
 have c:=B6 s L (L.getD i tz);unfold NN;rw[xU]at c ⊢;have hk:gj s.2.2 (L.getD i tz).1=kj s (L.getD i tz):=rfl;rw[hk]at c ⊢;by_cases e:(kj s (L.getD i tz)).length=0
 ·rw[QJ e,QJ e]; rfl
 ·rw[QC e,QC e]at c;rw[QC e,QC e];have d:(idx (gx (s,L)) L.length (kj s (L.getD i tz))).Nodup:=by
   unfold idx;refine List.Pairwise.map (fun i:Nat=>(i:Int)) (fun a b h e=>h ?_) (List.nodup_range.filter _);have e:(a:Int)=(b:Int):=e;omega
  have f:(i:Int)∈idx (gx (s,L)) L.length (kj s (L.getD i tz)):=by
   unfold idx;refine Rj.2 ⟨i,Tm.2 ⟨Rn.2 hi,QY rfl⟩,rfl⟩
  generalize idx (gx (s,L)) L.length (kj s (L.getD i tz))=B at c d f ⊢;have j:B.Perm ((i:Int)::B.filter fun x=>!decide (x=(i:Int))):=by
   have g:=List.perm_cons_erase f;rw[d.erase_eq_filter]at g;have k:(B.filter fun x=>x != (i:Int))=B.filter fun x=>!decide (x=(i:Int)):=by
    refine List.filter_congr fun x _=>?_;by_cases e:x=(i:Int)<;>simp[e]
   rwa [k]at g
  rw[O6]at c ⊢;rw[kA (j.map _),S0,fY,kA (sS s (yO tz hi) _),tk,QJ rfl,fY]at c;have l:((i:Nat):Int).toNat=i:=QH i;rw[l]at c;grind
def K7(r:Rel)(v:List fS):Int:=if gC r≠0 then gC r else if(mY (r.2.findIdx? (kG v))).2=false then 7 else 0
def dlR(r:Rel)(v:List fS):Rel:=if K7 r v≠0 then rz else(r.1,(kv r.2 (mY (r.2.findIdx? (kG v))).1.toNat).map lz)
def OS(r:Rel)(v:List fS)(p:FN):Int:=if gC r≠0 then gC r else if(mY (r.2.findIdx? (kG v))).2=false then 7 else if vx r.1.2.1 (fq p)=false then 19
 else if 0<jX (fq p) (1-gS r.2 (NN r v (mY (r.2.findIdx? (kG v))).1))then 19 else 0
def stL(L:List fy)(i:Nat)(p:FN):List fy:=L.set i ((L.getD i tz).1,p)
def stR(r:Rel)(v:List fS)(p:FN):Rel:=if OS r v p≠0 then rz else(r.1,(stL r.2 (mY (r.2.findIdx? (kG v))).1.toNat p).map lz)
theorem BY{r:Rel}{v:List fS}{e:Int}(h:K7 r v=e)(a:e≠0):(([],false,[]),[])=dlR r v:=by
 unfold dlR; rw[QJ (by rw[h]; exact a)]; rfl
theorem Lx{s:iR}{L:List fy}{v:List fS}{p:FN}{i:Nat}(h:oE s L)(d:L.findIdx? (kG v)=some i):oE s (stL L i p)↔vx s.2.1 (fq p)=true/\¬0<jX (fq p) (1-gS L (NN (s,L) v (i:Int))):=by
 obtain⟨hi,f⟩:=sO d;have c:=LV (s:=s) hi;rw[f]at c;unfold stL;rw[K3 h hi,c,zN];constructor
 ·rintro⟨b,a⟩;refine⟨b,?_⟩;have:=Qc b;split
  ·grind
  ·rename_i e;rcases a with a|a
   ·exact absurd a e
   ·grind
 ·rintro⟨b,a⟩;refine⟨b,?_⟩;split at a
  ·rename_i e; exact .inl e
  ·exact .inr (by grind)
theorem aaD{s:iR}{L:List fy}{v:List fS}{p:FN}{i:Nat}(h:oE s L)(a:L.findIdx? (kG v)=some i):OS (s,L) v p=0↔oE s (stL L i p):=by
 rw[Lx h a];unfold OS;rw[QC (fun e=>e (mA.2 h))];dsimp only;rw[a];have b:(mY (some i)).1=(i:Int):=rfl;have c:¬(mY (some i)).2=false:=fun e=>Bool.noConfusion (show true=false from e);rw[b,QC c];cases d:vx s.2.1 (fq p)
 ·simp
 ·rw[QC (show ¬(true=false) by decide)];split
  ·rename_i e; simp[e]
  ·rename_i e; simp[e]
end Go.Proofs.YtbokoblnehgkaabGreat.Gx
namespace Go.Proofs.YtbokoblnehgkaabGreat.Gx
open Go Go.RowKit Tw B Nt Go.Lib Go.Sort Go.Shelf
def Om:Go.Shelf.Ren:=⟨fun|6=>80|10=>43|n=>n,fun|0=>0|3=>3|4=>4|22=>22|23=>3|25=>81|n=>n,fun|n=>n⟩
theorem Oe:Go.Proofs.SlLaysH.n10 Tryz.prog Om:={
 mixed:=by kernel_rfl
 f6:=⟨Tryz.f80.name,by kernel_rfl,Tryz.func80.trans (Sr some (by kernel_rfl))⟩
 f10:=⟨Tryz.f43.name,by kernel_rfl,Tryz.func43.trans (Sr some (by kernel_rfl))⟩
 t0:=Tryz.underlying0
 a0:=Tryz.isAgg0
 z0:=Tryz.sizeOf0
 v0:=Tryz.zeroValue0
 t3:=Tryz.underlying3
 a3:=Tryz.isAgg3
 z3:=Tryz.sizeOf3
 v3:=Tryz.zeroValue3
 t4:=Tryz.underlying4
 a4:=Tryz.isAgg4
 z4:=Tryz.sizeOf4
 v4:=Tryz.zeroValue4
 t22:=Tryz.underlying22
 a22:=Tryz.isAgg22
 z22:=Tryz.sizeOf22
 v22:=Tryz.zeroValue22
 a23:=Tryz.isAgg3
 z23:=Tryz.sizeOf3
 t25:=Tryz.underlying81
 a25:=Tryz.isAgg81
 z25:=Tryz.sizeOf81
 v25:=Tryz.zeroValue81 }
theorem CZ(pr x:Int)(b:Nat)(W:World)(a:W.cell? ⟨b,0,none⟩=some (.int .i64 pr)) :
    FnGives Tryz.prog 44 #[.pointer (some ⟨b,0,none⟩)] #[.int .i64 x] (.bool (decide (x=pr))) W:=by
 show Calls Tryz.prog 44 #[.int .i64 x,.pointer (some ⟨b,0,none⟩)] W _;go_enter Tryz.func44,Tryz.ntmps44;go_wp2
 all_goals (go_ret; refine⟨?_,0,rfl⟩; simp_all; rfl)
theorem Ql(pr:Int)(b:Nat)(w:World)(c:b<w.heap.size)(a:w.cell? ⟨b,0,none⟩=some (.int .i64 pr)) :
    PredAt Tryz.prog 44 #[.pointer (some ⟨b,0,none⟩)] (Value.int .i64) (fun x=>decide (x=pr)) w :=
 fun W x d=>CZ pr x b W ((d.cell (p:=⟨b,0,none⟩) c).trans a)
theorem OI(pr:Int)(b fa off size:Nat)(w:World)(d:b<w.heap.size)(c:b≠fa)(a:w.cell? ⟨b,0,none⟩=some (.int .i64 pr)) :
    PredOver Tryz.prog 44 #[.pointer (some ⟨b,0,none⟩)] (Value.int .i64) (fun x=>decide (x=pr)) fa off size w :=
 fun n os e x _=>CZ pr x b _ (by
  unfold sortWorld;rw[cell?_grow _ _ _ (by show b<(putRow _ _ _ _ _).heap.size; rw[size_putRow]; exact d),cell?_putRow_other _ _ fa off _ _ (Or.inl c)];exact a)
theorem abW(fa off cap:Nat)(d:Array Int)(pr:Int)(b:Nat)(w:World)(j:Holds (Value.int .i64) w fa off d)(g:d.size<=9223372036854775807)(c:d.size<=cap)(i:b<w.heap.size)(h:b≠fa)(a:w.cell? ⟨b,0,none⟩=some (.int .i64 pr)) :
    Calls Tryz.prog 43 #[.slice (some ⟨fa,off,none⟩) d.size cap,.func (.func 44) #[] #[.pointer (some ⟨b,0,none⟩)]] w fun e w'=>e=.returned (.slice (some ⟨fa,off,none⟩) (d.toList.filter fun x=>!decide (x=pr)).length cap) /\
     ∃ q,w'=putRow (Value.int .i64) (Sort.ahead w q) fa off ((d.toList.filter fun x=>!decide (x=pr))++List.replicate (d.size-(d.toList.filter fun x=>!decide (x=pr)).length) 0).toArray:=by
 have k:∀ args w,(callFunc 44 args).run Tryz.prog w=.ok (.enter 44 args) w:=enters_of Tryz.func44 (by kernel_rfl) rfl;have f:=AnyE.slices_DeleteFunc Oe (Value.int .i64) (fun _=>rfl) (fun x=>decide (x=pr)) 44 #[.pointer (some ⟨b,0,none⟩)] k 0 Tryz.zeroValue3 fa off cap d w (Ql pr b w i a) (OI pr b fa off d.size w i h a) j g c;exact f
@[go_sem] def AI:iP:=⟨[.r 3 (.int .i64),.c 44 3 (.int .i64)],fun d=>⟨[(1,.row 3 (.int .i64) (List.filter (fun x=>!decide (x=d.2.1)) d.1)),(0,.box 3 (dA (.int .i64) d.2.1 .nil))],2,.own 1,[List.length d.1<=1000000]⟩⟩
theorem Mf{X:Nat->Prop}{w:World}{l:List Int}{xs:List Value}(c:xs.length=l.length)(h:∀(i:Nat) (x:Int),l[i]?=some x->rep (.int .i64) X w ((xs.drop (i*1)).take 1) x):xs=l.map (Value.int .i64):=by
 apply Ud;intro i;rcases QA i l.length with hi|hi
 ·have b:=(h i _ (Qr hi)).1;rw[Ro,Qr hi];have a:((xs.drop (i*1)).take 1)[0]?=some (Value.int .i64 l[i]):=by rw[b]; rfl
  rw[Q1,QJ (by decide),Rg,Ry,Se]at a;exact a
 ·rw[QD (by omega),QD (by rw[Rt]; omega)]
theorem abP(a:Value)(w:World):Calls Tryz.prog 43 #[.slice none 0 0,a] w fun e w'=>e=.returned (.slice none 0 0)/\w'=w:=by
 have b:∀ w,Calls Tryz.prog 80 #[.slice none 0 0,a] w fun e w'=>e=.returned (.int .i64 (-1))/\w'=w:=fun w=>AnyE.slices_IndexFunc_empty (P:=Tryz.prog) (ρ:=Om) { Oe with } none 0 a w;go_enter Tryz.func43,Tryz.ntmps43;go_wp2_with (go_at_call 80; refine(b _).mono ?_; rintro e w' ⟨rfl,rfl⟩)
 all_goals (go_ret; exact⟨rfl,rfl⟩)
theorem EN{l m:List Int}{cur:Array Value}(h:m.length<=l.length)(c:l.length<=cur.size):(putCells (Value.int .i64) 0 (m++List.replicate (l.length-m.length) 0).toArray cur).toList.take m.length=m.map (Value.int .i64):=by
 apply Ud;intro i;rcases QA i m.length with hi|hi
 ·have a:i<0+(m++List.replicate (l.length-m.length) 0).toArray.size:=by simp; omega
  have b:(m++List.replicate (l.length-m.length) 0).toArray[i]! = m[i]:=by
   rw[WI _ i (by simp; omega)];simp[Wz hi]
  rw[Q1,QJ hi,Ro,Qr hi];unfold putCells;rw[Array.getElem?_toList,Array.getElem?_mapIdx,TF (by omega),Sp,QJ ⟨QE _,a⟩,UT,b];rfl
 ·rw[QD (by rw[QM]; omega),QD (by rw[Rt]; omega)]
theorem Nr:gK Tryz.prog 43 AI:=by
 refine qL (s:=AI) Tryz.func43 rfl (by decide) fun d hp c X w vs hX C L=>?_;obtain⟨l,a,u⟩:=d;obtain⟨M,-⟩:=hp;change List Int at l;change Int at a;change List.length l<=1000000 at M;have C:Fr w X c 0 ⟨[],[(1,.row 3 (.int .i64) l),(0,.box 3 (dA (.int .i64) a .nil))],2⟩ c gu w:=C;have c0:=C.cs (1,.row 3 (.int .i64) l) (by exact Qx ..);have c1:=C.cs (0,.box 3 (dA (.int .i64) a .nil)) (by exact Qs _ (Qx ..));have N:=C.dj (1,.row 3 (.int .i64) l) (by exact Qx ..) (0,.box 3 (dA (.int .i64) a .nil)) (by exact Qs _ (Qx ..)) (by show(1:Nat)≠0; decide);obtain⟨v0,O,D,P,a3,a4⟩:=c0;obtain⟨_,b,bs,I,b2,b3,b4⟩:=c1;have D:c[1]?=some v0:=D;have I:c[0]?=some (.pointer (some ⟨b,0,none⟩)):=I;obtain⟨Q,us,rfl,⟨x,E,_,R⟩,x1,S,rfl,⟨ps,U,y,qs,rfl,⟨y0,b',J,V,W⟩,Y⟩,Z⟩:=L;have Y:qs=[]:=Y;have Z:S=[]:=Z;subst Y;subst Z;have E:c[1]?=some x:=E;rw[D]at E;cases E;have J:c[0]?=some y0:=J;rw[I]at J;cases J;cases V;have R:=(QB R).1;have U:=(QB U).1;have W:=(QB W).1;subst R;subst U;subst W;obtain⟨z,zs,hz,⟨cz,aa,e5⟩,p⟩:=b3;have p:zs=[]:=p;have ab:O.length=l.length:=by have:=P.1; rw[this]; exact Ry _
 have ac:O=l.map (Value.int .i64):=Mf ab a4;have ad:bs.toList=[Value.int .i64 a]:=by
  rw[hz,p];have h5:=(QB e5).1;rw[aa.1]at h5;rw[h5]; rfl
 have ae:bs=#[Value.int .i64 a]:=by
  rw[<-Rx,ad]
 have r:w.cell? ⟨b,0,none⟩=some (.int .i64 a):=by
  have:w.heap[b]?=some (.cells [Value.int .i64 a].toArray 3 (0,0)):=by rw[b2,ae]
  rw[B2 this]; rfl
 have hB:b<w.heap.size:=b9 b2;have af:oA c 1=fa Q:=oe D;have key:∀(v':Value) (w':World),w'.ownsRow 0 3 1 v' (l.filter fun x=>!decide (x=a)).length ((l.filter fun x=>!decide (x=a)).map (Value.int .i64))->w.grownBy w' (fa Q)->(∀ b,fa v'=some b->fa Q=some b∨w.heap.size<=b) ->
     ∃ f,Fr w X c 0 ⟨[],(AI.F (l,a,u)).ck,(AI.F (l,a,u)).nx⟩ f gu w'/\m f (XX X f (AI.F (l,a,u)).ck) w' (AI.F (l,a,u)).out [v']:=by
  intro v' w' ho K hl;have ah:∀ b,fa v'=some b->b<w'.heap.size/\(fk c 1 b∨w.heap.size<=b):=by
   intro b A;refine⟨?_,?_⟩
   ·rcases ho.2 with⟨rfl,_⟩|⟨g,cap,cur,rfl,_,hh,_⟩
    ·cases A
    ·cases A; exact b9 hh
   ·rcases hl b A with h|h
    ·exact .inl (fh D h)
    ·exact .inr h
  have G:∀ u∈(l.filter fun x=>!decide (x=a)).map (Value.int .i64),u.oneCell'=true:=by
   intro u hu;obtain⟨x,_,rfl⟩:=Rj.1 hu;rfl
  have ai:∀(i:Nat) (x:Int),(l.filter fun x=>!decide (x=a))[i]?=some x->rep (.int .i64) (XX X c [(1,CT.row 3 (.int .i64) l),(0,CT.box 3 (dA (.int .i64) a .nil))]) w ((((l.filter fun x=>!decide (x=a)).map (Value.int .i64)).drop (i*1)).take 1) x:=by
   intro i x hi;have L:x∈l:=(Tm.1 (Ra hi)).1;obtain⟨j,n,e⟩:=Rz.1 L;have hr:=(a4 j x (by rw[Qr n,e])).2;refine⟨?_,hr⟩;rw[Ry];have h6:((l.filter fun x=>!decide (x=a)).map (Value.int .i64))[i]?=some (Value.int .i64 x):=by rw[Ro,hi]; rfl
   rw[List.take_one,List.head?_drop,h6]; rfl
  obtain⟨g1,g2⟩:=C.reset (k:=1) (T:=3) (t:=.int .i64) (l:=l) (l':=l.filter fun x=>!decide (x=a)) (v':=v') (w':=w') rfl (by rw[af]; exact K) ah ho G ai;refine⟨_,g1,v',g2,?_,rfl⟩;obtain⟨_,_,_,e⟩:=gb ho;rw[e]; rfl
 rcases P.2 with⟨rfl,h7⟩|⟨g,cap,cur,rfl,_,K,aj,ak,al,E⟩
 ·have an:l=[]:=RA h7;subst an;refine(abP _ w).mono fun e w' ⟨he,o⟩=>?_;subst o;obtain⟨f,k1,k2⟩:=key (.slice none 0 0) w' ⟨rfl,.inl ⟨rfl,rfl⟩⟩ ⟨rfl,rfl,rfl,Qu _,fun _ _ _=>rfl⟩ (fun b A=>by cases A);exact⟨_,f,he,k1,k2⟩
 ·have B:b≠g:=fun e=>N b (by rw[e]; exact fh D rfl) (fh I rfl);have ao:cur.size=cap*1:=al;have aq:∀ j v,O[j]?=some v->w.cell? ⟨g,0+j,none⟩=some v:=fun j v n=>by
   have:=P.cells (g:=g) rfl j v n;rwa [Ri]at this
  have ar:∀ j,w.frozen? ⟨g,j,none⟩=false:=fun j=>lr (cur:=cur.toList) (T:=3) (by rw[K]);have hH:Holds (Value.int .i64) w g 0 l.toArray:=fun j n=>by
   have n:j<l.length:=by simpa using n
   refine⟨aq j _ ?_,ar _⟩;rw[ac,Ro,Qr n,WI l.toArray j (by simpa using n)];rfl
  have H:=abW g 0 cap l.toArray a b w hH (by simp; omega) (by simpa using aj) hB B r;rw[RQ,SF]at H;refine H.mono fun e w' ⟨he,q,o⟩=>?_;have au:(l.filter fun x=>!decide (x=a)).length<=l.length:=UI _ _;have hh:w'.heap[g]?=some (.cells (putCells (Value.int .i64) 0 ((l.filter fun x=>!decide (x=a))++List.replicate (l.length-(l.filter fun x=>!decide (x=a)).length) 0).toArray cur) 3 (0,0)):=by
   have h8:(Sort.ahead w q).heap[g]?=some (.cells cur 3 (0,0)):=K;rw[o];show((Sort.ahead w q).heap.modify g _)[g]?=_;rw[SY,QJ rfl,h8];rfl
  obtain⟨f,k1,k2⟩:=key (.slice (some ⟨g,0,none⟩) (l.filter fun x=>!decide (x=a)).length cap) w' ⟨by rw[Rt,Ry],.inr ⟨g,cap,_,rfl,QE _,hh,by omega,ak,by rw[<-ao]; simp[putCells],by rw[Ry]; exact EN au (by omega)⟩⟩ ⟨by rw[o]; rfl,by rw[o]; rfl,by rw[o]; rfl,by rw[o,size_putRow]; exact Qu _,fun k hk B=>by
      have av:k≠g:=fun e=>B (by rw[e]; rfl);rw[o];simp[putRow,mapBlock,SY,RN av]⟩ (fun b A=>.inl A)
  exact⟨_,f,he,k1,k2⟩
end Go.Proofs.YtbokoblnehgkaabGreat.Gx
namespace Go.Proofs.YtbokoblnehgkaabGreat.Gx
open Go Go.RowKit Tw B Nt
@[go_sem] noncomputable def ET1:Env:=(ERO).jg 41 Qj
theorem wR:ET1.Ok:=(GM).jg KZ
@[go_sem] def M_:Spec:=⟨[c7,.slice eK],fun d=>(.js (.cons (.a_ c7 (dlR d.1 d.2.1)) (.cons (.a_ (.int .i64) (K7 d.1 d.2.1)) .nil)),[gZ d.1,List.length d.2.1<=1000])⟩
theorem aaJ:c6 Tryz.prog 12 M_:=by
 refine eT wR M_ Tryz.func12 rfl (by decide) (N:=35) rfl (res:=[.cell 4 28,.tmp 5]) rfl (by decide) [(7,[(26,.ow)]),(8,[(32,.ow)])] [(9,[3])] [] 100 (by kernel_rfl) ?_;rintro⟨r,v,_⟩ j c;refine⟨rfl,fun H q=>?_⟩;dsimp only[go_sem]at j c ⊢;obtain⟨c,m,-⟩:=c;obtain⟨s,l⟩:=r;change List fy at l;change List fS at v;obtain⟨i,g⟩:∃ o,l.findIdx? (kG v)=o:=⟨_,rfl⟩;have a:K7 (s,l) v=if gC (s,l)≠0 then gC (s,l)else if(mY (l.findIdx? (kG v))).2=false then 7 else 0:=rfl
 have b:dlR (s,l) v=if K7 (s,l) v≠0 then rz else(s,(kv l (mY (l.findIdx? (kG v))).1.toNat).map lz):=rfl
 have d:∀ k,kv (l.map lz) k=(kv l k).map lz:=fun k=>by unfold kv; rw[SG,List.map_take,List.map_drop]
 dsimp only at a b ⊢;rw[g]at a b ⊢;refine⟨c,fun e=>?_,fun e=>⟨c,m,fun f=>?_,fun f=>?_⟩⟩
 ·have e:=QF e;rw[QJ e]at a;exact⟨rfl,rfl,BY a e,rfl,a.symm,trivial⟩
 all_goals have e:=QN e
 ·rw[QC e,QJ (by simpa using f)]at a;exact⟨rfl,rfl,BY a (by decide),rfl,a.symm,trivial⟩
 ·have h:(mY i).2=true:=by simpa using f
  rw[QC e,QC (by rw[h]; simp)]at a;rw[QC (by rw[a]; simp)]at b;cases i with
  | none=>cases h
  | some i =>
   obtain⟨hi,n⟩:=sO g
   have t:l.length<=400:=c.2.1
   have p:(mY (some i)).1=(i:Int):=rfl
   rw[p]at b ⊢
   refine⟨c,by rw[c9]; omega,⟨?_,?_,?_,rfl⟩,rfl,rfl,?_,rfl,a.symm,trivial⟩
   ·show(0:Int)<=(i:Int); omega
   ·show(i:Int)<((l.map lz).length:Int); rw[Rt]; omega
   ·show(l.map lz).length<=1000000; rw[Rt]; omega
   rw[b,d]
@[go_sem] def OM:iP:=⟨[.d c7,.d (.slice eK)],fun d=>⟨[(0,.row 3 (.int .i64) (kW d.1 d.2.1))],1,.own 0,[gZ d.1,List.length d.2.1<=1000]⟩⟩
theorem Md:gK Tryz.prog 26 OM:=by
 refine nD pg OM Tryz.func26 rfl (by decide) (N:=38) rfl (res:=[.tmp 4]) rfl (by decide) [(9,[(34,.dt)])] [] [] 100 (by kernel_rfl) ?_;rintro⟨r,v,_⟩ x k H y;dsimp only[go_sem]at x k ⊢;obtain⟨k,A,-⟩:=k;obtain⟨s,l⟩:=r;change List fy at l;change List fS at v;obtain⟨c,m,B⟩:=k;change l.length<=400 at m;change v.length<=1000 at A;clear x;have f:∀ w,(gj s.2.2 w).length<=1000:=fun w=>by
  unfold gj;split
  ·exact QE _
  ·exact QL (nP _ _ _) c
 refine⟨c,fun h=>?_,fun h=>?_⟩<;>simp only[Qy,Qw]at h
 ·have:(gj s.2.2 v).length=0:=by omega
  have o:[]=kW (s,l) v:=by unfold kW; rw[QJ this]
  and_intros<;>first|trivial|rfl|exact o|omega
 have hk:kW (s,l) v=FP (s,l) (gj s.2.2 v) l.length:=by
  unfold kW; rw[QC (fun e=>h (by rw[e]; rfl))]
 have p:=f v;have a:=za (s,l) (gj s.2.2 v);have b:=wM (s,l) (gj s.2.2 v);generalize FP (s,l) (gj s.2.2 v)=G at a b hk;change ∀ n,G (n+1)=G n++(if cT (gj s.2.2 (l.getD n tz).1) (gj s.2.2 v)=0 then [(n:Int)]else [])at a;clear h;generalize q:gj s.2.2 v=K at a p ⊢;clear q;refine y.loop (fun i:Nat=>⟨[(19,.a_ (.int .i64) (i:Int)),(18,.a_ (.int .i64) (l.length:Int)),(17,.a_ (.slice b8) l),(5,.a_ (.slice eK) K),(2,.ref 0 0),(6,.own 1)],[(0,.box 28 (.cons (.a_ .str s.1) (.cons (.a_ .bool s.2.1) (.cons (.a_ (.slice fe) s.2.2) (.cons (.a_ (.slice b8) l) .nil))))),(1,.row 3 (.int .i64) (G i))],2⟩) (fun i=>i<=l.length) (fun i=>l.length-i) 0 1 (QE _) ?_ ?_
 ·dsimp only[go_sem];have:G 0=[]:=RA (by have:=b 0; omega);rw[this];and_intros<;>first|trivial|rfl|omega
 ·intro i hi R z;refine y.run 100 _ _ ?_;dsimp only[go_sem];simp only[QH];have t:∀ j,l.getD j (zd b8)=l.getD j tz:=fun _=>rfl;refine⟨fun d=>?_,fun d=>?_⟩<;>simp only[Qy,Qw]at d
  ·have d:i<l.length:=by omega
   have o:(0:Int)<=(i:Int)/\(i:Int)<(l.length:Int):=by omega
   have g:gG .i64 ((i:Int)+1):=by rw[c9]; omega
   have u:(gj s.2.2 (l.getD i tz).1).length<=1000000/\List.length K<=1000000:=by
    have:=f (l.getD i tz).1;omega
   have a:=a i;have b:=b i;simp only[t];refine⟨o,c,u,fun e=>?_,fun e=>?_⟩<;>simp only[Qy,Qw]at e
   ·have e:cT (gj s.2.2 (l.getD i tz).1) K=0:=e;rw[QJ e]at a;refine⟨?_,trivial,g,z _ (i+1) 2 d (by omega) ?_⟩
    ·change ((G i).length+1)*8<=_;omega
    ·dsimp only[go_sem];rw[a];and_intros<;>first|trivial|rfl|omega
   ·have e:¬cT (gj s.2.2 (l.getD i tz).1) K=0:=e;rw[QC e,Q9]at a;refine⟨g,z _ (i+1) 2 d (by omega) ?_⟩;dsimp only[go_sem];rw[a];and_intros<;>first|trivial|rfl|omega
  ·have d:i=l.length:=by omega
   subst d;rw[hk];and_intros<;>first|trivial|rfl
@[go_sem] noncomputable def ET2:Env:=(((ET1).jg 26 OM).jg 43 AI).add 12 M_
theorem Gw:ET2.Ok:=(((wR).jg Md).jg Nr).add aaJ
@[go_sem] def ab0:Spec:=⟨[c7,.slice eK,fT],fun d=>(.js (.cons (.a_ c7 (stR d.1 d.2.1 d.2.2.1)) (.cons (.a_ (.int .i64) (OS d.1 d.2.1 d.2.2.1)) .nil)),[gZ d.1,List.length d.2.1<=1000,fs d.2.2.1<=1000])⟩
theorem Qh(r:Rel)(v:List fS)(x:Int):(NN r v x).length<=r.2.length/\∀ i∈NN r v x,0<=i/\i<(r.2.length:Int):=by
 obtain⟨a,b⟩:=xC r v;exact⟨QL (UI _ _) a,fun i hi=>b i (Tm.1 hi).1⟩
@[go_sem] noncomputable def ET3:Env:=(ET2).add 13 ab0
@[go_sem] noncomputable def ET4:Env:=ET3
@[go_sem] noncomputable def ERP:Env:=((ERO).add 16 OX).add 6 wC
theorem GI:ERP.Ok:=((GM).add PI).add zr
def sk(l:List Int)(i:Nat)(j:Nat):Int:=Ah l (4+3*(i:Int)+(j:Int))
def rQ(x:Int):Nat->List fS
 | 0=>[]
 | n+1=>rQ x n++[mS (1+x / 3 ^ n % 3)]
def jl(i:Nat):iR:=sd.getD i (zd jt)
def kR(l:List Int)(i j:Nat):fy :=
 (rQ (sk l i j) (jl i).2.2.length,qf (if(jl i).2.1=true then 1 else wH (kr .i64 (sk l i j) 4)))
def oB(l:List Int)(i:Nat):Nat->Rel
 | 0=>(jl i,[])
 | n+1=>if fU (oB l i n) (kR l i n)=0 then ky (oB l i n) (kR l i n)else oB l i n
def qN(l:List Int)(i:Nat):Nat:=if i=1 then min 2 (Ah l 1 % 4).toNat else(Ah l i % 4).toNat
theorem CV(l:List Int)(i:Nat):qN l i<=3:=by
 unfold qN;split<;>omega
theorem qI(x:Int):∀ n,(rQ x n).length=n
 | 0=>rfl
 | n+1=>by unfold rQ; rw[QO,qI x n]; rfl
theorem pQ{i:Nat}(h:i<4):hP (jl i)=true/\(jl i).2.2.length<=2:=by
 have:i=0∨i=1∨i=2∨i=3:=by omega
 rcases this with rfl|rfl|rfl|rfl<;>decide +kernel
theorem Dh(l:List Int){i:Nat}(h:i<4)(j:Nat):lz (kR l i j)=kR l i j/\(kR l i j).1.length<=2/\fs (kR l i j).2<=64:=by
 have a:=(Ik (kr .i64 (sk l i j) 4)).1;refine⟨by unfold kR lz; rw[jo],by unfold kR; rw[qI]; exact(pQ h).2,?_⟩;unfold kR;rw[ig];split
 ·decide +kernel
 ·omega
theorem xN(l:List Int){i:Nat}(h:i<4):∀ n,n<=3->∃ L:List fy,oB l i n=(jl i,L)/\oE (jl i) L/\L.length<=n/\∀ t∈L,lz t=t/\t.1.length<=2/\fs t.2<=64
 | 0,_=>⟨[],rfl,⟨(pQ h).1,by decide,(fun t a=>by cases a),List.Pairwise.nil,(fun t a=>by cases a)⟩,Qu _,fun t a=>by cases a⟩
 | n+1,g=>by
  obtain⟨L,e,f,j,d⟩:=xN l h n (by omega);have a:=Dh l h n;unfold oB;rw[e];by_cases c:fU (jl i,L) (kR l i n)=0
  ·rw[QJ c,D' c (fun u b=>(d u b).1) a.1];refine⟨_,rfl,Gb.1 c,by rw[qv]; omega,fun u b=>?_⟩;rcases ji.1 b with rfl|b
   ·exact a
   ·exact d u b
  ·rw[QC c];exact⟨L,rfl,f,by omega,d⟩
theorem Qm(l:List Int){i:Nat}(h:i<4){n:Nat}(a:n<=3):gZ (oB l i n):=by
 obtain⟨L,b,e,f,c⟩:=xN l h n a;have:=(pQ h).2;rw[b];exact⟨(show(jl i).2.2.length<=1000 by omega),(show L.length<=400 by omega),fun t d=>by have:=c t d; omega⟩
def lf(l:List Int):List Rel:=(List.range 4).map fun i=>oB l i (qN l i)
def xf(l:List Int)(i:Nat):List Rel:=(List.range i).map fun i=>oB l i (qN l i)
theorem FD(l:List Int)(i:Nat):xf l (i+1)=xf l i++[oB l i (qN l i)]:=by
 unfold xf;rw[T8,SG]; rfl
theorem Jb(l:List Int)(i:Nat):(xf l i).length=i:=by unfold xf; rw[Rt,VV]
def uG(r:Rel):AV:=.cons (.a_ .str r.1.1) (.cons (.a_ .bool r.1.2.1) (.cons (.a_ (.slice fe) r.1.2.2) (.cons (.a_ (.slice b8) r.2) .nil)))
theorem abn{a:Type}{G:Prop}{H:List It->St->Prop}{k:List It}{inv:a->St}{Q:a->Prop}(h1:(∀ x,Q x->H k (inv x))->G)(h2:∀ x,Q x->H k (inv x)):G:=h1 h2
theorem acA{p q:Prop}:(p->q->p/\q)=True:=eq_true fun a b=>⟨a,b⟩
theorem acy(x:Int)(q:Nat):x / 3 ^ q / 3=x / 3 ^ (q+1):=by
 rw[Vo (Wq (by decide)),UX]
@[go_sem] def GS:Spec:=⟨[.slice (.int .i64)],fun d=>(.a_ (.slice c7) (lf d.1),[])⟩
theorem B7:c6 Tryz.prog 4 GS:=by
 refine eT GI GS Tryz.func4 rfl (by decide) (N:=95) rfl (res:=[.tmp 2]) rfl (by decide) [(6,[(24,.ag)]),(11,[(52,.ag)]),(17,[(76,.dt),(1000000,.mx [])]),(22,[(92,.dt)])] [(19,[3])] [14] 100 (by kernel_rfl) ?_;rintro⟨l,_⟩ v A;refine⟨rfl,fun H w=>?_⟩;dsimp only[go_sem]at v A ⊢;clear v;refine w.loop (fun i:Nat=>⟨[(5,.a_ (.int .i64) (i:Int)),(4,.a_ (.slice jt) sd),(3,.own 0),(0,.a_ (.slice (.int .i64)) l)],[(0,.row 28 c7 (xf l i))],1⟩) (fun i=>i<=4) (fun i=>4-i) 0 0 (QE _) ?_ ?_
 ·dsimp only[go_sem];and_intros<;>first|trivial|rfl|omega
 ·rintro i hi R B;refine w.run 100 _ _ ?_;dsimp only[go_sem];have C:sd.length=4:=rfl;have g:∀ k,sd.getD k (zd (Ty.str.pair (Ty.bool.pair (Ty.str.pair ((Ty.int IntKind.i64).pair Ty.bool)).slice)))=jl k:=fun _=>rfl;simp only[g,QH];refine⟨fun d=>?_,fun d=>?_⟩
  ·have d:i<4:=by
     have d:(i:Int)<(sd.length:Int):=QF d;omega
   have h:(0:Int)<=(i:Int)/\(i:Int)<(sd.length:Int):=by omega
   have r:=(pQ d).2;refine⟨h,?_⟩;refine zK.loop (by assumption) (fun j:Nat=>⟨[(7,.a_ (.int .i64) (j:Int)),(6,.ref 1 0),(5,.a_ (.int .i64) (i:Int)),(4,.a_ (.slice jt) sd),(3,.own 0),(0,.a_ (.slice (.int .i64)) l)],[(0,.row 28 c7 (xf l i)),(1,.box 28 (uG (oB l i j)))],2⟩) (fun j=>j<=qN l i) (fun j=>qN l i-j) 0 2 (QE _) ?_ ?_
   ·dsimp only[go_sem,uG];and_intros<;>first|trivial|rfl|omega
   ·rintro j x L m;dsimp only[uG];refine zK.run (by assumption) 100 _ _ ?_;dsimp only[go_sem];have D:=CV l i;have y:0<=Ah l (i:Int):=GH l (by omega);have E:Ah l (i:Int)<=65535+(i:Int):=Hi l (by omega);rw[Uj y];simp only[Su,R_,acA,SK,g,QH];have F:(decide ((j:Int)<Ah l (i:Int) % 4)&&!(decide ((i:Int)=1)&&decide ((j:Int)=2)))=decide (j<qN l i):=by
     rw[Wi];simp only[QK,Sv,SZ,Qy,Qw];unfold qN at x ⊢;split at x<;>rename_i e
     ·subst e;rw[QJ rfl];have:Ah l ((1:Nat):Int)=Ah l 1:=rfl;rw[this]at y E ⊢;omega
     ·rw[QC e];omega
    rw[F];have G:Ah l (4+3*(i:Int)+(j:Int))=sk l i j:=rfl;have p:0<=sk l i j:=GH l (by omega);have M:sk l i j<=65535+(4+3*(i:Int)+(j:Int)):=Hi l (by omega);simp only[G];obtain⟨s,n⟩:∃ s,jl i=s:=⟨_,rfl⟩;have a:(kR l i j).2=qf (if s.2.1=true then 1 else wH (kr .i64 (sk l i j) 4)):=by rw[<-n]; rfl
    have I:∀ q,(jl q).2.1=(jl q).2.1:=fun _=>rfl;simp only[n];rw[n]at r;refine⟨(show(0:Int)<=(i:Int)/\(i:Int)<=1000000 by omega),by decide,by rw[c9]; omega,fun b=>?_,fun b=>?_⟩
    ·have b:j<qN l i:=QF b;refine⟨by rw[c9]; omega,by rw[c9]; omega,by rw[c9]; omega,(show(0:Int)<=4+3*(i:Int)+(j:Int)/\4+3*(i:Int)+(j:Int)<=1000000 by omega),by decide,h,?_⟩;apply abn (H:=H) (inv:=fun _:Unit=>⟨[(9,.ref 2 0),(8,.a_ (.int .i64) (sk l i j)),(7,.a_ (.int .i64) (j:Int)),(6,.ref 1 0),(5,.a_ (.int .i64) (i:Int)),(4,.a_ (.slice jt) sd),(3,.own 0),(0,.a_ (.slice (.int .i64)) l)],[(0,.row 28 c7 (xf l i)),(1,.box 28 (uG (oB l i j))),(2,.box 37 (.cons (.val (.slice none 0 0)) (.cons (.a_ .bool (kR l i j).2.1) (.cons (.a_ (.slice (.int .u32)) (kR l i j).2.2.1) (.cons (.a_ (.slice (.int .u32)) (kR l i j).2.2.2) .nil)))))],3⟩) (Q:=fun _=>True)
     ·intro key;refine⟨fun e=>zK.mR (by assumption) _ 3 ?_ (key () trivial),fun e=>zK.mR (by assumption) _ 3 ?_ (key () trivial)⟩
      ·have a:(kR l i j).2=qf 1:=by rw[a,QJ e]
       rw[a];dsimp only[go_sem,uG];and_intros<;>first|trivial|rfl|omega
      ·have a:(kR l i j).2=qf (wH (kr .i64 (sk l i j) 4)):=by rw[a,QC (by rw[e]; exact RZ)]
       rw[a];dsimp only[go_sem,uG];and_intros<;>first|trivial|rfl|omega
     ·rintro⟨⟩ -;refine zK.go (by assumption) [] 100 _ _ ?_;dsimp only[go_sem];refine zK.loop (by assumption) (fun q:Nat=>⟨[(10,.a_ (.int .i64) (q:Int)),(9,.ref 2 0),(8,.a_ (.int .i64) (sk l i j / 3 ^ q)),(7,.a_ (.int .i64) (j:Int)),(6,.ref 1 0),(5,.a_ (.int .i64) (i:Int)),(4,.a_ (.slice jt) sd),(3,.own 0),(0,.a_ (.slice (.int .i64)) l)],[(0,.row 28 c7 (xf l i)),(1,.box 28 (uG (oB l i j))),(2,.box 37 (.cons (.own 3) (.cons (.a_ .bool (kR l i j).2.1) (.cons (.a_ (.slice (.int .u32)) (kR l i j).2.2.1) (.cons (.a_ (.slice (.int .u32)) (kR l i j).2.2.2) .nil))))),(3,.row 55 eK (rQ (sk l i j) q))],4⟩) (fun q=>q<=s.2.2.length) (fun q=>s.2.2.length-q) 0 3 (QE _) ?_ ?_
      ·dsimp only[go_sem];and_intros<;>first|trivial|rfl|omega|simp
      ·rintro q O P t;dsimp only[uG];refine zK.go (by assumption) [] 100 _ _ ?_;dsimp only[go_sem];simp only[g,QH,n];have z:0<=sk l i j / 3 ^ q:=Sn p (Wq (by decide));have S:sk l i j / 3 ^ q<=sk l i j:=TQ _ p;have T:=Si (sk l i j / 3 ^ q) (show(3:Int)≠0 by decide);have U:=RD (sk l i j / 3 ^ q) (show(0:Int)<3 by decide);rw[Uj z,Wo z,acy];have o:=qI (sk l i j) q;have u:rQ (sk l i j) (q+1)=rQ (sk l i j) q++[mS (1+sk l i j / 3 ^ q % 3)]:=rfl;have V:0<=sk l i j / 3 ^ (q+1):=Sn p (Wq (by decide));have W:sk l i j / 3 ^ (q+1)<=sk l i j:=TQ _ p;refine⟨h,fun e=>?_,fun e=>?_⟩
       ·have e:q<s.2.2.length:=by
          have e:(q:Int)<(List.length s.2.2:Int):=QF e;omega
        refine⟨by decide,by rw[c9]; omega,by rw[c9]; omega,?_,trivial,by decide,by rw[c9]; omega,by rw[c9]; omega,zK.Gi (by assumption) [(0,0),(1,1),(2,2),(3,4)] 4 rfl rfl (QE _) rfl ?_⟩
        ·rw[o];show(q+1)*32<=_;omega
        ·dsimp only[go_sem];refine t _ (q+1) 4 e (by omega) ?_;dsimp only[go_sem];rw[u];and_intros<;>first|trivial|rfl|omega
       ·have e:q=s.2.2.length:=by
          have e:¬(q:Int)<(List.length s.2.2:Int):=QN e;omega
        have J:((rQ (sk l i j) q,(kR l i j).2):fy)=kR l i j:=by
         rw[e,<-n]; rfl
        have K:=Dh l d j;have c:oB l i (j+1)=if fU (oB l i j) (kR l i j)=0 then ky (oB l i j) (kR l i j)else oB l i j:=rfl
        rw[J];refine⟨Qm l d (by omega),by rw[o]; omega,fun f=>?_,fun f=>?_⟩
        ·rw[QJ (QF f)]at c;refine⟨by rw[c9]; omega,m _ (j+1) 2 b (by omega) ?_⟩;dsimp only[go_sem,uG];rw[c];and_intros<;>first|trivial|rfl|omega
        ·rw[QC (QN f)]at c;refine⟨by rw[c9]; omega,m _ (j+1) 2 b (by omega) ?_⟩;dsimp only[go_sem,uG];rw[c];and_intros<;>first|trivial|rfl|omega
    ·have b:j=qN l i:=by
       have b:¬j<qN l i:=QN b;omega
     refine⟨?_,by rw[c9]; omega,B _ (i+1) 1 d (by omega) ?_⟩
     ·rw[Jb];show(i+1)*72<=_;omega
     ·dsimp only[go_sem];rw[FD,<-b];and_intros<;>first|trivial|rfl|omega
  ·have d:i=4:=by
     have d:¬(i:Int)<(sd.length:Int):=QN d;omega
   subst d;exact⟨rfl,trivial⟩
theorem H6(l:List Int){i:Nat}(h:i<4):∃ L,(lf l).getD i rz=((jl i,L):Rel)/\oE (jl i) L/\L.length<=3/\(jl i).2.2.length<=2/\∀ t∈L,lz t=t/\t.1.length<=2/\fs t.2<=64:=by
 have a:=CV l i;obtain⟨L,b,c,e,d⟩:=xN l h (qN l i) a;refine⟨L,?_,c,by omega,(pQ h).2,d⟩;rw[<-b];unfold lf;rw[Qz,Ro,TO h];rfl
theorem Ec(l:List Int):(lf l).length=4:=by unfold lf; rw[Rt,VV]
@[go_sem] noncomputable def ERQ:Env:=(ERP).add 4 GS
theorem wK:ERQ.Ok:=(GI).add B7
theorem Le(n:Int):lz (oX n)=oX n:=by
 have h:∀ v q,lz (v,qf q)=(v,qf q):=fun v q=>by unfold lz; rw[jo]
 unfold oX;split
 ·exact h _ _
 ·split
  ·exact h _ _
  ·split
   ·exact h _ _
   ·exact h _ _
@[go_sem] noncomputable def EU1:Env:=((ERQ).add 12 M_).add 13 ab0
def mU(n:Nat)(w:World)(t:Ty)(a:t.den)(v:Value):Prop:=∃ c,fg t (fun b=>b<n) w c a/\v=t.wrap c
theorem yW{k:IntKind}{t:TypeId}{base:Nat}{X:Nat->Prop}{w:World}{v:Value}{l:List Int}(h:Row k w v l)(p:iG t base w v)(q:∀ b,X b->b<base):fg (.slice (.int k)) X w [v] l:=by
 obtain⟨a,cap,rfl,r,s,u,z,A⟩:=h;refine⟨a,cap,rfl,r,s,u,fun j=>?_⟩;obtain⟨b,off,rfl,B⟩:=A j;obtain⟨D,C,n⟩:=p b off none _ _ rfl;refine⟨b,off,C,t,rfl,fun c=>?_,n,fun i x c=>?_⟩
 ·have:=q b c; omega
 ·have hi:i<l.length:=by
    rcases QA i l.length with h|h
    ·exact h
    ·rw[QD h]at c; cases c
  have:=B i hi;have m:l.getD i 0=x:=by simp[c]
  rw[m]at this;refine⟨?_,nQ (z x (Ra c))⟩;simp only[Ty.size,Ry];have g:C.toList[off+i]?=some (.int k x):=by simpa [World.cell?,n]using this
  have f:off+i<C.toList.length:=by
   rcases QA (off+i) C.toList.length with h|h
   ·exact h
   ·rw[QD h]at g; cases g
  rw[R0 f,Uo,S7];rw[Qr f]at g;rw[Rk g]
theorem ab5{base:Nat}{w:World}{v:Value}{n:Int}(h:eS base w v n):fg nT (fun b=>b<base) w [v] (dg n):=by
 obtain⟨l,c,f,g,i⟩:=h;have:dg n=l:=by rw[<-g]; exact N9 f
 rw[this];exact yW c i fun b j=>j
theorem zF{w:World}{v:Value}{f:fT.den}(h:m [] (fun _=>False) w (.a_ fT f) [v])(c:fs f<=5000000):Calls Tryz.prog 45 #[v] w (fun e w'=>∃ v',e=.returned v'/\mU w.heap.size w' fT (qf (fq f)) v'/\Below w.heap.size w w'):=by
 refine TB (AE v 5000000 _ w (P1 h _ c) (by decide)) ?_;rintro e w' ⟨z,rfl,⟨g,i,rfl,j,k⟩,l⟩;exact⟨_,rfl,⟨[.bool (decide ((fq f).num<0)),g,i],⟨rfl,ab5 j,ab5 k⟩,rfl⟩,l⟩
theorem jL{vs:List Value}{n t:Nat}{x:Value}(h:vs[t]?=some x):gt { tmps:=vs.toArray++Array.replicate n undef,defers:=[] } t=x:=by
 have f:t<vs.length:=by
  rcases QA t vs.length with c|c
  ·exact c
  ·rw[QD c]at h; cases h
 unfold gt;rw[Sa,U6 (by simpa using f)];simp[h]
section
variable{ρ ρ':List Value}
def pI(x:AV):Prop:=(∃ k d,x=.a_ (.int k) d)∨(∃ d,x=.a_ .bool d)∨∃ v,x=.val v
theorem acs{x:AV}(h:pI x){X Y:Nat->Prop}{w w':World}{vs:List Value}(c:m ρ X w x vs):m ρ' Y w' x vs:=by
 rcases h with⟨k,d,rfl⟩|⟨d,rfl⟩|⟨v,rfl⟩
 ·exact c
 ·exact c
 ·exact c
def ptr(b:Nat):Value:=.pointer (some ⟨b,0,none⟩)
end
section
variable{P:Program}{o:Oper}{x y:Operand}{σ:Operand->Value}{w w':World}{T T' e:TypeId}{te:TE}{b off:Nat}{v:Value}
theorem fE(c:o.op=.move x):(execOp σ o).run P w=.ok (.value (σ x)) w:=by simp[execOp,c]
theorem ib(c:o.op=.assign x):(execOp σ o).run P w=.ok (.value (σ x)) w:=by simp[execOp,c]
theorem fm{f c:Nat}{u:(u:Ty)×(te.ty.den->u.den)}(i:b_ P T te)(j:o.op=.fieldAddr T x f)(g:sn te.ty te.nf f=some (c,u))(k:f<te.nf)(l:σ x=.pointer (some ⟨b,off,none⟩)) :
    (execOp σ o).run P w=.ok (.value (.pointer (some ⟨b,off+c,none⟩))) w:=by
 have h:=iX (w:=w) i g k b off;simp[execOp,j,l,h,Result.andThen]
theorem fv(g:b_ P T te)(i:o.op=.load T x)(j:σ x=.pointer (some ⟨b,off,none⟩)){C:Array Value}{f:Nat×Nat}(k:w.heap[b]?=some (.cells C T' f)){cs:List Value}(c:(C.toList.drop off).take te.ty.size=cs)(l:cs.length=te.ty.size)(m:te.ty.wrap cs=v) :
    (execOp σ o).run P w=.ok (.value v) w:=by
 have h:(Instr.loadAt T (.pointer (some ⟨b,off,none⟩))).run P w=.ok v w:=by
  simp only[Instr.loadAt,Instr.sureAddr,Rf,S9,Sh];rw[<-m];exact fR g k c l
 simp[execOp,i,j,h,Result.andThen]
theorem uf(f:b_ P e te)(g:o.op=.indexAddr T x y)(i:P.underlying T=some (.slice e)){n cap:Nat}(j:σ x=.slice (some ⟨b,off,none⟩) n cap){k:Nat}(l:σ y=.int .i64 (k:Int))(hk:k<n) :
    (execOp σ o).run P w=.ok (.value (.pointer (some ⟨b,off+k*te.ty.size,none⟩))) w:=by
 have c:=f.iN (w:=w);have h:(Instr.indexAt T (.slice (some ⟨b,off,none⟩) n cap) (.int .i64 (k:Int))).run P w=.ok (.pointer (some ⟨b,off+k*te.ty.size,none⟩)) w:=by
  simp[Instr.indexAt,asIntOf,Rb i,hk,c,Ri]
 simp[execOp,g,j,l,h,Result.andThen]
theorem lJ(f:b_ P T te)(g:o.op=.alloc T):(execOp σ o).run P w=.ok (.value (.pointer (some ⟨w.heap.size,0,none⟩))) (w.alloc (.cells (zc te.ty).toArray T)):=by
 obtain⟨i,hi,h,_,_⟩:=f.info;have c:(te.ty.wrap (zc te.ty)).cells=(zc te.ty).toArray:=fu (fw _) (gm _);simp[execOp,g,Instr.alloc,zeroValue,typeInfo,hi,h,newVar,newRow,c]
theorem fc{R:Value->World->Prop}(h:(execOp σ o).run P w=.ok (.value v) w')(c:R v w'):fD P σ o w R:=by
 unfold fD; rw[h]; exact c
theorem gL{f:FuncId}{xs:Array Operand}{ats:Array TypeId}(c:∀ args w,(callFunc f args).run P w=.ok (.enter f args) w){dst:Option Tmp}{ty:TypeId}{pos:String}{af:Array Edge}{g:Option (Nat×Bool)}{a:Act}{vs:List Value}(i:xs.map a.eval=vs.toArray){R:Value->World->Prop}(h:Calls P f vs.toArray w fun e w'=>∃ v,e=.returned v/\R v w') :
    fD P a.eval ⟨dst,.call { callee:=.value (.func f),args:=xs,argTypes:=ats },ty,pos,af,g⟩ w R:=by
 unfold fD;rw[UE,i,show #[]++vs.toArray++#[]=vs.toArray by simp,c];exact h
end
section
variable{P:Program}{ops:Array Oper}{o:Oper}{rest:List Oper}{Q:Exit->Act->World->Prop}{a:Act}{w w':World}{v:Value}
theorem Kz(f:o.guard=none)(h:(execOp a.eval o).run P w=.ok (.value v) w')(g:wpList P ops Q rest (a.put o.dst v) w'):wpList P ops Q (o::rest) a w:=by
 refine Us f fun K c=>?_;unfold Oper.wp;rw[h];exact c _ _ g
theorem FT{R:Value->World->Prop}(f:o.guard=none)(h:fD P a.eval o w R)(g:∀ v w',R v w'->wpList P ops Q rest (a.put o.dst v) w'):wpList P ops Q (o::rest) a w :=
 Us f fun K c=>h.wp fun v w' i=>c _ _ (g v w' i)
theorem vY{fn:Func}{t:Nat}{T:TypeId}{f:Addr}(c:fn.results.toList=[.cell t T])(ht:gt a t=.pointer (some f))(j:(loadVar T f).run P w=.ok v w):(results fn a.tmps).run P w=.ok v w:=by
 have ht:a.tmps.getD t undef=.pointer (some f):=ht;have k:(fn.results.mapM (tX a.tmps)).run P w=.ok #[v] w:=by
  rw[U9,c];simp[tX,ht,asAddr,j]
 have g:results fn a.tmps=(do let i <-fn.results.mapM (tX a.tmps); pure (if h:i.size=1 then i[0]else .tuple i)):=by
  unfold results;congr 1
 rw[g,Rf,k];simp
theorem qE{fn:Func}{t s:Nat}{T:TypeId}{f:Addr}(c:fn.results.toList=[.cell t T,.tmp s])(ht:gt a t=.pointer (some f))(j:(loadVar T f).run P w=.ok v w):(results fn a.tmps).run P w=.ok (.tuple #[v,gt a s]) w:=by
 have ht:a.tmps.getD t undef=.pointer (some f):=ht;have k:(fn.results.mapM (tX a.tmps)).run P w=.ok #[v,gt a s] w:=by
  rw[U9,c];simp[tX,ht,asAddr,j,gt]
 have g:results fn a.tmps=(do let i <-fn.results.mapM (tX a.tmps); pure (if h:i.size=1 then i[0]else .tuple i)):=by
  unfold results;congr 1
 rw[g,Rf,k];simp
end
section
variable{P:Program}{ops:Array Oper}{o:Oper}{x:Operand}{σ:Operand->Value}{rest:List Oper}{Q:Exit->Act->World->Prop}{a:Act}{w w':World}{v:Value}{T:TypeId}{te:TE}
theorem Gq(c:o.op=.box T x):(execOp σ o).run P w=.ok (.value (.pointer (some ⟨w.heap.size,0,none⟩))) (w.alloc (.cells (σ x).cells T)):=by simp[execOp,c,Instr.box,newVar,newRow]
theorem xV(c:o.guard=none){C:Array Value}(h:(execOp a.eval o).run P w=.ok (.value (.pointer (some ⟨w.heap.size,0,none⟩))) (w.alloc (.cells C T)))
    (f:∀ w',Below w.heap.size w w'->w'.heap[w.heap.size]?=some (.cells C T (0,0))->w'.heap.size=w.heap.size+1->wpList P ops Q rest (a.put o.dst (.pointer (some ⟨w.heap.size,0,none⟩))) w'):wpList P ops Q (o::rest) a w :=
 Kz c h (f _ (fC w _) (S_ w _) (by simp))
theorem M5{E:Env}{X:Nat->Prop}{ρ:List Value}{ck:List (Nat×CT)}{sl:List (Nat×AV)}{an:An}{r:AV}(j:E.Ok)(k:Wd 0 ρ X ck w)(f:nC o.op=true)(i:o.guard=none)(h:∀ t,.tmp t∈gD o.op->∀ x,get? sl t=some x->m ρ X w x [gt a t])(l:po E sl ck [] o an=some (r,[])) :
    fD E.P a.eval o w fun z w'=>m ρ X w' r [z]/\Below w.heap.size w w':=by
 have:=tP (ops:=#[]) (ds:=[]) (a:=a) j k (fun g=>by simp[ju]) f h (fun g w' c=>by rw[i]at c; cases c) l trivial;exact this.1 (by unfold qm; rw[i]; trivial)
theorem mU.st{n:Nat}{t:Ty}{d:t.den}(h:mU n w t d v)(c:Below w.heap.size w w'):mU n w' t d v:=let ⟨f,g,i⟩:=h; ⟨f,eZ g (Ev.c8 c),i⟩
theorem mU.le{n k:Nat}{t:Ty}{d:t.den}(h:mU n w t d v)(hk:k<=n):mU k w t d v:=let ⟨c,f,g⟩:=h; ⟨c,fo f fun b i=>.inl (QI i hk),g⟩
end
structure Ca(b:Nat)(w w':World):Prop where
 ne:∀ k,k≠b->w'.heap[k]?=w.heap[k]?
 sz:w'.heap.size=w.heap.size
 io:w'.os=w.os/\w'.tape=w.tape/\w'.output=w.output
theorem Ca.below{b n:Nat}{w0 w w':World}(h:Ca b w w')(f:n<=b)(c:Below n w0 w):Below n w0 w' :=
 ⟨h.io.1.trans c.os,h.io.2.1.trans c.tape,h.io.2.2.trans c.output,by rw[h.sz]; exact c.size,fun k hk=>(h.ne k (by omega)).trans (c.block k hk)⟩
theorem Ca.ev{b:Nat}{w w':World}{X:Nat->Prop}(h:Ca b w w')(c:X b):Ev X w w':=⟨SA h.sz.symm,fun k _ f=>h.ne k fun e=>f (by rw[e]; exact c)⟩
theorem mH{P:Program}{ops:Array Oper}{o:Oper}{rest:List Oper}{x y:Operand}{Q:Exit->Act->World->Prop}{a:Act}{w:World}{T T':TypeId}{te:TE}{b off:Nat}{C:Array Value}{cs:List Value}(h:b_ P T te)(i:o.guard=none)(j:o.dst=none)(l:o.op=.store T x y)
    (m:a.eval x=.pointer (some ⟨b,off,none⟩)) (g:w.heap[b]?=some (.cells C T' (0,0))) (n:off+te.ty.size<=C.size) (p:a.eval y=te.ty.wrap cs) (q:cs.length=te.ty.size) (h1:∀ c∈cs,c.oneCell'=true)
    (r:∀ w',w'.heap[b]?=some (.cells (C.toList.take off++cs++C.toList.drop (off+te.ty.size)).toArray T' (0,0))->Ca b w w'->wpList P ops Q rest a w'):wpList P ops Q (o::rest) a w:=by
 have f:=gr (P:=P) (w:=w) h (off:=off) g q h1 n;exact oq (off:=off) (u:=te.ty.wrap cs) i j l m p f (r _ (T9 w b C _ T' (0,0) g) ⟨fun k hk=>SS w b k _ hk,S5 _ _ _,rfl,rfl,rfl⟩)
theorem iT{P:Program}{ops:Array Oper}{o:Oper}{rest:List Oper}{x y:Operand}{Q:Exit->Act->World->Prop}{a:Act}{w:World}{T T':TypeId}{te:TE}{b:Nat}{C:Array Value}{cs:List Value}(f:b_ P T te)(g:o.guard=none)(h:o.dst=none)(i:o.op=.store T x y)
    (j:a.eval x=.pointer (some ⟨b,0,none⟩)) (k:w.heap[b]?=some (.cells C T' (0,0))) (q:C.size=te.ty.size) (l:a.eval y=te.ty.wrap cs) (m:cs.length=te.ty.size) (h1:∀ c∈cs,c.oneCell'=true)
    (n:∀ w',w'.heap[b]?=some (.cells cs.toArray T' (0,0))->Ca b w w'->wpList P ops Q rest a w'):wpList P ops Q (o::rest) a w:=by
 refine mH f g h i j k (by omega) l m h1 fun w' h1 p=>n w' ?_ p;rw[h1,S7,RX,Rl (by simp; omega),Q9]
structure Up(d:Nat)(v:Value)(a a':Act):Prop where
 v:gt a' d=v
 ne:∀ t,t≠d->gt a' t=gt a t
 dn:a'.defers=a.defers
 sz:a'.tmps.size=a.tmps.size
theorem o6{a:Act}{d:Nat}{v:Value}(h:d<a.tmps.size):Up d v a (a.put (some d) v):=⟨fH h v,fun t c=>eL (fun e=>c (Rk e).symm) v,gh ..,size_put ..⟩
section
variable{P:Program}{ops:Array Oper}{o:Oper}{rest:List Oper}{x y:Operand}{σ:Operand->Value}{Q:Exit->Act->World->Prop}{a:Act}{w w':World}{v:Value}{d:Nat}{T:TypeId}
theorem eV(d:Nat)(c:o.guard=none)(f:o.dst=some d)(g:d<a.tmps.size)(h:(execOp a.eval o).run P w=.ok (.value v) w')(i:∀ a',Up d v a a'->wpList P ops Q rest a' w'):wpList P ops Q (o::rest) a w :=
 Kz c h (by rw[f]; exact i _ (o6 g))
theorem jO(d:Nat){R:Value->World->Prop}(c:o.guard=none)(f:o.dst=some d)(g:d<a.tmps.size)(h:fD P a.eval o w R)(i:∀ v w' a',R v w'->Up d v a a'->wpList P ops Q rest a' w'):wpList P ops Q (o::rest) a w :=
 FT c h fun v w' j=>by rw[f]; exact i v w' _ j (o6 g)
theorem sv(d:Nat)(c:o.guard=none)(f:o.dst=some d)(g:d<a.tmps.size){C:Array Value}(h:(execOp a.eval o).run P w=.ok (.value (.pointer (some ⟨w.heap.size,0,none⟩))) (w.alloc (.cells C T)))
    (i:∀ w' a',Below w.heap.size w w'->w'.heap[w.heap.size]?=some (.cells C T (0,0))->w'.heap.size=w.heap.size+1->Up d (.pointer (some ⟨w.heap.size,0,none⟩)) a a'->wpList P ops Q rest a' w'):wpList P ops Q (o::rest) a w :=
 xV c h fun w' j k l=>by rw[f]; exact i w' _ j k l (o6 g)
def SL(a:Act)(w:World)(sl:List (Nat×AV)):Prop:=∀ t x,get? sl t=some x->m [] (fun _=>False) w x [gt a t]
theorem SL.nil:SL a w []:=fun t x h=>by cases h
theorem SL.cons{t:Nat}{z:AV}{sl:List (Nat×AV)}(h:m [] (fun _=>False) w z [gt a t])(f:SL a w sl):SL a w ((t,z)::sl):=fun g x c=>by
 unfold get? at c;split at c
 ·rename_i e;have e:=QR e;cases c;rw[<-e];exact h
 ·exact f g x c
theorem xi{E:Env}{sl:List (Nat×AV)}{r:AV}{ps:List Prop}(j:E.Ok)(k:SL a w sl)(f:nC o.op=true)(i:o.guard=none)(l:po E sl [] [] o .no=some (r,ps))(n:eP ps) :
    fD E.P a.eval o w fun z w'=>m [] (fun _=>False) w' r [z]/\Below w.heap.size w w':=by
 have:=tP (B:=0) (ops:=#[]) (ds:=[]) (a:=a) (w:=w) (ρ:=[]) (X:=fun _=>False) (ck:=[]) j ⟨fun b h=>h.elim,fun y p=>by cases p⟩ (fun g=>by simp[ju]) f (fun t _ x q=>k t x q) (fun g w' c=>by rw[i]at c; cases c) l n;exact this.1 (by unfold qm; rw[i]; trivial)
theorem jn(d:Nat){E:Env}(sl:List (Nat×AV))(r:AV){ps:List Prop}(h:E.Ok)(i:SL a w sl)(f:o.guard=none)(j:o.dst=some d)(k:d<a.tmps.size)(c:nC o.op=true)(l:po E sl [] [] o .no=some (r,ps))(n:eP ps)
    (p:∀ z w' a',m [] (fun _=>False) w' r [z]->Below w.heap.size w w'->Up d z a a'->wpList E.P ops Q rest a' w'):wpList E.P ops Q (o::rest) a w :=
 jO d f j k (xi h i c f l n) fun z w' a' g q=>p z w' a' g.1 g.2 q
end
theorem RU.store{P:Program}{X:Nat->Prop}{w:World}{T T':TypeId}{te:TE}{v:Value}{l:List te.ty.den}{i:Nat}{x:te.ty.den}{b:Nat}{cs:List Value}(s:b_ P T te)(h:RU X w T' te.ty v l)(hi:i<l.length)(t:fa v=some b)(z:X b)(g:fg te.ty X w cs x) :
    ∃ w',(storeVar T ⟨b,i*te.ty.size,none⟩ (te.ty.wrap cs)).run P w=.ok () w'/\Ca b w w'/\RU X w' T' te.ty v (l.set i x):=by
 obtain⟨A,m,n,B⟩:=h;obtain⟨u,C,p,q,D,E,H⟩:=eN s m hi t (cs:=cs) (ft g) (fQ g);have r:Ev X w u:=⟨SA q.symm,fun k hk F=>p k fun e=>F (by rw[e]; exact z)⟩;refine⟨u,C,⟨p,q,D⟩,d_ A (i*te.ty.size) te.ty.size cs,by rw[Sb]; exact E,fun c f=>?_,Fa m.1 (fun j y G=>eZ (B j y G) r) hi (eZ g r)⟩;unfold d_ at f;rcases QZ.1 f with f|f
 ·rcases QZ.1 f with f|f
  ·exact n c (RB f)
  ·exact fQ g c f
 ·exact n c (Rh f)
theorem RU.st{X:Nat->Prop}{w w':World}{T:TypeId}{t:Ty}{v:Value}{l:List t.den}(h:RU X w T t v l)(c:Ev X w w')(f:∀ b,fa v=some b->w'.heap[b]?=w.heap[b]?):RU X w' T t v l:=by
 obtain⟨g,j,k,m⟩:=h;exact⟨g,gl j f,k,fun i x n=>eZ (m i x n) c⟩
theorem RU.jM{X:Nat->Prop}{w:World}{T:TypeId}{t:Ty}{v:Value}{l:List t.den}(h:RU X w T t v l)(i:0<l.length):∃ g cap,v=.slice (some ⟨g,0,none⟩) l.length cap/\fa v=some g:=by
 obtain⟨j,c,_⟩:=h;rcases c.2 with⟨_,e⟩|⟨g,cap,f,e,_⟩
 ·omega
 ·exact⟨g,cap,e,by rw[e]; rfl⟩
theorem pT{id:Nat}{K:Exit->Act->World->Prop}{a:Act}{w:World}(h:K .normal a w):Exit.inBlock id K (.exit id) a w:=by
 unfold Exit.inBlock;dsimp only;rw[QJ rfl];exact h
theorem ia{id:Nat}{N:Act->World->Prop}{K:Exit->Act->World->Prop}{a:Act}{w:World}(h:K (.exit id) a w):Exit.then N K (.exit id) a w:=h
theorem Ev.imp{X Y:Nat->Prop}{w1 w2:World}(h:Ev X w1 w2)(hi:∀ b,X b->Y b):Ev Y w1 w2:=⟨h.size,fun k hk c=>h.block k hk fun e=>c (hi k e)⟩
theorem Ev.trans{X:Nat->Prop}{w1 w2 c:World}(h:Ev X w1 w2)(h2:Ev X w2 c):Ev X w1 c:=⟨QL h.size h2.size,fun k hk f=>(h2.block k (QI hk h.size) f).trans (h.block k hk f)⟩
theorem EI{P:Program}{o:Oper}{x:Operand}{σ:Operand->Value}{w:World}{T e:TypeId}{te:TE}{cs:List Value}(n:b_ P e te)(p:te.ty.isAgg=true)(q:0<te.ty.size)(r:te.ty.size<=1000)(t:o.op=.buildSlice T 1 #[(0,x)])(u:P.underlying T=some (.slice e))(z:σ x=te.ty.wrap cs)(l:cs.length=te.ty.size)(h1:∀ c∈cs,c.oneCell'=true) :
    (execOp σ o).run P w=.ok (.value (.slice (some ⟨w.heap.size,0,none⟩) 1 1)) (w.alloc (.cells cs.toArray e)):=by
 obtain⟨g,j,A,f,B⟩:=n.info;have m:(te.ty.wrap cs).cells=cs.toArray:=fu l h1;have k:Instr.fill (fun i=>some (i*g.size,g.size)) ((Array.range (1*g.size)).map ((te.ty.wrap (zc te.ty)).cells[· % (te.ty.wrap (zc te.ty)).cells.size]!)) (#[(0,σ x)]:Array (Nat×Value)).toList=some cs.toArray:=by
  have h:=Great.fill_whole (s:=te.ty.size) q [te.ty.wrap cs] ((Array.range (1*g.size)).map ((te.ty.wrap (zc te.ty)).cells[· % (te.ty.wrap (zc te.ty)).cells.size]!)) (fun v C=>by rw[RH.1 C,m]; simpa using l) (by simp[f]);rw[f]at h ⊢;rw[z];refine h.trans ?_;simp[m]
 have D:=UF (P:=P) w T e 1 #[(0,σ x)] cs.toArray g _ u j A (by rw[f]; omega) (by rw[f]; omega) k;simp[execOp,t,D,Result.andThen]
theorem Oa{t:Ty}{X:Nat->Prop}{w:World}{l:List t.den}{xs:List Value}(h:∀(i:Nat) x,l[i]?=some x->fg t X w ((xs.drop (i*t.size)).take t.size) x)(k:Nat):∀(i:Nat) x,(l.take k)[i]?=some x->fg t X w (((xs.take (k*t.size)).drop (i*t.size)).take t.size) x:=by
 intro i x c;rw[Q1]at c;split at c
 ·rename_i f;have g:i*t.size+t.size<=k*t.size:=by rw[<-RI]; exact Q_ _ f
  rw[Sw,Sk,Rv (by omega)];exact h i x c
 ·cases c
theorem N6{t:Ty}{X:Nat->Prop}{w:World}{l:List t.den}{xs:List Value}(h:∀(i:Nat) x,l[i]?=some x->fg t X w ((xs.drop (i*t.size)).take t.size) x)(k:Nat):∀(i:Nat) x,(l.drop k)[i]?=some x->fg t X w (((xs.drop (k*t.size)).drop (i*t.size)).take t.size) x:=by
 intro i x c;rw[Rg]at c;rw[RT,<-T4];exact h _ x c
theorem jW{P:Program}{l:List Oper}{Q:Exit->Act->World->Prop}{a0:Act}{w0:World}{N id:Nat}(E:P.follows .mixedOrders=true)(R:Nat->Value->World->Prop)(M:List Nat)(c:List (List (Nat×Option Nat)))(f:Nat)(s:a0.tmps.size=N)(p:ES l M c N=true)(g:mP l M f=true)
    (z:∀ i v u m,i<f->R i v u->Below u.heap.size u m->R i v m)
    (A:∀ j o,j<f->l[j]?=some o->o.guard=none/\∀(val:Nat->Value) (a:Act) (u:World),Below w0.heap.size w0 u->(∀ i,i<f->(M.getD j 0).testBit i=true->R i (val i) u)->(∀ r∈c.getD j [],gt a r.1=match r.2 with|some i=>val i|none=>gt a0 r.1)->fD P a.eval o u fun v m=>Below u.heap.size u m/\R j v m)
    (F:∀(val:Nat->Value) (u:World) (a:Act),Below w0.heap.size w0 u->(∀ i,i<f->R i (val i) u)->(∀ t,t<N->gt a t=match lw (l.map (·.dst)) (fun _=>true) t f with|some i=>val i|none=>gt a0 t)->a.defers=a0.defers->a.tmps.size=N->wpList P l.toArray Q (l.drop f) a u) :
    (Code.region id l.toArray true).wp P Q a0 w0:=by
 have B:f<=l.length:=by
  unfold mP at g;simp only[QK,Qy]at g;exact g.1.1
 refine pN E (fun L val u=>Below w0.heap.size w0 u/\∀ i,i<f->L i=true->R i (val i) u) M c f s p g ⟨⟨rfl,rfl,rfl,Qu _,fun _ _=>rfl⟩,fun i _ h=>by cases h⟩ (fun j o G C L val a u k V n H=>?_) fun val u k=>F val u _ k.1 (fun i hi=>k.2 i hi (by simpa using hi)) (fun t I=>lq a0 val l t (by rw[s]; exact I) f B) (im _ _ _ _) ((h_ _ _ _ _).trans s);obtain⟨J,K⟩:=A j o G C;refine⟨fun _=>fD.imp (K val a u k.1 (fun i hi O=>k.2 i hi (n i O)) H) fun v m ⟨D,S⟩=>⟨k.1.trans (D.mono k.1.size),fun i hi q=>?_⟩,fun U=>absurd (by unfold qm; rw[J]; trivial) U⟩;by_cases e:i=j
 ·subst e;simp only[gf,QJ rfl];exact S
 ·simp only[gf,QC e];simp only[up,QC e]at q;exact z i _ u m hi (k.2 i hi q) D
@[go_sem] def ab7:iP:=⟨[.d (.slice eK)],fun d=>⟨[(0,.row 55 eK d.1)],1,.own 0,[List.length d.1<=1000]⟩⟩
theorem MU:gK Tryz.prog 68 ab7:=by
 refine nD c_ ab7 Tryz.func68 rfl (by decide) (N:=8) rfl (res:=[.tmp 2]) rfl (by decide) [] [] [] 100 (by kernel_rfl) ?_;rintro⟨l,_⟩ b a H c;dsimp only[go_sem]at b a ⊢;obtain⟨a,-⟩:=a;change List.length l<=1000 at a;refine⟨fun h=>?_,?_,?_⟩
 ·and_intros<;>first|trivial|rfl|omega|exact h.symm
 ·change (0+List.length l)*32<=_;omega
 ·and_intros<;>first|trivial|rfl|omega
@[go_sem] def abb:iP:=⟨[.d (.slice fe)],fun d=>⟨[(0,.row 75 fe d.1)],1,.own 0,[List.length d.1<=1000]⟩⟩
theorem LD:gK Tryz.prog 65 abb:=by
 refine nD c_ abb Tryz.func65 rfl (by decide) (N:=8) rfl (res:=[.tmp 2]) rfl (by decide) [] [] [] 100 (by kernel_rfl) ?_;rintro⟨l,_⟩ b a H c;dsimp only[go_sem]at b a ⊢;obtain⟨a,-⟩:=a;change List.length l<=1000 at a;refine⟨fun h=>?_,?_,?_⟩
 ·and_intros<;>first|trivial|rfl|omega|exact h.symm
 ·change (0+List.length l)*32<=_;omega
 ·and_intros<;>first|trivial|rfl|omega
def Jc:Ty->Bool
 | .slice _=>false
 | .pair t u=>Jc t&&Jc u
 | .one t=>Jc t
 | _=>true
theorem iy:∀{t:Ty}{X Y:Nat->Prop}{w w':World}{cs:List Value}{a:t.den},Jc t=true->rep t X w cs a->fg t Y w' cs a
 | .bool,_,_,_,_,_,_,_,h=>h
 | .int _,_,_,_,_,_,_,_,h=>h
 | .str,_,_,_,_,_,_,_,h=>h
 | .slice _,_,_,_,_,_,_,b,_=>by cases b
 | .pair t u,_,_,_,_,_,_,b,h=>by
  have b:(Jc t&&Jc u)=true:=b;rw[QK]at b;exact⟨iy b.1 h.1,iy b.2 h.2⟩
 | .one t,_,_,_,_,_,_,b,h=>iy (t:=t) b h
 | .fn,_,_,_,_,_,_,_,h=>h
theorem Cn{t:Ty}{T:TypeId}{l:List t.den}{f:FuncId}{v:Value}{w:World}(ht:Jc t=true)(h:m [] (fun _=>False) w (.a_ (.slice t) l) [v])
    (o:∀ ρ0 X w vs,(∀ b,X b->b<w.heap.size)->Fr w X ρ0 0 ⟨[],[],0⟩ ρ0 gu w->m ρ0 (XX X ρ0 []) w (.cons (.a_ (.slice t) l) .nil) vs->Calls Tryz.prog f vs.toArray w (fun e w'=>∃ v ρ',e=.returned v/\Fr w X ρ0 0 ⟨[],[(0,.row T t l)],1⟩ ρ' gu w'/\m ρ' (XX X ρ' [(0,.row T t l)]) w' (.own 0) [v])) :
    Calls Tryz.prog f #[v] w (fun e w'=>∃ z,e=.returned z/\fg (.slice t) (fun b=>b<w.heap.size) w' [z] l/\Below w.heap.size w w'):=by
 refine TB (o [] (fun _=>False) w [v] (fun b h=>h.elim) (Js rfl rfl fun t x g=>by cases g) ⟨v,[],rfl,fN (fun b c=>by
  rcases c with c|⟨y,p,_⟩
  ·exact .inl c
  ·cases p) h,rfl⟩) ?_
 rintro e w' ⟨z,ρ',rfl,a,q⟩;refine⟨z,rfl,?_,a.kp.na⟩;obtain⟨vz,r,d,s,u,A⟩:=a.cs (0,.row T t l) Qx;obtain⟨B,n,_,j⟩:=q;have d:ρ'[0]?=some vz:=d;rw[d]at n;cases n;have j:=(QB j).1;subst j;refine RU.a_ (T:=T) (X:=fun b=>b<w.heap.size) ⟨r,s,u,fun i x g=>iy ht (A i x g)⟩ (fun b h=>h) fun b c h=>?_;rcases(a.bl (0,.row T t l) Qx b (fh d c)).2 with k|k
 ·exact absurd h (Vp.2 k)
 ·exact mc k
theorem ML{l:List eK.den}(a:l.length<=1000){v:Value}{w:World}(h:m [] (fun _=>False) w (.a_ (.slice eK) l) [v]) :
    Calls Tryz.prog 68 #[v] w (fun e w'=>∃ z,e=.returned z/\fg (.slice eK) (fun b=>b<w.heap.size) w' [z] l/\Below w.heap.size w w') :=
 Cn (by rfl) h (MU (l,()) ⟨a,trivial⟩).2
theorem MH{l:List fe.den}(a:l.length<=1000){v:Value}{w:World}(h:m [] (fun _=>False) w (.a_ (.slice fe) l) [v]) :
    Calls Tryz.prog 65 #[v] w (fun e w'=>∃ z,e=.returned z/\fg (.slice fe) (fun b=>b<w.heap.size) w' [z] l/\Below w.heap.size w w') :=
 Cn (by rfl) h (LD (l,()) ⟨a,trivial⟩).2
theorem qW{X:Nat->Prop}{w:World}{cs:List Value}{t:b8.den}(h:rep b8 X w cs t):∃ a b c d,cs=[a,b,c,d]:=by
 have h:cs.length=4:=eR h
 match cs,h with
 | [a,b,c,d],_=>exact⟨a,b,c,d,rfl⟩
def ctR(n a:Nat)(c d e f:Value)(t:b8.den):Nat->Value->World->Prop
 | 0,v,_=>v=.pointer (some ⟨a,0,none⟩)
 | 1,v,_=>v=c
 | 2,v,u=>fg (.slice eK) (fun b=>b<n) u [v] t.1
 | 3,v,_=>v=.pointer (some ⟨a,1,none⟩)
 | 4,v,_=>v=fT.wrap [d,e,f]
 | 5,v,u=>mU n u fT (qf (fq t.2)) v
 | 6,v,u=>mU n u b8 (t.1,qf (fq t.2)) v
 | _,_,_=>True
theorem PH{n c:Nat}{d e f g:Value}{t:b8.den}:∀ i v (u a:World),i<7->ctR n c d e f g t i v u->Below u.heap.size u a->ctR n c d e f g t i v a:=by
 intro i v u a hi h b
 match i,h with
 | 0,h=>exact h
 | 1,h=>exact h
 | 2,h=>exact eZ (t:=.slice eK) h (Ev.c8 b)
 | 3,h=>exact h
 | 4,h=>exact h
 | 5,h=>exact mU.st h b
 | 6,h=>exact mU.st h b
 | i+7,_=>omega
theorem Bg{X:Nat->Prop}{w:World}{cs:List Value}{t:fT.den}(h:rep fT X w cs t):∃ a b c,cs=[a,b,c]:=by
 have h:cs.length=3:=eR h
 match cs,h with
 | [a,b,c],_=>exact⟨a,b,c,rfl⟩
theorem Hh{t:b8.den}(hl:t.1.length<=1000)(hf:fs t.2<=100000){v:Value}{w:World}(h:m [] (fun _=>False) w (.a_ b8 t) [v]) :
    Calls Tryz.prog 33 #[v] w (fun e w'=>∃ z,e=.returned z/\mU w.heap.size w' b8 (t.1,qf (fq t.2)) z/\Below w.heap.size w w'):=by
 obtain⟨cs,h1,M⟩:=h;have M:=(QB M).1;have S:=gz h1;obtain⟨G,H,I,J,rfl⟩:=qW h1;have T:b_ Tryz.prog 37 ⟨b8,0,80,2⟩:=c_.fact (E:=E3) rfl;have hV:b_ Tryz.prog 31 ⟨.slice eK,55,24,0⟩:=c_.fact (E:=E3) rfl;have hF:b_ Tryz.prog 35 ⟨fT,0,56,3⟩:=c_.fact (E:=E3) rfl;refine UA Tryz.func33 rfl ?_;generalize hQ:bodyPost _ _ _=Q;obtain⟨a0,A⟩:∃ a0:Act,({ tmps:=#[v]++Array.replicate ((Tryz.f33).ntmps-#[v].size) undef,defers:=[] }:Act)=a0:=⟨_,rfl⟩;have k0:gt a0 0=v:=by rw[<-A]; exact jL (vs:=[v]) rfl
 have kd:a0.defers=[]:=by rw[<-A]
 have ks:a0.tmps.size=10:=by
  rw[<-A];have:(Tryz.f33).ntmps=10:=rfl;simp only[Tl,RQ,S2,this,Rr,Tn]
 rw[A];clear A;refine SM (Re ?_);have ab:(a0.eval (.tmp 0)).cells=#[G,H,I,J]:=by
  show(gt a0 0).cells=_;rw[k0,M];exact fu (t:=b8) rfl S
 refine xV rfl (Gq rfl) fun w1 q1 C s1=>?_;rw[ab]at C;refine xV rfl (lJ T rfl) fun O q2 F s2=>RM ?_;obtain⟨B,U⟩:∃ b,w.heap.size=b:=⟨_,rfl⟩;obtain⟨V,ac⟩:∃ b,w1.heap.size=b:=⟨_,rfl⟩;obtain⟨n,hn⟩:∃ n,O.heap.size=n:=⟨_,rfl⟩;rw[U]at q1 C s1 ⊢;rw[ac]at q2 F s2 ⊢;have ad:Below B w O:=q1.trans (q2.mono (by omega));have C:O.heap[B]?=some (.cells #[G,H,I,J] 37 (0,0)):=(q2.block B (by omega)).trans C;obtain⟨a2,p⟩:∃ a2,(a0.put (some 1) (.pointer (some ⟨B,0,none⟩))).put (some 2) (.pointer (some ⟨V,0,none⟩))=a2:=⟨_,rfl⟩;have e1:gt a2 1=.pointer (some ⟨B,0,none⟩):=by rw[<-p,eL (by decide)]; exact fH (by rw[ks]; decide) _
 have e2:gt a2 2=.pointer (some ⟨V,0,none⟩):=by rw[<-p]; exact fH (by rw[size_put,ks]; decide) _
 have d2:a2.defers=[]:=by rw[<-p,gh,gh]; exact kd
 have z2:a2.tmps.size=10:=by rw[<-p,size_put,size_put]; exact ks
 change Code.wp _ _ _ ((a0.put (some 1) (.pointer (some ⟨B,0,none⟩))).put (some 2) (.pointer (some ⟨V,0,none⟩))) O;rw[p];clear p;have K:∀{u:World},Below O.heap.size O u->Below w.heap.size w u:=fun c=>by
  rw[U];exact ad.trans (c.mono (by omega))
 refine SM ?_;refine jW (l:=[_,_,_,_,_,_,_,_]) (N:=10) c_.mx (ctR n B G H I J t) [0,1,3,0,8,31,63,127] [[(1,none)],[(3,some 0)],[(4,some 1)],[(1,none)],[(6,some 3)],[(7,some 4)],[(5,some 2),(8,some 5)],[(2,none),(9,some 6)]] 7 z2 (by kernel_rfl) (by kernel_rfl) PH ?_ ?_
 ·intro j o hj d
  match j,hj with
  | 0,_ =>
   cases d
   refine⟨rfl,fun val a u c g i=>?_⟩
   have s:gt a 1=gt a2 1:=i (1,none) (by simp)
   exact fc (fm (x:=.tmp 1) T rfl rfl (show 0<2 by decide) (s.trans e1)) ⟨QG _ _,rfl⟩
  | 1,_ =>
   cases d
   refine⟨rfl,fun val a u c g i=>?_⟩
   have s:gt a 3=val 0:=i (3,some 0) (by simp)
   have L:val 0=.pointer (some ⟨B,0,none⟩):=g 0 (by decide) (by decide)
   exact fc (fv (x:=.tmp 3) hV rfl (s.trans L) ((c.block B (b9 C)).trans C) (cs:=[G]) rfl rfl rfl) ⟨QG _ _,rfl⟩
  | 2,_ =>
   cases d
   refine⟨rfl,fun val a u c g i=>?_⟩
   have s:gt a 4=val 1:=i (4,some 1) (by simp)
   have L:val 1=G:=g 1 (by decide) (by decide)
   have hu:n<=u.heap.size:=by rw[<-hn]; exact c.size
   refine gL (vs:=[G]) (e_ Tryz.func68 rfl rfl) (by rw[Sd]; exact Sr (fun z=>#[z]) (s.trans L)) ?_
   refine TB (ML hl ⟨[G],fx h1.1 (Ev.c8 (K c)),rfl⟩) ?_
   rintro e W ⟨z,rfl,R,g3⟩
   exact⟨z,rfl,g3,fo (t:=.slice eK) R fun b c=>.inl (QI c hu)⟩
  | 3,_ =>
   cases d
   refine⟨rfl,fun val a u c g i=>?_⟩
   have s:gt a 1=gt a2 1:=i (1,none) (by simp)
   exact fc (fm (x:=.tmp 1) T rfl rfl (show 1<2 by decide) (s.trans e1)) ⟨QG _ _,rfl⟩
  | 4,_ =>
   cases d
   refine⟨rfl,fun val a u c g i=>?_⟩
   have s:gt a 6=val 3:=i (6,some 3) (by simp)
   have L:val 3=.pointer (some ⟨B,1,none⟩):=g 3 (by decide) (by decide)
   exact fc (fv (x:=.tmp 6) hF rfl (s.trans L) ((c.block B (b9 C)).trans C) (cs:=[H,I,J]) rfl rfl rfl) ⟨QG _ _,rfl⟩
  | 5,_ =>
   cases d
   refine⟨rfl,fun val a u c g i=>?_⟩
   have s:gt a 7=val 4:=i (7,some 4) (by simp)
   have L:val 4=fT.wrap [H,I,J]:=g 4 (by decide) (by decide)
   have hu:n<=u.heap.size:=by rw[<-hn]; exact c.size
   refine gL (vs:=[fT.wrap [H,I,J]]) (e_ Tryz.func45 rfl rfl) (by rw[Sd]; exact Sr (fun z=>#[z]) (s.trans L)) ?_
   refine TB (zF (f:=t.2) ⟨[H,I,J],fx h1.2 (Ev.c8 (K c)),rfl⟩ (by omega)) ?_
   rintro e W ⟨z,rfl,R,g3⟩
   exact⟨z,rfl,g3,R.le hu⟩
  | 6,_ =>
   cases d
   refine⟨rfl,fun val a u c g i=>?_⟩
   have g5:gt a 5=val 2:=i (5,some 2) (by simp)
   have g8:gt a 8=val 5:=i (8,some 5) (by simp)
   have M:fg (.slice eK) (fun b=>b<n) u [val 2] t.1:=g 2 (by decide) (by decide)
   have h5:mU n u fT (qf (fq t.2)) (val 5):=g 5 (by decide) (by decide)
   obtain⟨af,D,Y⟩:=h5
   have o2:=fQ M _ Qx
   have o5:=fQ D
   obtain⟨y1,y2,y3,rfl⟩:=Bg D.rep
   refine fD.imp (M5 (ρ:=[val 2,y1,y2,y3]) (X:=fun _=>False) (ck:=[]) (sl:=[(5,.own 0),(8,.agg (.cons (.own 1) (.cons (.own 2) (.cons (.own 3) .nil))))]) (an:=.ag) (r:=.agg (.cons (.own 0) (.cons (.own 1) (.cons (.own 2) (.cons (.own 3) .nil))))) c_ ⟨fun b h=>h.elim,fun y hy=>by cases hy⟩ rfl rfl (fun q hq x Z=>?_) rfl) fun z W ⟨C,F⟩=>⟨F,?_⟩
   ·have hq:q=5∨q=8:=by simpa [gD,lv]using hq
    rcases hq with rfl|rfl
    ·simp only[get?,S6]at Z;cases Z;exact⟨_,rfl,o2,by rw[g5]⟩
    ·have Z:some (AV.agg (.cons (.own 1) (.cons (.own 2) (.cons (.own 3) .nil))))=some x:=Z;cases Z;rw[g8,Y];exact⟨[y1,y2,y3],rfl,⟨y1,_,rfl,⟨y1,rfl,o5 _ (by simp),rfl⟩,y2,_,rfl,⟨y2,rfl,o5 _ (by simp),rfl⟩,y3,_,rfl,⟨y3,rfl,o5 _ (by simp),rfl⟩,rfl⟩,o5⟩
   ·obtain⟨us,n1,⟨x0,ah,n2,⟨_,m0,_,l0⟩,x1,ai,n3,⟨_,m1,_,l1⟩,x2,aj,n4,⟨_,m2,_,l2⟩,x3,ae,n5,⟨_,m3,_,l3⟩,n6⟩,_⟩:=C;have n6:ae=[]:=n6;subst n6;cases m0; cases m1; cases m2; cases m3;have l0:=(QB l0).1;have l1:=(QB l1).1;have l2:=(QB l2).1;have l3:=(QB l3).1;subst l0 l1 l2 l3 n5 n4 n3 n2;exact⟨_,⟨eZ (t:=.slice eK) M (Ev.c8 F),eZ D (Ev.c8 F)⟩,(QB n1).1⟩
  | j+7,hj=>omega
 ·intro val u a c g hp hd hs;obtain⟨cz,D,Y⟩:mU n u b8 (t.1,qf (fq t.2)) (val 6):=g 6 (by decide);have x2:gt a 2=gt a2 2:=hp 2 (by decide);have x9:gt a 9=val 6:=hp 9 (by decide);have hc:=(c.block V (b9 F)).trans F;refine iT T rfl rfl rfl (x2.trans e2) hc rfl (x9.trans Y) (ft D) (fQ D) fun W s R=>RM (W2 ?_);have aa:V<n:=by rw[<-hn]; exact b9 F
  have hB:Below w.heap.size w W:=R.below (by omega) (K c);have hz:mU w.heap.size W b8 (t.1,qf (fq t.2)) (val 6):=⟨cz,fo (eZ D (R.ev (X:=fun b=>b<n) aa)) fun k hk=>.inl (show k<n by have hk:k<w.heap.size:=hk; omega),Y⟩;rw[<-hQ];refine⟨hd.trans d2,val 6,vY (fn:=Tryz.f33) rfl (x2.trans e2) ?_,val 6,rfl,hz,hB⟩;have:=fR (P:=Tryz.prog) T (off:=0) s (cs:=cz) (by rw[RP]; exact QQ (SA (ft D))) (ft D);rw[Y];exact this
structure NR(n:Nat)(w:World)(nm ct cv tv:Value)(S:jt.den)(L:List b8.den):Prop where
 sc:fg jt (fun b=>b<n∨fa tv=some b) w [nm,ct,cv] S
 tu:RU (fun b=>b<n∨fa tv=some b) w 37 b8 tv L
 nb:∀ b,fa tv=some b->n<=b
theorem jj{ρ:List Value}{X:Nat->Prop}{w:World}{t:Ty}{d:t.den}{v:Value}(h1:t.size=1)(h2:t.isAgg=false)(h:m ρ X w (.a_ t d) [v]):rep t X w [v] d:=by
 obtain⟨f,b,a⟩:=h;have e:=eR b;rw[h1]at e;obtain⟨c,rfl⟩:=WM.1 e;have a:=(QB a).1;have:t.wrap [c]=c:=by unfold Ty.wrap; rw[h2]; rfl
 rw[this]at a;rw[a];exact b
theorem wT{ρ:List Value}{X:Nat->Prop}{w:World}{a:pc}{b:Bool}{c:List fe.den}{z:AV}{cs:List Value}(h:m ρ X w (.cons (.a_ .str a) (.cons (.a_ .bool b) (.cons (.a_ (.slice fe) c) (.cons z .nil)))) cs) :
    ∃ d e f g,cs=[d,e,f,g]/\rep .str X w [d] a/\rep .bool X w [e] b/\rep (.slice fe) X w [f] c/\m ρ X w z [g]:=by
 obtain⟨d,p,rfl,j,e,q,rfl,k,f,r,rfl,l,g,n,rfl,o,i⟩:=h;have i:n=[]:=i;subst i;exact⟨d,e,f,g,rfl,jj rfl rfl j,jj rfl rfl k,jj rfl rfl l,o⟩
structure CJ(w3:World)(b2 b4:Nat)(c3 tv:Value)(len k:Nat)(a:Act)(u:World):Prop where
 hk:k<=len
 s2:gt a 2=.pointer (some ⟨b2,0,none⟩)
 s3:gt a 3=.pointer (some ⟨b4,0,none⟩)
 s20:gt a 20=c3
 s21:gt a 21=.int .i64 (len:Int)
 s22:gt a 22=.int .i64 (k:Int)
 dn:a.defers=[]
 sz:a.tmps.size=35
 ev:Ev (fun b=>fa tv=some b) w3 u
 io:u.os=w3.os/\u.tape=w3.tape/\u.output=w3.output
 tu:∃ L,L.length=len/\RU (fun b=>b<w3.heap.size) u 37 b8 tv L
def cnR(n k b4:Nat)(a:Value)(cs:List Value)(t:b8.den):Nat->Value->World->Prop
 | 0,v,_=>v=.pointer (some ⟨b4,3,none⟩)
 | 1,v,_=>v=a
 | 2,v,_=>v=.int .i64 (k:Int)
 | 3,v,_=>v=b8.wrap cs
 | 4,v,u=>mU n u b8 t v
 | _,_,_=>True
theorem PV{n k b4:Nat}{b:Value}{cs:List Value}{t:b8.den}:∀ i v (u a:World),i<5->cnR n k b4 b cs t i v u->Below u.heap.size u a->cnR n k b4 b cs t i v a:=by
 intro i v u a hi h c
 match i,h with
 | 0,h=>exact h
 | 1,h=>exact h
 | 2,h=>exact h
 | 3,h=>exact h
 | 4,h=>exact mU.st h c
 | i+5,_=>omega
@[go_sem] noncomputable def OU:Sx:=⟨ERA,35,[(1,[(1000000,.mx [(0,1000000),(1,3000000),(2000000,7)])])],[],[2],[],.nil,1,some ([],0)⟩
theorem MW{r:c7.den}(M:gZ r){v:Value}{w:World}(h:m [] (fun _=>False) w (.a_ c7 r) [v]) :
    Calls Tryz.prog 31 #[v] w (fun e w'=>∃ z nm ct cv p S L,e=.returned z/\z=c7.wrap [nm,ct,cv,p]/\NR w.heap.size w' nm ct cv p S L/\L.length=r.2.length/\Below w.heap.size w w'):=by
 obtain⟨Q,hQ⟩:∃ Q,bodyPost Tryz.prog Tryz.f31 (fun e w'=>∃ z nm ct cv p S L,e=.returned z/\z=c7.wrap [nm,ct,cv,p]/\NR w.heap.size w' nm ct cv p S L/\L.length=r.2.length/\Below w.heap.size w w')=Q:=⟨_,rfl⟩;obtain⟨aS,ah⟩:∃ c,(Tryz.f31).body=some c:=⟨_,rfl⟩;refine UA Tryz.func31 ah ?_;rw[hQ];have aT:∀{u:World}{X:Nat->Prop},∀ st I a' w',ku OU st->Fr u X [.slice none 0 0] OU.N st I a' w'->Q .ret a' w'/\Q .normal a' w':=by
  intro u X st I a' w' ay R;exfalso;unfold ku at ay;split at ay
  ·obtain⟨_,⟨⟨h6,_⟩,_⟩⟩:=ay;exact absurd h6 (show ¬(1<=0) by decide)
  ·exact ay
 obtain⟨s,l⟩:=r;change List fy at l;obtain⟨bn,bo,bp⟩:=id M;change l.length<=400 at bo;have key:∀ I a' w',Fr w (fun _=>False) [.slice none 0 0] 35 ⟨[(0,.a_ c7 (s,l))],[],1⟩ I a' w'->me ERA.P Q [.code aS] .normal a' w':=by
  cases ah;refine qn (S:=OU) rfl my (fun b h=>h.elim) aT (fun H hH aF=>?_) (by kernel_rfl);refine hH.run 100 _ _ ?_;dsimp only[go_sem];refine⟨⟨Sy _,Ui _,?_⟩,?_⟩
  ·show(80:Int)*(l.length:Int)<=140737488355328;omega
  refine hH.mR ⟨[(3,.ref 4 0),(2,.ref 2 0),(1,.ref 1 0)],[(1,.box 28 (.cons (.a_ .str s.1) (.cons (.a_ .bool s.2.1) (.cons (.a_ (.slice fe) s.2.2) (.cons (.a_ (.slice b8) l) .nil))))),(2,.box 28 (zA c7 .nil)),(3,.row 37 b8 (List.replicate l.length tz)),(4,.box 28 (.cons (.a_ .str s.1) (.cons (.a_ .bool s.2.1) (.cons (.a_ (.slice fe) s.2.2) (.cons (.own 3) .nil)))))],5⟩ 5 ?_ ?_
  ·dsimp only[go_sem];and_intros<;>first|trivial|rfl|omega
  refine aF _ _ ?_;intro bq I a1 w1 R;clear hH aF bq;obtain⟨-,b1,C1,p1,q1,r1,-⟩:=R.cs (1,.box 28 (.cons (.a_ .str s.1) (.cons (.a_ .bool s.2.1) (.cons (.a_ (.slice fe) s.2.2) (.cons (.a_ (.slice b8) l) .nil))))) (by simp);obtain⟨-,O,C2,p2,q2,r2,-⟩:=R.cs (2,.box 28 (zA c7 .nil)) (by simp);obtain⟨ab,xs,p3,r3⟩:=R.cs (3,.row 37 b8 (List.replicate l.length tz)) (by simp);obtain⟨-,q,C4,p4,q4,r4,o4⟩:=R.cs (4,.box 28 (.cons (.a_ .str s.1) (.cons (.a_ .bool s.2.1) (.cons (.a_ (.slice fe) s.2.2) (.cons (.own 3) .nil))))) (by simp);have p1:I[1]?=some (.pointer (some ⟨b1,0,none⟩)):=p1;have p2:I[2]?=some (.pointer (some ⟨O,0,none⟩)):=p2;have p3:I[3]?=some ab:=p3;have p4:I[4]?=some (.pointer (some ⟨q,0,none⟩)):=p4;have i1:fk I 1 b1:=fh p1 rfl;have i2:fk I 2 O:=fh p2 rfl;have i3:∀ b,fa ab=some b->fk I 3 b:=fun b f=>fh p3 f;have i4:fk I 4 q:=fh p4 rfl;have ai:∀ c x,(c,x)∈[(1,CT.box 28 (.cons (.a_ .str s.1) (.cons (.a_ .bool s.2.1) (.cons (.a_ (.slice fe) s.2.2) (.cons (.a_ (.slice b8) l) .nil))))),(2,.box 28 (zA c7 .nil)),(3,.row 37 b8 (List.replicate l.length tz)),(4,.box 28 (.cons (.a_ .str s.1) (.cons (.a_ .bool s.2.1) (.cons (.a_ (.slice fe) s.2.2) (.cons (.own 3) .nil)))))]->∀ b,fk I c b->w.heap.size<=b:=fun c x hx b f=>(R.bl (c,x) hx b f).2.resolve_right od;have g1:=ai 1 _ Qx b1 i1;have g2:=ai 2 _ (Qs _ Qx) O i2;have g3:∀ b,fa ab=some b->w.heap.size<=b:=fun b f=>ai 3 _ (Qs _ (Qs _ Qx)) b (i3 b f);have g4:=ai 4 _ (Qs _ (Qs _ (Qs _ Qx))) q i4;have U:∀ c x d y,(c,x)∈[(1,CT.box 28 (.cons (.a_ .str s.1) (.cons (.a_ .bool s.2.1) (.cons (.a_ (.slice fe) s.2.2) (.cons (.a_ (.slice b8) l) .nil))))),(2,.box 28 (zA c7 .nil)),(3,.row 37 b8 (List.replicate l.length tz)),(4,.box 28 (.cons (.a_ .str s.1) (.cons (.a_ .bool s.2.1) (.cons (.a_ (.slice fe) s.2.2) (.cons (.own 3) .nil)))))]->(d,y)∈[(1,CT.box 28 (.cons (.a_ .str s.1) (.cons (.a_ .bool s.2.1) (.cons (.a_ (.slice fe) s.2.2) (.cons (.a_ (.slice b8) l) .nil))))),(2,.box 28 (zA c7 .nil)),(3,.row 37 b8 (List.replicate l.length tz)),(4,.box 28 (.cons (.a_ .str s.1) (.cons (.a_ .bool s.2.1) (.cons (.a_ (.slice fe) s.2.2) (.cons (.own 3) .nil)))))]->c≠d->∀ b,fk I c b->¬fk I d b:=fun c x d y hx hy bs b=>R.dj (c,x) hx (d,y) hy bs b;have bU:b1≠O:=fun e=>U 1 _ 2 _ Qx (Qs _ Qx) (by decide) b1 i1 (by rw[e]; exact i2);have bt:b1≠q:=fun e=>U 1 _ 4 _ Qx (Qs _ (Qs _ (Qs _ Qx))) (by decide) b1 i1 (by rw[e]; exact i4);have bu:O≠q:=fun e=>U 2 _ 4 _ (Qs _ Qx) (Qs _ (Qs _ (Qs _ Qx))) (by decide) O i2 (by rw[e]; exact i4);have bV:fa ab≠some b1:=fun e=>U 1 _ 3 _ Qx (Qs _ (Qs _ Qx)) (by decide) b1 i1 (i3 _ e);have aU:fa ab≠some O:=fun e=>U 2 _ 3 _ (Qs _ Qx) (Qs _ (Qs _ Qx)) (by decide) O i2 (i3 _ e);have aV:fa ab≠some q:=fun e=>U 4 _ 3 _ (Qs _ (Qs _ (Qs _ Qx))) (Qs _ (Qs _ Qx)) (by decide) q i4 (i3 _ e);obtain⟨c0,c1,c2,c3,e1,t0,t1,t2,t3⟩:=wT r1;have t3:=jj rfl rfl t3;obtain⟨y0,y1,y2,p,e4,u0,u1,u2,u3⟩:=wT r4;obtain⟨bW,u4,u5,u6⟩:=u3;rw[p3]at u4;have u4:=Rk u4;subst u4;have u6:=(QB u6).1;subst u6;have s1:gt a1 1=.pointer (some ⟨b1,0,none⟩):=by
   obtain⟨v,b,z1,z2,z3⟩:=R.sl 1 (.ref 1 0) rfl;rw[p1]at z1;cases z1;cases z2;exact(QB z3).1
  have s2:gt a1 2=.pointer (some ⟨O,0,none⟩):=by
   obtain⟨v,b,z1,z2,z3⟩:=R.sl 2 (.ref 2 0) rfl;rw[p2]at z1;cases z1;cases z2;exact(QB z3).1
  have s3:gt a1 3=.pointer (some ⟨q,0,none⟩):=by
   obtain⟨v,b,z1,z2,z3⟩:=R.sl 3 (.ref 4 0) rfl;rw[p4]at z1;cases z1;cases z2;exact(QB z3).1
  have bv:=R.dn;have aj:a1.tmps.size=35:=R.sz;have aL:=R.kp.nZ;have aW:∀ b,(fa p=some b∨b=q)->XX (fun _=>False) I [(1,CT.box 28 (.cons (.a_ .str s.1) (.cons (.a_ .bool s.2.1) (.cons (.a_ (.slice fe) s.2.2) (.cons (.a_ (.slice b8) l) .nil))))),(2,.box 28 (zA c7 .nil)),(3,.row 37 b8 (List.replicate l.length tz)),(4,.box 28 (.cons (.a_ .str s.1) (.cons (.a_ .bool s.2.1) (.cons (.a_ (.slice fe) s.2.2) (.cons (.own 3) .nil)))))] b:=fun b f=>f.elim (fun f=>.inr ⟨_,Qs _ (Qs _ Qx),i3 b f⟩) fun f=>.inr ⟨_,Qs _ (Qs _ (Qs _ Qx)),by rw[f]; exact i4⟩;have t3:rep (.slice b8) (fun b=>fa p=some b∨b=q) w1 [c3] l:=eJ t3 fun b f=>.inl (aW b f);have t2:rep (.slice fe) (fun _=>False) w1 [c2] s.2.2:=eJ t2 fun b f=>f.elim;have u0:rep .str (fun _=>False) w1 [y0] s.1:=u0;have u1:rep .bool (fun _=>False) w1 [y1] s.2.1:=u1;obtain⟨aX,aY,aZ⟩:=r3;have az:∀{X:Nat->Prop},RU X w1 37 b8 p (List.replicate l.length tz):=fun{X}=>⟨xs,aX,aY,fun i y hy=>by
   have bw:y=tz:=by
    rw[TW]at hy;split at hy
    ·exact(Rk hy).symm
    ·cases hy
   have M:=aZ i y hy;subst bw;exact⟨nO M.1,M.2.1,nO M.2.2.1,nO M.2.2.2⟩⟩
  have bx:C2.size=4:=by
   obtain⟨d0,v0,x0,_,d1,v1,rfl,_,d2,v2,rfl,_,d3,v3,rfl,_,x4⟩:=r2;have x4:v3=[]:=x4;subst x4;simpa using Sr List.length x0
  have ba:O<w1.heap.size:=b9 q2;clear r1 r2 r4 o4 ai U aW aX aY aZ R i1 i2 i3 i4 p1 p2 p3 p4;have A:b_ Tryz.prog 28 ⟨c7,0,_,2⟩:=c_.fact (E:=E3) rfl;have aG:b_ Tryz.prog 25 ⟨jt,0,_,3⟩:=c_.fact (E:=E3) rfl;have aH:b_ Tryz.prog 23 ⟨.slice fe,75,24,0⟩:=c_.fact (E:=E3) rfl;have aI:b_ Tryz.prog 26 ⟨.slice b8,37,24,0⟩:=c_.fact (E:=E3) rfl;have hT:b_ Tryz.prog 37 ⟨b8,0,80,2⟩:=c_.fact (E:=E3) rfl;refine Re ?_;refine eV 13 rfl rfl (by rw[aj]; decide) (fm (x:=.tmp 1) A rfl rfl (show 0<2 by decide) s1) fun a2 B=>?_;refine eV 14 rfl rfl (by rw[B.sz,aj]; decide) (fm (x:=.tmp 13) aG rfl rfl (show 2<3 by decide) B.v) fun a3 V=>?_;refine eV 15 rfl rfl (by rw[V.sz,B.sz,aj]; decide) (fv (x:=.tmp 14) aH rfl V.v q1 (cs:=[c2]) (by rw[e1]; rfl) rfl rfl) fun a4 k4=>?_;refine jO 16 rfl rfl (by rw[k4.sz,V.sz,B.sz,aj]; decide) (gL (vs:=[c2]) (e_ Tryz.func65 rfl rfl) (by rw[Sd]; exact Sr (fun z=>#[z]) k4.v) (MH bn ⟨[c2],t2,rfl⟩)) fun z' w2 a5 aA k5=>?_;obtain⟨aA,ak⟩:=aA;have z5:a5.tmps.size=35:=by rw[k5.sz,k4.sz,V.sz,B.sz,aj]
  have s5:∀ t,t<13->gt a5 t=gt a1 t:=fun t ht=>(k5.ne t (by omega)).trans ((k4.ne t (by omega)).trans ((V.ne t (by omega)).trans (B.ne t (by omega))));refine eV 17 rfl rfl (by rw[z5]; decide) (fm (x:=.tmp 3) A rfl rfl (show 0<2 by decide) ((s5 3 (by decide)).trans s3)) fun a6 k6=>?_;refine eV 18 rfl rfl (by rw[k6.sz,z5]; decide) (fm (x:=.tmp 17) aG rfl rfl (show 2<3 by decide) k6.v) fun a7 k7=>?_;have bz:C4=#[y0,y1,y2,p]:=by rw[<-e4]
  subst bz;refine mH (cs:=[z']) aH rfl rfl rfl k7.v ((ak.block q (b9 q4)).trans q4) (show 0+0+2+1<=4 by decide) (((k7.ne 16 (by decide)).trans (k6.ne 16 (by decide))).trans k5.v) rfl (fun c hc=>by rw[RH.1 hc]; exact fQ aA _ Qx) fun G bA al=>RM ?_;have bB:=q4;have q4:G.heap[q]?=some (.cells #[y0,y1,z',p] 28 (0,0)):=bA;have hE:∀{X:Nat->Prop},X q->Ev X w1 G:=fun hX=>(Ev.c8 ak).trans (al.ev hX);have l4:q<G.heap.size:=b9 q4;have aM:w1.heap.size<=G.heap.size:=(hE (X:=fun b=>b=q) rfl).size;have an:∀ b,fa p=some b->b<w1.heap.size:=fun b f=>(az (X:=fun _=>False)).rw.lt f;have t3:rep (.slice b8) (fun b=>fa p=some b) G [c3] l:=eJ (fx t3 (hE (.inr rfl))) fun b f=>.inl (.inl f);have az:RU (fun b=>b<G.heap.size) G 37 b8 p (List.replicate l.length tz):=az.st (hE l4) fun b f=>(hE (X:=fun b=>b=q) rfl).block b (an b f) fun e=>aV (by rw[<-e]; exact f);have sc:fg jt (fun b=>b<w1.heap.size) G [y0,y1,z'] s:=⟨iy rfl u0,iy rfl u1,eZ (t:=.slice fe) aA (al.ev (X:=fun b=>b<w1.heap.size) (b9 bB))⟩;have q1:G.heap[b1]?=some (.cells C1 28 (0,0)):=(al.ne b1 bt).trans ((ak.block b1 (b9 q1)).trans q1);have q2:G.heap[O]?=some (.cells C2 28 (0,0)):=(al.ne O bu).trans ((ak.block O (b9 q2)).trans q2);have z7:a7.tmps.size=35:=by rw[k7.sz,k6.sz,z5]
  have s7:∀ t,t<13->gt a7 t=gt a1 t:=fun t ht=>(k7.ne t (by omega)).trans ((k6.ne t (by omega)).trans (s5 t ht));have d7:a7.defers=[]:=by rw[k7.dn,k6.dn,k5.dn,k4.dn,V.dn,B.dn]; exact bv
  have C:Below w.heap.size w G:=al.below g4 (aL.trans (ak.mono aL.size));refine SM (SM (Re ?_));refine eV 19 rfl rfl (by rw[z7]; decide) (fm (x:=.tmp 1) A rfl rfl (show 1<2 by decide) ((s7 1 (by decide)).trans s1)) fun a8 W=>?_;refine eV 20 rfl rfl (by rw[W.sz,z7]; decide) (fv (x:=.tmp 19) aI rfl W.v q1 (cs:=[c3]) (by rw[e1]; rfl) rfl rfl) fun a9 k9=>?_;refine jn 21 [(20,.a_ (.slice b8) l)] (.a_ (.int .i64) (l.length:Int)) my (.cons ⟨[c3],eJ t3 fun b f=>f.elim,by rw[k9.v]⟩ .nil) rfl rfl (by rw[k9.sz,W.sz,z7]; decide) rfl rfl trivial fun bX w4 bb ao aq D=>?_;have ao:=(fI ao).1;subst ao;refine eV 22 rfl rfl (by rw[D.sz,k9.sz,W.sz,z7]; decide) (fE rfl) fun bC ad=>RM (UG ?_);have aJ:∀ t,t<13->gt bC t=gt a1 t:=fun t ht=>(ad.ne t (by omega)).trans ((D.ne t (by omega)).trans ((k9.ne t (by omega)).trans ((W.ne t (by omega)).trans (s7 t ht))));refine ui (fun k a u=>CJ G O q c3 p l.length k a u) (fun k=>l.length-k) 0 ⟨QE _,(aJ 2 (by decide)).trans s2,(aJ 3 (by decide)).trans s3,(ad.ne 20 (by decide)).trans ((D.ne 20 (by decide)).trans k9.v),(ad.ne 21 (by decide)).trans D.v,ad.v,by rw[ad.dn,D.dn,k9.dn,W.dn]; exact d7,by rw[ad.sz,D.sz,k9.sz,W.sz,z7],Ev.c8 aq,⟨aq.os,aq.tape,aq.output⟩,_,SX,az.keep aq⟩ ?_;intro k a u F;have z:=F.sz;refine SM (Re ?_);refine jn 23 [(22,.a_ (.int .i64) (k:Int)),(21,.a_ (.int .i64) (l.length:Int))] (.a_ .bool (decide ((k:Int)<(l.length:Int)))) my (.cons (by rw[F.s22]; exact eO (by have:=F.hk; rw[c9]; omega)) (.cons (by rw[F.s21]; exact eO (by rw[c9]; omega)) .nil)) rfl rfl (by rw[z]; decide) rfl rfl trivial fun zc uc ac aN ae kc=>RM ?_;have aN:zc=.bool (decide ((k:Int)<(l.length:Int))):=(QB (jj rfl rfl aN)).1;have J:Ev (fun b=>fa p=some b) G uc:=F.ev.trans (Ev.c8 ae);have bc:uc.heap[q]?=some (.cells #[y0,y1,z',p] 28 (0,0)):=(J.block q l4 aV).trans q4;have bD:uc.heap[O]?=some (.cells C2 28 (0,0)):=(J.block O (b9 q2) aU).trans q2;have bE:G.heap.size<=uc.heap.size:=J.size;obtain⟨L,hL,K⟩:=F.tu;have K:=K.keep ae;have Z:∀ t,t≠23->gt ac t=gt a t:=kc.ne;have aa:ac.tmps.size=35:=kc.sz.trans z;refine SM (Ux (t:=decide ((k:Int)<(l.length:Int))) (kc.v.trans aN) (fun ht=>Wb ?_) fun R=>Wy ?_)
  ·have af:k<l.length:=by have:=QF ht; omega
   obtain⟨x,hx⟩:∃ x,l.getD k (zd b8)=x:=⟨_,rfl⟩;have bF:x∈l:=by
    rw[Qz,Qr af]at hx;rw[<-hx];exact Tf af
   obtain⟨bG,bY⟩:=bp x bF;refine SM (UG (SM (Re ?_)));refine eV 24 rfl rfl (by rw[aa]; decide) (fE (x:=.tmp 22) rfl) fun a2 B=>?_;refine jn 25 [(20,.a_ (.slice b8) l),(22,.a_ (.int .i64) (k:Int))] (.rT b8 (l.getD k (zd b8))) my (.cons ⟨[c3],eJ (fx t3 J) fun b f=>f.elim,Sr (fun z=>[z]) ((B.ne 20 (by decide)).trans ((Z 20 (by decide)).trans F.s20))⟩ (.cons (by rw[B.ne 22 (by decide),Z 22 (by decide),F.s22]; exact eO (by rw[c9]; omega)) .nil)) rfl rfl (by rw[B.sz,aa]; decide) rfl rfl ⟨⟨Sy _,UD.2 af⟩,trivial⟩ fun z3 u3 a3 bH aO V=>?_;refine jn 26 [(25,.rT b8 (l.getD k (zd b8)))] (.a_ b8 (l.getD k (zd b8))) my (.cons (by rw[V.v]; exact bH) .nil) rfl rfl (by rw[V.sz,B.sz,aa]; decide) rfl rfl trivial fun z4 u4 a4 bd aK k4=>?_;rw[hx]at bd;obtain⟨cx,ar,aP⟩:=bd;have aP:=(QB aP).1;refine sv 5 rfl rfl (by rw[k4.sz,V.sz,B.sz,aa]; decide) (lJ hT rfl) fun u5 a5 aQ be bI k5=>?_;obtain⟨b5,bg⟩:∃ b,u4.heap.size=b:=⟨_,rfl⟩;have bh:=aQ;rw[bg]at be bI k5 aQ;refine eV 4 rfl rfl (by rw[k5.sz,k4.sz,V.sz,B.sz,aa]; decide) (ib (x:=.tmp 24) rfl) fun a6 k6=>?_;refine iT (cs:=cx) hT rfl rfl rfl ((k6.ne 5 (by decide)).trans k5.v) be rfl ((k6.ne 26 (by decide)).trans ((k5.ne 26 (by decide)).trans (k4.v.trans aP))) (eR ar) (gz ar) fun u6 q6 bi=>RM ?_;have bZ:uc.heap.size<=u4.heap.size:=QL aO.size aK.size;have aB:Below uc.heap.size uc u6:=bi.below (by omega) ((aO.trans (aK.mono aO.size)).trans (aQ.mono (by omega)));have z6:a6.tmps.size=35:=by rw[k6.sz,k5.sz,k4.sz,V.sz,B.sz,aa]
   have au:∀ t,t≠24->t≠25->t≠26->t≠5->t≠4->t≠23->gt a6 t=gt a t:=fun t h1 h2 h3 h4 h5 h6=>(k6.ne t h5).trans ((k5.ne t h4).trans ((k4.ne t h3).trans ((V.ne t h2).trans ((B.ne t h1).trans (Z t h6)))));have e4:gt a6 4=.int .i64 (k:Int):=by
    rw[k6.v];show gt a5 24=_;rw[k5.ne 24 (by decide),k4.ne 24 (by decide),V.ne 24 (by decide),B.v];show gt ac 22=_;rw[Z 22 (by decide),F.s22]
   have e5:gt a6 5=.pointer (some ⟨b5,0,none⟩):=(k6.ne 5 (by decide)).trans k5.v;have e3:gt a6 3=.pointer (some ⟨q,0,none⟩):=(au 3 (by decide) (by decide) (by decide) (by decide) (by decide) (by decide)).trans F.s3;have bj:u6.heap[q]?=some (.cells #[y0,y1,z',p] 28 (0,0)):=(aB.block q (by omega)).trans bc;have d6:a6.defers=[]:=by rw[k6.dn,k5.dn,k4.dn,V.dn,B.dn,kc.dn]; exact F.dn
   have bJ:rep b8 (fun _=>False) u6 cx x:=eJ (fx (fx (eJ ar (Y:=fun b=>b=b5) fun b f=>.inr (by omega)) (Ev.c8 bh)) (bi.ev (X:=fun b=>b=b5) rfl)) fun b f=>f.elim;have bK:=eU (E:=E3) c_ (T:=26) (e:=⟨.slice b8,37,24,0⟩) rfl rfl;obtain⟨n6,bk⟩:∃ n,u6.heap.size=n:=⟨_,rfl⟩;have ca:G.heap.size<=n6:=by rw[<-bk]; exact QL bE aB.size
   refine jW (l:=[_,_,_,_,_,_,_]) (N:=35) my.mx (cnR n6 k q p cx (x.1,qf (fq x.2))) [0,1,0,0,8,31,63] [[(3,none)],[(27,some 0)],[(4,none)],[(5,none)],[(30,some 3)],[(28,some 1),(29,some 2)],[(32,some 5),(31,some 4)]] 5 z6 (by kernel_rfl) (by kernel_rfl) PV ?_ ?_
   ·intro j o hj av
    match j,hj with
    | 0,_ =>
     cases av
     refine⟨rfl,fun val a u f hR M=>?_⟩
     have g1:gt a 3=gt a6 3:=M (3,none) (by simp)
     exact fc (fm (x:=.tmp 3) A rfl rfl (show 1<2 by decide) (g1.trans e3)) ⟨QG _ _,rfl⟩
    | 1,_ =>
     cases av
     refine⟨rfl,fun val a u f hR M=>?_⟩
     have g1:gt a 27=val 0:=M (27,some 0) (by simp)
     have h0:val 0=.pointer (some ⟨q,3,none⟩):=hR 0 (by decide) (by decide)
     exact fc (fv (x:=.tmp 27) aI rfl (g1.trans h0) ((f.block q (b9 bj)).trans bj) (cs:=[p]) rfl rfl rfl) ⟨QG _ _,rfl⟩
    | 2,_ =>
     cases av
     refine⟨rfl,fun val a u f hR M=>?_⟩
     have g1:gt a 4=gt a6 4:=M (4,none) (by simp)
     exact fc (fE (x:=.tmp 4) rfl) ⟨QG _ _,g1.trans e4⟩
    | 3,_ =>
     cases av
     refine⟨rfl,fun val a u f hR M=>?_⟩
     have g1:gt a 5=gt a6 5:=M (5,none) (by simp)
     exact fc (fv (x:=.tmp 5) hT rfl (g1.trans e5) ((f.block b5 (b9 q6)).trans q6) (cs:=cx) (by rw[RP]; exact QQ (SA (eR ar))) (eR ar) rfl) ⟨QG _ _,rfl⟩
    | 4,_ =>
     cases av
     refine⟨rfl,fun val a u f hR M=>?_⟩
     have g1:gt a 30=val 3:=M (30,some 3) (by simp)
     have h0:val 3=b8.wrap cx:=hR 3 (by decide) (by decide)
     have hu:n6<=u.heap.size:=by rw[<-bk]; exact f.size
     refine gL (vs:=[b8.wrap cx]) (e_ Tryz.func33 rfl rfl) (by rw[Sd]; exact Sr (fun z=>#[z]) (g1.trans h0)) ?_
     refine TB (Hh (t:=x) bG (by omega) ⟨cx,fx bJ (Ev.c8 f),rfl⟩) ?_
     rintro e u' ⟨zz,rfl,g2,g3⟩
     exact⟨zz,rfl,g3,g2.le hu⟩
    | j+5,hj=>omega
   ·intro val u a7 f hR hp hd hs;have aw:Below uc.heap.size uc u:=aB.trans (f.mono aB.size);have bL:gt a7 28=val 1:=hp 28 (by decide);have bM:gt a7 29=val 2:=hp 29 (by decide);have bN:gt a7 31=val 4:=hp 31 (by decide);have v1:val 1=p:=hR 1 (by decide);have v2:val 2=.int .i64 (k:Int):=hR 2 (by decide);obtain⟨cz,v4,v5⟩:mU n6 u b8 (x.1,qf (fq x.2)) (val 4):=hR 4 (by decide);have K:=K.keep aw;obtain⟨g,cap,eg,eb⟩:=K.jM (by omega);have bO:g<G.heap.size:=QI (an g eb) aM;obtain⟨u8,r8,aC,bP⟩:=RU.store (P:=Tryz.prog) hT K (i:=k) (by rw[hL]; exact af) eb bO (fo v4 fun b f=>.inl (show b<n6 by have f:b<G.heap.size:=f; omega));refine eV 32 rfl rfl (by rw[hs]; decide) (uf (x:=.tmp 28) (y:=.tmp 29) (k:=k) hT rfl bK (bL.trans (v1.trans eg)) (bM.trans v2) (by rw[hL]; exact af)) fun a8 W=>?_;refine oq (off:=k*4) (u:=b8.wrap cz) (w':=u8) rfl rfl rfl (W.v.trans (by rw[Q8]; rfl)) (((W.ne 31 (by decide)).trans bN).trans v5) r8 (RM ?_);refine Re ?_;have l8:∀ t,gt a7 t=gt a6 t->t≠32->gt a8 t=gt a6 t:=fun t h1 h2=>(W.ne t h2).trans h1;have bQ:gt a8 22=.int .i64 (k:Int):=by rw[l8 22 (hp 22 (by decide)) (by decide),au 22 (by decide) (by decide) (by decide) (by decide) (by decide) (by decide),F.s22]
    refine jn 33 [(22,.a_ (.int .i64) (k:Int))] (.a_ (.int .i64) ((k:Int)+1)) my (.cons (by rw[bQ]; exact eO (by rw[c9]; omega)) .nil) rfl rfl (by rw[W.sz,hs]; decide) rfl rfl ⟨by rw[c9]; omega,trivial⟩ fun z9 u9 a9 aR ax k9=>?_;have aR:=(fI aR).1;refine eV 22 rfl rfl (by rw[k9.sz,W.sz,hs]; decide) (fE (x:=.tmp 33) rfl) fun bb D=>RM ?_;have l10:∀ t,gt a7 t=gt a6 t->t≠32->t≠33->t≠22->gt bb t=gt a6 t:=fun t h1 h2 h3 h4=>(D.ne t h4).trans ((k9.ne t h3).trans (l8 t h1 h2));have bR:Ev (fun b=>fa p=some b) G u9:=(J.trans (Ev.c8 aw)).trans ((aC.ev (X:=fun b=>fa p=some b) eb).trans (Ev.c8 ax));refine⟨k+1,⟨af,?_,?_,?_,?_,?_,?_,?_,bR,?_,_,by rw[Sb]; exact hL,bP.keep ax⟩,by omega⟩
    ·rw[l10 2 (hp 2 (by decide)) (by decide) (by decide) (by decide),au 2 (by decide) (by decide) (by decide) (by decide) (by decide) (by decide),F.s2]
    ·rw[l10 3 (hp 3 (by decide)) (by decide) (by decide) (by decide),e3]
    ·rw[l10 20 (hp 20 (by decide)) (by decide) (by decide) (by decide),au 20 (by decide) (by decide) (by decide) (by decide) (by decide) (by decide),F.s20]
    ·rw[l10 21 (hp 21 (by decide)) (by decide) (by decide) (by decide),au 21 (by decide) (by decide) (by decide) (by decide) (by decide) (by decide),F.s21]
    ·rw[D.v];show gt a9 33=_;rw[k9.v,aR];rfl
    ·rw[D.dn,k9.dn,W.dn,hd]; exact d6
    ·rw[D.sz,k9.sz,W.sz]; exact hs
    ·have h1:=F.io;have h2:=ae;refine⟨ax.os.trans (aC.io.1.trans (aw.os.trans (h2.os.trans h1.1))),ax.tape.trans (aC.io.2.1.trans (aw.tape.trans (h2.tape.trans h1.2.1))),ax.output.trans (aC.io.2.2.trans (aw.output.trans (h2.output.trans h1.2.2)))⟩
  ·refine ia (ia (pT ?_));refine SM (Re ?_);refine eV 34 rfl rfl (by rw[aa]; decide) (fv (x:=.tmp 3) A rfl ((Z 3 (by decide)).trans F.s3) bc (cs:=[y0,y1,z',p]) rfl rfl rfl) fun a2 B=>?_;have o1:∀ c∈[y0,y1,z',p],c.oneCell'=true:=by
    intro c hc;have h1:=fQ sc;simp only[Qv,QW,RV]at hc h1;rcases hc with rfl|rfl|rfl|rfl
    ·exact h1 _ (.inl rfl)
    ·exact h1 _ (.inr (.inl rfl))
    ·exact h1 _ (.inr (.inr rfl))
    ·exact K.rw.form
   refine iT (cs:=[y0,y1,z',p]) A rfl rfl rfl ((B.ne 2 (by decide)).trans ((Z 2 (by decide)).trans F.s2)) bD bx B.v rfl o1 fun u9 q9 aD=>RM (W2 ?_);have bm:Ev (fun b=>b<w1.heap.size) G u9:=(J.imp an).trans (aD.ev ba);have bS:Below w.heap.size w uc:=⟨ae.os.trans (F.io.1.trans C.os),ae.tape.trans (F.io.2.1.trans C.tape),ae.output.trans (F.io.2.2.trans C.output),QL C.size J.size,fun k hk=>(J.block k (QI hk C.size) fun e=>by have:=g3 k e; omega).trans (C.block k hk)⟩;have bT:NR w.heap.size u9 y0 y1 z' p s L:=by
    refine⟨fo (eZ sc bm) fun b f=>.inl ?_,(K.st (aD.ev (X:=fun b=>b<G.heap.size) (QI ba aM)) fun b f=>aD.ne b fun e=>aU (by rw[<-e]; exact f)).abg fun b f=>.inl ?_,g3⟩
    ·rcases f with f|f
     ·exact QI f aL.size
     ·exact an b f
    ·rcases f with f|f
     ·exact QI f C.size
     ·exact QI (an b f) aM
   rw[<-hQ];refine⟨by rw[B.dn,kc.dn]; exact F.dn,c7.wrap [y0,y1,z',p],vY (fn:=Tryz.f31) rfl ((B.ne 2 (by decide)).trans ((Z 2 (by decide)).trans F.s2)) ?_,_,y0,y1,z',p,s,L,rfl,rfl,bT,hL,aD.below g2 bS⟩;exact fR (P:=Tryz.prog) A (off:=0) q9 (cs:=[y0,y1,z',p]) rfl rfl
 obtain⟨a0,aE⟩:∃ a0:Act,({ tmps:=#[v]++Array.replicate ((Tryz.f31).ntmps-#[v].size) undef,defers:=[] }:Act)=a0:=⟨_,rfl⟩;have k0:gt a0 0=v:=by rw[<-aE]; exact jL (vs:=[v]) rfl
 have kd:a0.defers=[]:=by rw[<-aE]
 have ks:a0.tmps.size=35:=by
  rw[<-aE];have:(Tryz.f31).ntmps=35:=rfl;simp only[Tl,RQ,S2,this,Rr,Tn]
 rw[aE];refine key _ a0 w (Lh kd ks fun t z hz=>?_);have hz:=b7 hz;simp only[Qv,SB,QW,RV]at hz;obtain⟨rfl,rfl⟩:=hz;rw[k0];exact h
structure NB(n bR:Nat)(u:World)(nm ct cv tv:Value)(S:jt.den)(L:List b8.den):Prop where
 bx:u.heap[bR]?=some (.cells #[nm,ct,cv,tv] 28 (0,0))
 nR:n<=bR
 ne:fa tv≠some bR
 sc:fg jt (fun b=>b<n∨fa tv=some b∨b=bR) u [nm,ct,cv] S
 tu:RU (fun b=>b<n∨fa tv=some b∨b=bR) u 37 b8 tv L
 nb:∀ b,fa tv=some b->n<=b
section
variable{n bR:Nat}{u u':World}{nm ct cv tv:Value}{S:jt.den}{L:List b8.den}
theorem NB.keep(h:NB n bR u nm ct cv tv S L)(b:Below u.heap.size u u'):NB n bR u' nm ct cv tv S L :=
 ⟨(b.block bR (b9 h.bx)).trans h.bx,h.nR,h.ne,eZ h.sc (Ev.c8 b),h.tu.keep b,h.nb⟩
theorem NB.one(h:NB n bR u nm ct cv tv S L):∀ c∈[nm,ct,cv,tv],c.oneCell'=true:=by
 intro c d;have b:=fQ h.sc;simp only[Qv,QW,RV]at d b;rcases d with rfl|rfl|rfl|rfl
 ·exact b _ (.inl rfl)
 ·exact b _ (.inr (.inl rfl))
 ·exact b _ (.inr (.inr rfl))
 ·exact h.tu.rw.form
theorem NB.fin(h:NB n bR u nm ct cv tv S L):mU n u c7 (S,L) (c7.wrap [nm,ct,cv,tv]) :=
 ⟨[nm,ct,cv,tv],⟨fo h.sc fun b c=>.inl (.inl c),h.tu.a_ (Y:=fun b=>b<n) (fun b c=>.inl c) fun b c d=>absurd d (Vp.2 (h.nb b c))⟩,rfl⟩
end
theorem NB.swap{n bR:Nat}{u u' j:World}{nm ct cv tv v':Value}{S:jt.den}{L L':List b8.den}{xs:List Value}(h:NB n bR u nm ct cv tv S L)(o:u.grownBy u' (fa tv))(m:∀ b,fa v'=some b->fa tv=some b∨u.heap.size<=b)(p:u'.ownsRow 0 37 4 v' L'.length xs)(h1:∀ c∈xs,c.oneCell'=true)
    (q:∀(i:Nat) x,L'[i]?=some x->fg b8 (fun b=>b<n∨fa tv=some b∨b=bR) u ((xs.drop (i*4)).take 4) x) (st:Ca bR u' j) (f:j.heap[bR]?=some (.cells #[nm,ct,cv,v'] 28 (0,0))):NB n bR j nm ct cv v' S L':=by
 have r:bR<u.heap.size:=b9 h.bx;have g:fa v'≠some bR:=fun e=>by
  rcases m bR e with e|e
  ·exact h.ne e
  ·omega
 have key:∀{t:Ty}{l:List Value}{d:t.den},fg t (fun b=>b<n∨fa tv=some b∨b=bR) u l d->fg t (fun b=>b<n∨fa v'=some b∨b=bR) j l d:=fun{t l d} s=>by
  have v:fg t (fun b=>b<n∨fa tv=some b∨b=bR∨fa v'=some b) u l d:=fo s fun b f=>by
   rcases f with f|f|f|f
   ·exact .inl (.inl f)
   ·exact .inl (.inr (.inl f))
   ·exact .inl (.inr (.inr f))
   ·rcases m b f with e|e
    ·exact .inl (.inr (.inl e))
    ·exact .inr e
  have y:=eZ (eZ v ⟨o.size,fun k hk z=>o.block k hk fun e=>z (.inr (.inl e.symm))⟩) (st.ev (X:=fun b=>b<n∨fa tv=some b∨b=bR∨fa v'=some b) (.inr (.inr (.inl rfl))));exact fo y fun b f=>.inl (by
   rcases f with f|f|f
   ·exact .inl f
   ·exact .inr (.inr (.inr f))
   ·exact .inr (.inr (.inl f)))
 exact⟨f,h.nR,g,key h.sc,⟨xs,gl p fun b f=>st.ne b fun e=>g (by rw[<-e]; exact f),h1,fun i x A=>key (q i x A)⟩,fun b f=>by
  rcases m b f with e|e
  ·exact h.nb b e
  ·have:=h.nR;omega⟩
theorem J4{u:World}{b:Nat}{ys:List Value}(c:ys.length=4)(d:u.heap[b]?=some (.cells ys.toArray 37 (0,0))):u.ownsRow 0 37 4 (.slice (some ⟨b,0,none⟩) 1 1) 1 ys :=
 ⟨c,.inr ⟨b,1,ys.toArray,rfl,QE _,d,Qu _,by decide,by simpa using c,by simpa using QQ (SA c)⟩⟩
theorem acF{X:Nat->Prop}{w:World}{L:List b8.den}{xs ys:List Value}{t:b8.den}(m:xs.length=L.length*4)(h:∀(i:Nat) x,L[i]?=some x->fg b8 X w ((xs.drop (i*4)).take 4) x)(d:fg b8 X w ys t){k:Nat}(hk:k<=L.length) :
    ∀(i:Nat) x,(L.take k++[t]++L.drop k)[i]?=some x->fg b8 X w (((xs.take (k*4)++ys++xs.drop (k*4)).drop (i*4)).take 4) x:=by
 have b:ys.length=4:=ft d;have e:=Oa (t:=b8) h k;have f:=N6 (t:=b8) h k;have g:(xs.take (k*b8.size)).length=(L.take k).length*b8.size:=by
  show(xs.take (k*4)).length=(L.take k).length*4;rw[QM,QM]; omega
 have j:∀(i:Nat) x,[t][i]?=some x->fg b8 X w ((ys.drop (i*b8.size)).take b8.size) x:=fun i x c=>by
  match i,c with
  | 0,c =>
   cases c
   rw[Nat.zero_mul,RP]
   show fg b8 X w (ys.take 4) _
   rw[QQ (SA b)]
   exact d
  | i+1,c=>cases c
 have l:=qT g e j;exact qT (by
  show(xs.take (k*4)++ys).length=(L.take k++[t]).length*4;rw[QO,QO,QM,QM,b];show min (k*4) xs.length+4=(min k L.length+1)*4;omega) l f
theorem acn{X:Nat->Prop}{w:World}{L:List b8.den}{xs:List Value}(c:xs.length=L.length*4)(h:∀(i:Nat) x,L[i]?=some x->fg b8 X w ((xs.drop (i*4)).take 4) x){k:Nat}(hk:k<L.length) :
    ∀(i:Nat) x,(L.take k++L.drop (k+1))[i]?=some x->fg b8 X w (((xs.take (k*4)++xs.drop ((k+1)*4)).drop (i*4)).take 4) x:=by
 have b:(xs.take (k*b8.size)).length=(L.take k).length*b8.size:=by
  show(xs.take (k*4)).length=(L.take k).length*4;rw[QM,QM]; omega
 exact qT b (Oa (t:=b8) h k) (N6 (t:=b8) h (k+1))
section
variable{y0 y1 y2 y3:TypeId}{p0 p1 p2 p3:String}{f0 f1 f2 f3:Array Edge}{at2:Array TypeId}{Q:Exit->Act->World->Prop}{ops:Array Oper}{P:Program}{a:Act}{w:World}
theorem pa(K:P=Tryz.prog){o l m tb N b:Nat}(M:o≠l)(O:o≠m)(D:l≠m)(R:a.tmps.size=N)(l1:o<N)(l2:l<N)(l3:m<N){r:c7.den}(T:gZ r){C:Array Value}(U:gt a tb=.pointer (some ⟨b,0,none⟩)){f:Nat×Nat}(d:w.heap[b]?=some (.cells C 28 f))(F:rep c7 (fun _=>False) w C.toList r)
    (V:∀ a' u bR nm ct cv tv S L,NB w.heap.size bR u nm ct cv tv S L->L.length=r.2.length->Below w.heap.size w u->gt a' m=.pointer (some ⟨bR,0,none⟩)->(∀ t,t≠o->t≠l->t≠m->gt a' t=gt a t)->a'.defers=a.defers->a'.tmps.size=N->Q .normal a' u) :
    wpList P ops Q [⟨some o,.load 28 (.tmp tb),y0,p0,f0,none⟩,⟨some l,.call { callee:=.value (.func 31),args:=#[.tmp o],argTypes:=at2 },y1,p1,f1,none⟩,⟨some m,.alloc 28,y2,p2,f2,none⟩,⟨none,.store 28 (.tmp m) (.tmp l),y3,p3,f3,none⟩] a w:=by
 subst K;have h:b_ Tryz.prog 28 ⟨c7,0,_,2⟩:=c_.fact (E:=E3) rfl;refine eV o rfl rfl (by omega) (fv (x:=.tmp tb) h rfl U d (cs:=C.toList) (by rw[RP]; exact QQ (SA (eR F))) (eR F) rfl) fun a1 q=>?_;refine jO l rfl rfl (by rw[q.sz]; omega) (gL (vs:=[c7.wrap C.toList]) (e_ Tryz.func31 rfl rfl) (by rw[Sd]; exact Sr (fun z=>#[z]) q.v) ((MW T ⟨C.toList,F,rfl⟩).mono fun e I ⟨z,nm,ct,cv,tv,S,L,i,G⟩=>⟨z,i,(⟨nm,ct,cv,tv,S,L,G⟩:∃ nm ct cv tv S L,z=c7.wrap [nm,ct,cv,tv]/\NR w.heap.size I nm ct cv tv S L/\L.length=r.2.length/\Below w.heap.size w I)⟩)) fun z s a2 W A=>?_;obtain⟨nm,ct,cv,tv,S,L,Z,g,hL,j⟩:=W;refine sv m rfl rfl (by rw[A.sz,q.sz]; omega) (lJ h rfl) fun w3 a3 p H aa y=>?_;have o1:∀ c∈[nm,ct,cv,tv],c.oneCell'=true:=by
  intro c J;have i:=fQ g.sc;simp only[Qv,QW,RV]at J i;rcases J with rfl|rfl|rfl|rfl
  ·exact i _ (.inl rfl)
  ·exact i _ (.inr (.inl rfl))
  ·exact i _ (.inr (.inr rfl))
  ·exact g.tu.rw.form
 refine iT (cs:=[nm,ct,cv,tv]) h rfl rfl rfl y.v H rfl ((y.ne l D).trans (A.v.trans Z)) rfl o1 fun w4 q4 k=>RM ?_;have B:∀ b,fa tv=some b->b<s.heap.size:=fun b d=>g.tu.rw.lt d;refine V a3 w4 s.heap.size nm ct cv tv S L ⟨q4,j.size,fun e=>Vc _ (B _ e),?_,?_,g.nb⟩ hL (k.below j.size (j.trans (p.mono j.size))) y.v (fun t i G h3=>(y.ne t h3).trans ((A.ne t G).trans (q.ne t i))) (by rw[y.dn,A.dn,q.dn]) (by rw[y.sz,A.sz,q.sz]; exact R)
 ·exact eZ (fo (eZ (fo g.sc (Y:=fun b=>b<w.heap.size∨fa tv=some b∨b=s.heap.size) fun b d=>by
    rcases d with d|d|d
    ·exact .inl (.inl d)
    ·exact .inl (.inr d)
    ·exact .inr (SA d.symm)) (Ev.c8 p)) fun b d=>.inl d) (k.ev (X:=fun b=>b<w.heap.size∨fa tv=some b∨b=s.heap.size) (.inr (.inr rfl)))
 ·have i:RU (fun b=>b<w.heap.size∨fa tv=some b∨b=s.heap.size) s 37 b8 tv L:=g.tu.abg fun b d=>by
    rcases d with d|d|d
    ·exact .inl (.inl d)
    ·exact .inl (.inr d)
    ·exact .inr (SA d.symm)
  exact(i.keep p).st (k.ev (.inr (.inr rfl))) fun b d=>k.ne b fun e=>by have:=B b d; omega
theorem oR(q:P=Tryz.prog){d tb t4 t5 N bR b4 n:Nat}{nm ct cv tv:Value}{S:jt.den}{L:List b8.den}(e:t4≠d)(k:t4≠t5)(C:a.tmps.size=N)(l1:d<N)(D:t5<N)(h:NB n bR w nm ct cv tv S L)(r:gt a tb=.pointer (some ⟨bR,0,none⟩)){C4:Array Value}(p:gt a t4=.pointer (some ⟨b4,0,none⟩))(l:w.heap[b4]?=some (.cells C4 28 (0,0)))(m:C4.size=4)(f:b4<n)
    (s:∀ a' u,u.heap[b4]?=some (.cells #[nm,ct,cv,tv] 28 (0,0))->Ca b4 w u->mU n u c7 (S,L) (c7.wrap [nm,ct,cv,tv])->gt a' t4=.pointer (some ⟨b4,0,none⟩)->gt a' t5=.int .i64 0->a'.defers=a.defers->Q .normal a' u) :
    wpList P ops Q [⟨some d,.load 28 (.tmp tb),y0,p0,f0,none⟩,⟨none,.store 28 (.tmp t4) (.tmp d),y1,p1,f1,none⟩,⟨some t5,.assign (.const (.int .i64 0)),y2,p2,f2,none⟩] a w:=by
 subst q;have c:b_ Tryz.prog 28 ⟨c7,0,_,2⟩:=c_.fact (E:=E3) rfl;refine eV d rfl rfl (by omega) (fv (x:=.tmp tb) c rfl r h.bx (cs:=[nm,ct,cv,tv]) rfl rfl rfl) fun F g=>?_;refine iT (cs:=[nm,ct,cv,tv]) c rfl rfl rfl ((g.ne t4 e).trans p) l m g.v rfl h.one fun t y i=>?_;refine eV t5 rfl rfl (by rw[g.sz]; omega) (ib rfl) fun z o=>RM ?_;have j:=h.fin;obtain⟨cs,A,B⟩:=j;exact s z t y i ⟨cs,eZ A (i.ev (X:=fun b=>b<n) f),B⟩ ((o.ne t4 k).trans ((g.ne t4 e).trans p)) o.v (by rw[o.dn,g.dn])
end
theorem NT{ρ:List Value}{X:Nat->Prop}{w:World}{t:b8.den}{cs:List Value}(h:m ρ X w (.cons (.a_ (.slice eK) t.1) (.cons (.a_ .bool t.2.1) (.cons (.a_ (.slice (.int .u32)) t.2.2.1) (.cons (.a_ (.slice (.int .u32)) t.2.2.2) .nil)))) cs):rep b8 X w cs t:=by
 obtain⟨g,i,rfl,b,j,k,rfl,c,l,n,rfl,d,o,e,rfl,f,a⟩:=h;have a:e=[]:=a;subst a;exact⟨jj rfl rfl b,jj rfl rfl c,jj rfl rfl d,jj rfl rfl f⟩
theorem ss{ρ:List Value}{X:Nat->Prop}{w:World}{s:jt.den}{l:List b8.den}{cs:List Value}(h:m ρ X w (.cons (.a_ .str s.1) (.cons (.a_ .bool s.2.1) (.cons (.a_ (.slice fe) s.2.2) (.cons (.a_ (.slice b8) l) .nil)))) cs):rep c7 X w cs (s,l):=by
 obtain⟨e,f,g,i,rfl,a,b,c,d⟩:=wT h;exact⟨⟨a,b,c⟩,jj rfl rfl d⟩
theorem tT{ρ:List Value}{X:Nat->Prop}{w:World}{cs:List Value}(h:m ρ X w (zA c7 .nil) cs):cs.length=4:=by
 obtain⟨c,v0,rfl,_,d,v1,rfl,_,e,f,rfl,_,g,b,rfl,_,a⟩:=h;have a:b=[]:=a;subst a;rfl
def Jm(n d i:Nat)(e:Value)(cs:List Value)(t:b8.den):Nat->Value->World->Prop
 | 0,v,_=>v=.pointer (some ⟨d,3,none⟩)
 | 1,v,_=>v=e
 | 2,v,_=>v=.int .i64 (i:Int)
 | 3,v,_=>v=b8.wrap cs
 | 4,v,u=>mU n u b8 t v
 | 5,v,u=>∃ a c,v=.slice (some ⟨a,0,none⟩) 1 1/\u.heap[a]?=some (.cells c.toArray 37 (0,0))/\n<=a/\fg b8 (fun b=>b<n) u c t
 | _,_,_=>True
theorem Is{n c k:Nat}{d:Value}{cs:List Value}{t:b8.den}:∀ i v (u a:World),i<6->Jm n c k d cs t i v u->Below u.heap.size u a->Jm n c k d cs t i v a:=by
 intro i v u a hi h b
 match i,h with
 | 0,h=>exact h
 | 1,h=>exact h
 | 2,h=>exact h
 | 3,h=>exact h
 | 4,h=>exact mU.st h b
 | 5,h =>
  obtain⟨e,g,j,f,l,m⟩:=h
  exact⟨e,g,j,(b.block e (b9 f)).trans f,l,eZ m (Ev.c8 b)⟩
 | i+6,_=>omega
@[go_sem] noncomputable def inX:Sx:=⟨ERD,89,[(18,[(79,.ow)]),(19,[(86,.ow),(1000000,.mx [(0,1000000),(1,3000000),(2,1000000)])])],[],[18],[],.nil,1,some ([],0)⟩
def ab9(w:World):Ending->World->Prop:=fun e a=>∃ z R,e=.returned (.tuple #[z,.int .i64 0])/\mU w.heap.size a c7 R z/\Below w.heap.size w a
theorem acE{r:c7.den}{t:b8.den}(A:gZ r)(ht:t.1.length<=1000/\fs t.2<=1000)(h0:fU r t=0){vr vt:Value}{w:World}(an:m [] (fun _=>False) w (.a_ c7 r) [vr])(ao:m [] (fun _=>False) w (.a_ b8 t) [vt]) :
    Calls Tryz.prog 7 #[vr,vt] w (ab9 w):=by
 obtain⟨Q,hQ⟩:∃ Q,bodyPost Tryz.prog Tryz.f7 (ab9 w)=Q:=⟨_,rfl⟩;obtain⟨aq,O⟩:∃ c,(Tryz.f7).body=some c:=⟨_,rfl⟩;refine UA Tryz.func7 O ?_;rw[hQ];have ar:∀{u:World}{X:Nat->Prop},∀ st ρ a' w',ku inX st->Fr u X [.slice none 0 0] inX.N st ρ a' w'->Q .ret a' w'/\Q .normal a' w':=by
  intro u X st ρ a' w' aa C;exfalso;unfold ku at aa;split at aa
  ·obtain⟨_,⟨⟨h6,_⟩,_⟩⟩:=aa;exact absurd h6 (show ¬(1<=0) by decide)
  ·exact aa
 obtain⟨s,l⟩:=r;change List fy at l;change fy at t;obtain⟨ab,bg⟩:=ht;have Z:=A;obtain⟨bh,aD,au⟩:=id A;change l.length<=400 at aD;change t.1.length<=1000 at ab;have aE:q_ c7 (s,l):=by obtain⟨cs,y,_⟩:=an; exact jB y
 have aF:q_ b8 t:=by obtain⟨cs,y,_⟩:=ao; exact jB y
 have aG:∀ t∈l,q_ b8 t:=aE.2.2;have aH:=mO aF.2;have ac:=xC (s,l) t.1;change (kW (s,l) t.1).length<=l.length/\∀ i∈kW (s,l) t.1,0<=i/\i<(l.length:Int)at ac;have af:(kW (s,l) t.1).length<=400:=by omega
 have q1:=ou (n:=400) aG (fun t ht=>(au t ht).2) ac.2 af;have q2:=pk 1 (gS l (kW (s,l) t.1));have q3:=mm;have key:∀ ρ a' w',Fr w (fun _=>False) [.slice none 0 0] 89 ⟨[(0,.a_ c7 (s,l)),(1,.a_ b8 t)],[],1⟩ ρ a' w'->me ERD.P Q [.code aq] .normal a' w':=by
  cases O;refine qn (S:=inX) rfl wI (fun b h=>h.elim) ar (fun H hH ad=>?_) (by kernel_rfl);refine hH.run 100 _ _ ?_;dsimp only[go_sem];simp only[Su,R_,jo];refine⟨Z,fun p=>?_,fun p=>⟨by omega,fun D=>?_,fun D=>⟨Z,ab,fun h3=>?_,fun h3=>⟨Z,ab,fun J=>?_,fun J=>⟨Z,af,ac.2,by rw[ig]; omega,by omega,by rw[ig]; omega,fun h5=>?_,fun h5=>?_⟩⟩⟩⟩⟩
  ·exfalso;have p:gC (s,l)≠0:=QF p;have K:fU (s,l) t=gC (s,l):=by unfold fU; rw[QJ p]
   exact p (K.symm.trans h0)
  all_goals have p:¬gC (s,l)≠0:=QN p
  ·exfalso;have D:lA s t≠0:=QF D;have K:fU (s,l) t=lA s t:=by unfold fU; rw[QC p,QJ D]
   exact D (K.symm.trans h0)
  all_goals have D:¬lA s t≠0:=QN D
  ·exfalso;have h3:(mY (l.findIdx? (kG t.1))).2=true:=h3;have K:fU (s,l) t=8:=by unfold fU; rw[QC p,QC D,QJ h3]
   rw[h0]at K; cases K
  all_goals have h3:¬(mY (l.findIdx? (kG t.1))).2=true:=fun e=>Bool.noConfusion (h3.symm.trans e)
  ·exfalso;simp only[RE,Qy]at J;have J:(64:Int)<=(l.length:Int)∨(16:Int)<=((kW (s,l) t.1).length:Int):=J;have J:64<=l.length∨16<=(kW (s,l) t.1).length:=by omega
   have K:fU (s,l) t=4:=by unfold fU; rw[QC p,QC D,QC h3,QJ J]
   rw[h0]at K; cases K
  all_goals simp only[RG,Qw]at J
  all_goals have J:¬(64:Int)<=(l.length:Int)/\¬(16:Int)<=((kW (s,l) t.1).length:Int):=J
  all_goals have J:¬(64<=l.length∨16<=(kW (s,l) t.1).length):=by omega
  ·exfalso;have h5:0<jX (fq t.2) (1-gS l (kW (s,l) t.1)):=QF h5;have K:fU (s,l) t=19:=by unfold fU; rw[QC p,QC D,QC h3,QC J,QJ h5]
   rw[h0]at K; cases K
  have bi:l.length<64:=by omega
  clear p D h3 J h5 q1 q2 q3 af ac aH;refine hH.loop (fun i:Nat=>⟨[(11,.a_ (.int .i64) (i:Int)),(2,.ref 1 0),(3,.ref 2 0),(4,.ref 3 0)],[(1,.box 28 (.cons (.a_ .str s.1) (.cons (.a_ .bool s.2.1) (.cons (.a_ (.slice fe) s.2.2) (.cons (.a_ (.slice b8) l) .nil))))),(2,.box 37 (.cons (.a_ (.slice eK) t.1) (.cons (.a_ .bool t.2.1) (.cons (.a_ (.slice (.int .u32)) t.2.2.1) (.cons (.a_ (.slice (.int .u32)) t.2.2.2) .nil))))),(3,.box 28 (zA c7 .nil))],4⟩) (fun i=>i<=l.length) (fun i=>l.length-i) 0 4 (QE _) ?_ ?_
  ·dsimp only[go_sem];and_intros<;>first|trivial|rfl|omega
  ·rintro i hi R hm;refine hH.run 100 _ _ ?_;dsimp only[go_sem];simp only[QH,Su,R_];have aI:∀ j,l.getD j (zd b8)=l.getD j tz:=fun _=>rfl;simp only[aI];refine⟨fun d=>?_,fun d=>?_,fun d=>?_,fun d=>?_⟩
   ·have d:(i:Int)<(l.length:Int):=QF d;show(0:Int)<=(i:Int)/\(i:Int)<(l.length:Int);omega
   ·have d:(i:Int)<(l.length:Int):=QF d;have ht:(l.getD i tz).1.length<=1000/\fs (l.getD i tz).2<=1000:=au _ (fW tz (show i<l.length by omega));show(l.getD i tz).1.length<=1000000/\t.1.length<=1000000;omega
   ·simp only[QK,Qy]at d;have d1:(i:Int)<(l.length:Int):=d.1;have aJ:gG .i64 ((i:Int)+1):=by rw[c9]; omega
    refine⟨aJ,hm _ (i+1) 4 (by omega) (by omega) ?_⟩;dsimp only[go_sem];and_intros<;>first|trivial|rfl|omega
   ·clear d hm;refine hH.mR ⟨[(11,.a_ (.int .i64) (i:Int)),(2,.ref 1 0),(3,.ref 2 0),(4,.ref 3 0)],[(1,.box 28 (.cons (.a_ .str s.1) (.cons (.a_ .bool s.2.1) (.cons (.a_ (.slice fe) s.2.2) (.cons (.a_ (.slice b8) l) .nil))))),(2,.box 37 (.cons (.a_ (.slice eK) t.1) (.cons (.a_ .bool t.2.1) (.cons (.a_ (.slice (.int .u32)) t.2.2.1) (.cons (.a_ (.slice (.int .u32)) t.2.2.2) .nil))))),(3,.box 28 (zA c7 .nil))],4⟩ 4 ?_ ?_
    ·dsimp only[go_sem];and_intros<;>first|trivial|rfl|omega
    refine ad _ _ ?_;intro aK ρ a1 w1 C;clear hH ad aK;obtain⟨-,b1,C1,p1,y,r1,-⟩:=C.cs _ Qx;obtain⟨-,b2,C2,p2,g2,r2,-⟩:=C.cs _ (Qs _ Qx);obtain⟨-,b3,C3,p3,g3,r3,-⟩:=C.cs _ (Qs _ (Qs _ Qx));have p1:ρ[1]?=some (.pointer (some ⟨b1,0,none⟩)):=p1;have p2:ρ[2]?=some (.pointer (some ⟨b2,0,none⟩)):=p2;have p3:ρ[3]?=some (.pointer (some ⟨b3,0,none⟩)):=p3;have aL:w.heap.size<=b3:=(C.bl _ (Qs _ (Qs _ Qx)) b3 (fh p3 rfl)).2.resolve_right od;have r1:=ss r1;have r1:rep c7 (fun _=>False) w1 C1.toList (s,l):=eJ r1 fun b f=>f.elim;have r2:=NT r2;have r2:rep b8 (fun _=>False) w1 C2.toList t:=eJ r2 fun b f=>f.elim;have aM:C3.size=4:=by have:=tT r3; simpa using this
    have e2:gt a1 2=.pointer (some ⟨b1,0,none⟩):=by
     obtain⟨v,b,z1,z2,z3⟩:=C.sl 2 (.ref 1 0) rfl;rw[p1]at z1;cases z1;cases z2;exact(QB z3).1
    have e3:gt a1 3=.pointer (some ⟨b2,0,none⟩):=by
     obtain⟨v,b,z1,z2,z3⟩:=C.sl 3 (.ref 2 0) rfl;rw[p2]at z1;cases z1;cases z2;exact(QB z3).1
    have e4:gt a1 4=.pointer (some ⟨b3,0,none⟩):=by
     obtain⟨v,b,z1,z2,z3⟩:=C.sl 4 (.ref 3 0) rfl;rw[p3]at z1;cases z1;cases z2;exact(QB z3).1
    have aN:gt a1 11=.int .i64 (i:Int):=(fI (C.sl 11 (.a_ (.int .i64) (i:Int)) rfl)).1;have aO:=C.dn;have aP:a1.tmps.size=89:=C.sz;have ah:=C.kp.nZ;clear C p1 p2 p3 r3;have U:b_ Tryz.prog 28 ⟨c7,0,_,2⟩:=c_.fact (E:=E3) rfl;have ae:b_ Tryz.prog 26 ⟨.slice b8,37,24,0⟩:=c_.fact (E:=E3) rfl;have hT:b_ Tryz.prog 37 ⟨b8,0,80,2⟩:=c_.fact (E:=E3) rfl;have aQ:=eU (E:=E3) c_ (T:=26) (e:=⟨.slice b8,37,24,0⟩) rfl rfl;refine Re ?_;refine pa rfl (by decide) (by decide) (by decide) aP (by decide) (by decide) (by decide) A e2 y r1 fun a2 u2 bR nm ct cv tv S L g hL hB ai aj aR aS=>?_;obtain⟨n,hn⟩:∃ n,w1.heap.size=n:=⟨_,rfl⟩;rw[hn]at g hB;obtain⟨n6,F⟩:∃ n,u2.heap.size=n:=⟨_,rfl⟩;have V:b3<n:=by rw[<-hn]; exact b9 g3
    have av:b2<n:=by rw[<-hn]; exact b9 g2
    have aT:n<=n6:=by rw[<-F,<-hn]; exact hB.size
    have bj:bR<n6:=by rw[<-F]; exact b9 g.bx
    have bk:u2.heap[b3]?=some (.cells C3 28 (0,0)):=(hB.block b3 V).trans g3;have aw:u2.heap[b2]?=some (.cells C2 37 (0,0)):=(hB.block b2 av).trans g2;have r2:rep b8 (fun _=>False) u2 C2.toList t:=fx r2 (Ev.c8 (by rw[hn]; exact hB));have x3:=(aj 3 (by decide) (by decide) (by decide)).trans e3;have x4:=(aj 4 (by decide) (by decide) (by decide)).trans e4;have aU:=(aj 11 (by decide) (by decide) (by decide)).trans aN;refine SM ?_;refine jW (l:=[_,_,_,_,_,_,_,_,_]) (N:=89) wI.mx (Jm n6 bR i tv C2.toList (t.1,qf (fq t.2))) [0,1,0,0,8,24,63,127,255] [[(12,none)],[(80,some 0)],[(11,none)],[(3,none)],[(83,some 3)],[(84,some 4)],[(81,some 1),(82,some 2),(85,some 5)],[(12,none)],[(87,some 7),(86,some 6)]] 6 aS (by kernel_rfl) (by kernel_rfl) Is ?_ ?_
    ·intro j o hj G
     match j,hj with
     | 0,_ =>
      cases G
      refine⟨rfl,fun val a u f M A=>?_⟩
      have y:gt a 12=gt a2 12:=A (12,none) (by simp)
      exact fc (fm (x:=.tmp 12) U rfl rfl (show 1<2 by decide) (y.trans ai)) ⟨QG _ _,rfl⟩
     | 1,_ =>
      cases G
      refine⟨rfl,fun val a u f M A=>?_⟩
      have y:gt a 80=val 0:=A (80,some 0) (by simp)
      have h0:val 0=.pointer (some ⟨bR,3,none⟩):=M 0 (by decide) (by decide)
      exact fc (fv (x:=.tmp 80) ae rfl (y.trans h0) (g.keep f).bx (cs:=[tv]) rfl rfl rfl) ⟨QG _ _,rfl⟩
     | 2,_ =>
      cases G
      refine⟨rfl,fun val a u f M A=>?_⟩
      have y:gt a 11=gt a2 11:=A (11,none) (by simp)
      exact fc (fE (x:=.tmp 11) rfl) ⟨QG _ _,y.trans aU⟩
     | 3,_ =>
      cases G
      refine⟨rfl,fun val a u f M A=>?_⟩
      have y:gt a 3=gt a2 3:=A (3,none) (by simp)
      exact fc (fv (x:=.tmp 3) hT rfl (y.trans x3) ((f.block b2 (b9 aw)).trans aw) (cs:=C2.toList) (by rw[RP]; exact QQ (SA (eR r2))) (eR r2) rfl) ⟨QG _ _,rfl⟩
     | 4,_ =>
      cases G
      refine⟨rfl,fun val a u f M A=>?_⟩
      have y:gt a 83=val 3:=A (83,some 3) (by simp)
      have h0:val 3=b8.wrap C2.toList:=M 3 (by decide) (by decide)
      have hu:n6<=u.heap.size:=by rw[<-F]; exact f.size
      refine gL (vs:=[b8.wrap C2.toList]) (e_ Tryz.func33 rfl rfl) (by rw[Sd]; exact Sr (fun z=>#[z]) (y.trans h0)) ?_
      refine TB (Hh (t:=t) ab (by omega) ⟨C2.toList,fx r2 (Ev.c8 f),rfl⟩) ?_
      rintro e u' ⟨zz,rfl,g2,g3⟩
      exact⟨zz,rfl,g3,g2.le hu⟩
     | 5,_ =>
      cases G
      refine⟨rfl,fun val a u f M A=>?_⟩
      have y:gt a 84=val 4:=A (84,some 4) (by simp)
      obtain⟨ys,p,D⟩:mU n6 u b8 (t.1,qf (fq t.2)) (val 4):=M 4 (by decide) (by decide)
      have hu:n6<=u.heap.size:=by rw[<-F]; exact f.size
      have ax:=fC u (.cells ys.toArray 37)
      exact fc (EI (x:=.tmp 84) hT rfl (by decide) (by decide) rfl aQ (y.trans D) (ft p) (fQ p)) ⟨ax,u.heap.size,ys,rfl,S_ u _,hu,eZ p (Ev.c8 ax)⟩
     | j+6,hj=>omega
    ·intro val u a3 f M Z hd hs;have ay:∀ b,fa tv=some b->b<n6:=fun b f=>by rw[<-F]; exact g.tu.rw.lt f
     have g:=g.keep f;have aV:gt a3 81=val 1:=Z 81 (by decide);have aW:gt a3 82=val 2:=Z 82 (by decide);have ak:gt a3 85=val 5:=Z 85 (by decide);have az:gt a3 12=gt a2 12:=Z 12 (by decide);have y4:gt a3 4=gt a2 4:=Z 4 (by decide);have v1:val 1=tv:=M 1 (by decide);have v2:val 2=.int .i64 (i:Int):=M 2 (by decide);obtain⟨vb,ys,v5,c5,n5,r5⟩:∃(vb:Nat) (ys:List Value),val 5=.slice (some ⟨vb,0,none⟩) 1 1/\u.heap[vb]?=some (.cells ys.toArray 37 (0,0))/\n6<=vb/\fg b8 (fun b=>b<n6) u ys (t.1,qf (fq t.2)):=M 5 (by decide);obtain⟨xs,t1,t2,t3⟩:=g.tu;have hL:L.length=l.length:=hL;have aX:ys.length=4:=ft r5;refine jO 86 rfl rfl (by rw[hs]; decide) (gL (vs:=[tv,.int .i64 (i:Int),.slice (some ⟨vb,0,none⟩) 1 1]) (e_ Tryz.func32 rfl rfl) (by
      rw[Sd];show #[gt a3 81,gt a3 82,gt a3 85]=_;rw[aV,aW,ak,v1,v2,v5]) (yb t1 t2 (J4 aX c5) (fQ r5) (fun b f e=>by have:=ay b f; omega) (by rw[hL]; exact hi) (by omega))) fun v' u4 a4 aY k4=>?_
     obtain⟨aA,B,aZ⟩:=aY;refine eV 87 rfl rfl (by rw[k4.sz,hs]; decide) (fm (x:=.tmp 12) U rfl rfl (show 1<2 by decide) ((k4.ne 12 (by decide)).trans (az.trans ai))) fun a5 k5=>?_;have al:v'.oneCell'=true:=by
      obtain⟨_,_,_,rfl⟩:=gb aA;rfl
     have ba:u4.heap[bR]?=some (.cells #[nm,ct,cv,tv] 28 (0,0)):=(B.block bR (b9 g.bx) fun e=>g.ne e.symm).trans g.bx;refine mH (cs:=[v']) ae rfl rfl rfl k5.v ba (show 0+3+1<=4 by decide) ((k5.ne 86 (by decide)).trans k4.v) rfl (fun c W=>by rw[RH.1 W]; exact al) fun u6 q6 I=>RM ?_;have aB:NB n bR u6 nm ct cv v' S (L.take i++[(t.1,qf (fq t.2))]++L.drop i):=by
      refine g.swap B aZ (xs:=xs.take (i*4)++ys++xs.drop (i*4)) ?_ (fun c W=>?_) ?_ I q6
      ·have:(L.take i++[((t.1,qf (fq t.2)):b8.den)]++L.drop i).length=L.length+1:=by
         rw[QO,QO,QM,Q5];show min i L.length+1+(L.length-i)=_;omega
       rw[this];exact aA
      ·rcases QZ.1 W with W|W
       ·rcases QZ.1 W with W|W
        ·exact t2 c (RB W)
        ·exact fQ r5 c W
       ·exact t2 c (Rh W)
      ·exact acF t1.1 t3 (fo r5 fun b f=>.inl (by
         show b<n6;rcases f with f|f|f
         ·omega
         ·exact ay b f
         ·omega)) (by rw[hL]; exact hi)
     have aC:Below n w1 u6:=by
      have p:=hB.trans (f.mono (by rw[F]; exact aT));refine⟨I.io.1.trans (B.os.trans p.os),I.io.2.1.trans (B.tape.trans p.tape),I.io.2.2.trans (B.output.trans p.output),by rw[I.sz]; exact QL p.size B.size,fun k hk=>?_⟩;rw[I.ne k (by have:=g.nR; omega),B.block k (QI (by omega) p.size) fun e=>by have:=g.nb k e.symm; omega];exact p.block k hk
     have z5:a5.tmps.size=89:=by rw[k5.sz,k4.sz,hs]
     refine SM (Re ?_);refine oR (tb:=12) (t4:=4) (t5:=5) (b4:=b3) (C4:=C3) rfl (by decide) (by decide) z5 (by decide) (by decide) aB ((k5.ne 12 (by decide)).trans ((k4.ne 12 (by decide)).trans (az.trans ai))) ((k5.ne 4 (by decide)).trans ((k4.ne 4 (by decide)).trans (y4.trans x4))) ((aC.block b3 V).trans g3) aM V fun a8 u8 q8 bb bc bd ak be=>W2 ?_;rw[<-hQ];refine⟨by rw[be,k5.dn,k4.dn,hd,aR]; exact aO,.tuple #[c7.wrap [nm,ct,cv,v'],gt a8 5],qE (fn:=Tryz.f7) rfl bd (fR (P:=Tryz.prog) U (off:=0) q8 (cs:=[nm,ct,cv,v']) rfl rfl),_,_,by rw[ak],bc.le (by rw[<-hn]; exact ah.size),bb.below aL (ah.trans (aC.mono (by rw[<-hn]; exact ah.size)))⟩
 obtain⟨a0,Y⟩:∃ a0:Act,({ tmps:=#[vr,vt]++Array.replicate ((Tryz.f7).ntmps-#[vr,vt].size) undef,defers:=[] }:Act)=a0:=⟨_,rfl⟩;have k0:gt a0 0=vr:=by rw[<-Y]; exact jL (vs:=[vr,vt]) rfl
 have k1:gt a0 1=vt:=by rw[<-Y]; exact jL (vs:=[vr,vt]) rfl
 have kd:a0.defers=[]:=by rw[<-Y]
 have ks:a0.tmps.size=89:=by
  rw[<-Y];have:(Tryz.f7).ntmps=89:=rfl;simp only[Tl,RQ,S2,this,Rr,Tn]
 rw[Y];refine key _ a0 w (Lh kd ks fun q z hz=>?_);have hz:=b7 hz;simp only[Qv,SB,QW,RV]at hz;rcases hz with⟨rfl,rfl⟩|⟨rfl,rfl⟩
 ·rw[k0]; exact an
 ·rw[k1]; exact ao
end Go.Proofs.YtbokoblnehgkaabGreat.Gx
