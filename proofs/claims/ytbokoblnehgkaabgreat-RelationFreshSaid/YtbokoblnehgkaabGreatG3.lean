/-
  The walk as a computation: regions, loops, contracts.
-/
import Derived.Test.YtbokoblnehgkaabGreatG2
import Derived.LoopN
import Derived.Great.BuildSlice
import Derived.Great.FillDense
set_option linter.unusedVariables false
set_option linter.unusedSimpArgs false
set_option maxHeartbeats 4000000
set_option maxRecDepth 100000
namespace Go.Proofs.YtbokoblnehgkaabGreat.Gx
open Go Go.RowKit Tw
def gW(N:Nat)(o:Oper):Bool:=nC o.op&&(match o.dst with|some d=>decide (d<N)|none=>true)
theorem jT{N:Nat}{o:Oper}(h:gW N o=true):∀ t,o.dst=some t->t<N:=by
 intro t e;simp only[gW,QK,e,Qy]at h;exact h.2
theorem lR{N:Nat}{o:Oper}(h:gW N o=true):nC o.op=true:=by
 simp only[gW,QK]at h;exact h.1
section
variable{E:Env}{w0:World}{X0 Y:Nat->Prop}{Bo:List Value}{N:Nat}{st st':St}{ρ:List Value}{a:Act}{w w':World}{ps:List Prop}{an:An}
theorem pF{P:Program}{o:Oper}{v:Value}{K:Act->World->Prop}{Q:Exit->Act->World->Prop}(h:(execOp a.eval o).run P w=.ok (.value v) w')(b:K (a.put o.dst v) w'):o.wp P a w K Q:=by
 unfold Oper.wp;rw[h]; exact b
theorem mN{d:Nat}{op:Op}{ty:TypeId}{pos:String}{af:Array Edge}{K:Act->World->Prop}{Q:Exit->Act->World->Prop}(h:Made E w0 X0 Bo N st' a w d op ty pos af)(b:∀ ρ' a' w',Fr w0 X0 Bo N st' ρ' a' w'->K a' w') :
    Oper.wp E.P ⟨some d,op,ty,pos,af,none⟩ a w K Q:=by
 obtain⟨v,w',ρ',c,e⟩:=h;exact pF c (b _ _ _ e)
theorem pP{k:Nat}{z:CT}{ck:List (Nat×CT)}(f:get? ck k=some z)(c:w.grownBy w' (oA ρ k)):Ev (XX X0 ρ ck) w w' :=
 ⟨c.size,fun b g h=>c.block b g fun e=>h (.inr ⟨_,b7 f,mg e.symm⟩)⟩
theorem qU{k:Nat}{ck:List (Nat×CT)}{b:Nat}(h:XX X0 ρ (del ck k) b):XX X0 ρ ck b:=by
 rcases h with h|⟨x,c,h⟩
 ·exact .inl h
 ·exact .inr ⟨x,(fX c).1,h⟩
theorem Fr.Lg(h:Fr w0 X0 Bo N st ρ a w){k:Nat}{z:CT}(l:get? st.ck k=some z)(f:w.grownBy w' (oA ρ k)):Fr w0 X0 Bo N ⟨st.sl,del st.ck k,st.nx⟩ ρ a w':=by
 have g:=b7 l;have m:Ev (XX X0 ρ st.ck) w w':=pP l f;have n:∀ b,XX X0 ρ (del st.ck k) b->XX X0 ρ st.ck b∨w.heap.size<=b:=fun b i=>.inl (qU i);refine⟨h.dn,h.sz,⟨f.os.trans h.kp.os,f.tape.trans h.kp.tape,f.output.trans h.kp.output,QL h.kp.size f.size,fun b i o=>?_⟩,h.nx,h.nd.sublist lT,fun x c=>h.kn x (fX c).1,fun x c b e=>?_,fun x c y q=>h.dj x (fX c).1 y (fX q).1,fun x c=>?_,fun t x c=>mW (h.sl t x c) n m,⟨h.pn.bo,h.pn.le,fun x c=>h.pn.pn x (fX c).1⟩⟩
 ·rw[f.block b (QI i h.kp.size) fun e=>?_,h.kp.block b i o];rcases(h.bl _ g b (mg e.symm)).2 with p|p
  ·omega
  ·exact o p
 ·have:=h.bl x (fX c).1 b e;exact⟨QI this.1 f.size,this.2⟩
 ·obtain⟨j,s⟩:=fX c;exact kq (h.cs x j) n m fun b e=>f.block b (h.bl x j b e).1 fun u=>h.dj x j _ g s b e (mg u.symm)
theorem Iu(hE:E.Ok)(h:Fr w0 X0 Bo N st ρ a w)(L:∀ b,X0 b->b<w0.heap.size){d:Nat}(hd:d<N){S:TypeId}{x:AV}{o1:Operand}{ty:TypeId}{pos:String}{af:Array Edge}(M:m ρ (XX X0 ρ st.ck) w x [a.eval o1])
    (q:DH E st S x d=some (st',ps)) (hp:eP ps):Made E w0 X0 Bo N st' a w d (.convert S S o1) ty pos af:=by
 unfold DH at q;split at q
 ·rename_i c;split at q
  ·rename_i T t l O;split at q
   ·rename_i u hu;split at q
    ·rename_i h8;cases q;obtain⟨R,-⟩:=hp;obtain⟨e0,U,V⟩:=wV hE hu h8;obtain⟨v,W,ar,z⟩:=M;have z:=(QB z).1;have o:=b7 O;obtain⟨v2,xs,g1,g2,g3,g4⟩:=h.cs _ o;rw[W]at g1;cases g1;have D:∀ b,XX X0 ρ (del st.ck c) b->XX X0 ρ st.ck b:=fun b s=>qU s;have Z:∀ b,fk ρ c b->¬XX X0 ρ (del st.ck c) b:=by
      rintro b s (h'|⟨x,M,h'⟩)
      ·exact jJ h L o s h'
      ·obtain⟨m1,m2⟩:=fX M;exact h.dj x m1 _ o m2 b h' s
     have F:m ρ (XX X0 ρ (del st.ck c)) w (.a_ (.slice t) l) [v]:=sx (h.cs _ o) D Z W;obtain⟨q0,q1⟩:=g2;rcases q1 with⟨_,q1⟩|⟨g,cap,j,rfl,_,s,al,ao,au,aa⟩
     ·exact absurd q1 R
     ·obtain⟨w',n⟩:∃ w':World,w'={ w with heap:=w.heap.modify g fun _=>.cells j T (j.size,j.size+1) }:=⟨_,rfl⟩;have av:g<w.heap.size:=b9 s;have ab:w'.heap[g]?=some (.cells j T (j.size,j.size+1)):=by
       rw[n];show(w.heap.modify g _)[g]?=_;rw[SY,QJ rfl,s];rfl
      have y:∀ k,k≠g->w'.heap[k]?=w.heap[k]?:=fun k hk=>by
       rw[n];show(w.heap.modify g _)[k]?=_;rw[SY,QC (fun e=>hk e.symm)]
      have A:w'.heap.size=w.heap.size:=by rw[n]; exact Array.size_modify
      have ac:oA ρ c=some g:=by rw[oe W]; rfl
      have G:w.grownBy w' (oA ρ c):=⟨by rw[n],by rw[n],by rw[n],by rw[A]; exact Qu _,fun k _ hn=>y k fun e=>hn (by rw[ac,e])⟩;have H:(execOp a.eval ⟨some d,.convert S S o1,ty,pos,af,none⟩).run E.P w=.ok (.value (.slice (some ⟨g,0,none⟩) l.length cap)) w':=by
       have ad:w.shape? g=some (T,j.size):=by unfold World.shape?; rw[s]
       have ae:w.freeze ⟨g,j.size,none⟩ 1=w':=by
        rw[n];unfold World.freeze;rw[QC (by decide)];congr 1;apply Array.ext_getElem?;intro k;rw[SY,SY];split
        ·rename_i hk;subst hk;rw[s];rfl
        ·rfl
       simp only[execOp,z];simp[convert,Rb U,Rb V,markStringish,ad,ae]
      refine⟨_,w',ρ,H,(h.Lg O G).slot hd ?_⟩;obtain⟨cs,⟨a0,p,r1,r2,r3,r4,r5⟩,r6⟩:=F;refine⟨cs,⟨a0,p,r1,r2,r3,r4,fun ah=>?_⟩,r6⟩;obtain⟨b,off,C,T',f,rfl,k1,k2,k3⟩:=r5 ah;have ai:b=g:=by
       have I:[Value.slice (some ⟨g,0,none⟩) l.length cap]=[(Ty.slice t).wrap cs]:=r6;rw[r1]at I;have B:=(QB I).1;have B:Value.slice (some ⟨g,0,none⟩) l.length cap=Value.slice (some ⟨b,off,none⟩) l.length p:=B;injection B with e3;injection e3 with e4;injection e4 with e5;exact e5.symm
      subst ai;rw[s]at k2;cases k2;have J:off=0:=by
       have I:[Value.slice (some ⟨b,0,none⟩) l.length cap]=[(Ty.slice t).wrap cs]:=r6;rw[r1]at I;have B:=(QB I).1;have B:Value.slice (some ⟨b,0,none⟩) l.length cap=Value.slice (some ⟨b,off,none⟩) l.length p:=B;injection B with e3;injection e3 with e4;injection e4 with e5 e6;exact e6.symm
      subst J;refine⟨b,0,j,T,_,rfl,k1,ab,fun i x hi=>?_⟩;have aj:i<l.length:=by
       rcases QA i l.length with h|h
       ·exact h
       ·rw[QD h]at hi; cases hi
      have aq:i*t.size+t.size<=l.length*t.size:=by
       have:=Q_ t.size (show i+1<=l.length from aj);rw[T4,Nat.one_mul]at this;exact this
      have K:=g4 i x hi;rw[<-aa,Sw,Sk,Rv (by omega)]at K;rw[Q8];exact eJ (fx K (pP O G)) fun b' ak=>.inl (D b' ak)
    ·cases q
   ·cases q
  ·cases q
 ·cases q
theorem xv(s:E.Ok)(h:Fr w0 X0 Bo N st ρ a w)(k:∀ b,X0 b->b<w0.heap.size){o:Oper}(U:gW N o=true)(j:Ma E st o=some (st',ps))(V:eP ps){K:Act->World->Prop}{Q:Exit->Act->World->Prop}(u:∀ ρ' a' w',Fr w0 X0 Bo N st' ρ' a' w'->K a' w'):o.wp E.P a w K Q:=by
 obtain⟨dst,op,ty,pos,af,gd⟩:=o;show Oper.wp E.P ⟨dst,op,ty,pos,af,none⟩ a w K Q;have G:nC op=true:=lR U;have l:∀ x∈gD op,eP (fG st.sl (gD op))->∀ y,lj st.sl x=some y->m ρ (XX X0 ρ st.ck) w y [a.eval x]:=fun x A aa y H =>
  gV (fun t _ x A=>h.sl t x A) aa A (ga G A) H
 unfold Ma at j;split at j
 ·rename_i d W;simp only at W;subst W;have AO:d<N:=jT U d rfl;split at j
  ·rename_i B C f;cases j;obtain⟨g,i⟩:=V.app;dsimp only at f g;cases op with
   | alloc T=>exact mN (vQ s h AO f) u
   | box T x =>
    simp only[OO]at f
    split at f
    ·rename_i I;exact mN (LF s h AO (l _ (by simp[gD]) g _ I) f) u
    ·cases f
   | makeSlice T x y =>
    simp only[OO]at f
    split at f
    ·rename_i I e3;exact mN (Jq s h AO (l _ (by simp[gD]) g _ I) (l _ (by simp[gD]) g _ e3) f i) u
    ·cases f
   | convert S D x =>
    simp only[OO]at f
    split at f
    ·rename_i J;have J:=QR J;subst J;split at f
     ·rename_i I;exact mN (Iu s h k AO (l _ (by simp[gD]) g _ I) f i) u
     ·cases f
    ·cases f
   | buildSlice T n parts=>exact mN (KN s h k AO (fun x A y H=>l x A g y H) f) u
   | call c =>
    have ab:∀ x∈gD (.call c),∀ y,lj st.sl x=some y->m ρ (XX X0 ρ st.ck) w y [a.eval x]:=fun x A y H=>l x A g y H
    obtain⟨callee,args,p⟩:=c
    simp only[OO]at f
    split at f
    ·split at f
     ·rename_i M O T T' z R;split at f
      ·rename_i hT;have hT:=QR hT;subst hT;split at f
       ·rename_i v1 v2 po q;have Z:M∈gD (.call { callee:=.builtin .append,args:=args,argTypes:=p }):=by simp only[gD,z]; simp
        have h2:O∈gD (.call { callee:=.builtin .append,args:=args,argTypes:=p }):=by simp only[gD,z]; simp
        exact mN (AF s h k AO (l _ Z g _ po) (l _ h2 g _ q) f i (by rw[<-Rx]; exact z) (by rw[<-Rx]; exact R)) u
       ·cases f
      ·cases f
     ·cases f
    ·split at f
     ·rename_i M O T T' z R;split at f
      ·rename_i v1 v2 po q;have Z:M∈gD (.call { callee:=.builtin .copy,args:=args,argTypes:=p }):=by simp only[gD,z]; simp
       have h2:O∈gD (.call { callee:=.builtin .copy,args:=args,argTypes:=p }):=by simp only[gD,z]; simp
       exact mN (II s h k AO (l _ Z g _ po) (l _ h2 g _ q) f i (by rw[<-Rx]; exact z) (by rw[<-Rx]; exact R)) u
      ·cases f
     ·cases f
    ·exact zy s h k (by intro t e; cases e; exact AO) ab f i u
   | _=>cases f
  ·cases j
 ·rename_i W;simp only at W;subst W;dsimp only at j;cases op with
  | store T M O =>
   dsimp only at j
   split at j
   ·rename_i v1 v2 po q;split at j
    ·rename_i B C f;cases j;obtain⟨g,i⟩:=V.app;obtain⟨w',r1,r2⟩:=Dy (ty:=ty) (pos:=pos) (af:=af) s h k (l M (by simp[gD]) g _ po) (l O (by simp[gD]) g _ q) f i;unfold Oper.wp;rw[r1];exact u _ _ _ r2
    ·split at j
     ·rename_i B tc C f;cases j;obtain⟨g,i⟩:=V.app;obtain⟨⟨w',r1,r2⟩,r3,_⟩:=Dp (dst:=none) (ty:=ty) (pos:=pos) (af:=af) (a':=a) s (jx h) k (l M (by simp[gD]) g _ po) (l O (by simp[gD]) g _ q) f i (ud h);obtain⟨ρ',hf⟩:=Hp h r2;unfold Oper.wp;rw[r1];rw[<-r3]at hf;exact u _ _ _ hf
     ·cases j
   ·cases j
  | call c =>
   dsimp only at j
   split at j
   ·rename_i L;split at j
    ·rename_i B C f;cases j;obtain⟨g,i⟩:=V.app;obtain⟨callee,args,p⟩:=c;unfold aac at L;split at L
     ·rename_i F;dsimp only at F;subst F;unfold P3 at f;split at f
      ·rename_i x T z R;split at f
       ·rename_i v1 po;split at f
        ·rename_i ae ah I;cases f;have Z:x∈gD (.call { callee:=.builtin .clear,args:=args,argTypes:=p }):=by
          dsimp only at z;simp only[gD,z]; simp
         have ac:args=#[x]:=by rw[<-Rx]; exact z
         have ad:p=#[T]:=by rw[<-Rx]; exact R
         clear z R;subst ac ad;obtain⟨w',r1,r2⟩:=ER s h k (l _ Z g _ po) I i ty;refine pF (v:=.tuple #[]) (w':=w') ?_ (u ρ _ w' r2);simp[execOp,resolve,invoke,builtin,r1]
        ·cases f
       ·cases f
      ·cases f
     ·cases L
    ·cases j
   ·split at j
    ·rename_i B C f;cases j;obtain⟨g,i⟩:=V.app;exact zy s h k (by intro t e; cases e) (fun x A y H=>l x A g y H) f i u
    ·cases j
  | _=>cases j
theorem Ks(i:E.Ok)(h:Fr w0 X0 Bo N st ρ a w)(c:∀ b,X0 b->b<w0.heap.size){o:Oper}(f:gW N o=true)(g:OY E st o an=some (st',ps))(j:eP ps){K:Act->World->Prop}{Q:Exit->Act->World->Prop}(k:∀ ρ' a' w',Fr w0 X0 Bo N st' ρ' a' w'->K a' w'):o.wp E.P a w K Q:=by
 unfold OY at g;split at g
 ·split at g
  ·exact xv i h c f g j k
  ·split at g
   ·rename_i e;cases g;exact xv i h c f e j fun ρ' a' w' l=>k _ _ _ (rE c l)
   ·cases g
 ·split at g
  ·exact xv i h c f g j k
  split at g
  ·rename_i m r tc n e;cases g;obtain⟨⟨v,w',p,q⟩,s,_⟩:=yD (a':=a) i (jx h) c (lR f) (fun t _ x u=>h.sl t x u) e j (ud h);obtain⟨ρ',l⟩:=Di h (jT f) q;rw[<-s]at l;exact pF p (k ρ' _ w' l)
  ·cases g
 ·exact xv i h c f g j k
theorem xu(q:E.Ok)(h:Fr w0 X0 Bo N st ρ a w)(f:∀ b,X0 b->b<w0.heap.size){ops:Array Oper}{ds:List (Option Nat)}(k:∀ g:Nat,ju ds g=(ops[g]?).map Oper.dst){o:Oper}(i:gW N o=true)
    (c:Bs E st ds o an=some (st',ps)) (s:eP ps) {K:Act->World->Prop}{Q:Exit->Act->World->Prop} (l:∀ ρ' a' w',Fr w0 X0 Bo N st' ρ' a' w'->K a' w') :
    if Region.wanted o (yielded ops a.tmps)then o.wp E.P a w K Q else K (a.put o.dst undef) w:=by
 unfold Bs at c;split at c
 ·split at c
  ·rename_i r B C;cases c;obtain⟨D,F⟩:=tP (a:=a) q (h.wd f) k (lR i) (fun t _ x n=>h.sl t x n) (fun g w' _ t _ x n=>h.sl t x n) C s;by_cases p:qm ops o a
   ·rw[QJ (iS.2 p)];exact(D p).wp fun v w' ⟨G,H⟩=>l _ _ _ (h.pure f H (jT i) G)
   ·rw[QC (fun e=>p (iS.1 e))];exact l _ _ _ (h.pure f (QG _ _) (jT i) (F p))
  ·cases c
 ·split at c
  ·rename_i g y j;split at c
   ·rename_i t z;split at c
    ·rename_i x n;have A:=h.sl t x n;split at c
     ·rename_i u;rw[QJ (iS.2 ((sA k j z).2 (vK u A)))];exact Ks q h f i c s l
     ·rename_i u;cases c;rw[QC (fun e=>tG u A ((sA k j z).1 (iS.1 e)))];exact l _ _ _ (h.pure f (QG _ _) (jT i) (show m _ _ _ (.val undef) [undef]from rfl))
     ·cases c
    ·cases c
   ·cases c
  ·rename_i j;rw[QJ (by simp[Region.wanted,j])];exact Ks q h f i c s l
theorem kD{ann:List (Nat×An)}{ds:List (Option Nat)}:∀{l:List Oper}{st st':St}{b ps:List Prop},gP E ann ds l st b=some (st',ps)->∃ k,ps=b++k
 | [],st,st',b,ps,h=>by cases h; exact⟨[],by simp⟩
 | o::l,st,st',b,ps,h=>by
  simp only[gP]at h;split at h
  ·rename_i qs e;obtain⟨k,hk⟩:=kD h;exact⟨qs++k,by rw[hk,QP]⟩
  ·cases h
theorem Af(q:E.Ok)(j:∀ b,X0 b->b<w0.heap.size){ops:Array Oper}{ds:List (Option Nat)}(m:∀ g:Nat,ju ds g=(ops[g]?).map Oper.dst){ann:List (Nat×An)}{Q:Exit->Act->World->Prop} :
    ∀{l:List Oper}{st st':St}{ρ:List Value}{a:Act}{w:World}{c ps:List Prop},Fr w0 X0 Bo N st ρ a w->gP E ann ds l st c=some (st',ps)->eP ps->(∀ o∈l,gW N o=true) ->
     (∀ ρ' a' w',Fr w0 X0 Bo N st' ρ' a' w'->Q .normal a' w')->wpList E.P ops Q l a w
 | [],st,st',ρ,a,w,c,ps,h,f,n,i,p=>by cases f; exact p _ _ _ h
 | o::l,st,st',ρ,a,w,c,ps,h,f,n,i,p=>by
  simp only[gP]at f;split at f
  ·rename_i s qs e;obtain⟨k,hk⟩:=kD f;have t:eP qs:=by rw[hk]at n; exact n.app.1.app.2
   refine Xa fun K u=>?_;exact xu q h j m (i o Qx) e t fun ρ' a' w' v=>u _ _ (Af q j m v f n (fun o x=>i o (Qs _ x)) p)
  ·cases f
theorem C7{b:Type}:∀{l:List b}{n:Nat},ju l n=l[n]?
 | [],n=>by simp[ju]
 | x::l,0=>rfl
 | x::l,n+1=>by simp only[ju,Vi]; exact C7
theorem qh:∀{l:List Oper},hU l=l.map (·.dst)
 | []=>rfl
 | o::l=>by simp[hU,qh (l:=l)]
theorem n_(l:List Oper):∀ g:Nat,ju (hU l) g=(l.toArray[g]?).map Oper.dst:=by
 intro g; rw[C7,qh]; simp
def Ln:List Operand->List Nat
 | []=>[]
 | .tmp t::l=>t::Ln l
 | _::l=>Ln l
theorem kg{t:Nat}:∀{l:List Operand},.tmp t∈l->t∈Ln l
 | .tmp u::l,h=>by
  rcases Qv.1 h with h|h
  ·cases h; exact Qx
  ·exact Qs _ (kg h)
 | .const _::l,h=>kg (l:=l) (by simpa using h)
 | .global _::l,h=>kg (l:=l) (by simpa using h)
 | .func _::l,h=>kg (l:=l) (by simpa using h)
def rK(ds:List (Option Nat))(o:Oper):List Nat :=
 Ln (gD o.op)++(match o.guard with
  | some (g,_)=>match ju ds g with|some (some t)=>[t]|_=>[]
  | none=>[])
def Oj(l:List Oper):List Nat:=l.foldl (fun M o=>M++[pH M o]) []
def gX(ds:List (Option Nat)):Nat->List Oper->List (List (Nat×Option Nat))
 | _,[]=>[]
 | j,o::l=>(rK ds o).map (fun t=>(t,lw ds (fun _=>true) t j))::gX ds (j+1) l
theorem Kd{ann:List (Nat×An)}{o:Oper}(h:iZ ann o=false):oJ (mX ann o) o.op=false:=by
 unfold iZ at h;split at h
 ·cases h
 ·rename_i e; exact e
def rR(ann:List (Nat×An))(o:Oper):Bool:=iZ ann o||mQ o
def fZ(ann:List (Nat×An)):List Oper->Nat
 | []=>0
 | o::l=>match rR ann o with|true=>fZ ann l+1|false=>0
def alB(ds:List (Option Nat))(p:List Oper):Bool :=
 p.zipIdx.all fun(o,i)=>!mQ o||(p.zipIdx.all fun(b,j)=>decide (i=j)||!(b.dst == o.dst))&&(p.all fun b=>!((rK ds b).map some).contains o.dst)
def xa(ann:List (Nat×An)):List Oper->Option (List Nat)
 | []=>some []
 | o::l=>match mX ann o,xa ann l with
  | .dy c,some b=>some (c::b)
  | .dr _ _ _ _,_=>none
  | .dn,_=>none
  | _,r=>r
def dyB(ann:List (Nat×An))(l:List Oper):Bool :=
 match xa ann l with
 | some b=>qM b
 | none=>false
def Ij(N:Nat)(l:List Oper)(M:List Nat)(b:List (List (Nat×Option Nat)))(c:Nat):Bool:=ES l M b N&&mP l M c&&alB (hU l) (l.take c)
def JY(ann:List (Nat×An))(N:Nat)(l:List Oper):Bool:=Ij N l (Oj l) (gX (hU l) 0 l) (fZ ann l)&&dyB ann l
theorem BK(ds:List (Option Nat))(l:List Oper):∀(b j:Nat) (o:Oper),l[j]?=some o->(gX ds b l).getD j []=(rK ds o).map (fun t=>(t,lw ds (fun _=>true) t (b+j))):=by
 induction l with
 | nil=>intro b j o h; simp at h
 | cons c l e =>
  intro b j o h
  cases j with
  | zero =>
   have h:c=o:=by simpa using h
   subst h; rfl
  | succ j =>
   have:=e (b+1) j o (by simpa using h)
   simp only[gX,List.getD_cons_succ,this]
   rw[show b+1+j=b+(j+1) by omega]
theorem KJ{ann:List (Nat×An)}{l:List Oper}:∀{j:Nat}{o:Oper},j<fZ ann l->l[j]?=some o->rR ann o=true:=by
 induction l with
 | nil=>intro j o h; exact absurd h (Q' _)
 | cons e l f =>
  intro j o h b
  cases c:rR ann e with
  | false=>simp only[fZ,c]at h; exact absurd h (Q' _)
  | true =>
   simp only[fZ,c]at h
   cases j with
   | zero =>
    have b:e=o:=by simpa using b
    subst b; exact c
   | succ j=>exact f (j:=j) (by omega) (by simpa using b)
theorem DK{ann:List (Nat×An)}:∀{l:List Oper},fZ ann l<=l.length
 | []=>Qu _
 | o::l=>by
  simp only[fZ,Rr];split
  ·have:=DK (ann:=ann) (l:=l); omega
  ·omega
theorem Dq{ann:List (Nat×An)}:∀{l:List Oper},Fw ann l=(l.take (fZ ann l)).filter fun o=>iZ ann o
 | []=>rfl
 | o::l=>by
  have b:=Dq (ann:=ann) (l:=l);simp only[Fw,fZ,rR];cases c:iZ ann o<;>cases e:mQ o<;>simp[c,b]
theorem DF{ann:List (Nat×An)}:∀{l:List Oper},E9 ann l=(l.take (fZ ann l)).filter fun o=>!iZ ann o
 | []=>rfl
 | o::l=>by
  have b:=DF (ann:=ann) (l:=l);simp only[E9,fZ,rR];cases c:iZ ann o<;>cases e:mQ o<;>simp[c,b]
theorem Da{ann:List (Nat×An)}:∀{l:List Oper},EE ann l=l.drop (fZ ann l)
 | []=>rfl
 | o::l=>by
  have b:=Da (ann:=ann) (l:=l);simp only[EE,fZ,rR];cases c:iZ ann o<;>cases e:mQ o<;>simp[b]
def Bk(ann:List (Nat×An))(sl:List (Nat×AV))(l:List Oper)(R:Nat->AV):Nat->List (Nat×AV)
 | 0=>sl
 | k+1=>match l[k]? with
  | some o=>match iZ ann o with
   | true=>put (Bk ann sl l R k) o.dst (R k)
   | false=>Bk ann sl l R k
  | none=>Bk ann sl l R k
theorem s'{ann:List (Nat×An)}{sl:List (Nat×AV)}{l:List Oper}{R:Nat->AV}{t:Nat}:∀{k:Nat},k<=l.length->(∀ i o,i<k->l[i]?=some o->iZ ann o=false->o.dst≠some t) ->
    get? (Bk ann sl l R k) t=match lw (l.map (·.dst)) (fun _=>true) t k with|some i=>some (R i)|none=>get? sl t
 | 0,_,_=>rfl
 | k+1,hk,c=>by
  have e:=s' (ann:=ann) (sl:=sl) (l:=l) (R:=R) (t:=t) (k:=k) (by omega) (fun i o hi=>c i o (by omega));have f:k<l.length:=by omega
  simp only[Bk,Qr f,lw,T_];have g:(l.map (·.dst))[k]?=some (l[k].dst):=by simp[f]
  rw[g];cases h:iZ ann l[k]with
  | false =>
   have:=c k l[k] (by omega) (Qr f) h
   simp only[SQ,Q7,this,Sl]
   exact e
  | true =>
   cases m:l[k].dst with
   | none=>simp[put,e]
   | some d =>
    simp only[put,get?]
    by_cases b:d=t
    ·subst b; simp[S6]
    ·have:Nat.beq d t=false:=by
       cases j:Nat.beq d t with
       | false=>rfl
       | true=>exact absurd (fO j) b
     rw[this];simp only[SQ,Q7,b,Sl];exact e
theorem rV{ann:List (Nat×An)}{ds:List (Option Nat)}:∀{l1 l2:List Oper}{st st':St}{b ps:List Prop},gP E ann ds (l1++l2) st b=some (st',ps)->∃ c f,gP E ann ds l1 st b=some (c,f)/\gP E ann ds l2 c f=some (st',ps)
 | [],l2,st,st',b,ps,h=>⟨st,b,rfl,by simpa using h⟩
 | o::l1,l2,st,st',b,ps,h=>by
  simp only[Uk,gP]at h;split at h
  ·rename_i e;obtain⟨c,f,g,i⟩:=rV h;exact⟨c,f,by simp only[gP,e]; exact g,i⟩
  ·cases h
theorem vG{ann:List (Nat×An)}{ds:List (Option Nat)}:∀{l:List Oper}{st st':St}{b ps:List Prop},kK E ann ds l st b=some (st',ps)->∃ k,ps=b++k
 | [],st,st',b,ps,h=>by cases h; exact⟨[],by simp⟩
 | o::l,st,st',b,ps,h=>by
  simp only[kK]at h;split at h
  ·rename_i qs e;obtain⟨k,hk⟩:=vG h;exact⟨qs++k,by rw[hk,QP]⟩
  ·cases h
theorem r_{ann:List (Nat×An)}{ds:List (Option Nat)}:∀{l1 l2:List Oper}{st st':St}{b ps:List Prop},kK E ann ds (l1++l2) st b=some (st',ps)->∃ c f,kK E ann ds l1 st b=some (c,f)/\kK E ann ds l2 c f=some (st',ps)
 | [],l2,st,st',b,ps,h=>⟨st,b,rfl,by simpa using h⟩
 | o::l1,l2,st,st',b,ps,h=>by
  simp only[Uk,kK]at h;split at h
  ·rename_i e;obtain⟨c,f,g,i⟩:=r_ h;exact⟨c,f,by simp only[kK,e]; exact g,i⟩
  ·cases h
theorem Mj{ann:List (Nat×An)}{ds:List (Option Nat)}{l:List Oper}:∀{n:Nat}{st':St}{ps:List Prop},n<=l.length->kK E ann ds ((l.take n).filter fun o=>iZ ann o) st []=some (st',ps)->eP ps ->
    ∃ R:Nat->AV,(∀ j o,j<n->l[j]?=some o->iZ ann o=true->∃ qs,evP E (Bk ann st.sl l R j) st.ck ds o (mX ann o)=some (R j,qs)/\eP qs)/\st'=⟨Bk ann st.sl l R n,st.ck,st.nx⟩:=by
 intro n
 induction n with
 | zero =>
  intro st' ps z q s
  cases q
  exact⟨fun _=>.any,fun j o x=>by omega,rfl⟩
 | succ n A =>
  intro st' ps z q s
  have b:n<l.length:=by omega
  rw[TH b,U5]at q
  obtain⟨B,t,C,g⟩:=r_ q
  obtain⟨k,hk⟩:=vG g
  have u:eP t:=by rw[hk]at s; exact s.app.1
  obtain⟨R,y,D⟩:=A (by omega) C u
  subst D
  cases c:iZ ann l[n]with
  | false =>
   simp only[TX,c,UP,U0,Sl,kK]at g
   cases g
   refine⟨R,fun j o x m f=>?_,by simp only[Bk,Qr b,c]⟩
   rcases QA j n with h|h
   ·exact y j o h m f
   ·have:j=n:=by omega
    subst this;rw[Qr b]at m;cases m;rw[c]at f; cases f
  | true =>
   simp only[TX,c,UP,UL,kK]at g
   split at g
   ·rename_i r qs e;cases g;have F:eP qs:=s.app.2;have agree:∀ k,k<=n->Bk ann st.sl l (fun i=>if i=n then r else R i) k=Bk ann st.sl l R k:=by
     intro k
     induction k with
     | zero=>intro _; rfl
     | succ k v =>
      intro hk
      simp only[Bk]
      rw[v (by omega)]
      simp[show k≠n by omega]
    refine⟨fun i=>if i=n then r else R i,fun j o x m f=>?_,?_⟩
    ·rw[agree j (by omega)];by_cases p:j=n
     ·subst p;rw[Qr b]at m;cases m;exact⟨_,by simpa using e,F⟩
     ·simpa [p]using y j o (by omega) m f
    ·simp only[Bk,Qr b,c,agree n (Qu _)];simp
   ·cases g
theorem Fr.Oy(h:Fr w0 (fun b=>X0 b∨Y b) Bo N st ρ a w){b:Nat}{T:TypeId}{l:AV}{cs:Array Value}(u:w.heap[b]?=some (.cells cs T (0,0)))(v:w0.heap.size<=b)(K:Y b)(L:¬X0 b)(o:∀ x∈st.ck,¬fk ρ x.1 b)
    (O:kl l=true) (I:m [] (fun _=>False) w l cs.toList) (G:∀ ρ X,m ρ X w l cs.toList) (h1:∀ c∈cs.toList,c.oneCell'=true) {d:Nat} (R:d<N) {Y':Nat->Prop} (A:∀ k,Y' k->Y k) (S:¬Y' b) :
    Fr w0 (fun b=>X0 b∨Y' b) Bo N ⟨(d,.ref st.nx 0)::st.sl,(st.nx,.box T l)::st.ck,st.nx+1⟩ (ρ++[.pointer (some ⟨b,0,none⟩)]) (a.put (some d) (.pointer (some ⟨b,0,none⟩))) w:=by
 have hk:=h.kn;have D:=h.nx;have H:(ρ++[Value.pointer (some ⟨b,0,none⟩)])[st.nx]?=some (.pointer (some ⟨b,0,none⟩)):=by
  rw[QT (by omega),D]; simp
 have j:∀{k:Nat},fk (ρ++[Value.pointer (some ⟨b,0,none⟩)]) st.nx k->b=k:=fun h=>by rw[gi H]at h; exact Rk h
 have g:∀ x∈st.ck,fk (ρ++[Value.pointer (some ⟨b,0,none⟩)]) x.1=fk ρ x.1:=fun x i=>l_ (by rw[D]; exact hk x i);have B:∀ k,XX (fun b=>X0 b∨Y' b) (ρ++[Value.pointer (some ⟨b,0,none⟩)]) ((st.nx,.box T l)::st.ck) k->XX (fun b=>X0 b∨Y b) ρ st.ck k:=by
  rintro k ((n|n)|⟨x,i,n⟩)
  ·exact .inl (.inl n)
  ·exact .inl (.inr (A k n))
  ·rcases Qv.1 i with rfl|i
   ·have n:=j n; subst n; exact .inl (.inr K)
   ·rw[g x i]at n; exact .inr ⟨x,i,n⟩
 have tr:∀{x:AV}{J:List Value},m ρ (XX (fun b=>X0 b∨Y b) ρ st.ck) w x J->m (ρ++[Value.pointer (some ⟨b,0,none⟩)]) (XX (fun b=>X0 b∨Y' b) (ρ++[Value.pointer (some ⟨b,0,none⟩)]) ((st.nx,.box T l)::st.ck)) w x J:=fun i=>iI _ (fN (fun k hk=>.inl (B k hk)) i);refine⟨by rw[gh]; exact h.dn,by rw[size_put]; exact h.sz,h.kp,by simp[D],?_,?_,?_,?_,?_,?_,?_⟩
 ·simp only[S0,Sm];refine⟨fun I=>?_,h.nd⟩;obtain⟨y,f,e⟩:=Rj.1 I;have:=hk y f;omega
 ·intro y f;rcases Qv.1 f with rfl|f
  ·exact SN _
  ·exact Uz (hk y f)
 ·intro y f k e;rcases Qv.1 f with rfl|f
  ·have e:=j e; subst e; exact⟨b9 u,.inl v⟩
  ·rw[g y f]at e; exact h.bl y f k e
 ·intro y f z s C k p q;rcases Qv.1 f with rfl|f<;>rcases Qv.1 s with rfl|s
  ·exact C rfl
  ·have p:=j p; subst p;rw[g z s]at q;exact o z s q
  ·have q:=j q; subst q;rw[g y f]at p;exact o y f p
  ·rw[g y f]at p;rw[g z s]at q;exact h.dj y f z s C k p q
 ·intro y f;rcases Qv.1 f with rfl|f
  ·exact⟨O,b,cs,H,u,G _ _,h1⟩
  ·exact tD _ (kq (h.cs y f) (fun k hk=>.inl (B k hk)) ⟨Qu _,fun _ _ _=>rfl⟩ fun _ _=>rfl)
 ·intro t y f;exact rm (d:=some d) (r:=.ref st.nx 0) (sl:=st.sl) (M:=fun x U=>m (ρ++[Value.pointer (some ⟨b,0,none⟩)]) (XX (fun b=>X0 b∨Y' b) (ρ++[Value.pointer (some ⟨b,0,none⟩)]) ((st.nx,.box T l)::st.ck)) w x [U]) (by rw[h.sz]; intro t e; cases e; exact R) ⟨_,b,H,rfl,rfl⟩ (fun t x i=>tr (h.sl t x i)) f
 ·have F:=h.pn.more D hk (.pointer (some ⟨b,0,none⟩)) (.box T l);exact⟨fun b u=>⟨(F.bo b u).1,fun i=>(F.bo b u).2 (i.imp id (A b))⟩,F.le,F.pn⟩
end
section
variable{E:Env}{w0:World}{X0 Y:Nat->Prop}{Bo:List Value}{N:Nat}{st st':St}{ρ:List Value}{a:Act}{w w':World}{ps:List Prop}
theorem aal{d T:Nat}{ty:TypeId}{pos:String}{af:Array Edge}{g:Option (Nat×Bool)}{an:An}:OY E st ⟨some d,.alloc T,ty,pos,af,g⟩ an=Ma E st ⟨some d,.alloc T,ty,pos,af,g⟩:=by
 unfold OY;split<;>rfl
theorem OF{ann:List (Nat×An)}{ds:List (Option Nat)}{o:Oper}{qs:List Prop}(i:iZ ann o=false)(b:mQ o=true)(h:Bs E st ds o (mX ann o)=some (st',qs)) :
    ∃ d T e,o.dst=some d/\o.op=.alloc T/\o.guard=none/\E.te T=some e/\st'=⟨(d,.ref st.nx 0)::st.sl,(st.nx,.box T (zA e.ty .nil))::st.ck,st.nx+1⟩:=by
 obtain⟨c,op,ty,pos,k,j⟩:=o;cases op with
 | alloc T =>
  cases j with
  | some g=>cases b
  | none =>
   cases c with
   | none=>cases b
   | some d =>
    simp only[Bs,Kd i,aal,Ma,OO,qY]at h
    cases f:E.te T with
    | none=>simp only[f]at h; cases h
    | some e =>
     simp only[f,Q7,SB]at h
     exact⟨d,T,e,rfl,rfl,rfl,f,h.1.symm⟩
 | _=>cases b
theorem OH{ann:List (Nat×An)}{ds:List (Option Nat)}{l:List Oper}:∀{st st':St}{c ps:List Prop},(∀ o∈l,iZ ann o=false/\mQ o=true)->gP E ann ds l st c=some (st',ps)->∀ o∈l,∃ T e,o.op=.alloc T/\E.te T=some e:=by
 induction l with
 | nil=>intro st st' c ps f h g b; cases b
 | cons o l i =>
  intro st st' c ps f h g b
  simp only[gP]at h
  split at h
  ·rename_i j qs e;obtain⟨k,m⟩:=f o Qx;obtain⟨d,T,n,t,p,u,q,_⟩:=OF (ann:=ann) k m e;rcases Qv.1 b with rfl|b
   ·exact⟨T,n,p,q⟩
   ·exact i (fun o s=>f o (Qs _ s)) h g b
  ·cases h
theorem CM{ann:List (Nat×An)}{ds:List (Option Nat)}{l:List Oper}{g k:Nat}{st st':St}{m ps:List Prop}(c:∀ i o,i<g->l[i]?=some o->iZ ann o=false->mQ o=true)
    (h:gP E ann ds (((l.take g).drop k).filter fun o=>!iZ ann o) st m=some (st',ps)) {i:Nat}{o:Oper} (h1:k<=i) (h2:i<g) (q:l[i]?=some o) (s:iZ ann o=false):∃ T e,o.op=.alloc T/\E.te T=some e:=by
 refine OH (fun o t=>?_) h o (Tm.2 ⟨?_,by simp[s]⟩)
 ·obtain⟨n,b⟩:=Tm.1 t;have b:iZ ann o=false:=by simpa using b
  obtain⟨j,f⟩:=RR.1 (Rh n);rw[Q1]at f;split at f
  ·rename_i p; exact⟨b,c j o p f b⟩
  ·cases f
 ·rw[RR];refine⟨i-k,?_⟩;rw[Rg,Q1,QJ (by omega),show k+(i-k)=i by omega];exact q
theorem get?_filter{e:Type}(p:Nat->Bool)(t:Nat):∀(l:List (Nat×e)),get? (l.filter fun x=>p x.1) t=if p t then get? l t else none
 | []=>by simp[get?]
 | (k,x)::l=>by
  have c:=get?_filter p t l;by_cases hk:p k=true
  ·rw[WC (by simpa using hk)];simp only[get?];cases b:Nat.beq k t with
   | true =>
    have:=fO b
    subst this
    simp[hk]
   | false=>simpa using c
  ·rw[WD (by simpa using hk),c];simp only[get?];cases b:Nat.beq k t with
   | true =>
    have:=fO b
    subst this
    simp[hk]
   | false=>rfl
theorem Fr.IK{sl sl':List (Nat×AV)}{ck:List (Nat×CT)}{n:Nat}(h:Fr w0 X0 Bo N ⟨sl,ck,n⟩ ρ a w)(b:∀ t x,get? sl' t=some x->get? sl t=some x):Fr w0 X0 Bo N ⟨sl',ck,n⟩ ρ a w :=
 ⟨h.dn,h.sz,h.kp,h.nx,h.nd,h.kn,h.bl,h.dj,h.cs,(fun t x c=>h.sl t x (b t x c)),h.pn⟩
theorem Fr.x0{X1:Nat->Prop}(h:Fr w0 X0 Bo N st ρ a w)(f:∀ b,X1 b->X0 b):Fr w0 X1 Bo N st ρ a w:=by
 have g:∀ b,XX X1 ρ st.ck b->XX X0 ρ st.ck b:=fun b c=>c.imp (f b) id;exact⟨h.dn,h.sz,h.kp,h.nx,h.nd,h.kn,h.bl,h.dj,fun x e=>kq (h.cs x e) (fun b c=>.inl (g b c)) ⟨Qu _,fun _ _ _=>rfl⟩ fun _ _=>rfl,(fun t x e=>fN (fun b c=>.inl (g b c)) (h.sl t x e)),⟨fun b c=>⟨(h.pn.bo b c).1,fun e=>(h.pn.bo b c).2 (f b e)⟩,h.pn.le,h.pn.pn⟩⟩
theorem HT{a:Act}{d:Nat}{v:Value}(h:gt a d=v):a.put (some d) v=a:=by
 refine CE (by rw[gh]) (by rw[size_put]) fun t b=>?_;rw[size_put]at b;by_cases c:d=t
 ·subst c; rw[fH b,h]
 ·rw[eL (by intro e; exact c (Rk e))]
theorem MP{l:List Oper}{i n t:Nat}{o:Oper}(hi:i<n)(f:l[i]?=some o)(g:o.dst=some t)(h:∀ j c,j<n->l[j]?=some c->j≠i->c.dst≠some t):lw (l.map (·.dst)) (fun _=>true) t n=some i:=by
 refine mq hi rfl (by simp[f,g]) fun m p k ⟨_,b⟩=>?_;simp only[Ro]at b;cases e:l[m]? with
 | none=>rw[e]at b; cases b
 | some c =>
  rw[e]at b
  simp only[Sp,Q7]at b
  exact h m c k e (by omega) b
theorem I'{ds:List (Option Nat)}{l:List Oper}{n:Nat}(h:alB ds (l.take n)=true){i:Nat}{o:Oper}(hi:i<n)(s:l[i]?=some o)(u:mQ o=true) :
    (∀ j b,j<n->l[j]?=some b->j≠i->b.dst≠o.dst)/\∀ j b,j<n->l[j]?=some b->∀ t∈rK ds b,o.dst≠some t:=by
 unfold alB at h;have f:∀ j b,j<n->l[j]?=some b->(b,j)∈(l.take n).zipIdx:=by
  intro j b g c;rw[We];simp only[Q1,g,UL];exact c
 have k:=Rs.1 h _ (f i o hi s);simp only[u,Bool.not_true,UM,QK]at k;obtain⟨k,v⟩:=k;refine⟨fun j b g c m=>?_,fun j b g c t x e=>?_⟩
 ·have:=Rs.1 k _ (f j b g c);simp only[RE,Qy,Sv,RS]at this;rcases this with p|p
  ·exact absurd p.symm m
  ·exact p
 ·have q:b∈l.take n:=by
    rw[RR];exact⟨j,by simp only[Q1,g,UL]; exact c⟩
  have:=Rs.1 v b q;simp only[Sv,List.contains_eq_mem,Qw,Rj,not_exists,not_and]at this;exact this t x e.symm
open Classical in
theorem Fo{ann:List (Nat×An)}{ds:List (Option Nat)}{l:List Oper}{f:Nat}{v:Nat->Value}(aa:∀ b,X0 b->b<w0.heap.size)(ac:f<=l.length)(q:∀ i o,i<f->l[i]?=some o->iZ ann o=false->mQ o=true)
    (D:∀ i o,i<f->l[i]?=some o->iZ ann o=false->∀ T,o.op=.alloc T->∀ e,E.te T=some e->∃ b,v i=.pointer (some ⟨b,0,none⟩)/\w0.heap.size<=b/\w.heap[b]?=some (.cells (zc e.ty).toArray T (0,0)))
    (H:∀ i j oi oj,i<f->j<f->l[i]?=some oi->l[j]?=some oj->iZ ann oi=false->iZ ann oj=false->i≠j->v i≠v j)
    (K:∀ i o d,i<f->l[i]?=some o->iZ ann o=false->o.dst=some d->gt a d=v i/\d<N/\∀ j o',j<f->l[j]?=some o'->j≠i->o'.dst≠some d) :
    ∀(k:Nat) (st st':St) (ρ:List Value) (F ps:List Prop),k<=f ->
     Fr w0 (fun b=>X0 b∨∃ i o,f-k<=i/\i<f/\l[i]?=some o/\iZ ann o=false/\fa (v i)=some b) Bo N
      ⟨st.sl.filter fun x=>decide (¬∃ i o,f-k<=i/\i<f/\l[i]?=some o/\iZ ann o=false/\o.dst=some x.1),st.ck,st.nx⟩ ρ a w ->
     (∀ i o,f-k<=i->i<f->l[i]?=some o->iZ ann o=false->∀ b,fa (v i)=some b->∀ x∈st.ck,¬fk ρ x.1 b) ->
     gP E ann ds (((l.take f).drop (f-k)).filter fun o=>!iZ ann o) st F=some (st',ps)->∃ ρ',Fr w0 X0 Bo N st' ρ' a w:=by
 intro k
 induction k with
 | zero =>
  intro st st' ρ F ps hk I z A
  have:(l.take f).drop (f-0)=[]:=VC.2 (by rw[QM]; omega)
  rw[this]at A
  cases A
  refine⟨ρ,Fr.IK (I.x0 fun b y=>.inl y) fun t x g=>?_⟩
  rw[get?_filter (fun t=>decide (¬∃ i o,f-0<=i/\i<f/\l[i]?=some o/\iZ ann o=false/\o.dst=some t))]
  rw[QJ (QY (by rintro⟨i,o,u,h,_⟩; omega))]
  exact g
 | succ k ih =>
  intro st st' ρ F ps hk I z A
  have hi:f-(k+1)<f:=by omega
  have U:f-(k+1)<l.length:=by omega
  have L:f-(k+1)+1=f-k:=by omega
  have V:(l.take f)[f-(k+1)]?=some l[f-(k+1)]:=by
   rw[Q1,QJ hi]; exact Qr U
  have M:(l.take f).drop (f-(k+1))=l[f-(k+1)]::(l.take f).drop (f-k):=by
   have W:f-(k+1)<(l.take f).length:=by rw[QM]; omega
   rw[R0 W,L];congr 1;rw[Qr W]at V;exact Rk V
  have G:=Qr U
  rw[M]at A
  have step:∀ i,f-(k+1)<=i↔i=f-(k+1)∨f-k<=i:=by intro i; omega
  cases C:iZ ann l[f-(k+1)]with
  | true =>
   rw[WD (by simp[C])]at A
   refine ih st st' ρ F ps (by omega) (Fr.IK (I.x0 fun b y=>?_) fun t x g=>?_) (fun i o u h p s b y x g=>z i o (by omega) h p s b y x g) A
   ·rcases y with y|⟨i,o,u,h⟩
    ·exact .inl y
    ·exact .inr ⟨i,o,by omega,h⟩
   ·rw[get?_filter (fun t=>decide (¬∃ i o,f-k<=i/\i<f/\l[i]?=some o/\iZ ann o=false/\o.dst=some t))]at g;rw[get?_filter (fun t=>decide (¬∃ i o,f-(k+1)<=i/\i<f/\l[i]?=some o/\iZ ann o=false/\o.dst=some t))];split at g
    ·rename_i O;have O:=QF O;rw[QJ (QY ?_)]
     ·exact g
     ·rintro⟨i,o,u,h,p,s,B⟩;rcases(step i).1 u with rfl|u
      ·rw[G]at p; cases p; rw[C]at s; cases s
      ·exact O ⟨i,o,u,h,p,s,B⟩
    ·cases g
  | false =>
   rw[WC (by simp[C])]at A
   simp only[gP]at A
   split at A
   ·rename_i ae qs e;obtain⟨d,T,R,q1,q2,q3,q4,q5⟩:=OF (ann:=ann) C (q _ _ hi G C) e;subst q5;obtain⟨b,S,g2,g3⟩:=D _ _ hi G C T q2 R q4;obtain⟨s1,s2,s3⟩:=K _ _ d hi G C q1;have hz:∀(ρ:List Value) (X:Nat->Prop),m ρ X w (zA R.ty .nil) (zc R.ty).toArray.toList:=fun ρ X=>by
     have:=xe (ρ:=ρ) (X:=X) (w:=w) (t:=R.ty) (show m ρ X w .nil []from rfl);rw[Q9]at this;simpa using this
    have Z:=Fr.Oy (X0:=X0) (Y:=fun b=>∃ i o,f-(k+1)<=i/\i<f/\l[i]?=some o/\iZ ann o=false/\fa (v i)=some b) (Y':=fun b=>∃ i o,f-k<=i/\i<f/\l[i]?=some o/\iZ ann o=false/\fa (v i)=some b)
     I (l:=zA R.ty .nil) g3 g2 ⟨_,_,Qu _,hi,G,C,by rw[S]; rfl⟩ (fun g=>by have:=aa b g; omega) (z _ _ (Qu _) hi G C b (by rw[S]; rfl)) (mF rfl) (hz _ _) hz (by simpa using gm R.ty) (d:=d) s2
     (fun j ⟨i,o,u,h⟩=>⟨i,o,by omega,h⟩) (fun⟨i,o,u,h,p,s,B⟩=>by
      have ab:i≠f-(k+1):=by omega
      have:=H i (f-(k+1)) o _ h hi p G s C ab;apply this;rw[S];cases hv:v i with
      | pointer ad =>
       cases ad with
       | none=>rw[hv]at B; cases B
       | some ad =>
        rw[hv]at B
        have B:ad.block=b:=Rk B
        obtain⟨T2,e2,r2,r4⟩:=CM q A (i:=i) u h p s
        obtain⟨b2,J,_⟩:=D i o h p s T2 r2 e2 r4
        rw[hv]at J
        cases J
        rw[<-B]
      | slice ad n c =>
       obtain⟨T2,e2,r2,r4⟩:=CM q A (i:=i) u h p s
       obtain⟨b2,J,_⟩:=D i o h p s T2 r2 e2 r4
       rw[hv]at J
       cases J
      | _=>rw[hv]at B; cases B)
    rw[<-S,HT s1]at Z;refine ih _ st' _ _ ps (by omega) (Fr.IK Z fun t x g=>?_) (fun i o u h p s b' y x g=>?_) A
    ·rw[get?_filter (fun t=>decide (¬∃ i o,f-k<=i/\i<f/\l[i]?=some o/\iZ ann o=false/\o.dst=some t))]at g;split at g
     ·rename_i O;have O:=QF O;simp only[get?]at g ⊢;cases y:Nat.beq d t with
      | true=>rw[y]at g; exact g
      | false =>
       rw[y]at g
       simp only at g ⊢
       rw[get?_filter (fun t=>decide (¬∃ i o,f-(k+1)<=i/\i<f/\l[i]?=some o/\iZ ann o=false/\o.dst=some t)),QJ (QY ?_)]
       ·exact g
       ·rintro⟨i,o,u,h,p,s,B⟩;rcases(step i).1 u with rfl|u
        ·rw[G]at p;cases p;rw[q1]at B;exact qz y (Rk B)
        ·exact O ⟨i,o,u,h,p,s,B⟩
     ·cases g
    ·rcases Qv.1 g with rfl|g
     ·intro e;have hg:(ρ++[v (f-(k+1))])[st.nx]?=some (v (f-(k+1))):=by
       rw[QT (by rw[I.nx]; exact Qu _),I.nx]; simp
      rw[gi hg,S]at e;refine H i (f-(k+1)) o _ h hi p G s C (by omega) ?_;obtain⟨T2,e2,r2,r4⟩:=CM q A (i:=i) u h p s;obtain⟨b2,J,_⟩:=D i o h p s T2 r2 e2 r4;rw[J]at y;cases y;cases e;rw[J,S]
     ·rw[l_ (by rw[I.nx]; exact I.kn x g)];exact z i o (by omega) h p s b' y x g
   ·cases A
def KA(ck:List (Nat×CT))(a:An):An :=
 match a with
 | .dy c=>match get? ck c with
  | some (.row T t l)=>.dr c T t l
  | _=>.dn
 | a=>a
theorem CK{ck:List (Nat×CT)}:∀{an:List (Nat×An)}{d:Nat},OD (zS ck an) d=KA ck (OD an d)
 | [],d=>rfl
 | (k,x)::r,d=>by
  have e:=CK (ck:=ck) (an:=r) (d:=d);have key:zS ck ((k,x)::r)=(k,KA ck x)::zS ck r:=by
   cases x with
   | dy c =>
    cases b:get? ck c with
    | none=>simp only[zS,KA,b]
    | some z=>cases z<;>simp only[zS,KA,b]
   | _=>rfl
  rw[key];simp only[OD];split
  ·rfl
  ·exact e
theorem DN{ck:List (Nat×CT)}{an:List (Nat×An)}{o:Oper}:mX (zS ck an) o=KA ck (mX an o):=by
 unfold mX;cases o.dst with
 | none=>rfl
 | some d=>exact CK
theorem Ka{ck:List (Nat×CT)}{a:An}{op:Op}:oJ (KA ck a) op=oJ a op:=by
 cases a with
 | dy c=>simp only[KA]; split<;>rfl
 | _=>rfl
theorem Gp{ck:List (Nat×CT)}{a:An}:M1 (KA ck a)=M1 a:=by
 cases a with
 | dy c=>simp only[KA]; split<;>rfl
 | _=>rfl
theorem LX{ck:List (Nat×CT)}{an:List (Nat×An)}{o:Oper}:iZ (zS ck an) o=iZ an o:=by
 unfold iZ;rw[DN,Ka,Gp]
theorem yK{ck:List (Nat×CT)}{an:List (Nat×An)}:∀{l:List Oper},fZ (zS ck an) l=fZ an l
 | []=>rfl
 | o::l=>by simp only[fZ,rR,LX,yK (l:=l)]
theorem nh{an:List (Nat×An)}:∀{l:List Oper}{cs:List Nat},xa an l=some cs->∀{j:Nat}{o:Oper},l[j]?=some o->(∀ c T t k,mX an o≠.dr c T t k)/\mX an o≠.dn/\∀ c,mX an o=.dy c->c∈cs
 | [],cs,h,j,o,b=>by simp at b
 | g::l,cs,h,j,o,b=>by
  simp only[xa]at h;split at h
  ·rename_i c i f m;cases h;cases j with
   | zero =>
    have:g=o:=by simpa using b
    subst this
    refine⟨fun c T t k e=>(by rw[f]at e; cases e),fun e=>(by rw[f]at e; cases e),fun x e=>?_⟩
    rw[f]at e; cases e; exact Qx
   | succ j =>
    obtain⟨n,p,q⟩:=nh m (j:=j) (by simpa using b)
    exact⟨n,p,fun c e=>Qs _ (q c e)⟩
  ·cases h
  ·cases h
  ·rename_i s u v;cases j with
   | zero =>
    have:g=o:=by simpa using b
    subst this
    refine⟨fun c T t k e=>s c T t k e,fun e=>u e,fun c e=>?_⟩
    exact absurd h (v c cs e)
   | succ j=>exact nh h (j:=j) (by simpa using b)
theorem ue{an:List (Nat×An)}:∀{l:List Oper}{cs:List Nat},xa an l=some cs->cs.Nodup->∀{i j:Nat}{o b:Oper}{c:Nat},l[i]?=some o->l[j]?=some b->mX an o=.dy c->mX an b=.dy c->i=j
 | [],cs,h,m,i,j,o,b,c,hi,e,g,k=>by simp at hi
 | x::l,cs,h,m,i,j,o,b,c,hi,e,g,k=>by
  simp only[xa]at h;have sub:∀{cs:List Nat},xa an l=some cs->cs.Nodup->∀{i j:Nat},(x::l)[i+1]?=some o->(x::l)[j+1]?=some b->i+1=j+1:=fun{cs} h m {i j} hi e=>by
   rw[ue h m (i:=i) (j:=j) (by simpa using hi) (by simpa using e) g k]
  split at h
  ·rename_i v t p n;cases h;obtain⟨q,u⟩:=Sm.1 m;cases i with
   | zero =>
    cases j with
    | zero=>rfl
    | succ j =>
     exfalso
     have f:x=o:=by simpa using hi
     subst f
     rw[p]at g
     cases g
     exact q ((nh n (j:=j) (o:=b) (by simpa using e)).2.2 c k)
   | succ i =>
    cases j with
    | zero =>
     exfalso
     have f:x=b:=by simpa using e
     subst f
     rw[p]at k
     cases k
     exact q ((nh n (j:=i) (o:=o) (by simpa using hi)).2.2 c g)
    | succ j=>exact sub n u hi e
  ·cases h
  ·cases h
  ·rename_i y z s;cases i with
   | zero =>
    have f:x=o:=by simpa using hi
    subst f
    exact absurd h (s c cs g)
   | succ i =>
    cases j with
    | zero =>
     have f:x=b:=by simpa using e
     subst f
     exact absurd h (s c cs k)
    | succ j=>exact sub h m hi e
theorem qo{x:Nat×CT}:∀{an:List (Nat×An)}{ck:List (Nat×CT)},x∈mi ck an->x∈ck/\∀ k c,(k,An.dy c)∈an->x.1≠c
 | [],ck,h=>⟨h,fun k c h=>by cases h⟩
 | (m,a)::r,ck,h=>by
  cases a with
  | dy i =>
   obtain⟨f,g⟩:=qo (an:=r) (ck:=del ck i) h
   obtain⟨j,l⟩:=fX f
   refine⟨j,fun k c b=>?_⟩
   rcases Qv.1 b with e|b
   ·cases e; exact l
   ·exact g k c b
  | _ =>
   obtain⟨f,g⟩:=qo (an:=r) (ck:=ck) h
   refine⟨f,fun k c b=>?_⟩
   rcases Qv.1 b with e|b
   ·cases e
   ·exact g k c b
theorem rA:∀{an:List (Nat×An)}{ck:List (Nat×CT)},List.Sublist ((mi ck an).map (·.1)) (ck.map (·.1))
 | [],ck=>Va _
 | (c,a)::r,ck=>by
  cases a with
  | dy b=>exact(rA (an:=r) (ck:=del ck b)).trans lT
  | _=>exact rA (an:=r) (ck:=ck)
theorem De{d c:Nat}:∀{an:List (Nat×An)},OD an d=.dy c->∃ k,(k,An.dy c)∈an
 | (k,x)::r,h=>by
  simp only[OD]at h;split at h
  ·exact⟨k,by rw[h]; exact Qx⟩
  ·obtain⟨b,hk⟩:=De h;exact⟨b,Qs _ hk⟩
theorem aaq{ck:List (Nat×CT)}{an:List (Nat×An)}{l:List Oper}{cs:List Nat}(i:xa an l=some cs){j:Nat}{o:Oper}(m:l[j]?=some o){c:Nat}{T:TypeId}{t:Ty}{k:List t.den}(h:mX (zS ck an) o=.dr c T t k) :
    mX an o=.dy c/\get? ck c=some (.row T t k)/\∃ d,(d,An.dy c)∈an:=by
 rw[DN]at h;have g:=(nh i m).1;cases b:mX an o with
 | dy n =>
  rw[b]at h
  simp only[KA]at h
  split at h
  ·rename_i e;cases h;refine⟨rfl,e,?_⟩;unfold mX at b;cases f:o.dst with
   | none=>rw[f]at b; cases b
   | some d=>rw[f]at b; exact De b
  ·cases h
 | dr n p q s=>exact absurd b (g _ _ _ _)
 | _=>rw[b]at h; cases h
theorem aau(hE:E.Ok){X:Nat->Prop}{ck:List (Nat×CT)}{sl:List (Nat×AV)}(hw:Wd 0 ρ X ck w){o:Oper}{an:An}{r:AV}(C:nC o.op=true)(M:∀ t,.tmp t∈gD o.op->∀ x,get? sl t=some x->m ρ X w x [gt a t])(h:dyA E sl o an=some (r,ps))(hp:eP ps) :
    o.guard=none/\((∃ v w',(execOp a.eval o).run E.P w=.ok (.value v) w'/\m ρ X w' r [v]/\Below w.heap.size w w') ∨
     ∃(c:Nat) (T:TypeId) (t:Ty) (l O:List t.den) (v0:Value),an=.dr c T t l/\ρ[c]?=some v0/\r=.a_ (.slice t) (l++O)/\∀ xs:List Value,w.ownsRow 0 T t.size v0 l.length xs ->
      ∃ v w' news,(execOp a.eval o).run E.P w=.ok (.value v) w'/\w'.ownsRow 0 T t.size v (l++O).length (xs++news)/\w.grownBy w' (fa v0)/\(∀ b,fa v=some b->fa v0=some b∨w.heap.size<=b)/\(∀ c∈news,c.oneCell'=true) /\
       ∀(i:Nat) (z:t.den),O[i]?=some z->rep t X w ((news.drop (i*t.size)).take t.size) z):=by
 obtain⟨aa,op,ty,pos,af,gd⟩:=o;unfold dyA at h;split at h
 ·cases h
 ·rename_i hg;refine⟨hg,?_⟩;dsimp only at hg C M h;subst hg;split at h
  ·rename_i c;obtain⟨callee,args,ab⟩:=c;split at h
   ·rename_i R;cases R;split at h
    ·rename_i S J T T' ea et;split at h
     ·rename_i hT;have hT:=QR hT;subst hT;split at h
      ·rename_i x y e1 e2;split at h
       ·rename_i r' ao f;cases h;obtain⟨U,V⟩:=hp.app;dsimp only at ea et;have ha:args=#[S,J]:=by rw[<-Rx]; exact ea
        have ac:ab=#[T,T]:=by rw[<-Rx]; exact et
        subst ha ac;have hx:=gV M U (x:=S) (by simp[gD]) (ga C (by simp[gD])) e1;have hy:=gV M U (x:=J) (by simp[gD]) (ga C (by simp[gD])) e2;unfold dy2 at f;split at f
        ·rename_i u hu;obtain⟨e,e',h1,h2,h3,W⟩:=fF hu;simp only[h1,h3]at f;split at f;rotate_left
         ·cases f
         rename_i p;have p:=QS p;have A:∀ n:Nat,n*e'.bytes<=140737488355328->n<=maxLen:=by
          intro n hn;have:n*1<=n*e'.bytes:=Uq _ p;simp only[maxLen]; omega
         split at f
         ·rename_i K em;have D:=pz hw.none (NG em) hy;have Z:=eU hE h1 h2;have F:∃ news:List Value,news.length=K.length*u.size/\(∀ c∈news,c.oneCell'=true)/\(∀(i:Nat) (z:u.den),K[i]?=some z->rep u X w ((news.drop (i*u.size)).take u.size) z) /\
              ((a.eval J=.slice none 0 0/\K.length=0)∨∃ ad cap,a.eval J=.slice (some ad) K.length cap/\∀(j:Nat) (c:Value),news[j]?=some c->w.cell? (ad.add j)=some c):=by
           rcases D with⟨B,g⟩|⟨ad,cap,news,B,g,L,q4,q5⟩
           ·exact⟨[],by simp[g],by simp,by simp[g],.inl ⟨B,by simp[g]⟩⟩
           ·exact⟨news,g,q4,q5,.inr ⟨ad,cap,B,L⟩⟩
          obtain⟨news,n1,n2,n3,n4⟩:=F;have G:∀{H:Value}{w':World},(Builtin.append_ #[T,T] ty #[a.eval S,a.eval J]).run E.P w=.ok H w'->(execOp a.eval ⟨aa,.call { callee:=.builtin .append,args:=#[S,J],argTypes:=#[T,T] },ty,pos,af,none⟩).run E.P w=.ok (.value H) w':=by
           intro H w' M;simp[execOp,resolve,invoke,builtin,M]
          have hf:=hE.fact h3;split at f
          ·rename_i q;have q:=pS q;subst q;cases f;have hv:[a.eval S]=[.slice none 0 0]:=hx;have hv:=(QB hv).1;obtain⟨s,_⟩:=V;have g2:=S1 w w.heap.size e.elem e'.ty.size;obtain⟨H,w',B,g,L,q4⟩:=gg (w:=w) (ty:=ty) Z hf (Qu _) (size_pos _) g2 (by rw[W]; exact n1) n2 n4 (A _ (by rw[Q8]; exact s)) (by rw[Q8]; exact s);rw[W]at g;rw[Q8,RX]at g;rw[<-hv]at B;have hb:Below w.heap.size w w':=(QG _ _).grown L (Qu _) (by intro k e; cases e);refine .inl ⟨H,w',G B,mz g n2 (fun b ae ah=>?_) (fun i z hz=>fx (n3 i z hz) (Ev.c8 hb)),hb⟩;have:=hw.lt b ah;have:=ob g b ae;omega
          ·split at f
           ·rename_i c';split at f
            ·rename_i c T2 t l;split at f
             ·rename_i hc;have hc:=fO hc;subst hc;split at f
              ·rename_i O e5;cases f;obtain⟨s,rfl,_⟩:=V;have ai:=gF e5;cases ai;have aj:K=O:=gn e5;subst aj;obtain⟨v,hv,aq,I⟩:=hx;have I:=(QB I).1;refine .inr ⟨_,_,_,l,K,v,rfl,hv,rfl,fun xs g2=>?_⟩;have ak:w.ownsRow 0 e.elem e'.ty.size v l.length xs:=by rw[W]; exact g2
               obtain⟨H,w',B,g,L,q4⟩:=gg (w:=w) (ty:=ty) Z hf (QE _) (size_pos _) ak (by rw[W]; exact n1) n2 n4 (A _ s) s;rw[W]at g;rw[I]at G;have al:v.ownBlock=fa v:=Fm (gb g2);rw[al]at L;exact⟨H,w',news,G B,by rw[QO]; exact g,L,q4,n2,n3⟩
              ·cases f
             ·cases f
            ·cases f
           ·cases f
         ·cases f
        ·cases f
       ·cases h
      ·cases h
     ·cases h
    ·cases h
   ·cases h
  ·cases h
structure mB(D:Nat->Prop)(w w':World):Prop where
 os:w'.os=w.os
 tape:w'.tape=w.tape
 output:w'.output=w.output
 size:w.heap.size<=w'.heap.size
 block:∀ k,k<w.heap.size->¬D k->w'.heap[k]?=w.heap[k]?
theorem mB.below{D:Nat->Prop}{w w' b:World}(h:mB D w w')(c:Below w'.heap.size w' b):mB D w b :=
 ⟨c.os.trans h.os,c.tape.trans h.tape,c.output.trans h.output,QL h.size c.size,fun k hk e=>(c.block k (QI hk h.size)).trans (h.block k hk e)⟩
theorem mB.grown{D:Nat->Prop}{w w' c:World}{r:Option Nat}(h:mB D w w')(f:w'.grownBy c r)(i:∀ b,r=some b->D b):mB D w c :=
 ⟨f.os.trans h.os,f.tape.trans h.tape,f.output.trans h.output,QL h.size f.size,fun k hk g=>(f.block k (QI hk h.size) fun e=>g (i k e.symm)).trans (h.block k hk g)⟩
open Classical in
theorem LQ(hE:E.Ok)(aQ:∀ b,X0 b->b<w0.heap.size){l:List Oper}{id:Nat}{an:List (Nat×An)}{Q:Exit->Act->World->Prop}(hd:JY an N l=true)(h:Fr w0 X0 Bo N st ρ a w)(he:Lt E (zS st.ck an) (hU l) l ⟨st.sl,mi st.ck an,st.nx⟩=some (st',ps))(hp:eP ps)
    (aA:∀ o∈l,gW N o=true) (hQ:∀ ρ' a' w',Fr w0 X0 Bo N st' ρ' a' w'->Q .normal a' w'):(Code.region id l.toArray true).wp E.P Q a w:=by
 have bv:=n_ l;unfold JY at hd;rw[QK,<-yK (ck:=st.ck)]at hd;obtain⟨hd,aR⟩:=hd;obtain⟨ann,aY⟩:∃ ann,zS st.ck an=ann:=⟨_,rfl⟩;rw[aY]at he hd;have aB:=DK (ann:=ann) (l:=l);unfold Lt at he;split at he;rotate_left
 ·cases he
 rename_i ch bw e1;obtain⟨bJ,bx,e2,e3⟩:=rV he;obtain⟨k3,bK⟩:=kD e3;obtain⟨k2,bL⟩:=kD e2;have bz:eP bx:=by rw[bK]at hp; exact hp.app.1
 have bM:eP bw:=by rw[bL]at bz; exact bz.app.1
 rw[Dq]at e1;rw[DF]at e2;rw[Da]at e3;obtain⟨R,r1,r2⟩:=Mj aB e1 bM;dsimp only at r1 r2;subst r2;unfold Ij at hd;rw[QK,QK]at hd;obtain⟨⟨aZ,bN⟩,bA⟩:=hd;unfold dyB at aR;obtain⟨cj,aC,bB⟩:∃ cs,xa an l=some cs/\cs.Nodup:=by
  split at aR
  ·rename_i cs e; exact⟨cs,e,qK aR⟩
  ·cases aR
 have F:∀ x∈mi st.ck an,x∈st.ck:=fun x q=>(qo q).1;have aj:∀{j:Nat}{o:Oper}{c:Nat}{T:TypeId}{t:Ty}{k:List t.den},l[j]?=some o->mX ann o=.dr c T t k->(c,CT.row T t k)∈st.ck/\mX an o=.dy c/\∀ x∈mi st.ck an,x.1≠c:=by
  intro j o c T t k u ha;rw[<-aY]at ha;obtain⟨q1,q2,d0,q3⟩:=aaq aC u ha;exact⟨b7 q2,q1,fun x q=>(qo q).2 d0 c q3⟩
 let D:Nat->Prop:=fun b=>∃(j:Nat) (o:Oper) (c:Nat) (T:TypeId) (t:Ty) (k:List t.den),l[j]?=some o/\mX ann o=.dr c T t k/\fk ρ c b
 have av:∀ b,D b->XX X0 ρ st.ck b:=by
  rintro b ⟨j,o,c,T,t,k,u,ha,n⟩;exact .inr ⟨_,(aj u ha).1,n⟩
 have ab:∀ b,D b->b<w.heap.size:=by
  rintro b ⟨j,o,c,T,t,k,u,ha,n⟩;exact(h.bl _ (aj u ha).1 b n).1
 have aD:∀ b,D b->∀ x∈mi st.ck an,¬fk ρ x.1 b:=by
  rintro b ⟨j,o,c,T,t,k,u,ha,n⟩ x q e;obtain⟨q1,_,q3⟩:=aj u ha;exact h.dj x (F x q) _ q1 (q3 x q) b e n
 have bc:∀ b,XX X0 ρ (mi st.ck an) b->XX X0 ρ st.ck b:=by
  rintro b (n|⟨x,q,n⟩)
  ·exact .inl n
  ·exact .inr ⟨x,F x q,n⟩
 have V:∀ i o,i<fZ ann l->l[i]?=some o->iZ ann o=false->mQ o=true:=by
  intro i o hi u G;have:=KJ hi u;unfold rR at this;rw[G,UM]at this;exact this
 have bd:∀ i o,i<fZ ann l->l[i]?=some o->iZ ann o=false->∃ T e,o.op=.alloc T/\E.te T=some e:=fun i o hi u G=>CM (k:=0) V (by simpa using e2) (QE _) hi u G;have bC:∀ i o,i<fZ ann l->l[i]?=some o->mQ o=true->∃ d,o.dst=some d/\o.guard=none:=by
  intro i o _ _ ha;unfold mQ at ha;split at ha
  ·split at ha
   ·rename_i hg;split at ha
    ·rename_i d hd; exact⟨d,hd,hg⟩
    ·cases ha
   ·cases ha
  ·cases ha
 have hw:=h.wd aQ;have aS:mB D w { w with drawn:=w.drawn+1 }:=⟨rfl,rfl,rfl,Qu _,fun _ _ _=>rfl⟩
 let NB:(Nat->Bool)->(Nat->Value)->Nat->Prop:=fun L val b=>∃ i o,i<fZ ann l/\l[i]?=some o/\iZ ann o=false/\L i=true/\fa (val i)=some b
 let DY:(Nat->Bool)->Nat->Prop:=fun L b=>∃(j:Nat) (o:Oper) (c:Nat) (T:TypeId) (t:Ty) (k:List t.den),j<fZ ann l/\l[j]?=some o/\mX ann o=.dr c T t k/\L j=false/\fk ρ c b
 have ac:∀ L b,DY L b->D b:=fun L b ⟨j,o,c,T,t,k,_,h1,h2,_,h3⟩=>⟨j,o,c,T,t,k,h1,h2,h3⟩
 let XL:(Nat->Bool)->(Nat->Value)->Nat->Prop:=fun L val b=>XX X0 ρ (mi st.ck an) b∨NB L val b∨DY L b
 let J:(Nat->Bool)->(Nat->Value)->World->Prop:=fun L val w'=>mB D w w'/\(∀ i o,i<fZ ann l->l[i]?=some o->L i=true->iZ ann o=true->m ρ (XL L val) w' (R i) [val i]) /\
  (∀ i o,i<fZ ann l->l[i]?=some o->L i=true->iZ ann o=false->∀ T,o.op=.alloc T->∀ e,E.te T=some e->∃ b,val i=.pointer (some ⟨b,0,none⟩)/\w.heap.size<=b/\w'.heap[b]?=some (.cells (zc e.ty).toArray T (0,0))) /\
  (∀ i j oi oj,i<fZ ann l->j<fZ ann l->l[i]?=some oi->l[j]?=some oj->L i=true->L j=true->iZ ann oi=false->iZ ann oj=false->i≠j->val i≠val j)/\(∀ b,DY L b->w'.heap[b]?=w.heap[b]?)
 have K:∀{L:Nat->Bool}{val:Nat->Value}{w':World},J L val w'->∀ b,NB L val b->w.heap.size<=b/\b<w'.heap.size:=by
  rintro L val w' ⟨_,_,h3,_,_⟩ b ⟨i,o,g1,g2,U,g4,g5⟩;obtain⟨T,e,q1,q2⟩:=bd i o g1 g2 U;obtain⟨b',u1,u2,u3⟩:=h3 i o g1 g2 g4 U T q1 e q2;rw[u1]at g5;cases g5;exact⟨u2,b9 u3⟩
 refine pN (a0:=a) (w0:=w) hE.mx J (Oj l) (gX (hU l) 0 l) (fZ ann l) h.sz aZ bN ⟨aS,(fun i o _ _ hi=>by cases hi),(fun i o _ _ hi=>by cases hi),(fun i j _ _ _ _ _ _ hi=>by cases hi),fun _ _=>rfl⟩ ?_ ?_
 ·intro j o hj u L val a' w' hJ hL be hr;have aa:=hJ;obtain⟨n,aE,aF,aT,aU⟩:=hJ;have C:=lQ aZ u;have cd:j<l.length:=by omega
  have ak:∀ b,XL L val b->XX X0 ρ st.ck b∨w.heap.size<=b:=by
   rintro b (p|p|p)
   ·exact .inl (bc b p)
   ·exact .inr (K aa b p).1
   ·exact .inl (av b (ac L b p))
  have bg:Ev (XX X0 ρ st.ck) w w':=⟨n.size,fun k hk hn=>n.block k hk fun hd=>hn (av k hd)⟩;have ba:∀ b,XL L val b->b<w'.heap.size:=by
   rintro b (p|p|p)
   ·exact QI (hw.lt b (bc b p)) n.size
   ·exact(K aa b p).2
   ·exact QI (ab b (ac L b p)) n.size
  have bO:∀(i:Nat),up L j i=false->L i=false:=by
   intro i hi;by_cases s:i=j
   ·subst s; simp[up]at hi
   ·simpa [up,s]using hi
  have W:∀ b,DY (up L j) b->DY L b:=fun b ⟨i,o,c,T,t,k,h1,h2,h3,h4,h5⟩=>⟨i,o,c,T,t,k,h1,h2,h3,bO i h4,h5⟩;cases G:iZ ann o with
  | true =>
   obtain⟨qs,q1,q2⟩:=r1 j o hj u G
   have bb:=BK (hU l) l 0 j o u
   rw[Q8]at bb
   have bD:Wd 0 ρ (XL L val) (mi st.ck an) w':=⟨ba,fun x q=>kq (h.cs x (F x q)) ak bg fun b e=>n.block b (h.bl x (F x q) b e).1 fun hd=>aD b hd x q e⟩
   have al:∀ t,t∈rK (hU l) o->∀ x,get? (Bk ann st.sl l R j) t=some x->m ρ (XL L val) w' x [gt a' t]:=by
    intro t ht x q;have aG:(t,lw (hU l) (fun _=>true) t j)∈(gX (hU l) 0 l).getD j []:=by
     rw[bb]; exact TN (f:=fun t=>(t,lw (hU l) (fun _=>true) t j)) ht
    have hg:=hr _ aG;simp only at hg;have ao:∀ i H,i<j->l[i]?=some H->iZ ann H=false->H.dst≠some t:=fun i H hi A z=>(I' bA (show i<fZ ann l by omega) A (V i H (by omega) A z)).2 j o hj u t ht;rw[s' (by omega) ao,<-qh]at q;rw[hg];cases M:lw (hU l) (fun _=>true) t j with
    | some i =>
     rw[M]at q
     cases q
     rw[M]at aG
     have hi:=C.aaC _ aG i rfl
     obtain⟨g1,_,U,_⟩:=iz M
     have aw:i<l.length:=by omega
     have I:=Qr aw
     refine aE i l[i] (by omega) I (be i hi) ?_
     cases O:iZ ann l[i]with
     | true=>rfl
     | false =>
      exfalso
      rw[qh,Ro,I]at U
      simp only[Sp,Q7]at U
      exact ao i l[i] g1 I O U
    | none =>
     rw[M]at q
     exact mW (h.sl t x q) ak bg
   have bh:∀ v b,NB (up L j) (gf val j v) b->NB L val b:=by
    rintro v b ⟨i,H,g1,g2,U,g4,g5⟩;have s:i≠j:=by rintro rfl; rw[u]at g2; cases g2; rw[G]at U; cases U
    simp only[up,s,Sl]at g4;simp only[gf,s,Sl]at g5;exact⟨i,H,g1,g2,U,g4,g5⟩
   have next:∀ v B,m ρ (fun b=>XX X0 ρ (mi st.ck an) b∨NB L val b∨DY (up L j) b) B (R j) [v]->mB D w B->Ev (XL L val) w' B->(∀ b,NB L val b->B.heap[b]?=w'.heap[b]?)->(∀ b,DY (up L j) b->B.heap[b]?=w'.heap[b]?)->J (up L j) (gf val j v) B:=by
    intro v B hm bP aV bQ bE;have aH:∀ b,XL (up L j) (gf val j v) b->XX X0 ρ (mi st.ck an) b∨NB L val b∨DY (up L j) b:=fun b n=>n.imp (fun h=>h) fun n=>n.imp (bh v b) fun h=>h;have aI:∀ b,XL (up L j) (gf val j v) b->XL L val b:=fun b n=>(aH b n).imp (fun h=>h) fun n=>n.imp (fun h=>h) (W b);refine⟨bP,fun i H hi A S z=>?_,fun i H hi A S z T hT e ax=>?_,fun i k oi ok hi hk I ad aq ar O ay ah=>?_,fun b n=>(bE b n).trans (aU b (W b n))⟩
    ·by_cases s:i=j
     ·subst s;simp only[gf,UL];exact fN (fun b n=>.inl (aH b n)) hm
     ·simp only[up,s,Sl]at S;simp only[gf,s,Sl];exact mW (aE i H hi A S z) (fun b n=>.inl (aI b n)) aV
    ·have s:i≠j:=by rintro rfl; rw[u]at A; cases A; rw[G]at z; cases z
     simp only[up,s,Sl]at S;simp only[gf,s,Sl];obtain⟨b,u1,u2,u3⟩:=aF i H hi A S z T hT e ax;exact⟨b,u1,u2,by rw[bQ b ⟨i,H,hi,A,z,S,by rw[u1]; rfl⟩]; exact u3⟩
    ·have s:i≠j:=by rintro rfl; rw[u]at I; cases I; rw[G]at O; cases O
     have ae:k≠j:=by rintro rfl; rw[u]at ad; cases ad; rw[G]at ay; cases ay
     simp only[up,s,ae,Sl]at aq ar;simp only[gf,s,ae,Sl];exact aT i k oi ok hi hk I ad aq ar O ay ah
   have au:∀ v B,m ρ (XL L val) B (R j) [v]->Below w'.heap.size w' B->J (up L j) (gf val j v) B:=fun v B hm p =>
    next v B (fN (fun b n=>.inl (n.imp (fun h=>h) fun n=>n.imp (fun h=>h) (W b))) hm) (n.below p) (Ev.c8 p) (fun b az=>p.block b (K aa b az).2) (fun b az=>p.block b (QI (ab b (ac _ b az)) n.size))
   unfold evP at q1
   split at q1
   ·rename_i cl;have:=tP (a:=a') hE bD bv (lR (aA o (Ra u))) (fun t ht x q=>al t (SV _ (kg ht)) x q)
     (fun g cf aJ t ht x q=>al t (Te _ (by rw[aJ]; simp[ht])) x q) q1 q2
    exact⟨fun hg=>fD.imp (this.1 hg) fun v B ⟨q1,q2⟩=>au v B q1 q2,fun hg=>au undef w' (this.2 hg) (QG _ _)⟩
   ·obtain⟨aJ,bi⟩:=aau (a:=a') (w:=w') hE bD (lR (aA o (Ra u))) (fun t ht x q=>al t (SV _ (kg ht)) x q) q1 q2;refine⟨fun _=>?_,fun bj=>(bj (by unfold qm; rw[aJ]; trivial)).elim⟩;rcases bi with⟨v,B,ai,hm,p⟩|⟨c,T,t,l0,m',v0,ha,bF,bR,bk⟩
    ·exact eM ai (au v B hm p)
    ·obtain⟨aW,bG,cn⟩:=aj u ha;obtain⟨v1,xs,g1,g2,U,g4⟩:=h.cs _ aW;rw[bF]at g1;cases g1;have aK:∀ b,fa v0=some b->fk ρ c b:=fun b n=>fh bF n;have hD:∀ b,fa v0=some b->D b:=fun b n=>⟨j,o,c,T,t,l0,u,ha,aK b n⟩;cases bm:L j with
     | true =>
      rw[hL]at bm; cases bm
     | false =>
      have bH:∀ b,fa v0=some b->DY L b:=fun b n=>⟨j,o,c,T,t,l0,hj,u,ha,bm,aK b n⟩
      obtain⟨v,B,cg,ai,A,aL,bI,bS,bT⟩:=bk xs (gl g2 fun b n=>aU b (bH b n))
      refine eM ai ?_
      have aV:Ev (XL L val) w' B:=⟨aL.size,fun k hk hn=>aL.block k hk fun e=>hn (.inr (.inr (bH k e.symm)))⟩
      have ao:∀ b,fa v=some b->¬(XX X0 ρ (mi st.ck an) b∨NB L val b∨DY (up L j) b):=by
       intro b n q;rcases bI b n with h'|h'
       ·rcases q with(q|⟨x,q,bU⟩)|q|⟨i,H,c',T',t',k',_,aM,bn,bp,bq⟩
        ·exact jJ h aQ aW (aK b h') q
        ·exact aD b (hD b h') x q bU
        ·have:=(K aa b q).1;have:=ab b (hD b h');omega
        ·obtain⟨p1,p2,_⟩:=aj aM bn;by_cases aN:c'=c
         ·subst aN;have:=ue aC bB aM u p2 bG;subst this;simp[up]at bp
         ·exact h.dj _ p1 _ aW aN b bq (aK b h')
       ·have:b<w'.heap.size:=ba b (q.imp (fun h=>h) fun q=>q.imp (fun h=>h) (W b));omega
      refine next v B ?_ (n.grown aL hD) aV (fun b p=>aL.block b (K aa b p).2 fun e=>?_) (fun b p=>aL.block b (QI (ab b (ac _ b p)) n.size) fun e=>?_)
      ·rw[bR];refine mz A (fun c hc=>?_) ao ?_
       ·rcases QZ.1 hc with hc|hc
        ·exact U c hc
        ·exact bS c hc
       ·have bV:∀(i:Nat) (x:t.den),l0[i]?=some x->rep t (XL L val) w' ((xs.drop (i*t.size)).take t.size) x:=fun i x q=>lE (g4 i x q) ak bg;intro i x q;exact lE (j_ g2.1 bV bT i x q) (fun b n=>.inl (n.imp (fun h=>h) fun n=>n.imp (fun h=>h) (W b))) aV
      ·have:=(K aa b p).1;have:=ab b (hD b e.symm);omega
      ·obtain⟨i,H,c',T',t',k',_,aM,bn,bp,bq⟩:=p;obtain⟨p1,p2,_⟩:=aj aM bn;by_cases aN:c'=c
       ·subst aN;have:=ue aC bB aM u p2 bG;subst this;simp[up]at bp
       ·exact h.dj _ p1 _ aW aN b bq (aK b e.symm)
  | false =>
   obtain⟨T,e,hT,ax⟩:=bd j o hj u G
   obtain⟨d,aX,aJ⟩:=bC j o hj u (V j o hj u G)
   refine⟨fun _=>?_,fun bj=>(bj (by unfold qm; rw[aJ]; trivial)).elim⟩
   obtain⟨cp,hi,hz,_,_⟩:=(hE.fact ax).info
   have bW:(e.ty.wrap (zc e.ty)).cells=(zc e.ty).toArray:=fu (fw _) (gm _)
   have ai:(execOp a'.eval o).run E.P w'=.ok (.value (.pointer (some ⟨w'.heap.size,0,none⟩))) (w'.alloc (.cells (zc e.ty).toArray T)):=by
    obtain⟨cq,op,ty,pos,af,gd⟩:=o;simp only at hT;subst hT;simp[execOp,Instr.alloc,zeroValue,typeInfo,hi,hz,newVar,newRow,bW]
   refine eM ai ?_
   have p:=fC w' (.cells (zc e.ty).toArray T)
   have bh:∀ b,NB (up L j) (gf val j (.pointer (some ⟨w'.heap.size,0,none⟩))) b->NB L val b∨w'.heap.size<=b:=by
    rintro b ⟨i,H,g1,g2,U,g4,g5⟩;by_cases s:i=j
    ·subst s;simp only[gf,UL]at g5;cases g5;exact .inr (Qu _)
    ·simp only[up,s,Sl]at g4;simp only[gf,s,Sl]at g5;exact .inl ⟨i,H,g1,g2,U,g4,g5⟩
   have aI:∀ b,XL (up L j) (gf val j (.pointer (some ⟨w'.heap.size,0,none⟩))) b->XL L val b∨w'.heap.size<=b:=by
    rintro b (n|n|n)
    ·exact .inl (.inl n)
    ·exact(bh b n).imp (fun h=>.inr (.inl h)) (fun h=>h)
    ·exact .inl (.inr (.inr (W b n)))
   have aO:∀ i H,i<fZ ann l->l[i]?=some H->L i=true->iZ ann H=false->val i≠.pointer (some ⟨w'.heap.size,0,none⟩):=by
    intro i H g1 g2 U g4 g5;obtain⟨T',e',q1,q2⟩:=bd i H g1 g2 g4;obtain⟨b,u1,u2,u3⟩:=aF i H g1 g2 U g4 T' q1 e' q2;rw[g5]at u1;cases u1;have:=b9 u3;omega
   refine⟨n.below p,fun i H hi A S z=>?_,fun i H bX A S z T' bs e' aP=>?_,fun i k oi ok hi hk I ad aq ar O ay ah=>?_,fun b az=>(p.block b (QI (ab b (ac _ b az)) n.size)).trans (aU b (W b az))⟩
   ·have s:i≠j:=by rintro rfl; rw[u]at A; cases A; rw[G]at z; cases z
    simp only[up,s,Sl]at S;simp only[gf,s,Sl];exact mW (aE i H hi A S z) aI (Ev.c8 p)
   ·by_cases s:i=j
    ·subst s;rw[u]at A;cases A;rw[hT]at bs;cases bs;rw[ax]at aP;cases aP;simp only[gf,UL];exact⟨_,rfl,n.size,S_ w' _⟩
    ·simp only[up,s,Sl]at S;simp only[gf,s,Sl];obtain⟨b,u1,u2,u3⟩:=aF i H bX A S z T' bs e' aP;exact⟨b,u1,u2,by rw[p.block b (b9 u3)]; exact u3⟩
   ·by_cases s:i=j<;>by_cases ae:k=j
    ·exact absurd (s.trans ae.symm) ah
    ·simp only[up,ae,Sl]at ar;simp only[gf,s,ae,Sl,UL];exact fun h=>aO k ok hk ad ar ay h.symm
    ·simp only[up,s,Sl]at aq;simp only[gf,s,ae,Sl,UL];exact fun h=>aO i oi hi I aq O h
    ·simp only[up,s,ae,Sl]at aq ar;simp only[gf,s,ae,Sl];exact aT i k oi ok hi hk I ad aq ar O ay ah
 ·intro v w' hJ;have aa:=hJ;obtain⟨n,aE,aF,aT,aU⟩:=hJ;have bt:Ev (XX X0 ρ st.ck) w w':=⟨n.size,fun k hk hn=>n.block k hk fun hd=>hn (av k hd)⟩;have Z:∀ i,i<fZ ann l->decide (i<fZ ann l)=true:=fun i hi=>QY hi;have bu:∀ i o d,i<fZ ann l->l[i]?=some o->iZ ann o=false->o.dst=some d->gt (kZ a (l.take (fZ ann l)) v 0) d=v i/\d<N/\∀ j H,j<fZ ann l->l[j]?=some H->j≠i->H.dst≠some d:=by
   intro i o d hi u G aX;have hu:∀ j H,j<fZ ann l->l[j]?=some H->j≠i->H.dst≠some d:=fun j H hj A ah e=>(I' bA hi u (V i o hi u G)).1 j H hj A ah (by rw[e,aX]);have AO:=jT (aA o (Ra u)) d aX;refine⟨?_,AO,hu⟩;rw[lq a v l d (by rw[h.sz]; exact AO) (fZ ann l) aB,MP hi u aX hu]
  have hX:∀ b,XX (fun b=>X0 b∨∃ i o,fZ ann l-fZ ann l<=i/\i<fZ ann l/\l[i]?=some o/\iZ ann o=false/\fa (v i)=some b) ρ (mi st.ck an) b->XL (fun i=>decide (i<fZ ann l)) v b:=by
   rintro b ((n|⟨i,o,_,g1,g2,U,g4⟩)|n)
   ·exact .inl (.inl n)
   ·exact .inr (.inl ⟨i,o,g1,g2,U,Z i g1,g4⟩)
   ·exact .inl (.inr n)
  have ak:∀ b,XL (fun i=>decide (i<fZ ann l)) v b->XX X0 ρ st.ck b∨w.heap.size<=b:=by
   rintro b (p|p|p)
   ·exact .inl (bc b p)
   ·exact .inr (K aa b p).1
   ·exact .inl (av b (ac _ b p))
  have bY:Fr w0 (fun b=>X0 b∨∃ i o,fZ ann l-fZ ann l<=i/\i<fZ ann l/\l[i]?=some o/\iZ ann o=false/\fa (v i)=some b) Bo N
      ⟨(Bk ann st.sl l R (fZ ann l)).filter fun x=>decide (¬∃ i o,fZ ann l-fZ ann l<=i/\i<fZ ann l/\l[i]?=some o/\iZ ann o=false/\o.dst=some x.1),mi st.ck an,st.nx⟩ ρ (kZ a (l.take (fZ ann l)) v 0) w':=by
   refine⟨by rw[im]; exact h.dn,by rw[h_]; exact h.sz,⟨n.os.trans h.kp.os,n.tape.trans h.kp.tape,n.output.trans h.kp.output,QL h.kp.size n.size,fun k hk hn=>?_⟩,h.nx,h.nd.sublist rA,fun x q=>h.kn x (F x q),fun x q b e=>?_,fun x q y hy=>h.dj x (F x q) y (F y hy),fun x q=>?_,fun t x q=>?_,⟨fun b n=>⟨(h.pn.bo b n).1,fun q=>?_⟩,h.pn.le,fun x q=>h.pn.pn x (F x q)⟩⟩
   ·rw[n.block k (QI hk h.kp.size) fun hd=>?_,h.kp.block k hk hn];obtain⟨j,o,c,T,t,k',u,ha,bZ⟩:=hd;rcases(h.bl _ (aj u ha).1 k bZ).2 with h'|h'
    ·omega
    ·exact hn h'
   ·have:=h.bl x (F x q) b e; exact⟨QI this.1 n.size,this.2⟩
   ·exact kq (h.cs x (F x q)) (fun b n=>ak b (hX b n)) bt fun b e=>n.block b (h.bl x (F x q) b e).1 fun hd=>aD b hd x q e
   ·rw[get?_filter (fun t=>decide (¬∃ i o,fZ ann l-fZ ann l<=i/\i<fZ ann l/\l[i]?=some o/\iZ ann o=false/\o.dst=some t))]at q;split at q
    ·rename_i hc;have hc:=QF hc;have ao:∀ i o,i<fZ ann l->l[i]?=some o->iZ ann o=false->o.dst≠some t:=fun i o h1 h2 h3 h4=>hc ⟨i,o,by omega,h1,h2,h3,h4⟩;rw[s' aB ao]at q;refine fN (fun b n=>.inl (hX b n)) ?_;by_cases ht:t<a.tmps.size
     ·rw[lq a v l t ht (fZ ann l) aB];cases M:lw (l.map (·.dst)) (fun _=>true) t (fZ ann l)with
      | some i =>
       rw[M]at q
       cases q
       obtain⟨hi,_,U,_⟩:=iz M
       have aw:i<l.length:=by omega
       have I:=Qr aw
       refine aE i l[i] hi I (Z i hi) ?_
       cases O:iZ ann l[i]with
       | true=>rfl
       | false =>
        exfalso
        rw[Ro,I]at U
        simp only[Sp,Q7]at U
        exact ao i l[i] hi I O U
      | none =>
       rw[M]at q
       exact mW (h.sl t x q) ak bt
     ·cases M:lw (l.map (·.dst)) (fun _=>true) t (fZ ann l)with
      | some i =>
       have h3:=(iz M).2.2.1
       exfalso
       have hi:=(iz M).1
       have aw:i<l.length:=by omega
       simp only[Ro,Qr aw,Sp,Q7]at h3
       have:=jT (aA l[i] (Tf aw)) t h3
       rw[h.sz]at ht
       exact ht this
      | none =>
       rw[M]at q
       have hg:gt (kZ a (l.take (fZ ann l)) v 0) t=gt a t:=by
        unfold gt;rw[Sa,Sa,Sj (by rw[h_]; omega),Sj (by omega)]
       rw[hg]
       exact mW (h.sl t x q) ak bt
    ·cases q
   ·have h1:=(h.pn.bo b n).1;rcases q with q|⟨i,o,_,g1,g2,U,g4⟩
    ·exact(h.pn.bo b n).2 q
    ·have:=(K aa b ⟨i,o,g1,g2,U,Z i g1,g4⟩).1;have:=h.kp.size;omega
  obtain⟨ρ',ca⟩:=Fo (ann:=ann) (ds:=hU l) (v:=v) aQ aB V (fun i o hi u G T hT e ax=>by
   obtain⟨b,u1,u2,u3⟩:=aF i o hi u (Z i hi) G T hT e ax;exact⟨b,u1,QL h.kp.size u2,u3⟩) (fun i j oi oj hi hj I cb O cc ah=>aT i j oi oj hi hj I cb (Z i hi) (Z j hj) O cc ah) bu (fZ ann l) ⟨Bk ann st.sl l R (fZ ann l),mi st.ck an,st.nx⟩ bJ ρ bw bx (Qu _) bY
   (fun i o _ hi u G b p x q e=>by
    have h1:=(K aa b ⟨i,o,hi,u,G,Z i hi,p⟩).1;have h2:=(h.bl x (F x q) b e).1;omega) (by simpa using e2)
  exact Af hE aQ bv ca e3 hp (fun o u=>aA o (Rh u)) hQ
end
section
variable{E:Env}{w0:World}{X0 Y:Nat->Prop}{Bo:List Value}{N:Nat}{st st':St}{ρ:List Value}{a:Act}{w w':World}{ps:List Prop}{r:AV}{tc:List Nat}{an:An}{d:Option Nat} {ty:TypeId}{pos:String}{af:Array Edge}{g:Option (Nat×Bool)}
theorem Fr.swap(h:Fr w0 X0 Bo N st ρ a w){k:Nat}{T:TypeId}{t:Ty}{l l':List t.den}{v':Value}(L:get? st.ck k=some (.row T t l))(M:w.grownBy w' (oA ρ k))
    (O:∀ b,fa v'=some b->b<w'.heap.size/\(fk ρ k b∨w.heap.size<=b)) {xs:List Value} (R:w'.ownsRow 0 T t.size v' l'.length xs) (h1:∀ u∈xs,u.oneCell'=true)
    (W:∀ i x,l'[i]?=some x->rep t (XX X0 ρ st.ck) w ((xs.drop (i*t.size)).take t.size) x) :
    Fr w0 X0 Bo N ⟨st.sl,(st.nx,.row T t l')::del st.ck k,st.nx+1⟩ (ρ++[v']) a w'/\(ρ++[v'])[st.nx]?=some v' /\
     ∀ y vs,m ρ (XX X0 ρ st.ck) w y vs->m (ρ++[v']) (XX X0 (ρ++[v']) ((st.nx,.row T t l')::del st.ck k)) w' y vs:=by
 have g:=b7 L;have S:Ev (XX X0 ρ st.ck) w w':=pP L M;have B:=h.Lg L M;have j:ρ.length=st.nx:=h.nx;have s:(ρ++[v'])[st.nx]?=some v':=by
  rw[QT (by omega),j]; simp
 have n:∀ x∈del st.ck k,x.1<st.nx:=B.kn;have v:∀ b,XX X0 (ρ++[v']) ((st.nx,.row T t l')::del st.ck k) b->XX X0 ρ st.ck b∨w.heap.size<=b:=by
  intro b q;rcases(sJ j n q).imp id (mK R)with q|q
  ·exact .inl (qU q)
  ·rcases(O b q).2 with C|C
   ·exact .inl (.inr ⟨_,g,C⟩)
   ·exact .inr C
 have o:∀ y vs,m ρ (XX X0 ρ st.ck) w y vs->m (ρ++[v']) (XX X0 (ρ++[v']) ((st.nx,.row T t l')::del st.ck k)) w' y vs:=fun y vs U=>iI _ (mW U v S);have p:∀ b,fk (ρ++[v']) st.nx b->fa v'=some b:=fun b q=>mK R (by rw[<-gi s]; exact q);have f:∀ x∈del st.ck k,fk (ρ++[v']) x.1=fk ρ x.1:=fun x A=>l_ (by rw[j]; exact n x A);have G:∀ x∈del st.ck k,∀ b,fa v'=some b->¬fk ρ x.1 b:=by
  intro x A b q e;obtain⟨D,V⟩:=fX A;rcases(O b q).2 with C|C
  ·exact h.dj x D _ g V b e C
  ·have:=(h.bl x D b e).1; omega
 refine⟨⟨h.dn,h.sz,B.kp,by simp[j],?_,?_,?_,?_,?_,fun t x A=>o _ _ (h.sl t x A),B.pn.more j n _ _⟩,s,o⟩
 ·simp only[S0,Sm];refine⟨fun U=>?_,B.nd⟩;obtain⟨y,c,e⟩:=Rj.1 U;have:=n y c;omega
 ·intro y c;rcases Qv.1 c with rfl|c
  ·exact SN _
  ·exact Uz (n y c)
 ·intro y c b e;rcases Qv.1 c with rfl|c
  ·obtain⟨Z,H⟩:=O b (p b e);refine⟨Z,?_⟩;rcases H with H|H
   ·exact(h.bl _ g b H).2
   ·exact .inl (QL h.kp.size H)
  ·rw[f y c]at e;exact B.bl y c b e
 ·intro y c z F I b J K;rcases Qv.1 c with rfl|c<;>rcases Qv.1 F with rfl|F
  ·exact I rfl
  ·rw[f z F]at K;exact G z F b (p b J) K
  ·rw[f y c]at J;exact G y c b (p b K) J
  ·rw[f y c]at J;rw[f z F]at K;exact B.dj y c z F I b J K
 ·intro y c;rcases Qv.1 c with rfl|c
  ·exact⟨v',xs,s,R,h1,fun i x A=>lE (W i x A) v S⟩
  ·obtain⟨D,V⟩:=fX c;exact tD _ (kq (h.cs y D) v S fun b e=>M.block b (h.bl y D b e).1 fun e'=>h.dj y D _ g V b e (mg e'.symm))
theorem kC{x:Nat×CT}:∀{l:List (Nat×CT)},x∈l->x.1∈sU l
 | (k,z)::l,h=>by
  rcases Qv.1 h with rfl|h
  ·exact Qx
  ·exact Qs _ (kC h)
theorem lP{x:Nat×CT}:∀{l:List (Nat×CT)},x∈l->x.1∈rS l∨∃ T l',x.2=.box T l'
 | (k,z)::l,h=>by
  rcases Qv.1 h with rfl|h
  ·cases z with
   | box T l'=>exact .inr ⟨T,l',rfl⟩
   | row T t l'=>exact .inl Qx
   | eW T o d c=>exact .inl Qx
   | gv T t l'=>exact .inl Qx
  ·refine(lP h).imp (fun b=>?_) id;cases z with
   | box T l'=>exact b
   | row T t l'=>exact Qs _ b
   | eW T o d c=>exact Qs _ b
   | gv T t l'=>exact Qs _ b
theorem tN{c:Call}(e:mZ E st c d=some (st',r,tc,ps)):∀ x∈st'.ck,x.1 ∉ tc->x∈st.ck:=by
 unfold mZ at e;split at e
 ·rename_i f;cases e;intro x b g;rcases Ay f x b with b|b
  ·exact absurd (kC b) g
  ·exact b
 ·cases e
theorem yP{c:Call}(b:mZ E st c d=some (st',r,tc,ps)):st'.sl=put st.sl d r:=by
 unfold mZ at b;split at b
 ·rename_i e;cases b;exact zq e
 ·cases b
theorem EA(g:E.Ok){sl':List (Nat×AV)}{a':Act}(h:Fr w0 X0 Bo N ⟨sl',st.ck,st.nx⟩ ρ a w)(f:∀ b,X0 b->b<w0.heap.size){d d':Option Nat}(i:∀ t,d'=some t->t<N){c:Call}(j:∀ x∈gD (.call c),∀ y,lj st.sl x=some y->m ρ (XX X0 ρ st.ck) w y [a'.eval x])
    (e:mZ E st c d=some (st',r,tc,ps)) (k:eP ps) {ty:TypeId}{pos:String}{af:Array Edge}:fD E.P a'.eval ⟨d,.call c,ty,pos,af,none⟩ w (fun v w'=>∃ ρ',Fr w0 X0 Bo N ⟨put sl' d' r,st'.ck,st'.nx⟩ ρ' (a.put d' v) w'):=by
 unfold mZ at e;split at e
 ·rename_i l;cases e;exact vV g h f i j l k
 ·cases e
theorem MJ(hE:E.Ok){a':Act}(h:Fr w0 X0 Bo 0 ⟨[],st.ck,st.nx⟩ ρ gu w)(U:∀ b,X0 b->b<w0.heap.size){T:TypeId}{x y:AV}{o1 o2:Operand}(F:m ρ (XX X0 ρ st.ck) w x [a'.eval o1])(hy:m ρ (XX X0 ρ st.ck) w y [a'.eval o2])
    (s:Bm E st T x y d an=some (st',r,tc,ps)) (A:eP ps) {args:Array Operand}{ats:Array TypeId} (ha:args=#[o1,o2]) (ae:ats=#[T,T]) {Fs:List (AV×Value)} (hF:∀ p∈Fs,m ρ (XX X0 ρ st.ck) w p.1 [p.2]) :
    (∃ v w',(execOp a'.eval ⟨d,.call { callee:=.builtin .append,args:=args,argTypes:=ats },ty,pos,af,none⟩).run E.P w=.ok (.value v) w'/\we w0 X0 Bo st'.ck st'.nx w' ((r,v)::Fs))/\st'.sl=put st.sl d r/\∀ x∈st'.ck,x.1 ∉ tc->x∈st.ck:=by
 subst ha ae;unfold Bm at s;split at s
 ·rename_i u hu;obtain⟨e,e',h1,h2,h3,h4⟩:=fF hu;simp only[h1,h3]at s;have hw:Wd 0 ρ (XX X0 ρ st.ck) st.ck w:=h.wd U;split at s;rotate_left
  ·cases s
  rename_i H;have H:=QS H;have R:∀ n:Nat,n*e'.bytes<=140737488355328->n<=maxLen:=by
   intro n hn;have:n*1<=n*e'.bytes:=Uq _ H;simp only[maxLen]; omega
  split at s
  ·rename_i I e1;have V:=pz hw e1 hy;have ah:=eU hE h1 h2;have W:∃ f:List Value,f.length=I.length*u.size/\(∀ c∈f,c.oneCell'=true)/\(∀(i:Nat) (z:u.den),I[i]?=some z->rep u (XX X0 ρ st.ck) w ((f.drop (i*u.size)).take u.size) z) /\
       ((a'.eval o2=.slice none 0 0/\I.length=0)∨∃ ad cap,a'.eval o2=.slice (some ad) I.length cap/\∀(j:Nat) (c:Value),f[j]?=some c->w.cell? (ad.add j)=some c):=by
    rcases V with⟨C,q⟩|⟨ad,cap,f,C,q,J,S,q5⟩
    ·exact⟨[],by simp[q],by simp,by simp[q],.inl ⟨C,by simp[q]⟩⟩
    ·exact⟨f,q,S,q5,.inr ⟨ad,cap,C,J⟩⟩
   obtain⟨f,n1,n2,n3,n4⟩:=W;have hf:=hE.fact h3;have K:∀{o:Value}{w':World},(Builtin.append_ #[T,T] ty #[a'.eval o1,a'.eval o2]).run E.P w=.ok o w'->(execOp a'.eval ⟨d,.call { callee:=.builtin .append,args:=#[o1,o2],argTypes:=#[T,T] },ty,pos,af,none⟩).run E.P w=.ok (.value o) w':=by
    intro o w' hr;simp[execOp,resolve,invoke,builtin,hr]
   split at s
   ·rename_i L;have L:=pS L;subst L;have Z:[a'.eval o1]=[.slice none 0 0]:=F;have Z:=(QB Z).1;have g2:=S1 w w.heap.size e.elem e'.ty.size;have fin:∀(D:I.length*e'.bytes<=140737488355328),∃ o w',(Builtin.append_ #[T,T] ty #[a'.eval o1,a'.eval o2]).run E.P w=.ok o w'/\w'.ownsRow w.heap.size e.elem u.size o I.length f/\Below w.heap.size w w':=by
     intro D;obtain⟨o,w',C,q,J,S⟩:=gg (w:=w) (ty:=ty) ah hf (Qu _) (size_pos _) g2 (by rw[h4]; exact n1) n2 n4 (R _ (by rw[Q8]; exact D)) (by rw[Q8]; exact D);rw[h4]at q;rw[Q8,RX]at q;rw[<-Z]at C;exact⟨o,w',C,q,(QG _ _).grown J (Qu _) (by intro k e; cases e)⟩
    split at s
    ·cases s;obtain⟨o,w',C,q,O⟩:=fin A.1;refine⟨⟨o,w',K C,ρ,h.pure U O (d:=none) (r:=.any) (v:=undef) (by intro t e; cases e) ⟨_,rfl⟩,fun p A=>?_⟩,rfl,fun x F _=>F⟩;rcases Qv.1 A with rfl|A
     ·refine mz q n2 (fun b aa B=>?_) (fun i z hz=>fx (n3 i z hz) (Ev.c8 O));have:=hw.lt b B;have:=ob q b aa;omega
     ·exact oT (Ev.c8 O) (hF p A)
    ·cases s;obtain⟨o,w',C,q,O⟩:=fin A.1;have hr:=lg (jR h hF) (d:=Fs.length) (SN _) O (T:=e.elem) (t:=u) (l:=I) q n2 n3;refine⟨⟨o,w',K C,je hr⟩,rfl,fun x F hn=>?_⟩;rcases Qv.1 F with rfl|F
     ·exact absurd Qx hn
     ·exact F
   ·split at s
    ·rename_i k au;split at s
     ·rename_i T' t l hg;split at s
      ·rename_i m' e2;have ak:=gF e2;cases ak;have al:I=m':=gn e2;subst al;obtain⟨v,Z,av,ab⟩:=F;have ab:=(QB ab).1;obtain⟨v2,xs,g1,g2,g3,g4⟩:=hw.cs _ (b7 hg);rw[Z]at g1;cases g1;rw[ab]at K;have fin:∀(D:(l.length+I.length)*e'.bytes<=140737488355328) (hT:T'=e.elem),∃ o w',(Builtin.append_ #[T,T] ty #[v,a'.eval o2]).run E.P w=.ok o w'/\w'.ownsRow 0 T' u.size o (l++I).length (xs++f)/\w.grownBy w' (oA ρ k) /\
           ∀ b,fa o=some b->b<w'.heap.size/\(fk ρ k b∨w.heap.size<=b):=by
        intro D hT;subst hT;have ao:w.ownsRow 0 e.elem e'.ty.size v l.length xs:=by rw[h4]; exact g2
        obtain⟨o,w',C,q,J,S⟩:=gg (w:=w) (ty:=ty) ah hf (QE _) (size_pos _) ao (by rw[h4]; exact n1) n2 n4 (R _ D) D;rw[h4]at q;have aq:v.ownBlock=oA ρ k:=by rw[Fm (gb g2),oe Z]
        rw[aq]at J;refine⟨o,w',C,by rw[QO]; exact q,J,fun b ac=>?_⟩;have ar:b<w'.heap.size:=by
         rcases q.2 with⟨rfl,_⟩|⟨g,cap,aw,rfl,_,hh,_⟩
         ·cases ac
         ·cases ac; exact b9 hh
        exact⟨ar,(S b ac).imp (fh Z) id⟩
       have G:∀ c∈xs++f,c.oneCell'=true:=fun c hc=>by
        rcases QZ.1 hc with hc|hc
        ·exact g3 c hc
        ·exact n2 c hc
       have M:=j_ g2.1 g4 n3;split at s
       ·cases s;obtain⟨o,w',C,q,J,S⟩:=fin A.1 A.2.1;have ai:Ev (XX X0 ρ st.ck) w w':=pP hg J;refine⟨⟨o,w',K C,ρ,h.Lg hg J,fun p A=>?_⟩,rfl,fun x F _=>(fX F).1⟩;rcases Qv.1 A with rfl|A
        ·refine mz q G (fun b aa B=>?_) (fun i z hz=>lE (M i z hz) (fun b O=>.inl (qU O)) ai);rcases(S b aa).2 with h'|h'
         ·rcases B with B|⟨z,hz,B⟩
          ·exact jJ h U (b7 hg) h' B
          ·obtain⟨m1,m2⟩:=fX hz;exact h.dj z m1 _ (b7 hg) m2 b B h'
         ·have:=hw.lt b (qU B);omega
        ·exact mW (hF p A) (fun b O=>.inl (qU O)) ai
       ·cases s;obtain⟨o,w',C,q,J,S⟩:=fin A.1 A.2.1;obtain⟨r1,r2,r3⟩:=h.swap (l':=l++I) hg J S q G M;have aj:o.oneCell'=true:=by obtain⟨_,_,_,rfl⟩:=gb q; rfl
        refine⟨⟨o,w',K C,_,r1,fun p A=>?_⟩,rfl,fun x F hn=>?_⟩
        ·rcases Qv.1 A with rfl|A
         ·exact⟨o,r2,aj,rfl⟩
         ·exact r3 _ _ (hF p A)
        ·rcases Qv.1 F with rfl|F
         ·exact absurd Qx hn
         ·exact(fX F).1
      ·cases s
     ·cases s
    ·cases s
  ·cases s
 ·cases s
theorem u_(g:E.Ok){a':Act}(h:Fr w0 X0 Bo 0 ⟨[],st.ck,st.nx⟩ ρ gu w){T:TypeId}{dd:Option Nat}
    (b:kQ E st T dd=some (st',r,tc,ps)) {c:List (AV×Value)} (i:∀ p∈c,m ρ (XX X0 ρ st.ck) w p.1 [p.2]) :
    (∃ v w',(execOp a'.eval ⟨dd,.alloc T,ty,pos,af,none⟩).run E.P w=.ok (.value v) w'/\we w0 X0 Bo st'.ck st'.nx w' ((r,v)::c))/\st'.sl=put st.sl dd r/\∀ x∈st'.ck,x.1 ∉ tc->x∈st.ck:=by
 unfold kQ at b;split at b
 ·rename_i e j;cases b;obtain⟨v,w',ρ',k,l⟩:=vQ (ty:=ty) (pos:=pos) (af:=af) (T:=T) g (jR h i) (SN c.length) (by unfold qY; rw[j]);refine⟨⟨v,w',k,je l⟩,rfl,fun x f n=>?_⟩;rcases Qv.1 f with rfl|f
  ·exact absurd Qx n
  ·exact f
 ·cases b
theorem Iz{e:TE}{c i sz o:Nat}{y:AV}(b:NX st e c i sz o y=some (st',ps))(sl:List (Nat×AV)):NX ⟨sl,st.ck,st.nx⟩ e c i sz o y=some (⟨sl,st'.ck,st'.nx⟩,ps)/\st'.ck.map (·.1)=st.ck.map (·.1):=by
 unfold NX at b ⊢;split at b
 ·rename_i f;split at b
  ·rename_i g;split at b
   ·rename_i h j;cases b;simp only[f,g,h,j];exact⟨trivial,iA f⟩
   ·cases b
  ·cases b
 ·cases b
theorem CU{T:TypeId}{x y:AV}(b:zH E st T x y=some (st',ps))(sl:List (Nat×AV)):zH E ⟨sl,st.ck,st.nx⟩ T x y=some (⟨sl,st'.ck,st'.nx⟩,ps)/\st'.ck.map (·.1)=st.ck.map (·.1):=by
 unfold zH at b ⊢;split at b
 ·rename_i e i;split at b
  ·split at b
   ·rename_i c;split at b
    ·rename_i f;split at b
     ·rename_i g;cases b;simp only[c,g];exact⟨trivial,iA c⟩
     ·cases b
    ·cases b
   ·cases b
  ·split at b
   ·rename_i c;split at b
    ·rename_i f;split at b
     ·rename_i g h;cases b;simp only[c,f,g,h];exact⟨trivial,iA c⟩
     ·cases b
    ·rename_i f;simp only[c,f];exact Iz b sl
   ·rename_i c;split at b
    ·rename_i f;split at b
     ·rename_i g;split at b
      ·rename_i h;cases b;simp only[c,f,g,h];exact⟨trivial,iA c⟩
      ·cases b
     ·cases b
    ·cases b
   ·cases b
  ·split at b
   ·rename_i c;split at b
    ·rename_i f;split at b
     ·rename_i g h;cases b;simp only[c,f,g,h];exact⟨trivial,iA c⟩
     ·cases b
    ·cases b
   ·cases b
  ·exact Iz b sl
  ·cases b
 ·cases b
theorem FE(F:E.Ok){a':Act}(h:Fr w0 X0 Bo 0 ⟨[],st.ck,st.nx⟩ ρ gu w)(n:∀ b,X0 b->b<w0.heap.size){T:TypeId}{o1 o2:Operand}{dd:Option Nat}(e:nC (.store T o1 o2)=true)
    (s:∀ t,.tmp t∈gD (.store T o1 o2)->∀ x,get? st.sl t=some x->m ρ (XX X0 ρ st.ck) w x [gt a' t]) (i:uh E st T o1 o2 dd=some (st',r,tc,ps)) (l:eP ps) {u:List (AV×Value)} (G:∀ p∈u,m ρ (XX X0 ρ st.ck) w p.1 [p.2]) :
    fD E.P a'.eval ⟨dd,.store T o1 o2,ty,pos,af,g⟩ w (fun v w'=>we w0 X0 Bo st'.ck st'.nx w' ((r,v)::u))/\st'.sl=put st.sl dd r/\∀ x∈st'.ck,x.1 ∉ tc->x∈st.ck:=by
 unfold uh at i;split at i
 ·rename_i x y H I;split at i
  ·rename_i f A B;cases i;obtain⟨c,j⟩:=l.app;obtain⟨J,K⟩:=CU B (KC 0 u);have o:o1∈gD (.store T o1 o2):=by simp[gD]
   have q:o2∈gD (.store T o1 o2):=by simp[gD]
   have L:=gV s c o (ga e o) H;have M:=gV s c q (ga e q) I;obtain⟨w',C,D⟩:=Dy (ty:=ty) (pos:=pos) (af:=af) (o1:=.const (a'.eval o1)) (o2:=.const (a'.eval o2)) F (jR h G) n L M J j;refine⟨?_,rfl,fun z O R=>?_⟩
   ·have k:(execOp a'.eval ⟨dd,.store T o1 o2,ty,pos,af,g⟩).run E.P w=.ok .skip w':=C;unfold fD;rw[k];exact je (Fr.slot (st:=⟨KC 0 u,f.ck,f.nx⟩) D (SN _) (x:=.val undef) (v:=undef) rfl)
   ·refine absurd ?_ R;have hk:z.1∈f.ck.map (·.1):=Rj.2 ⟨z,O,rfl⟩;rw[K]at hk;obtain⟨z2,S,U⟩:=Rj.1 hk;rw[<-U];exact kC S
  ·split at i
   ·rename_i f V A B;cases i;obtain⟨c,j⟩:=l.app;have o:o1∈gD (.store T o1 o2):=by simp[gD]
    have q:o2∈gD (.store T o1 o2):=by simp[gD]
    obtain⟨⟨w',C,ρ',D,W⟩,q4,Z⟩:=Dp (dst:=dd) (ty:=ty) (pos:=pos) (af:=af) (a':=a') F h n (gV s c o (ga e o) H) (gV s c q (ga e q) I) B j G;refine⟨?_,rfl,Z⟩;have k:(execOp a'.eval ⟨dd,.store T o1 o2,ty,pos,af,g⟩).run E.P w=.ok .skip w':=C;unfold fD;rw[k];refine⟨ρ',D,fun p l=>?_⟩;rcases Qv.1 l with rfl|l
    ·rfl
    ·exact W p l
   ·cases i
 ·cases i
theorem NC(W:E.Ok){a':Act}(h:Fr w0 X0 Bo 0 ⟨[],st.ck,st.nx⟩ ρ gu w)(J:∀ b,X0 b->b<w0.heap.size){T:TypeId}{n:Nat}{parts:Array (Nat×Operand)}(hl:∀ x∈lv parts.toList,∀ y,lj st.sl x=some y->m ρ (XX X0 ρ st.ck) w y [a'.eval x])
    (g:EW E st T n parts.toList d=some (st',r,tc,ps)) {G:List (AV×Value)} (Z:∀ p∈G,m ρ (XX X0 ρ st.ck) w p.1 [p.2]) :
    (∃ v w',(execOp a'.eval ⟨d,.buildSlice T n parts,ty,pos,af,none⟩).run E.P w=.ok (.value v) w'/\we w0 X0 Bo st'.ck st'.nx w' ((r,v)::G))/\st'.sl=put st.sl d r/\∀ x∈st'.ck,x.1 ∉ tc->x∈st.ck:=by
 unfold EW at g;split at g
 ·rename_i u hu;obtain⟨e,K,h1,h2,h3,h4⟩:=fF hu;simp only[h1]at g;obtain⟨i,hi,H,I,aa⟩:=(W.fact h3).info;have A:(K.ty.wrap (zc K.ty)).cells=(zc K.ty).toArray:=fu (fw _) (gm _);have k:0<u.size:=by
   have:∀ t:Ty,0<t.size:=by
    intro t
    induction t with
    | pair t u ab ac=>simp only[Ty.size]; omega
    | one t ih=>exact ih
    | _=>simp[Ty.size]
   exact this u
  have B:=eU W h1 h2;rw[h4]at I A H;split at g
  ·rename_i L s;have L:=QS L;have s:=QS s;split at g
   ·rename_i cs e1;split at g
    ·rename_i l e2;cases g;have hw:=h.wd J;have M:jd (open Classical in fun x=>if x∈lv parts.toList then lj st.sl x else none) (FO u) parts.toList (IU u n)=some cs:=by
      rw[<-e1];exact(i_ fun x f=>by simp[f]).symm
     obtain⟨j,q1,q2,q3,q4,q5⟩:=kH (a:=a') (ρ:=ρ) (X:=XX X0 ρ st.ck) (w:=w) (place:=fun i=>some (i*u.size,u.size)) (cells:=madeCells (zc u).toArray (n*u.size)) (fun x y f=>by
      split at f
      ·rename_i hm; exact hl x hm y f
      ·cases f) (fun i o v C=>by unfold FO at C; cases C; rfl) M qc (by rw[iv _ _ (fw u)]; exact yy) (fun c q=>by
       rw[iv _ _ (fw u)]at q;obtain⟨z,H,q⟩:=TV.1 q;rw[RW H]at q;exact gm u c q)
     obtain⟨r1,r2⟩:=qd hw e2 q2;have D:=UF (P:=E.P) w T e.elem n (parts.map fun(i,x)=>(i,a'.eval x)) j i _ B hi H (by rw[I]; omega) (by rw[I]; have:=WT s k; omega)
      (by rw[I,A]; rw[<-q1]; simp[madeCells])
     have O:=To (e:=e.elem) (base:=w.heap.size) w j n (Qu _) (by
      have:n<=n*u.size:=Vh n k;simp only[maxLen]; omega) (by rw[q4,U'])
     have R:=lg (jR h Z) (d:=G.length) (SN _) (fC w _) (T:=e.elem) (t:=u) (l:=l) (by rw[r1]; exact O) q5 r2;refine⟨⟨_,_,?_,je R⟩,rfl,fun x f F=>?_⟩
     ·simp only[execOp,Rf,D]; rfl
     ·rcases Qv.1 f with rfl|f
      ·exact absurd Qx F
      ·exact f
    ·cases g
   ·cases g
  ·rename_i L s;have F:n=0:=by
    rcases Sc n with h|h
    ·exact h
    ·have:Nat.ble 1 n=true:=SD h;rw[this]at s; cases s
   subst F;split at g
   ·rename_i S;cases g;have U:parts=#[]:=by rw[<-Rx]; exact S
    subst U;have O:=To (e:=e.elem) (size:=u.size) (base:=w.heap.size) w #[] 0 (Qu _) (by simp[maxLen]) (by simp);have R:=lg (jR h Z) (d:=G.length) (SN _) (fC w (.cells #[] e.elem)) (T:=e.elem) (t:=u) (l:=[]) O (fun c q=>by cases q) (fun i x f=>by simp at f);refine⟨⟨_,_,?_,je R⟩,rfl,fun x f F=>?_⟩
    ·have V:Array.map (fun(_:Nat)=>(default:Value)) (Array.range 0)=#[]:=by apply Vf<;>simp
     simp[execOp,Instr.buildSlice,Rb B,sizeOf,typeInfo,hi,Instr.fill,newRow,V]
    ·rcases Qv.1 f with rfl|f
     ·exact absurd Qx F
     ·exact f
   ·cases g
  ·cases g
 ·cases g
theorem J_(F:E.Ok){a':Act}(h:Fr w0 X0 Bo 0 ⟨[],st.ck,st.nx⟩ ρ gu w){T:TypeId}{x y:AV}{o1 o2:Operand}(b:m ρ (XX X0 ρ st.ck) w x [a'.eval o1])(K:m ρ (XX X0 ρ st.ck) w y [a'.eval o2])
    (f:uZ E st T x y d=some (st',r,tc,ps)) (L:eP ps) {k:List (AV×Value)} (M:∀ p∈k,m ρ (XX X0 ρ st.ck) w p.1 [p.2]) :
    (∃ v w',(execOp a'.eval ⟨d,.makeSlice T o1 o2,ty,pos,af,none⟩).run E.P w=.ok (.value v) w'/\we w0 X0 Bo st'.ck st'.nx w' ((r,v)::k))/\st'.sl=put st.sl d r/\∀ x∈st'.ck,x.1 ∉ tc->x∈st.ck:=by
 unfold uZ at f;split at f
 ·rename_i p q;obtain⟨O,R⟩:=fI b;obtain⟨S,n⟩:=fI K;split at f
  ·rename_i u U;obtain⟨e,e',G,V,H,W⟩:=fF U;simp only[G,H]at f;cases f;obtain⟨⟨o,s,Z⟩,_⟩:=L;obtain⟨i,hi,g,I,A⟩:=(F.fact H).info;rw[W]at g I;have J:=n.2;simp only[Gx.hi]at J;obtain⟨w',hr,ho,hb⟩:=qp (P:=E.P) (w:=w) (eU F G V) hi g I o s (by rw[A]; omega) J;have B:(execOp a'.eval ⟨d,.makeSlice T o1 o2,ty,pos,af,none⟩).run E.P w=.ok (.value (.slice (some ⟨w.heap.size,0,none⟩) p.toNat q.toNat)) w':=by
    simp only[execOp,Rf,O,S,hr]; rfl
   have C:=lg (jR h M) (d:=k.length) (SN _) hb (T:=e.elem) (t:=u) (l:=List.replicate p.toNat (zd u)) (xs:=(List.replicate p.toNat (zc u)).flatten) (by simpa using ho) (fun c j=>by
    obtain⟨z,g,j⟩:=TV.1 j;rw[RW g]at j;exact gm u c j) (fun i x b=>by
    rw[TW]at b;split at b
    ·rename_i D;cases b;rw[oh (fw u) D];exact g_ _ w u
    ·cases b)
   refine⟨⟨_,w',B,je C⟩,rfl,fun x b hn=>?_⟩;rcases Qv.1 b with rfl|b
   ·exact absurd Qx hn
   ·exact b
  ·cases f
 ·cases f
theorem KQ(L:E.Ok){a':Act}{o:Oper}(h:Fr w0 X0 Bo 0 ⟨[],st.ck,st.nx⟩ ρ gu w)(u:∀ b,X0 b->b<w0.heap.size)(j:nC o.op=true)
    (z:∀ t,.tmp t∈gD o.op->∀ x,get? st.sl t=some x->m ρ (XX X0 ρ st.ck) w x [gt a' t]) (f:xI E st o an=some (st',r,tc,ps)) (B:eP ps) {U:List (AV×Value)} (M:∀ p∈U,m ρ (XX X0 ρ st.ck) w p.1 [p.2]) :
    fD E.P a'.eval o w (fun v w'=>we w0 X0 Bo st'.ck st'.nx w' ((r,v)::U))/\st'.sl=put st.sl o.dst r/\∀ x∈st'.ck,x.1 ∉ tc->x∈st.ck:=by
 obtain⟨C,op,ty,pos,af,gd⟩:=o;dsimp only at j z ⊢;unfold xI at f;dsimp only at f;split at f
 ·rename_i c;obtain⟨callee,args,ats⟩:=c;have D:∀{g:St}{A:AV}{l:List Nat}{q:List Prop},mZ E st { callee:=callee,args:=args,argTypes:=ats } C=some (g,A,l,q)->eP (fG st.sl (gD (.call { callee:=callee,args:=args,argTypes:=ats }))++q) ->
      fD E.P a'.eval ⟨C,.call { callee:=callee,args:=args,argTypes:=ats },ty,pos,af,gd⟩ w (fun v w'=>we w0 X0 Bo g.ck g.nx w' ((A,v)::U))/\g.sl=put st.sl C A/\∀ x∈g.ck,x.1 ∉ l->x∈st.ck:=by
   intro g A l q V B;obtain⟨i,s⟩:=B.app;refine⟨?_,yP V,tN V⟩;have:=EA (ty:=ty) (pos:=pos) (af:=af) (a':=a') (d':=some U.length) L (jR h M) u (by intro t e; cases e; exact SN _) (fun x O y W=>gV z i O (ga j O) W) V s;exact fD.imp this fun v w' ⟨ρ',hf⟩=>je hf
  dsimp only at f;split at f
  ·split at f
   ·rename_i o1 o2 T T' Z et;split at f
    ·rename_i hT;have hT:=QR hT;subst hT;split at f
     ·rename_i v1 v2 po F;split at f
      ·rename_i g A l q G;cases f;obtain⟨i,s⟩:=B.app;have R:o1∈gD (.call { callee:=.builtin .append,args:=args,argTypes:=ats }):=by simp only[gD,Z]; simp
       have S:o2∈gD (.call { callee:=.builtin .append,args:=args,argTypes:=ats }):=by simp only[gD,Z]; simp
       obtain⟨⟨v,w',H,I⟩,J,K⟩:=MJ (args:=args) (ats:=ats) (ty:=ty) (pos:=pos) (af:=af) (a':=a') L h u (gV z i R (ga j R) po) (gV z i S (ga j S) F) G s (by rw[<-Rx]; exact Z) (by rw[<-Rx]; exact et) M;exact⟨eM H I,J,K⟩
      ·cases f
     ·cases f
    ·cases f
   ·cases f
  ·split at f
   ·rename_i g A l q G;cases f;exact D G B
   ·cases f
 ·rename_i T n parts;split at f
  ·rename_i g A l q G;cases f;obtain⟨i,s⟩:=B.app;obtain⟨⟨v,w',H,I⟩,J,K⟩:=NC (ty:=ty) (pos:=pos) (af:=af) (a':=a') L h u (fun x O y W=>gV z i (by simpa [gD]using O) (ga j (by simpa [gD]using O)) W) G M;exact⟨eM H I,J,K⟩
  ·cases f
 ·rename_i T n k;split at f
  ·rename_i v1 v2 po F;split at f
   ·rename_i g A l q G;cases f;obtain⟨i,s⟩:=B.app;have R:n∈gD (.makeSlice T n k):=by simp[gD]
    have S:k∈gD (.makeSlice T n k):=by simp[gD]
    obtain⟨⟨v,w',H,I⟩,J,K⟩:=J_ (ty:=ty) (pos:=pos) (af:=af) (a':=a') L h (gV z i R (ga j R) po) (gV z i S (ga j S) F) G s M;exact⟨eM H I,J,K⟩
   ·cases f
  ·cases f
 ·rename_i T;obtain⟨⟨v,w',H,I⟩,J,K⟩:=u_ (ty:=ty) (pos:=pos) (af:=af) (a':=a') L h f M;exact⟨eM H I,J,K⟩
 ·rename_i T o1 o2;exact FE L h u j z f B M
 ·cases f
theorem JX(i:E.Ok){a':Act}{o:Oper}(h:Fr w0 X0 Bo 0 ⟨[],st.ck,st.nx⟩ ρ gu w)(f:∀ b,X0 b->b<w0.heap.size)(c:nC o.op=true)
    (j:∀ t,.tmp t∈gD o.op->∀ x,get? st.sl t=some x->m ρ (XX X0 ρ st.ck) w x [gt a' t]) (e:FQ E st o an=some (st',r,tc,ps)) (u:eP ps) {y:List (AV×Value)} (k:∀ p∈y,m ρ (XX X0 ρ st.ck) w p.1 [p.2]) :
    fD E.P a'.eval o w (fun v w'=>we w0 X0 Bo st'.ck st'.nx w' ((r,v)::y))/\st'.sl=put st.sl o.dst r/\∀ x∈st'.ck,x.1 ∉ tc->x∈st.ck:=by
 obtain⟨g,op,ty,pos,af,z⟩:=o;unfold FQ at e;dsimp only at c j e ⊢;split at e
 ·obtain⟨⟨v,w',l,n⟩,q,s⟩:=u_ (ty:=ty) (pos:=pos) (af:=af) (a':=a') i h e k;exact⟨eM l n,q,s⟩
 ·split at e
  ·obtain⟨⟨v,w',l,n⟩,q,s⟩:=yD (o:=⟨g,op,ty,pos,af,z⟩) i h f c j e u k;exact⟨eM l n,q,s⟩
  ·exact KQ (o:=⟨g,op,ty,pos,af,z⟩) i h f c j e u k
theorem P2(D:E.Ok){a':Act}{o:Oper}{ops:Array Oper}{ds:List (Option Nat)}(i:∀ g:Nat,ju ds g=(ops[g]?).map Oper.dst)(h:Fr w0 X0 Bo 0 ⟨[],st.ck,st.nx⟩ ρ gu w)(j:∀ b,X0 b->b<w0.heap.size)(k:nC o.op=true)
    (F:∀ t,.tmp t∈gD o.op->∀ x,get? st.sl t=some x->m ρ (XX X0 ρ st.ck) w x [gt a' t]) (H:∀ g w',o.guard=some (g,w')->∀ t,ju ds g=some (some t)->∀ x,get? st.sl t=some x->m ρ (XX X0 ρ st.ck) w x [gt a' t])
    (c:CP E st ds o an=some (st',r,tc,ps)) (f:eP ps) {q:List (AV×Value)} (s:∀ p∈q,m ρ (XX X0 ρ st.ck) w p.1 [p.2]) :
    (qm ops o a'->fD E.P a'.eval o w (fun v w'=>we w0 X0 Bo st'.ck st'.nx w' ((r,v)::q)))/\(¬qm ops o a'->we w0 X0 Bo st'.ck st'.nx w ((r,undef)::q))/\st'.sl=put st.sl o.dst r/\∀ x∈st'.ck,x.1 ∉ tc->x∈st.ck:=by
 unfold CP at c;split at c
 ·rename_i e;obtain⟨u,y,z⟩:=JX D h j k F c f s;exact⟨fun _=>u,fun l=>(l (by unfold qm; rw[e]; trivial)).elim,y,z⟩
 ·rename_i g n e;split at c
  ·rename_i t l;split at c
   ·rename_i x A;have G:=H g n e t l x A;split at c
    ·rename_i B;obtain⟨u,y,z⟩:=JX D h j k F c f s;exact⟨fun _=>u,fun C=>(C ((sA i e l).2 (vK B G))).elim,y,z⟩
    ·rename_i B;cases c;refine⟨fun hk=>(tG B G ((sA i e l).1 hk)).elim,fun _=>⟨ρ,h,fun p f=>?_⟩,rfl,fun x A _=>A⟩;rcases Qv.1 f with rfl|f
     ·rfl
     ·exact s p f
    ·cases c
   ·cases c
  ·cases c
def xZ(sl:List (Nat×AV))(l:List Oper)(R:Nat->AV):Nat->List (Nat×AV)
 | 0=>sl
 | k+1=>match l[k]? with
  | some o=>put (xZ sl l R k) o.dst (R k)
  | none=>xZ sl l R k
theorem kO{sl:List (Nat×AV)}{o:Oper}{l:List Oper}{R:Nat->AV}:∀ k,xZ sl (o::l) R (k+1)=xZ (put sl o.dst (R 0)) l (fun i=>R (i+1)) k
 | 0=>rfl
 | k+1=>by
  have b:=kO (sl:=sl) (o:=o) (l:=l) (R:=R) k;have e:xZ sl (o::l) R (k+1+1)=match l[k]? with
   | some c=>put (xZ sl (o::l) R (k+1)) c.dst (R (k+1))
   | none=>xZ sl (o::l) R (k+1):=rfl
  rw[e,b];rfl
theorem tH{sl:List (Nat×AV)}{l:List Oper}{R:Nat->AV}{t:Nat}:∀{k:Nat},k<=l.length ->
    get? (xZ sl l R k) t=match lw (l.map (·.dst)) (fun _=>true) t k with|some i=>some (R i)|none=>get? sl t
 | 0,_=>rfl
 | k+1,hk=>by
  have e:=tH (sl:=sl) (l:=l) (R:=R) (t:=t) (k:=k) (by omega);have f:k<l.length:=by omega
  simp only[xZ,Qr f,lw,T_];have c:(l.map (·.dst))[k]?=some (l[k].dst):=by simp[f]
  rw[c];cases h:l[k].dst with
  | none=>simp[put,e]
  | some d =>
   simp only[put,get?]
   by_cases b:d=t
   ·subst b; simp[S6]
   ·have:Nat.beq d t=false:=by
      cases g:Nat.beq d t with
      | false=>rfl
      | true=>exact absurd (fO g) b
    rw[this];simp only[SQ,Q7,b,Sl];exact e
def lU(ann:List (Nat×An))(o:Oper):Bool:=!oJ (mX ann o) o.op
theorem pK{c:Nat}{k:List Nat}:∀{l:List Nat},c∈l∨c∈k->c∈KD.yz l k
 | [],h=>h.resolve_left (by simp)
 | x::l,h=>by
  simp only[KD.yz,Qv];rcases h with h|h
  ·rcases Qv.1 h with h|h
   ·exact .inl h
   ·exact .inr (pK (.inl h))
  ·exact .inr (pK (.inr h))
theorem xX{c f e:Nat}{tc:List Nat}(g:c∈tc)(i:f<=e):∀{b:List (Nat×List Nat)},(e,tc)∈b->c∈KD f b
 | (m,k)::l,h=>by
  rcases Qv.1 h with h|h
  ·cases h;simp only[KD,SD i];exact pK (.inl g)
  ·have j:=xX g i h;simp only[KD];split
   ·exact pK (.inr j)
   ·exact j
theorem ov{ann:List (Nat×An)}{fl:List (Nat×Nat)}{ds:List (Option Nat)}:∀{l:List Oper}{j:Nat}{st st':St}{c:List (Nat×List Nat)}{b ps:List Prop},lK E ann fl ds j l st c b=some (st',ps)->∃ k,ps=b++k
 | [],j,st,st',c,b,ps,h=>by cases h; exact⟨[],by simp⟩
 | o::l,j,st,st',c,b,ps,h=>by
  simp only[lK]at h;split at h
  ·split at h
   ·rename_i r qs e;obtain⟨k,hk⟩:=ov h;exact⟨qs++k,by rw[hk,QP]⟩
   ·cases h
  ·split at h
   ·rename_i f r tc qs e;split at h
    ·obtain⟨k,hk⟩:=ov h;exact⟨qs++k,by rw[hk,QP]⟩
    ·cases h
   ·cases h
theorem C0{e:Nat}(h:e<1000000):Nat.ble 1000000 e=false:=by
 cases b:Nat.ble 1000000 e with
 | false=>rfl
 | true=>exact absurd (QS b) (by omega)
theorem th{ann:List (Nat×An)}{fl:List (Nat×Nat)}{ds:List (Option Nat)}:∀{l:List Oper}{j:Nat}{st st':St}{g:List (Nat×List Nat)}{J ps:List Prop},lK E ann fl ds j l st g J=some (st',ps)->eP ps ->
    (∀{sl:List (Nat×AV)}{ck:List (Nat×CT)}{n:Nat}{ds:List (Option Nat)}{o:Oper}{an:An}{st':St}{r:AV}{tc:List Nat}{ps:List Prop},CP E ⟨sl,ck,n⟩ ds o an=some (st',r,tc,ps)->st'.sl=put sl o.dst r) ->
    ∃(R:Nat->AV) (S:Nat->List (Nat×CT)×Nat) (K H:Nat->List Nat),S 0=(st.ck,st.nx)/\st'=⟨xZ st.sl l R l.length,(S l.length).1,(S l.length).2⟩ /\
     (∀ i o,l[i]?=some o->lU ann o=false->S (i+1)=S i/\∃ qs,po E (xZ st.sl l R i) (gw (S i).1 (H i)) ds o (mX ann o)=some (R i,qs)/\eP qs) /\
     (∀ i o,l[i]?=some o->lU ann o=true->∃ qs u,CP E ⟨xZ st.sl l R i,(S i).1,(S i).2⟩ ds o (mX ann o)=some (u,R i,K i,qs)/\eP qs/\(u.ck,u.nx)=S (i+1)/\JS fl (S i).1 (K i) o=true) /\
     (∀ i o b,l[i]?=some o->get? fl (j+i)=some b->b<1000000->(∀ x∈g,b<=x.1->∀ c∈x.2,c∈H i)/\∀ e C,e<i->l[e]?=some C->lU ann C=true->b<=j+e->∀ c∈K e,c∈H i) /\
     (∀ i o b,l[i]?=some o->lU ann o=false->get? fl (j+i)=some b->1000000<=b->∀ x∈(S i).1,x.1∈H i∨3000000<=b/\(4000000<=b->x.1≠PW fl)/\∃ T l,x.2=.box T l)
 | [],j,st,st',g,J,ps,h,L,D=>by
  cases h;exact⟨fun _=>.nil,fun _=>(st.ck,st.nx),fun _=>[],fun _=>[],rfl,rfl,(fun i o h=>by simp at h),(fun i o h=>by simp at h),(fun i o b h=>by simp at h),(fun i o b h=>by simp at h)⟩
 | o::l,j,st,st',g,J,ps,h,L,D=>by
  simp only[lK]at h;split at h
  ·rename_i F;split at h
   ·rename_i r qs V;obtain⟨k,hk⟩:=ov h;have hq:eP qs:=by rw[hk]at L; exact L.app.1.app.2
    obtain⟨R,S,K,H,h0,W,Z,I,h4,h5⟩:=th h L D;refine⟨fun i=>match i with|0=>r|i+1=>R i,fun i=>match i with|0=>(st.ck,st.nx)|i+1=>S i,fun i=>match i with|0=>[]|i+1=>K i,fun i=>match i with|0=>Fy st.ck fl j g|i+1=>H i,rfl,?_,?_,?_,?_,?_⟩
    ·rw[W];simp only[Rr,kO]
    ·intro i m hi q;cases i with
     | zero =>
      have:o=m:=by simpa using hi
      subst this
      exact⟨h0,qs,V,hq⟩
     | succ i =>
      have:=Z i m (by simpa using hi) q
      simp only[kO]
      exact this
    ·intro i m hi q;cases i with
     | zero =>
      have:o=m:=by simpa using hi
      subst this
      simp only[lU,F]at q
      cases q
     | succ i =>
      have:=I i m (by simpa using hi) q
      simp only[kO]
      exact this
    ·intro i m b hi p f;cases i with
     | zero =>
      refine⟨fun x t s c B=>?_,fun e C q=>absurd q (Q' _)⟩
      have p:get? fl j=some b:=p
      show c∈Fy st.ck fl j g
      simp only[Fy,p,C0 f]
      exact xX B s t
     | succ i =>
      obtain⟨q1,q2⟩:=h4 i m b (by simpa using hi) (by rw[show j+1+i=j+(i+1) by omega]; exact p) f
      refine⟨q1,fun e C q G v s c B=>?_⟩
      cases e with
      | zero =>
       have:o=C:=by simpa using G
       subst this
       simp only[lU,F]at v
       cases v
      | succ e=>exact q2 e C (by omega) (by simpa using G) v (by omega) c B
    ·intro i m b hi M p f;cases i with
     | zero =>
      have p:get? fl j=some b:=p
      intro x t
      show x.1∈Fy st.ck fl j g∨_
      simp only[Fy,p,SD f]
      cases I:Nat.ble 3000000 b with
      | false=>exact .inl (kC t)
      | true =>
       have y:=QS I
       cases z:Nat.ble 4000000 b with
       | false=>exact(lP t).imp id fun h=>⟨y,(fun O=>by rw[SD O]at z; cases z),h⟩
       | true =>
        by_cases A:x.1=PW fl
        ·exact .inl (by rw[A]; exact Qx)
        ·exact(lP t).imp (Qs _) fun h=>⟨y,fun _=>A,h⟩
     | succ i=>exact h5 i m b (by simpa using hi) M (by rw[show j+1+i=j+(i+1) by omega]; exact p) f
   ·cases h
  ·rename_i F;split at h
   ·rename_i u r tc qs V;split at h;rotate_left
    ·cases h
    rename_i U;obtain⟨k,hk⟩:=ov h;have hq:eP qs:=by rw[hk]at L; exact L.app.1.app.2
    have aa:=D V;obtain⟨R,S,K,H,h0,W,Z,I,h4,h5⟩:=th h L D;rw[aa]at W Z I;refine⟨fun i=>match i with|0=>r|i+1=>R i,fun i=>match i with|0=>(st.ck,st.nx)|i+1=>S i,fun i=>match i with|0=>tc|i+1=>K i,fun i=>match i with|0=>Fy st.ck fl j g|i+1=>H i,rfl,?_,?_,?_,?_,?_⟩
    ·rw[W];simp only[Rr,kO]
    ·intro i m hi q;cases i with
     | zero =>
      have:o=m:=by simpa using hi
      subst this
      simp only[lU,F]at q
      cases q
     | succ i =>
      have:=Z i m (by simpa using hi) q
      simp only[kO]
      exact this
    ·intro i m hi q;cases i with
     | zero =>
      have:o=m:=by simpa using hi
      subst this
      exact⟨qs,u,V,hq,h0.symm,U⟩
     | succ i =>
      have:=I i m (by simpa using hi) q
      simp only[kO]
      exact this
    ·intro i m b hi p f;cases i with
     | zero =>
      refine⟨fun x t s c B=>?_,fun e C q=>absurd q (Q' _)⟩
      have p:get? fl j=some b:=p
      show c∈Fy st.ck fl j g
      simp only[Fy,p,C0 f]
      exact xX B s t
     | succ i =>
      obtain⟨q1,q2⟩:=h4 i m b (by simpa using hi) (by rw[show j+1+i=j+(i+1) by omega]; exact p) f
      refine⟨fun x t s c B=>q1 x (Qs _ t) s c B,fun e C q G v s c B=>?_⟩
      cases e with
      | zero=>exact q1 (j,tc) Qx s c B
      | succ e=>exact q2 e C (by omega) (by simpa using G) v (by omega) c B
    ·intro i m b hi M p f;cases i with
     | zero =>
      have p:get? fl j=some b:=p
      intro x t
      show x.1∈Fy st.ck fl j g∨_
      simp only[Fy,p,SD f]
      cases I:Nat.ble 3000000 b with
      | false=>exact .inl (kC t)
      | true =>
       have y:=QS I
       cases z:Nat.ble 4000000 b with
       | false=>exact(lP t).imp id fun h=>⟨y,(fun O=>by rw[SD O]at z; cases z),h⟩
       | true =>
        by_cases A:x.1=PW fl
        ·exact .inl (by rw[A]; exact Qx)
        ·exact(lP t).imp (Qs _) fun h=>⟨y,fun _=>A,h⟩
     | succ i=>exact h5 i m b (by simpa using hi) M (by rw[show j+1+i=j+(i+1) by omega]; exact p) f
   ·cases h
theorem Mw{T:TypeId}{x y:AV}(c:Bm E st T x y d an=some (st',r,tc,ps)):st'.sl=put st.sl d r/\∀ x∈st'.ck,x.1 ∉ tc->x∈st.ck:=by
 unfold Bm at c
 repeat' split at c
 all_goals first
  | (cases c; done)
  | (cases c; exact⟨rfl,fun x b _=>b⟩)
  | (cases c; exact⟨rfl,fun x b _=>(fX b).1⟩)
  | (cases c
     refine⟨rfl,fun x b e=>?_⟩
     rcases Qv.1 b with rfl|b
     ·exact absurd Qx e
     ·first|exact b|exact(fX b).1)
theorem KM{o:Oper}(b:xI E st o an=some (st',r,tc,ps)):st'.sl=put st.sl o.dst r/\∀ x∈st'.ck,x.1 ∉ tc->x∈st.ck:=by
 unfold xI at b;split at b
 ·split at b
  ·split at b
   ·split at b
    ·split at b
     ·split at b
      ·rename_i c;cases b;exact Mw c
      ·cases b
     ·cases b
    ·cases b
   ·cases b
  ·split at b
   ·rename_i c;cases b;exact⟨yP c,tN c⟩
   ·cases b
 ·split at b
  ·rename_i c;cases b;unfold EW at c
   repeat' split at c
   all_goals first
    | (cases c; done)
    | (cases c
       refine⟨rfl,fun x e f=>?_⟩
       rcases Qv.1 e with rfl|e
       ·exact absurd Qx f
       ·exact e)
  ·cases b
 ·split at b
  ·split at b
   ·rename_i c;cases b;unfold uZ at c
    repeat' split at c
    all_goals first
     | (cases c; done)
     | (cases c
        refine⟨rfl,fun x e f=>?_⟩
        rcases Qv.1 e with rfl|e
        ·exact absurd Qx f
        ·exact e)
   ·cases b
  ·cases b
 ·unfold kQ at b;split at b
  ·cases b;refine⟨rfl,fun x e f=>?_⟩;rcases Qv.1 e with rfl|e
   ·exact absurd Qx f
   ·exact e
  ·cases b
 ·unfold uh at b;split at b
  ·split at b
   ·rename_i g h c;cases b;refine⟨rfl,fun z i f=>absurd ?_ f⟩;have j:=(CU c []).2;have hk:z.1∈g.ck.map (·.1):=Rj.2 ⟨z,i,rfl⟩;rw[j]at hk;obtain⟨n,k,l⟩:=Rj.1 hk;rw[<-l];exact kC k
   ·split at b
    ·rename_i c;cases b;obtain⟨p,m⟩:=NQ c;exact⟨rfl,m⟩
    ·cases b
  ·cases b
 ·cases b
theorem Ej{T:TypeId}{d:Option Nat}(b:kQ E st T d=some (st',r,tc,ps)):st'.sl=put st.sl d r/\∀ x∈st'.ck,x.1 ∉ tc->x∈st.ck:=by
 unfold kQ at b;split at b
 ·cases b;refine⟨rfl,fun x c e=>?_⟩;rcases Qv.1 c with rfl|c
  ·exact absurd Qx e
  ·exact c
 ·cases b
theorem Ga{o:Oper}(b:FQ E st o an=some (st',r,tc,ps)):st'.sl=put st.sl o.dst r/\∀ x∈st'.ck,x.1 ∉ tc->x∈st.ck:=by
 unfold FQ at b;split at b
 ·exact Ej b
 ·split at b
  ·exact(tY b).1
  ·exact KM b
theorem Hl{ds:List (Option Nat)}{o:Oper}(b:CP E st ds o an=some (st',r,tc,ps)):st'.sl=put st.sl o.dst r/\∀ x∈st'.ck,x.1 ∉ tc->x∈st.ck:=by
 unfold CP at b;split at b
 ·exact Ga b
 ·split at b
  ·split at b
   ·split at b
    ·exact Ga b
    ·cases b;exact⟨rfl,fun x c _=>c⟩
    ·cases b
   ·cases b
  ·cases b
def gO(ann:List (Nat×An))(l:List Oper)(i:Nat):Bool :=
 match l[i]? with
 | some o=>lU ann o
 | none=>false
def BS(fl:List (Nat×Nat))(n:Nat):Nat :=
 match get? fl 2000000 with
 | some b=>b
 | none=>n
def aaO(ann:List (Nat×An))(l:List Oper)(fl:List (Nat×Nat))(b:List (List (Nat×Option Nat))):Bool :=
 match get? fl 2000000 with
 | none=>true
 | some c=>match l[c]? with
  | some o=>mQ o&&lU ann o&&(List.range l.length).all fun j=>Nat.beq j c||gO ann l j ||
   ((b.getD j []).all fun r=>!(r.2 == some c))&&(Nat.ble j c||match get? fl j with|some e=>decide (e<=c)||Nat.ble 1000000 e&&!Nat.ble 3000000 e|none=>false)
  | none=>false
def uo(o:Oper):Bool :=
 match o.op with
 | .call c=>match c.callee with
  | .builtin .append=>true
  | _=>false
 | .buildSlice _ _ _=>true
 | .makeSlice _ _ _=>true
 | .alloc _=>true
 | _=>false
def AQ(l:List Oper)(j:Nat):Bool :=
 match l[j]? with
 | some o=>uo o
 | none=>false
theorem pG{x:Nat×CT}{k:Nat}:∀{l:List (Nat×CT)},x∈l->x.1≠k->x∈del l k
 | (c,z)::l,h,hk=>by
  simp only[del];rcases Qv.1 h with rfl|h
  ·have:Nat.beq c k=false:=by
     cases b:Nat.beq c k with
     | false=>rfl
     | true=>exact absurd (fO b) hk
   simp only[this];exact Qx
  ·split
   ·exact pG h hk
   ·exact Qs _ (pG h hk)
theorem AK{ck:List (Nat×CT)}(m:(ck.map (·.1)).Nodup){x:Nat×CT}(n:x∈ck){T:TypeId}{l:AV}(c:x.2=.box T l){k:Nat}{f:TypeId}{t:Ty}{l':List t.den}(o:get? ck k=some (.row f t l')):x.1≠k:=by
 intro e;have p:=b7 o;have:x=(k,.row f t l'):=by
  obtain⟨i,hi,g⟩:=Rz.1 n;obtain⟨j,q,h⟩:=Rz.1 p;have b:i=j:=by
   refine(VU (by simpa using hi) m).1 ?_;simp only[Ro,Qr hi,Qr q,g,h,Sp,e]
  subst b;exact g.symm.trans h
 rw[this]at c;cases c
theorem ye{o:Oper}(g:uo o=true)(h:(st.ck.map (·.1)).Nodup){x:Nat×CT}(f:x∈st.ck){T:TypeId}{l:AV}(i:x.2=.box T l)(b:xI E st o an=some (st',r,tc,ps)):x∈st'.ck:=by
 obtain⟨j,op,ty,pos,m,n⟩:=o;unfold xI at b;dsimp only at b;split at b
 ·rename_i c;obtain⟨callee,args,k⟩:=c;dsimp only at b;split at b
  ·split at b
   ·split at b
    ·split at b
     ·split at b
      ·rename_i e;cases b;unfold Bm at e
       repeat' split at e
       all_goals first
        | (cases e; done)
        | (cases e; exact f)
        | (cases e; exact Qs _ f)
        | (cases e
           rename_i p _ _ _ _
           first|exact pG f (AK h f i (by assumption))|exact Qs _ (pG f (AK h f i (by assumption))))
      ·cases b
     ·cases b
    ·cases b
   ·cases b
  ·exfalso;unfold uo at g;dsimp only at g;split at g
   ·simp_all
   ·cases g
 ·split at b
  ·rename_i e;cases b;unfold EW at e
   repeat' split at e
   all_goals first
    | (cases e; done)
    | (cases e; exact Qs _ f)
  ·cases b
 ·split at b
  ·split at b
   ·rename_i e;cases b;unfold uZ at e
    repeat' split at e
    all_goals first
     | (cases e; done)
     | (cases e; exact Qs _ f)
   ·cases b
  ·cases b
 ·unfold kQ at b;split at b
  ·cases b;exact Qs _ f
  ·cases b
 ·cases g
 ·cases b
theorem ta{o:Oper}(g:uo o=true)(e:(st.ck.map (·.1)).Nodup){x:Nat×CT}(c:x∈st.ck){T:TypeId}{l:AV}(f:x.2=.box T l)(b:FQ E st o an=some (st',r,tc,ps)):x∈st'.ck:=by
 unfold FQ at b;split at b
 ·unfold kQ at b;split at b
  ·cases b; exact Qs _ c
  ·cases b
 ·split at b
  ·exact(tY b).2 e x c T l f
  ·exact ye g e c f b
theorem EJ{o:Oper}{ds:List (Option Nat)}(e:uo o=true)(f:(st.ck.map (·.1)).Nodup){x:Nat×CT}(c:x∈st.ck){T:TypeId}{l:AV}(g:x.2=.box T l)(b:CP E st ds o an=some (st',r,tc,ps)):x∈st'.ck:=by
 unfold CP at b;split at b
 ·exact ta e f c g b
 ·split at b
  ·split at b
   ·split at b
    ·exact ta e f c g b
    ·cases b;exact c
    ·cases b
   ·cases b
  ·cases b
def xy(l:List Oper)(j:Nat):Bool :=
 match l[j]? with
 | some o=>tJ o
 | none=>false
theorem Cu{n:Nat}:∀{l:List Nat},n∈l->uK n l=true
 | k::l,h=>by
  unfold uK;rcases Qv.1 h with rfl|h
  ·rw[S6]
  ·split
   ·rfl
   ·exact Cu h
theorem Dd{tc:List Nat}{c:Nat}{x:Nat×CT}{T:TypeId}{i:AV}(b:x.2=.box T i)(g:x.1≠c):∀{ck:List (Nat×CT)},Ad tc c ck=true->x∈ck->x.1 ∉ tc
 | (k,y)::r,h,f=>by
  unfold Ad at h;rcases Qv.1 f with rfl|f
  ·dsimp only at b;subst b;dsimp only at h;intro j;rw[Cu j]at h;dsimp only at h;split at h
   ·rename_i e; exact g (fO e)
   ·cases h
  ·refine Dd b g (ck:=r) ?_ f;split at h
   ·split at h
    ·split at h
     ·exact h
     ·cases h
    ·exact h
   ·exact h
theorem J6{ck:List (Nat×CT)}{tc:List Nat}{c i g:Nat}(b:4000000<=g){x:Nat×CT}(j:x∈ck){T:TypeId}{n:AV}(l:x.2=.box T n)(m:x.1≠c):∀{fl:List (Nat×Nat)},okT c ck tc fl=true->(i,g)∈fl->x.1 ∉ tc
 | (k,e)::r,h,f=>by
  unfold okT at h;rcases Qv.1 f with o|f
  ·cases o;rw[SD b]at h;dsimp only at h;split at h
   ·rename_i p; exact Dd l m p j
   ·cases h
  ·refine J6 b j l m (fl:=r) ?_ f;split at h
   ·split at h
    ·exact h
    ·cases h
   ·exact h
theorem zk{cs:List Nat}{n:Nat}{y:Nat×CT}:∀{M:List (Nat×CT)},y∈M->jE cs n y.1∈sU (kk cs n M)
 | (k,z)::r,h=>by
  have c:=fun h=>zk (cs:=cs) (n:=n) (y:=y) (M:=r) h;rcases Qv.1 h with rfl|e
  ·cases z<;>exact Qx
  ·have b:=c e;cases z<;>exact Qs _ b
theorem BB{c:Call}{d:Option Nat}(p:(st.ck.map (·.1)).Nodup){x:Nat×CT}(o:x∈st.ck){T:TypeId}{l:AV}(q:x.2=.box T l)(g:mZ E st c d=some (st',r,tc,ps))(j:x.1 ∉ tc):x∈st'.ck:=by
 unfold mZ at g;split at g
 ·rename_i s B ck2 t e;cases g;unfold oG at e;split at e
  ·split at e
   ·split at e
    ·rename_i C cs D u;split at e
     ·rename_i v f;cases e;refine Te _ (l6 o fun b=>?_);rw[sG]at b;rcases QZ.1 b with b|b
      ·obtain⟨i,hi⟩:=RR.1 b;have k:i<cs.length:=by
        rcases QA i cs.length with h|h
        ·exact h
        ·rw[QD h]at hi; cases hi
       rw[pX]at f;obtain⟨y,z,m⟩:=ua f k;refine j ?_;have:=zk (cs:=cs) (n:=st.nx) m;rw[show jE cs st.nx i=x.1 from ln hi]at this;exact this
      ·obtain⟨y,F,z,A⟩:=ml u _ b;exact AK p o q A rfl
     ·cases e
    ·cases e
   ·cases e
  ·cases e
 ·cases g
theorem uq{o:Oper}(b:tJ o=true)(h:(st.ck.map (·.1)).Nodup){x:Nat×CT}(i:x∈st.ck){T:TypeId}{l:AV}(j:x.2=.box T l)(e:FQ E st o an=some (st',r,tc,ps))(g:x.1 ∉ tc):x∈st'.ck:=by
 unfold FQ at e;obtain⟨k,op,ty,pos,n,p⟩:=o;unfold tJ at b;cases op with
 | call c =>
  dsimp only at e b
  split at e
  ·exact(tY e).2 h x i T l j
  ·unfold xI at e;dsimp only at e;split at e
   ·rename_i f;rw[f]at b;cases b
   ·split at e
    ·rename_i m;cases e;exact BB h i j m g
    ·cases e
 | _=>cases b
theorem Ew{o:Oper}{ds:List (Option Nat)}(c:tJ o=true)(g:(st.ck.map (·.1)).Nodup){x:Nat×CT}(f:x∈st.ck){T:TypeId}{l:AV}(h:x.2=.box T l)(b:CP E st ds o an=some (st',r,tc,ps))(e:x.1 ∉ tc):x∈st'.ck:=by
 unfold CP at b;split at b
 ·exact uq c g f h b e
 ·split at b
  ·split at b
   ·split at b
    ·exact uq c g f h b e
    ·cases b;exact f
    ·cases b
   ·cases b
  ·cases b
def Oo(ann:List (Nat×An))(N:Nat)(l:List Oper)(fl:List (Nat×Nat))(M:List Nat)(b:List (List (Nat×Option Nat))):Bool :=
 ES l M b N&&mP l M l.length&&(Nat.ble l.length 1000000&&aaO ann l fl b&&(List.range l.length).all fun j=>(List.range j).all fun i =>
  (M.getD j 0).testBit i||(!gO ann l j&&(!gO ann l i||match get? fl j with|some c=>decide (c<=i)||Nat.ble 1000000 c&&!Nat.ble 3000000 c|none=>false)) ||
  (!gO ann l i&&match get? fl i with|some c=>Nat.ble 1000000 c&&(!Nat.ble 3000000 c||AQ l j||Nat.ble 4000000 c&&xy l j)|none=>false)||Nat.beq j (BS fl l.length))
def J9(ann:List (Nat×An))(N:Nat)(l:List Oper)(fl:List (Nat×Nat)):Bool:=Oo ann N l fl (Oj l) (gX (hU l) 0 l)
def pJ(ef:Nat->Bool)(L:Nat->Bool):Nat->Nat
 | 0=>0
 | i+1=>if L i&&ef i then i+1 else pJ ef L i
theorem Bb{a b:Nat}(h:Nat.ble a b=false):b<a:=by
 rcases QA b a with c|c
 ·exact c
 ·rw[SD c]at h; cases h
theorem nV{ef:Nat->Bool}{L:Nat->Bool}{e:Nat}(h1:L e=true)(h2:ef e=true):∀{n:Nat},e<n->e<pJ ef L n
 | 0,h=>absurd h (Q' _)
 | i+1,h=>by
  unfold pJ;split
  ·exact h
  ·rename_i b;by_cases c:e=i
   ·subst c;rw[h1,h2]at b;exact absurd rfl b
   ·exact nV h1 h2 (by omega)
theorem pE{ef:Nat->Bool}{L:Nat->Bool}:∀{n:Nat},pJ ef L n=0∨∃ e,e<n/\pJ ef L n=e+1/\L e=true/\ef e=true
 | 0=>.inl rfl
 | i+1=>by
  unfold pJ;split
  ·rename_i b;simp only[QK]at b;exact .inr ⟨i,SN _,rfl,b.1,b.2⟩
  ·rcases pE (ef:=ef) (L:=L) (n:=i)with h|⟨e,f,c⟩
   ·exact .inl h
   ·exact .inr ⟨e,by omega,c⟩
theorem wu{ef:Nat->Bool}{L:Nat->Bool}{n:Nat}:pJ ef L n<=n:=by
 rcases pE (ef:=ef) (L:=L) (n:=n)with h|⟨e,b,c,_⟩
 ·rw[h]; exact QE _
 ·rw[c]; exact b
theorem kS{ann:List (Nat×An)}{l:List Oper}{i:Nat}{o:Oper}(h:l[i]?=some o):gO ann l i=lU ann o:=by
 unfold gO; rw[h]
def yE(ρ:List Value)(ck:List (Nat×CT)):List Value:=(List.range ρ.length).map fun i=>if(ck.map (·.1)).contains i then ρ.getD i undef else undef
theorem pj{ρ:List Value}{ck:List (Nat×CT)}:(yE ρ ck).length=ρ.length:=by simp[yE]
theorem zm{ρ:List Value}{ck:List (Nat×CT)}{x:Nat×CT}(b:x∈ck):(yE ρ ck)[x.1]?=ρ[x.1]?:=by
 rcases QA x.1 ρ.length with h|h
 ·have c:(ck.map (·.1)).contains x.1=true:=by
    rw[WO]; exact Rj.2 ⟨x,b,rfl⟩
  simp only[yE,Ro,TO h,Sp,c,UL];rw[Qz,Qr h];rfl
 ·rw[QD h,QD (by rw[pj]; exact h)]
theorem HW{ρ:List Value}{ck:List (Nat×CT)}{c:Nat}(b:∀ x∈ck,x.1≠c)(e:c<ρ.length):(yE ρ ck)[c]?=some undef:=by
 have b:(ck.map (·.1)).contains c=false:=by
  cases h:(ck.map (·.1)).contains c with
  | false=>rfl
  | true =>
   rw[WO]at h
   obtain⟨x,f,g⟩:=Rj.1 h
   exact absurd g (b x f)
 simp only[yE,Ro,TO e,Sp,b];rfl
theorem qC{ρ:List Value}{ck:List (Nat×CT)}{b:Nat}(h:qZ (yE ρ ck) b):∃ x∈ck,fk ρ x.1 b:=by
 obtain⟨i,h⟩:=h;by_cases hi:∃ x∈ck,x.1=i
 ·obtain⟨x,c,rfl⟩:=hi;refine⟨x,c,?_⟩;unfold fk at h ⊢;rw[zm c]at h;exact h
 ·exfalso;have g:∀ x∈ck,x.1≠i:=fun x c e=>hi ⟨x,c,e⟩;rcases QA i ρ.length with f|f
  ·unfold fk at h;rw[HW g f]at h;obtain⟨u,j,_⟩:=h;simp at j
  ·exact(kV (by rw[pj]; exact f) h).elim
theorem IZ{ρ:List Value}{ck:List (Nat×CT)}{x:Nat×CT}{b:Nat}(c:x∈ck)(h:fk ρ x.1 b):qZ (yE ρ ck) b:=by
 refine⟨x.1,?_⟩;unfold fk at h ⊢;rw[zm c];exact h
end
section
variable{E:Env}{w0:World}{X0 Y:Nat->Prop}{Bo:List Value}{N:Nat}{st st':St}{ρ:List Value}{a:Act}{w w':World}{ps:List Prop}{r:AV}{tc:List Nat}{an:An}{d:Option Nat} {ty:TypeId}{pos:String}{af:Array Edge}{g:Option (Nat×Bool)}
variable{X1:Nat->Prop}{ck ck2:List (Nat×CT)}{nx nx2:Nat}{ρ2:List Value}{w2:World}
theorem Fr.rst(h:Fr w0 X1 Bo 0 ⟨[],ck,nx⟩ ρ gu w)(g:∀ b,X1 b->∀ x∈ck,¬fk ρ x.1 b):Fr w X1 (yE ρ ck) 0 ⟨[],ck,nx⟩ ρ gu w:=by
 refine⟨h.dn,h.sz,Kept.refl w,h.nx,h.nd,h.kn,fun x c b f=>⟨(h.bl x c b f).1,.inr (IZ c f)⟩,h.dj,h.cs,h.sl,⟨fun b f=>?_,?_,fun x c T l e i=>(zm c).symm⟩⟩
 ·obtain⟨x,c,e⟩:=qC f;exact⟨(h.bl x c b e).1,fun f=>g b f x c e⟩
 ·rw[pj]; exact SA h.nx
theorem Fr.acw(h:Fr w0 X1 Bo 0 ⟨[],ck,nx⟩ ρ gu w)(h2:Fr w X1 (yE ρ ck) 0 ⟨[],ck2,nx2⟩ ρ2 gu w2):Fr w0 X1 Bo 0 ⟨[],ck2,nx2⟩ ρ2 gu w2:=by
 have B:nx<=nx2:=by have:=h2.pn.le; rw[pj]at this; have:=h.nx; show nx<=nx2; have H:ρ.length=nx:=h.nx; have I:ρ.length<=nx2:=(by assumption); omega
 have g:∀ b,qZ (yE ρ ck) b->w0.heap.size<=b∨qZ Bo b:=by
  intro b n;obtain⟨x,j,e⟩:=qC n;exact(h.bl x j b e).2
 refine⟨h2.dn,h2.sz,⟨h2.kp.os.trans h.kp.os,h2.kp.tape.trans h.kp.tape,h2.kp.output.trans h.kp.output,QL h.kp.size h2.kp.size,fun k hk G=>?_⟩,h2.nx,h2.nd,h2.kn,fun x j b n=>⟨(h2.bl x j b n).1,?_⟩,h2.dj,h2.cs,h2.sl,⟨h.pn.bo,QL h.pn.le B,fun x j T l e R=>?_⟩⟩
 ·rw[h2.kp.block k (QI hk h.kp.size) fun n=>?_]
  ·exact h.kp.block k hk G
  ·rcases g k n with o|o
   ·omega
   ·exact G o
 ·rcases(h2.bl x j b n).2 with o|o
  ·exact .inl (QL h.kp.size o)
  ·exact g b o
 ·have q:x.1<ρ.length:=by
    have H:ρ.length=nx:=h.nx;have I:Bo.length<=nx:=h.pn.le;omega
  have s:=h2.pn.pn x j T l e (by rw[pj]; exact q);have t:=h2.cs x j;rw[e]at t;obtain⟨_,b,cs,f,_⟩:=t;by_cases hi:∃ y∈ck,y.1=x.1
  ·obtain⟨y,u,c⟩:=hi;have z:(yE ρ ck)[x.1]?=ρ[x.1]?:=by rw[<-c]; exact zm u
   rw[s,z];have m:=h.cs y u;obtain⟨p,J⟩:=y;cases J with
   | box A C =>
    have:=h.pn.pn _ u A C rfl (show p<Bo.length by have:p=x.1:=c; omega)
    have c:p=x.1:=c
    rw[<-c]
    exact this
   | row A K C =>
    exfalso
    obtain⟨v,L,i,D,_⟩:=m
    have c:p=x.1:=c
    rw[c]at i
    rw[s,z,i]at f
    obtain⟨_,_,_,F⟩:=gb D
    rw[F]at f
    cases f
   | eW A S U M =>
    exfalso
    obtain⟨v,L,O,i,_,D,_⟩:=m
    have c:p=x.1:=c
    rw[c]at i
    rw[s,z,i]at f
    obtain⟨_,_,_,F⟩:=gb D
    rw[F]at f
    cases f
   | gv A K C =>
    exfalso
    obtain⟨O,i,_⟩:=m
    have c:p=x.1:=c
    rw[c]at i
    rw[s,z,i]at f
    cases f
  ·exfalso;rw[s,HW (fun y u e=>hi ⟨y,u,e⟩) q]at f;cases f
theorem Fr.pur(h:Fr w0 X1 Bo 0 ⟨[],ck,nx⟩ ρ gu w)(c:Below w.heap.size w w2):Fr w0 X1 Bo 0 ⟨[],ck,nx⟩ ρ gu w2:=by
 have g:Ev (XX X1 ρ ck) w w2:=Ev.c8 c;refine⟨h.dn,h.sz,h.kp.below c,h.nx,h.nd,h.kn,fun x f b e=>?_,h.dj,fun x f=>?_,(fun t x f=>by cases f),h.pn⟩
 ·have:=h.bl x f b e; exact⟨QI this.1 c.size,this.2⟩
 ·exact kq (h.cs x f) (fun b c=>.inl c) g fun b e=>c.block b (h.bl x f b e).1
theorem Fr.wide{i:Nat->Prop}(h:Fr w0 X1 Bo 0 ⟨[],ck,nx⟩ ρ gu w)(c:Below w.heap.size w w2)(k:∀ b,i b->X1 b∨w.heap.size<=b)(l:∀ b,i b->w0.heap.size<=b∨X1 b):Fr w0 i Bo 0 ⟨[],ck,nx⟩ ρ gu w2:=by
 have m:Ev (XX X1 ρ ck) w w2:=Ev.c8 c;have j:∀ b,XX i ρ ck b->XX X1 ρ ck b∨w.heap.size<=b:=by
  rintro b (c|c)
  ·rcases k b c with g|g
   ·exact .inl (.inl g)
   ·exact .inr g
  ·exact .inl (.inr c)
 refine⟨h.dn,h.sz,h.kp.below c,h.nx,h.nd,h.kn,fun x f b e=>?_,h.dj,fun x f=>?_,(fun t x f=>by cases f),⟨fun b c=>⟨(h.pn.bo b c).1,fun f=>?_⟩,h.pn.le,h.pn.pn⟩⟩
 ·have:=h.bl x f b e; exact⟨QI this.1 c.size,this.2⟩
 ·exact kq (h.cs x f) j m fun b e=>c.block b (h.bl x f b e).1
 ·rcases l b f with g|g
  ·have:=(h.pn.bo b c).1; omega
  ·exact(h.pn.bo b c).2 g
end
section
variable{E:Env}{w0:World}{X0 Y:Nat->Prop}{Bo:List Value}{N:Nat}{st st':St}{ρ:List Value}{a:Act}{w w':World}{ps:List Prop}{r:AV}{tc:List Nat}{an:An}{d:Option Nat} {ty:TypeId}{pos:String}{af:Array Edge}{g:Option (Nat×Bool)}
open Classical in
theorem MG(hE:E.Ok)(aC:∀ b,X0 b->b<w0.heap.size){l:List Oper}{id:Nat}{ann:List (Nat×An)}{fl:List (Nat×Nat)}{Q:Exit->Act->World->Prop}(hd:J9 ann N l fl=true)(h:Fr w0 X0 Bo N st ρ a w)(he:lK E ann fl (hU l) 0 l st [] []=some (st',ps))(hp:eP ps)
    (aM:∀ o∈l,gW N o=true) (hQ:∀ ρ' v w',Fr w0 X0 Bo N st' ρ' (kZ a l v 0) w'->Q .normal (kZ a l v 0) w'):(Code.region id l.toArray true).wp E.P Q a w:=by
 have bk:=n_ l;unfold J9 Oo at hd;rw[QK,QK,QK,QK]at hd;obtain⟨⟨aT,bL⟩,⟨aU,G⟩,aV⟩:=hd;have aU:=QS aU;obtain⟨R,S,TC,TT,s0,s1,s2,s3,s4,s5⟩:=th he hp fun h=>(Hl h).1;obtain⟨s,W⟩:∃ s,BS fl l.length=s:=⟨_,rfl⟩;rw[W]at aV;have aN:s<l.length->∃ o T Z,l[s]?=some o/\gO ann l s=true/\o.op=.alloc T/\o.guard=none/\E.te T=some Z/\S (s+1)=(((S s).2,CT.box T (zA Z.ty .nil))::(S s).1,(S s).2+1)/\R s=.ref (S s).2 0:=by
  intro ad;unfold aaO at G;unfold BS at W;cases hg:get? fl 2000000 with
  | none=>rw[hg]at W; dsimp only at W; omega
  | some f =>
   rw[hg]at W G
   dsimp only at W G
   subst W
   have ho:=Qr ad
   rw[ho]at G
   dsimp only at G
   simp only[QK]at G
   obtain⟨⟨ha,D⟩,_⟩:=G
   obtain⟨qs,aj,q1,q2,q3,_⟩:=s3 f _ ho D
   generalize l[f]=o at *
   obtain⟨bm,op,ty,pos,af,gd⟩:=o
   cases op with
   | alloc T =>
    cases gd with
    | some g=>cases ha
    | none =>
     cases bm with
     | none=>cases ha
     | some d =>
      simp only[CP,FQ,kQ]at q1
      cases he:E.te T with
      | none=>simp only[he]at q1; cases q1
      | some Z =>
       simp only[he,Q7,SB]at q1
       obtain⟨q1,q4,_⟩:=q1
       refine⟨_,T,Z,ho,by rw[kS ho]; exact D,rfl,rfl,he,?_,q4.symm⟩
       rw[<-q3,<-q1]
   | _=>cases ha
 have bn:s<l.length->∀ j,j<l.length->j≠s->gO ann l j=false->(∀ r∈(gX (hU l) 0 l).getD j [],r.2≠some s)/\(s<j->∃ F,get? fl j=some F/\(F<=s∨1000000<=F/\F<3000000)):=by
  intro ad j hj H D;unfold aaO at G;unfold BS at W;cases hg:get? fl 2000000 with
  | none=>rw[hg]at W; dsimp only at W; omega
  | some f =>
   rw[hg]at W G
   dsimp only at W G
   subst W
   rw[Qr ad]at G
   dsimp only at G
   simp only[QK]at G
   have k:=Rs.1 G.2 j (Rn.2 hj)
   simp only[RE,QK]at k
   rcases k with(k|k)|⟨k,u⟩
   ·exact absurd (QR k) H
   ·rw[D]at k; cases k
   ·refine⟨fun r hr e=>?_,fun cf=>?_⟩
    ·have:=Rs.1 k r hr;rw[e]at this;simp at this
    ·rcases u with u|u
     ·have:=QS u; omega
     ·split at u
      ·rename_i F hf;simp only[RE,Qy,QK,Sv]at u;rcases u with u|⟨u,O⟩
       ·exact⟨F,hf,.inl u⟩
       ·exact⟨F,hf,.inr ⟨QS u,Bb O⟩⟩
      ·cases u
 have ar:∀ j i,j<l.length->i<j->j≠s->((Oj l).getD j 0).testBit i=true∨(gO ann l j=false/\(gO ann l i=true->∃ F,get? fl j=some F/\(F<=i∨1000000<=F/\F<3000000)))∨(gO ann l i=false/\∃ F,get? fl i=some F/\1000000<=F/\(F<3000000∨AQ l j=true∨4000000<=F/\xy l j=true)):=by
  intro j i hj hi H;have k:=Rs.1 (Rs.1 aV j (Rn.2 hj)) i (Rn.2 hi);simp only[RE,QK,Sv]at k;rcases k with((k|⟨k,u⟩)|⟨k,u⟩)|k
  ·exact .inl k
  ·refine .inr (.inl ⟨k,fun O=>?_⟩);rcases u with u|u
   ·rw[O]at u; cases u
   ·split at u
    ·rename_i F hf;simp only[RE,Qy,QK,Sv]at u;rcases u with u|⟨u,O⟩
     ·exact⟨F,hf,.inl u⟩
     ·exact⟨F,hf,.inr ⟨QS u,Bb O⟩⟩
    ·cases u
  ·refine .inr (.inr ⟨k,?_⟩);split at u
   ·rename_i F hf;simp only[RE,QK,Sv]at u;refine⟨F,hf,QS u.1,?_⟩;rcases u.2 with(O|O)|⟨O,h4⟩
    ·exact .inl (Bb O)
    ·exact .inr (.inl O)
    ·exact .inr (.inr ⟨QS O,h4⟩)
   ·cases u
  ·exact absurd (QR k) H
 have ae:∀ j i,j<l.length->j≠s->gO ann l j=true->i<j->((Oj l).getD j 0).testBit i=true∨(gO ann l i=false/\∃ F,get? fl i=some F/\1000000<=F):=by
  intro j i hj H D hi;rcases ar j i hj hi H with k|⟨k,_⟩|k
  ·exact .inl k
  ·rw[D]at k; cases k
  ·exact .inr ⟨k.1,k.2.imp fun F h=>⟨h.1,h.2.1⟩⟩
 have aD:∀(d i:Nat) (T:List Nat),i+d<=l.length->(∀ e,i<=e->e<i+d->gO ann l e=true->∀ c∈TC e,c∈T)->∀ x∈(S (i+d)).1,x.1 ∉ T->x∈(S i).1:=by
  intro d
  induction d with
  | zero=>intro i T _ _ x B _; exact B
  | succ d ih =>
   intro i T aO hT x B hn
   refine ih i T (by omega) (fun e k u=>hT e k (by omega)) x ?_ hn
   have ad:i+d<l.length:=by omega
   have ho:=Qr ad
   rw[show i+(d+1)=(i+d)+1 by omega]at B
   cases D:lU ann l[i+d]with
   | false=>rw[(s2 _ _ ho D).1]at B; exact B
   | true =>
    obtain⟨qs,aj,q1,q2,q3,_⟩:=s3 _ _ ho D
    rw[<-q3]at B
    exact(Hl q1).2 x B fun hc=>hn (hT (i+d) (by omega) (by omega) (by rw[kS ho]; exact D) _ hc)
 let ef:Nat->Bool:=fun i=>gO ann l i&&!Nat.beq i s
 have aP:∀{e},gO ann l e=true->e≠s->ef e=true:=by
  intro e k u;show(gO ann l e&&!Nat.beq e s)=true;have:Nat.beq e s=false:=by
   cases A:Nat.beq e s with
   | false=>rfl
   | true=>exact absurd (QR A) u
  rw[k,this]; rfl
 have bp:∀{e},ef e=true->gO ann l e=true/\e≠s:=by
  intro e k;have k:(gO ann l e&&!Nat.beq e s)=true:=k;rw[QK]at k;refine⟨k.1,fun hh=>?_⟩;rw[hh,S6]at k;exact absurd k.2 (by simp)
 let p:(Nat->Bool)->Nat:=fun L=>pJ ef L l.length
 let K:Nat->(Nat->Bool)->(Nat->Value)->World->Prop:=fun q L val w'=>∃(ρ:List Value) (FB:Nat->Prop),Fr w0 (fun b=>X0 b∨FB b) Bo 0 ⟨[],(S q).1,(S q).2⟩ ρ gu w' /\
  (∀ b,FB b->b<w'.heap.size/\w0.heap.size<=b/\(∀ x∈(S q).1,¬fk ρ x.1 b)/\L s=true/\q<=s/\s<l.length) /\
  (L s=true->q<=s->s<l.length->∃ b,FB b/\val s=.pointer (some ⟨b,0,none⟩)/\∀ o T Z,l[s]?=some o->o.op=.alloc T->E.te T=some Z->w'.heap[b]?=some (.cells (zc Z.ty).toArray T (0,0))) /\
  (∀ i,i<l.length->L i=true->(i≠s∨s<q)->m ρ (XX (fun b=>X0 b∨FB b) ρ (S q).1) w' (R i) [val i])/\∀ t x,get? st.sl t=some x->m ρ (XX (fun b=>X0 b∨FB b) ρ (S q).1) w' x [gt a t]
 let FF:Nat->(Nat->Bool)->(Nat->Value)->List (AV×Value):=fun q L val=>((List.range l.length).filter fun i=>L i&&(decide (i≠s)||decide (s<q))).map (fun i=>(R i,val i))++(st.sl.filterMap fun q=>(get? st.sl q.1).map fun x=>(x,gt a q.1))
 have bq:∀{q:Nat}{L:Nat->Bool}{val:Nat->Value}{ρ:List Value}{X:Nat->Prop}{w':World},(∀ i,i<l.length->L i=true->(i≠s∨s<q)->m ρ X w' (R i) [val i])->(∀ t x,get? st.sl t=some x->m ρ X w' x [gt a t])->∀ q'∈FF q L val,m ρ X w' q'.1 [q'.2]:=by
  intro q L val ρ X w' k u z hz;rcases QZ.1 hz with hz|hz
  ·obtain⟨i,hi,rfl⟩:=Rj.1 hz;obtain⟨I,g2⟩:=Tm.1 hi;simp only[QK,RE,Qy]at g2;exact k i (Rn.1 I) g2.1 g2.2
  ·obtain⟨y,hy,aQ⟩:=U4.1 hz;cases hg:get? st.sl y.1 with
   | none=>rw[hg]at aQ; cases aQ
   | some x =>
    rw[hg]at aQ
    cases aQ
    exact u y.1 x hg
 have bs:∀{q:Nat}{L:Nat->Bool}{val:Nat->Value}{ρ:List Value}{X:Nat->Prop}{w':World},(∀ q'∈FF q L val,m ρ X w' q'.1 [q'.2])->(∀ i,i<l.length->L i=true->(i≠s∨s<q)->m ρ X w' (R i) [val i])/\∀ t x,get? st.sl t=some x->m ρ X w' x [gt a t]:=by
  intro q L val ρ X w' k;refine⟨fun i hi ai U=>k (R i,val i) (SV _ (Rj.2 ⟨i,Tm.2 ⟨Rn.2 hi,?_⟩,rfl⟩)),fun t x B=>k (x,gt a t) (Te _ (U4.2 ⟨(t,x),b7 B,by rw[B]; rfl⟩))⟩;simp only[QK,RE,Qy];exact⟨ai,U⟩
 have bt:∀{L:Nat->Bool}{val:Nat->Value}{w':World} (d q:Nat),q+d<=l.length->(∀ e,q<=e->e<q+d->gO ann l e=true->e=s/\L s=true)->K q L val w'->K (q+d) L val w':=by
  intro L val w' d
  induction d with
  | zero=>intro q _ _ hk; exact hk
  | succ d ih =>
   intro q aO D hk
   obtain⟨ρ',FB,k1,k2,k3,k4,k5⟩:=ih q (by omega) (fun e k u=>D e k (by omega)) hk
   have ad:q+d<l.length:=by omega
   have ho:=Qr ad
   cases aY:gO ann l (q+d)with
   | false =>
    have hS:=(s2 _ _ ho (by rw[<-kS ho]; exact aY)).1
    have bu:s<l.length->q+d≠s:=by
     intro k u;obtain⟨_,_,_,_,O,_⟩:=aN k;rw[<-u,aY]at O;cases O
    show K (q+d+1) L val w'
    refine⟨ρ',FB,by rw[hS]; exact k1,fun b A=>?_,fun k u O=>k3 k (by omega) O,fun i hi hl U=>?_,by rw[hS]; exact k5⟩
    ·obtain⟨I,g2,M,g4,g5,g6⟩:=k2 b A;have:=bu g6;exact⟨I,g2,by rw[hS]; exact M,g4,by omega,g6⟩
    ·rw[hS];refine k4 i hi hl ?_;rcases U with U|U
     ·exact .inl U
     ·by_cases ah:i=s
      ·have:=bu (by omega);exact .inr (by omega)
      ·exact .inl ah
   | true =>
    obtain⟨aE,aZ⟩:=D (q+d) (by omega) (by omega) aY
    have aW:s<l.length:=by omega
    obtain⟨o,T,Z,f1,f2,f3,f4,f5,f6,f7⟩:=aN aW
    rw[aE]at k1 k2 k3 k4 k5
    obtain⟨b,b1,b2,b3⟩:=k3 aZ (Qu _) aW
    have b3:=b3 o T Z f1 f3 f5
    obtain⟨I,g2,M,_⟩:=k2 b b1
    have hz:∀(ρ:List Value) (X:Nat->Prop),m ρ X w' (zA Z.ty .nil) (zc Z.ty).toArray.toList:=fun ρ X=>by
     have:=xe (ρ:=ρ) (X:=X) (w:=w') (t:=Z.ty) (show m ρ X w' .nil []from rfl);rw[Q9]at this;simpa using this
    have bM:=Fr.Oy (X0:=X0) (Y:=FB) (Y':=fun _=>False) (jR k1 (bq k4 k5)) (l:=zA Z.ty .nil) b3 g2 b1 (fun B=>by have:=aC b B; omega) M (mF rfl) (hz _ _) hz (by simpa using gm Z.ty)
     (d:=(FF s L val).length) (SN _) (fun _ h=>h.elim) (fun h=>h)
    obtain⟨ρ2,m1,m2⟩:=je bM
    show K (q+d+1) L val w'
    rw[aE]
    have e1:(S (s+1)).1=((S s).2,CT.box T (zA Z.ty .nil))::(S s).1:=by rw[f6]
    have e2:(S (s+1)).2=(S s).2+1:=by rw[f6]
    obtain⟨m3,m4⟩:=bs (q:=s) (L:=L) (val:=val) (fun z hz=>m2 z (Qs _ hz))
    refine⟨ρ2,fun _=>False,by rw[e1,e2]; exact m1,fun b A=>A.elim,fun _ u _=>absurd u (by omega),fun i hi hl U=>?_,by rw[e1]; exact m4⟩
    rw[e1]
    by_cases ah:i=s
    ·subst ah;rw[f7,b2];exact m2 _ Qx
    ·exact m3 i hi hl (.inl ah)
 let J:(Nat->Bool)->(Nat->Value)->World->Prop:=fun L val w'=>(∀ j i,L j=true->((Oj l).getD j 0).testBit i=true->L i=true)/\(∀ q,q<=p L->((S q).1.map (·.1)).Nodup)/\K (p L) L val w'
 have aF:Below w.heap.size w { w with drawn:=w.drawn+1 }:=⟨rfl,rfl,rfl,Qu _,fun _ _=>rfl⟩;have ba:p (fun _=>false)=0:=by
  rcases pE (ef:=ef) (L:=fun _=>false) (n:=l.length)with k|⟨e,_,_,O,_⟩
  ·exact k
  ·cases O
 have eX:(fun b=>X0 b∨False)=X0:=by funext b; simp
 refine pN (a0:=a) (w0:=w) hE.mx J (Oj l) (gX (hU l) 0 l) l.length h.sz aT bL ?_ ?_ ?_
 ·refine⟨fun j i hj=>(by cases hj),fun q U=>(by rw[ba]at U; rw[Nat.le_zero.1 U,s0]; exact h.nd),ρ,fun _=>False,?_,fun b A=>A.elim,fun k=>(by cases k),fun i _ hi=>(by cases hi),?_⟩
  ·rw[ba,s0,eX];exact jx (h.pure aC aF (d:=none) (r:=.any) (v:=undef) (by intro t e; cases e) ⟨_,rfl⟩)
  ·intro t x B;rw[ba,s0,eX];exact oT (Ev.c8 aF) (h.sl t x B)
 ·intro j o hj ho L val a' w' hJ hL ak hr;obtain⟨aA,aG,hk⟩:=hJ;have C:=lQ aT ho;have au:=BK (hU l) l 0 j o ho;rw[au,Q8]at hr;have aH:=lR (aM o (Ra ho));have aI:∀{ρ':List Value}{X:Nat->Prop}{q:Nat},(∀ i,i<l.length->L i=true->(i≠s∨s<q)->m ρ' X w' (R i) [val i])->(∀ t x,get? st.sl t=some x->m ρ' X w' x [gt a t]) ->
      ∀ t∈rK (hU l) o,(∀ i,lw (hU l) (fun _=>true) t j=some i->i≠s∨s<q)->∀ x,get? (xZ st.sl l R j) t=some x->m ρ' X w' x [gt a' t]:=by
   intro ρ' X q hF hS t ht U x B;have k:=hr (t,lw (hU l) (fun _=>true) t j) (Rj.2 ⟨t,ht,rfl⟩);dsimp only at k;rw[tH (by omega)]at B;rw[<-qh]at B;rw[k];cases ab:lw (hU l) (fun _=>true) t j with
   | some i =>
    rw[ab]at B
    cases B
    have A:=C.aaC (t,some i) (by rw[au,Q8]; exact Rj.2 ⟨t,ht,by rw[ab]⟩) i rfl
    have V:=(iz ab).1
    exact hF i (by omega) (ak i A) (U i ab)
   | none =>
    rw[ab]at B
    exact hS t x B
  have aR:(∃ e,e<l.length/\p L=e+1/\L e=true/\gO ann l e=true/\e≠s)∨p L=0:=by
   rcases pE (ef:=ef) (L:=L) (n:=l.length)with k|⟨e,I,g2,M,g4⟩
   ·exact .inr k
   ·exact .inl ⟨e,I,g2,M,(bp g4).1,(bp g4).2⟩
  have aJ:∀ j' i,up L j j'=true->((Oj l).getD j' 0).testBit i=true->up L j i=true:=by
   intro j' i k u;by_cases bv:j'=j
   ·subst bv;by_cases V:i=j'
    ·simp[up,V]
    ·simp only[up,V,Sl]; exact ak i u
   ·simp only[up,bv,Sl]at k;by_cases V:i=j
    ·simp[up,V]
    ·simp only[up,V,Sl]; exact aA j' i k u
  have ax:ef j=false->p (up L j)=p L:=by
   intro D;show pJ ef (up L j) l.length=pJ ef L l.length;have:∀ n,pJ ef (up L j) n=pJ ef L n:=by
    intro n
    induction n with
    | zero=>rfl
    | succ n ih =>
     unfold pJ
     by_cases hn:n=j
     ·subst hn;rw[D,Ug,Ug,ih]
     ·have:up L j n=L n:=by simp[up,hn]
      rw[this,ih]
   exact this _
  by_cases H:j=s
  ·obtain⟨o2,T,Z,f1,f2,f3,f4,f5,f6,f7⟩:=aN (by omega);have bN:o2=o:=by rw[H]at ho; rw[ho]at f1; exact(Rk f1).symm
   subst bN;obtain⟨ρ',FB,k1,k2,k3,k4,k5⟩:=hk;have aZ:L s=false:=by rw[<-H]; exact hL
   have bO:p L<=s:=by
    rcases aR with⟨e,I,g2,M,g4,g5⟩|h0
    ·rcases TI e s with k|k|k
     ·omega
     ·exact absurd k g5
     ·exfalso;rcases ae e s I g5 g4 k with u|⟨u,_⟩
      ·have:=aA e s M u;rw[aZ]at this; cases this
      ·rw[f2]at u; cases u
    ·omega
   refine⟨fun _=>?_,fun bP=>(bP (by unfold qm; rw[f4]; trivial)).elim⟩;obtain⟨cg,hi,hz,_,_⟩:=(hE.fact f5).info;have bQ:(Z.ty.wrap (zc Z.ty)).cells=(zc Z.ty).toArray:=fu (fw _) (gm _);have bw:(execOp a'.eval o2).run E.P w'=.ok (.value (.pointer (some ⟨w'.heap.size,0,none⟩))) (w'.alloc (.cells (zc Z.ty).toArray T)):=by
    obtain⟨bm,op,ty,pos,af,gd⟩:=o2;simp only at f3;subst f3;simp[execOp,Instr.alloc,zeroValue,typeInfo,hi,hz,newVar,newRow,bQ]
   refine eM bw ?_;have bb:=fC w' (.cells (zc Z.ty).toArray T);have aK:(w'.alloc (.cells (zc Z.ty).toArray T)).heap[w'.heap.size]?=some (.cells (zc Z.ty).toArray T (0,0)):=S_ w' _;have aq:=ax (by show(gO ann l j&&!Nat.beq j s)=false; rw[H,S6]; simp);refine⟨aJ,by rw[aq]; exact aG,?_⟩;rw[aq];have bx:∀ b,XX (fun b=>X0 b∨b=w'.heap.size) ρ' (S (p L)).1 b->XX (fun b=>X0 b∨FB b) ρ' (S (p L)).1 b∨w'.heap.size<=b:=by
    rintro b ((A|A)|A)
    ·exact .inl (.inl (.inl A))
    ·exact .inr (SA A.symm)
    ·exact .inl (.inr A)
   refine⟨ρ',fun b=>b=w'.heap.size,Fr.wide k1 bb (fun b A=>?_) (fun b A=>?_),fun b A=>?_,fun _ _ _=>⟨w'.heap.size,rfl,?_,fun o3 T3 ch e1 e2 e3=>?_⟩,fun i hi ai U=>?_,fun t x B=>?_⟩
   ·rcases A with A|A
    ·exact .inl (.inl A)
    ·exact .inr (SA A.symm)
   ·rcases A with A|A
    ·exact .inr (.inl A)
    ·exact .inl (by have:=k1.kp.size; omega)
   ·subst A;refine⟨b9 aK,k1.kp.size,fun x B e=>?_,by rw[H]; simp[up],bO,by omega⟩;have:=(k1.bl x B _ e).1;omega
   ·rw[H]; simp[gf]
   ·rw[f1]at e1;cases e1;rw[f3]at e2;cases e2;rw[f5]at e3;cases e3;exact aK
   ·have ah:i≠j:=by
      intro e;rcases U with U|U
      ·exact U (e.trans H)
      ·omega
    simp only[up,ah,Sl]at ai;simp only[gf,ah,Sl];exact mW (k4 i hi ai U) bx (Ev.c8 bb)
   ·exact mW (k5 t x B) bx (Ev.c8 bb)
  have ay:up L j s=L s:=by simp[up,RN H]
  have bz:∀ v,gf val j v s=val s:=fun v=>by simp[gf,RN H]
  cases D:lU ann o with
  | false =>
   obtain⟨ρ',FB,k1,k2,k3,k4,k5⟩:=hk
   obtain⟨cj,qs,q1,q2⟩:=s2 j o ho D
   have aa:gO ann l j=false:=by rw[kS ho]; exact D
   have aL:∀ t∈rK (hU l) o,∀ x,get? (xZ st.sl l R j) t=some x->m ρ' (XX (fun b=>X0 b∨FB b) ρ' (S (p L)).1) w' x [gt a' t]:=by
    intro t ht x B;refine aI k4 k5 t ht (fun i hi=>.inl fun e=>?_) x B;have bR:=(iz hi).1;refine(bn (by omega) j hj H aa).1 (t,some i) ?_ (by rw[e]);rw[au,Q8];exact Rj.2 ⟨t,ht,by rw[hi]⟩
   have az:(∃ F,get? fl j=some F/\1000000<=F)∨p L<=j:=by
    rcases aR with⟨e,I,g2,M,g4,g5⟩|h0
    ·rcases TI e j with k|k|k
     ·exact .inr (by omega)
     ·rw[k,hL]at M; cases M
     ·rcases ae e j I g5 g4 k with u|u
      ·have:=aA e j M u;rw[this]at hL; cases hL
      ·exact .inl u.2
    ·exact .inr (by omega)
   have bA:∀ x∈gw (S j).1 (TT j),x∈(S (p L)).1:=by
    intro x B;obtain⟨x1,x2⟩:=fb B;have aX:∀ e,p L<=e->e<j->gO ann l e=true->(∃ F,get? fl j=some F/\(F<=e∨1000000<=F/\F<3000000)):=by
     intro e I al M;by_cases av:e=s
     ·rw[av]at al ⊢;exact(bn (by omega) j hj H aa).2 al
     have bS:L e≠true:=fun hl=>by
      have:=nV hl (aP M av) (show e<l.length by omega);exact absurd I (V7 this)
     rcases ar j e hj al H with k|⟨_,k⟩|⟨k,_⟩
     ·exact absurd (ak e k) bS
     ·exact k M
     ·rw[M]at k; cases k
    by_cases aw:∃ F,get? fl j=some F/\1000000<=F
    ·obtain⟨F,I,g2⟩:=aw;rcases s5 j o F ho D (by rw[Q8]; exact I) g2 x x1 with k|⟨k,bT,T,lb,bc⟩
     ·exact absurd k x2
     ·rcases QA j (p L)with bU|bU
      ·have bd:∀ d,j+d<=p L->x∈(S (j+d)).1:=by
         intro d
         induction d with
         | zero=>intro _; exact x1
         | succ d ih =>
          intro aO
          have U:=ih (by omega)
          have bV:p L<=l.length:=wu
          have bB:j+d<l.length:=by omega
          have aB:=Qr bB
          rw[show j+(d+1)=j+d+1 by omega]
          cases heq:lU ann l[j+d]with
          | false=>rw[(s2 _ _ aB heq).1]; exact U
          | true =>
           obtain⟨cl,aj,r1,r2,r3,r4⟩:=s3 _ _ aB heq
           have ao:gO ann l (j+d)=true:=by rw[kS aB]; exact heq
           have bW:j<j+d:=by
            rcases QA j (j+d)with h'|h'
            ·exact h'
            ·rw[show j+d=j by omega,aa]at ao; cases ao
           have be:uo l[j+d]=true∨4000000<=F/\xy l (j+d)=true:=by
            by_cases aE:j+d=s
            ·obtain⟨o2,T2,cn,f1,f2,f3,_⟩:=aN (by omega);rw[<-aE,aB]at f1;cases f1;refine .inl ?_;unfold uo;rw[f3]
            ·have bX:L (j+d)=true:=by
               rcases aR with⟨e,u1,u2,u3,u4,u5⟩|h0
               ·by_cases av:j+d=e
                ·rw[av]; exact u3
                ·exact aA e _ u3 ((ae e (j+d) u1 u5 u4 (by omega)).resolve_right fun h=>by rw[ao]at h; cases h.1)
               ·omega
             rcases ar (j+d) j bB bW aE with u|⟨u,_⟩|⟨_,e1,O,_,h4⟩
             ·have:=aA (j+d) j bX u;rw[hL]at this; cases this
             ·rw[ao]at u; cases u
             ·rw[I]at O;cases O;rcases h4 with h4|h4|h4
              ·omega
              ·unfold AQ at h4;rw[aB]at h4;exact .inl h4
              ·exact .inr h4
           have this:x∈aj.ck:=by
            rcases be with bg|⟨bC,bh⟩
            ·exact EJ (st:=⟨xZ st.sl l R (j+d),(S (j+d)).1,(S (j+d)).2⟩) bg (aG (j+d) (by omega)) U bc r1
            ·have bD:tJ l[j+d]=true:=by
               unfold xy at bh;rw[aB]at bh;exact bh
             have aM:okT (PW fl) (S (j+d)).1 (TC (j+d)) fl=true:=by
              unfold JS at r4;rw[bD]at r4;exact r4
             exact Ew (st:=⟨xZ st.sl l R (j+d),(S (j+d)).1,(S (j+d)).2⟩) bD (aG (j+d) (by omega)) U bc r1 (J6 bC U bc (bT bC) aM (b7 I))
           rw[<-r3]
           exact this
       have:=bd (p L-j) (by omega);rwa [show j+(p L-j)=p L by omega]at this
      ·refine aD (j-p L) (p L) (TT j) (by omega) (fun e M g4 g5 c hc=>?_) x (by rw[show p L+(j-p L)=j by omega]; exact x1) x2;exfalso;obtain⟨e1,O,h4⟩:=aX e M (by omega) g5;rw[I]at O;cases O;rcases h4 with h4|h4<;>omega
    have az:p L<=j:=az.resolve_left aw;refine aD (j-p L) (p L) (TT j) (by omega) (fun e I g2 M c hc=>?_) x (by rw[show p L+(j-p L)=j by omega]; exact x1) x2;have al:e<j:=by omega
    have aO:e<l.length:=by omega
    have bE:=Qr aO;obtain⟨F,u,O⟩:=aX e I al M;have ad:F<1000000:=by
     rcases QA F 1000000 with h|h
     ·exact h
     ·exact absurd ⟨F,u,h⟩ aw
    exact(s4 j o F ho (by rw[Q8]; exact u) ad).2 e l[e] al bE (by rw[<-kS bE]; exact M) (by omega) c hc
   have ad:∀ b,XX (fun b=>X0 b∨FB b) ρ' (S (p L)).1 b->b<w'.heap.size:=by
    rintro b ((A|A)|⟨x,B,A⟩)
    ·exact QI (aC b A) k1.kp.size
    ·exact(k2 b A).1
    ·exact(k1.bl x B b A).1
   have bY:Wd 0 ρ' (XX (fun b=>X0 b∨FB b) ρ' (S (p L)).1) (gw (S j).1 (TT j)) w':=⟨ad,fun x B=>k1.cs x (bA x B)⟩
   have this:=tP (a:=a') hE bY bk aH (fun t ht x B=>aL t (SV _ (kg ht)) x B)
    (fun g bF bi t ht x B=>aL t (Te _ (by rw[bi]; simp[ht])) x B) q1 q2
   have aq:=ax (by show(gO ann l j&&!Nat.beq j s)=false; rw[aa]; rfl)
   have next:∀ v ac,m ρ' (XX (fun b=>X0 b∨FB b) ρ' (S (p L)).1) ac (R j) [v]->Below w'.heap.size w' ac->J (up L j) (gf val j v) ac:=by
    intro v ac hm A;refine⟨aJ,by rw[aq]; exact aG,?_⟩;rw[aq];refine⟨ρ',FB,k1.pur A,fun b bZ=>?_,fun k u O=>?_,fun i hi ai U=>?_,fun t x B=>oT (Ev.c8 A) (k5 t x B)⟩
    ·obtain⟨I,g2,M,g4,g5,g6⟩:=k2 b bZ;exact⟨QI I A.size,g2,M,by rw[ay]; exact g4,g5,g6⟩
    ·rw[ay]at k;obtain⟨b,b1,b2,b3⟩:=k3 k u O;exact⟨b,b1,by rw[bz]; exact b2,fun o T Z e1 e2 e3=>(A.block b (k2 b b1).1).trans (b3 o T Z e1 e2 e3)⟩
    ·by_cases V:i=j
     ·subst V;simp only[gf,UL];exact hm
     ·simp only[up,V,Sl]at ai;simp only[gf,V,Sl];exact oT (Ev.c8 A) (k4 i hi ai U)
   exact⟨fun hg=>fD.imp (this.1 hg) fun v ac ⟨I,g2⟩=>next v ac I g2,fun hg=>next undef w' (this.2 hg) (QG _ _)⟩
  | true =>
   obtain⟨qs,aj,q1,q2,q3,_⟩:=s3 j o ho D
   have aa:gO ann l j=true:=by rw[kS ho]; exact D
   have az:p L<=j:=by
    rcases aR with⟨e,I,g2,M,g4,g5⟩|h0
    ·rcases TI e j with k|k|k
     ·omega
     ·rw[k,hL]at M; cases M
     ·rcases ae e j I g5 g4 k with u|u
      ·have:=aA e j M u;rw[this]at hL; cases hL
      ·rw[aa]at u; cases u.1
    ·omega
   have bG:∀ q,p L<=q->q<=j->K q L val w':=fun q cp aS=>by
    have:=bt (q-p L) (p L) (by omega) (fun e I g2 M=>by
     have hl:=ak e ((ae j e hj H aa (by omega)).resolve_right fun h=>by rw[M]at h; cases h.1);by_cases av:e=s
     ·subst av;exact⟨rfl,hl⟩
     ·exfalso;have:=nV hl (aP M av) (show e<l.length by omega);exact absurd I (V7 this)) hk
    rwa [show p L+(q-p L)=q by omega]at this
   have ca:=bG j az (Qu _)
   obtain⟨ρ',FB,k1,k2,k3,k4,k5⟩:=ca
   have cb:∀ b,(X0 b∨FB b)->∀ x∈(S j).1,¬fk ρ' x.1 b:=by
    rintro b (A|A) x B e
    ·rcases(k1.bl x B b e).2 with h'|h'
     ·have:=aC b A; omega
     ·exact(k1.pn.bo b h').2 (.inl A)
    ·exact(k2 b A).2.2.1 x B e
   have bH:∀ b,(X0 b∨FB b)->b<w'.heap.size:=by
    rintro b (A|A)
    ·exact QI (aC b A) k1.kp.size
    ·exact(k2 b A).1
   have aL:∀ t∈rK (hU l) o,∀ x,get? (xZ st.sl l R j) t=some x->m ρ' (XX (fun b=>X0 b∨FB b) ρ' (S j).1) w' x [gt a' t]:=by
    intro t ht x B;refine aI k4 k5 t ht (fun i hi=>?_) x B;have bR:=(iz hi).1;by_cases ah:i=s
    ·exact .inr (by omega)
    ·exact .inl ah
   have this:=P2 (w0:=w') (X0:=fun b=>X0 b∨FB b) (Bo:=yE ρ' (S j).1) (a':=a') (st:=⟨xZ st.sl l R j,(S j).1,(S j).2⟩) hE bk (k1.rst cb) bH aH (fun t ht x B=>aL t (SV _ (kg ht)) x B)
    (fun g bF bi t ht x B=>aL t (Te _ (by rw[bi]; simp[ht])) x B) q1 q2 (bq k4 k5)
   have aq:p (up L j)=j+1:=by
    show pJ ef (up L j) l.length=j+1;have k:=nV (ef:=ef) (L:=up L j) (e:=j) (by simp[up]) (aP aa H) hj;rcases pE (ef:=ef) (L:=up L j) (n:=l.length)with u|⟨e,I,g2,M,g4⟩
    ·omega
    ·rw[g2];by_cases al:e=j
     ·rw[al]
     ·simp only[up,al,Sl]at M;have:=nV M g4 I;have:e<p L:=this;omega
   have next:∀ v ac,we w' (fun b=>X0 b∨FB b) (yE ρ' (S j).1) aj.ck aj.nx ac ((R j,v)::FF j L val)->J (up L j) (gf val j v) ac:=by
    rintro v ac ⟨ρ2,m1,m2⟩;have m0:=k1.acw m1;have e1:aj.ck=(S (j+1)).1:=by rw[<-q3]
    have e2:aj.nx=(S (j+1)).2:=by rw[<-q3]
    have bI:∀ b,FB b->∀ x∈aj.ck,¬fk ρ2 x.1 b:=by
     intro b A x B e;obtain⟨I,g2,M,_⟩:=k2 b A;rcases(m1.bl x B b e).2 with h'|h'
     ·omega
     ·obtain⟨y,hy,ey⟩:=qC h';exact M y hy ey
    obtain⟨m3,m4⟩:=bs (q:=j) (L:=L) (val:=val) (fun z hz=>m2 z (Qs _ hz));refine⟨aJ,fun q U=>?_,?_⟩
    ·rw[aq]at U;rcases QA (p L) q with aS|aS
     ·rcases QA j q with bJ|bJ
      ·rw[show q=j+1 by omega,<-e1]; exact m0.nd
      ·obtain⟨_,_,cc,_⟩:=bG q (VQ aS) bJ;exact cc.nd
     ·exact aG q aS
    rw[aq];refine⟨ρ2,FB,by rw[<-e1,<-e2]; exact m0,fun b A=>?_,fun k u O=>?_,fun i hi ai U=>?_,by rw[<-e1]; exact m4⟩
    ·obtain⟨I,g2,M,g4,g5,g6⟩:=k2 b A;exact⟨QI I m1.kp.size,g2,by rw[<-e1]; exact bI b A,by rw[ay]; exact g4,by omega,g6⟩
    ·rw[ay]at k;obtain⟨b,b1,b2,b3⟩:=k3 k (by omega) O;refine⟨b,b1,by rw[bz]; exact b2,fun o T Z e1 e2 e3=>(m1.kp.block b (k2 b b1).1 fun A=>?_).trans (b3 o T Z e1 e2 e3)⟩;obtain⟨y,hy,ey⟩:=qC A;exact(k2 b b1).2.2.1 y hy ey
    ·rw[<-e1];by_cases V:i=j
     ·subst V;simp only[gf,UL];exact m2 _ Qx
     ·simp only[up,V,Sl]at ai;simp only[gf,V,Sl];refine m3 i hi ai ?_;rcases U with U|U
      ·exact .inl U
      ·exact .inr (by omega)
   exact⟨fun hg=>fD.imp (this.1 hg) fun v ac I=>next v ac I,fun hg=>next undef w' (this.2.1 hg)⟩
 ·intro v w' hJ;obtain⟨_,_,hk⟩:=hJ;have bK:=bt (L:=fun i=>decide (i<l.length)) (val:=v) (w':=w') (l.length-p fun i=>decide (i<l.length)) (p fun i=>decide (i<l.length)) (by have:p (fun i=>decide (i<l.length))<=l.length:=wu; omega) (fun e I g2 M=>by
   have bj:e<l.length:=by omega
   by_cases D:e=s
   ·subst D;exact⟨rfl,QY bj⟩
   ·have:=nV (L:=fun i=>decide (i<l.length)) (QY bj) (aP M D) bj;exact absurd I (V7 this)) hk
  have:p (fun i=>decide (i<l.length))<=l.length:=wu;rw[show(p fun i=>decide (i<l.length))+(l.length-p fun i=>decide (i<l.length))=l.length by omega]at bK;obtain⟨ρ',FB,hf,cd,_,hF,hS⟩:=bK;have eF:(fun b=>X0 b∨FB b)=X0:=by
   funext b;refine propext ⟨fun A=>A.resolve_right fun A=>?_,.inl⟩;obtain⟨_,_,_,_,I,g2⟩:=cd b A;omega
  rw[eF]at hf hF hS;rw[TY];have hQ:Fr w0 X0 Bo N st' ρ' (kZ a (l.take l.length) v 0) w'->Q .normal (kZ a (l.take l.length) v 0) w':=by rw[TR]; exact hQ ρ' v w'
  refine hQ ?_;rw[s1];refine⟨by rw[im]; exact h.dn,by rw[h_]; exact h.sz,hf.kp,hf.nx,hf.nd,hf.kn,hf.bl,hf.dj,hf.cs,fun t x B=>?_,hf.pn⟩;dsimp only at B;rw[tH (Qu _)]at B;by_cases ht:t<a.tmps.size
  ·rw[lq a v l t ht l.length (Qu _)];cases ab:lw (l.map (·.dst)) (fun _=>true) t l.length with
   | some i =>
    rw[ab]at B
    cases B
    have hi:=(iz ab).1
    exact hF i hi (QY hi) (by by_cases ah:i=s; exact .inr (by omega); exact .inl ah)
   | none =>
    rw[ab]at B
    exact hS t x B
  ·cases ab:lw (l.map (·.dst)) (fun _=>true) t l.length with
   | some i =>
    exfalso
    obtain⟨hi,_,O,_⟩:=iz ab
    simp only[Ro,Qr hi,Sp,Q7]at O
    have:=jT (aM l[i] (Tf hi)) t O
    rw[h.sz]at ht
    exact ht this
   | none =>
    rw[ab]at B
    have hg:gt (kZ a (l.take l.length) v 0) t=gt a t:=by
     unfold gt;rw[Sa,Sa,Sj (by rw[h_]; omega),Sj (by omega)]
    rw[hg]
    exact hS t x B
theorem aa0(f:E.Ok)(c:∀ b,X0 b->b<w0.heap.size){l:List Oper}{id:Nat}{ann:List (Nat×An)}{fl:List (Nat×Nat)}{Q:Exit->Act->World->Prop}(g:J9 ann N l fl=true)(h:Fr w0 X0 Bo N st ρ a w)(i:lK E ann fl (hU l) 0 l st [] []=some (st',ps))(j:eP ps)
    (e:∀ o∈l,gW N o=true) (k:∀ ρ' a' w',Fr w0 X0 Bo N st' ρ' a' w'->Q .normal a' w'):(Code.region id l.toArray true).wp E.P Q a w :=
 MG f c g h i j e fun ρ' v w' h=>k ρ' _ w' h
end
section
variable{E:Env}{w0:World}{X0:Nat->Prop}{Bo:List Value}{N:Nat}{st st':St}{ρ:List Value}{a:Act}{w w':World}{ps:List Prop}{X Y:Nat->Prop}
theorem IL{B n n':Nat}{cf I:List (Nat×CT)}{ρ':List Value}(S:Wd B ρ X I w)(T:∀ b,Y b->X b)(U:∀ x∈I,∀ b,fk ρ x.1 b->¬Y b)(F:∀ c v,c<n->ρ[c]?=some v->ρ'[c]?=some v)(R:∀ c,n<=c->c<n'->kh cf c=false->ρ'[c]?=some (.slice none 0 0)) :
    ∀(y:AV),(OR y=true->∀(x:AV) (v:Value),eP (zQ cf I n n' x y)->m ρ X w x [v]->m ρ' Y w y [v])/\(kl y=true->∀(x:AV) (vs:List Value),eP (zQ cf I n n' x y)->m ρ X w x vs->m ρ' Y w y vs):=by
 have bad:∀{p:Prop},eP [False]->p:=fun h=>h.1.elim;intro y
 induction y with
 | any=>exact⟨fun _ x v _ j=>⟨v,rfl⟩,fun h=>by cases h⟩
 | a_ t b =>
  refine⟨fun _ x v g j=>?_,fun h=>by cases h⟩
  have g:eP (match GG I t x with|some a=>[a=b]|none=>[False]):=by cases x<;>exact g
  split at g
  ·rename_i a e;have:=o8 S T U e j;rw[g.1]at this;exact this
  ·exact g.1.elim
 | lit b' =>
  refine⟨fun _ x v g j=>?_,fun h=>by cases h⟩
  cases x with
  | lit b=>have:=g.1; subst this; exact j
  | a_ t a =>
   cases t with
   | bool=>have:=g.1; subst this; rw[mG j]; rfl
   | _=>exact bad g
  | _=>exact bad g
 | js J H =>
  refine⟨fun _ x v g j=>?_,fun h=>by cases h⟩
  cases x with
  | js l =>
   obtain⟨C,q,z⟩:=j
   exact⟨C,q,H.2 g.1 l C g.2 z⟩
  | _=>exact bad g
 | agg J H =>
  refine⟨fun _ x v g j=>?_,fun h=>by cases h⟩
  cases x with
  | agg l =>
   obtain⟨C,q,z,V⟩:=j
   exact⟨C,q,H.2 g.1 l C g.2 z,V⟩
  | _=>exact bad g
 | kL f' J H =>
  refine⟨fun _ x v g j=>?_,fun h=>by cases h⟩
  cases x with
  | kL f l =>
   obtain⟨C,q,z⟩:=j
   obtain⟨rfl,K⟩:=g.1
   exact⟨C,q,H.2 K l C g.2 z⟩
  | _=>exact bad g
 | nil =>
  refine⟨(fun h=>by cases h),fun _ x vs g j=>?_⟩
  cases x with
  | nil=>exact j
  | _=>exact bad g
 | cons y J L M =>
  refine⟨(fun h=>by cases h),fun K x vs g j=>?_⟩
  cases x with
  | cons x l =>
   obtain⟨v,C,rfl,q,z⟩:=j
   obtain⟨W,g⟩:=g
   obtain⟨Z,p2⟩:=eP.app g
   exact⟨v,C,rfl,L.1 W x v Z q,M.2 K l C p2 z⟩
  | _=>exact bad g
 | own D =>
  refine⟨fun _ x v g j=>?_,fun h=>by cases h⟩
  cases x with
  | own c =>
   obtain⟨rfl,A⟩:=g.1
   obtain⟨v,q,z⟩:=j
   exact⟨v,F _ _ A q,z⟩
  | val u =>
   cases u with
   | slice b k G =>
    cases b with
    | none =>
     cases k with
     | zero =>
      cases G with
      | zero =>
       have j:[v]=[.slice none 0 0]:=j
       have g:eP (match kh cf D with|false=>[n<=D/\D<n']|true=>[False]):=g
       split at g
       ·rename_i O;exact⟨_,R D g.1.1 g.1.2 O,rfl,j⟩
       ·exact bad g
      | succ G=>exact bad g
     | succ k=>exact bad g
    | some b=>exact bad g
   | _=>exact bad g
  | _=>exact bad g
 | ref D o' =>
  refine⟨fun _ x v g j=>?_,fun h=>by cases h⟩
  cases x with
  | ref c o =>
   obtain⟨rfl,rfl,A⟩:=g.1
   obtain⟨v,b,q,z⟩:=j
   exact⟨v,b,F _ _ A q,z⟩
  | _=>exact bad g
 | val v' =>
  refine⟨fun _ x v g j=>?_,fun h=>by cases h⟩
  cases x with
  | val u=>have:=g.1; subst this; exact j
  | _=>exact bad g
 | rT t b=>exact⟨(fun _ x v g j=>by cases x<;>exact bad g),(fun h=>by cases h)⟩
 | iE D G =>
  refine⟨fun _ x v g j=>?_,fun h=>by cases h⟩
  cases x with
  | iE c k =>
   obtain⟨rfl,rfl,A⟩:=g.1
   obtain⟨v,q,z⟩:=j
   exact⟨v,F _ _ A q,z⟩
  | val u =>
   cases u with
   | slice b k k2 =>
    cases b with
    | none =>
     cases k with
     | zero =>
      cases k2 with
      | zero =>
       have j:[v]=[.slice none 0 0]:=j
       have g:eP (match kh cf D with|false=>[n<=D/\D<n'/\G=0]|true=>[False]):=g
       split at g
       ·rename_i O;exact⟨_,R D g.1.1 g.1.2.1 O,.inl ⟨rfl,g.1.2.2⟩,j⟩
       ·exact bad g
      | succ G=>exact bad g
     | succ k=>exact bad g
    | some b=>exact bad g
   | _=>exact bad g
  | _=>exact bad g
 | jM d' G =>
  refine⟨fun _ x v g j=>?_,fun h=>by cases h⟩
  cases x with
  | jM d k =>
   obtain⟨rfl,rfl,A⟩:=g.1
   obtain⟨C,v,q,z⟩:=j
   exact⟨C,v,F _ _ A q,z⟩
  | _=>exact bad g
 | rH d' G i s=>exact⟨(fun _ x v g j=>by cases x<;>exact bad g),(fun h=>by cases h)⟩
 | tl D i'=>exact⟨(fun _ x v g j=>by cases x<;>exact bad g),(fun h=>by cases h)⟩
 | zX c=>exact⟨(fun _ x v g j=>by cases x<;>exact bad g),(fun h=>by cases h)⟩
 | ix c i s=>exact⟨(fun _ x v g j=>by cases x<;>exact bad g),(fun h=>by cases h)⟩
 | ti c i s o=>exact⟨(fun _ x v g j=>by cases x<;>exact bad g),(fun h=>by cases h)⟩
 | imp c y H=>exact⟨(fun _ x v g j=>by cases x<;>exact bad g),(fun h=>by cases h)⟩
theorem gJ{ck':List (Nat×CT)}{x:Nat×CT}:∀{ck:List (Nat×CT)},x∈minus ck ck'->x∈ck/\get? ck' x.1=none
 | (k,.row T t l)::r,h=>by
  simp only[minus]at h;split at h
  ·obtain⟨b,c⟩:=gJ h; exact⟨Qs _ b,c⟩
  ·rename_i e;rcases Qv.1 h with rfl|h
   ·exact⟨Qx,e⟩
   ·obtain⟨b,c⟩:=gJ h; exact⟨Qs _ b,c⟩
 | (k,.eW T o d f)::r,h=>by
  simp only[minus]at h;split at h
  ·obtain⟨b,c⟩:=gJ h; exact⟨Qs _ b,c⟩
  ·rename_i e;rcases Qv.1 h with rfl|h
   ·exact⟨Qx,e⟩
   ·obtain⟨b,c⟩:=gJ h; exact⟨Qs _ b,c⟩
 | (k,.gv T t g)::r,h=>by
  simp only[minus]at h;split at h
  ·obtain⟨b,c⟩:=gJ h; exact⟨Qs _ b,c⟩
  ·rename_i e;rcases Qv.1 h with rfl|h
   ·exact⟨Qx,e⟩
   ·obtain⟨b,c⟩:=gJ h; exact⟨Qs _ b,c⟩
 | (k,.box T z)::r,h=>by
  simp only[minus]at h;obtain⟨b,c⟩:=gJ h; exact⟨Qs _ b,c⟩
theorem nX{c:Type}{t:Nat}:∀{l:List (Nat×c)},get? l t=none->∀ x∈l,x.1≠t
 | (k,y)::l,h,x,b=>by
  simp only[get?]at h;split at h
  ·cases h
  ·rename_i e;rcases Qv.1 b with rfl|b
   ·exact qz e
   ·exact nX h x b
theorem oa:∀{l:List (Nat×CT)},nH l=true->(l.map (·.1)).Nodup
 | [],_=>TS
 | (k,x)::l,h=>by
  simp only[nH]at h;split at h
  ·cases h
  ·rename_i e;simp only[S0,Sm];refine⟨fun b=>?_,oa h⟩;obtain⟨y,c,f⟩:=Rj.1 b;exact nX e y c f
theorem Ci{cf g:List (Nat×CT)}{n n':Nat}{sl:List (Nat×AV)}{M:AV->Nat->Prop}(h:∀ t x y,get? sl t=some x->OR y=true->eP (zQ cf g n n' x y)->M y t):∀{sl':List (Nat×AV)},eP (Hd cf g n n' sl sl')->∀ t y,get? sl' t=some y->M y t
 | (s,y)::l,b,t,z,c=>by
  simp only[Hd]at b;split at b
  ·rename_i x e;obtain⟨i,b⟩:=b;obtain⟨j,k⟩:=eP.app b;simp only[get?]at c;split at c
   ·rename_i f;have f:=fO f;subst f;cases c;exact h _ _ _ e i j
   ·exact Ci h k t z c
  ·exact b.1.elim
theorem jY{cf p ck:List (Nat×CT)}{n n':Nat}:∀{ck':List (Nat×CT)},eP (qi cf p ck n n' ck')->∀ x∈ck',
    (∃ T y z,x.2=.box T y/\get? ck x.1=some (.box T z)/\x.1<n/\kl y=true/\eP (zQ cf p n n' z y))∨(∃ T t y,x.2=.row T t y/\get? ck x.1=some (.row T t y)/\x.1<n)∨(∃ T t,x.2=.row T t []/\get? ck x.1=none/\n<=x.1/\x.1<n') ∨
    (∃ T o d k,x.2=.eW T o d k/\get? ck x.1=some (.eW T o d k)/\x.1<n/\d<n)∨(∃ T o d,x.2=.eW T o d none/\get? ck x.1=none/\n<=x.1/\x.1<n'/\n<=d/\d<n'/\kh cf x.1=false/\kh cf d=true) ∨
    (∃ T t y,x.2=.gv T t y/\get? ck x.1=some (.gv T t y)/\x.1<n)∨(∃ T t,x.2=.gv T t []/\get? ck x.1=none/\n<=x.1/\x.1<n')
 | (c,.box T y)::l,b,x,f=>by
  simp only[qi]at b;split at b
  ·rename_i m z e;obtain⟨⟨rfl,g,h⟩,b⟩:=b;obtain⟨q,i⟩:=eP.app b;rcases Qv.1 f with rfl|f
   ·exact .inl ⟨_,y,z,rfl,e,g,h,q⟩
   ·exact jY i x f
  ·exact b.1.elim
 | (c,.row T u y)::l,b,x,f=>by
  simp only[qi]at b;split at b
  ·rename_i m t z e;split at b
   ·rename_i s j;obtain⟨⟨rfl,g⟩,h,i⟩:=b;rcases Qv.1 f with rfl|f
    ·refine .inr (.inl ⟨_,u,y,rfl,?_,g⟩);have:=gF j;cases this;have:=gn j;rw[e,this,h]
    ·exact jY i x f
   ·exact b.1.elim
  ·exact b.1.elim
  ·rename_i e;obtain⟨rfl,⟨g,h⟩,i⟩:=b;rcases Qv.1 f with rfl|f
   ·exact .inr (.inr (.inl ⟨T,u,rfl,e,g,h⟩))
   ·exact jY i x f
 | (c,.eW T o d k)::l,b,x,f=>by
  simp only[qi]at b;split at b
  ·rename_i m F G v e;obtain⟨⟨rfl,rfl,rfl,rfl,g,h⟩,i⟩:=b;rcases Qv.1 f with rfl|f
   ·exact .inr (.inr (.inr (.inl ⟨_,_,_,_,rfl,e,g,h⟩)))
   ·exact jY i x f
  ·exact b.1.elim
  ·rename_i e;obtain⟨⟨rfl,g,h,A,B,C,D⟩,i⟩:=b;rcases Qv.1 f with rfl|f
   ·exact .inr (.inr (.inr (.inr (.inl ⟨_,_,_,rfl,e,g,h,A,B,C,D⟩))))
   ·exact jY i x f
 | (c,.gv T u y)::l,b,x,f=>by
  simp only[qi]at b;split at b
  ·rename_i m t z e;split at b
   ·rename_i s j;obtain⟨⟨rfl,g⟩,h,i⟩:=b;rcases Qv.1 f with rfl|f
    ·refine .inr (.inr (.inr (.inr (.inr (.inl ⟨_,u,y,rfl,?_,g⟩)))));have:=gF j;cases this;have:=gn j;rw[e,this,h]
    ·exact jY i x f
   ·exact b.1.elim
  ·exact b.1.elim
  ·rename_i e;obtain⟨rfl,⟨g,h⟩,i⟩:=b;rcases Qv.1 f with rfl|f
   ·exact .inr (.inr (.inr (.inr (.inr (.inr ⟨T,u,rfl,e,g,h⟩)))))
   ·exact jY i x f
def EP(cf:List (Nat×CT))(c:Nat):Value:=if kh cf c then .tuple #[]else .slice none 0 0
theorem Eg{cf:List (Nat×CT)}(b:(cf.map (·.1)).Nodup){x:Nat×CT}(c:x∈cf):kh cf x.1=match x.2 with|.gv _ _ _=>true|_=>false:=by
 unfold kh;rw[la b c];cases x.2<;>rfl
theorem tw(h:Fr w0 X0 Bo N st ρ a w)(aa:∀ b,X0 b->b<w0.heap.size){n:Nat}(L:leS Bo.length st st' n):∃ ρ',Fr w0 X0 Bo N st' ρ' a w:=by
 obtain⟨⟨h0,h1⟩,h2,h3,h4,h5⟩:=L;have p:=jY h5;have R:(ρ.take n).length=n:=by rw[QM,h.nx]; omega
 have ab:=oa h3;refine⟨ρ.take n++(List.range (st'.nx-n)).map (fun i=>EP st'.ck (n+i)),?_⟩;generalize G:ρ.take n++(List.range (st'.nx-n)).map (fun i=>EP st'.ck (n+i))=ρ';have g:∀ c,c<n->ρ'[c]?=ρ[c]?:=by
  intro c F;rw[<-G,Q0 (by omega),Q1,QJ F]
 have A:∀ c,n<=c->c<st'.nx->ρ'[c]?=some (EP st'.ck c):=by
  intro c F D;rw[<-G,QT (by omega),R,Ro,TO (by omega),Sp,show n+(c-n)=c by omega]
 have H:∀ c,n<=c->c<st'.nx->kh st'.ck c=false->ρ'[c]?=some (.slice none 0 0):=by
  intro c F D k;rw[A c F D];unfold EP;rw[k]; rfl
 have I:∀ c,n<=c->c<st'.nx->kh st'.ck c=true->ρ'[c]?=some (.tuple #[]):=by
  intro c F D k;rw[A c F D];unfold EP;rw[k]; rfl
 have bold:∀ c,c<n->fk ρ' c=fk ρ c:=fun c F=>by unfold fk; rw[g c F]
 have J:∀ c b,n<=c->c<st'.nx->¬fk ρ' c b:=fun c b F D=>by
  unfold fk;rw[A c F D];unfold EP;split
  ·rintro⟨u,hu,_⟩;simp at hu
  ·exact fun h=>by cases h
 have K:∀ x∈st'.ck,∀ b,fk ρ' x.1 b->x.1<n/\fk ρ x.1 b/\∃ z,(x.1,z)∈st.ck:=by
  intro x j b k;rcases p x j with⟨T,y,z,_,e,q,_⟩|⟨T,t,y,_,e,q⟩|⟨T,t,_,_,O,s⟩|⟨T,o,d,hl,_,e,q,_⟩|⟨T,o,d,_,_,O,s,_⟩|⟨T,t,y,_,e,q⟩|⟨T,t,_,_,O,s⟩
  ·exact⟨q,by rw[<-bold _ q]; exact k,_,b7 e⟩
  ·exact⟨q,by rw[<-bold _ q]; exact k,_,b7 e⟩
  ·exact(J _ _ O s k).elim
  ·exact⟨q,by rw[<-bold _ q]; exact k,_,b7 e⟩
  ·exact(J _ _ O s k).elim
  ·exact⟨q,by rw[<-bold _ q]; exact k,_,b7 e⟩
  ·exact(J _ _ O s k).elim
 have U:∀ b,XX X0 ρ' st'.ck b->XX X0 ρ st.ck b:=by
  rintro b (k|⟨x,j,k⟩)
  ·exact .inl k
  ·obtain⟨_,q,z,V⟩:=K x j b k;exact .inr ⟨_,V,q⟩
 have hw:=h.wd aa;have ac:Wd 0 ρ (XX X0 ρ st.ck) (minus st.ck st'.ck) w:=⟨hw.lt,fun x j=>hw.cs x (gJ j).1⟩;have ad:∀ x∈minus st.ck st'.ck,∀ b,fk ρ x.1 b->¬XX X0 ρ' st'.ck b:=by
  rintro x j b k (h'|⟨y,hy,h'⟩)
  ·exact jJ h aa (gJ j).1 k h'
  ·obtain⟨O,s⟩:=gJ j;obtain⟨_,q,z,V⟩:=K y hy b h';exact h.dj x O _ V (fun e=>nX s y hy e.symm) b k q
 have L:=IL (ρ':=ρ') (n:=n) (n':=st'.nx) ac U ad (fun c v F e=>by rw[g c F]; exact e) H;refine⟨h.dn,h.sz,h.kp,?_,oa h3,?_,?_,?_,?_,?_,⟨h.pn.bo,QL h0 h2,fun x j T l e ae=>?_⟩⟩
 ·rw[<-G,QO,R,Rt,VV]; omega
 ·intro x j;rcases p x j with⟨_,_,_,_,_,q,_⟩|⟨_,_,_,_,_,q⟩|⟨_,_,_,_,_,q⟩|⟨_,_,_,_,_,_,q,_⟩|⟨_,_,_,_,_,_,q,_⟩|⟨_,_,_,_,_,q⟩|⟨_,_,_,_,_,q⟩<;>omega
 ·intro x j b k;obtain⟨_,q,z,V⟩:=K x j b k;exact h.bl _ V b q
 ·intro x j y hy af b f B;obtain⟨_,q,z,V⟩:=K x j b f;obtain⟨_,q',z',ah⟩:=K y hy b B;exact h.dj _ V _ ah af b q q'
 ·intro x j;have C:=Eg ab j;rcases p x j with⟨T,y,z,f,B,q,s,q3⟩|⟨T,t,y,f,B,q⟩|⟨T,t,f,B,q,s⟩|⟨T,o,d,hl,f,B,q,s⟩|⟨T,o,d,f,B,O,s,q3,q4,q5,q6⟩|⟨T,t,y,f,B,q⟩|⟨T,t,f,B,q,s⟩
  ·rw[f];obtain⟨g1,b,cs,W,Z,g4,g5⟩:=h.cs _ (b7 B);exact⟨s,b,cs,by rw[g _ q]; exact W,Z,(L y).2 s z _ q3 g4,g5⟩
  ·rw[f];obtain⟨v,xs,g1,W,Z,g4⟩:=h.cs _ (b7 B);exact⟨v,xs,by rw[g _ q]; exact g1,W,Z,fun i x j=>eJ (g4 i x j) fun b k=>.inl (U b k)⟩
  ·rw[f];rw[f]at C;exact⟨_,[],H _ q s C,S1 w _ _ _,by simp,by simp⟩
  ·rw[f];obtain⟨v,xs,us,g1,W,Z,g4⟩:=h.cs _ (b7 B);exact⟨v,xs,us,by rw[g _ q]; exact g1,by rw[g _ s]; exact W,Z,g4⟩
  ·rw[f];exact⟨_,[],#[],H _ O s q5,I _ q3 q4 q6,S1 w _ _ _,by simp,by simp⟩
  ·rw[f];obtain⟨us,g1,W,Z,g4⟩:=h.cs _ (b7 B);exact⟨us,by rw[g _ q]; exact g1,W,fun i h l hi hl=>n9 (Z i h l hi hl) U,g4⟩
  ·rw[f];rw[f]at C;exact⟨#[],I _ q s C,rfl,by simp,by simp⟩
 ·exact Ci (M:=fun y t=>m ρ' (XX X0 ρ' st'.ck) w y [gt a t]) (fun t x y j hs hp=>(L y).1 hs x _ hp (h.sl t x j)) h4
 ·rcases p x j with⟨S,y,z,f,B,q,_⟩|⟨S,t,y,f,_⟩|⟨S,t,f,_⟩|⟨S,o,d,hl,f,_⟩|⟨S,o,d,f,_⟩|⟨S,t,y,f,_⟩|⟨S,t,f,_⟩
  ·rw[g _ q];exact h.pn.pn (x.1,CT.box S z) (b7 B) S z rfl ae
  ·rw[f]at e; cases e
  ·rw[f]at e; cases e
  ·rw[f]at e; cases e
  ·rw[f]at e; cases e
  ·rw[f]at e; cases e
  ·rw[f]at e; cases e
end
section
variable{E:Env}{w0:World}{X0:Nat->Prop}{Bo:List Value}{N:Nat}{st st':St}{ρ ρ':List Value}{a:Act}{w w':World}{X Y:Nat->Prop}
theorem JA{mp:List (Nat×Nat)}{c i:Nat}(h:ph mp c=some i):(i,c)∈mp:=by
 induction mp with
 | nil=>cases h
 | cons x l b =>
  obtain⟨j,k⟩:=x
  simp only[ph]at h
  split at h
  ·rename_i e; cases h; rw[fO e]; exact Qx
  ·exact Qs _ (b h)
theorem Es{mp:List (Nat×Nat)}{c:Nat}(h:ph mp c=none):∀ x∈mp,x.2≠c:=by
 induction mp with
 | nil=>intro x b; cases b
 | cons y l f =>
  obtain⟨j,k⟩:=y
  simp only[ph]at h
  split at h
  ·cases h
  ·rename_i e;intro x b;rcases Qv.1 b with rfl|b
   ·exact qz e
   ·exact f h x b
theorem IS{nx:Nat}:∀{mp:List (Nat×Nat)},OG nx mp=true->(∀ i c,(i,c)∈mp->i<nx/\get? mp i=some c)/\(∀ i j c,(i,c)∈mp->(j,c)∈mp->i=j)
 | [],_=>⟨fun i c h=>(by cases h),fun i j c h=>(by cases h)⟩
 | (i0,y)::l,h=>by
  simp only[OG]at h;split at h
  ·rename_i g n o;obtain⟨p,q⟩:=IS h;have g:=QS g;have s:∀ x∈l,x.1≠i0:=nX n;have k:=Es o;refine⟨fun i c b=>?_,fun i j c hi f=>?_⟩
   ·rcases Qv.1 b with e|b
    ·cases e;refine⟨g,?_⟩;simp only[get?,S6]
    ·obtain⟨t,u⟩:=p i c b;refine⟨t,?_⟩;simp only[get?];have:Nat.beq i0 i=false:=by
      cases v:Nat.beq i0 i with
      | false=>rfl
      | true=>exact absurd (fO v).symm (s _ b)
     rw[this]; exact u
   ·rcases Qv.1 hi with e|hi<;>rcases Qv.1 f with m|f
    ·cases e; cases m; rfl
    ·cases e; exact absurd rfl (k _ f)
    ·cases m; exact absurd rfl (k _ hi)
    ·exact q i j c hi f
  ·cases h
theorem pY{ck:List (Nat×CT)}{mp:List (Nat×Nat)}:∀{n i c:Nat},oK ck mp n=true->i<n->get? mp i=some c->c=i∨∀ T l,get? ck c≠some (.box T l)
 | n+1,i,c,h,hi,b=>by
  simp only[oK]at h;rcases QA i n with e|e
  ·split at h
   ·split at h
    ·exact pY h e b
    ·split at h
     ·cases h
     ·exact pY h e b
   ·exact pY h e b
  ·have:i=n:=by omega
   subst this;rw[b]at h;dsimp only at h;split at h
   ·rename_i f; exact .inl (fO f)
   ·split at h
    ·cases h
    ·rename_i g; exact .inr g
def acq(mp:List (Nat×Nat)):CT->CT->Prop
 | .box T l,y=>y=.box T (vE mp l)
 | .eW T o d b,y=>∃ j,ph mp d=some j/\y=.eW T o j b
 | x,y=>y=x
theorem iQ{mp:List (Nat×Nat)}{nx:Nat}{ck:List (Nat×CT)}{x:Nat×CT}:∀{sp:List (Nat×CT)},x∈uD mp nx ck sp ->
    (∃ c z,get? mp x.1=some c/\get? ck c=some z/\acq mp z x.2)∨(get? mp x.1=none/\x.1<nx/\∃ T t,x.2=.row T t [])
 | (i,s)::l,h=>by
  simp only[uD]at h;split at h
  ·rename_i c e;split at h
   ·rename_i T y b;rcases Qv.1 h with rfl|h
    ·exact .inl ⟨c,_,e,b,rfl⟩
    ·exact iQ h
   ·rename_i T t y b;rcases Qv.1 h with rfl|h
    ·exact .inl ⟨c,_,e,b,rfl⟩
    ·exact iQ h
   ·rename_i T o d k b;split at h
    ·rename_i j f;rcases Qv.1 h with rfl|h
     ·exact .inl ⟨c,_,e,b,j,f,rfl⟩
     ·exact iQ h
    ·exact iQ h
   ·rename_i T t y b;rcases Qv.1 h with rfl|h
    ·exact .inl ⟨c,_,e,b,rfl⟩
    ·exact iQ h
   ·exact iQ h
  ·rename_i e;split at h
   ·rename_i T t y g;rcases Qv.1 h with rfl|h
    ·exact .inr ⟨e,QS g,T,t,rfl⟩
    ·exact iQ h
   ·exact iQ h
theorem yk{mp:List (Nat×Nat)}{nx:Nat}{ck:List (Nat×CT)}:∀{sp:List (Nat×CT)},List.Sublist ((uD mp nx ck sp).map (·.1)) (sp.map (·.1))
 | []=>.slnil
 | (i,s)::l=>by
  have b:=yk (mp:=mp) (nx:=nx) (ck:=ck) (sp:=l);simp only[uD];split
  ·split
   ·exact .cons_cons _ b
   ·exact .cons_cons _ b
   ·split
    ·exact .cons_cons _ b
    ·exact .cons _ b
   ·exact .cons_cons _ b
   ·exact .cons _ b
  ·split
   ·exact .cons_cons _ b
   ·exact .cons _ b
theorem zj{mp:List (Nat×Nat)}(j:∀ c i v,ph mp c=some i->ρ[c]?=some v->ρ'[i]?=some v):∀{x:AV}{vs:List Value},m ρ X w x vs->m ρ' X w (vE mp x) vs
 | .any,_,h=>h
 | .val _,_,h=>h
 | .lit _,_,h=>h
 | .a_ t a,_,h=>h
 | .rT t a,_,h=>h
 | .own c,_,⟨v,h,s,q⟩=>by
  unfold vE;split
  ·rename_i i e; exact⟨v,j c i v e h,s,q⟩
  ·exact⟨v,q⟩
 | .ref c _,_,⟨v,b,h,l,g⟩=>by
  unfold vE;split
  ·rename_i i e; exact⟨v,b,j c i v e h,l,g⟩
  ·exact⟨_,g⟩
 | .js _,_,⟨n,l,g⟩=>⟨n,l,zj j g⟩
 | .agg _,_,⟨n,l,g,o⟩=>⟨n,l,zj j g,o⟩
 | .kL f _,_,⟨n,l,g⟩=>⟨n,l,zj j g⟩
 | .ix c _ _,_,⟨v,b,h,l,g⟩=>⟨_,g⟩
 | .ti c _ _ _,_,⟨v,b,h,l,g⟩=>⟨_,g⟩
 | .iE c _,_,⟨v,h,l,g⟩=>by
  unfold vE;split
  ·rename_i i e; exact⟨v,j c i _ e h,l,g⟩
  ·exact⟨v,g⟩
 | .jM d _,_,⟨n,v,h,l,g,o⟩=>by
  unfold vE;split
  ·rename_i i e; exact⟨n,v,j d i _ e h,l,g,o⟩
  ·exact⟨v,o⟩
 | .rH _ _ _ _,_,⟨n,v,b,h,l,g,o⟩=>⟨_,o⟩
 | .tl _ _,_,⟨v,u,h,l,g⟩=>⟨_,g⟩
 | .zX _,_,h=>h
 | .imp p x,_,⟨v,l,g,o⟩=>⟨v,l,fun y=>zj j (g y),o⟩
 | .nil,_,h=>h
 | .cons x k,_,⟨v,n,l,g,o⟩=>⟨v,n,l,zj j g,zj j o⟩
theorem J3{mp:List (Nat×Nat)}:∀{l:AV},kl l=true->kl (vE mp l)=true
 | .nil,h=>h
 | .cons x l,h=>J3 (l:=l) h
theorem abe{mp:List (Nat×Nat)}{nx:Nat}(f:∀ i,get? mp i=none->i<nx->ρ[i]?=some (.slice none 0 0)):∀{x y:AV}{vs:List Value},m ρ X w x vs->m ρ X w (qa mp nx x y) vs:=by
 intro x y;fun_induction qa mp nx x y with
 | case1 i p q =>
  intro vs h
  have h:vs=[.slice none 0 0]:=h
  exact⟨_,f i p (QS q),rfl,h⟩
 | case2=>intro vs h; exact⟨_,h⟩
 | case3=>intro vs h; exact⟨_,h⟩
 | case4 l o g=>intro vs ⟨b,c,e⟩; exact⟨b,c,g e⟩
 | case5 l o g=>intro vs ⟨b,c,e,j⟩; exact⟨b,c,g e,j⟩
 | case6 x l y o k n=>intro vs ⟨v,b,c,e,j⟩; exact⟨v,b,c,k e,n j⟩
 | case7=>intro vs h; exact h
theorem Fr.Gi(h:Fr w0 X0 Bo N st ρ a w)(af:∀ b,X0 b->b<w0.heap.size){mp:List (Nat×Nat)}{nx:Nat}(U:OG nx mp=true)(V:oK st.ck mp Bo.length=true)(W:Bo.length<=nx){sp:List (Nat×CT)}(Z:nH sp=true) :
    ∃ ρ',Fr w0 X0 Bo N ⟨[],uD mp nx st.ck sp,nx⟩ ρ' a w/\∀{x y:AV}{vs:List Value},m ρ (XX X0 ρ st.ck) w x vs->m ρ' (XX X0 ρ' (uD mp nx st.ck sp)) w (qa mp nx (vE mp x) y) vs:=by
 obtain⟨k1,k2⟩:=IS U;refine⟨(List.range nx).map fun i=>match get? mp i with|some c=>ρ.getD c (.slice none 0 0)|none=>.slice none 0 0,?_⟩;generalize s:((List.range nx).map fun i=>match get? mp i with|some c=>ρ.getD c (.slice none 0 0)|none=>.slice none 0 0)=ρ';have q:∀ i c v,get? mp i=some c->ρ[c]?=some v->ρ'[i]?=some v:=by
  intro i c v H M;have hi:=(k1 i c (b7 H)).1;rw[<-s,Ro,TO hi,Sp,H];show some (ρ.getD c (.slice none 0 0))=some v;rw[Qz,M];rfl
 have I:∀ i,get? mp i=none->i<nx->ρ'[i]?=some (.slice none 0 0):=by
  intro i H hi;rw[<-s,Ro,TO hi,Sp,H]
 have aa:∀ i c z,get? mp i=some c->(c,z)∈st.ck->fk ρ' i=fk ρ c:=by
  intro i c z H J;have hc:c<ρ.length:=by rw[h.nx]; exact h.kn _ J
  have M:=Qr hc;unfold fk;rw[q i c _ H M,M]
 have ab:∀ i b,get? mp i=none->i<nx->¬fk ρ' i b:=by
  intro i b H hi;unfold fk;rw[I i H hi]; exact fun h=>by cases h
 have B:∀ x∈uD mp nx st.ck sp,∀ b,fk ρ' x.1 b->∃ c z,get? mp x.1=some c/\(c,z)∈st.ck/\fk ρ c b:=by
  intro x f b g;rcases iQ f with⟨c,z,k,n,_⟩|⟨k,n,_⟩
  ·exact⟨c,z,k,b7 n,by rw[<-aa x.1 c z k (b7 n)]; exact g⟩
  ·exact(ab _ _ k n g).elim
 have C:∀ b,XX X0 ρ' (uD mp nx st.ck sp) b->XX X0 ρ st.ck b:=by
  rintro b (g|⟨x,f,g⟩)
  ·exact .inl g
  ·obtain⟨c,z,_,J,e⟩:=B x f b g;exact .inr ⟨_,J,e⟩
 have u:∀ c i v,ph mp c=some i->ρ[c]?=some v->ρ'[i]?=some v:=fun c i v hi M=>q i c v (k1 i c (JA hi)).2 M;refine⟨⟨h.dn,h.sz,h.kp,by rw[<-s]; simp,(oa Z).sublist yk,?_,?_,?_,?_,fun t x f=>(by cases f),⟨h.pn.bo,W,?_⟩⟩,fun f=>abe I (fN (fun b g=>.inl (C b g)) (zj u f))⟩
 ·intro x f;rcases iQ f with⟨c,z,k,n,_⟩|⟨k,n,_⟩
  ·exact(k1 _ _ (b7 k)).1
  ·exact n
 ·intro x f b g;obtain⟨c,z,_,J,e⟩:=B x f b g;exact h.bl _ J b e
 ·intro x f y hy ac b e1 e2;obtain⟨c,z,D,J,e⟩:=B x f b e1;obtain⟨c',z',ad,ae,e'⟩:=B y hy b e2;refine h.dj _ J _ ae (fun ec=>ac ?_) b e e';have ec:c=c':=ec;subst ec;exact k2 _ _ _ (b7 D) (b7 ad)
 ·intro x f;rcases iQ f with⟨c,z,k,n,p⟩|⟨k,n,T,t,p⟩
  ·have F:=h.cs _ (b7 n);cases z with
   | box T l =>
    rw[show x.2=_ from p]
    obtain⟨D,b,cs,A,K,O,g5⟩:=F
    exact⟨J3 D,b,cs,q _ _ _ k A,K,fN (fun b g=>.inl (C b g)) (zj u O),g5⟩
   | row T t l =>
    rw[show x.2=_ from p]
    obtain⟨v,xs,D,A,K,O⟩:=F
    exact⟨v,xs,q _ _ _ k D,A,K,fun i x f=>eJ (O i x f) fun b g=>.inl (C b g)⟩
   | eW T o d hl =>
    obtain⟨j,hj,p⟩:=p
    rw[p]
    obtain⟨v,xs,us,D,A,K⟩:=F
    exact⟨v,xs,us,q _ _ _ k D,u _ _ _ hj A,K⟩
   | gv T t l =>
    rw[show x.2=_ from p]
    obtain⟨us,D,A,K,O⟩:=F
    exact⟨us,q _ _ _ k D,A,fun i h l hi hl=>n9 (K i h l hi hl) C,O⟩
  ·rw[p];exact⟨_,[],I _ k n,S1 w _ _ _,by simp,by simp⟩
 ·intro x f T l e R;rcases iQ f with⟨c,z,k,n,p⟩|⟨k,n,G,t,p⟩
  ·have hz:∃ G L,z=.box G L:=by
     cases z with
     | box G L=>exact⟨_,_,rfl⟩
     | row G t' L=>rw[show x.2=_ from p]at e; cases e
     | eW G o' d' ah=>obtain⟨j,_,p⟩:=p; rw[p]at e; cases e
     | gv G t' L=>rw[show x.2=_ from p]at e; cases e
   obtain⟨G,L,rfl⟩:=hz;have S:c=x.1:=by
    rcases pY V R k with S|S
    ·exact S
    ·exact absurd n (S _ _)
   subst S;have g:=h.pn.pn (x.1,CT.box G L) (b7 n) G L rfl R;have g:ρ[x.1]?=Bo[x.1]?:=g;obtain⟨_,b,cs,A,_⟩:=h.cs _ (b7 n);rw[<-g];rw[q _ _ _ k A]; exact A.symm
  ·rw[p]at e; cases e
theorem HP{mp:List (Nat×Nat)}{nx:Nat}{x:AV}:qa mp nx x .any=x:=by
 unfold qa;split<;>first|rfl|contradiction
theorem vZ{mp:List (Nat×Nat)}{t:Nat}{y:AV}:∀{sl:List (Nat×AV)},get? (EZ mp sl) t=some y->∃ x,get? sl t=some x/\y=vE mp x
 | (s,x)::l,h=>by
  simp only[EZ,get?]at h ⊢;split at h
  ·cases h; exact⟨x,rfl,rfl⟩
  ·exact vZ h
theorem Fr.acH(h:Fr w0 X0 Bo N st ρ a w)(e:∀ b,X0 b->b<w0.heap.size){mp:List (Nat×Nat)}{nx:Nat}(f:OG nx mp=true)(g:oK st.ck mp Bo.length=true)(i:Bo.length<=nx){sp:List (Nat×CT)}(j:nH sp=true) :
    ∃ ρ',Fr w0 X0 Bo N ⟨EZ mp st.sl,uD mp nx st.ck sp,nx⟩ ρ' a w:=by
 obtain⟨ρ',c,k⟩:=h.Gi e f g i j;refine⟨ρ',c.dn,c.sz,c.kp,c.nx,c.nd,c.kn,c.bl,c.dj,c.cs,fun t y l=>?_,c.pn⟩;obtain⟨x,m,rfl⟩:=vZ l;have:=k (y:=.any) (h.sl t x m);rwa [HP]at this
end
def uA(an:List (Nat×List (Nat×An)))(N:Nat):Code->Bool
 | .skip|.exit _|.ret=>true
 | .region id l e=>l.toList.all (gW N)&&(!e||match Lp (Ir an id)with|some f=>Co f||J9 (Ir an id) N l.toList f|none=>JY (Ir an id) N l.toList)
 | .seq a b=>uA an N a&&uA an N b
 | .cond c x y=>Pv c&&uA an N x&&uA an N y
 | .block _ c=>uA an N c
 | .loop c=>uA an N c
 | _=>false
def mT(an:List (Nat×List (Nat×An)))(N:Nat):List It->Bool
 | []=>true
 | .code c::k=>uA an N c&&mT an N k
 | _::k=>mT an N k
def me(P:Program)(Q:Exit->Act->World->Prop):List It->Exit->Act->World->Prop
 | [],e,a,w=>Q e a w
 | .code c::k,e,a,w=>match e with
  | .normal=>c.wp P (me P Q k) a w
  | e=>me P Q k e a w
 | .fa id::k,e,a,w=>Exit.inBlock id (me P Q k) e a w
 | .mark R::k,e,a,w=>match e with
  | .normal=>R a w
  | e=>me P Q k e a w
section
variable{E:Env}{w0:World}{X0:Nat->Prop}{Bo:List Value}{N:Nat}{st st':St}{ρ:List Value}{a:Act}{w w':World}{Q:Exit->Act->World->Prop}{P:Program}
theorem sM{id:Nat}:∀{k f:List It},lX id k=some f->me P Q f .normal a w->me P Q k (.exit id) a w
 | .fa j::k,f,h,b=>by
  simp only[lX]at h;split at h
  ·rename_i e;have e:=fO e;cases h;subst e;simpa [me,Exit.inBlock]using b
  ·rename_i e;have e:=qz e;simp only[me,Exit.inBlock];rw[QC (fun h=>e h.symm)];exact sM h b
 | .code c::k,f,h,b=>by
  simp only[lX]at h;exact sM (k:=k) h b
 | .mark R::k,f,h,b=>by
  simp only[lX]at h;exact sM (k:=k) h b
theorem sK{an:List (Nat×List (Nat×An))}{id:Nat}:∀{k e:List It},lX id k=some e->mT an N k=true->mT an N e=true
 | .fa j::k,e,h,b=>by
  simp only[lX]at h;split at h
  ·cases h; exact b
  ·exact sK (k:=k) h b
 | .code c::k,e,h,b=>by
  simp only[lX]at h;simp only[mT,QK]at b;exact sK (k:=k) h b.2
 | .mark R::k,e,h,b=>by
  simp only[lX]at h;exact sK (k:=k) h b
theorem sN:∀{k:List It},Q .ret a w->me P Q k .ret a w
 | [],h=>h
 | .code c::k,h=>sN (k:=k) h
 | .fa j::k,h=>sN (k:=k) h
 | .mark R::k,h=>sN (k:=k) h
theorem KU{c:Code}{k:List It}:me P Q (.code c::k)=Exit.then (c.wp P (me P Q k)) (me P Q k):=by
 funext e a w; cases e<;>rfl
theorem zo{R:Act->World->Prop}{k:List It}:me P Q (.mark R::k)=Exit.then R (me P Q k):=by
 funext e a w; cases e<;>rfl
theorem DP{id:Nat}{k:List It}:me P Q (.fa id::k)=Exit.inBlock id (me P Q k):=by
 funext e a w; cases e<;>rfl
def Hs(an:List (Nat×List (Nat×An)))(E:Env)(w0:World)(X0:Nat->Prop)(Bo:List Value)(N:Nat)(Q:Exit->Act->World->Prop)(k:List It)(st:St):Prop :=
 mT an N k=true->∀ ρ a w,Fr w0 X0 Bo N st ρ a w->me E.P Q k .normal a w
theorem iH{S:Sx}(p:S.E.Ok)(i:∀ b,X0 b->b<w0.heap.size)(g:∀ st ρ a w,ku S st->Fr w0 X0 Bo S.N st ρ a w->Q .ret a w/\Q .normal a w) :
    ∀(n:Nat) (k:List It) (st:St),run S (Hs S.an S.E w0 X0 Bo S.N Q) n k st->Hs S.an S.E w0 X0 Bo S.N Q k st
 | 0,k,st,h=>h
 | n+1,[],st,h=>fun _ ρ a w j=>(g st ρ a w h j).2
 | n+1,.fa id::k,st,h=>by
  intro f ρ a w j;rw[DP];exact iH p i g n k st h f ρ a w j
 | n+1,.mark R::k,st,h=>h
 | n+1,.code c::k,st,h=>by
  cases c with
  | skip =>
   intro f ρ a w j
   simp only[mT,uA,T_]at f
   exact Wb (iH p i g n k st h f ρ a w j)
  | seq x y =>
   intro f ρ a w j
   simp only[mT,uA,QK]at f
   have:=iH p i g n (.code x::.code y::k) st h (by simp[mT,f]) ρ a w j
   refine SM ?_
   rw[<-KU]
   exact this
  | region id l z =>
   simp only[run]at h
   split at h
   ·exact h
   ·split at h
    ·rename_i st' ps e;have h:=xM h;intro f ρ a w j;simp only[mT,uA,QK,RE]at f;obtain⟨⟨C,jM⟩,D⟩:=f;have s:∀ o∈l.toList,gW S.N o=true:=fun o K=>Rs.1 C o K;have u:=rE i (cs:=rFz S.fz id) j;have q:∀ ρ' G w',Fr w0 X0 Bo S.N st' ρ' G w'->me S.E.P Q k .normal G w':=fun ρ' G w' u=>iH p i g n k st' h.2 D ρ' G w' u;show(Code.region id l z).wp S.E.P (me S.E.P Q k) a w;cases z with
     | false =>
      refine Re ?_
      have:=Af (ops:=l.toList.toArray) p i (n_ l.toList) u e h.1 s q
      simpa using this
     | true =>
      have jM:=jM.resolve_left (by simp)
      dsimp only[KP]at e
      split at e
      ·rename_i J A;rw[A]at jM;split at e
       ·cases e
       rename_i L;have jM:(Co J||J9 (Ir S.an id) S.N l.toList J)=true:=jM;rw[L,UM]at jM;have:=aa0 (id:=id) p i jM u e h.1 s q;simpa using this
      ·rename_i A;rw[A]at jM;have:=LQ (id:=id) p i jM u e h.1 s q;simpa using this
    ·exact h
  | cond c x y =>
   simp only[run]at h
   split at h
   ·rename_i v e;split at h
    ·split at h
     ·intro f ρ a w j;simp only[mT,uA,QK]at f;have B:m ρ (XX X0 ρ st.ck) w _ [a.eval c]:=wZ j f.1.1.1 e;exact wp_cond_true (QB B).1 (iH p i g n (.code x::k) st h (by simp[mT,f]) ρ a w j)
     ·intro f ρ a w j;simp only[mT,uA,QK]at f;have B:m ρ (XX X0 ρ st.ck) w _ [a.eval c]:=wZ j f.1.1.1 e;exact wp_cond_false (QB B).1 (iH p i g n (.code y::k) st h (by simp[mT,f]) ρ a w j)
    ·split at h
     ·rename_i b M;intro f ρ a w j;simp only[mT,uA,QK]at f;have B:=wZ j f.1.1.1 e;have H:m ρ (XX X0 ρ st.ck) w (.a_ .bool b) [a.eval c]:=fp M (fun t d=>m ρ (XX X0 ρ st.ck) w (.a_ t d) [a.eval c]) B;exact Ux (mG H) (fun F=>iH p i g n (.code x::k) st (h.1 F) (by simp[mT,f]) ρ a w j) (fun F=>iH p i g n (.code y::k) st (h.2 F) (by simp[mT,f]) ρ a w j)
     ·exact h
    ·intro f ρ a w j;simp only[mT,uA,QK]at f;obtain⟨b,B,F⟩:=wZ j f.1.1.1 e;exact Ux (QB B).1 (fun I=>iH p i g n (.code x::k) st (h.1 (F I)) (by simp[mT,f]) ρ a w j) (fun _=>iH p i g n (.code y::k) st h.2 (by simp[mT,f]) ρ a w j)
    ·exact h
   ·exact h
  | block id c =>
   intro f ρ a w j
   simp only[mT,uA,QK]at f
   have:=iH p i g n (.code c::.fa id::k) st h (by simp[mT,f]) ρ a w j
   refine UG ?_
   rw[<-DP]
   exact this
  | exit id =>
   simp only[run]at h
   split at h
   ·rename_i O e;intro f ρ a w j;simp only[mT,uA,T_]at f;exact Wy (sM e (iH p i g n O st h (sK e f) ρ a w j))
   ·exact h.elim
  | ret=>exact fun _ ρ a w j=>W2 (sN (g st ρ a w h j).1)
  | loop c=>exact h
  | rangeFunc _ _ _ _=>exact h
  | scope _=>exact h
  | label _=>exact h
  | goto _=>exact h
  | refuse _=>exact h
where wZ {S:Sx}{w0:World}{X0:Nat->Prop}{Bo:List Value}{st:St}{ρ:List Value}{a:Act}{w:World}{c:Operand}{v:AV} (hf:Fr w0 X0 Bo S.N st ρ a w) (ho:Pv c=true) (h:lk st.sl c=some v):m ρ (XX X0 ρ st.ck) w v [a.eval c] :=
    abA hf.sl ho h
theorem ui{c:Code}{f:Type}(I:f->Act->World->Prop)(b:f->Nat)(g:f)(h0:I g a w)
    (round:∀ x a w,I x a w->c.wp P (Exit.then (fun a' w'=>∃ y,I y a' w'/\b y<b x) Q) a w):(Code.loop c).wp P Q a w:=by
 refine wp_loop_rounds (b g+1) ?_;have key:∀ n x a w,b x<n->I x a w->Code.rounds P c Q n a w:=by
  intro n
  induction n with
  | zero=>intro x a w h; omega
  | succ n i =>
   intro x a w l j
   refine Code.wp_mono (fun e a w q=>?_) (round x a w j)
   cases e with
   | normal=>obtain⟨y,k,m⟩:=q; exact i y a w (by omega) k
   | _=>exact q
 exact key _ g a w (by omega) h0
structure zK(S:Sx)(H:List It->St->Prop):Prop where
 run:∀ n k st,run S H n k st->H k st
 go:∀ l n k st,Gx.run { S with stop:=l } H n k st->H k st
 loop:∀{c:Code}{k:List It}{st:St}{α:Type} (inv:α->St) (I:α->Prop) (μ:α->Nat) (x0:α) (n:Nat),I x0->leS S.nb st (inv x0) n ->
  (∀ x,I x->∀ R:Act->World->Prop,(∀ st' y n',I y->μ y<μ x->leS S.nb st' (inv y) n'->H (.mark R::k) st')->H (.code c::.mark R::k) (inv x))->H (.code (.loop c)::k) st
 mR:∀{k:List It}{st:St} (st':St) (n:Nat),leS S.nb st st' n->H k st'->H k st
 Gi:∀{k:List It}{st:St} (mp:List (Nat×Nat)) (nx:Nat),OG nx mp=true->oK st.ck mp S.nb=true->S.nb<=nx->nH (spR mp)=true->H k ⟨EZ mp st.sl,uD mp nx st.ck (spR mp),nx⟩->H k st
 ab4:∀{k:List It}{st:St} (c:Nat) {st':St},ubg st c=some st'->H k st'->H k st
 raw:∀{k:List It}{st:St},(∀(w0:World) (X0:Nat->Prop) (Bo:List Value) (Q:Exit->Act->World->Prop),S.nb=Bo.length->S.E.Ok->(∀ b,X0 b->b<w0.heap.size) ->
  (∀ st ρ a w,ku S st->Fr w0 X0 Bo S.N st ρ a w->Q .ret a w/\Q .normal a w)->∀ ρ a w,Fr w0 X0 Bo S.N st ρ a w->me S.E.P Q k .normal a w)->H k st
 cut:∀{c:Code}{k:List It}{st:St}{α:Type} (inv:α->St) (I:α->Prop),
  (∀ R:Act->World->Prop,(∀ st' y n',I y->leS S.nb st' (inv y) n'->H (.mark R::k) st')->H (.code c::.mark R::k) st)->(∀ y,I y->H k (inv y))->H (.code c::k) st
theorem Cg{S:Sx}(hnb:S.nb=Bo.length)(hE:S.E.Ok)(hX0:∀ b,X0 b->b<w0.heap.size)(hfin:∀ st ρ a w,ku S st->Fr w0 X0 Bo S.N st ρ a w->Q .ret a w/\Q .normal a w):zK S (Hs S.an S.E w0 X0 Bo S.N Q) where
 run:=iH hE hX0 hfin
 go:=fun l=>iH (S:={ S with stop:=l }) hE hX0 hfin
 raw:=fun h _=>h _ _ _ _ hnb hE hX0 hfin
 ab4:=fun c st' he h hok ρ a w hf=>h hok ρ a w (aag hf hX0 he)
 mR:=by
  intro k st st' n hle h hok ρ a w hf;obtain⟨ρ0,hf0⟩:=tw hf hX0 (by rw[<-hnb]; exact hle);exact h hok ρ0 a w hf0
 Gi:=by
  intro k st mp nx h1 h2 h3 h4 h hok ρ a w hf;obtain⟨ρ0,hf0⟩:=hf.acH hX0 h1 (by rw[<-hnb]; exact h2) (by rw[<-hnb]; exact h3) h4;exact h hok ρ0 a w hf0
 loop:=by
  intro c k st α inv I μ x0 n h0 hle hb hok ρ a w hf;simp only[mT,uA,QK]at hok;obtain⟨ρ0,hf0⟩:=tw hf hX0 (by rw[<-hnb]; exact hle);refine ui (fun x a w=>I x/\∃ ρ,Fr w0 X0 Bo S.N (inv x) ρ a w) μ x0 ⟨h0,ρ0,hf0⟩ ?_;rintro x a w ⟨hx,ρ,hf⟩;have:=hb x hx (fun a' w'=>∃ y,(I y/\∃ ρ,Fr w0 X0 Bo S.N (inv y) ρ a' w')/\μ y<μ x) (fun st' y n' hy hμ hle'=>fun _ ρ' a' w' hf'=>by
   obtain⟨ρ2,hf2⟩:=tw hf' hX0 (by rw[<-hnb]; exact hle');exact⟨y,⟨hy,ρ2,hf2⟩,hμ⟩) (by simp[mT,hok]) ρ a w hf
  rw[<-zo];exact this
 cut:=by
  intro c k st α inv I h1 h2 hok ρ a w hf;simp only[mT,QK]at hok;have:=h1 (fun a' w'=>∃ y,I y/\∃ ρ,Fr w0 X0 Bo S.N (inv y) ρ a' w') (fun st' y n' hy hle'=>fun _ ρ' a' w' hf'=>by
   obtain⟨ρ2,hf2⟩:=tw hf' hX0 (by rw[<-hnb]; exact hle');exact⟨y,hy,ρ2,hf2⟩) (by simp[mT,hok]) ρ a w hf
  show c.wp S.E.P (me S.E.P Q k) a w;have this:c.wp S.E.P (me S.E.P Q (.mark _::k)) a w:=this;refine Code.wp_mono (fun e a w q=>?_) this;cases e with
  | normal=>obtain⟨y,hy,ρ2,hf2⟩:=q; exact h2 y hy hok.2 ρ2 a w hf2
  | _=>exact q
theorem Er{ck:List (Nat×CT)}{e:TE}{x r:AV}{ps:List Prop}{X:Nat->Prop}{u:Value}(h:vW ck e x=some (r,ps))(j:m ρ X w x [u]):∃ l,u=.pointer (some l):=by
 cases x with
 | rT t b =>
  obtain⟨b,off,C,T,f,g,_⟩:=j
  exact⟨_,(QB g).1⟩
 | ref c o =>
  obtain⟨v,b,_,_,g⟩:=j
  exact⟨_,(QB g).1⟩
 | ix c i s =>
  obtain⟨v,b,_,_,g⟩:=j
  exact⟨_,(QB g).1⟩
 | rH d k i s =>
  obtain⟨n,v,b,_,_,_,g⟩:=j
  exact⟨_,(QB g).1⟩
 | _=>cases h
def tX(tmps:Array Value):ResultVar->Sem Value
 | .tmp t=>pure (tmps.getD t undef)
 | .cell p t=>do loadVar t (<-asAddr (tmps.getD p undef))
theorem xL(k:E.Ok)(c:∀ b,X0 b->b<w0.heap.size)(f:Fr w0 X0 Bo N st ρ a w):∀{l:List ResultVar}{r:AV},yu E st l=some r ->
    ∃ vs:List Value,(l.mapM (tX a.tmps)).run E.P w=.ok vs w/\m ρ (XX X0 ρ st.ck) w r vs/\kl r=true
 | [],r,h=>by cases h; exact⟨[],rfl,rfl,rfl⟩
 | .tmp t::l,r,h=>by
  simp only[yu]at h;split at h
  ·rename_i x C j n;cases h;obtain⟨vs,o,q,s⟩:=xL k c f n;refine⟨gt a t::vs,?_,⟨_,_,rfl,f.sl t x j,q⟩,s⟩;rw[List.mapM_cons];simp only[Rf,S9,Sh,o,tX];rfl
  ·cases h
 | .cell p T::l,r,h=>by
  simp only[yu]at h;split at h
  ·rename_i x e j n;split at h
   ·rename_i y C v D;cases h;obtain⟨vs,o,q,s⟩:=xL k c f D;obtain⟨z,A,F⟩:=yJ k (f.wd c) n v trivial (f.sl p x j);obtain⟨B,g⟩:=Er v (f.sl p x j);have u:(loadVar T B).run E.P w=.ok z w:=by
     rw[g]at A;simpa [Instr.loadAt,Instr.sureAddr]using A
    refine⟨z::vs,?_,⟨_,_,rfl,F,q⟩,s⟩;rw[List.mapM_cons];have i:a.tmps.getD p undef=.pointer (some B):=g;simp only[Rf,tX,i,asAddr,S9,Sh,u,o]
   ·cases h
  ·cases h
theorem DW{res:List ResultVar}(s:E.Ok)(k:∀ b,X0 b->b<w0.heap.size){fn:Func}(f:fn.results.toList=res)(t:Fr w0 X0 Bo N st ρ a w){r:AV}(e:yu E st res=some r) :
    ∃ v,(results fn a.tmps).run E.P w=.ok v w/\m ρ (XX X0 ρ st.ck) w (uO r) [v]:=by
 obtain⟨c,u,i,p⟩:=xL s k t e;have g:(results fn a.tmps).run E.P w=.ok (if h:c.length=1 then c[0]else .tuple c.toArray) w:=by
  have z:(fn.results.mapM (tX a.tmps)).run E.P w=.ok c.toArray w:=by
   rw[U9,f];simp[u]
  have n:results fn a.tmps=(do let c <-fn.results.mapM (tX a.tmps); pure (if h:c.size=1 then c[0]else .tuple c)):=by
   unfold results;congr 1
  rw[n,Rf,z];simp
 refine⟨_,g,?_⟩;cases r with
 | nil =>
  have i:c=[]:=i
  subst i
  exact⟨[],rfl,rfl⟩
 | cons x l =>
  obtain⟨v,A,rfl,q,j⟩:=i
  cases l with
  | nil =>
   have j:A=[]:=j
   subst j
   exact q
  | cons y F =>
   obtain⟨B,o,rfl,C,D⟩:=j
   simp only[Rr]
   rw[dif_neg (by omega)]
   exact⟨_,rfl,v,_,rfl,q,B,o,rfl,C,D⟩
  | _=>cases p
 | _=>cases p
theorem I9{S:Sx}(j:S.om=none)(y:S.E.Ok)(f:∀ b,X0 b->b<w0.heap.size){fn:Func}(g:fn.results.toList=S.res)(z:OR S.out=true)(i:Fr w0 X0 Bo S.N st ρ a w)(h:ku S st) :
    a.defers=[]/\∃ v,(results fn a.tmps).run S.E.P w=.ok v w/\m [] X0 w S.out [v]/\Kept Bo w0 w:=by
 refine⟨i.dn,?_⟩;unfold ku at h;split at h
 ·rename_i r e;rw[j]at h;obtain⟨v,s,t⟩:=DW y f g i e;have u:=i.wd f;have k:Wd 0 ρ (XX X0 ρ st.ck) (minus st.ck []) w:=⟨u.lt,fun x l=>u.cs x (gJ l).1⟩;have o:∀ x∈minus st.ck [],∀ b,fk ρ x.1 b->¬X0 b:=fun x l b p A=>jJ i f (gJ l).1 p A;have q:=IL (cf:=[]) (Y:=X0) (ρ':=[]) (n:=0) (n':=0) k (fun b p=>.inl p) o (fun c v B=>by omega) (fun c s t=>by omega) S.out;exact⟨v,s,q.1 z (uO r) _ h t,i.kp⟩
 ·exact h.elim
theorem Ns{S:Sx}{ck:List (Nat×CT)}{nx:Nat}(n:S.om=some (ck,nx))(g:S.nb=Bo.length)(z:S.E.Ok)(i:∀ b,X0 b->b<w0.heap.size){fn:Func}(k:fn.results.toList=S.res)(o:Fr w0 X0 Bo S.N st ρ a w)(h:ku S st) :
    a.defers=[]/\∃ v ρ',(results fn a.tmps).run S.E.P w=.ok v w/\Fr w0 X0 Bo 0 ⟨[],ck,nx⟩ ρ' gu w/\m ρ' (XX X0 ρ' ck) w S.out [v]:=by
 refine⟨o.dn,?_⟩;unfold ku at h;split at h
 ·rename_i r e;rw[n]at h;obtain⟨v,A,B⟩:=DW z i k o e;obtain⟨⟨C,D⟩,l⟩:=h;obtain⟨⟨p,_⟩,_,q,_⟩:=id l;obtain⟨s,c,u⟩:=o.Gi i C (by rw[<-g]; exact D) (by rw[<-g]; exact p) q;have y:Fr w0 X0 Bo 1 ⟨[(0,qa (Ji st.ck ck (uF (uO r) S.out (idM ck S.nb))) nx (vE (Ji st.ck ck (uF (uO r) S.out (idM ck S.nb))) (uO r)) S.out)],uD (Ji st.ck ck (uF (uO r) S.out (idM ck S.nb))) nx st.ck ck,nx⟩ s { tmps:=#[v],defers:=[] } w:=by
   refine⟨rfl,rfl,c.kp,c.nx,c.nd,c.kn,c.bl,c.dj,c.cs,fun t x j=>?_,c.pn⟩;simp only[get?]at j;split at j
   ·rename_i e;have e:=fO e;subst e;cases j;exact u B
   ·cases j
  obtain⟨ρ',f⟩:=tw y i (by rw[<-g]; exact l);exact⟨v,ρ',A,⟨rfl,rfl,f.kp,f.nx,f.nd,f.kn,f.bl,f.dj,f.cs,(fun t x j=>by cases j),f.pn⟩,f.sl 0 S.out rfl⟩
 ·exact h.elim
@[go_sem] def tZ:(l:List Ty)->jf l->Nat->List (Nat×AV)
 | [],_,_=>[]
 | t::l,d,n=>(n,.a_ t d.1)::tZ l d.2 (n+1)
theorem vS{X:Nat->Prop}:∀{l:List Ty}{d:jf l}{vs:List Value}{n:Nat},m ρ X w (nz l d) vs->vs.length=l.length/\∀ t x,get? (tZ l d n) t=some x->n<=t/\∃ v,vs[t-n]?=some v/\m [] X w x [v]
 | [],d,vs,n,h=>by
  have h:vs=[]:=h;subst h;exact⟨rfl,fun t x h=>by cases h⟩
 | ty::l,d,vs,n,h=>by
  obtain⟨v,p,rfl,c,f⟩:=h;obtain⟨g,i⟩:=vS (n:=n+1) f;refine⟨by simp[g],fun t x b=>?_⟩;simp only[tZ,get?]at b;split at b
  ·rename_i e;have e:=fO e;subst e;cases b;exact⟨Qu _,v,by simp,c⟩
  ·obtain⟨q,j,k,o⟩:=i t x b;refine⟨by omega,j,?_,o⟩;rw[show t-n=(t-(n+1))+1 by omega];simpa using k
theorem e_ {P:Program}{f:FuncId}{fn:Func} (e:P.funcs[f]?=some fn) (g:fn.body.isSome=true) (h:(fn.name == "runtime.NumGoroutine")=false) (args:Array Value) (w:World):(callFunc f args).run P w=.ok (.enter f args) w:=by
 obtain⟨c,i⟩:=Wx.1 g;have b:fn.name ≠ "runtime.NumGoroutine" := by simpa using h
 simp[callFunc,e,b,i,Rf]
@[go_sem] def q_:(t:Ty)->t.den->Prop
 | .bool,_=>True
 | .int k,n=>gG k n
 | .str,s=>s.length<=9223372036854775807
 | .slice t,l=>l.length<=9223372036854775807/\∀ x∈l,q_ t x
 | .pair t u,p=>q_ t p.1/\q_ u p.2
 | .one t,a=>q_ t a
 | .fn,_=>True
@[go_sem] def wfs:(l:List Ty)->jf l->Prop
 | [],_=>True
 | t::l,d=>q_ t d.1/\wfs l d.2
theorem jB:∀{t:Ty}{X:Nat->Prop}{w:World}{cs:List Value}{a:t.den},rep t X w cs a->q_ t a
 | .bool,_,_,_,_,h=>trivial
 | .int k,_,_,_,_,h=>h.2
 | .str,_,_,_,_,h=>by have:=h.2; simp only[maxLen]at this; exact this
 | .slice t,X,w,cs,l,⟨n,cap,o,p,j,q,m⟩=>by
  simp only[maxLen]at j;refine⟨by omega,fun x c=>?_⟩;obtain⟨i,hi⟩:=RR.1 c;obtain⟨b,off,C,T,f,_,_,_,g⟩:=m (by intro e; rw[e]at c; cases c);exact jB (g i x hi)
 | .pair t u,_,_,_,_,h=>⟨jB h.1,jB h.2⟩
 | .one t,_,_,_,_,h=>jB (t:=t) h
 | .fn,_,_,_,_,h=>trivial
theorem DD{X:Nat->Prop}:∀{l:List Ty}{d:jf l}{vs:List Value},m ρ X w (nz l d) vs->wfs l d
 | [],_,_,_=>trivial
 | t::l,d,vs,⟨v,e,_,⟨f,b,_⟩,c⟩=>⟨jB b,DD c⟩
theorem eT {E:Env} (A:E.Ok) {f:FuncId}{fn:Func}{c:Code} (s:Spec) (u:E.P.funcs[f]?=some fn) (l:fn.body=some c) (L:(fn.name == "runtime.NumGoroutine")=false) {N:Nat} (M:fn.ntmps=N) {res:List ResultVar} (o:fn.results.toList=res)
    (I:s.zR.length<=N) (an:List (Nat×List (Nat×An))) (fz:List (Nat×List Nat)) (stop:List Nat) (n:Nat) (C:uA an N c=true)
    (h:∀ d,wfs s.zR d->eP (s.F d).2->OR (s.F d).1=true/\∀ H,zK ⟨E,N,an,fz,stop,res,(s.F d).1,0,none⟩ H->run ⟨E,N,an,fz,stop,res,(s.F d).1,0,none⟩ H n [.code c] ⟨tZ s.zR d 0,[],0⟩):c6 E.P f s:=by
 intro d O;refine⟨fun args w=>e_ u (by rw[l]; rfl) L args w,fun ρ X w p B J=>?_⟩;obtain⟨K,h⟩:=h d (DD J) O;obtain⟨R,T⟩:=vS (n:=0) J;refine UA u l ?_;have y:=iH (S:=⟨E,N,an,fz,stop,res,(s.F d).1,0,none⟩) (w0:=w) (X0:=X) (Bo:=[]) (Q:=bodyPost E.P fn (fun e w'=>∃ v,e=.returned v/\m ρ X w' (s.F d).1 [v]/\Below w.heap.size w w')) A B (fun st ρ' a w' i u=>by
  obtain⟨k,v,q,D,z⟩:=I9 (fn:=fn) rfl A B o K u i;have j:m ρ X w' (s.F d).1 [v]:=by have:=iI ρ D; simpa using this
  exact⟨⟨k,v,q,v,rfl,j,z.na⟩,⟨k,v,q,v,rfl,j,z.na⟩⟩) n [.code c] ⟨tZ s.zR d 0,[],0⟩
  (h _ (Cg (S:=⟨E,N,an,fz,stop,res,(s.F d).1,0,none⟩) rfl A B (fun st ρ' a w' i u=>by
   obtain⟨k,v,q,D,z⟩:=I9 (fn:=fn) rfl A B o K u i;have j:m ρ X w' (s.F d).1 [v]:=by have:=iI ρ D; simpa using this
   exact⟨⟨k,v,q,v,rfl,j,z.na⟩,⟨k,v,q,v,rfl,j,z.na⟩⟩)))
 have G:(p.toArray++Array.replicate (fn.ntmps-p.toArray.size) undef).size=N:=by
  simp only[Tl,RQ,S2,M,R]; omega
 have:=y (by simp[mT,C]) [] { tmps:=p.toArray++Array.replicate (fn.ntmps-p.toArray.size) undef,defers:=[] } w ⟨rfl,G,Kept.refl w,rfl,TS,(fun x g=>by cases g),(fun x g=>by cases g),(fun x g=>by cases g),(fun x g=>by cases g),(fun t x g=>by
  obtain⟨_,v,k,q⟩:=T t x g;have U:gt { tmps:=p.toArray++Array.replicate (fn.ntmps-p.toArray.size) undef,defers:=[] } t=v:=by
   have V:t<p.length:=by
    rcases QA t p.length with h|h
    ·exact h
    ·rw[UT,QD h]at k; cases k
   unfold gt;rw[Sa,U6 (by simpa using V)];simp only[UT]at k;simp[k]
  rw[U];exact fN (fun b l=>by
   rcases l with l|⟨x,g,_⟩
   ·exact .inl l
   ·cases g) q),⟨fun b l=>(mc l).elim,Qu _,fun x g=>by cases g⟩⟩
 exact this
theorem nN:∀{t:Ty}{a:t.den}{tl:AV}{vs:List Value}{X:Nat->Prop},m ρ X w (dA t a tl) vs->∃ cs us,vs=cs++us/\rep t X w cs a/\m ρ X w tl us
 | .bool,a,tl,vs,X,⟨v,us,e,b,c⟩=>⟨[v],us,e,gA rfl b,c⟩
 | .int k,a,tl,vs,X,⟨v,us,e,b,c⟩=>⟨[v],us,e,gA rfl b,c⟩
 | .str,a,tl,vs,X,⟨v,us,e,b,c⟩=>⟨[v],us,e,gA rfl b,c⟩
 | .slice t,a,tl,vs,X,⟨v,us,e,b,c⟩=>⟨[v],us,e,gA rfl b,c⟩
 | .pair t u,a,tl,vs,X,h=>by
  obtain⟨cs,us,rfl,b,c⟩:=nN (t:=t) h;obtain⟨f,g,rfl,i,j⟩:=nN (t:=u) c;refine⟨cs++f,g,by rw[QP],⟨?_,?_⟩,j⟩
  ·rw[<-eR b,Uh]; exact b
  ·rw[<-eR b,List.drop_left]; exact i
 | .one t,a,tl,vs,X,h=>nN (t:=t) h
 | .fn,a,tl,vs,X,⟨v,us,e,b,c⟩=>⟨[v],us,e,gA rfl b,c⟩
@[go_sem] def jI:(l:List PK)->jf (oO l)->Nat->Nat->Nat->List (Nat×AV)
 | [],_,_,_,_=>[]
 | .d t::l,d,n,k,r=>(n,.a_ t d.1)::jI l d.2 (n+1) k r
 | .b _ _::l,d,n,k,r=>(n,.ref k 0)::jI l d.2 (n+1) (k+1) r
 | .br _ _ _::l,d,n,k,r=>(n,.ref k 0)::jI l d.2 (n+1) (k+1) (r+1)
 | .bf _ _::l,d,n,k,r=>(n,.ref k 0)::jI l d (n+1) (k+1) r
 | .c f _ _::l,d,n,k,r=>(n,.kL f (.cons (.ref k 0) .nil))::jI l d.2 (n+1) (k+1) r
 | .k f::l,d,n,k,r=>(n,.kL f .nil)::jI l d (n+1) k r
 | .r _ _::l,d,n,k,r=>(n,.own r)::jI l d.2 (n+1) k (r+1)
 | .n::l,d,n,k,r=>(n,.val (.slice none 0 0))::jI l d (n+1) k r
@[go_sem] def wE(l:List PK)(d:jf (oO l))(n k:Nat):List (Nat×AV):=jI l d n k (rh k (np l))
theorem gT{X:Nat->Prop}{x:AV}{r:List (Nat×AV)}{v:Value}{us:List Value}{n:Nat}(h1:m ρ X w x [v])(h:∀ t x,get? r t=some x->n+1<=t/\∃ v,us[t-(n+1)]?=some v/\m ρ X w x [v]) :
    ∀ t y,get? ((n,x)::r) t=some y->n<=t/\∃ v',(v::us)[t-n]?=some v'/\m ρ X w y [v']:=by
 intro t y b;simp only[get?]at b;split at b
 ·rename_i e;have e:=fO e;subst e;cases b;exact⟨Qu _,v,by simp,h1⟩
 ·obtain⟨g,v',c,f⟩:=h t y b;refine⟨by omega,v',?_,f⟩;rw[show t-n=(t-(n+1))+1 by omega];simpa using c
theorem gU{X:Nat->Prop}:∀{l:List PK}{d:jf (oO l)}{vs:List Value}{n k r:Nat},m ρ X w (jr l d k r) vs->vs.length=l.length/\∀ t x,get? (jI l d n k r) t=some x->n<=t/\∃ v,vs[t-n]?=some v/\m ρ X w x [v]
 | [],d,vs,n,k,r,h=>by
  have h:vs=[]:=h;subst h;exact⟨rfl,fun t x h=>by cases h⟩
 | .d ty::l,d,vs,n,k,r,h=>by
  obtain⟨v,o,rfl,e,g⟩:=h;obtain⟨i,j⟩:=gU (n:=n+1) g;exact⟨by simp[i],gT e j⟩
 | .b T ty::l,d,vs,n,k,r,h=>by
  obtain⟨v,o,rfl,e,g⟩:=h;obtain⟨i,j⟩:=gU (n:=n+1) g;exact⟨by simp[i],gT e j⟩
 | .br T p ty::l,d,vs,n,k,r,h=>by
  obtain⟨v,o,rfl,e,g⟩:=h;obtain⟨i,j⟩:=gU (n:=n+1) g;exact⟨by simp[i],gT e j⟩
 | .bf T f::l,d,vs,n,k,r,h=>by
  obtain⟨v,o,rfl,e,g⟩:=h;obtain⟨i,j⟩:=gU (n:=n+1) g;exact⟨by simp[i],gT e j⟩
 | .c f T ty::l,d,vs,n,k,r,h=>by
  obtain⟨v,o,rfl,e,g⟩:=h;obtain⟨i,j⟩:=gU (n:=n+1) g;exact⟨by simp[i],gT e j⟩
 | .k f::l,d,vs,n,k,r,h=>by
  obtain⟨v,o,rfl,e,g⟩:=h;obtain⟨i,j⟩:=gU (n:=n+1) g;exact⟨by simp[i],gT e j⟩
 | .r p ty::l,d,vs,n,k,r,h=>by
  obtain⟨v,o,rfl,e,g⟩:=h;obtain⟨i,j⟩:=gU (n:=n+1) g;exact⟨by simp[i],gT e j⟩
 | .n::l,d,vs,n,k,r,h=>by
  obtain⟨v,o,rfl,e,g⟩:=h;obtain⟨i,j⟩:=gU (n:=n+1) g;exact⟨by simp[i],gT e j⟩
theorem Bl{X:Nat->Prop}{l:List PK}{d:jf (oO l)}{vs:List Value}{n k:Nat}(h:m ρ X w (tm l d k) vs):vs.length=l.length/\∀ t x,get? (wE l d n k) t=some x->n<=t/\∃ v,vs[t-n]?=some v/\m ρ X w x [v]:=gU h
theorem jm{X Y:Nat->Prop}:∀{l:List PK}{d:jf (oO l)}{vs:List Value}{k r:Nat},m ρ X w (jr l d k r) vs->(∀ x∈oF l d k r,cm 0 ρ Y w x.1 x.2)->wfs (oO l) d
 | [],_,_,_,_,_,_=>trivial
 | .d t::l,d,vs,k,r,⟨v,o,_,⟨q,D,_⟩,i⟩,e=>⟨jB D,jm i e⟩
 | .b T t::l,d,vs,k,r,⟨v,o,_,_,i⟩,e=>by
  obtain⟨_,b,q,_,_,g,_⟩:=e _ Qx;obtain⟨F,G,_,p,_⟩:=nN g;exact⟨jB p,jm i fun x j=>e x (Qs _ j)⟩
 | .br T s t::l,d,vs,k,r,⟨v,o,_,_,i⟩,e=>by
  obtain⟨v0,u,_,p,y,z⟩:=e _ (Qs _ Qx);have A:=xl (w:=w) (X:=Y) (Y:=fun _=>False) (B:=0) (T:=s) (t:=t) (ρ:=ρ) (l:=d.1) (v:=v0) ⟨u,p,y,z⟩ (fun b h=>h.elim) (fun b _ h=>h);obtain⟨q,C,_⟩:=A;exact⟨jB C,jm i fun x j=>e x (Qs _ (Qs _ j))⟩
 | .bf T f::l,d,vs,k,r,⟨v,o,_,_,i⟩,e=>jm (l:=l) i fun x j=>e x (Qs _ j)
 | .c f T t::l,d,vs,k,r,⟨v,o,_,_,i⟩,e=>by
  obtain⟨_,b,q,_,_,g,_⟩:=e _ Qx;obtain⟨F,G,_,p,_⟩:=nN g;exact⟨jB p,jm i fun x j=>e x (Qs _ j)⟩
 | .k f::l,d,vs,k,r,⟨v,o,_,_,i⟩,e=>jm (l:=l) i e
 | .n::l,d,vs,k,r,⟨v,o,_,_,i⟩,e=>jm (l:=l) i e
 | .r s t::l,d,vs,k,r,⟨v,o,_,_,i⟩,e=>by
  obtain⟨v0,u,_,p,y,z⟩:=e _ Qx;have A:=xl (w:=w) (X:=Y) (Y:=fun _=>False) (B:=0) (T:=s) (t:=t) (ρ:=ρ) (l:=d.1) (v:=v0) ⟨u,p,y,z⟩ (fun b h=>h.elim) (fun b _ h=>h);obtain⟨q,C,_⟩:=A;exact⟨jB C,jm i fun x j=>e x (Qs _ j)⟩
theorem Jj{X Y:Nat->Prop}{l:List PK}{d:jf (oO l)}{vs:List Value}{k:Nat}(h:m ρ X w (tm l d k) vs)(b:∀ x∈o7 l d k,cm 0 ρ Y w x.1 x.2):wfs (oO l) d:=jm h b
attribute [go_sem] o7 oF x_ np uy
theorem nD {E:Env} (u:E.Ok) {f:FuncId}{fn:Func}{c:Code} (s:iP) (C:E.P.funcs[f]?=some fn) (D:fn.body=some c) (L:(fn.name == "runtime.NumGoroutine")=false) {N:Nat} (M:fn.ntmps=N) {res:List ResultVar} (l:fn.results.toList=res)
    (G:s.ko.length<=N) (an:List (Nat×List (Nat×An))) (fz:List (Nat×List Nat)) (stop:List Nat) (n:Nat) (y:uA an N c=true)
    (h:∀ d,wfs (oO s.ko) d->eP (s.F d).pre->∀ H,zK ⟨E,N,an,fz,stop,res,(s.F d).out,x_ s.ko,some ((s.F d).ck,(s.F d).nx)⟩ H->run ⟨E,N,an,fz,stop,res,(s.F d).out,x_ s.ko,some ((s.F d).ck,(s.F d).nx)⟩ H n [.code c] ⟨wE s.ko d 0 0,o7 s.ko d 0,x_ s.ko⟩):gK E.P f s:=by
 intro d O;refine⟨fun args w=>e_ C (by rw[D]; rfl) L args w,fun i X w j z b I=>?_⟩;have h:=h d (Jj I b.cs) O;obtain⟨R,T⟩:=Bl (n:=0) I;have o:x_ s.ko=i.length:=b.nx.symm;refine UA C D ?_;have g:∀ st ρ' a w',ku ⟨E,N,an,fz,stop,res,(s.F d).out,x_ s.ko,some ((s.F d).ck,(s.F d).nx)⟩ st->Fr w X i N st ρ' a w' ->
     bodyPost E.P fn (fun e w'=>∃ v ρ',e=.returned v/\Fr w X i 0 ⟨[],(s.F d).ck,(s.F d).nx⟩ ρ' gu w'/\m ρ' (XX X ρ' (s.F d).ck) w' (s.F d).out [v]) .ret a w' /\
     bodyPost E.P fn (fun e w'=>∃ v ρ',e=.returned v/\Fr w X i 0 ⟨[],(s.F d).ck,(s.F d).nx⟩ ρ' gu w'/\m ρ' (XX X ρ' (s.F d).ck) w' (s.F d).out [v]) .normal a w':=by
  intro st ρ' a w' g A;obtain⟨k,v,ρ2,q,J,K⟩:=Ns (S:=⟨E,N,an,fz,stop,res,(s.F d).out,x_ s.ko,some ((s.F d).ck,(s.F d).nx)⟩) (fn:=fn) rfl o u z l A g;exact⟨⟨k,v,q,v,ρ2,rfl,J,K⟩,⟨k,v,q,v,ρ2,rfl,J,K⟩⟩
 have p:=iH (S:=⟨E,N,an,fz,stop,res,(s.F d).out,x_ s.ko,some ((s.F d).ck,(s.F d).nx)⟩) (w0:=w) (X0:=X) (Bo:=i) u z g n [.code c] ⟨wE s.ko d 0 0,o7 s.ko d 0,x_ s.ko⟩
  (h _ (Cg (S:=⟨E,N,an,fz,stop,res,(s.F d).out,x_ s.ko,some ((s.F d).ck,(s.F d).nx)⟩) o u z g))
 have B:(j.toArray++Array.replicate (fn.ntmps-j.toArray.size) undef).size=N:=by
  simp only[Tl,RQ,S2,M,R]; omega
 exact p (by simp[mT,y]) i { tmps:=j.toArray++Array.replicate (fn.ntmps-j.toArray.size) undef,defers:=[] } w ⟨rfl,B,b.kp,b.nx,b.nd,b.kn,b.bl,b.dj,b.cs,(fun t x U=>by
  obtain⟨_,v,k,q⟩:=T t x U;have V:gt { tmps:=j.toArray++Array.replicate (fn.ntmps-j.toArray.size) undef,defers:=[] } t=v:=by
   have W:t<j.length:=by
    rcases QA t j.length with h|h
    ·exact h
    ·rw[UT,QD h]at k; cases k
   unfold gt;rw[Sa,U6 (by simpa using W)];simp only[UT]at k;simp[k]
  rw[V];exact q),b.pn⟩
end
section
variable{E:Env}{w0 w1 w2:World}{X0 X1:Nat->Prop}{Bo:List Value}{N:Nat}{st st':St}{ρ:List Value}{a:Act}{w w':World}{Q:Exit->Act->World->Prop}{P:Program}{ps:List Prop}
theorem F4(p:E.Ok)(i:∀ b,X0 b->b<w0.heap.size){ops:Array Oper}{ds:List (Option Nat)}(j:∀ g:Nat,ju ds g=(ops[g]?).map Oper.dst){ann:List (Nat×An)}{r:List Oper} :
    ∀{l:List Oper}{st st':St}{ρ:List Value}{a:Act}{w:World}{c ps:List Prop},Fr w0 X0 Bo N st ρ a w->gP E ann ds l st c=some (st',ps)->eP ps->(∀ o∈l,gW N o=true) ->
     (∀ ρ' a' w',Fr w0 X0 Bo N st' ρ' a' w'->wpList E.P ops Q r a' w')->wpList E.P ops Q (l++r) a w
 | [],st,st',ρ,a,w,c,ps,h,d,m,f,n=>by cases d; exact n _ _ _ h
 | o::l,st,st',ρ,a,w,c,ps,h,d,m,f,n=>by
  simp only[gP]at d;split at d
  ·rename_i q qs e;obtain⟨k,hk⟩:=kD d;have s:eP qs:=by rw[hk]at m; exact m.app.1.app.2
   refine Xa fun K t=>?_;exact xu p h i j (f o Qx) e s fun ρ' a' w' u=>t _ _ (F4 p i j u d m (fun o v=>f o (Qs _ v)) n)
  ·cases d
theorem Ai(f:E.Ok)(c:∀ b,X0 b->b<w0.heap.size){id:Nat}{ops:Array Oper}{ann:List (Nat×An)}{pre post:List Oper}(i:ops.toList=pre++post)(h:Fr w0 X0 Bo N st ρ a w){k:List It}
    (j:gP E ann (hU ops.toList) pre st []=some (st',ps)) (l:eP ps) (d:pre.all (gW N)=true) (m:∀ ρ' a' w',Fr w0 X0 Bo N st' ρ' a' w'->wpList E.P ops (me E.P Q k) post a' w') :
    me E.P Q (.code (.region id ops false)::k) .normal a w:=by
 refine Re ?_;have e:∀ g:Nat,ju (hU ops.toList) g=(ops[g]?).map Oper.dst:=fun g=>by have:=n_ ops.toList g; simpa using this
 have:=F4 f c (ops:=ops) (r:=post) (Q:=me E.P Q k) e h j l (fun o n=>Rs.1 d o n) m;rwa [<-i]at this
theorem Fr.base(h:Fr w0 X0 Bo N st ρ a w)(j:∀ b,X0 b->b<w0.heap.size)(d:Below w.heap.size w w2)(m:∀ b,X1 b->X0 b∨w.heap.size<=b):Fr w2 X1 (yE ρ st.ck) N st ρ a w2:=by
 have g:∀ b,XX X1 ρ st.ck b->XX X0 ρ st.ck b∨w.heap.size<=b:=by
  rintro b (d|d)
  ·rcases m b d with f|f
   ·exact .inl (.inl f)
   ·exact .inr f
  ·exact .inl (.inr d)
 refine⟨h.dn,h.sz,Kept.refl w2,h.nx,h.nd,h.kn,fun x c b i=>⟨QI (h.bl x c b i).1 d.size,.inr (IZ c i)⟩,h.dj,fun x c=>?_,fun t x c=>?_,⟨fun b i=>?_,?_,fun x c T l e k=>(zm c).symm⟩⟩
 ·exact kq (h.cs x c) g (Ev.c8 d) fun b e=>d.block b (h.bl x c b e).1
 ·exact oT (Ev.c8 d) (fN g (h.sl t x c))
 ·obtain⟨x,c,e⟩:=qC i;have k:=h.bl x c b e;refine⟨QI k.1 d.size,fun o=>?_⟩;rcases m b o with f|f
  ·rcases k.2 with n|n
   ·exact absurd (j b f) (by omega)
   ·exact(h.pn.bo b n).2 f
  ·omega
 ·rw[pj]; exact SA h.nx
theorem Js{sl:List (Nat×AV)}(g:a.defers=[])(h:a.tmps.size=N)(e:∀ t x,get? sl t=some x->m [] X1 w x [gt a t]):Fr w X1 [] N ⟨sl,[],0⟩ [] a w:=by
 have f:∀ b,XX X1 [] [] b->X1 b:=by
  rintro b (d|⟨x,c,_⟩)
  ·exact d
  ·cases c
 refine⟨g,h,Kept.refl w,rfl,TS,(fun x c=>by cases c),(fun x c=>by cases c),(fun x c=>by cases c),(fun x c=>by cases c),fun t x c=>fN (fun b d=>.inl (f b d)) (e t x c),⟨fun b d=>(mc d).elim,QE _,fun x c=>by cases c⟩⟩
theorem qn{S:Sx}(d:S.nb=Bo.length)(f:S.E.Ok)(e:∀ b,X0 b->b<w0.heap.size)(c:∀ st ρ a w,ku S st->Fr w0 X0 Bo S.N st ρ a w->Q .ret a w/\Q .normal a w){k:List It}{st:St}
    (h:∀ H,zK S H->(∀ k st,(mT S.an S.N k=true->∀ ρ a w,Fr w0 X0 Bo S.N st ρ a w->me S.E.P Q k .normal a w)->H k st)->H k st):mT S.an S.N k=true->∀ ρ a w,Fr w0 X0 Bo S.N st ρ a w->me S.E.P Q k .normal a w :=
 h (Hs S.an S.E w0 X0 Bo S.N Q) (Cg d f e c) fun _ _ h=>h
theorem Fr.ack(h2:Fr w1 X1 Bo N st ρ a w)(hk:Kept [] w0 w1)(i:∀ k,qZ Bo k->w0.heap.size<=k)(j:∀ k,X0 k->X1 k):Fr w0 X0 [] N st ρ a w:=by
 have c:=h2.x0 j;have b:=h2.kp;refine⟨c.dn,c.sz,⟨b.os.trans hk.os,b.tape.trans hk.tape,b.output.trans hk.output,QL hk.size b.size,fun k d m=>?_⟩,c.nx,c.nd,c.kn,fun x g k f=>⟨(c.bl x g k f).1,.inl ?_⟩,c.dj,c.cs,c.sl,⟨fun k hk=>(mc hk).elim,QE _,fun x g T l e n=>absurd n (Q' _)⟩⟩
 ·rw[b.block k (QI d hk.size) fun f=>absurd (i k f) (by omega)];exact hk.block k d m
 ·rcases(c.bl x g k f).2 with h|h
  ·exact QL hk.size h
  ·exact i k h
theorem P4(h:Fr w1 X1 Bo N st ρ a w)(c:w0.heap.size<=w1.heap.size)(d:∀ k,qZ Bo k->w0.heap.size<=k):∀ k,qZ (yE ρ st.ck) k->w0.heap.size<=k:=by
 intro k hk;obtain⟨x,f,e⟩:=qC hk;rcases(h.bl x f k e).2 with b|b
 ·exact QL c b
 ·exact d k b
end
section
variable{E:Env}{w0 w u:World}{X X0 X1:Nat->Prop}{Bo:List Value}{N:Nat}{st st':St}{ρ:List Value}{a:Act}{w':World}{Q:Exit->Act->World->Prop}{P:Program}{T:TypeId}{t:Ty}{v:Value}{l:List t.den}{ck:List (Nat×CT)}{sl:List (Nat×AV)}{n:Nat}
theorem NO{b:Nat}:∀{c:Nat},¬fk [Value.slice none 0 0] c b
 | 0,h=>by
  have h:E_ (Value.slice none 0 0) b:=h;have:=mK (S1 default 0 0 1) h;cases this
 | c+1,h=>kV (by simp) h
theorem od{b:Nat}:¬qZ [Value.slice none 0 0] b:=fun⟨c,h⟩=>NO h
theorem Lh(g:a.defers=[])(h:a.tmps.size=N)(e:∀ t x,get? sl t=some x->m [] X1 w x [gt a t]):Fr w X1 [.slice none 0 0] N ⟨sl,[],1⟩ [.slice none 0 0] a w:=by
 have f:∀ b,XX X1 [.slice none 0 0] [] b->X1 b:=by
  rintro b (d|⟨x,c,_⟩)
  ·exact d
  ·cases c
 exact⟨g,h,Kept.refl w,rfl,TS,(fun x c=>by cases c),(fun x c=>by cases c),(fun x c=>by cases c),(fun x c=>by cases c),(fun t x c=>iI (ρ:=[]) [.slice none 0 0] (fN (fun b d=>.inl (f b d)) (e t x c))),⟨fun b d=>(od d).elim,Qu _,fun x c=>by cases c⟩⟩
theorem Kept.nZ(h:Kept [.slice none 0 0] w w'):Below w.heap.size w w':=⟨h.os,h.tape,h.output,h.size,fun k hk=>h.block k hk od⟩
theorem acb(s:a.defers=[])(z:a.tmps.size=N)(A:∀ b,X b->b<w.heap.size)(q:ρ.length=n)(g:(ck.map (·.1)).Nodup)(h:∀ x∈ck,x.1<n)(c:∀ x∈ck,∀ b,fk ρ x.1 b->b<w.heap.size/\¬X b)(d:∀ i b,fk ρ i b->∃ x∈ck,x.1=i)
    (j:∀ x∈ck,∀ y∈ck,x.1≠y.1->∀ b,fk ρ x.1 b->¬fk ρ y.1 b) (k:∀ x∈ck,cm 0 ρ (XX X ρ ck) w x.1 x.2) (p:∀ t x,get? sl t=some x->m ρ (XX X ρ ck) w x [gt a t]):Fr w X ρ N ⟨sl,ck,n⟩ ρ a w:=by
 refine⟨s,z,Kept.refl w,q,g,h,fun x f b r=>⟨(c x f b r).1,.inr ⟨x.1,r⟩⟩,j,k,p,⟨?_,SA q,fun x f T l e B=>rfl⟩⟩;rintro b ⟨i,hi⟩;obtain⟨x,f,rfl⟩:=d i b hi;exact c x f b hi
theorem Rw.lt{B:Nat}(h:Rw B X w T t v l){b:Nat}(e:fa v=some b):b<w.heap.size:=by
 obtain⟨i,c,_⟩:=h;rcases c.2 with⟨rfl,_⟩|⟨g,cap,d,rfl,_,f,_⟩
 ·cases e
 ·cases e; exact b9 f
theorem Rw.form{B:Nat}(h:Rw B X w T t v l):v.oneCell'=true:=by
 obtain⟨d,c,_⟩:=h;obtain⟨_,_,_,rfl⟩:=gb c;rfl
end
def fg:(t:Ty)->(Nat->Prop)->World->List Value->t.den->Prop
 | .bool,_,_,c,b=>c=[.bool b]
 | .int k,_,_,c,n=>c=[.int k n]/\gG k n
 | .str,_,_,c,s=>c=[.string ⟨s.toArray⟩]/\s.length<=maxLen
 | .slice t,X,w,c,l=>∃ a cap,c=[.slice a l.length cap]/\l.length<=cap/\cap<=maxLen/\(a=none->cap=0) /\
     (l≠[]->∃ b off C T,a=some ⟨b,off,none⟩/\¬X b/\w.heap[b]?=some (.cells C T (0,0)) /\
      ∀ i x,l[i]?=some x->fg t X w ((C.toList.drop (off+i*t.size)).take t.size) x)
 | .pair t u,X,w,c,p=>fg t X w (c.take t.size) p.1/\fg u X w (c.drop t.size) p.2
 | .one t,X,w,c,p=>fg t X w c p
 | .fn,_,_,c,_=>c=[.nilFunc]
theorem fg.rep:∀{t:Ty}{X:Nat->Prop}{w:World}{cs:List Value}{a:t.den},fg t X w cs a->Gx.rep t X w cs a
 | .bool,_,_,_,_,h=>h
 | .int _,_,_,_,_,h=>h
 | .str,_,_,_,_,h=>h
 | .slice t,_,_,_,_,⟨a,cap,c,d,e,f,g⟩=>⟨a,cap,c,d,e,f,fun j=>by
     obtain⟨b,off,C,T,k,m,p,q⟩:=g j;exact⟨b,off,C,T,_,k,m,p,fun i x r=>(q i x r).rep⟩⟩
 | .pair t u,_,_,_,_,h=>⟨h.1.rep,h.2.rep⟩
 | .one t,_,_,_,_,h=>fg.rep (t:=t) h
 | .fn,_,_,_,_,h=>h
theorem eZ:∀{t:Ty}{X:Nat->Prop}{w w':World}{cs:List Value}{a:t.den},fg t X w cs a->Ev X w w'->fg t X w' cs a
 | .bool,_,_,_,_,_,h,_=>h
 | .int _,_,_,_,_,_,h,_=>h
 | .str,_,_,_,_,_,h,_=>h
 | .slice t,_,_,_,_,_,⟨a,cap,f,g,j,k,m⟩,e=>⟨a,cap,f,g,j,k,fun p=>by
     obtain⟨b,off,C,T,q,c,d,r⟩:=m p;exact⟨b,off,C,T,q,c,by rw[e.block b (b9 d) c]; exact d,fun i x s=>eZ (r i x s) e⟩⟩
 | .pair t u,_,_,_,_,_,h,e=>⟨eZ h.1 e,eZ h.2 e⟩
 | .one t,_,_,_,_,_,h,e=>eZ (t:=t) h e
 | .fn,_,_,_,_,_,h,_=>h
theorem fo:∀{t:Ty}{X Y:Nat->Prop}{w:World}{cs:List Value}{a:t.den},fg t X w cs a->(∀ b,Y b->X b∨w.heap.size<=b)->fg t Y w cs a
 | .bool,_,_,_,_,_,h,_=>h
 | .int _,_,_,_,_,_,h,_=>h
 | .str,_,_,_,_,_,h,_=>h
 | .slice t,_,_,_,_,_,⟨a,cap,d,f,g,j,k⟩,e=>⟨a,cap,d,f,g,j,fun m=>by
     obtain⟨b,off,C,T,p,q,c,r⟩:=k m;refine⟨b,off,C,T,p,fun s=>?_,c,fun i x z=>fo (r i x z) e⟩;rcases e b s with h|h
     ·exact q h
     ·have:=b9 c; omega⟩
 | .pair t u,_,_,_,_,_,h,e=>⟨fo h.1 e,fo h.2 e⟩
 | .one t,_,_,_,_,_,h,e=>fo (t:=t) h e
 | .fn,_,_,_,_,_,h,_=>h
theorem ft{t:Ty}{X:Nat->Prop}{w:World}{cs:List Value}{a:t.den}(h:fg t X w cs a):cs.length=t.size:=eR h.rep
theorem fQ{t:Ty}{X:Nat->Prop}{w:World}{cs:List Value}{a:t.den}(h:fg t X w cs a):∀ c∈cs,c.oneCell'=true:=gz h.rep
theorem nO{t:Ty}{X Y:Nat->Prop}{w w':World}{cs:List Value}(h:Gx.rep (.slice t) X w cs []):fg (.slice t) Y w' cs []:=by
 obtain⟨c,cap,d,e,f,g,_⟩:=h;exact⟨c,cap,d,e,f,g,fun h=>absurd rfl h⟩
def RU(X:Nat->Prop)(w:World)(T:TypeId)(t:Ty)(v:Value)(l:List t.den):Prop :=
 ∃ c,w.ownsRow 0 T t.size v l.length c/\(∀ u∈c,u.oneCell'=true)/\∀ i x,l[i]?=some x->fg t X w ((c.drop (i*t.size)).take t.size) x
section
variable{w w':World}{X Y:Nat->Prop}{T:TypeId}{t:Ty}{v:Value}{l:List t.den}
theorem RU.rw(h:RU X w T t v l):Rw 0 X w T t v l:=by
 obtain⟨c,d,e,f⟩:=h;exact⟨c,d,e,fun i x g=>(f i x g).rep⟩
theorem RU.keep(h:RU X w T t v l)(c:Below w.heap.size w w'):RU X w' T t v l:=by
 obtain⟨f,d,j,k⟩:=h;refine⟨f,gl d fun b e=>?_,j,fun i x m=>eZ (k i x m) (Ev.c8 c)⟩;rcases d.2 with⟨rfl,_⟩|⟨g,cap,p,rfl,_,q,_⟩
 ·cases e
 ·cases e; exact c.block g (b9 q)
theorem RU.abg(h:RU X w T t v l)(c:∀ b,Y b->X b∨w.heap.size<=b):RU Y w T t v l:=by
 obtain⟨d,e,f,g⟩:=h;exact⟨d,e,f,fun i x j=>fo (g i x j) c⟩
theorem RU.a_(h:RU X w T t v l)(m:∀ b,Y b->X b)(p:∀ b,fa v=some b->¬Y b):fg (.slice t) Y w [v] l:=by
 obtain⟨G,q,H,r⟩:=h;obtain⟨I,⟨s,c⟩|⟨g,cap,d,j,_,z,A,B,C,e⟩⟩:=q
 ·have:l=[]:=RA c;subst this;rw[s];exact⟨none,0,rfl,Qu _,by simp[maxLen],fun _=>rfl,fun h=>absurd rfl h⟩
 ·rw[j];refine⟨_,cap,rfl,A,B,by simp,fun _=>⟨g,0,d,T,rfl,p g (by rw[j]; rfl),z,fun i x f=>?_⟩⟩;have k:=fo (r i x f) (Y:=Y) fun b D=>.inl (m b D);have hi:i<l.length:=by
   rcases QA i l.length with h|h
   ·exact h
   ·rw[QD h]at f; cases f
  rw[Q8];have F:i*t.size+t.size<=l.length*t.size:=by rw[<-RI]; exact Q_ _ hi
  rw[<-e,Sw,Sk,Rv (by omega)]at k;exact k
theorem Fa{xs cs:List Value}{x:t.den}{i:Nat}(g:xs.length=l.length*t.size)(m:∀ j z,l[j]?=some z->fg t X w ((xs.drop (j*t.size)).take t.size) z)(hi:i<l.length)(k:fg t X w cs x) :
    ∀ j z,(l.set i x)[j]?=some z->fg t X w (((d_ xs (i*t.size) t.size cs).drop (j*t.size)).take t.size) z:=by
 intro j z c;have d:=ft k;have e:i*t.size+t.size<=l.length*t.size:=by rw[<-RI]; exact Q_ _ hi
 by_cases f:j=i
 ·subst f;rw[Ru hi]at c;cases c;rw[nw d (by rw[g]; exact e)];exact k
 ·rw[Rm (RN f)]at c;have p:j<l.length:=by
   rcases QA j l.length with h|h
   ·exact h
   ·rw[QD h]at c; cases c
  rw[mn d (by rw[g]; exact e) (U3 f |>.imp (fun h=>by rw[<-RI]; exact Q_ _ h) (fun h=>by rw[<-RI]; exact Q_ _ h))];exact m j z c
theorem qT{m:List t.den}{xs news:List Value}(c:xs.length=l.length*t.size)(h1:∀(i:Nat) (x:t.den),l[i]?=some x->fg t X w ((xs.drop (i*t.size)).take t.size) x)
    (h2:∀(i:Nat) (x:t.den),m[i]?=some x->fg t X w ((news.drop (i*t.size)).take t.size) x):∀(i:Nat) (x:t.den),(l++m)[i]?=some x->fg t X w (((xs++news).drop (i*t.size)).take t.size) x:=by
 intro i x hi;rcases QA i l.length with h|h
 ·rw[Q0 h]at hi;have d:i*t.size+t.size<=l.length*t.size:=by rw[<-RI]; exact Q_ _ h
  rw[Wa (by omega),Th (by rw[Q5]; omega)];exact h1 i x hi
 ·rw[QT h]at hi;have e:i*t.size=xs.length+(i-l.length)*t.size:=by rw[c,<-T4]; congr 1; omega
  rw[e,<-RT,UO rfl];exact h2 _ x hi
end
section
variable{P:Program}{ops:Array Oper}{o:Oper}{rest:List Oper}{x y:Operand}{Q:Exit->Act->World->Prop}{a:Act}{w:World}{b n cap:Nat}
theorem oq{T:TypeId}(e:o.guard=none)(f:o.dst=none)(d:o.op=.store T x y){off:Nat}{u:Value}{w':World}(g:a.eval x=.pointer (some ⟨b,off,none⟩))(i:a.eval y=u)(j:(storeVar T ⟨b,off,none⟩ u).run P w=.ok () w')(k:wpList P ops Q rest a w'):wpList P ops Q (o::rest) a w:=by
 refine Us e fun K c=>?_;unfold Oper.wp;have h:(execOp a.eval o).run P w=.ok .skip w':=by
  obtain⟨m,op,ty,pos,p,q⟩:=o;dsimp only at d;subst d;simp only[execOp,g,i,Instr.storeAt,Instr.sureAddr,Rf,S9,Sh,j]
 rw[h];show K (a.put o.dst undef) w';rw[f];exact c _ _ k
end
inductive Rc:Value->Value->Prop
 | same (v:Value):Rc v v
 | int {k:IntKind} (n n':Int) (h:gG k n'):Rc (.int k n) (.int k n')
 | str (z:ByteArray) (s:List UInt8) (h:s.length<=maxLen):Rc (.string z) (.string ⟨s.toArray⟩)
 | bool (b b':Bool):Rc (.bool b) (.bool b')
def sH(xs ys:List Value):Prop:=ys.length=xs.length/\∀(i:Nat) x y,xs[i]?=some x->ys[i]?=some y->Rc x y
theorem sH.refl(xs:List Value):sH xs xs:=⟨rfl,fun i x y c b=>by rw[c]at b; cases b; exact .same _⟩
theorem sH.take{xs ys:List Value}(h:sH xs ys)(n:Nat):sH (xs.take n) (ys.take n):=⟨by rw[QM,QM,h.1],fun i x y b c=>by
 rw[Q1]at b c;split at b
 ·rename_i hi;rw[QJ hi]at c;exact h.2 i x y b c
 ·cases b⟩
theorem sH.drop{xs ys:List Value}(h:sH xs ys)(n:Nat):sH (xs.drop n) (ys.drop n):=⟨by rw[Q5,Q5,h.1],fun i x y b c=>by
 rw[Rg]at b c;exact h.2 _ x y b c⟩
theorem sH.one{v:Value}{ys:List Value}(h:sH [v] ys):∃ u,ys=[u]/\Rc v u:=by
 obtain⟨b,c⟩:=h
 match ys,b with
 | [u],_=>exact⟨u,rfl,c 0 v u rfl rfl⟩
structure Pk(w w':World):Prop where
 sz:w'.heap.size=w.heap.size
 bk:∀(b:Nat) C T,w.heap[b]?=some (.cells C T (0,0))->∃ C',w'.heap[b]?=some (.cells C' T (0,0))/\sH C.toList C'.toList
def uM:(t:Ty)->t.den->t.den->Prop
 | .bool,_,_=>True
 | .int _,_,_=>True
 | .str,_,_=>True
 | .slice t,l,c=>c.length=l.length/\∀(i:Nat) x d,l[i]?=some x->c[i]?=some d->uM t x d
 | .pair t u,p,b=>uM t p.1 b.1/\uM u p.2 b.2
 | .one t,p,b=>uM t p b
 | .fn,_,_=>True
theorem jU:∀(t:Ty) (a:t.den),uM t a a
 | .bool,_=>trivial
 | .int _,_=>trivial
 | .str,_=>trivial
 | .slice t,l=>⟨rfl,fun i x d c b=>by rw[c]at b; cases b; exact jU t x⟩
 | .pair t u,p=>⟨jU t p.1,jU u p.2⟩
 | .one t,p=>jU t p
 | .fn,_=>trivial
theorem iB:∀{t:Ty}{a b c:t.den},uM t a b->uM t b c->uM t a c
 | .bool,_,_,_,_,_=>trivial
 | .int _,_,_,_,_,_=>trivial
 | .str,_,_,_,_,_=>trivial
 | .slice t,l,m,g,f,d=>⟨d.1.trans f.1,fun i x j p k=>by
     have hi:i<g.length:=by
      rcases QA i g.length with h|h
      ·exact h
      ·rw[QD h]at k; cases k
     have hi:i<m.length:=by rw[<-d.1]; exact hi
     exact iB (f.2 i x _ p (Qr hi)) (d.2 i _ j (Qr hi) k)⟩
 | .pair t u,_,_,_,f,d=>⟨iB f.1 d.1,iB f.2 d.2⟩
 | .one t,_,_,_,f,d=>iB (t:=t) f d
 | .fn,_,_,_,_,_=>trivial
theorem Cl{c:Type}:∀(l:List c) {R:Nat->c->c->Prop},(∀(i:Nat) x,l[i]?=some x->∃ y,R i x y)->∃ l':List c,l'.length=l.length/\∀(i:Nat) x y,l[i]?=some x->l'[i]?=some y->R i x y
 | [],R,_=>⟨[],rfl,fun i x y h=>by simp at h⟩
 | a::l,R,h=>by
  obtain⟨y,f⟩:=h 0 a rfl;obtain⟨l',g,j⟩:=Cl l (R:=fun i=>R (i+1)) fun i x b=>h (i+1) x (by simpa using b);refine⟨y::l',by simp[g],fun i x z b d=>?_⟩;cases i with
  | zero =>
   simp at b d
   subst b
   subst d
   exact f
  | succ i=>exact j i x z (by simpa using b) (by simpa using d)
theorem lM:∀{t:Ty}{U:Nat->Prop}{w w':World}{cs c:List Value}{a:t.den},fg t U w cs a->Pk w w'->sH cs c->∃ a':t.den,fg t U w' c a'/\uM t a a'
 | .bool,U,w,w',cs,c,a,h,f,d=>by
  have h:cs=[.bool a]:=h;subst h;obtain⟨u,rfl,j⟩:=d.one;cases j
  ·exact⟨a,rfl,trivial⟩
  ·exact⟨_,rfl,trivial⟩
 | .int k,U,w,w',cs,c,a,h,f,d=>by
  obtain⟨m,g⟩:=h;subst m;obtain⟨u,rfl,j⟩:=d.one;cases j
  ·exact⟨a,⟨rfl,g⟩,trivial⟩
  ·rename_i H q;exact⟨H,⟨rfl,q⟩,trivial⟩
 | .str,U,w,w',cs,c,a,h,f,d=>by
  obtain⟨m,g⟩:=h;subst m;obtain⟨u,rfl,j⟩:=d.one;cases j
  ·exact⟨a,⟨rfl,g⟩,trivial⟩
  ·rename_i s q;exact⟨s,⟨rfl,q⟩,trivial⟩
 | .slice t,U,w,w',cs,c,l,h,f,d=>by
  obtain⟨D,cap,m,g,q,v,I⟩:=h;subst m;obtain⟨u,rfl,j⟩:=d.one;cases j;by_cases E:l=[]
  ·subst E;exact⟨[],⟨D,cap,rfl,g,q,v,fun h=>absurd rfl h⟩,jU (.slice t) []⟩
  ·obtain⟨b,off,C,T,J,K,L,M⟩:=I E;obtain⟨F,O,S⟩:=f.bk b C T L;obtain⟨A,z,G⟩:=Cl l (R:=fun i x y=>fg t U w' ((F.toList.drop (off+i*t.size)).take t.size) y/\uM t x y) fun i x B =>
    lM (M i x B) f ((S.drop _).take _)
   refine⟨A,⟨D,cap,by rw[z],by rw[z]; exact g,q,v,fun _=>⟨b,off,F,T,J,K,O,fun i y r=>?_⟩⟩,z,fun i x y B r=>(G i x y B r).2⟩;have hi:i<A.length:=by
    rcases QA i A.length with h|h
    ·exact h
    ·rw[QD h]at r; cases r
   have hi:i<l.length:=by rw[<-z]; exact hi
   exact(G i _ y (Qr hi) r).1
 | .pair t u,U,w,w',cs,c,p,h,f,d=>by
  obtain⟨V,m,g⟩:=lM h.1 f (d.take _);obtain⟨W,q,v⟩:=lM h.2 f (d.drop _);exact⟨(V,W),⟨m,q⟩,g,v⟩
 | .one t,U,w,w',cs,c,a,h,f,d=>by
  obtain⟨a',m,g⟩:=lM (t:=t) h f d;exact⟨a',m,g⟩
 | .fn,U,w,w',cs,c,a,h,f,d=>by
  have h:cs=[.nilFunc]:=h;subst h;obtain⟨u,rfl,j⟩:=d.one;cases j;exact⟨a,rfl,trivial⟩
def ie(t:Ty)(U:Nat->Prop)(w:World)(v:Value)(d:t.den):Prop:=∃ b off C T,v=.pointer (some ⟨b,off,none⟩)/\¬U b/\w.heap[b]?=some (.cells C T (0,0))/\fg t U w ((C.toList.drop off).take t.size) d
theorem ug:∀{c:Nat}{t:Ty}{f o:Nat}{u:Ty}{g:t.den->u.den},Bh c t f=some (o,⟨u,g⟩)->o+u.size<=t.size/\∀{X w cs a},fg t X w cs a->fg u X w ((cs.drop o).take u.size) (g a)
 | 0,_,_,_,_,_,h=>by cases h
 | c+1,t,f,o,u,g,h=>by
  unfold Bh at h;split at h
  ·split at h
   ·cases h;refine⟨by omega,fun{X w cs a} b=>?_⟩;rw[RP,QQ (by rw[ft b]; exact Qu _)]; exact b
   ·cases h
  ·split at h
   ·split at h
    ·cases h;refine⟨by simp only[Ty.size]; omega,fun{X w cs a} b=>?_⟩;rw[RP]; exact b.1
    ·split at h
     ·rename_i d _ j k _ l _ m v p e;cases h;obtain⟨q,i⟩:=ug e;refine⟨by simp only[Ty.size]; omega,fun{X w cs a} b=>?_⟩;have:=i b.2;rw[RT]at this;exact this
     ·cases h
   ·cases h
theorem ve{t:Ty}{c f o:Nat}{u:Ty}{g:t.den->u.den}(h:sn t c f=some (o,⟨u,g⟩)):o+u.size<=t.size/\∀{X w cs a},fg t X w cs a->fg u X w ((cs.drop o).take u.size) (g a):=by
 unfold sn at h;split at h
 ·split at h
  ·split at h
   ·cases h;refine⟨by simp only[Ty.size]; omega,fun{X w cs a} b=>?_⟩;rw[RP,QQ (by rw[ft (t:=.one _) b]; exact Qu _)]; exact b
   ·cases h
  ·cases h
 ·exact ug h
section
variable{P:Program}{ops:Array Oper}{o:Oper}{rest:List Oper}{x y:Operand}{Q:Exit->Act->World->Prop}{a:Act}{w:World}{T e:TypeId}{te:TE}{U:Nat->Prop}{t:Ty}
theorem Nf(i:b_ P e te)(j:o.guard=none)(m:o.op=.indexAddr T x y)(q:P.underlying T=some (.slice e)){l:List te.ty.den}(r:fg (.slice te.ty) U w [a.eval x] l){k:Nat}(s:a.eval y=.int .i64 (k:Int)){d:te.ty.den}(hk:l[k]?=some d)
    (u:∀ p,ie te.ty U w p d->wpList P ops Q rest (a.put o.dst p) w):wpList P ops Q (o::rest) a w:=by
 have c:k<l.length:=by
  rcases QA k l.length with h|h
  ·exact h
  ·rw[QD h]at hk; cases hk
 obtain⟨G,cap,v,H,I,J,z⟩:=r;have A:=(QB v).1;obtain⟨b,off,C,B,rfl,D,E,F⟩:=z (fun h=>by rw[h]at c; exact absurd c (Q' _));refine Us j fun K f=>?_;unfold Oper.wp;have g:=i.iN (w:=w);have h:(Instr.indexAt T (.slice (some ⟨b,off,none⟩) l.length cap) (.int .i64 (k:Int))).run P w=.ok (.pointer (some ⟨b,off+k*te.ty.size,none⟩)) w:=by
  simp[Instr.indexAt,asIntOf,Rb q,c,g,Ri]
 simp[execOp,m,A,s,h,Result.andThen];exact f _ _ (u _ ⟨b,_,C,B,rfl,D,E,F k d hk⟩)
theorem GV(i:b_ P T te)(ht:te.ty=.slice t)(j:o.guard=none)(k:o.op=.load T x){l:List t.den}(m:ie (.slice t) U w (a.eval x) l)(p:∀ v,fg (.slice t) U w [v] l->wpList P ops Q rest (a.put o.dst v) w):wpList P ops Q (o::rest) a w:=by
 obtain⟨b,off,C,s,q,u,r,c⟩:=m;obtain⟨d,cap,g,_⟩:=id c;refine Us j fun K f=>?_;unfold Oper.wp;have h:(Instr.loadAt T (.pointer (some ⟨b,off,none⟩))).run P w=.ok (te.ty.wrap [.slice d l.length cap]) w:=by
  simp only[Instr.loadAt,Instr.sureAddr,Rf,S9,Sh];exact fR i r (by rw[ht]; exact g) (by rw[ht]; rfl)
 rw[ht,show(Ty.slice t).wrap [Value.slice d l.length cap]=.slice d l.length cap from rfl]at h;simp[execOp,k,q,h,Result.andThen];rw[g]at c;exact f _ _ (p _ c)
theorem FG{f i:Nat}{u:Ty}{g:te.ty.den->u.den}(k:b_ P T te)(l:o.guard=none)(m:o.op=.fieldAddr T x f)(c:sn te.ty te.nf f=some (i,⟨u,g⟩))(q:f<te.nf){d:te.ty.den}(r:ie te.ty U w (a.eval x) d)
    (s:∀ p,ie u U w p (g d)->wpList P ops Q rest (a.put o.dst p) w):wpList P ops Q (o::rest) a w:=by
 obtain⟨b,off,C,v,z,A,B,D⟩:=r;have h:=iX (w:=w) k c q b off;refine Us l fun K j=>?_;unfold Oper.wp;simp[execOp,m,z,h,Result.andThen];refine j _ _ (s _ ⟨b,_,C,v,rfl,A,B,?_⟩);obtain⟨F,E⟩:=ve c;have:=E D;rw[Sw,RT,Sk,Rv (by omega)]at this;exact this
end
section
variable{w0 w1 w w':World}{X0 X1 U:Nat->Prop}{Bo:List Value}{N n:Nat}{ρ:List Value}{a a':Act}{sl sl':List (Nat×AV)}{ck ck':List (Nat×CT)}
theorem Fr.back(h:Fr w1 X1 Bo N ⟨sl,ck,n⟩ ρ a w)(z:∀ b,X1 b->b<w1.heap.size)(hk:Kept [] w0 w1)(J:∀ k,qZ Bo k->w0.heap.size<=k)(K:∀ k,X0 k->X1 k)(A:∀ k,U k->X1 k/\w0.heap.size<=k)(p:Ev U w w')(B:w'.os=w.os/\w'.tape=w.tape/\w'.output=w.output)
    (L:a'.defers=[]) (M:a'.tmps.size=N) (C:∀ t x,get? sl' t=some x->get? sl t=some x/\gt a' t=gt a t) (D:(ck'.map (·.1)).Nodup) (d:∀ x∈ck',(∃ y,(x.1,y)∈ck)/\(x∈ck∨cm 0 ρ (XX X0 ρ ck') w' x.1 x.2)):Fr w0 X0 [] N ⟨sl',ck',n⟩ ρ a' w':=by
 have f:=h.kp;have E:∀ i y,(i,y)∈ck->∀ b,fk ρ i b->¬X1 b:=fun i y g b j c=>by
  rcases(h.bl (i,y) g b j).2 with m|m
  ·exact absurd (z b c) (by omega)
  ·exact(h.pn.bo b m).2 c
 have q:∀ b,XX X0 ρ ck' b->XX X1 ρ ck b∨w.heap.size<=b:=by
  rintro b (j|⟨x,c,j⟩)
  ·exact .inl (.inl (K b j))
  ·obtain⟨⟨y,g⟩,_⟩:=d x c;exact .inl (.inr ⟨_,g,j⟩)
 have r:Ev (XX X1 ρ ck) w w':=⟨p.size,fun k hk F=>p.block k hk fun s=>F (.inl (A k s).1)⟩;refine⟨L,M,⟨B.1.trans (f.os.trans hk.os),B.2.1.trans (f.tape.trans hk.tape),B.2.2.trans (f.output.trans hk.output),QL hk.size (QL f.size p.size),fun k u F=>?_⟩,h.nx,D,fun x c=>?_,fun x c b j=>?_,fun x c y g G b u v=>?_,fun x c=>?_,fun t x c=>?_,⟨fun k hk=>(mc hk).elim,QE _,fun x c T l e O=>absurd O (Q' _)⟩⟩
 ·have v:k<w1.heap.size:=QI u hk.size;rw[p.block k (QI v f.size) fun s=>absurd (A k s).2 (by omega),f.block k v fun R=>absurd (J k R) (by omega)];exact hk.block k u F
 ·obtain⟨⟨y,g⟩,_⟩:=d x c;exact h.kn (x.1,y) g
 ·obtain⟨⟨y,g⟩,_⟩:=d x c;obtain⟨m,S⟩:=h.bl _ g b j;exact⟨QI m p.size,.inl (S.elim (QL hk.size) (J b))⟩
 ·obtain⟨⟨X,H⟩,_⟩:=d x c;obtain⟨⟨Y,I⟩,_⟩:=d y g;exact h.dj _ H _ I G b u v
 ·obtain⟨⟨y,g⟩,m|m⟩:=d x c
  ·exact kq (h.cs x m) q r fun b j=>p.block b (h.bl x m b j).1 fun s=>E _ _ m b j (A b s).1
  ·exact m
 ·obtain⟨V,W⟩:=C t x c;rw[W];exact mW (h.sl t x V) q r
end
end Go.Proofs.YtbokoblnehgkaabGreat.Gx
