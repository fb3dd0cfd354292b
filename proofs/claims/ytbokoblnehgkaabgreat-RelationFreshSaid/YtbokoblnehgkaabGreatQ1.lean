/-
  Contracts of rational, of values and of the slices library.
-/
import Derived.Test.YtbokoblnehgkaabGreatG3
import Derived.Test.YtbokoblnehgkaabGreatP1
import Derived.KernelRfl
import Derived.Test.YtbokoblnehgkaabGreatShelf
import Derived.Lib.Bytealg
import Derived.Test.YtbokoblnehgkaabGreatG1
import Derived.Shelf.Spec.SlicesInsert
import Derived.Lib.AppendZerosOnto
import Derived.Laws.NewBlocks
import Derived.Laws.CopyOwn
import Derived.Lib.SliceRun
set_option linter.unusedVariables false
set_option linter.unusedSimpArgs false
set_option maxHeartbeats 4000000
set_option maxRecDepth 100000
set_option linter.defProp false
namespace Go.Proofs.YtbokoblnehgkaabGreat
def SR:=@Go.Lib.wpList_append_run
def Tp:=@Go.Proofs.wpList_copy_runI
def UY:=@Go.Proofs.step_copy_runI
def Ve:=@Go.Lib.run_append_grow_zeros
def VA:=@Go.Lib.run_overlaps_apart
end Go.Proofs.YtbokoblnehgkaabGreat
namespace Go.Proofs.YtbokoblnehgkaabGreat.Gx
open Go Go.RowKit Tw B Nt
abbrev nT:Ty:=.slice (.int .u32)
abbrev fT:Ty:=.pair .bool (.pair (.slice (.int .u32)) (.slice (.int .u32)))
def NP:Nat->Nat->List Int
 | 0,_=>[]
 | f+1,n=>if n=0 then []else((n % 4294967296:Nat):Int)::NP f (n / 4294967296)
def dg(n:Int):List Int:=NP n.toNat n.toNat
theorem Am:∀(f n:Nat),n<=f->N (NP f n)=(n:Int)/\Canon (NP f n)
 | 0,n,h=>by
  have:n=0:=by omega
  subst this;exact⟨rfl,Canon.nil⟩
 | f+1,n,h=>by
  unfold NP;by_cases a:n=0
  ·rw[QJ a,a]; exact⟨rfl,Canon.nil⟩
  ·rw[QC a];obtain⟨b,d⟩:=Am f (n / 4294967296) (by omega);refine⟨?_,Ds.cons (by omega) d.1,?_⟩
   ·show((n % 4294967296:Nat):Int)+4294967296*N (NP f (n / 4294967296))=(n:Int);rw[b]; omega
   ·rw[W6];by_cases j:n / 4294967296=0
    ·have:NP f (n / 4294967296)=[]:=by rw[j]; cases f<;>rfl
     rw[this];simp only[List.getLast?_nil,Option.getD_none,ne_eq,Q7];omega
    ·have c:NP f (n / 4294967296)≠[]:=by
       intro e;rw[e]at b;have:((n / 4294967296:Nat):Int)=0:=b.symm;omega
     have g:=d.2;cases i:(NP f (n / 4294967296)).getLast? with
     | none=>exact absurd (List.getLast?_eq_none_iff.1 i) c
     | some x =>
      rw[i]at g
      simpa using g
theorem iL{n:Int}(h:0<=n):N (dg n)=n:=by
 have:=(Am n.toNat n.toNat (Qu _)).1;unfold dg;omega
theorem jZ(n:Int):Canon (dg n):=(Am n.toNat n.toNat (Qu _)).2
theorem N9{l:List Int}(h:Canon l):dg (N l)=l:=(jZ _).inj h (iL (eQ h.1))
theorem oS{n:Int}{c:Nat}(h0:0<=n)(h:n<Bp c):(dg n).length<=c:=(jZ n).len c (by rw[iL h0]; exact h)
theorem sI{n:Int}:gG .u32 n↔0<=n/\n<4294967296:=by simp only[gG,lo,hi]; omega
theorem Eh{k:IntKind}{n:Int}(h:gG k n):(Lit.int k n).wf=true:=by
 cases k<;>simp only[gG,lo,hi]at h<;>simp[Lit.wf,IntKind.min,IntKind.max,IntKind.signed,IntKind.bits]<;>omega
theorem nQ{k:IntKind}{n:Int}(h:(Lit.int k n).wf=true):gG k n:=by
 cases k<;>simp[Lit.wf,IntKind.min,IntKind.max,IntKind.signed,IntKind.bits]at h<;>simp only[gG,lo,hi]<;>omega
theorem xm{k:IntKind}{X:Nat->Prop}{w:World}{v:Value}{l:List Int}(h:rep (.slice (.int k)) X w [v] l):Row k w v l:=by
 obtain⟨a,cap,e,s,t,u,x⟩:=h;have e:=(QB e).1;subst e;have c:∀ i,i<l.length->∃ b off,a=some ⟨b,off,none⟩/\w.cell? ⟨b,off+i,none⟩=some (.int k (l.getD i 0))/\gG k (l.getD i 0):=by
  intro i hi;obtain⟨b,off,C,T,f,j,_,y,z⟩:=x (by intro e; rw[e]at hi; simp at hi);obtain⟨o,A⟩:=z i (l.getD i 0) (by simp[hi]);refine⟨b,off,j,?_,A⟩;simp only[Ty.size,Ry]at o;have p:(C.toList.drop (off+i))[0]?=some (.int k (l.getD i 0)):=by
   have:=Sr (fun l=>l[0]?) o;simpa [Q1]using this
  rw[Rg]at p;simpa [World.cell?,y]using p
 refine⟨a,cap,rfl,s,t,u,fun n B=>?_,fun m=>?_⟩
 ·obtain⟨i,hi,rfl⟩:=Rz.1 B;obtain⟨_,_,_,_,q⟩:=c i hi;have:l.getD i 0=l[i]:=by simp[hi]
  rw[this]at q;exact Eh q
 ·have d:0<l.length:=US.2 m;obtain⟨b,off,j,_⟩:=c 0 d;refine⟨b,off,j,fun i hi=>?_⟩;obtain⟨D,r,g,q,_⟩:=c i hi;rw[j]at g;cases g;exact q
theorem Bv{k:IntKind}{t:TypeId}{base:Nat}{X:Nat->Prop}{w:World}{v:Value}{l:List Int}(h:Row k w v l)(m:iG t base w v)(n:∀ b,X b->b<base):rep (.slice (.int k)) X w [v] l:=by
 obtain⟨a,cap,rfl,o,p,q,r,s⟩:=h;refine⟨a,cap,rfl,o,p,q,fun f=>?_⟩;obtain⟨b,off,rfl,u⟩:=s f;obtain⟨y,C,j⟩:=m b off none _ _ rfl;refine⟨b,off,C,t,_,rfl,fun c=>?_,j,fun i x c=>?_⟩
 ·have:=n b c; omega
 ·have hi:i<l.length:=by
    rcases QA i l.length with h|h
    ·exact h
    ·rw[QD h]at c; cases c
  have:=u i hi;have g:l.getD i 0=x:=by simp[c]
  rw[g]at this;refine⟨?_,nQ (r x (Ra c))⟩;simp only[Ty.size,Ry];have e:C.toList[off+i]?=some (.int k x):=by simpa [World.cell?,j]using this
  have d:off+i<C.toList.length:=by
   rcases QA (off+i) C.toList.length with h|h
   ·exact h
   ·rw[QD h]at e; cases e
  rw[R0 d,Uo,S7];rw[Qr d]at e;rw[Rk e]
section
variable{ρ:List Value}{X:Nat->Prop}{w:World}
theorem fP{v:Value}{l:List Int}(h:m ρ X w (.a_ nT l) [v])(c:Nat)(a:l.length<=c):ki w v c (N l):=⟨l,xm (gA rfl h),a,rfl⟩
theorem Hr{v:Value}{l:List Int}(h:m ρ X w (.a_ nT l) [v]):Ds l:=Nt.Row.ds (xm (gA rfl h))
theorem iU{base:Nat}{v:Value}{n:Int}(h:eS base w v n)(a:∀ b,X b->b<base):m ρ X w (.a_ nT (dg n)) [v]:=by
 obtain⟨l,c,d,e,f⟩:=h;have:dg n=l:=by rw[<-e]; exact N9 d
 rw[this];exact mw rfl (Bv c f a)
def fq(f:fT.den):Rat:=mk f.1 (N f.2.1) (N f.2.2)
def qf(q:Rat):fT.den:=(decide (q.num<0),dg (q.num.natAbs:Int),dg (q.den:Int))
def fs(f:fT.den):Nat:=max f.2.1.length f.2.2.length
theorem jo(q:Rat):fq (qf q)=q:=by
 unfold fq qf;rw[iL (by omega),iL (by omega)];exact wL q
theorem Fx{v:Value}{f:fT.den}(h:m ρ X w (.a_ fT f) [v]):∃ g i,v=.agg #[.bool f.1,g,i]/\m ρ X w (.a_ nT f.2.1) [g]/\m ρ X w (.a_ nT f.2.2) [i]:=by
 obtain⟨k,j,d⟩:=h;have l:=eR j;have d:=(QB d).1
 match k,l with
 | [a,b,c],_ =>
  obtain⟨e,n,o⟩:=j
  have e:[a]=[Value.bool f.1]:=e
  cases e
  exact⟨b,c,by rw[d]; simp[Ty.wrap,Ty.isAgg],mw rfl n,mw rfl o⟩
theorem P1{v:Value}{f:fT.den}(h:m ρ X w (.a_ fT f) [v])(c:Nat)(d:fs f<=c):Raw w v c (fq f):=by
 obtain⟨g,i,e,j,k⟩:=Fx h;have a:f.2.1.length<=c:=QL (UQ _ _) d;have b:f.2.2.length<=c:=QL (TZ _ _) d;exact⟨f.1,g,i,_,_,e,fP j c a,fP k c b,rfl⟩
theorem rI{t:Ty}{a:t.den}{vs:List Value}(h:m ρ X w (.cons (.a_ t a) .nil) vs):∃ x,vs=[x]/\m ρ X w (.a_ t a) [x]:=by
 obtain⟨v,c,rfl,d,b⟩:=h;have b:c=[]:=b;subst b;exact⟨v,rfl,d⟩
theorem lp{t u:Ty}{a:t.den}{b:u.den}{vs:List Value}(h:m ρ X w (.cons (.a_ t a) (.cons (.a_ u b) .nil)) vs):∃ x y,vs=[x,y]/\m ρ X w (.a_ t a) [x]/\m ρ X w (.a_ u b) [y]:=by
 obtain⟨v,f,rfl,c,d⟩:=h;obtain⟨y,rfl,e⟩:=rI d;exact⟨v,y,rfl,c,e⟩
theorem M0{x y:AV}{u v:Value}(h1:m ρ X w x [u])(h2:m ρ X w y [v]):m ρ X w (.js (.cons x (.cons y .nil))) [.tuple #[u,v]]:=⟨[u,v],rfl,u,[v],rfl,h1,v,[],rfl,h2,rfl⟩
theorem abH{x y z:AV}{u v t:Value}(h1:m ρ X w x [u])(h2:m ρ X w y [v])(a:m ρ X w z [t]):m ρ X w (.js (.cons x (.cons y (.cons z .nil)))) [.tuple #[u,v,t]]:=⟨[u,v,t],rfl,u,[v,t],rfl,h1,v,[t],rfl,h2,t,[],rfl,a,rfl⟩
end
theorem jH{P:Program}{f:FuncId}{args:Array Value}{w:World}{n:Int}{ρ:List Value}{X:Nat->Prop}(h:Calls P f args w (oD w.heap.size w n))(a:∀ b,X b->b<w.heap.size) :
    Calls P f args w (fun e w'=>∃ v,e=.returned v/\m ρ X w' (.a_ nT (dg n)) [v]/\Below w.heap.size w w') :=
 h.mono fun e w' ⟨v,c,d,g⟩=>⟨v,c,iU d a,g⟩
theorem gq {P:Program}{f:FuncId}{s:Spec}{fn:Func} (a:P.funcs[f]?=some fn) (c:fn.body.isSome=true) (g:(fn.name == "runtime.NumGoroutine")=false)
    (h:∀ d,eP (s.F d).2->∀ ρ X w vs,(∀ b,X b->b<w.heap.size)->m ρ X w (nz s.zR d) vs->Calls P f vs.toArray w (fun e w'=>∃ v,e=.returned v/\m ρ X w' (s.F d).1 [v]/\Below w.heap.size w w')):c6 P f s :=
 fun d i=>⟨fun args w=>e_ a c g args w,fun ρ X w vs j k=>h d i ρ X w vs j k⟩
theorem GF{cf ck:List (Nat×CT)}{n n':Nat}{t:Ty}{b:List t.den}:zQ cf ck n n' (.val (.slice none 0 0)) (.a_ (.slice t) b)=[([]:List t.den)=b]:=rfl
theorem Eb{mp:List (Nat×Nat)}{nx:Nat}{t:Ty}{b:t.den}:qa mp nx (.val (.slice none 0 0)) (.a_ t b)=.val (.slice none 0 0):=rfl
attribute [go_sem ↓] GF Eb
theorem BQ(x y:Int):gG .i64 (fJ x y):=by
 unfold fJ; split
 ·decide
 ·split<;>decide
theorem Ol{ρ:List Value}{X:Nat->Prop}{w:World}{n:Int}(h0:-9223372036854775808<=n)(h1:n<=9223372036854775807):m ρ X w (.a_ (.int .i64) n) [.int .i64 n]:=eO ⟨h0,h1⟩
theorem Dl{l:List Int}(h:Ds l):(iq (N l):Int)<=32*l.length:=by
 have a:=jA h;rw[oZ]at a;have:=CX (eQ h) (32*l.length) a;omega
def Pp(n:Int):Int:=if n<18446744073709551616 then n else 0
theorem O8{ρ:List Value}{X:Nat->Prop}{w:World}{n:Int}(h0:0<=n):m ρ X w (.js (.cons (.a_ (.int .u64) (Pp n)) (.cons (.a_ .bool (decide (n<18446744073709551616))) .nil))) [xo n]:=by
 unfold xo Pp;by_cases h:n<18446744073709551616
 ·rw[QJ h,QJ h,QY h];exact M0 (eO (by simp only[gG,lo,hi]; omega)) eY
 ·rw[QC h,QC h,Q4 h];exact M0 (eO (by simp only[gG,lo,hi]; omega)) eY
@[go_sem] def Iy:Spec:=⟨[nT,nT],fun d=>(.a_ nT (dg (N d.1+N d.2.1)),[d.1.length<=16000000,d.2.1.length<=16000000])⟩
theorem L8:c6 Tryz.prog 94 Iy:=by
 refine gq (s:=Iy) Tryz.func94 rfl (by decide) fun d a ρ X w g b c=>?_;obtain⟨x,y,rfl,e,f⟩:=lp c;exact jH (add x y 16000000 _ _ w (fP e _ a.1) (fP f _ a.2.1) (by decide)) b
@[go_sem] def JE:Spec:=⟨[nT,nT],fun d=>(.a_ nT (dg (N d.1*N d.2.1)),[d.1.length<=16000000,d.2.1.length<=16000000])⟩
theorem Np:c6 Tryz.prog 59 JE:=by
 refine gq (s:=JE) Tryz.func59 rfl (by decide) fun d a ρ X w g b c=>?_;obtain⟨x,y,rfl,e,f⟩:=lp c;exact jH (mul x y 16000000 _ _ w (fP e _ a.1) (fP f _ a.2.1) (by decide)) b
@[go_sem] def Ja:Spec:=⟨[nT,nT],fun d=>(.a_ nT (dg (fL (N d.1) (N d.2.1))),[d.1.length<=16000000,d.2.1.length<=16000000])⟩
theorem MK:c6 Tryz.prog 110 Ja:=by
 refine gq (s:=Ja) Tryz.func110 rfl (by decide) fun d a ρ X w g b c=>?_;obtain⟨x,y,rfl,e,f⟩:=lp c;exact jH (gcd x y 16000000 _ _ w (fP e _ a.1) (fP f _ a.2.1) (by decide)) b
@[go_sem] def AB:Spec:=⟨[nT],fun d=>(.a_ nT (dg (N d.1)),[d.1.length<=16000000])⟩
theorem GX:c6 Tryz.prog 112 AB:=by
 refine gq (s:=AB) Tryz.func112 rfl (by decide) fun d a ρ X w f b c=>?_;obtain⟨x,rfl,e⟩:=rI c;exact jH (normalize x 16000000 _ w (fP e _ a.1) (by decide)) b
@[go_sem] def Kg:Spec:=⟨[nT,nT],fun d=>(.js (.cons (.a_ nT (dg (if N d.2.1<=N d.1 then N d.1-N d.2.1 else 0))) (.cons (.a_ .bool (decide (N d.2.1<=N d.1))) .nil)),[d.1.length<=16000000,d.2.1.length<=16000000])⟩
theorem KG:c6 Tryz.prog 95 Kg:=by
 refine gq (s:=Kg) Tryz.func95 rfl (by decide) fun d a ρ X w k b c=>?_;obtain⟨x,y,rfl,f,g⟩:=lp c;refine(sub x y 16000000 _ _ w (fP f _ a.1) (fP g _ a.2.1) (by decide)).mono fun e l ⟨v,h,i,j⟩=>⟨_,h,M0 (iU i b) eY,j⟩
@[go_sem] def s8:Spec:=⟨[nT,nT],fun d=>(.js (.cons (.a_ nT (dg (N d.1 / N d.2.1))) (.cons (.a_ nT (dg (if N d.2.1=0 then 0 else N d.1 % N d.2.1))) (.cons (.a_ .bool (decide (N d.2.1≠0))) .nil))),[d.1.length<=16000000,d.2.1.length<=16000000])⟩
theorem Ae:c6 Tryz.prog 113 s8:=by
 refine gq (s:=s8) Tryz.func113 rfl (by decide) fun d a ρ X w l b c=>?_;obtain⟨x,y,rfl,f,g⟩:=lp c;refine(divMod x y 16000000 _ _ w (fP f _ a.1) (fP g _ a.2.1) (by decide)).mono fun e m ⟨v,n,h,i,j,k⟩=>⟨_,h,abH (iU i b) (iU j b) eY,k⟩
@[go_sem] def G':Spec:=⟨[nT,nT],fun d=>(.a_ (.int .i64) (fJ (N d.1) (N d.2.1)),[d.1.length<=16000000,d.2.1.length<=16000000])⟩
theorem KL:c6 Tryz.prog 58 G':=by
 refine gq (s:=G') Tryz.func58 rfl (by decide) fun d a ρ X w i j b=>?_;obtain⟨x,y,rfl,c,f⟩:=lp b;exact(cmp x y 16000000 _ _ w (fP c _ a.1) (fP f _ a.2.1) (by decide)).mono fun e k ⟨g,h⟩=>⟨_,g,eO (BQ _ _),h⟩
@[go_sem] def A_:Spec:=⟨[nT],fun d=>(.a_ (.int .i64) (iq (N d.1):Int),[d.1.length<=16000000])⟩
theorem JL:c6 Tryz.prog 79 A_:=by
 refine gq (s:=A_) Tryz.func79 rfl (by decide) fun d a ρ X w h i c=>?_;obtain⟨x,rfl,b⟩:=rI c;have j:=Dl (Hr b);have k:=a.1;exact(Nt.bitLen x 16000000 _ w (fP b _ a.1) (by decide)).mono fun e l ⟨f,g⟩=>⟨_,f,Ol (by omega) (by omega),by rw[<-g]; exact QG _ _⟩
@[go_sem] def Gy:Spec:=⟨[nT],fun d=>(.js (.cons (.a_ (.int .u64) (Pp (N d.1))) (.cons (.a_ .bool (decide (N d.1<18446744073709551616))) .nil)),[d.1.length<=16000000])⟩
theorem Ly:c6 Tryz.prog 132 Gy:=by
 refine gq (s:=Gy) Tryz.func132 rfl (by decide) fun d b ρ X w h i c=>?_;obtain⟨x,rfl,a⟩:=rI c;exact(uint64 x 16000000 _ w (fP a _ b.1)).mono fun e j ⟨f,g⟩=>⟨_,f,O8 (eQ (Hr a)),g⟩
@[go_sem] def aaP:Spec:=⟨[.int .u64],fun d=>(.a_ nT (dg d.1),[])⟩
theorem aaw:c6 Tryz.prog 93 aaP:=by
 refine gq (s:=aaP) Tryz.func93 rfl (by decide) fun d f ρ X w g b c=>?_;obtain⟨x,rfl,e⟩:=rI c;obtain⟨rfl,a⟩:=fI e;simp only[gG,lo,hi]at a;exact jH (mJ _ w a.1 (by omega)) b
@[go_sem] def Gz:Spec:=⟨[nT,nT],fun d=>(.a_ nT (dg (N d.1+N d.2.1)),[d.1.length<=16000000,d.2.1.length<=16000000])⟩
theorem NA:c6 Tryz.prog 124 Gz:=by
 refine gq (s:=Gz) Tryz.func124 rfl (by decide) fun d a ρ X w g b c=>?_;obtain⟨x,y,rfl,e,f⟩:=lp c;exact jH (acv x y 16000000 _ _ w (fP e _ a.1) (fP f _ a.2.1) (by decide)) b
@[go_sem] def HL:Spec:=⟨[nT,nT],fun d=>(.a_ nT (dg (N d.1*N d.2.1)),[d.1.length<=16000000,d.2.1.length<=16000000])⟩
theorem LY:c6 Tryz.prog 123 HL:=by
 refine gq (s:=HL) Tryz.func123 rfl (by decide) fun d a ρ X w g b c=>?_;obtain⟨x,y,rfl,e,f⟩:=lp c;exact jH (aco x y 16000000 _ _ w (fP e _ a.1) (fP f _ a.2.1) (by decide)) b
@[go_sem] def IN:Spec:=⟨[nT,nT],fun d=>(.a_ nT (dg (fL (N d.1) (N d.2.1))),[d.1.length<=16000000,d.2.1.length<=16000000])⟩
theorem NJ:c6 Tryz.prog 51 IN:=by
 refine gq (s:=IN) Tryz.func51 rfl (by decide) fun d a ρ X w g b c=>?_;obtain⟨x,y,rfl,e,f⟩:=lp c;exact jH (acp x y 16000000 _ _ w (fP e _ a.1) (fP f _ a.2.1) (by decide)) b
@[go_sem] def BG:Spec:=⟨[nT],fun d=>(.a_ nT (dg (N d.1)),[d.1.length<=16000000])⟩
theorem GQ:c6 Tryz.prog 53 BG:=by
 refine gq (s:=BG) Tryz.func53 rfl (by decide) fun d a ρ X w f b c=>?_;obtain⟨x,rfl,e⟩:=rI c;exact jH (oM x 16000000 _ w (fP e _ a.1) (by decide)) b
@[go_sem] def FV:Spec:=⟨[nT,nT],fun d=>(.js (.cons (.a_ nT (dg (if N d.2.1<=N d.1 then N d.1-N d.2.1 else 0))) (.cons (.a_ .bool (decide (N d.2.1<=N d.1))) .nil)),[d.1.length<=16000000,d.2.1.length<=16000000])⟩
theorem Lc:c6 Tryz.prog 85 FV:=by
 refine gq (s:=FV) Tryz.func85 rfl (by decide) fun d a ρ X w k b c=>?_;obtain⟨x,y,rfl,f,g⟩:=lp c;refine(LB x y 16000000 _ _ w (fP f _ a.1) (fP g _ a.2.1) (by decide)).mono fun e l ⟨v,h,i,j⟩=>⟨_,h,M0 (iU i b) eY,j⟩
@[go_sem] def tt:Spec:=⟨[nT,nT],fun d=>(.js (.cons (.a_ nT (dg (N d.1 / N d.2.1))) (.cons (.a_ nT (dg (if N d.2.1=0 then 0 else N d.1 % N d.2.1))) (.cons (.a_ .bool (decide (N d.2.1≠0))) .nil))),[d.1.length<=16000000,d.2.1.length<=16000000])⟩
theorem z_:c6 Tryz.prog 52 tt:=by
 refine gq (s:=tt) Tryz.func52 rfl (by decide) fun d a ρ X w l b c=>?_;obtain⟨x,y,rfl,f,g⟩:=lp c;refine(LI x y 16000000 _ _ w (fP f _ a.1) (fP g _ a.2.1) (by decide)).mono fun e m ⟨v,n,h,i,j,k⟩=>⟨_,h,abH (iU i b) (iU j b) eY,k⟩
@[go_sem] def Kp:Spec:=⟨[nT,nT],fun d=>(.a_ (.int .i64) (fJ (N d.1) (N d.2.1)),[d.1.length<=16000000,d.2.1.length<=16000000])⟩
theorem KY:c6 Tryz.prog 84 Kp:=by
 refine gq (s:=Kp) Tryz.func84 rfl (by decide) fun d a ρ X w i j b=>?_;obtain⟨x,y,rfl,c,f⟩:=lp b;exact(ME x y 16000000 _ _ w (fP c _ a.1) (fP f _ a.2.1) (by decide)).mono fun e k ⟨g,h⟩=>⟨_,g,eO (BQ _ _),h⟩
@[go_sem] def Br:Spec:=⟨[nT],fun d=>(.a_ (.int .i64) (iq (N d.1):Int),[d.1.length<=16000000])⟩
theorem JI:c6 Tryz.prog 74 Br:=by
 refine gq (s:=Br) Tryz.func74 rfl (by decide) fun d a ρ X w h i c=>?_;obtain⟨x,rfl,b⟩:=rI c;have j:=Dl (Hr b);have k:=a.1;exact(ab6 x 16000000 _ w (fP b _ a.1) (by decide)).mono fun e l ⟨f,g⟩=>⟨_,f,Ol (by omega) (by omega),g⟩
@[go_sem] def Pu:Spec:=⟨[.int .u64],fun d=>(.a_ nT (dg d.1),[])⟩
theorem OQ:c6 Tryz.prog 22 Pu:=by
 refine gq (s:=Pu) Tryz.func22 rfl (by decide) fun d f ρ X w g b c=>?_;obtain⟨x,rfl,e⟩:=rI c;obtain⟨rfl,a⟩:=fI e;simp only[gG,lo,hi]at a;exact jH (rOf _ w a.1 (by omega)) b
@[go_sem] def AL:Spec:=⟨[nT,nT],fun d=>(.a_ .bool (decide (d.1=d.2.1)),[])⟩
theorem GA:c6 Tryz.prog 78 AL:=by
 refine gq (s:=AL) Tryz.func78 rfl (by decide) fun d h ρ X w i j a=>?_;obtain⟨x,y,rfl,b,c⟩:=lp a;exact(NU x y _ _ w (xm (gA rfl b)) (xm (gA rfl c))).mono fun e k ⟨f,g⟩=>⟨_,f,eY,g⟩
attribute [go_sem] List.map
def yz(E:Env)(st:St)(T:TypeId)(b:AV)(d:Nat):Option (St×List Prop) :=
 match elemOf E T with
 | some u=>match E.te T with
  | some e=>match E.te e.elem with
   | some a=>match Nat.ble 1 a.bytes with
    | true=>match Dg st.ck (.slice u) b with
     | some m=>some (⟨(d,.own st.nx)::st.sl,(st.nx,.row e.elem u m)::st.ck,st.nx+1⟩,[m.length*a.bytes<=140737488355328])
     | none=>none
    | false=>none
   | none=>none
  | none=>none
 | none=>none
theorem zf{E:Env}{st:St}{T:TypeId}{b:AV}{d:Nat}:pZ E st T (.val (.slice none 0 0)) b d=yz E st T b d:=rfl
theorem Mo{cf ck:List (Nat×CT)}{n n' c:Nat}:zQ cf ck n n' (.val (.slice none 0 0)) (.own c)=match kh cf c with
    | false=>[n<=c/\c<n']
    | true=>[False]:=rfl
def abT(mp:List (Nat×Nat))(nx i:Nat):AV :=
 match get? mp i with
 | none=>match Nat.ble (i+1) nx with|true=>.own i|false=>.any
 | some _=>.any
theorem JP{mp:List (Nat×Nat)}{nx i:Nat}:qa mp nx (.val (.slice none 0 0)) (.own i)=abT mp nx i:=rfl
attribute [go_sem] abT
theorem Ib{cf ck:List (Nat×CT)}{n n' c k:Nat}:zQ cf ck n n' (.val (.slice none 0 0)) (.iE c k)=match kh cf c with
    | false=>[n<=c/\c<n'/\k=0]
    | true=>[False]:=rfl
attribute [go_sem ↓] zf Mo Ib JP
attribute [go_sem] yz
@[go_sem] def Qg:List (Nat×TE):=[
 (3,⟨(.int .i64),0,8,0⟩),
 (4,⟨.bool,0,1,0⟩),
 (9,⟨.str,0,16,0⟩),
 (33,⟨(.slice (.int .u32)),73,24,0⟩),
 (35,⟨(.pair .bool (.pair (.slice (.int .u32)) (.slice (.int .u32)))),0,56,3⟩),
 (40,⟨(.int .i64),0,8,0⟩),
 (5,⟨(.int .u8),0,1,0⟩),
 (60,⟨(.int .u64),0,8,0⟩),
 (73,⟨(.int .u32),0,4,0⟩),
 (2,⟨(.int .i64),0,8,0⟩),
 (53,⟨(.int .u64),0,8,0⟩),
 (22,⟨(.slice (.int .i64)),3,24,0⟩),
 (12,⟨(.int .u64),0,8,0⟩),
 (13,⟨(.pair .str (.int .u64)),0,24,2⟩),
 (21,⟨(.int .i32),0,4,0⟩),
 (23,⟨(.slice (.pair .str (.pair (.int .i64) .bool))),75,24,0⟩),
 (24,⟨(.pair .str (.pair .bool (.slice (.pair .str (.pair (.int .i64) .bool))))),0,48,3⟩),
 (25,⟨(.pair .str (.pair .bool (.slice (.pair .str (.pair (.int .i64) .bool))))),0,48,3⟩),
 (26,⟨(.slice (.pair (.slice (.pair (.int .i64) (.pair (.int .i64) .str))) (.pair .bool (.pair (.slice (.int .u32)) (.slice (.int .u32)))))),37,24,0⟩),
 (27,⟨(.pair (.pair .str (.pair .bool (.slice (.pair .str (.pair (.int .i64) .bool))))) (.slice (.pair (.slice (.pair (.int .i64) (.pair (.int .i64) .str))) (.pair .bool (.pair (.slice (.int .u32)) (.slice (.int .u32))))))),0,72,2⟩),
 (28,⟨(.pair (.pair .str (.pair .bool (.slice (.pair .str (.pair (.int .i64) .bool))))) (.slice (.pair (.slice (.pair (.int .i64) (.pair (.int .i64) .str))) (.pair .bool (.pair (.slice (.int .u32)) (.slice (.int .u32))))))),0,72,2⟩),
 (29,⟨(.slice (.pair (.pair .str (.pair .bool (.slice (.pair .str (.pair (.int .i64) .bool))))) (.slice (.pair (.slice (.pair (.int .i64) (.pair (.int .i64) .str))) (.pair .bool (.pair (.slice (.int .u32)) (.slice (.int .u32)))))))),28,24,0⟩),
 (31,⟨(.slice (.pair (.int .i64) (.pair (.int .i64) .str))),55,24,0⟩),
 (32,⟨(.slice (.int .u32)),73,24,0⟩),
 (34,⟨(.pair .bool (.pair (.slice (.int .u32)) (.slice (.int .u32)))),0,56,3⟩),
 (36,⟨(.pair (.slice (.pair (.int .i64) (.pair (.int .i64) .str))) (.pair .bool (.pair (.slice (.int .u32)) (.slice (.int .u32))))),0,80,2⟩),
 (37,⟨(.pair (.slice (.pair (.int .i64) (.pair (.int .i64) .str))) (.pair .bool (.pair (.slice (.int .u32)) (.slice (.int .u32))))),0,80,2⟩),
 (50,⟨(.slice (.pair .str (.pair .bool (.slice (.pair .str (.pair (.int .i64) .bool)))))),25,24,0⟩),
 (54,⟨(.pair (.int .i64) (.pair (.int .i64) .str)),0,32,3⟩),
 (55,⟨(.pair (.int .i64) (.pair (.int .i64) .str)),0,32,3⟩),
 (74,⟨(.pair .str (.pair (.int .i64) .bool)),0,32,3⟩),
 (75,⟨(.pair .str (.pair (.int .i64) .bool)),0,32,3⟩),
 (85,⟨(.slice (.slice (.int .i64))),22,24,0⟩),
 (88,⟨(.slice (.int .i64)),2,24,0⟩),
 (116,⟨(.slice (.slice (.pair (.int .i64) (.pair (.int .i64) .str)))),31,24,0⟩)]
theorem aas:∀ x∈Qg,b_ Tryz.prog x.1 x.2:=by
 intro x a;simp only[Qg,Qv,QW,RV]at a;rcases a with rfl|rfl|rfl|rfl|rfl|rfl|rfl|rfl|rfl|rfl|rfl|rfl|rfl|rfl|rfl|rfl|rfl|rfl|rfl|rfl|rfl|rfl|rfl|rfl|rfl|rfl|rfl|rfl|rfl|rfl|rfl|rfl|rfl|rfl|rfl
 all_goals exact⟨by kernel_rfl,by kernel_rfl,by kernel_rfl,by kernel_rfl,by kernel_rfl⟩
@[go_sem] def sp2:List (Nat×Spec):=[(94,Iy),(59,JE),(110,Ja),(112,AB),(95,Kg),(113,s8),(58,G'),(79,A_),(132,Gy),(93,aaP),(124,Gz),(123,HL),(51,IN),(53,BG),(85,FV),(52,tt),(84,Kp),(74,Br),(22,Pu),(78,AL)]
@[go_sem] noncomputable def E2:Env:=⟨Tryz.prog,Qg,sp2,[]⟩
theorem Ky:Tryz.prog.follows .mixedOrders=true:=by kernel_rfl
theorem Dc:E2.Ok:=by
 refine⟨aas,fun x a=>?_,fun x a=>(by cases a),Ky⟩;simp only[E2,sp2,Qv,QW,RV]at a;rcases a with rfl|rfl|rfl|rfl|rfl|rfl|rfl|rfl|rfl|rfl|rfl|rfl|rfl|rfl|rfl|rfl|rfl|rfl|rfl|rfl
 ·exact L8
 ·exact Np
 ·exact MK
 ·exact GX
 ·exact KG
 ·exact Ae
 ·exact KL
 ·exact JL
 ·exact Ly
 ·exact aaw
 ·exact NA
 ·exact LY
 ·exact NJ
 ·exact GQ
 ·exact Lc
 ·exact z_
 ·exact KY
 ·exact JI
 ·exact OQ
 ·exact GA
@[go_sem] def Env.add(E:Env)(f:Nat)(s:Spec):Env:=⟨E.P,E.zR,(f,s)::E.sp,E.ms⟩
theorem Env.Ok.add{E:Env}(h:E.Ok){f:Nat}{s:Spec}(b:c6 E.P f s):(E.add f s).Ok :=
 ⟨h.ty,fun x a=>by
  rcases Qv.1 a with rfl|a
  ·exact b
  ·exact h.sp x a,h.ms,h.mx⟩
@[go_sem] def Env.jg(E:Env)(f:Nat)(s:iP):Env:=⟨E.P,E.zR,E.sp,(f,s)::E.ms⟩
theorem Env.Ok.jg{E:Env}(h:E.Ok){f:Nat}{s:iP}(b:gK E.P f s):(E.jg f s).Ok :=
 ⟨h.ty,h.sp,fun x a=>by
  rcases Qv.1 a with rfl|a
  ·exact b
  ·exact h.ms x a,h.mx⟩
def f0:fT.den:=(false,[],[])
theorem JW{neg:Bool}{n d:Int}(a:0<n)(b:0<d):qf (mk neg n d)=(neg,dg (n / fL n d),dg (d / fL n d)):=by
 obtain⟨c,e,g,f,h⟩:=ur (neg:=neg) a b;unfold qf;rw[c,e,zZ f,wv (by omega)]
theorem abJ:qf 0=(false,[],dg 1):=by decide +kernel
theorem ach:qf 1=(false,dg 1,dg 1):=by decide +kernel
theorem nM{n:Int}:(iq n:Int)=0↔n=0:=by
 unfold iq;split
 ·rename_i h; simp[h]
 ·rename_i h; simp[h]; omega
theorem dsN{l:List Int}(h:q_ nT l):0<=N l:=eQ fun d a=>sI.1 (h.2 d a)
theorem vl{l:List Int}(h:q_ nT l){c:Nat}(a:l.length<=c):N l<Bp c:=Tz (jA fun d b=>sI.1 (h.2 d b)) (iw a)
theorem tU{n:Int}{c k:Nat}(h0:0<=n)(h:n<Bp c)(hk:c<=k):(dg n).length<=k:=QL (oS h0 h) hk
theorem I5{x y:Int}{c:Nat}(a:x<Bp c)(b:y<Bp c):x+y<Bp (c+1):=by
 rw[Bp];have:=fK c;omega
theorem JF{x y:Int}(h:fJ x y=0):x=y:=by
 unfold fJ at h;split at h
 ·omega
 ·split at h
  ·assumption
  ·omega
structure Pt(f:fT.den)(c:Nat):Prop where
 n0:0<=N f.2.1
 d0:0<=N f.2.2
 nb:N f.2.1<Bp c
 db:N f.2.2<Bp c
 nl:f.2.1.length<=c
 dl:f.2.2.length<=c
theorem rM{f:fT.den}{c:Nat}(h:q_ fT f)(a:fs f<=c):Pt f c:=by
 have b:=UQ f.2.1.length f.2.2.length;have d:=TZ f.2.1.length f.2.2.length;have a:max f.2.1.length f.2.2.length<=c:=a;exact⟨dsN h.2.1,dsN h.2.2,vl h.2.1 (by omega),vl h.2.2 (by omega),by omega,by omega⟩
theorem mkz{b:Bool}{n d:Int}(h0:0<=n)(h1:0<=d)(h:iM (mk b n d)≠0):0<n/\0<d:=⟨(ot h0 h1 h).1,(ot h0 h1 h).2.1⟩
@[go_sem] def xK:Spec:=⟨[nT],fun d=>(.a_ .bool (decide (d.1=[1])),[])⟩
theorem yF:c6 Tryz.prog 111 xK:=by
 refine eT Dc xK Tryz.func111 rfl (by decide) (N:=12) rfl (res:=[.tmp 2]) rfl (by decide) [] [] [] 100 (by kernel_rfl) ?_;rintro⟨l,_⟩ c d;refine⟨rfl,fun H e=>?_⟩;dsimp only[go_sem]at c d ⊢;simp only[Qy];and_intros<;>try first|exact fun h=>h|trivial|(intro h; omega)|(rcases l with _|⟨a,_|⟨b,l⟩⟩<;>simp<;>omega)
@[go_sem] def A7:Spec:=⟨[],fun d=>(.a_ fT (qf 0),[])⟩
theorem IV:c6 Tryz.prog 109 A7:=by
 refine eT Dc A7 Tryz.func109 rfl (by decide) (N:=3) rfl (res:=[.cell 0 35]) rfl (by decide) [] [] [] 100 (by kernel_rfl) ?_;rintro⟨_⟩ a b;refine⟨rfl,fun H c=>?_⟩;dsimp only[go_sem]at a b ⊢;exact⟨abJ.symm,trivial⟩
@[go_sem] def H7:Spec:=⟨[],fun d=>(.a_ fT (qf 1),[])⟩
theorem LW:c6 Tryz.prog 61 H7:=by
 refine eT Dc H7 Tryz.func61 rfl (by decide) (N:=4) rfl (res:=[.cell 0 35]) rfl (by decide) [] [] [] 100 (by kernel_rfl) ?_;rintro⟨_⟩ a b;refine⟨rfl,fun H c=>?_⟩;dsimp only[go_sem]at a b ⊢;exact⟨ach.symm,trivial⟩
@[go_sem] noncomputable def EQ1:Env:=(((E2).add 111 xK).add 109 A7).add 61 H7
theorem Je:EQ1.Ok:=(((Dc).add yF).add IV).add LW
@[go_sem] def sY:Spec:=⟨[.bool,nT,nT],fun d=>(.a_ fT (qf (mk d.1 (N d.2.1) (N d.2.2.1))),[d.2.1.length<=16000000,d.2.2.1.length<=16000000])⟩
theorem Bt:c6 Tryz.prog 81 sY:=by
 refine eT Je sY Tryz.func81 rfl (by decide) (N:=52) rfl (res:=[.cell 6 35]) rfl (by decide) [] [] [] 100 (by kernel_rfl) ?_;rintro⟨b,n,d,_⟩ k l;refine⟨rfl,fun H r=>?_⟩;dsimp only[go_sem]at k l ⊢;obtain⟨-,m,o,-⟩:=k;obtain⟨a,c,-⟩:=l;have n0:=dsN m;have q:=dsN o;have p:(dg (fL (N n) (N d))).length<=16000000:=tU (Sy _) (yX n0 q (vl m a) (vl o c)) (Qu _);have g:N (dg (fL (N n) (N d)))=fL (N n) (N d):=iL (Sy _);have f:((decide ((iq (N n):Int)=0))||decide ((iq (N d):Int)=0))=false->0<N n/\0<N d:=fun h=>by
  rw[RG,Qw,Qw,nM,nM]at h;omega
 simp only[Su,R_];refine⟨a,fun _=>c,fun h=>⟨?_,trivial⟩,fun h=>⟨a,c,fun e=>⟨a,c,?_,trivial⟩,fun e=>⟨a,p,c,p,?_,trivial⟩⟩⟩
 ·rw[RE,Qy,Qy,nM,nM]at h;rw[mk_zero h]
 ·obtain⟨i,j⟩:=f h;have e:dg (fL (N n) (N d))=[1]:=QF e;rw[e]at g;have g:fL (N n) (N d)=1:=g.symm.trans (by decide);rw[JW i j,g,Vt,Vt]
 ·obtain⟨i,j⟩:=f h;rw[JW i j,g]
@[go_sem] noncomputable def EQ2:Env:=(EQ1).add 81 sY
theorem wq:EQ2.Ok:=(Je).add Bt
@[go_sem] def Ag:Spec:=⟨[fT],fun d=>(.a_ fT (qf (fq d.1)),[fs d.1<=5000000])⟩
theorem IW:c6 Tryz.prog 45 Ag:=by
 refine eT wq Ag Tryz.func45 rfl (by decide) (N:=10) rfl (res:=[.cell 2 35]) rfl (by decide) [] [] [] 100 (by kernel_rfl) ?_;rintro⟨f,_⟩ a b;refine⟨rfl,fun H c=>?_⟩;dsimp only[go_sem]at a b ⊢;have h:=rM a.1 b.1;exact⟨QL h.nl (by decide),QL h.dl (by decide),rfl,trivial⟩
@[go_sem] def Bd:Spec:=⟨[fT],fun d=>(.a_ (.int .i64) (iM (fq d.1)),[fs d.1<=5000000])⟩
theorem GW:c6 Tryz.prog 49 Bd:=by
 refine eT wq Bd Tryz.func49 rfl (by decide) (N:=15) rfl (res:=[.tmp 2]) rfl (by decide) [] [] [] 100 (by kernel_rfl) ?_;rintro⟨f,_⟩ a c;refine⟨rfl,fun H i=>?_⟩;dsimp only[go_sem]at a c ⊢;have h:=rM a.1 c.1;simp only[Su,R_];refine⟨QL h.nl (by decide),fun _=>QL h.dl (by decide),fun e=>⟨?_,trivial⟩,fun e=>?_⟩
 ·rw[RE,Qy,Qy,nM,nM]at e;unfold fq;rw[mk_zero e]; rfl
 ·rw[RG,Qw,Qw,nM,nM]at e;have j:=h.n0;have k:=h.d0;have g:=BF (neg:=f.1) (n:=N f.2.1) (d:=N f.2.2) (by omega) (by omega);unfold fq;rw[g];exact⟨fun b=>by rw[b]; exact⟨rfl,trivial⟩,fun b=>by rw[b]; exact⟨rfl,trivial⟩⟩
@[go_sem] def Jl:Spec:=⟨[fT],fun d=>(.a_ fT ((!d.1.1,d.1.2.1,d.1.2.2):fT.den),[])⟩
theorem MZ:c6 Tryz.prog 92 Jl:=by
 refine eT wq Jl Tryz.func92 rfl (by decide) (N:=11) rfl (res:=[.cell 2 35]) rfl (by decide) [] [] [] 100 (by kernel_rfl) ?_;rintro⟨f,_⟩ a b;refine⟨rfl,fun H c=>?_⟩;dsimp only[go_sem]at a b ⊢;exact⟨rfl,trivial⟩
@[go_sem] noncomputable def EQ3:Env:=(((EQ2).add 45 Ag).add 49 Bd).add 92 Jl
theorem Ap:EQ3.Ok:=(((wq).add IW).add GW).add MZ
@[go_sem] def GU:Spec:=⟨[fT,fT],fun d=>(.a_ (.int .i64) (jX (fq d.1) (fq d.2.1)),[fs d.1<=5000000,fs d.2.1<=5000000])⟩
theorem MS:c6 Tryz.prog 27 GU:=by
 refine eT Ap GU Tryz.func27 rfl (by decide) (N:=32) rfl (res:=[.tmp 4]) rfl (by decide) [] [] [] 100 (by kernel_rfl) ?_;rintro⟨f,g,_⟩ j i;refine⟨rfl,fun H B=>?_⟩;dsimp only[go_sem]at j i ⊢;have c:=rM j.1 i.1;have d:=rM j.2.1 i.2.1;have n:=lC c.n0 c.nb d.d0 d.db;have o:=lC d.n0 d.nb c.d0 c.db;have k:0<=N f.2.1*N g.2.2:=Ss c.n0 d.d0;have l:0<=N g.2.1*N f.2.2:=Ss d.n0 c.d0;rw[iL k,iL l];refine⟨i.1,i.2.1,fun h=>⟨fun e=>⟨?_,trivial⟩,fun e=>⟨?_,trivial⟩⟩,fun h=>⟨fun e=>⟨?_,trivial⟩,fun e=>⟨QL c.nl (by decide),QL d.dl (by decide),QL d.nl (by decide),QL c.dl (by decide),tU k n (by decide),tU l o (by decide),?_,?_,trivial⟩⟩⟩<;>simp only[Qy,Qw,Rp]at h e
 ·rw[DJ h,QJ e]
 ·rw[DJ h,QC e]
 ·rw[EO h e]
 ·have C:=kB (fq f);have m:=Mp (N f.2.1*N g.2.2) (N g.2.1*N f.2.2);have:=Fq (a:=iM (fq f)) (b:=fJ (N f.2.1*N g.2.2) (N g.2.1*N f.2.2)) (by omega) (by omega) m.1 m.2;simp only[gG,lo,hi]; omega
 ·have p:iM (fq g)≠0:=by rw[<-h]; exact e
  obtain⟨q,s,t⟩:=ot c.n0 c.d0 e;obtain⟨u,v,x⟩:=ot d.n0 d.d0 p;have y:f.1=g.1:=by
   have h:iM (mk f.1 (N f.2.1) (N f.2.2))=iM (mk g.1 (N g.2.1) (N g.2.2)):=h;rw[t,x]at h;cases z:f.1<;>cases A:g.1<;>simp[z,A]at h ⊢
  have:=Et (r:=f.1) q s u v;unfold fq;rw[<-y];exact this.symm
@[go_sem] def FU:Spec:=⟨[fT,fT],fun d=>(.a_ fT (qf (fq d.1+fq d.2.1)),[fs d.1<=5000000,fs d.2.1<=5000000])⟩
theorem LH:c6 Tryz.prog 62 FU:=by
 refine eT Ap FU Tryz.func62 rfl (by decide) (N:=84) rfl (res:=[.cell 4 35]) rfl (by decide) [] [] [] 100 (by kernel_rfl) ?_;rintro⟨f,g,_⟩ C n;refine⟨rfl,fun H T=>?_⟩;dsimp only[go_sem]at C n ⊢;have d:=rM C.1 n.1;have i:=rM C.2.1 n.2.1;have D:=lC d.n0 d.nb i.d0 i.db;have E:=lC i.n0 i.nb d.d0 d.db;have P:=lC d.d0 d.db i.d0 i.db;have u:0<=N f.2.1*N g.2.2:=Ss d.n0 i.d0;have v:0<=N g.2.1*N f.2.2:=Ss i.n0 d.d0;have L:0<=N f.2.2*N g.2.2:=Ss d.d0 i.d0;have F:(dg (N f.2.1*N g.2.2)).length<=16000000:=tU u D (by decide);have G:(dg (N g.2.1*N f.2.2)).length<=16000000:=tU v E (by decide);have I:(dg (N f.2.2*N g.2.2)).length<=16000000:=tU L P (by decide);have z:=QL d.nl (show 5000000<=16000000 by decide);have s:=QL d.dl (show 5000000<=16000000 by decide);have A:=QL i.nl (show 5000000<=16000000 by decide);have J:=QL i.dl (show 5000000<=16000000 by decide);have Q:=I5 D E;have R:=I5 d.nb i.nb;have M:=d.n0;have O:=i.n0;rw[iL u,iL v,iL L];have k:∀{x y:Int}{c:Nat},0<=x->0<=y->x<Bp c->c<=16000000->y<=x->(if y<=x then x-y else 0)=x-y/\(dg (x-y)).length<=16000000/\N (dg (x-y))=x-y:=fun{x y c} U V W S h=>⟨QJ h,tU (by omega) (show x-y<Bp c by omega) S,iL (by omega)⟩;refine⟨n.1,fun e=>⟨n.2.1,?_,trivial⟩,fun e=>⟨n.2.1,fun t=>⟨n.1,?_,trivial⟩,fun t=>⟨s,J,fun B=>⟨z,J,A,s,s,J,fun b=>⟨F,G,tU (by omega) Q (by decide),I,?_,trivial⟩,fun b=>⟨F,G,fun l=>?_,fun l=>⟨G,F,?_⟩⟩⟩,fun B=>⟨fun b=>⟨z,A,tU (by omega) R (by decide),s,?_,trivial⟩,fun b=>⟨z,A,fun l=>?_,fun l=>⟨A,z,?_⟩⟩⟩⟩⟩⟩<;>simp only[Qy,Qw]at e
 ·rw[j0.1 e,Rat.zero_add]
 ·rw[j0.1 (QF t),Rat.add_zero]
 all_goals have t:iM (fq g)≠0:=QN t
 all_goals obtain⟨Y,j⟩:=mkz d.n0 d.d0 e
 all_goals obtain⟨Z,m⟩:=mkz i.n0 i.d0 t
 ·have b:f.1=g.1:=QF b;rw[iL (by omega)];unfold fq;rw[lH (p:=f.1) (a:=N f.2.1) j m,lH (p:=g.1) (a:=N g.2.1) m j,RO (N g.2.2) (N f.2.2),<-b,Cb (VE j m)]
 ·have b:f.1≠g.1:=QN b;obtain⟨o,q,r⟩:=k u v D (by decide) (QF l);rw[o,r];refine⟨q,I,?_,trivial⟩;unfold fq;rw[lH (p:=f.1) (a:=N f.2.1) j m,lH (p:=g.1) (a:=N g.2.1) m j,RO (N g.2.2) (N f.2.2),(qq (VE j m) b).1]
 ·have b:f.1≠g.1:=QN b;have l:¬N g.2.1*N f.2.2<=N f.2.1*N g.2.2:=QN l;obtain⟨o,q,r⟩:=k v u E (by decide) (by omega);rw[o,r];refine⟨q,I,?_,trivial⟩;unfold fq;rw[lH (p:=f.1) (a:=N f.2.1) j m,lH (p:=g.1) (a:=N g.2.1) m j,RO (N g.2.2) (N f.2.2),(qq (VE j m) b).2]
 all_goals have B:fJ (N f.2.2) (N g.2.2)=0:=Rp.1 (QN B)
 all_goals have K:N f.2.2=N g.2.2:=JF B
 ·have b:f.1=g.1:=QF b;rw[iL (by omega)];unfold fq;rw[<-b,<-K,Cb j]
 ·have b:f.1≠g.1:=QN b;obtain⟨o,q,r⟩:=k M O d.nb (by decide) (QF l);rw[o,r];refine⟨q,s,?_,trivial⟩;unfold fq;rw[<-K,(qq j b).1]
 ·have b:f.1≠g.1:=QN b;have l:¬N g.2.1<=N f.2.1:=QN l;obtain⟨o,q,r⟩:=k O M i.nb (by decide) (by omega);rw[o,r];refine⟨q,s,?_,trivial⟩;unfold fq;rw[<-K,(qq j b).2]
@[go_sem] noncomputable def EQ4:Env:=((EQ3).add 27 GU).add 62 FU
theorem Jk:EQ4.Ok:=((Ap).add MS).add LH
@[go_sem] def Gt:Spec:=⟨[fT,fT],fun d=>(.a_ fT (qf (fq d.1-fq d.2.1)),[fs d.1<=5000000,fs d.2.1<=5000000])⟩
theorem LR:c6 Tryz.prog 60 Gt:=by
 refine eT Jk Gt Tryz.func60 rfl (by decide) (N:=9) rfl (res:=[.cell 4 35]) rfl (by decide) [] [] [] 100 (by kernel_rfl) ?_;rintro⟨f,g,_⟩ b a;refine⟨rfl,fun H c=>?_⟩;dsimp only[go_sem]at b a ⊢;refine⟨a.1,a.2.1,?_,trivial⟩;have e:fq (!g.1,g.2) = -fq g:=by unfold fq; rw[zY]
 rw[e,U8]
@[go_sem] noncomputable def EQ5:Env:=(EQ4).add 60 Gt
theorem xJ:EQ5.Ok:=(Jk).add LR
@[go_sem] def wQ:Spec:=⟨[fT],fun d=>(.a_ fT (qf (1-fq d.1)),[fs d.1<=5000000])⟩
theorem EH:c6 Tryz.prog 28 wQ:=by
 refine eT xJ wQ Tryz.func28 rfl (by decide) (N:=6) rfl (res:=[.cell 2 35]) rfl (by decide) [] [] [] 100 (by kernel_rfl) ?_;rintro⟨f,_⟩ b a;refine⟨rfl,fun H c=>?_⟩;dsimp only[go_sem]at b a ⊢;refine⟨QL (show fs (qf 1)<=1 by rw[ach]; decide +kernel) (by decide),a.1,?_,trivial⟩;rw[jo]
@[go_sem] def Ao:Spec:=⟨[.int .i64],fun d=>(.a_ nT (dg (d.1.natAbs:Int)),[])⟩
theorem Iw:c6 Tryz.prog 82 Ao:=by
 refine eT xJ Ao Tryz.func82 rfl (by decide) (N:=14) rfl (res:=[.tmp 2]) rfl (by decide) [] [] [] 100 (by kernel_rfl) ?_;rintro⟨(n:Int),_⟩ a b;refine⟨rfl,fun H c=>?_⟩;dsimp only[go_sem]at a b ⊢;simp only[gG,lo,hi]at a ⊢;refine⟨fun h=>⟨by have:=QF h; omega,by have:=QF h; omega,by have:=QF h; omega,by have:=QF h; omega,?_,trivial⟩,fun h=>⟨by have:=QN h; omega,?_,trivial⟩⟩
 ·have h:n<0:=QF h;congr 1; omega
 ·have h:¬n<0:=QN h;congr 1; omega
@[go_sem] def BA:Spec:=⟨[.bool,nT,nT],fun d=>(.a_ fT (qf (mk d.1 (N d.2.1) (N d.2.2.1))),[d.2.1.length<=16000000,d.2.2.1.length<=16000000])⟩
theorem Hf:c6 Tryz.prog 21 BA:=by
 refine eT xJ BA Tryz.func21 rfl (by decide) (N:=49) rfl (res:=[.cell 6 35]) rfl (by decide) [] [] [] 100 (by kernel_rfl) ?_;rintro⟨b,n,d,_⟩ l m;refine⟨rfl,fun H q=>?_⟩;dsimp only[go_sem]at l m ⊢;obtain⟨-,i,j,-⟩:=l;obtain⟨a,c,-⟩:=m;have n0:=dsN i;have k:=dsN j;have f:0<=fL (N n) (N d):=Sy _;have o:(dg (fL (N n) (N d))).length<=16000000:=tU f (yX n0 k (vl i a) (vl j c)) (Qu _);have g:∀ x:Int,0<=x->(((dg x).length:Int)=0↔x=0):=fun x p=>by
  have h:=(jZ x).zero;rw[iL p]at h;rw[h,<-SH];omega
 rw[iL f];simp only[Su,R_];refine⟨a,c,a,o,c,o,fun h=>⟨?_,trivial⟩,fun h=>⟨?_,trivial⟩⟩
 ·rw[RE,RE,Sv,Qw,Qy,Qy,g _ (Sn n0 f),g _ (Sn k f),Rp]at h;have:N n=0∨N d=0:=by
   refine Wv fun e=>?_;obtain⟨r,s,t,u,v⟩:=ur (neg:=b) (n:=N n) (d:=N d) (by omega) (by omega);omega
  rw[mk_zero this,abJ]
 ·rw[RG,RG,Uw,Qy,Qw,Qw,g _ (Sn n0 f),g _ (Sn k f)]at h;have i:N n≠0:=fun e=>h.1.2 (by rw[e,WB]);have j:N d≠0:=fun e=>h.2 (by rw[e,WB]);rw[JW (by omega) (by omega)]
@[go_sem] noncomputable def EQ6:Env:=((EQ5).add 82 Ao).add 21 BA
theorem sR:EQ6.Ok:=((xJ).add Iw).add Hf
@[go_sem] def xr:Spec:=⟨[fT],fun d=>(.a_ fT (qf (fq d.1)),[fs d.1<=5000000])⟩
theorem Ee:c6 Tryz.prog 75 xr:=by
 refine eT sR xr Tryz.func75 rfl (by decide) (N:=10) rfl (res:=[.cell 2 35]) rfl (by decide) [] [] [] 100 (by kernel_rfl) ?_;rintro⟨f,_⟩ a b;refine⟨rfl,fun H c=>?_⟩;dsimp only[go_sem]at a b ⊢;have h:=rM a.1 b.1;exact⟨QL h.nl (by decide),QL h.dl (by decide),rfl,trivial⟩
@[go_sem] def Aa:Spec:=⟨[fT],fun d=>(.a_ fT (qf (-fq d.1)),[fs d.1<=5000000])⟩
theorem JC:c6 Tryz.prog 131 Aa:=by
 refine eT sR Aa Tryz.func131 rfl (by decide) (N:=11) rfl (res:=[.cell 2 35]) rfl (by decide) [] [] [] 100 (by kernel_rfl) ?_;rintro⟨f,_⟩ a b;refine⟨rfl,fun H c=>?_⟩;dsimp only[go_sem]at a b ⊢;have h:=rM a.1 b.1;refine⟨QL h.nl (by decide),QL h.dl (by decide),?_,trivial⟩;unfold fq;rw[zY]
@[go_sem] def xg:Spec:=⟨[fT,fT],fun d=>(.a_ .bool (decide (d.1.1=d.2.1.1/\d.1.2.1=d.2.1.2.1/\d.1.2.2=d.2.1.2.2)),[])⟩
theorem FC:c6 Tryz.prog 40 xg:=by
 refine eT sR xg Tryz.func40 rfl (by decide) (N:=24) rfl (res:=[.tmp 4]) rfl (by decide) [] [] [] 100 (by kernel_rfl) ?_;rintro⟨f,g,_⟩ a b;refine⟨rfl,fun H c=>?_⟩;dsimp only[go_sem]at a b ⊢;simp only[Su,R_];refine⟨?_,trivial⟩;rw[Bool.decide_and,Bool.decide_and,Wm]
@[go_sem] def A':Spec:=⟨[.int .i64,.int .i64],fun d=>(.js (.cons (.a_ fT (if d.2.1=(0:Int)then f0 else qf (Rat.divInt d.1 d.2.1))) (.cons (.a_ (.int .i64) (if d.2.1=(0:Int)then 20 else 0)) .nil)),[])⟩
theorem IX:c6 Tryz.prog 50 A':=by
 refine eT sR A' Tryz.func50 rfl (by decide) (N:=19) rfl (res:=[.cell 4 35,.tmp 5]) rfl (by decide) [] [] [] 100 (by kernel_rfl) ?_;rintro⟨(n:Int),(d:Int),_⟩ a e;refine⟨rfl,fun H g=>?_⟩;dsimp only[go_sem]at a e ⊢;have b:∀ x:Int,gG .i64 x->(dg (x.natAbs:Int)).length<=16000000:=fun x f=>by
  simp only[gG,lo,hi]at f;have i:Bp 2=18446744073709551616:=by decide
  exact tU (c:=2) (by omega) (by omega) (by decide)
 refine⟨fun h=>?_,fun h=>⟨b n a.1,b d a.2.1,rfl,rfl,?_,rfl,?_,trivial⟩⟩
 ·have h:d=0:=QF h;rw[QJ h,QJ h];exact⟨rfl,rfl,rfl,rfl,rfl,trivial⟩
 ·have h:d≠0:=QN h;rw[QC h,iL (by omega),iL (by omega),<-Pw h];congr 2;cases decide (n<0)<;>cases decide (d<0)<;>rfl
 ·have h:d≠0:=QN h;rw[QC h]
@[go_sem] noncomputable def EQ7:Env:=((((EQ6).add 75 xr).add 131 Aa).add 40 xg).add 50 A'
theorem Ia:EQ7.Ok:=((((sR).add Ee).add JC).add FC).add IX
@[go_sem] def AH:Spec:=⟨[.int .i64],fun d=>(.a_ fT (qf (bfr d.1)),[])⟩
theorem Gs:c6 Tryz.prog 20 AH:=by
 refine eT Ia AH Tryz.func20 rfl (by decide) (N:=17) rfl (res:=[.cell 2 35]) rfl (by decide) [] [] [] 100 (by kernel_rfl) ?_;rintro⟨(n:Int),_⟩ a b;refine⟨rfl,fun H g=>?_⟩;dsimp only[go_sem]at a b ⊢;have c:ij .and .i64 n 63=n % 64:=sP n 6 (by omega);have d:kr .i64 n 6=n / 64:=U1 _ (by decide);have e:ij .and .i64 (n / 64) 31=n / 64 % 32:=sP (n / 64) 5 (by omega);have f:¬(n / 64 % 32+1=0):=by omega
 rw[c,d,e];refine⟨by simp only[gG,lo,hi]; omega,by decide,by simp only[gG,lo,hi]; omega,QC f,trivial⟩
@[go_sem] noncomputable def E3:Env:=((EQ7).add 20 AH).add 28 wQ
theorem c_:E3.Ok:=((Ia).add Gs).add EH
attribute [simp] jo
def qs(q:Rat):Nat:=fs (qf q)
theorem ig(q:Rat):fs (qf q)=qs q:=rfl
theorem rU{q:Rat}{c:Nat}(h:Qb c q):qs q<=c:=by
 unfold qs fs qf;exact Nat.max_le.2 ⟨oS (by omega) h.1,oS (by omega) h.2⟩
theorem Ob{l:List Int}{n:Int}(h:Canon l)(a:N l=n){c:Nat}(b:l.length<=c):n<Bp c:=by
 rw[<-a]; exact Tz (jA h.1) (iw b)
theorem rZ(q:Rat):Qb (qs q) q:=by
 unfold qs fs qf;exact⟨Ob (jZ _) (iL (by omega)) (UQ _ _),Ob (jZ _) (iL (by omega)) (TZ _ _)⟩
theorem PX(q:Rat):1<=qs q:=by
 rcases Sc (qs q)with h|h
 ·have:=(rZ q).2;rw[h]at this;have a:Bp 0=1:=rfl;rw[a]at this;have:=q.den_pos;omega
 ·exact h
theorem aaI(p q:Rat):qs (p+q)<=qs p+qs q+1:=rU ((rZ p).add (rZ q))
theorem pk(p q:Rat):qs (p-q)<=qs p+qs q+1:=rU ((rZ p).sub (rZ q))
theorem Po(p q:Rat):qs (p*q)<=qs p+qs q:=rU ((rZ p).mul (rZ q) (PX p))
theorem aaL(p:Rat):qs (-p)<=qs p:=rU (rZ p).neg
theorem LC:qs 0<=1:=rU Qb.zero
theorem mm:qs 1<=1:=rU Qb.one
theorem N4{l:List Int}(h:Ds l){c:Nat}(a:l.length<=c):N l<Bp c:=Tz (jA h) (iw a)
def Fd(f:fT.den):Prop:=Ds f.2.1/\Ds f.2.2
theorem oH{f:fT.den}(h:Fd f):qs (fq f)<=fs f+1:=by
 refine rU (acm (eQ h.1) (N4 h.1 ?_) (N4 h.2 ?_) (by omega))
 ·have:=UQ f.2.1.length f.2.2.length; unfold fs; omega
 ·have:=TZ f.2.1.length f.2.2.length; unfold fs; omega
theorem Kb(q:Rat):(qf q).2.1.length=0↔q=0:=by
 have a:=(jZ (q.num.natAbs:Int)).zero;rw[iL (by omega)]at a;show(dg (q.num.natAbs:Int)).length=0↔q=0;rw[SH,<-a,<-Wg];omega
theorem nu(q:Rat):(qf q).1=decide (q.num<0):=rfl
theorem BM(q:Rat):N (qf q).2.1=(q.num.natAbs:Int):=iL (by omega)
theorem Dn(q:Rat):N (qf q).2.2=(q.den:Int):=iL (by omega)
theorem Dj(q:Rat):(qf q).2.1.length<=qs q:=UQ _ _
theorem Ck(q:Rat):(qf q).2.2.length<=qs q:=TZ _ _
theorem Dt(n:Int):Ds (dg n):=(jZ n).1
theorem qG(q:Rat):Ds (qf q).2.1:=Dt _
theorem lD(q:Rat):Ds (qf q).2.2:=Dt _
theorem Ak{l k:List Int}(a:Ds l)(hk:Ds k):(dg (N l*N k)).length<=l.length+k.length:=by
 refine oS (Ss (eQ a) (eQ hk)) ?_;rw[re];have b:=jA a;have d:=jA hk;have c:=eQ a;have e:=eQ hk;have f:=QU (show N k<=Bp k.length by omega) c;have g:=Ue b (show 0<Bp k.length by have:=fK k.length; omega);omega
theorem O9{l k:List Int}(a:Ds l)(hk:Ds k):(dg (N l+N k)).length<=l.length+k.length+1:=by
 refine oS (by have:=eQ a; have:=eQ hk; omega) ?_;have d:=jA a;have e:=jA hk;have f:=iw (show l.length<=l.length+k.length by omega);have g:=iw (show k.length<=l.length+k.length by omega);have b:=re (l.length+k.length) 1;have c:Bp 1=4294967296:=by decide
 have h:=fK (l.length+k.length);rw[c]at b;omega
theorem BZ{a b:Int}(h0:0<=a)(h:a<=b):(dg a).length<=(dg b).length:=by
 refine oS h0 ?_;have:=jA (jZ b).1;rw[iL (by omega)]at this;omega
theorem ya{n:Int}(h0:0<=n)(h:n<18446744073709551616):(dg n).length<=2:=by
 have e:Bp 2=18446744073709551616:=by decide
 exact oS h0 (by rw[e]; exact h)
theorem B_(X Y:Rat):X+Y=mkRat (sg (decide (X.num<0)) (X.num.natAbs:Int)*(Y.den:Int)+sg (decide (Y.num<0)) (Y.num.natAbs:Int)*(X.den:Int)) (X.den*Y.den):=by
 have:=Bi (decide (X.num<0)) (decide (Y.num<0)) (X.num.natAbs:Int) (X.den:Int) (Y.num.natAbs:Int) (Y.den:Int) (by have:=X.den_pos; omega) (by have:=Y.den_pos; omega);rw[wL,wL]at this;rw[this];simp
theorem c9{n:Int}:gG .i64 n↔-9223372036854775808<=n/\n<=9223372036854775807:=Wj
@[reducible,go_sem] def eK:Ty:=.pair (.int .i64) (.pair (.int .i64) .str)
abbrev pc:=List UInt8
abbrev fS:=Int×Int×pc
theorem fW{a:Type}{l:List a}{i:Nat}(d:a)(h:i<l.length):l.getD i d∈l:=by
 rw[Qz,Qr h];exact Tf h
theorem kz{a:Type}{l:List a}{i:Nat}(d:a)(h:i<l.length):l.take (i+1)=l.take i++[l.getD i d]:=by
 rw[UC,Qz,Qr h];rfl
theorem nG(a b:Prop):(a->b->a/\b)↔True:=iff_true_intro fun c d=>⟨c,d⟩
theorem qL {P:Program}{f:FuncId}{s:iP}{fn:Func} (a:P.funcs[f]?=some fn) (c:fn.body.isSome=true) (g:(fn.name == "runtime.NumGoroutine")=false)
    (h:∀ d,eP (s.F d).pre->∀ ρ0 X w vs,(∀ b,X b->b<w.heap.size)->Fr w X ρ0 0 ⟨[],o7 s.ko d 0,x_ s.ko⟩ ρ0 gu w->m ρ0 (XX X ρ0 (o7 s.ko d 0)) w (tm s.ko d 0) vs ->
     Calls P f vs.toArray w (fun e w'=>∃ v ρ',e=.returned v/\Fr w X ρ0 0 ⟨[],(s.F d).ck,(s.F d).nx⟩ ρ' gu w'/\m ρ' (XX X ρ' (s.F d).ck) w' (s.F d).out [v])):gK P f s :=
 fun d i=>⟨fun args w=>e_ a c g args w,h d i⟩
def cI(a b:Int):Int:=if a<b then -1 else if b<a then 1 else 0
def cB(a b:pc):Int:=Lib.compareBytes a b
def cV(a b:fS):Int:=if cI a.1 b.1≠0 then cI a.1 b.1 else if cI a.2.1 b.2.1≠0 then cI a.2.1 b.2.1 else cB a.2.2 b.2.2
def cT:List fS->List fS->Int
 | [],[]=>0
 | [],_::_ => -1
 | _::_,[]=>1
 | a::l,b::m=>if cV a b≠0 then cV a b else cT l m
def Ph(l:List Int):Int:=(l.find? fun x=>decide (x≠0)).getD 0
@[go_sem] def BX:Spec:=⟨[.int .i64],fun d=>(.a_ .bool false,[])⟩
theorem Cv:c6 Tryz.prog 118 BX:=by
 refine eT c_ BX Tryz.func118 rfl (by decide) (N:=6) rfl (res:=[.tmp 2]) rfl (by decide) [] [] [] 100 (by kernel_rfl) ?_;rintro⟨x,_⟩ a b;refine⟨rfl,fun H c=>?_⟩;dsimp only[go_sem]at a b ⊢;simp
@[go_sem] def Cy:Spec:=⟨[.int .i64],fun d=>(.a_ .bool false,[])⟩
theorem Cz:c6 Tryz.prog 119 Cy:=by
 refine eT c_ Cy Tryz.func119 rfl (by decide) (N:=6) rfl (res:=[.tmp 2]) rfl (by decide) [] [] [] 100 (by kernel_rfl) ?_;rintro⟨x,_⟩ a b;refine⟨rfl,fun H c=>?_⟩;dsimp only[go_sem]at a b ⊢;simp
@[go_sem] noncomputable def EV1:Env:=((E3).add 118 BX).add 119 Cy
theorem AT:EV1.Ok:=((c_).add Cv).add Cz
@[go_sem] def Dm:Spec:=⟨[.int .i64,.int .i64],fun d=>(.a_ (.int .i64) (cI d.1 d.2.1),[])⟩
theorem Dk:c6 Tryz.prog 97 Dm:=by
 refine eT AT Dm Tryz.func97 rfl (by decide) (N:=20) rfl (res:=[.tmp 4]) rfl (by decide) [] [] [] 100 (by kernel_rfl) ?_;rintro⟨(x:Int),(y:Int),_⟩ b c;refine⟨rfl,fun H d=>?_⟩;dsimp only[go_sem]at b c ⊢;unfold cI;refine⟨fun h=>(by cases h),fun _=>⟨fun h=>(by cases h),fun _=>⟨fun h=>?_,fun h=>⟨fun a=>?_,fun a=>?_⟩⟩⟩⟩
 ·rw[QJ (QF h)]; exact⟨rfl,trivial⟩
 ·rw[QC (QN h),QJ (QF a)]; exact⟨rfl,trivial⟩
 ·rw[QC (QN h),QC (QN a)]; exact⟨rfl,trivial⟩
@[go_sem] def C8:Spec:=⟨[.int .i64,.int .i64],fun d=>(.a_ (.int .i64) (cI d.1 d.2.1),[])⟩
theorem Ea:c6 Tryz.prog 98 C8:=by
 refine eT AT C8 Tryz.func98 rfl (by decide) (N:=20) rfl (res:=[.tmp 4]) rfl (by decide) [] [] [] 100 (by kernel_rfl) ?_;rintro⟨(x:Int),(y:Int),_⟩ b c;refine⟨rfl,fun H d=>?_⟩;dsimp only[go_sem]at b c ⊢;unfold cI;refine⟨fun h=>(by cases h),fun _=>⟨fun h=>(by cases h),fun _=>⟨fun h=>?_,fun h=>⟨fun a=>?_,fun a=>?_⟩⟩⟩⟩
 ·rw[QJ (QF h)]; exact⟨rfl,trivial⟩
 ·rw[QC (QN h),QJ (QF a)]; exact⟨rfl,trivial⟩
 ·rw[QC (QN h),QC (QN a)]; exact⟨rfl,trivial⟩
@[go_sem] def Qd:Spec:=⟨[.str,.str],fun d=>(.a_ (.int .i64) (cB d.1 d.2.1),[])⟩
theorem Hj:∀ a b:pc,-1<=cB a b/\cB a b<=1
 | [],[]=>by decide
 | [],_::_=>by unfold cB Lib.compareBytes; decide
 | _::_,[]=>by unfold cB Lib.compareBytes; decide
 | a::r,b::t=>by
  have:=Hj r t;unfold cB at this ⊢;unfold Lib.compareBytes;split
  ·decide
  ·split
   ·decide
   ·exact this
theorem F7:c6 Tryz.prog 99 Qd:=by
 refine gq Tryz.func99 rfl (by decide) fun d l m X w n o g=>?_;obtain⟨a,b,u⟩:=d;obtain⟨x,y,rfl,⟨p,⟨h,_⟩,c⟩,⟨q,⟨i,_⟩,f⟩⟩:=lp g;subst h;subst i;have c:=(QB c).1;have f:=(QB f).1;subst c;subst f;refine(Tryz.strings_Compare ⟨a.toArray⟩ ⟨b.toArray⟩ w).mono fun e r ⟨j,k⟩=>?_;subst k;have s:=Hj a b;refine⟨.int .i64 (cB a b),by rw[j]; rfl,⟨[.int .i64 (cB a b)],⟨rfl,by show gG .i64 (cB a b); rw[c9]; omega⟩,rfl⟩,QG _ _⟩
@[go_sem] noncomputable def EV2:Env:=(((EV1).add 97 Dm).add 98 C8).add 99 Qd
theorem Ku:EV2.Ok:=(((AT).add Dk).add Ea).add F7
theorem PO{l:List Int}{i:Nat}(hi:i<l.length)(h:l.getD i 0≠0)(a:∀ j,j<i->l.getD j 0=0):Ph l=l.getD i 0:=by
 have e:l[i]?=some (l.getD i 0):=by rw[Qz,Qr hi]; rfl
 have:l.find? (fun x=>decide (x≠0))=some (l.getD i 0):=by
  rw[List.find?_eq_some_iff_getElem];refine⟨QY h,i,hi,?_,fun j b=>?_⟩
  ·rw[Qr hi]at e; exact Rk e
  ·have:=a j b;rw[Qz,Qr (by omega)]at this;simp only[SO]at this;simp[this]
 unfold Ph; rw[this]; rfl
theorem Hy{l:List Int}(h:∀ j,j<l.length->l.getD j 0=0):Ph l=0:=by
 have:l.find? (fun x=>decide (x≠0))=none:=by
  rw[List.find?_eq_none];intro x a;obtain⟨i,hi,e⟩:=Rz.1 a;have:=h i hi;rw[Qz,Qr hi]at this;simp only[SO]at this;rw[<-e,this]; decide
 unfold Ph; rw[this]; rfl
@[go_sem] def L5:Spec:=⟨[.slice (.int .i64)],fun d=>(.a_ (.int .i64) (Ph d.1),[List.length d.1<=1000])⟩
theorem Jo:c6 Tryz.prog 96 L5:=by
 refine eT Ku L5 Tryz.func96 rfl (by decide) (N:=18) rfl (res:=[.tmp 2]) rfl (by decide) [] [] [] 100 (by kernel_rfl) ?_;rintro⟨l,_⟩ f a;refine⟨rfl,fun H g=>?_⟩;dsimp only[go_sem]at f a ⊢;obtain⟨a,-⟩:=a;clear f;change List Int at l;change l.length<=1000 at a;have b:zd (.int .i64)=(0:Int):=rfl;refine g.loop (fun i:Nat=>⟨[(8,.a_ (.int .i64) (i:Int)),(7,.a_ (.int .i64) (List.length l:Int)),(6,.a_ (.slice (.int .i64)) l),(3,.a_ (.int .i64) (0:Int))],[],0⟩) (fun i=>i<=l.length/\∀ j,j<i->l.getD j 0=0) (fun i=>l.length-i) 0 0 ⟨QE _,fun j h=>absurd h (Q' _)⟩ ?_ ?_
 ·dsimp only[go_sem];and_intros<;>first|trivial|rfl|omega
 ·rintro i ⟨hi,c⟩ R k;refine g.run 100 _ _ ?_;dsimp only[go_sem];simp only[QH,b];refine⟨fun d=>?_,fun d=>?_⟩<;>simp only[Qy,Qw]at d
  ·have d:i<l.length:=by omega
   refine⟨⟨Sy _,UD.2 d⟩,fun e=>?_,fun e=>?_⟩<;>simp only[Qy,Qw,Rp]at e
   ·exact⟨(PO d e c).symm,trivial⟩
   ·refine⟨by rw[c9]; omega,k _ (i+1) 0 ⟨d,fun j m=>?_⟩ (by omega) ?_⟩
    ·rcases QA j i with h|h
     ·exact c j h
     ·have:j=i:=by omega
      rw[this]; exact e
    ·dsimp only[go_sem];and_intros<;>first|trivial|rfl|omega
  ·have d:i=l.length:=by omega
   subst d;exact⟨(Hy c).symm,trivial⟩
@[go_sem] noncomputable def EV3:Env:=(EV2).add 96 L5
theorem Hc:EV3.Ok:=(Ku).add Jo
@[go_sem] def Mk:iP:=⟨[.d eK,.d eK],fun d=>⟨[],0,.a_ (.int .i64) (cV d.1 d.2.1),[]⟩⟩
theorem abv(a b:fS):Ph [cI a.1 b.1,cI a.2.1 b.2.1,cB a.2.2 b.2.2]=cV a b:=by
 unfold Ph cV;simp only[List.find?_cons,List.find?_nil];by_cases c:cI a.1 b.1=0
 ·by_cases d:cI a.2.1 b.2.1=0
  ·by_cases e:cB a.2.2 b.2.2=0<;>simp[c,d,e]
  ·simp[c,d]
 ·simp[c]
theorem DB:gK Tryz.prog 64 Mk:=by
 refine nD Hc Mk Tryz.func64 rfl (by decide) (N:=22) rfl (res:=[.tmp 4]) rfl (by decide) [(1,[(20,.dt)])] [] [] 100 (by kernel_rfl) ?_;rintro⟨a,b,_⟩ c d H e;dsimp only[go_sem]at c d ⊢;refine⟨QS rfl,?_⟩;rw[abv];and_intros<;>first|trivial|rfl
@[go_sem] noncomputable def EV4:Env:=(EV3).jg 64 Mk
theorem FX:EV4.Ok:=(Hc).jg DB
theorem CF{l m:List fS}{k:Nat}(c:k<=l.length)(d:k<=m.length)(h:∀ j,j<k->cV (l.getD j (0,0,[])) (m.getD j (0,0,[]))=0):cT l m=cT (l.drop k) (m.drop k):=by
 induction k generalizing l m with
 | zero=>rfl
 | succ k e =>
  cases l with
  | nil=>simp at c
  | cons a l=>cases m with
   | nil=>simp at d
   | cons b m =>
    have f:cV a b=0:=h 0 (Nat.succ_pos _)
    have:cT (a::l) (b::m)=cT l m:=by
     show(if cV a b≠0 then cV a b else cT l m)=cT l m;rw[QC (by rw[f]; simp)]
    rw[this,W4,W4]
    exact e (WH c) (WH d) fun j g=>h (j+1) (Nat.succ_lt_succ g)
theorem mC{a:Type}(d:a){l:List a}{k:Nat}(h:k<l.length):l.drop k=l.getD k d::l.drop (k+1):=by
 have e:l.getD k d=l[k]:=by rw[Qz,Qr h]; rfl
 rw[e,List.getElem_cons_drop]
@[go_sem] def L7:iP:=⟨[.d (.slice eK),.d (.slice eK),.k 64],fun d=>⟨[],0,.a_ (.int .i64) (cT d.1 d.2.1),[List.length d.1<=1000000/\List.length d.2.1<=1000000]⟩⟩
theorem B5:gK Tryz.prog 63 L7:=by
 refine nD FX L7 Tryz.func63 rfl (by decide) (N:=39) rfl (res:=[.tmp 6]) rfl (by decide) [] [] [] 100 (by kernel_rfl) ?_;rintro⟨l,z,_⟩ k m H n;dsimp only[go_sem]at k m ⊢;obtain⟨⟨b,c⟩,-⟩:=m;change List fS at l z;change l.length<=1000000 at b;change z.length<=1000000 at c;clear k;refine n.loop (fun i:Nat=>⟨[(13,.a_ (.int .i64) (i:Int)),(12,.a_ (.int .i64) (l.length:Int)),(11,.a_ (.slice eK) l),(0,.a_ (.slice eK) l),(1,.a_ (.slice eK) z),(2,.kL 64 .nil)],[],0⟩) (fun i=>i<=l.length/\i<=z.length/\∀ j,j<i->cV (l.getD j (0,0,[])) (z.getD j (0,0,[]))=0) (fun i=>l.length-i) 0 0 ⟨QE _,QE _,fun j h=>absurd h (Q' _)⟩ ?_ ?_
 ·dsimp only[go_sem];and_intros<;>first|trivial|rfl|omega
 ·rintro i ⟨hi,f,o⟩ R p;have a:=CF hi f o;refine n.run 100 _ _ ?_;dsimp only[go_sem];simp only[QH];have q:∀ j,l.getD j (zd eK)=l.getD j (0,0,[]):=fun _=>rfl;have r:∀ j,z.getD j (zd eK)=z.getD j (0,0,[]):=fun _=>rfl;refine⟨fun d=>?_,fun d=>?_⟩<;>simp only[Qy,Qw]at d
  ·have d:i<l.length:=by omega
   rw[mC (0,0,[]) d]at a;refine⟨⟨Sy _,UD.2 d⟩,fun e=>?_,fun e=>?_⟩<;>simp only[Qy,Qw]at e
   ·have e:z.drop i=[]:=Rl (by omega);rw[e]at a;rw[a];and_intros<;>first|trivial|rfl
   ·have e:i<z.length:=by omega
    rw[mC (0,0,[]) e]at a;have a:cT l z=if cV (l.getD i (0,0,[])) (z.getD i (0,0,[]))≠0 then cV (l.getD i (0,0,[])) (z.getD i (0,0,[]))else cT (l.drop (i+1)) (z.drop (i+1)):=a
    refine⟨⟨Sy _,UD.2 e⟩,fun g=>?_,fun g=>?_⟩<;>simp only[Qy,Qw,Rp]at g
    ·have g:cV (l.getD i (0,0,[])) (z.getD i (0,0,[]))≠0:=g;rw[QJ g]at a;rw[a];and_intros<;>first|trivial|rfl
    ·have g:cV (l.getD i (0,0,[])) (z.getD i (0,0,[]))=0:=g;refine⟨by rw[c9]; omega,p _ (i+1) 0 ⟨d,e,fun j s=>?_⟩ (by omega) ?_⟩
     ·rcases QA j i with h|h
      ·exact o j h
      ·have:j=i:=by omega
       rw[this]; exact g
     ·dsimp only[go_sem];and_intros<;>first|trivial|rfl|omega
  ·have d:i=l.length:=by omega
   subst d;rw[TY]at a;refine⟨fun e=>?_,fun e=>?_⟩<;>simp only[Qy,Qw]at e
   ·have e:l.length<z.length:=by omega
    rw[mC (0,0,[]) e]at a;rw[a];and_intros<;>first|trivial|rfl
   ·have e:z.drop l.length=[]:=Rl (by omega);rw[e]at a;rw[a];and_intros<;>first|trivial|rfl
@[go_sem] noncomputable def EV5:Env:=(EV4).jg 63 L7
theorem Io:EV5.Ok:=(FX).jg B5
@[go_sem] def aax:Spec:=⟨[.slice eK,.slice eK],fun d=>(.a_ (.int .i64) (cT d.1 d.2.1),[List.length d.1<=1000000/\List.length d.2.1<=1000000])⟩
theorem P5:c6 Tryz.prog 30 aax:=by
 refine eT Io aax Tryz.func30 rfl (by decide) (N:=8) rfl (res:=[.tmp 4]) rfl (by decide) [(1,[(7,.ow)])] [] [] 100 (by kernel_rfl) ?_;rintro⟨l,z,_⟩ b a;refine⟨rfl,fun H c=>?_⟩;dsimp only[go_sem]at b a ⊢;obtain⟨a,-⟩:=a;exact⟨a,rfl,trivial⟩
theorem fqi(n:Int)(neg:Bool)(a:Int)(h0:0<=a)(h:sg neg a=n):mk neg a 1=(n:Rat):=by
 unfold mk;rw[h];simp[Rat.mkRat_one]
@[go_sem] def wC:Spec:=⟨[.int .i64],fun d=>(.a_ fT (qf (d.1:Int)),[])⟩
theorem zr:c6 Tryz.prog 6 wC:=by
 refine eT c_ wC Tryz.func6 rfl (by decide) (N:=18) rfl (res:=[.cell 2 35]) rfl (by decide) [] [] [] 100 (by kernel_rfl) ?_;rintro⟨n,_⟩ a b;refine⟨rfl,fun H c=>?_⟩;dsimp only[go_sem]at a b ⊢;simp only[gG,lo,hi]at a;refine⟨fun h=>?_,fun h=>?_⟩<;>simp only[Qy,Qw]at h<;>simp only[gG,lo,hi]
 ·refine⟨by omega,by omega,by omega,by omega,?_,by decide,?_,trivial⟩
  ·have:=ya (n := -(n+1)+1) (by omega) (by omega); omega
  ·rw[iL (by omega),show N (dg 1)=1 from iL (by omega),fqi n true _ (by omega) (by simp[sg]; omega)]
 ·refine⟨by omega,?_,by decide,?_,trivial⟩
  ·have:=ya (n:=n) (by omega) (by omega); omega
  ·rw[iL (by omega),show N (dg 1)=1 from iL (by omega),fqi n false _ (by omega) (by simp[sg])]
theorem EU(X Y:Rat)(h:(qf X).1=(qf Y).1):mk (qf X).1 (N (qf X).2.1*N (qf Y).2.2+N (qf Y).2.1*N (qf X).2.2) (N (qf X).2.2*N (qf Y).2.2)=X+Y:=by
 rw[B_,BM,Dn,BM,Dn];rw[nu,nu]at h;unfold mk;rw[nu,<-h];have e:((X.den:Int)*(Y.den:Int)).toNat=X.den*Y.den:=by rw[<-S']; rfl
 rw[e];congr 1;cases decide (X.num<0)<;>simp[sg];rw[Int.neg_add,Uy,Uy]
theorem Ff(X Y:Rat)(h:(qf X).1≠(qf Y).1):(N (qf Y).2.1*N (qf X).2.2<=N (qf X).2.1*N (qf Y).2.2->mk (qf X).1 (N (qf X).2.1*N (qf Y).2.2-N (qf Y).2.1*N (qf X).2.2) (N (qf X).2.2*N (qf Y).2.2)=X+Y) /\
    (N (qf X).2.1*N (qf Y).2.2<=N (qf Y).2.1*N (qf X).2.2->mk (qf Y).1 (N (qf Y).2.1*N (qf X).2.2-N (qf X).2.1*N (qf Y).2.2) (N (qf X).2.2*N (qf Y).2.2)=X+Y):=by
 rw[B_,BM,Dn,BM,Dn];rw[nu,nu]at h;have e:((X.den:Int)*(Y.den:Int)).toNat=X.den*Y.den:=by rw[<-S']; rfl
 unfold mk;rw[nu,nu,e];generalize decide (X.num<0)=p at *;generalize decide (Y.num<0)=q at *;refine⟨fun _=>?_,fun _=>?_⟩<;>congr 1<;>cases p<;>cases q<;>simp[sg]at h ⊢<;>simp only[Uy]<;>omega
@[go_sem] def AG:Spec:=⟨[fT,fT],fun d=>(.a_ fT (qf (fq d.1+fq d.2.1)),[fs d.1<=1000000,fs d.2.1<=1000000])⟩
theorem mO{f:fT.den}(h:q_ fT f):Fd f:=⟨fun d a=>sI.1 (h.2.1.2 d a),fun d a=>sI.1 (h.2.2.2 d a)⟩
theorem Gf:c6 Tryz.prog 106 AG:=by
 refine eT c_ AG Tryz.func106 rfl (by decide) (N:=71) rfl (res:=[.cell 4 35]) rfl (by decide) [] [] [] 100 (by kernel_rfl) ?_;rintro⟨x,y,_⟩ c d;refine⟨rfl,fun H r=>?_⟩;dsimp only[go_sem]at c d ⊢;obtain⟨g,i,-⟩:=c;obtain⟨j,k,-⟩:=d;have s:=oH (mO g);have t:=oH (mO i);generalize fq x=X at *;generalize fq y=Y at *;have u:=Dj X;have v:=Ck X;have w:=Dj Y;have z:=Ck Y;have A:=Ak (qG X) (lD Y);have B:=Ak (qG Y) (lD X);have C:=Ak (lD X) (lD Y);have l:=O9 (Dt (N (qf X).2.1*N (qf Y).2.2)) (Dt (N (qf Y).2.1*N (qf X).2.2));have e:=iL (Ss (eQ (qG X)) (eQ (lD Y)));have f:=iL (Ss (eQ (qG Y)) (eQ (lD X)));have m:=iL (Ss (eQ (lD X)) (eQ (lD Y)));rw[e,f]at l;rw[e,f,m];have D:=Ss (eQ (qG X)) (eQ (lD Y));have E:=Ss (eQ (qG Y)) (eQ (lD X));refine⟨by omega,by omega,by omega,by omega,by omega,by omega,by omega,by omega,fun h=>?_,fun h=>?_⟩<;>simp only[Qy,Qw]at h
 ·refine⟨by omega,by omega,by omega,by omega,?_,trivial⟩;rw[iL (by omega),EU X Y h]
 ·obtain⟨n,o⟩:=Ff X Y h;generalize N (qf X).2.1*N (qf Y).2.2=p at *;generalize N (qf Y).2.1*N (qf X).2.2=q at *;refine⟨by omega,by omega,fun h=>?_,fun h=>?_⟩<;>simp only[Qy,Qw]at h<;>unfold fJ at h
  ·have a:q<=p:=by
     by_cases b:q<=p
     ·exact b
     ·rw[QJ (by omega)]at h; omega
   have:=BZ (show 0<=p-q by omega) (show p-q<=p by omega);rw[QJ a];refine⟨by omega,by omega,by omega,by omega,?_,trivial⟩;rw[iL (by omega),n a]
  ·have a:p<=q:=by
     by_cases b:p<=q
     ·exact b
     ·rw[QC (by omega)]at h; split at h<;>omega
   have:=BZ (show 0<=q-p by omega) (show q-p<=q by omega);rw[QJ a];refine⟨by omega,by omega,by omega,by omega,?_,trivial⟩;rw[iL (by omega),o a]
@[go_sem] def xA:Spec:=⟨[fT],fun d=>(.a_ (.int .i64) (iM (fq d.1)),[fs d.1<=1000000])⟩
theorem Fk:c6 Tryz.prog 104 xA:=by
 refine eT c_ xA Tryz.func104 rfl (by decide) (N:=14) rfl (res:=[.tmp 2]) rfl (by decide) [] [] [] 100 (by kernel_rfl) ?_;rintro⟨x,_⟩ c b;refine⟨rfl,fun H f=>?_⟩;dsimp only[go_sem]at c b ⊢;obtain⟨d,-⟩:=b;generalize fq x=X at *;refine⟨by omega,fun h=>?_,fun h=>?_⟩<;>simp only[Qy,Qw]at h
 ·have a:X=0:=(Kb X).1 (by omega);subst a;exact⟨rfl,trivial⟩
 ·have a:X≠0:=fun e=>h (by have:=(Kb X).2 e; omega);have g:X.num≠0:=fun e=>a (Wg.1 e);unfold iM;refine⟨fun h=>?_,fun h=>?_⟩<;>rw[nu]at h<;>simp only[Qy,Qw]at h
  ·exact⟨(SI h).symm,trivial⟩
  ·exact⟨(S8 (by omega)).symm,trivial⟩
@[go_sem] noncomputable def E4:Env:=((((E3).add 111 xK).add 6 wC).add 106 AG).add 104 xA
theorem Oh:E4.Ok:=((((c_).add yF).add zr).add Gf).add Fk
theorem tK{a:Type}(l:List a)(k:Nat)(d:a)(h:k<l.length):l.take (k+1)=l.take k++[l.getD k d]:=by
 rw[UC,Qr h,Qz,Qr h]; rfl
def lS(l:List fT.den):Rat:=l.foldl (fun a f=>a+fq f) 0
def yG(l:List fT.den):Rat:=l.foldl (fun a f=>a*fq f) 1
theorem rf(l:List fT.den)(f:fT.den):lS (l++[f])=lS l+fq f:=by simp[lS]
theorem AX(l:List fT.den)(f:fT.den):yG (l++[f])=yG l*fq f:=by simp[yG]
theorem CO{l:List fT.den}(a:∀ f∈l,q_ fT f)(b:∀ f∈l,fs f<=1000):∀ k,k<=l.length->qs (lS (l.take k))<=1002*k+1/\qs (yG (l.take k))<=1002*k+1
 | 0,_=>⟨LC,mm⟩
 | k+1,hk=>by
  have d:=CO a b k (by omega);rw[tK l k (zd fT) (by omega),rf,AX];have c:l.getD k (zd fT)∈l:=by
   rw[Qz,Qr (by omega)];exact Tf _
  have e:=oH (mO (a _ c));have g:=b _ c;have h:=aaI (lS (l.take k)) (fq (l.getD k (zd fT)));have i:=Po (yG (l.take k)) (fq (l.getD k (zd fT)));constructor<;>omega
@[go_sem] def AU:Spec:=⟨[fT,fT],fun d=>(.a_ fT (qf (fq d.1-fq d.2.1)),[fs d.1<=900000,fs d.2.1<=900000])⟩
theorem Gv:c6 Tryz.prog 122 AU:=by
 refine eT Oh AU Tryz.func122 rfl (by decide) (N:=9) rfl (res:=[.cell 4 35]) rfl (by decide) [] [] [] 100 (by kernel_rfl) ?_;rintro⟨x,y,_⟩ a b;refine⟨rfl,fun H f=>?_⟩;dsimp only[go_sem]at a b ⊢;obtain⟨g,c,-⟩:=a;obtain⟨d,e,-⟩:=b;have h:=oH (mO c);have i:=aaL (fq y);rw[ig,jo,<-U8];exact⟨by omega,by omega,by omega,rfl,trivial⟩
@[go_sem] noncomputable def E5:Env:=(E4).add 122 AU
theorem J8:E5.Ok:=(Oh).add Gv
@[go_sem] def tx:Spec:=⟨[fT],fun d=>(.a_ fT (qf (1-fq d.1)),[fs d.1<=900000])⟩
theorem A0:c6 Tryz.prog 105 tx:=by
 refine eT J8 tx Tryz.func105 rfl (by decide) (N:=6) rfl (res:=[.cell 2 35]) rfl (by decide) [] [] [] 100 (by kernel_rfl) ?_;rintro⟨x,_⟩ b a;refine⟨rfl,fun H d=>?_⟩;dsimp only[go_sem]at b a ⊢;obtain⟨c,-⟩:=a;have:=mm;rw[show((1:Int):Rat)=1 from rfl,ig,jo];exact⟨by omega,by omega,rfl,trivial⟩
@[go_sem] def Ba:Spec:=⟨[fT,fT],fun d=>(.a_ (.int .i64) (jX (fq d.1) (fq d.2.1)),[fs d.1<=400000,fs d.2.1<=400000])⟩
theorem HH:c6 Tryz.prog 107 Ba:=by
 refine eT J8 Ba Tryz.func107 rfl (by decide) (N:=9) rfl (res:=[.tmp 4]) rfl (by decide) [] [] [] 100 (by kernel_rfl) ?_;rintro⟨x,y,_⟩ a b;refine⟨rfl,fun H g=>?_⟩;dsimp only[go_sem]at a b ⊢;obtain⟨c,d,-⟩:=a;obtain⟨e,f,-⟩:=b;have h:=oH (mO c);have i:=oH (mO d);have j:=pk (fq x) (fq y);rw[ig,jo];exact⟨by omega,by omega,by omega,rfl,trivial⟩
attribute [go_sem] List.append Array.append
@[go_sem] noncomputable def E6:Env:=((E5).add 105 tx).add 107 Ba
theorem N0:E6.Ok:=((J8).add A0).add HH
end Go.Proofs.YtbokoblnehgkaabGreat.Gx
namespace Go.Proofs.YtbokoblnehgkaabGreat.Gx
open Go Go.RowKit Go.Lib
section
variable{P:Program}
theorem f_(w:World)(m q ty elem:TypeId)(sz k b o c e:Nat)(a:Addr)(d f:Nat)(cs:List Value)
    (r:P.underlying m=some (.slice elem)) (n:(P.info? elem).map (·.size)=some sz) (hk:k=Nat.min d c) (s:cs.length=k*sz)
    (g:∀ j v,cs[j]?=some v->w.cell? (a.add j)=some v) (t:∀ j,j<cs.length->(w.cell? ⟨b,o+j,none⟩).isSome=true) (u:∀ j,j<cs.length->w.frozen? ⟨b,o+j,none⟩=false) (h1:∀ v∈cs,v.oneCell'=true) :
    (Builtin.copy_ #[m,q] ty #[.slice (some ⟨b,o,none⟩) c e,.slice (some a) d f]).run P w=.ok (goInt k) (w.setCells b o cs):=by
 have p:=run_loadCells_list (P:=P) w a cs g;have h:=Xb (P:=P) b o cs 0 w (by simpa using t) (by simpa using u) h1;cases l:P.info? elem with
 | none=>simp[l]at n
 | some i =>
  have hi:i.size=sz:=by simpa [l]using n
  rw[s]at p
  simp[Builtin.copy_,Rb r,Builtin.lenOf,Builtin.firstCells,sizeOf,typeInfo,l,hi,<-hk,p,h]
def iO(cur:List Value)(o:Nat)(vs:List Value):List Value:=cur.take o++vs++cur.drop (o+vs.length)
theorem hZ{cur vs:List Value}{o:Nat}(h:o+vs.length<=cur.length):(iO cur o vs).length=cur.length:=by
 unfold iO;simp only[QO,QM,Q5];omega
theorem En{cur r:List Value}{o:Nat}{v:Value}(h:o<cur.length):iO (cur.set o v) (o+1) r=iO cur o (v::r):=by
 unfold iO;have a:(cur.set o v).take (o+1)=cur.take o++[v]:=by
  rw[UC,List.take_set,Ru h];have:(cur.take o).set o v=cur.take o:=List.set_eq_of_length_le (by rw[QM]; omega);rw[this]; rfl
 have b:(cur.set o v).drop (o+1+r.length)=cur.drop (o+(v::r).length):=by
  rw[VF (by omega)];congr 1;rw[Rr]; omega
 rw[a,b];simp
structure Wr(w w':World)(g:Nat)(cur:List Value)(T:TypeId):Prop where
 pr:w'.heap[g]?=some (.cells cur.toArray T (0,0))
 block:∀ k,k≠g->w'.heap[k]?=w.heap[k]?
 size:w'.heap.size=w.heap.size
 os:w'.os=w.os
 tape:w'.tape=w.tape
 output:w'.output=w.output
theorem BI{w:World}{g o:Nat}{cur:List Value}{T:TypeId}{v:Value}(h:w.heap[g]?=some (.cells cur.toArray T (0,0))):Wr w (w.setCell ⟨g,o,none⟩ v) g (cur.set o v) T:=by
 refine⟨?_,fun k hk=>?_,?_,rfl,rfl,rfl⟩
 ·simp only[World.setCell,SY,QJ rfl,h,Sp];simp
 ·simp only[World.setCell,SY];rw[QC (fun e=>hk e.symm)]
 ·simp[World.setCell]
theorem iu{g:Nat}{T:TypeId}:∀(vs:List Value) (o:Nat) (w:World) (cur:List Value),w.heap[g]?=some (.cells cur.toArray T (0,0))->o+vs.length<=cur.length->Wr w (w.setCells g o vs) g (iO cur o vs) T
 | [],o,w,cur,h,c=>⟨by rw[show iO cur o []=cur by simp[iO]]; exact h,fun _ _=>rfl,rfl,rfl,rfl,rfl⟩
 | v::r,o,w,cur,h,c=>by
  rw[Rr]at c;have b:=BI (o:=o) (v:=v) h;have a:=iu r (o+1) (w.setCell ⟨g,o,none⟩ v) (cur.set o v) b.pr (by rw[Sb]; omega);rw[En (by omega)]at a;exact⟨a.pr,fun k hk=>(a.block k hk).trans (b.block k hk),a.size.trans b.size,a.os.trans b.os,a.tape.trans b.tape,a.output.trans b.output⟩
theorem B2{w:World}{g o:Nat}{cur:List Value}{T:TypeId}(h:w.heap[g]?=some (.cells cur.toArray T (0,0))):w.cell? ⟨g,o,none⟩=cur[o]?:=by
 unfold World.cell?;rw[h];simp
theorem lr{w:World}{g o:Nat}{cur:List Value}{T:TypeId}(h:w.heap[g]?=some (.cells cur.toArray T (0,0))):w.frozen? ⟨g,o,none⟩=false:=by
 unfold World.frozen?;rw[h];simp
theorem GB{A C ys rest:List Value}(h:ys.length<=rest.length):iO (iO (A++C++rest) (A.length+ys.length) C) A.length ys=A++ys++C++rest.drop ys.length:=by
 have a:iO (A++C++rest) (A.length+ys.length) C=(A++(C++rest).take ys.length)++C++rest.drop ys.length:=by
  unfold iO;congr 1
  ·congr 1;rw[QP,V6,QQ (by omega)];congr 2;omega
  ·rw[QP,SW,SW,Rl (by omega),Rl (by omega),RX,RX];congr 1;omega
 rw[a];have b:((C++rest).take ys.length).length=ys.length:=by
  rw[QM,QO]; omega
 have c:A++(C++rest).take ys.length++C++rest.drop ys.length=A++((C++rest).take ys.length++(C++rest.drop ys.length)):=by simp
 rw[c];unfold iO;rw[Uh,SW,Rl (by omega),RX,Tk];have d:((C++rest).take ys.length++(C++rest.drop ys.length)).drop ys.length=C++rest.drop ys.length:=by
  exact UO b
 rw[d];simp
theorem LK{A C ys Z:List Value}(h:ys.length+C.length<=Z.length):iO (iO (A++Z) A.length ys) (A.length+ys.length) C=A++ys++C++Z.drop (ys.length+C.length):=by
 have a:iO (A++Z) A.length ys=(A++ys)++Z.drop ys.length:=by
  unfold iO;rw[Uh,SW,Rl (by omega),RX];congr 2;omega
 rw[a];unfold iO;rw[<-QO,Uh,SW,Rl (by omega),RX,RT];congr 2;omega
theorem iY(z:Array Value):∀ k,(Builtin.zeroCells z k).size=k*z.size:=by
 intro k;simp[Builtin.zeroCells]
theorem lY{n i s:Nat}(h:i<=n):n*s=i*s+(n-i)*s:=by rw[<-T4]; congr 1; omega
theorem ri{w:World}{T:TypeId}{sz g n cap i:Nat}{cur:Array Value}{xs ys:List Value}(r:w.heap[g]?=some (.cells cur T (0,0)))(l:cur.size=cap*sz)(p:cur.toList.take (n*sz)=xs)
    (hi:i<=n) (a:n+1<=cap) (m:cap<=maxLen) (t:ys.length=sz) :
    ((w.drew.setCells g ((i+1)*sz) (xs.drop (i*sz))).setCells g (i*sz) ys).ownsRow 0 T sz (.slice (some ⟨g,0,none⟩) (n+1) cap) (n+1) (xs.take (i*sz)++ys++xs.drop (i*sz)) /\
     w.grownBy ((w.drew.setCells g ((i+1)*sz) (xs.drop (i*sz))).setCells g (i*sz) ys) (some g):=by
 have y:=lY (s:=sz) hi;have z:=lY (s:=sz) a;have B:(n+1)*sz=n*sz+sz:=by rw[RI]
 have u:(i+1)*sz=i*sz+sz:=by rw[RI]
 have q:cur.toList.length=cap*sz:=by simpa using l
 have v:xs.length=n*sz:=by rw[<-p,QM]; omega
 have f:cur.toList=xs.take (i*sz)++xs.drop (i*sz)++cur.toList.drop (n*sz):=by
  rw[Q6,<-p,Q6]
 have x:(xs.take (i*sz)).length=i*sz:=by rw[QM]; omega
 have D:(xs.drop (i*sz)).length=(n-i)*sz:=by rw[Q5]; omega
 have E:(cur.toList.drop (n*sz)).length=cap*sz-n*sz:=by rw[Q5,q]
 have c:=iu (g:=g) (T:=T) (xs.drop (i*sz)) ((i+1)*sz) w.drew cur.toList (by show w.heap[g]?=_; rw[r]) (by omega);have d:=iu (g:=g) (T:=T) ys (i*sz) _ _ c.pr (by rw[hZ (by omega)]; omega);have h:iO (iO cur.toList ((i+1)*sz) (xs.drop (i*sz))) (i*sz) ys=xs.take (i*sz)++ys++xs.drop (i*sz)++(cur.toList.drop (n*sz)).drop sz:=by
  have:=GB (A:=xs.take (i*sz)) (C:=xs.drop (i*sz)) (ys:=ys) (rest:=cur.toList.drop (n*sz)) (by omega);rw[<-f,x,t,<-u]at this;exact this
 have b:(xs.take (i*sz)++ys++xs.drop (i*sz)).length=(n+1)*sz:=by
  rw[QO,QO]; omega
 refine⟨⟨b,.inr ⟨g,cap,_,rfl,QE _,d.pr,a,m,?_,?_⟩⟩,d.os.trans c.os,d.tape.trans c.tape,d.output.trans c.output,?_,fun k hk o=>?_⟩
 ·rw[RQ,hZ (by rw[hZ (by omega)]; omega),hZ (by omega)]; exact q
 ·show(iO _ _ _).take _=_;rw[h,Vv b]
 ·rw[d.size,c.size]; exact Qu _
 ·have j:k≠g:=fun e=>o (by rw[e]);rw[d.block k j,c.block k j];rfl
theorem ub{w:World}{T:TypeId}{sz n G i:Nat}{xs ys:List Value}{Z1 Z2:Array Value}(u:xs.length=n*sz)(hi:i<=n)(r:n+1<=G)(j:G<=maxLen)(v:ys.length=sz)
    (l:Z1.size=(n+1-i)*sz) (m:Z2.size=(G-(n+1))*sz) :
    ((((w.alloc (.cells ((xs.take (i*sz)).toArray++Z1++Z2) T)).drew.setCells w.heap.size (i*sz) ys).drew).setCells w.heap.size ((i+1)*sz) (xs.drop (i*sz))).ownsRow 0 T sz (.slice (some ⟨w.heap.size,0,none⟩) (n+1) G) (n+1) (xs.take (i*sz)++ys++xs.drop (i*sz)) /\
     w.grownBy ((((w.alloc (.cells ((xs.take (i*sz)).toArray++Z1++Z2) T)).drew.setCells w.heap.size (i*sz) ys).drew).setCells w.heap.size ((i+1)*sz) (xs.drop (i*sz))) none:=by
 have E:=lY (s:=sz) hi;have F:=lY (s:=sz) (show i<=n+1 by omega);have H:=lY (s:=sz) r;have I:(n+1)*sz=n*sz+sz:=by rw[RI]
 have x:(i+1)*sz=i*sz+sz:=by rw[RI]
 have y:(xs.take (i*sz)).length=i*sz:=by rw[QM]; omega
 have z:(xs.drop (i*sz)).length=(n-i)*sz:=by rw[Q5]; omega
 have o:Z1.toList.length=(n+1-i)*sz:=by simpa using l
 have p:Z2.toList.length=(G-(n+1))*sz:=by simpa using m
 have e:((xs.take (i*sz)).toArray++Z1++Z2)=(xs.take (i*sz)++(Z1.toList++Z2.toList)).toArray:=by
  apply Array.ext';simp
 rw[e];have B:(Z1.toList++Z2.toList).length=(n+1-i)*sz+(G-(n+1))*sz:=by rw[QO,o,p]
 have q:(xs.take (i*sz)++(Z1.toList++Z2.toList)).length=G*sz:=by rw[QO]; omega
 have t:(w.alloc (.cells (xs.take (i*sz)++(Z1.toList++Z2.toList)).toArray T)).drew.heap[w.heap.size]?=some (.cells (xs.take (i*sz)++(Z1.toList++Z2.toList)).toArray T (0,0)):=by
  show(w.heap.push _)[w.heap.size]?=_;exact Array.getElem?_push_size
 generalize a:(w.alloc (.cells (xs.take (i*sz)++(Z1.toList++Z2.toList)).toArray T)).drew=W at t ⊢;have c:=iu (g:=w.heap.size) (T:=T) ys (i*sz) W _ t (by omega);have d:=iu (g:=w.heap.size) (T:=T) (xs.drop (i*sz)) ((i+1)*sz) (W.setCells w.heap.size (i*sz) ys).drew _ c.pr (by rw[hZ (by omega)]; omega);have f:iO (iO (xs.take (i*sz)++(Z1.toList++Z2.toList)) (i*sz) ys) ((i+1)*sz) (xs.drop (i*sz))=xs.take (i*sz)++ys++xs.drop (i*sz)++(Z1.toList++Z2.toList).drop (sz+(n-i)*sz):=by
  have:=LK (A:=xs.take (i*sz)) (C:=xs.drop (i*sz)) (ys:=ys) (Z:=Z1.toList++Z2.toList) (by omega);rw[y,v,<-x,z]at this;exact this
 have b:(xs.take (i*sz)++ys++xs.drop (i*sz)).length=(n+1)*sz:=by
  rw[QO,QO]; omega
 refine⟨⟨b,.inr ⟨w.heap.size,G,_,rfl,QE _,d.pr,r,j,?_,?_⟩⟩,?_,?_,?_,?_,fun k hk D=>?_⟩
 ·rw[RQ,hZ (by rw[hZ (by omega)]; omega),hZ (by omega)]; exact q
 ·show(iO _ _ _).take _=_;rw[f,Vv b]
 ·refine d.os.trans (c.os.trans ?_); rw[<-a]; rfl
 ·refine d.tape.trans (c.tape.trans ?_); rw[<-a]; rfl
 ·refine d.output.trans (c.output.trans ?_); rw[<-a]; rfl
 ·rw[d.size];show w.heap.size<=(W.setCells w.heap.size (i*sz) ys).heap.size;rw[c.size,<-a];show w.heap.size<=(w.heap.push _).size;simp
 ·have h:k≠w.heap.size:=by omega
  rw[d.block k h];show(W.setCells w.heap.size (i*sz) ys).heap[k]?=_;rw[c.block k h,<-a];show(w.heap.push _)[k]?=_;rw[Array.getElem?_push_lt hk,TF hk]
end
end Go.Proofs.YtbokoblnehgkaabGreat.Gx
namespace Go.Proofs.YtbokoblnehgkaabGreat.Gx
open Go Go.RowKit Go.Lib Tw B Nt
theorem Ov:(Tryz.prog.info? 22).map (fun i=>(i.zero,i.size,i.bytes))=some (some (.slice none 0 0),1,24):=by kernel_rfl
theorem Be(b off n c i f a m q:Nat)(cs vs:List Value)(w:World)(hi:i<n)(hm:0<m)(E:n+m<=c)(ab:c<=9223372036854775807)(r:f≠b)
    (F:cs.length=n) (G:vs.length=m)
    (H:∀ j v,cs[j]?=some v->w.cell? ⟨b,off+j,none⟩=some v) (o:∀ j,j<(n+m)->(w.cell? ⟨b,off+j,none⟩).isSome=true) (s:∀ j,j<(n+m)->w.frozen? ⟨b,off+j,none⟩=false)
    (I:∀ j v,vs[j]?=some v->w.cell? ⟨f,a+j,none⟩=some v) (J:∀ v∈cs,v.oneCell'=true) (K:∀ v∈vs,v.oneCell'=true)
    (tA tB:TypeId) (L M:Nat) (N:w.shape? f=some (tA,L)) (O:w.shape? b=some (tB,M)) (Q:M≠0) (R:w.frozen? ⟨f,a,none⟩=false) (S:w.frozen? ⟨f,L,none⟩=false) :
    Calls Tryz.prog 89 #[.slice (some ⟨b,off,none⟩) n c,.int .i64 i,.slice (some ⟨f,a,none⟩) m q] w fun e w' =>
     e=.returned (.slice (some ⟨b,off,none⟩) (n+m) c)/\w'=(w.drew.setCells b (off+(i+m)) (cs.drop (i))).setCells b (off+i) vs:=by
 obtain⟨i0,t,ad,u,ae⟩:=Un Ov;have T:Tryz.prog.underlying 85=some (.slice 22):=by kernel_rfl
 have af:¬((m:Int)=0):=by omega
 have ah:¬((i:Int)=(n:Int)):=by omega
 have y:(Tryz.prog.info? 22).map (·.size)=some 1:=by rw[t]; simp[u]
 have z:∀ w,(Go.sizeOf 22).run Tryz.prog w=.ok 1 w:=fun w=>by simp[sizeOf,typeInfo,t,u]
 have U:∀ V X,(callFunc 114 #[.slice (some ⟨f,a,none⟩) m q,.slice (some ⟨b,off+(i+m),none⟩) V X]).run Tryz.prog w=.ok (.value (.bool false)) w:=fun V X=>by
  rw[VN Tryz.func114 (by kernel_rfl) (by kernel_rfl) (by kernel_rfl) (e:=Extern.SlicesOverlaps.overlaps #[85,85] #[4]) (by kernel_rfl),
   VA w 85 4 22 T 1 z ⟨f,a,none⟩ ⟨b,off+(i+m),none⟩ m q V X r tA tB L M N O Q R S]
  rfl
 have Y:(cs.drop (i)).length=(n-i):=by rw[Q5,F]
 have ai:IntKind.i64.wrap ((i:Int)+(m:Int))=(i:Int)+(m:Int):=by rw[Sq]; omega
 have aj:IntKind.i64.wrap ((n:Int)+(m:Int))=(n:Int)+(m:Int):=by rw[Sq]; omega
 have ak:(0:Int)<=(i:Int)+(m:Int):=by omega
 have al:i<=n:=by omega
 have an:((i:Int)+(m:Int)).toNat=i+m:=by omega
 have ac:((n:Int)+(m:Int)).toNat=n+m:=by omega
 have ao:¬(c=i+m):=by omega
 have aq:(i:Int)<=(n:Int)+(m:Int):=by omega
 have ar:¬(c=i):=by omega
 have g:∀ ty p sc,(Builtin.copy_ #[85,85] ty #[.slice (some ⟨b,off+(i+m),none⟩) (n+m-(i+m)) p,.slice (some ⟨b,off+i,none⟩) (n+m-i) sc]).run Tryz.prog w.drew=.ok (goInt ((n-i:Nat):Int)) (w.drew.setCells b (off+(i+m)) (cs.drop (i))):=fun ty p sc =>
  f_ w.drew _ _ ty 22 1 (n-i) b (off+(i+m)) (n+m-(i+m)) p ⟨b,off+i,none⟩ (n+m-i) sc (cs.drop (i)) T y (by simp only[Tu]; split<;>omega) (by rw[Y]; omega)
   (fun j v l=>by rw[Ri,RF]; exact H (i+j) v (by rwa [Rg]at l))
   (fun j l=>by rw[RF]; exact o _ (by omega)) (fun j l=>by rw[RF]; exact s _ (by omega)) (fun v hv=>J v (Rh hv))
 obtain⟨A,d⟩:∃ A,A=w.drew.setCells b (off+(i+m)) (cs.drop (i)):=⟨_,rfl⟩;have B:∀ k,k<(n+m)->(A.cell? ⟨b,off+k,none⟩).isSome=true:=fun k hk=>by
  rw[d];exact isSome_setCells b _ _ _ (fun j l=>by rw[RF]; exact o _ (by omega)) _ (o k hk)
 have C:∀(W:World),(∀ x,W.cell? x=A.cell? x)->(∀ x,W.frozen? x=A.frozen? x)->∀ ty p,(Builtin.copy_ #[85,85] ty #[.slice (some ⟨b,off+i,none⟩) (n+m-i) p,.slice (some ⟨f,a,none⟩) m q]).run Tryz.prog W=.ok (goInt m) (W.setCells b (off+i) vs):=fun W D Z ty p =>
  f_ W _ _ ty 22 1 m b (off+i) (n+m-i) p ⟨f,a,none⟩ m q vs T y (by simp only[Tu]; split<;>omega) (by rw[G]; omega)
   (fun j v l=>by
    rw[Ri,D,d,Tj b _ _ _ _ (fun h _=>absurd h r)];exact I j v l)
   (fun j l=>by rw[D,RF]; exact B _ (by omega)) (fun j l=>by rw[Z,d,Tc,RF]; exact s _ (by omega)) K
 rw[<-d]at g;have aa:Tryz.prog.follows Departure.mixedOrders=true:=c_.mx;go_enter Tryz.func89,Tryz.ntmps89;go_wp2_with (simp only[U]);go_region_law_o (refine UY rfl _ _ 85 85 rfl _ _ (by simp[Act.eval,Act.put]) (by simp[Act.eval,Act.put]) (g _ _ _) ?_);go_wp2_with (at_builtin; refine Tp _ rfl _ _ 85 85 rfl _ _ rfl rfl (C _ (fun _=>rfl) (fun _=>rfl) _ _) ?_);go_ret
 first|exact⟨rfl,rfl⟩|exact⟨rfl,by rw[d]⟩
theorem Fu(b off n c i q d m O:Nat)(cs vs:List Value)(w:World)(hi:i<n)(hm:0<m)(an:n<=c)(u:c<n+m)(C:(n+m)*24<=140737488355328)
    (D:cs.length=n) (Q:vs.length=m)
    (y:∀ j v,cs[j]?=some v->w.cell? ⟨b,off+j,none⟩=some v)
    (E:∀ j v,vs[j]?=some v->w.cell? ⟨q,d+j,none⟩=some v) (R:∀ v∈cs,v.oneCell'=true) (S:∀ v∈vs,v.oneCell'=true) :
    Calls Tryz.prog 89 #[.slice (some ⟨b,off,none⟩) n c,.int .i64 i,.slice (some ⟨q,d,none⟩) m O] w fun e w' =>
     e=.returned (.slice (some ⟨w.heap.size,0,none⟩) (n+m) (grownCap w (n+m) c 22)) /\
     w'=(((w.alloc (.cells ((cs.take (i)).toArray++Builtin.zeroCells (.slice none 0 0:Value).cells (n+m-i)++Builtin.zeroCells (.slice none 0 0:Value).cells (grownCap w (n+m) c 22-(n+m))) 22)).drew.setCells w.heap.size (i) vs).drew).setCells w.heap.size ((i+m)) (cs.drop (i)):=by
 obtain⟨i0,F,T,H,I⟩:=Un Ov;have U:Tryz.prog.underlying 85=some (.slice 22):=by kernel_rfl
 have V:Tryz.prog.underlying 3=some (.int .i64):=by kernel_rfl
 have ao:¬((m:Int)=0):=by omega
 have aq:¬((i:Int)=(n:Int)):=by omega
 have ar:(c:Int)<(n:Int)+(m:Int):=by omega
 have J:(Tryz.prog.info? 22).map (·.size)=some 1:=by rw[F]; simp[H]
 have X:b<w.heap.size:=Ut (y 0 _ (Qr (by omega)));have Y:q<w.heap.size:=Ut (E 0 _ (Qr (by omega)));have K:(n:Int)+(m:Int)-(i:Int)=((n+m-i:Nat):Int):=by omega
 have z:i+(n+m-i)=n+m:=by omega
 have r:(Builtin.firstCells i0.size i (.slice (some ⟨b,off,none⟩) i c)).run Tryz.prog w.drew=.ok (cs.take (i)).toArray w.drew:=by
  rw[H];exact VO w.drew 1 i ⟨b,off,none⟩ i c (cs.take (i)) (by rw[QM,D]; omega) (fun j v f=>by
   rw[Ri];rw[Q1]at f;split at f
   ·exact y j v f
   ·cases f)
 have p:∀ ty,(Builtin.append_ #[85,3] ty #[.slice (some ⟨b,off,none⟩) i c,.int .i64 ((n:Int)+(m:Int)-(i:Int))]).run Tryz.prog w =
     .ok (.slice (some ⟨w.heap.size,0,none⟩) (n+m) (grownCap w (n+m) c 22)) (w.drew.alloc (.cells ((cs.take (i)).toArray++Builtin.zeroCells (.slice none 0 0:Value).cells (n+m-i)++Builtin.zeroCells (.slice none 0 0:Value).cells (grownCap w (n+m) c 22-(n+m))) 22)):=fun ty=>by
  have h:=Ve w 85 3 ty 22 i0 _ .i64 .i64 U V F T (some ⟨b,off,none⟩) i c (cs.take (i)) r (n+m-i) (by omega) (by omega) (by omega) (by omega) (by rw[I]; omega) (by rw[I,z]; exact VG u C);rw[z]at h;rw[K];exact h
 obtain⟨G,N⟩:∃ G,G=grownCap w (n+m) c 22:=⟨_,rfl⟩;obtain⟨a,k⟩:∃ a:Array Value,a=(cs.take (i)).toArray++Builtin.zeroCells (.slice none 0 0:Value).cells (n+m-i)++Builtin.zeroCells (.slice none 0 0:Value).cells (G-(n+m)):=⟨_,rfl⟩;rw[<-N]at p ⊢;rw[<-k]at p ⊢;have Z:(n+m)<=a.size:=by
  rw[k];simp[Builtin.zeroCells,Value.cells];omega
 obtain⟨o,g⟩:∃ o,o=w.drew.alloc (.cells a 22):=⟨_,rfl⟩;rw[<-g]at p;have hN:∀ j,j<(n+m)->(o.cell? ⟨w.heap.size,j,none⟩).isSome=true:=fun j f=>by
  rw[g,VH (w:=w.drew) a _ w.heap.size j rfl,TF (by omega)]; rfl
 have L:∀ j,o.frozen? ⟨w.heap.size,j,none⟩=false:=fun j=>by rw[g]; exact VB (w:=w.drew) a _ w.heap.size j rfl
 have aa:∀ j v,w.cell? ⟨b,j,none⟩=some v->o.cell? ⟨b,j,none⟩=some v:=fun j v h=>by rw[g,Tx (w:=w.drew) _ b j X]; exact h
 have ab:∀ j v,w.cell? ⟨q,j,none⟩=some v->o.cell? ⟨q,j,none⟩=some v:=fun j v h=>by rw[g,Tx (w:=w.drew) _ q j Y]; exact h
 have M:∀(W:World),(∀ x,W.cell? x=o.cell? x)->(∀ x,W.frozen? x=o.frozen? x)->∀ ty A,(Builtin.copy_ #[85,85] ty #[.slice (some ⟨w.heap.size,i,none⟩) (n+m-i) A,.slice (some ⟨q,d,none⟩) m O]).run Tryz.prog W=.ok (goInt m) (W.setCells w.heap.size (i) vs):=fun W l B ty A =>
  f_ W _ _ ty 22 1 m w.heap.size (i) (n+m-i) A ⟨q,d,none⟩ m O vs U J (by simp only[Tu]; split<;>omega) (by rw[Q]; omega)
   (fun j v f=>by rw[Ri,l]; exact ab _ v (E j v f))
   (fun j f=>by rw[l]; exact hN _ (by omega)) (fun j f=>by rw[B]; exact L _) S
 have au:n+m<=G:=by rw[N]; exact UR w _ _ _
 have ak:G<=9223372036854775807:=by
  have:=TD w (n+m) c 22 (by unfold maxLen; omega);rw[<-N]at this;unfold maxLen at this;omega
 have av:¬(G=i):=by omega
 have al:¬(G=i+m):=by omega
 have aw:¬(c=i):=by omega
 have ac:b≠w.heap.size:=by omega
 have ad:(cs.drop (i)).length=(n-i):=by rw[Q5,D]
 have s:∀(W:World),(∀ x,W.cell? x=(o.setCells w.heap.size (i) vs).cell? x)->(∀ x,W.frozen? x=(o.setCells w.heap.size (i) vs).frozen? x)->∀ ty A sc,(Builtin.copy_ #[85,85] ty #[.slice (some ⟨w.heap.size,(i+m),none⟩) (n+m-(i+m)) A,.slice (some ⟨b,off+i,none⟩) (n-i) sc]).run Tryz.prog W=.ok (goInt ((n-i:Nat):Int)) (W.setCells w.heap.size ((i+m)) (cs.drop (i))):=fun W l B ty A sc =>
  f_ W _ _ ty 22 1 (n-i) w.heap.size ((i+m)) (n+m-(i+m)) A ⟨b,off+i,none⟩ (n-i) sc (cs.drop (i)) U J (by simp only[Tu]; split<;>omega) (by rw[ad]; omega)
   (fun j v f=>by
    rw[Ri,l,Tj _ _ _ _ _ (fun h _=>absurd h ac),RF];exact aa _ v (y (i+j) v (by rwa [Rg]at f)))
   (fun j f=>by rw[l]; exact isSome_setCells _ _ _ _ (fun t ht=>hN _ (by omega)) _ (hN _ (by omega)))
   (fun j f=>by rw[B,Tc]; exact L _) (fun v hv=>R v (Rh hv))
 subst g;have ae:∀ x,((w.alloc (.cells a 22)).drew).cell? x=(w.drew.alloc (.cells a 22)).cell? x:=fun x=>rfl;have af:∀ x,((w.alloc (.cells a 22)).drew).frozen? x=(w.drew.alloc (.cells a 22)).frozen? x:=fun x=>rfl;have ah:∀ x,(((w.alloc (.cells a 22)).drew.setCells w.heap.size (i) vs).drew).cell? x=((w.drew.alloc (.cells a 22)).setCells w.heap.size (i) vs).cell? x:=fun x=>rfl;have ai:∀ x,(((w.alloc (.cells a 22)).drew.setCells w.heap.size (i) vs).drew).frozen? x=((w.drew.alloc (.cells a 22)).setCells w.heap.size (i) vs).frozen? x:=fun x=>rfl;have ax:IntKind.i64.wrap ((i:Int)+(m:Int))=(i:Int)+(m:Int):=by rw[Sq]; omega
 have ay:IntKind.i64.wrap ((n:Int)+(m:Int))=(n:Int)+(m:Int):=by rw[Sq]; omega
 have az:IntKind.i64.wrap ((n:Int)+(m:Int)-(i:Int))=(n:Int)+(m:Int)-(i:Int):=by rw[Sq]; omega
 have aA:(0:Int)<=(i:Int)+(m:Int):=by omega
 have aB:i<=n:=by omega
 have aC:((i:Int)+(m:Int)).toNat=i+m:=by omega
 have aD:(i:Int)<=(n:Int):=by omega
 clear K z r k N Z;have aj:Tryz.prog.follows Departure.mixedOrders=true:=c_.mx;go_enter Tryz.func89,Tryz.ntmps89;go_wp2_with (first
  | (at_builtin; refine SR _ rfl _ _ _ _ rfl _ _ rfl rfl _ _ (p _) ?_)
  | (at_builtin; refine Tp _ rfl _ _ 85 85 rfl _ _ rfl rfl (M _ ae af _ _) ?_)
  | (at_builtin; refine Tp _ rfl _ _ 85 85 rfl _ _ rfl rfl (s _ (fun _=>rfl) (fun _=>rfl) _ _ _) ?_))
 go_region_law_o (refine UY rfl _ _ 85 85 rfl (.slice (some ⟨w.heap.size,(i+m),none⟩) (n+m-(i+m)) (G-(i+m))) (.slice (some ⟨b,off+i,none⟩) (n-i) (c-i)) (by simp[Act.eval,Act.put]) (by simp[Act.eval,Act.put]) (s _ ah ai 3 (G-(i+m)) (c-i)) ?_);go_wp2;go_ret;exact⟨rfl,rfl⟩
theorem FR{w:World}{B':Nat}{v:Value}{n i h y:Nat}{xs ys:List Value}(a:w.ownsRow 0 22 1 v n xs)(h1:∀ u∈xs,u.oneCell'=true)(K:w.ownsRow B' 22 1 (.slice (some ⟨h,0,none⟩) 1 y) 1 ys)(h2:∀ u∈ys,u.oneCell'=true)
    (z:∀ b,fa v=some b->b≠h) (hi:i<=n) (hn:n<=1000000) :
    Calls Tryz.prog 89 #[v,.int .i64 i,.slice (some ⟨h,0,none⟩) 1 y] w fun e w'=>∃ v',e=.returned v'/\w'.ownsRow 0 22 1 v' (n+1) (xs.take (i*1)++ys++xs.drop (i*1))/\w.grownBy w' (fa v)/\∀ b,fa v'=some b->fa v=some b∨w.heap.size<=b:=by
 have hu:Tryz.prog.underlying 85=some (.slice 22):=by kernel_rfl
 have o:ys.length=1:=by rw[K.1]
 have s:∀(j:Nat) (c:Value),ys[j]?=some c->w.cell? ((⟨h,0,none⟩:Addr).add j)=some c:=K.cells (g:=h) rfl;have V:b_ Tryz.prog 22 ⟨.slice (.int .i64),3,24,0⟩:=c_.fact (T:=22) (e:=⟨.slice (.int .i64),3,24,0⟩) rfl;rcases QA i n with f|f
 ·rcases a.2 with⟨_,rfl⟩|⟨g,cap,cur,rfl,_,L,A,B,C,hx⟩
  ·exact absurd f (Q' _)
  have p:xs.length=n*1:=a.1;have D:∀ j v,xs[j]?=some v->w.cell? ⟨g,0+j,none⟩=some v:=fun j v M=>by
   have:=a.cells (g:=g) rfl j v M;rwa [Ri]at this
  have E:∀ j v,ys[j]?=some v->w.cell? ⟨h,0+j,none⟩=some v:=fun j v M=>by
   have:=s j v M;rwa [Ri]at this
  rcases QA cap (n+1)with N|N
  ·refine(Fu g 0 n cap i h 0 1 y xs ys w f (by decide) A N (by omega) (by rw[p]; omega) (by rw[o]) D E h1 h2).mono fun e w' ⟨t,x⟩=>?_;have F:=UR w (n+1) cap 22;have H:=TD w (n+1) cap 22 (by unfold maxLen; omega);generalize grownCap w (n+1) cap 22=G at t x F H;subst x;obtain⟨r,l⟩:=ub (w:=w) (T:=22) (sz:=1) (n:=n) (G:=G) (i:=i) (xs:=xs) (ys:=ys) (Z1:=Builtin.zeroCells (.slice none 0 0:Value).cells (n+1-i)) (Z2:=Builtin.zeroCells (.slice none 0 0:Value).cells (G-(n+1))) p hi F H o (by rw[iY]; rfl) (by rw[iY]; rfl);simp only[Ry]at r l ⊢;refine⟨_,t,r,?_,fun b Q=>.inr ?_⟩
   ·exact⟨l.os,l.tape,l.output,l.size,fun k hk _=>l.block k hk (by simp)⟩
   ·cases Q; exact Qu _
  ·have q:∃ d,w.heap[h]?=some (.cells d 22 (0,0)):=by
     rcases K.2 with⟨e,_⟩|⟨g',W,I,e,_,R,_⟩
     ·cases e
     ·cases e; exact⟨I,R⟩
   obtain⟨d,q⟩:=q;have aa:cur.size=cap*1:=C;have S:∀ j,j<(n+1)->(w.cell? ⟨g,0+j,none⟩).isSome=true:=fun j M=>by
    have:w.heap[g]?=some (.cells cur.toList.toArray 22 (0,0)):=by rw[L]
    rw[B2 this,Qr (by rw[RC]; omega)]; rfl
   have U:∀ j,w.frozen? ⟨g,j,none⟩=false:=fun j=>lr (cur:=cur.toList) (T:=22) (by rw[L]);have J:∀ j,w.frozen? ⟨h,j,none⟩=false:=fun j=>lr (cur:=d.toList) (T:=22) (by rw[q]);refine(Be g 0 n cap i h 0 1 y xs ys w f (by decide) N (by unfold maxLen at B; omega) (fun e=>z g rfl e.symm) (by rw[p]; omega) (by rw[o]) D S (fun j _=>U _) E h1 h2 22 22 d.size cur.size (by unfold World.shape?; rw[q]) (by unfold World.shape?; rw[L]) (by omega) (J _) (J _)).mono fun e w' ⟨t,x⟩=>?_;subst x;obtain⟨r,l⟩:=ri (w:=w) (T:=22) (sz:=1) (n:=n) (i:=i) L C hx hi N B o;simp only[Q8]at t ⊢;simp only[Ry]at r l ⊢;exact⟨_,t,r,l,fun b Q=>.inl Q⟩
 ·have f:i=n:=by omega
  subst f;have p:xs.length=i*1:=a.1;have X:xs.take (i*1)++ys++xs.drop (i*1)=xs++ys:=by rw[QQ (by omega),Rl (by omega),Q9]
  rw[X];obtain⟨v',w',r,l,O,Y⟩:=gg (P:=Tryz.prog) (T:=85) (ty:=85) hu V (QE _) (by decide) a (u:=.slice (some ⟨h,0,none⟩) 1 y) (m:=1) (news:=ys) (by rw[o]; rfl) h2 (.inr ⟨_,_,rfl,s⟩) (by unfold maxLen; omega) (show(i+1)*24<=_ by omega);have O:w.grownBy w' (fa v):=by
   have e:fa v=v.ownBlock:=by
    rcases a.2 with⟨rfl,_⟩|⟨g,cap,cur,rfl,_⟩<;>rfl
   rw[e]; exact O
  have key:Calls Tryz.prog 89 #[v,.int .i64 i,.slice (some ⟨h,0,none⟩) 1 y] w fun e Z=>e=.returned v'/\Z=w':=by
   clear l O Y s K h1 h2 z X V;rcases a.2 with⟨rfl,rfl⟩|⟨g,cap,cur,rfl,_,_,A,_⟩
   ·clear a;go_enter Tryz.func89,Tryz.ntmps89;go_wp2_with (at_builtin; refine SR _ rfl _ _ _ _ rfl _ _ rfl rfl _ _ r ?_);go_ret;exact⟨rfl,rfl⟩
   ·clear a;go_enter Tryz.func89,Tryz.ntmps89;go_wp2_with (at_builtin; refine SR _ rfl _ _ _ _ rfl _ _ rfl rfl _ _ r ?_)
    all_goals (go_ret; exact⟨rfl,rfl⟩)
  exact key.mono fun e Z ⟨t,x⟩=>⟨v',t,by rw[x]; exact l,by rw[x]; exact O,Y⟩
theorem On:(Tryz.prog.info? 31).map (fun i=>(i.zero,i.size,i.bytes))=some (some (.slice none 0 0),1,24):=by kernel_rfl
theorem AS(b off n c i f a m q:Nat)(cs vs:List Value)(w:World)(hi:i<n)(hm:0<m)(E:n+m<=c)(ab:c<=9223372036854775807)(r:f≠b)
    (F:cs.length=n) (G:vs.length=m)
    (H:∀ j v,cs[j]?=some v->w.cell? ⟨b,off+j,none⟩=some v) (o:∀ j,j<(n+m)->(w.cell? ⟨b,off+j,none⟩).isSome=true) (s:∀ j,j<(n+m)->w.frozen? ⟨b,off+j,none⟩=false)
    (I:∀ j v,vs[j]?=some v->w.cell? ⟨f,a+j,none⟩=some v) (J:∀ v∈cs,v.oneCell'=true) (K:∀ v∈vs,v.oneCell'=true)
    (tA tB:TypeId) (L M:Nat) (N:w.shape? f=some (tA,L)) (O:w.shape? b=some (tB,M)) (Q:M≠0) (R:w.frozen? ⟨f,a,none⟩=false) (S:w.frozen? ⟨f,L,none⟩=false) :
    Calls Tryz.prog 90 #[.slice (some ⟨b,off,none⟩) n c,.int .i64 i,.slice (some ⟨f,a,none⟩) m q] w fun e w' =>
     e=.returned (.slice (some ⟨b,off,none⟩) (n+m) c)/\w'=(w.drew.setCells b (off+(i+m)) (cs.drop (i))).setCells b (off+i) vs:=by
 obtain⟨i0,t,ad,u,ae⟩:=Un On;have T:Tryz.prog.underlying 116=some (.slice 31):=by kernel_rfl
 have af:¬((m:Int)=0):=by omega
 have ah:¬((i:Int)=(n:Int)):=by omega
 have y:(Tryz.prog.info? 31).map (·.size)=some 1:=by rw[t]; simp[u]
 have z:∀ w,(Go.sizeOf 31).run Tryz.prog w=.ok 1 w:=fun w=>by simp[sizeOf,typeInfo,t,u]
 have U:∀ V X,(callFunc 116 #[.slice (some ⟨f,a,none⟩) m q,.slice (some ⟨b,off+(i+m),none⟩) V X]).run Tryz.prog w=.ok (.value (.bool false)) w:=fun V X=>by
  rw[VN Tryz.func116 (by kernel_rfl) (by kernel_rfl) (by kernel_rfl) (e:=Extern.SlicesOverlaps.overlaps #[116,116] #[4]) (by kernel_rfl),
   VA w 116 4 31 T 1 z ⟨f,a,none⟩ ⟨b,off+(i+m),none⟩ m q V X r tA tB L M N O Q R S]
  rfl
 have Y:(cs.drop (i)).length=(n-i):=by rw[Q5,F]
 have ai:IntKind.i64.wrap ((i:Int)+(m:Int))=(i:Int)+(m:Int):=by rw[Sq]; omega
 have aj:IntKind.i64.wrap ((n:Int)+(m:Int))=(n:Int)+(m:Int):=by rw[Sq]; omega
 have ak:(0:Int)<=(i:Int)+(m:Int):=by omega
 have al:i<=n:=by omega
 have an:((i:Int)+(m:Int)).toNat=i+m:=by omega
 have ac:((n:Int)+(m:Int)).toNat=n+m:=by omega
 have ao:¬(c=i+m):=by omega
 have aq:(i:Int)<=(n:Int)+(m:Int):=by omega
 have ar:¬(c=i):=by omega
 have g:∀ ty p sc,(Builtin.copy_ #[116,116] ty #[.slice (some ⟨b,off+(i+m),none⟩) (n+m-(i+m)) p,.slice (some ⟨b,off+i,none⟩) (n+m-i) sc]).run Tryz.prog w.drew=.ok (goInt ((n-i:Nat):Int)) (w.drew.setCells b (off+(i+m)) (cs.drop (i))):=fun ty p sc =>
  f_ w.drew _ _ ty 31 1 (n-i) b (off+(i+m)) (n+m-(i+m)) p ⟨b,off+i,none⟩ (n+m-i) sc (cs.drop (i)) T y (by simp only[Tu]; split<;>omega) (by rw[Y]; omega)
   (fun j v l=>by rw[Ri,RF]; exact H (i+j) v (by rwa [Rg]at l))
   (fun j l=>by rw[RF]; exact o _ (by omega)) (fun j l=>by rw[RF]; exact s _ (by omega)) (fun v hv=>J v (Rh hv))
 obtain⟨A,d⟩:∃ A,A=w.drew.setCells b (off+(i+m)) (cs.drop (i)):=⟨_,rfl⟩;have B:∀ k,k<(n+m)->(A.cell? ⟨b,off+k,none⟩).isSome=true:=fun k hk=>by
  rw[d];exact isSome_setCells b _ _ _ (fun j l=>by rw[RF]; exact o _ (by omega)) _ (o k hk)
 have C:∀(W:World),(∀ x,W.cell? x=A.cell? x)->(∀ x,W.frozen? x=A.frozen? x)->∀ ty p,(Builtin.copy_ #[116,116] ty #[.slice (some ⟨b,off+i,none⟩) (n+m-i) p,.slice (some ⟨f,a,none⟩) m q]).run Tryz.prog W=.ok (goInt m) (W.setCells b (off+i) vs):=fun W D Z ty p =>
  f_ W _ _ ty 31 1 m b (off+i) (n+m-i) p ⟨f,a,none⟩ m q vs T y (by simp only[Tu]; split<;>omega) (by rw[G]; omega)
   (fun j v l=>by
    rw[Ri,D,d,Tj b _ _ _ _ (fun h _=>absurd h r)];exact I j v l)
   (fun j l=>by rw[D,RF]; exact B _ (by omega)) (fun j l=>by rw[Z,d,Tc,RF]; exact s _ (by omega)) K
 rw[<-d]at g;have aa:Tryz.prog.follows Departure.mixedOrders=true:=c_.mx;go_enter Tryz.func90,Tryz.ntmps90;go_wp2_with (simp only[U]);go_region_law_o (refine UY rfl _ _ 116 116 rfl _ _ (by simp[Act.eval,Act.put]) (by simp[Act.eval,Act.put]) (g _ _ _) ?_);go_wp2_with (at_builtin; refine Tp _ rfl _ _ 116 116 rfl _ _ rfl rfl (C _ (fun _=>rfl) (fun _=>rfl) _ _) ?_);go_ret
 first|exact⟨rfl,rfl⟩|exact⟨rfl,by rw[d]⟩
theorem Ft(b off n c i q d m O:Nat)(cs vs:List Value)(w:World)(hi:i<n)(hm:0<m)(an:n<=c)(u:c<n+m)(C:(n+m)*24<=140737488355328)
    (D:cs.length=n) (Q:vs.length=m)
    (y:∀ j v,cs[j]?=some v->w.cell? ⟨b,off+j,none⟩=some v)
    (E:∀ j v,vs[j]?=some v->w.cell? ⟨q,d+j,none⟩=some v) (R:∀ v∈cs,v.oneCell'=true) (S:∀ v∈vs,v.oneCell'=true) :
    Calls Tryz.prog 90 #[.slice (some ⟨b,off,none⟩) n c,.int .i64 i,.slice (some ⟨q,d,none⟩) m O] w fun e w' =>
     e=.returned (.slice (some ⟨w.heap.size,0,none⟩) (n+m) (grownCap w (n+m) c 31)) /\
     w'=(((w.alloc (.cells ((cs.take (i)).toArray++Builtin.zeroCells (.slice none 0 0:Value).cells (n+m-i)++Builtin.zeroCells (.slice none 0 0:Value).cells (grownCap w (n+m) c 31-(n+m))) 31)).drew.setCells w.heap.size (i) vs).drew).setCells w.heap.size ((i+m)) (cs.drop (i)):=by
 obtain⟨i0,F,T,H,I⟩:=Un On;have U:Tryz.prog.underlying 116=some (.slice 31):=by kernel_rfl
 have V:Tryz.prog.underlying 3=some (.int .i64):=by kernel_rfl
 have ao:¬((m:Int)=0):=by omega
 have aq:¬((i:Int)=(n:Int)):=by omega
 have ar:(c:Int)<(n:Int)+(m:Int):=by omega
 have J:(Tryz.prog.info? 31).map (·.size)=some 1:=by rw[F]; simp[H]
 have X:b<w.heap.size:=Ut (y 0 _ (Qr (by omega)));have Y:q<w.heap.size:=Ut (E 0 _ (Qr (by omega)));have K:(n:Int)+(m:Int)-(i:Int)=((n+m-i:Nat):Int):=by omega
 have z:i+(n+m-i)=n+m:=by omega
 have r:(Builtin.firstCells i0.size i (.slice (some ⟨b,off,none⟩) i c)).run Tryz.prog w.drew=.ok (cs.take (i)).toArray w.drew:=by
  rw[H];exact VO w.drew 1 i ⟨b,off,none⟩ i c (cs.take (i)) (by rw[QM,D]; omega) (fun j v f=>by
   rw[Ri];rw[Q1]at f;split at f
   ·exact y j v f
   ·cases f)
 have p:∀ ty,(Builtin.append_ #[116,3] ty #[.slice (some ⟨b,off,none⟩) i c,.int .i64 ((n:Int)+(m:Int)-(i:Int))]).run Tryz.prog w =
     .ok (.slice (some ⟨w.heap.size,0,none⟩) (n+m) (grownCap w (n+m) c 31)) (w.drew.alloc (.cells ((cs.take (i)).toArray++Builtin.zeroCells (.slice none 0 0:Value).cells (n+m-i)++Builtin.zeroCells (.slice none 0 0:Value).cells (grownCap w (n+m) c 31-(n+m))) 31)):=fun ty=>by
  have h:=Ve w 116 3 ty 31 i0 _ .i64 .i64 U V F T (some ⟨b,off,none⟩) i c (cs.take (i)) r (n+m-i) (by omega) (by omega) (by omega) (by omega) (by rw[I]; omega) (by rw[I,z]; exact VG u C);rw[z]at h;rw[K];exact h
 obtain⟨G,N⟩:∃ G,G=grownCap w (n+m) c 31:=⟨_,rfl⟩;obtain⟨a,k⟩:∃ a:Array Value,a=(cs.take (i)).toArray++Builtin.zeroCells (.slice none 0 0:Value).cells (n+m-i)++Builtin.zeroCells (.slice none 0 0:Value).cells (G-(n+m)):=⟨_,rfl⟩;rw[<-N]at p ⊢;rw[<-k]at p ⊢;have Z:(n+m)<=a.size:=by
  rw[k];simp[Builtin.zeroCells,Value.cells];omega
 obtain⟨o,g⟩:∃ o,o=w.drew.alloc (.cells a 31):=⟨_,rfl⟩;rw[<-g]at p;have hN:∀ j,j<(n+m)->(o.cell? ⟨w.heap.size,j,none⟩).isSome=true:=fun j f=>by
  rw[g,VH (w:=w.drew) a _ w.heap.size j rfl,TF (by omega)]; rfl
 have L:∀ j,o.frozen? ⟨w.heap.size,j,none⟩=false:=fun j=>by rw[g]; exact VB (w:=w.drew) a _ w.heap.size j rfl
 have aa:∀ j v,w.cell? ⟨b,j,none⟩=some v->o.cell? ⟨b,j,none⟩=some v:=fun j v h=>by rw[g,Tx (w:=w.drew) _ b j X]; exact h
 have ab:∀ j v,w.cell? ⟨q,j,none⟩=some v->o.cell? ⟨q,j,none⟩=some v:=fun j v h=>by rw[g,Tx (w:=w.drew) _ q j Y]; exact h
 have M:∀(W:World),(∀ x,W.cell? x=o.cell? x)->(∀ x,W.frozen? x=o.frozen? x)->∀ ty A,(Builtin.copy_ #[116,116] ty #[.slice (some ⟨w.heap.size,i,none⟩) (n+m-i) A,.slice (some ⟨q,d,none⟩) m O]).run Tryz.prog W=.ok (goInt m) (W.setCells w.heap.size (i) vs):=fun W l B ty A =>
  f_ W _ _ ty 31 1 m w.heap.size (i) (n+m-i) A ⟨q,d,none⟩ m O vs U J (by simp only[Tu]; split<;>omega) (by rw[Q]; omega)
   (fun j v f=>by rw[Ri,l]; exact ab _ v (E j v f))
   (fun j f=>by rw[l]; exact hN _ (by omega)) (fun j f=>by rw[B]; exact L _) S
 have au:n+m<=G:=by rw[N]; exact UR w _ _ _
 have ak:G<=9223372036854775807:=by
  have:=TD w (n+m) c 31 (by unfold maxLen; omega);rw[<-N]at this;unfold maxLen at this;omega
 have av:¬(G=i):=by omega
 have al:¬(G=i+m):=by omega
 have aw:¬(c=i):=by omega
 have ac:b≠w.heap.size:=by omega
 have ad:(cs.drop (i)).length=(n-i):=by rw[Q5,D]
 have s:∀(W:World),(∀ x,W.cell? x=(o.setCells w.heap.size (i) vs).cell? x)->(∀ x,W.frozen? x=(o.setCells w.heap.size (i) vs).frozen? x)->∀ ty A sc,(Builtin.copy_ #[116,116] ty #[.slice (some ⟨w.heap.size,(i+m),none⟩) (n+m-(i+m)) A,.slice (some ⟨b,off+i,none⟩) (n-i) sc]).run Tryz.prog W=.ok (goInt ((n-i:Nat):Int)) (W.setCells w.heap.size ((i+m)) (cs.drop (i))):=fun W l B ty A sc =>
  f_ W _ _ ty 31 1 (n-i) w.heap.size ((i+m)) (n+m-(i+m)) A ⟨b,off+i,none⟩ (n-i) sc (cs.drop (i)) U J (by simp only[Tu]; split<;>omega) (by rw[ad]; omega)
   (fun j v f=>by
    rw[Ri,l,Tj _ _ _ _ _ (fun h _=>absurd h ac),RF];exact aa _ v (y (i+j) v (by rwa [Rg]at f)))
   (fun j f=>by rw[l]; exact isSome_setCells _ _ _ _ (fun t ht=>hN _ (by omega)) _ (hN _ (by omega)))
   (fun j f=>by rw[B,Tc]; exact L _) (fun v hv=>R v (Rh hv))
 subst g;have ae:∀ x,((w.alloc (.cells a 31)).drew).cell? x=(w.drew.alloc (.cells a 31)).cell? x:=fun x=>rfl;have af:∀ x,((w.alloc (.cells a 31)).drew).frozen? x=(w.drew.alloc (.cells a 31)).frozen? x:=fun x=>rfl;have ah:∀ x,(((w.alloc (.cells a 31)).drew.setCells w.heap.size (i) vs).drew).cell? x=((w.drew.alloc (.cells a 31)).setCells w.heap.size (i) vs).cell? x:=fun x=>rfl;have ai:∀ x,(((w.alloc (.cells a 31)).drew.setCells w.heap.size (i) vs).drew).frozen? x=((w.drew.alloc (.cells a 31)).setCells w.heap.size (i) vs).frozen? x:=fun x=>rfl;have ax:IntKind.i64.wrap ((i:Int)+(m:Int))=(i:Int)+(m:Int):=by rw[Sq]; omega
 have ay:IntKind.i64.wrap ((n:Int)+(m:Int))=(n:Int)+(m:Int):=by rw[Sq]; omega
 have az:IntKind.i64.wrap ((n:Int)+(m:Int)-(i:Int))=(n:Int)+(m:Int)-(i:Int):=by rw[Sq]; omega
 have aA:(0:Int)<=(i:Int)+(m:Int):=by omega
 have aB:i<=n:=by omega
 have aC:((i:Int)+(m:Int)).toNat=i+m:=by omega
 have aD:(i:Int)<=(n:Int):=by omega
 clear K z r k N Z;have aj:Tryz.prog.follows Departure.mixedOrders=true:=c_.mx;go_enter Tryz.func90,Tryz.ntmps90;go_wp2_with (first
  | (at_builtin; refine SR _ rfl _ _ _ _ rfl _ _ rfl rfl _ _ (p _) ?_)
  | (at_builtin; refine Tp _ rfl _ _ 116 116 rfl _ _ rfl rfl (M _ ae af _ _) ?_)
  | (at_builtin; refine Tp _ rfl _ _ 116 116 rfl _ _ rfl rfl (s _ (fun _=>rfl) (fun _=>rfl) _ _ _) ?_))
 go_region_law_o (refine UY rfl _ _ 116 116 rfl (.slice (some ⟨w.heap.size,(i+m),none⟩) (n+m-(i+m)) (G-(i+m))) (.slice (some ⟨b,off+i,none⟩) (n-i) (c-i)) (by simp[Act.eval,Act.put]) (by simp[Act.eval,Act.put]) (s _ ah ai 3 (G-(i+m)) (c-i)) ?_);go_wp2;go_ret;exact⟨rfl,rfl⟩
theorem JD{w:World}{B':Nat}{v:Value}{n i h y:Nat}{xs ys:List Value}(a:w.ownsRow 0 31 1 v n xs)(h1:∀ u∈xs,u.oneCell'=true)(K:w.ownsRow B' 31 1 (.slice (some ⟨h,0,none⟩) 1 y) 1 ys)(h2:∀ u∈ys,u.oneCell'=true)
    (z:∀ b,fa v=some b->b≠h) (hi:i<=n) (hn:n<=1000000) :
    Calls Tryz.prog 90 #[v,.int .i64 i,.slice (some ⟨h,0,none⟩) 1 y] w fun e w'=>∃ v',e=.returned v'/\w'.ownsRow 0 31 1 v' (n+1) (xs.take (i*1)++ys++xs.drop (i*1))/\w.grownBy w' (fa v)/\∀ b,fa v'=some b->fa v=some b∨w.heap.size<=b:=by
 have hu:Tryz.prog.underlying 116=some (.slice 31):=by kernel_rfl
 have o:ys.length=1:=by rw[K.1]
 have s:∀(j:Nat) (c:Value),ys[j]?=some c->w.cell? ((⟨h,0,none⟩:Addr).add j)=some c:=K.cells (g:=h) rfl;have V:b_ Tryz.prog 31 ⟨.slice eK,55,24,0⟩:=c_.fact (T:=31) (e:=⟨.slice eK,55,24,0⟩) rfl;rcases QA i n with f|f
 ·rcases a.2 with⟨_,rfl⟩|⟨g,cap,cur,rfl,_,L,A,B,C,hx⟩
  ·exact absurd f (Q' _)
  have p:xs.length=n*1:=a.1;have D:∀ j v,xs[j]?=some v->w.cell? ⟨g,0+j,none⟩=some v:=fun j v M=>by
   have:=a.cells (g:=g) rfl j v M;rwa [Ri]at this
  have E:∀ j v,ys[j]?=some v->w.cell? ⟨h,0+j,none⟩=some v:=fun j v M=>by
   have:=s j v M;rwa [Ri]at this
  rcases QA cap (n+1)with N|N
  ·refine(Ft g 0 n cap i h 0 1 y xs ys w f (by decide) A N (by omega) (by rw[p]; omega) (by rw[o]) D E h1 h2).mono fun e w' ⟨t,x⟩=>?_;have F:=UR w (n+1) cap 31;have H:=TD w (n+1) cap 31 (by unfold maxLen; omega);generalize grownCap w (n+1) cap 31=G at t x F H;subst x;obtain⟨r,l⟩:=ub (w:=w) (T:=31) (sz:=1) (n:=n) (G:=G) (i:=i) (xs:=xs) (ys:=ys) (Z1:=Builtin.zeroCells (.slice none 0 0:Value).cells (n+1-i)) (Z2:=Builtin.zeroCells (.slice none 0 0:Value).cells (G-(n+1))) p hi F H o (by rw[iY]; rfl) (by rw[iY]; rfl);simp only[Ry]at r l ⊢;refine⟨_,t,r,?_,fun b Q=>.inr ?_⟩
   ·exact⟨l.os,l.tape,l.output,l.size,fun k hk _=>l.block k hk (by simp)⟩
   ·cases Q; exact Qu _
  ·have q:∃ d,w.heap[h]?=some (.cells d 31 (0,0)):=by
     rcases K.2 with⟨e,_⟩|⟨g',W,I,e,_,R,_⟩
     ·cases e
     ·cases e; exact⟨I,R⟩
   obtain⟨d,q⟩:=q;have aa:cur.size=cap*1:=C;have S:∀ j,j<(n+1)->(w.cell? ⟨g,0+j,none⟩).isSome=true:=fun j M=>by
    have:w.heap[g]?=some (.cells cur.toList.toArray 31 (0,0)):=by rw[L]
    rw[B2 this,Qr (by rw[RC]; omega)]; rfl
   have U:∀ j,w.frozen? ⟨g,j,none⟩=false:=fun j=>lr (cur:=cur.toList) (T:=31) (by rw[L]);have J:∀ j,w.frozen? ⟨h,j,none⟩=false:=fun j=>lr (cur:=d.toList) (T:=31) (by rw[q]);refine(AS g 0 n cap i h 0 1 y xs ys w f (by decide) N (by unfold maxLen at B; omega) (fun e=>z g rfl e.symm) (by rw[p]; omega) (by rw[o]) D S (fun j _=>U _) E h1 h2 31 31 d.size cur.size (by unfold World.shape?; rw[q]) (by unfold World.shape?; rw[L]) (by omega) (J _) (J _)).mono fun e w' ⟨t,x⟩=>?_;subst x;obtain⟨r,l⟩:=ri (w:=w) (T:=31) (sz:=1) (n:=n) (i:=i) L C hx hi N B o;simp only[Q8]at t ⊢;simp only[Ry]at r l ⊢;exact⟨_,t,r,l,fun b Q=>.inl Q⟩
 ·have f:i=n:=by omega
  subst f;have p:xs.length=i*1:=a.1;have X:xs.take (i*1)++ys++xs.drop (i*1)=xs++ys:=by rw[QQ (by omega),Rl (by omega),Q9]
  rw[X];obtain⟨v',w',r,l,O,Y⟩:=gg (P:=Tryz.prog) (T:=116) (ty:=116) hu V (QE _) (by decide) a (u:=.slice (some ⟨h,0,none⟩) 1 y) (m:=1) (news:=ys) (by rw[o]; rfl) h2 (.inr ⟨_,_,rfl,s⟩) (by unfold maxLen; omega) (show(i+1)*24<=_ by omega);have O:w.grownBy w' (fa v):=by
   have e:fa v=v.ownBlock:=by
    rcases a.2 with⟨rfl,_⟩|⟨g,cap,cur,rfl,_⟩<;>rfl
   rw[e]; exact O
  have key:Calls Tryz.prog 90 #[v,.int .i64 i,.slice (some ⟨h,0,none⟩) 1 y] w fun e Z=>e=.returned v'/\Z=w':=by
   clear l O Y s K h1 h2 z X V;rcases a.2 with⟨rfl,rfl⟩|⟨g,cap,cur,rfl,_,_,A,_⟩
   ·clear a;go_enter Tryz.func90,Tryz.ntmps90;go_wp2_with (at_builtin; refine SR _ rfl _ _ _ _ rfl _ _ rfl rfl _ _ r ?_);go_ret;exact⟨rfl,rfl⟩
   ·clear a;go_enter Tryz.func90,Tryz.ntmps90;go_wp2_with (at_builtin; refine SR _ rfl _ _ _ _ rfl _ _ rfl rfl _ _ r ?_)
    all_goals (go_ret; exact⟨rfl,rfl⟩)
  exact key.mono fun e Z ⟨t,x⟩=>⟨v',t,by rw[x]; exact l,by rw[x]; exact O,Y⟩
theorem JT:(Tryz.prog.info? 37).map (fun i=>(i.zero,i.size,i.bytes))=some (some (.agg #[.slice none 0 0,.bool false,.slice none 0 0,.slice none 0 0]),4,80):=by kernel_rfl
theorem Bn(b off n c i f a m q:Nat)(cs vs:List Value)(w:World)(hi:i<n)(hm:0<m)(E:n+m<=c)(ab:c<=9223372036854775807)(r:f≠b)
    (F:cs.length=n*4) (G:vs.length=m*4)
    (H:∀ j v,cs[j]?=some v->w.cell? ⟨b,off+j,none⟩=some v) (o:∀ j,j<(n+m)*4->(w.cell? ⟨b,off+j,none⟩).isSome=true) (s:∀ j,j<(n+m)*4->w.frozen? ⟨b,off+j,none⟩=false)
    (I:∀ j v,vs[j]?=some v->w.cell? ⟨f,a+j,none⟩=some v) (J:∀ v∈cs,v.oneCell'=true) (K:∀ v∈vs,v.oneCell'=true)
    (tA tB:TypeId) (L M:Nat) (N:w.shape? f=some (tA,L)) (O:w.shape? b=some (tB,M)) (Q:M≠0) (R:w.frozen? ⟨f,a,none⟩=false) (S:w.frozen? ⟨f,L,none⟩=false) :
    Calls Tryz.prog 32 #[.slice (some ⟨b,off,none⟩) n c,.int .i64 i,.slice (some ⟨f,a,none⟩) m q] w fun e w' =>
     e=.returned (.slice (some ⟨b,off,none⟩) (n+m) c)/\w'=(w.drew.setCells b (off+(i+m)*4) (cs.drop (i*4))).setCells b (off+i*4) vs:=by
 obtain⟨i0,t,ad,u,ae⟩:=Un JT;have T:Tryz.prog.underlying 26=some (.slice 37):=by kernel_rfl
 have af:¬((m:Int)=0):=by omega
 have ah:¬((i:Int)=(n:Int)):=by omega
 have y:(Tryz.prog.info? 37).map (·.size)=some 4:=by rw[t]; simp[u]
 have z:∀ w,(Go.sizeOf 37).run Tryz.prog w=.ok 4 w:=fun w=>by simp[sizeOf,typeInfo,t,u]
 have U:∀ V X,(callFunc 66 #[.slice (some ⟨f,a,none⟩) m q,.slice (some ⟨b,off+(i+m)*4,none⟩) V X]).run Tryz.prog w=.ok (.value (.bool false)) w:=fun V X=>by
  rw[VN Tryz.func66 (by kernel_rfl) (by kernel_rfl) (by kernel_rfl) (e:=Extern.SlicesOverlaps.overlaps #[26,26] #[4]) (by kernel_rfl),
   VA w 26 4 37 T 4 z ⟨f,a,none⟩ ⟨b,off+(i+m)*4,none⟩ m q V X r tA tB L M N O Q R S]
  rfl
 have Y:(cs.drop (i*4)).length=(n-i)*4:=by rw[Q5,F]; omega
 have ai:IntKind.i64.wrap ((i:Int)+(m:Int))=(i:Int)+(m:Int):=by rw[Sq]; omega
 have aj:IntKind.i64.wrap ((n:Int)+(m:Int))=(n:Int)+(m:Int):=by rw[Sq]; omega
 have ak:(0:Int)<=(i:Int)+(m:Int):=by omega
 have al:i<=n:=by omega
 have an:((i:Int)+(m:Int)).toNat=i+m:=by omega
 have ac:((n:Int)+(m:Int)).toNat=n+m:=by omega
 have ao:¬(c=i+m):=by omega
 have aq:(i:Int)<=(n:Int)+(m:Int):=by omega
 have ar:¬(c=i):=by omega
 have g:∀ ty p sc,(Builtin.copy_ #[26,26] ty #[.slice (some ⟨b,off+(i+m)*4,none⟩) (n+m-(i+m)) p,.slice (some ⟨b,off+i*4,none⟩) (n+m-i) sc]).run Tryz.prog w.drew=.ok (goInt ((n-i:Nat):Int)) (w.drew.setCells b (off+(i+m)*4) (cs.drop (i*4))):=fun ty p sc =>
  f_ w.drew _ _ ty 37 4 (n-i) b (off+(i+m)*4) (n+m-(i+m)) p ⟨b,off+i*4,none⟩ (n+m-i) sc (cs.drop (i*4)) T y (by simp only[Tu]; split<;>omega) (by rw[Y])
   (fun j v l=>by rw[Ri,RF]; exact H (i*4+j) v (by rwa [Rg]at l))
   (fun j l=>by rw[RF]; exact o _ (by omega)) (fun j l=>by rw[RF]; exact s _ (by omega)) (fun v hv=>J v (Rh hv))
 obtain⟨A,d⟩:∃ A,A=w.drew.setCells b (off+(i+m)*4) (cs.drop (i*4)):=⟨_,rfl⟩;have B:∀ k,k<(n+m)*4->(A.cell? ⟨b,off+k,none⟩).isSome=true:=fun k hk=>by
  rw[d];exact isSome_setCells b _ _ _ (fun j l=>by rw[RF]; exact o _ (by omega)) _ (o k hk)
 have C:∀(W:World),(∀ x,W.cell? x=A.cell? x)->(∀ x,W.frozen? x=A.frozen? x)->∀ ty p,(Builtin.copy_ #[26,26] ty #[.slice (some ⟨b,off+i*4,none⟩) (n+m-i) p,.slice (some ⟨f,a,none⟩) m q]).run Tryz.prog W=.ok (goInt m) (W.setCells b (off+i*4) vs):=fun W D Z ty p =>
  f_ W _ _ ty 37 4 m b (off+i*4) (n+m-i) p ⟨f,a,none⟩ m q vs T y (by simp only[Tu]; split<;>omega) (by rw[G])
   (fun j v l=>by
    rw[Ri,D,d,Tj b _ _ _ _ (fun h _=>absurd h r)];exact I j v l)
   (fun j l=>by rw[D,RF]; exact B _ (by omega)) (fun j l=>by rw[Z,d,Tc,RF]; exact s _ (by omega)) K
 rw[<-d]at g;have aa:Tryz.prog.follows Departure.mixedOrders=true:=c_.mx;go_enter Tryz.func32,Tryz.ntmps32;go_wp2_with (simp only[U]);go_region_law_o (refine UY rfl _ _ 26 26 rfl _ _ (by simp[Act.eval,Act.put]) (by simp[Act.eval,Act.put]) (g _ _ _) ?_);go_wp2_with (at_builtin; refine Tp _ rfl _ _ 26 26 rfl _ _ rfl rfl (C _ (fun _=>rfl) (fun _=>rfl) _ _) ?_);go_ret
 first|exact⟨rfl,rfl⟩|exact⟨rfl,by rw[d]⟩
theorem Ey(b off n c i q d m O:Nat)(cs vs:List Value)(w:World)(hi:i<n)(hm:0<m)(an:n<=c)(u:c<n+m)(C:(n+m)*80<=140737488355328)
    (D:cs.length=n*4) (Q:vs.length=m*4)
    (y:∀ j v,cs[j]?=some v->w.cell? ⟨b,off+j,none⟩=some v)
    (E:∀ j v,vs[j]?=some v->w.cell? ⟨q,d+j,none⟩=some v) (R:∀ v∈cs,v.oneCell'=true) (S:∀ v∈vs,v.oneCell'=true) :
    Calls Tryz.prog 32 #[.slice (some ⟨b,off,none⟩) n c,.int .i64 i,.slice (some ⟨q,d,none⟩) m O] w fun e w' =>
     e=.returned (.slice (some ⟨w.heap.size,0,none⟩) (n+m) (grownCap w (n+m) c 37)) /\
     w'=(((w.alloc (.cells ((cs.take (i*4)).toArray++Builtin.zeroCells (.agg #[.slice none 0 0,.bool false,.slice none 0 0,.slice none 0 0]:Value).cells (n+m-i)++Builtin.zeroCells (.agg #[.slice none 0 0,.bool false,.slice none 0 0,.slice none 0 0]:Value).cells (grownCap w (n+m) c 37-(n+m))) 37)).drew.setCells w.heap.size (i*4) vs).drew).setCells w.heap.size ((i+m)*4) (cs.drop (i*4)):=by
 obtain⟨i0,F,T,H,I⟩:=Un JT;have U:Tryz.prog.underlying 26=some (.slice 37):=by kernel_rfl
 have V:Tryz.prog.underlying 3=some (.int .i64):=by kernel_rfl
 have ao:¬((m:Int)=0):=by omega
 have aq:¬((i:Int)=(n:Int)):=by omega
 have ar:(c:Int)<(n:Int)+(m:Int):=by omega
 have J:(Tryz.prog.info? 37).map (·.size)=some 4:=by rw[F]; simp[H]
 have X:b<w.heap.size:=Ut (y 0 _ (Qr (by omega)));have Y:q<w.heap.size:=Ut (E 0 _ (Qr (by omega)));have K:(n:Int)+(m:Int)-(i:Int)=((n+m-i:Nat):Int):=by omega
 have z:i+(n+m-i)=n+m:=by omega
 have r:(Builtin.firstCells i0.size i (.slice (some ⟨b,off,none⟩) i c)).run Tryz.prog w.drew=.ok (cs.take (i*4)).toArray w.drew:=by
  rw[H];exact VO w.drew 4 i ⟨b,off,none⟩ i c (cs.take (i*4)) (by rw[QM,D]; omega) (fun j v f=>by
   rw[Ri];rw[Q1]at f;split at f
   ·exact y j v f
   ·cases f)
 have p:∀ ty,(Builtin.append_ #[26,3] ty #[.slice (some ⟨b,off,none⟩) i c,.int .i64 ((n:Int)+(m:Int)-(i:Int))]).run Tryz.prog w =
     .ok (.slice (some ⟨w.heap.size,0,none⟩) (n+m) (grownCap w (n+m) c 37)) (w.drew.alloc (.cells ((cs.take (i*4)).toArray++Builtin.zeroCells (.agg #[.slice none 0 0,.bool false,.slice none 0 0,.slice none 0 0]:Value).cells (n+m-i)++Builtin.zeroCells (.agg #[.slice none 0 0,.bool false,.slice none 0 0,.slice none 0 0]:Value).cells (grownCap w (n+m) c 37-(n+m))) 37)):=fun ty=>by
  have h:=Ve w 26 3 ty 37 i0 _ .i64 .i64 U V F T (some ⟨b,off,none⟩) i c (cs.take (i*4)) r (n+m-i) (by omega) (by omega) (by omega) (by omega) (by rw[I]; omega) (by rw[I,z]; exact VG u C);rw[z]at h;rw[K];exact h
 obtain⟨G,N⟩:∃ G,G=grownCap w (n+m) c 37:=⟨_,rfl⟩;obtain⟨a,k⟩:∃ a:Array Value,a=(cs.take (i*4)).toArray++Builtin.zeroCells (.agg #[.slice none 0 0,.bool false,.slice none 0 0,.slice none 0 0]:Value).cells (n+m-i)++Builtin.zeroCells (.agg #[.slice none 0 0,.bool false,.slice none 0 0,.slice none 0 0]:Value).cells (G-(n+m)):=⟨_,rfl⟩;rw[<-N]at p ⊢;rw[<-k]at p ⊢;have Z:(n+m)*4<=a.size:=by
  rw[k];simp[Builtin.zeroCells,Value.cells];omega
 obtain⟨o,g⟩:∃ o,o=w.drew.alloc (.cells a 37):=⟨_,rfl⟩;rw[<-g]at p;have hN:∀ j,j<(n+m)*4->(o.cell? ⟨w.heap.size,j,none⟩).isSome=true:=fun j f=>by
  rw[g,VH (w:=w.drew) a _ w.heap.size j rfl,TF (by omega)]; rfl
 have L:∀ j,o.frozen? ⟨w.heap.size,j,none⟩=false:=fun j=>by rw[g]; exact VB (w:=w.drew) a _ w.heap.size j rfl
 have aa:∀ j v,w.cell? ⟨b,j,none⟩=some v->o.cell? ⟨b,j,none⟩=some v:=fun j v h=>by rw[g,Tx (w:=w.drew) _ b j X]; exact h
 have ab:∀ j v,w.cell? ⟨q,j,none⟩=some v->o.cell? ⟨q,j,none⟩=some v:=fun j v h=>by rw[g,Tx (w:=w.drew) _ q j Y]; exact h
 have M:∀(W:World),(∀ x,W.cell? x=o.cell? x)->(∀ x,W.frozen? x=o.frozen? x)->∀ ty A,(Builtin.copy_ #[26,26] ty #[.slice (some ⟨w.heap.size,i*4,none⟩) (n+m-i) A,.slice (some ⟨q,d,none⟩) m O]).run Tryz.prog W=.ok (goInt m) (W.setCells w.heap.size (i*4) vs):=fun W l B ty A =>
  f_ W _ _ ty 37 4 m w.heap.size (i*4) (n+m-i) A ⟨q,d,none⟩ m O vs U J (by simp only[Tu]; split<;>omega) (by rw[Q])
   (fun j v f=>by rw[Ri,l]; exact ab _ v (E j v f))
   (fun j f=>by rw[l]; exact hN _ (by omega)) (fun j f=>by rw[B]; exact L _) S
 have au:n+m<=G:=by rw[N]; exact UR w _ _ _
 have ak:G<=9223372036854775807:=by
  have:=TD w (n+m) c 37 (by unfold maxLen; omega);rw[<-N]at this;unfold maxLen at this;omega
 have av:¬(G=i):=by omega
 have al:¬(G=i+m):=by omega
 have aw:¬(c=i):=by omega
 have ac:b≠w.heap.size:=by omega
 have ad:(cs.drop (i*4)).length=(n-i)*4:=by rw[Q5,D]; omega
 have s:∀(W:World),(∀ x,W.cell? x=(o.setCells w.heap.size (i*4) vs).cell? x)->(∀ x,W.frozen? x=(o.setCells w.heap.size (i*4) vs).frozen? x)->∀ ty A sc,(Builtin.copy_ #[26,26] ty #[.slice (some ⟨w.heap.size,(i+m)*4,none⟩) (n+m-(i+m)) A,.slice (some ⟨b,off+i*4,none⟩) (n-i) sc]).run Tryz.prog W=.ok (goInt ((n-i:Nat):Int)) (W.setCells w.heap.size ((i+m)*4) (cs.drop (i*4))):=fun W l B ty A sc =>
  f_ W _ _ ty 37 4 (n-i) w.heap.size ((i+m)*4) (n+m-(i+m)) A ⟨b,off+i*4,none⟩ (n-i) sc (cs.drop (i*4)) U J (by simp only[Tu]; split<;>omega) (by rw[ad])
   (fun j v f=>by
    rw[Ri,l,Tj _ _ _ _ _ (fun h _=>absurd h ac),RF];exact aa _ v (y (i*4+j) v (by rwa [Rg]at f)))
   (fun j f=>by rw[l]; exact isSome_setCells _ _ _ _ (fun t ht=>hN _ (by omega)) _ (hN _ (by omega)))
   (fun j f=>by rw[B,Tc]; exact L _) (fun v hv=>R v (Rh hv))
 subst g;have ae:∀ x,((w.alloc (.cells a 37)).drew).cell? x=(w.drew.alloc (.cells a 37)).cell? x:=fun x=>rfl;have af:∀ x,((w.alloc (.cells a 37)).drew).frozen? x=(w.drew.alloc (.cells a 37)).frozen? x:=fun x=>rfl;have ah:∀ x,(((w.alloc (.cells a 37)).drew.setCells w.heap.size (i*4) vs).drew).cell? x=((w.drew.alloc (.cells a 37)).setCells w.heap.size (i*4) vs).cell? x:=fun x=>rfl;have ai:∀ x,(((w.alloc (.cells a 37)).drew.setCells w.heap.size (i*4) vs).drew).frozen? x=((w.drew.alloc (.cells a 37)).setCells w.heap.size (i*4) vs).frozen? x:=fun x=>rfl;have ax:IntKind.i64.wrap ((i:Int)+(m:Int))=(i:Int)+(m:Int):=by rw[Sq]; omega
 have ay:IntKind.i64.wrap ((n:Int)+(m:Int))=(n:Int)+(m:Int):=by rw[Sq]; omega
 have az:IntKind.i64.wrap ((n:Int)+(m:Int)-(i:Int))=(n:Int)+(m:Int)-(i:Int):=by rw[Sq]; omega
 have aA:(0:Int)<=(i:Int)+(m:Int):=by omega
 have aB:i<=n:=by omega
 have aC:((i:Int)+(m:Int)).toNat=i+m:=by omega
 have aD:(i:Int)<=(n:Int):=by omega
 clear K z r k N Z;have aj:Tryz.prog.follows Departure.mixedOrders=true:=c_.mx;go_enter Tryz.func32,Tryz.ntmps32;go_wp2_with (first
  | (at_builtin; refine SR _ rfl _ _ _ _ rfl _ _ rfl rfl _ _ (p _) ?_)
  | (at_builtin; refine Tp _ rfl _ _ 26 26 rfl _ _ rfl rfl (M _ ae af _ _) ?_)
  | (at_builtin; refine Tp _ rfl _ _ 26 26 rfl _ _ rfl rfl (s _ (fun _=>rfl) (fun _=>rfl) _ _ _) ?_))
 go_region_law_o (refine UY rfl _ _ 26 26 rfl (.slice (some ⟨w.heap.size,(i+m)*4,none⟩) (n+m-(i+m)) (G-(i+m))) (.slice (some ⟨b,off+i*4,none⟩) (n-i) (c-i)) (by simp[Act.eval,Act.put]) (by simp[Act.eval,Act.put]) (s _ ah ai 3 (G-(i+m)) (c-i)) ?_);go_wp2;go_ret;exact⟨rfl,rfl⟩
theorem yb{w:World}{B':Nat}{v:Value}{n i h x:Nat}{xs ys:List Value}(a:w.ownsRow 0 37 4 v n xs)(h1:∀ u∈xs,u.oneCell'=true)(K:w.ownsRow B' 37 4 (.slice (some ⟨h,0,none⟩) 1 x) 1 ys)(h2:∀ u∈ys,u.oneCell'=true)
    (z:∀ b,fa v=some b->b≠h) (hi:i<=n) (hn:n<=1000000) :
    Calls Tryz.prog 32 #[v,.int .i64 i,.slice (some ⟨h,0,none⟩) 1 x] w fun e w'=>∃ v',e=.returned v'/\w'.ownsRow 0 37 4 v' (n+1) (xs.take (i*4)++ys++xs.drop (i*4))/\w.grownBy w' (fa v)/\∀ b,fa v'=some b->fa v=some b∨w.heap.size<=b:=by
 have hu:Tryz.prog.underlying 26=some (.slice 37):=by kernel_rfl
 have l:ys.length=4:=by rw[K.1]
 have r:∀(j:Nat) (c:Value),ys[j]?=some c->w.cell? ((⟨h,0,none⟩:Addr).add j)=some c:=K.cells (g:=h) rfl;have V:b_ Tryz.prog 37 ⟨.pair (.slice eK) fT,0,80,2⟩:=c_.fact (T:=37) (e:=⟨.pair (.slice eK) fT,0,80,2⟩) rfl;rcases QA i n with f|f
 ·rcases a.2 with⟨_,rfl⟩|⟨g,cap,cur,rfl,_,L,A,B,C,hx⟩
  ·exact absurd f (Q' _)
  have p:xs.length=n*4:=a.1;have D:∀ j v,xs[j]?=some v->w.cell? ⟨g,0+j,none⟩=some v:=fun j v M=>by
   have:=a.cells (g:=g) rfl j v M;rwa [Ri]at this
  have E:∀ j v,ys[j]?=some v->w.cell? ⟨h,0+j,none⟩=some v:=fun j v M=>by
   have:=r j v M;rwa [Ri]at this
  rcases QA cap (n+1)with N|N
  ·refine(Ey g 0 n cap i h 0 1 x xs ys w f (by decide) A N (by omega) (by rw[p]) (by rw[l]) D E h1 h2).mono fun e w' ⟨s,t⟩=>?_;have F:=UR w (n+1) cap 37;have H:=TD w (n+1) cap 37 (by unfold maxLen; omega);generalize grownCap w (n+1) cap 37=G at s t F H;subst t;obtain⟨y,o⟩:=ub (w:=w) (T:=37) (sz:=4) (n:=n) (G:=G) (i:=i) (xs:=xs) (ys:=ys) (Z1:=Builtin.zeroCells (.agg #[.slice none 0 0,.bool false,.slice none 0 0,.slice none 0 0]:Value).cells (n+1-i)) (Z2:=Builtin.zeroCells (.agg #[.slice none 0 0,.bool false,.slice none 0 0,.slice none 0 0]:Value).cells (G-(n+1))) p hi F H l (by rw[iY]; rfl) (by rw[iY]; rfl);refine⟨_,s,y,?_,fun b Q=>.inr ?_⟩
   ·exact⟨o.os,o.tape,o.output,o.size,fun k hk _=>o.block k hk (by simp)⟩
   ·cases Q; exact Qu _
  ·have q:∃ d,w.heap[h]?=some (.cells d 37 (0,0)):=by
     rcases K.2 with⟨e,_⟩|⟨g',W,I,e,_,R,_⟩
     ·cases e
     ·cases e; exact⟨I,R⟩
   obtain⟨d,q⟩:=q;have aa:cur.size=cap*4:=C;have S:∀ j,j<(n+1)*4->(w.cell? ⟨g,0+j,none⟩).isSome=true:=fun j M=>by
    have:w.heap[g]?=some (.cells cur.toList.toArray 37 (0,0)):=by rw[L]
    rw[B2 this,Qr (by rw[RC]; omega)]; rfl
   have U:∀ j,w.frozen? ⟨g,j,none⟩=false:=fun j=>lr (cur:=cur.toList) (T:=37) (by rw[L]);have J:∀ j,w.frozen? ⟨h,j,none⟩=false:=fun j=>lr (cur:=d.toList) (T:=37) (by rw[q]);refine(Bn g 0 n cap i h 0 1 x xs ys w f (by decide) N (by unfold maxLen at B; omega) (fun e=>z g rfl e.symm) (by rw[p]) (by rw[l]) D S (fun j _=>U _) E h1 h2 37 37 d.size cur.size (by unfold World.shape?; rw[q]) (by unfold World.shape?; rw[L]) (by omega) (J _) (J _)).mono fun e w' ⟨s,t⟩=>?_;subst t;obtain⟨y,o⟩:=ri (w:=w) (T:=37) (sz:=4) (n:=n) (i:=i) L C hx hi N B l;simp only[Q8]at s ⊢;exact⟨_,s,y,o,fun b Q=>.inl Q⟩
 ·have f:i=n:=by omega
  subst f;have p:xs.length=i*4:=a.1;have X:xs.take (i*4)++ys++xs.drop (i*4)=xs++ys:=by rw[QQ (by omega),Rl (by omega),Q9]
  rw[X];obtain⟨v',w',y,o,O,Y⟩:=gg (P:=Tryz.prog) (T:=26) (ty:=26) hu V (QE _) (by decide) a (u:=.slice (some ⟨h,0,none⟩) 1 x) (m:=1) (news:=ys) (by rw[l]; rfl) h2 (.inr ⟨_,_,rfl,r⟩) (by unfold maxLen; omega) (show(i+1)*80<=_ by omega);have O:w.grownBy w' (fa v):=by
   have e:fa v=v.ownBlock:=by
    rcases a.2 with⟨rfl,_⟩|⟨g,cap,cur,rfl,_⟩<;>rfl
   rw[e]; exact O
  have key:Calls Tryz.prog 32 #[v,.int .i64 i,.slice (some ⟨h,0,none⟩) 1 x] w fun e Z=>e=.returned v'/\Z=w':=by
   clear o O Y r K h1 h2 z X V;rcases a.2 with⟨rfl,rfl⟩|⟨g,cap,cur,rfl,_,_,A,_⟩
   ·clear a;go_enter Tryz.func32,Tryz.ntmps32;go_wp2_with (at_builtin; refine SR _ rfl _ _ _ _ rfl _ _ rfl rfl _ _ y ?_);go_ret;exact⟨rfl,rfl⟩
   ·clear a;go_enter Tryz.func32,Tryz.ntmps32;go_wp2_with (at_builtin; refine SR _ rfl _ _ _ _ rfl _ _ rfl rfl _ _ y ?_)
    all_goals (go_ret; exact⟨rfl,rfl⟩)
  exact key.mono fun e Z ⟨s,t⟩=>⟨v',s,by rw[t]; exact o,by rw[t]; exact O,Y⟩
end Go.Proofs.YtbokoblnehgkaabGreat.Gx
namespace Go.Proofs.YtbokoblnehgkaabGreat.Gx
open Go Go.RowKit Tw B Nt
def fB{α:Type}(l:List α)(i:Nat)(m:List α):List α:=l.take i++m++l.drop i
theorem hO{a:Type}{l:List a}{i:Nat}{m:List a}:(fB l i m).length=l.length+m.length:=by
 unfold fB;rw[QO,QO,QM,Q5];omega
theorem yV{t:Ty}{l:List t.den}{xs:List Value}{X:Nat->Prop}{w:World}(h:∀(i:Nat) (x:t.den),l[i]?=some x->rep t X w ((xs.drop (i*t.size)).take t.size) x)(k:Nat) :
    ∀(i:Nat) (x:t.den),(l.take k)[i]?=some x->rep t X w (((xs.take (k*t.size)).drop (i*t.size)).take t.size) x:=by
 intro i x hi;rw[Q1]at hi;split at hi
 ·rename_i a;have e:i*t.size+t.size<=k*t.size:=by rw[<-RI]; exact Q_ _ a
  rw[Sw,Sk,Rv (by omega)];exact h i x hi
 ·cases hi
theorem yi{t:Ty}{l:List t.den}{xs:List Value}{X:Nat->Prop}{w:World}(h:∀(i:Nat) (x:t.den),l[i]?=some x->rep t X w ((xs.drop (i*t.size)).take t.size) x)(k:Nat) :
    ∀(i:Nat) (x:t.den),(l.drop k)[i]?=some x->rep t X w (((xs.drop (k*t.size)).drop (i*t.size)).take t.size) x:=by
 intro i x hi;rw[Rg]at hi;rw[RT,<-T4];exact h (k+i) x hi
def wh(P:Program)(f:FuncId)(T:TypeId)(sz:Nat):Prop :=
 ∀(w:World) (v:Value) (n i c h:Nat) (a d:List Value),w.ownsRow 0 T sz v n a->(∀ u∈a,u.oneCell'=true)->w.ownsRow 0 T sz (.slice (some ⟨c,0,none⟩) 1 h) 1 d->(∀ u∈d,u.oneCell'=true) ->
  (∀ b,fa v=some b->b≠c)->i<=n->n<=1000000 ->
  Calls P f #[v,.int .i64 i,.slice (some ⟨c,0,none⟩) 1 h] w fun e j=>∃ g,e=.returned g/\j.ownsRow 0 T sz g (n+1) (a.take (i*sz)++d++a.drop (i*sz))/\w.grownBy j (fa v)/\∀ b,fa g=some b->fa v=some b∨w.heap.size<=b
theorem Cs{B:Nat}{w:World}{T:TypeId}{sz:Nat}{v:Value}{ys:List Value}(h:w.ownsRow B T sz v 1 ys):∃ a b,v=.slice (some ⟨a,0,none⟩) 1 b:=by
 rcases h.2 with⟨_,e⟩|⟨g,cap,c,e,_⟩
 ·cases e
 ·exact⟨g,cap,e⟩
@[reducible] def acd(T:TypeId)(t:Ty):iP:=⟨[.r T t,.d (.int .i64),.r T t],fun d=>⟨[(0,.row T t (fB d.1 d.2.1.toNat d.2.2.1))],2,.own 0,[0<=d.2.1/\d.2.1<=(List.length d.1:Int)/\List.length d.1<=1000000/\List.length d.2.2.1=1]⟩⟩
theorem zv {P:Program}{f:FuncId}{fn:Func} (n:P.funcs[f]?=some fn) (c:fn.body.isSome=true) (hn:(fn.name == "runtime.NumGoroutine")=false) {T:TypeId}{t:Ty} (hI:wh P f T t.size):gK P f (acd T t):=by
 refine qL (s:=acd T t) n c hn fun d hp a X w vs hX n hm=>?_;obtain⟨l,i,z,u⟩:=d;obtain⟨⟨r,I,v,j⟩,-⟩:=hp;change (0:Int)<=i at r;obtain⟨k,rfl⟩:=QV r;change List t.den at l z;change List.length l<=1000000 at v;change List.length z=1 at j;have hk:k<=l.length:=by
  have:((k:Int))<=(l.length:Int):=I;omega
 have n:Fr w X a 0 ⟨[],[(0,.row T t l),(1,.row T t z)],2⟩ a gu w:=n;have c0:=n.cs (0,.row T t l) (by exact Qx ..);have c1:=n.cs (1,.row T t z) (by exact Qs _ (Qx ..));obtain⟨v0,xs,o,W,J,a4⟩:=c0;obtain⟨v1,p,E,F,Y,b4⟩:=c1;have K:=n.dj (0,.row T t l) (by exact Qx ..) (1,.row T t z) (by exact Qs _ (Qx ..)) (by show(0:Nat)≠1; decide);have o:a[0]?=some v0:=o;have E:a[1]?=some v1:=E;rw[j]at F;obtain⟨vb,vc,rfl⟩:=Cs F;obtain⟨Z,us,rfl,⟨x,G,_,L⟩,x1,aa,rfl,h2,x2,M,rfl,⟨y,q,_,N⟩,O⟩:=hm;have O:M=[]:=O;subst O;have G:a[0]?=some x:=G;rw[o]at G;cases G;have q:a[1]?=some y:=q;rw[E]at q;cases q;have L:=(QB L).1;have N:=(QB N).1;subst L;subst N;obtain⟨rfl,_⟩:=fI h2;refine(hI w Z l.length k vb vc xs p W J F Y (fun b c e=>K b (fh o c) (by rw[e]; exact fh E rfl)) hk v).mono fun e w' ⟨v',he,H,hg,hl⟩=>?_;have Q:=n.Lg (k:=1) (z:=.row T t z) rfl (w':=w) ⟨rfl,rfl,rfl,Qu _,fun _ _ _=>rfl⟩;have R:oA a 0=fa Z:=oe o;have ab:=H.1;have A:(fB l k z).length=l.length+1:=by rw[hO,j]
 have B:∀ b,XX X a (del [(0,CT.row T t l),(1,CT.row T t z)] 1) b->XX X a [(0,CT.row T t l),(1,CT.row T t z)] b:=by
  rintro b (c|⟨y,q,c⟩)
  ·exact .inl c
  ·exact .inr ⟨y,(fX q).1,c⟩
 have r4:∀(i:Nat) (x:t.den),l[i]?=some x->rep t (XX X a (del [(0,CT.row T t l),(1,CT.row T t z)] 1)) w ((xs.drop (i*t.size)).take t.size) x:=fun i x hi=>eJ (a4 i x hi) fun b c=>.inl (B b c);have s4:∀(i:Nat) (x:t.den),z[i]?=some x->rep t (XX X a (del [(0,CT.row T t l),(1,CT.row T t z)] 1)) w ((p.drop (i*t.size)).take t.size) x:=fun i x hi=>eJ (b4 i x hi) fun b c=>.inl (B b c);have ac:xs.length=l.length*t.size:=W.1;have S:p.length=z.length*t.size:=by rw[F.1,j]
 have C:(xs.take (k*t.size)).length=(l.take k).length*t.size:=by
  have e1:=lY (s:=t.size) hk;rw[QM,QM,Rv hk]; omega
 have q1:=j_ C (yV r4 k) s4;have q2:=j_ (l:=l.take k++z) (xs:=xs.take (k*t.size)++p) (by rw[QO,QO,T4,C,S]) q1 (yi r4 k);have U:w'.ownsRow 0 T t.size v' (fB l k z).length (xs.take (k*t.size)++p++xs.drop (k*t.size)):=by rw[A]; exact H
 have D:∀ u∈xs.take (k*t.size)++p++xs.drop (k*t.size),u.oneCell'=true:=by
  intro u m;rcases QZ.1 m with m|m
  ·rcases QZ.1 m with m|m
   ·exact J u (RB m)
   ·exact Y u m
  ·exact J u (Rh m)
 have V:∀ b,fa v'=some b->b<w'.heap.size/\(fk a 0 b∨w.heap.size<=b):=by
  intro b c;refine⟨?_,?_⟩
  ·rcases H.2 with⟨rfl,_⟩|⟨g,cap,ad,rfl,_,hh,_⟩
   ·cases c
   ·cases c; exact b9 hh
  ·rcases hl b c with h|h
   ·exact .inl (fh o h)
   ·exact .inr h
 obtain⟨g1,g2⟩:=Q.reset (k:=0) (T:=T) (t:=t) (l:=l) (l':=fB l k z) (v':=v') (w':=w') rfl (by rw[R]; exact hg) V U D q2;refine⟨v',_,he,g1,v',g2,?_,rfl⟩;obtain⟨_,_,_,e⟩:=gb H;rw[e]; rfl
theorem OV:wh Tryz.prog 90 31 1:=fun w v n i h j k l a b c d e f g=>JD a b c d e f g
theorem aa2:wh Tryz.prog 32 37 4:=fun w v n i h j k l a b c d e f g=>yb a b c d e f g
theorem aar:wh Tryz.prog 89 22 1:=fun w v n i h j k l a b c d e f g=>FR a b c d e f g
@[reducible,go_sem] def b8:Ty:=.pair (.slice eK) fT
abbrev FN:=Bool×List Int×List Int
abbrev fy:=List fS×FN
@[go_sem] def Kv:iP:=⟨[.r 31 (.slice eK),.d (.int .i64),.r 31 (.slice eK)],fun d=>⟨[(0,.row 31 (.slice eK) (fB d.1 d.2.1.toNat d.2.2.1))],2,.own 0,[0<=d.2.1/\d.2.1<=(List.length d.1:Int)/\List.length d.1<=1000000/\List.length d.2.2.1=1]⟩⟩
theorem yS:gK Tryz.prog 90 Kv:=zv Tryz.func90 rfl (by decide) OV
@[go_sem] def Ih:iP:=⟨[.r 37 b8,.d (.int .i64),.r 37 b8],fun d=>⟨[(0,.row 37 b8 (fB d.1 d.2.1.toNat d.2.2.1))],2,.own 0,[0<=d.2.1/\d.2.1<=(List.length d.1:Int)/\List.length d.1<=1000000/\List.length d.2.2.1=1]⟩⟩
theorem zO:gK Tryz.prog 32 Ih:=zv Tryz.func32 rfl (by decide) aa2
def Ah(l:List Int)(i:Int):Int:=if l.length=0 then i % 65536 else l.getD (i % l.length).toNat 0 % 65536+i / l.length
@[go_sem] def OX:Spec:=⟨[.slice (.int .i64),.int .i64],fun d=>(.a_ (.int .i64) (Ah d.1 d.2.1),[(0:Int)<=d.2.1/\d.2.1<=1000000])⟩
theorem PI:c6 Tryz.prog 16 OX:=by
 refine eT N0 OX Tryz.func16 rfl (by decide) (N:=23) rfl (res:=[.tmp 4]) rfl (by decide) [] [] [] 100 (by kernel_rfl) ?_;rintro⟨l,(i:Int),_⟩ c d;refine⟨rfl,fun H o=>?_⟩;dsimp only[go_sem]at c d ⊢;obtain⟨⟨a,b⟩,-⟩:=d;have a:0<=i:=a;have b:i<=1000000:=b;obtain⟨⟨p,g⟩,-⟩:=c;change ∀ x∈l,gG .i64 x at g;change List Int at l;have e (n:Int):ij .and .i64 n 65535=n % 65536:=sP n 16 (by omega);have j:(zd (Ty.int IntKind.i64))=(0:Int):=rfl;have f:Ah l i=if l.length=0 then i % 65536 else l.getD (i % l.length).toNat 0 % 65536+i / l.length:=rfl
 rw[e,e,j,Uj a,Wo a];refine⟨fun h=>?_,fun h=>?_⟩<;>simp only[Qy,Qw]at h
 ·rw[f,QJ (by omega)];exact⟨rfl,trivial⟩
 ·have h:¬(l.length:Int)=0:=h;have k:=Si i h;have m:=RD i (show 0<(l.length:Int) by omega);have q:0<=i / (l.length:Int):=Sn a (by omega);have r:i / (l.length:Int)<=i:=TQ _ a;rw[f,QC (by omega)];generalize l.getD (i % (l.length:Int)).toNat 0=x;have s:=Si x (show(65536:Int)≠0 by decide);have t:=RD x (show(0:Int)<65536 by decide);refine⟨h,by rw[c9]; omega,⟨k,m⟩,h,by rw[c9]; omega,by rw[c9]; omega,rfl,trivial⟩
theorem GH(l:List Int){i:Int}(h:0<=i):0<=Ah l i:=by
 unfold Ah;split
 ·exact Si _ (by decide)
 ·rename_i a;have b:=Si (l.getD (i % (l.length:Int)).toNat 0) (show(65536:Int)≠0 by decide);have c:0<=i / (l.length:Int):=Sn h (by omega);omega
theorem Hi(l:List Int){i:Int}(h:0<=i):Ah l i<=65535+i:=by
 unfold Ah;split
 ·have:=RD i (show(0:Int)<65536 by decide); omega
 ·rename_i a;have b:=RD (l.getD (i % (l.length:Int)).toNat 0) (show(0:Int)<65536 by decide);have c:i / (l.length:Int)<=i:=TQ _ h;omega
def HV(k:Nat):Rat:=Rat.divInt (([1,1,2,1,1,0,3,1]:List Int).getD k 0) (([2,3,3,4,1,1,5,7]:List Int).getD k 0)
def wH(n:Int):Rat:=HV (n % 8).toNat
theorem P6:∀ k,k<8->qs (HV k)<=1/\qs (1-HV k)<=1/\0<=HV k/\HV k<=1:=by decide +kernel
theorem Ik(n:Int):qs (wH n)<=1/\qs (1-wH n)<=1/\0<=wH n/\wH n<=1:=P6 _ (by omega)
@[go_sem] def zT:Spec:=⟨[.int .i64],fun d=>(.a_ fT (qf (wH d.1)),[])⟩
theorem Hn:c6 Tryz.prog 17 zT:=by
 refine eT c_ zT Tryz.func17 rfl (by decide) (N:=24) rfl (res:=[.cell 2 35]) rfl (by decide) [(1,[(7,.dt)]),(2,[(12,.dt)])] [] [] 100 (by kernel_rfl) ?_;rintro⟨(n:Int),_⟩ a b;refine⟨rfl,fun H d=>?_⟩;dsimp only[go_sem]at a b ⊢;have c:ij .and .i64 n 7=n % 8:=sP n 3 (by omega);rw[c];have key:∀ k,k<8->([2,3,3,4,1,1,5,7]:List Int).getD k 0≠0:=by decide
 refine⟨by change (0:Int)<=n % 8/\n % 8<((8:Nat):Int); omega,by change (0:Int)<=n % 8/\n % 8<((8:Nat):Int); omega,QC (key _ (by omega)),trivial⟩
end Go.Proofs.YtbokoblnehgkaabGreat.Gx
namespace Go.Proofs.YtbokoblnehgkaabGreat.Gx
open Go Go.RowKit Tw B Nt Go.Lib
theorem xW{P:Program}(w:World)(t e ty:TypeId)(z:Value)(ht:P.underlying t=some (.slice e))(g:∀ w,(zeroValue e).run P w=.ok z w)(h1:∀ u∈z.cells.toList,u.oneCell'=true)(b o n c:Nat)(p:0<n)
    (h:∀ j,j<n*z.cells.size->(w.cell? ⟨b,o+j,none⟩).isSome=true) (k:∀ j,j<n*z.cells.size->w.frozen? ⟨b,o+j,none⟩=false) :
    (Builtin.clear_ #[t] ty #[.slice (some ⟨b,o,none⟩) n c]).run P w=.ok (.tuple #[]) (w.setCells b o (Builtin.zeroCells z.cells n).toList):=by
 have d:(Builtin.zeroCells z.cells n).toList.length=n*z.cells.size:=by rw[RC,iY]
 have a:=Xb (P:=P) b o (Builtin.zeroCells z.cells n).toList 0 w (by rw[d]; simpa using h) (by rw[d]; simpa using k) (fun u f=>?_)
 ·have l:¬n=0:=by omega
  simp[Builtin.clear_,Rb ht,g,a,l]
 ·simp only[Builtin.zeroCells,TU,Rj]at f;obtain⟨i,hi,rfl⟩:=f;have hi:i<n*z.cells.size:=by simpa using hi
  have m:0<z.cells.size:=by
   rcases Sc z.cells.size with e|e
   ·rw[e]at hi; omega
   ·exact e
  rw[WI z.cells (i % z.cells.size) (Nat.mod_lt _ m)];exact h1 _ (by simp)
def wj:Value:=.agg #[.slice none 0 0,.bool false,.slice none 0 0,.slice none 0 0]
theorem EY(g n c i:Nat)(cs:List Value)(w:World)(hi:i<n)(N:n<=c)(K:c<=9223372036854775807)(r:cs.length=n*4)
    (p:∀ j v,cs[j]?=some v->w.cell? ⟨g,0+j,none⟩=some v) (s:∀ j,w.frozen? ⟨g,j,none⟩=false) (z:∀ v∈cs,v.oneCell'=true) :
    Calls Tryz.prog 41 #[.slice (some ⟨g,0,none⟩) n c,.int .i64 (i:Int),.int .i64 ((i+1:Nat):Int)] w fun e w' =>
     e=.returned (.slice (some ⟨g,0,none⟩) (n-1) c)/\w'=(w.drew.setCells g (i*4) (cs.drop ((i+1)*4))).setCells g ((n-1)*4) (Builtin.zeroCells wj.cells 1).toList:=by
 obtain⟨L,x,B,C,O⟩:=Un JT;have f:Tryz.prog.underlying 26=some (.slice 37):=by kernel_rfl
 have D:∀ w,(zeroValue 37).run Tryz.prog w=.ok wj w:=fun w=>by simp[zeroValue,typeInfo,x,B,wj]
 obtain⟨news,a⟩:∃ news,news=cs.drop ((i+1)*4):=⟨_,rfl⟩;have d:news.length=(n-(i+1))*4:=by rw[a,Q5,r]; omega
 have m:∀ t u,news[t]?=some u->w.cell? ⟨g,0+((i+1)*4+t),none⟩=some u:=fun t u h=>by
  rw[a,Rg]at h;exact p _ u h
 have b:∀ k,k<n*4->(w.cell? ⟨g,k,none⟩).isSome=true:=fun k hk=>by
  have:=p k _ (Qr (by omega));rw[Q8]at this;rw[this]; rfl
 obtain⟨A,hA,y⟩:∃ A:Addr,(if c=i+1 then(some ⟨g,0,none⟩:Option Addr)else some ⟨g,(i+1)*4,none⟩)=some A/\Hid (∀ t u,news[t]?=some u->w.drew.cell? (A.add t)=some u):=by
  by_cases h:c=i+1
  ·refine⟨⟨g,0,none⟩,by simp[h],fun t u f=>?_⟩;have P:news.length=0:=by rw[d]; omega
   rw[SH.1 P]at f;simp at f
  ·refine⟨⟨g,(i+1)*4,none⟩,by simp[h],fun t u f=>?_⟩;rw[Ri];have:=m t u f;rwa [Q8]at this
 have Q:Hid (news.length=(n-(i+1))*4):=d;have R:Hid (∀ u∈news,u.oneCell'=true):=fun u f=>z u (by rw[a]at f; exact Rh f);have S:Hid (∀ t,t<news.length->(w.drew.cell? ⟨g,0+i*4+t,none⟩).isSome=true/\w.drew.frozen? ⟨g,0+i*4+t,none⟩=false):=fun t T=>by
  rw[d]at T;exact⟨b _ (by omega),s _⟩
 obtain⟨q,l⟩:∃ q,q=w.drew.setCells g (0+i*4) news:=⟨_,rfl⟩;have M:Hid (q=w.drew.setCells g (0+i*4) news):=l;have o:∀ k,k<n*4->(q.cell? ⟨g,k,none⟩).isSome=true:=fun k hk=>by
  rw[l];exact isSome_setCells g news (0+i*4) w.drew (fun j E=>b (0+i*4+j) (by rw[d]at E; omega)) _ (b k hk)
 obtain⟨Z,F⟩:∃ Z,Z=(Builtin.zeroCells wj.cells 1).toList:=⟨_,rfl⟩;have G:Hid (Z=(Builtin.zeroCells wj.cells 1).toList):=F;have r:∀ ty,(Builtin.clear_ #[26] ty #[.slice (some ⟨g,(i+(n-(i+1)))*4,none⟩) (n-(i+(n-(i+1)))) (c-(i+(n-(i+1))))]).run Tryz.prog q=.ok (.tuple #[]) (q.setCells g ((n-1)*4) Z):=fun ty=>by
  rw[F];have U:i+(n-(i+1))=n-1:=by omega
  have V:n-(n-1)=1:=by omega
  rw[U,V];exact xW q _ _ ty wj f D (by decide) g ((n-1)*4) 1 _ (by decide) (fun j E=>o _ (by have:wj.cells.size=4:=rfl; omega)) (fun j E=>by rw[l,Tc]; exact s _)
 have W:i<=c:=by omega
 have X:i+1<=c:=by omega
 have Y:(0:Int)<=(i:Int)+1:=by omega
 have aa:(i:Int)+1<=(n:Int):=by omega
 have ab:i<=n:=by omega
 have ac:((i:Int)+1).toNat=i+1:=by omega
 have ad:¬((i:Int)=((i+1:Nat):Int)):=by omega
 have H:L.size=4:=C;have I:Tryz.prog.follows Departure.mixedOrders=true:=c_.mx;have J:Hid (news=cs.drop ((i+1)*4)):=a;clear m a d o p b l F;go_enter Tryz.func41,Tryz.ntmps41;go_wp2_with fail;go_region_law_o (refine step_append_room rfl (.tmp 22) (.tmp 25) 26 rfl 37 L 4 f x H g 0 i c (by simp[Act.eval,Act.put]) A (n-(i+1)) (c-(i+1)) news (by simp[Act.eval,Act.put]) Q.out y.out R.out (by omega) S.out ?_; rw[<-M.out]);go_wp2;go_ret;refine⟨?_,?_⟩
 ·rw[show i+(n-(i+1))=n-1 by omega]; rfl
 ·rw[M.out,J.out,Q8,G.out]
theorem Nk{A M C R Z:List Value}(a:Z.length=M.length):iO (iO (A++M++C++R) A.length C) (A.length+C.length) Z=A++C++Z++R:=by
 have b:iO (A++M++C++R) A.length C=A++C++(M++C++R).drop C.length:=by
  unfold iO;have:A++M++C++R=A++(M++C++R):=by simp
  rw[this,Uh,SW,Rl (by omega),RX,Tk]
 rw[b];unfold iO;rw[<-QO,Uh,SW,Rl (by omega),RX,Tk,RT,a];congr 1;have:C.length+M.length=(M++C).length:=by rw[QO]; omega
 rw[this,List.drop_left]
theorem ym{w:World}{v:Value}{n i:Nat}{xs:List Value}(a:w.ownsRow 0 37 4 v n xs)(h1:∀ u∈xs,u.oneCell'=true)(hi:i<n)(L:n<=1000000) :
    Calls Tryz.prog 41 #[v,.int .i64 (i:Int),.int .i64 ((i+1:Nat):Int)] w fun e w'=>∃ v',e=.returned v'/\w'.ownsRow 0 37 4 v' (n-1) (xs.take (i*4)++xs.drop ((i+1)*4))/\w.grownBy w' (fa v)/\∀ b,fa v'=some b->fa v=some b∨w.heap.size<=b:=by
 rcases a.2 with⟨_,rfl⟩|⟨g,cap,cur,rfl,_,y,p,h,q,z⟩
 ·exact absurd hi (Q' _)
 have r:xs.length=n*4:=a.1;have s:∀ j v,xs[j]?=some v->w.cell? ⟨g,0+j,none⟩=some v:=fun j v B=>by
  have:=a.cells (g:=g) rfl j v B;rwa [Ri]at this
 have t:∀ j,w.frozen? ⟨g,j,none⟩=false:=fun j=>lr (cur:=cur.toList) (T:=37) (by rw[y]);refine(EY g n cap i xs w hi p (by unfold maxLen at h; omega) r s t h1).mono fun e w' ⟨D,E⟩=>?_;subst E;have F:cur.toList.length=cap*4:=by simpa using q
 have l:cur.toList=xs.take (i*4)++(xs.drop (i*4)).take 4++xs.drop ((i+1)*4)++cur.toList.drop (n*4):=by
  have G:(xs.drop (i*4)).take 4++xs.drop ((i+1)*4)=xs.drop (i*4):=by
   have:xs.drop ((i+1)*4)=(xs.drop (i*4)).drop 4:=by rw[RT]; congr 1; omega
   rw[this,Q6]
  rw[QP (xs.take (i*4)),G,Q6,<-z,Q6]
 have H:(xs.take (i*4)).length=i*4:=by rw[QM]; omega
 have N:((xs.drop (i*4)).take 4).length=4:=by rw[QM,Q5]; omega
 have I:(xs.drop ((i+1)*4)).length=(n-1)*4-i*4:=by rw[Q5]; omega
 have J:(Builtin.zeroCells wj.cells 1).toList.length=4:=by rw[RC,iY]; rfl
 generalize (Builtin.zeroCells wj.cells 1).toList=Z at J ⊢;have d:=iu (g:=g) (T:=37) (xs.drop ((i+1)*4)) (i*4) w.drew cur.toList (by show w.heap[g]?=_; rw[y]) (by omega);have f:=iu (g:=g) (T:=37) Z ((n-1)*4) _ _ d.pr (by rw[hZ (by omega)]; omega);have m:iO (iO cur.toList (i*4) (xs.drop ((i+1)*4))) ((n-1)*4) Z=xs.take (i*4)++xs.drop ((i+1)*4)++Z++cur.toList.drop (n*4):=by
  have:=Nk (A:=xs.take (i*4)) (M:=(xs.drop (i*4)).take 4) (C:=xs.drop ((i+1)*4)) (R:=cur.toList.drop (n*4)) (Z:=Z) (by omega);rw[<-l,H,I]at this;rw[show i*4+((n-1)*4-i*4)=(n-1)*4 by omega]at this;exact this
 have c:(xs.take (i*4)++xs.drop ((i+1)*4)).length=(n-1)*4:=by
  rw[QO]; omega
 refine⟨_,D,⟨c,.inr ⟨g,cap,_,rfl,QE _,f.pr,by omega,h,?_,?_⟩⟩,⟨f.os.trans d.os,f.tape.trans d.tape,f.output.trans d.output,?_,fun k hk x=>?_⟩,fun b K=>.inl K⟩
 ·rw[RQ,hZ (by rw[hZ (by omega)]; omega),hZ (by omega)]; exact F
 ·show(iO _ _ _).take _=_;rw[m,QP,Vv c]
 ·rw[f.size,d.size]; exact Qu _
 ·have o:k≠g:=fun e=>x (by rw[e]; rfl);rw[f.block k o,d.block k o];rfl
def kv{α:Type}(l:List α)(i:Nat):List α:=l.take i++l.drop (i+1)
@[go_sem] def Qj:iP:=⟨[.r 37 b8,.d (.int .i64),.d (.int .i64)],fun d=>⟨[(0,.row 37 b8 (kv d.1 d.2.1.toNat))],1,.own 0,[0<=d.2.1/\d.2.1<(List.length d.1:Int)/\List.length d.1<=1000000/\d.2.2.1=d.2.1+(1:Int)]⟩⟩
theorem KZ:gK Tryz.prog 41 Qj:=by
 refine qL (s:=Qj) Tryz.func41 rfl (by decide) fun d N a X w vs hX y O=>?_;obtain⟨l,i,j,u⟩:=d;obtain⟨⟨n,A,o,f⟩,-⟩:=N;change (0:Int)<=i at n;obtain⟨k,rfl⟩:=QV n;change List fy at l;change List.length l<=1000000 at o;have f:j=((k+1:Nat):Int):=f;subst f;have hk:k<l.length:=by
  have:((k:Int))<(l.length:Int):=A;omega
 have y:Fr w X a 0 ⟨[],[(0,.row 37 b8 l)],1⟩ a gu w:=y;have P:=y.cs (0,.row 37 b8 l) (by exact Qx ..);obtain⟨v0,m,p,B,C,Q⟩:=P;have p:a[0]?=some v0:=p;obtain⟨R,us,rfl,⟨x,z,_,D⟩,x1,S,rfl,U,x2,E,rfl,V,F⟩:=O;have F:E=[]:=F;subst F;have z:a[0]?=some x:=z;rw[p]at z;cases z;have D:=(QB D).1;subst D;obtain⟨rfl,_⟩:=fI U;obtain⟨rfl,_⟩:=fI V;have c:b8.size=4:=rfl;rw[c]at B;refine(ym (i:=k) B C hk o).mono fun e w' ⟨v',W,G,Y,Z⟩=>?_;have H:oA a 0=fa R:=oe p;have q:(kv l k).length=l.length-1:=by
  unfold kv;rw[QO,QM,Q5]; omega
 have M:∀(i:Nat) (x:b8.den),l[i]?=some x->rep b8 (XX X a [(0,CT.row 37 b8 l)]) w ((m.drop (i*b8.size)).take b8.size) x:=fun i x hi=>Q i x hi;have I:(m.take (k*b8.size)).length=(l.take k).length*b8.size:=by
  have h5:m.length=l.length*4:=B.1;rw[c,QM,QM,Rv (by omega),Rv (by omega)]
 have q2:=j_ I (yV M k) (yi M (k+1));have J:w'.ownsRow 0 37 b8.size v' (kv l k).length (m.take (k*b8.size)++m.drop ((k+1)*b8.size)):=by rw[q]; exact G
 have r:∀ u∈m.take (k*b8.size)++m.drop ((k+1)*b8.size),u.oneCell'=true:=by
  intro u v;rcases QZ.1 v with v|v
  ·exact C u (RB v)
  ·exact C u (Rh v)
 have K:∀ b,fa v'=some b->b<w'.heap.size/\(fk a 0 b∨w.heap.size<=b):=by
  intro b L;refine⟨?_,?_⟩
  ·rcases G.2 with⟨rfl,_⟩|⟨g,cap,aa,rfl,_,hh,_⟩
   ·cases L
   ·cases L; exact b9 hh
  ·rcases Z b L with h|h
   ·exact .inl (fh p h)
   ·exact .inr h
 obtain⟨g1,g2⟩:=y.reset (k:=0) (T:=37) (t:=b8) (l:=l) (l':=kv l k) (v':=v') (w':=w') rfl (by rw[H]; exact Y) K J r q2;refine⟨v',_,W,g1,v',g2,?_,rfl⟩;obtain⟨_,_,_,e⟩:=gb G;rw[e]; rfl
end Go.Proofs.YtbokoblnehgkaabGreat.Gx
namespace Go.Proofs.YtbokoblnehgkaabGreat.Gx
open Go Go.RowKit Tw B Nt
theorem zU{w:World}{b off:Nat}{v:Value}(h:w.cell? ⟨b,off,none⟩=some v):∃ C T f,w.heap[b]?=some (.cells C T f)/\C[off]?=some v:=by
 unfold World.cell? at h;split at h
 ·rename_i C T f e;exact⟨C,T,f,e,by simpa using h⟩
 ·cases h
theorem PL{k:IntKind}{w:World}{v:Value}{l:List Int}(h:Row k w v l):rep (.slice (.int k)) (fun _=>False) w [v] l:=by
 obtain⟨a,cap,rfl,o,p,q,r,s⟩:=h;refine⟨a,cap,rfl,o,p,q,fun d=>?_⟩;obtain⟨b,off,rfl,n⟩:=s d;obtain⟨C,T,f,g,-⟩:=zU (n 0 (US.2 d));refine⟨b,off,C,T,f,rfl,fun c=>c.elim,g,fun i x c=>?_⟩;have hi:i<l.length:=by
  rcases QA i l.length with h|h
  ·exact h
  ·rw[QD h]at c; cases c
 have:=n i hi;have m:l.getD i 0=x:=by simp[c]
 rw[m]at this;refine⟨?_,nQ (r x (Ra c))⟩;simp only[Ty.size,Ry];have j:C.toList[off+i]?=some (.int k x):=by simpa [World.cell?,g]using this
 have e:off+i<C.toList.length:=by
  rcases QA (off+i) C.toList.length with h|h
  ·exact h
  ·rw[QD h]at j; cases j
 rw[R0 e,Uo,S7];rw[Qr e]at j;rw[Rk j]
section
variable{ρ:List Value}{w:World}
theorem row_in{k:IntKind}{a:Option Addr}{len cap:Nat}{b:List Int}(h:DG k w a len cap b):m ρ (fun _=>False) w (.a_ (.slice (.int k)) (b.take len)) [.slice a len cap] :=
 mw rfl (PL (Row.of h))
theorem Hm{X:Nat->Prop}{k:IntKind}{n:Int}(h:(Lit.int k n).wf=true):m ρ X w (.a_ (.int k) n) [.int k n]:=eO (nQ h)
theorem F5{P:Program}{f:FuncId}{s:Spec}(h:c6 P f s)(d:jf s.zR)(b:eP (s.F d).2)(c:(s.F d).1=.a_ .bool true){vs:List Value}(g:m [] (fun _=>False) w (nz s.zR d) vs) :
    Calls P f vs.toArray w (fun e w'=>e=.returned (.bool true)/\Below w.heap.size w w'):=by
 refine((h d b).2 [] (fun _=>False) w vs (fun _ i=>i.elim) g).mono fun e w' ⟨v,j,a,k⟩=>?_;rw[c]at a;rw[j,mG a];exact⟨rfl,k⟩
end
def PS(c:Int):Bool:=(decide (65<=c)&&decide (c<=90))||(decide (97<=c)&&decide (c<=122))
def Py(c:Int):Bool:=(decide (48<=c)&&decide (c<=57))||decide (c=95)
def qu(s:pc)(i:Nat):Bool:=!PS (gN s i)&&(decide (i=0)||!Py (gN s i))
def pv(s:pc):Bool:=decide (1<=s.length/\s.length<=24)&&(List.range s.length).all fun i=>!qu s i
theorem yI{s:pc}(h:¬(1<=s.length/\s.length<=24)):pv s=false:=by
 unfold pv; rw[Q4 h]; rfl
theorem zn{s:pc}{i:Nat}(hi:i<s.length)(h:qu s i=true):pv s=false:=by
 unfold pv;rw[SZ];right;rw[VX];exact⟨i,Rn.2 hi,by rw[h]; simp⟩
theorem yj{s:pc}(h:1<=s.length/\s.length<=24)(a:∀ j,j<s.length->qu s j=false):pv s=true:=by
 unfold pv;rw[QY h,T_,Rs];intro j b;rw[a j (Rn.1 b)]; rfl
@[go_sem] noncomputable def ER1:Env:=(((((((((((E6).add 118 BX).add 119 Cy).add 97 Dm).add 98 C8).add 99 Qd).add 96 L5).jg 64 Mk).jg 63 L7).add 30 aax).jg 90 Kv).jg 32 Ih
theorem sZ:ER1.Ok:=(((((((((((N0).add Cv).add Cz).add Dk).add Ea).add F7).add Jo).jg DB).jg B5).add P5).jg yS).jg zO
@[go_sem] def PG:Spec:=⟨[.str],fun d=>(.a_ .bool (pv d.1),[])⟩
theorem PQ:c6 Tryz.prog 87 PG:=by
 refine eT sZ PG Tryz.func87 rfl (by decide) (N:=58) rfl (res:=[.tmp 2]) rfl (by decide) [] [] [] 100 (by kernel_rfl) ?_;rintro⟨s,_⟩ c e;refine⟨rfl,fun H f=>?_⟩;dsimp only[go_sem]at c e ⊢;clear e c;change pc at s;simp only[Su,nG,R_,SK];refine⟨fun h=>?_,fun h=>?_⟩
 ·simp only[RE,Qy]at h;exact(yI (by omega)).symm
 simp only[RG,Qw]at h;have m:1<=s.length/\s.length<=24:=by omega
 refine f.loop (fun i:Nat=>⟨[(3,.a_ (.int .i64) (i:Int)),(0,.a_ .str s)],[],0⟩) (fun i=>i<=s.length/\∀ j,j<i->qu s j=false) (fun i=>s.length-i) 0 0 ⟨QE _,fun j h=>absurd h (Q' _)⟩ ?_ ?_
 ·dsimp only[go_sem];and_intros<;>first|trivial|rfl|omega
 ·rintro i ⟨hi,g⟩ R n;refine f.run 200 _ _ ?_;dsimp only[go_sem];simp only[Su,nG,R_,SK];refine⟨fun d=>?_,fun d=>?_⟩<;>simp only[Qy,Qw]at d
  ·have d:i<s.length:=by omega
   have k:(0:Int)<=(i:Int)/\(i:Int)<(s.length:Int):=by omega
   have a:gG .i64 ((i:Int)+1):=by rw[c9]; omega
   have b:qu s i=(!((decide (65<=gN s i)&&decide (gN s i<=90))||(decide (97<=gN s i)&&decide (gN s i<=122)))&&(decide ((i:Int)=0)||!((decide (48<=gN s i)&&decide (gN s i<=57))||decide (gN s i=95)))):=by
    unfold qu PS Py;have:decide (i=0)=decide ((i:Int)=0):=S4.2 (by omega);rw[this]
   rw[<-b];simp only[k.1,k.2,VY,UZ,R_];refine⟨fun h=>(zn d h).symm,fun h=>⟨a,n _ (i+1) 0 ⟨d,fun j o=>?_⟩ (by omega) ?_⟩⟩
   ·rcases QA j i with l|l
    ·exact g j l
    ·have:j=i:=by omega
     rw[this]; exact h
   ·dsimp only[go_sem];and_intros<;>first|trivial|rfl|omega
  ·have d:i=s.length:=by omega
   subst d;exact(yj m g).symm
@[go_sem] def Hk:Spec:=⟨[.str],fun d=>(.a_ .bool (pv d.1),[])⟩
theorem MB:c6 Tryz.prog 101 Hk:=by
 refine eT sZ Hk Tryz.func101 rfl (by decide) (N:=68) rfl (res:=[.tmp 2]) rfl (by decide) [] [] [] 100 (by kernel_rfl) ?_;rintro⟨s,_⟩ c e;refine⟨rfl,fun H f=>?_⟩;dsimp only[go_sem]at c e ⊢;clear e c;change pc at s;simp only[Su,nG,R_,SK];refine⟨fun h=>?_,fun h=>?_⟩
 ·simp only[RE,Qy]at h;exact(yI (by omega)).symm
 simp only[RG,Qw]at h;have m:1<=s.length/\s.length<=24:=by omega
 refine f.loop (fun i:Nat=>⟨[(3,.a_ (.int .i64) (i:Int)),(0,.a_ .str s)],[],0⟩) (fun i=>i<=s.length/\∀ j,j<i->qu s j=false) (fun i=>s.length-i) 0 0 ⟨QE _,fun j h=>absurd h (Q' _)⟩ ?_ ?_
 ·dsimp only[go_sem];and_intros<;>first|trivial|rfl|omega
 ·rintro i ⟨hi,g⟩ R n;refine f.run 200 _ _ ?_;dsimp only[go_sem];simp only[Su,nG,R_,SK];refine⟨fun d=>?_,fun d=>?_⟩<;>simp only[Qy,Qw]at d
  ·have d:i<s.length:=by omega
   have k:(0:Int)<=(i:Int)/\(i:Int)<(s.length:Int):=by omega
   have a:gG .i64 ((i:Int)+1):=by rw[c9]; omega
   have b:qu s i=(!((decide (97<=gN s i)&&decide (gN s i<=122))||(decide (65<=gN s i)&&decide (gN s i<=90)))&&(decide ((i:Int)=0)||!((decide (48<=gN s i)&&decide (gN s i<=57))||decide (gN s i=95)))):=by
    unfold qu PS Py;have:decide (i=0)=decide ((i:Int)=0):=S4.2 (by omega);rw[this,Bool.or_comm (decide (65<=gN s i)&&decide (gN s i<=90))]
   rw[<-b];simp only[k.1,k.2,VY,UZ,R_];refine⟨fun h=>(zn d h).symm,fun h=>⟨a,n _ (i+1) 0 ⟨d,fun j o=>?_⟩ (by omega) ?_⟩⟩
   ·rcases QA j i with l|l
    ·exact g j l
    ·have:j=i:=by omega
     rw[this]; exact h
   ·dsimp only[go_sem];and_intros<;>first|trivial|rfl|omega
  ·have d:i=s.length:=by omega
   subst d;exact(yj m g).symm
@[reducible,go_sem] def fe:Ty:=.pair .str (.pair (.int .i64) .bool)
@[reducible,go_sem] def jt:Ty:=.pair .str (.pair .bool (.slice fe))
abbrev rG:=pc×Int×Bool
abbrev iR:=pc×Bool×List rG
def cz:rG:=([],0,false)
def nA(b:Bool)(c:rG):Bool:=(!pv c.1||(decide (c.2.1≠1)&&decide (c.2.1≠2)))||(b&&c.2.2)
def tE(l:List rG)(i:Nat):Bool:=(l.take i).any fun x=>decide (x.1=(l.getD i cz).1)
def pL(s:iR):Bool:=(!pv s.1||decide (s.2.2.length<1))||decide (6<s.2.2.length)
def hP(s:iR):Bool:=!pL s&&(List.range s.2.2.length).all fun i=>!nA s.2.1 (s.2.2.getD i cz)&&!tE s.2.2 i
theorem tM{s:iR}(h:pL s=true):hP s=false:=by unfold hP; rw[h]; rfl
theorem pU{s:iR}{i:Nat}(hi:i<s.2.2.length)(h:nA s.2.1 (s.2.2.getD i cz)=true∨tE s.2.2 i=true):hP s=false:=by
 unfold hP;rw[SZ];right;rw[VX];refine⟨i,Rn.2 hi,?_⟩;rcases h with h|h<;>rw[h]<;>simp
theorem vX{s:iR}(h:pL s=false)(a:∀ j,j<s.2.2.length->nA s.2.1 (s.2.2.getD j cz)=false/\tE s.2.2 j=false):hP s=true:=by
 unfold hP;rw[h,Bool.not_false,T_,Rs];intro j b;obtain⟨c,d⟩:=a j (Rn.1 b);rw[c,d]; rfl
theorem uj{a:Type}{p:a->Bool}{l:List a}{i:Nat}(d:a)(hi:i<l.length):(l.take (i+1)).any p=((l.take i).any p||p (l.getD i d)):=by
 rw[UC,List.any_append];congr 1;rw[Qz,Qr hi];simp
@[go_sem] noncomputable def ER2:Env:=((ER1).add 87 PG).add 101 Hk
theorem BE:ER2.Ok:=((sZ).add PQ).add MB
@[go_sem] def OK:Spec:=⟨[jt],fun d=>(.a_ .bool (hP d.1),[])⟩
theorem aa4:c6 Tryz.prog 54 OK:=by
 refine eT BE OK Tryz.func54 rfl (by decide) (N:=69) rfl (res:=[.tmp 2]) rfl (by decide) [] [] [] 100 (by kernel_rfl) ?_;rintro⟨s,_⟩ B C;refine⟨rfl,fun H r=>?_⟩;dsimp only[go_sem]at B C ⊢;clear C;obtain⟨n,b,l⟩:=s;change List rG at l;have a:pL (n,b,l)=((!pv n||decide ((l.length:Int)<1))||decide (6<(l.length:Int))):=by
  have F:decide (l.length<1)=decide ((l.length:Int)<1):=S4.2 (by omega);have G:decide (6<l.length)=decide (6<(l.length:Int)):=S4.2 (by omega);unfold pL;rw[<-F,<-G]
 simp only[Su,nG,R_,SK];rw[<-a];clear B;refine⟨fun h=>(tM h).symm,fun h=>?_⟩;have M:l.length<=6:=by
  rw[a]at h;simp only[RG,Qw]at h;omega
 clear a;have m:∀ j,l.getD j (zd fe)=l.getD j cz:=fun _=>rfl;refine r.loop (fun i:Nat=>⟨[(26,.a_ (.int .i64) (i:Int)),(25,.a_ (.int .i64) (l.length:Int)),(24,.a_ (.slice fe) l),(1,.ref 0 0)],[(0,.box 25 (.cons (.a_ .str n) (.cons (.a_ .bool b) (.cons (.a_ (.slice fe) l) .nil))))],1⟩) (fun i=>i<=l.length/\∀ j,j<i->nA b (l.getD j cz)=false/\tE l j=false) (fun i=>l.length-i) 0 1 ⟨QE _,fun j h=>absurd h (Q' _)⟩ ?_ ?_
 ·dsimp only[go_sem];and_intros<;>first|trivial|rfl|omega
 ·rintro i ⟨hi,D⟩ R I;refine r.run 200 _ _ ?_;dsimp only[go_sem];simp only[Su,nG,R_,SK,QH];refine⟨fun d=>?_,fun d=>?_⟩<;>simp only[Qy,Qw]at d
  ·have d:i<l.length:=by omega
   have J:(0:Int)<=(i:Int)/\(i:Int)<(l.length:Int):=by omega
   have t:(0:Int)<=(i:Int)/\(i:Int)<=(l.length:Int):=by omega
   have u:gG .i64 ((i:Int)+1):=by rw[c9]; omega
   have v:nA b (l.getD i cz)=((!pv (l.getD i cz).1||(decide ((l.getD i cz).2.1≠1)&&decide ((l.getD i cz).2.1≠2)))||(b&&(l.getD i cz).2.2)):=rfl;have K:(l.take i).length=i:=by rw[QM]; omega
   simp only[m];rw[<-v];refine⟨J,fun h=>(pU (s:=(n,b,l)) d (.inl h)).symm,fun w=>⟨t,?_⟩⟩;refine zK.loop (by assumption) (fun k:Nat=>⟨[(58,.a_ (.int .i64) (k:Int)),(57,.a_ (.int .i64) ((l.take i).length:Int)),(56,.a_ (.slice fe) (l.take i)),(4,.ref 1 0),(26,.a_ (.int .i64) (i:Int)),(25,.a_ (.int .i64) (l.length:Int)),(24,.a_ (.slice fe) l),(1,.ref 0 0)],[(0,.box 25 (.cons (.a_ .str n) (.cons (.a_ .bool b) (.cons (.a_ (.slice fe) l) .nil)))),(1,.box 75 (.cons (.a_ .str (l.getD i cz).1) (.cons (.a_ (.int .i64) (l.getD i cz).2.1) (.cons (.a_ .bool (l.getD i cz).2.2) .nil))))],2⟩) (fun k=>k<=i/\((l.take i).take k).any (fun x=>decide (x.1=(l.getD i cz).1))=false) (fun k=>i-k) 0 2 ⟨QE _,rfl⟩ ?_ ?_
   ·dsimp only[go_sem];and_intros<;>first|trivial|rfl|omega
   ·rintro k ⟨hk,c⟩ O y;refine r.run 200 _ _ ?_;dsimp only[go_sem];simp only[Su,nG,R_,SK,QH];have o:∀ j,(l.take i).getD j (zd fe)=(l.take i).getD j cz:=fun _=>rfl;refine⟨fun e=>?_,fun e=>?_⟩<;>simp only[Qy,Qw]at e
    ·have e:k<i:=by omega
     have z:(0:Int)<=(k:Int)/\(k:Int)<((l.take i).length:Int):=by omega
     have L:(0:Int)<=(k:Int)/\(k:Int)<(l.length:Int):=by omega
     have A:gG .i64 ((k:Int)+1):=by rw[c9]; omega
     have f:=uj (p:=fun x:rG=>decide (x.1=(l.getD i cz).1)) (l:=l.take i) cz (by omega:k<(l.take i).length);rw[c,UM]at f;have q:(l.take i).getD k cz=l.getD k cz:=by
      rw[Qz,Qz,Uu e]
     simp only[m,o,q]at f ⊢;refine⟨z,fun g=>?_,fun g=>?_⟩
     ·refine(pU (s:=(n,b,l)) d (.inr ?_)).symm;show((l.take i).any fun x=>decide (x.1=(l.getD i cz).1))=true;rw[Tv];exact⟨_,by rw[<-q]; exact fW cz (by omega:k<(l.take i).length),g⟩
     ·refine⟨A,y _ (k+1) 2 ⟨e,by rw[f]; exact g⟩ (by omega) ?_⟩;dsimp only[go_sem];and_intros<;>first|trivial|rfl|omega
    ·have e:k=i:=by omega
     subst e;rw[QQ (by omega)]at c;refine⟨u,I _ (k+1) 1 ⟨d,fun j P=>?_⟩ (by omega) ?_⟩
     ·rcases QA j k with E|E
      ·exact D j E
      ·have:j=k:=by omega
       rw[this]; exact⟨w,c⟩
     ·dsimp only[go_sem];and_intros<;>first|trivial|rfl|omega
  ·have d:i=l.length:=by omega
   subst d;exact(vX (s:=(n,b,l)) h D).symm
@[go_sem] def Jn:Spec:=⟨[jt],fun d=>(.a_ .bool (hP d.1),[])⟩
theorem KK:c6 Tryz.prog 69 Jn:=by
 refine eT BE Jn Tryz.func69 rfl (by decide) (N:=70) rfl (res:=[.tmp 2]) rfl (by decide) [] [] [] 100 (by kernel_rfl) ?_;rintro⟨s,_⟩ A B;refine⟨rfl,fun H r=>?_⟩;dsimp only[go_sem]at A B ⊢;clear B;obtain⟨n,b,l⟩:=s;change List rG at l;have a:pL (n,b,l)=((!pv n||decide ((l.length:Int)<1))||decide (6<(l.length:Int))):=by
  have E:decide (l.length<1)=decide ((l.length:Int)<1):=S4.2 (by omega);have F:decide (6<l.length)=decide (6<(l.length:Int)):=S4.2 (by omega);unfold pL;rw[<-E,<-F]
 simp only[Su,nG,R_,SK];rw[<-a];clear A;refine⟨fun h=>(tM h).symm,fun h=>?_⟩;have M:l.length<=6:=by
  rw[a]at h;simp only[RG,Qw]at h;omega
 clear a;have m:∀ j,l.getD j (zd fe)=l.getD j cz:=fun _=>rfl;refine r.loop (fun i:Nat=>⟨[(3,.a_ (.int .i64) (i:Int)),(1,.ref 0 0)],[(0,.box 25 (.cons (.a_ .str n) (.cons (.a_ .bool b) (.cons (.a_ (.slice fe) l) .nil))))],1⟩) (fun i=>i<=l.length/\∀ j,j<i->nA b (l.getD j cz)=false/\tE l j=false) (fun i=>l.length-i) 0 1 ⟨QE _,fun j h=>absurd h (Q' _)⟩ ?_ ?_
 ·dsimp only[go_sem];and_intros<;>first|trivial|rfl|omega
 ·rintro i ⟨hi,C⟩ R G;refine r.run 200 _ _ ?_;dsimp only[go_sem];simp only[Su,nG,R_,SK,QH];refine⟨fun d=>?_,fun d=>?_⟩<;>simp only[Qy,Qw]at d
  ·have d:i<l.length:=by omega
   have I:(0:Int)<=(i:Int)/\(i:Int)<(l.length:Int):=by omega
   have J:(0:Int)<=(i:Int)/\(i:Int)<=(l.length:Int):=by omega
   have t:gG .i64 ((i:Int)+1):=by rw[c9]; omega
   have u:nA b (l.getD i cz)=((!pv (l.getD i cz).1||(decide ((l.getD i cz).2.1≠1)&&decide ((l.getD i cz).2.1≠2)))||(b&&(l.getD i cz).2.2)):=rfl;have K:(l.take i).length=i:=by rw[QM]; omega
   simp only[m];rw[<-u];refine⟨I,fun h=>(pU (s:=(n,b,l)) d (.inl h)).symm,fun v=>?_⟩;refine zK.loop (by assumption) (fun k:Nat=>⟨[(5,.a_ (.int .i64) (k:Int)),(4,.ref 1 0),(3,.a_ (.int .i64) (i:Int)),(1,.ref 0 0)],[(0,.box 25 (.cons (.a_ .str n) (.cons (.a_ .bool b) (.cons (.a_ (.slice fe) l) .nil)))),(1,.box 75 (.cons (.a_ .str (l.getD i cz).1) (.cons (.a_ (.int .i64) (l.getD i cz).2.1) (.cons (.a_ .bool (l.getD i cz).2.2) .nil))))],2⟩) (fun k=>k<=i/\((l.take i).take k).any (fun x=>decide (x.1=(l.getD i cz).1))=false) (fun k=>i-k) 0 2 ⟨QE _,rfl⟩ ?_ ?_
   ·dsimp only[go_sem];and_intros<;>first|trivial|rfl|omega
   ·rintro k ⟨hk,c⟩ O w;refine r.run 200 _ _ ?_;dsimp only[go_sem];simp only[Su,nG,R_,SK,QH];have o:∀ j,(l.take i).getD j (zd fe)=(l.take i).getD j cz:=fun _=>rfl;refine⟨fun e=>?_,fun e=>?_⟩<;>simp only[Qy,Qw]at e
    ·have e:k<i:=by omega
     have L:(0:Int)<=(k:Int)/\(k:Int)<((l.take i).length:Int):=by omega
     have y:(0:Int)<=(k:Int)/\(k:Int)<(l.length:Int):=by omega
     have z:gG .i64 ((k:Int)+1):=by rw[c9]; omega
     have f:=uj (p:=fun x:rG=>decide (x.1=(l.getD i cz).1)) (l:=l.take i) cz (by omega:k<(l.take i).length);rw[c,UM]at f;have q:(l.take i).getD k cz=l.getD k cz:=by
      rw[Qz,Qz,Uu e]
     simp only[m,o,q]at f ⊢;refine⟨y,fun g=>?_,fun g=>?_⟩
     ·refine(pU (s:=(n,b,l)) d (.inr ?_)).symm;show((l.take i).any fun x=>decide (x.1=(l.getD i cz).1))=true;rw[Tv];exact⟨_,by rw[<-q]; exact fW cz (by omega:k<(l.take i).length),g⟩
     ·refine⟨z,w _ (k+1) 2 ⟨e,by rw[f]; exact g⟩ (by omega) ?_⟩;dsimp only[go_sem];and_intros<;>first|trivial|rfl|omega
    ·have e:k=i:=by omega
     subst e;rw[QQ (by omega)]at c;refine⟨t,G _ (k+1) 1 ⟨d,fun j P=>?_⟩ (by omega) ?_⟩
     ·rcases QA j k with D|D
      ·exact C j D
      ·have:j=k:=by omega
       rw[this]; exact⟨v,c⟩
     ·dsimp only[go_sem];and_intros<;>first|trivial|rfl|omega
  ·have d:i=l.length:=by omega
   subst d;exact(vX (s:=(n,b,l)) h C).symm
def sW(s:pc)(i:Nat):Bool:=decide (gN s i<32)||decide (126<gN s i)
def AM(s:pc):Bool:=(List.range s.length).all fun i=>!sW s i
theorem yo{s:pc}{i:Nat}(hi:i<s.length)(h:sW s i=true):AM s=false:=by
 unfold AM;rw[VX];exact⟨i,Rn.2 hi,by rw[h]; simp⟩
theorem yp{s:pc}(a:∀ j,j<s.length->sW s j=false):AM s=true:=by
 unfold AM;rw[Rs];intro j b;rw[a j (Rn.1 b)]; rfl
def lZ(v:fS):Bool:=if v.1=1 then decide (v.2.2=[])else((decide (v.1=2)&&decide (v.2.1=0))&&decide (v.2.2.length<=64))&&AM v.2.2
@[go_sem] def PF:Spec:=⟨[eK],fun d=>(.a_ .bool (lZ d.1),[])⟩
theorem aai:c6 Tryz.prog 56 PF:=by
 refine eT sZ PF Tryz.func56 rfl (by decide) (N:=43) rfl (res:=[.tmp 2]) rfl (by decide) [] [] [] 100 (by kernel_rfl) ?_;rintro⟨v,_⟩ b f;refine⟨rfl,fun H g=>?_⟩;dsimp only[go_sem]at b f ⊢;clear f;obtain⟨t,n,s⟩:=v;change pc at s;change Int at t n;have p:s.length<=9223372036854775807:=b.1.2.2;clear b;simp only[Su,nG,R_,SK];refine⟨fun h=>?_,fun h=>⟨fun a=>?_,fun a=>?_⟩⟩<;>simp only[Qy,Qw]at h
 ·unfold lZ; rw[QJ h]
 ·unfold lZ;rw[QC h];simp only[RE,Qy]at a;rcases a with(a|a)|a
  ·rw[Q4 a]; rfl
  ·rw[Q4 a,Ug]; rfl
  ·rw[Q4 (show ¬s.length<=64 by omega),Ug]; rfl
 ·simp only[RG,Qw,Rp]at a;obtain⟨⟨a,q⟩,u⟩:=a;have k:lZ (t,n,s)=AM s:=by
   unfold lZ;rw[QC h,QY a,QY q,QY (show s.length<=64 by omega)]; rfl
  refine g.loop (fun i:Nat=>⟨[(3,.a_ (.int .i64) (i:Int)),(1,.ref 0 0)],[(0,.box 55 (.cons (.a_ (.int .i64) t) (.cons (.a_ (.int .i64) n) (.cons (.a_ .str s) .nil))))],1⟩) (fun i=>i<=s.length/\∀ j,j<i->sW s j=false) (fun i=>s.length-i) 0 1 ⟨QE _,fun j h=>absurd h (Q' _)⟩ ?_ ?_
  ·dsimp only[go_sem];and_intros<;>first|trivial|rfl|omega
  ·rintro i ⟨hi,l⟩ R r;refine g.run 200 _ _ ?_;dsimp only[go_sem];simp only[Su,nG,R_,SK];refine⟨fun d=>?_,fun d=>?_⟩<;>simp only[Qy,Qw]at d
   ·have d:i<s.length:=by omega
    have m:(0:Int)<=(i:Int)/\(i:Int)<(s.length:Int):=by omega
    have c:gG .i64 ((i:Int)+1):=by rw[c9]; omega
    have e:sW s i=(decide (gN s i<32)||decide (126<gN s i)):=rfl;rw[<-e];simp only[m.1,m.2,VY,UZ,R_];refine⟨fun h=>by rw[k,yo d h],fun h=>⟨c,r _ (i+1) 1 ⟨d,fun j w=>?_⟩ (by omega) ?_⟩⟩
    ·rcases QA j i with o|o
     ·exact l j o
     ·have:j=i:=by omega
      rw[this]; exact h
    ·dsimp only[go_sem];and_intros<;>first|trivial|rfl|omega
   ·have d:i=s.length:=by omega
    subst d;rw[k,yp l]
@[go_sem] def F3:Spec:=⟨[eK],fun d=>(.a_ .bool (lZ d.1),[])⟩
theorem Mh:c6 Tryz.prog 73 F3:=by
 refine eT sZ F3 Tryz.func73 rfl (by decide) (N:=41) rfl (res:=[.tmp 2]) rfl (by decide) [] [] [] 100 (by kernel_rfl) ?_;rintro⟨v,_⟩ a g;refine⟨rfl,fun H k=>?_⟩;dsimp only[go_sem]at a g ⊢;clear g;obtain⟨t,n,s⟩:=v;change pc at s;change Int at t n;have q:s.length<=9223372036854775807:=a.1.2.2;clear a;refine⟨fun h=>?_,fun h=>⟨fun b=>?_,fun b=>?_⟩⟩<;>simp only[Qy,Qw]at *
 ·unfold lZ; rw[QJ h]; exact⟨rfl,trivial⟩
 ·have c:¬t=1:=by omega
  have l:lZ (t,n,s)=((decide (n=0)&&decide (s.length<=64))&&AM s):=by
   unfold lZ;rw[QC c,QY b]; rfl
  refine k.loop (fun i:Nat=>⟨[(3,.a_ (.int .i64) (i:Int)),(1,.ref 0 0)],[(0,.box 55 (.cons (.a_ (.int .i64) t) (.cons (.a_ (.int .i64) n) (.cons (.a_ .str s) .nil))))],1⟩) (fun i=>i<=s.length/\∀ j,j<i->sW s j=false) (fun i=>s.length-i) 0 1 ⟨QE _,fun j h=>absurd h (Q' _)⟩ ?_ ?_
  ·dsimp only[go_sem];and_intros<;>first|trivial|rfl|omega
  ·rintro i ⟨hi,m⟩ R r;refine k.run 200 _ _ ?_;dsimp only[go_sem];simp only[Su,nG,R_,SK];refine⟨fun d=>?_,fun d=>?_⟩<;>simp only[Qy,Qw]at d
   ·have d:i<s.length:=by omega
    have o:(0:Int)<=(i:Int)/\(i:Int)<(s.length:Int):=by omega
    have e:gG .i64 ((i:Int)+1):=by rw[c9]; omega
    have f:sW s i=(decide (gN s i<32)||decide (126<gN s i)):=rfl;rw[<-f];simp only[o.1,o.2,VY,UZ,R_];refine⟨fun h=>?_,fun h=>⟨e,r _ (i+1) 1 ⟨d,fun j u=>?_⟩ (by omega) ?_⟩⟩
    ·rw[l,yo d h,Ug]
    ·rcases QA j i with p|p
     ·exact m j p
     ·have:j=i:=by omega
      rw[this]; exact h
    ·dsimp only[go_sem];and_intros<;>first|trivial|rfl|omega
   ·have d:i=s.length:=by omega
    subst d;rw[l,yp m,Bool.and_true];have:decide (s.length<=64)=decide ((s.length:Int)<=64):=S4.2 (by omega);rw[this]
 ·unfold lZ;rw[QC h,Q4 b]; exact⟨rfl,trivial⟩
def pHd(c:Bool)(q:Rat):Bool:=(decide (iM q<0)||decide (iM (1-q)<0))||(c&&decide (iM (1-q)≠0))
def sT(q:Rat):Int:=(iq (N (qf q).2.2):Int)
def vx(c:Bool)(q:Rat):Bool:=!pHd c q&&decide (sT q<=65536)
@[go_sem] def aaY:Spec:=⟨[jt,fT],fun d=>(.a_ .bool (vx d.1.2.1 (fq d.2.1)),[fs d.2.1<=900000])⟩
@[go_sem] noncomputable def ER3:Env:=((((ER2).add 54 OK).add 69 Jn).add 56 PF).add 73 F3
theorem w_:ER3.Ok:=((((BE).add aa4).add KK).add aai).add Mh
theorem PB:c6 Tryz.prog 42 aaY:=by
 refine eT w_ aaY Tryz.func42 rfl (by decide) (N:=30) rfl (res:=[.tmp 4]) rfl (by decide) [] [] [] 100 (by kernel_rfl) ?_;rintro⟨s,p,_⟩ d a;refine⟨rfl,fun H i=>?_⟩;dsimp only[go_sem]at d a ⊢;obtain⟨a,-⟩:=a;have f:=oH (mO d.2.1);have j:=pk 1 (fq p);have k:=mm;have e:fs (qf (1-fq p))<=5000000:=by rw[ig]; omega
 simp only[Su,nG,R_,SK,jo];have g:pHd s.2.1 (fq p)=((decide (iM (fq p)<0)||decide (iM (1-fq p)<0))||(s.2.1&&decide (iM (1-fq p)≠0))):=rfl;rw[<-g];have b:IP Tryz.prog 35 2 (.slice (.int .u32)):=⟨_,_,rfl,rfl,rfl⟩;have c:(qf (fq p)).2.2.length<=5000000:=by
  have:fs (qf (fq p))=qs (fq p):=rfl;have l:(qf (fq p)).2.2.length<=fs (qf (fq p)):=TZ _ _;omega
 refine⟨by omega,by omega,fun _=>e,fun _=>e,fun h=>?_,fun h=>⟨by omega,b,QL c (by decide),?_⟩⟩
 ·unfold vx; rw[h]; rfl
 ·unfold vx; rw[h]; rfl
@[go_sem] def aaW:Spec:=⟨[fT],fun d=>(.a_ .bool (decide (0<=iM (fq d.1))&&decide (0<=iM (1-fq d.1))),[fs d.1<=300000])⟩
theorem PR:c6 Tryz.prog 71 aaW:=by
 refine eT w_ aaW Tryz.func71 rfl (by decide) (N:=12) rfl (res:=[.tmp 2]) rfl (by decide) [] [] [] 100 (by kernel_rfl) ?_;rintro⟨p,_⟩ b a;refine⟨rfl,fun H e=>?_⟩;dsimp only[go_sem]at b a ⊢;obtain⟨a,-⟩:=a;have c:=oH (mO b.1);have f:=pk 1 (fq p);have g:=mm;have d:fs (qf (1-fq p))<=1000000:=by rw[ig]; omega
 simp only[Su,nG,R_,SK,jo];exact⟨by omega,fun _=>by omega,fun _=>d⟩
@[go_sem] def aaM:Spec:=⟨[fT],fun d=>(.a_ .bool (decide (jX (fq d.1) 1=0)),[fs d.1<=300000])⟩
theorem aao:c6 Tryz.prog 76 aaM:=by
 refine eT w_ aaM Tryz.func76 rfl (by decide) (N:=7) rfl (res:=[.tmp 2]) rfl (by decide) [] [] [] 100 (by kernel_rfl) ?_;rintro⟨p,_⟩ b a;refine⟨rfl,fun H d=>?_⟩;dsimp only[go_sem]at b a ⊢;obtain⟨a,-⟩:=a;have e:=mm;have c:((1:Int):Rat)=1:=rfl;rw[c,ig,jo];exact⟨by omega,by omega,rfl,trivial⟩
def vz:fS:=(0,0,[])
def wW(cs:List rG)(vs:List fS)(i:Nat):Bool:=decide ((vs.getD i vz).1≠(cs.getD i cz).2.1)||!lZ (vs.getD i vz)
def lA(s:iR)(t:fy):Int:=if !hP s then 1 else if t.1.length≠s.2.2.length then 13 else if(List.range t.1.length).any (wW s.2.2 t.1)then 13 else if !vx s.2.1 (fq t.2)then 19 else 0
theorem uQ{s:iR}(h:hP s=true):1<=s.2.2.length/\s.2.2.length<=6:=by
 cases e:pL s with
 | true=>rw[tM e]at h; cases h
 | false =>
  unfold pL at e
  simp only[RG,Qw]at e
  omega
theorem vA{p:Nat->Bool}{n i:Nat}(hi:i<n)(h:p i=true):(List.range n).any p=true:=Tv.2 ⟨i,Rn.2 hi,h⟩
theorem sV{p:Nat->Bool}{n:Nat}(h:∀ j,j<n->p j=false):(List.range n).any p=false:=by
 rw[VZ];intro j a;rw[h j (Rn.1 a)]; simp
theorem MT(c:Bool)(q:Rat):((!(decide (0<=iM q)&&decide (0<=iM (1-q)))||decide (65536<sT q))||(c&&!decide (jX q 1=0)))=!vx c q:=by
 have a:decide (0<=iM q)=!decide (iM q<0):=by
  rcases kB q with h|h|h<;>rw[h]<;>decide
 have b:decide (0<=iM (1-q))=!decide (iM (1-q)<0):=by
  rcases kB (1-q)with h|h|h<;>rw[h]<;>decide
 have d:decide (jX q 1=0)=!decide (iM (1-q)≠0):=by
  have e:jX q 1 = - iM (1-q):=by
   unfold jX;rw[<-w8,Rat.neg_sub]
  rw[e];rcases kB (1-q)with h|h|h<;>rw[h]<;>decide
 have f:decide (sT q<=65536)=!decide (65536<sT q):=by
  by_cases h:sT q<=65536
  ·rw[QY h,Q4 (by omega)]; rfl
  ·rw[Q4 h,QY (by omega)]; rfl
 unfold vx pHd;rw[a,b,d,f];cases decide (iM q<0)<;>cases decide (iM (1-q)<0)<;>cases decide (65536<sT q)<;>cases decide (iM (1-q)≠0)<;>cases c<;>rfl
@[go_sem] noncomputable def ER4:Env:=(((ER3).add 42 aaY).add 71 aaW).add 76 aaM
theorem xn:ER4.Ok:=(((w_).add PB).add PR).add aao
@[go_sem] def aaE:Spec:=⟨[jt,b8],fun d=>(.a_ (.int .i64) (lA d.1 d.2.1),[fs d.2.1.2<=100000])⟩
theorem P8:c6 Tryz.prog 24 aaE:=by
 refine eT xn aaE Tryz.func24 rfl (by decide) (N:=45) rfl (res:=[.tmp 4]) rfl (by decide) [] [] [] 100 (by kernel_rfl) ?_;rintro⟨s,t,_⟩ f k;refine⟨rfl,fun H p=>?_⟩;dsimp only[go_sem]at f k ⊢;obtain⟨k,-⟩:=k;have l:=mO f.2.1.2;have v:=oH l;clear f;have m:∀ h:hP s=true,_:=@uQ s;refine⟨fun h=>?_,fun h=>⟨fun b=>?_,fun b=>?_⟩⟩
 ·refine⟨?_,trivial⟩;unfold lA; rw[QJ h]
 ·have b:t.1.length≠s.2.2.length:=fun e=>QF b (Sr _ e);refine⟨?_,trivial⟩;unfold lA; rw[QC (by rw[h]; simp),QJ b]
 have b:t.1.length=s.2.2.length:=by
  have:=QN b;simp only[Rp]at this;exact VI this
 have a:lA s t=if(List.range t.1.length).any (wW s.2.2 t.1)then 13 else if !vx s.2.1 (fq t.2)then 19 else 0:=by
  unfold lA; rw[QC (by rw[h]; simp),QC (by simp[b])]
 have x:=m (by simpa using h);refine p.loop (fun i:Nat=>⟨[(20,.a_ (.int .i64) (i:Int)),(19,.a_ (.int .i64) (t.1.length:Int)),(18,.a_ (.slice eK) t.1),(3,.ref 1 0),(2,.ref 0 0)],[(1,.box 37 (.cons (.a_ (.slice eK) t.1) (.cons (.a_ .bool t.2.1) (.cons (.a_ (.slice (.int .u32)) t.2.2.1) (.cons (.a_ (.slice (.int .u32)) t.2.2.2) .nil))))),(0,.box 25 (.cons (.a_ .str s.1) (.cons (.a_ .bool s.2.1) (.cons (.a_ (.slice fe) s.2.2) .nil))))],2⟩) (fun i=>i<=t.1.length/\∀ j,j<i->wW s.2.2 t.1 j=false) (fun i=>t.1.length-i) 0 2 ⟨QE _,fun j h=>absurd h (Q' _)⟩ ?_ ?_
 ·dsimp only[go_sem];and_intros<;>first|trivial|rfl|omega
 ·rintro i ⟨hi,q⟩ R w;refine p.run 200 _ _ ?_;dsimp only[go_sem];simp only[Su,nG,R_,SK,QH];refine⟨fun d=>?_,fun d=>?_⟩<;>simp only[Qy,Qw]at d
  ·have d:i<t.1.length:=by change (i:Int)<(t.1.length:Int)at d; omega
   have r:(0:Int)<=(i:Int)/\(i:Int)<(t.1.length:Int):=by omega
   have c:(0:Int)<=(i:Int)/\(i:Int)<(s.2.2.length:Int):=by omega
   have n:gG .i64 ((i:Int)+1):=by rw[c9]; omega
   have o:wW s.2.2 t.1 i=(decide ((t.1.getD i (zd eK)).1≠(s.2.2.getD i (zd fe)).2.1)||!lZ (t.1.getD i (zd eK))):=by
    unfold wW;rfl
   simp only[r.1,r.2,c.1,c.2,VY,UZ,R_];rw[<-o];refine⟨fun g=>?_,fun g=>⟨n,w _ (i+1) 2 ⟨d,fun j y=>?_⟩ (by omega) ?_⟩⟩
   ·rw[a,vA d g,QJ rfl]
   ·rcases QA j i with u|u
    ·exact q j u
    ·have:j=i:=by omega
     rw[this]; exact g
   ·dsimp only[go_sem];and_intros<;>first|trivial|rfl|omega
  ·have d:i=t.1.length:=by change ¬(i:Int)<(t.1.length:Int)at d; omega
   subst d;rw[sV q,QC (by simp)]at a;refine⟨by omega,fun g=>?_,fun g=>?_⟩
   ·rw[a,QJ g]
   ·rw[a,QC (by rw[g]; simp)]
@[go_sem] def I8:Spec:=⟨[jt,b8],fun d=>(.a_ (.int .i64) (lA d.1 d.2.1),[fs d.2.1.2<=100000])⟩
theorem K0:c6 Tryz.prog 35 I8:=by
 refine eT xn I8 Tryz.func35 rfl (by decide) (N:=67) rfl (res:=[.tmp 4]) rfl (by decide) [] [] [] 100 (by kernel_rfl) ?_;rintro⟨s,t,_⟩ f k;refine⟨rfl,fun H r=>?_⟩;dsimp only[go_sem]at f k ⊢;obtain⟨k,-⟩:=k;have l:=mO f.2.1.2;have x:=oH l;clear f;have m:∀ h:hP s=true,_:=@uQ s;refine⟨fun h=>?_,fun h=>⟨fun b=>?_,fun b=>?_⟩⟩
 ·refine⟨?_,trivial⟩;unfold lA; rw[QJ h]
 ·have b:t.1.length≠s.2.2.length:=fun e=>QF b (Sr _ e);refine⟨?_,trivial⟩;unfold lA; rw[QC (by rw[h]; simp),QJ b]
 have b:t.1.length=s.2.2.length:=by
  have:=QN b;simp only[Rp]at this;exact VI this
 have a:lA s t=if(List.range t.1.length).any (wW s.2.2 t.1)then 13 else if !vx s.2.1 (fq t.2)then 19 else 0:=by
  unfold lA; rw[QC (by rw[h]; simp),QC (by simp[b])]
 have A:=m (by simpa using h);refine r.loop (fun i:Nat=>⟨[(5,.a_ (.int .i64) (i:Int)),(3,.ref 1 0),(2,.ref 0 0)],[(1,.box 37 (.cons (.a_ (.slice eK) t.1) (.cons (.a_ .bool t.2.1) (.cons (.a_ (.slice (.int .u32)) t.2.2.1) (.cons (.a_ (.slice (.int .u32)) t.2.2.2) .nil))))),(0,.box 25 (.cons (.a_ .str s.1) (.cons (.a_ .bool s.2.1) (.cons (.a_ (.slice fe) s.2.2) .nil))))],2⟩) (fun i=>i<=t.1.length/\∀ j,j<i->wW s.2.2 t.1 j=false) (fun i=>t.1.length-i) 0 2 ⟨QE _,fun j h=>absurd h (Q' _)⟩ ?_ ?_
 ·dsimp only[go_sem];and_intros<;>first|trivial|rfl|omega
 ·rintro i ⟨hi,u⟩ R y;refine r.run 200 _ _ ?_;dsimp only[go_sem];simp only[Su,nG,R_,SK,QH];refine⟨fun d=>?_,fun d=>?_⟩<;>simp only[Qy,Qw]at d
  ·have d:i<t.1.length:=by change (i:Int)<(t.1.length:Int)at d; omega
   have v:(0:Int)<=(i:Int)/\(i:Int)<(t.1.length:Int):=by omega
   have c:(0:Int)<=(i:Int)/\(i:Int)<(s.2.2.length:Int):=by omega
   have n:gG .i64 ((i:Int)+1):=by rw[c9]; omega
   have o:wW s.2.2 t.1 i=(!lZ (t.1.getD i (zd eK))||decide ((t.1.getD i (zd eK)).1≠(s.2.2.getD i (zd fe)).2.1)):=by
    unfold wW;rw[Bool.or_comm];rfl
   simp only[v.1,v.2,c.1,c.2,VY,UZ,R_];rw[<-o];refine⟨fun g=>?_,fun g=>⟨n,y _ (i+1) 2 ⟨d,fun j B=>?_⟩ (by omega) ?_⟩⟩
   ·rw[a,vA d g,QJ rfl]
   ·rcases QA j i with w|w
    ·exact u j w
    ·have:j=i:=by omega
     rw[this]; exact g
   ·dsimp only[go_sem];and_intros<;>first|trivial|rfl|omega
  ·have d:i=t.1.length:=by change ¬(i:Int)<(t.1.length:Int)at d; omega
   subst d;rw[sV u,QC (by simp)]at a;have p:IP Tryz.prog 35 2 (.slice (.int .u32)):=⟨_,_,rfl,rfl,rfl⟩;have z:(qf (fq t.2)).2.2.length<=1000000:=by
    have:fs (qf (fq t.2))=qs (fq t.2):=rfl;have b:(qf (fq t.2)).2.2.length<=fs (qf (fq t.2)):=TZ _ _;omega
   have q:(iq (N (qf (fq t.2)).2.2):Int)=sT (fq t.2):=rfl;rw[q,MT];refine⟨by omega,fun _=>by omega,fun _=>p,fun _=>by omega,fun _=>by omega,fun g=>?_,fun g=>?_⟩
   ·rw[a,QJ g]
   ·rw[a,QC (by rw[g]; simp)]
theorem N8:∀ a b:pc,strLt a b=decide (cB a b<0)/\strLt b a=decide (0<cB a b)
 | [],[]=>⟨rfl,rfl⟩
 | [],_::_=>⟨rfl,rfl⟩
 | _::_,[]=>⟨rfl,rfl⟩
 | a::x,b::y=>by
  obtain⟨h,i⟩:=N8 x y;have j:strLt (a::x) (b::y)=(decide (a<b)||(a == b&&strLt x y)):=rfl;have k:strLt (b::y) (a::x)=(decide (b<a)||(b == a&&strLt y x)):=rfl;have l:cB (a::x) (b::y)=if a<b then -1 else if b<a then 1 else cB x y:=rfl
  rw[j,k,l,h,i];have g:∀ u v:UInt8,u<v↔u.toNat<v.toNat:=fun u v=>Vy;by_cases c:a<b
  ·have d:¬b<a:=by rw[g]at c ⊢; omega
   have f:(b == a)=false:=by
    rw[RS]; intro e; subst e; exact d c
   simp[c,d,f]
  ·by_cases d:b<a
   ·have f:(a == b)=false:=by
      rw[RS]; intro e; subst e; exact c d
    simp[c,d,f]
   ·have f:a=b:=UInt8.toNat_inj.1 (by rw[g]at c d; omega);subst f;simp[c]
theorem xz:∀ a b:pc,cB a b=0↔a=b
 | [],[]=>by simp[cB,Lib.compareBytes]
 | [],_::_=>by simp[cB,Lib.compareBytes]
 | _::_,[]=>by simp[cB,Lib.compareBytes]
 | a::x,b::y=>by
  have h:=xz x y;have g:cB (a::x) (b::y)=if a<b then -1 else if b<a then 1 else cB x y:=rfl
  rw[g];have d:∀ u v:UInt8,u<v↔u.toNat<v.toNat:=fun u v=>Vy;by_cases c:a<b
  ·have:a≠b:=by intro e; subst e; rw[d]at c; omega
   simp[c,this]
  ·by_cases f:b<a
   ·have:a≠b:=by intro e; subst e; rw[d]at f; omega
    simp[c,f,this]
   ·have i:a=b:=UInt8.toNat_inj.1 (by rw[d]at c f; omega);subst i;simp[c,h]
@[go_sem] def Kn:Spec:=⟨[eK,eK],fun d=>(.a_ (.int .i64) (cV d.1 d.2.1),[])⟩
theorem yw{a b:Int}(h:a≠b):cI a b=if a<b then -1 else 1:=by
 unfold cI;by_cases c:a<b
 ·rw[QJ c,QJ c]
 ·rw[QC c,QC c,QJ (by omega)]
theorem abX{a:Int}:cI a a=0:=by unfold cI; rw[QC (by omega),QC (by omega)]
theorem jG{a b:Int}:cI a b=0↔a=b:=by
 constructor
 ·intro h;refine Wv fun c=>?_;rw[yw c]at h;split at h<;>cases h
 ·rintro rfl; exact abX
theorem L3:c6 Tryz.prog 77 Kn:=by
 refine eT xn Kn Tryz.func77 rfl (by decide) (N:=39) rfl (res:=[.tmp 4]) rfl (by decide) [] [] [] 100 (by kernel_rfl) ?_;rintro⟨a,b,_⟩ s t;refine⟨rfl,fun H A=>?_⟩;dsimp only[go_sem]at s t ⊢;clear t s;obtain⟨m,n,c⟩:=a;obtain⟨o,p,d⟩:=b;change Int at m n o p;change pc at c d;obtain⟨v,-⟩:=N8 c d;rw[v];have i:=Hj c d;have u:=xz c d;have w:(!(decide (cB c d<0)||decide (c=d)))=decide (0<cB c d):=by
  by_cases e:c=d
  ·rw[QY e,u.2 e]; rfl
  ·have B:cB c d≠0:=fun h=>e (u.1 h);rw[Q4 e,Bool.or_false];by_cases k:cB c d<0
   ·rw[QY k,Q4 (by omega)]; rfl
   ·rw[Q4 k,QY (by omega)]; rfl
 dsimp only;rw[w];have z:cV (m,n,c) (o,p,d)=if cI m o≠0 then cI m o else if cI n p≠0 then cI n p else cB c d:=rfl
 rw[z];have q:∀{x y:Int},x≠y->cI x y≠0:=fun h e=>h (jG.1 e);refine⟨fun g=>⟨fun k=>⟨?_,trivial⟩,fun k=>⟨?_,trivial⟩⟩,fun g=>⟨fun f=>⟨fun k=>⟨?_,trivial⟩,fun k=>⟨?_,trivial⟩⟩,fun f=>⟨fun k=>⟨?_,trivial⟩,fun k=>⟨fun r=>⟨?_,trivial⟩,fun r=>⟨?_,trivial⟩⟩⟩⟩⟩<;>simp only[Qy,Qw,Rp]at g k
 ·rw[QJ (q g),yw g,QJ k]
 ·rw[QJ (q g),yw g,QC k]
 ·simp only[Qy]at f;rw[QC (by rw[jG.2 g]; simp),QJ (q f),yw f,QJ k]
 ·simp only[Qy]at f;rw[QC (by rw[jG.2 g]; simp),QJ (q f),yw f,QC k]
 ·simp only[Qw,Rp]at f;rw[QC (by rw[jG.2 g]; simp),QC (by rw[jG.2 f]; simp)]; exact(show(-1:Int)=cB c d by have j:(-1:Int)<=cB c d:=i.1; have l:cB c d<=(1:Int):=i.2; omega)
 ·simp only[Qw,Rp,Qy]at f r;rw[QC (by rw[jG.2 g]; simp),QC (by rw[jG.2 f]; simp)]; exact(show(1:Int)=cB c d by have j:(-1:Int)<=cB c d:=i.1; have l:cB c d<=(1:Int):=i.2; omega)
 ·simp only[Qw,Rp]at f r;rw[QC (by rw[jG.2 g]; simp),QC (by rw[jG.2 f]; simp)]; exact(show(0:Int)=cB c d by have j:(-1:Int)<=cB c d:=i.1; have l:cB c d<=(1:Int):=i.2; omega)
@[go_sem] noncomputable def ER5:Env:=(((ER4).add 77 Kn).add 24 aaE).add 35 I8
theorem tQ:ER5.Ok:=(((xn).add L3).add P8).add K0
@[go_sem] def F9:Spec:=⟨[.slice eK,.slice eK],fun d=>(.a_ (.int .i64) (cT d.1 d.2.1),[List.length d.1<=1000000/\List.length d.2.1<=1000000])⟩
theorem K9:c6 Tryz.prog 37 F9:=by
 refine eT tQ F9 Tryz.func37 rfl (by decide) (N:=43) rfl (res:=[.tmp 4]) rfl (by decide) [] [] [] 100 (by kernel_rfl) ?_;rintro⟨l,z,_⟩ q r;refine⟨rfl,fun H s=>?_⟩;dsimp only[go_sem]at q r ⊢;obtain⟨⟨c,f⟩,-⟩:=r;change List fS at l z;change l.length<=1000000 at c;change z.length<=1000000 at f;clear q;refine s.loop (fun i:Nat=>⟨[(5,.a_ (.int .i64) (i:Int)),(0,.a_ (.slice eK) l),(1,.a_ (.slice eK) z)],[],0⟩) (fun i=>i<=l.length/\i<=z.length/\∀ j,j<i->cV (l.getD j (0,0,[])) (z.getD j (0,0,[]))=0) (fun i=>l.length-i) 0 0 ⟨QE _,QE _,fun j h=>absurd h (Q' _)⟩ ?_ ?_
 ·dsimp only[go_sem];and_intros<;>first|trivial|rfl|omega
 ·rintro i ⟨hi,k,t⟩ R u;have a:=CF hi k t;refine s.run 100 _ _ ?_;dsimp only[go_sem];simp only[QH,Su,R_,SK];have m:∀ j,l.getD j (zd eK)=l.getD j (0,0,[]):=fun _=>rfl;have n:∀ j,z.getD j (zd eK)=z.getD j (0,0,[]):=fun _=>rfl;simp only[m,n];refine⟨fun d=>?_,fun d=>?_⟩
  ·simp only[QK,Qy]at d;have o:i<l.length:=by omega
   have p:i<z.length:=by omega
   rw[mC (0,0,[]) o,mC (0,0,[]) p]at a;have a:cT l z=if cV (l.getD i (0,0,[])) (z.getD i (0,0,[]))≠0 then cV (l.getD i (0,0,[])) (z.getD i (0,0,[]))else cT (l.drop (i+1)) (z.drop (i+1)):=a
   refine⟨⟨Sy _,UD.2 o⟩,⟨Sy _,UD.2 p⟩,fun g=>?_,fun g=>?_⟩<;>simp only[Qy,Qw,Rp]at g
   ·rw[a,QJ g]
   ·refine⟨by rw[c9]; omega,u _ (i+1) 0 ⟨o,p,fun j x=>?_⟩ (by omega) ?_⟩
    ·rcases QA j i with h|h
     ·exact t j h
     ·have:j=i:=by omega
      rw[this]; exact g
    ·dsimp only[go_sem];and_intros<;>first|trivial|rfl|omega
  ·simp only[SZ,Qw]at d;refine⟨fun e=>?_,fun e=>⟨fun v=>?_,fun v=>?_⟩⟩<;>simp only[Qy,Qw]at *
   ·have b:l.drop i=[]:=Rl (by omega);rw[b,mC (0,0,[]) (show i<z.length by omega)]at a;exact a.symm
   ·have b:z.drop i=[]:=Rl (by omega);rw[b,mC (0,0,[]) (show i<l.length by omega)]at a;exact a.symm
   ·have b:z.drop i=[]:=Rl (by omega);have w:l.drop i=[]:=Rl (by omega);rw[b,w]at a;exact a.symm
@[reducible,go_sem] def c7:Ty:=.pair jt (.slice b8)
abbrev Rel:=iR×List fy
def qB(cs:List rG)(vs:List fS)(k:Nat):List fS:=((List.range k).filter fun i=>(cs.getD i cz).2.2).map fun i=>vs.getD i vz
def gj(cs:List rG)(vs:List fS):List fS:=if vs.length≠cs.length then []else qB cs vs cs.length
theorem vU(cs:List rG)(vs:List fS)(k:Nat):qB cs vs (k+1)=qB cs vs k++if(cs.getD k cz).2.2 then [vs.getD k vz]else []:=by
 unfold qB;rw[T8,U5,SG];congr 1;simp only[TX,UP];split<;>rfl
theorem nP(cs:List rG)(vs:List fS)(k:Nat):(qB cs vs k).length<=k:=by
 unfold qB;rw[Rt];exact QL (UI _ _) (by simp)
@[go_sem] def Pf:Spec:=⟨[jt,.slice eK],fun d=>(.a_ (.slice eK) (gj d.1.2.2 d.2.1),[List.length d.1.2.2<=1000])⟩
theorem PM:c6 Tryz.prog 57 Pf:=by
 refine eT tQ Pf Tryz.func57 rfl (by decide) (N:=33) rfl (res:=[.tmp 4]) rfl (by decide) [(8,[(29,.dt)])] [] [] 100 (by kernel_rfl) ?_;rintro⟨s,v,_⟩ p g;refine⟨rfl,fun H q=>?_⟩;dsimp only[go_sem]at p g ⊢;obtain⟨g,-⟩:=g;change List fS at v;obtain⟨n,b,a⟩:=s;change List rG at a;change a.length<=1000 at g;clear p;refine⟨fun h=>⟨?_,trivial⟩,fun h=>?_⟩<;>simp only[Qy,Qw,Rp]at h
 ·have:v.length≠a.length:=fun e=>h (Sr _ e);unfold gj; rw[QJ this]
 have c:v.length=a.length:=VI h;have hk:gj a v=qB a v a.length:=by unfold gj; rw[QC (by simp[c])]
 refine q.loop (fun i:Nat=>⟨[(17,.a_ (.int .i64) (i:Int)),(16,.a_ (.int .i64) (a.length:Int)),(15,.a_ (.slice fe) a),(1,.a_ (.slice eK) v),(2,.ref 0 0),(5,.own 1)],[(0,.box 25 (.cons (.a_ .str n) (.cons (.a_ .bool b) (.cons (.a_ (.slice fe) a) .nil)))),(1,.row 55 eK (qB a v i))],2⟩) (fun i=>i<=a.length) (fun i=>a.length-i) 0 1 (QE _) ?_ ?_
 ·dsimp only[go_sem];and_intros<;>first|trivial|rfl|omega
 ·intro i hi R r;refine q.run 100 _ _ ?_;dsimp only[go_sem];simp only[QH];have l:∀ j,a.getD j (zd fe)=a.getD j cz:=fun _=>rfl;have m:∀ j,v.getD j (zd eK)=v.getD j vz:=fun _=>rfl;refine⟨fun d=>?_,fun d=>?_⟩<;>simp only[Qy,Qw]at d
  ·have d:i<a.length:=by omega
   have t:(0:Int)<=(i:Int)/\(i:Int)<(a.length:Int):=by omega
   have o:(0:Int)<=(i:Int)/\(i:Int)<(v.length:Int):=by omega
   have f:gG .i64 ((i:Int)+1):=by rw[c9]; omega
   have k:=vU a v i;have u:=nP a v i;simp only[l,m];refine⟨t,fun e=>?_,fun e=>?_⟩
   ·rw[e,QJ rfl]at k;refine⟨o,?_,trivial,f,r _ (i+1) 2 d (by omega) ?_⟩
    ·change ((qB a v i).length+1)*32<=_;omega
    ·dsimp only[go_sem];rw[k];and_intros<;>first|trivial|rfl|omega
   ·rw[e,QC (by simp),Q9]at k;refine⟨f,r _ (i+1) 2 d (by omega) ?_⟩;dsimp only[go_sem];rw[k];and_intros<;>first|trivial|rfl|omega
  ·have d:i=a.length:=by omega
   subst d;exact⟨hk.symm,trivial⟩
@[go_sem] def Jr:Spec:=⟨[jt,.slice eK],fun d=>(.a_ (.slice eK) (gj d.1.2.2 d.2.1),[List.length d.1.2.2<=1000])⟩
theorem K8:c6 Tryz.prog 103 Jr:=by
 refine eT tQ Jr Tryz.func103 rfl (by decide) (N:=33) rfl (res:=[.tmp 4]) rfl (by decide) [(8,[(30,.dt)])] [] [] 100 (by kernel_rfl) ?_;rintro⟨s,v,_⟩ p g;refine⟨rfl,fun H q=>?_⟩;dsimp only[go_sem]at p g ⊢;obtain⟨g,-⟩:=g;change List fS at v;obtain⟨n,b,a⟩:=s;change List rG at a;change a.length<=1000 at g;clear p;refine⟨fun h=>⟨?_,trivial⟩,fun h=>?_⟩<;>simp only[Qy,Qw,Rp]at h
 ·have:v.length≠a.length:=fun e=>h (Sr _ e);unfold gj; rw[QJ this]
 have c:v.length=a.length:=VI h;have hk:gj a v=qB a v a.length:=by unfold gj; rw[QC (by simp[c])]
 refine q.loop (fun i:Nat=>⟨[(6,.a_ (.int .i64) (i:Int)),(1,.a_ (.slice eK) v),(2,.ref 0 0),(5,.own 1)],[(0,.box 25 (.cons (.a_ .str n) (.cons (.a_ .bool b) (.cons (.a_ (.slice fe) a) .nil)))),(1,.row 55 eK (qB a v i))],2⟩) (fun i=>i<=a.length) (fun i=>a.length-i) 0 1 (QE _) ?_ ?_
 ·dsimp only[go_sem];and_intros<;>first|trivial|rfl|omega
 ·intro i hi R r;refine q.run 100 _ _ ?_;dsimp only[go_sem];simp only[QH];have l:∀ j,a.getD j (zd fe)=a.getD j cz:=fun _=>rfl;have m:∀ j,v.getD j (zd eK)=v.getD j vz:=fun _=>rfl;refine⟨fun d=>?_,fun d=>?_⟩<;>simp only[Qy,Qw]at d
  ·have d:i<a.length:=by omega
   have t:(0:Int)<=(i:Int)/\(i:Int)<(a.length:Int):=by omega
   have o:(0:Int)<=(i:Int)/\(i:Int)<(v.length:Int):=by omega
   have f:gG .i64 ((i:Int)+1):=by rw[c9]; omega
   have k:=vU a v i;have u:=nP a v i;simp only[l,m];refine⟨t,fun e=>?_,fun e=>?_⟩
   ·rw[e,QJ rfl]at k;refine⟨o,?_,trivial,f,r _ (i+1) 2 d (by omega) ?_⟩
    ·change ((qB a v i).length+1)*32<=_;omega
    ·dsimp only[go_sem];rw[k];and_intros<;>first|trivial|rfl|omega
   ·rw[e,QC (by simp),Q9]at k;refine⟨f,r _ (i+1) 2 d (by omega) ?_⟩;dsimp only[go_sem];rw[k];and_intros<;>first|trivial|rfl|omega
  ·have d:i=a.length:=by omega
   subst d;exact⟨hk.symm,trivial⟩
@[go_sem] def aaX:Spec:=⟨[jt],fun d=>(.a_ .bool (List.any d.1.2.2 fun c=>c.2.2),[List.length d.1.2.2<=1000])⟩
theorem aaF:c6 Tryz.prog 102 aaX:=by
 refine eT tQ aaX Tryz.func102 rfl (by decide) (N:=17) rfl (res:=[.tmp 2]) rfl (by decide) [] [] [] 100 (by kernel_rfl) ?_;rintro⟨s,_⟩ l g;refine⟨rfl,fun H m=>?_⟩;dsimp only[go_sem]at l g ⊢;obtain⟨g,-⟩:=g;obtain⟨n,b,a⟩:=s;change List rG at a;change a.length<=1000 at g;clear l;refine m.loop (fun i:Nat=>⟨[(3,.a_ (.int .i64) (i:Int)),(1,.ref 0 0)],[(0,.box 25 (.cons (.a_ .str n) (.cons (.a_ .bool b) (.cons (.a_ (.slice fe) a) .nil))))],1⟩) (fun i=>i<=a.length/\(a.take i).any (fun c=>c.2.2)=false) (fun i=>a.length-i) 0 1 ⟨QE _,rfl⟩ ?_ ?_
 ·dsimp only[go_sem];and_intros<;>first|trivial|rfl|omega
 ·rintro i ⟨hi,h⟩ R o;refine m.run 100 _ _ ?_;dsimp only[go_sem];simp only[QH];have k:∀ j,a.getD j (zd fe)=a.getD j cz:=fun _=>rfl;refine⟨fun d=>?_,fun d=>?_⟩<;>simp only[Qy,Qw]at d
  ·have d:i<a.length:=by omega
   have f:=uj (p:=fun c:rG=>c.2.2) cz d;rw[h,UM]at f;simp only[k];refine⟨⟨Sy _,UD.2 d⟩,fun e=>⟨?_,trivial⟩,fun e=>⟨by rw[c9]; omega,o _ (i+1) 1 ⟨d,by rw[f]; exact e⟩ (by omega) ?_⟩⟩
   ·exact(Tv.2 ⟨_,fW cz d,e⟩).symm
   ·dsimp only[go_sem];and_intros<;>first|trivial|rfl|omega
  ·have d:i=a.length:=by omega
   subst d;rw[TR]at h;exact⟨h.symm,trivial⟩
def tz:fy:=([],false,[],[])
def gZ(r:Rel):Prop:=r.1.2.2.length<=1000/\r.2.length<=400/\∀ t∈r.2,t.1.length<=1000/\fs t.2<=1000
def mY:Option Nat->Int×Bool
 | some i=>((i:Int),true)
 | none=>(0,false)
def kG(v:List fS)(t:fy):Bool:=decide (cT t.1 v=0)
theorem Kf{b:Type}{p:b->Bool}{l:List b}{i:Nat}(d:b)(hi:i<l.length)(h:p (l.getD i d)=true)(c:∀ j,j<i->p (l.getD j d)=false):l.findIdx? p=some i:=by
 rw[VP];refine⟨hi,?_,fun j e=>?_⟩
 ·rw[Qz,Qr hi]at h; exact h
 ·have:=c j e;rw[Qz,Qr (by omega)]at this;simpa using this
theorem Dv{b:Type}{p:b->Bool}{l:List b}(d:b)(h:∀ j,j<l.length->p (l.getD j d)=false):l.findIdx? p=none:=by
 rw[Ww];intro x f;obtain⟨j,c,e⟩:=Rz.1 f;have:=h j c;rw[Qz,Qr c]at this;rw[<-e]; exact this
@[go_sem] noncomputable def ER6:Env:=((((ER5).add 37 F9).add 57 Pf).add 103 Jr).add 102 aaX
theorem pg:ER6.Ok:=((((tQ).add K9).add PM).add K8).add aaF
@[go_sem] def aaf:Spec:=⟨[c7,.slice eK],fun d=>(.js (.cons (.a_ (.int .i64) (mY (List.findIdx? (kG d.2.1) d.1.2)).1) (.cons (.a_ .bool (mY (List.findIdx? (kG d.2.1) d.1.2)).2) .nil)),[gZ d.1,List.length d.2.1<=1000])⟩
theorem PY:c6 Tryz.prog 25 aaf:=by
 refine eT pg aaf Tryz.func25 rfl (by decide) (N:=23) rfl (res:=[.tmp 4,.tmp 5]) rfl (by decide) [] [] [] 100 (by kernel_rfl) ?_;rintro⟨r,v,_⟩ p b;refine⟨rfl,fun H q=>?_⟩;dsimp only[go_sem]at p b ⊢;obtain⟨b,x,-⟩:=b;obtain⟨s,l⟩:=r;change List fy at l;change List fS at v;obtain⟨y,c,f⟩:=b;change l.length<=400 at c;change v.length<=1000 at x;clear p;refine q.loop (fun i:Nat=>⟨[(11,.a_ (.int .i64) (i:Int)),(10,.a_ (.int .i64) (l.length:Int)),(9,.a_ (.slice b8) l),(1,.a_ (.slice eK) v),(2,.ref 0 0)],[(0,.box 28 (.cons (.a_ .str s.1) (.cons (.a_ .bool s.2.1) (.cons (.a_ (.slice fe) s.2.2) (.cons (.a_ (.slice b8) l) .nil)))))],1⟩) (fun i=>i<=l.length/\∀ j,j<i->kG v (l.getD j tz)=false) (fun i=>l.length-i) 0 1 ⟨QE _,fun j h=>absurd h (Q' _)⟩ ?_ ?_
 ·dsimp only[go_sem];and_intros<;>first|trivial|rfl|omega
 ·rintro i ⟨hi,g⟩ R z;refine q.run 100 _ _ ?_;dsimp only[go_sem];simp only[QH];have k:∀ j,l.getD j (zd b8)=l.getD j tz:=fun _=>rfl;refine⟨fun d=>?_,fun d=>?_⟩<;>simp only[Qy,Qw]at d
  ·have d:i<l.length:=by omega
   have A:(0:Int)<=(i:Int)/\(i:Int)<(l.length:Int):=by omega
   have m:gG .i64 ((i:Int)+1):=by rw[c9]; omega
   have B:(l.getD i tz).1.length<=1000/\fs (l.getD i tz).2<=1000:=f _ (fW tz d);have n:(l.getD i tz).1.length<=1000000/\v.length<=1000000:=by omega
   have t:kG v (l.getD i tz)=decide (cT (l.getD i tz).1 v=0):=rfl;simp only[k];refine⟨A,n,fun e=>?_,fun e=>⟨m,z _ (i+1) 1 ⟨d,fun j C=>?_⟩ (by omega) ?_⟩⟩
   ·have o:l.findIdx? (kG v)=some i:=Kf tz d (by rw[t]; exact e) g;rw[o];and_intros<;>first|trivial|rfl
   ·rcases QA j i with u|u
    ·exact g j u
    ·have:j=i:=by omega
     rw[this,t]; exact e
   ·dsimp only[go_sem];and_intros<;>first|trivial|rfl|omega
  ·have d:i=l.length:=by omega
   subst d;have o:l.findIdx? (kG v)=none:=Dv tz g;rw[o];and_intros<;>first|trivial|rfl
@[go_sem] def J2:Spec:=⟨[c7,.slice eK],fun d=>(.js (.cons (.a_ (.int .i64) (mY (List.findIdx? (kG d.2.1) d.1.2)).1) (.cons (.a_ .bool (mY (List.findIdx? (kG d.2.1) d.1.2)).2) .nil)),[gZ d.1,List.length d.2.1<=1000])⟩
theorem KT:c6 Tryz.prog 36 J2:=by
 refine eT pg J2 Tryz.func36 rfl (by decide) (N:=24) rfl (res:=[.tmp 4,.tmp 5]) rfl (by decide) [] [] [] 100 (by kernel_rfl) ?_;rintro⟨r,v,_⟩ p b;refine⟨rfl,fun H q=>?_⟩;dsimp only[go_sem]at p b ⊢;obtain⟨b,x,-⟩:=b;obtain⟨s,l⟩:=r;change List fy at l;change List fS at v;obtain⟨y,c,f⟩:=b;change l.length<=400 at c;change v.length<=1000 at x;clear p;refine q.loop (fun i:Nat=>⟨[(6,.a_ (.int .i64) (i:Int)),(1,.a_ (.slice eK) v),(2,.ref 0 0)],[(0,.box 28 (.cons (.a_ .str s.1) (.cons (.a_ .bool s.2.1) (.cons (.a_ (.slice fe) s.2.2) (.cons (.a_ (.slice b8) l) .nil)))))],1⟩) (fun i=>i<=l.length/\∀ j,j<i->kG v (l.getD j tz)=false) (fun i=>l.length-i) 0 1 ⟨QE _,fun j h=>absurd h (Q' _)⟩ ?_ ?_
 ·dsimp only[go_sem];and_intros<;>first|trivial|rfl|omega
 ·rintro i ⟨hi,g⟩ R z;refine q.run 100 _ _ ?_;dsimp only[go_sem];simp only[QH];have k:∀ j,l.getD j (zd b8)=l.getD j tz:=fun _=>rfl;refine⟨fun d=>?_,fun d=>?_⟩<;>simp only[Qy,Qw]at d
  ·have d:i<l.length:=by omega
   have A:(0:Int)<=(i:Int)/\(i:Int)<(l.length:Int):=by omega
   have m:gG .i64 ((i:Int)+1):=by rw[c9]; omega
   have B:(l.getD i tz).1.length<=1000/\fs (l.getD i tz).2<=1000:=f _ (fW tz d);have n:(l.getD i tz).1.length<=1000000/\v.length<=1000000:=by omega
   have t:kG v (l.getD i tz)=decide (cT (l.getD i tz).1 v=0):=rfl;simp only[k];refine⟨A,n,fun e=>?_,fun e=>⟨m,z _ (i+1) 1 ⟨d,fun j C=>?_⟩ (by omega) ?_⟩⟩
   ·have o:l.findIdx? (kG v)=some i:=Kf tz d (by rw[t]; exact e) g;rw[o];and_intros<;>first|trivial|rfl
   ·rcases QA j i with u|u
    ·exact g j u
    ·have:j=i:=by omega
     rw[this,t]; exact e
   ·dsimp only[go_sem];and_intros<;>first|trivial|rfl|omega
  ·have d:i=l.length:=by omega
   subst d;have o:l.findIdx? (kG v)=none:=Dv tz g;rw[o];and_intros<;>first|trivial|rfl
def FP(r:Rel)(k:List fS)(n:Nat):List Int:=((List.range n).filter fun i=>decide (cT (gj r.1.2.2 (r.2.getD i tz).1) k=0)).map fun i:Nat=>(i:Int)
theorem za(r:Rel)(k:List fS)(n:Nat):FP r k (n+1)=FP r k n++if cT (gj r.1.2.2 (r.2.getD n tz).1) k=0 then [(n:Int)]else []:=by
 unfold FP;rw[T8,U5,SG];congr 1;simp only[TX,UP,Qy];split<;>rfl
theorem wM(r:Rel)(k:List fS)(n:Nat):(FP r k n).length<=n:=by
 unfold FP;rw[Rt];exact QL (UI _ _) (by simp)
def yU(q:Rat)(i:Nat):FN:=match i with|0=>(false,[],[])|_+1=>qf q
theorem B0{q:Rat}{i:Nat}(h:qs q<=900000):fs (yU q i)<=900000:=by
 cases i with
 | zero=>exact QE _
 | succ n=>show fs (qf q)<=_; rw[ig]; exact h
theorem DT{q:Rat}{i:Nat}(h:i=0->q=0):fq (yU q i)=q:=by
 cases i with
 | zero=>rw[h rfl]; rfl
 | succ n=>exact jo q
def kW(r:Rel)(v:List fS):List Int:=if(gj r.1.2.2 v).length=0 then []else FP r (gj r.1.2.2 v) r.2.length
@[go_sem] def aaS:Spec:=⟨[c7,.slice eK],fun d=>(.a_ (.slice (.int .i64)) (kW d.1 d.2.1),[gZ d.1,List.length d.2.1<=1000])⟩
theorem PD:c6 Tryz.prog 26 aaS:=by
 refine eT pg aaS Tryz.func26 rfl (by decide) (N:=38) rfl (res:=[.tmp 4]) rfl (by decide) [(9,[(34,.dt)])] [] [] 100 (by kernel_rfl) ?_;rintro⟨r,v,_⟩ x m;refine⟨rfl,fun H y=>?_⟩;dsimp only[go_sem]at x m ⊢;obtain⟨m,A,-⟩:=m;obtain⟨s,l⟩:=r;change List fy at l;change List fS at v;obtain⟨f,o,B⟩:=m;change l.length<=400 at o;change v.length<=1000 at A;clear x;have g:∀ w,(gj s.2.2 w).length<=1000:=fun w=>by
  unfold gj;split
  ·exact QE _
  ·exact QL (nP _ _ _) f
 refine⟨f,fun h=>⟨?_,trivial⟩,fun h=>?_⟩<;>simp only[Qy,Qw]at h
 ·have:(gj s.2.2 v).length=0:=by omega
  show []=kW (s,l) v;unfold kW; rw[QJ this]
 have hk:kW (s,l) v=FP (s,l) (gj s.2.2 v) l.length:=by
  unfold kW; rw[QC (fun e=>h (by rw[e]; rfl))]
 have p:=g v;have b:=za (s,l) (gj s.2.2 v);have c:=wM (s,l) (gj s.2.2 v);generalize FP (s,l) (gj s.2.2 v)=G at b c hk;change ∀ n,G (n+1)=G n++(if cT (gj s.2.2 (l.getD n tz).1) (gj s.2.2 v)=0 then [(n:Int)]else [])at b;clear h;generalize q:gj s.2.2 v=K at b p ⊢;clear q;refine y.loop (fun i:Nat=>⟨[(19,.a_ (.int .i64) (i:Int)),(18,.a_ (.int .i64) (l.length:Int)),(17,.a_ (.slice b8) l),(5,.a_ (.slice eK) K),(2,.ref 0 0),(6,.own 1)],[(0,.box 28 (.cons (.a_ .str s.1) (.cons (.a_ .bool s.2.1) (.cons (.a_ (.slice fe) s.2.2) (.cons (.a_ (.slice b8) l) .nil))))),(1,.row 3 (.int .i64) (G i))],2⟩) (fun i=>i<=l.length) (fun i=>l.length-i) 0 1 (QE _) ?_ ?_
 ·dsimp only[go_sem];have:G 0=[]:=RA (by have:=c 0; omega);rw[this];and_intros<;>first|trivial|rfl|omega
 ·intro i hi R z;refine y.run 100 _ _ ?_;dsimp only[go_sem];simp only[QH];have t:∀ j,l.getD j (zd b8)=l.getD j tz:=fun _=>rfl;refine⟨fun d=>?_,fun d=>?_⟩<;>simp only[Qy,Qw]at d
  ·have d:i<l.length:=by omega
   have C:(0:Int)<=(i:Int)/\(i:Int)<(l.length:Int):=by omega
   have k:gG .i64 ((i:Int)+1):=by rw[c9]; omega
   have u:(gj s.2.2 (l.getD i tz).1).length<=1000000/\List.length K<=1000000:=by
    have:=g (l.getD i tz).1;omega
   have b:=b i;have c:=c i;simp only[t];refine⟨C,f,u,fun e=>?_,fun e=>?_⟩<;>simp only[Qy,Qw]at e
   ·have e:cT (gj s.2.2 (l.getD i tz).1) K=0:=e;rw[QJ e]at b;refine⟨?_,trivial,k,z _ (i+1) 2 d (by omega) ?_⟩
    ·change ((G i).length+1)*8<=_;omega
    ·dsimp only[go_sem];rw[b];and_intros<;>first|trivial|rfl|omega
   ·have e:¬cT (gj s.2.2 (l.getD i tz).1) K=0:=e;rw[QC e,Q9]at b;refine⟨k,z _ (i+1) 2 d (by omega) ?_⟩;dsimp only[go_sem];rw[b];and_intros<;>first|trivial|rfl|omega
  ·have d:i=l.length:=by omega
   subst d;rw[hk];and_intros<;>first|trivial|rfl
def gS(l:List fy)(b:List Int):Rat:=lS (b.map fun i=>(l.getD i.toNat tz).2)
@[go_sem] def Qk:Spec:=⟨[c7,.slice (.int .i64)],fun d=>(.a_ fT (qf (gS d.1.2 d.2.1)),[gZ d.1,List.length d.2.1<=400,∀ i∈(d.2.1:List Int),0<=i/\i<(List.length d.1.2:Int)])⟩
theorem aan:c6 Tryz.prog 29 Qk:=by
 refine eT pg Qk Tryz.func29 rfl (by decide) (N:=25) rfl (res:=[.cell 4 35]) rfl (by decide) [] [] [] 100 (by kernel_rfl) ?_;rintro⟨r,b,_⟩ z y;refine⟨rfl,fun H L=>?_⟩;dsimp only[go_sem]at z y ⊢;obtain⟨y,A,g,-⟩:=y;obtain⟨s,l⟩:=r;change List fy at l;obtain⟨S,B,o⟩:=y;change l.length<=400 at B;change List Int at b;change b.length<=400 at A;change ∀ i∈b,0<=i/\i<(l.length:Int)at g;have C:∀ t∈l,q_ b8 t:=z.1.2.2;clear z;have p:∀ f∈b.map (fun i=>(l.getD i.toNat tz).2),q_ fT f/\fs f<=1000:=by
  intro f q;obtain⟨i,hi,rfl⟩:=Rj.1 q;have M:=g i hi;have n:=fW tz (show i.toNat<l.length by omega);exact⟨(C _ n).2,(o _ n).2⟩
 have k:=CO (fun f q=>(p f q).1) (fun f q=>(p f q).2);have u:∀ i,i<b.length->lS ((b.map (fun i=>(l.getD i.toNat tz).2)).take (i+1))=lS ((b.map (fun i=>(l.getD i.toNat tz).2)).take i)+fq (l.getD (b.getD i 0).toNat tz).2:=by
  intro i hi;have e:(b.map (fun i=>(l.getD i.toNat tz).2)).getD i (zd fT)=(l.getD (b.getD i 0).toNat tz).2:=by
   rw[Qz,Ro,Qr hi,Qz (l:=b),Qr hi]; rfl
  rw[tK _ i (zd fT) (by rw[Rt]; exact hi),rf,e]
 have v:gS l b=lS ((b.map (fun i=>(l.getD i.toNat tz).2)).take b.length):=by
  unfold gS; rw[QQ (by rw[Rt]; exact Qu _)]
 have D:∀ i,i<b.length->fs (l.getD (b.getD i 0).toNat tz).2<=1000:=fun i hi=>by
  have:0<=b.getD i 0/\b.getD i 0<(l.length:Int):=g _ (fW 0 hi);have h:(b.getD i 0).toNat<l.length:=by omega
  exact(o (l.getD (b.getD i 0).toNat tz) (fW tz h)).2
 have F:∀ i,i<b.length->0<=b.getD i 0/\b.getD i 0<(l.length:Int):=fun i hi=>g _ (fW 0 hi);show H _ _;generalize O:(fun i=>lS ((b.map (fun i=>(l.getD i.toNat tz).2)).take i))=Q at *;have x:∀ i,lS ((b.map (fun i=>(l.getD i.toNat tz).2)).take i)=Q i:=fun i=>by rw[<-O]
 have m:Q 0=0:=by rw[<-O]; rfl
 simp only[x]at u v;rw[Rt]at k;simp only[x]at k;refine L.loop (fun i:Nat=>⟨[(10,.a_ (.int .i64) (i:Int)),(9,.a_ (.int .i64) (b.length:Int)),(8,.a_ (.slice (.int .i64)) b),(5,.ref 2 0),(4,.ref 1 0),(2,.ref 0 0)],[(0,.box 28 (.cons (.a_ .str s.1) (.cons (.a_ .bool s.2.1) (.cons (.a_ (.slice fe) s.2.2) (.cons (.a_ (.slice b8) l) .nil))))),(1,.box 35 (zA fT .nil)),(2,.box 35 (dA fT (yU (Q i) i) .nil))],3⟩) (fun i=>i<=b.length) (fun i=>b.length-i) 0 3 (QE _) ?_ ?_
 ·dsimp only[go_sem];rw[m];and_intros<;>first|trivial|rfl|omega
 ·intro i hi R n;refine L.run 100 _ _ ?_;dsimp only[go_sem];simp only[QH];have G:∀ j,l.getD j (zd b8)=l.getD j tz:=fun _=>rfl;have I:∀ j,b.getD j (zd (.int .i64))=b.getD j 0:=fun _=>rfl;have T:=(k i hi).1;refine⟨fun d=>?_,fun d=>?_⟩<;>simp only[Qy,Qw]at d
  ·have d:i<b.length:=by omega
   have M:(0:Int)<=(i:Int)/\(i:Int)<(b.length:Int):=by omega
   have J:gG .i64 ((i:Int)+1):=by rw[c9]; omega
   have V:=D i d;have n:=n;have U:=u i d;simp only[G,I];have K:fs (yU (Q i) i)<=900000:=B0 (by omega);have c:fq (yU (Q i) i)=Q i:=DT (fun e=>by rw[e]; exact m);rw[c,<-U];exact⟨M,F i d,by omega,by omega,J,n _ (i+1) 3 d (by omega) (by dsimp only[go_sem,yU]; and_intros<;>first|trivial|rfl|omega)⟩
  ·have d:i=b.length:=by omega
   subst d;have K:fs (yU (Q b.length) b.length)<=900000:=B0 (by omega);have c:fq (yU (Q b.length) b.length)=Q b.length:=DT (fun e=>by rw[e]; exact m);rw[c,v];exact⟨by omega,rfl,trivial⟩
@[go_sem] def H':Spec:=⟨[c7,.slice (.int .i64)],fun d=>(.a_ fT (qf (gS d.1.2 d.2.1)),[gZ d.1,List.length d.2.1<=400,∀ i∈(d.2.1:List Int),0<=i/\i<(List.length d.1.2:Int)])⟩
theorem My:c6 Tryz.prog 72 H':=by
 refine eT pg H' Tryz.func72 rfl (by decide) (N:=26) rfl (res:=[.cell 4 35]) rfl (by decide) [] [] [] 100 (by kernel_rfl) ?_;rintro⟨r,b,_⟩ x v;refine⟨rfl,fun H J=>?_⟩;dsimp only[go_sem]at x v ⊢;obtain⟨v,y,c,-⟩:=v;obtain⟨s,l⟩:=r;change List fy at l;obtain⟨M,z,m⟩:=v;change l.length<=400 at z;change List Int at b;change b.length<=400 at y;change ∀ i∈b,0<=i/\i<(l.length:Int)at c;have A:∀ t∈l,q_ b8 t:=x.1.2.2;clear x;have n:∀ f∈b.map (fun i=>(l.getD i.toNat tz).2),q_ fT f/\fs f<=1000:=by
  intro f o;obtain⟨i,hi,rfl⟩:=Rj.1 o;have K:=c i hi;have k:=fW tz (show i.toNat<l.length by omega);exact⟨(A _ k).2,(m _ k).2⟩
 have g:=CO (fun f o=>(n f o).1) (fun f o=>(n f o).2);have p:∀ i,i<b.length->lS ((b.map (fun i=>(l.getD i.toNat tz).2)).take (i+1))=lS ((b.map (fun i=>(l.getD i.toNat tz).2)).take i)+fq (l.getD (b.getD i 0).toNat tz).2:=by
  intro i hi;have e:(b.map (fun i=>(l.getD i.toNat tz).2)).getD i (zd fT)=(l.getD (b.getD i 0).toNat tz).2:=by
   rw[Qz,Ro,Qr hi,Qz (l:=b),Qr hi]; rfl
  rw[tK _ i (zd fT) (by rw[Rt]; exact hi),rf,e]
 have q:gS l b=lS ((b.map (fun i=>(l.getD i.toNat tz).2)).take b.length):=by
  unfold gS; rw[QQ (by rw[Rt]; exact Qu _)]
 have B:∀ i,i<b.length->fs (l.getD (b.getD i 0).toNat tz).2<=1000:=fun i hi=>by
  have:0<=b.getD i 0/\b.getD i 0<(l.length:Int):=c _ (fW 0 hi);have h:(b.getD i 0).toNat<l.length:=by omega
  exact(m (l.getD (b.getD i 0).toNat tz) (fW tz h)).2
 have C:∀ i,i<b.length->0<=b.getD i 0/\b.getD i 0<(l.length:Int):=fun i hi=>c _ (fW 0 hi);show H _ _;generalize L:(fun i=>lS ((b.map (fun i=>(l.getD i.toNat tz).2)).take i))=Q at *;have u:∀ i,lS ((b.map (fun i=>(l.getD i.toNat tz).2)).take i)=Q i:=fun i=>by rw[<-L]
 have D:Q 0=0:=by rw[<-L]; rfl
 simp only[u]at p q;rw[Rt]at g;simp only[u]at g;refine J.loop (fun i:Nat=>⟨[(6,.a_ (.int .i64) (i:Int)),(1,.a_ (.slice (.int .i64)) b),(5,.ref 2 0),(4,.ref 1 0),(2,.ref 0 0)],[(0,.box 28 (.cons (.a_ .str s.1) (.cons (.a_ .bool s.2.1) (.cons (.a_ (.slice fe) s.2.2) (.cons (.a_ (.slice b8) l) .nil))))),(1,.box 35 (zA fT .nil)),(2,.box 35 (dA fT (qf (Q i)) .nil))],3⟩) (fun i=>i<=b.length) (fun i=>b.length-i) 0 3 (QE _) ?_ ?_
 ·dsimp only[go_sem];rw[D];and_intros<;>first|trivial|rfl|omega
 ·intro i hi R k;refine J.run 100 _ _ ?_;dsimp only[go_sem];simp only[QH];have F:∀ j,l.getD j (zd b8)=l.getD j tz:=fun _=>rfl;have G:∀ j,b.getD j (zd (.int .i64))=b.getD j 0:=fun _=>rfl;have O:=(g i hi).1;refine⟨fun d=>?_,fun d=>?_⟩<;>simp only[Qy,Qw]at d
  ·have d:i<b.length:=by omega
   have K:(0:Int)<=(i:Int)/\(i:Int)<(b.length:Int):=by omega
   have I:gG .i64 ((i:Int)+1):=by rw[c9]; omega
   have U:=B i d;have k:=k;have S:=p i d;simp only[F,G];have T:fs (qf (Q i))<=900000:=by rw[ig]; omega
   rw[jo,<-S];exact⟨K,C i d,by omega,by omega,I,k _ (i+1) 3 d (by omega) (by dsimp only[go_sem]; and_intros<;>first|trivial|rfl|omega)⟩
  ·have d:i=b.length:=by omega
   subst d;rw[q];and_intros<;>first|trivial|rfl
@[go_sem] noncomputable def ER7:Env:=(((((ER6).add 25 aaf).add 36 J2).add 26 aaS).add 29 Qk).add 72 H'
theorem aaH:ER7.Ok:=(((((pg).add PY).add KT).add PD).add aan).add My
@[go_sem] def aae:iP:=⟨[.d (.slice eK),.d (.slice eK)],fun d=>⟨[],0,.a_ (.int .i64) (cT d.1 d.2.1),[List.length d.1<=1000000/\List.length d.2.1<=1000000]⟩⟩
theorem KV:gK Tryz.prog 30 aae:=by
 refine nD Io aae Tryz.func30 rfl (by decide) (N:=8) rfl (res:=[.tmp 4]) rfl (by decide) [(1,[(7,.ow)])] [] [] 100 (by kernel_rfl) ?_;rintro⟨l,z,_⟩ c b H d;dsimp only[go_sem]at c b ⊢;obtain⟨b,-⟩:=b;and_intros<;>first|trivial|rfl|exact b.1|exact b.2
@[go_sem] noncomputable def ES1:Env:=(ER7).jg 30 aae
theorem IH:ES1.Ok:=(aaH).jg KV
def fV(K:List (List fS))(k:List fS):Nat:=K.findIdx fun e=>decide (0<=cT e k)
def nv(K:List (List fS))(k:List fS):Bool:=decide (fV K k<K.length)&&decide (cT (K.getD (fV K k) []) k=0)
def O5(K:List (List fS))(k:List fS):Prop:=∀ a b,a<=b->b<K.length->cT (K.getD b []) k<0->cT (K.getD a []) k<0
theorem sD{K:List (List fS)}{k:List fS}{p:Nat}(g:p<=K.length)(h:∀ a,a<p->cT (K.getD a []) k<0)(c:p<K.length->0<=cT (K.getD p []) k):fV K k=p:=by
 unfold fV;rcases QA p K.length with d|d
 ·rw[List.findIdx_eq d];constructor
  ·have:=c d;rw[Qz,Qr d]at this;exact QY this
  ·intro j b;have:=h j b;rw[Qz,Qr (by omega)]at this;exact Q4 (by simpa using this)
 ·have:p=K.length:=by omega
  rw[this,WJ];intro x f;obtain⟨j,b,e⟩:=Rz.1 f;have:=h j (by omega);rw[Qz,Qr b]at this;rw[<-e];exact Q4 (by simpa using this)
@[go_sem] def Qn:iP:=⟨[.d (.slice (.slice eK)),.d (.slice eK),.k 30],fun d=>⟨[],0,.js (.cons (.a_ (.int .i64) (fV d.1 d.2.1:Int)) (.cons (.a_ .bool (nv d.1 d.2.1)) .nil)),[List.length d.1<=1000,∀ e∈(d.1:List (List fS)),e.length<=1000,List.length d.2.1<=1000,O5 d.1 d.2.1]⟩⟩
theorem Mm:gK Tryz.prog 88 Qn:=by
 refine nD IH Qn Tryz.func88 rfl (by decide) (N:=49) rfl (res:=[.tmp 6,.tmp 7]) rfl (by decide) [] [] [] 100 (by kernel_rfl) ?_;rintro⟨K,k,_⟩ A B H C;dsimp only[go_sem]at A B ⊢;obtain⟨l,f,m,n,-⟩:=B;change List (List fS)at K;change List fS at k;change K.length<=1000 at l;change k.length<=1000 at m;clear A;refine C.loop (fun p:Nat×Nat=>⟨[(9,.a_ (.int .i64) (p.1:Int)),(10,.a_ (.int .i64) (p.2:Int)),(8,.a_ (.int .i64) (K.length:Int)),(0,.a_ (.slice (.slice eK)) K),(1,.a_ (.slice eK) k),(2,.kL 30 .nil)],[],0⟩) (fun p=>p.1<=p.2/\p.2<=K.length/\(∀ a,a<p.1->cT (K.getD a []) k<0)/\(p.2<K.length->0<=cT (K.getD p.2 []) k)) (fun p=>p.2-p.1) (0,K.length) 0 ⟨QE _,Qu _,fun a h=>absurd h (Q' _),fun h=>absurd h (Vc _)⟩ ?_ ?_
 ·dsimp only[go_sem];and_intros<;>first|trivial|rfl|omega
 ·rintro⟨i,j⟩ ⟨hi,o,q,r⟩ R D;dsimp only at hi o q r;refine C.run 100 _ _ ?_;dsimp only[go_sem];simp only[QH];have F:kr .u64 ((i:Int)+(j:Int)) 1=(((i+j) / 2:Nat):Int):=by
   have:kr .u64 ((i:Int)+(j:Int)) 1=((i:Int)+(j:Int)) / 2:=U1 _ (by decide);rw[this]; omega
  have s:∀ j,K.getD j (zd (.slice eK))=K.getD j []:=fun _=>rfl;simp only[F,QH,s];refine⟨fun d=>?_,fun d=>?_⟩<;>simp only[Qy,Qw]at d
  ·have d:i<j:=by omega
   generalize I:(i+j) / 2=h;have J:i<=h/\h<j:=by omega
   have c:∀ x:Int,0<=x->x<=2001->gG .i64 x:=fun x a b=>by rw[c9]; omega
   have t:gG .u64 ((i:Int)+(j:Int)):=by show 0<=(i:Int)+(j:Int)/\(i:Int)+(j:Int)<=18446744073709551615; omega
   have G:(0:Int)<=(h:Int)/\(h:Int)<(K.length:Int):=by omega
   have u:(K.getD h []).length<=1000:=f _ (fW [] (show h<K.length by omega));have v:(K.getD h []).length<=1000000/\k.length<=1000000:=by omega
   refine⟨c _ (by omega) (by omega),t,by decide,c _ (by omega) (by omega),G,v,fun e=>?_,fun e=>?_⟩<;>simp only[Qy,Qw]at e
   ·refine⟨c _ (by omega) (by omega),D _ (h+1,j) 0 ⟨by omega,o,fun a L=>n a h (by omega) (by omega) e,r⟩ (by dsimp only; omega) ?_⟩;dsimp only[go_sem];and_intros<;>first|trivial|rfl|omega
   ·refine D _ (i,h) 0 ⟨by omega,by omega,q,fun _=>Vr.1 e⟩ (by dsimp only; omega) ?_;dsimp only[go_sem];and_intros<;>first|trivial|rfl|omega
  ·have d:i=j:=by omega
   subst d;have g:fV K k=i:=sD o q r;have y:decide ((i:Int)<(K.length:Int))=decide (i<K.length):=S4.2 (by omega);have z:nv K k=(decide (i<K.length)&&decide (cT (K.getD i []) k=0)):=by unfold nv; rw[g]
   simp only[y,g,z,Su,R_,SK];refine⟨fun e=>?_,fun e=>?_,by omega⟩<;>simp only[Qy]at e
   ·show(0:Int)<=(i:Int)/\(i:Int)<(K.length:Int);omega
   ·have u:(K.getD i []).length<=1000:=f _ (fW [] e);change (K.getD i []).length<=1000000/\k.length<=1000000;omega
section
variable{E:Env}{w0 w1 w2:World}{X0 X1:Nat->Prop}{Bo:List Value}{N:Nat}{st st':St}{ρ:List Value}{a:Act}{w w':World}{Q:Exit->Act->World->Prop}{P:Program}{ps:List Prop}{ck:List (Nat×CT)}{nx:Nat}
theorem xq(p:E.Ok)(i:∀ b,X0 b->b<w0.heap.size){ops:Array Oper}{ds:List (Option Nat)}(j:∀ g:Nat,ju ds g=(ops[g]?).map Oper.dst){ann:List (Nat×An)}{r:List Oper} :
    ∀{l:List Oper}{st st':St}{ρ:List Value}{a:Act}{w:World}{c ps:List Prop},Fr w0 X0 Bo N st ρ a w->gP E ann ds l st c=some (st',ps)->eP ps->(∀ o∈l,gW N o=true) ->
     (∀ ρ' a' w',Fr w0 X0 Bo N st' ρ' a' w'->wpList E.P ops Q r a' w')->wpList E.P ops Q (l++r) a w
 | [],st,st',ρ,a,w,c,ps,h,d,m,f,n=>by cases d; exact n _ _ _ h
 | o::l,st,st',ρ,a,w,c,ps,h,d,m,f,n=>by
  simp only[gP]at d;split at d
  ·rename_i q qs e;obtain⟨k,hk⟩:=kD d;have s:eP qs:=by rw[hk]at m; exact m.app.1.app.2
   refine Xa fun K t=>?_;exact xu p h i j (f o Qx) e s fun ρ' a' w' u=>t _ _ (xq p i j u d m (fun o v=>f o (Qs _ v)) n)
  ·cases d
theorem yA(f:E.Ok)(c:∀ b,X0 b->b<w0.heap.size){id:Nat}{ops:Array Oper}{ann:List (Nat×An)}{pre post:List Oper}(i:ops.toList=pre++post)(h:Fr w0 X0 Bo N st ρ a w){k:List It}
    (j:gP E ann (hU ops.toList) pre st []=some (st',ps)) (l:eP ps) (d:pre.all (gW N)=true) (m:∀ ρ' a' w',Fr w0 X0 Bo N st' ρ' a' w'->wpList E.P ops (me E.P Q k) post a' w') :
    me E.P Q (.code (.region id ops false)::k) .normal a w:=by
 refine Re ?_;have e:∀ g:Nat,ju (hU ops.toList) g=(ops[g]?).map Oper.dst:=fun g=>by have:=n_ ops.toList g; simpa using this
 have:=xq f c (ops:=ops) (r:=post) (Q:=me E.P Q k) e h j l (fun o n=>Rs.1 d o n) m;rwa [<-i]at this
theorem m_{d:Type}{l m:List d}{i k:Nat}{x:d}(hi:i<=l.length)(h:(fB l i m)[k]?=some x) :
    (k<i/\l[k]?=some x)∨(i<=k/\k<i+m.length/\m[k-i]?=some x)∨(i+m.length<=k/\l[k-m.length]?=some x):=by
 unfold fB at h;have f:(l.take i).length=i:=by rw[QM]; omega
 rcases QA k i with b|b
 ·rw[QP,Q0 (by omega),Q1,QJ b]at h;exact .inl ⟨b,h⟩
 ·rcases QA k (i+m.length)with c|c
  ·rw[QP,QT (by omega),Q0 (by omega),f]at h;exact .inr (.inl ⟨b,c,h⟩)
  ·rw[QT (by rw[QO]; omega),QO,f,Rg]at h;have e:i+(k-(i+m.length))=k-m.length:=by omega
   rw[e]at h;exact .inr (.inr ⟨c,h⟩)
theorem nW{b:Type}{l m:List b}{i:Nat}{x:b}(h:x∈fB l i m):x∈l∨x∈m:=by
 unfold fB at h;rcases QZ.1 h with h|h
 ·rcases QZ.1 h with h|h
  ·exact .inl (RB h)
  ·exact .inr h
 ·exact .inl (Rh h)
theorem Fj (h:Fr w0 X0 Bo N st ρ a w) (ak:∀ b,X0 b->b<w0.heap.size) {f s0 s1 s2:Nat}{fn:Func} (hf:P.funcs[f]?=some fn) (g:fn.body.isSome=true) (hn:(fn.name == "runtime.NumGoroutine")=false) {T Ti:TypeId}{t:Ty}{c d Y M n i:Nat}{o o2:Bool}{ll D:List (List t.den)}
    (hI:wh P f T 1) (g0:get? st.sl s0=some (.iE c n)) (g1:get? st.sl s1=some (.a_ (.int .i64) (i:Int))) (g2:get? st.sl s2=some (.iE Y 1))
    (J:get? st.ck c=some (.eW T o d none)) (ab:get? st.ck d=some (.gv Ti t ll)) (ac:get? st.ck Y=some (.eW T o2 M none)) (U:get? st.ck M=some (.gv Ti t D)) (al:c≠Y) (O:d≠M) (Z:ll.length=n) (R:D.length=1) (hi:i<=n) (an:n<=1000000)
    {dd:Option Nat} (ao:∀ t,dd=some t->t<N) {ats:Array TypeId}{ty:TypeId}{pos:String}{af:Array Edge} :
    fD P a.eval ⟨dd,.call { callee:=.value (.func f),args:=#[.tmp s0,.tmp s1,.tmp s2],argTypes:=ats },ty,pos,af,none⟩ w fun v w'=>∃ ρ',Fr w0 X0 Bo N ⟨put st.sl dd (.iE st.nx (n+1)),(st.nx,.eW T o (st.nx+1) none)::(st.nx+1,.gv Ti t (fB ll i D))::gw st.ck [c,d,Y,M],st.nx+2⟩ ρ' (a.put dd v) w':=by
 have hw:=h.wd ak;have z:=b7 J;have s:=b7 ab;have V:=b7 ac;have m:=b7 U;have ad:c≠d:=by intro e; rw[e,ab]at J; cases J
 have W:c≠M:=by intro e; rw[e,U]at J; cases J
 obtain⟨vc,q,c1,A,c3,c4⟩:=kP (hw.cs _ z);obtain⟨av,a1,a2,a3,a4⟩:=id (hw.cs _ s);rw[A]at a1;cases a1;obtain⟨vk,x,k1,k2,k3,k4⟩:=kP (hw.cs _ V);obtain⟨aw,b1,b2,b3,b4⟩:=id (hw.cs _ m);rw[k2]at b1;cases b1;obtain⟨v0,x1,x2,x3⟩:=h.sl _ _ g0;rw[c1]at x1;cases x1;have x3:=(QB x3).1;obtain⟨v0,y1,y2,y3⟩:=h.sl _ _ g2;rw[k1]at y1;cases y1;have y3:=(QB y3).1;have z3:=fI (h.sl _ _ g1);rw[a2,Z]at c3;rw[b2,R]at k3;obtain⟨vb,K,rfl⟩:=Cs k3;have L:∀ b,fa vc=some b->fk ρ c b:=fun b g=>fh c1 g;have ae:∀ b,fa vc=some b->b≠vb:=fun b g e=>h.dj _ z _ V al b (L b g) (by rw[e]; exact fh k1 rfl);have aa:=hI w vc n i vb K q.toList x.toList c3 c4 k3 k4 ae hi an;have aq:execOp a.eval ⟨dd,.call { callee:=.value (.func f),args:=#[.tmp s0,.tmp s1,.tmp s2],argTypes:=ats },ty,pos,af,none⟩=callFunc f #[vc,.int .i64 i,.slice (some ⟨vb,0,none⟩) 1 K]:=by
  rw[UE];have B:a.eval (.tmp s0)=vc:=x3;have F:a.eval (.tmp s1)=.int .i64 i:=z3.1;have e2:a.eval (.tmp s2)=.slice (some ⟨vb,0,none⟩) 1 K:=y3;simp[B,F,e2]
 unfold fD;rw[aq,e_ hf g hn];suffices H:∀ v' w',w'.ownsRow 0 T 1 v' (n+1) (q.toList.take (i*1)++x.toList++q.toList.drop (i*1))->w.grownBy w' (fa vc)->(∀ b,fa v'=some b->fa vc=some b∨w.heap.size<=b)->∃ ρ',Fr w0 X0 Bo N ⟨put st.sl dd (.iE st.nx (n+1)),(st.nx,.eW T o (st.nx+1) none)::(st.nx+1,.gv Ti t (fB ll i D))::gw st.ck [c,d,Y,M],st.nx+2⟩ ρ' (a.put dd v') w' by
  have:=aa.mono fun e w' ⟨v',he,q2,q3,q4⟩=>(⟨v',he,H v' w' q2 q3 q4⟩:∃ v,e=Ending.returned v/\∃ ρ',Fr w0 X0 Bo N ⟨put st.sl dd (.iE st.nx (n+1)),(st.nx,.eW T o (st.nx+1) none)::(st.nx+1,.gv Ti t (fB ll i D))::gw st.ck [c,d,Y,M],st.nx+2⟩ ρ' (a.put dd v) w');simpa using this
 intro v' w' q2 q3 q4;have G:∀ b,b<w.heap.size->¬fk ρ c b->w'.heap[b]?=w.heap[b]?:=fun b g hn=>mf q3 g fun e=>hn (L b e);have F:q.toList.take (i*1)++x.toList++q.toList.drop (i*1)=fB q.toList i x.toList:=by rw[Ry]; rfl
 rw[F]at q2;have ar:q.toList.length=n:=by rw[a2,Z]
 have X:x.toList.length=1:=by rw[b2,R]
 have ah:(fB q.toList i x.toList).length=n+1:=by rw[hO,ar,X]
 have h0:=jx h;have ai:∀(j:Nat) (u:Value) (l:List t.den),(fB q.toList i x.toList)[j]?=some u->(fB ll i D)[j]?=some l->Rw 0 (XX X0 ρ st.ck) w Ti t u l/\∀ b,fa u=some b->fk ρ d b∨fk ρ M b:=by
  intro j u l y hl;rcases m_ (by omega) y with⟨p1,C⟩|⟨p1,C,p3⟩|⟨p1,C⟩<;>rcases m_ (by omega) hl with⟨r1,I⟩|⟨r1,I,r3⟩|⟨r1,I⟩<;>try omega
  ·exact⟨a3 _ u l C I,fun b g=>.inl (fj A C g)⟩
  ·exact⟨b3 _ u l p3 r3,fun b g=>.inr (fj k2 p3 g)⟩
  ·rw[X]at C;rw[R]at I;exact⟨a3 _ u l C I,fun b g=>.inl (fj A C g)⟩
 have S:∀ u∈fB q.toList i x.toList,∀ b,fa u=some b->fk ρ d b∨fk ρ M b:=by
  intro u y b g;rcases nW y with y|y
  ·obtain⟨j,hj⟩:=RR.1 y;exact .inl (fj A hj g)
  ·obtain⟨j,hj⟩:=RR.1 y;exact .inr (fj k2 hj g)
 obtain⟨ρ',f1,f2,f3⟩:=h0.yx (ds:=[c,d,Y,M]) (o:=o) (us:=fB q.toList i x.toList) (ll:=fB ll i D) (T:=T) (Ti:=Ti) (t:=t) (v':=v') ⟨q3.os,q3.tape,q3.output⟩ q3.size (fun b g hn=>G b g fun B=>hn ⟨_,z,by simp,B⟩) (by rw[ah]; exact q2)
  (fun u y=>by
   rcases nW y with y|y
   ·exact c4 u y
   ·exact k4 u y) (by rw[ah,hO,Z,R])
  (fun j u l y hl=>by
   obtain⟨g1,g2⟩:=ai j u l y hl;refine⟨g1,fun b g=>?_⟩;rcases g2 b g with B|B
   ·exact⟨⟨_,s,by simp,B⟩,G b (h.bl _ s b B).1 fun F=>h.dj _ z _ s ad b F B⟩
   ·exact⟨⟨_,m,by simp,B⟩,G b (h.bl _ m b B).1 fun F=>h.dj _ z _ m W b F B⟩)
  (fun j k u u' y au ae b g r=>by
   rcases m_ (by omega) y with⟨p1,C⟩|⟨p1,C,p3⟩|⟨p1,C⟩<;>rcases m_ (by omega) au with⟨r1,I⟩|⟨r1,I,r3⟩|⟨r1,I⟩
   ·exact a4 _ _ u u' C I (by omega) b g r
   ·exact h.dj _ s _ m O b (fj A C g) (fj k2 r3 r)
   ·exact a4 _ _ u u' C I (by omega) b g r
   ·exact h.dj _ s _ m O b (fj A I r) (fj k2 p3 g)
   ·exact b4 _ _ u u' p3 r3 (by omega) b g r
   ·exact h.dj _ s _ m O b (fj A I r) (fj k2 p3 g)
   ·exact a4 _ _ u u' C I (by omega) b g r
   ·exact h.dj _ s _ m O b (fj A C g) (fj k2 r3 r)
   ·exact a4 _ _ u u' C I (by omega) b g r)
  (fun b g=>(q4 b g).imp (fun B=>⟨_,z,by simp,L b B⟩) id)
  (fun u y b g r=>by
   have S:=S u y b g;rcases q4 b r with B|B
   ·rcases S with F|F
    ·exact h.dj _ z _ s ad b (L b B) F
    ·exact h.dj _ z _ m W b (L b B) F
   ·rcases S with F|F
    ·have:=(h.bl _ s b F).1; omega
    ·have:=(h.bl _ m b F).1; omega)
 have aj:Aq v' (n+1):=sy q2;refine Di h ao ⟨ρ',f1,fun p hp=>?_⟩;rcases Qv.1 hp with rfl|hp
 ·exact⟨v',f3,aj,rfl⟩
 ·exact f2 (ud h p hp)
def A9(S:Sx)(H:List It->St->Prop):Prop:=∃(w0:World) (X0:Nat->Prop) (Bo:List Value) (Q:Exit->Act->World->Prop),S.E.Ok/\(∀ b,X0 b->b<w0.heap.size)/\∀ k st,H k st↔(mT S.an S.N k=true->∀ ρ a w,Fr w0 X0 Bo S.N st ρ a w->me S.E.P Q k .normal a w)
theorem zK.hand{S:Sx}{H:List It->St->Prop}(i:zK S H){k:List It}{st:St}(h:∀ d,zK S d->A9 S d->d k st)(e:mT S.an S.N k=true):H k st :=
 i.raw fun w0 X0 Bo Q f g b c ρ a w j=>h (Hs S.an S.E w0 X0 Bo S.N Q) (Cg f g b c) ⟨w0,X0,Bo,Q,g,b,fun _ _=>Wj⟩ e ρ a w j
theorem aak{S:Sx}{H:List It->St->Prop}(hh:A9 S H){k:List It}{id:Nat}{ops:Array Oper}{ann:List (Nat×An)}{pre post:List Oper}{st b l:St}{q s:List Prop}{f F G I dd:Nat}{fn:Func}{ats:Array TypeId}{ty:TypeId}{pos:String}{af:Array Edge}
    (hl:ops.toList=pre++⟨some dd,.call { callee:=.value (.func f),args:=#[.tmp F,.tmp G,.tmp I],argTypes:=ats },ty,pos,af,none⟩::post)
    (J:gP S.E ann (hU ops.toList) pre st []=some (b,q)) (u:pre.all (gW S.N)=true) (x:post.all (gW S.N)=true) (L:dd<S.N)
    (hf:S.E.P.funcs[f]?=some fn) (hb:fn.body.isSome=true) (hn:(fn.name == "runtime.NumGoroutine")=false) {T Ti:TypeId}{t:Ty}{c d C D n i:Nat}{o o2:Bool}{ll m:List (List t.den)}
    (hI:wh S.E.P f T 1) (g0:get? b.sl F=some (.iE c n)) (g1:get? b.sl G=some (.a_ (.int .i64) (i:Int))) (g2:get? b.sl I=some (.iE C 1))
    (M:get? b.ck c=some (.eW T o d none)) (O:get? b.ck d=some (.gv Ti t ll)) (y:get? b.ck C=some (.eW T o2 D none)) (z:get? b.ck D=some (.gv Ti t m)) (R:c≠C) (A:d≠D)
    (U:gP S.E ann (hU ops.toList) post ⟨put b.sl (some dd) (.iE b.nx (n+1)),(b.nx,.eW T o (b.nx+1) none)::(b.nx+1,.gv Ti t (fB ll i m))::gw b.ck [c,d,C,D],b.nx+2⟩ []=some (l,s))
    (V:eP q) (W:ll.length=n) (X:m.length=1) (hi:i<=n) (Y:n<=1000000) (Z:eP s) (hk:H k l):H (.code (.region id ops false)::k) st:=by
 obtain⟨w0,X0,Bo,Q,hE,p,j⟩:=hh;rw[j];intro aa ρ a w ab;have B:mT S.an S.N k=true:=by
  have h:(uA S.an S.N (.region id ops false)&&mT S.an S.N k)=true:=aa;rw[QK]at h;exact h.2
 refine yA (post:=⟨some dd,.call { callee:=.value (.func f),args:=#[.tmp F,.tmp G,.tmp I],argTypes:=ats },ty,pos,af,none⟩::post) hE p hl ab J V u fun ad a1 w1 h1=>?_;refine Us rfl fun K hK=>?_;refine(Fj h1 p hf hb hn hI g0 g1 g2 M O y z R A W X hi Y (dd:=some dd) (fun t e=>by cases e; exact L)).wp fun v w' ⟨ae,h2⟩=>hK _ _ ?_;have:=xq (Q:=me S.E.P Q k) (ops:=ops) (ds:=hU ops.toList) (r:=[]) hE p (fun g=>by have:=n_ ops.toList g; simpa using this) h2 U Z (fun o ho=>Rs.1 x o ho) fun ac a3 w3 h3=>RM ((j k l).1 hk B ac a3 w3 h3);rwa [Q9]at this
end
structure pA{α:Type}(c:α->α->Int):Prop where
 eq:∀ a b,c a b=0↔a=b
 sw:∀ a b,c a b<0↔0<c b a
 tr:∀ a b d,c a b<0->c b d<0->c a d<0
theorem Oq:pA cI:=by
 refine⟨fun a b=>jG,fun a b=>?_,fun a b d=>?_⟩
 ·unfold cI; split<;>split<;>(try split)<;>omega
 ·unfold cI; repeat' split
  all_goals omega
theorem nU(a b:UInt8)(x y:pc):cB (a::x) (b::y)=if a.toNat<b.toNat then -1 else if b.toNat<a.toNat then 1 else cB x y:=by
 show(if a<b then -1 else if b<a then 1 else cB x y)=_;simp only[Vy]
theorem Ox:∀ a b:pc,cB a b<0↔0<cB b a
 | [],[]=>by simp[cB,Lib.compareBytes]
 | [],_::_=>by simp[cB,Lib.compareBytes]
 | _::_,[]=>by simp[cB,Lib.compareBytes]
 | a::x,b::y=>by
  have h:=Ox x y;rw[nU,nU];split<;>split<;>(try split)<;>omega
theorem Oc:∀ a b d:pc,cB a b<0->cB b d<0->cB a d<0
 | [],_,[]=>by
  intro c e;rename_i b;cases b<;>simp[cB,Lib.compareBytes]at c e
 | [],_,_::_=>by intro _ _; simp[cB,Lib.compareBytes]
 | _::_,[],_=>by intro c; simp[cB,Lib.compareBytes]at c
 | _::_,_::_,[]=>by intro _ e; simp[cB,Lib.compareBytes]at e
 | a::x,b::y,d::z=>by
  have h:=Oc x y z;rw[nU,nU,nU];intro c e;split at c<;>split at e<;>(try split at c)<;>(try split at e)<;>(try omega)<;>split<;>(try omega)<;>split<;>(try omega)
theorem abl:pA cB:=⟨xz,Ox,Oc⟩
theorem pA.lex{j k:Type}{c:j->j->Int}{d:k->k->Int}(f:pA c)(l:pA d):pA (fun(x y:j×k)=>if c x.1 y.1≠0 then c x.1 y.1 else d x.2 y.2):=by
 refine⟨fun a b=>?_,fun a b=>?_,fun a b e=>?_⟩
 ·have g:=f.eq a.1 b.1;have i:=l.eq a.2 b.2;by_cases h:c a.1 b.1=0
  ·rw[QC (fun x=>x h),i];exact⟨fun e=>Wl (g.1 h) e,fun e=>by rw[e]⟩
  ·rw[QJ h];exact⟨fun e=>absurd e h,fun e=>absurd (g.2 (by rw[e])) h⟩
 ·have g:=f.eq a.1 b.1;have i:=f.eq b.1 a.1;have m:=f.sw a.1 b.1;have n:=l.sw a.2 b.2;by_cases h:c a.1 b.1=0
  ·rw[QC (fun x=>x h),QC (fun x=>x (i.2 (g.1 h).symm))]; exact n
  ·rw[QJ h,QJ (fun x=>h (g.2 (i.1 x).symm))]; exact m
 ·have g:=f.eq a.1 b.1;have i:=f.eq b.1 e.1;have m:=f.eq a.1 e.1;have n:=f.tr a.1 b.1 e.1;have r:=l.tr a.2 b.2 e.2;intro p q;by_cases x:c a.1 b.1=0
  ·rw[QC (fun y=>y x)]at p;have o:=g.1 x;by_cases y:c b.1 e.1=0
   ·rw[QC (fun z=>z y)]at q;rw[QC (fun z=>z (m.2 (o.trans (i.1 y))))];exact r p q
   ·rw[QJ y]at q;rw[o,QJ y]; exact q
  ·rw[QJ x]at p;by_cases y:c b.1 e.1=0
   ·rw[<-i.1 y,QJ x]; exact p
   ·rw[QJ y]at q;have:=n p q;rw[QJ (by omega)]; exact this
theorem rO:pA cV:=pA.lex Oq (pA.lex Oq abl)
theorem mI(a b:fS)(x y:List fS):cT (a::x) (b::y)=if cV a b≠0 then cV a b else cT x y:=rfl
theorem oN:∀ a b:List fS,cT a b=0↔a=b
 | [],[]=>by simp[cT]
 | [],_::_=>by simp[cT]
 | _::_,[]=>by simp[cT]
 | a::x,b::y=>by
  rw[mI,List.cons.injEq,<-rO.eq a b,<-oN x y];by_cases h:cV a b=0<;>simp[h]
theorem GY:∀ a b:List fS,cT a b<0↔0<cT b a
 | [],[]=>by simp[cT]
 | [],_::_=>by simp[cT]
 | _::_,[]=>by simp[cT]
 | a::x,b::y=>by
  have h:=GY x y;have c:=rO.sw a b;have d:=rO.sw b a;rw[mI,mI];split<;>split<;>omega
theorem yQ:∀ a b d:List fS,cT a b<0->cT b d<0->cT a d<0
 | [],b,[]=>by
  intro c e;cases b<;>simp[cT]at c e
 | [],_,_::_=>by intro _ _; simp[cT]
 | _::_,[],_=>by intro c; simp[cT]at c
 | _::_,_::_,[]=>by intro _ e; simp[cT]at e
 | a::x,b::y,d::z=>by
  have h:=yQ x y z;have g:=rO.tr a b d;rw[mI,mI,mI];intro p q;by_cases u:cV a b=0
  ·rw[QC (fun y=>y u)]at p;have f:=(rO.eq a b).1 u;by_cases v:cV b d=0
   ·rw[QC (fun z=>z v)]at q;have i:=(rO.eq b d).1 v;rw[QC (fun z=>z ((rO.eq a d).2 (f.trans i)))];exact h p q
   ·rw[QJ v]at q;rw[f,QJ v]; exact q
  ·rw[QJ u]at p;by_cases v:cV b d=0
   ·rw[<-(rO.eq b d).1 v,QJ u]; exact p
   ·rw[QJ v]at q;have:=g p q;rw[QJ (by omega)]; exact this
def fr(b:Nat->List fS):Nat->List (List fS)×List (List Int)
 | 0=>([],[])
 | n+1 =>
  let s:=fr b n
  if(b n).length=0 then(fB s.1 s.2.length [b n],fB s.2 s.2.length [[(n:Int)]])
  else if nv s.1 (b n)=true then(s.1,s.2.set (fV s.1 (b n)) (s.2.getD (fV s.1 (b n)) []++[(n:Int)]))
  else(fB s.1 (fV s.1 (b n)) [b n],fB s.2 (fV s.1 (b n)) [[(n:Int)]])
theorem qA(K:List (List fS))(k:List fS):fV K k<=K.length:=WK
theorem Nu{K:List (List fS)}{k:List fS}{j:Nat}(c:j<fV K k):cT (K.getD j []) k<0:=by
 have f:=qA K k;have h:=WL (p:=fun e=>decide (0<=cT e k)) (xs:=K) c;have d:cT (K[j]'(by omega)) k<0:=by
  rcases Tg (cT (K[j]'(by omega)) k) 0 with b|b
  ·exact b
  ·simp[b]at h
 rw[Qz,Qr (by omega)];exact d
theorem K6{K:List (List fS)}{k:List fS}(b:fV K k<K.length):0<=cT (K.getD (fV K k) []) k:=by
 have h:=WZ (p:=fun e=>decide (0<=cT e k)) (xs:=K) (w:=b);rw[Qz,Qr b];exact QF h
def Fz(K:List (List fS)):Prop:=∀ a b,a<b->b<K.length->cT (K.getD a []) (K.getD b [])<0
theorem HU{K:List (List fS)}(h:Fz K)(k:List fS):O5 K k:=by
 intro a b d e hk;rcases QA a b with c|c
 ·exact yQ _ _ _ (h a b c e) hk
 ·have:a=b:=by omega
  rw[this]; exact hk
theorem lF{c:Type}{l m:List c}{i k:Nat}{d:c}(hi:i<=l.length):(fB l i m).getD k d=if k<i then l.getD k d else if k<i+m.length then m.getD (k-i) d else l.getD (k-m.length) d:=by
 unfold fB;have f:(l.take i).length=i:=by rw[QM]; omega
 simp only[Qz];split
 ·rename_i b;rw[QP,Q0 (by omega),Q1,QJ b]
 ·split
  ·rename_i b g;rw[QP,QT (by omega),Q0 (by omega),f]
  ·rename_i b g;rw[QT (by rw[QO]; omega),QO,f,Rg];have e:i+(k-(i+m.length))=k-m.length:=by omega
   rw[e]
theorem jP{K:List (List fS)}{k:List fS}:nv K k=true↔fV K k<K.length/\K.getD (fV K k) []=k:=by
 unfold nv;rw[QK,Qy,Qy,oN]
theorem I7{K:List (List fS)}(h:Fz K){k:List fS}(hk:nv K k=false):Fz (fB K (fV K k) [k]):=by
 have o:=qA K k;have f:∀ j,fV K k<=j->j<K.length->cT k (K.getD j [])<0:=by
  intro j g d;have c:fV K k<K.length:=by omega
  have i:=K6 c;have l:¬cT (K.getD (fV K k) []) k=0:=by
   intro e;rw[oN]at e;rw[jP.2 ⟨c,e⟩]at hk;cases hk
  have p:cT k (K.getD (fV K k) [])<0:=(GY _ _).2 (by omega);rcases QA (fV K k) j with q|q
  ·exact yQ _ _ _ p (h _ _ q d)
  ·have:j=fV K k:=by omega
   rw[this]; exact p
 intro a b m n;rw[hO]at n;have n:b<K.length+1:=n;rw[lF o,lF o];have r:[k].length=1:=rfl;rw[r];have u:∀ j,[k].getD (j-fV K k) []=if j=fV K k then k else [k].getD (j-fV K k) []:=by
  intro j;split
  ·rename_i e; rw[e,Sz]; rfl
  ·rfl
 rcases QA b (fV K k)with g|g
 ·rw[QJ (by omega),QJ g];exact h a b m (by omega)
 ·rw[QC (show ¬b<fV K k by omega)];rcases QA b (fV K k+1)with d|d
  ·have s:b=fV K k:=by omega
   rw[QJ d,QJ (by omega),s,Sz];exact Nu (k:=k) (show a<fV K k by omega)
  ·rw[QC (show ¬b<fV K k+1 by omega)];rcases QA a (fV K k)with i|i
   ·rw[QJ i];exact h a (b-1) (by omega) (by omega)
   ·rw[QC (show ¬a<fV K k by omega)];rcases QA a (fV K k+1)with l|l
    ·have t:a=fV K k:=by omega
     rw[QJ l,t,Sz];exact f (b-1) (by omega) (by omega)
    ·rw[QC (show ¬a<fV K k+1 by omega)];exact h (a-1) (b-1) (by omega) (by omega)
structure wD(kf:Nat->List fS)(n:Nat)(s:List (List fS)×List (List Int)):Prop where
 len:s.1.length=s.2.length
 le:s.2.length<=n
 el:∀ b∈s.2,b≠[]/\b.length<=n/\∀ j∈b,0<=j/\j<(n:Int)
 ke:∀ e∈s.1,∃ j,j<n/\e=kf j
 hd:∀ j,j<s.2.length->kf ((s.2.getD j []).getD 0 0).toNat=s.1.getD j []
theorem wD.wk{c:Nat->List fS}{n:Nat}{s:List (List fS)×List (List Int)}(h:wD c n s):∀ b∈s.2,b≠[]/\b.length<=n+1/\∀ j∈b,0<=j/\j<((n+1:Nat):Int):=fun b d=>by
 obtain⟨e,i,f⟩:=h.el b d;exact⟨e,by omega,fun j g=>by have:=f j g; omega⟩
theorem wD.ins{g:Nat->List fS}{n:Nat}{s:List (List fS)×List (List Int)}(h:wD g n s){p:Nat}(l:p<=s.2.length):wD g (n+1) (fB s.1 p [g n],fB s.2 p [[(n:Int)]]):=by
 have m:=h.len;have o:=h.le;refine⟨by simp only[hO,m]; rfl,by simp only[hO]; show s.2.length+1<=n+1; omega,fun b c=>?_,fun e d=>?_,fun j f=>?_⟩
 ·rcases nW c with c|c
  ·exact h.wk b c
  ·rw[RH]at c;subst c;refine⟨by simp,by simp,fun j f=>?_⟩;rw[RH]at f;omega
 ·rcases nW d with d|d
  ·obtain⟨j,i,k⟩:=h.ke e d;exact⟨j,by omega,k⟩
  ·rw[RH]at d;exact⟨n,by omega,d⟩
 ·simp only[hO]at f;have f:j<s.2.length+1:=f;dsimp only;rw[lF l,lF (by omega:p<=s.1.length)];have q:[g n].length=1:=rfl;have r:[[(n:Int)]].length=1:=rfl;rw[q,r];split
  ·rename_i i;exact h.hd j (by omega)
  ·split
   ·rename_i i k;have:j=p:=by omega
    subst this;rw[Sz];rfl
   ·exact h.hd (j-1) (by omega)
theorem getD_set_ne{b:Type}{l:List b}{p j:Nat}{x d:b}(h:p≠j):(l.set p x).getD j d=l.getD j d:=by
 rw[Qz,Rm h,<-Qz]
theorem rJ{b:Type}{l:List b}{p:Nat}{x d:b}(h:p<l.length):(l.set p x).getD p d=x:=by
 rw[Qz,Ru h,SO]
theorem wD.app{g:Nat->List fS}{n:Nat}{s:List (List fS)×List (List Int)}(h:wD g n s){p:Nat}(i:p<s.2.length):wD g (n+1) (s.1,s.2.set p (s.2.getD p []++[(n:Int)])):=by
 have m:=h.len;have o:=h.le;have q:=fW ([]:List Int) i;obtain⟨k,l,r⟩:=h.el _ q;refine⟨by simp only[Sb]; exact m,by simp only[Sb]; omega,fun b d=>?_,fun e t=>?_,fun j c=>?_⟩
 ·rcases Td d with d|d
  ·exact h.wk b d
  ·subst d;refine⟨by simp,by rw[QO]; show _+1<=_; omega,fun j c=>?_⟩;rcases QZ.1 c with c|c
   ·have:=r j c; omega
   ·rw[RH]at c; omega
 ·obtain⟨j,k,l⟩:=h.ke e t;exact⟨j,by omega,l⟩
 ·simp only[Sb]at c;have f:=h.hd j c;dsimp only;rcases QA j p with u|u
  ·rw[getD_set_ne (by omega)]; exact f
  ·rcases QA p j with v|v
   ·rw[getD_set_ne (by omega)]; exact f
   ·have:j=p:=by omega
    subst this;rw[<-f,rJ i];congr 2;cases d:s.2.getD j []with
    | nil=>exact absurd d k
    | cons x y=>rfl
theorem mh(c:Nat->List fS):∀ n,wD c n (fr c n)
 | 0=>⟨rfl,Qu _,(fun b e=>by cases e),(fun b e=>by cases e),(fun j f=>by cases f)⟩
 | n+1=>by
  have d:=mh c n;have h:=d.len;have i:=qA (fr c n).1 (c n);unfold fr;dsimp only;split
  ·exact d.ins (Qu _)
  ·split
   ·rename_i k g;exact d.app (by have:=(jP.1 g).1; omega)
   ·exact d.ins (by omega)
theorem xP{c:Nat->List fS}{N:Nat}(h:∀ j,j<N->(c j).length≠0):∀ n,n<=N->Fz (fr c n).1
 | 0,_=>fun a b _ e=>by cases e
 | n+1,g=>by
  have d:=xP h n (by omega);unfold fr;dsimp only;rw[QC (h n (by omega))];split
  ·exact d
  ·rename_i f;exact I7 d (by simpa using f)
end Go.Proofs.YtbokoblnehgkaabGreat.Gx
