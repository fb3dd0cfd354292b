/-
  Numbers and fractions: the plain laws, the contracts of bignat and of the reference.
-/
import Derived.Test.YtbokoblnehgkaabGreatA0
import GoSem.Claim
import Derived.Test.YtbokoblnehgkaabGreatRows
import Derived.WalkKit
import Derived.WalkSpells
import Derived.ProofKit
import Derived.OpenShut
import Derived.Below
import Derived.Outline
import Derived.Laws.BitsAllLaws
import Derived.Lib.Hide
import Derived.Lib.SlBytesConst
import Derived.Laws.IdiomStrings
import Derived.Laws.AppendOwnNone
import Derived.Laws.CopyOwn
import Derived.Deep.QuietTactic
import Derived.BigQuiet
import Derived.BigRegion
import Derived.Deep.RegionWith
import Derived.Test.YtbokoblnehgkaabGreatShelf
import Derived.Lib.ItoaNum
import Derived.WalkSmall
import Derived.StillTailTactics
import Derived.Deep.LoopGhost
import Derived.Deep.RegionHeld3
set_option linter.unusedVariables false
set_option linter.unusedSimpArgs false
set_option maxHeartbeats 4000000
set_option maxRecDepth 100000
set_option linter.defProp false
namespace Go.Proofs.YtbokoblnehgkaabGreat
def Qt:=@Go.Lib.hid
def Rq:=@Go.cell_later
def RY:=@Go.below_drewN
def Tc:=@Go.World.frozen?_setCells
def Tj:=@Go.World.cell?_setCells_out
def Un:=@Go.info_parts
def VN:=@Go.run_callFunc_extern
def Xb:=@Go.run_storeCells_cells
end Go.Proofs.YtbokoblnehgkaabGreat
namespace Go.Proofs.YtbokoblnehgkaabGreat.Nt
def N:List Int->Int
 | []=>0
 | d::l=>d+4294967296*N l
def Ds(l:List Int):Prop:=∀ d∈l,0<=d/\d<4294967296
def Canon(l:List Int):Prop:=Ds l/\l.getLast?≠some 0
theorem Ds.nil:Ds []:=by intro d h; cases h
theorem Ds.cons{d:Int}{l:List Int}(h:0<=d/\d<4294967296)(b:Ds l):Ds (d::l):=by
 intro x a;rcases Qv.1 a with rfl|a
 ·exact h
 ·exact b x a
theorem Ds.head{d:Int}{l:List Int}(h:Ds (d::l)):0<=d/\d<4294967296:=h d (by simp)
theorem Ds.tail{d:Int}{l:List Int}(h:Ds (d::l)):Ds l:=fun x a=>h x (by simp[a])
theorem Ds.app{l m:List Int}(h:Ds l)(b:Ds m):Ds (l++m):=by
 intro x c;rcases QZ.1 c with a|a
 ·exact h x a
 ·exact b x a
theorem Ds.take{l:List Int}(h:Ds l)(n:Nat):Ds (l.take n):=fun x a=>h x (RB a)
theorem Ds.drop{l:List Int}(h:Ds l)(n:Nat):Ds (l.drop n):=fun x a=>h x (Rh a)
theorem Ds.at{l:List Int}(h:Ds l)(i:Nat):0<=l[i]?.getD 0/\l[i]?.getD 0<4294967296:=by
 rcases QA i l.length with a|a
 ·rw[Qr a]; exact h _ (Tf a)
 ·rw[QD a]; simp
theorem Ds.set{l:List Int}(h:Ds l)(i:Nat){x:Int}(b:0<=x/\x<4294967296):Ds (l.set i x):=by
 intro d c;rcases Td c with a|a
 ·exact h d a
 ·subst a; exact b
theorem Ds.Ii(n:Nat):Ds (List.replicate n 0):=by
 intro d a;have:=RW a;subst this; omega
theorem eQ{l:List Int}(h:Ds l):0<=N l:=by
 induction l with
 | nil=>simp[N]
 | cons d l a=>have:=a h.tail; have:=h.head; rw[N]; omega
theorem sL(n:Nat):N (List.replicate n 0)=0:=by
 induction n with
 | zero=>rfl
 | succ n a=>rw[SE,N,a]; rfl
theorem yc(l:List Int)(n:Nat):N (l++List.replicate n 0)=N l:=by
 induction l with
 | nil=>simpa [N]using sL n
 | cons d l a=>rw[Uk,N,N,a]
def Bp:Nat->Int
 | 0=>1
 | n+1=>4294967296*Bp n
theorem fK(n:Nat):1<=Bp n:=by
 induction n with
 | zero=>decide
 | succ n a=>rw[Bp]; omega
theorem re(m n:Nat):Bp (m+n)=Bp m*Bp n:=by
 induction m with
 | zero=>simp[Bp]
 | succ m a=>rw[show m+1+n=(m+n)+1 by omega,Bp,Bp,a,RL]
theorem iw{m n:Nat}(h:m<=n):Bp m<=Bp n:=by
 obtain⟨k,rfl⟩:=Nat.exists_eq_add_of_le h;rw[re];have b:=fK m;have a:=fK k;have:=QU a (show 0<=Bp m by omega);omega
theorem jA{l:List Int}(h:Ds l):N l<Bp l.length:=by
 induction l with
 | nil=>simp[N,Bp]
 | cons d l a =>
  have b:=a h.tail
  have c:=h.head
  rw[N,Rr,Bp]
  omega
theorem ts(l m:List Int):N (l++m)=N l+Bp l.length*N m:=by
 induction l with
 | nil=>simp[N,Bp]
 | cons d l a=>rw[Uk,N,N,a,Rr,Bp,SC,RL,Int.add_assoc]
theorem Canon.nil:Canon []:=⟨Ds.nil,by simp⟩
theorem Canon.tail{d:Int}{l:List Int}(h:Canon (d::l)):Canon l:=by
 refine⟨h.1.tail,?_⟩;intro e;apply h.2;rw[W6,e];rfl
theorem Canon.pos{l:List Int}(h:Canon l)(a:l≠[]):0<N l:=by
 induction l with
 | nil=>exact absurd rfl a
 | cons d l b =>
  rw[N]
  have c:=h.1.head
  rcases l with _|⟨e,l⟩
  ·have:d≠0:=by intro e; subst e; exact h.2 rfl
   simp[N]; omega
  ·have:=b h.tail (by simp);omega
theorem Canon.zero{l:List Int}(h:Canon l):N l=0↔l=[]:=by
 constructor
 ·intro e;rcases l with _|⟨d,l⟩
  ·rfl
  ·have:=h.pos (by simp); omega
 ·rintro rfl; rfl
theorem Canon.inj{l m:List Int}(a:Canon l)(b:Canon m)(e:N l=N m):l=m:=by
 induction l generalizing m with
 | nil=>exact((b.zero).1 e.symm).symm
 | cons d l f =>
  rcases m with _|⟨c,m⟩
  ·exact(a.zero).1 e
  ·rw[N,N]at e;have i:=a.1.head;have j:=b.1.head;have g:N l=N m:=by omega
   have h:d=c:=by omega
   rw[h,f a.tail b.tail g]
theorem Canon.lower{l:List Int}(h:Canon l)(n:Nat)(a:l.length=n+1):Bp n<=N l:=by
 induction l generalizing n with
 | nil=>simp at a
 | cons d l b =>
  have c:=h.1.head
  rcases l with _|⟨e,l⟩
  ·have:=h.pos (by simp);obtain rfl:n=0:=by simpa using a.symm
   simp[Bp]; omega
  ·rcases n with _|n
   ·simp at a
   ·have:=b h.tail n (by simpa using a);rw[N,Bp]; omega
theorem Canon.len{l:List Int}(h:Canon l)(n:Nat)(b:N l<Bp n):l.length<=n:=by
 rcases QA n l.length with a|a
 ·exfalso;have c:=h.lower (l.length-1) (by omega);have:=iw (m:=n) (n:=l.length-1) (by omega);omega
 ·exact a
theorem drop_cons{l:List Int}{k:Nat}(h:k<l.length):l.drop k=l[k]?.getD 0::l.drop (k+1):=by
 rw[R0 h]; simp[h]
theorem iK{l:List Int}{k:Nat}(h:k<l.length):N (l.drop k)=l[k]?.getD 0+4294967296*N (l.drop (k+1)):=by
 rw[drop_cons h,N]
theorem kz{l:List Int}{k:Nat}(h:k<l.length):l.take (k+1)=l.take k++[l[k]?.getD 0]:=by
 rw[TH h]; simp[h]
theorem trimmed{l:List Int}(k:Nat)(hk:k<=l.length)(b:∀ i,k<=i->i<l.length->l[i]?.getD 0=0):N (l.take k)=N l:=by
 have e:l=l.take k++List.replicate (l.length-k) 0:=by
  apply Um
  ·simp; omega
  ·intro i a c;by_cases hi:i<k
   ·rw[Wz (by simp; omega)]; simp
   ·rw[List.getElem_append_right (by simp; omega)];have:=b i (by omega) a;simp[a]at this;simp[this]
 conv=>rhs; rw[e,yc]
theorem mD{l:List Int}(h:Ds l)(k:Nat)(hk:k<=l.length)(c:k=0∨l[k-1]?.getD 0≠0):Canon (l.take k):=by
 refine⟨h.take k,?_⟩;rcases Sc k with a|a
 ·subst a; simp
 ·rw[Ws];have e:(l.take k).length-1=k-1:=by simp; omega
  rw[e,Uu (by omega)];intro d;rcases c with b|b
  ·omega
  ·apply b; rw[d]; rfl
def fJ(m n:Int):Int:=if m<n then -1 else if m=n then 0 else 1
theorem fA(l:List Int)(i:Nat)(h:i<=l.length):N l=N (l.take i)+Bp i*N (l.drop i):=by
 have:=ts (l.take i) (l.drop i);rw[Q6]at this;rw[this];simp[Rv h]
theorem mu{l m:List Int}(a:Ds l)(b:Ds m)(i:Nat)(h1:i<=l.length)(h2:i<=m.length)(h:N (l.drop i)<N (m.drop i)):N l<N m:=by
 rw[fA l i h1,fA m i h2];have c:=jA (a.take i);have f:=eQ (b.take i);have d:(l.take i).length=i:=by simp; omega
 rw[d]at c;have e:=QU (show N (l.drop i)+1<=N (m.drop i) by omega) (show 0<=Bp i by have:=fK i; omega);rw[SC,S3]at e;omega
theorem oY{l m:List Int}(a:Canon l)(b:Canon m)(h:l.length<m.length):N l<N m:=by
 have c:=jA a.1;have d:=b.lower (m.length-1) (by omega);have e:=iw (m:=l.length) (n:=m.length-1) (by omega);omega
def iq(n:Int):Nat:=if n=0 then 0 else n.toNat.log2+1
theorem Df{n:Int}{b:Nat}(h0:0<n)(h1:(2:Int) ^ b<=n)(h2:n<2 ^ (b+1)):iq n=b+1:=by
 unfold iq;rw[QC (by omega)];congr 1;obtain⟨m,rfl⟩:=QV (show 0<=n by omega);rw[QH];have a:2 ^ b<=m:=by exact_mod_cast h1
 have c:m<2 ^ (b+1):=by exact_mod_cast h2
 exact(Nat.log2_eq_iff (by omega)).2 ⟨a,c⟩
theorem qX{n:Int}(h0:0<n):(2:Int) ^ (iq n-1)<=n/\n<2 ^ (iq n)/\1<=iq n:=by
 unfold iq;rw[QC (by omega)];obtain⟨m,rfl⟩:=QV (show 0<=n by omega);rw[QH];refine⟨?_,?_,by omega⟩
 ·have:=Nat.log2_self_le (n:=m) (by omega);rw[VL];exact_mod_cast this
 ·have:=Nat.lt_log2_self (n:=m);exact_mod_cast this
theorem oZ(n:Nat):Bp n=2 ^ (32*n):=by
 induction n with
 | zero=>rfl
 | succ n a=>rw[Bp,a,show 32*(n+1)=32*n+32 by omega,TK,RO]; rfl
theorem ka{a b:Nat}(h:a<=b):(2:Int) ^ a<=2 ^ b:=by
 have:=WU (n:=2) (by omega) h;exact_mod_cast this
theorem two_pos(a:Nat):(1:Int)<=2 ^ a:=by simpa using ka (QE a)
theorem CX{n:Int}(h0:0<=n)(c:Nat)(h:n<2 ^ c):iq n<=c:=by
 rcases Int.le_iff_lt_or_eq.1 h0 with a|a
 ·have s:=qX a;rcases QA c (iq n)with b|b
  ·exfalso;have:=ka (show c<=iq n-1 by omega);omega
  ·exact b
 ·subst a; simp[iq]
end Go.Proofs.YtbokoblnehgkaabGreat.Nt
namespace Go.Proofs.YtbokoblnehgkaabGreat.B
open Go.ChangeShapes Go.WideShapes Go.ChangeAt Go.RowKit
theorem Cw{k:IntKind}{a b:Int}(h:a=b):Ending.returned (.int k a)=.returned (.int k b):=by rw[h]
def Row(k:IntKind)(w:World)(v:Value)(l:List Int):Prop :=
 ∃(a:Option Addr) (cap:Nat),v=.slice a l.length cap/\l.length<=cap/\cap<=maxLen/\(a=none->cap=0)/\(∀ n∈l,(Lit.int k n).wf=true) /\
  (l≠[]->∃ b off,a=some ⟨b,off,none⟩/\∀ i,i<l.length->w.cell? ⟨b,off+i,none⟩=some (.int k (l.getD i 0)))
def DG(k:IntKind)(w:World)(a:Option Addr)(len cap:Nat)(b:List Int):Prop :=
 (a=none/\len=0/\cap=0/\b=[]) ∨
 ∃ x,a=some x/\len<=cap/\cap<=maxLen/\b.length=cap/\(∀ i,i<b.length->w.cell? (x.add i)=some (.int k (b.getD i 0)))/\∀ n∈b,(Lit.int k n).wf=true
theorem getD_take(l:List Int)(n i:Nat)(h:i<n):(l.take n).getD i 0=l.getD i 0:=by
 simp[Qz,h]
theorem Row.of{k:IntKind}{w:World}{a:Option Addr}{len cap:Nat}{g:List Int}(h:DG k w a len cap g):Row k w (.slice a len cap) (g.take len):=by
 rcases h with⟨rfl,rfl,rfl,rfl⟩|⟨x,rfl,r,o,s,c,j⟩
 ·exact⟨none,0,rfl,by simp,by simp,by simp,by simp,by simp⟩
 ·have d:(g.take len).length=len:=by simp; omega
  refine⟨some x,cap,by rw[d],by omega,o,by simp,fun n p=>j n (RB p),fun l=>?_⟩;obtain⟨b,off,f⟩:=x;have m:0<len:=by
   rcases Sc len with h|h
   ·subst h; simp at l
   ·exact h
  have q:=c 0 (by omega);have e:f=none:=by simpa [Addr.add]using World.cell?_spot q
  subst e;refine⟨b,off,rfl,fun i hi=>?_⟩;rw[d]at hi;have:=c i (by omega);rw[getD_take _ _ _ hi];rw[<-this];congr 1;unfold Addr.add;split<;>simp_all
theorem Row.lt{k:IntKind}{w:World}{b off:Nat}{v:Int}{i:Nat}(h:w.cell? ⟨b,off+i,none⟩=some (.int k v)):b<w.heap.size:=by
 unfold World.cell? at h;rcases QA b w.heap.size with a|a
 ·exact a
 ·simp[Sj a]at h
theorem Row.keep{k:IntKind}{w w':World}{v:Value}{l:List Int}(h:Row k w v l)(e:Below w.heap.size w w'):Row k w' v l:=by
 obtain⟨a,cap,rfl,f,g,j,m,n⟩:=h;refine⟨a,cap,rfl,f,g,j,m,fun c=>?_⟩;obtain⟨b,off,rfl,d⟩:=n c;refine⟨b,off,rfl,fun i hi=>?_⟩;rw[e.cell (p:=⟨b,off+i,none⟩) (Row.lt (d i hi))];exact d i hi
theorem Row.new{k:IntKind}(w:World)(l:List Int)(t:TypeId)(a:Nat×Nat)(C:Array Value)(n:Nat)(b:C=(l.map (Value.int k)).toArray)(c:n=l.length)
    (d:l.length<=maxLen) (e:∀ n∈l,(Lit.int k n).wf=true):Row k (w.alloc (.cells C t a)) (.slice (some ⟨w.heap.size,0,none⟩) n n) l:=by
 subst c b;refine⟨_,_,rfl,Qu _,d,by simp,e,fun _=>⟨_,_,rfl,fun i hi=>?_⟩⟩;rw[Q8,Ua];simp[hi]
theorem Row.nil(k:IntKind)(w:World):Row k w (.slice none 0 0) [] :=
 ⟨none,0,rfl,by simp,by simp,by simp,by simp,by simp⟩
theorem Row.rN{k:IntKind}{w:World}{base:Nat}{e:TypeId}{v:Value}{l:List Int}{n:Nat}(h:w.ownsRow base e 1 v n (l.map (Value.int k)))(c:∀ n∈l,(Lit.int k n).wf=true):Row k w v l:=by
 obtain⟨d,h⟩:=h;have f:n=l.length:=by simpa using d.symm
 subst f;rcases h with⟨rfl,j⟩|⟨g,cap,a,rfl,_,m,o,p,s,q⟩
 ·have:l=[]:=by simpa using j
  subst this;exact Row.nil k w
 ·refine⟨_,cap,rfl,o,p,by simp,c,fun _=>⟨g,0,rfl,fun i hi=>?_⟩⟩;unfold World.cell?;rw[m];have r:i<a.size:=by omega
  have b:(a.toList.take (l.length*1))[i]?=(l.map (Value.int k))[i]?:=by rw[q]
  rw[Uu (by omega)]at b;simp[hi]at b;simp[hi,b]
theorem Qa{w:World}{base:Nat}{e:TypeId}{size:Nat}{v:Value}{n:Nat}{xs:List Value}(h:w.ownsRow base e size v n xs):∀ k,v.ownBlock=some k->base<=k:=by
 intro k hk;rcases h.2 with⟨rfl,_⟩|⟨g,cap,a,rfl,b,_⟩
 ·simp[Value.ownBlock]at hk
 ·simp[Value.ownBlock]at hk; omega
theorem Bj{P:Program}{w:World}{ops:Array Oper}{rest:List Oper}{o:Oper}{a:Act}{Q:Exit->Act->World->Prop}(q:o.guard=none)(s x:Operand)(t:TypeId)
    (G:o.op=.call { callee:=.builtin .append,args:=#[s,x],argTypes:=#[t,t] })
    (base:Nat) (e:TypeId) (k:IntKind) (i:TypeInfo) (z:Value) (bytes:Nat) (ht:P.underlying t=some (.slice e)) (hi:P.info? e=some i) (L:i.zero=some z)
    (g:i.size=1) (A:i.bytes=bytes) (B:z.cells.size=1)
    (v:Value) (n:Nat) (l:List Int) (H:a.eval s=v) (c:w.ownsRow base e 1 v n (l.map (Value.int k)))
    (u:Value) (m:List Int) (I:a.eval x=u) (r:Row k w u m)
    (C:l.length+m.length<=maxLen) (d:(l.length+m.length)*bytes<=140737488355328) (p:base<=w.heap.size)
    (h:∀ v' w',w'.ownsRow base e 1 v' (n+m.length) ((l++m).map (Value.int k))->w.grownBy w' v.ownBlock->wpList P ops Q rest (a.put o.dst v') w'):wpList P ops Q (o::rest) a w:=by
 obtain⟨M,cap,rfl,Y,Z,N,h3,J⟩:=r;have O:n=l.length:=by have:=c.1; simpa using this.symm
 subst O;rcases M with _|⟨b,off,R⟩
 ·have S:m=[]:=by
    rcases m with _|⟨y,ys⟩
    ·rfl
    ·obtain⟨_,_,D,_⟩:=J (by simp); cases D
  subst S;have E:=N rfl;subst E;exact wpList_append_own_none q s x t G base e i 1 ht hi v _ _ H c I (h v w (by simpa using c) ⟨rfl,rfl,rfl,Qu _,fun _ _ _=>rfl⟩)
 ·refine wpList_append_own w q s x t G base e i z 1 bytes ht hi L g A B (by decide) v _ _ H c ⟨b,off,R⟩ m.length cap (m.map (Value.int k)) I (by simp) ?_ ?_ C d p ?_
  ·intro j y F;have f:j<m.length:=by
    rcases QA j m.length with h|h
    ·exact h
    ·simp[h]at F
   obtain⟨b',K,D,T⟩:=J (by rintro rfl; simp at f);cases D;have:=T j f;simp[f]at F;subst F;have U:Addr.add ⟨b,off,none⟩ j=⟨b,off+j,none⟩:=by
    unfold Addr.add; split<;>simp_all
   rw[U,this];simp[f]
  ·intro y V;obtain⟨n,_,rfl⟩:=Rj.1 V;rfl
  ·intro v' w' W X _;refine h v' w' ?_ X;simpa using W
theorem abY(w:World)(e:TypeId)(k:IntKind):(w.alloc (.cells #[] e)).ownsRow w.heap.size e 1 (.slice (some ⟨w.heap.size,0,none⟩) 0 0) 0 (([]:List Int).map (Value.int k)):=by
 refine⟨rfl,.inr ⟨w.heap.size,0,#[],rfl,Qu _,?_,by simp,by simp,rfl,rfl⟩⟩;show(w.heap.push _)[w.heap.size]?=_;simp
theorem Row.len{k:IntKind}{w:World}{a:Option Addr}{n cap:Nat}{l:List Int}(h:Row k w (.slice a n cap) l):l.length=n:=by
 obtain⟨_,_,h,_⟩:=h; cases h; rfl
theorem Row.wf{k:IntKind}{w:World}{v:Value}{l:List Int}(h:Row k w v l):∀ n∈l,(Lit.int k n).wf=true:=by
 obtain⟨_,_,_,_,_,_,h,_⟩:=h; exact h
theorem Mt{w:World}{base:Nat}{e:TypeId}{size:Nat}{v:Value}{n:Nat}{xs:List Value}(h:w.ownsRow base e size v n xs)(c:0<n):∃ g cap,v=.slice (some ⟨g,0,none⟩) n cap/\base<=g:=by
 rcases h.2 with⟨rfl,d⟩|⟨g,cap,a,rfl,b,_⟩
 ·omega
 ·exact⟨g,cap,rfl,b⟩
theorem fM{w:World}{base:Nat}{e:TypeId}{k:IntKind}{g n cap:Nat}{l:List Int}(h:w.ownsRow base e 1 (.slice (some ⟨g,0,none⟩) n cap) n (l.map (Value.int k)))(j:Nat)(a:j<n) :
    w.cell? ⟨g,j,none⟩=some (.int k (l[j]?.getD 0))/\w.frozen? ⟨g,j,none⟩=false:=by
 refine⟨?_,h.frozenAt j⟩;have b:l.length=n:=by have:=h.1; simpa using this
 rw[h.cellAt j (by omega)];simp[show j<l.length by omega]
theorem eN{w:World}{base:Nat}{e:TypeId}{k:IntKind}{g n cap:Nat}{l:List Int}(h:w.ownsRow base e 1 (.slice (some ⟨g,0,none⟩) n cap) n (l.map (Value.int k)))(j:Nat)(x:Int) :
    (w.setCell ⟨g,j,none⟩ (.int k x)).ownsRow base e 1 (.slice (some ⟨g,0,none⟩) n cap) n ((l.set j x).map (Value.int k)):=by
 have:=(h.stored j (.int k x)).1;rwa [List.map_set]
theorem wf_u32{n:Int}(h:(Lit.int .u32 n).wf=true):0<=n/\n<4294967296:=by
 have:0<=n/\n<=4294967295:=by simpa [Lit.wf,IntKind.min,IntKind.max,IntKind.signed,IntKind.bits]using h
 omega
theorem wO{x:Int}(h:0<=x/\x<4294967296):(Lit.int .u32 x).wf=true:=by
 have:0<=x/\x<=4294967295:=by omega
 simpa [Lit.wf,IntKind.min,IntKind.max,IntKind.signed,IntKind.bits]using this
theorem JV{l:List Int}{i:Nat}(h:i<l.length):l.getD i 0∈l:=by
 rw[Qz,Qr h]; exact Tf h
theorem Row.parts{k:IntKind}{w:World}{v:Value}{l:List Int}(h:Row k w v l):∃ a cap,v=.slice a l.length cap/\l.length<=cap/\cap<=9223372036854775807 /\
    ∀ i,i<l.length->∃ b off,a=some ⟨b,off,none⟩/\w.cell? ⟨b,off+i,none⟩=some (.int k (l[i]?.getD 0))/\(Lit.int k (l[i]?.getD 0)).wf=true:=by
 obtain⟨a,cap,rfl,d,f,_,g,j⟩:=h;unfold maxLen at f;refine⟨a,cap,rfl,d,by omega,fun i hi=>?_⟩;obtain⟨b,off,rfl,m⟩:=j (by intro e; subst e; simp at hi);have:=m i hi;have c:=g _ (JV hi);rw[Qz]at this c;exact⟨b,off,rfl,this,c⟩
theorem Ex(k:IntKind)(n:Nat):(madeCells (Value.int k 0).cells (n*1)).toList=(List.replicate n (0:Int)).map (Value.int k):=by
 apply Um
 ·simp[madeCells]
 ·intro i a b;simp[madeCells,Value.cells,Nat.mod_one]
theorem ir{P:Program}{w:World}{ops:Array Oper}{rest:List Oper}{o:Oper}{a:Act}{Q:Exit->Act->World->Prop}(d:o.guard=none)(x y:Operand)(t:TypeId)
    (p:o.op=Op.makeSlice t x y) (base:Nat) (e:TypeId) (k:IntKind) (bytes:Nat) (ht:P.underlying t=some (.slice e))
    (c:(P.info? e).map (fun i=>(i.zero,i.size,i.bytes))=some (some (.int k 0),1,bytes))
    (X:Int) (n:Nat) (q:a.eval x=.int .i64 X) (r:a.eval y=.int .i64 X) (l:X=(n:Int)) (s:bytes*n<=281474976710656) (u:n<=maxLen) (b:base<=w.heap.size)
    (h:∀ w',w'.ownsRow base e 1 (.slice (some ⟨w.heap.size,0,none⟩) n n) n ((List.replicate n (0:Int)).map (Value.int k))->Below w.heap.size w w'->wpList P ops Q rest (a.put o.dst (.slice (some ⟨w.heap.size,0,none⟩) n n)) w'):wpList P ops Q (o::rest) a w:=by
 obtain⟨v,hi,f,g,j⟩:=Un c;refine wpList_make_full w d x y _ p base _ v _ 1 ht hi f g .i64 .i64 _ _ n q r l l (by rw[j]; exact s) u b ?_;intro w' m z;rw[Ex]at m;exact h w' m ((QG _ _).grown z (Qu _) (by simp))
theorem jF{P:Program}{w:World}{ops:Array Oper}{rest:List Oper}{o:Oper}{a:Act}{Q:Exit->Act->World->Prop}(g:o.guard=none)(s x:Operand)(t:TypeId)
    (y:o.op=.call { callee:=.builtin .append,args:=#[s,x],argTypes:=#[t,t] })
    (base:Nat) (e:TypeId) (k:IntKind) (bytes:Nat) (ht:P.underlying t=some (.slice e))
    (d:(P.info? e).map (fun i=>(i.zero,i.size,i.bytes))=some (some (.int k 0),1,bytes))
    (v:Value) (n:Nat) (l:List Int) (z:a.eval s=v) (c:w.ownsRow base e 1 v n (l.map (Value.int k)))
    (u:Value) (m:List Int) (A:a.eval x=u) (f:Row k w u m) (j:l.length+m.length<=maxLen) (B:(l.length+m.length)*bytes<=140737488355328) (b:base<=w.heap.size)
    (h:∀ v' w',w'.ownsRow base e 1 v' (n+m.length) ((l++m).map (Value.int k))->Below base w w'->wpList P ops Q rest (a.put o.dst v') w'):wpList P ops Q (o::rest) a w:=by
 obtain⟨C,hi,p,q,r⟩:=Un d;refine Bj g s x _ y base _ k C _ bytes ht hi p q r rfl v n l z c u m A f j B b ?_;intro v' w' D E;exact h v' w' D ((QG _ _).grown E b (Qa c))
theorem Row.upto{k:IntKind}{w:World}{a:Option Addr}{len cap:Nat}{l:List Int}(h:Row k w (.slice a len cap) l)(n:Nat)(r:n<=len):Row k w (.slice a n cap) (l.take n):=by
 have s:=h.len;obtain⟨t,e,f,u,g,j,m,o⟩:=h;cases f;have c:(l.take n).length=n:=by simp; omega
 refine⟨a,cap,by rw[c],by omega,g,j,fun x p=>m x (RB p),fun d=>?_⟩;obtain⟨b,off,rfl,q⟩:=o (by rintro rfl; simp at d);refine⟨b,off,rfl,fun i hi=>?_⟩;rw[c]at hi;rw[q i (by omega),getD_take _ _ _ hi]
theorem FA{P:Program}{w:World}{ops:Array Oper}{rest:List Oper}{o:Oper}{a:Act}{Q:Exit->Act->World->Prop}(D:o.guard=none)(d s:Operand)(t:TypeId)
    (L:o.op=.call { callee:=.builtin .copy,args:=#[d,s],argTypes:=#[t,t] })
    (base:Nat) (e:TypeId) (k:IntKind) (bytes:Nat) (ht:P.underlying t=some (.slice e))
    (f:(P.info? e).map (fun i=>(i.zero,i.size,i.bytes))=some (some (.int k 0),1,bytes))
    (g n cap:Nat) (l:List Int) (M:a.eval d=.slice (some ⟨g,0,none⟩) n cap) (p:w.ownsRow base e 1 (.slice (some ⟨g,0,none⟩) n cap) n (l.map (Value.int k)))
    (u:Value) (m:List Int) (N:a.eval s=u) (q:Row k w u m) (B:m.length=n)
    (h:∀ w',w'.ownsRow base e 1 (.slice (some ⟨g,0,none⟩) n cap) n (m.map (Value.int k))->Below base w w'->wpList P ops Q rest (a.put o.dst (goInt n)) w'):wpList P ops Q (o::rest) a w:=by
 obtain⟨i0,hi,O,E,R⟩:=Un f;obtain⟨S,sc,rfl,h1,h2,h0,h3,T⟩:=q;rcases p.2 with⟨C,_⟩|⟨g',K,r,C,z,U,F,G,H,V⟩
 ·cases C
 ·simp only[TM,Q7,TP,SK,R_]at C;obtain⟨rfl,rfl⟩:=C;have W:r.toList.length=cap:=by simpa using H
  refine wpList_copy_splice D d s t t L e ht (by rw[hi]; simp[E]) (some ⟨g,0,none⟩) S n cap m.length sc M N g 0 r.toList e (by simpa using U) (m.map (Value.int k)) (by simp[B]) ?_ (by simp; omega) ?_ base w (QG _ _) z ?_
  ·intro A;obtain⟨b,off,rfl,X⟩:=T (by rintro rfl; simp at A);refine⟨rfl,_,rfl,fun j v I=>?_⟩;have c:j<m.length:=by
    rcases QA j m.length with h|h
    ·exact h
    ·simp[h]at I
   simp[c]at I;subst I;have Y:Addr.add ⟨b,off,none⟩ j=⟨b,off+j,none⟩:=by
    unfold Addr.add; split<;>simp_all
   rw[Y,X j c];simp[c]
  ·intro y Z;obtain⟨x,_,rfl⟩:=Rj.1 Z;rfl
  ·intro w' hw hb;have J:(m.map (Value.int k)).length=n:=by simp[B]
   rw[show goInt (m.map (Value.int k)).length=goInt n by rw[J]];refine h w' ⟨by simp[B],.inr ⟨g,cap,_,rfl,z,hw.out,F,G,?_,?_⟩⟩ hb
   ·simp[splice]; omega
   ·simp[splice,B]
def iG(t:TypeId)(base:Nat)(w:World)(v:Value):Prop :=
 ∀ b off d n c,v=.slice (some ⟨b,off,d⟩) n c->base<=b/\∃ a,w.heap[b]?=some (.cells a t (0,0))
theorem iG.nil(t:TypeId)(base:Nat)(w:World):iG t base w (.slice none 0 0):=by intro b off a n c h; cases h
theorem oo{w:World}{base:Nat}{e:TypeId}{size:Nat}{v:Value}{n:Nat}{xs:List Value}(h:w.ownsRow base e size v n xs):iG e base w v:=by
 intro b off j m c a;rcases h.2 with⟨rfl,_⟩|⟨g,cap,d,rfl,f,i,_⟩
 ·cases a
 ·simp only[TM,Q7,TP]at a;obtain⟨⟨rfl,rfl,rfl⟩,rfl,rfl⟩:=a;exact⟨f,d,i⟩
theorem iG.cut{t:TypeId}{base:Nat}{w:World}{a:Option Addr}{n c m d:Nat}(h:iG t base w (.slice a n c)):iG t base w (.slice a m d):=by
 intro b off f g i e;simp only[TM]at e;obtain⟨rfl,rfl,rfl⟩:=e;exact h b off f n c rfl
theorem b9{w:World}{b:Nat}{o:Obj}(h:w.heap[b]?=some o):b<w.heap.size:=by
 rcases QA b w.heap.size with a|a
 ·exact a
 ·rw[Sj a]at h; cases h
theorem iG.keep{t:TypeId}{base:Nat}{w w':World}{v:Value}(h:iG t base w v)(e:Below w.heap.size w w'):iG t base w' v:=by
 intro b off f n c g;obtain⟨i,a,d⟩:=h b off f n c g;exact⟨i,a,by rw[e.block b (b9 d)]; exact d⟩
theorem iG.mono{t:TypeId}{base base':Nat}{w:World}{v:Value}(h:iG t base w v)(f:base'<=base):iG t base' w v:=by
 intro b off a n c d;obtain⟨g,e⟩:=h b off a n c d;exact⟨by omega,e⟩
def jk(g:Nat)(w w':World):Prop:=w.grownBy w' (some g)
theorem jk.refl(g:Nat)(w:World):jk g w w:=⟨rfl,rfl,rfl,Qu _,fun _ _ _=>rfl⟩
theorem jk.trans{g:Nat}{a b c:World}(h:jk g a b)(k:jk g b c):jk g a c :=
 ⟨k.os.trans h.os,k.tape.trans h.tape,k.output.trans h.output,QL h.size k.size,fun i hi d=>(k.block i (QI hi h.size) d).trans (h.block i hi d)⟩
theorem jk.set{g:Nat}{a w:World}(h:jk g a w)(j:Nat)(u:Value):jk g a (w.setCell ⟨g,j,none⟩ u) :=
 h.trans ⟨rfl,rfl,rfl,by simp,fun k hk b=>Vw w _ u k (fun e=>b (by subst e; rfl))⟩
theorem jk.below{g base:Nat}{w w':World}(h:jk g w w')(h1:base<=w.heap.size)(h2:base<=g):Below base w w' :=
 (QG _ _).grown h h1 (fun k hk=>by cases hk; exact h2)
theorem jk.c8{g:Nat}{w w':World}(h:Below w.heap.size w w'):jk g w w':=⟨h.os,h.tape,h.output,h.size,fun k hk _=>h.block k hk⟩
theorem jv{base:Nat}{e:TypeId}{size:Nat}{g n cap:Nat}{xs:List Value}{w w':World}(h:w.ownsRow base e size (.slice (some ⟨g,0,none⟩) n cap) n xs)(d:w'.heap[g]?=w.heap[g]?) :
    w'.ownsRow base e size (.slice (some ⟨g,0,none⟩) n cap) n xs:=by
 refine⟨h.1,?_⟩;rcases h.2 with⟨a,_⟩|⟨f,b,c,a,i,j,k⟩
 ·cases a
 ·refine .inr ⟨f,b,c,a,i,?_,k⟩;simp only[TM,Q7,TP]at a;obtain⟨⟨rfl,_⟩,_⟩:=a;rw[d]; exact j
theorem rv{base:Nat}{e:TypeId}{size:Nat}{g n cap:Nat}{xs:List Value}{w:World}(h:w.ownsRow base e size (.slice (some ⟨g,0,none⟩) n cap) n xs):g<w.heap.size/\base<=g:=by
 rcases h.2 with⟨a,_⟩|⟨i,b,d,a,f,c,j⟩
 ·cases a
 ·simp only[TM,Q7,TP]at a;obtain⟨⟨rfl,_⟩,_⟩:=a;refine⟨?_,f⟩;rcases QA g w.heap.size with h|h
  ·exact h
  ·rw[Sj h]at c; cases c
theorem BN{w:World}{base:Nat}{e:TypeId}{k:IntKind}{g n cap:Nat}{l:List Int}(h:w.ownsRow base e 1 (.slice (some ⟨g,0,none⟩) n cap) n (l.map (Value.int k)))(b:∀ n∈l,(Lit.int k n).wf=true)
    (j m c:Nat) (o:j+m<=n) (p:m<=c) (d:c<=maxLen):Row k w (.slice (some ⟨g,j,none⟩) m c) ((l.drop j).take m):=by
 have q:l.length=n:=by have:=h.1; simpa using this
 have a:((l.drop j).take m).length=m:=by simp; omega
 refine⟨_,c,by rw[a],by omega,d,by simp,fun x f=>b x (Rh (RB f)),fun _=>⟨g,j,rfl,fun i hi=>?_⟩⟩;rw[a]at hi;rw[h.cellAt (j+i) (by omega)];simp[show j+i<l.length by omega,hi]
theorem Row.of_heap{k:IntKind}{w w':World}{v:Value}{l:List Int}(h:Row k w v l)(e:∀ b off sp n c,v=.slice (some ⟨b,off,sp⟩) n c->w'.heap[b]?=w.heap[b]?):Row k w' v l:=by
 obtain⟨a,cap,rfl,f,g,j,m,o⟩:=h;refine⟨a,cap,rfl,f,g,j,m,fun d=>?_⟩;obtain⟨b,off,rfl,p⟩:=o d;refine⟨b,off,rfl,fun i hi=>?_⟩;rw[<-p i hi];exact World.cell?_of_block (e b off none _ _ rfl)
end Go.Proofs.YtbokoblnehgkaabGreat.B
namespace Go.Proofs.YtbokoblnehgkaabGreat.Nt
open Go.ChangeShapes Go.WideShapes Go.ChangeAt Go.RowKit B
theorem gH:(Tryz.prog.info? 73).map (fun i=>(i.zero,i.size,i.bytes))=some (some (.int .u32 0),1,4):=by kernel_rfl
theorem Row.ds{w:World}{v:Value}{l:List Int}(h:Row .u32 w v l):Ds l:=fun d a=>wf_u32 (h.wf d a)
def ki(w:World)(v:Value)(c:Nat)(n:Int):Prop:=∃ l,Row .u32 w v l/\l.length<=c/\N l=n
def eS(base:Nat)(w:World)(v:Value)(n:Int):Prop:=∃ l,Row .u32 w v l/\Canon l/\N l=n/\iG 73 base w v
def oD(base:Nat)(w:World)(n:Int)(e:Ending)(w':World):Prop:=∃ v,e=.returned v/\eS base w' v n/\Below base w w'
theorem ki.keep{w w':World}{v:Value}{c:Nat}{n:Int}(h:ki w v c n)(a:Below w.heap.size w w'):ki w' v c n:=by
 obtain⟨l,b,d,e⟩:=h;exact⟨l,b.keep a,d,e⟩
theorem ki.ik{w:World}{v:Value}{c:Nat}{n:Int}(h:ki w v c n):0<=n:=by
 obtain⟨l,a,b,rfl⟩:=h;exact eQ (Row.ds a)
theorem ki.lt{w:World}{v:Value}{c:Nat}{n:Int}(h:ki w v c n):n<Bp c:=by
 obtain⟨l,a,b,rfl⟩:=h;have:=jA (Row.ds a);have:=iw b;omega
theorem eS.num{base:Nat}{w:World}{v:Value}{n:Int}(h:eS base w v n)(c:Nat)(a:n<Bp c):ki w v c n:=by
 obtain⟨l,b,d,rfl,_⟩:=h;exact⟨l,b,d.len c a,rfl⟩
theorem eS.ik{base:Nat}{w:World}{v:Value}{n:Int}(h:eS base w v n):0<=n:=by
 obtain⟨l,b,a,rfl,_⟩:=h;exact eQ a.1
theorem eS.nil(base:Nat)(w:World):eS base w (.slice none 0 0) 0:=⟨[],Row.nil _ _,Canon.nil,rfl,iG.nil _ _ _⟩
def KH(v:Value)(l:List Int)(w:World)(e:Ending)(w':World):Prop :=
 ∃ a cap n,v=.slice a l.length cap/\n<=l.length/\e=.returned (.slice a n n)/\N (l.take n)=N l/\Canon (l.take n)/\w=w'
theorem Row.cut{w:World}{a:Option Addr}{len cap:Nat}{l:List Int}(h:Row .u32 w (.slice a len cap) l)(n:Nat)(p:n<=l.length):Row .u32 w (.slice a n n) (l.take n):=by
 have q:=h.len;obtain⟨r,c,e,s,t,g,j,k⟩:=h;cases e;have d:(l.take n).length=n:=by simp; omega
 refine⟨a,n,by rw[d],by omega,by omega,fun e=>by have:=g e; omega,fun x m=>j x (RB m),fun f=>?_⟩;obtain⟨b,off,rfl,o⟩:=k (by rintro rfl; simp at f);refine⟨b,off,rfl,fun i hi=>?_⟩;rw[d]at hi;rw[o i (by omega),getD_take _ _ _ hi]
theorem trim(v:Value)(l:List Int)(w:World)(h:Row .u32 w v l) :
    Calls Tryz.prog 91 #[v] w (KH v l w):=by
 have g:=Row.ds h;obtain⟨a,cap,rfl,u,x,o⟩:=Row.parts h;have c:a=none->cap=0:=by obtain⟨_,_,e,_,_,h,_⟩:=h; cases e; exact h
 clear h;have y:=Qt o;have p:=Qt g;have C:=Qt c;clear o g c;generalize q:l.length=len at *;have d:=Qt q;clear q;go_enter Tryz.func91,Tryz.ntmps91;go_wp2;go_loop [3] (fun t=>∃ k:Nat,k<=len/\t=.int .i64 k/\Hid (∀ i,k<=i->i<len->l[i]?.getD 0=0)) (fun t=>(intOf t).toNat)
 case atStart=>exact⟨len,Qu _,rfl,fun i z r=>by omega⟩
 case round =>
  obtain⟨k,hk,rfl,m⟩:=hrel
  rcases k with _|j
  ·have n:=Qt (And.intro (trimmed (l:=l) 0 (QE _) (by rw[d.out]; exact m.out)) (mD p.out 0 (QE _) (.inl rfl)));go_wp2;go_ret;exact⟨a,cap,0,by rw[d.out],QE _,rfl,n.out.1,n.out.2,rfl⟩
  ·obtain⟨b,off,rfl,f,s⟩:=y.out j (by omega);by_cases c:l[j]?.getD 0=0
   ·have A:Hid (∀ i,j<=i->i<len->l[i]?.getD 0=0):=fun i z r=>by
      by_cases e:i=j
      ·subst e; exact c
      ·exact m.out i (by omega) r
    rw[c]at f;clear c s m;go_wp2;refine⟨⟨j,by omega,by go_num,A⟩,by simp[intOf]⟩
   ·have n:=Qt (And.intro (trimmed (l:=l) (j+1) (by rw[d.out]; exact hk) (by rw[d.out]; exact m.out)) (mD p.out (j+1) (by rw[d.out]; exact hk) (.inr c)));have B:((l[j]?.getD 0) == 0)=false:=by rw[RS]; exact c
    clear c s m;go_wp2;go_ret;exact⟨some ⟨b,off,none⟩,cap,j+1,by rw[d.out],by rw[d.out]; exact hk,rfl,n.out.1,n.out.2,rfl⟩
def abR(w:World)(v:Value)(l:List Int)(e:Ending)(w':World):Prop :=
 ∃ b a,e=.returned b/\Row .u32 w b a/\N a=N l/\Canon a/\a.length<=l.length/\(∀ base,iG 73 base w v->iG 73 base w b)/\w=w'
theorem ly(v:Value)(l:List Int)(w:World)(h:Row .u32 w v l):Calls Tryz.prog 91 #[v] w (abR w v l):=by
 refine(trim v l w h).mono ?_;rintro e i ⟨a,cap,n,rfl,b,rfl,c,d,f⟩;exact⟨_,_,rfl,Row.cut h n b,c,d,by simp; omega,fun base g=>g.cut,f⟩
def abO(base:Nat)(w:World)(n:Int)(e:Ending)(w':World):Prop:=∃ a,e=.returned a/\eS base w a n/\w=w'
theorem rW{base:Nat}{w:World}{v:Value}{m:Nat}{l:List Int}(h:w.ownsRow base 73 1 v m (l.map (Value.int .u32)))(a:Ds l) :
    Calls Tryz.prog 91 #[v] w (abO base w (N l)):=by
 refine(ly v l w (Row.rN h (fun n b=>wO (a n b)))).mono ?_;rintro e k ⟨c,d,rfl,f,g,i,_,j,rfl⟩;exact⟨c,rfl,⟨d,f,i,g,j base (oo h)⟩,rfl⟩
theorem abc(w:World)(x y:Int):(w.alloc (.cells #[.int .u32 x,.int .u32 y] 73)).ownsRow w.heap.size 73 1 (.slice (some ⟨w.heap.size,0,none⟩) 2 2) 2 (([x,y]:List Int).map (Value.int .u32)):=by
 refine⟨rfl,.inr ⟨w.heap.size,2,#[.int .u32 x,.int .u32 y],rfl,Qu _,?_,by simp,by simp[maxLen],rfl,rfl⟩⟩;show(w.heap.push _)[w.heap.size]?=_;simp
theorem mJ(n:Int)(w:World)(h0:0<=n)(h1:n<18446744073709551616) :
    Calls Tryz.prog 93 #[.int .u64 n] w (oD w.heap.size w n):=by
 have a:N [n % 4294967296,n / 4294967296]=n:=by simp[N]; omega
 have b:Ds [n % 4294967296,n / 4294967296]:=Ds.cons (by omega) (Ds.cons (by omega) Ds.nil);have d:=Qt a;have f:=Qt b;clear a b;go_enter Tryz.func93,Tryz.ntmps93;go_wp2_with fail;refine(rW (abc w _ _) f.out).mono ?_;rintro e h ⟨g,rfl,c,rfl⟩;go_wp2_with fail;go_ret;rw[d.out]at c;exact⟨g,rfl,c,(QG _ _).alloc (Qu _) _⟩
theorem normalize(v:Value)(c:Nat)(n:Int)(w:World)(h:ki w v c n)(z:c<=4294967296) :
    Calls Tryz.prog 112 #[v] w (oD w.heap.size w n):=by
 obtain⟨l,m,A,rfl⟩:=h;have p:=Qt m;clear m;go_enter Tryz.func112,Tryz.ntmps112;go_wp2_with fail;refine(ly v l w p.out).mono ?_;rintro e B ⟨C,i,rfl,b,q,r,s,_,rfl⟩;obtain⟨a,cap,rfl,_⟩:=Row.parts b;have d:=Qt b;have u:=Qt q;have x:=Qt r;clear b q r p;generalize t:i.length=n at *;have y:=Qt t;clear t;go_wp2_with (first
  | (at_make; refine ir rfl (.tmp 7) (.tmp 7) 33 rfl w.heap.size 73 .u32 4 Tryz.underlying33 gH _ n rfl rfl rfl (by omega) (by unfold maxLen; omega) (Qu _) ?_; intro D j f)
  | (refine FA (o:=⟨some 11,_,_,_,_,_⟩) rfl (.tmp 9) (.tmp 10) 33 rfl w.heap.size 73 .u32 4 Tryz.underlying33 gH _ n n _ rfl j _ i rfl (d.out.keep f) y.out ?_; intro E g k))
 go_ret;exact⟨_,rfl,⟨i,Row.rN g d.out.wf,x.out,u.out,oo g⟩,f.trans k⟩
theorem wS(x y:Int)(a:0<=x/\x<4294967296)(c:0<=y/\y<4294967296):bits .or .u64 (x*4294967296) y=x*4294967296+y:=by
 obtain⟨m,rfl⟩:=QV a.1;obtain⟨n,rfl⟩:=QV c.1;have e:((m:Int)*4294967296)=((m*4294967296:Nat):Int):=by omega
 rw[e,u64_or_nat _ _ (by omega) (by omega)];have:=T5 (i:=32) (b:=n) (by omega) m;rw[Vj]at this;rw[show m*4294967296=m*2 ^ 32 by rfl,<-this];omega
def xo(n:Int):Value:=if n<18446744073709551616 then .tuple #[.int .u64 n,.bool true]else .tuple #[.int .u64 0,.bool false]
theorem uint64(v:Value)(c:Nat)(n:Int)(w:World)(h:ki w v c n) :
    Calls Tryz.prog 132 #[v] w fun e w'=>e=.returned (xo n)/\Below w.heap.size w w':=by
 obtain⟨l,u,E,rfl⟩:=h;have A:=Qt u;clear u;go_enter Tryz.func132,Tryz.ntmps132;go_wp2_with fail;refine(ly v l w A.out).mono ?_;rintro e w' ⟨Q,m,rfl,g,B,q,i,_,rfl⟩;clear A E i;have p:=Qt B;have j:=q.1;obtain⟨a,cap,rfl,k,o,d⟩:=Row.parts g;have r:=Qt d;have F:=Qt q;have s:=Qt j;clear g d q j B;rcases m with _|⟨x,_|⟨y,_|⟨z,m⟩⟩⟩
 ·go_wp2;go_ret2;exact⟨by rw[<-p.out]; simp[xo,N],QG _ _⟩
 ·obtain⟨b,off,rfl,t,_⟩:=r.out 0 (by simp);have C:=s.out.head;simp only[Vk,SO,Se,Rr,Tn,Q8]at t k o ⊢;go_wp2;go_ret2;exact⟨by rw[<-p.out]; simp[xo,N]; omega,QG _ _⟩
 ·obtain⟨b,off,rfl,t,_⟩:=r.out 0 (by simp);obtain⟨R,D,e,G,_⟩:=r.out 1 (by simp);simp only[Q7,TP,SK]at e;obtain⟨rfl,rfl⟩:=e;have C:=s.out.head;have H:=s.out.tail.head;simp only[Vk,Vi,SO,Se,Rr,Tn,Q8,Nat.reduceAdd]at t G k o ⊢;have I:=Qt (wS y x H C);go_wp2;go_quiet (fail);go_wp2;go_ret2;refine⟨?_,RY (QG _ _) _⟩;show Ending.returned (.tuple #[.int .u64 (bits .or .u64 (y*4294967296) x),.bool true])=_;have e:N [x,y]=y*4294967296+x:=by simp[N]; omega
  rw[I.out,xo,<-p.out,e,QJ (by omega)]
 ·have J:((List.length (x::y::z::m):Int) == 0)=false/\((List.length (x::y::z::m):Int) == 1)=false/\((List.length (x::y::z::m):Int) == 2)=false:=by
    simp only[RS,Rr]; omega
  have f:¬N (x::y::z::m)<18446744073709551616:=by
   have:=F.out.lower (m.length+2) (by simp);rw[Bp,Bp]at this;have:=fK m.length;omega
  have K:=Qt f;clear f;obtain⟨L,M,O⟩:=J;generalize P:(x::y::z::m).length=len at *;clear P;go_wp2;go_ret2;exact⟨by rw[<-p.out,xo,QC (by have:=K.out; omega)]; rfl,QG _ _⟩
theorem mr(x:Int)(h0:0<x)(h1:x<4294967296):1<=Lib.bitLen x.toNat/\Lib.bitLen x.toNat<=32/\(2:Int) ^ (Lib.bitLen x.toNat-1)<=x/\x<2 ^ Lib.bitLen x.toNat:=by
 obtain⟨m,rfl⟩:=QV (show 0<=x by omega);rw[QH];have:=Lib.bitLenAux_bounds 64 m (by omega) (by omega);refine⟨this.1,Lib.bitLen_le m 32 (by decide) (by omega),?_,?_⟩
 ·have h:=this.2.1; unfold Lib.bitLen; exact_mod_cast h
 ·have h:=this.2.2; unfold Lib.bitLen; exact_mod_cast h
theorem nL{m:List Int}(h:Canon m)(j:Nat)(k:m.length=j+1):iq (N m)=32*j+Lib.bitLen (m[j]?.getD 0).toNat/\0<m[j]?.getD 0:=by
 have b:=h.1;have e:=fA m j (by omega);have l:N (m.drop j)=m[j]?.getD 0:=by
  rw[iK (by omega),Q3 (by omega)]; simp[N]
 have c:=b.at j;have a:0<m[j]?.getD 0:=by
  have d:=h.2;rw[Ws,k,VL]at d;rcases f:m[j]? with _|q
  ·rw[Wt]at f; omega
  ·rw[f]at d c;simp at d c ⊢;omega
 refine⟨?_,a⟩;have t:=mr _ a c.2;generalize Lib.bitLen (m[j]?.getD 0).toNat=g at *;obtain⟨s,rfl⟩:∃ s,g=s+1:=⟨g-1,by omega⟩;have w:=eQ (b.take j);have n:=jA (b.take j);have o:(m.take j).length=j:=by simp; omega
 rw[o]at n;rw[l]at e;generalize m[j]?.getD 0=x at *;generalize N (m.take j)=y at *;have i:=oZ j;have p:=fK j;rw[VL]at t;have z:=QU t.2.2.1 (show 0<=Bp j by omega);have r:=QU (show x+1<=2 ^ (s+1) by omega) (show 0<=Bp j by omega);have u:(2:Int) ^ (32*j+s)=Bp j*2 ^ s:=by rw[TK,i]
 have v:(2:Int) ^ (32*j+s+1)=Bp j*2 ^ (s+1):=by rw[RF,TK,i]
 rw[SC,S3]at r;have q:=two_pos s;have A:=QU q (show 0<=Bp j by omega);rw[<-RF];exact Df (by omega) (by rw[u]; omega) (by rw[v]; omega)
theorem bitLen(v:Value)(c:Nat)(n:Int)(w:World)(h:ki w v c n)(J:c<=4294967296) :
    Calls Tryz.prog 79 #[v] w fun e w'=>e=.returned (.int .i64 (iq n:Int))/\w=w':=by
 obtain⟨l,p,K,rfl⟩:=h;have q:=Qt p;clear p;go_enter Tryz.func79,Tryz.ntmps79;go_wp2_with fail;refine(ly v l w q.out).mono ?_;rintro e w' ⟨L,m,rfl,g,r,s,u,_,rfl⟩;clear q;have y:=Qt r;obtain⟨a,cap,rfl,A,B,d⟩:=Row.parts g;have C:=Qt d;have D:=Qt s;clear g d s r;rcases k:m.length with _|j
 ·have o:m=[]:=RA k;subst o;go_wp2_with fail;go_ret;exact⟨by rw[<-y.out]; rfl,rfl⟩
 ·obtain⟨b,off,rfl,M,z⟩:=C.out j (by omega);have E:=wf_u32 z;have f:=nL D.out j k;have F:=Qt f.1;have G:=mr _ f.2 E.2;generalize m[j]?.getD 0=x at *;have N:(((j+1:Nat):Int) == 0)=false:=by rw[RS]; omega
  have i:0<=x/\x<=4294967295:=by omega
  have O:j<=4294967296:=by omega
  clear f k z;go_wp2_with fail;refine(Tryz.bits_Len32 x w i.1 i.2).mono ?_;rintro e w' ⟨rfl,rfl⟩;generalize Lib.bitLen x.toNat=t at *;obtain⟨H,I,_,_⟩:=G;go_wp2_with fail;go_ret;exact⟨Cw (by rw[<-y.out,F.out]; omega),rfl⟩
theorem jK{m n:Int}{x:Int}(h:fJ m n=x):Ending.returned (.int .i64 x)=.returned (.int .i64 (fJ m n)):=by rw[h]
theorem cmp(G H:Value)(c:Nat)(x y:Int)(w:World)(ha:ki w G c x)(m:ki w H c y)(hc:c<=4294967296) :
    Calls Tryz.prog 58 #[G,H] w fun e w'=>e=.returned (.int .i64 (fJ x y))/\Below w.heap.size w w':=by
 obtain⟨q,v,aa,rfl⟩:=ha;obtain⟨r,z,ab,rfl⟩:=m;have L:=Qt v;have M:=Qt z;clear v z;go_enter Tryz.func58,Tryz.ntmps58;go_wp2_with fail;refine(ly G q w L.out).mono ?_;rintro e w' ⟨v1,d,rfl,O,P,Q,L1,_,rfl⟩;go_wp2_with fail;refine(ly H r w M.out).mono ?_;rintro e w' ⟨v2,b,rfl,R,S,U,L2,_,rfl⟩;clear L M;have g:=Qt (And.intro P S);have n:=Qt (And.intro Q U);obtain⟨a1,p1,rfl,g1,m1,V⟩:=Row.parts O;obtain⟨a2,p2,rfl,g2,m2,W⟩:=Row.parts R;have H1:=Qt V;have H2:=Qt W;clear O R V W P S Q U;by_cases A:d.length<b.length
 ·have B:((d.length:Int) != (b.length:Int))=true:=by rw[U2]; omega
  have a:fJ (N q) (N r) = -1:=by
   have:=oY n.out.1 n.out.2 A;rw[<-g.out.1,<-g.out.2,fJ,QJ this]
  have i:=Qt a;clear a;go_wp2_with fail;go_ret;exact⟨jK i.out,QG _ _⟩
 by_cases C:b.length<d.length
 ·have B:((d.length:Int) != (b.length:Int))=true:=by rw[U2]; omega
  have a:fJ (N q) (N r)=1:=by
   have:=oY n.out.2 n.out.1 C;rw[<-g.out.1,<-g.out.2,fJ,QC (by omega),QC (by omega)]
  have i:=Qt a;clear a;go_wp2_with fail;go_ret;exact⟨jK i.out,QG _ _⟩
 have B:((d.length:Int) != (b.length:Int))=false:=by
  have:(d.length:Int)=b.length:=by omega
  rw[this]; simp
 generalize D:d.length=I at *;generalize E:b.length=n2 at *;obtain rfl:I=n2:=by omega
 have o:=Qt (And.intro D E);clear D E A C;go_wp2_with fail;go_loopw [5] (fun t wr=>∃ k:Nat,k<=I/\t=.int .i64 ((k:Int)-1)/\Hid (N (d.drop k)=N (b.drop k))/\Below w.heap.size w wr) (fun t _=>(intOf t+1).toNat)
 case atStart=>exact⟨I,Qu _,rfl,by rw[Q3 (by rw[o.out.1]; exact Qu _),Q3 (by rw[o.out.2]; exact Qu _)]; rfl,QG _ _⟩
 case round =>
  obtain⟨k,hk,rfl,J,m⟩:=hrel
  rcases k with _|j
  ·have a:fJ (N q) (N r)=0:=by
     have h:=J.out;simp only[RP]at h;rw[<-g.out.1,<-g.out.2,fJ,QC (by omega),QJ h]
   have i:=Qt a;clear a;go_wp2;go_ret;exact⟨jK i.out,m⟩
  ·obtain⟨b1,o1,rfl,s,X⟩:=H1.out j (by omega);obtain⟨b2,o2,rfl,u,Y⟩:=H2.out j (by omega);have s:=Rq m s;have u:=Rq m u;have K:=iK (l:=d) (k:=j) (by rw[o.out.1]; omega);have Z:=iK (l:=b) (k:=j) (by rw[o.out.2]; omega);rw[J.out]at K;generalize N (b.drop (j+1))=T at *;have p:=Qt (And.intro K Z);have x1:=wf_u32 X;have x2:=wf_u32 Y;clear K Z J X Y;generalize d[j]?.getD 0=x at *;generalize b[j]?.getD 0=y at *;by_cases ac:x<y
   ·have a:fJ (N q) (N r) = -1:=by
      have:=mu n.out.1.1 n.out.2.1 j (by rw[o.out.1]; omega) (by rw[o.out.2]; omega) (by rw[p.out.1,p.out.2]; omega);rw[<-g.out.1,<-g.out.2,fJ,QJ this]
    have i:=Qt a;clear a;go_wp2;go_quiet (fail);go_wp2;go_ret;exact⟨jK i.out,RY m _⟩
   by_cases ad:y<x
   ·have a:fJ (N q) (N r)=1:=by
      have:=mu n.out.2.1 n.out.1.1 j (by rw[o.out.2]; omega) (by rw[o.out.1]; omega) (by rw[p.out.1,p.out.2]; omega);rw[<-g.out.1,<-g.out.2,fJ,QC (by omega),QC (by omega)]
    have i:=Qt a;clear a;go_wp2;go_quiet (fail);have f:=RY m nq;have s:=Rq (RY (QG _ wr) nq) s;have u:=Rq (RY (QG _ wr) nq) u;generalize wr.drewN nq=F at *;go_wp2;go_quiet (fail);go_wp2;go_ret;exact⟨jK i.out,RY f _⟩
   ·have hE:Hid (N (d.drop j)=N (b.drop j)):=by
      show _=_;rw[p.out.1,p.out.2]; omega
    clear p;go_wp2;go_quiet (fail);have f:=RY m nq;have s:=Rq (RY (QG _ wr) nq) s;have u:=Rq (RY (QG _ wr) nq) u;generalize wr.drewN nq=F at *;go_wp2;go_quiet (fail);have f:=RY f nq;generalize F.drewN nq=ae at *;go_wp2;refine⟨⟨j,by omega,by go_num,hE,f⟩,by simp[intOf]⟩
end Go.Proofs.YtbokoblnehgkaabGreat.Nt
namespace Go.Proofs.YtbokoblnehgkaabGreat.Nt
def mulL(x:Int):List Int->List Int->Int->List Int
 | [],_,_=>[]
 | _::a,[],c=>c::a
 | w::a,y::b,c=>((x*y+w+c) % 4294967296)::mulL x a b ((x*y+w+c) / 4294967296)
theorem Kl(x:Int)(a ys:List Int)(c:Int):(mulL x a ys c).length=a.length:=by
 induction a generalizing ys c with
 | nil=>rfl
 | cons w a b=>rcases ys with _|⟨y,ys⟩<;>simp[mulL,b]
theorem EX(x:Int)(a ys:List Int)(c:Int):(mulL x a ys c).drop (ys.length+1)=a.drop (ys.length+1):=by
 induction a generalizing ys c with
 | nil=>rfl
 | cons w a b =>
  rcases ys with _|⟨y,ys⟩
  ·simp[mulL]
  ·simp[mulL]; exact b ys _
theorem qS{x y:Int}(f:0<=x/\x<4294967296)(e:0<=y/\y<4294967296):0<=x*y/\x*y<=18446744065119617025:=by
 have g:=Ss f.1 e.1;have h:=Int.mul_le_mul (a:=x) (b:=y) (c:=4294967295) (d:=4294967295) (by omega) (by omega) e.1 (by omega);omega
theorem Pq(x:Int)(a ys:List Int)(c:Int)(h:ys.length<a.length)(b:a[ys.length]?.getD 0=0):N (mulL x a ys c)=N a+x*N ys+c:=by
 induction a generalizing ys c with
 | nil=>simp at h
 | cons w a d =>
  rcases ys with _|⟨y,ys⟩
  ·simp at b;subst b;simp[mulL,N];omega
  ·show(x*y+w+c) % 4294967296+4294967296*N (mulL x a ys ((x*y+w+c) / 4294967296))=w+4294967296*N a+x*(y+4294967296*N ys)+c;rw[d ys _ (by simpa using h) (by simpa using b),SC x y,Sf x];omega
theorem Cp{x:Int}(e:0<=x/\x<4294967296)(a ys:List Int)(c:Int)(b:Ds a)(d:Ds ys)(f:0<=c/\c<4294967296):Ds (mulL x a ys c):=by
 induction a generalizing ys c with
 | nil=>exact Ds.nil
 | cons w a g =>
  rcases ys with _|⟨y,ys⟩
  ·exact Ds.cons f b.tail
  ·have h:=qS e d.head;have i:=b.head;exact Ds.cons (by omega) (g ys _ b.tail d.tail (by omega))
theorem vN(x:Int)(r y:List Int)(i j:Nat)(c:Int)(h1:i+j<r.length)(h2:j<y.length) :
    mulL x (r.drop (i+j)) (y.drop j) c=((x*y[j]?.getD 0+r[i+j]?.getD 0+c) % 4294967296)::mulL x (r.drop (i+(j+1))) (y.drop (j+1)) ((x*y[j]?.getD 0+r[i+j]?.getD 0+c) / 4294967296):=by
 rw[drop_cons h1,drop_cons h2,mulL,RF]
theorem wb(x:Int)(r y:List Int)(i:Nat)(c:Int)(h1:i+y.length<r.length) :
    mulL x (r.drop (i+y.length)) (y.drop y.length) c=c::r.drop (i+y.length+1):=by
 rw[drop_cons h1,TY,mulL]
theorem gY{p r:List Int}{k:Nat}(a:p.length=k)(hk:k<r.length)(x:Int):(p++r.drop k).set k x=(p++[x])++r.drop (k+1):=by
 rw[Ub _ _ (by omega),a,Sz,drop_cons hk,VK,QP]; rfl
theorem lO{p r:List Int}{k:Nat}(a:p.length=k)(hk:k<r.length):(p++r.drop k)[k]?.getD 0=r[k]?.getD 0:=by
 rw[QT (by omega),a,Sz,drop_cons hk]; simp
theorem DE(r x y:List Int)(i:Nat)(hi:i<x.length)(h:r.length=x.length+y.length)(b:r.drop (i+y.length)=List.replicate (x.length-i) 0)(d:N r=N (x.take i)*N y) :
    N (r.take i++mulL (x[i]?.getD 0) (r.drop i) y 0)=N (x.take (i+1))*N y/\(r.take i++mulL (x[i]?.getD 0) (r.drop i) y 0).length=x.length+y.length /\
    (r.take i++mulL (x[i]?.getD 0) (r.drop i) y 0).drop (i+1+y.length)=List.replicate (x.length-(i+1)) 0:=by
 have c:(r.take i).length=i:=by simp; omega
 have f:(r.drop i)[y.length]?.getD 0=0:=by
  have:=Sr (fun l=>l[0]?.getD (0:Int)) b;simp only[Rg]at this ⊢;rw[Se]at this;rw[this];simp[show 0<x.length-i by omega]
 refine⟨?_,?_,?_⟩
 ·rw[ts,c,Pq _ _ _ _ (by simp; omega) f,kz hi,ts];have e:=fA r i (by omega);rw[d]at e;have a:(x.take i).length=i:=by simp; omega
  rw[a];simp only[N,TL,UU];rw[SC,<-Int.add_assoc,<-e,T6,RL]
 ·simp[Kl]; omega
 ·rw[SW,Q3 (by omega),c,RX,show i+1+y.length-i=y.length+1 by omega,EX,RT,show i+(y.length+1)=(i+y.length)+1 by omega,<-RT,b];obtain⟨m,g⟩:∃ m,x.length-i=m+1:=⟨x.length-i-1,by omega⟩;rw[g,show x.length-(i+1)=m by omega,SE]; rfl
theorem yl{s:Nat}(a:s<32):(2:Int) ^ s*2 ^ (32-s)=4294967296:=by
 rw[<-TK,show s+(32-s)=32 by omega]; rfl
theorem ni{s:Nat}(a:s<32):(1:Int)<=2 ^ s/\(2:Int) ^ s<=2147483648:=by
 refine⟨two_pos s,?_⟩;have:=ka (show s<=31 by omega);simpa using this
theorem sQ{s:Nat}(a:s<32):(2:Int)<=2 ^ (32-s)/\(2:Int) ^ (32-s)<=4294967296:=by
 refine⟨?_,?_⟩
 ·have:=ka (show 1<=32-s by omega);simpa using this
 ·have:=ka (show 32-s<=32 by omega);simpa using this
theorem pR{P:Int}(d R:Int)(h:0<P):d*P % (R*P)=d % R*P:=by
 rw[RO d P,RO R P,Int.mul_emod_mul_of_pos _ _ h,RO]
theorem Cx{s:Nat}(a:s<32)(d:Int):d*2 ^ s % 4294967296=(d % 2 ^ (32-s))*2 ^ s:=by
 rw[<-yl a,RO (2 ^ s),pR];exact Tz (by decide) (two_pos s)
theorem Mr{s:Nat}(a:s<32)(d:Int):d*2 ^ s / 4294967296=d / 2 ^ (32-s):=by
 rw[<-yl a,RO (2 ^ s),Wf];exact Tz (by decide) (two_pos s)
theorem yg{s:Nat}(e:s<32)(d c:Int)(f:0<=c/\c<2 ^ s):bits .or .u32 (d*2 ^ s % 4294967296) c=d*2 ^ s % 4294967296+c:=by
 rw[Cx e];have q:=ni e;have r:=sQ e;have g:0<=d % 2 ^ (32-s):=Si _ (by omega);have h:d % 2 ^ (32-s)<2 ^ (32-s):=RD _ (by omega);have k:(2:Int) ^ s=((2 ^ s:Nat):Int):=by simp
 have l:(2:Int) ^ (32-s)=((2 ^ (32-s):Nat):Int):=by simp
 generalize d % 2 ^ (32-s)=m at *;obtain⟨a,rfl⟩:=QV g;obtain⟨b,rfl⟩:=QV f.1;rw[k]at f ⊢;rw[l]at h;have n:a*2 ^ s<4294967296:=by
  have:a*2 ^ s<2 ^ (32-s)*2 ^ s:=Nat.mul_lt_mul_of_pos_right (by omega) (by have:=Nat.two_pow_pos s; omega);have o:2 ^ s*2 ^ (32-s)=4294967296:=by rw[<-Nat.pow_add,show s+(32-s)=32 by omega]
  rw[Nat.mul_comm]at o;omega
 have p:((a:Int)*((2 ^ s:Nat):Int))=((a*2 ^ s:Nat):Int):=(S' a (2 ^ s)).symm;rw[p,u32_or_nat _ _ n (by omega)];have:=T5 (i:=s) (b:=b) (by omega) a;rw[Vj]at this;rw[<-this];omega
def sb(P:Int):List Int->Int->List Int
 | [],_=>[]
 | d::a,c=>(d*P % 4294967296+c)::sb P a (d*P / 4294967296)
def rn(P:Int):List Int->Int->Int
 | [],c=>c
 | d::a,_=>rn P a (d*P / 4294967296)
theorem PE(P:Int)(a:List Int)(c:Int):N (sb P a c)+Bp a.length*rn P a c=N a*P+c:=by
 induction a generalizing c with
 | nil=>simp[sb,rn,N,Bp]
 | cons d a b =>
  show d*P % 4294967296+c+4294967296*N (sb P a (d*P / 4294967296))+4294967296*Bp a.length*rn P a (d*P / 4294967296)=(d+4294967296*N a)*P+c
  have:=b (d*P / 4294967296)
  rw[T6,RL,RL]
  omega
theorem vR{s:Nat}(a:s<32)(d c:Int)(b:0<=d/\d<4294967296)(g:0<=c/\c<2 ^ s) :
    (0<=d*2 ^ s % 4294967296+c/\d*2 ^ s % 4294967296+c<4294967296)/\0<=d*2 ^ s / 4294967296/\d*2 ^ s / 4294967296<2 ^ s:=by
 have h:=ni a;have i:=sQ a;have e:0<=d % 2 ^ (32-s):=Si _ (by omega);have k:d % 2 ^ (32-s)<2 ^ (32-s):=RD _ (by omega);refine⟨?_,?_,?_⟩
 ·rw[Cx a];generalize d % 2 ^ (32-s)=m at *;have l:=Ss e (show 0<=(2:Int) ^ s by omega);have f:=R' (show m+1<=2 ^ (32-s) by omega) (show 0<=(2:Int) ^ s by omega);rw[RO (2 ^ (32-s)),yl a,T6,Tt]at f;omega
 ·exact Sn (Ss b.1 (by omega)) (by decide)
 ·apply Vx (by decide);have:=Ue b.2 (show 0<(2:Int) ^ s by omega);rw[RO (2 ^ s)];exact this
theorem Nc{s:Nat}(f:s<32)(a:List Int)(c:Int)(b:Ds a)(e:0<=c/\c<2 ^ s):Ds (sb (2 ^ s) a c)/\0<=rn (2 ^ s) a c/\rn (2 ^ s) a c<2 ^ s:=by
 induction a generalizing c with
 | nil=>exact⟨Ds.nil,e⟩
 | cons d a g =>
  have h:=vR f d c b.head e
  have i:=g (d*2 ^ s / 4294967296) b.tail h.2
  exact⟨Ds.cons h.1 i.1,i.2⟩
theorem Em(P:Int)(x:List Int)(k:Nat)(c:Int)(h:k<x.length) :
    sb P (x.drop k) c=(x[k]?.getD 0*P % 4294967296+c)::sb P (x.drop (k+1)) (x[k]?.getD 0*P / 4294967296)/\rn P (x.drop k) c=rn P (x.drop (k+1)) (x[k]?.getD 0*P / 4294967296):=by
 rw[drop_cons h,sb,rn];exact⟨rfl,rfl⟩
def oC(P R:Int):List Int->List Int
 | []=>[]
 | [d]=>[d / P]
 | d::e::a=>(d / P+(e*R) % 4294967296)::oC P R (e::a)
theorem aaN{s:Nat}(c:s<32)(a:List Int):N (oC (2 ^ s) (2 ^ (32-s)) a)=N a / 2 ^ s:=by
 have g:=ni c;have h:=sQ c;have b:=yl c
 induction a with
 | nil=>simp[oC,N]
 | cons d a f =>
  rcases a with _|⟨e,a⟩
  ·simp[oC,N]
  ·show d / 2 ^ s+(e*2 ^ (32-s)) % 4294967296+4294967296*N (oC (2 ^ s) (2 ^ (32-s)) (e::a))=(d+4294967296*N (e::a)) / 2 ^ s;rw[f];have em:e*2 ^ (32-s) % 4294967296=(N (e::a) % 2 ^ s)*2 ^ (32-s):=by
    conv=>lhs; rw[<-b]
    rw[pR _ _ (show(0:Int)<2 ^ (32-s) by omega)];congr 1;show e % 2 ^ s=(e+4294967296*N a) % 2 ^ s;rw[<-b,RL,U7]
   rw[em];generalize N (e::a)=M;have k:(d+4294967296*M) / 2 ^ s=d / 2 ^ s+2 ^ (32-s)*M:=by
    rw[<-b,RL,Uc _ _ (by omega)]
   have q:=UH M (2 ^ s);rw[k];generalize M / 2 ^ s=A at *;generalize M % 2 ^ s=C at *;have:(2:Int) ^ (32-s)*M=4294967296*A+C*2 ^ (32-s):=by
    rw[<-q,SC,<-RL,RO (2 ^ (32-s)) (2 ^ s),b,RO _ C]
   rw[this];omega
def rF(f:Int):List Int->List Int->Int->Int->List Int
 | [],_,_,_=>[]
 | w::a,[],c,b=>((w-c-b) % 4294967296)::a
 | w::a,v::d,c,b=>((w-(f*v+c) % 4294967296-b) % 4294967296)::rF f a d ((f*v+c) / 4294967296) (-((w-(f*v+c) % 4294967296-b) / 4294967296))
def Bq(f:Int):List Int->List Int->Int->Int->Int
 | [],_,_,_=>0
 | w::_,[],c,b => -((w-c-b) / 4294967296)
 | w::a,v::d,c,b=>Bq f a d ((f*v+c) / 4294967296) (-((w-(f*v+c) % 4294967296-b) / 4294967296))
theorem MF(f:Int)(a vs:List Int)(c b:Int):(rF f a vs c b).length=a.length:=by
 induction a generalizing vs c b with
 | nil=>rfl
 | cons w a d=>rcases vs with _|⟨v,vs⟩<;>simp[rF,d]
theorem Ho(f:Int)(a vs:List Int)(c b:Int):(rF f a vs c b).drop (vs.length+1)=a.drop (vs.length+1):=by
 induction a generalizing vs c b with
 | nil=>rfl
 | cons w a d =>
  rcases vs with _|⟨v,vs⟩
  ·simp[rF]
  ·simp[rF]; exact d vs _ _
theorem wP(f:Int)(a vs:List Int)(c b:Int)(d:Ds a):Ds (rF f a vs c b):=by
 induction a generalizing vs c b with
 | nil=>exact Ds.nil
 | cons w a e =>
  rcases vs with _|⟨v,vs⟩
  ·exact Ds.cons (by omega) d.tail
  ·exact Ds.cons (by omega) (e vs _ _ d.tail)
theorem Oi(f:Int)(a vs:List Int)(c b:Int)(h:vs.length<a.length):N (rF f a vs c b)=N a-f*N vs-c-b+Bp (vs.length+1)*Bq f a vs c b:=by
 induction a generalizing vs c b with
 | nil=>simp at h
 | cons w a d =>
  rcases vs with _|⟨v,vs⟩
  ·simp[rF,Bq,N,Bp]; omega
  ·show(w-(f*v+c) % 4294967296-b) % 4294967296+4294967296*N (rF f a vs ((f*v+c) / 4294967296) (-((w-(f*v+c) % 4294967296-b) / 4294967296))) =
     w+4294967296*N a-f*(v+4294967296*N vs)-c-b+4294967296*Bp (vs.length+1)*Bq f a vs ((f*v+c) / 4294967296) (-((w-(f*v+c) % 4294967296-b) / 4294967296))
   rw[d vs _ _ (by simpa using h),SC f v,Sf f 4294967296,RL];omega
theorem ID(f:Int)(r y:List Int)(i j:Nat)(c b:Int)(h1:i+j<r.length)(h2:j<y.length) :
    rF f (r.drop (i+j)) (y.drop j) c b=((r[i+j]?.getD 0-(f*y[j]?.getD 0+c) % 4294967296-b) % 4294967296)::rF f (r.drop (i+(j+1))) (y.drop (j+1)) ((f*y[j]?.getD 0+c) / 4294967296) (-((r[i+j]?.getD 0-(f*y[j]?.getD 0+c) % 4294967296-b) / 4294967296)) /\
    Bq f (r.drop (i+j)) (y.drop j) c b=Bq f (r.drop (i+(j+1))) (y.drop (j+1)) ((f*y[j]?.getD 0+c) / 4294967296) (-((r[i+j]?.getD 0-(f*y[j]?.getD 0+c) % 4294967296-b) / 4294967296)):=by
 rw[drop_cons h1,drop_cons h2,rF,Bq,RF];exact⟨rfl,rfl⟩
theorem Ip(f:Int)(r y:List Int)(i:Nat)(c b:Int)(h1:i+y.length<r.length) :
    rF f (r.drop (i+y.length)) (y.drop y.length) c b=((r[i+y.length]?.getD 0-c-b) % 4294967296)::r.drop (i+y.length+1) /\
    Bq f (r.drop (i+y.length)) (y.drop y.length) c b = -((r[i+y.length]?.getD 0-c-b) / 4294967296):=by
 rw[drop_cons h1,TY,rF,Bq];exact⟨rfl,rfl⟩
def tW:List Int->List Int->Int->List Int
 | [],_,_=>[]
 | w::a,[],c=>((w+c) % 4294967296)::a
 | w::a,v::b,c=>((w+v+c) % 4294967296)::tW a b ((w+v+c) / 4294967296)
def abF:List Int->List Int->Int->Int
 | [],_,_=>0
 | w::_,[],c=>(w+c) / 4294967296
 | w::a,v::b,c=>abF a b ((w+v+c) / 4294967296)
theorem Me(a vs:List Int)(c:Int):(tW a vs c).length=a.length:=by
 induction a generalizing vs c with
 | nil=>rfl
 | cons w a b=>rcases vs with _|⟨v,vs⟩<;>simp[tW,b]
theorem Gm(a vs:List Int)(c:Int):(tW a vs c).drop (vs.length+1)=a.drop (vs.length+1):=by
 induction a generalizing vs c with
 | nil=>rfl
 | cons w a b =>
  rcases vs with _|⟨v,vs⟩
  ·simp[tW]
  ·simp[tW]; exact b vs _
theorem Ko(a vs:List Int)(c:Int)(b:Ds a):Ds (tW a vs c):=by
 induction a generalizing vs c with
 | nil=>exact Ds.nil
 | cons w a d =>
  rcases vs with _|⟨v,vs⟩
  ·exact Ds.cons (by omega) b.tail
  ·exact Ds.cons (by omega) (d vs _ b.tail)
theorem abS(a vs:List Int)(c:Int)(h:vs.length<a.length):N (tW a vs c)=N a+N vs+c-Bp (vs.length+1)*abF a vs c:=by
 induction a generalizing vs c with
 | nil=>simp at h
 | cons w a b =>
  rcases vs with _|⟨v,vs⟩
  ·simp[tW,abF,N,Bp]; omega
  ·show(w+v+c) % 4294967296+4294967296*N (tW a vs ((w+v+c) / 4294967296))=w+4294967296*N a+(v+4294967296*N vs)+c-4294967296*Bp (vs.length+1)*abF a vs ((w+v+c) / 4294967296);rw[b vs _ (by simpa using h),RL];omega
theorem OW(a vs:List Int)(c:Int)(b:Ds a)(d:Ds vs)(f:0<=c/\c<=1)(h:vs.length<a.length):abF a vs c=0∨abF a vs c=1:=by
 induction a generalizing vs c with
 | nil=>simp at h
 | cons w a e =>
  have g:=b.head
  rcases vs with _|⟨v,vs⟩
  ·show(w+c) / 4294967296=0∨(w+c) / 4294967296=1;omega
  ·have i:=d.head;exact e vs _ b.tail d.tail (by omega) (by simpa using h)
theorem J1(r y:List Int)(i j:Nat)(c:Int)(h1:i+j<r.length)(h2:j<y.length) :
    tW (r.drop (i+j)) (y.drop j) c=((r[i+j]?.getD 0+y[j]?.getD 0+c) % 4294967296)::tW (r.drop (i+(j+1))) (y.drop (j+1)) ((r[i+j]?.getD 0+y[j]?.getD 0+c) / 4294967296):=by
 rw[drop_cons h1,drop_cons h2,tW,RF]
theorem H_(r y:List Int)(i:Nat)(c:Int)(h1:i+y.length<r.length) :
    tW (r.drop (i+y.length)) (y.drop y.length) c=((r[i+y.length]?.getD 0+c) % 4294967296)::r.drop (i+y.length+1):=by
 rw[drop_cons h1,TY,tW]
theorem J7(L M:List Int)(j:Nat)(a:j<=L.length):N (L.take j++M)=N L+Bp j*(N M-N (L.drop j)):=by
 have e:=fA L j a;have b:(L.take j).length=j:=by simp; omega
 rw[ts,b,WV];omega
theorem yv(x m b:Int)(a:0<=x/\x<4294967296)(c:0<=m/\m<4294967296)(d:0<=b/\b<=1) :
    IntKind.u64.wrap (IntKind.u64.wrap (x-m)-b) % 4294967296=(x-m-b) % 4294967296/\IntKind.u64.wrap (IntKind.u64.wrap (x-m)-b) / 9223372036854775808 = -((x-m-b) / 4294967296):=by
 have e:∀ z:Int,IntKind.u64.wrap z=z % 18446744073709551616:=fun z=>by simp[IntKind.wrap,IntKind.bits,IntKind.signed]
 rw[e,e];omega
section
variable{M v1 v2 top u2 Vl Ul Wn Vn:Int}
theorem P'(n:1<=M)(d:Vl<M)(e:0<=Ul)(f:v2<4294967296)(c:0<=u2)
    (g:Wn=Ul+M*(u2+4294967296*top)) (i:Vn=Vl+M*(v2+4294967296*v1)) (h:Wn<Vn*4294967296):top<=v1*4294967296+4294967295:=by
 rcases Tg (v2+4294967296*v1) top with k|k
 ·exfalso;have a:=QU (show v2+4294967296*v1+1<=top by omega) (show 0<=M by omega);have b:=Ss (show 0<=M by omega) c;have l:M*(u2+4294967296*top)=M*u2+4294967296*(M*top):=by rw[SC,Sf]
  have m:(Vl+M*(v2+4294967296*v1))*4294967296=4294967296*Vl+4294967296*(M*(v2+4294967296*v1)):=by rw[RO,SC]
  rw[SC M _ 1,S3]at a;rw[g,i,l,m]at h;omega
 ·omega
theorem GK{q:Int}(o:1<=M)(b:0<=Vl)(c:Ul<M)(d:1<=v1)(e:0<=v2)(f:u2<4294967296)(g:0<=q)
    (i:Wn=Ul+M*(u2+4294967296*top)) (p:Vn=Vl+M*(v2+4294967296*v1)) (h:q*Vn<=Wn):q<=top / v1:=by
 rw[Vq (by omega)];rcases Tg top (q*v1)with a|a
 ·exfalso;have r:=QU (show 4294967296*v1<=v2+4294967296*v1 by omega) (show 0<=M by omega);have k:=QU (show M*(4294967296*v1)<=Vn by omega) g;have l:q*(M*(4294967296*v1))=4294967296*(M*(q*v1)):=by
   rw[Sf M,Sf q 4294967296,Sf q M]
  have m:=QU (show top+1<=q*v1 by omega) (show 0<=M by omega);have s:=QU (show u2<=4294967295 by omega) (show 0<=M by omega);have n:M*(u2+4294967296*top)=M*u2+4294967296*(M*top):=by rw[SC,Sf]
  rw[SC,S3]at m;rw[n]at i;rw[l]at k;omega
 ·exact a
theorem Nz{q g rest:Int}(o:1<=M)(b:0<=Vl)(f:Ul<M)(i:0<=g)(p:1<=Vn)
    (r:Wn=Ul+M*(u2+4294967296*top)) (k:Vn=Vl+M*(v2+4294967296*v1)) (h:q*Vn<=Wn) (c:Wn<Vn*4294967296) (ht:top=g*v1+rest)
    (a:4294967296<=g∨rest*4294967296+u2<g*v2):q<=g-1:=by
 rcases Tg (g-1) q with d|d
 ·exfalso;have s:=R' (show g<=q by omega) (show 0<=Vn by omega);rcases a with l|l
  ·have e:=R' (show 4294967296<=g by omega) (show 0<=Vn by omega);rw[RO Vn]at c;omega
  ·have m:g*(v2+4294967296*v1)=g*v2+4294967296*(g*v1):=by rw[SC,Sf]
   have e:u2+4294967296*top+1<=g*(v2+4294967296*v1):=by rw[m]; omega
   have n:=QU e (show 0<=M by omega);have t:=Ss i b;have u:g*Vn=g*Vl+M*(g*(v2+4294967296*v1)):=by rw[k,SC,Sf]
   rw[SC M _ 1,S3]at n;omega
 ·exact d
theorem Pb{q g rest:Int}(s:1<=M)(f:0<=Vl/\Vl<M)(i:0<=Ul)(c:0<=g/\g<4294967296)(k:1<=v1)(b:0<=v2/\v2<4294967296)(l:0<=u2)
    (t:Wn=Ul+M*(u2+4294967296*top)) (m:Vn=Vl+M*(v2+4294967296*v1)) (h:Wn<(q+1)*Vn) (ht:top=g*v1+rest)
    (a:4294967296<=rest∨g*v2<=rest*4294967296+u2):g<=q+1:=by
 have n:g*v2<=rest*4294967296+u2:=by
  rcases a with d|d
  ·have:=qS c b; omega
  ·exact d
 rcases Tg (q+1) g with e|e
 ·exfalso;have o:g*(v2+4294967296*v1)=g*v2+4294967296*(g*v1):=by rw[SC,Sf]
  have p:g*(v2+4294967296*v1)<=u2+4294967296*top:=by rw[o]; omega
  have u:=QU p (show 0<=M by omega);have v:g*Vn=g*Vl+M*(g*(v2+4294967296*v1)):=by rw[m,SC,Sf]
  have w:=QU (show Vl<=M by omega) c.1;have x:=R' (show g<=4294967295 by omega) (show 0<=M by omega);have y:=QU (show 4294967296<=v2+4294967296*v1 by omega) (show 0<=M by omega);have z:1<=Vn:=by omega
  have r:=R' (show q+1+1<=g by omega) (show 0<=Vn by omega);rw[T6 _ 1,Tt]at r;omega
 ·exact e
end
theorem OL{l:List Int}(h:Ds l)(n:Nat)(f:l.length=n+2) :
    N l=N (l.take n)+Bp n*(l[n]?.getD 0+4294967296*l[n+1]?.getD 0)/\0<=N (l.take n)/\N (l.take n)<Bp n:=by
 have e:=fA l n (by omega);have b:N (l.drop n)=l[n]?.getD 0+4294967296*l[n+1]?.getD 0:=by
  rw[iK (by omega),iK (by omega),Q3 (by omega)]; simp[N]
 have c:=eQ (h.take n);have a:=jA (h.take n);have d:(l.take n).length=n:=by simp; omega
 rw[d]at a;rw[b]at e;exact⟨e,c,a⟩
theorem ON{l:List Int}(h:Ds l)(n:Nat)(f:l.length=n+3) :
    N l=N (l.take n)+Bp n*(l[n]?.getD 0+4294967296*(l[n+2]?.getD 0*4294967296+l[n+1]?.getD 0))/\0<=N (l.take n)/\N (l.take n)<Bp n:=by
 have e:=fA l n (by omega);have b:N (l.drop n)=l[n]?.getD 0+4294967296*(l[n+2]?.getD 0*4294967296+l[n+1]?.getD 0):=by
  rw[iK (by omega),iK (by omega),iK (by omega),Q3 (by omega),show n+1+1=n+2 from rfl]; simp[N]; omega
 have c:=eQ (h.take n);have a:=jA (h.take n);have d:(l.take n).length=n:=by simp; omega
 rw[d]at a;rw[b]at e;exact⟨e,c,a⟩
section
variable{L V:List Int}{j:Nat}
theorem yd(b:Ds L)(d:Ds V)(a:j+V.length+1<=L.length)(h:N L<N V*Bp (j+1)):N (L.drop (j+V.length+1))=0:=by
 have i:=jA d;have e:=fA L (j+V.length+1) a;have k:=eQ (b.take (j+V.length+1));have f:=eQ (b.drop (j+V.length+1));rcases Uv f with c|c
 ·exfalso;have l:Bp (j+V.length+1)=Bp V.length*Bp (j+1):=by rw[<-re]; congr 1; omega
  have m:=R' (show N V<=Bp V.length by omega) (show 0<=Bp (j+1) by have:=fK (j+1); omega);have g:=QU (show 1<=N (L.drop (j+V.length+1)) by omega) (show 0<=Bp (j+V.length+1) by have:=fK (j+V.length+1); omega);rw[S3]at g;omega
 ·exact c.symm
theorem Ps(a:j+V.length+1<=L.length):L.drop j=(L.drop j).take (V.length+1)++L.drop (j+V.length+1):=by
 conv=>lhs; rw[<-Q6 (V.length+1) (L.drop j)]
 rw[RT,RF]
theorem BL(b:Ds L)(c:Ds V)(a:j+V.length+1<=L.length)(d:N L<N V*Bp (j+1)):N (L.drop j)=N ((L.drop j).take (V.length+1)):=by
 have e:=Sr N (Ps (V:=V) a);rw[ts,yd b c a d,TL,UU]at e;exact e
theorem aa1(c:Ds L)(f:Ds V)(b:j+V.length+1<=L.length)(d:N L<N V*Bp (j+1)):N ((L.drop j).take (V.length+1))<N V*4294967296:=by
 rw[<-BL c f b d];have e:=fA L j (by omega);have g:=eQ (c.take j);rcases Tg (N (L.drop j)) (N V*4294967296)with h|h
 ·exact h
 ·exfalso;have a:=QU h (show 0<=Bp j by have:=fK j; omega);rw[Bp]at d;have:Bp j*(N V*4294967296)=N V*(4294967296*Bp j):=by rw[RO,RL]
  omega
theorem JQ(M:List Int)(a:Ds M)(k:Nat)(hk:k<=M.length)(b:N (M.drop k)=0):N M<Bp k:=by
 have e:=fA M k hk;rw[b,TL,UU]at e;have:=jA (a.take k);have h:(M.take k).length=k:=by simp; omega
 rw[h]at this;omega
theorem ED(L M:List Int)(j k:Nat)(a:j<=L.length)(hk:j<=k):(L.take j++M).drop k=M.drop (k-j):=by
 have h:(L.take j).length=j:=by simp; omega
 rw[SW,Q3 (by omega),RX,h]
theorem FL{g:Int}(c:Ds L)(e:Ds V)(a:j+V.length+1<=L.length)(b:0<N V)(f:N L<N V*Bp (j+1))
    (i:N ((L.drop j).take (V.length+1)) / N V<=g) (h:Bq g (L.drop j) V 0 0=0) :
    g=N ((L.drop j).take (V.length+1)) / N V/\N (L.take j++rF g (L.drop j) V 0 0)=N L-Bp j*(g*N V):=by
 have d:=Oi g (L.drop j) V 0 0 (by simp; omega);rw[h,TL]at d;have k:=BL c e a f;have l:=eQ (wP g (L.drop j) V 0 0 (c.drop j));refine⟨?_,?_⟩
 ·have:g<=N ((L.drop j).take (V.length+1)) / N V:=by
    rw[Vq b]; omega
  omega
 ·rw[J7 L _ j (by omega),d];have:N (L.drop j)-g*N V-0-0+0-N (L.drop j) = -(g*N V):=by omega
  rw[this,WW]; omega
theorem Km{g:Int}(e:Ds L)(f:Ds V)(b:j+V.length+1<=L.length)(i:0<N V)(n:N L<N V*Bp (j+1))
    (E:g<=N ((L.drop j).take (V.length+1)) / N V+1) (s:Bq g (L.drop j) V 0 0=1) :
    g-1=N ((L.drop j).take (V.length+1)) / N V /\
    N ((L.take j++rF g (L.drop j) V 0 0).take j++tW ((L.take j++rF g (L.drop j) V 0 0).drop j) V 0)=N L-Bp j*((g-1)*N V):=by
 have t:=Oi g (L.drop j) V 0 0 (by simp; omega);rw[s,S3]at t;have u:=BL e f b n;have o:=yd e f b n;have c:=wP g (L.drop j) V 0 0 (e.drop j);have k:=MF g (L.drop j) V 0 0;have a:=Ho g (L.drop j) V 0 0;rw[RT,<-RF]at a;generalize F:rF g (L.drop j) V 0 0=S at *;have v:S.length=L.length-j:=by rw[k]; simp
 have w:N S<Bp (V.length+1):=JQ S c (V.length+1) (by omega) (by rw[a]; exact o);have x:N (L.drop j)<g*N V:=by omega
 have p:g-1=N ((L.drop j).take (V.length+1)) / N V:=by
  have:N ((L.drop j).take (V.length+1)) / N V<g:=by rw[Int.ediv_lt_iff_lt_mul i]; omega
  omega
 refine⟨p,?_⟩;have q:j<=L.length:=by omega
 have y:(L.take j++S).take j=L.take j:=by
  have h:(L.take j).length=j:=by simp; omega
  rw[Th (by omega),QQ (by omega)]
 have z:(L.take j++S).drop j=S:=by rw[ED L S j j q (Qu _),Sz]; rfl
 rw[y,z];have r:=abS S V 0 (by omega);have A:=OW S V 0 c f (by omega) (by omega);have l:=Ko S V 0 c;have B:=Me S V 0;have d:=Gm S V 0;have C:N (tW S V 0)<Bp (V.length+1):=JQ _ l (V.length+1) (by omega) (by rw[d,a]; exact o);have m:(g-1)*N V<=N (L.drop j):=by
  rw[p,u]; exact Int.ediv_mul_le _ (by omega)
 rw[Vb,Tt]at m;have D:N (tW S V 0)=N (L.drop j)-(g*N V-N V):=by
  rcases A with h|h
  ·rw[h,TL]at r; omega
  ·rw[h,S3]at r; omega
 rw[J7 L _ j q,D,Vb,Tt];have:N (L.drop j)-(g*N V-N V)-N (L.drop j) = -(g*N V-N V):=by omega
 rw[this,WW]; omega
theorem CN(f:Ds L)(g:Ds V)(b:j+V.length+1<=L.length)(c:0<N V)(i:N L<N V*Bp (j+1)) :
    N L-Bp j*(N ((L.drop j).take (V.length+1)) / N V*N V)<N V*Bp j:=by
 have e:=fA L j (by omega);have k:=BL f g b i;have l:=jA (f.take j);have h:(L.take j).length=j:=by simp; omega
 rw[h]at l;rw[<-k];have m:=RD (N (L.drop j)) c;have d:=UH (N (L.drop j)) (N V);rw[RO (N V)]at d;generalize N (L.drop j) / N V*N V=D at *;have a:=QU (show N (L.drop j)-D+1<=N V by omega) (show 0<=Bp j by have:=fK j; omega);rw[SC,WV,S3]at a;rw[RO (N V)];omega
end
end Go.Proofs.YtbokoblnehgkaabGreat.Nt
namespace Go.Proofs.YtbokoblnehgkaabGreat.Nt
open Go.ChangeShapes Go.WideShapes Go.ChangeAt Go.RowKit B
def kx:List Int->List Int->Int->List Int
 | [],_,c=>[c]
 | d::a,[],c=>((d+c) % 4294967296)::kx a [] ((d+c) / 4294967296)
 | d::a,e::b,c=>((d+c+e) % 4294967296)::kx a b ((d+c+e) / 4294967296)
theorem JN(a b:List Int)(c:Int)(h:b.length<=a.length):N (kx a b c)=N a+N b+c:=by
 induction a generalizing b c with
 | nil =>
  rcases b with _|⟨e,b⟩
  ·simp[kx,N]
  ·simp at h
 | cons d a f =>
  rcases b with _|⟨e,b⟩
  ·show(d+c) % 4294967296+4294967296*N (kx a [] ((d+c) / 4294967296))=d+4294967296*N a+0+c;rw[f [] _ (by simp)];simp only[N];omega
  ·show(d+c+e) % 4294967296+4294967296*N (kx a b ((d+c+e) / 4294967296))=d+4294967296*N a+(e+4294967296*N b)+c;rw[f b _ (by simpa using h)];omega
theorem vi(x y:List Int)(k:Nat)(c:Int)(h1:k<x.length)(h2:k<y.length) :
    kx (x.drop k) (y.drop k) c=((x[k]?.getD 0+c+y[k]?.getD 0) % 4294967296)::kx (x.drop (k+1)) (y.drop (k+1)) ((x[k]?.getD 0+c+y[k]?.getD 0) / 4294967296):=by
 rw[drop_cons h1,drop_cons h2,kx]
theorem yC(x y:List Int)(k:Nat)(c:Int)(h1:k<x.length)(h2:y.length<=k) :
    kx (x.drop k) (y.drop k) c=((x[k]?.getD 0+c) % 4294967296)::kx (x.drop (k+1)) (y.drop (k+1)) ((x[k]?.getD 0+c) / 4294967296):=by
 rw[drop_cons h1,Q3 h2,Q3 (show y.length<=k+1 by omega),kx]
theorem gy{pre:List Int}{k n:Nat}(a:pre.length=k)(hk:k<n){x:Int}:(pre++List.replicate (n-k) 0).set k x=(pre++[x])++List.replicate (n-(k+1)) 0:=by
 rw[Ub _ _ (by omega),a,Sz];obtain⟨m,b⟩:∃ m,n-k=m+1:=⟨n-k-1,by omega⟩;rw[b,SE,VK,show n-(k+1)=m by omega,QP]; rfl
theorem add(R S:Value)(c:Nat)(x y:Int)(w:World)(ha:ki w R c x)(m:ki w S c y)(hc:c<=4294967296) :
    Calls Tryz.prog 94 #[R,S] w (oD w.heap.size w (x+y)):=by
 obtain⟨T,I,ac,rfl⟩:=ha;obtain⟨U,J,ad,rfl⟩:=m;have H:=Qt I;have HB:=Qt J;clear I J;go_enter Tryz.func94,Tryz.ntmps94;go_wp2_with fail;refine(ly R T w H.out).mono ?_;rintro e V ⟨v1,d,rfl,r1,N1,C1,L1,_,rfl⟩;go_wp2_with fail;refine(ly S U w HB.out).mono ?_;rintro e V ⟨v2,f,rfl,r2,N2,C2,L2,_,rfl⟩;clear H HB;have Q:=Qt (And.intro N1 N2);have HC:=Qt (And.intro C1 C2);obtain⟨a1,p1,rfl,g1,m1,g⟩:=Row.parts r1;obtain⟨a2,p2,rfl,g2,m2,h⟩:=Row.parts r2;clear r1 r2 N1 N2 C1 C2;by_cases ab:d.length<f.length
 ·have W:=Qt h;have X:=Qt g;clear g h;have H:=Qt (show N (kx f d 0)=N T+N U by rw[JN _ _ _ (by omega),Q.out.1,Q.out.2]; omega);have l:=Qt (show(f.length:Int)+1=((f.length+1:Nat):Int) by omega);go_wp2_with (at_make; refine ir rfl (.tmp 23) (.tmp 23) 33 rfl w.heap.size 73 .u32 4 Tryz.underlying33 gH _ (f.length+1) rfl rfl l.out (by omega) (by unfold maxLen; omega) (Qu _) ?_; intro w1 v z);clear l;generalize o:f.length=j at *;generalize q:d.length=Y at *;have u:=Qt (And.intro o q);clear o q;go_loopw [6,27] (fun t i wr=>∃(k:Nat) (a:Int) (pre:List Int),k<=j/\i=.int .i64 k/\t=.int .u64 a/\0<=a/\a<=1/\Hid (pre.length=k/\Ds pre/\pre++kx (f.drop k) (d.drop k) a=kx f d 0) /\
      wr.ownsRow w.heap.size 73 1 (.slice (some ⟨w.heap.size,0,none⟩) (j+1) (j+1)) (j+1) ((pre++List.replicate (j+1-k) 0).map (Value.int .u32))/\Below w.heap.size w wr) (fun _ i _=>j-(intOf i).toNat)
  case atStart=>exact⟨0,0,[],QE _,rfl,rfl,by omega,by omega,⟨rfl,Ds.nil,rfl⟩,v,z⟩
  case round =>
   obtain⟨k,a,pre,hk,rfl,rfl,Z,aa,b,n,m⟩:=hrel
   by_cases A:k<j
   ·obtain⟨bx,ox,rfl,K,B⟩:=W.out k (by omega);have K:=Rq m K;have dx:=wf_u32 B;have r:k<f.length:=by rw[u.out.1]; exact A
    obtain⟨C,D⟩:=fM n k (by omega);by_cases s:k<Y
    ·obtain⟨by_,oy,rfl,L,M⟩:=X.out k (by omega);have L:=Rq m L;have dy:=wf_u32 M;have E:=Qt (vi f d k a r (by rw[u.out.2]; exact s));generalize f[k]?.getD 0=x at *;generalize d[k]?.getD 0=y at *;clear B M;go_wp2;refine⟨⟨k+1,(x+a+y) / 4294967296,pre++[(x+a+y) % 4294967296],by omega,by go_num,rfl,by omega,by omega,?_,?_,m.setCell (Qu _) _⟩,by simp[intOf]; omega⟩
     ·refine⟨by simp[b.out.1],b.out.2.1.app (Ds.cons (by omega) Ds.nil),?_⟩;rw[<-b.out.2.2,E.out,QP]; rfl
     ·have:=eN n k ((x+a+y) % 4294967296);rwa [gy b.out.1 (show k<j+1 by omega)]at this
    ·have E:=Qt (yC f d k a r (by rw[u.out.2]; omega));generalize f[k]?.getD 0=x at *;clear B;go_wp2;refine⟨⟨k+1,(x+a) / 4294967296,pre++[(x+a) % 4294967296],by omega,by go_num,rfl,by omega,by omega,?_,?_,m.setCell (Qu _) _⟩,by simp[intOf]; omega⟩
     ·refine⟨by simp[b.out.1],b.out.2.1.app (Ds.cons (by omega) Ds.nil),?_⟩;rw[<-b.out.2.2,E.out,QP]; rfl
     ·have:=eN n k ((x+a) % 4294967296);rwa [gy b.out.1 (show k<j+1 by omega)]at this
   ·obtain rfl:k=j:=by omega
    obtain⟨C,D⟩:=fM n k (by omega);have F:=Qt (show pre++[a]=kx f d 0 by
     rw[<-b.out.2.2,Q3 (by rw[u.out.1]; exact Qu _)]; simp[kx])
    have O:=eN n k a;rw[gy b.out.1 (show k<k+1 by omega),Sz,SP,Q9,F.out]at O;have HD:=Qt (show Ds (kx f d 0) by rw[<-F.out]; exact b.out.2.1.app (Ds.cons (by omega) Ds.nil));have G:=m.setCell (p:=⟨w.heap.size,k,none⟩) (Qu _) (.int .u32 a);clear F b n;go_wp2_with fail;refine(rW O HD.out).mono ?_;rintro e V ⟨v',rfl,P,rfl⟩;rw[H.out]at P;go_wp2_with fail;go_ret;exact⟨v',rfl,P,G⟩
 ·have W:=Qt g;have X:=Qt h;clear g h;have H:=Qt (show N (kx d f 0)=N T+N U by rw[JN _ _ _ (by omega),Q.out.1,Q.out.2]; omega);have l:=Qt (show(d.length:Int)+1=((d.length+1:Nat):Int) by omega);go_wp2_with (at_make; refine ir rfl (.tmp 23) (.tmp 23) 33 rfl w.heap.size 73 .u32 4 Tryz.underlying33 gH _ (d.length+1) rfl rfl l.out (by omega) (by unfold maxLen; omega) (Qu _) ?_; intro w1 v z);clear l;generalize o:d.length=j at *;generalize q:f.length=Y at *;have u:=Qt (And.intro o q);clear o q;go_loopw [6,27] (fun t i wr=>∃(k:Nat) (a:Int) (pre:List Int),k<=j/\i=.int .i64 k/\t=.int .u64 a/\0<=a/\a<=1/\Hid (pre.length=k/\Ds pre/\pre++kx (d.drop k) (f.drop k) a=kx d f 0) /\
      wr.ownsRow w.heap.size 73 1 (.slice (some ⟨w.heap.size,0,none⟩) (j+1) (j+1)) (j+1) ((pre++List.replicate (j+1-k) 0).map (Value.int .u32))/\Below w.heap.size w wr) (fun _ i _=>j-(intOf i).toNat)
  case atStart=>exact⟨0,0,[],QE _,rfl,rfl,by omega,by omega,⟨rfl,Ds.nil,rfl⟩,v,z⟩
  case round =>
   obtain⟨k,a,pre,hk,rfl,rfl,Z,aa,b,n,m⟩:=hrel
   by_cases A:k<j
   ·obtain⟨bx,ox,rfl,K,B⟩:=W.out k (by omega);have K:=Rq m K;have dx:=wf_u32 B;have r:k<d.length:=by rw[u.out.1]; exact A
    obtain⟨C,D⟩:=fM n k (by omega);by_cases s:k<Y
    ·obtain⟨by_,oy,rfl,L,M⟩:=X.out k (by omega);have L:=Rq m L;have dy:=wf_u32 M;have E:=Qt (vi d f k a r (by rw[u.out.2]; exact s));generalize d[k]?.getD 0=x at *;generalize f[k]?.getD 0=y at *;clear B M;go_wp2;refine⟨⟨k+1,(x+a+y) / 4294967296,pre++[(x+a+y) % 4294967296],by omega,by go_num,rfl,by omega,by omega,?_,?_,m.setCell (Qu _) _⟩,by simp[intOf]; omega⟩
     ·refine⟨by simp[b.out.1],b.out.2.1.app (Ds.cons (by omega) Ds.nil),?_⟩;rw[<-b.out.2.2,E.out,QP]; rfl
     ·have:=eN n k ((x+a+y) % 4294967296);rwa [gy b.out.1 (show k<j+1 by omega)]at this
    ·have E:=Qt (yC d f k a r (by rw[u.out.2]; omega));generalize d[k]?.getD 0=x at *;clear B;go_wp2;refine⟨⟨k+1,(x+a) / 4294967296,pre++[(x+a) % 4294967296],by omega,by go_num,rfl,by omega,by omega,?_,?_,m.setCell (Qu _) _⟩,by simp[intOf]; omega⟩
     ·refine⟨by simp[b.out.1],b.out.2.1.app (Ds.cons (by omega) Ds.nil),?_⟩;rw[<-b.out.2.2,E.out,QP]; rfl
     ·have:=eN n k ((x+a) % 4294967296);rwa [gy b.out.1 (show k<j+1 by omega)]at this
   ·obtain rfl:k=j:=by omega
    obtain⟨C,D⟩:=fM n k (by omega);have F:=Qt (show pre++[a]=kx d f 0 by
     rw[<-b.out.2.2,Q3 (by rw[u.out.1]; exact Qu _)]; simp[kx])
    have O:=eN n k a;rw[gy b.out.1 (show k<k+1 by omega),Sz,SP,Q9,F.out]at O;have HD:=Qt (show Ds (kx d f 0) by rw[<-F.out]; exact b.out.2.1.app (Ds.cons (by omega) Ds.nil));have G:=m.setCell (p:=⟨w.heap.size,k,none⟩) (Qu _) (.int .u32 a);clear F b n;go_wp2_with fail;refine(rW O HD.out).mono ?_;rintro e V ⟨v',rfl,P,rfl⟩;rw[H.out]at P;go_wp2_with fail;go_ret;exact⟨v',rfl,P,G⟩
def jC:List Int->List Int->Int->List Int
 | [],_,_=>[]
 | d::a,[],b=>((d-b) % 4294967296)::jC a [] (-((d-b) / 4294967296))
 | d::a,e::c,b=>((d-(b+e)) % 4294967296)::jC a c (-((d-(b+e)) / 4294967296))
def uB:List Int->List Int->Int->Int
 | [],_,b=>b
 | d::a,[],b=>uB a [] (-((d-b) / 4294967296))
 | d::a,e::c,b=>uB a c (-((d-(b+e)) / 4294967296))
theorem yr(a c:List Int)(b:Int):(jC a c b).length=a.length:=by
 induction a generalizing c b with
 | nil=>rfl
 | cons d a f=>rcases c with _|⟨e,c⟩<;>simp[jC,f]
theorem xE(a c:List Int)(b:Int):Ds (jC a c b):=by
 induction a generalizing c b with
 | nil=>exact Ds.nil
 | cons d a f =>
  rcases c with _|⟨e,c⟩
  ·exact Ds.cons (by omega) (f _ _)
  ·exact Ds.cons (by omega) (f _ _)
theorem aa6(a c:List Int)(b:Int)(h:c.length<=a.length):N (jC a c b)=N a-N c-b+Bp a.length*uB a c b:=by
 induction a generalizing c b with
 | nil =>
  rcases c with _|⟨e,c⟩
  ·simp[jC,uB,N,Bp]; omega
  ·simp at h
 | cons d a f =>
  rcases c with _|⟨e,c⟩
  ·show(d-b) % 4294967296+4294967296*N (jC a [] (-((d-b) / 4294967296)))=d+4294967296*N a-0-b+4294967296*Bp a.length*uB a [] (-((d-b) / 4294967296));rw[f [] _ (by simp),RL];simp only[N];omega
  ·show(d-(b+e)) % 4294967296+4294967296*N (jC a c (-((d-(b+e)) / 4294967296)))=d+4294967296*N a-(e+4294967296*N c)-b+4294967296*Bp a.length*uB a c (-((d-(b+e)) / 4294967296));rw[f c _ (by simpa using h),RL];omega
theorem Ll(a c:List Int)(b:Int)(f:Ds a)(g:Ds c)(i:0<=b/\b<=1):0<=uB a c b/\uB a c b<=1:=by
 induction a generalizing c b with
 | nil=>exact i
 | cons d a h =>
  have j:=f.head
  rcases c with _|⟨e,c⟩
  ·exact h _ _ f.tail Ds.nil (by omega)
  ·have k:=g.head;exact h _ _ f.tail g.tail (by omega)
theorem N7{x y:List Int}(a:Ds x)(b:Ds y)(h:y.length<=x.length)(c:N y<=N x):N (jC x y 0)=N x-N y:=by
 have e:=aa6 x y 0 h;have f:=Ll x y 0 a b (by omega);have l:=jA (xE x y 0);rw[yr]at l;have d:=fK x.length;have:uB x y 0=0∨uB x y 0=1:=by omega
 rcases this with q|q
 ·rw[q,TL]at e; omega
 ·rw[q,S3]at e; omega
theorem vI(x y:List Int)(k:Nat)(c:Int)(h1:k<x.length)(h2:k<y.length) :
    jC (x.drop k) (y.drop k) c=((x[k]?.getD 0-(c+y[k]?.getD 0)) % 4294967296)::jC (x.drop (k+1)) (y.drop (k+1)) (-((x[k]?.getD 0-(c+y[k]?.getD 0)) / 4294967296)):=by
 rw[drop_cons h1,drop_cons h2,jC]
theorem yh(x y:List Int)(k:Nat)(c:Int)(h1:k<x.length)(h2:y.length<=k) :
    jC (x.drop k) (y.drop k) c=((x[k]?.getD 0-c) % 4294967296)::jC (x.drop (k+1)) (y.drop (k+1)) (-((x[k]?.getD 0-c) / 4294967296)):=by
 rw[drop_cons h1,Q3 h2,Q3 (show y.length<=k+1 by omega),jC]
def JK(base:Nat)(w:World)(x y:Int)(e:Ending)(w':World):Prop :=
 ∃ v,e=.returned (.tuple #[v,.bool (decide (y<=x))])/\eS base w' v (if y<=x then x-y else 0)/\Below base w w'
theorem sub(P Q:Value)(c:Nat)(x y:Int)(w:World)(ha:ki w P c x)(q:ki w Q c y)(hc:c<=4294967296) :
    Calls Tryz.prog 95 #[P,Q] w (JK w.heap.size w x y):=by
 obtain⟨J,A,aa,rfl⟩:=ha;obtain⟨K,B,ab,rfl⟩:=q;have L:=Qt A;have W:=Qt B;clear A B;go_enter Tryz.func95,Tryz.ntmps95;go_wp2_with fail;refine(ly P J w L.out).mono ?_;rintro e X ⟨v1,d,rfl,Y,Z,C1,L1,_,rfl⟩;go_wp2_with fail;refine(ly Q K w W.out).mono ?_;rintro e X ⟨v2,f,rfl,r2,N2,C2,L2,_,rfl⟩;clear L W;have z:=Qt (And.intro Z N2);have M:=Qt (And.intro C1 C2);have C:=Qt (And.intro Y r2);clear Y r2 Z N2 C1 C2;go_wp2_with fail;refine(cmp v1 v2 c (N d) (N f) w ⟨d,C.out.1,by omega,rfl⟩ ⟨f,C.out.2,by omega,rfl⟩ hc).mono ?_;rintro e D ⟨rfl,o⟩;by_cases b:N d<N f
 ·have g:fJ (N d) (N f) = -1:=by rw[fJ,QJ b]
  rw[g];have E:=Qt (show ¬N K<=N J by rw[<-z.out.1,<-z.out.2]; omega);clear b g;go_wp2_with fail;go_ret2;refine⟨.slice none 0 0,?_,?_,o⟩
  ·rw[Q4 (by have:=E.out; omega)]; rfl
  ·rw[QC (by have:=E.out; omega)]; exact eS.nil _ _
 ·have ac:¬fJ (N d) (N f)<0:=by rw[fJ,QC b]; split<;>omega
  have E:=Qt (show N K<=N J by rw[<-z.out.1,<-z.out.2]; omega);have R:f.length<=d.length:=by
   rcases QA d.length f.length with h|h
   ·have:=oY M.out.1 M.out.2 h; omega
   ·exact h
  have L:=Qt (show N (jC d f 0)=N J-N K by rw[N7 M.out.1.1 M.out.2.1 R (by omega),z.out.1,z.out.2]);obtain⟨a1,p1,rfl,g1,m1,j⟩:=Row.parts (C.out.1.keep o);obtain⟨a2,p2,rfl,g2,m2,m⟩:=Row.parts (C.out.2.keep o);have HX:=Qt j;have HY:=Qt m;clear j m b C;generalize fJ (N d) (N f)=r at *;have hr:decide (r<0)=false:=by simp; omega
  generalize F:d.length=s at *;generalize G:f.length=nY at *;have O:=Qt (And.intro F G);clear F G;go_wp2_with (at_make; refine ir rfl (.tmp 20) (.tmp 20) 33 rfl D.heap.size 73 .u32 4 Tryz.underlying33 gH _ s rfl rfl rfl (by omega) (by unfold maxLen; omega) (Qu _) ?_; intro w1 S T);go_loopw [7,24] (fun t i wr=>∃(k:Nat) (a:Int) (pre:List Int),k<=s/\i=.int .i64 k/\t=.int .u64 a/\0<=a/\a<=1/\Hid (pre.length=k/\pre++jC (d.drop k) (f.drop k) a=jC d f 0) /\
      wr.ownsRow D.heap.size 73 1 (.slice (some ⟨D.heap.size,0,none⟩) s s) s ((pre++List.replicate (s-k) 0).map (Value.int .u32))/\Below D.heap.size D wr) (fun _ i _=>s-(intOf i).toNat)
  case atStart=>exact⟨0,0,[],QE _,rfl,rfl,by omega,by omega,⟨rfl,rfl⟩,S,T⟩
  case round =>
   obtain⟨k,a,pre,hk,rfl,rfl,ad,ae,n,v,q⟩:=hrel
   by_cases b:k<s
   ·obtain⟨bx,ox,rfl,qx,U⟩:=HX.out k (by omega);have qx:=Rq q qx;have dx:=wf_u32 U;have H:k<d.length:=by rw[O.out.1]; exact b
    obtain⟨af,ah⟩:=fM v k (by omega);by_cases I:k<nY
    ·obtain⟨by_,oy,rfl,qy,wy⟩:=HY.out k (by omega);have qy:=Rq q qy;have dy:=wf_u32 wy;have u:=Qt (vI d f k a H (by rw[O.out.2]; exact I));generalize d[k]?.getD 0=x at *;generalize f[k]?.getD 0=y at *;clear U wy;by_cases V:a+y<=x
     ·have g:(x-(a+y)) % 4294967296=x-(a+y):=by omega
      have p:-((x-(a+y)) / 4294967296)=0:=by omega
      rw[g,p]at u;clear g p;go_wp2;refine⟨⟨k+1,0,pre++[x-(a+y)],by omega,by go_num,rfl,by omega,by omega,⟨by simp[n.out.1],?_⟩,?_,q.setCell (Qu _) _⟩,by simp[intOf]; omega⟩
      ·rw[<-n.out.2,u.out,QP]; rfl
      ·have:=eN v k (x-(a+y));rwa [gy n.out.1 b]at this
     ·have g:(x-(a+y)) % 4294967296=x+4294967296-(a+y):=by omega
      have p:-((x-(a+y)) / 4294967296)=1:=by omega
      rw[g,p]at u;clear g p;go_wp2;refine⟨⟨k+1,1,pre++[x+4294967296-(a+y)],by omega,by go_num,rfl,by omega,by omega,⟨by simp[n.out.1],?_⟩,?_,q.setCell (Qu _) _⟩,by simp[intOf]; omega⟩
      ·rw[<-n.out.2,u.out,QP]; rfl
      ·have:=eN v k (x+4294967296-(a+y));rwa [gy n.out.1 b]at this
    ·have u:=Qt (yh d f k a H (by rw[O.out.2]; omega));generalize d[k]?.getD 0=x at *;clear U;by_cases V:a<=x
     ·have g:(x-a) % 4294967296=x-a:=by omega
      have p:-((x-a) / 4294967296)=0:=by omega
      rw[g,p]at u;clear g p;go_wp2;refine⟨⟨k+1,0,pre++[x-a],by omega,by go_num,rfl,by omega,by omega,⟨by simp[n.out.1],?_⟩,?_,q.setCell (Qu _) _⟩,by simp[intOf]; omega⟩
      ·rw[<-n.out.2,u.out,QP]; rfl
      ·have:=eN v k (x-a);rwa [gy n.out.1 b]at this
     ·have g:(x-a) % 4294967296=x+4294967296-a:=by omega
      have p:-((x-a) / 4294967296)=1:=by omega
      rw[g,p]at u;clear g p;go_wp2;refine⟨⟨k+1,1,pre++[x+4294967296-a],by omega,by go_num,rfl,by omega,by omega,⟨by simp[n.out.1],?_⟩,?_,q.setCell (Qu _) _⟩,by simp[intOf]; omega⟩
      ·rw[<-n.out.2,u.out,QP]; rfl
      ·have:=eN v k (x+4294967296-a);rwa [gy n.out.1 b]at this
   ·obtain rfl:k=s:=by omega
    have HE:=Qt (show pre=jC d f 0 by
     rw[<-n.out.2,Q3 (by rw[O.out.1]; exact Qu _)]; simp[jC])
    rw[Sz,SP,Q9,HE.out]at v;clear HE n;go_wp2_with fail;refine(rW v (xE d f 0)).mono ?_;rintro e X ⟨v',rfl,hn,rfl⟩;rw[L.out]at hn;go_wp2_with fail;go_ret2;refine⟨v',?_,?_,o.trans (q.mono o.size)⟩
    ·rw[QY E.out]; rfl
    ·rw[QJ E.out];obtain⟨l,h1,h2,h3,h4⟩:=hn;exact⟨l,h1,h2,h3,h4.mono o.size⟩
theorem mul(J K:Value)(c:Nat)(x y:Int)(w:World)(ha:ki w J c x)(v:ki w K c y)(hc:c<=4294967296) :
    Calls Tryz.prog 59 #[J,K] w (oD w.heap.size w (x*y)):=by
 obtain⟨S,A,aa,rfl⟩:=ha;obtain⟨T,B,ab,rfl⟩:=v;have U:=Qt A;have G:=Qt B;clear A B;go_enter Tryz.func59,Tryz.ntmps59;go_wp2_with fail;refine(ly J S w U.out).mono ?_;rintro e V ⟨v1,H,rfl,W,X,Y,L1,_,rfl⟩;go_wp2_with fail;refine(ly K T w G.out).mono ?_;rintro e V ⟨v2,l,rfl,Z,N2,C2,L2,_,rfl⟩;clear U G;have HN:=Qt (And.intro X N2);have HC:=Qt (And.intro Y C2);obtain⟨a1,p1,rfl,g1,m1,d⟩:=Row.parts W;obtain⟨a2,p2,rfl,g2,m2,f⟩:=Row.parts Z;have HX:=Qt d;have HY:=Qt f;clear W Z X N2 Y C2 d f;generalize C:H.length=a at *;generalize D:l.length=b at *;have m:=Qt (And.intro C D);clear C D;have q:=Qt (show(a:Int)+(b:Int)=((a+b:Nat):Int) by omega);go_wp2_with (at_make; refine ir rfl (.tmp 20) (.tmp 20) 33 rfl w.heap.size 73 .u32 4 Tryz.underlying33 gH _ (a+b) rfl rfl q.out (by omega) (by unfold maxLen; omega) (Qu _) ?_; intro w1 L M);clear q;go_loopw [24] (fun i wr=>∃(k:Nat) (r:List Int),k<=a/\i=.int .i64 k/\Hid (r.length=a+b/\Ds r/\r.drop (k+b)=List.replicate (a-k) 0/\N r=N (H.take k)*N l) /\
     wr.ownsRow w.heap.size 73 1 (.slice (some ⟨w.heap.size,0,none⟩) (a+b) (a+b)) (a+b) (r.map (Value.int .u32))/\Below w.heap.size w wr) (fun i _=>a-(intOf i).toNat)
 case atStart=>exact⟨0,List.replicate (a+b) 0,QE _,rfl,⟨by simp,Ds.Ii _,by simp,by simp[N,sL]⟩,L,M⟩
 case round =>
  obtain⟨k,r,hk,rfl,h,ho,v⟩:=hrel
  by_cases O:k<a
  ·obtain⟨bx,ox,rfl,qx,wx⟩:=HX.out k (by omega);have qx:=Rq v qx;have dx:=wf_u32 wx;have I:=Qt (DE r H l k (by rw[m.out.1]; exact O) (by rw[m.out.1,m.out.2]; exact h.out.1) (by rw[m.out.1,m.out.2]; exact h.out.2.2.1) h.out.2.2.2);rw[m.out.1,m.out.2]at I;have HQ:=Qt (Cp dx (r.drop k) l 0 (h.out.2.1.drop k) HC.out.2.1 (by omega));generalize H[k]?.getD 0=x at *;clear wx;obtain⟨wo,rfl⟩:∃ wo:World,wo=wr:=⟨_,rfl⟩;go_wp2;go_loopw [8,31] (fun t i wr=>∃(j:Nat) (g:Int) (pre:List Int),j<=b/\i=.int .i64 j/\t=.int .u64 g/\0<=g/\g<4294967296 /\
       Hid (pre.length=k+j/\Ds pre/\pre++mulL x (r.drop (k+j)) (l.drop j) g=r.take k++mulL x (r.drop k) l 0) /\
       wr.ownsRow w.heap.size 73 1 (.slice (some ⟨w.heap.size,0,none⟩) (a+b) (a+b)) (a+b) ((pre++r.drop (k+j)).map (Value.int .u32))/\Below w.heap.size w wr) (fun _ i _=>b-(intOf i).toNat)
   case atStart=>exact⟨0,0,r.take k,QE _,rfl,rfl,by omega,by omega,⟨by simp; have:=h.out.1; omega,h.out.2.1.take k,rfl⟩,by rw[Se,Q6]; exact ho,v⟩
   case round =>
    obtain⟨j,g,pre,hj,rfl,rfl,ac,ad,s,o,u⟩:=hrel
    have n:k+j<r.length:=by have:=h.out.1; omega
    by_cases E:j<b
    ·obtain⟨by_,oy,rfl,qy,wy⟩:=HY.out j (by omega);have qy:=Rq u qy;have dy:=wf_u32 wy;have ae:=qS dx dy;obtain⟨F,P⟩:=fM o (k+j) (by omega);rw[lO s.out.1 n]at F;have HS:=Qt (vN x r l k j g n (by rw[m.out.2]; exact E));have G:=Qt (gY s.out.1 n);have dr:=h.out.2.1.at (k+j);generalize l[j]?.getD 0=y at *;generalize r[k+j]?.getD 0=z at *;clear wy;go_wp2;refine⟨⟨j+1,(x*y+z+g) / 4294967296,pre++[(x*y+z+g) % 4294967296],by omega,by go_num,rfl,by omega,by omega,⟨?_,s.out.2.1.app (Ds.cons (by omega) Ds.nil),?_⟩,?_,u.setCell (Qu _) _⟩,by simp[intOf]; omega⟩
     ·have:=s.out.1; simp; omega
     ·rw[<-s.out.2.2,HS.out,QP]; rfl
     ·have:=eN o (k+j) ((x*y+z+g) % 4294967296);rwa [G.out]at this
    ·obtain rfl:j=b:=by omega
     obtain⟨F,P⟩:=fM o (k+j) (by omega);have Q:=Qt (show(pre++[g])++r.drop (k+j+1)=r.take k++mulL x (r.drop k) l 0 by
      have e:=wb x r l k g (by rw[m.out.2]; exact n);rw[m.out.2]at e;rw[<-s.out.2.2,e,QP]; rfl)
     have hs:=eN o (k+j) g;rw[gY s.out.1 n,Q.out]at hs;have R:=u.setCell (p:=⟨w.heap.size,k+j,none⟩) (Qu _) (.int .u32 g);go_wp2;refine⟨⟨k+1,r.take k++mulL x (r.drop k) l 0,by omega,by go_num,⟨I.out.2.1,(h.out.2.1.take k).app HQ.out,I.out.2.2,I.out.1⟩,hs,R⟩,by simp[intOf]; omega⟩
  ·obtain rfl:k=a:=by omega
   have Q:=Qt (show N r=N S*N T by
    rw[h.out.2.2.2,QQ (by rw[m.out.1]; exact Qu _),HN.out.1,HN.out.2])
   have HD:=Qt h.out.2.1;clear h;go_wp2_with fail;refine(rW ho HD.out).mono ?_;rintro e V ⟨v',rfl,hn,rfl⟩;rw[Q.out]at hn;go_wp2_with fail;go_ret;exact⟨v',rfl,hn,v⟩
theorem aaV(rest x d:Int)(h0:0<=rest)(h1:rest<d)(a:0<=x/\x<4294967296):0<=(rest*4294967296+x) / d/\(rest*4294967296+x) / d<4294967296:=by
 refine⟨Sn (by omega) (by omega),?_⟩;apply Vx (by omega);have:(rest+1)*4294967296<=d*4294967296:=by omega
 rw[RO 4294967296 d];omega
theorem Gg(rest x d Q T:Int)(h:T=d*Q+rest):x+4294967296*T=d*((rest*4294967296+x) / d+4294967296*Q)+(rest*4294967296+x) % d:=by
 have e:=UH (rest*4294967296+x) d;rw[SC,Sf d 4294967296 Q];omega
theorem rD{l:List Int}{j n:Nat}(h:n=j+1)(x:Int):(List.replicate n (0:Int)++l).set j x=List.replicate j 0++x::l:=by
 subst h;rw[List.replicate_succ',QP,Ub _ _ (by simp),SX,Sz]; rfl
def aaj(base:Nat)(w:World)(x d:Int)(e:Ending)(w':World):Prop :=
 ∃ v,e=.returned (.tuple #[v,.int .u32 (x % d)])/\eS base w' v (x / d)/\Below base w w'
theorem He(G:Value)(c:Nat)(x d:Int)(w:World)(M:ki w G c x)(hc:c<=4294967296)(z:0<d)(O:d<4294967296) :
    Calls Tryz.prog 126 #[G,.int .u32 d] w (aaj w.heap.size w x d):=by
 obtain⟨h,m,P,rfl⟩:=M;have HD:=Qt (Row.ds m);obtain⟨a1,p1,rfl,g1,m1,g⟩:=Row.parts m;have Q:=Qt g;clear m g;generalize o:h.length=n at *;have H:=Qt o;clear o;go_enter Tryz.func126,Tryz.ntmps126;go_wp2_with (at_make; refine ir rfl (.tmp 11) (.tmp 11) 33 rfl w.heap.size 73 .u32 4 Tryz.underlying33 gH _ n rfl rfl rfl (by omega) (by unfold maxLen; omega) (Qu _) ?_; intro w1 A B);go_loopw [7,8] (fun t i wr=>∃(k:Nat) (f:Int) (qs:List Int),k<=n/\i=.int .i64 ((k:Int)-1)/\t=.int .u64 f/\0<=f/\f<d/\Hid (Ds qs/\N (h.drop k)=d*N qs+f) /\
     wr.ownsRow w.heap.size 73 1 (.slice (some ⟨w.heap.size,0,none⟩) n n) n ((List.replicate k 0++qs).map (Value.int .u32))/\Below w.heap.size w wr) (fun _ i _=>(intOf i+1).toNat)
 case atStart=>exact⟨n,0,[],Qu _,rfl,rfl,by omega,z,⟨Ds.nil,by rw[Q3 (by rw[H.out]; exact Qu _)]; simp[N]⟩,by rw[Q9]; exact A,B⟩
 case round =>
  obtain⟨k,f,qs,hk,rfl,rfl,p,s,u,y,C⟩:=hrel
  rcases k with _|j
  ·have I:=Qt (show N h / d=N qs/\N h % d=f by
     have e:=u.out.2;rw[RP]at e;have R:=(WX (a:=N h) (b:=d) (r:=f) (q:=N qs) z).2 ⟨by rw[e]; omega,p,s⟩;exact R)
   have S:=Qt u.out.1;rw[SP,RX]at y;clear u;have T:f<4294967296:=by omega
   go_wp2_with fail;refine(rW y S.out).mono ?_;rintro e w' ⟨U,rfl,V,rfl⟩;go_wp2_with fail;go_ret2;refine⟨U,?_,by rw[I.out.1]; exact V,C⟩;rw[I.out.2]; rfl
  ·obtain⟨bx,ox,rfl,J,K⟩:=Q.out j (by omega);have J:=Rq C J;have L:=wf_u32 K;have W:=Qt (iK (l:=h) (k:=j) (by rw[H.out]; omega));obtain⟨X,Y⟩:=fM y j (by omega);generalize h[j]?.getD 0=x at *;clear K;have Z:=wS f x (by omega) L;have D:=aaV f x d p s L;have v:0<=(f*4294967296+x) % d/\(f*4294967296+x) % d<d:=⟨Si _ (by omega),RD _ z⟩;obtain⟨E,F⟩:=v;go_wp2;refine⟨⟨j,(f*4294967296+x) % d,((f*4294967296+x) / d)::qs,by omega,by go_num,rfl,E,F,⟨Ds.cons D u.out.1,?_⟩,?_,C.setCell (Qu _) _⟩,by simp[intOf]⟩
   ·rw[W.out,N];exact Gg f x d (N qs) _ u.out.2
   ·have:=eN y j ((f*4294967296+x) / d);rwa [rD rfl]at this
def aaK(w:World)(l:List Int)(s size:Nat)(e:Ending)(w':World):Prop :=
 ∃ r:List Int,e=.returned (.slice (some ⟨w.heap.size,0,none⟩) size size)/\Ds r/\N r=N l*2 ^ s/\w'.ownsRow w.heap.size 73 1 (.slice (some ⟨w.heap.size,0,none⟩) size size) size (r.map (Value.int .u32))/\Below w.heap.size w w'
theorem shiftLeft(I:Value)(l:List Int)(s size:Nat)(w:World)(v:Row .u32 w I l)(hl:l.length<=4294967296)(j:s<32)(m:size=l.length∨size=l.length+1)(e:N l*2 ^ s<Bp size) :
    Calls Tryz.prog 134 #[I,.int .u64 (s:Int),.int .i64 (size:Int)] w (aaK w l s size):=by
 have S:=Qt (Row.ds v);have n:=Qt e;have J:=Qt (ni j);obtain⟨a1,p1,rfl,g1,m1,b⟩:=Row.parts v;have T:=Qt b;clear v b e;generalize o:l.length=g at *;have y:=Qt o;have U:=Qt m;have K:g<=size/\size<=g+1:=by omega
 clear o m;go_enter Tryz.func134,Tryz.ntmps134;go_wp2_with (at_make; refine ir rfl (.tmp 11) (.tmp 11) 33 rfl w.heap.size 73 .u32 4 Tryz.underlying33 gH _ size rfl rfl rfl (by omega) (by unfold maxLen; omega) (Qu _) ?_; intro w1 z A);go_loopw [8,15] (fun t i wr=>∃(k:Nat) (a:Int) (pre:List Int),k<=g/\i=.int .i64 k/\t=.int .u32 a/\Hid (0<=a/\a<2 ^ s)/\Hid (pre.length=k/\pre++sb (2 ^ s) (l.drop k) a=sb (2 ^ s) l 0/\rn (2 ^ s) (l.drop k) a=rn (2 ^ s) l 0) /\
     wr.ownsRow w.heap.size 73 1 (.slice (some ⟨w.heap.size,0,none⟩) size size) size ((pre++List.replicate (size-k) 0).map (Value.int .u32))/\Below w.heap.size w wr) (fun _ i _=>g-(intOf i).toNat)
 case atStart=>exact⟨0,0,[],QE _,rfl,rfl,⟨by omega,Tz (by decide) (two_pos s)⟩,⟨rfl,rfl,rfl⟩,z,A⟩
 case round =>
  obtain⟨k,a,pre,hk,rfl,rfl,p,f,h,r⟩:=hrel
  by_cases B:k<g
  ·obtain⟨bx,ox,rfl,L,M⟩:=T.out k (by omega);have L:=Rq r L;have V:=wf_u32 M;obtain⟨C,D⟩:=fM h k (by omega);have O:=Qt (Em (2 ^ s) l k a (by rw[y.out]; exact B));generalize l[k]?.getD 0=x at *;clear M;have W:=Qt (yg j x a p.out);have P:=Qt (vR j x a V p.out);have X:=Qt (show x / 2 ^ (32-s) % 4294967296=x*2 ^ s / 4294967296 by
    rw[<-Mr j];have:=P.out.2;have:=J.out;rw[UB]<;>omega)
   go_wp2;refine⟨⟨k+1,x*2 ^ s / 4294967296,pre++[x*2 ^ s % 4294967296+a],by omega,by go_num,by rw[X.out],P.out.2,⟨by simp[f.out.1],?_,?_⟩,?_,r.setCell (Qu _) _⟩,by simp[intOf]; omega⟩
   ·rw[<-f.out.2.1,O.out.1,QP]; rfl
   ·rw[<-f.out.2.2,O.out.2]
   ·have:=eN h k (x*2 ^ s % 4294967296+a);rw[gy f.out.1 (show k<size by omega)]at this;rw[W.out];exact this
  ·obtain rfl:k=g:=by omega
   have u:=Qt (show pre=sb (2 ^ s) l 0/\a=rn (2 ^ s) l 0 by
    have E:=f.out.2.1;have F:=f.out.2.2;rw[Q3 (by rw[y.out]; exact Qu _)]at E F;simp only[sb,rn,Q9]at E F;exact⟨E,F⟩)
   have c:=Qt (Nc j l 0 S.out ⟨by omega,Tz (by decide) (two_pos s)⟩);have G:=Qt (PE (2 ^ s) l 0);rw[y.out,<-u.out.1,<-u.out.2]at G;rw[<-u.out.1,<-u.out.2]at c;by_cases H:k<size
   ·have Q:a<4294967296/\0<=a:=by have:=c.out.2; have:=J.out; omega
    obtain⟨C,D⟩:=fM h k (by omega);have q:=eN h k a;rw[gy f.out.1 H,show size-(k+1)=0 by omega,SP,Q9]at q;have d:=Qt (show Ds (pre++[a])/\N (pre++[a])=N l*2 ^ s by
     refine⟨c.out.1.app (Ds.cons (by omega) Ds.nil),?_⟩;have:=G.out;rw[ts,f.out.1];simp only[N,TL,UU];omega)
    go_wp2;go_ret;exact⟨pre++[a],rfl,d.out.1,d.out.2,q,r.setCell (Qu _) _⟩
   ·obtain rfl:size=k:=by omega
    rw[Sz,SP,Q9]at h;have d:=Qt (show N pre=N l*2 ^ s by
     have Y:=G.out;have h2:=n.out;have h3:=eQ c.out.1;have Z:=c.out.2.1;have h5:=fK size;rcases Uv Z with R|R
     ·have:=QU (show 1<=a by omega) (show 0<=Bp size by omega);omega
     ·rw[<-R,TL]at Y; omega)
    go_wp2;go_ret;exact⟨pre,rfl,c.out.1,d.out,h,r⟩
theorem zl{s:Nat}(c:s<32)(d e:Int)(h:0<=d/\d<4294967296)(p:0<=e/\e<4294967296) :
    bits .or .u32 (d / 2 ^ s) (e*2 ^ (32-s) % 4294967296)=d / 2 ^ s+e*2 ^ (32-s) % 4294967296/\0<=d / 2 ^ s+e*2 ^ (32-s) % 4294967296/\d / 2 ^ s+e*2 ^ (32-s) % 4294967296<4294967296:=by
 have q:=ni c;have r:=sQ c;have f:=yl c;have l:0<=d / 2 ^ s:=Sn h.1 (by omega);have n:d / 2 ^ s<2 ^ (32-s):=by
  apply Vx (by omega);rw[RO,f]; exact h.2
 have em:e*2 ^ (32-s) % 4294967296=(e % 2 ^ s)*2 ^ (32-s):=by
  conv=>lhs; rw[<-f]
  rw[pR _ _ (show(0:Int)<2 ^ (32-s) by omega)]
 have j:0<=e % 2 ^ s:=Si _ (by omega);have t:e % 2 ^ s<2 ^ s:=RD _ (by omega);rw[em];generalize d / 2 ^ s=x at *;generalize e % 2 ^ s=m at *;have g:=R' (show m+1<=2 ^ s by omega) (show 0<=(2:Int) ^ (32-s) by omega);rw[f,T6,Tt]at g;have k:=Ss j (show 0<=(2:Int) ^ (32-s) by omega);refine⟨?_,by omega,by omega⟩;have o:(2:Int) ^ (32-s)=((2 ^ (32-s):Nat):Int):=by simp
 rw[o]at g k n ⊢;obtain⟨a,rfl⟩:=QV l;obtain⟨b,rfl⟩:=QV j;rw[<-S']at g k ⊢;rw[u32_or_nat _ _ (by omega) (by omega),Nat.or_comm];have:=T5 (i:=32-s) (b:=a) (by omega) b;rw[Vj]at this;rw[<-this];omega
theorem ET(P R:Int)(x:List Int)(k:Nat)(h:k+1<x.length) :
    oC P R (x.drop k)=(x[k]?.getD 0 / P+x[k+1]?.getD 0*R % 4294967296)::oC P R (x.drop (k+1)):=by
 rw[drop_cons (show k<x.length by omega),drop_cons h,oC]
theorem Fc(P R:Int)(x:List Int)(k:Nat)(h:k+1=x.length) :
    oC P R (x.drop k)=(x[k]?.getD 0 / P)::oC P R (x.drop (k+1)):=by
 rw[drop_cons (show k<x.length by omega),Q3 (by omega),oC,oC]
theorem shiftRight(J:Value)(l:List Int)(s:Nat)(w:World)(r:Row .u32 w J l)(hl:l.length<=4294967296)(t:s<32) :
    Calls Tryz.prog 138 #[J,.int .u64 (s:Int)] w (oD w.heap.size w (N l / 2 ^ s)):=by
 have HD:=Qt (Row.ds r);have U:=Qt (ni t);obtain⟨a1,p1,rfl,g1,m1,b⟩:=Row.parts r;have K:=Qt b;clear r b;generalize g:l.length=c at *;have u:=Qt g;clear g;go_enter Tryz.func138,Tryz.ntmps138;go_wp2_with (at_make; refine ir rfl (.tmp 9) (.tmp 9) 33 rfl w.heap.size 73 .u32 4 Tryz.underlying33 gH _ c rfl rfl rfl (by omega) (by unfold maxLen; omega) (Qu _) ?_; intro w1 v A);go_loopw [13] (fun i wr=>∃(k:Nat) (pre:List Int),k<=c/\i=.int .i64 k/\Hid (pre.length=k/\Ds pre/\pre++oC (2 ^ s) (2 ^ (32-s)) (l.drop k)=oC (2 ^ s) (2 ^ (32-s)) l) /\
     wr.ownsRow w.heap.size 73 1 (.slice (some ⟨w.heap.size,0,none⟩) c c) c ((pre++List.replicate (c-k) 0).map (Value.int .u32))/\Below w.heap.size w wr) (fun i _=>c-(intOf i).toNat)
 case atStart=>exact⟨0,[],QE _,rfl,⟨rfl,Ds.nil,rfl⟩,v,A⟩
 case round =>
  obtain⟨k,pre,hk,rfl,a,h,q⟩:=hrel
  by_cases j:k<c
  ·obtain⟨bx,ox,rfl,B,C⟩:=K.out k (by omega);have B:=Rq q B;have D:=wf_u32 C;obtain⟨E,F⟩:=fM h k (by omega);have d:(2:Int) ^ s=2 ^ s:=rfl;by_cases m:k+1<c
   ·obtain⟨by_,oy,L,G,M⟩:=K.out (k+1) (by omega);simp only[Q7,TP,SK]at L;obtain⟨rfl,rfl⟩:=L;have dy:=wf_u32 M;have H:=Qt (ET (2 ^ s) (2 ^ (32-s)) l k (by rw[u.out]; exact m));have V:=Qt G;have I:=Qt (show IntKind.u64.wrap (l[k+1]?.getD 0*2 ^ (32-s)) % 4294967296=l[k+1]?.getD 0*2 ^ (32-s) % 4294967296 by
     rw[IntKind.wrap_u64];generalize l[k+1]?.getD 0*2 ^ (32-s)=z;omega)
    generalize l[k]?.getD 0=x at *;generalize l[k+1]?.getD 0=y at *;have O:=Qt (zl t x y D dy);have W:=Qt (show((pre++[x / 2 ^ s])++List.replicate (c-(k+1)) 0)[k]?.getD 0=x / 2 ^ s by
     rw[QP,QT (by rw[a.out.1]; exact Qu _),a.out.1,Sz]; rfl)
    clear C M d G;go_wp2;have f:=eN h k (x / 2 ^ s);rw[gy a.out.1 j]at f;have n:=q.setCell (p:=⟨w.heap.size,k,none⟩) (Qu _) (.int .u32 (x / 2 ^ s));have G:=Rq n V.out;obtain⟨o,P⟩:=fM f k (by omega);rw[W.out]at o;generalize (wr.setCell ⟨w.heap.size,k,none⟩ (.int .u32 (x / 2 ^ s)))=w2 at *;clear E F B;go_region;go_wp2;rw[I.out,O.out.1];refine⟨⟨k+1,pre++[x / 2 ^ s+y*2 ^ (32-s) % 4294967296],by omega,by go_num,⟨by simp[a.out.1],a.out.2.1.app (Ds.cons O.out.2 Ds.nil),?_⟩,?_,(n.setCell (Qu _) _).drew⟩,by simp[intOf]; omega⟩
    ·rw[<-a.out.2.2,H.out,QP]; rfl
    ·have:=(eN f k (x / 2 ^ s+y*2 ^ (32-s) % 4294967296)).drew;rw[QP,Ub _ _ (by rw[a.out.1]; exact Qu _),a.out.1,Sz]at this;rw[QP];exact this
   ·have H:=Qt (Fc (2 ^ s) (2 ^ (32-s)) l k (by rw[u.out]; omega));have X:=Qt (show 0<=l[k]?.getD 0 / 2 ^ s/\l[k]?.getD 0 / 2 ^ s<4294967296 by
     have:=U.out;refine⟨Sn D.1 (by omega),?_⟩;have:=TQ (2 ^ s) D.1;omega)
    generalize l[k]?.getD 0=x at *;clear C d;go_wp2;refine⟨⟨k+1,pre++[x / 2 ^ s],by omega,by go_num,⟨by simp[a.out.1],a.out.2.1.app (Ds.cons X.out Ds.nil),?_⟩,?_,q.setCell (Qu _) _⟩,by simp[intOf]; omega⟩
    ·rw[<-a.out.2.2,H.out,QP]; rfl
    ·have:=eN h k (x / 2 ^ s);rwa [gy a.out.1 j]at this
  ·obtain rfl:k=c:=by omega
   have Q:=Qt (show pre=oC (2 ^ s) (2 ^ (32-s)) l by
    have R:=a.out.2.2;rw[Q3 (by rw[u.out]; exact Qu _),oC,Q9]at R;exact R)
   have S:=Qt (aaN t l);rw[<-Q.out]at S;have Y:=Qt a.out.2.1;rw[Sz,SP,Q9]at h;clear a Q;go_wp2_with fail;refine(rW h Y.out).mono ?_;rintro e w' ⟨Z,rfl,T,rfl⟩;rw[S.out]at T;go_wp2_with fail;go_ret;exact⟨Z,rfl,T,q⟩
def Av(base g m:Nat)(w:World)(L:List Int):Prop:=w.ownsRow base 73 1 (.slice (some ⟨g,0,none⟩) m m) m (L.map (Value.int .u32))
def aaZ(base:Nat)(w:World)(v:Value)(l:List Int):Prop:=∀ a,Below base w a->Row .u32 a v l
def abN(base g m:Nat)(w:World)(L V:List Int)(j:Nat)(f:Int)(e:Ending)(w':World):Prop :=
 ∃ b:Bool,e=.returned (.bool b)/\(Bq f (L.drop j) V 0 0=if b then 1 else 0)/\Av base g m w' (L.take j++rF f (L.drop j) V 0 0)/\jk g w w'
theorem FW(t:Int)(h0:0<=t)(h1:t<18446744073709551616):bits .and .u64 t 4294967295=t % 4294967296:=by
 obtain⟨n,rfl⟩:=QV h0;rw[show(4294967295:Int)=((4294967295:Nat):Int)from rfl,u64_and_nat _ _ (by omega) (by decide),show(4294967295:Nat)=2 ^ 32-1 from rfl,V8];omega
theorem Qq(H:Value)(base g m I:Nat)(L V:List Int)(j:Nat)(f:Int)(w:World)(l:Av base g m w L)(B:aaZ base w H V)(C:base<=g)(D:base<=w.heap.size)(J:Ds L)
    (hj:j+V.length+1<=m) (hm:m<=8589934592) (Q:V.length+1<=I) (R:0<=f/\f<4294967296) :
    Calls Tryz.prog 136 #[.slice (some ⟨g,j,none⟩) (V.length+1) I,H,.int .u64 f] w (abN base g m w L V j f):=by
 have q:L.length=m:=by have:=l.1; simpa using this
 have S:=Qt l;have T:=Qt B;have r:=Qt J;have s:=Qt q;have a:=B w (QG _ _);have U:=Qt (Row.ds a);obtain⟨a2,p2,rfl,g2,m2,_⟩:=Row.parts a;clear l B J q a;generalize K:V.length=n at *;have A:=Qt K;clear K;go_enter Tryz.func136,Tryz.ntmps136;go_wp2;go_loopw [8,9,19] (fun t u i wr=>∃(k:Nat) (c b:Int) (pre:List Int),k<=n/\i=.int .i64 k/\t=.int .u64 c/\u=.int .u64 b/\0<=c/\c<4294967296/\0<=b/\b<=1 /\
     Hid (pre.length=j+k/\Ds pre/\pre++rF f (L.drop (j+k)) (V.drop k) c b=L.take j++rF f (L.drop j) V 0 0/\Bq f (L.drop (j+k)) (V.drop k) c b=Bq f (L.drop j) V 0 0) /\
     Av base g m wr (pre++L.drop (j+k))/\jk g w wr) (fun _ _ i _=>n-(intOf i).toNat)
 case atStart=>exact⟨0,0,0,L.take j,QE _,rfl,rfl,rfl,by omega,by omega,by omega,by omega,⟨by simp; have:=s.out; omega,r.out.take j,rfl,rfl⟩,by rw[Se,Q6]; exact S.out,jk.refl _ _⟩
 case round =>
  obtain⟨k,c,b,pre,hk,rfl,rfl,rfl,W,X,Y,Z,h,l,E⟩:=hrel
  have d:j+k<L.length:=by have:=s.out; omega
  obtain⟨F,aa⟩:=fM l (j+k) (by omega)
  rw[lO h.out.1 d]at F
  have dr:=r.out.at (j+k)
  by_cases v:k<n
  ·obtain⟨a',c',M,_,_,e⟩:=Row.parts (T.out wr (E.below D C));simp only[TM]at M;obtain⟨rfl,_,rfl⟩:=M;obtain⟨by_,oy,rfl,qy,N⟩:=e k (by rw[A.out]; exact v);have dy:=wf_u32 N;clear e N;have ab:=qS R dy;have p:=Qt (ID f L V j k c b d (by rw[A.out]; exact v));have G:=Qt (gY h.out.1 d);generalize V[k]?.getD 0=y at *;generalize L[j+k]?.getD 0=z at *;have O:=FW (f*y+c) (by omega) (by omega);have x:=Qt (yv z ((f*y+c) % 4294967296) b dr (by omega) (by omega));go_wp2;rw[x.out.1,x.out.2];refine⟨⟨k+1,(f*y+c) / 4294967296,-((z-(f*y+c) % 4294967296-b) / 4294967296),pre++[(z-(f*y+c) % 4294967296-b) % 4294967296],by omega,by go_num,rfl,rfl,by omega,by omega,by omega,by omega,⟨?_,h.out.2.1.app (Ds.cons (by omega) Ds.nil),?_,?_⟩,?_,E.set _ _⟩,by simp[intOf]; omega⟩
   ·have:=h.out.1; simp; omega
   ·rw[<-h.out.2.2.1,p.out.1,QP]; rfl
   ·rw[<-h.out.2.2.2,p.out.2]
   ·have:=eN l (j+k) ((z-(f*y+c) % 4294967296-b) % 4294967296);rw[G.out]at this;exact this
  ·obtain rfl:k=n:=by omega
   have p:=Qt (Ip f L V j c b (by rw[A.out]; exact d));rw[A.out]at p;have G:=Qt (gY h.out.1 d);generalize L[j+k]?.getD 0=z at *;have x:=Qt (yv z c b dr (by omega) (by omega));have o:=eN l (j+k) ((z-c-b) % 4294967296);rw[G.out,QP]at o;have HE:=Qt (show pre++([(z-c-b) % 4294967296]++L.drop (j+k+1))=L.take j++rF f (L.drop j) V 0 0 by
    rw[<-h.out.2.2.1,p.out.1]; rfl)
   have HF:=Qt (show Bq f (L.drop j) V 0 0 = -((z-c-b) / 4294967296) by
    rw[<-h.out.2.2.2,p.out.2])
   rw[HE.out]at o;go_wp2;go_ret;refine⟨decide (-((z-c-b) / 4294967296)=1),?_,?_,?_,E.set _ _⟩
   ·show Ending.returned (.bool (IntKind.u64.wrap (IntKind.u64.wrap (z-c)-b) / 9223372036854775808 == 1))=_;rw[x.out.2]; rfl
   ·rw[HF.out];by_cases P:-((z-c-b) / 4294967296)=1
    ·simp[P]
    ·simp[P]; omega
   ·rw[x.out.1];exact o
def abI(base g m:Nat)(w:World)(L V:List Int)(j:Nat)(e:Ending)(w':World):Prop :=
 e=.returned (.tuple #[])/\Av base g m w' (L.take j++tW (L.drop j) V 0)/\jk g w w'
theorem NI(D:Value)(base g m E:Nat)(L V:List Int)(j:Nat)(w:World)(e:Av base g m w L)(u:aaZ base w D V)(v:base<=g)(x:base<=w.heap.size)(F:Ds L)
    (S:j+V.length+1<=m) (T:m<=8589934592) (J:V.length+1<=E) :
    Calls Tryz.prog 137 #[.slice (some ⟨g,j,none⟩) (V.length+1) E,D] w (abI base g m w L V j):=by
 have l:L.length=m:=by have:=e.1; simpa using this
 have K:=Qt e;have M:=Qt u;have o:=Qt F;have p:=Qt l;have a:=u w (QG _ _);have N:=Qt (Row.ds a);obtain⟨U,W,rfl,X,Y,_⟩:=Row.parts a;clear e u F l a;generalize G:V.length=n at *;have r:=Qt G;clear G;go_enter Tryz.func137,Tryz.ntmps137;go_wp2;go_loopw [4,10] (fun t i wr=>∃(k:Nat) (c:Int) (pre:List Int),k<=n/\i=.int .i64 k/\t=.int .u64 c/\0<=c/\c<=1 /\
     Hid (pre.length=j+k/\Ds pre/\pre++tW (L.drop (j+k)) (V.drop k) c=L.take j++tW (L.drop j) V 0) /\
     Av base g m wr (pre++L.drop (j+k))/\jk g w wr) (fun _ i _=>n-(intOf i).toNat)
 case atStart=>exact⟨0,0,L.take j,QE _,rfl,rfl,by omega,by omega,⟨by simp; have:=p.out; omega,o.out.take j,rfl⟩,by rw[Se,Q6]; exact K.out,jk.refl _ _⟩
 case round =>
  obtain⟨k,c,pre,hk,rfl,rfl,O,P,f,e,A⟩:=hrel
  have b:j+k<L.length:=by have:=p.out; omega
  obtain⟨B,Q⟩:=fM e (j+k) (by omega)
  rw[lO f.out.1 b]at B
  have dr:=o.out.at (j+k)
  by_cases q:k<n
  ·obtain⟨Z,c',H,_,_,d⟩:=Row.parts (M.out wr (A.below x v));simp only[TM]at H;obtain⟨rfl,_,rfl⟩:=H;obtain⟨by_,oy,rfl,qy,I⟩:=d k (by rw[r.out]; exact q);have dy:=wf_u32 I;clear d I;have s:=Qt (J1 L V j k c b (by rw[r.out]; exact q));have C:=Qt (gY f.out.1 b);generalize V[k]?.getD 0=y at *;generalize L[j+k]?.getD 0=z at *;go_wp2;refine⟨⟨k+1,(z+y+c) / 4294967296,pre++[(z+y+c) % 4294967296],by omega,by go_num,rfl,by omega,by omega,⟨?_,f.out.2.1.app (Ds.cons (by omega) Ds.nil),?_⟩,?_,A.set _ _⟩,by simp[intOf]; omega⟩
   ·have:=f.out.1; simp; omega
   ·rw[<-f.out.2.2,s.out,QP]; rfl
   ·have:=eN e (j+k) ((z+y+c) % 4294967296);rw[C.out]at this;exact this
  ·obtain rfl:k=n:=by omega
   have s:=Qt (H_ L V j c (by rw[r.out]; exact b));rw[r.out]at s;have C:=Qt (gY f.out.1 b);generalize L[j+k]?.getD 0=z at *;have h:=eN e (j+k) ((z+c) % 4294967296);rw[C.out,QP]at h;have R:=Qt (show pre++([(z+c) % 4294967296]++L.drop (j+k+1))=L.take j++tW (L.drop j) V 0 by
    rw[<-f.out.2.2,s.out]; rfl)
   rw[R.out]at h;go_wp2;go_end0;refine⟨rfl,?_,A.set _ _⟩;exact h
def F'(w:World)(q:Int)(e:Ending)(w':World):Prop :=
 ∃ g:Int,e=.returned (.int .u64 g)/\0<=g/\g<4294967296/\q<=g/\g<=q+1/\Below w.heap.size w w'
theorem abG(vu vv:Value)(W V:List Int)(n:Nat)(w:World)(hu:Row .u32 w vu W)(hv:Row .u32 w vv V)(hW:W.length=n+3)(hV:V.length=n+2)(hn:n<=4294967296)
    (aq:2147483648<=V[n+1]?.getD 0) (A:N W<N V*4294967296) :
    Calls Tryz.prog 135 #[vu,vv] w (F' w (N W / N V)):=by
 have J:=Row.ds hu;have DV:=Row.ds hv;obtain⟨K,uL,uH⟩:=ON J n hW;obtain⟨L,vL,vH⟩:=OL DV n hV;have O:=fK n;obtain⟨a1,p1,rfl,g1,m1,cu⟩:=Row.parts hu;obtain⟨a2,p2,rfl,g2,m2,cv⟩:=Row.parts hv;obtain⟨b1,o1,rfl,q0,_⟩:=cu n (by omega);obtain⟨aa,ab,v,q1,_⟩:=cu (n+1) (by omega);simp only[Q7,TP,SK]at v;obtain⟨rfl,rfl⟩:=v;obtain⟨aa,ab,v,q2,_⟩:=cu (n+2) (by omega);simp only[Q7,TP,SK]at v;obtain⟨rfl,rfl⟩:=v;obtain⟨b2,o2,rfl,r0,_⟩:=cv n (by omega);obtain⟨ar,au,v,z,_⟩:=cv (n+1) (by omega);simp only[Q7,TP,SK]at v;obtain⟨rfl,rfl⟩:=v;have d0:=J.at n;have d1:=J.at (n+1);have d2:=J.at (n+2);have f0:=DV.at n;have f1:=DV.at (n+1);rw[hW]at g1 ⊢;rw[hV]at g2 ⊢;clear cu cv hu hv J DV;generalize W[n]?.getD 0=P at *;generalize W[n+1]?.getD 0=e at *;generalize W[n+2]?.getD 0=f at *;generalize V[n]?.getD 0=Q at *;generalize V[n+1]?.getD 0=v1 at *;generalize N (W.take n)=Ul at *;generalize N (V.take n)=Vl at *;generalize Bp n=M at *;generalize N W=r at *;generalize N V=o at *;have k:f*4294967296+e<=v1*4294967296+4294967295:=P' O vH uL f0.2 d0.1 K L A;have ac:1<=o:=by
  have:=QU (show 1<=Q+4294967296*v1 by omega) (show 0<=M by omega);omega
 have ad:0<=r / o:=Sn (by
  have:=Ss (show 0<=M by omega) (show 0<=P+4294967296*(f*4294967296+e) by omega);omega) (by omega)
 have B:r / o*o<=r:=Int.ediv_mul_le _ (by omega);have R:r<(r / o+1)*o:=by
  have:=Int.lt_ediv_add_one_mul_self r (show 0<o by omega);exact this
 have ae:=Qt (GK O vL uH (show 1<=v1 by omega) f0.1 d0.2 ad K L B);have S:Hid (∀ g c:Int,0<=g->f*4294967296+e=g*v1+c->(4294967296<=g∨c*4294967296+P<g*Q)->r / o<=g-1) :=
  fun g c s p l=>Nz O vL uH s ac K L B A p l
 have C:Hid (∀ g c:Int,0<=g/\g<4294967296->f*4294967296+e=g*v1+c->(4294967296<=c∨g*Q<=c*4294967296+P)->g<=r / o+1) :=
  fun g c s p D=>Pb O ⟨vL,vH⟩ uL s (by omega) f0 d0.1 K L R p D
 generalize r / o=q at *;clear K L A B R O vL vH uL uH hW hV;have T:=wS f e d2 d1;have U:0<=(f*4294967296+e) / v1/\0<=(f*4294967296+e) % v1/\(f*4294967296+e) % v1<v1:=⟨Sn (by omega) (by omega),Si _ (by omega),RD _ (by omega)⟩;have E:=Qt (UH (f*4294967296+e) v1);go_enter Tryz.func135,Tryz.ntmps135;go_wp2;go_quiet (fail);have i:=RY (QG w.heap.size w) nq;have CQ:=Qt (And.intro q0 (And.intro r0 z));have q0:=Rq i q0;have q1:=Rq i q1;have q2:=Rq i q2;have r0:=Rq i r0;have z:=Rq i z;generalize w.drewN nq=w1 at *;go_wp2;have af:(f*4294967296+e) / v1<=4294967297:=by
  have h1:=E.out;rcases Tg 4294967297 ((f*4294967296+e) / v1)with hh|hh
  ·have:=QU (show 4294967298<=(f*4294967296+e) / v1 by omega) (show 0<=v1 by omega);omega
  ·exact hh
 have X:=Qt (show f*4294967296+e=(f*4294967296+e) / v1*v1+(f*4294967296+e) % v1 by rw[RO _ v1]; exact E.out.symm);clear E T;have Y:=Qt k;clear k;generalize (f*4294967296+e) / v1=ah at *;generalize (f*4294967296+e) % v1=ai at *;generalize f*4294967296+e=top at *;obtain⟨F,G,aj⟩:=U;go_loopw [7,8] (fun a b wr=>∃ g c:Int,a=.int .u64 g/\b=.int .u64 c/\0<=g/\g<=4294967297/\0<=c/\c<4294967296/\Hid (top=g*v1+c)/\Hid (q<=g)/\Below w.heap.size w wr) (fun a _ _=>(intOf a).toNat)
 case atStart=>exact⟨ah,ai,rfl,rfl,F,af,G,by omega,X.out,ae.out,i⟩
 case round =>
  obtain⟨g,c,rfl,rfl,s,av,ak,al,p,hq,I⟩:=hrel
  have q0:=Rq I CQ.out.1
  have r0:=Rq I CQ.out.2.1
  have z:=Rq I CQ.out.2.2
  by_cases an:4294967296<=g
  ·have m:=S.out g c s p.out (.inl an);have ao:decide (4294967296<=g)=true:=by simp; omega
   have t:=Qt (show top=(g-1)*v1+(c+v1) by rw[Vb,Tt]; have:=p.out; omega);have u:=Qt m;clear m;go_wp2;go_quiet (fail);have j:=RY I nq;have z:=Rq (RY (QG _ wr) nq) z;generalize wr.drewN nq=w2 at *;by_cases H:4294967296<=c+v1
   ·have Z:g-1<4294967296:=by
      rcases Tg 4294967296 g with hh|hh
      ·obtain rfl:g=4294967297:=by omega
       have:=p.out;have:=Y.out;omega
      ·omega
    have d:=C.out (g-1) (c+v1) ⟨by omega,Z⟩ t.out (.inl H);have h:=Qt d;clear d;go_wp2;go_ret;exact⟨g-1,rfl,by omega,Z,u.out,h.out,j⟩
   ·go_wp2;exact⟨⟨g-1,c+v1,rfl,rfl,by omega,by omega,by omega,by omega,t.out,u.out,j⟩,by simp[intOf]; omega⟩
  ·have ao:decide (4294967296<=g)=false:=by simp; omega
   have aw:=qS (x:=g) (y:=Q) ⟨s,by omega⟩ f0;have T:=wS c P ⟨ak,al⟩ d0;by_cases l:c*4294967296+P<g*Q
   ·have m:=S.out g c s p.out (.inr l);have t:=Qt (show top=(g-1)*v1+(c+v1) by rw[Vb,Tt]; have:=p.out; omega);have u:=Qt m;have ax:1<=g:=by omega
    clear m;go_wp2;go_quiet (fail);have j:=RY I nq;have z:=Rq (RY (QG _ wr) nq) z;generalize wr.drewN nq=w2 at *;by_cases H:4294967296<=c+v1
    ·have d:=C.out (g-1) (c+v1) ⟨by omega,by omega⟩ t.out (.inl H);have h:=Qt d;clear d;go_wp2;go_ret;exact⟨g-1,rfl,by omega,by omega,u.out,h.out,j⟩
    ·go_wp2;exact⟨⟨by omega,by omega⟩,by simp[intOf]; omega⟩
   ·have d:=C.out g c ⟨s,by omega⟩ p.out (.inr (by omega));have h:=Qt d;clear d;go_wp2;go_quiet (fail);have j:=RY I nq;generalize wr.drewN nq=w2 at *;go_wp2;go_ret;exact⟨g,rfl,s,by omega,hq.out,h.out,j⟩
theorem eS.keep{base:Nat}{w w':World}{v:Value}{n:Int}(h:eS base w v n)(a:Below w.heap.size w w'):eS base w' v n:=by
 obtain⟨l,b,c,d,e⟩:=h;exact⟨l,b.keep a,c,d,e.keep a⟩
theorem eS.mono{base base':Nat}{w:World}{v:Value}{n:Int}(h:eS base w v n)(a:base'<=base):eS base' w v n:=by
 obtain⟨l,b,c,d,e⟩:=h;exact⟨l,b,c,d,e.mono a⟩
def abx(base:Nat)(w:World)(q r:Int)(e:Ending)(w':World):Prop :=
 ∃ a b,e=.returned (.tuple #[a,b])/\eS base w' a q/\eS base w' b r/\Below base w w'
theorem PT{V:List Int}(b:Ds V)(k:Nat)(hk:V.length=k+1)(c:Int)(h:c*Bp k<=N V):c<=V[k]?.getD 0:=by
 have e:=fA V k (by omega);have d:N (V.drop k)=V[k]?.getD 0:=by rw[iK (by omega),Q3 (by omega)]; simp[N]
 have f:=jA (b.take k);have g:(V.take k).length=k:=by simp; omega
 rw[g]at f;rw[d]at e;rcases Tg (V[k]?.getD 0) c with a|a
 ·exfalso;have:=R' (show V[k]?.getD 0+1<=c by omega) (show 0<=Bp k by have:=fK k; omega);rw[T6,Tt,RO]at this;omega
 ·exact a
theorem FJ{l2:List Int}(a:Canon l2)(n:Nat)(e:l2.length=n+2):∃ s:Nat,s<32/\(32:Int)-(Lib.bitLen (l2[n+1]?.getD 0).toNat:Int)=(s:Int) /\
    N l2*2 ^ s<Bp (n+2)/\2147483648*Bp (n+1)<=N l2*2 ^ s/\0<=l2[n+1]?.getD 0/\l2[n+1]?.getD 0<=4294967295:=by
 have b:=nL a (n+1) (by omega);have d:=a.1.at (n+1);have t:=mr _ b.2 d.2;have c:=qX (a.pos (by rintro rfl; simp at e));rw[b.1]at c;generalize Lib.bitLen (l2[n+1]?.getD 0).toNat=T at *;refine⟨32-T,by omega,by omega,?_,?_,d.1,by omega⟩
 ·have:=Ue c.2.1 (show(0:Int)<2 ^ (32-T) by have:=two_pos (32-T); omega);rw[<-TK,show 32*(n+1)+T+(32-T)=32*(n+2) by omega,<-oZ]at this;exact this
 ·have:=R' c.1 (show(0:Int)<=2 ^ (32-T) by have:=two_pos (32-T); omega);rw[<-TK,show 32*(n+1)+T-1+(32-T)=31+32*(n+1) by omega,TK,<-oZ]at this;exact this
theorem Kc{l1 l2:List Int}(a:Ds l1)(n s K:Nat)(b:s<32)(c:n+1+K=l1.length)(h:2147483648*Bp (n+1)<=N l2*2 ^ s):N l1*2 ^ s<N l2*2 ^ s*Bp K/\N l1*2 ^ s<Bp (l1.length+1):=by
 have d:=jA a;have e:=ni b;have g:=Ue d (show(0:Int)<2 ^ s by omega);have i:=QU e.2 (show 0<=Bp l1.length by have:=fK l1.length; omega);have f:=R' h (show 0<=Bp K by have:=fK K; omega);rw[RL,<-re,c]at f;have:=fK l1.length;rw[Bp];omega
theorem step_eq(q g b v r:Int):q*(4294967296*b)*v+r=(g+4294967296*q)*b*v+(r-b*(g*v)):=by
 have a:q*(4294967296*b)*v=4294967296*(q*b*v):=by rw[Sf q,RL]
 have c:(g+4294967296*q)*b*v=b*(g*v)+4294967296*(q*b*v):=by
  rw[T6,T6,RL 4294967296,RL 4294967296,RL g b,Sf g b]
 rw[a,c]; omega
theorem JB{L V qs l1 l2:List Int}{s j n:Nat}(w:s<32)(d:Ds L)(h:Ds qs/\N L<N V*Bp 0/\N l1*2 ^ s=N qs*Bp 0*N V+N L)(o:0<N V)(f:Ds V)(p:L.length=j+1)(g:V.length=n+2)(i:N V=N l2*2 ^ s)(x:n+2<=j) :
    N qs=N l1 / N l2/\N ((L.drop 0).take (n+2)) / 2 ^ s=N l1 % N l2:=by
 obtain⟨_,k,l⟩:=h;simp only[Bp,S3]at k l;have A:=two_pos s;have t:=eQ d;have u:=(WX (a:=N l1*2 ^ s) (b:=N V) (r:=N L) (q:=N qs) o).2 ⟨by rw[l,RO (N V)]; omega,t,k⟩;rw[i,Wf _ _ (by omega)]at u;rw[pR _ _ (by omega)]at u;refine⟨u.1.symm,?_⟩;have c:N (L.take (n+2))=N L:=by
  have e:=fA L (n+2) (by omega);have z:=eQ (d.drop (n+2));have y:=eQ (d.take (n+2));have v:=jA f;rw[g]at v;rcases Uv z with m|m
  ·exfalso;have:=QU (show 1<=N (L.drop (n+2)) by omega) (show 0<=Bp (n+2) by have:=fK (n+2); omega);rw[S3]at this;omega
  ·rw[<-m,TL]at e; omega
 rw[RP,c,<-u.2,Int.mul_ediv_cancel _ (by omega)]
theorem Lv(v1 v2:Value)(l1 l2:List Int)(n:Nat)(w:World)(r1:Row .u32 w v1 l1)(r2:Row .u32 w v2 l2)(C1:Canon l1)(C2:Canon l2)(hn:l2.length=n+2)(aF:l2.length<=l1.length)(hl:l1.length<=4294967296) :
    Calls Tryz.prog 127 #[v1,v2] w (abx w.heap.size w (N l1 / N l2) (N l1 % N l2)):=by
 obtain⟨s,hs,es,r,u,aG,aH⟩:=FJ C2 n hn;obtain⟨K,hK⟩:∃ K,n+1+K=l1.length:=⟨l1.length-(n+1),by omega⟩;have ae:=Kc C1.1 n s K hs hK u;have aX:n+2<=l1.length/\K<=l1.length/\n+1+K=l1.length:=by omega
 clear aF hK;have aI:=Qt r1;have af:=Qt r2;have HC:=Qt (And.intro C1 C2);have HS:=Qt (And.intro r (And.intro u ae));obtain⟨a1,p1,rfl,g1,m1,_⟩:=Row.parts r1;obtain⟨a2,p2,rfl,g2,m2,c2⟩:=Row.parts r2;obtain⟨b2,o2,rfl,q2,_⟩:=c2 (n+1) (by omega);clear c2 r1 r2 C1 C2 r u ae;generalize l2[n+1]?.getD 0=x at *;have ah:=Qt es;clear es;rw[hn]at g2 af ⊢;generalize ai:l1.length=m at *;have J:=Qt (And.intro ai hn);clear ai hn;go_enter Tryz.func127,Tryz.ntmps127;go_wp2_with fail;refine(Tryz.bits_LeadingZeros32 x w aG aH).mono ?_;rintro e w' ⟨rfl,aJ⟩;obtain rfl:=aJ.symm;rw[ah.out];go_wp2_with fail;rw[show((n:Int)+2)=((n+2:Nat):Int) by omega];refine(shiftLeft _ l2 s (n+2) w af.out (by rw[J.out.2]; omega) hs (.inl J.out.2.symm) HS.out.1).mono ?_;rintro e q ⟨V,rfl,DV,NV,aj,M⟩;have v:=Qt (And.intro DV NV);have ak:=Qt aj;clear DV NV aj;go_wp2_with fail;rw[show((m:Int)+1)=((m+1:Nat):Int) by omega];refine(shiftLeft _ l1 s (m+1) q (aI.out.keep M) (by rw[J.out.1]; omega) hs (.inr (by rw[J.out.1])) (by have:=HS.out.2.2.2; exact this)).mono ?_;rintro e w2 ⟨L0,rfl,DL,NL,h,y⟩;have T:=Qt (And.intro DL NL);have al:=Qt h;clear DL NL h;have aK:=Qt (show(m:Int)-((n:Int)+2)+1=((K:Nat):Int) by omega);go_wp2_with (at_make; refine ir rfl (.tmp 35) (.tmp 35) 33 rfl w2.heap.size 73 .u32 4 Tryz.underlying33 gH _ K rfl rfl aK.out (by omega) (by unfold maxLen; omega) (Qu _) ?_; intro w3 U f);have an:=rv al.out;have ao:=Qt (jv al.out (f.block _ an.1));have W:Hid (∀ wr,Below q.heap.size q wr->aaZ q.heap.size wr (.slice (some ⟨w.heap.size,0,none⟩) (n+2) (n+2)) V):=fun wr X w' aL =>
  (Row.rN ak.out (fun d hd=>wO (v.out.1 d hd))).keep (X.trans aL)
 have z:V.length=n+2:=by have:=ak.out.1; simpa using this
 have c:=Qt z;have l:=Qt (show 2147483648<=V[n+1]?.getD 0/\0<N V by
  have h1:=HS.out.2.1;rw[<-v.out.2]at h1;refine⟨PT v.out.1 (n+1) (by omega) _ h1,?_⟩;have:=fK (n+1);omega)
 clear z ah;go_loopw [10] (fun t wr=>∃(k:Nat) (L qs:List Int),k<=K/\t=.int .i64 ((k:Int)-1)/\Hid (Ds L/\Ds qs/\N L<N V*Bp k/\N l1*2 ^ s=N qs*Bp k*N V+N L)/\Av q.heap.size q.heap.size (m+1) wr L /\
     wr.ownsRow w2.heap.size 73 1 (.slice (some ⟨w2.heap.size,0,none⟩) K K) K ((List.replicate k 0++qs).map (Value.int .u32))/\Below q.heap.size q wr) (fun t _=>(intOf t+1).toNat)
 case atStart =>
  refine⟨K,L0,[],Qu _,?_,⟨T.out.1,Ds.nil,?_,?_⟩,ao.out,by rw[Q9]; exact U,y.trans (f.mono y.size)⟩
  ·rw[show(m:Int)-((n:Int)+2)=(K:Int)-1 by omega]
  ·rw[T.out.2,v.out.2]; exact HS.out.2.2.1
  ·rw[T.out.2]; simp[N]
 case round =>
  obtain⟨k,L,qs,hk,rfl,hp,h,A,X⟩:=hrel
  have a:=Qt hp.out
  have B:L.length=m+1:=by have:=h.1; simpa using this
  have i:=Qt B
  clear B
  rcases k with _|j
  ·have P:=JB (l1:=l1) (l2:=l2) hs a.out.1 a.out.2 l.out.2 v.out.1 i.out c.out v.out.2 (by omega);have Q:=Qt P;have aM:=Qt a.out.2.1;rw[SP,RX]at A;have C:=Qt A.drew;have aN:=Qt (BN h.drew (fun d hd=>wO (a.out.1 d hd)) 0 (n+2) (m+1) (by omega) (by omega) (by unfold maxLen; omega));have aO:=Qt (show((L.drop 0).take (n+2)).length<=4294967296 by simp; omega);have Y:Below w.heap.size w wr.drew:=(M.trans (X.mono M.size)).drew;have aY:=M.size;have aZ:=y.size;clear P hp h A U f a i;go_wp2_with fail;go_region_with (first
    | (go_at_call 91; refine(rW C.out aM.out).mono ?_; rintro e w' ⟨vq,rfl,hq,rfl⟩)
    | (go_at_call 138; refine(shiftRight _ _ s _ aN.out aO.out hs).mono ?_; rintro e w' ⟨vr,rfl,hr,aq⟩))
   all_goals
    go_wp2
    go_ret2
    rw[Q.out.1]at hq
    rw[Q.out.2]at hr
    exact⟨vq,vr,rfl,(hq.keep aq).mono (by omega),hr.mono Y.size,Y.trans (aq.mono Y.size)⟩
  ·have D:=W.out wr X;have ar:=Qt D;have o:=Qt h;have C:=Qt A;clear D hp h A U f;have E:j+(n+2)+1<=m+1:=by omega
   have au:=Qt (aa1 a.out.1 v.out.1 (by rw[i.out,c.out]; exact E) a.out.2.2.1);have aP:=Qt (show((L.drop j).take (n+3)).length=n+3 by simp; have:=i.out; omega);rw[c.out]at au;go_wp2_with fail;rw[show j+(n+2)+1-j=n+3 by omega];refine(abG _ _ ((L.drop j).take (n+3)) V n wr (BN o.out (fun d hd=>wO (a.out.1 d hd)) j (n+3) (m+1-j) (by omega) (by omega) (by unfold maxLen; omega)) (ar.out wr (QG _ _)) aP.out c.out (by omega) l.out.1 au.out).mono ?_;rintro e wg ⟨g,rfl,av,aw,ax,ay,F⟩;have HQ:=Qt (And.intro ax ay);have aQ:=rv o.out;have Z:=rv C.out;have aa:=Qt (jv o.out (F.block _ aQ.1));have az:=Qt (jv C.out (F.block _ Z.1));have ab:=X.trans (F.mono X.size);have aA:=Qt (W.out wg ab);have aB:=ab.size;have aC:q.heap.size≠w2.heap.size:=by omega
   clear ax ay o C ar X;go_wp2_with fail;rw[show j+(n+2)+1-j=V.length+1 by rw[c.out]; omega];refine(Qq _ q.heap.size q.heap.size (m+1) (m+1-j) L V j g wg aa.out aA.out (Qu _) aB a.out.1 (by rw[c.out]; omega) (by omega) (by rw[c.out]; omega) ⟨av,aw⟩).mono ?_;rintro e ws ⟨b,rfl,hF,O,ac⟩;have G:=Qt (jv az.out (ac.block _ (QI Z.1 F.size) (by simp; omega)));have f:=ab.trans (ac.below aB (Qu _));cases b
   ·have I:=Qt (FL a.out.1 v.out.1 (by rw[i.out,c.out]; exact E) l.out.2 a.out.2.2.1 (by rw[c.out]; exact HQ.out.1) hF);rw[c.out]at I;have H:=Qt (CN a.out.1 v.out.1 (by rw[i.out,c.out]; exact E) l.out.2 a.out.2.2.1);rw[c.out,<-I.out.1]at H;have aR:=Qt O;clear O hF;obtain⟨aS,aT⟩:=fM G.out j (by omega);go_wp2;refine⟨⟨j,L.take j++rF g (L.drop j) V 0 0,g::qs,by omega,by go_num,⟨(a.out.1.take j).app (wP g (L.drop j) V 0 0 (a.out.1.drop j)),Ds.cons ⟨av,aw⟩ a.out.2.1,?_,?_⟩,?_,?_,f.setCell (p:=⟨w2.heap.size,j,none⟩) y.size _⟩,by simp[intOf]⟩
    ·rw[I.out.2]; exact H.out
    ·rw[I.out.2,a.out.2.2.2,N,Bp];exact step_eq _ _ _ _ _
    ·exact jv aR.out (Vw _ _ _ _ (by simpa using aC))
    ·have:=eN G.out j g;rwa [rD rfl]at this
   ·have I:=Qt (Km a.out.1 v.out.1 (by rw[i.out,c.out]; exact E) l.out.2 a.out.2.2.1 (by rw[c.out]; exact HQ.out.2) hF);rw[c.out]at I;have H:=Qt (CN a.out.1 v.out.1 (by rw[i.out,c.out]; exact E) l.out.2 a.out.2.2.1);rw[c.out,<-I.out.1]at H;have ba:1<=g:=by
     have h1:=I.out.1;have h2:0<=N ((L.drop j).take (n+2+1)) / N V:=Sn (eQ ((a.out.1.drop j).take _)) (by have:=l.out.2; omega);omega
    have ad:=Qt ((a.out.1.take j).app (wP g (L.drop j) V 0 0 (a.out.1.drop j)));have aD:=Qt (W.out ws f);clear hF;go_wp2_with fail;rw[show j+(n+2)+1-j=V.length+1 by rw[c.out]; omega];refine(NI _ q.heap.size q.heap.size (m+1) (m+1-j) _ V j ws O aD.out (Qu _) f.size ad.out (by rw[c.out]; omega) (by omega) (by rw[c.out]; omega)).mono ?_;rintro e wa ⟨rfl,aE,R⟩;have aU:=Qt aE;have S:=Qt (jv G.out (R.block _ (QI (QI Z.1 F.size) ac.size) (by simp; omega)));have aV:=f.trans (R.below f.size (Qu _));clear aE O;obtain⟨aS,aT⟩:=fM S.out j (by omega);have aW:=Qt ((ad.out.take j).app (Ko ((L.take j++rF g (L.drop j) V 0 0).drop j) V 0 (ad.out.drop j)));generalize (L.take j++rF g (L.drop j) V 0 0).take j++tW ((L.take j++rF g (L.drop j) V 0 0).drop j) V 0=L2 at *;go_wp2;refine⟨⟨j,L2,(g-1)::qs,by omega,by go_num,⟨aW.out,Ds.cons ⟨by omega,by omega⟩ a.out.2.1,?_,?_⟩,?_,?_,aV.setCell (p:=⟨w2.heap.size,j,none⟩) y.size _⟩,by simp[intOf]⟩
    ·rw[I.out.2]; exact H.out
    ·rw[I.out.2,a.out.2.2.2,N,Bp];exact step_eq _ _ _ _ _
    ·exact jv aU.out (Vw _ _ _ _ (by simpa using aC))
    ·have:=eN S.out j (g-1);rwa [rD rfl]at this
def Of(base:Nat)(w:World)(x y:Int)(e:Ending)(w':World):Prop :=
 ∃ a b,e=.returned (.tuple #[a,b,.bool (decide (y≠0))])/\eS base w' a (x / y)/\eS base w' b (if y=0 then 0 else x % y)/\Below base w w'
theorem divMod(I J:Value)(c:Nat)(x y:Int)(w:World)(ha:ki w I c x)(hb:ki w J c y)(K:c<=4294967296) :
    Calls Tryz.prog 113 #[I,J] w (Of w.heap.size w x y):=by
 have HX:=Qt ha.ik;have HY:=Qt hb.ik;obtain⟨A,B,aa,rfl⟩:=ha;obtain⟨t,m,ab,rfl⟩:=hb;have HA:=Qt B;have HB:=Qt m;clear B m;go_enter Tryz.func113,Tryz.ntmps113;go_wp2_with fail;refine(ly I A w HA.out).mono ?_;rintro e w' ⟨v1,f,rfl,r1,N1,C1,L1,_,rfl⟩;go_wp2_with fail;refine(ly J t w HB.out).mono ?_;rintro e w' ⟨v2,b,rfl,L,N2,C2,L2,_,rfl⟩;clear HA HB;have k:=Qt (And.intro N1 N2);have u:=Qt (And.intro C1 C2);have o:=Qt (And.intro r1 L);obtain⟨a2,p2,rfl,g2,m2,c2⟩:=Row.parts L;have M:=Qt c2;clear r1 L N1 N2 C1 C2 c2;by_cases O:b.length=0
 ·have H:((b.length:Int) == 0)=true:=by rw[O]; rfl
  have P:=Qt (show N t=0 by
   have:b=[]:=RA O;rw[<-k.out.2,this]; rfl)
  go_wp2_with fail;go_ret3;exact⟨.slice none 0 0,.slice none 0 0,by rw[P.out]; rfl,by rw[P.out,Int.ediv_zero]; exact eS.nil _ _,by rw[QJ P.out]; exact eS.nil _ _,QG _ _⟩
 have H:((b.length:Int) == 0)=false:=by rw[RS]; omega
 have p:0<N b:=u.out.2.pos (by rintro rfl; simp at O);have i:=Qt (show N t≠0 by rw[<-k.out.2]; omega);have C:=Qt p;clear p;go_wp2_with fail;refine(cmp v1 _ c (N f) (N b) w ⟨f,o.out.1,by omega,rfl⟩ ⟨b,o.out.2,by omega,rfl⟩ K).mono ?_;rintro e Q ⟨rfl,a⟩;by_cases j:N f<N b
 ·have e1:fJ (N f) (N b) = -1:=by rw[fJ,QJ j]
  rw[e1];have HF:=Qt (show N A / N t=0/\N A % N t=N A by
   rw[<-k.out.1,<-k.out.2];have:=eQ u.out.1.1;exact⟨Tq this j,UB this j⟩)
  clear j e1;go_wp2_with fail;refine(normalize v1 c (N f) Q ⟨f,o.out.1.keep a,by omega,rfl⟩ K).mono ?_;rintro e R ⟨v,rfl,hn,g⟩;rw[k.out.1]at hn;go_wp2_with fail;go_ret3;exact⟨.slice none 0 0,v,by rw[QY i.out]; rfl,by rw[HF.out.1]; exact eS.nil _ _,by rw[QC i.out,HF.out.2]; exact hn.mono a.size,a.trans (g.mono a.size)⟩
 ·have ac:¬fJ (N f) (N b)<0:=by rw[fJ,QC j]; split<;>omega
  have q:b.length<=f.length:=by
   rcases QA f.length b.length with h|h
   ·have:=oY u.out.1 u.out.2 h; omega
   ·exact h
  generalize fJ (N f) (N b)=r at *;clear j;rcases s:b.length with _|_|n
  ·omega
  ·have h1:((1:Nat):Int) == 1:=rfl;obtain⟨b2,o2,rfl,S,wd⟩:=M.out 0 (by omega);have S:=Rq a S;have dd:=wf_u32 wd;have T:=Qt (show b[0]?.getD 0=N b by
    rcases b with _|⟨y,_|⟨z,l⟩⟩
    ·simp at s
    ·simp[N]
    ·simp at s)
   have D:(0:Int)<b[0]?.getD 0:=by rw[T.out]; exact C.out
   generalize b[0]?.getD 0=d at *;rw[s]at o H;simp only[Q8,Se]at S o H ⊢;clear wd;go_wp2_with fail;refine(He v1 c (N f) d Q ⟨f,o.out.1.keep a,by omega,rfl⟩ K D dd.2).mono ?_;rintro e R ⟨U,rfl,E,g⟩;rw[T.out,k.out.1,k.out.2]at E;have m:0<=N f % d/\N f % d<d:=⟨Si _ (by omega),RD _ D⟩;have V:=Qt (show N f % d=N A % N t by rw[T.out,k.out.1,k.out.2]);generalize N f % d=rd at *;obtain⟨W,ad⟩:=m;have X:rd<18446744073709551616:=by omega
   go_wp2_with fail;refine(mJ rd R W X).mono ?_;rintro e w2 ⟨Y,rfl,F,G⟩;rw[V.out]at F;go_wp2_with fail;go_ret3;exact⟨U,Y,by rw[QY i.out]; rfl,(E.keep G).mono a.size,by rw[QC i.out]; exact F.mono (QL a.size g.size),(a.trans (g.mono a.size)).trans (G.mono (QL a.size g.size))⟩
  ·have h1:(((n+1+1:Nat):Int) == 1)=false:=by rw[RS]; omega
   have HM:=Qt s;rw[s]at o H;rw[s]at q;have Z:=Qt q;clear s q;go_wp2_with fail;refine(Lv v1 _ f b n Q (o.out.1.keep a) (o.out.2.keep a) u.out.1 u.out.2 HM.out (by rw[HM.out]; exact Z.out) (by omega)).mono ?_;rintro e R ⟨U,Y,rfl,E,F,g⟩;rw[k.out.1,k.out.2]at E F;go_wp2_with fail;go_ret3;exact⟨U,Y,by rw[QY i.out]; rfl,E.mono a.size,by rw[QC i.out]; exact F.mono a.size,a.trans (g.mono a.size)⟩
def fL(x y:Int):Int:=(Nat.gcd x.toNat y.toNat:Int)
theorem vO{x y:Int}(c:0<=x)(d:0<=y):fL x y=fL y (x % y):=by
 obtain⟨a,rfl⟩:=QV c;obtain⟨b,rfl⟩:=QV d;unfold fL;have:((a:Int) % (b:Int)).toNat=a % b:=by omega
 rw[this,QH,QH,UW a b,Nat.gcd_rec b a,UW]
theorem lG{x:Int}(b:0<=x):fL x 0=x:=by
 obtain⟨a,rfl⟩:=QV b;simp[fL]
theorem Jx(f g:Value)(c:Nat)(x y:Int)(w:World)(h:ki w f c x)(b:ki w g c y)(r:x<18446744073709551616)(s:y<18446744073709551616) :
    Calls Tryz.prog 125 #[f,g] w (oD w.heap.size w (fL x y)):=by
 have t:=Qt h;have u:=Qt b;have i:=h.ik;have j:=b.ik;clear h b;go_enter Tryz.func125,Tryz.ntmps125;go_wp2_with fail;refine(uint64 f c x w t.out).mono ?_;rintro e D ⟨rfl,a⟩;rw[xo,QJ r];go_wp2_with fail;refine(uint64 g c y D (u.out.keep a)).mono ?_;rintro e I ⟨rfl,d⟩;rw[xo,QJ s];have l:=a.trans (d.mono a.size);clear t u a d;go_wp2_with fail;go_loopg [5,7] y.toNat (fun k p q wr=>∃ X Y:Int,p=.int .u64 X/\q=.int .u64 Y/\0<=X/\0<=Y/\X<18446744073709551616/\Y<18446744073709551616/\Y.toNat<=k/\fL X Y=fL x y/\Below w.heap.size w wr)
 case atStart=>exact⟨x,y,rfl,rfl,i,j,r,s,Qu _,rfl,l⟩
 case round =>
  obtain⟨X,Y,rfl,rfl,m,z,E,F,J,A,b⟩:=hrel
  have B:=Qt A
  clear A
  by_cases G:0<Y
  ·have n:=Qt (vO m z);have H:0<=X % Y/\X % Y<Y:=⟨Si _ (by omega),RD _ G⟩;go_wp2;go_quiet (fail);go_wp2;go_roundg (X % Y).toNat
   case measure=>omega
   case rel=>exact⟨Y,X % Y,rfl,rfl,z,H.1,F,by omega,Qu _,by rw[<-n.out]; exact B.out,RY b _⟩
  ·obtain rfl:Y=0:=by omega
   have n:=Qt (lG m);go_wp2_with fail;refine(mJ X wr m E).mono ?_;rintro e K ⟨v,rfl,C,o⟩;rw[<-n.out,B.out]at C;go_wp2_with fail;go_ret;exact⟨v,rfl,C.mono b.size,b.trans (o.mono b.size)⟩
theorem gcd(B C:Value)(c:Nat)(x y:Int)(w:World)(P:ki w B c x)(d:ki w C c y)(u:c<=4294967296) :
    Calls Tryz.prog 110 #[B,C] w (oD w.heap.size w (fL x y)):=by
 have D:=Qt P;have z:=Qt d;clear P d;go_enter Tryz.func110,Tryz.ntmps110;go_wp2_with fail;refine(normalize B c x w D.out u).mono ?_;rintro e w1 ⟨v1,rfl,Q,f⟩;go_wp2_with fail;refine(normalize C c y w1 (z.out.keep f) u).mono ?_;rintro e w2 ⟨v2,rfl,R,h⟩;have S:=Qt (And.intro (Q.keep h) (R.mono f.size));have E:=f.trans (h.mono f.size);have T:=Qt (And.intro D.out.lt z.out.lt);have HY:=Qt z.out.ik;clear D z f h Q R;go_wp2_with fail;go_loopg [5,6] y.toNat (fun k p q wr=>∃ X Y:Int,eS w.heap.size wr p X/\eS w.heap.size wr q Y/\X<Bp c/\Y<Bp c/\Y.toNat<=k/\fL X Y=fL x y/\Below w.heap.size w wr)
 case atStart=>exact⟨x,y,S.out.1,S.out.2,T.out.1,T.out.2,Qu _,rfl,E⟩
 case round =>
  obtain⟨X,Y,F,G,H,I,h5,U,d⟩:=hrel
  have r:=Qt F
  have i:=Qt G
  have a:=Qt (And.intro U (And.intro H I))
  have V:=F.ik
  have n2:=G.ik
  obtain⟨A,W,Z,ex,_⟩:=F
  obtain⟨j,ry,cy,ey,_⟩:=G
  have l:=Qt (And.intro (And.intro Z ex) (And.intro cy ey))
  obtain⟨a1,p1,rfl,g1,m1,_⟩:=Row.parts W
  obtain⟨a2,p2,rfl,g2,m2,_⟩:=Row.parts ry
  have m:=Qt (eS.num r.out c H)
  have n:=Qt (eS.num i.out c I)
  clear W ry Z cy ex ey U H I
  by_cases J:j.length=0
  ·have HZ:=Qt (show Y=0 by
     have:j=[]:=RA J;rw[<-l.out.2.2,this]; rfl)
   have hd:decide (0<(j.length:Int))=false:=by rw[J]; rfl
   go_wp2;go_ret;refine⟨_,rfl,?_,d⟩;rw[<-a.out.1,HZ.out,lG V];exact r.out
  ·have hd:decide (0<(j.length:Int))=true:=by simp; omega
   have g:0<Y:=by
    have:=l.out.2.1.pos (by rintro rfl; simp at J);have:=l.out.2.2;omega
   have HG:=Qt (vO V n2);by_cases K:A.length<=2
   ·by_cases L:j.length<=2
    ·have s:X<18446744073709551616/\Y<18446744073709551616:=by
       have e1:=jA l.out.1.1.1;have e2:=jA l.out.2.1.1;have f1:=iw K;have f2:=iw L;have f3:Bp 2=18446744073709551616:=by decide
       have:=l.out.1.2;have:=l.out.2.2;omega
     have t:decide ((A.length:Int)<=2)=true:=by simp; omega
     have M:decide ((j.length:Int)<=2)=true:=by simp; omega
     go_wp2_with fail;refine(Jx _ _ c X Y wr m.out n.out s.1 s.2).mono ?_;rintro e w4 ⟨v,rfl,hv,b⟩;rw[a.out.1]at hv;go_wp2_with fail;go_ret;exact⟨v,rfl,hv.mono d.size,d.trans (b.mono d.size)⟩
    ·have t:decide ((A.length:Int)<=2)=true:=by simp; omega
     have M:decide ((j.length:Int)<=2)=false:=by simp; omega
     go_wp2_with fail;refine(divMod _ _ c X Y wr m.out n.out u).mono ?_;rintro e w4 ⟨vq,vr,rfl,N,o,b⟩;rw[QC (by omega)]at o;have O:=Qt o;clear o N;go_wp2_with fail;go_roundg (X % Y).toNat
     case measure=>have:=RD X g; have:=Si X (show Y≠0 by omega); omega
     case rel=>exact⟨Y,X % Y,i.out.keep b,O.out.mono d.size,a.out.2.2,by have:=RD X g; have:=a.out.2.2; omega,Qu _,by rw[<-HG.out]; exact a.out.1,d.trans (b.mono d.size)⟩
   ·have t:decide ((A.length:Int)<=2)=false:=by simp; omega
    go_wp2_with fail;refine(divMod _ _ c X Y wr m.out n.out u).mono ?_;rintro e w4 ⟨vq,vr,rfl,N,o,b⟩;rw[QC (by omega)]at o;have O:=Qt o;clear o N;go_wp2_with fail;go_roundg (X % Y).toNat
    case measure=>have:=RD X g; have:=Si X (show Y≠0 by omega); omega
    case rel=>exact⟨Y,X % Y,i.out.keep b,O.out.mono d.size,a.out.2.2,by have:=RD X g; have:=a.out.2.2; omega,Qu _,by rw[<-HG.out]; exact a.out.1,d.trans (b.mono d.size)⟩
theorem kE{w w':World}{base:Nat}{e:TypeId}{size:Nat}{v:Value}{n:Nat}{xs:List Value}(h:w.ownsRow base e size v n xs)(c:Below w.heap.size w w'):w'.ownsRow base e size v n xs:=by
 refine⟨h.1,?_⟩;rcases h.2 with d|⟨g,cap,a,f,i,b,j⟩
 ·exact .inl d
 ·refine .inr ⟨g,cap,a,f,i,?_,j⟩;rw[c.block g (by rcases QA g w.heap.size with h|h; exact h; rw[Sj h]at b; cases b)];exact b
theorem M7{a b:List Int}(c:a.length=b.length)(k:Nat)(hk:k<a.length)(h:a[k]?.getD 0≠b[k]?.getD 0):a≠b:=by
 rintro rfl; exact h rfl
theorem NU(p q:Value)(a d:List Int)(w:World)(r:Row .u32 w p a)(g:Row .u32 w q d) :
    Calls Tryz.prog 78 #[p,q] w fun e w'=>e=.returned (.bool (decide (a=d)))/\Below w.heap.size w w':=by
 obtain⟨M,N,rfl,O,P,s⟩:=Row.parts r;obtain⟨Q,R,rfl,D,S,t⟩:=Row.parts g;have E:=Qt s;have u:=Qt t;clear r g s t;by_cases b:a.length=d.length
 ·have v:((a.length:Int) != (d.length:Int))=false:=by rw[b]; simp
  have m:=Qt b;rw[<-b]at D u v ⊢;clear b;go_enter Tryz.func78,Tryz.ntmps78;go_wp2;go_loopg [5] a.length (fun F i wr=>∃ k:Nat,k<=a.length/\a.length-k<=F/\i=.int .i64 k/\a.take k=d.take k/\Below w.heap.size w wr)
  case atStart=>exact⟨0,QE _,Qu _,rfl,rfl,QG _ _⟩
  case round =>
   obtain⟨k,hk,G,rfl,z,g⟩:=hrel
   have A:=Qt z
   clear z
   by_cases c:k<a.length
   ·obtain⟨T,U,rfl,B,_⟩:=E.out k c;obtain⟨V,W,rfl,C,_⟩:=u.out k c;have B:=Rq g B;have C:=Rq g C;have H:=Qt (kz (l:=a) (k:=k) c);have I:=Qt (kz (l:=d) (k:=k) (by rw[<-m.out]; exact c));have n:=Qt (M7 m.out k c);generalize a[k]?.getD 0=x at *;generalize d[k]?.getD 0=y at *;by_cases f:x=y
    ·subst f;go_wp2;go_quiet (fail);have j:=RY g nq;generalize wr.drewN nq=J at *;go_wp2;go_roundg (a.length-(k+1))
     case measure=>omega
     case rel=>exact⟨k+1,by omega,Qu _,by go_num,by rw[H.out,I.out,A.out],j⟩
    ·have K:(x != y)=true:=by rw[U2]; exact f
     have o:=Qt (n.out f);clear f;go_wp2;go_quiet (fail);have j:=RY g nq;generalize wr.drewN nq=J at *;go_wp2;go_ret;exact⟨by rw[Q4 o.out]; rfl,j⟩
   ·have L:=Qt (show a=d by
      have h:=A.out;rwa [QQ (by omega),QQ (by have:=m.out; omega)]at h)
    go_wp2;go_ret;exact⟨by rw[QY L.out]; rfl,g⟩
 ·have v:((a.length:Int) != (d.length:Int))=true:=by rw[U2]; omega
  have o:=Qt (show a≠d by rintro rfl; exact b rfl);go_enter Tryz.func78,Tryz.ntmps78;go_wp2;go_ret;exact⟨by rw[Q4 o.out]; rfl,QG _ _⟩
end Go.Proofs.YtbokoblnehgkaabGreat.Nt
namespace Go.Proofs.YtbokoblnehgkaabGreat.Nt
theorem eS.zero{base:Nat}{w:World}{v:Value}{n:Int}(h:eS base w v n)(e:n=0):∃ a cap,v=.slice a 0 cap:=by
 obtain⟨l,b,c,d,_⟩:=h;have:l=[]:=c.zero.1 (by rw[d,e]);subst this;obtain⟨a,cap,rfl,_⟩:=b;exact⟨a,cap,rfl⟩
theorem uW{n:Int}(h:0<=n):((iq n:Int) == 0)=decide (n=0):=by
 rcases Uv h with a|a
 ·have:=qX a;rw[Q4 (by omega),RS]; omega
 ·subst a; rfl
theorem lC{x y:Int}{a b:Nat}(g:0<=x)(h:x<Bp a)(e:0<=y)(i:y<Bp b):x*y<Bp (a+b):=by
 rw[re];have f:=Int.mul_le_mul (a:=x) (b:=y) (c:=Bp a-1) (d:=Bp b) (by omega) (by omega) e (by have:=fK a; omega);have j:=fK b;rw[Vb,Tt]at f;omega
def sg(neg:Bool)(n:Int):Int:=if neg then -n else n
def mk(neg:Bool)(n d:Int):Rat:=mkRat (sg neg n) d.toNat
def Qb(c:Nat)(q:Rat):Prop:=(q.num.natAbs:Int)<Bp c/\(q.den:Int)<Bp c
def iM(q:Rat):Int:=q.num.sign
def jX(p q:Rat):Int:=iM (p-q)
theorem vJ(neg:Bool)(n:Int):(sg neg n).natAbs=n.natAbs:=by cases neg<;>simp[sg]
theorem mk_zero{neg:Bool}{n d:Int}(h:n=0∨d=0):mk neg n d=0:=by
 unfold mk;rcases h with rfl|rfl
 ·have:sg neg 0=0:=by cases neg<;>rfl
  rw[this,Rat.zero_mkRat]
 ·exact Rat.mkRat_zero _
theorem zt(a b:Nat):fL (a:Int) (b:Int)=((Nat.gcd a b:Nat):Int):=rfl
theorem ur{neg:Bool}{n d:Int}(g:0<n)(h:0<d):(mk neg n d).num=sg neg (n / fL n d)/\((mk neg n d).den:Int)=d / fL n d/\0<fL n d/\0<n / fL n d/\0<d / fL n d:=by
 obtain⟨a,rfl⟩:=QV (show 0<=n by omega);obtain⟨b,rfl⟩:=QV (show 0<=d by omega);have c:0<Nat.gcd a b:=Vm b (by omega);have e:Nat.gcd a b ∣ a:=Nat.gcd_dvd_left a b;have f:Nat.gcd a b ∣ b:=VW a b;rw[zt];have i:0<a / Nat.gcd a b:=Nat.div_pos (Nat.le_of_dvd (by omega) e) c;have j:0<b / Nat.gcd a b:=Nat.div_pos (Nat.le_of_dvd (by omega) f) c;refine⟨?_,?_,by omega,by rw[<-V9]; omega,by rw[<-V9]; omega⟩
 ·unfold mk;rw[WA,QH,QC (by omega),vJ,TA,UW];cases neg
  ·rfl
  ·show -(a:Int) / _ = -((a:Int) / _);exact Int.neg_ediv_of_dvd (Int.natCast_dvd_natCast.2 e)
 ·unfold mk;rw[Rat.den_mkRat,QH,QC (by omega),vJ,TA,UW,V9]
theorem zZ{neg:Bool}{n:Int}(h:0<n):decide (sg neg n<0)=neg:=by
 cases neg<;>simp[sg]<;>omega
theorem wv{neg:Bool}{n:Int}(h:0<=n):((sg neg n).natAbs:Int)=n:=by
 cases neg<;>simp[sg]<;>omega
theorem wL(q:Rat):mk (decide (q.num<0)) (q.num.natAbs:Int) (q.den:Int)=q:=by
 unfold mk;have:sg (decide (q.num<0)) (q.num.natAbs:Int)=q.num:=by
  unfold sg;by_cases h:q.num<0
  ·rw[QY h,QJ rfl]; omega
  ·rw[Q4 h]; simp; omega
 rw[this,QH,Rat.mkRat_self]
theorem zY(p:Bool)(a b:Int):-mk p a b=mk (!p) a b:=by
 unfold mk;rw[Rat.neg_mkRat];congr 1;cases p<;>simp[sg]
theorem toNat_ne{b:Int}(a:0<b):b.toNat≠0:=by omega
theorem Bi(p r:Bool)(a b c d:Int)(e:0<b)(f:0<d):mk p a b+mk r c d=mkRat (sg p a*d+sg r c*b) (b.toNat*d.toNat):=by
 unfold mk;rw[Rat.mkRat_add_mkRat _ _ (toNat_ne e) (toNat_ne f)];congr 1;rw[Ur (by omega),Ur (by omega)]
theorem rX(p r:Bool)(a b c:Int)(e:0<b):mk p a b+mk r c b=mkRat (sg p a+sg r c) b.toNat:=by
 rw[Bi p r a b c b e e,<-T6];have:=W3 (n:=sg p a+sg r c) (d:=b.toNat) (a:=b.toNat) (toNat_ne e);rw[Ur (by omega)]at this;exact this
theorem DX{g:Nat}{n:Int}(h:g ∣ n.natAbs):(g:Int) ∣ n:=by
 obtain⟨k,hk⟩:=h;rcases Int.natAbs_eq n with e|e
 ·exact⟨k,by rw[e,hk]; simp⟩
 ·exact⟨-(k:Int),by rw[e,hk]; simp[WW]⟩
theorem oW(n:Int)(d:Nat)(a:d≠0):(mkRat n d).num.sign=n.sign:=by
 rw[WA,QC a];have c:0<d.gcd n.natAbs:=Vm _ (by omega);have b:((d.gcd n.natAbs:Nat):Int) ∣ n:=DX (VW ..);obtain⟨k,hk⟩:=b;generalize d.gcd n.natAbs=g at *;subst hk;rw[Vd _ (by omega),Int.sign_mul,Int.sign_natCast_of_ne_zero (by omega),Tt]
theorem BF{neg:Bool}{n d:Int}(a:0<n)(b:0<d):iM (mk neg n d)=if neg then -1 else 1:=by
 unfold iM mk;rw[oW _ _ (toNat_ne b)];cases neg
 ·simp[sg,S8 a]
 ·simp[sg,S8 a]
theorem w8(p:Rat):iM (-p) = -iM p:=by unfold iM; rw[Rat.neg_num,Int.sign_neg]
theorem j0{p:Rat}:iM p=0↔p=0:=by
 unfold iM;rw[Int.sign_eq_zero_iff_zero,Wg]
theorem kB(p:Rat):iM p = -1∨iM p=0∨iM p=1:=by
 unfold iM;rcases Uf p.num 0 with h|h|h
 ·exact .inl (SI h)
 ·exact .inr (.inl (by rw[h]; rfl))
 ·exact .inr (.inr (S8 h))
theorem sE{n:Int}{d c:Nat}(h:(n.natAbs:Int)<Bp c)(i:(d:Int)<Bp c)(b:1<=c):Qb c (mkRat n d):=by
 have j:=iw b;have l:Bp 1=4294967296:=by decide
 by_cases a:d=0
 ·subst a;rw[Rat.mkRat_zero];exact⟨by show(0:Int)<_; omega,by show(1:Int)<_; omega⟩
 ·have e:0<d.gcd n.natAbs:=Vm _ (by omega);have f:((d.gcd n.natAbs:Nat):Int) ∣ n:=DX (VW ..);refine⟨?_,?_⟩
  ·rw[WA,QC a];obtain⟨k,hk⟩:=f;generalize d.gcd n.natAbs=g at *;rw[hk,Vd _ (by omega)];have:n.natAbs=g*k.natAbs:=by rw[hk,VD,TA]
   have m:k.natAbs<=g*k.natAbs:=Nat.le_mul_of_pos_left _ e;omega
  ·rw[Rat.den_mkRat,QC a];have:=Nat.div_le_self d (d.gcd n.natAbs);omega
theorem acm{neg:Bool}{n d:Int}{c:Nat}(h0:0<=n)(a:n<Bp c)(e:d<Bp c)(b:1<=c):Qb c (mk neg n d) :=
 sE (by rw[wv h0]; exact a) (by have:=fK c; omega) b
theorem Qb.neg{c:Nat}{q:Rat}(h:Qb c q):Qb c (-q):=⟨by rw[Rat.neg_num,Int.natAbs_neg]; exact h.1,h.2⟩
theorem Qb.mul{c d:Nat}{p q:Rat}(a:Qb c p)(b:Qb d q)(e:1<=c):Qb (c+d) (p*q):=by
 rw[Rat.mul_def'];refine sE ?_ ?_ (by omega)
 ·rw[VD,S'];exact lC (by omega) a.1 (by omega) b.1
 ·rw[S'];exact lC (by omega) a.2 (by omega) b.2
theorem Qb.add{c d:Nat}{p q:Rat}(a:Qb c p)(b:Qb d q):Qb (c+d+1) (p+q):=by
 rw[Rat.add_def'];refine sE ?_ ?_ (by omega)
 ·have f:=lC (x:=(p.num.natAbs:Int)) (y:=(q.den:Int)) (by omega) a.1 (by omega) b.2;have g:=lC (x:=(p.den:Int)) (y:=(q.num.natAbs:Int)) (by omega) a.2 (by omega) b.1;have e:=Int.natAbs_add_le (p.num*q.den) (q.num*p.den);rw[VD,VD,TA,TA]at e;have h:((p.num*q.den+q.num*p.den).natAbs:Int)<=(p.num.natAbs:Int)*(q.den:Int)+(p.den:Int)*(q.num.natAbs:Int):=by
   rw[RO (p.den:Int),<-S',<-S',<-Int.natCast_add];exact Int.ofNat_le.2 e
  rw[Bp];have:=fK (c+d);omega
 ·rw[S'];have:=lC (x:=(p.den:Int)) (y:=(q.den:Int)) (by omega) a.2 (by omega) b.2;have:=iw (show c+d<=c+d+1 by omega);omega
theorem Qb.sub{c d:Nat}{p q:Rat}(a:Qb c p)(b:Qb d q):Qb (c+d+1) (p-q):=by
 rw[U8]; exact a.add b.neg
theorem Qb.zero:Qb 1 0:=by unfold Qb; decide
theorem Qb.one:Qb 1 1:=by unfold Qb; decide
theorem Ei(x y:Int):fJ x y=(x-y).sign:=by
 unfold fJ;rcases Uf x y with h|h|h
 ·rw[QJ h,SI (by omega)]
 ·subst h; simp
 ·rw[QC (by omega),QC (by omega),S8 (by omega)]
theorem LA{p r:Bool}{a b c d:Int}(e:0<b)(f:0<d):jX (mk p a b) (mk r c d)=(sg p a*d-sg r c*b).sign:=by
 unfold jX iM;rw[U8,zY,Bi p (!r) a b c d e f,oW _ _ (Nat.mul_ne_zero (toNat_ne e) (toNat_ne f))];congr 1;have:sg (!r) c = - sg r c:=by cases r<;>simp[sg]
 rw[this,Uy];omega
end Go.Proofs.YtbokoblnehgkaabGreat.Nt
namespace Go.Proofs.YtbokoblnehgkaabGreat.Nt
open Go.ChangeShapes Go.WideShapes Go.ChangeAt Go.RowKit B
theorem eS.form{base:Nat}{w:World}{v:Value}{n:Int}(h:eS base w v n):∃ a len cap,v=.slice a len cap:=by
 obtain⟨l,b,_⟩:=h;obtain⟨a,cap,rfl,_⟩:=Row.parts b;exact⟨a,_,cap,rfl⟩
theorem ki.form{w:World}{v:Value}{c:Nat}{n:Int}(h:ki w v c n):∃ a len cap,v=.slice a len cap:=by
 obtain⟨l,b,_⟩:=h;obtain⟨a,cap,rfl,_⟩:=Row.parts b;exact⟨a,_,cap,rfl⟩
def KB(base:Nat)(w:World)(v:Value)(q:Rat):Prop :=
 ∃ a b,v=.agg #[.bool (decide (q.num<0)),a,b]/\eS base w a (q.num.natAbs:Int)/\eS base w b (q.den:Int)
def Raw(w:World)(v:Value)(c:Nat)(q:Rat):Prop :=
 ∃ neg a b n d,v=.agg #[.bool neg,a,b]/\ki w a c n/\ki w b c d/\q=mk neg n d
def Ld(base:Nat)(w:World)(q:Rat)(e:Ending)(w':World):Prop:=∃ v,e=.returned v/\KB base w' v q/\Below base w w'
theorem KB.mono{base base':Nat}{w:World}{v:Value}{q:Rat}(h:KB base w v q)(a:base'<=base):KB base' w v q:=by
 obtain⟨b,c,d,e,f⟩:=h;exact⟨b,c,d,e.mono a,f.mono a⟩
theorem gI{w w1 w':World}{C:Array Value}{t:TypeId}(a:Below w1.heap.size w1 w')(h1:w1=w.alloc (.cells C t (0,0)))(i:Nat) :
    w'.cell? ⟨w.heap.size,i,none⟩=C[i]?/\w'.frozen? ⟨w.heap.size,i,none⟩=false:=by
 subst h1;refine⟨?_,?_⟩
 ·rw[a.cell (p:=⟨w.heap.size,i,none⟩) (by simp),Ua]
 ·rw[a.frozen (p:=⟨w.heap.size,i,none⟩) (by simp),WQ]; simp
theorem eS.put{w:World}{g base:Nat}{v:Value}{n:Int}(h:eS base w v n)(s:g<base)(i:Nat)(x:Value):eS base (w.setCell ⟨g,i,none⟩ x) v n:=by
 have d:∀ b,b≠g->(w.setCell ⟨g,i,none⟩ x).heap[b]?=w.heap[b]?:=fun b j=>Vw w ⟨g,i,none⟩ x b j;obtain⟨l,k,o,p,e⟩:=h;refine⟨l,Row.of_heap k ?_,o,p,?_⟩
 ·rintro b off a m c rfl;obtain⟨f,_⟩:=e b off a m c rfl;exact d b (by omega)
 ·rintro b off a m c rfl;obtain⟨f,q,r⟩:=e b off a m c rfl;exact⟨f,q,by rw[d b (by omega)]; exact r⟩
theorem eS.zV{w:World}{g base:Nat}{v:Value}{n:Int}(h:eS base w v n)(a:g<base)(x y z:Value) :
    eS base (((w.setCell ⟨g,0,none⟩ x).setCell ⟨g,1,none⟩ y).setCell ⟨g,2,none⟩ z) v n:=((h.put a 0 x).put a 1 y).put a 2 z
theorem KB.stored{w0 w:World}{g base:Nat}{v:Value}{q:Rat}{x y z:Value}(h:KB base w v q)(a:g<base):KB base (((w.setCell ⟨g,0,none⟩ x).setCell ⟨g,1,none⟩ y).setCell ⟨g,2,none⟩ z) v q:=by
 obtain⟨b,c,d,e,f⟩:=h;exact⟨b,c,d,e.zV a _ _ _,f.zV a _ _ _⟩
theorem kY{B g:Nat}{a w:World}(h:Below B a w)(b:B<=g)(x y z:Value):Below B a (((w.setCell ⟨g,0,none⟩ x).setCell ⟨g,1,none⟩ y).setCell ⟨g,2,none⟩ z) :=
 ((h.setCell (p:=⟨g,0,none⟩) b x).setCell (p:=⟨g,1,none⟩) b y).setCell (p:=⟨g,2,none⟩) b z
theorem ab8(w:World):Calls Tryz.prog 109 #[] w (Ld w.heap.size w 0):=by
 go_enter Tryz.func109,Tryz.ntmps109;go_wp2_with fail;refine(mJ 1 _ (by decide) (by decide)).mono ?_;rintro e j ⟨v,rfl,h,b⟩;obtain⟨a,n,c,rfl⟩:=h.form;have k:=Qt h;have l:=Qt b;obtain⟨f,f0⟩:=gI b rfl 0;obtain⟨g,m⟩:=gI b rfl 1;obtain⟨i,o⟩:=gI b rfl 2;simp at f g i;clear h b;go_wp2_with fail;have d:Below w.heap.size w j:=((QG _ _).alloc (Qu _) _).trans (l.out.mono (by simp));refine Vz (v:=.agg #[.bool false,.slice none 0 0,.slice a n c]) (by simp[results,Tryz.results109,go_sem,f,g,i]) rfl ?_;exact⟨_,rfl,⟨.slice none 0 0,.slice a n c,rfl,eS.nil _ _,(k.out.zV (by simp) _ _ _).mono (by simp)⟩,kY d (Qu _) _ _ _⟩
theorem KB.form{base:Nat}{w:World}{v:Value}{q:Rat}(h:KB base w v q):∃ b a c d e f g,v=.agg #[.bool b,.slice a c d,.slice e f g]:=by
 obtain⟨k,l,rfl,i,j⟩:=h;obtain⟨a,c,d,rfl⟩:=i.form;obtain⟨e,f,g,rfl⟩:=j.form;exact⟨_,a,c,d,e,f,g,rfl⟩
theorem Pe(v:Value)(l:List Int)(w:World)(h:Row .u32 w v l)(j:Canon l) :
    Calls Tryz.prog 111 #[v] w fun e w'=>e=.returned (.bool (decide (N l=1)))/\w=w':=by
 obtain⟨a,cap,rfl,f,g,c⟩:=Row.parts h;have n:=Qt c;have k:=Qt j;clear h c j;rcases l with _|⟨x,_|⟨y,m⟩⟩
 ·go_enter Tryz.func111,Tryz.ntmps111;go_wp2;go_ret;exact⟨rfl,rfl⟩
 ·obtain⟨b,off,rfl,o,_⟩:=n.out 0 (by simp);have r:=k.out.1.head;simp only[Vk,SO,Se,Rr,Tn,Q8]at o f g ⊢;by_cases d:x=1
  ·subst d;go_enter Tryz.func111,Tryz.ntmps111;go_wp2;go_ret;exact⟨rfl,rfl⟩
  ·have p:(x == 1)=false:=by rw[RS]; exact d
   have i:=Qt (show decide (N [x]=1)=false by simp[N]; exact d);clear d;go_enter Tryz.func111,Tryz.ntmps111;go_wp2;go_ret;exact⟨by rw[i.out]; rfl,rfl⟩
 ·have p:((List.length (x::y::m):Int) == 1)=false:=by simp only[RS,Rr]; omega
  have i:=Qt (show decide (N (x::y::m)=1)=false by
   have:=k.out.lower (m.length+1) (by simp);rw[Bp]at this;have:=fK m.length;rw[Qw]; omega)
  generalize q:(x::y::m).length=len at *;clear q;go_enter Tryz.func111,Tryz.ntmps111;go_wp2;go_ret;exact⟨by rw[i.out]; rfl,rfl⟩
theorem abV{base:Nat}(v:Value)(n:Int)(w:World)(h:eS base w v n) :
    Calls Tryz.prog 111 #[v] w fun e w'=>e=.returned (.bool (decide (n=1)))/\w=w':=by
 obtain⟨l,a,b,rfl,_⟩:=h;exact Pe v l w a b
theorem KI(neg:Bool)(W X:Value)(c:Nat)(n d:Int)(w:World)(K:ki w W c n)(L:ki w X c d)(hc:c<=1000000000) :
    Calls Tryz.prog 81 #[.bool neg,W,X] w (Ld w.heap.size w (mk neg n d)):=by
 have M:=Qt (And.intro K.ik L.ik);have aa:=Qt (And.intro K.lt L.lt);have N:=Qt (K.keep ((QG _ _).alloc (Qu _) (.cells #[.bool false,.slice none 0 0,.slice none 0 0] 35 (0,0))));have O:=Qt (L.keep ((QG _ _).alloc (Qu _) (.cells #[.bool false,.slice none 0 0,.slice none 0 0] 35 (0,0))));have x:=uW K.ik;have y:=uW L.ik;clear K L;by_cases Y:n=0∨d=0
 ·have HQ:=Qt (mk_zero (neg:=neg) Y);have o:decide (n=0)=true∨decide (n=0)=false/\decide (d=0)=true:=by
   by_cases h:n=0
   ·exact .inl (by simpa using h)
   ·exact .inr ⟨by simpa using h,by simp; rcases Y with q|q; exact absurd q h; exact q⟩
  clear Y;rcases o with o|⟨o,P⟩
  all_goals
   rw[o]at x
   try rw[P]at y
   go_enter Tryz.func81,Tryz.ntmps81
   clear o
   try clear P
   go_wp2_with (first
    | ((with_reducible refine(Nt.bitLen _ c n _ N.out (by omega)).mono ?_); rintro e Z ⟨rfl,rfl⟩)
    | ((with_reducible refine(Nt.bitLen _ c d _ O.out (by omega)).mono ?_); rintro e Z ⟨rfl,rfl⟩))
   refine(ab8 _).mono ?_
   rintro e Q ⟨v,rfl,h,R⟩
   obtain⟨b,z,A,B,C,D,E,rfl⟩:=h.form
   have HI:=Qt h
   have HB:=Qt R
   obtain⟨s,f0⟩:=gI R rfl 0
   obtain⟨t,f1⟩:=gI R rfl 1
   obtain⟨u,f2⟩:=gI R rfl 2
   simp at s t u
   clear h R
   go_wp2_with fail
   have k:Below w.heap.size w Q:=((QG _ _).alloc (Qu _) _).trans (HB.out.mono (by simp))
   refine Vz (v:=.agg #[.bool b,.slice z A B,.slice C D E]) (by simp[results,Tryz.results81,go_sem,s,t,u]) rfl ?_
   exact⟨_,rfl,by rw[HQ.out]; exact(HI.out.stored (w0:=w) (by simp)).mono (by simp),kY k (Qu _) _ _ _⟩
 ·have F:0<n:=by have:=M.out.1; omega
  have ab:0<d:=by have:=M.out.2; omega
  rw[Q4 (show ¬n=0 by omega)]at x;rw[Q4 (show ¬d=0 by omega)]at y;have r:=Qt (ur (neg:=neg) F ab);have HG:=Qt (show fL n d<Bp c/\fL n d≠0 by
   have q:fL n d<=n:=by
    unfold fL;have:=Wh (m:=n.toNat) d.toNat (by omega);omega
   have:=r.out.2.2.1;have:=aa.out.1;omega)
  clear Y;go_enter Tryz.func81,Tryz.ntmps81;go_wp2_with (first
   | ((with_reducible refine(Nt.bitLen _ c n _ N.out (by omega)).mono ?_); rintro e Z ⟨rfl,rfl⟩)
   | ((with_reducible refine(Nt.bitLen _ c d _ O.out (by omega)).mono ?_); rintro e Z ⟨rfl,rfl⟩))
  clear x y;refine(Nt.gcd _ _ c n d _ N.out O.out (by omega)).mono ?_;rintro e Q ⟨vg,rfl,hg,k⟩;have G:=Qt hg;have S:=Qt (N.out.keep k);have T:=Qt (O.out.keep k);have l:=Qt k;clear hg k N O;go_wp2_with fail;refine(abV vg (fL n d) Q G.out).mono ?_;rintro e Z ⟨rfl,rfl⟩;by_cases q:fL n d=1
  ·rw[QY q];rw[q,Vt,Vt]at r;clear q;go_wp2_with fail;refine(Nt.normalize W c n Q S.out (by omega)).mono ?_;rintro e w3 ⟨v3,rfl,U,f⟩;have g:=Qt U;clear U;go_wp2_with fail;refine(Nt.normalize X c d w3 (T.out.keep f) (by omega)).mono ?_;rintro e w4 ⟨v4,rfl,V,j⟩;have p:=Qt V;clear V;have i:=f.trans (j.mono f.size);have a:=l.out.trans (i.mono l.out.size);have H:=l.out.size;have ac:=f.size;obtain⟨s,f0⟩:=gI a rfl 0;obtain⟨t,f1⟩:=gI a rfl 1;obtain⟨u,f2⟩:=gI a rfl 2;simp at s t u H;obtain⟨z,A,B,rfl⟩:=g.out.form;obtain⟨C,D,E,rfl⟩:=p.out.form;have g:=Qt (g.out.keep j);have I:=Qt a;clear a i f j;go_wp2_with fail;have J:Below w.heap.size w w4:=((QG _ _).alloc (Qu _) _).trans (I.out.mono (by simp));refine Vz (v:=.agg #[.bool neg,.slice z A B,.slice C D E]) (by simp[results,Tryz.results81,go_sem,s,t,u]) rfl ?_;refine⟨_,rfl,⟨.slice z A B,.slice C D E,?_,?_,?_⟩,kY J (Qu _) _ _ _⟩
   ·rw[r.out.1,zZ F]
   ·rw[r.out.1,wv (Int.le_of_lt F)];exact((g.out.mono (base':=w.heap.size+1) (by omega)).zV (by omega) _ _ _).mono (by omega)
   ·rw[r.out.2.1];exact((p.out.mono (base':=w.heap.size+1) (by omega)).zV (by omega) _ _ _).mono (by omega)
  ·rw[Q4 q];clear q;go_wp2_with fail;refine(Nt.divMod W vg c n (fL n d) Q S.out (G.out.num c HG.out.1) (by omega)).mono ?_;rintro e w3 ⟨v3,x3,rfl,U,g3,f⟩;rw[QY HG.out.2];have g:=Qt U;clear U g3;go_wp2_with fail;refine(Nt.divMod X vg c d (fL n d) w3 (T.out.keep f) ((G.out.keep f).num c HG.out.1) (by omega)).mono ?_;rintro e w4 ⟨v4,x4,rfl,V,g4,j⟩;rw[QY HG.out.2];have p:=Qt V;clear V g4;have i:=f.trans (j.mono f.size);have a:=l.out.trans (i.mono l.out.size);have H:=l.out.size;have ac:=f.size;obtain⟨s,f0⟩:=gI a rfl 0;obtain⟨t,f1⟩:=gI a rfl 1;obtain⟨u,f2⟩:=gI a rfl 2;simp at s t u H;obtain⟨z,A,B,rfl⟩:=g.out.form;obtain⟨C,D,E,rfl⟩:=p.out.form;have g:=Qt (g.out.keep j);have I:=Qt a;clear a i f j;go_wp2_with fail;have J:Below w.heap.size w w4:=((QG _ _).alloc (Qu _) _).trans (I.out.mono (by simp));refine Vz (v:=.agg #[.bool neg,.slice z A B,.slice C D E]) (by simp[results,Tryz.results81,go_sem,s,t,u]) rfl ?_;refine⟨_,rfl,⟨.slice z A B,.slice C D E,?_,?_,?_⟩,kY J (Qu _) _ _ _⟩
   ·rw[r.out.1,zZ r.out.2.2.2.1]
   ·rw[r.out.1,wv (Int.le_of_lt r.out.2.2.2.1)];exact((g.out.mono (base':=w.heap.size+1) (by omega)).zV (by omega) _ _ _).mono (by omega)
   ·rw[r.out.2.1];exact((p.out.mono (base':=w.heap.size+1) (by omega)).zV (by omega) _ _ _).mono (by omega)
theorem CD{w:World}{a:Addr}{v:Value}(h:w.cell? a=some v):a.block<w.heap.size:=by
 unfold World.cell? at h;rcases QA a.block w.heap.size with b|b
 ·exact b
 ·simp[Sj b]at h
theorem qO{W w':World}(b:Below W.heap.size W w'){a:Addr}{v:Value}(h:W.cell? a=some v):w'.cell? a=some v:=by
 rw[b.cell (p:=a) (CD h)]; exact h
theorem nB{W w':World}(b:Below W.heap.size W w'){a:Addr}{v:Value}(h:W.cell? a=some v)(c:W.frozen? a=false):w'.frozen? a=false:=by
 rw[b.frozen (p:=a) (CD h)]; exact c
def sh(w:World)(k:Nat)(x y z:Value):Prop :=
 (w.cell? ⟨k,0,none⟩=some x/\w.cell? ⟨k,1,none⟩=some y/\w.cell? ⟨k,2,none⟩=some z)/\w.frozen? ⟨k,0,none⟩=false/\w.frozen? ⟨k,1,none⟩=false/\w.frozen? ⟨k,2,none⟩=false
theorem sh.keep{W w':World}{k:Nat}{x y z:Value}(h:sh W k x y z)(a:Below W.heap.size W w'):sh w' k x y z :=
 ⟨⟨qO a h.1.1,qO a h.1.2.1,qO a h.1.2.2⟩,nB a h.1.1 h.2.1,nB a h.1.2.1 h.2.2.1,nB a h.1.2.2 h.2.2.2⟩
theorem sh.new(w:World)(x y z:Value)(t:TypeId):sh (w.alloc (.cells #[x,y,z] t (0,0))) w.heap.size x y z:=by
 refine⟨⟨?_,?_,?_⟩,?_,?_,?_⟩
 ·rw[Ua]; rfl
 ·rw[Ua]; rfl
 ·rw[Ua]; rfl
 all_goals rw[WQ]; simp
theorem sh.old{w:World}{k:Nat}{x y z:Value}(h:sh w k x y z)(o:Obj):sh (w.alloc o) k x y z:=h.keep ((QG _ _).alloc (Qu _) o)
theorem zb(w:World)(o:Obj):Below w.heap.size w (w.alloc o):=(QG _ _).alloc (Qu _) o
theorem size_alloc(w:World)(o:Obj):(w.alloc o).heap.size=w.heap.size+1:=by simp
theorem aa9(w:World)(x y z:Value)(t:TypeId):sh (w.alloc (.cells #[x,y,z] t (0,0))) w.heap.size x y z/\Below w.heap.size w (w.alloc (.cells #[x,y,z] t (0,0)))/\(w.alloc (.cells #[x,y,z] t (0,0))).heap.size=w.heap.size+1 :=
 ⟨sh.new w x y z t,zb _ _,size_alloc _ _⟩
theorem acG(w:World)(x y z X Y Z:Value)(t s:TypeId) :
    sh ((w.alloc (.cells #[x,y,z] t (0,0))).alloc (.cells #[X,Y,Z] s (0,0))) w.heap.size x y z/\sh ((w.alloc (.cells #[x,y,z] t (0,0))).alloc (.cells #[X,Y,Z] s (0,0))) (w.heap.size+1) X Y Z /\
    Below w.heap.size w ((w.alloc (.cells #[x,y,z] t (0,0))).alloc (.cells #[X,Y,Z] s (0,0)))/\((w.alloc (.cells #[x,y,z] t (0,0))).alloc (.cells #[X,Y,Z] s (0,0))).heap.size=w.heap.size+2:=by
 obtain⟨c,d,e⟩:=aa9 w x y z t;obtain⟨a,f,b⟩:=aa9 (w.alloc (.cells #[x,y,z] t (0,0))) X Y Z s;rw[e]at a b;exact⟨c.old _,a,d.alloc (by omega) _,b⟩
theorem abj{w w2:World}{g base:Nat}{v:Value}{q:Rat}{x y z:Value}(h:KB base w2 v q)(a:g<base)(b:Below w.heap.size w w2)(c:w.heap.size<=g) :
    Ld w.heap.size w q (.returned v) (((w2.setCell ⟨g,0,none⟩ x).setCell ⟨g,1,none⟩ y).setCell ⟨g,2,none⟩ z) :=
 ⟨v,rfl,(h.stored (w0:=w) a).mono (by omega),kY b c _ _ _⟩
theorem AE(C:Value)(c:Nat)(q:Rat)(w:World)(J:Raw w C c q)(K:c<=1000000000) :
    Calls Tryz.prog 45 #[C] w (Ld w.heap.size w q):=by
 obtain⟨d,L,M,N,O,rfl,a,b,rfl⟩:=J;obtain⟨f,g,i,rfl⟩:=a.form;obtain⟨j,k,l,rfl⟩:=b.form;obtain⟨m,D,r,E⟩:=acG w (.bool d) (.slice f g i) (.slice j k l) (.bool false) (.slice none 0 0) (.slice none 0 0) 35 35;have s:=Qt (a.keep r);have t:=Qt (b.keep r);have F:=Qt (And.intro a.ik b.ik);have G:=Qt (And.intro a.lt b.lt);have H:=Qt (And.intro a b);clear a b;generalize n:((w.alloc (.cells #[.bool d,.slice f g i,.slice j k l] 35 (0,0))).alloc (.cells #[.bool false,.slice none 0 0,.slice none 0 0] 35 (0,0)))=W at *;have P:=Qt m;clear m;have Q:=Qt D;clear D;have u:=Qt n;have o:=Qt E;clear n E;go_enter Tryz.func45,Tryz.ntmps45;go_wp2_with fail;rw[u.out];refine(KI d _ _ c N O W s.out t.out K).mono ?_;rintro e w2 ⟨v,rfl,h,I⟩;obtain⟨R,S,T,U,V,X,Y,rfl⟩:=h.form;have Z:=Qt h;have p:=Qt (I);have x:=Qt (show w.heap.size+2<=W.heap.size by rw[o.out]; omega);obtain⟨⟨y,z,A⟩,aa,ab,ac⟩:=Q.out.keep p.out;clear h I;go_wp2_with fail;have B:=r.trans (p.out.mono (by have:=o.out; omega));refine Vz (v:=.agg #[.bool R,.slice S T U,.slice V X Y]) (by simp[results,Tryz.results45,go_sem,y,z,A]) rfl ?_;exact abj (base:=w.heap.size+2) (Z.out.mono x.out) (by omega) B (by omega)
theorem pD{w:World}{base base':Nat}{e:TypeId}{size:Nat}{v:Value}{n:Nat}{xs:List Value}(h:w.ownsRow base e size v n xs)(d:base'<=base):w.ownsRow base' e size v n xs:=by
 refine⟨h.1,?_⟩;rcases h.2 with h|⟨g,cap,a,b,f,c⟩
 ·exact .inl h
 ·exact .inr ⟨g,cap,a,b,by omega,c⟩
def kU(base:Nat)(w:World)(n:Int)(e:Ending)(w':World):Prop :=
 ∃ v l,e=.returned v/\w'.ownsRow base 73 1 v l.length (l.map (Value.int .u32))/\Canon l/\N l=n/\Below base w w'
theorem kU.ret{base:Nat}{w w':World}{n:Int}{e:Ending}(h:kU base w n e w'):oD base w n e w':=by
 obtain⟨v,l,c,a,b,d,f⟩:=h;exact⟨v,c,⟨l,Row.rN a (fun n g=>wO (b.1 n g)),b,d,oo a⟩,f⟩
theorem xt(v:Value)(c:Nat)(n:Int)(w:World)(h:ki w v c n)(L:c<=8589934592) :
    Calls Tryz.prog 53 #[v] w (kU w.heap.size w n):=by
 obtain⟨l,u,M,rfl⟩:=h;have o:=Row.ds u;obtain⟨a,cap,rfl,C,D,d⟩:=Row.parts u;have E:=Qt u;have F:=Qt d;have x:=Qt o;clear u d o;generalize y:l.length=len at *;have p:=Qt y;clear y;go_enter Tryz.func53,Tryz.ntmps53;go_wp2;go_loop [3] (fun t=>∃ k:Nat,k<=len/\t=.int .i64 k/\Hid (∀ i,k<=i->i<len->l[i]?.getD 0=0)) (fun t=>(intOf t).toNat)
 case atStart=>exact⟨len,Qu _,rfl,fun i G z=>by omega⟩
 case round =>
  obtain⟨k,hk,rfl,q⟩:=hrel
  have A:=Qt (Row.upto E.out k hk)
  have r:=Qt (show(l.take k).length=k by rw[QM,p.out]; omega)
  rcases k with _|j
  ·have s:=Qt (And.intro (trimmed (l:=l) 0 (QE _) (by rw[p.out]; exact q.out)) (mD x.out 0 (QE _) (.inl rfl)));go_wp2_with (at_builtin; refine jF rfl (.tmp 18) (.tmp 21) 33 rfl w.heap.size 73 .u32 4 Tryz.underlying33 gH _ 0 [] rfl (abY w _ _) _ (l.take 0) rfl (A.out.keep ((QG _ _).alloc (Qu _) _)) (by simp) (by simp) (by simp) ?_; intro H I f g);go_ret;exact⟨_,l.take 0,rfl,by simpa using f,s.out.2,s.out.1,((QG _ _).alloc (Qu _) _).trans g⟩
  ·obtain⟨b,off,rfl,d,B⟩:=F.out j (by omega);by_cases m:l[j]?.getD 0=0
   ·have J:Hid (∀ i,j<=i->i<len->l[i]?.getD 0=0):=fun i G z=>by
      by_cases e:i=j
      ·subst e; exact m
      ·exact q.out i (by omega) z
    rw[m]at d;clear m B q;go_wp2;refine⟨⟨j,by omega,by go_num,J⟩,by simp[intOf]⟩
   ·have s:=Qt (And.intro (trimmed (l:=l) (j+1) (by rw[p.out]; exact hk) (by rw[p.out]; exact q.out)) (mD x.out (j+1) (by rw[p.out]; exact hk) (.inr m)));have K:((l[j]?.getD 0) == 0)=false:=by rw[RS]; exact m
    clear m B q;go_wp2_with (at_builtin; refine jF rfl (.tmp 18) (.tmp 21) 33 rfl w.heap.size 73 .u32 4 Tryz.underlying33 gH _ 0 [] rfl (abY w _ _) _ (l.take (j+1)) rfl (A.out.keep ((QG _ _).alloc (Qu _) _)) (by rw[r.out]; simp[maxLen]; omega) (by rw[r.out]; simp; omega) (by simp) ?_; intro H I f g);go_ret;exact⟨_,l.take (j+1),rfl,by simpa using f,s.out.2,s.out.1,((QG _ _).alloc (Qu _) _).trans g⟩
theorem oM(v:Value)(c:Nat)(n:Int)(w:World)(h:ki w v c n)(a:c<=8589934592) :
    Calls Tryz.prog 53 #[v] w (oD w.heap.size w n):=(xt v c n w h a).mono fun _ _ h=>h.ret
theorem pd{base:Nat}{w0 w:World}{v:Value}{m:Nat}{l:List Int}(h:w.ownsRow base 73 1 v m (l.map (Value.int .u32)))(b:Ds l)(c:l.length<=8589934592)(d:Below base w0 w)(a:base<=w.heap.size) :
    Calls Tryz.prog 53 #[v] w (kU base w0 (N l)):=by
 refine(xt v l.length (N l) w ⟨l,Row.rN h (fun n f=>wO (b n f)),Qu _,rfl⟩ c).mono ?_;rintro e r ⟨g,i,j,k,o,p,q⟩;exact⟨g,i,j,pD k a,o,p,d.trans (q.mono a)⟩
theorem acC(n:Int)(w:World)(h0:0<=n)(h1:n<18446744073709551616) :
    Calls Tryz.prog 22 #[.int .u64 n] w (kU w.heap.size w n):=by
 have a:N [n % 4294967296,n / 4294967296]=n:=by simp[N]; omega
 have b:Ds [n % 4294967296,n / 4294967296]:=Ds.cons (by omega) (Ds.cons (by omega) Ds.nil);have h:=Qt a;have i:=Qt b;clear a b;go_enter Tryz.func22,Tryz.ntmps22;go_wp2_with fail;refine(pd (abc w _ _) i.out (by simp) ((QG _ _).alloc (Qu _) _) (by simp)).mono ?_;rintro e m ⟨j,l,rfl,c,d,f,k⟩;have g:=Qt (And.intro c d);clear c d;go_wp2_with fail;go_ret;rw[h.out]at f;exact⟨j,l,rfl,g.out.1,g.out.2,f,k⟩
theorem rOf(n:Int)(w:World)(h0:0<=n)(h1:n<18446744073709551616) :
    Calls Tryz.prog 22 #[.int .u64 n] w (oD w.heap.size w n):=(acC n w h0 h1).mono fun _ _ h=>h.ret
theorem EK{n:Int}(h:0<n):iq n=iq (n / 2)+1:=by
 obtain⟨m,rfl⟩:=QV (show 0<=n by omega);rw[show(m:Int) / 2=((m / 2:Nat):Int) by omega];unfold iq;rw[QC (by omega),QH,QH];rw[Nat.log2_def];split
 ·rw[QC (by omega)]
 ·rw[QJ (by omega)]
theorem Hv{m:List Int}(h:Canon m)(j:Nat)(c:m.length=j+1):iq (N m)=32*j+iq (m[j]?.getD 0)/\iq (m[j]?.getD 0)<=32:=by
 obtain⟨e,a⟩:=nL h j c;obtain⟨g,i,d,f⟩:=mr _ a (h.1.at j).2;generalize Lib.bitLen (m[j]?.getD 0).toNat=t at *;obtain⟨s,rfl⟩:∃ s,t=s+1:=⟨t-1,by omega⟩;have:=Df a (b:=s) (by simpa using d) f;omega
theorem ab6(v:Value)(c:Nat)(n:Int)(w:World)(h:ki w v c n)(F:c<=8589934592) :
    Calls Tryz.prog 74 #[v] w fun e w'=>e=.returned (.int .i64 (iq n:Int))/\Below w.heap.size w w':=by
 have p:=h.lt;have A:=Qt h;clear h;go_enter Tryz.func74,Tryz.ntmps74;go_wp2_with fail;refine(oM v c n w A.out F).mono ?_;rintro e G ⟨v1,rfl,⟨m,B,q,r,_⟩,k⟩;clear A;obtain⟨a,cap,rfl,H,I,d⟩:=Row.parts B;have J:m.length<=c:=q.len c (by rw[r]; exact p);have C:=Qt r;have K:=Qt d;have L:=Qt q;clear B d q r;rcases s:m.length with _|j
 ·have u:m=[]:=RA s;subst u;go_wp2_with fail;go_ret;exact⟨by rw[<-C.out]; rfl,k⟩
 ·obtain⟨b,off,rfl,V,D⟩:=K.out j (by omega);have W:=wf_u32 D;have f:=Hv L.out j s;have M:=Qt f.1;have X:=f.2;generalize m[j]?.getD 0=x at *;have Y:(((j+1:Nat):Int) == 0)=false:=by rw[RS]; omega
  have Z:j<=8589934592:=by omega
  clear f s D;go_wp2;go_loopg [4,5] (iq x) (fun N n t wr=>∃(y:Int) (i:Nat),0<=y/\y<4294967296/\iq y<=N/\i+iq y=32*j+iq x/\t=.int .u32 y/\n=.int .i64 (i:Int)/\wr=G)
  case atStart=>exact⟨x,32*j,by omega,by omega,Qu _,rfl,rfl,by go_num,rfl⟩
  case round =>
   obtain⟨y,i,O,P,Q,hi,rfl,rfl,rfl⟩:=hrel
   by_cases R:0<y
   ·have E:=EK R;generalize l:iq y=z at *;have S:=Qt l;have g:=Qt E;clear l E;have T:=CX (n:=y / 2) (by omega) 31 (by omega);go_wp2;go_roundg (z-1)
    case measure=>have:=g.out; omega
    case rel=>exact⟨y / 2,i+1,by omega,by omega,by have:=g.out; omega,by have:=g.out; omega,by go_num,by go_num,rfl⟩
   ·obtain rfl:y=0:=by omega
    have o:iq 0=0:=rfl;rw[o]at hi;clear o;have U:=Qt hi;clear hi;go_wp2;go_ret;exact⟨Cw (by rw[<-C.out,M.out,<-U.out]; omega),k⟩
theorem ME(H I:Value)(c:Nat)(x y:Int)(w:World)(J:ki w H c x)(i:ki w I c y)(V:c<=8589934592) :
    Calls Tryz.prog 84 #[H,I] w fun e w'=>e=.returned (.int .i64 (fJ x y))/\Below w.heap.size w w':=by
 have K:=J.lt;have L:=i.lt;have W:=Qt J;have X:=Qt i;clear J i;go_enter Tryz.func84,Tryz.ntmps84;go_wp2_with fail;refine(oM H c _ w W.out V).mono ?_;rintro e w1 ⟨v1,rfl,⟨g,G,M,O,_⟩,a⟩;go_wp2_with fail;refine(oM I c _ w1 (X.out.keep a) V).mono ?_;rintro e Y ⟨v2,rfl,⟨f,Z,P,Q,_⟩,u⟩;clear W X;have G:=G.keep u;have b:=a.trans (u.mono a.size);have L1:g.length<=c:=M.len c (by rw[O]; exact K);have L2:f.length<=c:=P.len c (by rw[Q]; exact L);have m:=Qt (And.intro O Q);have o:=Qt (And.intro M P);obtain⟨a1,p1,rfl,g1,m1,c1⟩:=Row.parts G;obtain⟨a2,p2,rfl,g2,m2,c2⟩:=Row.parts Z;have H1:=Qt c1;have H2:=Qt c2;clear G Z c1 c2 O Q M P;by_cases v:g.length<f.length
 ·have z:((g.length:Int) != (f.length:Int))=true:=by rw[U2]; omega
  have d:fJ x y = -1:=by
   have:=oY o.out.1 o.out.2 v;rw[<-m.out.1,<-m.out.2,fJ,QJ this]
  have n:=Qt d;clear d;go_wp2_with fail;go_ret;exact⟨jK n.out,b⟩
 by_cases A:f.length<g.length
 ·have z:((g.length:Int) != (f.length:Int))=true:=by rw[U2]; omega
  have d:fJ x y=1:=by
   have:=oY o.out.2 o.out.1 A;rw[<-m.out.1,<-m.out.2,fJ,QC (by omega),QC (by omega)]
  have n:=Qt d;clear d;go_wp2_with fail;go_ret;exact⟨jK n.out,b⟩
 have z:((g.length:Int) != (f.length:Int))=false:=by
  have:(g.length:Int)=f.length:=by omega
  rw[this]; simp
 generalize B:g.length=R at *;generalize C:f.length=n2 at *;obtain rfl:R=n2:=by omega
 have p:=Qt (And.intro B C);clear B C v A;go_wp2_with fail;go_loopw [7] (fun t wr=>∃ k:Nat,k<=R/\t=.int .i64 ((k:Int)-1)/\Hid (N (g.drop k)=N (f.drop k))/\Below Y.heap.size Y wr) (fun t _=>(intOf t+1).toNat)
 case atStart=>exact⟨R,Qu _,rfl,by rw[Q3 (by rw[p.out.1]; exact Qu _),Q3 (by rw[p.out.2]; exact Qu _)]; rfl,QG _ _⟩
 case round =>
  obtain⟨k,hk,rfl,S,i⟩:=hrel
  rcases k with _|j
  ·have d:fJ x y=0:=by
     have h:=S.out;simp only[RP]at h;rw[<-m.out.1,<-m.out.2,fJ,QC (by omega),QJ h]
   have n:=Qt d;clear d;go_wp2;go_ret;exact⟨jK n.out,b.trans (Below.mono (i) b.size)⟩
  ·obtain⟨b1,o1,rfl,r,D⟩:=H1.out j (by omega);obtain⟨b2,o2,rfl,s,E⟩:=H2.out j (by omega);have r:=Rq i r;have s:=Rq i s;have U:=iK (l:=g) (k:=j) (by rw[p.out.1]; omega);have e2:=iK (l:=f) (k:=j) (by rw[p.out.2]; omega);rw[S.out]at U;generalize N (f.drop (j+1))=T at *;have q:=Qt (And.intro U e2);have x1:=wf_u32 D;have x2:=wf_u32 E;clear U e2 S D E;generalize g[j]?.getD 0=dx at *;generalize f[j]?.getD 0=dy at *;by_cases aa:dx<dy
   ·have d:fJ x y = -1:=by
      have:=mu o.out.1.1 o.out.2.1 j (by rw[p.out.1]; omega) (by rw[p.out.2]; omega) (by rw[q.out.1,q.out.2]; omega);rw[<-m.out.1,<-m.out.2,fJ,QJ this]
    have n:=Qt d;clear d;go_wp2;go_quiet (fail);go_wp2;go_ret;exact⟨jK n.out,b.trans (Below.mono (RY i _) b.size)⟩
   by_cases ab:dy<dx
   ·have d:fJ x y=1:=by
      have:=mu o.out.2.1 o.out.1.1 j (by rw[p.out.2]; omega) (by rw[p.out.1]; omega) (by rw[q.out.1,q.out.2]; omega);rw[<-m.out.1,<-m.out.2,fJ,QC (by omega),QC (by omega)]
    have n:=Qt d;clear d;go_wp2;go_quiet (fail);have a:=RY i nq;have r:=Rq (RY (QG _ wr) nq) r;have s:=Rq (RY (QG _ wr) nq) s;generalize wr.drewN nq=F at *;go_wp2;go_quiet (fail);go_wp2;go_ret;exact⟨jK n.out,b.trans (Below.mono (RY a _) b.size)⟩
   ·have hE:Hid (N (g.drop j)=N (f.drop j)):=by
      show _=_;rw[q.out.1,q.out.2]; omega
    clear q;go_wp2;go_quiet (fail);have a:=RY i nq;have r:=Rq (RY (QG _ wr) nq) r;have s:=Rq (RY (QG _ wr) nq) s;generalize wr.drewN nq=F at *;go_wp2;go_quiet (fail);have a:=RY a nq;generalize F.drewN nq=ac at *;go_wp2;refine⟨⟨j,by omega,by go_num,hE,a⟩,by simp[intOf]⟩
theorem IB(k:Nat)(s T:Int):Bp k*(s+4294967296*T)=Bp k*s+Bp (k+1)*T:=by
 rw[SC,Bp,<-RL,RO (Bp k) 4294967296]
theorem aaa(l:List Int)(x:Int):N (l++[x])=N l+Bp l.length*x:=by rw[ts]; simp[N]
theorem pt(l:List Int)(k:Nat):N (l.drop k)=l[k]?.getD 0+4294967296*N (l.drop (k+1)):=by
 rcases QA k l.length with h|h
 ·exact iK h
 ·rw[Q3 h,Q3 (by omega),QD h]; rfl
def Acc(pre:List Int)(k:Nat)(T n:Int):Prop:=pre.length=k/\Ds pre/\N pre+Bp k*T=n
theorem Acc.step{pre:List Int}{k:Nat}{T n:Int}(h:Acc pre k T n)(d a:Int)(c:0<=d/\d<4294967296)(e:T=d+4294967296*a):Acc (pre++[d]) (k+1) a n:=by
 obtain⟨b,f,g⟩:=h;refine⟨by simp[b],f.app (Ds.cons c Ds.nil),?_⟩;rw[aaa,b,<-g,e,IB]; omega
theorem Acc.done{pre:List Int}{k:Nat}{n:Int}(h:Acc pre k 0 n):N pre=n:=by
 have:=h.2.2; rw[TL]at this; omega
theorem Acc.nil(n:Int):Acc [] 0 n n:=⟨rfl,Ds.nil,by simp[N,Bp]⟩
theorem Row.one(w:World)(x:Int)(h:0<=x/\x<4294967296):Row .u32 (w.alloc (.cells #[.int .u32 x] 73 (0,0))) (.slice (some ⟨w.heap.size,0,none⟩) 1 1) [x] :=
 Row.new w [x] 73 (0,0) #[.int .u32 x] 1 rfl rfl (by simp[maxLen]) (by intro n a; rw[RH.1 a]; exact wO h)
theorem acv(S T:Value)(c:Nat)(x y:Int)(w:World)(ha:ki w S c x)(l:ki w T c y)(hc:c<=2147483648) :
    Calls Tryz.prog 124 #[S,T] w (oD w.heap.size w (x+y)):=by
 obtain⟨m,r,aa,rfl⟩:=ha;obtain⟨n,u,ab,rfl⟩:=l;obtain⟨a1,p1,rfl,g1,m1,U⟩:=Row.parts r;obtain⟨a2,p2,rfl,g2,m2,V⟩:=Row.parts u;have H1:=Qt U;have W:=Qt V;clear r u U V;generalize z:m.length=q at *;generalize A:n.length=o at *;have H:=Qt (And.intro z A);clear z A;go_enter Tryz.func124,Tryz.ntmps124;go_wp2;go_loopg [5,6,7] (q+o) (fun gk v t i wr=>∃(k:Nat) (d:Int) (pre:List Int),k<=q+o/\q+o-k<=gk/\i=.int .i64 k/\t=.int .u64 d/\0<=d/\d<=1 /\
     Hid (Acc pre k (d+N (m.drop k)+N (n.drop k)) (N m+N n))/\Hid (wr.ownsRow w.heap.size 73 1 v k (pre.map (Value.int .u32)))/\Below w.heap.size w wr)
 case atStart=>exact⟨0,0,[],QE _,by omega,rfl,rfl,by omega,by omega,by have:=Acc.nil (N m+N n); simpa [Hid]using this,⟨rfl,.inl ⟨rfl,rfl⟩⟩,QG _ _⟩
 case round =>
  obtain⟨k,d,pre,hk,ac,rfl,rfl,ad,ae,J,I,l⟩:=hrel
  have af:w.heap.size<=wr.heap.size:=l.size
  have B:pre.length=k:=J.out.1
  have X:=pt m k
  have Y:=pt n k
  have C:∀ s,s=d+m[k]?.getD 0+n[k]?.getD 0->Acc (pre++[s % 4294967296]) (k+1) (s / 4294967296+N (m.drop (k+1))+N (n.drop (k+1))) (N m+N n):=by
   rintro s rfl;exact J.out.step _ _ (by omega) (by rw[X,Y]; omega)
  have g:=Qt C
  have f:=Qt B
  clear X Y C B
  by_cases h1:k<q
  ·have d1:decide ((k:Int)<(q:Int))=true:=by simp; omega
   obtain⟨b1,o1,rfl,Z,K⟩:=H1.out k h1;have Z:=Rq l Z;have dx:=wf_u32 K;by_cases L:k<o
   ·have M:decide ((k:Int)<(o:Int))=true:=by simp; omega
    obtain⟨b2,o2,rfl,D,E⟩:=W.out k L;have D:=Rq l D;have dy:=wf_u32 E;have F:Hid _:=g.out _ rfl;generalize m[k]?.getD 0=x at *;generalize n[k]?.getD 0=y at *;have a:=Qt (Row.one wr ((d+x+y) % 4294967296) (by omega));clear K E g;go_wp2_with (at_builtin; refine jF rfl (.tmp 42) (.tmp 45) 33 rfl w.heap.size 73 .u32 4 Tryz.underlying33 gH _ k pre rfl (I.out.alloc _) _ [(d+x+y) % 4294967296] rfl a.out (by rw[f.out]; simp[maxLen]; omega) (by rw[f.out]; simp; omega) (by simp; omega) ?_; intro O P b j);have p:=Qt b;clear b;go_roundg (q+o-(k+1))
    case measure=>omega
    case rel=>exact⟨k+1,(d+x+y) / 4294967296,_,by omega,Qu _,by go_num,by go_num,by omega,by omega,F,p,(l.alloc l.size _).trans j⟩
   ·have M:decide ((k:Int)<(o:Int))=false:=by simp; omega
    have F:Hid _:=g.out (d+m[k]?.getD 0) (by rw[QD (show n.length<=k by rw[H.out.2]; omega)]; simp);generalize m[k]?.getD 0=x at *;have a:=Qt (Row.one wr ((d+x) % 4294967296) (by omega));clear K g;go_wp2_with (at_builtin; refine jF rfl (.tmp 42) (.tmp 45) 33 rfl w.heap.size 73 .u32 4 Tryz.underlying33 gH _ k pre rfl (I.out.alloc _) _ [(d+x) % 4294967296] rfl a.out (by rw[f.out]; simp[maxLen]; omega) (by rw[f.out]; simp; omega) (by simp; omega) ?_; intro O P b j);have p:=Qt b;clear b;go_roundg (q+o-(k+1))
    case measure=>omega
    case rel=>exact⟨k+1,(d+x) / 4294967296,_,by omega,Qu _,by go_num,by go_num,by omega,by omega,F,p,(l.alloc l.size _).trans j⟩
  ·have d1:decide ((k:Int)<(q:Int))=false:=by simp; omega
   by_cases L:k<o
   ·have M:decide ((k:Int)<(o:Int))=true:=by simp; omega
    obtain⟨b2,o2,rfl,D,E⟩:=W.out k L;have D:=Rq l D;have dy:=wf_u32 E;have F:Hid _:=g.out (d+n[k]?.getD 0) (by rw[QD (show m.length<=k by rw[H.out.1]; omega)]; simp);generalize n[k]?.getD 0=y at *;have a:=Qt (Row.one wr ((d+y) % 4294967296) (by omega));clear E g;go_wp2_with (at_builtin; refine jF rfl (.tmp 42) (.tmp 45) 33 rfl w.heap.size 73 .u32 4 Tryz.underlying33 gH _ k pre rfl (I.out.alloc _) _ [(d+y) % 4294967296] rfl a.out (by rw[f.out]; simp[maxLen]; omega) (by rw[f.out]; simp; omega) (by simp; omega) ?_; intro O P b j);have p:=Qt b;clear b;go_roundg (q+o-(k+1))
    case measure=>omega
    case rel=>exact⟨k+1,(d+y) / 4294967296,_,by omega,Qu _,by go_num,by go_num,by omega,by omega,F,p,(l.alloc l.size _).trans j⟩
   ·have M:decide ((k:Int)<(o:Int))=false:=by simp; omega
    have hF:Acc (pre++[d]) (k+1) 0 (N m+N n):=J.out.step d 0 (by omega) (by
     rw[Q3 (by rw[H.out.1]; omega),Q3 (by rw[H.out.2]; omega)]; simp[N])
    have Q:=Qt hF;have a:=Qt (Row.one wr d (by omega));clear hF g;go_wp2_with (at_builtin; refine jF rfl (.tmp 49) (.tmp 52) 33 rfl w.heap.size 73 .u32 4 Tryz.underlying33 gH _ k pre rfl (I.out.alloc _) _ [d] rfl a.out (by rw[f.out]; simp[maxLen]; omega) (by rw[f.out]; simp; omega) (by simp; omega) ?_; intro O P b j);have G:=(l.alloc l.size (.cells #[.int .u32 d] 73 (0,0))).trans j;refine(pd b Q.out.2.1 (by rw[Q.out.1]; omega) G G.size).mono ?_;rintro e w3 h;obtain⟨v3,rfl,hn,R⟩:=kU.ret h;rw[Q.out.done]at hn;clear h b;go_wp2_with fail;go_ret;exact⟨v3,rfl,hn,R⟩
theorem Cf(E:Value)(c:Nat)(x b:Int)(w:World)(M:ki w E c x)(O:0<=b/\b<=1)(hc:c<=2147483648) :
    Calls Tryz.prog 86 #[E,.int .u32 b] w (oD w.heap.size w (2*x+b)):=by
 obtain⟨m,q,P,rfl⟩:=M;obtain⟨a1,p1,rfl,g1,m1,F⟩:=Row.parts q;have Q:=Qt F;clear q F;generalize r:m.length=u at *;have R:=Qt r;clear r;go_enter Tryz.func86,Tryz.ntmps86;go_wp2;go_loopg [5,6,1] u (fun S v i t wr=>∃(k:Nat) (a:Int) (pre:List Int),k<=u/\u-k<=S/\i=.int .i64 k/\t=.int .u32 a/\0<=a/\a<=1 /\
     Hid (Acc pre k (2*N (m.drop k)+a) (2*N m+b))/\Hid (wr.ownsRow w.heap.size 73 1 v k (pre.map (Value.int .u32)))/\Below w.heap.size w wr)
 case atStart=>exact⟨0,b,[],QE _,by omega,rfl,rfl,by omega,by omega,by have:=Acc.nil (2*N m+b); simpa [Hid]using this,⟨rfl,.inl ⟨rfl,rfl⟩⟩,QG _ _⟩
 case round =>
  obtain⟨k,a,pre,hk,T,rfl,rfl,U,V,z,G,p⟩:=hrel
  have W:w.heap.size<=wr.heap.size:=p.size
  have y:pre.length=k:=z.out.1
  have g:=Qt y
  clear y
  by_cases X:k<u
  ·obtain⟨b1,o1,rfl,A,H⟩:=Q.out k X;have q1:=Rq p A;have Y:=Qt A;clear A;have dx:=wf_u32 H;have I:=pt m k;generalize m[k]?.getD 0=x at *;have Z:=Qt (z.out.step (x*2 % 4294967296+a) (2*N (m.drop (k+1))+x / 2147483648) (by omega) (by rw[I]; omega));have J:Hid (bits .or .u32 (x*2 % 4294967296) a=x*2 % 4294967296+a):=yg (s:=1) (by omega) x a (by omega);have d:=Qt (Row.one wr (x*2 % 4294967296+a) (by omega));rw[<-J.out]at d;have n:=p.alloc p.size (.cells #[.int .u32 (bits .or .u32 (x*2 % 4294967296) a)] 73 (0,0));have o:=Qt n;clear H I n;go_wp2_with (at_builtin; refine jF rfl (.tmp 13) (.tmp 21) 33 rfl w.heap.size 73 .u32 4 Tryz.underlying33 gH _ k pre rfl (G.out.alloc _) _ [bits .or .u32 (x*2 % 4294967296) a] rfl d.out (by rw[g.out]; simp[maxLen]; omega) (by rw[g.out]; simp; omega) (by simp; omega) ?_; intro v' w' f j; rw[J.out]at f; have B:=Qt f; clear f; have l:=o.out.trans j; have q2:=Rq (o.out.trans j) Y.out; have aa:(0:Int)<=k:=by omega);go_roundg (u-(k+1))
   case measure=>omega
   case rel=>exact⟨k+1,x / 2147483648,_,by omega,Qu _,by go_num,by go_num,by omega,by omega,Z,B,l⟩
  ·have K:Acc (pre++[a]) (k+1) 0 (2*N m+b):=z.out.step a 0 (by omega) (by
       rw[Q3 (by rw[R.out]; omega)]; simp[N])
   have C:=Qt K;have d:=Qt (Row.one wr a (by omega));clear K;go_wp2_with (at_builtin; refine jF rfl (.tmp 28) (.tmp 30) 33 rfl w.heap.size 73 .u32 4 Tryz.underlying33 gH _ k pre rfl (G.out.alloc _) _ [a] rfl d.out (by rw[g.out]; simp[maxLen]; omega) (by rw[g.out]; simp; omega) (by simp; omega) ?_; intro v' w' f j);have l:=(p.alloc p.size (.cells #[.int .u32 a] 73 (0,0))).trans j;refine(pd f C.out.2.1 (by rw[C.out.1]; omega) l l.size).mono ?_;rintro e w3 h;obtain⟨v3,rfl,L,D⟩:=kU.ret h;rw[C.out.done]at L;clear h f;go_wp2_with fail;go_ret;exact⟨v3,rfl,L,D⟩
theorem BW(D:Value)(c:Nat)(x:Int)(w:World)(O:ki w D c x)(hc:c<=2147483648) :
    Calls Tryz.prog 83 #[D] w (oD w.heap.size w (x / 2)):=by
 obtain⟨d,n,P,rfl⟩:=O;obtain⟨a1,p1,rfl,g1,m1,E⟩:=Row.parts n;have F:=Qt E;clear n E;generalize o:d.length=j at *;have G:=Qt o;clear o;go_enter Tryz.func83,Tryz.ntmps83;go_wp2;go_loopg [3,4] j (fun Q v i wr=>∃(k:Nat) (pre:List Int),k<=j/\j-k<=Q/\i=.int .i64 k /\
     Hid (Acc pre k (N (d.drop k) / 2) (N d / 2))/\Hid (wr.ownsRow w.heap.size 73 1 v k (pre.map (Value.int .u32)))/\Below w.heap.size w wr)
 case atStart=>exact⟨0,[],QE _,by omega,rfl,by have:=Acc.nil (N d / 2); simpa [Hid]using this,⟨rfl,.inl ⟨rfl,rfl⟩⟩,QG _ _⟩
 case round =>
  obtain⟨k,pre,hk,R,rfl,q,t,f⟩:=hrel
  have S:w.heap.size<=wr.heap.size:=f.size
  have p:pre.length=k:=q.out.1
  have g:=Qt p
  clear p
  by_cases T:k<j
  ·obtain⟨b1,o1,rfl,H,u⟩:=F.out k T;have q1:=Rq f H;have U:=wf_u32 u;have r:=pt d k;have z:=pt d (k+1);generalize d[k]?.getD 0=x at *;clear H;by_cases V:k+1<j
   ·obtain⟨b2,o2,W,I,J⟩:=F.out (k+1) V;cases W;have I:=Rq f I;have dy:=wf_u32 J;generalize d[k+1]?.getD 0=y at *;have K:Hid (bits .or .u32 (x / 2) (y*2147483648 % 4294967296)=x / 2+y*2147483648 % 4294967296):=(zl (s:=1) (by omega) x y U dy).1;have A:=Qt (q.out.step (x / 2+y*2147483648 % 4294967296) (N (d.drop (k+1)) / 2) (by omega) (by rw[r,z]; omega));have a:=Qt (Row.one wr (x / 2+y*2147483648 % 4294967296) (by omega));rw[<-K.out]at a;clear u J r z;go_wp2_with (at_builtin; refine jF rfl (.tmp 30) (.tmp 32) 33 rfl w.heap.size 73 .u32 4 Tryz.underlying33 gH _ k pre rfl (t.out.alloc _) _ [bits .or .u32 (x / 2) (y*2147483648 % 4294967296)] rfl a.out (by rw[g.out]; simp[maxLen]; omega) (by rw[g.out]; simp; omega) (by simp; omega) ?_; intro X Y b l; rw[K.out]at b; have m:=Qt b; clear b);go_roundg (j-(k+1))
    case measure=>omega
    case rel=>exact⟨k+1,_,by omega,Qu _,by go_num,A,m,(f.alloc f.size _).trans l⟩
   ·have A:=Qt (q.out.step (x / 2) (N (d.drop (k+1)) / 2) (by omega) (by
      rw[r,Q3 (show d.length<=k+1 by rw[G.out]; omega)]; simp[N]))
    have a:=Qt (Row.one wr (x / 2) (by omega));have d2:decide ((k:Int)+1<(j:Int))=false:=by simp; omega
    clear u r z;go_wp2_with (at_builtin; refine jF rfl (.tmp 30) (.tmp 32) 33 rfl w.heap.size 73 .u32 4 Tryz.underlying33 gH _ k pre rfl (t.out.alloc _) _ [x / 2] rfl a.out (by rw[g.out]; simp[maxLen]; omega) (by rw[g.out]; simp; omega) (by simp; omega) ?_; intro X Y b l; have m:=Qt b; clear b);go_roundg (j-(k+1))
    case measure=>omega
    case rel=>exact⟨k+1,_,by omega,Qu _,by go_num,A,m,(f.alloc f.size _).trans l⟩
  ·have L:Acc pre k 0 (N d / 2):=by
     have:=q.out;rw[Q3 (by rw[G.out]; omega)]at this;exact this
   have B:=Qt L;clear L;go_wp2_with fail;refine(pd t.out B.out.2.1 (by rw[B.out.1]; omega) f f.size).mono ?_;rintro e w3 h;obtain⟨Z,rfl,M,C⟩:=kU.ret h;rw[B.out.done]at M;clear h;go_wp2_with fail;go_ret;exact⟨Z,rfl,M,C⟩
theorem aco(U V:Value)(c:Nat)(x y:Int)(w:World)(ha:ki w U c x)(D:ki w V c y)(hc:c<=2147483648) :
    Calls Tryz.prog 123 #[U,V] w (oD w.heap.size w (x*y)):=by
 obtain⟨E,v,aa,rfl⟩:=ha;obtain⟨o,A,ab,rfl⟩:=D;have HC:=Qt (And.intro (Row.ds v) (Row.ds A));obtain⟨a1,p1,rfl,g1,m1,g⟩:=Row.parts v;obtain⟨a2,p2,rfl,g2,m2,l⟩:=Row.parts A;have HX:=Qt g;have HY:=Qt l;clear v A g l;generalize F:E.length=a at *;generalize G:o.length=b at *;have q:=Qt (And.intro F G);clear F G;go_enter Tryz.func123,Tryz.ntmps123;have u:=Qt (show(a:Int)+(b:Int)=((a+b:Nat):Int) by omega);go_wp2_with (at_make; refine ir rfl (.tmp 13) (.tmp 13) 33 rfl w.heap.size 73 .u32 4 Tryz.underlying33 gH _ (a+b) rfl rfl u.out (by omega) (by unfold maxLen; omega) (Qu _) ?_; intro w1 L M);clear u;go_loopw [6] (fun i wr=>∃(k:Nat) (r:List Int),k<=a/\i=.int .i64 k/\Hid (r.length=a+b/\Ds r/\r.drop (k+b)=List.replicate (a-k) 0/\N r=N (E.take k)*N o) /\
     wr.ownsRow w.heap.size 73 1 (.slice (some ⟨w.heap.size,0,none⟩) (a+b) (a+b)) (a+b) (r.map (Value.int .u32))/\Below w.heap.size w wr) (fun i _=>a-(intOf i).toNat)
 case atStart=>exact⟨0,List.replicate (a+b) 0,QE _,rfl,⟨by simp,Ds.Ii _,by simp,by simp[N,sL]⟩,L,M⟩
 case round =>
  obtain⟨k,r,hk,rfl,m,W,D⟩:=hrel
  by_cases O:k<a
  ·obtain⟨bx,ox,rfl,P,X⟩:=HX.out k (by omega);have QX:=Qt P;have P:=Rq D P;have Y:=wf_u32 X;have K:=Qt (DE r E o k (by rw[q.out.1]; exact O) (by rw[q.out.1,q.out.2]; exact m.out.1) (by rw[q.out.1,q.out.2]; exact m.out.2.2.1) m.out.2.2.2);rw[q.out.1,q.out.2]at K;have HQ:=Qt (Cp Y (r.drop k) o 0 (m.out.2.1.drop k) HC.out.2 (by omega));generalize E[k]?.getD 0=x at *;clear X;obtain⟨Z,rfl⟩:∃ Z:World,Z=wr:=⟨_,rfl⟩;go_wp2;go_loopw [7,8] (fun t i wr=>∃(j:Nat) (d:Int) (pre:List Int),j<=b/\i=.int .i64 j/\t=.int .u64 d/\0<=d/\d<4294967296 /\
       Hid (pre.length=k+j/\Ds pre/\pre++mulL x (r.drop (k+j)) (o.drop j) d=r.take k++mulL x (r.drop k) o 0) /\
       wr.ownsRow w.heap.size 73 1 (.slice (some ⟨w.heap.size,0,none⟩) (a+b) (a+b)) (a+b) ((pre++r.drop (k+j)).map (Value.int .u32))/\Below w.heap.size w wr) (fun _ i _=>b-(intOf i).toNat)
   case atStart=>exact⟨0,0,r.take k,QE _,rfl,rfl,by omega,by omega,⟨by simp; have:=m.out.1; omega,m.out.2.1.take k,rfl⟩,by rw[Se,Q6]; exact W,D⟩
   case round =>
    obtain⟨j,d,pre,hj,rfl,rfl,ac,ad,B,f,n⟩:=hrel
    have s:k+j<r.length:=by have:=m.out.1; omega
    by_cases H:j<b
    ·obtain⟨by_,oy,rfl,qy,wy⟩:=HY.out j (by omega);have qy:=Rq n qy;have ae:=Rq n QX.out;have dy:=wf_u32 wy;have af:=qS Y dy;obtain⟨C,I⟩:=fM f (k+j) (by omega);rw[lO B.out.1 s]at C;have HS:=Qt (vN x r o k j d s (by rw[q.out.2]; exact H));have HB:=Qt (gY B.out.1 s);have dr:=m.out.2.1.at (k+j);generalize o[j]?.getD 0=y at *;generalize r[k+j]?.getD 0=z at *;clear wy;have Q:=Qt (show d+z+x*y=x*y+z+d by omega);go_wp2;go_quiet (fail);have n:=RY n nq;have f:=kE f (RY (QG _ wr) nq);obtain⟨C,I⟩:=fM f (k+j) (by omega);generalize wr.drewN nq=wr at *;rw[Q.out];go_wp2;refine⟨⟨j+1,(x*y+z+d) / 4294967296,pre++[(x*y+z+d) % 4294967296],by omega,by go_num,rfl,by omega,by omega,⟨?_,B.out.2.1.app (Ds.cons (by omega) Ds.nil),?_⟩,?_,n.setCell (Qu _) _⟩,by simp[intOf]; omega⟩
     ·have:=B.out.1; simp; omega
     ·rw[<-B.out.2.2,HS.out,QP]; rfl
     ·have:=eN f (k+j) ((x*y+z+d) % 4294967296);rwa [HB.out]at this
    ·obtain rfl:j=b:=by omega
     obtain⟨C,I⟩:=fM f (k+j) (by omega);have R:=Qt (show(pre++[d])++r.drop (k+j+1)=r.take k++mulL x (r.drop k) o 0 by
      have e:=wb x r o k d (by rw[q.out.2]; exact s);rw[q.out.2]at e;rw[<-B.out.2.2,e,QP]; rfl)
     have hs:=eN f (k+j) d;rw[gY B.out.1 s,R.out]at hs;have S:=n.setCell (p:=⟨w.heap.size,k+j,none⟩) (Qu _) (.int .u32 d);go_wp2;refine⟨⟨k+1,r.take k++mulL x (r.drop k) o 0,by omega,by go_num,⟨K.out.2.1,(m.out.2.1.take k).app HQ.out,K.out.2.2,K.out.1⟩,hs,S⟩,by simp[intOf]; omega⟩
  ·obtain rfl:k=a:=by omega
   have R:=Qt (show N r=N E*N o by
    rw[m.out.2.2.2,QQ (by rw[q.out.1]; exact Qu _)])
   have HD:=Qt m.out.2.1;have J:=Qt m.out.1;clear m;go_wp2_with fail;refine(pd W HD.out (by have:=J.out; omega) D D.size).mono ?_;rintro e w9 h;obtain⟨v',rfl,hn,T⟩:=kU.ret h;clear h;rw[R.out]at hn;go_wp2_with fail;go_ret;exact⟨v',rfl,hn,T⟩
theorem iG.only{w w':World}{g base:Nat}{v:Value}{l:List Int}(h:iG 73 base w v)(d:Row .u32 w v l)(j:g<base)(e:jk g w w'):Row .u32 w' v l:=by
 refine Row.of_heap d ?_;rintro b off f n c rfl;obtain⟨k,m,a⟩:=h b off f n c rfl;have:b<w.heap.size:=by
  rcases QA b w.heap.size with h|h
  ·exact h
  ·rw[Sj h]at a; cases a
 obtain⟨_,_,_,_,i⟩:=e;exact i b this (by simp; omega)
theorem LB(va vb:Value)(c:Nat)(x y:Int)(w:World)(ha:ki w va c x)(hb:ki w vb c y)(hc:c<=2147483648) :
    Calls Tryz.prog 85 #[va,vb] w (JK w.heap.size w x y):=by
 have S:=ha.lt;have T:=hb.lt;have ad:=Qt (And.intro S T);have HA:=Qt ha;have I:=Qt hb;clear ha hb S T;go_enter Tryz.func85,Tryz.ntmps85;go_wp2_with fail;refine(ME va vb c x y w HA.out I.out (by omega)).mono ?_;rintro e w0 ⟨rfl,d⟩;by_cases p:x<y
 ·have m:fJ x y = -1:=by rw[fJ,QJ p]
  rw[m];have B:=Qt (show ¬y<=x by omega);clear p m;go_wp2_with fail;go_ret2;refine⟨.slice none 0 0,?_,?_,d⟩
  ·rw[Q4 (by have:=B.out; omega)]; rfl
  ·rw[QC (by have:=B.out; omega)]; exact eS.nil _ _
 ·have al:¬fJ x y<0:=by rw[fJ,QC p]; split<;>omega
  have B:=Qt (show y<=x by omega);generalize fJ x y=r at *;have hr:decide (r<0)=false:=by simp; omega
  clear p;go_wp2_with fail;refine(xt va c x w0 (HA.out.keep d) (by omega)).mono ?_;rintro e w1 ⟨v1,f,rfl,o1,C1,N1,J⟩;have q:=Qt o1;have b:=Qt (And.intro C1 N1);clear o1 C1 N1;go_wp2_with fail;refine(oM vb c y w1 ((I.out.keep d).keep J) (by omega)).mono ?_;rintro e w2 ⟨v2,rfl,⟨A,r2,U,V,f2⟩,K⟩;have C:Below w.heap.size w w2:=(d.trans (J.mono d.size)).trans (K.mono (QL d.size J.size));have ae:A.length<=f.length:=by
   rcases QA f.length A.length with h|h
   ·have:=oY b.out.1 U h;have:=B.out; rw[b.out.2,V]at *; omega
   ·exact h
  have F:=Qt (show N (jC f A 0)=x-y by rw[N7 b.out.1.1 U.1 ae (by rw[b.out.2,V]; exact B.out),b.out.2,V]);have an:f.length<=c:=b.out.1.len c (by rw[b.out.2]; exact ad.out.1);rcases f with _|⟨dd,af⟩
  ·have ao:([]:List Int).length=0:=rfl;obtain⟨a1,ak,rfl,_⟩:=Row.parts (Row.rN q.out (by intro n L; cases L));have M:=Qt (kE q.out K);clear r2 U V f2;go_wp2;go_loopg [8,9] 0 (fun gk t i wr=>t=.int .u64 0/\i=.int .i64 0/\wr=w2)
   case atStart=>exact⟨rfl,rfl,rfl⟩
   case round =>
    obtain⟨rfl,rfl,rfl⟩:=hrel
    go_wp2_with fail
    refine(pd (pD M.out d.size) Ds.nil (by simp) C C.size).mono ?_
    rintro e w3 h
    obtain⟨v3,rfl,L,O⟩:=kU.ret h
    clear h
    have W:N []=x-y:=by have:=F.out; simpa [jC]using this
    rw[W]at L
    clear W
    go_wp2_with fail
    go_ret2
    refine⟨v3,?_,?_,O⟩
    ·rw[QY B.out]; rfl
    ·rw[QJ B.out]; exact L
  ·generalize X:dd::af=f at *;have Y:0<f.length:=by rw[<-X]; simp
   obtain⟨g,cap,rfl,hg⟩:=Mt q.out Y;have Z:=(rv q.out).1;have HY:=Qt (fun wr (h:jk g w2 wr)=>iG.only f2 r2 Z h);obtain⟨a2,p2,rfl,g2,m2,_⟩:=Row.parts r2;have M:=Qt (kE q.out K);have HC:=Qt (And.intro b.out.1 U);clear r2 U V f2 X q;generalize aa:f.length=v at *;generalize ab:A.length=nY at *;have Q:=Qt (And.intro aa ab);clear aa ab;go_wp2;go_loopg [8,9] v (fun gk t i wr=>∃(k:Nat) (a:Int) (pre:List Int),k<=v/\v-k<=gk/\i=.int .i64 k/\t=.int .u64 a/\0<=a/\a<=1 /\
       Hid (pre.length=k/\pre++jC (f.drop k) (A.drop k) a=jC f A 0)/\Hid (wr.ownsRow w0.heap.size 73 1 (.slice (some ⟨g,0,none⟩) v cap) v ((pre++f.drop k).map (Value.int .u32)))/\Hid (jk g w2 wr))
   case atStart=>exact⟨0,0,[],QE _,by omega,rfl,rfl,by omega,by omega,⟨rfl,rfl⟩,M.out,jk.refl _ _⟩
   case round =>
    obtain⟨k,a,pre,hk,aq,rfl,rfl,ar,au,z,R,s⟩:=hrel
    by_cases p:k<v
    ·have D:k<f.length:=by rw[Q.out.1]; exact p
     obtain⟨ah,av⟩:=fM R.out k (by omega);rw[lO z.out.1 D]at ah;have I:=Qt (gY z.out.1 D);have dx:=HC.out.1.1.at k;by_cases G:k<nY
     ·obtain⟨_,_,u,_,_,o⟩:=Row.parts (HY.out wr s.out);obtain⟨by_,oy,e3,qy,wy⟩:=o k (by rw[Q.out.2]; exact G);have dy:=wf_u32 wy;have E:=Qt (vI f A k a D (by rw[Q.out.2]; exact G));clear o;cases u;subst e3;generalize f[k]?.getD 0=x at *;generalize A[k]?.getD 0=y at *;clear wy;by_cases ai:a+y<=x
      ·have m:(x-(a+y)) % 4294967296=x-(a+y):=by omega
       have u:-((x-(a+y)) / 4294967296)=0:=by omega
       rw[m,u]at E;clear m u;have j:=eN R.out k (x-(a+y));rw[I.out]at j;have l:=Qt j;clear j;go_wp2;go_roundg (v-(k+1))
       case measure=>omega
       case rel=>exact⟨k+1,0,pre++[x-(a+y)],by omega,Qu _,by go_num,by go_num,by omega,by omega,⟨by simp[z.out.1],by rw[<-z.out.2,E.out,QP]; rfl⟩,l,s.out.set _ _⟩
      ·have m:(x-(a+y)) % 4294967296=x+4294967296-(a+y):=by omega
       have u:-((x-(a+y)) / 4294967296)=1:=by omega
       rw[m,u]at E;clear m u;have j:=eN R.out k (x+4294967296-(a+y));rw[I.out]at j;have l:=Qt j;clear j;go_wp2;go_roundg (v-(k+1))
       case measure=>omega
       case rel=>exact⟨k+1,1,pre++[x+4294967296-(a+y)],by omega,Qu _,by go_num,by go_num,by omega,by omega,⟨by simp[z.out.1],by rw[<-z.out.2,E.out,QP]; rfl⟩,l,s.out.set _ _⟩
     ·have E:=Qt (yh f A k a D (by rw[Q.out.2]; omega));generalize f[k]?.getD 0=x at *;by_cases ai:a<=x
      ·have m:(x-a) % 4294967296=x-a:=by omega
       have u:-((x-a) / 4294967296)=0:=by omega
       rw[m,u]at E;clear m u;have j:=eN R.out k (x-a);rw[I.out]at j;have l:=Qt j;clear j;go_wp2;go_roundg (v-(k+1))
       case measure=>omega
       case rel=>exact⟨k+1,0,pre++[x-a],by omega,Qu _,by go_num,by go_num,by omega,by omega,⟨by simp[z.out.1],by rw[<-z.out.2,E.out,QP]; rfl⟩,l,s.out.set _ _⟩
      ·have m:(x-a) % 4294967296=x+4294967296-a:=by omega
       have u:-((x-a) / 4294967296)=1:=by omega
       rw[m,u]at E;clear m u;have j:=eN R.out k (x+4294967296-a);rw[I.out]at j;have l:=Qt j;clear j;go_wp2;go_roundg (v-(k+1))
       case measure=>omega
       case rel=>exact⟨k+1,1,pre++[x+4294967296-a],by omega,Qu _,by go_num,by go_num,by omega,by omega,⟨by simp[z.out.1],by rw[<-z.out.2,E.out,QP]; rfl⟩,l,s.out.set _ _⟩
    ·obtain rfl:k=v:=by omega
     have hd:f.drop k=[]:=Q3 (by rw[Q.out.1]; omega);have H:pre=jC f A 0:=by
      have:=z.out.2; rw[hd]at this; simpa [jC]using this
     have P:=R.out;rw[hd,Q9,H]at P;have aj:=Qt P;have ac:=C.trans (s.out.below (C.size) (QL d.size hg));clear P H hd;go_wp2_with fail;refine(pd (pD aj.out d.size) (xE _ _ _) (by rw[yr,Q.out.1]; omega) ac ac.size).mono ?_;rintro e w3 h;obtain⟨v3,rfl,L,O⟩:=kU.ret h;clear h;rw[F.out]at L;go_wp2_with fail;go_ret2;refine⟨v3,?_,?_,O⟩
     ·rw[QY B.out]; rfl
     ·rw[QJ B.out]; exact L
theorem qR(m s:Nat):(2:Int) ^ (32*m+s)=Bp m*2 ^ s:=by rw[TK,oZ]
theorem CI{l:List Int}(h:Ds l)(m:Nat):N l / Bp m % 4294967296=l[m]?.getD 0:=by
 have f:=fK m;rcases QA m l.length with a|a
 ·have e:=fA l m (by omega);have b:=eQ (h.take m);have c:=jA (h.take m);have d:(l.take m).length=m:=by simp; omega
  rw[d]at c;have q:N l / Bp m=N (l.drop m):=by
   rw[e,Uc _ _ (by omega),Tq b c,Int.zero_add]
  have g:=h.at m;rw[q,iK a]; omega
 ·have b:=eQ h;have c:=jA h;have d:=iw a;rw[Tq b (by omega),QD a]; rfl
theorem abB{l:List Int}{m:Nat}(h:m<l.length)(x:Int):N (l.set m x)=N l+Bp m*(x-l[m]?.getD 0):=by
 have a:=fA l m (by omega);have b:=fA (l.set m x) m (by simp; omega);have c:(l.set m x).take m=l.take m:=by
  rw[List.take_set_of_le (Qu _)]
 have d:N ((l.set m x).drop m)=x+4294967296*N (l.drop (m+1)):=by
  rw[iK (by simp; omega)];congr 1
  ·simp[h]
  ·rw[VF (by omega)]
 rw[b,c,d,a,iK h,WV];simp only[SC];omega
theorem abp(m:Nat):Bp m≠0:=by have:=fK m; omega
theorem El{l:List Int}(h:Ds l)(m s:Nat)(d:s<32)(Q:Int)(e:N l=Q*2 ^ (32*m+s+1)):∃ t,l[m]?.getD 0=t*2 ^ (s+1):=by
 have b:N l / Bp m=Q*2 ^ (s+1):=by
  rw[e,RF,qR,Sf,Vd _ (abp m)]
 have a:=CI h m;rw[b]at a;obtain⟨r,c⟩:∃ r,(4294967296:Int)=r*2 ^ (s+1):=⟨2 ^ (31-s),by rw[<-TK,show 31-s+(s+1)=32 by omega]; rfl⟩;refine⟨Q-r*(Q*2 ^ (s+1) / 4294967296),?_⟩;rw[<-a,Int.emod_def,Vb];congr 1
 conv=>lhs; arg 1; rw[c]
 rw[RL,RL,RO (2 ^ (s+1)) (_ / _)]
theorem Pm(d:Int)(s:Nat)(o:0<=d/\d<4294967296)(u:s<32)(t:Int)(e:d=t*2 ^ (s+1)) :
    bits .or .u32 d (2 ^ s)=d+2 ^ s/\d+2 ^ s<4294967296:=by
 have k:(0:Int)<2 ^ (s+1):=by have:=two_pos (s+1); omega
 have a:0<=t:=by
  rcases Tg t 0 with h|h
  ·have:=Wu h k; omega
  ·exact h
 obtain⟨n,rfl⟩:=QV a;have l:d=((n*2 ^ (s+1):Nat):Int):=by rw[e]; simp
 have c:(2:Int) ^ s=((2 ^ s:Nat):Int):=by simp
 have g:2 ^ s<2 ^ (s+1):=WY (by omega) (by omega);have q:2 ^ (s+1)<=2 ^ 32:=WU (by omega) (by omega);have v:n*2 ^ (s+1)<4294967296:=by omega
 have j:(2:Nat) ^ 32=2 ^ (31-s)*2 ^ (s+1):=by rw[<-Nat.pow_add,show 31-s+(s+1)=32 by omega]
 have f:n*2 ^ (s+1)<2 ^ (31-s)*2 ^ (s+1):=by rw[<-j]; omega
 have m:n<2 ^ (31-s):=Nat.lt_of_mul_lt_mul_right f;have r:(n+1)*2 ^ (s+1)<=2 ^ (31-s)*2 ^ (s+1):=Q_ _ m;rw[<-j,T4,Nat.one_mul]at r;have:=T5 (i:=s+1) (b:=2 ^ s) g n;rw[Vj]at this;clear e o j f m a k;rw[c,l];clear l c;generalize n*2 ^ (s+1)=P at *;generalize 2 ^ (s+1)=R at *;generalize 2 ^ s=p at *;rw[u32_or_nat _ _ (by omega) (by omega),<-this];omega
theorem and_one(x:Int)(h:0<=x/\x<4294967296):bits .and .u32 x 1=x % 2:=by
 obtain⟨n,rfl⟩:=QV h.1;have:bits .and .u32 (n:Int) ((1:Nat):Int)=((n &&& 1:Nat):Int):=u32_and_nat _ _ (by omega) (by omega);rw[show(1:Int)=((1:Nat):Int) by rfl,this,Nat.and_one_is_mod]; omega
theorem ace{l:List Int}(h:Ds l)(m s:Nat)(b:s<32):l[m]?.getD 0 / 2 ^ s % 2=N l / 2 ^ (32*m+s) % 2:=by
 rw[qR,<-Vo (by have:=fK m; omega),<-CI h m];generalize N l / Bp m=q;obtain⟨r,a⟩:∃ r,(4294967296:Int)=2 ^ s*(2*r):=⟨2 ^ (31-s),by
  rw[<-RL,<-UX,<-TK,show s+1+(31-s)=32 by omega]; rfl⟩
 have c:=two_pos s;have e:=WR q 4294967296;generalize q / 4294967296=u at *;generalize q % 4294967296=v at *;subst e;rw[a,RL,Uc _ _ (by omega),RL];omega
theorem yf(Y r:Int)(d:0<Y)(T b:Int)(i:0<=b/\b<=1)(a:r=T % Y) :
    (2*T+b) / Y=2*(T / Y)+(if Y<=2*r+b then 1 else 0)/\(2*T+b) % Y=if Y<=2*r+b then 2*r+b-Y else 2*r+b:=by
 have e:=WR T Y;have f:=Si T (show Y≠0 by omega);have g:=RD T d;rw[<-a]at e f g;generalize T / Y=Q at *;clear a;have h:2*T+b=(2*r+b)+Y*(2*Q):=by rw[<-e,Sf]; omega
 rw[h];rw[Uc _ _ (by omega),U7];split
 ·have c:2*r+b=(2*r+b-Y)+Y*1:=by omega
  refine⟨?_,?_⟩
  ·rw[c,Uc _ _ (by omega),Tq (by omega) (by omega)]; omega
  ·rw[c,U7,UB (by omega) (by omega)]; omega
 ·rw[Tq (by omega) (by omega),UB (by omega) (by omega)]; omega
theorem JG(X:Int)(j:Nat):X / 2 ^ j=2*(X / 2 ^ (j+1))+X / 2 ^ j % 2:=by
 rw[UX,<-Vo (by have:=two_pos j; omega)];omega
theorem eS.only{w w':World}{g base:Nat}{v:Value}{n:Int}(h:eS base w v n)(f:g<base)(d:jk g w w'):eS base w' v n:=by
 obtain⟨l,i,j,k,e⟩:=h;refine⟨l,iG.only e i f d,j,k,?_⟩;rintro b off o m c rfl;obtain⟨p,q,a⟩:=e b off o m c rfl;refine⟨p,q,?_⟩;have:b<w.heap.size:=by
  rcases QA b w.heap.size with h|h
  ·exact h
  ·rw[Sj h]at a; cases a
 obtain⟨_,_,_,_,r⟩:=d;rw[r b this (by simp; omega)]; exact a
theorem eS.wY{base:Nat}{w:World}{v:Value}{n:Int}(h:eS base w v n)(e:n≠0):∃ a len cap,v=.slice a len cap/\0<len/\len<=cap/\cap<=9223372036854775807:=by
 obtain⟨l,b,i,c,j⟩:=h;obtain⟨a,cap,rfl,f,g,_⟩:=Row.parts b;refine⟨a,l.length,cap,rfl,?_,f,g⟩;rcases l with _|⟨d,l⟩
 ·exact absurd c.symm e
 ·simp
theorem Row.cellAt{w:World}{a:Option Addr}{n cap:Nat}{l:List Int}(h:Row .u32 w (.slice a n cap) l)(i:Nat)(hi:i<n) :
    ∃ b off,a=some ⟨b,off,none⟩/\w.cell? ⟨b,off+i,none⟩=some (.int .u32 (l[i]?.getD 0))/\(Lit.int .u32 (l[i]?.getD 0)).wf=true:=by
 obtain⟨_,_,e,_,_,c⟩:=Row.parts h;cases e;exact c i hi
theorem Ke(A:Int)(j:Nat):A*2 ^ (j+1)=2*A*2 ^ j:=by rw[UX,RO ((2:Int) ^ j) 2,<-RL,RO A 2]
theorem acu(s:Nat)(a:s<32):(2:Int) ^ s % 4294967296=2 ^ s:=by
 have h:=ni a;have:=two_pos s;rw[UB]<;>omega
def Kt(base:Nat)(w:World)(v:Value)(n:Int):Prop:=∃ l,w.ownsRow base 73 1 v l.length (l.map (Value.int .u32))/\Canon l/\N l=n
theorem Kt.new{base:Nat}{w:World}{v:Value}{n:Int}(h:Kt base w v n):eS base w v n:=by
 obtain⟨l,a,b,c⟩:=h;exact⟨l,Row.rN a (fun n d=>wO (b.1 n d)),b,c,oo a⟩
def O3(base:Nat)(w:World)(x y:Int)(e:Ending)(w':World):Prop :=
 ∃ a b,e=.returned (.tuple #[a,b,.bool (decide (y≠0))])/\Kt base w' a (x / y)/\eS base w' b (if y=0 then 0 else x % y)/\Below base w w'
theorem Kh(va vb:Value)(c:Nat)(x y:Int)(w:World)(ha:ki w va c x)(hb:ki w vb c y)(hc:c<=16777216) :
    Calls Tryz.prog 52 #[va,vb] w (O3 w.heap.size w x y):=by
 have O:=Qt (And.intro ha.lt hb.lt);have HA:=Qt ha;have HB:=Qt hb;clear ha hb;go_enter Tryz.func52,Tryz.ntmps52;go_wp2_with fail;refine(oM va c x w HA.out (by omega)).mono ?_;rintro e w1 ⟨v1,rfl,⟨l1,r1,C1,N1,_f1⟩,P⟩;clear _f1;have aa:=Qt r1;have A:=Qt (And.intro C1 N1);have aL:l1.length<=c:=C1.len c (by rw[N1]; exact O.out.1);obtain⟨a1,p1,rfl,g1,m1,_h1⟩:=Row.parts r1;clear _h1 r1 C1 N1;go_wp2_with fail;refine(oM vb c y w1 (HB.out.keep P) (by omega)).mono ?_;rintro e Q ⟨v2,rfl,h2,ab⟩;have HY:=Qt h2;clear h2;have R:Below w.heap.size w Q:=P.trans (ab.mono P.size);by_cases Y:y=0
 ·obtain⟨a2,p2,rfl⟩:=eS.zero HY.out Y;have HZ:=Qt Y;clear Y;go_wp2_with fail;go_ret3;refine⟨.slice none 0 0,.slice none 0 0,?_,?_,?_,R⟩
  ·rw[Q4 (by have:=HZ.out; omega)]; rfl
  ·rw[HZ.out,Int.ediv_zero]; exact⟨[],S1 _ _ _ _,Canon.nil,rfl⟩
  ·rw[QJ HZ.out]; exact eS.nil _ _
 ·have S:0<y:=by have:=HY.out.ik; omega
  obtain⟨a2,n2,p2,rfl,aM,_,_⟩:=eS.wY HY.out Y;have hd:((n2:Int) == 0)=false:=by rw[RS]; omega
  have ac:=aa.out.keep ab;have ay:=Qt ac;clear aa ac;generalize ad:l1.length=z at *;have az:=Qt ad;have T:=Qt Y;clear ad Y;go_wp2_with (at_make; refine ir rfl (.tmp 20) (.tmp 20) 33 rfl Q.heap.size 73 .u32 4 Tryz.underlying33 gH _ z rfl rfl rfl (by omega) (by unfold maxLen; omega) (Qu _) ?_; intro w3 E aA);have HG:=Qt (rv E).1;have aN:w.heap.size<=Q.heap.size:=R.size;have aB:=Qt aA;have aC:Q.heap.size<w3.heap.size:=(rv E).1;have aD:=Qt E;clear E;generalize hG:Q.heap.size=G at *;have ae:=Qt hG;clear hG;go_wp2_with fail;go_loopg [10,11] (32*z) (fun gk v i wr=>∃(k:Nat) (q:List Int),k<=32*z/\k<=gk/\i=.int .i64 ((k:Int)-1)/\Hid (eS w3.heap.size wr v (x / 2 ^ k % y))/\Hid (q.length=z/\Ds q/\N q=x / 2 ^ k / y*2 ^ k) /\
      Hid (wr.ownsRow G 73 1 (.slice (some ⟨G,0,none⟩) z z) z (q.map (Value.int .u32)))/\Hid (jk G w3 wr))
  case atStart =>
   have e0:x / 2 ^ (32*z)=0:=by
    rw[<-oZ,<-A.out.2,<-az.out];exact Tq (eQ A.out.1.1) (jA A.out.1.1)
   refine⟨32*z,List.replicate z 0,Qu _,Qu _,by first|rfl|(congr 1; omega),?_,?_,aD.out,jk.refl _ _⟩
   ·rw[e0,Int.zero_emod]; exact eS.nil _ _
   ·refine⟨by simp,Ds.Ii _,?_⟩;rw[e0,WB,WG,sL]
  case round =>
   obtain⟨k,q,hk,aO,rfl,HR,f,HO,B⟩:=hrel
   have U:Hid (Below Q.heap.size Q wr):=by rw[ae.out]; exact aB.out.trans (B.out.below (by omega) (by omega))
   have F:Below w.heap.size w wr:=R.trans (U.out.mono (by rw[ae.out]; omega))
   have H:=Qt (show x / 2 ^ k % y<Bp c by have:=RD (x / 2 ^ k) S; have:=O.out.2; omega)
   rcases k with _|j
   ·rw[Int.pow_zero,Vt]at HR H f;rw[S3]at f;go_wp2_with fail;refine(xt _ z (x / y) wr ⟨q,Row.rN HO.out (fun n hn=>wO (f.out.2.1 n hn)),by rw[f.out.1]; omega,f.out.2.2⟩ (by omega)).mono ?_;rintro e w5 ⟨v5,l5,rfl,C,af,ah,a⟩;have h:=Qt (And.intro C (And.intro af ah));clear C af ah;have ai:=a;go_wp2_with fail;refine(oM u10 c (x % y) w5 ((HR.out.keep ai).num c H.out) (by omega)).mono ?_;rintro e w6 ⟨v6,rfl,aj,o⟩;have aE:=Qt aj;clear aj;go_wp2_with fail;go_ret3;refine⟨v5,v6,?_,⟨l5,pD (kE h.out.1 o) F.size,h.out.2.1,h.out.2.2⟩,?_,F.trans ((a.trans (o.mono a.size)).mono F.size)⟩
    ·rw[QY T.out]; rfl
    ·rw[QC T.out]; exact aE.out.mono (QL F.size a.size)
   ·have hm:j / 32<z:=by omega
    obtain⟨b1,o1,rfl,q1,wx⟩:=Row.cellAt ay.out (j / 32) hm;have q1:=Rq U.out q1;have dx:=wf_u32 wx;have K:=Qt (ace A.out.1.1 (j / 32) (j % 32) (by omega));rw[show 32*(j / 32)+j % 32=j by omega,A.out.2]at K;clear wx;generalize l1[j / 32]?.getD 0=d at *;have ak:0<=d / 2 ^ (j % 32)/\d / 2 ^ (j % 32)<4294967296:=by
     have h1:=two_pos (j % 32);have h2:=Sn dx.1 (show(0:Int)<=2 ^ (j % 32) by omega);have h3:=TQ (2 ^ (j % 32)) dx.1;omega
    have al:=Qt (and_one _ ak);have p:=Qt (yf y (x / 2 ^ (j+1) % y) S (x / 2 ^ (j+1)) (x / 2 ^ j % 2) (by omega) rfl);rw[<-JG]at p;have aP:=Qt (Si (x / 2 ^ (j+1)) T.out);have aQ:=Qt (RD (x / 2 ^ (j+1)) S);clear ak;go_wp2_with fail;rw[al.out,K.out];generalize hT:x / 2 ^ (j+1) % y=r at *;generalize an:x / 2 ^ j % 2=D at *;have ao:0<=D/\D<=1:=by omega
    have aR:=Qt (And.intro hT an);clear hT an;refine(Cf u10 (c+1) r D wr (HR.out.num (c+1) (by rw[Bp]; have:=fK c; have:=H.out; omega)) ao (by omega)).mono ?_;rintro e w5 ⟨v5,rfl,C,a⟩;have h:=Qt C;clear C;have aq:=Qt (show 2*r+D<Bp (c+1) by rw[Bp]; have:=fK c; have:=H.out; omega);have ar:=Qt (show y<Bp (c+1) by rw[Bp]; have:=fK c; have:=O.out.2; omega);have au:=Qt ((HY.out.keep U.out).keep a);go_wp2_with fail;refine(ME v5 (.slice a2 n2 p2) (c+1) (2*r+D) y w5 (h.out.num (c+1) aq.out) (au.out.num (c+1) ar.out) (by omega)).mono ?_;rintro e w6 ⟨rfl,o⟩;have b:=a.trans (o.mono a.size);by_cases s:y<=2*r+D
    ·have V:0<=fJ (2*r+D) y:=by rw[fJ,QC (by omega)]; split<;>omega
     generalize fJ (2*r+D) y=t at *;have aF:decide (0<=t)=true:=by simpa using V
     rw[QJ s,QJ s]at p;have L:=Qt s;clear s;go_wp2_with fail;refine(LB v5 (.slice a2 n2 p2) (c+1) (2*r+D) y w6 ((h.out.keep o).num (c+1) aq.out) ((au.out.keep o).num (c+1) ar.out) (by omega)).mono ?_;rintro e w7 ⟨v7,rfl,W,aG⟩;rw[QJ L.out]at W;rw[QY L.out];have aH:=Qt W;clear W;have M:=b.trans (aG.mono b.size);have I:=Qt (kE HO.out M);obtain⟨aS,aT⟩:=fM I.out (j / 32) hm;obtain⟨td,av⟩:=El f.out.2.1 (j / 32) (j % 32) (by omega) (x / 2 ^ (j+1) / y) (by rw[show 32*(j / 32)+j % 32=j by omega]; exact f.out.2.2);have aI:=f.out.2.1.at (j / 32);have aw:=Qt (Pm _ (j % 32) aI (by omega) td av);have aJ:=Qt (abB (l:=q) (m:=j / 32) (by rw[f.out.1]; exact hm) (q[j / 32]?.getD 0+2 ^ (j % 32)));have J:=Qt (eN I.out (j / 32) (q[j / 32]?.getD 0+2 ^ (j % 32)));have aK:=Qt (f.out.2.1.set (j / 32) (x:=q[j / 32]?.getD 0+2 ^ (j % 32)) (by have:=aw.out.2; have:=two_pos (j % 32); omega));have ax:=Qt (acu (j % 32) (by omega));clear av;generalize q[j / 32]?.getD 0=Z at *;go_wp2_with fail;rw[ax.out,aw.out.1];have X:=Qt (show N (q.set (j / 32) (Z+2 ^ (j % 32)))=x / 2 ^ j / y*2 ^ j by
      have e2:Bp (j / 32)*(Z+2 ^ (j % 32)-Z)=2 ^ j:=by
       rw[show Z+2 ^ (j % 32)-Z=2 ^ (j % 32) by omega,<-qR,show 32*(j / 32)+j % 32=j by omega]
      rw[aJ.out,e2,f.out.2.2,p.out.1,T6,Tt,Ke])
     have u:=B.out.trans (jk.c8 (g:=G) M);have aU:w3.heap.size<=w7.heap.size:=u.size;go_roundg j
     case measure=>omega
     case rel =>
      refine⟨j,q.set (j / 32) (Z+2 ^ (j % 32)),by omega,Qu _,by go_num,?_,⟨by rw[Sb]; exact f.out.1,aK.out,X.out⟩,J.out,u.set _ _⟩
      rw[p.out.2]
      refine eS.only (aH.out.mono ?_) aC ((jk.refl _ _).set _ _)
      exact QL B.out.size b.size
    ·have V:fJ (2*r+D) y<0:=by rw[fJ,QJ (by omega)]; decide
     generalize fJ (2*r+D) y=t at *;have aF:decide (0<=t)=false:=by simpa using V
     rw[QC s,QC s,UU]at p;have I:=Qt (kE HO.out b);have X:=Qt (show N q=x / 2 ^ j / y*2 ^ j by
      rw[f.out.2.2,p.out.1,Ke])
     have u:=B.out.trans (jk.c8 (g:=G) b);clear s;go_wp2_with fail;go_roundg j
     case measure=>omega
     case rel =>
      refine⟨j,q,by omega,Qu _,by go_num,?_,⟨f.out.1,f.out.2.1,X.out⟩,I.out,u⟩
      rw[p.out.2]
      exact(h.out.keep o).mono B.out.size
theorem LI(a b:Value)(c:Nat)(x y:Int)(w:World)(d:ki w a c x)(f:ki w b c y)(g:c<=16777216) :
    Calls Tryz.prog 52 #[a,b] w (Of w.heap.size w x y) :=
 (Kh a b c x y w d f g).mono fun e n ⟨h,i,j,k,l,m⟩=>⟨h,i,j,k.new,l,m⟩
theorem og(x y:Int):fL x y=fL y x:=by unfold fL; rw[UW]
theorem vw{x y:Int}(d:0<=x)(f:0<=y)(g:x % 2=0)(h:y % 2=1):fL (x / 2) y=fL x y:=by
 obtain⟨a,rfl⟩:=QV d;obtain⟨b,rfl⟩:=QV f;obtain⟨k,rfl⟩:∃ k,a=2*k:=⟨a / 2,by omega⟩;have e:((2*k:Nat):Int) / 2=(k:Int):=by omega
 unfold fL;rw[e,QH,QH,QH];have c:Nat.Coprime 2 b:=by
  rw[Nat.coprime_comm,Nat.Coprime];have:=Nat.gcd_rec 2 b;rw[UW,this,show b % 2=1 by omega]; simp
 rw[Nat.Coprime.gcd_mul_left_cancel _ c]
theorem EB{x y:Int}(c:0<=x)(d:0<=y)(g:x % 2=0)(h:y % 2=0):fL x y=2*fL (x / 2) (y / 2):=by
 obtain⟨a,rfl⟩:=QV c;obtain⟨b,rfl⟩:=QV d;obtain⟨k,rfl⟩:∃ k,a=2*k:=⟨a / 2,by omega⟩;obtain⟨m,rfl⟩:∃ k,b=2*k:=⟨b / 2,by omega⟩;have e:((2*k:Nat):Int) / 2=(k:Int):=by omega
 have f:((2*m:Nat):Int) / 2=(m:Int):=by omega
 unfold fL;rw[e,f,QH,QH,QH,QH,Nat.gcd_mul_left];omega
theorem zC{x y:Int}(c:0<=x)(h:x<=y):fL x (y-x)=fL x y:=by
 obtain⟨a,rfl⟩:=QV c;obtain⟨b,rfl⟩:=QV (show 0<=y by omega);have e:(b:Int)-(a:Int)=((b-a:Nat):Int):=by omega
 unfold fL;rw[e,QH,QH,QH,Nat.gcd_sub_self_right (by omega)]
theorem xx{x y:Int}(a:0<x):fL x y<=x:=by
 unfold fL;have:=Wh (m:=x.toNat) y.toNat (by omega);omega
theorem Fe{s c:Nat}{X x:Int}(h0:0<X)(h:2 ^ s*X<=x)(b:x<Bp c):s<32*c:=by
 have d:=QU (show 1<=X by omega) (show(0:Int)<=2 ^ s by have:=two_pos s; omega);rw[S3]at d;rw[oZ]at b;rcases QA s (32*c)with a|a
 ·exact a
 ·have:=ka a; omega
theorem Px{x y:Int}(h:x<=y):fJ x y<=0:=by
 unfold fJ;split
 ·decide
 ·split
  ·decide
  ·omega
theorem eS.head{base:Nat}{w:World}{v:Value}{n:Int}(h:eS base w v n)(e:0<n):∃ b off len cap d,v=.slice (some ⟨b,off,none⟩) len cap/\0<len/\len<=cap/\cap<=9223372036854775807 /\
    w.cell? ⟨b,off,none⟩=some (.int .u32 d)/\0<=d/\d<4294967296/\d % 2=n % 2:=by
 obtain⟨l,f,g,c,m⟩:=h;obtain⟨a,cap,rfl,i,j,k⟩:=Row.parts f;rcases l with _|⟨d,l⟩
 ·simp[N]at c; omega
 ·obtain⟨b,off,rfl,q,o⟩:=k 0 (by simp);have:=g.1.head;refine⟨b,off,_,cap,d,rfl,by simp,i,j,by simpa using q,this.1,this.2,?_⟩;rw[<-c,N]; omega
theorem acp(va vb:Value)(c:Nat)(x y:Int)(w:World)(ha:ki w va c x)(b:ki w vb c y)(hc:c<=16777216) :
    Calls Tryz.prog 51 #[va,vb] w (oD w.heap.size w (fL x y)):=by
 have D:=Qt (And.intro ha.lt b.lt);have O:=Qt (And.intro ha.ik b.ik);have HA:=Qt ha;have HB:=Qt b;clear ha b;go_enter Tryz.func51,Tryz.ntmps51;go_wp2_with fail;refine(oM va c x w HA.out (by omega)).mono ?_;rintro e w1 ⟨v1,rfl,h1,P⟩;have j:=Qt h1;clear h1;go_wp2_with fail;refine(oM vb c y w1 (HB.out.keep P) (by omega)).mono ?_;rintro e w2 ⟨v2,rfl,h2,ab⟩;have U:Below w.heap.size w w2:=P.trans (ab.mono P.size);have Q:=Qt (j.out.keep ab);have R:=Qt (h2.mono (base':=w.heap.size) P.size);clear h2 j;by_cases hx:x=0
 ·obtain⟨a1,p1,rfl⟩:=eS.zero Q.out hx;have m:=Qt (show y=fL x y by rw[hx,og,lG O.out.2]);clear hx;go_wp2_with fail;go_ret;exact⟨v2,rfl,by rw[<-m.out]; exact R.out,U⟩
 obtain⟨a1,n1,p1,rfl,av,aw,ax⟩:=eS.wY Q.out hx;have F:((n1:Int) == 0)=false:=by rw[RS]; omega
 have ac:0<x:=by have:=O.out.1; omega
 by_cases hy:y=0
 ·obtain⟨a2,p2,rfl⟩:=eS.zero R.out hy;have m:=Qt (show x=fL x y by rw[hy,lG O.out.1]);clear hx hy;go_wp2_with fail;go_ret;exact⟨_,rfl,by rw[<-m.out]; exact Q.out,U⟩
 obtain⟨a2,n2,p2,rfl,ay,az,aA⟩:=eS.wY R.out hy;have aB:((n2:Int) == 0)=false:=by rw[RS]; omega
 have aC:0<y:=by have:=O.out.2; omega
 clear hx hy;go_wp2_with fail;clear F aB av ay aw az ax aA;go_loopg [5,6,7] x.toNat (fun S p q t wr=>∃(X Y:Int) (s:Nat),0<X/\0<Y/\X.toNat<=S/\t=.int .i64 s/\Hid (eS w.heap.size wr p X)/\Hid (eS w.heap.size wr q Y)/\Hid (fL x y=2 ^ s*fL X Y/\2 ^ s*X<=x/\X<=x/\Y<=y)/\Below w.heap.size w wr)
 case atStart=>exact⟨x,y,0,ac,aC,Qu _,rfl,Q.out,R.out,⟨by simp,by simp,Ui _,Ui _⟩,U⟩
 case round =>
  obtain⟨X,Y,s,V,aD,aE,rfl,j,n,G,b⟩:=hrel
  obtain⟨bx,ox,nx,px,dx,rfl,ad,ae,af,qx,v,z,H⟩:=eS.head j.out V
  obtain⟨by_,oy,ny,py,dy,rfl,ah,ai,aj,qy,A,B,I⟩:=eS.head n.out aD
  have hs:=Fe V G.out.2.1 D.out.1
  by_cases g:X % 2=0/\Y % 2=0
  ·have r:bits .and .u32 dx 1=0:=by rw[and_one _ ⟨v,z⟩]; omega
   have C:bits .and .u32 dy 1=0:=by rw[and_one _ ⟨A,B⟩]; omega
   have m:=Qt g;clear g H I;go_wp2_with fail;refine(BW _ c X wr (j.out.num c (by have:=D.out.1; have:=G.out.2.2.1; omega)) (by omega)).mono ?_;rintro e W ⟨v3,rfl,J,a⟩;have K:=Qt (J.mono (base':=w.heap.size) b.size);clear J r C;go_wp2_with fail;refine(BW _ c Y W ((n.out.keep a).num c (by have:=D.out.2; have:=G.out.2.2.2; omega)) (by omega)).mono ?_;rintro e w4 ⟨v4,rfl,M,u⟩;have Z:=Qt (M.mono (base':=w.heap.size) (QL b.size a.size));clear M;have E:=Qt (EB (x:=X) (y:=Y) (by omega) (by omega) m.out.1 m.out.2);go_wp2_with fail;go_roundg (X / 2).toNat
   case measure=>omega
   case rel =>
    refine⟨X / 2,Y / 2,s+1,by have:=m.out.1; omega,by have:=m.out.2; omega,Qu _,by go_num,K.out.keep u,Z.out,⟨?_,?_,?_,?_⟩,(b.trans (a.mono b.size)).trans (u.mono (QL b.size a.size))⟩
    ·rw[G.out.1,E.out,UX,RL]
    ·rw[UX,RL,show 2*(X / 2)=X by have:=m.out.1; omega]; exact G.out.2.1
    ·have:=G.out.2.2.1; omega
    ·have:=G.out.2.2.2; omega
  ·have o:=Qt (show X % 2=1∨Y % 2=1 by omega);have aF:=Qt (show fL X Y*2 ^ s<=x by rw[RO,<-G.out.1]; exact xx ac);have ak:=Qt (show X<Bp c/\Y<Bp c by have:=D.out.1; have:=D.out.2; have:=G.out.2.2.1; have:=G.out.2.2.2; omega);have aG:(bits .and .u32 dx 1=0/\bits .and .u32 dy 1=1)∨bits .and .u32 dx 1=1:=by
    rw[and_one _ ⟨v,z⟩,and_one _ ⟨A,B⟩]; omega
   clear g H I;rcases aG with⟨r,C⟩|r
   all_goals
    go_wp2_with fail
    clear r
    try clear C
    clear v z A B qx qy
    go_loopg [5,6] (X+Y).toNat (fun S p q wr=>∃ X' Y':Int,0<X'/\0<=Y'/\(X'+Y').toNat<=S/\Hid (X' % 2=1∨Y' % 2=1)/\Hid (eS w.heap.size wr p X')/\Hid (eS w.heap.size wr q Y')/\Hid (fL X' Y'=fL X Y/\X'<Bp c/\Y'<Bp c)/\Below w.heap.size w wr)
    case atStart=>exact⟨X,Y,V,by omega,Qu _,o,j,n,⟨rfl,ak.out.1,ak.out.2⟩,b⟩
    case round =>
     clear j n b o ad ae af ah ai aj
     obtain⟨N,Y1,aH,al,aE,o,j,n,HJ,b⟩:=hrel
     rcases Uv al with L|L
     ·obtain⟨aq,nq,pq,rfl,aO,aP,aQ⟩:=eS.wY n.out (by omega);have F:decide ((nq:Int)>0)=true:=by simp; omega
      go_wp2_with fail;clear F;go_loopg [5] N.toNat (fun S p wr=>∃ d:Int,0<d/\d.toNat<=S/\d<=N/\Hid (d % 2=1∨Y1 % 2=1)/\Hid (eS w.heap.size wr p d)/\Hid (eS w.heap.size wr (.slice aq nq pq) Y1)/\Hid (fL d Y1=fL X Y)/\Below w.heap.size w wr)
      case atStart=>exact⟨N,aH,Qu _,Ui _,o,j,n,HJ.out.1,b⟩
      case round =>
       clear j n b o
       obtain⟨d,an,aL,aM,o,j,n,HK,b⟩:=hrel
       obtain⟨bx,ox,nx,px,dx,rfl,ad,ae,af,qx,v,z,H⟩:=eS.head j.out an
       by_cases g:d % 2=0
       ·have r:bits .and .u32 dx 1=0:=by rw[and_one _ ⟨v,z⟩]; omega
        have E:=Qt (vw (x:=d) (y:=Y1) (by omega) al g (by have:=o.out; omega));have m:=Qt g;clear g H;go_wp2_with fail;refine(BW _ c d wr (j.out.num c (by have:=HJ.out.2.1; omega)) (by omega)).mono ?_;rintro e W ⟨v3,rfl,J,a⟩;have K:=Qt (J.mono (base':=w.heap.size) b.size);clear J r;go_wp2_with fail;go_roundg (d / 2).toNat
        case measure=>omega
        case rel=>exact⟨d / 2,by have:=m.out; omega,Qu _,by omega,by have h:=o.out; have h2:=m.out; show _∨_; omega,K.out,n.out.keep a,by show _=_; rw[E.out,HK.out],b.trans (a.mono b.size)⟩
       ·have r:bits .and .u32 dx 1=1:=by rw[and_one _ ⟨v,z⟩]; omega
        have ao:=Qt (show d % 2=1 by omega);clear g H;go_wp2_with fail;clear r v z qx;go_loopg [6] Y1.toNat (fun S q wr=>∃ f:Int,0<f/\f.toNat<=S/\f<=Y1/\Hid (eS w.heap.size wr (.slice (some ⟨bx,ox,none⟩) nx px) d)/\Hid (eS w.heap.size wr q f)/\Hid (fL d f=fL X Y)/\Below w.heap.size w wr)
        case atStart=>exact⟨Y1,L,Qu _,Ui _,j,n,HK,b⟩
        case round =>
         clear j n b o HK
         obtain⟨f,ar,au,aN,j,n,HK,b⟩:=hrel
         obtain⟨by_,oy,ny,py,dy,rfl,ah,ai,aj,qy,A,B,I⟩:=eS.head n.out ar
         by_cases g:f % 2=0
         ·have C:bits .and .u32 dy 1=0:=by rw[and_one _ ⟨A,B⟩]; omega
          have E:=Qt (vw (x:=f) (y:=d) (by omega) (by omega) g ao.out);have m:=Qt g;clear g I;go_wp2_with fail;refine(BW _ c f wr (n.out.num c (by have:=HJ.out.2.2; omega)) (by omega)).mono ?_;rintro e W ⟨v3,rfl,J,a⟩;have aI:=Qt (J.mono (base':=w.heap.size) b.size);clear J C;go_wp2_with fail;go_roundg (f / 2).toNat
          case measure=>omega
          case rel=>exact⟨f / 2,by have:=m.out; omega,Qu _,by omega,j.out.keep a,aI.out,by show _=_; rw[og,E.out,og,HK.out],b.trans (a.mono b.size)⟩
         ·have C:bits .and .u32 dy 1=1:=by rw[and_one _ ⟨A,B⟩]; omega
          have aJ:=Qt (show f % 2=1 by omega);clear g I;have l:=Qt (show d<Bp c/\f<Bp c by have:=HJ.out.2.1; have:=HJ.out.2.2; omega);go_wp2_with fail;clear C A B qy;refine(ME _ _ c d f wr (j.out.num c l.out.1) (n.out.num c l.out.2) (by omega)).mono ?_;rintro e W ⟨rfl,a⟩;by_cases aa:f<d
          ·have e1:fJ d f=1:=by rw[fJ,QC (by omega),QC (by omega)]
           rw[e1];clear e1;have m:=Qt aa;clear aa;go_wp2_with fail;refine(LB _ _ c d f W ((j.out.keep a).num c l.out.1) ((n.out.keep a).num c l.out.2) (by omega)).mono ?_;rintro e w4 ⟨v4,rfl,M,u⟩;have T:f<=d:=by have:=m.out; omega
           rw[QJ T]at M;rw[QY T];have aK:=Qt (M.mono (base':=w.heap.size) (QL b.size a.size));have E:=Qt (zC (x:=f) (y:=d) (by omega) T);clear M T;go_wp2_with fail;go_roundg d.toNat
           case measure=>omega
           case rel=>exact⟨f,d-f,ar,by have:=m.out; omega,by omega,.inl aJ.out,(n.out.keep a).keep u,aK.out,⟨by rw[E.out,og,HK.out],l.out.2,by have:=l.out.1; omega⟩,(b.trans (a.mono b.size)).trans (u.mono (QL b.size a.size))⟩
          ·have e1:fJ d f<=0:=Px (by omega);generalize fJ d f=t at *;have F:decide (t>0)=false:=by simp; omega
           have m:=Qt (show d<=f by omega);clear aa;go_wp2_with fail;refine(LB _ _ c f d W ((n.out.keep a).num c l.out.2) ((j.out.keep a).num c l.out.1) (by omega)).mono ?_;rintro e w4 ⟨v4,rfl,M,u⟩;rw[QJ m.out]at M;rw[QY m.out];have Z:=Qt (M.mono (base':=w.heap.size) (QL b.size a.size));have E:=Qt (zC (x:=d) (y:=f) (by omega) m.out);clear M e1 F;go_wp2_with fail;go_roundg f.toNat
           case measure=>omega
           case rel=>exact⟨d,f-d,an,by have:=m.out; omega,by omega,.inl ao.out,(j.out.keep a).keep u,Z.out,⟨by rw[E.out,HK.out],l.out.1,by have:=l.out.2; omega⟩,(b.trans (a.mono b.size)).trans (u.mono (QL b.size a.size))⟩
     ·obtain⟨aq,pq,rfl⟩:=eS.zero n.out L.symm;have E:=Qt (show N=fL X Y by rw[<-HJ.out.1,<-L,lG (by omega)]);clear L;go_wp2_with fail;clear n;go_loopg [5,8] s (fun S p i wr=>∃ k:Nat,k<=s/\s-k<=S/\i=.int .i64 k/\Hid (eS w.heap.size wr p (N*2 ^ k))/\Below w.heap.size w wr)
      case atStart=>exact⟨0,QE _,Qu _,rfl,by rw[Int.pow_zero,S3]; exact j,b⟩
      case round =>
       clear j b
       obtain⟨k,hk,au,rfl,j,b⟩:=hrel
       by_cases aR:k<s
       ·have l:=Qt (show N*2 ^ k<Bp c by
          have h1:=QU (ka (show k<=s by omega)) (show 0<=N by omega);have h2:=aF.out;rw[<-E.out]at h2;have:=D.out.1;omega)
        go_wp2_with fail;refine(Cf _ c (N*2 ^ k) 0 wr (j.out.num c l.out) (by omega) (by omega)).mono ?_;rintro e W ⟨v3,rfl,J,a⟩;have K:=Qt (J.mono (base':=w.heap.size) b.size);clear J;go_wp2_with fail;go_roundg (s-(k+1))
        case measure=>omega
        case rel=>exact⟨k+1,by omega,Qu _,by go_num,by rw[Ke,RL,<-UU (2*(N*2 ^ k))]; exact K,b.trans (a.mono b.size)⟩
       ·obtain rfl:k=s:=by omega
        have m:=Qt (show N*2 ^ k=fL x y by rw[G.out.1,E.out,RO]);go_wp2_with fail;go_ret;exact⟨_,rfl,by rw[<-m.out]; exact j.out,b⟩
theorem Mp(x y:Int):-1<=fJ x y/\fJ x y<=1:=by
 unfold fJ;split
 ·decide
 ·split<;>decide
theorem Fq{a b:Int}(h1:-1<=a)(h2:a<=1)(d:-1<=b)(e:b<=1):-1<=a*b/\a*b<=1:=by
 have c:a = -1∨a=0∨a=1:=by omega
 rcases c with rfl|rfl|rfl<;>omega
theorem DJ{p q:Rat}(h:iM p≠iM q):jX p q=if iM p<iM q then -1 else 1:=by
 have f:=kB p;have g:=kB q;unfold jX;have key:∀{x y:Rat},iM x<iM y->iM (x-y) = -1:=by
  intro x y a;unfold iM at *;rw[Rat.sub_def',oW _ _ (Nat.mul_ne_zero x.den_nz y.den_nz)];apply SI;have i:=x.den_pos;have j:=y.den_pos;rcases Uf x.num 0 with d|d|d
  ·have k:x.num*(y.den:Int)<0:=Wu d (by omega);rcases Uf y.num 0 with b|b|b
   ·rw[SI d,SI b]at a; omega
   ·rw[b,WG]; omega
   ·have e:0<y.num*(x.den:Int):=VE b (by omega);omega
  ·rw[d]at a ⊢;rw[WG];rcases Uf y.num 0 with b|b|b
   ·rw[SI b]at a; simp at a
   ·rw[b]at a; simp at a
   ·have e:0<y.num*(x.den:Int):=VE b (by omega);omega
  ·rw[S8 d]at a;rcases Uf y.num 0 with b|b|b
   ·rw[SI b]at a; omega
   ·rw[b]at a; simp at a
   ·rw[S8 b]at a; omega
 by_cases c:iM p<iM q
 ·rw[QJ c,key c]
 ·rw[QC c];have:=key (x:=q) (y:=p) (by omega);rw[<-Rat.neg_sub,w8,this]; rfl
theorem EO{p q:Rat}(h:iM p=iM q)(h0:iM p=0):jX p q=0:=by
 have a:=j0.1 h0;have b:=j0.1 (h▸h0);rw[a,b,jX,Rat.sub_self]; rfl
theorem Et{r:Bool}{a b c d:Int}(f:0<a)(e:0<b)(h:0<c)(g:0<d):jX (mk r a b) (mk r c d)=iM (mk r a b)*fJ (a*d) (c*b):=by
 rw[LA e g,BF f e,Ei];cases r
 ·simp[sg]
 ·simp only[sg,UL];rw[Uy,Uy,show -(a*d) - -(c*b) = -(a*d-c*b) by omega,Int.sign_neg,Uy,Tt]
theorem ot{neg:Bool}{n d:Int}(a:0<=n)(b:0<=d)(h:iM (mk neg n d)≠0):0<n/\0<d/\iM (mk neg n d)=if neg then -1 else 1:=by
 have c:n≠0:=fun e=>h (by rw[mk_zero (.inl e)]; rfl);have f:d≠0:=fun e=>h (by rw[mk_zero (.inr e)]; rfl);exact⟨by omega,by omega,BF (by omega) (by omega)⟩
theorem lH{p:Bool}{a b k:Int}(c:0<b)(hk:0<k):mk p a b=mk p (a*k) (b*k):=by
 unfold mk;have h:=W3 (n:=sg p a) (d:=b.toNat) (a:=k.toNat) (by omega);rw[Ur (by omega)]at h;rw[<-h];congr 1
 ·cases p<;>simp[sg,Uy]
 ·obtain⟨x,rfl⟩:=QV (show 0<=b by omega);obtain⟨y,rfl⟩:=QV (show 0<=k by omega);rw[<-S',QH,QH,QH]
theorem Cb{p:Bool}{x y d:Int}(a:0<d):mk p x d+mk p y d=mk p (x+y) d:=by
 rw[rX p p x d y a];unfold mk;congr 1;cases p<;>simp[sg]<;>omega
theorem qq{p q:Bool}{x y d:Int}(b:0<d)(a:p≠q):mk p x d+mk q y d=mk p (x-y) d/\mk p x d+mk q y d=mk q (y-x) d:=by
 rw[rX p q x d y b];unfold mk;cases p<;>cases q<;>simp[sg]at a ⊢<;>exact⟨by first|rfl|(congr 1; omega),by first|rfl|(congr 1; omega)⟩
theorem Pw{n d:Int}(b:d≠0):mk (!(decide (n<0) == decide (d<0))) (n.natAbs:Int) (d.natAbs:Int)=Rat.divInt n d:=by
 unfold mk;rw[QH];rcases Int.lt_or_gt_of_ne b with h|h
 ·obtain⟨k,rfl⟩:∃ k:Nat,d = -(k:Int):=⟨d.natAbs,by omega⟩;rw[Rat.divInt_neg',V_,Int.natAbs_neg,TA];congr 1;rw[QY h];by_cases a:n<0
  ·rw[QY a]; simp[sg]; omega
  ·rw[Q4 a]; simp[sg]; omega
 ·obtain⟨k,rfl⟩:∃ k:Nat,d=(k:Int):=⟨d.natAbs,by omega⟩;rw[V_,TA];congr 1;rw[Q4 (show ¬((k:Int)<0) by omega)];by_cases a:n<0
  ·rw[QY a]; simp[sg]; omega
  ·rw[Q4 a]; simp[sg]; omega
theorem yX{n d:Int}{c:Nat}(e:0<=n)(f:0<=d)(h1:n<Bp c)(h2:d<Bp c):fL n d<Bp c:=by
 obtain⟨a,rfl⟩:=QV e;obtain⟨b,rfl⟩:=QV f;rw[zt];rcases Sc a with h|h
 ·subst h; simp; exact h2
 ·have:=Wh b h; omega
theorem sP(n:Int)(k:Nat)(hk:k<62):bits .and .i64 n (2 ^ k-1)=n % 2 ^ k:=by
 have f:(2:Nat) ^ k<2 ^ 62:=WY (by omega) hk;have b:(1:Nat)<=2 ^ k:=Nat.one_le_two_pow;have c:((2:Int) ^ k-1)=((2 ^ k-1:Nat):Int):=by
  rw[Int.natCast_sub b]; simp
 have a:(BitVec.ofInt 64 ((2:Int) ^ k-1)).toNat=2 ^ k-1:=by
  rw[c,W7];omega
 have key:(BitVec.ofInt 64 n &&& BitVec.ofInt 64 ((2:Int) ^ k-1)).toNat=(n % ((2 ^ 64:Nat):Int)).toNat % 2 ^ k:=by
  rw[BitVec.toNat_and,W7,a,V8]
 show IntKind.i64.wrap ((BitVec.ofInt 64 n &&& BitVec.ofInt 64 ((2:Int) ^ k-1)).toNat:Nat)=n % 2 ^ k;rw[key,Sq];have d:((2:Int) ^ k) ∣ ((2 ^ 64:Nat):Int):=⟨2 ^ (64-k),by rw[<-TK,show k+(64-k)=64 by omega]; rfl⟩;have e:(((n % ((2 ^ 64:Nat):Int)).toNat % 2 ^ k:Nat):Int)=n % 2 ^ k:=by
  rw[Int.natCast_emod,Ur (Si _ (by decide))];rw[Int.natCast_pow];exact Int.emod_emod_of_dvd n d
 have g:0<=n % (2:Int) ^ k:=Si _ (by have:=two_pos k; omega);have h:n % (2:Int) ^ k<2 ^ k:=RD _ (by have:=two_pos k; omega);have i:=ka (show k<=62 by omega);rw[e];have:(2:Int) ^ 62=4611686018427387904:=by decide
 omega
def bfr(n:Int):Rat:=Rat.divInt (n % 64-20) (n / 64 % 32+1)
theorem abm(n:Int):Qb 1 (bfr n):=by
 unfold bfr;obtain⟨k,hk⟩:=QV (show 0<=n / 64 % 32+1 by omega);rw[hk,V_];have:Bp 1=4294967296:=by decide
 exact sE (by omega) (by omega) (by omega)
end Go.Proofs.YtbokoblnehgkaabGreat.Nt
