/-
  The walk as a computation: operations and calls.
-/
import Derived.Test.YtbokoblnehgkaabGreatG1
import Derived.Great.BuildSlice
import Derived.Laws.CopyOwn
set_option linter.unusedVariables false
set_option linter.unusedSimpArgs false
set_option maxHeartbeats 4000000
set_option maxRecDepth 100000
namespace Go.Proofs.YtbokoblnehgkaabGreat.Gx
open Go Go.RowKit Tw
theorem mW{ρ:List Value}{X Y:Nat->Prop}{w w':World}{x:AV}{vs:List Value}(h:m ρ X w x vs)(f:∀ b,Y b->X b∨w.heap.size<=b)(e:Ev X w w'):m ρ Y w' x vs:=by
 have g:m ρ (fun b=>X b∨Y b) w x vs:=fN (fun b c=>c.elim .inl (f b)) h;have i:m ρ (fun b=>X b∨Y b) w' x vs:=oT ⟨e.size,fun k hk j=>e.block k hk fun h=>j (.inl h)⟩ g;exact fN (fun b c=>.inl (.inr c)) i
theorem lE{t:Ty}{X Y:Nat->Prop}{w w':World}{cs:List Value}{a:t.den}(h:rep t X w cs a)(f:∀ b,Y b->X b∨w.heap.size<=b)(e:Ev X w w'):rep t Y w' cs a:=by
 have g:rep t (fun b=>X b∨Y b) w cs a:=eJ h (fun b c=>c.elim .inl (f b));have i:rep t (fun b=>X b∨Y b) w' cs a:=fx g ⟨e.size,fun k hk j=>e.block k hk fun h=>j (.inl h)⟩;exact eJ i (fun b c=>.inl (.inr c))
theorem gl{w w':World}{B:Nat}{T:TypeId}{size:Nat}{v:Value}{n:Nat}{xs:List Value}(h:w.ownsRow B T size v n xs)(e:∀ b,fa v=some b->w'.heap[b]?=w.heap[b]?):w'.ownsRow B T size v n xs:=by
 refine⟨h.1,?_⟩;rcases h.2 with f|⟨g,cap,c,rfl,i,j,l⟩
 ·exact .inl f
 ·exact .inr ⟨g,cap,c,rfl,i,by rw[e g rfl]; exact j,l⟩
theorem rP{B:Nat}{X Y:Nat->Prop}{w w':World}{T:TypeId}{t:Ty}{v:Value}{l:List t.den}(h:Rw B X w T t v l)(c:∀ b,Y b->X b∨w.heap.size<=b)(e:Ev X w w')(f:∀ b,fa v=some b->w'.heap[b]?=w.heap[b]?):Rw B Y w' T t v l:=by
 obtain⟨xs,g,j,m⟩:=h;exact⟨xs,gl g f,j,fun i x p=>lE (m i x p) c e⟩
theorem n9{B:Nat}{X Y:Nat->Prop}{w:World}{T:TypeId}{t:Ty}{v:Value}{l:List t.den}(h:Rw B X w T t v l)(c:∀ b,Y b->X b):Rw B Y w T t v l:=by
 obtain⟨xs,e,f,g⟩:=h;exact⟨xs,e,f,fun i x j=>eJ (g i x j) fun b m=>.inl (c b m)⟩
theorem kq{B:Nat}{ρ:List Value}{X Y:Nat->Prop}{w w':World}{c:Nat}{ct:CT}(h:cm B ρ X w c ct)(s:∀ b,Y b->X b∨w.heap.size<=b)(u:Ev X w w')(p:∀ b,fk ρ c b->w'.heap[b]?=w.heap[b]?):cm B ρ Y w' c ct:=by
 cases ct with
 | box T l =>
  obtain⟨f,b,cs,g,j,m,A⟩:=h
  exact⟨f,b,cs,g,by rw[p b (by rw[gi g]; rfl)]; exact j,mW m s u,A⟩
 | row T t l =>
  obtain⟨v,xs,f,g,j,m⟩:=h
  exact⟨v,xs,f,gl g (fun b e=>p b (fh f e)),j,fun i x q=>lE (m i x q) s u⟩
 | eW T o d z =>
  obtain⟨v,xs,y,f,g,j,m⟩:=h
  exact⟨v,xs,y,f,g,gl j (fun b e=>p b (fh f e)),m⟩
 | gv T t C =>
  obtain⟨y,f,g,j,m⟩:=h
  exact⟨y,f,g,fun i x l q z=>rP (j i x l q z) s u (fun b e=>p b (fj f q e)),m⟩
theorem l_{ρ l:List Value}{c:Nat}(h:c<ρ.length):fk (ρ++l) c=fk ρ c:=by
 unfold fk; rw[Q0 h]
theorem tD{B:Nat}{ρ:List Value}{X:Nat->Prop}{w:World}{c:Nat}{ct:CT}(l:List Value)(h:cm B ρ X w c ct):cm B (ρ++l) X w c ct:=by
 cases ct with
 | box T k =>
  obtain⟨e,b,cs,f,g,j,m⟩:=h
  exact⟨e,b,cs,ap f,g,iI l j,m⟩
 | row T t k =>
  obtain⟨v,xs,e,f⟩:=h
  exact⟨v,xs,ap e,f⟩
 | eW T o d p =>
  obtain⟨v,xs,i,e,f,g⟩:=h
  exact⟨v,xs,i,ap e,ap f,g⟩
 | gv T t q =>
  obtain⟨i,e,f⟩:=h
  exact⟨i,ap e,f⟩
section
variable{w0:World}{X0:Nat->Prop}{Bo:List Value}{N:Nat}{st:St}{ρ:List Value}{a:Act}{w w':World}
theorem Fr.xlt(h:Fr w0 X0 Bo N st ρ a w)(c:∀ b,X0 b->b<w0.heap.size):∀ b,XX X0 ρ st.ck b->b<w.heap.size:=by
 rintro b (e|⟨x,f,e⟩)
 ·exact QI (c b e) h.kp.size
 ·exact(h.bl x f b e).1
theorem Fr.wd(h:Fr w0 X0 Bo N st ρ a w)(c:∀ b,X0 b->b<w0.heap.size):Wd 0 ρ (XX X0 ρ st.ck) st.ck w:=⟨h.xlt c,h.cs⟩
theorem rm{a:Act}{d:Option Nat}{v:Value}{t:Nat}{sl:List (Nat×AV)}{r x:AV}{M:AV->Value->Prop}(c:∀ t,d=some t->t<a.tmps.size)(f:M r v)(b:∀ t x,get? sl t=some x->M x (gt a t))(h:get? (put sl d r) t=some x):M x (gt (a.put d v) t):=by
 cases d with
 | none=>rw[eL (by simp)]; exact b t x h
 | some d =>
  unfold put at h
  simp only[get?]at h
  split at h
  ·rename_i e;have e:=fO e;subst e;cases h;rw[fH (c d rfl)]; exact f
  ·rename_i e;have e:=qz e;rw[eL (by intro g; exact e (Rk g))]; exact b t x h
theorem Fr.pure(h:Fr w0 X0 Bo N st ρ a w)(i:∀ b,X0 b->b<w0.heap.size)(f:Below w.heap.size w w'){d:Option Nat}{r:AV}{v:Value}(j:∀ t,d=some t->t<N)(l:m ρ (XX X0 ρ st.ck) w' r [v]) :
    Fr w0 X0 Bo N ⟨put st.sl d r,st.ck,st.nx⟩ ρ (a.put d v) w':=by
 have g:Ev (XX X0 ρ st.ck) w w':=Ev.c8 f;refine⟨by rw[gh]; exact h.dn,by rw[size_put]; exact h.sz,h.kp.below f,h.nx,h.nd,h.kn,fun x c b e=>?_,h.dj,fun x c=>?_,fun t x c=>?_,h.pn⟩
 ·have:=h.bl x c b e; exact⟨QI this.1 f.size,this.2⟩
 ·exact kq (h.cs x c) (fun b f=>.inl f) g fun b e=>f.block b (h.bl x c b e).1
 ·refine rm (M:=fun x v=>m ρ (XX X0 ρ st.ck) w' x [v]) (by rw[h.sz]; exact j) l (fun t x c=>oT g (h.sl t x c)) c
theorem sJ{ρ:List Value}{ck:List (Nat×CT)}{n:Nat}{ct:CT}{v:Value}(e:ρ.length=n)(hk:∀ x∈ck,x.1<n){b:Nat}(h:XX X0 (ρ++[v]) ((n,ct)::ck) b):XX X0 ρ ck b∨E_ v b:=by
 rcases h with h|⟨x,c,h⟩
 ·exact .inl (.inl h)
 ·rcases Qv.1 c with rfl|c
  ·simp only[fk]at h;rw[QT (by omega),e]at h;simp at h;exact .inr h
  ·rw[l_ (by rw[e]; exact hk x c)]at h;exact .inl (.inr ⟨x,c,h⟩)
theorem Fr.tr(h:Fr w0 X0 Bo N st ρ a w)(e:Below w.heap.size w w'){v:Value}(f:∀ b,E_ v b->w.heap.size<=b){ct:CT}{x:AV}{vs:List Value}(g:m ρ (XX X0 ρ st.ck) w x vs):m (ρ++[v]) (XX X0 (ρ++[v]) ((st.nx,ct)::st.ck)) w' x vs :=
 iI _ (mW g (fun b c=>(sJ h.nx h.kn c).imp id (f b)) (Ev.c8 e))
theorem Fr.rtr(h:Fr w0 X0 Bo N st ρ a w)(e:Below w.heap.size w w'){v:Value}(f:∀ b,E_ v b->w.heap.size<=b){ct:CT}{t:Ty}{x:t.den}{cs:List Value}(g:rep t (XX X0 ρ st.ck) w cs x):rep t (XX X0 (ρ++[v]) ((st.nx,ct)::st.ck)) w' cs x :=
 lE g (fun b c=>(sJ h.nx h.kn c).imp id (f b)) (Ev.c8 e)
theorem Pn.more{ck:List (Nat×CT)}{n:Nat}(h:Pn w0 X0 Bo ck n ρ)(f:ρ.length=n)(hk:∀ x∈ck,x.1<n)(v:Value)(ct:CT):Pn w0 X0 Bo ((n,ct)::ck) (n+1) (ρ++[v]):=by
 refine⟨h.bo,Nat.le_succ_of_le h.le,fun x c T l e b=>?_⟩;rcases Qv.1 c with rfl|c
 ·have:=h.le; exact absurd b (by omega)
 ·rw[Q0 (by rw[f]; exact hk x c)]; exact h.pn x c T l e b
theorem Pn.same{ck ck':List (Nat×CT)}{n:Nat}{ρ':List Value}(h:Pn w0 X0 Bo ck n ρ)(f:∀ x∈ck',∀ T l,x.2=.box T l->∃ y∈ck,y.1=x.1/\(∃ T l,y.2=.box T l)/\ρ'[x.1]?=ρ[x.1]?):Pn w0 X0 Bo ck' n ρ' :=
 ⟨h.bo,h.le,fun x g T l e b=>by
  obtain⟨y,i,c,⟨j,m,p⟩,q⟩:=f x g T l e;rw[q,<-c];exact h.pn y i j m p (by rw[c]; exact b)⟩
theorem Fr.grow(h:Fr w0 X0 Bo N st ρ a w)(p:Below w.heap.size w w'){v:Value}(q:∀ b,E_ v b->w.heap.size<=b/\b<w'.heap.size){ct:CT}
    (D:cm 0 (ρ++[v]) (XX X0 (ρ++[v]) ((st.nx,ct)::st.ck)) w' st.nx ct) {d:Nat}{x:AV}{u:Value} (F:d<N) (s:m (ρ++[v]) (XX X0 (ρ++[v]) ((st.nx,ct)::st.ck)) w' x [u]) :
    Fr w0 X0 Bo N ⟨(d,x)::st.sl,(st.nx,ct)::st.ck,st.nx+1⟩ (ρ++[v]) (a.put (some d) u) w':=by
 have hk:=h.kn;have A:=h.nx;have g:fk (ρ++[v]) st.nx=E_ v:=by
  apply gi;rw[QT (by omega),A];simp
 have f:∀ x∈st.ck,fk (ρ++[v]) x.1=fk ρ x.1:=fun x s=>l_ (by rw[A]; exact hk x s);refine⟨by rw[gh]; exact h.dn,by rw[size_put]; exact h.sz,h.kp.below p,by simp[A],?_,?_,?_,?_,?_,?_,?_⟩
 ·simp only[S0,Sm];refine⟨fun G=>?_,h.nd⟩;obtain⟨y,c,e⟩:=Rj.1 G;have:=hk y c;omega
 ·intro y c;rcases Qv.1 c with rfl|c
  ·exact SN _
  ·exact Uz (hk y c)
 ·intro y c b e;rcases Qv.1 c with rfl|c
  ·rw[g]at e;obtain⟨H,I⟩:=q b e;exact⟨I,.inl (QL h.kp.size H)⟩
  ·rw[f y c]at e;have:=h.bl y c b e;exact⟨QI this.1 p.size,this.2⟩
 ·intro y c z i B b j l;rcases Qv.1 c with rfl|c<;>rcases Qv.1 i with rfl|i
  ·exact B rfl
  ·rw[g]at j;rw[f z i]at l;have:=(q b j).1;have:=(h.bl z i b l).1;omega
  ·rw[g]at l;rw[f y c]at j;have:=(q b l).1;have:=(h.bl y c b j).1;omega
  ·rw[f y c]at j;rw[f z i]at l;exact h.dj y c z i B b j l
 ·intro y c;rcases Qv.1 c with rfl|c
  ·exact D
  ·refine tD _ (kq (h.cs y c) (fun b C=>(sJ A hk C).imp id fun e=>(q b e).1) (Ev.c8 p) fun b e=>p.block b (h.bl y c b e).1)
 ·intro t y c;refine rm (d:=some d) (r:=x) (sl:=st.sl) (M:=fun x J=>m (ρ++[v]) (XX X0 (ρ++[v]) ((st.nx,ct)::st.ck)) w' x [J]) (by rw[h.sz]; intro t e; cases e; exact F) s (fun t x s=>h.tr p (fun b e=>(q b e).1) (h.sl t x s)) c
 ·exact h.pn.more A hk v ct
theorem Jh{ρ:List Value}{ck:List (Nat×CT)}{c:Nat}{ct z:CT}(i:get? ck c=some z){b:Nat}:XX X0 ρ (jh ck c ct) b↔XX X0 ρ ck b:=by
 have hk:=iA (y:=ct) i;have key:(∃ x∈jh ck c ct,fk ρ x.1 b)↔∃ x∈ck,fk ρ x.1 b:=by
  constructor
  ·rintro⟨x,f,e⟩;have:x.1∈(jh ck c ct).map (·.1):=TN f;rw[hk]at this;obtain⟨y,g,h⟩:=Rj.1 this;exact⟨y,g,by rw[h]; exact e⟩
  ·rintro⟨x,f,e⟩;have:x.1∈ck.map (·.1):=TN f;rw[<-hk]at this;obtain⟨y,g,h⟩:=Rj.1 this;exact⟨y,g,by rw[h]; exact e⟩
 unfold XX;rw[key]
theorem Fr.set(h:Fr w0 X0 Bo N st ρ a w)(R:∀ b,X0 b->b<w0.heap.size){c b:Nat}{z ct:CT}(s:get? st.ck c=some z)(i:fk ρ c b)(A:∀ k,k≠b->w'.heap[k]?=w.heap[k]?)(B:w'.heap.size=w.heap.size)
    (C:w'.os=w.os/\w'.tape=w.tape/\w'.output=w.output) (S:cm 0 ρ (XX X0 ρ st.ck) w' c ct) (D:∀ T l,ct=.box T l->∃ T l,z=.box T l):Fr w0 X0 Bo N ⟨st.sl,jh st.ck c ct,st.nx⟩ ρ a w':=by
 have g:=b7 s;have F:XX X0 ρ st.ck b:=.inr ⟨_,g,i⟩;have K:Ev (XX X0 ρ st.ck) w w':=⟨by rw[B]; exact Qu _,fun k hk u=>A k fun e=>u (by rw[e]; exact F)⟩;have hk:=iA (y:=ct) s;have back:∀ x∈jh st.ck c ct,x=(c,ct)∨(x∈st.ck/\x.1≠c):=fun x f=>pV h.nd f;have v:∀ x∈jh st.ck c ct,∃ y∈st.ck,y.1=x.1:=by
  intro x f;rcases back x f with rfl|⟨f,_⟩
  ·exact⟨_,g,rfl⟩
  ·exact⟨x,f,rfl⟩
 refine⟨h.dn,h.sz,⟨C.1.trans h.kp.os,C.2.1.trans h.kp.tape,C.2.2.trans h.kp.output,by rw[B]; exact h.kp.size,fun k G u=>?_⟩,h.nx,by rw[hk]; exact h.nd,?_,?_,?_,?_,?_,?_⟩
 ·have:=h.bl _ g b i;rw[A k fun e=>?_,h.kp.block k G u];subst e;rcases this.2 with L|L
  ·omega
  ·exact u L
 ·intro x f;obtain⟨y,p,e⟩:=v x f;rw[<-e]; exact h.kn y p
 ·intro x f m e;obtain⟨y,p,H⟩:=v x f;rw[<-H]at e;rw[B]; exact h.bl y p m e
 ·intro x f y p j m M O;obtain⟨U,I,P⟩:=v x f;obtain⟨V,J,Q⟩:=v y p;rw[<-P]at M;rw[<-Q]at O;exact h.dj U I V J (by rw[P,Q]; exact j) m M O
 ·intro x f;have q:∀ b,XX X0 ρ (jh st.ck c ct) b->XX X0 ρ st.ck b:=fun b=>(Jh s).1;rcases back x f with rfl|⟨f,j⟩
  ·exact kq S (fun b i=>.inl (q b i)) ⟨Qu _,fun _ _ _=>rfl⟩ fun _ _=>rfl
  ·exact kq (h.cs x f) (fun b i=>.inl (q b i)) K fun m e=>A m fun H=>by subst H; exact h.dj x f _ g j m e i
 ·intro t x f;exact mW (h.sl t x f) (fun b i=>.inl ((Jh s).1 i)) K
 ·refine h.pn.same fun x f T l e=>?_;rcases back x f with rfl|⟨f,j⟩
  ·exact⟨_,g,rfl,D T l e,rfl⟩
  ·exact⟨x,f,rfl,⟨T,l,e⟩,rfl⟩
end
section
variable{E:Env}{w0:World}{X0:Nat->Prop}{Bo:List Value}{N:Nat}{st st':St}{ρ:List Value}{a:Act}{w:World}{d:Nat}{ps:List Prop} {ty:TypeId}{pos:String}{af:Array Edge}{X:Nat->Prop}
def Made(E:Env)(w0:World)(X0:Nat->Prop)(Bo:List Value)(N:Nat)(st':St)(a:Act)(w:World)(d:Nat)(op:Op)(ty:TypeId)(pos:String)(af:Array Edge):Prop :=
 ∃ v w' ρ',(execOp a.eval ⟨some d,op,ty,pos,af,none⟩).run E.P w=.ok (.value v) w'/\Fr w0 X0 Bo N st' ρ' (a.put (some d) v) w'
theorem fC(w:World)(o:Obj):Below w.heap.size w (w.alloc o):=(QG _ _).alloc (Qu _) o
theorem CL(h:Fr w0 X0 Bo N st ρ a w)(j:d<N){T:TypeId}{l:AV}{cs:Array Value}(p:kl l=true)(q:m ρ (XX X0 ρ st.ck) w l cs.toList)(h1:∀ c∈cs.toList,c.oneCell'=true) :
    Fr w0 X0 Bo N ⟨(d,.ref st.nx 0)::st.sl,(st.nx,.box T l)::st.ck,st.nx+1⟩ (ρ++[.pointer (some ⟨w.heap.size,0,none⟩)]) (a.put (some d) (.pointer (some ⟨w.heap.size,0,none⟩))) (w.alloc (.cells cs T)):=by
 have f:=fC w (.cells cs T);have g:∀ b,E_ (.pointer (some ⟨w.heap.size,0,none⟩)) b->w.heap.size<=b/\b<(w.alloc (.cells cs T)).heap.size:=by
  intro b e;cases e;exact⟨Qu _,by simp⟩
 have i:(ρ++[Value.pointer (some ⟨w.heap.size,0,none⟩)])[st.nx]?=some (.pointer (some ⟨w.heap.size,0,none⟩)):=by
  rw[QT (by rw[h.nx]; omega),h.nx]; simp
 refine h.grow f g (ct:=.box T l) ⟨p,_,cs,i,S_ w _,h.tr f (fun b e=>(g b e).1) q,h1⟩ j ⟨_,_,i,rfl,rfl⟩
theorem lg(h:Fr w0 X0 Bo N st ρ a w)(z:d<N){w':World}(s:Below w.heap.size w w'){T:TypeId}{t:Ty}{l:List t.den}{xs:List Value}{v:Value}(j:w'.ownsRow w.heap.size T t.size v l.length xs)(h1:∀ c∈xs,c.oneCell'=true)
    (A:∀ i x,l[i]?=some x->rep t (XX X0 ρ st.ck) w ((xs.drop (i*t.size)).take t.size) x) :
    Fr w0 X0 Bo N ⟨(d,.own st.nx)::st.sl,(st.nx,.row T t l)::st.ck,st.nx+1⟩ (ρ++[v]) (a.put (some d) v) w':=by
 have u:∀ b,E_ v b->w.heap.size<=b/\b<w'.heap.size:=by
  intro b e;have e:=mK j e;rcases j.2 with⟨rfl,_⟩|⟨g,cap,f,rfl,h1,p,_⟩
  ·cases e
  ·cases e; exact⟨h1,b9 p⟩
 have m:v.oneCell'=true:=by
  rcases j.2 with⟨rfl,_⟩|⟨g,cap,f,rfl,h1,p,_⟩<;>rfl
 have y:(ρ++[v])[st.nx]?=some v:=by
  rw[QT (by rw[h.nx]; omega),h.nx]; simp
 have q:w'.ownsRow 0 T t.size v l.length xs:=by
  refine⟨j.1,?_⟩;rcases j.2 with B|⟨g,cap,f,e,h1,p⟩
  ·exact .inl B
  ·exact .inr ⟨g,cap,f,e,QE _,p⟩
 exact h.grow s u (ct:=.row T t l) ⟨v,xs,y,q,h1,fun i x C=>h.rtr s (fun b e=>(u b e).1) (A i x C)⟩ z ⟨_,y,m,rfl⟩
theorem vQ(g:E.Ok)(h:Fr w0 X0 Bo N st ρ a w)(j:d<N){T:TypeId}(b:qY E st T d=some (st',ps)):Made E w0 X0 Bo N st' a w d (.alloc T) ty pos af:=by
 unfold qY at b;split at b
 ·rename_i e l;cases b;obtain⟨i,hi,p,_,_⟩:=(g.fact l).info;have c:(e.ty.wrap (zc e.ty)).cells=(zc e.ty).toArray:=fu (fw _) (gm _);have f:m ρ (XX X0 ρ st.ck) w (zA e.ty .nil) (zc e.ty):=by have:=xe (ρ:=ρ) (X:=XX X0 ρ st.ck) (w:=w) (t:=e.ty) (show m ρ _ w .nil []from rfl); rwa [Q9]at this
  refine⟨_,_,_,?_,CL h j (T:=T) (cs:=(zc e.ty).toArray) (mF rfl) (by simpa using f) (by simpa using gm e.ty)⟩;simp[execOp,Instr.alloc,zeroValue,typeInfo,hi,p,newVar,newRow,c]
 ·cases b
theorem LF(p:E.Ok)(h:Fr w0 X0 Bo N st ρ a w)(e:d<N){T:TypeId}{x:AV}{o:Operand}(f:m ρ (XX X0 ρ st.ck) w x [a.eval o])(b:Lq E st T x d=some (st',ps)):Made E w0 X0 Bo N st' a w d (.box T o) ty pos af:=by
 unfold Lq at b;split at b
 ·split at b
  ·rename_i l g;cases b;obtain⟨c,q,i,j,_⟩:=rj g rfl f (show m ρ _ w .nil []from rfl);rw[Q9]at c;refine⟨_,_,_,?_,CL h e (T:=T) (cs:=(a.eval o).cells) i c j⟩;simp[execOp,Instr.box,newVar,newRow]
  ·cases b
 ·cases b
theorem Jq(F:E.Ok)(h:Fr w0 X0 Bo N st ρ a w)(K:d<N){T:TypeId}{x y:AV}{o1 o2:Operand}(f:m ρ (XX X0 ρ st.ck) w x [a.eval o1])(L:m ρ (XX X0 ρ st.ck) w y [a.eval o2])(b:DR E st T x y d=some (st',ps))(M:eP ps) :
    Made E w0 X0 Bo N st' a w d (.makeSlice T o1 o2) ty pos af:=by
 unfold DR at b;split at b
 ·rename_i p q;obtain⟨O,Q⟩:=fI f;obtain⟨R,s⟩:=fI L;split at b
  ·rename_i u S;obtain⟨e,e',G,U,H,V⟩:=fF S;simp only[G,H]at b;cases b;obtain⟨⟨v,A,W⟩,_⟩:=M;obtain⟨i,hi,g,I,B⟩:=(F.fact H).info;rw[V]at g I;have J:=s.2;simp only[Gx.hi]at J;obtain⟨w',Z,ho,hb⟩:=qp (P:=E.P) (w:=w) (eU F G U) hi g I v A (by rw[B]; omega) J;have C:(execOp a.eval ⟨some d,.makeSlice T o1 o2,ty,pos,af,none⟩).run E.P w=.ok (.value (.slice (some ⟨w.heap.size,0,none⟩) p.toNat q.toNat)) w':=by
    simp only[execOp,Rf,O,R,Z]; rfl
   refine⟨_,w',ρ++[.slice (some ⟨w.heap.size,0,none⟩) p.toNat q.toNat],C,?_⟩;refine lg h K hb (T:=e.elem) (t:=u) (l:=List.replicate p.toNat (zd u)) (xs:=(List.replicate p.toNat (zc u)).flatten) (by simpa using ho) (fun c j=>?_) (fun i x f=>?_)
   ·obtain⟨z,g,j⟩:=TV.1 j;rw[RW g]at j;exact gm u c j
   ·rw[TW]at f;split at f
    ·rename_i D;cases f;rw[oh (fw u) D];exact g_ _ w u
    ·cases f
  ·cases b
 ·cases b
theorem KN(R:E.Ok)(h:Fr w0 X0 Bo N st ρ a w)(H:∀ b,X0 b->b<w0.heap.size)(S:d<N){T:TypeId}{n:Nat}{parts:Array (Nat×Operand)}(V:∀ x∈lv parts.toList,∀ y,lj st.sl x=some y->m ρ (XX X0 ρ st.ck) w y [a.eval x])
    (f:LP E st T n parts.toList d=some (st',ps)):Made E w0 X0 Bo N st' a w d (.buildSlice T n parts) ty pos af:=by
 unfold LP at f;split at f
 ·rename_i u W;obtain⟨e,I,U,Z,h3,h4⟩:=fF W;simp only[U]at f;obtain⟨i,hi,F,G,aa⟩:=(R.fact h3).info;have A:(I.ty.wrap (zc I.ty)).cells=(zc I.ty).toArray:=fu (fw _) (gm _);have j:0<u.size:=by
   have:∀ t:Ty,0<t.size:=by
    intro t
    induction t with
    | pair t u ab ac=>simp only[Ty.size]; omega
    | one t ih=>exact ih
    | _=>simp[Ty.size]
   exact this u
  have B:=eU R U Z;rw[h4]at G A F;split at f
  ·rename_i J s;have J:=QS J;have s:=QS s;split at f
   ·rename_i cs e1;split at f
    ·rename_i l e2;cases f;have hw:=h.wd H;have K:jd (open Classical in fun x=>if x∈lv parts.toList then lj st.sl x else none) (FO u) parts.toList (IU u n)=some cs:=by
      rw[<-e1];exact(i_ fun x p=>by simp[p]).symm
     obtain⟨g,q1,q2,q3,q4,q5⟩:=kH (a:=a) (ρ:=ρ) (X:=XX X0 ρ st.ck) (w:=w) (place:=fun i=>some (i*u.size,u.size)) (cells:=madeCells (zc u).toArray (n*u.size)) (fun x y p=>by
      split at p
      ·rename_i hm; exact V x hm y p
      ·cases p) (fun i o v C=>by unfold FO at C; cases C; rfl) K qc (by rw[iv _ _ (fw u)]; exact yy) (fun c q=>by
       rw[iv _ _ (fw u)]at q;obtain⟨z,F,q⟩:=TV.1 q;rw[RW F]at q;exact gm u c q)
     obtain⟨r1,r2⟩:=qd hw e2 q2;have D:=UF (P:=E.P) w T e.elem n (parts.map fun(i,x)=>(i,a.eval x)) g i _ B hi F (by rw[G]; omega) (by rw[G]; have:=WT s j; omega)
      (by rw[G,A]; rw[<-q1]; simp[madeCells])
     have L:=To (e:=e.elem) (base:=w.heap.size) w g n (Qu _) (by
      have:n<=n*u.size:=Vh n j;simp only[maxLen]; omega) (by rw[q4,U'])
     refine⟨_,_,_,?_,lg h S (fC w _) (T:=e.elem) (t:=u) (l:=l) (by rw[r1]; exact L) q5 r2⟩;simp only[execOp,Rf,D]; rfl
    ·cases f
   ·cases f
  ·rename_i J s;have hn:n=0:=by
    rcases Sc n with h|h
    ·exact h
    ·have:Nat.ble 1 n=true:=SD h;rw[this]at s; cases s
   subst hn;split at f
   ·rename_i M;cases f;have O:parts=#[]:=by rw[<-Rx]; exact M
    subst O;have L:=To (e:=e.elem) (size:=u.size) (base:=w.heap.size) w #[] 0 (Qu _) (by simp[maxLen]) (by simp);refine⟨_,_,_,?_,lg h S (fC w (.cells #[] e.elem)) (T:=e.elem) (t:=u) (l:=[]) L (fun c q=>by cases q) (fun i x p=>by simp at p)⟩;have Q:Array.map (fun(_:Nat)=>(default:Value)) (Array.range 0)=#[]:=by apply Vf<;>simp
    simp[execOp,Instr.buildSlice,Rb B,sizeOf,typeInfo,hi,Instr.fill,newRow,Q]
   ·cases f
  ·cases f
 ·cases f
end
def abM(c:Nat):CT->CT
 | .box T l=>.box T (gM c l)
 | x=>x
theorem vD{c:Nat}:∀{l:AV},kl l=true->kl (gM c l)=true
 | .nil,h=>h
 | .cons x l,h=>vD (l:=l) h
theorem jw{c:Nat}{x:Nat×CT}:∀{ck:List (Nat×CT)},x∈gB c ck->∃ y∈ck,y.1=x.1/\x.2=abM c y.2
 | (k,.box T l)::r,h=>by
  simp only[gB]at h;rcases Qv.1 h with rfl|h
  ·exact⟨_,Qx,rfl,rfl⟩
  ·obtain⟨y,b,e⟩:=jw h; exact⟨y,Qs _ b,e⟩
 | (k,.row T t l)::r,h=>by
  simp only[gB]at h;rcases Qv.1 h with rfl|h
  ·exact⟨_,Qx,rfl,rfl⟩
  ·obtain⟨y,b,e⟩:=jw h; exact⟨y,Qs _ b,e⟩
 | (k,.eW T o d f)::r,h=>by
  simp only[gB]at h;rcases Qv.1 h with rfl|h
  ·exact⟨_,Qx,rfl,rfl⟩
  ·obtain⟨y,b,e⟩:=jw h; exact⟨y,Qs _ b,e⟩
 | (k,.gv T t g)::r,h=>by
  simp only[gB]at h;rcases Qv.1 h with rfl|h
  ·exact⟨_,Qx,rfl,rfl⟩
  ·obtain⟨y,b,e⟩:=jw h; exact⟨y,Qs _ b,e⟩
theorem iW{c:Nat}:∀{ck:List (Nat×CT)},(gB c ck).map (·.1)=ck.map (·.1)
 | []=>rfl
 | (k,.box T l)::r=>by simp[gB,iW (ck:=r)]
 | (k,.row T t l)::r=>by simp[gB,iW (ck:=r)]
 | (k,.eW T o d b)::r=>by simp[gB,iW (ck:=r)]
 | (k,.gv T t e)::r=>by simp[gB,iW (ck:=r)]
theorem jS{c k:Nat}:∀{ck:List (Nat×CT)}{z:CT},get? ck k=some z->get? (gB c ck) k=some (abM c z)
 | (b,.box T l)::r,z,h=>by
  simp only[gB,get?]at h ⊢;split at h
  ·cases h; rfl
  ·exact jS h
 | (b,.row T t l)::r,z,h=>by
  simp only[gB,get?]at h ⊢;split at h
  ·cases h; rfl
  ·exact jS h
 | (b,.eW T o d e)::r,z,h=>by
  simp only[gB,get?]at h ⊢;split at h
  ·cases h; rfl
  ·exact jS h
 | (b,.gv T t f)::r,z,h=>by
  simp only[gB,get?]at h ⊢;split at h
  ·cases h; rfl
  ·exact jS h
theorem sa{c t:Nat}{y:AV}:∀{sl:List (Nat×AV)},get? (qP c sl) t=some y->∃ x,get? sl t=some x/\y=gM c x
 | (s,x)::l,h=>by
  simp only[qP,get?]at h ⊢;split at h
  ·cases h; exact⟨x,rfl,rfl⟩
  ·exact sa h
section
variable{E:Env}{w0:World}{X0:Nat->Prop}{Bo:List Value}{N:Nat}{st st':St}{ρ:List Value}{a:Act}{w w':World}{d:Nat}{ps:List Prop} {ty:TypeId}{pos:String}{af:Array Edge}{X:Nat->Prop}
theorem Fr.reset(h:Fr w0 X0 Bo N st ρ a w){k:Nat}{T:TypeId}{t:Ty}{l l':List t.den}{v':Value}(hg:get? st.ck k=some (.row T t l))(Q:w.grownBy w' (oA ρ k))
    (hv:∀ b,fa v'=some b->b<w'.heap.size/\(fk ρ k b∨w.heap.size<=b)) {xs:List Value} (ho:w'.ownsRow 0 T t.size v' l'.length xs) (h1:∀ u∈xs,u.oneCell'=true)
    (hr:∀ i x,l'[i]?=some x->rep t (XX X0 ρ st.ck) w ((xs.drop (i*t.size)).take t.size) x) :
    Fr w0 X0 Bo N ⟨qP k st.sl,jh (gB k st.ck) k (.row T t l'),st.nx⟩ (ρ.set k v') a w'/\(ρ.set k v')[k]?=some v':=by
 have f:=b7 hg;have hk:k<ρ.length:=by rw[h.nx]; exact h.kn _ f
 have U:(ρ.set k v')[k]?=some v':=by simp[hk]
 refine⟨?_,U⟩;have F:∀ b,fk (ρ.set k v') k b->fa v'=some b:=fun b m=>mK ho (by rw[<-gi U]; exact m);have p:∀ c,c≠k->fk (ρ.set k v') c=fk ρ c:=by
  intro c hc;unfold fk;rw[Rm (RN hc)]
 have ab:=jS (c:=k) hg;have K:(jh (gB k st.ck) k (.row T t l')).map (·.1)=st.ck.map (·.1):=by rw[iA ab,iW]
 have R:((gB k st.ck).map (·.1)).Nodup:=by rw[iW]; exact h.nd
 have bk:∀ x∈jh (gB k st.ck) k (.row T t l'),∃ y∈st.ck,y.1=x.1:=by
  intro x j;have:x.1∈(jh (gB k st.ck) k (.row T t l')).map (·.1):=TN j;rw[K]at this;obtain⟨y,A,e⟩:=Rj.1 this;exact⟨y,A,e⟩
 have L:∀ b,XX X0 (ρ.set k v') (jh (gB k st.ck) k (.row T t l')) b->XX X0 ρ st.ck b∨w.heap.size<=b:=by
  rintro b (m|⟨x,j,m⟩)
  ·exact .inl (.inl m)
  ·obtain⟨y,A,e⟩:=bk x j;rw[<-e]at m;by_cases g:y.1=k
   ·rw[g]at m;rcases(hv b (F b m)).2 with J|J
    ·exact .inl (.inr ⟨_,f,J⟩)
    ·exact .inr J
   ·rw[p _ g]at m;exact .inl (.inr ⟨y,A,m⟩)
 have hE:Ev (XX X0 ρ st.ck) w w':=⟨Q.size,fun b m hn=>Q.block b m fun e=>hn (.inr ⟨_,f,mg e.symm⟩)⟩;refine⟨h.dn,h.sz,⟨Q.os.trans h.kp.os,Q.tape.trans h.kp.tape,Q.output.trans h.kp.output,QL h.kp.size Q.size,fun b m hn=>?_⟩,by simp[h.nx],by rw[K]; exact h.nd,?_,?_,?_,?_,?_,?_⟩
 ·rw[Q.block b (QI m h.kp.size) fun e=>?_,h.kp.block b m hn];rcases(h.bl _ f b (mg e.symm)).2 with J|J
  ·omega
  ·exact hn J
 ·intro x j;obtain⟨y,A,e⟩:=bk x j;rw[<-e]; exact h.kn y A
 ·intro x j b e;obtain⟨y,A,e'⟩:=bk x j;rw[<-e']at e;by_cases g:y.1=k
  ·rw[g]at e;obtain⟨h1,h2⟩:=hv b (F b e);refine⟨h1,?_⟩;rcases h2 with h2|h2
   ·exact(h.bl _ f b h2).2
   ·exact .inl (QL h.kp.size h2)
  ·rw[p _ g]at e;have:=h.bl y A b e;exact⟨QI this.1 Q.size,this.2⟩
 ·intro x j y A B b I z;obtain⟨x',V,ex⟩:=bk x j;obtain⟨y',W,ey⟩:=bk y A;rw[<-ex]at I B;rw[<-ey]at z B;by_cases M:x'.1=k<;>by_cases g:y'.1=k
  ·exact B (by rw[M,g])
  ·rw[M]at I;rw[p _ g]at z;rcases(hv b (F b I)).2 with J|J
   ·exact h.dj _ f y' W (by simpa using RN g) b J z
   ·have:=(h.bl y' W b z).1; omega
  ·rw[g]at z;rw[p _ M]at I;rcases(hv b (F b z)).2 with J|J
   ·exact h.dj x' V _ f (by simpa using M) b I J
   ·have:=(h.bl x' V b I).1; omega
  ·rw[p _ M]at I;rw[p _ g]at z;exact h.dj x' V y' W B b I z
 ·intro x j;rcases pV R j with rfl|⟨j,B⟩
  ·exact⟨v',xs,U,ho,h1,fun i x j=>lE (hr i x j) L hE⟩
  ·obtain⟨y,A,I,z⟩:=jw j;rw[z,<-I];have g:y.1≠k:=by rw[I]; exact B
   have C:=h.cs y A;have G:∀ b,fk ρ y.1 b->w'.heap[b]?=w.heap[b]?:=fun b e=>Q.block b (h.bl y A b e).1 fun e'=>h.dj y A _ f g b e (mg e'.symm);have H:∀{v:Value},ρ[y.1]?=some v->(ρ.set k v')[y.1]?=some v:=by
    intro v e; rw[Rm (RN g)]; exact e
   cases D:y.2 with
   | box S l2 =>
    rw[D]at C
    obtain⟨O,b,cs,P,Z,g4,g5⟩:=C
    exact⟨vD O,b,cs,H P,by rw[G b (by rw[gi P]; rfl)]; exact Z,lu v' (mW g4 L hE),g5⟩
   | row S t2 l2 =>
    rw[D]at C
    obtain⟨v,aa,O,P,Z,g4⟩:=C
    exact⟨v,aa,H O,gl P (fun b m=>G b (fh O m)),Z,fun i x j=>lE (g4 i x j) L hE⟩
   | eW S o2 d2 ac =>
    rw[D]at C
    obtain⟨v,aa,us,O,P,Z,g4⟩:=C
    have ad:d2≠k:=by
     intro e;obtain⟨v0,ae,q1,q2,_⟩:=h.cs _ f;rw[e]at P;rw[P]at q1;cases q1;rcases q2.2 with⟨q,_⟩|⟨_,_,_,q,_⟩<;>cases q
    exact⟨v,aa,us,H O,by rw[Rm (RN ad)]; exact P,gl Z (fun b m=>G b (fh O m)),g4⟩
   | gv S t2 l2 =>
    rw[D]at C
    obtain⟨us,O,P,Z,g4⟩:=C
    exact⟨us,H O,P,fun i x l j hl=>rP (Z i x l j hl) L hE (fun b m=>G b (fj O j m)),g4⟩
 ·intro s y A;obtain⟨x,j,rfl⟩:=sa A;exact lu v' (mW (h.sl s x j) L hE)
 ·have hp:Pn w0 X0 Bo st.ck st.nx ρ:=h.pn;refine hp.same fun x j T l e=>?_;rcases pV R j with rfl|⟨j,B⟩
  ·cases e
  ·obtain⟨y,A,I,z⟩:=jw j;refine⟨y,A,I,?_,by rw[Rm (RN B)]⟩;rw[e]at z;cases D:y.2 with
   | box S l2=>exact⟨S,l2,rfl⟩
   | row S t2 l2=>rw[D]at z; cases z
   | eW S o2 d2 ac=>rw[D]at z; cases z
   | gv S t2 l2=>rw[D]at z; cases z
theorem B9{B:Nat}{T:TypeId}{u:Ty}{l:List u.den}{v:Value}(h:Rw B X w T u v l) :
    (v=.slice none 0 0/\l=[])∨∃(m:Addr) (cap:Nat) (news:List Value),v=.slice (some m) l.length cap/\news.length=l.length*u.size/\(∀(j:Nat) (c:Value),news[j]?=some c->w.cell? (m.add j)=some c)/\(∀ c∈news,c.oneCell'=true) /\
     ∀(i:Nat) (y:u.den),l[i]?=some y->rep u X w ((news.drop (i*u.size)).take u.size) y:=by
 obtain⟨xs,p,q,s⟩:=h;obtain⟨t,⟨x,e⟩|⟨g,cap,z,A,_,C,F,G,D,f⟩⟩:=p
 ·exact .inl ⟨x,RA e⟩
 ·refine .inr ⟨⟨g,0,none⟩,cap,xs,A,t,fun j c b=>?_,q,s⟩;rw[<-f,Q1]at b;split at b
  ·rw[Ri];simp[World.cell?,C];simpa using b
  ·cases b
theorem pz{B:Nat}{ck:List (Nat×CT)}{u:Ty}{x:AV}{l:List u.den}{v:Value}(W:Wd B ρ X ck w)(h:Dg ck (.slice u) x=some l)(g:m ρ X w x [v]) :
    (v=.slice none 0 0/\l=[])∨∃(A:Addr) (cap:Nat) (news:List Value),v=.slice (some A) l.length cap/\news.length=l.length*u.size/\(∀(j:Nat) (c:Value),news[j]?=some c->w.cell? (A.add j)=some c)/\(∀ c∈news,c.oneCell'=true) /\
     ∀(i:Nat) (y:u.den),l[i]?=some y->rep u X w ((news.drop (i*u.size)).take u.size) y:=by
 have z:∀{Y:Nat->Prop},m ρ Y w (.a_ (.slice u) l) [v]->(∀ b,Y b->X b)->(∀ b off C T f,v=.slice (some ⟨b,off,none⟩) l.length (match v with|.slice _ _ c=>c|_=>0)->w.heap[b]?=some (.cells C T f)->∀(i:Nat) (y:u.den),l[i]?=some y->rep u Y w ((C.toList.drop (off+i*u.size)).take u.size) y->rep u X w ((C.toList.drop (off+i*u.size)).take u.size) y) ->
     (v=.slice none 0 0/\l=[])∨∃(A:Addr) (cap:Nat) (news:List Value),v=.slice (some A) l.length cap/\news.length=l.length*u.size/\(∀(j:Nat) (c:Value),news[j]?=some c->w.cell? (A.add j)=some c)/\(∀ c∈news,c.oneCell'=true) /\
     ∀(i:Nat) (y:u.den),l[i]?=some y->rep u X w ((news.drop (i*u.size)).take u.size) y:=by
  intro Y g hY R;obtain⟨cs,⟨a0,cap,rfl,K,Z,h4,h5⟩,hv⟩:=g;simp[Ty.wrap,Ty.isAgg]at hv;subst hv;by_cases L:l=[]
  ·subst L;cases a0 with
   | none=>left; have:=h4 rfl; subst this; exact⟨rfl,rfl⟩
   | some A=>right; exact⟨A,cap,[],rfl,by simp,by simp,by simp,by simp⟩
  ·right;obtain⟨b,off,C,T,f,rfl,S,O,M⟩:=h5 L;have D:∀(i:Nat),i<l.length->((C.toList.drop (off+i*u.size)).take u.size).length=u.size:=by
    intro i hi;exact eR (M i _ (Qr hi))
   have aa:0<l.length:=US.2 L;have ab:l.length*u.size<=(C.toList.drop off).length:=by
    have:=D (l.length-1) (by omega);rw[QM,Q5]at this;rw[Q5];have e:l.length*u.size=(l.length-1)*u.size+u.size:=by
     rw[<-RI]; congr 1; omega
    rcases Sc u.size with J|J
    ·rw[J]; simp
    ·omega
   have p:∀(i:Nat),i<l.length->((((C.toList.drop off).take (l.length*u.size)).drop (i*u.size)).take u.size)=(C.toList.drop (off+i*u.size)).take u.size:=by
    intro i hi;have ac:i*u.size+u.size<=l.length*u.size:=by rw[<-RI]; exact Q_ _ hi
    rw[Sw,RT,Sk,Rv (by omega)]
   refine⟨⟨b,off,none⟩,cap,(C.toList.drop off).take (l.length*u.size),rfl,by rw[QM]; omega,fun j c q=>?_,fun c hc=>?_,fun i y P=>?_⟩
   ·rw[Q1]at q;split at q
    ·rw[Rg]at q;rw[Ri];simp[World.cell?,O];simpa using q
    ·cases q
   ·obtain⟨j,q,rfl⟩:=Rz.1 hc;rw[QM]at q;have hs:0<u.size:=by
     rcases Sc u.size with J|J
     ·rw[J]at q; simp at q
     ·exact J
    have hi:j / u.size<l.length:=by
     rw[Nat.div_lt_iff_lt_mul hs]; omega
    refine gz (M (j / u.size) _ (Qr hi)) _ ?_;rw[<-p _ hi];rw[RR];refine⟨j % u.size,?_⟩;have e:j / u.size*u.size+j % u.size=j:=by rw[Nat.mul_comm]; exact Nat.div_add_mod _ _
    rw[Q1,QJ (Nat.mod_lt _ hs),Rg,e];exact Qr _
   ·have hi:i<l.length:=by
      rcases QA i l.length with h|h
      ·exact h
      ·rw[QD h]at P; cases P
    rw[p i hi];exact R b off C T f rfl O i y P (M i y P)
 unfold Dg at h;split at h
 ·split at h
  ·rename_i c T t l0 U;obtain⟨v',Q,_,K⟩:=g;cases K;have s:=W.cs _ (b7 U);obtain⟨v2,xs,S,O,M,g4⟩:=s;rw[Q]at S;cases S;have F:=gF h;cases F;have G:l0=l:=gn h;subst G;exact B9 ⟨xs,O,M,g4⟩
  ·cases h
 ·cases h
 ·unfold kF at h;split at h
  ·have H:=fp h (fun t a=>m ρ X w (.a_ t a) [v]) g;exact z H (fun b h=>h) (fun _ _ _ _ _ _ _ _ _ _ h=>h)
  ·have H:m ρ X w (.a_ (.slice u) l) [v]:=fp h (fun t a=>m ρ X w (.a_ t a) [v]) (by
     have g:[v]=[.bool _]:=g;rw[g]; exact⟨_,rfl,rfl⟩)
   exact z H (fun b h=>h) (fun _ _ _ _ _ _ _ _ _ _ h=>h)
  ·rename_i c I _;exact absurd rfl (I c)
  ·rename_i c n _ I;exact absurd rfl (I c n)
  ·rename_i d k _ _;split at h
   ·rename_i T t ll U;obtain⟨us,v',Q,K,_,Z⟩:=g;cases Z;have s:=W.cs _ (b7 U);obtain⟨V,_⟩:=lh s (Y:=fun _=>False) (fun b h=>h.elim) (fun b _ h=>h) Q K;obtain⟨ae,k1,k2,k3,k4⟩:=s;rw[Q]at k1;cases k1;have L:ll[k]?=some (ll.getD k []):=by rw[Qz,Qr V]; rfl
    have hr:=k3 k v _ K L;have F:=gF h;cases F;have G:=gn h;rw[<-G];exact B9 hr
   ·cases h
  ·have h:some []=some l:=h;cases h;have g:[v]=[.slice none 0 0]:=g;exact .inl ⟨(QB g).1,rfl⟩
  ·cases h
theorem NG{u:Ty}{x:AV}{a:u.den}(h:kF [] u x=some a):Dg [] u x=some a:=by
 cases x with
 | own c=>simp[kF,get?]at h
 | iE c n=>simp[kF,get?]at h
 | _=>exact h
end
def d_(xs:List Value)(o n:Nat)(cs:List Value):List Value:=xs.take o++cs++xs.drop (o+n)
section
variable{xs cs:List Value}{o n k:Nat}
theorem il(b:cs.length=n)(h:o+n<=xs.length):(d_ xs o n cs).length=xs.length:=by
 simp only[d_,QO,QM,Q5]; omega
theorem jV(b:cs.length=n)(h:o+n<=k)(hk:k<=xs.length):(d_ xs o n cs).take k=d_ (xs.take k) o n cs:=by
 simp only[d_];rw[V6,QQ (by simp only[QO,QM]; omega),Sk,Rv (by omega),Sw];congr 2;simp only[QO,QM]; omega
theorem nw(b:cs.length=n)(h:o+n<=xs.length):((d_ xs o n cs).drop o).take n=cs:=by
 simp only[d_,QP];rw[UO (by rw[QM]; omega),Vv b]
theorem nI{m:Nat}(c:cs.length=n)(h:o+n<=xs.length)(hk:k+m<=o∨o+n<=k):((d_ xs o n cs).drop k).take m=(xs.drop k).take m:=by
 apply Ud;intro i;simp only[Q1,Rg];split
 ·rename_i b;unfold d_;rcases hk with hk|hk
  ·rw[QP,Q0 (by rw[QM]; omega),Q1,QJ (by omega)]
  ·rw[QT (by rw[QO,QM]; omega),QO,QM,Rg];congr 1;omega
 ·rfl
theorem uX{p m:Nat}(b:cs.length=n)(h:p+m<=xs.length)(c:o+n<=m):((d_ xs (p+o) n cs).drop p).take m=d_ ((xs.drop p).take m) o n cs:=by
 have e:(d_ xs (p+o) n cs).drop p=d_ (xs.drop p) o n cs:=by
  unfold d_;rw[SW,SW,Sw,QO,QM,Rv (by omega)];have f:p+o-p=o:=by omega
  have g:p-(p+o)=0:=by omega
  have i:p-(p+o+cs.length)=0:=by omega
  rw[f,g,i,RP,RP,RT];congr 2;omega
 rw[e,jV b c (by rw[Q5]; omega)]
theorem mn(b:cs.length=n)(h:o+n<=xs.length)(hk:k+n<=o∨o+n<=k):((d_ xs o n cs).drop k).take n=(xs.drop k).take n:=by
 apply Ud;intro i;simp only[Q1,Rg];by_cases hi:i<n
 ·rw[QJ hi,QJ hi];simp only[d_];rcases hk with hk|hk
  ·rw[QP,Q0 (by rw[QM]; omega),Q1,QJ (by omega)]
  ·rw[QT (by simp only[QO,QM]; omega),Rg];congr 1;simp only[QO,QM]; omega
 ·rw[QC hi,QC hi]
end
section
variable{E:Env}{w0:World}{X0:Nat->Prop}{Bo:List Value}{N:Nat}{st st':St}{ρ:List Value}{a:Act}{w w':World}{d:Nat}{ps:List Prop} {ty:TypeId}{pos:String}{af:Array Edge}{X:Nat->Prop}
theorem Fr.slot(h:Fr w0 X0 Bo N st ρ a w){d:Nat}(b:d<N){x:AV}{v:Value}(c:m ρ (XX X0 ρ st.ck) w x [v]):Fr w0 X0 Bo N ⟨(d,x)::st.sl,st.ck,st.nx⟩ ρ (a.put (some d) v) w :=
 ⟨by rw[gh]; exact h.dn,by rw[size_put]; exact h.sz,h.kp,h.nx,h.nd,h.kn,h.bl,h.dj,h.cs,(fun t y f =>
  rm (d:=some d) (r:=x) (sl:=st.sl) (M:=fun x g=>m ρ (XX X0 ρ st.ck) w x [g]) (by rw[h.sz]; intro t e; cases e; exact b) c h.sl f),h.pn⟩
theorem Fm{v:Value}(h:(∃ b n c,v=.slice b n c)):v.ownBlock=fa v:=by
 obtain⟨b,n,c,rfl⟩:=h;cases b<;>rfl
theorem gb{B:Nat}{T:TypeId}{size n:Nat}{v:Value}{xs:List Value}(h:w.ownsRow B T size v n xs):∃ b n c,v=.slice b n c:=by
 rcases h.2 with⟨rfl,_⟩|⟨g,cap,e,rfl,_⟩
 ·exact⟨_,_,_,rfl⟩
 ·exact⟨_,_,_,rfl⟩
theorem j_{t:Ty}{l m:List t.den}{xs news:List Value}{X:Nat->Prop}(b:xs.length=l.length*t.size)(h1:∀(i:Nat) (x:t.den),l[i]?=some x->rep t X w ((xs.drop (i*t.size)).take t.size) x)
    (h2:∀(i:Nat) (x:t.den),m[i]?=some x->rep t X w ((news.drop (i*t.size)).take t.size) x):∀(i:Nat) (x:t.den),(l++m)[i]?=some x->rep t X w (((xs++news).drop (i*t.size)).take t.size) x:=by
 intro i x hi;rcases QA i l.length with h|h
 ·rw[Q0 h]at hi;have c:i*t.size+t.size<=l.length*t.size:=by rw[<-RI]; exact Q_ _ h
  rw[Wa (by omega),Th (by rw[Q5]; omega)];exact h1 i x hi
 ·rw[QT h]at hi;have e:i*t.size=xs.length+(i-l.length)*t.size:=by rw[b,<-T4]; congr 1; omega
  rw[e,<-RT,UO rfl];exact h2 _ x hi
theorem gg{P:Program}{T ty e:TypeId}{te:TE}{B:Nat}{v:Value}{n m:Nat}{xs:List Value}(z:P.underlying T=some (.slice e))(L:b_ P e te)(M:B<=w.heap.size)(A:0<te.ty.size)
    (t:w.ownsRow B e te.ty.size v n xs) {u:Value}{news:List Value} (x:news.length=m*te.ty.size) (h1:∀ c∈news,c.oneCell'=true)
    (F:(u=.slice none 0 0/\m=0)∨∃ l cap,u=.slice (some l) m cap/\∀(j:Nat) (c:Value),news[j]?=some c->w.cell? (l.add j)=some c) (G:n+m<=maxLen) (p:(n+m)*te.bytes<=140737488355328) :
    ∃ v' w',(Builtin.append_ #[T,T] ty #[v,u]).run P w=.ok v' w'/\w'.ownsRow B e te.ty.size v' (n+m) (xs++news)/\w.grownBy w' v.ownBlock/\∀ b,fa v'=some b->fa v=some b∨w.heap.size<=b:=by
 obtain⟨i,hi,H,y,f⟩:=L.info;rcases F with⟨rfl,rfl⟩|⟨l,cap,rfl,D⟩
 ·have:news=[]:=RA (by rw[x]; simp);subst this;exact⟨v,w,run_append_owned_none (P:=P) w B T ty e i te.ty.size z hi v n xs t,by simpa using t,⟨rfl,rfl,rfl,Qu _,fun _ _ _=>rfl⟩,fun b f=>.inl f⟩
 ·obtain⟨v',w',q,O,Q,R⟩:=run_append_own (P:=P) w B T ty e i _ te.ty.size te.bytes z hi H y f (by rw[fu (fw _) (gm _)]; simp[fw]) A v n xs t l m cap news x D h1 G p M;refine⟨v',w',q,O,Q,?_⟩;rcases t.2 with⟨rfl,rfl⟩|⟨g,I,J,rfl,_,S,U,V,K,_⟩
  ·rcases Sc m with rfl|W
   ·have:=R.2 ⟨rfl,rfl⟩;rw[this]; intro b f; cases f
   ·have C:=run_append_nil (P:=P) w T ty e i _ z hi H l m cap news (by rw[y]; exact x) D W (by simp only[maxLen]at G; omega) (by rw[f]; simp only[Q8]at p; omega);rw[C]at q;cases q;intro b f;cases f;exact .inr (Qu _)
  ·by_cases h:n+m<=I
   ·have C:=run_append_room (P:=P) w T ty e i z hi g n I J S l m cap news (by rw[y]; exact x) D h1 h (by rw[y,x,K,<-T4]; exact Q_ _ h);rw[C]at q;cases q;intro b f;exact .inl f
   ·have s:∀(j:Nat) (u:Value),xs[j]?=some u->w.cell? ((⟨g,0,none⟩:Addr).add j)=some u:=t.cells (g:=g) rfl;have C:=run_append_grow (P:=P) w T ty e i _ z hi H ⟨g,0,none⟩ n I xs (by rw[y]; exact t.1) s l m cap news (by rw[y]; exact x) D (by omega) (by simp only[maxLen]at G; omega) (VG (by omega) (by rw[f]; exact p));rw[C]at q;cases q;intro b f;cases f;exact .inr (Qu _)
theorem size_pos(t:Ty):0<t.size:=by
 induction t with
 | pair t u b c=>simp only[Ty.size]; omega
 | one t e=>exact e
 | _=>simp[Ty.size]
theorem AF(hE:E.Ok)(h:Fr w0 X0 Bo N st ρ a w)(aa:∀ b,X0 b->b<w0.heap.size)(hd:d<N){T:TypeId}{x y:AV}{o1 o2:Operand}(hx:m ρ (XX X0 ρ st.ck) w x [a.eval o1])(hy:m ρ (XX X0 ρ st.ck) w y [a.eval o2])
    (p:pZ E st T x y d=some (st',ps)) (hp:eP ps) {args:Array Operand}{ats:Array TypeId} (ha:args=#[o1,o2]) (Q:ats=#[T,T]) :
    Made E w0 X0 Bo N st' a w d (.call { callee:=.builtin .append,args:=args,argTypes:=ats }) ty pos af:=by
 subst ha Q;unfold pZ at p;split at p
 ·rename_i u hu;obtain⟨e,Z,h1,h2,h3,R⟩:=fF hu;simp only[h1,h3]at p;have hw:=h.wd aa;split at p;rotate_left
  ·cases p
  rename_i s;have s:=QS s;have D:∀ n:Nat,n*Z.bytes<=140737488355328->n<=maxLen:=by
   intro n hn;have:n*1<=n*Z.bytes:=Uq _ s;simp only[maxLen]; omega
  split at p
  ·rename_i G e1;have H:=pz hw e1 hy;have S:=eU hE h1 h2;have I:∃ f:List Value,f.length=G.length*u.size/\(∀ c∈f,c.oneCell'=true)/\(∀(i:Nat) (z:u.den),G[i]?=some z->rep u (XX X0 ρ st.ck) w ((f.drop (i*u.size)).take u.size) z) /\
       ((a.eval o2=.slice none 0 0/\G.length=0)∨∃ ad cap,a.eval o2=.slice (some ad) G.length cap/\∀(j:Nat) (c:Value),f[j]?=some c->w.cell? (ad.add j)=some c):=by
    rcases H with⟨F,q⟩|⟨ad,cap,f,F,q,O,q4,q5⟩
    ·exact⟨[],by simp[q],by simp,by simp[q],.inl ⟨F,by simp[q]⟩⟩
    ·exact⟨f,q,q4,q5,.inr ⟨ad,cap,F,O⟩⟩
   obtain⟨f,n1,n2,n3,n4⟩:=I;have J:∀{C:Value}{w':World},(Builtin.append_ #[T,T] ty #[a.eval o1,a.eval o2]).run E.P w=.ok C w'->(execOp a.eval ⟨some d,.call { callee:=.builtin .append,args:=#[o1,o2],argTypes:=#[T,T] },ty,pos,af,none⟩).run E.P w=.ok (.value C) w':=by
    intro C w' hr;simp[execOp,resolve,invoke,builtin,hr]
   split at p
   ·rename_i A;have A:=pS A;subst A;cases p;have K:[a.eval o1]=[.slice none 0 0]:=hx;have K:=(QB K).1;have hf:=hE.fact h3;obtain⟨B,_⟩:=hp;have U:=S1 w w.heap.size e.elem Z.ty.size;obtain⟨C,w',F,q,O,q4⟩:=gg (w:=w) (ty:=ty) S hf (Qu _) (size_pos _) U (by rw[R]; exact n1) n2 n4 (D _ (by rw[Q8]; exact B)) (by rw[Q8]; exact B);rw[R]at q;rw[Q8,RX]at q;rw[<-K]at F;have hb:Below w.heap.size w w':=(QG _ _).grown O (Qu _) (by intro k e; cases e);exact⟨C,w',_,J F,lg h hd hb (T:=e.elem) (t:=u) (l:=G) q n2 n3⟩
   ·split at p
    ·rename_i k ak;split at p
     ·rename_i T' t l hg;split at p
      ·rename_i m' e2;cases p;obtain⟨B,rfl,_⟩:=hp;have ab:=gF e2;cases ab;have ac:G=m':=gn e2;subst ac;obtain⟨v,K,al,L⟩:=hx;have L:=(QB L).1;obtain⟨v2,xs,g1,U,g3,g4⟩:=hw.cs _ (b7 hg);rw[K]at g1;cases g1;have hf:=hE.fact h3;have ae:w.ownsRow 0 e.elem Z.ty.size v l.length xs:=by rw[R]; exact U
       obtain⟨C,w',F,q,O,q4⟩:=gg (w:=w) (ty:=ty) S hf (QE _) (size_pos _) ae (by rw[R]; exact n1) n2 n4 (D _ B) B;rw[R]at q;rw[L]at J;have ah:v.ownBlock=oA ρ k:=by rw[Fm (gb U),oe K]
       rw[ah]at O;have ai:∀ b,fa C=some b->b<w'.heap.size/\(fk ρ k b∨w.heap.size<=b):=by
        intro b M;have aj:b<w'.heap.size:=by
         rcases q.2 with⟨rfl,_⟩|⟨g,cap,an,rfl,_,hh,_⟩
         ·cases M
         ·cases M; exact b9 hh
        exact⟨aj,(q4 b M).imp (fh K) id⟩
       obtain⟨r1,r2⟩:=h.reset (l':=l++G) hg O ai (by rw[QO]; exact q) (fun c V=>by
        rcases QZ.1 V with V|V
        ·exact g3 c V
        ·exact n2 c V) (j_ U.1 g4 n3)
       have W:C.oneCell'=true:=by obtain⟨_,_,_,rfl⟩:=gb q; rfl
       exact⟨C,w',_,J F,r1.slot hd ⟨C,r2,W,rfl⟩⟩
      ·cases p
     ·cases p
    ·cases p
  ·cases p
 ·cases p
theorem rl{k:Nat}{x:CT}:∀{ck:List (Nat×CT)},get? ck k=some x->jh ck k x=ck
 | [],h=>by cases h
 | (c,y)::r,h=>by
  unfold get? at h;unfold jh;cases b:Nat.beq c k with
  | true =>
   rw[b]at h
   have:=QR b
   subst this
   cases h
   rfl
  | false =>
   rw[b]at h
   simp only
   rw[rl h]
theorem II(hE:E.Ok)(h:Fr w0 X0 Bo N st ρ a w)(K:∀ b,X0 b->b<w0.heap.size)(hd:d<N){T L:TypeId}{x y:AV}{o1 o2:Operand}(hx:m ρ (XX X0 ρ st.ck) w x [a.eval o1])(hy:m ρ (XX X0 ρ st.ck) w y [a.eval o2])
    (s:CS E st T x y d=some (st',ps)) (hp:eP ps) {args:Array Operand}{ats:Array TypeId} (ha:args=#[o1,o2]) (M:ats=#[T,L]) :
    Made E w0 X0 Bo N st' a w d (.call { callee:=.builtin .copy,args:=args,argTypes:=ats }) ty pos af:=by
 subst ha M;unfold CS at s;split at s
 ·rename_i k;split at s
  ·rename_i u hu;obtain⟨e,e',h1,h2,h3,h4⟩:=fF hu;split at s
   ·rename_i G;have G:=QR G;split at s
    ·rename_i D e1;split at s
     ·rename_i T' t l W;split at s
      ·rename_i m' e2;cases s;obtain⟨p,-⟩:=hp;have aa:=gF e2;cases aa;have ab:D=m':=gn e2;subst ab;have hw:=h.wd K;have O:=eU hE h1 h2;obtain⟨ak,Q,-,ac,-⟩:=(hE.fact h3).info;have R:(E.P.info? e.elem).map (·.size)=some 1:=by rw[Q]; simp[ac,h4,G]
       obtain⟨v,hv,al,F⟩:=hx;have F:=(QB F).1;obtain⟨v2,xs,g1,Z,g3,g4⟩:=h.cs _ (b7 W);rw[hv]at g1;cases g1;obtain⟨vb,vn,vc,H⟩:=gb Z;have an:vn=l.length:=by
        rcases Z.2 with⟨A,B⟩|⟨_,_,_,A,_⟩
        ·rw[H]at A; cases A; rw[B]
        ·rw[H]at A; cases A; rfl
       have S:∀{n:Int}{w':World},(Builtin.copy_ #[T,L] ty #[a.eval o1,a.eval o2]).run E.P w=.ok (goInt n) w'->(execOp a.eval ⟨some d,.call { callee:=.builtin .copy,args:=#[o1,o2],argTypes:=#[T,L] },ty,pos,af,none⟩).run E.P w=.ok (.value (.int .i64 n)) w':=by
        intro n w' hr;simp[execOp,resolve,invoke,builtin,hr,goInt]
       have C:=pz hw e1 hy;have I:gG .i64 (D.length:Int):=by
        have:l.length<=maxLen:=by
         rcases Z.2 with⟨_,B⟩|⟨_,_,_,_,_,_,q3,q4,_⟩
         ·rw[B]; exact QE _
         ·exact QL q3 q4
        simp only[gG,lo,hi];simp only[maxLen]at this;omega
       by_cases h0:l.length=0
       ·have J:D.length=0:=by rw[p,h0]
        have ae:D=l:=by rw[SH.1 J,SH.1 h0]
        have ah:∃ q c,a.eval o2=.slice q 0 c:=by
         rcases C with⟨A,_⟩|⟨ad,cap,_,A,_⟩
         ·exact⟨_,_,A⟩
         ·rw[J]at A; exact⟨_,_,A⟩
        obtain⟨sq,sc,ai⟩:=ah;have g:=run_copy_none (P:=E.P) w T L ty e.elem vb sq vn vc 0 sc O R (by simp);rw[<-H,<-F,<-ai]at g;rw[J]at I ⊢;refine⟨_,w,ρ,S g,?_⟩;rw[ae,rl W];exact h.slot hd (eO I)
       ·rcases C with⟨A,B⟩|⟨ad,cap,f,A,B,q3,q4,q5⟩
        ·rw[B]at p; simp at p; omega
        ·rw[G,Ry]at B;obtain⟨g5,⟨_,g6⟩|⟨b,cp,j,r1,r2,r3,r4,r5,r6,r7⟩⟩:=Z
         ·omega
         ·rw[G,Ry]at g5 r6 r7;subst r1;have U:f.length=l.length:=by rw[B,p]
          have g:=run_copy_row (P:=E.P) w T L ty e.elem b 0 l.length cp ad D.length cap j T' f O R r3 (by rw[U,p]; simp) q3 (by rw[U]; omega) q4;rw[<-F,<-A]at g;have V:fk ρ k b:=by rw[gi hv]; rfl
          rw[B]at g;refine⟨_,_,ρ,S g,?_⟩;have aj:Ev (XX X0 ρ st.ck) w (w.setRow b (j.toList.take 0++f++j.toList.drop (0+D.length)).toArray):=⟨by rw[S5]; exact Qu _,fun k' hk hn=>SS w b k' _ fun e=>hn (.inr ⟨_,b7 W,by rw[e]; exact V⟩)⟩;refine Fr.slot (st:=⟨st.sl,jh st.ck k (.row T' u D),st.nx⟩) (h.set K W V (w':=w.setRow b (j.toList.take 0++f++j.toList.drop (0+D.length)).toArray) (fun k' hk=>SS w b k' _ hk) (S5 _ _ _) ⟨rfl,rfl,rfl⟩ ?_ ?_) hd (eO I)
          ·refine⟨_,f,hv,⟨?_,.inr ⟨b,cp,(j.toList.take 0++f++j.toList.drop (0+D.length)).toArray,by rw[p],r2,T9 w b j _ T' _ r3,by rw[p]; exact r4,r5,?_,?_⟩⟩,q4,?_⟩
           ·rw[B,G,Ry]
           ·rw[G,Ry];simp;omega
           ·rw[G,Ry,S7,RX];show(f++_).take D.length=f;rw[<-B,Uh]
           ·intro i z hz;exact fx (q5 i z hz) aj
          ·intro T l e;cases e
      ·cases s
     ·cases s
    ·cases s
   ·cases s
  ·cases s
 ·cases s
theorem GO{n:Nat}{x z:Value}(b:x.cells=#[z]):(Builtin.zeroCells x.cells n).toList=List.replicate n z:=by
 rw[b];simp[Builtin.zeroCells];apply Um
 ·simp
 ·intro i c e;simp[Nat.mod_one]
theorem Ed{t:Ty}(h:t.size=1):(t.wrap (zc t)).cells=#[(zc t).headD undef]/\zc t=[(zc t).headD undef]:=by
 have b:=fu (t:=t) (fw t) (gm t);have e:=fw t;rw[h]at e
 match f:zc t,e with
 | [c],_=>rw[f]at b; exact⟨b,rfl⟩
theorem ER(hE:E.Ok)(h:Fr w0 X0 Bo N st ρ a w)(S:∀ b,X0 b->b<w0.heap.size){T:TypeId}{x:AV}{u:Value}(hx:m ρ (XX X0 ρ st.ck) w x [u])(s:wG E st T x=some (st',ps))(hp:eP ps)(ty:TypeId) :
    ∃ w',(Builtin.clear_ #[T] ty #[u]).run E.P w=.ok (.tuple #[]) w'/\Fr w0 X0 Bo N st' ρ a w':=by
 unfold wG at s;split at s
 ·rename_i c i;split at s
  ·rename_i t U;obtain⟨e,e',V,W,Z,aa⟩:=fF U;split at s
   ·rename_i T' C l R;split at s
    ·rename_i ht y;have y:=QR y;have ht:=pf ht;subst ht;cases s;obtain⟨ai,-⟩:=hp;have D:=eU hE V W;obtain⟨aj,H,I,_⟩:=(hE.fact Z).info;obtain⟨v,u0,p,J,ab⟩:=hx;cases(QB ab).1;obtain⟨v2,xs,g1,g2,g3,g4⟩:=h.cs _ (b7 R);rw[p]at g1;cases g1;obtain⟨K,F⟩:=Ed y;by_cases h0:l.length-i=0
     ·have L:(Builtin.clear_ #[T] ty #[u]).run E.P w=.ok (.tuple #[]) w:=by
        rcases J with⟨_,rfl⟩|⟨g,n,cap,off,rfl,rfl,_⟩
        ·simp[Builtin.clear_,Rb D]
        ·have hn:n=l.length:=by
           rcases g2.2 with⟨q1,_⟩|⟨_,_,_,q1,_⟩
           ·cases q1
           ·cases q1; rfl
         rw[hn,h0];simp[Builtin.clear_,Rb D]
      refine⟨w,L,?_⟩;have ac:l.take i++List.replicate (l.length-i) (zd C)=l:=by
       rw[h0,SP,Q9,QQ (by omega)]
      rw[ac,rl R];exact h
     ·obtain⟨g5,⟨_,q2⟩|⟨b,cp,f,r1,r2,r3,r4,r5,r6,r7⟩⟩:=g2
      ·omega
      ·subst r1;rcases J with⟨q,_⟩|⟨g,n,cap,off,q,rfl,M⟩
       ·cases q
       ·cases q;rw[M (by omega)];rw[y,Ry]at g5 r6 r7;rw[aa]at I;have hz:∀ w:World,(zeroValue e.elem).run E.P w=.ok (C.wrap (zc C)) w:=fun w=>by simp[zeroValue,typeInfo,H,I]
        generalize (zc C).headD undef=z at K F;have ad:z.oneCell'=true:=gm C z (by rw[F]; exact RH.2 rfl);have O:∀ v∈List.replicate (l.length-i) z,v.oneCell'=true:=fun v p=>by rw[RW p]; exact ad
        have G:=run_storeCells_at E.P b i T' (List.replicate (l.length-i) z) 0 f w r3 (by rw[SX]; omega) O;rw[SX,Se]at G;have Q:fk ρ c b:=by rw[gi p]; rfl
        have ae:xs.length=l.length:=g5;refine⟨w.setRow b (f.toList.take i++List.replicate (l.length-i) z++f.toList.drop (i+(l.length-i))).toArray,?_,?_⟩
        ·obtain⟨q,hq⟩:∃ q,l.length-i=q+1:=⟨l.length-i-1,by omega⟩;rw[hq]at G ⊢;simp[Builtin.clear_,Rb D,hz,GO K,G]
        ·have af:Ev (XX X0 ρ st.ck) w (w.setRow b (f.toList.take i++List.replicate (l.length-i) z++f.toList.drop (i+(l.length-i))).toArray):=⟨by rw[S5]; exact Qu _,fun k' hk hn=>SS w b k' _ fun e=>hn (.inr ⟨_,b7 R,by rw[e]; exact Q⟩)⟩;have A:(l.take i++List.replicate (l.length-i) (zd C)).length=l.length:=by rw[QO,QM,SX]; omega
         refine h.set S R Q (fun k' hk=>SS w b k' _ hk) (S5 _ _ _) ⟨rfl,rfl,rfl⟩ ?_ (fun T l e=>by cases e);refine⟨_,xs.take i++List.replicate (l.length-i) z,p,⟨?_,.inr ⟨b,cp,_,by rw[A],r2,T9 w b f _ T' _ r3,by rw[A]; exact r4,r5,?_,?_⟩⟩,fun v p=>?_,?_⟩
         ·rw[A,y,Ry,QO,QM,SX]; omega
         ·rw[y,Ry];simp;omega
         ·rw[A,y,Ry,<-r7];show(f.toList.take i++List.replicate (l.length-i) z++f.toList.drop (i+(l.length-i))).take l.length=_;have hA:(f.toList.take i++List.replicate (l.length-i) z).length=l.length:=by rw[QO,QM,SX,RC]; omega
          rw[Th (by rw[hA]; exact Qu _),QQ (by rw[hA]; exact Qu _),Sk,Rv (by omega)]
         ·rcases QZ.1 p with p|p
          ·exact g3 v (RB p)
          ·exact O v p
         ·refine j_ (by rw[QM,QM,y,Ry,ae]) (fun j x B=>?_) (fun j x B=>?_)
          ·have ah:j<i:=by
             rcases QA j i with h|h
             ·exact h
             ·rw[Q1,QC (by omega)]at B; cases B
           rw[Q1,QJ ah]at B;have hr:=fx (g4 j x B) af;rw[y,Ry]at hr ⊢;rw[Sw,Sk,Rv (by omega)];exact hr
          ·rw[TW]at B;split at B
           ·rename_i ak;cases B;rw[y,Ry,List.drop_replicate,List.take_replicate,Rv (by omega)];have:=g_ (XX X0 ρ st.ck) (w.setRow b (f.toList.take i++List.replicate (l.length-i) z++f.toList.drop (i+(l.length-i))).toArray) C;rw[F]at this;exact this
           ·cases B
    ·cases s
   ·cases s
  ·cases s
 ·cases s
theorem eN{P:Program}{B:Nat}{T q:TypeId}{e:TE}(A:b_ P T e){v:Value}{n:Nat}{xs:List Value}(C:w.ownsRow B q e.ty.size v n xs){i:Nat}(hi:i<n){b:Nat}(s:fa v=some b){cs:List Value}(h:cs.length=e.ty.size)(h1:∀ c∈cs,c.oneCell'=true) :
    ∃ w',(storeVar T ⟨b,i*e.ty.size,none⟩ (e.ty.wrap cs)).run P w=.ok () w'/\(∀ k,k≠b->w'.heap[k]?=w.heap[k]?)/\w'.heap.size=w.heap.size/\(w'.os=w.os/\w'.tape=w.tape/\w'.output=w.output) /\
     w'.ownsRow B q e.ty.size v n (d_ xs (i*e.ty.size) e.ty.size cs)/\i*e.ty.size+e.ty.size<=xs.length:=by
 obtain⟨t,⟨_,I⟩|⟨g,cap,f,D,F,y,z,G,p,H⟩⟩:=C
 ·omega
 ·subst D;have s:=Rk s;subst s;have j:i*e.ty.size+e.ty.size<=n*e.ty.size:=by rw[<-RI]; exact Q_ _ hi
  have l:n*e.ty.size<=cap*e.ty.size:=Q_ _ z;have m:=gr (P:=P) (w:=w) A (off:=i*e.ty.size) y (cs:=cs) h h1 (by rw[p]; omega);have u:(d_ f.toList (i*e.ty.size) e.ty.size cs).take (n*e.ty.size)=d_ xs (i*e.ty.size) e.ty.size cs:=by
   rw[<-H];exact jV h j (by rw[show f.toList.length=cap*e.ty.size by rw[RC,p]]; exact l)
  have x:(d_ f.toList (i*e.ty.size) e.ty.size cs).length=f.toList.length:=il h (by rw[RC,p]; omega);refine⟨_,m,fun k hk=>SS w g k _ hk,S5 _ _ _,⟨rfl,rfl,rfl⟩,⟨?_,.inr ⟨g,cap,(d_ f.toList (i*e.ty.size) e.ty.size cs).toArray,rfl,F,T9 w g f _ q _ y,z,G,?_,?_⟩⟩,?_⟩
  ·rw[il h (by rw[t]; exact j),t]
  ·rw[RQ,x,RC,p]
  ·exact u
  ·rw[t]; exact j
theorem tV{xs:List Value}{j:Nat}{u:Value}(h:j<xs.length):d_ xs (j*1) 1 [u]=xs.set j u:=by
 rw[Ry,VM,QJ h];simp[d_]
theorem I6{X:Nat->Prop}{t:Ty}{l:List t.den}{xs cs:List Value}{x:t.den}{i:Nat}(g:xs.length=l.length*t.size)(p:∀ j z,l[j]?=some z->rep t X w ((xs.drop (j*t.size)).take t.size) z)(hi:i<l.length)(m:rep t X w cs x) :
    ∀ j z,(l.set i x)[j]?=some z->rep t X w (((d_ xs (i*t.size) t.size cs).drop (j*t.size)).take t.size) z:=by
 intro j z b;have c:=eR m;have e:i*t.size+t.size<=l.length*t.size:=by rw[<-RI]; exact Q_ _ hi
 by_cases f:j=i
 ·subst f;rw[Ru hi]at b;cases b;rw[nw c (by rw[g]; exact e)];exact m
 ·rw[Rm (RN f)]at b;have q:j<l.length:=by
   rcases QA j l.length with h|h
   ·exact h
   ·rw[QD h]at b; cases b
  rw[mn c (by rw[g]; exact e) (U3 f |>.imp (fun h=>by rw[<-RI]; exact Q_ _ h) (fun h=>by rw[<-RI]; exact Q_ _ h))];exact p j z b
theorem K2{X:Nat->Prop}{u:Ty}{b:u.den}{cs:List Value}(A:rep u X w cs b):∀{t:Ty}{k o:Nat}{p q:t.den}{xs:List Value},Fp u b t k o p=some q->k<=o->rep t X w xs p->(o-k)+u.size<=t.size/\rep t X w (d_ xs (o-k) u.size cs) q:=by
 have f:=eR A;have base:∀{t:Ty}{p q:t.den}{xs:List Value},fi u t b=some q->rep t X w xs p->0+u.size<=t.size/\rep t X w (d_ xs 0 u.size cs) q:=by
  intro t p q xs C c;have i:rep t X w cs q:=fp C (fun t a=>rep t X w cs a) A;have s:=eR i;have D:=eR c;refine⟨by omega,?_⟩;have e:d_ xs 0 u.size cs=cs:=by
   unfold d_;rw[S7,RX,Q8,Rl (by omega),Q9]
  rw[e]; exact i
 have flat:∀{t:Ty}{k o:Nat}{p q:t.den}{xs:List Value},(match Nat.beq o k with|true=>fi u t b|false=>none)=some q->rep t X w xs p->(o-k)+u.size<=t.size/\rep t X w (d_ xs (o-k) u.size cs) q:=by
  intro t k o p q xs h c;split at h
  ·rename_i e;have e:=QR e;subst e;rw[Sz];exact base h c
  ·cases h
 intro t
 induction t with
 | bool=>intro k o p q xs h _ c; exact flat h c
 | int j=>intro k o p q xs h _ c; exact flat h c
 | str=>intro k o p q xs h _ c; exact flat h c
 | slice t _=>intro k o p q xs h _ c; exact flat h c
 | one t _=>intro k o p q xs h _ c; cases h
 | fn=>intro k o p q xs h _ c; cases h
 | pair g v x y =>
  intro k o p q xs h hk c
  have D:=eR c
  have F:(Ty.pair g v).size=g.size+v.size:=rfl
  unfold Fp at h
  split at h
  ·rename_i B z l;cases h;have z:=QR z;subst z;rw[Sz];exact base l c
  ·split at h
   ·rename_i e;have e:=QS e;split at h
    ·rename_i B l;cases h;obtain⟨i,s⟩:=y l e c.2;refine⟨by omega,?_,?_⟩
     ·have:=nI (xs:=xs) (cs:=cs) (o:=o-k) (n:=u.size) (k:=0) (m:=g.size) f (by omega) (.inl (by omega));rw[RP,RP]at this;rw[this]; exact c.1
     ·have hi:=uX (xs:=xs) (cs:=cs) (o:=o-(k+g.size)) (n:=u.size) (p:=g.size) (m:=v.size) f (by omega) i;rw[show g.size+(o-(k+g.size))=o-k by omega]at hi;rw[QQ (by rw[Q5,il f (by omega)]; omega),QQ (by rw[Q5]; omega)]at hi;rw[hi]; exact s
    ·cases h
   ·split at h
    ·rename_i B l;cases h;obtain⟨i,s⟩:=x l hk c.1;refine⟨by omega,?_,?_⟩
     ·rw[jV f i (by omega)]; exact s
     ·have:=nI (xs:=xs) (cs:=cs) (o:=o-k) (n:=u.size) (k:=g.size) (m:=v.size) f (by omega) (.inr (by omega));rw[QQ (by rw[Q5,il f (by omega)]; omega),QQ (by rw[Q5]; omega)]at this;rw[this]; exact c.2
    ·cases h
def JR(E:Env)(w0:World)(X0:Nat->Prop)(Bo:List Value)(N:Nat)(st':St)(ρ:List Value)(a:Act)(w:World)(op:Op)(ty:TypeId)(pos:String)(af:Array Edge):Prop :=
 ∃ w',(execOp a.eval ⟨none,op,ty,pos,af,none⟩).run E.P w=.ok .skip w'/\Fr w0 X0 Bo N st' ρ a w'
theorem H0(hE:E.Ok)(h:Fr w0 X0 Bo N st ρ a w)(D:∀ b,X0 b->b<w0.heap.size){T:TypeId}{e:TE}(hf:b_ E.P T e){y:AV}{c i sz o:Nat}{o1 o2:Operand}(B:m ρ (XX X0 ρ st.ck) w (.ti c i sz o) [a.eval o1])(hy:m ρ (XX X0 ρ st.ck) w y [a.eval o2])
    (p:NX st e c i sz o y=some (st',ps)) (hp:eP ps):JR E w0 X0 Bo N st' ρ a w (.store T o1 o2) ty pos af:=by
 unfold NX at p;split at p
 ·rename_i T' t l K;split at p
  ·rename_i av e2;split at p
   ·rename_i q e3 L;cases p;have hi:=hp.1;have L:=QR L;subst L;have hw:=h.wd D;obtain⟨cs,H,M⟩:=o8 hw.none (fun b h=>h) (fun x B=>by cases B) e2 hy;have M:=(QB M).1;obtain⟨v,bb,O,Q,B⟩:=B;have B:=(QB B).1;obtain⟨v2,xs,g1,g2,g3,g4⟩:=h.cs _ (b7 K);rw[O]at g1;cases g1;obtain⟨I,⟨_,g6⟩|⟨b,cap,f,q1,q2,q3,q4,q5,J,q7⟩⟩:=g2
    ·omega
    ·subst q1;have Q:=Rk Q;subst Q;have F:fk ρ c b:=by rw[gi O]; rfl
     have R:i*t.size+t.size<=l.length*t.size:=by rw[<-RI]; exact Q_ _ hi
     have G:l.length*t.size<=cap*t.size:=Q_ _ q4;have g:=eR H;have S:l[i]?=some (l.getD i (zd t)):=by rw[Qz,Qr hi]; rfl
     obtain⟨k1,k2⟩:=K2 H e3 (QE _) (g4 i _ S);rw[UT]at k1 k2;have s:=gr (P:=E.P) (w:=w) hf (off:=i*t.size+o) q3 (cs:=cs) g (gz H) (by rw[J]; omega);rw[<-M]at s;have U:(d_ f.toList (i*t.size+o) e.ty.size cs).take (l.length*t.size)=d_ xs (i*t.size+o) e.ty.size cs:=by
      rw[<-q7];exact jV g (by omega) (by rw[show f.toList.length=cap*t.size by rw[RC,J]]; exact G)
     refine⟨_,?_,h.set D K F (w':=w.setRow b (d_ f.toList (i*t.size+o) e.ty.size cs).toArray) (fun k hk=>SS w b k _ hk) (S5 _ _ _) ⟨rfl,rfl,rfl⟩ ?_ ?_⟩
     ·simp only[execOp,B,Instr.storeAt,Instr.sureAddr,Rf,S9,Sh,s,d_]
     ·have V:Ev (XX X0 ρ st.ck) w (w.setRow b (d_ f.toList (i*t.size+o) e.ty.size cs).toArray):=⟨by rw[S5]; exact Qu _,fun k hk hn=>SS w b k _ fun e=>hn (.inr ⟨_,b7 K,by rw[e]; exact F⟩)⟩;have W:(d_ f.toList (i*t.size+o) e.ty.size cs).length=f.toList.length:=il g (by rw[RC,J]; omega);refine⟨_,d_ xs (i*t.size+o) e.ty.size cs,O,⟨?_,.inr ⟨b,cap,(d_ f.toList (i*t.size+o) e.ty.size cs).toArray,by simp,q2,T9 w b f _ T' _ q3,by simpa using q4,q5,?_,?_⟩⟩,?_,?_⟩
      ·rw[il g (by rw[I]; omega),I,Sb]
      ·rw[RQ,W,RC,J]
      ·rw[Sb]; exact U
      ·intro u A;simp only[d_,QZ]at A;rcases A with(A|A)|A
       ·exact g3 u (RB A)
       ·exact gz H u A
       ·exact g3 u (Rh A)
      ·intro j z C;refine fx ?_ V;by_cases Z:j=i
       ·subst Z;rw[Ru hi]at C;cases C;rw[uX g (by rw[I]; exact R) k1];exact k2
       ·rw[Rm (RN Z)]at C;have aa:j<l.length:=by
         rcases QA j l.length with h|h
         ·exact h
         ·rw[QD h]at C; cases C
        rw[nI g (by rw[I]; omega) (U3 Z |>.imp (fun h=>by have:j*t.size+t.size<=i*t.size:=(by rw[<-RI]; exact Q_ _ h); omega) (fun h=>by have:i*t.size+t.size<=j*t.size:=(by rw[<-RI]; exact Q_ _ h); omega))];exact g4 j z C
     ·intro T l e;cases e
   ·cases p
  ·cases p
 ·cases p
theorem Dy(hE:E.Ok)(h:Fr w0 X0 Bo N st ρ a w)(B:∀ b,X0 b->b<w0.heap.size){T:TypeId}{x y:AV}{o1 o2:Operand}(g:m ρ (XX X0 ρ st.ck) w x [a.eval o1])(hy:m ρ (XX X0 ρ st.ck) w y [a.eval o2])
    (f:zH E st T x y=some (st',ps)) (hp:eP ps):JR E w0 X0 Bo N st' ρ a w (.store T o1 o2) ty pos af:=by
 unfold zH at f;split at f
 ·rename_i e e1;have hf:=hE.fact e1;split at f
  ·rename_i c off;split at f
   ·rename_i T' l H;split at f
    ·rename_i cs e2;split at f
     ·rename_i A;cases f;have A:=QS A;obtain⟨v,bb,M,G,g⟩:=g;have g:=(QB g).1;obtain⟨q1,q2,q3,q4,q5⟩:=rj e2 rfl hy (show m ρ _ w .nil []from rfl);rw[Q9]at q1;obtain⟨J,b,C,K,O,Q,R⟩:=h.cs _ (b7 H);rw[K]at M;cases M;have G:=Rk G;subst G;have ae:=vT J Q;have ah:off+e.ty.size<=C.size:=by rw[<-ae]at A; simpa using A
      have D:=gr (P:=E.P) (w:=w) hf (off:=off) O (cs:=(a.eval o2).cells.toList) (by simpa using q2) q4 ah;rw[<-q5]at D;obtain⟨Z,s2⟩:=yZ (n:=e.ty.size) J q3 A (by simpa using q2) Q q1;have q:fk ρ c b:=by rw[gi K]; rfl
      refine⟨_,?_,h.set B H q (w':=w.setRow b (C.toList.take off++(a.eval o2).cells.toList++C.toList.drop (off+e.ty.size)).toArray) (fun k hk=>SS w b k _ hk) (S5 _ _ _) ⟨rfl,rfl,rfl⟩ ?_ ?_⟩
      ·simp only[execOp,g,Instr.storeAt,Instr.sureAddr,Rf,S9,Sh,D]
      ·refine⟨s2,b,_,K,T9 w b C _ T' _ O,?_,?_⟩
       ·refine oT ⟨by rw[S5]; exact Qu _,fun k hk hn=>SS w b k _ fun e=>hn (.inr ⟨_,b7 H,by rw[e]; exact q⟩)⟩ ?_;simpa using Z
       ·intro u p;simp only[QZ]at p;rcases p with(p|p)|p
        ·exact R u (RB p)
        ·exact q4 u p
        ·exact R u (Rh p)
      ·exact fun _ _ _=>⟨_,_,rfl⟩
     ·cases f
    ·cases f
   ·cases f
  ·rename_i c i sz;split at f
   ·rename_i T' t l H;split at f
    ·rename_i av e2;split at f
     ·rename_i A e4;cases f;have hi:=hp.1;have A:=pf A;have e4:=QR e4;subst e4;have hw:=h.wd B;obtain⟨cs,S,r2⟩:=o8 hw.none (fun b h=>h) (fun x g=>by cases g) e2 hy;have r2:=(QB r2).1;obtain⟨v,bb,M,G,g⟩:=g;have g:=(QB g).1;obtain⟨v2,xs,J,K,O,Q⟩:=h.cs _ (b7 H);rw[M]at J;cases J;obtain⟨R,⟨_,g6⟩|⟨b,cap,F,q1,q2,q3,q4,q5,q6,q7⟩⟩:=K
      ·omega
      ·subst q1;have G:=Rk G;subst G;have q:fk ρ c b:=by rw[gi M]; rfl
       have U:i*t.size+t.size<=l.length*t.size:=by rw[<-RI]; exact Q_ _ hi
       have ai:l.length*t.size<=cap*t.size:=Q_ _ q4;have I:=eR S;have D:=gr (P:=E.P) (w:=w) hf (off:=i*t.size) q3 (cs:=cs) (by rw[I,A]) (gz S) (by rw[A,q6]; omega);have L:e.ty.wrap cs=a.eval o2:=by rw[r2,A]
       rw[L,A]at D;have an:(d_ F.toList (i*t.size) t.size cs).take (l.length*t.size)=d_ xs (i*t.size) t.size cs:=by
        rw[<-q7];exact jV I U (by rw[show F.toList.length=cap*t.size by rw[RC,q6]]; exact ai)
       refine⟨_,?_,h.set B H q (w':=w.setRow b (d_ F.toList (i*t.size) t.size cs).toArray) (fun k hk=>SS w b k _ hk) (S5 _ _ _) ⟨rfl,rfl,rfl⟩ ?_ ?_⟩
       ·simp only[execOp,g,Instr.storeAt,Instr.sureAddr,Rf,S9,Sh,D,d_]
       ·have V:Ev (XX X0 ρ st.ck) w (w.setRow b (d_ F.toList (i*t.size) t.size cs).toArray):=⟨by rw[S5]; exact Qu _,fun k hk hn=>SS w b k _ fun e=>hn (.inr ⟨_,b7 H,by rw[e]; exact q⟩)⟩;have ao:(d_ F.toList (i*t.size) t.size cs).length=F.toList.length:=il I (by rw[RC,q6]; omega);refine⟨_,d_ xs (i*t.size) t.size cs,M,⟨?_,.inr ⟨b,cap,(d_ F.toList (i*t.size) t.size cs).toArray,by simp,q2,T9 w b F _ T' _ q3,by simpa using q4,q5,?_,?_⟩⟩,?_,?_⟩
        ·rw[il I (by rw[R]; exact U),R,Sb]
        ·rw[RQ,ao,RC,q6]
        ·rw[Sb]; exact an
        ·intro u p;simp only[d_,QZ]at p;rcases p with(p|p)|p
         ·exact O u (RB p)
         ·exact gz S u p
         ·exact O u (Rh p)
        ·intro j z s;refine fx ?_ V;by_cases hj:j=i
         ·subst hj;rw[Ru hi]at s;cases s;rw[nw I (by rw[R]; exact U)];exact S
         ·rw[Rm (RN hj)]at s;have aw:j<l.length:=by
           rcases QA j l.length with h|h
           ·exact h
           ·rw[QD h]at s; cases s
          rw[mn I (by rw[R]; exact U) (U3 hj |>.imp (fun h=>by rw[<-RI]; exact Q_ _ h) (fun h=>by rw[<-RI]; exact Q_ _ h))];exact Q j z s
       ·intro T l e;cases e
     ·cases f
    ·exact H0 hE h B hf (o:=0) g hy f hp
   ·rename_i T1 o d i0 H;split at f
    ·rename_i aa;have aa:=QR aa;subst aa;split at f
     ·rename_i t0 d' i' aj;split at f
      ·rename_i ab;have ab:=QR ab;subst ab;cases f;obtain⟨e5,e6⟩:=hp.1;obtain⟨us,u,u1,u2,u3,u4⟩:=hy;rw[e6,<-e5]at u2;have u4:=(QB u4).1;obtain⟨v,bb,M,G,g⟩:=g;have g:=(QB g).1;obtain⟨v2,xs,aq,J,K,O,Q,R⟩:=h.cs _ (b7 H);rw[M]at J;cases J;rw[u1]at K;cases K;have ar:i<us.toList.length:=by
        rcases QA i us.toList.length with h'|h'
        ·exact h'
        ·rw[QD h']at u2; cases u2
       have es:e.ty.size=1:=by rw[aj]; rfl
       obtain⟨w',Z,s2,s3,s4,s5,s6⟩:=eN (P:=E.P) hf (by rw[es]; exact O) ar G (cs:=[u]) (by rw[es]; rfl) (by intro c hc; rw[RH]at hc; rw[hc]; exact u3);rw[es]at Z s5 s6;have ak:i<xs.length:=by omega
       rw[tV ak]at s5;have L:e.ty.wrap [u]=a.eval o2:=by rw[aj,u4]; rfl
       rw[L]at Z;have q:fk ρ c bb:=fh M G;refine⟨w',?_,h.set B H q s2 s3 s4 ⟨v,xs.set i u,us,M,u1,s5,fun z s=>?_,fun j hj _=>?_⟩ (by intro T l e; cases e)⟩
       ·simp only[execOp,g,Instr.storeAt,Instr.sureAddr,Rf,S9,Sh,Z]
       ·rcases Td s with s|rfl
        ·exact Q z s
        ·exact u3
       ·by_cases ac:j=i
        ·subst ac;rw[Ru ak,u2]
        ·rw[Rm (RN ac)];exact R j hj (fun e=>ac (by rw[e5]; exact(Rk e).symm))
      ·cases f
     ·cases f
    ·cases f
   ·cases f
  ·rename_i d k i sz;split at f
   ·rename_i T' t ll H;split at f
    ·rename_i av e2;split at f
     ·rename_i A e4;cases f;have hi:=hp.1;have A:=pf A;have e4:=QR e4;subst e4;have hw:=h.wd B;obtain⟨cs,S,r2⟩:=o8 hw.none (fun b h=>h) (fun x g=>by cases g) e2 hy;have r2:=(QB r2).1;obtain⟨us,v,bb,hd,hk,G,g⟩:=g;have g:=(QB g).1;obtain⟨aq,J,K,O,Q⟩:=h.cs _ (b7 H);rw[hd]at J;cases J;have al:k<ll.length:=by
       rw[<-K];rcases QA k us.toList.length with h'|h'
       ·exact h'
       ·rw[QD h']at hk; cases hk
      have hl:ll[k]?=some (ll.getD k []):=by rw[Qz,Qr al]; rfl
      obtain⟨xs,f1,f2,f3⟩:=O k v _ hk hl;obtain⟨w',Z,s2,s3,s4,s5,s6⟩:=eN (P:=E.P) hf (by rw[A]; exact f1) hi G (cs:=cs) (by rw[eR S,A]) (gz S);have L:e.ty.wrap cs=a.eval o2:=by rw[r2,A]
      rw[L,A]at Z;rw[A]at s5;have q:fk ρ d bb:=fj hd hk G;have V:Ev (XX X0 ρ st.ck) w w':=⟨by rw[s3]; exact Qu _,fun k hk hn=>s2 k fun e=>hn (.inr ⟨_,b7 H,by rw[e]; exact q⟩)⟩;refine⟨w',?_,h.set B H q s2 s3 s4 ⟨us,hd,by rw[Sb]; exact K,fun j u l p W=>?_,Q⟩ (by intro T l e; cases e)⟩
      ·simp only[execOp,g,Instr.storeAt,Instr.sureAddr,Rf,S9,Sh,Z]
      ·by_cases ad:j=k
       ·subst ad;rw[Ru al]at W;cases W;rw[hk]at p;cases p;refine⟨_,by rw[Sb]; exact s5,fun z s=>?_,fun j z s=>fx (I6 f1.1 f3 hi S j z s) V⟩;simp only[d_,QZ]at s;rcases s with(s|s)|s
        ·exact f2 z (RB s)
        ·exact gz S z s
        ·exact f2 z (Rh s)
       ·rw[Rm (RN ad)]at W;refine rP (O j u l p W) (fun b G=>.inl G) V fun b' au=>s2 b' fun e=>?_;subst e;exact Q j k u v p hk ad _ au G
     ·cases f
    ·cases f
   ·cases f
  ·exact H0 hE h B hf g hy f hp
  ·cases f
 ·cases f
end
section
variable{E:Env}{w0:World}{X0 Y:Nat->Prop}{Bo:List Value}{N:Nat}{st st':St}{ρ ρ':List Value}{a:Act}{w w':World}{ps:List Prop}{X:Nat->Prop}
theorem sA{ops:Array Oper}{ds:List (Option Nat)}(c:∀ g:Nat,ju ds g=(ops[g]?).map Oper.dst){o:Oper}{g t:Nat}{want:Bool}(f:o.guard=some (g,want))(b:ju ds g=some (some t)):qm ops o a↔gt a t=.bool want:=by
 have h:(ops[g]?).bind (·.dst)=some t:=by
  rw[c g]at b;cases e:ops[g]? with
  | none=>rw[e]at b; cases b
  | some i=>rw[e]at b; simpa using b
 unfold qm;rw[f];simp only[h,Q7,Wc]
theorem vK{x:AV}{want:Bool}{v:Value}(h:nr x want=some .run)(b:m ρ X w x [v]):v=.bool want:=by
 unfold nr at h;split at h
 ·split at h
  ·rename_i e;rw[<-AD e];exact(QB b).1
  ·cases h
 ·cases h
 ·cases h
 ·split at h<;>cases h
 ·cases h
theorem tG{x:AV}{want:Bool}{v:Value}(h:nr x want=some .dead)(g:m ρ X w x [v]):v≠.bool want:=by
 rintro rfl;unfold nr at h;split at h
 ·split at h
  ·cases h
  ·rename_i e;have:=(QB g).1;cases this;exact xF e rfl
 ·cases h
 ·cases h
 ·split at h
  ·cases h
  ·rename_i c b q e;obtain⟨v,f,j,l⟩:=g;have f:=(QB f).1;subst f;by_cases i:c
   ·have:=(QB (j i)).1;cases this;exact xF e rfl
   ·have:=l i;cases this
 ·cases h
theorem s_{cs:List Nat}{n:Nat}(e:∀ c,ρ'[jE cs n c]?=ρ[c]?){X:Nat->Prop}{w:World}:∀{x:AV}{vs:List Value},m ρ X w x vs->m ρ' X w (o9 cs n x) vs
 | .any,_,h=>h
 | .val _,_,h=>h
 | .lit _,_,h=>h
 | .a_ t a,_,h=>h
 | .rT t a,_,h=>h
 | .own q,_,⟨v,h,s⟩=>⟨v,by rw[e]; exact h,s⟩
 | .ref q _,_,⟨v,b,h,g,i⟩=>⟨v,b,by rw[e]; exact h,g,i⟩
 | .js _,_,⟨j,g,i⟩=>⟨j,g,s_ e i⟩
 | .agg _,_,⟨j,g,i,l⟩=>⟨j,g,s_ e i,l⟩
 | .kL f _,_,⟨j,g,i⟩=>⟨j,g,s_ e i⟩
 | .ix q _ _,_,⟨v,b,h,g,i⟩=>⟨v,b,by rw[e]; exact h,g,i⟩
 | .ti q _ _ _,_,⟨v,b,h,g,i⟩=>⟨v,b,by rw[e]; exact h,g,i⟩
 | .iE _ _,_,⟨v,h,g⟩=>⟨v,by rw[e]; exact h,g⟩
 | .jM _ _,_,⟨j,v,h,g⟩=>⟨j,v,by rw[e]; exact h,g⟩
 | .rH _ _ _ _,_,⟨j,v,b,h,g⟩=>⟨j,v,b,by rw[e]; exact h,g⟩
 | .tl _ _,_,⟨v,u,h,g⟩=>⟨v,u,by rw[e]; exact h,g⟩
 | .zX _,_,h=>h
 | .imp p x,_,⟨v,g,i,l⟩=>⟨v,g,fun y=>s_ e (i y),l⟩
 | .nil,_,h=>h
 | .cons x k,_,⟨v,j,g,i,l⟩=>⟨v,j,g,s_ e i,s_ e l⟩
theorem BV{cs:List Nat}{n:Nat}:∀{l:AV},kl l=true->kl (o9 cs n l)=true
 | .nil,h=>h
 | .cons x l,h=>BV (l:=l) h
def aa8(cs:List Nat)(n:Nat):CT->CT
 | .box T l=>.box T (o9 cs n l)
 | .eW T o d b=>.eW T o (jE cs n d) b
 | x=>x
theorem gR{cs:List Nat}{n:Nat}{x:Nat×CT}:∀{ck:List (Nat×CT)},x∈kk cs n ck->∃ y∈ck,x.1=jE cs n y.1/\x.2=aa8 cs n y.2
 | (k,.box T z)::r,h=>by
  simp only[kk]at h;rcases Qv.1 h with rfl|h
  ·exact⟨_,Qx,rfl,rfl⟩
  ·obtain⟨y,b,e⟩:=gR h; exact⟨y,Qs _ b,e⟩
 | (k,.row T u z)::r,h=>by
  simp only[kk]at h;rcases Qv.1 h with rfl|h
  ·exact⟨_,Qx,rfl,rfl⟩
  ·obtain⟨y,b,e⟩:=gR h; exact⟨y,Qs _ b,e⟩
 | (k,.eW T o d c)::r,h=>by
  simp only[kk]at h;rcases Qv.1 h with rfl|h
  ·exact⟨_,Qx,rfl,rfl⟩
  ·obtain⟨y,b,e⟩:=gR h; exact⟨y,Qs _ b,e⟩
 | (k,.gv T u z)::r,h=>by
  simp only[kk]at h;rcases Qv.1 h with rfl|h
  ·exact⟨_,Qx,rfl,rfl⟩
  ·obtain⟨y,b,e⟩:=gR h; exact⟨y,Qs _ b,e⟩
theorem lV{cs:List Nat}{n:Nat}:∀{ck:List (Nat×CT)},(kk cs n ck).map (·.1)=(ck.map (·.1)).map (jE cs n)
 | []=>rfl
 | (k,.box T z)::r=>by simp[kk,lV (ck:=r)]
 | (k,.row T u z)::r=>by simp[kk,lV (ck:=r)]
 | (k,.eW T o d b)::r=>by simp[kk,lV (ck:=r)]
 | (k,.gv T u z)::r=>by simp[kk,lV (ck:=r)]
theorem fb{x:Nat×CT}:∀{cs:List Nat}{ck:List (Nat×CT)},x∈gw ck cs->x∈ck/\x.1 ∉ cs
 | [],ck,h=>⟨h,fun h=>by cases h⟩
 | c::cs,ck,h=>by
  obtain⟨f,g⟩:=fb (cs:=cs) h;obtain⟨i,j⟩:=fX f;refine⟨i,fun b=>?_⟩;rcases Qv.1 b with e|b
  ·exact j e
  ·exact g b
theorem n7:∀{cs:List Nat}{ck:List (Nat×CT)},List.Sublist ((gw ck cs).map (·.1)) (ck.map (·.1))
 | [],ck=>Va _
 | c::cs,ck=>(n7 (cs:=cs)).trans lT
theorem Db{n:Nat}:∀{l:List Nat},uK n l=false->n ∉ l
 | [],_=>fun h=>by cases h
 | k::l,h=>by
  simp only[uK]at h;split at h
  ·cases h
  ·rename_i e;intro b;rcases Qv.1 b with rfl|b
   ·rw[S6]at e; cases e
   ·exact Db h b
theorem qK:∀{l:List Nat},qM l=true->l.Nodup
 | [],_=>TS
 | k::l,h=>by
  simp only[qM]at h;split at h
  ·cases h
  ·rename_i e;exact Sm.2 ⟨Db e,qK h⟩
theorem ua{ck:List (Nat×CT)}:∀{n i:Nat},wc ck n=true->i<n->∃ T l,(i,CT.box T l)∈ck
 | n+1,i,h,hi=>by
  simp only[wc]at h;split at h
  ·rename_i T l e;rcases QA i n with b|b
   ·exact ua h b
   ·have:i=n:=by omega
    subst this;exact⟨T,l,b7 e⟩
  ·cases h
theorem sX{b:Type}:∀{l:List b}{n:Nat},ju l n=l[n]?
 | [],n=>by simp[ju]
 | x::l,0=>rfl
 | x::l,n+1=>by simp only[ju,Vi]; exact sX
theorem oc(n:Nat):∀{k:Nat},rh n k=n+k
 | 0=>rfl
 | k+1=>by rw[rh,oc n (k:=k)]; omega
theorem wN:∀{n k:Nat},zi n k=n-k
 | n,0=>by cases n<;>rfl
 | 0,k+1=>by simp[zi]
 | n+1,k+1=>by rw[zi,wN (n:=n) (k:=k)]; omega
theorem pX:∀{l:List Nat},As l=l.length
 | []=>rfl
 | _::l=>by simp[As,pX (l:=l)]
theorem ln{cs:List Nat}{n c k:Nat}(h:cs[c]?=some k):jE cs n c=k:=by
 unfold jE;rw[sX,h]
theorem lx{cs:List Nat}{n c:Nat}(h:cs.length<=c):jE cs n c=n+(c-cs.length):=by
 unfold jE;rw[sX,QD h,pX];show rh n (zi c cs.length)=_;rw[oc,wN]
theorem iD{cs:List Nat}{c:Nat}(h:c<cs.length):∃ k,cs[c]?=some k:=⟨_,Qr h⟩
theorem DO{ck:List (Nat×CT)}{T:TypeId}{t:Ty}{x:AV}{d:t.den}{c:Nat}{v:Value}(p:Wd 0 ρ X ck w)(h:Bu ck T t x=some (d,c))(A:m ρ X w x [v]) :
    ∃ l b C,get? ck c=some (.box T l)/\ρ[c]?=some v/\v=.pointer (some ⟨b,0,none⟩)/\w.heap[b]?=some (.cells C T (0,0))/\rep t X w C.toList d/\∀ u∈C.toList,u.oneCell'=true:=by
 unfold Bu at h;split at h
 ·rename_i K L;split at h
  ·rename_i j;have j:=fO j;subst j;split at h
   ·rename_i M l q;split at h
    ·rename_i B;split at h
     ·rename_i O e;cases h;have:=fO B;subst this;obtain⟨P,b,s,D,g⟩:=A;obtain⟨Q,F,C,y,G,H,I⟩:=p.cs _ (b7 q);rw[y]at s;cases s;cases D;have g:=(QB g).1;obtain⟨z,i⟩:=l9 p.none (fun b h=>h) (fun x J=>by cases J) e H;have i:C.toList.drop t.size=[]:=i;have f:C.toList.length<=t.size:=by rw[VC]at i; exact i
      rw[QQ f]at z;exact⟨l,F,C,q,by rw[g]; exact y,g,G,z,I⟩
     ·cases h
    ·cases h
   ·cases h
  ·cases h
 ·cases h
theorem xB{ck:List (Nat×CT)}{T i:TypeId}{t:Ty}{x:AV}{d:List t.den}{c r:Nat}(h:Mv ck T i t x=some (d,c,r)):x=.ref c 0/\get? ck c=some (.box T (.cons (.own r) .nil))/\get? ck r=some (.row i t d):=by
 unfold Mv at h;split at h
 ·split at h
  ·rename_i f;have f:=fO f;subst f;split at h
   ·rename_i j;split at h
    ·rename_i g;have g:=fO g;subst g;split at h
     ·split at h
      ·rename_i q z l;split at h
       ·rename_i b;have b:=fO b;subst b;split at h
        ·rename_i s e;cases h;have m:=gF e;cases m;have p:=gn e;subst p;exact⟨rfl,j,l⟩
        ·cases h
       ·cases h
      ·cases h
     ·cases h
    ·cases h
   ·cases h
  ·cases h
 ·cases h
theorem B8{ck:List (Nat×CT)}{T:TypeId}{f:FuncId}{x:AV}{c j:Nat}(h:Ls ck T f x=some (c,j)):x=.ref c 0/\get? ck c=some (.box T (.cons (.kL f (.cons (.ref j 0) .nil)) .nil)):=by
 unfold Ls at h;split at h
 ·split at h
  ·rename_i e;have e:=fO e;subst e;split at h
   ·rename_i l;split at h
    ·rename_i g;have g:=fO g;subst g;split at h
     ·split at h
      ·rename_i i b;have i:=fO i;have b:=fO b;subst i b;cases h;exact⟨rfl,l⟩
      ·cases h
     ·cases h
    ·cases h
   ·cases h
  ·cases h
 ·cases h
theorem xR{ck:List (Nat×CT)}{f:TypeId}{t:Ty}{x:AV}{a:List t.den}{r:Nat}(h:L4 ck f t x=some (a,r)):x=.own r/\get? ck r=some (.row f t a):=by
 unfold L4 at h;split at h
 ·split at h
  ·rename_i i j z g;split at h
   ·rename_i b;have b:=fO b;subst b;split at h
    ·rename_i l e;cases h;have c:=gF e;cases c;have:=gn e;subst this;exact⟨rfl,g⟩
    ·cases h
   ·cases h
  ·cases h
 ·cases h
theorem O4{n:Nat}{l:List Nat}(h:AO n l=true):l[0]?=some n:=by
 cases l with
 | nil=>cases h
 | cons k l=>rw[fO h]; rfl
theorem kX{ck:List (Nat×CT)}{ρ0:List Value}(A:Wd 0 ρ X ck w)(L:∀ b,Y b->X b):∀{l:List PK}{xs:List AV}{d:jf (oO l)}{cs q:List Nat}{vs:List Value}{k r:Nat},iJ ck l xs=some (d,cs,q)->mL ρ X w xs vs ->
    (∀(i c:Nat),cs[i]?=some c->ρ0[k+i]?=ρ[c]?)->(∀(i c:Nat),q[i]?=some c->ρ0[r+i]?=ρ[c]?) ->
    m ρ0 Y w (jr l d k r) vs/\cs.length=np l/\q.length=uy l /\
     ∀ x∈oF l d k r,(∃ c,((∃ i,x.1=k+i/\cs[i]?=some c)∨∃ i,x.1=r+i/\q[i]?=some c)/\∃ ct,get? ck c=some ct)/\cm 0 ρ0 Y w x.1 x.2
 | [],[],d,cs,q,vs,k,r,h,g,e,j=>by
  simp only[iJ,Q7,SB]at h;obtain⟨_,rfl,rfl⟩:=h;exact⟨g,rfl,rfl,fun x hx=>by cases hx⟩
 | .d t::l,x::xs,d,cs,q,vs,k,r,h,g,e,j=>by
  obtain⟨v,us,rfl,B,D⟩:=g;simp only[iJ]at h;split at h
  ·rename_i P;split at h
   ·rename_i b Q R S;cases h;obtain⟨F,G,H,I⟩:=kX (k:=k) A L S D e j;have hd:=o8 A.none L (fun x hx=>by cases hx) P B;exact⟨⟨v,us,rfl,hd,F⟩,G,H,I⟩
   ·cases h
  ·cases h
 | .b T t::l,x::xs,d,cs,q,vs,k,r,h,g,e,j=>by
  obtain⟨v,us,rfl,B,D⟩:=g;simp only[iJ]at h;split at h
  ·rename_i a c P;split at h
   ·rename_i b Q R S;cases h;obtain⟨F,G,H,I⟩:=kX (k:=k+1) A L S D (fun i s U=>by
     have:=e (i+1) s (by simpa using U);rw[<-this]; congr 1; omega) j
    obtain⟨l',bb,C,W,Z,g3,g4,g5,g6⟩:=DO A P B;have J:=e 0 c (by simp);rw[Se,Z]at J;refine⟨⟨v,us,rfl,⟨v,bb,J,by rw[g3]; rfl,by rw[g3]⟩,F⟩,by simp[G,np],H,?_⟩;intro y u;rcases Qv.1 u with rfl|u
    ·have g:=EF (ρ:=ρ0) (tl:=.nil) (us:=[]) (eJ g5 fun b hb=>.inl (L b hb)) rfl;rw[Q9]at g;exact⟨⟨c,.inl ⟨0,rfl,by simp⟩,_,W⟩,rq rfl,bb,C,by rw[<-g3]; exact J,g4,g,g6⟩
    ·obtain⟨⟨s,z,M⟩,O⟩:=I y u;refine⟨⟨s,?_,M⟩,O⟩;rcases z with⟨i,p,V⟩|z
     ·exact .inl ⟨i+1,by omega,by simpa using V⟩
     ·exact .inr z
   ·cases h
  ·cases h
 | .br T Tr t::l,x::xs,d,cs,q,vs,k,r,h,g,e,j=>by
  obtain⟨v,us,rfl,B,D⟩:=g;simp only[iJ]at h;split at h
  ·rename_i a c r1 P;split at h
   ·rename_i b Q R S;cases h;obtain⟨F,G,H,I⟩:=kX (k:=k+1) (r:=r+1) A L S D (fun i s U=>by
     have:=e (i+1) s (by simpa using U);rw[<-this]; congr 1; omega) (fun i s U=>by
     have:=j (i+1) s (by simpa using U);rw[<-this]; congr 1; omega)
    obtain⟨rfl,W,Z⟩:=xB P;have J:=e 0 c (by simp);have K:=j 0 r1 (by simp);rw[Se]at J K;obtain⟨_,b1,C,z,M,O,p4⟩:=A.cs _ (b7 W);obtain⟨v2,aa,p5,p6,p7,p8⟩:=A.cs _ (b7 Z);obtain⟨v',b2,s1,s2,s3⟩:=B;refine⟨⟨v,us,rfl,⟨v',b2,by rw[J]; exact s1,s2,s3⟩,F⟩,by simp[G,np],by simp[H,uy],?_⟩;intro y u;rcases Qv.1 u with rfl|u
    ·refine⟨⟨c,.inl ⟨0,rfl,by simp⟩,_,W⟩,rfl,b1,C,by rw[J]; exact z,M,?_,p4⟩;obtain⟨v3,ab,t1,⟨v4,t2,ad,t3⟩,t4⟩:=O;exact⟨v3,ab,t1,⟨v4,by rw[K]; exact t2,ad,t3⟩,t4⟩
    ·rcases Qv.1 u with rfl|u
     ·exact⟨⟨r1,.inr ⟨0,rfl,by simp⟩,_,Z⟩,v2,aa,by rw[K]; exact p5,p6,p7,fun i x hx=>eJ (p8 i x hx) fun b hb=>.inl (L b hb)⟩
     ·obtain⟨⟨s,z,M⟩,O⟩:=I y u;refine⟨⟨s,?_,M⟩,O⟩;rcases z with⟨i,p,V⟩|⟨i,p,V⟩
      ·exact .inl ⟨i+1,by omega,by simpa using V⟩
      ·exact .inr ⟨i+1,by omega,by simpa using V⟩
   ·cases h
  ·cases h
 | .bf T f::l,x::xs,d,cs,q,vs,k,r,h,g,e,j=>by
  obtain⟨v,us,rfl,B,D⟩:=g;simp only[iJ]at h;split at h
  ·rename_i c c1 P;split at h
   ·rename_i b Q R S;split at h
    ·rename_i ac;cases h;have ac:=O4 ac;obtain⟨F,G,H,I⟩:=kX (k:=k+1) A L S D (fun i s U=>by
      have:=e (i+1) s (by simpa using U);rw[<-this]; congr 1; omega) j
     obtain⟨rfl,W⟩:=B8 P;have J:=e 0 c (by simp);have ae:=e 1 c1 (by simpa using ac);rw[Se]at J;obtain⟨_,b1,C,z,M,O,p4⟩:=A.cs _ (b7 W);obtain⟨v',b2,s1,s2,s3⟩:=B;refine⟨⟨v,us,rfl,⟨v',b2,by rw[J]; exact s1,s2,s3⟩,F⟩,by simp[G,np],H,?_⟩;intro y u;rcases Qv.1 u with rfl|u
     ·refine⟨⟨c,.inl ⟨0,rfl,by simp⟩,_,W⟩,rfl,b1,C,by rw[J]; exact z,M,?_,p4⟩;obtain⟨v3,ab,t1,⟨af,t2,v5,ah,t3,⟨v6,b6,t4,t5,t6⟩,t7⟩,t8⟩:=O;exact⟨v3,ab,t1,⟨af,t2,v5,ah,t3,⟨v6,b6,by rw[ae]; exact t4,t5,t6⟩,t7⟩,t8⟩
     ·obtain⟨⟨s,z,M⟩,O⟩:=I y u;refine⟨⟨s,?_,M⟩,O⟩;rcases z with⟨i,p,V⟩|z
      ·exact .inl ⟨i+1,by omega,by simpa using V⟩
      ·exact .inr z
    ·cases h
   ·cases h
  ·cases h
 | .c f T t::l,x::xs,d,cs,q,vs,k,r,h,g,e,j=>by
  obtain⟨v,us,rfl,B,D⟩:=g;simp only[iJ]at h;split at h
  ·rename_i f' y;split at h
   ·rename_i hf;have hf:=fO hf;subst hf;split at h
    ·rename_i a c P;split at h
     ·rename_i b Q R S;cases h;obtain⟨F,G,H,I⟩:=kX (k:=k+1) A L S D (fun i s U=>by
       have:=e (i+1) s (by simpa using U);rw[<-this]; congr 1; omega) j
      obtain⟨ai,s1,v1,aj,s2,s3,s4⟩:=B;obtain⟨l',bb,C,W,Z,g3,g4,g5,g6⟩:=DO A P s3;have J:=e 0 c (by simp);rw[Se,Z]at J;refine⟨⟨v,us,rfl,⟨ai,s1,v1,aj,s2,⟨v1,bb,J,by rw[g3]; rfl,by rw[g3]⟩,s4⟩,F⟩,by simp[G,np],H,?_⟩;intro y u;rcases Qv.1 u with rfl|u
      ·have g:=EF (ρ:=ρ0) (tl:=.nil) (us:=[]) (eJ g5 fun b hb=>.inl (L b hb)) rfl;rw[Q9]at g;exact⟨⟨c,.inl ⟨0,rfl,by simp⟩,_,W⟩,rq rfl,bb,C,by rw[<-g3]; exact J,g4,g,g6⟩
      ·obtain⟨⟨s,z,M⟩,O⟩:=I y u;refine⟨⟨s,?_,M⟩,O⟩;rcases z with⟨i,p,V⟩|z
       ·exact .inl ⟨i+1,by omega,by simpa using V⟩
       ·exact .inr z
     ·cases h
    ·cases h
   ·cases h
  ·cases h
 | .k f::l,x::xs,d,cs,q,vs,k,r,h,g,e,j=>by
  obtain⟨v,us,rfl,B,D⟩:=g;simp only[iJ]at h;split at h
  ·split at h
   ·rename_i hf;have hf:=fO hf;subst hf;obtain⟨F,G,H,I⟩:=kX (k:=k) A L h D e j;exact⟨⟨v,us,rfl,B,F⟩,G,H,I⟩
   ·cases h
  ·cases h
 | .r Tr t::l,x::xs,d,cs,q,vs,k,r,h,g,e,j=>by
  obtain⟨v,us,rfl,B,D⟩:=g;simp only[iJ]at h;split at h
  ·rename_i a r1 P;split at h
   ·rename_i b Q R S;cases h;obtain⟨F,G,H,I⟩:=kX (k:=k) (r:=r+1) A L S D e (fun i s U=>by
     have:=j (i+1) s (by simpa using U);rw[<-this]; congr 1; omega)
    obtain⟨rfl,Z⟩:=xR P;have K:=j 0 r1 (by simp);rw[Se]at K;obtain⟨v2,aa,p5,p6,p7,p8⟩:=A.cs _ (b7 Z);obtain⟨v',s1,s2,s3⟩:=B;refine⟨⟨v,us,rfl,⟨v',by rw[K]; exact s1,s2,s3⟩,F⟩,G,by simp[H,uy],?_⟩;intro y u;rcases Qv.1 u with rfl|u
    ·exact⟨⟨r1,.inr ⟨0,rfl,by simp⟩,_,Z⟩,v2,aa,by rw[K]; exact p5,p6,p7,fun i x hx=>eJ (p8 i x hx) fun b hb=>.inl (L b hb)⟩
    ·obtain⟨⟨s,z,M⟩,O⟩:=I y u;refine⟨⟨s,?_,M⟩,O⟩;rcases z with z|⟨i,p,V⟩
     ·exact .inl z
     ·exact .inr ⟨i+1,by omega,by simpa using V⟩
   ·cases h
  ·cases h
 | .n::l,x::xs,d,cs,q,vs,k,r,h,g,e,j=>by
  obtain⟨v,us,rfl,B,D⟩:=g;simp only[iJ]at h;split at h
  ·rename_i hq;have hq:=pS hq;subst hq;obtain⟨F,G,H,I⟩:=kX (k:=k) A L h D e j;exact⟨⟨v,us,rfl,B,F⟩,G,H,I⟩
  ·cases h
 | [],_::_,d,cs,q,vs,k,r,h,g,e,j=>by simp[iJ]at h
 | .d _::_,[],d,cs,q,vs,k,r,h,g,e,j=>by simp[iJ]at h
 | .b _ _::_,[],d,cs,q,vs,k,r,h,g,e,j=>by simp[iJ]at h
 | .br _ _ _::_,[],d,cs,q,vs,k,r,h,g,e,j=>by simp[iJ]at h
 | .bf _ _::_,[],d,cs,q,vs,k,r,h,g,e,j=>by simp[iJ]at h
 | .c _ _ _::_,[],d,cs,q,vs,k,r,h,g,e,j=>by simp[iJ]at h
 | .k _::_,[],d,cs,q,vs,k,r,h,g,e,j=>by simp[iJ]at h
 | .r _ _::_,[],d,cs,q,vs,k,r,h,g,e,j=>by simp[iJ]at h
 | .n::_,[],d,cs,q,vs,k,r,h,g,e,j=>by simp[iJ]at h
theorem CR{ck:List (Nat×CT)}{T:TypeId}{t:Ty}{x:AV}{a:t.den}{c:Nat}(b:Bu ck T t x=some (a,c)):∃ T l,get? ck c=some (.box T l):=by
 unfold Bu at b;split at b
 ·split at b
  ·split at b
   ·rename_i f l e;split at b
    ·split at b
     ·cases b; exact⟨_,_,e⟩
     ·cases b
    ·cases b
   ·cases b
  ·cases b
 ·cases b
theorem mj{ck:List (Nat×CT)}:∀{l:List PK}{xs:List AV}{d:jf (oO l)}{cs g:List Nat},iJ ck l xs=some (d,cs,g)->(∀ c∈cs,∃ T l,get? ck c=some (.box T l))/\∀ c∈g,∃ x,get? ck c=some x
 | [],[],d,cs,g,h=>by
  simp only[iJ,Q7,SB]at h;obtain⟨_,rfl,rfl⟩:=h;exact⟨fun c e=>(by cases e),fun c e=>(by cases e)⟩
 | .d t::l,x::xs,d,cs,g,h=>by
  simp only[iJ]at h;split at h
  ·split at h
   ·rename_i i;cases h;exact mj i
   ·cases h
  ·cases h
 | .b T t::l,x::xs,d,cs,g,h=>by
  simp only[iJ]at h;split at h
  ·rename_i a c m;split at h
   ·rename_i b p q i;cases h;obtain⟨s,u⟩:=mj i;refine⟨fun j e=>?_,u⟩;rcases Qv.1 e with rfl|e
    ·exact CR m
    ·exact s j e
   ·cases h
  ·cases h
 | .br T z t::l,x::xs,d,cs,g,h=>by
  simp only[iJ]at h;split at h
  ·rename_i a c r m;split at h
   ·rename_i b p q i;cases h;obtain⟨s,u⟩:=mj i;obtain⟨_,v,y⟩:=xB m;refine⟨fun j e=>?_,fun j e=>?_⟩
    ·rcases Qv.1 e with rfl|e
     ·exact⟨_,_,v⟩
     ·exact s j e
    ·rcases Qv.1 e with rfl|e
     ·exact⟨_,y⟩
     ·exact u j e
   ·cases h
  ·cases h
 | .bf T f::l,x::xs,d,cs,g,h=>by
  simp only[iJ]at h;split at h
  ·rename_i c A m;split at h
   ·rename_i b p q i;split at h
    ·cases h;obtain⟨s,u⟩:=mj i;obtain⟨_,v⟩:=B8 m;refine⟨fun j e=>?_,u⟩;rcases Qv.1 e with rfl|e
     ·exact⟨_,_,v⟩
     ·exact s j e
    ·cases h
   ·cases h
  ·cases h
 | .c f T t::l,x::xs,d,cs,g,h=>by
  simp only[iJ]at h;split at h
  ·split at h
   ·split at h
    ·rename_i a c m;split at h
     ·rename_i b p q i;cases h;obtain⟨s,u⟩:=mj i;refine⟨fun j e=>?_,u⟩;rcases Qv.1 e with rfl|e
      ·exact CR m
      ·exact s j e
     ·cases h
    ·cases h
   ·cases h
  ·cases h
 | .k f::l,x::xs,d,cs,g,h=>by
  simp only[iJ]at h;split at h
  ·split at h
   ·exact mj (l:=l) h
   ·cases h
  ·cases h
 | .r z t::l,x::xs,d,cs,g,h=>by
  simp only[iJ]at h;split at h
  ·rename_i a r m;split at h
   ·rename_i b p q i;cases h;obtain⟨s,u⟩:=mj i;obtain⟨_,y⟩:=xR m;refine⟨s,fun j e=>?_⟩;rcases Qv.1 e with rfl|e
    ·exact⟨_,y⟩
    ·exact u j e
   ·cases h
  ·cases h
 | .n::l,x::xs,d,cs,g,h=>by
  simp only[iJ]at h;split at h
  ·exact mj (l:=l) h
  ·cases h
 | [],_::_,d,cs,g,h=>by simp[iJ]at h
 | .d _::_,[],d,cs,g,h=>by simp[iJ]at h
 | .b _ _::_,[],d,cs,g,h=>by simp[iJ]at h
 | .br _ _ _::_,[],d,cs,g,h=>by simp[iJ]at h
 | .bf _ _::_,[],d,cs,g,h=>by simp[iJ]at h
 | .c _ _ _::_,[],d,cs,g,h=>by simp[iJ]at h
 | .k _::_,[],d,cs,g,h=>by simp[iJ]at h
 | .r _ _::_,[],d,cs,g,h=>by simp[iJ]at h
 | .n::_,[],d,cs,g,h=>by simp[iJ]at h
theorem ml{ck:List (Nat×CT)}:∀{l:List PK}{xs:List AV}{d:jf (oO l)}{cs e:List Nat},iJ ck l xs=some (d,cs,e)->∀ c∈e,∃ T t l,get? ck c=some (.row T t l)
 | [],[],d,cs,e,h=>by
  simp only[iJ,Q7,SB]at h;obtain⟨_,rfl,rfl⟩:=h;exact fun c i=>by cases i
 | .d t::l,x::xs,d,cs,e,h=>by
  simp only[iJ]at h;split at h
  ·split at h
   ·rename_i g;cases h;exact ml g
   ·cases h
  ·cases h
 | .b T t::l,x::xs,d,cs,e,h=>by
  simp only[iJ]at h;split at h
  ·split at h
   ·rename_i g;cases h;exact ml g
   ·cases h
  ·cases h
 | .br T u t::l,x::xs,d,cs,e,h=>by
  simp only[iJ]at h;split at h
  ·rename_i a c r j;split at h
   ·rename_i b m p g;cases h;obtain⟨_,v,q⟩:=xB j;intro s i;rcases Qv.1 i with rfl|i
    ·exact⟨_,_,_,q⟩
    ·exact ml g s i
   ·cases h
  ·cases h
 | .bf T f::l,x::xs,d,cs,e,h=>by
  simp only[iJ]at h;split at h
  ·split at h
   ·rename_i g;split at h
    ·cases h;exact ml g
    ·cases h
   ·cases h
  ·cases h
 | .c f T t::l,x::xs,d,cs,e,h=>by
  simp only[iJ]at h;split at h
  ·split at h
   ·split at h
    ·split at h
     ·rename_i g;cases h;exact ml g
     ·cases h
    ·cases h
   ·cases h
  ·cases h
 | .k f::l,x::xs,d,cs,e,h=>by
  simp only[iJ]at h;split at h
  ·split at h
   ·exact ml (l:=l) h
   ·cases h
  ·cases h
 | .r u t::l,x::xs,d,cs,e,h=>by
  simp only[iJ]at h;split at h
  ·rename_i a r j;split at h
   ·rename_i b m p g;cases h;obtain⟨_,q⟩:=xR j;intro s i;rcases Qv.1 i with rfl|i
    ·exact⟨_,_,_,q⟩
    ·exact ml g s i
   ·cases h
  ·cases h
 | .n::l,x::xs,d,cs,e,h=>by
  simp only[iJ]at h;split at h
  ·exact ml (l:=l) h
  ·cases h
 | [],_::_,d,cs,e,h=>by simp[iJ]at h
 | .d _::_,[],d,cs,e,h=>by simp[iJ]at h
 | .b _ _::_,[],d,cs,e,h=>by simp[iJ]at h
 | .br _ _ _::_,[],d,cs,e,h=>by simp[iJ]at h
 | .bf _ _::_,[],d,cs,e,h=>by simp[iJ]at h
 | .c _ _ _::_,[],d,cs,e,h=>by simp[iJ]at h
 | .k _::_,[],d,cs,e,h=>by simp[iJ]at h
 | .r _ _::_,[],d,cs,e,h=>by simp[iJ]at h
 | .n::_,[],d,cs,e,h=>by simp[iJ]at h
theorem iC:∀{l:List PK}{d:jf (oO l)}{k r:Nat},k+np l<=r->((oF l d k r).map (·.1)).Nodup/\∀ x∈oF l d k r,(k<=x.1/\x.1<k+np l)∨(r<=x.1/\x.1<r+uy l)
 | [],_,_,_,_=>⟨TS,fun x g=>by cases g⟩
 | .d t::l,d,k,r,h=>iC (l:=l) (d:=d.2) h
 | .b T t::l,d,k,r,h=>by
  simp only[np]at h;obtain⟨p,i⟩:=iC (l:=l) (d:=d.2) (k:=k+1) (r:=r) (by omega);refine⟨Sm.2 ⟨fun m=>?_,p⟩,fun x g=>?_⟩
  ·obtain⟨y,j,e⟩:=Rj.1 m;have:=i y j;have e:y.1=k:=e;omega
  ·simp only[np,uy];rcases Qv.1 g with rfl|g
   ·exact .inl ⟨Qu _,by show k<_; omega⟩
   ·have:=i x g; omega
 | .br T q t::l,d,k,r,h=>by
  simp only[np]at h;obtain⟨p,i⟩:=iC (l:=l) (d:=d.2) (k:=k+1) (r:=r+1) (by omega);refine⟨Sm.2 ⟨fun m=>?_,Sm.2 ⟨fun m=>?_,p⟩⟩,fun x g=>?_⟩
  ·obtain⟨y,j,e⟩:=Rj.1 m;have e:y.1=k:=e;rcases Qv.1 j with rfl|j
   ·have e:r=k:=e; omega
   ·have:=i y j;omega
  ·obtain⟨y,j,e⟩:=Rj.1 m;have:=i y j;have e:y.1=r:=e;omega
  ·simp only[np,uy];rcases Qv.1 g with rfl|g
   ·exact .inl ⟨Qu _,by show k<_; omega⟩
   ·rcases Qv.1 g with rfl|g
    ·exact .inr ⟨Qu _,by show r<_; omega⟩
    ·have:=i x g; omega
 | .bf T f::l,d,k,r,h=>by
  simp only[np]at h;obtain⟨p,i⟩:=iC (l:=l) (d:=d) (k:=k+1) (r:=r) (by omega);refine⟨Sm.2 ⟨fun m=>?_,p⟩,fun x g=>?_⟩
  ·obtain⟨y,j,e⟩:=Rj.1 m;have:=i y j;have e:y.1=k:=e;omega
  ·simp only[np,uy];rcases Qv.1 g with rfl|g
   ·exact .inl ⟨Qu _,by show k<_; omega⟩
   ·have:=i x g; omega
 | .c f T t::l,d,k,r,h=>by
  simp only[np]at h;obtain⟨p,i⟩:=iC (l:=l) (d:=d.2) (k:=k+1) (r:=r) (by omega);refine⟨Sm.2 ⟨fun m=>?_,p⟩,fun x g=>?_⟩
  ·obtain⟨y,j,e⟩:=Rj.1 m;have:=i y j;have e:y.1=k:=e;omega
  ·simp only[np,uy];rcases Qv.1 g with rfl|g
   ·exact .inl ⟨Qu _,by show k<_; omega⟩
   ·have:=i x g; omega
 | .k f::l,d,k,r,h=>iC (l:=l) (d:=d) h
 | .n::l,d,k,r,h=>iC (l:=l) (d:=d) h
 | .r q t::l,d,k,r,h=>by
  simp only[np]at h;obtain⟨p,i⟩:=iC (l:=l) (d:=d.2) (k:=k) (r:=r+1) (by omega);refine⟨Sm.2 ⟨fun m=>?_,p⟩,fun x g=>?_⟩
  ·obtain⟨y,j,e⟩:=Rj.1 m;have:=i y j;have e:y.1=r:=e;omega
  ·simp only[np,uy];rcases Qv.1 g with rfl|g
   ·exact .inr ⟨Qu _,by show r<_; omega⟩
   ·have:=i x g; omega
theorem sG:∀{l k:List Nat},EC l k=l++k
 | [],_=>rfl
 | _::l,_=>by simp[EC,sG (l:=l)]
theorem jJ(h:Fr w0 X0 Bo N st ρ a w)(c:∀ b,X0 b->b<w0.heap.size){x:Nat×CT}(g:x∈st.ck){b:Nat}(i:fk ρ x.1 b)(e:X0 b):False:=by
 rcases(h.bl x g b i).2 with f|f
 ·have:=c b e; omega
 ·exact(h.pn.bo b f).2 e
theorem rY{c:Nat}{t:Ty}{l:List t.den}(j:∀ b,Y b->X b)(q:∀ v,ρ[c]?=some v->m ρ Y w (.a_ (.slice t) l) [v]):∀{x:AV}{vs:List Value},m ρ X w x vs->m ρ Y w (mV c t l x) vs
 | .any,_,h=>h
 | .val _,_,h=>h
 | .lit _,_,h=>h
 | .a_ t a,_,h=>fN (fun b A=>.inl (j b A)) h
 | .rT t a,_,h=>fN (fun b A=>.inl (j b A)) h
 | .own z,vs,⟨v,h,i,B⟩=>by
  unfold mV;split
  ·rename_i e;have e:=fO e;subst e;subst B;exact q v h
  ·exact⟨v,h,i,B⟩
 | .ref z _,_,⟨v,b,h,i,g⟩=>by
  unfold mV;split
  ·exact⟨_,g⟩
  ·exact⟨v,b,h,i,g⟩
 | .js _,_,⟨s,i,g⟩=>⟨s,i,rY j q g⟩
 | .agg _,_,⟨s,i,g,y⟩=>⟨s,i,rY j q g,y⟩
 | .kL f _,_,⟨s,i,g⟩=>⟨s,i,rY j q g⟩
 | .ix z _ _,_,⟨v,b,h,i,g⟩=>by
  unfold mV;split
  ·exact⟨_,g⟩
  ·exact⟨v,b,h,i,g⟩
 | .ti z _ _ _,_,⟨v,b,h,i,g⟩=>by
  unfold mV;split
  ·exact⟨_,g⟩
  ·exact⟨v,b,h,i,g⟩
 | .iE _ _,_,h=>h
 | .jM _ _,_,h=>h
 | .rH _ _ _ _,_,h=>h
 | .tl z _,_,⟨v,u,h,i,g⟩=>by
  unfold mV;split
  ·exact⟨_,g⟩
  ·exact⟨v,u,h,i,g⟩
 | .zX _,_,h=>h
 | .imp p x,_,⟨v,i,g,y⟩=>⟨v,i,fun C=>rY j q (g C),y⟩
 | .nil,_,h=>h
 | .cons x k,_,⟨v,s,i,g,y⟩=>⟨v,s,i,rY j q g,rY j q y⟩
def OB(c:Nat)(t:Ty)(l:List t.den):CT->CT
 | .box T x=>.box T (mV c t l x)
 | x=>x
theorem nJ{c:Nat}{t:Ty}{l:List t.den}{x:Nat×CT}:∀{ck:List (Nat×CT)},x∈lB c t l ck->∃ y∈ck,y.1=x.1/\x.2=OB c t l y.2
 | (k,.box T z)::r,h=>by
  simp only[lB]at h;rcases Qv.1 h with rfl|h
  ·exact⟨_,Qx,rfl,rfl⟩
  ·obtain⟨y,b,e⟩:=nJ h; exact⟨y,Qs _ b,e⟩
 | (k,.row T u z)::r,h=>by
  simp only[lB]at h;rcases Qv.1 h with rfl|h
  ·exact⟨_,Qx,rfl,rfl⟩
  ·obtain⟨y,b,e⟩:=nJ h; exact⟨y,Qs _ b,e⟩
 | (k,.eW T o d f)::r,h=>by
  simp only[lB]at h;rcases Qv.1 h with rfl|h
  ·exact⟨_,Qx,rfl,rfl⟩
  ·obtain⟨y,b,e⟩:=nJ h; exact⟨y,Qs _ b,e⟩
 | (k,.gv T u z)::r,h=>by
  simp only[lB]at h;rcases Qv.1 h with rfl|h
  ·exact⟨_,Qx,rfl,rfl⟩
  ·obtain⟨y,b,e⟩:=nJ h; exact⟨y,Qs _ b,e⟩
theorem lN{c:Nat}{t:Ty}{l:List t.den}:∀{ck:List (Nat×CT)},(lB c t l ck).map (·.1)=ck.map (·.1)
 | []=>rfl
 | (k,.box T z)::r=>by simp[lB,lN (ck:=r)]
 | (k,.row T u z)::r=>by simp[lB,lN (ck:=r)]
 | (k,.eW T o d b)::r=>by simp[lB,lN (ck:=r)]
 | (k,.gv T u z)::r=>by simp[lB,lN (ck:=r)]
theorem vC{c:Nat}{t:Ty}{l:List t.den}{s:Nat}{y:AV}:∀{sl:List (Nat×AV)},get? (E8 c t l sl) s=some y->∃ x,get? sl s=some x/\y=mV c t l x
 | (k,x)::r,h=>by
  simp only[E8,get?]at h ⊢;split at h
  ·cases h; exact⟨x,rfl,rfl⟩
  ·exact vC h
theorem Ch{c:Nat}{t:Ty}{k:List t.den}:∀{l:AV},kl l=true->kl (mV c t k l)=true
 | .nil,h=>h
 | .cons x l,h=>Ch (l:=l) h
theorem MO(h:Fr w0 X0 Bo N st ρ a w)(M:∀ b,X0 b->b<w0.heap.size){c:Nat}{T:TypeId}{t:Ty}{l:List t.den}(V:get? st.ck c=some (.row T t l)) :
    Fr w0 X0 Bo N ⟨E8 c t l st.sl,lB c t l (del st.ck c),st.nx⟩ ρ a w:=by
 have u:=b7 V;have C:∀ x∈lB c t l (del st.ck c),∃ y∈st.ck,y.1=x.1/\y.1≠c/\x.2=OB c t l y.2:=by
  intro x f;obtain⟨y,g,F,q⟩:=nJ f;obtain⟨W,Z⟩:=fX g;exact⟨y,W,F,Z,q⟩
 have z:∀ b,XX X0 ρ (lB c t l (del st.ck c)) b->XX X0 ρ st.ck b:=by
  rintro b (A|⟨x,f,A⟩)
  ·exact .inl A
  ·obtain⟨y,g,e,_⟩:=C x f;exact .inr ⟨y,g,by rw[e]; exact A⟩
 have O:∀ b,fk ρ c b->¬XX X0 ρ (lB c t l (del st.ck c)) b:=by
  rintro b A (L|⟨x,f,L⟩)
  ·exact jJ h M u A L
  ·obtain⟨y,g,e,B,_⟩:=C x f;rw[<-e]at L;exact h.dj y g _ u B b L A
 have U:∀ v,ρ[c]?=some v->m ρ (XX X0 ρ (lB c t l (del st.ck c))) w (.a_ (.slice t) l) [v]:=fun v hv=>sx (h.cs _ u) z O hv;refine⟨h.dn,h.sz,h.kp,h.nx,?_,?_,?_,?_,?_,?_,?_⟩
 ·rw[lN]; exact h.nd.sublist lT
 ·intro x f;obtain⟨y,g,e,_⟩:=C x f;rw[<-e]; exact h.kn y g
 ·intro x f b A;obtain⟨y,g,e,_⟩:=C x f;rw[<-e]at A;exact h.bl y g b A
 ·intro x f y g B b F q;obtain⟨x',P,ex,_⟩:=C x f;obtain⟨y',Q,ey,_⟩:=C y g;rw[<-ex]at F B;rw[<-ey]at q B;exact h.dj x' P y' Q B b F q
 ·intro x f;obtain⟨y,g,e,_,q⟩:=C x f;rw[q,<-e];have j:=h.cs y g;cases p:y.2 with
  | box D G =>
   rw[p]at j
   obtain⟨H,b,cs,I,J,K,g5⟩:=j
   exact⟨Ch H,b,cs,I,J,rY z U K,g5⟩
  | row D R G =>
   rw[p]at j
   obtain⟨v,xs,H,I,J,K⟩:=j
   exact⟨v,xs,H,I,J,fun i x f=>eJ (K i x f) fun b A=>.inl (z b A)⟩
  | eW D o2 d2 S=>rw[p]at j; exact j
  | gv D R G =>
   rw[p]at j
   obtain⟨us,H,I,J,K⟩:=j
   exact⟨us,H,I,fun i h l hi hl=>n9 (J i h l hi hl) z,K⟩
 ·intro s y g;obtain⟨x,f,rfl⟩:=vC g;exact rY z U (h.sl s x f)
 ·refine h.pn.same fun x f T l e=>?_;obtain⟨y,g,F,_,q⟩:=C x f;refine⟨y,g,F,?_,rfl⟩;rw[e]at q;cases p:y.2 with
  | box D G=>exact⟨D,G,rfl⟩
  | row D R G=>rw[p]at q; cases q
  | eW D o2 d2 S=>rw[p]at q; cases q
  | gv D R G=>rw[p]at q; cases q
theorem nF{c d:Nat}{o:Bool}{t:Ty}{ll:List (List t.den)}(j:∀ b,Y b->X b)(l:∀ v,ρ[c]?=some v->m ρ Y w (.a_ (.slice (.slice t)) ll) [v]/\m ρ Y w (.a_ (.slice (.one (.slice t))) ll) [v])
    (hk:∀ us k v,ρ[d]?=some (.tuple us)->us.toList[k]?=some v->m ρ Y w (.a_ (.slice t) (ll.getD k [])) [v]):∀{x:AV}{vs:List Value},m ρ X w x vs->m ρ Y w (oV c d o t ll x) vs
 | .any,_,h=>h
 | .val _,_,h=>h
 | .lit _,_,h=>h
 | .a_ t a,_,h=>fN (fun b u=>.inl (j b u)) h
 | .rT t a,_,h=>fN (fun b u=>.inl (j b u)) h
 | .own s,_,h=>h
 | .iE s n,vs,⟨v,h,g,y⟩=>by
  unfold oV;split
  ·rename_i e;have e:=fO e;subst e;subst y;split
   ·exact(l v h).2
   ·exact(l v h).1
  ·exact⟨v,h,g,y⟩
 | .ref s _,_,h=>h
 | .js _,_,⟨us,g,i⟩=>⟨us,g,nF j l hk i⟩
 | .agg _,_,⟨us,g,i,q⟩=>⟨us,g,nF j l hk i,q⟩
 | .kL f _,_,⟨us,g,i⟩=>⟨us,g,nF j l hk i⟩
 | .ix s _ _,_,h=>h
 | .ti s _ _ _,_,h=>h
 | .jM A k,_,⟨us,v,h,g,i,q⟩=>by
  unfold oV;split
  ·rename_i e;have e:=fO e;subst e;subst q;exact hk us k v h g
  ·exact⟨us,v,h,g,i,q⟩
 | .rH _ _ _ _,_,h=>h
 | .tl _ _,_,h=>h
 | .zX _,_,h=>h
 | .imp p x,_,⟨v,g,i,q⟩=>⟨v,g,fun z=>nF j l hk (i z),q⟩
 | .nil,_,h=>h
 | .cons x k,_,⟨v,us,g,i,q⟩=>⟨v,us,g,nF j l hk i,nF j l hk q⟩
def Od(c d:Nat)(o:Bool)(t:Ty)(ll:List (List t.den)):CT->CT
 | .box T x=>.box T (oV c d o t ll x)
 | x=>x
theorem lL{c d:Nat}{o:Bool}{t:Ty}{ll:List (List t.den)}{x:Nat×CT}:∀{ck:List (Nat×CT)},x∈iF c d o t ll ck->∃ y∈ck,y.1=x.1/\x.2=Od c d o t ll y.2
 | (k,.box T z)::r,h=>by
  simp only[iF]at h;rcases Qv.1 h with rfl|h
  ·exact⟨_,Qx,rfl,rfl⟩
  ·obtain⟨y,b,e⟩:=lL h; exact⟨y,Qs _ b,e⟩
 | (k,.row T u z)::r,h=>by
  simp only[iF]at h;rcases Qv.1 h with rfl|h
  ·exact⟨_,Qx,rfl,rfl⟩
  ·obtain⟨y,b,e⟩:=lL h; exact⟨y,Qs _ b,e⟩
 | (k,.eW T u z f)::r,h=>by
  simp only[iF]at h;rcases Qv.1 h with rfl|h
  ·exact⟨_,Qx,rfl,rfl⟩
  ·obtain⟨y,b,e⟩:=lL h; exact⟨y,Qs _ b,e⟩
 | (k,.gv T u z)::r,h=>by
  simp only[iF]at h;rcases Qv.1 h with rfl|h
  ·exact⟨_,Qx,rfl,rfl⟩
  ·obtain⟨y,b,e⟩:=lL h; exact⟨y,Qs _ b,e⟩
theorem kJ{c d:Nat}{o:Bool}{t:Ty}{ll:List (List t.den)}:∀{ck:List (Nat×CT)},(iF c d o t ll ck).map (·.1)=ck.map (·.1)
 | []=>rfl
 | (k,.box T z)::r=>by simp[iF,kJ (ck:=r)]
 | (k,.row T u z)::r=>by simp[iF,kJ (ck:=r)]
 | (k,.eW T o d b)::r=>by simp[iF,kJ (ck:=r)]
 | (k,.gv T u z)::r=>by simp[iF,kJ (ck:=r)]
theorem t_{c d:Nat}{o:Bool}{t:Ty}{ll:List (List t.den)}{s:Nat}{y:AV}:∀{sl:List (Nat×AV)},get? (vj c d o t ll sl) s=some y->∃ x,get? sl s=some x/\y=oV c d o t ll x
 | (k,x)::r,h=>by
  simp only[vj,get?]at h ⊢;split at h
  ·cases h; exact⟨x,rfl,rfl⟩
  ·exact t_ h
theorem yM{c d:Nat}{o:Bool}{t:Ty}{ll:List (List t.den)}:∀{l:AV},kl l=true->kl (oV c d o t ll l)=true
 | .nil,h=>h
 | .cons x l,h=>yM (l:=l) h
theorem IM(h:Fr w0 X0 Bo N st ρ a w)(K:∀ b,X0 b->b<w0.heap.size){c d:Nat}{T T':TypeId}{o:Bool}{t:Ty}{ll:List (List t.den)}(hg:get? st.ck c=some (.eW T o d none))(R:get? st.ck d=some (.gv T' t ll)) :
    Fr w0 X0 Bo N ⟨vj c d o t ll st.sl,iF c d o t ll (gw st.ck [c,d]),st.nx⟩ ρ a w:=by
 have C:=b7 hg;have g:=b7 R;have D:∀ x∈iF c d o t ll (gw st.ck [c,d]),∃ y∈st.ck,y.1=x.1/\(y.1≠c/\y.1≠d)/\x.2=Od c d o t ll y.2:=by
  intro x f;obtain⟨y,j,I,z⟩:=lL f;obtain⟨q1,q2⟩:=fb j;exact⟨y,q1,I,⟨fun e=>q2 (by simp[e]),fun e=>q2 (by simp[e])⟩,z⟩
 have B:∀ b,XX X0 ρ (iF c d o t ll (gw st.ck [c,d])) b->XX X0 ρ st.ck b:=by
  rintro b (A|⟨x,f,A⟩)
  ·exact .inl A
  ·obtain⟨y,j,e,_⟩:=D x f;exact .inr ⟨y,j,by rw[e]; exact A⟩
 have S:∀ b,fk ρ c b->¬XX X0 ρ (iF c d o t ll (gw st.ck [c,d])) b:=by
  rintro b A (F|⟨x,f,F⟩)
  ·exact jJ h K C A F
  ·obtain⟨y,j,e,u,_⟩:=D x f;rw[<-e]at F;exact h.dj y j _ C u.1 b F A
 have G:∀ b,fk ρ d b->¬XX X0 ρ (iF c d o t ll (gw st.ck [c,d])) b:=by
  rintro b A (F|⟨x,f,F⟩)
  ·exact jJ h K g A F
  ·obtain⟨y,j,e,u,_⟩:=D x f;rw[<-e]at F;exact h.dj y j _ g u.2 b F A
 have hd:∀ v,ρ[c]?=some v->m ρ (XX X0 ρ (iF c d o t ll (gw st.ck [c,d]))) w (.a_ (.slice (.slice t)) ll) [v]/\m ρ (XX X0 ρ (iF c d o t ll (gw st.ck [c,d]))) w (.a_ (.slice (.one (.slice t))) ll) [v] :=
  fun v hv=>yN (h.cs _ C) (h.cs _ g) B S G hv
 have hk:∀ L k v,ρ[d]?=some (.tuple L)->L.toList[k]?=some v->m ρ (XX X0 ρ (iF c d o t ll (gw st.ck [c,d]))) w (.a_ (.slice t) (ll.getD k [])) [v] :=
  fun L k v U hk=>(lh (h.cs _ g) B G U hk).2
 refine⟨h.dn,h.sz,h.kp,h.nx,?_,?_,?_,?_,?_,?_,?_⟩
 ·rw[kJ]; exact h.nd.sublist n7
 ·intro x f;obtain⟨y,j,e,_⟩:=D x f;rw[<-e]; exact h.kn y j
 ·intro x f b A;obtain⟨y,j,e,_⟩:=D x f;rw[<-e]at A;exact h.bl y j b A
 ·intro x f y j u b I z;obtain⟨x',V,ex,_⟩:=D x f;obtain⟨y',W,ey,_⟩:=D y j;rw[<-ex]at I u;rw[<-ey]at z u;exact h.dj x' V y' W u b I z
 ·intro x f;obtain⟨y,j,e,_,z⟩:=D x f;rw[z,<-e];have p:=h.cs y j;cases q:y.2 with
  | box H J =>
   rw[q]at p
   obtain⟨M,b,cs,O,P,Q,g5⟩:=p
   exact⟨yM M,b,cs,O,P,nF B hd hk Q,g5⟩
  | row H Z J =>
   rw[q]at p
   obtain⟨v,xs,M,O,P,Q⟩:=p
   exact⟨v,xs,M,O,P,fun i x f=>eJ (Q i x f) fun b A=>.inl (B b A)⟩
  | eW H o2 d2 aa=>rw[q]at p; exact p
  | gv H Z J =>
   rw[q]at p
   obtain⟨L,M,O,P,Q⟩:=p
   exact⟨L,M,O,fun i h l hi hl=>n9 (P i h l hi hl) B,Q⟩
 ·intro s y j;obtain⟨x,f,rfl⟩:=t_ j;exact nF B hd hk (h.sl s x f)
 ·refine h.pn.same fun x f T l e=>?_;obtain⟨y,j,I,_,z⟩:=D x f;refine⟨y,j,I,?_,rfl⟩;rw[e]at z;cases q:y.2 with
  | box H J=>exact⟨H,J,rfl⟩
  | row H Z J=>rw[q]at z; cases z
  | eW H o2 d2 aa=>rw[q]at z; cases z
  | gv H Z J=>rw[q]at z; cases z
theorem la{f:Type}{x:Nat×f}:∀{cf:List (Nat×f)},(cf.map (·.1)).Nodup->x∈cf->get? cf x.1=some x.2
 | (k,z)::l,c,b=>by
  simp only[S0,Sm]at c;simp only[get?];rcases Qv.1 b with rfl|b
  ·simp[S6]
  ·split
   ·rename_i e;exact absurd (by rw[fO e]; exact TN b) c.1
   ·exact la c.2 b
theorem zu{c d:Nat}(j:∀ b,Y b->X b):∀{x:AV}{vs:List Value},m ρ X w x vs->m ρ Y w (BC c d x) vs
 | .any,_,h=>h
 | .val _,_,h=>h
 | .lit _,_,h=>h
 | .a_ t a,_,h=>fN (fun b s=>.inl (j b s)) h
 | .rT t a,_,h=>fN (fun b s=>.inl (j b s)) h
 | .own q,_,h=>h
 | .iE q n,vs,⟨v,h,e,u⟩=>by
  unfold BC;split
  ·exact⟨v,h,zI e,u⟩
  ·exact⟨v,h,e,u⟩
 | .ref q _,_,h=>h
 | .js _,_,⟨i,e,g⟩=>⟨i,e,zu j g⟩
 | .agg _,_,⟨i,e,g,l⟩=>⟨i,e,zu j g,l⟩
 | .kL f _,_,⟨i,e,g⟩=>⟨i,e,zu j g⟩
 | .ix q _ _,_,h=>h
 | .ti q _ _ _,_,h=>h
 | .jM z k,_,⟨i,v,h,e,g,l⟩=>by
  unfold BC;split
  ·exact⟨v,l⟩
  ·exact⟨i,v,h,e,g,l⟩
 | .rH _ _ _ _,_,h=>h
 | .tl _ _,_,h=>h
 | .zX _,_,h=>h
 | .imp p x,_,⟨v,e,g,l⟩=>⟨v,e,fun y=>zu j (g y),l⟩
 | .nil,_,h=>h
 | .cons x k,_,⟨v,i,e,g,l⟩=>⟨v,i,e,zu j g,zu j l⟩
theorem F8{c d:Nat}:∀{l:AV},kl l=true->kl (BC c d l)=true
 | .nil,h=>h
 | .cons x l,h=>F8 (l:=l) h
theorem zJ{c d:Nat}{s:Nat}{y:AV}:∀{sl:List (Nat×AV)},get? (ubS c d sl) s=some y->∃ x,get? sl s=some x/\y=BC c d x
 | (k,x)::r,h=>by
  simp only[ubS,get?]at h ⊢;split at h
  ·cases h; exact⟨x,rfl,rfl⟩
  ·exact zJ h
def ubR(c d:Nat)(ct:CT)(x y:Nat×CT):Prop:=x.1=y.1/\((∃ T l,y.2=.box T l/\x.2=.box T (BC c d l))∨((∀ T l,y.2≠.box T l)/\((y.1=c/\x.2=ct)∨(y.1≠c/\y.1≠d/\x.2=y.2))))
theorem Mg{c d:Nat}{ct:CT}{x:Nat×CT}:∀{ck:List (Nat×CT)},x∈vM c d ct ck->∃ y∈ck,ubR c d ct x y:=by
 have step:∀{y:Nat×CT}{r:List (Nat×CT)},(∀ T l,y.2≠.box T l)->(x∈vM c d ct r->∃ y∈r,ubR c d ct x y) ->
     x∈(match Nat.beq y.1 c with
      | true=>(y.1,ct)::vM c d ct r
      | false=>match Nat.beq y.1 d with
       | true=>vM c d ct r
       | false=>(y.1,y.2)::vM c d ct r)->∃ z∈y::r,ubR c d ct x z:=by
  intro y r f b h;have up:(∃ y∈r,ubR c d ct x y)->∃ z∈y::r,ubR c d ct x z:=fun⟨z,g,e⟩=>⟨z,Qs _ g,e⟩;split at h
  ·rename_i e;rcases Qv.1 h with rfl|h
   ·exact⟨y,Qx,rfl,.inr ⟨f,.inl ⟨fO e,rfl⟩⟩⟩
   ·exact up (b h)
  ·rename_i e;split at h
   ·exact up (b h)
   ·rename_i i;rcases Qv.1 h with rfl|h
    ·exact⟨y,Qx,rfl,.inr ⟨f,.inr ⟨qz e,qz i,rfl⟩⟩⟩
    ·exact up (b h)
 intro ck
 induction ck with
 | nil=>intro h; cases h
 | cons y r b =>
  intro h
  obtain⟨k,z⟩:=y
  cases z with
  | box T l =>
   simp only[vM]at h
   rcases Qv.1 h with rfl|h
   ·exact⟨_,Qx,rfl,.inl ⟨T,l,rfl,rfl⟩⟩
   ·obtain⟨z,g,e⟩:=b h;exact⟨z,Qs _ g,e⟩
  | row T t l=>exact step (y:=(k,.row T t l)) (fun _ _ e=>by cases e) b h
  | eW T o j m=>exact step (y:=(k,.eW T o j m)) (fun _ _ e=>by cases e) b h
  | gv T t p=>exact step (y:=(k,.gv T t p)) (fun _ _ e=>by cases e) b h
theorem IF{c d:Nat}{ct:CT}:∀{ck:List (Nat×CT)},List.Sublist ((vM c d ct ck).map (·.1)) (ck.map (·.1)):=by
 intro ck
 induction ck with
 | nil=>exact .slnil
 | cons y r b =>
  obtain⟨k,z⟩:=y
  have h:∀ z,List.Sublist ((match Nat.beq k c with
      | true=>(k,ct)::vM c d ct r
      | false=>match Nat.beq k d with
       | true=>vM c d ct r
       | false=>(k,z)::vM c d ct r).map Prod.fst) (k::r.map Prod.fst):=by
   intro z;split
   ·exact .cons_cons _ b
   ·split
    ·exact .cons _ b
    ·exact .cons_cons _ b
  cases z with
  | box T l=>exact .cons_cons _ b
  | row T t l=>exact h _
  | eW T o e f=>exact h _
  | gv T t g=>exact h _
theorem aag(h:Fr w0 X0 Bo N st ρ a w)(ac:∀ b,X0 b->b<w0.heap.size){c:Nat}(R:ubg st c=some st'):Fr w0 X0 Bo N st' ρ a w:=by
 unfold ubg at R;split at R
 ·rename_i T d hg;split at R
  ·rename_i T' t F I;cases R;have W:=b7 hg;have g:=b7 I;have ad:c≠d:=fun e=>by rw[e,I]at hg; cases hg
   have C:∀ x∈vM c d (.row T (.slice t) F) st.ck,∃ y∈st.ck,ubR c d (.row T (.slice t) F) x y:=fun x f=>Mg f;have ae:∀ x∈vM c d (.row T (.slice t) F) st.ck,x.1≠d:=by
    intro x f e;obtain⟨y,j,S,h2⟩:=C x f;have Z:y.1=d:=by rw[<-S]; exact e
    have af:y=(d,.gv T' t F):=by
     have:=la h.nd j;rw[Z,I]at this;rw[<-Z];exact Wl rfl (Rk this).symm
    rw[af]at h2;rcases h2 with⟨_,_,q,_⟩|⟨_,⟨q,_⟩|⟨_,q,_⟩⟩
    ·cases q
    ·exact ad q.symm
    ·exact q rfl
   have u:∀ b,XX X0 ρ (vM c d (.row T (.slice t) F) st.ck) b->XX X0 ρ st.ck b:=by
    rintro b (z|⟨x,f,z⟩)
    ·exact .inl z
    ·obtain⟨y,j,e,_⟩:=C x f;exact .inr ⟨y,j,by rw[<-e]; exact z⟩
   have aa:∀ b,fk ρ d b->¬XX X0 ρ (vM c d (.row T (.slice t) F) st.ck) b:=by
    rintro b z (h'|⟨x,f,h'⟩)
    ·exact jJ h ac g z h'
    ·obtain⟨y,j,e,_⟩:=C x f;have p:=ae x f;rw[e]at h' p;exact h.dj y j _ g p b h' z
   refine⟨h.dn,h.sz,h.kp,h.nx,h.nd.sublist IF,?_,?_,?_,?_,?_,?_⟩
   ·intro x f;obtain⟨y,j,e,_⟩:=C x f;rw[e]; exact h.kn y j
   ·intro x f b z;obtain⟨y,j,e,_⟩:=C x f;rw[e]at z;exact h.bl y j b z
   ·intro x f y j p b S U;obtain⟨x',ah,ex,_⟩:=C x f;obtain⟨y',ai,ey,_⟩:=C y j;rw[ex]at S p;rw[ey]at U p;exact h.dj x' ah y' ai p b S U
   ·intro x f;obtain⟨y,j,e,U⟩:=C x f;have m:=h.cs y j;rcases U with⟨J,l2,V,B⟩|⟨K,⟨V,B⟩|⟨_,_,B⟩⟩
    ·rw[V]at m;rw[B,e];obtain⟨L,b,cs,G,M,O,g5⟩:=m;exact⟨F8 L,b,cs,G,M,zu u O,g5⟩
    ·rw[B,e,V];obtain⟨v,xs,P,L,G,M,O,g5⟩:=h.cs _ W;obtain⟨al,p1,p2,p3,p4⟩:=h.cs _ g;rw[G]at p1;cases p1;refine⟨v,xs,L,by rw[<-p2]; exact M,O,fun i x hi=>?_⟩;have an:i<F.length:=by
      rcases QA i F.length with h|h
      ·exact h
      ·rw[QD h]at hi; cases hi
     have Q:i<P.toList.length:=by omega
     have A:=g5 i Q (fun e=>by cases e);rw[Qr Q]at A;have aj:P.toList[i]?=some P.toList[i]:=Qr Q;have hm:=(lh (h.cs _ g) u aa G aj).2;rw[Qz,hi,SO]at hm;obtain⟨cs,r1,r2⟩:=hm;have ab:=eR r1;simp only[Ty.size,Ry];have ak:(xs.drop i).take 1=[P.toList[i]]:=by
      have H:i<xs.length:=by
       rcases QA i xs.length with h|h
       ·exact h
       ·rw[QD h]at A; cases A
      rw[R0 H,Uo,S7];rw[Qr H]at A;rw[Rk A]
     rw[ak]
     match cs,ab with
     | [c1],_ =>
      have:P.toList[i]=c1:=(QB r2).1
      rw[this]; exact r1
    ·rw[B,e];cases D:y.2 with
     | box J l2=>exact absurd D (K J l2)
     | row J t2 l2 =>
      rw[D]at m
      obtain⟨v,xs,L,G,M,O⟩:=m
      exact⟨v,xs,L,G,M,fun i x f=>eJ (O i x f) fun b z=>.inl (u b z)⟩
     | eW J o2 d2 ao=>rw[D]at m; exact m
     | gv J t2 l2 =>
      rw[D]at m
      obtain⟨P,L,G,M,O⟩:=m
      exact⟨P,L,G,fun i h l hi hl=>n9 (M i h l hi hl) u,O⟩
   ·intro s y j;obtain⟨x,f,rfl⟩:=zJ j;exact zu u (h.sl s x f)
   ·refine h.pn.same fun x f J l e=>?_;obtain⟨y,j,S,U⟩:=C x f;rcases U with⟨T3,l3,V,B⟩|⟨K,⟨V,B⟩|⟨_,_,B⟩⟩
    ·exact⟨y,j,S.symm,⟨T3,l3,V⟩,rfl⟩
    ·rw[B]at e; cases e
    ·rw[B]at e; exact absurd e (K J l)
  ·cases R
 ·cases R
theorem rE(e:∀ b,X0 b->b<w0.heap.size):∀{cs:List Nat}{st:St},Fr w0 X0 Bo N st ρ a w->Fr w0 X0 Bo N (KE st cs) ρ a w
 | [],st,h=>h
 | c::cs,st,h=>by
  simp only[KE];split
  ·rename_i f; exact rE e (MO h e f)
  ·rename_i f;split
   ·rename_i g; exact rE e (IM h e f g)
   ·exact rE e h
  ·exact rE e h
theorem pw{c i:Type}{f:c->i}:∀{l:List c},(∀ x∈l,∀ y∈l,f x=f y->x=y)->l.Nodup->(l.map f).Nodup
 | [],_,_=>TS
 | a::l,h,j=>by
  obtain⟨m,p⟩:=Sm.1 j;refine Sm.2 ⟨fun q=>?_,pw (fun x s y t=>h x (Qs _ s) y (Qs _ t)) p⟩;obtain⟨b,g,e⟩:=Rj.1 q;exact m (by rw[<-h b (Qs _ g) a Qx e]; exact g)
theorem Fr.call(h:Fr w0 X0 Bo N st ρ a w)(au:∀ b,X0 b->b<w0.heap.size){cs B:List Nat}(av:(cs++B).Nodup)(aa:∀ c∈cs,∃ T l,(c,CT.box T l)∈st.ck)(aw:∀ c∈B,∃ x,(c,x)∈st.ck){ρ0:List Value}(O:ρ0.length=(cs++B).length)(ab:∀(i c:Nat),(cs++B)[i]?=some c->ρ0[i]?=ρ[c]?)
    {M:List (Nat×CT)}{nx:Nat} (hk:wc M cs.length=true) (C:Fr w (fun b=>XX X0 ρ st.ck b/\¬qZ ρ0 b) ρ0 0 ⟨[],M,nx⟩ ρ' gu w') {out:AV}{v:Value} (V:m ρ' (XX (fun b=>XX X0 ρ st.ck b/\¬qZ ρ0 b) ρ' M) w' out [v]) {d:Option Nat} (hd:∀ t,d=some t->t<N) :
    ∃ ah,Fr w0 X0 Bo N ⟨put st.sl d (o9 cs st.nx out),kk cs st.nx M++gw st.ck (cs++B),st.nx+(nx-cs.length)⟩ ah (a.put d v) w':=by
 have ax:∀ c∈cs++B,∃ x,(c,x)∈st.ck:=fun c s=>by
  rcases QZ.1 s with s|s
  ·obtain⟨T,l,V⟩:=aa c s; exact⟨_,V⟩
  ·exact aw c s
 have ay:(cs++B).length=cs.length+B.length:=QO;have ai:∀(i c:Nat),cs[i]?=some c->ρ0[i]?=ρ[c]?:=fun i c s=>ab i c (by
  have hi:i<cs.length:=by
   rcases QA i cs.length with A|A
   ·exact A
   ·rw[QD A]at s; cases s
  rw[Q0 hi]; exact s)
 have aj:cs.Nodup:=(VT.1 av).1;have F1:cs.length<=nx:=by
  have D:(cs++B).length<=nx:=by rw[<-O]; exact C.pn.le
  omega
 have Fl:ρ'.length=nx:=C.nx;have F2:∀ i,i<cs.length->ρ'[i]?=ρ0[i]?:=by
  intro i hi;obtain⟨T,l,V⟩:=ua hk hi;exact C.pn.pn _ V T l rfl (by rw[O]; show i<_; omega)
 have J:∀ c∈cs,c<st.nx:=fun c s=>by obtain⟨T,l,V⟩:=aa c s; exact h.kn _ V
 have hn:=h.nx;refine⟨ρ++ρ'.drop cs.length,?_⟩;generalize P:ρ++ρ'.drop cs.length=j;have K:∀ c,c<st.nx->j[c]?=ρ[c]?:=fun c s=>by rw[<-P,Q0 (by omega)]
 have R:∀ c,j[jE cs st.nx c]?=ρ'[c]?:=by
  intro c;rcases QA c cs.length with s|s
  ·obtain⟨k,hk⟩:=iD s;rw[ln hk,K k (J k (Ra hk)),<-ai c k hk,F2 c s]
  ·rw[lx s,<-P,QT (by omega),Rg];congr 1;omega
 have BR:∀ c,fk j (jE cs st.nx c)=fk ρ' c:=fun c=>by unfold fk; rw[R]
 have BO:∀ x∈st.ck,fk j x.1=fk ρ x.1:=fun x f=>by unfold fk; rw[K _ (h.kn x f)]
 have inc:∀ b,qZ ρ0 b->∃ c∈cs++B,fk ρ c b:=by
  rintro b ⟨i,hi⟩;have az:i<(cs++B).length:=by
   rcases QA i (cs++B).length with A|A
   ·exact A
   ·exact(kV (by rw[O]; exact A) hi).elim
  obtain⟨k,hk⟩:=iD az;refine⟨k,Ra hk,?_⟩;unfold fk at hi ⊢;rw[<-ab i k hk]; exact hi
 have aJ:∀ b,∀ c∈cs++B,fk ρ c b->qZ ρ0 b:=by
  intro b c s g;obtain⟨i,hi⟩:=RR.1 s;refine⟨i,?_⟩;unfold fk at g ⊢;rw[ab i c hi]; exact g
 have q:∀ b,qZ ρ0 b->∃ x∈st.ck,x.1∈cs++B/\fk ρ x.1 b:=by
  intro b g;obtain⟨c,s,e⟩:=inc b g;obtain⟨z,V⟩:=ax c s;exact⟨_,V,s,e⟩
 have ac:∀ b,XX X0 j (kk cs st.nx M++gw st.ck (cs++B)) b->XX (fun b=>XX X0 ρ st.ck b/\¬qZ ρ0 b) ρ' M b:=by
  rintro b (g|⟨x,f,g⟩)
  ·refine .inl ⟨.inl g,fun hi=>?_⟩;obtain⟨y,p,_,e⟩:=q b hi;exact jJ h au p e g
  ·rcases QZ.1 f with f|f
   ·obtain⟨y,p,e,_⟩:=gR f;rw[e,BR]at g;exact .inr ⟨y,p,g⟩
   ·obtain⟨f,ak⟩:=fb f;rw[BO x f]at g;refine .inl ⟨.inr ⟨x,f,g⟩,fun hi=>?_⟩;obtain⟨y,p,aA,e⟩:=q b hi;exact h.dj x f y p (fun e=>ak (by rw[e]; exact aA)) b g e
 have al:∀ b,XX X0 j (kk cs st.nx M++gw st.ck (cs++B)) b->XX X0 ρ st.ck b∨w.heap.size<=b:=by
  rintro b (g|⟨x,f,g⟩)
  ·exact .inl (.inl g)
  ·rcases QZ.1 f with f|f
   ·obtain⟨y,p,e,_⟩:=gR f;rw[e,BR]at g;rcases(C.bl y p b g).2 with A|A
    ·exact .inr A
    ·obtain⟨z,I,_,e⟩:=q b A;exact .inl (.inr ⟨z,I,e⟩)
   ·obtain⟨f,ak⟩:=fb f;rw[BO x f]at g;exact .inl (.inr ⟨x,f,g⟩)
 have hE:Ev (XX X0 ρ st.ck) w w':=⟨C.kp.size,fun k hk W=>C.kp.block k hk fun hi=>by
  obtain⟨z,I,_,e⟩:=q k hi;exact W (.inr ⟨z,I,e⟩)⟩
 have aB:∀{x:AV}{vs:List Value},m ρ (XX X0 ρ st.ck) w x vs->m j (XX X0 j (kk cs st.nx M++gw st.ck (cs++B))) w' x vs:=fun f=>by
  have:=iI (ρ'.drop cs.length) (mW f al hE);rw[P]at this;exact this
 have an:∀{x:AV}{vs:List Value},m ρ' (XX (fun b=>XX X0 ρ st.ck b/\¬qZ ρ0 b) ρ' M) w' x vs->m j (XX X0 j (kk cs st.nx M++gw st.ck (cs++B))) w' (o9 cs st.nx x) vs:=fun f=>s_ R (fN (fun b g=>.inl (ac b g)) f);refine⟨by rw[gh]; exact h.dn,by rw[size_put]; exact h.sz,?_,?_,?_,?_,?_,?_,?_,?_,?_⟩
 ·refine⟨C.kp.os.trans h.kp.os,C.kp.tape.trans h.kp.tape,C.kp.output.trans h.kp.output,QL h.kp.size C.kp.size,fun k hk W=>?_⟩;rw[C.kp.block k (QI hk h.kp.size) fun hi=>?_,h.kp.block k hk W];obtain⟨z,I,_,e⟩:=q k hi;rcases(h.bl z I k e).2 with A|A
  ·omega
  ·exact W A
 ·rw[<-P,QO,Q5,Fl,hn]
 ·rw[SG,lV,VT];have aC:=C.nd;refine⟨?_,h.nd.sublist n7,?_⟩
  ·refine pw (fun x f y p e=>?_) aC;have lt:∀ c,c<cs.length->jE cs st.nx c<st.nx:=fun c s=>by
    obtain⟨k,hk⟩:=iD s;rw[ln hk]; exact J k (Ra hk)
   rcases QA x cs.length with D|D<;>rcases QA y cs.length with h2|h2
   ·obtain⟨k,hk⟩:=iD D;obtain⟨k2,ao⟩:=iD h2;rw[ln hk,ln ao]at e;subst e;exact(VU D aj).1 (hk.trans ao.symm)
   ·have:=lt x D; rw[e,lx h2]at this; omega
   ·have:=lt y h2; rw[<-e,lx D]at this; omega
   ·rw[lx D,lx h2]at e; omega
  ·rintro x f y p rfl;obtain⟨z,I,e⟩:=Rj.1 p;obtain⟨aD,aE⟩:=fb I;obtain⟨c,s,F⟩:=Rj.1 f;have aK:=h.kn z aD;rcases QA c cs.length with D|D
   ·obtain⟨k,hk⟩:=iD D;rw[ln hk]at F;exact aE (by rw[e,<-F]; exact SV _ (Ra hk))
   ·rw[lx D]at F; omega
 ·intro x f;rcases QZ.1 f with f|f
  ·obtain⟨y,p,e,_⟩:=gR f;have aL:y.1<nx:=C.kn y p;show x.1<st.nx+(nx-cs.length);rw[e];rcases QA y.1 cs.length with D|D
   ·obtain⟨k,hk⟩:=iD D;rw[ln hk];have:=J k (Ra hk);omega
   ·rw[lx D]; omega
  ·have:=h.kn x (fb f).1;show x.1<st.nx+(nx-cs.length);omega
 ·intro x f b g;rcases QZ.1 f with f|f
  ·obtain⟨y,p,e,_⟩:=gR f;rw[e,BR]at g;obtain⟨Q,S⟩:=C.bl y p b g;refine⟨Q,?_⟩;rcases S with A|A
   ·exact .inl (QL h.kp.size A)
   ·obtain⟨z,I,_,e⟩:=q b A;exact(h.bl z I b e).2
  ·have u:=(fb f).1;rw[BO x u]at g;obtain⟨Q,S⟩:=h.bl x u b g;exact⟨QI Q C.kp.size,S⟩
 ·have U:∀ x∈kk cs st.nx M,∀ y∈gw st.ck (cs++B),∀ b,fk j x.1 b->fk j y.1 b->False:=by
    intro x f y p b H F;obtain⟨x',ad,e,_⟩:=gR f;rw[e,BR]at H;obtain⟨L,aF⟩:=fb p;rw[BO y L]at F;have g:=(h.bl y L b F).1;rcases(C.bl x' ad b H).2 with A|A
    ·omega
    ·obtain⟨z,I,ae,e3⟩:=q b A;exact h.dj z I y L (fun e=>aF (by rw[<-e]; exact ae)) b e3 F
  intro x f y p aq b H F;rcases QZ.1 f with f|f<;>rcases QZ.1 p with p|p
  ·obtain⟨x',ad,ex,_⟩:=gR f;obtain⟨y',aG,ey,_⟩:=gR p;rw[ex,BR]at H;rw[ey,BR]at F;exact C.dj x' ad y' aG (fun e=>aq (by rw[ex,ey,e])) b H F
  ·exact U x f y p b H F
  ·exact U y p x f b F H
  ·have u:=(fb f).1;have L:=(fb p).1;rw[BO x u]at H;rw[BO y L]at F;exact h.dj x u y L aq b H F
 ·intro x f;rcases QZ.1 f with f|f
  ·obtain⟨y,p,H,F⟩:=gR f;rw[H,F];have G:=C.cs y p;cases Z:y.2 with
   | box T2 l2 =>
    rw[Z]at G
    obtain⟨Q,b,cells,S,g3,g4,g5⟩:=G
    exact⟨BV Q,b,cells,by rw[R]; exact S,g3,an g4,g5⟩
   | row T2 t2 l2 =>
    rw[Z]at G
    obtain⟨v,xs,Q,S,g3,g4⟩:=G
    exact⟨v,xs,by rw[R]; exact Q,S,g3,fun i z I=>eJ (g4 i z I) fun b g=>.inl (ac b g)⟩
   | eW T2 o2 d2 ay =>
    rw[Z]at G
    obtain⟨v,xs,us,Q,S,g3⟩:=G
    exact⟨v,xs,us,by rw[R]; exact Q,by rw[R]; exact S,g3⟩
   | gv T2 t2 l2 =>
    rw[Z]at G
    obtain⟨us,Q,S,g3,g4⟩:=G
    exact⟨us,by rw[R]; exact Q,S,fun i h l hi hl=>n9 (g3 i h l hi hl) ac,g4⟩
  ·obtain⟨u,aH⟩:=fb f;have:=tD (ρ'.drop cs.length) (kq (h.cs x u) al hE fun b e=>C.kp.block b (h.bl x u b e).1 fun hi=>by
    obtain⟨z,I,ae,F⟩:=q b hi;exact h.dj z I x u (fun e=>aH (by rw[<-e]; exact ae)) b F e)
   rw[P]at this;exact this
 ·intro t y p;exact rm (M:=fun x v'=>m j (XX X0 j (kk cs st.nx M++gw st.ck (cs++B))) w' x [v']) (by rw[h.sz]; exact hd) (an V) (fun t x f=>aB (h.sl t x f)) p
 ·refine⟨h.pn.bo,QL h.pn.le (Vg _ _),fun x f T l e af=>?_⟩;rcases QZ.1 f with f|f
  ·obtain⟨y,p,H,F⟩:=gR f;rcases QA y.1 cs.length with D|D
   ·obtain⟨k,hk⟩:=iD D;have ar:=Ra hk;rw[ln hk]at H;obtain⟨T',l',aI⟩:=aa k ar;rw[H,K k (J k ar)];rw[H]at af;exact h.pn.pn _ aI T' l' rfl af
   ·rw[lx D]at H;have:=h.pn.le;omega
  ·have u:=(fb f).1;rw[K _ (h.kn x u)];exact h.pn.pn x u T l e af
theorem sj(a:Act)(dst:Option Tmp)(f:FuncId)(t:Nat)(us:Array Value)(xs:Array Operand)(ats:Array TypeId)(ty:TypeId)(pos:String)(after:Array Edge)(guard:Option (Nat×Bool))(h:a.eval (.tmp t)=.func (.func f) #[] us) :
    execOp a.eval { dst,op:=.call { callee:=.value (.tmp t),args:=xs,argTypes:=ats },type:=ty,pos,after,guard }=callFunc f ((#[]++xs.map a.eval)++us):=by
 simp only[execOp,resolve,h];rfl
open Classical in
theorem vV(hE:E.Ok){sl':List (Nat×AV)}{a':Act}{r:AV}{ck':List (Nat×CT)}(h:Fr w0 X0 Bo N ⟨sl',st.ck,st.nx⟩ ρ a w)(ab:∀ b,X0 b->b<w0.heap.size){d d':Option Nat}(hd:∀ t,d'=some t->t<N){c:Call}{ty:TypeId}{pos:String}{af:Array Edge}{g:Option (Nat×Bool)}(hl:∀ x∈gD (.call c),∀ y,lj st.sl x=some y->m ρ (XX X0 ρ st.ck) w y [a'.eval x])
    (Q:oG E st c d=some (st',r,ck',ps)) (hp:eP ps):fD E.P a'.eval ⟨d,.call c,ty,pos,af,g⟩ w (fun v w'=>∃ ρ',Fr w0 X0 Bo N ⟨put sl' d' r,st'.ck,st'.nx⟩ ρ' (a.put d' v) w'):=by
 unfold oG at Q;split at Q
 ·rename_i f as q;have j:∃ vs:List Value,mL ρ (XX X0 ρ st.ck) w as vs/\execOp a'.eval ⟨d,.call c,ty,pos,af,g⟩=callFunc f vs.toArray:=by
   obtain⟨callee,args,aH⟩:=c;have S:args.map a'.eval=(args.toList.map a'.eval).toArray:=by rw[<-Rx,TU]
   unfold xG at q;split at q
   ·rename_i x ac;cases ac;split at q
    ·split at q
     ·rename_i ad U;cases q;have I:kN (fun x=>if x∈args.toList then lj st.sl x else none) args.toList=some as:=by
       rw[<-U]; exact jc fun x C=>by simp[C]
      have j:=kM (ρ:=ρ) (X:=XX X0 ρ st.ck) (w:=w) (a:=a') (fun x y J=>by
       by_cases C:x∈args.toList
       ·exact hl x (by simpa [gD]using C) y (by simpa [C]using J)
       ·simp[C]at J) I
      exact⟨_,j,by rw[UE,S]; simp⟩
     ·cases q
    ·rename_i t;split at q
     ·rename_i f' l av;split at q
      ·rename_i K;split at q
       ·rename_i ad U;cases q;have I:kN (fun x=>if x∈args.toList then lj st.sl x else none) args.toList=some ad:=by
         rw[<-U]; exact jc fun x C=>by simp[C]
        have j:=kM (ρ:=ρ) (X:=XX X0 ρ st.ck) (w:=w) (a:=a') (fun x y J=>by
         by_cases C:x∈args.toList
         ·exact hl x (Qs _ C) y (by simpa [C]using J)
         ·simp[C]at J) I
        obtain⟨us,hv,hm⟩:=hl (.tmp t) Qx _ av;have hv:=(QB hv).1;exact⟨_,Aj j (AY K hm),by rw[sj (h:=hv),S]; simp⟩
       ·cases q
      ·cases q
     ·cases q
    ·cases q
   ·cases q
  obtain⟨vs,j,aw⟩:=j;split at Q
  ·rename_i s hs;have ax:=hE.ms _ (b7 hs);split at Q
   ·rename_i x cs u C;split at Q
    ·rename_i L ae;cases Q;rw[sG]at L;have L:=qK L;obtain⟨A,V⟩:=ax x hp;rw[pX]at ae;have hw:=h.wd ab;obtain⟨ah,ai⟩:=mj C;have aj:∀ c∈cs++u,∃ z,get? st.ck c=some z:=fun c A=>by
      rcases QZ.1 A with A|A
      ·obtain⟨T,l,hm⟩:=ah c A; exact⟨_,hm⟩
      ·exact ai c A
     have ak:∀ c∈cs++u,c<st.nx:=fun c A=>by obtain⟨z,R⟩:=aj c A; exact h.kn _ (b7 R)
     have D:∀(i c:Nat),(cs++u)[i]?=some c->((cs++u).map fun c=>ρ.getD c undef)[i]?=ρ[c]?:=by
      intro i c G;have:=ak c (Ra G);rw[Ro,G,Sp,Qz,Qr (by rw[h.nx]; exact this)];rfl
     have B:((cs++u).map fun c=>ρ.getD c undef).length=(cs++u).length:=Rt ..;generalize ((cs++u).map fun c=>ρ.getD c undef)=ρ0 at *;have ay:(cs++u).length=cs.length+u.length:=QO;have al:∀(i c:Nat),cs[i]?=some c->(cs++u)[i]?=some c:=fun i c A=>by
      have hi:i<cs.length:=by
       rcases QA i cs.length with M|M
       ·exact M
       ·rw[QD M]at A; cases A
      rw[Q0 hi]; exact A
     have an:∀(i c:Nat),u[i]?=some c->(cs++u)[cs.length+i]?=some c:=fun i c A=>by
      rw[QT (by omega),Tk]; exact A
     have W:∀(i c:Nat),cs[i]?=some c->ρ0[0+i]?=ρ[c]?:=fun i c G=>by rw[Q8]; exact D i c (al i c G)
     have Z:∀(i c:Nat),u[i]?=some c->ρ0[cs.length+i]?=ρ[c]?:=fun i c G=>D _ c (an i c G);have inc:∀ b,qZ ρ0 b->∃ x∈st.ck,fk ρ x.1 b:=by
      rintro b ⟨i,hi⟩;have K:i<(cs++u).length:=by
       rcases QA i (cs++u).length with M|M
       ·exact M
       ·exact(kV (by rw[B]; exact M) hi).elim
      obtain⟨k,hk⟩:=iD K;obtain⟨z,R⟩:=aj k (Ra hk);refine⟨_,b7 R,?_⟩;unfold fk at hi ⊢;rw[<-D i k hk]; exact hi
     have aa:cs.length=np s.ko:=(kX (k:=0) (r:=cs.length) (ρ0:=ρ0) (Y:=XX X0 ρ st.ck) hw (fun b h=>h) C j W Z).2.1;have az:u.length=uy s.ko:=(kX (k:=0) (r:=cs.length) (ρ0:=ρ0) (Y:=XX X0 ρ st.ck) hw (fun b h=>h) C j W Z).2.2.1;have aA:o7 s.ko x 0=oF s.ko x 0 cs.length:=by unfold o7; rw[oc,Q8,aa]
     have aB:tm s.ko x 0=jr s.ko x 0 cs.length:=by unfold tm; rw[oc,Q8,aa]
     have ao:x_ s.ko=(cs++u).length:=by unfold x_; rw[oc,ay,aa,az]
     have aC:∀ b,XX (fun b=>XX X0 ρ st.ck b/\¬qZ ρ0 b) ρ0 (o7 s.ko x 0) b->XX X0 ρ st.ck b:=by
      rintro b (O|⟨y,H,O⟩)
      ·exact O.1
      ·obtain⟨z,hz,e⟩:=inc b ⟨y.1,O⟩;exact .inr ⟨z,hz,e⟩
     obtain⟨q1,_,_,q4⟩:=kX (k:=0) (r:=cs.length) (ρ0:=ρ0) (Y:=XX (fun b=>XX X0 ρ st.ck b/\¬qZ ρ0 b) ρ0 (o7 s.ko x 0)) hw aC C j W Z;obtain⟨q5,q6⟩:=iC (l:=s.ko) (d:=x) (k:=0) (r:=cs.length) (by omega);rw[<-aA]at q4 q5 q6;have aq:∀ y∈o7 s.ko x 0,∃ c z,(cs++u)[y.1]?=some c/\get? st.ck c=some z:=by
      intro y H;obtain⟨⟨c,p1,z,p2⟩,_⟩:=q4 y H;refine⟨c,z,?_,p2⟩;rcases p1 with⟨i,p,p'⟩|⟨i,p,p'⟩
      ·rw[p,Q8]; exact al i c p'
      ·rw[p]; exact an i c p'
     have aD:Fr w (fun b=>XX X0 ρ st.ck b/\¬qZ ρ0 b) ρ0 0 ⟨[],o7 s.ko x 0,x_ s.ko⟩ ρ0 gu w:=by
      refine⟨rfl,rfl,Kept.refl w,by rw[B,ao],q5,fun y H=>?_,fun y H b O=>?_,fun y H z hz aE b e1 e2=>?_,fun y H=>(q4 y H).2,fun t y H=>(by cases H),⟨fun b O=>?_,by rw[B,ao]; exact Qu _,fun y H T l e aI=>rfl⟩⟩
      ·have:=q6 y H;show y.1<x_ s.ko;omega
      ·obtain⟨z,hz,e⟩:=inc b ⟨y.1,O⟩;exact⟨(h.bl z hz b e).1,.inr ⟨y.1,O⟩⟩
      ·obtain⟨c,z1,hi,R⟩:=aq y H;obtain⟨c',z2,ar,aF⟩:=aq z hz;unfold fk at e1 e2;rw[D _ _ hi]at e1;rw[D _ _ ar]at e2;refine h.dj _ (b7 R) _ (b7 aF) (fun e=>aE ?_) b e1 e2;have e:c=c':=e;subst e;have K:y.1<(cs++u).length:=by
        rcases QA y.1 (cs++u).length with M|M
        ·exact M
        ·rw[QD M]at hi; cases hi
       exact(VU K L).1 (hi.trans ar.symm)
      ·obtain⟨z,hz,e⟩:=inc b O;exact⟨(h.bl z hz b e).1,fun C=>C.2 O⟩
     have aG:fD E.P a'.eval ⟨d,.call c,ty,pos,af,g⟩ w (fun v w'=>∃ ρ',Fr w (fun b=>XX X0 ρ st.ck b/\¬qZ ρ0 b) ρ0 0 ⟨[],(s.F x).ck,(s.F x).nx⟩ ρ' gu w'/\m ρ' (XX (fun b=>XX X0 ρ st.ck b/\¬qZ ρ0 b) ρ' (s.F x).ck) w' (s.F x).out [v]):=by
      unfold fD;rw[aw,A];have:=V ρ0 _ w _ (fun b O=>hw.lt b O.1) aD (by rw[aB]; exact q1);simpa using this.mono fun e w' ⟨v,ρ',h1,h2,h3⟩=>⟨v,h1,ρ',h2,h3⟩
     refine fD.imp aG fun v w' ⟨ρ',g1,g2⟩=>?_;obtain⟨au,hf⟩:=h.call ab L (fun c A=>by obtain⟨T,l,R⟩:=ah c A; exact⟨T,l,b7 R⟩) (fun c A=>by obtain⟨z,R⟩:=ai c A; exact⟨z,b7 R⟩) B D ae g1 g2 hd;refine⟨au,?_⟩;simp only[oc,wN,pX,sG];exact hf
    ·cases Q
   ·cases Q
  ·cases Q
 ·cases Q
theorem zq{c:Call}{d:Option Nat}{r:AV}{ck':List (Nat×CT)}(b:oG E st c d=some (st',r,ck',ps)):st'.sl=put st.sl d r:=by
 unfold oG at b;split at b
 ·split at b
  ·split at b
   ·split at b
    ·cases b; rfl
    ·cases b
   ·cases b
  ·cases b
 ·cases b
theorem Ay{c:Call}{d:Option Nat}{r:AV}{ck':List (Nat×CT)}(b:oG E st c d=some (st',r,ck',ps)):∀ x∈st'.ck,x∈ck'∨x∈st.ck:=by
 unfold oG at b;split at b
 ·split at b
  ·split at b
   ·split at b
    ·cases b;intro x e;rcases QZ.1 e with e|e
     ·exact .inl e
     ·exact .inr (fb e).1
    ·cases b
   ·cases b
  ·cases b
 ·cases b
theorem zy(p:E.Ok)(h:Fr w0 X0 Bo N st ρ a w)(f:∀ b,X0 b->b<w0.heap.size){d:Option Nat}(q:∀ t,d=some t->t<N){c:Call}(s:∀ x∈gD (.call c),∀ y,lj st.sl x=some y->m ρ (XX X0 ρ st.ck) w y [a.eval x])
    (e:zG E st c d=some (st',ps)) (u:eP ps) {ty:TypeId}{pos:String}{af:Array Edge}{K:Act->World->Prop}{Q:Exit->Act->World->Prop} (z:∀ ρ' a' w',Fr w0 X0 Bo N st' ρ' a' w'->K a' w'):Oper.wp E.P ⟨d,.call c,ty,pos,af,none⟩ a w K Q:=by
 unfold zG at e;split at e
 ·rename_i A r B C j;cases e;have i:=vV (ty:=ty) (pos:=pos) (af:=af) (g:=none) (a':=a) (d':=d) p h f q s j u;unfold Oper.wp;refine i.wp fun v w' ⟨ρ',l⟩=>?_;rw[<-zq j]at l;exact z _ _ _ l
 ·cases e
end
section
variable{E:Env}{w0:World}{X0:Nat->Prop}{Bo:List Value}{N:Nat}{st st':St}{ρ:List Value}{a:Act}{w w':World}{ps:List Prop}{ck:List (Nat×CT)}{nx:Nat}
theorem Fr.xh(h:Fr w0 X0 Bo 0 ⟨[],ck,nx⟩ ρ gu w){ds:List Nat}{new:List (Nat×CT)}{vs:List Value}(B:w'.os=w.os/\w'.tape=w.tape/\w'.output=w.output)(C:w.heap.size<=w'.heap.size)
    (D:∀ b,b<w.heap.size->(¬∃ y∈ck,y.1∈ds/\fk ρ y.1 b)->w'.heap[b]?=w.heap[b]?)
    (Q:(new.map (·.1)).Nodup) (A:∀ x∈new,(x.1∈ds∨nx<=x.1)/\x.1<nx+vs.length)
    (j:∀ x∈new,∀ b,fk (ρ++vs) x.1 b->b<w'.heap.size/\((∃ y∈ck,y.1∈ds/\fk ρ y.1 b)∨w.heap.size<=b))
    (R:∀ x∈new,∀ y∈new,x.1≠y.1->∀ b,fk (ρ++vs) x.1 b->¬fk (ρ++vs) y.1 b)
    (S:∀ x∈new,∀ T l,x.2≠.box T l)
    (U:∀ Y:Nat->Prop,(∀ b,Y b->XX X0 ρ ck b∨w.heap.size<=b)->Ev (XX X0 ρ ck) w w'->∀ x∈new,cm 0 (ρ++vs) Y w' x.1 x.2) :
    Fr w0 X0 Bo 0 ⟨[],new++gw ck ds,nx+vs.length⟩ (ρ++vs) gu w'/\∀{y:AV}{us:List Value},m ρ (XX X0 ρ ck) w y us->m (ρ++vs) (XX X0 (ρ++vs) (new++gw ck ds)) w' y us:=by
 have F:ρ.length=nx:=h.nx;have u:∀ x∈ck,x.1<nx:=h.kn;have g:∀ x∈gw ck ds,fk (ρ++vs) x.1=fk ρ x.1:=fun x c=>l_ (by rw[F]; exact u x (fb c).1);have G:∀ b,XX X0 (ρ++vs) (new++gw ck ds) b->XX X0 ρ ck b∨w.heap.size<=b:=by
  rintro b (i|⟨x,c,i⟩)
  ·exact .inl (.inl i)
  ·rcases QZ.1 c with c|c
   ·rcases(j x c b i).2 with⟨y,f,_,e⟩|e
    ·exact .inl (.inr ⟨y,f,e⟩)
    ·exact .inr e
   ·rw[g x c]at i;exact .inl (.inr ⟨x,(fb c).1,i⟩)
 have V:Ev (XX X0 ρ ck) w w':=⟨C,fun b i P=>D b i fun⟨y,f,_,hi⟩=>P (.inr ⟨y,f,hi⟩)⟩;have H:∀{y:AV}{us:List Value},m ρ (XX X0 ρ ck) w y us->m (ρ++vs) (XX X0 (ρ++vs) (new++gw ck ds)) w' y us:=fun hm=>iI _ (mW hm G V);refine⟨⟨rfl,rfl,⟨B.1.trans h.kp.os,B.2.1.trans h.kp.tape,B.2.2.trans h.kp.output,QL h.kp.size C,fun b i P=>?_⟩,by simp[F],?_,?_,?_,?_,?_,(fun t x c=>by cases c),⟨h.pn.bo,QL h.pn.le (Vg _ _),fun x c T l e W=>?_⟩⟩,H⟩
 ·rw[D b (QI i h.kp.size),h.kp.block b i P];rintro⟨y,f,_,hi⟩;rcases(h.bl y f b hi).2 with K|K
  ·omega
  ·exact P K
 ·simp only[SG];refine VT.2 ⟨Q,(h.nd).sublist n7,fun x c y f e=>?_⟩;subst e;obtain⟨z,L,v⟩:=Rj.1 c;obtain⟨z',Z,p⟩:=Rj.1 f;obtain⟨q,J⟩:=fb Z;rcases(A z L).1 with K|K
  ·exact J (by rw[p,<-v]; exact K)
  ·have:=u z' q;omega
 ·intro x c;rcases QZ.1 c with c|c
  ·exact(A x c).2
  ·exact QI (u x (fb c).1) (Vg _ _)
 ·intro x c b i;rcases QZ.1 c with c|c
  ·obtain⟨g1,g2⟩:=j x c b i;refine⟨g1,?_⟩;rcases g2 with⟨y,f,_,e⟩|e
   ·exact(h.bl y f b e).2
   ·exact .inl (QL h.kp.size e)
  ·rw[g x c]at i;obtain⟨g1,g2⟩:=h.bl x (fb c).1 b i;exact⟨QI g1 C,g2⟩
 ·have s:∀ x∈new,∀ y∈gw ck ds,∀ b,fk (ρ++vs) x.1 b->fk (ρ++vs) y.1 b->False:=by
    intro x c y f b v p;rw[g y f]at p;obtain⟨q,J⟩:=fb f;rcases(j x c b v).2 with⟨z,L,I,e⟩|e
    ·exact h.dj z L y q (fun M=>J (by rw[<-M]; exact I)) b e p
    ·have:=(h.bl y q b p).1; omega
  intro x c y f O b v p;rcases QZ.1 c with c|c<;>rcases QZ.1 f with f|f
  ·exact R x c y f O b v p
  ·exact s x c y f b v p
  ·exact s y f x c b p v
  ·rw[g x c]at v;rw[g y f]at p;exact h.dj x (fb c).1 y (fb f).1 O b v p
 ·intro x c;rcases QZ.1 c with c|c
  ·exact U _ G V x c
  ·obtain⟨q,J⟩:=fb c;refine tD _ (kq (h.cs x q) G V fun b e=>D b (h.bl x q b e).1 ?_);rintro⟨z,L,I,M⟩;exact h.dj z L x q (fun M=>J (by rw[<-M]; exact I)) b M e
 ·rcases QZ.1 c with c|c
  ·exact absurd e (S x c T l)
  ·obtain⟨q,J⟩:=fb c;rw[Q0 (by rw[F]; exact u x q)];exact h.pn.pn x q T l e W
theorem qH{vs:List Value}(b:ρ.length=nx)(k:Nat):(ρ++vs)[nx+k]?=vs[k]?:=by
 rw[QT (by omega),b,Tk]
theorem mf{v:Value}(c:w.grownBy w' (fa v)){b:Nat}(f:b<w.heap.size)(g:fa v≠some b):w'.heap[b]?=w.heap[b]?:=c.block b f fun e=>g e.symm
theorem Fr.inner(h:Fr w0 X0 Bo 0 ⟨[],ck,nx⟩ ρ gu w){d c i:Nat}{T T2:TypeId}{o:Bool}{t:Ty}{ll:List (List t.den)}{Q:List t.den}(hg:get? ck d=some (.gv T t ll))(hc:get? ck c=some (.eW T2 o d none))
    {us:Array Value}{v v':Value}{ys:List Value} (M:ρ[d]?=some (.tuple us)) (hi:us.toList[i]?=some v) (J:w.grownBy w' (fa v)) (hv:∀ b,fa v'=some b->fa v=some b∨w.heap.size<=b)
    (ho:w'.ownsRow 0 T t.size v' (ll.getD i []++Q).length ys) (h1:∀ u∈ys,u.oneCell'=true) (hr:∀ j x,(ll.getD i []++Q)[j]?=some x->rep t (XX X0 ρ ck) w ((ys.drop (j*t.size)).take t.size) x) :
    ∃ ρ',Fr w0 X0 Bo 0 ⟨[],(nx,.gv T t (ll.set i (ll.getD i []++Q)))::(c,.eW T2 o nx (some i))::gw ck [d,c],nx+1⟩ ρ' gu w' /\
     (∀{y:AV}{us:List Value},m ρ (XX X0 ρ ck) w y us->m ρ' (XX X0 ρ' ((nx,.gv T t (ll.set i (ll.getD i []++Q)))::(c,.eW T2 o nx (some i))::gw ck [d,c])) w' y us) /\
     ∃ R,ρ'[nx]?=some (.tuple R)/\R.toList[i]?=some v':=by
 have q:=b7 hg;have s:=b7 hc;have aa:ρ.length=nx:=h.nx;have O:d≠c:=by
  intro e;rw[e,hc]at hg;cases hg
 have H:i<us.toList.length:=by
  rcases QA i us.toList.length with h'|h'
  ·exact h'
  ·rw[QD h']at hi; cases hi
 have ab:=h.cs _ q;have ac:=h.cs _ s;obtain⟨ad,k1,k2,k3,k4⟩:=ab;rw[M]at k1;cases k1;obtain⟨vo,xs,ad,g1,g2,g3,g4,g5⟩:=ac;rw[M]at g2;cases g2;have S:∀ b,fa v=some b->fk ρ d b:=fun b f=>fj M hi f;have U:∀ b,b<w.heap.size->¬fk ρ d b->w'.heap[b]?=w.heap[b]?:=fun b f hn=>mf J f fun e=>hn (S b e);have p:=qH (vs:=[Value.tuple (us.toList.set i v').toArray]) aa 0;rw[Se]at p;have p:(ρ++[Value.tuple (us.toList.set i v').toArray])[nx]?=some (.tuple (us.toList.set i v').toArray):=p;have V:(ρ++[Value.tuple (us.toList.set i v').toArray])[c]?=some vo:=ap g1;have K:∀ b,fk (ρ++[Value.tuple (us.toList.set i v').toArray]) nx b->fa v'=some b∨fk ρ d b:=by
  intro b f;rw[gi p]at f;obtain⟨u,z,e⟩:=f;simp only[SF]at z;rcases Td z with z|rfl
  ·rw[gi M]; exact .inr ⟨u,z,e⟩
  ·exact .inl e
 have F:fk (ρ++[Value.tuple (us.toList.set i v').toArray]) c=fk ρ c:=by rw[gi V,gi g1]
 have W:∀ b,fa v'=some b->b<w'.heap.size:=by
  intro b e;rcases ho.2 with⟨rfl,_⟩|⟨g,cap,ae,rfl,_,hh,_⟩
  ·cases e
  ·cases e; exact b9 hh
 have Z:∀ b,fa v'=some b->fk ρ d b∨w.heap.size<=b:=fun b e=>(hv b e).imp (S b) id;have G:∀ b,fk (ρ++[Value.tuple (us.toList.set i v').toArray]) nx b->fk ρ c b->False:=by
  intro b h1 P;have h3:=(h.bl _ s b P).1;rcases K b h1 with e|e
  ·rcases Z b e with e|e
   ·exact h.dj _ q _ s O b e P
   ·omega
  ·exact h.dj _ q _ s O b e P
 obtain⟨q1,q2⟩:=h.xh (ds:=[d,c]) (new:=[(nx,.gv T t (ll.set i (ll.getD i []++Q))),(c,.eW T2 o nx (some i))]) (vs:=[.tuple (us.toList.set i v').toArray]) (w':=w') ⟨J.os,J.tape,J.output⟩ J.size
  (fun b f hn=>U b f fun e=>hn ⟨_,q,by simp,e⟩) (by
   have:c<nx:=h.kn _ s;simp; omega) (by
   intro x C;have:=h.kn _ s;simp only[Qv,QW,RV]at C;rcases C with rfl|rfl
   ·exact⟨.inr (Qu _),by simp⟩
   ·exact⟨.inl (by simp),by simp; exact Uz this⟩) (by
   intro x C b f;simp only[Qv,QW,RV]at C;rcases C with rfl|rfl
   ·have key:fk ρ d b->b<w'.heap.size/\((∃ y∈ck,y.1∈[d,c]/\fk ρ y.1 b)∨w.heap.size<=b):=fun e=>⟨QI (h.bl _ q b e).1 J.size,.inl ⟨_,q,by simp,e⟩⟩;rcases K b f with e|e
    ·rcases Z b e with e'|e'
     ·exact key e'
     ·exact⟨W b e,.inr e'⟩
    ·exact key e
   ·rw[F]at f;exact⟨QI (h.bl _ s b f).1 J.size,.inl ⟨_,s,by simp,f⟩⟩) (by
   intro x C y hy A b h1 P;simp only[Qv,QW,RV]at C hy;rcases C with rfl|rfl<;>rcases hy with rfl|rfl
   ·exact A rfl
   ·rw[F]at P; exact G b h1 P
   ·rw[F]at h1; exact G b P h1
   ·exact A rfl) (by
   intro x C T l e;simp only[Qv,QW,RV]at C;rcases C with rfl|rfl<;>cases e) (by
   intro Y hY hE x C;simp only[Qv,QW,RV]at C;rcases C with rfl|rfl
   ·refine⟨_,p,by simp[k2],fun j u l z hl=>?_,fun j j' u u' z B A b f I=>?_⟩
    ·simp only[SF]at z;by_cases D:j=i
     ·subst D;rw[Ru H]at z;rw[Ru (by omega)]at hl;cases z;cases hl;exact⟨ys,ho,h1,fun i x C=>lE (hr i x C) hY hE⟩
     ·rw[Rm (RN D)]at z hl;refine rP (k3 j u l z hl) hY hE fun b f=>?_;refine mf J (h.bl _ q b (fj M z f)).1 fun e=>?_;exact k4 j i u v z hi D b f e
    ·simp only[SF]at z B;by_cases D:j=i
     ·subst D;rw[Ru H]at z;rw[Rm A]at B;cases z;rcases hv b f with e|e
      ·exact k4 _ _ _ _ hi B A b e I
      ·have:=(h.bl _ q b (fj M B I)).1; omega
     ·rw[Rm (RN D)]at z;by_cases L:j'=i
      ·subst L;rw[Ru H]at B;cases B;rcases hv b I with e|e
       ·exact k4 _ _ _ _ hi z (RN D) b e f
       ·have:=(h.bl _ q b (fj M z f)).1; omega
      ·rw[Rm (RN L)]at B;exact k4 _ _ _ _ z B A b f I
   ·refine⟨vo,xs,_,V,p,?_,g4,fun j hj A=>?_⟩
    ·simp only[SF,Sb];exact gl g3 fun b f=>U b (h.bl _ s b (fh g1 f)).1 fun e=>h.dj _ q _ s O b e (fh g1 f)
    ·simp only[SF,Sb]at hj ⊢;rw[Rm (fun e=>A (by rw[e]))];exact g5 j hj (by simp))
 refine⟨_,q1,fun hm=>q2 hm,_,p,?_⟩;simp only[SF];rw[Ru H]
theorem Fr.yx(h:Fr w0 X0 Bo 0 ⟨[],ck,nx⟩ ρ gu w){ds:List Nat}{us:List Value}{T Ti:TypeId}{o:Bool}{t:Ty}{ll:List (List t.den)}{v':Value}(L:w'.os=w.os/\w'.tape=w.tape/\w'.output=w.output)(C:w.heap.size<=w'.heap.size)
    (M:∀ b,b<w.heap.size->(¬∃ y∈ck,y.1∈ds/\fk ρ y.1 b)->w'.heap[b]?=w.heap[b]?) (O:w'.ownsRow 0 T 1 v' us.length us) (h1:∀ u∈us,u.oneCell'=true) (D:us.length=ll.length)
    (c:∀(i:Nat) (u:Value) (l:List t.den),us[i]?=some u->ll[i]?=some l->Rw 0 (XX X0 ρ ck) w Ti t u l/\∀ b,fa u=some b->(∃ y∈ck,y.1∈ds/\fk ρ y.1 b)/\w'.heap[b]?=w.heap[b]?)
    (z:∀(i j:Nat) (u U:Value),us[i]?=some u->us[j]?=some U->i≠j->∀ b,fa u=some b->fa U≠some b)
    (P:∀ b,fa v'=some b->(∃ y∈ck,y.1∈ds/\fk ρ y.1 b)∨w.heap.size<=b) (F:∀ u∈us,∀ b,fa u=some b->fa v'≠some b) :
    ∃ ρ',Fr w0 X0 Bo 0 ⟨[],(nx,.eW T o (nx+1) none)::(nx+1,.gv Ti t ll)::gw ck ds,nx+2⟩ ρ' gu w' /\
     (∀{y:AV}{us:List Value},m ρ (XX X0 ρ ck) w y us->m ρ' (XX X0 ρ' ((nx,.eW T o (nx+1) none)::(nx+1,.gv Ti t ll)::gw ck ds)) w' y us)/\ρ'[nx]?=some v':=by
 have G:ρ.length=nx:=h.nx;have A:(ρ++[v',Value.tuple us.toArray])[nx]?=some v':=by
  have:=qH (vs:=[v',Value.tuple us.toArray]) G 0;rwa [Se]at this
 have B:(ρ++[v',Value.tuple us.toArray])[nx+1]?=some (.tuple us.toArray):=qH (vs:=[v',Value.tuple us.toArray]) G 1;have q:∀ b,fk (ρ++[v',Value.tuple us.toArray]) nx b->fa v'=some b:=fun b s=>mK O (by rw[<-gi A]; exact s);have v:∀ b,fk (ρ++[v',Value.tuple us.toArray]) (nx+1) b->∃ u∈us,fa u=some b:=by
  intro b s;rw[gi B]at s;obtain⟨u,p,e⟩:=s;exact⟨u,p,e⟩
 have Q:∀ u∈us,∀ b,fa u=some b->∃ y∈ck,y.1∈ds/\fk ρ y.1 b:=by
  intro u p b s;obtain⟨i,hi⟩:=RR.1 p;have aa:i<us.length:=by
   rcases QA i us.length with R|R
   ·exact R
   ·rw[QD R]at hi; cases hi
  exact((c i u _ hi (Qr (by omega))).2 b s).1
 have H:∀ b,fa v'=some b->b<w'.heap.size:=by
  intro b e;rcases O.2 with⟨rfl,_⟩|⟨g,cap,ab,rfl,_,hh,_⟩
  ·cases e
  ·cases e; exact b9 hh
 obtain⟨q1,q2⟩:=h.xh (ds:=ds) (new:=[(nx,.eW T o (nx+1) none),(nx+1,.gv Ti t ll)]) (vs:=[v',.tuple us.toArray]) (w':=w') L C M (by simp) (by
     intro x f;simp only[Qv,QW,RV]at f;rcases f with rfl|rfl
     ·exact⟨.inr (Qu _),by simp⟩
     ·exact⟨.inr (Nat.le_succ _),by simp⟩) (by
     intro x f b s;simp only[Qv,QW,RV]at f;rcases f with rfl|rfl
     ·have:=q b s;exact⟨H b this,P b this⟩
     ·obtain⟨u,p,e⟩:=v b s;obtain⟨y,I,S,J⟩:=Q u p b e;exact⟨QI (h.bl y I b J).1 C,.inl ⟨y,I,S,J⟩⟩) (by
     intro x f y I K b V W;simp only[Qv,QW,RV]at f I;rcases f with rfl|rfl<;>rcases I with rfl|rfl
     ·exact K rfl
     ·obtain⟨u,p,e⟩:=v b W;exact F u p b e (q b V)
     ·obtain⟨u,p,e⟩:=v b V;exact F u p b e (q b W)
     ·exact K rfl) (by
     intro x f T l e;simp only[Qv,QW,RV]at f;rcases f with rfl|rfl<;>cases e) (by
     intro Y hY hE x f;simp only[Qv,QW,RV]at f;rcases f with rfl|rfl
     ·exact⟨v',us,us.toArray,A,B,O,h1,fun j _ _=>rfl⟩
     ·exact⟨us.toArray,B,D,fun i u l p Z=>rP (c i u l p Z).1 hY hE fun b s=>((c i u l p Z).2 b s).2,z⟩)
 exact⟨_,q1,fun hm=>q2 hm,A⟩
theorem Fr.aa3{P:Program}(h:Fr w0 X0 Bo 0 ⟨[],ck,nx⟩ ρ gu w){d c n j bo:Nat}{T T2 Ts:TypeId}{e:TE}(hf:b_ P Ts e)(es:e.ty.size=1)(eg:e.ty.isAgg=false){o:Bool}{hl:Option Nat}{t:Ty}{ll:List (List t.den)}{l:List t.den}(hg:get? ck d=some (.gv T t ll))(S:get? ck c=some (.eW T2 o d hl))(U:get? ck n=some (.row T t l))
    {vo q:Value} (K:ρ[c]?=some vo) (D:ρ[n]?=some q) (g:fa vo=some bo) (O:q.oneCell'=true) (hj:j<ll.length) (ah:∀ i,hl=some i->i=j) :
    ∃ w' ρ',(storeVar Ts ⟨bo,j,none⟩ q).run P w=.ok () w'/\Fr w0 X0 Bo 0 ⟨[],(nx,.gv T t (ll.set j l))::(c,.eW T2 o nx none)::gw ck [d,c,n],nx+1⟩ ρ' gu w' /\
     (∀{y:AV}{us:List Value},m ρ (XX X0 ρ ck) w y us->m ρ' (XX X0 ρ' ((nx,.gv T t (ll.set j l))::(c,.eW T2 o nx none)::gw ck [d,c,n])) w' y us):=by
 have s:=b7 hg;have f:=b7 S;have v:=b7 U;have ai:ρ.length=nx:=h.nx;have aa:d≠c:=by intro e; rw[e,S]at hg; cases hg
 have ab:d≠n:=by intro e; rw[e,U]at hg; cases hg
 have ac:c≠n:=by intro e; rw[e,U]at S; cases S
 obtain⟨us,hd,k2,k3,k4⟩:=h.cs _ s;obtain⟨ak,xs,al,g1,g2,g3,g4,g5⟩:=h.cs _ f;rw[K]at g1;cases g1;rw[hd]at g2;cases g2;obtain⟨an,ys,f1,f2,f3,f4⟩:=h.cs _ v;rw[D]at f1;cases f1;have F:j<us.toList.length:=by omega
 obtain⟨w',s1,s2,s3,s4,s5,s6⟩:=eN (P:=P) hf (by rw[es]; exact g3) F g (cs:=[q]) (by rw[es]; rfl) (by intro c S; rw[RH]at S; rw[S]; exact O);rw[es]at s1 s5 s6;have ad:j<xs.length:=by omega
 rw[tV ad]at s5;have aj:e.ty.wrap [q]=q:=by simp[Ty.wrap,eg]
 rw[aj,Ry]at s1;have ae:fk ρ c bo:=fh K g;have V:∀ b,¬fk ρ c b->w'.heap[b]?=w.heap[b]?:=fun b U=>s2 b fun e=>U (by rw[e]; exact ae);have G:(ρ++[Value.tuple (us.toList.set j q).toArray])[nx]?=some (.tuple (us.toList.set j q).toArray):=by
  have:=qH (vs:=[Value.tuple (us.toList.set j q).toArray]) ai 0;rwa [Se]at this
 have af:(ρ++[Value.tuple (us.toList.set j q).toArray])[c]?=some vo:=ap K;have Q:∀ b,fk (ρ++[Value.tuple (us.toList.set j q).toArray]) nx b->fk ρ n b∨fk ρ d b:=by
  intro b g;rw[gi G]at g;obtain⟨u,p,e⟩:=g;simp only[SF]at p;rcases Td p with p|rfl
  ·rw[gi hd]; exact .inr ⟨u,p,e⟩
  ·exact .inl (fh D e)
 have H:fk (ρ++[Value.tuple (us.toList.set j q).toArray]) c=fk ρ c:=by rw[gi af,gi K]
 have I:∀ b,fk (ρ++[Value.tuple (us.toList.set j q).toArray]) nx b->fk ρ c b->False:=by
  intro b h1 Z;rcases Q b h1 with e|e
  ·exact h.dj _ v _ f (RN ac) b e Z
  ·exact h.dj _ s _ f aa b e Z
 obtain⟨q1,q2⟩:=h.xh (ds:=[d,c,n]) (new:=[(nx,.gv T t (ll.set j l)),(c,.eW T2 o nx none)]) (vs:=[.tuple (us.toList.set j q).toArray]) (w':=w') s4 (by rw[s3]; exact Qu _)
  (fun b g U=>V b fun e=>U ⟨_,f,by simp,e⟩) (by
   have:c<nx:=h.kn _ f;simp; omega) (by
   intro x B;have:=h.kn _ f;simp only[Qv,QW,RV]at B;rcases B with rfl|rfl
   ·exact⟨.inr (Qu _),by simp⟩
   ·exact⟨.inl (by simp),by simp; exact Uz this⟩) (by
   intro x B b g;simp only[Qv,QW,RV]at B;rcases B with rfl|rfl
   ·rcases Q b g with e|e
    ·exact⟨by rw[s3]; exact(h.bl _ v b e).1,.inl ⟨_,v,by simp,e⟩⟩
    ·exact⟨by rw[s3]; exact(h.bl _ s b e).1,.inl ⟨_,s,by simp,e⟩⟩
   ·rw[H]at g;exact⟨by rw[s3]; exact(h.bl _ f b g).1,.inl ⟨_,f,by simp,g⟩⟩) (by
   intro x B y hy C b h1 Z;simp only[Qv,QW,RV]at B hy;rcases B with rfl|rfl<;>rcases hy with rfl|rfl
   ·exact C rfl
   ·rw[H]at Z; exact I b h1 Z
   ·rw[H]at h1; exact I b Z h1
   ·exact C rfl) (by
   intro x B T l e;simp only[Qv,QW,RV]at B;rcases B with rfl|rfl<;>cases e) (by
   intro Y hY hE x B;simp only[Qv,QW,RV]at B;rcases B with rfl|rfl
   ·refine⟨_,G,by simp[k2],fun i u l' p L=>?_,fun i i' u u' p A C b g W=>?_⟩
    ·simp only[SF]at p;by_cases J:i=j
     ·subst J;rw[Ru F]at p;rw[Ru hj]at L;cases p;cases L;exact rP ⟨ys,f2,f3,f4⟩ hY hE fun b g=>V b fun e=>h.dj _ v _ f (RN ac) b (fh D g) e
     ·rw[Rm (RN J)]at p L;exact rP (k3 i u l' p L) hY hE fun b g=>V b fun e=>h.dj _ s _ f aa b (fj hd p g) e
    ·simp only[SF]at p A;by_cases J:i=j
     ·subst J;rw[Ru F]at p;rw[Rm C]at A;cases p;exact h.dj _ v _ s (RN ab) b (fh D g) (fj hd A W)
     ·rw[Rm (RN J)]at p;by_cases R:i'=j
      ·subst R;rw[Ru F]at A;cases A;exact h.dj _ v _ s (RN ab) b (fh D W) (fj hd p g)
      ·rw[Rm (RN R)]at A;exact k4 _ _ _ _ p A C b g W
   ·refine⟨vo,xs.set j q,_,af,G,by simpa using s5,fun z hz=>?_,fun i hi C=>?_⟩
    ·rcases Td hz with hz|rfl
     ·exact g4 z hz
     ·exact O
    ·simp only[SF,Sb]at hi ⊢;by_cases M:i=j
     ·subst M;rw[Ru ad,Ru F]
     ·rw[Rm (RN M),Rm (RN M)];exact g5 i hi fun e=>M (ah i e))
 exact⟨w',_,s1,q1,fun hm=>q2 hm⟩
def KC:Nat->List (AV×Value)->List (Nat×AV)
 | _,[]=>[]
 | k,p::l=>(k,p.1)::KC (k+1) l
theorem zw{t:Nat}{x:AV}:∀{l:List (AV×Value)}{k:Nat},get? (KC k l) t=some x->∃ i p,l[i]?=some p/\t=k+i/\x=p.1
 | [],k,h=>by cases h
 | p::l,k,h=>by
  simp only[KC,get?]at h;split at h
  ·rename_i e;cases h;exact⟨0,p,rfl,(fO e).symm,rfl⟩
  ·obtain⟨i,q,b,f,c⟩:=zw h;exact⟨i+1,q,b,by omega,c⟩
theorem zx:∀{l:List (AV×Value)}{k i:Nat}{p:AV×Value},l[i]?=some p->get? (KC k l) (k+i)=some p.1
 | q::l,k,0,p,h=>by
  have:q=p:=by simpa using h
  subst this;simp[KC,get?]
 | q::l,k,i+1,p,h=>by
  have b:Nat.beq k (k+(i+1))=false:=by
   cases b:Nat.beq k (k+(i+1))with
   | false=>rfl
   | true=>have:=fO b; omega
  simp only[KC,get?,b];have:=zx (l:=l) (k:=k+1) (i:=i) (p:=p) (by simpa using h);rwa [show k+1+i=k+(i+1) by omega]at this
def we(w0:World)(X0:Nat->Prop)(Bo:List Value)(ck:List (Nat×CT))(nx:Nat)(w:World)(b:List (AV×Value)):Prop :=
 ∃ ρ,Fr w0 X0 Bo 0 ⟨[],ck,nx⟩ ρ gu w/\∀ p∈b,m ρ (XX X0 ρ ck) w p.1 [p.2]
def yL(b:List (AV×Value)):Act:={ tmps:=(b.map (·.2)++[undef]).toArray,defers:=[] }
theorem jR{ck:List (Nat×CT)}{nx:Nat}{b:List (AV×Value)}(h:Fr w0 X0 Bo 0 ⟨[],ck,nx⟩ ρ gu w)(g:∀ p∈b,m ρ (XX X0 ρ ck) w p.1 [p.2]):Fr w0 X0 Bo (b.length+1) ⟨KC 0 b,ck,nx⟩ ρ (yL b) w:=by
 refine⟨rfl,by simp[yL],h.kp,h.nx,h.nd,h.kn,h.bl,h.dj,h.cs,fun t x j=>?_,h.pn⟩;obtain⟨i,p,c,l,rfl⟩:=zw j;have f:i<b.length:=by
  rcases QA i b.length with h|h
  ·exact h
  ·rw[QD h]at c; cases c
 have:gt (yL b) t=p.2:=by
  rw[l,Q8];have e:(b.map (·.2)++[undef])[i]?=some p.2:=by rw[Q0 (by simpa using f)]; simp[c]
  simp only[gt,yL,Sa,WN,e];rfl
 rw[this];exact g p (Ra c)
theorem jx{ck:List (Nat×CT)}{nx:Nat}{a:Act}{sl:List (Nat×AV)}(h:Fr w0 X0 Bo N ⟨sl,ck,nx⟩ ρ a w):Fr w0 X0 Bo 0 ⟨[],ck,nx⟩ ρ gu w :=
 ⟨rfl,rfl,h.kp,h.nx,h.nd,h.kn,h.bl,h.dj,h.cs,(fun t x b=>by cases b),h.pn⟩
theorem Ix{b:List (AV×Value)}{i:Nat}{p:AV×Value}(h:b[i]?=some p)(v:Value):gt ((yL b).put (some b.length) v) i=p.2:=by
 have c:i<b.length:=by
  rcases QA i b.length with f|f
  ·exact f
  ·rw[QD f]at h; cases h
 rw[eL (fun e=>Nat.ne_of_gt c (Rk e))];have e:(b.map (·.2)++[undef])[i]?=some p.2:=by rw[Q0 (by simpa using c)]; simp[h]
 simp only[gt,yL,Sa,WN,e];rfl
theorem je{ck:List (Nat×CT)}{nx:Nat}{b:List (AV×Value)}{r:AV}{v:Value}(h:Fr w0 X0 Bo (b.length+1) ⟨put (KC 0 b) (some b.length) r,ck,nx⟩ ρ ((yL b).put (some b.length) v) w):we w0 X0 Bo ck nx w ((r,v)::b):=by
 refine⟨ρ,jx h,fun p c=>?_⟩;rcases Qv.1 c with rfl|c
 ·have:=h.sl b.length r (by simp[put,get?]);rwa [fH (by simp[yL])]at this
 ·obtain⟨i,hi⟩:=RR.1 c;have g:i<b.length:=by
   rcases QA i b.length with e|e
   ·exact e
   ·rw[QD e]at hi; cases hi
  have f:Nat.beq b.length i=false:=by
   cases f:Nat.beq b.length i with
   | false=>rfl
   | true=>have:=fO f; omega
  have:=h.sl i p.1 (by
   simp only[put,get?,f];have:=zx (k:=0) hi;rwa [Q8]at this)
  rwa [Ix hi]at this
theorem sy{B:Nat}{T:TypeId}{s n:Nat}{v:Value}{xs:List Value}(h:w.ownsRow B T s v n xs):Aq v n:=by
 rcases h.2 with⟨e,b⟩|⟨g,cap,_,e,_⟩
 ·exact .inl ⟨e,b⟩
 ·exact .inr ⟨g,cap,e⟩
theorem ja{a':Act}{T ty:TypeId}{pos:String}{af:Array Edge}{d:Option Nat}{o1 o2:Operand}{v':Value}(b:(Builtin.append_ #[T,T] ty #[a'.eval o1,a'.eval o2]).run E.P w=.ok v' w') :
    (execOp a'.eval ⟨d,.call { callee:=.builtin .append,args:=#[o1,o2],argTypes:=#[T,T] },ty,pos,af,none⟩).run E.P w=.ok (.value v') w':=by
 simp[execOp,resolve,invoke,builtin,b]
theorem aaG{B:Nat}{X:Nat->Prop}{d k:Nat}{T:TypeId}{t:Ty}{ll:List (List t.den)}{us:Array Value}{v:Value}(h:cm B ρ X w d (.gv T t ll))(e:ρ[d]?=some (.tuple us))(hk:us.toList[k]?=some v) :
    k<ll.length/\ll[k]?=some (ll.getD k [])/\Rw B X w T t v (ll.getD k []):=by
 obtain⟨c,_⟩:=lh h (Y:=fun _=>False) (fun b h=>h.elim) (fun b _ h=>h) e hk;obtain⟨i,f,l,j,m⟩:=h;rw[e]at f;cases f;have g:ll[k]?=some (ll.getD k []):=by rw[Qz,Qr c]; rfl
 exact⟨c,g,j k v _ hk g⟩
theorem kP{B:Nat}{X:Nat->Prop}{c d:Nat}{T:TypeId}{o:Bool}(h:cm B ρ X w c (.eW T o d none)):∃ v us,ρ[c]?=some v/\ρ[d]?=some (.tuple us)/\w.ownsRow B T 1 v us.toList.length us.toList/\∀ u∈us.toList,u.oneCell'=true:=by
 obtain⟨v,xs,us,f,g,e,i,l⟩:=h;have m:xs=us.toList:=by
  have p:=e.1;apply Ud;intro j;rcases QA j us.toList.length with b|b
  ·exact l j b (by simp)
  ·rw[QD (by omega),QD b]
 subst m;exact⟨v,us,f,g,e,i⟩
theorem J'(hE:E.Ok){a':Act}(h:Fr w0 X0 Bo 0 ⟨[],st.ck,st.nx⟩ ρ gu w)(R:∀ b,X0 b->b<w0.heap.size){T:TypeId}{d i:Nat}{y r:AV}{tc:List Nat}{dst:Option Nat}{ty:TypeId}{pos:String}{af:Array Edge}{o1 o2:Operand}(F:m ρ (XX X0 ρ st.ck) w (.jM d i) [a'.eval o1])(hy:m ρ (XX X0 ρ st.ck) w y [a'.eval o2])
    (g:vB E st T d i y dst=some (st',r,tc,ps)) (G:eP ps) {Fs:List (AV×Value)} (hF:∀ p∈Fs,m ρ (XX X0 ρ st.ck) w p.1 [p.2]) :
    (∃ v w',(execOp a'.eval ⟨dst,.call { callee:=.builtin .append,args:=#[o1,o2],argTypes:=#[T,T] },ty,pos,af,none⟩).run E.P w=.ok (.value v) w'/\we w0 X0 Bo st'.ck st'.nx w' ((r,v)::Fs))/\st'.sl=put st.sl dst r/\∀ x∈st'.ck,x.1 ∉ tc->x∈st.ck:=by
 unfold vB at g;split at g
 ·rename_i u hu;obtain⟨e,S,h1,h2,h3,U⟩:=fF hu;simp only[h1,h3]at g;have hw:Wd 0 ρ (XX X0 ρ st.ck) st.ck w:=h.wd R;split at g;rotate_left
  ·cases g
  rename_i l;have l:=QS l;have I:∀ n:Nat,n*S.bytes<=140737488355328->n<=maxLen:=by
   intro n M;have:n*1<=n*S.bytes:=Uq _ l;simp only[maxLen]; omega
  split at g
  ·rename_i J e1;have A:=pz hw e1 hy;have V:=eU hE h1 h2;have B:∃ f:List Value,f.length=J.length*u.size/\(∀ c∈f,c.oneCell'=true)/\(∀(i:Nat) (z:u.den),J[i]?=some z->rep u (XX X0 ρ st.ck) w ((f.drop (i*u.size)).take u.size) z) /\
       ((a'.eval o2=.slice none 0 0/\J.length=0)∨∃ O cap,a'.eval o2=.slice (some O) J.length cap/\∀(j:Nat) (c:Value),f[j]?=some c->w.cell? (O.add j)=some c):=by
    rcases A with⟨H,q⟩|⟨O,cap,f,H,q,Q,W,q5⟩
    ·exact⟨[],by simp[q],by simp,by simp[q],.inl ⟨H,by simp[q]⟩⟩
    ·exact⟨f,q,W,q5,.inr ⟨O,cap,H,Q⟩⟩
   obtain⟨f,n1,n2,n3,n4⟩:=B;have hf:=hE.fact h3;split at g
   ·rename_i T' t ll hg;split at g
    ·rename_i m' e2;have Z:=gF e2;cases Z;have aa:J=m':=gn e2;subst aa;split at g
     ·rename_i c ae;split at g
      ·rename_i T2 o d2 C;split at g
       ·rename_i D;have D:=QR D;subst D;cases g;obtain⟨us,v,u1,u2,u3,u4⟩:=F;have u4:=(QB u4).1;obtain⟨b1,b2,xs,b3,b4,b5⟩:=aaG (hw.cs _ (b7 hg)) u1 u2;have K:=G.1;have hT:T'=e.elem:=G.2.1;subst hT;have ab:w.ownsRow 0 e.elem S.ty.size v (ll.getD i []).length xs:=by rw[U]; exact b3
        obtain⟨v',w',H,q,Q,W⟩:=gg (w:=w) (ty:=ty) V hf (QE _) (size_pos _) ab (by rw[U]; exact n1) n2 n4 (I _ K) K;rw[U]at q;rw[Fm (gb b3)]at Q;have s:∀ c∈xs++f,c.oneCell'=true:=fun c C=>by
         rcases QZ.1 C with C|C
         ·exact b4 c C
         ·exact n2 c C
        obtain⟨ρ',f1,f2,ac,f3,f4⟩:=h.inner hg C u1 u2 Q W (by rw[QO]; exact q) s (j_ b3.1 b5 n3);rw[<-u4]at H;have L:v'.oneCell'=true:=by obtain⟨_,_,_,rfl⟩:=gb q; rfl
        refine⟨⟨v',w',ja H,ρ',f1,fun p G=>?_⟩,rfl,fun x F M=>?_⟩
        ·rcases Qv.1 G with rfl|G
         ·exact⟨ac,v',f3,f4,L,rfl⟩
         ·exact f2 (hF p G)
        ·simp only[Qv]at F M;rcases F with rfl|rfl|F
         ·exact absurd (.inl rfl) M
         ·exact absurd (.inr (.inl rfl)) M
         ·exact(fb F).1
       ·cases g
      ·cases g
     ·cases g
    ·cases g
   ·cases g
  ·cases g
 ·cases g
theorem Kr(hE:E.Ok){a':Act}(h:Fr w0 X0 Bo 0 ⟨[],st.ck,st.nx⟩ ρ gu w)(av:∀ b,X0 b->b<w0.heap.size){T:TypeId}{k:Nat}{x r:AV}{tc:List Nat}{dst:Option Nat}{ty:TypeId}{pos:String}{af:Array Edge}{o1 o2:Operand}(L:m ρ (XX X0 ρ st.ck) w x [a'.eval o1]){nn:Nat}(hy:m ρ (XX X0 ρ st.ck) w (.iE k nn) [a'.eval o2])
    (B:uP E st T x k dst=some (st',r,tc,ps)) (hp:eP ps) {Fs:List (AV×Value)} (hF:∀ p∈Fs,m ρ (XX X0 ρ st.ck) w p.1 [p.2]) :
    (∃ v w',(execOp a'.eval ⟨dst,.call { callee:=.builtin .append,args:=#[o1,o2],argTypes:=#[T,T] },ty,pos,af,none⟩).run E.P w=.ok (.value v) w'/\we w0 X0 Bo st'.ck st'.nx w' ((r,v)::Fs))/\st'.sl=put st.sl dst r/\∀ x∈st'.ck,x.1 ∉ tc->x∈st.ck:=by
 unfold uP at B;split at B
 ·rename_i u f;obtain⟨e,e',h1,h2,h3,h4⟩:=fF f;simp only[h1,h3]at B;have hw:Wd 0 ρ (XX X0 ρ st.ck) st.ck w:=h.wd av;have an:=eU hE h1 h2;have hf:=hE.fact h3;split at B
  ·rename_i O al;have O:=QS O;have al:=QR al;have es:e'.ty.size=1:=by rw[h4]; exact al
   have ae:∀ n:Nat,n*e'.bytes<=140737488355328->n<=maxLen:=by
    intro n H;have:n*1<=n*e'.bytes:=Uq _ O;simp only[maxLen]; omega
   split at B
   ·rename_i T2 aw d2 Q;split at B
    ·rename_i Tb t l2 R;have ax:=b7 Q;have q:=b7 R;obtain⟨vk,y,k1,k2,k3,k4⟩:=kP (hw.cs _ ax);obtain⟨aF,b1,b2,b3,b4⟩:=id (hw.cs _ q);rw[k2]at b1;cases b1;obtain⟨v0,y1,y2,y3⟩:=hy;rw[k1]at y1;cases y1;have y3:=(QB y3).1;have aG:k≠d2:=by intro A; rw[A,R]at Q; cases Q
     have ah:(a'.eval o2=.slice none 0 0/\y.toList.length=0)∨∃ ad cap,a'.eval o2=.slice (some ad) y.toList.length cap/\∀(j:Nat) (c:Value),y.toList[j]?=some c->w.cell? (ad.add j)=some c:=by
      obtain⟨q1,⟨I,M⟩|⟨g,cap,ao,I,_,M,q4,q5,q6,q7⟩⟩:=k3
      ·exact .inl ⟨by rw[y3]; exact I,M⟩
      ·refine .inr ⟨⟨g,0,none⟩,cap,by rw[y3]; exact I,fun j c hj=>?_⟩;rw[<-q7,Q1]at hj;split at hj
       ·rw[Ri];simp[World.cell?,M];simpa using hj
       ·cases hj
     split at B
     ·rename_i S;have S:=pS S;subst S;cases B;have hv:[a'.eval o1]=[.slice none 0 0]:=L;have hv:=(QB hv).1;have J:y.toList.length*e'.bytes<=140737488355328:=by rw[b2]; exact hp.1
      have g2:=S1 w w.heap.size e.elem e'.ty.size;obtain⟨v',w',q1,I,M,q4⟩:=gg (w:=w) (ty:=ty) (u:=a'.eval o2) (news:=y.toList) (m:=y.toList.length) an hf (Qu _) (size_pos _) g2 (by rw[es,Ry]) k4 ah (ae _ (by rw[Q8]; exact J)) (by rw[Q8]; exact J);rw[es,Q8,RX]at I;rw[<-hv]at q1;have K:Below w.heap.size w w':=(QG _ _).grown M (Qu _) (by intro k e; cases e);have ai:∀ b,fa v'=some b->w.heap.size<=b:=ob I;have ay:w'.ownsRow 0 e.elem 1 v' y.toList.length y.toList:=by
       refine⟨I.1,?_⟩;rcases I.2 with H|⟨g,cap,ao,A,_,h2⟩
       ·exact .inl H
       ·exact .inr ⟨g,cap,ao,A,QE _,h2⟩
      obtain⟨ρ',f1,f2,f3⟩:=h.yx (ds:=[k,d2]) (o:=aw) (us:=y.toList) (ll:=l2) (T:=e.elem) (Ti:=Tb) (t:=t) (v':=v') ⟨K.os,K.tape,K.output⟩ K.size (fun b s _=>K.block b s) ay k4 b2
       (fun i u l f hl=>⟨b3 i u l f hl,fun b s=>⟨⟨_,q,by simp,fj k2 f s⟩,K.block b (h.bl _ q b (fj k2 f s)).1⟩⟩) b4 (fun b s=>.inr (ai b s))
       (fun u f b s C=>by
        obtain⟨i,hi⟩:=RR.1 f;have:=(h.bl _ q b (fj k2 hi s)).1;have:=ai b C;omega)
      have U:Aq v' l2.length:=by rw[<-b2]; exact sy I
      refine⟨⟨v',w',ja q1,ρ',f1,fun p hp=>?_⟩,rfl,fun x L H=>?_⟩
      ·rcases Qv.1 hp with rfl|hp
       ·exact⟨v',f3,U,rfl⟩
       ·exact f2 (hF p hp)
      ·simp only[Qv]at L H;rcases L with rfl|rfl|L
       ·exact absurd (.inl rfl) H
       ·exact absurd (.inr (.inl rfl)) H
       ·exact(fb L).1
     ·split at B
      ·rename_i c nc aJ;split at B
       ·rename_i T1 az d1 V;split at B
        ·rename_i Ta t1 l1 W;split at B
         ·rename_i aK Z;have aA:=gF Z;cases aA;have aB:=gn Z;subst aB;split at B
          ·rename_i aq ab;have aq:=T7 aq;have ab:=T7 ab;cases B;have F:=b7 V;have z:=b7 W;have aj:c≠d1:=by intro A; rw[A,W]at V; cases V
           have ak:c≠d2:=by intro A; rw[A,R]at V; cases V
           have aH:k≠d1:=by intro A; rw[A,W]at Q; cases Q
           obtain⟨vc,aa,c1,c2,c3,c4⟩:=kP (hw.cs _ F);obtain⟨aI,a1,a2,a3,a4⟩:=id (hw.cs _ z);rw[c2]at a1;cases a1;obtain⟨v0,x1,x2,x3⟩:=L;rw[c1]at x1;cases x1;have x3:=(QB x3).1;obtain⟨J,⟨aC,aD⟩,_⟩:=hp;subst aC;subst aD;rw[<-a2,<-b2]at J;obtain⟨v',w',q1,I,M,q4⟩:=gg (w:=w) (ty:=ty) (u:=a'.eval o2) (news:=y.toList) (m:=y.toList.length) an hf (QE _) (size_pos _) (by rw[es]; exact c3) (by rw[es,Ry]) k4 ah (ae _ J) J;rw[es]at I;rw[<-x3]at q1;rw[Fm (gb c3)]at M;have ac:∀ b,fa vc=some b->fk ρ c b:=fun b s=>fh c1 s;have G:∀ b,b<w.heap.size->¬fk ρ c b->w'.heap[b]?=w.heap[b]?:=fun b s H=>mf M s fun e=>H (ac b e);have ar:∀(i:Nat) (u:Value) (l:List t.den),(aa.toList++y.toList)[i]?=some u->(l1++l2)[i]?=some l->Rw 0 (XX X0 ρ st.ck) w Ta t u l/\∀ b,fa u=some b->fk ρ d1 b∨fk ρ d2 b:=by
            intro i u l f hl;rcases QA i aa.toList.length with hi|hi
            ·rw[Q0 hi]at f;rw[Q0 (by omega)]at hl;exact⟨a3 i u l f hl,fun b s=>.inl (fj c2 f s)⟩
            ·rw[QT hi]at f;rw[QT (by omega),<-a2]at hl;exact⟨b3 _ u l f hl,fun b s=>.inr (fj k2 f s)⟩
           obtain⟨ρ',f1,f2,f3⟩:=h.yx (ds:=[c,d1,k,d2]) (o:=az) (us:=aa.toList++y.toList) (ll:=l1++l2) (T:=e.elem) (Ti:=Ta) (t:=t) (v':=v') ⟨M.os,M.tape,M.output⟩ M.size (fun b s H=>G b s fun A=>H ⟨_,F,by simp,A⟩) (by rw[QO]; exact I)
            (fun u f=>by
             rcases QZ.1 f with f|f
             ·exact c4 u f
             ·exact k4 u f) (by rw[QO,QO,a2,b2])
            (fun i u l f hl=>by
             obtain⟨g1,g2⟩:=ar i u l f hl;refine⟨g1,fun b s=>?_⟩;rcases g2 b s with A|A
             ·exact⟨⟨_,z,by simp,A⟩,G b (h.bl _ z b A).1 fun e1=>h.dj _ F _ z aj b e1 A⟩
             ·exact⟨⟨_,q,by simp,A⟩,G b (h.bl _ q b A).1 fun e1=>h.dj _ F _ q ak b e1 A⟩)
            (fun i j u u' f D aE b s C=>by
             rcases QA i aa.toList.length with hi|hi<;>rcases QA j aa.toList.length with hj|hj
             ·rw[Q0 hi]at f;rw[Q0 hj]at D;exact a4 i j u u' f D aE b s C
             ·rw[Q0 hi]at f;rw[QT hj]at D;exact h.dj _ z _ q ab b (fj c2 f s) (fj k2 D C)
             ·rw[QT hi]at f;rw[Q0 hj]at D;exact h.dj _ z _ q ab b (fj c2 D C) (fj k2 f s)
             ·rw[QT hi]at f;rw[QT hj]at D;exact b4 _ _ u u' f D (by omega) b s C)
            (fun b s=>(q4 b s).imp (fun A=>⟨_,F,by simp,ac b A⟩) id)
            (fun u f b s C=>by
             have au:fk ρ d1 b∨fk ρ d2 b:=by
              rcases QZ.1 f with f|f
              ·obtain⟨i,hi⟩:=RR.1 f;exact .inl (fj c2 hi s)
              ·obtain⟨i,hi⟩:=RR.1 f;exact .inr (fj k2 hi s)
             rcases q4 b C with A|A
             ·rcases au with e1|e1
              ·exact h.dj _ F _ z aj b (ac b A) e1
              ·exact h.dj _ F _ q ak b (ac b A) e1
             ·rcases au with e1|e1
              ·have:=(h.bl _ z b e1).1; omega
              ·have:=(h.bl _ q b e1).1; omega)
           have U:Aq v' (l1++l2).length:=by rw[QO,<-a2,<-b2]; exact sy I
           refine⟨⟨v',w',ja q1,ρ',f1,fun p hp=>?_⟩,rfl,fun x L H=>?_⟩
           ·rcases Qv.1 hp with rfl|hp
            ·exact⟨v',f3,U,rfl⟩
            ·exact f2 (hF p hp)
           ·simp only[Qv]at L H;rcases L with rfl|rfl|L
            ·exact absurd (.inl rfl) H
            ·exact absurd (.inr (.inl rfl)) H
            ·exact(fb L).1
          ·cases B
         ·cases B
        ·cases B
       ·cases B
      ·cases B
    ·cases B
   ·cases B
  ·cases B
 ·cases B
theorem IY(hE:E.Ok){a':Act}(h:Fr w0 X0 Bo 0 ⟨[],st.ck,st.nx⟩ ρ gu w)(W:∀ b,X0 b->b<w0.heap.size){T:TypeId}{n:Nat}{r:AV}{tc:List Nat}{dst:Option Nat}{ty:TypeId}{pos:String}{af:Array Edge}{parts:Array (Nat×Operand)}
    (hl:∀ x∈lv parts.toList,∀ y,lj st.sl x=some y->m ρ (XX X0 ρ st.ck) w y [a'.eval x])
    (A:zh E st T n parts.toList dst=some (st',r,tc,ps)) (R:eP ps) {Fs:List (AV×Value)} (hF:∀ p∈Fs,m ρ (XX X0 ρ st.ck) w p.1 [p.2]) :
    (∃ v w',(execOp a'.eval ⟨dst,.buildSlice T n parts,ty,pos,af,none⟩).run E.P w=.ok (.value v) w'/\we w0 X0 Bo st'.ck st'.nx w' ((r,v)::Fs))/\st'.sl=put st.sl dst r/\∀ x∈st'.ck,x.1 ∉ tc->x∈st.ck:=by
 unfold zh at A;split at A
 ·rename_i u q;obtain⟨e,Z,h1,h2,h3,h4⟩:=fF q;simp only[h1]at A;obtain⟨i,hi,S,U,an⟩:=(hE.fact h3).info;have I:(Z.ty.wrap (zc Z.ty)).cells=(zc Z.ty).toArray:=fu (fw _) (gm _);have aa:=eU hE h1 h2;rw[h4]at U I S;split at A
  ·rename_i b1 V;have b1:=QR b1;subst b1;have V:=QR V;split at A
   ·rename_i k e1;split at A
    ·rename_i Ti t l ab;cases A;have hw:=h.wd W;have ac:jd (open Classical in fun x=>if x∈lv parts.toList then lj st.sl x else none) (FO u) parts.toList (IU u 1)=some (.cons (.own k) .nil):=by
      rw[<-e1];exact(i_ fun x B=>by simp[B]).symm
     obtain⟨f,q1,q2,q3,q4,q5⟩:=kH (a:=a') (ρ:=ρ) (X:=XX X0 ρ st.ck) (w:=w) (place:=fun i=>some (i*u.size,u.size)) (cells:=madeCells (zc u).toArray (1*u.size)) (fun x y B=>by
      split at B
      ·rename_i hm; exact hl x hm y B
      ·cases B) (fun i o v J=>by unfold FO at J; cases J; rfl) ac qc (by rw[iv _ _ (fw u)]; exact yy) (fun c K=>by
       rw[iv _ _ (fw u)]at K;obtain⟨z,S,K⟩:=TV.1 K;rw[RW S]at K;exact gm u c K)
     obtain⟨v,ad,ae,⟨v1,C,L,G⟩,H⟩:=q2;have G:=(QB G).1;subst G;have H:ad=[]:=H;subst H;have M:=UF (P:=E.P) w T e.elem 1 (parts.map fun(i,x)=>(i,a'.eval x)) f i _ aa hi S (by rw[U]; omega) (by rw[U,V]; omega)
      (by rw[U,I]; rw[<-q1]; simp[madeCells])
     have ho:=To (e:=e.elem) (size:=1) (base:=w.heap.size) w f 1 (Qu _) (by simp[maxLen]) (by rw[q4,U',V]);rw[ae]at ho;have D:=b7 ab;obtain⟨v2,xs,k1,k2,k3,k4⟩:=hw.cs _ D;rw[C]at k1;cases k1;have s:=fC w (.cells f e.elem);have ah:(w.alloc (.cells f e.elem)).ownsRow 0 e.elem 1 (.slice (some ⟨w.heap.size,0,none⟩) 1 1) [v].length [v]:=by
      refine⟨ho.1,?_⟩;rcases ho.2 with O|⟨g,cap,ai,e0,_,h2⟩
      ·exact .inl O
      ·exact .inr ⟨g,cap,ai,e0,QE _,h2⟩
     obtain⟨ρ',f1,f2,f3⟩:=h.yx (ds:=[k]) (o:=u.isAgg) (us:=[v]) (ll:=[l]) (T:=e.elem) (Ti:=Ti) (t:=t) (v':=.slice (some ⟨w.heap.size,0,none⟩) 1 1) ⟨s.os,s.tape,s.output⟩ s.size (fun b F _=>s.block b F) ah
      (fun u q=>by rw[RH]at q; rw[q]; exact L) rfl
      (fun j u l' q aj=>by
       cases j with
       | zero =>
        cases q
        cases aj
        exact⟨⟨xs,k2,k3,k4⟩,fun b F=>⟨⟨_,D,by simp,fh C F⟩,s.block b (h.bl _ D b (fh C F)).1⟩⟩
       | succ j=>simp at q)
      (fun i j u u' q ak al b F Q=>by
       cases i<;>cases j
       ·exact al rfl
       ·simp at ak
       ·simp at q
       ·simp at q) (fun b F=>by cases F; exact .inr (Qu _))
      (fun u q b F Q=>by
       rw[RH]at q;subst q;have:=(h.bl _ D b (fh C F)).1;cases Q;exact Vc _ this)
     refine⟨⟨.slice (some ⟨w.heap.size,0,none⟩) 1 1,w.alloc (.cells f e.elem),?_,ρ',f1,fun p R=>?_⟩,rfl,fun x B O=>?_⟩
     ·simp only[execOp,Rf,M]; rfl
     ·rcases Qv.1 R with rfl|R
      ·exact⟨_,f3,.inr ⟨_,_,rfl⟩,rfl⟩
      ·exact f2 (hF p R)
     ·simp only[Qv]at B O;rcases B with rfl|rfl|B
      ·exact absurd (.inl rfl) O
      ·exact absurd (.inr (.inl rfl)) O
      ·exact(fb B).1
    ·cases A
   ·cases A
  ·cases A
 ·cases A
theorem EL(R:E.Ok){a':Act}(h:Fr w0 X0 Bo 0 ⟨[],st.ck,st.nx⟩ ρ gu w)(aa:∀ b,X0 b->b<w0.heap.size){T:TypeId}{x y r:AV}{tc:List Nat}{dst:Option Nat}{ty:TypeId}{pos:String}{af:Array Edge}{o1 o2:Operand}
    (A:m ρ (XX X0 ρ st.ck) w x [a'.eval o1]) (hy:m ρ (XX X0 ρ st.ck) w y [a'.eval o2])
    (s:tf E st T x y dst=some (st',r,tc,ps)) (B:eP ps) {S:List (AV×Value)} (hF:∀ p∈S,m ρ (XX X0 ρ st.ck) w p.1 [p.2]) :
    (∃ v w',(execOp a'.eval ⟨dst,.makeSlice T o1 o2,ty,pos,af,none⟩).run E.P w=.ok (.value v) w'/\we w0 X0 Bo st'.ck st'.nx w' ((r,v)::S))/\st'.sl=put st.sl dst r/\∀ x∈st'.ck,x.1 ∉ tc->x∈st.ck:=by
 unfold tf at s;split at s
 ·rename_i p q;obtain⟨ex,ab⟩:=fI A;obtain⟨ey,F⟩:=fI hy;split at s
  ·rename_i t f;obtain⟨e,e',U,G,V,h4⟩:=fF f;simp only[U,V]at s;cases s;obtain⟨⟨H,I,ac⟩,_⟩:=B;obtain⟨i,hi,W,Z,J⟩:=(R.fact V).info;rw[h4]at W Z;have hq:=F.2;simp only[Gx.hi]at hq;obtain⟨w',hr,K,c⟩:=qp (P:=E.P) (w:=w) (eU R U G) hi W Z H I (by rw[J]; omega) hq;have L:(execOp a'.eval ⟨dst,.makeSlice T o1 o2,ty,pos,af,none⟩).run E.P w=.ok (.value (.slice (some ⟨w.heap.size,0,none⟩) p.toNat q.toNat)) w':=by
    simp only[execOp,Rf,ex,ey,hr]; rfl
   have M:∀ n:Nat,(List.replicate n (zc (.slice t))).flatten=List.replicate n (Value.slice none 0 0):=by
    intro n
    induction n with
    | zero=>rfl
    | succ n ih=>rw[SE,TJ,ih]; rfl
   rw[M]at K;have O:w'.ownsRow 0 e.elem 1 (.slice (some ⟨w.heap.size,0,none⟩) p.toNat q.toNat) (List.replicate p.toNat (Value.slice none 0 0)).length (List.replicate p.toNat (Value.slice none 0 0)):=by
    rw[SX];refine⟨K.1,?_⟩;rcases K.2 with C|⟨g,cap,Q,e0,_,G⟩
    ·exact .inl C
    ·exact .inr ⟨g,cap,Q,e0,QE _,G⟩
   have D:∀(j:Nat) (u:Value),(List.replicate p.toNat (Value.slice none 0 0))[j]?=some u->u=.slice none 0 0:=fun j u f=>RW (Ra f);obtain⟨ρ',f1,f2,f3⟩:=h.yx (ds:=[]) (o:=false) (us:=List.replicate p.toNat (.slice none 0 0)) (ll:=List.replicate p.toNat []) (T:=e.elem) (Ti:=e'.elem) (t:=t) (v':=.slice (some ⟨w.heap.size,0,none⟩) p.toNat q.toNat) ⟨c.os,c.tape,c.output⟩ c.size (fun b z _=>c.block b z) O
    (fun u f=>by rw[RW f]; rfl) (by simp)
    (fun j u l f hl=>by
     have h5:=D j u f;have h6:l=[]:=RW (Ra hl);subst h5;subst h6;exact⟨⟨[],S1 w _ _ _,by simp,by simp⟩,fun b c=>by cases c⟩)
    (fun i j u u' f ad ae b c z=>by rw[D i u f]at c; cases c)
    (fun b c=>by cases c; exact .inr (Qu _)) (fun u f b c z=>by rw[RW f]at c; cases c)
   refine⟨⟨_,w',L,ρ',f1,fun p B=>?_⟩,rfl,fun x A C=>?_⟩
   ·rcases Qv.1 B with rfl|B
    ·exact⟨_,f3,.inr ⟨_,_,rfl⟩,rfl⟩
    ·exact f2 (hF p B)
   ·simp only[Qv]at A C;rcases A with rfl|rfl|A
    ·exact absurd (.inl rfl) C
    ·exact absurd (.inr (.inl rfl)) C
    ·exact A
  ·cases s
 ·cases s
theorem Dp(L:E.Ok){a':Act}(h:Fr w0 X0 Bo 0 ⟨[],st.ck,st.nx⟩ ρ gu w)(M:∀ b,X0 b->b<w0.heap.size){T:TypeId}{x y:AV}{tc:List Nat}{dst:Option Nat}{ty:TypeId}{pos:String}{af:Array Edge}{o1 o2:Operand}
    (i:m ρ (XX X0 ρ st.ck) w x [a'.eval o1]) (O:m ρ (XX X0 ρ st.ck) w y [a'.eval o2])
    (f:Az E st T x y=some (st',tc,ps)) (u:eP ps) {I:List (AV×Value)} (Q:∀ p∈I,m ρ (XX X0 ρ st.ck) w p.1 [p.2]) :
    (∃ w',(execOp a'.eval ⟨dst,.store T o1 o2,ty,pos,af,none⟩).run E.P w=.ok .skip w'/\we w0 X0 Bo st'.ck st'.nx w' I)/\st'.sl=st.sl/\∀ x∈st'.ck,x.1 ∉ tc->x∈st.ck:=by
 unfold Az at f;split at f
 ·rename_i e R;have S:=L.fact R;split at f
  ·rename_i c j sz n;split at f
   ·rename_i T1 o d hl Ti t l v z;split at f
    ·rename_i Tb tb ll A;split at f
     ·rename_i l' J;have B:=gF J;cases B;have C:=gn J;subst C;split at f
      ·rename_i t0 g q;have g:=QR g;subst g;cases f;obtain⟨U,D,F,_⟩:=u;subst D;obtain⟨vo,bo,V,W,s⟩:=i;have s:=(QB s).1;obtain⟨vn,Z,y2,G⟩:=O;have G:=(QB G).1;obtain⟨w',ρ',K,s2,s3⟩:=h.aa3 (P:=E.P) S (by rw[q]; rfl) (by rw[q]; rfl) A v z V Z W y2 U F;refine⟨⟨w',?_,ρ',s2,fun p u=>s3 (Q p u)⟩,rfl,fun x i H=>?_⟩
       ·rw[<-G]at K;rw[Ry]at s;simp only[execOp,s,Instr.storeAt,Instr.sureAddr,Rf,S9,Sh,K]
       ·simp only[Qv]at i H;rcases i with rfl|rfl|i
        ·exact absurd (.inl rfl) H
        ·exact absurd (.inr (.inl rfl)) H
        ·exact(fb i).1
      ·cases f
     ·cases f
    ·cases f
   ·cases f
  ·cases f
 ·cases f
theorem yD(G:E.Ok){a':Act}{o:Oper}{r:AV}{tc:List Nat}(h:Fr w0 X0 Bo 0 ⟨[],st.ck,st.nx⟩ ρ gu w)(j:∀ b,X0 b->b<w0.heap.size)(g:nC o.op=true)
    (u:∀ t,.tmp t∈gD o.op->∀ x,get? st.sl t=some x->m ρ (XX X0 ρ st.ck) w x [gt a' t]) (e:s9 E st o=some (st',r,tc,ps)) (J:eP ps) {Q:List (AV×Value)} (H:∀ p∈Q,m ρ (XX X0 ρ st.ck) w p.1 [p.2]) :
    (∃ v w',(execOp a'.eval o).run E.P w=.ok (.value v) w'/\we w0 X0 Bo st'.ck st'.nx w' ((r,v)::Q))/\st'.sl=put st.sl o.dst r/\∀ x∈st'.ck,x.1 ∉ tc->x∈st.ck:=by
 obtain⟨dst,op,ty,pos,af,Z⟩:=o;dsimp only at g u ⊢;unfold s9 at e;dsimp only at e;split at e
 ·rename_i c;obtain⟨callee,args,q⟩:=c;dsimp only at e;split at e
  ·split at e
   ·rename_i R S T T' K V;split at e
    ·rename_i L;have L:=QR L;subst L;split at e
     ·rename_i v1 W po s;have z:R∈gD (.call { callee:=.builtin .append,args:=args,argTypes:=q }):=by simp only[gD,K]; simp
      have A:S∈gD (.call { callee:=.builtin .append,args:=args,argTypes:=q }):=by simp only[gD,K]; simp
      have M:args=#[R,S]:=by rw[<-Rx]; exact K
      have O:q=#[T,T]:=by rw[<-Rx]; exact V
      split at e
      ·rename_i B U C D l;cases e;obtain⟨f,i⟩:=J.app;have F:=gV u f z (ga g z) po;have I:=gV u f A (ga g A) s;subst M O;split at l
       ·exact J' (ty:=ty) (pos:=pos) (af:=af) G h j F I l i H
       ·split at l
        ·exact Kr (ty:=ty) (pos:=pos) (af:=af) G h j F I l i H
        ·cases l
      ·cases e
     ·cases e
    ·cases e
   ·cases e
  ·cases e
 ·rename_i T n parts;split at e
  ·rename_i B U C D l;cases e;obtain⟨f,i⟩:=J.app;exact IY (ty:=ty) (pos:=pos) (af:=af) G h j (fun x F y I=>gV u f (by simpa [gD]using F) (ga g (by simpa [gD]using F)) I) l i H
  ·cases e
 ·rename_i T n k;split at e
  ·rename_i v1 W po s;split at e
   ·rename_i B U C D l;cases e;obtain⟨f,i⟩:=J.app;have z:n∈gD (.makeSlice T n k):=by simp[gD]
    have A:k∈gD (.makeSlice T n k):=by simp[gD]
    exact EL (ty:=ty) (pos:=pos) (af:=af) G h j (gV u f z (ga g z) po) (gV u f A (ga g A) s) l i H
   ·cases e
  ·cases e
 ·cases e
def Dw(sl:List (Nat×AV))(a:Act):List (AV×Value):=sl.filterMap fun q=>(get? sl q.1).map fun x=>(x,gt a q.1)
theorem ud(h:Fr w0 X0 Bo N st ρ a w):∀ p∈Dw st.sl a,m ρ (XX X0 ρ st.ck) w p.1 [p.2]:=by
 intro p c;obtain⟨y,f,e⟩:=U4.1 c;cases b:get? st.sl y.1 with
 | none=>rw[b]at e; cases e
 | some x =>
  rw[b]at e
  cases e
  exact h.sl _ _ b
theorem vm{sl:List (Nat×AV)}{t:Nat}{x:AV}(h:get? sl t=some x):(x,gt a t)∈Dw sl a :=
 U4.2 ⟨(t,x),b7 h,by rw[h]; rfl⟩
theorem Di(h:Fr w0 X0 Bo N st ρ a w){d:Option Nat}{r:AV}{v:Value}{ck':List (Nat×CT)}{c:Nat}(g:∀ t,d=some t->t<N)(i:we w0 X0 Bo ck' c w' ((r,v)::Dw st.sl a)):∃ ρ',Fr w0 X0 Bo N ⟨put st.sl d r,ck',c⟩ ρ' (a.put d v) w':=by
 obtain⟨ρ',b,f⟩:=i;refine⟨ρ',by rw[gh]; exact h.dn,by rw[size_put]; exact h.sz,b.kp,b.nx,b.nd,b.kn,b.bl,b.dj,b.cs,fun t x e=>?_,b.pn⟩;exact rm (M:=fun x j=>m ρ' (XX X0 ρ' ck') w' x [j]) (by rw[h.sz]; exact g) (f _ Qx) (fun t x e=>f _ (Qs _ (vm e))) e
theorem Hp(h:Fr w0 X0 Bo N st ρ a w){ck':List (Nat×CT)}{c:Nat}(e:we w0 X0 Bo ck' c w' (Dw st.sl a)):∃ ρ',Fr w0 X0 Bo N ⟨st.sl,ck',c⟩ ρ' a w':=by
 obtain⟨ρ',b,f⟩:=e;exact⟨ρ',h.dn,h.sz,b.kp,b.nx,b.nd,b.kn,b.bl,b.dj,b.cs,fun t x g=>f _ (vm g),b.pn⟩
theorem wX{c:Type}{x:Nat×c}{t:Nat}(b:x.1≠t):∀{l:List (Nat×c)},x∈l->x∈del l t
 | (k,y)::l,h=>by
  unfold del;split
  ·rename_i e;rcases Qv.1 h with rfl|h
   ·exact absurd (fO e) b
   ·exact wX b h
  ·rcases Qv.1 h with rfl|h
   ·exact Qx
   ·exact Qs _ (wX b h)
theorem l6{x:Nat×CT}:∀{cs:List Nat}{ck:List (Nat×CT)},x∈ck->x.1 ∉ cs->x∈gw ck cs
 | [],ck,h,_=>h
 | c::cs,ck,h,b=>l6 (cs:=cs) (wX (fun e=>b (by rw[e]; exact Qx)) h) (fun h=>b (Qs _ h))
theorem kt{x:Nat×CT}(b:(ck.map (·.1)).Nodup)(c:x∈ck){T:TypeId}{l:AV}(f:x.2=.box T l){k:Nat}{z:CT}(g:get? ck k=some z)(h:∀ T l,z≠.box T l):x.1≠k:=by
 intro e;have:=la b c;rw[e,g]at this;exact h T l ((Rk this).trans f)
end
section
variable{E:Env}{w0:World}{X0:Nat->Prop}{Bo:List Value}{N:Nat}{st st':St}{ρ:List Value}{a:Act}{w w':World}{ps:List Prop}{ck:List (Nat×CT)}{nx:Nat}
variable{r:AV}{tc:List Nat}{dst:Option Nat}{T:TypeId}
theorem JO{d i:Nat}{y:AV}(b:vB E st T d i y dst=some (st',r,tc,ps)):(st'.sl=put st.sl dst r/\∀ x∈st'.ck,x.1 ∉ tc->x∈st.ck)/\((st.ck.map (·.1)).Nodup->∀ x∈st.ck,∀ T l,x.2=.box T l->x∈st'.ck):=by
 unfold vB at b;split at b
 ·split at b
  ·split at b
   ·split at b
    ·split at b
     ·split at b
      ·rename_i h;split at b
       ·split at b
        ·split at b
         ·rename_i j;split at b
          ·cases b;refine⟨⟨rfl,fun x c f=>?_⟩,fun f x c T l g=>?_⟩
           ·simp only[Qv]at c f;rcases c with rfl|rfl|c
            ·exact absurd (.inl rfl) f
            ·exact absurd (.inr (.inl rfl)) f
            ·exact(fb c).1
           ·refine Qs _ (Qs _ (l6 c ?_));simp only[Qv,QW,RV,not_or];exact⟨kt f c g h (by intro T l e; cases e),kt f c g j (by intro T l e; cases e)⟩
          ·cases b
         ·cases b
        ·cases b
       ·cases b
      ·cases b
     ·cases b
    ·cases b
   ·cases b
  ·cases b
 ·cases b
theorem H9{k:Nat}{a:AV}(b:uP E st T a k dst=some (st',r,tc,ps)):(st'.sl=put st.sl dst r/\∀ x∈st'.ck,x.1 ∉ tc->x∈st.ck)/\((st.ck.map (·.1)).Nodup->∀ x∈st.ck,∀ T l,x.2=.box T l->x∈st'.ck):=by
 have fin:∀{i j:Nat}{p q:CT}{s:List Nat},(∀ x∈(i,p)::(j,q)::gw st.ck s,x.1 ∉ [i,j]->x∈st.ck):=by
  intro i j p q s x c f;simp only[Qv,QW,RV]at c f;rcases c with rfl|rfl|c
  ·exact absurd (.inl rfl) f
  ·exact absurd (.inr rfl) f
  ·exact(fb c).1
 unfold uP at b;split at b
 ·split at b
  ·split at b
   ·split at b
    ·split at b
     ·rename_i hk;split at b
      ·rename_i h;split at b
       ·cases b;refine⟨⟨rfl,fin⟩,fun f x c T l g=>?_⟩;refine Qs _ (Qs _ (l6 c ?_));simp only[Qv,QW,RV,not_or];exact⟨kt f c g hk (by intro T l e; cases e),kt f c g h (by intro T l e; cases e)⟩
       ·split at b
        ·split at b
         ·rename_i t;split at b
          ·rename_i m;split at b
           ·split at b
            ·cases b;refine⟨⟨rfl,fin⟩,fun f x c T l g=>?_⟩;refine Qs _ (Qs _ (l6 c ?_));simp only[Qv,QW,RV,not_or];exact⟨kt f c g t (by intro T l e; cases e),kt f c g m (by intro T l e; cases e),kt f c g hk (by intro T l e; cases e),kt f c g h (by intro T l e; cases e)⟩
            ·cases b
           ·cases b
          ·cases b
         ·cases b
        ·cases b
      ·cases b
     ·cases b
    ·cases b
   ·cases b
  ·cases b
 ·cases b
theorem NQ{x y:AV}(b:Az E st T x y=some (st',tc,ps)):st'.sl=st.sl/\∀ x∈st'.ck,x.1 ∉ tc->x∈st.ck:=by
 unfold Az at b;split at b
 ·split at b
  ·split at b
   ·split at b
    ·split at b
     ·split at b
      ·cases b;refine⟨rfl,fun x c e=>?_⟩;simp only[Qv,QW,RV]at c e;rcases c with rfl|rfl|c
       ·exact absurd (.inl rfl) e
       ·exact absurd (.inr rfl) e
       ·exact(fb c).1
      ·cases b
     ·cases b
    ·cases b
   ·cases b
  ·cases b
 ·cases b
theorem tY{o:Oper}(c:s9 E st o=some (st',r,tc,ps)):(st'.sl=put st.sl o.dst r/\∀ x∈st'.ck,x.1 ∉ tc->x∈st.ck)/\((st.ck.map (·.1)).Nodup->∀ x∈st.ck,∀ T l,x.2=.box T l->x∈st'.ck):=by
 have fin:∀{h i:Nat}{j m:CT}{k:List (Nat×CT)},(∀ x∈k,x∈st.ck)->(∀ x∈(h,j)::(i,m)::k,x.1 ∉ [h,i]->x∈st.ck):=by
  intro h i j m k hk x f g;simp only[Qv,QW,RV]at f g;rcases f with rfl|rfl|f
  ·exact absurd (.inl rfl) g
  ·exact absurd (.inr rfl) g
  ·exact hk x f
 unfold s9 at c;split at c
 ·split at c
  ·split at c
   ·split at c
    ·split at c
     ·split at c
      ·rename_i b;cases c;split at b
       ·exact JO b
       ·split at b
        ·exact H9 b
        ·cases b
      ·cases c
     ·cases c
    ·cases c
   ·cases c
  ·cases c
 ·split at c
  ·rename_i b;cases c;unfold zh at b;split at b
   ·split at b
    ·split at b
     ·split at b
      ·split at b
       ·rename_i hk;cases b;refine⟨⟨rfl,fin fun x f=>(fb f).1⟩,fun g x f T l p=>?_⟩;refine Qs _ (Qs _ (l6 f ?_));simp only[Qv,QW,RV];exact kt g f p hk (by intro T l e; cases e)
       ·cases b
      ·cases b
     ·cases b
    ·cases b
   ·cases b
  ·cases c
 ·split at c
  ·split at c
   ·rename_i b;cases c;unfold tf at b;split at b
    ·split at b
     ·split at b
      ·split at b
       ·cases b;exact⟨⟨rfl,fin fun x f=>f⟩,fun g x f T l p=>Qs _ (Qs _ f)⟩
       ·cases b
      ·cases b
     ·cases b
    ·cases b
   ·cases c
  ·cases c
 ·cases c
end
end Go.Proofs.YtbokoblnehgkaabGreat.Gx
