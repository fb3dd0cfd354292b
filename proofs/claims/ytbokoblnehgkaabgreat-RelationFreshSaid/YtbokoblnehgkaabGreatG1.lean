/-
  The walk as a computation: types with a meaning, knowledge of values, states.
-/
import Derived.Test.YtbokoblnehgkaabGreatA0
import Derived.Below
import Derived.Orders
import Derived.Tactics
import Derived.StillTail
import Derived.BigCall
import Derived.LoopN
import Derived.Laws.OwnMore
import Derived.Laws.Strings
import Derived.Laws.Slices
import Derived.Laws.MakeOwn
import Derived.Laws.Rows
import Derived.Laws.Small
import Derived.Laws.IdiomStrings
import Derived.Laws.BytesArg
import Derived.Great.BuildSlice
import Derived.DataReads
import Derived.Laws.Tables
set_option linter.unusedVariables false
set_option linter.unusedSimpArgs false
set_option maxHeartbeats 4000000
set_option maxRecDepth 100000
set_option linter.defProp false
namespace Go.Proofs.YtbokoblnehgkaabGreat
def UF:=@Go.run_buildSlice
end Go.Proofs.YtbokoblnehgkaabGreat
namespace Go.Proofs.YtbokoblnehgkaabGreat.Tw
open Go Go.RowKit
def gt(a:Act)(t:Nat):Value:=a.tmps.getD t undef
theorem fH{a:Act}{t:Nat}(h:t<a.tmps.size)(v:Value):gt (a.put (some t) v) t=v:=by
 simp[gt,Act.put,h]
theorem eL{a:Act}{t:Nat}{d:Option Nat}(h:d≠some t)(v:Value):gt (a.put d v) t=gt a t:=by
 cases d with
 | none=>rfl
 | some d =>
  have:d≠t:=fun e=>h (by rw[e])
  simp[gt,Act.put,Array.getElem?_setIfInBounds_ne this]
theorem size_put(a:Act)(d:Option Nat)(v:Value):(a.put d v).tmps.size=a.tmps.size:=by
 cases d<;>simp[Act.put]
theorem gh(a:Act)(d:Option Nat)(v:Value):(a.put d v).defers=a.defers:=by
 cases d<;>simp[Act.put]
theorem CE{a b:Act}(c:a.defers=b.defers)(d:a.tmps.size=b.tmps.size)(f:∀ t,t<a.tmps.size->gt a t=gt b t):a=b:=by
 obtain⟨pr,h⟩:=a;obtain⟨j,k⟩:=b;simp only at c d;subst c;congr 1;apply Vf d;intro i e g;have:=f i e;simp only[gt]at this;simpa [e,g]using this
def fD(P:Program)(ρ:Operand->Value)(o:Oper)(w:World)(R:Value->World->Prop):Prop :=
 match (execOp ρ o).run P w with
 | .ok (.value v) a=>R v a
 | .ok .skip a=>R undef a
 | .ok (.enter f args) a=>Calls P f args a (fun e b=>∃ v,e=.returned v/\R v b)
 | _=>False
theorem fD.wp{P:Program}{o:Oper}{a:Act}{w:World}{R:Value->World->Prop}{K:Act->World->Prop}{Q:Exit->Act->World->Prop}
    (h:fD P a.eval o w R) (b:∀ v w',R v w'->K (a.put o.dst v) w'):o.wp P a w K Q:=by
 unfold fD at h;unfold Oper.wp;split at h
 ·rename_i v w' e; rw[e]; exact b _ _ h
 ·rename_i w' e; rw[e]; exact b _ _ h
 ·rename_i f args w' e; rw[e];refine TB h ?_;rintro e c ⟨v,rfl,d⟩;exact b _ _ d
 ·exact h.elim
def lw(ds:List (Option Nat))(p:Nat->Bool)(t:Nat):Nat->Option Nat
 | 0=>none
 | k+1=>if p k&&(ds[k]? == some (some t))then some k else lw ds p t k
theorem iz{ds:List (Option Nat)}{p:Nat->Bool}{t:Nat}:∀{k i:Nat},lw ds p t k=some i ->
    i<k/\p i=true/\ds[i]?=some (some t)/\∀ m,i<m->m<k->¬(p m=true/\ds[m]?=some (some t))
 | 0,i,h=>by simp[lw]at h
 | k+1,i,h=>by
  unfold lw at h;split at h
  ·rename_i a;simp only[QK,SQ]at a;cases h;exact⟨by omega,a.1,a.2,fun m e d=>by omega⟩
  ·rename_i a;simp only[QK,SQ]at a;obtain⟨e,d,f,g⟩:=iz h;refine⟨by omega,d,f,fun m b j=>?_⟩;by_cases c:m=k
   ·subst c; exact a
   ·exact g m b (by omega)
theorem CY{ds:List (Option Nat)}{p:Nat->Bool}{t:Nat}:∀{k:Nat},lw ds p t k=none->∀ m,m<k->¬(p m=true/\ds[m]?=some (some t))
 | 0,_,m,c=>by omega
 | k+1,h,m,c=>by
  unfold lw at h;split at h
  ·cases h
  ·rename_i b;simp only[QK,SQ]at b;by_cases a:m=k
   ·subst a; exact b
   ·exact CY h m (by omega)
theorem mq{ds:List (Option Nat)}{p:Nat->Bool}{t:Nat}:∀{k i:Nat},i<k->p i=true->ds[i]?=some (some t) ->
    (∀ m,i<m->m<k->¬(p m=true/\ds[m]?=some (some t)))->lw ds p t k=some i
 | 0,i,h,_,_,_=>by omega
 | k+1,i,n,f,g,j=>by
  unfold lw;split
  ·rename_i c;simp only[QK,SQ]at c;by_cases d:i=k
   ·rw[d]
   ·exact absurd c (j k (by omega) (by omega))
  ·rename_i c;simp only[QK,SQ]at c;have d:i≠k:=fun e=>c (by subst e; exact⟨f,g⟩);exact mq (by omega) f g fun m a b=>j m a (by omega)
theorem mM{ds:List (Option Nat)}{p:Nat->Bool}{t:Nat}:∀{k:Nat},(∀ m,m<k->¬(p m=true/\ds[m]?=some (some t)))->lw ds p t k=none
 | 0,_=>rfl
 | k+1,h=>by
  unfold lw;rw[QC (by simpa only [QK,SQ]using h k (by omega))];exact mM fun m a=>h m (by omega)
def pH(M:List Nat)(o:Oper):Nat:=o.after.toList.foldl (fun s e=>if Region.binds .any e then s ||| (2 ^ e.on ||| M.getD e.on 0)else s) 0
theorem xc{M:List Nat}{o:Oper}{i:Nat}(h:(pH M o).testBit i=true) :
    ∃ e∈o.after,Region.binds .any e=true/\(i=e.on∨(M.getD e.on 0).testBit i=true):=by
 have key:∀(l:List Edge) (s:Nat),(l.foldl (fun s e=>if Region.binds .any e then s ||| (2 ^ e.on ||| M.getD e.on 0)else s) s).testBit i=true ->
     s.testBit i=true∨∃ e∈l,Region.binds .any e=true/\(i=e.on∨(M.getD e.on 0).testBit i=true):=by
  intro l
  induction l with
  | nil=>intro s h; exact .inl h
  | cons e l d =>
   intro s h
   rw[UN]at h
   rcases d _ h with a|⟨f,b,g⟩
   ·split at a
    ·rename_i c;rw[Wk,RE,Wk,RE]at a;rcases a with a|a|a
     ·exact .inl a
     ·exact .inr ⟨e,by simp,c,.inl (by rw[Nat.testBit_two_pow]at a; exact(QF a).symm)⟩
     ·exact .inr ⟨e,by simp,c,.inr a⟩
    ·exact .inl a
   ·exact .inr ⟨f,by simp[b],g⟩
 rcases key _ _ h with h|⟨e,j,h⟩
 ·simp at h
 ·exact⟨e,by simpa using j,h⟩
def ES(l:List Oper)(M:List Nat)(rows:List (List (Nat×Option Nat)))(N:Nat):Bool :=
 let a:=l.map (·.dst)
 let n:=l.length
 l.zipIdx.all fun(o,j) =>
  ((M.getD j 0 ||| pH M o) == pH M o) &&
  (o.after.all fun e=>!Region.binds .any e||decide (e.on<j)) &&
  (match o.op with|.select ..=>false|_=>true) &&
  (match o.dst with
   | none=>true
   | some d=>decide (d<N)&&(List.range n).all fun k=>!(a[k]? == some (some d))||!(decide (k<j))||(M.getD j 0).testBit k) &&
  ((rows.getD j []).all fun r=>decide (r.1<N)&&r.2 == lw a (fun _=>true) r.1 j &&
   (match r.2 with|none=>true|some i=>(M.getD j 0).testBit i) &&
   (List.range n).all fun k=>!(a[k]? == some (some r.1))||!(decide (j<k))||(M.getD k 0).testBit j)
def qm(ops:Array Oper)(o:Oper)(a:Act):Prop :=
 match o.guard with
 | none=>True
 | some (g,b)=>∃ t,(ops[g]?).bind (·.dst)=some t/\gt a t=.bool b
theorem iS{ops:Array Oper}{o:Oper}{a:Act}:Region.wanted o (yielded ops a.tmps)=true↔qm ops o a:=by
 unfold Region.wanted qm;cases o.guard with
 | none=>simp
 | some c =>
  obtain⟨g,b⟩:=c
  simp only[yielded,SQ]
  cases d:(ops[g]?).bind (·.dst)with
  | none=>simp
  | some t =>
   simp only[Option.bind_some,Q7,Wc,gt,Sa]
   cases e:a.tmps[t]? with
   | none=>simp[undef]
   | some v=>cases v<;>simp
def kZ(a:Act):List Oper->(Nat->Value)->Nat->Act
 | [],_,_=>a
 | o::os,v,k=>kZ (a.put o.dst (v k)) os v (k+1)
theorem im:∀(l:List Oper) (a:Act) (v:Nat->Value) (k:Nat),(kZ a l v k).defers=a.defers
 | [],a,v,k=>rfl
 | o::os,a,v,k=>by rw[kZ,im os,gh]
theorem h_:∀(l:List Oper) (a:Act) (v:Nat->Value) (k:Nat),(kZ a l v k).tmps.size=a.tmps.size
 | [],a,v,k=>rfl
 | o::os,a,v,k=>by rw[kZ,h_ os,size_put]
theorem wi:∀(l:List Oper) (o:Oper) (a:Act) (v:Nat->Value) (k:Nat),kZ a (l++[o]) v k=(kZ a l v k).put o.dst (v (k+l.length))
 | [],o,a,v,k=>rfl
 | x::os,o,a,v,k=>by rw[Uk,kZ,wi os o,kZ,Rr]; congr 2; omega
theorem lq(a:Act)(v:Nat->Value)(l:List Oper)(t:Nat)(ht:t<a.tmps.size):∀ k,k<=l.length ->
    gt (kZ a (l.take k) v 0) t=match lw (l.map (·.dst)) (fun _=>true) t k with|some i=>v i|none=>gt a t
 | 0,_=>by simp[kZ,lw]
 | k+1,hk=>by
  have c:k<l.length:=by omega
  rw[TH c,wi];have e:=lq a v l t ht k (by omega);unfold lw;have d:(l.map (·.dst))[k]?=some (l[k].dst):=by simp[c]
  rw[d];simp only[T_,SQ,Q7,QM,Rv (VQ c),Q8];by_cases b:l[k].dst=some t
  ·rw[QJ b,b,fH (by rw[h_]; exact ht)]
  ·rw[QC b,eL b,e]
section
variable{P:Program}{l:List Oper}{Q:Exit->Act->World->Prop}{F:Nat->Value->World->Prop}{a0:Act}{w0:World}{M:List Nat}{rows:List (List (Nat×Option Nat))}
structure Chk(l:List Oper)(M:List Nat)(rows:List (List (Nat×Option Nat)))(N:Nat)(j:Nat)(o:Oper):Prop where
 mask:∀ i,(M.getD j 0).testBit i=true->∃ e∈o.after,Region.binds .any e=true/\(i=e.on∨(M.getD e.on 0).testBit i=true)
 lower:∀ e∈o.after,Region.binds .any e=true->e.on<j
 acJ:∀ cs b,o.op≠.select cs b
 dlt:∀ d,o.dst=some d->d<N
 acr:∀ d,o.dst=some d->∀ k,k<j->(l.map (·.dst))[k]?=some (some d)->(M.getD j 0).testBit k=true
 reads:∀ r∈rows.getD j [],r.1<N/\r.2=lw (l.map (·.dst)) (fun _=>true) r.1 j
 aaC:∀ r∈rows.getD j [],∀ i,r.2=some i->(M.getD j 0).testBit i=true
 abq:∀ r∈rows.getD j [],∀ k,j<k->k<l.length->(l.map (·.dst))[k]?=some (some r.1)->(M.getD k 0).testBit j=true
theorem lQ{N:Nat}(h:ES l M rows N=true){j:Nat}{o:Oper}(p:l[j]?=some o):Chk l M rows N j o:=by
 unfold ES at h;have g:(o,j)∈l.zipIdx:=by
  rw[We]; simpa using p
 have v:j<l.length:=by
  rcases QA j l.length with h|h
  ·exact h
  ·rw[QD h]at p; cases p
 have:=Rs.1 h _ g;simp only[QK]at this;obtain⟨⟨⟨⟨w,x⟩,u⟩,f⟩,q⟩:=this;refine⟨fun i hi=>?_,fun e y z=>?_,fun A b e=>?_,fun d r=>?_,fun d r k hk c=>?_,fun t m=>?_,fun t m i hi=>?_,fun t m k hk s c=>?_⟩
 ·refine xc ?_;rw[<-SQ.1 w,Wk,hi,Bool.true_or]
 ·have a:=Array.all_eq_true_iff_forall_mem.1 x e y;rw[z]at a;simpa using a
 ·rw[e]at u; cases u
 ·rw[r]at f;simp only[QK,Qy]at f;exact f.1
 ·rw[r]at f;simp only[QK]at f;have a:=Rs.1 f.2 k (Rn.2 (by omega));rw[c]at a;simpa [hk]using a
 ·have a:=Rs.1 q t m;simp only[QK,Qy,SQ]at a;exact⟨a.1.1.1,a.1.1.2⟩
 ·have a:=Rs.1 q t m;simp only[QK]at a;have n:=a.1.2;rw[hi]at n;exact n
 ·have a:=Rs.1 q t m;simp only[QK]at a;have n:=Rs.1 a.2 k (Rn.2 s);rw[c]at n;simpa [hk]using n
theorem Ab{N:Nat}(b:ES l M rows N=true){a:Array Bool}(p:a.size=l.length)(h:Region.ready .any l.toArray a=[]) :
    ∀ j,j<l.length->a.getD j false=true:=by
 intro j
 induction j using Nat.strongRecOn with
 | _ j i =>
  intro k
  cases d:a.getD j false with
  | true=>rfl
  | false =>
   exfalso
   have c:j<a.size:=by omega
   obtain⟨o,f⟩:∃ o,l[j]?=some o:=⟨l[j],by simp[k]⟩
   have g:j∈Region.ready .any l.toArray a:=by
    refine mem_ready.2 ⟨?_,o,by simpa using f,fun e m n=>?_⟩
    ·simp[c]at d ⊢; exact d
    ·have:=(lQ b f).lower e m n;exact i e.on this (by omega)
   rw[h]at g; cases g
theorem BH{a:Array Bool}(h:a.count false=0):∀ j,j<a.size->a.getD j false=true:=by
 intro j b;rw[Array.count_eq_zero]at h;cases c:a[j]with
 | true=>simp[b,c]
 | false=>exact absurd (c▸Array.getElem_mem b) h
theorem AR{a:Array Bool}{j k:Nat}(c:j<a.size)(d:a.getD j true=false)(h:a.count false=k+1):(a.setIfInBounds j true).count false=k:=by
 have b:a[j]=false:=by simpa [c]using d
 rw[Array.setIfInBounds,dif_pos c,Array.count_set];simp[b,h]
end
def up(L:Nat->Bool)(j:Nat):Nat->Bool:=fun i=>if i=j then true else L i
def gf(v:Nat->Value)(j:Nat)(x:Value):Nat->Value:=fun i=>if i=j then x else v i
def ObJ(P:Program)(J:(Nat->Bool)->(Nat->Value)->World->Prop)(a0:Act)(M:List Nat)(ops:Array Oper)(j:Nat)(o:Oper)(b:List (Nat×Option Nat)):Prop :=
 ∀(L:Nat->Bool) (val:Nat->Value) (a:Act) (w:World),J L val w->L j=false->(∀ i,(M.getD j 0).testBit i=true->L i=true) ->
  (∀ r∈b,gt a r.1=match r.2 with|some i=>val i|none=>gt a0 r.1) ->
  (qm ops o a->fD P a.eval o w (fun v c=>J (up L j) (gf val j v) c))/\(¬qm ops o a->J (up L j) (gf val j undef) w)
section
variable{P:Program}{l:List Oper}{Q:Exit->Act->World->Prop}{J:(Nat->Bool)->(Nat->Value)->World->Prop}{a0:Act}{w0:World}{M:List Nat}{rows:List (List (Nat×Option Nat))}
structure Mc(J:(Nat->Bool)->(Nat->Value)->World->Prop)(a0:Act)(l:List Oper)(M:List Nat)(listed:Array Bool)(a:Act)(w:World)(val:Nat->Value):Prop where
 size:listed.size=l.length
 closed:∀ j i,listed.getD j false=true->(M.getD j 0).testBit i=true->listed.getD i false=true
 defers:a.defers=a0.defers
 C_:a.tmps.size=a0.tmps.size
 F6:∀ t,t<a0.tmps.size->gt a t=match lw (l.map (·.dst)) (fun i=>listed.getD i false) t l.length with|some i=>val i|none=>gt a0 t
 j:J (fun i=>listed.getD i false) val w
theorem EV{N:Nat}(hN:a0.tmps.size=N)(u:ES l M rows N=true)
    {j:Nat}{o:Oper} (E:l[j]?=some o) (aa:ObJ P J a0 M l.toArray j o (rows.getD j [])) {b:Array Bool}{a:Act}{w:World}{val:Nat->Value}
    (hi:Mc J a0 l M b a w val) (x:j∈Region.ready .any l.toArray b) {K:Act->World->Prop}
    (hK:∀ a' w' val',Mc J a0 l M (b.setIfInBounds j true) a' w' val'->K a' w'):wpOp P l.toArray Q j K a w:=by
 have C:=lQ u E;have p:j<l.length:=by
  rcases QA j l.length with h|h
  ·exact h
  ·rw[QD h]at E; cases E
 obtain⟨H,G,I,L⟩:=mem_ready.1 x;have ab:G=o:=by
  have:l.toArray[j]?=some o:=by simpa using E
  rw[this]at I; cases I; rfl
 subst ab;have c:b.getD j false=false:=by
  have:j<b.size:=by rw[hi.size]; exact p
  simp[this]at H ⊢; exact H
 have g:∀ i,(M.getD j 0).testBit i=true->b.getD i false=true:=by
  intro i hb;obtain⟨e,he,ac,q⟩:=C.mask i hb;have hl:=L e he ac;rcases q with rfl|q
  ·exact hl
  ·exact hi.closed _ _ hl q
 have O:∀ r∈rows.getD j [],lw (l.map (·.dst)) (fun i=>b.getD i false) r.1 l.length=r.2:=by
  intro r x;have y:∀ m,j<m->m<l.length->(l.map (·.dst))[m]?=some (some r.1)->b.getD m false=false:=by
   intro m q Y R;have hb:=C.abq r x m q Y R;cases hm:b.getD m false with
   | false=>rfl
   | true=>rw[hi.closed m j hm hb]at c; cases c
  have S:=(C.reads r x).2;cases z:r.2 with
  | some i =>
   have T:=S
   rw[z]at T
   obtain⟨q,_,R,h4⟩:=iz T.symm
   refine mq (by omega) (g i (C.aaC r x i z)) R fun m A n ⟨d,f⟩=>?_
   rcases TI m j with h|h|h
   ·exact h4 m A h ⟨rfl,f⟩
   ·subst h; rw[d]at c; cases c
   ·rw[y m h n f]at d; cases d
  | none =>
   rw[z]at S
   have h4:=CY S.symm
   refine mM fun m n ⟨d,f⟩=>?_
   rcases TI m j with h|h|h
   ·exact h4 m h ⟨rfl,f⟩
   ·subst h; rw[d]at c; cases c
   ·rw[y m h n f]at d; cases d
 have s:∀ r∈rows.getD j [],gt a r.1=match r.2 with|some i=>val i|none=>gt a0 r.1:=by
  intro r x;have R:r.1<a0.tmps.size:=by rw[hN]; exact(C.reads r x).1
  rw[hi.F6 r.1 R,O r x]
 obtain⟨ad,ae⟩:=aa _ val a w hi.j c g s;have af:(fun i=>(b.setIfInBounds j true).getD i false)=up (fun i=>b.getD i false) j:=by
  funext i;by_cases B:i=j
  ·subst B;have:i<b.size:=by rw[hi.size]; exact p
   simp[up,this]
  ·rw[getD_set_ne false (RN B)]; simp[up,B]
 have next:∀ v w',J (up (fun i=>b.getD i false) j) (gf val j v) w'->K (a.put G.dst v) w':=by
  intro v w' hF;refine hK _ _ (gf val j v) ⟨by simp[hi.size],?_,by rw[gh]; exact hi.defers,by rw[size_put]; exact hi.C_,?_,by rw[af]; exact hF⟩
  ·intro j' i q Y;by_cases U:j'=j
   ·subst U; exact getD_set_true (g i Y)
   ·rw[getD_set_ne false (RN U)]at q;exact getD_set_true (hi.closed j' i q Y)
  ·intro t ht;have D:(l.map (·.dst))[j]?=some G.dst:=by simp[E]
   by_cases V:G.dst=some t
   ·rw[V,fH (by rw[hi.C_]; exact ht)];have:lw (l.map (·.dst)) (fun i=>(b.setIfInBounds j true).getD i false) t l.length=some j:=by
     refine mq p (by have:j<b.size:=(by rw[hi.size]; exact p); simp[this]) (by rw[D,V]) fun m A n ⟨d,f⟩=>?_;rw[getD_set_ne false (by omega)]at d;obtain⟨om,W⟩:∃ om,l[m]?=some om:=⟨l[m],by simp[n]⟩;have ah:om.dst=some t:=by
      simp[W]at f; exact f
     have:=hi.closed m j d ((lQ u W).acr t ah j A (by rw[D,V]));rw[this]at c; cases c
    rw[this]; simp[gf]
   ·rw[eL V,hi.F6 t ht];have:∀ k,k<=l.length->lw (l.map (·.dst)) (fun i=>(b.setIfInBounds j true).getD i false) t k=lw (l.map (·.dst)) (fun i=>b.getD i false) t k:=by
     intro k
     induction k with
     | zero=>intro _; rfl
     | succ k ih =>
      intro hk
      unfold lw
      by_cases X:k=j
      ·subst X;have ai:((l.map (·.dst))[k]? == some (some t))=false:=by
        rw[D,RS]; intro e; exact V (Rk e)
       rw[ai,Ug,Ug];exact ih (by omega)
      ·rw[getD_set_ne false (RN X),ih (by omega)]
    rw[this _ (Qu _)];cases S:lw (l.map (·.dst)) (fun i=>b.getD i false) t l.length with
    | none=>rfl
    | some i =>
     obtain⟨_,h5,_⟩:=iz S
     have:i≠j:=fun e=>by subst e; rw[c]at h5; cases h5
     simp[gf,this]
 unfold wpOp;have aj:l.toArray[j]?=some G:=by simpa using E
 simp only[aj];by_cases Z:qm l.toArray G a
 ·rw[QJ (iS.2 Z)];exact .inl ((ad Z).wp fun v w' h=>next v w' h)
 ·rw[QC (fun e=>Z (iS.1 e))];exact next undef w (ae Z)
def mP(l:List Oper)(M:List Nat)(a:Nat):Bool :=
 decide (a<=l.length)&&((List.range l.length).all fun j=>decide (j<a)||(List.range a).all fun i=>(M.getD j 0).testBit i) &&
  Region.seqB .any l.toArray (l.length-a) a ((List.range l.length).map fun i=>decide (i<a)).toArray
theorem pN{N:Nat}{id:Nat}(hm:P.follows .mixedOrders=true)(J:(Nat->Bool)->(Nat->Value)->World->Prop)(M:List Nat)(rows:List (List (Nat×Option Nat)))(c:Nat)
    (hN:a0.tmps.size=N) (f:ES l M rows N=true) (y:mP l M c=true)
    (R:J (fun _=>false) (fun _=>undef) { w0 with drawn:=w0.drawn+1 })
    (S:∀ j o,j<c->l[j]?=some o->ObJ P J a0 M l.toArray j o (rows.getD j []))
    (hQ:∀(v:Nat->Value) (w:World),J (fun i=>decide (i<c)) v w->wpList P l.toArray Q (l.drop c) (kZ a0 (l.take c) v 0) w) :
    (Code.region id l.toArray true).wp P Q a0 w0:=by
 refine wp_region_any hm ?_;unfold mP at y;simp only[QK,Qy]at y;obtain⟨⟨C,D⟩,E⟩:=y;have z:∀ j,c<=j->j<l.length->∀ i,i<c->(M.getD j 0).testBit i=true:=by
  intro j u A i hi;have:=Rs.1 D j (Rn.2 A);rw[RE,Qy]at this;rcases this with h|h
  ·omega
  ·exact Rs.1 h i (Rn.2 hi)
 have T:∀{b:Array Bool},(∀ j,j<c->b.getD j false=true)->(∀ j,c<=j->b.getD j false=false)->∀(t k:Nat),lw (l.map (·.dst)) (fun i=>b.getD i false) t k=lw (l.map (·.dst)) (fun _=>true) t (min k c):=by
  intro b u A t k
  induction k with
  | zero=>rw[Nat.zero_min]; rfl
  | succ k x =>
   rcases QA k c with h|h
   ·rw[Rv (by omega)];rw[Rv (by omega)]at x;simp only[lw,u k h,x]
   ·rw[V5 (by omega)];rw[V5 (by omega)]at x;simp only[lw,A k h,Bool.false_and,U0,Sl,x]
 have fin:∀{b:Array Bool}{a:Act}{w:World}{val:Nat->Value},Mc J a0 l M b a w val->(∀ j,j<c->b.getD j false=true)->(∀ j,c<=j->b.getD j false=false) ->
     wpAny P .any l.toArray Q (b.count false) b a w:=by
  intro b a w val hi u A;have ha:a=kZ a0 (l.take c) val 0:=by
   refine CE (by rw[im]; exact hi.defers) (by rw[h_]; exact hi.C_) fun t Z=>?_;have G:t<a0.tmps.size:=by rw[<-hi.C_]; exact Z
   rw[lq a0 val l t G c C,hi.F6 t G,T u A,V5 C]
   try (cases lw (l.map (·.dst)) (fun _=>true) t c<;>rfl)
  have g:b=((List.range l.length).map fun i=>decide (i<c)).toArray:=by
   refine Vf (by simp[hi.size]) fun i U q2=>?_;have aa:i<l.length:=by rw[<-hi.size]; exact U
   rcases QA i c with h|h
   ·have:=u i h;simp[U]at this;simp[this,h]
   ·have:=A i h;simp[U]at this;simp[this,h]
  have r:b.count false=(l.drop c).length:=by
   rw[g,List.count_toArray,Q5];have:∀ n,List.count false ((List.range n).map fun i=>decide (i<c))=n-c:=by
    intro n
    induction n with
    | zero=>simp
    | succ n x =>
     rw[T8,SG,List.count_append,x]
     rcases QA n c with h|h
     ·simp[h]; omega
     ·simp[Vp.2 h]; omega
   exact this _
  have hJ:J (fun i=>decide (i<c)) val w:=by
   have e:(fun i=>b.getD i false)=fun i=>decide (i<c):=by
    funext i;rcases QA i c with h|h
    ·rw[u i h,QY h]
    ·rw[A i h,Q4 (Vp.2 h)]
   have:=hi.j;rwa [e]at this
  rw[r];refine wpAny_of_seq (l.drop c) c b a w (fun j=>by simp) ?_ (ha▸hQ val w hJ);rw[g,Q5]; exact E
 have key:∀(d:Nat) (b:Array Bool) (a:Act) (w:World) (val:Nat->Value),Mc J a0 l M b a w val->(∀ j,c<=j->b.getD j false=false)->b.count false=d ->
     wpAny P .any l.toArray Q d b a w:=by
  intro d
  induction d with
  | zero =>
   intro b a w val hi s H
   rw[<-H]
   exact fin hi (fun j L=>BH H j (by rw[hi.size]; omega)) s
  | succ d x =>
   intro b a w val hi s H
   by_cases p:∀ j,j<c->b.getD j false=true
   ·rw[<-H]; exact fin hi p s
   ·refine⟨fun h=>absurd (fun j L=>Ab f hi.size h j (by omega)) p,fun j L=>?_⟩;obtain⟨u,o,ho,V⟩:=mem_ready.1 L;have q:l[j]?=some o:=by simpa using ho
    have I:j<l.length:=by
     rcases QA j l.length with h|h
     ·exact h
     ·rw[QD h]at q; cases q
    have W:j<c:=by
     rcases QA j c with h|h
     ·exact h
     ·refine absurd (fun i B=>?_) p;obtain⟨e,he,X,Y⟩:=(lQ f q).mask i (z j h I i B);have hl:=V e he X;rcases Y with rfl|Y
      ·exact hl
      ·exact hi.closed _ _ hl Y
    exact EV hN f q (S j o W q) hi L fun a' w' K B=>x _ a' w' K B
     (fun k hk=>by rw[getD_set_ne false (by omega)]; exact s k hk) (AR (by rw[hi.size]; exact I) u H)
 have O:∀ j,(Array.replicate l.toArray.size false).getD j false=false:=by
  intro j;simp only[RQ,Sa,Array.getElem?_replicate];split<;>rfl
 refine key l.length _ a0 _ (fun _=>undef) ⟨by simp,?_,rfl,rfl,?_,?_⟩ (fun j _=>O j) (by simp)
 ·intro j i h _;rw[O]at h; cases h
 ·intro t Z;have:lw (l.map (·.dst)) (fun i=>(Array.replicate l.toArray.size false).getD i false) t l.length=none:=by
   refine mM fun m _ ⟨h,_⟩=>?_;rw[O]at h; cases h
  rw[this]
 ·have e:(fun i=>(Array.replicate l.toArray.size false).getD i false)=fun _=>false:=funext O;rw[e]; exact R
end
end Go.Proofs.YtbokoblnehgkaabGreat.Tw
namespace Go.Proofs.YtbokoblnehgkaabGreat.Gx
open Go Go.RowKit Tw
inductive Ty where
 | bool
 | int (k:IntKind)
 | str
 | slice (t:Ty)
 | pair (t u:Ty)
 | one (t:Ty)
 | fn
@[reducible] def Ty.den:Ty->Type
 | .bool=>Bool
 | .int _=>Int
 | .str=>List UInt8
 | .slice t=>List t.den
 | .pair t u=>t.den×u.den
 | .one t=>t.den
 | .fn=>Unit
def Ty.size:Ty->Nat
 | .pair t u=>t.size+u.size
 | .one t=>t.size
 | _=>1
def Ty.isAgg:Ty->Bool
 | .pair _ _|.one _=>true
 | _=>false
def Ty.wrap(t:Ty)(cs:List Value):Value:=if t.isAgg then .agg cs.toArray else cs.headD undef
def lo:IntKind->Int
 | .i8 => -128|.i16 => -32768|.i32 => -2147483648|.i64 => -9223372036854775808|_=>0
def hi:IntKind->Int
 | .i8=>127|.i16=>32767|.i32=>2147483647|.i64=>9223372036854775807
 | .u8=>255|.u16=>65535|.u32=>4294967295|.u64=>18446744073709551615
abbrev gG(k:IntKind)(n:Int):Prop:=lo k<=n/\n<=hi k
theorem CA{k:IntKind}{n:Int}(h:gG k n):k.wrap n=n:=by
 cases k<;>simp only[gG,lo,hi]at h<;>simp only[IntKind.wrap,IntKind.bits,IntKind.signed]<;>simp<;>omega
structure Ev(X:Nat->Prop)(w w':World):Prop where
 size:w.heap.size<=w'.heap.size
 block:∀ k,k<w.heap.size->¬X k->w'.heap[k]?=w.heap[k]?
theorem Ev.c8{X:Nat->Prop}{w w':World}(h:Below w.heap.size w w'):Ev X w w':=⟨h.size,fun k hk _=>h.block k hk⟩
theorem b9{w:World}{b:Nat}{o:Obj}(h:w.heap[b]?=some o):b<w.heap.size:=by
 rcases QA b w.heap.size with c|c
 ·exact c
 ·rw[Sj c]at h; cases h
def rep:(t:Ty)->(Nat->Prop)->World->List Value->t.den->Prop
 | .bool,_,_,c,b=>c=[.bool b]
 | .int k,_,_,c,n=>c=[.int k n]/\gG k n
 | .str,_,_,c,s=>c=[.string ⟨s.toArray⟩]/\s.length<=maxLen
 | .slice t,X,w,c,l=>∃ a cap,c=[.slice a l.length cap]/\l.length<=cap/\cap<=maxLen/\(a=none->cap=0) /\
     (l≠[]->∃ b off C T f,a=some ⟨b,off,none⟩/\¬X b/\w.heap[b]?=some (.cells C T f) /\
      ∀ i x,l[i]?=some x->rep t X w ((C.toList.drop (off+i*t.size)).take t.size) x)
 | .pair t u,X,w,c,p=>rep t X w (c.take t.size) p.1/\rep u X w (c.drop t.size) p.2
 | .one t,X,w,c,p=>rep t X w c p
 | .fn,_,_,c,_=>c=[.nilFunc]
theorem eR:∀{t:Ty}{X:Nat->Prop}{w:World}{cs:List Value}{a:t.den},rep t X w cs a->cs.length=t.size
 | .bool,_,_,_,_,h=>by rw[h]; rfl
 | .int _,_,_,_,_,h=>by rw[h.1]; rfl
 | .str,_,_,_,_,h=>by rw[h.1]; rfl
 | .slice _,_,_,_,_,h=>by obtain⟨a,cap,e,_⟩:=h; rw[e]; rfl
 | .pair t u,_,_,cs,_,h=>by
  have c:=eR h.1;have f:=eR h.2;simp only[QM,Q5]at c f;simp only[Ty.size];rcases QA cs.length t.size with g|g
  ·have:min t.size cs.length=cs.length:=by omega
   omega
  ·omega
 | .one t,_,_,_,_,h=>eR (t:=t) h
 | .fn,_,_,_,_,h=>by rw[h]; rfl
theorem gz:∀{t:Ty}{X:Nat->Prop}{w:World}{cs:List Value}{a:t.den},rep t X w cs a->∀ c∈cs,c.oneCell'=true
 | .bool,_,_,_,_,h,c,f=>by rw[h]at f; simp at f; subst f; rfl
 | .int _,_,_,_,_,h,c,f=>by rw[h.1]at f; simp at f; subst f; rfl
 | .str,_,_,_,_,h,c,f=>by rw[h.1]at f; simp at f; subst f; rfl
 | .slice _,_,_,_,_,h,c,f=>by obtain⟨a,cap,e,_⟩:=h; rw[e]at f; simp at f; subst f; rfl
 | .pair t u,_,_,cs,_,h,c,f=>by
  rw[<-Q6 t.size cs]at f;rcases QZ.1 f with f|f
  ·exact gz h.1 c f
  ·exact gz h.2 c f
 | .one t,_,_,_,_,h,c,f=>gz (t:=t) h c f
 | .fn,_,_,_,_,h,c,f=>by rw[h]at f; simp at f; subst f; rfl
theorem fx:∀{t:Ty}{X:Nat->Prop}{w w':World}{cs:List Value}{a:t.den},rep t X w cs a->Ev X w w'->rep t X w' cs a
 | .bool,_,_,_,_,_,h,_=>h
 | .int _,_,_,_,_,_,h,_=>h
 | .str,_,_,_,_,_,h,_=>h
 | .slice t,_,_,_,_,_,⟨a,cap,m,p,q,s,v⟩,e=>⟨a,cap,m,p,q,s,fun y=>by
     obtain⟨b,off,C,T,f,z,c,g,A⟩:=v y;exact⟨b,off,C,T,f,z,c,by rw[e.block b (b9 g) c]; exact g,fun i x D=>fx (A i x D) e⟩⟩
 | .pair t u,_,_,_,_,_,h,e=>⟨fx h.1 e,fx h.2 e⟩
 | .one t,_,_,_,_,_,h,e=>fx (t:=t) h e
 | .fn,_,_,_,_,_,h,_=>h
theorem eJ:∀{t:Ty}{X Y:Nat->Prop}{w:World}{cs:List Value}{a:t.den},rep t X w cs a->(∀ b,Y b->X b∨w.heap.size<=b)->rep t Y w cs a
 | .bool,_,_,_,_,_,h,_=>h
 | .int _,_,_,_,_,_,h,_=>h
 | .str,_,_,_,_,_,h,_=>h
 | .slice t,_,_,_,_,_,⟨a,cap,g,m,p,q,s⟩,e=>⟨a,cap,g,m,p,q,fun v=>by
     obtain⟨b,off,C,T,f,y,z,c,A⟩:=s v;refine⟨b,off,C,T,f,y,fun D=>?_,c,fun i x F=>eJ (A i x F) e⟩;rcases e b D with h|h
     ·exact z h
     ·have:=b9 c; omega⟩
 | .pair t u,_,_,_,_,_,h,e=>⟨eJ h.1 e,eJ h.2 e⟩
 | .one t,_,_,_,_,_,h,e=>eJ (t:=t) h e
 | .fn,_,_,_,_,_,h,_=>h
inductive AV where
 | any
 | val (v:Value)
 | lit (b:Bool)
 | a_ (t:Ty) (a:t.den)
 | rT (t:Ty) (a:t.den)
 | own (c:Nat)
 | ref (c off:Nat)
 | js (l:AV)
 | agg (l:AV)
 | kL (f:FuncId) (l:AV)
 | ix (c i sz:Nat)
 | ti (c i sz o:Nat)
 | iE (c n:Nat)
 | jM (d k:Nat)
 | rH (d k i sz:Nat)
 | tl (c i:Nat)
 | zX (c:Prop)
 | imp (c:Prop) (x:AV)
 | nil
 | cons (x l:AV)
def fa:Value->Option Nat
 | .slice (some a) _ _=>some a.block
 | .pointer (some a)=>some a.block
 | _=>none
def Aq(v:Value)(n:Nat):Prop:=(v=.slice none 0 0/\n=0)∨∃ g cap,v=.slice (some ⟨g,0,none⟩) n cap
theorem zI{v:Value}{n:Nat}(h:Aq v n):v.oneCell'=true:=by
 rcases h with⟨rfl,_⟩|⟨g,cap,rfl⟩<;>rfl
def tlV(v:Value)(i:Nat)(u:Value):Prop:=(v=.slice none 0 0/\u=.slice none 0 0)∨∃ g n cap off,v=.slice (some ⟨g,0,none⟩) n cap/\u=.slice (some ⟨g,off,none⟩) (n-i) (cap-i)/\(i<n->off=i)
def m(ρ:List Value)(X:Nat->Prop)(w:World):AV->List Value->Prop
 | .any,g=>∃ v,g=[v]
 | .val x,g=>g=[x]
 | .lit b,g=>g=[.bool b]
 | .a_ t a,g=>∃ p,rep t X w p a/\g=[t.wrap p]
 | .rT t a,g=>∃ b off C T f,g=[.pointer (some ⟨b,off,none⟩)]/\¬X b/\w.heap[b]?=some (.cells C T f)/\rep t X w ((C.toList.drop off).take t.size) a
 | .own c,g=>∃ v,ρ[c]?=some v/\v.oneCell'=true/\g=[v]
 | .ref c off,g=>∃ v b,ρ[c]?=some v/\fa v=some b/\g=[.pointer (some ⟨b,off,none⟩)]
 | .js l,g=>∃ h,g=[.tuple h.toArray]/\m ρ X w l h
 | .agg l,g=>∃ h,g=[.agg h.toArray]/\m ρ X w l h/\∀ u∈h,u.oneCell'=true
 | .kL f l,g=>∃ h,g=[.func (.func f) #[] h.toArray]/\m ρ X w l h
 | .ix c i sz,g=>∃ v b,ρ[c]?=some v/\fa v=some b/\g=[.pointer (some ⟨b,i*sz,none⟩)]
 | .ti c i sz o,g=>∃ v b,ρ[c]?=some v/\fa v=some b/\g=[.pointer (some ⟨b,i*sz+o,none⟩)]
 | .iE c n,g=>∃ v,ρ[c]?=some v/\Aq v n/\g=[v]
 | .jM d k,g=>∃ h v,ρ[d]?=some (.tuple h)/\h.toList[k]?=some v/\v.oneCell'=true/\g=[v]
 | .rH d k i sz,g=>∃ h v b,ρ[d]?=some (.tuple h)/\h.toList[k]?=some v/\fa v=some b/\g=[.pointer (some ⟨b,i*sz,none⟩)]
 | .tl c i,g=>∃ v u,ρ[c]?=some v/\tlV v i u/\g=[u]
 | .zX c,g=>∃ b,g=[.bool b]/\(b=true->c)
 | .imp c x,g=>∃ v,g=[v]/\(c->m ρ X w x [v])/\(¬c->v=undef)
 | .nil,g=>g=[]
 | .cons x l,g=>∃ v h,g=v::h/\m ρ X w x [v]/\m ρ X w l h
theorem oT{ρ:List Value}{X:Nat->Prop}{w w':World}(e:Ev X w w'):∀{x:AV}{vs:List Value},m ρ X w x vs->m ρ X w' x vs
 | .any,_,h=>h
 | .val _,_,h=>h
 | .lit _,_,h=>h
 | .a_ t a,_,⟨s,i,g⟩=>⟨s,fx i e,g⟩
 | .rT t a,_,⟨b,off,C,T,f,i,g,p,y⟩=>⟨b,off,C,T,f,i,g,by rw[e.block b (b9 p) g]; exact p,fx y e⟩
 | .own _,_,h=>h
 | .ref _ _,_,h=>h
 | .js l,_,⟨q,i,g⟩=>⟨q,i,oT e g⟩
 | .agg l,_,⟨q,i,g,p⟩=>⟨q,i,oT e g,p⟩
 | .kL f l,_,⟨q,i,g⟩=>⟨q,i,oT e g⟩
 | .ix _ _ _,_,h=>h
 | .ti _ _ _ _,_,h=>h
 | .iE _ _,_,h=>h
 | .jM _ _,_,h=>h
 | .rH _ _ _ _,_,h=>h
 | .tl _ _,_,h=>h
 | .zX _,_,h=>h
 | .imp c x,_,⟨v,i,g,p⟩=>⟨v,i,fun z=>oT e (g z),p⟩
 | .nil,_,h=>h
 | .cons x l,_,⟨v,q,i,g,p⟩=>⟨v,q,i,oT e g,oT e p⟩
theorem fN{ρ:List Value}{X Y:Nat->Prop}{w:World}(e:∀ b,Y b->X b∨w.heap.size<=b):∀{x:AV}{vs:List Value},m ρ X w x vs->m ρ Y w x vs
 | .any,_,h=>h
 | .val _,_,h=>h
 | .lit _,_,h=>h
 | .a_ t a,_,⟨s,g,i⟩=>⟨s,eJ g e,i⟩
 | .rT t a,_,⟨b,off,C,T,f,g,i,p,y⟩=>⟨b,off,C,T,f,g,fun z=>by
     rcases e b z with h|h
     ·exact i h
     ·have:=b9 p; omega,p,eJ y e⟩
 | .own _,_,h=>h
 | .ref _ _,_,h=>h
 | .js l,_,⟨q,g,i⟩=>⟨q,g,fN e i⟩
 | .agg l,_,⟨q,g,i,p⟩=>⟨q,g,fN e i,p⟩
 | .kL f l,_,⟨q,g,i⟩=>⟨q,g,fN e i⟩
 | .ix _ _ _,_,h=>h
 | .ti _ _ _ _,_,h=>h
 | .iE _ _,_,h=>h
 | .jM _ _,_,h=>h
 | .rH _ _ _ _,_,h=>h
 | .tl _ _,_,h=>h
 | .zX _,_,h=>h
 | .imp c x,_,⟨v,g,i,p⟩=>⟨v,g,fun A=>fN e (i A),p⟩
 | .nil,_,h=>h
 | .cons x l,_,⟨v,q,g,i,p⟩=>⟨v,q,g,fN e i,fN e p⟩
theorem ap{ρ l:List Value}{c:Nat}{v:Value}(h:ρ[c]?=some v):(ρ++l)[c]?=some v:=by
 have g:c<ρ.length:=by
  rcases QA c ρ.length with f|f
  ·exact f
  ·rw[QD f]at h; cases h
 rw[Q0 g]; exact h
theorem iI{ρ:List Value}(l:List Value){X:Nat->Prop}{w:World}:∀{x:AV}{vs:List Value},m ρ X w x vs->m (ρ++l) X w x vs
 | .any,_,h=>h
 | .val _,_,h=>h
 | .lit _,_,h=>h
 | .a_ t a,_,h=>h
 | .rT t a,_,h=>h
 | .own c,_,⟨v,h,g⟩=>⟨v,ap h,g⟩
 | .ref _ _,_,⟨v,b,h,g⟩=>⟨v,b,ap h,g⟩
 | .js _,_,⟨i,p,q⟩=>⟨i,p,iI l q⟩
 | .agg _,_,⟨i,p,q,s⟩=>⟨i,p,iI l q,s⟩
 | .kL f _,_,⟨i,p,q⟩=>⟨i,p,iI l q⟩
 | .ix _ _ _,_,⟨v,b,h,g⟩=>⟨v,b,ap h,g⟩
 | .ti _ _ _ _,_,⟨v,b,h,g⟩=>⟨v,b,ap h,g⟩
 | .iE _ _,_,⟨v,h,g⟩=>⟨v,ap h,g⟩
 | .jM _ _,_,⟨i,v,h,g⟩=>⟨i,v,ap h,g⟩
 | .rH _ _ _ _,_,⟨i,v,b,h,g⟩=>⟨i,v,b,ap h,g⟩
 | .tl _ _,_,⟨v,u,h,g⟩=>⟨v,u,ap h,g⟩
 | .zX _,_,h=>h
 | .imp c x,_,⟨v,p,q,s⟩=>⟨v,p,fun y=>iI l (q y),s⟩
 | .nil,_,h=>h
 | .cons x k,_,⟨v,i,p,q,s⟩=>⟨v,i,p,iI l q,iI l s⟩
def gM(c:Nat):AV->AV
 | .own g=>match Nat.beq g c with|true=>.any|false=>.own g
 | .ref g o=>match Nat.beq g c with|true=>.any|false=>.ref g o
 | .ix g i sz=>match Nat.beq g c with|true=>.any|false=>.ix g i sz
 | .ti g i sz o=>match Nat.beq g c with|true=>.any|false=>.ti g i sz o
 | .iE g n=>match Nat.beq g c with|true=>.any|false=>.iE g n
 | .jM d k=>match Nat.beq d c with|true=>.any|false=>.jM d k
 | .rH d k i sz=>match Nat.beq d c with|true=>.any|false=>.rH d k i sz
 | .tl g i=>match Nat.beq g c with|true=>.any|false=>.tl g i
 | .cons x l=>.cons (gM c x) (gM c l)
 | .js l=>.js (gM c l)
 | .agg l=>.agg (gM c l)
 | .kL f l=>.kL f (gM c l)
 | .imp p x=>.imp p (gM c x)
 | x=>x
theorem nk{ρ:List Value}{c f:Nat}{v u:Value}(h:ρ[f]?=some v)(g:Nat.beq f c=false):(ρ.set c u)[f]?=some v:=by
 rw[Rm (fun e=>by rw[e,S6]at g; cases g)]; exact h
theorem lu{ρ:List Value}{c:Nat}(u:Value){X:Nat->Prop}{w:World}:∀{x:AV}{vs:List Value},m ρ X w x vs->m (ρ.set c u) X w (gM c x) vs
 | .any,_,h=>h
 | .val _,_,h=>h
 | .lit _,_,h=>h
 | .a_ t a,_,h=>h
 | .rT t a,_,h=>h
 | .own z,_,⟨v,h,A⟩=>by
  unfold gM;split
  ·exact⟨v,A.2⟩
  ·rename_i e; exact⟨v,nk h e,A⟩
 | .ref z _,_,⟨v,b,h,q,g⟩=>by
  unfold gM;split
  ·exact⟨_,g⟩
  ·rename_i e; exact⟨v,b,nk h e,q,g⟩
 | .js _,_,⟨s,q,g⟩=>⟨s,q,lu u g⟩
 | .agg _,_,⟨s,q,g,y⟩=>⟨s,q,lu u g,y⟩
 | .kL f _,_,⟨s,q,g⟩=>⟨s,q,lu u g⟩
 | .ti z _ _ _,_,⟨v,b,h,q,g⟩=>by
  unfold gM;split
  ·exact⟨_,g⟩
  ·rename_i e; exact⟨v,b,nk h e,q,g⟩
 | .ix z _ _,_,⟨v,b,h,q,g⟩=>by
  unfold gM;split
  ·exact⟨_,g⟩
  ·rename_i e; exact⟨v,b,nk h e,q,g⟩
 | .iE z n,_,⟨v,h,A⟩=>by
  unfold gM;split
  ·exact⟨v,A.2⟩
  ·rename_i e; exact⟨v,nk h e,A⟩
 | .jM d k,_,⟨s,v,h,q,g,y⟩=>by
  unfold gM;split
  ·exact⟨v,y⟩
  ·rename_i e; exact⟨s,v,nk h e,q,g,y⟩
 | .rH d k i sz,_,⟨s,v,b,h,q,g,y⟩=>by
  unfold gM;split
  ·exact⟨_,y⟩
  ·rename_i e; exact⟨s,v,b,nk h e,q,g,y⟩
 | .tl z i,_,⟨v,C,h,q,g⟩=>by
  unfold gM;split
  ·exact⟨C,g⟩
  ·rename_i e; exact⟨v,C,nk h e,q,g⟩
 | .zX _,_,h=>h
 | .imp p x,_,⟨v,q,g,y⟩=>⟨v,q,fun D=>lu u (g D),y⟩
 | .nil,_,h=>h
 | .cons x k,_,⟨v,s,q,g,y⟩=>⟨v,s,q,lu u g,lu u y⟩
inductive CT where
 | box (T:TypeId) (l:AV)
 | row (T:TypeId) (t:Ty) (l:List t.den)
 | eW (T:TypeId) (o:Bool) (d:Nat) (hl:Option Nat)
 | gv (T:TypeId) (t:Ty) (ll:List (List t.den))
structure St where
 sl:List (Nat×AV)
 ck:List (Nat×CT)
 nx:Nat
def get?{c:Type}:List (Nat×c)->Nat->Option c
 | [],_=>none
 | (k,x)::l,t=>match Nat.beq k t with
  | true=>some x
  | false=>get? l t
def del{c:Type}:List (Nat×c)->Nat->List (Nat×c)
 | [],_=>[]
 | (k,x)::l,t=>match Nat.beq k t with
  | true=>del l t
  | false=>(k,x)::del l t
def jh{c:Type}:List (Nat×c)->Nat->c->List (Nat×c)
 | [],t,y=>[(t,y)]
 | (k,x)::l,t,y=>match Nat.beq k t with
  | true=>(t,y)::l
  | false=>(k,x)::jh l t y
theorem fO{k t:Nat}(h:Nat.beq k t=true):k=t:=QR h
theorem qz{k t:Nat}(h:Nat.beq k t=false):k≠t:=T7 h
theorem b7{c:Type}{x:c}{t:Nat}:∀{l:List (Nat×c)},get? l t=some x->(t,x)∈l
 | (k,y)::l,h=>by
  unfold get? at h;split at h
  ·rename_i e; cases h; rw[fO e]; exact Qx
  ·exact Qs _ (b7 h)
theorem fX{c:Type}{x:Nat×c}{t:Nat}:∀{l:List (Nat×c)},x∈del l t->x∈l/\x.1≠t
 | (k,y)::l,h=>by
  unfold del at h;split at h
  ·exact⟨Qs _ (fX h).1,(fX h).2⟩
  ·rename_i e;rcases Qv.1 h with rfl|h
   ·exact⟨Qx,qz e⟩
   ·exact⟨Qs _ (fX h).1,(fX h).2⟩
theorem lT{c:Type}{t:Nat}:∀{l:List (Nat×c)},List.Sublist ((del l t).map (·.1)) (l.map (·.1))
 | []=>.slnil
 | (k,y)::l=>by
  unfold del;split
  ·exact .cons _ lT
  ·exact .cons_cons _ lT
theorem pV{c:Type}{x:Nat×c}{t:Nat}{y:c}:∀{l:List (Nat×c)},(l.map (·.1)).Nodup->x∈jh l t y->x=(t,y)∨(x∈l/\x.1≠t)
 | [],_,h=>by simp[jh]at h; exact .inl h
 | (k,z)::l,f,h=>by
  simp only[S0,Sm]at f;unfold jh at h;split at h
  ·rename_i e;rcases Qv.1 h with rfl|h
   ·exact .inl rfl
   ·refine .inr ⟨Qs _ h,fun g=>f.1 ?_⟩;rw[fO e,<-g]; exact TN h
  ·rename_i e;rcases Qv.1 h with rfl|h
   ·exact .inr ⟨Qx,qz e⟩
   ·rcases pV f.2 h with h|h
    ·exact .inl h
    ·exact .inr ⟨Qs _ h.1,h.2⟩
theorem iA{c:Type}{t:Nat}{y z:c}:∀{l:List (Nat×c)},get? l t=some z->(jh l t y).map (·.1)=l.map (·.1)
 | (k,x)::l,h=>by
  unfold get? at h;unfold jh;split at h
  ·rename_i e; simp[fO e]
  ·rename_i e; simp[iA h]
def zc:Ty->List Value
 | .bool=>[.bool false]
 | .int k=>[.int k 0]
 | .str=>[.string ⟨#[]⟩]
 | .slice _=>[.slice none 0 0]
 | .pair t u=>zc t++zc u
 | .one t=>zc t
 | .fn=>[.nilFunc]
def zd:(t:Ty)->t.den
 | .bool=>false
 | .int _=>(0:Int)
 | .str=>[]
 | .slice _=>[]
 | .pair t u=>(zd t,zd u)
 | .one t=>zd t
 | .fn=>()
theorem fw:∀ t:Ty,(zc t).length=t.size
 | .bool=>rfl
 | .int _=>rfl
 | .str=>rfl
 | .slice _=>rfl
 | .pair t u=>by simp[zc,Ty.size,fw t,fw u]
 | .one t=>fw t
 | .fn=>rfl
theorem g_(X:Nat->Prop)(w:World):∀ t:Ty,rep t X w (zc t) (zd t)
 | .bool=>rfl
 | .int k=>⟨rfl,by cases k<;>simp[gG,lo,hi,zd]⟩
 | .str=>⟨rfl,by simp[zd,maxLen]⟩
 | .slice _=>⟨none,0,rfl,by simp[zd],by simp[maxLen],fun _=>rfl,fun h=>absurd rfl h⟩
 | .pair t u=>by
  refine⟨?_,?_⟩
  ·rw[show(zc (.pair t u)).take t.size=zc t by simp[zc,<-fw t]]; exact g_ X w t
  ·rw[show(zc (.pair t u)).drop t.size=zc u by simp[zc,<-fw t]]; exact g_ X w u
 | .one t=>g_ X w t
 | .fn=>rfl
structure TE where
 ty:Ty
 elem:Nat
 bytes:Nat
 nf:Nat
def MY:TypeDesc->Bool
 | .struct _|.array _ _=>true
 | _=>false
def Bh:(c:Nat)->(t:Ty)->(f:Nat)->Option (Nat×((u:Ty)×(t.den->u.den)))
 | 0,_,_=>none
 | c+1,t,f=>match c with
  | 0=>match f with
   | 0=>some (0,⟨t,fun p=>p⟩)
   | _+1=>none
  | h+1=>match t with
   | .pair t u=>match f with
    | 0=>some (0,⟨t,fun p=>p.1⟩)
    | i+1=>match Bh c u i with
     | some (o,⟨v,g⟩)=>some (t.size+o,⟨v,fun p=>g p.2⟩)
     | none=>none
   | _=>none
def sn(t:Ty)(c f:Nat):Option (Nat×((u:Ty)×(t.den->u.den))) :=
 match Nat.beq c 1 with
 | true=>match t with
  | .one u=>match f with
   | 0=>some (0,⟨u,fun p=>p⟩)
   | _+1=>none
  | _=>none
 | false=>Bh c t f
theorem vy:∀{i:Nat}{t:Ty}{f o:Nat}{u:Ty}{g:t.den->u.den},Bh i t f=some (o,⟨u,g⟩)->o+u.size<=t.size/\∀{X w cs a},rep t X w cs a->rep u X w ((cs.drop o).take u.size) (g a)
 | 0,_,_,_,_,_,h=>by cases h
 | i+1,t,f,o,u,g,h=>by
  unfold Bh at h;split at h
  ·split at h
   ·cases h;refine⟨by omega,fun{X w cs a} c=>?_⟩;rw[RP,QQ (by rw[eR c]; exact Qu _)]; exact c
   ·cases h
  ·split at h
   ·split at h
    ·cases h;refine⟨by simp only[Ty.size]; omega,fun{X w cs a} c=>?_⟩;rw[RP]; exact c.1
    ·split at h
     ·rename_i p v q e;cases h;obtain⟨s,m⟩:=vy e;refine⟨by simp only[Ty.size]; omega,fun{X w cs a} c=>?_⟩;have:=m c.2;rwa [RT]at this
     ·cases h
   ·cases h
theorem tS{t:Ty}{i f o:Nat}{u:Ty}{g:t.den->u.den}(h:sn t i f=some (o,⟨u,g⟩)):o+u.size<=t.size/\∀{X w cs a},rep t X w cs a->rep u X w ((cs.drop o).take u.size) (g a):=by
 unfold sn at h;split at h
 ·split at h
  ·split at h
   ·cases h;refine⟨by simp only[Ty.size]; omega,fun{X w cs a} c=>?_⟩;rw[RP,QQ (by rw[eR (t:=.one _) c]; exact Qu _)]; exact c
   ·cases h
  ·cases h
 ·exact vy h
def sF(P:Program)(T:TypeId)(e:TE)(f:Nat):Bool :=
 match sn e.ty e.nf f,P.underlying T with
 | some (o,⟨u,_⟩),some (.struct fs)=>match fs[f]? with
  | some F=>F.offset == o&&(match P.info? F.type with|some i=>i.size != 0&&i.size == u.size|none=>false)
  | none=>false
 | _,_=>false
def Du(P:Program)(T:TypeId):Bool :=
 match P.underlying T with
 | some (.struct fs)=>(fs.toList.mapM (fun f=>(P.info? f.type).map fun i=>(f.offset,i.size))).isSome
 | _=>true
def sdB(P:Program)(T:TypeId)(e:TE):Bool :=
 match e.ty with
 | .slice _=>(match P.underlying T with|some (.slice k)=>Nat.beq k e.elem|_=>false)
 | .str=>(match P.underlying T with|some .string=>true|_=>false)
 | .int k=>(match P.underlying T with|some (.int c)=>decide (c=k)|_=>false)
 | .bool=>(match P.underlying T with|some .bool=>true|_=>false)
 | _=>true
structure b_(P:Program)(T:TypeId)(e:TE):Prop where
 i:(P.info? T).map (fun i=>(i.zero,i.size,i.bytes))=some (some (e.ty.wrap (zc e.ty)),e.ty.size,e.bytes)
 u:(P.underlying T).map MY=some e.ty.isAgg
 s0:sdB P T e=true
 f:(List.range e.nf).all (sF P T e)=true
 m:Du P T=true
theorem b_.s{P:Program}{T:TypeId}{e:TE}(h:b_ P T e):match e.ty with|.slice _=>P.underlying T=some (.slice e.elem)|.str=>P.underlying T=some .string|.int k=>P.underlying T=some (.int k)|.bool=>P.underlying T=some .bool|_=>True:=by
 have:=h.s0;unfold sdB at this;split
 ·rename_i c;simp only[c]at this;split at this
  ·rename_i f; rw[f,fO this]
  ·cases this
 ·rename_i c;simp only[c]at this;split at this
  ·rename_i f; exact f
  ·cases this
 ·rename_i k c;simp only[c]at this;split at this
  ·rename_i f; rw[f,QF this]
  ·cases this
 ·rename_i c;simp only[c]at this;split at this
  ·rename_i f; exact f
  ·cases this
 ·trivial
inductive TEq:Ty->Ty->Type
 | refl (t:Ty):TEq t t
def keq:(k c:IntKind)->Option (TEq (.int k) (.int c))
 | .i8,.i8=>some (.refl _)
 | .i16,.i16=>some (.refl _)
 | .i32,.i32=>some (.refl _)
 | .i64,.i64=>some (.refl _)
 | .u8,.u8=>some (.refl _)
 | .u16,.u16=>some (.refl _)
 | .u32,.u32=>some (.refl _)
 | .u64,.u64=>some (.refl _)
 | _,_=>none
def xY:(t u:Ty)->Option (TEq t u)
 | .bool,.bool=>some (.refl _)
 | .int k,.int c=>keq k c
 | .str,.str=>some (.refl _)
 | .slice t,.slice u=>match xY t u with
  | some (.refl _)=>some (.refl _)
  | none=>none
 | .pair t f,.pair u g=>match xY t u with
  | some (.refl _)=>match xY f g with
   | some (.refl _)=>some (.refl _)
   | none=>none
  | none=>none
 | .one t,.one u=>match xY t u with
  | some (.refl _)=>some (.refl _)
  | none=>none
 | .fn,.fn=>some (.refl _)
 | _,_=>none
def fi(t u:Ty)(a:t.den):Option u.den :=
 match xY t u with
 | some (.refl _)=>some a
 | none=>none
def Fg:AV->Nat->Option AV
 | .cons x _,0=>some x
 | .cons _ l,n+1=>Fg l n
 | _,_=>none
def oL:AV->Nat->AV
 | l,0=>l
 | .cons _ l,n+1=>oL l n
 | l,_=>.nil
def nj:AV->Nat->AV
 | _,0=>.nil
 | .cons x l,n+1=>.cons x (nj l n)
 | _,_=>.nil
def Bf:AV->AV->AV
 | .cons x l,y=>.cons x (Bf l y)
 | _,y=>y
def oz:AV->Nat
 | .cons _ l=>oz l+1
 | _=>0
def kl:AV->Bool
 | .cons _ l=>kl l
 | .nil=>true
 | _=>false
@[reducible] def jf:List Ty->Type
 | []=>Unit
 | t::l=>t.den×jf l
structure Spec where
 zR:List Ty
 F:jf zR->AV×List Prop
def nz:(l:List Ty)->jf l->AV
 | [],_=>.nil
 | t::l,d=>.cons (.a_ t d.1) (nz l d.2)
inductive PK where
 | d (t:Ty)
 | b (T:TypeId) (t:Ty)
 | br (T Tr:TypeId) (t:Ty)
 | bf (T:TypeId) (f:FuncId)
 | c (f:FuncId) (T:TypeId) (t:Ty)
 | k (f:FuncId)
 | r (Tr:TypeId) (t:Ty)
 | n
@[reducible] def oO:List PK->List Ty
 | []=>[]
 | .d t::l=>t::oO l
 | .b _ t::l=>t::oO l
 | .br _ _ t::l=>.slice t::oO l
 | .bf _ _::l=>oO l
 | .c _ _ t::l=>t::oO l
 | .k _::l=>oO l
 | .r _ t::l=>.slice t::oO l
 | .n::l=>oO l
structure acz where
 ck:List (Nat×CT)
 nx:Nat
 out:AV
 pre:List Prop
structure iP where
 ko:List PK
 F:jf (oO ko)->acz
structure Env where
 P:Program
 zR:List (Nat×TE)
 sp:List (Nat×Spec)
 ms:List (Nat×iP)
def Env.te(E:Env)(T:TypeId):Option TE:=get? E.zR T
def cAV:Value->AV
 | .int k n=>.a_ (.int k) n
 | .bool b=>.lit b
 | .string s=>.a_ .str s.data.toList
 | v=>.val v
def lk(sl:List (Nat×AV)):Operand->Option AV
 | .tmp t=>get? sl t
 | .const v=>some (cAV v)
 | .func f=>some (.kL f .nil)
 | _=>none
def zE:AV->Option Bool
 | .a_ .bool b=>some b
 | .lit b=>some b
 | _=>none
def gE(kF:(t:Ty)->AV->Option t.den):(t:Ty)->AV->Option (t.den×AV)
 | .pair t u,l=>match gE kF t l with
  | some (a,r)=>match gE kF u r with
   | some (b,c)=>some ((a,b),c)
   | none=>none
  | none=>none
 | .one t,l=>gE kF t l
 | .bool,.cons x l=>match kF .bool x with|some a=>some (a,l)|none=>none
 | .int k,.cons x l=>match kF (.int k) x with|some a=>some (a,l)|none=>none
 | .str,.cons x l=>match kF .str x with|some a=>some (a,l)|none=>none
 | .slice t,.cons x l=>match kF (.slice t) x with|some a=>some (a,l)|none=>none
 | _,_=>none
def kF(ck:List (Nat×CT))(u:Ty)(x:AV):Option u.den :=
 match x with
 | .a_ t a=>fi t u a
 | .lit b=>fi .bool u b
 | .own c=>match get? ck c with
  | some (.row _ t l)=>fi (.slice t) u l
  | _=>none
 | .iE c _=>match get? ck c with
  | some (.eW _ o d none)=>match get? ck d with
   | some (.gv _ t f)=>match o with
    | true=>fi (.slice (.one (.slice t))) u f
    | false=>fi (.slice (.slice t)) u f
   | _=>none
  | _=>none
 | .jM d k=>match get? ck d with
  | some (.gv _ t f)=>fi (.slice t) u (f.getD k [])
  | _=>none
 | .val (.slice none 0 0)=>match u with
  | .slice _=>some []
  | _=>none
 | _=>none
def Dg(ck:List (Nat×CT))(u:Ty)(x:AV):Option u.den :=
 match x with
 | .own c=>match get? ck c with
  | some (.row _ t l)=>fi (.slice t) u l
  | _=>none
 | .iE _ _=>none
 | x=>kF ck u x
def GG(ck:List (Nat×CT))(u:Ty)(x:AV):Option u.den :=
 match x with
 | .agg l=>match u.isAgg with
  | true=>match gE (kF ck) u l with
   | some (a,.nil)=>some a
   | _=>none
  | false=>none
 | x=>kF ck u x
def nt(ck:List (Nat×CT)):(l:List Ty)->List AV->Option (jf l)
 | [],[]=>some ()
 | t::l,x::c=>match GG ck t x with
  | some a=>match nt ck l c with
   | some b=>some (a,b)
   | none=>none
  | none=>none
 | _,_=>none
def ij(op:BinOp)(k:IntKind)(x y:Int):Int :=
 let a:=BitVec.ofInt k.bits x
 let b:=BitVec.ofInt k.bits y
 match op with
 | .and=>k.wrap (a &&& b).toNat
 | .or=>k.wrap (a ||| b).toNat
 | .xor=>k.wrap (a ^^^ b).toNat
 | _=>k.wrap (a &&& ~~~b).toNat
def PN(k:IntKind)(x y:Int):Int:=k.wrap (x*2 ^ (min y.toNat k.bits))
def kr(k:IntKind)(x y:Int):Int:=x.fdiv (2 ^ (min y.toNat k.bits))
def strLt(x y:List UInt8):Bool:=Op.bytesLess x y
inductive An where
 | no
 | tr (b:Bool)
 | wr
 | ow
 | dt
 | dy (c:Nat)
 | dr (c:Nat) (T:TypeId) (t:Ty) (l:List t.den)
 | dn
 | ag
 | fz (c:Nat)
 | mx (fl:List (Nat×Nat))
 | ns
def Ot(an:An)(k:IntKind)(n:Int):AV×List Prop :=
 match an with
 | .wr=>(.a_ (.int k) (k.wrap n),[])
 | _=>(.a_ (.int k) n,[gG k n])
def M4(an:An)(op:BinOp)(k:IntKind)(x y:Int):Option (AV×List Prop) :=
 match op with
 | .add=>some (Ot an k (x+y))
 | .sub=>some (Ot an k (x-y))
 | .mul=>some (Ot an k (x*y))
 | .quo=>some (.a_ (.int k) (x.tdiv y),[y≠0,gG k (x.tdiv y)])
 | .rem=>some (.a_ (.int k) (x.tmod y),[y≠0,gG k (x.tmod y)])
 | .and=>some (.a_ (.int k) (ij .and k x y),[])
 | .or=>some (.a_ (.int k) (ij .or k x y),[])
 | .xor=>some (.a_ (.int k) (ij .xor k x y),[])
 | .andNot=>some (.a_ (.int k) (ij .andNot k x y),[])
 | .eql=>some (.a_ .bool (decide (x=y)),[])
 | .neq=>some (.a_ .bool (decide (x≠y)),[])
 | .lss=>some (.a_ .bool (decide (x<y)),[])
 | .leq=>some (.a_ .bool (decide (x<=y)),[])
 | .gtr=>some (.a_ .bool (decide (y<x)),[])
 | .geq=>some (.a_ .bool (decide (y<=x)),[])
 | _=>none
def M'(op:BinOp)(x y:List UInt8):Option (AV×List Prop) :=
 match op with
 | .add=>some (.a_ .str (x++y),[x.length+y.length<=9223372036854775807])
 | .eql=>some (.a_ .bool (decide (x=y)),[])
 | .neq=>some (.a_ .bool (decide (x≠y)),[])
 | .lss=>some (.a_ .bool (strLt x y),[])
 | .leq=>some (.a_ .bool (strLt x y||decide (x=y)),[])
 | .gtr=>some (.a_ .bool (!(strLt x y||decide (x=y))),[])
 | .geq=>some (.a_ .bool (!strLt x y),[])
 | _=>none
def Lr(op:BinOp)(x y:Bool):Option (AV×List Prop) :=
 match op with
 | .eql=>some (.a_ .bool (decide (x=y)),[])
 | .neq=>some (.a_ .bool (decide (x≠y)),[])
 | _=>none
def OJ(E:Env)(op:BinOp)(T:TypeId)(a b:AV):Option (AV×List Prop) :=
 match zE a with
 | some x=>match zE b with
  | some y=>match E.te T with
   | some e=>match e.ty with
    | .bool=>Lr op x y
    | _=>none
   | none=>none
  | none=>none
 | none=>none
def aah(E:Env)(op:BinOp)(T:TypeId)(p:Prop):Option (AV×List Prop) :=
 match op with
 | .eql=>match E.te T with
  | some e=>match e.ty with
   | .slice _=>some (.zX p,[])
   | _=>none
  | none=>none
 | _=>none
def N5(P:Program)(T:TypeId):Prop:=∃ e,P.underlying T=some (.pointer e)
@[reducible] def LL:Ty:=.pair (.int .i64) (.pair (.int .i64) (.int .i64))
def LS(P:Program)(T:TypeId):Prop:=∃ e i,P.underlying T=some (.array 3 e)/\P.underlying e=some (.int .i64)/\P.info? e=some i/\i.size=1/\P.eqGuardType P.depth T=false
def OA:(t:Ty)->t.den->t.den->Bool
 | .bool,x,y=>decide (x=y)
 | .int _,x,y=>decide ((x:Int)=y)
 | .str,x,y=>decide ((x:List UInt8)=y)
 | .pair t u,x,y=>OA t x.1 y.1&&OA u x.2 y.2
 | .one t,x,y=>OA t x y
 | .slice _,_,_=>false
 | .fn,_,_=>false
def NK(P:Program)(T:TypeId)(t:Ty):Prop :=
 P.eqGuardType P.depth T=false/\∀(X:Nat->Prop) (w:World) (f c:List Value) (x y:t.den),rep t X w f x->rep t X w c y->(Op.equal T (t.wrap f) (t.wrap c)).run P w=.ok (OA t x y) w
def IP(P:Program)(T:TypeId)(f:Nat)(u:Ty):Prop:=∃ fs F,P.underlying T=some (.struct fs)/\fs[f]?=some F/\(P.underlying F.type).map MY=some u.isAgg
def La(E:Env)(op:BinOp)(T:TypeId)(t:Ty)(x:t.den)(c:Ty)(y:c.den):Option (AV×List Prop) :=
 match op with
 | .eql=>match fi t LL x,fi c LL y with
  | some x,some y=>some (.a_ .bool (decide ((x.1:Int)=y.1)&&decide ((x.2.1:Int)=y.2.1)&&decide ((x.2.2:Int)=y.2.2)),[LS E.P T])
  | _,_=>match fi c t y,t.isAgg with
   | some y,true=>some (.a_ .bool (OA t x y),[NK E.P T t])
   | _,_=>none
 | .neq=>match fi c t y,t.isAgg with
  | some y,true=>some (.a_ .bool (!OA t x y),[NK E.P T t])
  | _,_=>none
 | _=>none
def Nn(E:Env)(an:An)(op:BinOp)(T:TypeId)(a b:AV):Option (AV×List Prop) :=
 match a,b with
 | .ref _ _,.val (.pointer none) =>
  match op with
  | .eql=>some (.lit false,[N5 E.P T])
  | .neq=>some (.lit true,[N5 E.P T])
  | _=>none
 | .a_ (.int k) x,.a_ (.int c) y =>
  match op with
  | .shl=>some (.a_ (.int k) (PN k x y),[0<=y])
  | .shr=>some (.a_ (.int k) (kr k x y),[0<=y])
  | _=>match keq k c with
   | some _=>M4 an op k x y
   | none=>none
 | .a_ .str x,.a_ .str y=>M' op x y
 | .a_ (.pair t u) x,.a_ (.pair f g) y=>La E op T (.pair t u) x (.pair f g) y
 | .a_ (.slice _) l,.val (.slice none a b)=>match Nat.beq a 0,Nat.beq b 0 with
  | true,true=>aah E op T (l=[])
  | _,_=>none
 | a,b=>OJ E op T a b
def unA(an:An)(op:UnOp)(a:AV):Option (AV×List Prop) :=
 match op with
 | .not=>match zE a with
  | some b=>some (.a_ .bool (!b),[])
  | none=>none
 | .neg=>match a with
  | .a_ (.int k) x=>some (Ot an k (-x))
  | _=>none
 | _=>none
def strip:AV->AV
 | .imp _ x=>x
 | x=>x
def cond:AV->List Prop
 | .imp c _=>[c]
 | _=>[]
def Cj(c a b:AV):Option (AV×List Prop) :=
 match c with
 | .lit true=>some (a,[])
 | .lit false=>some (b,[])
 | .a_ .bool e =>
  match b with
  | .lit false=>match zE (strip a)with
   | some x=>some (.a_ .bool (e&&x),(cond a).map fun p=>e=true->p)
   | none=>none
  | b=>match a with
   | .lit true=>match zE (strip b)with
    | some x=>some (.a_ .bool (e||x),(cond b).map fun p=>e=false->p)
    | none=>none
   | _=>none
 | _=>none
def IA(u:Ty):(t:Ty)->t.den->Option u.den
 | .pair c f,p=>match fi (.pair c f) u p with
  | some y=>some y
  | none=>IA u c p.1
 | .bool,x=>fi .bool u x
 | .int k,x=>fi (.int k) u x
 | .str,x=>fi .str u x
 | .slice t,x=>fi (.slice t) u x
 | .one t,x=>fi (.one t) u x
 | .fn,x=>fi .fn u x
def vW(ck:List (Nat×CT))(e:TE):AV->Option (AV×List Prop)
 | .rT t x=>match fi t e.ty x with
  | some y=>some (.a_ e.ty y,[])
  | none=>none
 | .ref c off=>match get? ck c with
  | some (.box _ l) =>
   match e.ty.isAgg with
   | true=>match Nat.ble (off+e.ty.size) (oz l)with
    | true=>match gE (kF []) e.ty (nj (oL l off) e.ty.size)with
     | some (d,_)=>some (.a_ e.ty d,[])
     | none=>some (.agg (nj (oL l off) e.ty.size),[])
    | false=>none
   | false=>match Fg l off with
    | some x=>some (x,[])
    | none=>none
  | _=>none
 | .ix c i sz=>match get? ck c with
  | some (.row _ t l)=>match IA e.ty t (l.getD i (zd t))with
   | some y=>match Nat.beq sz t.size with
    | true=>some (.a_ e.ty y,[i<l.length])
    | false=>none
   | none=>none
  | some (.eW _ _ d none)=>match get? ck d with
   | some (.gv _ t f)=>match e.ty with
    | .slice _=>match Nat.beq sz 1 with
     | true=>some (.jM d i,[i<f.length])
     | false=>none
    | _=>none
   | _=>none
  | _=>none
 | .rH d k i sz=>match get? ck d with
  | some (.gv _ t f)=>match fi t e.ty ((f.getD k []).getD i (zd t))with
   | some y=>match Nat.beq sz t.size with
    | true=>some (.a_ e.ty y,[i<(f.getD k []).length])
    | false=>none
   | none=>none
  | _=>none
 | _=>none
def xb(e:TE)(f:Nat):AV->Option (AV×List Prop)
 | .rT t x=>match fi t e.ty x with
  | some y=>match sn e.ty e.nf f with
   | some (_,⟨u,g⟩)=>match Nat.ble (f+1) e.nf with
    | true=>some (.rT u (g y),[])
    | false=>none
   | none=>none
  | none=>none
 | .ref c off=>match sn e.ty e.nf f with
  | some (o,_)=>match Nat.ble (f+1) e.nf with
   | true=>some (.ref c (off+o),[])
   | false=>none
  | none=>none
 | .ix c i sz=>match sn e.ty e.nf f with
  | some (o,_)=>match Nat.beq o 0,Nat.ble (f+1) e.nf with
   | true,true=>some (.ix c i sz,[])
   | false,true=>some (.ti c i sz o,[])
   | _,_=>none
  | none=>none
 | _=>none
def xd(E:Env)(T:TypeId)(e:TE)(f:Nat):AV->Option (AV×List Prop)
 | .a_ t x=>match fi t e.ty x with
  | some y=>match sn e.ty e.nf f with
   | some (_,⟨u,g⟩)=>match Nat.ble (f+1) e.nf,e.ty.isAgg with
    | true,true=>some (.a_ u (g y),[IP E.P T f u])
    | _,_=>none
   | none=>none
  | none=>none
 | _=>none
def elemOf(E:Env)(T:TypeId):Option Ty :=
 match E.te T with
 | some e=>match e.ty with
  | .slice t=>match E.te e.elem with
   | some c=>match xY c.ty t with
    | some _=>some t
    | none=>none
   | none=>none
  | _=>none
 | none=>none
def wF(E:Env)(ck:List (Nat×CT))(T:TypeId)(x i:AV):Option (AV×List Prop) :=
 match i with
 | .a_ (.int _) n=>match elemOf E T with
  | some u=>match x with
   | .own c=>match get? ck c with
    | some (.row _ t l)=>match xY t u with
     | some _=>some (.ix c n.toNat t.size,[0<=n/\n<(l.length:Int)])
     | none=>none
    | _=>none
   | .iE c k=>match Nat.beq u.size 1 with
    | true=>some (.ix c n.toNat 1,[0<=n/\n<(k:Int)])
    | false=>none
   | .jM d k=>match get? ck d with
    | some (.gv _ t f)=>match xY t u with
     | some _=>some (.rH d k n.toNat t.size,[0<=n/\n<((f.getD k []).length:Int)])
     | none=>none
    | _=>none
   | x=>match kF [] (.slice u) x with
    | some l=>some (.rT u (l.getD n.toNat (zd u)),[0<=n/\n<(l.length:Int)])
    | none=>none
  | none=>match x with
   | .ref c off=>match E.te T with
    | some e=>match xY e.ty LL with
     | some _=>some (.ref c (off+n.toNat),[0<=n/\n<3,LS E.P T])
     | none=>none
    | none=>none
   | _=>none
 | _=>none
def gN(s:List UInt8)(n:Int):Int:=((s.getD n.toNat 0).toNat:Int)
def BP(E:Env)(T:TypeId)(x i:AV):Option (AV×List Prop) :=
 match x,i,E.te T with
 | .a_ .str s,.a_ (.int _) n,some e=>match e.ty with
  | .str=>some (.a_ (.int .u8) (gN s n),[0<=n/\n<(s.length:Int)])
  | _=>none
 | _,_,_=>none
def DU(E:Env)(ck:List (Nat×CT))(T:TypeId)(x:AV):Option (AV×List Prop) :=
 match E.te T with
 | some e=>match e.ty with
  | .str=>match x with
   | .a_ .str s=>some (.a_ (.int .i64) (s.length:Int),[])
   | _=>none
  | .slice t=>match kF ck (.slice t) x with
   | some l=>some (.a_ (.int .i64) (l.length:Int),[])
   | none=>none
  | _=>none
 | none=>none
def uN(look:Operand->Option AV):Option Operand->Option (Option Int)
 | none=>some none
 | some x=>match look x with
  | some (.a_ (.int _) n)=>some (some n)
  | _=>none
def qQ{c:Type}(l:List c):Option Int->Option Int->List c
 | none,none=>l
 | some a,none=>l.drop a.toNat
 | none,some b=>l.take b.toNat
 | some a,some b=>(l.take b.toNat).drop a.toNat
def Bz(n:Nat):Option Int->Option Int->Option Int->List Prop
 | none,none,none=>[]
 | some a,none,none=>[0<=a/\a<=(n:Int)]
 | none,some b,none=>[0<=b/\b<=(n:Int)]
 | some a,some b,none=>[0<=a/\a<=b/\b<=(n:Int)]
 | none,some b,some c=>[0<=b/\b<=c/\c<=(n:Int)]
 | some a,some b,some c=>[0<=a/\a<=b/\b<=c/\c<=(n:Int)]
 | _,none,some _=>[False]
def tq(E:Env)(look:Operand->Option AV)(T:TypeId)(x:AV)(lo hi mx:Option Operand):Option (AV×List Prop) :=
 match uN look lo,uN look hi,uN look mx with
 | some lo,some hi,some mx=>match x with
  | .a_ .str s=>match mx with
   | none=>match E.te T with
    | some e=>match e.ty with
     | .str=>some (.a_ .str (qQ s lo hi),Bz s.length lo hi none)
     | _=>none
    | none=>none
   | some _=>none
  | x=>match elemOf E T with
   | some u=>match kF [] (.slice u) x with
    | some l=>some (.a_ (.slice u) (qQ l lo hi),Bz l.length lo hi mx)
    | none=>none
   | none=>none
 | _,_,_=>none
def yH(E:Env)(look:Operand->Option AV)(ck:List (Nat×CT))(T:TypeId)(c:Nat)(lo hi mx:Option Operand):Option (AV×List Prop) :=
 match uN look lo,hi,mx with
 | some (some i),none,none=>match elemOf E T with
  | some u=>match get? ck c with
   | some (.row _ t l)=>match xY t u,Nat.beq u.size 1 with
    | some _,true=>some (.tl c i.toNat,[0<=i/\i<=(l.length:Int)])
    | _,_=>none
   | _=>none
  | none=>none
 | _,_,_=>none
def xk(s:List UInt8):List Int:=s.map fun b=>(b.toNat:Int)
def O7(l:List Int):List UInt8:=l.map fun n=>UInt8.ofNat n.toNat
def zW:Ty->Bool
 | .int .u8=>true
 | _=>false
def ab3(ck:List (Nat×CT))(x:AV):Option (List Int):=kF ck (.slice (.int .u8)) x
def B4(E:Env)(ck:List (Nat×CT))(S D:TypeId)(x:AV)(an:An):Option (AV×List Prop) :=
 match x with
 | .a_ (.int _) n=>match E.te D with
  | some e=>match e.ty with
   | .int k=>some (Ot an k n)
   | _=>none
  | none=>none
 | .a_ .str s=>match E.te S with
  | some c=>match c.ty with
   | .str=>match elemOf E D with
    | some u=>match zW u with
     | true=>some (.a_ (.slice (.int .u8)) (xk s),[])
     | false=>none
    | none=>none
   | _=>none
  | none=>none
 | x=>match elemOf E S with
  | some u=>match zW u with
   | true=>match E.te D with
    | some e=>match e.ty with
     | .str=>match ab3 ck x with
      | some l=>some (.a_ .str (O7 l),[])
      | none=>none
     | _=>none
    | none=>none
   | false=>none
  | none=>none
def kN(look:Operand->Option AV):List Operand->Option (List AV)
 | []=>some []
 | x::l=>match look x,kN look l with
  | some a,some b=>some (a::b)
  | _,_=>none
def Lm:List AV->AV
 | []=>.nil
 | x::l=>.cons x (Lm l)
def avL:AV->List AV
 | .cons x l=>x::avL l
 | _=>[]
def F0:List AV->List AV->List AV
 | [],k=>k
 | x::l,k=>x::F0 l k
def uk:Ty->Bool
 | .slice _=>false
 | .pair t u=>match uk t with|true=>uk u|false=>false
 | .one t=>uk t
 | _=>true
def flat:AV->Bool
 | .a_ t _=>uk t
 | .lit _|.val _|.any|.nil=>true
 | .js l=>flat l
 | .cons x l=>match flat x with|true=>flat l|false=>false
 | _=>false
def zD(ck:List (Nat×CT)):(l:List PK)->List AV->Option (jf (oO l))
 | [],[]=>some ()
 | .d t::l,x::c=>match GG ck t x with
  | some a=>match zD ck l c with
   | some b=>some (a,b)
   | none=>none
  | none=>none
 | .k f::l,x::c=>match x with
  | .kL g .nil=>match Nat.beq g f with
   | true=>zD ck l c
   | false=>none
  | _=>none
 | _,_=>none
def M8(l:List (Nat×CT)):Bool :=
 match l with
 | []=>true
 | _::_=>false
def yB(E:Env)(ck:List (Nat×CT))(f:FuncId)(as:List AV):Option (AV×List Prop) :=
 match get? E.ms f with
 | some s=>match zD [] s.ko as with
  | some d=>match M8 (s.F d).ck,Nat.beq (s.F d).nx 0 with
   | true,true=>some ((s.F d).out,(s.F d).pre)
   | _,_=>none
  | none=>match zD ck s.ko as with
   | some d=>match M8 (s.F d).ck,Nat.beq (s.F d).nx 0,flat (s.F d).out with
    | true,true,true=>some ((s.F d).out,(s.F d).pre)
    | _,_,_=>none
   | none=>none
 | none=>none
def yq(E:Env)(look:Operand->Option AV)(ck:List (Nat×CT))(c:Call):Option (AV×List Prop) :=
 match c.callee with
 | .value (.func f)=>match get? E.sp f with
  | some s=>match kN look c.args.toList with
   | some as=>match nt [] s.zR as with
    | some d=>some (s.F d)
    | none=>match nt ck s.zR as with
     | some d=>match flat (s.F d).1 with
      | true=>some (s.F d)
      | false=>none
     | none=>none
   | none=>none
  | none=>match kN look c.args.toList with
   | some as=>yB E ck f as
   | none=>none
 | .value (.tmp t)=>match look (.tmp t)with
  | some (.kL f l)=>match kl l with
   | true=>match kN look c.args.toList with
    | some as=>yB E ck f (F0 as (avL l))
    | none=>none
   | false=>none
  | _=>none
 | .builtin .len=>match c.args.toList,c.argTypes.toList with
  | [x],[T]=>match look x with
   | some a=>DU E ck T a
   | none=>none
  | _,_=>none
 | .builtin .max=>match c.args.toList with
  | [x,y]=>match look x,look y with
   | some (.a_ (.int k) a),some (.a_ (.int g) b)=>match keq k g with
    | some _=>some (.a_ (.int k) (if b>a then b else a),[])
    | none=>none
   | _,_=>none
  | _=>none
 | .builtin .min=>match c.args.toList with
  | [x,y]=>match look x,look y with
   | some (.a_ (.int k) a),some (.a_ (.int g) b)=>match keq k g with
    | some _=>some (.a_ (.int k) (if b<a then b else a),[])
    | none=>none
   | _,_=>none
  | _=>none
 | _=>none
def zA:Ty->AV->AV
 | .bool,tl=>.cons (.lit false) tl
 | .int k,tl=>.cons (.a_ (.int k) (0:Int)) tl
 | .str,tl=>.cons (.a_ .str []) tl
 | .slice _,tl=>.cons (.val (.slice none 0 0)) tl
 | .pair t u,tl=>zA t (zA u tl)
 | .one t,tl=>zA t tl
 | .fn,tl=>.cons (.a_ .fn ()) tl
def dA:(t:Ty)->t.den->AV->AV
 | .pair t u,p,tl=>dA t p.1 (dA u p.2 tl)
 | .one t,p,tl=>dA t p tl
 | .bool,b,tl=>.cons (.a_ .bool b) tl
 | .int k,n,tl=>.cons (.a_ (.int k) n) tl
 | .str,s,tl=>.cons (.a_ .str s) tl
 | .slice t,l,tl=>.cons (.a_ (.slice t) l) tl
 | .fn,u,tl=>.cons (.a_ .fn u) tl
def o_(u:Ty)(x:AV)(tl:AV):Option AV :=
 match u.isAgg with
 | true=>match x with
  | .a_ t a=>match fi t u a with
   | some b=>some (dA u b tl)
   | none=>none
  | .agg l=>match Nat.beq (oz l) u.size with
   | true=>match kl l with
    | true=>some (Bf l tl)
    | false=>none
   | false=>none
  | _=>none
 | false=>match x with
  | .a_ t a=>match fi t u a with
   | some b=>some (.cons (.a_ u b) tl)
   | none=>none
  | .lit b=>some (.cons (.lit b) tl)
  | .val (.slice a n c)=>some (.cons (.val (.slice a n c)) tl)
  | .val (.pointer a)=>some (.cons (.val (.pointer a)) tl)
  | .val (.map a)=>some (.cons (.val (.map a)) tl)
  | .own c=>some (.cons (.own c) tl)
  | .ref c o=>some (.cons (.ref c o) tl)
  | .kL f l=>some (.cons (.kL f l) tl)
  | .iE c n=>some (.cons (.iE c n) tl)
  | .jM d k=>some (.cons (.jM d k) tl)
  | _=>none
def mE(l:AV)(off n:Nat)(cs:AV):AV:=Bf (nj l off) (Bf cs (oL l (off+n)))
def jd(look:Operand->Option AV)(pl:Nat->Option (Nat×Ty)):List (Nat×Operand)->AV->Option AV
 | [],c=>some c
 | (f,x)::l,c=>match pl f with
  | some (o,u)=>match look x with
   | some a=>match o_ u a .nil with
    | some g=>match Nat.ble (o+u.size) (oz c)with
     | true=>jd look pl l (mE c o u.size g)
     | false=>none
    | none=>none
   | none=>none
  | none=>none
def plA(f:Nat):Option (Nat×Ty) :=
 match Nat.ble (f+1) 3 with
 | true=>some (f,.int .i64)
 | false=>none
def plF(e:TE)(f:Nat):Option (Nat×Ty) :=
 match Nat.ble (f+1) e.nf with
 | true=>match sn e.ty e.nf f with
  | some (o,⟨u,_⟩)=>some (o,u)
  | none=>none
 | false=>none
def FO(u:Ty)(i:Nat):Option (Nat×Ty):=some (i*u.size,u)
def IU(u:Ty):Nat->AV
 | 0=>.nil
 | n+1=>zA u (IU u n)
def oP(u:Ty):Nat->AV->Option (List u.den)
 | 0,_=>some []
 | n+1,l=>match gE (kF []) u l with
  | some (a,r)=>match oP u n r with
   | some k=>some (a::k)
   | none=>none
  | none=>none
def Ht(E:Env)(look:Operand->Option AV)(T:TypeId)(n:Nat)(ps:List (Nat×Operand)):Option (AV×List Prop) :=
 match elemOf E T with
 | some u=>match E.te T with
  | some e=>match Nat.ble (n*u.size) 16777216,Nat.ble 1 n with
   | true,true=>match jd look (FO u) ps (IU u n)with
    | some c=>match oP u n c with
     | some l=>some (.a_ (.slice u) l,[])
     | none=>none
    | none=>none
   | true,false=>match ps with
    | []=>some (.a_ (.slice u) [],[])
    | _::_=>none
   | _,_=>none
  | none=>none
 | none=>none
def Dr(E:Env)(T:TypeId)(a b:AV):Option (AV×List Prop) :=
 match a,b with
 | .a_ (.int .i64) a,.a_ (.int .i64) b=>match elemOf E T with
  | some u=>match E.te T with
   | some e=>match E.te e.elem with
    | some c=>some (.a_ (.slice u) (List.replicate a.toNat (zd u)),[0<=a/\a<=b/\(c.bytes:Int)*b<=140737488355328])
    | none=>none
   | none=>none
  | none=>none
 | _,_=>none
def Nx(ck:List (Nat×CT))(u:Ty)(l:AV):AV :=
 match gE (kF []) u l with
 | some (a,_)=>.a_ u a
 | none=>.agg l
def A1(an:An)(ck:List (Nat×CT))(u:Ty)(l:AV):AV :=
 match an with
 | .ag=>.agg l
 | _=>Nx ck u l
def pop(E:Env)(look:Operand->Option AV)(ck:List (Nat×CT))(op:Op)(an:An):Option (AV×List Prop) :=
 match op with
 | .move x=>match look x with
  | some a=>some (a,[])
  | none=>none
 | .assign x=>match look x with
  | some a=>some (a,[])
  | none=>none
 | .nilCheck x=>match look x with
  | some (.ref c o)=>some (.ref c o,[])
  | _=>none
 | .extract x i=>match look x with
  | some (.js l)=>match Fg l i with
   | some a=>some (a,[])
   | none=>none
  | _=>none
 | .binOp op T x y _=>match look x,look y with
  | some a,some b=>Nn E an op T a b
  | _,_=>none
 | .unOp op _ x=>match look x with
  | some a=>unA an op a
  | none=>none
 | .load T p=>match look p,E.te T with
  | some a,some e=>vW ck e a
  | _,_=>none
 | .fieldAddr T p f=>match look p,E.te T with
  | some a,some e=>xb e f a
  | _,_=>none
 | .field T x f=>match look x,E.te T with
  | some a,some e=>xd E T e f a
  | _,_=>none
 | .indexAddr T x i=>match look x,look i with
  | some a,some b=>wF E ck T a b
  | _,_=>none
 | .index T x i=>match look x,look i with
  | some a,some b=>BP E T a b
  | _,_=>none
 | .slice T x l h mx=>match look x with
  | some a=>match a with
   | .own c=>yH E look ck T c l h mx
   | a=>tq E look T a l h mx
  | none=>none
 | .convert S D x=>match look x,E.te S with
  | some a,some _=>B4 E ck S D a an
  | _,_=>none
 | .call c=>yq E look ck c
 | .build T ps=>match E.te T with
  | some e=>match e.ty.isAgg with
   | true=>match Nat.ble 1 e.nf with
    | true=>match jd look (plF e) ps.toList (zA e.ty .nil)with
     | some l=>some (A1 an ck e.ty l,[])
     | none=>none
    | false=>match xY e.ty LL with
     | some _=>match jd look plA ps.toList (zA e.ty .nil)with
      | some l=>some (A1 an ck e.ty l,[LS E.P T])
      | none=>none
     | none=>none
   | false=>none
  | none=>none
 | .buildSlice T n ps=>Ht E look T n ps.toList
 | .makeSlice T x y=>match look x,look y with
  | some a,some b=>Dr E T a b
  | _,_=>none
 | .makeFunc fn fst g=>match fn,fst.toList with
  | .func f,[]=>match kN look g.toList with
   | some l=>some (.kL f (Lm l),[])
   | none=>none
  | _,_=>none
 | _=>none
def lj(sl:List (Nat×AV)):Operand->Option AV
 | .tmp t=>match get? sl t with
  | some x=>some (strip x)
  | none=>none
 | .const v=>some (cAV v)
 | .func f=>some (.kL f .nil)
 | _=>none
def zL:Option Operand->List Operand->List Operand
 | some x,l=>x::l
 | none,l=>l
def lv:List (Nat×Operand)->List Operand
 | []=>[]
 | (_,x)::l=>x::lv l
def gD:Op->List Operand
 | .move x=>[x]
 | .assign x=>[x]
 | .nilCheck x=>[x]
 | .box _ x=>[x]
 | .load _ x=>[x]
 | .unOp _ _ x=>[x]
 | .convert _ _ x=>[x]
 | .fieldAddr _ x _=>[x]
 | .field _ x _=>[x]
 | .extract x _=>[x]
 | .pick c x y=>[c,x,y]
 | .build _ ps=>lv ps.toList
 | .buildSlice _ _ ps=>lv ps.toList
 | .store _ x y=>[x,y]
 | .binOp _ _ x y _=>[x,y]
 | .makeSlice _ x y=>[x,y]
 | .indexAddr _ x y=>[x,y]
 | .index _ x y=>[x,y]
 | .slice _ x l h m=>x::zL l (zL h (zL m []))
 | .call c=>match c.callee with
  | .value (.tmp t)=>.tmp t::c.args.toList
  | _=>c.args.toList
 | .makeFunc _ _ l=>l.toList
 | _=>[]
def fG(sl:List (Nat×AV)):List Operand->List Prop
 | []=>[]
 | .tmp t::l=>match get? sl t with
  | some (.imp c _)=>c::fG sl l
  | _=>fG sl l
 | _::l=>fG sl l
def base(E:Env)(sl:List (Nat×AV))(ck:List (Nat×CT))(op:Op)(an:An):Option (AV×List Prop) :=
 match op with
 | .pick c x y=>match lk sl c,lk sl x,lk sl y with
  | some f,some g,some h=>match Cj (strip f) g h with
   | some (r,ps)=>some (r,cond f++ps)
   | none=>none
  | _,_,_=>none
 | op=>match pop E (lj sl) ck op an with
  | some (r,ps)=>some (r,fG sl (gD op)++ps)
  | none=>none
def fin(an:An)(r:AV)(ps:List Prop):Option (AV×List Prop) :=
 match an with
 | .tr b=>match r with
  | .a_ .bool e=>some (.lit b,ps++[e=b])
  | _=>none
 | _=>some (r,ps)
def uY(E:Env)(sl:List (Nat×AV))(ck:List (Nat×CT))(op:Op)(an:An):Option (AV×List Prop) :=
 match base E sl ck op an with
 | some (r,ps)=>fin an r ps
 | none=>none
inductive GC where
 | run
 | dead
 | op (c:Prop)
def Au:Bool->Bool->Bool
 | true,b=>b
 | false,true=>false
 | false,false=>true
def nr:AV->Bool->Option GC
 | .lit b,f=>match Au b f with
  | true=>some .run
  | false=>some .dead
 | .a_ .bool e,f=>some (.op (e=f))
 | .imp c (.a_ .bool e),f=>some (.op (c/\e=f))
 | .imp c (.lit b),f=>match Au b f with
  | true=>some (.op c)
  | false=>some .dead
 | _,_=>none
def ju{c:Type}:List c->Nat->Option c
 | [],_=>none
 | x::_,0=>some x
 | _::l,n+1=>ju l n
def po(E:Env)(sl:List (Nat×AV))(ck:List (Nat×CT))(ds:List (Option Nat))(o:Oper)(an:An):Option (AV×List Prop) :=
 match o.guard with
 | none=>uY E sl ck o.op an
 | some (g,c)=>match ju ds g with
  | some (some t)=>match get? sl t with
   | some x=>match nr x c with
    | some .run=>uY E sl ck o.op an
    | some .dead=>some (.val undef,[])
    | some (.op G)=>match uY E sl ck o.op an with
     | some (r,ps)=>some (.imp G r,ps.map fun p=>G->p)
     | none=>none
    | none=>none
   | none=>none
  | _=>none
def put(sl:List (Nat×AV))(d:Option Nat)(r:AV):List (Nat×AV) :=
 match d with
 | some t=>(t,r)::sl
 | none=>sl
def qP(c:Nat):List (Nat×AV)->List (Nat×AV)
 | []=>[]
 | (t,x)::l=>(t,gM c x)::qP c l
def gB(c:Nat):List (Nat×CT)->List (Nat×CT)
 | []=>[]
 | (k,.box T l)::r=>(k,.box T (gM c l))::gB c r
 | x::r=>x::gB c r
def qY(E:Env)(st:St)(T:TypeId)(d:Nat):Option (St×List Prop) :=
 match E.te T with
 | some e=>some (⟨(d,.ref st.nx 0)::st.sl,(st.nx,.box T (zA e.ty .nil))::st.ck,st.nx+1⟩,[])
 | none=>none
def Lq(E:Env)(st:St)(T:TypeId)(a:AV)(d:Nat):Option (St×List Prop) :=
 match E.te T with
 | some e=>match o_ e.ty a .nil with
  | some l=>some (⟨(d,.ref st.nx 0)::st.sl,(st.nx,.box T l)::st.ck,st.nx+1⟩,[])
  | none=>none
 | none=>none
def DR(E:Env)(st:St)(T:TypeId)(a b:AV)(d:Nat):Option (St×List Prop) :=
 match a,b with
 | .a_ (.int .i64) a,.a_ (.int .i64) b=>match elemOf E T with
  | some u=>match E.te T with
   | some e=>match E.te e.elem with
    | some c=>some (⟨(d,.own st.nx)::st.sl,(st.nx,.row e.elem u (List.replicate a.toNat (zd u)))::st.ck,st.nx+1⟩,[0<=a/\a<=b/\(c.bytes:Int)*b<=140737488355328])
    | none=>none
   | none=>none
  | none=>none
 | _,_=>none
def LP(E:Env)(st:St)(T:TypeId)(n:Nat)(ps:List (Nat×Operand))(d:Nat):Option (St×List Prop) :=
 match elemOf E T with
 | some u=>match E.te T with
  | some e=>match Nat.ble (n*u.size) 16777216,Nat.ble 1 n with
   | true,true=>match jd (lj st.sl) (FO u) ps (IU u n)with
    | some c=>match oP u n c with
     | some l=>some (⟨(d,.own st.nx)::st.sl,(st.nx,.row e.elem u l)::st.ck,st.nx+1⟩,[])
     | none=>none
    | none=>none
   | true,false=>match ps with
    | []=>some (⟨(d,.own st.nx)::st.sl,(st.nx,.row e.elem u [])::st.ck,st.nx+1⟩,[])
    | _::_=>none
   | _,_=>none
  | none=>none
 | none=>none
def sf:AV->Bool
 | .val (.slice none 0 0)=>true
 | _=>false
theorem Hq:sf (.val (.slice none 0 0))=true:=rfl
theorem IE{c:Nat}:sf (.own c)=false:=rfl
theorem Gj{c n:Nat}:sf (.iE c n)=false:=rfl
theorem G_{t:Ty}{a:t.den}:sf (.a_ t a)=false:=rfl
theorem J0:sf .any=false:=rfl
theorem pS{x:AV}(h:sf x=true):x=.val (.slice none 0 0):=by
 unfold sf at h;split at h
 ·rfl
 ·cases h
def pZ(E:Env)(st:St)(T:TypeId)(a b:AV)(d:Nat):Option (St×List Prop) :=
 match elemOf E T with
 | some u=>match E.te T with
  | some e=>match E.te e.elem with
   | some c=>match Nat.ble 1 c.bytes with
    | true=>match Dg st.ck (.slice u) b with
     | some m=>match sf a with
      | true=>some (⟨(d,.own st.nx)::st.sl,(st.nx,.row e.elem u m)::st.ck,st.nx+1⟩,[m.length*c.bytes<=140737488355328])
      | false=>match a with
       | .own k=>match get? st.ck k with
        | some (.row f t l)=>match fi (.slice u) (.slice t) m with
         | some g=>some (⟨(d,.own k)::qP k st.sl,jh (gB k st.ck) k (.row f t (l++g)),st.nx⟩,[(l.length+g.length)*c.bytes<=140737488355328,f=e.elem])
         | none=>none
        | _=>none
       | _=>none
     | none=>none
    | false=>none
   | none=>none
  | none=>none
 | none=>none
def uK(n:Nat):List Nat->Bool
 | []=>false
 | k::l=>match Nat.beq k n with|true=>true|false=>uK n l
def Bu(ck:List (Nat×CT))(T:TypeId)(t:Ty)(x:AV):Option (t.den×Nat) :=
 match x with
 | .ref c o=>match Nat.beq o 0 with
  | true=>match get? ck c with
   | some (.box f l)=>match Nat.beq f T with
    | true=>match gE (kF []) t l with
     | some (a,.nil)=>some (a,c)
     | _=>none
    | false=>none
   | _=>none
  | false=>none
 | _=>none
def Mv(ck:List (Nat×CT))(T f:TypeId)(t:Ty)(x:AV):Option (List t.den×Nat×Nat) :=
 match x with
 | .ref c o=>match Nat.beq o 0 with
  | true=>match get? ck c with
   | some (.box g l)=>match Nat.beq g T with
    | true=>match l with
     | .cons (.own r) .nil=>match get? ck r with
      | some (.row h i z)=>match Nat.beq h f with
       | true=>match fi (.slice i) (.slice t) z with
        | some m=>some (m,c,r)
        | none=>none
       | false=>none
      | _=>none
     | _=>none
    | false=>none
   | _=>none
  | false=>none
 | _=>none
def Ls(ck:List (Nat×CT))(T:TypeId)(f:FuncId)(x:AV):Option (Nat×Nat) :=
 match x with
 | .ref c o=>match Nat.beq o 0 with
  | true=>match get? ck c with
   | some (.box g l)=>match Nat.beq g T with
    | true=>match l with
     | .cons (.kL h (.cons (.ref i m) .nil)) .nil=>match Nat.beq h f,Nat.beq m 0 with
      | true,true=>some (c,i)
      | _,_=>none
     | _=>none
    | false=>none
   | _=>none
  | false=>none
 | _=>none
def L4(ck:List (Nat×CT))(c:TypeId)(t:Ty)(x:AV):Option (List t.den×Nat) :=
 match x with
 | .own r=>match get? ck r with
  | some (.row f g z)=>match Nat.beq f c with
   | true=>match fi (.slice g) (.slice t) z with
    | some h=>some (h,r)
    | none=>none
   | false=>none
  | _=>none
 | _=>none
def AO(n:Nat):List Nat->Bool
 | k::_=>Nat.beq k n
 | []=>false
def iJ(ck:List (Nat×CT)):(l:List PK)->List AV->Option (jf (oO l)×List Nat×List Nat)
 | [],[]=>some ((),[],[])
 | .d t::l,x::g=>match GG [] t x with
  | some a=>match iJ ck l g with
   | some (b,h,i)=>some ((a,b),h,i)
   | none=>none
  | none=>none
 | .b T t::l,x::g=>match Bu ck T t x with
  | some (a,c)=>match iJ ck l g with
   | some (b,h,i)=>some ((a,b),c::h,i)
   | none=>none
  | none=>none
 | .br T m t::l,x::g=>match Mv ck T m t x with
  | some (a,c,r)=>match iJ ck l g with
   | some (b,h,i)=>some ((a,b),c::h,r::i)
   | none=>none
  | none=>none
 | .bf T f::l,x::g=>match Ls ck T f x with
  | some (c,q)=>match iJ ck l g with
   | some (b,h,i)=>match AO q h with
    | true=>some (b,c::h,i)
    | false=>none
   | none=>none
  | none=>none
 | .c f T t::l,x::g=>match x with
  | .kL p (.cons y .nil)=>match Nat.beq p f with
   | true=>match Bu ck T t y with
    | some (a,c)=>match iJ ck l g with
     | some (b,h,i)=>some ((a,b),c::h,i)
     | none=>none
    | none=>none
   | false=>none
  | _=>none
 | .k f::l,x::g=>match x with
  | .kL p .nil=>match Nat.beq p f with
   | true=>iJ ck l g
   | false=>none
  | _=>none
 | .r m t::l,x::g=>match L4 ck m t x with
  | some (a,c)=>match iJ ck l g with
   | some (b,h,i)=>some ((a,b),h,c::i)
   | none=>none
  | none=>none
 | .n::l,x::g=>match sf x with
  | true=>iJ ck l g
  | false=>none
 | _,_=>none
def EC:List Nat->List Nat->List Nat
 | [],k=>k
 | x::l,k=>x::EC l k
def As:List Nat->Nat
 | []=>0
 | _::l=>As l+1
def rh(n:Nat):Nat->Nat
 | 0=>n
 | k+1=>rh n k+1
def zi:Nat->Nat->Nat
 | n,0=>n
 | 0,_+1=>0
 | n+1,k+1=>zi n k
def jE(cs:List Nat)(nx:Nat)(c:Nat):Nat :=
 match ju cs c with
 | some k=>k
 | none=>rh nx (zi c (As cs))
def o9(cs:List Nat)(nx:Nat):AV->AV
 | .own c=>.own (jE cs nx c)
 | .ref c o=>.ref (jE cs nx c) o
 | .ix c i sz=>.ix (jE cs nx c) i sz
 | .ti c i sz o=>.ti (jE cs nx c) i sz o
 | .iE c n=>.iE (jE cs nx c) n
 | .jM d k=>.jM (jE cs nx d) k
 | .rH d k i sz=>.rH (jE cs nx d) k i sz
 | .tl c i=>.tl (jE cs nx c) i
 | .cons x l=>.cons (o9 cs nx x) (o9 cs nx l)
 | .js l=>.js (o9 cs nx l)
 | .agg l=>.agg (o9 cs nx l)
 | .kL f l=>.kL f (o9 cs nx l)
 | .imp p x=>.imp p (o9 cs nx x)
 | x=>x
def kk(cs:List Nat)(nx:Nat):List (Nat×CT)->List (Nat×CT)
 | []=>[]
 | (k,.box T l)::r=>(jE cs nx k,.box T (o9 cs nx l))::kk cs nx r
 | (k,.row T t l)::r=>(jE cs nx k,.row T t l)::kk cs nx r
 | (k,.eW T o d c)::r=>(jE cs nx k,.eW T o (jE cs nx d) c)::kk cs nx r
 | (k,.gv T t f)::r=>(jE cs nx k,.gv T t f)::kk cs nx r
def qM:List Nat->Bool
 | []=>true
 | k::l=>match uK k l with|true=>false|false=>qM l
def gw(ck:List (Nat×CT)):List Nat->List (Nat×CT)
 | []=>ck
 | c::f=>gw (del ck c) f
def wc(ck:List (Nat×CT)):Nat->Bool
 | 0=>true
 | n+1=>match get? ck n with
  | some (.box _ _)=>wc ck n
  | _=>false
def xG(look:Operand->Option AV)(c:Call):Option (FuncId×List AV) :=
 match c.callee with
 | .value x=>match x with
  | .func f=>match kN look c.args.toList with
   | some as=>some (f,as)
   | none=>none
  | .tmp t=>match look (.tmp t)with
   | some (.kL f l)=>match kl l with
    | true=>match kN look c.args.toList with
     | some as=>some (f,F0 as (avL l))
     | none=>none
    | false=>none
   | _=>none
  | _=>none
 | _=>none
def oG(E:Env)(st:St)(c:Call)(d:Option Nat):Option (St×AV×List (Nat×CT)×List Prop) :=
 match xG (lj st.sl) c with
 | some (f,as)=>match get? E.ms f with
  | some s=>match iJ st.ck s.ko as with
   | some (x,g,h)=>match qM (EC g h),wc (s.F x).ck (As g)with
    | true,true=>some (⟨put st.sl d (o9 g st.nx (s.F x).out),kk g st.nx (s.F x).ck++gw st.ck (EC g h),rh st.nx (zi (s.F x).nx (As g))⟩,o9 g st.nx (s.F x).out,kk g st.nx (s.F x).ck,(s.F x).pre)
    | _,_=>none
   | none=>none
  | none=>none
 | none=>none
def zG(E:Env)(st:St)(c:Call)(d:Option Nat):Option (St×List Prop) :=
 match oG E st c d with
 | some (f,_,_,ps)=>some (f,ps)
 | none=>none
def CS(E:Env)(st:St)(T:TypeId)(x y:AV)(d:Nat):Option (St×List Prop) :=
 match x with
 | .own k=>match elemOf E T with
  | some u=>match Nat.beq u.size 1 with
   | true=>match Dg st.ck (.slice u) y with
    | some m=>match get? st.ck k with
     | some (.row f t l)=>match fi (.slice u) (.slice t) m with
      | some c=>some (⟨(d,.a_ (.int .i64) (c.length:Int))::st.sl,jh st.ck k (.row f t c),st.nx⟩,[c.length=l.length])
      | none=>none
     | _=>none
    | none=>none
   | false=>none
  | none=>none
 | _=>none
def DH(E:Env)(st:St)(S:TypeId)(x:AV)(d:Nat):Option (St×List Prop) :=
 match x with
 | .own c=>match get? st.ck c with
  | some (.row _ t l)=>match elemOf E S with
   | some u=>match zW u with
    | true=>some (⟨(d,.a_ (.slice t) l)::st.sl,del st.ck c,st.nx⟩,[l.length≠0])
    | false=>none
   | none=>none
  | _=>none
 | _=>none
def OO(E:Env)(st:St)(op:Op)(d:Nat):Option (St×List Prop) :=
 match op with
 | .convert S D x=>match Nat.beq S D with
  | true=>match lj st.sl x with
   | some a=>DH E st S a d
   | none=>none
  | false=>none
 | .alloc T=>qY E st T d
 | .box T x=>match lj st.sl x with
  | some a=>Lq E st T a d
  | none=>none
 | .makeSlice T n m=>match lj st.sl n,lj st.sl m with
  | some a,some b=>DR E st T a b d
  | _,_=>none
 | .buildSlice T n ps=>LP E st T n ps.toList d
 | .call c=>match c.callee with
  | .builtin .append=>match c.args.toList,c.argTypes.toList with
   | [x,y],[T,f]=>match Nat.beq T f with
    | true=>match lj st.sl x,lj st.sl y with
     | some a,some b=>pZ E st T a b d
     | _,_=>none
    | false=>none
   | _,_=>none
  | .builtin .copy=>match c.args.toList,c.argTypes.toList with
   | [x,y],[T,_]=>match lj st.sl x,lj st.sl y with
    | some a,some b=>CS E st T a b d
    | _,_=>none
   | _,_=>none
  | _=>zG E st c (some d)
 | _=>none
def Fp(u:Ty)(b:u.den):(t:Ty)->Nat->Nat->t.den->Option t.den
 | .pair c f,k,o,p=>match Nat.beq o k,fi u (.pair c f) b with
  | true,some q=>some q
  | _,_=>match Nat.ble (k+c.size) o with
   | true=>match Fp u b f (k+c.size) o p.2 with
    | some q=>some (p.1,q)
    | none=>none
   | false=>match Fp u b c k o p.1 with
    | some q=>some (q,p.2)
    | none=>none
 | .bool,k,o,_=>match Nat.beq o k with|true=>fi u .bool b|false=>none
 | .int j,k,o,_=>match Nat.beq o k with|true=>fi u (.int j) b|false=>none
 | .str,k,o,_=>match Nat.beq o k with|true=>fi u .str b|false=>none
 | .slice t,k,o,_=>match Nat.beq o k with|true=>fi u (.slice t) b|false=>none
 | _,_,_,_=>none
def NX(st:St)(e:TE)(c i sz o:Nat)(v:AV):Option (St×List Prop) :=
 match get? st.ck c with
 | some (.row f t l)=>match GG [] e.ty v with
  | some a=>match Fp e.ty a t 0 o (l.getD i (zd t)),Nat.beq sz t.size with
   | some q,true=>some (⟨st.sl,jh st.ck c (.row f t (l.set i q)),st.nx⟩,[i<l.length])
   | _,_=>none
  | none=>none
 | _=>none
def zH(E:Env)(st:St)(T:TypeId)(p v:AV):Option (St×List Prop) :=
 match E.te T with
 | some e=>match p with
  | .ref c off=>match get? st.ck c with
   | some (.box f l)=>match o_ e.ty v .nil with
    | some m=>match Nat.ble (off+e.ty.size) (oz l)with
     | true=>some (⟨st.sl,jh st.ck c (.box f (mE l off e.ty.size m)),st.nx⟩,[])
     | false=>none
    | none=>none
   | _=>none
  | .ix c i sz=>match get? st.ck c with
   | some (.row f t l)=>match GG [] t v with
    | some a=>match xY e.ty t,Nat.beq sz t.size with
     | some _,true=>some (⟨st.sl,jh st.ck c (.row f t (l.set i a)),st.nx⟩,[i<l.length])
     | _,_=>none
    | none=>NX st e c i sz 0 v
   | some (.eW q o d (some h))=>match Nat.beq sz 1 with
    | true=>match e.ty,v with
     | .slice _,.jM s x=>match Nat.beq s d with
      | true=>some (⟨st.sl,jh st.ck c (.eW q o d none),st.nx⟩,[i=h/\x=h])
      | false=>none
     | _,_=>none
    | false=>none
   | _=>none
  | .rH d k i sz=>match get? st.ck d with
   | some (.gv f t g)=>match GG [] t v with
    | some a=>match xY e.ty t,Nat.beq sz t.size with
     | some _,true=>some (⟨st.sl,jh st.ck d (.gv f t (g.set k ((g.getD k []).set i a))),st.nx⟩,[i<(g.getD k []).length])
     | _,_=>none
    | none=>none
   | _=>none
  | .ti c i sz o=>NX st e c i sz o v
  | _=>none
 | none=>none
def AP:Op->Bool
 | .move _|.assign _|.nilCheck _|.extract _ _|.binOp _ _ _ _ _|.unOp _ _ _|.load _ _|.fieldAddr _ _ _|.field _ _ _|.indexAddr _ _ _|.index _ _ _|.slice _ _ _ _ _|.convert _ _ _|.build _ _|.pick _ _ _|.makeFunc _ _ _=>true
 | .call c=>match c.callee with
  | .builtin .append|.builtin .copy|.builtin .clear=>false
  | _=>true
 | _=>false
def ab2:Op->Bool
 | .buildSlice _ _ _|.makeSlice _ _ _=>true
 | _=>false
def oJ(an:An)(op:Op):Bool :=
 match an with
 | .ow|.ns|.dy _|.dr _ _ _ _|.dn=>false
 | .dt=>match ab2 op with
  | true=>true
  | false=>AP op
 | _=>AP op
def M1(an:An):Bool :=
 match an with
 | .dy _|.dr _ _ _ _|.dn=>true
 | _=>false
def dy2(E:Env)(T:TypeId)(a b:AV)(an:An):Option (AV×List Prop) :=
 match elemOf E T with
 | some u=>match E.te T with
  | some e=>match E.te e.elem with
   | some f=>match Nat.ble 1 f.bytes with
    | true=>match kF [] (.slice u) b with
     | some m=>match sf a with
      | true=>some (.a_ (.slice u) m,[m.length*f.bytes<=140737488355328])
      | false=>match a with
       | .own h=>match an with
        | .dr c i t l=>match Nat.beq h c with
         | true=>match fi (.slice u) (.slice t) m with
          | some g=>some (.a_ (.slice t) (l++g),[(l.length+g.length)*f.bytes<=140737488355328,i=e.elem])
          | none=>none
         | false=>none
        | _=>none
       | _=>none
     | none=>none
    | false=>none
   | none=>none
  | none=>none
 | none=>none
def dyA(E:Env)(sl:List (Nat×AV))(o:Oper)(an:An):Option (AV×List Prop) :=
 match o.guard with
 | some _=>none
 | none=>match o.op with
  | .call c=>match c.callee with
   | .builtin .append=>match c.args.toList,c.argTypes.toList with
    | [x,y],[T,f]=>match Nat.beq T f with
     | true=>match lj sl x,lj sl y with
      | some a,some b=>match dy2 E T a b an with
       | some (r,ps)=>some (r,fG sl (gD o.op)++ps)
       | none=>none
      | _,_=>none
     | false=>none
    | _,_=>none
   | _=>none
  | _=>none
def zS(ck:List (Nat×CT)):List (Nat×An)->List (Nat×An)
 | []=>[]
 | (k,a)::r=>match a with
  | .dy c=>match get? ck c with
   | some (.row T t l)=>(k,.dr c T t l)::zS ck r
   | _=>(k,.dn)::zS ck r
  | a=>(k,a)::zS ck r
def mi(ck:List (Nat×CT)):List (Nat×An)->List (Nat×CT)
 | []=>ck
 | (_,a)::r=>match a with
  | .dy c=>mi (del ck c) r
  | _=>mi ck r
def mV(c:Nat)(t:Ty)(l:List t.den):AV->AV
 | .own g=>match Nat.beq g c with|true=>.a_ (.slice t) l|false=>.own g
 | .ref g o=>match Nat.beq g c with|true=>.any|false=>.ref g o
 | .ix g i sz=>match Nat.beq g c with|true=>.any|false=>.ix g i sz
 | .ti g i sz o=>match Nat.beq g c with|true=>.any|false=>.ti g i sz o
 | .jM d k=>.jM d k
 | .rH d k i sz=>.rH d k i sz
 | .tl g i=>match Nat.beq g c with|true=>.any|false=>.tl g i
 | .cons x k=>.cons (mV c t l x) (mV c t l k)
 | .js k=>.js (mV c t l k)
 | .agg k=>.agg (mV c t l k)
 | .kL f k=>.kL f (mV c t l k)
 | .imp p x=>.imp p (mV c t l x)
 | x=>x
def E8(c:Nat)(t:Ty)(l:List t.den):List (Nat×AV)->List (Nat×AV)
 | []=>[]
 | (s,x)::r=>(s,mV c t l x)::E8 c t l r
def lB(c:Nat)(t:Ty)(l:List t.den):List (Nat×CT)->List (Nat×CT)
 | []=>[]
 | (k,.box T x)::r=>(k,.box T (mV c t l x))::lB c t l r
 | (k,.row T u x)::r=>(k,.row T u x)::lB c t l r
 | (k,.eW T o d f)::r=>(k,.eW T o d f)::lB c t l r
 | (k,.gv T u g)::r=>(k,.gv T u g)::lB c t l r
def oV(c d:Nat)(o:Bool)(t:Ty)(ll:List (List t.den)):AV->AV
 | .iE g n=>match Nat.beq g c with
  | true=>match o with
   | true=>.a_ (.slice (.one (.slice t))) ll
   | false=>.a_ (.slice (.slice t)) ll
  | false=>.iE g n
 | .jM h k=>match Nat.beq h d with|true=>.a_ (.slice t) (ll.getD k [])|false=>.jM h k
 | .cons x k=>.cons (oV c d o t ll x) (oV c d o t ll k)
 | .js k=>.js (oV c d o t ll k)
 | .agg k=>.agg (oV c d o t ll k)
 | .kL f k=>.kL f (oV c d o t ll k)
 | .imp p x=>.imp p (oV c d o t ll x)
 | x=>x
def vj(c d:Nat)(o:Bool)(t:Ty)(ll:List (List t.den)):List (Nat×AV)->List (Nat×AV)
 | []=>[]
 | (s,x)::r=>(s,oV c d o t ll x)::vj c d o t ll r
def iF(c d:Nat)(o:Bool)(t:Ty)(ll:List (List t.den)):List (Nat×CT)->List (Nat×CT)
 | []=>[]
 | (k,.box T x)::r=>(k,.box T (oV c d o t ll x))::iF c d o t ll r
 | x::r=>x::iF c d o t ll r
def KE(st:St):List Nat->St
 | []=>st
 | c::f=>match get? st.ck c with
  | some (.row _ t l)=>KE ⟨E8 c t l st.sl,lB c t l (del st.ck c),st.nx⟩ f
  | some (.eW _ o d none)=>match get? st.ck d with
   | some (.gv _ t g)=>KE ⟨vj c d o t g st.sl,iF c d o t g (gw st.ck [c,d]),st.nx⟩ f
   | _=>KE st f
  | _=>KE st f
def BC(c d:Nat):AV->AV
 | .iE g n=>match Nat.beq g c with|true=>.own g|false=>.iE g n
 | .jM h k=>match Nat.beq h d with|true=>.any|false=>.jM h k
 | .cons x k=>.cons (BC c d x) (BC c d k)
 | .js k=>.js (BC c d k)
 | .agg k=>.agg (BC c d k)
 | .kL f k=>.kL f (BC c d k)
 | .imp p x=>.imp p (BC c d x)
 | x=>x
def ubS(c d:Nat):List (Nat×AV)->List (Nat×AV)
 | []=>[]
 | (s,x)::r=>(s,BC c d x)::ubS c d r
def vM(c d:Nat)(ct:CT):List (Nat×CT)->List (Nat×CT)
 | []=>[]
 | (k,.box T x)::r=>(k,.box T (BC c d x))::vM c d ct r
 | (k,x)::r=>match Nat.beq k c with
  | true=>(k,ct)::vM c d ct r
  | false=>match Nat.beq k d with
   | true=>vM c d ct r
   | false=>(k,x)::vM c d ct r
def ubg(st:St)(c:Nat):Option St :=
 match get? st.ck c with
 | some (.eW T false d none)=>match get? st.ck d with
  | some (.gv _ t f)=>some ⟨ubS c d st.sl,vM c d (.row T (.slice t) f) st.ck,st.nx⟩
  | _=>none
 | _=>none
def K4:List (Nat×CT)->Nat->Option Nat
 | [],_=>none
 | (c,z)::l,d=>match z with
  | .eW _ _ f _=>match Nat.beq f d with
   | true=>some c
   | false=>K4 l d
  | _=>K4 l d
def vB(E:Env)(st:St)(T:TypeId)(d i:Nat)(b:AV)(dst:Option Nat):Option (St×AV×List Nat×List Prop) :=
 match elemOf E T with
 | some u=>match E.te T with
  | some e=>match E.te e.elem with
   | some g=>match Nat.ble 1 g.bytes with
    | true=>match Dg st.ck (.slice u) b with
     | some m=>match get? st.ck d with
      | some (.gv h t f)=>match fi (.slice u) (.slice t) m with
       | some p=>match K4 st.ck d with
        | some c=>match get? st.ck c with
         | some (.eW q o s none)=>match Nat.beq s d with
          | true=>some (⟨put st.sl dst (.jM st.nx i),(st.nx,.gv h t (f.set i (f.getD i []++p)))::(c,.eW q o st.nx (some i))::gw st.ck [d,c],st.nx+1⟩,.jM st.nx i,[st.nx,c],[((f.getD i []).length+p.length)*g.bytes<=140737488355328,h=e.elem])
          | false=>none
         | _=>none
        | none=>none
       | none=>none
      | _=>none
     | none=>none
    | false=>none
   | none=>none
  | none=>none
 | none=>none
def uP(E:Env)(st:St)(T:TypeId)(a:AV)(k:Nat)(dst:Option Nat):Option (St×AV×List Nat×List Prop) :=
 match elemOf E T with
 | some u=>match E.te T with
  | some e=>match E.te e.elem with
   | some m=>match Nat.ble 1 m.bytes,Nat.beq u.size 1 with
    | true,true=>match get? st.ck k with
     | some (.eW A y h none)=>match get? st.ck h with
      | some (.gv q t g)=>match sf a with
       | true=>some (⟨put st.sl dst (.iE st.nx g.length),(st.nx,.eW e.elem y (st.nx+1) none)::(st.nx+1,.gv q t g)::gw st.ck [k,h],st.nx+2⟩,.iE st.nx g.length,[st.nx,st.nx+1],[g.length*m.bytes<=140737488355328])
       | false=>match a with
        | .iE c _=>match get? st.ck c with
         | some (.eW s z p none)=>match get? st.ck p with
          | some (.gv v x i)=>match fi (.slice (.slice t)) (.slice (.slice x)) g with
           | some f=>match Nat.beq c k,Nat.beq p h with
            | false,false=>some (⟨put st.sl dst (.iE st.nx (i++f).length),(st.nx,.eW s z (st.nx+1) none)::(st.nx+1,.gv v x (i++f))::gw st.ck [c,p,k,h],st.nx+2⟩,.iE st.nx (i++f).length,[st.nx,st.nx+1],[(i.length+f.length)*m.bytes<=140737488355328,s=e.elem/\v=q])
            | _,_=>none
           | none=>none
          | _=>none
         | _=>none
        | _=>none
      | _=>none
     | _=>none
    | _,_=>none
   | none=>none
  | none=>none
 | none=>none
def zh(E:Env)(st:St)(T:TypeId)(n:Nat)(ps:List (Nat×Operand))(dst:Option Nat):Option (St×AV×List Nat×List Prop) :=
 match elemOf E T with
 | some u=>match E.te T with
  | some e=>match Nat.beq n 1,Nat.beq u.size 1 with
   | true,true=>match jd (lj st.sl) (FO u) ps (IU u n)with
    | some (.cons (.own k) .nil)=>match get? st.ck k with
     | some (.row c t l)=>some (⟨put st.sl dst (.iE st.nx 1),(st.nx,.eW e.elem u.isAgg (st.nx+1) none)::(st.nx+1,.gv c t [l])::gw st.ck [k],st.nx+2⟩,.iE st.nx 1,[st.nx,st.nx+1],[])
     | _=>none
    | _=>none
   | _,_=>none
  | none=>none
 | none=>none
def tf(E:Env)(st:St)(T:TypeId)(a b:AV)(dst:Option Nat):Option (St×AV×List Nat×List Prop) :=
 match a,b with
 | .a_ (.int .i64) a,.a_ (.int .i64) b=>match elemOf E T with
  | some (.slice t)=>match E.te T with
   | some e=>match E.te e.elem with
    | some c=>some (⟨put st.sl dst (.iE st.nx a.toNat),(st.nx,.eW e.elem false (st.nx+1) none)::(st.nx+1,.gv c.elem t (List.replicate a.toNat []))::st.ck,st.nx+2⟩,.iE st.nx a.toNat,[st.nx,st.nx+1],[0<=a/\a<=b/\(c.bytes:Int)*b<=140737488355328])
    | none=>none
   | none=>none
  | _=>none
 | _,_=>none
def Az(E:Env)(st:St)(T:TypeId)(p v:AV):Option (St×List Nat×List Prop) :=
 match E.te T with
 | some e=>match p,v with
  | .ix c j sz,.own n=>match get? st.ck c,get? st.ck n with
   | some (.eW m o d q),some (.row s t l)=>match get? st.ck d with
    | some (.gv f g h)=>match fi (.slice t) (.slice g) l with
     | some x=>match Nat.beq sz 1,e.ty with
      | true,.slice _=>some (⟨st.sl,(st.nx,.gv f g (h.set j x))::(c,.eW m o st.nx none)::gw st.ck [d,c,n],st.nx+1⟩,[st.nx,c],[j<h.length,s=f,∀ i,q=some i->i=j])
      | _,_=>none
     | none=>none
    | _=>none
   | _,_=>none
  | _,_=>none
 | none=>none
def s9(E:Env)(st:St)(o:Oper):Option (St×AV×List Nat×List Prop) :=
 match o.op with
 | .call c=>match c.callee with
  | .builtin .append=>match c.args.toList,c.argTypes.toList with
   | [x,y],[T,p]=>match Nat.beq T p with
    | true=>match lj st.sl x,lj st.sl y with
     | some a,some b=>match (match a with|.jM d i=>vB E st T d i b o.dst|a=>(match b with|.iE k _=>uP E st T a k o.dst|_=>none))with
      | some (f,r,g,ps)=>some (f,r,g,fG st.sl (gD o.op)++ps)
      | none=>none
     | _,_=>none
    | false=>none
   | _,_=>none
  | _=>none
 | .buildSlice T n ps=>match zh E st T n ps.toList o.dst with
  | some (f,r,g,h)=>some (f,r,g,fG st.sl (gD o.op)++h)
  | none=>none
 | .makeSlice T n m=>match lj st.sl n,lj st.sl m with
  | some a,some b=>match tf E st T a b o.dst with
   | some (f,r,g,ps)=>some (f,r,g,fG st.sl (gD o.op)++ps)
   | none=>none
  | _,_=>none
 | _=>none
def wG(E:Env)(st:St)(T:TypeId)(x:AV):Option (St×List Prop) :=
 match x with
 | .tl c i=>match elemOf E T with
  | some u=>match get? st.ck c with
   | some (.row f t l)=>match xY t u,Nat.beq u.size 1 with
    | some _,true=>some (⟨st.sl,jh st.ck c (.row f t (l.take i++List.replicate (l.length-i) (zd t))),st.nx⟩,[i<=l.length])
    | _,_=>none
   | _=>none
  | none=>none
 | _=>none
def P3(E:Env)(st:St)(c:Call):Option (St×List Prop) :=
 match c.args.toList,c.argTypes.toList with
 | [x],[T]=>match lj st.sl x with
  | some a=>match wG E st T a with
   | some (f,ps)=>some (f,ps)
   | none=>none
  | none=>none
 | _,_=>none
def aac(c:Call):Bool :=
 match c.callee with
 | .builtin .clear=>true
 | _=>false
def Ma(E:Env)(st:St)(o:Oper):Option (St×List Prop) :=
 match o.dst with
 | some d=>match OO E st o.op d with
  | some (f,ps)=>some (f,fG st.sl (gD o.op)++ps)
  | none=>none
 | none=>match o.op with
  | .store T p v=>match lj st.sl p,lj st.sl v with
   | some a,some b=>match zH E st T a b with
    | some (f,ps)=>some (f,fG st.sl [p,v]++ps)
    | none=>match Az E st T a b with
     | some (f,_,ps)=>some (f,fG st.sl [p,v]++ps)
     | none=>none
   | _,_=>none
  | .call c=>match aac c with
   | true=>match P3 E st c with
    | some (f,ps)=>some (f,fG st.sl (gD o.op)++ps)
    | none=>none
   | false=>match zG E st c none with
    | some (f,ps)=>some (f,fG st.sl (gD o.op)++ps)
    | none=>none
  | _=>none
def OY(E:Env)(st:St)(o:Oper)(an:An):Option (St×List Prop) :=
 match an with
 | .fz c=>match o.op with
  | .alloc _=>Ma E st o
  | _=>match Ma E st o with
   | some (f,ps)=>some (KE f [c],ps)
   | none=>none
 | .ns=>match o.op with
  | .alloc _=>Ma E st o
  | _=>match s9 E st o with
   | some (f,_,_,ps)=>some (f,ps)
   | none=>none
 | _=>Ma E st o
def Bs(E:Env)(st:St)(ds:List (Option Nat))(o:Oper)(an:An):Option (St×List Prop) :=
 match oJ an o.op with
 | true=>match po E st.sl st.ck ds o an with
  | some (r,ps)=>some (⟨put st.sl o.dst r,st.ck,st.nx⟩,ps)
  | none=>none
 | false=>match o.guard with
  | some (g,c)=>match ju ds g with
   | some (some t)=>match get? st.sl t with
    | some x=>match nr x c with
     | some .run=>OY E st o an
     | some .dead=>some (⟨put st.sl o.dst (.val undef),st.ck,st.nx⟩,[])
     | _=>none
    | none=>none
   | _=>none
  | none=>OY E st o an
def OD:List (Nat×An)->Nat->An
 | [],_=>.no
 | (k,x)::l,j=>match Nat.beq k j with|true=>x|false=>OD l j
def mX(an:List (Nat×An))(o:Oper):An :=
 match o.dst with
 | some d=>OD an d
 | none=>.no
def gP(E:Env)(an:List (Nat×An))(ds:List (Option Nat)):List Oper->St->List Prop->Option (St×List Prop)
 | [],st,ps=>some (st,ps)
 | o::l,st,ps=>match Bs E st ds o (mX an o)with
  | some (c,qs)=>gP E an ds l c (ps++qs)
  | none=>none
def mQ(o:Oper):Bool :=
 match o.op with
 | .alloc _=>match o.guard with
  | none=>match o.dst with
   | some _=>true
   | none=>false
  | some _=>false
 | _=>false
def iZ(an:List (Nat×An))(o:Oper):Bool :=
 match oJ (mX an o) o.op with
 | true=>true
 | false=>M1 (mX an o)
def Fw(an:List (Nat×An)):List Oper->List Oper
 | []=>[]
 | o::l=>match iZ an o with
  | true=>o::Fw an l
  | false=>match mQ o with
   | true=>Fw an l
   | false=>[]
def E9(an:List (Nat×An)):List Oper->List Oper
 | []=>[]
 | o::l=>match iZ an o with
  | true=>E9 an l
  | false=>match mQ o with
   | true=>o::E9 an l
   | false=>[]
def EE(an:List (Nat×An)):List Oper->List Oper
 | []=>[]
 | o::l=>match iZ an o with
  | true=>EE an l
  | false=>match mQ o with
   | true=>EE an l
   | false=>o::l
def evP(E:Env)(sl:List (Nat×AV))(ck:List (Nat×CT))(ds:List (Option Nat))(o:Oper)(an:An):Option (AV×List Prop) :=
 match oJ an o.op with
 | true=>po E sl ck ds o an
 | false=>dyA E sl o an
def kK(E:Env)(an:List (Nat×An))(ds:List (Option Nat)):List Oper->St->List Prop->Option (St×List Prop)
 | [],st,ps=>some (st,ps)
 | o::l,st,ps=>match evP E st.sl st.ck ds o (mX an o)with
  | some (r,qs)=>kK E an ds l ⟨put st.sl o.dst r,st.ck,st.nx⟩ (ps++qs)
  | none=>none
def Lt(E:Env)(an:List (Nat×An))(ds:List (Option Nat))(l:List Oper)(st:St):Option (St×List Prop) :=
 match kK E an ds (Fw an l) st []with
 | some (c,ps)=>gP E an ds (E9 an l++EE an l) c ps
 | none=>none
def hU:List Oper->List (Option Nat)
 | []=>[]
 | o::l=>o.dst::hU l
inductive It where
 | code (c:Code)
 | fa (id:Nat)
 | mark (R:Act->World->Prop)
def lX(id:Nat):List It->Option (List It)
 | []=>none
 | i::k=>match i with
  | .fa j=>match Nat.beq j id with
   | true=>some k
   | false=>lX id k
  | _=>lX id k
def Ir:List (Nat×List (Nat×An))->Nat->List (Nat×An)
 | [],_=>[]
 | (k,x)::l,j=>match Nat.beq k j with|true=>x|false=>Ir l j
def OR:AV->Bool
 | .nil=>false
 | .cons _ _=>false
 | _=>true
def kh(ck:List (Nat×CT))(d:Nat):Bool :=
 match get? ck d with
 | some (.gv _ _ _)=>true
 | _=>false
def zQ(cf ck:List (Nat×CT))(n n':Nat):AV->AV->List Prop
 | _,.any=>[]
 | x,.a_ t b=>match GG ck t x with
  | some a=>[a=b]
  | none=>[False]
 | .lit b,.lit i=>[b=i]
 | .a_ .bool b,.lit i=>[b=i]
 | .js l,.js g=>(kl g=true)::zQ cf ck n n' l g
 | .kL f l,.kL p g=>(f=p/\kl g=true)::zQ cf ck n n' l g
 | .agg l,.agg g=>(kl g=true)::zQ cf ck n n' l g
 | .nil,.nil=>[]
 | .cons x l,.cons y g=>(OR y=true)::(zQ cf ck n n' x y++zQ cf ck n n' l g)
 | .own c,.own h=>[c=h/\c<n]
 | .val (.slice none 0 0),.own c=>match kh cf c with
  | false=>[n<=c/\c<n']
  | true=>[False]
 | .ref c o,.ref h q=>[c=h/\o=q/\c<n]
 | .iE c k,.iE h m=>[c=h/\k=m/\c<n]
 | .val (.slice none 0 0),.iE c k=>match kh cf c with
  | false=>[n<=c/\c<n'/\k=0]
  | true=>[False]
 | .jM d k,.jM s m=>[d=s/\k=m/\d<n]
 | .val v,.val z=>[v=z]
 | _,_=>[False]
def Hd(cf ck:List (Nat×CT))(n n':Nat)(sl:List (Nat×AV)):List (Nat×AV)->List Prop
 | []=>[]
 | (t,y)::l=>match get? sl t with
  | some x=>(OR y=true)::(zQ cf ck n n' x y++Hd cf ck n n' sl l)
  | none=>[False]
def qi(cf f ck:List (Nat×CT))(n n':Nat):List (Nat×CT)->List Prop
 | []=>[]
 | (c,.box T y)::l=>match get? ck c with
  | some (.box g x)=>(g=T/\c<n/\kl y=true)::(zQ cf f n n' x y++qi cf f ck n n' l)
  | _=>[False]
 | (c,.row T u y)::l=>match get? ck c with
  | some (.row g t x)=>match fi (.slice t) (.slice u) x with
   | some h=>(g=T/\c<n)::(h=y)::qi cf f ck n n' l
   | none=>[False]
  | some _=>[False]
  | none=>(y=[])::(n<=c/\c<n')::qi cf f ck n n' l
 | (c,.eW T o d m)::l=>match get? ck c with
  | some (.eW g p q i)=>(g=T/\p=o/\q=d/\i=m/\c<n/\d<n)::qi cf f ck n n' l
  | some _=>[False]
  | none=>(m=none/\n<=c/\c<n'/\n<=d/\d<n'/\kh cf c=false/\kh cf d=true)::qi cf f ck n n' l
 | (c,.gv T u y)::l=>match get? ck c with
  | some (.gv g t x)=>match fi (.slice (.slice t)) (.slice (.slice u)) x with
   | some h=>(g=T/\c<n)::(h=y)::qi cf f ck n n' l
   | none=>[False]
  | some _=>[False]
  | none=>(y=[])::(n<=c/\c<n')::qi cf f ck n n' l
def eP:List Prop->Prop
 | []=>True
 | p::l=>p/\eP l
def minus(ck:List (Nat×CT))(ck':List (Nat×CT)):List (Nat×CT) :=
 match ck with
 | []=>[]
 | (k,.row T t l)::r=>match get? ck' k with
  | some _=>minus r ck'
  | none=>(k,.row T t l)::minus r ck'
 | (k,.eW T o d c)::r=>match get? ck' k with
  | some _=>minus r ck'
  | none=>(k,.eW T o d c)::minus r ck'
 | (k,.gv T t f)::r=>match get? ck' k with
  | some _=>minus r ck'
  | none=>(k,.gv T t f)::minus r ck'
 | (k,.box _ _)::r=>minus r ck'
def nH:List (Nat×CT)->Bool
 | []=>true
 | (k,_)::l=>match get? l k with
  | some _=>false
  | none=>nH l
def leS(f:Nat)(st c:St)(n:Nat):Prop :=
 (f<=n/\n<=st.nx)/\n<=c.nx/\nH c.ck=true/\eP (Hd c.ck (minus st.ck c.ck) n c.nx st.sl c.sl)/\eP (qi c.ck (minus st.ck c.ck) st.ck n c.nx c.ck)
def yu(E:Env)(st:St):List ResultVar->Option AV
 | []=>some .nil
 | .tmp t::l=>match get? st.sl t,yu E st l with
  | some x,some r=>some (.cons x r)
  | _,_=>none
 | .cell p T::l=>match get? st.sl p,E.te T with
  | some a,some e=>match vW st.ck e a,yu E st l with
   | some (x,[]),some r=>some (.cons x r)
   | _,_=>none
  | _,_=>none
def uO:AV->AV
 | .cons x .nil=>x
 | l=>.js l
def Hu:List Prop->Prop->Prop
 | [],q=>q
 | p::l,q=>p/\Hu l q
theorem xM{q:Prop}:∀{l:List Prop},Hu l q->eP l/\q
 | [],h=>⟨trivial,h⟩
 | p::l,h=>⟨⟨h.1,(xM h.2).1⟩,(xM h.2).2⟩
structure Sx where
 E:Env
 N:Nat
 an:List (Nat×List (Nat×An))
 fz:List (Nat×List Nat)
 stop:List Nat
 res:List ResultVar
 out:AV
 nb:Nat
 om:Option (List (Nat×CT)×Nat)
def rFz:List (Nat×List Nat)->Nat->List Nat
 | [],_=>[]
 | (k,x)::l,j=>match Nat.beq k j with|true=>x|false=>rFz l j
def JU(f:List (Nat×Nat))(i c:Nat):List (Nat×Nat) :=
 match get? f i with
 | some _=>f
 | none=>(i,c)::f
def uF:AV->AV->List (Nat×Nat)->List (Nat×Nat)
 | .own c,.own i,f=>JU f i c
 | .iE c _,.iE i _,f=>JU f i c
 | .ref c _,.ref i _,f=>JU f i c
 | .js l,.js g,f=>uF l g f
 | .agg l,.agg g,f=>uF l g f
 | .cons x l,.cons y g,f=>uF l g (uF x y f)
 | _,_,f=>f
def exM(ck sp:List (Nat×CT)):List (Nat×Nat)->List (Nat×Nat)->List (Nat×Nat)
 | [],f=>f
 | (i,c)::l,f=>match get? ck c,get? sp i with
  | some (.eW _ _ d _),some (.eW _ _ j _)=>exM ck sp l (JU f j d)
  | some (.box _ x),some (.box _ y)=>exM ck sp l (uF x y f)
  | _,_=>exM ck sp l f
def Ji(ck sp:List (Nat×CT))(mp:List (Nat×Nat)):List (Nat×Nat):=exM ck sp mp mp
def idM(sp:List (Nat×CT)):Nat->List (Nat×Nat)
 | 0=>[]
 | n+1=>match get? sp n with
  | some (.box _ _)=>(n,n)::idM sp n
  | _=>idM sp n
def ph:List (Nat×Nat)->Nat->Option Nat
 | [],_=>none
 | (i,c)::l,k=>match Nat.beq c k with
  | true=>some i
  | false=>ph l k
def vE(mp:List (Nat×Nat)):AV->AV
 | .own c=>match ph mp c with|some i=>.own i|none=>.any
 | .ref c o=>match ph mp c with|some i=>.ref i o|none=>.any
 | .ix _ _ _=>.any
 | .ti _ _ _ _=>.any
 | .iE c n=>match ph mp c with|some i=>.iE i n|none=>.any
 | .jM d k=>match ph mp d with|some i=>.jM i k|none=>.any
 | .rH _ _ _ _=>.any
 | .tl _ _=>.any
 | .cons x l=>.cons (vE mp x) (vE mp l)
 | .js l=>.js (vE mp l)
 | .agg l=>.agg (vE mp l)
 | .kL f l=>.kL f (vE mp l)
 | .imp p x=>.imp p (vE mp x)
 | x=>x
def qa(mp:List (Nat×Nat))(nx:Nat):AV->AV->AV
 | .val (.slice none 0 0),.own i=>match get? mp i with
  | none=>match Nat.ble (i+1) nx with|true=>.own i|false=>.any
  | some _=>.any
 | .js l,.js c=>.js (qa mp nx l c)
 | .agg l,.agg c=>.agg (qa mp nx l c)
 | .cons x l,.cons y c=>.cons (qa mp nx x y) (qa mp nx l c)
 | x,_=>x
def uD(mp:List (Nat×Nat))(nx:Nat)(ck:List (Nat×CT)):List (Nat×CT)->List (Nat×CT)
 | []=>[]
 | (i,s)::l=>match get? mp i with
  | some c=>match get? ck c with
   | some (.box T x)=>(i,.box T (vE mp x))::uD mp nx ck l
   | some (.row T t x)=>(i,.row T t x)::uD mp nx ck l
   | some (.eW T o d f)=>match ph mp d with
    | some j=>(i,.eW T o j f)::uD mp nx ck l
    | none=>uD mp nx ck l
   | some (.gv T t x)=>(i,.gv T t x)::uD mp nx ck l
   | none=>uD mp nx ck l
  | none=>match s,Nat.ble (i+1) nx with
   | .row T t _,true=>(i,.row T t [])::uD mp nx ck l
   | _,_=>uD mp nx ck l
def EZ(mp:List (Nat×Nat)):List (Nat×AV)->List (Nat×AV)
 | []=>[]
 | (t,x)::l=>(t,vE mp x)::EZ mp l
def spR:List (Nat×Nat)->List (Nat×CT)
 | []=>[]
 | (i,_)::l=>(i,.gv 0 .bool [])::spR l
def OG(nx:Nat):List (Nat×Nat)->Bool
 | []=>true
 | (i,c)::l=>match Nat.ble (i+1) nx,get? l i,ph l c with
  | true,none,none=>OG nx l
  | _,_,_=>false
def oK(ck:List (Nat×CT))(mp:List (Nat×Nat)):Nat->Bool
 | 0=>true
 | n+1=>match get? mp n with
  | some k=>match Nat.beq k n with
   | true=>oK ck mp n
   | false=>match get? ck k with
    | some (.box _ _)=>false
    | _=>oK ck mp n
  | none=>oK ck mp n
def abr(c:Nat)(st:St)(r out:AV)(ck:List (Nat×CT))(nx:Nat)(mp:List (Nat×Nat)):Prop :=
 (OG nx mp=true/\oK st.ck mp c=true)/\leS c ⟨[(0,qa mp nx (vE mp r) out)],uD mp nx st.ck ck,nx⟩ ⟨[(0,out)],ck,nx⟩ nx
def ku(S:Sx)(st:St):Prop :=
 match yu S.E st S.res with
 | some r=>match S.om with
  | none=>eP (zQ [] (minus st.ck []) 0 0 (uO r) S.out)
  | some (ck,c)=>abr S.nb st (uO r) S.out ck c (Ji st.ck ck (uF (uO r) S.out (idM ck S.nb)))
 | none=>False
def sU:List (Nat×CT)->List Nat
 | []=>[]
 | (k,_)::r=>k::sU r
def mZ(E:Env)(st:St)(c:Call)(d:Option Nat):Option (St×AV×List Nat×List Prop) :=
 match oG E st c d with
 | some (f,r,ck,ps)=>some (f,r,sU ck,ps)
 | none=>none
def PJ:An->Bool
 | .fz _=>true
 | _=>false
def Bm(E:Env)(st:St)(T:TypeId)(a b:AV)(d:Option Nat)(an:An):Option (St×AV×List Nat×List Prop) :=
 match elemOf E T with
 | some u=>match E.te T with
  | some e=>match E.te e.elem with
   | some c=>match Nat.ble 1 c.bytes with
    | true=>match Dg st.ck (.slice u) b with
     | some m=>match sf a with
      | true=>match PJ an with
       | true=>some (⟨put st.sl d (.a_ (.slice u) m),st.ck,st.nx⟩,.a_ (.slice u) m,[],[m.length*c.bytes<=140737488355328])
       | false=>some (⟨put st.sl d (.own st.nx),(st.nx,.row e.elem u m)::st.ck,st.nx+1⟩,.own st.nx,[st.nx],[m.length*c.bytes<=140737488355328])
      | false=>match a with
       | .own k=>match get? st.ck k with
        | some (.row g t l)=>match fi (.slice u) (.slice t) m with
         | some f=>match PJ an with
          | true=>some (⟨put st.sl d (.a_ (.slice t) (l++f)),del st.ck k,st.nx⟩,.a_ (.slice t) (l++f),[],[(l.length+f.length)*c.bytes<=140737488355328,g=e.elem])
          | false=>some (⟨put st.sl d (.own st.nx),(st.nx,.row g t (l++f))::del st.ck k,st.nx+1⟩,.own st.nx,[st.nx],[(l.length+f.length)*c.bytes<=140737488355328,g=e.elem])
         | none=>none
        | _=>none
       | _=>none
     | none=>none
    | false=>none
   | none=>none
  | none=>none
 | none=>none
def EW(E:Env)(st:St)(T:TypeId)(n:Nat)(ps:List (Nat×Operand))(d:Option Nat):Option (St×AV×List Nat×List Prop) :=
 match elemOf E T with
 | some u=>match E.te T with
  | some e=>match Nat.ble (n*u.size) 16777216,Nat.ble 1 n with
   | true,true=>match jd (lj st.sl) (FO u) ps (IU u n)with
    | some c=>match oP u n c with
     | some l=>some (⟨put st.sl d (.own st.nx),(st.nx,.row e.elem u l)::st.ck,st.nx+1⟩,.own st.nx,[st.nx],[])
     | none=>none
    | none=>none
   | true,false=>match ps with
    | []=>some (⟨put st.sl d (.own st.nx),(st.nx,.row e.elem u [])::st.ck,st.nx+1⟩,.own st.nx,[st.nx],[])
    | _::_=>none
   | _,_=>none
  | none=>none
 | none=>none
def uZ(E:Env)(st:St)(T:TypeId)(a b:AV)(d:Option Nat):Option (St×AV×List Nat×List Prop) :=
 match a,b with
 | .a_ (.int .i64) a,.a_ (.int .i64) b=>match elemOf E T with
  | some u=>match E.te T with
   | some e=>match E.te e.elem with
    | some c=>some (⟨put st.sl d (.own st.nx),(st.nx,.row e.elem u (List.replicate a.toNat (zd u)))::st.ck,st.nx+1⟩,.own st.nx,[st.nx],[0<=a/\a<=b/\(c.bytes:Int)*b<=140737488355328])
    | none=>none
   | none=>none
  | none=>none
 | _,_=>none
def kQ(E:Env)(st:St)(T:TypeId)(d:Option Nat):Option (St×AV×List Nat×List Prop) :=
 match E.te T with
 | some e=>some (⟨put st.sl d (.ref st.nx 0),(st.nx,.box T (zA e.ty .nil))::st.ck,st.nx+1⟩,.ref st.nx 0,[st.nx],[])
 | none=>none
def uh(E:Env)(st:St)(T:TypeId)(p v:Operand)(d:Option Nat):Option (St×AV×List Nat×List Prop) :=
 match lj st.sl p,lj st.sl v with
 | some a,some b=>match zH E st T a b with
  | some (c,ps)=>some (⟨put st.sl d (.val undef),c.ck,c.nx⟩,.val undef,sU st.ck,fG st.sl [p,v]++ps)
  | none=>match Az E st T a b with
   | some (c,f,ps)=>some (⟨put st.sl d (.val undef),c.ck,c.nx⟩,.val undef,f,fG st.sl [p,v]++ps)
   | none=>none
 | _,_=>none
def xI(E:Env)(st:St)(o:Oper)(an:An):Option (St×AV×List Nat×List Prop) :=
 match o.op with
 | .call c=>match c.callee with
  | .builtin .append=>match c.args.toList,c.argTypes.toList with
   | [x,y],[T,h]=>match Nat.beq T h with
    | true=>match lj st.sl x,lj st.sl y with
     | some a,some b=>match Bm E st T a b o.dst an with
      | some (f,r,g,ps)=>some (f,r,g,fG st.sl (gD o.op)++ps)
      | none=>none
     | _,_=>none
    | false=>none
   | _,_=>none
  | _=>match mZ E st c o.dst with
   | some (f,r,g,ps)=>some (f,r,g,fG st.sl (gD o.op)++ps)
   | none=>none
 | .buildSlice T n ps=>match EW E st T n ps.toList o.dst with
  | some (f,r,g,qs)=>some (f,r,g,fG st.sl (gD o.op)++qs)
  | none=>none
 | .makeSlice T n m=>match lj st.sl n,lj st.sl m with
  | some a,some b=>match uZ E st T a b o.dst with
   | some (f,r,g,ps)=>some (f,r,g,fG st.sl (gD o.op)++ps)
   | none=>none
  | _,_=>none
 | .alloc T=>kQ E st T o.dst
 | .store T p v=>uh E st T p v o.dst
 | _=>none
def FQ(E:Env)(st:St)(o:Oper)(an:An):Option (St×AV×List Nat×List Prop) :=
 match o.op with
 | .alloc T=>kQ E st T o.dst
 | _=>match an with
  | .ns=>s9 E st o
  | _=>xI E st o an
def CP(E:Env)(st:St)(ds:List (Option Nat))(o:Oper)(an:An):Option (St×AV×List Nat×List Prop) :=
 match o.guard with
 | none=>FQ E st o an
 | some (g,c)=>match ju ds g with
  | some (some t)=>match get? st.sl t with
   | some x=>match nr x c with
    | some .run=>FQ E st o an
    | some .dead=>some (⟨put st.sl o.dst (.val undef),st.ck,st.nx⟩,.val undef,[],[])
    | _=>none
   | none=>none
  | _=>none
def KD:Nat->List (Nat×List Nat)->List Nat
 | _,[]=>[]
 | c,(e,f)::r=>match Nat.ble c e with
  | true=>yz f (KD c r)
  | false=>KD c r
where yz:List Nat->List Nat->List Nat
 | [],k=>k
 | c::l,k=>c::yz l k
def rS:List (Nat×CT)->List Nat
 | []=>[]
 | (k,c)::r=>match c with
  | .row _ _ _=>k::rS r
  | .eW _ _ _ _=>k::rS r
  | .gv _ _ _=>k::rS r
  | .box _ _=>rS r
def PW(fl:List (Nat×Nat)):Nat :=
 match get? fl 5000000 with
 | some c=>c
 | none=>6000000
def Fy(ck:List (Nat×CT))(fl:List (Nat×Nat))(j:Nat)(tch:List (Nat×List Nat)):List Nat :=
 match get? fl j with
 | some c=>match Nat.ble 1000000 c with
  | true=>match Nat.ble 3000000 c with
   | true=>match Nat.ble 4000000 c with
    | true=>PW fl::rS ck
    | false=>rS ck
   | false=>sU ck
  | false=>KD c tch
 | none=>[]
def Ad(f:List Nat)(c:Nat):List (Nat×CT)->Bool
 | []=>true
 | (k,x)::r=>match x with
  | .box _ _=>match uK k f with
   | true=>match Nat.beq k c with
    | true=>Ad f c r
    | false=>false
   | false=>Ad f c r
  | _=>Ad f c r
def okT(c:Nat)(ck:List (Nat×CT))(f:List Nat):List (Nat×Nat)->Bool
 | []=>true
 | (_,g)::r=>match Nat.ble 4000000 g with
  | true=>match Ad f c ck with
   | true=>okT c ck f r
   | false=>false
  | false=>okT c ck f r
def tJ(o:Oper):Bool :=
 match o.op with
 | .call c=>match c.callee with
  | .builtin _=>false
  | _=>true
 | _=>false
def JS(fl:List (Nat×Nat))(ck:List (Nat×CT))(c:List Nat)(o:Oper):Bool :=
 match tJ o with
 | true=>okT (PW fl) ck c fl
 | false=>true
def lK(E:Env)(an:List (Nat×An))(fl:List (Nat×Nat))(ds:List (Option Nat)):Nat->List Oper->St->List (Nat×List Nat)->List Prop->Option (St×List Prop)
 | _,[],st,_,ps=>some (st,ps)
 | j,o::l,st,tch,ps=>match oJ (mX an o) o.op with
  | true=>match po E st.sl (gw st.ck (Fy st.ck fl j tch)) ds o (mX an o)with
   | some (r,qs)=>lK E an fl ds (j+1) l ⟨put st.sl o.dst r,st.ck,st.nx⟩ tch (ps++qs)
   | none=>none
  | false=>match CP E st ds o (mX an o)with
   | some (c,_,f,qs)=>match JS fl st.ck f o with
    | true=>lK E an fl ds (j+1) l c ((j,f)::tch) (ps++qs)
    | false=>none
   | none=>none
def Lp:List (Nat×An)->Option (List (Nat×Nat))
 | []=>none
 | (_,a)::r=>match a with
  | .mx fl=>some fl
  | _=>Lp r
def Co(fl:List (Nat×Nat)):Bool :=
 match get? fl 9000000 with
 | some _=>true
 | none=>false
def KP(S:Sx)(c:Bool)(id:Nat)(l:List Oper)(st:St):Option (St×List Prop) :=
 match c with
 | true=>match Lp (Ir S.an id)with
  | some fl=>match Co fl with
   | true=>none
   | false=>lK S.E (Ir S.an id) fl (hU l) 0 l st [] []
  | none=>Lt S.E (zS st.ck (Ir S.an id)) (hU l) l ⟨st.sl,mi st.ck (Ir S.an id),st.nx⟩
 | false=>gP S.E (Ir S.an id) (hU l) l st []
def run(S:Sx)(H:List It->St->Prop):Nat->List It->St->Prop
 | 0,k,st=>H k st
 | _+1,[],st=>ku S st
 | n+1,i::k,st=>match i with
  | .fa _=>run S H n k st
  | .mark R=>H (.mark R::k) st
  | .code c=>match c with
   | .skip=>run S H n k st
   | .seq a b=>run S H n (.code a::.code b::k) st
   | .region id l f=>match uK id S.stop with
    | true=>H (.code (.region id l f)::k) st
    | false=>match KP S f id l.toList (KE st (rFz S.fz id))with
     | some (g,ps)=>Hu ps (run S H n k g)
     | none=>H (.code (.region id l f)::k) st
   | .cond c x y=>match lk st.sl c with
    | some v=>match v with
     | .lit b=>match b with
      | true=>run S H n (.code x::k) st
      | false=>run S H n (.code y::k) st
     | .a_ t e=>match fi t .bool e with
      | some e=>(e=true->run S H n (.code x::k) st)/\(e=false->run S H n (.code y::k) st)
      | none=>H (.code (.cond c x y)::k) st
     | .zX p=>(p->run S H n (.code x::k) st)/\run S H n (.code y::k) st
     | _=>H (.code (.cond c x y)::k) st
    | none=>H (.code (.cond c x y)::k) st
   | .block id c=>run S H n (.code c::.fa id::k) st
   | .exit id=>match lX id k with
    | some h=>run S H n h st
    | none=>False
   | .ret=>ku S st
   | c=>H (.code c::k) st
attribute [go_sem] K4 vB uP zh tf Az s9 xI uZ kQ uh EW CS DH sU rS mZ PJ Bm FQ CP KD KD.yz Fy Lp
attribute [go_sem] EZ spR JU uF exM Ji idM ph vE qa uD OG oK abr
attribute [go_sem] PW Ad okT tJ JS zD M8 yB BC ubS vM ubg L4 yH wG P3 aac Bu Mv Ls AO EC Lm avL F0 xG oG iJ jE o9 kk qM gw wc zG rh zi oJ Ma oO As
attribute [go_sem] Hq Gj IE G_ J0 OY A1 zW ab3 Ht Dr ab2 M1 dy2 dyA zS mi iZ evP Lt Co KP
section
variable{ck:List (Nat×CT)}{u:Ty}
theorem Lu{t:Ty}{a:t.den}:Dg ck u (.a_ t a)=fi t u a:=rfl
theorem MN{c:Nat}:Dg ck u (.own c)=match get? ck c with
    | some (.row _ t l)=>fi (.slice t) u l
    | _=>none:=rfl
theorem Nl{d k:Nat}:Dg ck u (.jM d k)=match get? ck d with
    | some (.gv _ t c)=>fi (.slice t) u (c.getD k [])
    | _=>none:=rfl
theorem Gr{t:Ty}:Dg ck (.slice t) (.val (.slice none 0 0))=some []:=rfl
theorem KS:Dg ck u .any=none:=rfl
theorem Mu{t:Ty}{a:t.den}:kF ck u (.a_ t a)=fi t u a:=rfl
theorem Lo{b:Bool}:kF ck u (.lit b)=fi .bool u b:=rfl
theorem Mq{c:Nat}:kF ck u (.own c)=match get? ck c with
    | some (.row _ t l)=>fi (.slice t) u l
    | _=>none:=rfl
theorem Mx{c n:Nat}:kF ck u (.iE c n)=match get? ck c with
    | some (.eW _ o d none)=>match get? ck d with
     | some (.gv _ t f)=>match o with
      | true=>fi (.slice (.one (.slice t))) u f
      | false=>fi (.slice (.slice t)) u f
     | _=>none
    | _=>none:=rfl
theorem NM{c n:Nat}:Dg ck u (.iE c n)=none:=rfl
theorem ND{d k:Nat}:kF ck u (.jM d k)=match get? ck d with
    | some (.gv _ t c)=>fi (.slice t) u (c.getD k [])
    | _=>none:=rfl
theorem MC{d k i s:Nat}:kF ck u (.rH d k i s)=none:=rfl
theorem Jw{t:Ty}:kF ck (.slice t) (.val (.slice none 0 0))=some []:=rfl
theorem Nw:kF ck u .any=none:=rfl
theorem NF{t:Ty}{a:t.den}:kF ck u (.rT t a)=none:=rfl
theorem Ms{c o:Nat}:kF ck u (.ref c o)=none:=rfl
theorem LU{l:AV}:kF ck u (.js l)=none:=rfl
theorem NH{l:AV}:kF ck u (.agg l)=none:=rfl
theorem LG{f:FuncId}{l:AV}:kF ck u (.kL f l)=none:=rfl
theorem Pl{c i s:Nat}:kF ck u (.ix c i s)=none:=rfl
theorem M6{c i s o:Nat}:kF ck u (.ti c i s o)=none:=rfl
theorem Ny{p:Prop}{x:AV}:kF ck u (.imp p x)=none:=rfl
theorem Mb{a:Option Addr}:kF ck u (.val (.pointer a))=none:=rfl
end
attribute [go_sem] M6 Mx NM Lu MN Nl Gr KS Mu Lo Mq ND MC Jw Nw NF Ms LU NH LG Pl Ny Mb
attribute [go_sem] IA NX Fp mX mQ Fw E9 EE Bs zH OO qY Lq DR LP pZ mE plF FO IU gB qP gM put po ju nr Au uY fin base fG lj pop Nx o_ dA zA yq flat uk kN B4 tq Bz qQ
  plA La LL uN DU BP wF elemOf xb xd vW Cj cond strip unA Nn aah OJ Lr M' M4 Ot nt GG gE zE lk cAV Env.te fi xY keq nz hU lX OD Ir rFz zQ Hd qi leS minus kh nH OR yu uO eP uK ku AP gD zL lv
  List.nil_append List.cons_append List.map_cons List.map_nil List.append_nil Prod.eta
  KE E8 lB mV oV vj iF Hu get? del jh Fg oL nj Bf oz kl sn Bh Ty.size Ty.isAgg
section
variable{E:Env}{an:List (Nat×An)}{ds:List (Option Nat)}{l:List Oper}{o:Oper}{st:St}{ps:List Prop}{fl:List (Nat×Nat)}{j:Nat}{tch:List (Nat×List Nat)}{look:Operand->Option AV}{pl:Nat->Option (Nat×Ty)}{u:Ty}
def aba(E:Env)(an:List (Nat×An))(ds:List (Option Nat))(l:List Oper)(ps:List Prop):Option (St×List Prop)->Option (St×List Prop)
 | some (c,qs)=>gP E an ds l c (ps++qs)
 | none=>none
theorem EM:gP E an ds [] st ps=some (st,ps):=rfl
theorem A8:gP E an ds (o::l) st ps=aba E an ds l ps (Bs E st ds o (mX an o)):=rfl
def abh(E:Env)(an:List (Nat×An))(ds:List (Option Nat))(l:List Oper)(st:St)(d:Option Nat)(ps:List Prop):Option (AV×List Prop)->Option (St×List Prop)
 | some (r,qs)=>kK E an ds l ⟨put st.sl d r,st.ck,st.nx⟩ (ps++qs)
 | none=>none
theorem Eo:kK E an ds [] st ps=some (st,ps):=rfl
theorem Ar:kK E an ds (o::l) st ps=abh E an ds l st o.dst ps (evP E st.sl st.ck ds o (mX an o)):=rfl
def abo(E:Env)(an:List (Nat×An))(fl:List (Nat×Nat))(ds:List (Option Nat))(j:Nat)(l:List Oper)(st:St)(d:Option Nat)(tch:List (Nat×List Nat))(ps:List Prop):Option (AV×List Prop)->Option (St×List Prop)
 | some (r,qs)=>lK E an fl ds (j+1) l ⟨put st.sl d r,st.ck,st.nx⟩ tch (ps++qs)
 | none=>none
def abw(E:Env)(an:List (Nat×An))(fl:List (Nat×Nat))(ds:List (Option Nat))(j:Nat)(l:List Oper)(tch:List (Nat×List Nat))(ps:List Prop)(c:St)(f:List Nat)(qs:List Prop):Bool->Option (St×List Prop)
 | true=>lK E an fl ds (j+1) l c ((j,f)::tch) (ps++qs)
 | false=>none
def abZ(E:Env)(an:List (Nat×An))(fl:List (Nat×Nat))(ds:List (Option Nat))(j:Nat)(l:List Oper)(tch:List (Nat×List Nat))(ps:List Prop)(ck:List (Nat×CT))(o:Oper):Option (St×AV×List Nat×List Prop)->Option (St×List Prop)
 | some (c,_,f,qs)=>abw E an fl ds j l tch ps c f qs (JS fl ck f o)
 | none=>none
def mxK(E:Env)(an:List (Nat×An))(fl:List (Nat×Nat))(ds:List (Option Nat))(j:Nat)(o:Oper)(l:List Oper)(st:St)(tch:List (Nat×List Nat))(ps:List Prop):Bool->Option (St×List Prop)
 | true=>abo E an fl ds j l st o.dst tch ps (po E st.sl (gw st.ck (Fy st.ck fl j tch)) ds o (mX an o))
 | false=>abZ E an fl ds j l tch ps st.ck o (CP E st ds o (mX an o))
theorem E':lK E an fl ds j [] st tch ps=some (st,ps):=rfl
theorem BD:lK E an fl ds j (o::l) st tch ps=mxK E an fl ds j o l st tch ps (oJ (mX an o) o.op):=rfl
def F_(look:Operand->Option AV)(pl:Nat->Option (Nat×Ty))(l:List (Nat×Operand))(o n:Nat)(c cs:AV):Bool->Option AV
 | true=>jd look pl l (mE c o n cs)
 | false=>none
def FZ(look:Operand->Option AV)(pl:Nat->Option (Nat×Ty))(l:List (Nat×Operand))(o n:Nat)(c:AV):Option AV->Option AV
 | some f=>F_ look pl l o n c f (Nat.ble (o+n) (oz c))
 | none=>none
def Gk(look:Operand->Option AV)(pl:Nat->Option (Nat×Ty))(l:List (Nat×Operand))(o:Nat)(u:Ty)(c:AV):Option AV->Option AV
 | some a=>FZ look pl l o u.size c (o_ u a .nil)
 | none=>none
def Og(look:Operand->Option AV)(pl:Nat->Option (Nat×Ty))(l:List (Nat×Operand))(x:Operand)(c:AV):Option (Nat×Ty)->Option AV
 | some (o,u)=>Gk look pl l o u c (look x)
 | none=>none
theorem E7{acc:AV}:jd look pl [] acc=some acc:=rfl
theorem AN{f:Nat}{x:Operand}{l:List (Nat×Operand)}{c:AV}:jd look pl ((f,x)::l) c=Og look pl l x c (pl f):=rfl
def Ju(a:u.den):Option (List u.den)->Option (List u.den)
 | some k=>some (a::k)
 | none=>none
def Ge(u:Ty)(n:Nat):Option (u.den×AV)->Option (List u.den)
 | some (a,r)=>Ju a (oP u n r)
 | none=>none
theorem AJ{x:AV}:oP u 0 x=some []:=rfl
theorem Bc{n:Nat}{x:AV}:oP u (n+1) x=Ge u n (gE (kF []) u x):=rfl
theorem Nb{x:AV}:oP u 1 x=Ge u 0 (gE (kF []) u x):=rfl
end
section
variable{E:Env}{an:List (Nat×An)}{ds:List (Option Nat)}{l:List Oper}{o:Oper}{st:St}{ps:List Prop}{fl:List (Nat×Nat)}{j:Nat}{tch:List (Nat×List Nat)}{look:Operand->Option AV}{pl:Nat->Option (Nat×Ty)}{u:Ty}
variable{S:Sx}{H:List It->St->Prop}{n:Nat}{k:List It}{R:Act->World->Prop}{a b:Code}
def NY(S:Sx)(H:List It->St->Prop)(n:Nat)(k:List It)(id:Nat)(l:Array Oper)(c:Bool)(st:St):Option (St×List Prop)->Prop
 | some (f,ps)=>Hu ps (run S H n k f)
 | none=>H (.code (.region id l c)::k) st
def abQ(S:Sx)(H:List It->St->Prop)(n:Nat)(k:List It)(id:Nat)(l:Array Oper)(c:Bool)(st:St):Bool->Prop
 | true=>H (.code (.region id l c)::k) st
 | false=>NY S H n k id l c st (KP S c id l.toList (KE st (rFz S.fz id)))
def N'(S:Sx)(H:List It->St->Prop)(n:Nat)(k:List It)(c:Operand)(x y:Code)(st:St):Option Bool->Prop
 | some e=>(e=true->run S H n (.code x::k) st)/\(e=false->run S H n (.code y::k) st)
 | none=>H (.code (.cond c x y)::k) st
def Oz(S:Sx)(H:List It->St->Prop)(n:Nat)(k:List It)(x y:Code)(st:St):Bool->Prop
 | true=>run S H n (.code x::k) st
 | false=>run S H n (.code y::k) st
def abi(S:Sx)(H:List It->St->Prop)(n:Nat)(k:List It)(c:Operand)(x y:Code)(st:St):Option AV->Prop
 | some v=>match v with
  | .lit b=>Oz S H n k x y st b
  | .a_ t e=>N' S H n k c x y st (fi t .bool e)
  | .zX p=>(p->run S H n (.code x::k) st)/\run S H n (.code y::k) st
  | _=>H (.code (.cond c x y)::k) st
 | none=>H (.code (.cond c x y)::k) st
def abD(S:Sx)(H:List It->St->Prop)(n:Nat)(st:St):Option (List It)->Prop
 | some c=>run S H n c st
 | none=>False
theorem Ml:run S H (n+1) [] st=ku S st:=rfl
theorem M3{id:Nat}:run S H (n+1) (.fa id::k) st=run S H n k st:=rfl
theorem run_mark:run S H (n+1) (.mark R::k) st=H (.mark R::k) st:=rfl
theorem Jt:run S H (n+1) (.code .skip::k) st=run S H n k st:=rfl
theorem run_seq:run S H (n+1) (.code (.seq a b)::k) st=run S H n (.code a::.code b::k) st:=rfl
theorem Al{id:Nat}{l:Array Oper}{c:Bool}:run S H (n+1) (.code (.region id l c)::k) st=abQ S H n k id l c st (uK id S.stop):=rfl
theorem Ie{c:Operand}{x y:Code}:run S H (n+1) (.code (.cond c x y)::k) st=abi S H n k c x y st (lk st.sl c):=rfl
theorem Fi{id:Nat}:run S H (n+1) (.code (.block id a)::k) st=run S H n (.code a::.fa id::k) st:=rfl
theorem Gn{id:Nat}:run S H (n+1) (.code (.exit id)::k) st=abD S H n st (lX id k):=rfl
theorem Nd:run S H (n+1) (.code .ret::k) st=ku S st:=rfl
theorem Jy:run S H (n+1) (.code (.loop a)::k) st=H (.code (.loop a)::k) st:=rfl
end
attribute [go_sem] aba EM A8 abh Eo Ar abo abZ abw mxK E' BD F_ FZ Gk Og E7 AN Ju Ge AJ Bc Nb
attribute [go_sem] NY abQ N' Oz abi abD Ml M3 run_mark Jt run_seq Al Ie Fi Gn Nd Jy
theorem eP.app:∀{l k:List Prop},eP (l++k)->eP l/\eP k
 | [],k,h=>⟨trivial,h⟩
 | p::l,k,h=>⟨⟨h.1,(eP.app (l:=l) h.2).1⟩,(eP.app (l:=l) h.2).2⟩
theorem eP.under{G:Prop}(c:G):∀{l:List Prop},eP (l.map fun p=>G->p)->eP l
 | [],_=>trivial
 | p::l,h=>⟨h.1 c,eP.under (l:=l) c h.2⟩
section
variable{ρ:List Value}{X:Nat->Prop}{w:World}
theorem Im:∀{l:AV}{n:Nat}{x:AV}{vs:List Value},Fg l n=some x->m ρ X w l vs->∃ v,vs[n]?=some v/\m ρ X w x [v]
 | .cons y l,0,x,vs,h,c=>by
  obtain⟨v,i,rfl,f,g⟩:=c;cases h; exact⟨v,rfl,f⟩
 | .cons y l,n+1,x,vs,h,c=>by
  obtain⟨v,i,rfl,f,g⟩:=c;exact Im (l:=l) (n:=n) (by simpa only [Fg]using h) g
theorem vT:∀{l:AV}{vs:List Value},kl l=true->m ρ X w l vs->vs.length=oz l
 | .nil,vs,_,h=>by rw[show vs=[]from h]; rfl
 | .cons x l,vs,c,h=>by
  obtain⟨v,g,rfl,_,f⟩:=h;simp[oz,vT (l:=l) c f]
theorem AW:∀{l:AV}{n:Nat}{vs:List Value},kl l=true->n<=oz l->m ρ X w l vs->m ρ X w (nj l n) (vs.take n)
 | l,0,vs,_,_,h=>by unfold nj; rw[S7]; rfl
 | .cons x l,n+1,vs,f,c,h=>by
  obtain⟨v,g,rfl,i,p⟩:=h;simp only[oz]at c;exact⟨v,g.take n,rfl,i,AW (l:=l) f (by omega) p⟩
 | .nil,n+1,vs,_,c,h=>by simp[oz]at c
theorem xS:∀{l:AV}{n:Nat}{vs:List Value},kl l=true->n<=oz l->m ρ X w l vs->m ρ X w (oL l n) (vs.drop n)
 | l,0,vs,_,_,h=>by unfold oL; rw[RP]; exact h
 | .cons x l,n+1,vs,f,c,h=>by
  obtain⟨v,i,rfl,p,g⟩:=h;simp only[oz]at c;exact xS (l:=l) f (by omega) g
 | .nil,n+1,vs,_,c,h=>by simp[oz]at c
theorem CW:∀{l k:AV}{vs us:List Value},kl l=true->m ρ X w l vs->m ρ X w k us->m ρ X w (Bf l k) (vs++us)
 | .nil,k,vs,us,_,h,c=>by rw[show vs=[]from h]; exact c
 | .cons x l,k,vs,us,g,h,c=>by
  obtain⟨v,f,rfl,i,p⟩:=h;exact⟨v,f++us,rfl,i,CW (l:=l) g p c⟩
theorem tp:∀{l:AV}{n:Nat},kl (nj l n)=true
 | l,0=>by unfold nj; rfl
 | .cons x l,n+1=>by unfold nj; exact tp (l:=l)
 | .nil,n+1=>rfl
 | .any,n+1=>rfl
 | .val _,n+1=>rfl
 | .lit _,n+1=>rfl
 | .a_ _ _,n+1=>rfl
 | .rT _ _,n+1=>rfl
 | .own _,n+1=>rfl
 | .ref _ _,n+1=>rfl
 | .ix _ _ _,n+1=>rfl
 | .ti _ _ _ _,n+1=>rfl
 | .iE _ _,n+1=>rfl
 | .jM _ _,n+1=>rfl
 | .rH _ _ _ _,n+1=>rfl
 | .tl _ _,n+1=>rfl
 | .zX _,n+1=>rfl
 | .js _,n+1=>rfl
 | .agg _,n+1=>rfl
 | .kL _ _,n+1=>rfl
 | .imp _ _,n+1=>rfl
theorem qg:∀{l:AV}{n:Nat},kl l=true->kl (oL l n)=true
 | l,0,h=>by unfold oL; exact h
 | .cons x l,n+1,h=>qg (l:=l) h
 | .nil,n+1,_=>rfl
theorem sr:∀{l k:AV},kl l=true->kl k=true->kl (Bf l k)=true
 | .nil,k,_,h=>h
 | .cons x l,k,c,h=>sr (l:=l) c h
theorem fp{t u:Ty}{a:t.den}{b:u.den}(h:fi t u a=some b)(M:(v:Ty)->v.den->Prop)(c:M t a):M u b:=by
 unfold fi at h;generalize xY t u=q at h;cases q with
 | none=>cases h
 | some e=>cases e; cases h; exact c
theorem gF{t u:Ty}{a:t.den}{b:u.den}(h:fi t u a=some b):t=u:=by
 unfold fi at h;generalize xY t u=q at h;cases q with
 | none=>cases h
 | some e=>cases e; rfl
theorem gn{t:Ty}{a b:t.den}(h:fi t t a=some b):a=b:=eq_of_heq (fp h (fun v b=>HEq a b) HEq.rfl)
theorem pf{t u:Ty}{e:TEq t u}(h:xY t u=some e):t=u:=by cases e; rfl
theorem Aw{k c:IntKind}{e:TEq (.int k) (.int c)}(h:keq k c=some e):k=c:=by cases e; rfl
theorem tO{t:Ty}(h:t.isAgg=false):t.size=1:=by cases t<;>simp_all [Ty.isAgg,Ty.size]
theorem gA{t:Ty}{a:t.den}{v:Value}(h:t.isAgg=false)(i:m ρ X w (.a_ t a) [v]):rep t X w [v] a:=by
 obtain⟨p,f,q⟩:=i;have g:=eR f;rw[tO h]at g
 match p,g with
 | [c],_ =>
  have:v=c:=by have:=(QB q).1; simpa [Ty.wrap,h]using this
  rw[this]; exact f
theorem mw{t:Ty}{a:t.den}{v:Value}(h:t.isAgg=false)(c:rep t X w [v] a):m ρ X w (.a_ t a) [v] :=
 ⟨[v],c,by simp[Ty.wrap,h]⟩
end
def oA(ρ:List Value)(c:Nat):Option Nat:=(ρ[c]?).bind fa
def E_:Value->Nat->Prop
 | .tuple c,b=>∃ u∈c.toList,fa u=some b
 | v,b=>fa v=some b
def inO:Option Value->Nat->Prop
 | some v,b=>E_ v b
 | none,_=>False
def fk(ρ:List Value)(c b:Nat):Prop:=inO ρ[c]? b
theorem CH{v:Value}{b:Nat}(h:fa v=some b):E_ v b:=by
 cases v<;>first|exact h|cases h
theorem mg{ρ:List Value}{c b:Nat}(h:oA ρ c=some b):fk ρ c b:=by
 unfold oA at h;unfold fk;cases f:ρ[c]? with
 | none=>rw[f]at h; cases h
 | some v=>rw[f]at h; exact CH h
def Rw(B:Nat)(X:Nat->Prop)(w:World)(T:TypeId)(t:Ty)(v:Value)(l:List t.den):Prop :=
 ∃ c,w.ownsRow B T t.size v l.length c/\(∀ u∈c,u.oneCell'=true)/\∀ i x,l[i]?=some x->rep t X w ((c.drop (i*t.size)).take t.size) x
def cm(B:Nat)(ρ:List Value)(X:Nat->Prop)(w:World)(c:Nat):CT->Prop
 | .box T l=>kl l=true/\∃ b p,ρ[c]?=some (.pointer (some ⟨b,0,none⟩))/\w.heap[b]?=some (.cells p T (0,0))/\m ρ X w l p.toList/\∀ u∈p.toList,u.oneCell'=true
 | .row T t l=>∃ v g,ρ[c]?=some v/\w.ownsRow B T t.size v l.length g/\(∀ u∈g,u.oneCell'=true)/\∀ i x,l[i]?=some x->rep t X w ((g.drop (i*t.size)).take t.size) x
 | .eW T o d y=>∃ v g f,ρ[c]?=some v/\ρ[d]?=some (.tuple f)/\w.ownsRow B T 1 v f.toList.length g/\(∀ u∈g,u.oneCell'=true)/\∀ j,j<f.toList.length->y≠some j->g[j]?=f.toList[j]?
 | .gv T t q=>∃ f,ρ[c]?=some (.tuple f)/\f.toList.length=q.length/\(∀(i:Nat) (h:Value) (l:List t.den),f.toList[i]?=some h->q[i]?=some l->Rw B X w T t h l) /\
     ∀(i j:Nat) (h s:Value),f.toList[i]?=some h->f.toList[j]?=some s->i≠j->∀ b,fa h=some b->fa s≠some b
structure Wd(B:Nat)(ρ:List Value)(X:Nat->Prop)(ck:List (Nat×CT))(w:World):Prop where
 lt:∀ b,X b->b<w.heap.size
 cs:∀ x∈ck,cm B ρ X w x.1 x.2
theorem Wd.none{B:Nat}{ρ:List Value}{X:Nat->Prop}{w:World}{ck:List (Nat×CT)}(h:Wd B ρ X ck w):Wd B ρ X [] w:=⟨h.lt,fun x h=>by cases h⟩
section
variable{B:Nat}{ρ:List Value}{X Y:Nat->Prop}{w:World}{ck:List (Nat×CT)}
theorem oe{c:Nat}{v:Value}(h:ρ[c]?=some v):oA ρ c=fa v:=by simp[oA,h]
theorem gi{c:Nat}{v:Value}(h:ρ[c]?=some v):fk ρ c=E_ v:=by unfold fk; rw[h]; rfl
theorem fh{c b:Nat}{v:Value}(h:ρ[c]?=some v)(f:fa v=some b):fk ρ c b:=by rw[gi h]; exact CH f
theorem kV{c b:Nat}(h:ρ.length<=c):¬fk ρ c b:=by unfold fk; rw[QD h]; exact fun h=>h
theorem mK{B:Nat}{T:TypeId}{s n:Nat}{v:Value}{xs:List Value}{b:Nat}(h:w.ownsRow B T s v n xs)(c:E_ v b):fa v=some b:=by
 rcases h.2 with⟨e,_⟩|⟨_,_,_,e,_⟩<;>(rw[e]at c ⊢; exact c)
theorem xl{T:TypeId}{t:Ty}{l:List t.den}{v:Value}(h:Rw B X w T t v l)(A:∀ b,Y b->X b)(C:∀ b,fa v=some b->¬Y b):m ρ Y w (.a_ (.slice t) l) [v]:=by
 obtain⟨D,F,Q,G⟩:=h;obtain⟨U,⟨I,f⟩|⟨g,cap,c,y,_,J,K,L,M,p⟩⟩:=F
 ·have:l=[]:=RA f;subst this;rw[I];exact⟨[.slice none 0 0],g_ Y w (.slice t),rfl⟩
 ·rw[y];refine⟨[.slice (some ⟨g,0,none⟩) l.length cap],⟨_,cap,rfl,K,L,by simp,fun _=>⟨g,0,c,T,_,rfl,C g (by rw[y]; rfl),J,fun i x q=>?_⟩⟩,rfl⟩;have N:=eJ (G i x q) (Y:=Y) fun b O=>.inl (A b O);have hi:i<l.length:=by
   rcases QA i l.length with h|h
   ·exact h
   ·rw[QD h]at q; cases q
  have z:i*t.size+t.size<=l.length*t.size:=by
   rw[<-RI]; exact Q_ _ hi
  rw[Q8];have s:(c.toList.drop (i*t.size)).take t.size=(D.drop (i*t.size)).take t.size:=by
   rw[<-p,Sw,Sk,Rv (by omega)]
  rw[s]; exact N
theorem sx{c:Nat}{T:TypeId}{t:Ty}{l:List t.den}{v:Value}(h:cm B ρ X w c (.row T t l))(i:∀ b,Y b->X b)(p:∀ b,fk ρ c b->¬Y b)(f:ρ[c]?=some v):m ρ Y w (.a_ (.slice t) l) [v]:=by
 obtain⟨A,q,g,s,x,y⟩:=h;rw[f]at g;cases g;exact xl ⟨q,s,x,y⟩ i fun b z=>p b (fh f z)
theorem fj{d k b:Nat}{us:Array Value}{h:Value}(c:ρ[d]?=some (.tuple us))(hk:us.toList[k]?=some h)(f:fa h=some b):fk ρ d b:=by
 rw[gi c]; exact⟨h,Ra hk,f⟩
theorem lh{d k:Nat}{T:TypeId}{t:Ty}{ll:List (List t.den)}{us:Array Value}{v:Value}(h:cm B ρ X w d (.gv T t ll))(i:∀ b,Y b->X b)(p:∀ b,fk ρ d b->¬Y b)(f:ρ[d]?=some (.tuple us))(hk:us.toList[k]?=some v) :
    k<ll.length/\m ρ Y w (.a_ (.slice t) (ll.getD k [])) [v]:=by
 obtain⟨q,g,s,x,A⟩:=h;rw[f]at g;cases g;have c:k<ll.length:=by
  rw[<-s];rcases QA k us.toList.length with h|h
  ·exact h
  ·rw[QD h]at hk; cases hk
 refine⟨c,?_⟩;have y:ll[k]?=some (ll.getD k []):=by rw[Qz,Qr c]; rfl
 exact xl (x k v _ hk y) i fun b z=>p b (fj f hk z)
theorem yN{c d:Nat}{T T':TypeId}{o:Bool}{t:Ty}{ll:List (List t.den)}{v:Value}(h:cm B ρ X w c (.eW T o d none))(y:cm B ρ X w d (.gv T' t ll))(hY:∀ b,Y b->X b)(hc:∀ b,fk ρ c b->¬Y b)(D:∀ b,fk ρ d b->¬Y b)(K:ρ[c]?=some v) :
    m ρ Y w (.a_ (.slice (.slice t)) ll) [v]/\m ρ Y w (.a_ (.slice (.one (.slice t))) ll) [v]:=by
 obtain⟨v',xs,F,L,M,N,g4,g5⟩:=h;rw[K]at L;cases L;have z:F.toList.length=ll.length:=by
  obtain⟨aa,O,k2,_⟩:=y;rw[M]at O;cases O;exact k2
 have G:∀(i:Nat) (x:List t.den),ll[i]?=some x->∃ h,xs[i]?=some h/\rep (.slice t) Y w [h] x:=by
  intro i x A;have hi:i<ll.length:=by
   rcases QA i ll.length with h|h
   ·exact h
   ·rw[QD h]at A; cases A
  have Q:=Qr (show i<F.toList.length by omega);refine⟨F.toList[i],by rw[g5 i (by omega) (by simp),Q],?_⟩;have:=(lh y hY D M Q).2;rw[Qz,A]at this;exact gA rfl this
 rw[z]at N;obtain⟨h4,⟨h5,I⟩|⟨g,cap,f,U,_,V,W,Z,ab,J⟩⟩:=N
 ·have:ll=[]:=RA I;subst this;rw[h5];exact⟨⟨[.slice none 0 0],g_ Y w (.slice _),rfl⟩,⟨[.slice none 0 0],g_ Y w (.slice _),rfl⟩⟩
 ·have hb:¬Y g:=hc g (fh K (by rw[U]; rfl));have p:∀(i:Nat) (x:List t.den),ll[i]?=some x->rep (.slice t) Y w ((f.toList.drop (0+i*1)).take 1) x:=by
   intro i x A;obtain⟨h,q,hr⟩:=G i x A;have s:f.toList[i]?=some h:=by
    rw[<-J,Q1]at q;split at q
    ·exact q
    ·cases q
   have C:i<f.toList.length:=by
    rcases QA i f.toList.length with y|y
    ·exact y
    ·rw[QD y]at s; cases s
   rw[Q8,Ry,R0 C];rw[Qr C]at s;rw[Rk s];exact hr
  rw[U];exact⟨⟨[.slice (some ⟨g,0,none⟩) ll.length cap],⟨_,cap,rfl,W,Z,by simp,fun _=>⟨g,0,f,T,_,rfl,hb,V,p⟩⟩,rfl⟩,
   ⟨[.slice (some ⟨g,0,none⟩) ll.length cap],⟨_,cap,rfl,W,Z,by simp,fun _=>⟨g,0,f,T,_,rfl,hb,V,p⟩⟩,rfl⟩⟩
theorem qF{u:Ty}{x:AV}{a:u.den}{v:Value}(y:Wd B ρ X ck w)(z:∀ b,Y b->X b)(A:∀ x∈ck,∀ b,fk ρ x.1 b->¬Y b)(h:kF ck u x=some a)(i:m ρ X w x [v]):m ρ Y w (.a_ u a) [v]:=by
 unfold kF at h;split at h
 ·exact fp h (fun t a=>m ρ Y w (.a_ t a) [v]) (fN (fun b G=>.inl (z b G)) i)
 ·refine fp h (fun t a=>m ρ Y w (.a_ t a) [v]) ?_;have i:[v]=[.bool _]:=i;rw[i]; exact⟨_,rfl,rfl⟩
 ·split at h
  ·rename_i c T t l p;refine fp h (fun t a=>m ρ Y w (.a_ t a) [v]) ?_;obtain⟨D,q,_,s⟩:=i;cases s;have f:=b7 p;exact sx (y.cs _ f) z (A _ f) q
  ·cases h
 ·split at h
  ·rename_i c n T o d p;obtain⟨D,q,_,s⟩:=i;cases s;have f:=b7 p;split at h
   ·rename_i K t I C;have g:=b7 C;have F:=yN (y.cs _ f) (y.cs _ g) z (A _ f) (A _ g) q;split at h
    ·exact fp h (fun t a=>m ρ Y w (.a_ t a) [v]) F.2
    ·exact fp h (fun t a=>m ρ Y w (.a_ t a) [v]) F.1
   ·cases h
  ·cases h
 ·split at h
  ·rename_i d k T t I p;refine fp h (fun t a=>m ρ Y w (.a_ t a) [v]) ?_;obtain⟨L,D,q,s,_,J⟩:=i;cases J;have f:=b7 p;exact(lh (y.cs _ f) z (A _ f) q s).2
  ·cases h
 ·split at h
  ·cases h;have i:[v]=[.slice none 0 0]:=i;rw[i];exact⟨[.slice none 0 0],g_ Y w (.slice _),rfl⟩
  ·cases h
 ·cases h
theorem l9(A:Wd B ρ X ck w)(C:∀ b,Y b->X b)(D:∀ x∈ck,∀ b,fk ρ x.1 b->¬Y b):∀{u:Ty}{l r:AV}{a:u.den}{cs:List Value},
    gE (kF ck) u l=some (a,r)->m ρ X w l cs->rep u Y w (cs.take u.size) a/\m ρ X w r (cs.drop u.size):=by
 have one:∀{u:Ty}{x r:AV}{a:u.den}{cs:List Value},u.isAgg=false->kF ck u x=some a->m ρ X w (.cons x r) cs->rep u Y w (cs.take u.size) a/\m ρ X w r (cs.drop u.size):=by
  intro u x r a cs q h c;obtain⟨v,J,rfl,f,g⟩:=c;rw[tO q];exact⟨gA q (qF A C D h f),g⟩
 intro u
 induction u with
 | pair t u i p =>
  intro l r a cs h c
  unfold gE at h
  split at h
  ·rename_i x K F;split at h
   ·rename_i y L G;cases h;obtain⟨f,g⟩:=i F c;obtain⟨I,s⟩:=p G g;refine⟨⟨?_,?_⟩,?_⟩
    ·rw[Sk,Rv (by simp only[Ty.size]; omega)]; exact f
    ·rw[Sw,show(Ty.pair t u).size-t.size=u.size by simp only[Ty.size]; omega]; exact I
    ·rw[RT]at s; exact s
   ·cases h
  ·cases h
 | one t z=>intro l r a cs h c; unfold gE at h; exact z h c
 | bool =>
  intro l r a cs h c
  cases l with
  | cons x k =>
   simp only[gE]at h
   split at h
   ·cases h; exact one rfl (by assumption) c
   ·cases h
  | _=>simp[gE]at h
 | int k =>
  intro l r a cs h c
  cases l with
  | cons x k =>
   simp only[gE]at h
   split at h
   ·cases h; exact one rfl (by assumption) c
   ·cases h
  | _=>simp[gE]at h
 | str =>
  intro l r a cs h c
  cases l with
  | cons x k =>
   simp only[gE]at h
   split at h
   ·cases h; exact one rfl (by assumption) c
   ·cases h
  | _=>simp[gE]at h
 | slice t z =>
  intro l r a cs h c
  cases l with
  | cons x k =>
   simp only[gE]at h
   split at h
   ·cases h; exact one rfl (by assumption) c
   ·cases h
  | _=>simp[gE]at h
 | fn =>
  intro l r a cs h c
  cases l<;>simp[gE]at h
theorem o8{u:Ty}{x:AV}{a:u.den}{v:Value}(i:Wd B ρ X ck w)(p:∀ b,Y b->X b)(q:∀ x∈ck,∀ b,fk ρ x.1 b->¬Y b)(h:GG ck u x=some a)(s:m ρ X w x [v]):m ρ Y w (.a_ u a) [v]:=by
 unfold GG at h;split at h
 ·split at h
  ·rename_i c;split at h
   ·rename_i e;cases h;obtain⟨f,y,z,_⟩:=s;obtain⟨t,g⟩:=l9 i p q e z;cases y;have g:f.drop u.size=[]:=g;have:f.length<=u.size:=VC.1 g;rw[QQ this]at t;exact⟨f,t,by simp[Ty.wrap,c]⟩
   ·cases h
  ·cases h
 ·exact qF i p q h s
def mL(ρ:List Value)(X:Nat->Prop)(w:World):List AV->List Value->Prop
 | [],c=>c=[]
 | x::l,c=>∃ v f,c=v::f/\m ρ X w x [v]/\mL ρ X w l f
theorem Cm:∀{l:List AV}{vs:List Value},mL ρ X w l vs->m ρ X w (Lm l) vs
 | [],_,h=>h
 | x::l,_,⟨v,c,e,f,g⟩=>⟨v,c,e,f,Cm g⟩
theorem AY:∀{l:AV}{vs:List Value},kl l=true->m ρ X w l vs->mL ρ X w (avL l) vs
 | .nil,_,_,h=>h
 | .cons x l,_,c,⟨v,f,e,g,i⟩=>⟨v,f,e,g,AY (l:=l) c i⟩
theorem Aj:∀{l k:List AV}{vs us:List Value},mL ρ X w l vs->mL ρ X w k us->mL ρ X w (F0 l k) (vs++us)
 | [],k,_,us,h,c=>by cases h; exact c
 | x::l,k,_,us,⟨v,vs,e,f,g⟩,c=>⟨v,vs++us,by rw[e]; rfl,f,Aj g c⟩
theorem ru(f:Wd B ρ X ck w)(g:∀ b,Y b->X b)(i:∀ x∈ck,∀ b,fk ρ x.1 b->¬Y b):∀{l:List Ty}{xs:List AV}{d:jf l}{vs:List Value},nt ck l xs=some d->mL ρ X w xs vs->m ρ Y w (nz l d) vs
 | [],[],d,vs,h,c=>c
 | t::l,x::xs,d,vs,h,c=>by
  obtain⟨v,p,rfl,q,s⟩:=c;simp only[nt]at h;split at h
  ·rename_i y;split at h
   ·rename_i z;cases h;exact⟨v,p,rfl,o8 f g i y q,ru f g i z s⟩
   ·cases h
  ·cases h
 | [],_::_,d,vs,h,c=>by simp[nt]at h
 | _::_,[],d,vs,h,c=>by simp[nt]at h
end
def qZ(Bo:List Value)(b:Nat):Prop:=∃ i:Nat,fk Bo i b
structure Kept(Bo:List Value)(w0 w:World):Prop where
 os:w.os=w0.os
 tape:w.tape=w0.tape
 output:w.output=w0.output
 size:w0.heap.size<=w.heap.size
 block:∀ k,k<w0.heap.size->¬qZ Bo k->w.heap[k]?=w0.heap[k]?
theorem Kept.refl{Bo:List Value}(w:World):Kept Bo w w:=⟨rfl,rfl,rfl,Qu _,fun _ _ _=>rfl⟩
theorem Kept.below{Bo:List Value}{w0 w w':World}(h:Kept Bo w0 w)(c:Below w.heap.size w w'):Kept Bo w0 w' :=
 ⟨c.os.trans h.os,c.tape.trans h.tape,c.output.trans h.output,QL h.size c.size,fun k hk f=>(c.block k (QI hk h.size)).trans (h.block k hk f)⟩
theorem mc{b:Nat}(h:qZ [] b):False:=by
 obtain⟨i,h⟩:=h;simp[fk,inO]at h
theorem Kept.na{w0 w:World}(h:Kept [] w0 w):Below w0.heap.size w0 w:=⟨h.os,h.tape,h.output,h.size,fun k hk=>h.block k hk mc⟩
def XX(X0:Nat->Prop)(ρ:List Value)(ck:List (Nat×CT))(b:Nat):Prop:=X0 b∨∃ x∈ck,fk ρ x.1 b
structure Pn(w0:World)(X0:Nat->Prop)(Bo:List Value)(ck:List (Nat×CT))(nx:Nat)(ρ:List Value):Prop where
 bo:∀ b,qZ Bo b->b<w0.heap.size/\¬X0 b
 le:Bo.length<=nx
 pn:∀ x∈ck,∀ T l,x.2=.box T l->x.1<Bo.length->ρ[x.1]?=Bo[x.1]?
structure Fr(w0:World)(X0:Nat->Prop)(Bo:List Value)(N:Nat)(st:St)(ρ:List Value)(a:Act)(w:World):Prop where
 dn:a.defers=[]
 sz:a.tmps.size=N
 kp:Kept Bo w0 w
 nx:ρ.length=st.nx
 nd:(st.ck.map (·.1)).Nodup
 kn:∀ x∈st.ck,x.1<st.nx
 bl:∀ x∈st.ck,∀ b,fk ρ x.1 b->b<w.heap.size/\(w0.heap.size<=b∨qZ Bo b)
 dj:∀ x∈st.ck,∀ y∈st.ck,x.1≠y.1->∀ b,fk ρ x.1 b->¬fk ρ y.1 b
 cs:∀ x∈st.ck,cm 0 ρ (XX X0 ρ st.ck) w x.1 x.2
 sl:∀ t x,get? st.sl t=some x->m ρ (XX X0 ρ st.ck) w x [gt a t]
 pn:Pn w0 X0 Bo st.ck st.nx ρ
section
variable{P:Program}{ρ:List Value}{X:Nat->Prop}{w:World}
theorem eM{σ:Operand->Value}{o:Oper}{w':World}{v:Value}{R:Value->World->Prop}(h:(execOp σ o).run P w=.ok (.value v) w')(c:R v w'):fD P σ o w R:=by
 unfold fD; rw[h]; exact c
theorem fI{k:IntKind}{n:Int}{v:Value}(h:m ρ X w (.a_ (.int k) n) [v]):v=.int k n/\gG k n:=by
 obtain⟨g,⟨rfl,f⟩,c⟩:=h;simp[Ty.wrap,Ty.isAgg]at c;exact⟨c,f⟩
theorem eO{k:IntKind}{n:Int}(h:gG k n):m ρ X w (.a_ (.int k) n) [.int k n]:=⟨_,⟨rfl,h⟩,rfl⟩
theorem mG{b:Bool}{v:Value}(h:m ρ X w (.a_ .bool b) [v]):v=.bool b:=by
 obtain⟨g,c,f⟩:=h;have c:g=[.bool b]:=c;subst c;simp[Ty.wrap,Ty.isAgg]at f;exact f
theorem eY{b:Bool}:m ρ X w (.a_ .bool b) [.bool b]:=⟨_,rfl,rfl⟩
theorem vP{s:List UInt8}{v:Value}(h:m ρ X w (.a_ .str s) [v]):v=.string ⟨s.toArray⟩/\s.length<=maxLen:=by
 obtain⟨g,⟨rfl,f⟩,c⟩:=h;simp[Ty.wrap,Ty.isAgg]at c;exact⟨c,f⟩
theorem pM{s:List UInt8}(h:s.length<=maxLen):m ρ X w (.a_ .str s) [.string ⟨s.toArray⟩]:=⟨_,⟨rfl,h⟩,rfl⟩
theorem tL{x:AV}{b:Bool}{v:Value}(h:zE x=some b)(c:m ρ X w x [v]):v=.bool b:=by
 unfold zE at h;split at h
 ·cases h; exact mG c
 ·cases h; simpa [m]using c
 ·cases h
theorem lI(k:IntKind)(n:Int):gG k (k.wrap n):=by
 cases k<;>simp only[gG,lo,hi,IntKind.wrap,IntKind.bits,IntKind.signed]<;>simp<;>omega
theorem KF(k:IntKind)(x y:Int)(h:gG k x):gG k (kr k x y):=by
 unfold kr;have f:(1:Int)<=2 ^ (min y.toNat k.bits):=by
  have:=Int.pow_pos (n:=2) (m:=min y.toNat k.bits) (by decide);omega
 generalize (2:Int) ^ (min y.toNat k.bits)=q at f;rw[U1 _ (by omega)];have g:lo k<=0:=by cases k<;>decide
 have i:0<=hi k:=by cases k<;>decide
 constructor
 ·rcases Tg x 0 with c|c
  ·have:x<=x / q:=by
     rw[Vq (by omega)];have:x*q<=x*1:=Int.mul_le_mul_of_nonpos_left (by omega) f;omega
   omega
  ·have:=Sn c (show 0<=q by omega);omega
 ·rcases Tg x 0 with c|c
  ·have:=Int.ediv_neg_of_neg_of_pos c (show 0<q by omega);omega
  ·have:=TQ q c;have:=h.2;omega
theorem um{an:An}{k:IntKind}{n:Int}{r:AV}{ps:List Prop}(h:Ot an k n=(r,ps))(c:eP ps):m ρ X w r [.int k (k.wrap n)]:=by
 unfold Ot at h;split at h<;>cases h
 ·exact eO (lI _ _)
 ·rw[CA c.1]; exact eO c.1
theorem K1{an:An}{op:BinOp}{k:IntKind}{x y:Int}{r:AV}{ps:List Prop}(h:M4 an op k x y=some (r,ps))(c:eP ps)(T:TypeId)(o1 o2:Operand) :
    ∃ v,(do eqGuard op T o1 o2 (.int k x) (.int k y); binOp op T (.int k x) (.int k y):Sem Value).run P w=.ok v w/\m ρ X w r [v]:=by
 unfold M4 at h;cases op<;>simp only[Q7,SB,reduceCtorEq]at h
 case add=>exact⟨.int k (k.wrap (x+y)),by simp[go_sem],um h c⟩
 case sub=>exact⟨.int k (k.wrap (x-y)),by simp[go_sem],um h c⟩
 case mul=>exact⟨.int k (k.wrap (x*y)),by simp[go_sem],um h c⟩
 all_goals (obtain⟨rfl,rfl⟩:=h)
 case quo=>exact⟨.int k (k.wrap (x.tdiv y)),by simp[go_sem,c.1],by rw[CA c.2.1]; exact eO c.2.1⟩
 case rem=>exact⟨.int k (x.tmod y),by simp[go_sem,c.1],eO c.2.1⟩
 case and=>exact⟨.int k (ij .and k x y),by simp[go_sem,ij,Op.intBits],eO (lI _ _)⟩
 case or=>exact⟨.int k (ij .or k x y),by simp[go_sem,ij,Op.intBits],eO (lI _ _)⟩
 case xor=>exact⟨.int k (ij .xor k x y),by simp[go_sem,ij,Op.intBits],eO (lI _ _)⟩
 case andNot=>exact⟨.int k (ij .andNot k x y),by simp[go_sem,ij,Op.intBits],eO (lI _ _)⟩
 case eql =>
  have:(x == y)=decide (x=y):=by by_cases h:x=y<;>simp[h]
  exact⟨_,by simp[go_sem,this],eY⟩
 case neq =>
  have:(x != y)=decide (x≠y):=by by_cases h:x=y<;>simp[h]
  exact⟨_,by simp[go_sem,this],eY⟩
 case lss=>exact⟨_,by simp[go_sem],eY⟩
 case leq=>exact⟨_,by simp[go_sem],eY⟩
 case gtr=>exact⟨_,by simp[go_sem],eY⟩
 case geq=>exact⟨_,by simp[go_sem],eY⟩
theorem MI{op:BinOp}{x y:List UInt8}{r:AV}{ps:List Prop}(h:M' op x y=some (r,ps))(c:eP ps)(T:TypeId)(o1 o2:Operand) :
    ∃ v,(do eqGuard op T o1 o2 (.string ⟨x.toArray⟩) (.string ⟨y.toArray⟩); binOp op T (.string ⟨x.toArray⟩) (.string ⟨y.toArray⟩):Sem Value).run P w=.ok v w/\m ρ X w r [v]:=by
 have e:(x == y)=decide (x=y):=by by_cases h:x=y<;>simp[h]
 unfold M' at h;cases op<;>simp only[Q7,SB,reduceCtorEq]at h
 all_goals (obtain⟨rfl,rfl⟩:=h)
 case add =>
  have f:¬(((ByteArray.mk x.toArray).size+(ByteArray.mk y.toArray).size:Nat):Int)>IntKind.i64.max:=by
   have:=c.1;simp[ByteArray.size,IntKind.max,IntKind.signed,IntKind.bits]; omega
  have g:ByteArray.mk x.toArray++ByteArray.mk y.toArray=⟨(x++y).toArray⟩:=by
   apply ByteArray.ext; simp
  exact⟨.string ⟨(x++y).toArray⟩,by rw[<-g]; simp only[binOp_string_add,Op.stringOp,QC f]; simp[go_sem,eqGuard],pM (by simpa [maxLen]using c.1)⟩
 case eql=>exact⟨.bool (decide (x=y)),by simp[go_sem,T0,e,eqGuard],eY⟩
 case neq=>exact⟨.bool (decide (x≠y)),by simp[go_sem,T0,e,eqGuard],eY⟩
 case lss=>exact⟨.bool (strLt x y),by simp[binOp,Op.stringOp,strLt,T0,eqGuard],eY⟩
 case leq=>exact⟨.bool (strLt x y||decide (x=y)),by simp[binOp,Op.stringOp,strLt,T0,eqGuard,e],eY⟩
 case gtr=>exact⟨.bool (!(strLt x y||decide (x=y))),by simp[binOp,Op.stringOp,strLt,T0,eqGuard,e],eY⟩
 case geq=>exact⟨.bool (!strLt x y),by simp[binOp,Op.stringOp,strLt,T0,eqGuard],eY⟩
theorem L9{op:BinOp}{x y:Bool}{r:AV}{ps:List Prop}(h:Lr op x y=some (r,ps))(f:eP ps)(T:TypeId)(c:P.underlying T=some .bool)(o1 o2:Operand) :
    ∃ v,(do eqGuard op T o1 o2 (.bool x) (.bool y); binOp op T (.bool x) (.bool y):Sem Value).run P w=.ok v w/\m ρ X w r [v]:=by
 unfold Lr at h;cases op<;>simp only[Q7,SB,reduceCtorEq]at h
 all_goals (obtain⟨rfl,rfl⟩:=h)
 case eql=>exact⟨.bool (decide (x=y)),by cases x<;>cases y<;>simp[go_sem,c],eY⟩
 case neq=>exact⟨.bool (decide (x≠y)),by cases x<;>cases y<;>simp[go_sem,c],eY⟩
end
section
variable{P:Program}{ρ:List Value}{X:Nat->Prop}{w:World}{T:TypeId}{e:TE}
theorem b_.info(c:b_ P T e):∃ i,P.info? T=some i/\i.zero=some (e.ty.wrap (zc e.ty))/\i.size=e.ty.size/\i.bytes=e.bytes:=by
 have h:=c.i;cases hi:P.info? T with
 | none=>rw[hi]at h; cases h
 | some i=>rw[hi]at h; simp at h; exact⟨i,rfl,h.1,h.2.1,h.2.2⟩
theorem b_.iN(c:b_ P T e):(sizeOf T).run P w=.ok e.ty.size w:=by
 obtain⟨i,hi,_,f,_⟩:=c.info;simp[sizeOf,typeInfo,hi,f,go_sem]
theorem b_.Fb(c:b_ P T e):(isAgg T).run P w=.ok e.ty.isAgg w:=by
 have h:=c.u;cases hi:P.underlying T with
 | none=>rw[hi]at h; cases h
 | some d =>
  rw[hi]at h
  simp only[Sp,Q7]at h
  rw[<-h]
  cases d<;>simp[isAgg,Rb hi,MY]
theorem fu{t:Ty}{cs:List Value}(f:cs.length=t.size)(h1:∀ c∈cs,c.oneCell'=true):(t.wrap cs).cells=cs.toArray:=by
 unfold Ty.wrap;by_cases h:t.isAgg=true
 ·rw[QJ h]; rfl
 ·rw[QC h];have:=tO (by simpa using h);rw[this]at f
  match cs,f with
  | [c],_ =>
   have:=h1 c (by simp)
   cases c<;>simp_all [Value.oneCell',Value.cells]
theorem cell_of{b off:Nat}{C:Array Value}{c:TypeId}{f:Nat×Nat}(g:w.heap[b]?=some (.cells C c f)):w.cell? ⟨b,off,none⟩=C[off]?:=by simp[World.cell?,g]
theorem fR(q:b_ P T e){b off:Nat}{C:Array Value}{s:TypeId}{f:Nat×Nat}(t:w.heap[b]?=some (.cells C s f)){cs:List Value}
    (m:(C.toList.drop off).take e.ty.size=cs) (p:cs.length=e.ty.size):(loadVar T ⟨b,off,none⟩).run P w=.ok (e.ty.wrap cs) w:=by
 have i:∀ j v,cs[j]?=some v->w.cell? (Addr.add ⟨b,off,none⟩ j)=some v:=by
  intro j v g;rw[Ri,cell_of t];rw[<-m]at g;rw[Q1]at g;split at g
  ·rw[Rg]at g;simpa using g
  ·cases g
 unfold loadVar;rw[Rf,q.Fb];simp only[Sh];by_cases h:e.ty.isAgg=true
 ·rw[QJ h,Rf,q.iN];simp only[Sh];rw[Rf,<-p,run_loadCells_list w _ cs i];simp[Ty.wrap,h]
 ·rw[QC h];have x:=tO (by simpa using h);rw[x]at p
  match cs,p,i with
  | [c],_,i =>
   have:=i 0 c rfl
   simp only[Ri,Se]at this
   simp[load,Sem.run,this,Ty.wrap,h]
theorem gr(i:b_ P T e){b off:Nat}{C:Array Value}{g:TypeId}(m:w.heap[b]?=some (.cells C g (0,0))){cs:List Value}
    (f:cs.length=e.ty.size) (h1:∀ c∈cs,c.oneCell'=true) (h:off+e.ty.size<=C.size) :
    (storeVar T ⟨b,off,none⟩ (e.ty.wrap cs)).run P w=.ok () (w.setRow b (C.toList.take off++cs++C.toList.drop (off+e.ty.size)).toArray):=by
 unfold storeVar;rw[Rf,i.iN];simp only[Sh,fu f h1,RQ,f,ne_eq,W_,Sl];have:=run_storeCells_at P b off g cs 0 C w m (by omega) h1;simp only[Se]at this;simp[go_sem,this,f]
theorem zM{t:Ty}{l:List t.den}{v:Value}{n:Int}{k:IntKind}{h:TE}(q:b_ P T e)(x:e.ty=.slice t)(y:b_ P e.elem h)(ht:h.ty.size=t.size)
    (z:m ρ X w (.a_ (.slice t) l) [v]) (h0:0<=n) (h1:n<(l.length:Int)):∃ p,(Instr.indexAt T v (.int k n)).run P w=.ok p w/\m ρ X w (.rT t (l.getD n.toNat (zd t))) [p]:=by
 obtain⟨M,⟨a,cap,rfl,N,O,Q,A⟩,i⟩:=z;simp[Ty.wrap,Ty.isAgg]at i;subst i;have g:n.toNat<l.length:=by omega
 obtain⟨b,off,C,D,f,rfl,F,G,I⟩:=A (by intro e; rw[e]at g; simp at g);have J:l[n.toNat]?=some (l.getD n.toNat (zd t)):=by simp[g]
 have K:P.underlying T=some (.slice e.elem):=by have:=q.s; rw[x]at this; exact this
 have L:=I _ _ J;refine⟨.pointer (some ⟨b,off+n.toNat*t.size,none⟩),?_,b,_,C,D,f,rfl,F,G,L⟩;have c:=y.iN (w:=w);rw[ht]at c;simp[Instr.indexAt,asIntOf,Rb K,h0,h1,c,Ri]
theorem iX{f o:Nat}{u:(u:Ty)×(e.ty.den->u.den)}(q:b_ P T e)(g:sn e.ty e.nf f=some (o,u))(s:f<e.nf)(b off:Nat) :
    (Instr.fieldAt T (.pointer (some ⟨b,off,none⟩)) f).run P w=.ok (.pointer (some ⟨b,off+o,none⟩)) w:=by
 have h:=Rs.1 q.f f (Rn.2 s);unfold sF at h;rw[g]at h;cases m:P.underlying T with
 | none=>rw[m]at h; simp at h
 | some d =>
  rw[m]at h
  cases d<;>simp only[U0]at h
  rename_i fs
  cases p:fs[f]? with
  | none=>rw[p]at h; simp at h
  | some F =>
   rw[p]at h
   simp only[QK,SQ]at h
   obtain⟨t,c⟩:=h
   cases hi:P.info? F.type with
   | none=>rw[hi]at c; simp at c
   | some i =>
    rw[hi]at c
    simp at c
    obtain⟨c,v⟩:=c
    simp[Instr.fieldAt,Rb m,p,Instr.sureAddr,fieldPlace,sizeOf,typeInfo,hi,c,t,Ri]
theorem MV{f o:Nat}{u:Ty}{g:e.ty.den->u.den}{a:e.ty.den}{v:Value}(h:b_ P T e)(c:sn e.ty e.nf f=some (o,⟨u,g⟩))(i:f<e.nf)(q:m ρ X w (.rT e.ty a) [v]) :
    ∃ p,(Instr.fieldAt T v f).run P w=.ok p w/\m ρ X w (.rT u (g a)) [p]:=by
 obtain⟨b,off,C,s,t,x,y,z,A⟩:=q;cases x;refine⟨_,iX h c i b off,b,_,C,s,t,rfl,y,z,?_⟩;obtain⟨F,D⟩:=tS c;have:=D A;rw[Sw,RT,Sk,Rv (by omega)]at this;exact this
theorem Pg{a:e.ty.den}{v:Value}(f:b_ P T e)(g:m ρ X w (.rT e.ty a) [v]):∃ r,(Instr.loadAt T v).run P w=.ok r w/\m ρ X w (.a_ e.ty a) [r]:=by
 obtain⟨b,off,C,p,q,h,s,i,c⟩:=g;cases h;refine⟨_,?_,_,c,rfl⟩;simp only[Instr.loadAt,Instr.sureAddr,Rf,S9,Sh];exact fR f i rfl (eR c)
end
def O1(P:Program)(f:FuncId)(args res:AV):Prop :=
 (∀ args w,(callFunc f args).run P w=.ok (.enter f args) w) /\
 ∀ ρ X w c,(∀ b,X b->b<w.heap.size)->m ρ X w args c->Calls P f c.toArray w (fun e g=>∃ v,e=.returned v/\m ρ X g res [v]/\Below w.heap.size w g)
def c6(P:Program)(f:FuncId)(s:Spec):Prop:=∀ d,eP (s.F d).2->O1 P f (nz s.zR d) (s.F d).1
def jr:(l:List PK)->jf (oO l)->Nat->Nat->AV
 | [],_,_,_=>.nil
 | .d t::l,d,k,r=>.cons (.a_ t d.1) (jr l d.2 k r)
 | .b _ _::l,d,k,r=>.cons (.ref k 0) (jr l d.2 (k+1) r)
 | .br _ _ _::l,d,k,r=>.cons (.ref k 0) (jr l d.2 (k+1) (r+1))
 | .bf _ _::l,d,k,r=>.cons (.ref k 0) (jr l d (k+1) r)
 | .c f _ _::l,d,k,r=>.cons (.kL f (.cons (.ref k 0) .nil)) (jr l d.2 (k+1) r)
 | .k f::l,d,k,r=>.cons (.kL f .nil) (jr l d k r)
 | .r _ _::l,d,k,r=>.cons (.own r) (jr l d.2 k (r+1))
 | .n::l,d,k,r=>.cons (.val (.slice none 0 0)) (jr l d k r)
def oF:(l:List PK)->jf (oO l)->Nat->Nat->List (Nat×CT)
 | [],_,_,_=>[]
 | .d _::l,d,k,r=>oF l d.2 k r
 | .b T t::l,d,k,r=>(k,.box T (dA t d.1 .nil))::oF l d.2 (k+1) r
 | .br T g t::l,d,k,r=>(k,.box T (.cons (.own r) .nil))::(r,.row g t d.1)::oF l d.2 (k+1) (r+1)
 | .bf T f::l,d,k,r=>(k,.box T (.cons (.kL f (.cons (.ref (k+1) 0) .nil)) .nil))::oF l d (k+1) r
 | .c _ T t::l,d,k,r=>(k,.box T (dA t d.1 .nil))::oF l d.2 (k+1) r
 | .k _::l,d,k,r=>oF l d k r
 | .r g t::l,d,k,r=>(r,.row g t d.1)::oF l d.2 k (r+1)
 | .n::l,d,k,r=>oF l d k r
def np:List PK->Nat
 | []=>0
 | .d _::l=>np l
 | .b _ _::l=>np l+1
 | .br _ _ _::l=>np l+1
 | .bf _ _::l=>np l+1
 | .c _ _ _::l=>np l+1
 | .k _::l=>np l
 | .r _ _::l=>np l
 | .n::l=>np l
def uy:List PK->Nat
 | []=>0
 | .br _ _ _::l=>uy l+1
 | .d _::l=>uy l
 | .b _ _::l=>uy l
 | .bf _ _::l=>uy l
 | .c _ _ _::l=>uy l
 | .k _::l=>uy l
 | .r _ _::l=>uy l+1
 | .n::l=>uy l
def tm(l:List PK)(d:jf (oO l))(k:Nat):AV:=jr l d k (rh k (np l))
def o7(l:List PK)(d:jf (oO l))(k:Nat):List (Nat×CT):=oF l d k (rh k (np l))
def x_(l:List PK):Nat:=rh (np l) (uy l)
def gu:Act:={ tmps:=#[],defers:=[] }
def CG(P:Program)(f:FuncId)(s:iP)(d:jf (oO s.ko)):Prop :=
 (∀ args w,(callFunc f args).run P w=.ok (.enter f args) w) /\
 ∀ c X w h,(∀ b,X b->b<w.heap.size)->Fr w X c 0 ⟨[],o7 s.ko d 0,x_ s.ko⟩ c gu w->m c (XX X c (o7 s.ko d 0)) w (tm s.ko d 0) h ->
  Calls P f h.toArray w (fun e i=>∃ v g,e=.returned v/\Fr w X c 0 ⟨[],(s.F d).ck,(s.F d).nx⟩ g gu i/\m g (XX X g (s.F d).ck) i (s.F d).out [v])
def gK(P:Program)(f:FuncId)(s:iP):Prop:=∀ d,eP (s.F d).pre->CG P f s d
structure Env.Ok(E:Env):Prop where
 ty:∀ x∈E.zR,b_ E.P x.1 x.2
 sp:∀ x∈E.sp,c6 E.P x.1 x.2
 ms:∀ x∈E.ms,gK E.P x.1 x.2
 mx:E.P.follows .mixedOrders=true
theorem Env.Ok.fact{E:Env}(h:E.Ok){T:TypeId}{e:TE}(c:E.te T=some e):b_ E.P T e:=h.ty _ (b7 c)
theorem b_.und{P:Program}{T:TypeId}{e:TE}(h:b_ P T e):∃ s,P.underlying T=some s:=by
 have:=h.u;cases c:P.underlying T with
 | none=>rw[c]at this; cases this
 | some s=>exact⟨s,rfl⟩
section
variable{E:Env}{B:Nat}{ρ:List Value}{X:Nat->Prop}{w:World}{ck:List (Nat×CT)}{look:Operand->Option AV}{a:Act}{r:AV}{ps:List Prop} {d:Option Nat}{ty:TypeId}{pos:String}{af:Array Edge}{g:Option (Nat×Bool)}{an:An}{op:Op}
def okV:Value->Bool
 | .int k n=>decide (lo k<=n)&&decide (n<=hi k)
 | .string s=>decide (s.data.toList.length<=1000000)
 | _=>true
def Pv:Operand->Bool
 | .const v=>okV v
 | _=>true
theorem Gl{v:Value}(h:okV v=true):m ρ X w (cAV v) [v]:=by
 unfold cAV;split
 ·simp only[okV,QK,Qy]at h;exact eO h
 ·rfl
 ·simp only[okV,Qy]at h;exact pM (s:=ByteArray.data _ |>.toList) (by simp only[maxLen]; omega)
 ·rfl
theorem abA{sl:List (Nat×AV)}(h:∀ t x,get? sl t=some x->m ρ X w x [gt a t]){x:Operand}{y:AV}(i:Pv x=true)(c:lk sl x=some y):m ρ X w y [a.eval x]:=by
 cases x with
 | tmp t=>exact h _ _ c
 | const v=>cases c; exact Gl i
 | global g=>cases c
 | func f=>cases c; exact⟨[],rfl,rfl⟩
end
section
variable{E:Env}{B:Nat}{ρ:List Value}{X:Nat->Prop}{w:World}{ck:List (Nat×CT)}{look:Operand->Option AV}{a:Act}{r:AV}{ps:List Prop} {d:Option Nat}{ty:TypeId}{pos:String}{af:Array Edge}{g:Option (Nat×Bool)}{an:An}{op:Op}
variable{look look':Operand->Option AV}
theorem pe{x:Option Operand}{l:List Operand}(h:∀ y∈zL x l,look y=look' y):uN look x=uN look' x:=by
 cases x with
 | none=>rfl
 | some x=>simp only[uN]; rw[h x (by simp[zL])]
theorem qJ{x:Option Operand}{l:List Operand}(h:∀ y∈zL x l,look y=look' y):∀ y∈l,look y=look' y:=by
 cases x with
 | none=>exact h
 | some x=>exact fun y c=>h y (by simp[zL,c])
theorem jc:∀{l:List Operand},(∀ x∈l,look x=look' x)->kN look l=kN look' l
 | [],_=>rfl
 | x::l,h=>by
  simp only[kN]; rw[h x (by simp),jc fun y c=>h y (by simp[c])]
theorem i_{pl:Nat->Option (Nat×Ty)}:∀{ps:List (Nat×Operand)}{c:AV},(∀ x∈lv ps,look x=look' x)->jd look pl ps c=jd look' pl ps c
 | [],c,_=>rfl
 | (i,x)::l,c,h=>by
  simp only[jd,h x (by simp[lv])];split
  ·split
   ·split
    ·split
     ·exact i_ fun y f=>h y (by simp[lv,f])
     ·rfl
    ·rfl
   ·rfl
  ·rfl
theorem Ez(h:∀ x∈gD op,look x=look' x):pop E look ck op an=pop E look' ck op an:=by
 cases op<;>simp only[gD,Qv,QW,RV,forall_eq_or_imp,forall_eq]at h<;>unfold pop<;>try rfl
 all_goals try (simp only[h])
 case slice T x l s t =>
  obtain⟨_,g⟩:=h
  simp only[tq,yH,pe g,pe (qJ g),pe (qJ (qJ g))]
 case build T ps =>
  simp only[i_ h]
 case buildSlice T n ps =>
  simp only[Ht,i_ h]
 case makeFunc fn fst p =>
  rw[jc h]
 case call c =>
  obtain⟨callee,args,i⟩:=c
  simp only[yq]
  cases callee with
  | value f =>
   cases f<;>try rfl
   ·simp only at h ⊢;rw[h _ Qx,jc fun x q=>h x (Qs _ q)]
   ·simp only at h;simp only[jc h]
  | invoke _ _=>rfl
  | builtin b =>
   cases b<;>try rfl
   all_goals (
    simp only at h
    generalize args.toList=l at h
    match l,h with
    | [],_=>rfl
    | [x],h =>
     have m:=h x (by simp)
     rcases i.toList with _|⟨T,_|⟨_,_⟩⟩<;>simp[m]
    | [x,y],h =>
     have m:=h x (by simp)
     have g:=h y (by simp)
     simp only[m,g]
    | _::_::_::_,_=>rfl)
end
section
variable{E:Env}{B:Nat}{ρ:List Value}{X:Nat->Prop}{w:World}{ck:List (Nat×CT)}{look:Operand->Option AV}{a:Act}{r:AV}{ps:List Prop} {d:Option Nat}{ty:TypeId}{pos:String}{af:Array Edge}{g:Option (Nat×Bool)}{an:An}{op:Op}
theorem rL{P:Program}{T e:TypeId}(c:P.underlying T=some (.pointer e))(w:World)(a:Addr)(v:Bool)(bo:BinOp)(f:(bo=.eql/\v=false)∨(bo=.neq/\v=true))(o1 o2:Operand) :
    (do eqGuard bo T o1 o2 (.pointer (some a)) (.pointer none); binOp bo T (.pointer (some a)) (.pointer none):Sem Value).run P w=.ok (.bool v) w:=by
 have h:∀ d:Nat,(Op.equalIn (d+1) T (.pointer (some a)) (.pointer none)).run P w=.ok false w:=fun d=>by
  simp[Op.equalIn,Rb c]
 have h:=h 9999;have h:(Op.equalIn Op.maxDepth T (.pointer (some a)) (.pointer none)).run P w=.ok false w:=h;rcases f with⟨rfl,rfl⟩|⟨rfl,rfl⟩
 ·simp[eqGuard,binOp,Op.equal,h]
 ·simp[eqGuard,binOp,Op.equal,h]
theorem Ax{P:Program}{T e:TypeId}(f:P.underlying T=some (.slice e))(w:World)(a:Option Addr)(n c:Nat)(o1 o2:Operand) :
    (do eqGuard .eql T o1 o2 (.slice a n c) (.slice none 0 0); binOp .eql T (.slice a n c) (.slice none 0 0):Sem Value).run P w=.ok (.bool a.isNone) w:=by
 have h:∀ d:Nat,(Op.equalIn (d+1) T (.slice a n c) (.slice none 0 0)).run P w=.ok a.isNone w:=fun d=>by
  cases a<;>simp[Op.equalIn,Rb f]
 have h:=h 9999;have h:(Op.equalIn Op.maxDepth T (.slice a n c) (.slice none 0 0)).run P w=.ok a.isNone w:=h;simp[eqGuard,binOp,Op.equal,h]
theorem acf{t:Ty}{x:t.den}{y:LL.den}{u:Value}(q:fi t LL x=some y)(f:m ρ X w (.a_ t x) [u]):u=.agg #[.int .i64 y.1,.int .i64 y.2.1,.int .i64 y.2.2]:=by
 have f:m ρ X w (.a_ LL y) [u]:=fp q (fun v a=>m ρ X w (.a_ v a) [u]) f;obtain⟨c,⟨g,h,i⟩,p⟩:=f;have g:c.take 1=[.int .i64 y.1]/\_:=g;have h:(c.drop 1).take 1=[.int .i64 y.2.1]/\_:=h;have i:(c.drop 1).drop 1=[.int .i64 y.2.2]/\_:=i;have:c=[.int .i64 y.1,.int .i64 y.2.1,.int .i64 y.2.2]:=by
  rw[<-Q6 1 c,g.1,<-Q6 1 (c.drop 1),h.1,i.1]; rfl
 rw[this]at p;exact(QB p).1
theorem H8{P:Program}{T f:TypeId}{g:TypeInfo}(w:World)(t:P.underlying T=some (.array 3 f))(hk:P.underlying f=some (.int .i64))(hi:P.info? f=some g)(m:g.size=1)(a b c a' p q:Int)(d:Nat) :
   (Op.equalIn (d+2) T (.agg #[.int .i64 a,.int .i64 b,.int .i64 c]) (.agg #[.int .i64 a',.int .i64 p,.int .i64 q])).run P w=.ok (decide (a=a')&&decide (b=p)&&decide (c=q)) w:=by
 have z:∀(s:Array Value) (i:Nat) (v:Value),s[i]?=some v->(part f s i).run P w=.ok v w:=fun s i v h=>by
  simp[part,isAgg,Rb hk,h]
 have A:∀ x y:Int,(Op.equalIn (d+1) f (.int .i64 x) (.int .i64 y)).run P w=.ok (x == y) w:=fun x y=>by
  simp[Op.equalIn,Rb hk]
 have C:List.range' 0 3=[0,1,2]:=rfl;rw[Op.equalIn];simp only[Rb t,sizeOf,typeInfo,Rf];by_cases D:a=a'<;>by_cases F:b=p<;>by_cases G:c=q<;>simp[C,hi,m,z,A,D,F,G]
theorem MM{bo:BinOp}{T:TypeId}{t D:Ty}{x:t.den}{y:D.den}{u v':Value}(h:La E bo T t x D y=some (r,ps))(F:eP ps)(G:m ρ X w (.a_ t x) [u])(i:m ρ X w (.a_ D y) [v'])(o1 o2:Operand) :
    ∃ z,(do eqGuard bo T o1 o2 u v'; binOp bo T u v':Sem Value).run E.P w=.ok z w/\m ρ X w r [z]:=by
 unfold La at h;split at h
 ·split at h
  ·rename_i I p N C;cases h;obtain⟨⟨U,O,Q,hk,hi,J,c⟩,_⟩:=F;rw[acf N G,acf C i];have h:=H8 w Q hk hi J I.1 I.2.1 I.2.2 p.1 p.2.1 p.2.2 9998;have h:(Op.equalIn Op.maxDepth T _ _).run E.P w=_:=h;exact⟨.bool _,by simp[eqGuard,binOp,Op.equal,h,c],eY⟩
  ·split at h
   ·rename_i p C K;cases h;obtain⟨⟨c,heq⟩,_⟩:=F;have f:∀ g,t.wrap g=.agg g.toArray:=fun g=>by unfold Ty.wrap; rw[K]; rfl
    have i:=fp C (fun v a=>m ρ X w (.a_ v a) [v']) i;obtain⟨g,L,q⟩:=G;obtain⟨s,M,A⟩:=i;have q:=(QB q).1;have A:=(QB A).1;subst q;subst A;have h:=heq X w g s x p L M;rw[f,f]at h ⊢;exact⟨.bool _,by simp[eqGuard,binOp,h,c],eY⟩
   ·cases h
 ·split at h
  ·rename_i p C K;cases h;obtain⟨⟨c,heq⟩,_⟩:=F;have f:∀ g,t.wrap g=.agg g.toArray:=fun g=>by unfold Ty.wrap; rw[K]; rfl
   have i:=fp C (fun v a=>m ρ X w (.a_ v a) [v']) i;obtain⟨g,L,q⟩:=G;obtain⟨s,M,A⟩:=i;have q:=(QB q).1;have A:=(QB A).1;subst q;subst A;have h:=heq X w g s x p L M;rw[f,f]at h ⊢;exact⟨.bool _,by simp[eqGuard,binOp,h,c],eY⟩
  ·cases h
 ·cases h
theorem K5(K:E.Ok){bo:BinOp}{T:TypeId}{x y:AV}{u v:Value}(h:Nn E an bo T x y=some (r,ps))(g:eP ps)(t:m ρ X w x [u])(A:m ρ X w y [v])(o1 o2:Operand) :
    ∃ z,(do eqGuard bo T o1 o2 u v; binOp bo T u v:Sem Value).run E.P w=.ok z w/\m ρ X w r [z]:=by
 unfold Nn at h;split at h
 ·obtain⟨v0,W,Z,L,c⟩:=t;have i:[v]=[.pointer none]:=A;have c:=(QB c).1;have i:=(QB i).1;subst c i;split at h
  ·cases h;obtain⟨⟨e,F⟩,_⟩:=g;exact⟨.bool false,rL F _ _ _ .eql (by simp) o1 o2,rfl⟩
  ·cases h;obtain⟨⟨e,F⟩,_⟩:=g;exact⟨.bool true,rL F _ _ _ .neq (by simp) o1 o2,rfl⟩
  ·cases h
 ·rename_i k p k' q;obtain⟨rfl,c⟩:=fI t;obtain⟨rfl,i⟩:=fI A;split at h
  ·cases h;exact⟨.int k (PN k p q),by simp[eqGuard,binOp,Op.shift,Vr.2 (show(0:Int)<=q from g.1),PN],eO (lI _ _)⟩
  ·cases h;exact⟨.int k (kr k p q),by simp[eqGuard,binOp,Op.shift,Vr.2 (show(0:Int)<=q from g.1),kr],eO (KF _ _ _ c)⟩
  ·split at h
   ·rename_i e; have:=Aw e; subst this; exact K1 h g T o1 o2
   ·cases h
 ·obtain⟨rfl,c⟩:=vP t;obtain⟨rfl,i⟩:=vP A;exact MI h g T o1 o2
 ·exact MM h g t A o1 o2
 ·split at h
  ·rename_i M N;obtain rfl:=QR M;obtain rfl:=QR N;unfold aah at h;split at h
   ·split at h
    ·rename_i G;split at h
     ·rename_i I;cases h;have D:=(K.fact G).s;rw[I]at D;obtain⟨cs,O,c⟩:=t;have i:=(QB (show [v]=[.slice none 0 0]from A)).1;subst i;obtain⟨ad,cap,rfl,_,_,hn,Q⟩:=O;have c:=(QB c).1;subst c;refine⟨_,Ax D _ _ _ _ o1 o2,_,rfl,fun L=>?_⟩;refine Classical.byContradiction fun J=>?_;obtain⟨b,off,C,T',f,rfl,_⟩:=Q J;cases L
     ·cases h
    ·cases h
   ·cases h
  ·cases h
 ·unfold OJ at h;split at h
  ·rename_i U;split at h
   ·rename_i V;split at h
    ·rename_i G;split at h
     ·rename_i I;have D:=(K.fact G).s;rw[I]at D;rw[tL U t,tL V A];exact L9 h g T D o1 o2
     ·cases h
    ·cases h
   ·cases h
  ·cases h
theorem aaA{c:UnOp}{x:AV}{u:Value}(h:unA an c x=some (r,ps))(g:eP ps)(f:m ρ X w x [u]):∃ z,(Op.unary c u).run E.P w=.ok z w/\m ρ X w r [z]:=by
 unfold unA at h;split at h
 ·split at h
  ·rename_i b e;cases h;rw[tL e f];exact⟨.bool (!b),by simp[Op.unary],eY⟩
  ·cases h
 ·split at h
  ·rename_i k n;simp only[Q7]at h;obtain⟨rfl,i⟩:=fI f;exact⟨.int k (k.wrap (-n)),by simp[Op.unary,Op.intArith],um h g⟩
  ·cases h
 ·cases h
theorem H4{c x y:AV}{t u v:Value}(h:Cj c x y=some (r,ps))(p:eP ps)(f:m ρ X w c [t])(g:m ρ X w x [u])(i:m ρ X w y [v]) :
    ∃ b,t=.bool b/\m ρ X w r [if b=true then u else v]:=by
 unfold Cj at h;split at h
 ·cases h;have f:[t]=[.bool true]:=f;cases f;exact⟨true,rfl,g⟩
 ·cases h;have f:[t]=[.bool false]:=f;cases f;exact⟨false,rfl,i⟩
 ·rename_i e;refine⟨e,mG f,?_⟩;split at h
  ·have i:[v]=[.bool false]:=i;cases i;split at h
   ·rename_i z q;cases h;cases e with
    | false=>rw[QC (by simp)]; exact eY
    | true =>
     rw[QJ rfl]
     have:m ρ X w (strip x) [u]:=by
      unfold strip;split
      ·rename_i C D;obtain⟨F,s,A,_⟩:=g;cases s;exact A (by simp only[cond,S0,VR,eP]at p; exact p.1 trivial)
      ·exact g
     rw[tL q this]
     exact eY
   ·cases h
  ·split at h
   ·have g:[u]=[.bool true]:=g;cases g;split at h
    ·rename_i z q;cases h;cases e with
     | true=>rw[QJ rfl]; exact eY
     | false =>
      rw[QC (by simp)]
      have:m ρ X w (strip y) [v]:=by
       unfold strip;split
       ·rename_i C D;obtain⟨F,s,A,_⟩:=i;cases s;exact A (by simp only[cond,S0,VR,eP]at p; exact p.1 trivial)
       ·exact i
      rw[tL q this]
      exact eY
    ·cases h
   ·cases h
 ·cases h
theorem uC{C:List Value}{off n:Nat}(h:off+n<=C.length):((C.drop off).take n).length=n:=by simp; omega
theorem jz{t u:Ty}{X:Nat->Prop}{w:World}{cs:List Value}{x:t.den}{y:u.den}(h:fi t u x=some y)(f:rep t X w cs x):u.size<=t.size/\rep u X w (cs.take u.size) y:=by
 have c:=fp h (fun u a=>rep u X w cs a) f;have g:=gF h;rw[<-eR c,TR,eR c,g];exact⟨Qu _,c⟩
theorem B3{u:Ty}{X:Nat->Prop}{w:World}:∀{t:Ty}{cs:List Value}{x:t.den}{y:u.den},IA u t x=some y->rep t X w cs x->u.size<=t.size/\rep u X w (cs.take u.size) y
 | .pair i m,cs,p,y,h,c=>by
  unfold IA at h;split at h
  ·rename_i z e;cases h;exact jz e c
  ·obtain⟨f,g⟩:=B3 h c.1;rw[Sk,Rv f]at g;exact⟨QL f (Vg _ _),g⟩
 | .bool,_,_,_,h,c=>jz h c
 | .int _,_,_,_,h,c=>jz h c
 | .str,_,_,_,h,c=>jz h c
 | .slice _,_,_,_,h,c=>jz h c
 | .one _,_,_,_,h,c=>jz h c
 | .fn,_,_,_,h,c=>jz h c
theorem yJ(hE:E.Ok)(hw:Wd B ρ X ck w){T:TypeId}{e:TE}(he:E.te T=some e){x:AV}{u:Value}(h:vW ck e x=some (r,ps))(hp:eP ps)(Q:m ρ X w x [u]) :
    ∃ z,(Instr.loadAt T u).run E.P w=.ok z w/\m ρ X w r [z]:=by
 have hf:=hE.fact he;unfold vW at h;split at h
 ·split at h
  ·rename_i y e1;cases h;exact Pg hf (fp e1 (fun t a=>m ρ X w (.rT t a) [u]) Q)
  ·cases h
 ·rename_i c off;split at h
  ·rename_i T' l hc;obtain⟨hL,b,cs,U,h2,C,h4⟩:=hw.cs _ (b7 hc);obtain⟨v',b',ab,ai,K⟩:=Q;rw[U]at ab;cases ab;cases ai;cases K;split at h
   ·rename_i L;split at h
    ·rename_i ac;have ac:=QS ac;have N:=vT hL C;have f:=fR (P:=E.P) hf (cs:=(cs.toList.drop off).take e.ty.size) (off:=off) h2 rfl (uC (by omega));have hm:m ρ X w (nj (oL l off) e.ty.size) ((cs.toList.drop off).take e.ty.size):=by
      refine AW (qg hL) ?_ (xS hL (by omega) C);have:=vT (qg (n:=off) hL) (xS hL (by omega) C);rw[<-this,Q5]; omega
     split at h
     ·rename_i dd rr hd;cases h;refine⟨_,by simpa [Instr.loadAt,Instr.sureAddr]using f,(cs.toList.drop off).take e.ty.size,?_,rfl⟩;have:=(l9 hw.none (fun b h=>h) (fun x Q=>by cases Q) hd hm).1;rwa [Sk,Nat.min_self]at this
     ·cases h;refine⟨_,by simpa [Instr.loadAt,Instr.sureAddr]using f,(cs.toList.drop off).take e.ty.size,?_,hm,?_⟩
      ·simp[Ty.wrap,L]
      ·intro u K;exact h4 u (Rh (RB K))
    ·cases h
   ·rename_i L;split at h
    ·rename_i y hn;cases h;obtain⟨v,hv,hm⟩:=Im hn C;have hs:=tO (by simpa using L);have f:=fR (P:=E.P) hf (cs:=[v]) (off:=off) h2 (by rw[hs]; rw[List.take_one,List.head?_drop,hv]; rfl) (by rw[hs]; rfl);refine⟨v,?_,hm⟩;simpa [Instr.loadAt,Instr.sureAddr,Ty.wrap,L]using f
    ·cases h
  ·cases h
 ·rename_i c i sz;split at h
  ·rename_i T' t l hc;split at h
   ·rename_i y e1;split at h
    ·rename_i V;cases h;have V:=QR V;subst V;obtain⟨v,xs,h0,U,h2,C⟩:=hw.cs _ (b7 hc);obtain⟨v',b,D,hb,K⟩:=Q;rw[h0]at D;cases D;cases K;have hi:=hp.1;obtain⟨h4,h5|⟨g,cap,s,h6,_,h7,h8,h9,ad,F⟩⟩:=U
     ·omega
     ·rw[h6]at hb;cases hb;have hr:=C i (l.getD i (zd t)) (by simp[hi]);have ae:i*t.size+t.size<=l.length*t.size:=by
       rw[<-RI]; exact Q_ _ hi
      obtain⟨k1,G⟩:=B3 e1 hr;have W:(s.toList.drop (i*t.size)).take e.ty.size=((xs.drop (i*t.size)).take t.size).take e.ty.size:=by
       rw[<-F,Sw,Sk,Sk,Rv (by omega),Rv k1]
      have f:=fR (P:=E.P) hf (off:=i*t.size) h7 W (eR G);exact⟨_,by simpa [Instr.loadAt,Instr.sureAddr]using f,_,G,rfl⟩
    ·cases h
   ·cases h
  ·rename_i T1 o d hc;split at h
   ·rename_i T' t ll hb;split at h
    ·rename_i t0 af;split at h
     ·rename_i q;have q:=QR q;subst q;cases h;have hi:=hp.1;obtain⟨v,xs,Z,h0,I,U,h2,C⟩:=hw.cs _ (b7 hc);obtain⟨aj,p,N,_⟩:=hw.cs _ (b7 hb);rw[I]at p;cases p;obtain⟨v',b,D,J,K⟩:=Q;rw[h0]at D;cases D;cases K;have aa:i<Z.toList.length:=by omega
      have A:=C i aa (by simp);rw[Qr aa]at A;obtain⟨h4,⟨_,h5⟩|⟨g,cap,s,h6,_,h7,h8,h9,ad,F⟩⟩:=U
      ·omega
      ·rw[h6]at J;cases J;have M:s.toList[i]?=some Z.toList[i]:=by
        rw[<-F,Q1]at A;split at A
        ·exact A
        ·cases A
       have O:i<s.toList.length:=by
        rcases QA i s.toList.length with h'|h'
        ·exact h'
        ·rw[QD h']at M; cases M
       have es:e.ty.size=1:=by rw[af]; rfl
       have f:=fR (P:=E.P) hf (off:=i*1) h7 (cs:=[Z.toList[i]]) (by
        rw[es,Ry,R0 O];rw[Qr O]at M;rw[Rk M];rfl) (by rw[es]; rfl)
       have ak:e.ty.wrap [Z.toList[i]]=Z.toList[i]:=by rw[af]; rfl
       rw[ak]at f;exact⟨_,by simpa [Instr.loadAt,Instr.sureAddr]using f,Z,_,I,Qr aa,h2 _ (Ra A),rfl⟩
     ·cases h
    ·cases h
   ·cases h
  ·cases h
 ·rename_i d k i sz;split at h
  ·rename_i T' t ll hb;split at h
   ·rename_i y e1;split at h
    ·rename_i V;cases h;have V:=QR V;subst V;obtain⟨Z,v,b,I,hk,J,K⟩:=Q;cases K;have ah:=hw.cs _ (b7 hb);obtain⟨al,_⟩:=lh ah (Y:=fun _=>False) (fun b h=>h.elim) (fun b _ h=>h) I hk;obtain⟨aj,p,N,C,_⟩:=ah;rw[I]at p;cases p;have hl:ll[k]?=some (ll.getD k []):=by rw[Qz,Qr al]; rfl
     obtain⟨xs,U,h2,C⟩:=C k _ _ hk hl;have hi:=hp.1;obtain⟨h4,h5|⟨g,cap,s,h6,_,h7,h8,h9,ad,F⟩⟩:=U
     ·omega
     ·rw[h6]at J;cases J;have ht:=gF e1;have hr:=C i ((ll.getD k []).getD i (zd t)) (by rw[Qz (l:=ll.getD k []),Qr hi]; rfl);have ae:i*t.size+t.size<=(ll.getD k []).length*t.size:=by
       rw[<-RI]; exact Q_ _ hi
      have W:(s.toList.drop (i*t.size)).take t.size=(xs.drop (i*t.size)).take t.size:=by
       rw[<-F,Sw,Sk,Rv (by omega)]
      have G:rep e.ty X w ((xs.drop (i*t.size)).take t.size) y:=fp e1 (fun u a=>rep u X w ((xs.drop (i*t.size)).take t.size) a) hr;have f:=fR (P:=E.P) hf (off:=i*t.size) h7 (by rw[<-ht]; exact W) (eR G);exact⟨_,by simpa [Instr.loadAt,Instr.sureAddr]using f,_,G,rfl⟩
    ·cases h
   ·cases h
  ·cases h
 ·cases h
theorem FI(hE:E.Ok){T:TypeId}{e:TE}(he:E.te T=some e){f:Nat}{x:AV}{u:Value}(h:xd E T e f x=some (r,ps))(hp:eP ps)(M:m ρ X w x [u]) :
    ∃ z,(Instr.field T u f).run E.P w=.ok z w/\m ρ X w r [z]:=by
 have hf:=hE.fact he;unfold xd at h;split at h
 ·split at h
  ·rename_i y N;split at h
   ·rename_i o t g D;split at h
    ·rename_i e2 e3;cases h;obtain⟨⟨fs,F,V,W,s⟩,_⟩:=hp;have M:=fp N (fun t a=>m ρ X w (.a_ t a) [u]) M;obtain⟨v,Z,O⟩:=M;have O:=(QB O).1;subst O;obtain⟨aa,G⟩:=tS D;have hr:=G Z;have c:=Rs.1 hf.f f (Rn.2 (QS e2));unfold sF at c;rw[D,V]at c;simp only[W,QK,SQ]at c;obtain⟨I,p⟩:=c;cases hi:E.P.info? F.type with
     | none=>rw[hi]at p; cases p
     | some i =>
      rw[hi]at p
      simp only[QK,U2,ne_eq,SQ]at p
      have hw:e.ty.wrap v=.agg v.toArray:=by unfold Ty.wrap; rw[e3]; rfl
      have ab:=eR Z
      have Q:∃ d,E.P.underlying F.type=some d/\MY d=t.isAgg:=by
       cases L:E.P.underlying F.type with
       | none=>rw[L]at s; cases s
       | some d=>rw[L]at s; exact⟨d,rfl,Rk s⟩
      obtain⟨d,L,U⟩:=Q
      have A:(isAgg F.type).run E.P w=.ok t.isAgg w:=by
       rw[<-U];unfold isAgg;simp only[Rf,Rb L];cases d<;>rfl
      have C:(part F.type v.toArray o).run E.P w=.ok (t.wrap ((v.drop o).take t.size)) w:=by
       unfold part;simp only[Rf,A];cases q:t.isAgg with
       | true =>
        simp[sizeOf,typeInfo,hi,p.2,Ty.wrap,q,Result.andThen]
       | false =>
        have J:=tO q
        have hl:=eR hr
        rw[QM,Q5,J]at hl
        have K:o<v.length:=by omega
        have N:t.wrap ((v.drop o).take t.size)=v[o]:=by
         unfold Ty.wrap;rw[q,J,R0 K];rfl
        rw[N]
        simp[K,Result.andThen]
      refine⟨_,?_,_,hr,rfl⟩
      rw[hw]
      unfold Instr.field
      simp[Rb V,W,asAgg,I,C]
    ·cases h
   ·cases h
  ·cases h
 ·cases h
theorem Eu(F:E.Ok){T:TypeId}{e:TE}(G:E.te T=some e){f:Nat}{x:AV}{u:Value}(h:xb e f x=some (r,ps))(C:m ρ X w x [u]) :
    ∃ z,(Instr.fieldAt T u f).run E.P w=.ok z w/\m ρ X w r [z]:=by
 have D:=F.fact G;unfold xb at h;split at h
 ·split at h
  ·rename_i y i;split at h
   ·rename_i c;split at h
    ·rename_i g;cases h;exact MV D c (QS g) (fp i (fun t a=>m ρ X w (.rT t a) [u]) C)
    ·cases h
   ·cases h
  ·cases h
 ·split at h
  ·rename_i c;split at h
   ·rename_i g;cases h;obtain⟨v,b,p,s,A⟩:=C;cases A;exact⟨_,iX D c (QS g) _ _,v,b,p,s,rfl⟩
   ·cases h
  ·cases h
 ·split at h
  ·rename_i o q c;split at h
   ·rename_i i g;cases h;have i:=QR i;subst i;obtain⟨v,b,p,s,A⟩:=C;cases A;exact⟨_,iX D c (QS g) _ _,v,b,p,s,rfl⟩
   ·rename_i i g;cases h;obtain⟨v,b,p,s,A⟩:=C;cases A;exact⟨_,iX D c (QS g) _ _,v,b,p,s,rfl⟩
   ·cases h
  ·cases h
 ·cases h
theorem eU(c:E.Ok){T:TypeId}{e:TE}{t:Ty}(f:E.te T=some e)(ht:e.ty=.slice t):E.P.underlying T=some (.slice e.elem):=by
 have:=(c.fact f).s; rw[ht]at this; exact this
theorem qj(c:E.Ok){T:TypeId}{e:TE}(f:E.te T=some e)(ht:e.ty=.str):E.P.underlying T=some .string:=by
 have:=(c.fact f).s; rw[ht]at this; exact this
theorem fF{T:TypeId}{u:Ty}(h:elemOf E T=some u):∃ e c,E.te T=some e/\e.ty=.slice u/\E.te e.elem=some c/\c.ty=u:=by
 unfold elemOf at h;split at h
 ·rename_i e g;split at h
  ·rename_i t i;split at h
   ·rename_i c f;split at h
    ·rename_i q;cases h;exact⟨e,c,g,i,f,pf q⟩
    ·cases h
   ·cases h
  ·cases h
 ·cases h
theorem pO{n:Int}{k:Nat}(h:0<=n/\n<(k:Int)):n.toNat<k:=by omega
theorem FH(D:E.Ok)(U:Wd B ρ X ck w){T:TypeId}{x i:AV}{u v:Value}(h:wF E ck T x i=some (r,ps))(K:eP ps)(s:m ρ X w x [u])(hy:m ρ X w i [v]) :
    ∃ z,(Instr.indexAt T u v).run E.P w=.ok z w/\m ρ X w r [z]:=by
 unfold wF at h;split at h
 ·rename_i k n;obtain⟨rfl,hv⟩:=fI hy;split at h
  ·rename_i uu V;obtain⟨e,e',L,O,y,A⟩:=fF V;split at h
   ·rename_i c;split at h
    ·rename_i T' t l W;split at h
     ·rename_i q;cases h;have q:=pf q;have p:(0:Int)<=n/\(n:Int)<(l.length:Int):=K.1;obtain⟨v0,xs,C,J,h2,h3⟩:=U.cs _ (b7 W);obtain⟨v1,M,_,s⟩:=s;rw[C]at M;cases M;cases s;obtain⟨h4,h5|⟨g,cap,Z,F,_,h7,h8,h9,aa,ab⟩⟩:=J
      ·have:=pO p; omega
      ·have f:=(D.fact y).iN (w:=w);rw[A,<-q]at f;refine⟨.pointer (some ⟨g,n.toNat*t.size,none⟩),?_,_,g,C,by rw[F]; rfl,rfl⟩;rw[F];simp[Instr.indexAt,asIntOf,Rb (eU D L O),p.1,p.2,f,Ri]
     ·cases h
    ·cases h
   ·rename_i c k;split at h
    ·rename_i q;cases h;have q:=QR q;have p:(0:Int)<=n/\(n:Int)<(k:Int):=K.1;obtain⟨v0,C,ac,s⟩:=s;cases s;rcases ac with⟨_,h5⟩|⟨g,cap,F⟩
     ·have:=pO p; omega
     ·have f:=(D.fact y).iN (w:=w);rw[A,q]at f;refine⟨.pointer (some ⟨g,n.toNat*1,none⟩),?_,_,g,C,by rw[F]; rfl,rfl⟩;rw[F];simp[Instr.indexAt,asIntOf,Rb (eU D L O),p.1,p.2,f,Ri]
    ·cases h
   ·rename_i d k;split at h
    ·rename_i T' t Q hb;split at h
     ·rename_i q;cases h;have q:=pf q;have p:(0:Int)<=n/\(n:Int)<((Q.getD k []).length:Int):=K.1;obtain⟨us,v1,I,hk,_,s⟩:=s;cases s;have N:=U.cs _ (b7 hb);obtain⟨ad,_⟩:=lh N (Y:=fun _=>False) (fun b h=>h.elim) (fun b _ h=>h) I hk;obtain⟨af,G,ae,h3,_⟩:=N;rw[I]at G;cases G;have hl:Q[k]?=some (Q.getD k []):=by rw[Qz,Qr ad]; rfl
      obtain⟨xs,J,_⟩:=h3 k _ _ hk hl;generalize Q.getD k []=l at p J ⊢;obtain⟨h4,⟨_,h5⟩|⟨g,cap,Z,F,_,h7,h8,h9,aa,ab⟩⟩:=J
      ·have:=pO p; omega
      ·have f:=(D.fact y).iN (w:=w);rw[A,<-q]at f;refine⟨.pointer (some ⟨g,n.toNat*t.size,none⟩),?_,us,_,g,I,hk,by rw[F]; rfl,rfl⟩;rw[F];simp[Instr.indexAt,asIntOf,Rb (eU D L O),p.1,p.2,f,Ri]
     ·cases h
    ·cases h
   ·split at h
    ·rename_i l hl;cases h;have p:=K.1;exact zM (D.fact L) O (D.fact y) (by rw[A]) (qF U.none (fun b h=>h) (fun x s=>by cases s) hl s) p.1 p.2
    ·cases h
  ·split at h
   ·rename_i c off;split at h
    ·rename_i e L;split at h
     ·cases h;obtain⟨p,⟨el,ah,hu,_,hi,f,_⟩,_⟩:=K;obtain⟨v0,b0,W,hb,s⟩:=s;cases s;refine⟨.pointer (some ⟨b0,off+n.toNat,none⟩),?_,v0,b0,W,hb,rfl⟩;have J:(n:Int)<3:=p.2;simp[Instr.indexAt,asIntOf,Rb hu,sizeOf,typeInfo,hi,p.1,J,f,Ri,Instr.sureAddr]
     ·cases h
    ·cases h
   ·cases h
 ·cases h
theorem bsize(s:List UInt8):(ByteArray.mk s.toArray).size=s.length:=by show s.toArray.size=_; simp
theorem acx(s:List UInt8)(n:Nat)(h:n<s.length):(ByteArray.mk s.toArray)[n]?=some (s.getD n 0):=by
 rw[getElem?_pos (ByteArray.mk s.toArray) n (by rw[bsize]; exact h)];simp[ByteArray.getElem_eq_getElem_data,h]
theorem Jg(g:E.Ok){T:TypeId}{x i:AV}{u v:Value}(h:BP E T x i=some (r,ps))(p:eP ps)(q:m ρ X w x [u])(t:m ρ X w i [v]) :
    ∃ z,(Instr.index T u v).run E.P w=.ok z w/\m ρ X w r [z]:=by
 unfold BP at h;split at h
 ·rename_i s k n e y;split at h
  ·rename_i A;cases h;obtain⟨rfl,D⟩:=fI t;obtain⟨rfl,F⟩:=vP q;have f:(0:Int)<=n/\(n:Int)<(s.length:Int):=p.1;have c:n.toNat<s.length:=pO f;refine⟨.int .u8 (gN s n),?_,eO ?_⟩
   ·have C:=acx s n.toNat c;simp[Instr.index,asIntOf,Rb (qj g y A),f.1,C,gN]
   ·unfold gN;simp only[gG,lo,Gx.hi];have G:=(s.getD n.toNat 0).toNat_lt;omega
  ·cases h
 ·cases h
theorem AZ{t:Ty}{l:List t.den}{u:Value}{Y:Nat->Prop}(h:m ρ Y w (.a_ (.slice t) l) [u]):∃ b cap,u=.slice b l.length cap/\l.length<=maxLen:=by
 obtain⟨f,⟨b,cap,rfl,g,i,p,q⟩,c⟩:=h;simp[Ty.wrap,Ty.isAgg]at c;exact⟨b,cap,c,by omega⟩
theorem IQ(f:E.Ok)(p:Wd B ρ X ck w){T ty:TypeId}{x:AV}{u:Value}(h:DU E ck T x=some (r,ps))(g:m ρ X w x [u]) :
    ∃ z,(Builtin.len_ #[T] ty #[u]).run E.P w=.ok z w/\m ρ X w r [z]:=by
 unfold DU at h;split at h
 ·rename_i e i;split at h
  ·rename_i c;split at h
   ·rename_i s;cases h;obtain⟨rfl,q⟩:=vP g;refine⟨goInt s.length,by simp[Builtin.len_,Rb (qj f i c),bsize],eO ?_⟩;simp only[maxLen]at q;simp only[gG,lo,hi]; omega
   ·cases h
  ·rename_i t c;split at h
   ·rename_i l v;cases h;obtain⟨b,cap,rfl,y⟩:=AZ (qF (Y:=fun _=>False) p (fun b h=>h.elim) (fun x _ b _ h=>h.elim) v g);refine⟨goInt l.length,by simp[Builtin.len_,Rb (eU f i c)],eO ?_⟩;simp only[maxLen]at y;simp only[gG,lo,hi]; omega
   ·cases h
  ·cases h
 ·cases h
theorem sC(c:∀ x y,look x=some y->m ρ X w y [a.eval x]){o:Option Operand}{n:Option Int}(h:uN look o=some n) :
    (n=none/\o.map a.eval=none)∨∃ k i,n=some i/\o.map a.eval=some (.int k i):=by
 cases o with
 | none=>cases h; exact .inl ⟨rfl,rfl⟩
 | some x =>
  simp only[uN]at h
  split at h
  ·rename_i k i e;cases h;exact .inr ⟨k,i,rfl,by rw[Sp,(fI (c _ _ e)).1]⟩
  ·cases h
theorem sB{P:Program}{k:IntKind}{i:Int}{y:Nat}{code:BoundsCode}(h0:0<=i)(h1:i<=y):(Instr.sliceBound (.int k i) y code).run P w=.ok i.toNat w:=run_sliceBound w k i y code h0 h1
theorem oU{P:Program}{b:Bool}{len cap:Nat}{lo hi mx:Option Int}{l h c:Option Value}(t:len<=cap)(g:eP (Bz len lo hi mx))
    (m:(lo=none/\l=none)∨∃ k i,lo=some i/\l=some (.int k i)) (p:(hi=none/\h=none)∨∃ k i,hi=some i/\h=some (.int k i)) (q:(mx=none/\c=none)∨∃ k i,mx=some i/\c=some (.int k i)) :
    ∃ L H M:Nat,(Instr.sliceBounds b len cap l h c).run P w=.ok (L,H,M) w/\L<=H/\H<=len/\H<=M/\M<=cap/\(∀{s:Type} (x:List s),x.length=len->qQ x lo hi=(x.take H).drop L):=by
 rcases m with⟨rfl,rfl⟩|⟨v,i,rfl,rfl⟩<;>rcases p with⟨rfl,rfl⟩|⟨y,j,rfl,rfl⟩<;>rcases q with⟨rfl,rfl⟩|⟨z,n,rfl,rfl⟩<;>simp only[Bz,eP,SK]at g
 ·refine⟨0,len,cap,by simp[Instr.sliceBounds],by omega,by omega,by omega,by omega,fun x f=>?_⟩;simp[qQ,<-f]
 ·refine⟨0,j.toNat,cap,?_,by omega,by omega,by omega,by omega,fun x f=>?_⟩
  ·simp[Instr.sliceBounds,sB g.1 (show j<=(cap:Int) by omega)]
  ·simp[qQ]
 ·refine⟨0,j.toNat,n.toNat,?_,by omega,by omega,by omega,by omega,fun x f=>?_⟩
  ·simp[Instr.sliceBounds,sB (show 0<=n by omega) (show n<=(cap:Int) by omega),sB g.1 (show j<=((n.toNat:Nat):Int) by omega)]
  ·simp[qQ]
 ·refine⟨i.toNat,len,cap,?_,by omega,by omega,by omega,by omega,fun x f=>?_⟩
  ·simp[Instr.sliceBounds,sB g.1 (show i<=(len:Int) by omega)]
  ·simp[qQ,<-f]
 ·refine⟨i.toNat,j.toNat,cap,?_,by omega,by omega,by omega,by omega,fun x f=>?_⟩
  ·simp[Instr.sliceBounds,sB (show 0<=j by omega) (show j<=(cap:Int) by omega),sB g.1 (show i<=((j.toNat:Nat):Int) by omega)]
  ·simp[qQ]
 ·refine⟨i.toNat,j.toNat,n.toNat,?_,by omega,by omega,by omega,by omega,fun x f=>?_⟩
  ·simp[Instr.sliceBounds,sB (show 0<=n by omega) (show n<=(cap:Int) by omega),sB (show 0<=j by omega) (show j<=((n.toNat:Nat):Int) by omega),sB g.1 (show i<=((j.toNat:Nat):Int) by omega)]
  ·simp[qQ]
theorem JZ(K:E.Ok)(U:Wd B ρ X ck w)(V:∀ x y,look x=some y->m ρ X w y [a.eval x]){T:TypeId}{c:Nat}{u:Value}{lo hi mx:Option Operand}(h:yH E look ck T c lo hi mx=some (r,ps))(s:eP ps)(W:m ρ X w (.own c) [u]) :
    ∃ z,(Instr.sliceAt T u (lo.map a.eval) (hi.map a.eval) (mx.map a.eval)).run E.P w=.ok z w/\m ρ X w r [z]:=by
 unfold yH at h;split at h
 ·rename_i i Z;have N:=sC V Z;split at h
  ·rename_i t A;obtain⟨e,e',he,C,D,F⟩:=fF A;split at h
   ·rename_i T' t' l hg;split at h
    ·rename_i ht G;have G:=QR G;cases h;obtain⟨v,I,aa,f⟩:=W;have f:=(QB f).1;subst f;obtain⟨v2,xs,O,g2,g3,g4⟩:=U.cs _ (b7 hg);rw[I]at O;cases O;have Q:=eU K he C;have p:=(K.fact D).iN (w:=w);rw[F,G]at p;have q:eP (Bz l.length (some i) none none):=by simpa [Bz]using s
     obtain⟨q5,⟨J,q2⟩|⟨g,cap,ab,J,_,_,q3,_⟩⟩:=g2
     ·subst J;rw[q2]at q;obtain⟨L,H,M,hr,r1,r2,r3,r4,r5⟩:=oU (P:=E.P) (w:=w) (b:=true) (Qu 0) q N (.inl ⟨rfl,rfl⟩) (.inl ⟨rfl,rfl⟩);refine⟨.slice none 0 0,?_,_,_,I,.inl ⟨rfl,rfl⟩,rfl⟩;have hL:L=0:=by omega
      have hH:H=0:=by omega
      have hM:M=0:=by omega
      subst hL hH hM;simp only[Option.map_none];simp[Instr.sliceAt,Instr.slice,Rb Q,hr,p]
     ·subst J;have h0:=s.1.1;have h1:=s.1.2;refine⟨.slice (if cap=i.toNat then some ⟨g,0,none⟩else some ⟨g,i.toNat,none⟩) (l.length-i.toNat) (cap-i.toNat),?_,_,_,I,.inr ⟨g,l.length,cap,if cap=i.toNat then 0 else i.toNat,rfl,?_,fun ac=>?_⟩,rfl⟩
      ·obtain⟨k,j,ej,eo⟩:∃ k j,some i=some j/\lo.map a.eval=some (.int k j):=by
         rcases N with⟨h,_⟩|h
         ·cases h
         ·exact h
       cases ej;rw[eo];simp only[Option.map_none];simp[Instr.sliceAt,Instr.slice,Instr.sliceBounds,sB h0 h1,Rb Q,p,Ri]
      ·split<;>rfl
      ·rw[QC (by omega)]
    ·cases h
   ·cases h
  ·cases h
 ·cases h
theorem EG(D:E.Ok)(hw:Wd B ρ X ck w)(F:∀ x y,look x=some y->m ρ X w y [a.eval x]){T:TypeId}{x:AV}{u:Value}{lo hi mx:Option Operand}(h:tq E look T x lo hi mx=some (r,ps))(hp:eP ps)(A:m ρ X w x [u]) :
    ∃ z,(Instr.sliceAt T u (lo.map a.eval) (hi.map a.eval) (mx.map a.eval)).run E.P w=.ok z w/\m ρ X w r [z]:=by
 unfold tq at h;split at h
 ·rename_i p q ab e1 e2 e3;have o1:=sC F e1;have o2:=sC F e2;have o3:=sC F e3;split at h
  ·rename_i s;split at h
   ·split at h
    ·rename_i e G;split at h
     ·rename_i hc;cases h;obtain⟨rfl,hs⟩:=vP A;have I:mx.map a.eval=none:=by
       rcases o3 with⟨_,h⟩|⟨k,i,h,_⟩
       ·exact h
       ·cases h
      obtain⟨L,H,M,J,g1,K,g3,g4,N⟩:=oU (P:=E.P) (w:=w) (b:=false) (Qu s.length) hp o1 o2 (.inl ⟨rfl,rfl⟩);have O:=qj D G hc;have c:=N s rfl;have e:(ByteArray.mk s.toArray).extract L H=⟨(qQ s p q).toArray⟩:=by
       rw[c];apply ByteArray.ext;simp[Sw]
      refine⟨.string ⟨(qQ s p q).toArray⟩,?_,pM ?_⟩
      ·rw[<-e,I];simp[Instr.sliceAt,Instr.slice,Rb O,bsize,J]
      ·rw[c]; simp; omega
     ·cases h
    ·cases h
   ·cases h
  ·split at h
   ·rename_i t Q;obtain⟨e,e',G,U,V,W⟩:=fF Q;split at h
    ·rename_i l Z;cases h;obtain⟨cs,⟨b,cap,rfl,h2,h3,h4,h5⟩,hv⟩:=qF hw.none (fun b h=>h) (fun x A=>by cases A) Z A;simp[Ty.wrap,Ty.isAgg]at hv;subst hv;obtain⟨L,H,M,J,g1,K,g3,g4,N⟩:=oU (P:=E.P) (w:=w) (b:=true) h2 hp o1 o2 o3;have O:=eU D G U;have v:=(D.fact V).iN (w:=w);rw[W]at v;have c:=N l rfl;have g:(qQ l p q).length=H-L:=by rw[c]; simp; omega
     refine⟨.slice (if M=L then b else b.map (·.add (L*t.size))) (H-L) (M-L),?_,_,⟨_,M-L,by rw[g],by rw[g]; omega,by omega,fun hn=>?_,fun aa=>?_⟩,rfl⟩
     ·simp[Instr.sliceAt,Instr.slice,Rb O,J,v]
     ·have:b=none:=by
        split at hn
        ·exact hn
        ·simpa using hn
      have:=h4 this;omega
     ·have ac:L<H:=by
        rcases QA L H with h|h
        ·exact h
        ·exact absurd (RA (by rw[g]; omega)) aa
      obtain⟨b',off,C,T',f,rfl,q1,q2,q3⟩:=h5 (by intro e; rw[e]at K; simp at K; omega);rw[QC (by omega)];refine⟨b',off+L*t.size,C,T',f,by simp[Ri],q1,q2,fun i x hi=>?_⟩;have:l[L+i]?=some x:=by
       rw[c,Rg]at hi;rw[Q1]at hi;split at hi
       ·exact hi
       ·cases hi
      have:=q3 _ _ this;rwa [show off+(L+i)*t.size=off+L*t.size+i*t.size by rw[T4]; omega]at this
    ·cases h
   ·cases h
 ·cases h
theorem Na{u:Ty}(h:zW u=true):u=.int .u8:=by
 unfold zW at h;split at h
 ·rfl
 ·cases h
theorem wV(f:E.Ok){T:TypeId}{u:Ty}(h:elemOf E T=some u)(c:zW u=true):∃ e,E.P.underlying T=some (.slice e)/\E.P.underlying e=some (.int .u8):=by
 obtain⟨e,q,g,i,m,p⟩:=fF h;have c:=Na c;subst c;refine⟨e.elem,eU f g i,?_⟩;have:=(f.fact m).s;rw[p]at this;exact this
theorem Kx(G:E.Ok)(hw:Wd B ρ X ck w){S D:TypeId}{x:AV}{u:Value}(h:B4 E ck S D x an=some (r,ps))(hp:eP ps)(q:m ρ X w x [u])(hS:∃ s,E.P.underlying S=some s) :
    ∃ z w',(convert S D u).run E.P w=.ok z w'/\m ρ X w' r [z]/\Below w.heap.size w w':=by
 unfold B4 at h;split at h
 ·rename_i k n;split at h
  ·rename_i e U;obtain⟨rfl,I⟩:=fI q;split at h
   ·rename_i k' hk;have hu:E.P.underlying D=some (.int k'):=by have:=(G.fact U).s; rw[hk]at this; exact this
    obtain⟨s,hs⟩:=hS;simp only[Q7]at h;exact⟨_,w,by simp[convert,Rb hu,Rb hs,Conv.intToInt],um h hp,QG _ _⟩
   ·cases h
  ·cases h
 ·rename_i s;split at h
  ·rename_i es V;split at h
   ·rename_i W;split at h
    ·rename_i u' t;split at h
     ·rename_i Z;cases h;obtain⟨rfl,J⟩:=vP q;obtain⟨e,g,p⟩:=wV G t Z;have aa:E.P.underlying S=some .string:=qj G V W;have F:=run_bytes_of_string (P:=E.P) w S D e ⟨s.toArray⟩ aa g p;have ab:(⟨s.toArray⟩:ByteArray).size=s.length:=by show s.toArray.size=_; simp
      rw[ab]at F;have K:=TD w s.length 0 e J;have ac:=UR w s.length 0 e;generalize grownCap w s.length 0 e=cap at *;have c:(xk s).length=s.length:=Rt ..;refine⟨_,_,F,⟨[.slice (some ⟨w.heap.size,0,none⟩) s.length cap],⟨some ⟨w.heap.size,0,none⟩,cap,by rw[c],by rw[c]; exact ac,K,(fun h=>by cases h),fun af=>⟨w.heap.size,0,_,e,_,rfl,fun q=>by have:=hw.lt _ q; omega,S_ w.drew _,fun i x hi=>?_⟩⟩,rfl⟩,(QG _ _).drew.alloc (Qu _) _⟩;have v:i<s.length:=by
       rw[<-c];rcases QA i (xk s).length with h|h
       ·exact h
       ·rw[QD h]at hi; cases hi
      have q:x=(s[i].toNat:Int):=by
       unfold xk at hi;rw[Ro,Qr v]at hi;exact(Rk hi).symm
      have ah:=s[i].toNat_lt;have ae:(0:Int)<=((s[i].toNat:Nat):Int)/\((s[i].toNat:Nat):Int)<=255:=by omega
      refine⟨?_,by rw[q]; exact ae⟩;have Q:(bytesRow ⟨s.toArray⟩ cap).toList[i]?=some (.int .u8 x):=by
       unfold bytesRow;rw[Array.toList_append,Q0 (by simpa using v),q];simp[v]
      simp only[Ty.size,Q8,Ry];have L:i<(bytesRow ⟨s.toArray⟩ cap).toList.length:=by
       rcases QA i (bytesRow ⟨s.toArray⟩ cap).toList.length with h|h
       ·exact h
       ·rw[QD h]at Q; cases Q
      rw[R0 L,Uo,S7];rw[Qr L]at Q;rw[Rk Q]
     ·cases h
    ·cases h
   ·cases h
  ·cases h
 ·split at h
  ·rename_i u' t;split at h
   ·rename_i Z;split at h
    ·rename_i e U;split at h
     ·rename_i M;split at h
      ·rename_i l J;cases h;obtain⟨e0,g,p⟩:=wV G t Z;have A:=qj G U M;have J:kF ck (.slice (.int .u8)) x=some l:=J;have hm:=qF (Y:=fun b=>X b/\∀ y∈ck,¬fk ρ y.1 b) hw (fun b h=>h.1) (fun y hy b hb I=>I.2 y hy hb) J q;obtain⟨cs,⟨a0,cap,rfl,h2,h3,h4,h5⟩,hv⟩:=hm;have hv:u=.slice a0 l.length cap:=by simpa [Ty.wrap,Ty.isAgg]using hv
       subst hv;have c:(O7 l).length<=maxLen:=by unfold O7; rw[Rt]; omega
       by_cases I:l=[]
       ·subst I;cases a0 with
        | none =>
         refine⟨_,w,run_convert_bytes_nil w S e0 g p _ _ D A,?_,QG _ _⟩
         exact⟨_,⟨rfl,c⟩,rfl⟩
        | some ad =>
         have F:=run_convert_bytes_back (P:=E.P) w S D e0 ad cap [] g p A (fun j hj=>by simp at hj)
         exact⟨_,w,F,⟨_,⟨rfl,c⟩,rfl⟩,QG _ _⟩
       ·obtain⟨b,off,C,T,f,rfl,_,g2,g3⟩:=h5 I;have F:=run_convert_bytes_arg (P:=E.P) w S e0 g p b off l.length cap l rfl (fun i hi=>by
         have hq:=g3 i l[i] (by simp[hi]);have N:(C.toList.drop (off+i*1)).take 1=[Value.int .u8 l[i]]:=hq.1;rw[Ry]at N;have O:(C.toList.drop (off+i))[0]?=some (Value.int .u8 l[i]):=by
          have:=Sr (fun l=>l[0]?) N;simpa [Q1]using this
         rw[Rg]at O;have:l.getD i 0=l[i]:=by simp[hi]
         rw[this];simpa [World.cell?,g2]using O) D A
        exact⟨_,w,F,⟨_,⟨rfl,c⟩,rfl⟩,QG _ _⟩
      ·cases h
     ·cases h
    ·cases h
   ·cases h
  ·cases h
theorem qk:∀{t:Ty}{X Y:Nat->Prop}{cs:List Value}{x:t.den},uk t=true->rep t X w cs x->rep t Y w cs x
 | .bool,_,_,_,_,_,h=>h
 | .int _,_,_,_,_,_,h=>h
 | .str,_,_,_,_,_,h=>h
 | .slice _,_,_,_,_,c,_=>by cases c
 | .pair t u,_,_,_,_,c,h=>by
  simp only[uk]at c;split at c
  ·rename_i e; exact⟨qk e h.1,qk c h.2⟩
  ·cases c
 | .one t,_,_,_,_,c,h=>qk (t:=t) c h
 | .fn,_,_,_,_,_,h=>h
theorem tF{X Y:Nat->Prop}:∀{x:AV}{vs:List Value},flat x=true->m ρ X w x vs->m ρ Y w x vs
 | .any,_,_,h=>h
 | .val _,_,_,h=>h
 | .lit _,_,_,h=>h
 | .a_ t a,_,c,⟨p,f,g⟩=>⟨p,qk c f,g⟩
 | .js l,_,c,⟨i,f,g⟩=>⟨i,f,tF (x:=l) c g⟩
 | .nil,_,_,h=>h
 | .cons x l,_,c,⟨v,i,f,g,q⟩=>by
  simp only[flat]at c;split at c
  ·rename_i e; exact⟨v,i,f,tF e g,tF c q⟩
  ·cases c
theorem kM(c:∀ x y,look x=some y->m ρ X w y [a.eval x]):∀{xs:List Operand}{y:List AV},kN look xs=some y->mL ρ X w y (xs.map a.eval)
 | [],y,h=>by cases h; rfl
 | x::xs,y,h=>by
  unfold kN at h;split at h
  ·rename_i f g;cases h;exact⟨_,_,rfl,c _ _ f,kM c g⟩
  ·cases h
def OC(ρ:List Value)(ck:List (Nat×CT))(b:Nat):Prop:=∃ x∈ck,fk ρ x.1 b
theorem wB{Y:Nat->Prop}(i:Wd B ρ X ck w)(p:∀ b,Y b->X b)(q:∀ x∈ck,∀ b,fk ρ x.1 b->¬Y b):∀{l:List PK}{xs:List AV}{d:jf (oO l)}{vs:List Value}{k r:Nat},zD ck l xs=some d->mL ρ X w xs vs ->
    m [] Y w (jr l d k r) vs/\np l=0/\uy l=0/\oF l d k r=[]
 | [],[],d,vs,k,r,h,g=>⟨g,rfl,rfl,rfl⟩
 | .d t::l,x::xs,d,vs,k,r,h,g=>by
  obtain⟨v,s,rfl,y,z⟩:=g;simp only[zD]at h;split at h
  ·rename_i A;split at h
   ·rename_i C;cases h;obtain⟨D,F,G,I⟩:=wB (k:=k) (r:=r) i p q C z;obtain⟨L,M,N⟩:=o8 (ρ:=ρ) i p q A y;exact⟨⟨v,s,rfl,⟨L,M,N⟩,D⟩,F,G,I⟩
   ·cases h
  ·cases h
 | .k f::l,x::xs,d,vs,k,r,h,g=>by
  obtain⟨v,s,rfl,y,z⟩:=g;simp only[zD]at h;split at h
  ·split at h
   ·rename_i J;have J:=QR J;subst J;obtain⟨D,F,G,I⟩:=wB (k:=k) (r:=r) i p q h z;obtain⟨K,A,C⟩:=y;exact⟨⟨v,s,rfl,⟨K,A,C⟩,D⟩,F,G,I⟩
   ·cases h
  ·cases h
 | [],_::_,d,vs,k,r,h,g=>by simp[zD]at h
 | .d _::_,[],d,vs,k,r,h,g=>by simp[zD]at h
 | .k _::_,[],d,vs,k,r,h,g=>by simp[zD]at h
 | .b _ _::_,_,d,vs,k,r,h,g=>by simp[zD]at h
 | .br _ _ _::_,_,d,vs,k,r,h,g=>by simp[zD]at h
 | .bf _ _::_,_,d,vs,k,r,h,g=>by simp[zD]at h
 | .c _ _ _::_,_,d,vs,k,r,h,g=>by simp[zD]at h
 | .r _ _::_,_,d,vs,k,r,h,g=>by simp[zD]at h
 | .n::_,_,d,vs,k,r,h,g=>by simp[zD]at h
theorem vF{P:Program}{f:FuncId}{s:iP}{d:jf (oO s.ko)}{vs:List Value}{w:World}{X:Nat->Prop}(G:CG P f s d)(I:∀ b,X b->b<w.heap.size)(h1:np s.ko=0)(h2:uy s.ko=0)(C:o7 s.ko d 0=[])(J:m [] X w (tm s.ko d 0) vs)(K:(s.F d).ck=[])(L:(s.F d).nx=0)(ρ:List Value) :
    Calls P f vs.toArray w (fun e w'=>∃ v,e=.returned v/\m ρ X w' (s.F d).out [v]/\Below w.heap.size w w'):=by
 have q:x_ s.ko=0:=by unfold x_; rw[h1,h2]; rfl
 have y:∀ b,XX X [] [] b->X b:=by
  rintro b (h|⟨x,c,_⟩)
  ·exact h
  ·cases c
 refine(G.2 [] X w vs I ?_ ?_).mono fun e w' ⟨v,z,M,p,D⟩=>⟨v,M,?_,?_⟩
 ·rw[C,q];refine⟨rfl,rfl,Kept.refl w,rfl,TS,(fun x c=>by cases c),(fun x c=>by cases c),(fun x c=>by cases c),(fun x c=>by cases c),(fun t x c=>by cases c),⟨fun b g=>?_,Qu _,(fun x c=>by cases c)⟩⟩;obtain⟨i,hi⟩:=g;exact(kV (QE _) hi).elim
 ·rw[C];exact fN (fun b g=>.inl (y b g)) J
 ·rw[K]at p D;rw[L]at p;have N:z=[]:=SH.1 p.nx;subst N;have:=iI ρ D;exact fN (fun b g=>.inl (.inl g)) this
 ·have hk:=p.kp;refine⟨hk.os,hk.tape,hk.output,hk.size,fun k A=>hk.block k A fun g=>?_⟩;obtain⟨i,hi⟩:=g;exact kV (QE _) hi
theorem zB(K:E.Ok)(i:Wd B ρ X ck w){f:FuncId}{as:List AV}{vs:List Value}(h:yB E ck f as=some (r,ps))(G:eP ps)(I:mL ρ X w as vs) :
    (∀ args w,(callFunc f args).run E.P w=.ok (.enter f args) w)/\Calls E.P f vs.toArray w (fun e w'=>∃ v,e=.returned v/\m ρ X w' r [v]/\Below w.heap.size w w'):=by
 have J:∀{l:List (Nat×CT)},M8 l=true->l=[]:=by
  intro l h;cases l with
  | nil=>rfl
  | cons _ _=>cases h
 unfold yB at h;split at h
 ·rename_i s L;have c:=K.ms _ (b7 L);split at h
  ·rename_i d p;split at h
   ·rename_i q t;cases h;have g:=c d G;obtain⟨y,z,A,C⟩:=wB (k:=0) (r:=rh 0 (np s.ko)) i.none (fun b h=>h) (fun x D=>by cases D) p I;exact⟨g.1,vF g i.lt z A C y (J q) (QR t) ρ⟩
   ·cases h
  ·split at h
   ·rename_i d p;split at h
    ·rename_i q t M;cases h;have g:=c d G;obtain⟨y,z,A,C⟩:=wB (Y:=fun b=>X b/\¬OC ρ ck b) (k:=0) (r:=rh 0 (np s.ko)) i (fun b h=>h.1) (fun x D b F N=>N.2 ⟨x,D,F⟩) p I;exact⟨g.1,(vF g (fun b F=>i.lt b F.1) z A C y (J q) (QR t) ρ).mono fun e w' ⟨v,O,Q,U⟩=>⟨v,O,tF M Q,U⟩⟩
    ·cases h
   ·cases h
 ·cases h
theorem rC(a:Act)(dst:Option Tmp)(f:FuncId)(t:Nat)(us:Array Value)(xs:Array Operand)(ats:Array TypeId)(ty:TypeId)(pos:String)(after:Array Edge)(guard:Option (Nat×Bool))(h:a.eval (.tmp t)=.func (.func f) #[] us) :
    execOp a.eval { dst,op:=.call { callee:=.value (.tmp t),args:=xs,argTypes:=ats },type:=ty,pos,after,guard }=callFunc f ((#[]++xs.map a.eval)++us):=by
 simp only[execOp,resolve,h];rfl
theorem Kq(V:E.Ok)(L:Wd B ρ X ck w)(J:∀ x y,look x=some y->m ρ X w y [a.eval x]){c:Call}(h:yq E look ck c=some (r,ps))(W:eP ps) :
    fD E.P a.eval ⟨d,.call c,ty,pos,af,g⟩ w (fun v w'=>m ρ X w' r [v]/\Below w.heap.size w w'):=by
 obtain⟨callee,args,Z⟩:=c;unfold yq at h;split at h
 ·rename_i f A;cases A;split at h
  ·rename_i s hs;have Q:=V.sp _ (b7 hs);split at h
   ·rename_i as F;have C:=kM J F;have D:args.map a.eval=(args.toList.map a.eval).toArray:=by rw[<-Rx,TU]
    split at h
    ·rename_i d' hd;simp only[Q7]at h;obtain⟨M,i⟩:=Q d' (by rw[h]; exact W);unfold fD;rw[UE,M];rw[D];have N:=ru L.none (fun b h=>h) (fun x hx=>by cases hx) hd C;have:=i ρ X w _ L.lt N;rw[h]at this;simpa using this.mono fun e w' ⟨v,G,I,O⟩=>⟨v,G,I,O⟩
    ·split at h
     ·rename_i d' hd;split at h
      ·rename_i U;simp only[Q7]at h;obtain⟨M,i⟩:=Q d' (by rw[h]; exact W);unfold fD;rw[UE,M];rw[D];have N:=ru (Y:=fun b=>X b/\¬OC ρ ck b) L (fun b h=>h.1) (fun x hx b hb hn=>hn.2 ⟨x,hx,hb⟩) hd C;have:=i ρ _ w _ (fun b hb=>L.lt b hb.1) N;rw[h]at this U;simpa using this.mono fun e w' ⟨v,G,I,O⟩=>⟨v,G,tF U I,O⟩
      ·cases h
     ·cases h
   ·cases h
  ·split at h
   ·rename_i as F;have C:=kM J F;have D:args.map a.eval=(args.toList.map a.eval).toArray:=by rw[<-Rx,TU]
    obtain⟨M,i⟩:=zB V L h W C;unfold fD;rw[UE,M,D];simpa using i.mono fun e w' ⟨v,G,I,O⟩=>⟨v,G,I,O⟩
   ·cases h
 ·rename_i t A;cases A;split at h
  ·rename_i f l aa;split at h
   ·rename_i ab;split at h
    ·rename_i as F;have C:=kM J F;have D:args.map a.eval=(args.toList.map a.eval).toArray:=by rw[<-Rx,TU]
     obtain⟨us,hv,N⟩:=J (.tmp t) _ aa;have hv:=(QB hv).1;obtain⟨M,i⟩:=zB V L h W (Aj C (AY ab N));unfold fD;rw[rC (h:=hv),M,D];simpa using i.mono fun e w' ⟨v,G,I,O⟩=>⟨v,G,I,O⟩
    ·cases h
   ·cases h
  ·cases h
 ·rename_i A;cases A;split at h
  ·rename_i x T K e2;split at h
   ·rename_i y hy;obtain⟨z,hz,N⟩:=IQ (ty:=ty) V L h (J _ _ hy);have e3:args=#[x]:=by rw[<-Rx]; exact K
    have e4:Z=#[T]:=by rw[<-Rx]; exact e2
    subst e3 e4;refine eM (v:=z) (w':=w) ?_ ⟨N,QG _ _⟩;simp[execOp,resolve,invoke,builtin,hz]
   ·cases h
  ·cases h
 ·rename_i A;cases A;split at h
  ·rename_i x y K;split at h
   ·rename_i k p k' q G I;split at h
    ·rename_i hk;cases h;have hk:=Aw hk;subst hk;have K:args=#[x,y]:=by rw[<-Rx]; exact K
     subst K;obtain⟨q1,q2⟩:=fI (J _ _ G);obtain⟨q3,q4⟩:=fI (J _ _ I);refine eM (v:=.int k (if q>p then q else p)) (w':=w) ?_ ⟨eO ?_,QG _ _⟩
     ·simp[execOp,resolve,invoke,builtin,q1,q3,Builtin.max_,Builtin.max2]
     ·split<;>assumption
    ·cases h
   ·cases h
  ·cases h
 ·rename_i A;cases A;split at h
  ·rename_i x y K;split at h
   ·rename_i k p k' q G I;split at h
    ·rename_i hk;cases h;have hk:=Aw hk;subst hk;have K:args=#[x,y]:=by rw[<-Rx]; exact K
     subst K;obtain⟨q1,q2⟩:=fI (J _ _ G);obtain⟨q3,q4⟩:=fI (J _ _ I);refine eM (v:=.int k (if q<p then q else p)) (w':=w) ?_ ⟨eO ?_,QG _ _⟩
     ·simp[execOp,resolve,invoke,builtin,q1,q3,Builtin.min_,Builtin.min2]
     ·split<;>assumption
    ·cases h
   ·cases h
  ·cases h
 ·cases h
end
section
variable{E:Env}{B:Nat}{ρ:List Value}{X:Nat->Prop}{w:World}{ck:List (Nat×CT)}{look:Operand->Option AV}{a:Act}{r:AV}{ps:List Prop} {d:Option Nat}{ty:TypeId}{pos:String}{af:Array Edge}{g:Option (Nat×Bool)}{op:Op}{an:An}
theorem qw(off:Nat):∀(us:List Value) (j:Nat) (cells:Array Value),off+j+us.length<=cells.size ->
    ((us.zipIdx j).foldl (fun(cs:Array Value) (x:Value×Nat)=>cs.setIfInBounds (off+x.2) x.1) cells).toList=cells.toList.take (off+j)++us++cells.toList.drop (off+j+us.length)
 | [],j,cells,h=>by simp
 | u::us,j,cells,h=>by
  simp only[Rr]at h;rw[List.zipIdx_cons,UN,qw off us (j+1) _ (by simp; omega)];simp only[Array.toList_setIfInBounds,Rr];have c:off+j<cells.toList.length:=by simp; omega
  rw[List.take_set,VF (by omega),show off+(j+1)=off+j+1 by omega,TH c];rw[List.set_append,QC (by rw[QM]; omega)];simp only[QM,Rv (VQ c),Sz,VK,QP,Uk,RX];rw[show off+j+1+us.length=off+j+(us.length+1) by omega]
theorem xe:∀{t:Ty}{tl:AV}{us:List Value},m ρ X w tl us->m ρ X w (zA t tl) (zc t++us)
 | .bool,tl,us,h=>⟨_,_,rfl,rfl,h⟩
 | .int k,tl,us,h=>⟨_,_,rfl,eO (by cases k<;>simp[gG,lo,hi]),h⟩
 | .str,tl,us,h=>⟨_,_,rfl,pM (s:=[]) (by simp[maxLen]),h⟩
 | .slice _,tl,us,h=>⟨_,_,rfl,rfl,h⟩
 | .pair t u,tl,us,h=>by
  have:=xe (t:=t) (xe (t:=u) h);rwa [<-QP]at this
 | .one t,tl,us,h=>xe (t:=t) h
 | .fn,tl,us,h=>⟨_,_,rfl,⟨_,rfl,rfl⟩,h⟩
theorem mF:∀{t:Ty}{tl:AV},kl tl=true->kl (zA t tl)=true
 | .bool,_,h=>h
 | .int _,_,h=>h
 | .str,_,h=>h
 | .slice _,_,h=>h
 | .pair t u,_,h=>mF (t:=t) (mF (t:=u) h)
 | .one t,_,h=>mF (t:=t) h
 | .fn,_,h=>h
theorem gm:∀(t:Ty),∀ c∈zc t,c.oneCell'=true:=fun t=>gz (g_ (fun _=>False) default t)
theorem EF:∀{t:Ty}{a:t.den}{cs:List Value}{tl:AV}{us:List Value},rep t X w cs a->m ρ X w tl us->m ρ X w (dA t a tl) (cs++us)
 | .pair t u,p,cs,tl,us,h,c=>by
  have:=EF (t:=t) h.1 (EF (t:=u) h.2 c);rwa [<-QP,Q6]at this
 | .one t,p,cs,tl,us,h,c=>EF (t:=t) h c
 | .bool,b,cs,tl,us,h,c=>by
  have h:cs=[.bool b]:=h;subst h; exact⟨_,us,rfl,⟨_,rfl,rfl⟩,c⟩
 | .int k,n,cs,tl,us,h,c=>by
  obtain⟨rfl,f⟩:=h; exact⟨_,us,rfl,⟨_,⟨rfl,f⟩,rfl⟩,c⟩
 | .str,n,cs,tl,us,h,c=>by
  obtain⟨rfl,f⟩:=h; exact⟨_,us,rfl,⟨_,⟨rfl,f⟩,rfl⟩,c⟩
 | .slice t,l,cs,tl,us,h,c=>by
  obtain⟨a,cap,rfl,f⟩:=h; exact⟨_,us,rfl,⟨_,⟨a,cap,rfl,f⟩,rfl⟩,c⟩
 | .fn,b,cs,tl,us,h,c=>by
  have h:cs=[.nilFunc]:=h;subst h; exact⟨_,us,rfl,⟨_,rfl,rfl⟩,c⟩
theorem rq:∀{t:Ty}{a:t.den}{tl:AV},kl tl=true->kl (dA t a tl)=true
 | .pair t u,p,tl,h=>rq (t:=t) (rq (t:=u) h)
 | .one t,p,tl,h=>rq (t:=t) h
 | .fn,_,_,h=>h
 | .bool,_,_,h=>h
 | .int _,_,_,h=>h
 | .str,_,_,h=>h
 | .slice _,_,_,h=>h
theorem rj{u:Ty}{x tl cs:AV}{v:Value}{us:List Value}(h:o_ u x tl=some cs)(q:kl tl=true)(g:m ρ X w x [v])(z:m ρ X w tl us) :
    m ρ X w cs (v.cells.toList++us)/\v.cells.size=u.size/\kl cs=true/\(∀ c∈v.cells.toList,c.oneCell'=true)/\v=u.wrap v.cells.toList:=by
 have single:∀{y:AV},u.isAgg=false->v.oneCell'=true->m ρ X w y [v]->m ρ X w (.cons y tl) (v.cells.toList++us)/\v.cells.size=u.size/\kl (.cons y tl)=true/\(∀ c∈v.cells.toList,c.oneCell'=true)/\v=u.wrap v.cells.toList:=by
  intro y f i G;have e:v.cells=#[v]:=by cases v<;>simp_all [Value.oneCell',Value.cells]
  rw[e,tO f];exact⟨⟨v,us,rfl,G,z⟩,rfl,q,fun c D=>by simp at D; rw[D]; exact i,by simp[Ty.wrap,f]⟩
 unfold o_ at h;split at h
 ·rename_i f;split at h
  ·split at h
   ·rename_i b e;cases h;obtain⟨cs,i,p⟩:=fp e (fun t a=>m ρ X w (.a_ t a) [v]) g;have p:=(QB p).1;have s:v.cells=cs.toArray:=by rw[p]; simp[Ty.wrap,f,Value.cells]
    rw[s];exact⟨EF i z,by simpa using eR i,rq q,gz i,by rw[p]⟩
   ·cases h
  ·split at h
   ·rename_i I;split at h
    ·rename_i s;cases h;obtain⟨cs,i,p,J⟩:=g;have i:=(QB i).1;subst i;have K:=vT s p;have:=QR I;refine⟨CW s p z,by simp[Value.cells]; omega,sr s q,J,by simp[Ty.wrap,f,Value.cells]⟩
    ·cases h
   ·cases h
  ·cases h
 ·rename_i f;have f:u.isAgg=false:=by simpa using f
  split at h
  ·split at h
   ·rename_i b e;cases h;have F:=fp e (fun t a=>m ρ X w (.a_ t a) [v]) g;exact single f (gz (gA f F) v (by simp)) F
   ·cases h
  ·cases h;have:[v]=[.bool _]:=g;have i:v.oneCell'=true:=by rw[(QB this).1]; rfl
   exact single f i g
  ·cases h;have:[v]=[.slice _ _ _]:=g;exact single f (by rw[(QB this).1]; rfl) g
  ·cases h;have:[v]=[.pointer _]:=g;exact single f (by rw[(QB this).1]; rfl) g
  ·cases h;have:[v]=[.map _]:=g;exact single f (by rw[(QB this).1]; rfl) g
  ·cases h;obtain⟨A,_,i,p⟩:=id g;exact single f (by rw[(QB p).1]; exact i) g
  ·cases h;obtain⟨A,b,_,_,p⟩:=id g;exact single f (by rw[(QB p).1]; rfl) g
  ·cases h;obtain⟨C,i,_⟩:=id g;exact single f (by rw[(QB i).1]; rfl) g
  ·cases h;obtain⟨A,_,i,p⟩:=id g;exact single f (by rw[(QB p).1]; exact zI i) g
  ·cases h;obtain⟨C,A,_,_,i,p⟩:=id g;exact single f (by rw[(QB p).1]; exact i) g
  ·cases h
theorem yZ{l cs:AV}{off n:Nat}{vs us:List Value}(c:kl l=true)(f:kl cs=true)(g:off+n<=oz l)(i:us.length=n)(h:m ρ X w l vs)(p:m ρ X w cs us) :
    m ρ X w (mE l off n cs) (vs.take off++us++vs.drop (off+n))/\kl (mE l off n cs)=true:=by
 unfold mE;rw[QP];exact⟨CW tp (AW c (by omega) h) (CW f p (xS c g h)),sr tp (sr f (qg c))⟩
theorem kH(K:∀ x y,look x=some y->m ρ X w y [a.eval x]){pl:Nat->Option (Nat×Ty)}{place:Nat->Option (Nat×Nat)}(v:∀ i o u,pl i=some (o,u)->place i=some (o,u.size)) :
    ∀{ps:List (Nat×Operand)}{p r:AV}{cells:Array Value},jd look pl ps p=some r->kl p=true->m ρ X w p cells.toList->(∀ c∈cells.toList,c.oneCell'=true) ->
     ∃ g,Instr.fill place cells (ps.map fun x=>(x.1,a.eval x.2))=some g/\m ρ X w r g.toList/\kl r=true/\g.size=cells.size/\∀ c∈g.toList,c.oneCell'=true
 | [],p,r,cells,h,D,F,G=>by cases h; exact⟨cells,rfl,F,D,rfl,G⟩
 | (f,x)::ps,p,r,cells,h,D,F,G=>by
  simp only[jd]at h;split at h
  ·rename_i o u N;split at h
   ·rename_i y O;split at h
    ·rename_i t Q;split at h
     ·rename_i z;have z:=QS z;obtain⟨L,J,U,V,_⟩:=rj Q rfl (K _ _ O) (show m ρ X w .nil []from rfl);rw[Q9]at L;have A:=vT D F;have W:o+u.size<=cells.size:=by rw[<-A]at z; simpa using z
      obtain⟨M,Z⟩:=yZ (n:=u.size) D U z (by simpa using J) F L;have I:=qw o (a.eval x).cells.toList 0 cells (by simp; omega);have C:(a.eval x).cells.toList.length=u.size:=by simpa using J
      rw[Se,C]at I;have s:((a.eval x).cells.zipIdx.foldl (fun t (x:Value×Nat)=>t.setIfInBounds (o+x.2) x.1) cells)=(((a.eval x).cells.toList.zipIdx 0).foldl (fun(t:Array Value) (x:Value×Nat)=>t.setIfInBounds (o+x.2) x.1) cells):=by
       rw[<-Array.foldl_toList,Array.toList_zipIdx]
      have s3:∀ c∈(((a.eval x).cells.toList.zipIdx 0).foldl (fun(t:Array Value) (x:Value×Nat)=>t.setIfInBounds (o+x.2) x.1) cells).toList,c.oneCell'=true:=by
       rw[I];intro c q;rcases QZ.1 q with q|q
       ·rcases QZ.1 q with q|q
        ·exact G c (RB q)
        ·exact V c q
       ·exact G c (Rh q)
      rw[<-I]at M;obtain⟨g,t1,t2,t3,t4,t5⟩:=kH K v h Z M s3;refine⟨g,?_,t2,t3,?_,t5⟩
      ·simp only[S0,Instr.fill,v _ _ _ N,J];rw[QC (by simp; omega),s];exact t1
      ·rw[t4,<-RC,I];simp[C]; omega
     ·cases h
    ·cases h
   ·cases h
  ·cases h
theorem P7{T:TypeId}{e:TE}(z:b_ E.P T e):∃ fs:Array Field,(0<e.nf->E.P.underlying T=some (.struct fs))/\∀ i o u,plF e i=some (o,u)->∃ F c,fs[i]?=some F/\F.offset=o/\E.P.info? F.type=some c/\c.size=u.size:=by
 rcases Sc e.nf with x|x
 ·refine⟨#[],fun h=>by omega,fun i o u h=>?_⟩;unfold plF at h;split at h
  ·rename_i q;have:=QS q;omega
  ·cases h
 ·have key:∀ i,i<e.nf->∃ o u g fs F c,sn e.ty e.nf i=some (o,⟨u,g⟩)/\E.P.underlying T=some (.struct fs)/\fs[i]?=some F/\F.offset=o/\E.P.info? F.type=some c/\c.size=u.size:=by
    intro i hi;have h:=Rs.1 z.f i (Rn.2 hi);unfold sF at h;split at h
    ·rename_i o u g fs s m;split at h
     ·rename_i F t;simp only[QK,SQ]at h;obtain⟨A,p⟩:=h;split at p
      ·rename_i c v;simp only[QK,SQ]at p;exact⟨o,u,g,fs,F,c,s,m,t,A,v,p.2⟩
      ·cases p
     ·cases h
    ·cases h
  obtain⟨_,_,_,fs,_,_,_,y,_⟩:=key 0 x;refine⟨fs,fun _=>y,fun i o u h=>?_⟩;unfold plF at h;split at h
  ·rename_i q;obtain⟨I,J,K,C,F,c,s,m,t,v,D,G⟩:=key i (QS q);rw[s]at h;cases h;rw[y]at m;cases m;exact⟨F,c,t,v,D,G⟩
  ·cases h
end
theorem iv(z:List Value)(s:Nat)(c:z.length=s):∀ n,(madeCells z.toArray (n*s)).toList=(List.replicate n z).flatten:=by
 have key:∀ n,(List.range (n*s)).map (fun k=>z.toArray[k % z.toArray.size]!)=(List.replicate n z).flatten:=by
  intro n
  induction n with
  | zero=>simp
  | succ n f =>
   rw[show(n+1)*s=s+n*s by rw[RI,VS],List.range_add,SG,Vs,SE,TJ,<-f]
   congr 1
   ·refine Um (by simp[c]) fun i g m=>?_;have hi:i<s:=by simpa using g
    have h:i<z.length:=by omega
    simp only[Xc,W5,RQ,c,Nat.mod_eq_of_lt hi];simp[h]
   ·apply W1;intro k hk;simp[c]
 intro n;unfold madeCells;rw[TU,Array.toList_range];exact key n
theorem oh{z:List Value}{s:Nat}(c:z.length=s):∀{n i:Nat},i<n->((List.replicate n z).flatten.drop (i*s)).take s=z
 | n+1,0,_=>by
  rw[SE,TJ,Nat.zero_mul,RP,Th (by omega),QQ (by omega)]
 | n+1,i+1,h=>by
  rw[SE,TJ,RI,VS,<-RT,UO c];exact oh c (by omega)
theorem qc{u:Ty}:∀{n:Nat},kl (IU u n)=true
 | 0=>rfl
 | n+1=>mF qc
section
variable{E:Env}{B:Nat}{ρ:List Value}{a:Act}{w:World}{d:Option Nat}{ck:List (Nat×CT)}{r:AV}{ps:List Prop} {ty:TypeId}{pos:String}{af:Array Edge}{X:Nat->Prop}{g:Option (Nat×Bool)}{look:Operand->Option AV}
theorem yy{u:Ty}:∀{n:Nat},m ρ X w (IU u n) ((List.replicate n (zc u)).flatten)
 | 0=>rfl
 | n+1=>by rw[SE,TJ]; exact xe yy
theorem qd{B:Nat}{ck:List (Nat×CT)}(f:Wd B ρ X ck w){u:Ty}:∀{n:Nat}{A:AV}{l:List u.den}{cs:List Value},oP u n A=some l->m ρ X w A cs ->
    l.length=n/\∀(i:Nat) (x:u.den),l[i]?=some x->rep u X w ((cs.drop (i*u.size)).take u.size) x
 | 0,A,l,cs,h,g=>by cases h; exact⟨rfl,fun i x h=>by simp at h⟩
 | n+1,A,l,cs,h,g=>by
  unfold oP at h;split at h
  ·rename_i p;split at h
   ·rename_i q;cases h;obtain⟨s,t⟩:=l9 f.none (fun b h=>h) (fun x c=>by cases c) p g;obtain⟨v,y⟩:=qd f q t;refine⟨by simp[v],fun i x c=>?_⟩;cases i with
    | zero=>simp at c; subst c; simpa using s
    | succ i =>
     have:=y i x (by simpa using c)
     rw[RT]at this
     rwa [RI,VS (i*u.size)]
   ·cases h
  ·cases h
theorem vh{z:List Value}{s:Nat}(f:z.length=s):∀{l c:Nat},l<=c->((List.replicate c z).flatten).take (l*s)=(List.replicate l z).flatten
 | 0,c,_=>by simp
 | l+1,0,h=>by omega
 | l+1,c+1,h=>by
  rw[SE,TJ,SE,TJ,RI,VS,V6,QQ (by omega),f,Tk,vh f (by omega)]
theorem qp{P:Program}{T f:TypeId}{i:TypeInfo}{u:Ty}(g:P.underlying T=some (.slice f))(hi:P.info? f=some i)(v:i.zero=some (u.wrap (zc u)))(x:i.size=u.size){p q:Int}(h0:0<=p)(h:p<=q)(y:(i.bytes:Int)*q<=281474976710656)(m:q<=9223372036854775807) :
    ∃ w',(Instr.makeSlice T (.int .i64 p) (.int .i64 q)).run P w=.ok (.slice (some ⟨w.heap.size,0,none⟩) p.toNat q.toNat) w'/\w'.ownsRow w.heap.size f u.size (.slice (some ⟨w.heap.size,0,none⟩) p.toNat q.toNat) p.toNat ((List.replicate p.toNat (zc u)).flatten)/\Below w.heap.size w w':=by
 have s:(u.wrap (zc u)).cells=(zc u).toArray:=fu (fw _) (gm _);have t:=run_make (P:=P) w T f i _ g hi v .i64 .i64 p q h0 h y m;rw[s,x]at t;have c:((List.replicate p.toNat (zc u)).flatten).length=p.toNat*u.size:=by
  rw[List.length_flatten,List.map_replicate,List.sum_replicate_nat,fw]
 refine⟨_,t,⟨c,.inr ⟨w.heap.size,q.toNat,_,rfl,Qu _,S_ w _,by omega,by simp only[maxLen]; omega,?_,?_⟩⟩,(QG _ _).alloc (Qu _) _⟩
 ·rw[U']
 ·rw[iv _ _ (fw u)];exact vh (fw u) (by omega)
theorem mz{B:Nat}{T:TypeId}{t:Ty}{v:Value}{l:List t.den}{xs:List Value}(f:w.ownsRow B T t.size v l.length xs)(h1:∀ c∈xs,c.oneCell'=true)(p:∀ b,fa v=some b->¬X b)
    (q:∀ i x,l[i]?=some x->rep t X w ((xs.drop (i*t.size)).take t.size) x):m ρ X w (.a_ (.slice t) l) [v] :=
 sx (ρ:=[v]) (c:=0) (B:=B) (T:=T) ⟨v,xs,rfl,f,h1,q⟩ (fun b h=>h) (fun b g=>p b (by obtain⟨_,⟨e,_⟩|⟨_,_,_,e,_⟩⟩:=f<;>(rw[e]at g; rw[e]; exact g))) rfl
theorem ob{B:Nat}{T:TypeId}{size n:Nat}{w':World}{v:Value}{xs:List Value}(h:w'.ownsRow B T size v n xs):∀ b,fa v=some b->B<=b:=by
 intro b c;rcases h.2 with⟨rfl,_⟩|⟨g,cap,f,rfl,i,_⟩
 ·cases c
 ·cases c; exact i
theorem Jz(L:E.Ok)(U:Wd B ρ X ck w){T:TypeId}{x y:AV}{o1 o2:Operand}(f:m ρ X w x [a.eval o1])(V:m ρ X w y [a.eval o2])(h:Dr E T x y=some (r,ps))(W:eP ps) :
    fD E.P a.eval ⟨d,.makeSlice T o1 o2,ty,pos,af,g⟩ w (fun v w'=>m ρ X w' r [v]/\Below w.heap.size w w'):=by
 unfold Dr at h;split at h
 ·rename_i p q;obtain⟨Z,aa⟩:=fI f;obtain⟨ey,D⟩:=fI V;split at h
  ·rename_i u hu;obtain⟨e,e',M,h2,N,h4⟩:=fF hu;simp only[M,N]at h;cases h;obtain⟨⟨F,G,ab⟩,_⟩:=W;obtain⟨i,hi,A,O,I⟩:=(L.fact N).info;rw[h4]at A O;have Q:=D.2;simp only[Gx.hi]at Q;obtain⟨w',hr,ho,s⟩:=qp (P:=E.P) (w:=w) (eU L M h2) hi A O F G (by rw[I]; omega) Q;have J:(execOp a.eval ⟨d,.makeSlice T o1 o2,ty,pos,af,g⟩).run E.P w=.ok (.value (.slice (some ⟨w.heap.size,0,none⟩) p.toNat q.toNat)) w':=by
    simp only[execOp,Rf,Z,ey,hr]; rfl
   refine eM J ⟨mz (T:=e.elem) (t:=u) (l:=List.replicate p.toNat (zd u)) (xs:=(List.replicate p.toNat (zc u)).flatten) (by simpa using ho) (fun c C=>?_) (fun b s f=>?_) (fun i x f=>?_),s⟩
   ·obtain⟨z,A,C⟩:=TV.1 C;rw[RW A]at C;exact gm u c C
   ·have h7:=U.lt b f;have s:some w.heap.size=some b:=s;have:=Rk s;omega
   ·rw[TW]at f;split at f
    ·rename_i K;cases f;rw[oh (fw u) K];exact g_ _ w' u
    ·cases f
  ·cases h
 ·cases h
theorem KX(hE:E.Ok)(hw:Wd B ρ X ck w)(hl:∀ x y,look x=some y->m ρ X w y [a.eval x]){T:TypeId}{n:Nat}{parts:Array (Nat×Operand)}(p:Ht E look T n parts.toList=some (r,ps)) :
    fD E.P a.eval ⟨d,.buildSlice T n parts,ty,pos,af,g⟩ w (fun v w'=>m ρ X w' r [v]/\Below w.heap.size w w'):=by
 have A:∀ b,w.heap.size=b->¬X b:=fun b L F=>by have:=hw.lt b F; omega
 unfold Ht at p;split at p
 ·rename_i u hu;obtain⟨e,O,h1,h2,h3,h4⟩:=fF hu;simp only[h1]at p;obtain⟨i,hi,M,N,aa⟩:=(hE.fact h3).info;have G:(O.ty.wrap (zc O.ty)).cells=(zc O.ty).toArray:=fu (fw _) (gm _);have s:0<u.size:=by
   have:∀ t:Ty,0<t.size:=by
    intro t
    induction t with
    | pair t u ab ac=>simp only[Ty.size]; omega
    | one t ih=>exact ih
    | _=>simp[Ty.size]
   exact this u
  have I:=eU hE h1 h2;rw[h4]at N G M;split at p
  ·rename_i Q D;have Q:=QS Q;have D:=QS D;split at p
   ·rename_i cs e1;split at p
    ·rename_i l e2;cases p;obtain⟨f,q1,q2,q3,q4,q5⟩:=kH (a:=a) (ρ:=ρ) (X:=X) (w:=w) (place:=fun i=>some (i*u.size,u.size)) (cells:=madeCells (zc u).toArray (n*u.size)) hl (fun i o v J=>by unfold FO at J; cases J; rfl) e1 qc (by rw[iv _ _ (fw u)]; exact yy) (fun c C=>by
         rw[iv _ _ (fw u)]at C;obtain⟨z,M,C⟩:=TV.1 C;rw[RW M]at C;exact gm u c C)
     obtain⟨r1,r2⟩:=qd hw e2 q2;have K:=UF (P:=E.P) w T e.elem n (parts.map fun(i,x)=>(i,a.eval x)) f i _ I hi M (by rw[N]; omega) (by rw[N]; have:=WT D s; omega)
      (by rw[N,G]; rw[<-q1]; simp[madeCells])
     have U:=To (e:=e.elem) (base:=w.heap.size) w f n (Qu _) (by
      have:n<=n*u.size:=Vh n s;simp only[maxLen]; omega) (by rw[q4,U'])
     have q:Below w.heap.size w (w.alloc (.cells f e.elem)):=(QG _ _).alloc (Qu _) _;refine eM (v:=.slice (some ⟨w.heap.size,0,none⟩) n n) (w':=w.alloc (.cells f e.elem)) ?_ ⟨mz (T:=e.elem) (t:=u) (l:=l) (by rw[r1]; exact U) q5 (fun b L=>A b (by cases L; rfl)) (fun i x F=>fx (r2 i x F) (Ev.c8 q)),q⟩;simp only[execOp,Rf,K]; rfl
    ·cases p
   ·cases p
  ·rename_i Q D;have hn:n=0:=by
    rcases Sc n with h|h
    ·exact h
    ·have:Nat.ble 1 n=true:=SD h;rw[this]at D; cases D
   subst hn;split at p
   ·rename_i V;cases p;have W:parts=#[]:=by rw[<-Rx]; exact V
    subst W;have U:=To (e:=e.elem) (size:=u.size) (base:=w.heap.size) w #[] 0 (Qu _) (by simp[maxLen]) (by simp);have q:Below w.heap.size w (w.alloc (.cells #[] e.elem)):=(QG _ _).alloc (Qu _) _;refine eM (v:=.slice (some ⟨w.heap.size,0,none⟩) 0 0) (w':=w.alloc (.cells #[] e.elem)) ?_ ⟨mz (T:=e.elem) (t:=u) (l:=[]) U (fun c C=>by cases C) (fun b L=>A b (by cases L; rfl)) (fun i x F=>by simp at F),q⟩;have Z:Array.map (fun(_:Nat)=>(default:Value)) (Array.range 0)=#[]:=by apply Vf<;>simp
    simp[execOp,Instr.buildSlice,Rb I,sizeOf,typeInfo,hi,Instr.fill,newRow,Z]
   ·cases p
  ·cases p
 ·cases p
end
section
variable{E:Env}{B:Nat}{ρ:List Value}{X:Nat->Prop}{w:World}{ck:List (Nat×CT)}{look:Operand->Option AV}{a:Act}{r:AV}{ps:List Prop} {d:Option Nat}{ty:TypeId}{pos:String}{af:Array Edge}{g:Option (Nat×Bool)}{op:Op}{an:An}
theorem MD{u:Ty}{l:AV}{cs:List Value}(p:Wd B ρ X ck w)(f:u.isAgg=true)(g:m ρ X w l cs)(i:cs.length=u.size)(h1:∀ c∈cs,c.oneCell'=true):m ρ X w (Nx ck u l) [.agg cs.toArray]:=by
 unfold Nx;split
 ·rename_i a k e;have:=(l9 p.none (fun b h=>h) (fun x q=>by cases q) e g).1;rw[QQ (by omega)]at this;exact⟨cs,this,by simp[Ty.wrap,f]⟩
 ·exact⟨cs,rfl,g,h1⟩
theorem BT{u:Ty}{l:AV}{cs:List Value}(i:Wd B ρ X ck w)(g:u.isAgg=true)(h:m ρ X w l cs)(f:cs.length=u.size)(h1:∀ c∈cs,c.oneCell'=true):m ρ X w (A1 an ck u l) [.agg cs.toArray]:=by
 unfold A1;split
 ·exact⟨cs,rfl,h,h1⟩
 ·exact MD i g h f h1
theorem FY(J:E.Ok)(K:Wd B ρ X ck w)(L:∀ x y,look x=some y->m ρ X w y [a.eval x]){T:TypeId}{e:TE}(M:E.te T=some e)(p:e.ty.isAgg=true){parts:Array (Nat×Operand)}{l:AV}(N:0<e.nf)
    (h:jd look (plF e) parts.toList (zA e.ty .nil)=some l):∃ z,(Instr.build T (parts.map fun(i,x)=>(i,a.eval x))).run E.P w=.ok z w/\m ρ X w (A1 an ck e.ty l) [z]:=by
 have q:=J.fact M;obtain⟨fs,s,v⟩:=P7 (E:=E) q;have G:=s N;obtain⟨it,hi,O,hs,_⟩:=q.info;have g:=q.m;unfold Du at g;rw[G]at g;obtain⟨f,I⟩:=Wx.1 g;have A:(e.ty.wrap (zc e.ty)).cells=(zc e.ty).toArray:=fu (fw _) (gm _);have C:m ρ X w (zA e.ty .nil) (zc e.ty):=by have:=xe (ρ:=ρ) (X:=X) (w:=w) (t:=e.ty) (show m ρ X w .nil []from rfl); rwa [Q9]at this
 obtain⟨c,Q,U,q3,V,W⟩:=kH L (place:=(f.toArray[·]?)) (cells:=(zc e.ty).toArray) (fun i o u D=>by
  obtain⟨F,Z,g1,g2,g3,g4⟩:=v i o u D;have:=mapM_some_get I i F (by simpa using g1);rw[g3]at this;simp only[Sp]at this;rw[g2,g4]at this;simpa using this.symm) h (mF rfl) (by simpa using C) (by simpa using gm e.ty)
 refine⟨.agg c,run_build w T _ c ?_,?_⟩
 ·unfold Program.built;rw[hi,G];simp only[O,I,A];rw[<-Q];simp
 ·have:=BT (an:=an) (cs:=c.toList) K p U (by simp[V,fw]) W;simpa using this
theorem Ep(C:E.Ok)(D:Wd B ρ X ck w)(F:∀ x y,look x=some y->m ρ X w y [a.eval x]){T:TypeId}{e:TE}(G:E.te T=some e)(p:e.ty.isAgg=true){parts:Array (Nat×Operand)}{l:AV}(I:e.ty=LL)(J:LS E.P T)
    (h:jd look plA parts.toList (zA e.ty .nil)=some l):∃ z,(Instr.build T (parts.map fun(i,x)=>(i,a.eval x))).run E.P w=.ok z w/\m ρ X w (A1 an ck e.ty l) [z]:=by
 have K:=C.fact G;obtain⟨V,g,L,_,q,s,_⟩:=J;obtain⟨W,hi,M,Z,_⟩:=K.info;have v:(e.ty.wrap (zc e.ty)).cells=(zc e.ty).toArray:=fu (fw _) (gm _);have A:m ρ X w (zA e.ty .nil) (zc e.ty):=by have:=xe (ρ:=ρ) (X:=X) (w:=w) (t:=e.ty) (show m ρ X w .nil []from rfl); rwa [Q9]at this
 obtain⟨c,N,O,q3,Q,U⟩:=kH F (place:=fun i=>some (i*g.size,g.size)) (cells:=(zc e.ty).toArray) (fun i o u f=>by
  unfold plA at f;split at f
  ·cases f;simp[s,Ty.size]
  ·cases f) h (mF rfl) (by simpa using A) (by simpa using gm e.ty)
 refine⟨.agg c,run_build w T _ c ?_,?_⟩
 ·unfold Program.built;rw[hi,L];simp only[M,q,v];rw[<-N];simp
 ·have:=BT (an:=an) (cs:=c.toList) D p O (by simp[Q,fw]) U;simpa using this
theorem Qe(t:E.Ok)(D:Wd B ρ X ck w)(p:∀ x y,look x=some y->m ρ X w y [a.eval x])(h:pop E look ck op an=some (r,ps))(A:eP ps) :
    fD E.P a.eval ⟨d,op,ty,pos,af,g⟩ w (fun v w'=>m ρ X w' r [v]/\Below w.heap.size w w'):=by
 unfold pop at h;split at h
 ·split at h
  ·rename_i e; cases h;exact eM (v:=a.eval _) (w':=w) rfl ⟨p _ _ e,QG _ _⟩
  ·cases h
 ·split at h
  ·rename_i e; cases h;exact eM (v:=a.eval _) (w':=w) rfl ⟨p _ _ e,QG _ _⟩
  ·cases h
 ·split at h
  ·rename_i e;cases h;have L:=p _ _ e;obtain⟨v0,W,Z,M,F⟩:=id L;have F:=(QB F).1;refine eM (v:=a.eval _) (w':=w) ?_ ⟨L,QG _ _⟩;simp only[execOp,F];rfl
  ·cases h
 ·split at h
  ·rename_i e;split at h
   ·rename_i N;cases h;obtain⟨us,F,c⟩:=p _ _ e;obtain⟨v,O,J⟩:=Im N c;have K:=(QB F).1;refine eM (v:=v) (w':=w) ?_ ⟨J,QG _ _⟩;simp[execOp,K,Instr.extract,O]
   ·cases h
  ·cases h
 ·split at h
  ·rename_i i s;obtain⟨z,q,c⟩:=K5 t h A (p _ _ i) (p _ _ s) _ _;refine eM (v:=z) (w':=w) ?_ ⟨c,QG _ _⟩;simp only[execOp,Rf]at q ⊢;rw[q]; rfl
  ·cases h
 ·split at h
  ·rename_i i;obtain⟨z,q,c⟩:=aaA (E:=E) h A (p _ _ i);refine eM (v:=z) (w':=w) ?_ ⟨c,QG _ _⟩;simp only[execOp,Rf,q]; rfl
  ·cases h
 ·split at h
  ·rename_i i s;obtain⟨z,q,c⟩:=yJ t D s h A (p _ _ i);refine eM (v:=z) (w':=w) ?_ ⟨c,QG _ _⟩;simp only[execOp,Rf,q]; rfl
  ·cases h
 ·split at h
  ·rename_i i s;obtain⟨z,q,c⟩:=Eu t s h (p _ _ i);refine eM (v:=z) (w':=w) ?_ ⟨c,QG _ _⟩;simp only[execOp,Rf,q]; rfl
  ·cases h
 ·split at h
  ·rename_i i s;obtain⟨z,q,c⟩:=FI t s h A (p _ _ i);refine eM (v:=z) (w':=w) ?_ ⟨c,QG _ _⟩;simp only[execOp,Rf,q]; rfl
  ·cases h
 ·split at h
  ·rename_i i s;obtain⟨z,q,c⟩:=FH t D h A (p _ _ i) (p _ _ s);refine eM (v:=z) (w':=w) ?_ ⟨c,QG _ _⟩;simp only[execOp,Rf,q]; rfl
  ·cases h
 ·split at h
  ·rename_i i s;obtain⟨z,q,c⟩:=Jg t h A (p _ _ i) (p _ _ s);refine eM (v:=z) (w':=w) ?_ ⟨c,QG _ _⟩;simp only[execOp,Rf,q]; rfl
  ·cases h
 ·split at h
  ·rename_i i;split at h
   ·obtain⟨z,q,c⟩:=JZ t D p h A (p _ _ i);refine eM (v:=z) (w':=w) ?_ ⟨c,QG _ _⟩;simp only[execOp,Rf,q]; rfl
   ·obtain⟨z,q,c⟩:=EG t D p h A (p _ _ i);refine eM (v:=z) (w':=w) ?_ ⟨c,QG _ _⟩;simp only[execOp,Rf,q]; rfl
  ·cases h
 ·split at h
  ·rename_i i s;have Q:=(t.fact s).und;obtain⟨z,w',q,c,M⟩:=Kx t D h A (p _ _ i) Q;refine eM (v:=z) (w':=w') ?_ ⟨c,M⟩;simp only[execOp,Rf,q]; rfl
  ·cases h
 ·exact Kq t D p h A
 ·split at h
  ·rename_i i;split at h
   ·rename_i G;split at h
    ·rename_i U;split at h
     ·rename_i s;cases h;obtain⟨z,q,c⟩:=FY t D p i G (QS U) s;refine eM (v:=z) (w':=w) ?_ ⟨c,QG _ _⟩;simp only[execOp,Rf,q]; rfl
     ·cases h
    ·split at h
     ·rename_i V;split at h
      ·rename_i s;cases h;obtain⟨z,q,c⟩:=Ep t D p i G (pf V) A.1 s;refine eM (v:=z) (w':=w) ?_ ⟨c,QG _ _⟩;simp only[execOp,Rf,q]; rfl
      ·cases h
     ·cases h
   ·cases h
  ·cases h
 ·exact KX t D p h
 ·split at h
  ·rename_i i s;exact Jz t D (p _ _ i) (p _ _ s) h A
  ·cases h
 ·split at h
  ·rename_i fst C _ _ f i;split at h
   ·rename_i l s;cases h;have c:=Cm (kM p s);have i:fst=#[]:=by rw[<-Rx]; exact i
    subst i;refine eM (v:=.func (.func f) #[] (C.toList.map a.eval).toArray) (w':=w) ?_ ⟨⟨_,rfl,c⟩,QG _ _⟩;have I:C.map a.eval=(C.toList.map a.eval).toArray:=by rw[<-Rx,TU]
    simp[execOp,Instr.makeFunc,I]
   ·cases h
  ·cases h
 ·cases h
open Classical in
theorem MQ(f:E.Ok)(i:Wd B ρ X ck w)(p:∀ x∈gD op,∀ y,look x=some y->m ρ X w y [a.eval x])(h:pop E look ck op an=some (r,ps))(q:eP ps) :
    fD E.P a.eval ⟨d,op,ty,pos,af,g⟩ w (fun v w'=>m ρ X w' r [v]/\Below w.heap.size w w'):=by
 rw[Ez (look':=fun x=>if x∈gD op then look x else none) (fun x c=>by simp[c])]at h;refine Qe f i (fun x y c=>?_) h q;split at c
 ·rename_i e; exact p _ e _ c
 ·cases c
theorem Dx{x:AV}{v:Value}(c:eP (cond x))(h:m ρ X w x [v]):m ρ X w (strip x) [v]:=by
 unfold strip;split
 ·obtain⟨g,e,f,_⟩:=h;cases e;exact f c.1
 ·exact h
end
section
variable{E:Env}{B:Nat}{ρ:List Value}{X:Nat->Prop}{w:World}{ck:List (Nat×CT)}{look:Operand->Option AV}{a:Act}{r:AV}{ps:List Prop} {d:Option Nat}{ty:TypeId}{pos:String}{af:Array Edge}{g:Option (Nat×Bool)}{op:Op}{an:An}
variable{sl:List (Nat×AV)}
theorem kI{t:Nat}{x:AV}(g:get? sl t=some x):∀{l:List Operand},.tmp t∈l->eP (fG sl l)->eP (cond x)
 | .tmp u::l,h,f=>by
  rcases Qv.1 h with h|h
  ·cases h;simp only[fG,g]at f;split at f
   ·rename_i c y e;cases e;exact⟨f.1,trivial⟩
   ·rename_i i;cases x<;>first|exact trivial|exact absurd rfl (i _ _)
  ·refine kI g h ?_;simp only[fG]at f;split at f
   ·exact f.2
   ·exact f
 | .const _::l,h,f=>kI g (l:=l) (by simpa using h) f
 | .global _::l,h,f=>kI g (l:=l) (by simpa using h) f
 | .func _::l,h,f=>kI g (l:=l) (by simpa using h) f
theorem gV{ops:List Operand}(p:∀ t,.tmp t∈ops->∀ x,get? sl t=some x->m ρ X w x [gt a t])(q:eP (fG sl ops)){x:Operand}(c:x∈ops)(s:Pv x=true){y:AV}(h:lj sl x=some y):m ρ X w y [a.eval x]:=by
 cases x with
 | tmp t =>
  simp only[lj]at h
  split at h
  ·rename_i z i;cases h;exact Dx (kI i c q) (p t c _ i)
  ·cases h
 | const v=>cases h; exact Gl s
 | global g=>cases h
 | func f=>cases h; exact⟨[],rfl,rfl⟩
theorem A2{ops:List Operand}(c:∀ t,.tmp t∈ops->∀ x,get? sl t=some x->m ρ X w x [gt a t]){x:Operand}(i:x∈ops)(p:Pv x=true){y:AV}(h:lk sl x=some y):m ρ X w y [a.eval x]:=by
 cases x with
 | tmp t=>exact c t i _ h
 | const v=>cases h; exact Gl p
 | global g=>cases h
 | func f=>cases h; exact⟨[],rfl,rfl⟩
def nC(op:Op):Bool:=(gD op).all Pv
theorem ga(h:nC op=true){x:Operand}(c:x∈gD op):Pv x=true:=Rs.1 h x c
theorem Cc(C:E.Ok)(D:Wd B ρ X ck w)(f:nC op=true)(i:∀ t,.tmp t∈gD op->∀ x,get? sl t=some x->m ρ X w x [gt a t])(h:base E sl ck op an=some (r,ps))(z:eP ps) :
    fD E.P a.eval ⟨d,op,ty,pos,af,g⟩ w (fun v w'=>m ρ X w' r [v]/\Below w.heap.size w w'):=by
 unfold base at h;split at h
 ·rename_i c x y;split at h
  ·rename_i O Q U F G I;split at h
   ·rename_i J p K;cases h;obtain⟨q,s⟩:=z.app;obtain⟨b,L,M⟩:=H4 K s (Dx q (A2 i (by simp[gD]) (ga f (by simp[gD])) F)) (A2 i (by simp[gD]) (ga f (by simp[gD])) G) (A2 i (by simp[gD]) (ga f (by simp[gD])) I);refine eM (v:=_) (w':=w) ?_ ⟨M,QG _ _⟩;simp[execOp,L,asBool]
   ·cases h
  ·cases h
 ·split at h
  ·rename_i J p e;cases h;obtain⟨q,s⟩:=z.app;exact MQ C D (fun x A y N=>gV i q A (ga f A) N) e s
  ·cases h
theorem fD.imp{P:Program}{σ:Operand->Value}{o:Oper}{R S:Value->World->Prop}(h:fD P σ o w R)(hi:∀ v w',R v w'->S v w'):fD P σ o w S:=by
 unfold fD at *;split at h
 ·exact hi _ _ h
 ·exact hi _ _ h
 ·exact h.mono fun e w' ⟨v,c,f⟩=>⟨v,c,hi _ _ f⟩
 ·exact h
theorem uv(f:E.Ok)(i:Wd B ρ X ck w)(c:nC op=true)(p:∀ t,.tmp t∈gD op->∀ x,get? sl t=some x->m ρ X w x [gt a t])(h:uY E sl ck op an=some (r,ps))(q:eP ps) :
    fD E.P a.eval ⟨d,op,ty,pos,af,g⟩ w (fun v w'=>m ρ X w' r [v]/\Below w.heap.size w w'):=by
 unfold uY at h;split at h
 ·rename_i D s e;unfold fin at h;split at h
  ·split at h
   ·cases h;obtain⟨y,z⟩:=q.app;refine fD.imp (Cc f i c p e y) fun v w' ⟨A,C⟩=>⟨?_,C⟩;rw[mG A,z.1]; rfl
   ·cases h
  ·cases h;exact Cc f i c p e q
 ·cases h
theorem AD{b c:Bool}(h:Au b c=true):b=c:=by cases b<;>cases c<;>simp_all [Au]
theorem xF{b c:Bool}(h:Au b c=false):b≠c:=by cases b<;>cases c<;>simp_all [Au]
theorem tP(J:E.Ok)(K:Wd B ρ X ck w){ops:Array Oper}{ds:List (Option Nat)}(L:∀ g:Nat,ju ds g=(ops[g]?).map Oper.dst){o:Oper}(A:nC o.op=true)
    (M:∀ t,.tmp t∈gD o.op->∀ x,get? sl t=some x->m ρ X w x [gt a t]) (N:∀ g w',o.guard=some (g,w')->∀ t,ju ds g=some (some t)->∀ x,get? sl t=some x->m ρ X w x [gt a t])
    (h:po E sl ck ds o an=some (r,ps)) (O:eP ps) :
    (qm ops o a->fD E.P a.eval o w (fun v w'=>m ρ X w' r [v]/\Below w.heap.size w w'))/\(¬qm ops o a->m ρ X w r [undef]):=by
 obtain⟨d,op,ty,pos,W,g⟩:=o;unfold po at h;split at h
 ·rename_i e;cases e;exact⟨fun _=>uv J K A M h O,fun C=>(C trivial).elim⟩
 ·rename_i I want e;cases e;split at h
  ·rename_i t y;have Z:(ops[I]?).bind (·.dst)=some t:=by
    have y:=y;rw[L I]at y;cases Q:ops[I]? with
    | none=>rw[Q]at y; cases y
    | some o'=>rw[Q]at y; simpa using y
   have i:qm ops ⟨d,op,ty,pos,W,some (I,want)⟩ a↔gt a t=.bool want:=by
    unfold qm;simp only[Z,Q7,Wc]
   split at h
   ·rename_i x hx;have F:m ρ X w x [gt a t]:=N I want rfl t y _ hx;split at h
    ·rename_i f;have:gt a t=.bool want:=by
      unfold nr at f;split at f
      ·split at f
       ·rename_i e;rw[<-AD e];exact(QB F).1
       ·cases f
      ·cases f
      ·cases f
      ·split at f<;>cases f
      ·cases f
     exact⟨fun _=>uv J K A M h O,fun C=>(C (i.2 this)).elim⟩
    ·rename_i f;cases h;refine⟨fun hk=>?_,fun _=>rfl⟩;have hk:=i.1 hk;exfalso;unfold nr at f;split at f
     ·split at f
      ·cases f
      ·rename_i e;have:=(QB F).1;rw[hk]at this;cases this;exact xF e rfl
     ·cases f
     ·cases f
     ·split at f
      ·cases f
      ·rename_i c b q e;obtain⟨v,s,z,D⟩:=F;have s:=(QB s).1;subst s;by_cases p:c
       ·have:=(QB (z p)).1;rw[hk]at this;cases this;exact xF e rfl
       ·have:=D p;rw[hk]at this;cases this
     ·cases f
    ·rename_i G f;split at h
     ·rename_i r' aa hb;cases h;have U:gt a t=.bool want↔G:=by
       unfold nr at f;split at f
       ·split at f<;>cases f
       ·cases f;rw[mG F]; simp
       ·rename_i c e;cases f;obtain⟨v,s,z,D⟩:=F;have s:=(QB s).1;subst s;constructor
        ·intro hk;by_cases p:c
         ·have:=mG (z p);rw[hk]at this;cases this;exact⟨p,rfl⟩
         ·have:=D p;rw[hk]at this; cases this
        ·rintro⟨p,rfl⟩;exact mG (z p)
       ·split at f
        ·rename_i e;cases f;have e:=AD e;subst e;obtain⟨v,s,z,D⟩:=F;have s:=(QB s).1;subst s;constructor
         ·intro hk;by_cases p:G
          ·exact p
          ·have:=D p;rw[hk]at this; cases this
         ·intro p;exact(QB (z p)).1
        ·cases f
       ·cases f
      refine⟨fun hk=>?_,fun C=>?_⟩
      ·have V:=U.1 (i.1 hk);refine fD.imp (uv J K A M hb (eP.under V O)) fun v w' ⟨z,D⟩=>⟨⟨v,rfl,fun _=>z,fun C=>(C V).elim⟩,D⟩
      ·exact⟨undef,rfl,fun N=>(C (i.2 (U.2 N))).elim,fun _=>rfl⟩
     ·cases h
    ·cases h
   ·cases h
  ·cases h
end
end Go.Proofs.YtbokoblnehgkaabGreat.Gx
