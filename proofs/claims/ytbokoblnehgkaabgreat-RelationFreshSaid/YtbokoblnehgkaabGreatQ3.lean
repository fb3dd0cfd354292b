/-
  The law RelationFresh: updates give new memory, and overwriting one result changes nothing else.
-/
import Derived.Test.YtbokoblnehgkaabGreatQ2
import Derived.Test.YtbokoblnehgkaabGreatQ1
set_option linter.unusedVariables false
set_option linter.unusedSimpArgs false
set_option maxHeartbeats 4000000
set_option maxRecDepth 100000
namespace Go.Proofs.YtbokoblnehgkaabGreat.Gx
open Go Go.RowKit Tw B Nt
@[go_sem] noncomputable def dlX:Sx:=⟨ET1,35,[(7,[(26,.ow)]),(8,[(32,.ow)])],[],[7],[],.nil,1,some ([],0)⟩
def dlP(w:World)(n:Nat):Ending->World->Prop:=fun e a=>∃ z R,e=.returned (.tuple #[z,.int .i64 0])/\mU w.heap.size a c7 R z/\R.2.length=n/\Below w.heap.size w a
theorem aci{r:c7.den}{v:List fS}(hr:gZ r)(hv:v.length<=1000)(h0:K7 r v=0){O R:Value}{w:World}(al:m [] (fun _=>False) w (.a_ c7 r) [O])(an:m [] (fun _=>False) w (.a_ (.slice eK) v) [R]) :
    Calls Tryz.prog 12 #[O,R] w (dlP w (r.2.length-1)):=by
 obtain⟨Q,hQ⟩:∃ Q,bodyPost Tryz.prog Tryz.f12 (dlP w (r.2.length-1))=Q:=⟨_,rfl⟩;obtain⟨ad,y⟩:∃ c,(Tryz.f12).body=some c:=⟨_,rfl⟩;refine UA Tryz.func12 y ?_;rw[hQ];have ae:∀{u:World}{X:Nat->Prop},∀ st T U V,ku dlX st->Fr u X [.slice none 0 0] dlX.N st T U V->Q .ret U V/\Q .normal U V:=by
  intro u X st T U V D g;exfalso;unfold ku at D;split at D
  ·obtain⟨_,⟨⟨h6,_⟩,_⟩⟩:=D;exact absurd h6 (show ¬(1<=0) by decide)
  ·exact D
 have hp:=hr;obtain⟨s,l⟩:=r;change List fy at l;obtain⟨j,g⟩:∃ o,l.findIdx? (kG v)=o:=⟨_,rfl⟩;have d:K7 (s,l) v=if gC (s,l)≠0 then gC (s,l)else if(mY (l.findIdx? (kG v))).2=false then 7 else 0:=rfl
 have key:∀ T U V,Fr w (fun _=>False) [.slice none 0 0] 35 ⟨[(0,.a_ c7 (s,l)),(1,.a_ (.slice eK) v)],[],1⟩ T U V->me ET1.P Q [.code ad] .normal U V:=by
  cases y;refine qn (S:=dlX) rfl wR (fun b h=>h.elim) ae (fun H hH F=>?_) (by kernel_rfl);refine hH.run 100 _ _ ?_;dsimp only[go_sem];rw[g]at d ⊢;refine⟨hp,fun e=>?_,fun e=>⟨hp,hv,fun e2=>?_,fun e2=>?_⟩⟩
  ·exfalso;have e:=QF e;rw[QJ e]at d;exact e (d.symm.trans h0)
  all_goals have e:=QN e
  ·exfalso;rw[QC e,QJ (by simpa using e2)]at d;rw[h0]at d;cases d
  have e3:(mY j).2=true:=by simpa using e2
  cases j with
  | none=>cases e3
  | some i =>
   obtain⟨hi,aK⟩:=sO g
   have hl:l.length<=400:=hp.2.1
   have e4:(mY (some i)).1=(i:Int):=rfl
   clear e e2 e3 d
   refine hH.mR ⟨[(7,.a_ (.int .i64) (i:Int)),(2,.ref 1 0),(4,.ref 2 0)],[(1,.box 28 (.cons (.a_ .str s.1) (.cons (.a_ .bool s.2.1) (.cons (.a_ (.slice fe) s.2.2) (.cons (.a_ (.slice b8) l) .nil))))),(2,.box 28 (zA c7 .nil))],3⟩ 3 ?_ ?_
   ·dsimp only[go_sem];and_intros<;>first|trivial|rfl|omega
   refine F _ _ ?_
   intro ao T a1 w1 g
   clear hH F ao
   obtain⟨-,b1,C1,p1,g1,r1,-⟩:=g.cs _ Qx
   obtain⟨-,W,C3,p3,g3,r3,-⟩:=g.cs _ (Qs _ Qx)
   have p1:T[1]?=some (.pointer (some ⟨b1,0,none⟩)):=p1
   have p3:T[2]?=some (.pointer (some ⟨W,0,none⟩)):=p3
   have aq:w.heap.size<=W:=(g.bl _ (Qs _ Qx) W (fh p3 rfl)).2.resolve_right od
   have r1:=ss r1
   have r1:rep c7 (fun _=>False) w1 C1.toList (s,l):=eJ r1 fun b hb=>hb.elim
   have ar:C3.size=4:=by have:=tT r3; simpa using this
   have e2:gt a1 2=.pointer (some ⟨b1,0,none⟩):=by
    obtain⟨v,b,z1,z2,z3⟩:=g.sl 2 (.ref 1 0) rfl;rw[p1]at z1;cases z1;cases z2;exact(QB z3).1
   have au:gt a1 4=.pointer (some ⟨W,0,none⟩):=by
    obtain⟨v,b,z1,z2,z3⟩:=g.sl 4 (.ref 2 0) rfl;rw[p3]at z1;cases z1;cases z2;exact(QB z3).1
   have e7:gt a1 7=.int .i64 (i:Int):=(fI (g.sl 7 (.a_ (.int .i64) (i:Int)) rfl)).1
   have av:=g.dn
   have aw:a1.tmps.size=35:=g.sz
   have Y:=g.kp.nZ
   clear g p1 p3 r3
   have A:b_ Tryz.prog 28 ⟨c7,0,_,2⟩:=c_.fact (E:=E3) rfl
   have G:b_ Tryz.prog 26 ⟨.slice b8,37,24,0⟩:=c_.fact (E:=E3) rfl
   refine Re ?_
   refine pa rfl (by decide) (by decide) (by decide) aw (by decide) (by decide) (by decide) hr e2 g1 r1 fun a2 u2 bR nm ct cv tv S L a hL hB e9 af ax B=>?_
   obtain⟨n,hn⟩:∃ n,w1.heap.size=n:=⟨_,rfl⟩
   rw[hn]at a hB
   have hL:L.length=l.length:=hL
   have I:W<n:=by rw[<-hn]; exact b9 g3
   have x4:=(af 4 (by decide) (by decide) (by decide)).trans au
   have x7:=(af 7 (by decide) (by decide) (by decide)).trans e7
   refine SM (Re ?_)
   refine eV 27 rfl rfl (by rw[B]; decide) (fm (x:=.tmp 9) A rfl rfl (show 1<2 by decide) e9) fun a3 J=>?_
   refine eV 28 rfl rfl (by rw[J.sz,B]; decide) (fv (x:=.tmp 27) G rfl J.v a.bx (cs:=[tv]) rfl rfl rfl) fun a4 Z=>?_
   refine eV 29 rfl rfl (by rw[Z.sz,J.sz,B]; decide) (fE (x:=.tmp 7) rfl) fun a5 k5=>?_
   refine eV 30 rfl rfl (by rw[k5.sz,Z.sz,J.sz,B]; decide) (fE (x:=.tmp 7) rfl) fun a6 k6=>?_
   have y7:gt a4 7=.int .i64 (i:Int):=(Z.ne 7 (by decide)).trans ((J.ne 7 (by decide)).trans x7)
   have ay:gt a6 30=.int .i64 (i:Int):=k6.v.trans ((k5.ne 7 (by decide)).trans y7)
   have az:gt a6 29=.int .i64 (i:Int):=(k6.ne 29 (by decide)).trans (k5.v.trans y7)
   have aA:gt a6 28=tv:=(k6.ne 28 (by decide)).trans ((k5.ne 28 (by decide)).trans Z.v)
   have z6:a6.tmps.size=35:=by rw[k6.sz,k5.sz,Z.sz,J.sz,B]
   refine jn 31 [(30,.a_ (.int .i64) (i:Int))] (.a_ (.int .i64) ((i:Int)+1)) wR (.cons (by rw[ay]; exact eO (by rw[c9]; omega)) .nil) rfl rfl (by rw[z6]; decide) rfl rfl ⟨by rw[c9]; omega,trivial⟩ fun z7 u7 a7 aa ah K=>?_
   have aa:=(fI aa).1
   have a:=a.keep ah
   obtain⟨xs,t1,t2,t3⟩:=a.tu
   refine jO 32 rfl rfl (by rw[K.sz,z6]; decide) (gL (vs:=[tv,.int .i64 (i:Int),.int .i64 ((i+1:Nat):Int)]) (e_ Tryz.func41 rfl rfl) (by
    rw[Sd];show #[gt a7 28,gt a7 29,gt a7 31]=_;rw[K.ne 28 (by decide),K.ne 29 (by decide),K.v,aA,az,aa];rfl) (ym t1 t2 (by rw[hL]; exact hi) (by omega))) fun v' u8 a8 aB k8=>?_
   obtain⟨ai,f,aC⟩:=aB
   have ab:∀ t,t<27->gt a8 t=gt a2 t:=fun t ht=>(k8.ne t (by omega)).trans ((K.ne t (by omega)).trans ((k6.ne t (by omega)).trans ((k5.ne t (by omega)).trans ((Z.ne t (by omega)).trans (J.ne t (by omega))))))
   refine eV 33 rfl rfl (by rw[k8.sz,K.sz,z6]; decide) (fm (x:=.tmp 9) A rfl rfl (show 1<2 by decide) ((ab 9 (by decide)).trans e9)) fun a9 k9=>?_
   have ac:v'.oneCell'=true:=by
    obtain⟨_,_,_,rfl⟩:=gb ai;rfl
   have aD:u8.heap[bR]?=some (.cells #[nm,ct,cv,tv] 28 (0,0)):=(f.block bR (b9 a.bx) fun e=>a.ne e.symm).trans a.bx
   refine mH (cs:=[v']) G rfl rfl rfl k9.v aD (show 0+3+1<=4 by decide) ((k9.ne 32 (by decide)).trans k8.v) rfl (fun c hc=>by rw[RH.1 hc]; exact ac) fun u6 q6 p=>RM ?_
   have M:(L.take i++L.drop (i+1)).length=L.length-1:=by
    rw[QO,QM,Q5];omega
   have aj:NB n bR u6 nm ct cv v' S (L.take i++L.drop (i+1)):=by
    refine a.swap f aC (xs:=xs.take (i*4)++xs.drop ((i+1)*4)) (by rw[M]; exact ai) (fun c hc=>?_) (acn t1.1 t3 (by rw[hL]; exact hi)) p q6;rcases QZ.1 hc with hc|hc
    ·exact t2 c (RB hc)
    ·exact t2 c (Rh hc)
   have ak:Below n w1 u6:=by
    have h1:=hB.trans (ah.mono (by rw[<-hn]; exact hB.size));refine⟨p.io.1.trans (f.os.trans h1.os),p.io.2.1.trans (f.tape.trans h1.tape),p.io.2.2.trans (f.output.trans h1.output),by rw[p.sz]; exact QL h1.size f.size,fun k hk=>?_⟩;rw[p.ne k (by have:=a.nR; omega),f.block k (QI (by omega) h1.size) fun e=>by have:=a.nb k e.symm; omega];exact h1.block k hk
   have z9:a9.tmps.size=35:=by rw[k9.sz,k8.sz,K.sz,z6]
   refine SM (Re ?_)
   refine oR (tb:=9) (t4:=4) (t5:=5) (b4:=W) (C4:=C3) rfl (by decide) (by decide) z9 (by decide) (by decide) aj ((k9.ne 9 (by decide)).trans ((ab 9 (by decide)).trans e9)) ((k9.ne 4 (by decide)).trans ((ab 4 (by decide)).trans x4)) ((ak.block W I).trans g3) ar I fun aE u10 q8 aF aG aH aI aJ=>W2 ?_
   rw[<-hQ]
   refine⟨by rw[aJ,k9.dn,k8.dn,K.dn,k6.dn,k5.dn,Z.dn,J.dn,ax]; exact av,.tuple #[c7.wrap [nm,ct,cv,v'],gt aE 5],qE (fn:=Tryz.f12) rfl aH (fR (P:=Tryz.prog) A (off:=0) q8 (cs:=[nm,ct,cv,v']) rfl rfl),_,_,by rw[aI],aG.le (by rw[<-hn]; exact Y.size),by rw[<-hL]; exact M,aF.below aq (Y.trans (ak.mono (by rw[<-hn]; exact Y.size)))⟩
 obtain⟨a0,C⟩:∃ a0:Act,({ tmps:=#[O,R]++Array.replicate ((Tryz.f12).ntmps-#[O,R].size) undef,defers:=[] }:Act)=a0:=⟨_,rfl⟩;have k0:gt a0 0=O:=by rw[<-C]; exact jL (vs:=[O,R]) rfl
 have k1:gt a0 1=R:=by rw[<-C]; exact jL (vs:=[O,R]) rfl
 have kd:a0.defers=[]:=by rw[<-C]
 have ks:a0.tmps.size=35:=by
  rw[<-C];have:(Tryz.f12).ntmps=35:=rfl;simp only[Tl,RQ,S2,this,Rr,Tn]
 rw[C];refine key _ a0 w (Lh kd ks fun q z hz=>?_);have hz:=b7 hz;simp only[Qv,SB,QW,RV]at hz;rcases hz with⟨rfl,rfl⟩|⟨rfl,rfl⟩
 ·rw[k0]; exact al
 ·rw[k1]; exact an
theorem RU.aaz{X:Nat->Prop}{w:World}{z:TypeId}{v:Value}{l:List b8.den}{i b:Nat}{cz:List Value}{x:b8.den}{f:fT.den}(h:RU X w z b8 v l)(o:l[i]?=some x)(p:fa v=some b)(F:X b)(j:fg fT X w cz f) :
    ∃ w',(storeVar 35 ⟨b,i*4+1,none⟩ (fT.wrap cz)).run Tryz.prog w=.ok () w'/\Ca b w w'/\RU X w' z b8 v (l.set i (x.1,f)):=by
 have A:b_ Tryz.prog 37 ⟨b8,0,80,2⟩:=c_.fact (E:=E3) rfl;have G:b_ Tryz.prog 35 ⟨fT,0,56,3⟩:=c_.fact (E:=E3) rfl;have hi:i<l.length:=by
  rcases QA i l.length with h|h
  ·exact h
  ·rw[QD h]at o; cases o
 obtain⟨B,H,R,I⟩:=id h;have c:=I i x o;have c:fg b8 X w ((B.drop (i*4)).take 4) x:=c;obtain⟨d,S,T,U,C⟩:=qW c.rep;rw[C]at c;have J:fg (.slice eK) X w [d] x.1:=c.1;have k:fg b8 X w (d::cz) (x.1,f):=⟨J,j⟩;obtain⟨w',q,K,L⟩:=RU.store (P:=Tryz.prog) A h hi p F k;refine⟨w',?_,K,L⟩;obtain⟨tl,⟨_,e⟩|⟨g,cap,a,M,_,D,r,_,m,s⟩⟩:=H
 ·omega
 have N:g=b:=by rw[M]at p; exact Rk p
 subst N;have O:l.length*4<=a.size:=by rw[m]; exact Q_ _ r
 have t:a.toList[i*4]?=some d:=by
  have n:((B.drop (i*4)).take 4)[0]?=some d:=by rw[C]; rfl
  rw[Q1,QJ (by decide),Rg,Se,<-s,Q1]at n;split at n
  ·exact n
  ·cases n
 have u:=gr (P:=Tryz.prog) (w:=w) A (off:=i*4) D (cs:=d::cz) (ft k) (fQ k) (by show i*4+4<=a.size; omega);have y:=gr (P:=Tryz.prog) (w:=w) G (off:=i*4+1) D (cs:=cz) (ft j) (fQ j) (by show i*4+1+3<=a.size; omega);have q:(storeVar 37 ⟨g,i*4,none⟩ (b8.wrap (d::cz))).run Tryz.prog w=.ok () w':=q;have u:(storeVar 37 ⟨g,i*4,none⟩ (b8.wrap (d::cz))).run Tryz.prog w=_:=u;have e:w'=w.setRow g (a.toList.take (i*4)++(d::cz)++a.toList.drop (i*4+4)).toArray:=by
  have:=q.symm.trans u;injection this
 have Q:a.toList.take (i*4+1)=a.toList.take (i*4)++[d]:=by rw[UC,t]; rfl
 have y:(storeVar 35 ⟨g,i*4+1,none⟩ (fT.wrap cz)).run Tryz.prog w=.ok () (w.setRow g (a.toList.take (i*4+1)++cz++a.toList.drop (i*4+1+3)).toArray):=y;rw[y,e,Q,QP,QP,QP];rfl
theorem L_{ρ:List Value}{X:Nat->Prop}{w:World}{p:fT.den}{cs:List Value}(h:m ρ X w (.cons (.a_ .bool p.1) (.cons (.a_ (.slice (.int .u32)) p.2.1) (.cons (.a_ (.slice (.int .u32)) p.2.2) .nil))) cs):rep fT X w cs p:=by
 obtain⟨f,g,rfl,b,i,j,rfl,c,k,d,rfl,e,a⟩:=h;have a:d=[]:=a;subst a;exact⟨jj rfl rfl b,jj rfl rfl c,jj rfl rfl e⟩
def IC(n a i:Nat)(b:Value)(cs:List Value)(p:fT.den):Nat->Value->World->Prop
 | 0,v,_=>v=.pointer (some ⟨a,3,none⟩)
 | 1,v,_=>v=b
 | 2,v,_=>v=.int .i64 (i:Int)
 | 3,v,_=>v=fT.wrap cs
 | 4,v,u=>mU n u fT p v
 | _,_,_=>True
theorem IG{n b k:Nat}{c:Value}{cs:List Value}{p:fT.den}:∀ i v (u a:World),i<5->IC n b k c cs p i v u->Below u.heap.size u a->IC n b k c cs p i v a:=by
 intro i v u a hi h d
 match i,h with
 | 0,h=>exact h
 | 1,h=>exact h
 | 2,h=>exact h
 | 3,h=>exact h
 | 4,h=>exact mU.st h d
 | i+5,_=>omega
@[go_sem] noncomputable def stX:Sx:=⟨ET2,57,[(9,[(36,.ow),(38,.ow)]),(12,[(48,.ow)])],[(10,[6])],[12],[],.nil,1,some ([],0)⟩
theorem acj{r:c7.den}{v:List fS}{p:fT.den}(I:gZ r)(hv:v.length<=1000)(J:fs p<=1000)(h0:OS r v p=0){Z vv vp:Value}{w:World}(ak:m [] (fun _=>False) w (.a_ c7 r) [Z])(aA:m [] (fun _=>False) w (.a_ (.slice eK) v) [vv])(aB:m [] (fun _=>False) w (.a_ fT p) [vp]) :
    Calls Tryz.prog 13 #[Z,vv,vp] w (dlP w r.2.length):=by
 obtain⟨Q,hQ⟩:∃ Q,bodyPost Tryz.prog Tryz.f13 (dlP w r.2.length)=Q:=⟨_,rfl⟩;obtain⟨al,K⟩:∃ c,(Tryz.f13).body=some c:=⟨_,rfl⟩;refine UA Tryz.func13 K ?_;rw[hQ];have an:∀{u:World}{X:Nat->Prop},∀ st U a' w',ku stX st->Fr u X [.slice none 0 0] stX.N st U a' w'->Q .ret a' w'/\Q .normal a' w':=by
  intro u X st U a' w' J C;exfalso;unfold ku at J;split at J
  ·obtain⟨_,⟨⟨h6,_⟩,_⟩⟩:=J;exact absurd h6 (show ¬(1<=0) by decide)
  ·exact J
 have M:=I;obtain⟨s,l⟩:=r;change List fy at l;change FN at p;have ao:q_ c7 (s,l):=by obtain⟨cs,D,_⟩:=ak; exact jB D
 have aC:∀ t∈l,q_ b8 t:=ao.2.2;clear ao;obtain⟨bd,ad,aD⟩:=id M;change l.length<=400 at ad;have d:OS (s,l) v p=if gC (s,l)≠0 then gC (s,l)else if(mY (l.findIdx? (kG v))).2=false then 7 else if vx s.2.1 (fq p)=false then 19 else if 0<jX (fq p) (1-gS l (NN (s,l) v (mY (l.findIdx? (kG v))).1))then 19 else 0:=rfl
 have ae:=xC (s,l) v;have F:=Qh (s,l) v (mY (l.findIdx? (kG v))).1;have aE:=ou (n:=400) aC (fun t ht=>(aD t ht).2) F.2 (QL F.1 ad);have aq:List.filter (fun x=>!decide (x=(mY (l.findIdx? (kG v))).1)) (kW (s,l) v)=NN (s,l) v (mY (l.findIdx? (kG v))).1:=rfl;have ar:=pk 1 (gS l (NN (s,l) v (mY (l.findIdx? (kG v))).1));have aF:=mm;dsimp only at ae F;have key:∀ U a' w',Fr w (fun _=>False) [.slice none 0 0] 57 ⟨[(0,.a_ c7 (s,l)),(1,.a_ (.slice eK) v),(2,.a_ fT p)],[],1⟩ U a' w'->me ET2.P Q [.code al] .normal a' w':=by
  cases K;refine qn (S:=stX) rfl Gw (fun b h=>h.elim) an (fun H hH aa=>?_) (by kernel_rfl);refine hH.run 100 _ _ ?_;dsimp only[go_sem];simp only[aq,jo,ig];refine⟨M,fun e=>?_,fun e=>⟨M,hv,fun e2=>?_,fun e2=>⟨by omega,fun e3=>?_,fun e3=>⟨M,hv,QL ae.1 (by omega),M,QL F.1 ad,F.2,by omega,by omega,by omega,fun e4=>?_,fun e4=>?_⟩⟩⟩⟩
  ·exfalso;have e:=QF e;rw[QJ e]at d;exact e (d.symm.trans h0)
  all_goals have e:=QN e
  all_goals rw[QC e]at d
  ·exfalso;rw[QJ (by simpa using e2)]at d;rw[h0]at d; cases d
  all_goals have W:(mY (l.findIdx? (kG v))).2=true:=by simpa using e2
  all_goals rw[QC (by rw[W]; simp)]at d
  ·exfalso;rw[QJ (by simpa using e3)]at d;rw[h0]at d; cases d
  all_goals rw[QC (by simpa using e3)]at d
  ·exfalso;rw[QJ (QF e4)]at d;rw[h0]at d; cases d
  obtain⟨i,C⟩:∃ i,l.findIdx? (kG v)=some i:=by
   cases e:l.findIdx? (kG v)with
   | none=>rw[e]at W; cases W
   | some i=>exact⟨i,rfl⟩
  obtain⟨hi,be⟩:=sO C;rw[C];have e5:(mY (some i)).1=(i:Int):=rfl;clear e e2 e3 e4 W d ae F aE aq ar aF;refine hH.mR ⟨[(3,.ref 1 0),(5,.ref 2 0),(6,.ref 3 0),(9,.ref 4 0)],[(1,.box 28 (.cons (.a_ .str s.1) (.cons (.a_ .bool s.2.1) (.cons (.a_ (.slice fe) s.2.2) (.cons (.a_ (.slice b8) l) .nil))))),(2,.box 35 (.cons (.a_ .bool p.1) (.cons (.a_ (.slice (.int .u32)) p.2.1) (.cons (.a_ (.slice (.int .u32)) p.2.2) .nil)))),(3,.box 28 (zA c7 .nil)),(4,.box 3 (.cons (.a_ (.int .i64) (i:Int)) .nil))],5⟩ 5 ?_ ?_
  ·dsimp only[go_sem];and_intros<;>first|trivial|rfl|omega
  refine aa _ _ ?_;intro aG U a1 w1 C;clear hH aa aG;obtain⟨-,b1,C1,p1,D,r1,-⟩:=C.cs _ Qx;obtain⟨-,b2,C2,p2,g2,Y,-⟩:=C.cs _ (Qs _ Qx);obtain⟨-,b3,C3,p3,g3,r3,-⟩:=C.cs _ (Qs _ (Qs _ Qx));obtain⟨-,b4,C4,p4,g4,r4,-⟩:=C.cs _ (Qs _ (Qs _ (Qs _ Qx)));have p1:U[1]?=some (.pointer (some ⟨b1,0,none⟩)):=p1;have p2:U[2]?=some (.pointer (some ⟨b2,0,none⟩)):=p2;have p3:U[3]?=some (.pointer (some ⟨b3,0,none⟩)):=p3;have p4:U[4]?=some (.pointer (some ⟨b4,0,none⟩)):=p4;have aH:w.heap.size<=b3:=(C.bl _ (Qs _ (Qs _ Qx)) b3 (fh p3 rfl)).2.resolve_right od;have r1:=ss r1;have r1:rep c7 (fun _=>False) w1 C1.toList (s,l):=eJ r1 fun b B=>B.elim;have Y:=L_ Y;have Y:rep fT (fun _=>False) w1 C2.toList p:=eJ Y fun b B=>B.elim;have aI:C3.size=4:=by have:=tT r3; simpa using this
  have aJ:C4.toList=[.int .i64 (i:Int)]:=by
   obtain⟨c1,u1,e1,h1,h2⟩:=r4;have h2:u1=[]:=h2;rw[e1,h2,(fI h1).1]
  have gp:∀(t c b:Nat),get? [(3,AV.ref 1 0),(5,.ref 2 0),(6,.ref 3 0),(9,.ref 4 0)] t=some (.ref c 0)->U[c]?=some (.pointer (some ⟨b,0,none⟩))->gt a1 t=.pointer (some ⟨b,0,none⟩):=fun t c b hg hc=>by
   obtain⟨v,b',z1,z2,z3⟩:=C.sl t (.ref c 0) hg;rw[hc]at z1;cases z1;cases z2;exact(QB z3).1
  have e3:=gp 3 1 b1 rfl p1;have aK:=gp 5 2 b2 rfl p2;have e6:=gp 6 3 b3 rfl p3;have e9:=gp 9 4 b4 rfl p4;have aL:=C.dn;have aM:a1.tmps.size=57:=C.sz;have af:=C.kp.nZ;clear C p1 p2 p3 p4 r3 r4 gp;have ab:b_ Tryz.prog 28 ⟨c7,0,_,2⟩:=c_.fact (E:=E3) rfl;have au:b_ Tryz.prog 26 ⟨.slice b8,37,24,0⟩:=c_.fact (E:=E3) rfl;have hT:b_ Tryz.prog 37 ⟨b8,0,80,2⟩:=c_.fact (E:=E3) rfl;have hF:b_ Tryz.prog 35 ⟨fT,0,56,3⟩:=c_.fact (E:=E3) rfl;have hI:b_ Tryz.prog 3 ⟨.int .i64,0,8,0⟩:=c_.fact (E:=E3) rfl;have aN:=eU (E:=E3) c_ (T:=26) (e:=⟨.slice b8,37,24,0⟩) rfl rfl;refine Re ?_;refine pa rfl (by decide) (by decide) (by decide) aM (by decide) (by decide) (by decide) I e3 D r1 fun a2 u2 bR nm ct cv tv S L A hL hB av ah aO aP=>?_;obtain⟨n,hn⟩:∃ n,w1.heap.size=n:=⟨_,rfl⟩;rw[hn]at A hB;obtain⟨n6,O⟩:∃ n,u2.heap.size=n:=⟨_,rfl⟩;have hL:L.length=l.length:=hL;have ac:b3<n:=by rw[<-hn]; exact b9 g3
  have aQ:n<=n6:=by rw[<-O,<-hn]; exact hB.size
  have bg:bR<n6:=by rw[<-O]; exact b9 A.bx
  have aw:u2.heap[b2]?=some (.cells C2 35 (0,0)):=(hB.block b2 (by rw[<-hn]; exact b9 g2)).trans g2;have ax:u2.heap[b4]?=some (.cells C4 3 (0,0)):=(hB.block b4 (by rw[<-hn]; exact b9 g4)).trans g4;have Y:rep fT (fun _=>False) u2 C2.toList p:=fx Y (Ev.c8 (by rw[hn]; exact hB));have x5:=(ah 5 (by decide) (by decide) (by decide)).trans aK;have x6:=(ah 6 (by decide) (by decide) (by decide)).trans e6;have x9:=(ah 9 (by decide) (by decide) (by decide)).trans e9;refine SM ?_;refine jW (l:=[_,_,_,_,_,_,_,_]) (N:=57) Gw.mx (IC n6 bR i tv C2.toList (qf (fq p))) [0,1,0,0,8,31,63,127] [[(12,none)],[(49,some 0)],[(9,none)],[(5,none)],[(52,some 3)],[(50,some 1),(51,some 2)],[(54,some 5)],[(55,some 6),(53,some 4)]] 5 aP (by kernel_rfl) (by kernel_rfl) IG ?_ ?_
  ·intro j o hj R
   match j,hj with
   | 0,_ =>
    cases R
    refine⟨rfl,fun val a u B V I=>?_⟩
    have D:gt a 12=gt a2 12:=I (12,none) (by simp)
    exact fc (fm (x:=.tmp 12) ab rfl rfl (show 1<2 by decide) (D.trans av)) ⟨QG _ _,rfl⟩
   | 1,_ =>
    cases R
    refine⟨rfl,fun val a u B V I=>?_⟩
    have D:gt a 49=val 0:=I (49,some 0) (by simp)
    have h0:val 0=.pointer (some ⟨bR,3,none⟩):=V 0 (by decide) (by decide)
    exact fc (fv (x:=.tmp 49) au rfl (D.trans h0) (A.keep B).bx (cs:=[tv]) rfl rfl rfl) ⟨QG _ _,rfl⟩
   | 2,_ =>
    cases R
    refine⟨rfl,fun val a u B V I=>?_⟩
    have D:gt a 9=gt a2 9:=I (9,none) (by simp)
    exact fc (fv (x:=.tmp 9) hI rfl (D.trans x9) ((B.block b4 (b9 ax)).trans ax) (cs:=[.int .i64 (i:Int)]) (by rw[aJ]; rfl) rfl rfl) ⟨QG _ _,rfl⟩
   | 3,_ =>
    cases R
    refine⟨rfl,fun val a u B V I=>?_⟩
    have D:gt a 5=gt a2 5:=I (5,none) (by simp)
    exact fc (fv (x:=.tmp 5) hF rfl (D.trans x5) ((B.block b2 (b9 aw)).trans aw) (cs:=C2.toList) (by rw[RP]; exact QQ (SA (eR Y))) (eR Y) rfl) ⟨QG _ _,rfl⟩
   | 4,_ =>
    cases R
    refine⟨rfl,fun val a u B V I=>?_⟩
    have D:gt a 52=val 3:=I (52,some 3) (by simp)
    have h0:val 3=fT.wrap C2.toList:=V 3 (by decide) (by decide)
    have hu:n6<=u.heap.size:=by rw[<-O]; exact B.size
    refine gL (vs:=[fT.wrap C2.toList]) (e_ Tryz.func45 rfl rfl) (by rw[Sd]; exact Sr (fun z=>#[z]) (D.trans h0)) ?_
    refine TB (zF (f:=p) ⟨C2.toList,fx Y (Ev.c8 B),rfl⟩ (by omega)) ?_
    rintro e u' ⟨zz,rfl,g2,g3⟩
    exact⟨zz,rfl,g3,g2.le hu⟩
   | j+5,hj=>omega
  ·intro val u a3 B V M hd hs;have aR:∀ b,fa tv=some b->b<n6:=fun b B=>by rw[<-O]; exact A.tu.rw.lt B
   have A:=A.keep B;have aS:gt a3 50=val 1:=M 50 (by decide);have aT:gt a3 51=val 2:=M 51 (by decide);have aU:gt a3 53=val 4:=M 53 (by decide);have aV:gt a3 12=gt a2 12:=M 12 (by decide);have y6:gt a3 6=gt a2 6:=M 6 (by decide);have v1:val 1=tv:=V 1 (by decide);have v2:val 2=.int .i64 (i:Int):=V 2 (by decide);obtain⟨cz,v4,v5⟩:mU n6 u fT (qf (fq p)) (val 4):=V 4 (by decide);obtain⟨g,cap,eg,eb⟩:=A.tu.jM (by omega);have ai:i<L.length:=by rw[hL]; exact hi
   refine eV 54 rfl rfl (by rw[hs]; decide) (uf (x:=.tmp 50) (y:=.tmp 51) (k:=i) hT rfl aN (aS.trans (v1.trans eg)) (aT.trans v2) ai) fun a4 k4=>?_;refine eV 55 rfl rfl (by rw[k4.sz,hs]; decide) (fm (x:=.tmp 54) hT rfl rfl (show 1<2 by decide) k4.v) fun a5 k5=>?_;obtain⟨u6,s1,aj,aW⟩:=RU.aaz (i:=i) A.tu (Qr ai) eb (.inr (.inl eb)) (fo v4 fun b B=>.inl (by
    show b<n6;rcases B with B|B|B
    ·omega
    ·exact aR b B
    ·omega))
   refine oq (off:=i*4+1) (u:=fT.wrap cz) (w':=u6) rfl rfl rfl (k5.v.trans (by rw[Q8]; rfl)) (((k5.ne 53 (by decide)).trans (k4.ne 53 (by decide))).trans (aU.trans v5)) s1 (RM ?_);have aX:n<=g:=A.nb g eb;have ay:NB n bR u6 nm ct cv tv S (L.set i ((L[i]'ai).1,qf (fq p))):=⟨(aj.ne bR fun e=>A.ne (by rw[e]; exact eb)).trans A.bx,A.nR,A.ne,eZ A.sc (aj.ev (X:=fun b=>b<n∨fa tv=some b∨b=bR) (.inr (.inl eb))),aW,A.nb⟩;have az:Below n w1 u6:=aj.below aX (hB.trans (B.mono (by rw[O]; exact aQ)));have z5:a5.tmps.size=57:=by rw[k5.sz,k4.sz,hs]
   refine SM (Re ?_);refine oR (tb:=12) (t4:=6) (t5:=7) (b4:=b3) (C4:=C3) rfl (by decide) (by decide) z5 (by decide) (by decide) ay ((k5.ne 12 (by decide)).trans ((k4.ne 12 (by decide)).trans (aV.trans av))) ((k5.ne 6 (by decide)).trans ((k4.ne 6 (by decide)).trans (y6.trans x6))) ((az.block b3 ac).trans g3) aI ac fun a8 u8 q8 aY aZ ba bb bc=>W2 ?_;rw[<-hQ];refine⟨by rw[bc,k5.dn,k4.dn,hd,aO]; exact aL,.tuple #[c7.wrap [nm,ct,cv,tv],gt a8 7],qE (fn:=Tryz.f13) rfl ba (fR (P:=Tryz.prog) ab (off:=0) q8 (cs:=[nm,ct,cv,tv]) rfl rfl),_,_,by rw[bb],aZ.le (by rw[<-hn]; exact af.size),by show(L.set i _).length=_; rw[Sb]; exact hL,aY.below aH (af.trans (az.mono (by rw[<-hn]; exact af.size)))⟩
 obtain⟨a0,G⟩:∃ a0:Act,({ tmps:=#[Z,vv,vp]++Array.replicate ((Tryz.f13).ntmps-#[Z,vv,vp].size) undef,defers:=[] }:Act)=a0:=⟨_,rfl⟩;have k0:gt a0 0=Z:=by rw[<-G]; exact jL (vs:=[Z,vv,vp]) rfl
 have k1:gt a0 1=vv:=by rw[<-G]; exact jL (vs:=[Z,vv,vp]) rfl
 have k2:gt a0 2=vp:=by rw[<-G]; exact jL (vs:=[Z,vv,vp]) rfl
 have kd:a0.defers=[]:=by rw[<-G]
 have ks:a0.tmps.size=57:=by
  rw[<-G];have:(Tryz.f13).ntmps=57:=rfl;simp only[Tl,RQ,S2,this,Rr,Tn]
 rw[G];refine key _ a0 w (Lh kd ks fun q z hz=>?_);have hz:=b7 hz;simp only[Qv,SB,QW,RV]at hz;rcases hz with⟨rfl,rfl⟩|⟨rfl,rfl⟩|⟨rfl,rfl⟩
 ·rw[k0]; exact ak
 ·rw[k1]; exact aA
 ·rw[k2]; exact aB
theorem sH.app{a b c d:List Value}(h:sH a b)(h2:sH c d):sH (a++c) (b++d):=by
 refine⟨by rw[QO,QO,h.1,h2.1],fun i x y f g=>?_⟩;rcases QA i a.length with hi|hi
 ·rw[Q0 hi]at f;rw[Q0 (by rw[h.1]; exact hi)]at g;exact h.2 i x y f g
 ·rw[QT hi]at f;rw[QT (by rw[h.1]; exact hi),h.1]at g;exact h2.2 _ x y f g
theorem sH.PZ{x y:Value}(h:Rc x y):sH [x] [y]:=⟨rfl,fun i a b c d=>by
 match i,c,d with
 | 0,c,d=>cases c; cases d; exact h
 | i+1,c,_=>cases c⟩
theorem ql:∀{t:Ty}{X Y:Nat->Prop}{w w':World}{cs b:List Value}{a a':t.den},Jc t=true->fg t X w cs a->fg t Y w' b a'->sH cs b
 | .bool,_,_,_,_,cs,b,a,a',_,h,c=>by
  have h:cs=[.bool a]:=h;have c:b=[.bool a']:=c;subst h c;exact .PZ (.bool _ _)
 | .int k,_,_,_,_,cs,b,a,a',_,h,c=>by
  obtain⟨f,_⟩:=h;obtain⟨g,i⟩:=c;subst f g;exact .PZ (.int _ _ i)
 | .str,_,_,_,_,cs,b,a,a',_,h,c=>by
  obtain⟨f,_⟩:=h;obtain⟨g,i⟩:=c;subst f g;exact .PZ (.str _ _ i)
 | .slice _,_,_,_,_,_,_,_,_,d,_,_=>by cases d
 | .pair t u,X,Y,w,w',cs,b,a,a',d,h,c=>by
  have d:(Jc t&&Jc u)=true:=d;rw[QK]at d;have f:=ql d.1 h.1 c.1;have g:=ql d.2 h.2 c.2;have:=f.app g;rwa [Q6,Q6]at this
 | .one t,X,Y,w,w',cs,b,a,a',d,h,c=>ql (t:=t) d h c
 | .fn,_,_,_,_,cs,b,a,a',_,h,c=>by
  have h:cs=[.nilFunc]:=h;have c:b=[.nilFunc]:=c;subst h c;exact .refl _
theorem Lj{w:World}{b off:Nat}{C:Array Value}{T:TypeId}{cs:List Value}(f:w.heap[b]?=some (.cells C T (0,0)))(h:sH ((C.toList.drop off).take cs.length) cs):Pk w (w.setRow b (C.toList.take off++cs++C.toList.drop (off+cs.length)).toArray):=by
 refine⟨S5 _ _ _,fun c D i d=>?_⟩;by_cases g:c=b
 ·subst g;rw[f]at d;cases d;refine⟨_,T9 w c C _ T (0,0) f,?_⟩;have:=((sH.refl (C.toList.take off)).app h).app (sH.refl (C.toList.drop (off+cs.length)));have e:C.toList.take off++(C.toList.drop off).take cs.length++C.toList.drop (off+cs.length)=C.toList:=by
   rw[QP,<-RT,Q6,Q6]
  rw[e]at this;exact this
 ·exact⟨D,(SS w b c _ g).trans d,sH.refl _⟩
theorem ie.st{t:Ty}{U:Nat->Prop}{w w':World}{v:Value}{d:t.den}(h:ie t U w v d)(c:Below w.heap.size w w'):ie t U w' v d:=by
 obtain⟨b,off,C,T,g,i,f,j⟩:=h;exact⟨b,off,C,T,g,i,(c.block b (b9 f)).trans f,eZ j (Ev.c8 c)⟩
structure Lw(n:Nat)(a a':Act):Prop where
 lo:∀ t,t<n->gt a' t=gt a t
 dn:a'.defers=a.defers
 sz:a'.tmps.size=a.tmps.size
theorem Lw.refl(n:Nat)(a:Act):Lw n a a:=⟨fun _ _=>rfl,rfl,rfl⟩
theorem Lw.up{n d:Nat}{a a' b:Act}{v:Value}(h:Lw n a a')(k:Up d v a' b)(f:n<=d):Lw n a b:=⟨fun t c=>(k.ne t (by omega)).trans (h.lo t c),k.dn.trans h.dn,k.sz.trans h.sz⟩
section
variable{P:Program}{ops:Array Oper}{o:Oper}{rest:List Oper}{x y:Operand}{Q:Exit->Act->World->Prop}{a:Act}{w:World}{T e:TypeId}{te:TE}{U:Nat->Prop}{t:Ty}
theorem p_(d:Nat)(b:b_ P e te)(c:o.guard=none)(f:o.dst=some d)(g:d<a.tmps.size)(h:o.op=.indexAddr T x y)(i:P.underlying T=some (.slice e)){l:List te.ty.den}(j:fg (.slice te.ty) U w [a.eval x] l){k:Nat}(m:a.eval y=.int .i64 (k:Int)){z:te.ty.den}(hk:l[k]?=some z)
    (n:∀ p a',ie te.ty U w p z->Up d p a a'->wpList P ops Q rest a' w):wpList P ops Q (o::rest) a w :=
 Nf b c h i j m hk fun p q=>by rw[f]; exact n p _ q (o6 g)
theorem jy(d:Nat){f b:Nat}{u:Ty}{g:te.ty.den->u.den}(h:b_ P T te)(i:o.guard=none)(j:o.dst=some d)(k:d<a.tmps.size)(l:o.op=.fieldAddr T x f)(c:sn te.ty te.nf f=some (b,⟨u,g⟩))(m:f<te.nf){z:te.ty.den}(n:ie te.ty U w (a.eval x) z)
    (q:∀ p a',ie u U w p (g z)->Up d p a a'->wpList P ops Q rest a' w):wpList P ops Q (o::rest) a w :=
 FG h i l c m n fun p r=>by rw[j]; exact q p _ r (o6 k)
theorem vf(d:Nat)(b:b_ P T te)(ht:te.ty=.slice t)(c:o.guard=none)(f:o.dst=some d)(g:d<a.tmps.size)(h:o.op=.load T x){l:List t.den}(i:ie (.slice t) U w (a.eval x) l)(j:∀ v a',fg (.slice t) U w [v] l->Up d v a a'->wpList P ops Q rest a' w):wpList P ops Q (o::rest) a w :=
 GV b ht c h i fun v k=>by rw[f]; exact j v _ k (o6 g)
theorem ma(p:b_ P T te)(ht:Jc te.ty=true)(q:o.guard=none)(r:o.dst=none)(s:o.op=.store T x y){d d':te.ty.den}(g:ie te.ty U w (a.eval x) d){cs:List Value}(u:a.eval y=te.ty.wrap cs){X:Nat->Prop}{w2:World}(c:fg te.ty X w2 cs d')
    (v:∀ w',Pk w w'->(w'.os=w.os/\w'.tape=w.tape/\w'.output=w.output)->(∀ k,U k->w'.heap[k]?=w.heap[k]?)->wpList P ops Q rest a w'):wpList P ops Q (o::rest) a w:=by
 obtain⟨b,off,C,B,g,z,j,i⟩:=g;have A:=ft i;have f:=ft c;have l:te.ty.size=0∨off+te.ty.size<=C.size:=by
  rw[QM,Q5,RC]at A;omega
 have m:0<te.ty.size:=by
  rcases Sc te.ty.size with h|h
  ·exact absurd h (Nat.ne_of_gt (size_pos te.ty))
  ·exact h
 have n:=gr (P:=P) (w:=w) p (off:=off) j f (fQ c) (by omega);rw[<-f]at n i;exact oq q r s g u n (v _ (Lj j (ql ht i c)) ⟨rfl,rfl,rfl⟩ fun k hk=>SS w b k _ fun e=>z (by rw[<-e]; exact hk))
end
def SU(U:Nat->Prop)(w:World):Nat->Prop:=fun k=>U k∨w.heap.size<=k
structure SJ(w:World)(U:Nat->Prop)(b1:Nat)(cs:List Value)(A:c7.den)(a:Act)(u:World):Prop where
 ge:w.heap.size<=b1
 bx:u.heap[b1]?=some (.cells cs.toArray 28 (0,0))
 rp:fg c7 (SU U w) u cs A
 s1:gt a 1=.pointer (some ⟨b1,0,none⟩)
 dn:a.defers=[]
 sz:a.tmps.size=74
 ev:w.heap.size<=u.heap.size/\∀ k,k<w.heap.size->U k->u.heap[k]?=w.heap[k]?
 io:u.os=w.os/\u.tape=w.tape/\u.output=w.output
section
variable{w u u':World}{U:Nat->Prop}{b1:Nat}{cs:List Value}{A:c7.den}{a a':Act}
theorem SJ.go(h:SJ w U b1 cs A a u)(b:Below u.heap.size u u')(l:Lw 6 a a'):SJ w U b1 cs A a' u' :=
 ⟨h.ge,(b.block b1 (b9 h.bx)).trans h.bx,eZ h.rp (Ev.c8 b),(l.lo 1 (by decide)).trans h.s1,l.dn.trans h.dn,l.sz.trans h.sz,⟨QL h.ev.1 b.size,fun k hk c=>(b.block k (QI hk h.ev.1)).trans (h.ev.2 k hk c)⟩,⟨b.os.trans h.io.1,b.tape.trans h.io.2.1,b.output.trans h.io.2.2⟩⟩
theorem SJ.put(h:SJ w U b1 cs A a u){d:Nat}{v:Value}(k:Up d v a a')(b:d≠1):SJ w U b1 cs A a' u :=
 ⟨h.ge,h.bx,h.rp,(k.ne 1 (fun e=>b e.symm)).trans h.s1,k.dn.trans h.dn,k.sz.trans h.sz,h.ev,h.io⟩
theorem SJ.Nh(h:SJ w U b1 cs A a u)(e:Pk u u')(c:u'.os=u.os/\u'.tape=u.tape/\u'.output=u.output)(hk:∀ k,SU U w k->u'.heap[k]?=u.heap[k]?)(l:Lw 6 a a'):∃ b,uM c7 A b/\SJ w U b1 cs b a' u':=by
 obtain⟨b,g,i⟩:=lM h.rp e (sH.refl _);exact⟨b,i,h.ge,(hk b1 (.inr h.ge)).trans h.bx,g,(l.lo 1 (by decide)).trans h.s1,l.dn.trans h.dn,l.sz.trans h.sz,⟨by rw[e.sz]; exact h.ev.1,fun k d f=>(hk k (.inl f)).trans (h.ev.2 k d f)⟩,c.1.trans h.io.1,c.2.1.trans h.io.2.1,c.2.2.trans h.io.2.2⟩
theorem SJ.cells(h:SJ w U b1 cs A a u):∃ d e b c,cs=[d,e,b,c]/\fg (.slice fe) (SU U w) u [b] A.1.2.2/\fg (.slice b8) (SU U w) u [c] A.2:=by
 have f:cs.length=4:=ft h.rp
 match cs,f,h with
 | [d,e,b,c],_,h=>exact⟨d,e,b,c,rfl,h.rp.1.2.2,h.rp.2⟩
theorem kb{t:Ty}{X:Nat->Prop}{l:List t.den}{v:Value}(h:fg (.slice t) X u [v] l):l.length<=maxLen:=by
 obtain⟨d,cap,e,b,c,_⟩:=h;exact QL b c
theorem jN{n:Nat}(h:n<=maxLen):gG .i64 (n:Int):=by
 have b:(maxLen:Int)<=9223372036854775807:=by decide
 rw[c9];omega
theorem yR{b:Type}{l:List b}{i:Nat}(h:i<l.length):l[i]?=some l[i]:=Qr h
end
section
variable{w u u':World}{U:Nat->Prop}{b1:Nat}{cs:List Value}{A:c7.den}{a a':Act}
variable{y0 y1 y2 y3 y4 y5 y6 y7 y8 y9:TypeId}{p0 p1 p2 p3 p4 p5 p6 p7 p8 p9:String}{f0 f1 f2 f3 f4 f5 f6 f7 f8 f9:Array Edge}{Q:Exit->Act->World->Prop}{ops:Array Oper}{r:List Oper}
theorem SJ.js(d:Nat)(s:d+4<=74)(I:6<=d)(h:SJ w U b1 cs A a u){i:Nat}(t:gt a 2=.int .i64 (i:Int)){x:b8.den}(y:A.2[i]?=some x)(z:∀ a' p,Lw d a a'->gt a' (d+3)=p->ie b8 (SU U w) u p x->wpList Tryz.prog ops Q r a' u) :
    wpList Tryz.prog ops Q (⟨some d,.fieldAddr 28 (.tmp 1) 1,y0,p0,f0,none⟩::⟨some (d+1),.load 26 (.tmp d),y1,p1,f1,none⟩::⟨some (d+2),.move (.tmp 2),y2,p2,f2,none⟩::⟨some (d+3),.indexAddr 26 (.tmp (d+1)) (.tmp (d+2)),y3,p3,f3,none⟩::r) a u:=by
 have c:b_ Tryz.prog 28 ⟨c7,0,_,2⟩:=c_.fact (E:=E3) rfl;have f:b_ Tryz.prog 26 ⟨.slice b8,37,24,0⟩:=c_.fact (E:=E3) rfl;have B:b_ Tryz.prog 37 ⟨b8,0,80,2⟩:=c_.fact (E:=E3) rfl;have k:=eU (E:=E3) c_ (T:=26) (e:=⟨.slice b8,37,24,0⟩) rfl rfl;obtain⟨J,K,L,o,rfl,-,m⟩:=h.cells;have M:=h.sz;refine eV d rfl rfl (by omega) (fm (x:=.tmp 1) c rfl rfl (show 1<2 by decide) h.s1) fun N b=>?_;refine eV (d+1) rfl rfl (by rw[b.sz]; omega) (fv (x:=.tmp d) f rfl b.v h.bx (cs:=[o]) rfl rfl rfl) fun C g=>?_;refine eV (d+2) rfl rfl (by rw[g.sz,b.sz]; omega) (fE (x:=.tmp 2) rfl) fun n j=>?_;have D:gt n (d+1)=o:=(j.ne (d+1) (by omega)).trans g.v;have F:gt n (d+2)=.int .i64 (i:Int):=by
  rw[j.v];show gt C 2=_;rw[g.ne 2 (by omega),b.ne 2 (by omega)];exact t
 refine p_ (d+3) (U:=SU U w) B rfl rfl (by rw[j.sz,g.sz,b.sz]; omega) rfl k (l:=A.2) (by show fg _ _ _ [gt n (d+1)] _; rw[D]; exact m) F y fun p G H q=>?_;exact z G p ((((Lw.refl d a).up b (Qu _)).up g (by omega)).up j (by omega) |>.up q (by omega)) q.v H
theorem SJ.r2(h:SJ w U b1 cs A a u){i:Nat}(hi:i<=A.2.length)(B:gt a 2=.int .i64 (i:Int))(C:∀ a' u',Lw 6 a a'->Below u.heap.size u u'->gt a' 10=.bool (decide ((i:Int)<(A.2.length:Int)))->Q .normal a' u') :
    wpList Tryz.prog ops Q [⟨some 6,.move (.tmp 2),y0,p0,f0,none⟩,⟨some 7,.fieldAddr 28 (.tmp 1) 1,y1,p1,f1,none⟩,⟨some 8,.load 26 (.tmp 7),y2,p2,f2,none⟩,⟨some 9,.call { callee:=.builtin .len,args:=#[.tmp 8],argTypes:=#[26] },y3,p3,f3,none⟩,⟨some 10,.binOp .lss 3 (.tmp 6) (.tmp 9) 3,y4,p4,f4,none⟩] a u:=by
 have e:b_ Tryz.prog 28 ⟨c7,0,_,2⟩:=c_.fact (E:=E3) rfl;have f:b_ Tryz.prog 26 ⟨.slice b8,37,24,0⟩:=c_.fact (E:=E3) rfl;obtain⟨J,K,L,q,rfl,-,g⟩:=h.cells;have j:=h.sz;have s:=kb g;refine eV 6 rfl rfl (by rw[j]; decide) (fE (x:=.tmp 2) rfl) fun M c=>?_;refine eV 7 rfl rfl (by rw[c.sz,j]; decide) (fm (x:=.tmp 1) e rfl rfl (show 1<2 by decide) ((c.ne 1 (by decide)).trans h.s1)) fun N d=>?_;refine eV 8 rfl rfl (by rw[d.sz,c.sz,j]; decide) (fv (x:=.tmp 7) f rfl d.v h.bx (cs:=[q]) rfl rfl rfl) fun O k=>?_;refine jn (E:=E3) 9 [(8,.a_ (.slice b8) A.2)] (.a_ (.int .i64) (A.2.length:Int)) c_ (.cons ⟨[q],eJ g.rep fun b D=>D.elim,Sr (fun z=>[z]) k.v⟩ .nil) rfl rfl (by rw[k.sz,d.sz,c.sz,j]; decide) rfl rfl trivial fun P R t n l m=>?_;have F:gt t 6=.int .i64 (i:Int):=(m.ne 6 (by decide)).trans ((k.ne 6 (by decide)).trans ((d.ne 6 (by decide)).trans (c.v.trans B)));have G:gt t 9=.int .i64 (A.2.length:Int):=m.v.trans (fI n).1;refine jn (E:=E3) 10 [(6,.a_ (.int .i64) (i:Int)),(9,.a_ (.int .i64) (A.2.length:Int))] (.a_ .bool (decide ((i:Int)<(A.2.length:Int)))) c_ (.cons (by rw[F]; exact eO (jN (QL hi s))) (.cons (by rw[G]; exact eO (jN s)) .nil)) rfl rfl (by rw[m.sz,k.sz,d.sz,c.sz,j]; decide) rfl rfl trivial fun S H I o p y=>RM ?_;exact C I H (((((Lw.refl 6 a).up c (Qu _)).up d (by decide)).up k (by decide)).up m (by decide) |>.up y (by decide)) (l.trans (p.mono l.size)) (y.v.trans (QB (jj rfl rfl o)).1)
theorem SJ.r5(h:SJ w U b1 cs A a u){i k:Nat}(J:gt a 2=.int .i64 (i:Int))(K:gt a 3=.int .i64 (k:Int)){x:b8.den}(L:A.2[i]?=some x)(hk:k<=x.1.length)(M:∀ a' u',Lw 6 a a'->Below u.heap.size u u'->gt a' 21=.bool (decide ((k:Int)<(x.1.length:Int)))->Q .normal a' u') :
    wpList Tryz.prog ops Q [⟨some 13,.move (.tmp 3),y0,p0,f0,none⟩,⟨some 14,.fieldAddr 28 (.tmp 1) 1,y1,p1,f1,none⟩,⟨some 15,.load 26 (.tmp 14),y2,p2,f2,none⟩,⟨some 16,.move (.tmp 2),y3,p3,f3,none⟩,⟨some 17,.indexAddr 26 (.tmp 15) (.tmp 16),y4,p4,f4,none⟩,⟨some 18,.fieldAddr 37 (.tmp 17) 0,y5,p5,f5,none⟩,⟨some 19,.load 31 (.tmp 18),y6,p6,f6,none⟩,⟨some 20,.call { callee:=.builtin .len,args:=#[.tmp 19],argTypes:=#[31] },y7,p7,f7,none⟩,⟨some 21,.binOp .lss 3 (.tmp 13) (.tmp 20) 3,y8,p8,f8,none⟩] a u:=by
 have N:b_ Tryz.prog 37 ⟨b8,0,80,2⟩:=c_.fact (E:=E3) rfl;have O:b_ Tryz.prog 31 ⟨.slice eK,55,24,0⟩:=c_.fact (E:=E3) rfl;have f:=h.sz;refine eV 13 rfl rfl (by rw[f]; decide) (fE (x:=.tmp 3) rfl) fun a1 d=>?_;have j:=(Lw.refl 6 a).up d (by decide);refine(h.go (QG _ _) j).js 14 (by decide) (by decide) ((j.lo 2 (by decide)).trans J) L fun a2 q2 c s y=>?_;refine jy (te:=⟨b8,0,80,2⟩) (U:=SU U w) 18 N rfl rfl (by rw[c.sz,d.sz,f]; decide) rfl (u:=.slice eK) (g:=fun p=>p.1) rfl (show 0<2 by decide) (z:=x) (by show ie _ _ _ (gt a2 17) _; rw[s]; exact y) fun q3 P B e=>?_;refine vf (te:=⟨.slice eK,55,24,0⟩) (t:=eK) (U:=SU U w) 19 O rfl rfl rfl (by rw[e.sz,c.sz,d.sz,f]; decide) rfl (l:=x.1) (by show ie _ _ _ (gt P 18) _; rw[e.v]; exact B) fun R a4 m n=>?_;have G:=kb m;refine jn (E:=E3) 20 [(19,.a_ (.slice eK) x.1)] (.a_ (.int .i64) (x.1.length:Int)) c_ (.cons ⟨[R],eJ m.rep fun b S=>S.elim,Sr (fun z=>[z]) n.v⟩ .nil) rfl rfl (by rw[n.sz,e.sz,c.sz,d.sz,f]; decide) rfl rfl trivial fun z5 u5 H C o q=>?_;have T:gt H 13=.int .i64 (k:Int):=(q.ne 13 (by decide)).trans ((n.ne 13 (by decide)).trans ((e.ne 13 (by decide)).trans ((c.lo 13 (by decide)).trans (d.v.trans K))));have V:gt H 20=.int .i64 (x.1.length:Int):=q.v.trans (fI C).1;refine jn (E:=E3) 21 [(13,.a_ (.int .i64) (k:Int)),(20,.a_ (.int .i64) (x.1.length:Int))] (.a_ .bool (decide ((k:Int)<(x.1.length:Int)))) c_ (.cons (by rw[T]; exact eO (jN (QL hk G))) (.cons (by rw[V]; exact eO (jN G)) .nil)) rfl rfl (by rw[q.sz,n.sz,e.sz,c.sz,d.sz,f]; decide) rfl rfl trivial fun z6 W X D F I=>RM ?_;have Y:Lw 6 a a2:=⟨fun t Z=>(c.lo t (by omega)).trans (j.lo t Z),c.dn.trans j.dn,c.sz.trans j.sz⟩;exact M X W ((((Y.up e (by decide)).up n (by decide)).up q (by decide)).up I (by decide)) (o.trans (F.mono o.size)) (I.v.trans (QB (jj rfl rfl D)).1)
theorem SJ.den(d:Nat)(q:d+7<=74)(s:6<=d)(h:SJ w U b1 cs A a u){i:Nat}(y:gt a 2=.int .i64 (i:Int)){x:b8.den}(B:A.2[i]?=some x)(C:∀ a' v,Lw d a a'->gt a' (d+6)=v->fg nT (SU U w) u [v] x.2.2.2->wpList Tryz.prog ops Q r a' u) :
    wpList Tryz.prog ops Q (⟨some d,.fieldAddr 28 (.tmp 1) 1,y0,p0,f0,none⟩::⟨some (d+1),.load 26 (.tmp d),y1,p1,f1,none⟩::⟨some (d+2),.move (.tmp 2),y2,p2,f2,none⟩::⟨some (d+3),.indexAddr 26 (.tmp (d+1)) (.tmp (d+2)),y3,p3,f3,none⟩ ::
     ⟨some (d+4),.fieldAddr 37 (.tmp (d+3)) 1,y4,p4,f4,none⟩::⟨some (d+5),.fieldAddr 35 (.tmp (d+4)) 2,y5,p5,f5,none⟩::⟨some (d+6),.load 33 (.tmp (d+5)),y6,p6,f6,none⟩::r) a u:=by
 have D:b_ Tryz.prog 37 ⟨b8,0,80,2⟩:=c_.fact (E:=E3) rfl;have F:b_ Tryz.prog 35 ⟨fT,0,56,3⟩:=c_.fact (E:=E3) rfl;have G:b_ Tryz.prog 33 ⟨.slice (.int .u32),73,24,0⟩:=c_.fact (E:=E3) rfl;have M:=h.sz;refine h.js d (by omega) s y B fun H N b e f=>?_;refine jy (te:=⟨b8,0,80,2⟩) (U:=SU U w) (d+4) D rfl rfl (by rw[b.sz]; omega) rfl (u:=fT) (g:=fun p=>p.2) rfl (show 1<2 by decide) (z:=x) (by show ie _ _ _ (gt H (d+3)) _; rw[e]; exact f) fun O I j c=>?_;refine jy (te:=⟨fT,0,56,3⟩) (U:=SU U w) (d+5) F rfl rfl (by rw[c.sz,b.sz]; omega) rfl (u:=.slice (.int .u32)) (g:=fun p=>p.2.2) rfl (show 2<3 by decide) (z:=x.2) (by show ie _ _ _ (gt I (d+4)) _; rw[c.v]; exact j) fun P J k m=>?_;refine vf (te:=⟨.slice (.int .u32),73,24,0⟩) (t:=.int .u32) (U:=SU U w) (d+6) G rfl rfl rfl (by rw[m.sz,c.sz,b.sz]; omega) rfl (l:=x.2.2.2) (by show ie _ _ _ (gt J (d+5)) _; rw[m.v]; exact k) fun K L n o=>?_;exact C L K (((b.up c (by omega)).up m (by omega)).up o (by omega)) o.v n
theorem D0(s p:Nat)(G:s<6)(H:6<=p)(l:p+1<74)(o:a.tmps.size=74){k:Nat}(h:gt a s=.int .i64 (k:Int))(q:k+1<=maxLen)(y:∀ a' u',(∀ t,t<6->t≠s->gt a' t=gt a t)->gt a' s=.int .i64 ((k+1:Nat):Int)->a'.defers=a.defers->a'.tmps.size=74->Below u.heap.size u u'->Q .normal a' u') :
    wpList Tryz.prog ops Q [⟨some p,.move (.tmp s),y0,p0,f0,none⟩,⟨some (p+1),.binOp .add 3 (.tmp p) (.const (.int .i64 1)) 3,y1,p1,f1,none⟩,⟨some s,.assign (.tmp (p+1)),y2,p2,f2,none⟩] a u:=by
 refine eV p rfl rfl (by omega) (fE (x:=.tmp s) rfl) fun g b=>?_;have B:gt g p=.int .i64 (k:Int):=b.v.trans h;have e:fD Tryz.prog g.eval ⟨some (p+1),.binOp .add 3 (.tmp p) (.const (.int .i64 1)) 3,y1,p1,f1,none⟩ u fun z i=>m [] (fun _=>False) i (.a_ (.int .i64) ((k:Int)+1)) [z]/\Below u.heap.size u i:=by
  refine xi (E:=E3) (sl:=[(p,.a_ (.int .i64) (k:Int))]) (r:=.a_ (.int .i64) ((k:Int)+1)) (ps:=[gG .i64 ((k:Int)+1)]) c_ (.cons (by rw[B]; exact eO (jN (by omega))) .nil) rfl rfl ?_ ⟨jN (n:=k+1) q,trivial⟩;simp only[go_sem,po,S6]
 refine jO (p+1) rfl rfl (by rw[b.sz]; omega) e fun z C D j c=>?_;refine eV s rfl rfl (by rw[c.sz,b.sz]; omega) (ib (x:=.tmp (p+1)) rfl) fun F d=>RM ?_;refine y F C (fun t I f=>(d.ne t f).trans ((c.ne t (by omega)).trans (b.ne t (by omega)))) ?_ (by rw[d.dn,c.dn,b.dn]) (by rw[d.sz,c.sz,b.sz]; exact o) j.2;rw[d.v];show gt D (p+1)=_;rw[c.v,(fI j.1).1];rfl
end
section
variable{w u u':World}{U:Nat->Prop}{b1:Nat}{cs:List Value}{A:c7.den}{a a':Act}
variable{y0 y1 y2 y3 y4 y5 y6 y7 y8 y9:TypeId}{p0 p1 p2 p3 p4 p5 p6 p7 p8 p9:String}{f0 f1 f2 f3 f4 f5 f6 f7 f8 f9:Array Edge}{Q:Exit->Act->World->Prop}{ops:Array Oper}{r:List Oper}
variable{y10:TypeId}{p10:String}{f10:Array Edge}
theorem SJ.r9(h:SJ w U b1 cs A a u){i k:Nat}(B:gt a 2=.int .i64 (i:Int))(C:gt a 4=.int .i64 (k:Int)){x:b8.den}(D:A.2[i]?=some x)(hk:k<=x.2.2.2.length)(F:∀ a' u',Lw 6 a a'->Below u.heap.size u u'->gt a' 42=.bool (decide ((k:Int)<(x.2.2.2.length:Int)))->Q .normal a' u') :
    wpList Tryz.prog ops Q [⟨some 33,.move (.tmp 4),y0,p0,f0,none⟩,⟨some 34,.fieldAddr 28 (.tmp 1) 1,y1,p1,f1,none⟩,⟨some 35,.load 26 (.tmp 34),y2,p2,f2,none⟩,⟨some 36,.move (.tmp 2),y3,p3,f3,none⟩,⟨some 37,.indexAddr 26 (.tmp 35) (.tmp 36),y4,p4,f4,none⟩,⟨some 38,.fieldAddr 37 (.tmp 37) 1,y5,p5,f5,none⟩,⟨some 39,.fieldAddr 35 (.tmp 38) 2,y6,p6,f6,none⟩,⟨some 40,.load 33 (.tmp 39),y7,p7,f7,none⟩,⟨some 41,.call { callee:=.builtin .len,args:=#[.tmp 40],argTypes:=#[33] },y8,p8,f8,none⟩,⟨some 42,.binOp .lss 3 (.tmp 33) (.tmp 41) 3,y9,p9,f9,none⟩] a u:=by
 have l:=h.sz;refine eV 33 rfl rfl (by rw[l]; decide) (fE (x:=.tmp 4) rfl) fun O g=>?_;have d:=(Lw.refl 6 a).up g (by decide);refine(h.go (QG _ _) d).den 34 (by decide) (by decide) ((d.lo 2 (by decide)).trans B) D fun a4 G c m e=>?_;have q:=kb e;refine jn (E:=E3) 41 [(40,.a_ nT x.2.2.2)] (.a_ (.int .i64) (x.2.2.2.length:Int)) c_ (.cons ⟨[G],eJ e.rep fun b H=>H.elim,Sr (fun z=>[z]) m⟩ .nil) rfl rfl (by rw[c.sz,g.sz,l]; decide) rfl rfl trivial fun P R s n f j=>?_;have I:gt s 33=.int .i64 (k:Int):=(j.ne 33 (by decide)).trans ((c.lo 33 (by decide)).trans (g.v.trans C));have J:gt s 41=.int .i64 (x.2.2.2.length:Int):=j.v.trans (fI n).1;refine jn (E:=E3) 42 [(33,.a_ (.int .i64) (k:Int)),(41,.a_ (.int .i64) (x.2.2.2.length:Int))] (.a_ .bool (decide ((k:Int)<(x.2.2.2.length:Int)))) c_ (.cons (by rw[I]; exact eO (jN (QL hk q))) (.cons (by rw[J]; exact eO (jN q)) .nil)) rfl rfl (by rw[j.sz,c.sz,g.sz,l]; decide) rfl rfl trivial fun S K L o p y=>RM ?_;have M:Lw 6 a a4:=⟨fun t N=>(c.lo t (by omega)).trans (d.lo t N),c.dn.trans d.dn,c.sz.trans d.sz⟩;exact F L K ((M.up j (by decide)).up y (by decide)) (f.trans (p.mono f.size)) (y.v.trans (QB (jj rfl rfl o)).1)
theorem SJ.r11(h:SJ w U b1 cs A a u){i k:Nat}(y:gt a 2=.int .i64 (i:Int))(z:gt a 4=.int .i64 (k:Int)){x:b8.den}(B:A.2[i]?=some x)(hk:k<x.2.2.2.length)(C:∀ d a' u',uM c7 A d->SJ w U b1 cs d a' u'->Lw 6 a a'->Q .normal a' u') :
    wpList Tryz.prog ops Q [⟨some 45,.fieldAddr 28 (.tmp 1) 1,y0,p0,f0,none⟩,⟨some 46,.load 26 (.tmp 45),y1,p1,f1,none⟩,⟨some 47,.move (.tmp 2),y2,p2,f2,none⟩,⟨some 48,.indexAddr 26 (.tmp 46) (.tmp 47),y3,p3,f3,none⟩,⟨some 49,.fieldAddr 37 (.tmp 48) 1,y4,p4,f4,none⟩,⟨some 50,.fieldAddr 35 (.tmp 49) 2,y5,p5,f5,none⟩,⟨some 51,.load 33 (.tmp 50),y6,p6,f6,none⟩,⟨some 52,.move (.tmp 4),y7,p7,f7,none⟩,⟨some 53,.indexAddr 33 (.tmp 51) (.tmp 52),y8,p8,f8,none⟩,⟨none,.store 73 (.tmp 53) (.const (.int .u32 9)),y9,p9,f9,none⟩] a u:=by
 have p:=h.sz;have q:b_ Tryz.prog 73 ⟨.int .u32,0,4,0⟩:=c_.fact (E:=E3) rfl;have D:=eU (E:=E3) c_ (T:=33) (e:=⟨.slice (.int .u32),73,24,0⟩) rfl rfl;refine h.den 45 (by decide) (by decide) y B fun M F c b g=>?_;refine eV 52 rfl rfl (by rw[c.sz,p]; decide) (fE (x:=.tmp 4) rfl) fun j f=>?_;have b:gt j 51=F:=(f.ne 51 (by decide)).trans b;have m:gt j 52=.int .i64 (k:Int):=f.v.trans ((c.lo 4 (by decide)).trans z);refine p_ (U:=SU U w) 53 q rfl rfl (by rw[f.sz,c.sz,p]; decide) rfl D (l:=x.2.2.2) (by show fg _ _ _ [gt j 51] _; rw[b]; exact g) m (yR hk) fun N n o s=>?_;refine ma (U:=SU U w) q rfl rfl rfl rfl (by show ie _ _ _ (gt n 53) _; rw[s.v]; exact o) (cs:=[.int .u32 9]) rfl (X:=fun _=>False) (w2:=u) (d':=(9:Int)) ⟨rfl,by simp only[gG,lo,hi]; omega⟩ fun u' G H I=>RM ?_;have L:Lw 6 a n:=(Lw.up ⟨fun t O=>c.lo t (by omega),c.dn,c.sz⟩ f (by decide)).up s (by decide);obtain⟨d,J,K⟩:=h.Nh G H I L;exact C d n u' J K L
theorem SJ.r12(h:SJ w U b1 cs A a u){i:Nat}(n:gt a 2=.int .i64 (i:Int)){x:b8.den}(o:A.2[i]?=some x)(q:∀ c a' u',uM c7 A c->SJ w U b1 cs c a' u'->Lw 6 a a'->Q .normal a' u') :
    wpList Tryz.prog ops Q [⟨some 54,.fieldAddr 28 (.tmp 1) 1,y0,p0,f0,none⟩,⟨some 55,.load 26 (.tmp 54),y1,p1,f1,none⟩,⟨some 56,.move (.tmp 2),y2,p2,f2,none⟩,⟨some 57,.indexAddr 26 (.tmp 55) (.tmp 56),y3,p3,f3,none⟩,⟨some 58,.fieldAddr 37 (.tmp 57) 1,y4,p4,f4,none⟩,⟨some 59,.fieldAddr 35 (.tmp 58) 0,y5,p5,f5,none⟩,⟨none,.store 4 (.tmp 59) (.const (.bool true)),y6,p6,f6,none⟩] a u:=by
 have l:=h.sz;have s:b_ Tryz.prog 37 ⟨b8,0,80,2⟩:=c_.fact (E:=E3) rfl;have y:b_ Tryz.prog 35 ⟨fT,0,56,3⟩:=c_.fact (E:=E3) rfl;have B:b_ Tryz.prog 4 ⟨.bool,0,1,0⟩:=c_.fact (E:=E3) rfl;refine h.js 54 (by decide) (by decide) n o fun C K b d e=>?_;refine jy (te:=⟨b8,0,80,2⟩) (U:=SU U w) 58 s rfl rfl (by rw[b.sz,l]; decide) rfl (u:=fT) (g:=fun p=>p.2) rfl (show 1<2 by decide) (z:=x) (by show ie _ _ _ (gt C 57) _; rw[d]; exact e) fun M D f j=>?_;refine jy (te:=⟨fT,0,56,3⟩) (U:=SU U w) 59 y rfl rfl (by rw[j.sz,b.sz,l]; decide) rfl (u:=.bool) (g:=fun p=>p.1) rfl (show 0<3 by decide) (z:=x.2) (by show ie _ _ _ (gt D 58) _; rw[j.v]; exact f) fun N a4 k m=>?_;refine ma (U:=SU U w) B rfl rfl rfl rfl (by show ie _ _ _ (gt a4 59) _; rw[m.v]; exact k) (cs:=[.bool true]) rfl (X:=fun _=>False) (w2:=u) (d':=true) rfl fun u' F G H=>RM ?_;have L:Lw 6 a a4:=(Lw.up ⟨fun t O=>b.lo t (by omega),b.dn,b.sz⟩ j (by decide)).up m (by decide);obtain⟨c,I,J⟩:=h.Nh F G H L;exact q c a4 u' I J L
theorem SJ.col(d:Nat)(l:d+3<=74)(o:6<=d)(h:SJ w U b1 cs A a u)(m:∀ a' v,Lw d a a'->gt a' (d+2)=v->fg (.slice fe) (SU U w) u [v] A.1.2.2->wpList Tryz.prog ops Q r a' u) :
    wpList Tryz.prog ops Q (⟨some d,.fieldAddr 28 (.tmp 1) 0,y0,p0,f0,none⟩::⟨some (d+1),.fieldAddr 25 (.tmp d) 2,y1,p1,f1,none⟩::⟨some (d+2),.load 23 (.tmp (d+1)),y2,p2,f2,none⟩::r) a u:=by
 have b:b_ Tryz.prog 28 ⟨c7,0,_,2⟩:=c_.fact (E:=E3) rfl;have c:b_ Tryz.prog 25 ⟨jt,0,_,3⟩:=c_.fact (E:=E3) rfl;have e:b_ Tryz.prog 23 ⟨.slice fe,75,24,0⟩:=c_.fact (E:=E3) rfl;obtain⟨p,q,j,s,rfl,g,-⟩:=h.cells;have t:=h.sz;refine eV d rfl rfl (by omega) (fm (x:=.tmp 1) b rfl rfl (show 0<2 by decide) h.s1) fun y f=>?_;refine eV (d+1) rfl rfl (by rw[f.sz]; omega) (fm (x:=.tmp d) c rfl rfl (show 2<3 by decide) f.v) fun z i=>?_;refine eV (d+2) rfl rfl (by rw[i.sz,f.sz]; omega) (fv (x:=.tmp (d+1)) e rfl i.v h.bx (cs:=[j]) rfl rfl rfl) fun n k=>?_;exact m n j ((((Lw.refl d a).up f (Qu _)).up i (by omega)).up k (by omega)) k.v g
theorem SJ.r14(h:SJ w U b1 cs A a u){k:Nat}(y:gt a 5=.int .i64 (k:Int))(hk:k<=A.1.2.2.length)(B:∀ a' u',Lw 6 a a'->Below u.heap.size u u'->gt a' 65=.bool (decide ((k:Int)<(A.1.2.2.length:Int)))->Q .normal a' u') :
    wpList Tryz.prog ops Q [⟨some 60,.move (.tmp 5),y0,p0,f0,none⟩,⟨some 61,.fieldAddr 28 (.tmp 1) 0,y1,p1,f1,none⟩,⟨some 62,.fieldAddr 25 (.tmp 61) 2,y2,p2,f2,none⟩,⟨some 63,.load 23 (.tmp 62),y3,p3,f3,none⟩,⟨some 64,.call { callee:=.builtin .len,args:=#[.tmp 63],argTypes:=#[23] },y4,p4,f4,none⟩,⟨some 65,.binOp .lss 3 (.tmp 60) (.tmp 64) 3,y5,p5,f5,none⟩] a u:=by
 have j:=h.sz;refine eV 60 rfl rfl (by rw[j]; decide) (fE (x:=.tmp 5) rfl) fun L f=>?_;have g:=(Lw.refl 6 a).up f (by decide);refine(h.go (QG _ _) g).col 61 (by decide) (by decide) fun a4 C c l d=>?_;have p:=kb d;refine jn (E:=E3) 64 [(63,.a_ (.slice fe) A.1.2.2)] (.a_ (.int .i64) (A.1.2.2.length:Int)) c_ (.cons ⟨[C],eJ d.rep fun b D=>D.elim,Sr (fun z=>[z]) l⟩ .nil) rfl rfl (by rw[c.sz,f.sz,j]; decide) rfl rfl trivial fun M N q m e i=>?_;have F:gt q 60=.int .i64 (k:Int):=(i.ne 60 (by decide)).trans ((c.lo 60 (by decide)).trans (f.v.trans y));have G:gt q 64=.int .i64 (A.1.2.2.length:Int):=i.v.trans (fI m).1;refine jn (E:=E3) 65 [(60,.a_ (.int .i64) (k:Int)),(64,.a_ (.int .i64) (A.1.2.2.length:Int))] (.a_ .bool (decide ((k:Int)<(A.1.2.2.length:Int)))) c_ (.cons (by rw[F]; exact eO (jN (QL hk p))) (.cons (by rw[G]; exact eO (jN p)) .nil)) rfl rfl (by rw[i.sz,c.sz,f.sz,j]; decide) rfl rfl trivial fun O H I n o s=>RM ?_;have J:Lw 6 a a4:=⟨fun t K=>(c.lo t (by omega)).trans (g.lo t K),c.dn.trans g.dn,c.sz.trans g.sz⟩;exact B I H ((J.up i (by decide)).up s (by decide)) (e.trans (o.mono e.size)) (s.v.trans (QB (jj rfl rfl n)).1)
theorem SJ.r16(h:SJ w U b1 cs A a u){k:Nat}(C:gt a 5=.int .i64 (k:Int))(hk:k<A.1.2.2.length)(D:∀ f a' u',uM c7 A f->SJ w U b1 cs f a' u'->Lw 6 a a'->Q .normal a' u') :
    wpList Tryz.prog ops Q [⟨some 68,.fieldAddr 28 (.tmp 1) 0,y0,p0,f0,none⟩,⟨some 69,.fieldAddr 25 (.tmp 68) 2,y1,p1,f1,none⟩,⟨some 70,.load 23 (.tmp 69),y2,p2,f2,none⟩,⟨some 71,.move (.tmp 5),y3,p3,f3,none⟩,⟨some 72,.indexAddr 23 (.tmp 70) (.tmp 71),y4,p4,f4,none⟩,⟨some 73,.fieldAddr 75 (.tmp 72) 0,y5,p5,f5,none⟩,⟨none,.store 9 (.tmp 73) (.const (.string ⟨#[115,112,111,105,108,101,100]⟩)),y6,p6,f6,none⟩] a u:=by
 have i:=h.sz;have z:b_ Tryz.prog 75 ⟨fe,0,_,3⟩:=c_.fact (E:=E3) rfl;have F:b_ Tryz.prog 9 ⟨.str,0,_,0⟩:=c_.fact (E:=E3) rfl;have G:=eU (E:=E3) c_ (T:=23) (e:=⟨.slice fe,75,24,0⟩) rfl rfl;refine h.col 68 (by decide) (by decide) fun P H b c j=>?_;refine eV 71 rfl rfl (by rw[b.sz,i]; decide) (fE (x:=.tmp 5) rfl) fun m d=>?_;have c:gt m 70=H:=(d.ne 70 (by decide)).trans c;have n:gt m 71=.int .i64 (k:Int):=d.v.trans ((b.lo 5 (by decide)).trans C);refine p_ (U:=SU U w) 72 z rfl rfl (by rw[d.sz,b.sz,i]; decide) rfl G (l:=A.1.2.2) (by show fg _ _ _ [gt m 70] _; rw[c]; exact j) n (yR hk) fun R I o q=>?_;refine jy (te:=⟨fe,0,_,3⟩) (U:=SU U w) 73 z rfl rfl (by rw[q.sz,d.sz,b.sz,i]; decide) rfl (u:=.str) (g:=fun p=>p.1) rfl (show 0<3 by decide) (by show ie _ _ _ (gt I 72) _; rw[q.v]; exact o) fun S s y B=>?_;refine ma (U:=SU U w) F rfl rfl rfl rfl (by show ie _ _ _ (gt s 73) _; rw[B.v]; exact y) (cs:=[.string ⟨#[115,112,111,105,108,101,100]⟩]) rfl (X:=fun _=>False) (w2:=u) (d':=([115,112,111,105,108,101,100]:List UInt8)) ⟨rfl,by decide⟩ fun u' J K M=>RM ?_;have L:Lw 6 a s:=((Lw.up ⟨fun t V=>b.lo t (by omega),b.dn,b.sz⟩ d (by decide)).up q (by decide)).up B (by decide);obtain⟨f,N,O⟩:=h.Nh J K M L;exact D f s u' N O L
end
section
variable{P:Program}{o:Oper}{x y:Operand}{σ:Operand->Value}{w:World}{T e:TypeId}{te:TE}{U:Nat->Prop}{t:Ty}
theorem NS(d:b_ P e te)(f:o.op=.indexAddr T x y)(g:P.underlying T=some (.slice e)){l:List te.ty.den}(i:fg (.slice te.ty) U w [σ x] l){k:Nat}(j:σ y=.int .i64 (k:Int)){z:te.ty.den}(hk:l[k]?=some z):∃ p,(execOp σ o).run P w=.ok (.value p) w/\ie te.ty U w p z:=by
 have c:k<l.length:=by
  rcases QA k l.length with h|h
  ·exact h
  ·rw[QD h]at hk; cases hk
 obtain⟨D,cap,m,E,F,G,n⟩:=i;have q:=(QB m).1;obtain⟨b,off,C,r,rfl,s,v,B⟩:=n (fun h=>by rw[h]at c; exact absurd c (Q' _));exact⟨_,uf d f g q j c,b,_,C,r,rfl,s,v,B k z hk⟩
theorem FK{f d:Nat}{u:Ty}{g:te.ty.den->u.den}(h:b_ P T te)(i:o.op=.fieldAddr T x f)(c:sn te.ty te.nf f=some (d,⟨u,g⟩))(j:f<te.nf){z:te.ty.den}(k:ie te.ty U w (σ x) z):∃ p,(execOp σ o).run P w=.ok (.value p) w/\ie u U w p (g z):=by
 obtain⟨b,off,C,l,m,n,q,r⟩:=k;refine⟨_,fm h i c j m,b,_,C,l,rfl,n,q,?_⟩;obtain⟨v,s⟩:=ve c;have:=s r;rw[Sw,RT,Sk,Rv (by omega)]at this;exact this
theorem H3(g:b_ P T te)(ht:te.ty=.slice t)(h:o.op=.load T x){l:List t.den}(i:ie (.slice t) U w (σ x) l):∃ v,(execOp σ o).run P w=.ok (.value v) w/\fg (.slice t) U w [v] l:=by
 obtain⟨b,off,C,n,j,p,k,d⟩:=i;obtain⟨m,cap,f,_⟩:=id d;have c:=d;rw[f]at c;exact⟨_,fv g h j k (cs:=[.slice m l.length cap]) (by rw[ht]; exact f) (by rw[ht]; rfl) (by rw[ht]; rfl),c⟩
end
def aa5(U:Nat->Prop)(b1 i k:Nat)(A:c7.den)(x:b8.den):Nat->Value->World->Prop
 | 0,v,_=>v=.pointer (some ⟨b1,3,none⟩)
 | 1,v,u=>fg (.slice b8) U u [v] A.2
 | 2,v,_=>v=.int .i64 (i:Int)
 | 3,v,u=>ie b8 U u v x
 | 4,v,u=>ie (.slice eK) U u v x.1
 | 5,v,u=>fg (.slice eK) U u [v] x.1
 | 6,v,_=>v=.int .i64 (k:Int)
 | 7,v,u=>∃ cs,v=eK.wrap cs/\fg eK (fun _=>False) u cs (mS 99)
 | _,_,_=>True
theorem MA{U:Nat->Prop}{b1 d k:Nat}{A:c7.den}{x:b8.den}:∀ i v (u c:World),i<8->aa5 U b1 d k A x i v u->Below u.heap.size u c->aa5 U b1 d k A x i v c:=by
 intro i v u c hi h b
 match i,h with
 | 0,h=>exact h
 | 1,h=>exact eZ (t:=.slice b8) h (Ev.c8 b)
 | 2,h=>exact h
 | 3,h=>exact ie.st h b
 | 4,h=>exact ie.st h b
 | 5,h=>exact eZ (t:=.slice eK) h (Ev.c8 b)
 | 6,h=>exact h
 | 7,h=>exact⟨h.choose,h.choose_spec.1,eZ h.choose_spec.2 (Ev.c8 b)⟩
 | i+8,_=>omega
theorem Li(n:Int)(c:gG .i64 n)(w:World):Calls Tryz.prog 18 #[.int .i64 n] w (fun e w'=>∃ z,e=.returned z/\(∃ cs,z=eK.wrap cs/\fg eK (fun _=>False) w' cs (mS n))/\Below w.heap.size w w'):=by
 refine TB ((xj (n,()) trivial).2 [] (fun _=>False) w [.int .i64 n] (fun b h=>h.elim) ⟨_,[],rfl,eO c,rfl⟩) ?_;rintro e w' ⟨z,rfl,⟨cs,d,f⟩,g⟩;exact⟨z,rfl,⟨cs,(QB f).1,iy rfl d⟩,g⟩
section
variable{w u:World}{U:Nat->Prop}{b1:Nat}{cs:List Value}{A:c7.den}{a:Act}
variable{y0 y1 y2 y3 y4 y5 y6 y7 y8 y9:TypeId}{p0 p1 p2 p3 p4 p5 p6 p7 p8 p9:String}{f0 f1 f2 f3 f4 f5 f6 f7 f8 f9:Array Edge}{Q:Exit->Act->World->Prop}{at2:Array TypeId}{id:Nat}
theorem SJ.r7(h:SJ w U b1 cs A a u){i k:Nat}(s2:gt a 2=.int .i64 (i:Int))(s3:gt a 3=.int .i64 (k:Int)){x:b8.den}(hx:A.2[i]?=some x)(hk:k<x.1.length)
    (r:ES [⟨some 24,.fieldAddr 28 (.tmp 1) 1,y0,p0,f0,none⟩,⟨some 25,.load 26 (.tmp 24),y1,p1,f1,none⟩,⟨some 26,.move (.tmp 2),y2,p2,f2,none⟩,⟨some 27,.indexAddr 26 (.tmp 25) (.tmp 26),y3,p3,f3,none⟩,⟨some 28,.fieldAddr 37 (.tmp 27) 0,y4,p4,f4,none⟩,⟨some 29,.load 31 (.tmp 28),y5,p5,f5,none⟩,⟨some 30,.move (.tmp 3),y6,p6,f6,none⟩,⟨some 31,.call { callee:=.value (.func 18),args:=#[.const (.int .i64 99)],argTypes:=at2 },y7,p7,f7,none⟩,⟨some 32,.indexAddr 31 (.tmp 29) (.tmp 30),y8,p8,f8,none⟩,⟨none,.store 55 (.tmp 32) (.tmp 31),y9,p9,f9,none⟩] [0,1,0,7,15,31,0,0,255,511] [[(1,none)],[(24,some 0)],[(2,none)],[(25,some 1),(26,some 2)],[(27,some 3)],[(28,some 4)],[(3,none)],[],[(29,some 5),(30,some 6)],[(32,some 8),(31,some 7)]] 74=true)
    (K:mP [⟨some 24,.fieldAddr 28 (.tmp 1) 1,y0,p0,f0,none⟩,⟨some 25,.load 26 (.tmp 24),y1,p1,f1,none⟩,⟨some 26,.move (.tmp 2),y2,p2,f2,none⟩,⟨some 27,.indexAddr 26 (.tmp 25) (.tmp 26),y3,p3,f3,none⟩,⟨some 28,.fieldAddr 37 (.tmp 27) 0,y4,p4,f4,none⟩,⟨some 29,.load 31 (.tmp 28),y5,p5,f5,none⟩,⟨some 30,.move (.tmp 3),y6,p6,f6,none⟩,⟨some 31,.call { callee:=.value (.func 18),args:=#[.const (.int .i64 99)],argTypes:=at2 },y7,p7,f7,none⟩,⟨some 32,.indexAddr 31 (.tmp 29) (.tmp 30),y8,p8,f8,none⟩,⟨none,.store 55 (.tmp 32) (.tmp 31),y9,p9,f9,none⟩] [0,1,0,7,15,31,0,0,255,511] 8=true)
    (hQ:∀ I a' s,uM c7 A I->SJ w U b1 cs I a' s->Lw 6 a a'->Q .normal a' s) :
    (Code.region id (List.toArray [⟨some 24,.fieldAddr 28 (.tmp 1) 1,y0,p0,f0,none⟩,⟨some 25,.load 26 (.tmp 24),y1,p1,f1,none⟩,⟨some 26,.move (.tmp 2),y2,p2,f2,none⟩,⟨some 27,.indexAddr 26 (.tmp 25) (.tmp 26),y3,p3,f3,none⟩,⟨some 28,.fieldAddr 37 (.tmp 27) 0,y4,p4,f4,none⟩,⟨some 29,.load 31 (.tmp 28),y5,p5,f5,none⟩,⟨some 30,.move (.tmp 3),y6,p6,f6,none⟩,⟨some 31,.call { callee:=.value (.func 18),args:=#[.const (.int .i64 99)],argTypes:=at2 },y7,p7,f7,none⟩,⟨some 32,.indexAddr 31 (.tmp 29) (.tmp 30),y8,p8,f8,none⟩,⟨none,.store 55 (.tmp 32) (.tmp 31),y9,p9,f9,none⟩]) true).wp Tryz.prog Q a u:=by
 have B:b_ Tryz.prog 28 ⟨c7,0,_,2⟩:=c_.fact (E:=E3) rfl;have C:b_ Tryz.prog 26 ⟨.slice b8,37,24,0⟩:=c_.fact (E:=E3) rfl;have Z:b_ Tryz.prog 37 ⟨b8,0,80,2⟩:=c_.fact (E:=E3) rfl;have M:b_ Tryz.prog 31 ⟨.slice eK,55,24,0⟩:=c_.fact (E:=E3) rfl;have hV:b_ Tryz.prog 55 ⟨eK,0,_,3⟩:=c_.fact (E:=E3) rfl;have uT:=eU (E:=E3) c_ (T:=26) (e:=⟨.slice b8,37,24,0⟩) rfl rfl;have uV:=eU (E:=E3) c_ (T:=31) (e:=⟨.slice eK,55,24,0⟩) rfl rfl;obtain⟨c0,c1,c2,c3,rfl,-,O⟩:=h.cells;refine jW (l:=[⟨some 24,.fieldAddr 28 (.tmp 1) 1,y0,p0,f0,none⟩,⟨some 25,.load 26 (.tmp 24),y1,p1,f1,none⟩,⟨some 26,.move (.tmp 2),y2,p2,f2,none⟩,⟨some 27,.indexAddr 26 (.tmp 25) (.tmp 26),y3,p3,f3,none⟩,⟨some 28,.fieldAddr 37 (.tmp 27) 0,y4,p4,f4,none⟩,⟨some 29,.load 31 (.tmp 28),y5,p5,f5,none⟩,⟨some 30,.move (.tmp 3),y6,p6,f6,none⟩,⟨some 31,.call { callee:=.value (.func 18),args:=#[.const (.int .i64 99)],argTypes:=at2 },y7,p7,f7,none⟩,⟨some 32,.indexAddr 31 (.tmp 29) (.tmp 30),y8,p8,f8,none⟩,⟨none,.store 55 (.tmp 32) (.tmp 31),y9,p9,f9,none⟩]) (N:=74) c_.mx (aa5 (SU U w) b1 i k A x) _ _ 8 h.sz r K MA ?_ ?_
 ·intro j o hj b
  match j,hj with
  | 0,_ =>
   cases b
   refine⟨rfl,fun val a' v m c d=>?_⟩
   have f:gt a' 1=gt a 1:=d (1,none) (by simp)
   exact fc (fm (x:=.tmp 1) B rfl rfl (show 1<2 by decide) (f.trans h.s1)) ⟨QG _ _,rfl⟩
  | 1,_ =>
   cases b
   refine⟨rfl,fun val a' v m c d=>?_⟩
   have f:gt a' 24=val 0:=d (24,some 0) (by simp)
   have h0:val 0=.pointer (some ⟨b1,3,none⟩):=c 0 (by decide) (by decide)
   exact fc (fv (x:=.tmp 24) C rfl (f.trans h0) ((m.block b1 (b9 h.bx)).trans h.bx) (cs:=[c3]) rfl rfl rfl) ⟨QG _ _,eZ (t:=.slice b8) O (Ev.c8 m)⟩
  | 2,_ =>
   cases b
   refine⟨rfl,fun val a' v m c d=>?_⟩
   have f:gt a' 2=gt a 2:=d (2,none) (by simp)
   exact fc (fE (x:=.tmp 2) rfl) ⟨QG _ _,f.trans s2⟩
  | 3,_ =>
   cases b
   refine⟨rfl,fun val a' v m c d=>?_⟩
   have f:gt a' 25=val 1:=d (25,some 1) (by simp)
   have D:gt a' 26=val 2:=d (26,some 2) (by simp)
   have F:fg (.slice b8) (SU U w) v [val 1] A.2:=c 1 (by decide) (by decide)
   have h2:val 2=.int .i64 (i:Int):=c 2 (by decide) (by decide)
   obtain⟨p,G,H⟩:=NS (P:=Tryz.prog) (σ:=a'.eval) (w:=v) (o:=⟨some 27,.indexAddr 26 (.tmp 25) (.tmp 26),y3,p3,f3,none⟩) Z rfl uT (l:=A.2) (by show fg _ _ _ [gt a' 25] _; rw[f]; exact F) (D.trans h2) hx
   exact fc G ⟨QG _ _,H⟩
  | 4,_ =>
   cases b
   refine⟨rfl,fun val a' v m c d=>?_⟩
   have f:gt a' 27=val 3:=d (27,some 3) (by simp)
   have F:ie b8 (SU U w) v (val 3) x:=c 3 (by decide) (by decide)
   obtain⟨p,G,H⟩:=FK (P:=Tryz.prog) (te:=⟨b8,0,80,2⟩) (σ:=a'.eval) (w:=v) (o:=⟨some 28,.fieldAddr 37 (.tmp 27) 0,y4,p4,f4,none⟩) Z rfl (u:=.slice eK) (g:=fun p=>p.1) rfl (show 0<2 by decide) (z:=x) (by show ie _ _ _ (gt a' 27) _; rw[f]; exact F)
   exact fc G ⟨QG _ _,H⟩
  | 5,_ =>
   cases b
   refine⟨rfl,fun val a' v m c d=>?_⟩
   have f:gt a' 28=val 4:=d (28,some 4) (by simp)
   have F:ie (.slice eK) (SU U w) v (val 4) x.1:=c 4 (by decide) (by decide)
   obtain⟨p,G,H⟩:=H3 (P:=Tryz.prog) (te:=⟨.slice eK,55,24,0⟩) (t:=eK) (σ:=a'.eval) (w:=v) (o:=⟨some 29,.load 31 (.tmp 28),y5,p5,f5,none⟩) M rfl rfl (l:=x.1) (by show ie _ _ _ (gt a' 28) _; rw[f]; exact F)
   exact fc G ⟨QG _ _,H⟩
  | 6,_ =>
   cases b
   refine⟨rfl,fun val a' v m c d=>?_⟩
   have f:gt a' 3=gt a 3:=d (3,none) (by simp)
   exact fc (fE (x:=.tmp 3) rfl) ⟨QG _ _,f.trans s3⟩
  | 7,_ =>
   cases b
   refine⟨rfl,fun val a' v m c d=>?_⟩
   refine gL (vs:=[.int .i64 99]) (e_ Tryz.func18 rfl rfl) (by rw[Sd]; rfl) ?_
   refine TB (Li 99 (by rw[c9]; omega) v) ?_
   rintro e s ⟨zz,rfl,D,R⟩
   exact⟨zz,rfl,R,D⟩
  | j+8,hj=>omega
 ·intro val v q m c n hd hs;have S:gt q 29=val 5:=n 29 (by decide);have V:gt q 30=val 6:=n 30 (by decide);have W:gt q 31=val 7:=n 31 (by decide);have h5:fg (.slice eK) (SU U w) v [val 5] x.1:=c 5 (by decide);have h6:val 6=.int .i64 (k:Int):=c 6 (by decide);obtain⟨cz,h7,h8⟩:∃ cs,val 7=eK.wrap cs/\fg eK (fun _=>False) v cs (mS 99):=c 7 (by decide);refine p_ (te:=⟨eK,0,_,3⟩) (U:=SU U w) 32 hV rfl rfl (by rw[hs]; decide) rfl uV (l:=x.1) (by show fg _ _ _ [gt q 29] _; rw[S]; exact h5) (V.trans h6) (yR hk) fun q6 X Y J=>?_;refine ma (te:=⟨eK,0,_,3⟩) (U:=SU U w) hV rfl rfl rfl rfl (by show ie _ _ _ (gt X 32) _; rw[J.v]; exact Y) (cs:=cz) ((J.ne 31 (by decide)).trans (W.trans h7)) h8 fun s f D R=>RM ?_;have L:Lw 6 a q:=⟨fun t ht=>by
   match t,ht with
   | 0,_=>exact n 0 (by decide)
   | 1,_=>exact n 1 (by decide)
   | 2,_=>exact n 2 (by decide)
   | 3,_=>exact n 3 (by decide)
   | 4,_=>exact n 4 (by decide)
   | 5,_=>exact n 5 (by decide)
   | t+6,ht=>omega,hd,hs.trans h.sz.symm⟩
  have L6:=L.up J (by decide);obtain⟨I,c1,c2⟩:=(h.go m L).Nh (a':=X) f D R ((Lw.refl 6 q).up J (by decide));exact hQ I X s c1 c2 L6
end
theorem IT{t:Ty}{l l':List t.den}(h:uM (.slice t) l l'){i:Nat}{x:t.den}(a:l[i]?=some x):∃ b,l'[i]?=some b/\uM t x b:=by
 have hi:i<l.length:=by
  rcases QA i l.length with h|h
  ·exact h
  ·rw[QD h]at a; cases a
 have hi:i<l'.length:=by rw[h.1]; exact hi
 exact⟨_,Qr hi,h.2 i x _ a (Qr hi)⟩
theorem SJ.lo{w u d:World}{U:Nat->Prop}{c:Nat}{cs:List Value}{A:c7.den}{a a':Act}(h:SJ w U c cs A a u)(b:Below u.heap.size u d)(h1:gt a' 1=gt a 1)(e:a'.defers=a.defers)(f:a'.tmps.size=74):SJ w U c cs A a' d :=
 ⟨h.ge,(b.block c (b9 h.bx)).trans h.bx,eZ h.rp (Ev.c8 b),h1.trans h.s1,e.trans h.dn,f,⟨QL h.ev.1 b.size,fun k hk g=>(b.block k (QI hk h.ev.1)).trans (h.ev.2 k hk g)⟩,⟨b.os.trans h.io.1,b.tape.trans h.io.2.1,b.output.trans h.io.2.2⟩⟩
theorem SJ.max2{w u:World}{U:Nat->Prop}{b:Nat}{cs:List Value}{A:c7.den}{a:Act}(h:SJ w U b cs A a u):A.2.length<=maxLen/\A.1.2.2.length<=maxLen:=by
 obtain⟨e,f,g,i,rfl,c,d⟩:=h.cells;exact⟨kb d,kb c⟩
theorem SJ.acB{w u:World}{U:Nat->Prop}{e:Nat}{cs:List Value}{A:c7.den}{a:Act}(h:SJ w U e cs A a u){i:Nat}{x:b8.den}(d:A.2[i]?=some x):x.1.length<=maxLen/\x.2.2.2.length<=maxLen:=by
 obtain⟨k,l,m,n,rfl,o,p,cap,q,r,s,t,f⟩:=h.cells;obtain⟨b,off,C,T,v,y,z,g⟩:=f (fun h=>by rw[h]at d; cases d);have c:=g i x d;obtain⟨v0,v1,B,D,j⟩:=qW c.rep;rw[j]at c;exact⟨kb c.1,kb c.2.2.2⟩
theorem tn{U:Nat->Prop}{w:World}{cs:List Value}{y:c7.den}(h:fg c7 U w cs y) :
    Calls Tryz.prog 9 #[c7.wrap cs] w (fun e u=>e=.returned (.tuple #[])/\Ev (fun k=>¬U k) w u/\(u.os=w.os/\u.tape=w.tape/\u.output=w.output)):=by
 refine UA Tryz.func9 rfl ?_;generalize hQ:bodyPost _ _ _=Q;obtain⟨a0,g⟩:∃ a0:Act,({ tmps:=#[c7.wrap cs]++Array.replicate ((Tryz.f9).ntmps-#[c7.wrap cs].size) undef,defers:=[] }:Act)=a0:=⟨_,rfl⟩;have k0:gt a0 0=c7.wrap cs:=by rw[<-g]; exact jL (vs:=[c7.wrap cs]) rfl
 have kd:a0.defers=[]:=by rw[<-g]
 have ks:a0.tmps.size=74:=by
  rw[<-g];have:(Tryz.f9).ntmps=74:=rfl;simp only[Tl,RQ,S2,this,Rr,Tn]
 rw[g];clear g;refine SM (Re ?_);have M:(a0.eval (.tmp 0)).cells=cs.toArray:=by
  show(gt a0 0).cells=_;rw[k0];exact fu (t:=c7) (ft h) (fQ h)
 refine sv 1 rfl rfl (by rw[ks]; decide) (Gq rfl) fun w1 a1 z r1 s1 Z=>RM ?_;rw[M]at r1;have A:SJ w U w.heap.size cs y a1 w1:=⟨Qu _,r1,eZ (fo h fun b hb=>hb) (Ev.c8 z),Z.v,Z.dn.trans kd,Z.sz.trans ks,⟨z.size,fun k hk _=>z.block k hk⟩,z.os,z.tape,z.output⟩;obtain⟨b1,aa⟩:∃ b,w.heap.size=b:=⟨_,rfl⟩;rw[aa]at A;clear r1 s1 Z z M;refine SM (SM (Re ?_));refine eV 2 rfl rfl (by rw[A.sz]; decide) (ib rfl) fun a2 k2=>RM (UG ?_);refine ui (fun i a u=>∃ j,i<=y.2.length/\uM c7 y j/\SJ w U b1 cs j a u/\gt a 2=.int .i64 (i:Int)) (fun i=>y.2.length-i) 0 ⟨y,QE _,jU c7 y,A.put k2 (by decide),k2.v⟩ ?_
 ·rintro i a u ⟨f,hi,N,O,s2⟩;have P:f.2.length=y.2.length:=N.2.1;refine SM (SM (Re ?_));refine O.r2 (by rw[P]; exact hi) s2 fun a3 u3 l3 ab ac=>?_;have r:=O.go ab l3;have ad:=(l3.lo 2 (by decide)).trans s2;refine Ux (t:=decide ((i:Int)<(f.2.length:Int))) ac (fun B=>Wb ?_) fun hf=>Wy ?_
  ·have ae:i<f.2.length:=by have:=QF B; omega
   have hx:=yR ae;generalize f.2[i]=x at hx;have hm:=O.max2.1;obtain⟨ar,au⟩:=O.acB hx;refine SM (UG (SM (SM (Re ?_))));refine eV 3 rfl rfl (by rw[r.sz]; decide) (ib rfl) fun a4 L=>RM (UG ?_);refine ui (fun k a u=>∃ j,k<=x.1.length/\uM c7 f j/\SJ w U b1 cs j a u/\gt a 2=.int .i64 (i:Int)/\gt a 3=.int .i64 (k:Int)) (fun k=>x.1.length-k) 0 ⟨f,QE _,jU c7 f,r.put L (by decide),(L.ne 2 (by decide)).trans ad,L.v⟩ ?_;rintro k a5 u5 ⟨R,hk,c,l,t2,t3⟩;obtain⟨x2,S,T⟩:=IT c.2 hx;have C:x2.1.length=x.1.length:=T.1.1;refine SM (SM (Re ?_));refine l.r5 t2 t3 S (by rw[C]; exact hk) fun a6 u6 q D af=>?_;have d:=l.go D q;refine Ux (t:=decide ((k:Int)<(x2.1.length:Int))) af (fun B=>Wb ?_) fun hf=>Wy ?_
   ·have m:k<x2.1.length:=by have:=QF B; omega
    refine SM (UG ?_);refine d.r7 ((q.lo 2 (by decide)).trans t2) ((q.lo 3 (by decide)).trans t3) S m (by kernel_rfl) (by kernel_rfl) fun A3 a7 u7 E n l7=>?_;refine Re ?_;refine D0 3 22 (by decide) (by decide) (by decide) n.sz ((l7.lo 3 (by decide)).trans ((q.lo 3 (by decide)).trans t3)) (by omega) fun a8 u8 n8 v8 d8 z8 F=>?_;exact⟨k+1,⟨A3,by omega,iB c E,n.lo F (n8 1 (by decide) (by decide)) d8 z8,(n8 2 (by decide) (by decide)).trans ((l7.lo 2 (by decide)).trans ((q.lo 2 (by decide)).trans t2)),v8⟩,by omega⟩
   ·refine ia (ia (pT ?_));refine SM (SM (Re ?_));refine eV 4 rfl rfl (by rw[d.sz]; decide) (ib rfl) fun a7 k7=>RM (UG ?_);refine ui (fun k a u=>∃ j,k<=x.2.2.2.length/\uM c7 f j/\SJ w U b1 cs j a u/\gt a 2=.int .i64 (i:Int)/\gt a 4=.int .i64 (k:Int)) (fun k=>x.2.2.2.length-k) 0 ⟨R,QE _,c,d.put k7 (by decide),(k7.ne 2 (by decide)).trans ((q.lo 2 (by decide)).trans t2),k7.v⟩ ?_;rintro k' a8 u8 ⟨A4,ah,o,V,W,v4⟩;obtain⟨x4,G,H⟩:=IT o.2 hx;have ai:x4.2.2.2.length=x.2.2.2.length:=H.2.2.2.1;refine SM (SM (Re ?_));refine V.r9 W v4 G (by rw[ai]; exact ah) fun a9 u9 I aj ak=>?_;have X:=V.go aj I;refine Ux (t:=decide ((k':Int)<(x4.2.2.2.length:Int))) ak (fun B=>Wb ?_) fun hf=>Wy ?_
    ·have m:k'<x4.2.2.2.length:=by have:=QF B; omega
     refine SM (UG (Re ?_));refine X.r11 ((I.lo 2 (by decide)).trans W) ((I.lo 4 (by decide)).trans v4) G m fun A5 al u10 E n l10=>?_;refine Re ?_;refine D0 4 43 (by decide) (by decide) (by decide) n.sz ((l10.lo 4 (by decide)).trans ((I.lo 4 (by decide)).trans v4)) (by omega) fun an ao s v11 J K p=>?_;exact⟨k'+1,⟨A5,by omega,iB o E,n.lo p (s 1 (by decide) (by decide)) J K,(s 2 (by decide) (by decide)).trans ((l10.lo 2 (by decide)).trans ((I.lo 2 (by decide)).trans W)),v11⟩,by omega⟩
    ·refine ia (ia (pT ?_));refine Re ?_;refine X.r12 ((I.lo 2 (by decide)).trans W) G fun A6 al u10 E n l10=>?_;refine Re ?_;refine D0 2 11 (by decide) (by decide) (by decide) n.sz ((l10.lo 2 (by decide)).trans ((I.lo 2 (by decide)).trans W)) (by omega) fun an ao s v11 J K p=>?_;exact⟨i+1,⟨A6,by omega,iB N (iB o E),n.lo p (s 1 (by decide) (by decide)) J K,v11⟩,by omega⟩
  ·refine ia (ia (pT ?_));refine SM (Re ?_);refine eV 5 rfl rfl (by rw[r.sz]; decide) (ib rfl) fun a4 L=>RM (UG ?_);refine ui (fun k a u=>∃ j,k<=f.1.2.2.length/\uM c7 f j/\SJ w U b1 cs j a u/\gt a 5=.int .i64 (k:Int)) (fun k=>f.1.2.2.length-k) 0 ⟨f,QE _,jU c7 f,r.put L (by decide),L.v⟩ ?_;rintro k a5 u5 ⟨R,hk,c,l,t5⟩;have C:R.1.2.2.length=f.1.2.2.length:=c.1.2.2.1;have hm:=O.max2.2;refine SM (SM (Re ?_));refine l.r14 t5 (by rw[C]; exact hk) fun a6 u6 q D aq=>?_;have d:=l.go D q;refine Ux (t:=decide ((k:Int)<(R.1.2.2.length:Int))) aq (fun B=>Wb ?_) fun hf=>Wy ?_
   ·have m:k<R.1.2.2.length:=by have:=QF B; omega
    refine SM (UG (Re ?_));refine d.r16 ((q.lo 5 (by decide)).trans t5) m fun A3 a7 u7 E n l7=>?_;refine Re ?_;refine D0 5 66 (by decide) (by decide) (by decide) n.sz ((l7.lo 5 (by decide)).trans ((q.lo 5 (by decide)).trans t5)) (by omega) fun a8 u8 n8 v8 d8 z8 F=>?_;exact⟨k+1,⟨A3,by omega,iB c E,n.lo F (n8 1 (by decide) (by decide)) d8 z8,v8⟩,by omega⟩
   ·refine ia (ia (pT ?_));rw[<-hQ];refine⟨d.dn,.tuple #[],?_,rfl,⟨d.ev.1,fun k hk hn=>d.ev.2 k hk (V4.1 hn)⟩,d.io⟩;have Y:(Tryz.f9).results=#[]:=rfl;simp[results,Y]
theorem aby{s:iR}{L:List fy}(b:oE s L){k:Nat}(hk:k<L.length):K7 (s,L) (L.getD k tz).1=0/\OS (s,L) (L.getD k tz).1 (L.getD k tz).2=0:=by
 have f:=abd b.2.2.2.1 hk;have c:¬gC (s,L)≠0:=fun e=>e (mA.2 b);have d:(mY (L.findIdx? (kG (L.getD k tz).1))).2=true:=by rw[f]; rfl
 refine⟨?_,(aaD b f).2 ?_⟩
 ·unfold K7;rw[QC c,QC (by dsimp only; rw[d]; simp)]
 ·have:stL L k (L.getD k tz).2=L:=by
    show L.set k ((L.getD k tz).1,(L.getD k tz).2)=L;rw[Qz,Qr hk];exact List.set_getElem_self hk
  rw[this];exact b
theorem MX{s:iR}{L:List fy}{t:fy}(e:gZ (s,L))(g:L.length<=300)(ht:t.1.length<=1000/\fs t.2<=1000)(c:∀ u∈L,lz u=u)(d:lz t=t):gZ (ky (s,L) t):=by
 by_cases f:fU (s,L) t=0
 ·rw[D' f c d];refine⟨e.1,(show(jQ L t).length<=400 by rw[qv]; omega),fun u b=>?_⟩;rcases ji.1 b with rfl|b
  ·exact ht
  ·exact e.2.2 u b
 ·have:ky (s,L) t=rz:=by unfold ky; rw[QJ f]
  rw[this];exact⟨QE _,QE _,fun u b=>by cases b⟩
theorem LJ{s:iR}{L:List fy}{t:fy}(y:gZ (s,L))(ht:t.1.length<=1000/\fs t.2<=1000){j k:Value}{w:World}(d:m [] (fun _=>False) w (.a_ c7 (s,L)) [j])(f:m [] (fun _=>False) w (.a_ b8 t) [k]) :
    Calls Tryz.prog 7 #[j,k] w (fun e w'=>∃ z,e=.returned z/\(∃ A R,z=.tuple #[A,.int .i64 (fU (s,L) t)]/\mU w.heap.size w' c7 R A/\gG .i64 (fU (s,L) t))/\Below w.heap.size w w'):=by
 by_cases g:fU (s,L) t=0
 ·refine(acE y ht g d f).mono ?_;rintro e w' ⟨z,R,rfl,l,n⟩;exact⟨_,rfl,⟨z,R,by rw[g],l,by rw[g,c9]; omega⟩,n⟩
 ·refine TB ((Ct ((s,L),t,()) ⟨y,ht,trivial⟩).2 [] (fun _=>False) w [j,k] (fun b h=>h.elim) ⟨_,_,rfl,d,_,_,rfl,f,rfl⟩) ?_;rintro e w' ⟨v,rfl,l,n⟩;have C:ky (s,L) t=rz:=by unfold ky; rw[QJ g]
  obtain⟨H,D,I,E,F,⟨B,c,p⟩,J,q,G,i,r⟩:=l;have r:q=[]:=r;subst r;have u:=(fI i).2;have i:=(fI i).1;have p:=(QB p).1;subst i p G F;have c:rep c7 (fun _=>False) w' B (ky (s,L) t):=c;rw[C]at c;exact⟨_,rfl,⟨_,rz,(QB D).1,⟨B,⟨⟨iy rfl c.1.1,iy rfl c.1.2.1,nO c.1.2.2⟩,nO c.2⟩,rfl⟩,u⟩,n⟩
section
variable{P:Program}{o:Oper}{x:Operand}{σ:Operand->Value}{w:World}
theorem wJ{i:Nat}(b:o.op=.extract x i){vs:Array Value}{v:Value}(c:σ x=.tuple vs)(d:vs[i]?=some v):(execOp σ o).run P w=.ok (.value v) w:=by
 simp[execOp,b,c,d,Instr.extract]
end
section
variable{y0 y1 y2 y3 y4 y5 y6:TypeId}{p0 p1 p2 p3 p4 p5 p6:String}{f0 f1 f2 f3 f4 f5 f6:Array Edge}{at2:Array TypeId}{Q:Exit->Act->World->Prop}{ops:Array Oper}{P:Program}{a:Act}{w:World}
theorem rf6(H:P=Tryz.prog)(j:a.tmps.size=168){s:iR}{L:List fy}{t:fy}(I:gZ (s,L))(ht:t.1.length<=1000/\fs t.2<=1000)(y:m [] (fun _=>False) w (.a_ c7 (s,L)) [gt a 52])(B:m [] (fun _=>False) w (.a_ b8 t) [gt a 53])
    (J:∀ a' u b cs A,Below w.heap.size w u->w.heap.size<=b->u.heap[b]?=some (.cells cs.toArray 28 (0,0))->fg c7 (fun k=>k<w.heap.size∨k=b) u cs A->gt a' 12=.pointer (some ⟨b,0,none⟩)->gt a' 13=.int .i64 (fU (s,L) t)->gG .i64 (fU (s,L) t)->(∀ t,t<12->gt a' t=gt a t)->a'.defers=a.defers->a'.tmps.size=168->Q .normal a' u) :
    wpList P ops Q [⟨some 54,.call { callee:=.value (.func 7),args:=#[.tmp 52,.tmp 53],argTypes:=at2 },y0,p0,f0,none⟩,⟨some 51,.move (.tmp 54),y1,p1,f1,none⟩,⟨some 55,.extract (.tmp 51) 0,y2,p2,f2,none⟩,⟨some 56,.extract (.tmp 51) 1,y3,p3,f3,none⟩,⟨some 12,.alloc 28,y4,p4,f4,none⟩,⟨none,.store 28 (.tmp 12) (.tmp 55),y5,p5,f5,none⟩,⟨some 13,.assign (.tmp 56),y6,p6,f6,none⟩] a w:=by
 subst H;have f:b_ Tryz.prog 28 ⟨c7,0,_,2⟩:=c_.fact (E:=E3) rfl;refine jO 54 rfl rfl (by rw[j]; decide) (gL (vs:=[gt a 52,gt a 53]) (e_ Tryz.func7 rfl rfl) (by rw[Sd]; rfl) (LJ I ht y B)) fun z G Y K c=>?_;obtain⟨⟨M,R,rfl,⟨cs,C,N⟩,D⟩,d⟩:=K;refine eV 51 rfl rfl (by rw[c.sz,j]; decide) (fE (x:=.tmp 54) rfl) fun O g=>?_;have n:gt O 51=.tuple #[M,.int .i64 (fU (s,L) t)]:=g.v.trans c.v;refine eV 55 rfl rfl (by rw[g.sz,c.sz,j]; decide) (wJ (x:=.tmp 51) rfl n rfl) fun Z h=>?_;refine eV 56 rfl rfl (by rw[h.sz,g.sz,c.sz,j]; decide) (wJ (x:=.tmp 51) rfl ((h.ne 51 (by decide)).trans n) rfl) fun a4 l=>?_;refine sv 12 rfl rfl (by rw[l.sz,h.sz,g.sz,c.sz,j]; decide) (lJ f rfl) fun w5 a5 p F S i=>?_;refine iT (cs:=cs) f rfl rfl rfl i.v F rfl ((i.ne 55 (by decide)).trans ((l.ne 55 (by decide)).trans (h.v.trans N))) (ft C) (fQ C) fun T U q=>?_;refine eV 13 rfl rfl (by rw[i.sz,l.sz,h.sz,g.sz,c.sz,j]; decide) (ib (x:=.tmp 56) rfl) fun V r=>RM ?_;refine J V T G.heap.size cs R (q.below d.size (d.trans (p.mono d.size))) d.size U ?_ ((r.ne 12 (by decide)).trans i.v) (r.v.trans ((i.ne 56 (by decide)).trans l.v)) D (fun t ht=>(r.ne t (by omega)).trans ((i.ne t (by omega)).trans ((l.ne t (by omega)).trans ((h.ne t (by omega)).trans ((g.ne t (by omega)).trans (c.ne t (by omega))))))) (by rw[r.dn,i.dn,l.dn,h.dn,g.dn,c.dn]) (by rw[r.sz,i.sz,l.sz,h.sz,g.sz,c.sz,j]);exact eZ (eZ (fo C fun b W=>W.imp id fun e=>SA e.symm) (Ev.c8 p)) (q.ev (X:=fun k=>k<w.heap.size∨k=G.heap.size) (.inr rfl))
end
def zp(t:Ty)(w:World)(v:Value)(d:t.den):Prop:=∃ b off C T f,v=.pointer (some ⟨b,off,none⟩)/\w.heap[b]?=some (.cells C T f)/\rep t (fun _=>False) w ((C.toList.drop off).take t.size) d
section
variable{P:Program}{o:Oper}{x y:Operand}{σ:Operand->Value}{w u:World}{T e:TypeId}{te:TE}{t:Ty}
theorem xQ(c:b_ P e te)(d:o.op=.indexAddr T x y)(g:P.underlying T=some (.slice e)){l:List te.ty.den}(i:rep (.slice te.ty) (fun _=>False) w [σ x] l){k:Nat}(j:σ y=.int .i64 (k:Int)){z:te.ty.den}(hk:l[k]?=some z):∃ p,(execOp σ o).run P u=.ok (.value p) u/\zp te.ty w p z:=by
 have a:k<l.length:=by
  rcases QA k l.length with h|h
  ·exact h
  ·rw[QD h]at hk; cases hk
 obtain⟨A,cap,m,B,D,E,n⟩:=i;have q:=(QB m).1;obtain⟨b,off,C,r,f,rfl,F,s,v⟩:=n (fun h=>by rw[h]at a; exact absurd a (Q' _));exact⟨_,uf c d g q j a,b,_,C,r,f,rfl,s,v k z hk⟩
theorem rk{f c:Nat}{v:Ty}{g:te.ty.den->v.den}(d:b_ P T te)(h:o.op=.fieldAddr T x f)(a:sn te.ty te.nf f=some (c,⟨v,g⟩))(i:f<te.nf){z:te.ty.den}(j:zp te.ty w (σ x) z):∃ p,(execOp σ o).run P u=.ok (.value p) u/\zp v w p (g z):=by
 obtain⟨b,off,C,k,l,m,n,q⟩:=j;refine⟨_,fm d h a i m,b,_,C,k,l,rfl,n,?_⟩;obtain⟨s,r⟩:=tS a;have:=r q;rw[Sw,RT,Sk,Rv (by omega)]at this;exact this
theorem Hb(d:∀ b,b<w.heap.size->u.heap[b]?=w.heap[b]?)(f:b_ P T te)(g:o.op=.load T x){z:te.ty.den}(h:zp te.ty w (σ x) z):∃ cs,(execOp σ o).run P u=.ok (.value (te.ty.wrap cs)) u/\rep te.ty (fun _=>False) w cs z:=by
 obtain⟨b,off,C,j,k,i,a,c⟩:=h;exact⟨_,fv f g i ((d b (b9 a)).trans a) rfl (eR c) rfl,c⟩
theorem vd(f:∀ b,b<w.heap.size->u.heap[b]?=w.heap[b]?)(g:b_ P T te)(ht:te.ty=.slice t)(h:o.op=.load T x){z:List t.den}(i:zp (.slice t) w (σ x) z):∃ v,(execOp σ o).run P u=.ok (.value v) u/\rep (.slice t) (fun _=>False) w [v] z:=by
 obtain⟨b,off,C,k,l,j,c,d⟩:=i;obtain⟨v,a⟩:∃ v,(C.toList.drop off).take 1=[v]:=WM.1 (eR d);exact⟨v,fv g h j ((f b (b9 c)).trans c) (cs:=[v]) (by rw[ht]; exact a) (by rw[ht]; rfl) (by rw[ht]; rfl),by rw[<-a]; exact d⟩
end
theorem ux{P:Program}{o:Oper}{x y:Operand}{σ:Operand->Value}{w w':World}{T:TypeId}{b off:Nat}{u:Value}{R:Value->World->Prop}(a:o.op=.store T x y)(c:σ x=.pointer (some ⟨b,off,none⟩))(d:σ y=u)(f:(storeVar T ⟨b,off,none⟩ u).run P w=.ok () w')(g:R undef w'):fD P σ o w R:=by
 have h:(execOp σ o).run P w=.ok .skip w':=by
  obtain⟨i,op,ty,pos,j,k⟩:=o;dsimp only at a;subst a;simp only[execOp,c,d,Instr.storeAt,Instr.sureAddr,Rf,S9,Sh,f]
 unfold fD;rw[h];exact g
theorem tj{P:Program}{l:List Oper}{Q:Exit->Act->World->Prop}{a0:Act}{w0:World}{N id:Nat}(n:P.follows .mixedOrders=true)(J:(Nat->Bool)->(Nat->Value)->World->Prop)(M:List Nat)(b:List (List (Nat×Option Nat)))(d:Nat)
    (g:a0.tmps.size=N) (f:ES l M b N=true) (c:mP l M d=true) (h:J (fun _=>false) (fun _=>undef) { w0 with drawn:=w0.drawn+1 }) (k:∀ j o,j<d->l[j]?=some o->ObJ P J a0 M l.toArray j o (b.getD j []))
    (q:∀(val:Nat->Value) (u:World) (a:Act),J (fun i=>decide (i<d)) val u->(∀ t,t<N->gt a t=match lw (l.map (·.dst)) (fun _=>true) t d with|some i=>val i|none=>gt a0 t)->a.defers=a0.defers->a.tmps.size=N->wpList P l.toArray Q (l.drop d) a u) :
    (Code.region id l.toArray true).wp P Q a0 w0:=by
 have m:d<=l.length:=by
  unfold mP at c;simp only[QK,Qy]at c;exact c.1.1
 exact pN n J M b d g f c h k fun val u r=>q val u _ r (fun t s=>lq a0 val l t (by rw[g]; exact s) d m) (im _ _ _ _) ((h_ _ _ _ _).trans g)
theorem oI{P:Program}{J:(Nat->Bool)->(Nat->Value)->World->Prop}{a0:Act}{M:List Nat}{ops:Array Oper}{j:Nat}{o:Oper}{rs:List (Nat×Option Nat)}(b:o.guard=none)(h:∀(L:Nat->Bool) (val:Nat->Value) (a:Act) (w:World),J L val w->L j=false->(∀ i,(M.getD j 0).testBit i=true->L i=true)->(∀ r∈rs,gt a r.1=match r.2 with|some i=>val i|none=>gt a0 r.1)->fD P a.eval o w fun v w'=>J (up L j) (gf val j v) w'):ObJ P J a0 M ops j o rs :=
 fun L val a w c d f g=>⟨fun _=>h L val a w c d f g,fun k=>absurd (by unfold qm; rw[b]; trivial) k⟩
def RJ(p len:Nat)(w:World)(Old:Nat->Value->Prop)(L:Nat->Bool)(val:Nat->Value)(u:World):Prop :=
 Below w.heap.size w u/\(∀ i,i<p->L i=true->Old i (val i)) /\
 (L p=true->∃(R:c7.den) (a:List Value),val p=.tuple #[c7.wrap a,.int .i64 0]/\R.2.length=len/\fg c7 (fun k=>k<w.heap.size∨(L (p+4)=true/\val (p+4)=.pointer (some ⟨k,0,none⟩))) u a R) /\
 (L (p+1)=true->val (p+1)=val p/\L p=true) /\
 (L (p+2)=true->val p=.tuple #[val (p+2),.int .i64 0]/\L p=true) /\
 (L (p+3)=true->val (p+3)=.int .i64 0) /\
 (L (p+4)=true->∃(b:Nat) (C:Array Value),val (p+4)=.pointer (some ⟨b,0,none⟩)/\w.heap.size<=b/\u.heap[b]?=some (.cells C 28 (0,0))/\C.size=4/\(L (p+5)=true->L (p+2)=true/\c7.wrap C.toList=val (p+2)/\∀ c∈C.toList,c.oneCell'=true)) /\
 (L (p+5)=true->L (p+4)=true/\L (p+2)=true)
section
variable{p len:Nat}{w u u':World}{Old:Nat->Value->Prop}{L:Nat->Bool}{val:Nat->Value}
theorem RJ.pure(h:RJ p len w Old L val u){j:Nat}{v:Value}(q:j<p)(b:Old j v):RJ p len w Old (up L j) (gf val j v) u:=by
 obtain⟨c,d,f,g,k,l,m,n⟩:=h;have e:∀ i,p<=i->up L j i=L i/\gf val j v i=val i:=fun i hi=>⟨by unfold up; rw[QC (by omega)],by unfold gf; rw[QC (by omega)]⟩;refine⟨c,fun i hi a=>?_,?_,?_,?_,?_,?_,by rw[(e (p+5) (by omega)).1,(e (p+4) (by omega)).1,(e (p+2) (by omega)).1]; exact n⟩
 ·by_cases e:i=j
  ·subst e; simp only[gf,QJ rfl]; exact b
  ·simp only[gf,QC e]; simp only[up,QC e]at a; exact d i hi a
 ·rw[(e p (Qu _)).1,(e p (Qu _)).2,(e (p+4) (by omega)).1,(e (p+4) (by omega)).2]; exact f
 ·rw[(e p (Qu _)).1,(e p (Qu _)).2,(e (p+1) (by omega)).1,(e (p+1) (by omega)).2]; exact g
 ·rw[(e p (Qu _)).1,(e p (Qu _)).2,(e (p+2) (by omega)).1,(e (p+2) (by omega)).2]; exact k
 ·rw[(e (p+3) (by omega)).1,(e (p+3) (by omega)).2]; exact l
 ·rw[(e (p+4) (by omega)).1,(e (p+4) (by omega)).2,(e (p+5) (by omega)).1,(e (p+2) (by omega)).1,(e (p+2) (by omega)).2]; exact m
theorem RJ.call(h:RJ p len w Old L val u)(c:L p=false){R:c7.den}{cs:List Value}(q:R.2.length=len)(r:fg c7 (fun k=>k<u.heap.size) u' cs R)(m:Below u.heap.size u u'):RJ p len w Old (up L p) (gf val p (.tuple #[c7.wrap cs,.int .i64 0])) u':=by
 obtain⟨l,s,G,v,z,A,n,B⟩:=h;have e:∀ i,i≠p->up L p i=L i/\gf val p (.tuple #[c7.wrap cs,.int .i64 0]) i=val i:=fun i hi=>⟨by unfold up; rw[QC hi],by unfold gf; rw[QC hi]⟩;have D:gf val p (.tuple #[c7.wrap cs,.int .i64 0]) p=.tuple #[c7.wrap cs,.int .i64 0]:=by unfold gf; rw[QJ rfl]
 have H:up L p p=true:=by unfold up; rw[QJ rfl]
 refine⟨l.trans (m.mono l.size),fun i hi a=>?_,fun _=>⟨R,cs,D,q,fo r fun k hk=>.inl ?_⟩,fun a=>?_,fun a=>?_,?_,?_,by rw[(e (p+5) (by omega)).1,(e (p+4) (by omega)).1,(e (p+2) (by omega)).1]; exact B⟩
 ·rw[(e i (by omega)).2]; rw[(e i (by omega)).1]at a; exact s i hi a
 ·rcases hk with hk|⟨d,f⟩
  ·exact QI hk l.size
  ·rw[(e (p+4) (by omega)).1]at d;rw[(e (p+4) (by omega)).2]at f;obtain⟨b,C,g,_,j,_⟩:=n d;rw[f]at g;cases g;exact b9 j
 ·rw[(e (p+1) (by omega)).1]at a;rw[(v a).2]at c;cases c
 ·rw[(e (p+2) (by omega)).1]at a;rw[(z a).2]at c;cases c
 ·rw[(e (p+3) (by omega)).1,(e (p+3) (by omega)).2]; exact A
 ·rw[(e (p+4) (by omega)).1,(e (p+4) (by omega)).2,(e (p+5) (by omega)).1,(e (p+2) (by omega)).1,(e (p+2) (by omega)).2];intro a;obtain⟨b,C,g,E,j,F⟩:=n a;exact⟨b,C,g,E,(m.block b (b9 j)).trans j,F⟩
theorem RJ.mv(h:RJ p len w Old L val u)(a:L p=true):RJ p len w Old (up L (p+1)) (gf val (p+1) (val p)) u:=by
 obtain⟨c,d,f,m,g,j,k,l⟩:=h;have e:∀ i,i≠p+1->up L (p+1) i=L i/\gf val (p+1) (val p) i=val i:=fun i hi=>⟨by unfold up; rw[QC hi],by unfold gf; rw[QC hi]⟩;refine⟨c,fun i hi b=>?_,?_,fun _=>?_,?_,?_,?_,by rw[(e (p+5) (by omega)).1,(e (p+4) (by omega)).1,(e (p+2) (by omega)).1]; exact l⟩
 ·rw[(e i (by omega)).2]; rw[(e i (by omega)).1]at b; exact d i hi b
 ·rw[(e p (by omega)).1,(e p (by omega)).2,(e (p+4) (by omega)).1,(e (p+4) (by omega)).2]; exact f
 ·rw[(e p (by omega)).1,(e p (by omega)).2]; exact⟨by unfold gf; rw[QJ rfl],a⟩
 ·rw[(e p (by omega)).1,(e p (by omega)).2,(e (p+2) (by omega)).1,(e (p+2) (by omega)).2]; exact g
 ·rw[(e (p+3) (by omega)).1,(e (p+3) (by omega)).2]; exact j
 ·rw[(e (p+4) (by omega)).1,(e (p+4) (by omega)).2,(e (p+5) (by omega)).1,(e (p+2) (by omega)).1,(e (p+2) (by omega)).2]; exact k
theorem RJ.e0(h:RJ p len w Old L val u)(f:L p=true)(a:L (p+2)=false){v:Value}(g:val p=.tuple #[v,.int .i64 0]):RJ p len w Old (up L (p+2)) (gf val (p+2) v) u:=by
 obtain⟨j,k,l,m,D,n,q,r⟩:=h;have c:L (p+5)=false:=by
  cases h:L (p+5)with
  | false=>rfl
  | true=>rw[(r h).2]at a; cases a
 have e:∀ i,i≠p+2->up L (p+2) i=L i/\gf val (p+2) v i=val i:=fun i hi=>⟨by unfold up; rw[QC hi],by unfold gf; rw[QC hi]⟩;refine⟨j,fun i hi d=>?_,?_,?_,fun _=>?_,?_,?_,by rw[(e (p+5) (by omega)).1,c]; exact fun h=>by cases h⟩
 ·rw[(e i (by omega)).2]; rw[(e i (by omega)).1]at d; exact k i hi d
 ·rw[(e p (by omega)).1,(e p (by omega)).2,(e (p+4) (by omega)).1,(e (p+4) (by omega)).2]; exact l
 ·rw[(e p (by omega)).1,(e p (by omega)).2,(e (p+1) (by omega)).1,(e (p+1) (by omega)).2]; exact m
 ·rw[(e p (by omega)).1,(e p (by omega)).2]; exact⟨by unfold gf; rw[QJ rfl]; exact g,f⟩
 ·rw[(e (p+3) (by omega)).1,(e (p+3) (by omega)).2]; exact n
 ·rw[(e (p+4) (by omega)).1,(e (p+4) (by omega)).2,(e (p+5) (by omega)).1];intro d;obtain⟨b,C,s,z,A,B,E⟩:=q d;exact⟨b,C,s,z,A,B,fun h=>by rw[c]at h; cases h⟩
theorem RJ.e1(h:RJ p len w Old L val u):RJ p len w Old (up L (p+3)) (gf val (p+3) (.int .i64 0)) u:=by
 obtain⟨b,c,d,f,g,l,j,k⟩:=h;have e:∀ i,i≠p+3->up L (p+3) i=L i/\gf val (p+3) (.int .i64 0) i=val i:=fun i hi=>⟨by unfold up; rw[QC hi],by unfold gf; rw[QC hi]⟩;refine⟨b,fun i hi a=>?_,?_,?_,?_,fun _=>?_,?_,by rw[(e (p+5) (by omega)).1,(e (p+4) (by omega)).1,(e (p+2) (by omega)).1]; exact k⟩
 ·rw[(e i (by omega)).2]; rw[(e i (by omega)).1]at a; exact c i hi a
 ·rw[(e p (by omega)).1,(e p (by omega)).2,(e (p+4) (by omega)).1,(e (p+4) (by omega)).2]; exact d
 ·rw[(e p (by omega)).1,(e p (by omega)).2,(e (p+1) (by omega)).1,(e (p+1) (by omega)).2]; exact f
 ·rw[(e p (by omega)).1,(e p (by omega)).2,(e (p+2) (by omega)).1,(e (p+2) (by omega)).2]; exact g
 ·unfold gf; rw[QJ rfl]
 ·rw[(e (p+4) (by omega)).1,(e (p+4) (by omega)).2,(e (p+5) (by omega)).1,(e (p+2) (by omega)).1,(e (p+2) (by omega)).2]; exact j
theorem RJ.al(h:RJ p len w Old L val u)(a:L (p+4)=false){C:Array Value}(j:C.size=4)(f:Below u.heap.size u u')(l:u'.heap[u.heap.size]?=some (.cells C 28 (0,0))):RJ p len w Old (up L (p+4)) (gf val (p+4) (.pointer (some ⟨u.heap.size,0,none⟩))) u':=by
 obtain⟨d,m,n,q,r,s,E,v⟩:=h;have b:L (p+5)=false:=by
  cases h:L (p+5)with
  | false=>rfl
  | true=>rw[(v h).1]at a; cases a
 have e:∀ i,i≠p+4->up L (p+4) i=L i/\gf val (p+4) (.pointer (some ⟨u.heap.size,0,none⟩)) i=val i:=fun i hi=>⟨by unfold up; rw[QC hi],by unfold gf; rw[QC hi]⟩;have g:gf val (p+4) (.pointer (some ⟨u.heap.size,0,none⟩)) (p+4)=.pointer (some ⟨u.heap.size,0,none⟩):=by unfold gf; rw[QJ rfl]
 refine⟨d.trans (f.mono d.size),fun i hi c=>?_,?_,?_,?_,?_,fun _=>⟨u.heap.size,C,g,d.size,l,j,fun h=>?_⟩,by rw[(e (p+5) (by omega)).1,b]; exact fun h=>by cases h⟩
 ·rw[(e i (by omega)).2]; rw[(e i (by omega)).1]at c; exact m i hi c
 ·rw[(e p (by omega)).1,(e p (by omega)).2];intro c;obtain⟨R,z,A,B,D⟩:=n c;refine⟨R,z,A,B,eZ (fo D fun k hk=>?_) (Ev.c8 f)⟩;rcases hk with hk|⟨_,hk⟩
  ·exact .inl (.inl hk)
  ·rw[g]at hk;cases hk;exact .inr (Qu _)
 ·rw[(e p (by omega)).1,(e p (by omega)).2,(e (p+1) (by omega)).1,(e (p+1) (by omega)).2]; exact q
 ·rw[(e p (by omega)).1,(e p (by omega)).2,(e (p+2) (by omega)).1,(e (p+2) (by omega)).2]; exact r
 ·rw[(e (p+3) (by omega)).1,(e (p+3) (by omega)).2]; exact s
 ·rw[(e (p+5) (by omega)).1,b]at h; cases h
theorem RJ.sto(h:RJ p len w Old L val u)(a:L (p+4)=true)(d:L (p+2)=true){b:Nat}(g:val (p+4)=.pointer (some ⟨b,0,none⟩)){cs:List Value}(m:cs.length=4)(n:val (p+2)=c7.wrap cs)(q:∀ c∈cs,c.oneCell'=true)(r:u'.heap[b]?=some (.cells cs.toArray 28 (0,0)))(st:Ca b u u'):RJ p len w Old (up L (p+5)) (gf val (p+5) undef) u':=by
 obtain⟨s,v,z,A,B,D,E,J⟩:=h;have e:∀ i,i≠p+5->up L (p+5) i=L i/\gf val (p+5) undef i=val i:=fun i hi=>⟨by unfold up; rw[QC hi],by unfold gf; rw[QC hi]⟩;obtain⟨K,C,j,l,M,N,O⟩:=E a;rw[g]at j;cases j;refine⟨st.below l s,fun i hi f=>?_,?_,?_,?_,?_,fun _=>?_,fun _=>by rw[(e (p+4) (by omega)).1,(e (p+2) (by omega)).1]; exact⟨a,d⟩⟩
 ·rw[(e i (by omega)).2]; rw[(e i (by omega)).1]at f; exact v i hi f
 ·rw[(e p (by omega)).1,(e p (by omega)).2,(e (p+4) (by omega)).1,(e (p+4) (by omega)).2];intro f;obtain⟨R,F,G,H,I⟩:=z f;exact⟨R,F,G,H,eZ I (st.ev (X:=fun k=>k<w.heap.size∨(L (p+4)=true/\val (p+4)=.pointer (some ⟨k,0,none⟩))) (.inr ⟨a,g⟩))⟩
 ·rw[(e p (by omega)).1,(e p (by omega)).2,(e (p+1) (by omega)).1,(e (p+1) (by omega)).2]; exact A
 ·rw[(e p (by omega)).1,(e p (by omega)).2,(e (p+2) (by omega)).1,(e (p+2) (by omega)).2]; exact B
 ·rw[(e (p+3) (by omega)).1,(e (p+3) (by omega)).2]; exact D
 ·rw[(e (p+4) (by omega)).2,(e (p+2) (by omega)).1,(e (p+2) (by omega)).2];exact⟨b,cs.toArray,g,l,r,by simpa using m,fun _=>⟨d,n.symm,q⟩⟩
theorem ze{cs ds:List Value}(h1:cs.length=4)(h2:ds.length=4)(o1:∀ c∈cs,c.oneCell'=true)(o2:∀ c∈ds,c.oneCell'=true)(h:c7.wrap cs=c7.wrap ds):cs=ds:=by
 have a:(c7.wrap cs).cells=cs.toArray:=fu h1 o1;have b:(c7.wrap ds).cells=ds.toArray:=fu h2 o2;rw[h,b]at a;simpa using a.symm
theorem RJ.fin(h:RJ p len w Old L val u)(l:L p=true)(d:L (p+2)=true)(f:L (p+3)=true)(c:L (p+4)=true)(g:L (p+5)=true) :
    ∃(b:Nat) (C:Array Value) (R:c7.den),val (p+4)=.pointer (some ⟨b,0,none⟩)/\w.heap.size<=b/\u.heap[b]?=some (.cells C 28 (0,0))/\fg c7 (fun k=>k<w.heap.size∨k=b) u C.toList R/\R.2.length=len/\val (p+3)=.int .i64 0/\Below w.heap.size w u:=by
 obtain⟨m,H,n,I,q,r,s,J⟩:=h;obtain⟨b,C,j,v,z,A,B⟩:=s c;obtain⟨R,cs,D,E,i⟩:=n l;obtain⟨_,e1,F⟩:=B g;have a:=(q d).1;rw[D]at a;have a:c7.wrap cs=val (p+2):=by
  injection a with a;injection a with a;exact(QB a).1
 have G:C.toList=cs:=ze (by simpa using A) (ft i) F (fQ i) (e1.trans a.symm);refine⟨b,C,R,j,v,z,?_,E,r f,m⟩;rw[G];refine fo i fun k hk=>.inl ?_;rcases hk with hk|hk
 ·exact .inl hk
 ·exact .inr ⟨c,by rw[hk]; exact j⟩
theorem RJ.init:RJ p len w Old (fun _=>false) (fun _=>undef) { w with drawn:=w.drawn+1 } :=
 ⟨⟨rfl,rfl,rfl,Qu _,fun _ _=>rfl⟩,(fun _ _ h=>by cases h),(fun h=>by cases h),(fun h=>by cases h),(fun h=>by cases h),(fun h=>by cases h),(fun h=>by cases h),fun h=>by cases h⟩
end
section
variable{p len:Nat}{w u u':World}{Old:Nat->Value->Prop}{L:Nat->Bool}{val:Nat->Value}
variable{a':Act}{o:Oper}{x:Nat}
theorem RJ.iV(h:RJ p len w Old L val u){j:Nat}(a:∃ z,(execOp a'.eval o).run Tryz.prog u=.ok (.value z) u/\Old j z)(b:j<p):fD Tryz.prog a'.eval o u fun v u'=>RJ p len w Old (up L j) (gf val j v) u' :=
 let ⟨_,c,d⟩:=a; fc c (h.pure b d)
theorem RJ.N_(h:RJ p len w Old L val u)(a:L p=false){f:FuncId}{xs:Array Operand}{ats:Array TypeId}{dd:Option Tmp}{ty:TypeId}{pos:String}{af:Array Edge}{g:Option (Nat×Bool)}{vs:List Value}(b:∀ args w,(callFunc f args).run Tryz.prog w=.ok (.enter f args) w)(c:xs.map a'.eval=vs.toArray)(d:Calls Tryz.prog f vs.toArray u (dlP u len)) :
    fD Tryz.prog a'.eval ⟨dd,.call { callee:=.value (.func f),args:=xs,argTypes:=ats },ty,pos,af,g⟩ u fun v u'=>RJ p len w Old (up L p) (gf val p v) u':=by
 refine gL (vs:=vs) b c (TB d ?_);rintro e u' ⟨z,R,rfl,⟨l,i,rfl⟩,j,k⟩;exact⟨_,rfl,h.call a j i k⟩
theorem RJ.dmv(h:RJ p len w Old L val u)(a:L p=true)(b:o.op=.move (.tmp x))(c:gt a' x=val p):fD Tryz.prog a'.eval o u fun v u'=>RJ p len w Old (up L (p+1)) (gf val (p+1) v) u' :=
 fc (fE b) (by have:=h.mv a; rw[<-c]at this; exact this)
theorem RJ.de0(h:RJ p len w Old L val u)(a:L p=true)(b:L (p+1)=true)(c:L (p+2)=false)(d:o.op=.extract (.tmp x) 0)(f:gt a' x=val (p+1)):fD Tryz.prog a'.eval o u fun v u'=>RJ p len w Old (up L (p+2)) (gf val (p+2) v) u' :=
 let ⟨_,_,v1,_⟩:=h.2.2.1 a; fc (wJ d (f.trans ((h.2.2.2.1 b).1.trans v1)) rfl) (h.e0 a c v1)
theorem RJ.de1(h:RJ p len w Old L val u)(a:L p=true)(b:L (p+1)=true)(c:o.op=.extract (.tmp x) 1)(d:gt a' x=val (p+1)):fD Tryz.prog a'.eval o u fun v u'=>RJ p len w Old (up L (p+3)) (gf val (p+3) v) u' :=
 let ⟨_,_,v1,_⟩:=h.2.2.1 a; fc (wJ c (d.trans ((h.2.2.2.1 b).1.trans v1)) rfl) h.e1
theorem RJ.dal(h:RJ p len w Old L val u)(a:L (p+4)=false)(b:o.op=.alloc 28):fD Tryz.prog a'.eval o u fun v u'=>RJ p len w Old (up L (p+4)) (gf val (p+4) v) u' :=
 fc (lJ (te:=⟨c7,0,_,2⟩) (c_.fact (E:=E3) rfl) b) (h.al a (C:=(zc c7).toArray) rfl (fC u _) (S_ u _))
theorem RJ.dst(h:RJ p len w Old L val u)(l:L p=true)(c:L (p+2)=true)(d:L (p+4)=true){y:Nat}(m:o.op=.store 28 (.tmp x) (.tmp y))(n:gt a' x=val (p+4))(q:gt a' y=val (p+2)):fD Tryz.prog a'.eval o u fun v u'=>RJ p len w Old (up L (p+5)) (gf val (p+5) v) u':=by
 have f:b_ Tryz.prog 28 ⟨c7,0,_,2⟩:=c_.fact (E:=E3) rfl;obtain⟨b,C,v1,r,j,v4,s⟩:=h.2.2.2.2.2.2.1 d;obtain⟨R,cs,v6,_,g⟩:=h.2.2.1 l;have a:=(h.2.2.2.2.1 c).1;rw[v6]at a;have a:c7.wrap cs=val (p+2):=by
  injection a with a;injection a with a;exact(QB a).1
 have i:=gr (P:=Tryz.prog) (w:=u) f (off:=0) j (cs:=cs) (ft g) (fQ g) (by show 0+4<=C.size; omega);refine ux (off:=0) (b:=b) (u:=c7.wrap cs) m (n.trans v1) (q.trans a.symm) i (h.sto d c v1 (ft g) a.symm (fQ g) ?_ ⟨fun k hk=>SS u b k _ hk,S5 _ _ _,rfl,rfl,rfl⟩);rw[T9 u b C _ 28 (0,0) j];have z:cs.length=4:=ft g;rw[S7,RX,Rl (by rw[RC,v4]; exact Qu 4),Q9]
end
def rfO(b k:Nat)(c:Value)(cs:List Value)(w:World)(x:b8.den):Nat->Value->Prop
 | 0,v=>v=c7.wrap cs
 | 1,v=>v=.pointer (some ⟨b,3,none⟩)
 | 2,v=>v=c
 | 3,v=>v=.int .i64 (k:Int)
 | 4,v=>zp b8 w v x
 | 5,v=>zp (.slice eK) w v x.1
 | 6,v=>rep (.slice eK) (fun _=>False) w [v] x.1
 | 7,v=>zp fT w v x.2
 | _,v=>∃ a,v=fT.wrap a/\rep fT (fun _=>False) w a x.2
theorem NZ{l:List (Option Nat)}{t n d:Nat}(h:∀ q,q<n->∀ s,l[q]?=some (some s)->d<=s)(ht:t<d):lw l (fun _=>true) t n=none :=
 mM fun q b ⟨_,a⟩=>by have:=h q b t a; omega
def Bx(X0:Nat->Prop)(i1 i2:Nat)(L:Nat->Bool)(val:Nat->Value)(k:Nat):Prop:=X0 k∨(L i1=true/\val i1=.pointer (some ⟨k,0,none⟩))∨(L i2=true/\val i2=.pointer (some ⟨k,0,none⟩))
theorem AA{P:Program}{l:List Oper}{Q:Exit->Act->World->Prop}{a0:Act}{w0:World}{N id i1 i2 ist isrc:Nat}{X0:Nat->Prop}(av:∀ b,X0 b->b<w0.heap.size)(hm:P.follows .mixedOrders=true)(hi:i1≠i2)(aw:ist≠i1/\ist≠i2/\isrc≠i1/\isrc≠i2/\ist≠isrc){T:TypeId}{te:TE}(hf:b_ P T te)(R:Nat->Value->World->(Nat->Prop)->Prop)(M:List Nat)(z:List (List (Nat×Option Nat)))(S:Nat)(hN:a0.tmps.size=N)(ai:ES l M z N=true)(ax:mP l M S=true)(aa:i1<S)(ab:i2<S)(aj:ist<S/\isrc<S)
    (Z:∀ i v u V X Y,i<S->R i v u X->Below u.heap.size u V->(∀ b,Y b->X b∨u.heap.size<=b)->R i v V Y)
    (ak:∀ i v u V X b,i<S->R i v u X->Ca b u V->X b->R i v V X)
    (al:∀ v u X,R isrc v u X->∃ cs,v=te.ty.wrap cs/\cs.length=te.ty.size/\∀ c∈cs,c.oneCell'=true)
    (ay:∀ j o,(j=i1∨j=i2)->l[j]?=some o->o.guard=none/\o.op=.alloc T)
    (an:∀ o,l[ist]?=some o->o.guard=none/\∃ t1 t2,o.op=.store T (.tmp t1) (.tmp t2)/\(t1,some i1)∈z.getD ist []/\(t2,some isrc)∈z.getD ist []/\(M.getD ist 0).testBit i1=true/\(M.getD ist 0).testBit isrc=true)
    (az:∀ j o,j<S->j≠i1->j≠i2->j≠ist->l[j]?=some o->o.guard=none/\∀(val:Nat->Value) (a:Act) (u:World) (X:Nat->Prop),Below w0.heap.size w0 u->(∀ b,X b->b<u.heap.size)->(∀ b,X b->X0 b∨w0.heap.size<=b)->(∀ i,i<S->i≠i1->i≠i2->i≠ist->(M.getD j 0).testBit i=true->R i (val i) u X)->(∀ r∈z.getD j [],gt a r.1=match r.2 with|some i=>val i|none=>gt a0 r.1)->fD P a.eval o u fun v V=>Below u.heap.size u V/\R j v V X)
    (hQ:∀(val:Nat->Value) (u:World) (a:Act) (b1 b2:Nat) (C:Array Value),Below w0.heap.size w0 u->b1≠b2->w0.heap.size<=b1->w0.heap.size<=b2->val i1=.pointer (some ⟨b1,0,none⟩)->val i2=.pointer (some ⟨b2,0,none⟩)->u.heap[b1]?=some (.cells C T (0,0))->val isrc=te.ty.wrap C.toList->C.size=te.ty.size->(∀ c∈C.toList,c.oneCell'=true)->(∃ D:Array Value,D.size=te.ty.size/\u.heap[b2]?=some (.cells D T (0,0)))->(∀ i,i<S->i≠i1->i≠i2->i≠ist->R i (val i) u (fun k=>X0 k∨k=b1∨k=b2))->(∀ t,t<N->gt a t=match lw (l.map (·.dst)) (fun _=>true) t S with|some i=>val i|none=>gt a0 t)->a.defers=a0.defers->a.tmps.size=N->wpList P l.toArray Q (l.drop S) a u) :
    (Code.region id l.toArray true).wp P Q a0 w0:=by
 obtain⟨aH,aI,aA,aB,ac⟩:=aw;refine tj hm (fun L val u=>Below w0.heap.size w0 u/\(∀ i,i<S->i≠i1->i≠i2->i≠ist->L i=true->R i (val i) u (Bx X0 i1 i2 L val))/\(∀ i,(i=i1∨i=i2)->L i=true->∃(b:Nat) (C:Array Value),val i=.pointer (some ⟨b,0,none⟩)/\w0.heap.size<=b/\u.heap[b]?=some (.cells C T (0,0))/\C.size=te.ty.size/\(i=i1->L ist=true->val isrc=te.ty.wrap C.toList/\∀ c∈C.toList,c.oneCell'=true))/\(L i1=true->L i2=true->val i1≠val i2)/\(L ist=true->L i1=true/\L isrc=true)) M z S hN ai ax ⟨⟨rfl,rfl,rfl,Qu _,fun _ _=>rfl⟩,(fun i _ _ _ _ h=>by cases h),(fun i _ h=>by cases h),(fun h=>by cases h),fun h=>by cases h⟩ (fun j o hj ad L val a u hJ hL I hr=>?_) fun val u a hJ hp hd hs=>?_
 ·obtain⟨h1,h2,U,h4,h5⟩:=hJ;have aC:∀ b,Bx X0 i1 i2 L val b->b<u.heap.size:=fun b m=>by
   rcases m with m|⟨A,n⟩|⟨A,n⟩
   ·exact QI (av b m) h1.size
   ·obtain⟨J,C,g,H,B,_⟩:=U i1 (.inl rfl) A;rw[n]at g; cases g; exact b9 B
   ·obtain⟨J,C,g,H,B,_⟩:=U i2 (.inr rfl) A;rw[n]at g; cases g; exact b9 B
  have aD:∀ b,Bx X0 i1 i2 L val b->X0 b∨w0.heap.size<=b:=fun b m=>by
   rcases m with m|⟨A,n⟩|⟨A,n⟩
   ·exact .inl m
   ·obtain⟨J,C,g,H,B,_⟩:=U i1 (.inl rfl) A;rw[n]at g; cases g; exact .inr H
   ·obtain⟨J,C,g,H,B,_⟩:=U i2 (.inr rfl) A;rw[n]at g; cases g; exact .inr H
  by_cases q:j=i1∨j=i2
  ·obtain⟨hg,ae⟩:=ay j o q ad;have m:=fC u (.cells (zc te.ty).toArray T);have hc:=S_ u (.cells (zc te.ty).toArray T);have ao:isrc≠j:=fun e=>by rcases q with K|K<;>omega
   have E:ist≠j:=fun e=>by rcases q with K|K<;>omega
   refine⟨fun _=>fc (lJ hf ae) ⟨h1.trans (m.mono h1.size),fun i d s x p f=>?_,fun i d f=>?_,fun F G=>?_,fun hl=>?_⟩,fun hn=>absurd (by unfold qm; rw[hg]; trivial) hn⟩
   ·have aq:i≠j:=fun e=>by rcases q with K|K<;>omega
    simp only[gf,QC aq];simp only[up,QC aq]at f;refine Z i _ u _ _ _ d (h2 i d s x p f) m fun b m=>?_;rcases m with m|⟨A,n⟩|⟨A,n⟩
    ·exact .inl (.inl m)
    ·by_cases e:i1=j
     ·simp only[gf,QJ e]at n; cases n; exact .inr (Qu _)
     ·simp only[gf,QC e]at n; simp only[up,QC e]at A; exact .inl (.inr (.inl ⟨A,n⟩))
    ·by_cases e:i2=j
     ·simp only[gf,QJ e]at n; cases n; exact .inr (Qu _)
     ·simp only[gf,QC e]at n; simp only[up,QC e]at A; exact .inl (.inr (.inr ⟨A,n⟩))
   ·by_cases e:i=j
    ·simp only[gf,QJ e];refine⟨_,_,rfl,h1.size,hc,by rw[RQ]; exact fw _,fun A n=>?_⟩;simp only[up,QC E]at n;have:=(h5 n).1;rw[<-A,e,hL]at this;cases this
    ·simp only[gf,QC e,QC ao,up,QC E]; simp only[up,QC e]at f;obtain⟨J,C,g,H,B,g4⟩:=U i d f;exact⟨J,C,g,H,(m.block J (b9 B)).trans B,g4⟩
   ·rcases q with e|e
    ·have K:¬i2=j:=by omega
     simp only[gf,QJ e.symm,QC K];simp only[up,QC K]at G;obtain⟨J,C,g,H,B,_⟩:=U i2 (.inr rfl) G;rw[g];intro h;cases h;exact Vc _ (b9 B)
    ·have K:¬i1=j:=by omega
     simp only[gf,QJ e.symm,QC K];simp only[up,QC K]at F;obtain⟨J,C,g,H,B,_⟩:=U i1 (.inl rfl) F;rw[g];intro h;cases h;exact Vc _ (b9 B)
   ·simp only[up,QC E]at hl;obtain⟨W,k2⟩:=h5 hl;refine⟨?_,by simp only[up,QC ao]; exact k2⟩;unfold up;split
    ·rfl
    ·exact W
  ·have y:j≠i1:=fun e=>q (.inl e);have O:j≠i2:=fun e=>q (.inr e);have hB:∀ v k,Bx X0 i1 i2 (up L j) (gf val j v) k↔Bx X0 i1 i2 L val k:=fun v k=>by
    unfold Bx up gf;rw[QC (RN y),QC (RN O),QC (RN y),QC (RN O)]
   by_cases E:j=ist
   ·subst E;obtain⟨hg,t1,t2,ae,r1,r2,m1,m2⟩:=an o ad;have l1:=I i1 m1;have l2:=I isrc m2;obtain⟨b,C,g,H,B,g4,_⟩:=U i1 (.inl rfl) l1;obtain⟨cs,W,k2,k3⟩:=al _ _ _ (h2 isrc aj.2 aA aB (RN ac) l2);have x1:gt a t1=val i1:=hr (t1,some i1) r1;have x2:gt a t2=val isrc:=hr (t2,some isrc) r2;have hs:=gr (P:=P) (w:=u) hf (off:=0) B (cs:=cs) k2 k3 (by omega);have ar:(C.toList.take 0++cs++C.toList.drop (0+te.ty.size)).toArray=cs.toArray:=by
     rw[S7,RX,Rl (by rw[RC]; omega),Q9]
    rw[ar]at hs;have st:Ca b u (u.setRow b cs.toArray):=⟨fun k hk=>SS u b k _ hk,S5 _ _ _,rfl,rfl,rfl⟩;have af:=T9 u b C cs.toArray T (0,0) B;have aE:Bx X0 i1 i2 L val b:=.inr (.inl ⟨l1,g⟩);refine⟨fun _=>ux ae (x1.trans g) (x2.trans W) hs ⟨st.below H h1,fun i d s x p f=>?_,fun i d f=>?_,fun F G=>?_,fun _=>?_⟩,fun hn=>absurd (by unfold qm; rw[hg]; trivial) hn⟩
    ·have ev:gf val j undef i=val i:=by simp only[gf,QC p]
     rw[ev];simp only[up,QC p]at f;exact Z i _ _ _ _ _ d (ak i _ u _ _ b d (h2 i d s x p f) st aE) (QG _ _) fun k hk=>.inl ((hB undef k).1 hk)
    ·have e:i≠j:=fun e=>by subst e; exact q d
     have ev:gf val j undef i=val i:=by simp only[gf,QC e]
     have es:gf val j undef isrc=val isrc:=by simp only[gf,QC (RN ac)]
     rw[ev,es];simp only[up,QC e]at f;by_cases ah:i=i1
     ·rw[ah];exact⟨b,cs.toArray,g,H,af,by rw[RQ]; exact k2,fun _ _=>⟨W,k3⟩⟩
     ·obtain⟨J,C',q1,q2,q3,q4,_⟩:=U i d f;have aF:J≠b:=fun K=>by
       rcases d with h|h
       ·exact ah h
       ·subst h;exact h4 l1 f (by rw[g,q1,K])
      exact⟨J,C',q1,q2,(st.ne J aF).trans q3,q4,fun K=>absurd K ah⟩
    ·simp only[gf,QC (RN y),QC (RN O)];simp only[up,QC (RN y)]at F;simp only[up,QC (RN O)]at G;exact h4 F G
    ·simp only[up,QC (RN y),QC (RN ac)];exact⟨l1,l2⟩
   ·obtain⟨hg,hd⟩:=az j o hj y O E ad;have au:L ist=true->isrc≠j:=fun h e=>by
     have:=(h5 h).2;rw[e,hL]at this;cases this
    refine⟨fun _=>fD.imp (hd val a u (Bx X0 i1 i2 L val) h1 aC aD (fun i d s x p m=>h2 i d s x p (I i m)) hr) fun v V ⟨g,H⟩=>⟨h1.trans (g.mono h1.size),fun i d s x p f=>?_,fun i d f=>?_,fun F G=>?_,fun hl=>?_⟩,fun hn=>absurd (by unfold qm; rw[hg]; trivial) hn⟩
    ·by_cases e:i=j
     ·subst e;simp only[gf,QJ rfl];exact Z i v V V _ _ d H (QG _ _) fun b m=>.inl ((hB v b).1 m)
     ·have ev:gf val j v i=val i:=by simp only[gf,QC e]
      rw[ev];simp only[up,QC e]at f;exact Z i _ u V _ _ d (h2 i d s x p f) g fun b m=>.inl ((hB v b).1 m)
    ·have e:i≠j:=fun e=>by subst e; exact q d
     have ev:gf val j v i=val i:=by simp only[gf,QC e]
     rw[ev];simp only[up,QC e]at f;obtain⟨J,C,W,k2,k3,k4,k5⟩:=U i d f;refine⟨J,C,W,k2,(g.block J (b9 k3)).trans k3,k4,fun A n=>?_⟩;simp only[up,QC (RN E)]at n;have es:gf val j v isrc=val isrc:=by simp only[gf,QC (au n)]
     rw[es];exact k5 A n
    ·simp only[gf,QC (RN y),QC (RN O)];simp only[up,QC (RN y)]at F;simp only[up,QC (RN O)]at G;exact h4 F G
    ·simp only[up,QC (RN E)]at hl;obtain⟨W,k2⟩:=h5 hl;simp only[up,QC (RN y),QC (au hl)];exact⟨W,k2⟩
 ·obtain⟨h1,h2,U,h4,h5⟩:=hJ;obtain⟨b1,C1,g,H,B,g4,g5⟩:=U i1 (.inl rfl) (by simpa using aa);obtain⟨b2,C2,W,k2,k3,k4,_⟩:=U i2 (.inr rfl) (by simpa using ab);have aG:=h4 (by simpa using aa) (by simpa using ab);obtain⟨g6,g7⟩:=g5 rfl (by simpa using aj.1);refine hQ val u a b1 b2 C1 h1 (fun e=>aG (by rw[g,W,e])) H k2 g W B g6 g4 g7 ⟨C2,k4,k3⟩ (fun i d s x p=>?_) hp hd hs;refine Z i _ u u _ _ d (h2 i d s x p (by simpa using d)) (QG _ _) fun b m=>.inl ?_;rcases m with m|m|m
  ·exact .inl m
  ·exact .inr (.inl ⟨by simpa using aa,by rw[m]; exact g⟩)
  ·exact .inr (.inr ⟨by simpa using ab,by rw[m]; exact W⟩)
theorem ra{X:Nat->Prop}{w:World}{cs:List Value}{r:c7.den}(h:rep c7 X w cs r):∃ a b c d,cs=[a,b,c,d]:=by
 have f:cs.length=4:=eR h
 match cs,f with
 | [a,b,c,d],_=>exact⟨a,b,c,d,rfl⟩
def se(t:Ty)(X:Nat->Prop)(w:World)(v:Value)(d:t.den):Prop:=∃ b off C T f,v=.pointer (some ⟨b,off,none⟩)/\¬X b/\w.heap[b]?=some (.cells C T f)/\rep t X w ((C.toList.drop off).take t.size) d
section
variable{P:Program}{o:Oper}{x y:Operand}{σ:Operand->Value}{w u:World}{T e:TypeId}{te:TE}{t:Ty}{X:Nat->Prop}
theorem CB(c:b_ P e te)(d:o.op=.indexAddr T x y)(g:P.underlying T=some (.slice e)){l:List te.ty.den}(i:rep (.slice te.ty) X w [σ x] l){k:Nat}(j:σ y=.int .i64 (k:Int)){z:te.ty.den}(hk:l[k]?=some z):∃ p,(execOp σ o).run P w=.ok (.value p) w/\se te.ty X w p z:=by
 have a:k<l.length:=by
  rcases QA k l.length with h|h
  ·exact h
  ·rw[QD h]at hk; cases hk
 obtain⟨B,cap,m,D,E,F,n⟩:=i;have q:=(QB m).1;obtain⟨b,off,C,r,f,rfl,s,v,A⟩:=n (fun h=>by rw[h]at a; exact absurd a (Q' _));exact⟨_,uf c d g q j a,b,_,C,r,f,rfl,s,v,A k z hk⟩
theorem yY(c:b_ P T te)(d:o.op=.load T x){z:te.ty.den}(f:se te.ty X w (σ x) z):∃ p,(execOp σ o).run P w=.ok (.value p) w/\∃ cs,p=te.ty.wrap cs/\rep te.ty X w cs z:=by
 obtain⟨b,off,C,i,j,g,k,h,a⟩:=f;exact⟨_,fv c d g h rfl (eR a) rfl,_,rfl,a⟩
theorem pB{S:Value->Prop}{R:Value->World->Prop}(a:∃ z,(execOp σ o).run P w=.ok (.value z) w/\S z)(h:∀ z,S z->R z w):fD P σ o w R :=
 let ⟨_,b,c⟩:=a; fc b (h _ c)
end
def Hz(l:List Int)(b:Nat)(r:c7.den)(v0:Value):Nat->Value->World->(Nat->Prop)->Prop
 | 0,v,_,_=>v=v0
 | 1,v,u,X=>rep (.slice c7) X u [v] (lf l)
 | 2,v,_,_=>v=.int .i64 (b:Int)
 | 3,v,u,X=>se c7 X u v r
 | 4,v,u,X=>∃ a,v=c7.wrap a/\rep c7 X u a r
 | 5,v,_,_=>v=v0
 | 6,v,u,X=>rep (.slice c7) X u [v] (lf l)
 | 7,v,_,_=>v=.int .i64 (b:Int)
 | 8,v,u,X=>se c7 X u v r
 | 9,v,u,X=>∃ a,v=c7.wrap a/\rep c7 X u a r
 | _,_,_,_=>True
theorem Mn{l:List Int}{j:Nat}{r:c7.den}{v0:Value}:∀ i v u a X Y,i<13->Hz l j r v0 i v u X->Below u.heap.size u a->(∀ b,Y b->X b∨u.heap.size<=b)->Hz l j r v0 i v a Y:=by
 intro i v u a X Y hi h k m;have key:∀{t:Ty}{n:List Value}{d:t.den},rep t X u n d->rep t Y a n d:=fun h=>fx (eJ h m) (Ev.c8 k);have c:se c7 X u v r->se c7 Y a v r:=fun⟨b,off,C,T,f,p,q,g,s⟩=>⟨b,off,C,T,f,p,fun z=>by
  rcases m b z with h|h
  ·exact q h
  ·have:=b9 g; omega,(k.block b (b9 g)).trans g,key s⟩
 match i,h with
 | 0,h=>exact h
 | 1,h=>exact key (t:=.slice c7) h
 | 2,h=>exact h
 | 3,h=>exact c h
 | 4,h=>exact⟨h.choose,h.choose_spec.1,key h.choose_spec.2⟩
 | 5,h=>exact h
 | 6,h=>exact key (t:=.slice c7) h
 | 7,h=>exact h
 | 8,h=>exact c h
 | 9,h=>exact⟨h.choose,h.choose_spec.1,key h.choose_spec.2⟩
 | 10,_=>trivial
 | 11,_=>trivial
 | 12,_=>trivial
 | i+13,_=>omega
theorem Gh{l:List Int}{g:Nat}{r:c7.den}{v0:Value}:∀ i v u a X b,i<13->Hz l g r v0 i v u X->Ca b u a->X b->Hz l g r v0 i v a X:=by
 intro i v u a X b hi h j k;have key:∀{t:Ty}{m:List Value}{d:t.den},rep t X u m d->rep t X a m d:=fun h=>fx h (j.ev k);have c:se c7 X u v r->se c7 X a v r:=fun⟨n,off,C,T,f,q,p,s,z⟩=>⟨n,off,C,T,f,q,p,(j.ne n fun e=>p (by rw[e]; exact k)).trans s,key z⟩
 match i,h with
 | 0,h=>exact h
 | 1,h=>exact key (t:=.slice c7) h
 | 2,h=>exact h
 | 3,h=>exact c h
 | 4,h=>exact⟨h.choose,h.choose_spec.1,key h.choose_spec.2⟩
 | 5,h=>exact h
 | 6,h=>exact key (t:=.slice c7) h
 | 7,h=>exact h
 | 8,h=>exact c h
 | 9,h=>exact⟨h.choose,h.choose_spec.1,key h.choose_spec.2⟩
 | 10,_=>trivial
 | 11,_=>trivial
 | 12,_=>trivial
 | i+13,_=>omega
def Bw(ops:Array Oper)(o:Oper)(sl:List (Nat×Value)):Prop:=match o.guard with
 | none=>True
 | some (g,b)=>∃ t,(ops[g]?).bind (·.dst)=some t/\get? sl t=some (.bool b)
structure VJ(a0:Act)(u0:World)(sl:List (Nat×Value))(a:Act)(u:World):Prop where
 lo:∀ t,t<134->gt a t=gt a0 t
 dn:a.defers=a0.defers
 sz:a.tmps.size=168
 v:∀ t v,get? sl t=some v->gt a t=v
 b:Below u0.heap.size u0 u
section
variable{a0 a:Act}{u0 u:World}{sl:List (Nat×Value)}{ops:Array Oper}{o:Oper}{rest:List Oper}{Q:Exit->Act->World->Prop}{d s q:Nat}{v:Value}
theorem VJ.st(h:VJ a0 u0 sl a u)(n:o.dst=some d)(p:134<=d/\d<168)(i:Bw ops o sl)(r:fD Tryz.prog a.eval o u fun z c=>z=v/\Below u.heap.size u c)(x:∀ a' c,VJ a0 u0 ((d,v)::sl) a' c->wpList Tryz.prog ops Q rest a' c):wpList Tryz.prog ops Q (o::rest) a u:=by
 have j:qm ops o a:=by
  unfold qm;unfold Bw at i;split at i
  ·rename_i e; rw[e]; trivial
  ·rename_i g b e;obtain⟨t,l,m⟩:=i;rw[e];exact⟨t,l,h.v t _ m⟩
 show if Region.wanted o (yielded ops a.tmps)=true then o.wp Tryz.prog a u (wpList Tryz.prog ops Q rest) Q∨(o.asks Tryz.prog a u/\LetsOut Q)else wpList Tryz.prog ops Q rest (a.put o.dst undef) u
 rw[QJ (iS.2 j)];refine .inl (r.wp fun z c ⟨l,m⟩=>?_);have k:=o6 (a:=a) (d:=d) (v:=z) (by rw[h.sz]; exact p.2);rw[n];refine x _ c ⟨fun t y=>(k.ne t (by omega)).trans (h.lo t y),k.dn.trans h.dn,k.sz.trans h.sz,fun t w f=>?_,h.b.trans (m.mono h.b.size)⟩;unfold get? at f;split at f
 ·rename_i e;cases f;rw[<-QR e,k.v,l]
 ·by_cases e:t=d
  ·rename_i ne;rw[e,show Nat.beq d d=true from S6 d]at ne;cases ne
  ·rw[k.ne t e]; exact h.v t w f
theorem VJ.mv(h:VJ a0 u0 sl a u)(c:o.op=.move (.tmp s))(e:get? sl s=some v)(f:o.dst=some d)(g:134<=d/\d<168)(i:Bw ops o sl)(j:∀ a' b,VJ a0 u0 ((d,v)::sl) a' b->wpList Tryz.prog ops Q rest a' b):wpList Tryz.prog ops Q (o::rest) a u :=
 h.st f g i (fc (fE c) ⟨h.v s v e,QG _ _⟩) j
theorem VJ.pick(h:VJ a0 u0 sl a u)(e:o.op=.pick (.tmp q) (.const (.bool true)) (.tmp s))(f:get? sl q=some (.bool false))(b:get? sl s=some v)(g:o.dst=some d)(i:134<=d/\d<168)(j:Bw ops o sl)(k:∀ a' c,VJ a0 u0 ((d,v)::sl) a' c->wpList Tryz.prog ops Q rest a' c):wpList Tryz.prog ops Q (o::rest) a u:=by
 have l:a.eval (.tmp q)=.bool false:=h.v q _ f;have b:a.eval (.tmp s)=v:=h.v s v b;exact h.st g i j (fc (w':=u) (by simp[execOp,e,l,asBool]; exact b) ⟨rfl,QG _ _⟩) k
theorem VJ.sn{b:Nat}(h:VJ a0 u0 sl a u)(e:o.op=.fieldAddr 28 (.tmp s) 1)(f:get? sl s=some (ptr b))(g:o.dst=some d)(i:134<=d/\d<168)(j:Bw ops o sl)(k:∀ a' c,VJ a0 u0 ((d,.pointer (some ⟨b,3,none⟩))::sl) a' c->wpList Tryz.prog ops Q rest a' c):wpList Tryz.prog ops Q (o::rest) a u :=
 h.st g i j (fc (fm (te:=⟨c7,0,_,2⟩) (x:=.tmp s) (c_.fact (E:=E3) rfl) e rfl (show 1<2 by decide) (h.v s _ f)) ⟨rfl,QG _ _⟩) k
theorem VJ.ld{b:Nat}{C:Array Value}{f:Nat×Nat}(h:VJ a0 u0 sl a u)(c:u0.heap[b]?=some (.cells C 28 f)){x:Value}(g:(C.toList.drop 3).take 1=[x])(i:o.op=.load 26 (.tmp s))(j:get? sl s=some (.pointer (some ⟨b,3,none⟩)))(k:o.dst=some d)(l:134<=d/\d<168)(m:Bw ops o sl)(n:∀ a' e,VJ a0 u0 ((d,x)::sl) a' e->wpList Tryz.prog ops Q rest a' e):wpList Tryz.prog ops Q (o::rest) a u :=
 h.st k l m (fc (fv (te:=⟨.slice b8,37,24,0⟩) (x:=.tmp s) (c_.fact (E:=E3) rfl) i (h.v s _ j) ((h.b.block b (b9 c)).trans c) (cs:=[x]) g rfl rfl) ⟨rfl,QG _ _⟩) n
theorem VJ.ev{ty:TypeId}{ps:List Prop}{pos:String}{af:Array Edge}{g:Option (Nat×Bool)}{op:Op}(h:VJ a0 u0 sl a u)(e:List (Nat×AV))(r:AV)(i:SL a u e)(b:nC op=true)(j:po E3 e [] [] ⟨some d,op,ty,pos,af,none⟩ .no=some (r,ps))(k:eP ps)(l:∀{w z},m [] (fun _=>False) w r [z]->z=v)(n:134<=d/\d<168)(p:Bw ops ⟨some d,op,ty,pos,af,g⟩ sl)
    (t:∀ a' c,VJ a0 u0 ((d,v)::sl) a' c->wpList Tryz.prog ops Q rest a' c):wpList Tryz.prog ops Q (⟨some d,op,ty,pos,af,g⟩::rest) a u :=
 h.st rfl n p (fD.imp (xi (E:=E3) (o:=⟨some d,op,ty,pos,af,none⟩) c_ i b rfl j k) fun z c f=>⟨l f.1,f.2⟩) t
theorem VJ.num{n:Int}(h:VJ a0 u0 sl a u)(c:get? sl s=some (.int .i64 n))(e:gG .i64 n){b:List (Nat×AV)}(f:SL a u b):SL a u ((s,.a_ (.int .i64) n)::b):=.cons (by rw[h.v s _ c]; exact eO e) f
theorem VJ.row{l:List b8.den}{x:Value}(h:VJ a0 u0 sl a u)(c:rep (.slice b8) (fun _=>False) u0 [x] l)(e:get? sl s=some x):SL a u [(s,.a_ (.slice b8) l)]:=.cons ⟨[x],fx (t:=.slice b8) c (Ev.c8 h.b),Sr (fun z=>[z]) (h.v s _ e)⟩ .nil
end
@[go_sem] def abU:Spec:=⟨[.slice (.int .i64),.int .i64,.int .u8],fun d=>(.a_ .bool true,[])⟩
@[go_sem] def uJ(r:Rel):AV:=.cons (.a_ .str r.1.1) (.cons (.a_ .bool r.1.2.1) (.cons (.a_ (.slice fe) r.1.2.2) (.cons (.a_ (.slice b8) r.2) .nil)))
@[go_sem] def Ou(t:fy):AV:=.cons (.a_ (.slice eK) t.1) (.cons (.a_ .bool t.2.1) (.cons (.a_ (.slice (.int .u32)) t.2.2.1) (.cons (.a_ (.slice (.int .u32)) t.2.2.2) .nil)))
theorem aay{X:Nat->Prop}{ρ:List Value}{w:World}{cs:List Value}{r:Rel}(h:rep c7 X w cs r):m ρ X w (uJ r) cs:=by
 have b:cs.length=4:=eR h
 match cs,b,h with
 | [e,f,g,i],_,h =>
  have a:∀{t:Ty}{c:Value}{d:t.den},t.isAgg=false->rep t X w [c] d->m ρ X w (.a_ t d) [c]:=fun j k=>⟨_,k,by unfold Ty.wrap; rw[j]; rfl⟩
  exact⟨e,_,rfl,a rfl h.1.1,f,_,rfl,a rfl h.1.2.1,g,_,rfl,a rfl h.1.2.2,i,_,rfl,a rfl h.2,rfl⟩
theorem Fr.act{w0 w:World}{X0:Nat->Prop}{Bo:List Value}{N n:Nat}{sl sl':List (Nat×AV)}{ck:List (Nat×CT)}{ρ:List Value}{a a':Act}(h:Fr w0 X0 Bo N ⟨sl,ck,n⟩ ρ a w)(c:a'.defers=[])(d:a'.tmps.size=N)(b:∀ t x,get? sl' t=some x->m ρ (XX X0 ρ ck) w x [gt a' t]):Fr w0 X0 Bo N ⟨sl',ck,n⟩ ρ a' w :=
 ⟨c,d,h.kp,h.nx,h.nd,h.kn,h.bl,h.dj,h.cs,b,h.pn⟩
def ckB:Nat->List (Nat×Array Value×Rel)->List (Nat×CT)
 | _,[]=>[]
 | k,x::l=>(k,.box 28 (uJ x.2.2))::ckB (k+1) l
theorem wU:∀{k:Nat}{bs:List (Nat×Array Value×Rel)}{x:Nat×CT},x∈ckB k bs↔∃ i y,bs[i]?=some y/\x=(k+i,.box 28 (uJ y.2.2))
 | k,[],x=>⟨(fun h=>by cases h),fun⟨i,y,h,_⟩=>by simp at h⟩
 | k,z::l,x=>by
  unfold ckB;rw[Qv,wU (k:=k+1)];constructor
  ·rintro(h|⟨i,y,a,b⟩)
   ·exact⟨0,z,rfl,h⟩
   ·exact⟨i+1,y,a,by rw[b]; congr 1; omega⟩
  ·rintro⟨i,y,a,b⟩;cases i with
   | zero=>cases a; exact .inl b
   | succ i=>exact .inr ⟨i,y,a,by rw[b]; congr 1; omega⟩
theorem yt:∀{k:Nat}{bs:List (Nat×Array Value×Rel)},((ckB k bs).map (·.1))=List.range' k bs.length
 | k,[]=>rfl
 | k,x::l=>by
  show k::(ckB (k+1) l).map (·.1)=_;rw[yt,Rr,List.range'_succ]
theorem rB{bs:List (Nat×Array Value×Rel)}{i b:Nat}(h:fk (bs.map fun x=>ptr x.1) i b):∃ y,bs[i]?=some y/\b=y.1:=by
 cases a:bs[i]? with
 | none=>exact(kV (by rw[Rt]; exact Wt.1 a) h).elim
 | some y =>
  have e:(bs.map fun x=>ptr x.1)[i]?=some (ptr y.1):=by rw[Ro,a]; rfl
  have h:E_ (ptr y.1) b:=by rw[<-gi e]; exact h
  exact⟨y,rfl,(Rk h).symm⟩
theorem abt{u:World}{X:Nat->Prop}{a:Act}{sl:List (Nat×AV)}(bs:List (Nat×Array Value×Rel))(A:∀ b,X b->b<u.heap.size)(B:a.defers=[])(C:a.tmps.size=168)(g:(bs.map (·.1)).Nodup)(p:∀ x∈bs,¬X x.1/\u.heap[x.1]?=some (.cells x.2.1 28 (0,0))/\rep c7 (fun k=>X k∨k∈bs.map (·.1)) u x.2.1.toList x.2.2)
    (l:∀ t x,get? sl t=some x->(∃ i y,bs[i]?=some y/\x=.ref i 0/\gt a t=ptr y.1)∨(pI x/\m [] (fun _=>False) u x [gt a t])):Fr u X (bs.map fun x=>ptr x.1) 168 ⟨sl,ckB 0 bs,bs.length⟩ (bs.map fun x=>ptr x.1) a u:=by
 have n:∀{i b},fk (bs.map fun x=>ptr x.1) i b->b∈bs.map (·.1):=fun h=>by
  obtain⟨y,c,rfl⟩:=rB h;exact Rj.2 ⟨y,Ra c,rfl⟩
 refine acb B C A (by rw[Rt]) (by rw[yt]; exact List.nodup_range') (fun x e=>?_) (fun x e b d=>?_) (fun i b d=>?_) (fun x e y K D b c f=>?_) (fun x e=>?_) (fun t x e=>?_)
 ·obtain⟨i,y,c,rfl⟩:=wU.1 e;show 0+i<_;rw[Q8];exact(U_.1 c).1
 ·obtain⟨y,c,rfl⟩:=rB d;obtain⟨f,o,_⟩:=p y (Ra c);exact⟨b9 o,f⟩
 ·obtain⟨y,c,rfl⟩:=rB d;exact⟨_,wU.2 ⟨i,y,c,rfl⟩,Q8 i⟩
 ·obtain⟨L,E,F⟩:=rB c;obtain⟨M,G,H⟩:=rB f;refine D ?_;have I:(bs.map (·.1))[x.1]?=some b:=by rw[Ro,E,F]; rfl
  have J:(bs.map (·.1))[y.1]?=some b:=by rw[Ro,G,H]; rfl
  obtain⟨q,r⟩:=U_.1 I;obtain⟨s,v⟩:=U_.1 J;rcases TI x.1 y.1 with j|j|j
  ·exact absurd (r.trans v.symm) (TG.1 g _ _ q s j)
  ·exact j
  ·exact absurd (v.trans r.symm) (TG.1 g _ _ s q j)
 ·obtain⟨i,y,c,rfl⟩:=wU.1 e;obtain⟨_,o,w⟩:=p y (Ra c);refine⟨rfl,y.1,y.2.1,?_,o,aay (eJ w fun b d=>.inl ?_),gz w⟩
  ·show(bs.map fun x=>ptr x.1)[0+i]?=_;rw[Q8,Ro,c];rfl
  ·rcases d with d|⟨z,_,d⟩
   ·exact .inl d
   ·exact .inr (n d)
 ·rcases l t x e with⟨i,y,c,rfl,f⟩|⟨c,f⟩
  ·exact⟨_,y.1,by rw[Ro,c]; rfl,rfl,by rw[f]; rfl⟩
  ·exact acs c f
theorem Qp{w0 w u:World}{X0:Nat->Prop}{c d:Nat}{g j:Array Value}{r:Rel}{a:Act}{sl:List (Nat×AV)}(hk:Kept [] w0 w)(f:∀ b,X0 b->b<w0.heap.size)(v:Below w.heap.size w u)(n:c≠d)(A:w.heap.size<=c)(B:w.heap.size<=d)(C:u.heap[c]?=some (.cells g 28 (0,0)))(D:u.heap[d]?=some (.cells j 28 (0,0)))
    (E:rep c7 (fun k=>X0 k∨k=c∨k=d) u g.toList r) (F:rep c7 (fun k=>X0 k∨k=c∨k=d) u j.toList r) (G:a.defers=[]) (H:a.tmps.size=168) (o:∀ t x,get? sl t=some x->(∃ i y,[(c,g,r),(d,j,r)][i]?=some y/\x=.ref i 0/\gt a t=ptr y.1)∨(pI x/\m [] (fun _=>False) u x [gt a t])) :
    Fr w0 X0 [] 168 ⟨sl,[(0,.box 28 (uJ r)),(1,.box 28 (uJ r))],2⟩ [ptr c,ptr d] a u:=by
 have p:w0.heap.size<=w.heap.size:=hk.size;have l:∀{k},k∈[(c,g,r),(d,j,r)].map (·.1)->k=c∨k=d:=fun e=>by simpa using e
 refine Fr.ack (w1:=u) (X1:=X0) (abt [(c,g,r),(d,j,r)] (fun b q=>QI (f b q) (QL p v.size)) G H (by simpa using n) (fun x z=>?_) o) (hk.below v) (fun k s=>?_) (fun k h=>h)
 ·simp only[Qv,QW,RV]at z;rcases z with rfl|rfl
  ·exact⟨fun h=>by have:=f _ h; omega,C,eJ E fun k e=>.inl (e.imp id l)⟩
  ·exact⟨fun h=>by have:=f _ h; omega,D,eJ F fun k e=>.inl (e.imp id l)⟩
 ·obtain⟨i,hi⟩:=s;obtain⟨y,I,rfl⟩:=rB (bs:=[(c,g,r),(d,j,r)]) hi;have e:=Ra I;simp only[Qv,QW,RV]at e;rcases e with rfl|rfl
  ·exact QL p A
  ·exact QL p B
theorem abK{q:Int}(h:gG .u8 q):(0<=q.tmod 3/\q.tmod 3<3)/\∃ a:Nat,(a=0∨a=2∨a=3)/\([0,2,3]:List Int).getD (q.tmod 3).toNat (zd (.int .i64))=(a:Int):=by
 have b:0<=q:=h.1;have c:q.tmod 3=q % 3:=Uj b;have d:q % 3=0∨q % 3=1∨q % 3=2:=by omega
 rw[c];refine⟨by omega,?_⟩;rcases d with e|e|e<;>rw[e]
 ·exact⟨0,.inl rfl,rfl⟩
 ·exact⟨2,.inr (.inl rfl),rfl⟩
 ·exact⟨3,.inr (.inr rfl),rfl⟩
@[go_sem] noncomputable def rfX(stop:List Nat)(a:Nat):Sx:=⟨ERQ,168,[(1,[(23,.dt)]),(2,[(1000000,.mx [(9000000,0)])]),(15,[(1000000,.mx [(9000000,0)])]),(16,[(1000000,.mx [(9000000,0)])])],[],stop,[.tmp 6],.nil,a,some ([],0)⟩
@[go_sem] def abz(a:Nat)(e:Int):List (Nat×AV):=[(8,.ref 0 0),(9,.ref 1 0),(10,.ref 2 0),(11,.ref 3 0),(12,.val (ptr a)),(13,.a_ (.int .i64) e)]
@[go_sem] def rfL(s:iR)(L:List fy)(k:Nat):St:=⟨[(8,.ref 0 0),(9,.ref 1 0),(18,.a_ (.int .i64) (k:Int))],[(0,.box 28 (uJ (s,L))),(1,.box 28 (uJ (s,L)))],6⟩
theorem P_:c6 Tryz.prog 3 abU:=by
 refine eT wK abU Tryz.func3 rfl (by decide) (N:=168) rfl (res:=[.tmp 6]) rfl (by decide) [(1,[(23,.dt)]),(2,[(1000000,.mx [(9000000,0)])]),(15,[(1000000,.mx [(9000000,0)])]),(16,[(1000000,.mx [(9000000,0)])])] [] [2,6,15] 100 (by kernel_rfl) ?_;rintro⟨(l:List Int),(n:Int),(q:Int),_⟩ hw hp;refine⟨rfl,fun H hH=>?_⟩;dsimp only[go_sem]at hw hp ⊢;obtain⟨cY,i0,ek,rH⟩:=abK hw.2.2.1;have cZ:gG .u8 (q.tmod 3):=by
  have:(0:Int)<=q.tmod 3/\q.tmod 3<=255:=by omega
  exact this
 obtain⟨L,hR,hv,el,bx,bz⟩:=H6 l (show i0<4 by omega);have en:=Ec l;have bU:(lf l)[i0]?=some ((jl i0,L):Rel):=by
  have bV:i0<(lf l).length:=by omega
  rw[Qz,Qr bV]at hR;rw[Qr bV];exact Sr some hR
 clear hw;have da:=Le (ij .and .i64 n 127);have eo:=KW (ij .and .i64 n 127);rw[rH];refine⟨by decide,cZ,cY,?_⟩;refine hH.mR ⟨[(0,.a_ (.slice (.int .i64)) l),(1,.a_ (.int .i64) n),(7,.a_ (.int .i64) (i0:Int))],[],0⟩ 0 ?_ ?_
 ·dsimp only[go_sem];and_intros<;>first|trivial|rfl|omega
 refine hH.raw fun w0 X0 Bo Q aN hE ae aB ρ a w hf=>?_;have db:Bo=[]:=SH.1 aN.symm;subst db;have dc:∀ b,X0 b->XX X0 ρ [] b:=fun b V=>.inl V;have bW:∀ b,X0 b->b<w.heap.size:=fun b V=>QI (ae b V) hf.kp.size;have h0:m [] X0 w (.a_ (.slice (.int .i64)) l) [gt a 0]:=fN (fun b V=>.inl (dc b V)) (hf.sl 0 _ rfl);have h7:=(fI (hf.sl 7 _ rfl)).1;have K:b_ Tryz.prog 28 ⟨c7,0,_,2⟩:=c_.fact (E:=E3) rfl;have uR:=eU (E:=ERQ) wK (T:=29) (e:=⟨.slice c7,28,24,0⟩) rfl rfl;obtain⟨v0,bA⟩:∃ v,gt a 0=v:=⟨_,rfl⟩;rw[bA]at h0;have aw:∀(u:World) (X:Nat->Prop),Below w.heap.size w u->(∀ b,X b->b<u.heap.size)->(∀ b,X b->X0 b∨w.heap.size<=b)->Calls Tryz.prog 4 [v0].toArray u fun e u'=>∃ z,e=.returned z/\Below u.heap.size u u'/\rep (.slice c7) X u' [z] (lf l):=fun u X V h1 h2=>by
  refine TB ((B7 (l,()) trivial).2 [] X u [v0] h1 ⟨_,[],rfl,oT (Ev.c8 V) (fN h2 h0),rfl⟩) ?_;rintro e u' ⟨z,rfl,hz,dd⟩;exact⟨z,rfl,dd,jj rfl rfl hz⟩
 have aO:=fun args w=>e_ (P:=Tryz.prog) (f:=4) Tryz.func4 rfl rfl args w;refine AA (l:=[_,_,_,_,_,_,_,_,_,_,_,_,_,_]) (N:=168) (a0:=a) (w0:=w) (i1:=10) (i2:=11) (ist:=12) (isrc:=4) bW c_.mx (by decide) (by decide) K (Hz l i0 (jl i0,L) v0) [0,1,0,7,15,0,35,0,227,483,0,0,3199,8191] [[(0,none)],[(28,some 0)],[(7,none)],[(29,some 1),(30,some 2)],[(31,some 3)],[(0,none)],[(33,some 5)],[(7,none)],[(34,some 6),(35,some 7)],[(36,some 8)],[],[],[(8,some 10),(32,some 4)],[(9,some 11),(37,some 9)]] 13 hf.sz (by kernel_rfl) (by kernel_rfl) (by decide) (by decide) (by decide) Mn Gh (fun v u X ⟨cs,e1,e2⟩=>⟨cs,e1,eR e2,gz e2⟩) ?_ ?_ ?_ ?_
 ·rintro j o (rfl|rfl) F<;>cases F<;>exact⟨rfl,rfl⟩
 ·intro o F;cases F;exact⟨rfl,8,32,rfl,by simp,by simp,by decide,by decide⟩
 ·intro j o hj n1 n2 n3 F
  match j,hj with
  | 0,_ =>
   cases F
   refine⟨rfl,fun val a' u X V hX ah hR M=>?_⟩
   have g0:gt a' 0=gt a 0:=M (0,none) (by simp)
   exact fc (fE (x:=.tmp 0) rfl) ⟨QG _ _,g0.trans bA⟩
  | 1,_ =>
   cases F
   refine⟨rfl,fun val a' u X V hX ah hR M=>?_⟩
   have g0:gt a' 28=val 0:=M (28,some 0) (by simp)
   have o0:val 0=v0:=hR 0 (by decide) (by decide) (by decide) (by decide) (by decide)
   exact gL (vs:=[v0]) aO (by rw[Sd]; exact Sr (fun z=>#[z]) (g0.trans o0)) (aw u X V hX ah)
  | 2,_ =>
   cases F
   refine⟨rfl,fun val a' u X V hX ah hR M=>?_⟩
   have g0:gt a' 7=gt a 7:=M (7,none) (by simp)
   exact fc (fE (x:=.tmp 7) rfl) ⟨QG _ _,g0.trans h7⟩
  | 3,_ =>
   cases F
   refine⟨rfl,fun val a' u X V hX ah hR M=>?_⟩
   have g0:gt a' 29=val 1:=M (29,some 1) (by simp)
   have g1:gt a' 30=val 2:=M (30,some 2) (by simp)
   have o0:rep (.slice c7) X u [val 1] (lf l):=hR 1 (by decide) (by decide) (by decide) (by decide) (by decide)
   have o1:val 2=.int .i64 (i0:Int):=hR 2 (by decide) (by decide) (by decide) (by decide) (by decide)
   exact pB (CB (X:=X) K rfl uR (l:=lf l) (by show rep _ _ _ [gt a' 29] _; rw[g0]; exact o0) (g1.trans o1) bU) fun q q2=>⟨QG _ _,q2⟩
  | 4,_ =>
   cases F
   refine⟨rfl,fun val a' u X V hX ah hR M=>?_⟩
   have g0:gt a' 31=val 3:=M (31,some 3) (by simp)
   have o0:se c7 X u (val 3) (jl i0,L):=hR 3 (by decide) (by decide) (by decide) (by decide) (by decide)
   exact pB (yY (te:=⟨c7,0,_,2⟩) (X:=X) K rfl (z:=(jl i0,L)) (by show se _ _ _ (gt a' 31) _; rw[g0]; exact o0)) fun q q2=>⟨QG _ _,q2⟩
  | 5,_ =>
   cases F
   refine⟨rfl,fun val a' u X V hX ah hR M=>?_⟩
   have g0:gt a' 0=gt a 0:=M (0,none) (by simp)
   exact fc (fE (x:=.tmp 0) rfl) ⟨QG _ _,g0.trans bA⟩
  | 6,_ =>
   cases F
   refine⟨rfl,fun val a' u X V hX ah hR M=>?_⟩
   have g0:gt a' 33=val 5:=M (33,some 5) (by simp)
   have o0:val 5=v0:=hR 5 (by decide) (by decide) (by decide) (by decide) (by decide)
   exact gL (vs:=[v0]) aO (by rw[Sd]; exact Sr (fun z=>#[z]) (g0.trans o0)) (aw u X V hX ah)
  | 7,_ =>
   cases F
   refine⟨rfl,fun val a' u X V hX ah hR M=>?_⟩
   have g0:gt a' 7=gt a 7:=M (7,none) (by simp)
   exact fc (fE (x:=.tmp 7) rfl) ⟨QG _ _,g0.trans h7⟩
  | 8,_ =>
   cases F
   refine⟨rfl,fun val a' u X V hX ah hR M=>?_⟩
   have g0:gt a' 34=val 6:=M (34,some 6) (by simp)
   have g1:gt a' 35=val 7:=M (35,some 7) (by simp)
   have o0:rep (.slice c7) X u [val 6] (lf l):=hR 6 (by decide) (by decide) (by decide) (by decide) (by decide)
   have o1:val 7=.int .i64 (i0:Int):=hR 7 (by decide) (by decide) (by decide) (by decide) (by decide)
   exact pB (CB (X:=X) K rfl uR (l:=lf l) (by show rep _ _ _ [gt a' 34] _; rw[g0]; exact o0) (g1.trans o1) bU) fun q q2=>⟨QG _ _,q2⟩
  | 9,_ =>
   cases F
   refine⟨rfl,fun val a' u X V hX ah hR M=>?_⟩
   have g0:gt a' 36=val 8:=M (36,some 8) (by simp)
   have o0:se c7 X u (val 8) (jl i0,L):=hR 8 (by decide) (by decide) (by decide) (by decide) (by decide)
   exact pB (yY (te:=⟨c7,0,_,2⟩) (X:=X) K rfl (z:=(jl i0,L)) (by show se _ _ _ (gt a' 36) _; rw[g0]; exact o0)) fun q q2=>⟨QG _ _,q2⟩
  | 10,_=>exact absurd rfl n1
  | 11,_=>exact absurd rfl n2
  | 12,_=>exact absurd rfl n3
  | j+13,hj=>omega
 ·intro val u a' b1 b2 C V bX de bY df bZ dh e4 hC o4 hD hR hp hd G;obtain⟨D,di,dj⟩:=hD;obtain⟨dk,k1,k2⟩:∃ cs,val 4=c7.wrap cs/\rep c7 (fun k=>X0 k∨k=b1∨k=b2) u cs (jl i0,L):=hR 4 (by decide) (by decide) (by decide) (by decide);obtain⟨ca,k3,k4⟩:∃ cs,val 9=c7.wrap cs/\rep c7 (fun k=>X0 k∨k=b1∨k=b2) u cs (jl i0,L):=hR 9 (by decide) (by decide) (by decide) (by decide);have x9:gt a' 9=val 11:=hp 9 (by decide);have x8:gt a' 8=val 10:=hp 8 (by decide);have dm:gt a' 37=val 9:=hp 37 (by decide);have ec:C.toList=dk:=ze (by rw[RC]; exact hC) (eR k2) o4 (gz k2) (e4.symm.trans k1);refine iT (cs:=ca) K rfl rfl rfl (x9.trans bZ) dj di (dm.trans k3) (eR k4) (gz k4) fun u2 q2 be=>RM ?_;have r8:rep c7 (fun k=>X0 k∨k=b1∨k=b2) u2 C.toList (jl i0,L):=by rw[ec]; exact fx k2 (be.ev (X:=fun k=>X0 k∨k=b1∨k=b2) (.inr (.inr rfl)))
  have r9:rep c7 (fun k=>X0 k∨k=b1∨k=b2) u2 ca.toArray.toList (jl i0,L):=fx k4 (be.ev (X:=fun k=>X0 k∨k=b1∨k=b2) (.inr (.inr rfl)));have q8:=(be.ne b1 bX).trans dh;have dp:=be.below bY V;have e8:gt a' 8=ptr b1:=x8.trans df;have e9:gt a' 9=ptr b2:=x9.trans bZ;have dq:gt a' 1=gt a 1:=hp 1 (by decide);clear aw aO hR hp k1 k2 k3 k4;have bB:=Qp (a:=a') (sl:=[(8,.ref 0 0),(9,.ref 1 0),(1,.a_ (.int .i64) n)]) hf.kp ae dp bX de bY q8 q2 r8 r9 (hd.trans hf.dn) G fun t x hx=>by
   have hx:=b7 hx;simp only[Qv,SB,QW,RV]at hx;rcases hx with⟨rfl,rfl⟩|⟨rfl,rfl⟩|⟨rfl,rfl⟩
   ·exact .inl ⟨0,_,rfl,rfl,e8⟩
   ·exact .inl ⟨1,_,rfl,rfl,e9⟩
   ·rw[dq];exact .inr ⟨.inl ⟨_,_,rfl⟩,hf.sl 1 _ rfl⟩
  clear hH;refine qn aN hE ae aB (fun H hH O=>?_) (by kernel_rfl) _ a' u2 bB;refine hH.run 100 _ _ ?_;dsimp only[go_sem];apply I_ (H:=H) (inv:=fun t:fy=>⟨[(8,.ref 0 0),(9,.ref 1 0),(10,.ref 2 0),(11,.ref 3 0)],[(0,.box 28 (uJ (jl i0,L))),(1,.box 28 (uJ (jl i0,L))),(2,.box 37 (Ou t)),(3,.box 37 (Ou t))],4⟩) (Q:=fun t=>(t.1.length<=1000/\fs t.2<=1000)/\lz t=t)
  ·intro key;have ab:fs (qf 1)<=1000:=by decide +kernel
   refine⟨fun hc=>hH.mR _ 4 ?_ (key ((oX (ij .and .i64 n 127)).1,qf 1) ⟨⟨(show(oX (ij .and .i64 n 127)).1.length<=1000 by omega),ab⟩,by unfold lz; rw[jo]⟩),fun hc=>hH.mR _ 4 ?_ (key (oX (ij .and .i64 n 127)) ⟨⟨by omega,by omega⟩,da⟩)⟩
   ·dsimp only[go_sem];and_intros<;>first|trivial|rfl|omega
   ·dsimp only[go_sem];and_intros<;>first|trivial|rfl|omega
  rintro t ⟨ht,du⟩;obtain⟨s,G⟩:∃ s,jl i0=s:=⟨_,rfl⟩;rw[G]at hv bx bB ⊢;have ai:gZ (s,L):=⟨(show s.2.2.length<=1000 by omega),(show L.length<=400 by omega),fun u hu=>by have:=bz u hu; omega⟩;have cb:∀ u∈L,lz u=u:=fun u hu=>(bz u hu).1;refine O _ _ ?_;intro dv ep a6 w6 cc;clear hH O dv bB r8 r9;have er:∀ c,(c,CT.box 28 (uJ (s,L)))∈[(0,CT.box 28 (uJ (s,L))),(1,.box 28 (uJ (s,L))),(2,.box 37 (Ou t)),(3,.box 37 (Ou t))]->True:=fun _ _=>trivial;refine Ai (pre:=[_,_]) (post:=[_,_,_,_,_,_,_]) (ann:=[]) wK ae rfl cc rfl trivial (by rfl) fun cd a1 w1 ab=>?_;have jM:m [] (fun _=>False) w1 (.a_ c7 (s,L)) [gt a1 52]:=by
   obtain⟨cs,d1,d2⟩:=ab.sl 52 (.a_ c7 (s,L)) rfl;exact⟨cs,eJ d1 fun b V=>V.elim,d2⟩
  have dw:m [] (fun _=>False) w1 (.a_ b8 t) [gt a1 53]:=by
   obtain⟨cs,d1,d2⟩:=ab.sl 53 (.a_ b8 t) rfl;exact⟨cs,eJ d1 fun b V=>V.elim,d2⟩
  refine rf6 rfl ab.sz ai ht jM dw fun a3 u3 ao cs A bg bC aP hA dx dz dB aC dC dD=>?_;obtain⟨n1,bD⟩:∃ n,w1.heap.size=n:=⟨_,rfl⟩;obtain⟨n2,bE⟩:∃ n,u3.heap.size=n:=⟨_,rfl⟩;have es:n1<=n2:=by rw[<-bD,<-bE]; exact bg.size
  have cf:∀ b,(X0 b∨(n1<=b/\b<n2))->b<u3.heap.size:=by
   rintro b (h|h)
   ·have:=ae b h;have:=ab.kp.size;omega
   ·omega
  have bF:=(ab.base (X1:=fun b=>X0 b∨(n1<=b/\b<n2)) ae bg fun b h=>h.imp id fun h=>by omega).act (a':=a3) (sl':=abz ao (fU (s,L) t)) (dC.trans ab.dn) dD fun q x hx=>by
   have aD:=(ab.base (X1:=fun b=>X0 b∨(n1<=b/\b<n2)) ae bg fun b h=>h.imp id fun h=>by omega).sl;have hx:=b7 hx;simp only[abz,Qv,SB,QW,RV]at hx;rcases hx with⟨rfl,rfl⟩|⟨rfl,rfl⟩|⟨rfl,rfl⟩|⟨rfl,rfl⟩|⟨rfl,rfl⟩|⟨rfl,rfl⟩
   ·rw[aC 8 (by decide)]; exact aD 8 _ rfl
   ·rw[aC 9 (by decide)]; exact aD 9 _ rfl
   ·rw[aC 10 (by decide)]; exact aD 10 _ rfl
   ·rw[aC 11 (by decide)]; exact aD 11 _ rfl
   ·exact Sr (fun z=>[z]) dx
   ·rw[dz]; exact eO dB
  have bG:∀{u:World}{X:Nat->Prop}{Bo:List Value},∀ st ρ a' w',ku (rfX [9] 4) st->Fr u X Bo (rfX [9] 4).N st ρ a' w'->Q .ret a' w'/\Q .normal a' w':=by
   intro u X Bo st ρ a' w' bh hf;exfalso;unfold ku at bh;split at bh
   ·obtain⟨_,⟨⟨h6,_⟩,_⟩⟩:=bh;exact absurd h6 (show ¬(4<=0) by decide)
   ·exact bh
  refine qn (S:=rfX [9] 4) (by rw[pj]; exact bF.nx.symm) wK cf bG (fun H hH O=>?_) (by kernel_rfl) cd a3 u3 bF;refine hH.run 100 _ _ ?_;dsimp only[go_sem];have cg:gZ (ky (s,L) t):=MX ai (by omega) ht cb du;refine⟨ai,ht,ai,ht,?_⟩;refine hH.mR ⟨[(8,.ref 0 0),(9,.ref 1 0),(10,.ref 2 0),(11,.ref 3 0),(12,.val (ptr ao)),(13,.a_ (.int .i64) (fU (s,L) t)),(14,.ref 4 0),(15,.a_ (.int .i64) (fU (s,L) t)),(16,.ref 5 0),(17,.a_ (.int .i64) (fU (s,L) t))],[(0,.box 28 (uJ (s,L))),(1,.box 28 (uJ (s,L))),(2,.box 37 (Ou t)),(3,.box 37 (Ou t)),(4,.box 28 (uJ (ky (s,L) t))),(5,.box 28 (uJ (ky (s,L) t)))],6⟩ 6 ?_ ?_
  ·dsimp only[go_sem];and_intros<;>first|trivial|rfl|omega
  refine O _ _ ?_;intro ch et a9 u9 aj;clear hH O ch;have cj:Ev (fun k=>¬(n1<=k/\k<n2)) u3 u9:=⟨aj.kp.size,fun k hk hn=>aj.kp.block k hk fun hc=>(aj.pn.bo k hc).2 (.inr (V4.1 hn))⟩;have K:b_ Tryz.prog 28 ⟨c7,0,_,2⟩:=c_.fact (E:=E3) rfl;have ck:n1<=ao/\ao<n2:=⟨by rw[<-bD]; exact bC,by rw[<-bE]; exact b9 aP⟩;have dE:u9.heap[ao]?=some (.cells cs.toArray 28 (0,0)):=(cj.block ao (b9 aP) (fun h=>h ck)).trans aP;have bH:fg c7 (fun k=>¬(n1<=k/\k<n2)) u9 cs A:=eZ (fo hA fun k hk=>by
   rcases QA k n1 with h|h
   ·exact .inl (.inl (by rw[bD]; exact h))
   ·refine .inr ?_;rcases QA k n2 with h'|h'
    ·exact absurd ⟨h,h'⟩ hk
    ·rw[bE]; exact h') cj
  have e9:gt a9 12=ptr ao:=(QB (aj.sl 12 (.val (ptr ao)) rfl)).1;refine Re ?_;refine eV 69 rfl rfl (by rw[aj.sz]; decide) (fv (x:=.tmp 12) K rfl e9 dE (cs:=cs) (by rw[RP]; exact QQ (SA (ft bH))) (ft bH) rfl) fun eu aQ=>?_;refine jO (R:=fun _ u=>Ev (fun k=>¬¬(n1<=k/\k<n2)) u9 u/\u.os=u9.os/\u.tape=u9.tape/\u.output=u9.output) 70 rfl rfl (by rw[aQ.sz,aj.sz]; decide) (gL (vs:=[c7.wrap cs]) (e_ Tryz.func9 rfl rfl) (by rw[Sd]; exact Sr (fun z=>#[z]) aQ.v) ((tn bH).mono fun e u ⟨h1,h2⟩=>⟨_,h1,h2⟩)) fun z bI bJ hz bK=>RM ?_;obtain⟨aR,cl⟩:=hz;have aR:Ev (fun k=>n1<=k/\k<n2) u9 bI:=aR.imp fun k hk=>V4.1 hk;have dF:Kept [] w0 u3:=ab.kp.below bg;have dG:∀ k,qZ (yE cd _) k->w0.heap.size<=k:=P4 ab (Qu _) fun k h=>(mc h).elim;have hF:=aj.back (w0:=w0) (X0:=X0) (a':=bJ) (w':=bI) (U:=fun k=>n1<=k/\k<n2) cf dF dG (fun k h=>.inl h) (fun k hk=>⟨.inr hk,by have:=ab.kp.size; omega⟩) aR cl (bK.dn.trans (aQ.dn.trans aj.dn)) (bK.sz.trans (aQ.sz.trans aj.sz))
   (sl':=[(8,.ref 0 0),(9,.ref 1 0),(10,.ref 2 0),(11,.ref 3 0),(13,.a_ (.int .i64) (fU (s,L) t)),(14,.ref 4 0),(15,.a_ (.int .i64) (fU (s,L) t)),(16,.ref 5 0),(17,.a_ (.int .i64) (fU (s,L) t))]) (fun q x hx=>?_)
   (ck':=[(0,.box 28 (uJ (s,L))),(1,.box 28 (uJ (s,L))),(2,.box 37 (Ou t)),(3,.box 37 (Ou t)),(4,.box 28 (uJ (ky (s,L) t))),(5,.box 28 (uJ (ky (s,L) t)))]) (show [0,1,2,3,4,5].Nodup by decide) (fun x hx=>⟨⟨x.2,hx⟩,.inl hx⟩)
  ·refine qn aN hE ae aB (fun H hH O=>?_) (by kernel_rfl) _ bJ bI hF;refine hH.run 100 _ _ ?_;dsimp only[go_sem];have cn:∀ r:Rel,Mi r r=true:=fun r=>G0 rfl;simp only[ne_eq,W_,decide_false,decide_true,cn,Bool.not_true,Bool.or_self,Su,R_,forall_const,U0,false_imp_iff,SK];refine⟨cg,cg,ai,ai,?_⟩;refine hH.mR (rfL s L 0) 6 ?_ ?_
   ·dsimp only[go_sem];and_intros<;>first|trivial|rfl|omega
   refine O _ _ ?_;intro bL cp ew ex cq;clear hH O bL hF aj bF ab cc;refine ui (fun(k:Nat) a u=>k<=L.length/\∃ ρ,Fr w0 X0 [] 168 (rfL s L k) ρ a u) (fun k=>L.length-k) 0 ⟨QE _,cp,cq⟩ ?_;rintro k dH dI ⟨hk,ee,bm⟩;rw[<-zo];refine qn aN hE ae aB (k:=.code _::.mark _::_) (fun H hH O=>?_) (by kernel_rfl) _ dH dI bm;refine hH.run 100 _ _ ?_;dsimp only[go_sem];refine⟨fun d=>?_,fun d=>?_⟩
   ·have d:k<L.length:=by have:=QF d; omega
    refine hH.mR (rfL s L k) 6 ?_ ?_
    ·dsimp only[go_sem];and_intros<;>first|trivial|rfl|omega
    refine O _ _ ?_;intro bM cr aS af ac;clear hH O bM bm;have K:b_ Tryz.prog 28 ⟨c7,0,_,2⟩:=c_.fact (E:=E3) rfl;obtain⟨-,bb,CC,pb,qb,mb,-⟩:=ac.cs (0,CT.box 28 (uJ (s,L))) Qx;have pb:cr[0]?=some (ptr bb):=pb;have eb:gt aS 8=ptr bb:=by
     obtain⟨v,b,z1,z2,z3⟩:=ac.sl 8 (.ref 0 0) rfl;rw[pb]at z1;cases z1;cases z2;exact(QB z3).1
    have rb:rep c7 (fun _=>False) af CC.toList (s,L):=eJ (ss mb) fun b V=>V.elim;obtain⟨c0,c1,c2,c3,ec⟩:=ra rb;have eC:CC=#[c0,c1,c2,c3]:=by have:=Sr List.toArray ec; simpa using this
    subst eC;have ct:gt aS 18=.int .i64 (k:Int):=(fI (ac.sl 18 _ rfl)).1;obtain⟨x,hx⟩:∃ x,L[k]?=some x:=⟨_,yR d⟩;have dJ:L.getD k tz=x:=by rw[Qz,hx]; rfl
    obtain⟨bn,bp⟩:=aby hv d;rw[dJ]at bn bp;have ey:=(bz x (Ra hx)).2;have aT:b_ Tryz.prog 26 ⟨.slice b8,37,24,0⟩:=c_.fact (E:=E3) rfl;have hT:b_ Tryz.prog 37 ⟨b8,0,80,2⟩:=c_.fact (E:=E3) rfl;have cu:b_ Tryz.prog 31 ⟨.slice eK,55,24,0⟩:=c_.fact (E:=E3) rfl;have hF:b_ Tryz.prog 35 ⟨fT,0,56,3⟩:=c_.fact (E:=E3) rfl;have uT:=eU (E:=E3) c_ (T:=26) (e:=⟨.slice b8,37,24,0⟩) rfl rfl;refine tj (l:=[_,_,_,_,_,_,_,_,_,_,_,_,_,_]) (N:=168) (a0:=aS) (w0:=af) c_.mx (RJ 7 (L.length-1) af fun i=>rfO bb k c3 [c0,c1,c2,c3] af x ([0,1,2,3,4,5,6].getD i 9)) [0,0,2,0,14,30,62,127,255,511,511,0,3071,8191] [[(8,none)],[(8,none)],[(108,some 1)],[(18,none)],[(109,some 2),(110,some 3)],[(111,some 4)],[(112,some 5)],[(107,some 0),(113,some 6)],[(114,some 7)],[(106,some 8)],[(106,some 8)],[],[(19,some 11),(115,some 9)],[(116,some 10)]] 13 ac.sz (by kernel_rfl) (by kernel_rfl) RJ.init ?_ ?_
    ·intro j o hj F
     match j,hj with
     | 0,_ =>
      cases F
      exact oI rfl fun Y val a' u B W J I=>B.iV (j:=0) ⟨_,fv (x:=.tmp 8) K rfl ((I (8,none) (by simp)).trans eb) ((B.1.block bb (b9 qb)).trans qb) (cs:=[c0,c1,c2,c3]) rfl rfl rfl,rfl⟩ (by decide)
     | 1,_ =>
      cases F
      exact oI rfl fun Y val a' u B W J I=>B.iV (j:=1) ⟨_,fm (x:=.tmp 8) K rfl rfl (show 1<2 by decide) ((I (8,none) (by simp)).trans eb),rfl⟩ (by decide)
     | 2,_ =>
      cases F
      exact oI rfl fun Y val a' u B W J I=>B.iV (j:=2) ⟨_,fv (x:=.tmp 108) aT rfl ((I (108,some 1) (by simp)).trans (B.2.1 1 (by decide) (J 1 (by decide)))) ((B.1.block bb (b9 qb)).trans qb) (cs:=[c3]) rfl rfl rfl,rfl⟩ (by decide)
     | 3,_ =>
      cases F
      exact oI rfl fun Y val a' u B W J I=>B.iV (j:=3) ⟨_,fE (x:=.tmp 18) rfl,(I (18,none) (by simp)).trans ct⟩ (by decide)
     | 4,_ =>
      cases F
      exact oI rfl fun Y val a' u B W J I=>B.iV (j:=4) (xQ hT rfl uT (l:=L) (by rw[show a'.eval (.tmp 109)=c3 from(I (109,some 2) (by simp)).trans (B.2.1 2 (by decide) (J 2 (by decide)))]; exact rb.2) ((I (110,some 3) (by simp)).trans (B.2.1 3 (by decide) (J 3 (by decide)))) hx) (by decide)
     | 5,_ =>
      cases F
      exact oI rfl fun Y val a' u B W J I=>B.iV (j:=5) (rk (te:=⟨b8,0,80,2⟩) (v:=.slice eK) (g:=fun p=>p.1) hT rfl rfl (show 0<2 by decide) (z:=x) (by rw[show a'.eval (.tmp 111)=_ from I (111,some 4) (by simp)]; exact B.2.1 4 (by decide) (J 4 (by decide)))) (by decide)
     | 6,_ =>
      cases F
      exact oI rfl fun Y val a' u B W J I=>B.iV (j:=6) (vd (fun b V=>B.1.block b V) cu rfl rfl (z:=x.1) (by rw[show a'.eval (.tmp 112)=_ from I (112,some 5) (by simp)]; exact B.2.1 5 (by decide) (J 5 (by decide)))) (by decide)
     | 7,_ =>
      cases F
      refine oI rfl fun Y val a' u B W J I=>?_
      have g0:gt a' 107=val 0:=I (107,some 0) (by simp)
      have g1:gt a' 113=val 6:=I (113,some 6) (by simp)
      have o0:val 0=c7.wrap [c0,c1,c2,c3]:=B.2.1 0 (by decide) (J 0 (by decide))
      have o1:rep (.slice eK) (fun _=>False) af [val 6] x.1:=B.2.1 6 (by decide) (J 6 (by decide))
      refine B.N_ W (vs:=[c7.wrap [c0,c1,c2,c3],val 6]) (e_ Tryz.func12 rfl rfl) (by
       rw[Sd];show #[gt a' 107,gt a' 113]=_;rw[g0,g1,o0]) (aci ai (by omega) bn ⟨_,fx rb (Ev.c8 B.1),rfl⟩ ⟨[val 6],fx (t:=.slice eK) o1 (Ev.c8 B.1),rfl⟩)
     | 8,_ =>
      cases F
      exact oI rfl fun Y val a' u B W J I=>B.dmv (J 7 (by decide)) rfl (I (114,some 7) (by simp))
     | 9,_ =>
      cases F
      exact oI rfl fun Y val a' u B W J I=>B.de0 (J 7 (by decide)) (J 8 (by decide)) W rfl (I (106,some 8) (by simp))
     | 10,_ =>
      cases F
      exact oI rfl fun Y val a' u B W J I=>B.de1 (J 7 (by decide)) (J 8 (by decide)) rfl (I (106,some 8) (by simp))
     | 11,_ =>
      cases F
      exact oI rfl fun Y val a' u B W J I=>B.dal W rfl
     | 12,_ =>
      cases F
      exact oI rfl fun Y val a' u B W J I=>B.dst (J 7 (by decide)) (J 9 (by decide)) (J 11 (by decide)) rfl (I (19,some 11) (by simp)) (I (115,some 9) (by simp))
     | j+13,hj=>omega
    intro val u16 ef B hp hd aU;obtain⟨ax,bN,aH,v1,eh,cv,Z,ez,v6,aE⟩:=B.fin (by decide) (by decide) (by decide) (by decide) (by decide);refine eV 20 rfl rfl (by rw[aU]; decide) (ib (x:=.tmp 116) rfl) fun aV k2=>RM ?_;have dK:gt aV 19=ptr ax:=(k2.ne 19 (by decide)).trans ((hp 19 (by decide)).trans v1);have dL:gt aV 20=.int .i64 0:=k2.v.trans ((hp 116 (by decide)).trans v6);have ay:∀ t,t<19->gt aV t=gt aS t:=fun t ht=>(k2.ne t (by omega)).trans (by
     rw[hp t (by omega)];rw[NZ (d:=19) (fun q hq s G=>?_) ht]
     match q,hq,G with
     | 0,_,G=>cases G; decide
     | 1,_,G=>cases G; decide
     | 2,_,G=>cases G; decide
     | 3,_,G=>cases G; decide
     | 4,_,G=>cases G; decide
     | 5,_,G=>cases G; decide
     | 6,_,G=>cases G; decide
     | 7,_,G=>cases G; decide
     | 8,_,G=>cases G; decide
     | 9,_,G=>cases G; decide
     | 10,_,G=>cases G; decide
     | 11,_,G=>cases G; decide
     | 12,_,G=>cases G
     | q+13,hq,_=>omega)
    have cw:=k2.dn.trans hd;have cx:=k2.sz.trans aU;clear hp B;have ad:=(aE.block bb (b9 qb)).trans qb;have aF:=fx rb (Ev.c8 (X:=fun _=>False) aE);have aG:=(ay 8 (by decide)).trans eb;have bq:=(ay 18 (by decide)).trans ct;refine SM ?_;refine tj (l:=[_,_,_,_,_,_,_,_,_,_,_,_,_,_,_,_,_,_,_,_]) (N:=168) (a0:=aV) (w0:=u16) c_.mx (RJ 13 (L.length) u16 fun i=>rfO bb k c3 [c0,c1,c2,c3] u16 x ([0,1,2,3,4,5,6,1,2,3,4,7,8].getD i 9)) [0,0,2,0,14,30,62,0,128,0,896,1920,3968,8191,16383,32767,32767,0,196607,524287] [[(8,none)],[(8,none)],[(119,some 1)],[(18,none)],[(120,some 2),(121,some 3)],[(122,some 4)],[(123,some 5)],[(8,none)],[(125,some 7)],[(18,none)],[(126,some 8),(127,some 9)],[(128,some 10)],[(129,some 11)],[(118,some 0),(124,some 6),(130,some 12)],[(131,some 13)],[(117,some 14)],[(117,some 14)],[],[(21,some 17),(132,some 15)],[(133,some 16)]] 19 cx (by kernel_rfl) (by kernel_rfl) RJ.init ?_ ?_
    ·intro j o hj F
     match j,hj with
     | 0,_ =>
      cases F
      exact oI rfl fun Y val a' u B W J I=>B.iV (j:=0) ⟨_,fv (x:=.tmp 8) K rfl ((I (8,none) (by simp)).trans aG) ((B.1.block bb (b9 ad)).trans ad) (cs:=[c0,c1,c2,c3]) rfl rfl rfl,rfl⟩ (by decide)
     | 1,_ =>
      cases F
      exact oI rfl fun Y val a' u B W J I=>B.iV (j:=1) ⟨_,fm (x:=.tmp 8) K rfl rfl (show 1<2 by decide) ((I (8,none) (by simp)).trans aG),rfl⟩ (by decide)
     | 2,_ =>
      cases F
      exact oI rfl fun Y val a' u B W J I=>B.iV (j:=2) ⟨_,fv (x:=.tmp 119) aT rfl ((I (119,some 1) (by simp)).trans (B.2.1 1 (by decide) (J 1 (by decide)))) ((B.1.block bb (b9 ad)).trans ad) (cs:=[c3]) rfl rfl rfl,rfl⟩ (by decide)
     | 3,_ =>
      cases F
      exact oI rfl fun Y val a' u B W J I=>B.iV (j:=3) ⟨_,fE (x:=.tmp 18) rfl,(I (18,none) (by simp)).trans bq⟩ (by decide)
     | 4,_ =>
      cases F
      exact oI rfl fun Y val a' u B W J I=>B.iV (j:=4) (xQ hT rfl uT (l:=L) (by rw[show a'.eval (.tmp 120)=c3 from(I (120,some 2) (by simp)).trans (B.2.1 2 (by decide) (J 2 (by decide)))]; exact aF.2) ((I (121,some 3) (by simp)).trans (B.2.1 3 (by decide) (J 3 (by decide)))) hx) (by decide)
     | 5,_ =>
      cases F
      exact oI rfl fun Y val a' u B W J I=>B.iV (j:=5) (rk (te:=⟨b8,0,80,2⟩) (v:=.slice eK) (g:=fun p=>p.1) hT rfl rfl (show 0<2 by decide) (z:=x) (by rw[show a'.eval (.tmp 122)=_ from I (122,some 4) (by simp)]; exact B.2.1 4 (by decide) (J 4 (by decide)))) (by decide)
     | 6,_ =>
      cases F
      exact oI rfl fun Y val a' u B W J I=>B.iV (j:=6) (vd (fun b V=>B.1.block b V) cu rfl rfl (z:=x.1) (by rw[show a'.eval (.tmp 123)=_ from I (123,some 5) (by simp)]; exact B.2.1 5 (by decide) (J 5 (by decide)))) (by decide)
     | 7,_ =>
      cases F
      exact oI rfl fun Y val a' u B W J I=>B.iV (j:=7) ⟨_,fm (x:=.tmp 8) K rfl rfl (show 1<2 by decide) ((I (8,none) (by simp)).trans aG),rfl⟩ (by decide)
     | 8,_ =>
      cases F
      exact oI rfl fun Y val a' u B W J I=>B.iV (j:=8) ⟨_,fv (x:=.tmp 125) aT rfl ((I (125,some 7) (by simp)).trans (B.2.1 7 (by decide) (J 7 (by decide)))) ((B.1.block bb (b9 ad)).trans ad) (cs:=[c3]) rfl rfl rfl,rfl⟩ (by decide)
     | 9,_ =>
      cases F
      exact oI rfl fun Y val a' u B W J I=>B.iV (j:=9) ⟨_,fE (x:=.tmp 18) rfl,(I (18,none) (by simp)).trans bq⟩ (by decide)
     | 10,_ =>
      cases F
      exact oI rfl fun Y val a' u B W J I=>B.iV (j:=10) (xQ hT rfl uT (l:=L) (by rw[show a'.eval (.tmp 126)=c3 from(I (126,some 8) (by simp)).trans (B.2.1 8 (by decide) (J 8 (by decide)))]; exact aF.2) ((I (127,some 9) (by simp)).trans (B.2.1 9 (by decide) (J 9 (by decide)))) hx) (by decide)
     | 11,_ =>
      cases F
      exact oI rfl fun Y val a' u B W J I=>B.iV (j:=11) (rk (te:=⟨b8,0,80,2⟩) (v:=fT) (g:=fun p=>p.2) hT rfl rfl (show 1<2 by decide) (z:=x) (by rw[show a'.eval (.tmp 128)=_ from I (128,some 10) (by simp)]; exact B.2.1 10 (by decide) (J 10 (by decide)))) (by decide)
     | 12,_ =>
      cases F
      exact oI rfl fun Y val a' u B W J I=>B.iV (j:=12) (let ⟨y,y1,y2⟩:=Hb (te:=⟨fT,0,56,3⟩) (fun b V=>B.1.block b V) hF rfl (z:=x.2) (by rw[show a'.eval (.tmp 129)=_ from I (129,some 11) (by simp)]; exact B.2.1 11 (by decide) (J 11 (by decide))); ⟨_,y1,y,rfl,y2⟩) (by decide)
     | 13,_ =>
      cases F
      refine oI rfl fun Y val a' u B W J I=>?_
      have g0:gt a' 118=val 0:=I (118,some 0) (by simp)
      have g1:gt a' 124=val 6:=I (124,some 6) (by simp)
      have g2:gt a' 130=val 12:=I (130,some 12) (by simp)
      have o0:val 0=c7.wrap [c0,c1,c2,c3]:=B.2.1 0 (by decide) (J 0 (by decide))
      have o1:rep (.slice eK) (fun _=>False) u16 [val 6] x.1:=B.2.1 6 (by decide) (J 6 (by decide))
      obtain⟨ds,o2,o3⟩:∃ ds,val 12=fT.wrap ds/\rep fT (fun _=>False) u16 ds x.2:=B.2.1 12 (by decide) (J 12 (by decide))
      refine B.N_ W (vs:=[c7.wrap [c0,c1,c2,c3],val 6,fT.wrap ds]) (e_ Tryz.func13 rfl rfl) (by
       rw[Sd];show #[gt a' 118,gt a' 124,gt a' 130]=_;rw[g0,g1,g2,o0,o2]) (acj ai (by omega) (by omega) bp ⟨_,fx aF (Ev.c8 B.1),rfl⟩ ⟨[val 6],fx (t:=.slice eK) o1 (Ev.c8 B.1),rfl⟩ ⟨ds,fx o3 (Ev.c8 B.1),rfl⟩)
     | 14,_ =>
      cases F
      exact oI rfl fun Y val a' u B W J I=>B.dmv (J 13 (by decide)) rfl (I (131,some 13) (by simp))
     | 15,_ =>
      cases F
      exact oI rfl fun Y val a' u B W J I=>B.de0 (J 13 (by decide)) (J 14 (by decide)) W rfl (I (117,some 14) (by simp))
     | 16,_ =>
      cases F
      exact oI rfl fun Y val a' u B W J I=>B.de1 (J 13 (by decide)) (J 14 (by decide)) rfl (I (117,some 14) (by simp))
     | 17,_ =>
      cases F
      exact oI rfl fun Y val a' u B W J I=>B.dal W rfl
     | 18,_ =>
      cases F
      exact oI rfl fun Y val a' u B W J I=>B.dst (J 13 (by decide)) (J 15 (by decide)) (J 17 (by decide)) rfl (I (21,some 17) (by simp)) (I (132,some 15) (by simp))
     | j+19,hj=>omega
    intro val aI ei B hp hd aU;obtain⟨aJ,cy,aW,v1,cA,bO,aa,eA,v6,ak⟩:=B.fin (by decide) (by decide) (by decide) (by decide) (by decide);refine eV 22 rfl rfl (by rw[aU]; decide) (ib (x:=.tmp 133) rfl) fun aK k2=>RM ?_;have cC:gt aK 21=ptr aJ:=(k2.ne 21 (by decide)).trans ((hp 21 (by decide)).trans v1);have dM:gt aK 22=.int .i64 0:=k2.v.trans ((hp 133 (by decide)).trans v6);have an:∀ t,t<21->gt aK t=gt aV t:=fun t ht=>(k2.ne t (by omega)).trans (by
     rw[hp t (by omega)];rw[NZ (d:=21) (fun q hq s G=>?_) ht]
     match q,hq,G with
     | 0,_,G=>cases G; decide
     | 1,_,G=>cases G; decide
     | 2,_,G=>cases G; decide
     | 3,_,G=>cases G; decide
     | 4,_,G=>cases G; decide
     | 5,_,G=>cases G; decide
     | 6,_,G=>cases G; decide
     | 7,_,G=>cases G; decide
     | 8,_,G=>cases G; decide
     | 9,_,G=>cases G; decide
     | 10,_,G=>cases G; decide
     | 11,_,G=>cases G; decide
     | 12,_,G=>cases G; decide
     | 13,_,G=>cases G; decide
     | 14,_,G=>cases G; decide
     | 15,_,G=>cases G; decide
     | 16,_,G=>cases G; decide
     | 17,_,G=>cases G; decide
     | 18,_,G=>cases G
     | q+19,hq,_=>omega)
    have cD:=k2.dn.trans hd;have cE:=k2.sz.trans aU;clear hp B;have bs:=(ak.block bb (b9 ad)).trans ad;have cF:=fx aF (Ev.c8 (X:=fun _=>False) ak);have aX:=(ak.block ax (b9 cv)).trans cv;have Z:fg c7 (fun k=>k<af.heap.size∨k=ax∨u16.heap.size<=k) aI bN.toList aH:=eZ (fo Z fun k hk=>by
     rcases hk with hk|hk|hk
     ·exact .inl (.inl hk)
     ·exact .inl (.inr hk)
     ·exact .inr hk) (Ev.c8 ak)
    have bt:gt aK 19=ptr ax:=(an 19 (by decide)).trans dK;refine SM (SM (Re ?_));obtain⟨d0,d1,d2,d3,ed⟩:=ra Z.rep;obtain⟨g0,g1,g2,g3,eg⟩:=ra aa.rep;have t8:rep (.slice b8) (fun _=>False) aI [c3] L:=cF.2;have dN:rep (.slice b8) (fun _=>False) aI [d3] aH.2:=by have:=Z.rep; rw[ed]at this; exact eJ this.2 fun b V=>V.elim
    have dO:rep (.slice b8) (fun _=>False) aI [g3] aW.2:=by have:=aa.rep; rw[eg]at this; exact eJ this.2 fun b V=>V.elim
    have dP:VJ aK aI [(8,ptr bb),(19,ptr ax),(21,ptr aJ),(20,.int .i64 0),(22,.int .i64 0)] aK aI:=⟨fun _ _=>rfl,rfl,cE,fun t v hv=>by
     have hv:=b7 hv;simp only[Qv,SB,QW,RV]at hv;rcases hv with⟨rfl,rfl⟩|⟨rfl,rfl⟩|⟨rfl,rfl⟩|⟨rfl,rfl⟩|⟨rfl,rfl⟩
     ·exact(an 8 (by decide)).trans aG
     ·exact bt
     ·exact cC
     ·exact(an 20 (by decide)).trans dL
     ·exact dM,QG _ _⟩
    have bi:∀{p:Prop} [Decidable p] {w:World}{z:Value},¬p->m [] (fun _=>False) w (.a_ .bool (decide p)) [z]->z=.bool false:=fun hp h=>(QB (jj rfl rfl h)).1.trans (Sr Value.bool (Q4 hp));have aY:∀{n:Int}{w:World}{z:Value},m [] (fun _=>False) w (.a_ (.int .i64) n) [z]->z=.int .i64 n:=fun h=>(fI h).1;refine dP.mv rfl rfl rfl (by decide) trivial fun a u j1=>?_;refine j1.ev [(134,.a_ (.int .i64) 0)] (.a_ .bool (decide ((0:Int)≠0))) (j1.num (s:=134) rfl (by rw[c9]; omega) .nil) rfl rfl trivial (bi (by decide)) (by decide) trivial fun a u j2=>?_;refine j2.mv rfl rfl rfl (by decide) trivial fun a u j3=>?_;refine j3.mv rfl rfl rfl (by decide) ⟨_,rfl,rfl⟩ fun a u j4=>?_;refine j4.ev [(137,.a_ (.int .i64) 0)] (.a_ .bool (decide ((0:Int)≠0))) (j4.num (s:=137) rfl (by rw[c9]; omega) .nil) rfl rfl trivial (bi (by decide)) (by decide) ⟨_,rfl,rfl⟩ fun a u j5=>?_;refine j5.pick rfl rfl rfl rfl (by decide) trivial fun a u j6=>?_;refine j6.mv rfl rfl rfl (by decide) trivial fun a u j7=>?_;refine j7.sn rfl rfl rfl (by decide) ⟨_,rfl,rfl⟩ fun a u j8=>?_;refine j8.ld aX (by rw[ed]; rfl) rfl rfl rfl (by decide) ⟨_,rfl,rfl⟩ fun a u j9=>?_;refine j9.ev [(142,.a_ (.slice b8) aH.2)] (.a_ (.int .i64) (List.length aH.2:Int)) (j9.row (s:=142) dN rfl) rfl rfl trivial aY (by decide) ⟨_,rfl,rfl⟩ fun a u dQ=>?_;refine dQ.sn rfl rfl rfl (by decide) ⟨_,rfl,rfl⟩ fun a u dR=>?_;refine dR.ld bs rfl rfl rfl rfl (by decide) ⟨_,rfl,rfl⟩ fun a u cG=>?_;refine cG.ev [(145,.a_ (.slice b8) L)] (.a_ (.int .i64) (List.length L:Int)) (cG.row (s:=145) t8 rfl) rfl rfl trivial aY (by decide) ⟨_,rfl,rfl⟩ fun a u cH=>?_;refine cH.ev [(146,.a_ (.int .i64) (List.length L:Int))] (.a_ (.int .i64) ((List.length L:Int)-1)) (cH.num (s:=146) rfl (by rw[c9]; omega) .nil) rfl rfl ⟨by rw[c9]; omega,trivial⟩ aY (by decide) ⟨_,rfl,rfl⟩ fun a u bP=>?_;refine bP.ev [(143,.a_ (.int .i64) (List.length aH.2:Int)),(147,.a_ (.int .i64) ((List.length L:Int)-1))] (.a_ .bool (decide ((List.length aH.2:Int)≠(List.length L:Int)-1))) (bP.num (s:=143) rfl (by rw[c9]; omega) (bP.num (s:=147) rfl (by rw[c9]; omega) .nil)) rfl rfl trivial (bi (by omega)) (by decide) ⟨_,rfl,rfl⟩ fun a u dS=>?_;refine dS.pick rfl rfl rfl rfl (by decide) trivial fun a u dT=>?_;refine dT.mv rfl rfl rfl (by decide) trivial fun a u dU=>?_;refine dU.sn rfl rfl rfl (by decide) ⟨_,rfl,rfl⟩ fun a u bj=>?_;refine bj.ld bO (by rw[eg]; rfl) rfl rfl rfl (by decide) ⟨_,rfl,rfl⟩ fun a u cJ=>?_;refine cJ.ev [(152,.a_ (.slice b8) aW.2)] (.a_ (.int .i64) (List.length aW.2:Int)) (cJ.row (s:=152) dO rfl) rfl rfl trivial aY (by decide) ⟨_,rfl,rfl⟩ fun a u dV=>?_;refine dV.sn rfl rfl rfl (by decide) ⟨_,rfl,rfl⟩ fun a u dW=>?_;refine dW.ld bs rfl rfl rfl rfl (by decide) ⟨_,rfl,rfl⟩ fun a u cK=>?_;refine cK.ev [(155,.a_ (.slice b8) L)] (.a_ (.int .i64) (List.length L:Int)) (cK.row (s:=155) t8 rfl) rfl rfl trivial aY (by decide) ⟨_,rfl,rfl⟩ fun a u bQ=>?_;refine bQ.ev [(153,.a_ (.int .i64) (List.length aW.2:Int)),(156,.a_ (.int .i64) (List.length L:Int))] (.a_ .bool (decide ((List.length aW.2:Int)≠(List.length L:Int)))) (bQ.num (s:=153) rfl (by rw[c9]; omega) (bQ.num (s:=156) rfl (by rw[c9]; omega) .nil)) rfl rfl trivial (bi (by omega)) (by decide) ⟨_,rfl,rfl⟩ fun a u dX=>?_;refine dX.pick rfl rfl rfl rfl (by decide) trivial fun eB aL aZ=>RM ?_;have aq:=aZ.b;have cL:=aZ.v 158 _ rfl;have aA:=aZ.lo;have cM:=aZ.dn;have ar:=aZ.sz;refine wp_cond_false cL (Wb ?_);refine SM (Re ?_);have cN:=(aq.block ax (b9 aX)).trans aX;have bu:=(aq.block aJ (b9 bO)).trans bO;have Z:=eZ Z (Ev.c8 aq);have aa:=eZ aa (Ev.c8 aq);refine eV 159 rfl rfl (by rw[ar]; decide) (fv (x:=.tmp 19) K rfl ((aA 19 (by decide)).trans bt) cN (cs:=bN.toList) (by rw[RP]; exact QQ (SA (ft Z))) (ft Z) rfl) fun eD au=>?_;refine jO (R:=fun _ u=>Ev (fun k=>¬(k<af.heap.size∨k=ax∨u16.heap.size<=k)) aL u/\u.os=aL.os/\u.tape=aL.tape/\u.output=aL.output) 160 rfl rfl (by rw[au.sz,ar]; decide) (gL (vs:=[c7.wrap bN.toList]) (e_ Tryz.func9 rfl rfl) (by rw[Sd]; exact Sr (fun z=>#[z]) au.v) ((tn Z).mono fun e u ⟨h1,h2⟩=>⟨_,h1,h2⟩)) fun eE bk eF cO aM=>RM ?_;obtain⟨av,ba⟩:=cO;have bR:u16.heap.size<=aJ:=cA;have cP:af.heap.size<=u16.heap.size:=aE.size;have cQ:=(av.block aJ (b9 bu) fun h=>h (.inr (.inr bR))).trans bu;have aa:=eZ aa (av.imp fun k hk=>.inl (by
     show k<u16.heap.size;rcases QA k u16.heap.size with h|h
     ·exact h
     ·exact absurd (.inr (.inr h)) hk))
    refine SM (Re ?_);refine eV 161 rfl rfl (by rw[aM.sz,au.sz,ar]; decide) (fv (x:=.tmp 21) K rfl ((aM.ne 21 (by decide)).trans ((au.ne 21 (by decide)).trans ((aA 21 (by decide)).trans cC))) cQ (cs:=cy.toList) (by rw[RP]; exact QQ (SA (ft aa))) (ft aa) rfl) fun eG bc=>?_;refine jO (R:=fun _ u=>Ev (fun k=>¬(k<u16.heap.size∨k=aJ)) bk u/\u.os=bk.os/\u.tape=bk.tape/\u.output=bk.output) 162 rfl rfl (by rw[bc.sz,aM.sz,au.sz,ar]; decide) (gL (vs:=[c7.wrap cy.toList]) (e_ Tryz.func9 rfl rfl) (by rw[Sd]; exact Sr (fun z=>#[z]) bc.v) ((tn aa).mono fun e u ⟨h1,h2⟩=>⟨_,h1,h2⟩)) fun eH cR bl cS bS=>RM ?_;obtain⟨bv,bd⟩:=cS;have al:Below af.heap.size af aL:=(aE.trans (ak.mono cP)).trans (aq.mono (QL cP ak.size));have bw:Below af.heap.size af cR:=by
     refine⟨bd.1.trans (ba.1.trans al.os),bd.2.1.trans (ba.2.1.trans al.tape),bd.2.2.trans (ba.2.2.trans al.output),QL al.size (QL av.size bv.size),fun j hj=>?_⟩;have bj:j<aL.heap.size:=QI hj al.size;rw[bv.block j (QI bj av.size) fun h=>h (.inl (by omega)),av.block j bj fun h=>h (.inl hj)];exact al.block j hj
    have cU:bl.tmps.size=168:=by rw[bS.sz,bc.sz,aM.sz,au.sz]; exact ar
    have bT:∀ t,t<19->gt bl t=gt aS t:=fun t ht=>(bS.ne t (by omega)).trans ((bc.ne t (by omega)).trans ((aM.ne t (by omega)).trans ((au.ne t (by omega)).trans ((aA t (by omega)).trans ((an t (by omega)).trans (ay t ht))))));have cW:=(ac.pure ae bw (d:=none) (r:=.val undef) (v:=undef) (fun t h=>by cases h) rfl).act (a':=bl) (sl':=(rfL s L k).sl) (by rw[bS.dn,bc.dn,aM.dn,au.dn,cM,cD,cw]; exact ac.dn) cU fun q y hy=>by
     have bx:=(ac.pure ae bw (d:=none) (r:=.val undef) (v:=undef) (fun t h=>by cases h) rfl).sl;have cX:=b7 hy;simp only[rfL,Qv,SB,QW,RV]at cX;have hq:q<19:=by rcases cX with⟨rfl,_⟩|⟨rfl,_⟩|⟨rfl,_⟩<;>decide
     rw[bT q hq];exact bx q y hy
    clear ac;refine qn aN hE ae aB (k:=.code _::.fa _::.code _::.mark _::_) (fun H hH O=>?_) (by kernel_rfl) _ bl cR cW;refine hH.run 100 _ _ ?_;dsimp only[go_sem];have eI:(L.length:Int)<=3:=by omega
    refine⟨ai,ai,fun h=>?_,fun _=>⟨by rw[c9]; omega,?_⟩⟩
    ·rw[cn]at h; cases h
    ·refine hH.mR (rfL s L (k+1)) 6 ?_ ?_
     ·dsimp only[go_sem];and_intros<;>first|trivial|rfl|omega
     refine O _ _ ?_;intro ej dY az uz dZ;exact⟨k+1,⟨d,dY,dZ⟩,by omega⟩
   ·exact⟨rfl,trivial⟩
  ·have hx:=b7 hx;simp only[Qv,SB,QW,RV]at hx;have ea:∀ t,t<69->gt bJ t=gt a9 t:=fun t ht=>(bK.ne t (by omega)).trans (aQ.ne t (by omega));rcases hx with⟨rfl,rfl⟩|⟨rfl,rfl⟩|⟨rfl,rfl⟩|⟨rfl,rfl⟩|⟨rfl,rfl⟩|⟨rfl,rfl⟩|⟨rfl,rfl⟩|⟨rfl,rfl⟩|⟨rfl,rfl⟩<;>exact⟨rfl,ea _ (by decide)⟩
end Go.Proofs.YtbokoblnehgkaabGreat.Gx
namespace Go.Proofs.YtbokoblnehgkaabGreat.relationFresh
open Go Go.ChangeShapes Go.WideShapes Go.ChangeAt Go.RowKit B Nt Gx
theorem walk(a0:Option Addr)(a b:Nat)(f:List Int)(c:Int)(d:Int)(w:World)(w0:DG .i64 w a0 a b f)(w1:(Lit.int .i64 c).wf=true)(w2:(Lit.int .u8 d).wf=true) :
    Calls Tryz.prog 3 #[.slice a0 a b,.int .i64 c,.int .u8 d] w fun e w'=>e=.returned (.bool true)/\Below w.heap.size w w' :=
 F5 P_ (f.take a,c,d,()) trivial rfl ⟨_,_,rfl,row_in w0,_,_,rfl,Hm w1,_,_,rfl,Hm w2,rfl⟩
end Go.Proofs.YtbokoblnehgkaabGreat.relationFresh
