/-
  D1, D2, Env, D3, D4, in one text: see the remarks at the head of each part.
-/
import Derived.Test.YtdobkkhncfifeabGreatMGc
import Derived.Test.YtdobkkhncfifeabGreatMQ
import Derived.Test.YtdobkkhncfifeabGreatMRefH
import Derived.Test.YtdobkkhncfifeabGreatMSame
import Derived.Test.YtdobkkhncfifeabGreatMText
import Derived.KernelRfl
import Derived.Test.YtdobkkhncfifeabGreatMQAdd
import Derived.Test.YtdobkkhncfifeabGreatMQMul
import Derived.Test.YtdobkkhncfifeabGreatRFrac
import Derived.Test.YtdobkkhncfifeabGreatRBase
namespace Go.Proofs.YtdobkkhncfifeabGreat.Gx
open Go Go.RowKit Tw B Nt
set_option linter.unusedVariables false
abbrev nT:Ty:=.slice (.int .u32)
abbrev fT:Ty:=.pair .bool (.pair (.slice (.int .u32)) (.slice (.int .u32)))
def dgF:Nat->Nat->List Int
 | 0,_=>[]
 | f+1,n=>if n=0 then [] else ((n % 4294967296:Nat):Int)::dgF f (n / 4294967296)
def dg (n:Int):List Int:=dgF n.toNat n.toNat
theorem dgF_ok:∀ (f n:Nat),n<=f->N (dgF f n)=(n:Int)/\Canon (dgF f n)
 | 0,n,h=>by
  have:n=0:=by omega
  subst this
  exact ⟨rfl,Canon.nil⟩
 | f+1,n,h=>by
  unfold dgF
  by_cases hn:n=0
  ·rw [if_pos hn,hn]; exact ⟨rfl,Canon.nil⟩
  ·rw [if_neg hn]
   obtain ⟨h1,h2⟩:=dgF_ok f (n / 4294967296) (by omega)
   refine ⟨?_,Ds.cons (by omega) h2.1,?_⟩
   ·show ((n % 4294967296:Nat):Int)+4294967296*N (dgF f (n / 4294967296))=(n:Int)
    rw [h1]; omega
   ·rw [List.getLast?_cons]
    by_cases hz:n / 4294967296=0
    ·have:dgF f (n / 4294967296)=[]:=by rw [hz]; cases f<;>rfl
     rw [this]
     simp only [List.getLast?_nil,Option.getD_none,ne_eq,Option.some.injEq]
     omega
    ·have hne:dgF f (n / 4294967296)≠[]:=by
       intro e
       rw [e] at h1
       have:((n / 4294967296:Nat):Int)=0:=h1.symm
       omega
     have h3:=h2.2
     cases hl:(dgF f (n / 4294967296)).getLast? with
     | none=>exact absurd (List.getLast?_eq_none_iff.1 hl) hne
     | some x =>
      rw [hl] at h3
      simpa using h3
theorem N_dg {n:Int} (h:0<=n):N (dg n)=n:=by
 have:=(dgF_ok n.toNat n.toNat (Nat.le_refl _)).1
 unfold dg
 omega
theorem canon_dg (n:Int):Canon (dg n):=(dgF_ok n.toNat n.toNat (Nat.le_refl _)).2
theorem dg_of {l:List Int} (h:Canon l):dg (N l)=l:=(canon_dg _).inj h (N_dg (N_nonneg h.1))
theorem dg_len {n:Int} {c:Nat} (h0:0<=n) (h:n<Bp c):(dg n).length<=c:=(canon_dg n).len c (by rw [N_dg h0]; exact h)
theorem inR_u32 {n:Int}:inR .u32 n↔0<=n/\n<4294967296:=by simp only [inR,lo,hi]; omega
theorem wf_of_inR {k:IntKind} {n:Int} (h:inR k n):(Lit.int k n).wf=true:=by
 cases k<;>simp only [inR,lo,hi] at h<;>simp [Lit.wf,IntKind.min,IntKind.max,IntKind.signed,IntKind.bits]<;>omega
theorem inR_of_wf {k:IntKind} {n:Int} (h:(Lit.int k n).wf=true):inR k n:=by
 cases k<;>simp [Lit.wf,IntKind.min,IntKind.max,IntKind.signed,IntKind.bits] at h<;>simp only [inR,lo,hi]<;>omega
theorem row_of {k:IntKind} {X:Nat->Prop} {w:World} {v:Value} {l:List Int} (h:rep (.slice (.int k)) X w [v] l):Row k w v l:=by
 obtain ⟨a,cap,e,h2,h3,h4,h5⟩:=h
 have e:=(List.cons.inj e).1
 subst e
 have hel:∀ i,i<l.length->∃ b off,a=some ⟨b,off,none⟩/\w.cell? ⟨b,off+i,none⟩=some (.int k (l.getD i 0))/\inR k (l.getD i 0):=by
  intro i hi
  obtain ⟨b,off,C,T,f,ha,_,hb,hr⟩:=h5 (by intro e; rw [e] at hi; simp at hi)
  obtain ⟨q1,q2⟩:=hr i (l.getD i 0) (by simp [hi])
  refine ⟨b,off,ha,?_,q2⟩
  simp only [Ty.size,Nat.mul_one] at q1
  have hq:(C.toList.drop (off+i))[0]?=some (.int k (l.getD i 0)):=by
   have:=congrArg (fun l=>l[0]?) q1
   simpa [List.getElem?_take] using this
  rw [List.getElem?_drop] at hq
  simpa [World.cell?,hb] using hq
 refine ⟨a,cap,rfl,h2,h3,h4,fun n hn=>?_,fun hne=>?_⟩
 ·obtain ⟨i,hi,rfl⟩:=List.mem_iff_getElem.1 hn
  obtain ⟨_,_,_,_,q⟩:=hel i hi
  have:l.getD i 0=l[i]:=by simp [hi]
  rw [this] at q
  exact wf_of_inR q
 ·have hpos:0<l.length:=List.length_pos_iff.2 hne
  obtain ⟨b,off,ha,_⟩:=hel 0 hpos
  refine ⟨b,off,ha,fun i hi=>?_⟩
  obtain ⟨b',off',ha',q,_⟩:=hel i hi
  rw [ha] at ha'
  cases ha'
  exact q
theorem rep_of_row {k:IntKind} {t:TypeId} {base:Nat} {X:Nat->Prop} {w:World} {v:Value} {l:List Int} (h:Row k w v l) (hf:Fresh t base w v) (hX:∀ b,X b->b<base):rep (.slice (.int k)) X w [v] l:=by
 obtain ⟨a,cap,rfl,h2,h3,h4,h5,h6⟩:=h
 refine ⟨a,cap,rfl,h2,h3,h4,fun hne=>?_⟩
 obtain ⟨b,off,rfl,hc⟩:=h6 hne
 obtain ⟨g1,C,g2⟩:=hf b off none _ _ rfl
 refine ⟨b,off,C,t,_,rfl,fun hx=>?_,g2,fun i x hx=>?_⟩
 ·have:=hX b hx; omega
 ·have hi:i<l.length:=by
    rcases Nat.lt_or_ge i l.length with h|h
    ·exact h
    ·rw [List.getElem?_eq_none h] at hx; cases hx
  have:=hc i hi
  have hxe:l.getD i 0=x:=by simp [hx]
  rw [hxe] at this
  refine ⟨?_,inR_of_wf (h5 x (List.mem_of_getElem? hx))⟩
  simp only [Ty.size,Nat.mul_one]
  have hq:C.toList[off+i]?=some (.int k x):=by simpa [World.cell?,g2] using this
  have hlt:off+i<C.toList.length:=by
   rcases Nat.lt_or_ge (off+i) C.toList.length with h|h
   ·exact h
   ·rw [List.getElem?_eq_none h] at hq; cases hq
  rw [List.drop_eq_getElem_cons hlt,List.take_succ_cons,List.take_zero]
  rw [List.getElem?_eq_getElem hlt] at hq
  rw [Option.some.inj hq]
section
variable {ρ:List Value} {X:Nat->Prop} {w:World}
theorem num_of {v:Value} {l:List Int} (h:m ρ X w (.dat nT l) [v]) (c:Nat) (hc:l.length<=c):Num w v c (N l):=⟨l,row_of (rep_of_dat rfl h),hc,rfl⟩
theorem ds_of {v:Value} {l:List Int} (h:m ρ X w (.dat nT l) [v]):Ds l:=Nt.Row.ds (row_of (rep_of_dat rfl h))
theorem dat_of_new {base:Nat} {v:Value} {n:Int} (h:IsNew base w v n) (hX:∀ b,X b->b<base):m ρ X w (.dat nT (dg n)) [v]:=by
 obtain ⟨l,h1,h2,h3,h4⟩:=h
 have:dg n=l:=by rw [<-h3]; exact dg_of h2
 rw [this]
 exact dat_of_rep rfl (rep_of_row h1 h4 hX)
def fq (f:fT.den):Rat:=mk f.1 (N f.2.1) (N f.2.2)
def qf (q:Rat):fT.den:=(decide (q.num<0),dg (q.num.natAbs:Int),dg (q.den:Int))
def fs (f:fT.den):Nat:=max f.2.1.length f.2.2.length
theorem fq_qf (q:Rat):fq (qf q)=q:=by
 unfold fq qf
 rw [N_dg (by omega),N_dg (by omega)]
 exact mk_self q
theorem args1 {t:Ty} {a:t.den} {vs:List Value} (h:m ρ X w (.cons (.dat t a) .nil) vs):∃ x,vs=[x]/\m ρ X w (.dat t a) [x]:=by
 obtain ⟨v,us,rfl,h1,h2⟩:=h
 have h2:us=[]:=h2
 subst h2
 exact ⟨v,rfl,h1⟩
theorem args2 {t u:Ty} {a:t.den} {b:u.den} {vs:List Value} (h:m ρ X w (.cons (.dat t a) (.cons (.dat u b) .nil)) vs):∃ x y,vs=[x,y]/\m ρ X w (.dat t a) [x]/\m ρ X w (.dat u b) [y]:=by
 obtain ⟨v,us,rfl,h1,h2⟩:=h
 obtain ⟨y,rfl,h3⟩:=args1 h2
 exact ⟨v,y,rfl,h1,h3⟩
theorem tup2 {x y:AV} {u v:Value} (h1:m ρ X w x [u]) (h2:m ρ X w y [v]):m ρ X w (.tup (.cons x (.cons y .nil))) [.tuple #[u,v]]:=⟨[u,v],rfl,u,[v],rfl,h1,v,[],rfl,h2,rfl⟩
theorem tup3 {x y z:AV} {u v t:Value} (h1:m ρ X w x [u]) (h2:m ρ X w y [v]) (h3:m ρ X w z [t]):m ρ X w (.tup (.cons x (.cons y (.cons z .nil)))) [.tuple #[u,v,t]]:=⟨[u,v,t],rfl,u,[v,t],rfl,h1,v,[t],rfl,h2,t,[],rfl,h3,rfl⟩
end
theorem ret_new {P:Program} {f:FuncId} {args:Array Value} {w:World} {n:Int} {ρ:List Value} {X:Nat->Prop} (h:Calls P f args w (Ret1 w.heap.size w n)) (hX:∀ b,X b->b<w.heap.size) :
    Calls P f args w (fun e w'=>∃ v,e=.returned v/\m ρ X w' (.dat nT (dg n)) [v]/\Below w.heap.size w w') :=
 h.mono fun e w' ⟨v,h1,h2,h3⟩=>⟨v,h1,dat_of_new h2 hX,h3⟩
theorem spec_of {P:Program} {f:FuncId} {s:Spec} {fn:Func} (hf:P.funcs[f]?=some fn) (hb:fn.body.isSome=true) (hn:(fn.name == "runtime.NumGoroutine")=false)
    (h:∀ d,AllP (s.F d).2->∀ ρ X w vs,(∀ b,X b->b<w.heap.size)->m ρ X w (argAVs s.tys d) vs->Calls P f vs.toArray w (fun e w'=>∃ v,e=.returned v/\m ρ X w' (s.F d).1 [v]/\Below w.heap.size w w')):SpecOk P f s :=
 fun d hd=>⟨fun args w=>callFunc_ok hf hb hn args w,fun ρ X w vs hX hm=>h d hd ρ X w vs hX hm⟩
theorem leA_nild {cf ck:List (Nat×CT)} {n n':Nat} {t:Ty} {b:List t.den}:leA cf ck n n' (.val (.slice none 0 0)) (.dat (.slice t) b)=[([]:List t.den)=b]:=rfl
theorem nilA_nild {mp:List (Nat×Nat)} {nx:Nat} {t:Ty} {b:t.den}:nilA mp nx (.val (.slice none 0 0)) (.dat t b)=.val (.slice none 0 0):=rfl
attribute [go_sem ↓] leA_nild nilA_nild
end Go.Proofs.YtdobkkhncfifeabGreat.Gx
namespace Go.Proofs.YtdobkkhncfifeabGreat.Gx
open Go Go.RowKit Tw B Nt
set_option linter.unusedVariables false
theorem inR_cmp (x y:Int):inR .i64 (cmpI x y):=by
 unfold cmpI; split
 ·decide
 ·split<;>decide
@[go_sem] def rGCDS:Spec:=⟨[nT,nT],fun d=>(.dat nT (dg (gcdI (N d.1) (N d.2.1))),[d.1.length<=16000000,d.2.1.length<=16000000])⟩
theorem rGCD_ok:SpecOk Tryz.prog 103 rGCDS:=by
 refine spec_of (s:=rGCDS) Tryz.func103 rfl (by decide) fun d hp ρ X w vs hX hm=>?_
 obtain ⟨x,y,rfl,h1,h2⟩:=args2 hm
 exact ret_new (rGCD x y 16000000 _ _ w (num_of h1 _ hp.1) (num_of h2 _ hp.2.1) (by decide)) hX
@[go_sem] def rNormS:Spec:=⟨[nT],fun d=>(.dat nT (dg (N d.1)),[d.1.length<=16000000])⟩
theorem rNorm_ok:SpecOk Tryz.prog 100 rNormS:=by
 refine spec_of (s:=rNormS) Tryz.func100 rfl (by decide) fun d hp ρ X w vs hX hm=>?_
 obtain ⟨x,rfl,h1⟩:=args1 hm
 exact ret_new (rNorm x 16000000 _ w (num_of h1 _ hp.1) (by decide)) hX
@[go_sem] def rSubS:Spec:=⟨[nT,nT],fun d=>(.tup (.cons (.dat nT (dg (if N d.2.1<=N d.1 then N d.1-N d.2.1 else 0))) (.cons (.dat .bool (decide (N d.2.1<=N d.1))) .nil)),[d.1.length<=16000000,d.2.1.length<=16000000])⟩
theorem rSub_ok:SpecOk Tryz.prog 106 rSubS:=by
 refine spec_of (s:=rSubS) Tryz.func106 rfl (by decide) fun d hp ρ X w vs hX hm=>?_
 obtain ⟨x,y,rfl,h1,h2⟩:=args2 hm
 refine (rSub x y 16000000 _ _ w (num_of h1 _ hp.1) (num_of h2 _ hp.2.1) (by decide)).mono fun e w' ⟨v,g1,g2,g3⟩=>⟨_,g1,tup2 (dat_of_new g2 hX) m_bool_of,g3⟩
@[go_sem] def rDivModS:Spec:=⟨[nT,nT],fun d=>(.tup (.cons (.dat nT (dg (N d.1 / N d.2.1))) (.cons (.dat nT (dg (if N d.2.1=0 then 0 else N d.1 % N d.2.1))) (.cons (.dat .bool (decide (N d.2.1≠0))) .nil))),[d.1.length<=16000000,d.2.1.length<=16000000])⟩
theorem rDivMod_ok:SpecOk Tryz.prog 104 rDivModS:=by
 refine spec_of (s:=rDivModS) Tryz.func104 rfl (by decide) fun d hp ρ X w vs hX hm=>?_
 obtain ⟨x,y,rfl,h1,h2⟩:=args2 hm
 refine (rDivMod x y 16000000 _ _ w (num_of h1 _ hp.1) (num_of h2 _ hp.2.1) (by decide)).mono fun e w' ⟨v,v2,g1,g2,g3,g4⟩=>⟨_,g1,tup3 (dat_of_new g2 hX) (dat_of_new g3 hX) m_bool_of,g4⟩
@[go_sem] def rCmpS:Spec:=⟨[nT,nT],fun d=>(.dat (.int .i64) (cmpI (N d.1) (N d.2.1)),[d.1.length<=16000000,d.2.1.length<=16000000])⟩
theorem rCmp_ok:SpecOk Tryz.prog 96 rCmpS:=by
 refine spec_of (s:=rCmpS) Tryz.func96 rfl (by decide) fun d hp ρ X w vs hX hm=>?_
 obtain ⟨x,y,rfl,h1,h2⟩:=args2 hm
 exact (rCmp x y 16000000 _ _ w (num_of h1 _ hp.1) (num_of h2 _ hp.2.1) (by decide)).mono fun e w' ⟨g1,g2⟩=>⟨_,g1,m_int_of (inR_cmp _ _),g2⟩
@[go_sem] def rOfS:Spec:=⟨[.int .u64],fun d=>(.dat nT (dg d.1),[])⟩
theorem rOf_ok:SpecOk Tryz.prog 97 rOfS:=by
 refine spec_of (s:=rOfS) Tryz.func97 rfl (by decide) fun d hp ρ X w vs hX hm=>?_
 obtain ⟨x,rfl,h1⟩:=args1 hm
 obtain ⟨rfl,h2⟩:=m_int h1
 simp only [inR,lo,hi] at h2
 exact ret_new (rOf _ w h2.1 (by omega)) hX
end Go.Proofs.YtdobkkhncfifeabGreat.Gx
namespace Go.Proofs.YtdobkkhncfifeabGreat.Gx
open Go Go.RowKit Tw B Nt
set_option linter.unusedVariables false
attribute [go_sem] List.map
def appN (E:Env) (st:St) (T:TypeId) (b:AV) (d:Nat):Option (St×List Prop) :=
 match elemOf E T with
 | some u=>match E.te T with
  | some e=>match E.te e.elem with
   | some e'=>match Nat.ble 1 e'.bytes with
    | true=>match asW st.ck (.slice u) b with
     | some m=>some (⟨(d,.own st.nx)::st.sl,(st.nx,.row e.elem u m)::st.ck,st.nx+1⟩,[m.length*e'.bytes<=140737488355328])
     | none=>none
    | false=>none
   | none=>none
  | none=>none
 | none=>none
theorem appendA_nil {E:Env} {st:St} {T:TypeId} {b:AV} {d:Nat}:appendA E st T (.val (.slice none 0 0)) b d=appN E st T b d:=rfl
theorem leA_nil {cf ck:List (Nat×CT)} {n n' c:Nat}:leA cf ck n n' (.val (.slice none 0 0)) (.own c)=match isBag cf c with
    | false=>[n<=c/\c<n']
    | true=>[False]:=rfl
def nilN (mp:List (Nat×Nat)) (nx i:Nat):AV :=
 match get? mp i with
 | none=>match Nat.ble (i+1) nx with|true=>.own i|false=>.any
 | some _=>.any
theorem nilA_nil {mp:List (Nat×Nat)} {nx i:Nat}:nilA mp nx (.val (.slice none 0 0)) (.own i)=nilN mp nx i:=rfl
attribute [go_sem] nilN
theorem leA_nils {cf ck:List (Nat×CT)} {n n' c k:Nat}:leA cf ck n n' (.val (.slice none 0 0)) (.sli c k)=match isBag cf c with
    | false=>[n<=c/\c<n'/\k=0]
    | true=>[False]:=rfl
attribute [go_sem ↓] appendA_nil leA_nil leA_nils nilA_nil
attribute [go_sem] appN
@[go_sem] def tysL:List (Nat×TE):=[
 (3,⟨(.int .i64),0,8,0⟩),
 (4,⟨.bool,0,1,0⟩),
 (69,⟨(.slice (.int .u8)),5,24,0⟩),
 (9,⟨.str,0,16,0⟩),
 (135,⟨(.slice (.int .u32)),150,24,0⟩),
 (137,⟨(.pair .bool (.pair (.slice (.int .u32)) (.slice (.int .u32)))),0,56,3⟩),
 (70,⟨(.int .i64),0,8,0⟩),
 (5,⟨(.int .u8),0,1,0⟩),
 (143,⟨(.int .u64),0,8,0⟩),
 (150,⟨(.int .u32),0,4,0⟩),
 (2,⟨(.int .i64),0,8,0⟩),
 (31,⟨(.int .u64),0,8,0⟩),
 (22,⟨(.slice (.int .i64)),3,24,0⟩),
 (12,⟨(.int .u64),0,8,0⟩),
 (13,⟨(.pair .str (.int .u64)),0,24,2⟩),
 (21,⟨(.int .i32),0,4,0⟩),
 (23,⟨(.slice .str),9,24,0⟩),
 (24,⟨(.slice (.slice .str)),23,24,0⟩),
 (25,⟨(.slice (.pair (.slice (.pair .str (.pair .bool (.slice (.pair .str (.pair (.int .i64) (.pair (.int .i64) .str))))))) (.slice (.pair (.int .i64) (.pair (.pair .str (.pair (.int .i64) (.pair (.int .i64) .str))) (.pair .str (.pair (.int .i64) (.pair (.int .i64) .str)))))))),29,24,0⟩),
 (26,⟨(.slice (.pair .str (.pair .bool (.slice (.pair .str (.pair (.int .i64) (.pair (.int .i64) .str))))))),42,24,0⟩),
 (27,⟨(.slice (.pair (.int .i64) (.pair (.pair .str (.pair (.int .i64) (.pair (.int .i64) .str))) (.pair .str (.pair (.int .i64) (.pair (.int .i64) .str)))))),48,24,0⟩),
 (28,⟨(.pair (.slice (.pair .str (.pair .bool (.slice (.pair .str (.pair (.int .i64) (.pair (.int .i64) .str))))))) (.slice (.pair (.int .i64) (.pair (.pair .str (.pair (.int .i64) (.pair (.int .i64) .str))) (.pair .str (.pair (.int .i64) (.pair (.int .i64) .str))))))),0,48,2⟩),
 (29,⟨(.pair (.slice (.pair .str (.pair .bool (.slice (.pair .str (.pair (.int .i64) (.pair (.int .i64) .str))))))) (.slice (.pair (.int .i64) (.pair (.pair .str (.pair (.int .i64) (.pair (.int .i64) .str))) (.pair .str (.pair (.int .i64) (.pair (.int .i64) .str))))))),0,48,2⟩),
 (32,⟨(.pair (.slice .str) (.slice (.pair (.slice (.pair .str (.pair .bool (.slice (.pair .str (.pair (.int .i64) (.pair (.int .i64) .str))))))) (.slice (.pair (.int .i64) (.pair (.pair .str (.pair (.int .i64) (.pair (.int .i64) .str))) (.pair .str (.pair (.int .i64) (.pair (.int .i64) .str))))))))),0,48,2⟩),
 (33,⟨(.pair (.slice .str) (.slice (.pair (.slice (.pair .str (.pair .bool (.slice (.pair .str (.pair (.int .i64) (.pair (.int .i64) .str))))))) (.slice (.pair (.int .i64) (.pair (.pair .str (.pair (.int .i64) (.pair (.int .i64) .str))) (.pair .str (.pair (.int .i64) (.pair (.int .i64) .str))))))))),0,48,2⟩),
 (35,⟨(.slice (.pair (.slice .str) (.slice (.pair (.slice (.pair .str (.pair .bool (.slice (.pair .str (.pair (.int .i64) (.pair (.int .i64) .str))))))) (.slice (.pair (.int .i64) (.pair (.pair .str (.pair (.int .i64) (.pair (.int .i64) .str))) (.pair .str (.pair (.int .i64) (.pair (.int .i64) .str)))))))))),33,24,0⟩),
 (40,⟨(.slice (.pair .str (.pair (.int .i64) (.pair (.int .i64) .str)))),46,24,0⟩),
 (41,⟨(.pair .str (.pair .bool (.slice (.pair .str (.pair (.int .i64) (.pair (.int .i64) .str)))))),0,48,3⟩),
 (42,⟨(.pair .str (.pair .bool (.slice (.pair .str (.pair (.int .i64) (.pair (.int .i64) .str)))))),0,48,3⟩),
 (43,⟨(.pair (.int .i64) (.pair (.int .i64) .str)),0,32,3⟩),
 (44,⟨(.pair (.int .i64) (.pair (.int .i64) .str)),0,32,3⟩),
 (45,⟨(.pair .str (.pair (.int .i64) (.pair (.int .i64) .str))),0,48,2⟩),
 (46,⟨(.pair .str (.pair (.int .i64) (.pair (.int .i64) .str))),0,48,2⟩),
 (47,⟨(.pair (.int .i64) (.pair (.pair .str (.pair (.int .i64) (.pair (.int .i64) .str))) (.pair .str (.pair (.int .i64) (.pair (.int .i64) .str))))),0,104,3⟩),
 (48,⟨(.pair (.int .i64) (.pair (.pair .str (.pair (.int .i64) (.pair (.int .i64) .str))) (.pair .str (.pair (.int .i64) (.pair (.int .i64) .str))))),0,104,3⟩),
 (60,⟨(.pair (.int .i64) (.pair (.int .i64) (.int .i64))),0,24,0⟩),
 (61,⟨(.pair (.pair (.slice .str) (.slice (.pair (.slice (.pair .str (.pair .bool (.slice (.pair .str (.pair (.int .i64) (.pair (.int .i64) .str))))))) (.slice (.pair (.int .i64) (.pair (.pair .str (.pair (.int .i64) (.pair (.int .i64) .str))) (.pair .str (.pair (.int .i64) (.pair (.int .i64) .str))))))))) (.pair .str (.pair .str (.pair (.int .i64) (.pair (.int .i64) (.int .i64)))))),0,104,4⟩),
 (62,⟨(.pair (.pair (.slice .str) (.slice (.pair (.slice (.pair .str (.pair .bool (.slice (.pair .str (.pair (.int .i64) (.pair (.int .i64) .str))))))) (.slice (.pair (.int .i64) (.pair (.pair .str (.pair (.int .i64) (.pair (.int .i64) .str))) (.pair .str (.pair (.int .i64) (.pair (.int .i64) .str))))))))) (.pair .str (.pair .str (.pair (.int .i64) (.pair (.int .i64) (.int .i64)))))),0,104,4⟩),
 (67,⟨(.slice (.slice (.int .i64))),22,24,0⟩),
 (80,⟨(.slice (.slice .bool)),81,24,0⟩),
 (81,⟨(.slice .bool),4,24,0⟩),
 (85,⟨.fn,0,8,0⟩),
 (90,⟨(.slice (.pair (.int .i64) .str)),110,24,0⟩),
 (94,⟨(.pair (.slice (.pair (.int .i64) .str)) (.pair (.int .i64) .bool)),0,40,3⟩),
 (95,⟨(.pair (.slice (.pair (.int .i64) .str)) (.pair (.int .i64) .bool)),0,40,3⟩),
 (109,⟨(.pair (.int .i64) .str),0,24,2⟩),
 (110,⟨(.pair (.int .i64) .str),0,24,2⟩),
 (134,⟨(.slice (.int .u32)),150,24,0⟩),
 (136,⟨(.pair .bool (.pair (.slice (.int .u32)) (.slice (.int .u32)))),0,56,3⟩)]
theorem tys_ok:∀ x∈tysL,TyFact Tryz.prog x.1 x.2:=by
 intro x hx
 simp only [tysL,List.mem_cons,List.not_mem_nil,or_false] at hx
 rcases hx with rfl|rfl|rfl|rfl|rfl|rfl|rfl|rfl|rfl|rfl|rfl|rfl|rfl|rfl|rfl|rfl|rfl|rfl|rfl|rfl|rfl|rfl|rfl|rfl|rfl|rfl|rfl|rfl|rfl|rfl|rfl|rfl|rfl|rfl|rfl|rfl|rfl|rfl|rfl|rfl|rfl|rfl|rfl|rfl|rfl|rfl|rfl|rfl|rfl
 all_goals exact ⟨by kernel_rfl,by kernel_rfl,by kernel_rfl,by kernel_rfl,by kernel_rfl⟩
@[go_sem] def sp2:List (Nat×Spec):=[(103,rGCDS),(100,rNormS),(106,rSubS),(104,rDivModS),(96,rCmpS),(97,rOfS)]
@[go_sem] noncomputable def E2:Env:=⟨Tryz.prog,tysL,sp2,[]⟩
theorem mixed_ok:Tryz.prog.follows .mixedOrders=true:=by kernel_rfl
theorem E2_ok:E2.Ok:=by
 refine ⟨tys_ok,fun x hx=>?_,fun x hx=>(by cases hx),mixed_ok⟩
 simp only [E2,sp2,List.mem_cons,List.not_mem_nil,or_false] at hx
 rcases hx with rfl|rfl|rfl|rfl|rfl|rfl
 ·exact rGCD_ok
 ·exact rNorm_ok
 ·exact rSub_ok
 ·exact rDivMod_ok
 ·exact rCmp_ok
 ·exact rOf_ok
@[go_sem] def Env.add (E:Env) (f:Nat) (s:Spec):Env:=⟨E.P,E.tys,(f,s)::E.sp,E.ms⟩
theorem Env.Ok.add {E:Env} (h:E.Ok) {f:Nat} {s:Spec} (hs:SpecOk E.P f s):(E.add f s).Ok :=
 ⟨h.ty,fun x hx=>by
  rcases List.mem_cons.1 hx with rfl|hx
  ·exact hs
  ·exact h.sp x hx,h.ms,h.mx⟩
@[go_sem] def Env.addM (E:Env) (f:Nat) (s:MSpec):Env:=⟨E.P,E.tys,E.sp,(f,s)::E.ms⟩
theorem Env.Ok.addM {E:Env} (h:E.Ok) {f:Nat} {s:MSpec} (hs:MSpecOk E.P f s):(E.addM f s).Ok :=
 ⟨h.ty,h.sp,fun x hx=>by
  rcases List.mem_cons.1 hx with rfl|hx
  ·exact hs
  ·exact h.ms x hx,h.mx⟩
end Go.Proofs.YtdobkkhncfifeabGreat.Gx
namespace Go.Proofs.YtdobkkhncfifeabGreat.Gx
open Go Go.RowKit Tw B Nt
set_option linter.unusedVariables false
set_option linter.unusedSimpArgs false
set_option maxHeartbeats 4000000
set_option maxRecDepth 20000
def f0:fT.den:=(false,[],[])
theorem qf_mk {neg:Bool} {n d:Int} (hn:0<n) (hd:0<d):qf (mk neg n d)=(neg,dg (n / gcdI n d),dg (d / gcdI n d)):=by
 obtain ⟨h1,h2,h3,h4,h5⟩:=mk_parts (neg:=neg) hn hd
 unfold qf
 rw [h1,h2,sg_neg h4,sg_abs (by omega)]
theorem qf_z:qf 0=(false,[],dg 1):=by decide +kernel
theorem dsN {l:List Int} (h:wfD nT l):0<=N l:=N_nonneg fun d hd=>inR_u32.1 (h.2 d hd)
theorem N_ltc {l:List Int} (h:wfD nT l) {c:Nat} (hc:l.length<=c):N l<Bp c:=Int.lt_of_lt_of_le (N_lt fun d hd=>inR_u32.1 (h.2 d hd)) (Bp_mono hc)
theorem lenC {n:Int} {c k:Nat} (h0:0<=n) (h:n<Bp c) (hk:c<=k):(dg n).length<=k:=Nat.le_trans (dg_len h0 h) hk
structure Pt (f:fT.den) (c:Nat):Prop where
 n0:0<=N f.2.1
 d0:0<=N f.2.2
 nb:N f.2.1<Bp c
 db:N f.2.2<Bp c
 nl:f.2.1.length<=c
 dl:f.2.2.length<=c
theorem pt_of {f:fT.den} {c:Nat} (h:wfD fT f) (hc:fs f<=c):Pt f c:=by
 have h1:=Nat.le_max_left f.2.1.length f.2.2.length
 have h2:=Nat.le_max_right f.2.1.length f.2.2.length
 have hc:max f.2.1.length f.2.2.length<=c:=hc
 exact ⟨dsN h.2.1,dsN h.2.2,N_ltc h.2.1 (by omega),N_ltc h.2.2 (by omega),by omega,by omega⟩
@[go_sem] noncomputable def EQ1:Env:=E2
theorem EQ1_ok:EQ1.Ok:=E2_ok
@[go_sem] noncomputable def EQ2:Env:=EQ1
theorem EQ2_ok:EQ2.Ok:=EQ1_ok
@[go_sem] noncomputable def EQ3:Env:=EQ2
theorem EQ3_ok:EQ3.Ok:=EQ2_ok
@[go_sem] noncomputable def EQ4:Env:=EQ3
theorem EQ4_ok:EQ4.Ok:=EQ3_ok
@[go_sem] noncomputable def EQ5:Env:=EQ4
theorem EQ5_ok:EQ5.Ok:=EQ4_ok
@[go_sem] def rSizeS:Spec:=⟨[.int .i64],fun d=>(.dat nT (dg (d.1.natAbs:Int)),[])⟩
theorem rSize_ok:SpecOk Tryz.prog 102 rSizeS:=by
 refine fn_ok EQ5_ok rSizeS Tryz.func102 rfl (by decide) (N:=14) rfl (res:=[.tmp 2]) rfl (by decide) [] [] [] 100 (by kernel_rfl) ?_
 rintro ⟨(n:Int),_⟩ hw hp
 refine ⟨rfl,fun H hH=>?_⟩
 dsimp only [go_sem] at hw hp ⊢
 simp only [inR,lo,hi] at hw ⊢
 refine ⟨fun h=>⟨by have:=of_decide_eq_true h; omega,by have:=of_decide_eq_true h; omega,by have:=of_decide_eq_true h; omega,by have:=of_decide_eq_true h; omega,?_,trivial⟩,fun h=>⟨by have:=of_decide_eq_false h; omega,?_,trivial⟩⟩
 ·have h:n<0:=of_decide_eq_true h
  congr 1; omega
 ·have h:¬n<0:=of_decide_eq_false h
  congr 1; omega
@[go_sem] def rFracS:Spec:=⟨[.bool,nT,nT],fun d=>(.dat fT (qf (mk d.1 (N d.2.1) (N d.2.2.1))),[d.2.1.length<=16000000,d.2.2.1.length<=16000000])⟩
theorem rFrac_ok:SpecOk Tryz.prog 99 rFracS:=by
 refine fn_ok EQ5_ok rFracS Tryz.func99 rfl (by decide) (N:=49) rfl (res:=[.cell 6 137]) rfl (by decide) [] [] [] 100 (by kernel_rfl) ?_
 rintro ⟨b,n,d,_⟩ hw hp
 refine ⟨rfl,fun H hH=>?_⟩
 dsimp only [go_sem] at hw hp ⊢
 obtain ⟨-,hn,hd,-⟩:=hw
 obtain ⟨hp1,hp2,-⟩:=hp
 have n0:=dsN hn
 have d0:=dsN hd
 have g0:0<=gcdI (N n) (N d):=Int.natCast_nonneg _
 have g1:(dg (gcdI (N n) (N d))).length<=16000000:=lenC g0 (gcdI_le2 n0 d0 (N_ltc hn hp1) (N_ltc hd hp2)) (Nat.le_refl _)
 have hz:∀ x:Int,0<=x->(((dg x).length:Int)=0↔x=0):=fun x hx=>by
  have h:=(canon_dg x).zero
  rw [N_dg hx] at h
  rw [h,<-List.length_eq_zero_iff]
  omega
 rw [N_dg g0]
 simp only [imp_self,true_and]
 refine ⟨hp1,hp2,hp1,g1,hp2,g1,fun h=>⟨?_,trivial⟩,fun h=>⟨?_,trivial⟩⟩
 ·rw [Bool.or_eq_true,Bool.or_eq_true,Bool.not_eq_true',decide_eq_false_iff_not,decide_eq_true_eq,decide_eq_true_eq,hz _ (Int.ediv_nonneg n0 g0),hz _ (Int.ediv_nonneg d0 g0),Decidable.not_not] at h
  have:N n=0∨N d=0:=by
   refine Decidable.byContradiction fun e=>?_
   obtain ⟨h1,h2,h3,h4,h5⟩:=mk_parts (neg:=b) (n:=N n) (d:=N d) (by omega) (by omega)
   omega
  rw [mk_zero this,qf_z]
 ·rw [Bool.or_eq_false_iff,Bool.or_eq_false_iff,Bool.not_eq_false',decide_eq_true_eq,decide_eq_false_iff_not,decide_eq_false_iff_not,hz _ (Int.ediv_nonneg n0 g0),hz _ (Int.ediv_nonneg d0 g0)] at h
  have hn:N n≠0:=fun e=>h.1.2 (by rw [e,Int.zero_ediv])
  have hd:N d≠0:=fun e=>h.2 (by rw [e,Int.zero_ediv])
  rw [qf_mk (by omega) (by omega)]
@[go_sem] noncomputable def EQ6:Env:=((EQ5).add 102 rSizeS).add 99 rFracS
theorem EQ6_ok:EQ6.Ok:=((EQ5_ok).add rSize_ok).add rFrac_ok
@[go_sem] def rFNormS:Spec:=⟨[fT],fun d=>(.dat fT (qf (fq d.1)),[fs d.1<=5000000])⟩
theorem rFNorm_ok:SpecOk Tryz.prog 94 rFNormS:=by
 refine fn_ok EQ6_ok rFNormS Tryz.func94 rfl (by decide) (N:=10) rfl (res:=[.cell 2 137]) rfl (by decide) [] [] [] 100 (by kernel_rfl) ?_
 rintro ⟨f,_⟩ hw hp
 refine ⟨rfl,fun H hH=>?_⟩
 dsimp only [go_sem] at hw hp ⊢
 have h:=pt_of hw.1 hp.1
 exact ⟨Nat.le_trans h.nl (by decide),Nat.le_trans h.dl (by decide),rfl,trivial⟩
@[go_sem] def rFNewS:Spec:=⟨[.int .i64,.int .i64],fun d=>(.tup (.cons (.dat fT (if d.2.1=(0:Int) then f0 else qf (Rat.divInt d.1 d.2.1))) (.cons (.dat (.int .i64) (if d.2.1=(0:Int) then 20 else 0)) .nil)),[])⟩
theorem rFNew_ok:SpecOk Tryz.prog 98 rFNewS:=by
 refine fn_ok EQ6_ok rFNewS Tryz.func98 rfl (by decide) (N:=19) rfl (res:=[.cell 4 137,.tmp 5]) rfl (by decide) [] [] [] 100 (by kernel_rfl) ?_
 rintro ⟨(n:Int),(d:Int),_⟩ hw hp
 refine ⟨rfl,fun H hH=>?_⟩
 dsimp only [go_sem] at hw hp ⊢
 have hl:∀ x:Int,inR .i64 x->(dg (x.natAbs:Int)).length<=16000000:=fun x hx=>by
  simp only [inR,lo,hi] at hx
  have h2:Bp 2=18446744073709551616:=by decide
  exact lenC (c:=2) (by omega) (by omega) (by decide)
 refine ⟨fun h=>?_,fun h=>⟨hl n hw.1,hl d hw.2.1,rfl,rfl,?_,rfl,?_,trivial⟩⟩
 ·have h:d=0:=of_decide_eq_true h
  rw [if_pos h,if_pos h]
  exact ⟨rfl,rfl,rfl,rfl,rfl,trivial⟩
 ·have h:d≠0:=of_decide_eq_false h
  rw [if_neg h,N_dg (by omega),N_dg (by omega),<-mk_new h]
  congr 2
  cases decide (n<0)<;>cases decide (d<0)<;>rfl
 ·have h:d≠0:=of_decide_eq_false h
  rw [if_neg h]
@[go_sem] noncomputable def EQ7:Env:=((EQ6).add 94 rFNormS).add 98 rFNewS
theorem EQ7_ok:EQ7.Ok:=((EQ6_ok).add rFNorm_ok).add rFNew_ok
@[go_sem] noncomputable def E3:Env:=EQ7
theorem E3_ok:E3.Ok:=EQ7_ok
end Go.Proofs.YtdobkkhncfifeabGreat.Gx
namespace Go.Proofs.YtdobkkhncfifeabGreat.Gx
open Go Go.RowKit Tw B Nt
set_option linter.unusedVariables false
attribute [simp] fq_qf
def qs (q:Rat):Nat:=fs (qf q)
theorem fs_qf (q:Rat):fs (qf q)=qs q:=rfl
theorem qs_le {q:Rat} {c:Nat} (h:Qb c q):qs q<=c:=by
 unfold qs fs qf
 exact Nat.max_le.2 ⟨dg_len (by omega) h.1,dg_len (by omega) h.2⟩
theorem Bp_lt {l:List Int} {n:Int} (h:Canon l) (hn:N l=n) {c:Nat} (hc:l.length<=c):n<Bp c:=by
 rw [<-hn]; exact Int.lt_of_lt_of_le (N_lt h.1) (Bp_mono hc)
theorem Qb_qs (q:Rat):Qb (qs q) q:=by
 unfold qs fs qf
 exact ⟨Bp_lt (canon_dg _) (N_dg (by omega)) (Nat.le_max_left _ _),Bp_lt (canon_dg _) (N_dg (by omega)) (Nat.le_max_right _ _)⟩
theorem N_lt' {l:List Int} (h:Ds l) {c:Nat} (hc:l.length<=c):N l<Bp c:=Int.lt_of_lt_of_le (N_lt h) (Bp_mono hc)
def Fd (f:fT.den):Prop:=Ds f.2.1/\Ds f.2.2
theorem qs_fq {f:fT.den} (h:Fd f):qs (fq f)<=fs f+1:=by
 refine qs_le (mk_b (N_nonneg h.1) (N_lt' h.1 ?_) (N_lt' h.2 ?_) (by omega))
 ·have:=Nat.le_max_left f.2.1.length f.2.2.length; unfold fs; omega
 ·have:=Nat.le_max_right f.2.1.length f.2.2.length; unfold fs; omega
theorem qf_neg (q:Rat):(qf q).1=decide (q.num<0):=rfl
theorem N_num (q:Rat):N (qf q).2.1=(q.num.natAbs:Int):=N_dg (by omega)
theorem N_den (q:Rat):N (qf q).2.2=(q.den:Int):=N_dg (by omega)
theorem len_num (q:Rat):(qf q).2.1.length<=qs q:=Nat.le_max_left _ _
theorem len_den (q:Rat):(qf q).2.2.length<=qs q:=Nat.le_max_right _ _
theorem inR_i64 {n:Int}:inR .i64 n↔-9223372036854775808<=n/\n<=9223372036854775807:=Iff.rfl
end Go.Proofs.YtdobkkhncfifeabGreat.Gx
