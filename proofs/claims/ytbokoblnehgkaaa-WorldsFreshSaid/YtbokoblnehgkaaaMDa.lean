/-
  D1, D2, Env, D3, D4, in one text: see the remarks at the head of each part.
-/
import Derived.Test.YtbokoblnehgkaaaMGc
import Derived.Test.YtbokoblnehgkaaaMQ
import Derived.Test.YtbokoblnehgkaaaMRefH
import Derived.Test.YtbokoblnehgkaaaMSame
import Derived.Test.YtbokoblnehgkaaaMText
import Derived.KernelRfl
import Derived.Test.YtbokoblnehgkaaaMQAdd
import Derived.Test.YtbokoblnehgkaaaMQMul
import Derived.Test.YtbokoblnehgkaaaRFrac
import Derived.Test.YtbokoblnehgkaaaRBase
namespace Go.Proofs.Ytbokoblnehgkaaa.Gx
open Go Go.RowKit Tw B Nt
set_option linter.unusedVariables false
abbrev nT:Ty:=.slice (.int .u32)
abbrev fT:Ty:=.pair .bool (.pair (.slice (.int .u32)) (.slice (.int .u32)))
def dgF:Nat->Nat->List Int
 | 0,_=>[]
 | f+1,n=>if n=0 then [] else ((n % 4294967296:Nat):Int)::dgF f (n / 4294967296)
def dg (n:Int):List Int:=dgF n.toNat n.toNat
theorem dgF_ok:∀ (f n:Nat),n<=f->N (dgF f n)=(n:Int)/\Canon (dgF f n)
 | 0,n,h=>by
  have:n=0:=by omega
  subst this
  exact ⟨rfl,Canon.nil⟩
 | f+1,n,h=>by
  unfold dgF
  by_cases hn:n=0
  ·rw [if_pos hn,hn]; exact ⟨rfl,Canon.nil⟩
  ·rw [if_neg hn]
   obtain ⟨h1,h2⟩:=dgF_ok f (n / 4294967296) (by omega)
   refine ⟨?_,Ds.cons (by omega) h2.1,?_⟩
   ·show ((n % 4294967296:Nat):Int)+4294967296*N (dgF f (n / 4294967296))=(n:Int)
    rw [h1]; omega
   ·rw [List.getLast?_cons]
    by_cases hz:n / 4294967296=0
    ·have:dgF f (n / 4294967296)=[]:=by rw [hz]; cases f<;>rfl
     rw [this]
     simp only [List.getLast?_nil,Option.getD_none,ne_eq,Option.some.injEq]
     omega
    ·have hne:dgF f (n / 4294967296)≠[]:=by
       intro e
       rw [e] at h1
       have:((n / 4294967296:Nat):Int)=0:=h1.symm
       omega
     have h3:=h2.2
     cases hl:(dgF f (n / 4294967296)).getLast? with
     | none=>exact absurd (List.getLast?_eq_none_iff.1 hl) hne
     | some x =>
      rw [hl] at h3
      simpa using h3
theorem N_dg {n:Int} (h:0<=n):N (dg n)=n:=by
 have:=(dgF_ok n.toNat n.toNat (Nat.le_refl _)).1
 unfold dg
 omega
theorem canon_dg (n:Int):Canon (dg n):=(dgF_ok n.toNat n.toNat (Nat.le_refl _)).2
theorem dg_of {l:List Int} (h:Canon l):dg (N l)=l:=(canon_dg _).inj h (N_dg (N_nonneg h.1))
theorem dg_len {n:Int} {c:Nat} (h0:0<=n) (h:n<Bp c):(dg n).length<=c:=(canon_dg n).len c (by rw [N_dg h0]; exact h)
theorem inR_u32 {n:Int}:inR .u32 n↔0<=n/\n<4294967296:=by simp only [inR,lo,hi]; omega
theorem wf_of_inR {k:IntKind} {n:Int} (h:inR k n):(Lit.int k n).wf=true:=by
 cases k<;>simp only [inR,lo,hi] at h<;>simp [Lit.wf,IntKind.min,IntKind.max,IntKind.signed,IntKind.bits]<;>omega
theorem inR_of_wf {k:IntKind} {n:Int} (h:(Lit.int k n).wf=true):inR k n:=by
 cases k<;>simp [Lit.wf,IntKind.min,IntKind.max,IntKind.signed,IntKind.bits] at h<;>simp only [inR,lo,hi]<;>omega
theorem row_of {k:IntKind} {X:Nat->Prop} {w:World} {v:Value} {l:List Int} (h:rep (.slice (.int k)) X w [v] l):Row k w v l:=by
 obtain ⟨a,cap,e,h2,h3,h4,h5⟩:=h
 have e:=(List.cons.inj e).1
 subst e
 have hel:∀ i,i<l.length->∃ b off,a=some ⟨b,off,none⟩/\w.cell? ⟨b,off+i,none⟩=some (.int k (l.getD i 0))/\inR k (l.getD i 0):=by
  intro i hi
  obtain ⟨b,off,C,T,f,ha,_,hb,hr⟩:=h5 (by intro e; rw [e] at hi; simp at hi)
  obtain ⟨q1,q2⟩:=hr i (l.getD i 0) (by simp [hi])
  refine ⟨b,off,ha,?_,q2⟩
  simp only [Ty.size,Nat.mul_one] at q1
  have hq:(C.toList.drop (off+i))[0]?=some (.int k (l.getD i 0)):=by
   have:=congrArg (fun l=>l[0]?) q1
   simpa [List.getElem?_take] using this
  rw [List.getElem?_drop] at hq
  simpa [World.cell?,hb] using hq
 refine ⟨a,cap,rfl,h2,h3,h4,fun n hn=>?_,fun hne=>?_⟩
 ·obtain ⟨i,hi,rfl⟩:=List.mem_iff_getElem.1 hn
  obtain ⟨_,_,_,_,q⟩:=hel i hi
  have:l.getD i 0=l[i]:=by simp [hi]
  rw [this] at q
  exact wf_of_inR q
 ·have hpos:0<l.length:=List.length_pos_iff.2 hne
  obtain ⟨b,off,ha,_⟩:=hel 0 hpos
  refine ⟨b,off,ha,fun i hi=>?_⟩
  obtain ⟨b',off',ha',q,_⟩:=hel i hi
  rw [ha] at ha'
  cases ha'
  exact q
theorem rep_of_row {k:IntKind} {t:TypeId} {base:Nat} {X:Nat->Prop} {w:World} {v:Value} {l:List Int} (h:Row k w v l) (hf:Fresh t base w v) (hX:∀ b,X b->b<base):rep (.slice (.int k)) X w [v] l:=by
 obtain ⟨a,cap,rfl,h2,h3,h4,h5,h6⟩:=h
 refine ⟨a,cap,rfl,h2,h3,h4,fun hne=>?_⟩
 obtain ⟨b,off,rfl,hc⟩:=h6 hne
 obtain ⟨g1,C,g2⟩:=hf b off none _ _ rfl
 refine ⟨b,off,C,t,_,rfl,fun hx=>?_,g2,fun i x hx=>?_⟩
 ·have:=hX b hx; omega
 ·have hi:i<l.length:=by
    rcases Nat.lt_or_ge i l.length with h|h
    ·exact h
    ·rw [List.getElem?_eq_none h] at hx; cases hx
  have:=hc i hi
  have hxe:l.getD i 0=x:=by simp [hx]
  rw [hxe] at this
  refine ⟨?_,inR_of_wf (h5 x (List.mem_of_getElem? hx))⟩
  simp only [Ty.size,Nat.mul_one]
  have hq:C.toList[off+i]?=some (.int k x):=by simpa [World.cell?,g2] using this
  have hlt:off+i<C.toList.length:=by
   rcases Nat.lt_or_ge (off+i) C.toList.length with h|h
   ·exact h
   ·rw [List.getElem?_eq_none h] at hq; cases hq
  rw [List.drop_eq_getElem_cons hlt,List.take_succ_cons,List.take_zero]
  rw [List.getElem?_eq_getElem hlt] at hq
  rw [Option.some.inj hq]
section
variable {ρ:List Value} {X:Nat->Prop} {w:World}
theorem num_of {v:Value} {l:List Int} (h:m ρ X w (.dat nT l) [v]) (c:Nat) (hc:l.length<=c):Num w v c (N l):=⟨l,row_of (rep_of_dat rfl h),hc,rfl⟩
theorem ds_of {v:Value} {l:List Int} (h:m ρ X w (.dat nT l) [v]):Ds l:=Nt.Row.ds (row_of (rep_of_dat rfl h))
theorem dat_of_new {base:Nat} {v:Value} {n:Int} (h:IsNew base w v n) (hX:∀ b,X b->b<base):m ρ X w (.dat nT (dg n)) [v]:=by
 obtain ⟨l,h1,h2,h3,h4⟩:=h
 have:dg n=l:=by rw [<-h3]; exact dg_of h2
 rw [this]
 exact dat_of_rep rfl (rep_of_row h1 h4 hX)
def fq (f:fT.den):Rat:=mk f.1 (N f.2.1) (N f.2.2)
def qf (q:Rat):fT.den:=(decide (q.num<0),dg (q.num.natAbs:Int),dg (q.den:Int))
def fs (f:fT.den):Nat:=max f.2.1.length f.2.2.length
theorem fq_qf (q:Rat):fq (qf q)=q:=by
 unfold fq qf
 rw [N_dg (by omega),N_dg (by omega)]
 exact mk_self q
theorem frac_form {v:Value} {f:fT.den} (h:m ρ X w (.dat fT f) [v]):∃ vn vd,v=.agg #[.bool f.1,vn,vd]/\m ρ X w (.dat nT f.2.1) [vn]/\m ρ X w (.dat nT f.2.2) [vd]:=by
 obtain ⟨cs,h1,h2⟩:=h
 have hl:=rep_len h1
 have h2:=(List.cons.inj h2).1
 match cs,hl with
 | [a,b,c],_ =>
  obtain ⟨q1,q2,q3⟩:=h1
  have q1:[a]=[Value.bool f.1]:=q1
  cases q1
  exact ⟨b,c,by rw [h2]; simp [Ty.wrap,Ty.isAgg],dat_of_rep rfl q2,dat_of_rep rfl q3⟩
theorem raw_of {v:Value} {f:fT.den} (h:m ρ X w (.dat fT f) [v]) (c:Nat) (hc:fs f<=c):Raw w v c (fq f):=by
 obtain ⟨vn,vd,e,h1,h2⟩:=frac_form h
 have hc1:f.2.1.length<=c:=Nat.le_trans (Nat.le_max_left _ _) hc
 have hc2:f.2.2.length<=c:=Nat.le_trans (Nat.le_max_right _ _) hc
 exact ⟨f.1,vn,vd,_,_,e,num_of h1 c hc1,num_of h2 c hc2,rfl⟩
theorem args1 {t:Ty} {a:t.den} {vs:List Value} (h:m ρ X w (.cons (.dat t a) .nil) vs):∃ x,vs=[x]/\m ρ X w (.dat t a) [x]:=by
 obtain ⟨v,us,rfl,h1,h2⟩:=h
 have h2:us=[]:=h2
 subst h2
 exact ⟨v,rfl,h1⟩
theorem args2 {t u:Ty} {a:t.den} {b:u.den} {vs:List Value} (h:m ρ X w (.cons (.dat t a) (.cons (.dat u b) .nil)) vs):∃ x y,vs=[x,y]/\m ρ X w (.dat t a) [x]/\m ρ X w (.dat u b) [y]:=by
 obtain ⟨v,us,rfl,h1,h2⟩:=h
 obtain ⟨y,rfl,h3⟩:=args1 h2
 exact ⟨v,y,rfl,h1,h3⟩
theorem tup2 {x y:AV} {u v:Value} (h1:m ρ X w x [u]) (h2:m ρ X w y [v]):m ρ X w (.tup (.cons x (.cons y .nil))) [.tuple #[u,v]]:=⟨[u,v],rfl,u,[v],rfl,h1,v,[],rfl,h2,rfl⟩
theorem tup3 {x y z:AV} {u v t:Value} (h1:m ρ X w x [u]) (h2:m ρ X w y [v]) (h3:m ρ X w z [t]):m ρ X w (.tup (.cons x (.cons y (.cons z .nil)))) [.tuple #[u,v,t]]:=⟨[u,v,t],rfl,u,[v,t],rfl,h1,v,[t],rfl,h2,t,[],rfl,h3,rfl⟩
end
theorem ret_new {P:Program} {f:FuncId} {args:Array Value} {w:World} {n:Int} {ρ:List Value} {X:Nat->Prop} (h:Calls P f args w (Ret1 w.heap.size w n)) (hX:∀ b,X b->b<w.heap.size) :
    Calls P f args w (fun e w'=>∃ v,e=.returned v/\m ρ X w' (.dat nT (dg n)) [v]/\Below w.heap.size w w') :=
 h.mono fun e w' ⟨v,h1,h2,h3⟩=>⟨v,h1,dat_of_new h2 hX,h3⟩
theorem spec_of {P:Program} {f:FuncId} {s:Spec} {fn:Func} (hf:P.funcs[f]?=some fn) (hb:fn.body.isSome=true) (hn:(fn.name == "runtime.NumGoroutine")=false)
    (h:∀ d,AllP (s.F d).2->∀ ρ X w vs,(∀ b,X b->b<w.heap.size)->m ρ X w (argAVs s.tys d) vs->Calls P f vs.toArray w (fun e w'=>∃ v,e=.returned v/\m ρ X w' (s.F d).1 [v]/\Below w.heap.size w w')):SpecOk P f s :=
 fun d hd=>⟨fun args w=>callFunc_ok hf hb hn args w,fun ρ X w vs hX hm=>h d hd ρ X w vs hX hm⟩
theorem leA_nild {cf ck:List (Nat×CT)} {n n':Nat} {t:Ty} {b:List t.den}:leA cf ck n n' (.val (.slice none 0 0)) (.dat (.slice t) b)=[([]:List t.den)=b]:=rfl
theorem nilA_nild {mp:List (Nat×Nat)} {nx:Nat} {t:Ty} {b:t.den}:nilA mp nx (.val (.slice none 0 0)) (.dat t b)=.val (.slice none 0 0):=rfl
attribute [go_sem ↓] leA_nild nilA_nild
end Go.Proofs.Ytbokoblnehgkaaa.Gx
namespace Go.Proofs.Ytbokoblnehgkaaa.Gx
open Go Go.RowKit Tw B Nt
set_option linter.unusedVariables false
theorem inR_cmp (x y:Int):inR .i64 (cmpI x y):=by
 unfold cmpI; split
 ·decide
 ·split<;>decide
theorem m_i64 {ρ:List Value} {X:Nat->Prop} {w:World} {n:Int} (h0:-9223372036854775808<=n) (h1:n<=9223372036854775807):m ρ X w (.dat (.int .i64) n) [.int .i64 n]:=m_int_of ⟨h0,h1⟩
theorem blen_le {l:List Int} (h:Ds l):(blen (N l):Int)<=32*l.length:=by
 have h1:=N_lt h
 rw [Bp_pow] at h1
 have:=blen_lt (N_nonneg h) (32*l.length) h1
 omega
def u64v (n:Int):Int:=if n<18446744073709551616 then n else 0
theorem m_u64R {ρ:List Value} {X:Nat->Prop} {w:World} {n:Int} (h0:0<=n):m ρ X w (.tup (.cons (.dat (.int .u64) (u64v n)) (.cons (.dat .bool (decide (n<18446744073709551616))) .nil))) [u64R n]:=by
 unfold u64R u64v
 by_cases h:n<18446744073709551616
 ·rw [if_pos h,if_pos h,decide_eq_true h]
  exact tup2 (m_int_of (by simp only [inR,lo,hi]; omega)) m_bool_of
 ·rw [if_neg h,if_neg h,decide_eq_false h]
  exact tup2 (m_int_of (by simp only [inR,lo,hi]; omega)) m_bool_of
@[go_sem] def bAddS:Spec:=⟨[nT,nT],fun d=>(.dat nT (dg (N d.1+N d.2.1)),[d.1.length<=16000000,d.2.1.length<=16000000])⟩
theorem bAdd_ok:SpecOk Try.prog 82 bAddS:=by
 refine spec_of (s:=bAddS) Try.func82 rfl (by decide) fun d hp ρ X w vs hX hm=>?_
 obtain ⟨x,y,rfl,h1,h2⟩:=args2 hm
 exact ret_new (add x y 16000000 _ _ w (num_of h1 _ hp.1) (num_of h2 _ hp.2.1) (by decide)) hX
@[go_sem] def bMulS:Spec:=⟨[nT,nT],fun d=>(.dat nT (dg (N d.1*N d.2.1)),[d.1.length<=16000000,d.2.1.length<=16000000])⟩
theorem bMul_ok:SpecOk Try.prog 47 bMulS:=by
 refine spec_of (s:=bMulS) Try.func47 rfl (by decide) fun d hp ρ X w vs hX hm=>?_
 obtain ⟨x,y,rfl,h1,h2⟩:=args2 hm
 exact ret_new (mul x y 16000000 _ _ w (num_of h1 _ hp.1) (num_of h2 _ hp.2.1) (by decide)) hX
@[go_sem] def bGCDS:Spec:=⟨[nT,nT],fun d=>(.dat nT (dg (gcdI (N d.1) (N d.2.1))),[d.1.length<=16000000,d.2.1.length<=16000000])⟩
theorem bGCD_ok:SpecOk Try.prog 57 bGCDS:=by
 refine spec_of (s:=bGCDS) Try.func57 rfl (by decide) fun d hp ρ X w vs hX hm=>?_
 obtain ⟨x,y,rfl,h1,h2⟩:=args2 hm
 exact ret_new (gcd x y 16000000 _ _ w (num_of h1 _ hp.1) (num_of h2 _ hp.2.1) (by decide)) hX
@[go_sem] def bNormS:Spec:=⟨[nT],fun d=>(.dat nT (dg (N d.1)),[d.1.length<=16000000])⟩
theorem bNorm_ok:SpecOk Try.prog 45 bNormS:=by
 refine spec_of (s:=bNormS) Try.func45 rfl (by decide) fun d hp ρ X w vs hX hm=>?_
 obtain ⟨x,rfl,h1⟩:=args1 hm
 exact ret_new (normalize x 16000000 _ w (num_of h1 _ hp.1) (by decide)) hX
@[go_sem] def bSubS:Spec:=⟨[nT,nT],fun d=>(.tup (.cons (.dat nT (dg (if N d.2.1<=N d.1 then N d.1-N d.2.1 else 0))) (.cons (.dat .bool (decide (N d.2.1<=N d.1))) .nil)),[d.1.length<=16000000,d.2.1.length<=16000000])⟩
theorem bSub_ok:SpecOk Try.prog 83 bSubS:=by
 refine spec_of (s:=bSubS) Try.func83 rfl (by decide) fun d hp ρ X w vs hX hm=>?_
 obtain ⟨x,y,rfl,h1,h2⟩:=args2 hm
 refine (sub x y 16000000 _ _ w (num_of h1 _ hp.1) (num_of h2 _ hp.2.1) (by decide)).mono fun e w' ⟨v,g1,g2,g3⟩=>⟨_,g1,tup2 (dat_of_new g2 hX) m_bool_of,g3⟩
@[go_sem] def bDivModS:Spec:=⟨[nT,nT],fun d=>(.tup (.cons (.dat nT (dg (N d.1 / N d.2.1))) (.cons (.dat nT (dg (if N d.2.1=0 then 0 else N d.1 % N d.2.1))) (.cons (.dat .bool (decide (N d.2.1≠0))) .nil))),[d.1.length<=16000000,d.2.1.length<=16000000])⟩
theorem bDivMod_ok:SpecOk Try.prog 39 bDivModS:=by
 refine spec_of (s:=bDivModS) Try.func39 rfl (by decide) fun d hp ρ X w vs hX hm=>?_
 obtain ⟨x,y,rfl,h1,h2⟩:=args2 hm
 refine (divMod x y 16000000 _ _ w (num_of h1 _ hp.1) (num_of h2 _ hp.2.1) (by decide)).mono fun e w' ⟨v,v2,g1,g2,g3,g4⟩=>⟨_,g1,tup3 (dat_of_new g2 hX) (dat_of_new g3 hX) m_bool_of,g4⟩
@[go_sem] def bCmpS:Spec:=⟨[nT,nT],fun d=>(.dat (.int .i64) (cmpI (N d.1) (N d.2.1)),[d.1.length<=16000000,d.2.1.length<=16000000])⟩
theorem bCmp_ok:SpecOk Try.prog 38 bCmpS:=by
 refine spec_of (s:=bCmpS) Try.func38 rfl (by decide) fun d hp ρ X w vs hX hm=>?_
 obtain ⟨x,y,rfl,h1,h2⟩:=args2 hm
 exact (cmp x y 16000000 _ _ w (num_of h1 _ hp.1) (num_of h2 _ hp.2.1) (by decide)).mono fun e w' ⟨g1,g2⟩=>⟨_,g1,m_int_of (inR_cmp _ _),g2⟩
@[go_sem] def bBitsS:Spec:=⟨[nT],fun d=>(.dat (.int .i64) (blen (N d.1):Int),[d.1.length<=16000000])⟩
theorem bBits_ok:SpecOk Try.prog 53 bBitsS:=by
 refine spec_of (s:=bBitsS) Try.func53 rfl (by decide) fun d hp ρ X w vs hX hm=>?_
 obtain ⟨x,rfl,h1⟩:=args1 hm
 have hb:=blen_le (ds_of h1)
 have hl:=hp.1
 exact (Nt.bitLen x 16000000 _ w (num_of h1 _ hp.1) (by decide)).mono fun e w' ⟨g1,g2⟩=>⟨_,g1,m_i64 (by omega) (by omega),by rw [<-g2]; exact Below.refl _ _⟩
@[go_sem] def bU64S:Spec:=⟨[nT],fun d=>(.tup (.cons (.dat (.int .u64) (u64v (N d.1))) (.cons (.dat .bool (decide (N d.1<18446744073709551616))) .nil)),[d.1.length<=16000000])⟩
theorem bU64_ok:SpecOk Try.prog 41 bU64S:=by
 refine spec_of (s:=bU64S) Try.func41 rfl (by decide) fun d hp ρ X w vs hX hm=>?_
 obtain ⟨x,rfl,h1⟩:=args1 hm
 exact (uint64 x 16000000 _ w (num_of h1 _ hp.1)).mono fun e w' ⟨g1,g2⟩=>⟨_,g1,m_u64R (N_nonneg (ds_of h1)),g2⟩
@[go_sem] def bOfS:Spec:=⟨[.int .u64],fun d=>(.dat nT (dg d.1),[])⟩
theorem bOf_ok:SpecOk Try.prog 24 bOfS:=by
 refine spec_of (s:=bOfS) Try.func24 rfl (by decide) fun d hp ρ X w vs hX hm=>?_
 obtain ⟨x,rfl,h1⟩:=args1 hm
 obtain ⟨rfl,h2⟩:=m_int h1
 simp only [inR,lo,hi] at h2
 exact ret_new (fromUint64 _ w h2.1 (by omega)) hX
@[go_sem] def rAddS:Spec:=⟨[nT,nT],fun d=>(.dat nT (dg (N d.1+N d.2.1)),[d.1.length<=16000000,d.2.1.length<=16000000])⟩
theorem rAdd_ok:SpecOk Try.prog 85 rAddS:=by
 refine spec_of (s:=rAddS) Try.func85 rfl (by decide) fun d hp ρ X w vs hX hm=>?_
 obtain ⟨x,y,rfl,h1,h2⟩:=args2 hm
 exact ret_new (rAdd x y 16000000 _ _ w (num_of h1 _ hp.1) (num_of h2 _ hp.2.1) (by decide)) hX
@[go_sem] def rMulS:Spec:=⟨[nT,nT],fun d=>(.dat nT (dg (N d.1*N d.2.1)),[d.1.length<=16000000,d.2.1.length<=16000000])⟩
theorem rMul_ok:SpecOk Try.prog 31 rMulS:=by
 refine spec_of (s:=rMulS) Try.func31 rfl (by decide) fun d hp ρ X w vs hX hm=>?_
 obtain ⟨x,y,rfl,h1,h2⟩:=args2 hm
 exact ret_new (rMul x y 16000000 _ _ w (num_of h1 _ hp.1) (num_of h2 _ hp.2.1) (by decide)) hX
@[go_sem] def rGCDS:Spec:=⟨[nT,nT],fun d=>(.dat nT (dg (gcdI (N d.1) (N d.2.1))),[d.1.length<=16000000,d.2.1.length<=16000000])⟩
theorem rGCD_ok:SpecOk Try.prog 49 rGCDS:=by
 refine spec_of (s:=rGCDS) Try.func49 rfl (by decide) fun d hp ρ X w vs hX hm=>?_
 obtain ⟨x,y,rfl,h1,h2⟩:=args2 hm
 exact ret_new (rGCD x y 16000000 _ _ w (num_of h1 _ hp.1) (num_of h2 _ hp.2.1) (by decide)) hX
@[go_sem] def rNormS:Spec:=⟨[nT],fun d=>(.dat nT (dg (N d.1)),[d.1.length<=16000000])⟩
theorem rNorm_ok:SpecOk Try.prog 52 rNormS:=by
 refine spec_of (s:=rNormS) Try.func52 rfl (by decide) fun d hp ρ X w vs hX hm=>?_
 obtain ⟨x,rfl,h1⟩:=args1 hm
 exact ret_new (rNorm x 16000000 _ w (num_of h1 _ hp.1) (by decide)) hX
@[go_sem] def rSubS:Spec:=⟨[nT,nT],fun d=>(.tup (.cons (.dat nT (dg (if N d.2.1<=N d.1 then N d.1-N d.2.1 else 0))) (.cons (.dat .bool (decide (N d.2.1<=N d.1))) .nil)),[d.1.length<=16000000,d.2.1.length<=16000000])⟩
theorem rSub_ok:SpecOk Try.prog 65 rSubS:=by
 refine spec_of (s:=rSubS) Try.func65 rfl (by decide) fun d hp ρ X w vs hX hm=>?_
 obtain ⟨x,y,rfl,h1,h2⟩:=args2 hm
 refine (rSub x y 16000000 _ _ w (num_of h1 _ hp.1) (num_of h2 _ hp.2.1) (by decide)).mono fun e w' ⟨v,g1,g2,g3⟩=>⟨_,g1,tup2 (dat_of_new g2 hX) m_bool_of,g3⟩
@[go_sem] def rDivModS:Spec:=⟨[nT,nT],fun d=>(.tup (.cons (.dat nT (dg (N d.1 / N d.2.1))) (.cons (.dat nT (dg (if N d.2.1=0 then 0 else N d.1 % N d.2.1))) (.cons (.dat .bool (decide (N d.2.1≠0))) .nil))),[d.1.length<=16000000,d.2.1.length<=16000000])⟩
theorem rDivMod_ok:SpecOk Try.prog 50 rDivModS:=by
 refine spec_of (s:=rDivModS) Try.func50 rfl (by decide) fun d hp ρ X w vs hX hm=>?_
 obtain ⟨x,y,rfl,h1,h2⟩:=args2 hm
 refine (rDivMod x y 16000000 _ _ w (num_of h1 _ hp.1) (num_of h2 _ hp.2.1) (by decide)).mono fun e w' ⟨v,v2,g1,g2,g3,g4⟩=>⟨_,g1,tup3 (dat_of_new g2 hX) (dat_of_new g3 hX) m_bool_of,g4⟩
@[go_sem] def rCmpS:Spec:=⟨[nT,nT],fun d=>(.dat (.int .i64) (cmpI (N d.1) (N d.2.1)),[d.1.length<=16000000,d.2.1.length<=16000000])⟩
theorem rCmp_ok:SpecOk Try.prog 64 rCmpS:=by
 refine spec_of (s:=rCmpS) Try.func64 rfl (by decide) fun d hp ρ X w vs hX hm=>?_
 obtain ⟨x,y,rfl,h1,h2⟩:=args2 hm
 exact (rCmp x y 16000000 _ _ w (num_of h1 _ hp.1) (num_of h2 _ hp.2.1) (by decide)).mono fun e w' ⟨g1,g2⟩=>⟨_,g1,m_int_of (inR_cmp _ _),g2⟩
@[go_sem] def rOfS:Spec:=⟨[.int .u64],fun d=>(.dat nT (dg d.1),[])⟩
theorem rOf_ok:SpecOk Try.prog 51 rOfS:=by
 refine spec_of (s:=rOfS) Try.func51 rfl (by decide) fun d hp ρ X w vs hX hm=>?_
 obtain ⟨x,rfl,h1⟩:=args1 hm
 obtain ⟨rfl,h2⟩:=m_int h1
 simp only [inR,lo,hi] at h2
 exact ret_new (rOf _ w h2.1 (by omega)) hX
@[go_sem] def rSameS:Spec:=⟨[nT,nT],fun d=>(.dat .bool (decide (d.1=d.2.1)),[])⟩
theorem rSame_ok:SpecOk Try.prog 35 rSameS:=by
 refine spec_of (s:=rSameS) Try.func35 rfl (by decide) fun d hp ρ X w vs hX hm=>?_
 obtain ⟨x,y,rfl,h1,h2⟩:=args2 hm
 exact (natSame x y _ _ w (row_of (rep_of_dat rfl h1)) (row_of (rep_of_dat rfl h2))).mono fun e w' ⟨g1,g2⟩=>⟨_,g1,m_bool_of,g2⟩
end Go.Proofs.Ytbokoblnehgkaaa.Gx
namespace Go.Proofs.Ytbokoblnehgkaaa.Gx
open Go Go.RowKit Tw B Nt
set_option linter.unusedVariables false
attribute [go_sem] List.map
def appN (E:Env) (st:St) (T:TypeId) (b:AV) (d:Nat):Option (St×List Prop) :=
 match elemOf E T with
 | some u=>match E.te T with
  | some e=>match E.te e.elem with
   | some e'=>match Nat.ble 1 e'.bytes with
    | true=>match asW st.ck (.slice u) b with
     | some m=>some (⟨(d,.own st.nx)::st.sl,(st.nx,.row e.elem u m)::st.ck,st.nx+1⟩,[m.length*e'.bytes<=140737488355328])
     | none=>none
    | false=>none
   | none=>none
  | none=>none
 | none=>none
theorem appendA_nil {E:Env} {st:St} {T:TypeId} {b:AV} {d:Nat}:appendA E st T (.val (.slice none 0 0)) b d=appN E st T b d:=rfl
theorem leA_nil {cf ck:List (Nat×CT)} {n n' c:Nat}:leA cf ck n n' (.val (.slice none 0 0)) (.own c)=match isBag cf c with
    | false=>[n<=c/\c<n']
    | true=>[False]:=rfl
def nilN (mp:List (Nat×Nat)) (nx i:Nat):AV :=
 match get? mp i with
 | none=>match Nat.ble (i+1) nx with|true=>.own i|false=>.any
 | some _=>.any
theorem nilA_nil {mp:List (Nat×Nat)} {nx i:Nat}:nilA mp nx (.val (.slice none 0 0)) (.own i)=nilN mp nx i:=rfl
attribute [go_sem] nilN
theorem leA_nils {cf ck:List (Nat×CT)} {n n' c k:Nat}:leA cf ck n n' (.val (.slice none 0 0)) (.sli c k)=match isBag cf c with
    | false=>[n<=c/\c<n'/\k=0]
    | true=>[False]:=rfl
attribute [go_sem ↓] appendA_nil leA_nil leA_nils nilA_nil
attribute [go_sem] appN
@[go_sem] def tysL:List (Nat×TE):=[
 (3,⟨(.int .i64),0,8,0⟩),
 (4,⟨.bool,0,1,0⟩),
 (80,⟨(.slice (.int .u8)),5,24,0⟩),
 (9,⟨.str,0,16,0⟩),
 (39,⟨(.slice (.int .u32)),42,24,0⟩),
 (41,⟨(.pair .bool (.pair (.slice (.int .u32)) (.slice (.int .u32)))),0,56,3⟩),
 (32,⟨(.int .i64),0,8,0⟩),
 (5,⟨(.int .u8),0,1,0⟩),
 (61,⟨(.int .u64),0,8,0⟩),
 (42,⟨(.int .u32),0,4,0⟩),
 (2,⟨(.int .i64),0,8,0⟩),
 (49,⟨(.int .u64),0,8,0⟩),
 (22,⟨(.slice (.int .i64)),3,24,0⟩),
 (35,⟨(.slice (.pair .bool (.pair (.slice (.int .u32)) (.slice (.int .u32))))),41,24,0⟩),
 (12,⟨(.int .u64),0,8,0⟩),
 (13,⟨(.pair .str (.int .u64)),0,24,2⟩),
 (21,⟨(.int .i32),0,4,0⟩),
 (23,⟨(.slice (.one (.slice (.pair .bool (.pair (.slice (.int .u32)) (.slice (.int .u32))))))),37,24,0⟩),
 (24,⟨(.one (.slice (.one (.slice (.pair .bool (.pair (.slice (.int .u32)) (.slice (.int .u32)))))))),0,24,1⟩),
 (25,⟨(.one (.slice (.one (.slice (.pair .bool (.pair (.slice (.int .u32)) (.slice (.int .u32)))))))),0,24,1⟩),
 (27,⟨(.slice (.int .i64)),3,24,0⟩),
 (36,⟨(.one (.slice (.pair .bool (.pair (.slice (.int .u32)) (.slice (.int .u32)))))),0,24,1⟩),
 (37,⟨(.one (.slice (.pair .bool (.pair (.slice (.int .u32)) (.slice (.int .u32)))))),0,24,1⟩),
 (38,⟨(.slice (.int .u32)),42,24,0⟩),
 (40,⟨(.pair .bool (.pair (.slice (.int .u32)) (.slice (.int .u32)))),0,56,3⟩),
 (56,⟨(.slice (.one (.slice (.one (.slice (.pair .bool (.pair (.slice (.int .u32)) (.slice (.int .u32))))))))),25,24,0⟩),
 (66,⟨(.slice (.int .i64)),2,24,0⟩)]
theorem tys_ok:∀ x∈tysL,TyFact Try.prog x.1 x.2:=by
 intro x hx
 simp only [tysL,List.mem_cons,List.not_mem_nil,or_false] at hx
 rcases hx with rfl|rfl|rfl|rfl|rfl|rfl|rfl|rfl|rfl|rfl|rfl|rfl|rfl|rfl|rfl|rfl|rfl|rfl|rfl|rfl|rfl|rfl|rfl|rfl|rfl|rfl|rfl
 all_goals exact ⟨by kernel_rfl,by kernel_rfl,by kernel_rfl,by kernel_rfl,by kernel_rfl⟩
@[go_sem] def sp2:List (Nat×Spec):=[(82,bAddS),(47,bMulS),(57,bGCDS),(45,bNormS),(83,bSubS),(39,bDivModS),(38,bCmpS),(53,bBitsS),(41,bU64S),(24,bOfS),(85,rAddS),(31,rMulS),(49,rGCDS),(52,rNormS),(65,rSubS),(50,rDivModS),(64,rCmpS),(51,rOfS),(35,rSameS)]
@[go_sem] noncomputable def E2:Env:=⟨Try.prog,tysL,sp2,[]⟩
theorem mixed_ok:Try.prog.follows .mixedOrders=true:=by kernel_rfl
theorem E2_ok:E2.Ok:=by
 refine ⟨tys_ok,fun x hx=>?_,fun x hx=>(by cases hx),mixed_ok⟩
 simp only [E2,sp2,List.mem_cons,List.not_mem_nil,or_false] at hx
 rcases hx with rfl|rfl|rfl|rfl|rfl|rfl|rfl|rfl|rfl|rfl|rfl|rfl|rfl|rfl|rfl|rfl|rfl|rfl|rfl
 ·exact bAdd_ok
 ·exact bMul_ok
 ·exact bGCD_ok
 ·exact bNorm_ok
 ·exact bSub_ok
 ·exact bDivMod_ok
 ·exact bCmp_ok
 ·exact bBits_ok
 ·exact bU64_ok
 ·exact bOf_ok
 ·exact rAdd_ok
 ·exact rMul_ok
 ·exact rGCD_ok
 ·exact rNorm_ok
 ·exact rSub_ok
 ·exact rDivMod_ok
 ·exact rCmp_ok
 ·exact rOf_ok
 ·exact rSame_ok
@[go_sem] def Env.add (E:Env) (f:Nat) (s:Spec):Env:=⟨E.P,E.tys,(f,s)::E.sp,E.ms⟩
theorem Env.Ok.add {E:Env} (h:E.Ok) {f:Nat} {s:Spec} (hs:SpecOk E.P f s):(E.add f s).Ok :=
 ⟨h.ty,fun x hx=>by
  rcases List.mem_cons.1 hx with rfl|hx
  ·exact hs
  ·exact h.sp x hx,h.ms,h.mx⟩
@[go_sem] def Env.addM (E:Env) (f:Nat) (s:MSpec):Env:=⟨E.P,E.tys,E.sp,(f,s)::E.ms⟩
theorem Env.Ok.addM {E:Env} (h:E.Ok) {f:Nat} {s:MSpec} (hs:MSpecOk E.P f s):(E.addM f s).Ok :=
 ⟨h.ty,h.sp,fun x hx=>by
  rcases List.mem_cons.1 hx with rfl|hx
  ·exact hs
  ·exact h.ms x hx,h.mx⟩
end Go.Proofs.Ytbokoblnehgkaaa.Gx
namespace Go.Proofs.Ytbokoblnehgkaaa.Gx
open Go Go.RowKit Tw B Nt
set_option linter.unusedVariables false
set_option linter.unusedSimpArgs false
set_option maxHeartbeats 4000000
set_option maxRecDepth 20000
def f0:fT.den:=(false,[],[])
theorem qf_mk {neg:Bool} {n d:Int} (hn:0<n) (hd:0<d):qf (mk neg n d)=(neg,dg (n / gcdI n d),dg (d / gcdI n d)):=by
 obtain ⟨h1,h2,h3,h4,h5⟩:=mk_parts (neg:=neg) hn hd
 unfold qf
 rw [h1,h2,sg_neg h4,sg_abs (by omega)]
theorem qf_z:qf 0=(false,[],dg 1):=by decide +kernel
theorem qf_o:qf 1=(false,dg 1,dg 1):=by decide +kernel
theorem blen_z {n:Int}:(blen n:Int)=0↔n=0:=by
 unfold blen
 split
 ·rename_i h; simp [h]
 ·rename_i h; simp [h]; omega
theorem dsN {l:List Int} (h:wfD nT l):0<=N l:=N_nonneg fun d hd=>inR_u32.1 (h.2 d hd)
theorem N_ltc {l:List Int} (h:wfD nT l) {c:Nat} (hc:l.length<=c):N l<Bp c:=Int.lt_of_lt_of_le (N_lt fun d hd=>inR_u32.1 (h.2 d hd)) (Bp_mono hc)
theorem lenC {n:Int} {c k:Nat} (h0:0<=n) (h:n<Bp c) (hk:c<=k):(dg n).length<=k:=Nat.le_trans (dg_len h0 h) hk
theorem Bp_dbl {x y:Int} {c:Nat} (hx:x<Bp c) (hy:y<Bp c):x+y<Bp (c+1):=by
 rw [Bp]
 have:=Bp_pos c
 omega
theorem cmpI_eq0 {x y:Int} (h:cmpI x y=0):x=y:=by
 unfold cmpI at h
 split at h
 ·omega
 ·split at h
  ·assumption
  ·omega
structure Pt (f:fT.den) (c:Nat):Prop where
 n0:0<=N f.2.1
 d0:0<=N f.2.2
 nb:N f.2.1<Bp c
 db:N f.2.2<Bp c
 nl:f.2.1.length<=c
 dl:f.2.2.length<=c
theorem pt_of {f:fT.den} {c:Nat} (h:wfD fT f) (hc:fs f<=c):Pt f c:=by
 have h1:=Nat.le_max_left f.2.1.length f.2.2.length
 have h2:=Nat.le_max_right f.2.1.length f.2.2.length
 have hc:max f.2.1.length f.2.2.length<=c:=hc
 exact ⟨dsN h.2.1,dsN h.2.2,N_ltc h.2.1 (by omega),N_ltc h.2.2 (by omega),by omega,by omega⟩
theorem mkz {b:Bool} {n d:Int} (h0:0<=n) (h1:0<=d) (h:sgQ (mk b n d)≠0):0<n/\0<d:=⟨(sg_pos_of h0 h1 h).1,(sg_pos_of h0 h1 h).2.1⟩
@[go_sem] def isOneS:Spec:=⟨[nT],fun d=>(.dat .bool (decide (d.1=[1])),[])⟩
theorem isOne_ok:SpecOk Try.prog 48 isOneS:=by
 refine fn_ok E2_ok isOneS Try.func48 rfl (by decide) (N:=12) rfl (res:=[.tmp 2]) rfl (by decide) [] [] [] 100 (by kernel_rfl) ?_
 rintro ⟨l,_⟩ hw hp
 refine ⟨rfl,fun H hH=>?_⟩
 dsimp only [go_sem] at hw hp ⊢
 simp only [decide_eq_true_eq]
 and_intros<;>try first|exact fun h=>h|trivial|(intro h; omega)|(rcases l with _|⟨a,_|⟨b,l⟩⟩<;>simp<;>omega)
@[go_sem] def qZeroS:Spec:=⟨[],fun d=>(.dat fT (qf 0),[])⟩
theorem qZero_ok:SpecOk Try.prog 56 qZeroS:=by
 refine fn_ok E2_ok qZeroS Try.func56 rfl (by decide) (N:=3) rfl (res:=[.cell 0 41]) rfl (by decide) [] [] [] 100 (by kernel_rfl) ?_
 rintro ⟨_⟩ hw hp
 refine ⟨rfl,fun H hH=>?_⟩
 dsimp only [go_sem] at hw hp ⊢
 exact ⟨qf_z.symm,trivial⟩
@[go_sem] def qOneS:Spec:=⟨[],fun d=>(.dat fT (qf 1),[])⟩
theorem qOne_ok:SpecOk Try.prog 69 qOneS:=by
 refine fn_ok E2_ok qOneS Try.func69 rfl (by decide) (N:=4) rfl (res:=[.cell 0 41]) rfl (by decide) [] [] [] 100 (by kernel_rfl) ?_
 rintro ⟨_⟩ hw hp
 refine ⟨rfl,fun H hH=>?_⟩
 dsimp only [go_sem] at hw hp ⊢
 exact ⟨qf_o.symm,trivial⟩
@[go_sem] noncomputable def EQ1:Env:=(((E2).add 48 isOneS).add 56 qZeroS).add 69 qOneS
theorem EQ1_ok:EQ1.Ok:=(((E2_ok).add isOne_ok).add qZero_ok).add qOne_ok
@[go_sem] def qReduceS:Spec:=⟨[.bool,nT,nT],fun d=>(.dat fT (qf (mk d.1 (N d.2.1) (N d.2.2.1))),[d.2.1.length<=16000000,d.2.2.1.length<=16000000])⟩
theorem qReduce_ok:SpecOk Try.prog 34 qReduceS:=by
 refine fn_ok EQ1_ok qReduceS Try.func34 rfl (by decide) (N:=52) rfl (res:=[.cell 6 41]) rfl (by decide) [] [] [] 100 (by kernel_rfl) ?_
 rintro ⟨b,n,d,_⟩ hw hp
 refine ⟨rfl,fun H hH=>?_⟩
 dsimp only [go_sem] at hw hp ⊢
 obtain ⟨-,hn,hd,-⟩:=hw
 obtain ⟨hp1,hp2,-⟩:=hp
 have n0:=dsN hn
 have d0:=dsN hd
 have g1:(dg (gcdI (N n) (N d))).length<=16000000:=lenC (Int.natCast_nonneg _) (gcdI_le2 n0 d0 (N_ltc hn hp1) (N_ltc hd hp2)) (Nat.le_refl _)
 have hg:N (dg (gcdI (N n) (N d)))=gcdI (N n) (N d):=N_dg (Int.natCast_nonneg _)
 have hpos:((decide ((blen (N n):Int)=0))||decide ((blen (N d):Int)=0))=false->0<N n/\0<N d:=fun h=>by
  rw [Bool.or_eq_false_iff,decide_eq_false_iff_not,decide_eq_false_iff_not,blen_z,blen_z] at h
  omega
 simp only [imp_self,true_and]
 refine ⟨hp1,fun _=>hp2,fun h=>⟨?_,trivial⟩,fun h=>⟨hp1,hp2,fun e=>⟨hp1,hp2,?_,trivial⟩,fun e=>⟨hp1,g1,hp2,g1,?_,trivial⟩⟩⟩
 ·rw [Bool.or_eq_true,decide_eq_true_eq,decide_eq_true_eq,blen_z,blen_z] at h
  rw [mk_zero h]
 ·obtain ⟨h1,h2⟩:=hpos h
  have e:dg (gcdI (N n) (N d))=[1]:=of_decide_eq_true e
  rw [e] at hg
  have hg:gcdI (N n) (N d)=1:=hg.symm.trans (by decide)
  rw [qf_mk h1 h2,hg,Int.ediv_one,Int.ediv_one]
 ·obtain ⟨h1,h2⟩:=hpos h
  rw [qf_mk h1 h2,hg]
@[go_sem] noncomputable def EQ2:Env:=(EQ1).add 34 qReduceS
theorem EQ2_ok:EQ2.Ok:=(EQ1_ok).add qReduce_ok
@[go_sem] def qNormS:Spec:=⟨[fT],fun d=>(.dat fT (qf (fq d.1)),[fs d.1<=5000000])⟩
theorem qNorm_ok:SpecOk Try.prog 20 qNormS:=by
 refine fn_ok EQ2_ok qNormS Try.func20 rfl (by decide) (N:=10) rfl (res:=[.cell 2 41]) rfl (by decide) [] [] [] 100 (by kernel_rfl) ?_
 rintro ⟨f,_⟩ hw hp
 refine ⟨rfl,fun H hH=>?_⟩
 dsimp only [go_sem] at hw hp ⊢
 have h:=pt_of hw.1 hp.1
 exact ⟨Nat.le_trans h.nl (by decide),Nat.le_trans h.dl (by decide),rfl,trivial⟩
@[go_sem] def qSignS:Spec:=⟨[fT],fun d=>(.dat (.int .i64) (sgQ (fq d.1)),[fs d.1<=5000000])⟩
theorem qSign_ok:SpecOk Try.prog 32 qSignS:=by
 refine fn_ok EQ2_ok qSignS Try.func32 rfl (by decide) (N:=15) rfl (res:=[.tmp 2]) rfl (by decide) [] [] [] 100 (by kernel_rfl) ?_
 rintro ⟨f,_⟩ hw hp
 refine ⟨rfl,fun H hH=>?_⟩
 dsimp only [go_sem] at hw hp ⊢
 have h:=pt_of hw.1 hp.1
 simp only [imp_self,true_and]
 refine ⟨Nat.le_trans h.nl (by decide),fun _=>Nat.le_trans h.dl (by decide),fun e=>⟨?_,trivial⟩,fun e=>?_⟩
 ·rw [Bool.or_eq_true,decide_eq_true_eq,decide_eq_true_eq,blen_z,blen_z] at e
  unfold fq
  rw [mk_zero e]; rfl
 ·rw [Bool.or_eq_false_iff,decide_eq_false_iff_not,decide_eq_false_iff_not,blen_z,blen_z] at e
  have h1:=h.n0
  have h2:=h.d0
  have hs:=sgQ_mk (neg:=f.1) (n:=N f.2.1) (d:=N f.2.2) (by omega) (by omega)
  unfold fq
  rw [hs]
  exact ⟨fun b=>by rw [b]; exact ⟨rfl,trivial⟩,fun b=>by rw [b]; exact ⟨rfl,trivial⟩⟩
@[go_sem] def qOppS:Spec:=⟨[fT],fun d=>(.dat fT ((!d.1.1,d.1.2.1,d.1.2.2):fT.den),[])⟩
theorem qOpp_ok:SpecOk Try.prog 81 qOppS:=by
 refine fn_ok EQ2_ok qOppS Try.func81 rfl (by decide) (N:=11) rfl (res:=[.cell 2 41]) rfl (by decide) [] [] [] 100 (by kernel_rfl) ?_
 rintro ⟨f,_⟩ hw hp
 refine ⟨rfl,fun H hH=>?_⟩
 dsimp only [go_sem] at hw hp ⊢
 exact ⟨rfl,trivial⟩
@[go_sem] noncomputable def EQ3:Env:=(((EQ2).add 20 qNormS).add 32 qSignS).add 81 qOppS
theorem EQ3_ok:EQ3.Ok:=(((EQ2_ok).add qNorm_ok).add qSign_ok).add qOpp_ok
@[go_sem] def qAddS:Spec:=⟨[fT,fT],fun d=>(.dat fT (qf (fq d.1+fq d.2.1)),[fs d.1<=5000000,fs d.2.1<=5000000])⟩
theorem qAdd_ok:SpecOk Try.prog 70 qAddS:=by
 refine fn_ok EQ3_ok qAddS Try.func70 rfl (by decide) (N:=84) rfl (res:=[.cell 4 41]) rfl (by decide) [] [] [] 100 (by kernel_rfl) ?_
 rintro ⟨f,g,_⟩ hw hp
 refine ⟨rfl,fun H hH=>?_⟩
 dsimp only [go_sem] at hw hp ⊢
 have hf:=pt_of hw.1 hp.1
 have hg:=pt_of hw.2.1 hp.2.1
 have b1:=bp_mul hf.n0 hf.nb hg.d0 hg.db
 have b2:=bp_mul hg.n0 hg.nb hf.d0 hf.db
 have b3:=bp_mul hf.d0 hf.db hg.d0 hg.db
 have p1:0<=N f.2.1*N g.2.2:=Int.mul_nonneg hf.n0 hg.d0
 have p2:0<=N g.2.1*N f.2.2:=Int.mul_nonneg hg.n0 hf.d0
 have p3:0<=N f.2.2*N g.2.2:=Int.mul_nonneg hf.d0 hg.d0
 have c1:(dg (N f.2.1*N g.2.2)).length<=16000000:=lenC p1 b1 (by decide)
 have c2:(dg (N g.2.1*N f.2.2)).length<=16000000:=lenC p2 b2 (by decide)
 have c3:(dg (N f.2.2*N g.2.2)).length<=16000000:=lenC p3 b3 (by decide)
 have k1:=Nat.le_trans hf.nl (show 5000000<=16000000 by decide)
 have k2:=Nat.le_trans hf.dl (show 5000000<=16000000 by decide)
 have k3:=Nat.le_trans hg.nl (show 5000000<=16000000 by decide)
 have k4:=Nat.le_trans hg.dl (show 5000000<=16000000 by decide)
 have s1:=Bp_dbl b1 b2
 have s2:=Bp_dbl hf.nb hg.nb
 have n1:=hf.n0
 have n2:=hg.n0
 rw [N_dg p1,N_dg p2,N_dg p3]
 have dif:∀ {x y:Int} {c:Nat},0<=x->0<=y->x<Bp c->c<=16000000->y<=x->(if y<=x then x-y else 0)=x-y/\(dg (x-y)).length<=16000000/\N (dg (x-y))=x-y:=fun {x y c} hx hy hb hc h=>⟨if_pos h,lenC (by omega) (show x-y<Bp c by omega) hc,N_dg (by omega)⟩
 refine ⟨hp.1,fun e=>⟨hp.2.1,?_,trivial⟩,fun e=>⟨hp.2.1,fun e2=>⟨hp.1,?_,trivial⟩,fun e2=>⟨k2,k4,fun e3=>⟨k1,k4,k3,k2,k2,k4,fun e4=>⟨c1,c2,lenC (by omega) s1 (by decide),c3,?_,trivial⟩,fun e4=>⟨c1,c2,fun e5=>?_,fun e5=>⟨c2,c1,?_⟩⟩⟩,fun e3=>⟨fun e4=>⟨k1,k3,lenC (by omega) s2 (by decide),k2,?_,trivial⟩,fun e4=>⟨k1,k3,fun e5=>?_,fun e5=>⟨k3,k1,?_⟩⟩⟩⟩⟩⟩<;>simp only [decide_eq_true_eq,decide_eq_false_iff_not] at e
 ·rw [sgQ_eq_zero.1 e,Rat.zero_add]
 ·rw [sgQ_eq_zero.1 (of_decide_eq_true e2),Rat.add_zero]
 all_goals have e2:sgQ (fq g)≠0:=of_decide_eq_false e2
 all_goals obtain ⟨f1,f2⟩:=mkz hf.n0 hf.d0 e
 all_goals obtain ⟨g1,g2⟩:=mkz hg.n0 hg.d0 e2
 ·have e4:f.1=g.1:=of_decide_eq_true e4
  rw [N_dg (by omega)]
  unfold fq
  rw [mk_scale (p:=f.1) (a:=N f.2.1) f2 g2,mk_scale (p:=g.1) (a:=N g.2.1) g2 f2,Int.mul_comm (N g.2.2) (N f.2.2),<-e4,mk_plus (Int.mul_pos f2 g2)]
 ·have e4:f.1≠g.1:=of_decide_eq_false e4
  obtain ⟨q1,q2,q3⟩:=dif p1 p2 b1 (by decide) (of_decide_eq_true e5)
  rw [q1,q3]
  refine ⟨q2,c3,?_,trivial⟩
  unfold fq
  rw [mk_scale (p:=f.1) (a:=N f.2.1) f2 g2,mk_scale (p:=g.1) (a:=N g.2.1) g2 f2,Int.mul_comm (N g.2.2) (N f.2.2),(mk_minus (Int.mul_pos f2 g2) e4).1]
 ·have e4:f.1≠g.1:=of_decide_eq_false e4
  have e5:¬N g.2.1*N f.2.2<=N f.2.1*N g.2.2:=of_decide_eq_false e5
  obtain ⟨q1,q2,q3⟩:=dif p2 p1 b2 (by decide) (by omega)
  rw [q1,q3]
  refine ⟨q2,c3,?_,trivial⟩
  unfold fq
  rw [mk_scale (p:=f.1) (a:=N f.2.1) f2 g2,mk_scale (p:=g.1) (a:=N g.2.1) g2 f2,Int.mul_comm (N g.2.2) (N f.2.2),(mk_minus (Int.mul_pos f2 g2) e4).2]
 all_goals have e3:cmpI (N f.2.2) (N g.2.2)=0:=Decidable.not_not.1 (of_decide_eq_false e3)
 all_goals have e6:N f.2.2=N g.2.2:=cmpI_eq0 e3
 ·have e4:f.1=g.1:=of_decide_eq_true e4
  rw [N_dg (by omega)]
  unfold fq
  rw [<-e4,<-e6,mk_plus f2]
 ·have e4:f.1≠g.1:=of_decide_eq_false e4
  obtain ⟨q1,q2,q3⟩:=dif n1 n2 hf.nb (by decide) (of_decide_eq_true e5)
  rw [q1,q3]
  refine ⟨q2,k2,?_,trivial⟩
  unfold fq
  rw [<-e6,(mk_minus f2 e4).1]
 ·have e4:f.1≠g.1:=of_decide_eq_false e4
  have e5:¬N g.2.1<=N f.2.1:=of_decide_eq_false e5
  obtain ⟨q1,q2,q3⟩:=dif n2 n1 hg.nb (by decide) (by omega)
  rw [q1,q3]
  refine ⟨q2,k2,?_,trivial⟩
  unfold fq
  rw [<-e6,(mk_minus f2 e4).2]
@[go_sem] noncomputable def EQ4:Env:=(EQ3).add 70 qAddS
theorem EQ4_ok:EQ4.Ok:=(EQ3_ok).add qAdd_ok
@[go_sem] def qSubS:Spec:=⟨[fT,fT],fun d=>(.dat fT (qf (fq d.1-fq d.2.1)),[fs d.1<=5000000,fs d.2.1<=5000000])⟩
theorem qSub_ok:SpecOk Try.prog 68 qSubS:=by
 refine fn_ok EQ4_ok qSubS Try.func68 rfl (by decide) (N:=9) rfl (res:=[.cell 4 41]) rfl (by decide) [] [] [] 100 (by kernel_rfl) ?_
 rintro ⟨f,g,_⟩ hw hp
 refine ⟨rfl,fun H hH=>?_⟩
 dsimp only [go_sem] at hw hp ⊢
 refine ⟨hp.1,hp.2.1,?_,trivial⟩
 have e:fq (!g.1,g.2) = -fq g:=by unfold fq; rw [mk_neg]
 rw [e,Rat.sub_eq_add_neg]
@[go_sem] noncomputable def EQ5:Env:=(EQ4).add 68 qSubS
theorem EQ5_ok:EQ5.Ok:=(EQ4_ok).add qSub_ok
@[go_sem] def qComplS:Spec:=⟨[fT],fun d=>(.dat fT (qf (1-fq d.1)),[fs d.1<=5000000])⟩
theorem qCompl_ok:SpecOk Try.prog 54 qComplS:=by
 refine fn_ok EQ5_ok qComplS Try.func54 rfl (by decide) (N:=6) rfl (res:=[.cell 2 41]) rfl (by decide) [] [] [] 100 (by kernel_rfl) ?_
 rintro ⟨f,_⟩ hw hp
 refine ⟨rfl,fun H hH=>?_⟩
 dsimp only [go_sem] at hw hp ⊢
 refine ⟨Nat.le_trans (show fs (qf 1)<=1 by rw [qf_o]; decide +kernel) (by decide),hp.1,?_,trivial⟩
 rw [fq_qf]
@[go_sem] def rSizeS:Spec:=⟨[.int .i64],fun d=>(.dat nT (dg (d.1.natAbs:Int)),[])⟩
theorem rSize_ok:SpecOk Try.prog 30 rSizeS:=by
 refine fn_ok EQ5_ok rSizeS Try.func30 rfl (by decide) (N:=14) rfl (res:=[.tmp 2]) rfl (by decide) [] [] [] 100 (by kernel_rfl) ?_
 rintro ⟨(n:Int),_⟩ hw hp
 refine ⟨rfl,fun H hH=>?_⟩
 dsimp only [go_sem] at hw hp ⊢
 simp only [inR,lo,hi] at hw ⊢
 refine ⟨fun h=>⟨by have:=of_decide_eq_true h; omega,by have:=of_decide_eq_true h; omega,by have:=of_decide_eq_true h; omega,by have:=of_decide_eq_true h; omega,?_,trivial⟩,fun h=>⟨by have:=of_decide_eq_false h; omega,?_,trivial⟩⟩
 ·have h:n<0:=of_decide_eq_true h
  congr 1; omega
 ·have h:¬n<0:=of_decide_eq_false h
  congr 1; omega
@[go_sem] def rFracS:Spec:=⟨[.bool,nT,nT],fun d=>(.dat fT (qf (mk d.1 (N d.2.1) (N d.2.2.1))),[d.2.1.length<=16000000,d.2.2.1.length<=16000000])⟩
theorem rFrac_ok:SpecOk Try.prog 29 rFracS:=by
 refine fn_ok EQ5_ok rFracS Try.func29 rfl (by decide) (N:=49) rfl (res:=[.cell 6 41]) rfl (by decide) [] [] [] 100 (by kernel_rfl) ?_
 rintro ⟨b,n,d,_⟩ hw hp
 refine ⟨rfl,fun H hH=>?_⟩
 dsimp only [go_sem] at hw hp ⊢
 obtain ⟨-,hn,hd,-⟩:=hw
 obtain ⟨hp1,hp2,-⟩:=hp
 have n0:=dsN hn
 have d0:=dsN hd
 have g0:0<=gcdI (N n) (N d):=Int.natCast_nonneg _
 have g1:(dg (gcdI (N n) (N d))).length<=16000000:=lenC g0 (gcdI_le2 n0 d0 (N_ltc hn hp1) (N_ltc hd hp2)) (Nat.le_refl _)
 have hz:∀ x:Int,0<=x->(((dg x).length:Int)=0↔x=0):=fun x hx=>by
  have h:=(canon_dg x).zero
  rw [N_dg hx] at h
  rw [h,<-List.length_eq_zero_iff]
  omega
 rw [N_dg g0]
 simp only [imp_self,true_and]
 refine ⟨hp1,hp2,hp1,g1,hp2,g1,fun h=>⟨?_,trivial⟩,fun h=>⟨?_,trivial⟩⟩
 ·rw [Bool.or_eq_true,Bool.or_eq_true,Bool.not_eq_true',decide_eq_false_iff_not,decide_eq_true_eq,decide_eq_true_eq,hz _ (Int.ediv_nonneg n0 g0),hz _ (Int.ediv_nonneg d0 g0),Decidable.not_not] at h
  have:N n=0∨N d=0:=by
   refine Decidable.byContradiction fun e=>?_
   obtain ⟨h1,h2,h3,h4,h5⟩:=mk_parts (neg:=b) (n:=N n) (d:=N d) (by omega) (by omega)
   omega
  rw [mk_zero this,qf_z]
 ·rw [Bool.or_eq_false_iff,Bool.or_eq_false_iff,Bool.not_eq_false',decide_eq_true_eq,decide_eq_false_iff_not,decide_eq_false_iff_not,hz _ (Int.ediv_nonneg n0 g0),hz _ (Int.ediv_nonneg d0 g0)] at h
  have hn:N n≠0:=fun e=>h.1.2 (by rw [e,Int.zero_ediv])
  have hd:N d≠0:=fun e=>h.2 (by rw [e,Int.zero_ediv])
  rw [qf_mk (by omega) (by omega)]
@[go_sem] noncomputable def EQ6:Env:=((EQ5).add 30 rSizeS).add 29 rFracS
theorem EQ6_ok:EQ6.Ok:=((EQ5_ok).add rSize_ok).add rFrac_ok
@[go_sem] def rFNormS:Spec:=⟨[fT],fun d=>(.dat fT (qf (fq d.1)),[fs d.1<=5000000])⟩
theorem rFNorm_ok:SpecOk Try.prog 58 rFNormS:=by
 refine fn_ok EQ6_ok rFNormS Try.func58 rfl (by decide) (N:=10) rfl (res:=[.cell 2 41]) rfl (by decide) [] [] [] 100 (by kernel_rfl) ?_
 rintro ⟨f,_⟩ hw hp
 refine ⟨rfl,fun H hH=>?_⟩
 dsimp only [go_sem] at hw hp ⊢
 have h:=pt_of hw.1 hp.1
 exact ⟨Nat.le_trans h.nl (by decide),Nat.le_trans h.dl (by decide),rfl,trivial⟩
@[go_sem] def rFNegS:Spec:=⟨[fT],fun d=>(.dat fT (qf (-fq d.1)),[fs d.1<=5000000])⟩
theorem rFNeg_ok:SpecOk Try.prog 84 rFNegS:=by
 refine fn_ok EQ6_ok rFNegS Try.func84 rfl (by decide) (N:=11) rfl (res:=[.cell 2 41]) rfl (by decide) [] [] [] 100 (by kernel_rfl) ?_
 rintro ⟨f,_⟩ hw hp
 refine ⟨rfl,fun H hH=>?_⟩
 dsimp only [go_sem] at hw hp ⊢
 have h:=pt_of hw.1 hp.1
 refine ⟨Nat.le_trans h.nl (by decide),Nat.le_trans h.dl (by decide),?_,trivial⟩
 unfold fq
 rw [mk_neg]
@[go_sem] def rFSameS:Spec:=⟨[fT,fT],fun d=>(.dat .bool (decide (d.1.1=d.2.1.1/\d.1.2.1=d.2.1.2.1/\d.1.2.2=d.2.1.2.2)),[])⟩
theorem rFSame_ok:SpecOk Try.prog 21 rFSameS:=by
 refine fn_ok EQ6_ok rFSameS Try.func21 rfl (by decide) (N:=24) rfl (res:=[.tmp 4]) rfl (by decide) [] [] [] 100 (by kernel_rfl) ?_
 rintro ⟨f,g,_⟩ hw hp
 refine ⟨rfl,fun H hH=>?_⟩
 dsimp only [go_sem] at hw hp ⊢
 simp only [imp_self,true_and]
 refine ⟨?_,trivial⟩
 rw [Bool.decide_and,Bool.decide_and,Bool.and_assoc]
@[go_sem] def rFNewS:Spec:=⟨[.int .i64,.int .i64],fun d=>(.tup (.cons (.dat fT (if d.2.1=(0:Int) then f0 else qf (Rat.divInt d.1 d.2.1))) (.cons (.dat (.int .i64) (if d.2.1=(0:Int) then 20 else 0)) .nil)),[])⟩
theorem rFNew_ok:SpecOk Try.prog 15 rFNewS:=by
 refine fn_ok EQ6_ok rFNewS Try.func15 rfl (by decide) (N:=19) rfl (res:=[.cell 4 41,.tmp 5]) rfl (by decide) [] [] [] 100 (by kernel_rfl) ?_
 rintro ⟨(n:Int),(d:Int),_⟩ hw hp
 refine ⟨rfl,fun H hH=>?_⟩
 dsimp only [go_sem] at hw hp ⊢
 have hl:∀ x:Int,inR .i64 x->(dg (x.natAbs:Int)).length<=16000000:=fun x hx=>by
  simp only [inR,lo,hi] at hx
  have h2:Bp 2=18446744073709551616:=by decide
  exact lenC (c:=2) (by omega) (by omega) (by decide)
 refine ⟨fun h=>?_,fun h=>⟨hl n hw.1,hl d hw.2.1,rfl,rfl,?_,rfl,?_,trivial⟩⟩
 ·have h:d=0:=of_decide_eq_true h
  rw [if_pos h,if_pos h]
  exact ⟨rfl,rfl,rfl,rfl,rfl,trivial⟩
 ·have h:d≠0:=of_decide_eq_false h
  rw [if_neg h,N_dg (by omega),N_dg (by omega),<-mk_new h]
  congr 2
  cases decide (n<0)<;>cases decide (d<0)<;>rfl
 ·have h:d≠0:=of_decide_eq_false h
  rw [if_neg h]
@[go_sem] noncomputable def EQ7:Env:=((((EQ6).add 58 rFNormS).add 84 rFNegS).add 21 rFSameS).add 15 rFNewS
theorem EQ7_ok:EQ7.Ok:=((((EQ6_ok).add rFNorm_ok).add rFNeg_ok).add rFSame_ok).add rFNew_ok
@[go_sem] noncomputable def E3:Env:=(EQ7).add 54 qComplS
theorem E3_ok:E3.Ok:=(EQ7_ok).add qCompl_ok
end Go.Proofs.Ytbokoblnehgkaaa.Gx
namespace Go.Proofs.Ytbokoblnehgkaaa.Gx
open Go Go.RowKit Tw B Nt
set_option linter.unusedVariables false
attribute [simp] fq_qf
def qs (q:Rat):Nat:=fs (qf q)
theorem fs_qf (q:Rat):fs (qf q)=qs q:=rfl
theorem qs_le {q:Rat} {c:Nat} (h:Qb c q):qs q<=c:=by
 unfold qs fs qf
 exact Nat.max_le.2 ⟨dg_len (by omega) h.1,dg_len (by omega) h.2⟩
theorem Bp_lt {l:List Int} {n:Int} (h:Canon l) (hn:N l=n) {c:Nat} (hc:l.length<=c):n<Bp c:=by
 rw [<-hn]; exact Int.lt_of_lt_of_le (N_lt h.1) (Bp_mono hc)
theorem Qb_qs (q:Rat):Qb (qs q) q:=by
 unfold qs fs qf
 exact ⟨Bp_lt (canon_dg _) (N_dg (by omega)) (Nat.le_max_left _ _),Bp_lt (canon_dg _) (N_dg (by omega)) (Nat.le_max_right _ _)⟩
theorem qs_pos (q:Rat):1<=qs q:=by
 rcases Nat.eq_zero_or_pos (qs q) with h|h
 ·have:=(Qb_qs q).2
  rw [h] at this
  have h1:Bp 0=1:=rfl
  rw [h1] at this
  have:=q.den_pos
  omega
 ·exact h
theorem qs_add (p q:Rat):qs (p+q)<=qs p+qs q+1:=qs_le ((Qb_qs p).add (Qb_qs q))
theorem qs_sub (p q:Rat):qs (p-q)<=qs p+qs q+1:=qs_le ((Qb_qs p).sub (Qb_qs q))
theorem qs_mul (p q:Rat):qs (p*q)<=qs p+qs q:=qs_le ((Qb_qs p).mul (Qb_qs q) (qs_pos p))
theorem qs_neg (p:Rat):qs (-p)<=qs p:=qs_le (Qb_qs p).neg
theorem qs_zero:qs 0<=1:=qs_le Qb.zero
theorem qs_one:qs 1<=1:=qs_le Qb.one
theorem N_lt' {l:List Int} (h:Ds l) {c:Nat} (hc:l.length<=c):N l<Bp c:=Int.lt_of_lt_of_le (N_lt h) (Bp_mono hc)
def Fd (f:fT.den):Prop:=Ds f.2.1/\Ds f.2.2
theorem qs_fq {f:fT.den} (h:Fd f):qs (fq f)<=fs f+1:=by
 refine qs_le (mk_b (N_nonneg h.1) (N_lt' h.1 ?_) (N_lt' h.2 ?_) (by omega))
 ·have:=Nat.le_max_left f.2.1.length f.2.2.length; unfold fs; omega
 ·have:=Nat.le_max_right f.2.1.length f.2.2.length; unfold fs; omega
theorem qf_num (q:Rat):(qf q).2.1.length=0↔q=0:=by
 have h1:=(canon_dg (q.num.natAbs:Int)).zero
 rw [N_dg (by omega)] at h1
 show (dg (q.num.natAbs:Int)).length=0↔q=0
 rw [List.length_eq_zero_iff,<-h1,<-Rat.num_eq_zero]
 omega
theorem qf_neg (q:Rat):(qf q).1=decide (q.num<0):=rfl
theorem N_num (q:Rat):N (qf q).2.1=(q.num.natAbs:Int):=N_dg (by omega)
theorem N_den (q:Rat):N (qf q).2.2=(q.den:Int):=N_dg (by omega)
theorem len_num (q:Rat):(qf q).2.1.length<=qs q:=Nat.le_max_left _ _
theorem len_den (q:Rat):(qf q).2.2.length<=qs q:=Nat.le_max_right _ _
theorem ds_dg (n:Int):Ds (dg n):=(canon_dg n).1
theorem ds_num (q:Rat):Ds (qf q).2.1:=ds_dg _
theorem ds_den (q:Rat):Ds (qf q).2.2:=ds_dg _
theorem dg_mul {l k:List Int} (hl:Ds l) (hk:Ds k):(dg (N l*N k)).length<=l.length+k.length:=by
 refine dg_len (Int.mul_nonneg (N_nonneg hl) (N_nonneg hk)) ?_
 rw [Bp_add]
 have h1:=N_lt hl
 have h2:=N_lt hk
 have h3:=N_nonneg hl
 have h4:=N_nonneg hk
 have h5:=Int.mul_le_mul_of_nonneg_left (show N k<=Bp k.length by omega) h3
 have h6:=Int.mul_lt_mul_of_pos_right h1 (show 0<Bp k.length by have:=Bp_pos k.length; omega)
 omega
theorem dg_add {l k:List Int} (hl:Ds l) (hk:Ds k):(dg (N l+N k)).length<=l.length+k.length+1:=by
 refine dg_len (by have:=N_nonneg hl; have:=N_nonneg hk; omega) ?_
 have h1:=N_lt hl
 have h2:=N_lt hk
 have h3:=Bp_mono (show l.length<=l.length+k.length by omega)
 have h4:=Bp_mono (show k.length<=l.length+k.length by omega)
 have h5:=Bp_add (l.length+k.length) 1
 have h6:Bp 1=4294967296:=by decide
 have h7:=Bp_pos (l.length+k.length)
 rw [h6] at h5
 omega
theorem dg_mono {a b:Int} (h0:0<=a) (h:a<=b):(dg a).length<=(dg b).length:=by
 refine dg_len h0 ?_
 have:=N_lt (canon_dg b).1
 rw [N_dg (by omega)] at this
 omega
theorem dg_small {n:Int} (h0:0<=n) (h:n<18446744073709551616):(dg n).length<=2:=by
 have e:Bp 2=18446744073709551616:=by decide
 exact dg_len h0 (by rw [e]; exact h)
theorem fadd_eq (X Y:Rat):X+Y=mkRat (sg (decide (X.num<0)) (X.num.natAbs:Int)*(Y.den:Int)+sg (decide (Y.num<0)) (Y.num.natAbs:Int)*(X.den:Int)) (X.den*Y.den):=by
 have:=mk_add (decide (X.num<0)) (decide (Y.num<0)) (X.num.natAbs:Int) (X.den:Int) (Y.num.natAbs:Int) (Y.den:Int) (by have:=X.den_pos; omega) (by have:=Y.den_pos; omega)
 rw [mk_self,mk_self] at this
 rw [this]
 simp
theorem inR_i64 {n:Int}:inR .i64 n↔-9223372036854775808<=n/\n<=9223372036854775807:=Iff.rfl
end Go.Proofs.Ytbokoblnehgkaaa.Gx
