/-
  R5, R6, I3, V2, in one text: see the remarks at the head of each part.
-/
import Derived.Test.YtdobkkhncfifeacGreatMR1
namespace Go.Proofs.YtdobkkhncfifeacGreat.Gx
open Go Go.RowKit Tw B Nt
set_option linter.unusedVariables false
set_option linter.unusedSimpArgs false
set_option maxHeartbeats 4000000
set_option maxRecDepth 20000
def tz:Tup:=([],false,[],[])
def relP (r:Rel):Prop:=r.1.2.2.length<=1000/\r.2.length<=400/\∀ t∈r.2,t.1.length<=1000/\fs t.2<=1000
def fdR:Option Nat->Int×Bool
 | some i=>((i:Int),true)
 | none=>(0,false)
def eqV (v:List Val) (t:Tup):Bool:=decide (cT t.1 v=0)
theorem fi_at {α:Type} {p:α->Bool} {l:List α} {i:Nat} (d:α) (hi:i<l.length) (h:p (l.getD i d)=true) (h':∀ j,j<i->p (l.getD j d)=false):l.findIdx? p=some i:=by
 rw [List.findIdx?_eq_some_iff_getElem]
 refine ⟨hi,?_,fun j hj=>?_⟩
 ·rw [List.getD_eq_getElem?_getD,List.getElem?_eq_getElem hi] at h; exact h
 ·have:=h' j hj
  rw [List.getD_eq_getElem?_getD,List.getElem?_eq_getElem (by omega)] at this
  simpa using this
theorem fi_none {α:Type} {p:α->Bool} {l:List α} (d:α) (h:∀ j,j<l.length->p (l.getD j d)=false):l.findIdx? p=none:=by
 rw [List.findIdx?_eq_none_iff]
 intro x hx
 obtain ⟨j,hj,e⟩:=List.mem_iff_getElem.1 hx
 have:=h j hj
 rw [List.getD_eq_getElem?_getD,List.getElem?_eq_getElem hj] at this
 rw [<-e]; exact this
@[go_sem] noncomputable def ER6:Env:=((((ER5).add 34 rvctS).add 77 keyS).add 89 rkeyS).add 88 hkyS
theorem ER6_ok:ER6.Ok:=((((ER5_ok).add rvct_ok).add key_ok).add rkey_ok).add hky_ok
@[go_sem] def rfndS:Spec:=⟨[relT,.slice valT],fun d=>(.tup (.cons (.dat (.int .i64) (fdR (List.findIdx? (eqV d.2.1) d.1.2)).1) (.cons (.dat .bool (fdR (List.findIdx? (eqV d.2.1) d.1.2)).2) .nil)),[relP d.1,List.length d.2.1<=1000])⟩
theorem rfnd_ok:SpecOk Tryz.prog 33 rfndS:=by
 refine fn_ok ER6_ok rfndS Tryz.func33 rfl (by decide) (N:=24) rfl (res:=[.tmp 4,.tmp 5]) rfl (by decide) [] [] [] 100 (by kernel_rfl) ?_
 rintro ⟨r,v,_⟩ hw hp
 refine ⟨rfl,fun H hH=>?_⟩
 dsimp only [go_sem] at hw hp ⊢
 obtain ⟨hp,hv,-⟩:=hp
 obtain ⟨s,l⟩:=r
 change List Tup at l
 change List Val at v
 obtain ⟨hp1,hp2,hp3⟩:=hp
 change l.length<=400 at hp2
 change v.length<=1000 at hv
 clear hw
 refine hH.loop (fun i:Nat=>⟨[(6,.dat (.int .i64) (i:Int)),(1,.dat (.slice valT) v),(2,.ref 0 0)],[(0,.box 30 (.cons (.dat .str s.1) (.cons (.dat .bool s.2.1) (.cons (.dat (.slice colT) s.2.2) (.cons (.dat (.slice tupT) l) .nil)))))],1⟩) (fun i=>i<=l.length/\∀ j,j<i->eqV v (l.getD j tz)=false) (fun i=>l.length-i) 0 1 ⟨Nat.zero_le _,fun j h=>absurd h (Nat.not_lt_zero _)⟩ ?_ ?_
 ·dsimp only [go_sem]
  and_intros<;>first|trivial|rfl|omega
 ·rintro i ⟨hi,hz⟩ R hm
  refine hH.run 100 _ _ ?_
  dsimp only [go_sem]
  simp only [Int.toNat_natCast]
  have hzt:∀ j,l.getD j (zd tupT)=l.getD j tz:=fun _=>rfl
  refine ⟨fun d=>?_,fun d=>?_⟩<;>simp only [decide_eq_true_eq,decide_eq_false_iff_not] at d
  ·have d:i<l.length:=by omega
   have hb:(0:Int)<=(i:Int)/\(i:Int)<(l.length:Int):=by omega
   have hi1:inR .i64 ((i:Int)+1):=by rw [inR_i64]; omega
   have ht:(l.getD i tz).1.length<=1000/\fs (l.getD i tz).2<=1000:=hp3 _ (getDm tz d)
   have hpr:(l.getD i tz).1.length<=1000000/\v.length<=1000000:=by omega
   have he:eqV v (l.getD i tz)=decide (cT (l.getD i tz).1 v=0):=rfl
   simp only [hzt]
   refine ⟨hb,hpr,fun e=>?_,fun e=>⟨hi1,hm _ (i+1) 1 ⟨d,fun j hj=>?_⟩ (by omega) ?_⟩⟩
   ·have hf:l.findIdx? (eqV v)=some i:=fi_at tz d (by rw [he]; exact e) hz
    rw [hf]
    and_intros<;>first|trivial|rfl
   ·rcases Nat.lt_or_ge j i with h'|h'
    ·exact hz j h'
    ·have:j=i:=by omega
     rw [this,he]; exact e
   ·dsimp only [go_sem]
    and_intros<;>first|trivial|rfl|omega
  ·have d:i=l.length:=by omega
   subst d
   have hf:l.findIdx? (eqV v)=none:=fi_none tz hz
   rw [hf]
   and_intros<;>first|trivial|rfl
def bkG (r:Rel) (k:List Val) (n:Nat):List Int:=((List.range n).filter fun i=>decide (cT (keyL r.1.2.2 (r.2.getD i tz).1) k=0)).map fun i:Nat=>(i:Int)
def accF (q:Rat) (i:Nat):Frc:=match i with|0=>(false,[],[])|_+1=>qf q
theorem accF_fs {q:Rat} {i:Nat} (h:qs q<=900000):fs (accF q i)<=900000:=by
 cases i with
 | zero=>exact Nat.zero_le _
 | succ n=>show fs (qf q)<=_; rw [fs_qf]; exact h
theorem accF_fq {q:Rat} {i:Nat} (h:i=0->q=0):fq (accF q i)=q:=by
 cases i with
 | zero=>rw [h rfl]; rfl
 | succ n=>exact fq_qf q
def bkO (r:Rel) (v:List Val):List Int:=if (keyL r.1.2.2 v).length=0 then [] else bkG r (keyL r.1.2.2 v) r.2.length
def sumQ (l:List Tup) (b:List Int):Rat:=qsum (b.map fun i=>(l.getD i.toNat tz).2)
@[go_sem] def sumS:Spec:=⟨[relT,.slice (.int .i64)],fun d=>(.dat fT (qf (sumQ d.1.2 d.2.1)),[relP d.1,List.length d.2.1<=400,∀ i∈(d.2.1:List Int),0<=i/\i<(List.length d.1.2:Int)])⟩
theorem sum_ok:SpecOk Tryz.prog 42 sumS:=by
 refine fn_ok ER6_ok sumS Tryz.func42 rfl (by decide) (N:=25) rfl (res:=[.cell 4 48]) rfl (by decide) [] [] [] 100 (by kernel_rfl) ?_
 rintro ⟨r,b,_⟩ hw hp
 refine ⟨rfl,fun H hH=>?_⟩
 dsimp only [go_sem] at hw hp ⊢
 obtain ⟨hp,hb1,hb2,-⟩:=hp
 obtain ⟨s,l⟩:=r
 change List Tup at l
 obtain ⟨hp1,hp2,hp3⟩:=hp
 change l.length<=400 at hp2
 change List Int at b
 change b.length<=400 at hb1
 change ∀ i∈b,0<=i/\i<(l.length:Int) at hb2
 have hwl:∀ t∈l,wfD tupT t:=hw.1.2.2
 clear hw
 have hfl:∀ f∈b.map (fun i=>(l.getD i.toNat tz).2),wfD fT f/\fs f<=1000:=by
  intro f hf
  obtain ⟨i,hi,rfl⟩:=List.mem_map.1 hf
  have hb:=hb2 i hi
  have hm:=getDm tz (show i.toNat<l.length by omega)
  exact ⟨(hwl _ hm).2,(hp3 _ hm).2⟩
 have hqs:=qs_bs (fun f hf=>(hfl f hf).1) (fun f hf=>(hfl f hf).2)
 have hqn:∀ i,i<b.length->qsum ((b.map (fun i=>(l.getD i.toNat tz).2)).take (i+1))=qsum ((b.map (fun i=>(l.getD i.toNat tz).2)).take i)+fq (l.getD (b.getD i 0).toNat tz).2:=by
  intro i hi
  have e:(b.map (fun i=>(l.getD i.toNat tz).2)).getD i (zd fT)=(l.getD (b.getD i 0).toNat tz).2:=by
   rw [List.getD_eq_getElem?_getD,List.getElem?_map,List.getElem?_eq_getElem hi,List.getD_eq_getElem?_getD (l:=b),List.getElem?_eq_getElem hi]; rfl
  rw [take_get _ i (zd fT) (by rw [List.length_map]; exact hi),qsum_snoc,e]
 have hq0:sumQ l b=qsum ((b.map (fun i=>(l.getD i.toNat tz).2)).take b.length):=by
  unfold sumQ; rw [List.take_of_length_le (by rw [List.length_map]; exact Nat.le_refl _)]
 have hsl:∀ i,i<b.length->fs (l.getD (b.getD i 0).toNat tz).2<=1000:=fun i hi=>by
  have:0<=b.getD i 0/\b.getD i 0<(l.length:Int):=hb2 _ (getDm 0 hi)
  have h:(b.getD i 0).toNat<l.length:=by omega
  exact (hp3 (l.getD (b.getD i 0).toNat tz) (getDm tz h)).2
 have hbl:∀ i,i<b.length->0<=b.getD i 0/\b.getD i 0<(l.length:Int):=fun i hi=>hb2 _ (getDm 0 hi)
 show H _ _
 generalize hQ:(fun i=>qsum ((b.map (fun i=>(l.getD i.toNat tz).2)).take i))=Q at *
 have hQi:∀ i,qsum ((b.map (fun i=>(l.getD i.toNat tz).2)).take i)=Q i:=fun i=>by rw [<-hQ]
 have hQ0:Q 0=0:=by rw [<-hQ]; rfl
 simp only [hQi] at hqn hq0
 rw [List.length_map] at hqs
 simp only [hQi] at hqs
 refine hH.loop (fun i:Nat=>⟨[(10,.dat (.int .i64) (i:Int)),(9,.dat (.int .i64) (b.length:Int)),(8,.dat (.slice (.int .i64)) b),(5,.ref 2 0),(4,.ref 1 0),(2,.ref 0 0)],[(0,.box 30 (.cons (.dat .str s.1) (.cons (.dat .bool s.2.1) (.cons (.dat (.slice colT) s.2.2) (.cons (.dat (.slice tupT) l) .nil))))),(1,.box 48 (zA fT .nil)),(2,.box 48 (dA fT (accF (Q i) i) .nil))],3⟩) (fun i=>i<=b.length) (fun i=>b.length-i) 0 3 (Nat.zero_le _) ?_ ?_
 ·dsimp only [go_sem]
  rw [hQ0]
  and_intros<;>first|trivial|rfl|omega
 ·intro i hi R hm
  refine hH.run 100 _ _ ?_
  dsimp only [go_sem]
  simp only [Int.toNat_natCast]
  have hzt:∀ j,l.getD j (zd tupT)=l.getD j tz:=fun _=>rfl
  have hzi:∀ j,b.getD j (zd (.int .i64))=b.getD j 0:=fun _=>rfl
  have hqi:=(hqs i hi).1
  refine ⟨fun d=>?_,fun d=>?_⟩<;>simp only [decide_eq_true_eq,decide_eq_false_iff_not] at d
  ·have d:i<b.length:=by omega
   have hb:(0:Int)<=(i:Int)/\(i:Int)<(b.length:Int):=by omega
   have hi1:inR .i64 ((i:Int)+1):=by rw [inR_i64]; omega
   have he:=hsl i d
   have hm:=hm
   have hn:=hqn i d
   simp only [hzt,hzi]
   have hac:fs (accF (Q i) i)<=900000:=accF_fs (by omega)
   have hac':fq (accF (Q i) i)=Q i:=accF_fq (fun e=>by rw [e]; exact hQ0)
   rw [hac',<-hn]
   exact ⟨hb,hbl i d,by omega,by omega,hi1,hm _ (i+1) 3 d (by omega) (by dsimp only [go_sem,accF]; and_intros<;>first|trivial|rfl|omega)⟩
  ·have d:i=b.length:=by omega
   subst d
   have hac:fs (accF (Q b.length) b.length)<=900000:=accF_fs (by omega)
   have hac':fq (accF (Q b.length) b.length)=Q b.length:=accF_fq (fun e=>by rw [e]; exact hQ0)
   rw [hac',hq0]
   exact ⟨by omega,rfl,trivial⟩
@[go_sem] def rsumS:Spec:=⟨[relT,.slice (.int .i64)],fun d=>(.dat fT (qf (sumQ d.1.2 d.2.1)),[relP d.1,List.length d.2.1<=400,∀ i∈(d.2.1:List Int),0<=i/\i<(List.length d.1.2:Int)])⟩
theorem rsum_ok:SpecOk Tryz.prog 47 rsumS:=by
 refine fn_ok ER6_ok rsumS Tryz.func47 rfl (by decide) (N:=26) rfl (res:=[.cell 4 48]) rfl (by decide) [] [] [] 100 (by kernel_rfl) ?_
 rintro ⟨r,b,_⟩ hw hp
 refine ⟨rfl,fun H hH=>?_⟩
 dsimp only [go_sem] at hw hp ⊢
 obtain ⟨hp,hb1,hb2,-⟩:=hp
 obtain ⟨s,l⟩:=r
 change List Tup at l
 obtain ⟨hp1,hp2,hp3⟩:=hp
 change l.length<=400 at hp2
 change List Int at b
 change b.length<=400 at hb1
 change ∀ i∈b,0<=i/\i<(l.length:Int) at hb2
 have hwl:∀ t∈l,wfD tupT t:=hw.1.2.2
 clear hw
 have hfl:∀ f∈b.map (fun i=>(l.getD i.toNat tz).2),wfD fT f/\fs f<=1000:=by
  intro f hf
  obtain ⟨i,hi,rfl⟩:=List.mem_map.1 hf
  have hb:=hb2 i hi
  have hm:=getDm tz (show i.toNat<l.length by omega)
  exact ⟨(hwl _ hm).2,(hp3 _ hm).2⟩
 have hqs:=qs_bs (fun f hf=>(hfl f hf).1) (fun f hf=>(hfl f hf).2)
 have hqn:∀ i,i<b.length->qsum ((b.map (fun i=>(l.getD i.toNat tz).2)).take (i+1))=qsum ((b.map (fun i=>(l.getD i.toNat tz).2)).take i)+fq (l.getD (b.getD i 0).toNat tz).2:=by
  intro i hi
  have e:(b.map (fun i=>(l.getD i.toNat tz).2)).getD i (zd fT)=(l.getD (b.getD i 0).toNat tz).2:=by
   rw [List.getD_eq_getElem?_getD,List.getElem?_map,List.getElem?_eq_getElem hi,List.getD_eq_getElem?_getD (l:=b),List.getElem?_eq_getElem hi]; rfl
  rw [take_get _ i (zd fT) (by rw [List.length_map]; exact hi),qsum_snoc,e]
 have hq0:sumQ l b=qsum ((b.map (fun i=>(l.getD i.toNat tz).2)).take b.length):=by
  unfold sumQ; rw [List.take_of_length_le (by rw [List.length_map]; exact Nat.le_refl _)]
 have hsl:∀ i,i<b.length->fs (l.getD (b.getD i 0).toNat tz).2<=1000:=fun i hi=>by
  have:0<=b.getD i 0/\b.getD i 0<(l.length:Int):=hb2 _ (getDm 0 hi)
  have h:(b.getD i 0).toNat<l.length:=by omega
  exact (hp3 (l.getD (b.getD i 0).toNat tz) (getDm tz h)).2
 have hbl:∀ i,i<b.length->0<=b.getD i 0/\b.getD i 0<(l.length:Int):=fun i hi=>hb2 _ (getDm 0 hi)
 show H _ _
 generalize hQ:(fun i=>qsum ((b.map (fun i=>(l.getD i.toNat tz).2)).take i))=Q at *
 have hQi:∀ i,qsum ((b.map (fun i=>(l.getD i.toNat tz).2)).take i)=Q i:=fun i=>by rw [<-hQ]
 have hQ0:Q 0=0:=by rw [<-hQ]; rfl
 simp only [hQi] at hqn hq0
 rw [List.length_map] at hqs
 simp only [hQi] at hqs
 refine hH.loop (fun i:Nat=>⟨[(6,.dat (.int .i64) (i:Int)),(1,.dat (.slice (.int .i64)) b),(5,.ref 2 0),(4,.ref 1 0),(2,.ref 0 0)],[(0,.box 30 (.cons (.dat .str s.1) (.cons (.dat .bool s.2.1) (.cons (.dat (.slice colT) s.2.2) (.cons (.dat (.slice tupT) l) .nil))))),(1,.box 48 (zA fT .nil)),(2,.box 48 (dA fT (qf (Q i)) .nil))],3⟩) (fun i=>i<=b.length) (fun i=>b.length-i) 0 3 (Nat.zero_le _) ?_ ?_
 ·dsimp only [go_sem]
  rw [hQ0]
  and_intros<;>first|trivial|rfl|omega
 ·intro i hi R hm
  refine hH.run 100 _ _ ?_
  dsimp only [go_sem]
  simp only [Int.toNat_natCast]
  have hzt:∀ j,l.getD j (zd tupT)=l.getD j tz:=fun _=>rfl
  have hzi:∀ j,b.getD j (zd (.int .i64))=b.getD j 0:=fun _=>rfl
  have hqi:=(hqs i hi).1
  refine ⟨fun d=>?_,fun d=>?_⟩<;>simp only [decide_eq_true_eq,decide_eq_false_iff_not] at d
  ·have d:i<b.length:=by omega
   have hb:(0:Int)<=(i:Int)/\(i:Int)<(b.length:Int):=by omega
   have hi1:inR .i64 ((i:Int)+1):=by rw [inR_i64]; omega
   have he:=hsl i d
   have hm:=hm
   have hn:=hqn i d
   simp only [hzt,hzi]
   have hac:fs (qf (Q i))<=900000:=by rw [fs_qf]; omega
   rw [fq_qf,<-hn]
   exact ⟨hb,hbl i d,by omega,by omega,hi1,hm _ (i+1) 3 d (by omega) (by dsimp only [go_sem]; and_intros<;>first|trivial|rfl|omega)⟩
  ·have d:i=b.length:=by omega
   subst d
   rw [hq0]
   and_intros<;>first|trivial|rfl
end Go.Proofs.YtdobkkhncfifeacGreat.Gx
namespace Go.Proofs.YtdobkkhncfifeacGreat.Gx
open Go Go.RowKit Tw B Nt
set_option linter.unusedVariables false
set_option linter.unusedSimpArgs false
set_option maxHeartbeats 4000000
set_option maxRecDepth 20000
@[go_sem] noncomputable def ER7:Env:=(((ER6).add 33 rfndS).add 42 sumS).add 47 rsumS
theorem ER7_ok:ER7.Ok:=(((ER6_ok).add rfnd_ok).add sum_ok).add rsum_ok
@[go_sem] def vctM:MSpec:=⟨[.d (.slice valT),.d (.slice valT)],fun d=>⟨[],0,.dat (.int .i64) (cT d.1 d.2.1),[List.length d.1<=1000000/\List.length d.2.1<=1000000]⟩⟩
theorem vctM_ok:MSpecOk Tryz.prog 38 vctM:=by
 refine fnM_ok EV5_ok vctM Tryz.func38 rfl (by decide) (N:=8) rfl (res:=[.tmp 4]) rfl (by decide) [(1,[(7,.ow)])] [] [] 100 (by kernel_rfl) ?_
 rintro ⟨l,z,_⟩ hw hp H hH
 dsimp only [go_sem] at hw hp ⊢
 obtain ⟨hp,-⟩:=hp
 and_intros<;>first|trivial|rfl|exact hp.1|exact hp.2
@[go_sem] noncomputable def ES1:Env:=(ER7).addM 38 vctM
theorem ES1_ok:ES1.Ok:=(ER7_ok).addM vctM_ok
def posK (K:List (List Val)) (k:List Val):Nat:=K.findIdx fun e=>decide (0<=cT e k)
def hasK (K:List (List Val)) (k:List Val):Bool:=decide (posK K k<K.length)&&decide (cT (K.getD (posK K k) []) k=0)
def monK (K:List (List Val)) (k:List Val):Prop:=∀ a b,a<=b->b<K.length->cT (K.getD b []) k<0->cT (K.getD a []) k<0
theorem posK_eq {K:List (List Val)} {k:List Val} {p:Nat} (hp:p<=K.length) (h:∀ a,a<p->cT (K.getD a []) k<0) (h':p<K.length->0<=cT (K.getD p []) k):posK K k=p:=by
 unfold posK
 rcases Nat.lt_or_ge p K.length with d|d
 ·rw [List.findIdx_eq d]
  constructor
  ·have:=h' d
   rw [List.getD_eq_getElem?_getD,List.getElem?_eq_getElem d] at this
   exact decide_eq_true this
  ·intro j hj
   have:=h j hj
   rw [List.getD_eq_getElem?_getD,List.getElem?_eq_getElem (by omega)] at this
   exact decide_eq_false (by simpa using this)
 ·have:p=K.length:=by omega
  rw [this,List.findIdx_eq_length]
  intro x hx
  obtain ⟨j,hj,e⟩:=List.mem_iff_getElem.1 hx
  have:=h j (by omega)
  rw [List.getD_eq_getElem?_getD,List.getElem?_eq_getElem hj] at this
  rw [<-e]
  exact decide_eq_false (by simpa using this)
@[go_sem] def bsfM:MSpec:=⟨[.d (.slice (.slice valT)),.d (.slice valT),.k 38],fun d=>⟨[],0,.tup (.cons (.dat (.int .i64) (posK d.1 d.2.1:Int)) (.cons (.dat .bool (hasK d.1 d.2.1)) .nil)),[List.length d.1<=1000,∀ e∈(d.1:List (List Val)),e.length<=1000,List.length d.2.1<=1000,monK d.1 d.2.1]⟩⟩
theorem bsfM_ok:MSpecOk Tryz.prog 78 bsfM:=by
 refine fnM_ok ES1_ok bsfM Tryz.func78 rfl (by decide) (N:=49) rfl (res:=[.tmp 6,.tmp 7]) rfl (by decide) [] [] [] 100 (by kernel_rfl) ?_
 rintro ⟨K,k,_⟩ hw hp H hH
 dsimp only [go_sem] at hw hp ⊢
 obtain ⟨hp1,hp2,hp3,hp4,-⟩:=hp
 change List (List Val) at K
 change List Val at k
 change K.length<=1000 at hp1
 change k.length<=1000 at hp3
 clear hw
 refine hH.loop (fun p:Nat×Nat=>⟨[(9,.dat (.int .i64) (p.1:Int)),(10,.dat (.int .i64) (p.2:Int)),(8,.dat (.int .i64) (K.length:Int)),(0,.dat (.slice (.slice valT)) K),(1,.dat (.slice valT) k),(2,.clo 38 .nil)],[],0⟩) (fun p=>p.1<=p.2/\p.2<=K.length/\(∀ a,a<p.1->cT (K.getD a []) k<0)/\(p.2<K.length->0<=cT (K.getD p.2 []) k)) (fun p=>p.2-p.1) (0,K.length) 0 ⟨Nat.zero_le _,Nat.le_refl _,fun a h=>absurd h (Nat.not_lt_zero _),fun h=>absurd h (Nat.lt_irrefl _)⟩ ?_ ?_
 ·dsimp only [go_sem]
  and_intros<;>first|trivial|rfl|omega
 ·rintro ⟨i,j⟩ ⟨hi,hj,hl,hr⟩ R hm
  dsimp only at hi hj hl hr
  refine hH.run 100 _ _ ?_
  dsimp only [go_sem]
  simp only [Int.toNat_natCast]
  have hs:shrI .u64 ((i:Int)+(j:Int)) 1=(((i+j) / 2:Nat):Int):=by
   have:shrI .u64 ((i:Int)+(j:Int)) 1=((i:Int)+(j:Int)) / 2:=Int.fdiv_eq_ediv_of_nonneg _ (by decide)
   rw [this]; omega
  have hzt:∀ j,K.getD j (zd (.slice valT))=K.getD j []:=fun _=>rfl
  simp only [hs,Int.toNat_natCast,hzt]
  refine ⟨fun d=>?_,fun d=>?_⟩<;>simp only [decide_eq_true_eq,decide_eq_false_iff_not] at d
  ·have d:i<j:=by omega
   generalize hh:(i+j) / 2=h
   have h1:i<=h/\h<j:=by omega
   have hin:∀ x:Int,0<=x->x<=2001->inR .i64 x:=fun x a b=>by rw [inR_i64]; omega
   have hiu:inR .u64 ((i:Int)+(j:Int)):=by show 0<=(i:Int)+(j:Int)/\(i:Int)+(j:Int)<=18446744073709551615; omega
   have hb:(0:Int)<=(h:Int)/\(h:Int)<(K.length:Int):=by omega
   have hl1:(K.getD h []).length<=1000:=hp2 _ (getDm [] (show h<K.length by omega))
   have hpr:(K.getD h []).length<=1000000/\k.length<=1000000:=by omega
   refine ⟨hin _ (by omega) (by omega),hiu,by decide,hin _ (by omega) (by omega),hb,hpr,fun e=>?_,fun e=>?_⟩<;>simp only [decide_eq_true_eq,decide_eq_false_iff_not] at e
   ·refine ⟨hin _ (by omega) (by omega),hm _ (h+1,j) 0 ⟨by omega,hj,fun a ha=>hp4 a h (by omega) (by omega) e,hr⟩ (by dsimp only; omega) ?_⟩
    dsimp only [go_sem]
    and_intros<;>first|trivial|rfl|omega
   ·refine hm _ (i,h) 0 ⟨by omega,by omega,hl,fun _=>Int.not_lt.1 e⟩ (by dsimp only; omega) ?_
    dsimp only [go_sem]
    and_intros<;>first|trivial|rfl|omega
  ·have d:i=j:=by omega
   subst d
   have hpk:posK K k=i:=posK_eq hj hl hr
   have hlt:decide ((i:Int)<(K.length:Int))=decide (i<K.length):=decide_eq_decide.2 (by omega)
   have hhk:hasK K k=(decide (i<K.length)&&decide (cT (K.getD i []) k=0)):=by unfold hasK; rw [hpk]
   simp only [hlt,hpk,hhk,imp_self,true_and,and_true]
   refine ⟨fun e=>?_,fun e=>?_,by omega⟩<;>simp only [decide_eq_true_eq] at e
   ·show (0:Int)<=(i:Int)/\(i:Int)<(K.length:Int)
    omega
   ·have hl1:(K.getD i []).length<=1000:=hp2 _ (getDm [] e)
    change (K.getD i []).length<=1000000/\k.length<=1000000
    omega
end Go.Proofs.YtdobkkhncfifeacGreat.Gx
namespace Go.Proofs.YtdobkkhncfifeacGreat.Gx
open Go Go.RowKit Tw B Nt
set_option linter.unusedVariables false
set_option linter.unusedSimpArgs false
set_option maxHeartbeats 4000000
set_option maxRecDepth 20000
section
variable {E:Env} {w0 w1 w2:World} {X0 X1:Nat->Prop} {Bo:List Value} {N:Nat} {st st':St} {ρ:List Value} {a:Act} {w w':World} {Q:Exit->Act->World->Prop} {P:Program} {ps:List Prop} {ck:List (Nat×CT)} {nx:Nat}
theorem pre9_ok (hE:E.Ok) (hX0:∀ b,X0 b->b<w0.heap.size) {ops:Array Oper} {ds:List (Option Nat)} (hds:∀ g:Nat,nthO ds g=(ops[g]?).map Oper.dst) {ann:List (Nat×An)} {r:List Oper} :
    ∀ {l:List Oper} {st st':St} {ρ:List Value} {a:Act} {w:World} {ps0 ps:List Prop},Fr w0 X0 Bo N st ρ a w->evOps E ann ds l st ps0=some (st',ps)->AllP ps->(∀ o∈l,okOper N o=true) ->
     (∀ ρ' a' w',Fr w0 X0 Bo N st' ρ' a' w'->wpList E.P ops Q r a' w')->wpList E.P ops Q (l++r) a w
 | [],st,st',ρ,a,w,ps0,ps,h,he,hp,hok,hQ=>by cases he; exact hQ _ _ _ h
 | o::l,st,st',ρ,a,w,ps0,ps,h,he,hp,hok,hQ=>by
  simp only [evOps] at he
  split at he
  ·rename_i st1 qs e
   obtain ⟨k,hk⟩:=evOps_pre he
   have hq:AllP qs:=by rw [hk] at hp; exact hp.app.1.app.2
   refine wpList_step fun K hK=>?_
   exact evOp_ok hE h hX0 hds (hok o List.mem_cons_self) e hq fun ρ' a' w' h'=>hK _ _ (pre9_ok hE hX0 hds h' he hp (fun o ho=>hok o (List.mem_cons_of_mem _ ho)) hQ)
  ·cases he
theorem region_pre9 (hE:E.Ok) (hX0:∀ b,X0 b->b<w0.heap.size) {id:Nat} {ops:Array Oper} {ann:List (Nat×An)} {pre post:List Oper} (hl:ops.toList=pre++post) (h:Fr w0 X0 Bo N st ρ a w) {k:List It}
    (he:evOps E ann (dsts ops.toList) pre st []=some (st',ps)) (hp:AllP ps) (hok:pre.all (okOper N)=true) (hQ:∀ ρ' a' w',Fr w0 X0 Bo N st' ρ' a' w'->wpList E.P ops (sem E.P Q k) post a' w') :
    sem E.P Q (.code (.region id ops false)::k) .normal a w:=by
 refine wp_region_list ?_
 have hds:∀ g:Nat,nthO (dsts ops.toList) g=(ops[g]?).map Oper.dst:=fun g=>by have:=dsts_ok ops.toList g; simpa using this
 have:=pre9_ok hE hX0 (ops:=ops) (r:=post) (Q:=sem E.P Q k) hds h he hp (fun o ho=>List.all_eq_true.1 hok o ho) hQ
 rwa [<-hl] at this
theorem ins_at {α:Type} {l m:List α} {i k:Nat} {x:α} (hi:i<=l.length) (h:(insL l i m)[k]?=some x) :
    (k<i/\l[k]?=some x)∨(i<=k/\k<i+m.length/\m[k-i]?=some x)∨(i+m.length<=k/\l[k-m.length]?=some x):=by
 unfold insL at h
 have ht:(l.take i).length=i:=by rw [List.length_take]; omega
 rcases Nat.lt_or_ge k i with h1|h1
 ·rw [List.append_assoc,List.getElem?_append_left (by omega),List.getElem?_take,if_pos h1] at h
  exact .inl ⟨h1,h⟩
 ·rcases Nat.lt_or_ge k (i+m.length) with h2|h2
  ·rw [List.append_assoc,List.getElem?_append_right (by omega),List.getElem?_append_left (by omega),ht] at h
   exact .inr (.inl ⟨h1,h2,h⟩)
  ·rw [List.getElem?_append_right (by rw [List.length_append]; omega),List.length_append,ht,List.getElem?_drop] at h
   have e:i+(k-(i+m.length))=k-m.length:=by omega
   rw [e] at h
   exact .inr (.inr ⟨h2,h⟩)
theorem ins_mem {α:Type} {l m:List α} {i:Nat} {x:α} (h:x∈insL l i m):x∈l∨x∈m:=by
 unfold insL at h
 rcases List.mem_append.1 h with h|h
 ·rcases List.mem_append.1 h with h|h
  ·exact .inl (List.mem_of_mem_take h)
  ·exact .inr h
 ·exact .inl (List.mem_of_mem_drop h)
theorem nins_does (h:Fr w0 X0 Bo N st ρ a w) (hX0:∀ b,X0 b->b<w0.heap.size) {f s0 s1 s2:Nat} {fn:Func} (hf:P.funcs[f]?=some fn) (hb:fn.body.isSome=true) (hn:(fn.name == "runtime.NumGoroutine")=false) {T Ti:TypeId} {t:Ty} {c d c2 d2 n i:Nat} {o o2:Bool} {ll ll2:List (List t.den)}
    (hI:InsOk P f T 1) (g0:get? st.sl s0=some (.sli c n)) (g1:get? st.sl s1=some (.dat (.int .i64) (i:Int))) (g2:get? st.sl s2=some (.sli c2 1))
    (hgc:get? st.ck c=some (.nrow T o d none)) (hgd:get? st.ck d=some (.bag Ti t ll)) (hgc2:get? st.ck c2=some (.nrow T o2 d2 none)) (hgd2:get? st.ck d2=some (.bag Ti t ll2)) (hcc:c≠c2) (hdd:d≠d2) (hl1:ll.length=n) (hl2:ll2.length=1) (hi:i<=n) (hn2:n<=1000000)
    {dd:Option Nat} (hdn:∀ t,dd=some t->t<N) {ats:Array TypeId} {ty:TypeId} {pos:String} {af:Array Edge} :
    Does P a.eval ⟨dd,.call { callee:=.value (.func f),args:=#[.tmp s0,.tmp s1,.tmp s2],argTypes:=ats },ty,pos,af,none⟩ w fun v w'=>∃ ρ',Fr w0 X0 Bo N ⟨put st.sl dd (.sli st.nx (n+1)),(st.nx,.nrow T o (st.nx+1) none)::(st.nx+1,.bag Ti t (insL ll i ll2))::delL st.ck [c,d,c2,d2],st.nx+2⟩ ρ' (a.put dd v) w':=by
 have hw:=h.wd hX0
 have hmc:=get?_mem hgc
 have hmd:=get?_mem hgd
 have hmc2:=get?_mem hgc2
 have hmd2:=get?_mem hgd2
 have hcd:c≠d:=by intro e; rw [e,hgd] at hgc; cases hgc
 have hcd2:c≠d2:=by intro e; rw [e,hgd2] at hgc; cases hgc
 obtain ⟨vc,us1,c1,c2',c3,c4⟩:=nrow_cells (hw.cs _ hmc)
 obtain ⟨us1',a1,a2,a3,a4⟩:=id (hw.cs _ hmd)
 rw [c2'] at a1
 cases a1
 obtain ⟨vk,us2,k1,k2,k3,k4⟩:=nrow_cells (hw.cs _ hmc2)
 obtain ⟨us2',b1,b2,b3,b4⟩:=id (hw.cs _ hmd2)
 rw [k2] at b1
 cases b1
 obtain ⟨v0,x1,x2,x3⟩:=h.sl _ _ g0
 rw [c1] at x1
 cases x1
 have x3:=(List.cons.inj x3).1
 obtain ⟨v0,y1,y2,y3⟩:=h.sl _ _ g2
 rw [k1] at y1
 cases y1
 have y3:=(List.cons.inj y3).1
 have z3:=m_int (h.sl _ _ g1)
 rw [a2,hl1] at c3
 rw [b2,hl2] at k3
 obtain ⟨vb,vcap,rfl⟩:=one_row k3
 have hvc:∀ b,blk vc=some b->inC ρ c b:=fun b hb=>inC_blk c1 hb
 have hne:∀ b,blk vc=some b->b≠vb:=fun b hb e=>h.dj _ hmc _ hmc2 hcc b (hvc b hb) (by rw [e]; exact inC_blk k1 rfl)
 have hcall:=hI w vc n i vb vcap us1.toList us2.toList c3 c4 k3 k4 hne hi hn2
 have hex:execOp a.eval ⟨dd,.call { callee:=.value (.func f),args:=#[.tmp s0,.tmp s1,.tmp s2],argTypes:=ats },ty,pos,af,none⟩=callFunc f #[vc,.int .i64 i,.slice (some ⟨vb,0,none⟩) 1 vcap]:=by
  rw [execOp_call_go]
  have e0:a.eval (.tmp s0)=vc:=x3
  have e1:a.eval (.tmp s1)=.int .i64 i:=z3.1
  have e2:a.eval (.tmp s2)=.slice (some ⟨vb,0,none⟩) 1 vcap:=y3
  simp [e0,e1,e2]
 unfold Does
 rw [hex,callFunc_ok hf hb hn]
 suffices H:∀ v' w',w'.ownsRow 0 T 1 v' (n+1) (us1.toList.take (i*1)++us2.toList++us1.toList.drop (i*1))->w.grownBy w' (blk vc)->(∀ b,blk v'=some b->blk vc=some b∨w.heap.size<=b)->∃ ρ',Fr w0 X0 Bo N ⟨put st.sl dd (.sli st.nx (n+1)),(st.nx,.nrow T o (st.nx+1) none)::(st.nx+1,.bag Ti t (insL ll i ll2))::delL st.ck [c,d,c2,d2],st.nx+2⟩ ρ' (a.put dd v') w' by
  have:=hcall.mono fun e w' ⟨v',he,q2,q3,q4⟩=>(⟨v',he,H v' w' q2 q3 q4⟩:∃ v,e=Ending.returned v/\∃ ρ',Fr w0 X0 Bo N ⟨put st.sl dd (.sli st.nx (n+1)),(st.nx,.nrow T o (st.nx+1) none)::(st.nx+1,.bag Ti t (insL ll i ll2))::delL st.ck [c,d,c2,d2],st.nx+2⟩ ρ' (a.put dd v) w')
  simpa using this
 intro v' w' q2 q3 q4
 have hkeep:∀ b,b<w.heap.size->¬inC ρ c b->w'.heap[b]?=w.heap[b]?:=fun b hb hn=>grown_kept q3 hb fun e=>hn (hvc b e)
 have e1:us1.toList.take (i*1)++us2.toList++us1.toList.drop (i*1)=insL us1.toList i us2.toList:=by rw [Nat.mul_one]; rfl
 rw [e1] at q2
 have hul:us1.toList.length=n:=by rw [a2,hl1]
 have hul2:us2.toList.length=1:=by rw [b2,hl2]
 have hil:(insL us1.toList i us2.toList).length=n+1:=by rw [insL_len,hul,hul2]
 have h0:=fr_unfacts h
 have hrow:∀ (j:Nat) (u:Value) (l:List t.den),(insL us1.toList i us2.toList)[j]?=some u->(insL ll i ll2)[j]?=some l->Rw 0 (XX X0 ρ st.ck) w Ti t u l/\∀ b,blk u=some b->inC ρ d b∨inC ρ d2 b:=by
  intro j u l hu hl
  rcases ins_at (by omega) hu with ⟨p1,p2⟩|⟨p1,p2,p3⟩|⟨p1,p2⟩<;>rcases ins_at (by omega) hl with ⟨r1,r2⟩|⟨r1,r2,r3⟩|⟨r1,r2⟩<;>try omega
  ·exact ⟨a3 _ u l p2 r2,fun b hb=>.inl (inC_tup c2' p2 hb)⟩
  ·exact ⟨b3 _ u l p3 r3,fun b hb=>.inr (inC_tup k2 p3 hb)⟩
  ·rw [hul2] at p2
   rw [hl2] at r2
   exact ⟨a3 _ u l p2 r2,fun b hb=>.inl (inC_tup c2' p2 hb)⟩
 have hin:∀ u∈insL us1.toList i us2.toList,∀ b,blk u=some b->inC ρ d b∨inC ρ d2 b:=by
  intro u hu b hb
  rcases ins_mem hu with hu|hu
  ·obtain ⟨j,hj⟩:=List.mem_iff_getElem?.1 hu
   exact .inl (inC_tup c2' hj hb)
  ·obtain ⟨j,hj⟩:=List.mem_iff_getElem?.1 hu
   exact .inr (inC_tup k2 hj hb)
 obtain ⟨ρ',f1,f2,f3⟩:=h0.nmake (ds:=[c,d,c2,d2]) (o:=o) (us:=insL us1.toList i us2.toList) (ll:=insL ll i ll2) (T:=T) (Ti:=Ti) (t:=t) (v':=v') ⟨q3.os,q3.tape,q3.output⟩ q3.size (fun b hb hn=>hkeep b hb fun e0=>hn ⟨_,hmc,by simp,e0⟩) (by rw [hil]; exact q2)
  (fun u hu=>by
   rcases ins_mem hu with hu|hu
   ·exact c4 u hu
   ·exact k4 u hu) (by rw [hil,insL_len,hl1,hl2])
  (fun j u l hu hl=>by
   obtain ⟨g1,g2⟩:=hrow j u l hu hl
   refine ⟨g1,fun b hb=>?_⟩
   rcases g2 b hb with e0|e0
   ·exact ⟨⟨_,hmd,by simp,e0⟩,hkeep b (h.bl _ hmd b e0).1 fun e1=>h.dj _ hmc _ hmd hcd b e1 e0⟩
   ·exact ⟨⟨_,hmd2,by simp,e0⟩,hkeep b (h.bl _ hmd2 b e0).1 fun e1=>h.dj _ hmc _ hmd2 hcd2 b e1 e0⟩)
  (fun j k u u' hu hu' hne b hb hb'=>by
   rcases ins_at (by omega) hu with ⟨p1,p2⟩|⟨p1,p2,p3⟩|⟨p1,p2⟩<;>rcases ins_at (by omega) hu' with ⟨r1,r2⟩|⟨r1,r2,r3⟩|⟨r1,r2⟩
   ·exact a4 _ _ u u' p2 r2 (by omega) b hb hb'
   ·exact h.dj _ hmd _ hmd2 hdd b (inC_tup c2' p2 hb) (inC_tup k2 r3 hb')
   ·exact a4 _ _ u u' p2 r2 (by omega) b hb hb'
   ·exact h.dj _ hmd _ hmd2 hdd b (inC_tup c2' r2 hb') (inC_tup k2 p3 hb)
   ·exact b4 _ _ u u' p3 r3 (by omega) b hb hb'
   ·exact h.dj _ hmd _ hmd2 hdd b (inC_tup c2' r2 hb') (inC_tup k2 p3 hb)
   ·exact a4 _ _ u u' p2 r2 (by omega) b hb hb'
   ·exact h.dj _ hmd _ hmd2 hdd b (inC_tup c2' p2 hb) (inC_tup k2 r3 hb')
   ·exact a4 _ _ u u' p2 r2 (by omega) b hb hb')
  (fun b hb=>(q4 b hb).imp (fun e0=>⟨_,hmc,by simp,hvc b e0⟩) id)
  (fun u hu b hb hb'=>by
   have hin:=hin u hu b hb
   rcases q4 b hb' with e0|e0
   ·rcases hin with e1|e1
    ·exact h.dj _ hmc _ hmd hcd b (hvc b e0) e1
    ·exact h.dj _ hmc _ hmd2 hcd2 b (hvc b e0) e1
   ·rcases hin with e1|e1
    ·have:=(h.bl _ hmd b e1).1; omega
    ·have:=(h.bl _ hmd2 b e1).1; omega)
 have hone:sliV v' (n+1):=own_sli q2
 refine fr_back h hdn ⟨ρ',f1,fun p hp=>?_⟩
 rcases List.mem_cons.1 hp with rfl|hp
 ·exact ⟨v',f3,hone,rfl⟩
 ·exact f2 (slotF_ok h p hp)
def HandOk (S:Sx) (H:List It->St->Prop):Prop:=∃ (w0:World) (X0:Nat->Prop) (Bo:List Value) (Q:Exit->Act->World->Prop),S.E.Ok/\(∀ b,X0 b->b<w0.heap.size)/\∀ k st,H k st↔(okK S.an S.N k=true->∀ ρ a w,Fr w0 X0 Bo S.N st ρ a w->sem S.E.P Q k .normal a w)
theorem HOk.hand {S:Sx} {H:List It->St->Prop} (hH:HOk S H) {k:List It} {st:St} (h:∀ H',HOk S H'->HandOk S H'->H' k st) (hok:okK S.an S.N k=true):H k st :=
 hH.raw fun w0 X0 Bo Q hnb hE hX0 hfin ρ a w hf=>h (Hs S.an S.E w0 X0 Bo S.N Q) (hs_ok hnb hE hX0 hfin) ⟨w0,X0,Bo,Q,hE,hX0,fun _ _=>Iff.rfl⟩ hok ρ a w hf
theorem nins_H {S:Sx} {H:List It->St->Prop} (hh:HandOk S H) {k:List It} {id:Nat} {ops:Array Oper} {ann:List (Nat×An)} {pre post:List Oper} {st st1 st3:St} {ps1 ps3:List Prop} {f s0 s1 s2 dd:Nat} {fn:Func} {ats:Array TypeId} {ty:TypeId} {pos:String} {af:Array Edge}
    (hl:ops.toList=pre++⟨some dd,.call { callee:=.value (.func f),args:=#[.tmp s0,.tmp s1,.tmp s2],argTypes:=ats },ty,pos,af,none⟩::post)
    (he1:evOps S.E ann (dsts ops.toList) pre st []=some (st1,ps1)) (hok1:pre.all (okOper S.N)=true) (hok2:post.all (okOper S.N)=true) (hdd:dd<S.N)
    (hf:S.E.P.funcs[f]?=some fn) (hb:fn.body.isSome=true) (hn:(fn.name == "runtime.NumGoroutine")=false) {T Ti:TypeId} {t:Ty} {c d c2 d2 n i:Nat} {o o2:Bool} {ll ll2:List (List t.den)}
    (hI:InsOk S.E.P f T 1) (g0:get? st1.sl s0=some (.sli c n)) (g1:get? st1.sl s1=some (.dat (.int .i64) (i:Int))) (g2:get? st1.sl s2=some (.sli c2 1))
    (hgc:get? st1.ck c=some (.nrow T o d none)) (hgd:get? st1.ck d=some (.bag Ti t ll)) (hgc2:get? st1.ck c2=some (.nrow T o2 d2 none)) (hgd2:get? st1.ck d2=some (.bag Ti t ll2)) (hcc:c≠c2) (hddn:d≠d2)
    (he3:evOps S.E ann (dsts ops.toList) post ⟨put st1.sl (some dd) (.sli st1.nx (n+1)),(st1.nx,.nrow T o (st1.nx+1) none)::(st1.nx+1,.bag Ti t (insL ll i ll2))::delL st1.ck [c,d,c2,d2],st1.nx+2⟩ []=some (st3,ps3))
    (hp1:AllP ps1) (hl1:ll.length=n) (hl2:ll2.length=1) (hi:i<=n) (hn2:n<=1000000) (hp3:AllP ps3) (hk:H k st3):H (.code (.region id ops false)::k) st:=by
 obtain ⟨w0,X0,Bo,Q,hE,hX0,hiff⟩:=hh
 rw [hiff]
 intro hok ρ a w hfr
 have hok':okK S.an S.N k=true:=by
  have h:(okC S.an S.N (.region id ops false)&&okK S.an S.N k)=true:=hok
  rw [Bool.and_eq_true] at h
  exact h.2
 refine region_pre9 (post:=⟨some dd,.call { callee:=.value (.func f),args:=#[.tmp s0,.tmp s1,.tmp s2],argTypes:=ats },ty,pos,af,none⟩::post) hE hX0 hl hfr he1 hp1 hok1 fun ρ1 a1 w1 h1=>?_
 refine wpList_plain rfl fun K hK=>?_
 refine (nins_does h1 hX0 hf hb hn hI g0 g1 g2 hgc hgd hgc2 hgd2 hcc hddn hl1 hl2 hi hn2 (dd:=some dd) (fun t e=>by cases e; exact hdd)).wp fun v w' ⟨ρ',h2⟩=>hK _ _ ?_
 have:=pre9_ok (Q:=sem S.E.P Q k) (ops:=ops) (ds:=dsts ops.toList) (r:=[]) hE hX0 (fun g=>by have:=dsts_ok ops.toList g; simpa using this) h2 he3 hp3 (fun o ho=>List.all_eq_true.1 hok2 o ho) fun ρ3 a3 w3 h3=>wpList_nil ((hiff k st3).1 hk hok' ρ3 a3 w3 h3)
 rwa [List.append_nil] at this
end
end Go.Proofs.YtdobkkhncfifeacGreat.Gx
namespace Go.Proofs.YtdobkkhncfifeacGreat.Gx
open Go Go.RowKit Tw B Nt
set_option linter.unusedVariables false
set_option linter.unusedSimpArgs false
structure CmpOk {α:Type} (c:α->α->Int):Prop where
 eq:∀ a b,c a b=0↔a=b
 sw:∀ a b,c a b<0↔0<c b a
 tr:∀ a b d,c a b<0->c b d<0->c a d<0
theorem cI_ok:CmpOk cI:=by
 refine ⟨fun a b=>cI_zero,fun a b=>?_,fun a b d=>?_⟩
 ·unfold cI; split<;>split<;>(try split)<;>omega
 ·unfold cI; repeat' split
  all_goals omega
theorem cB_cons (a b:UInt8) (x y:Str):cB (a::x) (b::y)=if a.toNat<b.toNat then -1 else if b.toNat<a.toNat then 1 else cB x y:=by
 show (if a<b then -1 else if b<a then 1 else cB x y)=_
 simp only [UInt8.lt_iff_toNat_lt]
theorem cB_sw:∀ a b:Str,cB a b<0↔0<cB b a
 | [],[]=>by simp [cB,Lib.compareBytes]
 | [],_::_=>by simp [cB,Lib.compareBytes]
 | _::_,[]=>by simp [cB,Lib.compareBytes]
 | a::x,b::y=>by
  have h:=cB_sw x y
  rw [cB_cons,cB_cons]
  split<;>split<;>(try split)<;>omega
theorem cB_tr:∀ a b d:Str,cB a b<0->cB b d<0->cB a d<0
 | [],_,[]=>by
  intro h1 h2
  rename_i b
  cases b<;>simp [cB,Lib.compareBytes] at h1 h2
 | [],_,_::_=>by intro _ _; simp [cB,Lib.compareBytes]
 | _::_,[],_=>by intro h1; simp [cB,Lib.compareBytes] at h1
 | _::_,_::_,[]=>by intro _ h2; simp [cB,Lib.compareBytes] at h2
 | a::x,b::y,d::z=>by
  have h:=cB_tr x y z
  rw [cB_cons,cB_cons,cB_cons]
  intro h1 h2
  split at h1<;>split at h2<;>(try split at h1)<;>(try split at h2)<;>(try omega)<;>split<;>(try omega)<;>split<;>(try omega)
theorem cB_ok:CmpOk cB:=⟨cB_zero,cB_sw,cB_tr⟩
theorem CmpOk.lex {α β:Type} {c:α->α->Int} {d:β->β->Int} (hc:CmpOk c) (hd:CmpOk d):CmpOk (fun (x y:α×β)=>if c x.1 y.1≠0 then c x.1 y.1 else d x.2 y.2):=by
 refine ⟨fun a b=>?_,fun a b=>?_,fun a b e=>?_⟩
 ·have h1:=hc.eq a.1 b.1
  have h2:=hd.eq a.2 b.2
  by_cases h:c a.1 b.1=0
  ·rw [if_neg (fun x=>x h),h2]
   exact ⟨fun e=>Prod.ext (h1.1 h) e,fun e=>by rw [e]⟩
  ·rw [if_pos h]
   exact ⟨fun e=>absurd e h,fun e=>absurd (h1.2 (by rw [e])) h⟩
 ·have h1:=hc.eq a.1 b.1
  have h2:=hc.eq b.1 a.1
  have h3:=hc.sw a.1 b.1
  have h4:=hd.sw a.2 b.2
  by_cases h:c a.1 b.1=0
  ·rw [if_neg (fun x=>x h),if_neg (fun x=>x (h2.2 (h1.1 h).symm))]; exact h4
  ·rw [if_pos h,if_pos (fun x=>h (h1.2 (h2.1 x).symm))]; exact h3
 ·have h1:=hc.eq a.1 b.1
  have h2:=hc.eq b.1 e.1
  have h3:=hc.eq a.1 e.1
  have h4:=hc.tr a.1 b.1 e.1
  have h5:=hd.tr a.2 b.2 e.2
  intro p q
  by_cases x:c a.1 b.1=0
  ·rw [if_neg (fun y=>y x)] at p
   have e1:=h1.1 x
   by_cases y:c b.1 e.1=0
   ·rw [if_neg (fun z=>z y)] at q
    rw [if_neg (fun z=>z (h3.2 (e1.trans (h2.1 y))))]
    exact h5 p q
   ·rw [if_pos y] at q
    rw [e1,if_pos y]; exact q
  ·rw [if_pos x] at p
   by_cases y:c b.1 e.1=0
   ·rw [<-h2.1 y,if_pos x]; exact p
   ·rw [if_pos y] at q
    have:=h4 p q
    rw [if_pos (by omega)]; exact this
theorem cV_ok:CmpOk cV:=CmpOk.lex cI_ok (CmpOk.lex cI_ok cB_ok)
theorem cT_cons (a b:Val) (x y:List Val):cT (a::x) (b::y)=if cV a b≠0 then cV a b else cT x y:=rfl
theorem cT_eq:∀ a b:List Val,cT a b=0↔a=b
 | [],[]=>by simp [cT]
 | [],_::_=>by simp [cT]
 | _::_,[]=>by simp [cT]
 | a::x,b::y=>by
  rw [cT_cons,List.cons.injEq,<-cV_ok.eq a b,<-cT_eq x y]
  by_cases h:cV a b=0<;>simp [h]
theorem cT_sw:∀ a b:List Val,cT a b<0↔0<cT b a
 | [],[]=>by simp [cT]
 | [],_::_=>by simp [cT]
 | _::_,[]=>by simp [cT]
 | a::x,b::y=>by
  have h:=cT_sw x y
  have h1:=cV_ok.sw a b
  have h2:=cV_ok.sw b a
  rw [cT_cons,cT_cons]
  split<;>split<;>omega
theorem cT_tr:∀ a b d:List Val,cT a b<0->cT b d<0->cT a d<0
 | [],b,[]=>by
  intro h1 h2
  cases b<;>simp [cT] at h1 h2
 | [],_,_::_=>by intro _ _; simp [cT]
 | _::_,[],_=>by intro h1; simp [cT] at h1
 | _::_,_::_,[]=>by intro _ h2; simp [cT] at h2
 | a::x,b::y,d::z=>by
  have h:=cT_tr x y z
  have h4:=cV_ok.tr a b d
  rw [cT_cons,cT_cons,cT_cons]
  intro p q
  by_cases u:cV a b=0
  ·rw [if_neg (fun y=>y u)] at p
   have e1:=(cV_ok.eq a b).1 u
   by_cases v:cV b d=0
   ·rw [if_neg (fun z=>z v)] at q
    have e2:=(cV_ok.eq b d).1 v
    rw [if_neg (fun z=>z ((cV_ok.eq a d).2 (e1.trans e2)))]
    exact h p q
   ·rw [if_pos v] at q
    rw [e1,if_pos v]; exact q
  ·rw [if_pos u] at p
   by_cases v:cV b d=0
   ·rw [<-(cV_ok.eq b d).1 v,if_pos u]; exact p
   ·rw [if_pos v] at q
    have:=h4 p q
    rw [if_pos (by omega)]; exact this
def blkS (kf:Nat->List Val):Nat->List (List Val)×List (List Int)
 | 0=>([],[])
 | n+1 =>
  let s:=blkS kf n
  if (kf n).length=0 then (insL s.1 s.2.length [kf n],insL s.2 s.2.length [[(n:Int)]])
  else if hasK s.1 (kf n)=true then (s.1,s.2.set (posK s.1 (kf n)) (s.2.getD (posK s.1 (kf n)) []++[(n:Int)]))
  else (insL s.1 (posK s.1 (kf n)) [kf n],insL s.2 (posK s.1 (kf n)) [[(n:Int)]])
theorem posK_le (K:List (List Val)) (k:List Val):posK K k<=K.length:=List.findIdx_le_length
theorem posK_lt {K:List (List Val)} {k:List Val} {j:Nat} (hj:j<posK K k):cT (K.getD j []) k<0:=by
 have hl:=posK_le K k
 have h:=List.not_of_lt_findIdx (p:=fun e=>decide (0<=cT e k)) (xs:=K) hj
 have h2:cT (K[j]'(by omega)) k<0:=by
  rcases Int.lt_or_le (cT (K[j]'(by omega)) k) 0 with h'|h'
  ·exact h'
  ·simp [h'] at h
 rw [List.getD_eq_getElem?_getD,List.getElem?_eq_getElem (by omega)]
 exact h2
theorem posK_at {K:List (List Val)} {k:List Val} (hj:posK K k<K.length):0<=cT (K.getD (posK K k) []) k:=by
 have h:=List.findIdx_getElem (p:=fun e=>decide (0<=cT e k)) (xs:=K) (w:=hj)
 rw [List.getD_eq_getElem?_getD,List.getElem?_eq_getElem hj]
 exact of_decide_eq_true h
def srtK (K:List (List Val)):Prop:=∀ a b,a<b->b<K.length->cT (K.getD a []) (K.getD b [])<0
theorem srtK_mon {K:List (List Val)} (h:srtK K) (k:List Val):monK K k:=by
 intro a b hab hb hk
 rcases Nat.lt_or_ge a b with h'|h'
 ·exact cT_tr _ _ _ (h a b h' hb) hk
 ·have:a=b:=by omega
  rw [this]; exact hk
theorem insL_get {α:Type} {l m:List α} {i k:Nat} {d:α} (hi:i<=l.length):(insL l i m).getD k d=if k<i then l.getD k d else if k<i+m.length then m.getD (k-i) d else l.getD (k-m.length) d:=by
 unfold insL
 have ht:(l.take i).length=i:=by rw [List.length_take]; omega
 simp only [List.getD_eq_getElem?_getD]
 split
 ·rename_i h1
  rw [List.append_assoc,List.getElem?_append_left (by omega),List.getElem?_take,if_pos h1]
 ·split
  ·rename_i h1 h2
   rw [List.append_assoc,List.getElem?_append_right (by omega),List.getElem?_append_left (by omega),ht]
  ·rename_i h1 h2
   rw [List.getElem?_append_right (by rw [List.length_append]; omega),List.length_append,ht,List.getElem?_drop]
   have e:i+(k-(i+m.length))=k-m.length:=by omega
   rw [e]
theorem hasK_iff {K:List (List Val)} {k:List Val}:hasK K k=true↔posK K k<K.length/\K.getD (posK K k) []=k:=by
 unfold hasK
 rw [Bool.and_eq_true,decide_eq_true_eq,decide_eq_true_eq,cT_eq]
theorem srtK_ins {K:List (List Val)} (h:srtK K) {k:List Val} (hk:hasK K k=false):srtK (insL K (posK K k) [k]):=by
 have hp:=posK_le K k
 have hge:∀ j,posK K k<=j->j<K.length->cT k (K.getD j [])<0:=by
  intro j h1 h2
  have hlt:posK K k<K.length:=by omega
  have h3:=posK_at hlt
  have h4:¬cT (K.getD (posK K k) []) k=0:=by
   intro e
   rw [cT_eq] at e
   rw [hasK_iff.2 ⟨hlt,e⟩] at hk
   cases hk
  have h5:cT k (K.getD (posK K k) [])<0:=(cT_sw _ _).2 (by omega)
  rcases Nat.lt_or_ge (posK K k) j with h'|h'
  ·exact cT_tr _ _ _ h5 (h _ _ h' h2)
  ·have:j=posK K k:=by omega
   rw [this]; exact h5
 intro a b hab hb
 rw [insL_len] at hb
 have hb:b<K.length+1:=hb
 rw [insL_get hp,insL_get hp]
 have e1:[k].length=1:=rfl
 rw [e1]
 have hx:∀ j,[k].getD (j-posK K k) []=if j=posK K k then k else [k].getD (j-posK K k) []:=by
  intro j
  split
  ·rename_i e; rw [e,Nat.sub_self]; rfl
  ·rfl
 rcases Nat.lt_or_ge b (posK K k) with h1|h1
 ·rw [if_pos (by omega),if_pos h1]
  exact h a b hab (by omega)
 ·rw [if_neg (show ¬b<posK K k by omega)]
  rcases Nat.lt_or_ge b (posK K k+1) with h2|h2
  ·have eb:b=posK K k:=by omega
   rw [if_pos h2,if_pos (by omega),eb,Nat.sub_self]
   exact posK_lt (k:=k) (show a<posK K k by omega)
  ·rw [if_neg (show ¬b<posK K k+1 by omega)]
   rcases Nat.lt_or_ge a (posK K k) with h3|h3
   ·rw [if_pos h3]
    exact h a (b-1) (by omega) (by omega)
   ·rw [if_neg (show ¬a<posK K k by omega)]
    rcases Nat.lt_or_ge a (posK K k+1) with h4|h4
    ·have ea:a=posK K k:=by omega
     rw [if_pos h4,ea,Nat.sub_self]
     exact hge (b-1) (by omega) (by omega)
    ·rw [if_neg (show ¬a<posK K k+1 by omega)]
     exact h (a-1) (b-1) (by omega) (by omega)
structure BInv (kf:Nat->List Val) (n:Nat) (s:List (List Val)×List (List Int)):Prop where
 len:s.1.length=s.2.length
 le:s.2.length<=n
 el:∀ b∈s.2,b≠[]/\b.length<=n/\∀ j∈b,0<=j/\j<(n:Int)
 ke:∀ e∈s.1,∃ j,j<n/\e=kf j
 hd:∀ j,j<s.2.length->kf ((s.2.getD j []).getD 0 0).toNat=s.1.getD j []
theorem BInv.wk {kf:Nat->List Val} {n:Nat} {s:List (List Val)×List (List Int)} (h:BInv kf n s):∀ b∈s.2,b≠[]/\b.length<=n+1/\∀ j∈b,0<=j/\j<((n+1:Nat):Int):=fun b hb=>by
 obtain ⟨h1,h2,h3⟩:=h.el b hb
 exact ⟨h1,by omega,fun j hj=>by have:=h3 j hj; omega⟩
theorem BInv.ins {kf:Nat->List Val} {n:Nat} {s:List (List Val)×List (List Int)} (h:BInv kf n s) {p:Nat} (hp:p<=s.2.length):BInv kf (n+1) (insL s.1 p [kf n],insL s.2 p [[(n:Int)]]):=by
 have hl:=h.len
 have hle:=h.le
 refine ⟨by simp only [insL_len,hl]; rfl,by simp only [insL_len]; show s.2.length+1<=n+1; omega,fun b hb=>?_,fun e he=>?_,fun j hj=>?_⟩
 ·rcases ins_mem hb with hb|hb
  ·exact h.wk b hb
  ·rw [List.mem_singleton] at hb
   subst hb
   refine ⟨by simp,by simp,fun j hj=>?_⟩
   rw [List.mem_singleton] at hj
   omega
 ·rcases ins_mem he with he|he
  ·obtain ⟨j,h1,h2⟩:=h.ke e he
   exact ⟨j,by omega,h2⟩
  ·rw [List.mem_singleton] at he
   exact ⟨n,by omega,he⟩
 ·simp only [insL_len] at hj
  have hj:j<s.2.length+1:=hj
  dsimp only
  rw [insL_get hp,insL_get (by omega:p<=s.1.length)]
  have e1:[kf n].length=1:=rfl
  have e2:[[(n:Int)]].length=1:=rfl
  rw [e1,e2]
  split
  ·rename_i h1
   exact h.hd j (by omega)
  ·split
   ·rename_i h1 h2
    have:j=p:=by omega
    subst this
    rw [Nat.sub_self]
    rfl
   ·exact h.hd (j-1) (by omega)
theorem getD_set_ne {α:Type} {l:List α} {p j:Nat} {x d:α} (h:p≠j):(l.set p x).getD j d=l.getD j d:=by
 rw [List.getD_eq_getElem?_getD,List.getElem?_set_ne h,<-List.getD_eq_getElem?_getD]
theorem getD_set_eq {α:Type} {l:List α} {p:Nat} {x d:α} (h:p<l.length):(l.set p x).getD p d=x:=by
 rw [List.getD_eq_getElem?_getD,List.getElem?_set_self h,Option.getD_some]
theorem BInv.app {kf:Nat->List Val} {n:Nat} {s:List (List Val)×List (List Int)} (h:BInv kf n s) {p:Nat} (hp:p<s.2.length):BInv kf (n+1) (s.1,s.2.set p (s.2.getD p []++[(n:Int)])):=by
 have hl:=h.len
 have hle:=h.le
 have hm:=getDm ([]:List Int) hp
 obtain ⟨h1,h2,h3⟩:=h.el _ hm
 refine ⟨by simp only [List.length_set]; exact hl,by simp only [List.length_set]; omega,fun b hb=>?_,fun e he=>?_,fun j hj=>?_⟩
 ·rcases List.mem_or_eq_of_mem_set hb with hb|hb
  ·exact h.wk b hb
  ·subst hb
   refine ⟨by simp,by rw [List.length_append]; show _+1<=_; omega,fun j hj=>?_⟩
   rcases List.mem_append.1 hj with hj|hj
   ·have:=h3 j hj; omega
   ·rw [List.mem_singleton] at hj; omega
 ·obtain ⟨j,h1,h2⟩:=h.ke e he
  exact ⟨j,by omega,h2⟩
 ·simp only [List.length_set] at hj
  have h4:=h.hd j hj
  dsimp only
  rcases Nat.lt_or_ge j p with h5|h5
  ·rw [getD_set_ne (by omega)]; exact h4
  ·rcases Nat.lt_or_ge p j with h6|h6
   ·rw [getD_set_ne (by omega)]; exact h4
   ·have:j=p:=by omega
    subst this
    rw [<-h4,getD_set_eq hp]
    congr 2
    cases hb:s.2.getD j [] with
    | nil=>exact absurd hb h1
    | cons x y=>rfl
theorem blk_inv (kf:Nat->List Val):∀ n,BInv kf n (blkS kf n)
 | 0=>⟨rfl,Nat.le_refl _,(fun b hb=>by cases hb),(fun b hb=>by cases hb),(fun j hj=>by cases hj)⟩
 | n+1=>by
  have ih:=blk_inv kf n
  have hl:=ih.len
  have hp:=posK_le (blkS kf n).1 (kf n)
  unfold blkS
  dsimp only
  split
  ·exact ih.ins (Nat.le_refl _)
  ·split
   ·rename_i h1 h2
    exact ih.app (by have:=(hasK_iff.1 h2).1; omega)
   ·exact ih.ins (by omega)
theorem blk_srt {kf:Nat->List Val} {N:Nat} (h:∀ j,j<N->(kf j).length≠0):∀ n,n<=N->srtK (blkS kf n).1
 | 0,_=>fun a b _ hb=>by cases hb
 | n+1,hn=>by
  have ih:=blk_srt h n (by omega)
  unfold blkS
  dsimp only
  rw [if_neg (h n (by omega))]
  split
  ·exact ih
  ·rename_i h2
   exact srtK_ins ih (by simpa using h2)
end Go.Proofs.YtdobkkhncfifeacGreat.Gx
