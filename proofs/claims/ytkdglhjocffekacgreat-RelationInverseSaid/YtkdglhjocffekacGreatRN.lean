/-
  credencebase.Relations.
-/
import Derived.Test.YtkdglhjocffekacGreatRM
namespace Go.Proofs.YtkdglhjocffekacGreat.Gx
open Go Go.RowKit Tw B Nt
set_option linter.unusedVariables false
set_option linter.unusedSimpArgs false
set_option maxHeartbeats 4000000
set_option maxRecDepth 20000
def bat (l:List Int) (i:Int):Int:=if l.length=0 then i % 65536 else l.getD (i % l.length).toNat 0 % 65536+i / l.length
@[go_sem] def bAtS:Spec:=⟨[.slice (.int .i64),.int .i64],fun d=>(.dat (.int .i64) (bat d.1 d.2.1),[(0:Int)<=d.2.1/\d.2.1<=1000000])⟩
theorem bAt_ok:SpecOk Tryz.prog 15 bAtS:=by
 refine fn_ok ERO_ok bAtS Tryz.func15 rfl (by decide) (N:=23) rfl (res:=[.tmp 4]) rfl (by decide) [] [] [] 100 (by kernel_rfl) ?_
 rintro ⟨l,(i:Int),_⟩ hw hp
 refine ⟨rfl,fun H hH=>?_⟩
 dsimp only [go_sem] at hw hp ⊢
 obtain ⟨⟨hi0,hi1⟩,-⟩:=hp
 have hi0:0<=i:=hi0
 have hi1:i<=1000000:=hi1
 obtain ⟨⟨hl,hr⟩,-⟩:=hw
 change ∀ x∈l,inR .i64 x at hr
 change List Int at l
 have hm (n:Int):bitsI .and .i64 n 65535=n % 65536:=andMask n 16 (by omega)
 have hz:(zd (Ty.int IntKind.i64))=(0:Int):=rfl
 have hb:bat l i=if l.length=0 then i % 65536 else l.getD (i % l.length).toNat 0 % 65536+i / l.length:=rfl
 rw [hm,hm,hz,Int.tmod_eq_emod_of_nonneg hi0,Int.tdiv_eq_ediv_of_nonneg hi0]
 refine ⟨fun h=>?_,fun h=>?_⟩<;>simp only [decide_eq_true_eq,decide_eq_false_iff_not] at h
 ·rw [hb,if_pos (by omega)]
  exact ⟨rfl,trivial⟩
 ·have h:¬(l.length:Int)=0:=h
  have m0:=Int.emod_nonneg i h
  have m1:=Int.emod_lt_of_pos i (show 0<(l.length:Int) by omega)
  have d0:0<=i / (l.length:Int):=Int.ediv_nonneg hi0 (by omega)
  have d1:i / (l.length:Int)<=i:=Int.ediv_le_self _ hi0
  rw [hb,if_neg (by omega)]
  generalize l.getD (i % (l.length:Int)).toNat 0=x
  have x0:=Int.emod_nonneg x (show (65536:Int)≠0 by decide)
  have x1:=Int.emod_lt_of_pos x (show (0:Int)<65536 by decide)
  refine ⟨h,by rw [inR_i64]; omega,⟨m0,m1⟩,h,by rw [inR_i64]; omega,by rw [inR_i64]; omega,rfl,trivial⟩
@[go_sem] noncomputable def ERP:Env:=((ERO).add 15 bAtS).add 17 rFIntS
theorem ERP_ok:ERP.Ok:=((ERO_ok).add bAt_ok).add rFInt_ok
theorem bat_nn (l:List Int) {i:Int} (h:0<=i):0<=bat l i:=by
 unfold bat
 split
 ·exact Int.emod_nonneg _ (by decide)
 ·rename_i h1
  have h2:=Int.emod_nonneg (l.getD (i % (l.length:Int)).toNat 0) (show (65536:Int)≠0 by decide)
  have h3:0<=i / (l.length:Int):=Int.ediv_nonneg h (by omega)
  omega
theorem bat_le (l:List Int) {i:Int} (h:0<=i):bat l i<=65535+i:=by
 unfold bat
 split
 ·have:=Int.emod_lt_of_pos i (show (0:Int)<65536 by decide); omega
 ·rename_i h1
  have h2:=Int.emod_lt_of_pos (l.getD (i % (l.length:Int)).toNat 0) (show (0:Int)<65536 by decide)
  have h3:i / (l.length:Int)<=i:=Int.ediv_le_self _ h
  omega
def opR (l:List Int) (i:Nat) (j:Nat):Int:=bat l (4+3*(i:Int)+(j:Int))
def valsR (x:Int):Nat->List Val
 | 0=>[]
 | n+1=>valsR x n++[vInt (1+x / 3 ^ n % 3)]
def schI (i:Nat):Sch:=schs.getD i (zd schT)
def tupR (l:List Int) (i j:Nat):Tup :=
 (valsR (opR l i j) (schI i).2.2.length,qf (if (schI i).2.1=true then 1 else bpr (shrI .i64 (opR l i j) 4)))
def relN (l:List Int) (i:Nat):Nat->Rel
 | 0=>(schI i,[])
 | n+1=>if insE (relN l i n) (tupR l i n)=0 then insR (relN l i n) (tupR l i n) else relN l i n
def cntR (l:List Int) (i:Nat):Nat:=if i=1 then min 2 (bat l 1 % 4).toNat else (bat l i % 4).toNat
theorem cntR_le (l:List Int) (i:Nat):cntR l i<=3:=by
 unfold cntR
 split<;>omega
theorem valsR_len (x:Int):∀ n,(valsR x n).length=n
 | 0=>rfl
 | n+1=>by unfold valsR; rw [List.length_append,valsR_len x n]; rfl
theorem schI_ok {i:Nat} (h:i<4):schOk (schI i)=true/\(schI i).2.2.length<=2:=by
 have:i=0∨i=1∨i=2∨i=3:=by omega
 rcases this with rfl|rfl|rfl|rfl<;>decide +kernel
theorem tupR_ok (l:List Int) {i:Nat} (h:i<4) (j:Nat):cnT (tupR l i j)=tupR l i j/\(tupR l i j).1.length<=2/\fs (tupR l i j).2<=64:=by
 have h1:=(bpr_b (shrI .i64 (opR l i j) 4)).1
 refine ⟨by unfold tupR cnT; rw [fq_qf],by unfold tupR; rw [valsR_len]; exact (schI_ok h).2,?_⟩
 unfold tupR
 rw [fs_qf]
 split
 ·decide +kernel
 ·omega
theorem relN_ok (l:List Int) {i:Nat} (h:i<4):∀ n,n<=3->∃ L:List Tup,relN l i n=(schI i,L)/\vldP (schI i) L/\L.length<=n/\∀ t∈L,cnT t=t/\t.1.length<=2/\fs t.2<=64
 | 0,_=>⟨[],rfl,⟨(schI_ok h).1,by decide,(fun t ht=>by cases ht),List.Pairwise.nil,(fun t ht=>by cases ht)⟩,Nat.le_refl _,fun t ht=>by cases ht⟩
 | n+1,hn=>by
  obtain ⟨L,h1,h2,h3,h4⟩:=relN_ok l h n (by omega)
  have ht:=tupR_ok l h n
  unfold relN
  rw [h1]
  by_cases he:insE (schI i,L) (tupR l i n)=0
  ·rw [if_pos he,insR_ok he (fun u hu=>(h4 u hu).1) ht.1]
   refine ⟨_,rfl,insE_iff.1 he,by rw [insT_len]; omega,fun u hu=>?_⟩
   rcases insT_mem.1 hu with rfl|hu
   ·exact ht
   ·exact h4 u hu
  ·rw [if_neg he]
   exact ⟨L,rfl,h2,by omega,h4⟩
theorem relN_P (l:List Int) {i:Nat} (h:i<4) {n:Nat} (hn:n<=3):relP (relN l i n):=by
 obtain ⟨L,h1,h2,h3,h4⟩:=relN_ok l h n hn
 have:=(schI_ok h).2
 rw [h1]
 exact ⟨(show (schI i).2.2.length<=1000 by omega),(show L.length<=400 by omega),fun t ht=>by have:=h4 t ht; omega⟩
def relsL (l:List Int):List Rel:=(List.range 4).map fun i=>relN l i (cntR l i)
def relQ (l:List Int) (i:Nat):List Rel:=(List.range i).map fun i=>relN l i (cntR l i)
theorem relQ_snoc (l:List Int) (i:Nat):relQ l (i+1)=relQ l i++[relN l i (cntR l i)]:=by
 unfold relQ
 rw [List.range_succ,List.map_append]; rfl
theorem relQ_len (l:List Int) (i:Nat):(relQ l i).length=i:=by unfold relQ; rw [List.length_map,List.length_range]
def relA (r:Rel):AV:=.cons (.dat .str r.1.1) (.cons (.dat .bool r.1.2.1) (.cons (.dat (.slice colT) r.1.2.2) (.cons (.dat (.slice tupT) r.2) .nil)))
theorem both3 {α:Type} {G:Prop} {H:List It->St->Prop} {k:List It} {inv:α->St} {Q:α->Prop} (h1:(∀ x,Q x->H k (inv x))->G) (h2:∀ x,Q x->H k (inv x)):G:=h1 h2
theorem imp4 {p q:Prop}:(p->q->p/\q)=True:=eq_true fun a b=>⟨a,b⟩
theorem div3 (x:Int) (q:Nat):x / 3 ^ q / 3=x / 3 ^ (q+1):=by
 rw [Int.ediv_ediv_of_nonneg (Int.pow_nonneg (by decide)),Int.pow_succ]
@[go_sem] def relsS:Spec:=⟨[.slice (.int .i64)],fun d=>(.dat (.slice relT) (relsL d.1),[])⟩
theorem rels_ok:SpecOk Tryz.prog 4 relsS:=by
 refine fn_ok ERP_ok relsS Tryz.func4 rfl (by decide) (N:=95) rfl (res:=[.tmp 2]) rfl (by decide) [(6,[(24,.ag)]),(11,[(52,.ag)]),(17,[(76,.dt),(1000000,.mx [])]),(22,[(92,.dt)])] [(19,[3])] [14] 100 (by kernel_rfl) ?_
 rintro ⟨l,_⟩ hw hp
 refine ⟨rfl,fun H hH=>?_⟩
 dsimp only [go_sem] at hw hp ⊢
 clear hw
 refine hH.loop (fun i:Nat=>⟨[(5,.dat (.int .i64) (i:Int)),(4,.dat (.slice schT) schs),(3,.own 0),(0,.dat (.slice (.int .i64)) l)],[(0,.row 28 relT (relQ l i))],1⟩) (fun i=>i<=4) (fun i=>4-i) 0 0 (Nat.zero_le _) ?_ ?_
 ·dsimp only [go_sem]
  and_intros<;>first|trivial|rfl|omega
 ·rintro i hi R hm
  refine hH.run 100 _ _ ?_
  dsimp only [go_sem]
  have hl4:schs.length=4:=rfl
  have hzs:∀ k,schs.getD k (zd (Ty.str.pair (Ty.bool.pair (Ty.str.pair ((Ty.int IntKind.i64).pair Ty.bool)).slice)))=schI k:=fun _=>rfl
  simp only [hzs,Int.toNat_natCast]
  refine ⟨fun d=>?_,fun d=>?_⟩
  ·have d:i<4:=by
     have d:(i:Int)<(schs.length:Int):=of_decide_eq_true d
     omega
   have hbi:(0:Int)<=(i:Int)/\(i:Int)<(schs.length:Int):=by omega
   have hsl:=(schI_ok d).2
   refine ⟨hbi,?_⟩
   refine HOk.loop (by assumption) (fun j:Nat=>⟨[(7,.dat (.int .i64) (j:Int)),(6,.ref 1 0),(5,.dat (.int .i64) (i:Int)),(4,.dat (.slice schT) schs),(3,.own 0),(0,.dat (.slice (.int .i64)) l)],[(0,.row 28 relT (relQ l i)),(1,.box 28 (relA (relN l i j)))],2⟩) (fun j=>j<=cntR l i) (fun j=>cntR l i-j) 0 2 (Nat.zero_le _) ?_ ?_
   ·dsimp only [go_sem,relA]
    and_intros<;>first|trivial|rfl|omega
   ·rintro j hj R2 hm2
    dsimp only [relA]
    refine HOk.run (by assumption) 100 _ _ ?_
    dsimp only [go_sem]
    have hj3:=cntR_le l i
    have b0:0<=bat l (i:Int):=bat_nn l (by omega)
    have b1:bat l (i:Int)<=65535+(i:Int):=bat_le l (by omega)
    rw [Int.tmod_eq_emod_of_nonneg b0]
    simp only [imp_self,true_and,imp4,and_true,hzs,Int.toNat_natCast]
    have hc:(decide ((j:Int)<bat l (i:Int) % 4)&&!(decide ((i:Int)=1)&&decide ((j:Int)=2)))=decide (j<cntR l i):=by
     rw [Bool.eq_iff_iff]
     simp only [Bool.and_eq_true,Bool.not_eq_true',Bool.and_eq_false_iff,decide_eq_true_eq,decide_eq_false_iff_not]
     unfold cntR at hj ⊢
     split at hj<;>rename_i e
     ·subst e
      rw [if_pos rfl]
      have:bat l ((1:Nat):Int)=bat l 1:=rfl
      rw [this] at b0 b1 ⊢
      omega
     ·rw [if_neg e]
      omega
    rw [hc]
    have hx:bat l (4+3*(i:Int)+(j:Int))=opR l i j:=rfl
    have x0:0<=opR l i j:=bat_nn l (by omega)
    have x1:opR l i j<=65535+(4+3*(i:Int)+(j:Int)):=bat_le l (by omega)
    simp only [hx]
    obtain ⟨s,hs⟩:∃ s,schI i=s:=⟨_,rfl⟩
    have hpr:(tupR l i j).2=qf (if s.2.1=true then 1 else bpr (shrI .i64 (opR l i j) 4)):=by rw [<-hs]; rfl
    have hst:∀ q,(schI q).2.1=(schI q).2.1:=fun _=>rfl
    simp only [hs]
    rw [hs] at hsl
    refine ⟨(show (0:Int)<=(i:Int)/\(i:Int)<=1000000 by omega),by decide,by rw [inR_i64]; omega,fun d2=>?_,fun d2=>?_⟩
    ·have d2:j<cntR l i:=of_decide_eq_true d2
     refine ⟨by rw [inR_i64]; omega,by rw [inR_i64]; omega,by rw [inR_i64]; omega,(show (0:Int)<=4+3*(i:Int)+(j:Int)/\4+3*(i:Int)+(j:Int)<=1000000 by omega),by decide,hbi,?_⟩
     apply both3 (H:=H) (inv:=fun _:Unit=>⟨[(9,.ref 2 0),(8,.dat (.int .i64) (opR l i j)),(7,.dat (.int .i64) (j:Int)),(6,.ref 1 0),(5,.dat (.int .i64) (i:Int)),(4,.dat (.slice schT) schs),(3,.own 0),(0,.dat (.slice (.int .i64)) l)],[(0,.row 28 relT (relQ l i)),(1,.box 28 (relA (relN l i j))),(2,.box 37 (.cons (.val (.slice none 0 0)) (.cons (.dat .bool (tupR l i j).2.1) (.cons (.dat (.slice (.int .u32)) (tupR l i j).2.2.1) (.cons (.dat (.slice (.int .u32)) (tupR l i j).2.2.2) .nil)))))],3⟩) (Q:=fun _=>True)
     ·intro key
      refine ⟨fun e=>HOk.weak (by assumption) _ 3 ?_ (key () trivial),fun e=>HOk.weak (by assumption) _ 3 ?_ (key () trivial)⟩
      ·have hpr:(tupR l i j).2=qf 1:=by rw [hpr,if_pos e]
       rw [hpr]
       dsimp only [go_sem,relA]
       and_intros<;>first|trivial|rfl|omega
      ·have hpr:(tupR l i j).2=qf (bpr (shrI .i64 (opR l i j) 4)):=by rw [hpr,if_neg (by rw [e]; exact Bool.false_ne_true)]
       rw [hpr]
       dsimp only [go_sem,relA]
       and_intros<;>first|trivial|rfl|omega
     ·rintro ⟨⟩ -
      refine HOk.go (by assumption) [] 100 _ _ ?_
      dsimp only [go_sem]
      refine HOk.loop (by assumption) (fun q:Nat=>⟨[(10,.dat (.int .i64) (q:Int)),(9,.ref 2 0),(8,.dat (.int .i64) (opR l i j / 3 ^ q)),(7,.dat (.int .i64) (j:Int)),(6,.ref 1 0),(5,.dat (.int .i64) (i:Int)),(4,.dat (.slice schT) schs),(3,.own 0),(0,.dat (.slice (.int .i64)) l)],[(0,.row 28 relT (relQ l i)),(1,.box 28 (relA (relN l i j))),(2,.box 37 (.cons (.own 3) (.cons (.dat .bool (tupR l i j).2.1) (.cons (.dat (.slice (.int .u32)) (tupR l i j).2.2.1) (.cons (.dat (.slice (.int .u32)) (tupR l i j).2.2.2) .nil))))),(3,.row 57 valT (valsR (opR l i j) q))],4⟩) (fun q=>q<=s.2.2.length) (fun q=>s.2.2.length-q) 0 3 (Nat.zero_le _) ?_ ?_
      ·dsimp only [go_sem]
       and_intros<;>first|trivial|rfl|omega|simp
      ·rintro q hq R3 hm3
       dsimp only [relA]
       refine HOk.go (by assumption) [] 100 _ _ ?_
       dsimp only [go_sem]
       simp only [hzs,Int.toNat_natCast,hs]
       have y0:0<=opR l i j / 3 ^ q:=Int.ediv_nonneg x0 (Int.pow_nonneg (by decide))
       have y1:opR l i j / 3 ^ q<=opR l i j:=Int.ediv_le_self _ x0
       have y2:=Int.emod_nonneg (opR l i j / 3 ^ q) (show (3:Int)≠0 by decide)
       have y3:=Int.emod_lt_of_pos (opR l i j / 3 ^ q) (show (0:Int)<3 by decide)
       rw [Int.tmod_eq_emod_of_nonneg y0,Int.tdiv_eq_ediv_of_nonneg y0,div3]
       have hvl:=valsR_len (opR l i j) q
       have hvs:valsR (opR l i j) (q+1)=valsR (opR l i j) q++[vInt (1+opR l i j / 3 ^ q % 3)]:=rfl
       have y4:0<=opR l i j / 3 ^ (q+1):=Int.ediv_nonneg x0 (Int.pow_nonneg (by decide))
       have y5:opR l i j / 3 ^ (q+1)<=opR l i j:=Int.ediv_le_self _ x0
       refine ⟨hbi,fun e=>?_,fun e=>?_⟩
       ·have e:q<s.2.2.length:=by
          have e:(q:Int)<(List.length s.2.2:Int):=of_decide_eq_true e
          omega
        refine ⟨by decide,by rw [inR_i64]; omega,by rw [inR_i64]; omega,?_,trivial,by decide,by rw [inR_i64]; omega,by rw [inR_i64]; omega,HOk.ren (by assumption) [(0,0),(1,1),(2,2),(3,4)] 4 rfl rfl (Nat.zero_le _) rfl ?_⟩
        ·rw [hvl]
         show (q+1)*32<=_
         omega
        ·dsimp only [go_sem]
         refine hm3 _ (q+1) 4 e (by omega) ?_
         dsimp only [go_sem]
         rw [hvs]
         and_intros<;>first|trivial|rfl|omega
       ·have e:q=s.2.2.length:=by
          have e:¬(q:Int)<(List.length s.2.2:Int):=of_decide_eq_false e
          omega
        have ht:((valsR (opR l i j) q,(tupR l i j).2):Tup)=tupR l i j:=by
         rw [e,<-hs]; rfl
        have htk:=tupR_ok l d j
        have hrs:relN l i (j+1)=if insE (relN l i j) (tupR l i j)=0 then insR (relN l i j) (tupR l i j) else relN l i j:=rfl
        rw [ht]
        refine ⟨relN_P l d (by omega),by rw [hvl]; omega,fun f=>?_,fun f=>?_⟩
        ·rw [if_pos (of_decide_eq_true f)] at hrs
         refine ⟨by rw [inR_i64]; omega,hm2 _ (j+1) 2 d2 (by omega) ?_⟩
         dsimp only [go_sem,relA]
         rw [hrs]
         and_intros<;>first|trivial|rfl|omega
        ·rw [if_neg (of_decide_eq_false f)] at hrs
         refine ⟨by rw [inR_i64]; omega,hm2 _ (j+1) 2 d2 (by omega) ?_⟩
         dsimp only [go_sem,relA]
         rw [hrs]
         and_intros<;>first|trivial|rfl|omega
    ·have d2:j=cntR l i:=by
       have d2:¬j<cntR l i:=of_decide_eq_false d2
       omega
     refine ⟨?_,by rw [inR_i64]; omega,hm _ (i+1) 1 d (by omega) ?_⟩
     ·rw [relQ_len]
      show (i+1)*72<=_
      omega
     ·dsimp only [go_sem]
      rw [relQ_snoc,<-d2]
      and_intros<;>first|trivial|rfl|omega
  ·have d:i=4:=by
     have d:¬(i:Int)<(schs.length:Int):=of_decide_eq_false d
     omega
   subst d
   exact ⟨rfl,trivial⟩
theorem rels_atI (l:List Int) {i:Nat} (h:i<4):∃ L,(relsL l).getD i rz=((schI i,L):Rel)/\vldP (schI i) L/\L.length<=3/\(schI i).2.2.length<=2/\∀ t∈L,cnT t=t/\t.1.length<=2/\fs t.2<=64:=by
 have h3:=cntR_le l i
 obtain ⟨L,h1,h2,h4,h5⟩:=relN_ok l h (cntR l i) h3
 refine ⟨L,?_,h2,by omega,(schI_ok h).2,h5⟩
 rw [<-h1]
 unfold relsL
 rw [List.getD_eq_getElem?_getD,List.getElem?_map,List.getElem?_range h]
 rfl
theorem relsL_len (l:List Int):(relsL l).length=4:=by unfold relsL; rw [List.length_map,List.length_range]
@[go_sem] noncomputable def ERQ:Env:=(ERP).add 4 relsS
theorem ERQ_ok:ERQ.Ok:=(ERP_ok).add rels_ok
end Go.Proofs.YtkdglhjocffekacGreat.Gx
