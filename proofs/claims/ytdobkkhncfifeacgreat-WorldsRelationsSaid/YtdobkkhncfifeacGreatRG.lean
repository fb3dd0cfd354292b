/-
  The reference's blocks.
-/
import Derived.Test.YtdobkkhncfifeacGreatMR3
import Derived.Test.YtdobkkhncfifeacGreatI4
namespace Go.Proofs.YtdobkkhncfifeacGreat.Gx
open Go Go.RowKit Tw B Nt
set_option linter.unusedVariables false
set_option linter.unusedSimpArgs false
set_option maxHeartbeats 4000000
set_option maxRecDepth 20000
theorem any_len {cs:List Col}:(cs.any fun c=>c.2.2)=false↔((List.range cs.length).filter fun i=>(cs.getD i cz).2.2).length=0:=by
 rw [List.length_eq_zero_iff,List.filter_eq_nil_iff,List.any_eq_false]
 constructor
 ·intro h i hi
  exact h _ (getDm cz (List.mem_range.1 hi))
 ·intro h x hx
  obtain ⟨j,hj,e⟩:=List.mem_iff_getElem.1 hx
  have:=h j (List.mem_range.2 hj)
  rw [List.getD_eq_getElem?_getD,List.getElem?_eq_getElem hj,Option.getD_some,e] at this
  exact this
theorem keyed_len {s:Sch} {l:List Tup} (h:lenR (s,l)) {i:Nat} (hi:i<l.length):(s.2.2.any fun c=>c.2.2)=false↔(kfR (s,l) i).length=0:=by
 rw [any_len,kfR_len h hi]
@[go_sem] def rgrpS:Spec:=⟨[relT],fun d=>(.dat (.slice (.slice (.int .i64))) (grpB d.1),[relP d.1,lenR d.1])⟩
theorem rgrp_ok:SpecOk Tryz.prog 45 rgrpS:=by
 refine fn_ok ER8_ok rgrpS Tryz.func45 rfl (by decide) (N:=92) rfl (res:=[.tmp 2]) rfl (by decide) [(9,[(29,.ns),(30,.ns)]),(18,[(74,.dt),(75,.ns)]),(20,[(1000000,.mx [(9000000,0)])])] [] [19] 100 (by kernel_rfl) ?_
 rintro ⟨r,_⟩ hw hp
 refine ⟨rfl,fun H hH=>?_⟩
 dsimp only [go_sem] at hw hp ⊢
 obtain ⟨hp,hle,-⟩:=hp
 obtain ⟨s,l⟩:=r
 change List Tup at l
 obtain ⟨hp1,hp2,hp3⟩:=hp
 change l.length<=400 at hp2
 clear hw
 refine ⟨fun hc=>⟨by unfold grpB; rw [if_pos hc],trivial⟩,fun hc=>?_⟩
 have hgb:grpB (s,l)=(blkS (kfR (s,l)) l.length).2:=by unfold grpB; rw [if_neg (by rw [hc]; exact Bool.false_ne_true)]
 refine ⟨hp1,?_⟩
 refine hH.hand (fun H hH hh=>?_) (by kernel_rfl)
 refine hH.loop (fun i:Nat=>⟨[(5,.dat (.int .i64) (i:Int)),(4,.dat .bool (s.2.2.any fun c=>c.2.2)),(3,.sli 1 (blkS (kfR (s,l)) i).2.length),(1,.ref 0 0)],[(0,.box 30 (.cons (.dat .str s.1) (.cons (.dat .bool s.2.1) (.cons (.dat (.slice colT) s.2.2) (.cons (.dat (.slice tupT) l) .nil))))),(1,.nrow 22 false 2 none),(2,.bag 3 (.int .i64) (blkS (kfR (s,l)) i).2)],3⟩) (fun i=>i<=l.length) (fun i=>l.length-i) 0 1 (Nat.zero_le _) ?_ ?_
 ·dsimp only [go_sem]
  and_intros<;>first|trivial|rfl|omega
 ·rintro i hi R hm
  refine hH.run 100 _ _ ?_
  dsimp only [go_sem]
  simp only [Int.toNat_natCast]
  have hkf:keyL s.2.2 (l.getD i (zd tupT)).1=kfR (s,l) i:=rfl
  have hkd:i<l.length->((s.2.2.any fun c=>c.2.2)=false↔(kfR (s,l) i).length=0):=fun d=>keyed_len hle d
  have hbi:=blk_inv (kfR (s,l)) i
  have hst:blkS (kfR (s,l)) (i+1)=if (kfR (s,l) i).length=0 then (insL (blkS (kfR (s,l)) i).1 (blkS (kfR (s,l)) i).2.length [kfR (s,l) i],insL (blkS (kfR (s,l)) i).2 (blkS (kfR (s,l)) i).2.length [[(i:Int)]])
   else if hasK (blkS (kfR (s,l)) i).1 (kfR (s,l) i)=true then ((blkS (kfR (s,l)) i).1,(blkS (kfR (s,l)) i).2.set (posK (blkS (kfR (s,l)) i).1 (kfR (s,l) i)) ((blkS (kfR (s,l)) i).2.getD (posK (blkS (kfR (s,l)) i).1 (kfR (s,l) i)) []++[(i:Int)]))
   else (insL (blkS (kfR (s,l)) i).1 (posK (blkS (kfR (s,l)) i).1 (kfR (s,l) i)) [kfR (s,l) i],insL (blkS (kfR (s,l)) i).2 (posK (blkS (kfR (s,l)) i).1 (kfR (s,l) i)) [[(i:Int)]]):=rfl
  have hkl:∀ j,(kfR (s,l) j).length<=1000:=fun j=>keyL_len hp1
  have hki:=hkl i
  have hlen:=hbi.len
  have hble:=hbi.le
  have hel:=hbi.el
  have hhd:=hbi.hd
  have hKl:∀ e∈(blkS (kfR (s,l)) i).1,e.length<=1000:=fun e he=>by
   obtain ⟨j,_,rfl⟩:=hbi.ke e he
   exact hkl j
  have hfin:i=l.length->(blkS (kfR (s,l)) i).2=grpB (s,l):=fun e=>by rw [hgb,e]
  clear hbi
  simp only [hkf]
  have hkfr:∀ j:Nat,keyL s.2.2 (l.getD j (zd tupT)).1=kfR (s,l) j:=fun _=>rfl
  generalize blkS (kfR (s,l)) i=S at hst hlen hble hel hhd hKl hfin ⊢
  generalize hk:kfR (s,l) i=k at hst hki hkd ⊢
  obtain ⟨K,B⟩:=S
  dsimp only at hst hlen hble hel hhd hKl hfin ⊢
  have hi1:i<l.length->inR .i64 ((i:Int)+1):=fun d=>by rw [inR_i64]; omega
  refine ⟨fun d=>⟨fun e=>?_,fun e=>?_⟩,fun d=>?_⟩
  ·have d:i<l.length:=by have d:(i:Int)<(l.length:Int):=of_decide_eq_true d; omega
   have e:k.length=0:=(hkd d).1 (by simpa using e)
   rw [if_pos e] at hst
   refine ⟨?_,⟨trivial,trivial⟩,hi1 d,hH.ren [(0,0),(1,6),(2,7)] 3 rfl rfl (Nat.zero_le _) rfl ?_⟩
   ·show (B.length+1)*24<=_
    omega
   ·dsimp only [go_sem]
    refine hm _ (i+1) 3 d (by omega) ?_
    dsimp only [go_sem]
    rw [hst]
    have e2:insL B B.length [[(i:Int)]]=B++[[(i:Int)]]:=by unfold insL; rw [List.take_length,List.drop_length,List.append_nil]
    simp only [e2]
    and_intros<;>first|trivial|rfl|omega
  ·have d:i<l.length:=by have d:(i:Int)<(l.length:Int):=of_decide_eq_true d; omega
   have hb:(0:Int)<=(i:Int)/\(i:Int)<(l.length:Int):=by omega
   have e:k.length≠0:=fun h=>by
    have:=(hkd d).2 h
    rw [this] at e
    cases e
   rw [if_neg e] at hst
   refine ⟨hb,hp1,?_⟩
   refine hH.loop (fun q:Nat=>⟨[(8,.dat .bool false),(7,.dat (.int .i64) (q:Int)),(6,.dat (.slice valT) k),(5,.dat (.int .i64) (i:Int)),(4,.dat .bool (s.2.2.any fun c=>c.2.2)),(3,.sli 1 B.length),(1,.ref 0 0)],[(0,.box 30 (.cons (.dat .str s.1) (.cons (.dat .bool s.2.1) (.cons (.dat (.slice colT) s.2.2) (.cons (.dat (.slice tupT) l) .nil))))),(1,.nrow 22 false 2 none),(2,.bag 3 (.int .i64) B)],3⟩) (fun q=>q<=B.length/\∀ a,a<q->cT (K.getD a []) k<0) (fun q=>B.length-q) 0 3 ⟨Nat.zero_le _,fun a h=>absurd h (Nat.not_lt_zero _)⟩ ?_ ?_
   ·dsimp only [go_sem]
    and_intros<;>first|trivial|rfl|omega
   ·rintro q ⟨hq,hlt⟩ R2 hm2
    refine hH.run 100 _ _ ?_
    dsimp only [go_sem]
    simp only [Int.toNat_natCast]
    apply both1 (H:=H) (inv:=fun p:Nat=>⟨[(7,.dat (.int .i64) (p:Int)),(5,.dat (.int .i64) (i:Int)),(4,.dat .bool (s.2.2.any fun c=>c.2.2)),(3,.sli 1 B.length),(1,.ref 0 0)],[(0,.box 30 (.cons (.dat .str s.1) (.cons (.dat .bool s.2.1) (.cons (.dat (.slice colT) s.2.2) (.cons (.dat (.slice tupT) l) .nil))))),(1,.nrow 22 false 2 none),(2,.bag 3 (.int .i64) B)],3⟩) (Q:=fun p=>p<=B.length/\blkS (kfR (s,l)) (i+1)=(insL K p [k],insL B p [[(i:Int)]]))
    ·intro key
     have hKq:q<B.length->keyL s.2.2 (l.getD (Int.toNat ((B.getD q []).getD (Int.toNat 0) (zd (.int .i64)))) (zd tupT)).1=K.getD q []:=fun d2=>hhd q d2
     have hKe:q<B.length->(K.getD q []).length<=1000:=fun d2=>hKl _ (getDm [] (show q<K.length by omega))
     have hidx:q<B.length->0<(B.getD q []).length/\0<=(B.getD q []).getD (Int.toNat 0) (zd (.int .i64))/\(B.getD q []).getD (Int.toNat 0) (zd (.int .i64))<(l.length:Int):=fun d2=>by
      obtain ⟨g1,g2,g3⟩:=hel _ (getDm [] d2)
      have hp0:0<(B.getD q []).length:=List.length_pos_iff.2 g1
      have:=g3 _ (getDm (0:Int) (show 0<(B.getD q []).length from hp0))
      refine ⟨hp0,this.1,?_⟩
      have h2:=this.2
      show (B.getD q []).getD 0 0<(l.length:Int)
      omega
     have hBl:q<B.length->(B.getD q []).length<=i:=fun d2=>(hel _ (getDm [] d2)).2.1
     obtain ⟨X,hXe⟩:∃ X,keyL s.2.2 (l.getD (Int.toNat ((B.getD q []).getD (Int.toNat 0) (zd (.int .i64)))) (zd tupT)).1=X:=⟨_,rfl⟩
     rw [hXe] at hKq
     simp only [hXe]
     have hb1:inR .i64 ((i:Int)+1):=hi1 d
     refine ⟨fun d2=>?_,fun d2=>?_⟩
     ·have d2:q<B.length:=by have d2:(q:Int)<(B.length:Int):=of_decide_eq_true d2; omega
      have hb2:(0:Int)<=(q:Int)/\(q:Int)<(B.length:Int):=by omega
      obtain ⟨g1,g2,g3⟩:=hidx d2
      have hX:=hKq d2
      have hXl:X.length<=1000:=by rw [hX]; exact hKe d2
      have hBl:=hBl d2
      have hpos:0<=cT X k->posK K k=q:=fun h0=>posK_eq (by omega) hlt fun _=>by rw [<-hX]; exact h0
      refine ⟨hb2,d2,⟨Int.le_refl _,by show (0:Int)<((B.getD q []).length:Int); omega⟩,g1,⟨g2,g3⟩,hp1,⟨by omega,by omega⟩,fun c0=>⟨fun c1=>?_,fun c1=>?_⟩,fun c0=>?_⟩
      ·have c1:cT X k=0:=of_decide_eq_true c1
       have hp:=hpos (by omega)
       have hh:hasK K k=true:=hasK_iff.2 (by rw [hp]; exact ⟨by omega,by rw [<-hX]; exact (cT_eq _ _).1 c1⟩)
       rw [if_pos hh,hp] at hst
       refine ⟨hb2,d2,?_,trivial,hb2,⟨trivial,trivial⟩,hb1,hH.ren [(0,0),(1,1),(2,3)] 3 rfl rfl (Nat.zero_le _) rfl ?_⟩
       ·show ((B.getD q []).length+1)*8<=_
        omega
       ·dsimp only [go_sem]
        refine hm _ (i+1) 3 d (by omega) ?_
        dsimp only [go_sem]
        rw [hst]
        and_intros<;>first|trivial|rfl|omega|(simp only [List.length_set])
      ·have c0:0<=cT X k:=of_decide_eq_true c0
       have c1:¬cT X k=0:=of_decide_eq_false c1
       have hp:=hpos c0
       have hh:hasK K k=false:=by
        cases h:hasK K k with
        | false=>rfl
        | true =>
         have:=(hasK_iff.1 h).2
         rw [hp,<-hX] at this
         exact absurd ((cT_eq _ _).2 this) c1
       rw [if_neg (by rw [hh]; exact Bool.false_ne_true),hp] at hst
       refine hH.weak _ 3 ?_ (key q ⟨by omega,hst⟩)
       dsimp only [go_sem]
       and_intros<;>first|trivial|rfl|omega
      ·have c0:¬0<=cT X k:=of_decide_eq_false c0
       have hcf:decide (cT X k=0)=false:=decide_eq_false fun h=>c0 (by rw [h]; exact Int.le_refl _)
       refine ⟨by rw [inR_i64]; omega,hm2 _ (q+1) 3 ⟨d2,fun a ha=>?_⟩ (by omega) ?_⟩
       ·rcases Nat.lt_or_ge a q with h'|h'
        ·exact hlt a h'
        ·have:a=q:=by omega
         rw [this,<-hX]; exact Int.not_le.1 c0
       ·dsimp only [go_sem]
        and_intros<;>first|trivial|rfl|exact hcf|exact hcf.symm|omega
     ·have d2:q=B.length:=by have d2:¬(q:Int)<(B.length:Int):=of_decide_eq_false d2; omega
      have hp:posK K k=q:=posK_eq (by omega) hlt fun h=>by omega
      have hh:hasK K k=false:=by
       cases h:hasK K k with
       | false=>rfl
       | true=>have:=(hasK_iff.1 h).1; omega
      rw [if_neg (by rw [hh]; exact Bool.false_ne_true),hp] at hst
      refine ⟨fun h=>Bool.noConfusion h,fun _=>hH.weak _ 3 ?_ (key q ⟨hq,hst⟩)⟩
      dsimp only [go_sem]
      and_intros<;>first|trivial|rfl|omega
    ·rintro p ⟨hpb,hst⟩
     refine refgrp_H hh (c:=1) (d:=2) (n:=B.length) (p:=p) (i:=(i:Int)) (sl:=[(5,.dat (.int .i64) (i:Int)),(4,.dat .bool (s.2.2.any fun c=>c.2.2)),(1,.ref 0 0)]) (Tss:=60) (T:=22) (Ti:=3) (by kernel_rfl) (by kernel_rfl) (ER8_ok.fact rfl) (ER8_ok.fact rfl) rfl (by decide) rfl rfl rfl rfl rfl rfl (show 91<92 by decide) (by kernel_rfl) (by kernel_rfl) ?_ rfl hpb (by omega) ?_
     ·intro t x hx
      have hx:=get?_mem hx
      simp only [List.mem_cons,Prod.mk.injEq,List.not_mem_nil,or_false] at hx
      rcases hx with ⟨rfl,rfl⟩|⟨rfl,rfl⟩|⟨rfl,rfl⟩
      ·exact ⟨rfl,(show 5<92 by decide),by decide,by decide,by decide⟩
      ·exact ⟨rfl,(show 4<92 by decide),by decide,by decide,by decide⟩
      ·exact ⟨rfl,(show 1<92 by decide),by decide,by decide,by decide⟩
     ·refine hH.run 100 _ _ ?_
      dsimp only [go_sem]
      refine ⟨hi1 d,hH.ren [(0,0),(1,3),(2,4)] 3 rfl rfl (Nat.zero_le _) rfl ?_⟩
      dsimp only [go_sem]
      refine hm _ (i+1) 3 d (by omega) ?_
      dsimp only [go_sem]
      rw [hst]
      simp only [insL_len,List.length_singleton]
      and_intros<;>first|trivial|rfl|omega
  ·have d:i=l.length:=by have d:¬(i:Int)<(l.length:Int):=of_decide_eq_false d; omega
   exact ⟨hfin d,trivial⟩
@[go_sem] noncomputable def ERI:Env:=(ER8).add 45 rgrpS
end Go.Proofs.YtdobkkhncfifeacGreat.Gx
