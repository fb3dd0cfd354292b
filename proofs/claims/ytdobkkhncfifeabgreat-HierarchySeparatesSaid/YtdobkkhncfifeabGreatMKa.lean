/-
  MKa: K1 K2 K3 K4 in one text.
-/
import Derived.Test.YtdobkkhncfifeabGreatMHd
import Derived.Test.YtdobkkhncfifeabGreatMHc
import Derived.Test.YtdobkkhncfifeabGreatMV
namespace Go.Proofs.YtdobkkhncfifeabGreat.Gx
open Go Go.RowKit Tw B Nt
set_option linter.unusedVariables false
set_option linter.unusedSimpArgs false
set_option maxHeartbeats 4000000
set_option maxRecDepth 20000
def hasR (n:Str) (a:Atom):Bool:=a.2.2.any fun t=>decide (t.1=n)&&decide (n≠[])
theorem hasR_eq (n:Str) (a:Atom):hasR n a=(hasV n a&&decide (n≠[])):=by
 unfold hasR hasV isV
 by_cases h:n=[]
 ·simp [h]
 ·simp [h]
@[go_sem] def rcnS:Spec:=⟨[atomT,.str],fun d=>(.dat .bool (hasR d.2.1 d.1),[List.length d.1.2.2<=2000000])⟩
theorem rcn_ok:SpecOk Tryz.prog 35 rcnS:=by
 refine fn_ok EH5_ok rcnS Tryz.func35 rfl (by decide) (N:=25) rfl (res:=[.tmp 4]) rfl (by decide) [] [] [] 100 (by kernel_rfl) ?_
 rintro ⟨a,nm,_⟩ hw hp
 refine ⟨rfl,fun H hH=>?_⟩
 dsimp only [go_sem] at hw hp ⊢
 obtain ⟨hp,-⟩:=hp
 obtain ⟨rl,ng,l⟩:=a
 change List Term at l
 change Str at nm
 change List.length l<=2000000 at hp
 clear hw
 refine hH.loop (fun i:Nat=>⟨[(5,.dat (.int .i64) (i:Int)),(1,.dat .str nm),(2,.ref 0 0)],[(0,.box 42 (.cons (.dat .str rl) (.cons (.dat .bool ng) (.cons (.dat (.slice termT) l) .nil))))],1⟩) (fun i=>i<=l.length/\(l.take i).any (fun t=>decide (t.1=nm)&&decide (nm≠[]))=false) (fun i=>l.length-i) 0 1 ⟨Nat.zero_le _,rfl⟩ ?_ ?_
 ·dsimp only [go_sem]
  and_intros<;>first|trivial|rfl|omega
 ·rintro i ⟨hi,ha⟩ R hm
  refine hH.run 100 _ _ ?_
  dsimp only [go_sem]
  simp only [Int.toNat_natCast,imp_self,true_and,imp2,and_true]
  refine ⟨fun d=>?_,fun d=>?_⟩<;>simp only [decide_eq_true_eq,decide_eq_false_iff_not] at d
  ·have d:i<l.length:=by omega
   have hb:(0:Int)<=(i:Int)/\(i:Int)<(l.length:Int):=by omega
   have hs:=any_snoc (p:=fun t:Term=>decide (t.1=nm)&&decide (nm≠[])) (zd termT) d
   rw [ha,Bool.false_or] at hs
   refine ⟨hb,fun e=>?_,fun e=>⟨by rw [inR_i64]; omega,hm _ (i+1) 1 ⟨d,by rw [hs]; exact e⟩ (by omega) ?_⟩⟩
   ·have h1:true=hasR nm (rl,ng,l):=by
      unfold hasR
      symm
      rw [List.any_eq_true]
      exact ⟨_,getDm (zd termT) d,e⟩
    exact h1
   ·dsimp only [go_sem]
    and_intros<;>first|trivial|rfl|omega
  ·have d:i=l.length:=by omega
   subst d
   rw [List.take_length] at ha
   exact ha.symm
@[go_sem] noncomputable def EK1:Env:=(EJF).add 35 rcnS
theorem EK1_ok:EK1.Ok:=(EJF_ok).add rcn_ok
@[go_sem] def hasS:Spec:=⟨[.slice .str,.str],fun d=>(.dat .bool (List.any d.1 (fun x=>decide (x=d.2.1))),[List.length d.1<=2000000])⟩
theorem has_ok:SpecOk Tryz.prog 72 hasS:=by
 refine fn_ok EH5_ok hasS Tryz.func72 rfl (by decide) (N:=18) rfl (res:=[.tmp 4]) rfl (by decide) [] [] [] 100 (by kernel_rfl) ?_
 rintro ⟨l,nm,_⟩ hw hp
 refine ⟨rfl,fun H hH=>?_⟩
 dsimp only [go_sem] at hw hp ⊢
 obtain ⟨hp,-⟩:=hp
 change List Str at l
 change Str at nm
 change List.length l<=2000000 at hp
 clear hw
 refine hH.loop (fun i:Nat=>⟨[(5,.dat (.int .i64) (i:Int)),(1,.dat .str nm),(0,.dat (.slice .str) l)],[],0⟩) (fun i=>i<=l.length/\(l.take i).any (fun x=>decide (x=nm))=false) (fun i=>l.length-i) 0 0 ⟨Nat.zero_le _,rfl⟩ ?_ ?_
 ·dsimp only [go_sem]
  and_intros<;>first|trivial|rfl|omega
 ·rintro i ⟨hi,ha⟩ R hm
  refine hH.run 100 _ _ ?_
  dsimp only [go_sem]
  simp only [Int.toNat_natCast]
  refine ⟨fun d=>?_,fun d=>?_⟩<;>simp only [decide_eq_true_eq,decide_eq_false_iff_not] at d
  ·have d:i<l.length:=by omega
   have hb:(0:Int)<=(i:Int)/\(i:Int)<(l.length:Int):=by omega
   have hs:=any_snoc (p:=fun x:Str=>decide (x=nm)) (zd .str) d
   rw [ha,Bool.false_or] at hs
   refine ⟨hb,fun e=>?_,fun e=>⟨by rw [inR_i64]; omega,hm _ (i+1) 0 ⟨d,by rw [hs]; exact e⟩ (by omega) ?_⟩⟩
   ·have h1:true=l.any (fun x=>decide (x=nm)):=by
      symm
      rw [List.any_eq_true]
      exact ⟨_,getDm (zd .str) d,e⟩
    exact ⟨h1,trivial⟩
   ·dsimp only [go_sem]
    and_intros<;>first|trivial|rfl|omega
  ·have d:i=l.length:=by omega
   subst d
   rw [List.take_length] at ha
   exact ⟨ha.symm,trivial⟩
@[go_sem] noncomputable def EK2:Env:=(EK1).add 72 hasS
theorem EK2_ok:EK2.Ok:=(EK1_ok).add has_ok
def vsS (n:List Str) (x:Str):List Str:=if x≠[]/\¬x∈n then n++[x] else n
@[go_sem] def wthM:MSpec:=⟨[.r 9 .str,.d .str],fun d=>⟨[(0,.row 9 .str (vsS d.1 d.2.1))],1,.own 0,[List.length d.1<=2000000]⟩⟩
theorem vsS_len (n:List Str) (x:Str):(vsS n x).length<=n.length+1:=by
 unfold vsS
 split
 ·rw [List.length_append]; exact Nat.le_refl _
 ·omega
theorem wthM_ok:MSpecOk Tryz.prog 53 wthM:=by
 refine fnM_ok EK2_ok wthM Tryz.func53 rfl (by decide) (N:=17) rfl (res:=[.tmp 4]) rfl (by decide) [(3,[(15,.dt)])] [] [] 100 (by kernel_rfl) ?_
 rintro ⟨l,nm,_⟩ hw hp H hH
 dsimp only [go_sem] at hw hp ⊢
 obtain ⟨hp,-⟩:=hp
 change List Str at l
 change Str at nm
 change List.length l<=2000000 at hp
 refine ⟨fun e=>e,fun e=>e,fun _=>hp,fun e=>e,fun e=>?_,fun e=>?_⟩
 ·have hv:l=vsS l nm:=by
    unfold vsS
    rw [if_neg]
    rintro ⟨h1,h2⟩
    rw [Bool.or_eq_true] at e
    rcases e with e|e
    ·exact h1 (of_decide_eq_true e)
    ·obtain ⟨x,hx,h⟩:=List.any_eq_true.1 e
     exact h2 ((of_decide_eq_true h)▸hx)
  and_intros<;>first|trivial|rfl|exact hv|omega
 ·have hv:l++[nm]=vsS l nm:=by
    unfold vsS
    rw [if_pos]
    rw [Bool.or_eq_false_iff] at e
    refine ⟨of_decide_eq_false e.1,fun h=>?_⟩
    have:=List.any_eq_false.1 e.2 nm h
    simp at this
  refine ⟨?_,?_⟩
  ·show (l.length+1)*16<=_
   omega
  ·and_intros<;>first|trivial|rfl|exact hv|omega
@[go_sem] noncomputable def EK3:Env:=(EK2).addM 53 wthM
theorem EK3_ok:EK3.Ok:=(EK2_ok).addM wthM_ok
theorem vrs_app (P:List Term) (t:Term):vrs (P++[t])=vsS (vrs P) t.1:=by
 unfold vrs
 rw [List.foldl_append]
 rfl
theorem vrs_le (P:List Term):(vrs P).length<=P.length:=vrs_len P
@[go_sem] def rvarS:Spec:=⟨[cqT],fun d=>(.dat (.slice .str) (vrs (trm d.1)),[cqP d.1])⟩
theorem rvar_ok:SpecOk Tryz.prog 33 rvarS:=by
 refine fn_ok EK3_ok rvarS Tryz.func33 rfl (by decide) (N:=62) rfl (res:=[.tmp 2]) rfl (by decide) [(8,[(36,.ow)]),(12,[(52,.ow),(60,.ow),(1000000,.mx [(9,8),(10,8),(11,8),(12,8),(13,8),(14,8),(15,8)])])] [(13,[1])] [] 100 (by kernel_rfl) ?_
 rintro ⟨c,_⟩ hw hp
 refine ⟨rfl,fun H hH=>?_⟩
 dsimp only [go_sem] at hw hp ⊢
 obtain ⟨hp,-⟩:=hp
 obtain ⟨l,cs⟩:=c
 change List Atom at l
 change List Cmp at cs
 obtain ⟨hp1,hp2,hp3⟩:=hp
 change List.length l<=1000 at hp1
 change ∀ a∈l,a.2.2.length<=1000 at hp2
 change List.length cs<=1000 at hp3
 clear hw
 have ln:∀ i,i<=l.length->((l.take i).flatMap atT).length<=1000000:=fun i hi=>by
  have:=fm_len atT 1000 (l:=l.take i) fun x hx=>hp2 x (List.mem_of_mem_take hx)
  rw [List.length_take] at this
  have:min i l.length*1000<=1000*1000:=Nat.mul_le_mul_right _ (by omega)
  omega
 have ft:(l.take l.length).flatMap atT=l.flatMap atT:=by rw [List.take_length]
 refine hH.loop (fun i:Nat=>⟨[(4,.dat (.int .i64) (i:Int)),(3,.own 1),(1,.ref 0 0)],[(0,.box 29 (.cons (.dat (.slice atomT) l) (.cons (.dat (.slice cmpT) cs) .nil))),(1,.row 9 .str (vrs ((l.take i).flatMap atT)))],2⟩) (fun i=>i<=l.length) (fun i=>l.length-i) 0 1 (Nat.zero_le _) ?_ ?_
 ·dsimp only [go_sem]
  and_intros<;>first|trivial|rfl|omega
 ·rintro i hi R hm
  refine hH.run 100 _ _ ?_
  dsimp only [go_sem]
  refine ⟨fun d=>?_,fun d=>?_⟩<;>simp only [decide_eq_true_eq,decide_eq_false_iff_not] at d
  ·have d:i<l.length:=by omega
   have hb:(0:Int)<=(i:Int)/\(i:Int)<(l.length:Int):=by omega
   have ha:=hp2 _ (getDm ([],false,[]) d)
   have hz:l.getD i (zd atomT)=l.getD i ([],false,[]):=rfl
   have hs:=fm_snoc atT ([],false,[]) d
   have hat:atT (l.getD i ([],false,[]))=(l.getD i ([],false,[])).2.2:=rfl
   rw [hat] at hs
   obtain ⟨ts,hts⟩:∃ ts,(l.getD i ([],false,[])).2.2=ts:=⟨_,rfl⟩
   rw [hts] at hs ha
   have hl1:=ln i hi
   refine HOk.loop (by assumption) (fun k:Nat=>⟨[(5,.dat (.int .i64) (k:Int)),(4,.dat (.int .i64) (i:Int)),(3,.own 1),(1,.ref 0 0)],[(0,.box 29 (.cons (.dat (.slice atomT) l) (.cons (.dat (.slice cmpT) cs) .nil))),(1,.row 9 .str (vrs ((l.take i).flatMap atT++ts.take k)))],2⟩) (fun k=>k<=ts.length) (fun k=>ts.length-k) 0 2 (Nat.zero_le _) ?_ ?_
   ·dsimp only [go_sem]
    rw [List.take_zero,List.append_nil]
    and_intros<;>first|trivial|rfl|omega
   ·rintro k hk R2 hm2
    refine HOk.run (by assumption) 100 _ _ ?_
    dsimp only [go_sem]
    simp only [Int.toNat_natCast,hz,hts]
    have hle:=vrs_le ((l.take i).flatMap atT++ts.take k)
    rw [List.length_append,List.length_take] at hle
    refine ⟨hb,fun d2=>?_,fun d2=>?_⟩<;>simp only [decide_eq_true_eq,decide_eq_false_iff_not] at d2
    ·have d2:k<ts.length:=by omega
     have hk2:(0:Int)<=(k:Int)/\(k:Int)<(ts.length:Int):=by omega
     have hs2:vrs ((l.take i).flatMap atT++ts.take (k+1))=vsS (vrs ((l.take i).flatMap atT++ts.take k)) (ts.getD k (zd termT)).1:=by
      rw [take_snoc (zd termT) d2,<-List.append_assoc,vrs_app]
     refine ⟨hb,hk2,by omega,by rw [inR_i64]; omega,HOk.ren (by assumption) [(0,0),(1,2)] 2 rfl rfl (Nat.zero_le _) rfl ?_⟩
     dsimp only [go_sem]
     refine hm2 _ (k+1) 2 d2 (by omega) ?_
     dsimp only [go_sem]
     rw [hs2]
     and_intros<;>first|trivial|rfl|omega
    ·have d2:k=ts.length:=by omega
     subst d2
     rw [List.take_length,<-hs]
     refine ⟨by rw [inR_i64]; omega,hm _ (i+1) 2 d (by omega) ?_⟩
     dsimp only [go_sem]
     and_intros<;>first|trivial|rfl|omega
  ·have d:i=l.length:=by omega
   subst d
   clear hm
   rw [ft]
   have hl2:=ln l.length (Nat.le_refl _)
   rw [ft] at hl2
   refine HOk.loop (by assumption) (fun k:Nat=>⟨[(6,.dat (.int .i64) (k:Int)),(3,.own 1),(1,.ref 0 0)],[(0,.box 29 (.cons (.dat (.slice atomT) l) (.cons (.dat (.slice cmpT) cs) .nil))),(1,.row 9 .str (vrs (l.flatMap atT++(cs.take k).flatMap cpT)))],2⟩) (fun k=>k<=cs.length) (fun k=>cs.length-k) 0 2 (Nat.zero_le _) ?_ ?_
   ·dsimp only [go_sem]
    rw [List.take_zero,List.flatMap_nil,List.append_nil]
    and_intros<;>first|trivial|rfl|omega
   ·rintro k hk R2 hm2
    refine HOk.run (by assumption) 100 _ _ ?_
    dsimp only [go_sem]
    simp only [Int.toNat_natCast]
    have hle:=vrs_le (l.flatMap atT++(cs.take k).flatMap cpT)
    have hl3:=fm_len cpT 2 (l:=cs.take k) fun _ _=>Nat.le_refl _
    rw [List.length_append] at hle
    rw [List.length_take] at hl3
    refine ⟨fun d2=>?_,fun d2=>?_⟩<;>simp only [decide_eq_true_eq,decide_eq_false_iff_not] at d2
    ·have d2:k<cs.length:=by omega
     have hk2:(0:Int)<=(k:Int)/\(k:Int)<(cs.length:Int):=by omega
     have hs2:vrs (l.flatMap atT++(cs.take (k+1)).flatMap cpT)=vsS (vsS (vrs (l.flatMap atT++(cs.take k).flatMap cpT)) (cs.getD k (zd cmpT)).2.1.1) (cs.getD k (zd cmpT)).2.2.1:=by
      rw [fm_snoc cpT (zd cmpT) d2,<-List.append_assoc]
      have:cpT (cs.getD k (zd cmpT))=[(cs.getD k (zd cmpT)).2.1]++[(cs.getD k (zd cmpT)).2.2]:=rfl
      rw [this,<-List.append_assoc,vrs_app,vrs_app]
     have hv:=vsS_len (vrs (l.flatMap atT++(cs.take k).flatMap cpT)) (cs.getD k (zd cmpT)).2.1.1
     refine ⟨hk2,by omega,hk2,Nat.le_trans hv (by omega),by rw [inR_i64]; omega,HOk.ren (by assumption) [(0,0),(1,3)] 2 rfl rfl (Nat.zero_le _) rfl ?_⟩
     dsimp only [go_sem]
     refine hm2 _ (k+1) 2 d2 (by omega) ?_
     dsimp only [go_sem]
     rw [hs2]
     and_intros<;>first|trivial|rfl|omega
    ·have d2:k=cs.length:=by omega
     subst d2
     rw [List.take_length]
     exact ⟨rfl,trivial⟩
@[go_sem] noncomputable def EK4:Env:=(EK3).add 33 rvarS
theorem EK4_ok:EK4.Ok:=(EK3_ok).add rvar_ok
@[go_sem] noncomputable def EK5:Env:=EK4
theorem EK5_ok:EK5.Ok:=EK4_ok
end Go.Proofs.YtdobkkhncfifeabGreat.Gx
namespace Go.Proofs.YtdobkkhncfifeabGreat.Gx
open Go Go.RowKit Tw B Nt
set_option linter.unusedVariables false
set_option linter.unusedSimpArgs false
set_option maxHeartbeats 4000000
set_option maxRecDepth 20000
theorem bl_cB:∀ a b:Str,strLt a b=decide (cB a b<0)/\strLt b a=decide (0<cB a b)
 | [],[]=>⟨rfl,rfl⟩
 | [],_::_=>⟨rfl,rfl⟩
 | _::_,[]=>⟨rfl,rfl⟩
 | a::x,b::y=>by
  obtain ⟨h1,h2⟩:=bl_cB x y
  have e1:strLt (a::x) (b::y)=(decide (a<b)||(a == b&&strLt x y)):=rfl
  have e2:strLt (b::y) (a::x)=(decide (b<a)||(b == a&&strLt y x)):=rfl
  have e3:cB (a::x) (b::y)=if a<b then -1 else if b<a then 1 else cB x y:=rfl
  rw [e1,e2,e3,h1,h2]
  have hl:∀ u v:UInt8,u<v↔u.toNat<v.toNat:=fun u v=>UInt8.lt_iff_toNat_lt
  by_cases l1:a<b
  ·have l2:¬b<a:=by rw [hl] at l1 ⊢; omega
   have l3:(b == a)=false:=by
    rw [beq_eq_false_iff_ne]; intro e; subst e; exact l2 l1
   simp [l1,l2,l3]
  ·by_cases l2:b<a
   ·have l3:(a == b)=false:=by
      rw [beq_eq_false_iff_ne]; intro e; subst e; exact l1 l2
    simp [l1,l2,l3]
   ·have l3:a=b:=UInt8.toNat_inj.1 (by rw [hl] at l1 l2; omega)
    subst l3
    simp [l1]
theorem cB_zero:∀ a b:Str,cB a b=0↔a=b
 | [],[]=>by simp [cB,Lib.compareBytes]
 | [],_::_=>by simp [cB,Lib.compareBytes]
 | _::_,[]=>by simp [cB,Lib.compareBytes]
 | a::x,b::y=>by
  have h:=cB_zero x y
  have e3:cB (a::x) (b::y)=if a<b then -1 else if b<a then 1 else cB x y:=rfl
  rw [e3]
  have hl:∀ u v:UInt8,u<v↔u.toNat<v.toNat:=fun u v=>UInt8.lt_iff_toNat_lt
  by_cases l1:a<b
  ·have:a≠b:=by intro e; subst e; rw [hl] at l1; omega
   simp [l1,this]
  ·by_cases l2:b<a
   ·have:a≠b:=by intro e; subst e; rw [hl] at l2; omega
    simp [l1,l2,this]
   ·have l3:a=b:=UInt8.toNat_inj.1 (by rw [hl] at l1 l2; omega)
    subst l3
    simp [l1,h]
@[go_sem] def rvcpS:Spec:=⟨[valT,valT],fun d=>(.dat (.int .i64) (cV d.1 d.2.1),[])⟩
theorem cI_ne {a b:Int} (h:a≠b):cI a b=if a<b then -1 else 1:=by
 unfold cI
 by_cases h1:a<b
 ·rw [if_pos h1,if_pos h1]
 ·rw [if_neg h1,if_neg h1,if_pos (by omega)]
theorem cI_eq {a:Int}:cI a a=0:=by unfold cI; rw [if_neg (by omega),if_neg (by omega)]
theorem cI_zero {a b:Int}:cI a b=0↔a=b:=by
 constructor
 ·intro h
  refine Decidable.byContradiction fun hn=>?_
  rw [cI_ne hn] at h
  split at h<;>cases h
 ·rintro rfl; exact cI_eq
theorem rvcp_ok:SpecOk Tryz.prog 71 rvcpS:=by
 refine fn_ok EK5_ok rvcpS Tryz.func71 rfl (by decide) (N:=39) rfl (res:=[.tmp 4]) rfl (by decide) [] [] [] 100 (by kernel_rfl) ?_
 rintro ⟨a,b,_⟩ hw hp
 refine ⟨rfl,fun H hH=>?_⟩
 dsimp only [go_sem] at hw hp ⊢
 clear hp hw
 obtain ⟨a1,a2,a3⟩:=a
 obtain ⟨b1,b2,b3⟩:=b
 change Int at a1 a2 b1 b2
 change Str at a3 b3
 obtain ⟨h1,-⟩:=bl_cB a3 b3
 rw [h1]
 have hr:=cB_in a3 b3
 have hz:=cB_zero a3 b3
 have hg:(!(decide (cB a3 b3<0)||decide (a3=b3)))=decide (0<cB a3 b3):=by
  by_cases e:a3=b3
  ·rw [decide_eq_true e,hz.2 e]; rfl
  ·have h0:cB a3 b3≠0:=fun h=>e (hz.1 h)
   rw [decide_eq_false e,Bool.or_false]
   by_cases k:cB a3 b3<0
   ·rw [decide_eq_true k,decide_eq_false (by omega)]; rfl
   ·rw [decide_eq_false k,decide_eq_true (by omega)]; rfl
 dsimp only
 rw [hg]
 have hV:cV (a1,a2,a3) (b1,b2,b3)=if cI a1 b1≠0 then cI a1 b1 else if cI a2 b2≠0 then cI a2 b2 else cB a3 b3:=rfl
 rw [hV]
 have k1:∀ {x y:Int},x≠y->cI x y≠0:=fun h e=>h (cI_zero.1 e)
 refine ⟨fun g=>⟨fun k=>⟨?_,trivial⟩,fun k=>⟨?_,trivial⟩⟩,fun g=>⟨fun g2=>⟨fun k=>⟨?_,trivial⟩,fun k=>⟨?_,trivial⟩⟩,fun g2=>⟨fun k=>⟨?_,trivial⟩,fun k=>⟨fun k2=>⟨?_,trivial⟩,fun k2=>⟨?_,trivial⟩⟩⟩⟩⟩<;>simp only [decide_eq_true_eq,decide_eq_false_iff_not,Decidable.not_not] at g k
 ·rw [if_pos (k1 g),cI_ne g,if_pos k]
 ·rw [if_pos (k1 g),cI_ne g,if_neg k]
 ·simp only [decide_eq_true_eq] at g2
  rw [if_neg (by rw [cI_zero.2 g]; simp),if_pos (k1 g2),cI_ne g2,if_pos k]
 ·simp only [decide_eq_true_eq] at g2
  rw [if_neg (by rw [cI_zero.2 g]; simp),if_pos (k1 g2),cI_ne g2,if_neg k]
 ·simp only [decide_eq_false_iff_not,Decidable.not_not] at g2
  rw [if_neg (by rw [cI_zero.2 g]; simp),if_neg (by rw [cI_zero.2 g2]; simp)]; exact (show (-1:Int)=cB a3 b3 by have hr1:(-1:Int)<=cB a3 b3:=hr.1; have hr2:cB a3 b3<=(1:Int):=hr.2; omega)
 ·simp only [decide_eq_false_iff_not,Decidable.not_not,decide_eq_true_eq] at g2 k2
  rw [if_neg (by rw [cI_zero.2 g]; simp),if_neg (by rw [cI_zero.2 g2]; simp)]; exact (show (1:Int)=cB a3 b3 by have hr1:(-1:Int)<=cB a3 b3:=hr.1; have hr2:cB a3 b3<=(1:Int):=hr.2; omega)
 ·simp only [decide_eq_false_iff_not,Decidable.not_not] at g2 k2
  rw [if_neg (by rw [cI_zero.2 g]; simp),if_neg (by rw [cI_zero.2 g2]; simp)]; exact (show (0:Int)=cB a3 b3 by have hr1:(-1:Int)<=cB a3 b3:=hr.1; have hr2:cB a3 b3<=(1:Int):=hr.2; omega)
@[go_sem] noncomputable def EK6:Env:=((EK5).add 71 rvcpS).addM 50 vcpM
theorem EK6_ok:EK6.Ok:=((EK5_ok).add rvcp_ok).addM vcpM_ok
def djT (s t:Term):Bool:=decide (s.1=[])&&decide (t.1=[])&&decide (cV s.2 t.2≠0)
def djI (l m:List Term) (i:Nat):Bool:=djT (l.getD i ([],0,0,[])) (m.getD i ([],0,0,[]))
def djB (a b:Atom):Bool:=decide (a.1≠b.1)||decide (a.2.2.length≠b.2.2.length)||((List.range a.2.2.length).any fun i=>djI a.2.2 b.2.2 i)
theorem range_any_false {n:Nat} {p:Nat->Bool} (h:∀ i,i<n->p i=false):(List.range n).any p=false:=by
 rw [List.any_eq_false]
 intro i hi
 rw [h i (List.mem_range.1 hi)]
 exact Bool.false_ne_true
theorem range_any_true {n i:Nat} {p:Nat->Bool} (hi:i<n) (h:p i=true):(List.range n).any p=true :=
 List.any_eq_true.2 ⟨i,List.mem_range.2 hi,h⟩
@[go_sem] def rdjS:Spec:=⟨[atomT,atomT],fun d=>(.dat .bool (djB d.1 d.2.1),[List.length d.1.2.2<=2000000])⟩
theorem rdj_ok:SpecOk Tryz.prog 51 rdjS:=by
 refine fn_ok EK6_ok rdjS Tryz.func51 rfl (by decide) (N:=59) rfl (res:=[.tmp 4]) rfl (by decide) [] [] [] 100 (by kernel_rfl) ?_
 rintro ⟨a,b,_⟩ hw hp
 refine ⟨rfl,fun H hH=>?_⟩
 dsimp only [go_sem] at hw hp ⊢
 obtain ⟨hp,-⟩:=hp
 obtain ⟨rl,ng,l⟩:=a
 obtain ⟨rm,nh,m⟩:=b
 change List Term at l m
 change List.length l<=2000000 at hp
 clear hw
 have e0:∀ {x:Bool},(decide (rl≠rm)||decide ((l.length:Int)≠(m.length:Int)))=x->(decide (rl≠rm)||decide (l.length≠m.length))=x:=fun h=>by
  rw [<-h]; congr 1; exact decide_eq_decide.2 ⟨fun e f=>e (Int.ofNat.inj f),fun e f=>e (by rw [f])⟩
 simp only [imp_self,true_and]
 refine ⟨fun e=>?_,fun e=>?_⟩
 ·have h1:djB (rl,ng,l) (rm,nh,m)=true:=by
    show (decide (rl≠rm)||decide (l.length≠m.length)||_)=true
    rw [e0 e]; rfl
  rw [h1]
  and_intros<;>first|trivial|rfl|omega
 have e1:=e0 e
 have hlm:m.length=l.length:=by
  rw [Bool.or_eq_false_iff] at e1
  exact (Decidable.not_not.1 (of_decide_eq_false e1.2)).symm
 have hD:djB (rl,ng,l) (rm,nh,m)=(List.range l.length).any fun i=>djI l m i:=by
  show (decide (rl≠rm)||decide (l.length≠m.length)||_)=_
  rw [e1]; rfl
 clear e e0 e1
 refine hH.loop (fun i:Nat=>⟨[(5,.dat (.int .i64) (i:Int)),(3,.ref 1 0),(2,.ref 0 0)],[(0,.box 42 (.cons (.dat .str rl) (.cons (.dat .bool ng) (.cons (.dat (.slice termT) l) .nil)))),(1,.box 42 (.cons (.dat .str rm) (.cons (.dat .bool nh) (.cons (.dat (.slice termT) m) .nil))))],2⟩) (fun i=>i<=l.length/\∀ j,j<i->djI l m j=false) (fun i=>l.length-i) 0 2 ⟨Nat.zero_le _,fun j h=>absurd h (Nat.not_lt_zero _)⟩ ?_ ?_
 ·dsimp only [go_sem]
  and_intros<;>first|trivial|rfl|omega
 ·rintro i ⟨hi,hz⟩ R hm
  refine hH.run 100 _ _ ?_
  dsimp only [go_sem]
  simp only [Int.toNat_natCast,imp_self,true_and,and_true]
  refine ⟨fun d=>?_,fun d=>?_⟩<;>simp only [decide_eq_true_eq,decide_eq_false_iff_not] at d
  ·have d:i<l.length:=by omega
   have hb:(0:Int)<=(i:Int)/\(i:Int)<(l.length:Int):=by omega
   have hb2:(0:Int)<=(i:Int)/\(i:Int)<(m.length:Int):=by omega
   refine ⟨hb,fun _=>hb2,fun _=>hb,fun _=>hb2,fun e=>?_,fun e=>⟨by rw [inR_i64]; omega,hm _ (i+1) 2 ⟨d,fun j hj=>?_⟩ (by omega) ?_⟩⟩
   ·rw [hD]
    exact (range_any_true d e).symm
   ·rcases Nat.lt_or_ge j i with h|h
    ·exact hz j h
    ·have:j=i:=by omega
     rw [this]; exact e
   ·dsimp only [go_sem]
    and_intros<;>first|trivial|rfl|omega
  ·have d:i=l.length:=by omega
   subst d
   rw [hD]
   exact (range_any_false hz).symm
@[go_sem] def djM:MSpec:=⟨[.d atomT,.d atomT],fun d=>⟨[],0,.dat .bool (djB d.1 d.2.1),[List.length d.1.2.2<=2000000]⟩⟩
theorem djM_ok:MSpecOk Tryz.prog 30 djM:=by
 refine fnM_ok EK6_ok djM Tryz.func30 rfl (by decide) (N:=52) rfl (res:=[.tmp 4]) rfl (by decide) [] [] [] 100 (by kernel_rfl) ?_
 rintro ⟨a,b,_⟩ hw hp H hH
 dsimp only [go_sem] at hw hp ⊢
 obtain ⟨hp,-⟩:=hp
 obtain ⟨rl,ng,l⟩:=a
 obtain ⟨rm,nh,m⟩:=b
 change List Term at l m
 change List.length l<=2000000 at hp
 have e0:∀ {x:Bool},(decide (rl≠rm)||decide ((l.length:Int)≠(m.length:Int)))=x->(decide (rl≠rm)||decide (l.length≠m.length))=x:=fun h=>by
  rw [<-h]; congr 1; exact decide_eq_decide.2 ⟨fun e f=>e (Int.ofNat.inj f),fun e f=>e (by rw [f])⟩
 simp only [imp_self,true_and]
 refine ⟨fun e=>?_,fun e=>?_⟩
 ·have h1:djB (rl,ng,l) (rm,nh,m)=true:=by
    show (decide (rl≠rm)||decide (l.length≠m.length)||_)=true
    rw [e0 e]; rfl
  rw [h1]
  and_intros<;>first|trivial|rfl|omega
 have e1:=e0 e
 have hlm:m.length=l.length:=by
  rw [Bool.or_eq_false_iff] at e1
  exact (Decidable.not_not.1 (of_decide_eq_false e1.2)).symm
 have hD:djB (rl,ng,l) (rm,nh,m)=(List.range l.length).any fun i=>djI l m i:=by
  show (decide (rl≠rm)||decide (l.length≠m.length)||_)=_
  rw [e1]; rfl
 clear e e0 e1
 refine hH.loop (fun i:Nat=>⟨[(25,.dat (.int .i64) (i:Int)),(24,.dat (.int .i64) (l.length:Int)),(23,.dat (.slice termT) l),(3,.ref 1 0),(2,.ref 0 0)],[(0,.box 42 (.cons (.dat .str rl) (.cons (.dat .bool ng) (.cons (.dat (.slice termT) l) .nil)))),(1,.box 42 (.cons (.dat .str rm) (.cons (.dat .bool nh) (.cons (.dat (.slice termT) m) .nil))))],2⟩) (fun i=>i<=l.length/\∀ j,j<i->djI l m j=false) (fun i=>l.length-i) 0 2 ⟨Nat.zero_le _,fun j h=>absurd h (Nat.not_lt_zero _)⟩ ?_ ?_
 ·dsimp only [go_sem]
  and_intros<;>first|trivial|rfl|omega
 ·rintro i ⟨hi,hz⟩ R hm
  refine hH.run 100 _ _ ?_
  dsimp only [go_sem]
  simp only [Int.toNat_natCast,imp_self,true_and,and_true]
  refine ⟨fun d=>?_,fun d=>?_⟩<;>simp only [decide_eq_true_eq,decide_eq_false_iff_not] at d
  ·have d:i<l.length:=by omega
   have hb:(0:Int)<=(i:Int)/\(i:Int)<(l.length:Int):=by omega
   have hb2:(0:Int)<=(i:Int)/\(i:Int)<(m.length:Int):=by omega
   refine ⟨hb,hb2,fun e=>?_,fun e=>⟨by rw [inR_i64]; omega,HOk.ren (by assumption) [(0,0),(1,1)] 2 rfl rfl (Nat.zero_le _) rfl ?_⟩⟩
   ·rw [hD]
    exact ⟨⟨Nat.le_refl _,Nat.le_refl _⟩,Nat.le_refl _,(range_any_true d e).symm⟩
   ·dsimp only [go_sem]
    refine hm _ (i+1) 2 ⟨d,fun j hj=>?_⟩ (by omega) ?_
    ·rcases Nat.lt_or_ge j i with h|h
     ·exact hz j h
     ·have:j=i:=by omega
      rw [this]; exact e
    ·dsimp only [go_sem]
     and_intros<;>first|trivial|rfl|omega
  ·have d:i=l.length:=by omega
   subst d
   rw [hD]
   exact ⟨⟨Nat.le_refl _,Nat.le_refl _⟩,Nat.le_refl _,(range_any_false hz).symm⟩
end Go.Proofs.YtdobkkhncfifeabGreat.Gx
namespace Go.Proofs.YtdobkkhncfifeabGreat.Gx
open Go Go.RowKit Tw B Nt
set_option linter.unusedVariables false
set_option linter.unusedSimpArgs false
set_option maxHeartbeats 4000000
set_option maxRecDepth 20000
@[go_sem] def rsjS:Spec:=⟨[cqT],fun d=>(.dat .bool (sjB d.1.1),[cqP d.1])⟩
@[go_sem] noncomputable def EK7:Env:=((EK6).add 51 rdjS).addM 30 djM
theorem EK7_ok:EK7.Ok:=((EK6_ok).add rdj_ok).addM djM_ok
def atC (c:Cq) (i:Int):Atom:=c.1.getD i.toNat ([],false,[])
def lkV (c:Cq) (i k:Int) (v:Str):Bool:=hasR v (atC c i)&&hasR v (atC c k)
def lkC (c:Cq) (i k:Int) (q:Cmp):Bool:=decide (q.2.1.1≠[])&&decide (q.2.2.1≠[])&&(hasR q.2.1.1 (atC c i)||hasR q.2.2.1 (atC c i))&&(hasR q.2.1.1 (atC c k)||hasR q.2.2.1 (atC c k))
def lkB (c:Cq) (i k:Int):Bool:=(vrs (trm c)).any (lkV c i k)||c.2.any (lkC c i k)
@[go_sem] def lkdS:Spec:=⟨[cqT,.int .i64,.int .i64],fun d=>(.dat .bool (lkB d.1 d.2.1 d.2.2.1),[cqP d.1,0<=d.2.1/\d.2.1<(List.length d.1.1:Int)/\0<=d.2.2.1/\d.2.2.1<(List.length d.1.1:Int)])⟩
@[go_sem] noncomputable def EK8:Env:=EK7
theorem EK8_ok:EK8.Ok:=EK7_ok
end Go.Proofs.YtdobkkhncfifeabGreat.Gx
namespace Go.Proofs.YtdobkkhncfifeabGreat.Gx
open Go Go.RowKit Tw B Nt
set_option linter.unusedVariables false
set_option linter.unusedSimpArgs false
set_option maxHeartbeats 4000000
set_option maxRecDepth 20000
@[go_sem] noncomputable def EK9:Env:=EK8
theorem EK9_ok:EK9.Ok:=EK8_ok
@[go_sem] noncomputable def EKA:Env:=EK9
theorem EKA_ok:EKA.Ok:=EK9_ok
@[go_sem] noncomputable def EKB:Env:=EKA
theorem EKB_ok:EKB.Ok:=EKA_ok
end Go.Proofs.YtdobkkhncfifeabGreat.Gx
