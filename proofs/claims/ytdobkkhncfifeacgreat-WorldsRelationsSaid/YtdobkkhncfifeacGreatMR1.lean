/-
  R1, R2, R3, R4, in one text: see the remarks at the head of each part.
-/
import Derived.Test.YtdobkkhncfifeacGreatMV
import Derived.Test.YtdobkkhncfifeacGreatMDb
import Derived.Test.YtdobkkhncfifeacGreatMI
namespace Go.Proofs.YtdobkkhncfifeacGreat.Gx
open Go Go.RowKit Tw B Nt
set_option linter.unusedVariables false
set_option linter.unusedSimpArgs false
set_option maxHeartbeats 4000000
set_option maxRecDepth 20000
def letB (c:Int):Bool:=(decide (65<=c)&&decide (c<=90))||(decide (97<=c)&&decide (c<=122))
def othI (c:Int):Bool:=(decide (48<=c)&&decide (c<=57))||decide (c=95)
def nmBad (s:Str) (i:Nat):Bool:=!letB (strAt s i)&&(decide (i=0)||!othI (strAt s i))
def nmOk (s:Str):Bool:=decide (1<=s.length/\s.length<=24)&&(List.range s.length).all fun i=>!nmBad s i
theorem nmOk_len {s:Str} (h:¬(1<=s.length/\s.length<=24)):nmOk s=false:=by
 unfold nmOk; rw [decide_eq_false h]; rfl
theorem nmOk_bad {s:Str} {i:Nat} (hi:i<s.length) (h:nmBad s i=true):nmOk s=false:=by
 unfold nmOk
 rw [Bool.and_eq_false_iff]
 right
 rw [List.all_eq_false]
 exact ⟨i,List.mem_range.2 hi,by rw [h]; simp⟩
theorem nmOk_all {s:Str} (h:1<=s.length/\s.length<=24) (ha:∀ j,j<s.length->nmBad s j=false):nmOk s=true:=by
 unfold nmOk
 rw [decide_eq_true h,Bool.true_and,List.all_eq_true]
 intro j hj
 rw [ha j (List.mem_range.1 hj)]; rfl
@[go_sem] noncomputable def ER1:Env:=((((((((((E6).add 123 nan1S).add 124 nan2S).add 102 cmp1S).add 103 cmp2S).add 104 scpS).add 101 orIS).addM 76 vcpM).addM 75 cfVM).add 38 vctS).addM 80 insKM
theorem ER1_ok:ER1.Ok:=((((((((((E6_ok).add nan1_ok).add nan2_ok).add cmp1_ok).add cmp2_ok).add scp_ok).add orI_ok).addM vcpM_ok).addM cfVM_ok).add vct_ok).addM insKM_ok
@[go_sem] def vnmS:Spec:=⟨[.str],fun d=>(.dat .bool (nmOk d.1),[])⟩
theorem vnm_ok:SpecOk Tryz.prog 72 vnmS:=by
 refine fn_ok ER1_ok vnmS Tryz.func72 rfl (by decide) (N:=58) rfl (res:=[.tmp 2]) rfl (by decide) [] [] [] 100 (by kernel_rfl) ?_
 rintro ⟨s,_⟩ hw hp
 refine ⟨rfl,fun H hH=>?_⟩
 dsimp only [go_sem] at hw hp ⊢
 clear hp hw
 change Str at s
 simp only [imp_self,imp3,true_and,and_true]
 refine ⟨fun h=>?_,fun h=>?_⟩
 ·simp only [Bool.or_eq_true,decide_eq_true_eq] at h
  exact (nmOk_len (by omega)).symm
 simp only [Bool.or_eq_false_iff,decide_eq_false_iff_not] at h
 have hl:1<=s.length/\s.length<=24:=by omega
 refine hH.loop (fun i:Nat=>⟨[(3,.dat (.int .i64) (i:Int)),(0,.dat .str s)],[],0⟩) (fun i=>i<=s.length/\∀ j,j<i->nmBad s j=false) (fun i=>s.length-i) 0 0 ⟨Nat.zero_le _,fun j h=>absurd h (Nat.not_lt_zero _)⟩ ?_ ?_
 ·dsimp only [go_sem]
  and_intros<;>first|trivial|rfl|omega
 ·rintro i ⟨hi,hz⟩ R hm
  refine hH.run 200 _ _ ?_
  dsimp only [go_sem]
  simp only [imp_self,imp3,true_and,and_true]
  refine ⟨fun d=>?_,fun d=>?_⟩<;>simp only [decide_eq_true_eq,decide_eq_false_iff_not] at d
  ·have d:i<s.length:=by omega
   have hb:(0:Int)<=(i:Int)/\(i:Int)<(s.length:Int):=by omega
   have hi1:inR .i64 ((i:Int)+1):=by rw [inR_i64]; omega
   have hnb:nmBad s i=(!((decide (65<=strAt s i)&&decide (strAt s i<=90))||(decide (97<=strAt s i)&&decide (strAt s i<=122)))&&(decide ((i:Int)=0)||!((decide (48<=strAt s i)&&decide (strAt s i<=57))||decide (strAt s i=95)))):=by
    unfold nmBad letB othI
    have:decide (i=0)=decide ((i:Int)=0):=decide_eq_decide.2 (by omega)
    rw [this]
   rw [<-hnb]
   simp only [hb.1,hb.2,and_self,implies_true,true_and]
   refine ⟨fun h=>(nmOk_bad d h).symm,fun h=>⟨hi1,hm _ (i+1) 0 ⟨d,fun j hj=>?_⟩ (by omega) ?_⟩⟩
   ·rcases Nat.lt_or_ge j i with h'|h'
    ·exact hz j h'
    ·have:j=i:=by omega
     rw [this]; exact h
   ·dsimp only [go_sem]
    and_intros<;>first|trivial|rfl|omega
  ·have d:i=s.length:=by omega
   subst d
   exact (nmOk_all hl hz).symm
@[go_sem] def rvnmS:Spec:=⟨[.str],fun d=>(.dat .bool (nmOk d.1),[])⟩
theorem rvnm_ok:SpecOk Tryz.prog 87 rvnmS:=by
 refine fn_ok ER1_ok rvnmS Tryz.func87 rfl (by decide) (N:=68) rfl (res:=[.tmp 2]) rfl (by decide) [] [] [] 100 (by kernel_rfl) ?_
 rintro ⟨s,_⟩ hw hp
 refine ⟨rfl,fun H hH=>?_⟩
 dsimp only [go_sem] at hw hp ⊢
 clear hp hw
 change Str at s
 simp only [imp_self,imp3,true_and,and_true]
 refine ⟨fun h=>?_,fun h=>?_⟩
 ·simp only [Bool.or_eq_true,decide_eq_true_eq] at h
  exact (nmOk_len (by omega)).symm
 simp only [Bool.or_eq_false_iff,decide_eq_false_iff_not] at h
 have hl:1<=s.length/\s.length<=24:=by omega
 refine hH.loop (fun i:Nat=>⟨[(3,.dat (.int .i64) (i:Int)),(0,.dat .str s)],[],0⟩) (fun i=>i<=s.length/\∀ j,j<i->nmBad s j=false) (fun i=>s.length-i) 0 0 ⟨Nat.zero_le _,fun j h=>absurd h (Nat.not_lt_zero _)⟩ ?_ ?_
 ·dsimp only [go_sem]
  and_intros<;>first|trivial|rfl|omega
 ·rintro i ⟨hi,hz⟩ R hm
  refine hH.run 200 _ _ ?_
  dsimp only [go_sem]
  simp only [imp_self,imp3,true_and,and_true]
  refine ⟨fun d=>?_,fun d=>?_⟩<;>simp only [decide_eq_true_eq,decide_eq_false_iff_not] at d
  ·have d:i<s.length:=by omega
   have hb:(0:Int)<=(i:Int)/\(i:Int)<(s.length:Int):=by omega
   have hi1:inR .i64 ((i:Int)+1):=by rw [inR_i64]; omega
   have hnb:nmBad s i=(!((decide (97<=strAt s i)&&decide (strAt s i<=122))||(decide (65<=strAt s i)&&decide (strAt s i<=90)))&&(decide ((i:Int)=0)||!((decide (48<=strAt s i)&&decide (strAt s i<=57))||decide (strAt s i=95)))):=by
    unfold nmBad letB othI
    have:decide (i=0)=decide ((i:Int)=0):=decide_eq_decide.2 (by omega)
    rw [this,Bool.or_comm (decide (65<=strAt s i)&&decide (strAt s i<=90))]
   rw [<-hnb]
   simp only [hb.1,hb.2,and_self,implies_true,true_and]
   refine ⟨fun h=>(nmOk_bad d h).symm,fun h=>⟨hi1,hm _ (i+1) 0 ⟨d,fun j hj=>?_⟩ (by omega) ?_⟩⟩
   ·rcases Nat.lt_or_ge j i with h'|h'
    ·exact hz j h'
    ·have:j=i:=by omega
     rw [this]; exact h
   ·dsimp only [go_sem]
    and_intros<;>first|trivial|rfl|omega
  ·have d:i=s.length:=by omega
   subst d
   exact (nmOk_all hl hz).symm
end Go.Proofs.YtdobkkhncfifeacGreat.Gx
namespace Go.Proofs.YtdobkkhncfifeacGreat.Gx
open Go Go.RowKit Tw B Nt
set_option linter.unusedVariables false
set_option linter.unusedSimpArgs false
set_option maxHeartbeats 4000000
set_option maxRecDepth 20000
@[reducible,go_sem] def colT:Ty:=.pair .str (.pair (.int .i64) .bool)
@[reducible,go_sem] def schT:Ty:=.pair .str (.pair .bool (.slice colT))
abbrev Col:=Str×Int×Bool
abbrev Sch:=Str×Bool×List Col
def cz:Col:=([],0,false)
def colBad (b:Bool) (c:Col):Bool:=(!nmOk c.1||(decide (c.2.1≠1)&&decide (c.2.1≠2)))||(b&&c.2.2)
def colDup (l:List Col) (i:Nat):Bool:=(l.take i).any fun x=>decide (x.1=(l.getD i cz).1)
def schHd (s:Sch):Bool:=(!nmOk s.1||decide (s.2.2.length<1))||decide (6<s.2.2.length)
def schOk (s:Sch):Bool:=!schHd s&&(List.range s.2.2.length).all fun i=>!colBad s.2.1 (s.2.2.getD i cz)&&!colDup s.2.2 i
theorem schOk_hd {s:Sch} (h:schHd s=true):schOk s=false:=by unfold schOk; rw [h]; rfl
theorem schOk_at {s:Sch} {i:Nat} (hi:i<s.2.2.length) (h:colBad s.2.1 (s.2.2.getD i cz)=true∨colDup s.2.2 i=true):schOk s=false:=by
 unfold schOk
 rw [Bool.and_eq_false_iff]
 right
 rw [List.all_eq_false]
 refine ⟨i,List.mem_range.2 hi,?_⟩
 rcases h with h|h<;>rw [h]<;>simp
theorem schOk_all {s:Sch} (h:schHd s=false) (ha:∀ j,j<s.2.2.length->colBad s.2.1 (s.2.2.getD j cz)=false/\colDup s.2.2 j=false):schOk s=true:=by
 unfold schOk
 rw [h,Bool.not_false,Bool.true_and,List.all_eq_true]
 intro j hj
 obtain ⟨h1,h2⟩:=ha j (List.mem_range.1 hj)
 rw [h1,h2]; rfl
theorem any_snoc {α:Type} {p:α->Bool} {l:List α} {i:Nat} (d:α) (hi:i<l.length):(l.take (i+1)).any p=((l.take i).any p||p (l.getD i d)):=by
 rw [List.take_add_one,List.any_append]
 congr 1
 rw [List.getD_eq_getElem?_getD,List.getElem?_eq_getElem hi]
 simp
@[go_sem] noncomputable def ER2:Env:=((ER1).add 72 vnmS).add 87 rvnmS
theorem ER2_ok:ER2.Ok:=((ER1_ok).add vnm_ok).add rvnm_ok
@[go_sem] def vscS:Spec:=⟨[schT],fun d=>(.dat .bool (schOk d.1),[])⟩
theorem vsc_ok:SpecOk Tryz.prog 36 vscS:=by
 refine fn_ok ER2_ok vscS Tryz.func36 rfl (by decide) (N:=69) rfl (res:=[.tmp 2]) rfl (by decide) [] [] [] 100 (by kernel_rfl) ?_
 rintro ⟨s,_⟩ hw hp
 refine ⟨rfl,fun H hH=>?_⟩
 dsimp only [go_sem] at hw hp ⊢
 clear hp
 obtain ⟨n,b,l⟩:=s
 change List Col at l
 have hhd:schHd (n,b,l)=((!nmOk n||decide ((l.length:Int)<1))||decide (6<(l.length:Int))):=by
  have e1:decide (l.length<1)=decide ((l.length:Int)<1):=decide_eq_decide.2 (by omega)
  have e2:decide (6<l.length)=decide (6<(l.length:Int)):=decide_eq_decide.2 (by omega)
  unfold schHd
  rw [<-e1,<-e2]
 simp only [imp_self,imp3,true_and,and_true]
 rw [<-hhd]
 clear hw
 refine ⟨fun h=>(schOk_hd h).symm,fun h=>?_⟩
 have hl:l.length<=6:=by
  rw [hhd] at h
  simp only [Bool.or_eq_false_iff,decide_eq_false_iff_not] at h
  omega
 clear hhd
 have hzc:∀ j,l.getD j (zd colT)=l.getD j cz:=fun _=>rfl
 refine hH.loop (fun i:Nat=>⟨[(26,.dat (.int .i64) (i:Int)),(25,.dat (.int .i64) (l.length:Int)),(24,.dat (.slice colT) l),(1,.ref 0 0)],[(0,.box 27 (.cons (.dat .str n) (.cons (.dat .bool b) (.cons (.dat (.slice colT) l) .nil))))],1⟩) (fun i=>i<=l.length/\∀ j,j<i->colBad b (l.getD j cz)=false/\colDup l j=false) (fun i=>l.length-i) 0 1 ⟨Nat.zero_le _,fun j h=>absurd h (Nat.not_lt_zero _)⟩ ?_ ?_
 ·dsimp only [go_sem]
  and_intros<;>first|trivial|rfl|omega
 ·rintro i ⟨hi,hz⟩ R hm
  refine hH.run 200 _ _ ?_
  dsimp only [go_sem]
  simp only [imp_self,imp3,true_and,and_true,Int.toNat_natCast]
  refine ⟨fun d=>?_,fun d=>?_⟩<;>simp only [decide_eq_true_eq,decide_eq_false_iff_not] at d
  ·have d:i<l.length:=by omega
   have hb:(0:Int)<=(i:Int)/\(i:Int)<(l.length:Int):=by omega
   have hb2:(0:Int)<=(i:Int)/\(i:Int)<=(l.length:Int):=by omega
   have hi1:inR .i64 ((i:Int)+1):=by rw [inR_i64]; omega
   have hcb:colBad b (l.getD i cz)=((!nmOk (l.getD i cz).1||(decide ((l.getD i cz).2.1≠1)&&decide ((l.getD i cz).2.1≠2)))||(b&&(l.getD i cz).2.2)):=rfl
   have htk:(l.take i).length=i:=by rw [List.length_take]; omega
   simp only [hzc]
   rw [<-hcb]
   refine ⟨hb,fun h=>(schOk_at (s:=(n,b,l)) d (.inl h)).symm,fun hcf=>⟨hb2,?_⟩⟩
   refine HOk.loop (by assumption) (fun k:Nat=>⟨[(58,.dat (.int .i64) (k:Int)),(57,.dat (.int .i64) ((l.take i).length:Int)),(56,.dat (.slice colT) (l.take i)),(4,.ref 1 0),(26,.dat (.int .i64) (i:Int)),(25,.dat (.int .i64) (l.length:Int)),(24,.dat (.slice colT) l),(1,.ref 0 0)],[(0,.box 27 (.cons (.dat .str n) (.cons (.dat .bool b) (.cons (.dat (.slice colT) l) .nil)))),(1,.box 81 (.cons (.dat .str (l.getD i cz).1) (.cons (.dat (.int .i64) (l.getD i cz).2.1) (.cons (.dat .bool (l.getD i cz).2.2) .nil))))],2⟩) (fun k=>k<=i/\((l.take i).take k).any (fun x=>decide (x.1=(l.getD i cz).1))=false) (fun k=>i-k) 0 2 ⟨Nat.zero_le _,rfl⟩ ?_ ?_
   ·dsimp only [go_sem]
    and_intros<;>first|trivial|rfl|omega
   ·rintro k ⟨hk,hz2⟩ R2 hm2
    refine hH.run 200 _ _ ?_
    dsimp only [go_sem]
    simp only [imp_self,imp3,true_and,and_true,Int.toNat_natCast]
    have hzc2:∀ j,(l.take i).getD j (zd colT)=(l.take i).getD j cz:=fun _=>rfl
    refine ⟨fun e=>?_,fun e=>?_⟩<;>simp only [decide_eq_true_eq,decide_eq_false_iff_not] at e
    ·have e:k<i:=by omega
     have hbk:(0:Int)<=(k:Int)/\(k:Int)<((l.take i).length:Int):=by omega
     have hbl:(0:Int)<=(k:Int)/\(k:Int)<(l.length:Int):=by omega
     have hk1:inR .i64 ((k:Int)+1):=by rw [inR_i64]; omega
     have hsn:=any_snoc (p:=fun x:Col=>decide (x.1=(l.getD i cz).1)) (l:=l.take i) cz (by omega:k<(l.take i).length)
     rw [hz2,Bool.false_or] at hsn
     have hgk:(l.take i).getD k cz=l.getD k cz:=by
      rw [List.getD_eq_getElem?_getD,List.getD_eq_getElem?_getD,List.getElem?_take_of_lt e]
     simp only [hzc,hzc2,hgk] at hsn ⊢
     refine ⟨hbk,fun g=>?_,fun g=>?_⟩
     ·refine (schOk_at (s:=(n,b,l)) d (.inr ?_)).symm
      show ((l.take i).any fun x=>decide (x.1=(l.getD i cz).1))=true
      rw [List.any_eq_true]
      exact ⟨_,by rw [<-hgk]; exact getDm cz (by omega:k<(l.take i).length),g⟩
     ·refine ⟨hk1,hm2 _ (k+1) 2 ⟨e,by rw [hsn]; exact g⟩ (by omega) ?_⟩
      dsimp only [go_sem]
      and_intros<;>first|trivial|rfl|omega
    ·have e:k=i:=by omega
     subst e
     rw [List.take_of_length_le (by omega)] at hz2
     refine ⟨hi1,hm _ (k+1) 1 ⟨d,fun j hj=>?_⟩ (by omega) ?_⟩
     ·rcases Nat.lt_or_ge j k with h'|h'
      ·exact hz j h'
      ·have:j=k:=by omega
       rw [this]; exact ⟨hcf,hz2⟩
     ·dsimp only [go_sem]
      and_intros<;>first|trivial|rfl|omega
  ·have d:i=l.length:=by omega
   subst d
   exact (schOk_all (s:=(n,b,l)) h hz).symm
@[go_sem] def rvscS:Spec:=⟨[schT],fun d=>(.dat .bool (schOk d.1),[])⟩
theorem rvsc_ok:SpecOk Tryz.prog 44 rvscS:=by
 refine fn_ok ER2_ok rvscS Tryz.func44 rfl (by decide) (N:=70) rfl (res:=[.tmp 2]) rfl (by decide) [] [] [] 100 (by kernel_rfl) ?_
 rintro ⟨s,_⟩ hw hp
 refine ⟨rfl,fun H hH=>?_⟩
 dsimp only [go_sem] at hw hp ⊢
 clear hp
 obtain ⟨n,b,l⟩:=s
 change List Col at l
 have hhd:schHd (n,b,l)=((!nmOk n||decide ((l.length:Int)<1))||decide (6<(l.length:Int))):=by
  have e1:decide (l.length<1)=decide ((l.length:Int)<1):=decide_eq_decide.2 (by omega)
  have e2:decide (6<l.length)=decide (6<(l.length:Int)):=decide_eq_decide.2 (by omega)
  unfold schHd
  rw [<-e1,<-e2]
 simp only [imp_self,imp3,true_and,and_true]
 rw [<-hhd]
 clear hw
 refine ⟨fun h=>(schOk_hd h).symm,fun h=>?_⟩
 have hl:l.length<=6:=by
  rw [hhd] at h
  simp only [Bool.or_eq_false_iff,decide_eq_false_iff_not] at h
  omega
 clear hhd
 have hzc:∀ j,l.getD j (zd colT)=l.getD j cz:=fun _=>rfl
 refine hH.loop (fun i:Nat=>⟨[(3,.dat (.int .i64) (i:Int)),(1,.ref 0 0)],[(0,.box 27 (.cons (.dat .str n) (.cons (.dat .bool b) (.cons (.dat (.slice colT) l) .nil))))],1⟩) (fun i=>i<=l.length/\∀ j,j<i->colBad b (l.getD j cz)=false/\colDup l j=false) (fun i=>l.length-i) 0 1 ⟨Nat.zero_le _,fun j h=>absurd h (Nat.not_lt_zero _)⟩ ?_ ?_
 ·dsimp only [go_sem]
  and_intros<;>first|trivial|rfl|omega
 ·rintro i ⟨hi,hz⟩ R hm
  refine hH.run 200 _ _ ?_
  dsimp only [go_sem]
  simp only [imp_self,imp3,true_and,and_true,Int.toNat_natCast]
  refine ⟨fun d=>?_,fun d=>?_⟩<;>simp only [decide_eq_true_eq,decide_eq_false_iff_not] at d
  ·have d:i<l.length:=by omega
   have hb:(0:Int)<=(i:Int)/\(i:Int)<(l.length:Int):=by omega
   have hb2:(0:Int)<=(i:Int)/\(i:Int)<=(l.length:Int):=by omega
   have hi1:inR .i64 ((i:Int)+1):=by rw [inR_i64]; omega
   have hcb:colBad b (l.getD i cz)=((!nmOk (l.getD i cz).1||(decide ((l.getD i cz).2.1≠1)&&decide ((l.getD i cz).2.1≠2)))||(b&&(l.getD i cz).2.2)):=rfl
   have htk:(l.take i).length=i:=by rw [List.length_take]; omega
   simp only [hzc]
   rw [<-hcb]
   refine ⟨hb,fun h=>(schOk_at (s:=(n,b,l)) d (.inl h)).symm,fun hcf=>?_⟩
   refine HOk.loop (by assumption) (fun k:Nat=>⟨[(5,.dat (.int .i64) (k:Int)),(4,.ref 1 0),(3,.dat (.int .i64) (i:Int)),(1,.ref 0 0)],[(0,.box 27 (.cons (.dat .str n) (.cons (.dat .bool b) (.cons (.dat (.slice colT) l) .nil)))),(1,.box 81 (.cons (.dat .str (l.getD i cz).1) (.cons (.dat (.int .i64) (l.getD i cz).2.1) (.cons (.dat .bool (l.getD i cz).2.2) .nil))))],2⟩) (fun k=>k<=i/\((l.take i).take k).any (fun x=>decide (x.1=(l.getD i cz).1))=false) (fun k=>i-k) 0 2 ⟨Nat.zero_le _,rfl⟩ ?_ ?_
   ·dsimp only [go_sem]
    and_intros<;>first|trivial|rfl|omega
   ·rintro k ⟨hk,hz2⟩ R2 hm2
    refine hH.run 200 _ _ ?_
    dsimp only [go_sem]
    simp only [imp_self,imp3,true_and,and_true,Int.toNat_natCast]
    have hzc2:∀ j,(l.take i).getD j (zd colT)=(l.take i).getD j cz:=fun _=>rfl
    refine ⟨fun e=>?_,fun e=>?_⟩<;>simp only [decide_eq_true_eq,decide_eq_false_iff_not] at e
    ·have e:k<i:=by omega
     have hbk:(0:Int)<=(k:Int)/\(k:Int)<((l.take i).length:Int):=by omega
     have hbl:(0:Int)<=(k:Int)/\(k:Int)<(l.length:Int):=by omega
     have hk1:inR .i64 ((k:Int)+1):=by rw [inR_i64]; omega
     have hsn:=any_snoc (p:=fun x:Col=>decide (x.1=(l.getD i cz).1)) (l:=l.take i) cz (by omega:k<(l.take i).length)
     rw [hz2,Bool.false_or] at hsn
     have hgk:(l.take i).getD k cz=l.getD k cz:=by
      rw [List.getD_eq_getElem?_getD,List.getD_eq_getElem?_getD,List.getElem?_take_of_lt e]
     simp only [hzc,hzc2,hgk] at hsn ⊢
     refine ⟨hbl,fun g=>?_,fun g=>?_⟩
     ·refine (schOk_at (s:=(n,b,l)) d (.inr ?_)).symm
      show ((l.take i).any fun x=>decide (x.1=(l.getD i cz).1))=true
      rw [List.any_eq_true]
      exact ⟨_,by rw [<-hgk]; exact getDm cz (by omega:k<(l.take i).length),g⟩
     ·refine ⟨hk1,hm2 _ (k+1) 2 ⟨e,by rw [hsn]; exact g⟩ (by omega) ?_⟩
      dsimp only [go_sem]
      and_intros<;>first|trivial|rfl|omega
    ·have e:k=i:=by omega
     subst e
     rw [List.take_of_length_le (by omega)] at hz2
     refine ⟨hi1,hm _ (k+1) 1 ⟨d,fun j hj=>?_⟩ (by omega) ?_⟩
     ·rcases Nat.lt_or_ge j k with h'|h'
      ·exact hz j h'
      ·have:j=k:=by omega
       rw [this]; exact ⟨hcf,hz2⟩
     ·dsimp only [go_sem]
      and_intros<;>first|trivial|rfl|omega
  ·have d:i=l.length:=by omega
   subst d
   exact (schOk_all (s:=(n,b,l)) h hz).symm
end Go.Proofs.YtdobkkhncfifeacGreat.Gx
namespace Go.Proofs.YtdobkkhncfifeacGreat.Gx
open Go Go.RowKit Tw B Nt
set_option linter.unusedVariables false
set_option linter.unusedSimpArgs false
set_option maxHeartbeats 4000000
set_option maxRecDepth 20000
def chBad (s:Str) (i:Nat):Bool:=decide (strAt s i<32)||decide (126<strAt s i)
def chOk (s:Str):Bool:=(List.range s.length).all fun i=>!chBad s i
theorem chOk_bad {s:Str} {i:Nat} (hi:i<s.length) (h:chBad s i=true):chOk s=false:=by
 unfold chOk
 rw [List.all_eq_false]
 exact ⟨i,List.mem_range.2 hi,by rw [h]; simp⟩
theorem chOk_all {s:Str} (ha:∀ j,j<s.length->chBad s j=false):chOk s=true:=by
 unfold chOk
 rw [List.all_eq_true]
 intro j hj
 rw [ha j (List.mem_range.1 hj)]; rfl
def valOk (v:Val):Bool:=if v.1=1 then decide (v.2.2=[]) else ((decide (v.1=2)&&decide (v.2.1=0))&&decide (v.2.2.length<=64))&&chOk v.2.2
@[go_sem] def vvdS:Spec:=⟨[valT],fun d=>(.dat .bool (valOk d.1),[])⟩
theorem vvd_ok:SpecOk Tryz.prog 73 vvdS:=by
 refine fn_ok ER1_ok vvdS Tryz.func73 rfl (by decide) (N:=43) rfl (res:=[.tmp 2]) rfl (by decide) [] [] [] 100 (by kernel_rfl) ?_
 rintro ⟨v,_⟩ hw hp
 refine ⟨rfl,fun H hH=>?_⟩
 dsimp only [go_sem] at hw hp ⊢
 clear hp
 obtain ⟨t,n,s⟩:=v
 change Str at s
 change Int at t n
 have hsl:s.length<=9223372036854775807:=hw.1.2.2
 clear hw
 simp only [imp_self,imp3,true_and,and_true]
 refine ⟨fun h=>?_,fun h=>⟨fun h2=>?_,fun h2=>?_⟩⟩<;>simp only [decide_eq_true_eq,decide_eq_false_iff_not] at h
 ·unfold valOk; rw [if_pos h]
 ·unfold valOk
  rw [if_neg h]
  simp only [Bool.or_eq_true,decide_eq_true_eq] at h2
  rcases h2 with (h2|h2)|h2
  ·rw [decide_eq_false h2]; rfl
  ·rw [decide_eq_false h2,Bool.and_false]; rfl
  ·rw [decide_eq_false (show ¬s.length<=64 by omega),Bool.and_false]; rfl
 ·simp only [Bool.or_eq_false_iff,decide_eq_false_iff_not,Decidable.not_not] at h2
  obtain ⟨⟨h2,h3⟩,h4⟩:=h2
  have hv:valOk (t,n,s)=chOk s:=by
   unfold valOk
   rw [if_neg h,decide_eq_true h2,decide_eq_true h3,decide_eq_true (show s.length<=64 by omega)]; rfl
  refine hH.loop (fun i:Nat=>⟨[(3,.dat (.int .i64) (i:Int)),(1,.ref 0 0)],[(0,.box 55 (.cons (.dat (.int .i64) t) (.cons (.dat (.int .i64) n) (.cons (.dat .str s) .nil))))],1⟩) (fun i=>i<=s.length/\∀ j,j<i->chBad s j=false) (fun i=>s.length-i) 0 1 ⟨Nat.zero_le _,fun j h=>absurd h (Nat.not_lt_zero _)⟩ ?_ ?_
  ·dsimp only [go_sem]
   and_intros<;>first|trivial|rfl|omega
  ·rintro i ⟨hi,hz⟩ R hm
   refine hH.run 200 _ _ ?_
   dsimp only [go_sem]
   simp only [imp_self,imp3,true_and,and_true]
   refine ⟨fun d=>?_,fun d=>?_⟩<;>simp only [decide_eq_true_eq,decide_eq_false_iff_not] at d
   ·have d:i<s.length:=by omega
    have hb:(0:Int)<=(i:Int)/\(i:Int)<(s.length:Int):=by omega
    have hi1:inR .i64 ((i:Int)+1):=by rw [inR_i64]; omega
    have hnb:chBad s i=(decide (strAt s i<32)||decide (126<strAt s i)):=rfl
    rw [<-hnb]
    simp only [hb.1,hb.2,and_self,implies_true,true_and]
    refine ⟨fun h=>by rw [hv,chOk_bad d h],fun h=>⟨hi1,hm _ (i+1) 1 ⟨d,fun j hj=>?_⟩ (by omega) ?_⟩⟩
    ·rcases Nat.lt_or_ge j i with h'|h'
     ·exact hz j h'
     ·have:j=i:=by omega
      rw [this]; exact h
    ·dsimp only [go_sem]
     and_intros<;>first|trivial|rfl|omega
   ·have d:i=s.length:=by omega
    subst d
    rw [hv,chOk_all hz]
@[go_sem] def rvvdS:Spec:=⟨[valT],fun d=>(.dat .bool (valOk d.1),[])⟩
theorem rvvd_ok:SpecOk Tryz.prog 68 rvvdS:=by
 refine fn_ok ER1_ok rvvdS Tryz.func68 rfl (by decide) (N:=41) rfl (res:=[.tmp 2]) rfl (by decide) [] [] [] 100 (by kernel_rfl) ?_
 rintro ⟨v,_⟩ hw hp
 refine ⟨rfl,fun H hH=>?_⟩
 dsimp only [go_sem] at hw hp ⊢
 clear hp
 obtain ⟨t,n,s⟩:=v
 change Str at s
 change Int at t n
 have hsl:s.length<=9223372036854775807:=hw.1.2.2
 clear hw
 refine ⟨fun h=>?_,fun h=>⟨fun h2=>?_,fun h2=>?_⟩⟩<;>simp only [decide_eq_true_eq,decide_eq_false_iff_not] at *
 ·unfold valOk; rw [if_pos h]; exact ⟨rfl,trivial⟩
 ·have hne:¬t=1:=by omega
  have hv:valOk (t,n,s)=((decide (n=0)&&decide (s.length<=64))&&chOk s):=by
   unfold valOk
   rw [if_neg hne,decide_eq_true h2]; rfl
  refine hH.loop (fun i:Nat=>⟨[(3,.dat (.int .i64) (i:Int)),(1,.ref 0 0)],[(0,.box 55 (.cons (.dat (.int .i64) t) (.cons (.dat (.int .i64) n) (.cons (.dat .str s) .nil))))],1⟩) (fun i=>i<=s.length/\∀ j,j<i->chBad s j=false) (fun i=>s.length-i) 0 1 ⟨Nat.zero_le _,fun j h=>absurd h (Nat.not_lt_zero _)⟩ ?_ ?_
  ·dsimp only [go_sem]
   and_intros<;>first|trivial|rfl|omega
  ·rintro i ⟨hi,hz⟩ R hm
   refine hH.run 200 _ _ ?_
   dsimp only [go_sem]
   simp only [imp_self,imp3,true_and,and_true]
   refine ⟨fun d=>?_,fun d=>?_⟩<;>simp only [decide_eq_true_eq,decide_eq_false_iff_not] at d
   ·have d:i<s.length:=by omega
    have hb:(0:Int)<=(i:Int)/\(i:Int)<(s.length:Int):=by omega
    have hi1:inR .i64 ((i:Int)+1):=by rw [inR_i64]; omega
    have hnb:chBad s i=(decide (strAt s i<32)||decide (126<strAt s i)):=rfl
    rw [<-hnb]
    simp only [hb.1,hb.2,and_self,implies_true,true_and]
    refine ⟨fun h=>?_,fun h=>⟨hi1,hm _ (i+1) 1 ⟨d,fun j hj=>?_⟩ (by omega) ?_⟩⟩
    ·rw [hv,chOk_bad d h,Bool.and_false]
    ·rcases Nat.lt_or_ge j i with h'|h'
     ·exact hz j h'
     ·have:j=i:=by omega
      rw [this]; exact h
    ·dsimp only [go_sem]
     and_intros<;>first|trivial|rfl|omega
   ·have d:i=s.length:=by omega
    subst d
    rw [hv,chOk_all hz,Bool.and_true]
    have:decide (s.length<=64)=decide ((s.length:Int)<=64):=decide_eq_decide.2 (by omega)
    rw [this]
 ·unfold valOk
  rw [if_neg h,decide_eq_false h2]; exact ⟨rfl,trivial⟩
def pHd (c:Bool) (q:Rat):Bool:=(decide (sgQ q<0)||decide (sgQ (1-q)<0))||(c&&decide (sgQ (1-q)≠0))
def pBits (q:Rat):Int:=(blen (N (qf q).2.2):Int)
def pvB (c:Bool) (q:Rat):Bool:=!pHd c q&&decide (pBits q<=65536)
@[go_sem] def vprS:Spec:=⟨[schT,fT],fun d=>(.dat .bool (pvB d.1.2.1 (fq d.2.1)),[fs d.2.1<=900000])⟩
@[go_sem] noncomputable def ER3:Env:=((((ER2).add 36 vscS).add 44 rvscS).add 73 vvdS).add 68 rvvdS
theorem ER3_ok:ER3.Ok:=((((ER2_ok).add vsc_ok).add rvsc_ok).add vvd_ok).add rvvd_ok
theorem vpr_ok:SpecOk Tryz.prog 74 vprS:=by
 refine fn_ok ER3_ok vprS Tryz.func74 rfl (by decide) (N:=30) rfl (res:=[.tmp 4]) rfl (by decide) [] [] [] 100 (by kernel_rfl) ?_
 rintro ⟨s,p,_⟩ hw hp
 refine ⟨rfl,fun H hH=>?_⟩
 dsimp only [go_sem] at hw hp ⊢
 obtain ⟨hp,-⟩:=hp
 have hsz:=qs_fq (fd_of hw.2.1)
 have l1:=qs_sub 1 (fq p)
 have l2:=qs_one
 have l3:fs (qf (1-fq p))<=5000000:=by rw [fs_qf]; omega
 simp only [imp_self,imp3,true_and,and_true,fq_qf]
 have hh:pHd s.2.1 (fq p)=((decide (sgQ (fq p)<0)||decide (sgQ (1-fq p)<0))||(s.2.1&&decide (sgQ (1-fq p)≠0))):=rfl
 rw [<-hh]
 have hfl:fldAg Tryz.prog 48 2 (.slice (.int .u32)):=⟨_,_,rfl,rfl,rfl⟩
 have hln:(qf (fq p)).2.2.length<=5000000:=by
  have:fs (qf (fq p))=qs (fq p):=rfl
  have h2:(qf (fq p)).2.2.length<=fs (qf (fq p)):=Nat.le_max_right _ _
  omega
 refine ⟨by omega,by omega,fun _=>l3,fun _=>l3,fun h=>?_,fun h=>⟨by omega,hfl,Nat.le_trans hln (by decide),?_⟩⟩
 ·unfold pvB; rw [h]; rfl
 ·unfold pvB; rw [h]; rfl
@[go_sem] def ripS:Spec:=⟨[fT],fun d=>(.dat .bool (decide (0<=sgQ (fq d.1))&&decide (0<=sgQ (1-fq d.1))),[fs d.1<=300000])⟩
theorem rip_ok:SpecOk Tryz.prog 46 ripS:=by
 refine fn_ok ER3_ok ripS Tryz.func46 rfl (by decide) (N:=12) rfl (res:=[.tmp 2]) rfl (by decide) [] [] [] 100 (by kernel_rfl) ?_
 rintro ⟨p,_⟩ hw hp
 refine ⟨rfl,fun H hH=>?_⟩
 dsimp only [go_sem] at hw hp ⊢
 obtain ⟨hp,-⟩:=hp
 have hsz:=qs_fq (fd_of hw.1)
 have l1:=qs_sub 1 (fq p)
 have l2:=qs_one
 have l3:fs (qf (1-fq p))<=1000000:=by rw [fs_qf]; omega
 simp only [imp_self,imp3,true_and,and_true,fq_qf]
 exact ⟨by omega,fun _=>by omega,fun _=>l3⟩
@[go_sem] def rioS:Spec:=⟨[fT],fun d=>(.dat .bool (decide (cmpQ (fq d.1) 1=0)),[fs d.1<=300000])⟩
theorem rio_ok:SpecOk Tryz.prog 70 rioS:=by
 refine fn_ok ER3_ok rioS Tryz.func70 rfl (by decide) (N:=7) rfl (res:=[.tmp 2]) rfl (by decide) [] [] [] 100 (by kernel_rfl) ?_
 rintro ⟨p,_⟩ hw hp
 refine ⟨rfl,fun H hH=>?_⟩
 dsimp only [go_sem] at hw hp ⊢
 obtain ⟨hp,-⟩:=hp
 have l2:=qs_one
 have e1:((1:Int):Rat)=1:=rfl
 rw [e1,fs_qf,fq_qf]
 exact ⟨by omega,by omega,rfl,trivial⟩
def vz:Val:=(0,0,[])
def tbad (cs:List Col) (vs:List Val) (i:Nat):Bool:=decide ((vs.getD i vz).1≠(cs.getD i cz).2.1)||!valOk (vs.getD i vz)
def ckT (s:Sch) (t:Tup):Int:=if !schOk s then 1 else if t.1.length≠s.2.2.length then 13 else if (List.range t.1.length).any (tbad s.2.2 t.1) then 13 else if !pvB s.2.1 (fq t.2) then 19 else 0
theorem schOk_len {s:Sch} (h:schOk s=true):1<=s.2.2.length/\s.2.2.length<=6:=by
 cases e:schHd s with
 | true=>rw [schOk_hd e] at h; cases h
 | false =>
  unfold schHd at e
  simp only [Bool.or_eq_false_iff,decide_eq_false_iff_not] at e
  omega
theorem any_range {p:Nat->Bool} {n i:Nat} (hi:i<n) (h:p i=true):(List.range n).any p=true:=List.any_eq_true.2 ⟨i,List.mem_range.2 hi,h⟩
theorem none_range {p:Nat->Bool} {n:Nat} (h:∀ j,j<n->p j=false):(List.range n).any p=false:=by
 rw [List.any_eq_false]
 intro j hj
 rw [h j (List.mem_range.1 hj)]; simp
theorem pvB_ref (c:Bool) (q:Rat):((!(decide (0<=sgQ q)&&decide (0<=sgQ (1-q)))||decide (65536<pBits q))||(c&&!decide (cmpQ q 1=0)))=!pvB c q:=by
 have h1:decide (0<=sgQ q)=!decide (sgQ q<0):=by
  rcases sgQ_cases q with h|h|h<;>rw [h]<;>decide
 have h2:decide (0<=sgQ (1-q))=!decide (sgQ (1-q)<0):=by
  rcases sgQ_cases (1-q) with h|h|h<;>rw [h]<;>decide
 have h3:decide (cmpQ q 1=0)=!decide (sgQ (1-q)≠0):=by
  have e:cmpQ q 1 = - sgQ (1-q):=by
   unfold cmpQ
   rw [<-sgQ_neg,Rat.neg_sub]
  rw [e]
  rcases sgQ_cases (1-q) with h|h|h<;>rw [h]<;>decide
 have h4:decide (pBits q<=65536)=!decide (65536<pBits q):=by
  by_cases h:pBits q<=65536
  ·rw [decide_eq_true h,decide_eq_false (by omega)]; rfl
  ·rw [decide_eq_false h,decide_eq_true (by omega)]; rfl
 unfold pvB pHd
 rw [h1,h2,h3,h4]
 cases decide (sgQ q<0)<;>cases decide (sgQ (1-q)<0)<;>cases decide (65536<pBits q)<;>cases decide (sgQ (1-q)≠0)<;>cases c<;>rfl
@[go_sem] noncomputable def ER4:Env:=(((ER3).add 74 vprS).add 46 ripS).add 70 rioS
theorem ER4_ok:ER4.Ok:=(((ER3_ok).add vpr_ok).add rip_ok).add rio_ok
@[go_sem] def cktS:Spec:=⟨[schT,tupT],fun d=>(.dat (.int .i64) (ckT d.1 d.2.1),[fs d.2.1.2<=100000])⟩
theorem ckt_ok:SpecOk Tryz.prog 37 cktS:=by
 refine fn_ok ER4_ok cktS Tryz.func37 rfl (by decide) (N:=45) rfl (res:=[.tmp 4]) rfl (by decide) [] [] [] 100 (by kernel_rfl) ?_
 rintro ⟨s,t,_⟩ hw hp
 refine ⟨rfl,fun H hH=>?_⟩
 dsimp only [go_sem] at hw hp ⊢
 obtain ⟨hp,-⟩:=hp
 have hfd:=fd_of hw.2.1.2
 have hsz:=qs_fq hfd
 clear hw
 have hl0:∀ h:schOk s=true,_:=@schOk_len s
 refine ⟨fun h=>?_,fun h=>⟨fun h2=>?_,fun h2=>?_⟩⟩
 ·refine ⟨?_,trivial⟩
  unfold ckT; rw [if_pos h]
 ·have h2:t.1.length≠s.2.2.length:=fun e=>of_decide_eq_true h2 (congrArg _ e)
  refine ⟨?_,trivial⟩
  unfold ckT; rw [if_neg (by rw [h]; simp),if_pos h2]
 have h2:t.1.length=s.2.2.length:=by
  have:=of_decide_eq_false h2
  simp only [Decidable.not_not] at this
  exact Int.ofNat.inj this
 have hck:ckT s t=if (List.range t.1.length).any (tbad s.2.2 t.1) then 13 else if !pvB s.2.1 (fq t.2) then 19 else 0:=by
  unfold ckT; rw [if_neg (by rw [h]; simp),if_neg (by simp [h2])]
 have hl:=hl0 (by simpa using h)
 refine hH.loop (fun i:Nat=>⟨[(20,.dat (.int .i64) (i:Int)),(19,.dat (.int .i64) (t.1.length:Int)),(18,.dat (.slice valT) t.1),(3,.ref 1 0),(2,.ref 0 0)],[(1,.box 53 (.cons (.dat (.slice valT) t.1) (.cons (.dat .bool t.2.1) (.cons (.dat (.slice (.int .u32)) t.2.2.1) (.cons (.dat (.slice (.int .u32)) t.2.2.2) .nil))))),(0,.box 27 (.cons (.dat .str s.1) (.cons (.dat .bool s.2.1) (.cons (.dat (.slice colT) s.2.2) .nil))))],2⟩) (fun i=>i<=t.1.length/\∀ j,j<i->tbad s.2.2 t.1 j=false) (fun i=>t.1.length-i) 0 2 ⟨Nat.zero_le _,fun j h=>absurd h (Nat.not_lt_zero _)⟩ ?_ ?_
 ·dsimp only [go_sem]
  and_intros<;>first|trivial|rfl|omega
 ·rintro i ⟨hi,hz⟩ R hm
  refine hH.run 200 _ _ ?_
  dsimp only [go_sem]
  simp only [imp_self,imp3,true_and,and_true,Int.toNat_natCast]
  refine ⟨fun d=>?_,fun d=>?_⟩<;>simp only [decide_eq_true_eq,decide_eq_false_iff_not] at d
  ·have d:i<t.1.length:=by change (i:Int)<(t.1.length:Int) at d; omega
   have hb:(0:Int)<=(i:Int)/\(i:Int)<(t.1.length:Int):=by omega
   have hb2:(0:Int)<=(i:Int)/\(i:Int)<(s.2.2.length:Int):=by omega
   have hi1:inR .i64 ((i:Int)+1):=by rw [inR_i64]; omega
   have hnb:tbad s.2.2 t.1 i=(decide ((t.1.getD i (zd valT)).1≠(s.2.2.getD i (zd colT)).2.1)||!valOk (t.1.getD i (zd valT))):=by
    unfold tbad
    rfl
   simp only [hb.1,hb.2,hb2.1,hb2.2,and_self,implies_true,true_and]
   rw [<-hnb]
   refine ⟨fun g=>?_,fun g=>⟨hi1,hm _ (i+1) 2 ⟨d,fun j hj=>?_⟩ (by omega) ?_⟩⟩
   ·rw [hck,any_range d g,if_pos rfl]
   ·rcases Nat.lt_or_ge j i with h'|h'
    ·exact hz j h'
    ·have:j=i:=by omega
     rw [this]; exact g
   ·dsimp only [go_sem]
    and_intros<;>first|trivial|rfl|omega
  ·have d:i=t.1.length:=by change ¬(i:Int)<(t.1.length:Int) at d; omega
   subst d
   rw [none_range hz,if_neg (by simp)] at hck
   refine ⟨by omega,fun g=>?_,fun g=>?_⟩
   ·rw [hck,if_pos g]
   ·rw [hck,if_neg (by rw [g]; simp)]
@[go_sem] def rcktS:Spec:=⟨[schT,tupT],fun d=>(.dat (.int .i64) (ckT d.1 d.2.1),[fs d.2.1.2<=100000])⟩
theorem rckt_ok:SpecOk Tryz.prog 32 rcktS:=by
 refine fn_ok ER4_ok rcktS Tryz.func32 rfl (by decide) (N:=67) rfl (res:=[.tmp 4]) rfl (by decide) [] [] [] 100 (by kernel_rfl) ?_
 rintro ⟨s,t,_⟩ hw hp
 refine ⟨rfl,fun H hH=>?_⟩
 dsimp only [go_sem] at hw hp ⊢
 obtain ⟨hp,-⟩:=hp
 have hfd:=fd_of hw.2.1.2
 have hsz:=qs_fq hfd
 clear hw
 have hl0:∀ h:schOk s=true,_:=@schOk_len s
 refine ⟨fun h=>?_,fun h=>⟨fun h2=>?_,fun h2=>?_⟩⟩
 ·refine ⟨?_,trivial⟩
  unfold ckT; rw [if_pos h]
 ·have h2:t.1.length≠s.2.2.length:=fun e=>of_decide_eq_true h2 (congrArg _ e)
  refine ⟨?_,trivial⟩
  unfold ckT; rw [if_neg (by rw [h]; simp),if_pos h2]
 have h2:t.1.length=s.2.2.length:=by
  have:=of_decide_eq_false h2
  simp only [Decidable.not_not] at this
  exact Int.ofNat.inj this
 have hck:ckT s t=if (List.range t.1.length).any (tbad s.2.2 t.1) then 13 else if !pvB s.2.1 (fq t.2) then 19 else 0:=by
  unfold ckT; rw [if_neg (by rw [h]; simp),if_neg (by simp [h2])]
 have hl:=hl0 (by simpa using h)
 refine hH.loop (fun i:Nat=>⟨[(5,.dat (.int .i64) (i:Int)),(3,.ref 1 0),(2,.ref 0 0)],[(1,.box 53 (.cons (.dat (.slice valT) t.1) (.cons (.dat .bool t.2.1) (.cons (.dat (.slice (.int .u32)) t.2.2.1) (.cons (.dat (.slice (.int .u32)) t.2.2.2) .nil))))),(0,.box 27 (.cons (.dat .str s.1) (.cons (.dat .bool s.2.1) (.cons (.dat (.slice colT) s.2.2) .nil))))],2⟩) (fun i=>i<=t.1.length/\∀ j,j<i->tbad s.2.2 t.1 j=false) (fun i=>t.1.length-i) 0 2 ⟨Nat.zero_le _,fun j h=>absurd h (Nat.not_lt_zero _)⟩ ?_ ?_
 ·dsimp only [go_sem]
  and_intros<;>first|trivial|rfl|omega
 ·rintro i ⟨hi,hz⟩ R hm
  refine hH.run 200 _ _ ?_
  dsimp only [go_sem]
  simp only [imp_self,imp3,true_and,and_true,Int.toNat_natCast]
  refine ⟨fun d=>?_,fun d=>?_⟩<;>simp only [decide_eq_true_eq,decide_eq_false_iff_not] at d
  ·have d:i<t.1.length:=by change (i:Int)<(t.1.length:Int) at d; omega
   have hb:(0:Int)<=(i:Int)/\(i:Int)<(t.1.length:Int):=by omega
   have hb2:(0:Int)<=(i:Int)/\(i:Int)<(s.2.2.length:Int):=by omega
   have hi1:inR .i64 ((i:Int)+1):=by rw [inR_i64]; omega
   have hnb:tbad s.2.2 t.1 i=(!valOk (t.1.getD i (zd valT))||decide ((t.1.getD i (zd valT)).1≠(s.2.2.getD i (zd colT)).2.1)):=by
    unfold tbad
    rw [Bool.or_comm]
    rfl
   simp only [hb.1,hb.2,hb2.1,hb2.2,and_self,implies_true,true_and]
   rw [<-hnb]
   refine ⟨fun g=>?_,fun g=>⟨hi1,hm _ (i+1) 2 ⟨d,fun j hj=>?_⟩ (by omega) ?_⟩⟩
   ·rw [hck,any_range d g,if_pos rfl]
   ·rcases Nat.lt_or_ge j i with h'|h'
    ·exact hz j h'
    ·have:j=i:=by omega
     rw [this]; exact g
   ·dsimp only [go_sem]
    and_intros<;>first|trivial|rfl|omega
  ·have d:i=t.1.length:=by change ¬(i:Int)<(t.1.length:Int) at d; omega
   subst d
   rw [none_range hz,if_neg (by simp)] at hck
   have hfl:fldAg Tryz.prog 48 2 (.slice (.int .u32)):=⟨_,_,rfl,rfl,rfl⟩
   have hln:(qf (fq t.2)).2.2.length<=1000000:=by
    have:fs (qf (fq t.2))=qs (fq t.2):=rfl
    have h2:(qf (fq t.2)).2.2.length<=fs (qf (fq t.2)):=Nat.le_max_right _ _
    omega
   have hpb:(blen (N (qf (fq t.2)).2.2):Int)=pBits (fq t.2):=rfl
   rw [hpb,pvB_ref]
   refine ⟨by omega,fun _=>by omega,fun _=>hfl,fun _=>by omega,fun _=>by omega,fun g=>?_,fun g=>?_⟩
   ·rw [hck,if_pos g]
   ·rw [hck,if_neg (by rw [g]; simp)]
end Go.Proofs.YtdobkkhncfifeacGreat.Gx
namespace Go.Proofs.YtdobkkhncfifeacGreat.Gx
open Go Go.RowKit Tw B Nt
set_option linter.unusedVariables false
set_option linter.unusedSimpArgs false
set_option maxHeartbeats 4000000
set_option maxRecDepth 20000
theorem bl_cB:∀ a b:Str,strLt a b=decide (cB a b<0)/\strLt b a=decide (0<cB a b)
 | [],[]=>⟨rfl,rfl⟩
 | [],_::_=>⟨rfl,rfl⟩
 | _::_,[]=>⟨rfl,rfl⟩
 | a::x,b::y=>by
  obtain ⟨h1,h2⟩:=bl_cB x y
  have e1:strLt (a::x) (b::y)=(decide (a<b)||(a == b&&strLt x y)):=rfl
  have e2:strLt (b::y) (a::x)=(decide (b<a)||(b == a&&strLt y x)):=rfl
  have e3:cB (a::x) (b::y)=if a<b then -1 else if b<a then 1 else cB x y:=rfl
  rw [e1,e2,e3,h1,h2]
  have hl:∀ u v:UInt8,u<v↔u.toNat<v.toNat:=fun u v=>UInt8.lt_iff_toNat_lt
  by_cases l1:a<b
  ·have l2:¬b<a:=by rw [hl] at l1 ⊢; omega
   have l3:(b == a)=false:=by
    rw [beq_eq_false_iff_ne]; intro e; subst e; exact l2 l1
   simp [l1,l2,l3]
  ·by_cases l2:b<a
   ·have l3:(a == b)=false:=by
      rw [beq_eq_false_iff_ne]; intro e; subst e; exact l1 l2
    simp [l1,l2,l3]
   ·have l3:a=b:=UInt8.toNat_inj.1 (by rw [hl] at l1 l2; omega)
    subst l3
    simp [l1]
theorem cB_zero:∀ a b:Str,cB a b=0↔a=b
 | [],[]=>by simp [cB,Lib.compareBytes]
 | [],_::_=>by simp [cB,Lib.compareBytes]
 | _::_,[]=>by simp [cB,Lib.compareBytes]
 | a::x,b::y=>by
  have h:=cB_zero x y
  have e3:cB (a::x) (b::y)=if a<b then -1 else if b<a then 1 else cB x y:=rfl
  rw [e3]
  have hl:∀ u v:UInt8,u<v↔u.toNat<v.toNat:=fun u v=>UInt8.lt_iff_toNat_lt
  by_cases l1:a<b
  ·have:a≠b:=by intro e; subst e; rw [hl] at l1; omega
   simp [l1,this]
  ·by_cases l2:b<a
   ·have:a≠b:=by intro e; subst e; rw [hl] at l2; omega
    simp [l1,l2,this]
   ·have l3:a=b:=UInt8.toNat_inj.1 (by rw [hl] at l1 l2; omega)
    subst l3
    simp [l1,h]
@[go_sem] def rvcpS:Spec:=⟨[valT,valT],fun d=>(.dat (.int .i64) (cV d.1 d.2.1),[])⟩
theorem cI_ne {a b:Int} (h:a≠b):cI a b=if a<b then -1 else 1:=by
 unfold cI
 by_cases h1:a<b
 ·rw [if_pos h1,if_pos h1]
 ·rw [if_neg h1,if_neg h1,if_pos (by omega)]
theorem cI_eq {a:Int}:cI a a=0:=by unfold cI; rw [if_neg (by omega),if_neg (by omega)]
theorem cI_zero {a b:Int}:cI a b=0↔a=b:=by
 constructor
 ·intro h
  refine Decidable.byContradiction fun hn=>?_
  rw [cI_ne hn] at h
  split at h<;>cases h
 ·rintro rfl; exact cI_eq
theorem rvcp_ok:SpecOk Tryz.prog 71 rvcpS:=by
 refine fn_ok ER4_ok rvcpS Tryz.func71 rfl (by decide) (N:=39) rfl (res:=[.tmp 4]) rfl (by decide) [] [] [] 100 (by kernel_rfl) ?_
 rintro ⟨a,b,_⟩ hw hp
 refine ⟨rfl,fun H hH=>?_⟩
 dsimp only [go_sem] at hw hp ⊢
 clear hp hw
 obtain ⟨a1,a2,a3⟩:=a
 obtain ⟨b1,b2,b3⟩:=b
 change Int at a1 a2 b1 b2
 change Str at a3 b3
 obtain ⟨h1,-⟩:=bl_cB a3 b3
 rw [h1]
 have hr:=cB_in a3 b3
 have hz:=cB_zero a3 b3
 have hg:(!(decide (cB a3 b3<0)||decide (a3=b3)))=decide (0<cB a3 b3):=by
  by_cases e:a3=b3
  ·rw [decide_eq_true e,hz.2 e]; rfl
  ·have h0:cB a3 b3≠0:=fun h=>e (hz.1 h)
   rw [decide_eq_false e,Bool.or_false]
   by_cases k:cB a3 b3<0
   ·rw [decide_eq_true k,decide_eq_false (by omega)]; rfl
   ·rw [decide_eq_false k,decide_eq_true (by omega)]; rfl
 dsimp only
 rw [hg]
 have hV:cV (a1,a2,a3) (b1,b2,b3)=if cI a1 b1≠0 then cI a1 b1 else if cI a2 b2≠0 then cI a2 b2 else cB a3 b3:=rfl
 rw [hV]
 have k1:∀ {x y:Int},x≠y->cI x y≠0:=fun h e=>h (cI_zero.1 e)
 refine ⟨fun g=>⟨fun k=>⟨?_,trivial⟩,fun k=>⟨?_,trivial⟩⟩,fun g=>⟨fun g2=>⟨fun k=>⟨?_,trivial⟩,fun k=>⟨?_,trivial⟩⟩,fun g2=>⟨fun k=>⟨?_,trivial⟩,fun k=>⟨fun k2=>⟨?_,trivial⟩,fun k2=>⟨?_,trivial⟩⟩⟩⟩⟩<;>simp only [decide_eq_true_eq,decide_eq_false_iff_not,Decidable.not_not] at g k
 ·rw [if_pos (k1 g),cI_ne g,if_pos k]
 ·rw [if_pos (k1 g),cI_ne g,if_neg k]
 ·simp only [decide_eq_true_eq] at g2
  rw [if_neg (by rw [cI_zero.2 g]; simp),if_pos (k1 g2),cI_ne g2,if_pos k]
 ·simp only [decide_eq_true_eq] at g2
  rw [if_neg (by rw [cI_zero.2 g]; simp),if_pos (k1 g2),cI_ne g2,if_neg k]
 ·simp only [decide_eq_false_iff_not,Decidable.not_not] at g2
  rw [if_neg (by rw [cI_zero.2 g]; simp),if_neg (by rw [cI_zero.2 g2]; simp)]; exact (show (-1:Int)=cB a3 b3 by have hr1:(-1:Int)<=cB a3 b3:=hr.1; have hr2:cB a3 b3<=(1:Int):=hr.2; omega)
 ·simp only [decide_eq_false_iff_not,Decidable.not_not,decide_eq_true_eq] at g2 k2
  rw [if_neg (by rw [cI_zero.2 g]; simp),if_neg (by rw [cI_zero.2 g2]; simp)]; exact (show (1:Int)=cB a3 b3 by have hr1:(-1:Int)<=cB a3 b3:=hr.1; have hr2:cB a3 b3<=(1:Int):=hr.2; omega)
 ·simp only [decide_eq_false_iff_not,Decidable.not_not] at g2 k2
  rw [if_neg (by rw [cI_zero.2 g]; simp),if_neg (by rw [cI_zero.2 g2]; simp)]; exact (show (0:Int)=cB a3 b3 by have hr1:(-1:Int)<=cB a3 b3:=hr.1; have hr2:cB a3 b3<=(1:Int):=hr.2; omega)
@[go_sem] noncomputable def ER5:Env:=(((ER4).add 71 rvcpS).add 37 cktS).add 32 rcktS
theorem ER5_ok:ER5.Ok:=(((ER4_ok).add rvcp_ok).add ckt_ok).add rckt_ok
@[go_sem] def rvctS:Spec:=⟨[.slice valT,.slice valT],fun d=>(.dat (.int .i64) (cT d.1 d.2.1),[List.length d.1<=1000000/\List.length d.2.1<=1000000])⟩
theorem rvct_ok:SpecOk Tryz.prog 34 rvctS:=by
 refine fn_ok ER5_ok rvctS Tryz.func34 rfl (by decide) (N:=43) rfl (res:=[.tmp 4]) rfl (by decide) [] [] [] 100 (by kernel_rfl) ?_
 rintro ⟨l,z,_⟩ hw hp
 refine ⟨rfl,fun H hH=>?_⟩
 dsimp only [go_sem] at hw hp ⊢
 obtain ⟨⟨hp1,hp2⟩,-⟩:=hp
 change List Val at l z
 change l.length<=1000000 at hp1
 change z.length<=1000000 at hp2
 clear hw
 refine hH.loop (fun i:Nat=>⟨[(5,.dat (.int .i64) (i:Int)),(0,.dat (.slice valT) l),(1,.dat (.slice valT) z)],[],0⟩) (fun i=>i<=l.length/\i<=z.length/\∀ j,j<i->cV (l.getD j (0,0,[])) (z.getD j (0,0,[]))=0) (fun i=>l.length-i) 0 0 ⟨Nat.zero_le _,Nat.zero_le _,fun j h=>absurd h (Nat.not_lt_zero _)⟩ ?_ ?_
 ·dsimp only [go_sem]
  and_intros<;>first|trivial|rfl|omega
 ·rintro i ⟨hi,hi2,hz⟩ R hm
  have hd:=cT_drop hi hi2 hz
  refine hH.run 100 _ _ ?_
  dsimp only [go_sem]
  simp only [Int.toNat_natCast,imp_self,true_and,and_true]
  have hzl:∀ j,l.getD j (zd valT)=l.getD j (0,0,[]):=fun _=>rfl
  have hzz:∀ j,z.getD j (zd valT)=z.getD j (0,0,[]):=fun _=>rfl
  simp only [hzl,hzz]
  refine ⟨fun d=>?_,fun d=>?_⟩
  ·simp only [Bool.and_eq_true,decide_eq_true_eq] at d
   have d1:i<l.length:=by omega
   have d2:i<z.length:=by omega
   rw [drop_at (0,0,[]) d1,drop_at (0,0,[]) d2] at hd
   have hd:cT l z=if cV (l.getD i (0,0,[])) (z.getD i (0,0,[]))≠0 then cV (l.getD i (0,0,[])) (z.getD i (0,0,[])) else cT (l.drop (i+1)) (z.drop (i+1)):=hd
   refine ⟨⟨Int.natCast_nonneg _,Int.ofNat_lt.2 d1⟩,⟨Int.natCast_nonneg _,Int.ofNat_lt.2 d2⟩,fun g=>?_,fun g=>?_⟩<;>simp only [decide_eq_true_eq,decide_eq_false_iff_not,Decidable.not_not] at g
   ·rw [hd,if_pos g]
   ·refine ⟨by rw [inR_i64]; omega,hm _ (i+1) 0 ⟨d1,d2,fun j hj=>?_⟩ (by omega) ?_⟩
    ·rcases Nat.lt_or_ge j i with h|h
     ·exact hz j h
     ·have:j=i:=by omega
      rw [this]; exact g
    ·dsimp only [go_sem]
     and_intros<;>first|trivial|rfl|omega
  ·simp only [Bool.and_eq_false_iff,decide_eq_false_iff_not] at d
   refine ⟨fun e=>?_,fun e=>⟨fun e2=>?_,fun e2=>?_⟩⟩<;>simp only [decide_eq_true_eq,decide_eq_false_iff_not] at *
   ·have e1:l.drop i=[]:=List.drop_of_length_le (by omega)
    rw [e1,drop_at (0,0,[]) (show i<z.length by omega)] at hd
    exact hd.symm
   ·have e1:z.drop i=[]:=List.drop_of_length_le (by omega)
    rw [e1,drop_at (0,0,[]) (show i<l.length by omega)] at hd
    exact hd.symm
   ·have e1:z.drop i=[]:=List.drop_of_length_le (by omega)
    have e3:l.drop i=[]:=List.drop_of_length_le (by omega)
    rw [e1,e3] at hd
    exact hd.symm
@[reducible,go_sem] def relT:Ty:=.pair schT (.slice tupT)
abbrev Rel:=Sch×List Tup
def keyG (cs:List Col) (vs:List Val) (k:Nat):List Val:=((List.range k).filter fun i=>(cs.getD i cz).2.2).map fun i=>vs.getD i vz
def keyL (cs:List Col) (vs:List Val):List Val:=if vs.length≠cs.length then [] else keyG cs vs cs.length
theorem keyG_snoc (cs:List Col) (vs:List Val) (k:Nat):keyG cs vs (k+1)=keyG cs vs k++if (cs.getD k cz).2.2 then [vs.getD k vz] else []:=by
 unfold keyG
 rw [List.range_succ,List.filter_append,List.map_append]
 congr 1
 simp only [List.filter_cons,List.filter_nil]
 split<;>rfl
theorem keyG_len (cs:List Col) (vs:List Val) (k:Nat):(keyG cs vs k).length<=k:=by
 unfold keyG
 rw [List.length_map]
 exact Nat.le_trans (List.length_filter_le _ _) (by simp)
@[go_sem] def keyS:Spec:=⟨[schT,.slice valT],fun d=>(.dat (.slice valT) (keyL d.1.2.2 d.2.1),[List.length d.1.2.2<=1000])⟩
theorem key_ok:SpecOk Tryz.prog 77 keyS:=by
 refine fn_ok ER5_ok keyS Tryz.func77 rfl (by decide) (N:=33) rfl (res:=[.tmp 4]) rfl (by decide) [(8,[(29,.dt)])] [] [] 100 (by kernel_rfl) ?_
 rintro ⟨s,v,_⟩ hw hp
 refine ⟨rfl,fun H hH=>?_⟩
 dsimp only [go_sem] at hw hp ⊢
 obtain ⟨hp,-⟩:=hp
 change List Val at v
 obtain ⟨n,b,cs⟩:=s
 change List Col at cs
 change cs.length<=1000 at hp
 clear hw
 refine ⟨fun h=>⟨?_,trivial⟩,fun h=>?_⟩<;>simp only [decide_eq_true_eq,decide_eq_false_iff_not,Decidable.not_not] at h
 ·have:v.length≠cs.length:=fun e=>h (congrArg _ e)
  unfold keyL; rw [if_pos this]
 have hlen:v.length=cs.length:=Int.ofNat.inj h
 have hk:keyL cs v=keyG cs v cs.length:=by unfold keyL; rw [if_neg (by simp [hlen])]
 refine hH.loop (fun i:Nat=>⟨[(17,.dat (.int .i64) (i:Int)),(16,.dat (.int .i64) (cs.length:Int)),(15,.dat (.slice colT) cs),(1,.dat (.slice valT) v),(2,.ref 0 0),(5,.own 1)],[(0,.box 27 (.cons (.dat .str n) (.cons (.dat .bool b) (.cons (.dat (.slice colT) cs) .nil)))),(1,.row 55 valT (keyG cs v i))],2⟩) (fun i=>i<=cs.length) (fun i=>cs.length-i) 0 1 (Nat.zero_le _) ?_ ?_
 ·dsimp only [go_sem]
  and_intros<;>first|trivial|rfl|omega
 ·intro i hi R hm
  refine hH.run 100 _ _ ?_
  dsimp only [go_sem]
  simp only [Int.toNat_natCast]
  have hzc:∀ j,cs.getD j (zd colT)=cs.getD j cz:=fun _=>rfl
  have hzv:∀ j,v.getD j (zd valT)=v.getD j vz:=fun _=>rfl
  refine ⟨fun d=>?_,fun d=>?_⟩<;>simp only [decide_eq_true_eq,decide_eq_false_iff_not] at d
  ·have d:i<cs.length:=by omega
   have hb:(0:Int)<=(i:Int)/\(i:Int)<(cs.length:Int):=by omega
   have hb2:(0:Int)<=(i:Int)/\(i:Int)<(v.length:Int):=by omega
   have hi1:inR .i64 ((i:Int)+1):=by rw [inR_i64]; omega
   have hs:=keyG_snoc cs v i
   have hl:=keyG_len cs v i
   simp only [hzc,hzv]
   refine ⟨hb,fun e=>?_,fun e=>?_⟩
   ·rw [e,if_pos rfl] at hs
    refine ⟨hb2,?_,trivial,hi1,hm _ (i+1) 2 d (by omega) ?_⟩
    ·change ((keyG cs v i).length+1)*32<=_
     omega
    ·dsimp only [go_sem]
     rw [hs]
     and_intros<;>first|trivial|rfl|omega
   ·rw [e,if_neg (by simp),List.append_nil] at hs
    refine ⟨hi1,hm _ (i+1) 2 d (by omega) ?_⟩
    dsimp only [go_sem]
    rw [hs]
    and_intros<;>first|trivial|rfl|omega
  ·have d:i=cs.length:=by omega
   subst d
   exact ⟨hk.symm,trivial⟩
@[go_sem] def rkeyS:Spec:=⟨[schT,.slice valT],fun d=>(.dat (.slice valT) (keyL d.1.2.2 d.2.1),[List.length d.1.2.2<=1000])⟩
theorem rkey_ok:SpecOk Tryz.prog 89 rkeyS:=by
 refine fn_ok ER5_ok rkeyS Tryz.func89 rfl (by decide) (N:=33) rfl (res:=[.tmp 4]) rfl (by decide) [(8,[(30,.dt)])] [] [] 100 (by kernel_rfl) ?_
 rintro ⟨s,v,_⟩ hw hp
 refine ⟨rfl,fun H hH=>?_⟩
 dsimp only [go_sem] at hw hp ⊢
 obtain ⟨hp,-⟩:=hp
 change List Val at v
 obtain ⟨n,b,cs⟩:=s
 change List Col at cs
 change cs.length<=1000 at hp
 clear hw
 refine ⟨fun h=>⟨?_,trivial⟩,fun h=>?_⟩<;>simp only [decide_eq_true_eq,decide_eq_false_iff_not,Decidable.not_not] at h
 ·have:v.length≠cs.length:=fun e=>h (congrArg _ e)
  unfold keyL; rw [if_pos this]
 have hlen:v.length=cs.length:=Int.ofNat.inj h
 have hk:keyL cs v=keyG cs v cs.length:=by unfold keyL; rw [if_neg (by simp [hlen])]
 refine hH.loop (fun i:Nat=>⟨[(6,.dat (.int .i64) (i:Int)),(1,.dat (.slice valT) v),(2,.ref 0 0),(5,.own 1)],[(0,.box 27 (.cons (.dat .str n) (.cons (.dat .bool b) (.cons (.dat (.slice colT) cs) .nil)))),(1,.row 55 valT (keyG cs v i))],2⟩) (fun i=>i<=cs.length) (fun i=>cs.length-i) 0 1 (Nat.zero_le _) ?_ ?_
 ·dsimp only [go_sem]
  and_intros<;>first|trivial|rfl|omega
 ·intro i hi R hm
  refine hH.run 100 _ _ ?_
  dsimp only [go_sem]
  simp only [Int.toNat_natCast]
  have hzc:∀ j,cs.getD j (zd colT)=cs.getD j cz:=fun _=>rfl
  have hzv:∀ j,v.getD j (zd valT)=v.getD j vz:=fun _=>rfl
  refine ⟨fun d=>?_,fun d=>?_⟩<;>simp only [decide_eq_true_eq,decide_eq_false_iff_not] at d
  ·have d:i<cs.length:=by omega
   have hb:(0:Int)<=(i:Int)/\(i:Int)<(cs.length:Int):=by omega
   have hb2:(0:Int)<=(i:Int)/\(i:Int)<(v.length:Int):=by omega
   have hi1:inR .i64 ((i:Int)+1):=by rw [inR_i64]; omega
   have hs:=keyG_snoc cs v i
   have hl:=keyG_len cs v i
   simp only [hzc,hzv]
   refine ⟨hb,fun e=>?_,fun e=>?_⟩
   ·rw [e,if_pos rfl] at hs
    refine ⟨hb2,?_,trivial,hi1,hm _ (i+1) 2 d (by omega) ?_⟩
    ·change ((keyG cs v i).length+1)*32<=_
     omega
    ·dsimp only [go_sem]
     rw [hs]
     and_intros<;>first|trivial|rfl|omega
   ·rw [e,if_neg (by simp),List.append_nil] at hs
    refine ⟨hi1,hm _ (i+1) 2 d (by omega) ?_⟩
    dsimp only [go_sem]
    rw [hs]
    and_intros<;>first|trivial|rfl|omega
  ·have d:i=cs.length:=by omega
   subst d
   exact ⟨hk.symm,trivial⟩
@[go_sem] def hkyS:Spec:=⟨[schT],fun d=>(.dat .bool (List.any d.1.2.2 fun c=>c.2.2),[List.length d.1.2.2<=1000])⟩
theorem hky_ok:SpecOk Tryz.prog 88 hkyS:=by
 refine fn_ok ER5_ok hkyS Tryz.func88 rfl (by decide) (N:=17) rfl (res:=[.tmp 2]) rfl (by decide) [] [] [] 100 (by kernel_rfl) ?_
 rintro ⟨s,_⟩ hw hp
 refine ⟨rfl,fun H hH=>?_⟩
 dsimp only [go_sem] at hw hp ⊢
 obtain ⟨hp,-⟩:=hp
 obtain ⟨n,b,cs⟩:=s
 change List Col at cs
 change cs.length<=1000 at hp
 clear hw
 refine hH.loop (fun i:Nat=>⟨[(3,.dat (.int .i64) (i:Int)),(1,.ref 0 0)],[(0,.box 27 (.cons (.dat .str n) (.cons (.dat .bool b) (.cons (.dat (.slice colT) cs) .nil))))],1⟩) (fun i=>i<=cs.length/\(cs.take i).any (fun c=>c.2.2)=false) (fun i=>cs.length-i) 0 1 ⟨Nat.zero_le _,rfl⟩ ?_ ?_
 ·dsimp only [go_sem]
  and_intros<;>first|trivial|rfl|omega
 ·rintro i ⟨hi,hz⟩ R hm
  refine hH.run 100 _ _ ?_
  dsimp only [go_sem]
  simp only [Int.toNat_natCast]
  have hzc:∀ j,cs.getD j (zd colT)=cs.getD j cz:=fun _=>rfl
  refine ⟨fun d=>?_,fun d=>?_⟩<;>simp only [decide_eq_true_eq,decide_eq_false_iff_not] at d
  ·have d:i<cs.length:=by omega
   have hsn:=any_snoc (p:=fun c:Col=>c.2.2) cz d
   rw [hz,Bool.false_or] at hsn
   simp only [hzc]
   refine ⟨⟨Int.natCast_nonneg _,Int.ofNat_lt.2 d⟩,fun e=>⟨?_,trivial⟩,fun e=>⟨by rw [inR_i64]; omega,hm _ (i+1) 1 ⟨d,by rw [hsn]; exact e⟩ (by omega) ?_⟩⟩
   ·exact (List.any_eq_true.2 ⟨_,getDm cz d,e⟩).symm
   ·dsimp only [go_sem]
    and_intros<;>first|trivial|rfl|omega
  ·have d:i=cs.length:=by omega
   subst d
   rw [List.take_length] at hz
   exact ⟨hz.symm,trivial⟩
end Go.Proofs.YtdobkkhncfifeacGreat.Gx
