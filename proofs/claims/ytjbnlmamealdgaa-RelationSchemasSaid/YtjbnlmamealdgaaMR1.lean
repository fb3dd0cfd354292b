/-
  R1, R2, R3, R4, in one text: see the remarks at the head of each part.
-/
import Derived.Test.YtjbnlmamealdgaaMV
import Derived.Test.YtjbnlmamealdgaaMDb
import Derived.Test.YtjbnlmamealdgaaMI
namespace Go.Proofs.Ytjbnlmamealdgaa.Gx
open Go Go.RowKit Tw B Nt
set_option linter.unusedVariables false
set_option linter.unusedSimpArgs false
set_option maxHeartbeats 4000000
set_option maxRecDepth 20000
def letB (c:Int):Bool:=(decide (65<=c)&&decide (c<=90))||(decide (97<=c)&&decide (c<=122))
def othI (c:Int):Bool:=(decide (48<=c)&&decide (c<=57))||decide (c=95)
def nmBad (s:Str) (i:Nat):Bool:=!letB (strAt s i)&&(decide (i=0)||!othI (strAt s i))
def nmOk (s:Str):Bool:=decide (1<=s.length/\s.length<=24)&&(List.range s.length).all fun i=>!nmBad s i
theorem nmOk_len {s:Str} (h:¬(1<=s.length/\s.length<=24)):nmOk s=false:=by
 unfold nmOk; rw [decide_eq_false h]; rfl
theorem nmOk_bad {s:Str} {i:Nat} (hi:i<s.length) (h:nmBad s i=true):nmOk s=false:=by
 unfold nmOk
 rw [Bool.and_eq_false_iff]
 right
 rw [List.all_eq_false]
 exact ⟨i,List.mem_range.2 hi,by rw [h]; simp⟩
theorem nmOk_all {s:Str} (h:1<=s.length/\s.length<=24) (ha:∀ j,j<s.length->nmBad s j=false):nmOk s=true:=by
 unfold nmOk
 rw [decide_eq_true h,Bool.true_and,List.all_eq_true]
 intro j hj
 rw [ha j (List.mem_range.1 hj)]; rfl
@[go_sem] noncomputable def ER1:Env:=(((((((((((E6).add 77 nan1S).add 78 nan2S).add 61 cmp1S).add 62 cmp2S).add 63 scpS).add 60 orIS).addM 43 vcpM).addM 42 cfVM).add 25 vctS).addM 52 insKM).addM 27 insTM
theorem ER1_ok:ER1.Ok:=(((((((((((E6_ok).add nan1_ok).add nan2_ok).add cmp1_ok).add cmp2_ok).add scp_ok).add orI_ok).addM vcpM_ok).addM cfVM_ok).add vct_ok).addM insKM_ok).addM insTM_ok
@[go_sem] def vnmS:Spec:=⟨[.str],fun d=>(.dat .bool (nmOk d.1),[])⟩
theorem vnm_ok:SpecOk Try.prog 7 vnmS:=by
 refine fn_ok ER1_ok vnmS Try.func7 rfl (by decide) (N:=58) rfl (res:=[.tmp 2]) rfl (by decide) [] [] [] 100 (by kernel_rfl) ?_
 rintro ⟨s,_⟩ hw hp
 refine ⟨rfl,fun H hH=>?_⟩
 dsimp only [go_sem] at hw hp ⊢
 clear hp hw
 change Str at s
 simp only [imp_self,imp3,true_and,and_true]
 refine ⟨fun h=>?_,fun h=>?_⟩
 ·simp only [Bool.or_eq_true,decide_eq_true_eq] at h
  exact (nmOk_len (by omega)).symm
 simp only [Bool.or_eq_false_iff,decide_eq_false_iff_not] at h
 have hl:1<=s.length/\s.length<=24:=by omega
 refine hH.loop (fun i:Nat=>⟨[(3,.dat (.int .i64) (i:Int)),(0,.dat .str s)],[],0⟩) (fun i=>i<=s.length/\∀ j,j<i->nmBad s j=false) (fun i=>s.length-i) 0 0 ⟨Nat.zero_le _,fun j h=>absurd h (Nat.not_lt_zero _)⟩ ?_ ?_
 ·dsimp only [go_sem]
  and_intros<;>first|trivial|rfl|omega
 ·rintro i ⟨hi,hz⟩ R hm
  refine hH.run 200 _ _ ?_
  dsimp only [go_sem]
  simp only [imp_self,imp3,true_and,and_true]
  refine ⟨fun d=>?_,fun d=>?_⟩<;>simp only [decide_eq_true_eq,decide_eq_false_iff_not] at d
  ·have d:i<s.length:=by omega
   have hb:(0:Int)<=(i:Int)/\(i:Int)<(s.length:Int):=by omega
   have hi1:inR .i64 ((i:Int)+1):=by rw [inR_i64]; omega
   have hnb:nmBad s i=(!((decide (65<=strAt s i)&&decide (strAt s i<=90))||(decide (97<=strAt s i)&&decide (strAt s i<=122)))&&(decide ((i:Int)=0)||!((decide (48<=strAt s i)&&decide (strAt s i<=57))||decide (strAt s i=95)))):=by
    unfold nmBad letB othI
    have:decide (i=0)=decide ((i:Int)=0):=decide_eq_decide.2 (by omega)
    rw [this]
   rw [<-hnb]
   simp only [hb.1,hb.2,and_self,implies_true,true_and]
   refine ⟨fun h=>(nmOk_bad d h).symm,fun h=>⟨hi1,hm _ (i+1) 0 ⟨d,fun j hj=>?_⟩ (by omega) ?_⟩⟩
   ·rcases Nat.lt_or_ge j i with h'|h'
    ·exact hz j h'
    ·have:j=i:=by omega
     rw [this]; exact h
   ·dsimp only [go_sem]
    and_intros<;>first|trivial|rfl|omega
  ·have d:i=s.length:=by omega
   subst d
   exact (nmOk_all hl hz).symm
@[go_sem] def rvnmS:Spec:=⟨[.str],fun d=>(.dat .bool (nmOk d.1),[])⟩
theorem rvnm_ok:SpecOk Try.prog 8 rvnmS:=by
 refine fn_ok ER1_ok rvnmS Try.func8 rfl (by decide) (N:=68) rfl (res:=[.tmp 2]) rfl (by decide) [] [] [] 100 (by kernel_rfl) ?_
 rintro ⟨s,_⟩ hw hp
 refine ⟨rfl,fun H hH=>?_⟩
 dsimp only [go_sem] at hw hp ⊢
 clear hp hw
 change Str at s
 simp only [imp_self,imp3,true_and,and_true]
 refine ⟨fun h=>?_,fun h=>?_⟩
 ·simp only [Bool.or_eq_true,decide_eq_true_eq] at h
  exact (nmOk_len (by omega)).symm
 simp only [Bool.or_eq_false_iff,decide_eq_false_iff_not] at h
 have hl:1<=s.length/\s.length<=24:=by omega
 refine hH.loop (fun i:Nat=>⟨[(3,.dat (.int .i64) (i:Int)),(0,.dat .str s)],[],0⟩) (fun i=>i<=s.length/\∀ j,j<i->nmBad s j=false) (fun i=>s.length-i) 0 0 ⟨Nat.zero_le _,fun j h=>absurd h (Nat.not_lt_zero _)⟩ ?_ ?_
 ·dsimp only [go_sem]
  and_intros<;>first|trivial|rfl|omega
 ·rintro i ⟨hi,hz⟩ R hm
  refine hH.run 200 _ _ ?_
  dsimp only [go_sem]
  simp only [imp_self,imp3,true_and,and_true]
  refine ⟨fun d=>?_,fun d=>?_⟩<;>simp only [decide_eq_true_eq,decide_eq_false_iff_not] at d
  ·have d:i<s.length:=by omega
   have hb:(0:Int)<=(i:Int)/\(i:Int)<(s.length:Int):=by omega
   have hi1:inR .i64 ((i:Int)+1):=by rw [inR_i64]; omega
   have hnb:nmBad s i=(!((decide (97<=strAt s i)&&decide (strAt s i<=122))||(decide (65<=strAt s i)&&decide (strAt s i<=90)))&&(decide ((i:Int)=0)||!((decide (48<=strAt s i)&&decide (strAt s i<=57))||decide (strAt s i=95)))):=by
    unfold nmBad letB othI
    have:decide (i=0)=decide ((i:Int)=0):=decide_eq_decide.2 (by omega)
    rw [this,Bool.or_comm (decide (65<=strAt s i)&&decide (strAt s i<=90))]
   rw [<-hnb]
   simp only [hb.1,hb.2,and_self,implies_true,true_and]
   refine ⟨fun h=>(nmOk_bad d h).symm,fun h=>⟨hi1,hm _ (i+1) 0 ⟨d,fun j hj=>?_⟩ (by omega) ?_⟩⟩
   ·rcases Nat.lt_or_ge j i with h'|h'
    ·exact hz j h'
    ·have:j=i:=by omega
     rw [this]; exact h
   ·dsimp only [go_sem]
    and_intros<;>first|trivial|rfl|omega
  ·have d:i=s.length:=by omega
   subst d
   exact (nmOk_all hl hz).symm
end Go.Proofs.Ytjbnlmamealdgaa.Gx
namespace Go.Proofs.Ytjbnlmamealdgaa.Gx
open Go Go.RowKit Tw B Nt
set_option linter.unusedVariables false
set_option linter.unusedSimpArgs false
set_option maxHeartbeats 4000000
set_option maxRecDepth 20000
@[reducible,go_sem] def colT:Ty:=.pair .str (.pair (.int .i64) .bool)
@[reducible,go_sem] def schT:Ty:=.pair .str (.pair .bool (.slice colT))
abbrev Col:=Str×Int×Bool
abbrev Sch:=Str×Bool×List Col
def cz:Col:=([],0,false)
def colBad (b:Bool) (c:Col):Bool:=(!nmOk c.1||(decide (c.2.1≠1)&&decide (c.2.1≠2)))||(b&&c.2.2)
def colDup (l:List Col) (i:Nat):Bool:=(l.take i).any fun x=>decide (x.1=(l.getD i cz).1)
def schHd (s:Sch):Bool:=(!nmOk s.1||decide (s.2.2.length<1))||decide (6<s.2.2.length)
def schOk (s:Sch):Bool:=!schHd s&&(List.range s.2.2.length).all fun i=>!colBad s.2.1 (s.2.2.getD i cz)&&!colDup s.2.2 i
theorem schOk_hd {s:Sch} (h:schHd s=true):schOk s=false:=by unfold schOk; rw [h]; rfl
theorem schOk_at {s:Sch} {i:Nat} (hi:i<s.2.2.length) (h:colBad s.2.1 (s.2.2.getD i cz)=true∨colDup s.2.2 i=true):schOk s=false:=by
 unfold schOk
 rw [Bool.and_eq_false_iff]
 right
 rw [List.all_eq_false]
 refine ⟨i,List.mem_range.2 hi,?_⟩
 rcases h with h|h<;>rw [h]<;>simp
theorem schOk_all {s:Sch} (h:schHd s=false) (ha:∀ j,j<s.2.2.length->colBad s.2.1 (s.2.2.getD j cz)=false/\colDup s.2.2 j=false):schOk s=true:=by
 unfold schOk
 rw [h,Bool.not_false,Bool.true_and,List.all_eq_true]
 intro j hj
 obtain ⟨h1,h2⟩:=ha j (List.mem_range.1 hj)
 rw [h1,h2]; rfl
theorem any_snoc {α:Type} {p:α->Bool} {l:List α} {i:Nat} (d:α) (hi:i<l.length):(l.take (i+1)).any p=((l.take i).any p||p (l.getD i d)):=by
 rw [List.take_add_one,List.any_append]
 congr 1
 rw [List.getD_eq_getElem?_getD,List.getElem?_eq_getElem hi]
 simp
@[go_sem] noncomputable def ER2:Env:=((ER1).add 7 vnmS).add 8 rvnmS
theorem ER2_ok:ER2.Ok:=((ER1_ok).add vnm_ok).add rvnm_ok
@[go_sem] def vscS:Spec:=⟨[schT],fun d=>(.dat .bool (schOk d.1),[])⟩
theorem vsc_ok:SpecOk Try.prog 9 vscS:=by
 refine fn_ok ER2_ok vscS Try.func9 rfl (by decide) (N:=69) rfl (res:=[.tmp 2]) rfl (by decide) [] [] [] 100 (by kernel_rfl) ?_
 rintro ⟨s,_⟩ hw hp
 refine ⟨rfl,fun H hH=>?_⟩
 dsimp only [go_sem] at hw hp ⊢
 clear hp
 obtain ⟨n,b,l⟩:=s
 change List Col at l
 have hhd:schHd (n,b,l)=((!nmOk n||decide ((l.length:Int)<1))||decide (6<(l.length:Int))):=by
  have e1:decide (l.length<1)=decide ((l.length:Int)<1):=decide_eq_decide.2 (by omega)
  have e2:decide (6<l.length)=decide (6<(l.length:Int)):=decide_eq_decide.2 (by omega)
  unfold schHd
  rw [<-e1,<-e2]
 simp only [imp_self,imp3,true_and,and_true]
 rw [<-hhd]
 clear hw
 refine ⟨fun h=>(schOk_hd h).symm,fun h=>?_⟩
 have hl:l.length<=6:=by
  rw [hhd] at h
  simp only [Bool.or_eq_false_iff,decide_eq_false_iff_not] at h
  omega
 clear hhd
 have hzc:∀ j,l.getD j (zd colT)=l.getD j cz:=fun _=>rfl
 refine hH.loop (fun i:Nat=>⟨[(26,.dat (.int .i64) (i:Int)),(25,.dat (.int .i64) (l.length:Int)),(24,.dat (.slice colT) l),(1,.ref 0 0)],[(0,.box 24 (.cons (.dat .str n) (.cons (.dat .bool b) (.cons (.dat (.slice colT) l) .nil))))],1⟩) (fun i=>i<=l.length/\∀ j,j<i->colBad b (l.getD j cz)=false/\colDup l j=false) (fun i=>l.length-i) 0 1 ⟨Nat.zero_le _,fun j h=>absurd h (Nat.not_lt_zero _)⟩ ?_ ?_
 ·dsimp only [go_sem]
  and_intros<;>first|trivial|rfl|omega
 ·rintro i ⟨hi,hz⟩ R hm
  refine hH.run 200 _ _ ?_
  dsimp only [go_sem]
  simp only [imp_self,imp3,true_and,and_true,Int.toNat_natCast]
  refine ⟨fun d=>?_,fun d=>?_⟩<;>simp only [decide_eq_true_eq,decide_eq_false_iff_not] at d
  ·have d:i<l.length:=by omega
   have hb:(0:Int)<=(i:Int)/\(i:Int)<(l.length:Int):=by omega
   have hb2:(0:Int)<=(i:Int)/\(i:Int)<=(l.length:Int):=by omega
   have hi1:inR .i64 ((i:Int)+1):=by rw [inR_i64]; omega
   have hcb:colBad b (l.getD i cz)=((!nmOk (l.getD i cz).1||(decide ((l.getD i cz).2.1≠1)&&decide ((l.getD i cz).2.1≠2)))||(b&&(l.getD i cz).2.2)):=rfl
   have htk:(l.take i).length=i:=by rw [List.length_take]; omega
   simp only [hzc]
   rw [<-hcb]
   refine ⟨hb,fun h=>(schOk_at (s:=(n,b,l)) d (.inl h)).symm,fun hcf=>⟨hb2,?_⟩⟩
   refine HOk.loop (by assumption) (fun k:Nat=>⟨[(58,.dat (.int .i64) (k:Int)),(57,.dat (.int .i64) ((l.take i).length:Int)),(56,.dat (.slice colT) (l.take i)),(4,.ref 1 0),(26,.dat (.int .i64) (i:Int)),(25,.dat (.int .i64) (l.length:Int)),(24,.dat (.slice colT) l),(1,.ref 0 0)],[(0,.box 24 (.cons (.dat .str n) (.cons (.dat .bool b) (.cons (.dat (.slice colT) l) .nil)))),(1,.box 31 (.cons (.dat .str (l.getD i cz).1) (.cons (.dat (.int .i64) (l.getD i cz).2.1) (.cons (.dat .bool (l.getD i cz).2.2) .nil))))],2⟩) (fun k=>k<=i/\((l.take i).take k).any (fun x=>decide (x.1=(l.getD i cz).1))=false) (fun k=>i-k) 0 2 ⟨Nat.zero_le _,rfl⟩ ?_ ?_
   ·dsimp only [go_sem]
    and_intros<;>first|trivial|rfl|omega
   ·rintro k ⟨hk,hz2⟩ R2 hm2
    refine hH.run 200 _ _ ?_
    dsimp only [go_sem]
    simp only [imp_self,imp3,true_and,and_true,Int.toNat_natCast]
    have hzc2:∀ j,(l.take i).getD j (zd colT)=(l.take i).getD j cz:=fun _=>rfl
    refine ⟨fun e=>?_,fun e=>?_⟩<;>simp only [decide_eq_true_eq,decide_eq_false_iff_not] at e
    ·have e:k<i:=by omega
     have hbk:(0:Int)<=(k:Int)/\(k:Int)<((l.take i).length:Int):=by omega
     have hbl:(0:Int)<=(k:Int)/\(k:Int)<(l.length:Int):=by omega
     have hk1:inR .i64 ((k:Int)+1):=by rw [inR_i64]; omega
     have hsn:=any_snoc (p:=fun x:Col=>decide (x.1=(l.getD i cz).1)) (l:=l.take i) cz (by omega:k<(l.take i).length)
     rw [hz2,Bool.false_or] at hsn
     have hgk:(l.take i).getD k cz=l.getD k cz:=by
      rw [List.getD_eq_getElem?_getD,List.getD_eq_getElem?_getD,List.getElem?_take_of_lt e]
     simp only [hzc,hzc2,hgk] at hsn ⊢
     refine ⟨hbk,fun g=>?_,fun g=>?_⟩
     ·refine (schOk_at (s:=(n,b,l)) d (.inr ?_)).symm
      show ((l.take i).any fun x=>decide (x.1=(l.getD i cz).1))=true
      rw [List.any_eq_true]
      exact ⟨_,by rw [<-hgk]; exact getDm cz (by omega:k<(l.take i).length),g⟩
     ·refine ⟨hk1,hm2 _ (k+1) 2 ⟨e,by rw [hsn]; exact g⟩ (by omega) ?_⟩
      dsimp only [go_sem]
      and_intros<;>first|trivial|rfl|omega
    ·have e:k=i:=by omega
     subst e
     rw [List.take_of_length_le (by omega)] at hz2
     refine ⟨hi1,hm _ (k+1) 1 ⟨d,fun j hj=>?_⟩ (by omega) ?_⟩
     ·rcases Nat.lt_or_ge j k with h'|h'
      ·exact hz j h'
      ·have:j=k:=by omega
       rw [this]; exact ⟨hcf,hz2⟩
     ·dsimp only [go_sem]
      and_intros<;>first|trivial|rfl|omega
  ·have d:i=l.length:=by omega
   subst d
   exact (schOk_all (s:=(n,b,l)) h hz).symm
@[go_sem] def rvscS:Spec:=⟨[schT],fun d=>(.dat .bool (schOk d.1),[])⟩
theorem rvsc_ok:SpecOk Try.prog 10 rvscS:=by
 refine fn_ok ER2_ok rvscS Try.func10 rfl (by decide) (N:=70) rfl (res:=[.tmp 2]) rfl (by decide) [] [] [] 100 (by kernel_rfl) ?_
 rintro ⟨s,_⟩ hw hp
 refine ⟨rfl,fun H hH=>?_⟩
 dsimp only [go_sem] at hw hp ⊢
 clear hp
 obtain ⟨n,b,l⟩:=s
 change List Col at l
 have hhd:schHd (n,b,l)=((!nmOk n||decide ((l.length:Int)<1))||decide (6<(l.length:Int))):=by
  have e1:decide (l.length<1)=decide ((l.length:Int)<1):=decide_eq_decide.2 (by omega)
  have e2:decide (6<l.length)=decide (6<(l.length:Int)):=decide_eq_decide.2 (by omega)
  unfold schHd
  rw [<-e1,<-e2]
 simp only [imp_self,imp3,true_and,and_true]
 rw [<-hhd]
 clear hw
 refine ⟨fun h=>(schOk_hd h).symm,fun h=>?_⟩
 have hl:l.length<=6:=by
  rw [hhd] at h
  simp only [Bool.or_eq_false_iff,decide_eq_false_iff_not] at h
  omega
 clear hhd
 have hzc:∀ j,l.getD j (zd colT)=l.getD j cz:=fun _=>rfl
 refine hH.loop (fun i:Nat=>⟨[(3,.dat (.int .i64) (i:Int)),(1,.ref 0 0)],[(0,.box 24 (.cons (.dat .str n) (.cons (.dat .bool b) (.cons (.dat (.slice colT) l) .nil))))],1⟩) (fun i=>i<=l.length/\∀ j,j<i->colBad b (l.getD j cz)=false/\colDup l j=false) (fun i=>l.length-i) 0 1 ⟨Nat.zero_le _,fun j h=>absurd h (Nat.not_lt_zero _)⟩ ?_ ?_
 ·dsimp only [go_sem]
  and_intros<;>first|trivial|rfl|omega
 ·rintro i ⟨hi,hz⟩ R hm
  refine hH.run 200 _ _ ?_
  dsimp only [go_sem]
  simp only [imp_self,imp3,true_and,and_true,Int.toNat_natCast]
  refine ⟨fun d=>?_,fun d=>?_⟩<;>simp only [decide_eq_true_eq,decide_eq_false_iff_not] at d
  ·have d:i<l.length:=by omega
   have hb:(0:Int)<=(i:Int)/\(i:Int)<(l.length:Int):=by omega
   have hb2:(0:Int)<=(i:Int)/\(i:Int)<=(l.length:Int):=by omega
   have hi1:inR .i64 ((i:Int)+1):=by rw [inR_i64]; omega
   have hcb:colBad b (l.getD i cz)=((!nmOk (l.getD i cz).1||(decide ((l.getD i cz).2.1≠1)&&decide ((l.getD i cz).2.1≠2)))||(b&&(l.getD i cz).2.2)):=rfl
   have htk:(l.take i).length=i:=by rw [List.length_take]; omega
   simp only [hzc]
   rw [<-hcb]
   refine ⟨hb,fun h=>(schOk_at (s:=(n,b,l)) d (.inl h)).symm,fun hcf=>?_⟩
   refine HOk.loop (by assumption) (fun k:Nat=>⟨[(5,.dat (.int .i64) (k:Int)),(4,.ref 1 0),(3,.dat (.int .i64) (i:Int)),(1,.ref 0 0)],[(0,.box 24 (.cons (.dat .str n) (.cons (.dat .bool b) (.cons (.dat (.slice colT) l) .nil)))),(1,.box 31 (.cons (.dat .str (l.getD i cz).1) (.cons (.dat (.int .i64) (l.getD i cz).2.1) (.cons (.dat .bool (l.getD i cz).2.2) .nil))))],2⟩) (fun k=>k<=i/\((l.take i).take k).any (fun x=>decide (x.1=(l.getD i cz).1))=false) (fun k=>i-k) 0 2 ⟨Nat.zero_le _,rfl⟩ ?_ ?_
   ·dsimp only [go_sem]
    and_intros<;>first|trivial|rfl|omega
   ·rintro k ⟨hk,hz2⟩ R2 hm2
    refine hH.run 200 _ _ ?_
    dsimp only [go_sem]
    simp only [imp_self,imp3,true_and,and_true,Int.toNat_natCast]
    have hzc2:∀ j,(l.take i).getD j (zd colT)=(l.take i).getD j cz:=fun _=>rfl
    refine ⟨fun e=>?_,fun e=>?_⟩<;>simp only [decide_eq_true_eq,decide_eq_false_iff_not] at e
    ·have e:k<i:=by omega
     have hbk:(0:Int)<=(k:Int)/\(k:Int)<((l.take i).length:Int):=by omega
     have hbl:(0:Int)<=(k:Int)/\(k:Int)<(l.length:Int):=by omega
     have hk1:inR .i64 ((k:Int)+1):=by rw [inR_i64]; omega
     have hsn:=any_snoc (p:=fun x:Col=>decide (x.1=(l.getD i cz).1)) (l:=l.take i) cz (by omega:k<(l.take i).length)
     rw [hz2,Bool.false_or] at hsn
     have hgk:(l.take i).getD k cz=l.getD k cz:=by
      rw [List.getD_eq_getElem?_getD,List.getD_eq_getElem?_getD,List.getElem?_take_of_lt e]
     simp only [hzc,hzc2,hgk] at hsn ⊢
     refine ⟨hbl,fun g=>?_,fun g=>?_⟩
     ·refine (schOk_at (s:=(n,b,l)) d (.inr ?_)).symm
      show ((l.take i).any fun x=>decide (x.1=(l.getD i cz).1))=true
      rw [List.any_eq_true]
      exact ⟨_,by rw [<-hgk]; exact getDm cz (by omega:k<(l.take i).length),g⟩
     ·refine ⟨hk1,hm2 _ (k+1) 2 ⟨e,by rw [hsn]; exact g⟩ (by omega) ?_⟩
      dsimp only [go_sem]
      and_intros<;>first|trivial|rfl|omega
    ·have e:k=i:=by omega
     subst e
     rw [List.take_of_length_le (by omega)] at hz2
     refine ⟨hi1,hm _ (k+1) 1 ⟨d,fun j hj=>?_⟩ (by omega) ?_⟩
     ·rcases Nat.lt_or_ge j k with h'|h'
      ·exact hz j h'
      ·have:j=k:=by omega
       rw [this]; exact ⟨hcf,hz2⟩
     ·dsimp only [go_sem]
      and_intros<;>first|trivial|rfl|omega
  ·have d:i=l.length:=by omega
   subst d
   exact (schOk_all (s:=(n,b,l)) h hz).symm
end Go.Proofs.Ytjbnlmamealdgaa.Gx
namespace Go.Proofs.Ytjbnlmamealdgaa.Gx
open Go Go.RowKit Tw B Nt
set_option linter.unusedVariables false
set_option linter.unusedSimpArgs false
set_option maxHeartbeats 4000000
set_option maxRecDepth 20000
def chBad (s:Str) (i:Nat):Bool:=decide (strAt s i<32)||decide (126<strAt s i)
def chOk (s:Str):Bool:=(List.range s.length).all fun i=>!chBad s i
theorem chOk_bad {s:Str} {i:Nat} (hi:i<s.length) (h:chBad s i=true):chOk s=false:=by
 unfold chOk
 rw [List.all_eq_false]
 exact ⟨i,List.mem_range.2 hi,by rw [h]; simp⟩
theorem chOk_all {s:Str} (ha:∀ j,j<s.length->chBad s j=false):chOk s=true:=by
 unfold chOk
 rw [List.all_eq_true]
 intro j hj
 rw [ha j (List.mem_range.1 hj)]; rfl
def valOk (v:Val):Bool:=if v.1=1 then decide (v.2.2=[]) else ((decide (v.1=2)&&decide (v.2.1=0))&&decide (v.2.2.length<=64))&&chOk v.2.2
@[go_sem] def vvdS:Spec:=⟨[valT],fun d=>(.dat .bool (valOk d.1),[])⟩
theorem vvd_ok:SpecOk Try.prog 33 vvdS:=by
 refine fn_ok ER1_ok vvdS Try.func33 rfl (by decide) (N:=43) rfl (res:=[.tmp 2]) rfl (by decide) [] [] [] 100 (by kernel_rfl) ?_
 rintro ⟨v,_⟩ hw hp
 refine ⟨rfl,fun H hH=>?_⟩
 dsimp only [go_sem] at hw hp ⊢
 clear hp
 obtain ⟨t,n,s⟩:=v
 change Str at s
 change Int at t n
 have hsl:s.length<=9223372036854775807:=hw.1.2.2
 clear hw
 simp only [imp_self,imp3,true_and,and_true]
 refine ⟨fun h=>?_,fun h=>⟨fun h2=>?_,fun h2=>?_⟩⟩<;>simp only [decide_eq_true_eq,decide_eq_false_iff_not] at h
 ·unfold valOk; rw [if_pos h]
 ·unfold valOk
  rw [if_neg h]
  simp only [Bool.or_eq_true,decide_eq_true_eq] at h2
  rcases h2 with (h2|h2)|h2
  ·rw [decide_eq_false h2]; rfl
  ·rw [decide_eq_false h2,Bool.and_false]; rfl
  ·rw [decide_eq_false (show ¬s.length<=64 by omega),Bool.and_false]; rfl
 ·simp only [Bool.or_eq_false_iff,decide_eq_false_iff_not,Decidable.not_not] at h2
  obtain ⟨⟨h2,h3⟩,h4⟩:=h2
  have hv:valOk (t,n,s)=chOk s:=by
   unfold valOk
   rw [if_neg h,decide_eq_true h2,decide_eq_true h3,decide_eq_true (show s.length<=64 by omega)]; rfl
  refine hH.loop (fun i:Nat=>⟨[(3,.dat (.int .i64) (i:Int)),(1,.ref 0 0)],[(0,.box 68 (.cons (.dat (.int .i64) t) (.cons (.dat (.int .i64) n) (.cons (.dat .str s) .nil))))],1⟩) (fun i=>i<=s.length/\∀ j,j<i->chBad s j=false) (fun i=>s.length-i) 0 1 ⟨Nat.zero_le _,fun j h=>absurd h (Nat.not_lt_zero _)⟩ ?_ ?_
  ·dsimp only [go_sem]
   and_intros<;>first|trivial|rfl|omega
  ·rintro i ⟨hi,hz⟩ R hm
   refine hH.run 200 _ _ ?_
   dsimp only [go_sem]
   simp only [imp_self,imp3,true_and,and_true]
   refine ⟨fun d=>?_,fun d=>?_⟩<;>simp only [decide_eq_true_eq,decide_eq_false_iff_not] at d
   ·have d:i<s.length:=by omega
    have hb:(0:Int)<=(i:Int)/\(i:Int)<(s.length:Int):=by omega
    have hi1:inR .i64 ((i:Int)+1):=by rw [inR_i64]; omega
    have hnb:chBad s i=(decide (strAt s i<32)||decide (126<strAt s i)):=rfl
    rw [<-hnb]
    simp only [hb.1,hb.2,and_self,implies_true,true_and]
    refine ⟨fun h=>by rw [hv,chOk_bad d h],fun h=>⟨hi1,hm _ (i+1) 1 ⟨d,fun j hj=>?_⟩ (by omega) ?_⟩⟩
    ·rcases Nat.lt_or_ge j i with h'|h'
     ·exact hz j h'
     ·have:j=i:=by omega
      rw [this]; exact h
    ·dsimp only [go_sem]
     and_intros<;>first|trivial|rfl|omega
   ·have d:i=s.length:=by omega
    subst d
    rw [hv,chOk_all hz]
def pHd (c:Bool) (q:Rat):Bool:=(decide (sgQ q<0)||decide (sgQ (1-q)<0))||(c&&decide (sgQ (1-q)≠0))
def pBits (q:Rat):Int:=(blen (N (qf q).2.2):Int)
def pvB (c:Bool) (q:Rat):Bool:=!pHd c q&&decide (pBits q<=65536)
@[go_sem] def vprS:Spec:=⟨[schT,fT],fun d=>(.dat .bool (pvB d.1.2.1 (fq d.2.1)),[fs d.2.1<=900000])⟩
@[go_sem] noncomputable def ER3:Env:=(((ER2).add 9 vscS).add 10 rvscS).add 33 vvdS
theorem ER3_ok:ER3.Ok:=(((ER2_ok).add vsc_ok).add rvsc_ok).add vvd_ok
theorem vpr_ok:SpecOk Try.prog 34 vprS:=by
 refine fn_ok ER3_ok vprS Try.func34 rfl (by decide) (N:=30) rfl (res:=[.tmp 4]) rfl (by decide) [] [] [] 100 (by kernel_rfl) ?_
 rintro ⟨s,p,_⟩ hw hp
 refine ⟨rfl,fun H hH=>?_⟩
 dsimp only [go_sem] at hw hp ⊢
 obtain ⟨hp,-⟩:=hp
 have hsz:=qs_fq (fd_of hw.2.1)
 have l1:=qs_sub 1 (fq p)
 have l2:=qs_one
 have l3:fs (qf (1-fq p))<=5000000:=by rw [fs_qf]; omega
 simp only [imp_self,imp3,true_and,and_true,fq_qf]
 have hh:pHd s.2.1 (fq p)=((decide (sgQ (fq p)<0)||decide (sgQ (1-fq p)<0))||(s.2.1&&decide (sgQ (1-fq p)≠0))):=rfl
 rw [<-hh]
 have hfl:fldAg Try.prog 46 2 (.slice (.int .u32)):=⟨_,_,rfl,rfl,rfl⟩
 have hln:(qf (fq p)).2.2.length<=5000000:=by
  have:fs (qf (fq p))=qs (fq p):=rfl
  have h2:(qf (fq p)).2.2.length<=fs (qf (fq p)):=Nat.le_max_right _ _
  omega
 refine ⟨by omega,by omega,fun _=>l3,fun _=>l3,fun h=>?_,fun h=>⟨by omega,hfl,Nat.le_trans hln (by decide),?_⟩⟩
 ·unfold pvB; rw [h]; rfl
 ·unfold pvB; rw [h]; rfl
def vz:Val:=(0,0,[])
def tbad (cs:List Col) (vs:List Val) (i:Nat):Bool:=decide ((vs.getD i vz).1≠(cs.getD i cz).2.1)||!valOk (vs.getD i vz)
def ckT (s:Sch) (t:Tup):Int:=if !schOk s then 1 else if t.1.length≠s.2.2.length then 13 else if (List.range t.1.length).any (tbad s.2.2 t.1) then 13 else if !pvB s.2.1 (fq t.2) then 19 else 0
theorem schOk_len {s:Sch} (h:schOk s=true):1<=s.2.2.length/\s.2.2.length<=6:=by
 cases e:schHd s with
 | true=>rw [schOk_hd e] at h; cases h
 | false =>
  unfold schHd at e
  simp only [Bool.or_eq_false_iff,decide_eq_false_iff_not] at e
  omega
theorem any_range {p:Nat->Bool} {n i:Nat} (hi:i<n) (h:p i=true):(List.range n).any p=true:=List.any_eq_true.2 ⟨i,List.mem_range.2 hi,h⟩
theorem none_range {p:Nat->Bool} {n:Nat} (h:∀ j,j<n->p j=false):(List.range n).any p=false:=by
 rw [List.any_eq_false]
 intro j hj
 rw [h j (List.mem_range.1 hj)]; simp
@[go_sem] noncomputable def ER4:Env:=(ER3).add 34 vprS
theorem ER4_ok:ER4.Ok:=(ER3_ok).add vpr_ok
@[go_sem] def cktS:Spec:=⟨[schT,tupT],fun d=>(.dat (.int .i64) (ckT d.1 d.2.1),[fs d.2.1.2<=100000])⟩
theorem ckt_ok:SpecOk Try.prog 19 cktS:=by
 refine fn_ok ER4_ok cktS Try.func19 rfl (by decide) (N:=45) rfl (res:=[.tmp 4]) rfl (by decide) [] [] [] 100 (by kernel_rfl) ?_
 rintro ⟨s,t,_⟩ hw hp
 refine ⟨rfl,fun H hH=>?_⟩
 dsimp only [go_sem] at hw hp ⊢
 obtain ⟨hp,-⟩:=hp
 have hfd:=fd_of hw.2.1.2
 have hsz:=qs_fq hfd
 clear hw
 have hl0:∀ h:schOk s=true,_:=@schOk_len s
 refine ⟨fun h=>?_,fun h=>⟨fun h2=>?_,fun h2=>?_⟩⟩
 ·refine ⟨?_,trivial⟩
  unfold ckT; rw [if_pos h]
 ·have h2:t.1.length≠s.2.2.length:=fun e=>of_decide_eq_true h2 (congrArg _ e)
  refine ⟨?_,trivial⟩
  unfold ckT; rw [if_neg (by rw [h]; simp),if_pos h2]
 have h2:t.1.length=s.2.2.length:=by
  have:=of_decide_eq_false h2
  simp only [Decidable.not_not] at this
  exact Int.ofNat.inj this
 have hck:ckT s t=if (List.range t.1.length).any (tbad s.2.2 t.1) then 13 else if !pvB s.2.1 (fq t.2) then 19 else 0:=by
  unfold ckT; rw [if_neg (by rw [h]; simp),if_neg (by simp [h2])]
 have hl:=hl0 (by simpa using h)
 refine hH.loop (fun i:Nat=>⟨[(20,.dat (.int .i64) (i:Int)),(19,.dat (.int .i64) (t.1.length:Int)),(18,.dat (.slice valT) t.1),(3,.ref 1 0),(2,.ref 0 0)],[(1,.box 49 (.cons (.dat (.slice valT) t.1) (.cons (.dat .bool t.2.1) (.cons (.dat (.slice (.int .u32)) t.2.2.1) (.cons (.dat (.slice (.int .u32)) t.2.2.2) .nil))))),(0,.box 24 (.cons (.dat .str s.1) (.cons (.dat .bool s.2.1) (.cons (.dat (.slice colT) s.2.2) .nil))))],2⟩) (fun i=>i<=t.1.length/\∀ j,j<i->tbad s.2.2 t.1 j=false) (fun i=>t.1.length-i) 0 2 ⟨Nat.zero_le _,fun j h=>absurd h (Nat.not_lt_zero _)⟩ ?_ ?_
 ·dsimp only [go_sem]
  and_intros<;>first|trivial|rfl|omega
 ·rintro i ⟨hi,hz⟩ R hm
  refine hH.run 200 _ _ ?_
  dsimp only [go_sem]
  simp only [imp_self,imp3,true_and,and_true,Int.toNat_natCast]
  refine ⟨fun d=>?_,fun d=>?_⟩<;>simp only [decide_eq_true_eq,decide_eq_false_iff_not] at d
  ·have d:i<t.1.length:=by change (i:Int)<(t.1.length:Int) at d; omega
   have hb:(0:Int)<=(i:Int)/\(i:Int)<(t.1.length:Int):=by omega
   have hb2:(0:Int)<=(i:Int)/\(i:Int)<(s.2.2.length:Int):=by omega
   have hi1:inR .i64 ((i:Int)+1):=by rw [inR_i64]; omega
   have hnb:tbad s.2.2 t.1 i=(decide ((t.1.getD i (zd valT)).1≠(s.2.2.getD i (zd colT)).2.1)||!valOk (t.1.getD i (zd valT))):=by
    unfold tbad
    rfl
   simp only [hb.1,hb.2,hb2.1,hb2.2,and_self,implies_true,true_and]
   rw [<-hnb]
   refine ⟨fun g=>?_,fun g=>⟨hi1,hm _ (i+1) 2 ⟨d,fun j hj=>?_⟩ (by omega) ?_⟩⟩
   ·rw [hck,any_range d g,if_pos rfl]
   ·rcases Nat.lt_or_ge j i with h'|h'
    ·exact hz j h'
    ·have:j=i:=by omega
     rw [this]; exact g
   ·dsimp only [go_sem]
    and_intros<;>first|trivial|rfl|omega
  ·have d:i=t.1.length:=by change ¬(i:Int)<(t.1.length:Int) at d; omega
   subst d
   rw [none_range hz,if_neg (by simp)] at hck
   refine ⟨by omega,fun g=>?_,fun g=>?_⟩
   ·rw [hck,if_pos g]
   ·rw [hck,if_neg (by rw [g]; simp)]
end Go.Proofs.Ytjbnlmamealdgaa.Gx
namespace Go.Proofs.Ytjbnlmamealdgaa.Gx
open Go Go.RowKit Tw B Nt
set_option linter.unusedVariables false
set_option linter.unusedSimpArgs false
set_option maxHeartbeats 4000000
set_option maxRecDepth 20000
theorem cB_zero:∀ a b:Str,cB a b=0↔a=b
 | [],[]=>by simp [cB,Lib.compareBytes]
 | [],_::_=>by simp [cB,Lib.compareBytes]
 | _::_,[]=>by simp [cB,Lib.compareBytes]
 | a::x,b::y=>by
  have h:=cB_zero x y
  have e3:cB (a::x) (b::y)=if a<b then -1 else if b<a then 1 else cB x y:=rfl
  rw [e3]
  have hl:∀ u v:UInt8,u<v↔u.toNat<v.toNat:=fun u v=>UInt8.lt_iff_toNat_lt
  by_cases l1:a<b
  ·have:a≠b:=by intro e; subst e; rw [hl] at l1; omega
   simp [l1,this]
  ·by_cases l2:b<a
   ·have:a≠b:=by intro e; subst e; rw [hl] at l2; omega
    simp [l1,l2,this]
   ·have l3:a=b:=UInt8.toNat_inj.1 (by rw [hl] at l1 l2; omega)
    subst l3
    simp [l1,h]
@[go_sem] def rvcpS:Spec:=⟨[valT,valT],fun d=>(.dat (.int .i64) (cV d.1 d.2.1),[])⟩
theorem cI_ne {a b:Int} (h:a≠b):cI a b=if a<b then -1 else 1:=by
 unfold cI
 by_cases h1:a<b
 ·rw [if_pos h1,if_pos h1]
 ·rw [if_neg h1,if_neg h1,if_pos (by omega)]
theorem cI_eq {a:Int}:cI a a=0:=by unfold cI; rw [if_neg (by omega),if_neg (by omega)]
theorem cI_zero {a b:Int}:cI a b=0↔a=b:=by
 constructor
 ·intro h
  refine Decidable.byContradiction fun hn=>?_
  rw [cI_ne hn] at h
  split at h<;>cases h
 ·rintro rfl; exact cI_eq
@[go_sem] noncomputable def ER5:Env:=(ER4).add 19 cktS
theorem ER5_ok:ER5.Ok:=(ER4_ok).add ckt_ok
@[reducible,go_sem] def relT:Ty:=.pair schT (.slice tupT)
abbrev Rel:=Sch×List Tup
def keyG (cs:List Col) (vs:List Val) (k:Nat):List Val:=((List.range k).filter fun i=>(cs.getD i cz).2.2).map fun i=>vs.getD i vz
def keyL (cs:List Col) (vs:List Val):List Val:=if vs.length≠cs.length then [] else keyG cs vs cs.length
theorem keyG_snoc (cs:List Col) (vs:List Val) (k:Nat):keyG cs vs (k+1)=keyG cs vs k++if (cs.getD k cz).2.2 then [vs.getD k vz] else []:=by
 unfold keyG
 rw [List.range_succ,List.filter_append,List.map_append]
 congr 1
 simp only [List.filter_cons,List.filter_nil]
 split<;>rfl
theorem keyG_len (cs:List Col) (vs:List Val) (k:Nat):(keyG cs vs k).length<=k:=by
 unfold keyG
 rw [List.length_map]
 exact Nat.le_trans (List.length_filter_le _ _) (by simp)
@[go_sem] def keyS:Spec:=⟨[schT,.slice valT],fun d=>(.dat (.slice valT) (keyL d.1.2.2 d.2.1),[List.length d.1.2.2<=1000])⟩
theorem key_ok:SpecOk Try.prog 35 keyS:=by
 refine fn_ok ER5_ok keyS Try.func35 rfl (by decide) (N:=33) rfl (res:=[.tmp 4]) rfl (by decide) [(8,[(29,.dt)])] [] [] 100 (by kernel_rfl) ?_
 rintro ⟨s,v,_⟩ hw hp
 refine ⟨rfl,fun H hH=>?_⟩
 dsimp only [go_sem] at hw hp ⊢
 obtain ⟨hp,-⟩:=hp
 change List Val at v
 obtain ⟨n,b,cs⟩:=s
 change List Col at cs
 change cs.length<=1000 at hp
 clear hw
 refine ⟨fun h=>⟨?_,trivial⟩,fun h=>?_⟩<;>simp only [decide_eq_true_eq,decide_eq_false_iff_not,Decidable.not_not] at h
 ·have:v.length≠cs.length:=fun e=>h (congrArg _ e)
  unfold keyL; rw [if_pos this]
 have hlen:v.length=cs.length:=Int.ofNat.inj h
 have hk:keyL cs v=keyG cs v cs.length:=by unfold keyL; rw [if_neg (by simp [hlen])]
 refine hH.loop (fun i:Nat=>⟨[(17,.dat (.int .i64) (i:Int)),(16,.dat (.int .i64) (cs.length:Int)),(15,.dat (.slice colT) cs),(1,.dat (.slice valT) v),(2,.ref 0 0),(5,.own 1)],[(0,.box 24 (.cons (.dat .str n) (.cons (.dat .bool b) (.cons (.dat (.slice colT) cs) .nil)))),(1,.row 68 valT (keyG cs v i))],2⟩) (fun i=>i<=cs.length) (fun i=>cs.length-i) 0 1 (Nat.zero_le _) ?_ ?_
 ·dsimp only [go_sem]
  and_intros<;>first|trivial|rfl|omega
 ·intro i hi R hm
  refine hH.run 100 _ _ ?_
  dsimp only [go_sem]
  simp only [Int.toNat_natCast]
  have hzc:∀ j,cs.getD j (zd colT)=cs.getD j cz:=fun _=>rfl
  have hzv:∀ j,v.getD j (zd valT)=v.getD j vz:=fun _=>rfl
  refine ⟨fun d=>?_,fun d=>?_⟩<;>simp only [decide_eq_true_eq,decide_eq_false_iff_not] at d
  ·have d:i<cs.length:=by omega
   have hb:(0:Int)<=(i:Int)/\(i:Int)<(cs.length:Int):=by omega
   have hb2:(0:Int)<=(i:Int)/\(i:Int)<(v.length:Int):=by omega
   have hi1:inR .i64 ((i:Int)+1):=by rw [inR_i64]; omega
   have hs:=keyG_snoc cs v i
   have hl:=keyG_len cs v i
   simp only [hzc,hzv]
   refine ⟨hb,fun e=>?_,fun e=>?_⟩
   ·rw [e,if_pos rfl] at hs
    refine ⟨hb2,?_,trivial,hi1,hm _ (i+1) 2 d (by omega) ?_⟩
    ·change ((keyG cs v i).length+1)*32<=_
     omega
    ·dsimp only [go_sem]
     rw [hs]
     and_intros<;>first|trivial|rfl|omega
   ·rw [e,if_neg (by simp),List.append_nil] at hs
    refine ⟨hi1,hm _ (i+1) 2 d (by omega) ?_⟩
    dsimp only [go_sem]
    rw [hs]
    and_intros<;>first|trivial|rfl|omega
  ·have d:i=cs.length:=by omega
   subst d
   exact ⟨hk.symm,trivial⟩
end Go.Proofs.Ytjbnlmamealdgaa.Gx
