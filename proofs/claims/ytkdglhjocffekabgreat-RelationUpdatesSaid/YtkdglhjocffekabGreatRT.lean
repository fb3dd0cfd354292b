/-
  Relations: the schemas of the base, values of the reference, tuples of the laws.
-/
import Derived.Test.YtkdglhjocffekabGreatRS
namespace Go.Proofs.YtkdglhjocffekabGreat.Gx
open Go Go.RowKit Tw B Nt
set_option linter.unusedVariables false
set_option linter.unusedSimpArgs false
set_option maxHeartbeats 4000000
set_option maxRecDepth 20000
@[go_sem] noncomputable def ERS:Env:=((ER8).add 44 smvS).add 43 smsS
theorem ERS_ok:ERS.Ok:=((ER8_ok).add smv_ok).add sms_ok
def colA:Col:=([97],1,false)
def colB:Col:=([98],1,false)
def schs:List Sch:=[([82],false,[colA,colB]),([83],false,[colA]),([75],false,[([107],1,true),([118],1,false)]),([67],true,[colA,colB])]
@[go_sem] def schsS:Spec:=⟨[],fun d=>(.dat (.slice schT) schs,[])⟩
theorem schs_ok:SpecOk Tryz.prog 4 schsS:=by
 refine fn_ok ERS_ok schsS Tryz.func4 rfl (by decide) (N:=21) rfl (res:=[.tmp 0]) rfl (by decide) [(2,[(7,.dt),(10,.dt),(14,.dt),(18,.dt),(20,.dt)])] [] [] 100 (by kernel_rfl) ?_
 rintro ⟨_⟩ hw hp
 refine ⟨rfl,fun H hH=>?_⟩
 dsimp only [go_sem] at hw hp ⊢
 exact ⟨rfl,trivial⟩
def vInt (n:Int):Val:=(1,n,[])
def vStr (s:Str):Val:=(2,0,s)
@[go_sem] def rIntS:Spec:=⟨[.int .i64],fun d=>(.dat valT (vInt d.1),[])⟩
theorem rInt_ok:SpecOk Tryz.prog 19 rIntS:=by
 refine fn_ok ERS_ok rIntS Tryz.func19 rfl (by decide) (N:=5) rfl (res:=[.cell 2 57]) rfl (by decide) [] [] [] 100 (by kernel_rfl) ?_
 rintro ⟨(n:Int),_⟩ hw hp
 refine ⟨rfl,fun H hH=>?_⟩
 dsimp only [go_sem] at hw hp ⊢
 exact ⟨rfl,trivial⟩
@[go_sem] def rStrS:Spec:=⟨[.str],fun d=>(.dat valT (vStr d.1),[])⟩
theorem rStr_ok:SpecOk Tryz.prog 20 rStrS:=by
 refine fn_ok ERS_ok rStrS Tryz.func20 rfl (by decide) (N:=5) rfl (res:=[.cell 2 57]) rfl (by decide) [] [] [] 100 (by kernel_rfl) ?_
 rintro ⟨s,_⟩ hw hp
 refine ⟨rfl,fun H hH=>?_⟩
 dsimp only [go_sem] at hw hp ⊢
 exact ⟨rfl,trivial⟩
@[go_sem] noncomputable def ERU:Env:=(((ERS).add 4 schsS).add 19 rIntS).add 20 rStrS
theorem ERU_ok:ERU.Ok:=(((ERS_ok).add schs_ok).add rInt_ok).add rStr_ok
@[go_sem] def pairS:Spec:=⟨[.int .i64,.int .i64],fun d=>(.dat (.slice valT) [vInt d.1,vInt d.2.1],[])⟩
theorem pair_ok:SpecOk Tryz.prog 46 pairS:=by
 refine fn_ok ERU_ok pairS Tryz.func46 rfl (by decide) (N:=10) rfl (res:=[.tmp 4]) rfl (by decide) [(1,[(9,.dt)])] [] [] 100 (by kernel_rfl) ?_
 rintro ⟨(k:Int),(n:Int),_⟩ hw hp
 refine ⟨rfl,fun H hH=>?_⟩
 dsimp only [go_sem] at hw hp ⊢
 exact ⟨rfl,trivial⟩
noncomputable def relE (a b:Rel):Bool:=@decide (a=b) (Classical.propDecidable _)
theorem relE_t {a b:Rel} (h:a=b):relE a b=true:=@decide_eq_true _ (Classical.propDecidable _) h
theorem relE_f {a b:Rel} (h:a≠b):relE a b=false:=@decide_eq_false _ (Classical.propDecidable _) h
@[go_sem] noncomputable def smrS:Spec:=⟨[relT,relT],fun d=>(.dat .bool (relE d.1 d.2.1),[relP d.1,relP d.2.1])⟩
theorem smr_ok:SpecOk Tryz.prog 15 smrS:=by
 refine fn_ok ERU_ok smrS Tryz.func15 rfl (by decide) (N:=58) rfl (res:=[.tmp 4]) rfl (by decide) [] [] [] 100 (by kernel_rfl) ?_
 rintro ⟨a,b,_⟩ hw hp
 refine ⟨rfl,fun H hH=>?_⟩
 dsimp only [go_sem] at hw hp ⊢
 obtain ⟨hp,hq,-⟩:=hp
 obtain ⟨s,l⟩:=a
 obtain ⟨s',l'⟩:=b
 change List Tup at l l'
 change Sch at s s'
 obtain ⟨hp1,hp2,hp3⟩:=hp
 obtain ⟨hq1,hq2,hq3⟩:=hq
 change l.length<=400 at hp2
 change l'.length<=400 at hq2
 clear hw
 simp only [imp_self,true_and]
 refine ⟨fun h=>?_,fun h=>?_⟩<;>simp only [Bool.or_eq_true,Bool.or_eq_false_iff,Bool.not_eq_true',Bool.not_eq_false',decide_eq_true_eq,decide_eq_false_iff_not,Decidable.not_not] at h
 ·refine ⟨(relE_f fun e=>?_).symm,trivial⟩
  cases e
  rcases h with h|h<;>exact h rfl
 obtain ⟨rfl,h⟩:=h
 have h:(l.length:Int)=(l'.length:Int):=h
 have h:l.length=l'.length:=by omega
 refine hH.loop (fun i:Nat=>⟨[(5,.dat (.int .i64) (i:Int)),(2,.ref 0 0),(3,.ref 1 0)],[(0,.box 31 (.cons (.dat .str s.1) (.cons (.dat .bool s.2.1) (.cons (.dat (.slice colT) s.2.2) (.cons (.dat (.slice tupT) l) .nil))))),(1,.box 31 (.cons (.dat .str s.1) (.cons (.dat .bool s.2.1) (.cons (.dat (.slice colT) s.2.2) (.cons (.dat (.slice tupT) l') .nil)))))],2⟩) (fun i=>i<=l.length/\∀ j,j<i->l.getD j tz=l'.getD j tz) (fun i=>l.length-i) 0 2 ⟨Nat.zero_le _,fun j h=>absurd h (Nat.not_lt_zero _)⟩ ?_ ?_
 ·dsimp only [go_sem]
  and_intros<;>first|trivial|rfl|omega
 ·rintro i ⟨hi,hz⟩ R hm
  refine hH.run 100 _ _ ?_
  dsimp only [go_sem]
  have hzt:∀ j,l.getD j (zd tupT)=l.getD j tz:=fun _=>rfl
  have hzb:∀ j,l'.getD j (zd tupT)=l'.getD j tz:=fun _=>rfl
  simp only [Int.toNat_natCast,imp_self,true_and,hzt,hzb]
  refine ⟨fun d=>?_,fun d=>?_⟩<;>simp only [decide_eq_true_eq,decide_eq_false_iff_not] at d
  ·have d:i<l.length:=by omega
   have hb:(0:Int)<=(i:Int)/\(i:Int)<(l.length:Int):=by omega
   have hb2:(0:Int)<=(i:Int)/\(i:Int)<(l'.length:Int):=by omega
   have hi1:inR .i64 ((i:Int)+1):=by rw [inR_i64]; omega
   refine ⟨hb,hb2,fun _=>hb,fun _=>hb2,fun e=>?_,fun e=>⟨hi1,hm _ (i+1) 2 ⟨d,fun j hj=>?_⟩ (by omega) ?_⟩⟩<;>simp only [Bool.or_eq_true,Bool.or_eq_false_iff,Bool.not_eq_true',Bool.not_eq_false',decide_eq_true_eq,decide_eq_false_iff_not] at e
   ·refine ⟨(relE_f fun h'=>?_).symm,trivial⟩
    cases h'
    rcases e with e|e
    ·exact e rfl
    ·exact e ⟨rfl,rfl,rfl⟩
   ·rcases Nat.lt_or_ge j i with h'|h'
    ·exact hz j h'
    ·have:j=i:=by omega
     rw [this]
     obtain ⟨e1,e2,e3,e4⟩:=e
     exact Prod.ext e1 (Prod.ext e2 (Prod.ext e3 e4))
   ·dsimp only [go_sem]
    and_intros<;>first|trivial|rfl|omega
  ·have d:i=l.length:=by omega
   subst d
   exact ⟨(relE_t (by rw [list_eq tz h hz])).symm,trivial⟩
end Go.Proofs.YtkdglhjocffekabGreat.Gx
