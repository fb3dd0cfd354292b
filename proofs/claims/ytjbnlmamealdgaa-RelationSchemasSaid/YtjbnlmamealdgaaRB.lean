/-
  Relations: known, tuple.
-/
import Derived.Test.YtjbnlmamealdgaaRA
import Derived.Test.YtjbnlmamealdgaaRT
import Derived.Test.YtjbnlmamealdgaaBP
namespace Go.Proofs.Ytjbnlmamealdgaa.Gx
open Go Go.RowKit Tw B Nt
set_option linter.unusedVariables false
set_option linter.unusedSimpArgs false
set_option maxHeartbeats 4000000
set_option maxRecDepth 20000
@[go_sem] noncomputable def ERF:Env:=((((ERE).add 5 schsS).add 29 rIntS).add 13 pairS).add 14 bProbS
theorem ERF_ok:ERF.Ok:=((((ERE_ok).add schs_ok).add rInt_ok).add pair_ok).add bProb_ok
instance dCol:DecidableEq Col:=inferInstanceAs (DecidableEq (List UInt8×Int×Bool))
instance dVal:DecidableEq Val:=inferInstanceAs (DecidableEq (Int×Int×List UInt8))
instance dFrc:DecidableEq Frc:=inferInstanceAs (DecidableEq (Bool×List Int×List Int))
instance dCols:DecidableEq (List Col):=inferInstance
instance dVals:DecidableEq (List Val):=inferInstance
instance dSch:DecidableEq Sch:=inferInstanceAs (DecidableEq (List UInt8×Bool×List Col))
instance dTup:DecidableEq Tup:=inferInstanceAs (DecidableEq (List Val×Frc))
instance dTups:DecidableEq (List Tup):=inferInstance
instance dRel:DecidableEq Rel:=inferInstanceAs (DecidableEq (Sch×List Tup))
def kSch:Sch:=([75],false,[([107],1,true),([118],1,false)])
def kT (k w p:Int):Tup:=([vInt k,vInt w],qf (bpr p))
theorem k_get:schs.getD (Int.toNat 2) (zd (Ty.str.pair (Ty.bool.pair (Ty.str.pair ((Ty.int IntKind.i64).pair Ty.bool)).slice)))=kSch:=rfl
theorem k_1:insE (kSch,[]) (kT 1 2 2)=0:=by decide +kernel
theorem k_2:insR (kSch,[]) (kT 1 2 2)=(kSch,[kT 1 2 2]):=by decide +kernel
theorem k_3:insE (kSch,[kT 1 2 2]) (kT 1 1 0)=19:=by decide +kernel
theorem k_4:insE (kSch,[kT 1 2 2]) (kT 1 1 1)=0:=by decide +kernel
theorem k_5:insR (kSch,[kT 1 2 2]) (kT 1 1 1)=(kSch,[kT 1 1 1,kT 1 2 2]):=by decide +kernel
theorem k_6:blkR (kSch,[kT 1 1 1,kT 1 2 2])=[[0,1]]:=by decide +kernel
theorem k_7:1-sumQ [kT 1 1 1,kT 1 2 2] [0,1]=0:=by decide +kernel
theorem k_p0:relP (kSch,[]):=by unfold relP; decide +kernel
theorem k_p1:relP (kSch,[kT 1 2 2]):=by unfold relP; decide +kernel
theorem k_p2:relP (kSch,[kT 1 1 1,kT 1 2 2]):=by unfold relP; decide +kernel
theorem k_8:(if vldR (kSch,[kT 1 1 1,kT 1 2 2])=0 then grpB (kSch,[kT 1 1 1,kT 1 2 2]) else [])=[[0,1]]:=k_6
theorem k_9:fs (qf 0)<=5000000/\sgQ (fq (qf 0))=0:=by decide +kernel
@[go_sem] def kn9S:Spec:=⟨[],fun d=>(.dat .bool true,[])⟩
theorem kn9_ok:SpecOk Try.prog 11 kn9S:=by
 refine fn_ok ERF_ok kn9S Try.func11 rfl (by decide) (N:=71) rfl (res:=[.tmp 0]) rfl (by decide) [(2,[(1000000,.mx [(7,1000000)])]),(3,[(1000000,.mx [(10,8),(7,1000000),(2000000,8)])]),(4,[(1000000,.mx [(7,1000000)])])] [] [] 100 (by kernel_rfl) ?_
 rintro ⟨_⟩ hw hp
 refine ⟨rfl,fun H hH=>?_⟩
 dsimp only [go_sem] at hw hp ⊢
 have e1:(([vInt 1,vInt 2],qf (bpr 2)):Tup)=kT 1 2 2:=rfl
 have e2:(([vInt 1,vInt 1],qf (bpr 0)):Tup)=kT 1 1 0:=rfl
 have e3:(([vInt 1,vInt 1],qf (bpr 1)):Tup)=kT 1 1 1:=rfl
 simp only [k_get,e1,e2,e3,k_1,k_2,k_3,k_4,k_5,decide_true,Bool.and_self,imp_self,true_and]
 simp only [k_8,k_6]
 have e4:(0:Int)<=0/\(0:Int)<(([[0,1]]:List (List Int)).length:Int):=by decide
 have e5:([[0,1]]:List (List Int)).getD (Int.toNat 0) []=[0,1]:=rfl
 have e6:(([kT 1 1 1,kT 1 2 2]:List Tup).length:Int)=2:=rfl
 have e7:(([[0,1]]:List (List Int)).length:Int)=1:=rfl
 have f:∀ n:Int,qs (bpr n)<=1:=fun n=>(bpr_b n).1
 rw [if_pos e4,e5,k_7]
 refine ⟨by decide,k_p0,⟨by decide,by rw [fs_qf]; have:=f 2; omega⟩,k_p1,⟨by decide,by rw [fs_qf]; have:=f 0; omega⟩,k_p1,⟨by decide,by rw [fs_qf]; have:=f 1; omega⟩,k_p2,fun _=>k_p2,fun _=>k_9.1,?_,trivial⟩
 rw [k_9.2]
 decide
@[go_sem] noncomputable def ERG:Env:=(ERF).add 11 kn9S
theorem ERG_ok:ERG.Ok:=(ERF_ok).add kn9_ok
@[go_sem] noncomputable def ERH:Env:=ERG
end Go.Proofs.Ytjbnlmamealdgaa.Gx
