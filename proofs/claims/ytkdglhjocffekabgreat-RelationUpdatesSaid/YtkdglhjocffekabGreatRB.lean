/-
  Relations: known, tuple.
-/
import Derived.Test.YtkdglhjocffekabGreatRA
import Derived.Test.YtkdglhjocffekabGreatRT
import Derived.Test.YtkdglhjocffekabGreatBP
namespace Go.Proofs.YtkdglhjocffekabGreat.Gx
open Go Go.RowKit Tw B Nt
set_option linter.unusedVariables false
set_option linter.unusedSimpArgs false
set_option maxHeartbeats 4000000
set_option maxRecDepth 20000
@[go_sem] noncomputable def ERF:Env:=((((((((ERE).add 44 smvS).add 43 smsS).add 4 schsS).add 19 rIntS).add 20 rStrS).add 46 pairS).add 15 smrS).add 9 bProbS
theorem ERF_ok:ERF.Ok:=((((((((ERE_ok).add smv_ok).add sms_ok).add schs_ok).add rInt_ok).add rStr_ok).add pair_ok).add smr_ok).add bProb_ok
instance dCol:DecidableEq Col:=inferInstanceAs (DecidableEq (List UInt8×Int×Bool))
instance dVal:DecidableEq Val:=inferInstanceAs (DecidableEq (Int×Int×List UInt8))
instance dFrc:DecidableEq Frc:=inferInstanceAs (DecidableEq (Bool×List Int×List Int))
instance dCols:DecidableEq (List Col):=inferInstance
instance dVals:DecidableEq (List Val):=inferInstance
instance dSch:DecidableEq Sch:=inferInstanceAs (DecidableEq (List UInt8×Bool×List Col))
instance dTup:DecidableEq Tup:=inferInstanceAs (DecidableEq (List Val×Frc))
instance dTups:DecidableEq (List Tup):=inferInstance
instance dRel:DecidableEq Rel:=inferInstanceAs (DecidableEq (Sch×List Tup))
def kSch:Sch:=([75],false,[([107],1,true),([118],1,false)])
def kT (k w p:Int):Tup:=([vInt k,vInt w],qf (bpr p))
theorem k_get:schs.getD (Int.toNat 2) (zd (Ty.str.pair (Ty.bool.pair (Ty.str.pair ((Ty.int IntKind.i64).pair Ty.bool)).slice)))=kSch:=rfl
theorem k_1:insE (kSch,[]) (kT 1 2 2)=0:=by decide +kernel
theorem k_2:insR (kSch,[]) (kT 1 2 2)=(kSch,[kT 1 2 2]):=by decide +kernel
theorem k_3:insE (kSch,[kT 1 2 2]) (kT 1 1 0)=19:=by decide +kernel
theorem k_4:insE (kSch,[kT 1 2 2]) (kT 1 1 1)=0:=by decide +kernel
theorem k_5:insR (kSch,[kT 1 2 2]) (kT 1 1 1)=(kSch,[kT 1 1 1,kT 1 2 2]):=by decide +kernel
theorem k_6:blkR (kSch,[kT 1 1 1,kT 1 2 2])=[[0,1]]:=by decide +kernel
theorem k_7:1-sumQ [kT 1 1 1,kT 1 2 2] [0,1]=0:=by decide +kernel
theorem k_p0:relP (kSch,[]):=by unfold relP; decide +kernel
theorem k_p1:relP (kSch,[kT 1 2 2]):=by unfold relP; decide +kernel
theorem k_p2:relP (kSch,[kT 1 1 1,kT 1 2 2]):=by unfold relP; decide +kernel
theorem k_8:(if vldR (kSch,[kT 1 1 1,kT 1 2 2])=0 then grpB (kSch,[kT 1 1 1,kT 1 2 2]) else [])=[[0,1]]:=k_6
theorem k_9:fs (qf 0)<=5000000/\sgQ (fq (qf 0))=0:=by decide +kernel
@[go_sem] def kn9S:Spec:=⟨[],fun d=>(.dat .bool true,[])⟩
theorem kn9_ok:SpecOk Tryz.prog 18 kn9S:=by
 refine fn_ok ERF_ok kn9S Tryz.func18 rfl (by decide) (N:=71) rfl (res:=[.tmp 0]) rfl (by decide) [(2,[(1000000,.mx [(7,1000000)])]),(3,[(1000000,.mx [(10,8),(7,1000000),(2000000,8)])]),(4,[(1000000,.mx [(7,1000000)])])] [] [] 100 (by kernel_rfl) ?_
 rintro ⟨_⟩ hw hp
 refine ⟨rfl,fun H hH=>?_⟩
 dsimp only [go_sem] at hw hp ⊢
 have e1:(([vInt 1,vInt 2],qf (bpr 2)):Tup)=kT 1 2 2:=rfl
 have e2:(([vInt 1,vInt 1],qf (bpr 0)):Tup)=kT 1 1 0:=rfl
 have e3:(([vInt 1,vInt 1],qf (bpr 1)):Tup)=kT 1 1 1:=rfl
 simp only [k_get,e1,e2,e3,k_1,k_2,k_3,k_4,k_5,decide_true,Bool.and_self,imp_self,true_and]
 simp only [k_8,k_6]
 have e4:(0:Int)<=0/\(0:Int)<(([[0,1]]:List (List Int)).length:Int):=by decide
 have e5:([[0,1]]:List (List Int)).getD (Int.toNat 0) []=[0,1]:=rfl
 have e6:(([kT 1 1 1,kT 1 2 2]:List Tup).length:Int)=2:=rfl
 have e7:(([[0,1]]:List (List Int)).length:Int)=1:=rfl
 have f:∀ n:Int,qs (bpr n)<=1:=fun n=>(bpr_b n).1
 rw [if_pos e4,e5,k_7]
 refine ⟨by decide,k_p0,⟨by decide,by rw [fs_qf]; have:=f 2; omega⟩,k_p1,⟨by decide,by rw [fs_qf]; have:=f 0; omega⟩,k_p1,⟨by decide,by rw [fs_qf]; have:=f 1; omega⟩,k_p2,fun _=>k_p2,fun _=>k_9.1,?_,trivial⟩
 rw [k_9.2]
 decide
@[go_sem] noncomputable def ERG:Env:=(ERF).add 18 kn9S
theorem ERG_ok:ERG.Ok:=(ERF_ok).add kn9_ok
def b5 (n:Int):Int:=bitsI .and .i64 (shrI .i64 n 7) 31
def prN (n:Int):List Val:=[vInt (bitsI .and .i64 n 3),vInt (bitsI .and .i64 (shrI .i64 n 2) 3)]
def tup9 (n:Int):Tup:=if b5 n=31 then ((prN n).set 1 (vStr [120]),qf (bpr (shrI .i64 n 4))) else if b5 n=30 then (prN n,qf (bfr (shrI .i64 n 12))) else if b5 n=29 then ((prN n).take 1,qf (bpr (shrI .i64 n 4))) else (prN n,qf (bpr (shrI .i64 n 4)))
@[go_sem] def tupS:Spec:=⟨[.int .i64],fun d=>(.dat tupT (tup9 d.1),[])⟩
theorem tup_ok:SpecOk Tryz.prog 5 tupS:=by
 refine fn_ok ERG_ok tupS Tryz.func5 rfl (by decide) (N:=38) rfl (res:=[.cell 2 38]) rfl (by decide) [] [(8,[1]),(9,[1])] [] 100 (by kernel_rfl) ?_
 rintro ⟨(n:Int),_⟩ hw hp
 refine ⟨rfl,fun H hH=>?_⟩
 dsimp only [go_sem] at hw hp ⊢
 change 0<=2/\0<=4/\0<=7/\(decide (b5 n=31)=true->(0<=1/\1<((prN n).length:Int))/\Int.toNat 1<(prN n).length/\(((prN n).set (Int.toNat 1) (vStr [120]),qf (bpr (shrI .i64 n 4))):Tup)=tup9 n/\True)/\(decide (b5 n=31)=false->(decide (b5 n=30)=true->0<=12/\((prN n,qf (bfr (shrI .i64 n 12))):Tup)=tup9 n/\True) /\
  (decide (b5 n=30)=false->(decide (b5 n=29)=true->(0<=1/\1<=((prN n).length:Int))/\((List.take (Int.toNat 1) (prN n),qf (bpr (shrI .i64 n 4))):Tup)=tup9 n/\True)/\(decide (b5 n=29)=false->((prN n,qf (bpr (shrI .i64 n 4))):Tup)=tup9 n/\True)))
 have hl:((prN n).length:Int)=2:=rfl
 unfold tup9
 refine ⟨by decide,by decide,by decide,fun h=>⟨by rw [hl]; decide,(show 1<2 by decide),?_,trivial⟩,fun h=>⟨fun h1=>⟨by decide,?_,trivial⟩,fun h1=>⟨fun h2=>⟨by rw [hl]; decide,?_,trivial⟩,fun h2=>⟨?_,trivial⟩⟩⟩⟩<;>simp only [decide_eq_true_eq,decide_eq_false_iff_not] at *
 ·rw [if_pos h]; rfl
 ·rw [if_neg h,if_pos h1]
 ·rw [if_neg h,if_neg h1,if_pos h2]; rfl
 ·rw [if_neg h,if_neg h1,if_neg h2]
theorem tup9_le (n:Int):(tup9 n).1.length<=2/\fs (tup9 n).2<=64:=by
 have h1:=(bpr_b (shrI .i64 n 4)).1
 have h2:=qs_le (bfr_b (shrI .i64 n 12))
 unfold tup9
 split
 ·exact ⟨by simp [prN],by rw [fs_qf]; omega⟩
 ·split
  ·exact ⟨by simp [prN],by rw [fs_qf]; omega⟩
  ·split
   ·exact ⟨by simp [prN],by rw [fs_qf]; omega⟩
   ·exact ⟨by simp [prN],by rw [fs_qf]; omega⟩
@[go_sem] noncomputable def ERH:Env:=(ERG).add 5 tupS
theorem ERH_ok:ERH.Ok:=(ERG_ok).add tup_ok
end Go.Proofs.YtkdglhjocffekabGreat.Gx
