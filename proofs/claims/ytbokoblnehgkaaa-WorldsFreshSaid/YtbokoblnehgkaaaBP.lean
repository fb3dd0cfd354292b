/-
  credencebase.Prob.
-/
import Derived.Test.YtbokoblnehgkaaaMDb
namespace Go.Proofs.Ytbokoblnehgkaaa.Gx
open Go Go.RowKit Tw B Nt
set_option linter.unusedVariables false
set_option linter.unusedSimpArgs false
set_option maxHeartbeats 4000000
set_option maxRecDepth 20000
def bprK (k:Nat):Rat:=Rat.divInt (([1,1,2,1,1,0,3,1]:List Int).getD k 0) (([2,3,3,4,1,1,5,7]:List Int).getD k 0)
def bpr (n:Int):Rat:=bprK (n % 8).toNat
theorem bprK_b:∀ k,k<8->qs (bprK k)<=1/\qs (1-bprK k)<=1/\0<=bprK k/\bprK k<=1:=by decide +kernel
theorem bpr_b (n:Int):qs (bpr n)<=1/\qs (1-bpr n)<=1/\0<=bpr n/\bpr n<=1:=bprK_b _ (by omega)
@[go_sem] def bProbS:Spec:=⟨[.int .i64],fun d=>(.dat fT (qf (bpr d.1)),[])⟩
theorem bProb_ok:SpecOk Try.prog 14 bProbS:=by
 refine fn_ok E3_ok bProbS Try.func14 rfl (by decide) (N:=24) rfl (res:=[.cell 2 41]) rfl (by decide) [(1,[(7,.dt)]),(2,[(12,.dt)])] [] [] 100 (by kernel_rfl) ?_
 rintro ⟨(n:Int),_⟩ hw hp
 refine ⟨rfl,fun H hH=>?_⟩
 dsimp only [go_sem] at hw hp ⊢
 have ek:bitsI .and .i64 n 7=n % 8:=andMask n 3 (by omega)
 rw [ek]
 have key:∀ k,k<8->([2,3,3,4,1,1,5,7]:List Int).getD k 0≠0:=by decide
 refine ⟨by change (0:Int)<=n % 8/\n % 8<((8:Nat):Int); omega,by change (0:Int)<=n % 8/\n % 8<((8:Nat):Int); omega,if_neg (key _ (by omega)),trivial⟩
end Go.Proofs.Ytbokoblnehgkaaa.Gx
