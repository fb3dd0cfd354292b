/-
  Relations: the schemas of the base, values of the reference, tuples of the laws.
-/
import Derived.Test.YtdobkkhncfifeacGreatRS
namespace Go.Proofs.YtdobkkhncfifeacGreat.Gx
open Go Go.RowKit Tw B Nt
set_option linter.unusedVariables false
set_option linter.unusedSimpArgs false
set_option maxHeartbeats 4000000
set_option maxRecDepth 20000
@[go_sem] noncomputable def ERS:Env:=ER8
theorem ERS_ok:ERS.Ok:=ER8_ok
def colA:Col:=([97],1,false)
def colB:Col:=([98],1,false)
def schs:List Sch:=[([82],false,[colA,colB]),([83],false,[colA]),([75],false,[([107],1,true),([118],1,false)]),([67],true,[colA,colB])]
@[go_sem] def schsS:Spec:=⟨[],fun d=>(.dat (.slice schT) schs,[])⟩
theorem schs_ok:SpecOk Tryz.prog 11 schsS:=by
 refine fn_ok ERS_ok schsS Tryz.func11 rfl (by decide) (N:=21) rfl (res:=[.tmp 0]) rfl (by decide) [(2,[(7,.dt),(10,.dt),(14,.dt),(18,.dt),(20,.dt)])] [] [] 100 (by kernel_rfl) ?_
 rintro ⟨_⟩ hw hp
 refine ⟨rfl,fun H hH=>?_⟩
 dsimp only [go_sem] at hw hp ⊢
 exact ⟨rfl,trivial⟩
def vInt (n:Int):Val:=(1,n,[])
@[go_sem] def rIntS:Spec:=⟨[.int .i64],fun d=>(.dat valT (vInt d.1),[])⟩
theorem rInt_ok:SpecOk Tryz.prog 14 rIntS:=by
 refine fn_ok ERS_ok rIntS Tryz.func14 rfl (by decide) (N:=5) rfl (res:=[.cell 2 55]) rfl (by decide) [] [] [] 100 (by kernel_rfl) ?_
 rintro ⟨(n:Int),_⟩ hw hp
 refine ⟨rfl,fun H hH=>?_⟩
 dsimp only [go_sem] at hw hp ⊢
 exact ⟨rfl,trivial⟩
@[go_sem] noncomputable def ERU:Env:=((ERS).add 11 schsS).add 14 rIntS
end Go.Proofs.YtdobkkhncfifeacGreat.Gx
