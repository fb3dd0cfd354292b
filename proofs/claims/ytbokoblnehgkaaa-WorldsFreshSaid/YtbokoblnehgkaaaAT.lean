/-
  credencebase.At.
-/
import Derived.Test.YtbokoblnehgkaaaMDb
namespace Go.Proofs.Ytbokoblnehgkaaa.Gx
open Go Go.RowKit Tw B Nt
set_option linter.unusedVariables false
set_option linter.unusedSimpArgs false
set_option maxHeartbeats 4000000
set_option maxRecDepth 20000
def bat (l:List Int) (i:Int):Int:=if l.length=0 then i % 65536 else l.getD (i % l.length).toNat 0 % 65536+i / l.length
@[go_sem] def bAtS:Spec:=⟨[.slice (.int .i64),.int .i64],fun d=>(.dat (.int .i64) (bat d.1 d.2.1),[(0:Int)<=d.2.1/\d.2.1<=1000000])⟩
theorem bAt_ok:SpecOk Try.prog 13 bAtS:=by
 refine fn_ok E6_ok bAtS Try.func13 rfl (by decide) (N:=23) rfl (res:=[.tmp 4]) rfl (by decide) [] [] [] 100 (by kernel_rfl) ?_
 rintro ⟨l,(i:Int),_⟩ hw hp
 refine ⟨rfl,fun H hH=>?_⟩
 dsimp only [go_sem] at hw hp ⊢
 obtain ⟨⟨hi0,hi1⟩,-⟩:=hp
 have hi0:0<=i:=hi0
 have hi1:i<=1000000:=hi1
 obtain ⟨⟨hl,hr⟩,-⟩:=hw
 change ∀ x∈l,inR .i64 x at hr
 change List Int at l
 have hm (n:Int):bitsI .and .i64 n 65535=n % 65536:=andMask n 16 (by omega)
 have hz:(zd (Ty.int IntKind.i64))=(0:Int):=rfl
 have hb:bat l i=if l.length=0 then i % 65536 else l.getD (i % l.length).toNat 0 % 65536+i / l.length:=rfl
 rw [hm,hm,hz,Int.tmod_eq_emod_of_nonneg hi0,Int.tdiv_eq_ediv_of_nonneg hi0]
 refine ⟨fun h=>?_,fun h=>?_⟩<;>simp only [decide_eq_true_eq,decide_eq_false_iff_not] at h
 ·rw [hb,if_pos (by omega)]
  exact ⟨rfl,trivial⟩
 ·have h:¬(l.length:Int)=0:=h
  have m0:=Int.emod_nonneg i h
  have m1:=Int.emod_lt_of_pos i (show 0<(l.length:Int) by omega)
  have d0:0<=i / (l.length:Int):=Int.ediv_nonneg hi0 (by omega)
  have d1:i / (l.length:Int)<=i:=Int.ediv_le_self _ hi0
  rw [hb,if_neg (by omega)]
  generalize l.getD (i % (l.length:Int)).toNat 0=x
  have x0:=Int.emod_nonneg x (show (65536:Int)≠0 by decide)
  have x1:=Int.emod_lt_of_pos x (show (0:Int)<65536 by decide)
  refine ⟨h,by rw [inR_i64]; omega,⟨m0,m1⟩,h,by rw [inR_i64]; omega,by rw [inR_i64]; omega,rfl,trivial⟩
theorem bat_nn (l:List Int) {i:Int} (h:0<=i):0<=bat l i:=by
 unfold bat
 split
 ·exact Int.emod_nonneg _ (by decide)
 ·rename_i h1
  have h2:=Int.emod_nonneg (l.getD (i % (l.length:Int)).toNat 0) (show (65536:Int)≠0 by decide)
  have h3:0<=i / (l.length:Int):=Int.ediv_nonneg h (by omega)
  omega
end Go.Proofs.Ytbokoblnehgkaaa.Gx
