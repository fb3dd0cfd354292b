/-
  MKb: K5 K6 K7 KF K8 in one text.
-/
import Derived.Test.YtdobkkhncfifeabGreatMKa
namespace Go.Proofs.YtdobkkhncfifeabGreat.Gx
open Go Go.RowKit Tw B Nt
set_option linter.unusedVariables false
set_option linter.unusedSimpArgs false
set_option maxHeartbeats 4000000
set_option maxRecDepth 20000
end Go.Proofs.YtdobkkhncfifeabGreat.Gx
namespace Go.Proofs.YtdobkkhncfifeabGreat.Gx
open Go Go.RowKit Tw B Nt
set_option linter.unusedVariables false
set_option linter.unusedSimpArgs false
set_option maxHeartbeats 4000000
set_option maxRecDepth 20000
end Go.Proofs.YtdobkkhncfifeabGreat.Gx
namespace Go.Proofs.YtdobkkhncfifeabGreat.Gx
open Go Go.RowKit Tw B Nt
set_option linter.unusedVariables false
set_option linter.unusedSimpArgs false
set_option maxHeartbeats 4000000
set_option maxRecDepth 20000
end Go.Proofs.YtdobkkhncfifeabGreat.Gx
namespace Go.Proofs.YtdobkkhncfifeabGreat.Gx
open Go Go.RowKit Tw B Nt
set_option linter.unusedVariables false
set_option linter.unusedSimpArgs false
set_option maxHeartbeats 4000000
set_option maxRecDepth 20000
section
variable {E:Env} {w0 w1 w2:World} {X0 Y:Nat->Prop} {Bo:List Value} {N:Nat} {st st':St} {ρ:List Value} {a:Act} {w w':World} {P:Program} {ps:List Prop}
end
end Go.Proofs.YtdobkkhncfifeabGreat.Gx
namespace Go.Proofs.YtdobkkhncfifeabGreat.Gx
open Go Go.RowKit Tw B Nt
set_option linter.unusedVariables false
set_option linter.unusedSimpArgs false
set_option maxHeartbeats 4000000
set_option maxRecDepth 20000
@[go_sem] noncomputable def EKC:Env:=EKB
theorem EKC_ok:EKC.Ok:=EKB_ok
@[go_sem] def lssS:Spec:=⟨[.slice .str,.slice .str],fun d=>(.dat .bool true,[d.1=d.2.1])⟩
theorem lss_ok:SpecOk Tryz.prog 9 lssS:=by
 refine fn_ok EKC_ok lssS Tryz.func9 rfl (by decide) (N:=26) rfl (res:=[.tmp 4]) rfl (by decide) [] [] [] 100 (by kernel_rfl) ?_
 rintro ⟨a,b,_⟩ hw hp
 refine ⟨rfl,fun H hH=>?_⟩
 dsimp only [go_sem] at hw hp ⊢
 obtain ⟨hp,-⟩:=hp
 change a=b at hp
 subst hp
 obtain ⟨⟨hl,-⟩,-⟩:=hw
 change List Str at a
 change a.length<=9223372036854775807 at hl
 refine ⟨fun e=>?_,fun e=>?_⟩
 ·simp at e
 refine hH.loop (fun i:Nat=>⟨[(5,.dat (.int .i64) (i:Int)),(0,.dat (.slice .str) a),(1,.dat (.slice .str) a)],[],0⟩) (fun i=>i<=a.length) (fun i=>a.length-i) 0 0 (Nat.zero_le _) ?_ ?_
 ·dsimp only [go_sem]
  and_intros<;>first|trivial|rfl|omega
 ·rintro i hi R hm
  refine hH.run 100 _ _ ?_
  dsimp only [go_sem]
  simp only [Int.toNat_natCast]
  refine ⟨fun d=>?_,fun d=>?_⟩<;>simp only [decide_eq_true_eq,decide_eq_false_iff_not] at d
  ·have d:i<a.length:=by omega
   have hb:(0:Int)<=(i:Int)/\(i:Int)<(a.length:Int):=by omega
   refine ⟨hb,hb,fun e=>?_,fun e=>⟨by rw [inR_i64]; omega,hm _ (i+1) 0 d (by omega) ?_⟩⟩
   ·simp at e
   ·dsimp only [go_sem]
    and_intros<;>first|trivial|rfl|omega
  ·and_intros<;>first|trivial|rfl
@[go_sem] noncomputable def EKD:Env:=(EKC).add 9 lssS
theorem EKD_ok:EKD.Ok:=(EKC_ok).add lss_ok
@[go_sem] noncomputable def EKE:Env:=EKD
theorem EKE_ok:EKE.Ok:=EKD_ok
@[go_sem] noncomputable def EKF:Env:=EKE
theorem EKF_ok:EKF.Ok:=EKE_ok
@[go_sem] noncomputable def EKG:Env:=EKF
theorem EKG_ok:EKG.Ok:=EKF_ok
@[go_sem] noncomputable def EKH:Env:=EKG
theorem EKH_ok:EKH.Ok:=EKG_ok
end Go.Proofs.YtdobkkhncfifeabGreat.Gx
