/-
  D5, D6, D7, D8, L1, in one text: see the remarks at the head of each part.
-/
import Derived.Test.YtdobkkhncfifeabGreatMDa
namespace Go.Proofs.YtdobkkhncfifeabGreat.Gx
open Go Go.RowKit Tw B Nt
set_option linter.unusedVariables false
set_option linter.unusedSimpArgs false
@[go_sem] def rFAddS:Spec:=⟨[fT,fT],fun d=>(.dat fT (qf (fq d.1+fq d.2.1)),[fs d.1<=1000000,fs d.2.1<=1000000])⟩
theorem fd_of {f:fT.den} (h:wfD fT f):Fd f:=⟨fun d hd=>inR_u32.1 (h.2.1.2 d hd),fun d hd=>inR_u32.1 (h.2.2.2 d hd)⟩
end Go.Proofs.YtdobkkhncfifeabGreat.Gx
namespace Go.Proofs.YtdobkkhncfifeabGreat.Gx
open Go Go.RowKit Tw B Nt
set_option linter.unusedVariables false
set_option linter.unusedSimpArgs false
set_option maxHeartbeats 1000000
end Go.Proofs.YtdobkkhncfifeabGreat.Gx
namespace Go.Proofs.YtdobkkhncfifeabGreat.Gx
open Go Go.RowKit Tw B Nt
set_option linter.unusedVariables false
set_option linter.unusedSimpArgs false
set_option maxHeartbeats 1000000
@[go_sem] noncomputable def E4:Env:=E3
theorem E4_ok:E4.Ok:=E3_ok
end Go.Proofs.YtdobkkhncfifeabGreat.Gx
namespace Go.Proofs.YtdobkkhncfifeabGreat.Gx
open Go Go.RowKit Tw B Nt
set_option linter.unusedVariables false
set_option linter.unusedSimpArgs false
set_option maxHeartbeats 1000000
@[go_sem] noncomputable def E5:Env:=E4
theorem E5_ok:E5.Ok:=E4_ok
end Go.Proofs.YtdobkkhncfifeabGreat.Gx
namespace Go.Proofs.YtdobkkhncfifeabGreat.Gx
open Go Go.RowKit Tw B Nt
set_option linter.unusedVariables false
set_option linter.unusedSimpArgs false
set_option maxHeartbeats 4000000
set_option maxRecDepth 20000
attribute [go_sem] List.append Array.append
@[go_sem] noncomputable def E6:Env:=E5
theorem E6_ok:E6.Ok:=E5_ok
end Go.Proofs.YtdobkkhncfifeabGreat.Gx
