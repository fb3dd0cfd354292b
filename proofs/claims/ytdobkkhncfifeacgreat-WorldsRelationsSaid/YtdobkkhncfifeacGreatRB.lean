/-
  Relations: known, tuple.
-/
import Derived.Test.YtdobkkhncfifeacGreatRA
import Derived.Test.YtdobkkhncfifeacGreatRT
import Derived.Test.YtdobkkhncfifeacGreatBP
namespace Go.Proofs.YtdobkkhncfifeacGreat.Gx
open Go Go.RowKit Tw B Nt
set_option linter.unusedVariables false
set_option linter.unusedSimpArgs false
set_option maxHeartbeats 4000000
set_option maxRecDepth 20000
@[go_sem] noncomputable def ERF:Env:=(((ERE).add 11 schsS).add 14 rIntS).add 12 bProbS
theorem ERF_ok:ERF.Ok:=(((ERE_ok).add schs_ok).add rInt_ok).add bProb_ok
instance dCol:DecidableEq Col:=inferInstanceAs (DecidableEq (List UInt8×Int×Bool))
instance dVal:DecidableEq Val:=inferInstanceAs (DecidableEq (Int×Int×List UInt8))
instance dFrc:DecidableEq Frc:=inferInstanceAs (DecidableEq (Bool×List Int×List Int))
instance dCols:DecidableEq (List Col):=inferInstance
instance dVals:DecidableEq (List Val):=inferInstance
instance dSch:DecidableEq Sch:=inferInstanceAs (DecidableEq (List UInt8×Bool×List Col))
instance dTup:DecidableEq Tup:=inferInstanceAs (DecidableEq (List Val×Frc))
instance dTups:DecidableEq (List Tup):=inferInstance
instance dRel:DecidableEq Rel:=inferInstanceAs (DecidableEq (Sch×List Tup))
@[go_sem] noncomputable def ERG:Env:=ERF
theorem ERG_ok:ERG.Ok:=ERF_ok
@[go_sem] noncomputable def ERH:Env:=ERG
theorem ERH_ok:ERH.Ok:=ERG_ok
end Go.Proofs.YtdobkkhncfifeacGreat.Gx
