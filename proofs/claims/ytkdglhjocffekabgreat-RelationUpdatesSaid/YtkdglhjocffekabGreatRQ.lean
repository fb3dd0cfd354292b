/-
  RelationInverse.
-/
import Derived.Test.YtkdglhjocffekabGreatRN
import Derived.Test.YtkdglhjocffekabGreatRP
namespace Go.Proofs.YtkdglhjocffekabGreat.Gx
open Go Go.RowKit Tw B Nt
set_option linter.unusedVariables false
set_option linter.unusedSimpArgs false
set_option maxHeartbeats 4000000
set_option maxRecDepth 20000
theorem cn_tupA (n:Int):cnT (tup9 n)=tup9 n:=by
 have h:∀ v q,cnT (v,qf q)=(v,qf q):=fun v q=>by unfold cnT; rw [fq_qf]
 unfold tup9
 split
 ·exact h _ _
 ·split
  ·exact h _ _
  ·split
   ·exact h _ _
   ·exact h _ _
theorem map_cn {L:List Tup} (h:∀ t∈L,cnT t=t):L.map cnT=L:=List.map_congr_left h |>.trans (List.map_id L)
@[go_sem] noncomputable def EU1:Env:=((ERQ).add 7 dltS).add 11 setS
theorem EU1_ok:EU1.Ok:=((ERQ_ok).add dlt_ok).add set_ok
end Go.Proofs.YtkdglhjocffekabGreat.Gx
