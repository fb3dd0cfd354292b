/-
  Relations: Insert.
-/
import Derived.Test.YtdobkkhncfifeacGreatMR3
namespace Go.Proofs.YtdobkkhncfifeacGreat.Gx
open Go Go.RowKit Tw B Nt
set_option linter.unusedVariables false
set_option linter.unusedSimpArgs false
set_option maxHeartbeats 4000000
set_option maxRecDepth 20000
def rz:Rel:=(([],false,[]),[])
def posT (l:List Tup) (v:List Val):Nat:=l.findIdx fun e=>decide (0<=cT e.1 v)
def insE (r:Rel) (t:Tup):Int :=
 if vldR r≠0 then vldR r else if ckT r.1 t≠0 then ckT r.1 t else if (fdR (r.2.findIdx? (eqV t.1))).2=true then 8
 else if 64<=r.2.length∨16<=(bkO r t.1).length then 4 else if 0<cmpQ (fq t.2) (1-sumQ r.2 (bkO r t.1)) then 19 else 0
def insR (r:Rel) (t:Tup):Rel:=if insE r t≠0 then rz else (r.1,insL (r.2.map cnT) (posT r.2 t.1) [cnT t])
theorem posT_eq {l:List Tup} {v:List Val} {p:Nat} (hp:p<=l.length) (h:∀ a,a<p->cT (l.getD a tz).1 v<0) (h':p<l.length->0<=cT (l.getD p tz).1 v):posT l v=p:=by
 unfold posT
 rcases Nat.lt_or_ge p l.length with d|d
 ·rw [List.findIdx_eq d]
  constructor
  ·have:=h' d
   rw [List.getD_eq_getElem?_getD,List.getElem?_eq_getElem d] at this
   exact decide_eq_true this
  ·intro j hj
   have:=h j hj
   rw [List.getD_eq_getElem?_getD,List.getElem?_eq_getElem (by omega)] at this
   exact decide_eq_false (by simpa using this)
 ·have:p=l.length:=by omega
  rw [this,List.findIdx_eq_length]
  intro x hx
  obtain ⟨j,hj,e⟩:=List.mem_iff_getElem.1 hx
  have:=h j (by omega)
  rw [List.getD_eq_getElem?_getD,List.getElem?_eq_getElem hj] at this
  rw [<-e]
  exact decide_eq_false (by simpa using this)
theorem insR_err {r:Rel} {t:Tup} {e:Int} (h:insE r t=e) (he:e≠0):(([],false,[]),[])=insR r t:=by
 unfold insR; rw [if_pos (by rw [h]; exact he)]; rfl
@[go_sem] noncomputable def ERE:Env:=ERD
theorem ERE_ok:ERE.Ok:=ERD_ok
end Go.Proofs.YtdobkkhncfifeacGreat.Gx
