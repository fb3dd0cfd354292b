/-
  D5, D6, D7, D8, L1, in one text: see the remarks at the head of each part.
-/
import Derived.Test.YtjbnlmamealdgaaMDa
namespace Go.Proofs.Ytjbnlmamealdgaa.Gx
open Go Go.RowKit Tw B Nt
set_option linter.unusedVariables false
set_option linter.unusedSimpArgs false
@[go_sem] def rFAddS:Spec:=⟨[fT,fT],fun d=>(.dat fT (qf (fq d.1+fq d.2.1)),[fs d.1<=1000000,fs d.2.1<=1000000])⟩
theorem fd_of {f:fT.den} (h:wfD fT f):Fd f:=⟨fun d hd=>inR_u32.1 (h.2.1.2 d hd),fun d hd=>inR_u32.1 (h.2.2.2 d hd)⟩
end Go.Proofs.Ytjbnlmamealdgaa.Gx
namespace Go.Proofs.Ytjbnlmamealdgaa.Gx
open Go Go.RowKit Tw B Nt
set_option linter.unusedVariables false
set_option linter.unusedSimpArgs false
set_option maxHeartbeats 1000000
end Go.Proofs.Ytjbnlmamealdgaa.Gx
namespace Go.Proofs.Ytjbnlmamealdgaa.Gx
open Go Go.RowKit Tw B Nt
set_option linter.unusedVariables false
set_option linter.unusedSimpArgs false
set_option maxHeartbeats 1000000
@[go_sem] noncomputable def E4:Env:=(E3).add 74 isOneS
theorem E4_ok:E4.Ok:=(E3_ok).add isOne_ok
theorem take_get {α:Type} (l:List α) (k:Nat) (d:α) (h:k<l.length):l.take (k+1)=l.take k++[l.getD k d]:=by
 rw [List.take_add_one,List.getElem?_eq_getElem h,List.getD_eq_getElem?_getD,List.getElem?_eq_getElem h]; rfl
def qsum (l:List fT.den):Rat:=l.foldl (fun a f=>a+fq f) 0
def qprod (l:List fT.den):Rat:=l.foldl (fun a f=>a*fq f) 1
theorem qsum_snoc (l:List fT.den) (f:fT.den):qsum (l++[f])=qsum l+fq f:=by simp [qsum]
theorem qprod_snoc (l:List fT.den) (f:fT.den):qprod (l++[f])=qprod l*fq f:=by simp [qprod]
theorem qs_bs {l:List fT.den} (hd:∀ f∈l,wfD fT f) (hs:∀ f∈l,fs f<=1000):∀ k,k<=l.length->qs (qsum (l.take k))<=1002*k+1/\qs (qprod (l.take k))<=1002*k+1
 | 0,_=>⟨qs_zero,qs_one⟩
 | k+1,hk=>by
  have ih:=qs_bs hd hs k (by omega)
  rw [take_get l k (zd fT) (by omega),qsum_snoc,qprod_snoc]
  have hm:l.getD k (zd fT)∈l:=by
   rw [List.getD_eq_getElem?_getD,List.getElem?_eq_getElem (by omega)]
   exact List.getElem_mem _
  have h1:=qs_fq (fd_of (hd _ hm))
  have h2:=hs _ hm
  have h3:=qs_add (qsum (l.take k)) (fq (l.getD k (zd fT)))
  have h4:=qs_mul (qprod (l.take k)) (fq (l.getD k (zd fT)))
  constructor<;>omega
end Go.Proofs.Ytjbnlmamealdgaa.Gx
namespace Go.Proofs.Ytjbnlmamealdgaa.Gx
open Go Go.RowKit Tw B Nt
set_option linter.unusedVariables false
set_option linter.unusedSimpArgs false
set_option maxHeartbeats 1000000
@[go_sem] noncomputable def E5:Env:=E4
theorem E5_ok:E5.Ok:=E4_ok
end Go.Proofs.Ytjbnlmamealdgaa.Gx
namespace Go.Proofs.Ytjbnlmamealdgaa.Gx
open Go Go.RowKit Tw B Nt
set_option linter.unusedVariables false
set_option linter.unusedSimpArgs false
set_option maxHeartbeats 4000000
set_option maxRecDepth 20000
attribute [go_sem] List.append Array.append
@[go_sem] noncomputable def E6:Env:=E5
theorem E6_ok:E6.Ok:=E5_ok
end Go.Proofs.Ytjbnlmamealdgaa.Gx
