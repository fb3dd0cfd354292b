/-
  From the frame's words about arguments to data; from a law's contract to its walk.
-/
import Derived.Test.YtbokoblnehgkaaaMDa
namespace Go.Proofs.Ytbokoblnehgkaaa.Gx
open Go Go.RowKit Tw B Nt
set_option linter.unusedVariables false
theorem cell_block {w:World} {b off:Nat} {v:Value} (h:w.cell? ⟨b,off,none⟩=some v):∃ C T f,w.heap[b]?=some (.cells C T f)/\C[off]?=some v:=by
 unfold World.cell? at h
 split at h
 ·rename_i C T f e
  exact ⟨C,T,f,e,by simpa using h⟩
 ·cases h
theorem rep_in {k:IntKind} {w:World} {v:Value} {l:List Int} (h:Row k w v l):rep (.slice (.int k)) (fun _=>False) w [v] l:=by
 obtain ⟨a,cap,rfl,h2,h3,h4,h5,h6⟩:=h
 refine ⟨a,cap,rfl,h2,h3,h4,fun hne=>?_⟩
 obtain ⟨b,off,rfl,hc⟩:=h6 hne
 obtain ⟨C,T,f,g,-⟩:=cell_block (hc 0 (List.length_pos_iff.2 hne))
 refine ⟨b,off,C,T,f,rfl,fun hx=>hx.elim,g,fun i x hx=>?_⟩
 have hi:i<l.length:=by
  rcases Nat.lt_or_ge i l.length with h|h
  ·exact h
  ·rw [List.getElem?_eq_none h] at hx; cases hx
 have:=hc i hi
 have hxe:l.getD i 0=x:=by simp [hx]
 rw [hxe] at this
 refine ⟨?_,inR_of_wf (h5 x (List.mem_of_getElem? hx))⟩
 simp only [Ty.size,Nat.mul_one]
 have hq:C.toList[off+i]?=some (.int k x):=by simpa [World.cell?,g] using this
 have hlt:off+i<C.toList.length:=by
  rcases Nat.lt_or_ge (off+i) C.toList.length with h|h
  ·exact h
  ·rw [List.getElem?_eq_none h] at hq; cases hq
 rw [List.drop_eq_getElem_cons hlt,List.take_succ_cons,List.take_zero]
 rw [List.getElem?_eq_getElem hlt] at hq
 rw [Option.some.inj hq]
section
variable {ρ:List Value} {w:World}
theorem row_in {k:IntKind} {a:Option Addr} {len cap:Nat} {zs:List Int} (h:IsRow k w a len cap zs):m ρ (fun _=>False) w (.dat (.slice (.int k)) (zs.take len)) [.slice a len cap] :=
 dat_of_rep rfl (rep_in (Row.of h))
theorem law_walk {P:Program} {f:FuncId} {s:Spec} (h:SpecOk P f s) (d:dens s.tys) (hp:AllP (s.F d).2) (hr:(s.F d).1=.dat .bool true) {vs:List Value} (hm:m [] (fun _=>False) w (argAVs s.tys d) vs) :
    Calls P f vs.toArray w (fun e w'=>e=.returned (.bool true)/\Below w.heap.size w w'):=by
 refine ((h d hp).2 [] (fun _=>False) w vs (fun _ hb=>hb.elim) hm).mono fun e w' ⟨v,h1,h2,h3⟩=>?_
 rw [hr] at h2
 rw [h1,m_bool h2]
 exact ⟨rfl,h3⟩
end
end Go.Proofs.Ytbokoblnehgkaaa.Gx
