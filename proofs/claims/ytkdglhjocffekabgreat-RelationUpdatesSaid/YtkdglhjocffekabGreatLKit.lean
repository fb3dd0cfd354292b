/-
  From the frame's words about arguments to data; from a law's contract to its walk.
-/
import Derived.Test.YtkdglhjocffekabGreatMDa
namespace Go.Proofs.YtkdglhjocffekabGreat.Gx
open Go Go.RowKit Tw B Nt
set_option linter.unusedVariables false
theorem cell_block {w:World} {b off:Nat} {v:Value} (h:w.cell? ⟨b,off,none⟩=some v):∃ C T f,w.heap[b]?=some (.cells C T f)/\C[off]?=some v:=by
 unfold World.cell? at h
 split at h
 ·rename_i C T f e
  exact ⟨C,T,f,e,by simpa using h⟩
 ·cases h
section
variable {ρ:List Value} {w:World}
theorem int_in {X:Nat->Prop} {k:IntKind} {n:Int} (h:(Lit.int k n).wf=true):m ρ X w (.dat (.int k) n) [.int k n]:=m_int_of (inR_of_wf h)
theorem law_walk {P:Program} {f:FuncId} {s:Spec} (h:SpecOk P f s) (d:dens s.tys) (hp:AllP (s.F d).2) (hr:(s.F d).1=.dat .bool true) {vs:List Value} (hm:m [] (fun _=>False) w (argAVs s.tys d) vs) :
    Calls P f vs.toArray w (fun e w'=>e=.returned (.bool true)/\Below w.heap.size w w'):=by
 refine ((h d hp).2 [] (fun _=>False) w vs (fun _ hb=>hb.elim) hm).mono fun e w' ⟨v,h1,h2,h3⟩=>?_
 rw [hr] at h2
 rw [h1,m_bool h2]
 exact ⟨rfl,h3⟩
end
end Go.Proofs.YtkdglhjocffekabGreat.Gx
