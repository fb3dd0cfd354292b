/-
  credencebase.Relations.
-/
import Derived.Test.YtkdglhjocffekabGreatRM
namespace Go.Proofs.YtkdglhjocffekabGreat.Gx
open Go Go.RowKit Tw B Nt
set_option linter.unusedVariables false
set_option linter.unusedSimpArgs false
set_option maxHeartbeats 4000000
set_option maxRecDepth 20000
def bat (l:List Int) (i:Int):Int:=if l.length=0 then i % 65536 else l.getD (i % l.length).toNat 0 % 65536+i / l.length
@[go_sem] noncomputable def ERP:Env:=(ERO).add 6 rFIntS
theorem ERP_ok:ERP.Ok:=(ERO_ok).add rFInt_ok
theorem bat_nn (l:List Int) {i:Int} (h:0<=i):0<=bat l i:=by
 unfold bat
 split
 ·exact Int.emod_nonneg _ (by decide)
 ·rename_i h1
  have h2:=Int.emod_nonneg (l.getD (i % (l.length:Int)).toNat 0) (show (65536:Int)≠0 by decide)
  have h3:0<=i / (l.length:Int):=Int.ediv_nonneg h (by omega)
  omega
theorem bat_le (l:List Int) {i:Int} (h:0<=i):bat l i<=65535+i:=by
 unfold bat
 split
 ·have:=Int.emod_lt_of_pos i (show (0:Int)<65536 by decide); omega
 ·rename_i h1
  have h2:=Int.emod_lt_of_pos (l.getD (i % (l.length:Int)).toNat 0) (show (0:Int)<65536 by decide)
  have h3:i / (l.length:Int)<=i:=Int.ediv_le_self _ h
  omega
def opR (l:List Int) (i:Nat) (j:Nat):Int:=bat l (4+3*(i:Int)+(j:Int))
def valsR (x:Int):Nat->List Val
 | 0=>[]
 | n+1=>valsR x n++[vInt (1+x / 3 ^ n % 3)]
def schI (i:Nat):Sch:=schs.getD i (zd schT)
def tupR (l:List Int) (i j:Nat):Tup :=
 (valsR (opR l i j) (schI i).2.2.length,qf (if (schI i).2.1=true then 1 else bpr (shrI .i64 (opR l i j) 4)))
def relN (l:List Int) (i:Nat):Nat->Rel
 | 0=>(schI i,[])
 | n+1=>if insE (relN l i n) (tupR l i n)=0 then insR (relN l i n) (tupR l i n) else relN l i n
def cntR (l:List Int) (i:Nat):Nat:=if i=1 then min 2 (bat l 1 % 4).toNat else (bat l i % 4).toNat
theorem cntR_le (l:List Int) (i:Nat):cntR l i<=3:=by
 unfold cntR
 split<;>omega
theorem valsR_len (x:Int):∀ n,(valsR x n).length=n
 | 0=>rfl
 | n+1=>by unfold valsR; rw [List.length_append,valsR_len x n]; rfl
theorem schI_ok {i:Nat} (h:i<4):schOk (schI i)=true/\(schI i).2.2.length<=2:=by
 have:i=0∨i=1∨i=2∨i=3:=by omega
 rcases this with rfl|rfl|rfl|rfl<;>decide +kernel
theorem tupR_ok (l:List Int) {i:Nat} (h:i<4) (j:Nat):cnT (tupR l i j)=tupR l i j/\(tupR l i j).1.length<=2/\fs (tupR l i j).2<=64:=by
 have h1:=(bpr_b (shrI .i64 (opR l i j) 4)).1
 refine ⟨by unfold tupR cnT; rw [fq_qf],by unfold tupR; rw [valsR_len]; exact (schI_ok h).2,?_⟩
 unfold tupR
 rw [fs_qf]
 split
 ·decide +kernel
 ·omega
theorem relN_ok (l:List Int) {i:Nat} (h:i<4):∀ n,n<=3->∃ L:List Tup,relN l i n=(schI i,L)/\vldP (schI i) L/\L.length<=n/\∀ t∈L,cnT t=t/\t.1.length<=2/\fs t.2<=64
 | 0,_=>⟨[],rfl,⟨(schI_ok h).1,by decide,(fun t ht=>by cases ht),List.Pairwise.nil,(fun t ht=>by cases ht)⟩,Nat.le_refl _,fun t ht=>by cases ht⟩
 | n+1,hn=>by
  obtain ⟨L,h1,h2,h3,h4⟩:=relN_ok l h n (by omega)
  have ht:=tupR_ok l h n
  unfold relN
  rw [h1]
  by_cases he:insE (schI i,L) (tupR l i n)=0
  ·rw [if_pos he,insR_ok he (fun u hu=>(h4 u hu).1) ht.1]
   refine ⟨_,rfl,insE_iff.1 he,by rw [insT_len]; omega,fun u hu=>?_⟩
   rcases insT_mem.1 hu with rfl|hu
   ·exact ht
   ·exact h4 u hu
  ·rw [if_neg he]
   exact ⟨L,rfl,h2,by omega,h4⟩
theorem relN_P (l:List Int) {i:Nat} (h:i<4) {n:Nat} (hn:n<=3):relP (relN l i n):=by
 obtain ⟨L,h1,h2,h3,h4⟩:=relN_ok l h n hn
 have:=(schI_ok h).2
 rw [h1]
 exact ⟨(show (schI i).2.2.length<=1000 by omega),(show L.length<=400 by omega),fun t ht=>by have:=h4 t ht; omega⟩
def relsL (l:List Int):List Rel:=(List.range 4).map fun i=>relN l i (cntR l i)
def relQ (l:List Int) (i:Nat):List Rel:=(List.range i).map fun i=>relN l i (cntR l i)
theorem relQ_snoc (l:List Int) (i:Nat):relQ l (i+1)=relQ l i++[relN l i (cntR l i)]:=by
 unfold relQ
 rw [List.range_succ,List.map_append]; rfl
theorem relQ_len (l:List Int) (i:Nat):(relQ l i).length=i:=by unfold relQ; rw [List.length_map,List.length_range]
def relA (r:Rel):AV:=.cons (.dat .str r.1.1) (.cons (.dat .bool r.1.2.1) (.cons (.dat (.slice colT) r.1.2.2) (.cons (.dat (.slice tupT) r.2) .nil)))
theorem both3 {α:Type} {G:Prop} {H:List It->St->Prop} {k:List It} {inv:α->St} {Q:α->Prop} (h1:(∀ x,Q x->H k (inv x))->G) (h2:∀ x,Q x->H k (inv x)):G:=h1 h2
theorem imp4 {p q:Prop}:(p->q->p/\q)=True:=eq_true fun a b=>⟨a,b⟩
theorem div3 (x:Int) (q:Nat):x / 3 ^ q / 3=x / 3 ^ (q+1):=by
 rw [Int.ediv_ediv_of_nonneg (Int.pow_nonneg (by decide)),Int.pow_succ]
@[go_sem] noncomputable def ERQ:Env:=ERP
theorem ERQ_ok:ERQ.Ok:=ERP_ok
end Go.Proofs.YtkdglhjocffekabGreat.Gx
