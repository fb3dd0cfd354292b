/-
  Add, Sub, Mul, DivDigit, in one text: see the remarks at the head of each part.
-/
import Derived.Test.YtdobkkhncfifeabGreatMSmall
import Derived.Test.YtdobkkhncfifeabGreatMPlain
namespace Go.Proofs.YtdobkkhncfifeabGreat.Nt
open Go.ChangeShapes Go.WideShapes Go.ChangeAt Go.RowKit B
set_option linter.unusedVariables false
end Go.Proofs.YtdobkkhncfifeabGreat.Nt
namespace Go.Proofs.YtdobkkhncfifeabGreat.Nt
open Go.ChangeShapes Go.WideShapes Go.ChangeAt Go.RowKit B
set_option linter.unusedVariables false
def subL:List Int->List Int->Int->List Int
 | [],_,_=>[]
 | d::a,[],b=>((d-b) % 4294967296)::subL a [] (-((d-b) / 4294967296))
 | d::a,e::c,b=>((d-(b+e)) % 4294967296)::subL a c (-((d-(b+e)) / 4294967296))
def subF:List Int->List Int->Int->Int
 | [],_,b=>b
 | d::a,[],b=>subF a [] (-((d-b) / 4294967296))
 | d::a,e::c,b=>subF a c (-((d-(b+e)) / 4294967296))
theorem subL_len (a c:List Int) (b:Int):(subL a c b).length=a.length:=by
 induction a generalizing c b with
 | nil=>rfl
 | cons d a ih=>rcases c with _|⟨e,c⟩<;>simp [subL,ih]
theorem subL_ds (a c:List Int) (b:Int):Ds (subL a c b):=by
 induction a generalizing c b with
 | nil=>exact Ds.nil
 | cons d a ih =>
  rcases c with _|⟨e,c⟩
  ·exact Ds.cons (by omega) (ih _ _)
  ·exact Ds.cons (by omega) (ih _ _)
theorem subL_N (a c:List Int) (b:Int) (h:c.length<=a.length):N (subL a c b)=N a-N c-b+Bp a.length*subF a c b:=by
 induction a generalizing c b with
 | nil =>
  rcases c with _|⟨e,c⟩
  ·simp [subL,subF,N,Bp]; omega
  ·simp at h
 | cons d a ih =>
  rcases c with _|⟨e,c⟩
  ·show (d-b) % 4294967296+4294967296*N (subL a [] (-((d-b) / 4294967296)))=d+4294967296*N a-0-b+4294967296*Bp a.length*subF a [] (-((d-b) / 4294967296))
   rw [ih [] _ (by simp),Int.mul_assoc]
   simp only [N]
   omega
  ·show (d-(b+e)) % 4294967296+4294967296*N (subL a c (-((d-(b+e)) / 4294967296)))=d+4294967296*N a-(e+4294967296*N c)-b+4294967296*Bp a.length*subF a c (-((d-(b+e)) / 4294967296))
   rw [ih c _ (by simpa using h),Int.mul_assoc]
   omega
theorem subF_bd (a c:List Int) (b:Int) (ha:Ds a) (hc:Ds c) (hb:0<=b/\b<=1):0<=subF a c b/\subF a c b<=1:=by
 induction a generalizing c b with
 | nil=>exact hb
 | cons d a ih =>
  have hd:=ha.head
  rcases c with _|⟨e,c⟩
  ·exact ih _ _ ha.tail Ds.nil (by omega)
  ·have he:=hc.head
   exact ih _ _ ha.tail hc.tail (by omega)
theorem sub_N {x y:List Int} (hx:Ds x) (hy:Ds y) (h:y.length<=x.length) (hle:N y<=N x):N (subL x y 0)=N x-N y:=by
 have e:=subL_N x y 0 h
 have f:=subF_bd x y 0 hx hy (by omega)
 have l:=N_lt (subL_ds x y 0)
 rw [subL_len] at l
 have hB:=Bp_pos x.length
 have:subF x y 0=0∨subF x y 0=1:=by omega
 rcases this with q|q
 ·rw [q,Int.mul_zero] at e; omega
 ·rw [q,Int.mul_one] at e; omega
theorem subL_both (x y:List Int) (k:Nat) (c:Int) (h1:k<x.length) (h2:k<y.length) :
    subL (x.drop k) (y.drop k) c=((x[k]?.getD 0-(c+y[k]?.getD 0)) % 4294967296)::subL (x.drop (k+1)) (y.drop (k+1)) (-((x[k]?.getD 0-(c+y[k]?.getD 0)) / 4294967296)):=by
 rw [drop_cons h1,drop_cons h2,subL]
theorem subL_one (x y:List Int) (k:Nat) (c:Int) (h1:k<x.length) (h2:y.length<=k) :
    subL (x.drop k) (y.drop k) c=((x[k]?.getD 0-c) % 4294967296)::subL (x.drop (k+1)) (y.drop (k+1)) (-((x[k]?.getD 0-c) / 4294967296)):=by
 rw [drop_cons h1,List.drop_eq_nil_of_le h2,List.drop_eq_nil_of_le (show y.length<=k+1 by omega),subL]
def RetSub (base:Nat) (w:World) (x y:Int) (e:Ending) (w':World):Prop :=
 ∃ v,e=.returned (.tuple #[v,.bool (decide (y<=x))])/\IsNew base w' v (if y<=x then x-y else 0)/\Below base w w'
end Go.Proofs.YtdobkkhncfifeabGreat.Nt
namespace Go.Proofs.YtdobkkhncfifeabGreat.Nt
open Go.ChangeShapes Go.WideShapes Go.ChangeAt Go.RowKit B
set_option linter.unusedVariables false
end Go.Proofs.YtdobkkhncfifeabGreat.Nt
namespace Go.Proofs.YtdobkkhncfifeabGreat.Nt
open Go.ChangeShapes Go.WideShapes Go.ChangeAt Go.RowKit B
set_option linter.unusedVariables false
theorem div_bd (rest x d:Int) (h0:0<=rest) (h1:rest<d) (hx:0<=x/\x<4294967296):0<=(rest*4294967296+x) / d/\(rest*4294967296+x) / d<4294967296:=by
 refine ⟨Int.ediv_nonneg (by omega) (by omega),?_⟩
 apply Int.ediv_lt_of_lt_mul (by omega)
 have:(rest+1)*4294967296<=d*4294967296:=by omega
 rw [Int.mul_comm 4294967296 d]
 omega
theorem div_step (rest x d Q T:Int) (h:T=d*Q+rest):x+4294967296*T=d*((rest*4294967296+x) / d+4294967296*Q)+(rest*4294967296+x) % d:=by
 have e:=Int.mul_ediv_add_emod (rest*4294967296+x) d
 rw [Int.mul_add,Int.mul_left_comm d 4294967296 Q]
 omega
theorem set_front {l:List Int} {j n:Nat} (h:n=j+1) (x:Int):(List.replicate n (0:Int)++l).set j x=List.replicate j 0++x::l:=by
 subst h
 rw [List.replicate_succ',List.append_assoc,List.set_append_right _ _ (by simp),List.length_replicate,Nat.sub_self]; rfl
end Go.Proofs.YtdobkkhncfifeabGreat.Nt
