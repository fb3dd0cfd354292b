/-
  QCmp, QAdd, QSub, in one text: see the remarks at the head of each part.
-/
import Derived.Test.YtjbnlmamealdgaaMQ
namespace Go.Proofs.Ytjbnlmamealdgaa.Nt
open Go.ChangeShapes Go.WideShapes Go.ChangeAt Go.RowKit B
set_option linter.unusedVariables false
theorem cmpI_bd (x y:Int):-1<=cmpI x y/\cmpI x y<=1:=by
 unfold cmpI
 split
 ·decide
 ·split<;>decide
theorem mul_small {a b:Int} (h1:-1<=a) (h2:a<=1) (h3:-1<=b) (h4:b<=1):-1<=a*b/\a*b<=1:=by
 have ha:a = -1∨a=0∨a=1:=by omega
 rcases ha with rfl|rfl|rfl<;>omega
theorem cmpQ_ne {p q:Rat} (h:sgQ p≠sgQ q):cmpQ p q=if sgQ p<sgQ q then -1 else 1:=by
 have hp:=sgQ_cases p
 have hq:=sgQ_cases q
 unfold cmpQ
 have key:∀ {x y:Rat},sgQ x<sgQ y->sgQ (x-y) = -1:=by
  intro x y hxy
  unfold sgQ at *
  rw [Rat.sub_def',mkRat_sign _ _ (Nat.mul_ne_zero x.den_nz y.den_nz)]
  apply Int.sign_eq_neg_one_of_neg
  have hx:=x.den_pos
  have hy:=y.den_pos
  rcases Int.lt_trichotomy x.num 0 with h1|h1|h1
  ·have a1:x.num*(y.den:Int)<0:=Int.mul_neg_of_neg_of_pos h1 (by omega)
   rcases Int.lt_trichotomy y.num 0 with h2|h2|h2
   ·rw [Int.sign_eq_neg_one_of_neg h1,Int.sign_eq_neg_one_of_neg h2] at hxy; omega
   ·rw [h2,Int.zero_mul]; omega
   ·have a2:0<y.num*(x.den:Int):=Int.mul_pos h2 (by omega)
    omega
  ·rw [h1] at hxy ⊢
   rw [Int.zero_mul]
   rcases Int.lt_trichotomy y.num 0 with h2|h2|h2
   ·rw [Int.sign_eq_neg_one_of_neg h2] at hxy; simp at hxy
   ·rw [h2] at hxy; simp at hxy
   ·have a2:0<y.num*(x.den:Int):=Int.mul_pos h2 (by omega)
    omega
  ·rw [Int.sign_eq_one_of_pos h1] at hxy
   rcases Int.lt_trichotomy y.num 0 with h2|h2|h2
   ·rw [Int.sign_eq_neg_one_of_neg h2] at hxy; omega
   ·rw [h2] at hxy; simp at hxy
   ·rw [Int.sign_eq_one_of_pos h2] at hxy; omega
 by_cases hlt:sgQ p<sgQ q
 ·rw [if_pos hlt,key hlt]
 ·rw [if_neg hlt]
  have:=key (x:=q) (y:=p) (by omega)
  rw [<-Rat.neg_sub,sgQ_neg,this]; rfl
theorem cmpQ_zero {p q:Rat} (h:sgQ p=sgQ q) (h0:sgQ p=0):cmpQ p q=0:=by
 have h1:=sgQ_eq_zero.1 h0
 have h2:=sgQ_eq_zero.1 (h▸h0)
 rw [h1,h2,cmpQ,Rat.sub_self]; rfl
theorem cmpQ_same {r:Bool} {a b c d:Int} (ha:0<a) (hb:0<b) (hc:0<c) (hd:0<d):cmpQ (mk r a b) (mk r c d)=sgQ (mk r a b)*cmpI (a*d) (c*b):=by
 rw [cmpQ_mk hb hd,sgQ_mk ha hb,cmpI_sign]
 cases r
 ·simp [sg]
 ·simp only [sg,if_true]
  rw [Int.neg_mul,Int.neg_mul,show -(a*d) - -(c*b) = -(a*d-c*b) by omega,Int.sign_neg,Int.neg_mul,Int.one_mul]
theorem sg_pos_of {neg:Bool} {n d:Int} (hn:0<=n) (hd:0<=d) (h:sgQ (mk neg n d)≠0):0<n/\0<d/\sgQ (mk neg n d)=if neg then -1 else 1:=by
 have h1:n≠0:=fun e=>h (by rw [mk_zero (.inl e)]; rfl)
 have h2:d≠0:=fun e=>h (by rw [mk_zero (.inr e)]; rfl)
 exact ⟨by omega,by omega,sgQ_mk (by omega) (by omega)⟩
end Go.Proofs.Ytjbnlmamealdgaa.Nt
namespace Go.Proofs.Ytjbnlmamealdgaa.Nt
open Go.ChangeShapes Go.WideShapes Go.ChangeAt Go.RowKit B
set_option linter.unusedVariables false
theorem mk_scale {p:Bool} {a b k:Int} (hb:0<b) (hk:0<k):mk p a b=mk p (a*k) (b*k):=by
 unfold mk
 have h:=Rat.mkRat_mul_right (n:=sg p a) (d:=b.toNat) (a:=k.toNat) (by omega)
 rw [Int.toNat_of_nonneg (by omega)] at h
 rw [<-h]
 congr 1
 ·cases p<;>simp [sg,Int.neg_mul]
 ·obtain ⟨x,rfl⟩:=Int.eq_ofNat_of_zero_le (show 0<=b by omega)
  obtain ⟨y,rfl⟩:=Int.eq_ofNat_of_zero_le (show 0<=k by omega)
  rw [<-Int.natCast_mul,Int.toNat_natCast,Int.toNat_natCast,Int.toNat_natCast]
theorem mk_plus {p:Bool} {x y d:Int} (hd:0<d):mk p x d+mk p y d=mk p (x+y) d:=by
 rw [mk_add_same p p x d y hd]
 unfold mk
 congr 1
 cases p<;>simp [sg]<;>omega
theorem mk_minus {p q:Bool} {x y d:Int} (hd:0<d) (hpq:p≠q):mk p x d+mk q y d=mk p (x-y) d/\mk p x d+mk q y d=mk q (y-x) d:=by
 rw [mk_add_same p q x d y hd]
 unfold mk
 cases p<;>cases q<;>simp [sg] at hpq ⊢<;>exact ⟨by first|rfl|(congr 1; omega),by first|rfl|(congr 1; omega)⟩
end Go.Proofs.Ytjbnlmamealdgaa.Nt
namespace Go.Proofs.Ytjbnlmamealdgaa.Nt
open Go.ChangeShapes Go.WideShapes Go.ChangeAt Go.RowKit B
set_option linter.unusedVariables false
end Go.Proofs.Ytjbnlmamealdgaa.Nt
