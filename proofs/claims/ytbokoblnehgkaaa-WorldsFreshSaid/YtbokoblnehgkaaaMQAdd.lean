/-
  QCmp, QAdd, QSub, in one text: see the remarks at the head of each part.
-/
import Derived.Test.YtbokoblnehgkaaaMQ
namespace Go.Proofs.Ytbokoblnehgkaaa.Nt
open Go.ChangeShapes Go.WideShapes Go.ChangeAt Go.RowKit B
set_option linter.unusedVariables false
theorem sg_pos_of {neg:Bool} {n d:Int} (hn:0<=n) (hd:0<=d) (h:sgQ (mk neg n d)≠0):0<n/\0<d/\sgQ (mk neg n d)=if neg then -1 else 1:=by
 have h1:n≠0:=fun e=>h (by rw [mk_zero (.inl e)]; rfl)
 have h2:d≠0:=fun e=>h (by rw [mk_zero (.inr e)]; rfl)
 exact ⟨by omega,by omega,sgQ_mk (by omega) (by omega)⟩
end Go.Proofs.Ytbokoblnehgkaaa.Nt
namespace Go.Proofs.Ytbokoblnehgkaaa.Nt
open Go.ChangeShapes Go.WideShapes Go.ChangeAt Go.RowKit B
set_option linter.unusedVariables false
theorem mk_scale {p:Bool} {a b k:Int} (hb:0<b) (hk:0<k):mk p a b=mk p (a*k) (b*k):=by
 unfold mk
 have h:=Rat.mkRat_mul_right (n:=sg p a) (d:=b.toNat) (a:=k.toNat) (by omega)
 rw [Int.toNat_of_nonneg (by omega)] at h
 rw [<-h]
 congr 1
 ·cases p<;>simp [sg,Int.neg_mul]
 ·obtain ⟨x,rfl⟩:=Int.eq_ofNat_of_zero_le (show 0<=b by omega)
  obtain ⟨y,rfl⟩:=Int.eq_ofNat_of_zero_le (show 0<=k by omega)
  rw [<-Int.natCast_mul,Int.toNat_natCast,Int.toNat_natCast,Int.toNat_natCast]
theorem mk_plus {p:Bool} {x y d:Int} (hd:0<d):mk p x d+mk p y d=mk p (x+y) d:=by
 rw [mk_add_same p p x d y hd]
 unfold mk
 congr 1
 cases p<;>simp [sg]<;>omega
theorem mk_minus {p q:Bool} {x y d:Int} (hd:0<d) (hpq:p≠q):mk p x d+mk q y d=mk p (x-y) d/\mk p x d+mk q y d=mk q (y-x) d:=by
 rw [mk_add_same p q x d y hd]
 unfold mk
 cases p<;>cases q<;>simp [sg] at hpq ⊢<;>exact ⟨by first|rfl|(congr 1; omega),by first|rfl|(congr 1; omega)⟩
end Go.Proofs.Ytbokoblnehgkaaa.Nt
namespace Go.Proofs.Ytbokoblnehgkaaa.Nt
open Go.ChangeShapes Go.WideShapes Go.ChangeAt Go.RowKit B
set_option linter.unusedVariables false
end Go.Proofs.Ytbokoblnehgkaaa.Nt
