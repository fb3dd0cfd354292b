/-
  QPlain, Q, Q2, in one text: see the remarks at the head of each part.
-/
import Derived.Test.YtdobkkhncfifeabGreatMSame
import Derived.Deep.RegionHeld3
namespace Go.Proofs.YtdobkkhncfifeabGreat.Nt
set_option linter.unusedVariables false
def sg (neg:Bool) (n:Int):Int:=if neg then -n else n
def mk (neg:Bool) (n d:Int):Rat:=mkRat (sg neg n) d.toNat
def Qb (c:Nat) (q:Rat):Prop:=(q.num.natAbs:Int)<Bp c/\(q.den:Int)<Bp c
theorem sg_natAbs (neg:Bool) (n:Int):(sg neg n).natAbs=n.natAbs:=by cases neg<;>simp [sg]
theorem mk_zero {neg:Bool} {n d:Int} (h:n=0∨d=0):mk neg n d=0:=by
 unfold mk
 rcases h with rfl|rfl
 ·have:sg neg 0=0:=by cases neg<;>rfl
  rw [this,Rat.zero_mkRat]
 ·exact Rat.mkRat_zero _
theorem gcdI_nat (a b:Nat):gcdI (a:Int) (b:Int)=((Nat.gcd a b:Nat):Int):=rfl
theorem mk_parts {neg:Bool} {n d:Int} (hn:0<n) (hd:0<d):(mk neg n d).num=sg neg (n / gcdI n d)/\((mk neg n d).den:Int)=d / gcdI n d/\0<gcdI n d/\0<n / gcdI n d/\0<d / gcdI n d:=by
 obtain ⟨a,rfl⟩:=Int.eq_ofNat_of_zero_le (show 0<=n by omega)
 obtain ⟨b,rfl⟩:=Int.eq_ofNat_of_zero_le (show 0<=d by omega)
 have hg:0<Nat.gcd a b:=Nat.gcd_pos_of_pos_left b (by omega)
 have h1:Nat.gcd a b ∣ a:=Nat.gcd_dvd_left a b
 have h2:Nat.gcd a b ∣ b:=Nat.gcd_dvd_right a b
 rw [gcdI_nat]
 have p1:0<a / Nat.gcd a b:=Nat.div_pos (Nat.le_of_dvd (by omega) h1) hg
 have p2:0<b / Nat.gcd a b:=Nat.div_pos (Nat.le_of_dvd (by omega) h2) hg
 refine ⟨?_,?_,by omega,by rw [<-Int.natCast_ediv]; omega,by rw [<-Int.natCast_ediv]; omega⟩
 ·unfold mk
  rw [Rat.num_mkRat,Int.toNat_natCast,if_neg (by omega),sg_natAbs,Int.natAbs_natCast,Nat.gcd_comm]
  cases neg
  ·rfl
  ·show -(a:Int) / _ = -((a:Int) / _)
   exact Int.neg_ediv_of_dvd (Int.natCast_dvd_natCast.2 h1)
 ·unfold mk
  rw [Rat.den_mkRat,Int.toNat_natCast,if_neg (by omega),sg_natAbs,Int.natAbs_natCast,Nat.gcd_comm,Int.natCast_ediv]
theorem sg_neg {neg:Bool} {n:Int} (h:0<n):decide (sg neg n<0)=neg:=by
 cases neg<;>simp [sg]<;>omega
theorem sg_abs {neg:Bool} {n:Int} (h:0<=n):((sg neg n).natAbs:Int)=n:=by
 cases neg<;>simp [sg]<;>omega
theorem mk_self (q:Rat):mk (decide (q.num<0)) (q.num.natAbs:Int) (q.den:Int)=q:=by
 unfold mk
 have:sg (decide (q.num<0)) (q.num.natAbs:Int)=q.num:=by
  unfold sg
  by_cases h:q.num<0
  ·rw [decide_eq_true h,if_pos rfl]; omega
  ·rw [decide_eq_false h]; simp; omega
 rw [this,Int.toNat_natCast,Rat.mkRat_self]
theorem dvd_abs {g:Nat} {n:Int} (h:g ∣ n.natAbs):(g:Int) ∣ n:=by
 obtain ⟨k,hk⟩:=h
 rcases Int.natAbs_eq n with e|e
 ·exact ⟨k,by rw [e,hk]; simp⟩
 ·exact ⟨-(k:Int),by rw [e,hk]; simp [Int.mul_neg]⟩
theorem mkRat_b {n:Int} {d c:Nat} (hn:(n.natAbs:Int)<Bp c) (hd:(d:Int)<Bp c) (hc:1<=c):Qb c (mkRat n d):=by
 have hB:=Bp_mono hc
 have h1:Bp 1=4294967296:=by decide
 by_cases h0:d=0
 ·subst h0
  rw [Rat.mkRat_zero]
  exact ⟨by show (0:Int)<_; omega,by show (1:Int)<_; omega⟩
 ·have hg:0<d.gcd n.natAbs:=Nat.gcd_pos_of_pos_left _ (by omega)
  have g1:((d.gcd n.natAbs:Nat):Int) ∣ n:=dvd_abs (Nat.gcd_dvd_right ..)
  refine ⟨?_,?_⟩
  ·rw [Rat.num_mkRat,if_neg h0]
   obtain ⟨k,hk⟩:=g1
   generalize d.gcd n.natAbs=g at *
   rw [hk,Int.mul_ediv_cancel_left _ (by omega)]
   have:n.natAbs=g*k.natAbs:=by rw [hk,Int.natAbs_mul,Int.natAbs_natCast]
   have h3:k.natAbs<=g*k.natAbs:=Nat.le_mul_of_pos_left _ hg
   omega
  ·rw [Rat.den_mkRat,if_neg h0]
   have:=Nat.div_le_self d (d.gcd n.natAbs)
   omega
theorem mk_b {neg:Bool} {n d:Int} {c:Nat} (h0:0<=n) (hn:n<Bp c) (hd:d<Bp c) (hc:1<=c):Qb c (mk neg n d) :=
 mkRat_b (by rw [sg_abs h0]; exact hn) (by have:=Bp_pos c; omega) hc
end Go.Proofs.YtdobkkhncfifeabGreat.Nt
namespace Go.Proofs.YtdobkkhncfifeabGreat.Nt
open Go.ChangeShapes Go.WideShapes Go.ChangeAt Go.RowKit B
set_option linter.unusedVariables false
theorem IsNew.put {w:World} {g base:Nat} {v:Value} {n:Int} (h:IsNew base w v n) (hg:g<base) (i:Nat) (x:Value):IsNew base (w.setCell ⟨g,i,none⟩ x) v n:=by
 have hh:∀ b,b≠g->(w.setCell ⟨g,i,none⟩ x).heap[b]?=w.heap[b]?:=fun b hb=>Below.heap_setCell w ⟨g,i,none⟩ x b hb
 obtain ⟨l,h1,h2,h3,h4⟩:=h
 refine ⟨l,Row.of_heap h1 ?_,h2,h3,?_⟩
 ·rintro b off sp m c rfl
  obtain ⟨q1,_⟩:=h4 b off sp m c rfl
  exact hh b (by omega)
 ·rintro b off sp m c rfl
  obtain ⟨q1,cs,q2⟩:=h4 b off sp m c rfl
  exact ⟨q1,cs,by rw [hh b (by omega)]; exact q2⟩
end Go.Proofs.YtdobkkhncfifeabGreat.Nt
namespace Go.Proofs.YtdobkkhncfifeabGreat.Nt
open Go.ChangeShapes Go.WideShapes Go.ChangeAt Go.RowKit B
set_option linter.unusedVariables false
end Go.Proofs.YtdobkkhncfifeabGreat.Nt
