/-
  QPlain, Q, Q2, in one text: see the remarks at the head of each part.
-/
import Derived.Test.YtjbnlmamealdgaaMSame
import Derived.Deep.RegionHeld3
namespace Go.Proofs.Ytjbnlmamealdgaa.Nt
set_option linter.unusedVariables false
def sg (neg:Bool) (n:Int):Int:=if neg then -n else n
def mk (neg:Bool) (n d:Int):Rat:=mkRat (sg neg n) d.toNat
def Qb (c:Nat) (q:Rat):Prop:=(q.num.natAbs:Int)<Bp c/\(q.den:Int)<Bp c
def sgQ (q:Rat):Int:=q.num.sign
def cmpQ (p q:Rat):Int:=sgQ (p-q)
theorem sg_natAbs (neg:Bool) (n:Int):(sg neg n).natAbs=n.natAbs:=by cases neg<;>simp [sg]
theorem mk_zero {neg:Bool} {n d:Int} (h:n=0∨d=0):mk neg n d=0:=by
 unfold mk
 rcases h with rfl|rfl
 ·have:sg neg 0=0:=by cases neg<;>rfl
  rw [this,Rat.zero_mkRat]
 ·exact Rat.mkRat_zero _
theorem gcdI_nat (a b:Nat):gcdI (a:Int) (b:Int)=((Nat.gcd a b:Nat):Int):=rfl
theorem mk_parts {neg:Bool} {n d:Int} (hn:0<n) (hd:0<d):(mk neg n d).num=sg neg (n / gcdI n d)/\((mk neg n d).den:Int)=d / gcdI n d/\0<gcdI n d/\0<n / gcdI n d/\0<d / gcdI n d:=by
 obtain ⟨a,rfl⟩:=Int.eq_ofNat_of_zero_le (show 0<=n by omega)
 obtain ⟨b,rfl⟩:=Int.eq_ofNat_of_zero_le (show 0<=d by omega)
 have hg:0<Nat.gcd a b:=Nat.gcd_pos_of_pos_left b (by omega)
 have h1:Nat.gcd a b ∣ a:=Nat.gcd_dvd_left a b
 have h2:Nat.gcd a b ∣ b:=Nat.gcd_dvd_right a b
 rw [gcdI_nat]
 have p1:0<a / Nat.gcd a b:=Nat.div_pos (Nat.le_of_dvd (by omega) h1) hg
 have p2:0<b / Nat.gcd a b:=Nat.div_pos (Nat.le_of_dvd (by omega) h2) hg
 refine ⟨?_,?_,by omega,by rw [<-Int.natCast_ediv]; omega,by rw [<-Int.natCast_ediv]; omega⟩
 ·unfold mk
  rw [Rat.num_mkRat,Int.toNat_natCast,if_neg (by omega),sg_natAbs,Int.natAbs_natCast,Nat.gcd_comm]
  cases neg
  ·rfl
  ·show -(a:Int) / _ = -((a:Int) / _)
   exact Int.neg_ediv_of_dvd (Int.natCast_dvd_natCast.2 h1)
 ·unfold mk
  rw [Rat.den_mkRat,Int.toNat_natCast,if_neg (by omega),sg_natAbs,Int.natAbs_natCast,Nat.gcd_comm,Int.natCast_ediv]
theorem sg_neg {neg:Bool} {n:Int} (h:0<n):decide (sg neg n<0)=neg:=by
 cases neg<;>simp [sg]<;>omega
theorem sg_abs {neg:Bool} {n:Int} (h:0<=n):((sg neg n).natAbs:Int)=n:=by
 cases neg<;>simp [sg]<;>omega
theorem mk_self (q:Rat):mk (decide (q.num<0)) (q.num.natAbs:Int) (q.den:Int)=q:=by
 unfold mk
 have:sg (decide (q.num<0)) (q.num.natAbs:Int)=q.num:=by
  unfold sg
  by_cases h:q.num<0
  ·rw [decide_eq_true h,if_pos rfl]; omega
  ·rw [decide_eq_false h]; simp; omega
 rw [this,Int.toNat_natCast,Rat.mkRat_self]
theorem mk_neg (p:Bool) (a b:Int):-mk p a b=mk (!p) a b:=by
 unfold mk
 rw [Rat.neg_mkRat]
 congr 1
 cases p<;>simp [sg]
theorem toNat_ne {b:Int} (hb:0<b):b.toNat≠0:=by omega
theorem mk_add (p r:Bool) (a b c d:Int) (hb:0<b) (hd:0<d):mk p a b+mk r c d=mkRat (sg p a*d+sg r c*b) (b.toNat*d.toNat):=by
 unfold mk
 rw [Rat.mkRat_add_mkRat _ _ (toNat_ne hb) (toNat_ne hd)]
 congr 1
 rw [Int.toNat_of_nonneg (by omega),Int.toNat_of_nonneg (by omega)]
theorem mk_add_same (p r:Bool) (a b c:Int) (hb:0<b):mk p a b+mk r c b=mkRat (sg p a+sg r c) b.toNat:=by
 rw [mk_add p r a b c b hb hb,<-Int.add_mul]
 have:=Rat.mkRat_mul_right (n:=sg p a+sg r c) (d:=b.toNat) (a:=b.toNat) (toNat_ne hb)
 rw [Int.toNat_of_nonneg (by omega)] at this
 exact this
theorem dvd_abs {g:Nat} {n:Int} (h:g ∣ n.natAbs):(g:Int) ∣ n:=by
 obtain ⟨k,hk⟩:=h
 rcases Int.natAbs_eq n with e|e
 ·exact ⟨k,by rw [e,hk]; simp⟩
 ·exact ⟨-(k:Int),by rw [e,hk]; simp [Int.mul_neg]⟩
theorem mkRat_sign (n:Int) (d:Nat) (hd:d≠0):(mkRat n d).num.sign=n.sign:=by
 rw [Rat.num_mkRat,if_neg hd]
 have hg:0<d.gcd n.natAbs:=Nat.gcd_pos_of_pos_left _ (by omega)
 have h1:((d.gcd n.natAbs:Nat):Int) ∣ n:=dvd_abs (Nat.gcd_dvd_right ..)
 obtain ⟨k,hk⟩:=h1
 generalize d.gcd n.natAbs=g at *
 subst hk
 rw [Int.mul_ediv_cancel_left _ (by omega),Int.sign_mul,Int.sign_natCast_of_ne_zero (by omega),Int.one_mul]
theorem sgQ_mk {neg:Bool} {n d:Int} (hn:0<n) (hd:0<d):sgQ (mk neg n d)=if neg then -1 else 1:=by
 unfold sgQ mk
 rw [mkRat_sign _ _ (toNat_ne hd)]
 cases neg
 ·simp [sg,Int.sign_eq_one_of_pos hn]
 ·simp [sg,Int.sign_eq_one_of_pos hn]
theorem sgQ_neg (p:Rat):sgQ (-p) = -sgQ p:=by unfold sgQ; rw [Rat.neg_num,Int.sign_neg]
theorem sgQ_eq_zero {p:Rat}:sgQ p=0↔p=0:=by
 unfold sgQ
 rw [Int.sign_eq_zero_iff_zero,Rat.num_eq_zero]
theorem sgQ_cases (p:Rat):sgQ p = -1∨sgQ p=0∨sgQ p=1:=by
 unfold sgQ
 rcases Int.lt_trichotomy p.num 0 with h|h|h
 ·exact .inl (Int.sign_eq_neg_one_of_neg h)
 ·exact .inr (.inl (by rw [h]; rfl))
 ·exact .inr (.inr (Int.sign_eq_one_of_pos h))
theorem mkRat_b {n:Int} {d c:Nat} (hn:(n.natAbs:Int)<Bp c) (hd:(d:Int)<Bp c) (hc:1<=c):Qb c (mkRat n d):=by
 have hB:=Bp_mono hc
 have h1:Bp 1=4294967296:=by decide
 by_cases h0:d=0
 ·subst h0
  rw [Rat.mkRat_zero]
  exact ⟨by show (0:Int)<_; omega,by show (1:Int)<_; omega⟩
 ·have hg:0<d.gcd n.natAbs:=Nat.gcd_pos_of_pos_left _ (by omega)
  have g1:((d.gcd n.natAbs:Nat):Int) ∣ n:=dvd_abs (Nat.gcd_dvd_right ..)
  refine ⟨?_,?_⟩
  ·rw [Rat.num_mkRat,if_neg h0]
   obtain ⟨k,hk⟩:=g1
   generalize d.gcd n.natAbs=g at *
   rw [hk,Int.mul_ediv_cancel_left _ (by omega)]
   have:n.natAbs=g*k.natAbs:=by rw [hk,Int.natAbs_mul,Int.natAbs_natCast]
   have h3:k.natAbs<=g*k.natAbs:=Nat.le_mul_of_pos_left _ hg
   omega
  ·rw [Rat.den_mkRat,if_neg h0]
   have:=Nat.div_le_self d (d.gcd n.natAbs)
   omega
theorem mk_b {neg:Bool} {n d:Int} {c:Nat} (h0:0<=n) (hn:n<Bp c) (hd:d<Bp c) (hc:1<=c):Qb c (mk neg n d) :=
 mkRat_b (by rw [sg_abs h0]; exact hn) (by have:=Bp_pos c; omega) hc
theorem Qb.neg {c:Nat} {q:Rat} (h:Qb c q):Qb c (-q):=⟨by rw [Rat.neg_num,Int.natAbs_neg]; exact h.1,h.2⟩
theorem Qb.mul {c d:Nat} {p q:Rat} (hp:Qb c p) (hq:Qb d q) (hc:1<=c):Qb (c+d) (p*q):=by
 rw [Rat.mul_def']
 refine mkRat_b ?_ ?_ (by omega)
 ·rw [Int.natAbs_mul,Int.natCast_mul]
  exact bp_mul (by omega) hp.1 (by omega) hq.1
 ·rw [Int.natCast_mul]
  exact bp_mul (by omega) hp.2 (by omega) hq.2
theorem Qb.add {c d:Nat} {p q:Rat} (hp:Qb c p) (hq:Qb d q):Qb (c+d+1) (p+q):=by
 rw [Rat.add_def']
 refine mkRat_b ?_ ?_ (by omega)
 ·have h1:=bp_mul (x:=(p.num.natAbs:Int)) (y:=(q.den:Int)) (by omega) hp.1 (by omega) hq.2
  have h2:=bp_mul (x:=(p.den:Int)) (y:=(q.num.natAbs:Int)) (by omega) hp.2 (by omega) hq.1
  have h3:=Int.natAbs_add_le (p.num*q.den) (q.num*p.den)
  rw [Int.natAbs_mul,Int.natAbs_mul,Int.natAbs_natCast,Int.natAbs_natCast] at h3
  have h4:((p.num*q.den+q.num*p.den).natAbs:Int)<=(p.num.natAbs:Int)*(q.den:Int)+(p.den:Int)*(q.num.natAbs:Int):=by
   rw [Int.mul_comm (p.den:Int),<-Int.natCast_mul,<-Int.natCast_mul,<-Int.natCast_add]
   exact Int.ofNat_le.2 h3
  rw [Bp]
  have:=Bp_pos (c+d)
  omega
 ·rw [Int.natCast_mul]
  have:=bp_mul (x:=(p.den:Int)) (y:=(q.den:Int)) (by omega) hp.2 (by omega) hq.2
  have:=Bp_mono (show c+d<=c+d+1 by omega)
  omega
theorem Qb.sub {c d:Nat} {p q:Rat} (hp:Qb c p) (hq:Qb d q):Qb (c+d+1) (p-q):=by
 rw [Rat.sub_eq_add_neg]; exact hp.add hq.neg
theorem Qb.zero:Qb 1 0:=by unfold Qb; decide
theorem Qb.one:Qb 1 1:=by unfold Qb; decide
theorem cmpI_sign (x y:Int):cmpI x y=(x-y).sign:=by
 unfold cmpI
 rcases Int.lt_trichotomy x y with h|h|h
 ·rw [if_pos h,Int.sign_eq_neg_one_of_neg (by omega)]
 ·subst h; simp
 ·rw [if_neg (by omega),if_neg (by omega),Int.sign_eq_one_of_pos (by omega)]
theorem cmpQ_mk {p r:Bool} {a b c d:Int} (hb:0<b) (hd:0<d):cmpQ (mk p a b) (mk r c d)=(sg p a*d-sg r c*b).sign:=by
 unfold cmpQ sgQ
 rw [Rat.sub_eq_add_neg,mk_neg,mk_add p (!r) a b c d hb hd,mkRat_sign _ _ (Nat.mul_ne_zero (toNat_ne hb) (toNat_ne hd))]
 congr 1
 have:sg (!r) c = - sg r c:=by cases r<;>simp [sg]
 rw [this,Int.neg_mul]
 omega
end Go.Proofs.Ytjbnlmamealdgaa.Nt
namespace Go.Proofs.Ytjbnlmamealdgaa.Nt
open Go.ChangeShapes Go.WideShapes Go.ChangeAt Go.RowKit B
set_option linter.unusedVariables false
theorem IsNew.put {w:World} {g base:Nat} {v:Value} {n:Int} (h:IsNew base w v n) (hg:g<base) (i:Nat) (x:Value):IsNew base (w.setCell ⟨g,i,none⟩ x) v n:=by
 have hh:∀ b,b≠g->(w.setCell ⟨g,i,none⟩ x).heap[b]?=w.heap[b]?:=fun b hb=>Below.heap_setCell w ⟨g,i,none⟩ x b hb
 obtain ⟨l,h1,h2,h3,h4⟩:=h
 refine ⟨l,Row.of_heap h1 ?_,h2,h3,?_⟩
 ·rintro b off sp m c rfl
  obtain ⟨q1,_⟩:=h4 b off sp m c rfl
  exact hh b (by omega)
 ·rintro b off sp m c rfl
  obtain ⟨q1,cs,q2⟩:=h4 b off sp m c rfl
  exact ⟨q1,cs,by rw [hh b (by omega)]; exact q2⟩
end Go.Proofs.Ytjbnlmamealdgaa.Nt
namespace Go.Proofs.Ytjbnlmamealdgaa.Nt
open Go.ChangeShapes Go.WideShapes Go.ChangeAt Go.RowKit B
set_option linter.unusedVariables false
end Go.Proofs.Ytjbnlmamealdgaa.Nt
