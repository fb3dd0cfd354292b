/-
  QPlain, Q, Q2, in one text: see the remarks at the head of each part.
-/
import Derived.Test.YtbokoblnehgkaaaMSame
import Derived.Deep.RegionHeld3
namespace Go.Proofs.Ytbokoblnehgkaaa.Nt
set_option linter.unusedVariables false
def sg (neg:Bool) (n:Int):Int:=if neg then -n else n
def mk (neg:Bool) (n d:Int):Rat:=mkRat (sg neg n) d.toNat
def Qb (c:Nat) (q:Rat):Prop:=(q.num.natAbs:Int)<Bp c/\(q.den:Int)<Bp c
def sgQ (q:Rat):Int:=q.num.sign
theorem Qb.mono {c d:Nat} {q:Rat} (h:Qb c q) (hd:c<=d):Qb d q:=by
 have:=Bp_mono hd
 have:=h.1
 have:=h.2
 exact ⟨by omega,by omega⟩
theorem sg_natAbs (neg:Bool) (n:Int):(sg neg n).natAbs=n.natAbs:=by cases neg<;>simp [sg]
theorem mk_zero {neg:Bool} {n d:Int} (h:n=0∨d=0):mk neg n d=0:=by
 unfold mk
 rcases h with rfl|rfl
 ·have:sg neg 0=0:=by cases neg<;>rfl
  rw [this,Rat.zero_mkRat]
 ·exact Rat.mkRat_zero _
theorem gcdI_nat (a b:Nat):gcdI (a:Int) (b:Int)=((Nat.gcd a b:Nat):Int):=rfl
theorem mk_parts {neg:Bool} {n d:Int} (hn:0<n) (hd:0<d):(mk neg n d).num=sg neg (n / gcdI n d)/\((mk neg n d).den:Int)=d / gcdI n d/\0<gcdI n d/\0<n / gcdI n d/\0<d / gcdI n d:=by
 obtain ⟨a,rfl⟩:=Int.eq_ofNat_of_zero_le (show 0<=n by omega)
 obtain ⟨b,rfl⟩:=Int.eq_ofNat_of_zero_le (show 0<=d by omega)
 have hg:0<Nat.gcd a b:=Nat.gcd_pos_of_pos_left b (by omega)
 have h1:Nat.gcd a b ∣ a:=Nat.gcd_dvd_left a b
 have h2:Nat.gcd a b ∣ b:=Nat.gcd_dvd_right a b
 rw [gcdI_nat]
 have p1:0<a / Nat.gcd a b:=Nat.div_pos (Nat.le_of_dvd (by omega) h1) hg
 have p2:0<b / Nat.gcd a b:=Nat.div_pos (Nat.le_of_dvd (by omega) h2) hg
 refine ⟨?_,?_,by omega,by rw [<-Int.natCast_ediv]; omega,by rw [<-Int.natCast_ediv]; omega⟩
 ·unfold mk
  rw [Rat.num_mkRat,Int.toNat_natCast,if_neg (by omega),sg_natAbs,Int.natAbs_natCast,Nat.gcd_comm]
  cases neg
  ·rfl
  ·show -(a:Int) / _ = -((a:Int) / _)
   exact Int.neg_ediv_of_dvd (Int.natCast_dvd_natCast.2 h1)
 ·unfold mk
  rw [Rat.den_mkRat,Int.toNat_natCast,if_neg (by omega),sg_natAbs,Int.natAbs_natCast,Nat.gcd_comm,Int.natCast_ediv]
theorem sg_neg {neg:Bool} {n:Int} (h:0<n):decide (sg neg n<0)=neg:=by
 cases neg<;>simp [sg]<;>omega
theorem sg_abs {neg:Bool} {n:Int} (h:0<=n):((sg neg n).natAbs:Int)=n:=by
 cases neg<;>simp [sg]<;>omega
theorem mk_self (q:Rat):mk (decide (q.num<0)) (q.num.natAbs:Int) (q.den:Int)=q:=by
 unfold mk
 have:sg (decide (q.num<0)) (q.num.natAbs:Int)=q.num:=by
  unfold sg
  by_cases h:q.num<0
  ·rw [decide_eq_true h,if_pos rfl]; omega
  ·rw [decide_eq_false h]; simp; omega
 rw [this,Int.toNat_natCast,Rat.mkRat_self]
theorem mk_mul (p r:Bool) (a b c d:Int) (hb:0<=b) (hd:0<=d):mk p a b*mk r c d=mk (p != r) (a*c) (b*d):=by
 unfold mk
 rw [Rat.mkRat_mul_mkRat]
 have e:(b*d).toNat=b.toNat*d.toNat:=by
  obtain ⟨x,rfl⟩:=Int.eq_ofNat_of_zero_le hb
  obtain ⟨y,rfl⟩:=Int.eq_ofNat_of_zero_le hd
  rw [<-Int.natCast_mul,Int.toNat_natCast,Int.toNat_natCast,Int.toNat_natCast]
 rw [e]
 congr 1
 cases p<;>cases r<;>simp [sg,Int.mul_neg,Int.neg_mul]
theorem mk_neg (p:Bool) (a b:Int):-mk p a b=mk (!p) a b:=by
 unfold mk
 rw [Rat.neg_mkRat]
 congr 1
 cases p<;>simp [sg]
theorem toNat_ne {b:Int} (hb:0<b):b.toNat≠0:=by omega
theorem mk_add (p r:Bool) (a b c d:Int) (hb:0<b) (hd:0<d):mk p a b+mk r c d=mkRat (sg p a*d+sg r c*b) (b.toNat*d.toNat):=by
 unfold mk
 rw [Rat.mkRat_add_mkRat _ _ (toNat_ne hb) (toNat_ne hd)]
 congr 1
 rw [Int.toNat_of_nonneg (by omega),Int.toNat_of_nonneg (by omega)]
theorem mk_add_same (p r:Bool) (a b c:Int) (hb:0<b):mk p a b+mk r c b=mkRat (sg p a+sg r c) b.toNat:=by
 rw [mk_add p r a b c b hb hb,<-Int.add_mul]
 have:=Rat.mkRat_mul_right (n:=sg p a+sg r c) (d:=b.toNat) (a:=b.toNat) (toNat_ne hb)
 rw [Int.toNat_of_nonneg (by omega)] at this
 exact this
theorem dvd_abs {g:Nat} {n:Int} (h:g ∣ n.natAbs):(g:Int) ∣ n:=by
 obtain ⟨k,hk⟩:=h
 rcases Int.natAbs_eq n with e|e
 ·exact ⟨k,by rw [e,hk]; simp⟩
 ·exact ⟨-(k:Int),by rw [e,hk]; simp [Int.mul_neg]⟩
theorem mkRat_sign (n:Int) (d:Nat) (hd:d≠0):(mkRat n d).num.sign=n.sign:=by
 rw [Rat.num_mkRat,if_neg hd]
 have hg:0<d.gcd n.natAbs:=Nat.gcd_pos_of_pos_left _ (by omega)
 have h1:((d.gcd n.natAbs:Nat):Int) ∣ n:=dvd_abs (Nat.gcd_dvd_right ..)
 obtain ⟨k,hk⟩:=h1
 generalize d.gcd n.natAbs=g at *
 subst hk
 rw [Int.mul_ediv_cancel_left _ (by omega),Int.sign_mul,Int.sign_natCast_of_ne_zero (by omega),Int.one_mul]
theorem sgQ_mk {neg:Bool} {n d:Int} (hn:0<n) (hd:0<d):sgQ (mk neg n d)=if neg then -1 else 1:=by
 unfold sgQ mk
 rw [mkRat_sign _ _ (toNat_ne hd)]
 cases neg
 ·simp [sg,Int.sign_eq_one_of_pos hn]
 ·simp [sg,Int.sign_eq_one_of_pos hn]
theorem sgQ_eq_zero {p:Rat}:sgQ p=0↔p=0:=by
 unfold sgQ
 rw [Int.sign_eq_zero_iff_zero,Rat.num_eq_zero]
theorem mkRat_b {n:Int} {d c:Nat} (hn:(n.natAbs:Int)<Bp c) (hd:(d:Int)<Bp c) (hc:1<=c):Qb c (mkRat n d):=by
 have hB:=Bp_mono hc
 have h1:Bp 1=4294967296:=by decide
 by_cases h0:d=0
 ·subst h0
  rw [Rat.mkRat_zero]
  exact ⟨by show (0:Int)<_; omega,by show (1:Int)<_; omega⟩
 ·have hg:0<d.gcd n.natAbs:=Nat.gcd_pos_of_pos_left _ (by omega)
  have g1:((d.gcd n.natAbs:Nat):Int) ∣ n:=dvd_abs (Nat.gcd_dvd_right ..)
  refine ⟨?_,?_⟩
  ·rw [Rat.num_mkRat,if_neg h0]
   obtain ⟨k,hk⟩:=g1
   generalize d.gcd n.natAbs=g at *
   rw [hk,Int.mul_ediv_cancel_left _ (by omega)]
   have:n.natAbs=g*k.natAbs:=by rw [hk,Int.natAbs_mul,Int.natAbs_natCast]
   have h3:k.natAbs<=g*k.natAbs:=Nat.le_mul_of_pos_left _ hg
   omega
  ·rw [Rat.den_mkRat,if_neg h0]
   have:=Nat.div_le_self d (d.gcd n.natAbs)
   omega
theorem mk_b {neg:Bool} {n d:Int} {c:Nat} (h0:0<=n) (hn:n<Bp c) (hd:d<Bp c) (hc:1<=c):Qb c (mk neg n d) :=
 mkRat_b (by rw [sg_abs h0]; exact hn) (by have:=Bp_pos c; omega) hc
theorem Qb.neg {c:Nat} {q:Rat} (h:Qb c q):Qb c (-q):=⟨by rw [Rat.neg_num,Int.natAbs_neg]; exact h.1,h.2⟩
theorem Qb.mul {c d:Nat} {p q:Rat} (hp:Qb c p) (hq:Qb d q) (hc:1<=c):Qb (c+d) (p*q):=by
 rw [Rat.mul_def']
 refine mkRat_b ?_ ?_ (by omega)
 ·rw [Int.natAbs_mul,Int.natCast_mul]
  exact bp_mul (by omega) hp.1 (by omega) hq.1
 ·rw [Int.natCast_mul]
  exact bp_mul (by omega) hp.2 (by omega) hq.2
theorem Qb.add {c d:Nat} {p q:Rat} (hp:Qb c p) (hq:Qb d q):Qb (c+d+1) (p+q):=by
 rw [Rat.add_def']
 refine mkRat_b ?_ ?_ (by omega)
 ·have h1:=bp_mul (x:=(p.num.natAbs:Int)) (y:=(q.den:Int)) (by omega) hp.1 (by omega) hq.2
  have h2:=bp_mul (x:=(p.den:Int)) (y:=(q.num.natAbs:Int)) (by omega) hp.2 (by omega) hq.1
  have h3:=Int.natAbs_add_le (p.num*q.den) (q.num*p.den)
  rw [Int.natAbs_mul,Int.natAbs_mul,Int.natAbs_natCast,Int.natAbs_natCast] at h3
  have h4:((p.num*q.den+q.num*p.den).natAbs:Int)<=(p.num.natAbs:Int)*(q.den:Int)+(p.den:Int)*(q.num.natAbs:Int):=by
   rw [Int.mul_comm (p.den:Int),<-Int.natCast_mul,<-Int.natCast_mul,<-Int.natCast_add]
   exact Int.ofNat_le.2 h3
  rw [Bp]
  have:=Bp_pos (c+d)
  omega
 ·rw [Int.natCast_mul]
  have:=bp_mul (x:=(p.den:Int)) (y:=(q.den:Int)) (by omega) hp.2 (by omega) hq.2
  have:=Bp_mono (show c+d<=c+d+1 by omega)
  omega
theorem Qb.sub {c d:Nat} {p q:Rat} (hp:Qb c p) (hq:Qb d q):Qb (c+d+1) (p-q):=by
 rw [Rat.sub_eq_add_neg]; exact hp.add hq.neg
theorem Qb.zero:Qb 1 0:=by unfold Qb; decide
theorem Qb.one:Qb 1 1:=by unfold Qb; decide
end Go.Proofs.Ytbokoblnehgkaaa.Nt
namespace Go.Proofs.Ytbokoblnehgkaaa.Nt
open Go.ChangeShapes Go.WideShapes Go.ChangeAt Go.RowKit B
set_option linter.unusedVariables false
theorem IsNew.form {base:Nat} {w:World} {v:Value} {n:Int} (h:IsNew base w v n):∃ a len cap,v=.slice a len cap:=by
 obtain ⟨l,h1,_⟩:=h
 obtain ⟨a,cap,rfl,_⟩:=Row.parts h1
 exact ⟨a,_,cap,rfl⟩
theorem Num.form {w:World} {v:Value} {c:Nat} {n:Int} (h:Num w v c n):∃ a len cap,v=.slice a len cap:=by
 obtain ⟨l,h1,_⟩:=h
 obtain ⟨a,cap,rfl,_⟩:=Row.parts h1
 exact ⟨a,_,cap,rfl⟩
def IsQ (base:Nat) (w:World) (v:Value) (q:Rat):Prop :=
 ∃ vn vd,v=.agg #[.bool (decide (q.num<0)),vn,vd]/\IsNew base w vn (q.num.natAbs:Int)/\IsNew base w vd (q.den:Int)
def Raw (w:World) (v:Value) (c:Nat) (q:Rat):Prop :=
 ∃ neg vn vd n d,v=.agg #[.bool neg,vn,vd]/\Num w vn c n/\Num w vd c d/\q=mk neg n d
def RetQ (base:Nat) (w:World) (q:Rat) (e:Ending) (w':World):Prop:=∃ v,e=.returned v/\IsQ base w' v q/\Below base w w'
theorem IsQ.mono {base base':Nat} {w:World} {v:Value} {q:Rat} (h:IsQ base w v q) (hb:base'<=base):IsQ base' w v q:=by
 obtain ⟨vn,vd,h1,h2,h3⟩:=h
 exact ⟨vn,vd,h1,h2.mono hb,h3.mono hb⟩
theorem Raw.keep {w w':World} {v:Value} {c:Nat} {q:Rat} (h:Raw w v c q) (hb:Below w.heap.size w w'):Raw w' v c q:=by
 obtain ⟨neg,vn,vd,n,d,h1,h2,h3,h4⟩:=h
 exact ⟨neg,vn,vd,n,d,h1,h2.keep hb,h3.keep hb,h4⟩
theorem box_later {w w1 w':World} {C:Array Value} {t:TypeId} (hb:Below w1.heap.size w1 w') (h1:w1=w.alloc (.cells C t (0,0))) (i:Nat) :
    w'.cell? ⟨w.heap.size,i,none⟩=C[i]?/\w'.frozen? ⟨w.heap.size,i,none⟩=false:=by
 subst h1
 refine ⟨?_,?_⟩
 ·rw [hb.cell (p:=⟨w.heap.size,i,none⟩) (by simp),World.cell?_alloc_mark]
 ·rw [hb.frozen (p:=⟨w.heap.size,i,none⟩) (by simp),World.frozen?_alloc_mark]; simp
theorem IsNew.put {w:World} {g base:Nat} {v:Value} {n:Int} (h:IsNew base w v n) (hg:g<base) (i:Nat) (x:Value):IsNew base (w.setCell ⟨g,i,none⟩ x) v n:=by
 have hh:∀ b,b≠g->(w.setCell ⟨g,i,none⟩ x).heap[b]?=w.heap[b]?:=fun b hb=>Below.heap_setCell w ⟨g,i,none⟩ x b hb
 obtain ⟨l,h1,h2,h3,h4⟩:=h
 refine ⟨l,Row.of_heap h1 ?_,h2,h3,?_⟩
 ·rintro b off sp m c rfl
  obtain ⟨q1,_⟩:=h4 b off sp m c rfl
  exact hh b (by omega)
 ·rintro b off sp m c rfl
  obtain ⟨q1,cs,q2⟩:=h4 b off sp m c rfl
  exact ⟨q1,cs,by rw [hh b (by omega)]; exact q2⟩
theorem IsNew.put3 {w:World} {g base:Nat} {v:Value} {n:Int} (h:IsNew base w v n) (hg:g<base) (x y z:Value) :
    IsNew base (((w.setCell ⟨g,0,none⟩ x).setCell ⟨g,1,none⟩ y).setCell ⟨g,2,none⟩ z) v n:=((h.put hg 0 x).put hg 1 y).put hg 2 z
theorem IsQ.stored {w0 w:World} {g base:Nat} {v:Value} {q:Rat} {x y z:Value} (h:IsQ base w v q) (hg:g<base):IsQ base (((w.setCell ⟨g,0,none⟩ x).setCell ⟨g,1,none⟩ y).setCell ⟨g,2,none⟩ z) v q:=by
 obtain ⟨vn,vd,h1,h2,h3⟩:=h
 exact ⟨vn,vd,h1,h2.put3 hg _ _ _,h3.put3 hg _ _ _⟩
theorem below_put3 {B g:Nat} {a w:World} (h:Below B a w) (hg:B<=g) (x y z:Value):Below B a (((w.setCell ⟨g,0,none⟩ x).setCell ⟨g,1,none⟩ y).setCell ⟨g,2,none⟩ z) :=
 ((h.setCell (p:=⟨g,0,none⟩) hg x).setCell (p:=⟨g,1,none⟩) hg y).setCell (p:=⟨g,2,none⟩) hg z
theorem qZero (w:World):Calls Try.prog 56 #[] w (RetQ w.heap.size w 0):=by
 go_enter Try.func56,Try.ntmps56
 go_wp2_with fail
 refine (fromUint64 1 _ (by decide) (by decide)).mono ?_
 rintro e w2 ⟨v,rfl,h,hb⟩
 obtain ⟨a,n,c,rfl⟩:=h.form
 have HI:=Lib.hid h
 have HB:=Lib.hid hb
 obtain ⟨c0,f0⟩:=box_later hb rfl 0
 obtain ⟨c1,f1⟩:=box_later hb rfl 1
 obtain ⟨c2,f2⟩:=box_later hb rfl 2
 simp at c0 c1 c2
 clear h hb
 go_wp2_with fail
 have hb2:Below w.heap.size w w2:=((Below.refl _ _).alloc (Nat.le_refl _) _).trans (HB.out.mono (by simp))
 refine bodyPost_ret (v:=.agg #[.bool false,.slice none 0 0,.slice a n c]) (by simp [results,Try.results56,go_sem,c0,c1,c2]) rfl ?_
 exact ⟨_,rfl,⟨.slice none 0 0,.slice a n c,rfl,IsNew.nil _ _,(HI.out.put3 (by simp) _ _ _).mono (by simp)⟩,below_put3 hb2 (Nat.le_refl _) _ _ _⟩
theorem IsQ.form {base:Nat} {w:World} {v:Value} {q:Rat} (h:IsQ base w v q):∃ b a1 n1 c1 a2 n2 c2,v=.agg #[.bool b,.slice a1 n1 c1,.slice a2 n2 c2]:=by
 obtain ⟨vn,vd,rfl,h1,h2⟩:=h
 obtain ⟨a1,n1,c1,rfl⟩:=h1.form
 obtain ⟨a2,n2,c2,rfl⟩:=h2.form
 exact ⟨_,a1,n1,c1,a2,n2,c2,rfl⟩
theorem isOneC (v:Value) (l:List Int) (w:World) (h:Row .u32 w v l) (hc:Canon l) :
    Calls Try.prog 48 #[v] w fun e w'=>e=.returned (.bool (decide (N l=1)))/\w=w':=by
 obtain ⟨a,cap,rfl,hcl,hcm,hcell⟩:=Row.parts h
 have HC:=Lib.hid hcell
 have HK:=Lib.hid hc
 clear h hcell hc
 rcases l with _|⟨x,_|⟨y,m⟩⟩
 ·go_enter Try.func48,Try.ntmps48
  go_wp2
  go_ret
  exact ⟨rfl,rfl⟩
 ·obtain ⟨b,off,rfl,q0,_⟩:=HC.out 0 (by simp)
  have hx:=HK.out.1.head
  simp only [List.getElem?_cons_zero,Option.getD_some,Nat.add_zero,List.length_cons,List.length_nil,Nat.zero_add] at q0 hcl hcm ⊢
  by_cases h1:x=1
  ·subst h1
   go_enter Try.func48,Try.ntmps48
   go_wp2
   go_ret
   exact ⟨rfl,rfl⟩
  ·have hf:(x == 1)=false:=by rw [beq_eq_false_iff_ne]; exact h1
   have HN:=Lib.hid (show decide (N [x]=1)=false by simp [N]; exact h1)
   clear h1
   go_enter Try.func48,Try.ntmps48
   go_wp2
   go_ret
   exact ⟨by rw [HN.out]; rfl,rfl⟩
 ·have hf:((List.length (x::y::m):Int) == 1)=false:=by simp only [beq_eq_false_iff_ne,List.length_cons]; omega
  have HN:=Lib.hid (show decide (N (x::y::m)=1)=false by
   have:=HK.out.lower (m.length+1) (by simp)
   rw [Bp] at this
   have:=Bp_pos m.length
   rw [decide_eq_false_iff_not]; omega)
  generalize hL:(x::y::m).length=len at *
  clear hL
  go_enter Try.func48,Try.ntmps48
  go_wp2
  go_ret
  exact ⟨by rw [HN.out]; rfl,rfl⟩
theorem isOne {base:Nat} (v:Value) (n:Int) (w:World) (h:IsNew base w v n) :
    Calls Try.prog 48 #[v] w fun e w'=>e=.returned (.bool (decide (n=1)))/\w=w':=by
 obtain ⟨l,h1,h2,rfl,_⟩:=h
 exact isOneC v l w h1 h2
set_option maxHeartbeats 1000000 in
theorem qReduce (neg:Bool) (vn vd:Value) (c:Nat) (n d:Int) (w:World) (hn:Num w vn c n) (hd:Num w vd c d) (hc:c<=1000000000) :
    Calls Try.prog 34 #[.bool neg,vn,vd] w (RetQ w.heap.size w (mk neg n d)):=by
 have HNN:=Lib.hid (And.intro hn.nonneg hd.nonneg)
 have HLT:=Lib.hid (And.intro hn.lt hd.lt)
 have HN:=Lib.hid (hn.keep ((Below.refl _ _).alloc (Nat.le_refl _) (.cells #[.bool false,.slice none 0 0,.slice none 0 0] 41 (0,0))))
 have HD:=Lib.hid (hd.keep ((Below.refl _ _).alloc (Nat.le_refl _) (.cells #[.bool false,.slice none 0 0,.slice none 0 0] 41 (0,0))))
 have hz0:=blen_zero hn.nonneg
 have hz1:=blen_zero hd.nonneg
 clear hn hd
 by_cases h0:n=0∨d=0
 ·have HQ:=Lib.hid (mk_zero (neg:=neg) h0)
  have hnd:decide (n=0)=true∨decide (n=0)=false/\decide (d=0)=true:=by
   by_cases h:n=0
   ·exact .inl (by simpa using h)
   ·exact .inr ⟨by simpa using h,by simp; rcases h0 with h1|h1; exact absurd h1 h; exact h1⟩
  clear h0
  rcases hnd with hnd|⟨hnd,hdd⟩
  all_goals
   rw [hnd] at hz0
   try rw [hdd] at hz1
   go_enter Try.func34,Try.ntmps34
   clear hnd
   try clear hdd
   go_wp2_with (first
    | ((with_reducible refine (Nt.bitLen _ c n _ HN.out (by omega)).mono ?_); rintro e w' ⟨rfl,rfl⟩)
    | ((with_reducible refine (Nt.bitLen _ c d _ HD.out (by omega)).mono ?_); rintro e w' ⟨rfl,rfl⟩))
   refine (qZero _).mono ?_
   rintro e w2 ⟨v,rfl,h,hb⟩
   obtain ⟨b,a1,n1,c1,a2,n2,c2,rfl⟩:=h.form
   have HI:=Lib.hid h
   have HB:=Lib.hid hb
   obtain ⟨k0,f0⟩:=box_later hb rfl 0
   obtain ⟨k1,f1⟩:=box_later hb rfl 1
   obtain ⟨k2,f2⟩:=box_later hb rfl 2
   simp at k0 k1 k2
   clear h hb
   go_wp2_with fail
   have hb2:Below w.heap.size w w2:=((Below.refl _ _).alloc (Nat.le_refl _) _).trans (HB.out.mono (by simp))
   refine bodyPost_ret (v:=.agg #[.bool b,.slice a1 n1 c1,.slice a2 n2 c2]) (by simp [results,Try.results34,go_sem,k0,k1,k2]) rfl ?_
   exact ⟨_,rfl,by rw [HQ.out]; exact (HI.out.stored (w0:=w) (by simp)).mono (by simp),below_put3 hb2 (Nat.le_refl _) _ _ _⟩
 ·have hn0:0<n:=by have:=HNN.out.1; omega
  have hd0:0<d:=by have:=HNN.out.2; omega
  rw [decide_eq_false (show ¬n=0 by omega)] at hz0
  rw [decide_eq_false (show ¬d=0 by omega)] at hz1
  have HP:=Lib.hid (mk_parts (neg:=neg) hn0 hd0)
  have HG:=Lib.hid (show gcdI n d<Bp c/\gcdI n d≠0 by
   have h1:gcdI n d<=n:=by
    unfold gcdI
    have:=Nat.gcd_le_left (m:=n.toNat) d.toNat (by omega)
    omega
   have:=HP.out.2.2.1
   have:=HLT.out.1
   omega)
  clear h0
  go_enter Try.func34,Try.ntmps34
  go_wp2_with (first
   | ((with_reducible refine (Nt.bitLen _ c n _ HN.out (by omega)).mono ?_); rintro e w' ⟨rfl,rfl⟩)
   | ((with_reducible refine (Nt.bitLen _ c d _ HD.out (by omega)).mono ?_); rintro e w' ⟨rfl,rfl⟩))
  clear hz0 hz1
  refine (Nt.gcd _ _ c n d _ HN.out HD.out (by omega)).mono ?_
  rintro e w2 ⟨vg,rfl,hg,hb2⟩
  have HGN:=Lib.hid hg
  have HN2:=Lib.hid (HN.out.keep hb2)
  have HD2:=Lib.hid (HD.out.keep hb2)
  have HB2:=Lib.hid hb2
  clear hg hb2 HN HD
  go_wp2_with fail
  refine (isOne vg (gcdI n d) w2 HGN.out).mono ?_
  rintro e w' ⟨rfl,rfl⟩
  by_cases h1:gcdI n d=1
  ·rw [decide_eq_true h1]
   rw [h1,Int.ediv_one,Int.ediv_one] at HP
   clear h1
   go_wp2_with fail
   refine (Nt.normalize vn c n w2 HN2.out (by omega)).mono ?_
   rintro e w3 ⟨v3,rfl,h3,hb3⟩
   have HV3:=Lib.hid h3
   clear h3
   go_wp2_with fail
   refine (Nt.normalize vd c d w3 (HD2.out.keep hb3) (by omega)).mono ?_
   rintro e w4 ⟨v4,rfl,h4,hb4⟩
   have HV4:=Lib.hid h4
   clear h4
   have hb24:=hb3.trans (hb4.mono hb3.size)
   have hball:=HB2.out.trans (hb24.mono HB2.out.size)
   have hs2:=HB2.out.size
   have hs3:=hb3.size
   obtain ⟨k0,f0⟩:=box_later hball rfl 0
   obtain ⟨k1,f1⟩:=box_later hball rfl 1
   obtain ⟨k2,f2⟩:=box_later hball rfl 2
   simp at k0 k1 k2 hs2
   obtain ⟨a1,n1,c1,rfl⟩:=HV3.out.form
   obtain ⟨a2,n2,c2,rfl⟩:=HV4.out.form
   have HV3:=Lib.hid (HV3.out.keep hb4)
   have HBA:=Lib.hid hball
   clear hball hb24 hb3 hb4
   go_wp2_with fail
   have hbw:Below w.heap.size w w4:=((Below.refl _ _).alloc (Nat.le_refl _) _).trans (HBA.out.mono (by simp))
   refine bodyPost_ret (v:=.agg #[.bool neg,.slice a1 n1 c1,.slice a2 n2 c2]) (by simp [results,Try.results34,go_sem,k0,k1,k2]) rfl ?_
   refine ⟨_,rfl,⟨.slice a1 n1 c1,.slice a2 n2 c2,?_,?_,?_⟩,below_put3 hbw (Nat.le_refl _) _ _ _⟩
   ·rw [HP.out.1,sg_neg hn0]
   ·rw [HP.out.1,sg_abs (Int.le_of_lt hn0)]
    exact ((HV3.out.mono (base':=w.heap.size+1) (by omega)).put3 (by omega) _ _ _).mono (by omega)
   ·rw [HP.out.2.1]
    exact ((HV4.out.mono (base':=w.heap.size+1) (by omega)).put3 (by omega) _ _ _).mono (by omega)
  ·rw [decide_eq_false h1]
   clear h1
   go_wp2_with fail
   refine (Nt.divMod vn vg c n (gcdI n d) w2 HN2.out (HGN.out.num c HG.out.1) (by omega)).mono ?_
   rintro e w3 ⟨v3,x3,rfl,h3,g3,hb3⟩
   rw [decide_eq_true HG.out.2]
   have HV3:=Lib.hid h3
   clear h3 g3
   go_wp2_with fail
   refine (Nt.divMod vd vg c d (gcdI n d) w3 (HD2.out.keep hb3) ((HGN.out.keep hb3).num c HG.out.1) (by omega)).mono ?_
   rintro e w4 ⟨v4,x4,rfl,h4,g4,hb4⟩
   rw [decide_eq_true HG.out.2]
   have HV4:=Lib.hid h4
   clear h4 g4
   have hb24:=hb3.trans (hb4.mono hb3.size)
   have hball:=HB2.out.trans (hb24.mono HB2.out.size)
   have hs2:=HB2.out.size
   have hs3:=hb3.size
   obtain ⟨k0,f0⟩:=box_later hball rfl 0
   obtain ⟨k1,f1⟩:=box_later hball rfl 1
   obtain ⟨k2,f2⟩:=box_later hball rfl 2
   simp at k0 k1 k2 hs2
   obtain ⟨a1,n1,c1,rfl⟩:=HV3.out.form
   obtain ⟨a2,n2,c2,rfl⟩:=HV4.out.form
   have HV3:=Lib.hid (HV3.out.keep hb4)
   have HBA:=Lib.hid hball
   clear hball hb24 hb3 hb4
   go_wp2_with fail
   have hbw:Below w.heap.size w w4:=((Below.refl _ _).alloc (Nat.le_refl _) _).trans (HBA.out.mono (by simp))
   refine bodyPost_ret (v:=.agg #[.bool neg,.slice a1 n1 c1,.slice a2 n2 c2]) (by simp [results,Try.results34,go_sem,k0,k1,k2]) rfl ?_
   refine ⟨_,rfl,⟨.slice a1 n1 c1,.slice a2 n2 c2,?_,?_,?_⟩,below_put3 hbw (Nat.le_refl _) _ _ _⟩
   ·rw [HP.out.1,sg_neg HP.out.2.2.2.1]
   ·rw [HP.out.1,sg_abs (Int.le_of_lt HP.out.2.2.2.1)]
    exact ((HV3.out.mono (base':=w.heap.size+1) (by omega)).put3 (by omega) _ _ _).mono (by omega)
   ·rw [HP.out.2.1]
    exact ((HV4.out.mono (base':=w.heap.size+1) (by omega)).put3 (by omega) _ _ _).mono (by omega)
end Go.Proofs.Ytbokoblnehgkaaa.Nt
namespace Go.Proofs.Ytbokoblnehgkaaa.Nt
open Go.ChangeShapes Go.WideShapes Go.ChangeAt Go.RowKit B
set_option linter.unusedVariables false
theorem cell_lt {w:World} {a:Addr} {v:Value} (h:w.cell? a=some v):a.block<w.heap.size:=by
 unfold World.cell? at h
 rcases Nat.lt_or_ge a.block w.heap.size with hb|hb
 ·exact hb
 ·simp [Array.getElem?_eq_none hb] at h
theorem cell_keep {W w':World} (hb:Below W.heap.size W w') {a:Addr} {v:Value} (h:W.cell? a=some v):w'.cell? a=some v:=by
 rw [hb.cell (p:=a) (cell_lt h)]; exact h
theorem frozen_keep {W w':World} (hb:Below W.heap.size W w') {a:Addr} {v:Value} (h:W.cell? a=some v) (hf:W.frozen? a=false):w'.frozen? a=false:=by
 rw [hb.frozen (p:=a) (cell_lt h)]; exact hf
def Box3 (w:World) (k:Nat) (x y z:Value):Prop :=
 (w.cell? ⟨k,0,none⟩=some x/\w.cell? ⟨k,1,none⟩=some y/\w.cell? ⟨k,2,none⟩=some z)/\w.frozen? ⟨k,0,none⟩=false/\w.frozen? ⟨k,1,none⟩=false/\w.frozen? ⟨k,2,none⟩=false
theorem Box3.keep {W w':World} {k:Nat} {x y z:Value} (h:Box3 W k x y z) (hb:Below W.heap.size W w'):Box3 w' k x y z :=
 ⟨⟨cell_keep hb h.1.1,cell_keep hb h.1.2.1,cell_keep hb h.1.2.2⟩,frozen_keep hb h.1.1 h.2.1,frozen_keep hb h.1.2.1 h.2.2.1,frozen_keep hb h.1.2.2 h.2.2.2⟩
theorem Box3.new (w:World) (x y z:Value) (t:TypeId):Box3 (w.alloc (.cells #[x,y,z] t (0,0))) w.heap.size x y z:=by
 refine ⟨⟨?_,?_,?_⟩,?_,?_,?_⟩
 ·rw [World.cell?_alloc_mark]; rfl
 ·rw [World.cell?_alloc_mark]; rfl
 ·rw [World.cell?_alloc_mark]; rfl
 all_goals rw [World.frozen?_alloc_mark]; simp
theorem Box3.old {w:World} {k:Nat} {x y z:Value} (h:Box3 w k x y z) (o:Obj):Box3 (w.alloc o) k x y z:=h.keep ((Below.refl _ _).alloc (Nat.le_refl _) o)
theorem alloc_below (w:World) (o:Obj):Below w.heap.size w (w.alloc o):=(Below.refl _ _).alloc (Nat.le_refl _) o
theorem size_alloc (w:World) (o:Obj):(w.alloc o).heap.size=w.heap.size+1:=by simp
theorem pro1 (w:World) (x y z:Value) (t:TypeId):Box3 (w.alloc (.cells #[x,y,z] t (0,0))) w.heap.size x y z/\Below w.heap.size w (w.alloc (.cells #[x,y,z] t (0,0)))/\(w.alloc (.cells #[x,y,z] t (0,0))).heap.size=w.heap.size+1 :=
 ⟨Box3.new w x y z t,alloc_below _ _,size_alloc _ _⟩
theorem pro2 (w:World) (x y z X Y Z:Value) (t s:TypeId) :
    Box3 ((w.alloc (.cells #[x,y,z] t (0,0))).alloc (.cells #[X,Y,Z] s (0,0))) w.heap.size x y z/\Box3 ((w.alloc (.cells #[x,y,z] t (0,0))).alloc (.cells #[X,Y,Z] s (0,0))) (w.heap.size+1) X Y Z /\
    Below w.heap.size w ((w.alloc (.cells #[x,y,z] t (0,0))).alloc (.cells #[X,Y,Z] s (0,0)))/\((w.alloc (.cells #[x,y,z] t (0,0))).alloc (.cells #[X,Y,Z] s (0,0))).heap.size=w.heap.size+2:=by
 obtain ⟨h1,h2,h3⟩:=pro1 w x y z t
 obtain ⟨g1,g2,g3⟩:=pro1 (w.alloc (.cells #[x,y,z] t (0,0))) X Y Z s
 rw [h3] at g1 g3
 exact ⟨h1.old _,g1,h2.alloc (by omega) _,g3⟩
theorem fin_q {w w2:World} {g base:Nat} {v:Value} {q:Rat} {x y z:Value} (h:IsQ base w2 v q) (hg:g<base) (hb:Below w.heap.size w w2) (hw:w.heap.size<=g) :
    RetQ w.heap.size w q (.returned v) (((w2.setCell ⟨g,0,none⟩ x).setCell ⟨g,1,none⟩ y).setCell ⟨g,2,none⟩ z) :=
 ⟨v,rfl,(h.stored (w0:=w) hg).mono (by omega),below_put3 hb hw _ _ _⟩
set_option maxHeartbeats 1000000 in
theorem qNormalize (va:Value) (c:Nat) (q:Rat) (w:World) (ha:Raw w va c q) (hc:c<=1000000000) :
    Calls Try.prog 20 #[va] w (RetQ w.heap.size w q):=by
 obtain ⟨nega,vna,vda,na,da,rfl,hna,hda,rfl⟩:=ha
 obtain ⟨ana,lna,pna,rfl⟩:=hna.form
 obtain ⟨ada,lda,pda,rfl⟩:=hda.form
 obtain ⟨hAa,hR,hW,hS⟩:=pro2 w (.bool nega) (.slice ana lna pna) (.slice ada lda pda) (.bool false) (.slice none 0 0) (.slice none 0 0) 41 41
 have HNa:=Lib.hid (hna.keep hW)
 have HDa:=Lib.hid (hda.keep hW)
 have HNNa:=Lib.hid (And.intro hna.nonneg hda.nonneg)
 have HLTa:=Lib.hid (And.intro hna.lt hda.lt)
 have HN0a:=Lib.hid (And.intro hna hda)
 clear hna hda
 generalize hWe:((w.alloc (.cells #[.bool nega,.slice ana lna pna,.slice ada lda pda] 41 (0,0))).alloc (.cells #[.bool false,.slice none 0 0,.slice none 0 0] 41 (0,0)))=W at *
 have HAa:=Lib.hid hAa
 clear hAa
 have HR:=Lib.hid hR
 clear hR
 have HWE:=Lib.hid hWe
 have HWS:=Lib.hid hS
 clear hWe hS
 go_enter Try.func20,Try.ntmps20
 go_wp2_with fail
 rw [HWE.out]
 refine (qReduce nega _ _ c na da W HNa.out HDa.out hc).mono ?_
 rintro e w2 ⟨v,rfl,h,hb⟩
 obtain ⟨qb,qa,qn,qc,ra,rn,rc,rfl⟩:=h.form
 have HI:=Lib.hid h
 have HBW:=Lib.hid (hb)
 have HBS:=Lib.hid (show w.heap.size+2<=W.heap.size by rw [HWS.out]; omega)
 obtain ⟨⟨rc0,rc1,rc2⟩,rf0,rf1,rf2⟩:=HR.out.keep HBW.out
 clear h hb
 go_wp2_with fail
 have hbw:=hW.trans (HBW.out.mono (by have:=HWS.out; omega))
 refine bodyPost_ret (v:=.agg #[.bool qb,.slice qa qn qc,.slice ra rn rc]) (by simp [results,Try.results20,go_sem,rc0,rc1,rc2]) rfl ?_
 exact fin_q (base:=w.heap.size+2) (HI.out.mono HBS.out) (by omega) hbw (by omega)
end Go.Proofs.Ytbokoblnehgkaaa.Nt
