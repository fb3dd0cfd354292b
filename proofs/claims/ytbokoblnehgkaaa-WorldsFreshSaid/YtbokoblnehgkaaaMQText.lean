/-
  QFmt, QParse, QParse2, in one text: see the remarks at the head of each part.
-/
import Derived.Test.YtbokoblnehgkaaaMQ
import Derived.Test.YtbokoblnehgkaaaMQMul
import Derived.Test.YtbokoblnehgkaaaMRefH
namespace Go.Proofs.Ytbokoblnehgkaaa.Nt
open Go.ChangeShapes Go.WideShapes Go.ChangeAt Go.RowKit B
set_option linter.unusedVariables false
theorem dec_size {s:ByteArray} {n:Int} {c:Nat} (h:IsDec s n) (hn:n<Bp c):s.size<=32*c+1:=by
 rcases h with ⟨_,rfl⟩|⟨h0,l,h1,h2,rfl⟩
 ·have:(⟨#[48]⟩:ByteArray).size=1:=rfl
  omega
 ·have hs:(decS l).size=l.length:=by simp [decS,decB,ByteArray.size]
  rcases hl:l.length with _|k
  ·omega
  ·have hp:p10 k<=n:=by
     obtain ⟨m,x,rfl⟩:∃ m x,l=m++[x]:=⟨l.dropLast,l.getLast (by intro e; rw [e] at hl; simp at hl),(List.dropLast_concat_getLast _).symm⟩
     have hm:m.length=k:=by simpa using hl
     rw [V10_snoc,hm] at h2
     have hx:x≠0:=by intro e; subst e; exact h1.2 (by simp)
     have hx2:=h1.1 x (by simp)
     have hm0:0<=V10 m:=V10_nonneg (fun d hd=>h1.1 d (by simp [hd]))
     have:=Int.mul_le_mul_of_nonneg_left (show 1<=x by omega) (show 0<=p10 k by have:=p10_pos k; omega)
     omega
   have:=p10_len hp hn
   omega
def IsFT (s:ByteArray) (q:Rat):Prop :=
 ∃ t1 t2,IsDec t1 (q.num.natAbs:Int)/\IsDec t2 (q.den:Int) /\
  s=if q.den=1 then (if q.num<0 then ⟨#[45]⟩++t1 else t1) else (if q.num<0 then ⟨#[45]⟩++t1 else t1)++(⟨#[47]⟩++t2)
def RetFT (base:Nat) (w:World) (q:Rat) (e:Ending) (w':World):Prop:=∃ s,e=.returned (.string s)/\IsFT s q/\Below base w w'
theorem IsDec.one:IsDec ⟨#[49]⟩ 1:=.inr ⟨by decide,[1],⟨by unfold D10; decide,by decide⟩,by decide,rfl⟩
set_option maxHeartbeats 2000000 in
theorem qFormat (va:Value) (c:Nat) (q:Rat) (w:World) (ha:Raw w va c q) (hc:c<=1000000) (hq:Qb c q) :
    Calls Try.prog 28 #[va] w (RetFT w.heap.size w q):=by
 have HQB:=Lib.hid hq
 have HRAW:=Lib.hid ha
 obtain ⟨neg,vn,vd,n,d,rfl,hn,hd,_⟩:=ha
 obtain ⟨a1,n1,p1,rfl⟩:=hn.form
 obtain ⟨a2,n2,p2,rfl⟩:=hd.form
 have hW:=alloc_below w (.cells #[.bool neg,.slice a1 n1 p1,.slice a2 n2 p2] 41 (0,0))
 have HW:=Lib.hid hW
 have HRW:=Lib.hid (HRAW.out.keep hW)
 clear hn hd hq hW HRAW
 go_enter Try.func28,Try.ntmps28
 go_wp2_with fail
 refine (qNormalize _ c q _ HRW.out (by omega)).mono ?_
 rintro e w2 ⟨v,rfl,⟨vn,vd,rfl,h1,h2⟩,hb2⟩
 obtain ⟨b1,m1,r1,rfl⟩:=h1.form
 obtain ⟨b2,m2,r2,rfl⟩:=h2.form
 have hbw2:Below w.heap.size w w2:=HW.out.trans (hb2.mono (by simp))
 have hA2:=alloc_below w2 (.cells #[.bool (decide (q.num<0)),.slice b1 m1 r1,.slice b2 m2 r2] 41 (0,0))
 have H1:=Lib.hid (h1.keep hA2)
 have H2:=Lib.hid (h2.keep hA2)
 have HX:=Lib.hid (Box3.new w2 (.bool (decide (q.num<0))) (.slice b1 m1 r1) (.slice b2 m2 r2) 41)
 have hbw3:=hbw2.trans (hA2.mono hbw2.size)
 have hW3:Below w2.heap.size w2 (w2.alloc (.cells #[.bool (decide (q.num<0)),.slice b1 m1 r1,.slice b2 m2 r2] 41 (0,0))):=hA2
 clear h1 h2 hA2 hb2
 generalize hNe:decide (q.num<0)=ng at *
 generalize hWe:w2.alloc (.cells #[.bool ng,.slice b1 m1 r1,.slice b2 m2 r2] 41 (0,0))=w3 at *
 have HWE:=Lib.hid hWe
 have HNE:=Lib.hid hNe
 clear hWe hNe
 go_wp2_with fail
 rw [HWE.out]
 refine (Nt.format _ c _ w3 (H1.out.num c HQB.out.1) (by omega)).mono ?_
 rintro e w4 ⟨t1,rfl,ht1,hb4⟩
 have HT1:=Lib.hid ht1
 have hs1:=dec_size ht1 HQB.out.1
 have H24:=Lib.hid (H2.out.keep hb4)
 have hbw4:=hbw3.trans (hb4.mono hbw3.size)
 have HX4:=Lib.hid (HX.out.keep hb4)
 obtain ⟨⟨x0,x1,x2⟩,_,_,_⟩:=HX4.out
 have hsz45:(⟨#[45]⟩:ByteArray).size=1:=rfl
 have hsz47:(⟨#[47]⟩:ByteArray).size=1:=rfl
 clear ht1
 by_cases h1:(q.den:Int)=1
 ·have HD1:=Lib.hid (show q.den=1 by omega)
  have HDD:=Lib.hid (show decide ((q.den:Int)=1)=true by simpa using h1)
  clear h1
  rcases ng
  all_goals
   go_wp2_with fail
   refine (isOne _ _ w4 H24.out).mono ?_
   rintro e w' ⟨rfl,rfl⟩
   rw [HDD.out]
   go_wp2_with fail
   go_ret
   refine ⟨_,rfl,⟨t1,⟨#[49]⟩,HT1.out,by rw [HD1.out]; exact IsDec.one,?_⟩,hbw4⟩
   rw [if_pos HD1.out]
   first|rw [if_pos (of_decide_eq_true HNE.out)]|rw [if_neg (of_decide_eq_false HNE.out)]
 ·have HD1:=Lib.hid (show ¬q.den=1 by omega)
  have HDD:=Lib.hid (show decide ((q.den:Int)=1)=false by simpa using h1)
  clear h1
  rcases ng
  all_goals
   go_wp2_with fail
   refine (isOne _ _ w4 H24.out).mono ?_
   rintro e w' ⟨rfl,rfl⟩
   rw [HDD.out]
   go_wp2_with fail
   refine (Nt.format _ c _ w4 (H24.out.num c HQB.out.2) (by omega)).mono ?_
   rintro e w5 ⟨t2,rfl,ht2,hb5⟩
   have HT2:=Lib.hid ht2
   have hs2:=dec_size ht2 HQB.out.2
   clear ht2
   have hsa:(⟨#[47]⟩++t2:ByteArray).size=1+t2.size:=by rw [ByteArray.size_append]; rfl
   have hsb:(⟨#[45]⟩++t1:ByteArray).size=1+t1.size:=by rw [ByteArray.size_append]; rfl
   go_wp2_with fail
   go_ret
   refine ⟨_,rfl,⟨t1,t2,HT1.out,HT2.out,?_⟩,hbw4.trans (hb5.mono hbw4.size)⟩
   rw [if_neg HD1.out]
   first|rw [if_pos (of_decide_eq_true HNE.out)]|rw [if_neg (of_decide_eq_false HNE.out)]
end Go.Proofs.Ytbokoblnehgkaaa.Nt
namespace Go.Proofs.Ytbokoblnehgkaaa.Nt
open Go.ChangeShapes Go.WideShapes Go.ChangeAt Go.RowKit B
set_option linter.unusedVariables false
end Go.Proofs.Ytbokoblnehgkaaa.Nt
namespace Go.Proofs.Ytbokoblnehgkaaa.Nt
open Go.ChangeShapes Go.WideShapes Go.ChangeAt Go.RowKit B
set_option linter.unusedVariables false
end Go.Proofs.Ytbokoblnehgkaaa.Nt
