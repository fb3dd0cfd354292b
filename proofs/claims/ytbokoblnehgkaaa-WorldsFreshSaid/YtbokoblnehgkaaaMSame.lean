/-
  Same, LawKit, Pow, in one text: see the remarks at the head of each part.
-/
import Derived.Test.YtbokoblnehgkaaaMText
namespace Go.Proofs.Ytbokoblnehgkaaa.Nt
open Go.ChangeShapes Go.WideShapes Go.ChangeAt Go.RowKit B
set_option linter.unusedVariables false
theorem list_ne {la lb:List Int} (hl:la.length=lb.length) (k:Nat) (hk:k<la.length) (h:la[k]?.getD 0≠lb[k]?.getD 0):la≠lb:=by
 rintro rfl; exact h rfl
set_option maxHeartbeats 1000000 in
theorem natSame (va vb:Value) (la lb:List Int) (w:World) (ha:Row .u32 w va la) (hb:Row .u32 w vb lb) :
    Calls Try.prog 35 #[va,vb] w fun e w'=>e=.returned (.bool (decide (la=lb)))/\Below w.heap.size w w':=by
 obtain ⟨a1,p1,rfl,g1,m1,c1⟩:=Row.parts ha
 obtain ⟨a2,p2,rfl,g2,m2,c2⟩:=Row.parts hb
 have H1:=Lib.hid c1
 have H2:=Lib.hid c2
 clear ha hb c1 c2
 by_cases hne:la.length=lb.length
 ·have hd:((la.length:Int) != (lb.length:Int))=false:=by rw [hne]; simp
  have HL:=Lib.hid hne
  rw [<-hne] at g2 H2 hd ⊢
  clear hne
  go_enter Try.func35,Try.ntmps35
  go_wp2
  go_loopg [5] la.length (fun gk i wr=>∃ k:Nat,k<=la.length/\la.length-k<=gk/\i=.int .i64 k/\la.take k=lb.take k/\Below w.heap.size w wr)
  case atStart=>exact ⟨0,Nat.zero_le _,Nat.le_refl _,rfl,rfl,Below.refl _ _⟩
  case round =>
   obtain ⟨k,hk,hgk,rfl,ht,hb⟩:=hrel
   have HT:=Lib.hid ht
   clear ht
   by_cases hlt:k<la.length
   ·obtain ⟨b1,o1,rfl,q1,_⟩:=H1.out k hlt
    obtain ⟨b2,o2,rfl,q2,_⟩:=H2.out k hlt
    have q1:=cell_later hb q1
    have q2:=cell_later hb q2
    have HX:=Lib.hid (take_snoc (l:=la) (k:=k) hlt)
    have HY:=Lib.hid (take_snoc (l:=lb) (k:=k) (by rw [<-HL.out]; exact hlt))
    have HNE:=Lib.hid (list_ne HL.out k hlt)
    generalize la[k]?.getD 0=x at *
    generalize lb[k]?.getD 0=y at *
    by_cases hxy:x=y
    ·subst hxy
     go_wp2
     go_quiet (fail)
     have hb1:=below_drewN hb nq
     generalize wr.drewN nq=w2 at *
     go_wp2
     go_roundg (la.length-(k+1))
     case measure=>omega
     case rel=>exact ⟨k+1,by omega,Nat.le_refl _,by go_num,by rw [HX.out,HY.out,HT.out],hb1⟩
    ·have hxd:(x != y)=true:=by rw [bne_iff_ne]; exact hxy
     have HF:=Lib.hid (HNE.out hxy)
     clear hxy
     go_wp2
     go_quiet (fail)
     have hb1:=below_drewN hb nq
     generalize wr.drewN nq=w2 at *
     go_wp2
     go_ret
     exact ⟨by rw [decide_eq_false HF.out]; rfl,hb1⟩
   ·have HE:=Lib.hid (show la=lb by
      have h:=HT.out
      rwa [List.take_of_length_le (by omega),List.take_of_length_le (by have:=HL.out; omega)] at h)
    go_wp2
    go_ret
    exact ⟨by rw [decide_eq_true HE.out]; rfl,hb⟩
 ·have hd:((la.length:Int) != (lb.length:Int))=true:=by rw [bne_iff_ne]; omega
  have HF:=Lib.hid (show la≠lb by rintro rfl; exact hne rfl)
  go_enter Try.func35,Try.ntmps35
  go_wp2
  go_ret
  exact ⟨by rw [decide_eq_false HF.out]; rfl,Below.refl _ _⟩
end Go.Proofs.Ytbokoblnehgkaaa.Nt
namespace Go.Proofs.Ytbokoblnehgkaaa.Nt
set_option linter.unusedVariables false
theorem IsNew.zero {base:Nat} {w:World} {v:Value} {n:Int} (h:IsNew base w v n) (e:n=0):∃ a cap,v=.slice a 0 cap:=by
 obtain ⟨l,h1,h2,h3,_⟩:=h
 have:l=[]:=h2.zero.1 (by rw [h3,e])
 subst this
 obtain ⟨a,cap,rfl,_⟩:=h1
 exact ⟨a,cap,rfl⟩
theorem blen_zero {n:Int} (h:0<=n):((blen n:Int) == 0)=decide (n=0):=by
 rcases Int.lt_or_eq_of_le h with h1|h1
 ·have:=blen_spec h1
  rw [decide_eq_false (by omega),beq_eq_false_iff_ne]; omega
 ·subst h1; rfl
theorem bp_mul {x y:Int} {a b:Nat} (x0:0<=x) (hx:x<Bp a) (y0:0<=y) (hy:y<Bp b):x*y<Bp (a+b):=by
 rw [Bp_add]
 have h1:=Int.mul_le_mul (a:=x) (b:=y) (c:=Bp a-1) (d:=Bp b) (by omega) (by omega) y0 (by have:=Bp_pos a; omega)
 have h2:=Bp_pos b
 rw [Int.sub_mul,Int.one_mul] at h1
 omega
end Go.Proofs.Ytbokoblnehgkaaa.Nt
namespace Go.Proofs.Ytbokoblnehgkaaa.Nt
open Go.ChangeShapes Go.WideShapes Go.ChangeAt Go.RowKit B
set_option linter.unusedVariables false
end Go.Proofs.Ytbokoblnehgkaaa.Nt
