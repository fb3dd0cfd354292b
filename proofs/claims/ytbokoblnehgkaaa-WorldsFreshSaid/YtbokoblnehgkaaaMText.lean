/-
  Parse, Format, in one text: see the remarks at the head of each part.
-/
import Derived.Test.YtbokoblnehgkaaaMLong
import Derived.Test.YtbokoblnehgkaaaMPlain
namespace Go.Proofs.Ytbokoblnehgkaaa.Nt
open Go.ChangeShapes Go.WideShapes Go.ChangeAt Go.RowKit B
set_option linter.unusedVariables false
theorem own_form {w:World} {base:Nat} {e:TypeId} {size:Nat} {v:Value} {n:Nat} {xs:List Value} (h:w.ownsRow base e size v n xs) :
    ∃ a cap,v=.slice a n cap/\n<=cap/\cap<=9223372036854775807/\(0<n->∃ g,a=some ⟨g,0,none⟩/\base<=g):=by
 rcases h.2 with ⟨rfl,h0⟩|⟨g,cap,cur,rfl,hb,_,h1,h2,_⟩
 ·exact ⟨none,0,by rw [h0],by omega,by omega,fun hn=>by omega⟩
 ·unfold maxLen at h2
  exact ⟨_,cap,rfl,h1,by omega,fun _=>⟨g,rfl,hb⟩⟩
theorem p10_val:p10 8=100000000/\p10 9=1000000000:=by decide
end Go.Proofs.Ytbokoblnehgkaaa.Nt
namespace Go.Proofs.Ytbokoblnehgkaaa.Nt
open Go.ChangeShapes Go.WideShapes Go.ChangeAt Go.RowKit B
set_option linter.unusedVariables false
theorem info8:(Try.prog.info? 5).map (fun i=>(i.zero,i.size,i.bytes))=some (some (.int .u8 0),1,1):=by kernel_rfl
def RetS (base:Nat) (w:World) (n:Int) (e:Ending) (w':World):Prop:=∃ s,e=.returned (.string s)/\IsDec s n/\Below base w w'
def asc (l:List Int):List Int:=l.map (·+48)
theorem asc_snoc (l:List Int) (d:Int):asc l++[48+d]=asc (l++[d]):=by simp [asc,Int.add_comm]
theorem own_below {w w':World} {base:Nat} {e:TypeId} {size:Nat} {v:Value} {n:Nat} {xs:List Value} (h:w.ownsRow base e size v n xs) (hb:Below w.heap.size w w'):w'.ownsRow base e size v n xs:=by
 refine ⟨h.1,?_⟩
 rcases h.2 with h0|⟨g,cap,cur,h1,h2,h3,h4⟩
 ·exact .inl h0
 ·refine .inr ⟨g,cap,cur,h1,h2,?_,h4⟩
  rw [hb.block g (by rcases Nat.lt_or_ge g w.heap.size with h|h; exact h; rw [Array.getElem?_eq_none h] at h3; cases h3)]
  exact h3
theorem conv_dec {w:World} {base g m cap:Nat} {R:List Int} (ho:w.ownsRow base 5 1 (.slice (some ⟨g,0,none⟩) m cap) m ((asc R).reverse.map (Value.int .u8))) (hD:D10 R) (hl:R.length=m) :
    (convert 80 9 (.slice (some ⟨g,0,none⟩) m cap)).run Try.prog w=.ok (.string (decS R)) w:=by
 have e:m=(decB R).length:=by simp [decB,hl]
 conv=>lhs; rw [e]
 refine run_convert_bytes_back (P:=Try.prog) w 80 9 5 ⟨g,0,none⟩ cap (decB R) Try.underlying80 Try.underlying5 Try.underlying9 ?_
 intro j hj
 have hjm:j<m:=by omega
 have ea:Addr.add ⟨g,0,none⟩ j=⟨g,j,none⟩:=by
  unfold Addr.add; split<;>simp_all
 rw [ea,(own_cell ho j hjm).1]
 congr 2
 have hjr:j<(asc R).reverse.length:=by simp [asc]; omega
 rw [List.getElem?_eq_getElem hjr,Option.getD_some]
 simp only [asc,decB,List.getElem_reverse,List.getElem_map,<-List.map_reverse]
 have:=hD _ (List.getElem_mem (l:=R) (n:=R.length-1-j) (by omega))
 generalize R[R.length-1-j]'(by omega)=d at *
 rw [UInt8.toNat_ofNat']
 omega
set_option maxHeartbeats 2000000 in
set_option maxRecDepth 100000 in
theorem format (va:Value) (c:Nat) (n:Int) (w:World) (ha:Num w va c n) (hc:c<=4294967296) :
    Calls Try.prog 26 #[va] w (RetS w.heap.size w n):=by
 have HA:=Lib.hid ha
 have HLT:=Lib.hid ha.lt
 clear ha
 go_enter Try.func26,Try.ntmps26
 go_wp2_with fail
 refine (normalize va c n w HA.out hc).mono ?_
 rintro e w1 ⟨v1,rfl,h1,hb1⟩
 have HI:=Lib.hid h1
 obtain ⟨lx,rx,cx,ex,_⟩:=h1
 have HE:=Lib.hid (And.intro cx ex)
 obtain ⟨a1,p1,rfl,g1,m1,_⟩:=Row.parts rx
 clear rx cx ex
 by_cases h0:lx.length=0
 ·have HZ:=Lib.hid (show n=0 by
    have:lx=[]:=List.eq_nil_of_length_eq_zero h0
    rw [<-HE.out.2,this]; rfl)
  have hd:((lx.length:Int) == 0)=true:=by rw [h0]; rfl
  go_wp2_with fail
  go_ret
  exact ⟨⟨#[48]⟩,rfl,.inl ⟨HZ.out,rfl⟩,hb1⟩
 ·have hd:((lx.length:Int) == 0)=false:=by rw [beq_eq_false_iff_ne]; omega
  have HP:=Lib.hid (show 0<n by
   have:=HE.out.1.pos (by rintro rfl; simp at h0)
   have:=HE.out.2
   omega)
  go_wp2_with fail
  go_loopg [3,4] n.toNat (fun gk p v wr=>∃ (X:Int) (R:List Int) (m:Nat),IsNew w.heap.size wr p X/\X.toNat<=gk/\X<=n/\D10 R/\n=V10 R+p10 R.length*X/\(X=0->R.getLast?≠some 0) /\
      wr.ownsRow w.heap.size 5 1 v m ((asc R).map (Value.int .u8))/\Below w.heap.size w wr)
  case atStart=>exact ⟨n,[],0,HI.out,Nat.le_refl _,Int.le_refl _,D10.nil,by simp [V10,p10],by have:=HP.out; omega,⟨rfl,.inl ⟨rfl,rfl⟩⟩,hb1⟩
  case round =>
   obtain ⟨X,R,m,hi,hgk,hXn,hD,hn,hlast,ho,hb⟩:=hrel
   have HI2:=Lib.hid hi
   have n1:=hi.nonneg
   obtain ⟨ly,ry,cy,ey,_⟩:=hi
   have HE2:=Lib.hid (And.intro cy ey)
   have HQ:=Lib.hid (And.intro hD (And.intro hn hlast))
   have HO:=Lib.hid ho
   obtain ⟨a2,p2,rfl,g2,m2,_⟩:=Row.parts ry
   clear ry cy ey hD hn hlast ho
   by_cases hz:ly.length=0
   ·have HX0:=Lib.hid (show X=0 by
      have:ly=[]:=List.eq_nil_of_length_eq_zero hz
      rw [<-HE2.out.2,this]; rfl)
    have hd2:decide (0<(ly.length:Int))=false:=by rw [hz]; rfl
    have HC10:=Lib.hid (show C10 R/\V10 R=n by
     have h1:=HQ.out.2.1
     rw [HX0.out,Int.mul_zero] at h1
     exact ⟨⟨HQ.out.1,HQ.out.2.2 HX0.out⟩,by omega⟩)
    obtain ⟨av,cv,rfl,hcv,hcvm,hfv⟩:=own_form HO.out
    have HFV:=Lib.hid hfv
    have hRl:R.length=m:=by have:=HO.out.1; simpa [asc] using this
    have HRL:=Lib.hid hRl
    have hAL:(asc R).length=m:=by simp [asc]; exact hRl
    have HAL:=Lib.hid hAL
    have hm0:0<m:=by
     rcases Nat.eq_zero_or_pos m with h|h
     ·exfalso
      have:R=[]:=List.eq_nil_of_length_eq_zero (by omega)
      have h2:=HC10.out.2
      have h3:=HP.out
      rw [this] at h2
      simp [V10] at h2
      omega
     ·exact h
    obtain ⟨g,rfl,hgb⟩:=HFV.out hm0
    clear hfv hRl hAL HFV HI2 HE2
    go_wp2
    clear hz hd2
    go_loopg [8,9] m (fun gk i j wr=>∃ k:Nat,m-2*k<=gk/\2*k<=m+1/\i=.int .i64 k/\j=.int .i64 ((m:Int)-1-k) /\
        wr.ownsRow w.heap.size 5 1 (.slice (some ⟨g,0,none⟩) m cv) m ((turn (asc R) k).map (Value.int .u8))/\Below w.heap.size w wr)
    case atStart=>exact ⟨0,Nat.le_refl _,by omega,rfl,by simp,by rw [turn_zero]; exact HO.out,hb⟩
    case round =>
     clear hb
     obtain ⟨k,hgk2,hk2,rfl,rfl,ho,hb⟩:=hrel
     by_cases hlt:k<m-1-k
     ·obtain ⟨c1,f1⟩:=own_cell ho k (by omega)
      obtain ⟨c2,f2⟩:=own_cell ho (m-1-k) (by omega)
      rw [turn_at _ _ _ (by rw [HAL.out]; omega),HAL.out,if_neg (by omega)] at c1 c2
      have HT:=Lib.hid (turn_succ (asc R) k (by rw [HAL.out]; exact hlt))
      rw [HAL.out] at HT
      generalize (asc R)[k]?.getD 0=x at *
      generalize (asc R)[m-1-k]?.getD 0=y at *
      go_wp2
      go_region
      go_wp2
      go_roundg (m-2*(k+1))
      case measure=>omega
      case rel =>
       refine ⟨k+1,Nat.le_refl _,by omega,by go_num,by go_num,?_,((hb.setCell hgb _).setCell hgb _).drew⟩
       rw [<-HT.out]
       exact (own_store (own_store ho k y) (m-1-k) x).drew
     ·have hrev:=turn_end (asc R) k (by rw [HAL.out]; omega) (by rw [HAL.out]; exact hk2)
      rw [hrev] at ho
      have hconv:=conv_dec (cap:=cv) ho HC10.out.1.1 HRL.out
      clear hrev
      go_wp2
      go_ret
      exact ⟨decS R,rfl,.inr ⟨HP.out,R,HC10.out.1,HC10.out.2,rfl⟩,hb⟩
   ·have hd2:decide (0<(ly.length:Int))=true:=by simp; omega
    have hXp:0<X:=by
     have:=HE2.out.1.pos (by rintro rfl; simp at hz)
     have:=HE2.out.2
     omega
    have HNUM:=Lib.hid (IsNew.num HI2.out c (by have:=HLT.out; omega))
    go_wp2_with fail
    refine (divDigit _ c X 1000000000 wr HNUM.out hc (by omega) (by omega)).mono ?_
    rintro e w3 ⟨vq,rfl,hq,hb3⟩
    have HQ3:=Lib.hid hq
    have hq0:=hq.nonneg
    obtain ⟨lq,rq,cq,eq,_⟩:=hq
    have HEQ:=Lib.hid (And.intro cq eq)
    obtain ⟨a3,p3,rfl,g3,m3,_⟩:=Row.parts rq
    have HO3:=Lib.hid (own_below HO.out hb3)
    have hb4:=hb.trans (hb3.mono hb.size)
    have hb0:=hb
    have hr0:0<=X % 1000000000/\X % 1000000000<1000000000:=by omega
    have HX:=Lib.hid (show X=X % 1000000000+1000000000*(X / 1000000000)/\X / 1000000000<X by omega)
    generalize X % 1000000000=part0 at *
    generalize X / 1000000000=X1 at *
    have HLQ:=Lib.hid (show lq.length=0↔X1=0 by
     rw [<-HEQ.out.2,HEQ.out.1.zero,List.length_eq_zero_iff])
    clear rq cq eq hb hb3 HI2 HE2
    go_wp2
    clear hz hd2
    go_loopg [4,6,7] 9 (fun gk v p i wr=>∃ (k m:Nat) (part:Int) (R:List Int),k<=9/\9-k<=gk/\i=.int .i64 k/\p=.int .u32 part/\0<=part/\part<p10 (9-k)/\D10 R/\n=V10 R+p10 R.length*(part+p10 (9-k)*X1)/\(X1=0->part=0->R.getLast?≠some 0) /\
        wr.ownsRow w.heap.size 5 1 v m ((asc R).map (Value.int .u8))/\IsNew w.heap.size wr (.slice a3 lq.length p3) X1/\Below w.heap.size w wr)
    case atStart=>exact ⟨0,m,part0,R,by omega,by omega,rfl,rfl,by omega,by rw [p10_val.2]; omega,HQ.out.1,by rw [p10_val.2,<-HX.out.1]; exact HQ.out.2.1,by intro h1 h2; have:=HX.out; omega,HO3.out,HQ3.out.mono hb0.size,hb4⟩
    case round =>
     obtain ⟨k,m,part,R,hk,hgk3,rfl,rfl,hp0,hp1,hD,hN,hL,ho,hin,hb⟩:=hrel
     have HIN:=Lib.hid hin
     clear hin
     have HW:=Lib.hid (And.intro hD (And.intro hN hL))
     have HO:=Lib.hid ho
     have hRl:R.length=m:=by have:=ho.1; simpa [asc] using this
     have HRL:=Lib.hid hRl
     have hpb:part<1000000000:=by
      have h1:=p10_mono (show 9-k<=9 by omega)
      rw [p10_val.2] at h1
      omega
     have HPB:=Lib.hid hp1
     clear hD hN hL ho hRl hp1
     by_cases hc9:k<9/\(0<part∨0<X1)
     ·obtain ⟨hk9,hpos⟩:=hc9
      have hRb:R.length<=32*c:=p10_len (fmt_bound R part X1 k n HW.out.1 hp0 hq0 HW.out.2.1 hpos) HLT.out
      have hmb:m<=137438953472:=by have:=HRL.out; omega
      clear hRb
      have HST:=Lib.hid (fmt_step R part X1 k hk9 n HW.out.2.1)
      have hd9:decide ((k:Int)<9)=true:=by simp; omega
      have hAL:(asc R).length<=137438953472:=by simp [asc]; have:=HRL.out; omega
      have HNX:=Lib.hid (show part / 10<p10 (9-(k+1)) by
       have h1:=HPB.out
       obtain ⟨t,ht⟩:∃ t,9-k=t+1:=⟨9-k-1,by omega⟩
       rw [ht,p10] at h1
       rw [show 9-(k+1)=t by omega]
       omega)
      have hgs:w.heap.size<=wr.heap.size:=hb.size
      have hmod:0<=part % 10/\part % 10<10:=by omega
      have HROW:=Lib.hid (Row.new wr [48+part % 10] 5 (0,0) #[.int .u8 (48+part % 10)] 1 rfl rfl (by simp [maxLen]) (by intro n hn; rw [List.mem_singleton.1 hn]; exact wf8 (by omega)))
      have hw1:part / 10<part∨part=0:=by omega
      by_cases hpp:0<part
      ·have hdp:decide (0<part)=true:=by simp; omega
       go_wp2_with (at_builtin; refine app_row2 rfl (.tmp 37) (.tmp 42) 80 rfl w.heap.size 5 .u8 1 Try.underlying80 info8 _ m (asc R) rfl (HO.out.alloc _) _ [48+part % 10] rfl HROW.out (by simp [maxLen]; omega) (by simp; omega) (by simp; omega) ?_; intro v' w' ho' hg' hb')
       have HIN':=Lib.hid ((HIN.out.keep ((Below.refl _ wr).alloc (Nat.le_refl _) _)).other (HO.out.alloc _) (by decide) hg')
       rw [asc_snoc] at ho'
       have HO':=Lib.hid ho'
       clear ho' hg'
       go_roundg (9-(k+1))
       case measure=>omega
       case rel=>exact ⟨k+1,_,part / 10,R++[part % 10],by omega,Nat.le_refl _,by go_num,rfl,by omega,HNX.out,HW.out.1.snoc hmod,HST.out,fun h1 h2=>fmt_last R _ (by omega),HO'.out,HIN'.out,(hb.alloc hb.size _).trans hb'⟩
      ·obtain rfl:part=0:=by omega
       have hX1p:0<X1:=by omega
       have hlp0:0<lq.length:=by
        have:=HLQ.out
        omega
       have hlp:decide (0<(lq.length:Int))=true:=by rw [decide_eq_true_eq]; omega
       have hlp2:decide (0<lq.length)=true:=by rw [decide_eq_true_eq]; omega
       have hdp:decide (0<(0:Int))=false:=rfl
       go_wp2_with (at_builtin; refine app_row2 rfl (.tmp 37) (.tmp 42) 80 rfl w.heap.size 5 .u8 1 Try.underlying80 info8 _ m (asc R) rfl (HO.out.alloc _) _ [48+0 % 10] rfl HROW.out (by simp [maxLen]; omega) (by simp; omega) (by simp; omega) ?_; intro v' w' ho' hg' hb')
       have HIN':=Lib.hid ((HIN.out.keep ((Below.refl _ wr).alloc (Nat.le_refl _) _)).other (HO.out.alloc _) (by decide) hg')
       rw [asc_snoc] at ho'
       have HO':=Lib.hid ho'
       clear ho' hg'
       go_roundg (9-(k+1))
       case measure=>omega
       case rel=>exact ⟨k+1,_,0 / 10,R++[0 % 10],by omega,Nat.le_refl _,by go_num,rfl,by omega,HNX.out,HW.out.1.snoc hmod,HST.out,fun h1 h2=>by omega,HO'.out,HIN'.out,(hb.alloc hb.size _).trans hb'⟩
     ·have HFN:=Lib.hid (show n=V10 R+p10 R.length*X1/\(X1=0->R.getLast?≠some 0) by
        have h1:=HW.out.2.1
        have h2:=HPB.out
        by_cases hk9:k<9
        ·have hz:part=0/\X1=0:=by omega
         refine ⟨?_,fun h=>HW.out.2.2 h hz.1⟩
         rw [hz.1,hz.2] at h1
         rw [hz.2]
         simp only [Int.mul_zero,Int.add_zero] at h1 ⊢
         exact h1
        ·obtain rfl:k=9:=by omega
         rw [Nat.sub_self,p10] at h1 h2
         obtain rfl:part=0:=by omega
         rw [Int.one_mul,Int.zero_add] at h1
         exact ⟨h1,fun h=>HW.out.2.2 h rfl⟩)
      by_cases hk9:k<9
      ·have hd9:decide ((k:Int)<9)=true:=by simp; omega
       have hdp:decide (0<part)=false:=by simp; omega
       have hlp0:lq.length=0:=by
        have:=HLQ.out
        omega
       have hlp:decide (0<(lq.length:Int))=false:=by rw [decide_eq_false_iff_not]; omega
       have hlp2:decide (0<lq.length)=false:=by rw [decide_eq_false_iff_not]; omega
       clear hlp0
       clear hc9
       go_wp2
       go_roundg X1.toNat
       case measure=>have:=HX.out; omega
       case rel=>exact ⟨X1,R,m,HIN.out,Nat.le_refl _,by have:=HX.out; omega,HW.out.1,HFN.out.1,HFN.out.2,HO.out,hb⟩
      ·have hd9:decide ((k:Int)<9)=false:=by simp; omega
       clear hc9
       go_wp2
       go_roundg X1.toNat
       case measure=>have:=HX.out; omega
       case rel=>exact ⟨X1,R,m,HIN.out,Nat.le_refl _,by have:=HX.out; omega,HW.out.1,HFN.out.1,HFN.out.2,HO.out,hb⟩
end Go.Proofs.Ytbokoblnehgkaaa.Nt
