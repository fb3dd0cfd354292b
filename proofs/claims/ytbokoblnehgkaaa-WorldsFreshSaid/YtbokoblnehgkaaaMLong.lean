/-
  Long, Div, in one text: see the remarks at the head of each part.
-/
import Derived.Test.YtbokoblnehgkaaaMShift
import Derived.Test.YtbokoblnehgkaaaMPlain
import Derived.StillTailTactics
import Derived.Deep.LoopGhost
namespace Go.Proofs.Ytbokoblnehgkaaa.Nt
open Go.ChangeShapes Go.WideShapes Go.ChangeAt Go.RowKit B
set_option linter.unusedVariables false
theorem IsNew.keep {base:Nat} {w w':World} {v:Value} {n:Int} (h:IsNew base w v n) (hb:Below w.heap.size w w'):IsNew base w' v n:=by
 obtain ⟨l,h1,h2,h3,h4⟩:=h
 exact ⟨l,h1.keep hb,h2,h3,h4.keep hb⟩
theorem IsNew.other {e:TypeId} {base base':Nat} {w w':World} {v u:Value} {size m:Nat} {xs:List Value} {n:Int} (h:IsNew base w v n) (ho:w.ownsRow base' e size u m xs) (hne:e≠42) (hg:w.grownBy w' u.ownBlock):IsNew base w' v n:=by
 obtain ⟨l,h1,h2,h3,h4⟩:=h
 obtain ⟨g1,g2⟩:=h4.other ho hne hg
 exact ⟨l,h1.of_heap g2,h2,h3,g1⟩
theorem IsNew.mono {base base':Nat} {w:World} {v:Value} {n:Int} (h:IsNew base w v n) (hb:base'<=base):IsNew base' w v n:=by
 obtain ⟨l,h1,h2,h3,h4⟩:=h
 exact ⟨l,h1,h2,h3,h4.mono hb⟩
def RetQR (base:Nat) (w:World) (q r:Int) (e:Ending) (w':World):Prop :=
 ∃ vq vr,e=.returned (.tuple #[vq,vr])/\IsNew base w' vq q/\IsNew base w' vr r/\Below base w w'
theorem top_ge {V:List Int} (hV:Ds V) (k:Nat) (hk:V.length=k+1) (c:Int) (h:c*Bp k<=N V):c<=V[k]?.getD 0:=by
 have e:=take_drop_N V k (by omega)
 have e1:N (V.drop k)=V[k]?.getD 0:=by rw [N_drop (by omega),List.drop_eq_nil_of_le (by omega)]; simp [N]
 have h2:=N_lt (hV.take k)
 have h3:(V.take k).length=k:=by simp; omega
 rw [h3] at h2
 rw [e1] at e
 rcases Int.lt_or_le (V[k]?.getD 0) c with hh|hh
 ·exfalso
  have:=Int.mul_le_mul_of_nonneg_right (show V[k]?.getD 0+1<=c by omega) (show 0<=Bp k by have:=Bp_pos k; omega)
  rw [Int.add_mul,Int.one_mul,Int.mul_comm] at this
  omega
 ·exact hh
theorem norm_math {l2:List Int} (C2:Canon l2) (n:Nat) (hn:l2.length=n+2):∃ s:Nat,s<32/\(32:Int)-(Lib.bitLen (l2[n+1]?.getD 0).toNat:Int)=(s:Int) /\
    N l2*2 ^ s<Bp (n+2)/\2147483648*Bp (n+1)<=N l2*2 ^ s/\0<=l2[n+1]?.getD 0/\l2[n+1]?.getD 0<=4294967295:=by
 have b:=blen_digits C2 (n+1) (by omega)
 have hd:=C2.1.at (n+1)
 have t:=bitLen_top _ b.2 hd.2
 have sp:=blen_spec (C2.pos (by rintro rfl; simp at hn))
 rw [b.1] at sp
 generalize Lib.bitLen (l2[n+1]?.getD 0).toNat=T at *
 refine ⟨32-T,by omega,by omega,?_,?_,hd.1,by omega⟩
 ·have:=Int.mul_lt_mul_of_pos_right sp.2.1 (show (0:Int)<2 ^ (32-T) by have:=two_pos (32-T); omega)
  rw [<-Int.pow_add,show 32*(n+1)+T+(32-T)=32*(n+2) by omega,<-Bp_pow] at this
  exact this
 ·have:=Int.mul_le_mul_of_nonneg_right sp.1 (show (0:Int)<=2 ^ (32-T) by have:=two_pos (32-T); omega)
  rw [<-Int.pow_add,show 32*(n+1)+T-1+(32-T)=31+32*(n+1) by omega,Int.pow_add,<-Bp_pow] at this
  exact this
theorem start_lt {l1 l2:List Int} (D1:Ds l1) (n s K:Nat) (hs:s<32) (hK:n+1+K=l1.length) (h:2147483648*Bp (n+1)<=N l2*2 ^ s):N l1*2 ^ s<N l2*2 ^ s*Bp K/\N l1*2 ^ s<Bp (l1.length+1):=by
 have h1:=N_lt D1
 have hp:=pow_bd hs
 have a1:=Int.mul_lt_mul_of_pos_right h1 (show (0:Int)<2 ^ s by omega)
 have a2:=Int.mul_le_mul_of_nonneg_left hp.2 (show 0<=Bp l1.length by have:=Bp_pos l1.length; omega)
 have a3:=Int.mul_le_mul_of_nonneg_right h (show 0<=Bp K by have:=Bp_pos K; omega)
 rw [Int.mul_assoc,<-Bp_add,hK] at a3
 have:=Bp_pos l1.length
 rw [Bp]
 omega
theorem step_eq (q g b v r:Int):q*(4294967296*b)*v+r=(g+4294967296*q)*b*v+(r-b*(g*v)):=by
 have e1:q*(4294967296*b)*v=4294967296*(q*b*v):=by rw [Int.mul_left_comm q,Int.mul_assoc]
 have e2:(g+4294967296*q)*b*v=b*(g*v)+4294967296*(q*b*v):=by
  rw [Int.add_mul,Int.add_mul,Int.mul_assoc 4294967296,Int.mul_assoc 4294967296,Int.mul_assoc g b,Int.mul_left_comm g b]
 rw [e1,e2]; omega
theorem fin_math {L V qs l1 l2:List Int} {s la n:Nat} (hs:s<32) (hL:Ds L) (h:Ds qs/\N L<N V*Bp 0/\N l1*2 ^ s=N qs*Bp 0*N V+N L) (hV:0<N V) (hVd:Ds V) (hLl:L.length=la+1) (hVl:V.length=n+2) (hVN:N V=N l2*2 ^ s) (hn:n+2<=la) :
    N qs=N l1 / N l2/\N ((L.drop 0).take (n+2)) / 2 ^ s=N l1 % N l2:=by
 obtain ⟨_,h1,h2⟩:=h
 simp only [Bp,Int.mul_one] at h1 h2
 have hp:=two_pos s
 have h0:=N_nonneg hL
 have u:=(Int.ediv_emod_unique (a:=N l1*2 ^ s) (b:=N V) (r:=N L) (q:=N qs) hV).2 ⟨by rw [h2,Int.mul_comm (N V)]; omega,h0,h1⟩
 rw [hVN,Int.mul_ediv_mul_of_pos_left _ _ (by omega)] at u
 rw [emod_mul _ _ (by omega)] at u
 refine ⟨u.1.symm,?_⟩
 have hlow:N (L.take (n+2))=N L:=by
  have e:=take_drop_N L (n+2) (by omega)
  have z:=N_nonneg (hL.drop (n+2))
  have y:=N_nonneg (hL.take (n+2))
  have v:=N_lt hVd
  rw [hVl] at v
  rcases Int.lt_or_eq_of_le z with z1|z1
  ·exfalso
   have:=Int.mul_le_mul_of_nonneg_left (show 1<=N (L.drop (n+2)) by omega) (show 0<=Bp (n+2) by have:=Bp_pos (n+2); omega)
   rw [Int.mul_one] at this
   omega
  ·rw [<-z1,Int.mul_zero] at e; omega
 rw [List.drop_zero,hlow,<-u.2,Int.mul_ediv_cancel _ (by omega)]
set_option maxHeartbeats 2000000 in
theorem longDiv (v1 v2:Value) (l1 l2:List Int) (n:Nat) (w:World) (r1:Row .u32 w v1 l1) (r2:Row .u32 w v2 l2) (C1:Canon l1) (C2:Canon l2) (hn:l2.length=n+2) (hle:l2.length<=l1.length) (hl:l1.length<=4294967296) :
    Calls Try.prog 61 #[v1,v2] w (RetQR w.heap.size w (N l1 / N l2) (N l1 % N l2)):=by
 obtain ⟨s,hs,es,hfit2,hbig,hx0,hx1⟩:=norm_math C2 n hn
 obtain ⟨K,hK⟩:∃ K,n+1+K=l1.length:=⟨l1.length-(n+1),by omega⟩
 have hst:=start_lt C1.1 n s K hs hK hbig
 have hKla:n+2<=l1.length/\K<=l1.length/\n+1+K=l1.length:=by omega
 clear hle hK
 have HR1:=Lib.hid r1
 have HR2:=Lib.hid r2
 have HC:=Lib.hid (And.intro C1 C2)
 have HS:=Lib.hid (And.intro hfit2 (And.intro hbig hst))
 obtain ⟨a1,p1,rfl,g1,m1,_⟩:=Row.parts r1
 obtain ⟨a2,p2,rfl,g2,m2,c2⟩:=Row.parts r2
 obtain ⟨b2,o2,rfl,q2,_⟩:=c2 (n+1) (by omega)
 clear c2 r1 r2 C1 C2 hfit2 hbig hst
 generalize l2[n+1]?.getD 0=x at *
 have HES:=Lib.hid es
 clear es
 rw [hn] at g2 HR2 ⊢
 generalize hla:l1.length=la at *
 have HLN:=Lib.hid (And.intro hla hn)
 clear hla hn
 go_enter Try.func61,Try.ntmps61
 go_wp2_with fail
 refine (Try.bits_LeadingZeros32 x w hx0 hx1).mono ?_
 rintro e w' ⟨rfl,hw'⟩
 obtain rfl:=hw'.symm
 rw [HES.out]
 go_wp2_with fail
 rw [show ((n:Int)+2)=((n+2:Nat):Int) by omega]
 refine (shiftLeft _ l2 s (n+2) w HR2.out (by rw [HLN.out.2]; omega) hs (.inl HLN.out.2.symm) HS.out.1).mono ?_
 rintro e w1 ⟨V,rfl,DV,NV,hoV,hbV⟩
 have HV:=Lib.hid (And.intro DV NV)
 have HOV:=Lib.hid hoV
 clear DV NV hoV
 go_wp2_with fail
 rw [show ((la:Int)+1)=((la+1:Nat):Int) by omega]
 refine (shiftLeft _ l1 s (la+1) w1 (HR1.out.keep hbV) (by rw [HLN.out.1]; omega) hs (.inr (by rw [HLN.out.1])) (by have:=HS.out.2.2.2; exact this)).mono ?_
 rintro e w2 ⟨L0,rfl,DL,NL,hoL,hbL⟩
 have HL0:=Lib.hid (And.intro DL NL)
 have HOL:=Lib.hid hoL
 clear DL NL hoL
 have HKE:=Lib.hid (show (la:Int)-((n:Int)+2)+1=((K:Nat):Int) by omega)
 go_wp2_with (at_make; refine make_row rfl (.tmp 35) (.tmp 35) 39 rfl w2.heap.size 42 .u32 4 Try.underlying39 info32 _ K rfl rfl HKE.out (by omega) (by unfold maxLen; omega) (Nat.le_refl _) ?_; intro w3 ho3 hb3)
 have hlt2:=own_lt HOL.out
 have HOL3:=Lib.hid (own_other HOL.out (hb3.block _ hlt2.1))
 have HFV:Hid (∀ wr,Below w1.heap.size w1 wr->Firm w1.heap.size wr (.slice (some ⟨w.heap.size,0,none⟩) (n+2) (n+2)) V):=fun wr hb w' hb' =>
  (Row.ofOwn HOV.out (fun d hd=>wf32 (HV.out.1 d hd))).keep (hb.trans hb')
 have hVlen:V.length=n+2:=by have:=HOV.out.1; simpa using this
 have HVL:=Lib.hid hVlen
 have HVT:=Lib.hid (show 2147483648<=V[n+1]?.getD 0/\0<N V by
  have h1:=HS.out.2.1
  rw [<-HV.out.2] at h1
  refine ⟨top_ge HV.out.1 (n+1) (by omega) _ h1,?_⟩
  have:=Bp_pos (n+1)
  omega)
 clear hVlen HES
 go_loopw [10] (fun t wr=>∃ (k:Nat) (L qs:List Int),k<=K/\t=.int .i64 ((k:Int)-1)/\Hid (Ds L/\Ds qs/\N L<N V*Bp k/\N l1*2 ^ s=N qs*Bp k*N V+N L)/\OwnN w1.heap.size w1.heap.size (la+1) wr L /\
     wr.ownsRow w2.heap.size 42 1 (.slice (some ⟨w2.heap.size,0,none⟩) K K) K ((List.replicate k 0++qs).map (Value.int .u32))/\Below w1.heap.size w1 wr) (fun t _=>(intOf t+1).toNat)
 case atStart =>
  refine ⟨K,L0,[],Nat.le_refl _,?_,⟨HL0.out.1,Ds.nil,?_,?_⟩,HOL3.out,by rw [List.append_nil]; exact ho3,hbL.trans (hb3.mono hbL.size)⟩
  ·rw [show (la:Int)-((n:Int)+2)=(K:Int)-1 by omega]
  ·rw [HL0.out.2,HV.out.2]; exact HS.out.2.2.1
  ·rw [HL0.out.2]; simp [N]
 case round =>
  obtain ⟨k,L,qs,hk,rfl,hp,hoL,hoQ,hb⟩:=hrel
  have HPP:=Lib.hid hp.out
  have hLlen:L.length=la+1:=by have:=hoL.1; simpa using this
  have HLL:=Lib.hid hLlen
  clear hLlen
  rcases k with _|j
  ·have hfin:=fin_math (l1:=l1) (l2:=l2) hs HPP.out.1 HPP.out.2 HVT.out.2 HV.out.1 HLL.out HVL.out HV.out.2 (by omega)
   have HFIN:=Lib.hid hfin
   have HQD:=Lib.hid HPP.out.2.1
   rw [List.replicate_zero,List.nil_append] at hoQ
   have HOQ:=Lib.hid hoQ.drew
   have HRW:=Lib.hid (own_win hoL.drew (fun d hd=>wf32 (HPP.out.1 d hd)) 0 (n+2) (la+1) (by omega) (by omega) (by unfold maxLen; omega))
   have HRL:=Lib.hid (show ((L.drop 0).take (n+2)).length<=4294967296 by simp; omega)
   have hbd:Below w.heap.size w wr.drew:=(hbV.trans (hb.mono hbV.size)).drew
   have hw1:=hbV.size
   have hw2:=hbL.size
   clear hfin hp hoL hoQ ho3 hb3 HPP HLL
   go_wp2_with fail
   go_region_with (first
    | (go_at_call 42; refine (trimN HOQ.out HQD.out).mono ?_; rintro e w' ⟨vq,rfl,hq,rfl⟩)
    | (go_at_call 80; refine (shiftRight _ _ s _ HRW.out HRL.out hs).mono ?_; rintro e w' ⟨vr,rfl,hr,hbr⟩))
   all_goals
    go_wp2
    go_ret2
    rw [HFIN.out.1] at hq
    rw [HFIN.out.2] at hr
    exact ⟨vq,vr,rfl,(hq.keep hbr).mono (by omega),hr.mono hbd.size,hbd.trans (hbr.mono hbd.size)⟩
  ·have hfirm:=HFV.out wr hb
   have HFM:=Lib.hid hfirm
   have HOWN:=Lib.hid hoL
   have HOQ:=Lib.hid hoQ
   clear hfirm hp hoL hoQ ho3 hb3
   have hj1:j+(n+2)+1<=la+1:=by omega
   have HW1:=Lib.hid (win_lt HPP.out.1 HV.out.1 (by rw [HLL.out,HVL.out]; exact hj1) HPP.out.2.2.1)
   have HWL:=Lib.hid (show ((L.drop j).take (n+3)).length=n+3 by simp; have:=HLL.out; omega)
   rw [HVL.out] at HW1
   go_wp2_with fail
   rw [show j+(n+2)+1-j=n+3 by omega]
   refine (guess _ _ ((L.drop j).take (n+3)) V n wr (own_win HOWN.out (fun d hd=>wf32 (HPP.out.1 d hd)) j (n+3) (la+1-j) (by omega) (by omega) (by unfold maxLen; omega)) (HFM.out wr (Below.refl _ _)) HWL.out HVL.out (by omega) HVT.out.1 HW1.out).mono ?_
   rintro e wg ⟨g,rfl,hg0,hg1,hq1,hq2,hbg⟩
   have HQ:=Lib.hid (And.intro hq1 hq2)
   have hL2:=own_lt HOWN.out
   have hQ2:=own_lt HOQ.out
   have HOWN2:=Lib.hid (own_other HOWN.out (hbg.block _ hL2.1))
   have HOQ2:=Lib.hid (own_other HOQ.out (hbg.block _ hQ2.1))
   have hb2:=hb.trans (hbg.mono hb.size)
   have HFM2:=Lib.hid (HFV.out wg hb2)
   have hgs:=hb2.size
   have hne:w1.heap.size≠w2.heap.size:=by omega
   clear hq1 hq2 HOWN HOQ HFM hb
   go_wp2_with fail
   rw [show j+(n+2)+1-j=V.length+1 by rw [HVL.out]; omega]
   refine (subMul _ w1.heap.size w1.heap.size (la+1) (la+1-j) L V j g wg HOWN2.out HFM2.out (Nat.le_refl _) hgs HPP.out.1 (by rw [HVL.out]; omega) (by omega) (by rw [HVL.out]; omega) ⟨hg0,hg1⟩).mono ?_
   rintro e ws ⟨b,rfl,hF,hoS,hon⟩
   have HOQ3:=Lib.hid (own_other HOQ2.out (hon.block _ (Nat.lt_of_lt_of_le hQ2.1 hbg.size) (by simp; omega)))
   have hb3:=hb2.trans (hon.below hgs (Nat.le_refl _))
   cases b
   ·have HX:=Lib.hid (sub_exact HPP.out.1 HV.out.1 (by rw [HLL.out,HVL.out]; exact hj1) HVT.out.2 HPP.out.2.2.1 (by rw [HVL.out]; exact HQ.out.1) hF)
    rw [HVL.out] at HX
    have HNX:=Lib.hid (next_lt HPP.out.1 HV.out.1 (by rw [HLL.out,HVL.out]; exact hj1) HVT.out.2 HPP.out.2.2.1)
    rw [HVL.out,<-HX.out.1] at HNX
    have HOS:=Lib.hid hoS
    clear hoS hF
    obtain ⟨hce,hfz⟩:=own_cell HOQ3.out j (by omega)
    go_wp2
    refine ⟨⟨j,L.take j++smL g (L.drop j) V 0 0,g::qs,by omega,by go_num,⟨(HPP.out.1.take j).app (smL_ds g (L.drop j) V 0 0 (HPP.out.1.drop j)),Ds.cons ⟨hg0,hg1⟩ HPP.out.2.1,?_,?_⟩,?_,?_,hb3.setCell (p:=⟨w2.heap.size,j,none⟩) hbL.size _⟩,by simp [intOf]⟩
    ·rw [HX.out.2]; exact HNX.out
    ·rw [HX.out.2,HPP.out.2.2.2,N,Bp]
     exact step_eq _ _ _ _ _
    ·exact own_other HOS.out (Below.heap_setCell _ _ _ _ (by simpa using hne))
    ·have:=own_store HOQ3.out j g
     rwa [set_front rfl] at this
   ·have HX:=Lib.hid (sub_mend HPP.out.1 HV.out.1 (by rw [HLL.out,HVL.out]; exact hj1) HVT.out.2 HPP.out.2.2.1 (by rw [HVL.out]; exact HQ.out.2) hF)
    rw [HVL.out] at HX
    have HNX:=Lib.hid (next_lt HPP.out.1 HV.out.1 (by rw [HLL.out,HVL.out]; exact hj1) HVT.out.2 HPP.out.2.2.1)
    rw [HVL.out,<-HX.out.1] at HNX
    have hg2:1<=g:=by
     have h1:=HX.out.1
     have h2:0<=N ((L.drop j).take (n+2+1)) / N V:=Int.ediv_nonneg (N_nonneg ((HPP.out.1.drop j).take _)) (by have:=HVT.out.2; omega)
     omega
    have HD1:=Lib.hid ((HPP.out.1.take j).app (smL_ds g (L.drop j) V 0 0 (HPP.out.1.drop j)))
    have HFM3:=Lib.hid (HFV.out ws hb3)
    clear hF
    go_wp2_with fail
    rw [show j+(n+2)+1-j=V.length+1 by rw [HVL.out]; omega]
    refine (addBack _ w1.heap.size w1.heap.size (la+1) (la+1-j) _ V j ws hoS HFM3.out (Nat.le_refl _) hb3.size HD1.out (by rw [HVL.out]; omega) (by omega) (by rw [HVL.out]; omega)).mono ?_
    rintro e wa ⟨rfl,hoA,hon2⟩
    have HOA:=Lib.hid hoA
    have HOQ4:=Lib.hid (own_other HOQ3.out (hon2.block _ (Nat.lt_of_lt_of_le (Nat.lt_of_lt_of_le hQ2.1 hbg.size) hon.size) (by simp; omega)))
    have hb4:=hb3.trans (hon2.below hb3.size (Nat.le_refl _))
    clear hoA hoS
    obtain ⟨hce,hfz⟩:=own_cell HOQ4.out j (by omega)
    have HDA:=Lib.hid ((HD1.out.take j).app (abL_ds ((L.take j++smL g (L.drop j) V 0 0).drop j) V 0 (HD1.out.drop j)))
    generalize (L.take j++smL g (L.drop j) V 0 0).take j++abL ((L.take j++smL g (L.drop j) V 0 0).drop j) V 0=L2 at *
    go_wp2
    refine ⟨⟨j,L2,(g-1)::qs,by omega,by go_num,⟨HDA.out,Ds.cons ⟨by omega,by omega⟩ HPP.out.2.1,?_,?_⟩,?_,?_,hb4.setCell (p:=⟨w2.heap.size,j,none⟩) hbL.size _⟩,by simp [intOf]⟩
    ·rw [HX.out.2]; exact HNX.out
    ·rw [HX.out.2,HPP.out.2.2.2,N,Bp]
     exact step_eq _ _ _ _ _
    ·exact own_other HOA.out (Below.heap_setCell _ _ _ _ (by simpa using hne))
    ·have:=own_store HOQ4.out j (g-1)
     rwa [set_front rfl] at this
end Go.Proofs.Ytbokoblnehgkaaa.Nt
namespace Go.Proofs.Ytbokoblnehgkaaa.Nt
open Go.ChangeShapes Go.WideShapes Go.ChangeAt Go.RowKit B
set_option linter.unusedVariables false
def RetDM (base:Nat) (w:World) (x y:Int) (e:Ending) (w':World):Prop :=
 ∃ vq vr,e=.returned (.tuple #[vq,vr,.bool (decide (y≠0))])/\IsNew base w' vq (x / y)/\IsNew base w' vr (if y=0 then 0 else x % y)/\Below base w w'
set_option maxHeartbeats 1000000 in
theorem divMod (va vb:Value) (c:Nat) (x y:Int) (w:World) (ha:Num w va c x) (hb:Num w vb c y) (hc:c<=4294967296) :
    Calls Try.prog 39 #[va,vb] w (RetDM w.heap.size w x y):=by
 have HX:=Lib.hid ha.nonneg
 have HY:=Lib.hid hb.nonneg
 obtain ⟨la,hra,hla,rfl⟩:=ha
 obtain ⟨lb,hrb,hlb,rfl⟩:=hb
 have HA:=Lib.hid hra
 have HB:=Lib.hid hrb
 clear hra hrb
 go_enter Try.func39,Try.ntmps39
 go_wp2_with fail
 refine (trimR va la w HA.out).mono ?_
 rintro e w' ⟨v1,l1,rfl,r1,N1,C1,L1,_,rfl⟩
 go_wp2_with fail
 refine (trimR vb lb w HB.out).mono ?_
 rintro e w' ⟨v2,l2,rfl,r2,N2,C2,L2,_,rfl⟩
 clear HA HB
 have HN:=Lib.hid (And.intro N1 N2)
 have HC:=Lib.hid (And.intro C1 C2)
 have HR:=Lib.hid (And.intro r1 r2)
 obtain ⟨a2,p2,rfl,g2,m2,c2⟩:=Row.parts r2
 have HC2:=Lib.hid c2
 clear r1 r2 N1 N2 C1 C2 c2
 by_cases h0:l2.length=0
 ·have hz:((l2.length:Int) == 0)=true:=by rw [h0]; rfl
  have HZ:=Lib.hid (show N lb=0 by
   have:l2=[]:=List.eq_nil_of_length_eq_zero h0
   rw [<-HN.out.2,this]; rfl)
  go_wp2_with fail
  go_ret3
  exact ⟨.slice none 0 0,.slice none 0 0,by rw [HZ.out]; rfl,by rw [HZ.out,Int.ediv_zero]; exact IsNew.nil _ _,by rw [if_pos HZ.out]; exact IsNew.nil _ _,Below.refl _ _⟩
 have hz:((l2.length:Int) == 0)=false:=by rw [beq_eq_false_iff_ne]; omega
 have hpos:0<N l2:=HC.out.2.pos (by rintro rfl; simp at h0)
 have HNZ:=Lib.hid (show N lb≠0 by rw [<-HN.out.2]; omega)
 have HPOS:=Lib.hid hpos
 clear hpos
 go_wp2_with fail
 refine (cmp v1 _ c (N l1) (N l2) w ⟨l1,HR.out.1,by omega,rfl⟩ ⟨l2,HR.out.2,by omega,rfl⟩ hc).mono ?_
 rintro e w0 ⟨rfl,hb0⟩
 by_cases hlt:N l1<N l2
 ·have e1:cmpI (N l1) (N l2) = -1:=by rw [cmpI,if_pos hlt]
  rw [e1]
  have HF:=Lib.hid (show N la / N lb=0/\N la % N lb=N la by
   rw [<-HN.out.1,<-HN.out.2]
   have:=N_nonneg HC.out.1.1
   exact ⟨Int.ediv_eq_zero_of_lt this hlt,Int.emod_eq_of_lt this hlt⟩)
  clear hlt e1
  go_wp2_with fail
  refine (normalize v1 c (N l1) w0 ⟨l1,HR.out.1.keep hb0,by omega,rfl⟩ hc).mono ?_
  rintro e w1 ⟨v,rfl,hn,hb1⟩
  rw [HN.out.1] at hn
  go_wp2_with fail
  go_ret3
  exact ⟨.slice none 0 0,v,by rw [decide_eq_true HNZ.out]; rfl,by rw [HF.out.1]; exact IsNew.nil _ _,by rw [if_neg HNZ.out,HF.out.2]; exact hn.mono hb0.size,hb0.trans (hb1.mono hb0.size)⟩
 ·have hle:¬cmpI (N l1) (N l2)<0:=by rw [cmpI,if_neg hlt]; split<;>omega
  have hll:l2.length<=l1.length:=by
   rcases Nat.lt_or_ge l1.length l2.length with h|h
   ·have:=len_lt HC.out.1 HC.out.2 h; omega
   ·exact h
  generalize cmpI (N l1) (N l2)=r at *
  clear hlt
  rcases hm:l2.length with _|_|n
  ·omega
  ·have h1:((1:Nat):Int) == 1:=rfl
   obtain ⟨b2,o2,rfl,q0,wd⟩:=HC2.out 0 (by omega)
   have q0:=cell_later hb0 q0
   have dd:=wf_u32 wd
   have HD:=Lib.hid (show l2[0]?.getD 0=N l2 by
    rcases l2 with _|⟨y,_|⟨z,l⟩⟩
    ·simp at hm
    ·simp [N]
    ·simp at hm)
   have hdp:(0:Int)<l2[0]?.getD 0:=by rw [HD.out]; exact HPOS.out
   generalize l2[0]?.getD 0=d at *
   rw [hm] at HR hz
   simp only [Nat.zero_add,Nat.add_zero] at q0 HR hz ⊢
   clear wd
   go_wp2_with fail
   refine (divDigit v1 c (N l1) d w0 ⟨l1,HR.out.1.keep hb0,by omega,rfl⟩ hc hdp dd.2).mono ?_
   rintro e w1 ⟨vq,rfl,hq,hb1⟩
   rw [HD.out,HN.out.1,HN.out.2] at hq
   have hrb:0<=N l1 % d/\N l1 % d<d:=⟨Int.emod_nonneg _ (by omega),Int.emod_lt_of_pos _ hdp⟩
   have HRD:=Lib.hid (show N l1 % d=N la % N lb by rw [HD.out,HN.out.1,HN.out.2])
   generalize N l1 % d=rd at *
   obtain ⟨hr0,hr1⟩:=hrb
   have hr2:rd<18446744073709551616:=by omega
   go_wp2_with fail
   refine (fromUint64 rd w1 hr0 hr2).mono ?_
   rintro e w2 ⟨vr,rfl,hr,hb2⟩
   rw [HRD.out] at hr
   go_wp2_with fail
   go_ret3
   exact ⟨vq,vr,by rw [decide_eq_true HNZ.out]; rfl,(hq.keep hb2).mono hb0.size,by rw [if_neg HNZ.out]; exact hr.mono (Nat.le_trans hb0.size hb1.size),(hb0.trans (hb1.mono hb0.size)).trans (hb2.mono (Nat.le_trans hb0.size hb1.size))⟩
  ·have h1:(((n+1+1:Nat):Int) == 1)=false:=by rw [beq_eq_false_iff_ne]; omega
   have HM:=Lib.hid hm
   rw [hm] at HR hz
   rw [hm] at hll
   have HLL:=Lib.hid hll
   clear hm hll
   go_wp2_with fail
   refine (longDiv v1 _ l1 l2 n w0 (HR.out.1.keep hb0) (HR.out.2.keep hb0) HC.out.1 HC.out.2 HM.out (by rw [HM.out]; exact HLL.out) (by omega)).mono ?_
   rintro e w1 ⟨vq,vr,rfl,hq,hr,hb1⟩
   rw [HN.out.1,HN.out.2] at hq hr
   go_wp2_with fail
   go_ret3
   exact ⟨vq,vr,by rw [decide_eq_true HNZ.out]; rfl,hq.mono hb0.size,by rw [if_neg HNZ.out]; exact hr.mono hb0.size,hb0.trans (hb1.mono hb0.size)⟩
def gcdI (x y:Int):Int:=(Nat.gcd x.toNat y.toNat:Int)
theorem gcdI_step {x y:Int} (hx:0<=x) (hy:0<=y):gcdI x y=gcdI y (x % y):=by
 obtain ⟨a,rfl⟩:=Int.eq_ofNat_of_zero_le hx
 obtain ⟨b,rfl⟩:=Int.eq_ofNat_of_zero_le hy
 unfold gcdI
 have:((a:Int) % (b:Int)).toNat=a % b:=by omega
 rw [this,Int.toNat_natCast,Int.toNat_natCast,Nat.gcd_comm a b,Nat.gcd_rec b a,Nat.gcd_comm]
theorem gcdI_zero {x:Int} (hx:0<=x):gcdI x 0=x:=by
 obtain ⟨a,rfl⟩:=Int.eq_ofNat_of_zero_le hx
 simp [gcdI]
set_option maxHeartbeats 1000000 in
theorem gcdSmall (va vb:Value) (c:Nat) (x y:Int) (w:World) (ha:Num w va c x) (hb:Num w vb c y) (hx:x<18446744073709551616) (hy:y<18446744073709551616) :
    Calls Try.prog 71 #[va,vb] w (Ret1 w.heap.size w (gcdI x y)):=by
 have HA:=Lib.hid ha
 have HB:=Lib.hid hb
 have hx0:=ha.nonneg
 have hy0:=hb.nonneg
 clear ha hb
 go_enter Try.func71,Try.ntmps71
 go_wp2_with fail
 refine (uint64 va c x w HA.out).mono ?_
 rintro e w1 ⟨rfl,hb1⟩
 rw [u64R,if_pos hx]
 go_wp2_with fail
 refine (uint64 vb c y w1 (HB.out.keep hb1)).mono ?_
 rintro e w2 ⟨rfl,hb2⟩
 rw [u64R,if_pos hy]
 have hb3:=hb1.trans (hb2.mono hb1.size)
 clear HA HB hb1 hb2
 go_wp2_with fail
 go_loopg [5,7] y.toNat (fun k p q wr=>∃ X Y:Int,p=.int .u64 X/\q=.int .u64 Y/\0<=X/\0<=Y/\X<18446744073709551616/\Y<18446744073709551616/\Y.toNat<=k/\gcdI X Y=gcdI x y/\Below w.heap.size w wr)
 case atStart=>exact ⟨x,y,rfl,rfl,hx0,hy0,hx,hy,Nat.le_refl _,rfl,hb3⟩
 case round =>
  obtain ⟨X,Y,rfl,rfl,h1,h2,h3,h4,h5,h6,hb⟩:=hrel
  have H6:=Lib.hid h6
  clear h6
  by_cases h0:0<Y
  ·have HG:=Lib.hid (gcdI_step h1 h2)
   have hm:0<=X % Y/\X % Y<Y:=⟨Int.emod_nonneg _ (by omega),Int.emod_lt_of_pos _ h0⟩
   go_wp2
   go_quiet (fail)
   go_wp2
   go_roundg (X % Y).toNat
   case measure=>omega
   case rel=>exact ⟨Y,X % Y,rfl,rfl,h2,hm.1,h4,by omega,Nat.le_refl _,by rw [<-HG.out]; exact H6.out,below_drewN hb _⟩
  ·obtain rfl:Y=0:=by omega
   have HG:=Lib.hid (gcdI_zero h1)
   go_wp2_with fail
   refine (fromUint64 X wr h1 h3).mono ?_
   rintro e w4 ⟨v,rfl,hv,hb4⟩
   rw [<-HG.out,H6.out] at hv
   go_wp2_with fail
   go_ret
   exact ⟨v,rfl,hv.mono hb.size,hb.trans (hb4.mono hb.size)⟩
set_option maxHeartbeats 1000000 in
theorem gcd (va vb:Value) (c:Nat) (x y:Int) (w:World) (ha:Num w va c x) (hb:Num w vb c y) (hc:c<=4294967296) :
    Calls Try.prog 57 #[va,vb] w (Ret1 w.heap.size w (gcdI x y)):=by
 have HA:=Lib.hid ha
 have HB:=Lib.hid hb
 clear ha hb
 go_enter Try.func57,Try.ntmps57
 go_wp2_with fail
 refine (normalize va c x w HA.out hc).mono ?_
 rintro e w1 ⟨v1,rfl,h1,hb1⟩
 go_wp2_with fail
 refine (normalize vb c y w1 (HB.out.keep hb1) hc).mono ?_
 rintro e w2 ⟨v2,rfl,h2,hb2⟩
 have HI:=Lib.hid (And.intro (h1.keep hb2) (h2.mono hb1.size))
 have hb3:=hb1.trans (hb2.mono hb1.size)
 have HX:=Lib.hid (And.intro HA.out.lt HB.out.lt)
 have HY:=Lib.hid HB.out.nonneg
 clear HA HB hb1 hb2 h1 h2
 go_wp2_with fail
 go_loopg [5,6] y.toNat (fun k p q wr=>∃ X Y:Int,IsNew w.heap.size wr p X/\IsNew w.heap.size wr q Y/\X<Bp c/\Y<Bp c/\Y.toNat<=k/\gcdI X Y=gcdI x y/\Below w.heap.size w wr)
 case atStart=>exact ⟨x,y,HI.out.1,HI.out.2,HX.out.1,HX.out.2,Nat.le_refl _,rfl,hb3⟩
 case round =>
  obtain ⟨X,Y,i1,i2,hX,hY,h5,h6,hb⟩:=hrel
  have HI1:=Lib.hid i1
  have HI2:=Lib.hid i2
  have HB6:=Lib.hid (And.intro h6 (And.intro hX hY))
  have n1:=i1.nonneg
  have n2:=i2.nonneg
  obtain ⟨lx,rx,cx,ex,_⟩:=i1
  obtain ⟨ly,ry,cy,ey,_⟩:=i2
  have HE:=Lib.hid (And.intro (And.intro cx ex) (And.intro cy ey))
  obtain ⟨a1,p1,rfl,g1,m1,_⟩:=Row.parts rx
  obtain ⟨a2,p2,rfl,g2,m2,_⟩:=Row.parts ry
  have HM1:=Lib.hid (IsNew.num HI1.out c hX)
  have HM2:=Lib.hid (IsNew.num HI2.out c hY)
  clear rx ry cx cy ex ey h6 hX hY
  by_cases h0:ly.length=0
  ·have HZ:=Lib.hid (show Y=0 by
     have:ly=[]:=List.eq_nil_of_length_eq_zero h0
     rw [<-HE.out.2.2,this]; rfl)
   have hd:decide (0<(ly.length:Int))=false:=by rw [h0]; rfl
   go_wp2
   go_ret
   refine ⟨_,rfl,?_,hb⟩
   rw [<-HB6.out.1,HZ.out,gcdI_zero n1]
   exact HI1.out
  ·have hd:decide (0<(ly.length:Int))=true:=by simp; omega
   have hYp:0<Y:=by
    have:=HE.out.2.1.pos (by rintro rfl; simp at h0)
    have:=HE.out.2.2
    omega
   have HG:=Lib.hid (gcdI_step n1 n2)
   by_cases hs1:lx.length<=2
   ·by_cases hs2:ly.length<=2
    ·have hsm:X<18446744073709551616/\Y<18446744073709551616:=by
       have e1:=N_lt HE.out.1.1.1
       have e2:=N_lt HE.out.2.1.1
       have f1:=Bp_mono hs1
       have f2:=Bp_mono hs2
       have f3:Bp 2=18446744073709551616:=by decide
       have:=HE.out.1.2
       have:=HE.out.2.2
       omega
     have hd1:decide ((lx.length:Int)<=2)=true:=by simp; omega
     have hd2:decide ((ly.length:Int)<=2)=true:=by simp; omega
     go_wp2_with fail
     refine (gcdSmall _ _ c X Y wr HM1.out HM2.out hsm.1 hsm.2).mono ?_
     rintro e w4 ⟨v,rfl,hv,hb4⟩
     rw [HB6.out.1] at hv
     go_wp2_with fail
     go_ret
     exact ⟨v,rfl,hv.mono hb.size,hb.trans (hb4.mono hb.size)⟩
    ·have hd1:decide ((lx.length:Int)<=2)=true:=by simp; omega
     have hd2:decide ((ly.length:Int)<=2)=false:=by simp; omega
     go_wp2_with fail
     refine (divMod _ _ c X Y wr HM1.out HM2.out hc).mono ?_
     rintro e w4 ⟨vq,vr,rfl,hq,hr,hb4⟩
     rw [if_neg (by omega)] at hr
     have HR:=Lib.hid hr
     clear hr hq
     go_wp2_with fail
     go_roundg (X % Y).toNat
     case measure=>have:=Int.emod_lt_of_pos X hYp; have:=Int.emod_nonneg X (show Y≠0 by omega); omega
     case rel=>exact ⟨Y,X % Y,HI2.out.keep hb4,HR.out.mono hb.size,HB6.out.2.2,by have:=Int.emod_lt_of_pos X hYp; have:=HB6.out.2.2; omega,Nat.le_refl _,by rw [<-HG.out]; exact HB6.out.1,hb.trans (hb4.mono hb.size)⟩
   ·have hd1:decide ((lx.length:Int)<=2)=false:=by simp; omega
    go_wp2_with fail
    refine (divMod _ _ c X Y wr HM1.out HM2.out hc).mono ?_
    rintro e w4 ⟨vq,vr,rfl,hq,hr,hb4⟩
    rw [if_neg (by omega)] at hr
    have HR:=Lib.hid hr
    clear hr hq
    go_wp2_with fail
    go_roundg (X % Y).toNat
    case measure=>have:=Int.emod_lt_of_pos X hYp; have:=Int.emod_nonneg X (show Y≠0 by omega); omega
    case rel=>exact ⟨Y,X % Y,HI2.out.keep hb4,HR.out.mono hb.size,HB6.out.2.2,by have:=Int.emod_lt_of_pos X hYp; have:=HB6.out.2.2; omega,Nat.le_refl _,by rw [<-HG.out]; exact HB6.out.1,hb.trans (hb4.mono hb.size)⟩
end Go.Proofs.Ytbokoblnehgkaaa.Nt
