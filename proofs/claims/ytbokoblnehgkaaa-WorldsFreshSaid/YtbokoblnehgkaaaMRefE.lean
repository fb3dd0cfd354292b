/-
  RefEPlain, RefE, RefF, RefG, in one text: see the remarks at the head of each part.
-/
import Derived.Test.YtbokoblnehgkaaaMRefA
namespace Go.Proofs.Ytbokoblnehgkaaa.Nt
open Go.ChangeShapes Go.WideShapes Go.ChangeAt Go.RowKit B
set_option linter.unusedVariables false
theorem pow_split (m s:Nat):(2:Int) ^ (32*m+s)=Bp m*2 ^ s:=by rw [Int.pow_add,Bp_pow]
theorem N_digit {l:List Int} (h:Ds l) (m:Nat):N l / Bp m % 4294967296=l[m]?.getD 0:=by
 have hB:=Bp_pos m
 rcases Nat.lt_or_ge m l.length with hm|hm
 ·have e:=take_drop_N l m (by omega)
  have h1:=N_nonneg (h.take m)
  have h2:=N_lt (h.take m)
  have h3:(l.take m).length=m:=by simp; omega
  rw [h3] at h2
  have q:N l / Bp m=N (l.drop m):=by
   rw [e,Int.add_mul_ediv_left _ _ (by omega),Int.ediv_eq_zero_of_lt h1 h2,Int.zero_add]
  have hx:=h.at m
  rw [q,N_drop hm]; omega
 ·have h1:=N_nonneg h
  have h2:=N_lt h
  have h3:=Bp_mono hm
  rw [Int.ediv_eq_zero_of_lt h1 (by omega),List.getElem?_eq_none hm]; rfl
theorem N_set {l:List Int} {m:Nat} (h:m<l.length) (x:Int):N (l.set m x)=N l+Bp m*(x-l[m]?.getD 0):=by
 have e1:=take_drop_N l m (by omega)
 have e2:=take_drop_N (l.set m x) m (by simp; omega)
 have hs:(l.set m x).take m=l.take m:=by
  rw [List.take_set_of_le (Nat.le_refl _)]
 have hd:N ((l.set m x).drop m)=x+4294967296*N (l.drop (m+1)):=by
  rw [N_drop (by simp; omega)]
  congr 1
  ·simp [h]
  ·rw [List.drop_set_of_lt (by omega)]
 rw [e2,hs,hd,e1,N_drop h,Int.mul_sub]
 simp only [Int.mul_add]
 omega
theorem Bp_ne (m:Nat):Bp m≠0:=by have:=Bp_pos m; omega
theorem digit_div {l:List Int} (h:Ds l) (m s:Nat) (hs:s<32) (Q:Int) (e:N l=Q*2 ^ (32*m+s+1)):∃ t,l[m]?.getD 0=t*2 ^ (s+1):=by
 have e2:N l / Bp m=Q*2 ^ (s+1):=by
  rw [e,Nat.add_assoc,pow_split,Int.mul_left_comm,Int.mul_ediv_cancel_left _ (Bp_ne m)]
 have e3:=N_digit h m
 rw [e2] at e3
 obtain ⟨r,hr⟩:∃ r,(4294967296:Int)=r*2 ^ (s+1):=⟨2 ^ (31-s),by rw [<-Int.pow_add,show 31-s+(s+1)=32 by omega]; rfl⟩
 refine ⟨Q-r*(Q*2 ^ (s+1) / 4294967296),?_⟩
 rw [<-e3,Int.emod_def,Int.sub_mul]
 congr 1
 conv=>lhs; arg 1; rw [hr]
 rw [Int.mul_assoc,Int.mul_assoc,Int.mul_comm (2 ^ (s+1)) (_ / _)]
theorem or_bit (d:Int) (s:Nat) (hd:0<=d/\d<4294967296) (hs:s<32) (t:Int) (e:d=t*2 ^ (s+1)) :
    bits .or .u32 d (2 ^ s)=d+2 ^ s/\d+2 ^ s<4294967296:=by
 have hp:(0:Int)<2 ^ (s+1):=by have:=two_pos (s+1); omega
 have ht0:0<=t:=by
  rcases Int.lt_or_le t 0 with h|h
  ·have:=Int.mul_neg_of_neg_of_pos h hp; omega
  ·exact h
 obtain ⟨n,rfl⟩:=Int.eq_ofNat_of_zero_le ht0
 have ed:d=((n*2 ^ (s+1):Nat):Int):=by rw [e]; simp
 have hs2:(2:Int) ^ s=((2 ^ s:Nat):Int):=by simp
 have hp2:2 ^ s<2 ^ (s+1):=Nat.pow_lt_pow_right (by omega) (by omega)
 have hp3:2 ^ (s+1)<=2 ^ 32:=Nat.pow_le_pow_right (by omega) (by omega)
 have hm:n*2 ^ (s+1)<4294967296:=by omega
 have hr:(2:Nat) ^ 32=2 ^ (31-s)*2 ^ (s+1):=by rw [<-Nat.pow_add,show 31-s+(s+1)=32 by omega]
 have hlt:n*2 ^ (s+1)<2 ^ (31-s)*2 ^ (s+1):=by rw [<-hr]; omega
 have hn:n<2 ^ (31-s):=Nat.lt_of_mul_lt_mul_right hlt
 have h4:(n+1)*2 ^ (s+1)<=2 ^ (31-s)*2 ^ (s+1):=Nat.mul_le_mul_right _ hn
 rw [<-hr,Nat.add_mul,Nat.one_mul] at h4
 have:=Nat.shiftLeft_add_eq_or_of_lt (i:=s+1) (b:=2 ^ s) hp2 n
 rw [Nat.shiftLeft_eq] at this
 clear e hd hr hlt hn ht0 hp
 rw [hs2,ed]
 clear ed hs2
 generalize n*2 ^ (s+1)=P at *
 generalize 2 ^ (s+1)=R at *
 generalize 2 ^ s=p at *
 rw [u32_or_nat _ _ (by omega) (by omega),<-this]
 omega
theorem and_one (x:Int) (h:0<=x/\x<4294967296):bits .and .u32 x 1=x % 2:=by
 obtain ⟨n,rfl⟩:=Int.eq_ofNat_of_zero_le h.1
 have:bits .and .u32 (n:Int) ((1:Nat):Int)=((n &&& 1:Nat):Int):=u32_and_nat _ _ (by omega) (by omega)
 rw [show (1:Int)=((1:Nat):Int) by rfl,this,Nat.and_one_is_mod]; omega
theorem N_bit {l:List Int} (h:Ds l) (m s:Nat) (hs:s<32):l[m]?.getD 0 / 2 ^ s % 2=N l / 2 ^ (32*m+s) % 2:=by
 rw [pow_split,<-Int.ediv_ediv_of_nonneg (by have:=Bp_pos m; omega),<-N_digit h m]
 generalize N l / Bp m=q
 obtain ⟨r,hr⟩:∃ r,(4294967296:Int)=2 ^ s*(2*r):=⟨2 ^ (31-s),by
  rw [<-Int.mul_assoc,<-Int.pow_succ,<-Int.pow_add,show s+1+(31-s)=32 by omega]; rfl⟩
 have hp:=two_pos s
 have e:=Int.emod_add_mul_ediv q 4294967296
 generalize q / 4294967296=u at *
 generalize q % 4294967296=v at *
 subst e
 rw [hr,Int.mul_assoc,Int.add_mul_ediv_left _ _ (by omega),Int.mul_assoc]
 omega
theorem divBit_step (Y r:Int) (hY:0<Y) (T b:Int) (hb:0<=b/\b<=1) (hr:r=T % Y) :
    (2*T+b) / Y=2*(T / Y)+(if Y<=2*r+b then 1 else 0)/\(2*T+b) % Y=if Y<=2*r+b then 2*r+b-Y else 2*r+b:=by
 have e:=Int.emod_add_mul_ediv T Y
 have h0:=Int.emod_nonneg T (show Y≠0 by omega)
 have h1:=Int.emod_lt_of_pos T hY
 rw [<-hr] at e h0 h1
 generalize T / Y=Q at *
 clear hr
 have e2:2*T+b=(2*r+b)+Y*(2*Q):=by rw [<-e,Int.mul_left_comm]; omega
 rw [e2]
 rw [Int.add_mul_ediv_left _ _ (by omega),Int.add_mul_emod_self_left]
 split
 ·have e3:2*r+b=(2*r+b-Y)+Y*1:=by omega
  refine ⟨?_,?_⟩
  ·rw [e3,Int.add_mul_ediv_left _ _ (by omega),Int.ediv_eq_zero_of_lt (by omega) (by omega)]; omega
  ·rw [e3,Int.add_mul_emod_self_left,Int.emod_eq_of_lt (by omega) (by omega)]; omega
 ·rw [Int.ediv_eq_zero_of_lt (by omega) (by omega),Int.emod_eq_of_lt (by omega) (by omega)]; omega
theorem half_pow (X:Int) (j:Nat):X / 2 ^ j=2*(X / 2 ^ (j+1))+X / 2 ^ j % 2:=by
 rw [Int.pow_succ,<-Int.ediv_ediv_of_nonneg (by have:=two_pos j; omega)]
 omega
end Go.Proofs.Ytbokoblnehgkaaa.Nt
namespace Go.Proofs.Ytbokoblnehgkaaa.Nt
open Go.ChangeShapes Go.WideShapes Go.ChangeAt Go.RowKit B
set_option linter.unusedVariables false
theorem IsNew.only {w w':World} {g base:Nat} {v:Value} {n:Int} (h:IsNew base w v n) (hg:g<base) (ho:Only g w w'):IsNew base w' v n:=by
 obtain ⟨l,h1,h2,h3,h4⟩:=h
 refine ⟨l,Fresh.only h4 h1 hg ho,h2,h3,?_⟩
 rintro b off sp m c rfl
 obtain ⟨q1,cs,q2⟩:=h4 b off sp m c rfl
 refine ⟨q1,cs,?_⟩
 have:b<w.heap.size:=by
  rcases Nat.lt_or_ge b w.heap.size with h|h
  ·exact h
  ·rw [Array.getElem?_eq_none h] at q2; cases q2
 obtain ⟨_,_,_,_,hh⟩:=ho
 rw [hh b this (by simp; omega)]; exact q2
theorem IsNew.lenPos {base:Nat} {w:World} {v:Value} {n:Int} (h:IsNew base w v n) (e:n≠0):∃ a len cap,v=.slice a len cap/\0<len/\len<=cap/\cap<=9223372036854775807:=by
 obtain ⟨l,h1,h2,h3,h4⟩:=h
 obtain ⟨a,cap,rfl,h5,h6,_⟩:=Row.parts h1
 refine ⟨a,l.length,cap,rfl,?_,h5,h6⟩
 rcases l with _|⟨d,l⟩
 ·exact absurd h3.symm e
 ·simp
theorem Row.cellAt {w:World} {a:Option Addr} {n cap:Nat} {l:List Int} (h:Row .u32 w (.slice a n cap) l) (i:Nat) (hi:i<n) :
    ∃ b off,a=some ⟨b,off,none⟩/\w.cell? ⟨b,off+i,none⟩=some (.int .u32 (l[i]?.getD 0))/\(Lit.int .u32 (l[i]?.getD 0)).wf=true:=by
 obtain ⟨_,_,e,_,_,hc⟩:=Row.parts h
 cases e
 exact hc i hi
theorem qstep (A:Int) (j:Nat):A*2 ^ (j+1)=2*A*2 ^ j:=by rw [Int.pow_succ,Int.mul_comm ((2:Int) ^ j) 2,<-Int.mul_assoc,Int.mul_comm A 2]
theorem shl1 (s:Nat) (hs:s<32):(2:Int) ^ s % 4294967296=2 ^ s:=by
 have h:=pow_bd hs
 have:=two_pos s
 rw [Int.emod_eq_of_lt]<;>omega
def IsOwn (base:Nat) (w:World) (v:Value) (n:Int):Prop:=∃ l,w.ownsRow base 42 1 v l.length (l.map (Value.int .u32))/\Canon l/\N l=n
theorem IsOwn.new {base:Nat} {w:World} {v:Value} {n:Int} (h:IsOwn base w v n):IsNew base w v n:=by
 obtain ⟨l,h2,h3,h4⟩:=h
 exact ⟨l,Row.ofOwn h2 (fun n hn=>wf32 (h3.1 n hn)),h3,h4,own_fresh h2⟩
def RetDMO (base:Nat) (w:World) (x y:Int) (e:Ending) (w':World):Prop :=
 ∃ vq vr,e=.returned (.tuple #[vq,vr,.bool (decide (y≠0))])/\IsOwn base w' vq (x / y)/\IsNew base w' vr (if y=0 then 0 else x % y)/\Below base w w'
set_option maxHeartbeats 2000000 in
theorem rDivModO (va vb:Value) (c:Nat) (x y:Int) (w:World) (ha:Num w va c x) (hb:Num w vb c y) (hc:c<=16777216) :
    Calls Try.prog 50 #[va,vb] w (RetDMO w.heap.size w x y):=by
 have HXL:=Lib.hid (And.intro ha.lt hb.lt)
 have HA:=Lib.hid ha
 have HB:=Lib.hid hb
 clear ha hb
 go_enter Try.func50,Try.ntmps50
 go_wp2_with fail
 refine (rNorm va c x w HA.out (by omega)).mono ?_
 rintro e w1 ⟨v1,rfl,⟨l1,r1,C1,N1,_f1⟩,hb1⟩
 clear _f1
 have HR1:=Lib.hid r1
 have HC1:=Lib.hid (And.intro C1 N1)
 have hn1c:l1.length<=c:=C1.len c (by rw [N1]; exact HXL.out.1)
 obtain ⟨a1,p1,rfl,g1,m1,_h1⟩:=Row.parts r1
 clear _h1 r1 C1 N1
 go_wp2_with fail
 refine (rNorm vb c y w1 (HB.out.keep hb1) (by omega)).mono ?_
 rintro e w2 ⟨v2,rfl,h2,hb2⟩
 have HY:=Lib.hid h2
 clear h2
 have hbw:Below w.heap.size w w2:=hb1.trans (hb2.mono hb1.size)
 by_cases hy:y=0
 ·obtain ⟨a2,p2,rfl⟩:=IsNew.zero HY.out hy
  have HZ:=Lib.hid hy
  clear hy
  go_wp2_with fail
  go_ret3
  refine ⟨.slice none 0 0,.slice none 0 0,?_,?_,?_,hbw⟩
  ·rw [decide_eq_false (by have:=HZ.out; omega)]; rfl
  ·rw [HZ.out,Int.ediv_zero]; exact ⟨[],World.ownsRow_nil _ _ _ _,Canon.nil,rfl⟩
  ·rw [if_pos HZ.out]; exact IsNew.nil _ _
 ·have hy0:0<y:=by have:=HY.out.nonneg; omega
  obtain ⟨a2,n2,p2,rfl,hn2,_,_⟩:=IsNew.lenPos HY.out hy
  have hd:((n2:Int) == 0)=false:=by rw [beq_eq_false_iff_ne]; omega
  have hx2:=HR1.out.keep hb2
  have HR2:=Lib.hid hx2
  clear HR1 hx2
  generalize hL1:l1.length=n1 at *
  have HL1:=Lib.hid hL1
  have HNZ:=Lib.hid hy
  clear hL1 hy
  go_wp2_with (at_make; refine make_row rfl (.tmp 20) (.tmp 20) 39 rfl w2.heap.size 42 .u32 4 Try.underlying39 info32 _ n1 rfl rfl rfl (by omega) (by unfold maxLen; omega) (Nat.le_refl _) ?_; intro w3 ho3 hb3)
  have HG:=Lib.hid (own_lt ho3).1
  have hws:w.heap.size<=w2.heap.size:=hbw.size
  have HB2:=Lib.hid hb3
  have hs3:w2.heap.size<w3.heap.size:=(own_lt ho3).1
  have HO3:=Lib.hid ho3
  clear ho3
  generalize hG:w2.heap.size=G at *
  have HGE:=Lib.hid hG
  clear hG
  go_wp2_with fail
  go_loopg [10,11] (32*n1) (fun gk v i wr=>∃ (k:Nat) (q:List Int),k<=32*n1/\k<=gk/\i=.int .i64 ((k:Int)-1)/\Hid (IsNew w3.heap.size wr v (x / 2 ^ k % y))/\Hid (q.length=n1/\Ds q/\N q=x / 2 ^ k / y*2 ^ k) /\
      Hid (wr.ownsRow G 42 1 (.slice (some ⟨G,0,none⟩) n1 n1) n1 (q.map (Value.int .u32)))/\Hid (Only G w3 wr))
  case atStart =>
   have e0:x / 2 ^ (32*n1)=0:=by
    rw [<-Bp_pow,<-HC1.out.2,<-HL1.out]
    exact Int.ediv_eq_zero_of_lt (N_nonneg HC1.out.1.1) (N_lt HC1.out.1.1)
   refine ⟨32*n1,List.replicate n1 0,Nat.le_refl _,Nat.le_refl _,by first|rfl|(congr 1; omega),?_,?_,HO3.out,Only.refl _ _⟩
   ·rw [e0,Int.zero_emod]; exact IsNew.nil _ _
   ·refine ⟨by simp,Ds.zeros _,?_⟩
    rw [e0,Int.zero_ediv,Int.zero_mul,N_zeros]
  case round =>
   obtain ⟨k,q,hk,hgk,rfl,HR,HQ,HO,hon⟩:=hrel
   have HBR:Hid (Below w2.heap.size w2 wr):=by rw [HGE.out]; exact HB2.out.trans (hon.out.below (by omega) (by omega))
   have hbr:Below w.heap.size w wr:=hbw.trans (HBR.out.mono (by rw [HGE.out]; omega))
   have HRC:=Lib.hid (show x / 2 ^ k % y<Bp c by have:=Int.emod_lt_of_pos (x / 2 ^ k) hy0; have:=HXL.out.2; omega)
   rcases k with _|j
   ·rw [Int.pow_zero,Int.ediv_one] at HR HRC HQ
    rw [Int.mul_one] at HQ
    go_wp2_with fail
    refine (rNormO _ n1 (x / y) wr ⟨q,Row.ofOwn HO.out (fun n hn=>wf32 (HQ.out.2.1 n hn)),by rw [HQ.out.1]; omega,HQ.out.2.2⟩ (by omega)).mono ?_
    rintro e w5 ⟨v5,l5,rfl,hn5,hc5,hv5,hb5⟩
    have HN5:=Lib.hid (And.intro hn5 (And.intro hc5 hv5))
    clear hn5 hc5 hv5
    have hbr5:=hb5
    go_wp2_with fail
    refine (rNorm u10 c (x % y) w5 ((HR.out.keep hbr5).num c HRC.out) (by omega)).mono ?_
    rintro e w6 ⟨v6,rfl,hn6,hb6⟩
    have HN6:=Lib.hid hn6
    clear hn6
    go_wp2_with fail
    go_ret3
    refine ⟨v5,v6,?_,⟨l5,own_mono (own_below HN5.out.1 hb6) hbr.size,HN5.out.2.1,HN5.out.2.2⟩,?_,hbr.trans ((hb5.trans (hb6.mono hb5.size)).mono hbr.size)⟩
    ·rw [decide_eq_true HNZ.out]; rfl
    ·rw [if_neg HNZ.out]; exact HN6.out.mono (Nat.le_trans hbr.size hb5.size)
   ·have hm:j / 32<n1:=by omega
    obtain ⟨b1,o1,rfl,q1,wx⟩:=Row.cellAt HR2.out (j / 32) hm
    have q1:=cell_later HBR.out q1
    have dx:=wf_u32 wx
    have HBIT:=Lib.hid (N_bit HC1.out.1.1 (j / 32) (j % 32) (by omega))
    rw [show 32*(j / 32)+j % 32=j by omega,HC1.out.2] at HBIT
    clear wx
    generalize l1[j / 32]?.getD 0=d at *
    have hd0:0<=d / 2 ^ (j % 32)/\d / 2 ^ (j % 32)<4294967296:=by
     have h1:=two_pos (j % 32)
     have h2:=Int.ediv_nonneg dx.1 (show (0:Int)<=2 ^ (j % 32) by omega)
     have h3:=Int.ediv_le_self (2 ^ (j % 32)) dx.1
     omega
    have HAND:=Lib.hid (and_one _ hd0)
    have HST:=Lib.hid (divBit_step y (x / 2 ^ (j+1) % y) hy0 (x / 2 ^ (j+1)) (x / 2 ^ j % 2) (by omega) rfl)
    rw [<-half_pow] at HST
    have HNN:=Lib.hid (Int.emod_nonneg (x / 2 ^ (j+1)) HNZ.out)
    have HLT:=Lib.hid (Int.emod_lt_of_pos (x / 2 ^ (j+1)) hy0)
    clear hd0
    go_wp2_with fail
    rw [HAND.out,HBIT.out]
    generalize hT:x / 2 ^ (j+1) % y=r at *
    generalize hbt:x / 2 ^ j % 2=bt at *
    have hbt2:0<=bt/\bt<=1:=by omega
    have HTT:=Lib.hid (And.intro hT hbt)
    clear hT hbt
    refine (rDouble u10 (c+1) r bt wr (HR.out.num (c+1) (by rw [Bp]; have:=Bp_pos c; have:=HRC.out; omega)) hbt2 (by omega)).mono ?_
    rintro e w5 ⟨v5,rfl,hn5,hb5⟩
    have HN5:=Lib.hid hn5
    clear hn5
    have HR5:=Lib.hid (show 2*r+bt<Bp (c+1) by rw [Bp]; have:=Bp_pos c; have:=HRC.out; omega)
    have HYC:=Lib.hid (show y<Bp (c+1) by rw [Bp]; have:=Bp_pos c; have:=HXL.out.2; omega)
    have HY5:=Lib.hid ((HY.out.keep HBR.out).keep hb5)
    go_wp2_with fail
    refine (rCmp v5 (.slice a2 n2 p2) (c+1) (2*r+bt) y w5 (HN5.out.num (c+1) HR5.out) (HY5.out.num (c+1) HYC.out) (by omega)).mono ?_
    rintro e w6 ⟨rfl,hb6⟩
    have hb65:=hb5.trans (hb6.mono hb5.size)
    by_cases hge:y<=2*r+bt
    ·have hc1:0<=cmpI (2*r+bt) y:=by rw [cmpI,if_neg (by omega)]; split<;>omega
     generalize cmpI (2*r+bt) y=t at *
     have hc2:decide (0<=t)=true:=by simpa using hc1
     rw [if_pos hge,if_pos hge] at HST
     have HGE2:=Lib.hid hge
     clear hge
     go_wp2_with fail
     refine (rSub v5 (.slice a2 n2 p2) (c+1) (2*r+bt) y w6 ((HN5.out.keep hb6).num (c+1) HR5.out) ((HY5.out.keep hb6).num (c+1) HYC.out) (by omega)).mono ?_
     rintro e w7 ⟨v7,rfl,hn7,hb7⟩
     rw [if_pos HGE2.out] at hn7
     rw [decide_eq_true HGE2.out]
     have HN7:=Lib.hid hn7
     clear hn7
     have hb75:=hb65.trans (hb7.mono hb65.size)
     have HO7:=Lib.hid (own_below HO.out hb75)
     obtain ⟨hce,hfz⟩:=own_cell HO7.out (j / 32) hm
     obtain ⟨td,htd⟩:=digit_div HQ.out.2.1 (j / 32) (j % 32) (by omega) (x / 2 ^ (j+1) / y) (by rw [show 32*(j / 32)+j % 32=j by omega]; exact HQ.out.2.2)
     have hdd:=HQ.out.2.1.at (j / 32)
     have HOR:=Lib.hid (or_bit _ (j % 32) hdd (by omega) td htd)
     have HNS:=Lib.hid (N_set (l:=q) (m:=j / 32) (by rw [HQ.out.1]; exact hm) (q[j / 32]?.getD 0+2 ^ (j % 32)))
     have HSTORE:=Lib.hid (own_store HO7.out (j / 32) (q[j / 32]?.getD 0+2 ^ (j % 32)))
     have HDS:=Lib.hid (HQ.out.2.1.set (j / 32) (x:=q[j / 32]?.getD 0+2 ^ (j % 32)) (by have:=HOR.out.2; have:=two_pos (j % 32); omega))
     have HSHL:=Lib.hid (shl1 (j % 32) (by omega))
     clear htd
     generalize q[j / 32]?.getD 0=qd at *
     go_wp2_with fail
     rw [HSHL.out,HOR.out.1]
     have HQN:=Lib.hid (show N (q.set (j / 32) (qd+2 ^ (j % 32)))=x / 2 ^ j / y*2 ^ j by
      have e2:Bp (j / 32)*(qd+2 ^ (j % 32)-qd)=2 ^ j:=by
       rw [show qd+2 ^ (j % 32)-qd=2 ^ (j % 32) by omega,<-pow_split,show 32*(j / 32)+j % 32=j by omega]
      rw [HNS.out,e2,HQ.out.2.2,HST.out.1,Int.add_mul,Int.one_mul,qstep])
     have hon7:=hon.out.trans (Only.of_below (g:=G) hb75)
     have hs7:w3.heap.size<=w7.heap.size:=hon7.size
     go_roundg j
     case measure=>omega
     case rel =>
      refine ⟨j,q.set (j / 32) (qd+2 ^ (j % 32)),by omega,Nat.le_refl _,by go_num,?_,⟨by rw [List.length_set]; exact HQ.out.1,HDS.out,HQN.out⟩,HSTORE.out,hon7.set _ _⟩
      rw [HST.out.2]
      refine IsNew.only (HN7.out.mono ?_) hs3 ((Only.refl _ _).set _ _)
      exact Nat.le_trans hon.out.size hb65.size
    ·have hc1:cmpI (2*r+bt) y<0:=by rw [cmpI,if_pos (by omega)]; decide
     generalize cmpI (2*r+bt) y=t at *
     have hc2:decide (0<=t)=false:=by simpa using hc1
     rw [if_neg hge,if_neg hge,Int.add_zero] at HST
     have HO7:=Lib.hid (own_below HO.out hb65)
     have HQN:=Lib.hid (show N q=x / 2 ^ j / y*2 ^ j by
      rw [HQ.out.2.2,HST.out.1,qstep])
     have hon7:=hon.out.trans (Only.of_below (g:=G) hb65)
     clear hge
     go_wp2_with fail
     go_roundg j
     case measure=>omega
     case rel =>
      refine ⟨j,q,by omega,Nat.le_refl _,by go_num,?_,⟨HQ.out.1,HQ.out.2.1,HQN.out⟩,HO7.out,hon7⟩
      rw [HST.out.2]
      exact (HN5.out.keep hb6).mono hon.out.size
theorem rDivMod (va vb:Value) (c:Nat) (x y:Int) (w:World) (ha:Num w va c x) (hb:Num w vb c y) (hc:c<=16777216) :
    Calls Try.prog 50 #[va,vb] w (RetDM w.heap.size w x y) :=
 (rDivModO va vb c x y w ha hb hc).mono fun e w' ⟨vq,vr,h1,h2,h3,h4⟩=>⟨vq,vr,h1,h2.new,h3,h4⟩
end Go.Proofs.Ytbokoblnehgkaaa.Nt
namespace Go.Proofs.Ytbokoblnehgkaaa.Nt
open Go.ChangeShapes Go.WideShapes Go.ChangeAt Go.RowKit B
set_option linter.unusedVariables false
theorem gcdI_comm (x y:Int):gcdI x y=gcdI y x:=by unfold gcdI; rw [Nat.gcd_comm]
theorem gcdI_half {x y:Int} (hx:0<=x) (hy:0<=y) (ex:x % 2=0) (oy:y % 2=1):gcdI (x / 2) y=gcdI x y:=by
 obtain ⟨a,rfl⟩:=Int.eq_ofNat_of_zero_le hx
 obtain ⟨b,rfl⟩:=Int.eq_ofNat_of_zero_le hy
 obtain ⟨k,rfl⟩:∃ k,a=2*k:=⟨a / 2,by omega⟩
 have e:((2*k:Nat):Int) / 2=(k:Int):=by omega
 unfold gcdI
 rw [e,Int.toNat_natCast,Int.toNat_natCast,Int.toNat_natCast]
 have hco:Nat.Coprime 2 b:=by
  rw [Nat.coprime_comm,Nat.Coprime]
  have:=Nat.gcd_rec 2 b
  rw [Nat.gcd_comm,this,show b % 2=1 by omega]; simp
 rw [Nat.Coprime.gcd_mul_left_cancel _ hco]
theorem gcdI_both {x y:Int} (hx:0<=x) (hy:0<=y) (ex:x % 2=0) (ey:y % 2=0):gcdI x y=2*gcdI (x / 2) (y / 2):=by
 obtain ⟨a,rfl⟩:=Int.eq_ofNat_of_zero_le hx
 obtain ⟨b,rfl⟩:=Int.eq_ofNat_of_zero_le hy
 obtain ⟨k,rfl⟩:∃ k,a=2*k:=⟨a / 2,by omega⟩
 obtain ⟨m,rfl⟩:∃ k,b=2*k:=⟨b / 2,by omega⟩
 have e:((2*k:Nat):Int) / 2=(k:Int):=by omega
 have e2:((2*m:Nat):Int) / 2=(m:Int):=by omega
 unfold gcdI
 rw [e,e2,Int.toNat_natCast,Int.toNat_natCast,Int.toNat_natCast,Int.toNat_natCast,Nat.gcd_mul_left]
 omega
theorem gcdI_sub {x y:Int} (hx:0<=x) (h:x<=y):gcdI x (y-x)=gcdI x y:=by
 obtain ⟨a,rfl⟩:=Int.eq_ofNat_of_zero_le hx
 obtain ⟨b,rfl⟩:=Int.eq_ofNat_of_zero_le (show 0<=y by omega)
 have e:(b:Int)-(a:Int)=((b-a:Nat):Int):=by omega
 unfold gcdI
 rw [e,Int.toNat_natCast,Int.toNat_natCast,Int.toNat_natCast,Nat.gcd_sub_self_right (by omega)]
theorem gcdI_le_left {x y:Int} (hx:0<x):gcdI x y<=x:=by
 unfold gcdI
 have:=Nat.gcd_le_left (m:=x.toNat) y.toNat (by omega)
 omega
theorem pow_bound {s c:Nat} {X x:Int} (h0:0<X) (h:2 ^ s*X<=x) (hx:x<Bp c):s<32*c:=by
 have h1:=Int.mul_le_mul_of_nonneg_left (show 1<=X by omega) (show (0:Int)<=2 ^ s by have:=two_pos s; omega)
 rw [Int.mul_one] at h1
 rw [Bp_pow] at hx
 rcases Nat.lt_or_ge s (32*c) with h2|h2
 ·exact h2
 ·have:=two_mono h2; omega
theorem cmp_le {x y:Int} (h:x<=y):cmpI x y<=0:=by
 unfold cmpI
 split
 ·decide
 ·split
  ·decide
  ·omega
theorem IsNew.head {base:Nat} {w:World} {v:Value} {n:Int} (h:IsNew base w v n) (e:0<n):∃ b off len cap d,v=.slice (some ⟨b,off,none⟩) len cap/\0<len/\len<=cap/\cap<=9223372036854775807 /\
    w.cell? ⟨b,off,none⟩=some (.int .u32 d)/\0<=d/\d<4294967296/\d % 2=n % 2:=by
 obtain ⟨l,h1,h2,h3,h4⟩:=h
 obtain ⟨a,cap,rfl,h5,h6,hc⟩:=Row.parts h1
 rcases l with _|⟨d,l⟩
 ·simp [N] at h3; omega
 ·obtain ⟨b,off,rfl,q,wx⟩:=hc 0 (by simp)
  have:=h2.1.head
  refine ⟨b,off,_,cap,d,rfl,by simp,h5,h6,by simpa using q,this.1,this.2,?_⟩
  rw [<-h3,N]; omega
set_option maxHeartbeats 2000000 in
theorem rGCD (va vb:Value) (c:Nat) (x y:Int) (w:World) (ha:Num w va c x) (hb:Num w vb c y) (hc:c<=16777216) :
    Calls Try.prog 49 #[va,vb] w (Ret1 w.heap.size w (gcdI x y)):=by
 have HXL:=Lib.hid (And.intro ha.lt hb.lt)
 have HNN:=Lib.hid (And.intro ha.nonneg hb.nonneg)
 have HA:=Lib.hid ha
 have HB:=Lib.hid hb
 clear ha hb
 go_enter Try.func49,Try.ntmps49
 go_wp2_with fail
 refine (rNorm va c x w HA.out (by omega)).mono ?_
 rintro e w1 ⟨v1,rfl,h1,hb1⟩
 have HX:=Lib.hid h1
 clear h1
 go_wp2_with fail
 refine (rNorm vb c y w1 (HB.out.keep hb1) (by omega)).mono ?_
 rintro e w2 ⟨v2,rfl,h2,hb2⟩
 have hbw:Below w.heap.size w w2:=hb1.trans (hb2.mono hb1.size)
 have HX2:=Lib.hid (HX.out.keep hb2)
 have HY2:=Lib.hid (h2.mono (base':=w.heap.size) hb1.size)
 clear h2 HX
 by_cases hx:x=0
 ·obtain ⟨a1,p1,rfl⟩:=IsNew.zero HX2.out hx
  have HE:=Lib.hid (show y=gcdI x y by rw [hx,gcdI_comm,gcdI_zero HNN.out.2])
  clear hx
  go_wp2_with fail
  go_ret
  exact ⟨v2,rfl,by rw [<-HE.out]; exact HY2.out,hbw⟩
 obtain ⟨a1,n1,p1,rfl,hn1,hp1,hq1⟩:=IsNew.lenPos HX2.out hx
 have hd1:((n1:Int) == 0)=false:=by rw [beq_eq_false_iff_ne]; omega
 have hx0:0<x:=by have:=HNN.out.1; omega
 by_cases hy:y=0
 ·obtain ⟨a2,p2,rfl⟩:=IsNew.zero HY2.out hy
  have HE:=Lib.hid (show x=gcdI x y by rw [hy,gcdI_zero HNN.out.1])
  clear hx hy
  go_wp2_with fail
  go_ret
  exact ⟨_,rfl,by rw [<-HE.out]; exact HX2.out,hbw⟩
 obtain ⟨a2,n2,p2,rfl,hn2,hp2,hq2⟩:=IsNew.lenPos HY2.out hy
 have hd2:((n2:Int) == 0)=false:=by rw [beq_eq_false_iff_ne]; omega
 have hy0:0<y:=by have:=HNN.out.2; omega
 clear hx hy
 go_wp2_with fail
 clear hd1 hd2 hn1 hn2 hp1 hp2 hq1 hq2
 go_loopg [5,6,7] x.toNat (fun gk p q t wr=>∃ (X Y:Int) (s:Nat),0<X/\0<Y/\X.toNat<=gk/\t=.int .i64 s/\Hid (IsNew w.heap.size wr p X)/\Hid (IsNew w.heap.size wr q Y)/\Hid (gcdI x y=2 ^ s*gcdI X Y/\2 ^ s*X<=x/\X<=x/\Y<=y)/\Below w.heap.size w wr)
 case atStart=>exact ⟨x,y,0,hx0,hy0,Nat.le_refl _,rfl,HX2.out,HY2.out,⟨by simp,by simp,Int.le_refl _,Int.le_refl _⟩,hbw⟩
 case round =>
  obtain ⟨X,Y,s,hX0,hY0,hgk,rfl,HX,HY,HI,hb⟩:=hrel
  obtain ⟨bx,ox,nx,px,dx,rfl,hnx,hpx,hqx,qx,dx0,dx1,dxe⟩:=IsNew.head HX.out hX0
  obtain ⟨by_,oy,ny,py,dy,rfl,hny,hpy,hqy,qy,dy0,dy1,dye⟩:=IsNew.head HY.out hY0
  have hs:=pow_bound hX0 HI.out.2.1 HXL.out.1
  by_cases hev:X % 2=0/\Y % 2=0
  ·have hbx:bits .and .u32 dx 1=0:=by rw [and_one _ ⟨dx0,dx1⟩]; omega
   have hby:bits .and .u32 dy 1=0:=by rw [and_one _ ⟨dy0,dy1⟩]; omega
   have HE:=Lib.hid hev
   clear hev dxe dye
   go_wp2_with fail
   refine (rHalf _ c X wr (HX.out.num c (by have:=HXL.out.1; have:=HI.out.2.2.1; omega)) (by omega)).mono ?_
   rintro e w3 ⟨v3,rfl,h3,hb3⟩
   have HX3:=Lib.hid (h3.mono (base':=w.heap.size) hb.size)
   clear h3 hbx hby
   go_wp2_with fail
   refine (rHalf _ c Y w3 ((HY.out.keep hb3).num c (by have:=HXL.out.2; have:=HI.out.2.2.2; omega)) (by omega)).mono ?_
   rintro e w4 ⟨v4,rfl,h4,hb4⟩
   have HY4:=Lib.hid (h4.mono (base':=w.heap.size) (Nat.le_trans hb.size hb3.size))
   clear h4
   have HG:=Lib.hid (gcdI_both (x:=X) (y:=Y) (by omega) (by omega) HE.out.1 HE.out.2)
   go_wp2_with fail
   go_roundg (X / 2).toNat
   case measure=>omega
   case rel =>
    refine ⟨X / 2,Y / 2,s+1,by have:=HE.out.1; omega,by have:=HE.out.2; omega,Nat.le_refl _,by go_num,HX3.out.keep hb4,HY4.out,⟨?_,?_,?_,?_⟩,(hb.trans (hb3.mono hb.size)).trans (hb4.mono (Nat.le_trans hb.size hb3.size))⟩
    ·rw [HI.out.1,HG.out,Int.pow_succ,Int.mul_assoc]
    ·rw [Int.pow_succ,Int.mul_assoc,show 2*(X / 2)=X by have:=HE.out.1; omega]; exact HI.out.2.1
    ·have:=HI.out.2.2.1; omega
    ·have:=HI.out.2.2.2; omega
  ·have HCO:=Lib.hid (show X % 2=1∨Y % 2=1 by omega)
   have HSB:=Lib.hid (show gcdI X Y*2 ^ s<=x by rw [Int.mul_comm,<-HI.out.1]; exact gcdI_le_left hx0)
   have HCX:=Lib.hid (show X<Bp c/\Y<Bp c by have:=HXL.out.1; have:=HXL.out.2; have:=HI.out.2.2.1; have:=HI.out.2.2.2; omega)
   have hex:(bits .and .u32 dx 1=0/\bits .and .u32 dy 1=1)∨bits .and .u32 dx 1=1:=by
    rw [and_one _ ⟨dx0,dx1⟩,and_one _ ⟨dy0,dy1⟩]; omega
   clear hev dxe dye
   rcases hex with ⟨hbx,hby⟩|hbx
   all_goals
    go_wp2_with fail
    clear hbx
    try clear hby
    clear dx0 dx1 dy0 dy1 qx qy
    go_loopg [5,6] (X+Y).toNat (fun gk p q wr=>∃ X' Y':Int,0<X'/\0<=Y'/\(X'+Y').toNat<=gk/\Hid (X' % 2=1∨Y' % 2=1)/\Hid (IsNew w.heap.size wr p X')/\Hid (IsNew w.heap.size wr q Y')/\Hid (gcdI X' Y'=gcdI X Y/\X'<Bp c/\Y'<Bp c)/\Below w.heap.size w wr)
    case atStart=>exact ⟨X,Y,hX0,by omega,Nat.le_refl _,HCO,HX,HY,⟨rfl,HCX.out.1,HCX.out.2⟩,hb⟩
    case round =>
     clear HX HY hb HCO hnx hpx hqx hny hpy hqy
     obtain ⟨X1,Y1,hX1,hY1,hgk,HCO,HX,HY,HJ,hb⟩:=hrel
     rcases Int.lt_or_eq_of_le hY1 with hY2|hY2
     ·obtain ⟨aq,nq,pq,rfl,hnq,hpq,hqq⟩:=IsNew.lenPos HY.out (by omega)
      have hd1:decide ((nq:Int)>0)=true:=by simp; omega
      go_wp2_with fail
      clear hd1
      go_loopg [5] X1.toNat (fun gk p wr=>∃ X2:Int,0<X2/\X2.toNat<=gk/\X2<=X1/\Hid (X2 % 2=1∨Y1 % 2=1)/\Hid (IsNew w.heap.size wr p X2)/\Hid (IsNew w.heap.size wr (.slice aq nq pq) Y1)/\Hid (gcdI X2 Y1=gcdI X Y)/\Below w.heap.size w wr)
      case atStart=>exact ⟨X1,hX1,Nat.le_refl _,Int.le_refl _,HCO,HX,HY,HJ.out.1,hb⟩
      case round =>
       clear HX HY hb HCO
       obtain ⟨X2,hX2,hgk2,hle2,HCO,HX,HY,HK,hb⟩:=hrel
       obtain ⟨bx,ox,nx,px,dx,rfl,hnx,hpx,hqx,qx,dx0,dx1,dxe⟩:=IsNew.head HX.out hX2
       by_cases hev:X2 % 2=0
       ·have hbx:bits .and .u32 dx 1=0:=by rw [and_one _ ⟨dx0,dx1⟩]; omega
        have HG:=Lib.hid (gcdI_half (x:=X2) (y:=Y1) (by omega) hY1 hev (by have:=HCO.out; omega))
        have HE:=Lib.hid hev
        clear hev dxe
        go_wp2_with fail
        refine (rHalf _ c X2 wr (HX.out.num c (by have:=HJ.out.2.1; omega)) (by omega)).mono ?_
        rintro e w3 ⟨v3,rfl,h3,hb3⟩
        have HX3:=Lib.hid (h3.mono (base':=w.heap.size) hb.size)
        clear h3 hbx
        go_wp2_with fail
        go_roundg (X2 / 2).toNat
        case measure=>omega
        case rel=>exact ⟨X2 / 2,by have:=HE.out; omega,Nat.le_refl _,by omega,by have h:=HCO.out; have h2:=HE.out; show _∨_; omega,HX3.out,HY.out.keep hb3,by show _=_; rw [HG.out,HK.out],hb.trans (hb3.mono hb.size)⟩
       ·have hbx:bits .and .u32 dx 1=1:=by rw [and_one _ ⟨dx0,dx1⟩]; omega
        have HOX:=Lib.hid (show X2 % 2=1 by omega)
        clear hev dxe
        go_wp2_with fail
        clear hbx dx0 dx1 qx
        go_loopg [6] Y1.toNat (fun gk q wr=>∃ Y2:Int,0<Y2/\Y2.toNat<=gk/\Y2<=Y1/\Hid (IsNew w.heap.size wr (.slice (some ⟨bx,ox,none⟩) nx px) X2)/\Hid (IsNew w.heap.size wr q Y2)/\Hid (gcdI X2 Y2=gcdI X Y)/\Below w.heap.size w wr)
        case atStart=>exact ⟨Y1,hY2,Nat.le_refl _,Int.le_refl _,HX,HY,HK,hb⟩
        case round =>
         clear HX HY hb HCO HK
         obtain ⟨Y2,hY3,hgk3,hle3,HX,HY,HK,hb⟩:=hrel
         obtain ⟨by_,oy,ny,py,dy,rfl,hny,hpy,hqy,qy,dy0,dy1,dye⟩:=IsNew.head HY.out hY3
         by_cases hev:Y2 % 2=0
         ·have hby:bits .and .u32 dy 1=0:=by rw [and_one _ ⟨dy0,dy1⟩]; omega
          have HG:=Lib.hid (gcdI_half (x:=Y2) (y:=X2) (by omega) (by omega) hev HOX.out)
          have HE:=Lib.hid hev
          clear hev dye
          go_wp2_with fail
          refine (rHalf _ c Y2 wr (HY.out.num c (by have:=HJ.out.2.2; omega)) (by omega)).mono ?_
          rintro e w3 ⟨v3,rfl,h3,hb3⟩
          have HY3:=Lib.hid (h3.mono (base':=w.heap.size) hb.size)
          clear h3 hby
          go_wp2_with fail
          go_roundg (Y2 / 2).toNat
          case measure=>omega
          case rel=>exact ⟨Y2 / 2,by have:=HE.out; omega,Nat.le_refl _,by omega,HX.out.keep hb3,HY3.out,by show _=_; rw [gcdI_comm,HG.out,gcdI_comm,HK.out],hb.trans (hb3.mono hb.size)⟩
         ·have hby:bits .and .u32 dy 1=1:=by rw [and_one _ ⟨dy0,dy1⟩]; omega
          have HOY:=Lib.hid (show Y2 % 2=1 by omega)
          clear hev dye
          have HBD:=Lib.hid (show X2<Bp c/\Y2<Bp c by have:=HJ.out.2.1; have:=HJ.out.2.2; omega)
          go_wp2_with fail
          clear hby dy0 dy1 qy
          refine (rCmp _ _ c X2 Y2 wr (HX.out.num c HBD.out.1) (HY.out.num c HBD.out.2) (by omega)).mono ?_
          rintro e w3 ⟨rfl,hb3⟩
          by_cases hgt:Y2<X2
          ·have e1:cmpI X2 Y2=1:=by rw [cmpI,if_neg (by omega),if_neg (by omega)]
           rw [e1]
           clear e1
           have HE:=Lib.hid hgt
           clear hgt
           go_wp2_with fail
           refine (rSub _ _ c X2 Y2 w3 ((HX.out.keep hb3).num c HBD.out.1) ((HY.out.keep hb3).num c HBD.out.2) (by omega)).mono ?_
           rintro e w4 ⟨v4,rfl,h4,hb4⟩
           have hle:Y2<=X2:=by have:=HE.out; omega
           rw [if_pos hle] at h4
           rw [decide_eq_true hle]
           have HX4:=Lib.hid (h4.mono (base':=w.heap.size) (Nat.le_trans hb.size hb3.size))
           have HG:=Lib.hid (gcdI_sub (x:=Y2) (y:=X2) (by omega) hle)
           clear h4 hle
           go_wp2_with fail
           go_roundg X2.toNat
           case measure=>omega
           case rel=>exact ⟨Y2,X2-Y2,hY3,by have:=HE.out; omega,by omega,.inl HOY.out,(HY.out.keep hb3).keep hb4,HX4.out,⟨by rw [HG.out,gcdI_comm,HK.out],HBD.out.2,by have:=HBD.out.1; omega⟩,(hb.trans (hb3.mono hb.size)).trans (hb4.mono (Nat.le_trans hb.size hb3.size))⟩
          ·have e1:cmpI X2 Y2<=0:=cmp_le (by omega)
           generalize cmpI X2 Y2=t at *
           have hd1:decide (t>0)=false:=by simp; omega
           have HE:=Lib.hid (show X2<=Y2 by omega)
           clear hgt
           go_wp2_with fail
           refine (rSub _ _ c Y2 X2 w3 ((HY.out.keep hb3).num c HBD.out.2) ((HX.out.keep hb3).num c HBD.out.1) (by omega)).mono ?_
           rintro e w4 ⟨v4,rfl,h4,hb4⟩
           rw [if_pos HE.out] at h4
           rw [decide_eq_true HE.out]
           have HY4:=Lib.hid (h4.mono (base':=w.heap.size) (Nat.le_trans hb.size hb3.size))
           have HG:=Lib.hid (gcdI_sub (x:=X2) (y:=Y2) (by omega) HE.out)
           clear h4 e1 hd1
           go_wp2_with fail
           go_roundg Y2.toNat
           case measure=>omega
           case rel=>exact ⟨X2,Y2-X2,hX2,by have:=HE.out; omega,by omega,.inl HOX.out,(HX.out.keep hb3).keep hb4,HY4.out,⟨by rw [HG.out,HK.out],HBD.out.1,by have:=HBD.out.2; omega⟩,(hb.trans (hb3.mono hb.size)).trans (hb4.mono (Nat.le_trans hb.size hb3.size))⟩
     ·obtain ⟨aq,pq,rfl⟩:=IsNew.zero HY.out hY2.symm
      have HG:=Lib.hid (show X1=gcdI X Y by rw [<-HJ.out.1,<-hY2,gcdI_zero (by omega)])
      clear hY2
      go_wp2_with fail
      clear HY
      go_loopg [5,8] s (fun gk p i wr=>∃ k:Nat,k<=s/\s-k<=gk/\i=.int .i64 k/\Hid (IsNew w.heap.size wr p (X1*2 ^ k))/\Below w.heap.size w wr)
      case atStart=>exact ⟨0,Nat.zero_le _,Nat.le_refl _,rfl,by rw [Int.pow_zero,Int.mul_one]; exact HX,hb⟩
      case round =>
       clear HX hb
       obtain ⟨k,hk,hgk3,rfl,HX,hb⟩:=hrel
       by_cases hlt:k<s
       ·have HBD:=Lib.hid (show X1*2 ^ k<Bp c by
          have h1:=Int.mul_le_mul_of_nonneg_left (two_mono (show k<=s by omega)) (show 0<=X1 by omega)
          have h2:=HSB.out
          rw [<-HG.out] at h2
          have:=HXL.out.1
          omega)
        go_wp2_with fail
        refine (rDouble _ c (X1*2 ^ k) 0 wr (HX.out.num c HBD.out) (by omega) (by omega)).mono ?_
        rintro e w3 ⟨v3,rfl,h3,hb3⟩
        have HX3:=Lib.hid (h3.mono (base':=w.heap.size) hb.size)
        clear h3
        go_wp2_with fail
        go_roundg (s-(k+1))
        case measure=>omega
        case rel=>exact ⟨k+1,by omega,Nat.le_refl _,by go_num,by rw [qstep,Int.mul_assoc,<-Int.add_zero (2*(X1*2 ^ k))]; exact HX3,hb.trans (hb3.mono hb.size)⟩
       ·obtain rfl:k=s:=by omega
        have HE:=Lib.hid (show X1*2 ^ k=gcdI x y by rw [HI.out.1,HG.out,Int.mul_comm])
        go_wp2_with fail
        go_ret
        exact ⟨_,rfl,by rw [<-HE.out]; exact HX.out,hb⟩
end Go.Proofs.Ytbokoblnehgkaaa.Nt
namespace Go.Proofs.Ytbokoblnehgkaaa.Nt
open Go.ChangeShapes Go.WideShapes Go.ChangeAt Go.RowKit B
set_option linter.unusedVariables false
end Go.Proofs.Ytbokoblnehgkaaa.Nt
