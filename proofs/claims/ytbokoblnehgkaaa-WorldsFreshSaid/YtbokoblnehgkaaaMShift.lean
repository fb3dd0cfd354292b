/-
  Shift, LongSteps, Guess, in one text: see the remarks at the head of each part.
-/
import Derived.Test.YtbokoblnehgkaaaMAdd
import Derived.Test.YtbokoblnehgkaaaMPlain
namespace Go.Proofs.Ytbokoblnehgkaaa.Nt
open Go.ChangeShapes Go.WideShapes Go.ChangeAt Go.RowKit B
set_option linter.unusedVariables false
def RetShl (w:World) (l:List Int) (s size:Nat) (e:Ending) (w':World):Prop :=
 ∃ r:List Int,e=.returned (.slice (some ⟨w.heap.size,0,none⟩) size size)/\Ds r/\N r=N l*2 ^ s/\w'.ownsRow w.heap.size 42 1 (.slice (some ⟨w.heap.size,0,none⟩) size size) size (r.map (Value.int .u32))/\Below w.heap.size w w'
set_option maxHeartbeats 1000000 in
theorem shiftLeft (va:Value) (l:List Int) (s size:Nat) (w:World) (hr:Row .u32 w va l) (hl:l.length<=4294967296) (hs:s<32) (hsz:size=l.length∨size=l.length+1) (hfit:N l*2 ^ s<Bp size) :
    Calls Try.prog 76 #[va,.int .u64 (s:Int),.int .i64 (size:Int)] w (RetShl w l s size):=by
 have HD:=Lib.hid (Row.ds hr)
 have HFIT:=Lib.hid hfit
 have HP:=Lib.hid (pow_bd hs)
 obtain ⟨a1,p1,rfl,g1,m1,hcell1⟩:=Row.parts hr
 have HX:=Lib.hid hcell1
 clear hr hcell1 hfit
 generalize hnX:l.length=nX at *
 have HL:=Lib.hid hnX
 have HSZ:=Lib.hid hsz
 have hsz1:nX<=size/\size<=nX+1:=by omega
 clear hnX hsz
 go_enter Try.func76,Try.ntmps76
 go_wp2_with (at_make; refine make_row rfl (.tmp 11) (.tmp 11) 39 rfl w.heap.size 42 .u32 4 Try.underlying39 info32 _ size rfl rfl rfl (by omega) (by unfold maxLen; omega) (Nat.le_refl _) ?_; intro w1 ho1 hb1)
 go_loopw [8,15] (fun t i wr=>∃ (k:Nat) (cy:Int) (pre:List Int),k<=nX/\i=.int .i64 k/\t=.int .u32 cy/\Hid (0<=cy/\cy<2 ^ s)/\Hid (pre.length=k/\pre++shlL (2 ^ s) (l.drop k) cy=shlL (2 ^ s) l 0/\shlC (2 ^ s) (l.drop k) cy=shlC (2 ^ s) l 0) /\
     wr.ownsRow w.heap.size 42 1 (.slice (some ⟨w.heap.size,0,none⟩) size size) size ((pre++List.replicate (size-k) 0).map (Value.int .u32))/\Below w.heap.size w wr) (fun _ i _=>nX-(intOf i).toNat)
 case atStart=>exact ⟨0,0,[],Nat.zero_le _,rfl,rfl,⟨by omega,Int.lt_of_lt_of_le (by decide) (two_pos s)⟩,⟨rfl,rfl,rfl⟩,ho1,hb1⟩
 case round =>
  obtain ⟨k,cy,pre,hk,rfl,rfl,hcy,hp,ho,hb⟩:=hrel
  by_cases hlt:k<nX
  ·obtain ⟨bx,ox,rfl,qx,wx⟩:=HX.out k (by omega)
   have qx:=cell_later hb qx
   have dx:=wf_u32 wx
   obtain ⟨hce,hfz⟩:=own_cell ho k (by omega)
   have HS:=Lib.hid (shlL_step (2 ^ s) l k cy (by rw [HL.out]; exact hlt))
   generalize l[k]?.getD 0=x at *
   clear wx
   have HO:=Lib.hid (shl_or32 hs x cy hcy.out)
   have HG:=Lib.hid (shl_digit hs x cy dx hcy.out)
   have HC:=Lib.hid (show x / 2 ^ (32-s) % 4294967296=x*2 ^ s / 4294967296 by
    rw [<-shl_div hs]
    have:=HG.out.2
    have:=HP.out
    rw [Int.emod_eq_of_lt]<;>omega)
   go_wp2
   refine ⟨⟨k+1,x*2 ^ s / 4294967296,pre++[x*2 ^ s % 4294967296+cy],by omega,by go_num,by rw [HC.out],HG.out.2,⟨by simp [hp.out.1],?_,?_⟩,?_,hb.setCell (Nat.le_refl _) _⟩,by simp [intOf]; omega⟩
   ·rw [<-hp.out.2.1,HS.out.1,List.append_assoc]; rfl
   ·rw [<-hp.out.2.2,HS.out.2]
   ·have:=own_store ho k (x*2 ^ s % 4294967296+cy)
    rw [set_zeros hp.out.1 (show k<size by omega)] at this
    rw [HO.out]
    exact this
  ·obtain rfl:k=nX:=by omega
   have HE:=Lib.hid (show pre=shlL (2 ^ s) l 0/\cy=shlC (2 ^ s) l 0 by
    have e1:=hp.out.2.1
    have e2:=hp.out.2.2
    rw [List.drop_eq_nil_of_le (by rw [HL.out]; exact Nat.le_refl _)] at e1 e2
    simp only [shlL,shlC,List.append_nil] at e1 e2
    exact ⟨e1,e2⟩)
   have HDS:=Lib.hid (shlL_ds hs l 0 HD.out ⟨by omega,Int.lt_of_lt_of_le (by decide) (two_pos s)⟩)
   have HV:=Lib.hid (shlL_N (2 ^ s) l 0)
   rw [HL.out,<-HE.out.1,<-HE.out.2] at HV
   rw [<-HE.out.1,<-HE.out.2] at HDS
   by_cases hgt:k<size
   ·have hcy2:cy<4294967296/\0<=cy:=by have:=HDS.out.2; have:=HP.out; omega
    obtain ⟨hce,hfz⟩:=own_cell ho k (by omega)
    have hs2:=own_store ho k cy
    rw [set_zeros hp.out.1 hgt,show size-(k+1)=0 by omega,List.replicate_zero,List.append_nil] at hs2
    have HX2:=Lib.hid (show Ds (pre++[cy])/\N (pre++[cy])=N l*2 ^ s by
     refine ⟨HDS.out.1.app (Ds.cons (by omega) Ds.nil),?_⟩
     have:=HV.out
     rw [N_app,hp.out.1]
     simp only [N,Int.mul_zero,Int.add_zero]
     omega)
    go_wp2
    go_ret
    exact ⟨pre++[cy],rfl,HX2.out.1,HX2.out.2,hs2,hb.setCell (Nat.le_refl _) _⟩
   ·obtain rfl:size=k:=by omega
    rw [Nat.sub_self,List.replicate_zero,List.append_nil] at ho
    have HX2:=Lib.hid (show N pre=N l*2 ^ s by
     have h1:=HV.out
     have h2:=HFIT.out
     have h3:=N_nonneg HDS.out.1
     have h4:=HDS.out.2.1
     have h5:=Bp_pos size
     rcases Int.lt_or_eq_of_le h4 with h6|h6
     ·have:=Int.mul_le_mul_of_nonneg_left (show 1<=cy by omega) (show 0<=Bp size by omega)
      omega
     ·rw [<-h6,Int.mul_zero] at h1; omega)
    go_wp2
    go_ret
    exact ⟨pre,rfl,HDS.out.1,HX2.out,ho,hb⟩
theorem shr_or32 {s:Nat} (hs:s<32) (d e:Int) (hd:0<=d/\d<4294967296) (he:0<=e/\e<4294967296) :
    bits .or .u32 (d / 2 ^ s) (e*2 ^ (32-s) % 4294967296)=d / 2 ^ s+e*2 ^ (32-s) % 4294967296/\0<=d / 2 ^ s+e*2 ^ (32-s) % 4294967296/\d / 2 ^ s+e*2 ^ (32-s) % 4294967296<4294967296:=by
 have h1:=pow_bd hs
 have h2:=pow_bd2 hs
 have h3:=pow32 hs
 have a0:0<=d / 2 ^ s:=Int.ediv_nonneg hd.1 (by omega)
 have a1:d / 2 ^ s<2 ^ (32-s):=by
  apply Int.ediv_lt_of_lt_mul (by omega)
  rw [Int.mul_comm,h3]; exact hd.2
 have em:e*2 ^ (32-s) % 4294967296=(e % 2 ^ s)*2 ^ (32-s):=by
  conv=>lhs; rw [<-h3]
  rw [emod_mul _ _ (show (0:Int)<2 ^ (32-s) by omega)]
 have m0:0<=e % 2 ^ s:=Int.emod_nonneg _ (by omega)
 have m1:e % 2 ^ s<2 ^ s:=Int.emod_lt_of_pos _ (by omega)
 rw [em]
 generalize d / 2 ^ s=x at *
 generalize e % 2 ^ s=m at *
 have b2:=Int.mul_le_mul_of_nonneg_right (show m+1<=2 ^ s by omega) (show 0<=(2:Int) ^ (32-s) by omega)
 rw [h3,Int.add_mul,Int.one_mul] at b2
 have b3:=Int.mul_nonneg m0 (show 0<=(2:Int) ^ (32-s) by omega)
 refine ⟨?_,by omega,by omega⟩
 have hR:(2:Int) ^ (32-s)=((2 ^ (32-s):Nat):Int):=by simp
 rw [hR] at b2 b3 a1 ⊢
 obtain ⟨a,rfl⟩:=Int.eq_ofNat_of_zero_le a0
 obtain ⟨b,rfl⟩:=Int.eq_ofNat_of_zero_le m0
 rw [<-Int.natCast_mul] at b2 b3 ⊢
 rw [u32_or_nat _ _ (by omega) (by omega),Nat.or_comm]
 have:=Nat.shiftLeft_add_eq_or_of_lt (i:=32-s) (b:=a) (by omega) b
 rw [Nat.shiftLeft_eq] at this
 rw [<-this]
 omega
theorem shrL_step (P R:Int) (x:List Int) (k:Nat) (h:k+1<x.length) :
    shrL P R (x.drop k)=(x[k]?.getD 0 / P+x[k+1]?.getD 0*R % 4294967296)::shrL P R (x.drop (k+1)):=by
 rw [drop_cons (show k<x.length by omega),drop_cons h,shrL]
theorem shrL_last (P R:Int) (x:List Int) (k:Nat) (h:k+1=x.length) :
    shrL P R (x.drop k)=(x[k]?.getD 0 / P)::shrL P R (x.drop (k+1)):=by
 rw [drop_cons (show k<x.length by omega),List.drop_eq_nil_of_le (by omega),shrL,shrL]
set_option maxHeartbeats 1000000 in
theorem shiftRight (va:Value) (l:List Int) (s:Nat) (w:World) (hr:Row .u32 w va l) (hl:l.length<=4294967296) (hs:s<32) :
    Calls Try.prog 80 #[va,.int .u64 (s:Int)] w (Ret1 w.heap.size w (N l / 2 ^ s)):=by
 have HD:=Lib.hid (Row.ds hr)
 have HP:=Lib.hid (pow_bd hs)
 obtain ⟨a1,p1,rfl,g1,m1,hcell1⟩:=Row.parts hr
 have HX:=Lib.hid hcell1
 clear hr hcell1
 generalize hnX:l.length=nX at *
 have HL:=Lib.hid hnX
 clear hnX
 go_enter Try.func80,Try.ntmps80
 go_wp2_with (at_make; refine make_row rfl (.tmp 9) (.tmp 9) 39 rfl w.heap.size 42 .u32 4 Try.underlying39 info32 _ nX rfl rfl rfl (by omega) (by unfold maxLen; omega) (Nat.le_refl _) ?_; intro w1 ho1 hb1)
 go_loopw [13] (fun i wr=>∃ (k:Nat) (pre:List Int),k<=nX/\i=.int .i64 k/\Hid (pre.length=k/\Ds pre/\pre++shrL (2 ^ s) (2 ^ (32-s)) (l.drop k)=shrL (2 ^ s) (2 ^ (32-s)) l) /\
     wr.ownsRow w.heap.size 42 1 (.slice (some ⟨w.heap.size,0,none⟩) nX nX) nX ((pre++List.replicate (nX-k) 0).map (Value.int .u32))/\Below w.heap.size w wr) (fun i _=>nX-(intOf i).toNat)
 case atStart=>exact ⟨0,[],Nat.zero_le _,rfl,⟨rfl,Ds.nil,rfl⟩,ho1,hb1⟩
 case round =>
  obtain ⟨k,pre,hk,rfl,hp,ho,hb⟩:=hrel
  by_cases hlt:k<nX
  ·obtain ⟨bx,ox,rfl,qx,wx⟩:=HX.out k (by omega)
   have qx:=cell_later hb qx
   have dx:=wf_u32 wx
   obtain ⟨hce,hfz⟩:=own_cell ho k (by omega)
   have hpow:(2:Int) ^ s=2 ^ s:=rfl
   by_cases hlt2:k+1<nX
   ·obtain ⟨by_,oy,ey,qy,wy⟩:=HX.out (k+1) (by omega)
    simp only [Option.some.injEq,Addr.mk.injEq,and_true] at ey
    obtain ⟨rfl,rfl⟩:=ey
    have dy:=wf_u32 wy
    have HS:=Lib.hid (shrL_step (2 ^ s) (2 ^ (32-s)) l k (by rw [HL.out]; exact hlt2))
    have QY:=Lib.hid qy
    have HWR:=Lib.hid (show IntKind.u64.wrap (l[k+1]?.getD 0*2 ^ (32-s)) % 4294967296=l[k+1]?.getD 0*2 ^ (32-s) % 4294967296 by
     rw [IntKind.wrap_u64]
     generalize l[k+1]?.getD 0*2 ^ (32-s)=z
     omega)
    generalize l[k]?.getD 0=x at *
    generalize l[k+1]?.getD 0=y at *
    have HO:=Lib.hid (shr_or32 hs x y dx dy)
    have HA:=Lib.hid (show ((pre++[x / 2 ^ s])++List.replicate (nX-(k+1)) 0)[k]?.getD 0=x / 2 ^ s by
     rw [List.append_assoc,List.getElem?_append_right (by rw [hp.out.1]; exact Nat.le_refl _),hp.out.1,Nat.sub_self]; rfl)
    clear wx wy hpow qy
    go_wp2
    have ho2:=own_store ho k (x / 2 ^ s)
    rw [set_zeros hp.out.1 hlt] at ho2
    have hb2:=hb.setCell (p:=⟨w.heap.size,k,none⟩) (Nat.le_refl _) (.int .u32 (x / 2 ^ s))
    have qy:=cell_later hb2 QY.out
    obtain ⟨hce2,hfz2⟩:=own_cell ho2 k (by omega)
    rw [HA.out] at hce2
    generalize (wr.setCell ⟨w.heap.size,k,none⟩ (.int .u32 (x / 2 ^ s)))=w2 at *
    clear hce hfz qx
    go_region
    go_wp2
    rw [HWR.out,HO.out.1]
    refine ⟨⟨k+1,pre++[x / 2 ^ s+y*2 ^ (32-s) % 4294967296],by omega,by go_num,⟨by simp [hp.out.1],hp.out.2.1.app (Ds.cons HO.out.2 Ds.nil),?_⟩,?_,(hb2.setCell (Nat.le_refl _) _).drew⟩,by simp [intOf]; omega⟩
    ·rw [<-hp.out.2.2,HS.out,List.append_assoc]; rfl
    ·have:=(own_store ho2 k (x / 2 ^ s+y*2 ^ (32-s) % 4294967296)).drew
     rw [List.append_assoc,List.set_append_right _ _ (by rw [hp.out.1]; exact Nat.le_refl _),hp.out.1,Nat.sub_self] at this
     rw [List.append_assoc]
     exact this
   ·have HS:=Lib.hid (shrL_last (2 ^ s) (2 ^ (32-s)) l k (by rw [HL.out]; omega))
    have HB:=Lib.hid (show 0<=l[k]?.getD 0 / 2 ^ s/\l[k]?.getD 0 / 2 ^ s<4294967296 by
     have:=HP.out
     refine ⟨Int.ediv_nonneg dx.1 (by omega),?_⟩
     have:=Int.ediv_le_self (2 ^ s) dx.1
     omega)
    generalize l[k]?.getD 0=x at *
    clear wx hpow
    go_wp2
    refine ⟨⟨k+1,pre++[x / 2 ^ s],by omega,by go_num,⟨by simp [hp.out.1],hp.out.2.1.app (Ds.cons HB.out Ds.nil),?_⟩,?_,hb.setCell (Nat.le_refl _) _⟩,by simp [intOf]; omega⟩
    ·rw [<-hp.out.2.2,HS.out,List.append_assoc]; rfl
    ·have:=own_store ho k (x / 2 ^ s)
     rwa [set_zeros hp.out.1 hlt] at this
  ·obtain rfl:k=nX:=by omega
   have HE:=Lib.hid (show pre=shrL (2 ^ s) (2 ^ (32-s)) l by
    have e1:=hp.out.2.2
    rw [List.drop_eq_nil_of_le (by rw [HL.out]; exact Nat.le_refl _),shrL,List.append_nil] at e1
    exact e1)
   have HV:=Lib.hid (shrL_N hs l)
   rw [<-HE.out] at HV
   have HQ:=Lib.hid hp.out.2.1
   rw [Nat.sub_self,List.replicate_zero,List.append_nil] at ho
   clear hp HE
   go_wp2_with fail
   refine (trimN ho HQ.out).mono ?_
   rintro e w' ⟨v',rfl,hn,rfl⟩
   rw [HV.out] at hn
   go_wp2_with fail
   go_ret
   exact ⟨v',rfl,hn,hb⟩
end Go.Proofs.Ytbokoblnehgkaaa.Nt
namespace Go.Proofs.Ytbokoblnehgkaaa.Nt
open Go.ChangeShapes Go.WideShapes Go.ChangeAt Go.RowKit B
set_option linter.unusedVariables false
def OwnN (base g m:Nat) (w:World) (L:List Int):Prop:=w.ownsRow base 42 1 (.slice (some ⟨g,0,none⟩) m m) m (L.map (Value.int .u32))
def Firm (base:Nat) (w:World) (v:Value) (l:List Int):Prop:=∀ w',Below base w w'->Row .u32 w' v l
def RetSm (base g m:Nat) (w:World) (L V:List Int) (j:Nat) (f:Int) (e:Ending) (w':World):Prop :=
 ∃ b:Bool,e=.returned (.bool b)/\(smF f (L.drop j) V 0 0=if b then 1 else 0)/\OwnN base g m w' (L.take j++smL f (L.drop j) V 0 0)/\Only g w w'
theorem and_mask (t:Int) (h0:0<=t) (h1:t<18446744073709551616):bits .and .u64 t 4294967295=t % 4294967296:=by
 obtain ⟨n,rfl⟩:=Int.eq_ofNat_of_zero_le h0
 rw [show (4294967295:Int)=((4294967295:Nat):Int) from rfl,u64_and_nat _ _ (by omega) (by decide),show (4294967295:Nat)=2 ^ 32-1 from rfl,Nat.and_two_pow_sub_one_eq_mod]
 omega
set_option maxHeartbeats 1000000 in
theorem subMul (vv:Value) (base g m cw:Nat) (L V:List Int) (j:Nat) (f:Int) (w:World) (ho:OwnN base g m w L) (hV:Firm base w vv V) (hbg:base<=g) (hbs:base<=w.heap.size) (hL:Ds L)
    (hj:j+V.length+1<=m) (hm:m<=8589934592) (hcw:V.length+1<=cw) (hf:0<=f/\f<4294967296) :
    Calls Try.prog 78 #[.slice (some ⟨g,j,none⟩) (V.length+1) cw,vv,.int .u64 f] w (RetSm base g m w L V j f):=by
 have hLm:L.length=m:=by have:=ho.1; simpa using this
 have HO:=Lib.hid ho
 have HV:=Lib.hid hV
 have HLD:=Lib.hid hL
 have HLM:=Lib.hid hLm
 have hrow:=hV w (Below.refl _ _)
 have HVD:=Lib.hid (Row.ds hrow)
 obtain ⟨a2,p2,rfl,g2,m2,_⟩:=Row.parts hrow
 clear ho hV hL hLm hrow
 generalize hn:V.length=n at *
 have HN:=Lib.hid hn
 clear hn
 go_enter Try.func78,Try.ntmps78
 go_wp2
 go_loopw [8,9,19] (fun t u i wr=>∃ (k:Nat) (c b:Int) (pre:List Int),k<=n/\i=.int .i64 k/\t=.int .u64 c/\u=.int .u64 b/\0<=c/\c<4294967296/\0<=b/\b<=1 /\
     Hid (pre.length=j+k/\Ds pre/\pre++smL f (L.drop (j+k)) (V.drop k) c b=L.take j++smL f (L.drop j) V 0 0/\smF f (L.drop (j+k)) (V.drop k) c b=smF f (L.drop j) V 0 0) /\
     OwnN base g m wr (pre++L.drop (j+k))/\Only g w wr) (fun _ _ i _=>n-(intOf i).toNat)
 case atStart=>exact ⟨0,0,0,L.take j,Nat.zero_le _,rfl,rfl,rfl,by omega,by omega,by omega,by omega,⟨by simp; have:=HLM.out; omega,HLD.out.take j,rfl,rfl⟩,by rw [Nat.add_zero,List.take_append_drop]; exact HO.out,Only.refl _ _⟩
 case round =>
  obtain ⟨k,c,b,pre,hk,rfl,rfl,rfl,hc0,hc1,hb0,hb1,hp,ho,hb⟩:=hrel
  have hkj:j+k<L.length:=by have:=HLM.out; omega
  obtain ⟨hce,hfz⟩:=own_cell ho (j+k) (by omega)
  rw [at_border hp.out.1 hkj] at hce
  have dr:=HLD.out.at (j+k)
  by_cases hlt:k<n
  ·obtain ⟨a',c',e',_,_,hcell⟩:=Row.parts (HV.out wr (hb.below hbs hbg))
   simp only [Value.slice.injEq] at e'
   obtain ⟨rfl,_,rfl⟩:=e'
   obtain ⟨by_,oy,rfl,qy,wy⟩:=hcell k (by rw [HN.out]; exact hlt)
   have dy:=wf_u32 wy
   clear hcell wy
   have hxy:=mul_bd hf dy
   have HS:=Lib.hid (smL_step f L V j k c b hkj (by rw [HN.out]; exact hlt))
   have HB:=Lib.hid (set_border hp.out.1 hkj)
   generalize V[k]?.getD 0=y at *
   generalize L[j+k]?.getD 0=z at *
   have hand:=and_mask (f*y+c) (by omega) (by omega)
   have HU:=Lib.hid (u64_sub2 z ((f*y+c) % 4294967296) b dr (by omega) (by omega))
   go_wp2
   rw [HU.out.1,HU.out.2]
   refine ⟨⟨k+1,(f*y+c) / 4294967296,-((z-(f*y+c) % 4294967296-b) / 4294967296),pre++[(z-(f*y+c) % 4294967296-b) % 4294967296],by omega,by go_num,rfl,rfl,by omega,by omega,by omega,by omega,⟨?_,hp.out.2.1.app (Ds.cons (by omega) Ds.nil),?_,?_⟩,?_,hb.set _ _⟩,by simp [intOf]; omega⟩
   ·have:=hp.out.1; simp; omega
   ·rw [<-hp.out.2.2.1,HS.out.1,List.append_assoc]; rfl
   ·rw [<-hp.out.2.2.2,HS.out.2]
   ·have:=own_store ho (j+k) ((z-(f*y+c) % 4294967296-b) % 4294967296)
    rw [HB.out] at this
    exact this
  ·obtain rfl:k=n:=by omega
   have HS:=Lib.hid (smL_last f L V j c b (by rw [HN.out]; exact hkj))
   rw [HN.out] at HS
   have HB:=Lib.hid (set_border hp.out.1 hkj)
   generalize L[j+k]?.getD 0=z at *
   have HU:=Lib.hid (u64_sub2 z c b dr (by omega) (by omega))
   have hs2:=own_store ho (j+k) ((z-c-b) % 4294967296)
   rw [HB.out,List.append_assoc] at hs2
   have HE:=Lib.hid (show pre++([(z-c-b) % 4294967296]++L.drop (j+k+1))=L.take j++smL f (L.drop j) V 0 0 by
    rw [<-hp.out.2.2.1,HS.out.1]; rfl)
   have HF:=Lib.hid (show smF f (L.drop j) V 0 0 = -((z-c-b) / 4294967296) by
    rw [<-hp.out.2.2.2,HS.out.2])
   rw [HE.out] at hs2
   go_wp2
   go_ret
   refine ⟨decide (-((z-c-b) / 4294967296)=1),?_,?_,?_,hb.set _ _⟩
   ·show Ending.returned (.bool (IntKind.u64.wrap (IntKind.u64.wrap (z-c)-b) / 9223372036854775808 == 1))=_
    rw [HU.out.2]; rfl
   ·rw [HF.out]
    by_cases h1:-((z-c-b) / 4294967296)=1
    ·simp [h1]
    ·simp [h1]; omega
   ·rw [HU.out.1]
    exact hs2
def RetAb (base g m:Nat) (w:World) (L V:List Int) (j:Nat) (e:Ending) (w':World):Prop :=
 e=.returned (.tuple #[])/\OwnN base g m w' (L.take j++abL (L.drop j) V 0)/\Only g w w'
set_option maxHeartbeats 1000000 in
theorem addBack (vv:Value) (base g m cw:Nat) (L V:List Int) (j:Nat) (w:World) (ho:OwnN base g m w L) (hV:Firm base w vv V) (hbg:base<=g) (hbs:base<=w.heap.size) (hL:Ds L)
    (hj:j+V.length+1<=m) (hm:m<=8589934592) (hcw:V.length+1<=cw) :
    Calls Try.prog 79 #[.slice (some ⟨g,j,none⟩) (V.length+1) cw,vv] w (RetAb base g m w L V j):=by
 have hLm:L.length=m:=by have:=ho.1; simpa using this
 have HO:=Lib.hid ho
 have HV:=Lib.hid hV
 have HLD:=Lib.hid hL
 have HLM:=Lib.hid hLm
 have hrow:=hV w (Below.refl _ _)
 have HVD:=Lib.hid (Row.ds hrow)
 obtain ⟨a2,p2,rfl,g2,m2,_⟩:=Row.parts hrow
 clear ho hV hL hLm hrow
 generalize hn:V.length=n at *
 have HN:=Lib.hid hn
 clear hn
 go_enter Try.func79,Try.ntmps79
 go_wp2
 go_loopw [4,10] (fun t i wr=>∃ (k:Nat) (c:Int) (pre:List Int),k<=n/\i=.int .i64 k/\t=.int .u64 c/\0<=c/\c<=1 /\
     Hid (pre.length=j+k/\Ds pre/\pre++abL (L.drop (j+k)) (V.drop k) c=L.take j++abL (L.drop j) V 0) /\
     OwnN base g m wr (pre++L.drop (j+k))/\Only g w wr) (fun _ i _=>n-(intOf i).toNat)
 case atStart=>exact ⟨0,0,L.take j,Nat.zero_le _,rfl,rfl,by omega,by omega,⟨by simp; have:=HLM.out; omega,HLD.out.take j,rfl⟩,by rw [Nat.add_zero,List.take_append_drop]; exact HO.out,Only.refl _ _⟩
 case round =>
  obtain ⟨k,c,pre,hk,rfl,rfl,hc0,hc1,hp,ho,hb⟩:=hrel
  have hkj:j+k<L.length:=by have:=HLM.out; omega
  obtain ⟨hce,hfz⟩:=own_cell ho (j+k) (by omega)
  rw [at_border hp.out.1 hkj] at hce
  have dr:=HLD.out.at (j+k)
  by_cases hlt:k<n
  ·obtain ⟨a',c',e',_,_,hcell⟩:=Row.parts (HV.out wr (hb.below hbs hbg))
   simp only [Value.slice.injEq] at e'
   obtain ⟨rfl,_,rfl⟩:=e'
   obtain ⟨by_,oy,rfl,qy,wy⟩:=hcell k (by rw [HN.out]; exact hlt)
   have dy:=wf_u32 wy
   clear hcell wy
   have HS:=Lib.hid (abL_step L V j k c hkj (by rw [HN.out]; exact hlt))
   have HB:=Lib.hid (set_border hp.out.1 hkj)
   generalize V[k]?.getD 0=y at *
   generalize L[j+k]?.getD 0=z at *
   go_wp2
   refine ⟨⟨k+1,(z+y+c) / 4294967296,pre++[(z+y+c) % 4294967296],by omega,by go_num,rfl,by omega,by omega,⟨?_,hp.out.2.1.app (Ds.cons (by omega) Ds.nil),?_⟩,?_,hb.set _ _⟩,by simp [intOf]; omega⟩
   ·have:=hp.out.1; simp; omega
   ·rw [<-hp.out.2.2,HS.out,List.append_assoc]; rfl
   ·have:=own_store ho (j+k) ((z+y+c) % 4294967296)
    rw [HB.out] at this
    exact this
  ·obtain rfl:k=n:=by omega
   have HS:=Lib.hid (abL_last L V j c (by rw [HN.out]; exact hkj))
   rw [HN.out] at HS
   have HB:=Lib.hid (set_border hp.out.1 hkj)
   generalize L[j+k]?.getD 0=z at *
   have hs2:=own_store ho (j+k) ((z+c) % 4294967296)
   rw [HB.out,List.append_assoc] at hs2
   have HE:=Lib.hid (show pre++([(z+c) % 4294967296]++L.drop (j+k+1))=L.take j++abL (L.drop j) V 0 by
    rw [<-hp.out.2.2,HS.out]; rfl)
   rw [HE.out] at hs2
   go_wp2
   go_end0
   refine ⟨rfl,?_,hb.set _ _⟩
   exact hs2
end Go.Proofs.Ytbokoblnehgkaaa.Nt
namespace Go.Proofs.Ytbokoblnehgkaaa.Nt
open Go.ChangeShapes Go.WideShapes Go.ChangeAt Go.RowKit B
set_option linter.unusedVariables false
def RetGuess (w:World) (q:Int) (e:Ending) (w':World):Prop :=
 ∃ g:Int,e=.returned (.int .u64 g)/\0<=g/\g<4294967296/\q<=g/\g<=q+1/\Below w.heap.size w w'
set_option maxHeartbeats 1000000 in
theorem guess (vu vv:Value) (W V:List Int) (n:Nat) (w:World) (hu:Row .u32 w vu W) (hv:Row .u32 w vv V) (hW:W.length=n+3) (hV:V.length=n+2) (hn:n<=4294967296)
    (htop:2147483648<=V[n+1]?.getD 0) (hlt:N W<N V*4294967296) :
    Calls Try.prog 77 #[vu,vv] w (RetGuess w (N W / N V)):=by
 have DW:=Row.ds hu
 have DV:=Row.ds hv
 obtain ⟨eW,uL,uH⟩:=N_top3 DW n hW
 obtain ⟨eV,vL,vH⟩:=N_top2 DV n hV
 have hM:=Bp_pos n
 obtain ⟨a1,p1,rfl,g1,m1,cu⟩:=Row.parts hu
 obtain ⟨a2,p2,rfl,g2,m2,cv⟩:=Row.parts hv
 obtain ⟨b1,o1,rfl,q0,_⟩:=cu n (by omega)
 obtain ⟨b1',o1',e1,q1,_⟩:=cu (n+1) (by omega)
 simp only [Option.some.injEq,Addr.mk.injEq,and_true] at e1
 obtain ⟨rfl,rfl⟩:=e1
 obtain ⟨b1',o1',e1,q2,_⟩:=cu (n+2) (by omega)
 simp only [Option.some.injEq,Addr.mk.injEq,and_true] at e1
 obtain ⟨rfl,rfl⟩:=e1
 obtain ⟨b2,o2,rfl,r0,_⟩:=cv n (by omega)
 obtain ⟨b2',o2',e1,r1,_⟩:=cv (n+1) (by omega)
 simp only [Option.some.injEq,Addr.mk.injEq,and_true] at e1
 obtain ⟨rfl,rfl⟩:=e1
 have d0:=DW.at n
 have d1:=DW.at (n+1)
 have d2:=DW.at (n+2)
 have f0:=DV.at n
 have f1:=DV.at (n+1)
 rw [hW] at g1 ⊢
 rw [hV] at g2 ⊢
 clear cu cv hu hv DW DV
 generalize W[n]?.getD 0=u2 at *
 generalize W[n+1]?.getD 0=u1 at *
 generalize W[n+2]?.getD 0=u0 at *
 generalize V[n]?.getD 0=v2 at *
 generalize V[n+1]?.getD 0=v1 at *
 generalize N (W.take n)=Ul at *
 generalize N (V.take n)=Vl at *
 generalize Bp n=M at *
 generalize N W=Wn at *
 generalize N V=Vn at *
 have htop2:u0*4294967296+u1<=v1*4294967296+4294967295:=gd_top hM vH uL f0.2 d0.1 eW eV hlt
 have hV1:1<=Vn:=by
  have:=Int.mul_le_mul_of_nonneg_left (show 1<=v2+4294967296*v1 by omega) (show 0<=M by omega)
  omega
 have hq0:0<=Wn / Vn:=Int.ediv_nonneg (by
  have:=Int.mul_nonneg (show 0<=M by omega) (show 0<=u2+4294967296*(u0*4294967296+u1) by omega)
  omega) (by omega)
 have hq1:Wn / Vn*Vn<=Wn:=Int.ediv_mul_le _ (by omega)
 have hq2:Wn<(Wn / Vn+1)*Vn:=by
  have:=Int.lt_ediv_add_one_mul_self Wn (show 0<Vn by omega)
  exact this
 have HST:=Lib.hid (gd_start hM vL uH (show 1<=v1 by omega) f0.1 d0.2 hq0 eW eV hq1)
 have HDN:Hid (∀ g rest:Int,0<=g->u0*4294967296+u1=g*v1+rest->(4294967296<=g∨rest*4294967296+u2<g*v2)->Wn / Vn<=g-1) :=
  fun g rest hg ht hbad=>gd_down hM vL uH hg hV1 eW eV hq1 hlt ht hbad
 have HEN:Hid (∀ g rest:Int,0<=g/\g<4294967296->u0*4294967296+u1=g*v1+rest->(4294967296<=rest∨g*v2<=rest*4294967296+u2)->g<=Wn / Vn+1) :=
  fun g rest hg ht hgood=>gd_end hM ⟨vL,vH⟩ uL hg (by omega) f0 d0.1 eW eV hq2 ht hgood
 generalize Wn / Vn=q at *
 clear eW eV hlt hq1 hq2 hM vL vH uL uH hW hV
 have hor:=shl_or u0 u1 d2 d1
 have hdiv:0<=(u0*4294967296+u1) / v1/\0<=(u0*4294967296+u1) % v1/\(u0*4294967296+u1) % v1<v1:=⟨Int.ediv_nonneg (by omega) (by omega),Int.emod_nonneg _ (by omega),Int.emod_lt_of_pos _ (by omega)⟩
 have HDE:=Lib.hid (Int.mul_ediv_add_emod (u0*4294967296+u1) v1)
 go_enter Try.func77,Try.ntmps77
 go_wp2
 go_quiet (fail)
 have hb1:=below_drewN (Below.refl w.heap.size w) nq
 have CQ:=Lib.hid (And.intro q0 (And.intro r0 r1))
 have q0:=cell_later hb1 q0
 have q1:=cell_later hb1 q1
 have q2:=cell_later hb1 q2
 have r0:=cell_later hb1 r0
 have r1:=cell_later hb1 r1
 generalize w.drewN nq=w1 at *
 go_wp2
 have hg0:(u0*4294967296+u1) / v1<=4294967297:=by
  have h1:=HDE.out
  rcases Int.lt_or_le 4294967297 ((u0*4294967296+u1) / v1) with hh|hh
  ·have:=Int.mul_le_mul_of_nonneg_left (show 4294967298<=(u0*4294967296+u1) / v1 by omega) (show 0<=v1 by omega)
   omega
  ·exact hh
 have HDE2:=Lib.hid (show u0*4294967296+u1=(u0*4294967296+u1) / v1*v1+(u0*4294967296+u1) % v1 by rw [Int.mul_comm _ v1]; exact HDE.out.symm)
 clear HDE hor
 have HTOP:=Lib.hid htop2
 clear htop2
 generalize (u0*4294967296+u1) / v1=g00 at *
 generalize (u0*4294967296+u1) % v1=r00 at *
 generalize u0*4294967296+u1=top at *
 obtain ⟨hdiv0,hdiv1,hdiv2⟩:=hdiv
 go_loopw [7,8] (fun a b wr=>∃ g rest:Int,a=.int .u64 g/\b=.int .u64 rest/\0<=g/\g<=4294967297/\0<=rest/\rest<4294967296/\Hid (top=g*v1+rest)/\Hid (q<=g)/\Below w.heap.size w wr) (fun a _ _=>(intOf a).toNat)
 case atStart=>exact ⟨g00,r00,rfl,rfl,hdiv0,hg0,hdiv1,by omega,HDE2.out,HST.out,hb1⟩
 case round =>
  obtain ⟨g,rest,rfl,rfl,hg,hgB,hr0,hr1,ht,hq,hb⟩:=hrel
  have q0:=cell_later hb CQ.out.1
  have r0:=cell_later hb CQ.out.2.1
  have r1:=cell_later hb CQ.out.2.2
  by_cases hge:4294967296<=g
  ·have hdn:=HDN.out g rest hg ht.out (.inl hge)
   have hgd:decide (4294967296<=g)=true:=by simp; omega
   have HT2:=Lib.hid (show top=(g-1)*v1+(rest+v1) by rw [Int.sub_mul,Int.one_mul]; have:=ht.out; omega)
   have HQ2:=Lib.hid hdn
   clear hdn
   go_wp2
   go_quiet (fail)
   have hb3:=below_drewN hb nq
   have r1:=cell_later (below_drewN (Below.refl _ wr) nq) r1
   generalize wr.drewN nq=w2 at *
   by_cases hbr:4294967296<=rest+v1
   ·have hgl:g-1<4294967296:=by
      rcases Int.lt_or_le 4294967296 g with hh|hh
      ·obtain rfl:g=4294967297:=by omega
       have:=ht.out
       have:=HTOP.out
       omega
      ·omega
    have hfin:=HEN.out (g-1) (rest+v1) ⟨by omega,hgl⟩ HT2.out (.inl hbr)
    have HFIN:=Lib.hid hfin
    clear hfin
    go_wp2
    go_ret
    exact ⟨g-1,rfl,by omega,hgl,HQ2.out,HFIN.out,hb3⟩
   ·go_wp2
    exact ⟨⟨g-1,rest+v1,rfl,rfl,by omega,by omega,by omega,by omega,HT2.out,HQ2.out,hb3⟩,by simp [intOf]; omega⟩
  ·have hgd:decide (4294967296<=g)=false:=by simp; omega
   have hmb:=mul_bd (x:=g) (y:=v2) ⟨hg,by omega⟩ f0
   have hor:=shl_or rest u2 ⟨hr0,hr1⟩ d0
   by_cases hbad:rest*4294967296+u2<g*v2
   ·have hdn:=HDN.out g rest hg ht.out (.inr hbad)
    have HT2:=Lib.hid (show top=(g-1)*v1+(rest+v1) by rw [Int.sub_mul,Int.one_mul]; have:=ht.out; omega)
    have HQ2:=Lib.hid hdn
    have hg1:1<=g:=by omega
    clear hdn
    go_wp2
    go_quiet (fail)
    have hb3:=below_drewN hb nq
    have r1:=cell_later (below_drewN (Below.refl _ wr) nq) r1
    generalize wr.drewN nq=w2 at *
    by_cases hbr:4294967296<=rest+v1
    ·have hfin:=HEN.out (g-1) (rest+v1) ⟨by omega,by omega⟩ HT2.out (.inl hbr)
     have HFIN:=Lib.hid hfin
     clear hfin
     go_wp2
     go_ret
     exact ⟨g-1,rfl,by omega,by omega,HQ2.out,HFIN.out,hb3⟩
    ·go_wp2
     exact ⟨⟨by omega,by omega⟩,by simp [intOf]; omega⟩
   ·have hfin:=HEN.out g rest ⟨hg,by omega⟩ ht.out (.inr (by omega))
    have HFIN:=Lib.hid hfin
    clear hfin
    go_wp2
    go_quiet (fail)
    have hb3:=below_drewN hb nq
    generalize wr.drewN nq=w2 at *
    go_wp2
    go_ret
    exact ⟨g,rfl,hg,by omega,hq.out,HFIN.out,hb3⟩
end Go.Proofs.Ytbokoblnehgkaaa.Nt
