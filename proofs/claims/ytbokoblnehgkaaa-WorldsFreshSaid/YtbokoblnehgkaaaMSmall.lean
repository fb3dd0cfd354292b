/-
  Trim, Small, in one text: see the remarks at the head of each part.
-/
import Derived.Test.YtbokoblnehgkaaaBase
import Derived.Test.YtbokoblnehgkaaaNum
import Derived.Test.YtbokoblnehgkaaaShelf
import Derived.Lib.ItoaNum
import Derived.WalkSmall
namespace Go.Proofs.Ytbokoblnehgkaaa.Nt
open Go.ChangeShapes Go.WideShapes Go.ChangeAt Go.RowKit B
set_option linter.unusedVariables false
theorem info32:(Try.prog.info? 42).map (fun i=>(i.zero,i.size,i.bytes))=some (some (.int .u32 0),1,4):=by kernel_rfl
theorem Row.ds {w:World} {v:Value} {l:List Int} (h:Row .u32 w v l):Ds l:=fun d hd=>wf_u32 (h.wf d hd)
def Num (w:World) (v:Value) (c:Nat) (n:Int):Prop:=∃ l,Row .u32 w v l/\l.length<=c/\N l=n
def IsNew (base:Nat) (w:World) (v:Value) (n:Int):Prop:=∃ l,Row .u32 w v l/\Canon l/\N l=n/\Fresh 42 base w v
def Ret1 (base:Nat) (w:World) (n:Int) (e:Ending) (w':World):Prop:=∃ v,e=.returned v/\IsNew base w' v n/\Below base w w'
theorem Num.keep {w w':World} {v:Value} {c:Nat} {n:Int} (h:Num w v c n) (hb:Below w.heap.size w w'):Num w' v c n:=by
 obtain ⟨l,h1,h2,h3⟩:=h
 exact ⟨l,h1.keep hb,h2,h3⟩
theorem Num.nonneg {w:World} {v:Value} {c:Nat} {n:Int} (h:Num w v c n):0<=n:=by
 obtain ⟨l,h1,h2,rfl⟩:=h
 exact N_nonneg (Row.ds h1)
theorem Num.lt {w:World} {v:Value} {c:Nat} {n:Int} (h:Num w v c n):n<Bp c:=by
 obtain ⟨l,h1,h2,rfl⟩:=h
 have:=N_lt (Row.ds h1)
 have:=Bp_mono h2
 omega
theorem IsNew.num {base:Nat} {w:World} {v:Value} {n:Int} (h:IsNew base w v n) (c:Nat) (hc:n<Bp c):Num w v c n:=by
 obtain ⟨l,h1,h2,rfl,_⟩:=h
 exact ⟨l,h1,h2.len c hc,rfl⟩
theorem IsNew.nonneg {base:Nat} {w:World} {v:Value} {n:Int} (h:IsNew base w v n):0<=n:=by
 obtain ⟨l,h1,h2,rfl,_⟩:=h
 exact N_nonneg h2.1
theorem IsNew.nil (base:Nat) (w:World):IsNew base w (.slice none 0 0) 0:=⟨[],Row.nil _ _,Canon.nil,rfl,Fresh.nil _ _ _⟩
def Trimmed (v:Value) (l:List Int) (w:World) (e:Ending) (w':World):Prop :=
 ∃ a cap n,v=.slice a l.length cap/\n<=l.length/\e=.returned (.slice a n n)/\N (l.take n)=N l/\Canon (l.take n)/\w=w'
theorem Row.cut {w:World} {a:Option Addr} {len cap:Nat} {l:List Int} (h:Row .u32 w (.slice a len cap) l) (n:Nat) (hn:n<=l.length):Row .u32 w (.slice a n n) (l.take n):=by
 have hl:=h.len
 obtain ⟨a',c,e,h1,h2,h0,h3,h4⟩:=h
 cases e
 have hlen:(l.take n).length=n:=by simp; omega
 refine ⟨a,n,by rw [hlen],by omega,by omega,fun e=>by have:=h0 e; omega,fun x hx=>h3 x (List.mem_of_mem_take hx),fun hne=>?_⟩
 obtain ⟨b,off,rfl,hc⟩:=h4 (by rintro rfl; simp at hne)
 refine ⟨b,off,rfl,fun i hi=>?_⟩
 rw [hlen] at hi
 rw [hc i (by omega),getD_take _ _ _ hi]
theorem trim (v:Value) (l:List Int) (w:World) (h:Row .u32 w v l) :
    Calls Try.prog 42 #[v] w (Trimmed v l w):=by
 have hds:=Row.ds h
 obtain ⟨a,cap,rfl,hcl,hcm,hc⟩:=Row.parts h
 have h0:a=none->cap=0:=by obtain ⟨_,_,e,_,_,h,_⟩:=h; cases e; exact h
 clear h
 have HC:=Lib.hid hc
 have HD:=Lib.hid hds
 have HO:=Lib.hid h0
 clear hc hds h0
 generalize hL:l.length=len at *
 have HL:=Lib.hid hL
 clear hL
 go_enter Try.func42,Try.ntmps42
 go_wp2
 go_loop [3] (fun t=>∃ k:Nat,k<=len/\t=.int .i64 k/\Hid (∀ i,k<=i->i<len->l[i]?.getD 0=0)) (fun t=>(intOf t).toNat)
 case atStart=>exact ⟨len,Nat.le_refl _,rfl,fun i h1 h2=>by omega⟩
 case round =>
  obtain ⟨k,hk,rfl,hz⟩:=hrel
  rcases k with _|j
  ·have HT:=Lib.hid (And.intro (trimmed (l:=l) 0 (Nat.zero_le _) (by rw [HL.out]; exact hz.out)) (canon_take HD.out 0 (Nat.zero_le _) (.inl rfl)))
   go_wp2
   go_ret
   exact ⟨a,cap,0,by rw [HL.out],Nat.zero_le _,rfl,HT.out.1,HT.out.2,rfl⟩
  ·obtain ⟨b,off,rfl,hcell,hw⟩:=HC.out j (by omega)
   by_cases h0:l[j]?.getD 0=0
   ·have HZ:Hid (∀ i,j<=i->i<len->l[i]?.getD 0=0):=fun i h1 h2=>by
      by_cases e:i=j
      ·subst e; exact h0
      ·exact hz.out i (by omega) h2
    rw [h0] at hcell
    clear h0 hw hz
    go_wp2
    refine ⟨⟨j,by omega,by go_num,HZ⟩,by simp [intOf]⟩
   ·have HT:=Lib.hid (And.intro (trimmed (l:=l) (j+1) (by rw [HL.out]; exact hk) (by rw [HL.out]; exact hz.out)) (canon_take HD.out (j+1) (by rw [HL.out]; exact hk) (.inr h0)))
    have hne:((l[j]?.getD 0) == 0)=false:=by rw [beq_eq_false_iff_ne]; exact h0
    clear h0 hw hz
    go_wp2
    go_ret
    exact ⟨some ⟨b,off,none⟩,cap,j+1,by rw [HL.out],by rw [HL.out]; exact hk,rfl,HT.out.1,HT.out.2,rfl⟩
def TrimR (w:World) (v:Value) (l:List Int) (e:Ending) (w':World):Prop :=
 ∃ v' l',e=.returned v'/\Row .u32 w v' l'/\N l'=N l/\Canon l'/\l'.length<=l.length/\(∀ base,Fresh 42 base w v->Fresh 42 base w v')/\w=w'
theorem trimR (v:Value) (l:List Int) (w:World) (h:Row .u32 w v l):Calls Try.prog 42 #[v] w (TrimR w v l):=by
 refine (trim v l w h).mono ?_
 rintro e w' ⟨a,cap,n,rfl,hn,rfl,h1,h2,h3⟩
 exact ⟨_,_,rfl,Row.cut h n hn,h1,h2,by simp; omega,fun base hf=>hf.cut,h3⟩
def TrimN (base:Nat) (w:World) (n:Int) (e:Ending) (w':World):Prop:=∃ v',e=.returned v'/\IsNew base w v' n/\w=w'
theorem trimN {base:Nat} {w:World} {v:Value} {m:Nat} {l:List Int} (h:w.ownsRow base 42 1 v m (l.map (Value.int .u32))) (hd:Ds l) :
    Calls Try.prog 42 #[v] w (TrimN base w (N l)):=by
 refine (trimR v l w (Row.ofOwn h (fun n hn=>wf32 (hd n hn)))).mono ?_
 rintro e w' ⟨v',l',rfl,h1,h2,h3,_,h4,rfl⟩
 exact ⟨v',rfl,⟨l',h1,h3,h2,h4 base (own_fresh h)⟩,rfl⟩
end Go.Proofs.Ytbokoblnehgkaaa.Nt
namespace Go.Proofs.Ytbokoblnehgkaaa.Nt
open Go.ChangeShapes Go.WideShapes Go.ChangeAt Go.RowKit B
set_option linter.unusedVariables false
theorem own2 (w:World) (x y:Int):(w.alloc (.cells #[.int .u32 x,.int .u32 y] 42)).ownsRow w.heap.size 42 1 (.slice (some ⟨w.heap.size,0,none⟩) 2 2) 2 (([x,y]:List Int).map (Value.int .u32)):=by
 refine ⟨rfl,.inr ⟨w.heap.size,2,#[.int .u32 x,.int .u32 y],rfl,Nat.le_refl _,?_,by simp,by simp [maxLen],rfl,rfl⟩⟩
 show (w.heap.push _)[w.heap.size]?=_
 simp
theorem fromUint64 (n:Int) (w:World) (h0:0<=n) (h1:n<18446744073709551616) :
    Calls Try.prog 24 #[.int .u64 n] w (Ret1 w.heap.size w n):=by
 have hN:N [n % 4294967296,n / 4294967296]=n:=by simp [N]; omega
 have hD:Ds [n % 4294967296,n / 4294967296]:=Ds.cons (by omega) (Ds.cons (by omega) Ds.nil)
 have HN:=Lib.hid hN
 have HD:=Lib.hid hD
 clear hN hD
 go_enter Try.func24,Try.ntmps24
 go_wp2_with fail
 refine (trimN (own2 w _ _) HD.out).mono ?_
 rintro e w' ⟨v',rfl,hn,rfl⟩
 go_wp2_with fail
 go_ret
 rw [HN.out] at hn
 exact ⟨v',rfl,hn,(Below.refl _ _).alloc (Nat.le_refl _) _⟩
theorem normalize (v:Value) (c:Nat) (n:Int) (w:World) (h:Num w v c n) (hc:c<=4294967296) :
    Calls Try.prog 45 #[v] w (Ret1 w.heap.size w n):=by
 obtain ⟨l,hr,hl,rfl⟩:=h
 have HR:=Lib.hid hr
 clear hr
 go_enter Try.func45,Try.ntmps45
 go_wp2_with fail
 refine (trimR v l w HR.out).mono ?_
 rintro e w' ⟨v',l',rfl,hr',hN,hC,hlen,_,rfl⟩
 obtain ⟨a,cap,rfl,_⟩:=Row.parts hr'
 have HR':=Lib.hid hr'
 have HN:=Lib.hid hN
 have HC:=Lib.hid hC
 clear hr' hN hC HR
 generalize hL:l'.length=n at *
 have HL:=Lib.hid hL
 clear hL
 go_wp2_with (first
  | (at_make; refine make_row rfl (.tmp 7) (.tmp 7) 39 rfl w.heap.size 42 .u32 4 Try.underlying39 info32 _ n rfl rfl rfl (by omega) (by unfold maxLen; omega) (Nat.le_refl _) ?_; intro w1 ho1 hb1)
  | (refine copy_full (o:=⟨some 11,_,_,_,_,_⟩) rfl (.tmp 9) (.tmp 10) 39 rfl w.heap.size 42 .u32 4 Try.underlying39 info32 _ n n _ rfl ho1 _ l' rfl (HR'.out.keep hb1) HL.out ?_; intro w2 ho2 hb2))
 go_ret
 exact ⟨_,rfl,⟨l',Row.ofOwn ho2 HR'.out.wf,HC.out,HN.out,own_fresh ho2⟩,hb1.trans hb2⟩
theorem shl_or (x y:Int) (hx:0<=x/\x<4294967296) (hy:0<=y/\y<4294967296):bits .or .u64 (x*4294967296) y=x*4294967296+y:=by
 obtain ⟨m,rfl⟩:=Int.eq_ofNat_of_zero_le hx.1
 obtain ⟨n,rfl⟩:=Int.eq_ofNat_of_zero_le hy.1
 have e:((m:Int)*4294967296)=((m*4294967296:Nat):Int):=by omega
 rw [e,u64_or_nat _ _ (by omega) (by omega)]
 have:=Nat.shiftLeft_add_eq_or_of_lt (i:=32) (b:=n) (by omega) m
 rw [Nat.shiftLeft_eq] at this
 rw [show m*4294967296=m*2 ^ 32 by rfl,<-this]
 omega
def u64R (n:Int):Value:=if n<18446744073709551616 then .tuple #[.int .u64 n,.bool true] else .tuple #[.int .u64 0,.bool false]
theorem uint64 (v:Value) (c:Nat) (n:Int) (w:World) (h:Num w v c n) :
    Calls Try.prog 41 #[v] w fun e w'=>e=.returned (u64R n)/\Below w.heap.size w w':=by
 obtain ⟨l,hr,hl,rfl⟩:=h
 have HR:=Lib.hid hr
 clear hr
 go_enter Try.func41,Try.ntmps41
 go_wp2_with fail
 refine (trimR v l w HR.out).mono ?_
 rintro e w' ⟨v',m,rfl,hr',hN,hC,hlen,_,rfl⟩
 clear HR hl hlen
 have HN:=Lib.hid hN
 have hds:=hC.1
 obtain ⟨a,cap,rfl,hcl,hcm,hcell⟩:=Row.parts hr'
 have HC:=Lib.hid hcell
 have HK:=Lib.hid hC
 have HD:=Lib.hid hds
 clear hr' hcell hC hds hN
 rcases m with _|⟨x,_|⟨y,_|⟨z,m⟩⟩⟩
 ·go_wp2
  go_ret2
  exact ⟨by rw [<-HN.out]; simp [u64R,N],Below.refl _ _⟩
 ·obtain ⟨b,off,rfl,q0,_⟩:=HC.out 0 (by simp)
  have hx:=HD.out.head
  simp only [List.getElem?_cons_zero,Option.getD_some,Nat.add_zero,List.length_cons,List.length_nil,Nat.zero_add] at q0 hcl hcm ⊢
  go_wp2
  go_ret2
  exact ⟨by rw [<-HN.out]; simp [u64R,N]; omega,Below.refl _ _⟩
 ·obtain ⟨b,off,rfl,q0,_⟩:=HC.out 0 (by simp)
  obtain ⟨b',off',e,q1,_⟩:=HC.out 1 (by simp)
  simp only [Option.some.injEq,Addr.mk.injEq,and_true] at e
  obtain ⟨rfl,rfl⟩:=e
  have hx:=HD.out.head
  have hy:=HD.out.tail.head
  simp only [List.getElem?_cons_zero,List.getElem?_cons_succ,Option.getD_some,Nat.add_zero,List.length_cons,List.length_nil,Nat.zero_add,Nat.reduceAdd] at q0 q1 hcl hcm ⊢
  have HS:=Lib.hid (shl_or y x hy hx)
  go_wp2
  go_quiet (fail)
  go_wp2
  go_ret2
  refine ⟨?_,below_drewN (Below.refl _ _) _⟩
  show Ending.returned (.tuple #[.int .u64 (bits .or .u64 (y*4294967296) x),.bool true])=_
  have e:N [x,y]=y*4294967296+x:=by simp [N]; omega
  rw [HS.out,u64R,<-HN.out,e,if_pos (by omega)]
 ·have h3:((List.length (x::y::z::m):Int) == 0)=false/\((List.length (x::y::z::m):Int) == 1)=false/\((List.length (x::y::z::m):Int) == 2)=false:=by
    simp only [beq_eq_false_iff_ne,List.length_cons]; omega
  have hbig:¬N (x::y::z::m)<18446744073709551616:=by
   have:=HK.out.lower (m.length+2) (by simp)
   rw [Bp,Bp] at this
   have:=Bp_pos m.length
   omega
  have HB:=Lib.hid hbig
  clear hbig
  obtain ⟨h30,h31,h32⟩:=h3
  generalize hL:(x::y::z::m).length=len at *
  clear hL
  go_wp2
  go_ret2
  exact ⟨by rw [<-HN.out,u64R,if_neg (by have:=HB.out; omega)]; rfl,Below.refl _ _⟩
theorem bitLen_top (x:Int) (h0:0<x) (h1:x<4294967296):1<=Lib.bitLen x.toNat/\Lib.bitLen x.toNat<=32/\(2:Int) ^ (Lib.bitLen x.toNat-1)<=x/\x<2 ^ Lib.bitLen x.toNat:=by
 obtain ⟨m,rfl⟩:=Int.eq_ofNat_of_zero_le (show 0<=x by omega)
 rw [Int.toNat_natCast]
 have:=Lib.bitLenAux_bounds 64 m (by omega) (by omega)
 refine ⟨this.1,Lib.bitLen_le m 32 (by decide) (by omega),?_,?_⟩
 ·have h:=this.2.1; unfold Lib.bitLen; exact_mod_cast h
 ·have h:=this.2.2; unfold Lib.bitLen; exact_mod_cast h
theorem blen_digits {m:List Int} (h:Canon m) (j:Nat) (hj:m.length=j+1):blen (N m)=32*j+Lib.bitLen (m[j]?.getD 0).toNat/\0<m[j]?.getD 0:=by
 have hds:=h.1
 have e:=take_drop_N m j (by omega)
 have e2:N (m.drop j)=m[j]?.getD 0:=by
  rw [N_drop (by omega),List.drop_eq_nil_of_le (by omega)]; simp [N]
 have hb:=hds.at j
 have hpos:0<m[j]?.getD 0:=by
  have h2:=h.2
  rw [List.getLast?_eq_getElem?,hj,Nat.add_sub_cancel] at h2
  rcases hq:m[j]? with _|q
  ·rw [List.getElem?_eq_none_iff] at hq; omega
  ·rw [hq] at h2 hb
   simp at h2 hb ⊢
   omega
 refine ⟨?_,hpos⟩
 have t:=bitLen_top _ hpos hb.2
 generalize Lib.bitLen (m[j]?.getD 0).toNat=t' at *
 obtain ⟨s,rfl⟩:∃ s,t'=s+1:=⟨t'-1,by omega⟩
 have g1:=N_nonneg (hds.take j)
 have g2:=N_lt (hds.take j)
 have g3:(m.take j).length=j:=by simp; omega
 rw [g3] at g2
 rw [e2] at e
 generalize m[j]?.getD 0=x at *
 generalize N (m.take j)=y at *
 have hB:=Bp_pow j
 have hBp:=Bp_pos j
 rw [Nat.add_sub_cancel] at t
 have a1:=Int.mul_le_mul_of_nonneg_left t.2.2.1 (show 0<=Bp j by omega)
 have a2:=Int.mul_le_mul_of_nonneg_left (show x+1<=2 ^ (s+1) by omega) (show 0<=Bp j by omega)
 have p1:(2:Int) ^ (32*j+s)=Bp j*2 ^ s:=by rw [Int.pow_add,hB]
 have p2:(2:Int) ^ (32*j+s+1)=Bp j*2 ^ (s+1):=by rw [Nat.add_assoc,Int.pow_add,hB]
 rw [Int.mul_add,Int.mul_one] at a2
 have q:=two_pos s
 have q2:=Int.mul_le_mul_of_nonneg_left q (show 0<=Bp j by omega)
 rw [<-Nat.add_assoc]
 exact blen_of (by omega) (by rw [p1]; omega) (by rw [p2]; omega)
theorem bitLen (v:Value) (c:Nat) (n:Int) (w:World) (h:Num w v c n) (hc:c<=4294967296) :
    Calls Try.prog 53 #[v] w fun e w'=>e=.returned (.int .i64 (blen n:Int))/\w=w':=by
 obtain ⟨l,hr,hl,rfl⟩:=h
 have HR:=Lib.hid hr
 clear hr
 go_enter Try.func53,Try.ntmps53
 go_wp2_with fail
 refine (trimR v l w HR.out).mono ?_
 rintro e w' ⟨v',m,rfl,hr',hN,hC,hlen,_,rfl⟩
 clear HR
 have HN:=Lib.hid hN
 obtain ⟨a,cap,rfl,hcl,hcm,hcell⟩:=Row.parts hr'
 have HC:=Lib.hid hcell
 have HK:=Lib.hid hC
 clear hr' hcell hC hN
 rcases hm:m.length with _|j
 ·have hm':m=[]:=List.eq_nil_of_length_eq_zero hm
  subst hm'
  go_wp2_with fail
  go_ret
  exact ⟨by rw [<-HN.out]; rfl,rfl⟩
 ·obtain ⟨b,off,rfl,q0,hw⟩:=HC.out j (by omega)
  have hx:=wf_u32 hw
  have hbl:=blen_digits HK.out j hm
  have HL:=Lib.hid hbl.1
  have ht:=bitLen_top _ hbl.2 hx.2
  generalize m[j]?.getD 0=x at *
  have hs:(((j+1:Nat):Int) == 0)=false:=by rw [beq_eq_false_iff_ne]; omega
  have hx1:0<=x/\x<=4294967295:=by omega
  have hj:j<=4294967296:=by omega
  clear hbl hm hw
  go_wp2_with fail
  refine (Try.bits_Len32 x w hx1.1 hx1.2).mono ?_
  rintro e w' ⟨rfl,rfl⟩
  generalize Lib.bitLen x.toNat=t at *
  obtain ⟨ht1,ht2,_,_⟩:=ht
  go_wp2_with fail
  go_ret
  exact ⟨ret_int (by rw [<-HN.out,HL.out]; omega),rfl⟩
theorem cmp_ret {m n:Int} {x:Int} (h:cmpI m n=x):Ending.returned (.int .i64 x)=.returned (.int .i64 (cmpI m n)):=by rw [h]
set_option maxHeartbeats 400000 in
theorem cmp (va vb:Value) (c:Nat) (x y:Int) (w:World) (ha:Num w va c x) (hb:Num w vb c y) (hc:c<=4294967296) :
    Calls Try.prog 38 #[va,vb] w fun e w'=>e=.returned (.int .i64 (cmpI x y))/\Below w.heap.size w w':=by
 obtain ⟨la,hra,hla,rfl⟩:=ha
 obtain ⟨lb,hrb,hlb,rfl⟩:=hb
 have HA:=Lib.hid hra
 have HB:=Lib.hid hrb
 clear hra hrb
 go_enter Try.func38,Try.ntmps38
 go_wp2_with fail
 refine (trimR va la w HA.out).mono ?_
 rintro e w' ⟨v1,l1,rfl,r1,N1,C1,L1,_,rfl⟩
 go_wp2_with fail
 refine (trimR vb lb w HB.out).mono ?_
 rintro e w' ⟨v2,l2,rfl,r2,N2,C2,L2,_,rfl⟩
 clear HA HB
 have HN:=Lib.hid (And.intro N1 N2)
 have HC:=Lib.hid (And.intro C1 C2)
 obtain ⟨a1,p1,rfl,g1,m1,c1⟩:=Row.parts r1
 obtain ⟨a2,p2,rfl,g2,m2,c2⟩:=Row.parts r2
 have H1:=Lib.hid c1
 have H2:=Lib.hid c2
 clear r1 r2 c1 c2 N1 N2 C1 C2
 by_cases hlt:l1.length<l2.length
 ·have hne:((l1.length:Int) != (l2.length:Int))=true:=by rw [bne_iff_ne]; omega
  have hR:cmpI (N la) (N lb) = -1:=by
   have:=len_lt HC.out.1 HC.out.2 hlt
   rw [<-HN.out.1,<-HN.out.2,cmpI,if_pos this]
  have HR:=Lib.hid hR
  clear hR
  go_wp2_with fail
  go_ret
  exact ⟨cmp_ret HR.out,Below.refl _ _⟩
 by_cases hgt:l2.length<l1.length
 ·have hne:((l1.length:Int) != (l2.length:Int))=true:=by rw [bne_iff_ne]; omega
  have hR:cmpI (N la) (N lb)=1:=by
   have:=len_lt HC.out.2 HC.out.1 hgt
   rw [<-HN.out.1,<-HN.out.2,cmpI,if_neg (by omega),if_neg (by omega)]
  have HR:=Lib.hid hR
  clear hR
  go_wp2_with fail
  go_ret
  exact ⟨cmp_ret HR.out,Below.refl _ _⟩
 have hne:((l1.length:Int) != (l2.length:Int))=false:=by
  have:(l1.length:Int)=l2.length:=by omega
  rw [this]; simp
 generalize hn1:l1.length=n1 at *
 generalize hn2:l2.length=n2 at *
 obtain rfl:n1=n2:=by omega
 have HL:=Lib.hid (And.intro hn1 hn2)
 clear hn1 hn2 hlt hgt
 go_wp2_with fail
 go_loopw [5] (fun t wr=>∃ k:Nat,k<=n1/\t=.int .i64 ((k:Int)-1)/\Hid (N (l1.drop k)=N (l2.drop k))/\Below w.heap.size w wr) (fun t _=>(intOf t+1).toNat)
 case atStart=>exact ⟨n1,Nat.le_refl _,rfl,by rw [List.drop_eq_nil_of_le (by rw [HL.out.1]; exact Nat.le_refl _),List.drop_eq_nil_of_le (by rw [HL.out.2]; exact Nat.le_refl _)]; rfl,Below.refl _ _⟩
 case round =>
  obtain ⟨k,hk,rfl,hd,hb⟩:=hrel
  rcases k with _|j
  ·have hR:cmpI (N la) (N lb)=0:=by
     have h:=hd.out
     simp only [List.drop_zero] at h
     rw [<-HN.out.1,<-HN.out.2,cmpI,if_neg (by omega),if_pos h]
   have HR:=Lib.hid hR
   clear hR
   go_wp2
   go_ret
   exact ⟨cmp_ret HR.out,hb⟩
  ·obtain ⟨b1,o1,rfl,q1,w1⟩:=H1.out j (by omega)
   obtain ⟨b2,o2,rfl,q2,w2⟩:=H2.out j (by omega)
   have q1:=cell_later hb q1
   have q2:=cell_later hb q2
   have e1:=N_drop (l:=l1) (k:=j) (by rw [HL.out.1]; omega)
   have e2:=N_drop (l:=l2) (k:=j) (by rw [HL.out.2]; omega)
   rw [hd.out] at e1
   generalize N (l2.drop (j+1))=T at *
   have HT:=Lib.hid (And.intro e1 e2)
   have x1:=wf_u32 w1
   have x2:=wf_u32 w2
   clear e1 e2 hd w1 w2
   generalize l1[j]?.getD 0=x at *
   generalize l2[j]?.getD 0=y at *
   by_cases hxy:x<y
   ·have hR:cmpI (N la) (N lb) = -1:=by
      have:=lt_of_drop HC.out.1.1 HC.out.2.1 j (by rw [HL.out.1]; omega) (by rw [HL.out.2]; omega) (by rw [HT.out.1,HT.out.2]; omega)
      rw [<-HN.out.1,<-HN.out.2,cmpI,if_pos this]
    have HR:=Lib.hid hR
    clear hR
    go_wp2
    go_quiet (fail)
    go_wp2
    go_ret
    exact ⟨cmp_ret HR.out,below_drewN hb _⟩
   by_cases hyx:y<x
   ·have hR:cmpI (N la) (N lb)=1:=by
      have:=lt_of_drop HC.out.2.1 HC.out.1.1 j (by rw [HL.out.2]; omega) (by rw [HL.out.1]; omega) (by rw [HT.out.1,HT.out.2]; omega)
      rw [<-HN.out.1,<-HN.out.2,cmpI,if_neg (by omega),if_neg (by omega)]
    have HR:=Lib.hid hR
    clear hR
    go_wp2
    go_quiet (fail)
    have hb1:=below_drewN hb nq
    have q1:=cell_later (below_drewN (Below.refl _ wr) nq) q1
    have q2:=cell_later (below_drewN (Below.refl _ wr) nq) q2
    generalize wr.drewN nq=wr1 at *
    go_wp2
    go_quiet (fail)
    go_wp2
    go_ret
    exact ⟨cmp_ret HR.out,below_drewN hb1 _⟩
   ·have hE:Hid (N (l1.drop j)=N (l2.drop j)):=by
      show _=_
      rw [HT.out.1,HT.out.2]; omega
    clear HT
    go_wp2
    go_quiet (fail)
    have hb1:=below_drewN hb nq
    have q1:=cell_later (below_drewN (Below.refl _ wr) nq) q1
    have q2:=cell_later (below_drewN (Below.refl _ wr) nq) q2
    generalize wr.drewN nq=wr1 at *
    go_wp2
    go_quiet (fail)
    have hb1:=below_drewN hb1 nq
    generalize wr1.drewN nq=wr2 at *
    go_wp2
    refine ⟨⟨j,by omega,by go_num,hE,hb1⟩,by simp [intOf]⟩
end Go.Proofs.Ytbokoblnehgkaaa.Nt
