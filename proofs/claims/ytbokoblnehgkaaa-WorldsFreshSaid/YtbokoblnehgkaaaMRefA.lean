/-
  RefA, RefB, RefC, RefD, in one text: see the remarks at the head of each part.
-/
import Derived.Test.YtbokoblnehgkaaaMSame
namespace Go.Proofs.Ytbokoblnehgkaaa.Nt
open Go.ChangeShapes Go.WideShapes Go.ChangeAt Go.RowKit B
set_option linter.unusedVariables false
theorem own_mono {w:World} {base base':Nat} {e:TypeId} {size:Nat} {v:Value} {n:Nat} {xs:List Value} (h:w.ownsRow base e size v n xs) (hb:base'<=base):w.ownsRow base' e size v n xs:=by
 refine ⟨h.1,?_⟩
 rcases h.2 with h|⟨g,cap,cur,h1,h2,h3⟩
 ·exact .inl h
 ·exact .inr ⟨g,cap,cur,h1,by omega,h3⟩
def RetOwn (base:Nat) (w:World) (n:Int) (e:Ending) (w':World):Prop :=
 ∃ v l,e=.returned v/\w'.ownsRow base 42 1 v l.length (l.map (Value.int .u32))/\Canon l/\N l=n/\Below base w w'
theorem RetOwn.ret {base:Nat} {w w':World} {n:Int} {e:Ending} (h:RetOwn base w n e w'):Ret1 base w n e w':=by
 obtain ⟨v,l,h1,h2,h3,h4,h5⟩:=h
 exact ⟨v,h1,⟨l,Row.ofOwn h2 (fun n hn=>wf32 (h3.1 n hn)),h3,h4,own_fresh h2⟩,h5⟩
theorem rNormO (v:Value) (c:Nat) (n:Int) (w:World) (h:Num w v c n) (hc:c<=8589934592) :
    Calls Try.prog 52 #[v] w (RetOwn w.heap.size w n):=by
 obtain ⟨l,hr,hl,rfl⟩:=h
 have hds:=Row.ds hr
 obtain ⟨a,cap,rfl,hcl,hcm,hcell⟩:=Row.parts hr
 have HR:=Lib.hid hr
 have HC:=Lib.hid hcell
 have HD:=Lib.hid hds
 clear hr hcell hds
 generalize hL:l.length=len at *
 have HL:=Lib.hid hL
 clear hL
 go_enter Try.func52,Try.ntmps52
 go_wp2
 go_loop [3] (fun t=>∃ k:Nat,k<=len/\t=.int .i64 k/\Hid (∀ i,k<=i->i<len->l[i]?.getD 0=0)) (fun t=>(intOf t).toNat)
 case atStart=>exact ⟨len,Nat.le_refl _,rfl,fun i h1 h2=>by omega⟩
 case round =>
  obtain ⟨k,hk,rfl,hz⟩:=hrel
  have HU:=Lib.hid (Row.upto HR.out k hk)
  have HLN:=Lib.hid (show (l.take k).length=k by rw [List.length_take,HL.out]; omega)
  rcases k with _|j
  ·have HT:=Lib.hid (And.intro (trimmed (l:=l) 0 (Nat.zero_le _) (by rw [HL.out]; exact hz.out)) (canon_take HD.out 0 (Nat.zero_le _) (.inl rfl)))
   go_wp2_with (at_builtin; refine app_row rfl (.tmp 18) (.tmp 21) 39 rfl w.heap.size 42 .u32 4 Try.underlying39 info32 _ 0 [] rfl (own0 w _ _) _ (l.take 0) rfl (HU.out.keep ((Below.refl _ _).alloc (Nat.le_refl _) _)) (by simp) (by simp) (by simp) ?_; intro v' w' ho' hb')
   go_ret
   exact ⟨_,l.take 0,rfl,by simpa using ho',HT.out.2,HT.out.1,((Below.refl _ _).alloc (Nat.le_refl _) _).trans hb'⟩
  ·obtain ⟨b,off,rfl,hcell,hw⟩:=HC.out j (by omega)
   by_cases h0:l[j]?.getD 0=0
   ·have HZ:Hid (∀ i,j<=i->i<len->l[i]?.getD 0=0):=fun i h1 h2=>by
      by_cases e:i=j
      ·subst e; exact h0
      ·exact hz.out i (by omega) h2
    rw [h0] at hcell
    clear h0 hw hz
    go_wp2
    refine ⟨⟨j,by omega,by go_num,HZ⟩,by simp [intOf]⟩
   ·have HT:=Lib.hid (And.intro (trimmed (l:=l) (j+1) (by rw [HL.out]; exact hk) (by rw [HL.out]; exact hz.out)) (canon_take HD.out (j+1) (by rw [HL.out]; exact hk) (.inr h0)))
    have hne:((l[j]?.getD 0) == 0)=false:=by rw [beq_eq_false_iff_ne]; exact h0
    clear h0 hw hz
    go_wp2_with (at_builtin; refine app_row rfl (.tmp 18) (.tmp 21) 39 rfl w.heap.size 42 .u32 4 Try.underlying39 info32 _ 0 [] rfl (own0 w _ _) _ (l.take (j+1)) rfl (HU.out.keep ((Below.refl _ _).alloc (Nat.le_refl _) _)) (by rw [HLN.out]; simp [maxLen]; omega) (by rw [HLN.out]; simp; omega) (by simp) ?_; intro v' w' ho' hb')
    go_ret
    exact ⟨_,l.take (j+1),rfl,by simpa using ho',HT.out.2,HT.out.1,((Below.refl _ _).alloc (Nat.le_refl _) _).trans hb'⟩
theorem rNorm (v:Value) (c:Nat) (n:Int) (w:World) (h:Num w v c n) (hc:c<=8589934592) :
    Calls Try.prog 52 #[v] w (Ret1 w.heap.size w n):=(rNormO v c n w h hc).mono fun _ _ h=>h.ret
theorem rNormN {base:Nat} {w0 w:World} {v:Value} {m:Nat} {l:List Int} (h:w.ownsRow base 42 1 v m (l.map (Value.int .u32))) (hd:Ds l) (hl:l.length<=8589934592) (hb:Below base w0 w) (hs:base<=w.heap.size) :
    Calls Try.prog 52 #[v] w (RetOwn base w0 (N l)):=by
 refine (rNormO v l.length (N l) w ⟨l,Row.ofOwn h (fun n hn=>wf32 (hd n hn)),Nat.le_refl _,rfl⟩ hl).mono ?_
 rintro e w' ⟨v',l',h1,h2,h3,h4,h5⟩
 exact ⟨v',l',h1,own_mono h2 hs,h3,h4,hb.trans (h5.mono hs)⟩
theorem rOfO (n:Int) (w:World) (h0:0<=n) (h1:n<18446744073709551616) :
    Calls Try.prog 51 #[.int .u64 n] w (RetOwn w.heap.size w n):=by
 have hN:N [n % 4294967296,n / 4294967296]=n:=by simp [N]; omega
 have hD:Ds [n % 4294967296,n / 4294967296]:=Ds.cons (by omega) (Ds.cons (by omega) Ds.nil)
 have HN:=Lib.hid hN
 have HD:=Lib.hid hD
 clear hN hD
 go_enter Try.func51,Try.ntmps51
 go_wp2_with fail
 refine (rNormN (own2 w _ _) HD.out (by simp) ((Below.refl _ _).alloc (Nat.le_refl _) _) (by simp)).mono ?_
 rintro e w' ⟨v',l,rfl,h2,h3,hn,hb⟩
 have H2:=Lib.hid (And.intro h2 h3)
 clear h2 h3
 go_wp2_with fail
 go_ret
 rw [HN.out] at hn
 exact ⟨v',l,rfl,H2.out.1,H2.out.2,hn,hb⟩
theorem rOf (n:Int) (w:World) (h0:0<=n) (h1:n<18446744073709551616) :
    Calls Try.prog 51 #[.int .u64 n] w (Ret1 w.heap.size w n):=(rOfO n w h0 h1).mono fun _ _ h=>h.ret
set_option maxHeartbeats 400000 in
theorem rCmp (va vb:Value) (c:Nat) (x y:Int) (w:World) (ha:Num w va c x) (hb:Num w vb c y) (hc:c<=8589934592) :
    Calls Try.prog 64 #[va,vb] w fun e w'=>e=.returned (.int .i64 (cmpI x y))/\Below w.heap.size w w':=by
 have hxl:=ha.lt
 have hyl:=hb.lt
 have HA:=Lib.hid ha
 have HB:=Lib.hid hb
 clear ha hb
 go_enter Try.func64,Try.ntmps64
 go_wp2_with fail
 refine (rNorm va c _ w HA.out hc).mono ?_
 rintro e w1 ⟨v1,rfl,⟨l1,r1,C1,N1,_⟩,hb1⟩
 go_wp2_with fail
 refine (rNorm vb c _ w1 (HB.out.keep hb1) hc).mono ?_
 rintro e w2 ⟨v2,rfl,⟨l2,r2,C2,N2,_⟩,hb2⟩
 clear HA HB
 have r1:=r1.keep hb2
 have hbw:=hb1.trans (hb2.mono hb1.size)
 have L1:l1.length<=c:=C1.len c (by rw [N1]; exact hxl)
 have L2:l2.length<=c:=C2.len c (by rw [N2]; exact hyl)
 have HN:=Lib.hid (And.intro N1 N2)
 have HC:=Lib.hid (And.intro C1 C2)
 obtain ⟨a1,p1,rfl,g1,m1,c1⟩:=Row.parts r1
 obtain ⟨a2,p2,rfl,g2,m2,c2⟩:=Row.parts r2
 have H1:=Lib.hid c1
 have H2:=Lib.hid c2
 clear r1 r2 c1 c2 N1 N2 C1 C2
 by_cases hlt:l1.length<l2.length
 ·have hne:((l1.length:Int) != (l2.length:Int))=true:=by rw [bne_iff_ne]; omega
  have hR:cmpI x y = -1:=by
   have:=len_lt HC.out.1 HC.out.2 hlt
   rw [<-HN.out.1,<-HN.out.2,cmpI,if_pos this]
  have HR:=Lib.hid hR
  clear hR
  go_wp2_with fail
  go_ret
  exact ⟨cmp_ret HR.out,hbw⟩
 by_cases hgt:l2.length<l1.length
 ·have hne:((l1.length:Int) != (l2.length:Int))=true:=by rw [bne_iff_ne]; omega
  have hR:cmpI x y=1:=by
   have:=len_lt HC.out.2 HC.out.1 hgt
   rw [<-HN.out.1,<-HN.out.2,cmpI,if_neg (by omega),if_neg (by omega)]
  have HR:=Lib.hid hR
  clear hR
  go_wp2_with fail
  go_ret
  exact ⟨cmp_ret HR.out,hbw⟩
 have hne:((l1.length:Int) != (l2.length:Int))=false:=by
  have:(l1.length:Int)=l2.length:=by omega
  rw [this]; simp
 generalize hn1:l1.length=n1 at *
 generalize hn2:l2.length=n2 at *
 obtain rfl:n1=n2:=by omega
 have HL:=Lib.hid (And.intro hn1 hn2)
 clear hn1 hn2 hlt hgt
 go_wp2_with fail
 go_loopw [7] (fun t wr=>∃ k:Nat,k<=n1/\t=.int .i64 ((k:Int)-1)/\Hid (N (l1.drop k)=N (l2.drop k))/\Below w2.heap.size w2 wr) (fun t _=>(intOf t+1).toNat)
 case atStart=>exact ⟨n1,Nat.le_refl _,rfl,by rw [List.drop_eq_nil_of_le (by rw [HL.out.1]; exact Nat.le_refl _),List.drop_eq_nil_of_le (by rw [HL.out.2]; exact Nat.le_refl _)]; rfl,Below.refl _ _⟩
 case round =>
  obtain ⟨k,hk,rfl,hd,hb⟩:=hrel
  rcases k with _|j
  ·have hR:cmpI x y=0:=by
     have h:=hd.out
     simp only [List.drop_zero] at h
     rw [<-HN.out.1,<-HN.out.2,cmpI,if_neg (by omega),if_pos h]
   have HR:=Lib.hid hR
   clear hR
   go_wp2
   go_ret
   exact ⟨cmp_ret HR.out,hbw.trans (Below.mono (hb) hbw.size)⟩
  ·obtain ⟨b1,o1,rfl,q1,ww1⟩:=H1.out j (by omega)
   obtain ⟨b2,o2,rfl,q2,ww2⟩:=H2.out j (by omega)
   have q1:=cell_later hb q1
   have q2:=cell_later hb q2
   have e1:=N_drop (l:=l1) (k:=j) (by rw [HL.out.1]; omega)
   have e2:=N_drop (l:=l2) (k:=j) (by rw [HL.out.2]; omega)
   rw [hd.out] at e1
   generalize N (l2.drop (j+1))=T at *
   have HT:=Lib.hid (And.intro e1 e2)
   have x1:=wf_u32 ww1
   have x2:=wf_u32 ww2
   clear e1 e2 hd ww1 ww2
   generalize l1[j]?.getD 0=dx at *
   generalize l2[j]?.getD 0=dy at *
   by_cases hxy:dx<dy
   ·have hR:cmpI x y = -1:=by
      have:=lt_of_drop HC.out.1.1 HC.out.2.1 j (by rw [HL.out.1]; omega) (by rw [HL.out.2]; omega) (by rw [HT.out.1,HT.out.2]; omega)
      rw [<-HN.out.1,<-HN.out.2,cmpI,if_pos this]
    have HR:=Lib.hid hR
    clear hR
    go_wp2
    go_quiet (fail)
    go_wp2
    go_ret
    exact ⟨cmp_ret HR.out,hbw.trans (Below.mono (below_drewN hb _) hbw.size)⟩
   by_cases hyx:dy<dx
   ·have hR:cmpI x y=1:=by
      have:=lt_of_drop HC.out.2.1 HC.out.1.1 j (by rw [HL.out.2]; omega) (by rw [HL.out.1]; omega) (by rw [HT.out.1,HT.out.2]; omega)
      rw [<-HN.out.1,<-HN.out.2,cmpI,if_neg (by omega),if_neg (by omega)]
    have HR:=Lib.hid hR
    clear hR
    go_wp2
    go_quiet (fail)
    have hb1:=below_drewN hb nq
    have q1:=cell_later (below_drewN (Below.refl _ wr) nq) q1
    have q2:=cell_later (below_drewN (Below.refl _ wr) nq) q2
    generalize wr.drewN nq=wr1 at *
    go_wp2
    go_quiet (fail)
    go_wp2
    go_ret
    exact ⟨cmp_ret HR.out,hbw.trans (Below.mono (below_drewN hb1 _) hbw.size)⟩
   ·have hE:Hid (N (l1.drop j)=N (l2.drop j)):=by
      show _=_
      rw [HT.out.1,HT.out.2]; omega
    clear HT
    go_wp2
    go_quiet (fail)
    have hb1:=below_drewN hb nq
    have q1:=cell_later (below_drewN (Below.refl _ wr) nq) q1
    have q2:=cell_later (below_drewN (Below.refl _ wr) nq) q2
    generalize wr.drewN nq=wr1 at *
    go_wp2
    go_quiet (fail)
    have hb1:=below_drewN hb1 nq
    generalize wr1.drewN nq=wr2 at *
    go_wp2
    refine ⟨⟨j,by omega,by go_num,hE,hb1⟩,by simp [intOf]⟩
end Go.Proofs.Ytbokoblnehgkaaa.Nt
namespace Go.Proofs.Ytbokoblnehgkaaa.Nt
open Go.ChangeShapes Go.WideShapes Go.ChangeAt Go.RowKit B
set_option linter.unusedVariables false
theorem bp_split (k:Nat) (s T:Int):Bp k*(s+4294967296*T)=Bp k*s+Bp (k+1)*T:=by
 rw [Int.mul_add,Bp,<-Int.mul_assoc,Int.mul_comm (Bp k) 4294967296]
theorem N_snoc (l:List Int) (x:Int):N (l++[x])=N l+Bp l.length*x:=by rw [N_app]; simp [N]
theorem N_dropd (l:List Int) (k:Nat):N (l.drop k)=l[k]?.getD 0+4294967296*N (l.drop (k+1)):=by
 rcases Nat.lt_or_ge k l.length with h|h
 ·exact N_drop h
 ·rw [List.drop_eq_nil_of_le h,List.drop_eq_nil_of_le (by omega),List.getElem?_eq_none h]; rfl
def Acc (pre:List Int) (k:Nat) (T n:Int):Prop:=pre.length=k/\Ds pre/\N pre+Bp k*T=n
theorem Acc.step {pre:List Int} {k:Nat} {T n:Int} (h:Acc pre k T n) (d T':Int) (hd:0<=d/\d<4294967296) (e:T=d+4294967296*T'):Acc (pre++[d]) (k+1) T' n:=by
 obtain ⟨h1,h2,h3⟩:=h
 refine ⟨by simp [h1],h2.app (Ds.cons hd Ds.nil),?_⟩
 rw [N_snoc,h1,<-h3,e,bp_split]; omega
theorem Acc.done {pre:List Int} {k:Nat} {n:Int} (h:Acc pre k 0 n):N pre=n:=by
 have:=h.2.2; rw [Int.mul_zero] at this; omega
theorem Acc.nil (n:Int):Acc [] 0 n n:=⟨rfl,Ds.nil,by simp [N,Bp]⟩
theorem Row.one (w:World) (x:Int) (h:0<=x/\x<4294967296):Row .u32 (w.alloc (.cells #[.int .u32 x] 42 (0,0))) (.slice (some ⟨w.heap.size,0,none⟩) 1 1) [x] :=
 Row.new w [x] 42 (0,0) #[.int .u32 x] 1 rfl rfl (by simp [maxLen]) (by intro n hn; rw [List.mem_singleton.1 hn]; exact wf32 h)
set_option maxHeartbeats 1000000 in
theorem rAdd (va vb:Value) (c:Nat) (x y:Int) (w:World) (ha:Num w va c x) (hb:Num w vb c y) (hc:c<=2147483648) :
    Calls Try.prog 85 #[va,vb] w (Ret1 w.heap.size w (x+y)):=by
 obtain ⟨la,hra,hla,rfl⟩:=ha
 obtain ⟨lb,hrb,hlb,rfl⟩:=hb
 obtain ⟨a1,p1,rfl,g1,m1,c1⟩:=Row.parts hra
 obtain ⟨a2,p2,rfl,g2,m2,c2⟩:=Row.parts hrb
 have H1:=Lib.hid c1
 have H2:=Lib.hid c2
 clear hra hrb c1 c2
 generalize hnA:la.length=nA at *
 generalize hnB:lb.length=nB at *
 have HL:=Lib.hid (And.intro hnA hnB)
 clear hnA hnB
 go_enter Try.func85,Try.ntmps85
 go_wp2
 go_loopg [5,6,7] (nA+nB) (fun gk v t i wr=>∃ (k:Nat) (cy:Int) (pre:List Int),k<=nA+nB/\nA+nB-k<=gk/\i=.int .i64 k/\t=.int .u64 cy/\0<=cy/\cy<=1 /\
     Hid (Acc pre k (cy+N (la.drop k)+N (lb.drop k)) (N la+N lb))/\Hid (wr.ownsRow w.heap.size 42 1 v k (pre.map (Value.int .u32)))/\Below w.heap.size w wr)
 case atStart=>exact ⟨0,0,[],Nat.zero_le _,by omega,rfl,rfl,by omega,by omega,by have:=Acc.nil (N la+N lb); simpa [Hid] using this,⟨rfl,.inl ⟨rfl,rfl⟩⟩,Below.refl _ _⟩
 case round =>
  obtain ⟨k,cy,pre,hk,hgk,rfl,rfl,hc0,hc1,hA,HO,hb⟩:=hrel
  have hgs:w.heap.size<=wr.heap.size:=hb.size
  have hpl:pre.length=k:=hA.out.1
  have eA:=N_dropd la k
  have eB:=N_dropd lb k
  have hst:∀ s,s=cy+la[k]?.getD 0+lb[k]?.getD 0->Acc (pre++[s % 4294967296]) (k+1) (s / 4294967296+N (la.drop (k+1))+N (lb.drop (k+1))) (N la+N lb):=by
   rintro s rfl
   exact hA.out.step _ _ (by omega) (by rw [eA,eB]; omega)
  have HST:=Lib.hid hst
  have HPL:=Lib.hid hpl
  clear eA eB hst hpl
  by_cases h1:k<nA
  ·have d1:decide ((k:Int)<(nA:Int))=true:=by simp; omega
   obtain ⟨b1,o1,rfl,q1,wx⟩:=H1.out k h1
   have q1:=cell_later hb q1
   have dx:=wf_u32 wx
   by_cases h2:k<nB
   ·have d2:decide ((k:Int)<(nB:Int))=true:=by simp; omega
    obtain ⟨b2,o2,rfl,q2,wy⟩:=H2.out k h2
    have q2:=cell_later hb q2
    have dy:=wf_u32 wy
    have HS:Hid _:=HST.out _ rfl
    generalize la[k]?.getD 0=x at *
    generalize lb[k]?.getD 0=y at *
    have HROW:=Lib.hid (Row.one wr ((cy+x+y) % 4294967296) (by omega))
    clear wx wy HST
    go_wp2_with (at_builtin; refine app_row rfl (.tmp 42) (.tmp 45) 39 rfl w.heap.size 42 .u32 4 Try.underlying39 info32 _ k pre rfl (HO.out.alloc _) _ [(cy+x+y) % 4294967296] rfl HROW.out (by rw [HPL.out]; simp [maxLen]; omega) (by rw [HPL.out]; simp; omega) (by simp; omega) ?_; intro v' w' ho' hb')
    have HO':=Lib.hid ho'
    clear ho'
    go_roundg (nA+nB-(k+1))
    case measure=>omega
    case rel=>exact ⟨k+1,(cy+x+y) / 4294967296,_,by omega,Nat.le_refl _,by go_num,by go_num,by omega,by omega,HS,HO',(hb.alloc hb.size _).trans hb'⟩
   ·have d2:decide ((k:Int)<(nB:Int))=false:=by simp; omega
    have HS:Hid _:=HST.out (cy+la[k]?.getD 0) (by rw [List.getElem?_eq_none (show lb.length<=k by rw [HL.out.2]; omega)]; simp)
    generalize la[k]?.getD 0=x at *
    have HROW:=Lib.hid (Row.one wr ((cy+x) % 4294967296) (by omega))
    clear wx HST
    go_wp2_with (at_builtin; refine app_row rfl (.tmp 42) (.tmp 45) 39 rfl w.heap.size 42 .u32 4 Try.underlying39 info32 _ k pre rfl (HO.out.alloc _) _ [(cy+x) % 4294967296] rfl HROW.out (by rw [HPL.out]; simp [maxLen]; omega) (by rw [HPL.out]; simp; omega) (by simp; omega) ?_; intro v' w' ho' hb')
    have HO':=Lib.hid ho'
    clear ho'
    go_roundg (nA+nB-(k+1))
    case measure=>omega
    case rel=>exact ⟨k+1,(cy+x) / 4294967296,_,by omega,Nat.le_refl _,by go_num,by go_num,by omega,by omega,HS,HO',(hb.alloc hb.size _).trans hb'⟩
  ·have d1:decide ((k:Int)<(nA:Int))=false:=by simp; omega
   by_cases h2:k<nB
   ·have d2:decide ((k:Int)<(nB:Int))=true:=by simp; omega
    obtain ⟨b2,o2,rfl,q2,wy⟩:=H2.out k h2
    have q2:=cell_later hb q2
    have dy:=wf_u32 wy
    have HS:Hid _:=HST.out (cy+lb[k]?.getD 0) (by rw [List.getElem?_eq_none (show la.length<=k by rw [HL.out.1]; omega)]; simp)
    generalize lb[k]?.getD 0=y at *
    have HROW:=Lib.hid (Row.one wr ((cy+y) % 4294967296) (by omega))
    clear wy HST
    go_wp2_with (at_builtin; refine app_row rfl (.tmp 42) (.tmp 45) 39 rfl w.heap.size 42 .u32 4 Try.underlying39 info32 _ k pre rfl (HO.out.alloc _) _ [(cy+y) % 4294967296] rfl HROW.out (by rw [HPL.out]; simp [maxLen]; omega) (by rw [HPL.out]; simp; omega) (by simp; omega) ?_; intro v' w' ho' hb')
    have HO':=Lib.hid ho'
    clear ho'
    go_roundg (nA+nB-(k+1))
    case measure=>omega
    case rel=>exact ⟨k+1,(cy+y) / 4294967296,_,by omega,Nat.le_refl _,by go_num,by go_num,by omega,by omega,HS,HO',(hb.alloc hb.size _).trans hb'⟩
   ·have d2:decide ((k:Int)<(nB:Int))=false:=by simp; omega
    have hF:Acc (pre++[cy]) (k+1) 0 (N la+N lb):=hA.out.step cy 0 (by omega) (by
     rw [List.drop_eq_nil_of_le (by rw [HL.out.1]; omega),List.drop_eq_nil_of_le (by rw [HL.out.2]; omega)]; simp [N])
    have HF:=Lib.hid hF
    have HROW:=Lib.hid (Row.one wr cy (by omega))
    clear hF HST
    go_wp2_with (at_builtin; refine app_row rfl (.tmp 49) (.tmp 52) 39 rfl w.heap.size 42 .u32 4 Try.underlying39 info32 _ k pre rfl (HO.out.alloc _) _ [cy] rfl HROW.out (by rw [HPL.out]; simp [maxLen]; omega) (by rw [HPL.out]; simp; omega) (by simp; omega) ?_; intro v' w' ho' hb')
    have hbb:=(hb.alloc hb.size (.cells #[.int .u32 cy] 42 (0,0))).trans hb'
    refine (rNormN ho' HF.out.2.1 (by rw [HF.out.1]; omega) hbb hbb.size).mono ?_
    rintro e w3 h
    obtain ⟨v3,rfl,hn,hb3⟩:=RetOwn.ret h
    rw [HF.out.done] at hn
    clear h ho'
    go_wp2_with fail
    go_ret
    exact ⟨v3,rfl,hn,hb3⟩
set_option maxHeartbeats 1000000 in
theorem rDouble (va:Value) (c:Nat) (x b:Int) (w:World) (ha:Num w va c x) (hb0:0<=b/\b<=1) (hc:c<=2147483648) :
    Calls Try.prog 66 #[va,.int .u32 b] w (Ret1 w.heap.size w (2*x+b)):=by
 obtain ⟨la,hra,hla,rfl⟩:=ha
 obtain ⟨a1,p1,rfl,g1,m1,c1⟩:=Row.parts hra
 have H1:=Lib.hid c1
 clear hra c1
 generalize hnA:la.length=nA at *
 have HL:=Lib.hid hnA
 clear hnA
 go_enter Try.func66,Try.ntmps66
 go_wp2
 go_loopg [5,6,1] nA (fun gk v i t wr=>∃ (k:Nat) (cy:Int) (pre:List Int),k<=nA/\nA-k<=gk/\i=.int .i64 k/\t=.int .u32 cy/\0<=cy/\cy<=1 /\
     Hid (Acc pre k (2*N (la.drop k)+cy) (2*N la+b))/\Hid (wr.ownsRow w.heap.size 42 1 v k (pre.map (Value.int .u32)))/\Below w.heap.size w wr)
 case atStart=>exact ⟨0,b,[],Nat.zero_le _,by omega,rfl,rfl,by omega,by omega,by have:=Acc.nil (2*N la+b); simpa [Hid] using this,⟨rfl,.inl ⟨rfl,rfl⟩⟩,Below.refl _ _⟩
 case round =>
  obtain ⟨k,cy,pre,hk,hgk,rfl,rfl,hc0,hc1,hA,HO,hb⟩:=hrel
  have hgs:w.heap.size<=wr.heap.size:=hb.size
  have hpl:pre.length=k:=hA.out.1
  have HPL:=Lib.hid hpl
  clear hpl
  by_cases h1:k<nA
  ·obtain ⟨b1,o1,rfl,q0,wx⟩:=H1.out k h1
   have q1:=cell_later hb q0
   have Q0:=Lib.hid q0
   clear q0
   have dx:=wf_u32 wx
   have eA:=N_dropd la k
   generalize la[k]?.getD 0=x at *
   have HS:=Lib.hid (hA.out.step (x*2 % 4294967296+cy) (2*N (la.drop (k+1))+x / 2147483648) (by omega) (by rw [eA]; omega))
   have HR:Hid (bits .or .u32 (x*2 % 4294967296) cy=x*2 % 4294967296+cy):=shl_or32 (s:=1) (by omega) x cy (by omega)
   have HROW:=Lib.hid (Row.one wr (x*2 % 4294967296+cy) (by omega))
   rw [<-HR.out] at HROW
   have hall:=hb.alloc hb.size (.cells #[.int .u32 (bits .or .u32 (x*2 % 4294967296) cy)] 42 (0,0))
   have HALL:=Lib.hid hall
   clear wx eA hall
   go_wp2_with (at_builtin; refine app_row rfl (.tmp 13) (.tmp 21) 39 rfl w.heap.size 42 .u32 4 Try.underlying39 info32 _ k pre rfl (HO.out.alloc _) _ [bits .or .u32 (x*2 % 4294967296) cy] rfl HROW.out (by rw [HPL.out]; simp [maxLen]; omega) (by rw [HPL.out]; simp; omega) (by simp; omega) ?_; intro v' w' ho' hb'; rw [HR.out] at ho'; have HO':=Lib.hid ho'; clear ho'; have hbb:=HALL.out.trans hb'; have q2:=cell_later (HALL.out.trans hb') Q0.out; have hi0:(0:Int)<=k:=by omega)
   go_roundg (nA-(k+1))
   case measure=>omega
   case rel=>exact ⟨k+1,x / 2147483648,_,by omega,Nat.le_refl _,by go_num,by go_num,by omega,by omega,HS,HO',hbb⟩
  ·have hF:Acc (pre++[cy]) (k+1) 0 (2*N la+b):=hA.out.step cy 0 (by omega) (by
       rw [List.drop_eq_nil_of_le (by rw [HL.out]; omega)]; simp [N])
   have HF:=Lib.hid hF
   have HROW:=Lib.hid (Row.one wr cy (by omega))
   clear hF
   go_wp2_with (at_builtin; refine app_row rfl (.tmp 28) (.tmp 30) 39 rfl w.heap.size 42 .u32 4 Try.underlying39 info32 _ k pre rfl (HO.out.alloc _) _ [cy] rfl HROW.out (by rw [HPL.out]; simp [maxLen]; omega) (by rw [HPL.out]; simp; omega) (by simp; omega) ?_; intro v' w' ho' hb')
   have hbb:=(hb.alloc hb.size (.cells #[.int .u32 cy] 42 (0,0))).trans hb'
   refine (rNormN ho' HF.out.2.1 (by rw [HF.out.1]; omega) hbb hbb.size).mono ?_
   rintro e w3 h
   obtain ⟨v3,rfl,hn,hb3⟩:=RetOwn.ret h
   rw [HF.out.done] at hn
   clear h ho'
   go_wp2_with fail
   go_ret
   exact ⟨v3,rfl,hn,hb3⟩
set_option maxHeartbeats 1000000 in
theorem rHalf (va:Value) (c:Nat) (x:Int) (w:World) (ha:Num w va c x) (hc:c<=2147483648) :
    Calls Try.prog 63 #[va] w (Ret1 w.heap.size w (x / 2)):=by
 obtain ⟨la,hra,hla,rfl⟩:=ha
 obtain ⟨a1,p1,rfl,g1,m1,c1⟩:=Row.parts hra
 have H1:=Lib.hid c1
 clear hra c1
 generalize hnA:la.length=nA at *
 have HL:=Lib.hid hnA
 clear hnA
 go_enter Try.func63,Try.ntmps63
 go_wp2
 go_loopg [3,4] nA (fun gk v i wr=>∃ (k:Nat) (pre:List Int),k<=nA/\nA-k<=gk/\i=.int .i64 k /\
     Hid (Acc pre k (N (la.drop k) / 2) (N la / 2))/\Hid (wr.ownsRow w.heap.size 42 1 v k (pre.map (Value.int .u32)))/\Below w.heap.size w wr)
 case atStart=>exact ⟨0,[],Nat.zero_le _,by omega,rfl,by have:=Acc.nil (N la / 2); simpa [Hid] using this,⟨rfl,.inl ⟨rfl,rfl⟩⟩,Below.refl _ _⟩
 case round =>
  obtain ⟨k,pre,hk,hgk,rfl,hA,HO,hb⟩:=hrel
  have hgs:w.heap.size<=wr.heap.size:=hb.size
  have hpl:pre.length=k:=hA.out.1
  have HPL:=Lib.hid hpl
  clear hpl
  by_cases h1:k<nA
  ·obtain ⟨b1,o1,rfl,q0,wx⟩:=H1.out k h1
   have q1:=cell_later hb q0
   have dx:=wf_u32 wx
   have eA:=N_dropd la k
   have eB:=N_dropd la (k+1)
   generalize la[k]?.getD 0=x at *
   clear q0
   by_cases h2:k+1<nA
   ·obtain ⟨b2,o2,e2,q2,wy⟩:=H1.out (k+1) h2
    cases e2
    have q2:=cell_later hb q2
    have dy:=wf_u32 wy
    generalize la[k+1]?.getD 0=y at *
    have HR:Hid (bits .or .u32 (x / 2) (y*2147483648 % 4294967296)=x / 2+y*2147483648 % 4294967296):=(shr_or32 (s:=1) (by omega) x y dx dy).1
    have HS:=Lib.hid (hA.out.step (x / 2+y*2147483648 % 4294967296) (N (la.drop (k+1)) / 2) (by omega) (by rw [eA,eB]; omega))
    have HROW:=Lib.hid (Row.one wr (x / 2+y*2147483648 % 4294967296) (by omega))
    rw [<-HR.out] at HROW
    clear wx wy eA eB
    go_wp2_with (at_builtin; refine app_row rfl (.tmp 30) (.tmp 32) 39 rfl w.heap.size 42 .u32 4 Try.underlying39 info32 _ k pre rfl (HO.out.alloc _) _ [bits .or .u32 (x / 2) (y*2147483648 % 4294967296)] rfl HROW.out (by rw [HPL.out]; simp [maxLen]; omega) (by rw [HPL.out]; simp; omega) (by simp; omega) ?_; intro v' w' ho' hb'; rw [HR.out] at ho'; have HO':=Lib.hid ho'; clear ho')
    go_roundg (nA-(k+1))
    case measure=>omega
    case rel=>exact ⟨k+1,_,by omega,Nat.le_refl _,by go_num,HS,HO',(hb.alloc hb.size _).trans hb'⟩
   ·have HS:=Lib.hid (hA.out.step (x / 2) (N (la.drop (k+1)) / 2) (by omega) (by
      rw [eA,List.drop_eq_nil_of_le (show la.length<=k+1 by rw [HL.out]; omega)]; simp [N]))
    have HROW:=Lib.hid (Row.one wr (x / 2) (by omega))
    have d2:decide ((k:Int)+1<(nA:Int))=false:=by simp; omega
    clear wx eA eB
    go_wp2_with (at_builtin; refine app_row rfl (.tmp 30) (.tmp 32) 39 rfl w.heap.size 42 .u32 4 Try.underlying39 info32 _ k pre rfl (HO.out.alloc _) _ [x / 2] rfl HROW.out (by rw [HPL.out]; simp [maxLen]; omega) (by rw [HPL.out]; simp; omega) (by simp; omega) ?_; intro v' w' ho' hb'; have HO':=Lib.hid ho'; clear ho')
    go_roundg (nA-(k+1))
    case measure=>omega
    case rel=>exact ⟨k+1,_,by omega,Nat.le_refl _,by go_num,HS,HO',(hb.alloc hb.size _).trans hb'⟩
  ·have hF:Acc pre k 0 (N la / 2):=by
     have:=hA.out
     rw [List.drop_eq_nil_of_le (by rw [HL.out]; omega)] at this
     exact this
   have HF:=Lib.hid hF
   clear hF
   go_wp2_with fail
   refine (rNormN HO.out HF.out.2.1 (by rw [HF.out.1]; omega) hb hb.size).mono ?_
   rintro e w3 h
   obtain ⟨v3,rfl,hn,hb3⟩:=RetOwn.ret h
   rw [HF.out.done] at hn
   clear h
   go_wp2_with fail
   go_ret
   exact ⟨v3,rfl,hn,hb3⟩
end Go.Proofs.Ytbokoblnehgkaaa.Nt
namespace Go.Proofs.Ytbokoblnehgkaaa.Nt
open Go.ChangeShapes Go.WideShapes Go.ChangeAt Go.RowKit B
set_option linter.unusedVariables false
set_option maxHeartbeats 1000000 in
theorem rMul (va vb:Value) (c:Nat) (x y:Int) (w:World) (ha:Num w va c x) (hb:Num w vb c y) (hc:c<=2147483648) :
    Calls Try.prog 31 #[va,vb] w (Ret1 w.heap.size w (x*y)):=by
 obtain ⟨la,hra,hla,rfl⟩:=ha
 obtain ⟨lb,hrb,hlb,rfl⟩:=hb
 have HC:=Lib.hid (And.intro (Row.ds hra) (Row.ds hrb))
 obtain ⟨a1,p1,rfl,g1,m1,hcell1⟩:=Row.parts hra
 obtain ⟨a2,p2,rfl,g2,m2,hcell2⟩:=Row.parts hrb
 have HX:=Lib.hid hcell1
 have HY:=Lib.hid hcell2
 clear hra hrb hcell1 hcell2
 generalize hnX:la.length=nX at *
 generalize hnY:lb.length=nY at *
 have HL:=Lib.hid (And.intro hnX hnY)
 clear hnX hnY
 go_enter Try.func31,Try.ntmps31
 have HCAP:=Lib.hid (show (nX:Int)+(nY:Int)=((nX+nY:Nat):Int) by omega)
 go_wp2_with (at_make; refine make_row rfl (.tmp 13) (.tmp 13) 39 rfl w.heap.size 42 .u32 4 Try.underlying39 info32 _ (nX+nY) rfl rfl HCAP.out (by omega) (by unfold maxLen; omega) (Nat.le_refl _) ?_; intro w1 ho1 hb1)
 clear HCAP
 go_loopw [6] (fun i wr=>∃ (k:Nat) (r:List Int),k<=nX/\i=.int .i64 k/\Hid (r.length=nX+nY/\Ds r/\r.drop (k+nY)=List.replicate (nX-k) 0/\N r=N (la.take k)*N lb) /\
     wr.ownsRow w.heap.size 42 1 (.slice (some ⟨w.heap.size,0,none⟩) (nX+nY) (nX+nY)) (nX+nY) (r.map (Value.int .u32))/\Below w.heap.size w wr) (fun i _=>nX-(intOf i).toNat)
 case atStart=>exact ⟨0,List.replicate (nX+nY) 0,Nat.zero_le _,rfl,⟨by simp,Ds.zeros _,by simp,by simp [N,N_zeros]⟩,ho1,hb1⟩
 case round =>
  obtain ⟨k,r,hk,rfl,hp,ho,hb⟩:=hrel
  by_cases hlt:k<nX
  ·obtain ⟨bx,ox,rfl,qx,wx⟩:=HX.out k (by omega)
   have QX:=Lib.hid qx
   have qx:=cell_later hb qx
   have dx:=wf_u32 wx
   have HM:=Lib.hid (mul_row r la lb k (by rw [HL.out.1]; exact hlt) (by rw [HL.out.1,HL.out.2]; exact hp.out.1) (by rw [HL.out.1,HL.out.2]; exact hp.out.2.2.1) hp.out.2.2.2)
   rw [HL.out.1,HL.out.2] at HM
   have HQ:=Lib.hid (mulL_ds dx (r.drop k) lb 0 (hp.out.2.1.drop k) HC.out.2 (by omega))
   generalize la[k]?.getD 0=x at *
   clear wx
   obtain ⟨wo,rfl⟩:∃ wo:World,wo=wr:=⟨_,rfl⟩
   go_wp2
   go_loopw [7,8] (fun t i wr=>∃ (j:Nat) (cy:Int) (pre:List Int),j<=nY/\i=.int .i64 j/\t=.int .u64 cy/\0<=cy/\cy<4294967296 /\
       Hid (pre.length=k+j/\Ds pre/\pre++mulL x (r.drop (k+j)) (lb.drop j) cy=r.take k++mulL x (r.drop k) lb 0) /\
       wr.ownsRow w.heap.size 42 1 (.slice (some ⟨w.heap.size,0,none⟩) (nX+nY) (nX+nY)) (nX+nY) ((pre++r.drop (k+j)).map (Value.int .u32))/\Below w.heap.size w wr) (fun _ i _=>nY-(intOf i).toNat)
   case atStart=>exact ⟨0,0,r.take k,Nat.zero_le _,rfl,rfl,by omega,by omega,⟨by simp; have:=hp.out.1; omega,hp.out.2.1.take k,rfl⟩,by rw [Nat.add_zero,List.take_append_drop]; exact ho,hb⟩
   case round =>
    obtain ⟨j,cy,pre,hj,rfl,rfl,hc0,hc1,hq,ho2,hb2⟩:=hrel
    have hkj:k+j<r.length:=by have:=hp.out.1; omega
    by_cases hlt2:j<nY
    ·obtain ⟨by_,oy,rfl,qy,wy⟩:=HY.out j (by omega)
     have qy:=cell_later hb2 qy
     have qxx:=cell_later hb2 QX.out
     have dy:=wf_u32 wy
     have hxy:=mul_bd dx dy
     obtain ⟨hce,hfz⟩:=own_cell ho2 (k+j) (by omega)
     rw [at_border hq.out.1 hkj] at hce
     have HS:=Lib.hid (mulL_step x r lb k j cy hkj (by rw [HL.out.2]; exact hlt2))
     have HB:=Lib.hid (set_border hq.out.1 hkj)
     have dr:=hp.out.2.1.at (k+j)
     generalize lb[j]?.getD 0=y at *
     generalize r[k+j]?.getD 0=z at *
     clear wy
     have HX0:=Lib.hid (show cy+z+x*y=x*y+z+cy by omega)
     go_wp2
     go_quiet (fail)
     have hb2:=below_drewN hb2 nq
     have ho2:=own_below ho2 (below_drewN (Below.refl _ wr) nq)
     obtain ⟨hce,hfz⟩:=own_cell ho2 (k+j) (by omega)
     generalize wr.drewN nq=wr at *
     rw [HX0.out]
     go_wp2
     refine ⟨⟨j+1,(x*y+z+cy) / 4294967296,pre++[(x*y+z+cy) % 4294967296],by omega,by go_num,rfl,by omega,by omega,⟨?_,hq.out.2.1.app (Ds.cons (by omega) Ds.nil),?_⟩,?_,hb2.setCell (Nat.le_refl _) _⟩,by simp [intOf]; omega⟩
     ·have:=hq.out.1; simp; omega
     ·rw [<-hq.out.2.2,HS.out,List.append_assoc]; rfl
     ·have:=own_store ho2 (k+j) ((x*y+z+cy) % 4294967296)
      rwa [HB.out] at this
    ·obtain rfl:j=nY:=by omega
     obtain ⟨hce,hfz⟩:=own_cell ho2 (k+j) (by omega)
     have HE:=Lib.hid (show (pre++[cy])++r.drop (k+j+1)=r.take k++mulL x (r.drop k) lb 0 by
      have e:=mulL_last x r lb k cy (by rw [HL.out.2]; exact hkj)
      rw [HL.out.2] at e
      rw [<-hq.out.2.2,e,List.append_assoc]; rfl)
     have hs:=own_store ho2 (k+j) cy
     rw [set_border hq.out.1 hkj,HE.out] at hs
     have hb3:=hb2.setCell (p:=⟨w.heap.size,k+j,none⟩) (Nat.le_refl _) (.int .u32 cy)
     go_wp2
     refine ⟨⟨k+1,r.take k++mulL x (r.drop k) lb 0,by omega,by go_num,⟨HM.out.2.1,(hp.out.2.1.take k).app HQ.out,HM.out.2.2,HM.out.1⟩,hs,hb3⟩,by simp [intOf]; omega⟩
  ·obtain rfl:k=nX:=by omega
   have HE:=Lib.hid (show N r=N la*N lb by
    rw [hp.out.2.2.2,List.take_of_length_le (by rw [HL.out.1]; exact Nat.le_refl _)])
   have HD:=Lib.hid hp.out.2.1
   have HLEN:=Lib.hid hp.out.1
   clear hp
   go_wp2_with fail
   refine (rNormN ho HD.out (by have:=HLEN.out; omega) hb hb.size).mono ?_
   rintro e w9 h
   obtain ⟨v',rfl,hn,hb9⟩:=RetOwn.ret h
   clear h
   rw [HE.out] at hn
   go_wp2_with fail
   go_ret
   exact ⟨v',rfl,hn,hb9⟩
end Go.Proofs.Ytbokoblnehgkaaa.Nt
namespace Go.Proofs.Ytbokoblnehgkaaa.Nt
open Go.ChangeShapes Go.WideShapes Go.ChangeAt Go.RowKit B
set_option linter.unusedVariables false
theorem Fresh.only {w w':World} {g base:Nat} {v:Value} {l:List Int} (h:Fresh 42 base w v) (hr:Row .u32 w v l) (hg:g<base) (ho:Only g w w'):Row .u32 w' v l:=by
 refine Row.of_heap hr ?_
 rintro b off sp n c rfl
 obtain ⟨h1,cs,h2⟩:=h b off sp n c rfl
 have:b<w.heap.size:=by
  rcases Nat.lt_or_ge b w.heap.size with h|h
  ·exact h
  ·rw [Array.getElem?_eq_none h] at h2; cases h2
 obtain ⟨_,_,_,_,hh⟩:=ho
 exact hh b this (by simp; omega)
set_option maxHeartbeats 1000000 in
theorem rSub (va vb:Value) (c:Nat) (x y:Int) (w:World) (ha:Num w va c x) (hb:Num w vb c y) (hc:c<=2147483648) :
    Calls Try.prog 65 #[va,vb] w (RetSub w.heap.size w x y):=by
 have hxl:=ha.lt
 have hyl:=hb.lt
 have HXY:=Lib.hid (And.intro hxl hyl)
 have HA:=Lib.hid ha
 have HB:=Lib.hid hb
 clear ha hb hxl hyl
 go_enter Try.func65,Try.ntmps65
 go_wp2_with fail
 refine (rCmp va vb c x y w HA.out HB.out (by omega)).mono ?_
 rintro e w0 ⟨rfl,hb0⟩
 by_cases hlt:x<y
 ·have e1:cmpI x y = -1:=by rw [cmpI,if_pos hlt]
  rw [e1]
  have HF:=Lib.hid (show ¬y<=x by omega)
  clear hlt e1
  go_wp2_with fail
  go_ret2
  refine ⟨.slice none 0 0,?_,?_,hb0⟩
  ·rw [decide_eq_false (by have:=HF.out; omega)]; rfl
  ·rw [if_neg (by have:=HF.out; omega)]; exact IsNew.nil _ _
 ·have hle:¬cmpI x y<0:=by rw [cmpI,if_neg hlt]; split<;>omega
  have HF:=Lib.hid (show y<=x by omega)
  generalize cmpI x y=r at *
  have hr:decide (r<0)=false:=by simp; omega
  clear hlt
  go_wp2_with fail
  refine (rNormO va c x w0 (HA.out.keep hb0) (by omega)).mono ?_
  rintro e w1 ⟨v1,l1,rfl,o1,C1,N1,hb1⟩
  have HO1:=Lib.hid o1
  have HCN1:=Lib.hid (And.intro C1 N1)
  clear o1 C1 N1
  go_wp2_with fail
  refine (rNorm vb c y w1 ((HB.out.keep hb0).keep hb1) (by omega)).mono ?_
  rintro e w2 ⟨v2,rfl,⟨l2,r2,C2,N2,f2⟩,hb2⟩
  have hbw:Below w.heap.size w w2:=(hb0.trans (hb1.mono hb0.size)).trans (hb2.mono (Nat.le_trans hb0.size hb1.size))
  have hll:l2.length<=l1.length:=by
   rcases Nat.lt_or_ge l1.length l2.length with h|h
   ·have:=len_lt HCN1.out.1 C2 h
    have:=HF.out; rw [HCN1.out.2,N2] at *; omega
   ·exact h
  have HSUB:=Lib.hid (show N (subL l1 l2 0)=x-y by rw [sub_N HCN1.out.1.1 C2.1 hll (by rw [HCN1.out.2,N2]; exact HF.out),HCN1.out.2,N2])
  have hlc:l1.length<=c:=HCN1.out.1.len c (by rw [HCN1.out.2]; exact HXY.out.1)
  rcases l1 with _|⟨dd,l1'⟩
  ·have hl0:([]:List Int).length=0:=rfl
   obtain ⟨a1,cap1,rfl,_⟩:=Row.parts (Row.ofOwn HO1.out (by intro n hn; cases hn))
   have HO2:=Lib.hid (own_below HO1.out hb2)
   clear r2 C2 N2 f2
   go_wp2
   go_loopg [8,9] 0 (fun gk t i wr=>t=.int .u64 0/\i=.int .i64 0/\wr=w2)
   case atStart=>exact ⟨rfl,rfl,rfl⟩
   case round =>
    obtain ⟨rfl,rfl,rfl⟩:=hrel
    go_wp2_with fail
    refine (rNormN (own_mono HO2.out hb0.size) Ds.nil (by simp) hbw hbw.size).mono ?_
    rintro e w3 h
    obtain ⟨v3,rfl,hn,hb3⟩:=RetOwn.ret h
    clear h
    have hn':N []=x-y:=by have:=HSUB.out; simpa [subL] using this
    rw [hn'] at hn
    clear hn'
    go_wp2_with fail
    go_ret2
    refine ⟨v3,?_,?_,hb3⟩
    ·rw [decide_eq_true HF.out]; rfl
    ·rw [if_pos HF.out]; exact hn
  ·generalize hl1:dd::l1'=l1 at *
   have hpos:0<l1.length:=by rw [<-hl1]; simp
   obtain ⟨g,cap,rfl,hg⟩:=own_pos HO1.out hpos
   have hglt:=(own_lt HO1.out).1
   have HY:=Lib.hid (fun wr (h:Only g w2 wr)=>Fresh.only f2 r2 hglt h)
   obtain ⟨a2,p2,rfl,g2,m2,_⟩:=Row.parts r2
   have HO2:=Lib.hid (own_below HO1.out hb2)
   have HC:=Lib.hid (And.intro HCN1.out.1 C2)
   clear r2 C2 N2 f2 hl1 HO1
   generalize hnX:l1.length=nX at *
   generalize hnY:l2.length=nY at *
   have HL:=Lib.hid (And.intro hnX hnY)
   clear hnX hnY
   go_wp2
   go_loopg [8,9] nX (fun gk t i wr=>∃ (k:Nat) (cy:Int) (pre:List Int),k<=nX/\nX-k<=gk/\i=.int .i64 k/\t=.int .u64 cy/\0<=cy/\cy<=1 /\
       Hid (pre.length=k/\pre++subL (l1.drop k) (l2.drop k) cy=subL l1 l2 0)/\Hid (wr.ownsRow w0.heap.size 42 1 (.slice (some ⟨g,0,none⟩) nX cap) nX ((pre++l1.drop k).map (Value.int .u32)))/\Hid (Only g w2 wr))
   case atStart=>exact ⟨0,0,[],Nat.zero_le _,by omega,rfl,rfl,by omega,by omega,⟨rfl,rfl⟩,HO2.out,Only.refl _ _⟩
   case round =>
    obtain ⟨k,cy,pre,hk,hgk,rfl,rfl,hc0,hc1,hp,ho,hon⟩:=hrel
    by_cases hlt:k<nX
    ·have hlX:k<l1.length:=by rw [HL.out.1]; exact hlt
     obtain ⟨hce,hfz⟩:=own_cell ho.out k (by omega)
     rw [at_border hp.out.1 hlX] at hce
     have HB:=Lib.hid (set_border hp.out.1 hlX)
     have dx:=HC.out.1.1.at k
     by_cases hlt2:k<nY
     ·obtain ⟨_,_,e2,_,_,hcell2⟩:=Row.parts (HY.out wr hon.out)
      obtain ⟨by_,oy,e3,qy,wy⟩:=hcell2 k (by rw [HL.out.2]; exact hlt2)
      have dy:=wf_u32 wy
      have HS:=Lib.hid (subL_both l1 l2 k cy hlX (by rw [HL.out.2]; exact hlt2))
      clear hcell2
      cases e2
      subst e3
      generalize l1[k]?.getD 0=x at *
      generalize l2[k]?.getD 0=y at *
      clear wy
      by_cases hge:cy+y<=x
      ·have e1:(x-(cy+y)) % 4294967296=x-(cy+y):=by omega
       have e2:-((x-(cy+y)) / 4294967296)=0:=by omega
       rw [e1,e2] at HS
       clear e1 e2
       have hs:=own_store ho.out k (x-(cy+y))
       rw [HB.out] at hs
       have HO':=Lib.hid hs
       clear hs
       go_wp2
       go_roundg (nX-(k+1))
       case measure=>omega
       case rel=>exact ⟨k+1,0,pre++[x-(cy+y)],by omega,Nat.le_refl _,by go_num,by go_num,by omega,by omega,⟨by simp [hp.out.1],by rw [<-hp.out.2,HS.out,List.append_assoc]; rfl⟩,HO',hon.out.set _ _⟩
      ·have e1:(x-(cy+y)) % 4294967296=x+4294967296-(cy+y):=by omega
       have e2:-((x-(cy+y)) / 4294967296)=1:=by omega
       rw [e1,e2] at HS
       clear e1 e2
       have hs:=own_store ho.out k (x+4294967296-(cy+y))
       rw [HB.out] at hs
       have HO':=Lib.hid hs
       clear hs
       go_wp2
       go_roundg (nX-(k+1))
       case measure=>omega
       case rel=>exact ⟨k+1,1,pre++[x+4294967296-(cy+y)],by omega,Nat.le_refl _,by go_num,by go_num,by omega,by omega,⟨by simp [hp.out.1],by rw [<-hp.out.2,HS.out,List.append_assoc]; rfl⟩,HO',hon.out.set _ _⟩
     ·have HS:=Lib.hid (subL_one l1 l2 k cy hlX (by rw [HL.out.2]; omega))
      generalize l1[k]?.getD 0=x at *
      by_cases hge:cy<=x
      ·have e1:(x-cy) % 4294967296=x-cy:=by omega
       have e2:-((x-cy) / 4294967296)=0:=by omega
       rw [e1,e2] at HS
       clear e1 e2
       have hs:=own_store ho.out k (x-cy)
       rw [HB.out] at hs
       have HO':=Lib.hid hs
       clear hs
       go_wp2
       go_roundg (nX-(k+1))
       case measure=>omega
       case rel=>exact ⟨k+1,0,pre++[x-cy],by omega,Nat.le_refl _,by go_num,by go_num,by omega,by omega,⟨by simp [hp.out.1],by rw [<-hp.out.2,HS.out,List.append_assoc]; rfl⟩,HO',hon.out.set _ _⟩
      ·have e1:(x-cy) % 4294967296=x+4294967296-cy:=by omega
       have e2:-((x-cy) / 4294967296)=1:=by omega
       rw [e1,e2] at HS
       clear e1 e2
       have hs:=own_store ho.out k (x+4294967296-cy)
       rw [HB.out] at hs
       have HO':=Lib.hid hs
       clear hs
       go_wp2
       go_roundg (nX-(k+1))
       case measure=>omega
       case rel=>exact ⟨k+1,1,pre++[x+4294967296-cy],by omega,Nat.le_refl _,by go_num,by go_num,by omega,by omega,⟨by simp [hp.out.1],by rw [<-hp.out.2,HS.out,List.append_assoc]; rfl⟩,HO',hon.out.set _ _⟩
    ·obtain rfl:k=nX:=by omega
     have hd:l1.drop k=[]:=List.drop_eq_nil_of_le (by rw [HL.out.1]; omega)
     have hpre:pre=subL l1 l2 0:=by
      have:=hp.out.2; rw [hd] at this; simpa [subL] using this
     have hoo:=ho.out
     rw [hd,List.append_nil,hpre] at hoo
     have HOO:=Lib.hid hoo
     have hbo:=hbw.trans (hon.out.below (hbw.size) (Nat.le_trans hb0.size hg))
     clear hoo hpre hd
     go_wp2_with fail
     refine (rNormN (own_mono HOO.out hb0.size) (subL_ds _ _ _) (by rw [subL_len,HL.out.1]; omega) hbo hbo.size).mono ?_
     rintro e w3 h
     obtain ⟨v3,rfl,hn,hb3⟩:=RetOwn.ret h
     clear h
     rw [HSUB.out] at hn
     go_wp2_with fail
     go_ret2
     refine ⟨v3,?_,?_,hb3⟩
     ·rw [decide_eq_true HF.out]; rfl
     ·rw [if_pos HF.out]; exact hn
end Go.Proofs.Ytbokoblnehgkaaa.Nt
