/-
  Add, Sub, Mul, DivDigit, in one text: see the remarks at the head of each part.
-/
import Derived.Test.YtbokoblnehgkaaaMSmall
import Derived.Test.YtbokoblnehgkaaaMPlain
namespace Go.Proofs.Ytbokoblnehgkaaa.Nt
open Go.ChangeShapes Go.WideShapes Go.ChangeAt Go.RowKit B
set_option linter.unusedVariables false
def addL:List Int->List Int->Int->List Int
 | [],_,c=>[c]
 | d::a,[],c=>((d+c) % 4294967296)::addL a [] ((d+c) / 4294967296)
 | d::a,e::b,c=>((d+c+e) % 4294967296)::addL a b ((d+c+e) / 4294967296)
theorem addL_N (a b:List Int) (c:Int) (h:b.length<=a.length):N (addL a b c)=N a+N b+c:=by
 induction a generalizing b c with
 | nil =>
  rcases b with _|⟨e,b⟩
  ·simp [addL,N]
  ·simp at h
 | cons d a ih =>
  rcases b with _|⟨e,b⟩
  ·show (d+c) % 4294967296+4294967296*N (addL a [] ((d+c) / 4294967296))=d+4294967296*N a+0+c
   rw [ih [] _ (by simp)]
   simp only [N]
   omega
  ·show (d+c+e) % 4294967296+4294967296*N (addL a b ((d+c+e) / 4294967296))=d+4294967296*N a+(e+4294967296*N b)+c
   rw [ih b _ (by simpa using h)]
   omega
theorem addL_both (x y:List Int) (k:Nat) (c:Int) (h1:k<x.length) (h2:k<y.length) :
    addL (x.drop k) (y.drop k) c=((x[k]?.getD 0+c+y[k]?.getD 0) % 4294967296)::addL (x.drop (k+1)) (y.drop (k+1)) ((x[k]?.getD 0+c+y[k]?.getD 0) / 4294967296):=by
 rw [drop_cons h1,drop_cons h2,addL]
theorem addL_one (x y:List Int) (k:Nat) (c:Int) (h1:k<x.length) (h2:y.length<=k) :
    addL (x.drop k) (y.drop k) c=((x[k]?.getD 0+c) % 4294967296)::addL (x.drop (k+1)) (y.drop (k+1)) ((x[k]?.getD 0+c) / 4294967296):=by
 rw [drop_cons h1,List.drop_eq_nil_of_le h2,List.drop_eq_nil_of_le (show y.length<=k+1 by omega),addL]
theorem set_zeros {pre:List Int} {k n:Nat} (hp:pre.length=k) (hk:k<n) {x:Int}:(pre++List.replicate (n-k) 0).set k x=(pre++[x])++List.replicate (n-(k+1)) 0:=by
 rw [List.set_append_right _ _ (by omega),hp,Nat.sub_self]
 obtain ⟨m,hm⟩:∃ m,n-k=m+1:=⟨n-k-1,by omega⟩
 rw [hm,List.replicate_succ,List.set_cons_zero,show n-(k+1)=m by omega,List.append_assoc]; rfl
set_option maxHeartbeats 1000000 in
theorem add (va vb:Value) (c:Nat) (x y:Int) (w:World) (ha:Num w va c x) (hb:Num w vb c y) (hc:c<=4294967296) :
    Calls Try.prog 82 #[va,vb] w (Ret1 w.heap.size w (x+y)):=by
 obtain ⟨la,hra,hla,rfl⟩:=ha
 obtain ⟨lb,hrb,hlb,rfl⟩:=hb
 have HA:=Lib.hid hra
 have HB:=Lib.hid hrb
 clear hra hrb
 go_enter Try.func82,Try.ntmps82
 go_wp2_with fail
 refine (trimR va la w HA.out).mono ?_
 rintro e w' ⟨v1,l1,rfl,r1,N1,C1,L1,_,rfl⟩
 go_wp2_with fail
 refine (trimR vb lb w HB.out).mono ?_
 rintro e w' ⟨v2,l2,rfl,r2,N2,C2,L2,_,rfl⟩
 clear HA HB
 have HN:=Lib.hid (And.intro N1 N2)
 have HC:=Lib.hid (And.intro C1 C2)
 obtain ⟨a1,p1,rfl,g1,m1,hcell1⟩:=Row.parts r1
 obtain ⟨a2,p2,rfl,g2,m2,hcell2⟩:=Row.parts r2
 clear r1 r2 N1 N2 C1 C2
 by_cases hlen:l1.length<l2.length
 ·have HX:=Lib.hid hcell2
  have HY:=Lib.hid hcell1
  clear hcell1 hcell2
  have HA:=Lib.hid (show N (addL l2 l1 0)=N la+N lb by rw [addL_N _ _ _ (by omega),HN.out.1,HN.out.2]; omega)
  have HCAP:=Lib.hid (show (l2.length:Int)+1=((l2.length+1:Nat):Int) by omega)
  go_wp2_with (at_make; refine make_row rfl (.tmp 23) (.tmp 23) 39 rfl w.heap.size 42 .u32 4 Try.underlying39 info32 _ (l2.length+1) rfl rfl HCAP.out (by omega) (by unfold maxLen; omega) (Nat.le_refl _) ?_; intro w1 ho1 hb1)
  clear HCAP
  generalize hnX:l2.length=nX at *
  generalize hnY:l1.length=nY at *
  have HL:=Lib.hid (And.intro hnX hnY)
  clear hnX hnY
  go_loopw [6,27] (fun t i wr=>∃ (k:Nat) (cy:Int) (pre:List Int),k<=nX/\i=.int .i64 k/\t=.int .u64 cy/\0<=cy/\cy<=1/\Hid (pre.length=k/\Ds pre/\pre++addL (l2.drop k) (l1.drop k) cy=addL l2 l1 0) /\
      wr.ownsRow w.heap.size 42 1 (.slice (some ⟨w.heap.size,0,none⟩) (nX+1) (nX+1)) (nX+1) ((pre++List.replicate (nX+1-k) 0).map (Value.int .u32))/\Below w.heap.size w wr) (fun _ i _=>nX-(intOf i).toNat)
  case atStart=>exact ⟨0,0,[],Nat.zero_le _,rfl,rfl,by omega,by omega,⟨rfl,Ds.nil,rfl⟩,ho1,hb1⟩
  case round =>
   obtain ⟨k,cy,pre,hk,rfl,rfl,hc0,hc1,hp,ho,hb⟩:=hrel
   by_cases hlt:k<nX
   ·obtain ⟨bx,ox,rfl,qx,wx⟩:=HX.out k (by omega)
    have qx:=cell_later hb qx
    have dx:=wf_u32 wx
    have hlX:k<l2.length:=by rw [HL.out.1]; exact hlt
    obtain ⟨hce,hfz⟩:=own_cell ho k (by omega)
    by_cases hlt2:k<nY
    ·obtain ⟨by_,oy,rfl,qy,wy⟩:=HY.out k (by omega)
     have qy:=cell_later hb qy
     have dy:=wf_u32 wy
     have HS:=Lib.hid (addL_both l2 l1 k cy hlX (by rw [HL.out.2]; exact hlt2))
     generalize l2[k]?.getD 0=x at *
     generalize l1[k]?.getD 0=y at *
     clear wx wy
     go_wp2
     refine ⟨⟨k+1,(x+cy+y) / 4294967296,pre++[(x+cy+y) % 4294967296],by omega,by go_num,rfl,by omega,by omega,?_,?_,hb.setCell (Nat.le_refl _) _⟩,by simp [intOf]; omega⟩
     ·refine ⟨by simp [hp.out.1],hp.out.2.1.app (Ds.cons (by omega) Ds.nil),?_⟩
      rw [<-hp.out.2.2,HS.out,List.append_assoc]; rfl
     ·have:=own_store ho k ((x+cy+y) % 4294967296)
      rwa [set_zeros hp.out.1 (show k<nX+1 by omega)] at this
    ·have HS:=Lib.hid (addL_one l2 l1 k cy hlX (by rw [HL.out.2]; omega))
     generalize l2[k]?.getD 0=x at *
     clear wx
     go_wp2
     refine ⟨⟨k+1,(x+cy) / 4294967296,pre++[(x+cy) % 4294967296],by omega,by go_num,rfl,by omega,by omega,?_,?_,hb.setCell (Nat.le_refl _) _⟩,by simp [intOf]; omega⟩
     ·refine ⟨by simp [hp.out.1],hp.out.2.1.app (Ds.cons (by omega) Ds.nil),?_⟩
      rw [<-hp.out.2.2,HS.out,List.append_assoc]; rfl
     ·have:=own_store ho k ((x+cy) % 4294967296)
      rwa [set_zeros hp.out.1 (show k<nX+1 by omega)] at this
   ·obtain rfl:k=nX:=by omega
    obtain ⟨hce,hfz⟩:=own_cell ho k (by omega)
    have HE:=Lib.hid (show pre++[cy]=addL l2 l1 0 by
     rw [<-hp.out.2.2,List.drop_eq_nil_of_le (by rw [HL.out.1]; exact Nat.le_refl _)]; simp [addL])
    have hs:=own_store ho k cy
    rw [set_zeros hp.out.1 (show k<k+1 by omega),Nat.sub_self,List.replicate_zero,List.append_nil,HE.out] at hs
    have HD:=Lib.hid (show Ds (addL l2 l1 0) by rw [<-HE.out]; exact hp.out.2.1.app (Ds.cons (by omega) Ds.nil))
    have hb2:=hb.setCell (p:=⟨w.heap.size,k,none⟩) (Nat.le_refl _) (.int .u32 cy)
    clear HE hp ho
    go_wp2_with fail
    refine (trimN hs HD.out).mono ?_
    rintro e w' ⟨v',rfl,hn,rfl⟩
    rw [HA.out] at hn
    go_wp2_with fail
    go_ret
    exact ⟨v',rfl,hn,hb2⟩
 ·have HX:=Lib.hid hcell1
  have HY:=Lib.hid hcell2
  clear hcell1 hcell2
  have HA:=Lib.hid (show N (addL l1 l2 0)=N la+N lb by rw [addL_N _ _ _ (by omega),HN.out.1,HN.out.2]; omega)
  have HCAP:=Lib.hid (show (l1.length:Int)+1=((l1.length+1:Nat):Int) by omega)
  go_wp2_with (at_make; refine make_row rfl (.tmp 23) (.tmp 23) 39 rfl w.heap.size 42 .u32 4 Try.underlying39 info32 _ (l1.length+1) rfl rfl HCAP.out (by omega) (by unfold maxLen; omega) (Nat.le_refl _) ?_; intro w1 ho1 hb1)
  clear HCAP
  generalize hnX:l1.length=nX at *
  generalize hnY:l2.length=nY at *
  have HL:=Lib.hid (And.intro hnX hnY)
  clear hnX hnY
  go_loopw [6,27] (fun t i wr=>∃ (k:Nat) (cy:Int) (pre:List Int),k<=nX/\i=.int .i64 k/\t=.int .u64 cy/\0<=cy/\cy<=1/\Hid (pre.length=k/\Ds pre/\pre++addL (l1.drop k) (l2.drop k) cy=addL l1 l2 0) /\
      wr.ownsRow w.heap.size 42 1 (.slice (some ⟨w.heap.size,0,none⟩) (nX+1) (nX+1)) (nX+1) ((pre++List.replicate (nX+1-k) 0).map (Value.int .u32))/\Below w.heap.size w wr) (fun _ i _=>nX-(intOf i).toNat)
  case atStart=>exact ⟨0,0,[],Nat.zero_le _,rfl,rfl,by omega,by omega,⟨rfl,Ds.nil,rfl⟩,ho1,hb1⟩
  case round =>
   obtain ⟨k,cy,pre,hk,rfl,rfl,hc0,hc1,hp,ho,hb⟩:=hrel
   by_cases hlt:k<nX
   ·obtain ⟨bx,ox,rfl,qx,wx⟩:=HX.out k (by omega)
    have qx:=cell_later hb qx
    have dx:=wf_u32 wx
    have hlX:k<l1.length:=by rw [HL.out.1]; exact hlt
    obtain ⟨hce,hfz⟩:=own_cell ho k (by omega)
    by_cases hlt2:k<nY
    ·obtain ⟨by_,oy,rfl,qy,wy⟩:=HY.out k (by omega)
     have qy:=cell_later hb qy
     have dy:=wf_u32 wy
     have HS:=Lib.hid (addL_both l1 l2 k cy hlX (by rw [HL.out.2]; exact hlt2))
     generalize l1[k]?.getD 0=x at *
     generalize l2[k]?.getD 0=y at *
     clear wx wy
     go_wp2
     refine ⟨⟨k+1,(x+cy+y) / 4294967296,pre++[(x+cy+y) % 4294967296],by omega,by go_num,rfl,by omega,by omega,?_,?_,hb.setCell (Nat.le_refl _) _⟩,by simp [intOf]; omega⟩
     ·refine ⟨by simp [hp.out.1],hp.out.2.1.app (Ds.cons (by omega) Ds.nil),?_⟩
      rw [<-hp.out.2.2,HS.out,List.append_assoc]; rfl
     ·have:=own_store ho k ((x+cy+y) % 4294967296)
      rwa [set_zeros hp.out.1 (show k<nX+1 by omega)] at this
    ·have HS:=Lib.hid (addL_one l1 l2 k cy hlX (by rw [HL.out.2]; omega))
     generalize l1[k]?.getD 0=x at *
     clear wx
     go_wp2
     refine ⟨⟨k+1,(x+cy) / 4294967296,pre++[(x+cy) % 4294967296],by omega,by go_num,rfl,by omega,by omega,?_,?_,hb.setCell (Nat.le_refl _) _⟩,by simp [intOf]; omega⟩
     ·refine ⟨by simp [hp.out.1],hp.out.2.1.app (Ds.cons (by omega) Ds.nil),?_⟩
      rw [<-hp.out.2.2,HS.out,List.append_assoc]; rfl
     ·have:=own_store ho k ((x+cy) % 4294967296)
      rwa [set_zeros hp.out.1 (show k<nX+1 by omega)] at this
   ·obtain rfl:k=nX:=by omega
    obtain ⟨hce,hfz⟩:=own_cell ho k (by omega)
    have HE:=Lib.hid (show pre++[cy]=addL l1 l2 0 by
     rw [<-hp.out.2.2,List.drop_eq_nil_of_le (by rw [HL.out.1]; exact Nat.le_refl _)]; simp [addL])
    have hs:=own_store ho k cy
    rw [set_zeros hp.out.1 (show k<k+1 by omega),Nat.sub_self,List.replicate_zero,List.append_nil,HE.out] at hs
    have HD:=Lib.hid (show Ds (addL l1 l2 0) by rw [<-HE.out]; exact hp.out.2.1.app (Ds.cons (by omega) Ds.nil))
    have hb2:=hb.setCell (p:=⟨w.heap.size,k,none⟩) (Nat.le_refl _) (.int .u32 cy)
    clear HE hp ho
    go_wp2_with fail
    refine (trimN hs HD.out).mono ?_
    rintro e w' ⟨v',rfl,hn,rfl⟩
    rw [HA.out] at hn
    go_wp2_with fail
    go_ret
    exact ⟨v',rfl,hn,hb2⟩
end Go.Proofs.Ytbokoblnehgkaaa.Nt
namespace Go.Proofs.Ytbokoblnehgkaaa.Nt
open Go.ChangeShapes Go.WideShapes Go.ChangeAt Go.RowKit B
set_option linter.unusedVariables false
def subL:List Int->List Int->Int->List Int
 | [],_,_=>[]
 | d::a,[],b=>((d-b) % 4294967296)::subL a [] (-((d-b) / 4294967296))
 | d::a,e::c,b=>((d-(b+e)) % 4294967296)::subL a c (-((d-(b+e)) / 4294967296))
def subF:List Int->List Int->Int->Int
 | [],_,b=>b
 | d::a,[],b=>subF a [] (-((d-b) / 4294967296))
 | d::a,e::c,b=>subF a c (-((d-(b+e)) / 4294967296))
theorem subL_len (a c:List Int) (b:Int):(subL a c b).length=a.length:=by
 induction a generalizing c b with
 | nil=>rfl
 | cons d a ih=>rcases c with _|⟨e,c⟩<;>simp [subL,ih]
theorem subL_ds (a c:List Int) (b:Int):Ds (subL a c b):=by
 induction a generalizing c b with
 | nil=>exact Ds.nil
 | cons d a ih =>
  rcases c with _|⟨e,c⟩
  ·exact Ds.cons (by omega) (ih _ _)
  ·exact Ds.cons (by omega) (ih _ _)
theorem subL_N (a c:List Int) (b:Int) (h:c.length<=a.length):N (subL a c b)=N a-N c-b+Bp a.length*subF a c b:=by
 induction a generalizing c b with
 | nil =>
  rcases c with _|⟨e,c⟩
  ·simp [subL,subF,N,Bp]; omega
  ·simp at h
 | cons d a ih =>
  rcases c with _|⟨e,c⟩
  ·show (d-b) % 4294967296+4294967296*N (subL a [] (-((d-b) / 4294967296)))=d+4294967296*N a-0-b+4294967296*Bp a.length*subF a [] (-((d-b) / 4294967296))
   rw [ih [] _ (by simp),Int.mul_assoc]
   simp only [N]
   omega
  ·show (d-(b+e)) % 4294967296+4294967296*N (subL a c (-((d-(b+e)) / 4294967296)))=d+4294967296*N a-(e+4294967296*N c)-b+4294967296*Bp a.length*subF a c (-((d-(b+e)) / 4294967296))
   rw [ih c _ (by simpa using h),Int.mul_assoc]
   omega
theorem subF_bd (a c:List Int) (b:Int) (ha:Ds a) (hc:Ds c) (hb:0<=b/\b<=1):0<=subF a c b/\subF a c b<=1:=by
 induction a generalizing c b with
 | nil=>exact hb
 | cons d a ih =>
  have hd:=ha.head
  rcases c with _|⟨e,c⟩
  ·exact ih _ _ ha.tail Ds.nil (by omega)
  ·have he:=hc.head
   exact ih _ _ ha.tail hc.tail (by omega)
theorem sub_N {x y:List Int} (hx:Ds x) (hy:Ds y) (h:y.length<=x.length) (hle:N y<=N x):N (subL x y 0)=N x-N y:=by
 have e:=subL_N x y 0 h
 have f:=subF_bd x y 0 hx hy (by omega)
 have l:=N_lt (subL_ds x y 0)
 rw [subL_len] at l
 have hB:=Bp_pos x.length
 have:subF x y 0=0∨subF x y 0=1:=by omega
 rcases this with q|q
 ·rw [q,Int.mul_zero] at e; omega
 ·rw [q,Int.mul_one] at e; omega
theorem subL_both (x y:List Int) (k:Nat) (c:Int) (h1:k<x.length) (h2:k<y.length) :
    subL (x.drop k) (y.drop k) c=((x[k]?.getD 0-(c+y[k]?.getD 0)) % 4294967296)::subL (x.drop (k+1)) (y.drop (k+1)) (-((x[k]?.getD 0-(c+y[k]?.getD 0)) / 4294967296)):=by
 rw [drop_cons h1,drop_cons h2,subL]
theorem subL_one (x y:List Int) (k:Nat) (c:Int) (h1:k<x.length) (h2:y.length<=k) :
    subL (x.drop k) (y.drop k) c=((x[k]?.getD 0-c) % 4294967296)::subL (x.drop (k+1)) (y.drop (k+1)) (-((x[k]?.getD 0-c) / 4294967296)):=by
 rw [drop_cons h1,List.drop_eq_nil_of_le h2,List.drop_eq_nil_of_le (show y.length<=k+1 by omega),subL]
def RetSub (base:Nat) (w:World) (x y:Int) (e:Ending) (w':World):Prop :=
 ∃ v,e=.returned (.tuple #[v,.bool (decide (y<=x))])/\IsNew base w' v (if y<=x then x-y else 0)/\Below base w w'
set_option maxHeartbeats 1000000 in
theorem sub (va vb:Value) (c:Nat) (x y:Int) (w:World) (ha:Num w va c x) (hb:Num w vb c y) (hc:c<=4294967296) :
    Calls Try.prog 83 #[va,vb] w (RetSub w.heap.size w x y):=by
 obtain ⟨la,hra,hla,rfl⟩:=ha
 obtain ⟨lb,hrb,hlb,rfl⟩:=hb
 have HA:=Lib.hid hra
 have HB:=Lib.hid hrb
 clear hra hrb
 go_enter Try.func83,Try.ntmps83
 go_wp2_with fail
 refine (trimR va la w HA.out).mono ?_
 rintro e w' ⟨v1,l1,rfl,r1,N1,C1,L1,_,rfl⟩
 go_wp2_with fail
 refine (trimR vb lb w HB.out).mono ?_
 rintro e w' ⟨v2,l2,rfl,r2,N2,C2,L2,_,rfl⟩
 clear HA HB
 have HN:=Lib.hid (And.intro N1 N2)
 have HC:=Lib.hid (And.intro C1 C2)
 have HR:=Lib.hid (And.intro r1 r2)
 clear r1 r2 N1 N2 C1 C2
 go_wp2_with fail
 refine (cmp v1 v2 c (N l1) (N l2) w ⟨l1,HR.out.1,by omega,rfl⟩ ⟨l2,HR.out.2,by omega,rfl⟩ hc).mono ?_
 rintro e w0 ⟨rfl,hb0⟩
 by_cases hlt:N l1<N l2
 ·have e1:cmpI (N l1) (N l2) = -1:=by rw [cmpI,if_pos hlt]
  rw [e1]
  have HF:=Lib.hid (show ¬N lb<=N la by rw [<-HN.out.1,<-HN.out.2]; omega)
  clear hlt e1
  go_wp2_with fail
  go_ret2
  refine ⟨.slice none 0 0,?_,?_,hb0⟩
  ·rw [decide_eq_false (by have:=HF.out; omega)]; rfl
  ·rw [if_neg (by have:=HF.out; omega)]; exact IsNew.nil _ _
 ·have hle:¬cmpI (N l1) (N l2)<0:=by rw [cmpI,if_neg hlt]; split<;>omega
  have HF:=Lib.hid (show N lb<=N la by rw [<-HN.out.1,<-HN.out.2]; omega)
  have hll:l2.length<=l1.length:=by
   rcases Nat.lt_or_ge l1.length l2.length with h|h
   ·have:=len_lt HC.out.1 HC.out.2 h; omega
   ·exact h
  have HA:=Lib.hid (show N (subL l1 l2 0)=N la-N lb by rw [sub_N HC.out.1.1 HC.out.2.1 hll (by omega),HN.out.1,HN.out.2])
  obtain ⟨a1,p1,rfl,g1,m1,hcell1⟩:=Row.parts (HR.out.1.keep hb0)
  obtain ⟨a2,p2,rfl,g2,m2,hcell2⟩:=Row.parts (HR.out.2.keep hb0)
  have HX:=Lib.hid hcell1
  have HY:=Lib.hid hcell2
  clear hcell1 hcell2 hlt HR
  generalize cmpI (N l1) (N l2)=r at *
  have hr:decide (r<0)=false:=by simp; omega
  generalize hnX:l1.length=nX at *
  generalize hnY:l2.length=nY at *
  have HL:=Lib.hid (And.intro hnX hnY)
  clear hnX hnY
  go_wp2_with (at_make; refine make_row rfl (.tmp 20) (.tmp 20) 39 rfl w0.heap.size 42 .u32 4 Try.underlying39 info32 _ nX rfl rfl rfl (by omega) (by unfold maxLen; omega) (Nat.le_refl _) ?_; intro w1 ho1 hb1)
  go_loopw [7,24] (fun t i wr=>∃ (k:Nat) (cy:Int) (pre:List Int),k<=nX/\i=.int .i64 k/\t=.int .u64 cy/\0<=cy/\cy<=1/\Hid (pre.length=k/\pre++subL (l1.drop k) (l2.drop k) cy=subL l1 l2 0) /\
      wr.ownsRow w0.heap.size 42 1 (.slice (some ⟨w0.heap.size,0,none⟩) nX nX) nX ((pre++List.replicate (nX-k) 0).map (Value.int .u32))/\Below w0.heap.size w0 wr) (fun _ i _=>nX-(intOf i).toNat)
  case atStart=>exact ⟨0,0,[],Nat.zero_le _,rfl,rfl,by omega,by omega,⟨rfl,rfl⟩,ho1,hb1⟩
  case round =>
   obtain ⟨k,cy,pre,hk,rfl,rfl,hc0,hc1,hp,ho,hb⟩:=hrel
   by_cases hlt:k<nX
   ·obtain ⟨bx,ox,rfl,qx,wx⟩:=HX.out k (by omega)
    have qx:=cell_later hb qx
    have dx:=wf_u32 wx
    have hlX:k<l1.length:=by rw [HL.out.1]; exact hlt
    obtain ⟨hce,hfz⟩:=own_cell ho k (by omega)
    by_cases hlt2:k<nY
    ·obtain ⟨by_,oy,rfl,qy,wy⟩:=HY.out k (by omega)
     have qy:=cell_later hb qy
     have dy:=wf_u32 wy
     have HS:=Lib.hid (subL_both l1 l2 k cy hlX (by rw [HL.out.2]; exact hlt2))
     generalize l1[k]?.getD 0=x at *
     generalize l2[k]?.getD 0=y at *
     clear wx wy
     by_cases hge:cy+y<=x
     ·have e1:(x-(cy+y)) % 4294967296=x-(cy+y):=by omega
      have e2:-((x-(cy+y)) / 4294967296)=0:=by omega
      rw [e1,e2] at HS
      clear e1 e2
      go_wp2
      refine ⟨⟨k+1,0,pre++[x-(cy+y)],by omega,by go_num,rfl,by omega,by omega,⟨by simp [hp.out.1],?_⟩,?_,hb.setCell (Nat.le_refl _) _⟩,by simp [intOf]; omega⟩
      ·rw [<-hp.out.2,HS.out,List.append_assoc]; rfl
      ·have:=own_store ho k (x-(cy+y))
       rwa [set_zeros hp.out.1 hlt] at this
     ·have e1:(x-(cy+y)) % 4294967296=x+4294967296-(cy+y):=by omega
      have e2:-((x-(cy+y)) / 4294967296)=1:=by omega
      rw [e1,e2] at HS
      clear e1 e2
      go_wp2
      refine ⟨⟨k+1,1,pre++[x+4294967296-(cy+y)],by omega,by go_num,rfl,by omega,by omega,⟨by simp [hp.out.1],?_⟩,?_,hb.setCell (Nat.le_refl _) _⟩,by simp [intOf]; omega⟩
      ·rw [<-hp.out.2,HS.out,List.append_assoc]; rfl
      ·have:=own_store ho k (x+4294967296-(cy+y))
       rwa [set_zeros hp.out.1 hlt] at this
    ·have HS:=Lib.hid (subL_one l1 l2 k cy hlX (by rw [HL.out.2]; omega))
     generalize l1[k]?.getD 0=x at *
     clear wx
     by_cases hge:cy<=x
     ·have e1:(x-cy) % 4294967296=x-cy:=by omega
      have e2:-((x-cy) / 4294967296)=0:=by omega
      rw [e1,e2] at HS
      clear e1 e2
      go_wp2
      refine ⟨⟨k+1,0,pre++[x-cy],by omega,by go_num,rfl,by omega,by omega,⟨by simp [hp.out.1],?_⟩,?_,hb.setCell (Nat.le_refl _) _⟩,by simp [intOf]; omega⟩
      ·rw [<-hp.out.2,HS.out,List.append_assoc]; rfl
      ·have:=own_store ho k (x-cy)
       rwa [set_zeros hp.out.1 hlt] at this
     ·have e1:(x-cy) % 4294967296=x+4294967296-cy:=by omega
      have e2:-((x-cy) / 4294967296)=1:=by omega
      rw [e1,e2] at HS
      clear e1 e2
      go_wp2
      refine ⟨⟨k+1,1,pre++[x+4294967296-cy],by omega,by go_num,rfl,by omega,by omega,⟨by simp [hp.out.1],?_⟩,?_,hb.setCell (Nat.le_refl _) _⟩,by simp [intOf]; omega⟩
      ·rw [<-hp.out.2,HS.out,List.append_assoc]; rfl
      ·have:=own_store ho k (x+4294967296-cy)
       rwa [set_zeros hp.out.1 hlt] at this
   ·obtain rfl:k=nX:=by omega
    have HE:=Lib.hid (show pre=subL l1 l2 0 by
     rw [<-hp.out.2,List.drop_eq_nil_of_le (by rw [HL.out.1]; exact Nat.le_refl _)]; simp [subL])
    rw [Nat.sub_self,List.replicate_zero,List.append_nil,HE.out] at ho
    clear HE hp
    go_wp2_with fail
    refine (trimN ho (subL_ds l1 l2 0)).mono ?_
    rintro e w' ⟨v',rfl,hn,rfl⟩
    rw [HA.out] at hn
    go_wp2_with fail
    go_ret2
    refine ⟨v',?_,?_,hb0.trans (hb.mono hb0.size)⟩
    ·rw [decide_eq_true HF.out]; rfl
    ·rw [if_pos HF.out]
     obtain ⟨l,h1,h2,h3,h4⟩:=hn
     exact ⟨l,h1,h2,h3,h4.mono hb0.size⟩
end Go.Proofs.Ytbokoblnehgkaaa.Nt
namespace Go.Proofs.Ytbokoblnehgkaaa.Nt
open Go.ChangeShapes Go.WideShapes Go.ChangeAt Go.RowKit B
set_option linter.unusedVariables false
set_option maxHeartbeats 1000000 in
theorem mul (va vb:Value) (c:Nat) (x y:Int) (w:World) (ha:Num w va c x) (hb:Num w vb c y) (hc:c<=4294967296) :
    Calls Try.prog 47 #[va,vb] w (Ret1 w.heap.size w (x*y)):=by
 obtain ⟨la,hra,hla,rfl⟩:=ha
 obtain ⟨lb,hrb,hlb,rfl⟩:=hb
 have HA:=Lib.hid hra
 have HB:=Lib.hid hrb
 clear hra hrb
 go_enter Try.func47,Try.ntmps47
 go_wp2_with fail
 refine (trimR va la w HA.out).mono ?_
 rintro e w' ⟨v1,l1,rfl,r1,N1,C1,L1,_,rfl⟩
 go_wp2_with fail
 refine (trimR vb lb w HB.out).mono ?_
 rintro e w' ⟨v2,l2,rfl,r2,N2,C2,L2,_,rfl⟩
 clear HA HB
 have HN:=Lib.hid (And.intro N1 N2)
 have HC:=Lib.hid (And.intro C1 C2)
 obtain ⟨a1,p1,rfl,g1,m1,hcell1⟩:=Row.parts r1
 obtain ⟨a2,p2,rfl,g2,m2,hcell2⟩:=Row.parts r2
 have HX:=Lib.hid hcell1
 have HY:=Lib.hid hcell2
 clear r1 r2 N1 N2 C1 C2 hcell1 hcell2
 generalize hnX:l1.length=nX at *
 generalize hnY:l2.length=nY at *
 have HL:=Lib.hid (And.intro hnX hnY)
 clear hnX hnY
 have HCAP:=Lib.hid (show (nX:Int)+(nY:Int)=((nX+nY:Nat):Int) by omega)
 go_wp2_with (at_make; refine make_row rfl (.tmp 20) (.tmp 20) 39 rfl w.heap.size 42 .u32 4 Try.underlying39 info32 _ (nX+nY) rfl rfl HCAP.out (by omega) (by unfold maxLen; omega) (Nat.le_refl _) ?_; intro w1 ho1 hb1)
 clear HCAP
 go_loopw [24] (fun i wr=>∃ (k:Nat) (r:List Int),k<=nX/\i=.int .i64 k/\Hid (r.length=nX+nY/\Ds r/\r.drop (k+nY)=List.replicate (nX-k) 0/\N r=N (l1.take k)*N l2) /\
     wr.ownsRow w.heap.size 42 1 (.slice (some ⟨w.heap.size,0,none⟩) (nX+nY) (nX+nY)) (nX+nY) (r.map (Value.int .u32))/\Below w.heap.size w wr) (fun i _=>nX-(intOf i).toNat)
 case atStart=>exact ⟨0,List.replicate (nX+nY) 0,Nat.zero_le _,rfl,⟨by simp,Ds.zeros _,by simp,by simp [N,N_zeros]⟩,ho1,hb1⟩
 case round =>
  obtain ⟨k,r,hk,rfl,hp,ho,hb⟩:=hrel
  by_cases hlt:k<nX
  ·obtain ⟨bx,ox,rfl,qx,wx⟩:=HX.out k (by omega)
   have qx:=cell_later hb qx
   have dx:=wf_u32 wx
   have HM:=Lib.hid (mul_row r l1 l2 k (by rw [HL.out.1]; exact hlt) (by rw [HL.out.1,HL.out.2]; exact hp.out.1) (by rw [HL.out.1,HL.out.2]; exact hp.out.2.2.1) hp.out.2.2.2)
   rw [HL.out.1,HL.out.2] at HM
   have HQ:=Lib.hid (mulL_ds dx (r.drop k) l2 0 (hp.out.2.1.drop k) HC.out.2.1 (by omega))
   generalize l1[k]?.getD 0=x at *
   clear wx
   obtain ⟨wo,rfl⟩:∃ wo:World,wo=wr:=⟨_,rfl⟩
   go_wp2
   go_loopw [8,31] (fun t i wr=>∃ (j:Nat) (cy:Int) (pre:List Int),j<=nY/\i=.int .i64 j/\t=.int .u64 cy/\0<=cy/\cy<4294967296 /\
       Hid (pre.length=k+j/\Ds pre/\pre++mulL x (r.drop (k+j)) (l2.drop j) cy=r.take k++mulL x (r.drop k) l2 0) /\
       wr.ownsRow w.heap.size 42 1 (.slice (some ⟨w.heap.size,0,none⟩) (nX+nY) (nX+nY)) (nX+nY) ((pre++r.drop (k+j)).map (Value.int .u32))/\Below w.heap.size w wr) (fun _ i _=>nY-(intOf i).toNat)
   case atStart=>exact ⟨0,0,r.take k,Nat.zero_le _,rfl,rfl,by omega,by omega,⟨by simp; have:=hp.out.1; omega,hp.out.2.1.take k,rfl⟩,by rw [Nat.add_zero,List.take_append_drop]; exact ho,hb⟩
   case round =>
    obtain ⟨j,cy,pre,hj,rfl,rfl,hc0,hc1,hq,ho2,hb2⟩:=hrel
    have hkj:k+j<r.length:=by have:=hp.out.1; omega
    by_cases hlt2:j<nY
    ·obtain ⟨by_,oy,rfl,qy,wy⟩:=HY.out j (by omega)
     have qy:=cell_later hb2 qy
     have dy:=wf_u32 wy
     have hxy:=mul_bd dx dy
     obtain ⟨hce,hfz⟩:=own_cell ho2 (k+j) (by omega)
     rw [at_border hq.out.1 hkj] at hce
     have HS:=Lib.hid (mulL_step x r l2 k j cy hkj (by rw [HL.out.2]; exact hlt2))
     have HB:=Lib.hid (set_border hq.out.1 hkj)
     have dr:=hp.out.2.1.at (k+j)
     generalize l2[j]?.getD 0=y at *
     generalize r[k+j]?.getD 0=z at *
     clear wy
     go_wp2
     refine ⟨⟨j+1,(x*y+z+cy) / 4294967296,pre++[(x*y+z+cy) % 4294967296],by omega,by go_num,rfl,by omega,by omega,⟨?_,hq.out.2.1.app (Ds.cons (by omega) Ds.nil),?_⟩,?_,hb2.setCell (Nat.le_refl _) _⟩,by simp [intOf]; omega⟩
     ·have:=hq.out.1; simp; omega
     ·rw [<-hq.out.2.2,HS.out,List.append_assoc]; rfl
     ·have:=own_store ho2 (k+j) ((x*y+z+cy) % 4294967296)
      rwa [HB.out] at this
    ·obtain rfl:j=nY:=by omega
     obtain ⟨hce,hfz⟩:=own_cell ho2 (k+j) (by omega)
     have HE:=Lib.hid (show (pre++[cy])++r.drop (k+j+1)=r.take k++mulL x (r.drop k) l2 0 by
      have e:=mulL_last x r l2 k cy (by rw [HL.out.2]; exact hkj)
      rw [HL.out.2] at e
      rw [<-hq.out.2.2,e,List.append_assoc]; rfl)
     have hs:=own_store ho2 (k+j) cy
     rw [set_border hq.out.1 hkj,HE.out] at hs
     have hb3:=hb2.setCell (p:=⟨w.heap.size,k+j,none⟩) (Nat.le_refl _) (.int .u32 cy)
     go_wp2
     refine ⟨⟨k+1,r.take k++mulL x (r.drop k) l2 0,by omega,by go_num,⟨HM.out.2.1,(hp.out.2.1.take k).app HQ.out,HM.out.2.2,HM.out.1⟩,hs,hb3⟩,by simp [intOf]; omega⟩
  ·obtain rfl:k=nX:=by omega
   have HE:=Lib.hid (show N r=N la*N lb by
    rw [hp.out.2.2.2,List.take_of_length_le (by rw [HL.out.1]; exact Nat.le_refl _),HN.out.1,HN.out.2])
   have HD:=Lib.hid hp.out.2.1
   clear hp
   go_wp2_with fail
   refine (trimN ho HD.out).mono ?_
   rintro e w' ⟨v',rfl,hn,rfl⟩
   rw [HE.out] at hn
   go_wp2_with fail
   go_ret
   exact ⟨v',rfl,hn,hb⟩
end Go.Proofs.Ytbokoblnehgkaaa.Nt
namespace Go.Proofs.Ytbokoblnehgkaaa.Nt
open Go.ChangeShapes Go.WideShapes Go.ChangeAt Go.RowKit B
set_option linter.unusedVariables false
theorem div_bd (rest x d:Int) (h0:0<=rest) (h1:rest<d) (hx:0<=x/\x<4294967296):0<=(rest*4294967296+x) / d/\(rest*4294967296+x) / d<4294967296:=by
 refine ⟨Int.ediv_nonneg (by omega) (by omega),?_⟩
 apply Int.ediv_lt_of_lt_mul (by omega)
 have:(rest+1)*4294967296<=d*4294967296:=by omega
 rw [Int.mul_comm 4294967296 d]
 omega
theorem div_step (rest x d Q T:Int) (h:T=d*Q+rest):x+4294967296*T=d*((rest*4294967296+x) / d+4294967296*Q)+(rest*4294967296+x) % d:=by
 have e:=Int.mul_ediv_add_emod (rest*4294967296+x) d
 rw [Int.mul_add,Int.mul_left_comm d 4294967296 Q]
 omega
theorem set_front {l:List Int} {j n:Nat} (h:n=j+1) (x:Int):(List.replicate n (0:Int)++l).set j x=List.replicate j 0++x::l:=by
 subst h
 rw [List.replicate_succ',List.append_assoc,List.set_append_right _ _ (by simp),List.length_replicate,Nat.sub_self]; rfl
def RetDig (base:Nat) (w:World) (x d:Int) (e:Ending) (w':World):Prop :=
 ∃ v,e=.returned (.tuple #[v,.int .u32 (x % d)])/\IsNew base w' v (x / d)/\Below base w w'
set_option maxHeartbeats 1000000 in
theorem divDigit (va:Value) (c:Nat) (x d:Int) (w:World) (ha:Num w va c x) (hc:c<=4294967296) (hd:0<d) (hd2:d<4294967296) :
    Calls Try.prog 46 #[va,.int .u32 d] w (RetDig w.heap.size w x d):=by
 obtain ⟨l1,hra,hla,rfl⟩:=ha
 have HD:=Lib.hid (Row.ds hra)
 obtain ⟨a1,p1,rfl,g1,m1,hcell1⟩:=Row.parts hra
 have HX:=Lib.hid hcell1
 clear hra hcell1
 generalize hnX:l1.length=nX at *
 have HL:=Lib.hid hnX
 clear hnX
 go_enter Try.func46,Try.ntmps46
 go_wp2_with (at_make; refine make_row rfl (.tmp 11) (.tmp 11) 39 rfl w.heap.size 42 .u32 4 Try.underlying39 info32 _ nX rfl rfl rfl (by omega) (by unfold maxLen; omega) (Nat.le_refl _) ?_; intro w1 ho1 hb1)
 go_loopw [7,8] (fun t i wr=>∃ (k:Nat) (rest:Int) (qs:List Int),k<=nX/\i=.int .i64 ((k:Int)-1)/\t=.int .u64 rest/\0<=rest/\rest<d/\Hid (Ds qs/\N (l1.drop k)=d*N qs+rest) /\
     wr.ownsRow w.heap.size 42 1 (.slice (some ⟨w.heap.size,0,none⟩) nX nX) nX ((List.replicate k 0++qs).map (Value.int .u32))/\Below w.heap.size w wr) (fun _ i _=>(intOf i+1).toNat)
 case atStart=>exact ⟨nX,0,[],Nat.le_refl _,rfl,rfl,by omega,hd,⟨Ds.nil,by rw [List.drop_eq_nil_of_le (by rw [HL.out]; exact Nat.le_refl _)]; simp [N]⟩,by rw [List.append_nil]; exact ho1,hb1⟩
 case round =>
  obtain ⟨k,rest,qs,hk,rfl,rfl,hr0,hr1,hp,ho,hb⟩:=hrel
  rcases k with _|j
  ·have HF:=Lib.hid (show N l1 / d=N qs/\N l1 % d=rest by
     have e:=hp.out.2
     rw [List.drop_zero] at e
     have e2:=(Int.ediv_emod_unique (a:=N l1) (b:=d) (r:=rest) (q:=N qs) hd).2 ⟨by rw [e]; omega,hr0,hr1⟩
     exact e2)
   have HQ:=Lib.hid hp.out.1
   rw [List.replicate_zero,List.nil_append] at ho
   clear hp
   have hr2:rest<4294967296:=by omega
   go_wp2_with fail
   refine (trimN ho HQ.out).mono ?_
   rintro e w' ⟨v',rfl,hn,rfl⟩
   go_wp2_with fail
   go_ret2
   refine ⟨v',?_,by rw [HF.out.1]; exact hn,hb⟩
   rw [HF.out.2]; rfl
  ·obtain ⟨bx,ox,rfl,qx,wx⟩:=HX.out j (by omega)
   have qx:=cell_later hb qx
   have dx:=wf_u32 wx
   have HS:=Lib.hid (N_drop (l:=l1) (k:=j) (by rw [HL.out]; omega))
   obtain ⟨hce,hfz⟩:=own_cell ho j (by omega)
   generalize l1[j]?.getD 0=x at *
   clear wx
   have hor:=shl_or rest x (by omega) dx
   have hbd:=div_bd rest x d hr0 hr1 dx
   have hmod:0<=(rest*4294967296+x) % d/\(rest*4294967296+x) % d<d:=⟨Int.emod_nonneg _ (by omega),Int.emod_lt_of_pos _ hd⟩
   obtain ⟨hm0,hm1⟩:=hmod
   go_wp2
   refine ⟨⟨j,(rest*4294967296+x) % d,((rest*4294967296+x) / d)::qs,by omega,by go_num,rfl,hm0,hm1,⟨Ds.cons hbd hp.out.1,?_⟩,?_,hb.setCell (Nat.le_refl _) _⟩,by simp [intOf]⟩
   ·rw [HS.out,N]
    exact div_step rest x d (N qs) _ hp.out.2
   ·have:=own_store ho j ((rest*4294967296+x) / d)
    rwa [set_front rfl] at this
end Go.Proofs.Ytbokoblnehgkaaa.Nt
