/-
  MKa: K1 K2 K3 K4 in one text.
-/
import Derived.Test.YtdobkkhncfifeaaGreatMHd
import Derived.Test.YtdobkkhncfifeaaGreatMHc
import Derived.Test.YtdobkkhncfifeaaGreatMV
namespace Go.Proofs.YtdobkkhncfifeaaGreat.Gx
open Go Go.RowKit Tw B Nt
set_option linter.unusedVariables false
set_option linter.unusedSimpArgs false
set_option maxHeartbeats 4000000
set_option maxRecDepth 20000
def hasR (n:Str) (a:Atom):Bool:=a.2.2.any fun t=>decide (t.1=n)&&decide (n≠[])
theorem hasR_eq (n:Str) (a:Atom):hasR n a=(hasV n a&&decide (n≠[])):=by
 unfold hasR hasV isV
 by_cases h:n=[]
 ·simp [h]
 ·simp [h]
@[go_sem] def rcnS:Spec:=⟨[atomT,.str],fun d=>(.dat .bool (hasR d.2.1 d.1),[List.length d.1.2.2<=2000000])⟩
theorem rcn_ok:SpecOk Tryz.prog 28 rcnS:=by
 refine fn_ok EH5_ok rcnS Tryz.func28 rfl (by decide) (N:=25) rfl (res:=[.tmp 4]) rfl (by decide) [] [] [] 100 (by kernel_rfl) ?_
 rintro ⟨a,nm,_⟩ hw hp
 refine ⟨rfl,fun H hH=>?_⟩
 dsimp only [go_sem] at hw hp ⊢
 obtain ⟨hp,-⟩:=hp
 obtain ⟨rl,ng,l⟩:=a
 change List Term at l
 change Str at nm
 change List.length l<=2000000 at hp
 clear hw
 refine hH.loop (fun i:Nat=>⟨[(5,.dat (.int .i64) (i:Int)),(1,.dat .str nm),(2,.ref 0 0)],[(0,.box 48 (.cons (.dat .str rl) (.cons (.dat .bool ng) (.cons (.dat (.slice termT) l) .nil))))],1⟩) (fun i=>i<=l.length/\(l.take i).any (fun t=>decide (t.1=nm)&&decide (nm≠[]))=false) (fun i=>l.length-i) 0 1 ⟨Nat.zero_le _,rfl⟩ ?_ ?_
 ·dsimp only [go_sem]
  and_intros<;>first|trivial|rfl|omega
 ·rintro i ⟨hi,ha⟩ R hm
  refine hH.run 100 _ _ ?_
  dsimp only [go_sem]
  simp only [Int.toNat_natCast,imp_self,true_and,imp2,and_true]
  refine ⟨fun d=>?_,fun d=>?_⟩<;>simp only [decide_eq_true_eq,decide_eq_false_iff_not] at d
  ·have d:i<l.length:=by omega
   have hb:(0:Int)<=(i:Int)/\(i:Int)<(l.length:Int):=by omega
   have hs:=any_snoc (p:=fun t:Term=>decide (t.1=nm)&&decide (nm≠[])) (zd termT) d
   rw [ha,Bool.false_or] at hs
   refine ⟨hb,fun e=>?_,fun e=>⟨by rw [inR_i64]; omega,hm _ (i+1) 1 ⟨d,by rw [hs]; exact e⟩ (by omega) ?_⟩⟩
   ·have h1:true=hasR nm (rl,ng,l):=by
      unfold hasR
      symm
      rw [List.any_eq_true]
      exact ⟨_,getDm (zd termT) d,e⟩
    exact h1
   ·dsimp only [go_sem]
    and_intros<;>first|trivial|rfl|omega
  ·have d:i=l.length:=by omega
   subst d
   rw [List.take_length] at ha
   exact ha.symm
@[go_sem] noncomputable def EK1:Env:=(EJF).add 28 rcnS
theorem EK1_ok:EK1.Ok:=(EJF_ok).add rcn_ok
theorem occ_R (l:List Atom) (n:Str):((List.range l.length).filter fun i=>hasR n (l.getD i ([],false,[]))).map (fun i:Nat=>(i:Int))=occs l n:=by
 unfold occs
 split
 ·rename_i h
  rw [List.filter_eq_nil_iff.2 fun i _=>by rw [hasR_eq]; simp [h]]
  rfl
 ·rename_i h
  unfold occ
  congr 1
  refine List.filter_congr fun i _=>?_
  rw [hasR_eq]; simp [h]
def occR (l:List Atom) (n:Str) (k:Nat):List Int:=((List.range k).filter fun i=>hasR n (l.getD i ([],false,[]))).map fun i:Nat=>(i:Int)
theorem occR_snoc (l:List Atom) (n:Str) (k:Nat):occR l n (k+1)=occR l n k++if hasR n (l.getD k ([],false,[])) then [(k:Int)] else []:=by
 unfold occR
 rw [List.range_succ,List.filter_append,List.map_append]
 congr 1
 simp only [List.filter_cons,List.filter_nil]
 split<;>rfl
theorem occR_len (l:List Atom) (n:Str) (k:Nat):(occR l n k).length<=k:=by
 unfold occR
 rw [List.length_map]
 have:=List.length_filter_le (fun i=>hasR n (l.getD i ([],false,[]))) (List.range k)
 rw [List.length_range] at this
 exact this
@[go_sem] def roccS:Spec:=⟨[cqT,.str],fun d=>(.dat (.slice (.int .i64)) (occs d.1.1 d.2.1),[cqP d.1])⟩
theorem rocc_ok:SpecOk Tryz.prog 18 roccS:=by
 refine fn_ok EK1_ok roccS Tryz.func18 rfl (by decide) (N:=26) rfl (res:=[.tmp 4]) rfl (by decide) [(6,[(23,.dt)])] [(7,[1])] [] 100 (by kernel_rfl) ?_
 rintro ⟨c,nm,_⟩ hw hp
 refine ⟨rfl,fun H hH=>?_⟩
 dsimp only [go_sem] at hw hp ⊢
 obtain ⟨hp,-⟩:=hp
 obtain ⟨l,cs⟩:=c
 change List Atom at l
 obtain ⟨hp1,hp2,hp3⟩:=hp
 change List.length l<=1000 at hp1
 change ∀ a∈l,a.2.2.length<=1000 at hp2
 clear hw
 refine hH.loop (fun i:Nat=>⟨[(6,.dat (.int .i64) (i:Int)),(5,.own 1),(1,.dat .str nm),(2,.ref 0 0)],[(0,.box 26 (.cons (.dat (.slice atomT) l) (.cons (.dat (.slice cmpT) cs) .nil))),(1,.row 3 (.int .i64) (occR l nm i))],2⟩) (fun i=>i<=l.length) (fun i=>l.length-i) 0 1 (Nat.zero_le _) ?_ ?_
 ·dsimp only [go_sem]
  and_intros<;>first|trivial|rfl|omega
 ·rintro i hi R hm
  refine hH.run 100 _ _ ?_
  dsimp only [go_sem]
  simp only [Int.toNat_natCast]
  have hz:l.getD i (zd atomT)=l.getD i ([],false,[]):=rfl
  simp only [hz]
  refine ⟨fun d=>?_,fun d=>?_⟩<;>simp only [decide_eq_true_eq,decide_eq_false_iff_not] at d
  ·have d:i<l.length:=by omega
   have hb:(0:Int)<=(i:Int)/\(i:Int)<(l.length:Int):=by omega
   have hs:=occR_snoc l nm i
   have hl:=occR_len l nm i
   have ha:=hp2 _ (getDm ([],false,[]) d)
   refine ⟨hb,by omega,fun e=>?_,fun e=>?_⟩
   ·rw [if_pos e] at hs
    refine ⟨?_,trivial,by rw [inR_i64]; omega,hm _ (i+1) 2 d (by omega) ?_⟩
    ·show ((occR l nm i).length+1)*8<=_
     omega
    ·dsimp only [go_sem]
     rw [hs]
     and_intros<;>first|trivial|rfl|omega
   ·rw [if_neg (by rw [e]; exact Bool.false_ne_true),List.append_nil] at hs
    refine ⟨by rw [inR_i64]; omega,hm _ (i+1) 2 d (by omega) ?_⟩
    dsimp only [go_sem]
    rw [hs]
    and_intros<;>first|trivial|rfl|omega
  ·have d:i=l.length:=by omega
   subst d
   exact ⟨occ_R l nm,trivial⟩
@[go_sem] def hasS:Spec:=⟨[.slice .str,.str],fun d=>(.dat .bool (List.any d.1 (fun x=>decide (x=d.2.1))),[List.length d.1<=2000000])⟩
theorem has_ok:SpecOk Tryz.prog 65 hasS:=by
 refine fn_ok EH5_ok hasS Tryz.func65 rfl (by decide) (N:=18) rfl (res:=[.tmp 4]) rfl (by decide) [] [] [] 100 (by kernel_rfl) ?_
 rintro ⟨l,nm,_⟩ hw hp
 refine ⟨rfl,fun H hH=>?_⟩
 dsimp only [go_sem] at hw hp ⊢
 obtain ⟨hp,-⟩:=hp
 change List Str at l
 change Str at nm
 change List.length l<=2000000 at hp
 clear hw
 refine hH.loop (fun i:Nat=>⟨[(5,.dat (.int .i64) (i:Int)),(1,.dat .str nm),(0,.dat (.slice .str) l)],[],0⟩) (fun i=>i<=l.length/\(l.take i).any (fun x=>decide (x=nm))=false) (fun i=>l.length-i) 0 0 ⟨Nat.zero_le _,rfl⟩ ?_ ?_
 ·dsimp only [go_sem]
  and_intros<;>first|trivial|rfl|omega
 ·rintro i ⟨hi,ha⟩ R hm
  refine hH.run 100 _ _ ?_
  dsimp only [go_sem]
  simp only [Int.toNat_natCast]
  refine ⟨fun d=>?_,fun d=>?_⟩<;>simp only [decide_eq_true_eq,decide_eq_false_iff_not] at d
  ·have d:i<l.length:=by omega
   have hb:(0:Int)<=(i:Int)/\(i:Int)<(l.length:Int):=by omega
   have hs:=any_snoc (p:=fun x:Str=>decide (x=nm)) (zd .str) d
   rw [ha,Bool.false_or] at hs
   refine ⟨hb,fun e=>?_,fun e=>⟨by rw [inR_i64]; omega,hm _ (i+1) 0 ⟨d,by rw [hs]; exact e⟩ (by omega) ?_⟩⟩
   ·have h1:true=l.any (fun x=>decide (x=nm)):=by
      symm
      rw [List.any_eq_true]
      exact ⟨_,getDm (zd .str) d,e⟩
    exact ⟨h1,trivial⟩
   ·dsimp only [go_sem]
    and_intros<;>first|trivial|rfl|omega
  ·have d:i=l.length:=by omega
   subst d
   rw [List.take_length] at ha
   exact ⟨ha.symm,trivial⟩
@[go_sem] noncomputable def EK2:Env:=((EK1).add 18 roccS).add 65 hasS
theorem EK2_ok:EK2.Ok:=((EK1_ok).add rocc_ok).add has_ok
def vsS (n:List Str) (x:Str):List Str:=if x≠[]/\¬x∈n then n++[x] else n
@[go_sem] def wthM:MSpec:=⟨[.r 9 .str,.d .str],fun d=>⟨[(0,.row 9 .str (vsS d.1 d.2.1))],1,.own 0,[List.length d.1<=2000000]⟩⟩
theorem vsS_len (n:List Str) (x:Str):(vsS n x).length<=n.length+1:=by
 unfold vsS
 split
 ·rw [List.length_append]; exact Nat.le_refl _
 ·omega
theorem wthM_ok:MSpecOk Tryz.prog 47 wthM:=by
 refine fnM_ok EK2_ok wthM Tryz.func47 rfl (by decide) (N:=17) rfl (res:=[.tmp 4]) rfl (by decide) [(3,[(15,.dt)])] [] [] 100 (by kernel_rfl) ?_
 rintro ⟨l,nm,_⟩ hw hp H hH
 dsimp only [go_sem] at hw hp ⊢
 obtain ⟨hp,-⟩:=hp
 change List Str at l
 change Str at nm
 change List.length l<=2000000 at hp
 refine ⟨fun e=>e,fun e=>e,fun _=>hp,fun e=>e,fun e=>?_,fun e=>?_⟩
 ·have hv:l=vsS l nm:=by
    unfold vsS
    rw [if_neg]
    rintro ⟨h1,h2⟩
    rw [Bool.or_eq_true] at e
    rcases e with e|e
    ·exact h1 (of_decide_eq_true e)
    ·obtain ⟨x,hx,h⟩:=List.any_eq_true.1 e
     exact h2 ((of_decide_eq_true h)▸hx)
  and_intros<;>first|trivial|rfl|exact hv|omega
 ·have hv:l++[nm]=vsS l nm:=by
    unfold vsS
    rw [if_pos]
    rw [Bool.or_eq_false_iff] at e
    refine ⟨of_decide_eq_false e.1,fun h=>?_⟩
    have:=List.any_eq_false.1 e.2 nm h
    simp at this
  refine ⟨?_,?_⟩
  ·show (l.length+1)*16<=_
   omega
  ·and_intros<;>first|trivial|rfl|exact hv|omega
@[go_sem] noncomputable def EK3:Env:=(EK2).addM 47 wthM
theorem EK3_ok:EK3.Ok:=(EK2_ok).addM wthM_ok
theorem vrs_app (P:List Term) (t:Term):vrs (P++[t])=vsS (vrs P) t.1:=by
 unfold vrs
 rw [List.foldl_append]
 rfl
theorem vrs_le (P:List Term):(vrs P).length<=P.length:=vrs_len P
@[go_sem] def rvarS:Spec:=⟨[cqT],fun d=>(.dat (.slice .str) (vrs (trm d.1)),[cqP d.1])⟩
theorem rvar_ok:SpecOk Tryz.prog 27 rvarS:=by
 refine fn_ok EK3_ok rvarS Tryz.func27 rfl (by decide) (N:=62) rfl (res:=[.tmp 2]) rfl (by decide) [(8,[(36,.ow)]),(12,[(52,.ow),(60,.ow),(1000000,.mx [(9,8),(10,8),(11,8),(12,8),(13,8),(14,8),(15,8)])])] [(13,[1])] [] 100 (by kernel_rfl) ?_
 rintro ⟨c,_⟩ hw hp
 refine ⟨rfl,fun H hH=>?_⟩
 dsimp only [go_sem] at hw hp ⊢
 obtain ⟨hp,-⟩:=hp
 obtain ⟨l,cs⟩:=c
 change List Atom at l
 change List Cmp at cs
 obtain ⟨hp1,hp2,hp3⟩:=hp
 change List.length l<=1000 at hp1
 change ∀ a∈l,a.2.2.length<=1000 at hp2
 change List.length cs<=1000 at hp3
 clear hw
 have ln:∀ i,i<=l.length->((l.take i).flatMap atT).length<=1000000:=fun i hi=>by
  have:=fm_len atT 1000 (l:=l.take i) fun x hx=>hp2 x (List.mem_of_mem_take hx)
  rw [List.length_take] at this
  have:min i l.length*1000<=1000*1000:=Nat.mul_le_mul_right _ (by omega)
  omega
 have ft:(l.take l.length).flatMap atT=l.flatMap atT:=by rw [List.take_length]
 refine hH.loop (fun i:Nat=>⟨[(4,.dat (.int .i64) (i:Int)),(3,.own 1),(1,.ref 0 0)],[(0,.box 26 (.cons (.dat (.slice atomT) l) (.cons (.dat (.slice cmpT) cs) .nil))),(1,.row 9 .str (vrs ((l.take i).flatMap atT)))],2⟩) (fun i=>i<=l.length) (fun i=>l.length-i) 0 1 (Nat.zero_le _) ?_ ?_
 ·dsimp only [go_sem]
  and_intros<;>first|trivial|rfl|omega
 ·rintro i hi R hm
  refine hH.run 100 _ _ ?_
  dsimp only [go_sem]
  refine ⟨fun d=>?_,fun d=>?_⟩<;>simp only [decide_eq_true_eq,decide_eq_false_iff_not] at d
  ·have d:i<l.length:=by omega
   have hb:(0:Int)<=(i:Int)/\(i:Int)<(l.length:Int):=by omega
   have ha:=hp2 _ (getDm ([],false,[]) d)
   have hz:l.getD i (zd atomT)=l.getD i ([],false,[]):=rfl
   have hs:=fm_snoc atT ([],false,[]) d
   have hat:atT (l.getD i ([],false,[]))=(l.getD i ([],false,[])).2.2:=rfl
   rw [hat] at hs
   obtain ⟨ts,hts⟩:∃ ts,(l.getD i ([],false,[])).2.2=ts:=⟨_,rfl⟩
   rw [hts] at hs ha
   have hl1:=ln i hi
   refine HOk.loop (by assumption) (fun k:Nat=>⟨[(5,.dat (.int .i64) (k:Int)),(4,.dat (.int .i64) (i:Int)),(3,.own 1),(1,.ref 0 0)],[(0,.box 26 (.cons (.dat (.slice atomT) l) (.cons (.dat (.slice cmpT) cs) .nil))),(1,.row 9 .str (vrs ((l.take i).flatMap atT++ts.take k)))],2⟩) (fun k=>k<=ts.length) (fun k=>ts.length-k) 0 2 (Nat.zero_le _) ?_ ?_
   ·dsimp only [go_sem]
    rw [List.take_zero,List.append_nil]
    and_intros<;>first|trivial|rfl|omega
   ·rintro k hk R2 hm2
    refine HOk.run (by assumption) 100 _ _ ?_
    dsimp only [go_sem]
    simp only [Int.toNat_natCast,hz,hts]
    have hle:=vrs_le ((l.take i).flatMap atT++ts.take k)
    rw [List.length_append,List.length_take] at hle
    refine ⟨hb,fun d2=>?_,fun d2=>?_⟩<;>simp only [decide_eq_true_eq,decide_eq_false_iff_not] at d2
    ·have d2:k<ts.length:=by omega
     have hk2:(0:Int)<=(k:Int)/\(k:Int)<(ts.length:Int):=by omega
     have hs2:vrs ((l.take i).flatMap atT++ts.take (k+1))=vsS (vrs ((l.take i).flatMap atT++ts.take k)) (ts.getD k (zd termT)).1:=by
      rw [take_snoc (zd termT) d2,<-List.append_assoc,vrs_app]
     refine ⟨hb,hk2,by omega,by rw [inR_i64]; omega,HOk.ren (by assumption) [(0,0),(1,2)] 2 rfl rfl (Nat.zero_le _) rfl ?_⟩
     dsimp only [go_sem]
     refine hm2 _ (k+1) 2 d2 (by omega) ?_
     dsimp only [go_sem]
     rw [hs2]
     and_intros<;>first|trivial|rfl|omega
    ·have d2:k=ts.length:=by omega
     subst d2
     rw [List.take_length,<-hs]
     refine ⟨by rw [inR_i64]; omega,hm _ (i+1) 2 d (by omega) ?_⟩
     dsimp only [go_sem]
     and_intros<;>first|trivial|rfl|omega
  ·have d:i=l.length:=by omega
   subst d
   clear hm
   rw [ft]
   have hl2:=ln l.length (Nat.le_refl _)
   rw [ft] at hl2
   refine HOk.loop (by assumption) (fun k:Nat=>⟨[(6,.dat (.int .i64) (k:Int)),(3,.own 1),(1,.ref 0 0)],[(0,.box 26 (.cons (.dat (.slice atomT) l) (.cons (.dat (.slice cmpT) cs) .nil))),(1,.row 9 .str (vrs (l.flatMap atT++(cs.take k).flatMap cpT)))],2⟩) (fun k=>k<=cs.length) (fun k=>cs.length-k) 0 2 (Nat.zero_le _) ?_ ?_
   ·dsimp only [go_sem]
    rw [List.take_zero,List.flatMap_nil,List.append_nil]
    and_intros<;>first|trivial|rfl|omega
   ·rintro k hk R2 hm2
    refine HOk.run (by assumption) 100 _ _ ?_
    dsimp only [go_sem]
    simp only [Int.toNat_natCast]
    have hle:=vrs_le (l.flatMap atT++(cs.take k).flatMap cpT)
    have hl3:=fm_len cpT 2 (l:=cs.take k) fun _ _=>Nat.le_refl _
    rw [List.length_append] at hle
    rw [List.length_take] at hl3
    refine ⟨fun d2=>?_,fun d2=>?_⟩<;>simp only [decide_eq_true_eq,decide_eq_false_iff_not] at d2
    ·have d2:k<cs.length:=by omega
     have hk2:(0:Int)<=(k:Int)/\(k:Int)<(cs.length:Int):=by omega
     have hs2:vrs (l.flatMap atT++(cs.take (k+1)).flatMap cpT)=vsS (vsS (vrs (l.flatMap atT++(cs.take k).flatMap cpT)) (cs.getD k (zd cmpT)).2.1.1) (cs.getD k (zd cmpT)).2.2.1:=by
      rw [fm_snoc cpT (zd cmpT) d2,<-List.append_assoc]
      have:cpT (cs.getD k (zd cmpT))=[(cs.getD k (zd cmpT)).2.1]++[(cs.getD k (zd cmpT)).2.2]:=rfl
      rw [this,<-List.append_assoc,vrs_app,vrs_app]
     have hv:=vsS_len (vrs (l.flatMap atT++(cs.take k).flatMap cpT)) (cs.getD k (zd cmpT)).2.1.1
     refine ⟨hk2,by omega,hk2,Nat.le_trans hv (by omega),by rw [inR_i64]; omega,HOk.ren (by assumption) [(0,0),(1,3)] 2 rfl rfl (Nat.zero_le _) rfl ?_⟩
     dsimp only [go_sem]
     refine hm2 _ (k+1) 2 d2 (by omega) ?_
     dsimp only [go_sem]
     rw [hs2]
     and_intros<;>first|trivial|rfl|omega
    ·have d2:k=cs.length:=by omega
     subst d2
     rw [List.take_length]
     exact ⟨rfl,trivial⟩
@[go_sem] noncomputable def EK4:Env:=(EK3).add 27 rvarS
theorem EK4_ok:EK4.Ok:=(EK3_ok).add rvar_ok
@[go_sem] def oneS:Spec:=⟨[cqT],fun d=>(.dat qryT (([],[d.1]):Qry),[])⟩
theorem one_ok:SpecOk Tryz.prog 29 oneS:=by
 refine fn_ok EK4_ok oneS Tryz.func29 rfl (by decide) (N:=6) rfl (res:=[.cell 2 32]) rfl (by decide) [(1,[(4,.dt)])] [] [] 100 (by kernel_rfl) ?_
 rintro ⟨c,_⟩ hw hp
 refine ⟨rfl,fun H hH=>?_⟩
 dsimp only [go_sem] at hw hp ⊢
 exact ⟨rfl,trivial⟩
@[go_sem] noncomputable def EK5:Env:=(EK4).add 29 oneS
theorem EK5_ok:EK5.Ok:=(EK4_ok).add one_ok
end Go.Proofs.YtdobkkhncfifeaaGreat.Gx
namespace Go.Proofs.YtdobkkhncfifeaaGreat.Gx
open Go Go.RowKit Tw B Nt
set_option linter.unusedVariables false
set_option linter.unusedSimpArgs false
set_option maxHeartbeats 4000000
set_option maxRecDepth 20000
theorem bl_cB:∀ a b:Str,strLt a b=decide (cB a b<0)/\strLt b a=decide (0<cB a b)
 | [],[]=>⟨rfl,rfl⟩
 | [],_::_=>⟨rfl,rfl⟩
 | _::_,[]=>⟨rfl,rfl⟩
 | a::x,b::y=>by
  obtain ⟨h1,h2⟩:=bl_cB x y
  have e1:strLt (a::x) (b::y)=(decide (a<b)||(a == b&&strLt x y)):=rfl
  have e2:strLt (b::y) (a::x)=(decide (b<a)||(b == a&&strLt y x)):=rfl
  have e3:cB (a::x) (b::y)=if a<b then -1 else if b<a then 1 else cB x y:=rfl
  rw [e1,e2,e3,h1,h2]
  have hl:∀ u v:UInt8,u<v↔u.toNat<v.toNat:=fun u v=>UInt8.lt_iff_toNat_lt
  by_cases l1:a<b
  ·have l2:¬b<a:=by rw [hl] at l1 ⊢; omega
   have l3:(b == a)=false:=by
    rw [beq_eq_false_iff_ne]; intro e; subst e; exact l2 l1
   simp [l1,l2,l3]
  ·by_cases l2:b<a
   ·have l3:(a == b)=false:=by
      rw [beq_eq_false_iff_ne]; intro e; subst e; exact l1 l2
    simp [l1,l2,l3]
   ·have l3:a=b:=UInt8.toNat_inj.1 (by rw [hl] at l1 l2; omega)
    subst l3
    simp [l1]
theorem cB_zero:∀ a b:Str,cB a b=0↔a=b
 | [],[]=>by simp [cB,Lib.compareBytes]
 | [],_::_=>by simp [cB,Lib.compareBytes]
 | _::_,[]=>by simp [cB,Lib.compareBytes]
 | a::x,b::y=>by
  have h:=cB_zero x y
  have e3:cB (a::x) (b::y)=if a<b then -1 else if b<a then 1 else cB x y:=rfl
  rw [e3]
  have hl:∀ u v:UInt8,u<v↔u.toNat<v.toNat:=fun u v=>UInt8.lt_iff_toNat_lt
  by_cases l1:a<b
  ·have:a≠b:=by intro e; subst e; rw [hl] at l1; omega
   simp [l1,this]
  ·by_cases l2:b<a
   ·have:a≠b:=by intro e; subst e; rw [hl] at l2; omega
    simp [l1,l2,this]
   ·have l3:a=b:=UInt8.toNat_inj.1 (by rw [hl] at l1 l2; omega)
    subst l3
    simp [l1,h]
@[go_sem] def rvcpS:Spec:=⟨[valT,valT],fun d=>(.dat (.int .i64) (cV d.1 d.2.1),[])⟩
theorem cI_ne {a b:Int} (h:a≠b):cI a b=if a<b then -1 else 1:=by
 unfold cI
 by_cases h1:a<b
 ·rw [if_pos h1,if_pos h1]
 ·rw [if_neg h1,if_neg h1,if_pos (by omega)]
theorem cI_eq {a:Int}:cI a a=0:=by unfold cI; rw [if_neg (by omega),if_neg (by omega)]
theorem cI_zero {a b:Int}:cI a b=0↔a=b:=by
 constructor
 ·intro h
  refine Decidable.byContradiction fun hn=>?_
  rw [cI_ne hn] at h
  split at h<;>cases h
 ·rintro rfl; exact cI_eq
theorem rvcp_ok:SpecOk Tryz.prog 40 rvcpS:=by
 refine fn_ok EK5_ok rvcpS Tryz.func40 rfl (by decide) (N:=39) rfl (res:=[.tmp 4]) rfl (by decide) [] [] [] 100 (by kernel_rfl) ?_
 rintro ⟨a,b,_⟩ hw hp
 refine ⟨rfl,fun H hH=>?_⟩
 dsimp only [go_sem] at hw hp ⊢
 clear hp hw
 obtain ⟨a1,a2,a3⟩:=a
 obtain ⟨b1,b2,b3⟩:=b
 change Int at a1 a2 b1 b2
 change Str at a3 b3
 obtain ⟨h1,-⟩:=bl_cB a3 b3
 rw [h1]
 have hr:=cB_in a3 b3
 have hz:=cB_zero a3 b3
 have hg:(!(decide (cB a3 b3<0)||decide (a3=b3)))=decide (0<cB a3 b3):=by
  by_cases e:a3=b3
  ·rw [decide_eq_true e,hz.2 e]; rfl
  ·have h0:cB a3 b3≠0:=fun h=>e (hz.1 h)
   rw [decide_eq_false e,Bool.or_false]
   by_cases k:cB a3 b3<0
   ·rw [decide_eq_true k,decide_eq_false (by omega)]; rfl
   ·rw [decide_eq_false k,decide_eq_true (by omega)]; rfl
 dsimp only
 rw [hg]
 have hV:cV (a1,a2,a3) (b1,b2,b3)=if cI a1 b1≠0 then cI a1 b1 else if cI a2 b2≠0 then cI a2 b2 else cB a3 b3:=rfl
 rw [hV]
 have k1:∀ {x y:Int},x≠y->cI x y≠0:=fun h e=>h (cI_zero.1 e)
 refine ⟨fun g=>⟨fun k=>⟨?_,trivial⟩,fun k=>⟨?_,trivial⟩⟩,fun g=>⟨fun g2=>⟨fun k=>⟨?_,trivial⟩,fun k=>⟨?_,trivial⟩⟩,fun g2=>⟨fun k=>⟨?_,trivial⟩,fun k=>⟨fun k2=>⟨?_,trivial⟩,fun k2=>⟨?_,trivial⟩⟩⟩⟩⟩<;>simp only [decide_eq_true_eq,decide_eq_false_iff_not,Decidable.not_not] at g k
 ·rw [if_pos (k1 g),cI_ne g,if_pos k]
 ·rw [if_pos (k1 g),cI_ne g,if_neg k]
 ·simp only [decide_eq_true_eq] at g2
  rw [if_neg (by rw [cI_zero.2 g]; simp),if_pos (k1 g2),cI_ne g2,if_pos k]
 ·simp only [decide_eq_true_eq] at g2
  rw [if_neg (by rw [cI_zero.2 g]; simp),if_pos (k1 g2),cI_ne g2,if_neg k]
 ·simp only [decide_eq_false_iff_not,Decidable.not_not] at g2
  rw [if_neg (by rw [cI_zero.2 g]; simp),if_neg (by rw [cI_zero.2 g2]; simp)]; exact (show (-1:Int)=cB a3 b3 by have hr1:(-1:Int)<=cB a3 b3:=hr.1; have hr2:cB a3 b3<=(1:Int):=hr.2; omega)
 ·simp only [decide_eq_false_iff_not,Decidable.not_not,decide_eq_true_eq] at g2 k2
  rw [if_neg (by rw [cI_zero.2 g]; simp),if_neg (by rw [cI_zero.2 g2]; simp)]; exact (show (1:Int)=cB a3 b3 by have hr1:(-1:Int)<=cB a3 b3:=hr.1; have hr2:cB a3 b3<=(1:Int):=hr.2; omega)
 ·simp only [decide_eq_false_iff_not,Decidable.not_not] at g2 k2
  rw [if_neg (by rw [cI_zero.2 g]; simp),if_neg (by rw [cI_zero.2 g2]; simp)]; exact (show (0:Int)=cB a3 b3 by have hr1:(-1:Int)<=cB a3 b3:=hr.1; have hr2:cB a3 b3<=(1:Int):=hr.2; omega)
@[go_sem] noncomputable def EK6:Env:=((EK5).add 40 rvcpS).addM 39 vcpM
theorem EK6_ok:EK6.Ok:=((EK5_ok).add rvcp_ok).addM vcpM_ok
def djT (s t:Term):Bool:=decide (s.1=[])&&decide (t.1=[])&&decide (cV s.2 t.2≠0)
def djI (l m:List Term) (i:Nat):Bool:=djT (l.getD i ([],0,0,[])) (m.getD i ([],0,0,[]))
def djB (a b:Atom):Bool:=decide (a.1≠b.1)||decide (a.2.2.length≠b.2.2.length)||((List.range a.2.2.length).any fun i=>djI a.2.2 b.2.2 i)
theorem range_any_false {n:Nat} {p:Nat->Bool} (h:∀ i,i<n->p i=false):(List.range n).any p=false:=by
 rw [List.any_eq_false]
 intro i hi
 rw [h i (List.mem_range.1 hi)]
 exact Bool.false_ne_true
theorem range_any_true {n i:Nat} {p:Nat->Bool} (hi:i<n) (h:p i=true):(List.range n).any p=true :=
 List.any_eq_true.2 ⟨i,List.mem_range.2 hi,h⟩
@[go_sem] def rdjS:Spec:=⟨[atomT,atomT],fun d=>(.dat .bool (djB d.1 d.2.1),[List.length d.1.2.2<=2000000])⟩
theorem rdj_ok:SpecOk Tryz.prog 20 rdjS:=by
 refine fn_ok EK6_ok rdjS Tryz.func20 rfl (by decide) (N:=59) rfl (res:=[.tmp 4]) rfl (by decide) [] [] [] 100 (by kernel_rfl) ?_
 rintro ⟨a,b,_⟩ hw hp
 refine ⟨rfl,fun H hH=>?_⟩
 dsimp only [go_sem] at hw hp ⊢
 obtain ⟨hp,-⟩:=hp
 obtain ⟨rl,ng,l⟩:=a
 obtain ⟨rm,nh,m⟩:=b
 change List Term at l m
 change List.length l<=2000000 at hp
 clear hw
 have e0:∀ {x:Bool},(decide (rl≠rm)||decide ((l.length:Int)≠(m.length:Int)))=x->(decide (rl≠rm)||decide (l.length≠m.length))=x:=fun h=>by
  rw [<-h]; congr 1; exact decide_eq_decide.2 ⟨fun e f=>e (Int.ofNat.inj f),fun e f=>e (by rw [f])⟩
 simp only [imp_self,true_and]
 refine ⟨fun e=>?_,fun e=>?_⟩
 ·have h1:djB (rl,ng,l) (rm,nh,m)=true:=by
    show (decide (rl≠rm)||decide (l.length≠m.length)||_)=true
    rw [e0 e]; rfl
  rw [h1]
  and_intros<;>first|trivial|rfl|omega
 have e1:=e0 e
 have hlm:m.length=l.length:=by
  rw [Bool.or_eq_false_iff] at e1
  exact (Decidable.not_not.1 (of_decide_eq_false e1.2)).symm
 have hD:djB (rl,ng,l) (rm,nh,m)=(List.range l.length).any fun i=>djI l m i:=by
  show (decide (rl≠rm)||decide (l.length≠m.length)||_)=_
  rw [e1]; rfl
 clear e e0 e1
 refine hH.loop (fun i:Nat=>⟨[(5,.dat (.int .i64) (i:Int)),(3,.ref 1 0),(2,.ref 0 0)],[(0,.box 48 (.cons (.dat .str rl) (.cons (.dat .bool ng) (.cons (.dat (.slice termT) l) .nil)))),(1,.box 48 (.cons (.dat .str rm) (.cons (.dat .bool nh) (.cons (.dat (.slice termT) m) .nil))))],2⟩) (fun i=>i<=l.length/\∀ j,j<i->djI l m j=false) (fun i=>l.length-i) 0 2 ⟨Nat.zero_le _,fun j h=>absurd h (Nat.not_lt_zero _)⟩ ?_ ?_
 ·dsimp only [go_sem]
  and_intros<;>first|trivial|rfl|omega
 ·rintro i ⟨hi,hz⟩ R hm
  refine hH.run 100 _ _ ?_
  dsimp only [go_sem]
  simp only [Int.toNat_natCast,imp_self,true_and,and_true]
  refine ⟨fun d=>?_,fun d=>?_⟩<;>simp only [decide_eq_true_eq,decide_eq_false_iff_not] at d
  ·have d:i<l.length:=by omega
   have hb:(0:Int)<=(i:Int)/\(i:Int)<(l.length:Int):=by omega
   have hb2:(0:Int)<=(i:Int)/\(i:Int)<(m.length:Int):=by omega
   refine ⟨hb,fun _=>hb2,fun _=>hb,fun _=>hb2,fun e=>?_,fun e=>⟨by rw [inR_i64]; omega,hm _ (i+1) 2 ⟨d,fun j hj=>?_⟩ (by omega) ?_⟩⟩
   ·rw [hD]
    exact (range_any_true d e).symm
   ·rcases Nat.lt_or_ge j i with h|h
    ·exact hz j h
    ·have:j=i:=by omega
     rw [this]; exact e
   ·dsimp only [go_sem]
    and_intros<;>first|trivial|rfl|omega
  ·have d:i=l.length:=by omega
   subst d
   rw [hD]
   exact (range_any_false hz).symm
@[go_sem] def djM:MSpec:=⟨[.d atomT,.d atomT],fun d=>⟨[],0,.dat .bool (djB d.1 d.2.1),[List.length d.1.2.2<=2000000]⟩⟩
theorem djM_ok:MSpecOk Tryz.prog 19 djM:=by
 refine fnM_ok EK6_ok djM Tryz.func19 rfl (by decide) (N:=52) rfl (res:=[.tmp 4]) rfl (by decide) [] [] [] 100 (by kernel_rfl) ?_
 rintro ⟨a,b,_⟩ hw hp H hH
 dsimp only [go_sem] at hw hp ⊢
 obtain ⟨hp,-⟩:=hp
 obtain ⟨rl,ng,l⟩:=a
 obtain ⟨rm,nh,m⟩:=b
 change List Term at l m
 change List.length l<=2000000 at hp
 have e0:∀ {x:Bool},(decide (rl≠rm)||decide ((l.length:Int)≠(m.length:Int)))=x->(decide (rl≠rm)||decide (l.length≠m.length))=x:=fun h=>by
  rw [<-h]; congr 1; exact decide_eq_decide.2 ⟨fun e f=>e (Int.ofNat.inj f),fun e f=>e (by rw [f])⟩
 simp only [imp_self,true_and]
 refine ⟨fun e=>?_,fun e=>?_⟩
 ·have h1:djB (rl,ng,l) (rm,nh,m)=true:=by
    show (decide (rl≠rm)||decide (l.length≠m.length)||_)=true
    rw [e0 e]; rfl
  rw [h1]
  and_intros<;>first|trivial|rfl|omega
 have e1:=e0 e
 have hlm:m.length=l.length:=by
  rw [Bool.or_eq_false_iff] at e1
  exact (Decidable.not_not.1 (of_decide_eq_false e1.2)).symm
 have hD:djB (rl,ng,l) (rm,nh,m)=(List.range l.length).any fun i=>djI l m i:=by
  show (decide (rl≠rm)||decide (l.length≠m.length)||_)=_
  rw [e1]; rfl
 clear e e0 e1
 refine hH.loop (fun i:Nat=>⟨[(25,.dat (.int .i64) (i:Int)),(24,.dat (.int .i64) (l.length:Int)),(23,.dat (.slice termT) l),(3,.ref 1 0),(2,.ref 0 0)],[(0,.box 48 (.cons (.dat .str rl) (.cons (.dat .bool ng) (.cons (.dat (.slice termT) l) .nil)))),(1,.box 48 (.cons (.dat .str rm) (.cons (.dat .bool nh) (.cons (.dat (.slice termT) m) .nil))))],2⟩) (fun i=>i<=l.length/\∀ j,j<i->djI l m j=false) (fun i=>l.length-i) 0 2 ⟨Nat.zero_le _,fun j h=>absurd h (Nat.not_lt_zero _)⟩ ?_ ?_
 ·dsimp only [go_sem]
  and_intros<;>first|trivial|rfl|omega
 ·rintro i ⟨hi,hz⟩ R hm
  refine hH.run 100 _ _ ?_
  dsimp only [go_sem]
  simp only [Int.toNat_natCast,imp_self,true_and,and_true]
  refine ⟨fun d=>?_,fun d=>?_⟩<;>simp only [decide_eq_true_eq,decide_eq_false_iff_not] at d
  ·have d:i<l.length:=by omega
   have hb:(0:Int)<=(i:Int)/\(i:Int)<(l.length:Int):=by omega
   have hb2:(0:Int)<=(i:Int)/\(i:Int)<(m.length:Int):=by omega
   refine ⟨hb,hb2,fun e=>?_,fun e=>⟨by rw [inR_i64]; omega,HOk.ren (by assumption) [(0,0),(1,1)] 2 rfl rfl (Nat.zero_le _) rfl ?_⟩⟩
   ·rw [hD]
    exact ⟨⟨Nat.le_refl _,Nat.le_refl _⟩,Nat.le_refl _,(range_any_true d e).symm⟩
   ·dsimp only [go_sem]
    refine hm _ (i+1) 2 ⟨d,fun j hj=>?_⟩ (by omega) ?_
    ·rcases Nat.lt_or_ge j i with h|h
     ·exact hz j h
     ·have:j=i:=by omega
      rw [this]; exact e
    ·dsimp only [go_sem]
     and_intros<;>first|trivial|rfl|omega
  ·have d:i=l.length:=by omega
   subst d
   rw [hD]
   exact ⟨⟨Nat.le_refl _,Nat.le_refl _⟩,Nat.le_refl _,(range_any_false hz).symm⟩
end Go.Proofs.YtdobkkhncfifeaaGreat.Gx
namespace Go.Proofs.YtdobkkhncfifeaaGreat.Gx
open Go Go.RowKit Tw B Nt
set_option linter.unusedVariables false
set_option linter.unusedSimpArgs false
set_option maxHeartbeats 4000000
set_option maxRecDepth 20000
def nmA (l:List Atom) (i:Nat):Str:=(l.getD i ([],false,[])).1
theorem sjB_true {l:List Atom} (h:∀ i,i<l.length->∀ j,j<i->nmA l i≠nmA l j):sjB l=true:=by
 unfold sjB
 refine decide_eq_true ?_
 rw [List.nodup_iff_pairwise_ne,List.pairwise_iff_getElem]
 intro i j hi hj hij e
 rw [List.length_map] at hi hj
 refine h j hj i hij ?_
 rw [List.getElem_map,List.getElem_map] at e
 unfold nmA
 rw [List.getD_eq_getElem?_getD,List.getD_eq_getElem?_getD,List.getElem?_eq_getElem hi,List.getElem?_eq_getElem hj]
 exact e.symm
theorem sjB_false {l:List Atom} {i j:Nat} (hi:i<l.length) (hj:j<i) (e:nmA l i=nmA l j):sjB l=false:=by
 unfold sjB
 refine decide_eq_false ?_
 rw [List.nodup_iff_pairwise_ne,List.pairwise_iff_getElem]
 intro h
 refine h j i (by rw [List.length_map]; omega) (by rw [List.length_map]; omega) hj ?_
 rw [List.getElem_map,List.getElem_map]
 unfold nmA at e
 rw [List.getD_eq_getElem?_getD,List.getD_eq_getElem?_getD,List.getElem?_eq_getElem hi,List.getElem?_eq_getElem (show j<l.length by omega)] at e
 exact e.symm
@[go_sem] def rsjS:Spec:=⟨[cqT],fun d=>(.dat .bool (sjB d.1.1),[cqP d.1])⟩
@[go_sem] noncomputable def EK7:Env:=((EK6).add 20 rdjS).addM 19 djM
theorem EK7_ok:EK7.Ok:=((EK6_ok).add rdj_ok).addM djM_ok
theorem rsj_ok:SpecOk Tryz.prog 15 rsjS:=by
 refine fn_ok EK7_ok rsjS Tryz.func15 rfl (by decide) (N:=30) rfl (res:=[.tmp 2]) rfl (by decide) [] [] [] 100 (by kernel_rfl) ?_
 rintro ⟨c,_⟩ hw hp
 refine ⟨rfl,fun H hH=>?_⟩
 dsimp only [go_sem] at hw hp ⊢
 obtain ⟨hp,-⟩:=hp
 obtain ⟨l,cs⟩:=c
 change List Atom at l
 obtain ⟨hp1,hp2,hp3⟩:=hp
 change List.length l<=1000 at hp1
 clear hw
 refine hH.loop (fun i:Nat=>⟨[(3,.dat (.int .i64) (i:Int)),(1,.ref 0 0)],[(0,.box 26 (.cons (.dat (.slice atomT) l) (.cons (.dat (.slice cmpT) cs) .nil)))],1⟩) (fun i=>i<=l.length/\∀ a,a<i->∀ b,b<a->nmA l a≠nmA l b) (fun i=>l.length-i) 0 1 ⟨Nat.zero_le _,fun a h=>absurd h (Nat.not_lt_zero _)⟩ ?_ ?_
 ·dsimp only [go_sem]
  and_intros<;>first|trivial|rfl|omega
 ·rintro i ⟨hi,hz⟩ R hm
  refine hH.run 100 _ _ ?_
  dsimp only [go_sem]
  refine ⟨fun d=>?_,fun d=>?_⟩<;>simp only [decide_eq_true_eq,decide_eq_false_iff_not] at d
  ·have d:i<l.length:=by omega
   have hb:(0:Int)<=(i:Int)/\(i:Int)<(l.length:Int):=by omega
   refine HOk.loop (by assumption) (fun j:Nat=>⟨[(4,.dat (.int .i64) (j:Int)),(3,.dat (.int .i64) (i:Int)),(1,.ref 0 0)],[(0,.box 26 (.cons (.dat (.slice atomT) l) (.cons (.dat (.slice cmpT) cs) .nil)))],1⟩) (fun j=>j<=i/\∀ b,b<j->nmA l i≠nmA l b) (fun j=>i-j) 0 1 ⟨Nat.zero_le _,fun a h=>absurd h (Nat.not_lt_zero _)⟩ ?_ ?_
   ·dsimp only [go_sem]
    and_intros<;>first|trivial|rfl|omega
   ·rintro j ⟨hj,hz2⟩ R2 hm2
    refine HOk.run (by assumption) 100 _ _ ?_
    dsimp only [go_sem]
    simp only [Int.toNat_natCast]
    refine ⟨fun d2=>?_,fun d2=>?_⟩<;>simp only [decide_eq_true_eq,decide_eq_false_iff_not] at d2
    ·have d2:j<i:=by omega
     have hb2:(0:Int)<=(j:Int)/\(j:Int)<(l.length:Int):=by omega
     refine ⟨hb,hb2,fun e=>?_,fun e=>?_⟩
     ·exact ⟨(sjB_false d d2 (of_decide_eq_true e)).symm,trivial⟩
     ·refine ⟨by rw [inR_i64]; omega,hm2 _ (j+1) 1 ⟨d2,fun b hb=>?_⟩ (by omega) ?_⟩
      ·rcases Nat.lt_or_ge b j with h|h
       ·exact hz2 b h
       ·have:b=j:=by omega
        rw [this]; exact of_decide_eq_false e
      ·dsimp only [go_sem]
       and_intros<;>first|trivial|rfl|omega
    ·have d2:j=i:=by omega
     subst d2
     refine ⟨by rw [inR_i64]; omega,hm _ (j+1) 1 ⟨d,fun a ha=>?_⟩ (by omega) ?_⟩
     ·rcases Nat.lt_or_ge a j with h|h
      ·exact hz a h
      ·have:a=j:=by omega
       rw [this]; exact hz2
     ·dsimp only [go_sem]
      and_intros<;>first|trivial|rfl|omega
  ·have d:i=l.length:=by omega
   subst d
   exact ⟨(sjB_true hz).symm,trivial⟩
def atC (c:Cq) (i:Int):Atom:=c.1.getD i.toNat ([],false,[])
def lkV (c:Cq) (i k:Int) (v:Str):Bool:=hasR v (atC c i)&&hasR v (atC c k)
def lkC (c:Cq) (i k:Int) (q:Cmp):Bool:=decide (q.2.1.1≠[])&&decide (q.2.2.1≠[])&&(hasR q.2.1.1 (atC c i)||hasR q.2.2.1 (atC c i))&&(hasR q.2.1.1 (atC c k)||hasR q.2.2.1 (atC c k))
def lkB (c:Cq) (i k:Int):Bool:=(vrs (trm c)).any (lkV c i k)||c.2.any (lkC c i k)
@[go_sem] def lkdS:Spec:=⟨[cqT,.int .i64,.int .i64],fun d=>(.dat .bool (lkB d.1 d.2.1 d.2.2.1),[cqP d.1,0<=d.2.1/\d.2.1<(List.length d.1.1:Int)/\0<=d.2.2.1/\d.2.2.1<(List.length d.1.1:Int)])⟩
@[go_sem] noncomputable def EK8:Env:=(EK7).add 15 rsjS
theorem EK8_ok:EK8.Ok:=(EK7_ok).add rsj_ok
theorem lkd_ok:SpecOk Tryz.prog 37 lkdS:=by
 refine fn_ok EK8_ok lkdS Tryz.func37 rfl (by decide) (N:=109) rfl (res:=[.tmp 6]) rfl (by decide) [] [] [] 100 (by kernel_rfl) ?_
 rintro ⟨c,x,y,_⟩ hw hp
 refine ⟨rfl,fun H hH=>?_⟩
 dsimp only [go_sem] at hw hp ⊢
 obtain ⟨hp,⟨hx0,hx1,hy0,hy1⟩,-⟩:=hp
 refine ⟨hp,?_⟩
 obtain ⟨vs,hvs⟩:∃ vs,vrs (trm c)=vs:=⟨_,rfl⟩
 have hvl:vs.length<=1002000:=by
  rw [<-hvs]
  exact Nat.le_trans (vrs_len _) (trm_len hp)
 have hB:lkB c x y=(vs.any (lkV c x y)||c.2.any (lkC c x y)):=by rw [<-hvs]; rfl
 rw [hvs]
 obtain ⟨l,cs⟩:=c
 change List Atom at l
 change List Cmp at cs
 change Int at x y
 obtain ⟨hp1,hp2,hp3⟩:=hp
 change List.length l<=1000 at hp1
 change ∀ a∈l,a.2.2.length<=1000 at hp2
 change List.length cs<=1000 at hp3
 change x<(l.length:Int) at hx1
 change 0<=x at hx0
 change 0<=y at hy0
 change y<(l.length:Int) at hy1
 clear hw
 have hqx:(l.getD x.toNat ([],false,[])).2.2.length<=2000000:=Nat.le_trans (hp2 _ (getDm _ (show x.toNat<l.length by omega))) (by decide)
 have hqy:(l.getD y.toNat ([],false,[])).2.2.length<=2000000:=Nat.le_trans (hp2 _ (getDm _ (show y.toNat<l.length by omega))) (by decide)
 refine hH.loop (fun i:Nat=>⟨[(8,.dat (.int .i64) (i:Int)),(7,.dat (.slice .str) vs),(3,.ref 0 0),(1,.dat (.int .i64) x),(2,.dat (.int .i64) y)],[(0,.box 26 (.cons (.dat (.slice atomT) l) (.cons (.dat (.slice cmpT) cs) .nil)))],1⟩) (fun i=>i<=vs.length/\(vs.take i).any (lkV (l,cs) x y)=false) (fun i=>vs.length-i) 0 1 ⟨Nat.zero_le _,rfl⟩ ?_ ?_
 ·dsimp only [go_sem]
  and_intros<;>first|trivial|rfl|omega
 ·rintro i ⟨hi,hz⟩ R hm
  refine hH.run 100 _ _ ?_
  dsimp only [go_sem]
  simp only [Int.toNat_natCast,imp_self,true_and]
  refine ⟨fun d=>?_,fun d=>?_⟩<;>simp only [decide_eq_true_eq,decide_eq_false_iff_not] at d
  ·have d:i<vs.length:=by omega
   have hb:(0:Int)<=(i:Int)/\(i:Int)<(vs.length:Int):=by omega
   have hs:=any_snoc (p:=lkV (l,cs) x y) (zd .str) d
   rw [hz,Bool.false_or] at hs
   refine ⟨⟨hx0,hx1⟩,hb,hqx,fun _=>⟨hy0,hy1⟩,fun _=>hb,fun _=>hqy,fun e=>?_,fun e=>⟨by rw [inR_i64]; omega,hm _ (i+1) 1 ⟨d,by rw [hs]; exact e⟩ (by omega) ?_⟩⟩
   ·have h1:vs.any (lkV (l,cs) x y)=true:=List.any_eq_true.2 ⟨_,getDm (zd .str) d,e⟩
    rw [hB,h1]
    exact ⟨rfl,trivial⟩
   ·dsimp only [go_sem]
    and_intros<;>first|trivial|rfl|omega
  ·have d:i=vs.length:=by omega
   subst d
   rw [List.take_length] at hz
   rw [hz,Bool.false_or] at hB
   clear hm hz
   refine HOk.loop (by assumption) (fun k:Nat=>⟨[(9,.dat (.int .i64) (k:Int)),(3,.ref 0 0),(1,.dat (.int .i64) x),(2,.dat (.int .i64) y)],[(0,.box 26 (.cons (.dat (.slice atomT) l) (.cons (.dat (.slice cmpT) cs) .nil)))],1⟩) (fun k=>k<=cs.length/\(cs.take k).any (lkC (l,cs) x y)=false) (fun k=>cs.length-k) 0 1 ⟨Nat.zero_le _,rfl⟩ ?_ ?_
   ·dsimp only [go_sem]
    and_intros<;>first|trivial|rfl|omega
   ·rintro k ⟨hk,hz⟩ R2 hm2
    refine HOk.run (by assumption) 100 _ _ ?_
    dsimp only [go_sem]
    simp only [Int.toNat_natCast,imp_self,true_and]
    refine ⟨fun d2=>?_,fun d2=>?_⟩<;>simp only [decide_eq_true_eq,decide_eq_false_iff_not] at d2
    ·have d2:k<cs.length:=by omega
     have hb2:(0:Int)<=(k:Int)/\(k:Int)<(cs.length:Int):=by omega
     have hs:=any_snoc (p:=lkC (l,cs) x y) (zd cmpT) d2
     rw [hz,Bool.false_or] at hs
     refine ⟨hb2,hb2,⟨hx0,hx1⟩,hqx,fun _=>⟨hx0,hx1⟩,fun _=>hqx,⟨hy0,hy1⟩,hqy,fun _=>⟨hy0,hy1⟩,fun _=>hqy,fun e=>?_,fun e=>⟨by rw [inR_i64]; omega,hm2 _ (k+1) 1 ⟨d2,by rw [hs]; exact e⟩ (by omega) ?_⟩⟩
     ·have h1:cs.any (lkC (l,cs) x y)=true:=List.any_eq_true.2 ⟨_,getDm (zd cmpT) d2,e⟩
      rw [hB,h1]
      exact ⟨rfl,trivial⟩
     ·dsimp only [go_sem]
      and_intros<;>first|trivial|rfl|omega
    ·have d2:k=cs.length:=by omega
     subst d2
     rw [List.take_length] at hz
     rw [hB,hz]
     exact ⟨rfl,trivial⟩
end Go.Proofs.YtdobkkhncfifeaaGreat.Gx
namespace Go.Proofs.YtdobkkhncfifeaaGreat.Gx
open Go Go.RowKit Tw B Nt
set_option linter.unusedVariables false
set_option linter.unusedSimpArgs false
set_option maxHeartbeats 4000000
set_option maxRecDepth 20000
@[go_sem] noncomputable def EK9:Env:=(EK8).add 37 lkdS
theorem EK9_ok:EK9.Ok:=(EK8_ok).add lkd_ok
theorem toN0:Int.toNat 0=0:=rfl
theorem toN1:Int.toNat 1=1:=rfl
theorem toN2:Int.toNat 2=2:=rfl
theorem fi_at (p:Nat->Bool) (s k:Nat):fi p (s+1) k=if p k then (k:Int) else fi p s (k+1):=rfl
theorem hasR_st {l:List Atom} {n:Str} {k:Nat} (hn:n≠[]) (h:k<l.length):hasR n (l.getD k ([],false,[]))=(stv l n).getD k false:=by
 rw [hasR_eq,stv_at h,decide_eq_true hn,Bool.and_true]
@[go_sem] def rfvS:Spec:=⟨[cqT],fun d=>(.tup (.cons (.dat witT (viR d.1 (vio d.1)).1) (.cons (.dat .bool (viR d.1 (vio d.1)).2) .nil)),[cqP d.1])⟩
theorem rfv_ok:SpecOk Tryz.prog 7 rfvS:=by
 refine fn_ok EK9_ok rfvS Tryz.func7 rfl (by decide) (N:=97) rfl (res:=[.cell 2 35,.tmp 3]) rfl (by decide) [] [] [] 100 (by kernel_rfl) ?_
 rintro ⟨c,_⟩ hw hp
 refine ⟨rfl,fun H hH=>?_⟩
 dsimp only [go_sem] at hw hp ⊢
 obtain ⟨hp,-⟩:=hp
 have hln:=Nat.le_trans (vrs_len (trm c)) (trm_len hp)
 have hnd:∀ i,nmv c i=(vrs (trm c)).getD i []:=fun _=>rfl
 have htv:∀ i j,trv c i j=trp (stv c.1 (nmv c i)) (stv c.1 (nmv c j)):=fun _ _=>rfl
 have hvd:vio c=fvI (fun i j=>nneg (trv c i j)) (vrs (trm c)).length ((vrs (trm c)).length-0) 0:=rfl
 refine ⟨hp,?_⟩
 clear hw
 have hp0:=hp
 obtain ⟨l,cs⟩:=c
 change List Atom at l
 change List Cmp at cs
 obtain ⟨hp1,hp2,hp3⟩:=hp
 change List.length l<=1000 at hp1
 change ∀ a∈l,a.2.2.length<=1000 at hp2
 have hqa:=hp2
 have hne:∀ x∈vrs (trm (l,cs)),x≠[]:=fun x hx=>vrs_ne hx
 generalize en:vrs (trm (l,cs))=nm at hln hnd hvd hne ⊢
 change List Str at nm
 simp only [hnd] at htv
 change ∀ i j,trv (l,cs) i j=trp (stv l (nm.getD i [])) (stv l (nm.getD j [])) at htv
 generalize hP:(fun i j=>nneg (trv (l,cs) i j))=P at hvd
 have hPd:∀ i j,P i j=nneg (trp (stv l (nm.getD i [])) (stv l (nm.getD j []))):=fun i j=>by rw [<-hP,<-htv]
 have hsl:∀ n,(stv l n).length=l.length:=fun n=>List.length_map _
 refine hH.loop (fun i:Nat=>⟨[(5,.dat (.int .i64) (i:Int)),(4,.dat (.slice .str) nm),(2,.ref 1 0),(1,.ref 0 0)],[(0,.box 26 (.cons (.dat (.slice atomT) l) (.cons (.dat (.slice cmpT) cs) .nil))),(1,.box 35 (zA witT .nil))],2⟩) (fun i=>i<=nm.length/\vio (l,cs)=fvI P nm.length (nm.length-i) i) (fun i=>nm.length-i) 0 2 ⟨Nat.zero_le _,hvd⟩ ?_ ?_
 ·dsimp only [go_sem]
  and_intros<;>first|trivial|rfl|omega
 ·rintro i ⟨hi,hv⟩ R hm
  refine hH.run 100 _ _ ?_
  dsimp only [go_sem]
  refine ⟨fun d=>?_,fun d=>?_⟩<;>simp only [decide_eq_true_eq,decide_eq_false_iff_not] at d
  ·have d:i<nm.length:=by omega
   obtain ⟨q,hq⟩:∃ q,nm.length-i=q+1:=⟨nm.length-i-1,by omega⟩
   have hq':nm.length-(i+1)=q:=by omega
   rw [hq] at hv
   unfold fvI at hv
   rw [hq'] at hv
   refine ⟨by rw [inR_i64]; omega,?_⟩
   refine HOk.loop (by assumption) (fun j:Nat=>⟨[(6,.dat (.int .i64) ((i+1+j:Nat):Int)),(5,.dat (.int .i64) (i:Int)),(4,.dat (.slice .str) nm),(2,.ref 1 0),(1,.ref 0 0)],[(0,.box 26 (.cons (.dat (.slice atomT) l) (.cons (.dat (.slice cmpT) cs) .nil))),(1,.box 35 (zA witT .nil))],2⟩) (fun j=>j<=q/\vio (l,cs)=match fvJ (P i) (q-j) (i+1+j) with|some j=>some (i,j)|none=>fvI P nm.length q (i+1)) (fun j=>q-j) 0 2 ⟨Nat.zero_le _,hv⟩ ?_ ?_
   ·dsimp only [go_sem]
    and_intros<;>first|trivial|rfl|omega
   ·rintro j ⟨hj,hv⟩ R2 hm2
    refine HOk.run (by assumption) 100 _ _ ?_
    dsimp only [go_sem]
    refine ⟨fun e=>?_,fun e=>?_⟩<;>simp only [decide_eq_true_eq,decide_eq_false_iff_not] at e
    ·have e:j<q:=by omega
     have e0:=e
     obtain ⟨q2,hq2⟩:∃ q2,q-j=q2+1:=⟨q-j-1,by omega⟩
     have hq2':q-(j+1)=q2:=by omega
     rw [hq2] at hv
     unfold fvJ at hv
     have hij:i+1+j<nm.length:=by omega
     have hp2:=hPd i (i+1+j)
     have hLA:=hsl (nm.getD i [])
     have hLB:=hsl (nm.getD (i+1+j) [])
     have hR:=htv i (i+1+j)
     have hn1:=hnd i
     have hn2:=hnd (i+1+j)
     have hA:∀ k,k<l.length->hasR (nm.getD i []) (l.getD k ([],false,[]))=(stv l (nm.getD i [])).getD k false:=fun k hk=>hasR_st (hne _ (getDm _ d)) hk
     have hB:∀ k,k<l.length->hasR (nm.getD (i+1+j) []) (l.getD k ([],false,[]))=(stv l (nm.getD (i+1+j) [])).getD k false:=fun k hk=>hasR_st (hne _ (getDm _ hij)) hk
     have ha3:isA3 Tryz.prog 33:=⟨_,_,rfl,rfl,rfl,rfl,rfl⟩
     generalize stv l (nm.getD i [])=A at hp2 hLA hR hA
     generalize stv l (nm.getD (i+1+j) [])=C at hp2 hLB hR hB
     unfold trp at hp2 hR
     rw [hLA] at hp2 hR
     refine ⟨ha3,by rw [inR_i64]; omega,?_⟩
     refine HOk.loop (by assumption) (fun s:Nat=>⟨[(8,.dat (.int .i64) ((l.length:Int)-1-(s:Int))),(7,.ref 2 0),(6,.dat (.int .i64) ((i+1+j:Nat):Int)),(5,.dat (.int .i64) (i:Int)),(4,.dat (.slice .str) nm),(2,.ref 1 0),(1,.ref 0 0)],[(2,.box 33 (.cons (.dat (.int .i64) (fi (ovl A C) s (l.length-s))) (.cons (.dat (.int .i64) (fi (ovp A C) s (l.length-s))) (.cons (.dat (.int .i64) (fi (ovr A C) s (l.length-s))) .nil)))),(0,.box 26 (.cons (.dat (.slice atomT) l) (.cons (.dat (.slice cmpT) cs) .nil))),(1,.box 35 (zA witT .nil))],3⟩) (fun s=>s<=l.length) (fun s=>l.length-s) 0 3 (Nat.zero_le _) ?_ ?_
     ·dsimp only [go_sem]
      rw [show (l.length:Int)-1-((0:Nat):Int)=(l.length:Int)-1 by omega]
      and_intros<;>first|trivial|rfl|omega
     ·rintro s hs R3 hm3
      refine HOk.run (by assumption) 100 _ _ ?_
      dsimp only [go_sem,toN0,toN1,toN2]
      refine ⟨fun e=>?_,fun e=>?_⟩<;>simp only [decide_eq_true_eq,decide_eq_false_iff_not] at e
      ·have e:s<l.length:=by omega
       obtain ⟨m,hm⟩:∃ m,l.length=m+1+s:=⟨l.length-(s+1),by omega⟩
       have hml:m<l.length:=by omega
       have hk:(l.length:Int)-1-(s:Int)=(m:Int):=by omega
       have hq3:(m:Int)-1=(l.length:Int)-1-((s+1:Nat):Int):=by omega
       have hs1:l.length-(s+1)=m:=by omega
       have hs2:l.length-s=m+1:=by omega
       have hL:fi (ovl A C) (s+1) (l.length-(s+1))=if (A.getD m false&&!C.getD m false)=true then (m:Int) else fi (ovl A C) s (l.length-s):=by rw [hs1,hs2,fi_at]; rfl
       have hM:fi (ovp A C) (s+1) (l.length-(s+1))=if (A.getD m false&&C.getD m false)=true then (m:Int) else fi (ovp A C) s (l.length-s):=by rw [hs1,hs2,fi_at]; rfl
       have hN:fi (ovr A C) (s+1) (l.length-(s+1))=if (!A.getD m false&&C.getD m false)=true then (m:Int) else fi (ovr A C) s (l.length-s):=by rw [hs1,hs2,fi_at]; rfl
       have hz:l.getD m (zd atomT)=l.getD m ([],false,[]):=rfl
       have hg1:nm.getD i (zd .str)=nm.getD i []:=rfl
       have hg2:nm.getD (i+1+j) (zd .str)=nm.getD (i+1+j) []:=rfl
       have hqm:(l.getD m ([],false,[])).2.2.length<=2000000:=Nat.le_trans (hqa _ (getDm _ hml)) (by decide)
       simp only [hk,Int.toNat_natCast,hz,hg1,hg2,hA m hml,hB m hml]
       generalize A.getD m false=a' at hL hM hN ⊢
       generalize C.getD m false=b' at hL hM hN ⊢
       have hbm:(0:Int)<=(m:Int)/\(m:Int)<(l.length:Int):=by omega
       have hbi:(0:Int)<=(i:Int)/\(i:Int)<(nm.length:Int):=by omega
       have hbj:(0:Int)<=((i+1+j:Nat):Int)/\((i+1+j:Nat):Int)<(nm.length:Int):=by omega
       refine ⟨hbm,hbi,hqm,hbm,hbj,hqm,fun h=>h,fun h=>?_,fun h=>?_⟩
       ·refine ⟨by decide,ha3,by rw [inR_i64]; omega,hm3 _ (s+1) 3 (by omega) (by omega) ?_⟩
        have hl:fi (ovl A C) (s+1) (l.length-(s+1))=fi (ovl A C) s (l.length-s):=by rw [hL]; revert h; cases a'<;>cases b'<;>simp
        have hm':fi (ovp A C) (s+1) (l.length-(s+1))=(m:Int):=by rw [hM]; revert h; cases a'<;>cases b'<;>simp
        have hr:fi (ovr A C) (s+1) (l.length-(s+1))=fi (ovr A C) s (l.length-s):=by rw [hN]; revert h; cases a'<;>cases b'<;>simp
        dsimp only [go_sem]
        rw [hl,hm',hr]
        and_intros<;>first|trivial|rfl|exact hq3|omega
       ·refine ⟨fun h2=>?_,fun h2=>?_⟩
        ·refine ⟨by decide,ha3,by rw [inR_i64]; omega,hm3 _ (s+1) 3 (by omega) (by omega) ?_⟩
         have hl:fi (ovl A C) (s+1) (l.length-(s+1))=(m:Int):=by rw [hL]; revert h h2; cases a'<;>cases b'<;>simp
         have hm':fi (ovp A C) (s+1) (l.length-(s+1))=fi (ovp A C) s (l.length-s):=by rw [hM]; revert h h2; cases a'<;>cases b'<;>simp
         have hr:fi (ovr A C) (s+1) (l.length-(s+1))=fi (ovr A C) s (l.length-s):=by rw [hN]; revert h h2; cases a'<;>cases b'<;>simp
         dsimp only [go_sem]
         rw [hl,hm',hr]
         and_intros<;>first|trivial|rfl|exact hq3|omega
        ·refine ⟨fun h3=>?_,fun h3=>?_⟩
         ·refine ⟨by decide,ha3,by rw [inR_i64]; omega,hm3 _ (s+1) 3 (by omega) (by omega) ?_⟩
          have hl:fi (ovl A C) (s+1) (l.length-(s+1))=fi (ovl A C) s (l.length-s):=by rw [hL]; revert h2 h3; cases a'<;>cases b'<;>simp
          have hm':fi (ovp A C) (s+1) (l.length-(s+1))=fi (ovp A C) s (l.length-s):=by rw [hM]; revert h2 h3; cases a'<;>cases b'<;>simp
          have hr:fi (ovr A C) (s+1) (l.length-(s+1))=(m:Int):=by rw [hN]; revert h2 h3; cases a'<;>cases b'<;>simp
          dsimp only [go_sem]
          rw [hl,hm',hr]
          and_intros<;>first|trivial|rfl|exact hq3|omega
         ·refine ⟨by rw [inR_i64]; omega,hm3 _ (s+1) 3 (by omega) (by omega) ?_⟩
          have hl:fi (ovl A C) (s+1) (l.length-(s+1))=fi (ovl A C) s (l.length-s):=by rw [hL]; revert h2 h3; cases a'<;>cases b'<;>simp
          have hm':fi (ovp A C) (s+1) (l.length-(s+1))=fi (ovp A C) s (l.length-s):=by rw [hM]; revert h2 h3; cases a'<;>cases b'<;>simp
          have hr:fi (ovr A C) (s+1) (l.length-(s+1))=fi (ovr A C) s (l.length-s):=by rw [hN]; revert h2 h3; cases a'<;>cases b'<;>simp
          dsimp only [go_sem]
          rw [hl,hm',hr]
          and_intros<;>first|trivial|rfl|exact hq3|omega
      ·have e:s=l.length:=by omega
       subst e
       rw [Nat.sub_self]
       clear hm3 hA hB
       generalize fi (ovl A C) l.length 0=x at hp2 hR ⊢
       generalize fi (ovp A C) l.length 0=y at hp2 hR ⊢
       generalize fi (ovr A C) l.length 0=z at hp2 hR ⊢
       simp only [imp_self,true_and]
       have b0:(0:Int)<=0/\(0:Int)<3:=by decide
       have b1:(0:Int)<=1/\(1:Int)<3:=by decide
       have b2:(0:Int)<=2/\(2:Int)<3:=by decide
       have hbi:(0:Int)<=(i:Int)/\(i:Int)<(nm.length:Int):=by omega
       have hbj:(0:Int)<=((i+1+j:Nat):Int)/\((i+1+j:Nat):Int)<(nm.length:Int):=by omega
       refine ⟨b0,ha3,fun _=>b1,fun _=>ha3,fun _=>b2,fun _=>ha3,fun h=>?_,fun h=>?_⟩
       ·rw [hp2,show nneg (x,y,z)=true from h,if_pos rfl] at hv
        have hvx:(([],[(l,cs)]),nm.getD i [],nm.getD (i+1+j) [],x,y,z)=((viR (l,cs) (some (i,i+1+j))).1:Wit):=by
         show _=(((([]:List Str),[(l,cs)]),nmv (l,cs) i,nmv (l,cs) (i+1+j),trv (l,cs) i (i+1+j)):Wit)
         rw [hn1,hn2,hR]
        have hv2:(viR (l,cs) (vio (l,cs))).1=(([],[(l,cs)]),nm.getD i [],nm.getD (i+1+j) [],x,y,z):=by rw [hv]; exact hvx.symm
        have hv3:true=(viR (l,cs) (vio (l,cs))).2:=by rw [hv]; rfl
        and_intros<;>first|trivial|exact hbi.1|exact hbi.2|exact hbj.1|exact hbj.2|exact hv2.symm|exact hv3|fail
       ·rw [hp2,show nneg (x,y,z)=false from h,if_neg (by decide)] at hv
        refine ⟨by rw [inR_i64]; omega,HOk.ren (by assumption) [(0,0),(1,1)] 2 rfl rfl (Nat.zero_le _) rfl ?_⟩
        dsimp only [go_sem]
        refine hm2 _ (j+1) 2 ⟨e0,?_⟩ (by omega) ?_
        ·rw [hq2',hv,Nat.add_assoc (i+1)]
        ·dsimp only [go_sem]
         and_intros<;>first|trivial|rfl|omega
    ·have e:j=q:=by omega
     subst e
     rw [Nat.sub_self] at hv
     refine ⟨by rw [inR_i64]; omega,hm _ (i+1) 2 ⟨d,by rw [hq']; exact hv⟩ (by omega) ?_⟩
     dsimp only [go_sem]
     and_intros<;>first|trivial|rfl|omega
  ·have d:i=nm.length:=by omega
   subst d
   rw [Nat.sub_self] at hv
   have hv:vio (l,cs)=none:=hv
   rw [hv]
   and_intros<;>first|trivial|rfl
@[go_sem] noncomputable def EKA:Env:=(EK9).add 7 rfvS
theorem EKA_ok:EKA.Ok:=(EK9_ok).add rfv_ok
@[go_sem] def rhieS:Spec:=⟨[cqT],fun d=>(.dat .bool (!(viR d.1 (vio d.1)).2),[cqP d.1])⟩
theorem rhie_ok:SpecOk Tryz.prog 10 rhieS:=by
 refine fn_ok EKA_ok rhieS Tryz.func10 rfl (by decide) (N:=12) rfl (res:=[.tmp 2]) rfl (by decide) [] [] [] 100 (by kernel_rfl) ?_
 rintro ⟨c,_⟩ hw hp
 refine ⟨rfl,fun H hH=>?_⟩
 dsimp only [go_sem] at hw hp ⊢
 obtain ⟨hp,-⟩:=hp
 refine ⟨hp,?_⟩
 and_intros<;>first|trivial|rfl
@[go_sem] noncomputable def EKB:Env:=(EKA).add 10 rhieS
theorem EKB_ok:EKB.Ok:=(EKA_ok).add rhie_ok
end Go.Proofs.YtdobkkhncfifeaaGreat.Gx
