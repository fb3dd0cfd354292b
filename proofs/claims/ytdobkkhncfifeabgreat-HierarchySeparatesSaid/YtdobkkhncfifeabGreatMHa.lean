/-
  MHa: H1 H2 H3 H4 H5 in one text.
-/
import Derived.Test.YtdobkkhncfifeabGreatMV
namespace Go.Proofs.YtdobkkhncfifeabGreat.Gx
open Go Go.RowKit Tw B Nt
set_option linter.unusedVariables false
set_option linter.unusedSimpArgs false
set_option maxHeartbeats 4000000
set_option maxRecDepth 20000
@[reducible,go_sem] def termT:Ty:=.pair .str valT
@[reducible,go_sem] def atomT:Ty:=.pair .str (.pair .bool (.slice termT))
@[reducible,go_sem] def cmpT:Ty:=.pair (.int .i64) (.pair termT termT)
@[reducible,go_sem] def cqT:Ty:=.pair (.slice atomT) (.slice cmpT)
abbrev Term:=Str×Int×Int×Str
abbrev Atom:=Str×Bool×List Term
abbrev Cmp:=Int×Term×Term
abbrev Cq:=List Atom×List Cmp
def idx {α:Type} (p:α->Bool) (l:List α):Int:=match l.findIdx? p with|some i=>(i:Int)|none => -1
theorem idx_at {α:Type} {p:α->Bool} {l:List α} {i:Nat} (d:α) (hi:i<l.length) (h:p (l.getD i d)=true) (h':(l.take i).any p=false):idx p l=i:=by
 have:l.findIdx? p=some i:=by
  rw [List.findIdx?_eq_some_iff_getElem]
  refine ⟨hi,?_,fun j hj=>?_⟩
  ·rw [List.getD_eq_getElem?_getD,List.getElem?_eq_getElem hi] at h; exact h
  ·rw [List.any_eq_false] at h'
   have:=h' (l[j]'(by omega)) (by rw [List.mem_take_iff_getElem]; exact ⟨j,by omega,rfl⟩)
   simpa using this
 unfold idx; rw [this]
theorem idx_none {α:Type} {p:α->Bool} {l:List α} (h:l.any p=false):idx p l = -1:=by
 have:l.findIdx? p=none:=by
  rw [List.findIdx?_eq_none_iff]
  intro x hx
  rw [List.any_eq_false] at h
  have:=h x hx
  simpa using this
 unfold idx; rw [this]
theorem idx_nn {α:Type} (p:α->Bool) (l:List α):decide (0<=idx p l)=l.any p:=by
 cases e:l.any p with
 | false=>rw [idx_none e]; rfl
 | true =>
  unfold idx
  cases e2:l.findIdx? p with
  | none=>rw [List.findIdx?_eq_none_iff] at e2; rw [List.any_eq_true] at e; obtain ⟨x,hx,hp⟩:=e; rw [e2 x hx] at hp; cases hp
  | some i=>simp
theorem any_snoc {α:Type} {p:α->Bool} {l:List α} {i:Nat} (d:α) (hi:i<l.length):(l.take (i+1)).any p=((l.take i).any p||p (l.getD i d)):=by
 rw [List.take_add_one,List.any_append]
 congr 1
 rw [List.getD_eq_getElem?_getD,List.getElem?_eq_getElem hi]
 simp
def isV (n:Str) (t:Term):Bool:=decide (t.1=n)
@[go_sem] def cn1M:MSpec:=⟨[.d termT,.b 9 .str],fun d=>⟨[(0,.box 9 (dA .str d.2.1 .nil))],1,.dat .bool (isV d.2.1 d.1),[]⟩⟩
theorem cn1M_ok:MSpecOk Tryz.prog 66 cn1M:=by
 refine fnM_ok E3_ok cn1M Tryz.func66 rfl (by decide) (N:=8) rfl (res:=[.tmp 3]) rfl (by decide) [] [] [] 100 (by kernel_rfl) ?_
 rintro ⟨t,nm,_⟩ hw hp H hH
 dsimp only [go_sem] at hw hp ⊢
 simp [isV]
@[go_sem] noncomputable def EH1:Env:=(E3).addM 66 cn1M
theorem EH1_ok:EH1.Ok:=(E3_ok).addM cn1M_ok
@[go_sem] def ixTM:MSpec:=⟨[.d (.slice termT),.c 66 9 .str],fun d=>⟨[(0,.box 9 (dA .str d.2.1 .nil))],1,.dat (.int .i64) (idx (isV d.2.1) d.1),[List.length d.1<=2000000]⟩⟩
theorem ixTM_ok:MSpecOk Tryz.prog 77 ixTM:=by
 refine fnM_ok EH1_ok ixTM Tryz.func77 rfl (by decide) (N:=19) rfl (res:=[.tmp 4]) rfl (by decide) [(4,[(16,.ow)])] [] [] 100 (by kernel_rfl) ?_
 rintro ⟨l,nm,_⟩ hw hp H hH
 dsimp only [go_sem] at hw hp ⊢
 obtain ⟨hp,-⟩:=hp
 change List Term at l
 change List UInt8 at nm
 refine hH.loop (fun i:Nat=>⟨[(8,.dat (.int .i64) (i:Int)),(7,.dat (.int .i64) (List.length l:Int)),(0,.dat (.slice termT) l),(1,.clo 66 (.cons (.ref 0 0) .nil))],[(0,.box 9 (.cons (.dat .str nm) .nil))],1⟩) (fun i=>i<=l.length/\(l.take i).any (isV nm)=false) (fun i=>l.length-i) 0 1 ⟨Nat.zero_le _,rfl⟩ ?_ ?_
 ·dsimp only [go_sem]
  simp
 ·rintro i ⟨hi,ha⟩ R hm
  refine hH.run 100 _ _ ?_
  dsimp only [go_sem]
  refine ⟨fun d=>?_,fun d=>?_⟩<;>simp only [decide_eq_true_eq,decide_eq_false_iff_not] at d
  ·have d:i<l.length:=by omega
   rw [Int.toNat_natCast]
   refine ⟨⟨Int.natCast_nonneg _,by omega⟩,fun e=>?_,fun e=>⟨by rw [inR_i64]; omega,?_⟩⟩
   ·simp [idx_at _ d e ha]
   ·refine hm _ (i+1) 1 ⟨d,?_⟩ (by omega) ?_
    ·rw [any_snoc _ d,ha,e]; rfl
    ·dsimp only [go_sem]
     simp
  ·have d:i=l.length:=by omega
   rw [d,List.take_length] at ha
   simp [idx_none ha]
@[go_sem] def cfTM:MSpec:=⟨[.d (.slice termT),.c 66 9 .str],fun d=>⟨[(0,.box 9 (dA .str d.2.1 .nil))],1,.dat .bool (List.any d.1 (isV d.2.1)),[List.length d.1<=2000000]⟩⟩
@[go_sem] noncomputable def EH2:Env:=(EH1).addM 77 ixTM
theorem EH2_ok:EH2.Ok:=(EH1_ok).addM ixTM_ok
theorem cfTM_ok:MSpecOk Tryz.prog 65 cfTM:=by
 refine fnM_ok EH2_ok cfTM Tryz.func65 rfl (by decide) (N:=9) rfl (res:=[.tmp 4]) rfl (by decide) [(1,[(7,.ow)])] [] [] 100 (by kernel_rfl) ?_
 rintro ⟨l,nm,_⟩ hw hp H hH
 dsimp only [go_sem] at hw hp ⊢
 obtain ⟨hp,-⟩:=hp
 refine ⟨hp,?_⟩
 simp [idx_nn]
@[go_sem] noncomputable def EH3:Env:=(EH2).addM 65 cfTM
theorem EH3_ok:EH3.Ok:=(EH2_ok).addM cfTM_ok
def hasV (n:Str) (a:Atom):Bool:=a.2.2.any (isV n)
@[go_sem] def hcnS:Spec:=⟨[atomT,.str],fun d=>(.dat .bool (hasV d.2.1 d.1),[List.length d.1.2.2<=2000000])⟩
theorem hcn_ok:SpecOk Tryz.prog 49 hcnS:=by
 refine fn_ok EH3_ok hcnS Tryz.func49 rfl (by decide) (N:=9) rfl (res:=[.tmp 4]) rfl (by decide) [(1,[(8,.ow)])] [] [] 100 (by kernel_rfl) ?_
 rintro ⟨a,nm,_⟩ hw hp
 refine ⟨rfl,fun H hH=>?_⟩
 dsimp only [go_sem] at hw hp ⊢
 obtain ⟨hp,-⟩:=hp
 exact ⟨hp,rfl,trivial⟩
@[go_sem] def sixS:Spec:=⟨[.slice .str,.str],fun d=>(.dat (.int .i64) (idx (fun x=>decide (d.2.1=x)) d.1),[List.length d.1<=2000000])⟩
theorem six_ok:SpecOk Tryz.prog 28 sixS:=by
 refine fn_ok EH3_ok sixS Tryz.func28 rfl (by decide) (N:=19) rfl (res:=[.tmp 4]) rfl (by decide) [] [] [] 100 (by kernel_rfl) ?_
 rintro ⟨l,nm,_⟩ hw hp
 refine ⟨rfl,fun H hH=>?_⟩
 dsimp only [go_sem] at hw hp ⊢
 obtain ⟨hp,-⟩:=hp
 change List Str at l
 change Str at nm
 refine hH.loop (fun i:Nat=>⟨[(8,.dat (.int .i64) (i:Int)),(7,.dat (.int .i64) (List.length l:Int)),(0,.dat (.slice .str) l),(1,.dat .str nm)],[],0⟩) (fun i=>i<=l.length/\(l.take i).any (fun x=>decide (nm=x))=false) (fun i=>l.length-i) 0 0 ⟨Nat.zero_le _,rfl⟩ ?_ ?_
 ·dsimp only [go_sem]
  simp
 ·rintro i ⟨hi,ha⟩ R hm
  refine hH.run 100 _ _ ?_
  dsimp only [go_sem]
  refine ⟨fun d=>?_,fun d=>?_⟩<;>simp only [decide_eq_true_eq,decide_eq_false_iff_not] at d
  ·have d:i<l.length:=by omega
   rw [Int.toNat_natCast]
   refine ⟨⟨Int.natCast_nonneg _,by omega⟩,fun e=>?_,fun e=>⟨by rw [inR_i64]; omega,?_⟩⟩
   ·simp [idx_at (p:=fun x=>decide (nm=x)) _ d e ha]
   ·refine hm _ (i+1) 0 ⟨d,?_⟩ (by omega) ?_
    ·rw [any_snoc _ d,ha,e]; rfl
    ·dsimp only [go_sem]
     simp
  ·have d:i=l.length:=by omega
   rw [d,List.take_length] at ha
   simp [idx_none ha]
@[go_sem] noncomputable def EH4:Env:=((EH3).add 49 hcnS).add 28 sixS
theorem EH4_ok:EH4.Ok:=((EH3_ok).add hcn_ok).add six_ok
@[go_sem] def scnS:Spec:=⟨[.slice .str,.str],fun d=>(.dat .bool (List.any d.1 (fun x=>decide (d.2.1=x))),[List.length d.1<=2000000])⟩
theorem scn_ok:SpecOk Tryz.prog 16 scnS:=by
 refine fn_ok EH4_ok scnS Tryz.func16 rfl (by decide) (N:=9) rfl (res:=[.tmp 4]) rfl (by decide) [] [] [] 100 (by kernel_rfl) ?_
 rintro ⟨l,nm,_⟩ hw hp
 refine ⟨rfl,fun H hH=>?_⟩
 dsimp only [go_sem] at hw hp ⊢
 obtain ⟨hp,-⟩:=hp
 refine ⟨hp,?_⟩
 simp [idx_nn]
@[go_sem] noncomputable def EH5:Env:=(EH4).add 16 scnS
theorem EH5_ok:EH5.Ok:=(EH4_ok).add scn_ok
def occ (l:List Atom) (n:Str) (k:Nat):List Int:=((List.range k).filter fun i=>hasV n (l.getD i ([],false,[]))).map fun i:Nat=>(i:Int)
theorem occ_snoc (l:List Atom) (n:Str) (k:Nat):occ l n (k+1)=occ l n k++if hasV n (l.getD k ([],false,[])) then [(k:Int)] else []:=by
 unfold occ
 rw [List.range_succ,List.filter_append,List.map_append]
 congr 1
 simp only [List.filter_cons,List.filter_nil]
 split<;>rfl
theorem occ_len (l:List Atom) (n:Str) (k:Nat):(occ l n k).length<=k:=by
 unfold occ
 rw [List.length_map]
 exact Nat.le_trans (List.length_filter_le _ _) (by simp)
def occs (l:List Atom) (n:Str):List Int:=if n=[] then [] else occ l n l.length
def cqP (c:Cq):Prop:=c.1.length<=1000/\(∀ a∈c.1,a.2.2.length<=1000)/\c.2.length<=1000
@[go_sem] def occS:Spec:=⟨[cqT,.str],fun d=>(.dat (.slice (.int .i64)) (occs d.1.1 d.2.1),[cqP d.1])⟩
theorem occ_ok:SpecOk Tryz.prog 29 occS:=by
 refine fn_ok EH5_ok occS Tryz.func29 rfl (by decide) (N:=27) rfl (res:=[.tmp 4]) rfl (by decide) [(8,[(23,.dt)])] [(10,[0])] [] 100 (by kernel_rfl) ?_
 rintro ⟨c,nm,_⟩ hw hp
 refine ⟨rfl,fun H hH=>?_⟩
 dsimp only [go_sem] at hw hp ⊢
 obtain ⟨hp,-⟩:=hp
 obtain ⟨l,cs⟩:=c
 change List Atom at l
 change Str at nm
 obtain ⟨hp1,hp2,hp3⟩:=hp
 change List.length l<=1000 at hp1
 change ∀ a∈l,a.2.2.length<=1000 at hp2
 refine ⟨fun h=>⟨by simp only [decide_eq_true_eq] at h; subst h; rfl,trivial⟩,fun h=>?_⟩
 simp only [decide_eq_false_iff_not] at h
 refine hH.loop (fun i:Nat=>⟨[(13,.dat (.int .i64) (i:Int)),(12,.dat (.int .i64) (List.length l:Int)),(11,.dat (.slice atomT) l),(1,.dat .str nm),(5,.own 1)],[(1,.row 3 (.int .i64) (occ l nm i))],2⟩) (fun i=>i<=l.length) (fun i=>l.length-i) 0 1 (Nat.zero_le _) ?_ ?_
 ·dsimp only [go_sem]
  simp [occ]
 ·intro i hi R hm
  refine hH.run 100 _ _ ?_
  dsimp only [go_sem]
  rw [Int.toNat_natCast]
  refine ⟨fun d=>?_,fun d=>?_⟩<;>simp only [decide_eq_true_eq,decide_eq_false_iff_not] at d
  ·have d:i<l.length:=by omega
   have hs:=occ_snoc l nm i
   have hl:=occ_len l nm i
   refine ⟨⟨Int.natCast_nonneg _,Int.ofNat_lt.2 d⟩,Nat.le_trans (hp2 _ (getDm _ d)) (by decide),fun e=>⟨by change (List.length (occ l nm i)+1)*8<=140737488355328; omega,rfl,by rw [inR_i64]; omega,hm _ (i+1) 2 d (by omega) ?_⟩,fun e=>⟨by rw [inR_i64]; omega,hm _ (i+1) 2 d (by omega) ?_⟩⟩
   ·have e:hasV nm (l.getD i ([],false,[]))=true:=e
    rw [e] at hs
    dsimp only [go_sem]
    simp [hs]
   ·have e:hasV nm (l.getD i ([],false,[]))=false:=e
    rw [e] at hs
    dsimp only [go_sem]
    simp [hs]
  ·have d:i=l.length:=by omega
   subst d
   simp [occs,h]
end Go.Proofs.YtdobkkhncfifeabGreat.Gx
namespace Go.Proofs.YtdobkkhncfifeabGreat.Gx
open Go Go.RowKit Tw B Nt
set_option linter.unusedVariables false
set_option linter.unusedSimpArgs false
set_option maxHeartbeats 4000000
set_option maxRecDepth 20000
def atT (a:Atom):List Term:=a.2.2
def cpT (k:Cmp):List Term:=[k.2.1,k.2.2]
theorem fm_snoc {α β:Type} (f:α->List β) {l:List α} {i:Nat} (d:α) (h:i<l.length):(l.take (i+1)).flatMap f=(l.take i).flatMap f++f (l.getD i d):=by
 rw [take_snoc d h,List.flatMap_append,List.flatMap_singleton]
theorem fm_len {α β:Type} (f:α->List β) (b:Nat) {l:List α} (h:∀ x∈l,(f x).length<=b):(l.flatMap f).length<=l.length*b:=by
 induction l with
 | nil=>simp
 | cons x l ih =>
  rw [List.flatMap_cons,List.length_append,List.length_cons,Nat.succ_mul]
  have:=ih fun y hy=>h y (List.mem_cons_of_mem _ hy)
  have:=h x (List.mem_cons_self ..)
  omega
def trm (c:Cq):List Term:=c.1.flatMap atT++c.2.flatMap cpT
theorem trm_len {c:Cq} (h:cqP c):(trm c).length<=1002000:=by
 obtain ⟨h1,h2,h3⟩:=h
 have a:=fm_len atT 1000 h2
 have b:=fm_len cpT 2 (l:=c.2) fun _ _=>Nat.le_refl _
 unfold trm
 rw [List.length_append]
 have:c.1.length*1000<=1000*1000:=Nat.mul_le_mul_right _ h1
 omega
@[go_sem] def trmS:Spec:=⟨[cqT],fun d=>(.dat (.slice termT) (trm d.1),[cqP d.1])⟩
theorem trm_ok:SpecOk Tryz.prog 27 trmS:=by
 refine fn_ok EH5_ok trmS Tryz.func27 rfl (by decide) (N:=36) rfl (res:=[.tmp 2]) rfl (by decide) [(10,[(32,.dt)])] [(12,[0])] [] 100 (by kernel_rfl) ?_
 rintro ⟨c,_⟩ hw hp
 refine ⟨rfl,fun H hH=>?_⟩
 dsimp only [go_sem] at hw hp ⊢
 obtain ⟨hp,-⟩:=hp
 obtain ⟨l,cs⟩:=c
 change List Atom at l
 change List Cmp at cs
 have hp0:=hp
 obtain ⟨hp1,hp2,hp3⟩:=hp
 change List.length l<=1000 at hp1
 change ∀ a∈l,a.2.2.length<=1000 at hp2
 change List.length cs<=1000 at hp3
 have ft:(l.take l.length).flatMap atT=l.flatMap atT:=by rw [List.take_length]
 have ln:∀ i,i<=l.length->((l.take i).flatMap atT).length<=1000000:=fun i hi=>by
  have:=fm_len atT 1000 (l:=l.take i) fun x hx=>hp2 x (List.mem_of_mem_take hx)
  rw [List.length_take] at this
  have:min i l.length*1000<=1000*1000:=Nat.mul_le_mul_right _ (by omega)
  omega
 refine hH.loop (fun i:Nat=>⟨[(11,.dat (.int .i64) (i:Int)),(10,.dat (.int .i64) (List.length l:Int)),(9,.dat (.slice atomT) l),(1,.ref 0 0),(3,.own 1)],[(0,.box 29 (.cons (.dat (.slice atomT) l) (.cons (.dat (.slice cmpT) cs) .nil))),(1,.row 46 termT ((l.take i).flatMap atT))],2⟩) (fun i=>i<=l.length) (fun i=>l.length-i) 0 1 (Nat.zero_le _) ?_ ?_
 ·dsimp only [go_sem]
  simp
 ·intro i hi R hm
  refine hH.run 100 _ _ ?_
  dsimp only [go_sem]
  rw [Int.toNat_natCast]
  refine ⟨fun d=>?_,fun d=>?_⟩<;>simp only [decide_eq_true_eq,decide_eq_false_iff_not] at d
  ·have d:i<l.length:=by omega
   have hs:=fm_snoc atT ([],false,[]) d
   have hl:=ln _ hi
   have ha:=hp2 _ (getDm ([],false,[]) d)
   refine ⟨⟨Int.natCast_nonneg _,Int.ofNat_lt.2 d⟩,?_,rfl,by rw [inR_i64]; omega,hm _ (i+1) 2 d (by omega) ?_⟩
   ·change (((l.take i).flatMap atT).length+(l.getD i ([],false,[])).2.2.length)*48<=_
    have h2:=ln _ d
    rw [hs,List.length_append] at h2
    change ((l.take i).flatMap atT).length+(l.getD i ([],false,[])).2.2.length<=_ at h2
    omega
   ·dsimp only [go_sem]
    simp only [hs]
    and_intros<;>first|trivial|rfl|omega
  ·have d:i=l.length:=by omega
   subst d
   rw [ft]
   have hl:=ln _ (Nat.le_refl _)
   rw [ft] at hl
   clear hm
   refine HOk.loop (by assumption) (fun k:Nat=>⟨[(23,.dat (.int .i64) (k:Int)),(22,.dat (.int .i64) (List.length cs:Int)),(21,.dat (.slice cmpT) cs),(3,.own 1)],[(1,.row 46 termT (l.flatMap atT++(cs.take k).flatMap cpT))],2⟩) (fun k=>k<=cs.length) (fun k=>cs.length-k) 0 2 (Nat.zero_le _) ?_ ?_
   ·dsimp only [go_sem]
    simp
   ·intro k hk R2 hm
    refine hH.run 100 _ _ ?_
    dsimp only [go_sem]
    rw [Int.toNat_natCast]
    refine ⟨fun d=>?_,fun d=>?_⟩<;>simp only [decide_eq_true_eq,decide_eq_false_iff_not] at d
    ·have d:k<cs.length:=by omega
     have hs:=fm_snoc cpT (0,([],0,0,[]),[],0,0,[]) d
     have hl2:=fm_len cpT 2 (l:=cs.take k) fun _ _=>Nat.le_refl _
     rw [List.length_take] at hl2
     refine ⟨⟨Int.natCast_nonneg _,Int.ofNat_lt.2 d⟩,?_,rfl,by rw [inR_i64]; omega,hm _ (k+1) 2 d (by omega) ?_⟩
     ·change ((l.flatMap atT++(cs.take k).flatMap cpT).length+2)*48<=_
      rw [List.length_append]
      have:min k cs.length<=1000:=by omega
      omega
     ·dsimp only [go_sem]
      simp only [hs,<-List.append_assoc]
      and_intros<;>first|trivial|rfl|omega
    ·have d:k=cs.length:=by omega
     subst d
     rw [List.take_length]
     exact ⟨rfl,trivial⟩
def vstep (n:List Str) (t:Term):List Str:=if t.1≠[]/\¬t.1∈n then n++[t.1] else n
def vrs (l:List Term):List Str:=l.foldl vstep []
theorem vrs_len (l:List Term):(vrs l).length<=l.length:=by
 suffices h:∀ (l:List Term) (n:List Str),(l.foldl vstep n).length<=n.length+l.length from by
  have:=h l []
  rw [List.length_nil,Nat.zero_add] at this
  exact this
 intro l
 induction l with
 | nil=>intro n; exact Nat.le_refl _
 | cons t l ih =>
  intro n
  rw [List.foldl_cons,List.length_cons]
  have:=ih (vstep n t)
  have h2:(vstep n t).length<=n.length+1:=by
   unfold vstep
   split
   ·rw [List.length_append,List.length_singleton]; exact Nat.le_refl _
   ·omega
  omega
theorem vrs_snoc {l:List Term} {i:Nat} (d:Term) (h:i<l.length):vrs (l.take (i+1))=vstep (vrs (l.take i)) (l.getD i d):=by
 unfold vrs
 rw [take_snoc d h,List.foldl_append]
 rfl
@[go_sem] noncomputable def EH6:Env:=(EH5).add 27 trmS
theorem EH6_ok:EH6.Ok:=(EH5_ok).add trm_ok
@[go_sem] def varS:Spec:=⟨[cqT],fun d=>(.dat (.slice .str) (vrs (trm d.1)),[cqP d.1])⟩
theorem var_ok:SpecOk Tryz.prog 15 varS:=by
 refine fn_ok EH6_ok varS Tryz.func15 rfl (by decide) (N:=30) rfl (res:=[.tmp 2]) rfl (by decide) [(6,[(26,.dt)])] [(8,[0])] [] 100 (by kernel_rfl) ?_
 rintro ⟨c,_⟩ hw hp
 refine ⟨rfl,fun H hH=>?_⟩
 dsimp only [go_sem] at hw hp ⊢
 obtain ⟨hp,-⟩:=hp
 refine ⟨hp,?_⟩
 have hln:=trm_len hp
 generalize e:trm c=l at hln ⊢
 change List Term at l
 clear hw
 refine hH.loop (fun i:Nat=>⟨[(9,.dat (.int .i64) (i:Int)),(8,.dat (.int .i64) (List.length l:Int)),(7,.dat (.slice termT) l),(3,.own 1)],[(1,.row 9 .str (vrs (l.take i)))],2⟩) (fun i=>i<=l.length) (fun i=>l.length-i) 0 1 (Nat.zero_le _) ?_ ?_
 ·dsimp only [go_sem]
  simp [vrs]
 ·intro i hi R hm
  refine hH.run 100 _ _ ?_
  dsimp only [go_sem]
  rw [Int.toNat_natCast]
  refine ⟨fun d=>?_,fun d=>?_⟩<;>simp only [decide_eq_true_eq,decide_eq_false_iff_not] at d
  ·have d:i<l.length:=by omega
   have hs:=vrs_snoc (zd termT) d
   have hl2:(vrs (l.take i)).length<=1002000:=by
    have:=vrs_len (l.take i)
    rw [List.length_take] at this
    omega
   refine ⟨⟨Int.natCast_nonneg _,Int.ofNat_lt.2 d⟩,fun h=>h,fun h=>h,fun h=>h,fun _=>by omega,fun h=>h,?_⟩
   generalize l.getD i (zd termT)=t at hs ⊢
   change Term at t
   refine ⟨fun h=>h,fun h=>?_,fun h=>?_⟩
   ·simp only [Bool.and_eq_true,decide_eq_true_eq,Bool.not_eq_true',List.any_eq_false] at h
    have hv:vrs (l.take (i+1))=vrs (l.take i)++[t.1]:=by
     rw [hs]; unfold vstep; rw [if_pos ⟨h.1,fun hm=>h.2 _ hm rfl⟩]
    refine ⟨?_,rfl,by rw [inR_i64]; omega,hm _ (i+1) 2 d (by omega) ?_⟩
    ·change ((vrs (l.take i)).length+1)*16<=_
     omega
    ·dsimp only [go_sem]
     simp only [hv]
     and_intros<;>first|trivial|rfl|omega
   ·simp only [Bool.and_eq_false_iff,decide_eq_false_iff_not,Bool.not_eq_false',List.any_eq_true,decide_eq_true_eq] at h
    have hv:vrs (l.take (i+1))=vrs (l.take i):=by
     rw [hs]; unfold vstep; rw [if_neg]
     rintro ⟨h1,h2⟩
     rcases h with h|⟨x,hx,h⟩
     ·exact h h1
     ·exact h2 (h▸hx)
    refine ⟨by rw [inR_i64]; omega,hm _ (i+1) 2 d (by omega) ?_⟩
    dsimp only [go_sem]
    simp only [hv]
    and_intros<;>first|trivial|rfl|omega
  ·have d:i=l.length:=by omega
   subst d
   rw [List.take_length]
   exact ⟨by rw [e],trivial⟩
end Go.Proofs.YtdobkkhncfifeabGreat.Gx
namespace Go.Proofs.YtdobkkhncfifeabGreat.Gx
open Go Go.RowKit Tw B Nt
set_option linter.unusedVariables false
set_option linter.unusedSimpArgs false
set_option maxHeartbeats 4000000
set_option maxRecDepth 20000
@[go_sem] def clTS:Spec:=⟨[.slice termT],fun d=>(.dat (.slice termT) d.1,[List.length d.1<=1000])⟩
theorem clT_ok:SpecOk Tryz.prog 55 clTS:=by
 refine fn_ok E3_ok clTS Tryz.func55 rfl (by decide) (N:=8) rfl (res:=[.tmp 2]) rfl (by decide) [(3,[(7,.fz 0)])] [] [] 100 (by kernel_rfl) ?_
 rintro ⟨l,_⟩ hw hp
 refine ⟨rfl,fun H hH=>?_⟩
 dsimp only [go_sem] at hw hp ⊢
 obtain ⟨hp,-⟩:=hp
 refine ⟨fun h=>⟨h.symm,trivial⟩,?_,rfl,rfl,trivial⟩
 change (0+List.length l)*48<=_
 change List.length l<=1000 at hp
 omega
@[go_sem] def clCS:Spec:=⟨[.slice cmpT],fun d=>(.dat (.slice cmpT) d.1,[List.length d.1<=1000])⟩
theorem clC_ok:SpecOk Tryz.prog 54 clCS:=by
 refine fn_ok E3_ok clCS Tryz.func54 rfl (by decide) (N:=8) rfl (res:=[.tmp 2]) rfl (by decide) [(3,[(7,.fz 0)])] [] [] 100 (by kernel_rfl) ?_
 rintro ⟨l,_⟩ hw hp
 refine ⟨rfl,fun H hH=>?_⟩
 dsimp only [go_sem] at hw hp ⊢
 obtain ⟨hp,-⟩:=hp
 refine ⟨fun h=>⟨h.symm,trivial⟩,?_,rfl,rfl,trivial⟩
 change (0+List.length l)*104<=_
 change List.length l<=1000 at hp
 omega
@[go_sem] noncomputable def EH7:Env:=(((EH6).add 15 varS).add 55 clTS).add 54 clCS
theorem EH7_ok:EH7.Ok:=(((EH6_ok).add var_ok).add clT_ok).add clC_ok
@[go_sem] def cpyS:Spec:=⟨[cqT],fun d=>(.dat cqT d.1,[cqP d.1])⟩
theorem cpy_ok:SpecOk Tryz.prog 37 cpyS:=by
 refine fn_ok EH7_ok cpyS Tryz.func37 rfl (by decide) (N:=29) rfl (res:=[.cell 2 29]) rfl (by decide) [(1,[(9,.ag)]),(6,[(24,.dt)])] [] [] 100 (by kernel_rfl) ?_
 rintro ⟨c,_⟩ hw hp
 refine ⟨rfl,fun H hH=>?_⟩
 dsimp only [go_sem] at hw hp ⊢
 obtain ⟨hp,-⟩:=hp
 obtain ⟨l,cs⟩:=c
 change List Atom at l
 change List Cmp at cs
 obtain ⟨hp1,hp2,hp3⟩:=hp
 change List.length l<=1000 at hp1
 change ∀ a∈l,a.2.2.length<=1000 at hp2
 refine ⟨hp3,?_⟩
 clear hw
 refine hH.loop (fun i:Nat=>⟨[(13,.dat (.int .i64) (i:Int)),(12,.dat (.int .i64) (List.length l:Int)),(11,.dat (.slice atomT) l),(3,.ref 2 0),(2,.ref 1 0)],[(1,.box 29 (zA cqT .nil)),(2,.box 29 (.cons (.own 3) (.cons (.dat (.slice cmpT) cs) .nil))),(3,.row 42 atomT (l.take i))],4⟩) (fun i=>i<=l.length) (fun i=>l.length-i) 0 3 (Nat.zero_le _) ?_ ?_
 ·dsimp only [go_sem]
  and_intros<;>first|trivial|rfl|omega
 ·intro i hi R hm
  refine hH.run 100 _ _ ?_
  dsimp only [go_sem]
  rw [Int.toNat_natCast]
  refine ⟨fun d=>?_,fun d=>?_⟩<;>simp only [decide_eq_true_eq,decide_eq_false_iff_not] at d
  ·have d:i<l.length:=by omega
   have hs:=take_snoc (zd atomT) d
   refine ⟨⟨Int.natCast_nonneg _,Int.ofNat_lt.2 d⟩,hp2 _ (getDm _ d),?_,rfl,by rw [inR_i64]; omega,hm _ (i+1) 4 d (by omega) ?_⟩
   ·change ((l.take i).length+1)*48<=_
    rw [List.length_take]; omega
   ·dsimp only [go_sem]
    simp only [hs]
    and_intros<;>first|trivial|rfl|omega
  ·have d:i=l.length:=by omega
   subst d
   rw [List.take_length]
   exact ⟨rfl,trivial⟩
def fi (p:Nat->Bool):Nat->Nat->Int
 | 0,_ => -1
 | n+1,k=>if p k then (k:Int) else fi p n (k+1)
def ovp (a b:List Bool) (k:Nat):Bool:=a.getD k false&&b.getD k false
def ovl (a b:List Bool) (k:Nat):Bool:=a.getD k false&&!b.getD k false
def ovr (a b:List Bool) (k:Nat):Bool:=!a.getD k false&&b.getD k false
@[go_sem] def ovS:Spec:=⟨[.slice .bool,.slice .bool],fun d=>(.tup (.cons (.dat (.int .i64) (fi (ovl d.1 d.2.1) (List.length d.1) 0)) (.cons (.dat (.int .i64) (fi (ovp d.1 d.2.1) (List.length d.1) 0)) (.cons (.dat (.int .i64) (fi (ovr d.1 d.2.1) (List.length d.1) 0)) .nil))),[List.length d.1=List.length d.2.1/\List.length d.1<=1000])⟩
theorem ov_ok:SpecOk Tryz.prog 36 ovS:=by
 refine fn_ok E3_ok ovS Tryz.func36 rfl (by decide) (N:=42) rfl (res:=[.tmp 4,.tmp 5,.tmp 6]) rfl (by decide) [] [] [] 100 (by kernel_rfl) ?_
 rintro ⟨a,b,_⟩ hw hp
 refine ⟨rfl,fun H hH=>?_⟩
 dsimp only [go_sem] at hw hp ⊢
 obtain ⟨hp,-⟩:=hp
 obtain ⟨hp1,hp2⟩:=hp
 change List Bool at a b
 change a.length=b.length at hp1
 change a.length<=1000 at hp2
 clear hw
 refine ⟨by rw [inR_i64]; change _/\(a.length:Int)-1<=_; omega,?_⟩
 refine hH.loop (fun i:Nat=>⟨[(7,.dat (.int .i64) ((a.length:Int)-1-i)),(0,.dat (.slice .bool) a),(1,.dat (.slice .bool) b),(4,.dat (.int .i64) (fi (ovl a b) i (a.length-i))),(5,.dat (.int .i64) (fi (ovp a b) i (a.length-i))),(6,.dat (.int .i64) (fi (ovr a b) i (a.length-i)))],[],0⟩) (fun i=>i<=a.length) (fun i=>a.length-i) 0 0 (Nat.zero_le _) ?_ ?_
 ·dsimp only [go_sem]
  simp [fi]
 ·intro i hi R hm
  refine hH.run 100 _ _ ?_
  dsimp only [go_sem]
  refine ⟨fun d=>?_,fun d=>?_⟩<;>simp only [decide_eq_true_eq,decide_eq_false_iff_not] at d
  ·have d:i<a.length:=by omega
   obtain ⟨k,hk⟩:∃ k,k+1+i=a.length:=⟨a.length-1-i,by omega⟩
   have ek:(a.length:Int)-1-(i:Int)=(k:Int):=by omega
   have e1:a.length-i=k+1:=by omega
   have e2:a.length-(i+1)=k:=by omega
   have hkn:∀ p,fi p (i+1) k=if p k then (k:Int) else fi p i (k+1):=fun p=>rfl
   have hkk:(k:Int)-1=(a.length:Int)-1-((i+1:Nat):Int):=by omega
   simp only [ek,Int.toNat_natCast,e1]
   have hki:inR .i64 ((k:Int)-1):=by rw [inR_i64]; omega
   have hka:(0:Int)<=(k:Int)/\(k:Int)<(a.length:Int):=by omega
   have hkb:(0:Int)<=(k:Int)/\(k:Int)<(b.length:Int):=by omega
   have hx:∀ l:List Bool,l.getD k (zd .bool)=l.getD k false:=fun _=>rfl
   simp only [hx]
   have hlp:∀ x y:Bool,a.getD k false=x->b.getD k false=y->ovp a b k=(x&&y)/\ovl a b k=(x&&!y)/\ovr a b k=(!x&&y):=fun x y h1 h2=>by unfold ovp ovl ovr; rw [h1,h2]; exact ⟨rfl,rfl,rfl⟩
   refine ⟨hka,fun h=>h,fun h=>h,fun _=>hkb,fun h=>h,fun h=>h,fun h=>?_,fun h=>?_⟩
   ·simp only [Bool.and_eq_true] at h
    obtain ⟨q1,q2,q3⟩:=hlp true true h.1 h.2
    refine ⟨hki,hm _ (i+1) 0 d (by omega) ?_⟩
    dsimp only [go_sem]
    rw [e2,hkn,hkn,hkn,q1,q2,q3]
    and_intros<;>first|trivial|rfl|exact hkk
   ·simp only [Bool.and_eq_false_iff] at h
    refine ⟨hka,fun h1=>?_,fun h1=>⟨hkb,fun h2=>?_,fun h2=>?_⟩⟩
    ·have h2:b.getD k false=false:=by rcases h with h|h; (rw [h1] at h; cases h); exact h
     obtain ⟨q1,q2,q3⟩:=hlp true false h1 h2
     refine ⟨hki,hm _ (i+1) 0 d (by omega) ?_⟩
     dsimp only [go_sem]
     rw [e2,hkn,hkn,hkn,q1,q2,q3]
     and_intros<;>first|trivial|rfl|exact hkk
    ·obtain ⟨q1,q2,q3⟩:=hlp false true h1 h2
     refine ⟨hki,hm _ (i+1) 0 d (by omega) ?_⟩
     dsimp only [go_sem]
     rw [e2,hkn,hkn,hkn,q1,q2,q3]
     and_intros<;>first|trivial|rfl|exact hkk
    ·obtain ⟨q1,q2,q3⟩:=hlp false false h1 h2
     refine ⟨hki,hm _ (i+1) 0 d (by omega) ?_⟩
     dsimp only [go_sem]
     rw [e2,hkn,hkn,hkn,q1,q2,q3]
     and_intros<;>first|trivial|rfl|exact hkk
  ·have d:i=a.length:=by omega
   subst d
   rw [Nat.sub_self]
   and_intros<;>first|trivial|rfl
end Go.Proofs.YtdobkkhncfifeabGreat.Gx
namespace Go.Proofs.YtdobkkhncfifeabGreat.Gx
open Go Go.RowKit Tw B Nt
set_option linter.unusedVariables false
set_option linter.unusedSimpArgs false
set_option maxHeartbeats 4000000
set_option maxRecDepth 20000
@[reducible,go_sem] def qryT:Ty:=.pair (.slice .str) (.slice cqT)
@[reducible,go_sem] def witT:Ty:=.pair qryT (.pair .str (.pair .str (.pair (.int .i64) (.pair (.int .i64) (.int .i64)))))
abbrev Qry:=List Str×List Cq
abbrev Wit:=Qry×Str×Str×Int×Int×Int
def stv (l:List Atom) (n:Str):List Bool:=l.map (hasV n)
def trp (a b:List Bool):Int×Int×Int:=(fi (ovl a b) a.length 0,fi (ovp a b) a.length 0,fi (ovr a b) a.length 0)
def nneg (t:Int×Int×Int):Bool:=decide (0<=t.1)&&decide (0<=t.2.1)&&decide (0<=t.2.2)
def nmv (c:Cq) (i:Nat):Str:=(vrs (trm c)).getD i []
def trv (c:Cq) (i j:Nat):Int×Int×Int:=trp (stv c.1 (nmv c i)) (stv c.1 (nmv c j))
def fvJ (p:Nat->Bool):Nat->Nat->Option Nat
 | 0,_=>none
 | m+1,j=>if p j then some j else fvJ p m (j+1)
def fvI (p:Nat->Nat->Bool) (n:Nat):Nat->Nat->Option (Nat×Nat)
 | 0,_=>none
 | m+1,i=>match fvJ (p i) (n-(i+1)) (i+1) with
  | some j=>some (i,j)
  | none=>fvI p n m (i+1)
def vio (c:Cq):Option (Nat×Nat):=fvI (fun i j=>nneg (trv c i j)) (vrs (trm c)).length (vrs (trm c)).length 0
def viR (c:Cq):Option (Nat×Nat)->Wit×Bool
 | some (i,j)=>((([],[c]),nmv c i,nmv c j,trv c i j),true)
 | none=>((([],[]),[],[],0,0,0),false)
def mkb (n:Nat) (os:List Int):List Bool:=os.foldl (fun r a=>r.set a.toNat true) (List.replicate n false)
theorem mkb_snoc {n:Nat} {os:List Int} {k:Nat} (h:k<os.length):mkb n (os.take (k+1))=(mkb n (os.take k)).set (os.getD k 0).toNat true:=by
 unfold mkb
 rw [take_snoc 0 h,List.foldl_append]
 rfl
theorem mkb_len (n:Nat) (os:List Int):(mkb n os).length=n:=by
 suffices h:∀ (os:List Int) (r:List Bool),(os.foldl (fun r a=>r.set a.toNat true) r).length=r.length from by
  unfold mkb; rw [h,List.length_replicate]
 intro os
 induction os with
 | nil=>intro r; rfl
 | cons a os ih=>intro r; rw [List.foldl_cons,ih,List.length_set]
theorem mkb_get (os:List Int):∀ (r:List Bool) (j:Nat),j<r.length->(os.foldl (fun r a=>r.set a.toNat true) r)[j]?=some (r.getD j false||os.any fun a=>decide (a.toNat=j)):=by
 induction os with
 | nil=>intro r j h; rw [List.foldl_nil,List.getD_eq_getElem?_getD,List.getElem?_eq_getElem h]; simp
 | cons a os ih =>
  intro r j h
  rw [List.foldl_cons,ih _ _ (by rw [List.length_set]; exact h),List.any_cons]
  congr 1
  rw [List.getD_eq_getElem?_getD,List.getD_eq_getElem?_getD,List.getElem?_set]
  by_cases e:a.toNat=j
  ·rw [if_pos e,if_pos (by omega)]
   simp [e]
  ·rw [if_neg e]
   simp [e]
theorem mkb_occ (l:List Atom) (n:Str):mkb l.length (occ l n l.length)=stv l n:=by
 apply List.ext_getElem?
 intro j
 rcases Nat.lt_or_ge j l.length with h|h
 ·unfold mkb
  rw [mkb_get _ _ _ (by rw [List.length_replicate]; exact h)]
  unfold stv
  rw [List.getElem?_map,List.getElem?_eq_getElem h,List.getD_eq_getElem?_getD,List.getElem?_replicate,if_pos h]
  simp only [Option.getD_some,Bool.false_or,Option.map_some]
  congr 1
  unfold occ
  rw [List.any_map]
  cases e:hasV n l[j] with
  | true =>
   rw [List.any_eq_true]
   refine ⟨j,List.mem_filter.2 ⟨List.mem_range.2 h,?_⟩,by simp⟩
   rw [List.getD_eq_getElem?_getD,List.getElem?_eq_getElem h]; exact e
  | false =>
   rw [List.any_eq_false]
   intro x hx
   obtain ⟨h1,h2⟩:=List.mem_filter.1 hx
   intro h3
   simp only [Function.comp,Int.toNat_natCast,decide_eq_true_eq] at h3
   subst h3
   rw [List.getD_eq_getElem?_getD,List.getElem?_eq_getElem h] at h2
   rw [Option.getD_some,e] at h2
   cases h2
 ·rw [List.getElem?_eq_none (by rw [mkb_len]; exact h),List.getElem?_eq_none (by unfold stv; rw [List.length_map]; exact h)]
theorem vrs_ne {l:List Term} {x:Str} (h:x∈vrs l):x≠[]:=by
 suffices hs:∀ (l:List Term) (n:List Str),(∀ x∈n,x≠[])->∀ x∈l.foldl vstep n,x≠[] from hs l [] (fun x hx=>by cases hx) x h
 intro l
 induction l with
 | nil=>intro n hn x hx; exact hn x hx
 | cons t l ih =>
  intro n hn
  rw [List.foldl_cons]
  refine ih _ ?_
  unfold vstep
  split
  ·rename_i h
   intro x hx
   rcases List.mem_append.1 hx with hx|hx
   ·exact hn x hx
   ·rw [List.mem_singleton.1 hx]; exact h.1
  ·exact hn
@[go_sem] noncomputable def EH8:Env:=(((EH7).add 29 occS).add 37 cpyS).add 36 ovS
theorem EH8_ok:EH8.Ok:=(((EH7_ok).add occ_ok).add cpy_ok).add ov_ok
@[go_sem] def fvS:Spec:=⟨[cqT],fun d=>(.tup (.cons (.dat witT (viR d.1 (vio d.1)).1) (.cons (.dat .bool (viR d.1 (vio d.1)).2) .nil)),[cqP d.1])⟩
theorem fv_ok:SpecOk Tryz.prog 22 fvS:=by
 refine fn_ok EH8_ok fvS Tryz.func22 rfl (by decide) (N:=105) rfl (res:=[.cell 2 62,.tmp 3]) rfl (by decide) [(2,[(19,.ns)]),(21,[(88,.dt),(1000000,.mx [])])] [(13,[2])] [] 100 (by kernel_rfl) ?_
 rintro ⟨c,_⟩ hw hp
 refine ⟨rfl,fun H hH=>?_⟩
 dsimp only [go_sem] at hw hp ⊢
 obtain ⟨hp,-⟩:=hp
 have hln:=Nat.le_trans (vrs_len (trm c)) (trm_len hp)
 have hnd:∀ i,nmv c i=(vrs (trm c)).getD i []:=fun _=>rfl
 obtain ⟨l,cs⟩:=c
 change List Atom at l
 change List Cmp at cs
 have hp0:=hp
 obtain ⟨hp1,hp2,hp3⟩:=hp
 change List.length l<=1000 at hp1
 refine ⟨hp0,?_⟩
 clear hw
 generalize en:vrs (trm (l,cs))=nm at hln hnd ⊢
 change List Str at nm
 simp only [Int.toNat_natCast]
 refine ⟨⟨Int.natCast_nonneg _,Int.le_refl _,by change (24:Int)*(nm.length:Int)<=_; omega⟩,?_⟩
 have hne:∀ x∈nm,x≠[]:=fun x hx=>vrs_ne (en▸hx)
 refine hH.loop (fun i:Nat=>⟨[(22,.dat (.int .i64) (i:Int)),(21,.dat (.int .i64) (List.length nm:Int)),(20,.dat (.slice .str) nm),(5,.sli 2 nm.length),(4,.dat (.slice .str) nm),(2,.ref 1 0),(1,.ref 0 0)],[(0,.box 29 (.cons (.dat (.slice atomT) l) (.cons (.dat (.slice cmpT) cs) .nil))),(1,.box 62 (zA witT .nil)),(2,.nrow 81 false 3 none),(3,.bag 4 .bool ((nm.take i).map (stv l)++List.replicate (nm.length-i) []))],4⟩) (fun i=>i<=nm.length) (fun i=>nm.length-i) 0 4 (Nat.zero_le _) ?_ ?_
 ·dsimp only [go_sem]
  and_intros<;>first|trivial|rfl|omega
 ·intro i hi R hm
  refine hH.run 100 _ _ ?_
  dsimp only [go_sem]
  simp only [Int.toNat_natCast]
  have hll:((nm.take i).map (stv l)++List.replicate (nm.length-i) []).length=nm.length:=by
   rw [List.length_append,List.length_map,List.length_take,List.length_replicate]; omega
  refine ⟨fun d=>?_,fun d=>?_⟩<;>simp only [decide_eq_true_eq,decide_eq_false_iff_not] at d
  ·have d:i<nm.length:=by omega
   refine ⟨⟨Int.natCast_nonneg _,Int.ofNat_lt.2 d⟩,⟨Int.natCast_nonneg _,Int.le_refl _,by change (1:Int)*(l.length:Int)<=_; omega⟩,⟨Int.natCast_nonneg _,Int.ofNat_lt.2 d⟩,by rw [hll]; exact d,trivial,(fun _ h=>by cases h),hp0,?_⟩
   have hnn:nm.getD i (zd .str)≠[]:=hne _ (getDm _ d)
   have hso:occs l (nm.getD i (zd .str))=occ l (nm.getD i (zd .str)) l.length:=by unfold occs; rw [if_neg hnn]
   have hsm:=mkb_occ l (nm.getD i (zd .str))
   have hsl:=occ_len l (nm.getD i (zd .str)) l.length
   have hsb:∀ x∈occ l (nm.getD i (zd .str)) l.length,0<=x/\x<(l.length:Int):=by
    intro x hx
    unfold occ at hx
    obtain ⟨y,hy,rfl⟩:=List.mem_map.1 hx
    have:=List.mem_range.1 (List.mem_filter.1 hy).1
    exact ⟨Int.natCast_nonneg _,Int.ofNat_lt.2 this⟩
   rw [hso]
   have hts:(nm.take (i+1)).map (stv l)=(nm.take i).map (stv l)++[stv l (nm.getD i (zd .str))]:=by
    rw [take_snoc (zd .str) d,List.map_append]; rfl
   generalize nm.getD i (zd .str)=x at hsm hsl hsb hts ⊢
   generalize occ l x l.length=os at hsm hsl hsb ⊢
   have hst:∀ r,((nm.take i).map (stv l)++List.replicate (nm.length-i) []).set i r=(nm.take i).map (stv l)++r::List.replicate (nm.length-(i+1)) []:=by
    intro r
    obtain ⟨q,hq⟩:∃ q,nm.length-i=q+1:=⟨nm.length-i-1,by omega⟩
    have:nm.length-(i+1)=q:=by omega
    rw [hq,this,List.set_append,if_neg (by rw [List.length_map,List.length_take]; omega),List.length_map,List.length_take,Nat.min_eq_left (by omega),Nat.sub_self,List.replicate_succ,List.set_cons_zero]
   have hgt:∀ r,((nm.take i).map (stv l)++r::List.replicate (nm.length-(i+1)) []).getD i []=r:=by
    intro r
    rw [List.getD_eq_getElem?_getD,List.getElem?_append_right (by rw [List.length_map,List.length_take]; omega),List.length_map,List.length_take,Nat.min_eq_left (by omega),Nat.sub_self]
    rfl
   have hst2:∀ r r',((nm.take i).map (stv l)++r::List.replicate (nm.length-(i+1)) []).set i r'=(nm.take i).map (stv l)++r'::List.replicate (nm.length-(i+1)) []:=by
    intro r r'
    rw [List.set_append,if_neg (by rw [List.length_map,List.length_take]; omega),List.length_map,List.length_take,Nat.min_eq_left (by omega),Nat.sub_self,List.set_cons_zero]
   rw [hst]
   refine HOk.loop (by assumption) (fun k:Nat=>⟨[(38,.dat (.int .i64) (k:Int)),(37,.dat (.int .i64) (os.length:Int)),(36,.dat (.slice (.int .i64)) os),(6,.dat (.int .i64) (i:Int)),(22,.dat (.int .i64) (i:Int)),(21,.dat (.int .i64) (List.length nm:Int)),(20,.dat (.slice .str) nm),(5,.sli 2 nm.length),(4,.dat (.slice .str) nm),(2,.ref 1 0),(1,.ref 0 0)],[(0,.box 29 (.cons (.dat (.slice atomT) l) (.cons (.dat (.slice cmpT) cs) .nil))),(1,.box 62 (zA witT .nil)),(2,.nrow 81 false 5 none),(5,.bag 4 .bool ((nm.take i).map (stv l)++mkb l.length (os.take k)::List.replicate (nm.length-(i+1)) []))],6⟩) (fun k=>k<=os.length) (fun k=>os.length-k) 0 6 (Nat.zero_le _) ?_ ?_
   ·dsimp only [go_sem]
    and_intros<;>first|trivial|rfl|omega
   ·intro k hk R2 hm2
    refine hH.run 100 _ _ ?_
    dsimp only [go_sem]
    simp only [Int.toNat_natCast]
    refine ⟨fun e=>?_,fun e=>?_⟩<;>simp only [decide_eq_true_eq,decide_eq_false_iff_not] at e
    ·have e:k<os.length:=by omega
     have hsn:=mkb_snoc (n:=l.length) e
     have hx:=hsb _ (getDm 0 e)
     have hx':(os.getD k 0).toNat<l.length:=by omega
     have hz:os.getD k (zd (.int .i64))=os.getD k 0:=rfl
     simp only [hgt,hst2,hz,mkb_len,<-hsn]
     refine ⟨⟨Int.natCast_nonneg _,Int.ofNat_lt.2 e⟩,⟨Int.natCast_nonneg _,Int.ofNat_lt.2 d⟩,?_,hx,hx',by rw [inR_i64]; omega,hm2 _ (k+1) 6 e (by omega) ?_⟩
     ·rw [List.length_append,List.length_map,List.length_take,List.length_cons]; omega
     ·dsimp only [go_sem]
      and_intros<;>first|trivial|rfl|omega
    ·have e:k=os.length:=by omega
     subst e
     rw [List.take_length,hsm]
     refine ⟨by rw [inR_i64]; omega,hH.ren [(0,0),(1,1),(2,2),(3,5)] 4 rfl rfl (Nat.zero_le _) rfl ?_⟩
     dsimp only [go_sem]
     refine hm _ (i+1) 4 d (by omega) ?_
     dsimp only [go_sem]
     rw [hts,List.append_assoc]
     and_intros<;>first|trivial|rfl|omega
  ·have d:i=nm.length:=by omega
   subst d
   rw [List.take_length,Nat.sub_self,List.replicate_zero,List.append_nil]
   clear hm hll
   have hvd:vio (l,cs)=fvI (fun i j=>nneg (trv (l,cs) i j)) nm.length nm.length 0:=by unfold vio; rw [en]
   have htv:∀ i j,trv (l,cs) i j=trp (stv l (nm.getD i [])) (stv l (nm.getD j [])):=fun i j=>by unfold trv; rw [hnd,hnd]
   generalize hP:(fun i j=>nneg (trv (l,cs) i j))=P at hvd
   have hPd:∀ i j,P i j=nneg (trp (stv l (nm.getD i [])) (stv l (nm.getD j []))):=fun i j=>by rw [<-hP,<-htv]
   have hlg:∀ i,i<nm.length->(nm.map (stv l)).getD i []=stv l (nm.getD i []):=by
    intro i hi
    rw [List.getD_eq_getElem?_getD,List.getElem?_map,List.getD_eq_getElem?_getD,List.getElem?_eq_getElem hi]; rfl
   have hsl:∀ n,(stv l n).length=l.length:=fun n=>List.length_map _
   refine HOk.loop (by assumption) (fun i:Nat=>⟨[(52,.dat (.int .i64) (i:Int)),(51,.dat (.int .i64) (List.length nm:Int)),(5,.dat (.slice (.slice .bool)) (nm.map (stv l))),(4,.dat (.slice .str) nm),(2,.ref 1 0),(1,.ref 0 0)],[(0,.box 29 (.cons (.dat (.slice atomT) l) (.cons (.dat (.slice cmpT) cs) .nil))),(1,.box 62 (zA witT .nil))],2⟩) (fun i=>i<=nm.length/\vio (l,cs)=fvI P nm.length (nm.length-i) i) (fun i=>nm.length-i) 0 2 ⟨Nat.zero_le _,hvd⟩ ?_ ?_
   ·dsimp only [go_sem]
    and_intros<;>first|trivial|rfl|omega
   ·rintro i ⟨hi,hv⟩ R hm
    refine hH.run 100 _ _ ?_
    dsimp only [go_sem]
    refine ⟨fun d=>?_,fun d=>?_⟩<;>simp only [decide_eq_true_eq,decide_eq_false_iff_not] at d
    ·have d:i<nm.length:=by omega
     obtain ⟨q,hq⟩:∃ q,nm.length-i=q+1:=⟨nm.length-i-1,by omega⟩
     have hq':nm.length-(i+1)=q:=by omega
     rw [hq] at hv
     unfold fvI at hv
     rw [hq'] at hv
     refine ⟨by rw [inR_i64]; omega,?_⟩
     refine HOk.loop (by assumption) (fun j:Nat=>⟨[(11,.dat (.int .i64) ((i+1+j:Nat):Int)),(10,.dat (.int .i64) (i:Int)),(52,.dat (.int .i64) (i:Int)),(51,.dat (.int .i64) (List.length nm:Int)),(5,.dat (.slice (.slice .bool)) (nm.map (stv l))),(4,.dat (.slice .str) nm),(2,.ref 1 0),(1,.ref 0 0)],[(0,.box 29 (.cons (.dat (.slice atomT) l) (.cons (.dat (.slice cmpT) cs) .nil))),(1,.box 62 (zA witT .nil))],2⟩) (fun j=>j<=q/\vio (l,cs)=match fvJ (P i) (q-j) (i+1+j) with|some j=>some (i,j)|none=>fvI P nm.length q (i+1)) (fun j=>q-j) 0 2 ⟨Nat.zero_le _,hv⟩ ?_ ?_
     ·dsimp only [go_sem]
      and_intros<;>first|trivial|rfl|omega
     ·rintro j ⟨hj,hv⟩ R2 hm2
      refine hH.run 100 _ _ ?_
      dsimp only [go_sem]
      simp only [Int.toNat_natCast]
      refine ⟨fun e=>?_,fun e=>?_⟩<;>simp only [decide_eq_true_eq,decide_eq_false_iff_not] at e
      ·have e:j<q:=by omega
       obtain ⟨q2,hq2⟩:∃ q2,q-j=q2+1:=⟨q-j-1,by omega⟩
       have hq2':q-(j+1)=q2:=by omega
       rw [hq2] at hv
       unfold fvJ at hv
       have hij:i+1+j<nm.length:=by omega
       have hA:(nm.map (stv l)).getD i (zd (.slice .bool))=stv l (nm.getD i []):=hlg _ d
       have hB:(nm.map (stv l)).getD (i+1+j) (zd (.slice .bool))=stv l (nm.getD (i+1+j) []):=hlg _ hij
       have hp2:=hPd i (i+1+j)
       have hLA:=hsl (nm.getD i [])
       have hLB:=hsl (nm.getD (i+1+j) [])
       have hR:=htv i (i+1+j)
       have hg1:nm.getD i (zd .str)=nm.getD i []:=rfl
       have hg2:nm.getD (i+1+j) (zd .str)=nm.getD (i+1+j) []:=rfl
       have hn1:=hnd i
       have hn2:=hnd (i+1+j)
       have hlm:(nm.map (stv l)).length=nm.length:=List.length_map _
       simp only [hA,hB,hg1,hg2,hlm]
       generalize stv l (nm.getD i [])=A at hp2 hLA hR ⊢
       generalize stv l (nm.getD (i+1+j) [])=B at hp2 hLB hR ⊢
       unfold trp at hp2 hR
       generalize fi (ovl A B) A.length 0=x at hp2 hR ⊢
       generalize fi (ovp A B) A.length 0=y at hp2 hR ⊢
       generalize fi (ovr A B) A.length 0=z at hp2 hR ⊢
       refine ⟨⟨Int.natCast_nonneg _,Int.ofNat_lt.2 d⟩,⟨Int.natCast_nonneg _,Int.ofNat_lt.2 hij⟩,⟨by rw [hLA,hLB],by rw [hLA]; exact hp1⟩,?_⟩
       refine ⟨fun h=>h,fun h=>h,fun h=>h,fun h=>h,fun h=>?_,fun h=>?_⟩
       ·rw [hp2,show nneg (x,y,z)=true from h,if_pos rfl] at hv
        have ha3:isA3 Tryz.prog 60:=⟨_,_,rfl,rfl,rfl,rfl,rfl⟩
        have hvx:(([],[(l,cs)]),nm.getD i [],nm.getD (i+1+j) [],x,y,z)=((viR (l,cs) (some (i,i+1+j))).1:Wit):=by
         show _=(((([]:List Str),[(l,cs)]),nmv (l,cs) i,nmv (l,cs) (i+1+j),trv (l,cs) i (i+1+j)):Wit)
         rw [hn1,hn2,hR]
        refine ⟨hp0,⟨Int.natCast_nonneg _,Int.ofNat_lt.2 d⟩,⟨Int.natCast_nonneg _,Int.ofNat_lt.2 hij⟩,ha3,trivial,trivial,?_,trivial,?_,trivial⟩
        ·rw [hv]; exact hvx
        ·rw [hv]; rfl
       ·rw [hp2,show nneg (x,y,z)=false from h,if_neg (by decide)] at hv
        refine ⟨by rw [inR_i64]; omega,hm2 _ (j+1) 2 ⟨e,?_⟩ (by omega) ?_⟩
        ·rw [hq2',hv,Nat.add_assoc (i+1)]
        ·dsimp only [go_sem]
         and_intros<;>first|trivial|rfl|omega
      ·have e:j=q:=by omega
       subst e
       rw [Nat.sub_self] at hv
       refine ⟨by rw [inR_i64]; change _/\(i:Int)+1<=_; omega,hm _ (i+1) 2 ⟨d,by rw [hq']; exact hv⟩ (by omega) ?_⟩
       dsimp only [go_sem]
       and_intros<;>first|trivial|rfl|omega
    ·have d:i=nm.length:=by omega
     subst d
     rw [Nat.sub_self] at hv
     have hv:vio (l,cs)=none:=hv
     rw [hv]
     and_intros<;>first|trivial|rfl
end Go.Proofs.YtdobkkhncfifeabGreat.Gx
namespace Go.Proofs.YtdobkkhncfifeabGreat.Gx
open Go Go.RowKit Tw B Nt
set_option linter.unusedVariables false
set_option linter.unusedSimpArgs false
set_option maxHeartbeats 4000000
set_option maxRecDepth 20000
def wfP (p:List Int):Prop:=∀ k,k<p.length->0<=p.getD k 0/\p.getD k 0<=(k:Int)
def fnd:Nat->List Int->Int->List Int×Int
 | 0,p,i=>(p,i)
 | n+1,p,i=>if p.getD i.toNat 0=i then (p,i) else fnd n (p.set i.toNat (p.getD (p.getD i.toNat 0).toNat 0)) (p.getD (p.getD i.toNat 0).toNat 0)
def find (p:List Int) (i:Int):List Int×Int:=fnd (i.toNat+1) p i
theorem getD_set' {p:List Int} {i k:Nat} {b:Int} (hi:i<p.length):(p.set i b).getD k 0=if i=k then b else p.getD k 0:=by
 rw [List.getD_eq_getElem?_getD,List.getElem?_set]
 split
 ·simp [hi]
 ·rw [List.getD_eq_getElem?_getD]
theorem wfP_set {p:List Int} {i:Nat} {b:Int} (h:wfP p) (hi:i<p.length) (h0:0<=b) (h1:b<=(i:Int)):wfP (p.set i b):=by
 intro k hk
 rw [List.length_set] at hk
 rw [getD_set' hi]
 split
 ·subst_vars; exact ⟨h0,h1⟩
 ·exact h k hk
theorem stepP {p:List Int} {i:Int} (h:wfP p) (h0:0<=i) (h1:i<(p.length:Int)) (hne:p.getD i.toNat 0≠i) :
    0<=p.getD i.toNat 0/\p.getD i.toNat 0<i/\0<=p.getD (p.getD i.toNat 0).toNat 0/\p.getD (p.getD i.toNat 0).toNat 0<i:=by
 have a:=h i.toNat (by omega)
 have b:=h (p.getD i.toNat 0).toNat (by omega)
 omega
@[go_sem] def fndM:MSpec:=⟨[.d (.int .i64),.br 22 3 (.int .i64)],fun d=>⟨[(0,.box 22 (.cons (.own 1) .nil)),(1,.row 3 (.int .i64) (find d.2.1 d.1).1)],2,.dat (.int .i64) (find d.2.1 d.1).2,[wfP d.2.1/\0<=d.1/\d.1<(List.length d.2.1:Int)]⟩⟩
theorem fndM_ok:MSpecOk Tryz.prog 38 fndM:=by
 refine fnM_ok E3_ok fndM Tryz.func38 rfl (by decide) (N:=25) rfl (res:=[.tmp 3]) rfl (by decide) [] [] [] 100 (by kernel_rfl) ?_
 rintro ⟨(i:Int),p,_⟩ hw hp H hH
 dsimp only [go_sem] at hw hp ⊢
 obtain ⟨hp,-⟩:=hp
 change List Int at p
 obtain ⟨hp1,hp2,hp3⟩:=hp
 refine hH.loop (fun x:Nat×List Int×Int=>⟨[(0,.dat (.int .i64) x.2.2),(1,.ref 0 0),(3,.dat (.int .i64) (0:Int))],[(0,.box 22 (.cons (.own 1) .nil)),(1,.row 3 (.int .i64) x.2.1)],2⟩) (fun x=>wfP x.2.1/\x.2.1.length=p.length/\0<=x.2.2/\x.2.2<(p.length:Int)/\x.2.2.toNat<x.1/\fnd x.1 x.2.1 x.2.2=find p i) (fun x=>x.2.2.toNat) (i.toNat+1,p,i) 2 ⟨hp1,rfl,hp2,hp3,Nat.lt_succ_self _,rfl⟩ ?_ ?_
 ·dsimp only [go_sem]
  and_intros<;>first|trivial|rfl|omega
 ·rintro ⟨n,q,j⟩ ⟨h1,h2,h3,h4,h5,h6⟩ R hm
  dsimp only at h1 h2 h3 h4 h5 h6
  refine hH.run 100 _ _ ?_
  dsimp only [go_sem]
  have hz:zd (Ty.int .i64)=(0:Int):=rfl
  obtain ⟨n,rfl⟩:∃ m,n=m+1:=⟨n-1,by omega⟩
  simp only [hz]
  have hb:(0:Int)<=j/\j<(q.length:Int):=⟨h3,by omega⟩
  have hbn:j.toNat<q.length:=by omega
  refine ⟨hb,hbn,fun e=>?_,fun e=>?_⟩
  ·simp only [decide_eq_true_eq] at e
   obtain ⟨s1,s2,s3,s4⟩:=stepP h1 h3 (by omega) e
   simp only [fnd,if_neg e] at h6
   simp only [List.length_set]
   have hs:(0:Int)<=q.getD j.toNat 0/\q.getD j.toNat 0<(q.length:Int):=⟨s1,by omega⟩
   have hsn:(q.getD j.toNat 0).toNat<q.length:=by omega
   refine ⟨hb,hbn,hs,hsn,hb,hbn,hb,hbn,?_⟩
   rw [getD_set' (by omega),if_pos rfl]
   refine hm _ (n,q.set j.toNat (q.getD (q.getD j.toNat 0).toNat 0),q.getD (q.getD j.toNat 0).toNat 0) 2 ⟨wfP_set h1 (by omega) s3 (by omega),by rw [List.length_set]; exact h2,s3,?_,?_,h6⟩ ?_ ?_
   ·dsimp only; omega
   ·dsimp only; omega
   ·dsimp only; omega
   ·dsimp only [go_sem]
    and_intros<;>first|trivial|rfl|omega
  ·simp only [decide_eq_false_iff_not,Decidable.not_not] at e
   simp only [fnd,if_pos e] at h6
   rw [<-h6]
   and_intros<;>first|trivial|rfl|omega
theorem fnd_spec:∀ (n:Nat) (p:List Int) (i:Int),wfP p->0<=i->i<(p.length:Int)->i.toNat<n ->
    wfP (fnd n p i).1/\(fnd n p i).1.length=p.length/\0<=(fnd n p i).2/\(fnd n p i).2<=i/\(fnd n p i).1.getD (fnd n p i).2.toNat 0=(fnd n p i).2
 | 0,_,_,_,_,_,h=>absurd h (Nat.not_lt_zero _)
 | n+1,p,i,hw,h0,h1,h2=>by
  unfold fnd
  split
  ·rename_i e
   exact ⟨hw,rfl,h0,Int.le_refl _,e⟩
  ·rename_i e
   obtain ⟨s1,s2,s3,s4⟩:=stepP hw h0 h1 e
   obtain ⟨r1,r2,r3,r4,r5⟩:=fnd_spec n (p.set i.toNat (p.getD (p.getD i.toNat 0).toNat 0)) (p.getD (p.getD i.toNat 0).toNat 0) (wfP_set hw (by omega) s3 (by omega)) s3 (by rw [List.length_set]; omega) (by omega)
   exact ⟨r1,by rw [r2,List.length_set],r3,by omega,r5⟩
theorem find_spec {p:List Int} {i:Int} (hw:wfP p) (h0:0<=i) (h1:i<(p.length:Int)) :
    wfP (find p i).1/\(find p i).1.length=p.length/\0<=(find p i).2/\(find p i).2<=i/\(find p i).1.getD (find p i).2.toNat 0=(find p i).2:=fnd_spec _ p i hw h0 h1 (Nat.lt_succ_self _)
def lnk (p:List Int) (a b:Int):List Int :=
 let x:=find p a
 let y:=find x.1 b
 y.1.set (max x.2 y.2).toNat (min x.2 y.2)
theorem lnk_spec {p:List Int} {a b:Int} (hw:wfP p) (h0:0<=a) (h1:a<(p.length:Int)) (g0:0<=b) (g1:b<(p.length:Int)):wfP (lnk p a b)/\(lnk p a b).length=p.length:=by
 obtain ⟨r1,r2,r3,r4,r5⟩:=find_spec hw h0 h1
 obtain ⟨q1,q2,q3,q4,q5⟩:=find_spec r1 g0 (by rw [r2]; exact g1)
 unfold lnk
 dsimp only
 refine ⟨wfP_set q1 (by omega) (by omega) (by omega),by rw [List.length_set,q2,r2]⟩
def con (p:List Int) (l:List Int) (k:Nat):List Int:=(l.take k).foldl (fun p i=>lnk p (l.getD 0 0) i) p
theorem con_succ {p l:List Int} {k:Nat} (h:k<l.length):con p l (k+1)=lnk (con p l k) (l.getD 0 0) (l.getD k 0):=by
 unfold con
 rw [take_snoc 0 h,List.foldl_append]
 rfl
def inP' (n:Nat) (l:List Int):Prop:=∀ x∈l,0<=x/\x<(n:Int)
theorem con_spec {p l:List Int} (hw:wfP p) (hl:inP' p.length l):∀ k,k<=l.length->wfP (con p l k)/\(con p l k).length=p.length
 | 0,_=>⟨hw,rfl⟩
 | k+1,h=>by
  obtain ⟨h1,h2⟩:=con_spec hw hl k (by omega)
  rw [con_succ (by omega)]
  have a:=hl _ (getDm 0 (show 0<l.length by omega))
  have b:=hl _ (getDm 0 (show k<l.length by omega))
  obtain ⟨r1,r2⟩:=lnk_spec h1 a.1 (by rw [h2]; exact a.2) b.1 (by rw [h2]; exact b.2)
  exact ⟨r1,by rw [r2,h2]⟩
@[go_sem] noncomputable def EH9:Env:=((EH8).add 22 fvS).addM 38 fndM
theorem EH9_ok:EH9.Ok:=((EH8_ok).add fv_ok).addM fndM_ok
@[go_sem] def conM:MSpec:=⟨[.d (.slice (.int .i64)),.bf 85 38,.br 22 3 (.int .i64)],fun d=>⟨[(0,.box 85 (.cons (.clo 38 (.cons (.ref 1 0) .nil)) .nil)),(1,.box 22 (.cons (.own 2) .nil)),(2,.row 3 (.int .i64) (con d.2.1 d.1 (List.length d.1)))],3,.tup .nil,[wfP d.2.1/\inP' (List.length d.2.1) d.1/\List.length d.1<=2000000]⟩⟩
theorem conM_ok:MSpecOk Tryz.prog 39 conM:=by
 refine fnM_ok EH9_ok conM Tryz.func39 rfl (by decide) (N:=31) rfl (res:=[]) rfl (by decide) [(3,[(18,.ow),(21,.ow),(1000000,.mx [(5,4),(6,4)])])] [] [] 100 (by kernel_rfl) ?_
 rintro ⟨l,p,_⟩ hw hp H hH
 dsimp only [go_sem] at hw hp ⊢
 obtain ⟨hp,-⟩:=hp
 obtain ⟨hp1,hp2,hp3⟩:=hp
 change List Int at l p
 change List.length l<=2000000 at hp3
 refine hH.loop (fun k:Nat=>⟨[(10,.dat (.int .i64) (k:Int)),(9,.dat (.int .i64) (List.length l:Int)),(8,.dat (.slice (.int .i64)) l),(0,.dat (.slice (.int .i64)) l),(1,.ref 0 0),(2,.ref 1 0)],[(0,.box 85 (.cons (.clo 38 (.cons (.ref 1 0) .nil)) .nil)),(1,.box 22 (.cons (.own 2) .nil)),(2,.row 3 (.int .i64) (con p l k))],3⟩) (fun k=>k<=l.length) (fun k=>l.length-k) 0 3 (Nat.zero_le _) ?_ ?_
 ·dsimp only [go_sem]
  and_intros<;>first|trivial|rfl|omega
 ·intro k hk R hm
  refine hH.run 100 _ _ ?_
  dsimp only [go_sem]
  have hz:zd (Ty.int .i64)=(0:Int):=rfl
  have hmx:∀ x y:Int,(if y>x then y else x)=max x y:=fun x y=>by split<;>omega
  have hmn:∀ x y:Int,(if y<x then y else x)=min x y:=fun x y=>by split<;>omega
  simp only [hz,Int.toNat_natCast,Int.toNat_zero]
  refine ⟨fun d=>?_,fun d=>?_⟩<;>simp only [decide_eq_true_eq,decide_eq_false_iff_not] at d
  ·have d:k<l.length:=by omega
   obtain ⟨w1,w2⟩:=con_spec hp1 hp2 k hk
   have hc:=con_succ (p:=p) d
   have a1:=hp2 _ (getDm 0 (show 0<l.length by omega))
   have b1:=hp2 _ (getDm 0 d)
   have hl0:(0:Int)<=0/\(0:Int)<(l.length:Int):=by omega
   have hl1:(0:Int)<=(k:Int)/\(k:Int)<(l.length:Int):=by omega
   have hik:inR .i64 ((k:Int)+1):=by rw [inR_i64]; omega
   rw [<-w2] at a1 b1
   unfold lnk at hc
   dsimp only at hc
   generalize con p l k=q at hc w1 w2 a1 b1 ⊢
   generalize l.getD 0 0=a0 at hc a1 ⊢
   generalize l.getD k 0=b0 at hc b1 ⊢
   obtain ⟨r1,r2,r3,r4,r5⟩:=find_spec w1 a1.1 a1.2
   have b2:b0<((find q a0).1.length:Int):=by rw [r2]; exact b1.2
   obtain ⟨t1,t2,t3,t4,t5⟩:=find_spec r1 b1.1 b2
   generalize find q a0=x at hc r1 r2 r3 r4 b2 t1 t2 t3 t4 ⊢
   generalize find x.1 b0=y at hc t1 t2 t3 t4 ⊢
   have hm1:(0:Int)<=max x.2 y.2/\max x.2 y.2<(y.1.length:Int):=by omega
   have hm2:(max x.2 y.2).toNat<y.1.length:=by omega
   rw [hmx,hmn]
   refine ⟨hl1,hl0,⟨w1,a1⟩,⟨r1,b1.1,b2⟩,hm1,hm2,hik,hH.ren [(0,0),(1,1),(2,4)] 3 rfl rfl (Nat.le_refl _) rfl ?_⟩
   dsimp only [go_sem]
   refine hm _ (k+1) 3 d (by omega) ?_
   dsimp only [go_sem]
   rw [hc]
   and_intros<;>first|trivial|rfl|omega
  ·have d:k=l.length:=by omega
   subst d
   and_intros<;>first|trivial|rfl|omega
end Go.Proofs.YtdobkkhncfifeabGreat.Gx
