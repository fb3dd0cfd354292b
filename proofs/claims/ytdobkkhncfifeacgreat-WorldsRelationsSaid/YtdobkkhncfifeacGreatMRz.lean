/-
  MRz: AT RH RM RN in one text.
-/
import Derived.Test.YtdobkkhncfifeacGreatMDb
import Derived.Test.YtdobkkhncfifeacGreatRB
import Derived.Test.YtdobkkhncfifeacGreatRG
import Derived.Test.YtdobkkhncfifeacGreatV4
namespace Go.Proofs.YtdobkkhncfifeacGreat.Gx
open Go Go.RowKit Tw B Nt
set_option linter.unusedVariables false
set_option linter.unusedSimpArgs false
set_option maxHeartbeats 4000000
set_option maxRecDepth 20000
def bat (l:List Int) (i:Int):Int:=if l.length=0 then i % 65536 else l.getD (i % l.length).toNat 0 % 65536+i / l.length
@[go_sem] def bAtS:Spec:=⟨[.slice (.int .i64),.int .i64],fun d=>(.dat (.int .i64) (bat d.1 d.2.1),[(0:Int)<=d.2.1/\d.2.1<=1000000])⟩
theorem bAt_ok:SpecOk Tryz.prog 5 bAtS:=by
 refine fn_ok E6_ok bAtS Tryz.func5 rfl (by decide) (N:=23) rfl (res:=[.tmp 4]) rfl (by decide) [] [] [] 100 (by kernel_rfl) ?_
 rintro ⟨l,(i:Int),_⟩ hw hp
 refine ⟨rfl,fun H hH=>?_⟩
 dsimp only [go_sem] at hw hp ⊢
 obtain ⟨⟨hi0,hi1⟩,-⟩:=hp
 have hi0:0<=i:=hi0
 have hi1:i<=1000000:=hi1
 obtain ⟨⟨hl,hr⟩,-⟩:=hw
 change ∀ x∈l,inR .i64 x at hr
 change List Int at l
 have hm (n:Int):bitsI .and .i64 n 65535=n % 65536:=andMask n 16 (by omega)
 have hz:(zd (Ty.int IntKind.i64))=(0:Int):=rfl
 have hb:bat l i=if l.length=0 then i % 65536 else l.getD (i % l.length).toNat 0 % 65536+i / l.length:=rfl
 rw [hm,hm,hz,Int.tmod_eq_emod_of_nonneg hi0,Int.tdiv_eq_ediv_of_nonneg hi0]
 refine ⟨fun h=>?_,fun h=>?_⟩<;>simp only [decide_eq_true_eq,decide_eq_false_iff_not] at h
 ·rw [hb,if_pos (by omega)]
  exact ⟨rfl,trivial⟩
 ·have h:¬(l.length:Int)=0:=h
  have m0:=Int.emod_nonneg i h
  have m1:=Int.emod_lt_of_pos i (show 0<(l.length:Int) by omega)
  have d0:0<=i / (l.length:Int):=Int.ediv_nonneg hi0 (by omega)
  have d1:i / (l.length:Int)<=i:=Int.ediv_le_self _ hi0
  rw [hb,if_neg (by omega)]
  generalize l.getD (i % (l.length:Int)).toNat 0=x
  have x0:=Int.emod_nonneg x (show (65536:Int)≠0 by decide)
  have x1:=Int.emod_lt_of_pos x (show (0:Int)<65536 by decide)
  refine ⟨h,by rw [inR_i64]; omega,⟨m0,m1⟩,h,by rw [inR_i64]; omega,by rw [inR_i64]; omega,rfl,trivial⟩
theorem bat_nn (l:List Int) {i:Int} (h:0<=i):0<=bat l i:=by
 unfold bat
 split
 ·exact Int.emod_nonneg _ (by decide)
 ·rename_i h1
  have h2:=Int.emod_nonneg (l.getD (i % (l.length:Int)).toNat 0) (show (65536:Int)≠0 by decide)
  have h3:0<=i / (l.length:Int):=Int.ediv_nonneg h (by omega)
  omega
theorem bat_le (l:List Int) {i:Int} (h:0<=i):bat l i<=65535+i:=by
 unfold bat
 split
 ·have:=Int.emod_lt_of_pos i (show (0:Int)<65536 by decide); omega
 ·rename_i h1
  have h2:=Int.emod_lt_of_pos (l.getD (i % (l.length:Int)).toNat 0) (show (0:Int)<65536 by decide)
  have h3:i / (l.length:Int)<=i:=Int.ediv_le_self _ h
  omega
end Go.Proofs.YtdobkkhncfifeacGreat.Gx
namespace Go.Proofs.YtdobkkhncfifeacGreat.Gx
open Go Go.RowKit Tw B Nt
set_option linter.unusedVariables false
set_option linter.unusedSimpArgs false
set_option maxHeartbeats 4000000
set_option maxRecDepth 20000
@[go_sem] noncomputable def ERJ:Env:=(ERH).add 45 rgrpS
theorem ERJ_ok:ERJ.Ok:=(ERH_ok).add rgrp_ok
theorem sumQ_nn {l:List Tup} (h:∀ t∈l,0<=fq t.2) {b:List Int} (hb:∀ j∈b,0<=j/\j<(l.length:Int)):0<=sumQ l b:=by
 have e:sumQ l b=sumL (b.map fun i=>l.getD i.toNat tz):=by
  unfold sumQ sumL
  rw [List.map_map]
  rfl
 rw [e]
 refine sumL_nn fun t ht=>?_
 obtain ⟨j,hj,rfl⟩:=List.mem_map.1 ht
 have:=hb j hj
 exact h _ (getDm tz (by omega))
theorem sgQ_nn {q:Rat}:decide (0<=sgQ q)=decide (0<=q):=by
 have h:=sgQ_lt (q:=q)
 refine decide_eq_decide.2 ⟨fun h1=>Rat.not_lt.1 fun h2=>?_,fun h1=>Int.not_lt.1 fun h2=>?_⟩
 ·have:=h.2 h2; omega
 ·exact Rat.not_lt.2 h1 (h.1 h2)
@[go_sem] def rvldS:Spec:=⟨[relT],fun d=>(.dat (.int .i64) (vldR d.1),[relP d.1])⟩
theorem rvld_ok:SpecOk Tryz.prog 19 rvldS:=by
 refine fn_ok ERJ_ok rvldS Tryz.func19 rfl (by decide) (N:=85) rfl (res:=[.tmp 2]) rfl (by decide) [] [] [] 100 (by kernel_rfl) ?_
 rintro ⟨r,_⟩ hw hp
 refine ⟨rfl,fun H hH=>?_⟩
 dsimp only [go_sem] at hw hp ⊢
 obtain ⟨hp,-⟩:=hp
 obtain ⟨s,l⟩:=r
 change List Tup at l
 obtain ⟨hp1,hp2,hp3⟩:=id hp
 change l.length<=400 at hp2
 have hwl:∀ t∈l,wfD tupT t:=hw.1.2.2
 clear hw
 refine ⟨fun h=>?_,fun h=>⟨fun h2=>?_,fun h2=>?_⟩⟩
 ·have h:schOk s=false:=by simpa using h
  exact ⟨by unfold vldR; rw [if_pos (by rw [h]; rfl)],trivial⟩
 ·have h:schOk s=true:=by simpa using h
  have h2:64<l.length:=by have:=of_decide_eq_true h2; change (64:Int)<(l.length:Int) at this; omega
  exact ⟨by unfold vldR; rw [if_neg (by rw [h]; exact Bool.false_ne_true),if_pos h2],trivial⟩
 have h:schOk s=true:=by simpa using h
 have h2:¬64<l.length:=by have:=of_decide_eq_false h2; change ¬(64:Int)<(l.length:Int) at this; omega
 have hv:vldR (s,l)=match scL s l l.length with
     | some e=>e
     | none=>if (grpB (s,l)).any bigB then 4 else if (grpB (s,l)).any (ovrB l) then 19 else 0:=by
  unfold vldR; rw [if_neg (by rw [h]; exact Bool.false_ne_true),if_neg h2]; rfl
 refine hH.loop (fun i:Nat=>⟨[(3,.dat (.int .i64) (i:Int)),(1,.ref 0 0)],[(0,.box 30 (.cons (.dat .str s.1) (.cons (.dat .bool s.2.1) (.cons (.dat (.slice colT) s.2.2) (.cons (.dat (.slice tupT) l) .nil)))))],1⟩) (fun i=>i<=l.length/\scL s l i=none) (fun i=>l.length-i) 0 1 ⟨Nat.zero_le _,rfl⟩ ?_ ?_
 ·dsimp only [go_sem]
  and_intros<;>first|trivial|rfl|omega
 ·rintro i ⟨hi,hn⟩ R hm
  refine hH.run 100 _ _ ?_
  dsimp only [go_sem]
  simp only [Int.toNat_natCast]
  have hzt:∀ j,l.getD j (zd tupT)=l.getD j tz:=fun _=>rfl
  simp only [hzt]
  refine ⟨fun d=>?_,fun d=>?_⟩<;>simp only [decide_eq_true_eq,decide_eq_false_iff_not] at d
  ·have d:i<l.length:=by omega
   have hb:(0:Int)<=(i:Int)/\(i:Int)<(l.length:Int):=by omega
   have hi1:inR .i64 ((i:Int)+1):=by rw [inR_i64]; omega
   have ht:(l.getD i tz).1.length<=1000/\fs (l.getD i tz).2<=1000:=hp3 _ (getDm tz d)
   have hsn:scn s l i=if ckT s (l.getD i tz)≠0 then some (ckT s (l.getD i tz)) else if i=0 then none else if cT (l.getD (i-1) tz).1 (l.getD i tz).1=0 then some 8 else if cT (l.getD (i-1) tz).1 (l.getD i tz).1=1 then some 1 else none:=rfl
   have hrg:=cT_rg (l.getD (i-1) tz).1 (l.getD i tz).1
   refine ⟨hb,by omega,fun e=>?_,fun e=>⟨fun e2=>?_,fun e2=>?_⟩⟩<;>simp only [decide_eq_true_eq,decide_eq_false_iff_not] at e
   ·rw [if_pos e] at hsn
    rw [hv,scL_at d hn hsn]
    exact ⟨rfl,trivial⟩
   ·have e2:=of_decide_eq_true e2
    have e2:i=0:=by omega
    rw [if_neg e,if_pos e2] at hsn
    refine ⟨hi1,?_⟩
    refine hm _ (i+1) 1 ⟨d,by rw [scL_snoc _ _ _ hn]; exact hsn⟩ (by omega) ?_
    dsimp only [go_sem]
    and_intros<;>first|trivial|rfl|omega
   ·have e2:=of_decide_eq_false e2
    have e2:i≠0:=by omega
    rw [if_neg e,if_neg e2] at hsn
    have hsub:((i:Int)-1).toNat=i-1:=by omega
    have hi0:inR .i64 ((i:Int)-1):=by rw [inR_i64]; omega
    have hb0:(0:Int)<=(i:Int)-1/\(i:Int)-1<(l.length:Int):=by omega
    have ht0:(l.getD (i-1) tz).1.length<=1000/\fs (l.getD (i-1) tz).2<=1000:=hp3 _ (getDm tz (show i-1<l.length by omega))
    have hpr:(l.getD (i-1) tz).1.length<=1000000/\(l.getD i tz).1.length<=1000000:=by omega
    rw [hsub]
    refine ⟨hi0,hb0,hb,hpr,fun e3=>?_,fun e3=>⟨fun e4=>?_,fun e4=>?_⟩⟩
    ·have e3:=of_decide_eq_true e3
     rw [if_pos e3] at hsn
     rw [hv,scL_at d hn hsn]
     exact ⟨rfl,trivial⟩
    ·have e3:=of_decide_eq_false e3
     have e4:0<cT (l.getD (i-1) tz).1 (l.getD i tz).1:=of_decide_eq_true e4
     rw [if_neg e3,if_pos (by omega)] at hsn
     rw [hv,scL_at d hn hsn]
     exact ⟨rfl,trivial⟩
    ·have e3:=of_decide_eq_false e3
     have e4:¬0<cT (l.getD (i-1) tz).1 (l.getD i tz).1:=of_decide_eq_false e4
     rw [if_neg e3,if_neg (by omega)] at hsn
     refine ⟨hi1,?_⟩
     refine hm _ (i+1) 1 ⟨d,by rw [scL_snoc _ _ _ hn]; exact hsn⟩ (by omega) ?_
     dsimp only [go_sem]
     and_intros<;>first|trivial|rfl|omega
  ·have d:i=l.length:=by omega
   subst d
   clear hm
   have hge:=grpB_el (s,l)
   have hck:=(scL_none.1 hn).1
   have hnn:∀ t∈l,0<=fq t.2:=fun t ht=>(ckT_pr (hck t ht)).2.2.1
   refine ⟨hp,sc_len hn,?_⟩
   rw [hn] at hv
   dsimp only at hv
   change (grpB (s,l)).length<=l.length/\∀ b∈grpB (s,l),b≠[]/\b.length<=l.length/\∀ j∈b,0<=j/\j<(l.length:Int) at hge
   generalize grpB (s,l)=G at hge hv ⊢
   obtain ⟨hg1,hg2⟩:=hge
   have hzg:∀ j,G.getD j (zd (.slice (.int .i64)))=G.getD j []:=fun _=>rfl
   refine hH.loop (fun k:Nat=>⟨[(7,.dat (.int .i64) (k:Int)),(6,.dat (.slice (.slice (.int .i64))) G),(1,.ref 0 0)],[(0,.box 30 (.cons (.dat .str s.1) (.cons (.dat .bool s.2.1) (.cons (.dat (.slice colT) s.2.2) (.cons (.dat (.slice tupT) l) .nil)))))],1⟩) (fun k=>k<=G.length/\∀ j,j<k->bigB (G.getD j [])=false) (fun k=>G.length-k) 0 1 ⟨Nat.zero_le _,fun j h=>absurd h (Nat.not_lt_zero _)⟩ ?_ ?_
   ·dsimp only [go_sem]
    and_intros<;>first|trivial|rfl|omega
   ·rintro k ⟨hk,hz⟩ R hm
    refine hH.run 100 _ _ ?_
    dsimp only [go_sem]
    simp only [Int.toNat_natCast,hzg]
    refine ⟨fun d=>?_,fun d=>?_⟩<;>simp only [decide_eq_true_eq,decide_eq_false_iff_not] at d
    ·have d:k<G.length:=by omega
     have hb:(0:Int)<=(k:Int)/\(k:Int)<(G.length:Int):=by omega
     have hi1:inR .i64 ((k:Int)+1):=by rw [inR_i64]; omega
     have hbe:bigB (G.getD k [])=decide (16<(G.getD k []).length):=rfl
     refine ⟨hb,fun e=>?_,fun e=>⟨hi1,hm _ (k+1) 1 ⟨d,fun j hj=>?_⟩ (by omega) ?_⟩⟩<;>simp only [decide_eq_true_eq,decide_eq_false_iff_not] at e
     ·have e:(16:Int)<((G.getD k []).length:Int):=e
      have hx:G.any bigB=true:=any_at [] d (by rw [hbe]; exact decide_eq_true (by omega))
      rw [hv,if_pos hx]
      exact ⟨rfl,trivial⟩
     ·rcases Nat.lt_or_ge j k with h'|h'
      ·exact hz j h'
      ·have:j=k:=by omega
       have e:¬(16:Int)<((G.getD k []).length:Int):=e
       rw [this,hbe]; exact decide_eq_false (by omega)
     ·dsimp only [go_sem]
      and_intros<;>first|trivial|rfl|omega
    ·have d:k=G.length:=by omega
     subst d
     rw [if_neg (by rw [any_no [] hz]; exact Bool.false_ne_true)] at hv
     clear hm hz
     refine hH.loop (fun k:Nat=>⟨[(8,.dat (.int .i64) (k:Int)),(6,.dat (.slice (.slice (.int .i64))) G),(1,.ref 0 0)],[(0,.box 30 (.cons (.dat .str s.1) (.cons (.dat .bool s.2.1) (.cons (.dat (.slice colT) s.2.2) (.cons (.dat (.slice tupT) l) .nil)))))],1⟩) (fun k=>k<=G.length/\∀ j,j<k->ovrB l (G.getD j [])=false) (fun k=>G.length-k) 0 1 ⟨Nat.zero_le _,fun j h=>absurd h (Nat.not_lt_zero _)⟩ ?_ ?_
     ·dsimp only [go_sem]
      and_intros<;>first|trivial|rfl|omega
     ·rintro k ⟨hk,hz⟩ R hm
      refine hH.run 100 _ _ ?_
      dsimp only [go_sem]
      simp only [Int.toNat_natCast,hzg,fq_qf,fs_qf]
      refine ⟨fun d=>?_,fun d=>?_⟩<;>simp only [decide_eq_true_eq,decide_eq_false_iff_not] at d
      ·have d:k<G.length:=by omega
       have hb:(0:Int)<=(k:Int)/\(k:Int)<(G.length:Int):=by omega
       have hi1:inR .i64 ((k:Int)+1):=by rw [inR_i64]; omega
       obtain ⟨_,hl1,hl2⟩:=hg2 _ (getDm [] d)
       have hbe:ovrB l (G.getD k [])=!(decide (0<=sgQ (sumQ l (G.getD k [])))&&decide (0<=sgQ (1-sumQ l (G.getD k [])))):=by
        have h0:=sumQ_nn hnn hl2
        unfold ovrB
        rw [sgQ_nn,sgQ_nn,decide_eq_true h0,Bool.true_and]
        by_cases h1:0<=1-sumQ l (G.getD k [])
        ·rw [decide_eq_true h1,decide_eq_false (fun h2=>Rat.not_lt.2 h1 (sgQ_lt.1 h2))]; rfl
        ·rw [decide_eq_false h1,decide_eq_true (sgQ_lt.2 (Rat.not_le.1 h1))]; rfl
       have q1:=sumQ_qs (n:=64) hwl (fun t ht=>(hp3 t ht).2) hl2 (by omega)
       have hl3:(G.getD k []).length<=400:=by omega
       refine ⟨hb,hp,hl3,hl2,by omega,fun e=>?_,fun e=>⟨hi1,hm _ (k+1) 1 ⟨d,fun j hj=>?_⟩ (by omega) ?_⟩⟩
       ·have hx:G.any (ovrB l)=true:=any_at [] d (by rw [hbe]; exact e)
        rw [hv,if_pos hx]
        exact ⟨rfl,trivial⟩
       ·rcases Nat.lt_or_ge j k with h'|h'
        ·exact hz j h'
        ·have:j=k:=by omega
         rw [this,hbe]; exact e
       ·dsimp only [go_sem]
        and_intros<;>first|trivial|rfl|omega
      ·have d:k=G.length:=by omega
       subst d
       rw [hv,if_neg (by rw [any_no [] hz]; exact Bool.false_ne_true)]
       exact ⟨rfl,trivial⟩
@[go_sem] noncomputable def ERK:Env:=(ERJ).add 19 rvldS
theorem ERK_ok:ERK.Ok:=(ERJ_ok).add rvld_ok
end Go.Proofs.YtdobkkhncfifeacGreat.Gx
namespace Go.Proofs.YtdobkkhncfifeacGreat.Gx
open Go Go.RowKit Tw B Nt
set_option linter.unusedVariables false
set_option linter.unusedSimpArgs false
set_option maxHeartbeats 4000000
set_option maxRecDepth 20000
@[go_sem] def rblcS:Spec:=⟨[relT],fun d=>(.dat (.slice (.slice (.int .i64))) (if vldR d.1=0 then grpB d.1 else []),[relP d.1])⟩
theorem rblc_ok:SpecOk Tryz.prog 20 rblcS:=by
 refine fn_ok ERK_ok rblcS Tryz.func20 rfl (by decide) (N:=8) rfl (res:=[.tmp 2]) rfl (by decide) [] [] [] 100 (by kernel_rfl) ?_
 rintro ⟨r,_⟩ hw hp
 refine ⟨rfl,fun H hH=>?_⟩
 dsimp only [go_sem] at hw hp ⊢
 obtain ⟨hp,-⟩:=hp
 refine ⟨hp,fun h=>?_,fun h=>⟨hp,?_,?_,trivial⟩⟩
 ·have h:vldR r≠0:=of_decide_eq_true h
  exact ⟨by rw [if_neg h],trivial⟩
 ·have h:¬vldR r≠0:=of_decide_eq_false h
  exact (vldR_zero (Decidable.not_not.1 h)).2.2.1
 ·have h:¬vldR r≠0:=of_decide_eq_false h
  rw [if_pos (Decidable.not_not.1 h)]
@[go_sem] noncomputable def ERL:Env:=(ERK).add 20 rblcS
theorem ERL_ok:ERL.Ok:=(ERK_ok).add rblc_ok
@[go_sem] noncomputable def ERM:Env:=ERL
theorem ERM_ok:ERM.Ok:=ERL_ok
@[go_sem] def rcanS:Spec:=⟨[relT],fun d=>(.dat relT ((d.1.1,d.1.2.map cnT):Rel),[relP d.1])⟩
theorem rcan_ok:SpecOk Tryz.prog 35 rcanS:=by
 refine fn_ok ERM_ok rcanS Tryz.func35 rfl (by decide) (N:=35) rfl (res:=[.cell 2 30]) rfl (by decide) [(1,[(7,.ag)]),(5,[(31,.dt),(1000000,.mx [])])] [(6,[3])] [] 100 (by kernel_rfl) ?_
 rintro ⟨r,_⟩ hw hp
 refine ⟨rfl,fun H hH=>?_⟩
 dsimp only [go_sem] at hw hp ⊢
 obtain ⟨hp,-⟩:=hp
 obtain ⟨s,l⟩:=r
 change List Tup at l
 obtain ⟨hp1,hp2,hp3⟩:=id hp
 change l.length<=400 at hp2
 clear hw
 refine hH.loop (fun i:Nat=>⟨[(4,.dat (.int .i64) (i:Int)),(3,.ref 2 0),(2,.ref 1 0),(1,.ref 0 0)],[(0,.box 30 (.cons (.dat .str s.1) (.cons (.dat .bool s.2.1) (.cons (.dat (.slice colT) s.2.2) (.cons (.dat (.slice tupT) l) .nil))))),(1,.box 30 (zA relT .nil)),(2,.box 30 (.cons (.dat .str s.1) (.cons (.dat .bool s.2.1) (.cons (.dat (.slice colT) s.2.2) (.cons (.own 3) .nil))))),(3,.row 53 tupT ((l.take i).map cnT))],4⟩) (fun i=>i<=l.length) (fun i=>l.length-i) 0 3 (Nat.zero_le _) ?_ ?_
 ·dsimp only [go_sem]
  and_intros<;>first|trivial|rfl|omega
 ·rintro i hi R hm
  refine hH.run 100 _ _ ?_
  dsimp only [go_sem]
  simp only [Int.toNat_natCast]
  have hzt:∀ j,l.getD j (zd tupT)=l.getD j tz:=fun _=>rfl
  simp only [hzt]
  refine ⟨fun d=>?_,fun d=>?_⟩<;>simp only [decide_eq_true_eq,decide_eq_false_iff_not] at d
  ·have d:i<l.length:=by omega
   have hb:(0:Int)<=(i:Int)/\(i:Int)<(l.length:Int):=by omega
   have ht:(l.getD i tz).1.length<=1000/\fs (l.getD i tz).2<=1000:=hp3 _ (getDm tz d)
   have hs:(l.take (i+1)).map cnT=(l.take i).map cnT++[cnT (l.getD i tz)]:=by rw [take_snoc tz d,List.map_append]; rfl
   have hl:((l.take i).map cnT).length=i:=by rw [List.length_map,List.length_take]; omega
   refine ⟨hb,hb,by omega,?_,trivial,by rw [inR_i64]; omega,hH.ren [(0,0),(1,1),(2,2),(3,4)] 4 rfl rfl (Nat.zero_le _) rfl ?_⟩
   ·rw [hl]
    show (i+1)*80<=_
    omega
   ·dsimp only [go_sem]
    refine hm _ (i+1) 4 d (by omega) ?_
    dsimp only [go_sem]
    rw [hs]
    and_intros<;>first|trivial|rfl|omega
  ·have d:i=l.length:=by omega
   subst d
   rw [List.take_length]
   and_intros<;>first|trivial|rfl|omega
@[go_sem] noncomputable def ERN:Env:=(ERM).add 35 rcanS
theorem ERN_ok:ERN.Ok:=(ERM_ok).add rcan_ok
@[go_sem] def xinsS:Spec:=⟨[relT,tupT],fun d=>(.tup (.cons (.dat relT (insR d.1 d.2.1)) (.cons (.dat (.int .i64) (insE d.1 d.2.1)) .nil)),[relP d.1,List.length d.2.1.1<=1000/\fs d.2.1.2<=1000])⟩
theorem xins_ok:SpecOk Tryz.prog 15 xinsS:=by
 refine fn_ok ERN_ok xinsS Tryz.func15 rfl (by decide) (N:=82) rfl (res:=[.cell 4 30,.tmp 5]) rfl (by decide) [(13,[(57,.ag)]),(14,[(66,.dt),(72,.fz 3),(1000000,.mx [(7,6),(8,6),(10,6),(11,6),(12,6),(13,6)])])] [] [] 100 (by kernel_rfl) ?_
 rintro ⟨r,t,_⟩ hw hp
 refine ⟨rfl,fun H hH=>?_⟩
 dsimp only [go_sem] at hw hp ⊢
 obtain ⟨hp,⟨hp4,hp5⟩,-⟩:=hp
 obtain ⟨s,l⟩:=r
 change List Tup at l
 obtain ⟨hp1,hp2,hp3⟩:=id hp
 change l.length<=400 at hp2
 change Tup at t
 change t.1.length<=1000 at hp4
 clear hw
 refine ⟨hp,fun h1=>?_,fun h1=>⟨by omega,fun h2=>?_,fun h2=>⟨hp,hp4,fun h3=>?_,fun h3=>?_⟩⟩⟩
 ·have h1:vldR (s,l)≠0:=of_decide_eq_true h1
  have he:insE (s,l) t=vldR (s,l):=by unfold insE; rw [if_pos h1]
  exact ⟨rfl,rfl,insR_err he h1,rfl,he.symm,trivial⟩
 all_goals have h1:¬vldR (s,l)≠0:=of_decide_eq_false h1
 ·have h2:ckT s t≠0:=of_decide_eq_true h2
  have he:insE (s,l) t=ckT s t:=by unfold insE; rw [if_neg h1,if_pos h2]
  exact ⟨rfl,rfl,insR_err he h2,rfl,he.symm,trivial⟩
 all_goals have h2:¬ckT s t≠0:=of_decide_eq_false h2
 ·have h3:(fdR (l.findIdx? (eqV t.1))).2=true:=h3
  have he:insE (s,l) t=8:=by unfold insE; rw [if_neg h1,if_neg h2,if_pos h3]
  exact ⟨rfl,rfl,insR_err he (by decide),rfl,he.symm,trivial⟩
 have h3:¬(fdR (l.findIdx? (eqV t.1))).2=true:=fun e=>Bool.noConfusion (h3.symm.trans e)
 refine hH.loop (fun i:Nat=>⟨[(10,.dat (.int .i64) (i:Int)),(2,.ref 0 0),(3,.ref 1 0),(4,.ref 2 0)],[(0,.box 30 (.cons (.dat .str s.1) (.cons (.dat .bool s.2.1) (.cons (.dat (.slice colT) s.2.2) (.cons (.dat (.slice tupT) l) .nil))))),(1,.box 53 (.cons (.dat (.slice valT) t.1) (.cons (.dat .bool t.2.1) (.cons (.dat (.slice (.int .u32)) t.2.2.1) (.cons (.dat (.slice (.int .u32)) t.2.2.2) .nil))))),(2,.box 30 (zA relT .nil))],3⟩) (fun i=>i<=l.length/\∀ j,j<i->cT (l.getD j tz).1 t.1<0) (fun i=>l.length-i) 0 3 ⟨Nat.zero_le _,fun j h=>absurd h (Nat.not_lt_zero _)⟩ ?_ ?_
 ·dsimp only [go_sem]
  and_intros<;>first|trivial|rfl|omega
 ·rintro i ⟨hi,hz⟩ R hm
  refine hH.run 100 _ _ ?_
  dsimp only [go_sem]
  simp only [Int.toNat_natCast,imp_self,true_and]
  have hzt:∀ j,l.getD j (zd tupT)=l.getD j tz:=fun _=>rfl
  simp only [hzt]
  refine ⟨fun d=>?_,fun d=>?_,fun d=>?_,fun d=>?_⟩
  ·have d:(i:Int)<(l.length:Int):=of_decide_eq_true d
   show (0:Int)<=(i:Int)/\(i:Int)<(l.length:Int)
   omega
  ·have d:(i:Int)<(l.length:Int):=of_decide_eq_true d
   have ht:(l.getD i tz).1.length<=1000/\fs (l.getD i tz).2<=1000:=hp3 _ (getDm tz (show i<l.length by omega))
   show (l.getD i tz).1.length<=1000000/\t.1.length<=1000000
   omega
  ·simp only [Bool.and_eq_true,decide_eq_true_eq] at d
   have d1:(i:Int)<(l.length:Int):=d.1
   have hi1:inR .i64 ((i:Int)+1):=by rw [inR_i64]; omega
   refine ⟨hi1,hm _ (i+1) 3 ⟨by omega,fun j hj=>?_⟩ (by omega) ?_⟩
   ·rcases Nat.lt_or_ge j i with h'|h'
    ·exact hz j h'
    ·have:j=i:=by omega
     rw [this]; exact d.2
   ·dsimp only [go_sem]
    and_intros<;>first|trivial|rfl|omega
  ·have hpos:posT l t.1=i:=posT_eq hi hz fun hlt=>by
     rw [Bool.and_eq_false_iff] at d
     rcases d with d|d
     ·have d:¬(i:Int)<(l.length:Int):=of_decide_eq_false d
      omega
     ·exact Int.not_lt.1 (of_decide_eq_false d)
   have hv:vldP s l:=vld_iff.1 (Decidable.not_not.1 h1)
   have hn:∀ u∈l,u.1≠t.1:=fd_none.1 (by simpa using h3)
   have hin:=vld_ins hv (Decidable.not_not.1 h2) hn
   have hit:insT l t=insL l i [t]:=by unfold insT; rw [hpos]
   have hlv:l.length<=64:=hv.2.1
   have hrp:relP (s,insT l t):=⟨hp1,by rw [insT_len]; omega,fun u hu=>by
    rcases insT_mem.1 hu with rfl|hu
    ·exact ⟨hp4,hp5⟩
    ·exact hp3 u hu⟩
   have he:insE (s,l) t=insO s l t:=by unfold insE insO; rw [if_neg h1,if_neg h2,if_neg h3]
   rw [hit] at hin hrp
   have hb:(0:Int)<=(i:Int)/\(i:Int)<=(l.length:Int):=by omega
   have l1:(l.take i).length<=400:=by rw [List.length_take]; omega
   have l2:(l.drop i).length<=400:=by rw [List.length_drop]; omega
   have l3:(l.take i++[t]).length<=401:=by rw [List.length_append]; show _+1<=_; omega
   refine ⟨hb,by omega,?_,hb,by omega,hrp,fun h4=>?_,fun h4=>?_⟩
   ·show (_+1)*80<=_
    omega
   ·have h4:vldR (s,insL l i [t])≠0:=of_decide_eq_true h4
    rw [hin] at h4
    have hv:vldR (s,l.take i++[t]++l.drop i)=insO s l t:=hin
    rw [hv]
    exact ⟨insR_err he h4,he.symm,trivial⟩
   ·have h4:¬vldR (s,insL l i [t])≠0:=of_decide_eq_false h4
    rw [hin] at h4
    have h4:insO s l t=0:=Decidable.not_not.1 h4
    have he:insE (s,l) t=0:=he.trans h4
    refine ⟨hrp,?_,he.symm,trivial⟩
    unfold insR
    rw [if_neg (by rw [he]; simp),hpos]
    show (s,(insL l i [t]).map cnT)=(s,insL (l.map cnT) i [cnT t])
    unfold insL
    rw [List.map_append,List.map_append,List.map_take,List.map_drop]
    rfl
@[go_sem] noncomputable def ERO:Env:=(ERN).add 15 xinsS
theorem ERO_ok:ERO.Ok:=(ERN_ok).add xins_ok
end Go.Proofs.YtdobkkhncfifeacGreat.Gx
namespace Go.Proofs.YtdobkkhncfifeacGreat.Gx
open Go Go.RowKit Tw B Nt
set_option linter.unusedVariables false
set_option linter.unusedSimpArgs false
set_option maxHeartbeats 4000000
set_option maxRecDepth 20000
@[go_sem] noncomputable def ERP:Env:=((ERO).add 5 bAtS).add 13 rFIntS
theorem ERP_ok:ERP.Ok:=((ERO_ok).add bAt_ok).add rFInt_ok
def opR (l:List Int) (i:Nat) (j:Nat):Int:=bat l (4+3*(i:Int)+(j:Int))
def valsR (x:Int):Nat->List Val
 | 0=>[]
 | n+1=>valsR x n++[vInt (1+x / 3 ^ n % 3)]
def schI (i:Nat):Sch:=schs.getD i (zd schT)
def tupR (l:List Int) (i j:Nat):Tup :=
 (valsR (opR l i j) (schI i).2.2.length,qf (if (schI i).2.1=true then 1 else bpr (shrI .i64 (opR l i j) 4)))
def relN (l:List Int) (i:Nat):Nat->Rel
 | 0=>(schI i,[])
 | n+1=>if insE (relN l i n) (tupR l i n)=0 then insR (relN l i n) (tupR l i n) else relN l i n
def cntR (l:List Int) (i:Nat):Nat:=if i=1 then min 2 (bat l 1 % 4).toNat else (bat l i % 4).toNat
theorem cntR_le (l:List Int) (i:Nat):cntR l i<=3:=by
 unfold cntR
 split<;>omega
theorem valsR_len (x:Int):∀ n,(valsR x n).length=n
 | 0=>rfl
 | n+1=>by unfold valsR; rw [List.length_append,valsR_len x n]; rfl
theorem schI_ok {i:Nat} (h:i<4):schOk (schI i)=true/\(schI i).2.2.length<=2:=by
 have:i=0∨i=1∨i=2∨i=3:=by omega
 rcases this with rfl|rfl|rfl|rfl<;>decide +kernel
theorem tupR_ok (l:List Int) {i:Nat} (h:i<4) (j:Nat):cnT (tupR l i j)=tupR l i j/\(tupR l i j).1.length<=2/\fs (tupR l i j).2<=64:=by
 have h1:=(bpr_b (shrI .i64 (opR l i j) 4)).1
 refine ⟨by unfold tupR cnT; rw [fq_qf],by unfold tupR; rw [valsR_len]; exact (schI_ok h).2,?_⟩
 unfold tupR
 rw [fs_qf]
 split
 ·decide +kernel
 ·omega
theorem relN_ok (l:List Int) {i:Nat} (h:i<4):∀ n,n<=3->∃ L:List Tup,relN l i n=(schI i,L)/\vldP (schI i) L/\L.length<=n/\∀ t∈L,cnT t=t/\t.1.length<=2/\fs t.2<=64
 | 0,_=>⟨[],rfl,⟨(schI_ok h).1,by decide,(fun t ht=>by cases ht),List.Pairwise.nil,(fun t ht=>by cases ht)⟩,Nat.le_refl _,fun t ht=>by cases ht⟩
 | n+1,hn=>by
  obtain ⟨L,h1,h2,h3,h4⟩:=relN_ok l h n (by omega)
  have ht:=tupR_ok l h n
  unfold relN
  rw [h1]
  by_cases he:insE (schI i,L) (tupR l i n)=0
  ·rw [if_pos he,insR_ok he (fun u hu=>(h4 u hu).1) ht.1]
   refine ⟨_,rfl,insE_iff.1 he,by rw [insT_len]; omega,fun u hu=>?_⟩
   rcases insT_mem.1 hu with rfl|hu
   ·exact ht
   ·exact h4 u hu
  ·rw [if_neg he]
   exact ⟨L,rfl,h2,by omega,h4⟩
theorem relN_P (l:List Int) {i:Nat} (h:i<4) {n:Nat} (hn:n<=3):relP (relN l i n):=by
 obtain ⟨L,h1,h2,h3,h4⟩:=relN_ok l h n hn
 have:=(schI_ok h).2
 rw [h1]
 exact ⟨(show (schI i).2.2.length<=1000 by omega),(show L.length<=400 by omega),fun t ht=>by have:=h4 t ht; omega⟩
def relsL (l:List Int):List Rel:=(List.range 4).map fun i=>relN l i (cntR l i)
def relQ (l:List Int) (i:Nat):List Rel:=(List.range i).map fun i=>relN l i (cntR l i)
theorem relQ_snoc (l:List Int) (i:Nat):relQ l (i+1)=relQ l i++[relN l i (cntR l i)]:=by
 unfold relQ
 rw [List.range_succ,List.map_append]; rfl
theorem relQ_len (l:List Int) (i:Nat):(relQ l i).length=i:=by unfold relQ; rw [List.length_map,List.length_range]
def relA (r:Rel):AV:=.cons (.dat .str r.1.1) (.cons (.dat .bool r.1.2.1) (.cons (.dat (.slice colT) r.1.2.2) (.cons (.dat (.slice tupT) r.2) .nil)))
theorem both3 {α:Type} {G:Prop} {H:List It->St->Prop} {k:List It} {inv:α->St} {Q:α->Prop} (h1:(∀ x,Q x->H k (inv x))->G) (h2:∀ x,Q x->H k (inv x)):G:=h1 h2
theorem imp4 {p q:Prop}:(p->q->p/\q)=True:=eq_true fun a b=>⟨a,b⟩
theorem div3 (x:Int) (q:Nat):x / 3 ^ q / 3=x / 3 ^ (q+1):=by
 rw [Int.ediv_ediv_of_nonneg (Int.pow_nonneg (by decide)),Int.pow_succ]
@[go_sem] def relsS:Spec:=⟨[.slice (.int .i64)],fun d=>(.dat (.slice relT) (relsL d.1),[])⟩
theorem relsL_len (l:List Int):(relsL l).length=4:=by unfold relsL; rw [List.length_map,List.length_range]
@[go_sem] noncomputable def ERQ:Env:=(ERP).add 4 relsS
end Go.Proofs.YtdobkkhncfifeacGreat.Gx
