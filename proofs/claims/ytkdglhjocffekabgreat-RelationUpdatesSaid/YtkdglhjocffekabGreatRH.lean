/-
  The reference's Validate, Blocks, Remainder.
-/
import Derived.Test.YtkdglhjocffekabGreatRB
import Derived.Test.YtkdglhjocffekabGreatRG
import Derived.Test.YtkdglhjocffekabGreatV4
namespace Go.Proofs.YtkdglhjocffekabGreat.Gx
open Go Go.RowKit Tw B Nt
set_option linter.unusedVariables false
set_option linter.unusedSimpArgs false
set_option maxHeartbeats 4000000
set_option maxRecDepth 20000
@[go_sem] noncomputable def ERJ:Env:=(ERH).add 57 rgrpS
theorem ERJ_ok:ERJ.Ok:=(ERH_ok).add rgrp_ok
theorem sumQ_nn {l:List Tup} (h:∀ t∈l,0<=fq t.2) {b:List Int} (hb:∀ j∈b,0<=j/\j<(l.length:Int)):0<=sumQ l b:=by
 have e:sumQ l b=sumL (b.map fun i=>l.getD i.toNat tz):=by
  unfold sumQ sumL
  rw [List.map_map]
  rfl
 rw [e]
 refine sumL_nn fun t ht=>?_
 obtain ⟨j,hj,rfl⟩:=List.mem_map.1 ht
 have:=hb j hj
 exact h _ (getDm tz (by omega))
theorem sgQ_nn {q:Rat}:decide (0<=sgQ q)=decide (0<=q):=by
 have h:=sgQ_lt (q:=q)
 refine decide_eq_decide.2 ⟨fun h1=>Rat.not_lt.1 fun h2=>?_,fun h1=>Int.not_lt.1 fun h2=>?_⟩
 ·have:=h.2 h2; omega
 ·exact Rat.not_lt.2 h1 (h.1 h2)
@[go_sem] def rvldS:Spec:=⟨[relT],fun d=>(.dat (.int .i64) (vldR d.1),[relP d.1])⟩
theorem rvld_ok:SpecOk Tryz.prog 26 rvldS:=by
 refine fn_ok ERJ_ok rvldS Tryz.func26 rfl (by decide) (N:=85) rfl (res:=[.tmp 2]) rfl (by decide) [] [] [] 100 (by kernel_rfl) ?_
 rintro ⟨r,_⟩ hw hp
 refine ⟨rfl,fun H hH=>?_⟩
 dsimp only [go_sem] at hw hp ⊢
 obtain ⟨hp,-⟩:=hp
 obtain ⟨s,l⟩:=r
 change List Tup at l
 obtain ⟨hp1,hp2,hp3⟩:=id hp
 change l.length<=400 at hp2
 have hwl:∀ t∈l,wfD tupT t:=hw.1.2.2
 clear hw
 refine ⟨fun h=>?_,fun h=>⟨fun h2=>?_,fun h2=>?_⟩⟩
 ·have h:schOk s=false:=by simpa using h
  exact ⟨by unfold vldR; rw [if_pos (by rw [h]; rfl)],trivial⟩
 ·have h:schOk s=true:=by simpa using h
  have h2:64<l.length:=by have:=of_decide_eq_true h2; change (64:Int)<(l.length:Int) at this; omega
  exact ⟨by unfold vldR; rw [if_neg (by rw [h]; exact Bool.false_ne_true),if_pos h2],trivial⟩
 have h:schOk s=true:=by simpa using h
 have h2:¬64<l.length:=by have:=of_decide_eq_false h2; change ¬(64:Int)<(l.length:Int) at this; omega
 have hv:vldR (s,l)=match scL s l l.length with
     | some e=>e
     | none=>if (grpB (s,l)).any bigB then 4 else if (grpB (s,l)).any (ovrB l) then 19 else 0:=by
  unfold vldR; rw [if_neg (by rw [h]; exact Bool.false_ne_true),if_neg h2]; rfl
 refine hH.loop (fun i:Nat=>⟨[(3,.dat (.int .i64) (i:Int)),(1,.ref 0 0)],[(0,.box 31 (.cons (.dat .str s.1) (.cons (.dat .bool s.2.1) (.cons (.dat (.slice colT) s.2.2) (.cons (.dat (.slice tupT) l) .nil)))))],1⟩) (fun i=>i<=l.length/\scL s l i=none) (fun i=>l.length-i) 0 1 ⟨Nat.zero_le _,rfl⟩ ?_ ?_
 ·dsimp only [go_sem]
  and_intros<;>first|trivial|rfl|omega
 ·rintro i ⟨hi,hn⟩ R hm
  refine hH.run 100 _ _ ?_
  dsimp only [go_sem]
  simp only [Int.toNat_natCast]
  have hzt:∀ j,l.getD j (zd tupT)=l.getD j tz:=fun _=>rfl
  simp only [hzt]
  refine ⟨fun d=>?_,fun d=>?_⟩<;>simp only [decide_eq_true_eq,decide_eq_false_iff_not] at d
  ·have d:i<l.length:=by omega
   have hb:(0:Int)<=(i:Int)/\(i:Int)<(l.length:Int):=by omega
   have hi1:inR .i64 ((i:Int)+1):=by rw [inR_i64]; omega
   have ht:(l.getD i tz).1.length<=1000/\fs (l.getD i tz).2<=1000:=hp3 _ (getDm tz d)
   have hsn:scn s l i=if ckT s (l.getD i tz)≠0 then some (ckT s (l.getD i tz)) else if i=0 then none else if cT (l.getD (i-1) tz).1 (l.getD i tz).1=0 then some 8 else if cT (l.getD (i-1) tz).1 (l.getD i tz).1=1 then some 1 else none:=rfl
   have hrg:=cT_rg (l.getD (i-1) tz).1 (l.getD i tz).1
   refine ⟨hb,by omega,fun e=>?_,fun e=>⟨fun e2=>?_,fun e2=>?_⟩⟩<;>simp only [decide_eq_true_eq,decide_eq_false_iff_not] at e
   ·rw [if_pos e] at hsn
    rw [hv,scL_at d hn hsn]
    exact ⟨rfl,trivial⟩
   ·have e2:=of_decide_eq_true e2
    have e2:i=0:=by omega
    rw [if_neg e,if_pos e2] at hsn
    refine ⟨hi1,?_⟩
    refine hm _ (i+1) 1 ⟨d,by rw [scL_snoc _ _ _ hn]; exact hsn⟩ (by omega) ?_
    dsimp only [go_sem]
    and_intros<;>first|trivial|rfl|omega
   ·have e2:=of_decide_eq_false e2
    have e2:i≠0:=by omega
    rw [if_neg e,if_neg e2] at hsn
    have hsub:((i:Int)-1).toNat=i-1:=by omega
    have hi0:inR .i64 ((i:Int)-1):=by rw [inR_i64]; omega
    have hb0:(0:Int)<=(i:Int)-1/\(i:Int)-1<(l.length:Int):=by omega
    have ht0:(l.getD (i-1) tz).1.length<=1000/\fs (l.getD (i-1) tz).2<=1000:=hp3 _ (getDm tz (show i-1<l.length by omega))
    have hpr:(l.getD (i-1) tz).1.length<=1000000/\(l.getD i tz).1.length<=1000000:=by omega
    rw [hsub]
    refine ⟨hi0,hb0,hb,hpr,fun e3=>?_,fun e3=>⟨fun e4=>?_,fun e4=>?_⟩⟩
    ·have e3:=of_decide_eq_true e3
     rw [if_pos e3] at hsn
     rw [hv,scL_at d hn hsn]
     exact ⟨rfl,trivial⟩
    ·have e3:=of_decide_eq_false e3
     have e4:0<cT (l.getD (i-1) tz).1 (l.getD i tz).1:=of_decide_eq_true e4
     rw [if_neg e3,if_pos (by omega)] at hsn
     rw [hv,scL_at d hn hsn]
     exact ⟨rfl,trivial⟩
    ·have e3:=of_decide_eq_false e3
     have e4:¬0<cT (l.getD (i-1) tz).1 (l.getD i tz).1:=of_decide_eq_false e4
     rw [if_neg e3,if_neg (by omega)] at hsn
     refine ⟨hi1,?_⟩
     refine hm _ (i+1) 1 ⟨d,by rw [scL_snoc _ _ _ hn]; exact hsn⟩ (by omega) ?_
     dsimp only [go_sem]
     and_intros<;>first|trivial|rfl|omega
  ·have d:i=l.length:=by omega
   subst d
   clear hm
   have hge:=grpB_el (s,l)
   have hck:=(scL_none.1 hn).1
   have hnn:∀ t∈l,0<=fq t.2:=fun t ht=>(ckT_pr (hck t ht)).2.2.1
   refine ⟨hp,sc_len hn,?_⟩
   rw [hn] at hv
   dsimp only at hv
   change (grpB (s,l)).length<=l.length/\∀ b∈grpB (s,l),b≠[]/\b.length<=l.length/\∀ j∈b,0<=j/\j<(l.length:Int) at hge
   generalize grpB (s,l)=G at hge hv ⊢
   obtain ⟨hg1,hg2⟩:=hge
   have hzg:∀ j,G.getD j (zd (.slice (.int .i64)))=G.getD j []:=fun _=>rfl
   refine hH.loop (fun k:Nat=>⟨[(7,.dat (.int .i64) (k:Int)),(6,.dat (.slice (.slice (.int .i64))) G),(1,.ref 0 0)],[(0,.box 31 (.cons (.dat .str s.1) (.cons (.dat .bool s.2.1) (.cons (.dat (.slice colT) s.2.2) (.cons (.dat (.slice tupT) l) .nil)))))],1⟩) (fun k=>k<=G.length/\∀ j,j<k->bigB (G.getD j [])=false) (fun k=>G.length-k) 0 1 ⟨Nat.zero_le _,fun j h=>absurd h (Nat.not_lt_zero _)⟩ ?_ ?_
   ·dsimp only [go_sem]
    and_intros<;>first|trivial|rfl|omega
   ·rintro k ⟨hk,hz⟩ R hm
    refine hH.run 100 _ _ ?_
    dsimp only [go_sem]
    simp only [Int.toNat_natCast,hzg]
    refine ⟨fun d=>?_,fun d=>?_⟩<;>simp only [decide_eq_true_eq,decide_eq_false_iff_not] at d
    ·have d:k<G.length:=by omega
     have hb:(0:Int)<=(k:Int)/\(k:Int)<(G.length:Int):=by omega
     have hi1:inR .i64 ((k:Int)+1):=by rw [inR_i64]; omega
     have hbe:bigB (G.getD k [])=decide (16<(G.getD k []).length):=rfl
     refine ⟨hb,fun e=>?_,fun e=>⟨hi1,hm _ (k+1) 1 ⟨d,fun j hj=>?_⟩ (by omega) ?_⟩⟩<;>simp only [decide_eq_true_eq,decide_eq_false_iff_not] at e
     ·have e:(16:Int)<((G.getD k []).length:Int):=e
      have hx:G.any bigB=true:=any_at [] d (by rw [hbe]; exact decide_eq_true (by omega))
      rw [hv,if_pos hx]
      exact ⟨rfl,trivial⟩
     ·rcases Nat.lt_or_ge j k with h'|h'
      ·exact hz j h'
      ·have:j=k:=by omega
       have e:¬(16:Int)<((G.getD k []).length:Int):=e
       rw [this,hbe]; exact decide_eq_false (by omega)
     ·dsimp only [go_sem]
      and_intros<;>first|trivial|rfl|omega
    ·have d:k=G.length:=by omega
     subst d
     rw [if_neg (by rw [any_no [] hz]; exact Bool.false_ne_true)] at hv
     clear hm hz
     refine hH.loop (fun k:Nat=>⟨[(8,.dat (.int .i64) (k:Int)),(6,.dat (.slice (.slice (.int .i64))) G),(1,.ref 0 0)],[(0,.box 31 (.cons (.dat .str s.1) (.cons (.dat .bool s.2.1) (.cons (.dat (.slice colT) s.2.2) (.cons (.dat (.slice tupT) l) .nil)))))],1⟩) (fun k=>k<=G.length/\∀ j,j<k->ovrB l (G.getD j [])=false) (fun k=>G.length-k) 0 1 ⟨Nat.zero_le _,fun j h=>absurd h (Nat.not_lt_zero _)⟩ ?_ ?_
     ·dsimp only [go_sem]
      and_intros<;>first|trivial|rfl|omega
     ·rintro k ⟨hk,hz⟩ R hm
      refine hH.run 100 _ _ ?_
      dsimp only [go_sem]
      simp only [Int.toNat_natCast,hzg,fq_qf,fs_qf]
      refine ⟨fun d=>?_,fun d=>?_⟩<;>simp only [decide_eq_true_eq,decide_eq_false_iff_not] at d
      ·have d:k<G.length:=by omega
       have hb:(0:Int)<=(k:Int)/\(k:Int)<(G.length:Int):=by omega
       have hi1:inR .i64 ((k:Int)+1):=by rw [inR_i64]; omega
       obtain ⟨_,hl1,hl2⟩:=hg2 _ (getDm [] d)
       have hbe:ovrB l (G.getD k [])=!(decide (0<=sgQ (sumQ l (G.getD k [])))&&decide (0<=sgQ (1-sumQ l (G.getD k [])))):=by
        have h0:=sumQ_nn hnn hl2
        unfold ovrB
        rw [sgQ_nn,sgQ_nn,decide_eq_true h0,Bool.true_and]
        by_cases h1:0<=1-sumQ l (G.getD k [])
        ·rw [decide_eq_true h1,decide_eq_false (fun h2=>Rat.not_lt.2 h1 (sgQ_lt.1 h2))]; rfl
        ·rw [decide_eq_false h1,decide_eq_true (sgQ_lt.2 (Rat.not_le.1 h1))]; rfl
       have q1:=sumQ_qs (n:=64) hwl (fun t ht=>(hp3 t ht).2) hl2 (by omega)
       have hl3:(G.getD k []).length<=400:=by omega
       refine ⟨hb,hp,hl3,hl2,by omega,fun e=>?_,fun e=>⟨hi1,hm _ (k+1) 1 ⟨d,fun j hj=>?_⟩ (by omega) ?_⟩⟩
       ·have hx:G.any (ovrB l)=true:=any_at [] d (by rw [hbe]; exact e)
        rw [hv,if_pos hx]
        exact ⟨rfl,trivial⟩
       ·rcases Nat.lt_or_ge j k with h'|h'
        ·exact hz j h'
        ·have:j=k:=by omega
         rw [this,hbe]; exact e
       ·dsimp only [go_sem]
        and_intros<;>first|trivial|rfl|omega
      ·have d:k=G.length:=by omega
       subst d
       rw [hv,if_neg (by rw [any_no [] hz]; exact Bool.false_ne_true)]
       exact ⟨rfl,trivial⟩
@[go_sem] noncomputable def ERK:Env:=(ERJ).add 26 rvldS
theorem ERK_ok:ERK.Ok:=(ERJ_ok).add rvld_ok
end Go.Proofs.YtkdglhjocffekabGreat.Gx
