/-
  The reference's Blocks, Remainder, Canonical, Insert.
-/
import Derived.Test.YtkdglhjocffekabGreatRH
namespace Go.Proofs.YtkdglhjocffekabGreat.Gx
open Go Go.RowKit Tw B Nt
set_option linter.unusedVariables false
set_option linter.unusedSimpArgs false
set_option maxHeartbeats 4000000
set_option maxRecDepth 20000
@[go_sem] noncomputable def ERL:Env:=ERK
theorem ERL_ok:ERL.Ok:=ERK_ok
@[go_sem] noncomputable def ERM:Env:=ERL
theorem ERM_ok:ERM.Ok:=ERL_ok
@[go_sem] def rcanS:Spec:=⟨[relT],fun d=>(.dat relT ((d.1.1,d.1.2.map cnT):Rel),[relP d.1])⟩
theorem rcan_ok:SpecOk Tryz.prog 27 rcanS:=by
 refine fn_ok ERM_ok rcanS Tryz.func27 rfl (by decide) (N:=35) rfl (res:=[.cell 2 31]) rfl (by decide) [(1,[(7,.ag)]),(5,[(31,.dt),(1000000,.mx [])])] [(6,[3])] [] 100 (by kernel_rfl) ?_
 rintro ⟨r,_⟩ hw hp
 refine ⟨rfl,fun H hH=>?_⟩
 dsimp only [go_sem] at hw hp ⊢
 obtain ⟨hp,-⟩:=hp
 obtain ⟨s,l⟩:=r
 change List Tup at l
 obtain ⟨hp1,hp2,hp3⟩:=id hp
 change l.length<=400 at hp2
 clear hw
 refine hH.loop (fun i:Nat=>⟨[(4,.dat (.int .i64) (i:Int)),(3,.ref 2 0),(2,.ref 1 0),(1,.ref 0 0)],[(0,.box 31 (.cons (.dat .str s.1) (.cons (.dat .bool s.2.1) (.cons (.dat (.slice colT) s.2.2) (.cons (.dat (.slice tupT) l) .nil))))),(1,.box 31 (zA relT .nil)),(2,.box 31 (.cons (.dat .str s.1) (.cons (.dat .bool s.2.1) (.cons (.dat (.slice colT) s.2.2) (.cons (.own 3) .nil))))),(3,.row 38 tupT ((l.take i).map cnT))],4⟩) (fun i=>i<=l.length) (fun i=>l.length-i) 0 3 (Nat.zero_le _) ?_ ?_
 ·dsimp only [go_sem]
  and_intros<;>first|trivial|rfl|omega
 ·rintro i hi R hm
  refine hH.run 100 _ _ ?_
  dsimp only [go_sem]
  simp only [Int.toNat_natCast]
  have hzt:∀ j,l.getD j (zd tupT)=l.getD j tz:=fun _=>rfl
  simp only [hzt]
  refine ⟨fun d=>?_,fun d=>?_⟩<;>simp only [decide_eq_true_eq,decide_eq_false_iff_not] at d
  ·have d:i<l.length:=by omega
   have hb:(0:Int)<=(i:Int)/\(i:Int)<(l.length:Int):=by omega
   have ht:(l.getD i tz).1.length<=1000/\fs (l.getD i tz).2<=1000:=hp3 _ (getDm tz d)
   have hs:(l.take (i+1)).map cnT=(l.take i).map cnT++[cnT (l.getD i tz)]:=by rw [take_snoc tz d,List.map_append]; rfl
   have hl:((l.take i).map cnT).length=i:=by rw [List.length_map,List.length_take]; omega
   refine ⟨hb,hb,by omega,?_,trivial,by rw [inR_i64]; omega,hH.ren [(0,0),(1,1),(2,2),(3,4)] 4 rfl rfl (Nat.zero_le _) rfl ?_⟩
   ·rw [hl]
    show (i+1)*80<=_
    omega
   ·dsimp only [go_sem]
    refine hm _ (i+1) 4 d (by omega) ?_
    dsimp only [go_sem]
    rw [hs]
    and_intros<;>first|trivial|rfl|omega
  ·have d:i=l.length:=by omega
   subst d
   rw [List.take_length]
   and_intros<;>first|trivial|rfl|omega
@[go_sem] noncomputable def ERN:Env:=(ERM).add 27 rcanS
theorem ERN_ok:ERN.Ok:=(ERM_ok).add rcan_ok
@[go_sem] def xinsS:Spec:=⟨[relT,tupT],fun d=>(.tup (.cons (.dat relT (insR d.1 d.2.1)) (.cons (.dat (.int .i64) (insE d.1 d.2.1)) .nil)),[relP d.1,List.length d.2.1.1<=1000/\fs d.2.1.2<=1000])⟩
theorem xins_ok:SpecOk Tryz.prog 14 xinsS:=by
 refine fn_ok ERN_ok xinsS Tryz.func14 rfl (by decide) (N:=82) rfl (res:=[.cell 4 31,.tmp 5]) rfl (by decide) [(13,[(57,.ag)]),(14,[(66,.dt),(72,.fz 3),(1000000,.mx [(7,6),(8,6),(10,6),(11,6),(12,6),(13,6)])])] [] [] 100 (by kernel_rfl) ?_
 rintro ⟨r,t,_⟩ hw hp
 refine ⟨rfl,fun H hH=>?_⟩
 dsimp only [go_sem] at hw hp ⊢
 obtain ⟨hp,⟨hp4,hp5⟩,-⟩:=hp
 obtain ⟨s,l⟩:=r
 change List Tup at l
 obtain ⟨hp1,hp2,hp3⟩:=id hp
 change l.length<=400 at hp2
 change Tup at t
 change t.1.length<=1000 at hp4
 clear hw
 refine ⟨hp,fun h1=>?_,fun h1=>⟨by omega,fun h2=>?_,fun h2=>⟨hp,hp4,fun h3=>?_,fun h3=>?_⟩⟩⟩
 ·have h1:vldR (s,l)≠0:=of_decide_eq_true h1
  have he:insE (s,l) t=vldR (s,l):=by unfold insE; rw [if_pos h1]
  exact ⟨rfl,rfl,insR_err he h1,rfl,he.symm,trivial⟩
 all_goals have h1:¬vldR (s,l)≠0:=of_decide_eq_false h1
 ·have h2:ckT s t≠0:=of_decide_eq_true h2
  have he:insE (s,l) t=ckT s t:=by unfold insE; rw [if_neg h1,if_pos h2]
  exact ⟨rfl,rfl,insR_err he h2,rfl,he.symm,trivial⟩
 all_goals have h2:¬ckT s t≠0:=of_decide_eq_false h2
 ·have h3:(fdR (l.findIdx? (eqV t.1))).2=true:=h3
  have he:insE (s,l) t=8:=by unfold insE; rw [if_neg h1,if_neg h2,if_pos h3]
  exact ⟨rfl,rfl,insR_err he (by decide),rfl,he.symm,trivial⟩
 have h3:¬(fdR (l.findIdx? (eqV t.1))).2=true:=fun e=>Bool.noConfusion (h3.symm.trans e)
 refine hH.loop (fun i:Nat=>⟨[(10,.dat (.int .i64) (i:Int)),(2,.ref 0 0),(3,.ref 1 0),(4,.ref 2 0)],[(0,.box 31 (.cons (.dat .str s.1) (.cons (.dat .bool s.2.1) (.cons (.dat (.slice colT) s.2.2) (.cons (.dat (.slice tupT) l) .nil))))),(1,.box 38 (.cons (.dat (.slice valT) t.1) (.cons (.dat .bool t.2.1) (.cons (.dat (.slice (.int .u32)) t.2.2.1) (.cons (.dat (.slice (.int .u32)) t.2.2.2) .nil))))),(2,.box 31 (zA relT .nil))],3⟩) (fun i=>i<=l.length/\∀ j,j<i->cT (l.getD j tz).1 t.1<0) (fun i=>l.length-i) 0 3 ⟨Nat.zero_le _,fun j h=>absurd h (Nat.not_lt_zero _)⟩ ?_ ?_
 ·dsimp only [go_sem]
  and_intros<;>first|trivial|rfl|omega
 ·rintro i ⟨hi,hz⟩ R hm
  refine hH.run 100 _ _ ?_
  dsimp only [go_sem]
  simp only [Int.toNat_natCast,imp_self,true_and]
  have hzt:∀ j,l.getD j (zd tupT)=l.getD j tz:=fun _=>rfl
  simp only [hzt]
  refine ⟨fun d=>?_,fun d=>?_,fun d=>?_,fun d=>?_⟩
  ·have d:(i:Int)<(l.length:Int):=of_decide_eq_true d
   show (0:Int)<=(i:Int)/\(i:Int)<(l.length:Int)
   omega
  ·have d:(i:Int)<(l.length:Int):=of_decide_eq_true d
   have ht:(l.getD i tz).1.length<=1000/\fs (l.getD i tz).2<=1000:=hp3 _ (getDm tz (show i<l.length by omega))
   show (l.getD i tz).1.length<=1000000/\t.1.length<=1000000
   omega
  ·simp only [Bool.and_eq_true,decide_eq_true_eq] at d
   have d1:(i:Int)<(l.length:Int):=d.1
   have hi1:inR .i64 ((i:Int)+1):=by rw [inR_i64]; omega
   refine ⟨hi1,hm _ (i+1) 3 ⟨by omega,fun j hj=>?_⟩ (by omega) ?_⟩
   ·rcases Nat.lt_or_ge j i with h'|h'
    ·exact hz j h'
    ·have:j=i:=by omega
     rw [this]; exact d.2
   ·dsimp only [go_sem]
    and_intros<;>first|trivial|rfl|omega
  ·have hpos:posT l t.1=i:=posT_eq hi hz fun hlt=>by
     rw [Bool.and_eq_false_iff] at d
     rcases d with d|d
     ·have d:¬(i:Int)<(l.length:Int):=of_decide_eq_false d
      omega
     ·exact Int.not_lt.1 (of_decide_eq_false d)
   have hv:vldP s l:=vld_iff.1 (Decidable.not_not.1 h1)
   have hn:∀ u∈l,u.1≠t.1:=fd_none.1 (by simpa using h3)
   have hin:=vld_ins hv (Decidable.not_not.1 h2) hn
   have hit:insT l t=insL l i [t]:=by unfold insT; rw [hpos]
   have hlv:l.length<=64:=hv.2.1
   have hrp:relP (s,insT l t):=⟨hp1,by rw [insT_len]; omega,fun u hu=>by
    rcases insT_mem.1 hu with rfl|hu
    ·exact ⟨hp4,hp5⟩
    ·exact hp3 u hu⟩
   have he:insE (s,l) t=insO s l t:=by unfold insE insO; rw [if_neg h1,if_neg h2,if_neg h3]
   rw [hit] at hin hrp
   have hb:(0:Int)<=(i:Int)/\(i:Int)<=(l.length:Int):=by omega
   have l1:(l.take i).length<=400:=by rw [List.length_take]; omega
   have l2:(l.drop i).length<=400:=by rw [List.length_drop]; omega
   have l3:(l.take i++[t]).length<=401:=by rw [List.length_append]; show _+1<=_; omega
   refine ⟨hb,by omega,?_,hb,by omega,hrp,fun h4=>?_,fun h4=>?_⟩
   ·show (_+1)*80<=_
    omega
   ·have h4:vldR (s,insL l i [t])≠0:=of_decide_eq_true h4
    rw [hin] at h4
    have hv:vldR (s,l.take i++[t]++l.drop i)=insO s l t:=hin
    rw [hv]
    exact ⟨insR_err he h4,he.symm,trivial⟩
   ·have h4:¬vldR (s,insL l i [t])≠0:=of_decide_eq_false h4
    rw [hin] at h4
    have h4:insO s l t=0:=Decidable.not_not.1 h4
    have he:insE (s,l) t=0:=he.trans h4
    refine ⟨hrp,?_,he.symm,trivial⟩
    unfold insR
    rw [if_neg (by rw [he]; simp),hpos]
    show (s,(insL l i [t]).map cnT)=(s,insL (l.map cnT) i [cnT t])
    unfold insL
    rw [List.map_append,List.map_append,List.map_take,List.map_drop]
    rfl
@[go_sem] noncomputable def ERO:Env:=(ERN).add 14 xinsS
theorem ERO_ok:ERO.Ok:=(ERN_ok).add xins_ok
end Go.Proofs.YtkdglhjocffekabGreat.Gx
